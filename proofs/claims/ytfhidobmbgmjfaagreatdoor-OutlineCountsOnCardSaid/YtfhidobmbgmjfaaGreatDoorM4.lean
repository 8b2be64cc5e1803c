/- The library's sorts of items, as contracts of this framework. -/
import Derived.Test.YtfhidobmbgmjfaaGreatDoorM1
import Derived.Test.YtfhidobmbgmjfaaGreatDoorM2
import Derived.Test.YtfhidobmbgmjfaaGreatDoorM3
import Derived.Shelf.SlSortCmp.NoneTotal
import Derived.Shelf.Unicode.ValidAny
import Derived.Shelf.Strconv.AtoiAll
section
set_option linter.unusedVariables false
set_option linter.unusedSimpArgs false
set_option maxRecDepth 100000
namespace Go.Ch
open Go Go.Proofs Go.Ab Go.RowKit Go.Shelf Go.Sort
instance:Inhabited CIt:=⟨(default,⟨.bool false,rfl⟩)⟩
theorem dit_elt{l:List DItem}:∀x∈l.map ditT,Elt 4 x:=fun x hx=>by
 obtain⟨r,_,rfl⟩:=List.mem_map.1 hx
 exact⟨rfl,fun T hT=>by simp only[ditT,Tree.cells,List.mem_cons,List.not_mem_nil,or_false] at hT;rcases hT with rfl|rfl|rfl|rfl<;>rfl⟩
theorem flat_dit(l:List DItem)(t:Nat)(ht:t<l.length*4):(flat (l.map ditT))[t]? =(ditT (l[t/4]'(by omega))).cells[t%4]? :=by
 have hi:t/4<l.length:=by omega
 have h1:=flat_get (k:=4) (xs:=l.map ditT) (i:=t/4) (X:=ditT l[t/4]) dit_elt (by rw[List.getElem?_map,List.getElem?_eq_getElem hi];rfl) (j:=t%4) (by omega)
 rwa [show t/4*4+t%4=t by omega] at h1
theorem fc_sortD (g : Nat) (cm : DItem → DItem → Int) (hg : ∀ args w, (callFunc g args).run Tryz.prog w = .ok (.enter g args) w)
    (hw : ∀ (x y : CIt) (W : World), Calls Tryz.prog g #[.agg (encD x).toArray, .agg (encD y).toArray] W fun e w' => e = .returned (.int .i64 (cm x.1 y.1)) ∧ ∃ q os', w' = grow (W.drewN q) os')
    (hO : SWO (ltOf fun x y : CIt => cm x.1 y.1)) (asym : ∀ a b, cm a b < 0 → ¬ cm b a < 0) (tot : ∀ a b, a.item ≠ b.item → ¬ cm b a < 0 → cm a b < 0)
    (l l' : List DItem) (hn : l.length ≤ 100000000000) (hu : UniqI DItem.item l) (hp : l'.Perm l) (hs : l'.Pairwise fun a b => cm a b < 0) :
    FC Tryz.prog 146 [.row 0 l.length, .fn g []] (app emp [(0, .row 4 false (l.map ditT))]) (.tup []) (app emp [(0, .row 4 false (l'.map ditT))]) := by
  intro F m w xs hS hl hv
  match xs, hl with
  | [x0, x1], _ =>
  have v0 := hv 0 _ _ rfl rfl
  have v1 := hv 1 _ _ rfl rfl
  have hs0 : app emp [(0, Ob.row 4 false (l.map ditT))] 0 = some (.row 4 false (l.map ditT)) := rfl
  obtain ⟨a1, a2, a3, a4, a5⟩ := hS.objs 0 _ hs0
  have hlen := hp.length_eq
  cases v1 with
  | fn _ _ us hlu _ =>
  obtain rfl : us = [] := List.length_eq_zero_iff.1 hlu
  cases v0 with
  | rowG _ _ L hs' => rw [hs0] at hs'; cases hs'
  | row _ _ k' fz' xs' L hs' hn' hu' =>
  rw [hs0] at hs'; cases hs'
  have hL := hu' (by simp)
  rw [hL] at a3 a4 a5
  rcases a5 with ⟨q1, q2⟩ | ⟨b, us, e, h1, h2, h3, h4, h5⟩
  · obtain ⟨L1, L2⟩ := L
    simp only at q1 q2
    subst q1 q2
    obtain rfl : l = [] := List.length_eq_zero_iff.1 (by have a3' : (List.map ditT l).length ≤ 0 := a3; rw [List.length_map] at a3'; omega)
    obtain rfl : l' = [] := List.length_eq_zero_iff.1 hlen
    have key := AnyF.slices_SortFunc_none Tryz.sortP none 0 (.func (.func g) #[] #[]) w
    change Calls Tryz.prog 146 _ _ _ at key
    refine key.mono ?_
    rintro e' w' ⟨rfl, rfl⟩
    exact ⟨_, m, rfl, hS, FrameExt.refl F _ m _, .tup [] [] rfl (fun i v u hv => by simp at hv)⟩
  · have hb : b < w.heap.size := (Array.getElem?_eq_some_iff.1 h2).1
    have hsz : l.length * 4 ≤ us.size := by rw [h3]; simp at a3; omega
    have hcell : ∀ (W : World) (c : Array Value) (o : Nat), W.heap[b]? = some (.cells c e (0, 0)) → W.cell? ⟨b, o, none⟩ = c[o]? := fun W c o h => by
      unfold World.cell?; simp only [h]; rfl
    let cl : List CIt := List.ofFn (n := l.length) fun i => (l[i.1], ⟨us[i.1 * 4 + 3]'(by have := i.2; omega), h4 _ _ (Array.getElem?_eq_getElem (by have := i.2; omega))⟩)
    have hcl : cl.length = l.length := by simp [cl]
    have hci : ∀ (i : Nat) (hi : i < cl.length), cl[i] = (l[i]'(by omega), ⟨us[i * 4 + 3]'(by omega), h4 _ _ (Array.getElem?_eq_getElem (by omega))⟩) := fun i hi => by simp [cl]
    have hmap : cl.map (·.1) = l := by
      apply List.ext_getElem (by simp [hcl])
      intro i h1 h2
      rw [List.getElem_map, hci i (by omega)]
    have hcu : ∀ (j : Nat), (hj : j < l.length * 4) → us[j]? = some ((encD (cl[j / 4]'(by omega)))[j % 4]!) := fun j hj => by
      have hT := flat_dit l j hj
      have hu : us[j]? = some us[j] := Array.getElem?_eq_getElem (by omega)
      rw [hu, hci (j / 4) (by omega)]
      have h4 : j % 4 = 0 ∨ j % 4 = 1 ∨ j % 4 = 2 ∨ j % 4 = 3 := by omega
      rcases h4 with h | h | h | h
      · rw [h] at hT ⊢; have := h5 j _ _ hT hu
        generalize us[j] = u at *
        cases this; rfl
      · rw [h] at hT ⊢; have := h5 j _ _ hT hu
        generalize us[j] = u at *
        cases this; rfl
      · rw [h] at hT ⊢; have := h5 j _ _ hT hu
        generalize us[j] = u at *
        cases this; rfl
      · rw [h]
        have e : j / 4 * 4 + 3 = j := by omega
        simp only [encD, e]; rfl
    have hat : ∀ p ∈ cl, TRep w (okB F (app emp [(0, Ob.row 4 false (l.map ditT))]) m w) (TL 2 attrT p.1.attrs) p.2.1 := fun p hp => by
      obtain ⟨i, hi, rfl⟩ := List.mem_iff_getElem.1 hp
      rw [hci i hi]
      have hT := flat_dit l (i * 4 + 3) (by omega)
      have e1 : (i * 4 + 3) / 4 = i := by omega
      have e2 : (i * 4 + 3) % 4 = 3 := by omega
      simp only [e1, e2] at hT
      exact h5 (i * 4 + 3) _ _ hT (Array.getElem?_eq_getElem (by omega))
    have hH : HoldsK encD 4 w b 0 cl.toArray := fun j hj => by
      rw [size_flatK] at hj
      have hj' : j < l.length * 4 := by simpa [hcl] using hj
      refine ⟨?_, ?_⟩
      · rw [hcell w us _ h2, Nat.zero_add, hcu j hj', get_flatK encD 4 cl.toArray j hj]
        rw [getElem!_pos cl.toArray (j / 4) (by simp [hcl]; omega)]
        simp
      · unfold World.frozen?; simp only [h2]; simp
    have key := AnyQ.slices_SortFunc (α := CIt) Tryz.sortP 4 Tryz.isAgg166 Tryz.sizeOf166 encD (fun _ => rfl) (fun x v hv => by
        simp only [encD, List.mem_cons, List.not_mem_nil, or_false] at hv; rcases hv with rfl | rfl | rfl | rfl; rfl; rfl; rfl; exact x.2.2) (fun x y => cm x.1 y.1) hO g #[] b 0 L.2 cl.toArray w hg
      (fun m' os' dk _ x y => hw x y _) hH hb (by simp [hcl]; omega)
    change Calls Tryz.prog 146 _ _ _ at key
    obtain ⟨L1, L2⟩ := L
    simp only at h1
    subst h1
    have ea : (#[Value.slice (some ⟨b, 0, none⟩) cl.toArray.size L2, .func (.func g) #[] #[]] : Array Value) = [rowVal (some b, L2) l.length, .func (.func g) #[] [].toArray].toArray := by simp [rowVal, hcl]
    rw [ea] at key
    refine key.mono ?_
    rintro e' w' ⟨rfl, D, n, os, hpi, hso, rfl⟩
    unfold sortWorldK
    obtain ⟨p1, p2, p3⟩ := hpi
    have hDp : D.toList.Perm cl := by
      have e1 : D.extract 0 cl.toArray.size = D := by rw [← p1]; exact Array.extract_size
      rw [e1, show cl.toArray.extract 0 cl.toArray.size = cl.toArray from Array.extract_size] at p3
      simpa using p3
    have hDl : D.toList.map (·.1) = l' := by
      refine perm_strict (R := fun a b => cm a b < 0) asym ((hDp.map _).trans (by rw [hmap]; exact hp.symm)) ?_ hs
      rw [List.pairwise_map, List.pairwise_iff_getElem]
      intro i j hi hj hij
      have hDs : D.size = cl.length := by simpa using p1
      have := hso i j (Nat.zero_le _) hij (by rw [← p1]; simpa using hj)
      unfold ltOf at this
      rw [getElem!_pos D i (by simpa using hi), getElem!_pos D j (by simpa using hj)] at this
      simp only [decide_eq_false_iff_not] at this
      have hne : (D.toList[i]).1.item ≠ (D.toList[j]).1.item := by
        have hnd : (D.toList.map fun p => p.1.item).Nodup := by
          have := (hDp.map fun p : CIt => p.1.item).nodup_iff.2 (by have h : cl.map (fun p => p.1.item) = l.map DItem.item := by rw [← hmap, List.map_map]; rfl
                                                                    rw [h]; exact hu)
          exact this
        intro he
        have := (List.getElem_inj (i := i) (j := j) (h₀ := by simpa using hi) (h₁ := by simpa using hj) hnd).1 (by simpa using he)
        omega
      exact tot _ _ hne (by simpa using this)
    have hDn : D.size = l'.length := by rw [← hDl]; simp
    have hblk : (putRowK encD 4 (Sort.ahead w n) b 0 D).heap[b]? = some (.cells (putCells id 0 (flatK encD 4 D) us) e (0, 0)) := mapB_at _ h2
    have hDi : ∀ (i : Nat) (hi : i < D.size), D[i].1 = l'[i]'(by omega) := fun i hi => by
      have : (D.toList.map (·.1))[i]'(by simpa using hi) = l'[i]'(by omega) := by simp only [hDl]
      simpa using this
    have hone : ∀ j, j < D.size * 4 → ((flatK encD 4 D)[j]!).oneCell' = true := fun j hj => by
      rw [get_flatK encD 4 D j hj]
      have h4 : j % 4 = 0 ∨ j % 4 = 1 ∨ j % 4 = 2 ∨ j % 4 = 3 := by omega
      rcases h4 with h | h | h | h <;> rw [h]
      · rfl
      · rfl
      · rfl
      · exact (D[j / 4]!).2.2
    have hcu2 : ∀ (j : Nat) (u : Value), (putCells id 0 (flatK encD 4 D) us)[j]? = some u → (j < D.size * 4 ∧ u = (flatK encD 4 D)[j]!) ∨ (¬ j < D.size * 4 ∧ us[j]? = some u) := fun j u hu => by
      unfold putCells at hu
      rw [Array.getElem?_mapIdx, Option.map_eq_some_iff] at hu
      obtain ⟨x, hx, hxu⟩ := hu
      rw [size_flatK] at hxu
      split at hxu
      · rename_i hc
        exact .inl ⟨by omega, by rw [← hxu]; rfl⟩
      · rename_i hc
        exact .inr ⟨fun hj => hc ⟨Nat.zero_le _, by omega⟩, by rw [hx, hxu]⟩
    have r := rewrite_obj (o' := .row 4 false (l'.map ditT)) hS hs0 rfl (by rw [hL]) (w' := putRowK encD 4 (Sort.ahead w n) b 0 D) rfl rfl rfl
      (by show (w.heap.modify b _).size = _; simp) (fun c hc => mapB_ne (w := Sort.ahead w n) _ hc) (by simp only [Ob.len, List.length_map]; omega) (by simp [Ob.same]) (fun hF => by
        rw [hL]
        refine ⟨a1, dit_elt, by simp only [List.length_map] at a3 ⊢; omega, a4, .inr ⟨b, _, e, rfl, hblk, ?_, fun j u hu => ?_, fun j T u hT hu => ?_⟩⟩
        · unfold putCells; rw [Array.size_mapIdx]; exact h3
        · rcases hcu2 j u hu with ⟨hj, rfl⟩ | ⟨_, hu⟩
          · exact hone j hj
          · exact h4 j u hu
        · have hj : j < l'.length * 4 := by
            have := (List.getElem?_eq_some_iff.1 hT).1
            rw [flat_len dit_elt, List.length_map] at this; exact this
          rcases hcu2 j u hu with ⟨hj2, rfl⟩ | ⟨hno, _⟩
          · rw [flat_dit l' j hj] at hT
            rw [get_flatK encD 4 D j hj2, getElem!_pos D (j / 4) (by omega)]
            have hi := hDi (j / 4) (by omega)
            rw [← hi] at hT
            have h4 : j % 4 = 0 ∨ j % 4 = 1 ∨ j % 4 = 2 ∨ j % 4 = 3 := by omega
            rcases h4 with h | h | h | h <;> rw [h] at hT ⊢
            · cases hT; exact .sc _ rfl
            · cases hT; exact .sc _ rfl
            · cases hT; exact .sc _ rfl
            · cases hT
              exact hF.tree (hat _ (hDp.subset (by simp)))
          · exact absurd (by omega) hno)
    rw [upd_app] at r
    obtain ⟨g1, g2⟩ := grow_obj r.1 os
    exact ⟨_, m, rfl, g1, FrameExt.trans hS r.2 g2, .tup [] [] rfl (fun i v u hv => by simp at hv)⟩
end Go.Ch
end
section
set_option linter.unusedVariables false
set_option linter.unusedSimpArgs false
set_option maxRecDepth 100000
namespace Go.Ch
open Go Go.Ab
variable {α:Type}
def insO(lt:α→α→Bool)(x:α):List α→List α
 | []=>[x]
 |y::l=>if lt x y then x::y::l else y::insO lt x l
def srtO(lt:α→α→Bool)(l:List α):List α:=l.foldr (insO lt) []
theorem insO_perm(lt:α→α→Bool)(x:α):∀l,(insO lt x l).Perm (x::l)
 | []=> .refl _
 |y::l=>by
  simp only[insO]
  split
  ·exact .refl _
  ·exact((insO_perm lt x l).cons y).trans (List.Perm.swap x y l)
theorem srtO_perm(lt:α→α→Bool):∀l,(srtO lt l).Perm l
 | []=> .refl _
 |x::l=>(insO_perm lt x _).trans ((srtO_perm lt l).cons x)
theorem insO_sorted{lt:α→α→Bool}(tr:∀a b c,lt a b=true→lt b c=true→lt a c=true){x:α}:∀{l:List α},l.Pairwise (fun a b=>lt a b=true)→(∀y∈l,lt x y=true∨lt y x=true)→(insO lt x l).Pairwise fun a b=>lt a b=true
 | [],_,_=>by simp[insO]
 |y::l,h,ht=>by
  simp only[insO]
  obtain⟨h1,h2⟩:=List.pairwise_cons.1 h
  split
  ·rename_i hx
   refine List.pairwise_cons.2 ⟨fun z hz=> ?_,h⟩
   rcases List.mem_cons.1 hz with rfl|hz
   ·exact hx
   ·exact tr _ _ _ hx (h1 z hz)
  ·rename_i hx
   refine List.pairwise_cons.2 ⟨fun z hz=> ?_,insO_sorted tr h2 (fun z hz=>ht z (List.mem_cons_of_mem _ hz))⟩
   rcases List.mem_cons.1 ((insO_perm lt x l).subset hz) with rfl|hz
   ·exact(ht y List.mem_cons_self).resolve_left hx
   ·exact h1 z hz
theorem srtO_sorted{lt:α→α→Bool}(tr:∀a b c,lt a b=true→lt b c=true→lt a c=true):∀{l:List α},l.Pairwise (fun a b=>lt a b=true∨lt b a=true)→(srtO lt l).Pairwise fun a b=>lt a b=true
 | [],_=>List.Pairwise.nil
 |x::l,h=>by
  obtain⟨h1,h2⟩:=List.pairwise_cons.1 h
  exact insO_sorted tr (srtO_sorted tr h2) (fun y hy=>h1 y ((srtO_perm lt l).subset hy))
def ltP(a b:DItem):Bool:=slt a.place b.place|| (decide (a.place=b.place)&&decide (a.item<b.item))
def ltN(a b:DItem):Bool:=decide (a.item<b.item)
theorem ltP_iff{a b:DItem}:ltP a b=true↔slt a.place b.place=true∨(a.place=b.place∧a.item<b.item):=by unfold ltP;simp
theorem ltP_trans(a b c:DItem)(h:ltP a b=true)(k:ltP b c=true):ltP a c=true:=by
 rw[ltP_iff] at*
 rcases h with h| ⟨h1,h2⟩<;>rcases k with k| ⟨k1,k2⟩
 ·exact .inl (slt_trans h k)
 ·exact .inl (by rw[←k1];exact h)
 ·exact .inl (by rw[h1];exact k)
 ·exact .inr ⟨h1.trans k1,by omega⟩
theorem ltP_tot{a b:DItem}(h:a.item≠b.item):ltP a b=true∨ltP b a=true:=by
 rw[ltP_iff,ltP_iff]
 cases h1:slt a.place b.place with
 |true=>exact .inl (.inl rfl)
 |false=>
  cases h2:slt b.place a.place with
  |true=>exact .inr (.inl rfl)
  |false=>
   have:=slt_tri h1 h2
   by_cases hlt:a.item<b.item
   ·exact .inl (.inr ⟨this,hlt⟩)
   ·exact .inr (.inr ⟨this.symm,by omega⟩)
theorem ltP_asym{a b:DItem}(h:ltP a b=true):¬ltP b a=true:=fun k=>by
 have:=ltP_trans a b a h k
 rw[ltP_iff] at this
 rcases this with h| ⟨_,h⟩
 ·rw[slt_irr] at h;cases h
 ·omega
theorem cmpS_def(x y:ByteArray):cmpS x y=if slt x y=true then-1 else if seq x y=true then 0 else 1:=rfl
theorem cmpP_lt{a b:DItem}:cmpP a b<0↔ltP a b=true:=by
 unfold cmpP
 rw[orL_two,cmpS_def,ltP_iff]
 unfold cmpI
 cases h1:slt a.place b.place with
 |true=>simp
 |false=>
  cases h2:seq a.place b.place with
  |true=>
   rw[seq_iff] at h2
   simp only[h2,true_and]
   constructor
   ·intro h;right;simp at h;split at h<;>(try split at h)<;>omega
   ·rintro(h|h)
    ·cases h
    ·simp[h]
  |false=>
   have hne:=seq_no.1 h2
   simp[hne]
theorem uniq_pair{l:List DItem}(hu:UniqI DItem.item l){R:DItem→DItem→Prop}(h:∀a b,a.item≠b.item→R a b):l.Pairwise R:=by
 unfold UniqI at hu
 rw[List.nodup_iff_pairwise_ne,List.pairwise_map] at hu
 exact hu.imp (fun {a b} hab=>h a b hab)
def srtP(l:List DItem):List DItem:=srtO ltP l
def srtN(l:List DItem):List DItem:=srtO ltN l
theorem srtP_sorted{l:List DItem}(hu:UniqI DItem.item l):(srtP l).Pairwise fun a b=>ltP a b=true:=srtO_sorted ltP_trans (uniq_pair hu fun a b h=>ltP_tot h)
theorem ltN_trans(a b c:DItem)(h:ltN a b=true)(k:ltN b c=true):ltN a c=true:=by unfold ltN at*;simp at*;omega
theorem srtN_sorted{l:List DItem}(hu:UniqI DItem.item l):(srtN l).Pairwise fun a b=>ltN a b=true:=srtO_sorted ltN_trans (uniq_pair hu fun a b h=>by unfold ltN;simp;omega)
theorem srtP_eq{l l':List DItem}(h:l.Perm l')(hu:UniqI DItem.item l):srtP l=srtP l':=by
 have hu':UniqI DItem.item l':=by unfold UniqI at*;exact(h.map _).nodup_iff.1 hu
 exact perm_strict (R:=fun a b=>ltP a b=true) (fun a b=>ltP_asym) (((srtO_perm ltP l).trans h).trans (srtO_perm ltP l').symm) (srtP_sorted hu) (srtP_sorted hu')
theorem srtN_eq{l l':List DItem}(h:l.Perm l')(hu:UniqI DItem.item l):srtN l=srtN l':=by
 have hu':UniqI DItem.item l':=by unfold UniqI at*;exact(h.map _).nodup_iff.1 hu
 exact perm_strict (R:=fun a b=>ltN a b=true) (fun a b h k=>by unfold ltN at h k;simp at h k;omega) (((srtO_perm ltN l).trans h).trans (srtO_perm ltN l').symm) (srtN_sorted hu) (srtN_sorted hu')
open Go.Sort in
theorem fc_sortP(l:List DItem)(hn:l.length≤100000000000)(hu:UniqI DItem.item l):FC Go.Proofs.Tryz.prog 146 [.row 0 l.length,.fn 147 []] (app emp [(0,.row 4 false (l.map ditT))]) (.tup []) (app emp [(0,.row 4 false ((srtP l).map ditT))]):=by
 refine fc_sortD 147 cmpP (Go.Proofs.enters_of Go.Proofs.Tryz.func147 (by kernel_rfl) rfl) raw1_w ⟨fun x=> ?_,fun x y z h k=> ?_,fun x y z h k=> ?_⟩ (fun a b h k=> ?_) (fun a b h k=> ?_) l (srtP l) hn hu (srtO_perm ltP l) ((srtP_sorted hu).imp (fun {a b} h=>cmpP_lt.2 h))
 ·unfold Go.Proofs.ltOf;simp only[decide_eq_false_iff_not];rw[cmpP_lt];exact fun h=>ltP_asym h h
 ·unfold Go.Proofs.ltOf at*;simp only[decide_eq_true_eq] at*;rw[cmpP_lt] at*;exact ltP_trans _ _ _ h k
 ·unfold Go.Proofs.ltOf at*;simp only[decide_eq_false_iff_not] at*;rw[cmpP_lt] at*
  intro q
  rw[ltP_iff] at h k q
  simp only[not_or,not_and,Bool.not_eq_true,Int.not_lt] at h k
  rcases q with q| ⟨q1,q2⟩
  ·cases h1:slt y.1.place x.1.place with
   |true=>have:=slt_trans h1 q;rw[k.1] at this;cases this
   |false=>have e:=slt_tri h1 h.1;rw[←e,k.1] at q;cases q
  ·cases h1:slt y.1.place x.1.place with
   |true=>rw[q1,k.1] at h1;cases h1
   |false=>
    have e:=slt_tri h1 h.1
    have:=h.2 e.symm
    have:=k.2 (e.trans q1)
    omega
 ·rw[cmpP_lt] at*;exact ltP_asym h k
 ·rw[cmpP_lt] at*;exact(ltP_tot h).resolve_right k
theorem cmpN_lt{a b:DItem}:cmpN a b<0↔ltN a b=true:=by
 unfold cmpN cmpI ltN
 simp only[decide_eq_true_eq]
 split<;>(try split)<;>omega
open Go.Sort in
theorem fc_sortN(l:List DItem)(hn:l.length≤100000000000)(hu:UniqI DItem.item l):FC Go.Proofs.Tryz.prog 146 [.row 0 l.length,.fn 151 []] (app emp [(0,.row 4 false (l.map ditT))]) (.tup []) (app emp [(0,.row 4 false ((srtN l).map ditT))]):=by
 refine fc_sortD 151 cmpN (Go.Proofs.enters_of Go.Proofs.Tryz.func151 (by kernel_rfl) rfl) raw3_w ⟨fun x=> ?_,fun x y z h k=> ?_,fun x y z h k=> ?_⟩ (fun a b h k=> ?_) (fun a b h k=> ?_) l (srtN l) hn hu (srtO_perm ltN l) ((srtN_sorted hu).imp (fun {a b} h=>cmpN_lt.2 h))
 ·unfold Go.Proofs.ltOf;simp only[decide_eq_false_iff_not];rw[cmpN_lt];unfold ltN;simp
 ·unfold Go.Proofs.ltOf at*;simp only[decide_eq_true_eq] at*;rw[cmpN_lt] at*;exact ltN_trans _ _ _ h k
 ·unfold Go.Proofs.ltOf at*;simp only[decide_eq_false_iff_not] at*;rw[cmpN_lt] at*;unfold ltN at*;simp at*;omega
 ·rw[cmpN_lt] at*;unfold ltN at*;simp at*;omega
 ·rw[cmpN_lt] at*;unfold ltN at*;simp at*;omega
end Go.Ch
end
section
set_option linter.unusedVariables false
set_option linter.unusedSimpArgs false
set_option maxRecDepth 100000
namespace Go.Ch
open Go Go.Ab
def kidsI(its:List DItem)(p:Int):List DItem:=srtP (its.filter fun x=>x.parent==p)
def walkI(its:List DItem):Nat→Int→List DItem
 |0,_=>[]
 |n+1,p=>(kidsI its p).flatMap fun x=>x::walkI its n x.item
theorem kidsI_mem{its:List DItem}{p:Int}{x:DItem}:x∈kidsI its p↔x∈its∧x.parent=p:=by
 unfold kidsI srtP
 rw[(srtO_perm ltP _).mem_iff,List.mem_filter]
 simp
structure Its(its:List DItem)(r:Int→Nat):Prop where
 rk:Rk its r
 uq:UniqI DItem.item its
 pos:∀x∈its,0<x.item
variable {its:List DItem} {r:Int→Nat}
inductive Dn (its:List DItem) (p:Int):Int→Prop
 |base:Dn its p p
 |step (x:DItem) (hx:x∈its) (h:Dn its p x.parent):Dn its p x.item
theorem Dn.inv(h:Its its r){a k:Int}(hd:Dn its a k){x:DItem}(hx:x∈its)(e:x.item=k)(hne:a≠k):Dn its a x.parent:=by
 cases hd with
 |base=>exact absurd rfl hne
 |step y hy hb=>rw[h.uq.uniq x hx y hy e];exact hb
theorem Dn.comp(h:Its its r){a b k:Int}(ha:Dn its a k)(hb:Dn its b k):Dn its a b∨Dn its b a:=by
 induction ha with
 |base=>exact .inr hb
 |step x hx ha ih=>
  by_cases e:b=x.item
  ·subst e;exact .inl (.step x hx ha)
  ·exact ih (hb.inv h hx rfl e)
theorem Dn.rank(h:Its its r){a k:Int}(ha:0<a)(hd:Dn its a k):0<k∧r a≤r k:=by
 induction hd with
 |base=>exact⟨ha,Nat.le_refl _⟩
 |step x hx hd ih=>have:=h.rk x hx ih.1;exact⟨h.pos x hx,by omega⟩
theorem Dn.trans{a b c:Int}(h:Dn its a b)(k:Dn its b c):Dn its a c:=by
 induction k with
 |base=>exact h
 |step x hx _ ih=>exact .step x hx ih
theorem Dn.noback(h:Its its r){x:DItem}(hx:x∈its)(hp:0≤x.parent)(hd:Dn its x.item x.parent):False:=by
 obtain⟨h1,h2⟩:=hd.rank h (h.pos x hx)
 have:=h.rk x hx h1
 omega
theorem walkI_below:∀(n:Nat) {p:Int} {y:DItem},y∈walkI its n p→y∈its∧Dn its p y.parent
 |0,p,y,hy=>by simp[walkI] at hy
 |n+1,p,y,hy=>by
  simp only[walkI,List.mem_flatMap,List.mem_cons] at hy
  obtain⟨x,hx,hy⟩:=hy
  obtain⟨h1,h2⟩:=kidsI_mem.1 hx
  rcases hy with rfl|hy
  ·exact⟨h1,h2▸ .base⟩
  ·obtain⟨q1,q2⟩:=walkI_below n hy
   exact⟨q1,Dn.trans (.step x h1 (h2▸ .base)) q2⟩
theorem walkI_item{n:Nat}{p:Int}{y:DItem}(hy:y∈walkI its n p):Dn its p y.item:= .step y (walkI_below n hy).1 (walkI_below n hy).2
theorem filter_uniq{l:List DItem}(h:UniqI DItem.item l)(q:DItem→Bool):UniqI DItem.item (l.filter q):=by
 unfold UniqI at*
 exact h.sublist (List.filter_sublist.map _)
theorem kidsI_uniq(h:Its its r)(p:Int):UniqI DItem.item (kidsI its p):=by
 have:=filter_uniq h.uq (fun x=>x.parent==p)
 unfold UniqI kidsI srtP at*
 exact((srtO_perm ltP _).map _).nodup_iff.2 this
theorem walkI_nodup(h:Its its r):∀(n:Nat) {p:Int},0≤p→((walkI its n p).map DItem.item).Nodup
 |0,p,_=>by simp[walkI]
 |n+1,p,hp=>by
  simp only[walkI]
  have hu:=kidsI_uniq h p
  have hk:∀x∈kidsI its p,x∈its∧x.parent=p:=fun x hx=>kidsI_mem.1 hx
  generalize kidsI its p=l at*
  induction l with
  |nil=>simp
  |cons x l ih=>
   obtain⟨h1,h2⟩:=hk x List.mem_cons_self
   simp only[UniqI,List.map_cons,List.nodup_cons] at hu
   simp only[List.flatMap_cons,List.map_append,List.map_cons]
   rw[List.nodup_append]
   refine⟨List.nodup_cons.2 ⟨fun hm=> ?_,walkI_nodup h n (Int.le_of_lt (h.pos x h1))⟩,ih hu.2 (fun y hy=>hk y (List.mem_cons_of_mem _ hy)),fun a ha b hb e=> ?_⟩
   ·obtain⟨y,hy,e⟩:=List.mem_map.1 hm
    obtain⟨q1,q2⟩:=walkI_below n hy
    have:=h.uq.uniq y q1 x h1 e
    subst this
    exact Dn.noback h h1 (by omega) q2
   ·subst e
    obtain⟨y,hy,rfl⟩:=List.mem_map.1 hb
    simp only[List.mem_flatMap,List.mem_cons] at hy
    obtain⟨z,hz,hy⟩:=hy
    obtain⟨k1,k2⟩:=hk z (List.mem_cons_of_mem _ hz)
    have d1:Dn its x.item y.item:=by
     rcases List.mem_cons.1 ha with e|ha
     ·rw[e];exact .base
     ·obtain⟨y',hy',e⟩:=List.mem_map.1 ha
      rw[←e];exact walkI_item hy'
    have d2:Dn its z.item y.item:=by
     rcases hy with rfl|hy
     ·exact .base
     ·exact walkI_item hy
    have hne:x.item≠z.item:=fun e=>hu.1 (List.mem_map.2 ⟨z,hz,e.symm⟩)
    rcases d1.comp h d2 with d|d
    ·have:=d.inv h k1 rfl hne
     rw[k2,←h2] at this
     exact Dn.noback h h1 (by omega) this
    ·have:=d.inv h h1 rfl hne.symm
     rw[h2,←k2] at this
     exact Dn.noback h k1 (by omega) this
def mu(its:List DItem)(r:Int→Nat)(p:Int):Nat:=if p=0 then its.length+1 else(its.filter fun x=>decide (r p<r x.item)).length+1
theorem filter_lt{l:List DItem}{p q:DItem→Bool}(h:∀x∈l,q x=true→p x=true){x:DItem}(hx:x∈l)(h1:p x=true)(h2:q x=false):(l.filter q).length< (l.filter p).length:=by
 induction l with
 |nil=>cases hx
 |cons a l ih=>
  have hle:(l.filter q).length≤(l.filter p).length:=by
   have hs:∀(l:List DItem),(∀x∈l,q x=true→p x=true)→(l.filter q).length≤(l.filter p).length:=by
    intro l
    induction l with
    |nil=>intro _;exact Nat.le_refl _
    |cons a l ih=>
     intro h
     have:=ih (fun x hx=>h x (List.mem_cons_of_mem _ hx))
     have ha:=h a List.mem_cons_self
     simp only[List.filter_cons]
     split
     ·rename_i hq;rw[if_pos (ha hq)];simp only[List.length_cons];omega
     ·split<;>(try simp only[List.length_cons])<;>omega
   exact hs l (fun x hx=>h x (List.mem_cons_of_mem _ hx))
  rcases List.mem_cons.1 hx with rfl|hx
  ·simp only[List.filter_cons,h1,h2,if_true]
   simp only[Bool.false_eq_true,if_false,List.length_cons];omega
  ·have:=ih (fun x hx=>h x (List.mem_cons_of_mem _ hx)) hx
   have ha:=h a List.mem_cons_self
   simp only[List.filter_cons]
   split
   ·rename_i hq;rw[if_pos (ha hq)];simp only[List.length_cons];omega
   ·split<;>(try simp only[List.length_cons])<;>omega
theorem mu_kid(h:Its its r){x:DItem}(hx:x∈its)(hp:0≤x.parent):mu its r x.item<mu its r x.parent:=by
 have h0:=h.pos x hx
 unfold mu
 rw[if_neg (by omega)]
 split
 ·have:=filter_lt (l:=its) (p:=fun _=>true) (q:=fun y=>decide (r x.item<r y.item)) (fun _ _ _=>rfl) hx rfl (by simp)
  rw[filter_all] at this;omega
 ·have hlt:=h.rk x hx (by omega)
  have:=filter_lt (l:=its) (p:=fun y=>decide (r x.parent<r y.item)) (q:=fun y=>decide (r x.item<r y.item)) (fun y _ hy=>by simp at hy⊢;omega) hx (by simpa using hlt) (by simp)
  omega
theorem mu_pos(its:List DItem)(r:Int→Nat)(p:Int):0<mu its r p:=by unfold mu;split<;>omega
abbrev KE:=Int×Bool×List DItem
def kdM(e:KE):Int×MV:=(e.1,if e.2.1 then .im (TL 4 ditT e.2.2) else .rw 4 (e.2.2.map ditT))
def onM(k:Int):Int×MV:=(k,.im (TB true))
def findK(K:List KE)(k:Int):Option KE:=K.find? (fun e=>e.1==k)
theorem lookK{K:List KE}{k:Int}:lookE (K.map kdM) k=(findK K k).map fun e=>(kdM e).2:=lookE_map (f:=kdM) (key:=Prod.fst) (fun _=>rfl)
theorem putKD{K:List KE}(e:KE):putE (K.map kdM) e.1 (kdM e).2=(putK Prod.fst K e).map kdM:=putE_map (f:=kdM) (key:=Prod.fst) (fun _=>rfl)
theorem lookS{S:List Int}{k:Int}:lookT (S.map onM) k (TB false)=some (TB (decide (k∈S))):=by
 unfold lookT
 rw[lookE_map (f:=onM) (key:=id) (fun _=>rfl)]
 cases hf:S.find? (fun x=>id x==k) with
 |none=>
  have:k∉S:=fun hm=>by have:=List.find?_eq_none.1 hf k hm;simp at this
  simp[this]
 |some x=>
  obtain⟨h1,h2⟩:=find_at (key:=id) hf
  have:k∈S:=h2▸h1
  simp[this,onM]
theorem putS{S:List Int}{k:Int}:putE (S.map onM) k (.im (TB true))=(putK id S k).map onM:=putE_map (f:=onM) (key:=id) (fun _=>rfl)
def frzK(K:List KE)(p:Int):List KE:=K.map fun e=>if e.1=p then(e.1,true,srtP e.2.2) else e
def frzL(K:List KE)(l:List Int):List KE:=l.foldl frzK K
def addS(S:List Int)(l:List Int):List Int:=l.foldl (putK id) S
structure KOk(its:List DItem)(K:List KE)(V:List Int):Prop where
 uq:UniqI Prod.fst K
 has:∀e∈K,e.1∉V→e.2.1=false∧e.2.2.Perm (its.filter fun x=>x.parent==e.1)
 no:∀d,d∉V→(∀e∈K,e.1≠d)→(its.filter fun x=>x.parent==d)=[]
theorem frzK_keys(K:List KE)(p:Int):(frzK K p).map Prod.fst=K.map Prod.fst:=by
 unfold frzK
 rw[List.map_map]
 apply List.map_congr_left
 intro e _
 simp only[Function.comp]
 split<;>rfl
theorem KOk.frz{K:List KE}{V:List Int}(h:KOk its K V)(p:Int):KOk its (frzK K p) (V++[p]):=by
 refine⟨by have:=h.uq;unfold UniqI at*;rw[frzK_keys];exact this,fun e he hv=> ?_,fun d hd hn=> ?_⟩
 ·simp only[List.mem_append,List.mem_singleton,not_or] at hv
  obtain⟨e0,h0,rfl⟩:=List.mem_map.1 he
  by_cases hp:e0.1=p
  ·rw[if_pos hp] at hv;exact absurd hp hv.2
  ·rw[if_neg hp] at hv⊢
   exact h.has e0 h0 hv.1
 ·simp only[List.mem_append,List.mem_singleton,not_or] at hd
  refine h.no d hd.1 (fun e he hh=> ?_)
  have:(if e.1=p then(e.1,true,srtP e.2.2) else e)∈frzK K p:=List.mem_map.2 ⟨e,he,rfl⟩
  refine hn _ this ?_
  split<;>exact hh
theorem KOk.frzL{K:List KE}{V:List Int}(h:KOk its K V):∀l,KOk its (Ch.frzL K l) (V++l)
 | []=>by simpa[Ch.frzL] using h
 |p::l=>by
  have:=(h.frz p).frzL l
  rw[List.append_assoc] at this
  exact this
theorem KOk.at{K:List KE}{V:List Int}(h:KOk its K V)(h0:Its its r){p:Int}(hp:p∉V):
 (findK K p=none∧kidsI its p=[])∨∃xs,findK K p=some (p,false,xs)∧srtP xs=kidsI its p∧xs.Perm (its.filter fun x=>x.parent==p):=by
 cases hf:findK K p with
 |none=>
  refine .inl ⟨rfl,?_⟩
  have:=h.no p hp (find_not hf)
  unfold kidsI;rw[this];rfl
 |some e=>
  obtain⟨h1,h2⟩:=find_at hf
  obtain⟨b1,b2⟩:=h.has e h1 (h2▸hp)
  obtain⟨k,b,xs⟩:=e
  simp only at h2 b1 b2
  subst h2 b1
  exact .inr ⟨xs,rfl,(srtP_eq b2.symm (filter_uniq h0.uq _)).symm,b2⟩
structure WIn(its:List DItem)(r:Int→Nat)(n:Nat)(p:Int)(K:List KE)(V:List Int)(no:Nat):Prop where
 ok:Its its r
 p0:0≤p
 mu:mu its r p≤n
 k:KOk its K V
 nd:(V++p::(walkI its n p).map DItem.item).Nodup
 len:no+(walkI its n p).length≤10000000000
 lenI:its.length≤10000000000
def blkI(its:List DItem)(n:Nat)(x:DItem):List DItem:=x::walkI its n x.item
def dneI(its:List DItem)(n:Nat)(p:Int)(i:Nat):List DItem:=((kidsI its p).take i).flatMap (blkI its n)
theorem dneI_all(its:List DItem)(n:Nat)(p:Int){i:Nat}(h:(kidsI its p).length≤i):dneI its n p i=walkI its (n+1) p:=by
 unfold dneI
 rw[List.take_of_length_le h]
 rfl
theorem dneI_succ(its:List DItem)(n:Nat)(p:Int){i:Nat}(h:i< (kidsI its p).length):dneI its n p (i+1)=dneI its n p i++((kidsI its p).getD i default::walkI its n ((kidsI its p).getD i default).item):=by
 unfold dneI
 rw[List.take_succ_eq_append_getElem h,List.flatMap_append]
 simp[blkI,List.getD,List.getElem?_eq_getElem h]
theorem dneI_pre(its:List DItem)(n:Nat)(p:Int)(i:Nat):∃rest,walkI its (n+1) p=dneI its n p i++rest:=by
 refine⟨((kidsI its p).drop i).flatMap (blkI its n),?_⟩
 unfold dneI
 rw[←List.flatMap_append,List.take_append_drop]
 rfl
theorem getDI_mem{l:List DItem}{i:Nat}(h:i<l.length):l.getD i default∈l:=by
 rw[show l.getD i default=l[i] by simp[List.getD,List.getElem?_eq_getElem h]]
 exact List.getElem_mem h
theorem WIn.kid{n:Nat}{p:Int}{K:List KE}{V:List Int}{no:Nat}(h:WIn its r (n+1) p K V no){i:Nat}(hi:i< (kidsI its p).length):
 WIn its r n ((kidsI its p).getD i default).item (frzL K (p::(dneI its n p i).map DItem.item)) (V++p::(dneI its n p i).map DItem.item) (no+(dneI its n p i).length+1):=by
 obtain⟨q1,q2⟩:=kidsI_mem.1 (getDI_mem hi)
 obtain⟨rest,hr⟩:=dneI_pre its n p (i+1)
 have hd:=dneI_succ its n p hi
 have hmu:=mu_kid h.ok q1 (by rw[q2];exact h.p0)
 rw[q2] at hmu
 have:=h.mu
 have hn:=h.nd
 have hl:=h.len
 rw[hr,hd] at hn hl
 refine⟨h.ok,Int.le_of_lt (h.ok.pos _ q1),by omega,h.k.frzL _,?_,?_,h.lenI⟩
 ·refine hn.sublist ?_
  simp only[List.map_append,List.map_cons,List.append_assoc,List.cons_append]
  refine List.Sublist.append_left (List.Sublist.cons_cons _ ?_) _
  refine List.Sublist.append_left ?_ _
  refine List.Sublist.cons_cons _ ?_
  exact List.sublist_append_left _ _
 ·simp only[List.length_append,List.length_cons] at hl⊢;omega
theorem WIn.notV{n:Nat}{p:Int}{K:List KE}{V:List Int}{no:Nat}(h:WIn its r n p K V no):p∉V:=fun hp=>by
 have:=List.nodup_append.1 h.nd
 exact this.2.2 p hp p List.mem_cons_self rfl
theorem frzK_found{K:List KE}(hu:UniqI Prod.fst K){p:Int}{xs:List DItem}(hf:findK K p=some (p,false,xs)):putK Prod.fst K (p,true,srtP xs)=frzK K p:=by
 have hm:=(find_at hf).1
 clear hf
 induction K with
 |nil=>cases hm
 |cons e K ih=>
  have hu':=hu
  simp only[UniqI,List.map_cons,List.nodup_cons] at hu
  unfold frzK
  rw[List.map_cons]
  simp only[putK]
  by_cases he:p=e.1
  ·rw[if_pos he]
   have h1:e=(p,false,xs):=hu'.uniq e List.mem_cons_self _ hm he.symm
   subst h1
   rw[if_pos rfl]
   congr 1
   symm
   refine(List.map_congr_left (fun y hy=> ?_)).trans (List.map_id _)
   rw[if_neg (fun h=>hu.1 (List.mem_map.2 ⟨y,hy,h⟩))];rfl
  ·rw[if_neg he,if_neg (fun h=>he h.symm)]
   congr 1
   exact ih hu.2 ((List.mem_cons.1 hm).resolve_left (fun h=>he (by rw[←h])))
theorem frzK_none{K:List KE}{p:Int}(hf:findK K p=none):frzK K p=K:=by
 have:=find_not hf
 unfold frzK
 refine(List.map_congr_left (fun y hy=> ?_)).trans (List.map_id _)
 rw[if_neg (this y hy)];rfl
theorem putK_twice{K:List KE}{p:Int}{b b':Bool}{xs ys:List DItem}:putK Prod.fst (putK Prod.fst K (p,b,xs)) (p,b',ys)=putK Prod.fst K (p,b',ys):=by
 induction K with
 |nil=>simp[putK]
 |cons e K ih=>
  simp only[putK]
  by_cases he:p=e.1
  ·rw[if_pos he,if_pos he];simp[putK]
  ·rw[if_neg he,if_neg he];simp only[putK];rw[if_neg he,ih]
theorem frz_put{K:List KE}(hu:UniqI Prod.fst K){p:Int}{xs:List DItem}(hf:findK K p=some (p,false,xs)):
 lookE ((putK Prod.fst K (p,false,srtP xs)).map kdM) p=some (.rw 4 ((srtP xs).map ditT))∧putE ((putK Prod.fst K (p,false,srtP xs)).map kdM) p (.im (TL 4 ditT (srtP xs)))=(frzK K p).map kdM:=by
 constructor
 ·rw[lookK]
  have:findK (putK Prod.fst K (p,false,srtP xs)) p=some (p,false,srtP xs):=find_uniq (x:=(p,false,srtP xs)) hu.putK putK_self
  rw[this];rfl
 ·have:=putKD (K:=putK Prod.fst K (p,false,srtP xs)) (p,true,srtP xs)
  rw[putK_twice,frzK_found hu hf] at this
  exact this
@[simp] theorem srtP_len (l:List DItem):(srtP l).length=l.length:=(srtO_perm ltP l).length_eq
theorem WIn.at{n:Nat}{p:Int}{K:List KE}{V:List Int}{no:Nat}(h:WIn its r n p K V no):
 (findK K p=none∧kidsI its p=[])∨∃xs,findK K p=some (p,false,xs)∧srtP xs=kidsI its p∧xs.length≤10000000000∧UniqI DItem.item xs:=by
 rcases h.k.at h.ok h.notV with h| ⟨xs,h1,h2,h3⟩
 ·exact .inl h
 ·refine .inr ⟨xs,h1,h2,?_,?_⟩
  ·rw[h3.length_eq];exact Nat.le_trans (List.length_filter_le _ _) h.lenI
  ·have:=filter_uniq h.ok.uq (fun x=>x.parent==p)
   unfold UniqI at*
   exact(h3.map _).nodup_iff.2 this
abbrev noD:List DItem:=[]
open Go.Proofs Go.RowKit Go.Shelf Go.Sort in
theorem fc_sortNil:FC Go.Proofs.Tryz.prog 146 [VN,.fn 147 []] emp (.tup []) emp:=by
 intro F m w xs hS hl hv
 match xs,hl with
 | [x0,x1],_=>
 have v0:=hv 0 _ _ rfl rfl
 have v1:=hv 1 _ _ rfl rfl
 cases v1 with
 |fn _ _ us hlu _=>
 obtain rfl:us=[]:=List.length_eq_zero_iff.1 hlu
 cases v0 with
 |t _ _ h=>
 cases h with
 |sc _ h=>
 have key:=AnyF.slices_SortFunc_none Go.Proofs.Tryz.sortP none 0 (.func (.func 147) #[] #[]) w
 change Calls Go.Proofs.Tryz.prog 146 _ _ _ at key
 refine key.mono ?_
 rintro e' w' ⟨rfl,rfl⟩
 exact⟨_,m,rfl,hS,FrameExt.refl F _ m _,.tup [] [] rfl (fun i v u hv=>by simp at hv)⟩
end Go.Ch
end
section
set_option linter.unusedVariables false
set_option linter.unusedSimpArgs false
set_option maxRecDepth 100000
set_option maxHeartbeats 4000000
open Go Go.Proofs Go.Ab
namespace Go.Ch
theorem fc_walk1(its:List DItem)(r:Int→Nat)(n:Nat)(ih:∀(p:Int) (K:List KE) (S:List Int) (o:List DItem) (V:List Int),WIn its r n p K V o.length→FC Tryz.prog 145 [VI p,.ptr 0 0,.ptr 1 0,.ptr 2 0,.ptr 3 0] (app emp [(0,.box [.hdl 4]),(1,.box [.row 5 o.length]),(2,.box [.hdl 6]),(3,.box [.fn 145 [.ptr 0 0,.ptr 1 0,.ptr 2 0,.ptr 3 0]]),(4,.mp (List.map kdM K) none),(5,OR 4 ditT o),(6,.mp (List.map onM S) none)]) (.tup []) (app emp [(0,.box [.hdl 4]),(1,.box [.row 5 ((o++walkI its n p).length)]),(2,.box [.hdl 6]),(3,.box [.fn 145 [.ptr 0 0,.ptr 1 0,.ptr 2 0,.ptr 3 0]]),(4,.mp (List.map kdM (frzL K (p::(walkI its n p).map DItem.item))) none),(5,OR 4 ditT (o++walkI its n p)),(6,.mp (List.map onM (addS S ((walkI its n p).map DItem.item))) none)]))(p:Int)(K:List KE)(S:List Int)(o:List DItem)(V:List Int)(hW:WIn its r (n+1) p K V o.length):FC Tryz.prog 145 [VI p,.ptr 0 0,.ptr 1 0,.ptr 2 0,.ptr 3 0] (app emp [(0,.box [.hdl 4]),(1,.box [.row 5 o.length]),(2,.box [.hdl 6]),(3,.box [.fn 145 [.ptr 0 0,.ptr 1 0,.ptr 2 0,.ptr 3 0]]),(4,.mp (List.map kdM K) none),(5,OR 4 ditT o),(6,.mp (List.map onM S) none)]) (.tup []) (app emp [(0,.box [.hdl 4]),(1,.box [.row 5 ((o++walkI its (n+1) p).length)]),(2,.box [.hdl 6]),(3,.box [.fn 145 [.ptr 0 0,.ptr 1 0,.ptr 2 0,.ptr 3 0]]),(4,.mp (List.map kdM (frzL K (p::(walkI its (n+1) p).map DItem.item))) none),(5,OR 4 ditT (o++walkI its (n+1) p)),(6,.mp (List.map onM (addS S ((walkI its (n+1) p).map DItem.item))) none)]):=by
 refine .go Tryz.f145 ?_
 have hk:=hW.at
 have hu:=kidsI_uniq hW.ok p
 rcases hk with⟨hf,hnil⟩| ⟨xs,hf,hsrt,hlx,hux⟩
 ·
  refine .loop (α:=Nat×List KE×(List DItem)×List Int) [.r [(2,X (Xm0 (List.map kdM K) p) (by rw[lookK,hf];rfl)),(3,X (Xc0 fc_sortNil X0))],.r [(2,X (Xm0 (List.map kdM K) p) (by rw[lookK,hf];rfl))],.le (.nL 14 4)] 79 (fun(i,K2,o2,S2)=>([(2,.ptr 1 0),(3,.ptr 2 0),(4,.ptr 3 0),(14,VL 4 ditT noD),(15,VI 0),(16,VI (i:Int))],[(0,.box [.hdl 4]),(1,.box [.row 5 o2.length]),(2,.box [.hdl 6]),(3,.box [.fn 145 [.ptr 0 0,.ptr 1 0,.ptr 2 0,.ptr 3 0]]),(4,.mp (List.map kdM K2) none),(5,OR 4 ditT o2),(6,.mp (List.map onM S2) none)])) (fun(i,K2,o2,S2)=>i≤(noD:List DItem).length∧o2=o++dneI its n p i∧K2=(frzL K (p::(dneI its n p i).map DItem.item))∧S2=addS S ((dneI its n p i).map DItem.item)) (fun(i,K2,o2,S2)=>(noD:List DItem).length-i) (0,K,o,S) ?_ ?_
  ·
   refine⟨Nat.zero_le _,by simp[dneI],?_,by simp[dneI,addS]⟩
   simp only[dneI,List.take_zero,List.flatMap_nil,List.map_nil,frzL,List.foldl_cons,List.foldl_nil]
   all_goals first|rfl|exact(frzK_none hf).symm
  rintro⟨i,K2,o2,S2⟩ I2 ih2
  try dsimp only at I2
  refine .bp [.r []] (decide ((i:Int)< 0)) (fun h2=> ?_) (fun h2=> ?_)
  ·
   have hL:(noD:List DItem)=kidsI its p:=by first|exact hsrt|exact hnil.symm
   have hd:=dneI_succ its n p (i:=i) (by rw[←hL];first|omega| (exfalso;omega))
   rw[←hL] at hd
   have hkid:WIn its r n ((noD:List DItem).getD i default).item K2 (V++p::(dneI its n p i).map DItem.item) (o2++[(noD:List DItem).getD i default]).length:=by
    have hq:=hW.kid (i:=i) (by rw[←hL];first|omega| (exfalso;omega))
    rw[←hL,←I2.2.2.1] at hq
    have hlen:(o2++[(noD:List DItem).getD i default]).length=o.length+(dneI its n p i).length+1:=by rw[I2.2.1];simp;omega
    rw[hlen];exact hq
   have hol:o2.length≤1099511627775:=by have:=hkid.len;rw[List.length_append] at this;omega
   have hli:(noD:List DItem).length≤10000000000:=by first| (rw[srtP_len];exact hlx)|simp
   refine .back [.r [(0,X (Xi ditT noD (i:Int)))],.r [(6,X (rowC ditT [((noD.getD i default))] (Xap 4 ditT 5 o2 [((noD.getD i default))]))),(8,X (Xmu onM S2 (putK id S2 ((noD:List DItem).getD i default).item) (((noD.getD i default)).item) 6 (.im (Ab.TB true))) putS)],.r [(3,X (Xc3 215 [(0,0),(1,1),(2,2),(3,3),(4,4),(5,5),(6,6)] (ih (((noD.getD i default)).item) K2 (putK id S2 ((noD:List DItem).getD i default).item) (o2++[((noD.getD i default))]) _ (by first|assumption|exact hkid)) X0))],.r [(0,X (Xn ((i:Int)+1)))]] [(0,0),(1,1),(2,2),(3,3),(4,4),(5,5),(6,6)] (ih2 ((i+1),(frzL K2 ((((noD.getD i default)).item)::(walkI its n (((noD.getD i default)).item)).map DItem.item)),((o2++[((noD.getD i default))])++walkI its n (((noD.getD i default)).item)),(addS (putK id S2 ((noD:List DItem).getD i default).item) ((walkI its n (((noD.getD i default)).item)).map DItem.item))) ?_ ?_)
   ·
    refine⟨by omega,?_,?_,?_⟩
    ·rw[hd,I2.2.1];simp
    ·rw[hd,I2.2.2.1];simp[frzL]
    ·rw[hd,I2.2.2.2];simp[addS]
   ·
    ((try dsimp only);omega)
  ·
   have e1:((o++walkI its (n+1) p).length:Nat)=o2.length:=by
    have ha:=dneI_all its n p (i:=i) (by first| (rw[←hsrt];omega)| (rw[hnil];exact Nat.zero_le _))
    rw[←ha]
    first|rw[←I2.2.1]|rw[←I2.2.2.1]|rw[←I2.2.2.2]
   have e2:((frzL K (p::(walkI its (n+1) p).map DItem.item)):List KE)=K2:=by
    have ha:=dneI_all its n p (i:=i) (by first| (rw[←hsrt];omega)| (rw[hnil];exact Nat.zero_le _))
    rw[←ha]
    first|rw[←I2.2.1]|rw[←I2.2.2.1]|rw[←I2.2.2.2]
   have e3:((o++walkI its (n+1) p):List DItem)=o2:=by
    have ha:=dneI_all its n p (i:=i) (by first| (rw[←hsrt];omega)| (rw[hnil];exact Nat.zero_le _))
    rw[←ha]
    first|rw[←I2.2.1]|rw[←I2.2.2.1]|rw[←I2.2.2.2]
   have e4:((addS S ((walkI its (n+1) p).map DItem.item)):List Int)=S2:=by
    have ha:=dneI_all its n p (i:=i) (by first| (rw[←hsrt];omega)| (rw[hnil];exact Nat.zero_le _))
    rw[←ha]
    first|rw[←I2.2.1]|rw[←I2.2.2.1]|rw[←I2.2.2.2]
   exact .finE [] [(0,0),(1,1),(2,2),(3,3),(4,4),(5,5),(6,6)] (fun((z0,z1,z2,z3):Nat×(List KE)×(List DItem)×(List Int))=>(.tup [],[(0,.box [.hdl 4]),(1,.box [.row 5 z0]),(2,.box [.hdl 6]),(3,.box [.fn 145 [.ptr 0 0,.ptr 1 0,.ptr 2 0,.ptr 3 0]]),(4,.mp (List.map kdM z1) none),(5,OR 4 ditT z2),(6,.mp (List.map onM z3) none)])) _ _ (pr e1 (pr e2 (pr e3 e4)))
 ·
  refine .loop (α:=Nat×List KE×(List DItem)×List Int) [.r [(2,X (Xm2r (List.map kdM K) p 4 23 4 ditT xs) (by rw[lookK,hf];rfl)),(3,X (Xc3 31 [(0,23)] (fc_sortP xs (by omega) (by assumption)) X0))],.le (.mput 4 (List.map kdM (putK Prod.fst K (p,false,srtP xs))) [(xs.length:Nat)=(List.map ditT (srtP xs)).length,(lookE (List.map kdM K) p).isSome=true,putE (List.map kdM K) p (.rw 4 (List.map ditT (srtP xs)))=List.map kdM (putK Prod.fst K (p,false,srtP xs))] ⟨lm,(by rw[lookK,hf];rfl),(putKD (p,false,srtP xs)),trivial⟩),.r [(2,X (Xm3 kdM (putK Prod.fst K (p,false,srtP xs)) (frzK K p) p 4 4 ditT (srtP xs)) (frz_put hW.k.uq hf)),(3,X (Xl ditT (srtP xs)))]] 79 (fun(i,K2,o2,S2)=>([(2,.ptr 1 0),(3,.ptr 2 0),(4,.ptr 3 0),(14,VL 4 ditT (srtP xs)),(15,VI ((srtP xs).length:Int)),(16,VI (i:Int))],[(0,.box [.hdl 4]),(1,.box [.row 5 o2.length]),(2,.box [.hdl 6]),(3,.box [.fn 145 [.ptr 0 0,.ptr 1 0,.ptr 2 0,.ptr 3 0]]),(4,.mp (List.map kdM K2) none),(5,OR 4 ditT o2),(6,.mp (List.map onM S2) none)])) (fun(i,K2,o2,S2)=>i≤((srtP xs):List DItem).length∧o2=o++dneI its n p i∧K2=(frzL K (p::(dneI its n p i).map DItem.item))∧S2=addS S ((dneI its n p i).map DItem.item)) (fun(i,K2,o2,S2)=>((srtP xs):List DItem).length-i) (0,(frzK K p),o,S) ?_ ?_
  ·
   refine⟨Nat.zero_le _,by simp[dneI],?_,by simp[dneI,addS]⟩
   simp only[dneI,List.take_zero,List.flatMap_nil,List.map_nil,frzL,List.foldl_cons,List.foldl_nil]
   all_goals first|rfl|exact(frzK_none hf).symm
  rintro⟨i,K2,o2,S2⟩ I2 ih2
  try dsimp only at I2
  refine .bp [.r []] (decide ((i:Int)< ((srtP xs).length:Int))) (fun h2=> ?_) (fun h2=> ?_)
  ·
   have hL:((srtP xs):List DItem)=kidsI its p:=by first|exact hsrt|exact hnil.symm
   have hd:=dneI_succ its n p (i:=i) (by rw[←hL];first|omega| (exfalso;omega))
   rw[←hL] at hd
   have hkid:WIn its r n (((srtP xs):List DItem).getD i default).item K2 (V++p::(dneI its n p i).map DItem.item) (o2++[((srtP xs):List DItem).getD i default]).length:=by
    have hq:=hW.kid (i:=i) (by rw[←hL];first|omega| (exfalso;omega))
    rw[←hL,←I2.2.2.1] at hq
    have hlen:(o2++[((srtP xs):List DItem).getD i default]).length=o.length+(dneI its n p i).length+1:=by rw[I2.2.1];simp;omega
    rw[hlen];exact hq
   have hol:o2.length≤1099511627775:=by have:=hkid.len;rw[List.length_append] at this;omega
   have hli:((srtP xs):List DItem).length≤10000000000:=by first| (rw[srtP_len];exact hlx)|simp
   refine .back [.r [(0,X (Xi ditT (srtP xs) (i:Int)))],.r [(6,X (rowC ditT [(((srtP xs).getD i default))] (Xap 4 ditT 5 o2 [(((srtP xs).getD i default))]))),(8,X (Xmu onM S2 (putK id S2 (((srtP xs):List DItem).getD i default).item) ((((srtP xs).getD i default)).item) 6 (.im (Ab.TB true))) putS)],.r [(3,X (Xc3 215 [(0,0),(1,1),(2,2),(3,3),(4,4),(5,5),(6,6)] (ih ((((srtP xs).getD i default)).item) K2 (putK id S2 (((srtP xs):List DItem).getD i default).item) (o2++[(((srtP xs).getD i default))]) _ (by first|assumption|exact hkid)) X0))],.r [(0,X (Xn ((i:Int)+1)))]] [(0,0),(1,1),(2,2),(3,3),(4,4),(5,5),(6,6)] (ih2 ((i+1),(frzL K2 (((((srtP xs).getD i default)).item)::(walkI its n ((((srtP xs).getD i default)).item)).map DItem.item)),((o2++[(((srtP xs).getD i default))])++walkI its n ((((srtP xs).getD i default)).item)),(addS (putK id S2 (((srtP xs):List DItem).getD i default).item) ((walkI its n ((((srtP xs).getD i default)).item)).map DItem.item))) ?_ ?_)
   ·
    refine⟨by omega,?_,?_,?_⟩
    ·rw[hd,I2.2.1];simp
    ·rw[hd,I2.2.2.1];simp[frzL]
    ·rw[hd,I2.2.2.2];simp[addS]
   ·
    ((try dsimp only);omega)
  ·
   have e5:((o++walkI its (n+1) p).length:Nat)=o2.length:=by
    have ha:=dneI_all its n p (i:=i) (by first| (rw[←hsrt];omega)| (rw[hnil];exact Nat.zero_le _))
    rw[←ha]
    first|rw[←I2.2.1]|rw[←I2.2.2.1]|rw[←I2.2.2.2]
   have e6:((frzL K (p::(walkI its (n+1) p).map DItem.item)):List KE)=K2:=by
    have ha:=dneI_all its n p (i:=i) (by first| (rw[←hsrt];omega)| (rw[hnil];exact Nat.zero_le _))
    rw[←ha]
    first|rw[←I2.2.1]|rw[←I2.2.2.1]|rw[←I2.2.2.2]
   have e7:((o++walkI its (n+1) p):List DItem)=o2:=by
    have ha:=dneI_all its n p (i:=i) (by first| (rw[←hsrt];omega)| (rw[hnil];exact Nat.zero_le _))
    rw[←ha]
    first|rw[←I2.2.1]|rw[←I2.2.2.1]|rw[←I2.2.2.2]
   have e8:((addS S ((walkI its (n+1) p).map DItem.item)):List Int)=S2:=by
    have ha:=dneI_all its n p (i:=i) (by first| (rw[←hsrt];omega)| (rw[hnil];exact Nat.zero_le _))
    rw[←ha]
    first|rw[←I2.2.1]|rw[←I2.2.2.1]|rw[←I2.2.2.2]
   exact .finE [] [(0,0),(1,1),(2,2),(3,3),(4,4),(5,5),(6,6)] (fun((z0,z1,z2,z3):Nat×(List KE)×(List DItem)×(List Int))=>(.tup [],[(0,.box [.hdl 4]),(1,.box [.row 5 z0]),(2,.box [.hdl 6]),(3,.box [.fn 145 [.ptr 0 0,.ptr 1 0,.ptr 2 0,.ptr 3 0]]),(4,.mp (List.map kdM z1) none),(5,OR 4 ditT z2),(6,.mp (List.map onM z3) none)])) _ _ (pr e5 (pr e6 (pr e7 e8)))
theorem fc_walk(its:List DItem)(r:Int→Nat):∀(n:Nat),∀(p:Int) (K:List KE) (S:List Int) (o:List DItem) (V:List Int),WIn its r n p K V o.length→FC Tryz.prog 145 [VI p,.ptr 0 0,.ptr 1 0,.ptr 2 0,.ptr 3 0] (app emp [(0,.box [.hdl 4]),(1,.box [.row 5 o.length]),(2,.box [.hdl 6]),(3,.box [.fn 145 [.ptr 0 0,.ptr 1 0,.ptr 2 0,.ptr 3 0]]),(4,.mp (List.map kdM K) none),(5,OR 4 ditT o),(6,.mp (List.map onM S) none)]) (.tup []) (app emp [(0,.box [.hdl 4]),(1,.box [.row 5 ((o++walkI its n p).length)]),(2,.box [.hdl 6]),(3,.box [.fn 145 [.ptr 0 0,.ptr 1 0,.ptr 2 0,.ptr 3 0]]),(4,.mp (List.map kdM (frzL K (p::(walkI its n p).map DItem.item))) none),(5,OR 4 ditT (o++walkI its n p)),(6,.mp (List.map onM (addS S ((walkI its n p).map DItem.item))) none)])
 |0,p,K,S,o,V,hW=>absurd hW.mu (by have:=mu_pos its r p;omega)
 |n+1,p,K,S,o,V,hW=>fc_walk1 its r n (fc_walk its r n) p K S o V hW
end Go.Ch
end
section
set_option linter.unusedVariables false
set_option linter.unusedSimpArgs false
set_option maxRecDepth 100000
namespace Go.Ch
open Go Go.Ab
def fullI(ats:List (Int×List Attr))(x:DItem):DItem:=⟨x.item,x.parent,x.place,findA ats x.item⟩
def itM2(ats:List (Int×List Attr))(e:DItem×Bool):Int×MV:=(e.1.item,.bx [TI e.1.item,TI e.1.parent,TS e.1.place,if e.2 then TL 2 attrT (findA ats e.1.item) else TL 2 attrT e.1.attrs])
def mkM(its:List DItem)(q:List Nat):List (DItem×Bool):=its.zipIdx.map fun p=>(p.1,decide (p.2∈q))
@[simp] theorem mkM_len (its:List DItem) (q:List Nat):(mkM its q).length=its.length:=by simp[mkM]
theorem mkM_get{its:List DItem}{q:List Nat}{i:Nat}(h:i<its.length):(mkM its q)[i]? =some (its.getD i default,decide (i∈q)):=by
 unfold mkM
 rw[List.getElem?_map,List.getElem?_zipIdx,List.getElem?_eq_getElem h]
 simp[List.getD,List.getElem?_eq_getElem h]
theorem mkM_nil(its:List DItem)(ats:List (Int×List Attr)):its.map itM=(mkM its []).map (itM2 ats):=by
 apply List.ext_getElem?
 intro i
 rw[List.getElem?_map,List.getElem?_map]
 by_cases h:i<its.length
 ·rw[mkM_get h,List.getElem?_eq_getElem h]
  simp[itM,itM2,List.getD,List.getElem?_eq_getElem h]
 ·rw[List.getElem?_eq_none (by omega),List.getElem?_eq_none (by rw[mkM_len];omega)];rfl
theorem mkM_entry{its:List DItem}{ats:List (Int×List Attr)}{q:List Nat}{i:Nat}(h:i< (mkM its []).length)(hq:i∉q):
 (mkM its q).length=(mkM its []).length∧(q++[i]).getLast? =some i∧((mkM its q).map (itM2 ats))[i]? =some ((its.getD i default).item,.bx [TI (its.getD i default).item,TI (its.getD i default).parent,TS (its.getD i default).place,TL 2 attrT (its.getD i default).attrs]):=by
 rw[mkM_len] at h
 refine⟨by simp,by simp,?_⟩
 rw[List.getElem?_map,mkM_get h]
 simp[itM2,hq]
theorem mkM_look{its:List DItem}{ats:List (Int×List Attr)}{q:List Nat}{i:Nat}(hu:UniqI DItem.item its)(h:i<its.length):
 lookE ((mkM its q).map (itM2 ats)) (its.getD i default).item=some (itM2 ats (its.getD i default,decide (i∈q))).2:=by
 rw[lookE_map (f:=itM2 ats) (key:=fun e=>e.1.item) (fun _=>rfl)]
 have hu2:UniqI (fun e:DItem×Bool=>e.1.item) (mkM its q):=by
  have:(mkM its q).map (fun e=>e.1.item)=its.map DItem.item:=by
   apply List.ext_getElem?
   intro j
   rw[List.getElem?_map,List.getElem?_map]
   by_cases hj:j<its.length
   ·rw[mkM_get hj,List.getElem?_eq_getElem hj];simp[List.getD,List.getElem?_eq_getElem hj]
   ·rw[List.getElem?_eq_none (by rw[mkM_len];omega),List.getElem?_eq_none (by omega)];rfl
  unfold UniqI at*
  rw[this];exact hu
 have:=find_uniq (x:=(its.getD i default,decide (i∈q))) hu2 (List.mem_of_getElem? (mkM_get h))
 rw[this];rfl
theorem mkM_put{its:List DItem}{ats:List (Int×List Attr)}{q:List Nat}{i:Nat}(hu:UniqI DItem.item its)(h:i<its.length):
 putE ((mkM its q).map (itM2 ats)) (its.getD i default).item (.bx [TI (its.getD i default).item,TI (its.getD i default).parent,TS (its.getD i default).place,TL 2 attrT (findA ats (its.getD i default).item)])=(mkM its (q++[i])).map (itM2 ats):=by
 have hp:∀(l:List (Int×MV)) (k:Int) (v:MV) (i:Nat),(l.map (·.1)).Nodup→(l[i]?).map (·.1)=some k→putE l k v=l.set i (k,v):=by
  intro l
  induction l with
  |nil=>intro k v i _ h;simp at h
  |cons e l ih=>
   intro k v i hn h
   simp only[List.map_cons,List.nodup_cons] at hn
   cases i with
   |zero=>simp at h;simp[putE,h]
   |succ i=>
    simp at h
    have hne:¬e.1=k:=fun he=>by
     obtain⟨a,ha⟩:=h
     exact hn.1 (List.mem_map.2 ⟨(k,a),List.mem_of_getElem? ha,he.symm⟩)
    have:=ih k v i hn.2 (by obtain⟨a,ha⟩:=h;rw[ha];rfl)
    simp only[putE,List.set_cons_succ]
    split
    ·rename_i he;exact absurd (by first|exact he|exact he.symm) hne
    ·rw[this]
 rw[hp _ _ _ i ?_ ?_]
 ·apply List.ext_getElem?
  intro j
  rw[List.getElem?_set]
  split
  ·rename_i hj;subst hj
   rw[if_pos (by simp;exact h),List.getElem?_map,mkM_get h]
   simp[itM2]
  ·rename_i hj
   rw[List.getElem?_map,List.getElem?_map]
   by_cases hj':j<its.length
   ·rw[mkM_get hj',mkM_get hj']
    simp[Ne.symm hj]
   ·rw[List.getElem?_eq_none (by rw[mkM_len];omega),List.getElem?_eq_none (by rw[mkM_len];omega)]
 ·have:((mkM its q).map (itM2 ats)).map (·.1)=its.map DItem.item:=by
   apply List.ext_getElem?
   intro j
   rw[List.getElem?_map,List.getElem?_map,List.getElem?_map]
   by_cases hj:j<its.length
   ·rw[mkM_get hj,List.getElem?_eq_getElem hj];simp[itM2,List.getD,List.getElem?_eq_getElem hj]
   ·rw[List.getElem?_eq_none (by rw[mkM_len];omega),List.getElem?_eq_none (by omega)];rfl
  rw[this];exact hu
 ·rw[List.getElem?_map,mkM_get h];rfl
def addKid(K:List KE)(x:DItem):List KE:=putK Prod.fst K (x.parent,false,((findK K x.parent).map fun e=>e.2.2).getD []++[x])
def kidsL(l:List DItem):List KE:=l.foldl addKid []
structure KInv(l:List DItem)(K:List KE):Prop where
 uq:UniqI Prod.fst K
 has:∀e∈K,e.2.1=false∧e.2.2=l.filter fun x=>x.parent==e.1
 no:∀d,(∀e∈K,e.1≠d)→(l.filter fun x=>x.parent==d)=[]
theorem KInv.add{l:List DItem}{K:List KE}(h:KInv l K)(x:DItem):KInv (l++[x]) (addKid K x):=by
 have hf:((findK K x.parent).map fun e=>e.2.2).getD []=l.filter fun y=>y.parent==x.parent:=by
  cases hk:findK K x.parent with
  |none=>exact(h.no _ (find_not hk)).symm
  |some e=>
   obtain⟨h1,h2⟩:=find_at hk
   have:=(h.has e h1).2
   rw[h2] at this
   exact this
 unfold addKid
 rw[hf]
 refine⟨h.uq.putK,fun e he=> ?_,fun d hd=> ?_⟩
 ·by_cases hx:e=(x.parent,false,(l.filter fun y=>y.parent==x.parent)++[x])
  ·subst hx;exact⟨rfl,by simp⟩
  ·obtain⟨h1,h2⟩:=putK_other h.uq he hx
   obtain⟨h3,h4⟩:=h.has e h1
   refine⟨h3,?_⟩
   rw[List.filter_append,←h4]
   have:([x].filter fun y=>y.parent==e.1)=[]:=by
    simp only[List.filter_cons,List.filter_nil]
    rw[if_neg (by simpa using fun hh=>h2 hh.symm)]
   rw[this,List.append_nil]
 ·rw[List.filter_append,h.no d (fun e he hh=> ?_)]
  ·have:x.parent≠d:=hd _ putK_self
   simp[this]
  ·by_cases hx:e.1=x.parent
   ·exact hd _ putK_self (by rw[←hh,hx])
   ·exact hd e (putK_old he hx) hh
theorem kidsL_inv(l:List DItem):KInv l (kidsL l):=by
 have:∀(l l0:List DItem) (K:List KE),KInv l0 K→KInv (l0++l) (l.foldl addKid K):=by
  intro l
  induction l with
  |nil=>intro l0 K h;simpa using h
  |cons x l ih=>
   intro l0 K h
   have:=ih (l0++[x]) _ (h.add x)
   simpa using this
 have:=this l [] [] ⟨List.nodup_nil,(fun e he=>by cases he),fun d _=>rfl⟩
 simpa[kidsL] using this
theorem KInv.ok{its l:List DItem}{K:List KE}(h:KInv l K)(hp:l.Perm its):KOk its K []:=by
 refine⟨h.uq,fun e he _=>⟨(h.has e he).1,by rw[(h.has e he).2];exact hp.filter _⟩,fun d _ hd=> ?_⟩
 have h1:=h.no d hd
 have h2:=hp.filter (fun x=>x.parent==d)
 rw[h1] at h2
 exact h2.symm.eq_nil
theorem nodup_len:∀(n:Nat) (q:List Nat),q.Nodup→(∀i∈q,i<n)→q.length≤n
 |0,q,_,h=>by
  cases q with
  |nil=>simp
  |cons a q=>have:=h a List.mem_cons_self;omega
 |n+1,q,hq,h=>by
  have h1:=nodup_len n (q.filter fun i=>decide (i≠n)) (hq.sublist List.filter_sublist) (fun i hi=>by
   simp only[List.mem_filter,decide_eq_true_eq] at hi
   have:=h i hi.1;omega)
  have h2:q.length≤(q.filter fun i=>decide (i≠n)).length+1:=by
   clear h1 h
   induction q with
   |nil=>simp
   |cons a q ih=>
    simp only[List.nodup_cons] at hq
    simp only[List.filter_cons]
    by_cases ha:a=n
    ·subst ha
     have:(q.filter fun i=>decide (i≠a))=q:=List.filter_eq_self.2 (fun i hi=>by simp;intro e;subst e;exact hq.1 hi)
     rw[if_neg (by simp),this,List.length_cons]
     omega
    ·have:=ih hq.2
     rw[if_pos (by simpa using ha)]
     simp only[List.length_cons];omega
  omega
theorem seen_perm{its:List DItem}{q:List Nat}(hq:q.Nodup)(h1:∀i∈q,i<its.length)(h2:∀i,i<its.length→i∈q):q.Perm (List.range its.length):=by
 rw[List.perm_ext_iff_of_nodup hq List.nodup_range]
 intro i
 rw[List.mem_range]
 exact⟨h1 i,h2 i⟩
theorem allI_perm{its:List DItem}{q:List Nat}(f:DItem→DItem)(hq:q.Nodup)(h1:∀i∈q,i<its.length)(h2:∀i,i<its.length→i∈q):
 (q.map fun i=>f (its.getD i default)).Perm (its.map f):=by
 have h:=(seen_perm hq h1 h2).map fun i=>f (its.getD i default)
 have e:(List.range its.length).map (fun i=>f (its.getD i default))=its.map f:=by
  apply List.ext_getElem (by simp)
  intro i hi hj
  simp at hi
  simp[List.getD,List.getElem?_eq_getElem hi]
 rwa [e] at h
def itsF(l:List DOp):List DItem:=(playP l).1.map (fullI (playP l).2)
def walkF(l:List DOp):List DItem:=walkI (itsF l) ((itsF l).length+1) 0
def rawI(l:List DOp):List DItem:=walkF l++(srtN (itsF l)).filter fun x=>decide (x.item∉(walkF l).map DItem.item)
theorem playP_ok'{l:List DOp}(hl:∀o∈l,0<o.itm):PlayOk (playP l) l.length:=by
 have:=playP_ok hl l.length (Nat.le_refl _)
 rwa [List.take_length] at this
theorem itsF_ok{l:List DOp}(hl:∀o∈l,0<o.itm):∃r,Its (itsF l) r:=by
 have h:=playP_ok' hl
 obtain⟨r,hr⟩:=h.rank
 refine⟨r,fun x hx=> ?_,?_,fun x hx=> ?_⟩
 ·obtain⟨y,hy,rfl⟩:=List.mem_map.1 hx
  exact hr y hy
 ·have:=h.uniq
  unfold UniqI itsF at*
  rw[List.map_map];exact this
 ·obtain⟨y,hy,rfl⟩:=List.mem_map.1 hx
  exact h.pos y hy
theorem itsF_len{l:List DOp}(hl:∀o∈l,0<o.itm):(itsF l).length≤l.length:=by
 have h:=playP_ok' hl
 have:=h.len
 unfold itsF
 rw[List.length_map];exact this
theorem walk_sub{its:List DItem}{r:Int→Nat}(h:Its its r)(n:Nat){p:Int}(hp:0≤p):(walkI its n p).length≤its.length:=by
 have hn:=walkI_nodup h n hp
 have hnd:(walkI its n p).Nodup:=(List.pairwise_map.1 hn).imp (fun h e=>h (congrArg _ e))
 have:∀(w its:List DItem),w.Nodup→(∀x∈w,x∈its)→w.length≤its.length:=by
  intro w
  induction w with
  |nil=>intro its _ _;simp
  |cons a w ih=>
   intro its hn hs
   simp only[List.nodup_cons] at hn
   have ha:=hs a List.mem_cons_self
   obtain⟨s,t,rfl⟩:=List.append_of_mem ha
   have:=ih (s++t) hn.2 (fun x hx=>by
    have:=hs x (List.mem_cons_of_mem _ hx)
    simp only[List.mem_append,List.mem_cons] at this⊢
    rcases this with h|h|h
    ·exact .inl h
    ·subst h;exact absurd hx hn.1
    ·exact .inr h)
   simp only[List.length_append,List.length_cons] at*;omega
 exact this _ _ hnd (fun x hx=>(walkI_below n hx).1)
theorem WIn.start{l:List DOp}(hl:∀o∈l,0<o.itm)(hn:l.length≤1000000000){r:Int→Nat}(hr:Its (itsF l) r){K:List KE}(hK:KOk (itsF l) K []):WIn (itsF l) r ((itsF l).length+1) 0 K [] 0:=by
 have hlen:=itsF_len hl
 have hw:=walk_sub hr ((itsF l).length+1) (Int.le_refl 0)
 refine⟨hr,Int.le_refl _,by unfold Ch.mu;rw[if_pos rfl];exact Nat.le_refl _,hK,?_,by omega,by omega⟩
 rw[List.nil_append,List.nodup_cons]
 refine⟨fun hm=> ?_,walkI_nodup hr _ (Int.le_refl _)⟩
 obtain⟨y,hy,e⟩:=List.mem_map.1 hm
 have:=hr.pos y (walkI_below _ hy).1
 omega
theorem addS_mem{l:List Int}{k:Int}:∀{S:List Int},k∈addS S l↔k∈S∨k∈l:=by
 induction l with
 |nil=>intro S;simp[addS]
 |cons a l ih=>
  intro S
  have:addS S (a::l)=addS (putK id S a) l:=rfl
  rw[this,ih,List.mem_cons]
  have hm:k∈putK id S a↔k=a∨k∈S:=by
   constructor
   ·exact putK_mem
   ·rintro(rfl|h)
    ·exact putK_self
    ·by_cases e:k=a
     ·subst e;exact putK_self
     ·exact putK_old h e
  rw[hm]
  constructor
  ·rintro((h|h)|h)
   ·exact .inr (.inl h)
   ·exact .inl h
   ·exact .inr (.inr h)
  ·rintro(h|h|h)
   ·exact .inl (.inr h)
   ·exact .inl (.inl h)
   ·exact .inr h
theorem kidsL_at(l:List DItem)(p:Int):findK (kidsL l) p=none∨∃xs,findK (kidsL l) p=some (p,false,xs)∧xs.length≤l.length:=by
 cases hf:findK (kidsL l) p with
 |none=>exact .inl rfl
 |some e=>
  obtain⟨h1,h2⟩:=find_at hf
  obtain⟨h3,h4⟩:=(kidsL_inv l).has e h1
  obtain⟨k,b,xs⟩:=e
  simp only at h2 h3 h4
  subst h2 h3
  exact .inr ⟨xs,rfl,by rw[h4];exact List.length_filter_le _ _⟩
theorem addK_none{K:List KE}{x:DItem}(hf:findK K x.parent=none):putE (K.map kdM) x.parent (.rw 4 ([x].map ditT))=(addKid K x).map kdM:=by
 unfold addKid;rw[hf];exact putKD (x.parent,false,[]++[x])
theorem addK_some{K:List KE}{x:DItem}{xs:List DItem}(hf:findK K x.parent=some (x.parent,false,xs)):putE (K.map kdM) x.parent (.rw 4 ((xs++[x]).map ditT))=(addKid K x).map kdM:=by
 unfold addKid;rw[hf];exact putKD (x.parent,false,xs++[x])
@[simp] theorem srtN_len (l:List DItem):(srtN l).length=l.length:=(srtO_perm ltN l).length_eq
theorem filt_succ{l:List DItem}{q:DItem→Bool}{i:Nat}(h:i<l.length):(l.take (i+1)).filter q=(l.take i).filter q++(if q (l.getD i default) then[l.getD i default] else[]):=by
 rw[List.take_succ_eq_append_getElem h,List.filter_append]
 simp only[List.getD,List.getElem?_eq_getElem h,Option.getD_some,List.filter_cons,List.filter_nil]
end Go.Ch
end
section
set_option linter.unusedVariables false
set_option linter.unusedSimpArgs false
set_option maxRecDepth 100000
set_option maxHeartbeats 4000000
open Go Go.Proofs Go.Ab
namespace Go.Ch
theorem fc_walk0(l:List DOp)(hl:∀o∈l,0<o.itm)(hn:l.length≤1000000000)(r:Int→Nat)(hr:Its (itsF l) r)(K:List KE)(hK:KOk (itsF l) K []):FC Tryz.prog 145 [VI 0,.ptr 0 0,.ptr 1 0,.ptr 2 0,.ptr 3 0] (app emp [(0,.box [.hdl 4]),(1,.box [.row 5 (([]:List DItem).length)]),(2,.box [.hdl 6]),(3,.box [.fn 145 [.ptr 0 0,.ptr 1 0,.ptr 2 0,.ptr 3 0]]),(4,.mp (List.map kdM K) none),(5,OR 4 ditT ([]:List DItem)),(6,.mp (List.map onM ([]:List Int)) none)]) (.tup []) (app emp [(0,.box [.hdl 4]),(1,.box [.row 5 ((walkF l).length)]),(2,.box [.hdl 6]),(3,.box [.fn 145 [.ptr 0 0,.ptr 1 0,.ptr 2 0,.ptr 3 0]]),(4,.mp (List.map kdM (frzL K (0::(walkF l).map DItem.item))) none),(5,OR 4 ditT (walkF l)),(6,.mp (List.map onM (addS [] ((walkF l).map DItem.item))) none)]):=
 fc_walk (itsF l) r ((itsF l).length+1) 0 K [] [] [] (WIn.start hl hn hr hK)
theorem fc_rawI(l:List DOp)(hn:l.length≤1000000000)(ho:∀o∈l,0<o.itm):FC Tryz.prog 114 [VL 8 dopT l] (app emp []) (VL 4 ditT (rawI l)) (app emp []):=by
 refine .go Tryz.f114 ?_
 refine .len 0 (fun hl0=> ?_)
 have hok:=playP_ok' ho
 obtain⟨r,hr⟩:=itsF_ok ho
 have hlen:=itsF_len ho
 refine .loop (α:=List (DItem×Bool)×List KE×List Nat×(List DItem)) [.r [],.r [(1,X (Xc1 16 (fc_play l (by omega) (by assumption)) X0))],.r [],.r [],.le (.me 17 (List.map itM ((playP l).1)) (List.map (itM2 (playP l).2) (mkM (playP l).1 [])) (mkM_nil _ _)),.r [(4,X (Xmg (itM2 (playP l).2) (mkM (playP l).1 []) 17 96))],.le (.nR 5 4)] 105 (fun(M,K,q,a)=>([(3,.ptr 16 0),(4,.ptr 40 0),(5,.row 104 a.length),(20,.hdl 96)],[(16,.box [.hdl 17,.hdl 18]),(17,.mp (List.map (itM2 (playP l).2) M) none),(18,.mp (List.map atM ((playP l).2)) none),(32,.mp (List.map kdM K) none),(40,.box [.hdl 32]),(96,.miter 17 ((mkM (playP l).1 []).length) q),(104,OR 4 ditT a)])) (fun(M,K,q,a)=>q.Nodup∧(∀i∈q,i< (playP l).1.length)∧M=mkM (playP l).1 q∧a=q.map (fun i=>fullI (playP l).2 ((playP l).1.getD i default))∧K=kidsL a) (fun(M,K,q,a)=>(playP l).1.length-q.length) ((mkM (playP l).1 []),[],[],[]) ?_ ?_
 ·
  exact⟨List.nodup_nil,(fun i hi=>by cases hi),rfl,rfl,rfl⟩
 rintro⟨M,K,q,a⟩ I5 ih5
 try dsimp only at I5
 refine .next [] ((mkM (playP l).1 []).length) q (List.map (itM2 (playP l).2) M) (by rw[List.length_map,I5.2.2.1,mkM_len,mkM_len]) (fun i5 hi5 hn5=> ?_) (fun ha5=> ?_)
 ·
  have hi:i5< (playP l).1.length:=by rw[mkM_len] at hi5;exact hi5
  have hnd:(q++[i5]).Nodup:=by
   rw[List.nodup_append];refine⟨I5.1,by simp,fun a ha b hb e=> ?_⟩;simp at hb;subst hb e;exact hn5 ha
  have hmem:∀j∈q++[i5],j< (playP l).1.length:=fun j hj=>by
   rcases List.mem_append.1 hj with h|h
   ·exact I5.2.1 j h
   ·simp at h;subst h;exact hi
  have hql:=nodup_len _ _ hnd hmem
  have hal:a.length≤1000000000:=by
   have h1:=hok.len;rw[List.length_append] at hql;rw[I5.2.2.2.1,List.length_map];omega
  have hkk:findK K (((playP l).1).getD i5 default).parent=none∨∃xs,findK K (((playP l).1).getD i5 default).parent=some ((((playP l).1).getD i5 default).parent,false,xs)∧xs.length≤a.length:=by rw[I5.2.2.2.2];exact kidsL_at _ _
  refine .mid [.t,.r [(0,X (Xe2 (itM2 (playP l).2) M 17 ((mkM (playP l).1 []).length) (q++[i5]) i5 ((((playP l).1).getD i5 default).item) [TI (((((playP l).1).getD i5 default)).item),TI (((((playP l).1).getD i5 default)).parent),TS (((((playP l).1).getD i5 default)).place),TL 2 attrT (((((playP l).1).getD i5 default)).attrs)]) (by rw[I5.2.2.1];exact mkM_entry hi5 hn5))],.r [(6,X (Xmq (List.map atM ((playP l).2)) ((((playP l).1).getD i5 default).item) 2 attrT (findA (playP l).2 (((playP l).1).getD i5 default).item)) lookA)]] ?_
  rcases hkk with hf| ⟨xs,hf,hxl⟩
  ·
   refine .back [.r [(10,X (Xm0 (List.map kdM K) (((((playP l).1).getD i5 default)).parent)) (by rw[lookK,hf];rfl)),(15,X (rowC ditT [({item:=((((playP l).1).getD i5 default)).item,parent:=((((playP l).1).getD i5 default)).parent,place:=((((playP l).1).getD i5 default)).place,attrs:=(findA (playP l).2 (((playP l).1).getD i5 default).item)}:DItem)] (Xan ditT 361 [({item:=((((playP l).1).getD i5 default)).item,parent:=((((playP l).1).getD i5 default)).parent,place:=((((playP l).1).getD i5 default)).place,attrs:=(findA (playP l).2 (((playP l).1).getD i5 default).item)}:DItem)]))),(16,X (Xmr kdM K (addKid K (fullI (playP l).2 (((playP l).1).getD i5 default))) (((((playP l).1).getD i5 default)).parent) 32 361 4 ([({item:=((((playP l).1).getD i5 default)).item,parent:=((((playP l).1).getD i5 default)).parent,place:=((((playP l).1).getD i5 default)).place,attrs:=(findA (playP l).2 (((playP l).1).getD i5 default).item)}:DItem)].length) ditT [({item:=((((playP l).1).getD i5 default)).item,parent:=((((playP l).1).getD i5 default)).parent,place:=((((playP l).1).getD i5 default)).place,attrs:=(findA (playP l).2 (((playP l).1).getD i5 default).item)}:DItem)]) ⟨rfl,addK_none (x:=fullI (playP l).2 (((playP l).1).getD i5 default)) hf⟩)],.r [(5,X (rowC ditT [({item:=((((playP l).1).getD i5 default)).item,parent:=((((playP l).1).getD i5 default)).parent,place:=((((playP l).1).getD i5 default)).place,attrs:=(findA (playP l).2 (((playP l).1).getD i5 default).item)}:DItem)] (Xap 4 ditT 104 a [({item:=((((playP l).1).getD i5 default)).item,parent:=((((playP l).1).getD i5 default)).parent,place:=((((playP l).1).getD i5 default)).place,attrs:=(findA (playP l).2 (((playP l).1).getD i5 default).item)}:DItem)])))],.le (.mput 17 (List.map (itM2 (playP l).2) (mkM (playP l).1 (q++[i5]))) [(lookE (List.map (itM2 (playP l).2) M) ((((playP l).1).getD i5 default).item)).isSome=true,putE (List.map (itM2 (playP l).2) M) ((((playP l).1).getD i5 default).item) (.bx [TI (((((playP l).1).getD i5 default)).item),TI (((((playP l).1).getD i5 default)).parent),TS (((((playP l).1).getD i5 default)).place),TL 2 attrT (findA (playP l).2 (((playP l).1).getD i5 default).item)])=List.map (itM2 (playP l).2) (mkM (playP l).1 (q++[i5]))] ⟨(by rw[I5.2.2.1,mkM_look hok.uniq hi];rfl),(by rw[I5.2.2.1];exact mkM_put hok.uniq hi),trivial⟩)] [(16,16),(17,17),(18,18),(32,32),(40,40),(96,96),(104,104)] (ih5 ((mkM (playP l).1 (q++[i5])),(addKid K (fullI (playP l).2 (((playP l).1).getD i5 default))),(q++[i5]),(a++[({item:=((((playP l).1).getD i5 default)).item,parent:=((((playP l).1).getD i5 default)).parent,place:=((((playP l).1).getD i5 default)).place,attrs:=(findA (playP l).2 (((playP l).1).getD i5 default).item)}:DItem)])) ?_ ?_)
   ·
    exact⟨hnd,hmem,rfl,by rw[List.map_append,←I5.2.2.2.1];rfl,by rw[I5.2.2.2.2];unfold kidsL;rw[List.foldl_append];rfl⟩
   ·
    (try dsimp only);rw[List.length_append,List.length_singleton] at*;omega
  ·
   refine .back [.r [(10,X (Xm2r (List.map kdM K) (((((playP l).1).getD i5 default)).parent) 32 321 4 ditT xs) (by rw[lookK,hf];rfl)),(15,X (rowC ditT [({item:=((((playP l).1).getD i5 default)).item,parent:=((((playP l).1).getD i5 default)).parent,place:=((((playP l).1).getD i5 default)).place,attrs:=(findA (playP l).2 (((playP l).1).getD i5 default).item)}:DItem)] (Xap 4 ditT 321 xs [({item:=((((playP l).1).getD i5 default)).item,parent:=((((playP l).1).getD i5 default)).parent,place:=((((playP l).1).getD i5 default)).place,attrs:=(findA (playP l).2 (((playP l).1).getD i5 default).item)}:DItem)]))),(16,X (Xmrh kdM K (addKid K (fullI (playP l).2 (((playP l).1).getD i5 default))) (((((playP l).1).getD i5 default)).parent) (((((playP l).1).getD i5 default)).parent) 32 321 4 ((xs++[({item:=((((playP l).1).getD i5 default)).item,parent:=((((playP l).1).getD i5 default)).parent,place:=((((playP l).1).getD i5 default)).place,attrs:=(findA (playP l).2 (((playP l).1).getD i5 default).item)}:DItem)]).length) ditT (xs++[({item:=((((playP l).1).getD i5 default)).item,parent:=((((playP l).1).getD i5 default)).parent,place:=((((playP l).1).getD i5 default)).place,attrs:=(findA (playP l).2 (((playP l).1).getD i5 default).item)}:DItem)])) ⟨rfl,rfl,addK_some (x:=fullI (playP l).2 (((playP l).1).getD i5 default)) hf⟩)],.r [(5,X (rowC ditT [({item:=((((playP l).1).getD i5 default)).item,parent:=((((playP l).1).getD i5 default)).parent,place:=((((playP l).1).getD i5 default)).place,attrs:=(findA (playP l).2 (((playP l).1).getD i5 default).item)}:DItem)] (Xap 4 ditT 104 a [({item:=((((playP l).1).getD i5 default)).item,parent:=((((playP l).1).getD i5 default)).parent,place:=((((playP l).1).getD i5 default)).place,attrs:=(findA (playP l).2 (((playP l).1).getD i5 default).item)}:DItem)])))],.le (.mput 17 (List.map (itM2 (playP l).2) (mkM (playP l).1 (q++[i5]))) [(lookE (List.map (itM2 (playP l).2) M) ((((playP l).1).getD i5 default).item)).isSome=true,putE (List.map (itM2 (playP l).2) M) ((((playP l).1).getD i5 default).item) (.bx [TI (((((playP l).1).getD i5 default)).item),TI (((((playP l).1).getD i5 default)).parent),TS (((((playP l).1).getD i5 default)).place),TL 2 attrT (findA (playP l).2 (((playP l).1).getD i5 default).item)])=List.map (itM2 (playP l).2) (mkM (playP l).1 (q++[i5]))] ⟨(by rw[I5.2.2.1,mkM_look hok.uniq hi];rfl),(by rw[I5.2.2.1];exact mkM_put hok.uniq hi),trivial⟩)] [(16,16),(17,17),(18,18),(32,32),(40,40),(96,96),(104,104)] (ih5 ((mkM (playP l).1 (q++[i5])),(addKid K (fullI (playP l).2 (((playP l).1).getD i5 default))),(q++[i5]),(a++[({item:=((((playP l).1).getD i5 default)).item,parent:=((((playP l).1).getD i5 default)).parent,place:=((((playP l).1).getD i5 default)).place,attrs:=(findA (playP l).2 (((playP l).1).getD i5 default).item)}:DItem)])) ?_ ?_)
   ·
    exact⟨hnd,hmem,rfl,by rw[List.map_append,←I5.2.2.2.1];rfl,by rw[I5.2.2.2.2];unfold kidsL;rw[List.foldl_append];rfl⟩
   ·
    (try dsimp only);rw[List.length_append,List.length_singleton] at*;omega
 ·
  have hsl:=srtN_len a
  have hwl:(walkF l).length≤(itsF l).length:=walk_sub hr _ (Int.le_refl 0)
  have hp:a.Perm (itsF l):=by rw[I5.2.2.2.1];exact allI_perm _ I5.1 I5.2.1 (fun i hi=>ha5 i (by rw[mkM_len];exact hi))
  have hK:KOk (itsF l) K []:=by rw[I5.2.2.2.2];exact(kidsL_inv a).ok hp
  have hua:UniqI DItem.item a:=by(have:=hr.uq;unfold UniqI at*;exact(hp.map _).nodup_iff.2 this)
  have hla:a.length≤1000000000:=by rw[hp.length_eq];omega
  have hsa:srtN a=srtN (itsF l):=srtN_eq hp hua
  refine .loop (α:=Nat×(List DItem)) [.f,.r [],.r [],.r [],.r [],.le (.nB 121 0 4),.r [(1,X (Xc3 186 [(0,40),(1,121),(2,137),(3,153),(4,32),(5,177),(6,129)] (fc_walk0 l ho hn r hr K hK) X0))],.r [(1,X (Xc3 202 [(0,104)] (fc_sortN a (by first|assumption|omega) (by assumption)) X0))],.r []] 234 (fun(i,o2)=>([(8,.ptr 121 0),(9,.ptr 137 0),(63,.row 104 a.length),(64,VI (a.length:Int)),(65,VI (i:Int))],[(104,OR 4 ditT (srtN a)),(121,.box [.row 177 o2.length]),(129,.mp (List.map onM (addS [] ((walkF l).map DItem.item))) none),(137,.box [.hdl 129]),(177,OR 4 ditT o2)])) (fun(i,o2)=>i≤a.length∧o2=walkF l++((srtN a).take i).filter fun x=>decide (x.item∉(walkF l).map DItem.item)) (fun(i,o2)=>a.length-i) (0,(walkF l)) ?_ ?_
  ·
   exact⟨Nat.zero_le _,by simp⟩
  rintro⟨i,o2⟩ I17 ih17
  try dsimp only at I17
  refine .bp [.r []] (decide ((i:Int)< (a.length:Int))) (fun h17=> ?_) (fun h17=> ?_)
  ·
   have hol:o2.length≤1099511627775:=by
    have:=List.length_filter_le (fun x=>decide (x.item∉(walkF l).map DItem.item)) ((srtN a).take i)
    rw[List.length_take] at this;rw[I17.2,List.length_append];omega
   refine .bp [.r [(0,X (Xpn a.length ditT (srtN a) (i:Int))),(1,X (Xen a.length ditT (srtN a) i))],.r [(3,X (Xmt (List.map onM (addS [] ((walkF l).map DItem.item))) ((((srtN a).getD i default)).item) (Ab.TB false) (Ab.TB (decide (((srtN a).getD i default).item∈addS [] ((walkF l).map DItem.item))))) lookS)]] (!(decide (((srtN a).getD i default).item∈addS [] ((walkF l).map DItem.item)))) (fun h19=> ?_) (fun h19=> ?_)
   ·
    refine .back [.r [(3,X (rowC ditT [(((srtN a).getD i default))] (Xap 4 ditT 177 o2 [(((srtN a).getD i default))])))],.r [(0,X (Xn ((i:Int)+1)))]] [(104,104),(121,121),(129,129),(137,137),(177,177)] (ih17 ((i+1),(o2++[(((srtN a).getD i default))])) ?_ ?_)
    ·
     simp only[addS_mem,List.not_mem_nil,false_or] at h19
     refine⟨by omega,?_⟩
     rw[I17.2,filt_succ (by omega)]
     first
      |rw[if_pos (by simpa using h19),List.append_assoc]
      |rw[if_neg (by simpa using h19),List.append_nil]
    ·
     ((try dsimp only);omega)
   ·
    refine .back [.r [(0,X (Xn ((i:Int)+1)))]] [(104,104),(121,121),(129,129),(137,137),(177,177)] (ih17 ((i+1),o2) ?_ ?_)
    ·
     simp only[addS_mem,List.not_mem_nil,false_or] at h19
     refine⟨by omega,?_⟩
     rw[I17.2,filt_succ (by omega)]
     first
      |rw[if_pos (by simpa using h19),List.append_assoc]
      |rw[if_neg (by simpa using h19),List.append_nil]
    ·
     ((try dsimp only);omega)
  ·
   have e1:((rawI l):List DItem)=o2:=by
    have hi:i=(srtN a).length:=by omega
    rw[I17.2,hi,List.take_length,hsa];rfl
   exact .finE [.r [],.le (.fr 2 [(o2.length:Nat)=(List.map ditT o2).length] ⟨lm,trivial⟩)] [] (fun z0:List DItem=>(VL 4 ditT z0,[])) _ _ e1
end Go.Ch
end
section
set_option linter.unusedVariables false
set_option linter.unusedSimpArgs false
set_option maxRecDepth 100000
namespace Go.Ch
open Go Go.Ab
def shownF(l:List DItem)(i:Nat):Nat:=if i<l.length then if(l.getD i default).parent∈0::(l.take i).map DItem.item then shownF l (i+1) else i else l.length
termination_by l.length-i
theorem take_succD{l:List DItem}{i:Nat}(h:i<l.length):l.take (i+1)=l.take i++[l.getD i default]:=by
 rw[List.take_succ_eq_append_getElem h]
 simp[List.getD,List.getElem?_eq_getElem h]
theorem shown_next{l:List DItem}{S:List Int}{i:Nat}(h:i<l.length)(hS:∀k,k∈S↔k∈0::(l.take i).map DItem.item):
 ∀k,k∈putK id S (l.getD i default).item↔k∈0::(l.take (i+1)).map DItem.item:=by
 intro k
 have hm:k∈putK id S (l.getD i default).item↔k=(l.getD i default).item∨k∈S:=by
  have:=addS_mem (l:=[(l.getD i default).item]) (k:=k) (S:=S)
  simp only[addS,List.foldl_cons,List.foldl_nil,List.mem_singleton] at this
  rw[this];exact Or.comm
 rw[hm,hS k,take_succD h,List.map_append]
 simp only[List.mem_cons,List.mem_append,List.map_cons,List.map_nil,List.not_mem_nil,or_false]
 constructor
 ·rintro(h|h|h)
  ·exact .inr (.inr h)
  ·exact .inl h
  ·exact .inr (.inl h)
 ·rintro(h|h|h)
  ·exact .inr (.inl h)
  ·exact .inr (.inr h)
  ·exact .inl h
def withinI(x lo hi:Int):Int:=lo+((x.tmod (hi-lo+1))+(hi-lo+1)).tmod (hi-lo+1)
theorem tmod_bd(x:Int){n:Int}(hn:0<n): -n<x.tmod n∧x.tmod n<n:=by
 have h1:=Int.tmod_lt_of_pos x hn
 have h2: -n<x.tmod n:=by
  rcases Int.le_total 0 x with h|h
  ·have:=Int.tmod_nonneg n h;omega
  ·have h3:=Int.tmod_lt_of_pos (-x) hn
   rw[Int.neg_tmod] at h3;omega
 exact⟨h2,h1⟩
theorem withinI_bd(x:Int){lo hi:Int}(h:lo≤hi):lo≤withinI x lo hi∧withinI x lo hi≤hi:=by
 unfold withinI
 have h1:=tmod_bd x (n:=hi-lo+1) (by omega)
 have h2:=Int.tmod_nonneg (hi-lo+1) (a:=(x.tmod (hi-lo+1))+(hi-lo+1)) (by omega)
 have h3:=Int.tmod_lt_of_pos ((x.tmod (hi-lo+1))+(hi-lo+1)) (b:=hi-lo+1) (by omega)
 omega
theorem drawE_iff{l:List DOp}:drawE l 0=0↔(∀i,i<l.length→opE (l.getD i default)=0)∧∀i,i+1<l.length→ltO (l.getD i default) (l.getD (i+1) default):=by
 have key:∀(d i:Nat),l.length-i=d→(drawE l i=0↔(∀j,i≤j→j<l.length→opE (l.getD j default)=0)∧∀j,i≤j→0<j→j<l.length→ltO (l.getD (j- 1) default) (l.getD j default)):=by
  intro d
  induction d with
  |zero=>
   intro i h
   rw[drawE,if_neg (by omega)]
   exact⟨fun _=>⟨fun j _ _=>by omega,fun j _ _ _=>by omega⟩,fun _=>rfl⟩
  |succ d ih=>
   intro i h
   rw[drawE,if_pos (by omega)]
   by_cases h1:opE (l.getD i default)=0
   ·rw[if_neg (fun hh=>hh h1)]
    by_cases h2:0<i∧¬ltO (l.getD (i- 1) default) (l.getD i default)
    ·rw[if_pos h2]
     exact⟨fun h=>by omega,fun h=>absurd (h.2 i (Nat.le_refl _) h2.1 (by omega)) h2.2⟩
    ·rw[if_neg h2,ih (i+1) (by omega)]
     constructor
     ·rintro⟨a,b⟩
      refine⟨fun j hj hl=> ?_,fun j hj h0 hl=> ?_⟩
      ·by_cases e:j=i
       ·rw[e];exact h1
       ·exact a j (by omega) hl
      ·by_cases e:j=i
       ·subst e;exact Decidable.not_not.1 (fun hh=>h2 ⟨h0,hh⟩)
       ·exact b j (by omega) h0 hl
     ·rintro⟨a,b⟩
      exact⟨fun j hj hl=>a j (by omega) hl,fun j hj h0 hl=>b j (by omega) h0 hl⟩
   ·rw[if_pos h1]
    exact⟨fun h=>absurd h h1,fun h=>h.1 i (Nat.le_refl _) (by omega)⟩
 rw[key _ 0 rfl]
 constructor
 ·rintro⟨a,b⟩
  exact⟨fun i hi=>a i (Nat.zero_le _) hi,fun i hi=>by have:=b (i+1) (Nat.zero_le _) (by omega) hi;simpa using this⟩
 ·rintro⟨a,b⟩
  refine⟨fun i _ hi=>a i hi,fun i _ h0 hi=> ?_⟩
  have:=b (i- 1) (by omega)
  rwa [show i- 1+1=i by omega] at this
theorem opE_pos{o:DOp}(h:opE o=0):0<o.itm:=by
 unfold opE at h
 split at h
 ·cases h
 ·split at h
  ·cases h
  ·rename_i h2;omega
theorem drawE_pos{l:List DOp}(h:drawE l 0=0):∀o∈l,0<o.itm:=by
 intro o ho
 obtain⟨i,hi,rfl⟩:=List.mem_iff_getElem.1 ho
 have:=(drawE_iff.1 h).1 i hi
 rw[show l.getD i default=l[i] by simp[List.getD,List.getElem?_eq_getElem hi]] at this
 exact opE_pos this
end Go.Ch
end
section
set_option linter.unusedVariables false
set_option linter.unusedSimpArgs false
set_option maxRecDepth 100000
set_option maxHeartbeats 4000000
open Go Go.Proofs Go.Ab
namespace Go.Ch
theorem fc_dshown(l:List DItem):FC Tryz.prog 115 [VL 4 ditT l] (app emp []) (VI (shownF l 0:Int)) (app emp []):=by
 refine .go Tryz.f115 ?_
 refine .len 0 (fun hl0=> ?_)
 refine .loop (α:=Nat×List Int) [.r [],.r [(1,X (Xmu onM [] [0] 0 8 (.im (Ab.TB true))) (putS (S:=[])))],.r [(1,X (Xl ditT l))]] 64 (fun(i,S)=>([(0,VL 4 ditT l),(3,.hdl 8),(8,VL 4 ditT l),(9,VI (l.length:Int)),(10,VI (i:Int))],[(8,.mp (List.map onM S) none)])) (fun(i,S)=>i≤l.length∧shownF l 0=shownF l i∧∀k,k∈S↔k∈0::(l.take i).map DItem.item) (fun(i,S)=>l.length-i) (0,[0]) ?_ ?_
 ·
  exact⟨by omega,rfl,fun k=>by simp⟩
 rintro⟨i,S⟩ I3 ih3
 try dsimp only at I3
 refine .bp [.r []] (decide ((i:Int)< (l.length:Int))) (fun h3=> ?_) (fun h3=> ?_)
 ·
  refine .bp [.r [(1,X (Xi ditT l (i:Int)))],.r [(3,X (Xmt (List.map onM S) (((l.getD i default)).parent) (Ab.TB false) (Ab.TB (decide ((l.getD i default).parent∈S)))) lookS)]] (!(decide ((l.getD i default).parent∈S))) (fun h5=> ?_) (fun h5=> ?_)
  ·
   have e1:((shownF l 0:Int):Int)=(i:Int):=by
    have hp:¬(l.getD i default).parent∈0::(l.take i).map DItem.item:=by rw[←I3.2.2];simpa using h5
    rw[I3.2.1,shownF,if_pos (by omega),if_neg hp]
   exact .finE [.r []] [] (fun z0:Int=>(VI z0,[])) _ _ e1
  ·
   refine .back [.r [(3,X (Xmu onM S (putK id S (l.getD i default).item) (((l.getD i default)).item) 8 (.im (Ab.TB true))) putS)],.r [(0,X (Xn ((i:Int)+1)))]] [(8,8)] (ih3 ((i+1),(putK id S (l.getD i default).item)) ?_ ?_)
   ·
    have hp:(l.getD i default).parent∈0::(l.take i).map DItem.item:=by rw[←I3.2.2];simpa using h5
    refine⟨by omega,?_,shown_next (by omega) I3.2.2⟩
    rw[I3.2.1,shownF,if_pos (by omega),if_pos hp]
   ·
    ((try dsimp only);omega)
 ·
  have e2:((shownF l 0:Int):Int)=(l.length:Int):=by
   rw[I3.2.1,shownF,if_neg (by omega)]
  exact .finE [.r [(1,X (Xl ditT l))]] [] (fun z0:Int=>(VI z0,[])) _ _ e2
end Go.Ch
end
section
set_option linter.unusedVariables false
set_option linter.unusedSimpArgs false
set_option maxRecDepth 100000
set_option maxHeartbeats 4000000
open Go Go.Proofs Go.Ab
namespace Go.Ch
end Go.Ch
end
section
set_option linter.unusedVariables false
set_option linter.unusedSimpArgs false
set_option maxRecDepth 100000
set_option maxHeartbeats 4000000
open Go Go.Proofs Go.Ab
namespace Go.Ch
theorem fc_decG(s:ByteArray):FC Tryz.prog 181 [VS s] (app emp []) (.tup [.t (.sc (.int .i32 (decR s))),VI (decW s:Int)]) (app emp []):=by
 refine FC.ofTab (us:=[.string s]) (v:= .tuple #[.int .i32 (Lib.decodeGo s).1,.int .i64 (Lib.decodeGo s).2]) (fun st m w ok xs hl hv=> ?_) (fun st m w ok=> ?_) (fun w hT=> ?_)
 ·match xs,hl with
  | [x],_=>
   have:=VRel.sc_inv (hv 0 _ _ rfl rfl)
   rw[this]
 ·refine .tup _ [.int .i32 (Lib.decodeGo s).1,.int .i64 (Lib.decodeGo s).2] rfl (fun i v u h1 h2=> ?_)
  match i with
  |0=>cases h1;cases h2;exact .t _ _ (.sc _ rfl)
  |1=>cases h1;cases h2;exact .t _ _ (.sc _ rfl)
  |i+2=>cases h1
 ·exact Tryz.utf8_DecodeRuneInString s w (hT.utf 0 1 (by kernel_rfl) (by kernel_rfl))
end Go.Ch
end
section
set_option linter.unusedVariables false
set_option linter.unusedSimpArgs false
set_option maxRecDepth 100000
set_option maxHeartbeats 4000000
open Go Go.Proofs Go.Ab
namespace Go.Ch
theorem fc_text(s:ByteArray):FC Tryz.prog 155 [VS s] (app emp []) (VB (textG s)) (app emp []):=by
 refine .go Tryz.f155 ?_
 refine .loop (α:=ByteArray) [.r []] 8 (fun u=>([(0,VS u)],[])) (fun u=>textG s=textG u) (fun u=>u.size) (s:ByteArray) ?_ ?_
 ·
  rfl
 rintro u I1 ih1
 replace I1:textG s=textG u:=I1
 refine .bp [.r []] (!(seq u ({data:=#[]}))) (fun h1=> ?_) (fun h1=> ?_)
 ·
  rw[seq_mt,decide_eq_false_iff_not] at h1
  have hu:0<u.size:=by omega
  have hw:=decW_bd hu
  have hr:=decR_bd u
  refine .bp [.r [(1,X (Xc0 (fc_decG u) X0))],.r [(4,Xv 1 ((decR u)==65533) X0),(5,X (Xk ((decR u)==65533))),(8,Xv 1 (!(((decR u)==65533)&&((decW u:Int)==1))) X0),(9,X (Xk' (((decR u)==65533)&&((decW u:Int)==1)))),(12,Xv 1 (!((((decR u)==65533)&&((decW u:Int)==1))|| ((decR u)==10))) (Xn (decR u))),(13,Xv 1 (!((((decR u)==65533)&&((decW u:Int)==1))|| ((decR u)==10))) (Xc0 (fc_char (decR u)) X0)),(14,Xv 1 (!((((decR u)==65533)&&((decW u:Int)==1))|| ((decR u)==10))) X0),(15,X (Xk' ((((decR u)==65533)&&((decW u:Int)==1))|| ((decR u)==10))))]] (((((decR u)==65533)&&((decW u:Int)==1))|| ((decR u)==10))|| !(decide (CharP (decR u)))) (fun h3=> ?_) (fun h3=> ?_)
  ·
   have hb:badT u:=by rcases h3 with(h|h)|h;(exact .inl ⟨h.1,by omega⟩);(exact .inr (.inl h));(exact .inr (.inr h))
   have e1:((textG s):Bool)=false:=by
    rw[I1,textG_bad hu hb]
   exact .finE [.r []] [] (fun z0:Bool=>(VB z0,[])) _ _ e1
  ·
   have hb:¬badT u:=by rintro(q|q|q);(rcases h3.1.1 with h|h;(exact h q.1);(exact h (by omega)));(exact h3.1.2 q);(exact q h3.2)
   refine .back [.r [(2,X (Xa (Xc ((0:Int)≤(decW u:Int))) (Xa (Xc (((decW u:Int):Int)≤(u.size:Int))) (Xc (((u.size:Int):Int)≤(u.size:Int))))))]] [] (ih1 ((u.extract (((decW u:Int):Int)).toNat (((u.size:Int):Int)).toNat):ByteArray) ?_ ?_)
   ·
    rw[I1,textG_go hu hb]
    rfl
   ·
    show(u.extract (decW u) u.size).size<u.size
    rw[ByteArray.size_extract];omega
 ·
  have e2:((textG s):Bool)=true:=by
   rw[seq_mt,decide_eq_true_eq] at h1
   rw[I1,textG_end (by omega)]
  exact .finE [.r []] [] (fun z0:Bool=>(VB z0,[])) _ _ e2
end Go.Ch
end
section
set_option linter.unusedVariables false
set_option linter.unusedSimpArgs false
set_option maxRecDepth 100000
set_option maxHeartbeats 4000000
open Go Go.Proofs Go.Ab
namespace Go.Ch
theorem fc_cells(l:List Cell)(m n:Int)(o:Bool):FC Tryz.prog 120 [VL 5 cellT l,VI m,VI n,VB o] (app emp []) (VI (cellsE l m n o 0)) (app emp []):=by
 refine .go Tryz.f120 ?_
 refine .len 0 (fun hl0=> ?_)
 refine .loop (α:=Nat) [.r [],.r [(1,X (Xl cellT l))]] 32 (fun i=>([(0,VL 5 cellT l),(1,VI m),(2,VI n),(3,VB o),(12,VL 5 cellT l),(13,VI (l.length:Int)),(14,VI (i:Int))],[])) (fun i=>i≤l.length∧cellsE l m n o 0=cellsE l m n o i) (fun i=>l.length-i) (0:Nat) ?_ ?_
 ·
  exact⟨by omega,rfl⟩
 rintro i I2 ih2
 try dsimp only at I2
 refine .bp [.r []] (decide ((i:Int)< (l.length:Int))) (fun h2=> ?_) (fun h2=> ?_)
 ·
  have hx:cellsE l m n o i=_:=cellsE.eq_1 l m n o i
  rw[if_pos (by omega)] at hx
  unfold cellE at hx
  refine .bp [.r [(1,X (Xi cellT l (i:Int)))],.r [(5,Xv 1 (!(decide ((((l.getD i default)).row)< 0))) X0),(7,Xv 2 (!(decide ((((l.getD i default)).row)< 0))) X0),(8,X (Xk' (decide ((((l.getD i default)).row)< 0)))),(11,Xv 1 (!(decide ((((l.getD i default)).row)< 0)||decide ((((l.getD i default)).row)≥m))) X0),(12,Xv 1 (!(decide ((((l.getD i default)).row)< 0)||decide ((((l.getD i default)).row)≥m))) X0),(13,X (Xk' (decide ((((l.getD i default)).row)< 0)||decide ((((l.getD i default)).row)≥m)))),(16,Xv 1 (!((decide ((((l.getD i default)).row)< 0)||decide ((((l.getD i default)).row)≥m))||decide ((((l.getD i default)).col)< 0))) X0),(18,Xv 2 (!((decide ((((l.getD i default)).row)< 0)||decide ((((l.getD i default)).row)≥m))||decide ((((l.getD i default)).col)< 0))) X0),(19,X (Xk' ((decide ((((l.getD i default)).row)< 0)||decide ((((l.getD i default)).row)≥m))||decide ((((l.getD i default)).col)< 0))))]] (((decide ((((l.getD i default)).row)< 0)||decide ((((l.getD i default)).row)≥m))||decide ((((l.getD i default)).col)< 0))||decide ((((l.getD i default)).col)≥n)) (fun h4=> ?_) (fun h4=> ?_)
  ·
   have e1:((cellsE l m n o 0):Int)=2:=by
    first| (rw[I2.2,hx];((repeat' split)<;>first|rfl|omega| (simp_all;done)| (simp_all;omega)))| (rw[I2.2,cellsE,if_neg (by omega)])
   exact .finE [.r []] [] (fun z0:Int=>(VI z0,[])) _ _ e1
  ·
   refine .bp [.r [(5,Xv 1 (!(decide ((((l.getD i default)).ref)< 0))) X0),(6,Xv 1 (!(decide ((((l.getD i default)).ref)< 0))) X0),(7,X (Xk' (decide ((((l.getD i default)).ref)< 0))))]] (decide ((((l.getD i default)).ref)< 0)||decide ((((l.getD i default)).ref)> 1073741824)) (fun h6=> ?_) (fun h6=> ?_)
   ·
    have e2:((cellsE l m n o 0):Int)=2:=by
     first| (rw[I2.2,hx];((repeat' split)<;>first|rfl|omega| (simp_all;done)| (simp_all;omega)))| (rw[I2.2,cellsE,if_neg (by omega)])
    exact .finE [.r []] [] (fun z0:Int=>(VI z0,[])) _ _ e2
   ·
    refine .bp [.r [(2,X (Xc0 (fc_text (((l.getD i default)).text)) X0))]] (!(textG (((l.getD i default)).text))) (fun h8=> ?_) (fun h8=> ?_)
    ·
     have e3:((cellsE l m n o 0):Int)=23:=by
      first| (rw[I2.2,hx];((repeat' split)<;>first|rfl|omega| (simp_all;done)| (simp_all;omega)))| (rw[I2.2,cellsE,if_neg (by omega)])
     exact .finE [.r []] [] (fun z0:Int=>(VI z0,[])) _ _ e3
    ·
     refine .bp [.r [(2,X (Xc0 (fc_acheck (((l.getD i default)).attrs)) X0))],.r []] ((chkA false (((l.getD i default)).attrs) 0) !=0) (fun h11=> ?_) (fun h11=> ?_)
     ·
      have e4:((cellsE l m n o 0):Int)=(chkA false (((l.getD i default)).attrs) 0):=by
       first| (rw[I2.2,hx];((repeat' split)<;>first|rfl|omega| (simp_all;done)| (simp_all;omega)))| (rw[I2.2,cellsE,if_neg (by omega)])
      exact .finE [.r []] [] (fun z0:Int=>(VI z0,[])) _ _ e4
     ·
      refine .bp [.r [(1,X (Xc0 (fc_empty ((l.getD i default))) X0)),(4,Xv 1 (emptyC ((l.getD i default))) X0),(5,X (Xk (emptyC ((l.getD i default)))))]] ((emptyC ((l.getD i default)))&& !o) (fun h13=> ?_) (fun h13=> ?_)
      ·
       have e5:((cellsE l m n o 0):Int)=4:=by
        first| (rw[I2.2,hx];((repeat' split)<;>first|rfl|omega| (simp_all;done)| (simp_all;omega)))| (rw[I2.2,cellsE,if_neg (by omega)])
       exact .finE [.r []] [] (fun z0:Int=>(VI z0,[])) _ _ e5
      ·
       refine .bp [.r [(5,Xv 1 (decide ((i:Int)> 0)) (Xn ((i:Int)- 1))),(6,Xv 2 (decide ((i:Int)> 0)) (Xi' cellT l ((i:Int)- 1) (i- 1))),(7,Xv 1 (decide ((i:Int)> 0)) X0),(9,Xv 2 (decide ((i:Int)> 0)) (Xc0 (fc_order ((l.getD (i- 1) default)) ((l.getD i default))) X0)),(10,Xv 1 (decide ((i:Int)> 0)) X0),(11,X (Xk (decide ((i:Int)> 0))))]] (decide ((i:Int)> 0)&&decide ((ordC ((l.getD (i- 1) default)) ((l.getD i default)))≥0)) (fun h15=> ?_) (fun h15=> ?_)
       ·
        have e6:((cellsE l m n o 0):Int)=5:=by
         first| (rw[I2.2,hx];((repeat' split)<;>first|rfl|omega| (simp_all;done)| (simp_all;omega)))| (rw[I2.2,cellsE,if_neg (by omega)])
        exact .finE [.r []] [] (fun z0:Int=>(VI z0,[])) _ _ e6
       ·
        refine .back [.r [(0,X (Xn ((i:Int)+1)))]] [] (ih2 ((i+1):Nat) ?_ ?_)
        ·
         refine⟨by omega,?_⟩
         rw[I2.2,hx]
         ((repeat' split)<;>first|rfl|omega| (simp_all;done)| (simp_all;omega))
        ·
         ((try dsimp only);omega)
 ·
  have e7:((cellsE l m n o 0):Int)=0:=by
   first| (rw[I2.2,hx];((repeat' split)<;>first|rfl|omega| (simp_all;done)| (simp_all;omega)))| (rw[I2.2,cellsE,if_neg (by omega)])
  exact .finE [.r []] [] (fun z0:Int=>(VI z0,[])) _ _ e7
end Go.Ch
end
section
set_option linter.unusedVariables false
set_option linter.unusedSimpArgs false
set_option maxRecDepth 100000
set_option maxHeartbeats 4000000
open Go Go.Proofs Go.Ab
namespace Go.Ch
theorem fc_chk1(q:Rect)(a b c d:Int)(hq:RB q)(hr:RB ⟨a,b,c,d⟩):FC Tryz.prog 124 [.t (rectT q),.ptr 0 0] (app emp [(0,.box [VI a,VI b,VI c,VI d])]) (VB (meetB q ⟨a,b,c,d⟩)) (app emp [(0,.box [VI a,VI b,VI c,VI d])]):=by
 refine .go Tryz.f124 ?_
 have e1:((meetB q ⟨a,b,c,d⟩):Bool)=(meetB q ({row:=a,col:=b,h:=c,w:=d}:Rect)):=by
  rfl
 exact .finE [.r [],.r [(2,X (Xc0 (fc_meets q ({row:=a,col:=b,h:=c,w:=d}:Rect) (by assumption) (by assumption)) X0))]] [(0,0)] (fun z0:Bool=>(VB z0,[(0,.box [VI a,VI b,VI c,VI d])])) _ _ e1
theorem fc_idxF_chk(l:List Rect)(a b c d:Int)(hl:AllRB l)(hr:RB ⟨a,b,c,d⟩):FC Tryz.prog 158 [VL 4 rectT l,.fn 124 [.ptr 0 0]] (app emp [(0,.box [VI a,VI b,VI c,VI d])]) (VI (idxF (fun q=>meetB q ⟨a,b,c,d⟩) l 0)) (app emp [(0,.box [VI a,VI b,VI c,VI d])]):=by
 refine .go Tryz.f158 ?_
 refine .len 0 (fun hl0=> ?_)
 refine .loop (α:=Nat) [.r [],.r [(1,X (Xl rectT l))]] 33 (fun i=>([(0,VL 4 rectT l),(1,.fn 124 [.ptr 0 0]),(7,VI (l.length:Int)),(8,VI (i:Int))],[(0,.box [VI a,VI b,VI c,VI d])])) (fun i=>i≤l.length∧idxF (fun q=>meetB q ⟨a,b,c,d⟩) l 0=idxF (fun q=>meetB q ⟨a,b,c,d⟩) l i) (fun i=>l.length-i) (0:Nat) ?_ ?_
 ·
  exact⟨by omega,rfl⟩
 rintro i I2 ih2
 try dsimp only at I2
 refine .bp [.r []] (decide ((i:Int)< (l.length:Int))) (fun h2=> ?_) (fun h2=> ?_)
 ·
  have hm:=hl _ (getDX_mem (l:=l) (i:=i) (by omega))
  refine .bp [.r [],.r [(3,X (Xi rectT l (i:Int))),(5,X (Xc3 97 [(0,0)] (fc_chk1 ((l.getD i default)) a b c d (by assumption) (by assumption)) X0))]] (meetB ((l.getD i default)) ⟨a,b,c,d⟩) (fun h4=> ?_) (fun h4=> ?_)
  ·
   have e1:((idxF (fun q=>meetB q ⟨a,b,c,d⟩) l 0):Int)=(i:Int):=by
    rw[I2.2,idxF,if_pos (by omega),if_pos h4]
   exact .finE [.r []] [(0,0)] (fun z0:Int=>(VI z0,[(0,.box [VI a,VI b,VI c,VI d])])) _ _ e1
  ·
   refine .back [.r [(0,X (Xn ((i:Int)+1)))]] [(0,0)] (ih2 ((i+1):Nat) ?_ ?_)
   ·
    refine⟨by omega,?_⟩
    rw[I2.2,idxF,if_pos (by omega),if_neg (by rw[h4];decide)]
   ·
    ((try dsimp only);omega)
 ·
  have e2:((idxF (fun q=>meetB q ⟨a,b,c,d⟩) l 0):Int)= -1:=by
   rw[I2.2,idxF,if_neg (by omega)]
  exact .finE [.r []] [(0,0)] (fun z0:Int=>(VI z0,[(0,.box [VI a,VI b,VI c,VI d])])) _ _ e2
theorem fc_anyF(l:List Rect)(a b c d:Int)(hl:AllRB l)(hr:RB ⟨a,b,c,d⟩):FC Tryz.prog 123 [VL 4 rectT l,.fn 124 [.ptr 0 0]] (app emp [(0,.box [VI a,VI b,VI c,VI d])]) (VB (anyM l ⟨a,b,c,d⟩)) (app emp [(0,.box [VI a,VI b,VI c,VI d])]):=by
 refine .go Tryz.f123 ?_
 refine .len 0 (fun hl0=> ?_)
 have e1:((anyM l ⟨a,b,c,d⟩):Bool)=decide ((idxF (fun q=>meetB q ⟨a,b,c,d⟩) l 0)≥0):=by
  unfold anyM;rw[Bool.eq_iff_iff,decide_eq_true_eq,ge_iff_le,idxF_any]
 exact .finE [.r [],.r [(2,X (Xc3 25 [(0,0)] (fc_idxF_chk l a b c d (by assumption) (by assumption)) X0))]] [(0,0)] (fun z0:Bool=>(VB z0,[(0,.box [VI a,VI b,VI c,VI d])])) _ _ e1
end Go.Ch
end
section
set_option linter.unusedVariables false
set_option linter.unusedSimpArgs false
set_option maxRecDepth 100000
set_option maxHeartbeats 4000000
open Go Go.Proofs Go.Ab
namespace Go.Ch
theorem fc_gcheck(x:Grid)(hl:x.merges.length≤100000000000):FC Tryz.prog 88 [.t (gridT x)] (app emp []) (VI (gridE x)) (app emp []):=by
 refine .go Tryz.f88 ?_
 refine .bp [.r [],.r [(5,Xv 1 (!(decide (x.rows<0))) X0),(6,Xv 1 (!(decide (x.rows<0))) X0),(7,X (Xk' (decide (x.rows<0)))),(10,Xv 1 (!(decide (x.rows<0)||decide (x.rows>2147483647))) X0),(11,Xv 1 (!(decide (x.rows<0)||decide (x.rows>2147483647))) X0),(12,X (Xk' (decide (x.rows<0)||decide (x.rows>2147483647)))),(15,Xv 1 (!((decide (x.rows<0)||decide (x.rows>2147483647))||decide (x.cols<0))) X0),(16,Xv 1 (!((decide (x.rows<0)||decide (x.rows>2147483647))||decide (x.cols<0))) X0),(17,X (Xk' ((decide (x.rows<0)||decide (x.rows>2147483647))||decide (x.cols<0))))]] (((decide (x.rows<0)||decide (x.rows>2147483647))||decide (x.cols<0))||decide (x.cols>2147483647)) (fun h1=> ?_) (fun h1=> ?_)
 ·
  have e1:((gridE x):Int)=2:=by
   unfold gridE;rw[if_pos (by omega)]
  exact .finE [.r []] [] (fun z0:Int=>(VI z0,[])) _ _ e1
 ·
  refine .bp [.r [(6,X (Xc0 (fc_cells x.cells x.rows x.cols false) X0))],.r []] ((cellsE x.cells x.rows x.cols false 0) !=0) (fun h4=> ?_) (fun h4=> ?_)
  ·
   have e2:((gridE x):Int)=(cellsE x.cells x.rows x.cols false 0):=by
    unfold gridE;rw[if_neg (by omega),if_pos (by omega)]
   exact .finE [.r []] [] (fun z0:Int=>(VI z0,[])) _ _ e2
  ·
   refine .loop (α:=Nat) [.r [(2,X (Xl rectT x.merges))]] 272 (fun i=>([(1,.ptr 0 0),(35,VL 4 rectT x.merges),(36,VI (x.merges.length:Int)),(37,VI (i:Int))],[(0,.box [VI x.rows,VI x.cols,VL 5 cellT x.cells,VL 4 rectT x.merges])])) (fun i=>i≤x.merges.length∧mergE x.merges x.rows x.cols 0=mergE x.merges x.rows x.cols i∧InsTo x.merges x.rows x.cols i) (fun i=>x.merges.length-i) (0:Nat) ?_ ?_
   ·
    exact⟨by omega,rfl,fun k hk=>absurd hk (by omega)⟩
   rintro i I7 ih7
   try dsimp only at I7
   refine .bp [.r []] (decide ((i:Int)< (x.merges.length:Int))) (fun h7=> ?_) (fun h7=> ?_)
   ·
    have hx:mergE x.merges x.rows x.cols i=_:=mergE.eq_1 x.merges x.rows x.cols i
    rw[if_pos (by omega)] at hx
    refine .bp [.r [(1,X (Xi rectT x.merges (i:Int)))],.r [(5,X (Xc0 (fc_inside ((x.merges.getD i default)) x.rows x.cols (by omega)) X0))]] (!(insB ((x.merges.getD i default)) x.rows x.cols)) (fun h9=> ?_) (fun h9=> ?_)
    ·
     rw[if_pos h9] at hx
     have e3:((gridE x):Int)=2:=by
      unfold gridE;rw[if_neg (by omega),if_neg (by omega),I7.2.1,hx]
     exact .finE [.r []] [] (fun z0:Int=>(VI z0,[])) _ _ e3
    ·
     rw[if_neg (by rw[h9];decide)] at hx
     refine .bp [.r [(5,Xv 1 ((((x.merges.getD i default)).h)==1) X0),(6,Xv 1 ((((x.merges.getD i default)).h)==1) X0),(7,X (Xk ((((x.merges.getD i default)).h)==1)))]] (((((x.merges.getD i default)).h)==1)&&((((x.merges.getD i default)).w)==1)) (fun h11=> ?_) (fun h11=> ?_)
     ·
      rw[if_pos (by omega)] at hx
      have e4:((gridE x):Int)=4:=by
       unfold gridE;rw[if_neg (by omega),if_neg (by omega),I7.2.1,hx]
      exact .finE [.r []] [] (fun z0:Int=>(VI z0,[])) _ _ e4
     ·
      rw[if_neg (by omega)] at hx
      refine .bp [.r [(4,Xv 1 (decide ((i:Int)> 0)) X0),(6,Xv 1 (decide ((i:Int)> 0)) (Xn ((i:Int)- 1))),(7,Xv 2 (decide ((i:Int)> 0)) (Xi' rectT x.merges ((i:Int)- 1) (i- 1))),(8,Xv 1 (decide ((i:Int)> 0)) X0),(10,Xv 2 (decide ((i:Int)> 0)) (Xc0 (fc_before ((x.merges.getD (i- 1) default)) ((x.merges.getD i default))) X0)),(11,Xv 1 (decide ((i:Int)> 0)) X0),(12,X (Xk (decide ((i:Int)> 0))))]] (decide ((i:Int)> 0)&& !(befB ((x.merges.getD (i- 1) default)) ((x.merges.getD i default)))) (fun h13=> ?_) (fun h13=> ?_)
      ·
       rw[if_pos ⟨by omega,h13.2⟩] at hx
       have e5:((gridE x):Int)=5:=by
        unfold gridE;rw[if_neg (by omega),if_neg (by omega),I7.2.1,hx]
       exact .finE [.r []] [] (fun z0:Int=>(VI z0,[])) _ _ e5
      ·
       rw[if_neg (fun q=>by have q1:=q.1;rcases h13 with h|h;(omega);(rw[q.2] at h;cases h))] at hx
       have hall:=I7.2.2.all (by omega) (by omega) (by omega)
       have hrb:=RB_ins h9 (by omega) (by omega)
       refine .bp [.r [(3,X (Xst rectT 4 x.merges (i:Int))),(5,X (Xc3 616 [(0,304)] (fc_anyF (x.merges.take i) (((x.merges.getD i default)).row) (((x.merges.getD i default)).col) (((x.merges.getD i default)).h) (((x.merges.getD i default)).w) (by assumption) (by assumption)) X0))]] (anyM (x.merges.take i) ⟨(((x.merges.getD i default)).row),(((x.merges.getD i default)).col),(((x.merges.getD i default)).h),(((x.merges.getD i default)).w)⟩) (fun h15=> ?_) (fun h15=> ?_)
       ·
        rw[if_pos h15] at hx
        have e6:((gridE x):Int)=21:=by
         unfold gridE;rw[if_neg (by omega),if_neg (by omega),I7.2.1,hx]
        exact .finE [.r []] [] (fun z0:Int=>(VI z0,[])) _ _ e6
       ·
        rw[if_neg (by rw[h15];decide)] at hx
        refine .back [.r [(0,X (Xn ((i:Int)+1)))]] [(0,0)] (ih7 ((i+1):Nat) ?_ ?_)
        ·
         exact⟨by omega,by rw[I7.2.1,hx],I7.2.2.succ h9⟩
        ·
         ((try dsimp only);omega)
   ·
    have e7:((gridE x):Int)=0:=by
     unfold gridE;rw[if_neg (by omega),if_neg (by omega),I7.2.1,mergE,if_neg (by omega)]
    exact .finE [.r []] [] (fun z0:Int=>(VI z0,[])) _ _ e7
end Go.Ch
end
section
set_option linter.unusedVariables false
namespace Go.Ch
open Go Go.Ab
structure Node where
 id:Int
 kind:Int
 attrs:List Attr
 flow:List Elem
 grid:Grid
 draw:List DOp
instance:Inhabited Node:=⟨⟨0,0,[],[],default,[]⟩⟩
def nodeT(n:Node):Tree:= .agg [TI n.id,TI n.kind,.lst 2 (n.attrs.map attrT),.lst 3 (n.flow.map elemT),TI n.grid.rows,TI n.grid.cols,.lst 5 (n.grid.cells.map cellT),.lst 4 (n.grid.merges.map rectT),.lst 8 (n.draw.map dopT)]
structure Doc where
 nodes:List Node
instance:Inhabited Doc:=⟨⟨[]⟩⟩
def docT(d:Doc):Tree:= .agg [.lst 9 (d.nodes.map nodeT)]
def hasT(k:Int):Bool:=((k==1||k==3)||k==4)||k==12
def hasL(k:Int):Bool:=k==0||k==7
def hasG(k:Int):Bool:=k==2||k==6
def hasD(k:Int):Bool:=(k==8||k==9)||k==10
def zeroG(g:Grid):Bool:=((g.rows==0&&g.cols==0)&&(g.cells.length:Int)==0)&&(g.merges.length:Int)==0
def permB(p k:Int):Bool:=
 if k=1∨k=6∨k=7∨k=11∨k=12 then p==0
 else if k=10 then(p==0||p==1)||p==3
 else if k=2 then p==1
 else if k=4 then p==1||p==3
 else if k=5 then hasT p
 else if k=3 then p==2
 else if k=8∨k=9 then p==7
 else false
def flowX(t:Bool)(f:List Elem)(i:Nat):Int:=
 if i<f.length then
  (if elemE (f.getD i default)≠0 then elemE (f.getD i default) else if t=false∧(f.getD i default).ref=0 then 8 else flowX t f (i+1))
 else 0
termination_by f.length-i
def flowZ(t:Bool)(f:List Elem):Int:=
 if flowX t f 0≠0 then flowX t f 0 else if t=true∧(f.length=0∨(f.getD (f.length- 1) default).char≠10) then 11 else 0
theorem flowX_bad{t:Bool}{f:List Elem}{i:Nat}(h:i<f.length)(he:elemE (f.getD i default)≠0):flowX t f i=elemE (f.getD i default):=by rw[flowX,if_pos h,if_pos he]
theorem flowX_kind{t:Bool}{f:List Elem}{i:Nat}(h:i<f.length)(he:elemE (f.getD i default)=0)(hk:t=false∧(f.getD i default).ref=0):flowX t f i=8:=by rw[flowX,if_pos h,if_neg (fun q=>q he),if_pos hk]
theorem flowX_next{t:Bool}{f:List Elem}{i:Nat}(h:i<f.length)(he:elemE (f.getD i default)=0)(hk:t=true∨(f.getD i default).ref≠0):flowX t f i=flowX t f (i+1):=by
 rw[flowX,if_pos h,if_neg (fun q=>q he),if_neg]
 rintro⟨a,b⟩;rcases hk with q|q
 ·rw[a] at q;cases q
 ·exact q b
theorem flowX_end{t:Bool}{f:List Elem}{i:Nat}(h:¬i<f.length):flowX t f i=0:=by rw[flowX,if_neg h]
theorem flowZ_bad{t:Bool}{f:List Elem}{e:Int}(h:flowX t f 0=e)(he:e≠0):flowZ t f=e:=by unfold flowZ;rw[h,if_pos he]
theorem flowZ_end{t:Bool}{f:List Elem}(h:flowX t f 0=0):flowZ t f=if t=true∧(f.length=0∨(f.getD (f.length- 1) default).char≠10) then 11 else 0:=by unfold flowZ;rw[h,if_neg (fun q=>q rfl)]
def cellK(k:Int)(l:List Cell)(i:Nat):Int:=
 if i<l.length then
  (if(k=2∧(seq (l.getD i default).text {data:=#[]}=false∨0< (l.getD i default).attrs.length))∨(k=6∧(l.getD i default).ref≠0) then 4 else cellK k l (i+1))
 else 0
termination_by l.length-i
def nodeE(n:Node):Int:=
 if n.id<1∨1073741824<n.id then 2
 else if n.kind<0∨12<n.kind∨(n.id=1∧n.kind≠0)∨(n.id≠1∧n.kind=0) then 8
 else if chkA false n.attrs 0≠0 then chkA false n.attrs 0
 else if(0<n.flow.length∧hasT n.kind=false∧hasL n.kind=false)∨(zeroG n.grid=false∧hasG n.kind=false)∨(0<n.draw.length∧hasD n.kind=false) then 4
 else if hasT n.kind=true∨hasL n.kind=true then flowZ (hasT n.kind) n.flow
 else if hasG n.kind=true then(if gridE n.grid≠0 then gridE n.grid else cellK n.kind n.grid.cells 0)
 else drawE n.draw 0
def findD(l:List Node)(k:Int)(i:Nat):Int:=if i<l.length then(if(l.getD i default).id=k then(i:Int) else findD l k (i+1)) else-1
termination_by l.length-i
def refsF(f:List Elem):List Int:=f.filterMap fun x=>if x.ref≠0 then some x.ref else none
def refsC(l:List Cell):List Int:=l.filterMap fun x=>if x.ref≠0 then some x.ref else none
def refsN(n:Node):List Int:=refsF n.flow++refsC n.grid.cells
def refsE(l:List Node)(k:Int)(rs:List Int)(i:Nat):Int:=
 if i<rs.length then
  (if findD l (rs.getD i default) 0<0 then 7
   else if permB k (l.getD (findD l (rs.getD i default) 0).toNat default).kind=false then 8
   else refsE l k rs (i+1))
 else 0
termination_by rs.length-i
def nodesE(l:List Node)(i:Nat):Int:=
 if i<l.length then
  (if nodeE (l.getD i default)≠0 then nodeE (l.getD i default)
   else if(i=0∧(l.getD 0 default).id≠1)∨(0<i∧(l.getD i default).id≤(l.getD (i- 1) default).id) then 5
   else nodesE l (i+1))
 else 0
termination_by l.length-i
def allRefsE(l:List Node)(i:Nat):Int:=
 if i<l.length then
  (if refsE l (l.getD i default).kind (refsN (l.getD i default)) 0≠0 then refsE l (l.getD i default).kind (refsN (l.getD i default)) 0 else allRefsE l (i+1))
 else 0
termination_by l.length-i
def docE(d:Doc):Int:=
 if d.nodes.length=0 then 11
 else if nodesE d.nodes 0≠0 then nodesE d.nodes 0
 else allRefsE d.nodes 0
theorem nodesE_bad{l:List Node}{i:Nat}(h:i<l.length)(he:nodeE (l.getD i default)≠0):nodesE l i=nodeE (l.getD i default):=by rw[nodesE,if_pos h,if_pos he]
theorem nodesE_ord{l:List Node}{i:Nat}(h:i<l.length)(he:nodeE (l.getD i default)=0)(ho:(i=0∧(l.getD 0 default).id≠1)∨(0<i∧(l.getD i default).id≤(l.getD (i- 1) default).id)):nodesE l i=5:=by rw[nodesE,if_pos h,if_neg (fun q=>q he),if_pos ho]
theorem nodesE_next{l:List Node}{i:Nat}(h:i<l.length)(he:nodeE (l.getD i default)=0)(ho:¬((i=0∧(l.getD 0 default).id≠1)∨(0<i∧(l.getD i default).id≤(l.getD (i- 1) default).id))):nodesE l i=nodesE l (i+1):=by rw[nodesE,if_pos h,if_neg (fun q=>q he),if_neg ho]
theorem nodesE_end{l:List Node}{i:Nat}(h:¬i<l.length):nodesE l i=0:=by rw[nodesE,if_neg h]
theorem allR_bad{l:List Node}{i:Nat}(h:i<l.length)(he:refsE l (l.getD i default).kind (refsN (l.getD i default)) 0≠0):allRefsE l i=refsE l (l.getD i default).kind (refsN (l.getD i default)) 0:=by rw[allRefsE,if_pos h,if_pos he]
theorem allR_next{l:List Node}{i:Nat}(h:i<l.length)(he:refsE l (l.getD i default).kind (refsN (l.getD i default)) 0=0):allRefsE l i=allRefsE l (i+1):=by rw[allRefsE,if_pos h,if_neg (fun q=>q he)]
theorem allR_end{l:List Node}{i:Nat}(h:¬i<l.length):allRefsE l i=0:=by rw[allRefsE,if_neg h]
theorem docE_short{d:Doc}(h:d.nodes.length=0):docE d=11:=by unfold docE;rw[if_pos h]
theorem docE_node{d:Doc}(h:¬d.nodes.length=0){e:Int}(he:nodesE d.nodes 0=e)(hn:e≠0):docE d=e:=by unfold docE;rw[if_neg h,he,if_pos hn]
theorem docE_refs{d:Doc}(h:¬d.nodes.length=0){e:Int}(he:nodesE d.nodes 0=0)(hr:allRefsE d.nodes 0=e):docE d=e:=by unfold docE;rw[if_neg h,he,if_neg (fun q=>q rfl),hr]
theorem refsE_none{l:List Node}{k:Int}{rs:List Int}{i:Nat}(h:i<rs.length)(he:findD l (rs.getD i default) 0<0):refsE l k rs i=7:=by rw[refsE,if_pos h,if_pos he]
theorem refsE_kind{l:List Node}{k:Int}{rs:List Int}{i:Nat}(h:i<rs.length)(he:0≤findD l (rs.getD i default) 0)(hp:permB k (l.getD (findD l (rs.getD i default) 0).toNat default).kind=false):refsE l k rs i=8:=by rw[refsE,if_pos h,if_neg (by omega),if_pos hp]
theorem refsE_next{l:List Node}{k:Int}{rs:List Int}{i:Nat}(h:i<rs.length)(he:0≤findD l (rs.getD i default) 0)(hp:permB k (l.getD (findD l (rs.getD i default) 0).toNat default).kind=true):refsE l k rs i=refsE l k rs (i+1):=by rw[refsE,if_pos h,if_neg (by omega),if_neg (by rw[hp];decide)]
theorem refsE_end{l:List Node}{k:Int}{rs:List Int}{i:Nat}(h:¬i<rs.length):refsE l k rs i=0:=by rw[refsE,if_neg h]
structure NodeB(n:Node):Prop where
 at1:Szd n.attrs
 at2:n.attrs.length≤1048576
 fl1:SzE n.flow
 fl2:n.flow.length≤1048576
 fl3:∀x∈n.flow,x.attrs.length≤1048576
 ce1:SzC n.grid.cells
 ce2:n.grid.cells.length≤1048576
 ce3:∀c∈n.grid.cells,c.attrs.length≤1048576
 me:n.grid.merges.length≤1048576
 dr1:n.draw.length≤1048576
 dr2:∀o∈n.draw,o.plc.size≤1048576∧o.nm.size≤1048576∧o.vl.size≤1048576
def lenN(n:Node):Nat:=n.flow.length+n.grid.cells.length+n.draw.length
def lensN(l:List Node):Nat:=(l.map lenN).sum
structure DocB(d:Doc):Prop where
 len:d.nodes.length≤1048576
 all:∀n∈d.nodes,NodeB n
 sum:lensN d.nodes≤1048576
theorem getDN_mem{l:List Node}{i:Nat}(h:i<l.length):l.getD i default∈l:=getDX_mem h
theorem filM_succ{α β:Type}[Inhabited α]{l:List α}{i:Nat}(g:α→Option β)(h:i<l.length):(l.take (i+1)).filterMap g=(l.take i).filterMap g++(g (l.getD i default)).toList:=by
 have e:l.getD i default=l[i]:=by rw[List.getD_eq_getElem?_getD,List.getElem?_eq_getElem h];rfl
 rw[List.take_succ_eq_append_getElem h,List.filterMap_append,e]
 congr 1
end Go.Ch
end
section
set_option linter.unusedVariables false
set_option linter.unusedSimpArgs false
set_option maxRecDepth 100000
set_option maxHeartbeats 4000000
open Go Go.Proofs Go.Ab
namespace Go.Ch
theorem fc_Texts(k:Int):FC Tryz.prog 82 [VI k] (app emp []) (VB (hasT k)) (app emp []):=by
 refine .go Tryz.f82 ?_
 have e1:((hasT k):Bool)=((((k==1)|| (k==3))|| (k==4))|| (k==12)):=by
  rfl
 exact .finE [.r [],.r [(4,Xv 1 (!(k==1)) X0),(5,X (Xk' (k==1))),(8,Xv 1 (!((k==1)|| (k==3))) X0),(9,X (Xk' ((k==1)|| (k==3)))),(12,Xv 1 (!(((k==1)|| (k==3))|| (k==4))) X0),(13,X (Xk' (((k==1)|| (k==3))|| (k==4))))]] [] (fun z0:Bool=>(VB z0,[])) _ _ e1
theorem fc_Lists(k:Int):FC Tryz.prog 83 [VI k] (app emp []) (VB (hasL k)) (app emp []):=by
 refine .go Tryz.f83 ?_
 have e1:((hasL k):Bool)=((k==0)|| (k==7)):=by
  rfl
 exact .finE [.r [],.r [(4,Xv 1 (!(k==0)) X0),(5,X (Xk' (k==0)))]] [] (fun z0:Bool=>(VB z0,[])) _ _ e1
theorem fc_Grids(k:Int):FC Tryz.prog 84 [VI k] (app emp []) (VB (hasG k)) (app emp []):=by
 refine .go Tryz.f84 ?_
 have e1:((hasG k):Bool)=((k==2)|| (k==6)):=by
  rfl
 exact .finE [.r [],.r [(4,Xv 1 (!(k==2)) X0),(5,X (Xk' (k==2)))]] [] (fun z0:Bool=>(VB z0,[])) _ _ e1
theorem fc_Draws(k:Int):FC Tryz.prog 86 [VI k] (app emp []) (VB (hasD k)) (app emp []):=by
 refine .go Tryz.f86 ?_
 have e1:((hasD k):Bool)=(((k==8)|| (k==9))|| (k==10)):=by
  rfl
 exact .finE [.r [],.r [(4,Xv 1 (!(k==8)) X0),(5,X (Xk' (k==8))),(8,Xv 1 (!((k==8)|| (k==9))) X0),(9,X (Xk' ((k==8)|| (k==9))))]] [] (fun z0:Bool=>(VB z0,[])) _ _ e1
end Go.Ch
end
section
set_option linter.unusedVariables false
set_option linter.unusedSimpArgs false
set_option maxRecDepth 100000
set_option maxHeartbeats 4000000
open Go Go.Proofs Go.Ab
namespace Go.Ch
theorem fc_flowCheckX(f:List Elem)(t:Bool):FC Tryz.prog 87 [VL 3 elemT f,VB t] (app emp []) (VI (flowZ t f)) (app emp []):=by
 refine .go Tryz.f87 ?_
 refine .len 0 (fun hl0=> ?_)
 refine .loop (α:=Nat) [.r [],.r [(1,X (Xl elemT f))]] 32 (fun i=>([(0,VL 3 elemT f),(1,VB t),(8,VL 3 elemT f),(9,VI (f.length:Int)),(10,VI (i:Int))],[])) (fun i=>i≤f.length∧flowX t f 0=flowX t f i) (fun i=>f.length-i) (0:Nat) ?_ ?_
 ·
  exact⟨by omega,rfl⟩
 rintro i I2 ih2
 try dsimp only at I2
 refine .bp [.r []] (decide ((i:Int)< (f.length:Int))) (fun h2=> ?_) (fun h2=> ?_)
 ·
  refine .bp [.r [(0,X (Xi elemT f (i:Int)))],.r [(1,X (Xc0 (fc_elem ((f.getD i default))) X0))],.r []] ((elemE ((f.getD i default))) !=0) (fun h5=> ?_) (fun h5=> ?_)
  ·
   have e1:((flowZ t f):Int)=(elemE ((f.getD i default))):=by
    exact flowZ_bad (I2.2.trans (flowX_bad (by omega) (by omega))) (by omega)
   exact .finE [.r []] [] (fun z0:Int=>(VI z0,[])) _ _ e1
  ·
   refine .bp [.r [(4,Xv 1 (!t) X0),(5,Xv 1 (!t) X0),(6,X (Xk (!t)))]] (!t&&((((f.getD i default)).ref)==0)) (fun h7=> ?_) (fun h7=> ?_)
   ·
    have e2:((flowZ t f):Int)=8:=by
     exact flowZ_bad (I2.2.trans (flowX_kind (by omega) (by omega) h7)) (by decide)
    exact .finE [.r []] [] (fun z0:Int=>(VI z0,[])) _ _ e2
   ·
    refine .back [.r [(0,X (Xn ((i:Int)+1)))]] [] (ih2 ((i+1):Nat) ?_ ?_)
    ·
     exact⟨by omega,I2.2.trans (flowX_next (by omega) (by omega) h7)⟩
    ·
     ((try dsimp only);omega)
 ·
  refine .bp [.r [(3,Xv 1 t (Xl elemT f)),(4,Xv 1 t X0),(5,Xv 1 t X0),(8,Xv 1 (t&& !((f.length:Int)==0)) (Xl elemT f)),(9,Xv 1 (t&& !((f.length:Int)==0)) (Xn ((f.length:Int)- 1))),(10,Xv 2 (t&& !((f.length:Int)==0)) (Xi' elemT f ((f.length:Int)- 1) (f.length- 1)) (fun hg=>by(try simp only[Bool.not_eq_true',Bool.not_eq_false',Bool.and_eq_true,Bool.and_eq_false_iff,beq_iff_eq,beq_eq_false_iff_ne,ne_eq] at hg);exact⟨(by omega),(by omega)⟩)),(11,Xv 1 (t&& !((f.length:Int)==0)) X0),(12,Xv 1 (t&& !((f.length:Int)==0)) X0),(13,Xv 1 (t&& !((f.length:Int)==0)) X0),(14,Xko t ((f.length:Int)==0)),(15,X (Xk t))]] (t&&(((f.length:Int)==0)|| ((((f.getD (f.length- 1) default)).char) !=10))) (fun h10=> ?_) (fun h10=> ?_)
  ·
   have e3:((flowZ t f):Int)=11:=by
    rw[flowZ_end (I2.2.trans (flowX_end (by omega))),if_pos (by refine⟨h10.1,?_⟩;rcases h10.2 with h|h;(left;omega);(right;exact h))]
   exact .finE [.r []] [] (fun z0:Int=>(VI z0,[])) _ _ e3
  ·
   have e4:((flowZ t f):Int)=0:=by
    rw[flowZ_end (I2.2.trans (flowX_end (by omega))),if_neg (by rintro⟨q1,q2⟩;rcases h10 with h|h;(rw[q1] at h;cases h);(rcases q2 with q|q;(omega);(exact q h.2)))]
   exact .finE [.r []] [] (fun z0:Int=>(VI z0,[])) _ _ e4
end Go.Ch
end
section
set_option linter.unusedVariables false
namespace Go.Ch
open Go Go.Ab
def SortN(l:List Node):Prop:=∀p q,p<q→q<l.length→(l.getD p default).id< (l.getD q default).id
def cmpN9(n:Node)(k:Int):Int:=if n.id<k then-1 else if n.id>k then 1 else 0
def lobN(l:List Node)(k:Int):Nat:=(l.takeWhile (fun n=>decide (n.id<k))).length
theorem lobN_all:∀(l:List Node) (k:Int),lobN l k≤l.length∧(∀i,i<lobN l k→(l.getD i default).id<k)∧(lobN l k<l.length→¬(l.getD (lobN l k) default).id<k)
 | [],k=>⟨Nat.zero_le _,fun i hi=>absurd hi (by simp[lobN]),fun h=>absurd h (by simp[lobN])⟩
 |c::l,k=>by
  obtain⟨h1,h2,h3⟩:=lobN_all l k
  by_cases hc:c.id<k
  ·have e:lobN (c::l) k=lobN l k+1:=by unfold lobN;rw[List.takeWhile_cons,if_pos (decide_eq_true hc)];rfl
   rw[e]
   refine⟨by simp;omega,fun i hi=> ?_,fun h=> ?_⟩
   ·cases i with
    |zero=>exact hc
    |succ i=>exact h2 i (by omega)
   ·exact h3 (by simpa using h)
  ·have e:lobN (c::l) k=0:=by unfold lobN;rw[List.takeWhile_cons,if_neg (by simpa using hc)];rfl
   rw[e]
   exact⟨Nat.zero_le _,fun i hi=>absurd hi (by omega),fun _=>hc⟩
theorem lobN_lt{l:List Node}{k:Int}{m:Nat}(hs:SortN l)(hm:m<l.length)(h:(l.getD m default).id<k):m<lobN l k:=by
 obtain⟨h1,h2,h3⟩:=lobN_all l k
 apply Classical.byContradiction;intro q
 have h4:=h3 (by omega)
 by_cases e:lobN l k=m
 ·rw[e] at h4;exact h4 h
 ·have h5:=hs (lobN l k) m (by omega) hm
  omega
theorem lobN_ge{l:List Node}{k:Int}{m:Nat}(h:¬(l.getD m default).id<k):lobN l k≤m:=by
 obtain⟨h1,h2,h3⟩:=lobN_all l k
 apply Classical.byContradiction;intro q
 exact h (h2 m (by omega))
def hasN(l:List Node)(k:Int):Bool:=decide ((lobN l k:Int)< (l.length:Int))&&(cmpN9 (l.getD (lobN l k) default) k==0)
theorem cmpN9_lt{n:Node}{k:Int}:cmpN9 n k<0↔n.id<k:=by unfold cmpN9;split<;>(try split)<;>omega
theorem cmpN9_eq{n:Node}{k:Int}:cmpN9 n k=0↔n.id=k:=by unfold cmpN9;split<;>(try split)<;>omega
theorem hasN_iff{l:List Node}{k:Int}:hasN l k=true↔lobN l k<l.length∧(l.getD (lobN l k) default).id=k:=by
 unfold hasN;rw[Bool.and_eq_true,decide_eq_true_eq,beq_iff_eq,cmpN9_eq];omega
theorem findD_all(l:List Node)(k:Int):∀(n i:Nat),l.length-i=n→(findD l k i= -1∧∀j,i≤j→j<l.length→(l.getD j default).id≠k)∨∃j:Nat,findD l k i=j∧i≤j∧j<l.length∧(l.getD j default).id=k
 |0,i,h=>by rw[findD,if_neg (by omega)];exact .inl ⟨rfl,fun j h1 h2=>by omega⟩
 |n+1,i,h=>by
  have hi:i<l.length:=by omega
  rw[findD,if_pos hi]
  by_cases e:(l.getD i default).id=k
  ·rw[if_pos e];exact .inr ⟨i,rfl,Nat.le_refl _,hi,e⟩
  ·rw[if_neg e]
   rcases findD_all l k n (i+1) (by omega) with⟨a,b⟩| ⟨j,a,b,c,d⟩
   ·refine .inl ⟨a,fun j h1 h2=> ?_⟩
    by_cases q:j=i
    ·subst q;exact e
    ·exact b j (by omega) h2
   ·exact .inr ⟨j,a,by omega,c,d⟩
theorem find_yes{l:List Node}{k:Int}(hs:SortN l)(h:hasN l k=true):findD l k 0=(lobN l k:Int):=by
 obtain⟨h1,h2⟩:=hasN_iff.1 h
 rcases findD_all l k _ 0 rfl with⟨a,b⟩| ⟨j,a,b,c,d⟩
 ·exact absurd h2 (b _ (Nat.zero_le _) h1)
 ·rw[a]
  rcases Nat.lt_trichotomy j (lobN l k) with q|q|q
  ·have:=hs j _ q h1;omega
  ·rw[q]
  ·have:=hs _ j q c;omega
theorem find_no{l:List Node}{k:Int}(hs:SortN l)(h:hasN l k=false):findD l k 0<0:=by
 rcases findD_all l k _ 0 rfl with⟨a,b⟩| ⟨j,a,b,c,d⟩
 ·rw[a];decide
 ·exfalso
  have h1:=lobN_ge (l:=l) (k:=k) (m:=j) (by omega)
  obtain⟨s1,s2,s3⟩:=lobN_all l k
  have h2:lobN l k=j:=by
   apply Classical.byContradiction;intro q
   have:=hs (lobN l k) j (by omega) c
   exact s3 (by omega) (by omega)
  have:hasN l k=true:=hasN_iff.2 ⟨by omega,by rw[h2];exact d⟩
  rw[h] at this;cases this
theorem nodesE_all{l:List Node}:∀(n i:Nat),l.length-i=n→nodesE l i=0→(∀j,i≤j→j<l.length→nodeE (l.getD j default)=0)∧(∀j,i≤j→j<l.length→(j=0→(l.getD 0 default).id=1)∧(0<j→(l.getD (j- 1) default).id< (l.getD j default).id))
 |0,i,h,_=>⟨fun j h1 h2=>by omega,fun j h1 h2=>by omega⟩
 |n+1,i,h,he=>by
  have hi:i<l.length:=by omega
  rw[nodesE,if_pos hi] at he
  by_cases h1:nodeE (l.getD i default)≠0
  ·rw[if_pos h1] at he;exact absurd he h1
  ·rw[if_neg h1] at he
   split at he
   ·cases he
   ·rename_i h2
    obtain⟨a,b⟩:=nodesE_all n (i+1) (by omega) he
    refine⟨fun j q1 q2=> ?_,fun j q1 q2=> ?_⟩
    ·by_cases q:j=i
     ·subst q;exact Classical.byContradiction h1
     ·exact a j (by omega) q2
    ·by_cases q:j=i
     ·subst q
      exact⟨fun q3=>by omega,fun q3=>by omega⟩
     ·exact b j (by omega) q2
theorem sort_of{l:List Node}(h:nodesE l 0=0):SortN l:=by
 have h2:=(nodesE_all _ 0 rfl h).2
 have key:∀d p,p+d+1<l.length→(l.getD p default).id< (l.getD (p+d+1) default).id:=by
  intro d
  induction d with
  |zero=>intro p hp;have:=(h2 (p+1) (Nat.zero_le _) hp).2 (by omega);rwa [show p+1- 1=p by omega] at this
  |succ d ih=>
   intro p hp
   have h3:=ih p (by omega)
   have h4:=(h2 (p+(d+1)+1) (Nat.zero_le _) hp).2 (by omega)
   rw[show p+(d+1)+1- 1=p+d+1 by omega] at h4
   omega
 intro p q hpq hq
 have:=key (q-p- 1) p (by omega)
 rwa [show p+(q-p- 1)+1=q by omega] at this
end Go.Ch
end
section
set_option linter.unusedVariables false
set_option linter.unusedSimpArgs false
set_option maxRecDepth 100000
set_option maxHeartbeats 4000000
open Go Go.Proofs Go.Ab
namespace Go.Ch
end Go.Ch
end
section
set_option linter.unusedVariables false
set_option linter.unusedSimpArgs false
set_option maxRecDepth 100000
set_option maxHeartbeats 4000000
open Go Go.Proofs Go.Ab
namespace Go.Ch
end Go.Ch
end
section
set_option linter.unusedVariables false
set_option linter.unusedSimpArgs false
set_option maxRecDepth 100000
set_option maxHeartbeats 4000000
open Go Go.Proofs Go.Ab
namespace Go.Ch
end Go.Ch
end
section
set_option linter.unusedVariables false
set_option linter.unusedSimpArgs false
set_option maxRecDepth 100000
set_option maxHeartbeats 4000000
open Go Go.Proofs Go.Ab
namespace Go.Ch
theorem fc_find1(n:Node)(k:Int):FC Tryz.prog 113 [.t (nodeT n),VI k] (app emp []) (VI (cmpN9 n k)) (app emp []):=by
 refine .go Tryz.f113 ?_
 refine .bp [.r [],.r []] (decide (n.id<k)) (fun h1=> ?_) (fun h1=> ?_)
 ·
  have e1:((cmpN9 n k):Int)= -1:=by
   unfold cmpN9;((repeat' split)<;>first|rfl|omega| (simp_all;done)| (simp_all;omega))
  exact .finE [.r []] [] (fun z0:Int=>(VI z0,[])) _ _ e1
 ·
  refine .bp [.r []] (decide (n.id>k)) (fun h3=> ?_) (fun h3=> ?_)
  ·
   have e2:((cmpN9 n k):Int)=1:=by
    unfold cmpN9;((repeat' split)<;>first|rfl|omega| (simp_all;done)| (simp_all;omega))
   exact .finE [.r []] [] (fun z0:Int=>(VI z0,[])) _ _ e2
  ·
   have e3:((cmpN9 n k):Int)=0:=by
    unfold cmpN9;((repeat' split)<;>first|rfl|omega| (simp_all;done)| (simp_all;omega))
   exact .finE [.r []] [] (fun z0:Int=>(VI z0,[])) _ _ e3
theorem fc_bsN(l:List Node)(k:Int)(hn:l.length≤1048576)(hs:SortN l):FC Tryz.prog 112 [VL 9 nodeT l,VI k,.fn 113 []] (app emp []) (.tup [VI (lobN l k:Int),VB (hasN l k)]) (app emp []):=by
 refine .go Tryz.f112 ?_
 refine .len 0 (fun hl0=> ?_)
 obtain⟨s1,s2,s3⟩:=lobN_all l k
 refine .loop (α:=Nat×Nat) [.r [],.r [(1,X (Xl nodeT l))],.r []] 64 (fun(i,j)=>([(0,VL 9 nodeT l),(1,VI k),(2,.fn 113 []),(8,VI (l.length:Int)),(9,VI (i:Int)),(10,VI (j:Int))],[])) (fun(i,j)=>i≤lobN l k∧lobN l k≤j∧j≤l.length) (fun(i,j)=>j-i) (0,l.length) ?_ ?_
 ·
  exact⟨by omega,by omega,by omega⟩
 rintro⟨i,j⟩ I3 ih3
 try dsimp only at I3
 refine .bp [.r []] (decide ((i:Int)< (j:Int))) (fun h3=> ?_) (fun h3=> ?_)
 ·
  obtain⟨m,hm⟩:∃m:Nat,((i:Int)+(j:Int))/2=(m:Int):=⟨(i+j)/2,by omega⟩
  refine .bp [.r [(2,X (Xn ((i:Int)+(j:Int)))),(3,X (Xcv IntKind.u64 ((i:Int)+(j:Int))) (by simp[IntKind.wrap,IntKind.bits,IntKind.signed];omega)),(4,X (Xsh IntKind.u64 1 (((i:Int)+(j:Int)).fdiv (2^(min (1:Int).toNat IntKind.u64.bits))) (((i:Int)+(j:Int))/2)) ⟨by decide,(by rw[Int.fdiv_eq_ediv_of_nonneg _ (by decide)];rfl)⟩),(5,X (Xn (((i:Int)+(j:Int))/2)))],.le (.eq 11 (VI (((i:Int)+(j:Int))/2)) (VI (m:Int)) (.of_eq (by rw[←hm]))),.r [(3,X (Xi nodeT l (m:Int))),(6,X (Xc0 (fc_find1 ((l.getD m default)) k) X0))]] (decide ((cmpN9 ((l.getD m default)) k)< 0)) (fun h5=> ?_) (fun h5=> ?_)
  ·
   refine .back [.r [(1,X (Xn ((m:Int)+1)))]] [] (ih3 ((m+1),j) ?_ ?_)
   ·
    have:=lobN_lt hs (m:=m) (by omega) (cmpN9_lt.1 h5)
    exact⟨by omega,by omega,by omega⟩
   ·
    ((try dsimp only);omega)
  ·
   refine .back [.r []] [] (ih3 (i,m) ?_ ?_)
   ·
    have:=lobN_ge (l:=l) (k:=k) (m:=m) (fun q=>by have:=cmpN9_lt.2 q;omega)
    exact⟨by omega,by omega,by omega⟩
   ·
    ((try dsimp only);omega)
 ·
  have hi:i=lobN l k:=by omega
  have e1:((lobN l k:Int):Int)=(i:Int):=by
   first|omega| (unfold hasN;rw[←hi])
  have e2:((hasN l k):Bool)=(decide ((i:Int)< (l.length:Int))&&((cmpN9 ((l.getD i default)) k)==0)):=by
   first|omega| (unfold hasN;rw[←hi])
  exact .finE [.r [(8,Xv 2 (decide ((i:Int)< (l.length:Int))) (Xi nodeT l (i:Int))),(9,Xv 1 (decide ((i:Int)< (l.length:Int))) X0),(11,Xv 3 (decide ((i:Int)< (l.length:Int))) (Xc0 (fc_find1 ((l.getD i default)) k) X0)),(12,Xv 1 (decide ((i:Int)< (l.length:Int))) X0),(13,X (Xk (decide ((i:Int)< (l.length:Int)))))]] [] (fun((z0,z1):Int×Bool)=>(.tup [VI z0,VB z1],[])) _ _ (pr e1 e2)
theorem fc_findN(d:Doc)(k:Int)(hn:d.nodes.length≤1048576)(hs:SortN d.nodes):FC Tryz.prog 76 [.t (docT d),VI k] (app emp []) (.tup [VI (lobN d.nodes k:Int),VB (hasN d.nodes k)]) (app emp []):=by
 refine .go Tryz.f76 ?_
 exact .fin [.r [],.r [(3,X (Xc0 (fc_bsN d.nodes k (by omega) (by assumption)) X0))]] []
theorem fc_refsFl(f:List Elem)(hn:f.length≤1048576):FC Tryz.prog 77 [VL 3 elemT f] (app emp []) (.row 0 ((refsF f).length)) (app emp [(0,OR 1 intT (refsF f))]):=by
 refine .go Tryz.f77 ?_
 refine .len 0 (fun hl0=> ?_)
 refine .loop (α:=Nat×(List Int)) [.r [],.r [],.r [(1,X (Xl elemT f))],.le (.nR 3 1)] 41 (fun(i,o)=>([(3,.row 40 o.length),(6,VL 3 elemT f),(7,VI (f.length:Int)),(8,VI (i:Int))],[(40,OR 1 intT o)])) (fun(i,o)=>i≤f.length∧o=refsF (f.take i)) (fun(i,o)=>f.length-i) (0,[]) ?_ ?_
 ·
  exact⟨by omega,rfl⟩
 rintro⟨i,o⟩ I3 ih3
 try dsimp only at I3
 have ol:o.length≤i:=by rw[I3.2];unfold refsF;exact Nat.le_trans (List.length_filterMap_le _ _) (by rw[List.length_take];omega)
 refine .bp [.r []] (decide ((i:Int)< (f.length:Int))) (fun h3=> ?_) (fun h3=> ?_)
 ·
  refine .bp [.r [(0,X (Xi elemT f (i:Int)))],.r []] ((((f.getD i default)).ref) !=0) (fun h5=> ?_) (fun h5=> ?_)
  ·
   refine .back [.r [(4,X (rowC intT [((f.getD i default)).ref] (Xap 1 intT 40 o [((f.getD i default)).ref])))],.r [(0,X (Xn ((i:Int)+1)))]] [(40,40)] (ih3 ((i+1),(o++[((f.getD i default)).ref])) ?_ ?_)
   ·
    refine⟨by omega,?_⟩
    rw[I3.2];unfold refsF;rw[filM_succ _ (by omega)]
    first| (rw[if_pos (by omega)];rfl)| (rw[if_neg (by omega)];simp)
   ·
    ((try dsimp only);omega)
  ·
   refine .back [.r [(0,X (Xn ((i:Int)+1)))]] [(40,40)] (ih3 ((i+1),o) ?_ ?_)
   ·
    refine⟨by omega,?_⟩
    rw[I3.2];unfold refsF;rw[filM_succ _ (by omega)]
    first| (rw[if_pos (by omega)];rfl)| (rw[if_neg (by omega)];simp)
   ·
    ((try dsimp only);omega)
 ·
  have e1:((refsF f):List Int)=o:=by
   rw[I3.2,List.take_of_length_le (by omega)]
  have e2:((refsF f).length:Nat)=o.length:=by
   rw[I3.2,List.take_of_length_le (by omega)]
  exact .finE [.r []] [(40,0)] (fun((z0,z1):(List Int)×Nat)=>(.row 0 z1,[(0,OR 1 intT z0)])) _ _ (pr e1 e2)
theorem fc_refsNd(n:Node)(hb:NodeB n):FC Tryz.prog 47 [.t (nodeT n)] (app emp []) (VL 1 intT (refsN n)) (app emp []):=by
 refine .go Tryz.f47 ?_
 have b1:=hb.fl2
 have b2:=hb.ce2
 have b3:(refsF n.flow).length≤n.flow.length:=List.length_filterMap_le _ _
 refine .loop (α:=Nat×(List Int)) [.r [],.r [(2,X (Xc1 32 (fc_refsFl n.flow (by first|omega|simp)) X0))],.r [(3,X (Xl cellT n.grid.cells))]] 88 (fun(j,p)=>([(3,.row 32 p.length),(11,VL 5 cellT n.grid.cells),(12,VI (n.grid.cells.length:Int)),(13,VI (j:Int))],[(32,OR 1 intT p)])) (fun(j,p)=>j≤n.grid.cells.length∧p=refsF n.flow++refsC (n.grid.cells.take j)) (fun(j,p)=>n.grid.cells.length-j) (0,(refsF n.flow)) ?_ ?_
 ·
  exact⟨by omega,by simp[refsC]⟩
 rintro⟨j,p⟩ I3 ih3
 try dsimp only at I3
 have ol2:p.length≤n.flow.length+j:=by rw[I3.2,List.length_append];unfold refsC;have q2:=List.length_filterMap_le (fun x:Cell=>if x.ref≠0 then some x.ref else none) (n.grid.cells.take j);rw[List.length_take] at q2;omega
 refine .bp [.r []] (decide ((j:Int)< (n.grid.cells.length:Int))) (fun h3=> ?_) (fun h3=> ?_)
 ·
  refine .bp [.r [(0,X (Xi cellT n.grid.cells (j:Int)))],.r []] ((((n.grid.cells.getD j default)).ref) !=0) (fun h5=> ?_) (fun h5=> ?_)
  ·
   refine .back [.r [(4,X (rowC intT [((n.grid.cells.getD j default)).ref] (Xap 1 intT 32 p [((n.grid.cells.getD j default)).ref])))],.r [(0,X (Xn ((j:Int)+1)))]] [(32,32)] (ih3 ((j+1),(p++[((n.grid.cells.getD j default)).ref])) ?_ ?_)
   ·
    refine⟨by omega,?_⟩
    rw[I3.2];unfold refsC;rw[filM_succ _ (by omega),←List.append_assoc]
    first| (rw[if_pos (by omega)];rfl)| (rw[if_neg (by omega)];simp)
   ·
    ((try dsimp only);omega)
  ·
   refine .back [.r [(0,X (Xn ((j:Int)+1)))]] [(32,32)] (ih3 ((j+1),p) ?_ ?_)
   ·
    refine⟨by omega,?_⟩
    rw[I3.2];unfold refsC;rw[filM_succ _ (by omega),←List.append_assoc]
    first| (rw[if_pos (by omega)];rfl)| (rw[if_neg (by omega)];simp)
   ·
    ((try dsimp only);omega)
 ·
  have e1:((refsN n):List Int)=p:=by
   rw[I3.2,List.take_of_length_le (by omega)];rfl
  exact .finE [.r [],.le (.fr 2 [(p.length:Nat)=(List.map intT p).length] ⟨lm,trivial⟩)] [] (fun z0:List Int=>(VL 1 intT z0,[])) _ _ e1
end Go.Ch
end
section
set_option linter.unusedVariables false
set_option linter.unusedSimpArgs false
set_option maxRecDepth 100000
set_option maxHeartbeats 4000000
open Go Go.Proofs Go.Ab
namespace Go.Ch
theorem fc_idxI(l:List Int)(x:Int):FC Tryz.prog 81 [VL 1 intT l,VI x] (app emp []) (VI (idxF (fun y=>x==y) l 0)) (app emp []):=by
 refine .go Tryz.f81 ?_
 refine .len 0 (fun hl0=> ?_)
 refine .loop (α:=Nat) [.r [],.r [(1,X (Xl intT l))]] 32 (fun i=>([(0,VL 1 intT l),(1,VI x),(7,VI (l.length:Int)),(8,VI (i:Int))],[])) (fun i=>i≤l.length∧idxF (fun y=>x==y) l 0=idxF (fun y=>x==y) l i) (fun i=>l.length-i) (0:Nat) ?_ ?_
 ·
  exact⟨by omega,rfl⟩
 rintro i I2 ih2
 try dsimp only at I2
 refine .bp [.r []] (decide ((i:Int)< (l.length:Int))) (fun h2=> ?_) (fun h2=> ?_)
 ·
  refine .bp [.r [],.r [(3,X (Xi intT l (i:Int)))]] (x==(l.getD i default)) (fun h4=> ?_) (fun h4=> ?_)
  ·
   have e1:((idxF (fun y=>x==y) l 0):Int)=(i:Int):=by
    rw[I2.2,idxF,if_pos (by omega),if_pos (by simpa using h4)]
   exact .finE [.r []] [] (fun z0:Int=>(VI z0,[])) _ _ e1
  ·
   refine .back [.r [(0,X (Xn ((i:Int)+1)))]] [] (ih2 ((i+1):Nat) ?_ ?_)
   ·
    exact⟨by omega,by rw[I2.2,idxF,if_pos (by omega),if_neg (by simpa using h4)]⟩
   ·
    ((try dsimp only);omega)
 ·
  have e2:((idxF (fun y=>x==y) l 0):Int)= -1:=by
   rw[I2.2,idxF,if_neg (by omega)]
  exact .finE [.r []] [] (fun z0:Int=>(VI z0,[])) _ _ e2
theorem fc_hasI(l:List Int)(x:Int):FC Tryz.prog 43 [VL 1 intT l,VI x] (app emp []) (VB (l.any (fun y=>x==y))) (app emp []):=by
 refine .go Tryz.f43 ?_
 refine .len 0 (fun hl0=> ?_)
 have e1:((l.any (fun y=>x==y)):Bool)=decide ((idxF (fun y=>x==y) l 0)≥0):=by
  rw[Bool.eq_iff_iff];simp only[decide_eq_true_eq,ge_iff_le];rw[idxF_any]
 exact .finE [.r [],.r [(2,X (Xc0 (fc_idxI l x) X0))]] [] (fun z0:Bool=>(VB z0,[])) _ _ e1
theorem fc_permN(p k:Int):FC Tryz.prog 91 [VI p,VI k] (app emp []) (VB (permB p k)) (app emp []):=by
 refine .go Tryz.f91 ?_
 refine .bp [.r [],.r [],.r [],.r []] (p==0) (fun h3=> ?_) (fun h3=> ?_)
 ·
  have e1:((permB p k):Bool)=(([1,6,7,10,11,12]).any (fun y=>k==y)):=by
   rw[Bool.eq_iff_iff];unfold permB hasT;simp only[List.any_cons,List.any_nil,Bool.or_false,Bool.or_eq_true,beq_iff_eq,Bool.false_eq_true,false_iff,iff_false];(repeat' split)<;>(try simp only[Bool.or_eq_true,beq_iff_eq,Bool.false_eq_true,false_iff])<;>first|omega| (simp;done)
  exact .finE [.r [],.r [(2,X (Xc0 (fc_hasI [1,6,7,10,11,12] k) (rowC intT [1,6,7,10,11,12] X0)))]] [] (fun z0:Bool=>(VB z0,[])) _ _ e1
 ·
  refine .bp [.r []] (p==1) (fun h5=> ?_) (fun h5=> ?_)
  ·
   have e2:((permB p k):Bool)=(([2,4,5,10]).any (fun y=>k==y)):=by
    rw[Bool.eq_iff_iff];unfold permB hasT;simp only[List.any_cons,List.any_nil,Bool.or_false,Bool.or_eq_true,beq_iff_eq,Bool.false_eq_true,false_iff,iff_false];(repeat' split)<;>(try simp only[Bool.or_eq_true,beq_iff_eq,Bool.false_eq_true,false_iff])<;>first|omega| (simp;done)
   exact .finE [.r [],.r [(2,X (Xc0 (fc_hasI [2,4,5,10] k) (rowC intT [2,4,5,10] X0)))]] [] (fun z0:Bool=>(VB z0,[])) _ _ e2
  ·
   refine .bp [.r []] (p==3) (fun h7=> ?_) (fun h7=> ?_)
   ·
    have e3:((permB p k):Bool)=(([4,5,10]).any (fun y=>k==y)):=by
     rw[Bool.eq_iff_iff];unfold permB hasT;simp only[List.any_cons,List.any_nil,Bool.or_false,Bool.or_eq_true,beq_iff_eq,Bool.false_eq_true,false_iff,iff_false];(repeat' split)<;>(try simp only[Bool.or_eq_true,beq_iff_eq,Bool.false_eq_true,false_iff])<;>first|omega| (simp;done)
    exact .finE [.r [],.r [(2,X (Xc0 (fc_hasI [4,5,10] k) (rowC intT [4,5,10] X0)))]] [] (fun z0:Bool=>(VB z0,[])) _ _ e3
   ·
    refine .bp [.r []] (p==4) (fun h9=> ?_) (fun h9=> ?_)
    ·
     refine .bp [] (p==4) (fun h9=> ?_) (fun h9=> ?_)
     ·
      have e4:((permB p k):Bool)=(([5]).any (fun y=>k==y)):=by
       rw[Bool.eq_iff_iff];unfold permB hasT;simp only[List.any_cons,List.any_nil,Bool.or_false,Bool.or_eq_true,beq_iff_eq,Bool.false_eq_true,false_iff,iff_false];(repeat' split)<;>(try simp only[Bool.or_eq_true,beq_iff_eq,Bool.false_eq_true,false_iff])<;>first|omega| (simp;done)
      exact .finE [.r [],.r [(2,X (Xc0 (fc_hasI [5] k) (rowC intT [5] X0)))]] [] (fun z0:Bool=>(VB z0,[])) _ _ e4
     ·
      refine .bp [.r []] (p==2) (fun h12=> ?_) (fun h12=> ?_)
      ·
       have e5:((permB p k):Bool)=(([3]).any (fun y=>k==y)):=by
        rw[Bool.eq_iff_iff];unfold permB hasT;simp only[List.any_cons,List.any_nil,Bool.or_false,Bool.or_eq_true,beq_iff_eq,Bool.false_eq_true,false_iff,iff_false];(repeat' split)<;>(try simp only[Bool.or_eq_true,beq_iff_eq,Bool.false_eq_true,false_iff])<;>first|omega| (simp;done)
       exact .finE [.r [],.r [(2,X (Xc0 (fc_hasI [3] k) (rowC intT [3] X0)))]] [] (fun z0:Bool=>(VB z0,[])) _ _ e5
      ·
       refine .bp [.r []] (p==7) (fun h14=> ?_) (fun h14=> ?_)
       ·
        have e6:((permB p k):Bool)=(([8,9]).any (fun y=>k==y)):=by
         rw[Bool.eq_iff_iff];unfold permB hasT;simp only[List.any_cons,List.any_nil,Bool.or_false,Bool.or_eq_true,beq_iff_eq,Bool.false_eq_true,false_iff,iff_false];(repeat' split)<;>(try simp only[Bool.or_eq_true,beq_iff_eq,Bool.false_eq_true,false_iff])<;>first|omega| (simp;done)
        exact .finE [.r [],.r [(2,X (Xc0 (fc_hasI [8,9] k) (rowC intT [8,9] X0)))]] [] (fun z0:Bool=>(VB z0,[])) _ _ e6
       ·
        have e7:((permB p k):Bool)=(([]).any (fun y=>k==y)):=by
         rw[Bool.eq_iff_iff];unfold permB hasT;simp only[List.any_cons,List.any_nil,Bool.or_false,Bool.or_eq_true,beq_iff_eq,Bool.false_eq_true,false_iff,iff_false];(repeat' split)<;>(try simp only[Bool.or_eq_true,beq_iff_eq,Bool.false_eq_true,false_iff])<;>first|omega| (simp;done)
        exact .finE [.r [(2,X (Xc0 (.nil 0 1 (fc_hasI [] k)) X0))]] [] (fun z0:Bool=>(VB z0,[])) _ _ e7
    ·
     refine .bp [.r []] (p==12) (fun h10=> ?_) (fun h10=> ?_)
     ·
      have e8:((permB p k):Bool)=(([5]).any (fun y=>k==y)):=by
       rw[Bool.eq_iff_iff];unfold permB hasT;simp only[List.any_cons,List.any_nil,Bool.or_false,Bool.or_eq_true,beq_iff_eq,Bool.false_eq_true,false_iff,iff_false];(repeat' split)<;>(try simp only[Bool.or_eq_true,beq_iff_eq,Bool.false_eq_true,false_iff])<;>first|omega| (simp;done)
      exact .finE [.r [],.r [(2,X (Xc0 (fc_hasI [5] k) (rowC intT [5] X0)))]] [] (fun z0:Bool=>(VB z0,[])) _ _ e8
     ·
      refine .bp [.r []] (p==2) (fun h12=> ?_) (fun h12=> ?_)
      ·
       have e9:((permB p k):Bool)=(([3]).any (fun y=>k==y)):=by
        rw[Bool.eq_iff_iff];unfold permB hasT;simp only[List.any_cons,List.any_nil,Bool.or_false,Bool.or_eq_true,beq_iff_eq,Bool.false_eq_true,false_iff,iff_false];(repeat' split)<;>(try simp only[Bool.or_eq_true,beq_iff_eq,Bool.false_eq_true,false_iff])<;>first|omega| (simp;done)
       exact .finE [.r [],.r [(2,X (Xc0 (fc_hasI [3] k) (rowC intT [3] X0)))]] [] (fun z0:Bool=>(VB z0,[])) _ _ e9
      ·
       refine .bp [.r []] (p==7) (fun h14=> ?_) (fun h14=> ?_)
       ·
        have e10:((permB p k):Bool)=(([8,9]).any (fun y=>k==y)):=by
         rw[Bool.eq_iff_iff];unfold permB hasT;simp only[List.any_cons,List.any_nil,Bool.or_false,Bool.or_eq_true,beq_iff_eq,Bool.false_eq_true,false_iff,iff_false];(repeat' split)<;>(try simp only[Bool.or_eq_true,beq_iff_eq,Bool.false_eq_true,false_iff])<;>first|omega| (simp;done)
        exact .finE [.r [],.r [(2,X (Xc0 (fc_hasI [8,9] k) (rowC intT [8,9] X0)))]] [] (fun z0:Bool=>(VB z0,[])) _ _ e10
       ·
        have e11:((permB p k):Bool)=(([]).any (fun y=>k==y)):=by
         rw[Bool.eq_iff_iff];unfold permB hasT;simp only[List.any_cons,List.any_nil,Bool.or_false,Bool.or_eq_true,beq_iff_eq,Bool.false_eq_true,false_iff,iff_false];(repeat' split)<;>(try simp only[Bool.or_eq_true,beq_iff_eq,Bool.false_eq_true,false_iff])<;>first|omega| (simp;done)
        exact .finE [.r [(2,X (Xc0 (.nil 0 1 (fc_hasI [] k)) X0))]] [] (fun z0:Bool=>(VB z0,[])) _ _ e11
theorem fc_refsCk(d:Doc)(k:Int)(rs:List Int)(hl:d.nodes.length≤1048576)(hs:SortN d.nodes):FC Tryz.prog 46 [.t (docT d),VI k,VL 1 intT rs] (app emp []) (VI (refsE d.nodes k rs 0)) (app emp []):=by
 refine .go Tryz.f46 ?_
 refine .len 2 (fun hl2=> ?_)
 refine .loop (α:=Nat) [.r [],.r [(1,X (Xl intT rs))]] 40 (fun i=>([(1,VI k),(3,.ptr 0 0),(11,VL 1 intT rs),(12,VI (rs.length:Int)),(13,VI (i:Int))],[(0,.box [VL 9 nodeT d.nodes])])) (fun i=>i≤rs.length∧refsE d.nodes k rs 0=refsE d.nodes k rs i) (fun i=>rs.length-i) (0:Nat) ?_ ?_
 ·
  exact⟨by omega,rfl⟩
 rintro i I2 ih2
 try dsimp only at I2
 refine .bp [.r []] (decide ((i:Int)< (rs.length:Int))) (fun h2=> ?_) (fun h2=> ?_)
 ·
  refine .bp [.r [(0,X (Xi intT rs (i:Int)))],.r [(2,X (Xc0 (fc_findN d (rs.getD i default) (by assumption) (by assumption)) X0))],.r []] (!(hasN (d).nodes (rs.getD i default))) (fun h5=> ?_) (fun h5=> ?_)
  ·
   have e1:((refsE d.nodes k rs 0):Int)=7:=by
    exact I2.2.trans (refsE_none (by omega) (find_no hs h5))
   exact .finE [.r []] [] (fun z0:Int=>(VI z0,[])) _ _ e1
  ·
   obtain⟨q1,q2⟩:=hasN_iff.1 h5
   have hf:=find_yes hs h5
   refine .bp [.r [(4,X (Xi nodeT d.nodes (lobN (d).nodes (rs.getD i default):Int))),(7,X (Xc0 (fc_permN k (((d.nodes.getD (lobN (d).nodes (rs.getD i default)) default)).kind)) X0))]] (!(permB k (((d.nodes.getD (lobN (d).nodes (rs.getD i default)) default)).kind))) (fun h7=> ?_) (fun h7=> ?_)
   ·
    have e2:((refsE d.nodes k rs 0):Int)=8:=by
     exact I2.2.trans (refsE_kind (by omega) (by omega) (by rw[hf];exact h7))
    exact .finE [.r []] [] (fun z0:Int=>(VI z0,[])) _ _ e2
   ·
    refine .back [.r [(0,X (Xn ((i:Int)+1)))]] [(0,0)] (ih2 ((i+1):Nat) ?_ ?_)
    ·
     exact⟨by omega,I2.2.trans (refsE_next (by omega) (by omega) (by rw[hf];exact h7))⟩
    ·
     ((try dsimp only);omega)
 ·
  have e3:((refsE d.nodes k rs 0):Int)=0:=by
   exact I2.2.trans (refsE_end (by omega))
  exact .finE [.r []] [] (fun z0:Int=>(VI z0,[])) _ _ e3
theorem fc_cellCk(k:Int)(l:List Cell):FC Tryz.prog 89 [VI k,VL 5 cellT l] (app emp []) (VI (cellK k l 0)) (app emp []):=by
 refine .go Tryz.f89 ?_
 refine .len 1 (fun hl1=> ?_)
 refine .loop (α:=Nat) [.r [],.r [(1,X (Xl cellT l))]] 32 (fun i=>([(0,VI k),(7,VL 5 cellT l),(8,VI (l.length:Int)),(9,VI (i:Int))],[])) (fun i=>i≤l.length∧cellK k l 0=cellK k l i) (fun i=>l.length-i) (0:Nat) ?_ ?_
 ·
  exact⟨by omega,rfl⟩
 rintro i I2 ih2
 try dsimp only at I2
 refine .bp [.r []] (decide ((i:Int)< (l.length:Int))) (fun h2=> ?_) (fun h2=> ?_)
 ·
  refine .bp [.r [(0,X (Xi cellT l (i:Int)))],.r [(4,Xv 1 (k==2) X0),(5,Xv 1 (k==2) X0),(6,Xv 1 (k==2) X0),(8,Xv 1 ((k==2)&& !(!(seq (((l.getD i default)).text) ({data:=#[]})))) X0),(9,Xv 1 ((k==2)&& !(!(seq (((l.getD i default)).text) ({data:=#[]})))) (Xl attrT (((l.getD i default)).attrs))),(10,Xv 1 ((k==2)&& !(!(seq (((l.getD i default)).text) ({data:=#[]})))) X0),(11,Xko (k==2) (!(seq (((l.getD i default)).text) ({data:=#[]})))),(12,X (Xk (k==2))),(15,Xv 1 (!((k==2)&&(!(seq (((l.getD i default)).text) ({data:=#[]}))||decide (((((l.getD i default)).attrs).length:Int)> 0)))) X0),(16,Xv 1 (!((k==2)&&(!(seq (((l.getD i default)).text) ({data:=#[]}))||decide (((((l.getD i default)).attrs).length:Int)> 0)))) X0),(18,Xv 1 ((!((k==2)&&(!(seq (((l.getD i default)).text) ({data:=#[]}))||decide (((((l.getD i default)).attrs).length:Int)> 0))))&&(k==6)) X0),(19,Xv 1 ((!((k==2)&&(!(seq (((l.getD i default)).text) ({data:=#[]}))||decide (((((l.getD i default)).attrs).length:Int)> 0))))&&(k==6)) X0),(20,Xka (!((k==2)&&(!(seq (((l.getD i default)).text) ({data:=#[]}))||decide (((((l.getD i default)).attrs).length:Int)> 0)))) (k==6)),(21,X (Xk' ((k==2)&&(!(seq (((l.getD i default)).text) ({data:=#[]}))||decide (((((l.getD i default)).attrs).length:Int)> 0)))))]] (((k==2)&&(!(seq (((l.getD i default)).text) ({data:=#[]}))||decide (((((l.getD i default)).attrs).length:Int)> 0)))|| ((k==6)&&((((l.getD i default)).ref) !=0))) (fun h4=> ?_) (fun h4=> ?_)
  ·
   have e1:((cellK k l 0):Int)=4:=by
    rw[I2.2,cellK,if_pos (by omega),if_pos]
    exact h4.imp (fun q=>⟨q.1,q.2.imp id (fun z=>by omega)⟩) id
   exact .finE [.r []] [] (fun z0:Int=>(VI z0,[])) _ _ e1
  ·
   refine .back [.r [(0,X (Xn ((i:Int)+1)))]] [] (ih2 ((i+1):Nat) ?_ ?_)
   ·
    refine⟨by omega,?_⟩
    rw[I2.2,cellK,if_pos (by omega),if_neg]
    rintro(⟨a,b|b⟩| ⟨a,b⟩)
    ·rcases h4.1 with q|q
     ·exact q a
     ·rw[q.1] at b;cases b
    ·rcases h4.1 with q|q
     ·exact q a
     ·omega
    ·rcases h4.2 with q|q
     ·exact q a
     ·exact b q
   ·
    ((try dsimp only);omega)
 ·
  have e2:((cellK k l 0):Int)=0:=by
   rw[I2.2,cellK,if_neg (by omega)]
  exact .finE [.r []] [] (fun z0:Int=>(VI z0,[])) _ _ e2
theorem fc_eqR0(l:List Rect):FC Tryz.prog 117 [VL 4 rectT l,VN] (app emp []) (VB ((l.length:Int)==0)) (app emp []):=by
 refine .go Tryz.f117 ?_
 refine .len 0 (fun hl0=> ?_)
 refine .bp [.r [],.r [(1,X (Xl rectT l))]] ((l.length:Int) !=0) (fun h1=> ?_) (fun h1=> ?_)
 ·
  have e1:(((l.length:Int)==0):Bool)=false:=by
   rw[beq_eq_false_iff_ne];exact h1
  exact .finE [.r []] [] (fun z0:Bool=>(VB z0,[])) _ _ e1
 ·
  refine .loop (α:=Nat) [.r [(1,X (Xl rectT l))]] 72 (fun i=>([(0,VL 4 rectT l),(1,VN),(12,VI (l.length:Int)),(13,VI (i:Int))],[])) (fun i=>i=0) (fun i=>0) (0:Nat) ?_ ?_
  ·
   rfl
  rintro i I4 ih4
  try dsimp only at I4
  refine .bp [.r []] (decide ((i:Int)< (l.length:Int))) (fun h4=> ?_) (fun h4=> ?_)
  ·
   exfalso
   omega
  ·
   have e2:(((l.length:Int)==0):Bool)=true:=by
    rw[beq_iff_eq];exact h1
   exact .finE [.r []] [] (fun z0:Bool=>(VB z0,[])) _ _ e2
theorem fc_eqC0(l:List Cell):FC Tryz.prog 118 [VL 5 cellT l,VN,.fn 119 []] (app emp []) (VB ((l.length:Int)==0)) (app emp []):=by
 refine .go Tryz.f118 ?_
 refine .len 0 (fun hl0=> ?_)
 refine .bp [.r [],.r [(1,X (Xl cellT l))]] ((l.length:Int) !=0) (fun h1=> ?_) (fun h1=> ?_)
 ·
  have e1:(((l.length:Int)==0):Bool)=false:=by
   rw[beq_eq_false_iff_ne];exact h1
  exact .finE [.r []] [] (fun z0:Bool=>(VB z0,[])) _ _ e1
 ·
  refine .loop (α:=Nat) [.r [(1,X (Xl cellT l))]] 72 (fun i=>([(1,VN),(2,.fn 119 []),(15,VL 5 cellT l),(16,VI (l.length:Int)),(17,VI (i:Int))],[])) (fun i=>i=0) (fun i=>0) (0:Nat) ?_ ?_
  ·
   rfl
  rintro i I4 ih4
  try dsimp only at I4
  refine .bp [.r []] (decide ((i:Int)< (l.length:Int))) (fun h4=> ?_) (fun h4=> ?_)
  ·
   exfalso
   omega
  ·
   have e2:(((l.length:Int)==0):Bool)=true:=by
    rw[beq_iff_eq];exact h1
   exact .finE [.r []] [] (fun z0:Bool=>(VB z0,[])) _ _ e2
end Go.Ch
end
section
set_option linter.unusedVariables false
set_option linter.unusedSimpArgs false
set_option maxRecDepth 100000
set_option maxHeartbeats 4000000
open Go Go.Proofs Go.Ab
namespace Go.Ch
theorem fc_sameG0(x:Grid):FC Tryz.prog 85 [.t (gridT x),.t (.agg [TI 0,TI 0,TN,TN])] (app emp []) (VB (zeroG x)) (app emp []):=by
 refine .go Tryz.f85 ?_
 have e1:((zeroG x):Bool)=((((x.rows==0)&&(x.cols==0))&&(((x.merges).length:Int)==0))&&(((x.cells).length:Int)==0)):=by
  unfold zeroG;rw[Bool.eq_iff_iff];simp only[Bool.and_eq_true];constructor<;>(rintro⟨⟨⟨a,b⟩,c⟩,d⟩;exact⟨⟨⟨a,b⟩,d⟩,c⟩)
 exact .finE [.r [],.r [(7,Xv 1 (x.rows==0) X0),(9,Xv 1 (x.rows==0) X0),(10,Xv 2 (x.rows==0) X0),(11,X (Xk (x.rows==0))),(14,Xv 1 ((x.rows==0)&&(x.cols==0)) X0),(16,Xv 1 ((x.rows==0)&&(x.cols==0)) X0),(17,Xv 2 ((x.rows==0)&&(x.cols==0)) (Xc0 (fc_eqR0 x.merges) X0)),(18,X (Xk ((x.rows==0)&&(x.cols==0)))),(21,Xv 1 (((x.rows==0)&&(x.cols==0))&&(((x.merges).length:Int)==0)) X0),(23,Xv 1 (((x.rows==0)&&(x.cols==0))&&(((x.merges).length:Int)==0)) X0),(24,Xv 2 (((x.rows==0)&&(x.cols==0))&&(((x.merges).length:Int)==0)) (Xc0 (fc_eqC0 x.cells) X0)),(25,X (Xk (((x.rows==0)&&(x.cols==0))&&(((x.merges).length:Int)==0))))]] [] (fun z0:Bool=>(VB z0,[])) _ _ e1
theorem fc_nodeCk(n:Node)(hm:n.grid.merges.length≤1048576):FC Tryz.prog 45 [.t (nodeT n)] (app emp []) (VI (nodeE n)) (app emp []):=by
 refine .go Tryz.f45 ?_
 refine .bp [.r [],.r [(5,Xv 1 (!(decide (n.id<1))) X0),(6,Xv 1 (!(decide (n.id<1))) X0),(7,X (Xk' (decide (n.id<1))))]] (decide (n.id<1)||decide (n.id>1073741824)) (fun h1=> ?_) (fun h1=> ?_)
 ·
  have e1:((nodeE n):Int)=2:=by
   (try rw[errA_eq false n.attrs _ 0 rfl] at*)
   unfold nodeE
   (repeat' split)<;>first|rfl|omega| (exfalso;omega)| (simp_all;done)| (exfalso;simp_all;done)| (exfalso;simp_all;omega)|grind
  exact .finE [.r []] [] (fun z0:Int=>(VI z0,[])) _ _ e1
 ·
  refine .bp [.r [(5,Xv 1 (!(decide (n.kind<0))) X0),(6,Xv 1 (!(decide (n.kind<0))) X0),(7,X (Xk' (decide (n.kind<0)))),(10,Xv 1 (!(decide (n.kind<0)||decide (n.kind≥13))) X0),(11,Xv 1 (!(decide (n.kind<0)||decide (n.kind≥13))) X0),(13,Xv 1 (!(decide (n.kind<0)||decide (n.kind≥13))) X0),(14,Xv 1 (!(decide (n.kind<0)||decide (n.kind≥13))) X0),(15,Xv 2 (!(decide (n.kind<0)||decide (n.kind≥13))) X0),(16,X (Xk' (decide (n.kind<0)||decide (n.kind≥13))))]] ((decide (n.kind<0)||decide (n.kind≥13))|| !((n.id==1)==(n.kind==0))) (fun h3=> ?_) (fun h3=> ?_)
  ·
   have e2:((nodeE n):Int)=8:=by
    (try rw[errA_eq false n.attrs _ 0 rfl] at*)
    unfold nodeE
    (repeat' split)<;>first|rfl|omega| (exfalso;omega)| (simp_all;done)| (exfalso;simp_all;done)| (exfalso;simp_all;omega)|grind
   exact .finE [.r []] [] (fun z0:Int=>(VI z0,[])) _ _ e2
  ·
   refine .bp [.r [(2,X (Xc0 (fc_acheck n.attrs) X0))],.r []] ((chkA false n.attrs 0) !=0) (fun h6=> ?_) (fun h6=> ?_)
   ·
    have e3:((nodeE n):Int)=(chkA false n.attrs 0):=by
     (try rw[errA_eq false n.attrs _ 0 rfl] at*)
     unfold nodeE
     (repeat' split)<;>first|rfl|omega| (exfalso;omega)| (simp_all;done)| (exfalso;simp_all;done)| (exfalso;simp_all;omega)|grind
    exact .finE [.r []] [] (fun z0:Int=>(VI z0,[])) _ _ e3
   ·
    refine .bp [.r [(2,X (Xc0 (fc_Texts n.kind) X0)),(5,Xv 1 (!(hasT n.kind)) X0),(6,Xv 1 (!(hasT n.kind)) (Xc0 (fc_Lists n.kind) X0)),(7,X (Xk' (hasT n.kind))),(10,X (Xc0 (fc_Grids n.kind) X0))],.r [(4,Xv 1 (!((hasT n.kind)|| (hasL n.kind))) X0),(5,Xv 1 (!((hasT n.kind)|| (hasL n.kind))) (Xl elemT n.flow)),(6,Xv 1 (!((hasT n.kind)|| (hasL n.kind))) X0),(7,X (Xk (!((hasT n.kind)|| (hasL n.kind))))),(10,Xv 1 (!(!((hasT n.kind)|| (hasL n.kind))&&decide ((n.flow.length:Int)> 0))) X0),(11,Xv 1 (!(!((hasT n.kind)|| (hasL n.kind))&&decide ((n.flow.length:Int)> 0))) X0),(13,Xv 1 ((!(!((hasT n.kind)|| (hasL n.kind))&&decide ((n.flow.length:Int)> 0)))&&(!(hasG n.kind))) X0),(15,Xv 2 ((!(!((hasT n.kind)|| (hasL n.kind))&&decide ((n.flow.length:Int)> 0)))&&(!(hasG n.kind))) (Xc0 (fc_sameG0 n.grid) X0)),(16,Xv 1 ((!(!((hasT n.kind)|| (hasL n.kind))&&decide ((n.flow.length:Int)> 0)))&&(!(hasG n.kind))) X0),(17,Xka (!(!((hasT n.kind)|| (hasL n.kind))&&decide ((n.flow.length:Int)> 0))) (!(hasG n.kind))),(18,X (Xk' (!((hasT n.kind)|| (hasL n.kind))&&decide ((n.flow.length:Int)> 0)))),(21,Xv 1 (!((!((hasT n.kind)|| (hasL n.kind))&&decide ((n.flow.length:Int)> 0))|| (!(hasG n.kind)&& !(zeroG n.grid)))) X0),(22,Xv 1 (!((!((hasT n.kind)|| (hasL n.kind))&&decide ((n.flow.length:Int)> 0))|| (!(hasG n.kind)&& !(zeroG n.grid)))) (Xc0 (fc_Draws n.kind) X0)),(23,Xv 1 (!((!((hasT n.kind)|| (hasL n.kind))&&decide ((n.flow.length:Int)> 0))|| (!(hasG n.kind)&& !(zeroG n.grid)))) X0),(24,Xv 1 (!((!((hasT n.kind)|| (hasL n.kind))&&decide ((n.flow.length:Int)> 0))|| (!(hasG n.kind)&& !(zeroG n.grid)))) X0),(26,Xv 1 ((!((!((hasT n.kind)|| (hasL n.kind))&&decide ((n.flow.length:Int)> 0))|| (!(hasG n.kind)&& !(zeroG n.grid))))&&(!(hasD n.kind))) X0),(27,Xv 1 ((!((!((hasT n.kind)|| (hasL n.kind))&&decide ((n.flow.length:Int)> 0))|| (!(hasG n.kind)&& !(zeroG n.grid))))&&(!(hasD n.kind))) (Xl dopT n.draw)),(28,Xv 1 ((!((!((hasT n.kind)|| (hasL n.kind))&&decide ((n.flow.length:Int)> 0))|| (!(hasG n.kind)&& !(zeroG n.grid))))&&(!(hasD n.kind))) X0),(29,Xka (!((!((hasT n.kind)|| (hasL n.kind))&&decide ((n.flow.length:Int)> 0))|| (!(hasG n.kind)&& !(zeroG n.grid)))) (!(hasD n.kind))),(30,X (Xk' ((!((hasT n.kind)|| (hasL n.kind))&&decide ((n.flow.length:Int)> 0))|| (!(hasG n.kind)&& !(zeroG n.grid)))))]] (((!((hasT n.kind)|| (hasL n.kind))&&decide ((n.flow.length:Int)> 0))|| (!(hasG n.kind)&& !(zeroG n.grid)))|| (!(hasD n.kind)&&decide ((n.draw.length:Int)> 0))) (fun h9=> ?_) (fun h9=> ?_)
    ·
     have e4:((nodeE n):Int)=4:=by
      (try rw[errA_eq false n.attrs _ 0 rfl] at*)
      unfold nodeE
      (repeat' split)<;>first|rfl|omega| (exfalso;omega)| (simp_all;done)| (exfalso;simp_all;done)| (exfalso;simp_all;omega)|grind
     exact .finE [.r []] [] (fun z0:Int=>(VI z0,[])) _ _ e4
    ·
     refine .bp [.r []] ((hasT n.kind)|| (hasL n.kind)) (fun h11=> ?_) (fun h11=> ?_)
     ·
      have e5:((nodeE n):Int)=(flowZ (hasT n.kind) n.flow):=by
       (try rw[errA_eq false n.attrs _ 0 rfl] at*)
       unfold nodeE
       (repeat' split)<;>first|rfl|omega| (exfalso;omega)| (simp_all;done)| (exfalso;simp_all;done)| (exfalso;simp_all;omega)|grind
      exact .finE [.r [(4,X (Xc0 (fc_Texts n.kind) X0)),(5,X (Xc0 (fc_flowCheckX n.flow (hasT n.kind)) X0))]] [] (fun z0:Int=>(VI z0,[])) _ _ e5
     ·
      refine .bp [.r []] (hasG n.kind) (fun h13=> ?_) (fun h13=> ?_)
      ·
       refine .bp [.r [(2,X (Xc0 (fc_gcheck n.grid (by omega)) X0))],.r []] ((gridE n.grid) !=0) (fun h15=> ?_) (fun h15=> ?_)
       ·
        have e6:((nodeE n):Int)=(gridE n.grid):=by
         (try rw[errA_eq false n.attrs _ 0 rfl] at*)
         unfold nodeE
         (repeat' split)<;>first|rfl|omega| (exfalso;omega)| (simp_all;done)| (exfalso;simp_all;done)| (exfalso;simp_all;omega)|grind
        exact .finE [.r []] [] (fun z0:Int=>(VI z0,[])) _ _ e6
       ·
        have e7:((nodeE n):Int)=(cellK n.kind n.grid.cells 0):=by
         (try rw[errA_eq false n.attrs _ 0 rfl] at*)
         unfold nodeE
         (repeat' split)<;>first|rfl|omega| (exfalso;omega)| (simp_all;done)| (exfalso;simp_all;done)| (exfalso;simp_all;omega)|grind
        exact .finE [.r [(5,X (Xc0 (fc_cellCk n.kind n.grid.cells) X0))]] [] (fun z0:Int=>(VI z0,[])) _ _ e7
      ·
       have e8:((nodeE n):Int)=(drawE n.draw 0):=by
        (try rw[errA_eq false n.attrs _ 0 rfl] at*)
        unfold nodeE
        (repeat' split)<;>first|rfl|omega| (exfalso;omega)| (simp_all;done)| (exfalso;simp_all;done)| (exfalso;simp_all;omega)|grind
       exact .finE [.r [(2,X (Xc0 (fc_dcheck n.draw) X0))]] [] (fun z0:Int=>(VI z0,[])) _ _ e8
theorem fc_docCk(d:Doc)(hb:DocB d):FC Tryz.prog 14 [.t (docT d)] (app emp []) (VI (docE d)) (app emp []):=by
 refine .go Tryz.f14 ?_
 have hl:=hb.len
 refine .bp [.r [],.r [(2,X (Xl nodeT d.nodes))]] ((d.nodes.length:Int)==0) (fun h1=> ?_) (fun h1=> ?_)
 ·
  have e1:((docE d):Int)=11:=by
   exact docE_short (by omega)
  exact .finE [.r []] [] (fun z0:Int=>(VI z0,[])) _ _ e1
 ·
  refine .loop (α:=Nat) [.r [(2,X (Xl nodeT d.nodes))]] 80 (fun i=>([(1,.ptr 0 0),(14,VL 9 nodeT d.nodes),(15,VI (d.nodes.length:Int)),(16,VI (i:Int))],[(0,.box [VL 9 nodeT d.nodes])])) (fun i=>i≤d.nodes.length∧nodesE d.nodes 0=nodesE d.nodes i) (fun i=>d.nodes.length-i) (0:Nat) ?_ ?_
  ·
   exact⟨by omega,rfl⟩
  rintro i I4 ih4
  try dsimp only at I4
  refine .bp [.r []] (decide ((i:Int)< (d.nodes.length:Int))) (fun h4=> ?_) (fun h4=> ?_)
  ·
   have hn:=(hb.all _ (getDN_mem (l:=d.nodes) (i:=i) (by omega))).me
   refine .bp [.r [(1,X (Xi nodeT d.nodes (i:Int)))],.r [(1,X (Xc0 (fc_nodeCk ((d.nodes.getD i default)) (by assumption)) X0))],.r []] ((nodeE ((d.nodes.getD i default))) !=0) (fun h7=> ?_) (fun h7=> ?_)
   ·
    have e2:((docE d):Int)=(nodeE ((d.nodes.getD i default))):=by
     exact docE_node (by omega) (I4.2.trans (nodesE_bad (by omega) h7)) h7
    exact .finE [.r []] [] (fun z0:Int=>(VI z0,[])) _ _ e2
   ·
    refine .bp [.r [(4,Xv 1 ((i:Int)==0) X0),(5,Xv 1 ((i:Int)==0) X0),(6,X (Xk ((i:Int)==0))),(9,Xv 1 (!(((i:Int)==0)&&((((d.nodes.getD i default)).id) !=1))) X0),(10,Xv 1 (!(((i:Int)==0)&&((((d.nodes.getD i default)).id) !=1))) X0),(12,Xv 1 ((!(((i:Int)==0)&&((((d.nodes.getD i default)).id) !=1)))&&(decide ((i:Int)> 0))) X0),(14,Xv 1 ((!(((i:Int)==0)&&((((d.nodes.getD i default)).id) !=1)))&&(decide ((i:Int)> 0))) X0),(16,Xv 1 ((!(((i:Int)==0)&&((((d.nodes.getD i default)).id) !=1)))&&(decide ((i:Int)> 0))) (Xn ((i:Int)- 1))),(17,Xv 2 ((!(((i:Int)==0)&&((((d.nodes.getD i default)).id) !=1)))&&(decide ((i:Int)> 0))) (Xi' nodeT d.nodes ((i:Int)- 1) (i- 1))),(18,Xv 1 ((!(((i:Int)==0)&&((((d.nodes.getD i default)).id) !=1)))&&(decide ((i:Int)> 0))) X0),(19,Xv 1 ((!(((i:Int)==0)&&((((d.nodes.getD i default)).id) !=1)))&&(decide ((i:Int)> 0))) X0),(20,Xv 2 ((!(((i:Int)==0)&&((((d.nodes.getD i default)).id) !=1)))&&(decide ((i:Int)> 0))) X0),(21,Xka (!(((i:Int)==0)&&((((d.nodes.getD i default)).id) !=1))) (decide ((i:Int)> 0))),(22,X (Xk' (((i:Int)==0)&&((((d.nodes.getD i default)).id) !=1))))]] ((((i:Int)==0)&&((((d.nodes.getD i default)).id) !=1))|| (decide ((i:Int)> 0)&&decide ((((d.nodes.getD i default)).id)≤(((d.nodes.getD (i- 1) default)).id)))) (fun h9=> ?_) (fun h9=> ?_)
    ·
     have e3:((docE d):Int)=5:=by
      exact docE_node (by omega) (I4.2.trans (nodesE_ord (by omega) h7 (by rcases h9 with q|q;(left;obtain⟨q1,q2⟩:=q;have q3:i=0:=(by omega);subst q3;exact⟨rfl,q2⟩);(right;omega)))) (by decide)
     exact .finE [.r []] [] (fun z0:Int=>(VI z0,[])) _ _ e3
    ·
     refine .back [.r [(0,X (Xn ((i:Int)+1)))]] [(0,0)] (ih4 ((i+1):Nat) ?_ ?_)
     ·
      exact⟨by omega,I4.2.trans (nodesE_next (by omega) h7 (by rintro(⟨q1,q2⟩|q);(subst q1;rcases h9.1 with q|q;(exact q rfl);(exact q2 q));(rcases h9.2 with q3|q3<;>omega)))⟩
     ·
      ((try dsimp only);omega)
  ·
   refine .loop (α:=Nat) [.r [(2,X (Xl nodeT d.nodes))]] 120 (fun j=>([(1,.ptr 0 0),(51,VL 9 nodeT d.nodes),(52,VI (d.nodes.length:Int)),(53,VI (j:Int))],[(0,.box [VL 9 nodeT d.nodes])])) (fun j=>j≤d.nodes.length∧allRefsE d.nodes 0=allRefsE d.nodes j) (fun j=>d.nodes.length-j) (0:Nat) ?_ ?_
   ·
    exact⟨by omega,rfl⟩
   rintro j I13 ih13
   try dsimp only at I13
   refine .bp [.r []] (decide ((j:Int)< (d.nodes.length:Int))) (fun h13=> ?_) (fun h13=> ?_)
   ·
    have hn:=hb.all _ (getDN_mem (l:=d.nodes) (i:=j) (by omega))
    have hs:=sort_of (I4.2.trans (nodesE_end (by omega)))
    refine .bp [.r [(0,X (Xi nodeT d.nodes (j:Int)))],.r [(4,X (Xc1 192 (fc_refsNd ((d.nodes.getD j default)) (by assumption)) X0)),(5,X (Xc0 (fc_refsCk d (((d.nodes.getD j default)).kind) (refsN ((d.nodes.getD j default))) (by assumption) (by assumption)) X0))],.r []] ((refsE (d).nodes (((d.nodes.getD j default)).kind) (refsN ((d.nodes.getD j default))) 0) !=0) (fun h16=> ?_) (fun h16=> ?_)
    ·
     have e4:((docE d):Int)=(refsE (d).nodes (((d.nodes.getD j default)).kind) (refsN ((d.nodes.getD j default))) 0):=by
      exact docE_refs (by omega) (I4.2.trans (nodesE_end (by omega))) (I13.2.trans (allR_bad (by omega) h16))
     exact .finE [.r []] [] (fun z0:Int=>(VI z0,[])) _ _ e4
    ·
     refine .back [.r [(0,X (Xn ((j:Int)+1)))]] [(0,0)] (ih13 ((j+1):Nat) ?_ ?_)
     ·
      exact⟨by omega,I13.2.trans (allR_next (by omega) h16)⟩
     ·
      ((try dsimp only);omega)
   ·
    have e5:((docE d):Int)=0:=by
     exact docE_refs (by omega) (I4.2.trans (nodesE_end (by omega))) (I13.2.trans (allR_end (by omega)))
    exact .finE [.r []] [] (fun z0:Int=>(VI z0,[])) _ _ e5
end Go.Ch
end
section
namespace Go.Ch
open Go Go.Ab
theorem set_fill{α:Type}[Inhabited α]{l:List α}{i n:Nat}{z x:α}(hn:n=l.length)(hi:i<n)(hx:x=l.getD i default):(l.take i++List.replicate (n-i) z).set i x=l.take (i+1)++List.replicate (n- (i+1)) z:=by
 subst hn
 have h1:(l.take i).length=i:=by simp;omega
 rw[List.set_append,if_neg (by omega),h1,Nat.sub_self,show l.length-i=(l.length- (i+1))+1 by omega,List.replicate_succ,List.set_cons_zero,List.take_succ_eq_append_getElem hi,hx,List.append_assoc]
 simp only[List.getD,List.getElem?_eq_getElem hi,Option.getD_some]
 rfl
theorem set_same{α:Type}[Inhabited α]{l:List α}{i:Nat}{x:α}(hx:x=l.getD i default):l.set i x=l:=by
 subst hx
 by_cases h:i<l.length
 ·rw[List.getD_eq_getElem?_getD,List.getElem?_eq_getElem h];simp
 ·rw[List.set_eq_of_length_le (by omega)]
end Go.Ch
end
section
set_option linter.unusedVariables false
set_option linter.unusedSimpArgs false
set_option maxRecDepth 100000
set_option maxHeartbeats 4000000
open Go Go.Proofs Go.Ab
namespace Go.Ch
theorem fc_copyF(l:List Elem)(hn:l.length≤1048576)(hs:∀x∈l,x.attrs.length≤1048576):FC Tryz.prog 111 [VL 3 elemT l] (app emp []) (VL 3 elemT l) (app emp []):=by
 refine .go Tryz.f111 ?_
 refine .len 0 (fun hl0=> ?_)
 refine .loop (α:=Nat×(List Elem)) [.r [],.r [(1,X (Xl elemT l)),(2,X (Xmz 3 elemT 24 (l.length:Int) (l.length:Int) ({char:=0,ref:=0,attrs:=[]}:Elem) [TI 0,TI 0,TN] ⟨.inl rfl,⟨.inl rfl,⟨tw_nil (by decide),trivial⟩⟩⟩))],.r [(1,X (Xl elemT l))]] 64 (fun(i,o)=>([(3,.row 24 l.length),(9,VL 3 elemT l),(10,VI (l.length:Int)),(11,VI (i:Int))],[(24,OR 3 elemT o)])) (fun(i,o)=>i≤l.length∧o=l.take i++List.replicate (l.length-i) ({char:=0,ref:=0,attrs:=[]}:Elem)) (fun(i,o)=>l.length-i) (0,(List.replicate l.length ({char:=0,ref:=0,attrs:=[]}:Elem))) ?_ ?_
 ·
  exact⟨by omega,by simp⟩
 rintro⟨i,o⟩ I3 ih3
 try dsimp only at I3
 have ol:o.length=l.length:=by rw[I3.2];simp;omega
 refine .bp [.r []] (decide ((i:Int)< (l.length:Int))) (fun h3=> ?_) (fun h3=> ?_)
 ·
  have hx:=hs _ (getDE_mem (l:=l) (k:=i) (by omega))
  refine .back [.r [(1,X (Xi elemT l (i:Int)))],.r [(8,X (Xan attrT 184 (((l.getD i default)).attrs))),(10,X (Xpn l.length elemT o (i:Int))),(11,X (rowC attrT (((l.getD i default)).attrs) (Xsn l.length 3 elemT 24 o i ((l.getD i default)) [(184,OF 2 attrT (((l.getD i default)).attrs))])))],.r [(0,X (Xn ((i:Int)+1)))]] [(24,24)] (ih3 ((i+1),(o.set i ((l.getD i default)))) ?_ ?_)
  ·
   refine⟨by omega,?_⟩
   rw[I3.2]
   exact set_fill rfl (by omega) rfl
  ·
   ((try dsimp only);omega)
 ·
  have e1:(l:List Elem)=o:=by
   rw[I3.2,List.take_of_length_le (by omega),show l.length-i=0 by omega];simp
  exact .finE [.r [],.le (.fr 2 [(l.length:Nat)=(List.map elemT o).length] ⟨lm,trivial⟩)] [] (fun z0:List Elem=>(VL 3 elemT z0,[])) _ _ e1
theorem fc_copyN(n:Node)(hb:NodeB n):FC Tryz.prog 74 [.t (nodeT n)] (app emp []) (.t (nodeT n)) (app emp []):=by
 refine .go Tryz.f74 ?_
 have b1:=hb.at2
 have b2:=hb.fl2
 have b3:=hb.fl3
 have b4:=hb.ce2
 have b5:=hb.me
 have b6:=hb.dr1
 refine .loop (α:=Nat×(List Cell)) [.r [],.r [(2,X (Xan attrT 32 n.attrs))],.r [(2,X (Xc1 72 (fc_copyF n.flow (by assumption) (by assumption)) X0))],.r [(2,X (Xan dopT 112 n.draw))],.r [],.r [(2,X (Xan rectT 184 n.grid.merges))],.r [(2,X (Xan cellT 224 n.grid.cells))],.r []] 280 (fun(i,o)=>([(1,.ptr 0 0),(2,.ptr 8 0),(3,.ptr 152 0),(29,.row 224 o.length),(30,VI (n.grid.cells.length:Int)),(31,VI (i:Int))],[(0,.box [VI n.id,VI n.kind,.row 32 n.attrs.length,VL 3 elemT n.flow,VI n.grid.rows,VI n.grid.cols,VL 5 cellT n.grid.cells,VL 4 rectT n.grid.merges,.row 112 n.draw.length]),(8,.box [VI 0,VI 0,VN,VN,VI 0,VI 0,VN,VN,VN]),(32,OR 2 attrT n.attrs),(112,OR 8 dopT n.draw),(152,.box [VI n.grid.rows,VI n.grid.cols,.row 224 o.length,.row 184 n.grid.merges.length]),(184,OR 4 rectT n.grid.merges),(224,OR 5 cellT o)])) (fun(i,o)=>i≤n.grid.cells.length∧o=n.grid.cells) (fun(i,o)=>n.grid.cells.length-i) (0,n.grid.cells) ?_ ?_
 ·
  exact⟨by omega,rfl⟩
 rintro⟨i,o⟩ I8 ih8
 try dsimp only at I8
 have ol:o.length=n.grid.cells.length:=by rw[I8.2]
 refine .bp [.r []] (decide ((i:Int)< (n.grid.cells.length:Int))) (fun h8=> ?_) (fun h8=> ?_)
 ·
  have hc:=hb.ce3 (o.getD i default) (by rw[I8.2];exact getDX_mem (by omega))
  refine .back [.r [(1,X (Xp cellT o (i:Int))),(2,X (Xe cellT o i))],.r [(5,X (Xan attrT 376 (((o.getD i default)).attrs))),(6,X (Xp cellT o (i:Int))),(8,X (rowC attrT (((o.getD i default)).attrs) (Xs 5 cellT 224 o i ((o.getD i default)) [(376,OF 2 attrT (((o.getD i default)).attrs))])))],.r [(0,X (Xn ((i:Int)+1)))],.le (.eq 29 (.row 224 o.length) (.row 224 ((o.set i ((o.getD i default))).length)) (.of_eq (by simp only[List.length_set]))),.le (.eb 152 2 (.row 224 o.length) (.row 224 ((o.set i ((o.getD i default))).length)) (by simp only[List.length_set]))] [(0,0),(8,8),(32,32),(112,112),(152,152),(184,184),(224,224)] (ih8 ((i+1),(o.set i ((o.getD i default)))) ?_ ?_)
  ·
   refine⟨by omega,?_⟩
   rw[I8.2];exact set_same rfl
  ·
   ((try dsimp only);omega)
 ·
  have e1:(n:Node)=({id:=n.id,kind:=n.kind,attrs:=n.attrs,flow:=n.flow,grid:=({rows:=n.grid.rows,cols:=n.grid.cols,cells:=o,merges:=n.grid.merges}:Grid),draw:=n.draw}:Node):=by
   rw[I8.2]
  exact .finVE [.r [],.r []] [.fR 0 [(n.attrs.length:Nat)=(List.map attrT n.attrs).length,(o.length:Nat)=(List.map cellT o).length,(n.grid.merges.length:Nat)=(List.map rectT n.grid.merges).length,(n.draw.length:Nat)=(List.map dopT n.draw).length] ⟨lm,lm,lm,lm,trivial⟩] [] (fun z0:Node=>(.t (nodeT z0),[])) _ _ e1
theorem fc_copyD(d:Doc)(hb:DocB d):FC Tryz.prog 36 [.t (docT d)] (app emp []) (.t (docT d)) (app emp []):=by
 refine .go Tryz.f36 ?_
 have hl:=hb.len
 refine .loop (α:=Nat×(List Node)) [.r [],.r [(2,X (Xl nodeT d.nodes)),(3,X (Xmz 9 nodeT 40 (d.nodes.length:Int) (d.nodes.length:Int) ({id:=0,kind:=0,attrs:=[],flow:=[],grid:=({rows:=0,cols:=0,cells:=[],merges:=[]}:Grid),draw:=[]}:Node) [TI 0,TI 0,TN,TN,TI 0,TI 0,TN,TN,TN] ⟨.inl rfl,⟨.inl rfl,⟨tw_nil (by decide),⟨tw_nil (by decide),⟨.inl rfl,⟨.inl rfl,⟨tw_nil (by decide),⟨tw_nil (by decide),⟨tw_nil (by decide),trivial⟩⟩⟩⟩⟩⟩⟩⟩⟩))],.r [(2,X (Xl nodeT d.nodes))],.le (.eb 56 0 (.row 40 d.nodes.length) (.row 40 ((List.replicate d.nodes.length ({id:=0,kind:=0,attrs:=[],flow:=[],grid:=({rows:=0,cols:=0,cells:=[],merges:=[]}:Grid),draw:=[]}:Node)).length)) (by simp only[List.length_replicate]))] 104 (fun(i,o)=>([(2,.ptr 8 0),(3,.ptr 56 0),(12,VL 9 nodeT d.nodes),(13,VI (d.nodes.length:Int)),(14,VI (i:Int))],[(8,.box [VN]),(40,OR 9 nodeT o),(56,.box [.row 40 o.length])])) (fun(i,o)=>i≤d.nodes.length∧o=d.nodes.take i++List.replicate (d.nodes.length-i) ({id:=0,kind:=0,attrs:=[],flow:=[],grid:=({rows:=0,cols:=0,cells:=[],merges:=[]}:Grid),draw:=[]}:Node)) (fun(i,o)=>d.nodes.length-i) (0,(List.replicate d.nodes.length ({id:=0,kind:=0,attrs:=[],flow:=[],grid:=({rows:=0,cols:=0,cells:=[],merges:=[]}:Grid),draw:=[]}:Node))) ?_ ?_
 ·
  exact⟨by omega,by simp⟩
 rintro⟨i,o⟩ I3 ih3
 try dsimp only at I3
 have ol:o.length=d.nodes.length:=by rw[I3.2];simp;omega
 refine .bp [.r []] (decide ((i:Int)< (d.nodes.length:Int))) (fun h3=> ?_) (fun h3=> ?_)
 ·
  have hx:=hb.all _ (getDN_mem (l:=d.nodes) (i:=i) (by omega))
  refine .back [.r [(1,X (Xi nodeT d.nodes (i:Int)))],.r [(4,X (Xc1 192 (fc_copyN ((d.nodes.getD i default)) (by assumption)) X0)),(5,X (Xp nodeT o (i:Int))),(6,X (Xs 9 nodeT 40 o i (((d.nodes.getD i default)))))],.r [(0,X (Xn ((i:Int)+1)))],.le (.eb 56 0 (.row 40 o.length) (.row 40 ((o.set i (((d.nodes.getD i default)))).length)) (by simp only[List.length_set]))] [(8,8),(40,40),(56,56)] (ih3 ((i+1),(o.set i (((d.nodes.getD i default))))) ?_ ?_)
  ·
   refine⟨by omega,?_⟩
   rw[I3.2]
   exact set_fill rfl (by omega) rfl
  ·
   ((try dsimp only);omega)
 ·
  have e1:(d:Doc)=({nodes:=o}:Doc):=by
   rw[I3.2,List.take_of_length_le (by omega),show d.nodes.length-i=0 by omega];simp
  exact .finVE [.r []] [.fR 0 [(o.length:Nat)=(List.map nodeT o).length] ⟨lm,trivial⟩] [] (fun z0:Doc=>(.t (docT z0),[])) _ _ e1
end Go.Ch
end
section
set_option linter.unusedVariables false
namespace Go.Ch
open Go Go.Ab
theorem both_mem:∀(a b:List Attr) (p:Attr×Attr),p∈bothL a b→(p.1∈a∨p.1=default)∧(p.2∈b∨p.2=default):=by
 intro a b
 induction a,b using bothL.induct with
 |case1=>intro p hp;simp[bothL] at hp
 |case2 y b ih=>
  intro p hp
  rw[bothL,List.mem_cons] at hp
  rcases hp with rfl|hp
  ·exact⟨.inr rfl,.inl List.mem_cons_self⟩
  ·exact⟨(ih p hp).1,(ih p hp).2.imp (List.mem_cons_of_mem _) id⟩
 |case3 x a ih=>
  intro p hp
  rw[bothL,List.mem_cons] at hp
  rcases hp with rfl|hp
  ·exact⟨.inl List.mem_cons_self,.inr rfl⟩
  ·exact⟨(ih p hp).1.imp (List.mem_cons_of_mem _) id,(ih p hp).2⟩
 |case4 x a y b h ih=>
  intro p hp
  rw[bothL,if_pos h,List.mem_cons] at hp
  rcases hp with rfl|hp
  ·exact⟨.inl List.mem_cons_self,.inr rfl⟩
  ·exact⟨(ih p hp).1.imp (List.mem_cons_of_mem _) id,(ih p hp).2⟩
 |case5 x a y b h k ih=>
  intro p hp
  rw[bothL,if_neg h,if_pos k,List.mem_cons] at hp
  rcases hp with rfl|hp
  ·exact⟨.inr rfl,.inl List.mem_cons_self⟩
  ·exact⟨(ih p hp).1,(ih p hp).2.imp (List.mem_cons_of_mem _) id⟩
 |case6 x a y b h k ih=>
  intro p hp
  rw[bothL,if_neg h,if_neg k,List.mem_cons] at hp
  rcases hp with rfl|hp
  ·exact⟨.inl List.mem_cons_self,.inl List.mem_cons_self⟩
  ·exact⟨(ih p hp).1.imp (List.mem_cons_of_mem _) id,(ih p hp).2.imp (List.mem_cons_of_mem _) id⟩
def ValsB(l:List Attr):Prop:=∀a∈l,a.val.size≤1048576
theorem vals_raw{a b:List Attr}(ha:ValsB a)(hb:ValsB b):ValsB (fm rawG a b):=by
 intro z hz
 unfold fm at hz
 obtain⟨p,hp,hg⟩:=List.mem_filterMap.1 hz
 obtain⟨h1,h2⟩:=both_mem a b p hp
 have d0:(default:Attr).val.size≤1048576:=by decide
 unfold rawG at hg
 split at hg
 ·cases hg
  rcases h1 with h|h
  ·exact ha _ h
  ·rw[h];exact d0
 ·split at hg
  ·cases hg
  ·cases hg
   rcases h2 with h|h
   ·exact hb _ h
   ·rw[h];exact d0
theorem putK_mem{α:Type}{key:α→Int}:∀{l:List α} {x y:α},y∈putK key l x→y=x∨y∈l
 | [],x,y,h=>by simp[putK] at h;exact .inl h
 |z::l,x,y,h=>by
  rw[putK] at h
  split at h
  ·rcases List.mem_cons.1 h with h|h
   ·exact .inl h
   ·exact .inr (List.mem_cons_of_mem _ h)
  ·rcases List.mem_cons.1 h with h|h
   ·exact .inr (h▸List.mem_cons_self)
   ·exact(putK_mem h).imp id (List.mem_cons_of_mem _)
theorem findA_mem{l:List (Int×List Attr)}{k:Int}(h:∀p∈l,ValsB p.2):ValsB (findA l k):=by
 unfold findA
 cases hf:l.find? (fun p=>p.1==k) with
 |none=>intro a ha;cases ha
 |some p=>exact h p (List.mem_of_find?_eq_some hf)
theorem play_vals:∀(l:List DOp) (S:List DItem×List (Int×List Attr)),(∀o∈l,o.vl.size≤1048576)→(∀p∈S.2,ValsB p.2)→∀p∈(l.foldl stepP S).2,ValsB p.2
 | [],S,_,h=>h
 |o::l,S,hl,h=>by
  rw[List.foldl_cons]
  refine play_vals l _ (fun o ho=>hl o (List.mem_cons_of_mem _ ho)) ?_
  unfold stepP
  split
  ·intro p hp
   rcases putK_mem hp with rfl|hp
   ·exact vals_raw (findA_mem h) (fun a ha=>by rw[List.mem_singleton.1 ha];exact hl o List.mem_cons_self)
   ·exact h p hp
  ·split
   ·exact h
   ·exact h
theorem raw_mem{l:List DOp}{x:DItem}(h:x∈rawI l):x∈itsF l:=by
 unfold rawI at h
 rcases List.mem_append.1 h with h|h
 ·exact(walkI_below _ h).1
 ·exact(srtO_perm ltN _).mem_iff.1 (List.mem_filter.1 h).1
theorem raw_vals{l:List DOp}(h:∀o∈l,o.vl.size≤1048576){x:DItem}(hx:x∈rawI l):ValsB x.attrs:=by
 have hm:=raw_mem hx
 unfold itsF at hm
 obtain⟨y,hy,rfl⟩:=List.mem_map.1 hm
 exact findA_mem (play_vals l ([],[]) h (fun p hp=>by cases hp))
theorem getA_size{l:List Attr}(h:ValsB l)(n:ByteArray):∀(k i:Nat),l.length-i=k→(getA l n i).size≤1048576
 |0,i,hk=>by rw[getA,if_neg (by omega)];decide
 |k+1,i,hk=>by
  rw[getA,if_pos (by omega)]
  split
  ·exact h _ (getDX_mem (by omega))
  ·exact getA_size h n k (i+1) (by omega)
theorem shown_le{l:List DItem}:∀(n i:Nat),l.length-i=n→i≤l.length→shownF l i≤l.length
 |0,i,h,hi=>by rw[shownF,if_neg (by omega)];omega
 |n+1,i,h,hi=>by
  rw[shownF,if_pos (by omega)]
  split
  ·exact shown_le n (i+1) (by omega) (by omega)
  ·omega
theorem raw_len{l:List DOp}(ho:∀o∈l,0<o.itm):(rawI l).length≤2*l.length:=by
 obtain⟨r,hr⟩:=itsF_ok ho
 have h1:(walkF l).length≤(itsF l).length:=walk_sub hr _ (Int.le_refl 0)
 have h2:=List.length_filter_le (fun x:DItem=>decide (x.item∉(walkF l).map DItem.item)) (srtN (itsF l))
 have h3:=itsF_len ho
 have h4:=srtN_len (itsF l)
 unfold rawI
 rw[List.length_append]
 omega
def keyNode:ByteArray:={data:=#[110,111,100,101]}
def itoaB(v:Int):ByteArray:=⟨(Lib.itoa v).toArray⟩
def numF(s:ByteArray):Option Int:=match Lib.atoiAll s.data.toList with
 | .ok v=>if seq (itoaB v) s=true then some v else none
 |_=>none
theorem num_ok{s:ByteArray}{v:Int}(h:Lib.atoiAll s.data.toList= .ok v):numF s=if seq (itoaB v) s=true then some v else none:=by unfold numF;rw[h]
theorem num_no{s:ByteArray}(h:∀v,Lib.atoiAll s.data.toList≠ .ok v):numF s=none:=by
 unfold numF
 split
 ·rename_i v hv;exact absurd hv (h v)
 ·rfl
def itemD(l:List Node)(x:DItem):Option Int:=(numF (getA x.attrs keyNode 0)).bind fun v=>if hasN l v=true∧(l.getD (lobN l v) default).kind=1 then some v else none
def shownD(n:Node):List DItem:=(rawI n.draw).take (shownF (rawI n.draw) 0)
def itemsD(l:List Node)(n:Node):List Int:=(shownD n).filterMap (itemD l)
theorem items_next{l:List Node}{n:Node}{i:Nat}(h:i< (shownD n).length):((shownD n).take (i+1)).filterMap (itemD l)=((shownD n).take i).filterMap (itemD l)++(itemD l ((shownD n).getD i default)).toList:=filM_succ _ h
theorem itemD_none{l:List Node}{x:DItem}(h:numF (getA x.attrs keyNode 0)=none):itemD l x=none:=by unfold itemD;rw[h];rfl
theorem itemD_some{l:List Node}{x:DItem}{v:Int}(h:numF (getA x.attrs keyNode 0)=some v):itemD l x=if hasN l v=true∧(l.getD (lobN l v) default).kind=1 then some v else none:=by unfold itemD;rw[h];rfl
theorem draw_of{n:Node}(h:nodeE n=0):drawE n.draw 0=0:=by
 have h0:∀{m:Node},m.draw.length=0→drawE m.draw 0=0:=fun {m} h=>by rw[drawE,if_neg (by omega)]
 by_cases hd:n.draw.length=0
 ·exact h0 hd
 ·unfold nodeE at h
  split at h
  ·cases h
  split at h
  ·cases h
  split at h
  ·rename_i q;exact absurd h q
  split at h
  ·cases h
  rename_i q1
  have hk:hasD n.kind=true:=by
   cases hq:hasD n.kind
   ·exact absurd (.inr (.inr ⟨by omega,hq⟩)) q1
   ·rfl
  unfold hasD at hk
  simp only[Bool.or_eq_true,beq_iff_eq] at hk
  split at h
  ·rename_i q2
   unfold hasT hasL at q2
   simp only[Bool.or_eq_true,beq_iff_eq] at q2
   omega
  split at h
  ·rename_i q2
   unfold hasG at q2
   simp only[Bool.or_eq_true,beq_iff_eq] at q2
   omega
  ·exact h
theorem items_len{l:List Node}{n:Node}(hb:NodeB n)(he:nodeE n=0):(itemsD l n).length≤2097152:=by
 have ho:=drawE_pos (draw_of he)
 have h1:=raw_len ho
 have h2:=hb.dr1
 have h3:(itemsD l n).length≤(shownD n).length:=List.length_filterMap_le _ _
 have h4:(shownD n).length≤(rawI n.draw).length:=by unfold shownD;rw[List.length_take];omega
 omega
end Go.Ch
end
section
set_option linter.unusedVariables false
set_option linter.unusedSimpArgs false
set_option maxRecDepth 100000
set_option maxHeartbeats 4000000
open Go Go.Proofs Go.Ab
namespace Go.Ch
theorem two_rel{st:Store}{m:Ab.Place}{w:World}{ok:Nat→Prop}{a b:AVal}{u v:Value}(h1:VRel st m w ok a u)(h2:VRel st m w ok b v):VRel st m w ok (.tup [a,b]) (.tuple #[u,v]):=by
 refine .tup _ [u,v] rfl (fun i x y e1 e2=> ?_)
 match i with
 |0=>cases e1;cases e2;exact h1
 |1=>cases e1;cases e2;exact h2
 |i+2=>cases e1
theorem fc_itoa(n:Int)(h: -9223372036854775808≤n∧n≤9223372036854775807):FC Tryz.prog 103 [VI n] (app emp []) (VS (itoaB n)) (app emp []):=by
 refine FC.ofTab (us:=[.int .i64 n]) (v:= .string ⟨(Lib.itoa n).toArray⟩) (fun st m w ok xs hl hv=> ?_) (fun st m w ok=> .t _ _ (.sc _ rfl)) (fun w hT=> ?_)
 ·match xs,hl with
  | [x],_=>
   have:=VRel.sc_inv (hv 0 _ _ rfl rfl)
   rw[this]
 ·have ht:Lib.TabIs Tryz.prog w "internal/strconv.uint64pow10" .u64 Lib.pow10Tab:=by
   obtain⟨cs,h1,h2⟩:=hT.var ("internal/strconv.uint64pow10",_) (List.mem_cons_self ..) 4 (by kernel_rfl)
   unfold Lib.TabIs
   rw[←h2];exact h1
  refine(Tryz.strconv_Itoa n h.1 h.2 w ht).mono ?_
  rintro e w' ⟨rfl,k,os,rfl⟩
  refine⟨rfl,rfl,rfl,rfl,?_,fun b hb=> ?_⟩
  ·show w.heap.size≤(w.heap++os).size
   simp
  ·show(w.heap++os)[b]? =_
   rw[Array.getElem?_append_left hb]
theorem fc_atoi1(s:ByteArray)(hs:s.size≤1048576)(v:Int)(h:Lib.atoiAll s.data.toList= .ok v):FC Tryz.prog 116 [VS s] (app emp []) (.tup [VI v,.t (.sc .nilIface)]) (app emp []):=by
 refine FC.ofTab (us:=[.string s]) (v:= .tuple #[.int .i64 v,.nilIface]) (fun st m w ok xs hl hv=> ?_) (fun st m w ok=>two_rel (.t _ _ (.sc _ rfl)) (.t _ _ (.sc _ rfl))) (fun w hT=> ?_)
 ·match xs,hl with
  | [x],_=>
   have:=VRel.sc_inv (hv 0 _ _ rfl rfl)
   rw[this]
 ·refine(Tryz.strconv_Atoi_ok s (by omega) v h w).mono ?_
  rintro e w' ⟨rfl,hw⟩
  refine⟨rfl,?_⟩
  rcases hw with rfl| ⟨t,rfl⟩
  ·exact RowKit.Below.refl _ _
  ·exact Lib.bytesWorld_below _ _ _
def atoiZ(s:ByteArray):Int:=match Lib.atoiAll s.data.toList with
 | .range=>Lib.atoiSat s.data.toList
 |_=>0
theorem fc_atoi0(s:ByteArray)(hs:s.size≤1048576)(h:∀v,Lib.atoiAll s.data.toList≠ .ok v):FC Tryz.prog 116 [VS s] (app emp []) (.tup [VI (atoiZ s),.ifc]) (app emp []):=by
 refine FC.ofTabR (us:=[.string s]) (R:=fun u=> ∃t x,u= .tuple #[.int .i64 (atoiZ s),.iface t x]) (fun st m w ok xs hl hv=> ?_) (fun st m w ok u hu=> ?_) (fun w hT=> ?_)
 ·match xs,hl with
  | [x],_=>
   have:=VRel.sc_inv (hv 0 _ _ rfl rfl)
   rw[this]
 ·obtain⟨t,x,rfl⟩:=hu
  exact two_rel (.t _ _ (.sc _ rfl)) (.ifc _ _)
 ·have sy:∃tp p,w.var? Tryz.prog "strconv.ErrSyntax" =some #[.iface tp p]:=by
   obtain⟨cs,h1,tp,p,h2⟩:=hT.var ("strconv.ErrSyntax",_) (List.mem_cons_of_mem _ (List.mem_cons_self ..)) 2 (by kernel_rfl)
   exact⟨tp,p,by rw[←h2];exact h1⟩
  have ra:∃tp p,w.var? Tryz.prog "strconv.ErrRange" =some #[.iface tp p]:=by
   obtain⟨cs,h1,tp,p,h2⟩:=hT.var ("strconv.ErrRange",_) (List.mem_cons_of_mem _ (List.mem_cons_of_mem _ (List.mem_cons_self ..))) 3 (by kernel_rfl)
   exact⟨tp,p,by rw[←h2];exact h1⟩
  cases ha:Lib.atoiAll s.data.toList with
  |ok v=>exact absurd ha (h v)
  |range=>
   have hz:atoiZ s=Lib.atoiSat s.data.toList:=by unfold atoiZ;rw[ha]
   obtain⟨tp,p,hv⟩:=ra
   refine(Tryz.strconv_Atoi_range s (by omega) ha (.iface tp p) w (by have h0:=World.var?_cell Tryz.laysC172.m16 hv 0;exact h0) (Or.inr ⟨tp,p,rfl⟩)).mono ?_
   rintro e w' ⟨N,rfl,_,_,hb⟩
   exact⟨⟨_,rfl,_,_,by rw[hz]⟩,hb⟩
  |_=>
   have hz:atoiZ s=0:=by unfold atoiZ;rw[ha]
   obtain⟨tp,p,hv⟩:=sy
   refine(Tryz.strconv_Atoi_syntax s (by omega) ha (.iface tp p) w (by have h0:=World.var?_cell Tryz.laysC172.m15 hv 0;exact h0) (Or.inr ⟨tp,p,rfl⟩)).mono ?_
   rintro e w' ⟨N,rfl,_,_,hb⟩
   exact⟨⟨_,rfl,_,_,by rw[hz]⟩,hb⟩
end Go.Ch
end
section
set_option linter.unusedVariables false
set_option linter.unusedSimpArgs false
set_option maxRecDepth 100000
set_option maxHeartbeats 4000000
open Go Go.Proofs Go.Ab
namespace Go.Ch
theorem fc_itemsD(d:Doc)(n:Node)(hl:d.nodes.length≤1048576)(hs:SortN d.nodes)(hb:NodeB n)(he:nodeE n=0):FC Tryz.prog 79 [.t (docT d),.t (nodeT n)] (app emp []) (VL 1 intT (itemsD d.nodes n)) (app emp []):=by
 refine .go Tryz.f79 ?_
 have b1:=hb.dr1
 have ho:=drawE_pos (draw_of he)
 have hrl:=raw_len ho
 have hsh:shownF (rawI n.draw) 0≤(rawI n.draw).length:=shown_le _ 0 rfl (Nat.zero_le _)
 have hsl:(shownD n).length≤2097152:=by unfold shownD;rw[List.length_take];omega
 refine .loop (α:=Nat×(List Int)) [.r [],.r [],.r [(2,X (Xc1 48 (fc_rawI n.draw (by omega) (by assumption)) X0))],.r [(2,X (Xc0 (fc_dshown (rawI n.draw)) X0)),(3,X (Xst ditT 4 (rawI n.draw) (shownF (rawI n.draw) 0:Int)) (by omega)),(4,X (Xl ditT ((rawI n.draw).take (shownF (rawI n.draw) 0))))],.le (.eq 20 (VL 4 ditT ((rawI n.draw).take (shownF (rawI n.draw) 0))) (VL 4 ditT (shownD n)) (.of_eq rfl)),.le (.eq 21 (VI (((rawI n.draw).take (shownF (rawI n.draw) 0)).length:Int)) (VI ((shownD n).length:Int)) (.of_eq rfl)),.le (.nR 5 1)] 113 (fun(i,o)=>([(2,.ptr 0 0),(5,.row 112 o.length),(20,VL 4 ditT (shownD n)),(21,VI ((shownD n).length:Int)),(22,VI (i:Int))],[(0,.box [VL 9 nodeT d.nodes]),(112,OR 1 intT o)])) (fun(i,o)=>i≤(shownD n).length∧o=((shownD n).take i).filterMap (itemD d.nodes)) (fun(i,o)=>(shownD n).length-i) (0,[]) ?_ ?_
 ·
  exact⟨by omega,rfl⟩
 rintro⟨i,o⟩ I4 ih4
 try dsimp only at I4
 have ol:o.length≤i:=by rw[I4.2];exact Nat.le_trans (List.length_filterMap_le _ _) (by rw[List.length_take];omega)
 refine .bp [.r []] (decide ((i:Int)< ((shownD n).length:Int))) (fun h4=> ?_) (fun h4=> ?_)
 ·
  refine .mid [.r [(0,X (Xi ditT (shownD n) (i:Int)))],.r [(2,X (Xc0 (fc_get ((((shownD n).getD i default)).attrs) ({data:=#[110,111,100,101]})) X0))]] ?_
  have hxm:(shownD n).getD i default∈shownD n:=getDX_mem (by omega)
  have hsz:(getA (((shownD n).getD i default)).attrs {data:=#[110,111,100,101]} 0).size≤1048576:=getA_size (raw_vals (fun o ho=>(hb.dr2 o ho).2.2) (List.mem_of_mem_take hxm)) _ _ 0 rfl
  rcases hav:Lib.atoiAll (getA (((shownD n).getD i default)).attrs {data:=#[110,111,100,101]} 0).data.toList with v|_|_
  ·
   have hv:=hav
   have hvb:=Lib.atoiAll_bounds hav
   have hnum:=num_ok hav
   refine .bp [.r [(1,X (Xc0 (fc_atoi1 (getA ((((shownD n).getD i default)).attrs) ({data:=#[110,111,100,101]}) 0) (by assumption) v hv) X0))],.r [(4,Xv 1 (!false) (Xc0 (fc_itoa v (by omega)) X0)),(6,Xv 2 (!false) X0),(7,X (Xk' false))]] (false|| !(seq (itoaB v) (getA ((((shownD n).getD i default)).attrs) ({data:=#[110,111,100,101]}) 0))) (fun h8=> ?_) (fun h8=> ?_)
   ·
    refine .back [.r [(0,X (Xn ((i:Int)+1)))]] [(0,0),(112,112)] (ih4 ((i+1),o) ?_ ?_)
    ·
     refine⟨by omega,?_⟩
     rw[items_next (by omega),itemD_none (hnum.trans (if_neg (by rw[h8.resolve_left (by decide)];decide))),I4.2];simp
    ·
     ((try dsimp only);omega)
   ·
    refine .bp [.r [(2,X (Xc0 (fc_findN d v (by assumption) (by assumption)) X0))],.r [(3,Xv 1 (hasN (d).nodes v) X0),(5,Xv 2 (hasN (d).nodes v) (Xi nodeT d.nodes (lobN (d).nodes v:Int)) (fun hg=>by skip;exact⟨(by omega),(by have:=(hasN_iff.1 hg).1;omega)⟩)),(6,Xv 1 (hasN (d).nodes v) X0),(7,Xv 1 (hasN (d).nodes v) X0),(8,Xv 1 (hasN (d).nodes v) X0),(9,X (Xk (hasN (d).nodes v)))]] ((hasN (d).nodes v)&&((((d.nodes.getD (lobN (d).nodes v) default)).kind)==1)) (fun h10=> ?_) (fun h10=> ?_)
    ·
     refine .back [.r [(3,X (rowC intT [v] (Xap 1 intT 112 o [v])))],.r [(0,X (Xn ((i:Int)+1)))]] [(0,0),(112,112)] (ih4 ((i+1),(o++[v])) ?_ ?_)
     ·
      refine⟨by omega,?_⟩
      rw[items_next (by omega),itemD_some (hnum.trans (if_pos (by simpa using h8))),if_pos h10,I4.2];rfl
     ·
      ((try dsimp only);omega)
    ·
     refine .back [.r [(0,X (Xn ((i:Int)+1)))]] [(0,0),(112,112)] (ih4 ((i+1),o) ?_ ?_)
     ·
      refine⟨by omega,?_⟩
      rw[items_next (by omega),itemD_some (hnum.trans (if_pos (by simpa using h8))),if_neg (by rintro⟨q1,q2⟩;rcases h10 with q|q;(rw[q1] at q;cases q);(exact q q2)),I4.2];simp
     ·
      ((try dsimp only);omega)
  ·
   have hv:∀v,Lib.atoiAll (getA (((shownD n).getD i default)).attrs {data:=#[110,111,100,101]} 0).data.toList≠ .ok v:=fun v q=>by rw[hav] at q;cases q
   have hnum:=num_no hv
   refine .bp [.r [(1,X (Xc0 (fc_atoi0 (getA ((((shownD n).getD i default)).attrs) ({data:=#[110,111,100,101]}) 0) (by assumption) hv) X0))],.r [(3,X (Xskip (!true) (.junk)) rfl),(4,X (Xskip (!true) (.junk)) rfl),(5,X (Xskip (!true) (.junk)) rfl),(6,X (Xskip (!true) (VB false)) rfl),(7,X (Xk' true))]] (true||false) (fun h8=> ?_) (fun h8=> ?_)
   ·
    refine .back [.r [(0,X (Xn ((i:Int)+1)))]] [(0,0),(112,112)] (ih4 ((i+1),o) ?_ ?_)
    ·
     refine⟨by omega,?_⟩
     rw[items_next (by omega),itemD_none hnum,I4.2];simp
    ·
     ((try dsimp only);omega)
   ·
    exfalso
    simp at h8
  ·
   have hv:∀v,Lib.atoiAll (getA (((shownD n).getD i default)).attrs {data:=#[110,111,100,101]} 0).data.toList≠ .ok v:=fun v q=>by rw[hav] at q;cases q
   have hnum:=num_no hv
   refine .bp [.r [(1,X (Xc0 (fc_atoi0 (getA ((((shownD n).getD i default)).attrs) ({data:=#[110,111,100,101]}) 0) (by assumption) hv) X0))],.r [(3,X (Xskip (!true) (.junk)) rfl),(4,X (Xskip (!true) (.junk)) rfl),(5,X (Xskip (!true) (.junk)) rfl),(6,X (Xskip (!true) (VB false)) rfl),(7,X (Xk' true))]] (true||false) (fun h8=> ?_) (fun h8=> ?_)
   ·
    refine .back [.r [(0,X (Xn ((i:Int)+1)))]] [(0,0),(112,112)] (ih4 ((i+1),o) ?_ ?_)
    ·
     refine⟨by omega,?_⟩
     rw[items_next (by omega),itemD_none hnum,I4.2];simp
    ·
     ((try dsimp only);omega)
   ·
    exfalso
    simp at h8
 ·
  have e1:((itemsD d.nodes n):List Int)=o:=by
   rw[I4.2,List.take_of_length_le (by omega)];rfl
  exact .finE [.r [],.le (.fr 4 [(o.length:Nat)=(List.map intT o).length] ⟨lm,trivial⟩)] [] (fun z0:List Int=>(VL 1 intT z0,[])) _ _ e1
end Go.Ch
end
section
set_option linter.unusedVariables false
namespace Go.Ch
open Go Go.Ab
def inQ(q:Rect)(r c:Int):Bool:=decide (q.row≤r∧r-q.row<q.h∧q.col≤c∧c-q.col<q.w)
def covQ(l:List Rect)(r c:Int)(i:Nat):Rect:=if i<l.length then(if inQ (l.getD i default) r c=true then l.getD i default else covQ l r c (i+1)) else⟨r,c,1,1⟩
termination_by l.length-i
theorem merg_all{l:List Rect}{m n:Int}:∀(k i:Nat),l.length-i=k→mergE l m n i=0→∀j,i≤j→j<l.length→insB (l.getD j default) m n=true
 |0,i,h,_=>fun j h1 h2=>by omega
 |k+1,i,h,he=>by
  have hi:i<l.length:=by omega
  rw[mergE,if_pos hi] at he
  split at he
  ·cases he
  rename_i h1
  split at he
  ·cases he
  split at he
  ·cases he
  split at he
  ·cases he
  intro j q1 q2
  by_cases q:j=i
  ·subst q;simpa using h1
  ·exact merg_all k (i+1) (by omega) he j (by omega) q2
theorem cells_all{l:List Cell}{m n:Int}{o:Bool}:∀(k i:Nat),l.length-i=k→cellsE l m n o i=0→∀j,i≤j→j<l.length→(0≤(l.getD j default).row∧(l.getD j default).row<m)∧0≤(l.getD j default).col∧(l.getD j default).col<n
 |0,i,h,_=>fun j h1 h2=>by omega
 |k+1,i,h,he=>by
  have hi:i<l.length:=by omega
  rw[cellsE,if_pos hi] at he
  split at he
  ·rename_i q;exact absurd he q
  rename_i h1
  split at he
  ·cases he
  intro j q1 q2
  by_cases q:j=i
  ·subst q
   have h2:cellE (l.getD j default) m n o=0:=Classical.byContradiction h1
   unfold cellE at h2
   split at h2
   ·cases h2
   ·omega
  ·exact cells_all k (i+1) (by omega) he j (by omega) q2
theorem grid_of{n:Node}(h:nodeE n=0):AllRB n.grid.merges∧∀c∈n.grid.cells,(0≤c.row∧c.row≤2147483647)∧0≤c.col∧c.col≤2147483647:=by
 have key:gridE n.grid=0→AllRB n.grid.merges∧∀c∈n.grid.cells,(0≤c.row∧c.row≤2147483647)∧0≤c.col∧c.col≤2147483647:=by
  intro hg
  unfold gridE at hg
  split at hg
  ·cases hg
  rename_i h1
  split at hg
  ·rename_i q;exact absurd hg q
  rename_i h2
  refine⟨fun q hq=> ?_,fun c hc=> ?_⟩
  ·obtain⟨k,hk,rfl⟩:=List.mem_iff_getElem.1 hq
   have:=merg_all _ 0 rfl hg k (Nat.zero_le _) hk
   rw[List.getD_eq_getElem?_getD,List.getElem?_eq_getElem hk] at this
   exact RB_ins this (by omega) (by omega)
  ·obtain⟨k,hk,rfl⟩:=List.mem_iff_getElem.1 hc
   have:=cells_all _ 0 rfl (Classical.byContradiction h2) k (Nat.zero_le _) hk
   rw[List.getD_eq_getElem?_getD,List.getElem?_eq_getElem hk] at this
   simp only[Option.getD_some] at this
   omega
 unfold nodeE at h
 split at h
 ·cases h
 split at h
 ·cases h
 split at h
 ·rename_i q;exact absurd h q
 split at h
 ·cases h
 rename_i q1
 have hz:hasG n.kind=false→AllRB n.grid.merges∧∀c∈n.grid.cells,(0≤c.row∧c.row≤2147483647)∧0≤c.col∧c.col≤2147483647:=by
  intro hg
  have z:zeroG n.grid=true:=by
   cases hq:zeroG n.grid
   ·exact absurd (.inr (.inl ⟨hq,hg⟩)) q1
   ·rfl
  unfold zeroG at z
  simp only[Bool.and_eq_true,beq_iff_eq] at z
  have e1:n.grid.cells=[]:=List.eq_nil_of_length_eq_zero (by omega)
  have e2:n.grid.merges=[]:=List.eq_nil_of_length_eq_zero (by omega)
  rw[e1,e2]
  exact⟨fun q hq=>(by cases hq),fun c hc=>(by cases hc)⟩
 split at h
 ·rename_i q2
  refine hz ?_
  cases hg:hasG n.kind
  ·rfl
  ·exfalso
   unfold hasG at hg
   unfold hasT hasL at q2
   simp only[Bool.or_eq_true,beq_iff_eq] at hg q2
   omega
 split at h
 ·rename_i q2
  split at h
  ·rename_i q;exact absurd h q
  ·rename_i q;exact key (Classical.byContradiction q)
 ·rename_i q2
  exact hz (by simpa using q2)
structure DocV(d:Doc):Prop where
 b:DocB d
 e:docE d=0
theorem DocV.nodes{d:Doc}(h:DocV d):nodesE d.nodes 0=0∧allRefsE d.nodes 0=0∧d.nodes.length≠0:=by
 have:=h.e
 unfold docE at this
 split at this
 ·cases this
 ·rename_i h1
  split at this
  ·rename_i q;exact absurd this q
  ·rename_i q;exact⟨Classical.byContradiction q,this,h1⟩
theorem DocV.srt{d:Doc}(h:DocV d):SortN d.nodes:=sort_of h.nodes.1
theorem DocV.node{d:Doc}(h:DocV d){n:Node}(hn:n∈d.nodes):nodeE n=0:=by
 obtain⟨k,hk,rfl⟩:=List.mem_iff_getElem.1 hn
 have:=(nodesE_all _ 0 rfl h.nodes.1).1 k (Nat.zero_le _) hk
 rwa [List.getD_eq_getElem?_getD,List.getElem?_eq_getElem hk] at this
def nodeOf(l:List Node)(k:Int):Node:=l.getD (lobN l k) default
theorem nodeOf_mem{l:List Node}{k:Int}(h:hasN l k=true):nodeOf l k∈l∧(nodeOf l k).id=k:=⟨getDX_mem (hasN_iff.1 h).1,(hasN_iff.1 h).2⟩
theorem refsE_all{l:List Node}{k:Int}{rs:List Int}(hs:SortN l):∀(n i:Nat),rs.length-i=n→refsE l k rs i=0→∀j,i≤j→j<rs.length→hasN l (rs.getD j default)=true
 |0,i,h,_=>fun j h1 h2=>by omega
 |n+1,i,h,he=>by
  have hi:i<rs.length:=by omega
  rw[refsE,if_pos hi] at he
  split at he
  ·cases he
  rename_i h1
  split at he
  ·cases he
  intro j q1 q2
  by_cases q:j=i
  ·subst q
   cases hh:hasN l (rs.getD j default)
   ·exact absurd (find_no hs hh) h1
   ·rfl
  ·exact refsE_all hs n (i+1) (by omega) he j (by omega) q2
theorem allR_all{l:List Node}:∀(n i:Nat),l.length-i=n→allRefsE l i=0→∀j,i≤j→j<l.length→refsE l (l.getD j default).kind (refsN (l.getD j default)) 0=0
 |0,i,h,_=>fun j h1 h2=>by omega
 |n+1,i,h,he=>by
  have hi:i<l.length:=by omega
  rw[allRefsE,if_pos hi] at he
  split at he
  ·rename_i q;exact absurd he q
  rename_i h1
  intro j q1 q2
  by_cases q:j=i
  ·subst q;exact Classical.byContradiction h1
  ·exact allR_all n (i+1) (by omega) he j (by omega) q2
theorem DocV.ref{d:Doc}(h:DocV d){n:Node}(hn:n∈d.nodes){r:Int}(hr:r∈refsN n):hasN d.nodes r=true:=by
 obtain⟨k,hk,rfl⟩:=List.mem_iff_getElem.1 hn
 have h1:=allR_all _ 0 rfl h.nodes.2.1 k (Nat.zero_le _) hk
 rw[List.getD_eq_getElem?_getD,List.getElem?_eq_getElem hk] at h1
 simp only[Option.getD_some] at h1
 obtain⟨j,hj,rfl⟩:=List.mem_iff_getElem.1 hr
 have:=refsE_all h.srt _ 0 rfl h1 j (Nat.zero_le _) hj
 rwa [List.getD_eq_getElem?_getD,List.getElem?_eq_getElem hj] at this
theorem items_has{l:List Node}{n:Node}{r:Int}(h:r∈itemsD l n):hasN l r=true:=by
 unfold itemsD at h
 obtain⟨x,_,hx⟩:=List.mem_filterMap.1 h
 unfold itemD at hx
 obtain⟨v,_,hv⟩:=Option.bind_eq_some_iff.1 hx
 split at hv
 ·rename_i q;cases hv;exact q.1
 ·cases hv
theorem DocV.one{d:Doc}(h:DocV d):hasN d.nodes 1=true:=by
 have h1:=(nodesE_all _ 0 rfl h.nodes.1).2 0 (Nat.zero_le _) (by have:=h.nodes.2.2;omega)
 have h2:=h1.1 rfl
 have h3:=lobN_ge (l:=d.nodes) (k:=1) (m:=0) (by omega)
 exact hasN_iff.2 ⟨by have:=h.nodes.2.2;omega,by rw[show lobN d.nodes 1=0 by omega];exact h2⟩
structure Vis where
 id:Int
 parent:Int
 vis:Bool
instance:Inhabited Vis:=⟨⟨0,0,false⟩⟩
def visT(v:Vis):Tree:= .agg [TI v.id,TI v.parent,TB v.vis]
def enc1(v:Vis):List Tree:=[visT v]
def kidR(v:Vis)(k:Int):Vis:=⟨k,v.id,v.vis⟩
def visC(g:Grid)(b:Bool)(c:Cell):Bool:=(b&&(covQ g.merges c.row c.col 0).row==c.row)&&(covQ g.merges c.row c.col 0).col==c.col
def kidC(g:Grid)(v:Vis)(c:Cell):List Vis:=if c.ref≠0 then[⟨c.ref,v.id,visC g v.vis c⟩] else[]
def kidsV(l:List Node)(v:Vis):List Vis:=(refsF (nodeOf l v.id).flow).map (kidR v)++(nodeOf l v.id).grid.cells.flatMap (kidC (nodeOf l v.id).grid v)++(itemsD l (nodeOf l v.id)).map (kidR v)
def idsV9(l:List Vis):List Int:=l.map Vis.id
def walkL(f:List Int→Vis→List Vis):List Int→List Vis→List Vis
 |_,[]=>[]
 |S,k::ks=>f S k++walkL f (S++idsV9 (f S k)) ks
def walkV(l:List Node):Nat→List Int→Vis→List Vis
 |0,_,_=>[]
 |n+1,S,v=>if v.id∈S then[] else v::walkL (walkV l n) (S++[v.id]) (kidsV l v)
theorem idsV9_app(a b:List Vis):idsV9 (a++b)=idsV9 a++idsV9 b:=List.map_append
theorem walkL_app(f:List Int→Vis→List Vis):∀(S:List Int) (a b:List Vis),walkL f S (a++b)=walkL f S a++walkL f (S++idsV9 (walkL f S a)) b
 |S,[],b=>by simp[walkL,idsV9]
 |S,k::a,b=>by rw[List.cons_append,walkL,walkL,walkL_app f _ a b,idsV9_app,List.append_assoc,List.append_assoc]
theorem walkL_one(f:List Int→Vis→List Vis)(S:List Int)(k:Vis):walkL f S [k]=f S k:=by simp[walkL]
def stopY(g:List (List Tree)→Bool):List (List Tree)→List Vis→List Vis
 |_,[]=>[]
 |pre,x::l=>x::(if g (pre++[enc1 x])=true then stopY g (pre++[enc1 x]) l else[])
def contY(g:List (List Tree)→Bool):List (List Tree)→List Vis→Bool
 |_,[]=>true
 |pre,x::l=>if g (pre++[enc1 x])=true then contY g (pre++[enc1 x]) l else false
def AdmY(Y:YSpec):List (List Tree)→List Vis→Prop
 |_,[]=>True
 |pre,x::l=>Y.adm pre (enc1 x)∧(Y.goes (pre++[enc1 x])=true→AdmY Y (pre++[enc1 x]) l)
theorem snoc_map(pre:List (List Tree))(x:Vis)(a:List Vis):pre++[enc1 x]++a.map enc1=pre++(x::a).map enc1:=by simp
theorem stop_go{g:List (List Tree)→Bool}:∀{pre:List (List Tree)} {a b:List Vis},contY g pre a=true→stopY g pre (a++b)=a++stopY g (pre++a.map enc1) b∧contY g pre (a++b)=contY g (pre++a.map enc1) b
 |pre,[],b,_=>by simp
 |pre,x::a,b,h=>by
  rw[contY] at h
  split at h
  ·rename_i hg
   obtain⟨h1,h2⟩:=stop_go (b:=b) h
   rw[snoc_map] at h1 h2
   rw[List.cons_append,stopY,contY,if_pos hg,if_pos hg,h1,h2]
   exact⟨rfl,rfl⟩
  ·cases h
theorem stop_end{g:List (List Tree)→Bool}:∀{pre:List (List Tree)} {a b:List Vis},contY g pre a=false→stopY g pre (a++b)=stopY g pre a∧contY g pre (a++b)=false
 |pre,[],b,h=>by simp[contY] at h
 |pre,x::a,b,h=>by
  rw[contY] at h
  split at h
  ·rename_i hg
   obtain⟨h1,h2⟩:=stop_end (b:=b) h
   rw[List.cons_append,stopY,stopY,contY,if_pos hg,if_pos hg,if_pos hg,h1,h2]
   exact⟨rfl,rfl⟩
  ·rename_i hg
   rw[List.cons_append,stopY,stopY,contY,if_neg hg,if_neg hg,if_neg hg]
   exact⟨rfl,rfl⟩
theorem stop_all{g:List (List Tree)→Bool}{pre:List (List Tree)}{a:List Vis}(h:contY g pre a=true):stopY g pre a=a:=by
 have:=(stop_go (b:=[]) h).1
 simpa[stopY] using this
theorem adm_app{Y:YSpec}:∀{pre:List (List Tree)} {a b:List Vis},AdmY Y pre (a++b)→AdmY Y pre a∧(contY Y.goes pre a=true→AdmY Y (pre++a.map enc1) b)
 |pre,[],b,h=>⟨trivial,fun _=>by simpa using h⟩
 |pre,x::a,b,h=>by
  obtain⟨h1,h2⟩:=h
  refine⟨⟨h1,fun hg=>(adm_app (h2 hg)).1⟩,fun hc=> ?_⟩
  rw[contY] at hc
  split at hc
  ·rename_i hg
   have:=(adm_app (h2 hg)).2 hc
   rwa [snoc_map] at this
  ·cases hc
def muS(l:List Node)(S:List Int):Nat:=(l.filter fun n=>decide (n.id∉S)).length
theorem muS_le{l:List Node}{S S':List Int}(h:∀k∈S,k∈S'):muS l S'≤muS l S:=by
 unfold muS
 induction l with
 |nil=>exact Nat.le_refl _
 |cons n l ih=>
  rw[List.filter_cons,List.filter_cons]
  by_cases q:n.id∈S
  ·rw[if_neg (by simp[h _ q]),if_neg (by simp[q])];exact ih
  ·rw[if_pos (show decide (n.id∉S)=true by simp[q])]
   split
   ·simp only[List.length_cons];omega
   ·simp only[List.length_cons];omega
theorem muS_lt{l:List Node}{S:List Int}{k:Int}(hk:hasN l k=true)(h:k∉S):muS l (S++[k])< muS l S:=by
 obtain⟨hm,hid⟩:=nodeOf_mem hk
 generalize nodeOf l k=m at*
 unfold muS
 induction l with
 |nil=>cases hm
 |cons n l ih=>
  have hle:(l.filter fun n=>decide (n.id∉S++[k])).length≤(l.filter fun n=>decide (n.id∉S)).length:=muS_le (l:=l) (S:=S) (S':=S++[k]) (fun x hx=>List.mem_append_left _ hx)
  rw[List.filter_cons,List.filter_cons]
  by_cases q:n.id=k
  ·rw[if_neg (by simp[q]),if_pos (by simp[q,h])]
   simp only[List.length_cons];omega
  ·have hm':m∈l:=by
    rcases List.mem_cons.1 hm with rfl|hm
    ·exact absurd hid q
    ·exact hm
   have hi:(l.filter fun n=>decide (n.id∉S++[k])).length< (l.filter fun n=>decide (n.id∉S)).length:=by
    clear ih hm q hk
    induction l with
    |nil=>cases hm'
    |cons n' l ih2=>
     have hle2:(l.filter fun n=>decide (n.id∉S++[k])).length≤(l.filter fun n=>decide (n.id∉S)).length:=muS_le (l:=l) (S:=S) (S':=S++[k]) (fun x hx=>List.mem_append_left _ hx)
     rw[List.filter_cons,List.filter_cons]
     by_cases q:n'.id=k
     ·rw[if_neg (by simp[q]),if_pos (by simp[q,h])]
      simp only[List.length_cons];omega
     ·have hm2:m∈l:=by
       rcases List.mem_cons.1 hm' with rfl|hm'
       ·exact absurd hid q
       ·exact hm'
      have:=ih2 hle2 hm2
      by_cases q2:n'.id∈S
      ·rw[if_neg (by simp[q2]),if_neg (by simp[q2])];exact this
      ·rw[if_pos (by simp[q,q2]),if_pos (by simp[q2])]
       simp only[List.length_cons];omega
   by_cases q2:n.id∈S
   ·rw[if_neg (by simp[q2]),if_neg (by simp[q2])];exact hi
   ·rw[if_pos (by simp[q,q2]),if_pos (by simp[q2])]
    simp only[List.length_cons];omega
end Go.Ch
end
section
set_option linter.unusedVariables false
namespace Go.Ch
open Go Go.Ab
def endS(g:List (List Tree)→Bool)(S:List Int)(pre:List (List Tree))(W:List Vis):List Int:=S++idsV9 (stopY g pre W)
def endP(g:List (List Tree)→Bool)(pre:List (List Tree))(W:List Vis):List (List Tree):=pre++(stopY g pre W).map enc1
structure WOk(d:Doc)(Y:YSpec)(n:Nat)(S:List Int)(pre:List (List Tree))(v:Vis):Prop where
 has:hasN d.nodes v.id=true
 mu:muS d.nodes S<n
 adm:AdmY Y pre (walkV d.nodes n S v)
variable {d:Doc} {Y:YSpec} {n:Nat} {S0 S:List Int} {pre0 pre:List (List Tree)} {v:Vis} {X R:List Vis} {k:Vis}
structure KI(d:Doc)(Y:YSpec)(n:Nat)(S0:List Int)(pre0:List (List Tree))(v:Vis)(X:List Vis)(S:List Int)(pre:List (List Tree)):Prop where
 s:S=S0++idsV9 (v::walkL (walkV d.nodes n) (S0++[v.id]) X)
 p:pre=pre0++(v::walkL (walkV d.nodes n) (S0++[v.id]) X).map enc1
 go:contY Y.goes pre0 (v::walkL (walkV d.nodes n) (S0++[v.id]) X)=true
theorem walkV_in(h:v.id∈S0):walkV d.nodes (n+1) S0 v=[]:=by rw[walkV,if_pos h]
theorem walkV_new(h:v.id∉S0):walkV d.nodes (n+1) S0 v=v::walkL (walkV d.nodes n) (S0++[v.id]) (kidsV d.nodes v):=by rw[walkV,if_neg h]
theorem WOk.adm0(h:WOk d Y (n+1) S0 pre0 v)(hv:v.id∉S0):Y.adm pre0 [visT v]:=by
 have:=h.adm
 rw[walkV_new hv] at this
 exact this.1
theorem KI.start(hg:Y.goes (pre0++[[visT v]])=true):KI d Y n S0 pre0 v [] (S0++[v.id]) (pre0++[[visT v]]):=
 ⟨by simp[walkL,idsV9],by simp[walkL,enc1],by rw[walkL,contY,if_pos (show Y.goes (pre0++[enc1 v])=true from hg)];rfl⟩
theorem walkL_kid(S:List Int)(X R:List Vis)(k:Vis):walkL (walkV d.nodes n) S (X++k::R)=walkL (walkV d.nodes n) S X++(walkV d.nodes n (S++idsV9 (walkL (walkV d.nodes n) S X)) k++walkL (walkV d.nodes n) (S++idsV9 (walkL (walkV d.nodes n) S X)++idsV9 (walkV d.nodes n (S++idsV9 (walkL (walkV d.nodes n) S X)) k)) R):=by
 rw[walkL_app,walkL]
theorem KI.sEq(h:KI d Y n S0 pre0 v X S pre):S=S0++[v.id]++idsV9 (walkL (walkV d.nodes n) (S0++[v.id]) X):=by rw[h.s];simp[idsV9]
theorem KI.call(h:KI d Y n S0 pre0 v X S pre)(hw:WOk d Y (n+1) S0 pre0 v)(hv:v.id∉S0)(hk:kidsV d.nodes v=X++k::R)(hh:hasN d.nodes k.id=true):WOk d Y n S pre k:=by
 refine⟨hh,?_,?_⟩
 ·have h1:=muS_lt hw.has hv
  have h2:muS d.nodes S≤muS d.nodes (S0++[v.id]):=muS_le (fun x hx=>by rw[h.sEq];exact List.mem_append_left _ hx)
  have:=hw.mu
  omega
 ·have ha:=hw.adm
  rw[walkV_new hv,hk,walkL_kid,←h.sEq,←List.cons_append] at ha
  have h1:=(adm_app ha).2 h.go
  rw[←h.p] at h1
  exact(adm_app h1).1
theorem KI.next(h:KI d Y n S0 pre0 v X S pre)(hc:contY Y.goes pre (walkV d.nodes n S k)=true):KI d Y n S0 pre0 v (X++[k]) (endS Y.goes S pre (walkV d.nodes n S k)) (endP Y.goes pre (walkV d.nodes n S k)):=by
 have e:walkL (walkV d.nodes n) (S0++[v.id]) (X++[k])=walkL (walkV d.nodes n) (S0++[v.id]) X++walkV d.nodes n S k:=by
  rw[walkL_app,walkL_one,←h.sEq]
 refine⟨?_,?_,?_⟩
 ·unfold endS
  rw[stop_all hc,e,←List.cons_append,idsV9_app,←List.append_assoc,←h.s]
 ·unfold endP
  rw[stop_all hc,e,←List.cons_append,List.map_append,←List.append_assoc,←h.p]
 ·rw[e,←List.cons_append,(stop_go h.go).2,←h.p];exact hc
theorem KI.stop(h:KI d Y n S0 pre0 v X S pre)(hv:v.id∉S0)(hk:kidsV d.nodes v=X++k::R)(hc:contY Y.goes pre (walkV d.nodes n S k)=false):
 contY Y.goes pre0 (walkV d.nodes (n+1) S0 v)=false∧endS Y.goes S0 pre0 (walkV d.nodes (n+1) S0 v)=endS Y.goes S pre (walkV d.nodes n S k)∧endP Y.goes pre0 (walkV d.nodes (n+1) S0 v)=endP Y.goes pre (walkV d.nodes n S k):=by
 rw[walkV_new hv,hk,walkL_kid,←h.sEq,←List.cons_append]
 unfold endS endP
 obtain⟨h1,h2⟩:=stop_go (b:=walkV d.nodes n S k++walkL (walkV d.nodes n) (S++idsV9 (walkV d.nodes n S k)) R) h.go
 rw[←h.p] at h1 h2
 obtain⟨h3,h4⟩:=stop_end (b:=walkL (walkV d.nodes n) (S++idsV9 (walkV d.nodes n S k)) R) hc
 refine⟨h2.trans h4,?_,?_⟩
 ·rw[h1,h3,idsV9_app,←List.append_assoc,←h.s]
 ·rw[h1,h3,List.map_append,←List.append_assoc,←h.p]
theorem KI.done(h:KI d Y n S0 pre0 v X S pre)(hv:v.id∉S0)(hk:kidsV d.nodes v=X):
 contY Y.goes pre0 (walkV d.nodes (n+1) S0 v)=true∧endS Y.goes S0 pre0 (walkV d.nodes (n+1) S0 v)=S∧endP Y.goes pre0 (walkV d.nodes (n+1) S0 v)=pre:=by
 rw[walkV_new hv,hk]
 unfold endS endP
 rw[stop_all h.go]
 exact⟨h.go,h.s.symm,h.p.symm⟩
theorem stop_first(hv:v.id∉S0)(hg:Y.goes (pre0++[[visT v]])=false):
 contY Y.goes pre0 (walkV d.nodes (n+1) S0 v)=false∧endS Y.goes S0 pre0 (walkV d.nodes (n+1) S0 v)=S0++[v.id]∧endP Y.goes pre0 (walkV d.nodes (n+1) S0 v)=pre0++[[visT v]]:=by
 rw[walkV_new hv]
 unfold endS endP
 have hg':¬Y.goes (pre0++[enc1 v])=true:=by rw[show enc1 v=[visT v] from rfl,hg];decide
 rw[contY,stopY,if_neg hg',if_neg hg']
 exact⟨rfl,rfl,rfl⟩
theorem end_in(hv:v.id∈S0):contY Y.goes pre0 (walkV d.nodes (n+1) S0 v)=true∧endS Y.goes S0 pre0 (walkV d.nodes (n+1) S0 v)=S0∧endP Y.goes pre0 (walkV d.nodes (n+1) S0 v)=pre0:=by
 rw[walkV_in hv]
 unfold endS endP
 simp[stopY,contY,idsV9]
theorem putS_new{S:List Int}{k:Int}(h:k∉S):putE (S.map onM) k (.im (TB true))=(S++[k]).map onM:=by
 rw[putS]
 congr 1
 induction S with
 |nil=>rfl
 |cons x S ih=>
  rw[putK,if_neg (fun e=>h (by rw[show k=x from e];exact List.mem_cons_self)),ih (fun q=>h (List.mem_cons_of_mem _ q))]
  rfl
theorem kids_has(hV:DocV d)(hk:hasN d.nodes v.id=true){x:Vis}(hx:x∈kidsV d.nodes v):hasN d.nodes x.id=true:=by
 obtain⟨hm,hid⟩:=nodeOf_mem hk
 unfold kidsV at hx
 rcases List.mem_append.1 hx with hx|hx
 ·rcases List.mem_append.1 hx with hx|hx
  ·obtain⟨r,hr,rfl⟩:=List.mem_map.1 hx
   exact hV.ref hm (List.mem_append_left _ hr)
  ·obtain⟨c,hc,hx⟩:=List.mem_flatMap.1 hx
   unfold kidC at hx
   split at hx
   ·rename_i q
    rw[List.mem_singleton.1 hx]
    exact hV.ref hm (List.mem_append_right _ (List.mem_filterMap.2 ⟨c,hc,if_pos q⟩))
   ·cases hx
 ·obtain⟨r,hr,rfl⟩:=List.mem_map.1 hx
  exact items_has hr
theorem split_at{α:Type}[Inhabited α]{l:List α}{i:Nat}(h:i<l.length):l=l.take i++l.getD i default::l.drop (i+1):=by
 have e:l.getD i default=l[i]:=by rw[List.getD_eq_getElem?_getD,List.getElem?_eq_getElem h];rfl
 rw[e,←List.drop_eq_getElem_cons h,List.take_append_drop]
theorem takeD{α:Type}[Inhabited α]{l:List α}{i:Nat}(h:i<l.length):l.take (i+1)=l.take i++[l.getD i default]:=by
 have e:l.getD i default=l[i]:=by rw[List.getD_eq_getElem?_getD,List.getElem?_eq_getElem h];rfl
 rw[List.take_succ_eq_append_getElem h,e]
def kidA(d:Doc)(v:Vis)(i:Nat):List Vis:=((refsF (d.nodes.getD (lobN d.nodes v.id) default).flow).take i).map (kidR v)
def kidB(d:Doc)(v:Vis)(j:Nat):List Vis:=(refsF (d.nodes.getD (lobN d.nodes v.id) default).flow).map (kidR v)++((d.nodes.getD (lobN d.nodes v.id) default).grid.cells.take j).flatMap (kidC (d.nodes.getD (lobN d.nodes v.id) default).grid v)
def kidI(d:Doc)(v:Vis)(i:Nat):List Vis:=(refsF (d.nodes.getD (lobN d.nodes v.id) default).flow).map (kidR v)++(d.nodes.getD (lobN d.nodes v.id) default).grid.cells.flatMap (kidC (d.nodes.getD (lobN d.nodes v.id) default).grid v)++((itemsD d.nodes (d.nodes.getD (lobN d.nodes v.id) default)).take i).map (kidR v)
theorem kidA_at{i:Nat}(h:i< (refsF (d.nodes.getD (lobN d.nodes v.id) default).flow).length):(∃R,kidsV d.nodes v=kidA d v i++kidR v ((refsF (d.nodes.getD (lobN d.nodes v.id) default).flow).getD i default)::R)∧kidA d v (i+1)=kidA d v i++[kidR v ((refsF (d.nodes.getD (lobN d.nodes v.id) default).flow).getD i default)]:=by
 refine⟨⟨((refsF (d.nodes.getD (lobN d.nodes v.id) default).flow).drop (i+1)).map (kidR v)++((d.nodes.getD (lobN d.nodes v.id) default).grid.cells.flatMap (kidC (d.nodes.getD (lobN d.nodes v.id) default).grid v)++(itemsD d.nodes (d.nodes.getD (lobN d.nodes v.id) default)).map (kidR v)),?_⟩,?_⟩
 ·have:=split_at h
  unfold kidsV kidA
  conv=>lhs;arg 1;arg 1;arg 2;rw[show nodeOf d.nodes v.id=(d.nodes.getD (lobN d.nodes v.id) default) from rfl,this]
  simp[nodeOf]
 ·unfold kidA;rw[takeD h,List.map_append];rfl
theorem kidB_zero:kidB d v 0=kidA d v (refsF (d.nodes.getD (lobN d.nodes v.id) default).flow).length:=by unfold kidA kidB;simp
theorem kidB_at{j:Nat}(h:j< (d.nodes.getD (lobN d.nodes v.id) default).grid.cells.length):kidB d v (j+1)=kidB d v j++kidC (d.nodes.getD (lobN d.nodes v.id) default).grid v ((d.nodes.getD (lobN d.nodes v.id) default).grid.cells.getD j default)∧∃R,kidsV d.nodes v=kidB d v j++kidC (d.nodes.getD (lobN d.nodes v.id) default).grid v ((d.nodes.getD (lobN d.nodes v.id) default).grid.cells.getD j default)++R:=by
 refine⟨by unfold kidB;rw[takeD h,List.flatMap_append];simp,⟨((d.nodes.getD (lobN d.nodes v.id) default).grid.cells.drop (j+1)).flatMap (kidC (d.nodes.getD (lobN d.nodes v.id) default).grid v)++(itemsD d.nodes (d.nodes.getD (lobN d.nodes v.id) default)).map (kidR v),?_⟩⟩
 have:=split_at h
 unfold kidsV kidB
 conv=>lhs;arg 1;arg 2;rw[show nodeOf d.nodes v.id=(d.nodes.getD (lobN d.nodes v.id) default) from rfl,this]
 simp[nodeOf]
theorem kidI_zero:kidI d v 0=kidB d v (d.nodes.getD (lobN d.nodes v.id) default).grid.cells.length:=by unfold kidI kidB;simp
theorem kidI_at{i:Nat}(h:i< (itemsD d.nodes (d.nodes.getD (lobN d.nodes v.id) default)).length):(∃R,kidsV d.nodes v=kidI d v i++kidR v ((itemsD d.nodes (d.nodes.getD (lobN d.nodes v.id) default)).getD i default)::R)∧kidI d v (i+1)=kidI d v i++[kidR v ((itemsD d.nodes (d.nodes.getD (lobN d.nodes v.id) default)).getD i default)]:=by
 refine⟨⟨((itemsD d.nodes (d.nodes.getD (lobN d.nodes v.id) default)).drop (i+1)).map (kidR v),?_⟩,?_⟩
 ·have:=split_at h
  unfold kidsV kidI
  conv=>lhs;arg 2;arg 2;rw[show nodeOf d.nodes v.id=(d.nodes.getD (lobN d.nodes v.id) default) from rfl,this]
  simp[nodeOf]
 ·unfold kidI;rw[takeD h,List.map_append,←List.append_assoc];rfl
theorem kidI_end:kidsV d.nodes v=kidI d v (itemsD d.nodes (d.nodes.getD (lobN d.nodes v.id) default)).length:=by unfold kidI kidsV;simp[nodeOf]
end Go.Ch
end
section
set_option linter.unusedVariables false
set_option linter.unusedSimpArgs false
set_option maxRecDepth 100000
set_option maxHeartbeats 4000000
open Go Go.Proofs Go.Ab
namespace Go.Ch
theorem fc_cover(x:Grid)(m n:Int)(hb: -1000000000000≤m∧m≤1000000000000∧ -1000000000000≤n∧n≤1000000000000)(hl:x.merges.length≤100000000000)(hr:AllRB x.merges):FC Tryz.prog 78 [.t (gridT x),VI m,VI n] (app emp []) (.t (rectT (covQ x.merges m n 0))) (app emp []):=by
 refine .go Tryz.f78 ?_
 refine .loop (α:=Nat) [.r [],.r [],.r [(2,X (Xl rectT x.merges))]] 88 (fun i=>([(1,VI m),(2,VI n),(6,.ptr 8 0),(7,.ptr 40 0),(14,VL 4 rectT x.merges),(15,VI (x.merges.length:Int)),(16,VI (i:Int))],[(8,.box [VI 0,VI 0,VI 0,VI 0]),(40,.box [VI m,VI n,VI 1,VI 1])])) (fun i=>i≤x.merges.length∧covQ x.merges m n 0=covQ x.merges m n i) (fun i=>x.merges.length-i) (0:Nat) ?_ ?_
 ·
  exact⟨by omega,rfl⟩
 rintro i I3 ih3
 try dsimp only at I3
 refine .bp [.r []] (decide ((i:Int)< (x.merges.length:Int))) (fun h3=> ?_) (fun h3=> ?_)
 ·
  have hm:=hr _ (getDX_mem (l:=x.merges) (i:=i) (by omega))
  unfold RB at hm
  refine .bp [.r [(0,X (Xi rectT x.merges (i:Int)))],.r [(7,Xv 1 (decide (m≥(((x.merges.getD i default)).row))) X0),(8,Xv 2 (decide (m≥(((x.merges.getD i default)).row))) (Xn (m- (((x.merges.getD i default)).row)))),(10,Xv 1 (decide (m≥(((x.merges.getD i default)).row))) X0),(11,Xv 2 (decide (m≥(((x.merges.getD i default)).row))) X0),(12,X (Xk (decide (m≥(((x.merges.getD i default)).row))))),(16,Xv 1 (decide (m≥(((x.merges.getD i default)).row))&&decide ((m- (((x.merges.getD i default)).row))< (((x.merges.getD i default)).h))) X0),(17,Xv 2 (decide (m≥(((x.merges.getD i default)).row))&&decide ((m- (((x.merges.getD i default)).row))< (((x.merges.getD i default)).h))) X0),(18,X (Xk (decide (m≥(((x.merges.getD i default)).row))&&decide ((m- (((x.merges.getD i default)).row))< (((x.merges.getD i default)).h))))),(22,Xv 1 ((decide (m≥(((x.merges.getD i default)).row))&&decide ((m- (((x.merges.getD i default)).row))< (((x.merges.getD i default)).h)))&&decide (n≥(((x.merges.getD i default)).col))) X0),(23,Xv 2 ((decide (m≥(((x.merges.getD i default)).row))&&decide ((m- (((x.merges.getD i default)).row))< (((x.merges.getD i default)).h)))&&decide (n≥(((x.merges.getD i default)).col))) (Xn (n- (((x.merges.getD i default)).col)))),(25,Xv 1 ((decide (m≥(((x.merges.getD i default)).row))&&decide ((m- (((x.merges.getD i default)).row))< (((x.merges.getD i default)).h)))&&decide (n≥(((x.merges.getD i default)).col))) X0),(26,Xv 2 ((decide (m≥(((x.merges.getD i default)).row))&&decide ((m- (((x.merges.getD i default)).row))< (((x.merges.getD i default)).h)))&&decide (n≥(((x.merges.getD i default)).col))) X0),(27,X (Xk ((decide (m≥(((x.merges.getD i default)).row))&&decide ((m- (((x.merges.getD i default)).row))< (((x.merges.getD i default)).h)))&&decide (n≥(((x.merges.getD i default)).col)))))]] (((decide (m≥(((x.merges.getD i default)).row))&&decide ((m- (((x.merges.getD i default)).row))< (((x.merges.getD i default)).h)))&&decide (n≥(((x.merges.getD i default)).col)))&&decide ((n- (((x.merges.getD i default)).col))< (((x.merges.getD i default)).w))) (fun h5=> ?_) (fun h5=> ?_)
  ·
   have e1:((covQ x.merges m n 0):Rect)=((x.merges.getD i default)):=by
    rw[I3.2,covQ,if_pos (by omega),if_pos (by(unfold inQ;rw[decide_eq_true_eq];omega))]
   exact .finVE [.r []] [] [] (fun z0:Rect=>(.t (rectT z0),[])) _ _ e1
  ·
   refine .back [.r [(0,X (Xn ((i:Int)+1)))]] [(8,8),(40,40)] (ih3 ((i+1):Nat) ?_ ?_)
   ·
    refine⟨by omega,?_⟩
    rw[I3.2,covQ,if_pos (by omega),if_neg (by(unfold inQ;rw[decide_eq_true_eq];omega))]
   ·
    ((try dsimp only);omega)
 ·
  have e2:((covQ x.merges m n 0):Rect)=({row:=m,col:=n,h:=1,w:=1}:Rect):=by
   rw[I3.2,covQ,if_neg (by omega)]
  exact .finVE [.r []] [] [] (fun z0:Rect=>(.t (rectT z0),[])) _ _ e2
theorem fc_from1(d:Doc)(Y:YSpec)(hY:YCalls Tryz.prog Y)(hV:DocV d)(n:Nat)(ih:∀(v:Vis) (S:List Int) (p:List (List Tree)),WOk d Y n S p v→FC Tryz.prog 75 [.t (visT v),.ptr 0 0,.ptr 1 0,.ptr 2 0,.ptr 3 0] (app emp [(0,.box [.hdl 4]),(1,.box [.yl 5]),(2,.box [VL 9 nodeT d.nodes]),(3,.box [.fn 75 [.ptr 0 0,.ptr 1 0,.ptr 2 0,.ptr 3 0]]),(4,.mp (List.map onM S) none),(5,.ext Y p)]) (VB (contY Y.goes p (walkV d.nodes n S v))) (app emp [(0,.box [.hdl 4]),(1,.box [.yl 5]),(2,.box [VL 9 nodeT d.nodes]),(3,.box [.fn 75 [.ptr 0 0,.ptr 1 0,.ptr 2 0,.ptr 3 0]]),(4,.mp (List.map onM (endS Y.goes S p (walkV d.nodes n S v))) none),(5,.ext Y (endP Y.goes p (walkV d.nodes n S v)))]))(v:Vis)(S:List Int)(p:List (List Tree))(hw:WOk d Y (n+1) S p v):FC Tryz.prog 75 [.t (visT v),.ptr 0 0,.ptr 1 0,.ptr 2 0,.ptr 3 0] (app emp [(0,.box [.hdl 4]),(1,.box [.yl 5]),(2,.box [VL 9 nodeT d.nodes]),(3,.box [.fn 75 [.ptr 0 0,.ptr 1 0,.ptr 2 0,.ptr 3 0]]),(4,.mp (List.map onM S) none),(5,.ext Y p)]) (VB (contY Y.goes p (walkV d.nodes (n+1) S v))) (app emp [(0,.box [.hdl 4]),(1,.box [.yl 5]),(2,.box [VL 9 nodeT d.nodes]),(3,.box [.fn 75 [.ptr 0 0,.ptr 1 0,.ptr 2 0,.ptr 3 0]]),(4,.mp (List.map onM (endS Y.goes S p (walkV d.nodes (n+1) S v))) none),(5,.ext Y (endP Y.goes p (walkV d.nodes (n+1) S v)))]):=by
 refine .go Tryz.f75 ?_
 have hs:=hV.srt
 have hl:=hV.b.len
 obtain⟨hlt,hid⟩:=hasN_iff.1 hw.has
 have hmem:=(nodeOf_mem hw.has).1
 have hnb:=hV.b.all _ hmem
 have hne:=hV.node hmem
 obtain⟨hrb,hcb⟩:=grid_of hne
 unfold nodeOf at hmem hnb hne hrb hcb
 have c1:=hnb.fl2
 have c2:=hnb.ce2
 have c3:=hnb.me
 have c4:(refsF (d.nodes.getD (lobN d.nodes v.id) default).flow).length≤(d.nodes.getD (lobN d.nodes v.id) default).flow.length:=List.length_filterMap_le _ _
 have c5:=items_len (l:=d.nodes) hnb hne
 refine .bp [.r [],.r [(3,X (Xmt (List.map onM S) v.id (Ab.TB false) (Ab.TB (decide (v.id∈S)))) lookS)]] (decide (v.id∈S)) (fun h1=> ?_) (fun h1=> ?_)
 ·
  have e1:((endS Y.goes S p (walkV d.nodes (n+1) S v)):List Int)=S:=by
   first|exact(end_in h1).1|exact(end_in h1).2.1|exact(end_in h1).2.2|exact(end_in h1).1.symm|exact(end_in h1).2.1.symm|exact(end_in h1).2.2.symm
  have e2:((endP Y.goes p (walkV d.nodes (n+1) S v)):List (List Tree))=p:=by
   first|exact(end_in h1).1|exact(end_in h1).2.1|exact(end_in h1).2.2|exact(end_in h1).1.symm|exact(end_in h1).2.1.symm|exact(end_in h1).2.2.symm
  have e3:((contY Y.goes p (walkV d.nodes (n+1) S v)):Bool)=true:=by
   first|exact(end_in h1).1|exact(end_in h1).2.1|exact(end_in h1).2.2|exact(end_in h1).1.symm|exact(end_in h1).2.1.symm|exact(end_in h1).2.2.symm
  exact .finE [.r []] [(0,0),(1,1),(2,2),(3,3),(4,4),(5,5)] (fun((z0,z1,z2):(List Int)×(List (List Tree))×Bool)=>(VB z2,[(0,.box [.hdl 4]),(1,.box [.yl 5]),(2,.box [VL 9 nodeT d.nodes]),(3,.box [.fn 75 [.ptr 0 0,.ptr 1 0,.ptr 2 0,.ptr 3 0]]),(4,.mp (List.map onM z0) none),(5,.ext Y z1)])) _ _ (pr e1 (pr e2 e3))
 ·
  refine .bp [.r [(3,X (Xmu onM S (S++[v.id]) v.id 4 (.im (Ab.TB true))) (putS_new h1))],.r [(2,X (Xy Tryz.prog Y p [visT v]) (⟨hY,hw.adm0 h1⟩))]] (!(Y.goes (p++[[visT v]]))) (fun h4=> ?_) (fun h4=> ?_)
  ·
   have e4:((endS Y.goes S p (walkV d.nodes (n+1) S v)):List Int)=(S++[v.id]):=by
    first|exact(stop_first h1 h4).1|exact(stop_first h1 h4).2.1|exact(stop_first h1 h4).2.2|exact(stop_first h1 h4).1.symm|exact(stop_first h1 h4).2.1.symm|exact(stop_first h1 h4).2.2.symm
   have e5:((endP Y.goes p (walkV d.nodes (n+1) S v)):List (List Tree))=(p++[[visT v]]):=by
    first|exact(stop_first h1 h4).1|exact(stop_first h1 h4).2.1|exact(stop_first h1 h4).2.2|exact(stop_first h1 h4).1.symm|exact(stop_first h1 h4).2.1.symm|exact(stop_first h1 h4).2.2.symm
   have e6:((contY Y.goes p (walkV d.nodes (n+1) S v)):Bool)=false:=by
    first|exact(stop_first h1 h4).1|exact(stop_first h1 h4).2.1|exact(stop_first h1 h4).2.2|exact(stop_first h1 h4).1.symm|exact(stop_first h1 h4).2.1.symm|exact(stop_first h1 h4).2.2.symm
   exact .finE [.r []] [(0,0),(1,1),(2,2),(3,3),(4,4),(5,5)] (fun((z0,z1,z2):(List Int)×(List (List Tree))×Bool)=>(VB z2,[(0,.box [.hdl 4]),(1,.box [.yl 5]),(2,.box [VL 9 nodeT d.nodes]),(3,.box [.fn 75 [.ptr 0 0,.ptr 1 0,.ptr 2 0,.ptr 3 0]]),(4,.mp (List.map onM z0) none),(5,.ext Y z1)])) _ _ (pr e4 (pr e5 e6))
  ·
   refine .loop (α:=Nat×List Int×List (List Tree)) [.r [(3,X (Xc0 (fc_findN d v.id (by assumption) (by assumption)) X0))],.r [(3,X (Xi nodeT d.nodes (lobN (d).nodes v.id:Int)))],.r [(2,X (Xc1 262 (fc_refsFl (((d.nodes.getD (lobN (d).nodes v.id) default)).flow) (by first|omega|simp)) X0))]] 286 (fun(i,S2,p2)=>([(3,.ptr 2 0),(4,.ptr 3 0),(5,.ptr 6 0),(9,.ptr 230 0),(42,.row 262 ((refsF (((d.nodes.getD (lobN (d).nodes v.id) default)).flow)).length)),(43,VI ((refsF (((d.nodes.getD (lobN (d).nodes v.id) default)).flow)).length:Int)),(44,VI (i:Int))],[(0,.box [.hdl 4]),(1,.box [.yl 5]),(2,.box [VL 9 nodeT d.nodes]),(3,.box [.fn 75 [.ptr 0 0,.ptr 1 0,.ptr 2 0,.ptr 3 0]]),(4,.mp (List.map onM S2) none),(5,.ext Y p2),(6,.box [VI v.id,VI v.parent,VB v.vis]),(230,.box [VI (((d.nodes.getD (lobN (d).nodes v.id) default)).id),VI (((d.nodes.getD (lobN (d).nodes v.id) default)).kind),VL 2 attrT (((d.nodes.getD (lobN (d).nodes v.id) default)).attrs),VL 3 elemT (((d.nodes.getD (lobN (d).nodes v.id) default)).flow),VI ((((d.nodes.getD (lobN (d).nodes v.id) default)).grid).rows),VI ((((d.nodes.getD (lobN (d).nodes v.id) default)).grid).cols),VL 5 cellT ((((d.nodes.getD (lobN (d).nodes v.id) default)).grid).cells),VL 4 rectT ((((d.nodes.getD (lobN (d).nodes v.id) default)).grid).merges),VL 8 dopT (((d.nodes.getD (lobN (d).nodes v.id) default)).draw)]),(262,OR 1 intT (refsF (((d.nodes.getD (lobN (d).nodes v.id) default)).flow)))])) (fun(i,S2,p2)=>i≤(refsF (d.nodes.getD (lobN d.nodes v.id) default).flow).length∧KI d Y n S p v (kidA d v i) S2 p2) (fun(i,S2,p2)=>(refsF (d.nodes.getD (lobN d.nodes v.id) default).flow).length-i) (0,(S++[v.id]),(p++[[visT v]])) ?_ ?_
   ·
    exact⟨Nat.zero_le _,KI.start h4⟩
   rintro⟨i,S2,p2⟩ I9 ih9
   try dsimp only at I9
   refine .bp [.r []] (decide ((i:Int)< ((refsF (((d.nodes.getD (lobN (d).nodes v.id) default)).flow)).length:Int))) (fun h9=> ?_) (fun h9=> ?_)
   ·
    obtain⟨⟨R,hR⟩,hnx⟩:=kidA_at (d:=d) (v:=v) (i:=i) (by omega)
    have hcall:WOk d Y n S2 p2 ({id:=((refsF (d.nodes.getD (lobN d.nodes v.id) default).flow).getD i default),parent:=v.id,vis:=v.vis}:Vis):=KI.call I9.2 hw h1 hR (kids_has hV hw.has (by rw[hR];exact List.mem_append_right _ List.mem_cons_self))
    refine .bp [.r [(0,X (Xp intT (refsF (((d.nodes.getD (lobN (d).nodes v.id) default)).flow)) (i:Int))),(1,X (Xe intT (refsF (((d.nodes.getD (lobN (d).nodes v.id) default)).flow)) i))],.r [(7,X (Xc3 374 [(0,0),(1,1),(2,2),(3,3),(4,4),(5,5)] (ih ({id:=((refsF (((d.nodes.getD (lobN (d).nodes v.id) default)).flow)).getD i default),parent:=v.id,vis:=v.vis}:Vis) S2 p2 (by assumption)) X0))]] (!(contY Y.goes p2 (walkV d.nodes n S2 ({id:=((refsF (((d.nodes.getD (lobN (d).nodes v.id) default)).flow)).getD i default),parent:=v.id,vis:=v.vis}:Vis)))) (fun h11=> ?_) (fun h11=> ?_)
    ·
     have e7:((endS Y.goes S p (walkV d.nodes (n+1) S v)):List Int)=(endS Y.goes S2 p2 (walkV d.nodes n S2 ({id:=((refsF (((d.nodes.getD (lobN (d).nodes v.id) default)).flow)).getD i default),parent:=v.id,vis:=v.vis}:Vis))):=by
      first|exact(KI.stop I9.2 h1 hR h11).1|exact(KI.stop I9.2 h1 hR h11).2.1|exact(KI.stop I9.2 h1 hR h11).2.2|exact(KI.stop I9.2 h1 hR h11).1.symm|exact(KI.stop I9.2 h1 hR h11).2.1.symm|exact(KI.stop I9.2 h1 hR h11).2.2.symm
     have e8:((endP Y.goes p (walkV d.nodes (n+1) S v)):List (List Tree))=(endP Y.goes p2 (walkV d.nodes n S2 ({id:=((refsF (((d.nodes.getD (lobN (d).nodes v.id) default)).flow)).getD i default),parent:=v.id,vis:=v.vis}:Vis))):=by
      first|exact(KI.stop I9.2 h1 hR h11).1|exact(KI.stop I9.2 h1 hR h11).2.1|exact(KI.stop I9.2 h1 hR h11).2.2|exact(KI.stop I9.2 h1 hR h11).1.symm|exact(KI.stop I9.2 h1 hR h11).2.1.symm|exact(KI.stop I9.2 h1 hR h11).2.2.symm
     have e9:((contY Y.goes p (walkV d.nodes (n+1) S v)):Bool)=false:=by
      first|exact(KI.stop I9.2 h1 hR h11).1|exact(KI.stop I9.2 h1 hR h11).2.1|exact(KI.stop I9.2 h1 hR h11).2.2|exact(KI.stop I9.2 h1 hR h11).1.symm|exact(KI.stop I9.2 h1 hR h11).2.1.symm|exact(KI.stop I9.2 h1 hR h11).2.2.symm
     exact .finE [.r []] [(0,0),(1,1),(2,2),(3,3),(4,4),(5,5)] (fun((z0,z1,z2):(List Int)×(List (List Tree))×Bool)=>(VB z2,[(0,.box [.hdl 4]),(1,.box [.yl 5]),(2,.box [VL 9 nodeT d.nodes]),(3,.box [.fn 75 [.ptr 0 0,.ptr 1 0,.ptr 2 0,.ptr 3 0]]),(4,.mp (List.map onM z0) none),(5,.ext Y z1)])) _ _ (pr e7 (pr e8 e9))
    ·
     refine .back [.r [(0,X (Xn ((i:Int)+1)))]] [(0,0),(1,1),(2,2),(3,3),(4,4),(5,5),(6,6),(230,230),(262,262)] (ih9 ((i+1),(endS Y.goes S2 p2 (walkV d.nodes n S2 ({id:=((refsF (((d.nodes.getD (lobN (d).nodes v.id) default)).flow)).getD i default),parent:=v.id,vis:=v.vis}:Vis))),(endP Y.goes p2 (walkV d.nodes n S2 ({id:=((refsF (((d.nodes.getD (lobN (d).nodes v.id) default)).flow)).getD i default),parent:=v.id,vis:=v.vis}:Vis)))) ?_ ?_)
     ·
      refine⟨by omega,?_⟩
      rw[hnx];exact I9.2.next h11
     ·
      ((try dsimp only);omega)
   ·
    refine .loop (α:=Nat×List Int×List (List Tree)) [.r [(3,X (Xl cellT ((((d.nodes.getD (lobN (d).nodes v.id) default)).grid).cells)))]] 334 (fun(j,S3,p3)=>([(3,.ptr 2 0),(4,.ptr 3 0),(5,.ptr 6 0),(9,.ptr 230 0),(60,VL 5 cellT ((((d.nodes.getD (lobN (d).nodes v.id) default)).grid).cells)),(61,VI (((((d.nodes.getD (lobN (d).nodes v.id) default)).grid).cells).length:Int)),(62,VI (j:Int))],[(0,.box [.hdl 4]),(1,.box [.yl 5]),(2,.box [VL 9 nodeT d.nodes]),(3,.box [.fn 75 [.ptr 0 0,.ptr 1 0,.ptr 2 0,.ptr 3 0]]),(4,.mp (List.map onM S3) none),(5,.ext Y p3),(6,.box [VI v.id,VI v.parent,VB v.vis]),(230,.box [VI (((d.nodes.getD (lobN (d).nodes v.id) default)).id),VI (((d.nodes.getD (lobN (d).nodes v.id) default)).kind),VL 2 attrT (((d.nodes.getD (lobN (d).nodes v.id) default)).attrs),VL 3 elemT (((d.nodes.getD (lobN (d).nodes v.id) default)).flow),VI ((((d.nodes.getD (lobN (d).nodes v.id) default)).grid).rows),VI ((((d.nodes.getD (lobN (d).nodes v.id) default)).grid).cols),VL 5 cellT ((((d.nodes.getD (lobN (d).nodes v.id) default)).grid).cells),VL 4 rectT ((((d.nodes.getD (lobN (d).nodes v.id) default)).grid).merges),VL 8 dopT (((d.nodes.getD (lobN (d).nodes v.id) default)).draw)])])) (fun(j,S3,p3)=>j≤(d.nodes.getD (lobN d.nodes v.id) default).grid.cells.length∧KI d Y n S p v (kidB d v j) S3 p3) (fun(j,S3,p3)=>(d.nodes.getD (lobN d.nodes v.id) default).grid.cells.length-j) (0,S2,p2) ?_ ?_
    ·
     exact⟨Nat.zero_le _,by rw[kidB_zero,show(refsF (d.nodes.getD (lobN d.nodes v.id) default).flow).length=i by omega];exact I9.2⟩
    rintro⟨j,S3,p3⟩ I15 ih15
    try dsimp only at I15
    refine .bp [.r []] (decide ((j:Int)< (((((d.nodes.getD (lobN (d).nodes v.id) default)).grid).cells).length:Int))) (fun h15=> ?_) (fun h15=> ?_)
    ·
     have hcc:=hcb _ (getDX_mem (l:=(d.nodes.getD (lobN d.nodes v.id) default).grid.cells) (i:=j) (by omega))
     refine .mid [.r [(0,X (Xi cellT ((((d.nodes.getD (lobN (d).nodes v.id) default)).grid).cells) (j:Int)))],.r [(6,X (Xc0 (fc_cover (((d.nodes.getD (lobN (d).nodes v.id) default)).grid) (((((((d.nodes.getD (lobN (d).nodes v.id) default)).grid).cells).getD j default)).row) (((((((d.nodes.getD (lobN (d).nodes v.id) default)).grid).cells).getD j default)).col) (by omega) (by omega) (by assumption)) X0))]] ?_
     obtain⟨hnx,R,hR⟩:=kidB_at (d:=d) (v:=v) (j:=j) (by omega)
     by_cases hr:((d.nodes.getD (lobN d.nodes v.id) default).grid.cells.getD j default).ref=0
     ·
      refine .bp [.r [(2,X (Xbv ((((((((d.nodes.getD (lobN (d).nodes v.id) default)).grid).cells).getD j default)).ref) !=0) false) (by rw[hr];rfl)),(4,X (Xskip false (.junk)) rfl),(5,X (Xskip false (.junk)) rfl),(6,X (Xskip false (.junk)) rfl),(7,X (Xskip false (.junk)) rfl),(8,X (Xskip false (.junk)) rfl),(9,X (Xskip false (.junk)) rfl),(10,X (Xskip false (VB false)) rfl),(11,X (Xskip false (VB false)) rfl),(12,X (Xskip (false&&false) (.junk)) rfl),(13,X (Xskip (false&&false) (.junk)) rfl),(14,X (Xskip (false&&false) (.junk)) rfl),(15,X (Xskip (false&&false) (.junk)) rfl),(16,X (Xskip (false&&false) (VB false)) rfl),(17,X (Xskip false (VB false)) rfl),(18,X (Xskip false (VB false)) rfl),(19,X (Xskip (false&&false) (.junk)) rfl),(20,X (Xskip (false&&false) (.junk)) rfl),(21,X (Xskip (false&&false) (.junk)) rfl),(22,X (Xskip (false&&false) (.junk)) rfl),(23,X (Xskip (false&&false) (VB false)) rfl),(24,X (Xskip false (VB false)) rfl),(25,X (Xskip false (.junk)) rfl),(26,X (Xskip false (.junk)) rfl),(27,X (Xskip false (VB false)) rfl),(28,X (Xk false))]] (false&&false) (fun h18=> ?_) (fun h18=> ?_)
      ·
       exfalso
       simp at h18
      ·
       refine .back [.r [(0,X (Xn ((j:Int)+1)))]] [(0,0),(1,1),(2,2),(3,3),(4,4),(5,5),(6,6),(230,230)] (ih15 ((j+1),S3,p3) ?_ ?_)
       ·
        refine⟨by omega,?_⟩
        rw[hnx,kidC,if_neg (fun q=>q hr),List.append_nil];exact I15.2
       ·
        ((try dsimp only);omega)
     ·
      rw[show kidC (d.nodes.getD (lobN d.nodes v.id) default).grid v ((d.nodes.getD (lobN d.nodes v.id) default).grid.cells.getD j default)=[({id:=((d.nodes.getD (lobN d.nodes v.id) default).grid.cells.getD j default).ref,parent:=v.id,vis:=visC (d.nodes.getD (lobN d.nodes v.id) default).grid v.vis ((d.nodes.getD (lobN d.nodes v.id) default).grid.cells.getD j default)}:Vis)] from if_pos hr] at hnx hR
      rw[List.append_assoc,List.singleton_append] at hR
      have hcall:WOk d Y n S3 p3 ({id:=((d.nodes.getD (lobN d.nodes v.id) default).grid.cells.getD j default).ref,parent:=v.id,vis:=visC (d.nodes.getD (lobN d.nodes v.id) default).grid v.vis ((d.nodes.getD (lobN d.nodes v.id) default).grid.cells.getD j default)}:Vis):=KI.call I15.2 hw h1 hR (kids_has hV hw.has (by rw[hR];exact List.mem_append_right _ List.mem_cons_self))
      refine .bp [.r [(2,X (Xbv ((((((((d.nodes.getD (lobN (d).nodes v.id) default)).grid).cells).getD j default)).ref) !=0) true) (by simpa using hr)),(6,Xv 1 true X0),(8,Xv 1 true X0),(10,Xv 1 true X0),(11,Xv 1 true X0),(13,Xv 1 (true&&v.vis) X0),(15,Xv 1 (true&&v.vis) X0),(16,Xv 2 (true&&v.vis) X0),(17,Xka true v.vis),(18,Xv 1 true X0),(20,Xv 1 (true&&(v.vis&&((((covQ ((((d.nodes.getD (lobN (d).nodes v.id) default)).grid)).merges (((((((d.nodes.getD (lobN (d).nodes v.id) default)).grid).cells).getD j default)).row) (((((((d.nodes.getD (lobN (d).nodes v.id) default)).grid).cells).getD j default)).col) 0)).row)==(((((((d.nodes.getD (lobN (d).nodes v.id) default)).grid).cells).getD j default)).row)))) X0),(22,Xv 1 (true&&(v.vis&&((((covQ ((((d.nodes.getD (lobN (d).nodes v.id) default)).grid)).merges (((((((d.nodes.getD (lobN (d).nodes v.id) default)).grid).cells).getD j default)).row) (((((((d.nodes.getD (lobN (d).nodes v.id) default)).grid).cells).getD j default)).col) 0)).row)==(((((((d.nodes.getD (lobN (d).nodes v.id) default)).grid).cells).getD j default)).row)))) X0),(23,Xv 2 (true&&(v.vis&&((((covQ ((((d.nodes.getD (lobN (d).nodes v.id) default)).grid)).merges (((((((d.nodes.getD (lobN (d).nodes v.id) default)).grid).cells).getD j default)).row) (((((((d.nodes.getD (lobN (d).nodes v.id) default)).grid).cells).getD j default)).col) 0)).row)==(((((((d.nodes.getD (lobN (d).nodes v.id) default)).grid).cells).getD j default)).row)))) X0),(24,Xka true (v.vis&&((((covQ ((((d.nodes.getD (lobN (d).nodes v.id) default)).grid)).merges (((((((d.nodes.getD (lobN (d).nodes v.id) default)).grid).cells).getD j default)).row) (((((((d.nodes.getD (lobN (d).nodes v.id) default)).grid).cells).getD j default)).col) 0)).row)==(((((((d.nodes.getD (lobN (d).nodes v.id) default)).grid).cells).getD j default)).row)))),(25,Xv 3 true X0),(26,Xw true (Xq true (Xq true (Xc3 654 [(0,0),(1,1),(2,2),(3,3),(4,4),(5,5)] (ih ({id:=((((((d.nodes.getD (lobN (d).nodes v.id) default)).grid).cells).getD j default)).ref,parent:=v.id,vis:=((v.vis&&((((covQ ((((d.nodes.getD (lobN (d).nodes v.id) default)).grid)).merges (((((((d.nodes.getD (lobN (d).nodes v.id) default)).grid).cells).getD j default)).row) (((((((d.nodes.getD (lobN (d).nodes v.id) default)).grid).cells).getD j default)).col) 0)).row)==(((((((d.nodes.getD (lobN (d).nodes v.id) default)).grid).cells).getD j default)).row)))&&((((covQ ((((d.nodes.getD (lobN (d).nodes v.id) default)).grid)).merges (((((((d.nodes.getD (lobN (d).nodes v.id) default)).grid).cells).getD j default)).row) (((((((d.nodes.getD (lobN (d).nodes v.id) default)).grid).cells).getD j default)).col) 0)).col)==(((((((d.nodes.getD (lobN (d).nodes v.id) default)).grid).cells).getD j default)).col)))}:Vis) S3 p3 (by assumption)) X0))) (rfl) (by first|omega| (simp;omega)| (simp;done)|assumption)),(27,Xv 1 true X0),(28,X (Xk true))]] (true&& !(contY Y.goes p3 (walkV d.nodes n S3 ({id:=((((((d.nodes.getD (lobN (d).nodes v.id) default)).grid).cells).getD j default)).ref,parent:=v.id,vis:=((v.vis&&((((covQ ((((d.nodes.getD (lobN (d).nodes v.id) default)).grid)).merges (((((((d.nodes.getD (lobN (d).nodes v.id) default)).grid).cells).getD j default)).row) (((((((d.nodes.getD (lobN (d).nodes v.id) default)).grid).cells).getD j default)).col) 0)).row)==(((((((d.nodes.getD (lobN (d).nodes v.id) default)).grid).cells).getD j default)).row)))&&((((covQ ((((d.nodes.getD (lobN (d).nodes v.id) default)).grid)).merges (((((((d.nodes.getD (lobN (d).nodes v.id) default)).grid).cells).getD j default)).row) (((((((d.nodes.getD (lobN (d).nodes v.id) default)).grid).cells).getD j default)).col) 0)).col)==(((((((d.nodes.getD (lobN (d).nodes v.id) default)).grid).cells).getD j default)).col)))}:Vis)))) (fun h18=> ?_) (fun h18=> ?_)
      ·
       have e10:((endS Y.goes S p (walkV d.nodes (n+1) S v)):List Int)=(endS Y.goes S3 p3 (walkV d.nodes n S3 ({id:=((((((d.nodes.getD (lobN (d).nodes v.id) default)).grid).cells).getD j default)).ref,parent:=v.id,vis:=((v.vis&&((((covQ ((((d.nodes.getD (lobN (d).nodes v.id) default)).grid)).merges (((((((d.nodes.getD (lobN (d).nodes v.id) default)).grid).cells).getD j default)).row) (((((((d.nodes.getD (lobN (d).nodes v.id) default)).grid).cells).getD j default)).col) 0)).row)==(((((((d.nodes.getD (lobN (d).nodes v.id) default)).grid).cells).getD j default)).row)))&&((((covQ ((((d.nodes.getD (lobN (d).nodes v.id) default)).grid)).merges (((((((d.nodes.getD (lobN (d).nodes v.id) default)).grid).cells).getD j default)).row) (((((((d.nodes.getD (lobN (d).nodes v.id) default)).grid).cells).getD j default)).col) 0)).col)==(((((((d.nodes.getD (lobN (d).nodes v.id) default)).grid).cells).getD j default)).col)))}:Vis))):=by
        first|exact(KI.stop I15.2 h1 hR h18.2).1|exact(KI.stop I15.2 h1 hR h18.2).2.1|exact(KI.stop I15.2 h1 hR h18.2).2.2|exact(KI.stop I15.2 h1 hR h18.2).1.symm|exact(KI.stop I15.2 h1 hR h18.2).2.1.symm|exact(KI.stop I15.2 h1 hR h18.2).2.2.symm
       have e11:((endP Y.goes p (walkV d.nodes (n+1) S v)):List (List Tree))=(endP Y.goes p3 (walkV d.nodes n S3 ({id:=((((((d.nodes.getD (lobN (d).nodes v.id) default)).grid).cells).getD j default)).ref,parent:=v.id,vis:=((v.vis&&((((covQ ((((d.nodes.getD (lobN (d).nodes v.id) default)).grid)).merges (((((((d.nodes.getD (lobN (d).nodes v.id) default)).grid).cells).getD j default)).row) (((((((d.nodes.getD (lobN (d).nodes v.id) default)).grid).cells).getD j default)).col) 0)).row)==(((((((d.nodes.getD (lobN (d).nodes v.id) default)).grid).cells).getD j default)).row)))&&((((covQ ((((d.nodes.getD (lobN (d).nodes v.id) default)).grid)).merges (((((((d.nodes.getD (lobN (d).nodes v.id) default)).grid).cells).getD j default)).row) (((((((d.nodes.getD (lobN (d).nodes v.id) default)).grid).cells).getD j default)).col) 0)).col)==(((((((d.nodes.getD (lobN (d).nodes v.id) default)).grid).cells).getD j default)).col)))}:Vis))):=by
        first|exact(KI.stop I15.2 h1 hR h18.2).1|exact(KI.stop I15.2 h1 hR h18.2).2.1|exact(KI.stop I15.2 h1 hR h18.2).2.2|exact(KI.stop I15.2 h1 hR h18.2).1.symm|exact(KI.stop I15.2 h1 hR h18.2).2.1.symm|exact(KI.stop I15.2 h1 hR h18.2).2.2.symm
       have e12:((contY Y.goes p (walkV d.nodes (n+1) S v)):Bool)=false:=by
        first|exact(KI.stop I15.2 h1 hR h18.2).1|exact(KI.stop I15.2 h1 hR h18.2).2.1|exact(KI.stop I15.2 h1 hR h18.2).2.2|exact(KI.stop I15.2 h1 hR h18.2).1.symm|exact(KI.stop I15.2 h1 hR h18.2).2.1.symm|exact(KI.stop I15.2 h1 hR h18.2).2.2.symm
       exact .finE [.r []] [(0,0),(1,1),(2,2),(3,3),(4,4),(5,5)] (fun((z0,z1,z2):(List Int)×(List (List Tree))×Bool)=>(VB z2,[(0,.box [.hdl 4]),(1,.box [.yl 5]),(2,.box [VL 9 nodeT d.nodes]),(3,.box [.fn 75 [.ptr 0 0,.ptr 1 0,.ptr 2 0,.ptr 3 0]]),(4,.mp (List.map onM z0) none),(5,.ext Y z1)])) _ _ (pr e10 (pr e11 e12))
      ·
       refine .back [.r [(0,X (Xn ((j:Int)+1)))]] [(0,0),(1,1),(2,2),(3,3),(4,4),(5,5),(6,6),(230,230)] (ih15 ((j+1),(endS Y.goes S3 p3 (walkV d.nodes n S3 ({id:=((((((d.nodes.getD (lobN (d).nodes v.id) default)).grid).cells).getD j default)).ref,parent:=v.id,vis:=((v.vis&&((((covQ ((((d.nodes.getD (lobN (d).nodes v.id) default)).grid)).merges (((((((d.nodes.getD (lobN (d).nodes v.id) default)).grid).cells).getD j default)).row) (((((((d.nodes.getD (lobN (d).nodes v.id) default)).grid).cells).getD j default)).col) 0)).row)==(((((((d.nodes.getD (lobN (d).nodes v.id) default)).grid).cells).getD j default)).row)))&&((((covQ ((((d.nodes.getD (lobN (d).nodes v.id) default)).grid)).merges (((((((d.nodes.getD (lobN (d).nodes v.id) default)).grid).cells).getD j default)).row) (((((((d.nodes.getD (lobN (d).nodes v.id) default)).grid).cells).getD j default)).col) 0)).col)==(((((((d.nodes.getD (lobN (d).nodes v.id) default)).grid).cells).getD j default)).col)))}:Vis))),(endP Y.goes p3 (walkV d.nodes n S3 ({id:=((((((d.nodes.getD (lobN (d).nodes v.id) default)).grid).cells).getD j default)).ref,parent:=v.id,vis:=((v.vis&&((((covQ ((((d.nodes.getD (lobN (d).nodes v.id) default)).grid)).merges (((((((d.nodes.getD (lobN (d).nodes v.id) default)).grid).cells).getD j default)).row) (((((((d.nodes.getD (lobN (d).nodes v.id) default)).grid).cells).getD j default)).col) 0)).row)==(((((((d.nodes.getD (lobN (d).nodes v.id) default)).grid).cells).getD j default)).row)))&&((((covQ ((((d.nodes.getD (lobN (d).nodes v.id) default)).grid)).merges (((((((d.nodes.getD (lobN (d).nodes v.id) default)).grid).cells).getD j default)).row) (((((((d.nodes.getD (lobN (d).nodes v.id) default)).grid).cells).getD j default)).col) 0)).col)==(((((((d.nodes.getD (lobN (d).nodes v.id) default)).grid).cells).getD j default)).col)))}:Vis)))) ?_ ?_)
       ·
        refine⟨by omega,?_⟩
        rw[hnx];exact I15.2.next (h18.resolve_left (by decide))
       ·
        ((try dsimp only);omega)
    ·
     refine .loop (α:=Nat×List Int×List (List Tree)) [.r [(2,X (Xc1 358 (fc_itemsD d ((d.nodes.getD (lobN (d).nodes v.id) default)) (by assumption) (by assumption) (by assumption) (by assumption)) X0)),(3,X (Xl intT (itemsD (d).nodes ((d.nodes.getD (lobN (d).nodes v.id) default)))))]] 382 (fun(q,S4,p4)=>([(4,.ptr 3 0),(5,.ptr 6 0),(105,VL 1 intT (itemsD (d).nodes ((d.nodes.getD (lobN (d).nodes v.id) default)))),(106,VI ((itemsD (d).nodes ((d.nodes.getD (lobN (d).nodes v.id) default))).length:Int)),(107,VI (q:Int))],[(0,.box [.hdl 4]),(1,.box [.yl 5]),(2,.box [VL 9 nodeT d.nodes]),(3,.box [.fn 75 [.ptr 0 0,.ptr 1 0,.ptr 2 0,.ptr 3 0]]),(4,.mp (List.map onM S4) none),(5,.ext Y p4),(6,.box [VI v.id,VI v.parent,VB v.vis])])) (fun(q,S4,p4)=>q≤(itemsD d.nodes (d.nodes.getD (lobN d.nodes v.id) default)).length∧KI d Y n S p v (kidI d v q) S4 p4) (fun(q,S4,p4)=>(itemsD d.nodes (d.nodes.getD (lobN d.nodes v.id) default)).length-q) (0,S3,p3) ?_ ?_
     ·
      exact⟨Nat.zero_le _,by rw[kidI_zero,show(d.nodes.getD (lobN d.nodes v.id) default).grid.cells.length=j by omega];exact I15.2⟩
     rintro⟨q,S4,p4⟩ I22 ih22
     try dsimp only at I22
     refine .bp [.r []] (decide ((q:Int)< ((itemsD (d).nodes ((d.nodes.getD (lobN (d).nodes v.id) default))).length:Int))) (fun h22=> ?_) (fun h22=> ?_)
     ·
      obtain⟨⟨R,hR⟩,hnx⟩:=kidI_at (d:=d) (v:=v) (i:=q) (by omega)
      have hcall:WOk d Y n S4 p4 ({id:=((itemsD d.nodes (d.nodes.getD (lobN d.nodes v.id) default)).getD q default),parent:=v.id,vis:=v.vis}:Vis):=KI.call I22.2 hw h1 hR (kids_has hV hw.has (by rw[hR];exact List.mem_append_right _ List.mem_cons_self))
      refine .bp [.r [(0,X (Xi intT (itemsD (d).nodes ((d.nodes.getD (lobN (d).nodes v.id) default))) (q:Int)))],.r [(7,X (Xc3 470 [(0,0),(1,1),(2,2),(3,3),(4,4),(5,5)] (ih ({id:=((itemsD (d).nodes ((d.nodes.getD (lobN (d).nodes v.id) default))).getD q default),parent:=v.id,vis:=v.vis}:Vis) S4 p4 (by assumption)) X0))]] (!(contY Y.goes p4 (walkV d.nodes n S4 ({id:=((itemsD (d).nodes ((d.nodes.getD (lobN (d).nodes v.id) default))).getD q default),parent:=v.id,vis:=v.vis}:Vis)))) (fun h24=> ?_) (fun h24=> ?_)
      ·
       have e13:((endS Y.goes S p (walkV d.nodes (n+1) S v)):List Int)=(endS Y.goes S4 p4 (walkV d.nodes n S4 ({id:=((itemsD (d).nodes ((d.nodes.getD (lobN (d).nodes v.id) default))).getD q default),parent:=v.id,vis:=v.vis}:Vis))):=by
        first|exact(KI.stop I22.2 h1 hR h24).1|exact(KI.stop I22.2 h1 hR h24).2.1|exact(KI.stop I22.2 h1 hR h24).2.2|exact(KI.stop I22.2 h1 hR h24).1.symm|exact(KI.stop I22.2 h1 hR h24).2.1.symm|exact(KI.stop I22.2 h1 hR h24).2.2.symm
       have e14:((endP Y.goes p (walkV d.nodes (n+1) S v)):List (List Tree))=(endP Y.goes p4 (walkV d.nodes n S4 ({id:=((itemsD (d).nodes ((d.nodes.getD (lobN (d).nodes v.id) default))).getD q default),parent:=v.id,vis:=v.vis}:Vis))):=by
        first|exact(KI.stop I22.2 h1 hR h24).1|exact(KI.stop I22.2 h1 hR h24).2.1|exact(KI.stop I22.2 h1 hR h24).2.2|exact(KI.stop I22.2 h1 hR h24).1.symm|exact(KI.stop I22.2 h1 hR h24).2.1.symm|exact(KI.stop I22.2 h1 hR h24).2.2.symm
       have e15:((contY Y.goes p (walkV d.nodes (n+1) S v)):Bool)=false:=by
        first|exact(KI.stop I22.2 h1 hR h24).1|exact(KI.stop I22.2 h1 hR h24).2.1|exact(KI.stop I22.2 h1 hR h24).2.2|exact(KI.stop I22.2 h1 hR h24).1.symm|exact(KI.stop I22.2 h1 hR h24).2.1.symm|exact(KI.stop I22.2 h1 hR h24).2.2.symm
       exact .finE [.r []] [(0,0),(1,1),(2,2),(3,3),(4,4),(5,5)] (fun((z0,z1,z2):(List Int)×(List (List Tree))×Bool)=>(VB z2,[(0,.box [.hdl 4]),(1,.box [.yl 5]),(2,.box [VL 9 nodeT d.nodes]),(3,.box [.fn 75 [.ptr 0 0,.ptr 1 0,.ptr 2 0,.ptr 3 0]]),(4,.mp (List.map onM z0) none),(5,.ext Y z1)])) _ _ (pr e13 (pr e14 e15))
      ·
       refine .back [.r [(0,X (Xn ((q:Int)+1)))]] [(0,0),(1,1),(2,2),(3,3),(4,4),(5,5),(6,6)] (ih22 ((q+1),(endS Y.goes S4 p4 (walkV d.nodes n S4 ({id:=((itemsD (d).nodes ((d.nodes.getD (lobN (d).nodes v.id) default))).getD q default),parent:=v.id,vis:=v.vis}:Vis))),(endP Y.goes p4 (walkV d.nodes n S4 ({id:=((itemsD (d).nodes ((d.nodes.getD (lobN (d).nodes v.id) default))).getD q default),parent:=v.id,vis:=v.vis}:Vis)))) ?_ ?_)
       ·
        refine⟨by omega,?_⟩
        rw[hnx];exact I22.2.next h24
       ·
        ((try dsimp only);omega)
     ·
      have e16:((endS Y.goes S p (walkV d.nodes (n+1) S v)):List Int)=S4:=by
       first|exact(KI.done I22.2 h1 (kidI_end.trans (by rw[show(itemsD d.nodes (d.nodes.getD (lobN d.nodes v.id) default)).length=q by omega]))).1|exact(KI.done I22.2 h1 (kidI_end.trans (by rw[show(itemsD d.nodes (d.nodes.getD (lobN d.nodes v.id) default)).length=q by omega]))).2.1|exact(KI.done I22.2 h1 (kidI_end.trans (by rw[show(itemsD d.nodes (d.nodes.getD (lobN d.nodes v.id) default)).length=q by omega]))).2.2|exact(KI.done I22.2 h1 (kidI_end.trans (by rw[show(itemsD d.nodes (d.nodes.getD (lobN d.nodes v.id) default)).length=q by omega]))).1.symm|exact(KI.done I22.2 h1 (kidI_end.trans (by rw[show(itemsD d.nodes (d.nodes.getD (lobN d.nodes v.id) default)).length=q by omega]))).2.1.symm|exact(KI.done I22.2 h1 (kidI_end.trans (by rw[show(itemsD d.nodes (d.nodes.getD (lobN d.nodes v.id) default)).length=q by omega]))).2.2.symm
      have e17:((endP Y.goes p (walkV d.nodes (n+1) S v)):List (List Tree))=p4:=by
       first|exact(KI.done I22.2 h1 (kidI_end.trans (by rw[show(itemsD d.nodes (d.nodes.getD (lobN d.nodes v.id) default)).length=q by omega]))).1|exact(KI.done I22.2 h1 (kidI_end.trans (by rw[show(itemsD d.nodes (d.nodes.getD (lobN d.nodes v.id) default)).length=q by omega]))).2.1|exact(KI.done I22.2 h1 (kidI_end.trans (by rw[show(itemsD d.nodes (d.nodes.getD (lobN d.nodes v.id) default)).length=q by omega]))).2.2|exact(KI.done I22.2 h1 (kidI_end.trans (by rw[show(itemsD d.nodes (d.nodes.getD (lobN d.nodes v.id) default)).length=q by omega]))).1.symm|exact(KI.done I22.2 h1 (kidI_end.trans (by rw[show(itemsD d.nodes (d.nodes.getD (lobN d.nodes v.id) default)).length=q by omega]))).2.1.symm|exact(KI.done I22.2 h1 (kidI_end.trans (by rw[show(itemsD d.nodes (d.nodes.getD (lobN d.nodes v.id) default)).length=q by omega]))).2.2.symm
      have e18:((contY Y.goes p (walkV d.nodes (n+1) S v)):Bool)=true:=by
       first|exact(KI.done I22.2 h1 (kidI_end.trans (by rw[show(itemsD d.nodes (d.nodes.getD (lobN d.nodes v.id) default)).length=q by omega]))).1|exact(KI.done I22.2 h1 (kidI_end.trans (by rw[show(itemsD d.nodes (d.nodes.getD (lobN d.nodes v.id) default)).length=q by omega]))).2.1|exact(KI.done I22.2 h1 (kidI_end.trans (by rw[show(itemsD d.nodes (d.nodes.getD (lobN d.nodes v.id) default)).length=q by omega]))).2.2|exact(KI.done I22.2 h1 (kidI_end.trans (by rw[show(itemsD d.nodes (d.nodes.getD (lobN d.nodes v.id) default)).length=q by omega]))).1.symm|exact(KI.done I22.2 h1 (kidI_end.trans (by rw[show(itemsD d.nodes (d.nodes.getD (lobN d.nodes v.id) default)).length=q by omega]))).2.1.symm|exact(KI.done I22.2 h1 (kidI_end.trans (by rw[show(itemsD d.nodes (d.nodes.getD (lobN d.nodes v.id) default)).length=q by omega]))).2.2.symm
      exact .finE [.r []] [(0,0),(1,1),(2,2),(3,3),(4,4),(5,5)] (fun((z0,z1,z2):(List Int)×(List (List Tree))×Bool)=>(VB z2,[(0,.box [.hdl 4]),(1,.box [.yl 5]),(2,.box [VL 9 nodeT d.nodes]),(3,.box [.fn 75 [.ptr 0 0,.ptr 1 0,.ptr 2 0,.ptr 3 0]]),(4,.mp (List.map onM z0) none),(5,.ext Y z1)])) _ _ (pr e16 (pr e17 e18))
end Go.Ch
end
section
set_option linter.unusedVariables false
namespace Go.Ch
open Go Go.Ab
def root9:Vis:=⟨1,0,true⟩
def treeV(d:Doc):List Vis:=walkV d.nodes (d.nodes.length+1) [] root9
theorem WOk.root{d:Doc}{Y:YSpec}{pre:List (List Tree)}(hV:DocV d)(ha:AdmY Y pre (treeV d)):WOk d Y (d.nodes.length+1) [] pre root9:=
 ⟨hV.one,by have:=List.length_filter_le (fun n:Node=>decide (n.id∉([]:List Int))) d.nodes;unfold muS;omega,ha⟩
def encP(v:Vis):List Tree:=[TI v.id,TI v.parent]
def idP:List Tree→List Tree
 | [.agg (a::b::_)]=>[a,b]
 |_=>[]
theorem idP_enc(v:Vis):idP (enc1 v)=encP v:=rfl
def stopP(g:List (List Tree)→Bool):List (List Tree)→List Vis→List Vis
 |_,[]=>[]
 |pre,x::l=>x::(if g (pre++[encP x])=true then stopP g (pre++[encP x]) l else[])
def AdmP(Y:YSpec):List (List Tree)→List Vis→Prop
 |_,[]=>True
 |pre,x::l=>Y.adm pre (encP x)∧(Y.goes (pre++[encP x])=true→AdmP Y (pre++[encP x]) l)
theorem map_idP(p0 pre:List (List Tree))(x:Vis):p0++(pre++[enc1 x]).map idP=p0++pre.map idP++[encP x]:=by simp[idP_enc]
theorem stop_conv{g:List (List Tree)→Bool}{p0:List (List Tree)}:∀{l:List Vis} {pre:List (List Tree)},stopY (fun p=>g (p0++p.map idP)) pre l=stopP g (p0++pre.map idP) l
 | [],pre=>rfl
 |x::l,pre=>by
  rw[stopY,stopP,map_idP,stop_conv,map_idP]
theorem adm_conv{Y Y2:YSpec}{p0:List (List Tree)}(hg:Y2.goes=fun p=>Y.goes (p0++p.map idP))(ha:Y2.adm=fun p xs=> ∃v,xs=enc1 v∧Y.adm (p0++p.map idP) (encP v)):∀{l:List Vis} {pre:List (List Tree)},AdmP Y (p0++pre.map idP) l→AdmY Y2 pre l
 | [],pre,_=>trivial
 |x::l,pre,h=>by
  refine⟨by rw[ha];exact⟨x,rfl,h.1⟩,fun q=> ?_⟩
  rw[hg] at q
  have q':Y.goes (p0++pre.map idP++[encP x])=true:=by rw[←map_idP];exact q
  have:=h.2 q'
  rw[←map_idP] at this
  exact adm_conv hg ha this
theorem end_conv{g:List (List Tree)→Bool}{p0:List (List Tree)}{l:List Vis}:p0++(endP (fun p=>g (p0++p.map idP)) [] l).map idP=p0++(stopP g p0 l).map encP:=by
 unfold endP
 have:=stop_conv (g:=g) (p0:=p0) (l:=l) (pre:=[])
 rw[List.map_nil,List.append_nil] at this
 rw[this,List.nil_append,List.map_map]
 rfl
theorem stop_take{J:Nat→Option Code}:∀{l:List Vis} {pre:List (List Tree)} {m:Nat},m≤l.length→(∀k,0<k→k<m→J (pre.length+k)=none)→(m=l.length∨(0<m∧J (pre.length+m)≠none))→
 stopP (fun p=>(J p.length).isNone) pre l=l.take m
 | [],pre,m,h,_,_=>by simp[stopP]
 |x::l,pre,0,h,_,hm=>by rcases hm with h|h;(simp at h);(omega)
 |x::l,pre,m+1,h,hj,hm=>by
  rw[stopP,List.take_succ_cons]
  congr 1
  have e:(pre++[encP x]).length=pre.length+1:=by simp
  by_cases hn:J (pre.length+1)=none
  ·rw[if_pos (by rw[e,hn];rfl)]
   refine stop_take (by simpa using h) (fun k k1 k2=> ?_) ?_
   ·rw[e,show pre.length+1+k=pre.length+(k+1) by omega];exact hj (k+1) (by omega) (by omega)
   ·rcases hm with hm| ⟨_,hm⟩
    ·left;simpa using hm
    ·by_cases q:m=0
     ·subst q;exact absurd hn hm
     ·right;exact⟨by omega,by rw[e,show pre.length+1+m=pre.length+(m+1) by omega];exact hm⟩
  ·have q:m=0:=Classical.byContradiction fun q=>hn (hj 1 (by omega) (by omega))
   subst q
   rw[if_neg (by rw[e];cases hh:J (pre.length+1) with|none=>exact absurd hh hn|some c=>simp)]
   simp
theorem admP_loop{Y:YSpec}{J:Nat→Option Code}(hg:Y.goes=fun p=>(J p.length).isNone){vl:List Vis}(ha:∀k,k<vl.length→J k=none→Y.adm ((vl.take k).map encP) (encP (vl.getD k default)))(h0:J 0=none):AdmP Y [] vl:=by
 have key:∀(n k:Nat),vl.length-k=n→k≤vl.length→J k=none→AdmP Y ((vl.take k).map encP) (vl.drop k):=by
  intro n
  induction n with
  |zero=>intro k h hk _;rw[List.drop_eq_nil_of_le (by omega)];trivial
  |succ n ih=>
   intro k h hk hj
   have hlt:k<vl.length:=by omega
   rw[drop_succD hlt]
   refine⟨ha k hlt hj,fun q=> ?_⟩
   have e:(vl.take k).map encP++[encP (vl.getD k default)]=(vl.take (k+1)).map encP:=by rw[takeD hlt,List.map_append];rfl
   rw[e] at q⊢
   refine ih (k+1) (by omega) (by omega) ?_
   rw[hg] at q
   simp only[List.length_map,List.length_take,Nat.min_eq_left (show k+1≤vl.length by omega)] at q
   cases hh:J (k+1) with
   |none=>rfl
   |some c=>rw[hh] at q;cases q
 have:=key _ 0 rfl (Nat.zero_le _) h0
 simpa using this
def gV(k:Int)(pre:List (List Tree)):Bool:=match pre.getLast? with
 |some [.agg (.sc (.int _ i)::_)]=>i !=k
 |_=>true
def outT(k:Int)(pre:List (List Tree)):Bool:=pre.foldl (fun b xs=>match xs with
 | [.agg [.sc (.int _ i),_,.sc (.bool c)]]=>if i=k then c else b
 |_=>b) false
theorem gV_snoc(k:Int)(pre:List (List Tree))(v:Vis):gV k (pre++[enc1 v])=(v.id !=k):=by
 unfold gV;rw[List.getLast?_concat];rfl
theorem outT_snoc(k:Int)(pre:List (List Tree))(v:Vis):outT k (pre++[enc1 v])=if v.id=k then v.vis else outT k pre:=by
 unfold outT;rw[List.foldl_append];rfl
def visD(d:Doc)(k:Int):Bool:=((treeV d).find? (fun v=>v.id==k)).elim false Vis.vis
theorem out_find(k:Int):∀{l:List Vis} {pre:List (List Tree)},outT k (pre++(stopY (gV k) pre l).map enc1)=(l.find? (fun v=>v.id==k)).elim (outT k pre) Vis.vis
 | [],pre=>by simp[stopY]
 |x::l,pre=>by
  rw[stopY,gV_snoc,List.find?_cons]
  by_cases h:x.id=k
  ·rw[if_neg (by simp[h]),show(x.id==k)=true by simp[h]]
   rw[List.map_cons,List.map_nil,outT_snoc,if_pos h];rfl
  ·rw[if_pos (by simp[h]),show(x.id==k)=false by simp[h]]
   rw[List.map_cons,List.append_cons,out_find k,outT_snoc,if_neg h]
theorem out_end(d:Doc)(k:Int):outT k (endP (gV k) [] (treeV d))=visD d k:=by
 unfold endP visD;rw[out_find k];rfl
theorem adm_vis{Y:YSpec}(ha:Y.adm=fun _ xs=> ∃v,xs=enc1 v):∀{l:List Vis} {pre:List (List Tree)},AdmY Y pre l
 | [],pre=>trivial
 |x::l,pre=>⟨by rw[ha];exact⟨x,rfl⟩,fun _=>adm_vis ha⟩
theorem iter_of{P:Program}{gf:FuncId}{caps:List AVal}{C:List (Nat×Ob)}{e:Nat}{d:Doc}{J:Nat→Option Code}{m:Nat}{res:AVal}(hm:m≤(treeV d).length)(hj:∀k,0<k→k<m→J k=none)(he:m=(treeV d).length∨(0<m∧J m≠none))(h0:J 0=none)
 (h:∀Y:YSpec,YCalls P Y→AdmP Y [] (treeV d)→FC P gf (.yl e::caps) (app emp ((e,.ext Y [])::C)) res (app emp ((e,.ext Y ([]++(stopP Y.goes [] (treeV d)).map encP))::C))):
 Iter P gf caps C e encP default (treeV d) J m res:=by
 refine⟨fun Y hg ha hY=> ?_,hm⟩
 have:=h Y hY (admP_loop hg ha h0)
 rw[hg,stop_take hm (by simpa using hj) (by simpa using he)] at this
 exact this
end Go.Ch
end
section
set_option linter.unusedVariables false
set_option linter.unusedSimpArgs false
set_option maxRecDepth 100000
set_option maxHeartbeats 4000000
open Go Go.Proofs Go.Ab
namespace Go.Ch
theorem fc_from(d:Doc)(Y:YSpec)(hY:YCalls Tryz.prog Y)(hV:DocV d):∀(n:Nat),∀(v:Vis) (S:List Int) (p:List (List Tree)),WOk d Y n S p v→FC Tryz.prog 75 [.t (visT v),.ptr 0 0,.ptr 1 0,.ptr 2 0,.ptr 3 0] (app emp [(0,.box [.hdl 4]),(1,.box [.yl 5]),(2,.box [VL 9 nodeT d.nodes]),(3,.box [.fn 75 [.ptr 0 0,.ptr 1 0,.ptr 2 0,.ptr 3 0]]),(4,.mp (List.map onM S) none),(5,.ext Y p)]) (VB (contY Y.goes p (walkV d.nodes n S v))) (app emp [(0,.box [.hdl 4]),(1,.box [.yl 5]),(2,.box [VL 9 nodeT d.nodes]),(3,.box [.fn 75 [.ptr 0 0,.ptr 1 0,.ptr 2 0,.ptr 3 0]]),(4,.mp (List.map onM (endS Y.goes S p (walkV d.nodes n S v))) none),(5,.ext Y (endP Y.goes p (walkV d.nodes n S v)))])
 |0,v,S,p,hw=>absurd hw.mu (Nat.not_lt_zero _)
 |n+1,v,S,p,hw=>fc_from1 d Y hY hV n (fc_from d Y hY hV n) v S p hw
theorem fc_walkY(d:Doc)(Y:YSpec)(hY:YCalls Tryz.prog Y)(hV:DocV d)(p:List (List Tree))(ha:AdmY Y p (treeV d)):FC Tryz.prog 38 [.t (docT d),.yl 0] (app emp [(0,.ext Y p)]) (.tup []) (app emp [(0,.ext Y (endP Y.goes p (treeV d)))]):=by
 refine .go Tryz.f38 ?_
 have e1:((endP Y.goes p (treeV d)):List (List Tree))=(endP Y.goes p (walkV d.nodes (d.nodes.length+1) [] ({id:=1,parent:=0,vis:=true}:Vis))):=by
  rfl
 exact .finE [.r [],.r [],.r [],.r [],.r [(2,X (Xc3 81 [(0,25),(1,9),(2,1),(3,41),(4,17),(5,0)] (fc_from d Y hY hV (d.nodes.length+1) ({id:=1,parent:=0,vis:=true}:Vis) [] p (WOk.root hV ha)) X0))]] [(0,0)] (fun z0:List (List Tree)=>(.tup [],[(0,.ext Y z0)])) _ _ e1
theorem fc_treeC(Y:YSpec)(hY:YCalls Tryz.prog Y)(v:Vis)(p:List (List Tree))(ha:Y.adm p (encP v)):FC Tryz.prog 39 [.t (visT v),.ptr 0 0] (app emp [(0,.box [.yl 1]),(1,.ext Y p)]) (VB (Y.goes (p++[encP v]))) (app emp [(0,.box [.yl 1]),(1,.ext Y (p++[encP v]))]):=by
 refine .go Tryz.f39 ?_
 have e1:((p++[encP v]):List (List Tree))=(p++[(encP v)]):=by
  rfl
 have e2:((Y.goes (p++[encP v])):Bool)=(Y.goes (p++[(encP v)])):=by
  rfl
 exact .finE [.r [],.r [(5,X (Xy Tryz.prog Y p (encP v)) (⟨hY,ha⟩))]] [(0,0),(1,1)] (fun((z0,z1):(List (List Tree))×Bool)=>(VB z1,[(0,.box [.yl 1]),(1,.ext Y z0)])) _ _ (pr e1 e2)
theorem fc_walkT(d:Doc)(Y:YSpec)(hY:YCalls Tryz.prog Y)(hV:DocV d)(p:List (List Tree))(ha:AdmP Y p (treeV d)):FC Tryz.prog 38 [.t (docT d),.fn 39 [.ptr 0 0]] (app emp [(0,.box [.yl 1]),(1,.ext Y p)]) (.tup []) (app emp [(0,.box [.yl 1]),(1,.ext Y (p++(stopP Y.goes p (treeV d)).map encP))]):=by
 have h:=FC.pack (P:=Tryz.prog) (W:=38) (fid:=39) (a1:=[.t (docT d)]) (a2:=[]) (caps:=[.ptr 0 0]) (R:=fun pre=>[(0,.box [.yl 1]),(1,.ext Y (p++pre.map idP))]) (C:=[]) (pre0:=[]) (pre':=endP (fun pre=>Y.goes (p++pre.map idP)) [] (treeV d)) (res:= .tup []) (e:=0)
  (G:=fun pre=>Y.goes (p++pre.map idP)) (A:=fun pre xs=> ∃v,xs=enc1 v∧Y.adm (p++pre.map idP) (encP v))
  (fun pre xs hA=>by
   obtain⟨v,rfl,hadm⟩:=hA
   have:=fc_treeC Y hY v (p++pre.map idP) hadm
   rw[←map_idP] at this
   exact this)
  (fun Y2 h1 h2 h3=>by
   have:=fc_walkY d Y2 h3 hV [] (adm_conv (p0:=p) h1 h2 (by simpa using ha))
   rw[h1] at this
   exact this)
  (by kernel_rfl) (by kernel_rfl) rfl (by kernel_rfl) (by kernel_rfl) rfl
 rw[end_conv] at h
 simpa using h
end Go.Ch
end
section
set_option linter.unusedVariables false
set_option linter.unusedSimpArgs false
set_option maxRecDepth 100000
set_option maxHeartbeats 4000000
open Go Go.Proofs Go.Ab
namespace Go.Ch
theorem fc_treeB(d:Doc)(Y:YSpec)(hY:YCalls Tryz.prog Y)(hV:DocV d)(p:List (List Tree))(ha:AdmP Y p (treeV d)):FC Tryz.prog 37 [.yl 0,.ptr 1 0] (app emp [(0,.ext Y p),(1,.box [VL 9 nodeT d.nodes])]) (.tup []) (app emp [(0,.ext Y (p++(stopP Y.goes p (treeV d)).map encP)),(1,.box [VL 9 nodeT d.nodes])]):=by
 refine .go Tryz.f37 ?_
 have hb:=hV.b
 refine .bp [.r [],.r [(1,X (Xc0 (fc_docCk d (by assumption)) X0))]] ((docE d) !=0) (fun h1=> ?_) (fun h1=> ?_)
 ·
  exfalso
  exact h1 hV.e
 ·
  exact .fin [.r [(2,X (Xc3 50 [(0,2),(1,0)] (fc_walkT d Y hY hV p (by assumption)) X0))]] [(0,0),(1,1)]
theorem fc_tree(d:Doc)(hb:DocB d):FC Tryz.prog 10 [.t (docT d)] (app emp []) (.fn 37 [.ptr 0 0]) (app emp [(0,.box [VL 9 nodeT d.nodes])]):=by
 refine .go Tryz.f10 ?_
 exact .fin [.r [],.r [(1,X (Xc1 24 (fc_copyD d (by assumption)) X0))],.r []] [(0,0)]
theorem fc_visC(v:Vis)(k:Int)(b:Bool):FC Tryz.prog 40 [.t (visT v),.ptr 0 0,.ptr 1 0] (app emp [(0,.box [VI k]),(1,.box [VB b])]) (VB (v.id !=k)) (app emp [(0,.box [VI k]),(1,.box [VB (if v.id=k then v.vis else b)])]):=by
 refine .go Tryz.f40 ?_
 refine .bp [.r [],.r []] (v.id==k) (fun h1=> ?_) (fun h1=> ?_)
 ·
  have e1:((if v.id=k then v.vis else b):Bool)=v.vis:=by
   first|rfl|rw[if_pos h1]|rw[if_neg h1]
  exact .finE [.r [],.r []] [(0,0),(1,1)] (fun z0:Bool=>(VB (v.id !=k),[(0,.box [VI k]),(1,.box [VB z0])])) _ _ e1
 ·
  have e2:((if v.id=k then v.vis else b):Bool)=b:=by
   first|rfl|rw[if_pos h1]|rw[if_neg h1]
  exact .finE [.r []] [(0,0),(1,1)] (fun z0:Bool=>(VB (v.id !=k),[(0,.box [VI k]),(1,.box [VB z0])])) _ _ e2
theorem fc_walkV(d:Doc)(hV:DocV d)(k:Int):FC Tryz.prog 38 [.t (docT d),.fn 40 [.ptr 0 0,.ptr 1 0]] (app emp [(0,.box [VI k]),(1,.box [VB false])]) (.tup []) (app emp [(0,.box [VI k]),(1,.box [VB (visD d k)])]):=by
 have h:=FC.pack (P:=Tryz.prog) (W:=38) (fid:=40) (a1:=[.t (docT d)]) (a2:=[]) (caps:=[.ptr 0 0,.ptr 1 0]) (R:=fun pre=>[(0,.box [VI k]),(1,.box [VB (outT k pre)])]) (C:=[]) (pre0:=[]) (pre':=endP (gV k) [] (treeV d)) (res:= .tup []) (e:=0)
  (G:=gV k) (A:=fun pre xs=> ∃v,xs=enc1 v)
  (fun pre xs hA=>by
   obtain⟨v,rfl⟩:=hA
   have:=fc_visC v k (outT k pre)
   rw[←outT_snoc,←gV_snoc k pre] at this
   exact this)
  (fun Y2 h1 h2 h3=>by
   have:=fc_walkY d Y2 h3 hV [] (adm_vis h2)
   rw[h1] at this
   exact this)
  (by kernel_rfl) (by kernel_rfl) rfl (by kernel_rfl) (by kernel_rfl) rfl
 rw[out_end] at h
 exact h
theorem fc_visible(d:Doc)(k:Int)(hV:DocV d):FC Tryz.prog 11 [.t (docT d),VI k] (app emp []) (VB (visD d k)) (app emp []):=by
 refine .go Tryz.f11 ?_
 have hb:=hV.b
 refine .bp [.r [],.r [],.r [(1,X (Xc0 (fc_docCk d (by assumption)) X0))]] ((docE d) !=0) (fun h2=> ?_) (fun h2=> ?_)
 ·
  exfalso
  exact h2 hV.e
 ·
  exact .fin [.r [(2,X (Xc3 80 [(0,8),(1,24)] (fc_walkV d hV k) X0))],.r []] []
end Go.Ch
end
section
set_option linter.unusedVariables false
namespace Go.Ch
open Go Go.Ab
def firstD:Doc:=⟨[⟨1,0,[],[⟨0,2,[]⟩],⟨0,0,[],[]⟩,[]⟩,⟨2,1,[],[⟨10,0,[]⟩],⟨0,0,[],[]⟩,[]⟩]⟩
theorem first_e:docE firstD=0:=by decide+kernel
theorem first_vis:visD firstD 2=true:=by decide+kernel
theorem first_b:DocB firstD:=by
 refine⟨by decide,fun n hn=> ?_,by decide⟩
 have hn2:n=⟨1,0,[],[⟨0,2,[]⟩],⟨0,0,[],[]⟩,[]⟩∨n=⟨2,1,[],[⟨10,0,[]⟩],⟨0,0,[],[]⟩,[]⟩:=by
  unfold firstD at hn;simpa using hn
 rcases hn2 with rfl|rfl
 all_goals
  refine⟨fun a ha=> ?_,by decide,fun x hx=> ?_,by decide,fun x hx=> ?_,fun c hc=> ?_,by decide,fun c hc=> ?_,by decide,by decide,fun o ho=> ?_⟩
  ·cases ha
  ·rw[List.mem_singleton.1 hx];intro a ha;cases ha
  ·rw[List.mem_singleton.1 hx];decide
  ·cases hc
  ·cases hc
  ·cases ho
theorem first_v:DocV firstD:=⟨first_b,first_e⟩
end Go.Ch
end
section
set_option linter.unusedVariables false
set_option linter.unusedSimpArgs false
set_option maxRecDepth 100000
set_option maxHeartbeats 4000000
open Go Go.Proofs Go.Ab
namespace Go.Ch
theorem fc_first:FC Tryz.prog 24 [] (app emp []) (.t (docT firstD)) (app emp []):=by
 refine .go Tryz.f24 ?_
 have e1:(firstD:Doc)=({nodes:=[({id:=1,kind:=0,attrs:=[],flow:=[({char:=0,ref:=2,attrs:=[]}:Elem)],grid:=({rows:=0,cols:=0,cells:=[],merges:=[]}:Grid),draw:=[]}:Node),({id:=2,kind:=1,attrs:=[],flow:=[({char:=10,ref:=0,attrs:=[]}:Elem)],grid:=({rows:=0,cols:=0,cells:=[],merges:=[]}:Grid),draw:=[]}:Node)]}:Doc):=by
  rfl
 exact .finVE [.r [],.r [(0,X (Xf [(2,2)])),(2,X (Xf [(2,2),(6,5),(7,4),(8,8)])),(3,X (Xf [(2,2)])),(5,X (Xf [(2,2),(6,5),(7,4),(8,8)])),(6,X (rowC elemT [({char:=0,ref:=2,attrs:=[]}:Elem)] (rowC elemT [({char:=10,ref:=0,attrs:=[]}:Elem)] X0)))]] [.fR 0 [(2:Nat)=(List.map nodeT [({id:=1,kind:=0,attrs:=[],flow:=[({char:=0,ref:=2,attrs:=[]}:Elem)],grid:=({rows:=0,cols:=0,cells:=[],merges:=[]}:Grid),draw:=[]}:Node),({id:=2,kind:=1,attrs:=[],flow:=[({char:=10,ref:=0,attrs:=[]}:Elem)],grid:=({rows:=0,cols:=0,cells:=[],merges:=[]}:Grid),draw:=[]}:Node)]).length] ⟨lm,trivial⟩] [] (fun z0:Doc=>(.t (docT z0),[])) _ _ e1
theorem fc_docs:FC Tryz.prog 7 [] (app emp []) (VB true) (app emp []):=by
 refine .go Tryz.f7 ?_
 have q1:=first_b
 have q2:=first_v
 have e1:(((((docE firstD)==0)&&((firstD.nodes.length:Int)==2))&&(visD firstD 2)):Bool)=true:=by
  rw[first_e,first_vis];rfl
 exact .finE [.r [],.r [(0,X (Xc1 8 fc_first X0))],.r [(1,X (Xc0 (fc_docCk firstD (by assumption)) X0)),(5,Xv 1 ((docE firstD)==0) X0),(6,Xv 1 ((docE firstD)==0) (Xl nodeT firstD.nodes)),(7,Xv 1 ((docE firstD)==0) X0),(8,X (Xk ((docE firstD)==0))),(11,Xv 1 (((docE firstD)==0)&&((firstD.nodes.length:Int)==2)) (Xc0 (fc_visible firstD 2 (by assumption)) X0)),(12,X (Xk (((docE firstD)==0)&&((firstD.nodes.length:Int)==2))))]] [] (fun z0:Bool=>(VB z0,[])) _ _ e1.symm
end Go.Ch
end
section
set_option linter.unusedVariables false
namespace Go.Ch
open Go Go.Ab
def Chain(a:Vis)(L:List Vis):Prop:=∀L1 w L2,L=L1++w::L2→∃u∈a::L1,u.id=w.parent∧(w.vis=true→u.vis=true)
theorem Chain.nil(a:Vis):Chain a []:=fun L1 w L2 h=>by simp at h
theorem Chain.app{a:Vis}{L M:List Vis}(h1:Chain a L)(h2:Chain a M):Chain a (L++M):=by
 intro L1 w L2 h
 rcases List.append_eq_append_iff.1 h with⟨X,e1,e2⟩| ⟨X,e1,e2⟩
 ·obtain⟨u,hu,h3⟩:=h2 X w L2 e2
  refine⟨u,?_,h3⟩
  rw[e1]
  rcases List.mem_cons.1 hu with hu|hu
  ·exact hu▸List.mem_cons_self
  ·exact List.mem_cons_of_mem _ (List.mem_append_right _ hu)
 ·cases X with
  |nil=>
   rw[List.append_nil] at e1
   rw[List.nil_append] at e2
   obtain⟨u,hu,h3⟩:=h2 [] w L2 e2.symm
   refine⟨u,?_,h3⟩
   rcases List.mem_cons.1 hu with hu|hu
   ·exact hu▸List.mem_cons_self
   ·cases hu
  |cons x X=>
   rw[List.cons_append] at e2
   injection e2 with e3 e4
   subst e3
   exact h1 L1 w X e1
theorem Chain.kid{v k:Vis}{M:List Vis}(h:Chain k M)(hp:k.parent=v.id)(hv:k.vis=true→v.vis=true):Chain v (k::M):=by
 intro L1 w L2 e
 cases L1 with
 |nil=>rw[List.nil_append] at e;injection e with e1 e2;subst e1;exact⟨v,List.mem_cons_self,hp.symm,hv⟩
 |cons x L1=>
  rw[List.cons_append] at e;injection e with e1 e2;subst e1
  obtain⟨u,hu,h3⟩:=h L1 w L2 e2
  exact⟨u,List.mem_cons_of_mem _ hu,h3⟩
theorem kids_ok{l:List Node}{v k:Vis}(h:k∈kidsV l v):k.parent=v.id∧(k.vis=true→v.vis=true):=by
 unfold kidsV at h
 rcases List.mem_append.1 h with h|h
 ·rcases List.mem_append.1 h with h|h
  ·obtain⟨r,_,rfl⟩:=List.mem_map.1 h;exact⟨rfl,fun q=>q⟩
  ·obtain⟨c,_,hc⟩:=List.mem_flatMap.1 h
   unfold kidC at hc
   split at hc
   ·rw[List.mem_singleton.1 hc]
    refine⟨rfl,fun q=> ?_⟩
    change visC _ v.vis c=true at q
    unfold visC at q
    simp only[Bool.and_eq_true] at q
    exact q.1.1
   ·cases hc
 ·obtain⟨r,_,rfl⟩:=List.mem_map.1 h;exact⟨rfl,fun q=>q⟩
structure VOk(S:List Int)(v:Vis)(W:List Vis):Prop where
 head:W=[]∨∃M,W=v::M∧Chain v M
 nd:(idsV9 W).Nodup
 new:∀k∈idsV9 W,k∉S
theorem walkL_ok{f:List Int→Vis→List Vis}{v:Vis}(hf:∀S k,k.parent=v.id∧(k.vis=true→v.vis=true)→VOk S k (f S k)):∀(ks:List Vis) (S:List Int),(∀k∈ks,k.parent=v.id∧(k.vis=true→v.vis=true))→
 Chain v (walkL f S ks)∧(idsV9 (walkL f S ks)).Nodup∧∀k∈idsV9 (walkL f S ks),k∉S
 | [],S,_=>⟨Chain.nil v,by simp[walkL,idsV9],fun k hk=>by simp[walkL,idsV9] at hk⟩
 |k::ks,S,h=>by
  have hk:=h k List.mem_cons_self
  obtain⟨a1,a2,a3⟩:=hf S k hk
  obtain⟨b1,b2,b3⟩:=walkL_ok hf ks (S++idsV9 (f S k)) (fun x hx=>h x (List.mem_cons_of_mem _ hx))
  rw[walkL]
  refine⟨Chain.app ?_ b1,?_,fun x hx=> ?_⟩
  ·rcases a1 with a1| ⟨M,a1,a4⟩
   ·rw[a1];exact Chain.nil v
   ·rw[a1];exact a4.kid hk.1 hk.2
  ·rw[idsV9_app,List.nodup_append]
   exact⟨a2,b2,fun x hx y hy e=>b3 y hy (List.mem_append_right _ (e▸hx))⟩
  ·rw[idsV9_app] at hx
   rcases List.mem_append.1 hx with hx|hx
   ·exact a3 x hx
   ·exact fun q=>b3 x hx (List.mem_append_left _ q)
theorem walkV_ok(l:List Node):∀(n:Nat) (S:List Int) (v:Vis),VOk S v (walkV l n S v)
 |0,S,v=>⟨.inl rfl,by simp[walkV,idsV9],fun k hk=>by simp[walkV,idsV9] at hk⟩
 |n+1,S,v=>by
  rw[walkV]
  split
  ·exact⟨.inl rfl,by simp[idsV9],fun k hk=>by simp[idsV9] at hk⟩
  ·rename_i hv
   obtain⟨b1,b2,b3⟩:=walkL_ok (f:=walkV l n) (v:=v) (fun S k _=>walkV_ok l n S k) (kidsV l v) (S++[v.id]) (fun k hk=>kids_ok hk)
   refine⟨.inr ⟨_,rfl,b1⟩,?_,fun k hk=> ?_⟩
   ·show(v.id::idsV9 _).Nodup
    rw[List.nodup_cons]
    exact⟨fun q=>b3 _ q (List.mem_append_right _ (List.mem_singleton.2 rfl)),b2⟩
   ·rcases List.mem_cons.1 (show k∈v.id::idsV9 _ from hk) with rfl|hk
    ·exact hv
    ·exact fun q=>b3 k hk (List.mem_append_left _ q)
theorem tree_nd(d:Doc):((treeV d).map Vis.id).Nodup:=(walkV_ok d.nodes (d.nodes.length+1) [] root9).nd
theorem walkL_has{d:Doc}{f:List Int→Vis→List Vis}(hf:∀S v,hasN d.nodes v.id=true→∀w∈f S v,hasN d.nodes w.id=true):∀(ks:List Vis) (S:List Int),(∀k∈ks,hasN d.nodes k.id=true)→∀w∈walkL f S ks,hasN d.nodes w.id=true:=by
 intro ks
 induction ks with
 |nil=>intro S _ w hw;simp[walkL] at hw
 |cons k ks ih=>
  intro S hk w hw
  rw[walkL] at hw
  rcases List.mem_append.1 hw with hw|hw
  ·exact hf S k (hk k List.mem_cons_self) w hw
  ·exact ih _ (fun x hx=>hk x (List.mem_cons_of_mem _ hx)) w hw
theorem walkV_has{d:Doc}(hV:DocV d)(n:Nat):∀(S:List Int) (v:Vis),hasN d.nodes v.id=true→∀w∈walkV d.nodes n S v,hasN d.nodes w.id=true:=by
 induction n with
 |zero=>intro S v _ w hw;simp[walkV] at hw
 |succ n ih=>
  intro S v h w hw
  rw[walkV] at hw
  split at hw
  ·simp at hw
  rcases List.mem_cons.1 hw with rfl|hw
  ·exact h
  ·exact walkL_has ih _ _ (fun k hk=>kids_has hV h hk) w hw
theorem tree_has{d:Doc}(hV:DocV d){w:Vis}(hw:w∈treeV d):hasN d.nodes w.id=true:=walkV_has hV (d.nodes.length+1) [] root9 hV.one w hw
theorem tree_len{d:Doc}(hV:DocV d):(treeV d).length≤d.nodes.length:=by
 have h:=nodup_len d.nodes.length ((treeV d).map fun w=>lobN d.nodes w.id) (by
  have hn:=tree_nd d
  unfold List.Nodup at hn⊢
  rw[List.pairwise_map] at hn⊢
  refine hn.imp_of_mem (fun {a b} ha hb h e=>h ?_)
  rw[←(hasN_iff.1 (tree_has hV ha)).2,←(hasN_iff.1 (tree_has hV hb)).2,e]) (fun j hj=>by
  obtain⟨w,hw,rfl⟩:=List.mem_map.1 hj
  exact(hasN_iff.1 (tree_has hV hw)).1)
 simpa using h
end Go.Ch
end
section
set_option linter.unusedVariables false
set_option linter.unusedSimpArgs false
set_option maxRecDepth 100000
set_option maxHeartbeats 4000000
open Go Go.Proofs Go.Ab
namespace Go.Ch
end Go.Ch
end
section
set_option linter.unusedVariables false
namespace Go.Ch
open Go Go.Ab
end Go.Ch
end
section
set_option linter.unusedVariables false
set_option linter.unusedSimpArgs false
namespace Go.Ch
open Go Go.Ab
theorem mem_getDX{α:Type}[Inhabited α]{l:List α}{x:α}(h:x∈l):∃j,j<l.length∧l.getD j default=x:=by
 obtain⟨j,hj,e⟩:=List.mem_iff_getElem.1 h
 exact⟨j,hj,by rw[List.getD_eq_getElem?_getD,List.getElem?_eq_getElem hj];exact e⟩
theorem idxF_spec{α:Type}[Inhabited α](p:α→Bool){l:List α}:∀(n i:Nat),l.length-i=n→(idxF p l i= -1∧(∀j,i≤j→j<l.length→p (l.getD j default)=false))∨
 ∃k:Nat,idxF p l i=(k:Int)∧i≤k∧k<l.length∧p (l.getD k default)=true∧∀j,i≤j→j<k→p (l.getD j default)=false
 |0,i,h=>by rw[idxF,if_neg (by omega)];exact .inl ⟨rfl,fun j h1 h2=>by omega⟩
 |n+1,i,h=>by
  have hi:i<l.length:=by omega
  rw[idxF,if_pos hi]
  by_cases hp:p (l.getD i default)=true
  ·rw[if_pos hp];exact .inr ⟨i,rfl,Nat.le_refl _,hi,hp,fun j h1 h2=>by omega⟩
  ·rw[if_neg hp]
   rcases idxF_spec p (l:=l) n (i+1) (by omega) with⟨e,q⟩| ⟨k,e,k1,k2,k3,k4⟩
   ·refine .inl ⟨e,fun j h1 h2=> ?_⟩
    by_cases ej:i=j
    ·rw[←ej];simpa using hp
    ·exact q j (by omega) h2
   ·refine .inr ⟨k,e,by omega,k2,k3,fun j h1 h2=> ?_⟩
    by_cases ej:i=j
    ·rw[←ej];simpa using hp
    ·exact k4 j (by omega) h2
end Go.Ch
end
section
set_option linter.unusedVariables false
namespace Go.Ch
open Go Go.Ab
theorem nodup_sub:∀{l m:List Int},l.Nodup→(∀x∈l,x∈m)→l.length≤m.length
 | [],m,_,_=>Nat.zero_le _
 |a::l,m,hn,hs=>by
  rw[List.nodup_cons] at hn
  have ha:=hs a List.mem_cons_self
  have h1:=nodup_sub (l:=l) (m:=m.erase a) hn.2 (fun x hx=>(List.mem_erase_of_ne (fun e=>hn.1 (by rw[←e];exact hx))).2 (hs x (List.mem_cons_of_mem _ hx)))
  have h2:=List.length_erase_of_mem ha
  have h3:0<m.length:=List.length_pos_of_mem ha
  simp only[List.length_cons];omega
end Go.Ch
end
section
set_option linter.unusedVariables false
set_option linter.unusedSimpArgs false
namespace Go.Ch
open Go Go.Ab
structure Book where
 nodes:List Node
instance:Inhabited Book:=⟨⟨[]⟩⟩
def bookT(b:Book):Tree:= .agg [.lst 9 (b.nodes.map nodeT)]
abbrev kNm:ByteArray:={data:=#[110,97,109,101]}
abbrev kOf:ByteArray:={data:=#[111,102]}
abbrev kBs:ByteArray:={data:=#[98,97,115,101]}
abbrev kSt:ByteArray:={data:=#[115,116,121,108,101]}
abbrev kPa:ByteArray:={data:=#[112,97,114,97,103,114,97,112,104]}
abbrev kPp:ByteArray:={data:=#[112,46]}
abbrev ndV(d:Doc)(v:Vis):Node:=d.nodes.getD (lobN d.nodes v.id) default
def styO(d:Doc)(v:Vis):Option Node:=if(ndV d v).kind=11 then some (ndV d v) else none
def styL(d:Doc)(k:Nat):List Node:=((treeV d).take k).filterMap (styO d)
def stylesD(d:Doc):List Node:=styL d (treeV d).length
def idxN(l:List Node)(k:Int):Int:=if hasN l k=true then(lobN l k:Int) else-1
theorem styL_succ{d:Doc}{k:Nat}(h:k< (treeV d).length):styL d (k+1)=styL d k++(styO d ((treeV d).getD k default)).toList:=by
 unfold styL
 rw[takeD h,List.filterMap_append,List.filterMap_cons,List.filterMap_nil]
 cases styO d ((treeV d).getD k default)<;>rfl
theorem styL_len(d:Doc)(k:Nat):(styL d k).length≤k:=by
 unfold styL
 exact Nat.le_trans (List.length_filterMap_le _ _) (by rw[List.length_take];omega)
def pS(nm u:ByteArray)(n:Node):Bool:=!(seq nm {data:=#[]})&&seq (getA n.attrs kNm 0) nm&&seq (getA n.attrs kOf 0) u
def findS(l:List Node)(nm u:ByteArray):Option Node:=l.find? (pS nm u)
theorem drop_X{α:Type}[Inhabited α]{l:List α}{i:Nat}(h:i<l.length):l.drop i=l.getD i default::l.drop (i+1):=by
 rw[List.drop_eq_getElem_cons h];simp[List.getD,List.getElem?_eq_getElem h]
theorem findS_hit{l:List Node}{nm u:ByteArray}{i:Nat}(h:i<l.length)(hp:pS nm u (l.getD i default)=true):findS (l.drop i) nm u=some (l.getD i default):=by
 unfold findS;rw[drop_X h,List.find?_cons_of_pos hp]
theorem findS_next{l:List Node}{nm u:ByteArray}{i:Nat}(h:i<l.length)(hp:pS nm u (l.getD i default)=false):findS (l.drop i) nm u=findS (l.drop (i+1)) nm u:=by
 unfold findS;rw[drop_X h,List.find?_cons_of_neg (by rw[hp];decide)]
theorem findS_end{l:List Node}{nm u:ByteArray}{i:Nat}(h:l.length≤i):findS (l.drop i) nm u=none:=by
 unfold findS;rw[List.drop_eq_nil_of_le h];rfl
def chainS(l:List Node)(u:ByteArray):Nat→ByteArray→List Node→List Node
 |0,_,out=>out
 |k+1,nm,out=>match findS l nm u with
  |none=>out
  |some n=>if out.any (fun m=>m.id==n.id)=true then out else chainS l u k (getA n.attrs kBs 0) (out++[n])
structure ChI(l:List Node)(u nm0 nm:ByteArray)(out:List Node):Prop where
 eq:chainS l u (l.length+1) nm0 []=chainS l u (l.length+1-out.length) nm out
 nd:(out.map Node.id).Nodup
 sub:∀n∈out,n∈l
theorem ChI.len{l out:List Node}{u nm0 nm:ByteArray}(h:ChI l u nm0 nm out):out.length≤l.length:=by
 have:=nodup_sub (l:=out.map Node.id) (m:=l.map Node.id) h.nd (fun x hx=>by
  obtain⟨n,hn,rfl⟩:=List.mem_map.1 hx
  exact List.mem_map.2 ⟨n,h.sub n hn,rfl⟩)
 simpa using this
theorem ChI.start(l:List Node)(u nm:ByteArray):ChI l u nm nm []:=⟨rfl,List.nodup_nil,fun n h=>by cases h⟩
theorem any_id{out:List Node}{k:Int}:out.any (fun m=>m.id==k)=true↔k∈out.map Node.id:=by
 rw[List.any_eq_true,List.mem_map]
 constructor
 ·rintro⟨x,h1,h2⟩;exact⟨x,h1,by simpa using h2⟩
 ·rintro⟨x,h1,h2⟩;exact⟨x,h1,by simpa using h2⟩
theorem ChI.none{l out:List Node}{u nm0 nm:ByteArray}(h:ChI l u nm0 nm out)(hf:findS l nm u=none):chainS l u (l.length+1) nm0 []=out:=by
 have:=h.len
 rw[h.eq,show l.length+1-out.length=(l.length-out.length)+1 by omega,chainS,hf]
theorem ChI.stop{l out:List Node}{u nm0 nm:ByteArray}{n:Node}(h:ChI l u nm0 nm out)(hf:findS l nm u=some n)(ha:out.any (fun m=>m.id==n.id)=true):chainS l u (l.length+1) nm0 []=out:=by
 have:=h.len
 rw[h.eq,show l.length+1-out.length=(l.length-out.length)+1 by omega,chainS,hf]
 simp only
 rw[if_pos ha]
theorem findS_mem{l:List Node}{nm u:ByteArray}{n:Node}(h:findS l nm u=some n):n∈l:=List.mem_of_find?_eq_some h
theorem ChI.step{l out:List Node}{u nm0 nm:ByteArray}{n:Node}(h:ChI l u nm0 nm out)(hf:findS l nm u=some n)(ha:out.any (fun m=>m.id==n.id)=false):ChI l u nm0 (getA n.attrs kBs 0) (out++[n]):=by
 have hl:=h.len
 refine⟨?_,?_,fun m hm=> ?_⟩
 ·rw[h.eq,show l.length+1-out.length=(l.length-out.length)+1 by omega,chainS,hf]
  simp only
  rw[if_neg (by rw[ha];decide),List.length_append]
  congr 1
  simp only[List.length_cons,List.length_nil];omega
 ·rw[List.map_append,List.nodup_append]
  refine⟨h.nd,by simp,fun a hA b hB=> ?_⟩
  simp only[List.map_cons,List.map_nil,List.mem_singleton] at hB
  subst hB
  intro e;subst e
  rw[←any_id,ha] at hA;cases hA
 ·rcases List.mem_append.1 hm with q|q
  ·exact h.sub m q
  ·rw[List.mem_singleton.1 q];exact findS_mem hf
theorem chainS_mem{l:List Node}{u:ByteArray}:∀(k:Nat) (nm:ByteArray) (out:List Node),(∀n∈out,n∈l)→∀n∈chainS l u k nm out,n∈l
 |0,_,out,h=>h
 |k+1,nm,out,h=>by
  rw[chainS]
  split
  ·exact h
  ·rename_i n hf
   split
   ·exact h
   ·refine chainS_mem k _ _ (fun m hm=> ?_)
    rcases List.mem_append.1 hm with q|q
    ·exact h m q
    ·rw[List.mem_singleton.1 q];exact findS_mem hf
def chnS(l:List Node)(nm u:ByteArray):List Node:=chainS l u (l.length+1) nm []
theorem chnS_mem{l:List Node}{nm u:ByteArray}:∀n∈chnS l nm u,n∈l:=chainS_mem _ _ _ (fun _ h=>by cases h)
theorem idx_any{α:Type}[Inhabited α](p:α→Bool){l:List α}:l.any p=decide (idxF p l 0≥0):=by
 rcases idxF_spec p (l:=l) _ 0 rfl with⟨a,b⟩| ⟨k,hk,k1,k2,k3,k4⟩
 ·rw[a,Bool.eq_iff_iff,List.any_eq_true]
  constructor
  ·rintro⟨x,h1,h2⟩
   obtain⟨j,j1,j2⟩:=mem_getDX h1
   rw[←j2,b j (Nat.zero_le _) j1] at h2;cases h2
  ·intro h;simp at h
 ·rw[hk,decide_eq_true (by omega),List.any_eq_true]
  exact⟨_,getDX_mem k2,k3⟩
def pcut(a:Attr):Option Attr:=if 2<a.name.size∧seq (a.name.extract 0 2) kPp=true∧nameGo (a.name.extract 2 a.name.size)=true then some ⟨a.name.extract 2 a.name.size,a.val⟩ else none
def pcutL(l:List Attr):List Attr:=l.filterMap pcut
def givK(l:List Node)(k:Nat):List Attr:=(l.reverse.take k).foldl (fun out n=>fm rawG out (pcutL n.attrs)) []
def givS(l:List Node)(nm u:ByteArray):List Attr:=givK (chnS l nm u) (chnS l nm u).length
theorem rev_at{l:List Node}{k:Nat}(h:k<l.length):l.reverse.getD k default=l.getD (l.length- 1-k) default:=by
 simp only[List.getD_eq_getElem?_getD]
 rw[List.getElem?_reverse h]
theorem givK_succ{l:List Node}{k:Nat}(h:k<l.length):givK l (k+1)=fm rawG (givK l k) (pcutL (l.getD (l.length- 1-k) default).attrs):=by
 unfold givK
 rw[takeD (by simpa using h),List.foldl_append,rev_at h];rfl
theorem pcutL_len(l:List Attr):(pcutL l).length≤l.length:=List.length_filterMap_le _ _
theorem pcut_succ{l:List Attr}{i:Nat}(h:i<l.length):pcutL (l.take (i+1))=pcutL (l.take i)++(pcut (l.getD i default)).toList:=by
 unfold pcutL
 rw[takeD h,List.filterMap_append,List.filterMap_cons,List.filterMap_nil]
 cases pcut (l.getD i default)<;>rfl
def attN(l:List Node):Nat:=(l.map fun n=>n.attrs.length).sum
theorem attN_app(a b:List Node):attN (a++b)=attN a+attN b:=by unfold attN;rw[List.map_append,List.sum_append]
theorem attN_cons(x:Node)(l:List Node):attN (x::l)=x.attrs.length+attN l:=rfl
theorem attN_part(p:Node→Bool):∀(l:List Node),attN l=attN (l.filter p)+attN (l.filter fun n=> !p n)
 | []=>rfl
 |x::l=>by
  have:=attN_part p l
  rw[List.filter_cons,List.filter_cons,attN_cons]
  cases h:p x<;>simp[attN_cons]<;>omega
theorem attN_mem:∀{l:List Node} {x:Node},x∈l→x.attrs.length≤attN l
 |y::l,x,h=>by
  rw[attN_cons]
  rcases List.mem_cons.1 h with rfl|h
  ·omega
  ·have:=attN_mem h;omega
theorem attN_sub:∀(c l:List Node),(c.map Node.id).Nodup→(∀n∈c,n∈l)→attN c≤attN l
 | [],l,_,_=>Nat.zero_le _
 |x::c,l,hn,hs=>by
  rw[List.map_cons,List.nodup_cons] at hn
  have h1:=attN_part (fun n=>n.id==x.id) l
  have h2:x.attrs.length≤attN (l.filter fun n=>n.id==x.id):=attN_mem (List.mem_filter.2 ⟨hs x List.mem_cons_self,by simp⟩)
  have h3:=attN_sub c (l.filter fun n=> !(n.id==x.id)) hn.2 (fun n hn'=>List.mem_filter.2 ⟨hs n (List.mem_cons_of_mem _ hn'),by
   rw[Bool.not_eq_true',beq_eq_false_iff_ne]
   intro e
   exact hn.1 (List.mem_map.2 ⟨n,hn',e⟩)⟩)
  rw[attN_cons];omega
theorem attN_take(l:List Node)(k:Nat):attN (l.take k)≤attN l:=by
 have:=attN_app (l.take k) (l.drop k)
 rw[List.take_append_drop] at this;omega
theorem attN_rev(l:List Node):attN l.reverse=attN l:=by
 induction l with
 |nil=>rfl
 |cons x l ih=>rw[List.reverse_cons,attN_app,ih,attN_cons,attN_cons];show _+(_+0)=_;omega
theorem givK_len(l:List Node):∀(k:Nat),k≤l.length→(givK l k).length≤attN (l.reverse.take k)
 |0,_=>by simp[givK]
 |k+1,hk=>by
  rw[givK_succ (by omega),takeD (by simp;omega),attN_app,rev_at (by omega),attN_cons]
  have h1:=fm_len rawG (givK l k) (pcutL (l.getD (l.length- 1-k) default).attrs)
  have h2:=givK_len l k (by omega)
  have h3:=pcutL_len (l.getD (l.length- 1-k) default).attrs
  omega
theorem givK_le(l:List Node)(k:Nat)(h:k≤l.length):(givK l k).length≤attN l:=by
 have h1:=givK_len l k h
 have h2:=attN_take l.reverse k
 rw[attN_rev] at h2;omega
theorem chainS_nd{l:List Node}{u:ByteArray}:∀(k:Nat) (nm:ByteArray) (out:List Node),(out.map Node.id).Nodup→((chainS l u k nm out).map Node.id).Nodup
 |0,_,out,h=>h
 |k+1,nm,out,h=>by
  rw[chainS]
  split
  ·exact h
  ·rename_i n hf
   split
   ·exact h
   ·rename_i ha
    refine chainS_nd k _ _ ?_
    rw[List.map_append,List.nodup_append]
    refine⟨h,by simp,fun a hA b hB=> ?_⟩
    simp only[List.map_cons,List.map_nil,List.mem_singleton] at hB
    subst hB
    intro e;subst e
    exact ha (any_id.2 hA)
theorem chnS_att(l:List Node)(nm u:ByteArray):attN (chnS l nm u)≤attN l:=attN_sub _ _ (chainS_nd _ _ _ List.nodup_nil) chnS_mem
theorem chnS_len(l:List Node)(nm u:ByteArray):(chnS l nm u).length≤l.length:=by
 have:=nodup_sub (l:=(chnS l nm u).map Node.id) (m:=l.map Node.id) (chainS_nd _ _ _ List.nodup_nil) (fun x hx=>by
  obtain⟨n,hn,rfl⟩:=List.mem_map.1 hx
  exact List.mem_map.2 ⟨n,chnS_mem n hn,rfl⟩)
 simpa using this
theorem givS_len(l:List Node)(nm u:ByteArray):(givS l nm u).length≤attN l:=Nat.le_trans (givK_le _ _ (Nat.le_refl _)) (chnS_att _ _ _)
def dnL(n:Nat):List Nat:=(List.range n).reverse
theorem dn_len(n:Nat):(dnL n).length=n:=by simp[dnL]
theorem dn_at{n k:Nat}(h:k<n):(dnL n).getD k default=n- 1-k:=by
 unfold dnL
 rw[List.getD_eq_getElem?_getD,List.getElem?_reverse (by simpa using h),List.length_range,List.getElem?_range (by omega)];rfl
theorem dn_take{n m:Nat}(h:m<n):(dnL n).take (n-m)=(dnL n).take (n- 1-m)++[m]:=by
 rw[show n-m=(n- 1-m)+1 by omega,takeD (by rw[dn_len];omega),dn_at (by omega),show n- 1- (n- 1-m)=m by omega]
def bwE(l:List V9)(i:Nat):List Tree:=[TI (i:Int),v9T (l.getD i default)]
def woS(l:List Attr):List Attr:=fm rawG l [⟨kSt,mt⟩]
def endSt(l:List Node)(e:List Attr):List Attr:=fm rawG (woS (givS l (getA e kSt 0) kPa)) (woS e)
variable {l:List Node} {x e:List Attr}
theorem wo_len(l:List Attr):(woS l).length≤l.length+1:=fm_len _ _ _
end Go.Ch
end
section
set_option linter.unusedVariables false
set_option linter.unusedSimpArgs false
set_option maxRecDepth 100000
set_option maxHeartbeats 4000000
open Go Go.Proofs Go.Ab
namespace Go.Ch
theorem fc_index(d:Doc)(k:Int)(hl:d.nodes.length≤1048576)(hs:SortN d.nodes):FC Tryz.prog 94 [.t (docT d),VI k] (app emp []) (VI (idxN d.nodes k)) (app emp []):=by
 refine .go Tryz.f94 ?_
 refine .bp [.r [],.r [(2,X (Xc0 (fc_findN d k (by assumption) (by assumption)) X0))],.r []] (hasN (d).nodes k) (fun h2=> ?_) (fun h2=> ?_)
 ·
  have e1:((idxN d.nodes k):Int)=(lobN (d).nodes k:Int):=by
   unfold idxN;first|rw[if_pos (by assumption)]|rw[if_neg (by simp_all)]
  exact .finE [.r []] [] (fun z0:Int=>(VI z0,[])) _ _ e1
 ·
  have e2:((idxN d.nodes k):Int)= -1:=by
   unfold idxN;first|rw[if_pos (by assumption)]|rw[if_neg (by simp_all)]
  exact .finE [.r []] [] (fun z0:Int=>(VI z0,[])) _ _ e2
theorem fc_indexY(d:Doc)(k:Int)(hl:d.nodes.length≤1048576)(hs:SortN d.nodes)(h:hasN d.nodes k=true):FC Tryz.prog 94 [.t (docT d),VI k] (app emp []) (VI (lobN d.nodes k:Int)) (app emp []):=by
 have:=fc_index d k hl hs
 unfold idxN at this
 rw[if_pos h] at this
 exact this
theorem fc_open(d:Doc)(hV:DocV d):FC Tryz.prog 51 [.t (docT d)] (app emp []) (.t (bookT ({nodes:=stylesD d}:Book))) (app emp []):=by
 refine .go Tryz.f51 ?_
 have hb:=hV.b
 have hbl:=hb.len
 have hs:=hV.srt
 have hn:=tree_len hV
 refine .rng [.r [],.r [],.r [(1,X (Xc1 32 (fc_tree d (by assumption)) X0))],.le (.nB 16 0 9)] encP default (treeV d) (fun k=>[(0,.box [VL 9 nodeT d.nodes]),(8,.box [VN]),(16,.box [.row 40 ((styL d k).length)]),(40,OR 9 nodeT (styL d k))]) [(32,.box [VL 9 nodeT ((d).nodes)])] (fun _=>none) ((treeV d).length) 999 41 [(1,.ptr 0 0),(2,.ptr 8 0),(3,.ptr 16 0),(7,.fn 37 [.ptr 32 0])] [1,2,3] (fun k=>([(1,.ptr 0 0),(3,.ptr 16 0),(4,VI (((treeV d).getD k default).id))],[(0,.box [VL 9 nodeT d.nodes]),(8,.box [VN]),(16,.box [.row 40 ((styL d k).length)]),(40,OR 9 nodeT (styL d k))])) 49 (iter_of (d:=d) (gf:=37) (caps:=[.ptr 32 0]) (C:=[(32,.box [VL 9 nodeT d.nodes])]) (e:=999) (res:= .tup []) (J:=(fun _=>none)) (m:=(treeV d).length) (Nat.le_refl _) (fun _ _ _=>rfl) (.inl rfl) rfl (fun Y hY ha=>(fc_treeB d Y hY hV [] ha).ren [(0,999),(1,32)] [(0,999),(1,32)] (by kernel_rfl) (by kernel_rfl) (by kernel_rfl) (by kernel_rfl) (by kernel_rfl) (by kernel_rfl))) (fun k hk hj=>⟨by kernel_rfl,?_,?_⟩) .normal ?_ (fun _=>by kernel_rfl)
 ·
  exact .rass [.r []] [(0,0),(8,8),(16,16),(40,40)]
 ·
  have hkl:=styL_len d k
  have hht:=tree_has hV (getDX_mem (l:=treeV d) (i:=k) hk)
  obtain⟨hlt,hid⟩:=hasN_iff.1 hht
  refine .bp [.r [(4,X (Xc0 (fc_indexY d (((treeV d).getD k default).id) (by assumption) (by assumption) (by assumption)) X0)),(5,X (Xi nodeT d.nodes (lobN (d).nodes (((treeV d).getD k default).id):Int)))],.r []] ((((d.nodes.getD (lobN (d).nodes (((treeV d).getD k default).id)) default)).kind)==11) (fun h5=> ?_) (fun h5=> ?_)
  ·
   exact .rend [.r [(4,X (rowC nodeT [((d.nodes.getD (lobN (d).nodes (((treeV d).getD k default).id)) default))] (XapB 9 nodeT 40 (styL d k) [((d.nodes.getD (lobN (d).nodes (((treeV d).getD k default).id)) default))])))]] [(0,0),(8,8),(16,16),(40,40)] .normal [(0,.box [VL 9 nodeT d.nodes]),(8,.box [VN]),(16,.box [.row 40 (((styL d k)++[((d.nodes.getD (lobN (d).nodes (((treeV d).getD k default).id)) default))]).length)]),(40,OR 9 nodeT ((styL d k)++[((d.nodes.getD (lobN (d).nodes (((treeV d).getD k default).id)) default))]))] rfl (by rw[styL_succ hk];unfold styO ndV;first| (rw[if_pos (by omega)];rfl)| (rw[if_neg (by omega)];simp))
  ·
   exact .rend [] [(0,0),(8,8),(16,16),(40,40)] .normal [(0,.box [VL 9 nodeT d.nodes]),(8,.box [VN]),(16,.box [.row 40 ((styL d k).length)]),(40,OR 9 nodeT (styL d k))] rfl (by rw[styL_succ hk];unfold styO ndV;first| (rw[if_pos (by omega)];rfl)| (rw[if_neg (by omega)];simp))
 have e1:(({nodes:=stylesD d}:Book):Book)=({nodes:=(styL d ((treeV d).length))}:Book):=by
  rfl
 exact .finVE [.r []] [.fR 0 [(((styL d ((treeV d).length)).length):Nat)=(List.map nodeT (styL d ((treeV d).length))).length] ⟨lm,trivial⟩] [] (fun z0:Book=>(.t (bookT z0),[])) _ _ e1
theorem fc_findB(b:Book)(nm u:ByteArray)(hl:b.nodes.length≤1048576):FC Tryz.prog 160 [.t (bookT b),VS nm,VS u] (app emp []) (.tup [.t (nodeT ((findS b.nodes nm u).getD default)),VB ((findS b.nodes nm u).isSome)]) (app emp []):=by
 refine .go Tryz.f160 ?_
 refine .loop (α:=Nat) [.r [],.r [(2,X (Xl nodeT b.nodes))]] 56 (fun i=>([(1,VS nm),(2,VS u),(6,.ptr 8 0),(11,VL 9 nodeT b.nodes),(12,VI (b.nodes.length:Int)),(13,VI (i:Int))],[(8,.box [VI 0,VI 0,VN,VN,VI 0,VI 0,VN,VN,VN])])) (fun i=>i≤b.nodes.length∧findS b.nodes nm u=findS (b.nodes.drop i) nm u) (fun i=>b.nodes.length-i) (0:Nat) ?_ ?_
 ·
  exact⟨by omega,rfl⟩
 rintro i I2 ih2
 try dsimp only at I2
 refine .bp [.r []] (decide ((i:Int)< (b.nodes.length:Int))) (fun h2=> ?_) (fun h2=> ?_)
 ·
  refine .bp [.r [(0,X (Xi nodeT b.nodes (i:Int)))],.r [(4,Xv 1 (!(seq nm ({data:=#[]}))) X0),(5,Xv 1 (!(seq nm ({data:=#[]}))) (Xc0 (fc_get (((b.nodes.getD i default)).attrs) ({data:=#[110,97,109,101]})) X0)),(7,Xv 2 (!(seq nm ({data:=#[]}))) X0),(8,X (Xk (!(seq nm ({data:=#[]}))))),(11,Xv 1 (!(seq nm ({data:=#[]}))&&seq (getA (((b.nodes.getD i default)).attrs) ({data:=#[110,97,109,101]}) 0) nm) X0),(12,Xv 1 (!(seq nm ({data:=#[]}))&&seq (getA (((b.nodes.getD i default)).attrs) ({data:=#[110,97,109,101]}) 0) nm) (Xc0 (fc_get (((b.nodes.getD i default)).attrs) ({data:=#[111,102]})) X0)),(14,Xv 2 (!(seq nm ({data:=#[]}))&&seq (getA (((b.nodes.getD i default)).attrs) ({data:=#[110,97,109,101]}) 0) nm) X0),(15,X (Xk (!(seq nm ({data:=#[]}))&&seq (getA (((b.nodes.getD i default)).attrs) ({data:=#[110,97,109,101]}) 0) nm)))]] ((!(seq nm ({data:=#[]}))&&seq (getA (((b.nodes.getD i default)).attrs) ({data:=#[110,97,109,101]}) 0) nm)&&seq (getA (((b.nodes.getD i default)).attrs) ({data:=#[111,102]}) 0) u) (fun h4=> ?_) (fun h4=> ?_)
  ·
   have e1:(((findS b.nodes nm u).getD default):Node)=((b.nodes.getD i default)):=by
    first| (rw[I2.2,findS_hit (by omega) (by unfold pS;rw[h4.1.1,h4.1.2,h4.2];rfl)];rfl)| (rw[I2.2,findS_end (by omega)];rfl)
   have e2:(((findS b.nodes nm u).isSome):Bool)=true:=by
    first| (rw[I2.2,findS_hit (by omega) (by unfold pS;rw[h4.1.1,h4.1.2,h4.2];rfl)];rfl)| (rw[I2.2,findS_end (by omega)];rfl)
   exact .finVE [.r []] [] [] (fun((z0,z1):Node×Bool)=>(.tup [.t (nodeT z0),VB z1],[])) _ _ (pr e1 e2)
  ·
   refine .back [.r [(0,X (Xn ((i:Int)+1)))]] [(8,8)] (ih2 ((i+1):Nat) ?_ ?_)
   ·
    refine⟨by omega,I2.2.trans (findS_next (by omega) ?_)⟩
    unfold pS;rcases h4 with(q|q)|q<;>rw[q]<;>simp
   ·
    ((try dsimp only);omega)
 ·
  have e3:(((findS b.nodes nm u).getD default):Node)=({id:=0,kind:=0,attrs:=[],flow:=[],grid:=({rows:=0,cols:=0,cells:=[],merges:=[]}:Grid),draw:=[]}:Node):=by
   first| (rw[I2.2,findS_hit (by omega) (by unfold pS;rw[h4.1.1,h4.1.2,h4.2];rfl)];rfl)| (rw[I2.2,findS_end (by omega)];rfl)
  have e4:(((findS b.nodes nm u).isSome):Bool)=false:=by
   first| (rw[I2.2,findS_hit (by omega) (by unfold pS;rw[h4.1.1,h4.1.2,h4.2];rfl)];rfl)| (rw[I2.2,findS_end (by omega)];rfl)
  exact .finVE [.r [(0,X (Xf [(2,2),(3,3),(6,5),(7,4),(8,8)]))]] [] [] (fun((z0,z1):Node×Bool)=>(.tup [.t (nodeT z0),VB z1],[])) _ _ (pr e3 e4)
end Go.Ch
end
section
set_option linter.unusedVariables false
set_option linter.unusedSimpArgs false
set_option maxRecDepth 100000
set_option maxHeartbeats 4000000
open Go Go.Proofs Go.Ab
namespace Go.Ch
theorem fc_chC(m n:Node):FC Tryz.prog 162 [.t (nodeT m),.ptr 0 0] (app emp [(0,.box [VI n.id,VI n.kind,VL 2 attrT n.attrs,VL 3 elemT n.flow,VI n.grid.rows,VI n.grid.cols,VL 5 cellT n.grid.cells,VL 4 rectT n.grid.merges,VL 8 dopT n.draw])]) (VB (m.id==n.id)) (app emp [(0,.box [VI n.id,VI n.kind,VL 2 attrT n.attrs,VL 3 elemT n.flow,VI n.grid.rows,VI n.grid.cols,VL 5 cellT n.grid.cells,VL 4 rectT n.grid.merges,VL 8 dopT n.draw])]):=by
 refine .go Tryz.f162 ?_
 exact .fin [.r [],.r []] [(0,0)]
theorem fc_idxC(l:List Node)(n:Node)(hn:l.length≤100000000000):FC Tryz.prog 80 [.row 0 l.length,.fn 162 [.ptr 1 0]] (app emp [(0,OR 9 nodeT l),(1,.box [VI n.id,VI n.kind,VL 2 attrT n.attrs,VL 3 elemT n.flow,VI n.grid.rows,VI n.grid.cols,VL 5 cellT n.grid.cells,VL 4 rectT n.grid.merges,VL 8 dopT n.draw])]) (VI (idxF (fun m:Node=>m.id==n.id) l 0)) (app emp [(0,OR 9 nodeT l),(1,.box [VI n.id,VI n.kind,VL 2 attrT n.attrs,VL 3 elemT n.flow,VI n.grid.rows,VI n.grid.cols,VL 5 cellT n.grid.cells,VL 4 rectT n.grid.merges,VL 8 dopT n.draw])]):=by
 refine .go Tryz.f80 ?_
 refine .loop (α:=Nat) [.r [],.r []] 34 (fun i=>([(0,.row 0 l.length),(1,.fn 162 [.ptr 1 0]),(7,VI (l.length:Int)),(8,VI (i:Int))],[(0,OR 9 nodeT l),(1,.box [VI n.id,VI n.kind,VL 2 attrT n.attrs,VL 3 elemT n.flow,VI n.grid.rows,VI n.grid.cols,VL 5 cellT n.grid.cells,VL 4 rectT n.grid.merges,VL 8 dopT n.draw])])) (fun i=>i≤l.length∧idxF (fun m:Node=>m.id==n.id) l 0=idxF (fun m:Node=>m.id==n.id) l i) (fun i=>l.length-i) (0:Nat) ?_ ?_
 ·
  exact⟨by omega,rfl⟩
 rintro i I2 ih2
 try dsimp only at I2
 refine .bp [.r []] (decide ((i:Int)< (l.length:Int))) (fun h2=> ?_) (fun h2=> ?_)
 ·
  refine .bp [.r [],.r [(3,X (Xp nodeT l (i:Int))),(4,X (Xe nodeT l i)),(5,X (Xc4 [(0,1)] (fc_chC ((l.getD i default)) ({id:=n.id,kind:=n.kind,attrs:=n.attrs,flow:=n.flow,grid:=({rows:=n.grid.rows,cols:=n.grid.cols,cells:=n.grid.cells,merges:=n.grid.merges}:Grid),draw:=n.draw}:Node)) X0))]] ((((l.getD i default))).id==n.id) (fun h4=> ?_) (fun h4=> ?_)
  ·
   have e1:((idxF (fun m:Node=>m.id==n.id) l 0):Int)=(i:Int):=by
    rw[I2.2,idxF,if_pos (by omega),if_pos (by simpa using h4)]
   exact .finE [.r []] [(0,0),(1,1)] (fun z0:Int=>(VI z0,[(0,OR 9 nodeT l),(1,.box [VI n.id,VI n.kind,VL 2 attrT n.attrs,VL 3 elemT n.flow,VI n.grid.rows,VI n.grid.cols,VL 5 cellT n.grid.cells,VL 4 rectT n.grid.merges,VL 8 dopT n.draw])])) _ _ e1
  ·
   refine .back [.r [(0,X (Xn ((i:Int)+1)))]] [(0,0),(1,1)] (ih2 ((i+1):Nat) ?_ ?_)
   ·
    refine⟨by omega,?_⟩
    rw[I2.2,idxF,if_pos (by omega),if_neg (by simpa using h4)]
   ·
    ((try dsimp only);omega)
 ·
  have e2:((idxF (fun m:Node=>m.id==n.id) l 0):Int)= -1:=by
   rw[I2.2,idxF,if_neg (by omega)]
  exact .finE [.r []] [(0,0),(1,1)] (fun z0:Int=>(VI z0,[(0,OR 9 nodeT l),(1,.box [VI n.id,VI n.kind,VL 2 attrT n.attrs,VL 3 elemT n.flow,VI n.grid.rows,VI n.grid.cols,VL 5 cellT n.grid.cells,VL 4 rectT n.grid.merges,VL 8 dopT n.draw])])) _ _ e2
theorem fc_ctF(l:List Node)(n:Node)(hn:l.length≤100000000000):FC Tryz.prog 161 [.row 0 l.length,.fn 162 [.ptr 1 0]] (app emp [(0,OR 9 nodeT l),(1,.box [VI n.id,VI n.kind,VL 2 attrT n.attrs,VL 3 elemT n.flow,VI n.grid.rows,VI n.grid.cols,VL 5 cellT n.grid.cells,VL 4 rectT n.grid.merges,VL 8 dopT n.draw])]) (VB (l.any (fun m:Node=>m.id==n.id))) (app emp [(0,OR 9 nodeT l),(1,.box [VI n.id,VI n.kind,VL 2 attrT n.attrs,VL 3 elemT n.flow,VI n.grid.rows,VI n.grid.cols,VL 5 cellT n.grid.cells,VL 4 rectT n.grid.merges,VL 8 dopT n.draw])]):=by
 refine .go Tryz.f161 ?_
 have e1:((l.any (fun m:Node=>m.id==n.id)):Bool)=decide ((idxF (fun m:Node=>m.id==n.id) l 0)≥0):=by
  exact idx_any _
 exact .finE [.r [],.r [(2,X (Xc4 [(0,0),(1,1)] (fc_idxC l ({id:=n.id,kind:=n.kind,attrs:=n.attrs,flow:=n.flow,grid:=({rows:=n.grid.rows,cols:=n.grid.cols,cells:=n.grid.cells,merges:=n.grid.merges}:Grid),draw:=n.draw}:Node) (by omega)) X0))]] [(0,0),(1,1)] (fun z0:Bool=>(VB z0,[(0,OR 9 nodeT l),(1,.box [VI n.id,VI n.kind,VL 2 attrT n.attrs,VL 3 elemT n.flow,VI n.grid.rows,VI n.grid.cols,VL 5 cellT n.grid.cells,VL 4 rectT n.grid.merges,VL 8 dopT n.draw])])) _ _ e1
theorem fc_chain(b:Book)(nm u:ByteArray)(hl:b.nodes.length≤1048576):FC Tryz.prog 131 [.t (bookT b),VS nm,VS u] (app emp []) (VL 9 nodeT (chnS b.nodes nm u)) (app emp []):=by
 refine .go Tryz.f131 ?_
 refine .loop (α:=ByteArray×(List Node)) [.r [],.r [],.le (.nR 7 9)] 25 (fun(q,o)=>([(1,VS q),(2,VS u),(3,.ptr 0 0),(7,.row 24 o.length)],[(0,.box [VL 9 nodeT b.nodes]),(24,OR 9 nodeT o)])) (fun(q,o)=>ChI b.nodes u nm q o) (fun(q,o)=>b.nodes.length+1-o.length) (nm,[]) ?_ ?_
 ·
  exact ChI.start _ _ _
 rintro⟨q,o⟩ I2 ih2
 try dsimp only at I2
 have ol:=I2.len
 refine .bp [.r [(3,X (Xc1 49 (fc_findB b q u (by assumption)) X0))],.r [(5,Xv 2 (!(!((findS (b).nodes q u).isSome))) (Xc4 [(0,24),(1,81)] (fc_ctF o ({id:=((((findS (b).nodes q u).getD default)).id),kind:=((((findS (b).nodes q u).getD default)).kind),attrs:=((((findS (b).nodes q u).getD default)).attrs),flow:=((((findS (b).nodes q u).getD default)).flow),grid:=({rows:=(((((findS (b).nodes q u).getD default)).grid).rows),cols:=(((((findS (b).nodes q u).getD default)).grid).cols),cells:=(((((findS (b).nodes q u).getD default)).grid).cells),merges:=(((((findS (b).nodes q u).getD default)).grid).merges)}:Grid),draw:=((((findS (b).nodes q u).getD default)).draw)}:Node) (by omega)) X0)),(6,X (Xk' (!((findS (b).nodes q u).isSome))))]] (!((findS (b).nodes q u).isSome)|| ((o).any (fun m:Node=>m.id==((((findS (b).nodes q u).getD default)).id)))) (fun h3=> ?_) (fun h3=> ?_)
 ·
  have e1:((chnS b.nodes nm u):List Node)=o:=by
   rcases hf:(findS b.nodes q u) with _|n
   ·exact I2.none hf
   ·rw[hf] at h3
    exact I2.stop hf (by simpa using h3)
  exact .finE [.r [],.le (.fr 6 [(o.length:Nat)=(List.map nodeT o).length] ⟨lm,trivial⟩)] [] (fun z0:List Node=>(VL 9 nodeT z0,[])) _ _ e1
 ·
  refine .back [.r [(3,X (rowC nodeT [(((findS (b).nodes q u).getD default))] (XapB 9 nodeT 24 o [(((findS (b).nodes q u).getD default))])))],.r [(2,X (Xc0 (fc_get ((((findS (b).nodes q u).getD default)).attrs) ({data:=#[98,97,115,101]})) X0))]] [(0,0),(24,24)] (ih2 ((getA ((((findS (b).nodes q u).getD default)).attrs) ({data:=#[98,97,115,101]}) 0),(o++[(((findS (b).nodes q u).getD default))])) ?_ ?_)
  ·
   rcases hf:(findS b.nodes q u) with _|n
   ·rw[hf] at h3;simp at h3
   ·rw[hf] at h3
    exact I2.step hf (by simpa using h3)
  ·
   simp only[List.length_append,List.length_cons,List.length_nil];omega
end Go.Ch
end
