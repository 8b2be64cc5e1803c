/- How a function's text is gone through: rules for its forms, weakening, contracts. -/
import Derived.Test.YtojjoigepejggaaGreatDoorM1
import Derived.Test.YtojjoigepejggaaGreatDoorM2
import Derived.Test.YtojjoigepejggaaGreatDoorM3
import Derived.ChangeArms
import Derived.ChangeOld
import Derived.WideShapes
import Derived.DataReads
import Derived.DataElems
import Derived.Below
import Derived.RangeFuncRecord
import Derived.RangeFuncLeaves
import Derived.KernelRfl
section
set_option linter.unusedVariables false
namespace Go.Ab
variable {P:Program} {w:World} {F:Fen P} {S st:Store} {m:Place}
def lk:List (Nat×Nat)→Nat→Option Nat
 | [],_=>none
 | (i,j)::l,x=>bif Nat.beq i x then some j else lk l x
mutual
def renV (τ : List (Nat × Nat)) : AVal → Option AVal
  | .t T => some (.t T)
  | .row id n => (lk τ id).map (.row · n)
  | .ptr id off => (lk τ id).map (.ptr · off)
  | .eptr id n i sub => (lk τ id).map (.eptr · n i sub)
  | .cptr cs => some (.cptr cs)
  | .agg cs => (renL τ cs).map .agg
  | .fn f cap => (renL τ cap).map (.fn f)
  | .tup vs => (renL τ vs).map .tup
  | .cond c v => (renV τ v).map (.cond c)
  | .mat id => (lk τ id).map .mat
  | .mptr id i => (lk τ id).map (.mptr · i)
  | .anyB => some .anyB
  | .ifc => some .ifc
  | .tail id n i => (lk τ id).map (.tail · n i)
  | .hdl id => (lk τ id).map .hdl
  | .xl k xs => some (.xl k xs)
  | .yl id => (lk τ id).map .yl
  | .bsl id n => (lk τ id).map (.bsl · n)
  | .junk => some .junk
def renL(τ:List (Nat×Nat)):List AVal→Option (List AVal)
 | []=>some []
 |v::l=>match renV τ v,renL τ l with
  |some v',some l'=>some (v'::l')
  |_,_=>none
end
def renO(τ:List (Nat×Nat)):Ob→Option Ob
 | .box cs=>(renL τ cs).map .box
 | .row k fz xs=>some (.row k fz xs)
 | .mat fz xs none=>some (.mat fz xs none)
 | .mat fz xs (some (i,r,n))=>(lk τ r).map fun j=> .mat fz xs (some (i,j,n))
 | .gone=>some .gone
 | .siter s pos=>some (.siter s pos)
 | .mp es none=>some (.mp es none)
 | .mp es (some (k,v))=>(renV τ v).map fun v'=> .mp es (some (k,v'))
 | .miter mid n seen=>(lk τ mid).map fun j=> .miter j n seen
 | .ext Y pre=>some (.ext Y pre)
theorem renO_mp{τ:List (Nat×Nat)}{es:List (Int×MV)}{h:Option (Int×AVal)}{o':Ob}(ho:renO τ (.mp es h)=some o'):∃h',o'= .mp es h':=by
 cases h with
 |none=>simp only[renO,Option.some.injEq] at ho;exact⟨none,ho.symm⟩
 |some q=>
  obtain⟨k,v⟩:=q
  simp only[renO,Option.map_eq_some_iff] at ho
  obtain⟨v',_,rfl⟩:=ho
  exact⟨_,rfl⟩
theorem renO_hdl{τ:List (Nat×Nat)}{o o':Ob}{b:Nat}{u:Value}(ho:renO τ o=some o')(hu:hdlVal o b=some u):hdlVal o' b=some u:=by
 cases o with
 |siter s pos=>simp only[renO,Option.some.injEq] at ho;subst ho;exact hu
 |mp es h=>obtain⟨h',rfl⟩:=renO_mp ho;exact hu
 |miter mid n s=>simp only[renO,Option.map_eq_some_iff] at ho;obtain⟨j,_,rfl⟩:=ho;exact hu
 |_=>simp[hdlVal] at hu
theorem renO_mat{τ:List (Nat×Nat)}{fz:Bool}{xs:List Tree}{hh:Option (Nat×Nat×Nat)}{o':Ob}(h:renO τ (.mat fz xs hh)=some o'):∃hh',o'= .mat fz xs hh':=by
 cases hh with
 |none=>simp only[renO,Option.some.injEq] at h;exact⟨none,h.symm⟩
 |some q=>
  obtain⟨i,r,n⟩:=q
  simp only[renO,Option.map_eq_some_iff] at h
  obtain⟨j,_,rfl⟩:=h
  exact⟨_,rfl⟩
def renStore(τ:List (Nat×Nat))(st:Store):List (Nat×Nat)→Option (List (Nat×Ob))
 | []=>some []
 | (i,j)::l=>match st i with
  |some o=>match renO τ o,renStore τ st l with
   |some o',some r=>some ((j,o')::r)
   |_,_=>none
  |none=>none
def renSlots(τ:List (Nat×Nat))(sl:List (Nat×AVal)):List Nat→Option (List (Nat×AVal))
 | []=>some []
 |k::l=>match renV τ (get sl k),renSlots τ sl l with
  |some v,some r=>some ((k,v)::r)
  |_,_=>none
def nodupB:List Nat→Bool
 | []=>true
 |i::l=> !(hasId l i)&&nodupB l
def renSt(l0:List (Nat×Ob))(τ:List (Nat×Nat))(keys:List Nat)(nx:Nat)(s:St):Option (List (Nat×AVal)×List (Nat×Ob)):=
 bif nodupB (τ.map (·.1))&&nodupB (τ.map (·.2))&&τ.all (fun p=>Nat.blt p.2 nx)&&l0.all (fun x=>match lk τ x.1 with|some j=>Nat.beq j x.1|none=>false) then
  match renStore τ s.st τ,renSlots τ s.sl keys with
  |some l,some sl=>some (sl,l)
  |_,_=>none
 else none
theorem lk_mem:∀{τ:List (Nat×Nat)} {i j:Nat},lk τ i=some j→(i,j)∈τ
 | [],i,j,h=>by simp[lk] at h
 | (a,b)::τ,i,j,h=>by
  simp only[lk] at h
  by_cases e:a=i
  ·subst e;simp at h;subst h;simp
  ·rw[beq_ne e] at h
   exact List.mem_cons_of_mem _ (lk_mem h)
def Ren(τ:List (Nat×Nat))(st st':Store)(m m':Place):Prop:=∀i j,lk τ i=some j→∀o,st i=some o→(∃o',renO τ o=some o'∧st' j=some o')∧m' j=m i
theorem renL_some{τ:List (Nat×Nat)}:∀{l l':List AVal},renL τ l=some l'→l'.length=l.length∧∀(i:Nat) (v':AVal),l'[i]? =some v'→∃v,l[i]? =some v∧renV τ v=some v'
 | [],l',h=>by
  simp only[renL,Option.some.injEq] at h
  subst h
  exact⟨rfl,fun i v' h=>by simp at h⟩
 |v::l,l',h=>by
  simp only[renL] at h
  split at h
  rotate_left
  ·cases h
  rename_i v1 l1 h1 h2
  simp only[Option.some.injEq] at h
  subst h
  obtain⟨k1,k2⟩:=renL_some h2
  refine⟨by simp[k1],fun i v' hv=> ?_⟩
  cases i with
  |zero=>simp at hv;subst hv;exact⟨v,rfl,h1⟩
  |succ i=>simp at hv;simpa using k2 i v' hv
theorem VRel.ren{τ:List (Nat×Nat)}{st':Store}{m':Place}{ok ok':Nat→Prop}(hR:Ren τ S st' m m')(hok:∀b,ok b→ok' b){v:AVal}{u:Value}(h:VRel S m w ok v u):
 ∀{v':AVal},renV τ v=some v'→VRel st' m' w ok' v' u:=by
 induction h with
 |t T u hT=>intro v' h;simp only[renV,Option.some.injEq] at h;subst h;exact .t T u (hT.mono hok (fun _ _ _ _ h=>h))
 |xl k xs u hT hc=>intro v' h;simp only[renV,Option.some.injEq] at h;subst h;exact .xl k xs u (hT.mono hok (fun _ _ _ _ h=>h)) hc
 |row id n k fz xs L h1 h2 h3=>
  intro v' h
  simp only[renV,Option.map_eq_some_iff] at h
  obtain⟨j,hj,rfl⟩:=h
  obtain⟨⟨o',ho',hs⟩,hm⟩:=hR id j hj _ h1
  simp only[renO,Option.some.injEq] at ho'
  subst ho'
  exact .row j n k fz xs L hs h2 (fun e=>by rw[hm];exact h3 e)
 |ptr id off cs b h1 h2=>
  intro v' h
  simp only[renV,Option.map_eq_some_iff] at h
  obtain⟨j,hj,rfl⟩:=h
  obtain⟨⟨o',ho',hs⟩,hm⟩:=hR id j hj _ h1
  simp only[renO,Option.map_eq_some_iff] at ho'
  obtain⟨cs',_,rfl⟩:=ho'
  exact .ptr j off cs' b hs (by rw[hm];exact h2)
 |bsl id n cs b h1 h2=>
  intro v' h
  simp only[renV,Option.map_eq_some_iff] at h
  obtain⟨j,hj,rfl⟩:=h
  obtain⟨⟨o',ho',hs⟩,hm⟩:=hR id j hj _ h1
  simp only[renO,Option.map_eq_some_iff] at ho'
  obtain⟨cs',_,rfl⟩:=ho'
  exact .bsl j n cs' b hs (by rw[hm];exact h2)
 |bslG id n L h1=>
  intro v' h
  simp only[renV,Option.map_eq_some_iff] at h
  obtain⟨j,hj,rfl⟩:=h
  obtain⟨⟨o',ho',hs⟩,hm⟩:=hR id j hj _ h1
  simp only[renO,Option.some.injEq] at ho'
  subst ho'
  exact .bslG j n L hs
 |eptr id n i sub k fz xs b h1 h2 h3=>
  intro v' h
  simp only[renV,Option.map_eq_some_iff] at h
  obtain⟨j,hj,rfl⟩:=h
  obtain⟨⟨o',ho',hs⟩,hm⟩:=hR id j hj _ h1
  simp only[renO,Option.some.injEq] at ho'
  subst ho'
  exact .eptr j n i sub k fz xs b hs h2 (fun e=>by rw[hm];exact h3 e)
 |mat id fz xs hh L h1 h2=>
  intro v' h
  simp only[renV,Option.map_eq_some_iff] at h
  obtain⟨j,hj,rfl⟩:=h
  obtain⟨⟨o',ho',hs⟩,hm⟩:=hR id j hj _ h1
  obtain⟨hh',rfl⟩:=renO_mat ho'
  exact .mat j fz xs hh' L hs (by rw[hm];exact h2)
 |mptr id i fz xs hh b h1 h2=>
  intro v' h
  simp only[renV,Option.map_eq_some_iff] at h
  obtain⟨j,hj,rfl⟩:=h
  obtain⟨⟨o',ho',hs⟩,hm⟩:=hR id j hj _ h1
  obtain⟨hh',rfl⟩:=renO_mat ho'
  exact .mptr j i fz xs hh' b hs (by rw[hm];exact h2)
 |rowG id n L h1=>
  intro v' h
  simp only[renV,Option.map_eq_some_iff] at h
  obtain⟨j,hj,rfl⟩:=h
  obtain⟨⟨o',ho',hs⟩,hm⟩:=hR id j hj _ h1
  simp only[renO,Option.some.injEq] at ho'
  subst ho'
  exact .rowG j n L hs
 |eptrG id n i sub b o h1=>
  intro v' h
  simp only[renV,Option.map_eq_some_iff] at h
  obtain⟨j,hj,rfl⟩:=h
  obtain⟨⟨o',ho',hs⟩,hm⟩:=hR id j hj _ h1
  simp only[renO,Option.some.injEq] at ho'
  subst ho'
  exact .eptrG j n i sub b o hs
 |anyB b=>intro v' h;simp only[renV,Option.some.injEq] at h;subst h;exact .anyB b
 |ifc t u=>intro v' h;simp only[renV,Option.some.injEq] at h;subst h;exact .ifc t u
 |tail id n i k fz xs L h1 h2 h3 h4=>
  intro v' h
  simp only[renV,Option.map_eq_some_iff] at h
  obtain⟨j,hj,rfl⟩:=h
  obtain⟨⟨o',ho',hs⟩,hm⟩:=hR id j hj _ h1
  simp only[renO,Option.some.injEq] at ho'
  subst ho'
  exact .tail j n i k fz xs L hs h2 h3 (fun e=>by rw[hm];exact h4 e)
 |tailG id n i k L h1=>
  intro v' h
  simp only[renV,Option.map_eq_some_iff] at h
  obtain⟨j,hj,rfl⟩:=h
  obtain⟨⟨o',ho',hs⟩,hm⟩:=hR id j hj _ h1
  simp only[renO,Option.some.injEq] at ho'
  subst ho'
  exact .tailG j n i k L hs
 |hdl id o b u h1 h2 h3=>
  intro v' h
  simp only[renV,Option.map_eq_some_iff] at h
  obtain⟨j,hj,rfl⟩:=h
  obtain⟨⟨o',ho',hs⟩,hm⟩:=hR id j hj _ h1
  exact .hdl j _ b u hs (by rw[hm];exact h2) (renO_hdl ho' h3)
 |ptrG id off b h1=>
  intro v' h
  simp only[renV,Option.map_eq_some_iff] at h
  obtain⟨j,hj,rfl⟩:=h
  obtain⟨⟨o',ho',hs⟩,hm⟩:=hR id j hj _ h1
  simp only[renO,Option.some.injEq] at ho'
  subst ho'
  exact .ptrG j off b hs
 |yl id Y pre h1=>
  intro v' h
  simp only[renV,Option.map_eq_some_iff] at h
  obtain⟨j,hj,rfl⟩:=h
  obtain⟨⟨o',ho',hs⟩,hm⟩:=hR id j hj _ h1
  simp only[renO,Option.some.injEq] at ho'
  subst ho'
  exact .yl j Y pre hs
 |cptr cs b o us h1 h2 h3 h4 h5=>
  intro v' h
  simp only[renV,Option.some.injEq] at h
  subst h
  exact .cptr cs b o us (hok _ h1) h2 h3 h4 (fun j T u a b=>(h5 j T u a b).mono hok (fun _ _ _ _ h=>h))
 |agg cs us h1 _ h3 ih=>
  intro v' h
  simp only[renV,Option.map_eq_some_iff] at h
  obtain⟨l,hl,rfl⟩:=h
  obtain⟨k1,k2⟩:=renL_some hl
  refine .agg l us (by rw[h1,k1]) (fun i v' u hv hu=> ?_) h3
  obtain⟨v,hv1,hv2⟩:=k2 i v' hv
  exact ih i v u hv1 hu hv2
 |fn f cap us h1 _ ih=>
  intro v' h
  simp only[renV,Option.map_eq_some_iff] at h
  obtain⟨l,hl,rfl⟩:=h
  obtain⟨k1,k2⟩:=renL_some hl
  refine .fn f l us (by rw[h1,k1]) (fun i v' u hv hu=> ?_)
  obtain⟨v,hv1,hv2⟩:=k2 i v' hv
  exact ih i v u hv1 hu hv2
 |tup vs us h1 _ ih=>
  intro v' h
  simp only[renV,Option.map_eq_some_iff] at h
  obtain⟨l,hl,rfl⟩:=h
  obtain⟨k1,k2⟩:=renL_some hl
  refine .tup l us (by rw[h1,k1]) (fun i v' u hv hu=> ?_)
  obtain⟨v,hv1,hv2⟩:=k2 i v' hv
  exact ih i v u hv1 hu hv2
 |cond c v u _ h0 ih=>
  intro v' h
  simp only[renV,Option.map_eq_some_iff] at h
  obtain⟨v1,hv1,rfl⟩:=h
  exact .cond c v1 u (fun e=>ih e hv1) h0
 |junk u=>intro v' h;simp only[renV,Option.some.injEq] at h;subst h;exact .junk u
theorem nodupB_iff{l:List Nat}:nodupB l=true↔l.Nodup:=by
 induction l with
 |nil=>simp[nodupB]
 |cons i l ih=>
  simp only[nodupB,Bool.and_eq_true,Bool.not_eq_true',List.nodup_cons,ih]
  constructor
  ·rintro⟨h1,h2⟩
   exact⟨fun hm=>(by rw[hasId_iff.2 hm] at h1;cases h1),h2⟩
  ·rintro⟨h1,h2⟩
   refine⟨?_,h2⟩
   cases hh:hasId l i with
   |false=>rfl
   |true=>exact absurd (hasId_iff.1 hh) h1
def inv(τ:List (Nat×Nat)):List (Nat×Nat):=τ.map fun p=>(p.2,p.1)
theorem lk_of_mem:∀{τ:List (Nat×Nat)},(τ.map (·.1)).Nodup→∀{i j:Nat},(i,j)∈τ→lk τ i=some j
 | [],_,i,j,h=>by simp at h
 | (a,b)::τ,hn,i,j,h=>by
  simp only[List.map_cons,List.nodup_cons] at hn
  simp only[List.mem_cons,Prod.mk.injEq] at h
  simp only[lk]
  rcases h with⟨rfl,rfl⟩|h
  ·simp
  ·have:a≠i:=fun e=>hn.1 (e▸List.mem_map.2 ⟨(i,j),h,rfl⟩)
   rw[beq_ne this]
   exact lk_of_mem hn.2 h
theorem lk_inv{τ:List (Nat×Nat)}(h2:(τ.map (·.2)).Nodup){i j:Nat}(h:lk τ i=some j):lk (inv τ) j=some i:=by
 refine lk_of_mem (by simpa[inv,Function.comp_def] using h2) ?_
 exact List.mem_map.2 ⟨(i,j),lk_mem h,rfl⟩
theorem renStore_at{τ:List (Nat×Nat)}:∀{l:List (Nat×Nat)} {r:List (Nat×Ob)},renStore τ S l=some r→r.map (·.1)=l.map (·.2)∧
 ∀i j,(i,j)∈l→∃o o',S i=some o∧renO τ o=some o'∧(j,o')∈r
 | [],r,h=>by
  simp only[renStore,Option.some.injEq] at h
  subst h
  exact⟨rfl,fun i j h=>by simp at h⟩
 | (a,b)::l,r,h=>by
  simp only[renStore] at h
  split at h
  rotate_left
  ·cases h
  rename_i o ho
  split at h
  rotate_left
  ·cases h
  rename_i o' r' h1 h2
  simp only[Option.some.injEq] at h
  subst h
  obtain⟨k1,k2⟩:=renStore_at h2
  refine⟨by simp[k1],fun i j hij=> ?_⟩
  simp only[List.mem_cons,Prod.mk.injEq] at hij
  rcases hij with⟨rfl,rfl⟩|hij
  ·exact⟨o,o',ho,h1,by simp⟩
  ·obtain⟨o1,o2,q1,q2,q3⟩:=k2 i j hij
   exact⟨o1,o2,q1,q2,by simp[q3]⟩
theorem app_mem{S:Store}:∀{l:List (Nat×Ob)},(l.map (·.1)).Nodup→∀{i:Nat} {o:Ob},(i,o)∈l→app S l i=some o
 | [],_,i,o,h=>by simp at h
 | (a,b)::l,hn,i,o,h=>by
  simp only[List.map_cons,List.nodup_cons] at hn
  simp only[List.mem_cons,Prod.mk.injEq] at h
  simp only[app]
  rcases h with⟨rfl,rfl⟩|h
  ·rw[app_not hn.1,upd_same]
  ·exact app_mem hn.2 h
theorem app_emp_some{l:List (Nat×Ob)}{i:Nat}{o:Ob}(h:app emp l i=some o):i∈l.map (·.1):=by
 by_cases hm:i∈l.map (·.1)
 ·exact hm
 ·rw[app_not hm] at h;cases h
theorem ORel.ren {τ : List (Nat × Nat)} {st' : Store} {m' : Place} {ok ok' : Nat → Prop} (hR : Ren τ S st' m m') (hok : ∀ b, ok b → ok' b) {o o' : Ob} {L : Option Nat × Nat} {g : List Nat} (h : ORel S m w ok o L g) (ho : renO τ o = some o') : ORel st' m' w ok' o' L g := by
  cases o with
  | box cs =>
    simp only [renO, Option.map_eq_some_iff] at ho
    obtain ⟨cs', hcs, rfl⟩ := ho
    obtain ⟨k1, k2⟩ := renL_some hcs
    obtain ⟨b, us, e, h1, h2, h3, h4⟩ := h
    refine ⟨b, us, e, h1, h2, by rw [h3, k1], fun i v' u hv hu => ?_⟩
    obtain ⟨v, hv1, hv2⟩ := k2 i v' hv
    obtain ⟨q1, q2⟩ := h4 i v u hv1 hu
    exact ⟨q1.ren hR hok hv2, q2⟩
  | mat fz xs hh =>
    obtain ⟨⟨b, us, e, h1, h2, h3, h4⟩, q⟩ := h
    cases hh with
    | none =>
      simp only [renO, Option.some.injEq] at ho
      subst ho
      refine ⟨⟨b, us, e, h1, h2, h3, fun i v' u hv hu => ?_⟩, q⟩
      obtain ⟨q1, q2⟩ := h4 i v' u hv hu
      refine ⟨q1.ren hR hok ?_, q2⟩
      obtain ⟨T, _, rfl⟩ := List.mem_map.1 (List.mem_of_getElem? hv)
      rfl
    | some p =>
      obtain ⟨k, r, n⟩ := p
      simp only [renO, Option.map_eq_some_iff] at ho
      obtain ⟨j, hj, rfl⟩ := ho
      refine ⟨⟨b, us, e, h1, h2, by rw [h3, matC_len, matC_len], fun i v' u hv hu => ?_⟩, q⟩
      simp only [matC, List.getElem?_set] at hv
      split at hv
      · rename_i hik
        split at hv
        · rename_i hlt
          simp only [Option.some.injEq] at hv
          subst hv; subst hik
          obtain ⟨q1, q2⟩ := h4 k (.row r n) u (by simp only [matC, List.getElem?_set, if_true]; rw [if_pos hlt]) hu
          exact ⟨q1.ren hR hok (by simp [renV, hj]), q2⟩
        · cases hv
      · rename_i hik
        obtain ⟨q1, q2⟩ := h4 i v' u (by simp only [matC, List.getElem?_set]; rw [if_neg hik]; exact hv) hu
        refine ⟨q1.ren hR hok ?_, q2⟩
        obtain ⟨T, _, rfl⟩ := List.mem_map.1 (List.mem_of_getElem? hv)
        rfl
  | row k fz xs =>
    simp only [renO, Option.some.injEq] at ho
    subst ho
    obtain ⟨a1, a2, a3, a4, a5⟩ := h
    refine ⟨a1, a2, a3, a4, a5.imp (fun h => h) ?_⟩
    rintro ⟨b, us, e, h1, h2, h3, h4, h5⟩
    exact ⟨b, us, e, h1, h2, h3, h4, fun j T u p q => (h5 j T u p q).mono hok (fun _ _ _ _ h => h)⟩
  | gone =>
    simp only [renO, Option.some.injEq] at ho
    subst ho
    exact h
  | siter s pos =>
    simp only [renO, Option.some.injEq] at ho
    subst ho
    exact h
  | mp es hh =>
    obtain ⟨b, ents, bl, h1, h2, h3, h4, h5, h6, h7⟩ := h
    cases hh with
    | none =>
      simp only [renO, Option.some.injEq] at ho
      subst ho
      refine ⟨b, ents, bl, h1, h2, h3, h4, h5, h6, fun i x e p q => ?_⟩
      obtain ⟨q1, q2, q3⟩ := h7 i x e p q
      exact ⟨q1, q2, MRel.tq hok q3⟩
    | some q =>
      obtain ⟨k, v⟩ := q
      simp only [renO, Option.map_eq_some_iff] at ho
      obtain ⟨v', hv, rfl⟩ := ho
      refine ⟨b, ents, bl, h1, h2, h3, h4, h5, h6, fun i x e p q => ?_⟩
      obtain ⟨q1, q2, q3⟩ := h7 i x e p q
      exact ⟨q1, q2, fun e => ⟨(q3.1 e).1.ren hR hok hv, (q3.1 e).2⟩, fun e => (q3.2 e).tq hok⟩
  | miter mid n seen =>
    simp only [renO, Option.map_eq_some_iff] at ho
    obtain ⟨j, hj, rfl⟩ := ho
    obtain ⟨b, bm, h1, h2, ⟨es, hh, h3⟩, h4⟩ := h
    obtain ⟨⟨o', ho', hs⟩, hm⟩ := hR mid j hj _ h3
    obtain ⟨hh', rfl⟩ := renO_mp ho'
    exact ⟨b, bm, h1, by rw [hm]; exact h2, ⟨_, _, hs⟩, h4⟩
  | ext Y pre =>
    simp only [renO, Option.some.injEq] at ho
    subst ho
    exact ⟨h.1, h.2.1, fun b hD => hok b (h.2.2 b hD)⟩
theorem renO_same{τ:List (Nat×Nat)}{o o':Ob}(h:renO τ o=some o'):o.len=o'.len∧o.live=o'.live∧o.same o':=by
 cases o with
 |box cs=>
  simp only[renO,Option.map_eq_some_iff] at h
  obtain⟨cs',hcs,rfl⟩:=h
  obtain⟨k1,k2⟩:=renL_some hcs
  exact⟨rfl,rfl,k1.symm⟩
 |mat fz xs hh=>
  obtain⟨hh',rfl⟩:=renO_mat h
  exact⟨rfl,rfl,rfl⟩
 |row k fz xs=>
  simp only[renO,Option.some.injEq] at h
  subst h
  exact⟨rfl,rfl,rfl⟩
 |gone=>
  simp only[renO,Option.some.injEq] at h
  subst h
  exact⟨rfl,rfl,trivial⟩
 |siter s pos=>
  simp only[renO,Option.some.injEq] at h
  subst h
  exact⟨rfl,rfl,trivial⟩
 |mp es hh=>
  obtain⟨hh',rfl⟩:=renO_mp h
  exact⟨rfl,rfl,trivial⟩
 |miter mid n s=>
  simp only[renO,Option.map_eq_some_iff] at h
  obtain⟨j,hj,rfl⟩:=h
  exact⟨rfl,rfl,trivial⟩
 |ext Y pre=>
  simp only[renO,Option.some.injEq] at h
  subst h
  exact⟨rfl,rfl,rfl⟩
def renPlace(τ:List (Nat×Nat))(m:Place):Place:=⟨fun j=>match lk (inv τ) j with|some i=>m i|none=>(none,0),fun j=>match lk (inv τ) j with|some i=>m.g i|none=>[]⟩
theorem ren_store{τ:List (Nat×Nat)}{r:List (Nat×Ob)}(h1:(τ.map (·.1)).Nodup)(h2:(τ.map (·.2)).Nodup)(hr:renStore τ S τ=some r):
 Ren τ S (app emp r) m (renPlace τ m)∧(∀j o',app emp r j=some o'→∃i o,lk τ i=some j∧S i=some o∧renO τ o=some o'∧renPlace τ m j=m i∧(renPlace τ m).g j=m.g i):=by
 obtain⟨k1,k2⟩:=renStore_at hr
 have hnd:(r.map (·.1)).Nodup:=by rw[k1];exact h2
 have hpl:∀i j,lk τ i=some j→renPlace τ m j=m i:=fun i j h=>by simp only[renPlace,lk_inv h2 h]
 have hpg:∀i j,lk τ i=some j→(renPlace τ m).g j=m.g i:=fun i j h=>by simp only[renPlace,lk_inv h2 h]
 refine⟨fun i j hij o ho=> ?_,fun j o' ho'=> ?_⟩
 ·obtain⟨o1,o2,q1,q2,q3⟩:=k2 i j (lk_mem hij)
  rw[ho] at q1;cases q1
  exact⟨⟨o2,q2,app_mem hnd q3⟩,hpl i j hij⟩
 ·have hm:=app_emp_some ho'
  rw[k1] at hm
  obtain⟨p,hp,rfl⟩:=List.mem_map.1 hm
  have hl:=lk_of_mem h1 (i:=p.1) (j:=p.2) hp
  obtain⟨o1,o2,q1,q2,q3⟩:=k2 p.1 p.2 hp
  have:=app_mem (S:=emp) hnd q3
  rw[ho'] at this;cases this
  exact⟨p.1,o1,hl,q1,q2,hpl _ _ hl,hpg _ _ hl⟩
theorem has_eq{m m':Place}{i j b:Nat}(h1:m' j=m i)(h2:m'.g j=m.g i):m'.has j b↔m.has i b:=by unfold Place.has;rw[h1,h2]
theorem renPlace_has{τ:List (Nat×Nat)}(h2:(τ.map (·.2)).Nodup){i j b:Nat}(h:lk τ i=some j):(renPlace τ m).has j b↔m.has i b:=has_eq (by simp only[renPlace,lk_inv h2 h]) (by simp only[renPlace,lk_inv h2 h])
theorem SRel.ren{τ:List (Nat×Nat)}{r:List (Nat×Ob)}(hS:SRel F S m w)(h1:(τ.map (·.1)).Nodup)(h2:(τ.map (·.2)).Nodup)(hr:renStore τ S τ=some r):
 SRel F (app emp r) (renPlace τ m) w∧∀b,okB F S m w b→okB F (app emp r) (renPlace τ m) w b:=by
 obtain⟨hR,hb⟩:=ren_store (m:=m) h1 h2 hr
 have hok:∀b,okB F S m w b→okB F (app emp r) (renPlace τ m) w b:=by
  rintro b ⟨b1,b2,b3⟩
  refine⟨b1,b2,fun j o' ho' hl hm=> ?_⟩
  obtain⟨i,o,q1,q2,q3,q4,q5⟩:=hb j o' ho'
  rw[has_eq q4 q5] at hm
  exact b3 i o q2 (by rw[(renO_same q3).2.1];exact hl) hm
 refine⟨⟨fun j o' ho'=> ?_,fun j j' oj oj' b hj hj' hb1 hb2=> ?_,fun j o' b ho' hm hf=> ?_,fun j o' b ho' hm=> ?_,hS.low,hS.hold⟩,hok⟩
 ·obtain⟨i,o,q1,q2,q3,q4,q5⟩:=hb j o' ho'
  rw[q4,q5]
  exact(hS.objs i o q2).ren hR hok q3
 ·obtain⟨i,o,q1,q2,q3,q4,q5⟩:=hb j oj hj
  obtain⟨i',o',q1',q2',q3',q4',q5'⟩:=hb j' oj' hj'
  rw[has_eq q4 q5] at hb1
  rw[has_eq q4' q5'] at hb2
  have:=hS.inj i i' o o' b q2 q2' hb1 hb2
  subst this
  rw[q1] at q1';cases q1';rfl
 ·obtain⟨i,o,q1,q2,q3,q4,q5⟩:=hb j o' ho'
  rw[has_eq q4 q5] at hm
  exact hS.avoid i o b q2 hm hf
 ·obtain⟨i,o,q1,q2,q3,q4,q5⟩:=hb j o' ho'
  rw[has_eq q4 q5] at hm
  exact hS.lt i o b q2 hm
theorem renSlots_get{τ:List (Nat×Nat)}{sl:List (Nat×AVal)}:∀{keys:List Nat} {r:List (Nat×AVal)},renSlots τ sl keys=some r→∀t,get r t= .junk∨renV τ (get sl t)=some (get r t)
 | [],r,h,t=>by
  simp only[renSlots,Option.some.injEq] at h
  subst h;exact .inl rfl
 |k::keys,r,h,t=>by
  simp only[renSlots] at h
  split at h
  rotate_left
  ·cases h
  rename_i v r' h1 h2
  simp only[Option.some.injEq] at h
  subst h
  simp only[get]
  by_cases e:k=t
  ·subst e;right;simpa using h1
  ·rw[beq_ne e];exact renSlots_get h2 t
def Sim(P:Program)(n:Nat)(l0:List (Nat×Ob))(c:Code)(s:St)(Q:Exit→St→Prop):Prop:=
 ∀(F:Fen P) (m0:Place) (w0:World) (m:Place) (a:Act) (w:World),SRel F (app emp l0) m0 w0→Rel F n s m a w→FrameExt F (app emp l0) m0 w0 s.st m w→
  c.wpIn (fw F) 0 P (fun e a' w'=> ∃s' m',Rel F n s' m' a' w'∧FrameExt F (app emp l0) m0 w0 s'.st m' w'∧Q e s') a w
def LoopSim(P:Program)(n:Nat)(l0:List (Nat×Ob))(c:Code)(s:St)(Q:Exit→St→Prop):Prop:=
 ∀(F:Fen P) (m0:Place) (w0:World) (m:Place) (a:Act) (w:World),SRel F (app emp l0) m0 w0→Rel F n s m a w→FrameExt F (app emp l0) m0 w0 s.st m w→
  ∀(b:Frame) (k:List Item) (cs:List Frame),b.roundOf=F.rnd→∃e a' w',(∃s' m',Rel F n s' m' a' w'∧FrameExt F (app emp l0) m0 w0 s'.st m' w'∧Q e s')∧
   ArrivesIn (Machine.fenced P (fw F)) P (lone (b.atR a (.code c:: .inLoop c::k)) cs w) b k cs e a' w'
theorem fw_room{F:Fen P}(n:Nat):(fw F).room n:=fun d h=>by simp[fw,Fence.wide] at h
variable {n:Nat} {l0:List (Nat×Ob)} {s:St} {Q:Exit→St→Prop}
def andThen(R:St→Prop)(Q:Exit→St→Prop):Exit→St→Prop
 | .normal,s=>R s
 |e,s=>Q e s
def inBlk(id:Nat)(Q:Exit→St→Prop):Exit→St→Prop
 | .exit i,s=>if i=id then Q .normal s else Q (.exit i) s
 |e,s=>Q e s
theorem Sim.seq{x y:Code}(h:Sim P n l0 x s (andThen (fun s'=>Sim P n l0 y s' Q) Q)):Sim P n l0 (.seq x y) s Q:=by
 intro F m0 w0 m a w h0 h1 h2
 refine wpIn_seq (wpIn_mono (h F m0 w0 m a w h0 h1 h2) ?_)
 rintro e a' w' ⟨s',m',q1,q2,q3⟩
 cases e with
 |normal=>exact q3 F m0 w0 m' a' w' h0 q1 q2
 |_=>exact⟨s',m',q1,q2,q3⟩
theorem Sim.skip(h:Q .normal s):Sim P n l0 .skip s Q:=fun F m0 w0 m a w h0 h1 h2=>wpIn_skip ⟨s,m,h1,h2,h⟩
theorem Sim.ret(h:Q .ret s):Sim P n l0 .ret s Q:=fun F m0 w0 m a w h0 h1 h2=>wpIn_ret ⟨s,m,h1,h2,h⟩
theorem Sim.exit{id:Nat}(h:Q (.exit id) s):Sim P n l0 (.exit id) s Q:=fun F m0 w0 m a w h0 h1 h2=>wpIn_exit ⟨s,m,h1,h2,h⟩
theorem Sim.block{id:Nat}{c:Code}(h:Sim P n l0 c s (inBlk id Q)):Sim P n l0 (.block id c) s Q:=by
 intro F m0 w0 m a w h0 h1 h2
 refine wpIn_block (wpIn_mono (h F m0 w0 m a w h0 h1 h2) ?_)
 rintro e a' w' ⟨s',m',q1,q2,q3⟩
 cases e with
 |exit i=>
  simp only[inBlk] at q3
  simp only[Exit.inBlock]
  split
  ·rename_i hi;rw[if_pos hi] at q3;exact⟨s',m',q1,q2,q3⟩
  ·rename_i hi;rw[if_neg hi] at q3;exact⟨s',m',q1,q2,q3⟩
 |_=>exact⟨s',m',q1,q2,q3⟩
theorem Sim.cond{c:Operand}{x y:Code}{b:Bool}(hb:ev s.sl c= .t (.sc (.bool b)))(ht:b=true→Sim P n l0 x s Q)(hf:b=false→Sim P n l0 y s Q):Sim P n l0 (.cond c x y) s Q:=by
 intro F m0 w0 m a w h0 h1 h2
 have hv:VRel s.st m w (okB F s.st m w) (ev s.sl c) (a.eval c):=ev_rel (fun t _=>h1.slots t)
 rw[hb] at hv
 have:=VRel.sc_inv hv
 exact wpIn_cond_split this (fun e=>ht e F m0 w0 m a w h0 h1 h2) (fun e=>hf e F m0 w0 m a w h0 h1 h2)
theorem Sim.condAny{c:Operand}{x y:Code}(hb:ev s.sl c= .anyB)(ht:Sim P n l0 x s Q)(hf:Sim P n l0 y s Q):Sim P n l0 (.cond c x y) s Q:=by
 intro F m0 w0 m a w h0 h1 h2
 have hv:VRel s.st m w (okB F s.st m w) (ev s.sl c) (a.eval c):=ev_rel (fun t _=>h1.slots t)
 rw[hb] at hv
 generalize hu:a.eval c=u at hv
 cases hv with
 |anyB b=>exact wpIn_cond_split hu (fun e=>ht F m0 w0 m a w h0 h1 h2) (fun e=>hf F m0 w0 m a w h0 h1 h2)
theorem Sim.loop{c:Code}(h:LoopSim P n l0 c s Q):Sim P n l0 (.loop c) s Q:=by
 intro F m0 w0 m a w h0 h1 h2 b k cs hro hb hr
 obtain⟨e,a',w',q,arr⟩:=h F m0 w0 m a w h0 h1 h2 b k cs hro
 exact⟨e,a',w',q,.of_steps (.one (fenced_calm hb hr rfl) stepR_loop) arr⟩
theorem LoopSim.step{c:Code}(h:Sim P n l0 c s (andThen (fun s'=>LoopSim P n l0 c s' Q) Q)):LoopSim P n l0 c s Q:=by
 intro F m0 w0 m a w h0 h1 h2 b k cs hro
 have hr:(fw F).room (cs.length+1+0):=fw_room _
 have hb:(fw F).fn b.fn:=trivial
 obtain⟨e,a₁,w₁,⟨s',m',q1,q2,q3⟩,harr⟩:=h F m0 w0 m a w h0 h1 h2 b (.inLoop c::k) cs hro hb hr
 cases e with
 |normal=>
  obtain⟨e₂,a₂,w₂,hq₂,harr₂⟩:=q3 F m0 w0 m' a₁ w₁ h0 q1 q2 b k cs hro
  exact⟨e₂,a₂,w₂,hq₂,.of_steps (StepsIn.trans harr (.one (fenced_calm hb hr rfl) stepR_inLoop)) harr₂⟩
 |exit id=>exact⟨_,a₁,w₁,⟨s',m',q1,q2,q3⟩,.pass (x:= .inLoop c) rfl (fun _ _=> .inl (by simp)) harr⟩
 |goto l=>exact⟨_,a₁,w₁,⟨s',m',q1,q2,q3⟩,.pass (x:= .inLoop c) rfl (fun _ _=> .inl (by simp)) harr⟩
 |ret=>exact⟨_,a₁,w₁,⟨s',m',q1,q2,q3⟩,.pass (x:= .inLoop c) rfl (fun _ _=> .inl (by simp)) harr⟩
 |panic ch=>exact⟨_,a₁,w₁,⟨s',m',q1,q2,q3⟩,.pass (x:= .inLoop c) rfl (fun _ _=> .inl (by simp)) harr⟩
 |outgrown=>exact⟨_,a₁,w₁,⟨s',m',q1,q2,q3⟩,.pass (x:= .inLoop c) rfl (fun _ _=> .inl (by simp)) harr⟩
def Le(n:Nat)(l0:List (Nat×Ob))(s s':St):Prop:=∀{P:Program} (F:Fen P) (m0:Place) (w0:World) (m:Place) (a:Act) (w:World),SRel F (app emp l0) m0 w0→Rel F n s m a w→FrameExt F (app emp l0) m0 w0 s.st m w→
 ∃m',Rel F n s' m' a w∧FrameExt F (app emp l0) m0 w0 s'.st m' w
theorem Le.refl(s:St):Le n l0 s s:=fun F m0 w0 m a w _ h1 h2=>⟨m,h1,h2⟩
theorem Le.trans{s1 s2 s3:St}(h:Le n l0 s1 s2)(k:Le n l0 s2 s3):Le n l0 s1 s3:=fun F m0 w0 m a w h0 h1 h2=>by
 obtain⟨m',q1,q2⟩:=h F m0 w0 m a w h0 h1 h2
 exact k F m0 w0 m' a w h0 q1 q2
theorem Sim.weaken{c:Code}{s':St}(h:Le n l0 s s')(k:Sim P n l0 c s' Q):Sim P n l0 c s Q:=fun F m0 w0 m a w h0 h1 h2=>by
 obtain⟨m',q1,q2⟩:=h F m0 w0 m a w h0 h1 h2
 exact k F m0 w0 m' a w h0 q1 q2
theorem LoopSim.weaken{c:Code}{s':St}(h:Le n l0 s s')(k:LoopSim P n l0 c s' Q):LoopSim P n l0 c s Q:=fun F m0 w0 m a w h0 h1 h2=>by
 obtain⟨m',q1,q2⟩:=h F m0 w0 m a w h0 h1 h2
 exact k F m0 w0 m' a w h0 q1 q2
theorem Le.ren{τ:List (Nat×Nat)}{keys:List Nat}{nx:Nat}{sl:List (Nat×AVal)}{l:List (Nat×Ob)}(h:renSt l0 τ keys nx s=some (sl,l)):Le n l0 s ⟨sl,app emp l,nx⟩:=by
 intro P F m0 w0 m a w h0 h1 h2
 unfold renSt at h
 obtain⟨hc,h⟩:=bif_some h
 simp only[Bool.and_eq_true] at hc
 obtain⟨⟨⟨c1,c2⟩,c3⟩,c4⟩:=hc
 split at h
 rotate_left
 ·cases h
 rename_i l' sl' hst hsl
 simp only[Option.some.injEq,Prod.mk.injEq] at h
 obtain⟨rfl,rfl⟩:=h
 have n1:=nodupB_iff.1 c1
 have n2:=nodupB_iff.1 c2
 obtain⟨hR,hb⟩:=ren_store (m:=m) n1 n2 hst
 obtain⟨hS,hok⟩:=h1.srel.ren n1 n2 hst
 have hkeep:∀id,id∈l0.map (·.1)→lk τ id=some id:=by
  intro id hid
  obtain⟨x,hx,rfl⟩:=List.mem_map.1 hid
  have:=List.all_eq_true.1 c4 x hx
  split at this
  ·rename_i j hj;rw[hj,Nat.eq_of_beq_eq_true this]
  ·cases this
 refine⟨renPlace τ m,⟨fun t=> ?_,h1.size,(by
  obtain⟨⟨l,e1,e2,e3⟩,e4,e5⟩:=h1.defers
  have key:∀D,(∀id o,s.st id=some o→¬m.has id D)→∀j o',app emp l' j=some o'→¬(renPlace τ m).has j D:=fun D q j o' ho' hm=>by
   obtain⟨i',o1,p1,p2,p3,p4,p5⟩:=hb j o' ho'
   exact q i' o1 p2 ((has_eq p4 p5).1 hm)
  exact⟨⟨l,e1,e2,fun D hD=>⟨(e3 D hD).1,key D (e3 D hD).2.1,(e3 D hD).2.2⟩⟩,e4,fun l hl=>⟨key l (e5 l hl).1,(e5 l hl).2⟩⟩),hS,fun id hid=> ?_⟩,⟨h2.os,h2.tape,h2.output,h2.size,h2.block,fun id o ho=> ?_,fun id o' ho' hn b hbk=> ?_⟩⟩
 ·rcases renSlots_get hsl t with e|e
  ·rw[e];exact .junk _
  ·exact(h1.slots t).ren hR hok e
 ·show app emp l' id=none
  cases hh:app emp l' id with
  |none=>rfl
  |some o=>
   obtain⟨i,o1,q1,_⟩:=hb id o hh
   have:=Nat.lt_of_succ_le (Nat.le_of_ble_eq_true (List.all_eq_true.1 c3 (i,id) (lk_mem q1)))
   simp only at this hid
   omega
 ·have hl:=hkeep id (app_emp_some ho)
  obtain⟨o1,k1,k2,k3,k4,k5,k6⟩:=h2.keep id o ho
  obtain⟨⟨o2,q1,q2⟩,q3⟩:=hR id id hl o1 k1
  obtain⟨r1,r2,r3⟩:=renO_same q1
  refine⟨o2,q2,by omega,fun e=>by rw[q3];exact k3 (by omega),fun e=>by rw[←r2];exact k4 e,fun b hbk=>k5 b (by obtain⟨i',o',p1,p2,p3,p4,p5⟩:=hb id o2 q2;have hi:i'=id:=(by have:=lk_inv n2 p1;rw[lk_inv n2 hl] at this;cases this;rfl);subst hi;exact(has_eq p4 p5).1 hbk),?_⟩
  exact Ob.same_trans k6 r3
 ·obtain⟨i,o,q1,q2,q3,q4,q5⟩:=hb id o' ho'
  rw[has_eq q4 q5] at hbk
  cases h3:app emp l0 i with
  |none=>exact h2.new i o q2 h3 b hbk
  |some o0=>
   have:=hkeep i (app_emp_some h3)
   rw[this] at q1;cases q1
   rw[h3] at hn;cases hn
def argSlots:Nat→List AVal→List (Nat×AVal)
 |_,[]=>[]
 |i,v::l=>(i,v)::argSlots (i+1) l
theorem argSlots_get:∀(l:List AVal) (i t:Nat),get (argSlots i l) t=if i≤t then(l[t-i]?).getD .junk else .junk
 | [],i,t=>by simp[argSlots,get]
 |v::l,i,t=>by
  simp only[argSlots,get]
  by_cases e:i=t
  ·subst e;simp
  ·rw[beq_ne e,cond_false,argSlots_get l (i+1) t]
   by_cases h:i≤t
   ·rw[if_pos (by omega),if_pos h,show t-i=(t- (i+1))+1 by omega]
    simp
   ·rw[if_neg (by omega),if_neg h]
end Go.Ab
end
section
set_option linter.unusedVariables false
namespace Go.Ab
variable {P:Program} {w:World} {F:Fen P} {S st:Store} {m:Place}
theorem FC.ren{f:FuncId}{args args':List AVal}{res res':AVal}{l0 l0' l1 l1':List (Nat×Ob)}(h:FC P f args (app emp l0) res (app emp l1))(τ0 τ:List (Nat×Nat))
 (c:(nodupB (τ0.map (·.1))&&nodupB (τ0.map (·.2))&&nodupB (τ.map (·.1))&&nodupB (τ.map (·.2))&&τ0.all (fun p=>match lk τ p.1 with|some j=>Nat.beq j p.2|none=>false))=true)
 (h0:renStore (inv τ0) (app emp l0') (inv τ0)=some l0) (ha:renL (inv τ0) args'=some args) (hl0:l0'.all (fun x=>hasId (τ0.map (·.2)) x.1)=true)
 (h1:renStore τ (app emp l1) τ=some l1') (hr:renV τ res=some res'):FC P f args' (app emp l0') res' (app emp l1'):=by
 simp only[Bool.and_eq_true] at c
 obtain⟨⟨⟨⟨c1,c2⟩,c3⟩,c4⟩,c5⟩:=c
 have n1:=nodupB_iff.1 c1
 have n2:=nodupB_iff.1 c2
 have n3:=nodupB_iff.1 c3
 have n4:=nodupB_iff.1 c4
 have i1:((inv τ0).map (·.1)).Nodup:=by simpa[inv,Function.comp_def] using n2
 have i2:((inv τ0).map (·.2)).Nodup:=by simpa[inv,Function.comp_def] using n1
 have ii:inv (inv τ0)=τ0:=by simp[inv,Function.comp_def]
 have hext:∀i j,lk τ0 i=some j→lk τ i=some j:=by
  intro i j hij
  have:=List.all_eq_true.1 c5 (i,j) (lk_mem hij)
  simp only at this
  split at this
  ·rename_i j' hj;rw[hj,Nat.eq_of_beq_eq_true this]
  ·cases this
 have hin:∀j o,app emp l0' j=some o→∃i,lk (inv τ0) j=some i:=by
  intro j o hj
  obtain⟨x,hx,rfl⟩:=List.mem_map.1 (app_emp_some hj)
  have:=hasId_iff.1 (List.all_eq_true.1 hl0 x hx)
  obtain⟨p,hp,hp'⟩:=List.mem_map.1 this
  refine⟨p.1,lk_of_mem i1 (List.mem_map.2 ⟨p,hp,by rw[hp']⟩)⟩
 intro F m w us hS hl hv
 obtain⟨hR0,hb0⟩:=ren_store (m:=m) i1 i2 h0
 obtain⟨hS0,hok0⟩:=hS.ren i1 i2 h0
 obtain⟨a1,a2⟩:=renL_some ha
 refine(h F (renPlace (inv τ0) m) w us hS0 (by rw[hl,a1]) (fun i v u hi hu=> ?_)).mono ?_
 ·obtain⟨v',q1,q2⟩:=a2 i v hi
  exact(hv i v' u q1 hu).ren hR0 hok0 q2
 ·rintro e w' ⟨v,m1,he,k1,k2,k3⟩
  obtain⟨hR1,hb1⟩:=ren_store (m:=m1) n3 n4 h1
  obtain⟨hS1,hok1⟩:=k1.ren n3 n4 h1
  refine⟨v,renPlace τ m1,he,hS1,⟨k2.os,k2.tape,k2.output,k2.size,fun b hb hf=> ?_,fun j o' ho'=> ?_,fun j o' ho' hn b hbk=> ?_⟩,k3.ren hR1 hok1 hr⟩
  ·refine k2.block b hb ?_
   rcases hf with hf|hf
   ·exact .inl hf
   ·refine .inr fun i o ho hlv hm=> ?_
    obtain⟨j,o1,q1,q2,q3,q4⟩:=hb0 i o ho
    rw[renPlace_has i2 q1] at hm
    exact hf j o1 q2 (by rw[(renO_same q3).2.1];exact hlv) hm
  ·obtain⟨i,hi⟩:=hin j o' ho'
   obtain⟨⟨o,q1,q2⟩,q3⟩:=hR0 j i hi o' ho'
   obtain⟨o1,r1,r2,r3,r4,r5,r6⟩:=k2.keep i o q2
   have hij:lk τ i=some j:=hext i j (by have:=lk_inv i2 hi;rw[ii] at this;exact this)
   obtain⟨⟨o2,s1,s2⟩,s3⟩:=hR1 i j hij o1 r1
   obtain⟨t1,t2,t3⟩:=renO_same q1
   obtain⟨u1,u2,u3⟩:=renO_same s1
   rw[q3] at r3
   refine⟨o2,s2,by omega,fun e=>by rw[s3];exact r3 (by omega),fun e=>by rw[←u2];exact r4 (by rw[←t2];exact e),fun b hbk=> ?_,?_⟩
   ·rcases r5 b ((renPlace_has n4 hij).1 hbk) with r5|r5| ⟨i',oi,p1,p2,p3⟩
    ·exact .inl ((renPlace_has i2 hi).1 r5)
    ·exact .inr (.inl r5)
    ·obtain⟨j',o1,p4,p5,p6,p7⟩:=hb0 i' oi p1
     exact .inr (.inr ⟨j',o1,p5,by rw[(renO_same p6).2.1];exact p2,(renPlace_has i2 p4).1 p3⟩)
   exact Ob.same_trans t3 (Ob.same_trans r6 u3)
  ·obtain⟨i,o,q1,q2,q3,q4⟩:=hb1 j o' ho'
   rw[renPlace_has n4 q1] at hbk
   have hnone:app emp l0 i=none:=by
    cases h2:app emp l0 i with
    |none=>rfl
    |some o0=>
     obtain⟨j',o1,r1,r2,r3,r4⟩:=hb0 i o0 h2
     have:=hext i j' (by have:=lk_inv i2 r1;rw[ii] at this;exact this)
     rw[q1] at this;cases this
     rw[hn] at r2;cases r2
   rcases k2.new i o q2 hnone b hbk with p| ⟨i',oi,p1,p2,p3⟩
   ·exact .inl p
   ·obtain⟨j',o1,r1,r2,r3,r4⟩:=hb0 i' oi p1
    exact .inr ⟨j',o1,r2,by rw[(renO_same r3).2.1];exact p2,(renPlace_has i2 r1).1 p3⟩
def snapR(st:Store):AVal→Option (AVal×List (Nat×Ob)×List Prop)
 | .tup vs=>(snaps st vs).map fun(vs,f,c)=>(.tup vs,f,c)
 |v=>snap st v
variable {n:Nat} {l0:List (Nat×Ob)} {s:St} {Q:Exit→St→Prop}
theorem Rel.len{a:Act}{t k:Nat}{xs:List Tree}(h:Rel F n s m a w)(hg:get s.sl t= .t (.lst k xs)):xs.length≤9223372036854775807:=by
 have:=h.slots t
 rw[hg] at this
 cases this with
 |t _ _ hT=>
  generalize a.tmps.getD t undef=u at hT
  cases hT with
  |lst _ _ A c us hk hx hn hm hA hl hr=>simp only[maxLen] at hm;omega
theorem Sim.len{c:Code}{t k:Nat}{xs:List Tree}(hg:get s.sl t= .t (.lst k xs))(h:xs.length≤9223372036854775807→Sim P n l0 c s Q):Sim P n l0 c s Q:=
 fun F m0 w0 m a w h0 h1 h2=>h (h1.len hg) F m0 w0 m a w h0 h1 h2
theorem nil_row_ext{id k:Nat}(hid:S id=none)(hS:SRel F S m w)(hk:0<k):SRel F (upd S id (.row k false [])) (place m id (none,0)) w∧FrameExt F S m w (upd S id (.row k false [])) (place m id (none,0)) w:=by
 have hF:=ext_new (F:=F) (S:=S) (m:=m) (w:=w) (w':=w) (o:= .row k false []) (L:=(none,0)) hid rfl rfl rfl (Nat.le_refl _) (fun _ _=>rfl) (fun b hb=>by simp at hb)
 exact⟨hS.new hid hF (fun _ _=>rfl) (fun b hb=>by simp at hb) ⟨hk,fun x hx=>by simp at hx,by simp,by simp[maxLen],.inl ⟨rfl,rfl⟩⟩,hF⟩
theorem Le.nilRow{t k id:Nat}(hg:get s.sl t= .t (.sc (.slice none 0 0)))(hid:Nat.ble s.nx id=true)(hk:Nat.blt 0 k=true):
 Le n l0 s ⟨(t,.row id 0)::s.sl,upd s.st id (.row k false []),id+1⟩:=by
 intro P F m0 w0 m a w h0 h1 h2
 have hid:=Nat.le_of_ble_eq_true hid
 obtain⟨k1,k2⟩:=nil_row_ext (k:=k) (h1.fresh id hid) h1.srel (blt_pos hk)
 refine⟨place m id (none,0),⟨fun t'=> ?_,h1.size,h1.defers.ext k2,k1,fun id' hid'=> ?_⟩,h2.trans h0 k2⟩
 ·simp only[get]
  by_cases e:t=t'
  ·subst e
   have:=h1.slots t
   rw[hg] at this
   have hu:=VRel.sc_inv this
   simp only[Nat.beq_refl,cond_true]
   rw[hu]
   exact .row id 0 k false [] (none,0) (upd_same _ _ _) (Nat.le_refl _) (fun _=>place_same _ _ _)
  ·rw[beq_ne e,cond_false]
   exact k2.val (h1.slots t')
 ·show upd s.st id _ id'=none
  simp only at hid'
  rw[upd_ne (by omega)]
  exact h1.fresh id' (by omega)
theorem Le.nilBox{b i k id:Nat}{cs:List AVal}(hb:s.st b=some (.box cs))(hg:cs[i]? =some (.t (.sc (.slice none 0 0))))(hid:Nat.ble s.nx id=true)(hk:Nat.blt 0 k=true):
 Le n l0 s ⟨s.sl,upd (upd s.st id (.row k false [])) b (.box (cs.set i (.row id 0))),id+1⟩:=by
 intro P F m0 w0 m a w h0 h1 h2
 have hid:=Nat.le_of_ble_eq_true hid
 have hbid:b≠id:=fun e=>by subst e;rw[h1.fresh b hid] at hb;cases hb
 obtain⟨k1,k2⟩:=nil_row_ext (k:=k) (h1.fresh id hid) h1.srel (blt_pos hk)
 have hb':upd s.st id (.row k false []) b=some (.box cs):=by rw[upd_ne hbid];exact hb
 obtain⟨bb,us,e,q1,q2,q3,q4⟩:=k1.objs b _ hb'
 have key:=rewrite_obj (o':= .box (cs.set i (.row id 0))) k1 hb' rfl q1 (w':=w) rfl rfl rfl rfl (fun _ _=>rfl) (by simp[Ob.len]) (by simp[Ob.same]) (fun hF=>by
  refine⟨bb,us,e,q1,q2,by simp[q3],fun j v u hv hu=> ?_⟩
  rw[List.getElem?_set] at hv
  split at hv
  ·rename_i hij
   subst hij
   split at hv
   ·simp only[Option.some.injEq] at hv
    subst hv
    obtain⟨r1,r2⟩:=q4 i _ u hg hu
    have:=VRel.sc_inv r1
    subst this
    exact⟨.row id 0 k false [] (none,0) (by rw[upd_ne (Ne.symm hbid)];exact upd_same _ _ _) (Nat.le_refl _) (fun _=>place_same _ _ _),rfl⟩
   ·cases hv
  ·obtain⟨r1,r2⟩:=q4 j v u hv hu
   exact⟨hF.val r1,r2⟩)
 refine⟨_,⟨fun t'=>key.2.val (k2.val (h1.slots t')),h1.size,h1.defers.ext (k2.trans h1.srel key.2),key.1,fun id' hid'=> ?_⟩,h2.trans h0 (k2.trans h1.srel key.2)⟩
 show upd (upd s.st id _) b _ id'=none
 simp only at hid'
 rw[upd_ne (fun e=>by subst e;rw[h1.fresh id' (by omega)] at hb;cases hb),upd_ne (by omega)]
 exact h1.fresh id' (by omega)
theorem loop_ind{α:Type}{c:Code}(S:α→St)(I:α→Prop)(μ:α→Nat)(round:∀a,I a→(∀b,I b→μ b<μ a→LoopSim P n l0 c (S b) Q)→LoopSim P n l0 c (S a) Q)(a:α)(ha:I a):LoopSim P n l0 c (S a) Q:=by
 have key:∀N a,μ a=N→I a→LoopSim P n l0 c (S a) Q:=by
  intro N
  induction N using Nat.strongRecOn with
  |_ N ih=>intro a hN hI;exact round a hI (fun b hb hlt=>ih (μ b) (hN▸hlt) b rfl hb)
 exact key _ a rfl ha
theorem nw{z:Int}(h: -9223372036854775808≤z∧z≤9223372036854775807):AVal.t (.sc (.int .i64 z))=AVal.t (.sc (.int .i64 (IntKind.i64.wrap z))):=by rw[IntWalk.i64_in z h]
theorem elt_map{α:Type}[Inhabited α]{f:α→Tree}{l:List α}{j:Int}(h0:0≤j)(h:j<l.length):(l.map f)[j.toNat]? =some (f (l.getD j.toNat default)):=by
 have hl:j.toNat<l.length:=by omega
 simp[List.getElem?_eq_getElem hl,List.getD]
theorem elt_map'{α:Type}[Inhabited α]{f:α→Tree}{l:List α}{j:Int}{k:Nat}(e:j=k)(h:k<l.length):(l.map f)[j.toNat]? =some (f (l.getD k default)):=by
 subst e
 simp[List.getElem?_eq_getElem h,List.getD]
def slt(x y:ByteArray):Bool:=Op.bytesLess x.toList y.toList
def seq(x y:ByteArray):Bool:=x.toList==y.toList
end Go.Ab
end
section
set_option linter.unusedVariables false
namespace Go.Ab
variable {P:Program} {W:World}
def CellsR(W:World)(Ts:List Tree)(cs:List Value):Prop:=
 cs.length=Ts.length∧∀(j:Nat) (T:Tree) (u:Value),Ts[j]? =some T→cs[j]? =some u→TRep W (fun b=>b<W.heap.size) T u
theorem cells1{W:World}{T:Tree}{v:Value}(hT:T.cells=[T])(h:TRep W (fun b=>b<W.heap.size) T v):CellsR W T.cells [v]:=by
 rw[hT]
 refine⟨rfl,fun j T' u h1 h2=> ?_⟩
 cases j with
 |zero=>simp at h1 h2;subst h1;subst h2;exact h
 |succ j=>simp at h1
theorem elt1{v:Value}:Elt 1 (.sc v):=⟨rfl,fun T hT=>by simp[Tree.cells] at hT;subst hT;rfl⟩
theorem list_of{α:Type}(n:Nat)(p:Nat→α→Prop)(h:∀i,i<n→∃a,p i a):∃l:List α,l.length=n∧∀i a,l[i]? =some a→p i a:=by
 induction n with
 |zero=>exact⟨[],rfl,fun i a h=>by simp at h⟩
 |succ n ih=>
  obtain⟨l,hl,hp⟩:=ih (fun i hi=>h i (by omega))
  obtain⟨a,ha⟩:=h n (by omega)
  refine⟨l++[a],by simp[hl],fun i b hb=> ?_⟩
  by_cases hi:i<l.length
  ·rw[List.getElem?_append_left hi] at hb;exact hp i b hb
  ·rw[List.getElem?_append_right (by omega)] at hb
   by_cases e:i=n
   ·subst e;rw[hl] at hb;simp at hb;subst hb;exact ha
   ·have:([a]:List α)[i-l.length]? =none:=by simp;omega
    rw[this] at hb;cases hb
theorem cell_same{w w':World}{b c:Nat}(h:w.heap[b]? =w'.heap[b]?):w.cell? ⟨b,c,none⟩=w'.cell? ⟨b,c,none⟩:=by
 unfold World.cell?
 simp only[h]
theorem cell_some{w:World}{b c:Nat}{v:Value}(h:w.cell? ⟨b,c,none⟩=some v):∃o,w.heap[b]? =some o∧∃us e z,o= .cells us e z:=by
 unfold World.cell? at h
 split at h
 ·rename_i us e z hb;exact⟨_,hb,us,e,z,rfl⟩
 ·cases h
structure TabW(P:Program)(W:World):Prop where
 utf:∀a b,P.globalNamed "unicode/utf8.first" =some a→P.globalNamed "unicode/utf8.acceptRanges" =some b→Lib.Utf8Tabs a b W
 var:∀p∈tabVars,∀a,P.globalNamed p.1=some a→∃cs,W.var? P p.1=some cs∧p.2 cs
def tabG(P:Program)(b:Nat):Prop:=P.globalNamed "unicode/utf8.first" =some b∨P.globalNamed "unicode/utf8.acceptRanges" =some b∨∃p∈tabVars,P.globalNamed p.1=some b
def fenW(P:Program)(W:World)(hT:TabW P W):Fen P where
 mem b:=∃o,W.heap[b]? =some o∧tabG P b
 bar _:=False
 says b o:=(∃us e z,o= .cells us e z)∧W.heap[b]? =some o∧tabG P b
 sub _ o h:=⟨o,h.2⟩
 sup _ h:=h.elim
 opn _ _ _ h:=h.elim
 cel _ _ h:=h.1
 rnd:=none
 lo:=0
 tab:=by
  refine⟨fun a b ha hb=> ?_,fun p hp a ha=> ?_⟩
  ·have h:=hT.utf a b ha hb
   obtain⟨x,hx,cx⟩:=cell_some (h.1 0 (by decide))
   obtain⟨y,hy,cy⟩:=cell_some (h.2 0 (by decide)).1
   refine⟨x,y,⟨cx,hx,.inl ha⟩,⟨cy,hy,.inr (.inl hb)⟩,fun w h1 h2=>⟨fun c hc=> ?_,fun i hi=>⟨?_,?_⟩⟩⟩
   ·rw[cell_same (h1.trans hx.symm)];exact h.1 c hc
   ·rw[cell_same (h2.trans hy.symm)];exact(h.2 i hi).1
   ·rw[cell_same (h2.trans hy.symm)];exact(h.2 i hi).2
  ·obtain⟨cs,h1,h2⟩:=hT.var p hp a ha
   unfold World.var? at h1
   rw[ha] at h1
   simp only[Option.bind_some] at h1
   split at h1
   ·rename_i cs' e z hc
    cases h1
    exact⟨cs,e,z,⟨⟨_,_,_,rfl⟩,hc,.inr (.inr ⟨p,hp,ha⟩)⟩,h2⟩
   ·cases h1
theorem FC.law{f:FuncId}{args:List AVal}{v:Value}{us:List Value}(h:FC P f args emp (.t (.sc v)) emp)(hT:TabW P W)(hl:us.length=args.length)
 (hv:∀(i:Nat) (a:AVal) (u:Value),args[i]? =some a→us[i]? =some u→∃T,a= .t T∧TRep W (fun b=>b<W.heap.size) T u):
 Calls P f us.toArray W fun e w'=>e= .returned v∧RowKit.Below W.heap.size W w':=by
 have hS:SRel (fenW P W hT) emp ⟨fun _=>(none,0),fun _=>[]⟩ W:=⟨fun id o h=>(by cases h),fun i j oi oj b h=>(by cases h),fun id o b h=>(by cases h),fun id o b h=>(by cases h),fun b ⟨o,h,_⟩=>(Array.getElem?_eq_some_iff.1 h).1,fun b o h=>h.2.1⟩
 refine(h (fenW P W hT) _ W us hS hl (fun i a u ha hu=> ?_)).mono ?_
 ·obtain⟨T,rfl,hT'⟩:=hv i a u ha hu
  exact .t T u (hT'.mono (fun b hb=>⟨hb,fun h=>h,fun id o h=>by cases h⟩) (fun _ _ _ _ h=>h))
 ·rintro e w' ⟨u,m',rfl,k1,k2,k3⟩
  have:=VRel.sc_inv k3
  subst this
  exact⟨rfl,k2.os,k2.tape,k2.output,k2.size,fun b hb=>k2.block b hb (.inr fun id o h=>by cases h)⟩
end Go.Ab
end
section
set_option linter.unusedVariables false
namespace Go.Ab
open Go
variable {P:Program} {n:Nat} {l0:List (Nat×Ob)} {s:St}
theorem Le.fz{id k:Nat}{xs:List Tree}(hid:s.st id=some (.row k false xs)):Le n l0 s ⟨s.sl,upd s.st id (.row k true xs),s.nx⟩:=by
 intro P F m0 w0 m a w h0 h1 h2
 obtain⟨r1,r2⟩:=freeze h1.srel hid
 refine⟨m,⟨fun t'=>r2.val (h1.slots t'),h1.size,h1.defers.ext r2,r1,fun i hi=> ?_⟩,h2.trans h0 r2⟩
 have hi':s.nx≤i:=hi
 have:i≠id:=fun e=>by subst e;rw[h1.fresh i hi] at hid;cases hid
 show upd s.st id (.row k true xs) i=none
 rw[upd_ne this]
 exact h1.fresh i hi
end Go.Ab
end
section
set_option linter.unusedVariables false
namespace Go.Ab
variable {P:Program} {w w':World} {F:Fen P} {st:Store} {m:Place} {ok ok':Nat→Prop}
def Still(ok:Nat→Prop)(w w':World):Prop:=∀b us e z,ok b→w.heap[b]? =some (.cells us e z)→w'.heap[b]? =w.heap[b]?
theorem cells_of_cell{b o:Nat}{u:Value}(h:w.cell? ⟨b,o,none⟩=some u):∃us e z,w.heap[b]? =some (.cells us e z):=by
 unfold World.cell? at h
 split at h
 ·rename_i c e z hb;exact⟨c,e,z,hb⟩
 ·cases h
theorem Still.cell(h:Still ok w w'){b o:Nat}{u:Value}(hb:ok b)(hc:w.cell? ⟨b,o,none⟩=some u):w'.cell? ⟨b,o,none⟩=some u:=by
 obtain⟨us,e,z,hh⟩:=cells_of_cell hc
 rw[cell_of_heap (h b us e z hb hh)];exact hc
theorem TRep.still(hok:∀b,ok b→ok' b)(hs:Still ok w w'){T:Tree}{v:Value}(h:TRep w ok T v):TRep w' ok' T v:=h.mono hok (fun b o u hb hc=>hs.cell hb hc)
theorem VRel.still(hok:∀b,ok b→ok' b)(hs:Still ok w w'){v:AVal}{u:Value}(h:VRel st m w ok v u):VRel st m w' ok' v u:=by
 induction h with
 |t T u hT=>exact .t T u (hT.still hok hs)
 |xl k xs u hT hc=>exact .xl k xs u (hT.still hok hs) hc
 |row id n k fz xs L h1 h2 h3=>exact .row id n k fz xs L h1 h2 h3
 |ptr id off cs b h1 h2=>exact .ptr id off cs b h1 h2
 |bsl id n cs b h1 h2=>exact .bsl id n cs b h1 h2
 |bslG id n L h1=>exact .bslG id n L h1
 |eptr id n i sub k fz xs b h1 h2 h3=>exact .eptr id n i sub k fz xs b h1 h2 h3
 |mat id fz xs hh L h1 h2=>exact .mat id fz xs hh L h1 h2
 |mptr id i fz xs hh b h1 h2=>exact .mptr id i fz xs hh b h1 h2
 |cptr cs b o us h1 h2 h3 h4 h5=>exact .cptr cs b o us (hok _ h1) h2 h3 (fun j u hu=>hs.cell h1 (h4 j u hu)) (fun j T u a b=>(h5 j T u a b).still hok hs)
 |agg cs us h1 _ h3 ih=>exact .agg cs us h1 ih h3
 |fn f cap us h1 _ ih=>exact .fn f cap us h1 ih
 |tup vs us h1 _ ih=>exact .tup vs us h1 ih
 |cond c v u _ h0 ih=>exact .cond c v u ih h0
 |junk u=>exact .junk u
 |rowG id n L h1=>exact .rowG id n L h1
 |eptrG id n i sub b o h1=>exact .eptrG id n i sub b o h1
 |anyB b=>exact .anyB b
 |ifc t u=>exact .ifc t u
 |tail id n i k fz xs L h1 h2 h3 h4=>exact .tail id n i k fz xs L h1 h2 h3 h4
 |tailG id n i k L h1=>exact .tailG id n i k L h1
 |hdl id o b u h1 h2 h3=>exact .hdl id o b u h1 h2 h3
 |ptrG id off b h1=>exact .ptrG id off b h1
 |yl id Y pre h1=>exact .yl id Y pre h1
theorem RowAt.still(hok:∀b,ok b→ok' b)(hs:Still ok w w'){k:Nat}{xs:List Tree}{L:Option Nat×Nat}(hb:∀b,L.1=some b→w'.heap[b]? =w.heap[b]?)(h:RowAt w ok k xs L):RowAt w' ok' k xs L:=by
 obtain⟨a1,a2,a3,a4,a5⟩:=h
 refine⟨a1,a2,a3,a4,a5.imp (fun h=>h) ?_⟩
 rintro⟨b,us,e,h1,h2,h3,h4,h5⟩
 exact⟨b,us,e,h1,(hb b h1).trans h2,h3,h4,fun j T u p q=>(h5 j T u p q).still hok hs⟩
theorem MRel.still(hok:∀b,ok b→ok' b)(hs:Still ok w w'){v:MV}{u:Value}{c:Option Nat}(hb:∀b,c=some b→w'.heap[b]? =w.heap[b]?)(h:MRel st m w ok v u c):MRel st m w' ok' v u c:=by
 cases v with
 |im T=>exact⟨h.1.still hok hs,h.2⟩
 |cp cs=>exact⟨h.1.still hok hs,h.2⟩
 |bx cs=>
  obtain⟨b,us,e,h1,h2,h3,h4,h5,h6⟩:=h
  exact⟨b,us,e,h1,h2,(hb b h1).trans h3,h4,h5,fun i T u p q=>(h6 i T u p q).still hok hs⟩
 |rw k xs=>
  obtain⟨L,h1,h2,h3⟩:=h
  exact⟨L,h1,h2,h3.still hok hs (fun b e=>hb b (h2.symm.trans e))⟩
theorem ORel.still(hok:∀b,ok b→ok' b)(hs:Still ok w w'){o:Ob}{L:Option Nat×Nat}{g:List Nat}(hx:∀Y pre,o= .ext Y pre→Y.holds pre g w→(∀b,Y.D b→ok b)→Y.holds pre g w')(hb:∀b,(L.1=some b∨b∈g)→w'.heap[b]? =w.heap[b]?)(h:ORel st m w ok o L g):ORel st m w' ok' o L g:=by
 cases o with
 |box cs=>
  obtain⟨b,us,e,h1,h2,h3,h4⟩:=h
  exact⟨b,us,e,h1,(hb b (.inl h1)).trans h2,h3,fun i v u p q=>⟨(h4 i v u p q).1.still hok hs,(h4 i v u p q).2⟩⟩
 |mat fz xs hh=>
  obtain⟨⟨b,us,e,h1,h2,h3,h4⟩,q⟩:=h
  exact⟨⟨b,us,e,h1,(hb b (.inl h1)).trans h2,h3,fun i v u p q=>⟨(h4 i v u p q).1.still hok hs,(h4 i v u p q).2⟩⟩,q⟩
 |row k fz xs=>exact RowAt.still hok hs (fun b e=>hb b (.inl e)) h
 |gone=>exact h
 |siter s pos=>
  obtain⟨b,h1,h2⟩:=h
  exact⟨b,h1,(hb b (.inl h1)).trans h2⟩
 |mp es hh=>
  obtain⟨b,ents,bl,h1,h2,h3,h4,h5,h6,h7⟩:=h
  refine⟨b,ents,bl,h1,(hb b (.inl h1)).trans h2,h3,h4,h5,h6,fun i x e p q=> ?_⟩
  obtain⟨q1,q2,q3⟩:=h7 i x e p q
  have hbl:∀b',bl i=some b'→w'.heap[b']? =w.heap[b']? :=fun b' e'=>hb b' (.inr (h5 i b' (List.getElem?_eq_some_iff.1 p).1 e').1)
  refine⟨q1,q2,?_⟩
  match hh with
  |none=>exact MRel.still hok hs hbl q3
  |some (k',v')=>exact⟨fun e=>⟨(q3.1 e).1.still hok hs,(q3.1 e).2⟩,fun e=>(q3.2 e).still hok hs hbl⟩
 |miter mid n seen=>
  obtain⟨b,bm,h1,h2,h3,h4⟩:=h
  exact⟨b,bm,h1,h2,h3,(hb b (.inl h1)).trans h4⟩
 |ext Y pre=>
  exact⟨h.1,hx Y pre rfl h.2.1 h.2.2,fun b hD=>hok b (h.2.2 b hD)⟩
theorem okB.grow(hsz:w.heap.size≤w'.heap.size){b:Nat}(h:okB F st m w b):okB F st m w' b:=⟨by have:=h.1;omega,h.2⟩
theorem SRel.still(hS:SRel F st m w)(hs:Still (okB F st m w) w w')(hx:∀id Y pre,st id=some (.ext Y pre)→Y.holds pre (m.g id) w→(∀b,Y.D b→okB F st m w b)→Y.holds pre (m.g id) w')(hsz:w.heap.size≤w'.heap.size)(hb:∀id o b,st id=some o→m.has id b→w'.heap[b]? =w.heap[b]?)(hh:∀b o,F.says b o→w'.heap[b]? =some o):SRel F st m w':=
 ⟨fun id o ho=>(hS.objs id o ho).still (fun b h=>h.grow hsz) hs (fun Y pre e=>hx id Y pre (e▸ho)) (fun b h=>hb id o b ho h),hS.inj,hS.avoid,fun id o b ho h=>Nat.lt_of_lt_of_le (hS.lt id o b ho h) hsz,fun b h=>Nat.lt_of_lt_of_le (hS.low b h) hsz,hh⟩
theorem putObj_other{D:Nat}{o:Obj}{b:Nat}(h:b≠D):(w.putObj D o).heap[b]? =w.heap[b]? :=World.putObj_heap_other h
theorem put_mark(hS:SRel F st m w){D:Nat}(hD:w.heap[D]? =some (.deferred (some [])))(hn:∀id o,st id=some o→¬m.has id D):
 SRel F st m (w.putObj D (.deferred none))∧Still (okB F st m w) w (w.putObj D (.deferred none)):=by
 have hs:Still (okB F st m w) w (w.putObj D (.deferred none)):=fun b us e z _ hc=>putObj_other (fun e=>by subst e;rw[hD] at hc;cases hc)
 refine⟨hS.still hs (fun id Y pre hi hh _=>Y.stabD _ _ _ _ D hh hD (fun hg=>hn id _ hi (.inr hg)) (by simp) (fun b hb=>putObj_other hb)) (by simp) (fun id o b ho hb=>putObj_other (fun e=>hn id o ho (e▸hb))) (fun b o h=> ?_),hs⟩
 rw[putObj_other (fun e=> ?_)]
 ·exact hS.hold b o h
 ·subst e
  obtain⟨us,e,z,rfl⟩:=F.cel b o h
  have:=hS.hold b _ h
  rw[hD] at this;cases this
theorem LeavesInM_marks{fn:Func}{tmps:Array Value}{R:Ending→World→Prop}{l0:List (Nat×Ob)}{m0:Place}{w0:World}(hlo:F.lo=w0.heap.size){sl:List (Nat×AVal)}:∀(l:List Nat) (w:World),l.Nodup→
 (∀D∈l,F.lo≤D∧(∀id o,st id=some o→¬m.has id D)∧w.heap[D]? =some (.deferred (some [])))→SRel F st m w→SlotsRel st m w (okB F st m w) sl tmps→FrameExt F (app emp l0) m0 w0 st m w→
 (∀w',SRel F st m w'→SlotsRel st m w' (okB F st m w') sl tmps→FrameExt F (app emp l0) m0 w0 st m w'→∃v,(results fn tmps).run P w'= .ok v w'∧R (.returned v) w')→LeavesInM Fence.wide 0 P fn tmps R (l.map markD) .returning w
 | [],w,_,_,hS,hsl,hF,hR=>by
  obtain⟨v,h1,h2⟩:=hR w hS hsl hF
  exact⟨v,h1,h2⟩
 |D::l,w,hn,hl,hS,hsl,hF,hR=>by
  rw[List.nodup_cons] at hn
  obtain⟨d1,d2,d3⟩:=hl D List.mem_cons_self
  obtain⟨k1,k2⟩:=put_mark hS d3 d2
  refine⟨by simp,.inl ⟨D,_,rfl,run_takeDeferred d3,?_⟩⟩
  refine LeavesInM_marks hlo l _ hn.2 (fun D' hD'=> ?_) k1 (fun t=>(hsl t).still (fun b h=>h.grow (by simp)) k2) ?_ hR
  ·obtain⟨e1,e2,e3⟩:=hl D' (List.mem_cons_of_mem _ hD')
   exact⟨e1,e2,(putObj_other (fun e=>hn.1 (by rw[←e];exact hD'))).trans e3⟩
  ·refine⟨hF.os,hF.tape,hF.output,by simpa using hF.size,fun b hb hf=> ?_,hF.keep,hF.new⟩
   rw[putObj_other (fun e=>by omega)]
   exact hF.block b hb hf
end Go.Ab
end
section
set_option linter.unusedVariables false
namespace Go.Ab
open Go
variable {P:Program} {n:Nat} {l0:List (Nat×Ob)} {s:St}
theorem loadAt_ok{ty:TypeId}{u v:Value}{w:World}(h:(Instr.loadAt ty u).run P w= .ok v w):∃a,u= .pointer (some a)∧(loadVar ty a).run P w= .ok v w:=by
 unfold Instr.loadAt at h
 cases u with
 |pointer p=>
  cases p with
  |some a=>exact⟨a,rfl,by simpa[Instr.sureAddr] using h⟩
  |none=>simp[Instr.sureAddr,stuck] at h
 |_=>simp[Instr.sureAddr,stuck] at h
def loadsM(P:Program)(sl:List (Nat×AVal))(st:Store):List ResultVar→Option (List AVal)
 | []=>some []
 | .tmp t::l=>(loadsM P sl st l).map (get sl t:: ·)
 | .cell t ty::l=>match loadK P ty (get sl t) st Orc.no,loadsM P sl st l with
  |some ⟨v,_,[]⟩,some vs=>some (v::vs)
  |_,_=>none
def resM(P:Program)(rs:List ResultVar)(sl:List (Nat×AVal))(st:Store):Option AVal:=
 match loadsM P sl st rs with
 |some [v]=>some v
 |some vs=>some (.tup vs)
 |none=>none
def FinM(P:Program)(n:Nat)(l0:List (Nat×Ob))(rs:List ResultVar)(res:AVal)(l1:List (Nat×Ob))(e:Exit)(s:St):Prop:=
 (e= .ret∨e= .normal)∧∃s' r0 s2,Le n l0 s s'∧resM P rs s'.sl s'.st=some r0∧Le 1 l0 ⟨[(0,r0)],s'.st,s'.nx⟩ s2∧s2.st=app emp l1∧get s2.sl 0=res
theorem FinM.here{rs:List ResultVar}{res:AVal}{l1:List (Nat×Ob)}{e:Exit}{s':St}(he:e= .ret∨e= .normal)(h:Le n l0 s s')(hs:s'.st=app emp l1)(hr:resM P rs s'.sl s'.st=some res):FinM P n l0 rs res l1 e s:=
 ⟨he,s',res,⟨[(0,res)],s'.st,s'.nx⟩,h,hr,Le.refl _,hs,by simp[get]⟩
theorem FinM.le{rs:List ResultVar}{res:AVal}{l1:List (Nat×Ob)}{e:Exit}{s':St}(h:Le n l0 s s')(k:FinM P n l0 rs res l1 e s'):FinM P n l0 rs res l1 e s:=by
 obtain⟨k1,s2,r0,s3,k2,k3,k4⟩:=k
 exact⟨k1,s2,r0,s3,h.trans k2,k3,k4⟩
theorem loadsM_run{F:Fen P}{m:Place}{w:World}{a:Act}{sl:List (Nat×AVal)}{st:Store}(hS:SRel F st m w)(hsl:∀t,VRel st m w (okB F st m w) (get sl t) (a.tmps.getD t undef))
 (g:ResultVar→Sem Value) (g1:∀t,g (.tmp t)=pure (a.tmps.getD t undef)) (g2:∀t ty b v,a.tmps.getD t undef= .pointer (some b)→(loadVar ty b).run P w= .ok v w→(g (.cell t ty)).run P w= .ok v w):
 ∀(rs:List ResultVar) (vs:List AVal),loadsM P sl st rs=some vs→∃us,(rs.mapM g).run P w= .ok us w∧us.length=vs.length∧∀(i:Nat) (v:AVal) (u:Value),vs[i]? =some v→us[i]? =some u→VRel st m w (okB F st m w) v u
 | [],vs,h=>by
  simp only[loadsM,Option.some.injEq] at h
  subst h
  exact⟨[],by simp,rfl,fun i v u hv=>by simp at hv⟩
 | .tmp t::l,vs,h=>by
  simp only[loadsM,Option.map_eq_some_iff] at h
  obtain⟨vs',h1,rfl⟩:=h
  obtain⟨us,q1,q2,q3⟩:=loadsM_run hS hsl g g1 g2 l vs' h1
  refine⟨a.tmps.getD t undef::us,by rw[List.mapM_cons,g1];simp only[Sem.run_bind,Sem.run_pure,Result.andThen_ok,q1],by simp[q2],fun i v u hv hu=> ?_⟩
  cases i with
  |zero=>simp only[List.getElem?_cons_zero,Option.some.injEq] at hv hu;subst hv;subst hu;exact hsl t
  |succ i=>exact q3 i v u (by simpa using hv) (by simpa using hu)
 | .cell t ty::l,vs,h=>by
  simp only[loadsM] at h
  split at h
  ·rename_i v0 wr vs' hk h1
   simp only[Option.some.injEq] at h
   subst h
   obtain⟨us,q1,q2,q3⟩:=loadsM_run hS hsl g g1 g2 l vs' h1
   obtain⟨v,r1,r2,_⟩:=loadK_sound hk trivial (fun _ _ h=>h) hS (hsl t)
   obtain⟨b,hb,r3⟩:=loadAt_ok r1
   refine⟨v::us,by rw[List.mapM_cons];simp only[Sem.run_bind,Sem.run_pure,g2 t ty b v hb r3,Result.andThen_ok,q1],by simp[q2],fun i v' u hv hu=> ?_⟩
   cases i with
   |zero=>simp only[List.getElem?_cons_zero,Option.some.injEq] at hv hu;subst hv;subst hu;exact r2
   |succ i=>exact q3 i v' u (by simpa using hv) (by simpa using hu)
  ·cases h
theorem FC.of_simM{f:FuncId}{fn:Func}{c:Code}{args:List AVal}{res:AVal}{l1:List (Nat×Ob)}{nx:Nat}(hf:P.funcs[f]? =some fn)(hb:fn.body=some c)(hn:(args.length).ble fn.ntmps=true)
 (hnx:l0.all (fun x=>Nat.blt x.1 nx)=true) (h:Sim P fn.ntmps l0 c ⟨argSlots 0 args,app emp l0,nx⟩ (FinM P fn.ntmps l0 fn.results.toList res l1)):FC P f args (app emp l0) res (app emp l1):=by
 intro F₀ m w us hS hl hr
 obtain⟨F,hF⟩:∃F:Fen P,F={F₀ with rnd:=none,lo:=w.heap.size}:=⟨_,rfl⟩
 have key:∀(F:Fen P),F.rnd=none→F.lo=w.heap.size→SRel F (app emp l0) m w→(∀(i:Nat) (v:AVal) (u:Value),args[i]? =some v→us[i]? =some u→VRel (app emp l0) m w (okB F (app emp l0) m w) v u)→
  Calls P f us.toArray w fun e w'=> ∃v m',e= .returned v∧SRel F (app emp l1) m' w'∧FrameExt F (app emp l0) m w (app emp l1) m' w'∧VRel (app emp l1) m' w' (okB F (app emp l1) m' w') res v:=by
  clear hF F hS hr F₀
  intro F hrnd hlo hS hr
  have hfw:fw F=Fence.wide:=by unfold fw;rw[hrnd];rfl
  have hn:=Nat.le_of_ble_eq_true hn
  refine(callsIn_wide (n:=0)).1 (callsIn_of_wp_marks hf hb trivial ?_ rfl)
  have hrel:Rel F fn.ntmps ⟨argSlots 0 args,app emp l0,nx⟩ m {tmps:=us.toArray++Array.replicate (fn.ntmps-us.toArray.size) undef,defers:=[]} w:=by
   refine⟨fun t=> ?_,by simp;omega,Marks.nil (by omega) (fun l hl=>by rw[hrnd] at hl;cases hl),hS,fun id hid=> ?_⟩
   ·rw[argSlots_get,if_pos (Nat.zero_le _),Nat.sub_zero]
    cases ha:args[t]? with
    |none=>exact .junk _
    |some v=>
     have hlt:t<us.length:=by rw[hl];exact(List.getElem?_eq_some_iff.1 ha).1
     have:=hr t v us[t] ha (List.getElem?_eq_getElem hlt)
     have e:(us.toArray++Array.replicate (fn.ntmps-us.toArray.size) undef).getD t undef=us[t]:=by
      have hlt':t< (us.toArray++Array.replicate (fn.ntmps-us.toArray.size) undef).size:=by simp;omega
      simp[Array.getElem?_append,hlt]
     rw[e];exact this
   ·show app emp l0 id=none
    cases hh:app emp l0 id with
    |none=>rfl
    |some o=>
     obtain⟨x,hx,rfl⟩:=List.mem_map.1 (app_emp_some hh)
     have:=Nat.lt_of_succ_le (Nat.le_of_ble_eq_true (List.all_eq_true.1 hnx x hx))
     simp only at hid
     omega
  have hsim:=h F m w m _ w hS hrel (FrameExt.refl F _ m w)
  rw[hfw] at hsim
  refine wpIn_mono hsim ?_
  rintro e a' w' ⟨s,m1,q1,q2,he,s',r0,s2,hle,hres,hle2,hst,hg⟩
  obtain⟨m2,r1,r2⟩:=hle F m w m1 a' w' hS q1 q2
  suffices hlv:LeavesInM Fence.wide 0 P fn a'.tmps (fun e w'=> ∃v m',e= .returned v∧SRel F (app emp l1) m' w'∧FrameExt F (app emp l0) m w (app emp l1) m' w'∧VRel (app emp l1) m' w' (okB F (app emp l1) m' w') res v) a'.defers .returning w' by
   rcases he with rfl|rfl
   ·exact hlv
   ·exact hlv
  obtain⟨⟨ds,hd1,hd2,hd3⟩,-,-⟩:=r1.defers
  rw[hd1]
  refine LeavesInM_marks hlo ds w' hd2 hd3 r1.srel r1.slots r2 (fun w' g1 g2 g3=> ?_)
  have r1:Rel F fn.ntmps s' m2 {tmps:=a'.tmps,defers:=[]} w':=⟨g2,r1.size,Marks.nil (by have:=g3.size;omega) (fun l hl=>by rw[hrnd] at hl;cases hl),g1,r1.fresh⟩
  have r2:=g3
  have hrun:∃v,(results fn a'.tmps).run P w'= .ok v w'∧VRel s'.st m2 w' (okB F s'.st m2 w') r0 v:=by
   unfold resM at hres
   have key:∀vs,loadsM P s'.sl s'.st fn.results.toList=some vs→∃us:List Value,(results fn a'.tmps).run P w'= .ok (if h:us.toArray.size=1 then us.toArray[0] else .tuple us.toArray) w'∧us.length=vs.length∧
    ∀(i:Nat) (v:AVal) (u:Value),vs[i]? =some v→us[i]? =some u→VRel s'.st m2 w' (okB F s'.st m2 w') v u:=by
    intro vs hvs
    have e2:fn.results=fn.results.toList.toArray:=by simp
    have hg:∀(g:ResultVar→Sem Value),(∀t,g (.tmp t)=pure (a'.tmps.getD t undef))→(∀t ty b v,a'.tmps.getD t undef= .pointer (some b)→(loadVar ty b).run P w'= .ok v w'→(g (.cell t ty)).run P w'= .ok v w')→∃us:List Value,(fn.results.toList.mapM g).run P w'= .ok us w'∧us.length=vs.length∧
     ∀(i:Nat) (v:AVal) (u:Value),vs[i]? =some v→us[i]? =some u→VRel s'.st m2 w' (okB F s'.st m2 w') v u:=fun g g1 g2=>loadsM_run r1.srel r1.slots (a:=a') g g1 g2 fn.results.toList vs hvs
    obtain⟨us,u1,u2,u3⟩:=hg (fun| .tmp t=>pure (a'.tmps.getD t undef)| .cell t type=>do loadVar type (←asAddr (a'.tmps.getD t undef))) (fun t=>rfl) (fun t ty b v hb hl=>by
     have hb':(a'.tmps[t]?).getD undef= .pointer (some b):=by simpa using hb
     simp[hb',asAddr,hl])
    refine⟨us,?_,u2,u3⟩
    unfold results
    rw[e2,List.mapM_toArray]
    simp only[Sem.run_bind,Sem.run_map]
    erw [u1]
    simp only[Result.andThen_ok,Sem.run_pure]
   split at hres
   ·rename_i v hv
    simp only[Option.some.injEq] at hres
    subst hres
    obtain⟨us,u1,u2,u3⟩:=key _ hv
    match us,u2 with
    | [u],_=>exact⟨u,by rw[u1];rfl,u3 0 v u rfl rfl⟩
   ·rename_i vs hne hvs
    simp only[Option.some.injEq] at hres
    subst hres
    obtain⟨us,u1,u2,u3⟩:=key _ hvs
    have h1:us.toArray.size≠1:=by
     intro e
     simp at e
     match vs,u2 with
     | [v],_=>exact hne v rfl
     | [],u2=>simp at u2;rw[u2] at e;cases e
     |_::_::_,u2=>rw[e] at u2;simp at u2
    exact⟨_,by rw[u1,dif_neg h1],.tup _ _ (by simpa using u2) u3⟩
   ·cases hres
  obtain⟨v,hv1,hv2⟩:=hrun
  have hrel2:Rel F 1 ⟨[(0,r0)],s'.st,s'.nx⟩ m2 {tmps:=#[v],defers:=[]} w':=by
   refine⟨fun t=> ?_,rfl,Marks.nil (by have:=g3.size;omega) (fun l hl=>by rw[hrnd] at hl;cases hl),r1.srel,r1.fresh⟩
   simp only[get]
   by_cases e:0=t
   ·subst e;simpa using hv2
   ·rw[beq_ne e,cond_false];exact .junk _
  obtain⟨m3,t1,t2⟩:=hle2 F m w m2 _ w' hS hrel2 r2
  have hv3:=t1.slots 0
  rw[hg] at hv3
  have hv3:VRel s2.st m3 w' (okB F s2.st m3 w') res v:=by simpa using hv3
  rw[hst] at hv3 t2
  have hs1:=t1.srel
  rw[hst] at hs1
  exact⟨v,hv1,v,m3,rfl,hs1,t2,hv3⟩
 have hS':SRel F (app emp l0) m w:=by rw[hF];exact⟨hS.objs,hS.inj,hS.avoid,hS.lt,hS.low,hS.hold⟩
 refine(key F (by rw[hF]) (by rw[hF]) hS' (by rw[hF];exact hr)).mono ?_
 rintro e w' ⟨v,m',rfl,k1,k2,k3⟩
 rw[hF] at k1 k2 k3
 exact⟨v,m',rfl,⟨k1.objs,k1.inj,k1.avoid,k1.lt,k1.low,k1.hold⟩,⟨k2.os,k2.tape,k2.output,k2.size,k2.block,k2.keep,k2.new⟩,k3⟩
end Go.Ab
end
section
set_option linter.unusedVariables false
namespace Go.Ab
variable {P:Program} {w:World} {F:Fen P} {S st:Store} {m:Place}
variable {n:Nat} {l0:List (Nat×Ob)} {s:St} {Q:Exit→St→Prop}
theorem Le.slot{t:Nat}{v v':AVal}(hg:get s.sl t=v)(hv:∀st m w ok u,VRel st m w ok v u→VRel st m w ok v' u):Le n l0 s ⟨(t,v')::s.sl,s.st,s.nx⟩:=by
 intro P F m0 w0 m a w h0 h1 h2
 refine⟨m,⟨fun t'=> ?_,h1.size,h1.defers,h1.srel,h1.fresh⟩,h2⟩
 simp only[get]
 by_cases e:t=t'
 ·subst e
  have:=h1.slots t
  rw[hg] at this
  simp only[Nat.beq_refl,cond_true]
  exact hv _ _ _ _ _ this
 ·rw[beq_ne e,cond_false];exact h1.slots t'
theorem nil_lst{k:Nat}(hk:0<k):∀(st:Store) (m:Place) (w:World) (ok:Nat→Prop) (u:Value),VRel st m w ok (.t (.sc (.slice none 0 0))) u→VRel st m w ok (.t (.lst k [])) u:=by
 intro st m w ok u h
 have:=VRel.sc_inv h
 subst this
 exact .t _ _ (.lst k [] none 0 [] hk (fun x hx=>by simp at hx) (Nat.le_refl _) (by simp[maxLen]) (fun h=>absurd rfl h) (by simp) (fun j T u hT=>by simp[flat] at hT))
theorem Le.nilLst{t k:Nat}(hg:get s.sl t= .t (.sc (.slice none 0 0)))(hk:Nat.blt 0 k=true):Le n l0 s ⟨(t,.t (.lst k []))::s.sl,s.st,s.nx⟩:=
 Le.slot hg (nil_lst (blt_pos hk))
theorem Le.freeze{t:Nat}{v v':AVal}{g:List (Nat×Ob)}{p:List Prop}(hg:get s.sl t=v)(hs:snap s.st v=some (v',g,p))(hp:All p)(hn:g.all (fun x=>Nat.blt x.1 s.nx)=true):Le n l0 s ⟨(t,v')::s.sl,app s.st g,s.nx⟩:=by
 intro P F m0 w0 m a w h0 h1 h2
 have hv:=h1.slots t
 rw[hg] at hv
 have hk:=snap_sound (fun _ _ h=>h) h1.srel hs hp hv
 obtain⟨r1,r2,r3,r4⟩:=freezeAll g s.st h1.srel hk.1
 refine⟨m,⟨fun t'=> ?_,h1.size,h1.defers.ext r2,r1,fun id hid=> ?_⟩,h2.trans h0 r2⟩
 ·simp only[get]
  by_cases e:t=t'
  ·subst e
   simp only[Nat.beq_refl,cond_true]
   exact hk.2 g hk.1 (fun x hx=>hx)
  ·rw[beq_ne e,cond_false]
   exact r2.val (h1.slots t')
 ·show app s.st g id=none
  have hid':s.nx≤id:=hid
  have hm:id∉g.map (·.1):=fun hm=>by
   obtain⟨x,hx,rfl⟩:=List.mem_map.1 hm
   have h1:=List.all_eq_true.1 hn x hx
   have:x.1<s.nx:=Nat.lt_of_succ_le (Nat.le_of_ble_eq_true h1)
   omega
  rw[r4 id hm]
  exact h1.fresh id hid
theorem snapR_sound{S:Store}{m:Place}{w:World}{P:Program}{F:Fen P}(hS:SRel F S m w){v v':AVal}{f:List (Nat×Ob)}{p:List Prop}(h:snapR S v=some (v',f,p))(hp:All p){u:Value}
 (hv:VRel S m w (okB F S m w) v u):SnapOk F S m w v' f u:=by
 cases v with
 |tup vs=>
  simp only[snapR,Option.map_eq_some_iff] at h
  obtain⟨⟨vs',f',p'⟩,h1,h2⟩:=h
  simp only[Prod.mk.injEq] at h2
  obtain⟨rfl,rfl,rfl⟩:=h2
  cases hv with
  |tup _ us' hl' h1'=>
   have:=snaps_sound (fun _ _ h=>h) hS h1 hp hl' h1'
   exact⟨this.2.1,fun g' hg hfg=> .tup vs' us' this.1.symm (fun i v u hv hu=>this.2.2 g' hg hfg i v u hv hu)⟩
 |t T=>simp only[snapR] at h;exact snap_sound (fun _ _ h=>h) hS h hp hv
 |row id n=>simp only[snapR] at h;exact snap_sound (fun _ _ h=>h) hS h hp hv
 |ptr id off=>simp only[snapR] at h;exact snap_sound (fun _ _ h=>h) hS h hp hv
 |eptr id n i sub=>simp only[snapR] at h;exact snap_sound (fun _ _ h=>h) hS h hp hv
 |mat id=>simp only[snapR] at h;exact snap_sound (fun _ _ h=>h) hS h hp hv
 |mptr id i=>simp only[snapR] at h;exact snap_sound (fun _ _ h=>h) hS h hp hv
 |cptr cs=>simp only[snapR] at h;exact snap_sound (fun _ _ h=>h) hS h hp hv
 |agg cs=>simp only[snapR] at h;exact snap_sound (fun _ _ h=>h) hS h hp hv
 |fn f cap=>simp only[snapR] at h;exact snap_sound (fun _ _ h=>h) hS h hp hv
 |cond c v=>simp only[snapR] at h;exact snap_sound (fun _ _ h=>h) hS h hp hv
 |junk=>simp only[snapR] at h;exact snap_sound (fun _ _ h=>h) hS h hp hv
 |anyB=>simp only[snapR] at h;exact snap_sound (fun _ _ h=>h) hS h hp hv
 |ifc=>simp only[snapR] at h;exact snap_sound (fun _ _ h=>h) hS h hp hv
 |tail id n i=>simp only[snapR] at h;exact snap_sound (fun _ _ h=>h) hS h hp hv
 |hdl id=>simp only[snapR] at h;exact snap_sound (fun _ _ h=>h) hS h hp hv
 |xl k xs=>simp only[snapR] at h;exact snap_sound (fun _ _ h=>h) hS h hp hv
 |yl id=>simp only[snapR] at h;exact snap_sound (fun _ _ h=>h) hS h hp hv
 |bsl id n=>simp only[snapR] at h;exact snap_sound (fun _ _ h=>h) hS h hp hv
theorem Le.freezeR{t:Nat}{v v':AVal}{g:List (Nat×Ob)}{p:List Prop}(hg:get s.sl t=v)(hs:snapR s.st v=some (v',g,p))(hp:All p)(hn:g.all (fun x=>Nat.blt x.1 s.nx)=true):Le n l0 s ⟨(t,v')::s.sl,app s.st g,s.nx⟩:=by
 intro P F m0 w0 m a w h0 h1 h2
 have hv:=h1.slots t
 rw[hg] at hv
 have hk:=snapR_sound h1.srel hs hp hv
 obtain⟨r1,r2,r3,r4⟩:=freezeAll g s.st h1.srel hk.1
 refine⟨m,⟨fun t'=> ?_,h1.size,h1.defers.ext r2,r1,fun id hid=> ?_⟩,h2.trans h0 r2⟩
 ·simp only[get]
  by_cases e:t=t'
  ·subst e
   simp only[Nat.beq_refl,cond_true]
   exact hk.2 g hk.1 (fun x hx=>hx)
  ·rw[beq_ne e,cond_false]
   exact r2.val (h1.slots t')
 ·show app s.st g id=none
  have hid':s.nx≤id:=hid
  have hm:id∉g.map (·.1):=fun hm=>by
   obtain⟨x,hx,rfl⟩:=List.mem_map.1 hm
   have h1:=List.all_eq_true.1 hn x hx
   have:x.1<s.nx:=Nat.lt_of_succ_le (Nat.le_of_ble_eq_true h1)
   omega
  rw[r4 id hm]
  exact h1.fresh id hid
theorem len_map{α:Type}{f:α→Tree}{l:List α}:AVal.t (.sc (.int .i64 (l.length:Int)))=AVal.t (.sc (.int .i64 ((l.map f).length:Int))):=by simp
theorem elt_nat{α:Type}[Inhabited α]{f:α→Tree}{l:List α}{k:Nat}(h:k<l.length):(l.map f)[k]? =some (f (l.getD k default)):=by
 simp[List.getElem?_eq_getElem h,List.getD]
theorem eptr_eq{id n i j k:Nat}(h:i=j):AVal.eptr id n i k=AVal.eptr id n j k:=by rw[h]
theorem max_if{k:IntKind}{a b:Int}:AVal.t (.sc (.int k (max a b)))=AVal.t (.sc (.int k (if b>a then b else a))):=by
 congr 3;split<;>omega
theorem min_if{k:IntKind}{a b:Int}:AVal.t (.sc (.int k (min a b)))=AVal.t (.sc (.int k (if b<a then b else a))):=by
 congr 3;split<;>omega
theorem row_append{α:Type}{f:α→Tree}{l l':List α}{ys:List Tree}{id k:Nat}(h:l'.map f=ys):[(id,Ob.row k false ((l++l').map f))]=[(id,Ob.row k false (l.map f++ys))]:=by
 rw[List.map_append,h]
theorem row_set{α:Type}{f:α→Tree}{l:List α}{x:α}{X:Tree}{id k i:Nat}(h:f x=X):[(id,Ob.row k false ((l.set i x).map f))]=[(id,Ob.row k false ((l.map f).set i X))]:=by
 rw[List.map_set,h]
theorem sl_drop{α:Type}{f:α→Tree}{l:List α}{i k:Nat}:AVal.t (.lst k ((l.drop i).map f))=AVal.t (.lst k ((l.map f).drop i)):=by rw[List.map_drop]
theorem sl_take{α:Type}{f:α→Tree}{l:List α}{i k:Nat}:AVal.t (.lst k ((l.take i).map f))=AVal.t (.lst k ((l.map f).take i)):=by rw[List.map_take]
theorem sl_both{α:Type}{f:α→Tree}{l:List α}{i j k:Nat}:AVal.t (.lst k (((l.take i).drop j).map f))=AVal.t (.lst k (((l.map f).take i).drop j)):=by rw[List.map_drop,List.map_take]
theorem Weak.of_eq{d v:AVal}(h:v=d):Weak d v:=by subst h;exact fun _ _ _ _ _ h=>h
theorem tw_nil{k:Nat}(hk:0<k):(Tree.sc (.slice none 0 0)=Tree.lst k []∨(Tree.sc (.slice none 0 0)= .sc (.slice none 0 0)∧∃k',0<k'∧Tree.lst k []= .lst k' [])):= .inr ⟨rfl,k,hk,rfl⟩
end Go.Ab
end
section
set_option linter.unusedVariables false
namespace Go.Ab
open Go
variable {P:Program} {w:World} {F:Fen P} {S st:Store} {m:Place}
variable {n:Nat} {l0:List (Nat×Ob)} {s:St}
theorem Elt.of_cell{x:Tree}(h:x.isCell=true):Elt 1 x:=by
 cases x with
 |agg cs=>simp[Tree.isCell] at h
 |sc v=>exact⟨rfl,fun T hT=>by simp[Tree.cells] at hT;subst hT;exact h⟩
 |lst k xs=>exact⟨rfl,fun T hT=>by simp[Tree.cells] at hT;subst hT;exact h⟩
theorem cells_cell{x:Tree}(h:x.isCell=true):x.cells=[x]:=by cases x<;>first|rfl|simp[Tree.isCell] at h
theorem flat_cells:∀{xs:List Tree},(∀x∈xs,x.isCell=true)→flat xs=xs
 | [],_=>rfl
 |x::xs,h=>by
  rw[flat,cells_cell (h x (by simp)),flat_cells (fun y hy=>h y (by simp[hy]))];rfl
theorem mat_close(hS:SRel F S m w){id i r q k:Nat}{xs ys:List Tree}{fz:Bool}(hid:S id=some (.mat false xs (some (i,r,q))))(hr:S r=some (.row k fz ys))(hq:q=ys.length):
 SRel F (upd (upd S r (.row k true ys)) id (.mat false (xs.set i (.lst k ys)) none)) m w∧FrameExt F S m w (upd (upd S r (.row k true ys)) id (.mat false (xs.set i (.lst k ys)) none)) m w:=by
 have hne:id≠r:=fun e=>by subst e;rw[hid] at hr;cases hr
 obtain⟨f1,f2⟩:=freeze hS hr
 have hid1:upd S r (.row k true ys) id=some (.mat false xs (some (i,r,q))):=by rw[upd_ne hne];exact hid
 obtain⟨⟨b,us,e,q1,q2,q3,q4⟩,p1,p2,p3⟩:=f1.objs id _ hid1
 have hT:=row_tree f1 (upd_same S r (.row k true ys))
 have key:=rewrite_obj (o':= .mat false (xs.set i (.lst k ys)) none) f1 hid1 rfl q1 (w':=w) rfl rfl rfl rfl (fun _ _=>rfl) (by simp[Ob.len]) (by simp[Ob.same]) (fun hF=>by
  refine⟨⟨b,us,e,q1,q2,by rw[q3,matC_len,matC_len];simp,fun j v u hv hu=> ?_⟩,by simpa using p1,by simpa using p2,fun x hx=> ?_⟩
  ·rw[matC_set,List.getElem?_set] at hv
   split at hv
   ·rename_i hij
    split at hv
    ·rename_i hlt
     simp only[Option.some.injEq] at hv
     subst hv;subst hij
     obtain⟨r1,r2⟩:=q4 i (.row r q) u (by simp only[matC,List.getElem?_set,if_true];rw[if_pos (by simpa[matC] using hlt)]) hu
     refine⟨?_,r2⟩
     cases r1 with
     |rowG _ _ L hs'=>rw[upd_same] at hs';cases hs'
     |row _ _ k' fz' ys' L hs' hn' hu'=>
      rw[upd_same] at hs'
      cases hs'
      have hL:=hu' hq
      rw[hL,←hq] at hT
      exact hF.val (.t _ _ hT)
    ·cases hv
   ·rename_i hij
    obtain⟨r1,r2⟩:=q4 j v u (by simp only[matC,List.getElem?_set];rw[if_neg hij];exact hv) hu
    exact⟨hF.val r1,r2⟩
  ·rcases List.mem_or_eq_of_mem_set hx with hx|rfl
   ·exact p3 x hx
   ·rfl)
 exact⟨key.1,f2.trans hS key.2⟩
theorem Le.matClose{id i r q k:Nat}{xs ys:List Tree}{fz:Bool}(hid:s.st id=some (.mat false xs (some (i,r,q))))(hr:s.st r=some (.row k fz ys))(hq:q=ys.length){xs':List Tree}(hx:xs.set i (.lst k ys)=xs'):
 Le n l0 s ⟨s.sl,upd (upd s.st r (.row k true ys)) id (.mat false xs' none),s.nx⟩:=by
 subst hx
 intro P F m0 w0 m a w h0 h1 h2
 obtain⟨r1,r2⟩:=mat_close h1.srel hid hr hq
 refine⟨m,⟨fun t'=>r2.val (h1.slots t'),h1.size,h1.defers.ext r2,r1,fun j hj=> ?_⟩,h2.trans h0 r2⟩
 have hj':s.nx≤j:=hj
 have e1:j≠id:=fun e=>by subst e;rw[h1.fresh j hj] at hid;cases hid
 have e2:j≠r:=fun e=>by subst e;rw[h1.fresh j hj] at hr;cases hr
 show upd (upd s.st r (.row k true ys)) id _ j=none
 rw[upd_ne e1,upd_ne e2]
 exact h1.fresh j hj
theorem mat_freeze(hS:SRel F S m w){id:Nat}{xs:List Tree}(hid:S id=some (.mat false xs none)):
 SRel F (upd S id (.mat true xs none)) m w∧FrameExt F S m w (upd S id (.mat true xs none)) m w∧TRep w (okB F (upd S id (.mat true xs none)) m w) (.lst 1 xs) (rowVal (m id) xs.length):=by
 obtain⟨⟨b,us,e,q1,q2,q3,q4⟩,p1,p2,p3⟩:=hS.objs id _ hid
 obtain⟨k1,k2⟩:=rewrite_obj (o':= .mat true xs none) hS hid rfl q1 (w':=w) rfl rfl rfl rfl (fun _ _=>rfl) (by simp[Ob.len]) (by simp[Ob.same]) (fun hF=>by
  refine⟨⟨b,us,e,q1,q2,q3,fun j v u hv hu=> ?_⟩,p1,p2,p3⟩
  obtain⟨r1,r2⟩:=q4 j v u hv hu
  exact⟨hF.val r1,r2⟩)
 refine⟨k1,k2,?_⟩
 have hid':upd S id (.mat true xs none) id=some (.mat true xs none):=upd_same _ _ _
 obtain⟨⟨b',us',e',q1',q2',q3',q4'⟩,_⟩:=k1.objs id _ hid'
 rw[q1] at q1';cases q1'
 rw[matC_len] at q3'
 have hrv:rowVal (m id) xs.length= .slice (some ⟨b,0,none⟩) xs.length (m id).2:=by simp[rowVal,q1]
 rw[hrv]
 refine .lst 1 xs _ _ us'.toList (by decide) (fun x hx=>Elt.of_cell (p3 x hx)) (by omega) (by omega) (fun _=>⟨b,0,rfl,⟨?_,?_,?_⟩,?_⟩) (by simp;omega) (fun j T u hj hu=> ?_)
 ·exact(Array.getElem?_eq_some_iff.1 q2').1
 ·exact fun hb=>k1.avoid id _ b hid' (.inl q1) (F.sup b hb)
 ·intro i o hi hl hb
  have:=k1.inj id i _ _ b hid' hi (.inl q1) hb
  subst this
  rw[hid'] at hi;cases hi
  simp[Ob.live] at hl
 ·intro j u hu
  simp only[World.cell?,q2'];simpa using hu
 ·rw[flat_cells p3] at hj
  have hv:(matC xs none)[j]? =some (.t T):=by simp[matC,hj]
  obtain⟨r1,_⟩:=q4' j _ u hv (by simpa using hu)
  cases r1 with
  |t _ _ hT=>exact hT
theorem Le.matFreeze{t id:Nat}{xs:List Tree}(hg:get s.sl t= .mat id)(hid:s.st id=some (.mat false xs none)):Le n l0 s ⟨(t,.t (.lst 1 xs))::s.sl,upd s.st id (.mat true xs none),s.nx⟩:=by
 intro P F m0 w0 m a w h0 h1 h2
 obtain⟨r1,r2,r3⟩:=mat_freeze h1.srel hid
 refine⟨m,⟨fun t'=> ?_,h1.size,h1.defers.ext r2,r1,fun j hj=> ?_⟩,h2.trans h0 r2⟩
 ·simp only[get]
  by_cases e:t=t'
  ·subst e
   simp only[Nat.beq_refl,cond_true]
   have hv:=h1.slots t
   rw[hg] at hv
   generalize a.tmps.getD t undef=u at hv⊢
   cases hv with
   |mat _ fz xs' hh L hs' hm=>
    rw[hid] at hs';cases hs'
    subst hm
    exact .t _ _ r3
  ·rw[beq_ne e,cond_false];exact r2.val (h1.slots t')
 ·show upd s.st id _ j=none
  rw[upd_ne (fun e=>by subst e;rw[h1.fresh j hj] at hid;cases hid)]
  exact h1.fresh j hj
end Go.Ab
end
section
set_option linter.unusedVariables false
namespace Go.Ab
open Go
variable {P:Program} {w:World} {F:Fen P} {S st:Store} {m:Place}
variable {n:Nat} {l0:List (Nat×Ob)} {s:St} {Q:Exit→St→Prop}
structure Ox where
 o:Orc
 cs:List Prop
 h:All cs
inductive LeI where
 |nR (t k:Nat)
 |nL (t k:Nat)
 |nB (b i k:Nat)
 |fz (id:Nat)
 |fr (t:Nat) (p:List Prop) (h:All p)
 |eq (t:Nat) (d v:AVal) (h:Weak d v)
 |er (id:Nat) (xs ys:List Tree) (h:xs=ys)
 |kp (ts:List Nat)
 |eb (b i:Nat) (v v':AVal) (h:v=v')
 |mc (id:Nat) (xs':List Tree) (p:List Prop) (h:All p)
 |mf (t:Nat)
 |fR (t:Nat) (p:List Prop) (h:All p)
 |mv (t i j:Nat) (h:i=j)
 |mput (id:Nat) (es':List (Int×MV)) (p:List Prop) (h:All p)
 |mfz (id:Nat) (es':List (Int×MV)) (p:List Prop) (h:All p)
 |me (id:Nat) (es es':List (Int×MV)) (h:es=es')
 |cb (b i:Nat) (ag:Bool) (k:Nat) (p:List Prop) (h:All p)
inductive It where
 |r (xs:List (Nat×Ox))
 |t
 |f
 |u
 |le (x:LeI)
inductive Fr where
 |seq (c:Code)
 |blk (i:Nat)
 |loop (c:Code)
inductive Ctl where
 |run (c:Code)
 |out (e:Exit)
instance:Inhabited Ctl:=⟨.run .skip⟩
structure Cfg where
 ctl:Ctl
 K:List Fr
 s:St
instance:Inhabited Cfg:=⟨⟨default,[],⟨[],emp,0⟩⟩⟩
inductive At where
 |br (b:Bool) (x y:Code) (K:List Fr) (s:St)
 |any (x y:Code) (K:List Fr) (s:St)
 |loop (c:Code) (K:List Fr) (s:St)
 |back (c:Code) (K:List Fr) (s:St)
 |fin (e:Exit) (s:St)
 |mid (c:Code) (K:List Fr) (s:St)
def leR(s:St):LeI→Option (St×List Prop)
 | .nR t k=>match get s.sl t with
  | .t (.sc (.slice none 0 0))=>bif Nat.blt 0 k then some (⟨(t,.row s.nx 0)::s.sl,upd s.st s.nx (.row k false []),s.nx+1⟩,[]) else none
  |_=>none
 | .nL t k=>match get s.sl t with
  | .t (.sc (.slice none 0 0))=>bif Nat.blt 0 k then some (⟨(t,.t (.lst k []))::s.sl,s.st,s.nx⟩,[]) else none
  |_=>none
 | .nB b i k=>match s.st b with
  |some (.box cs)=>match cs[i]? with
   |some (.t (.sc (.slice none 0 0)))=>bif Nat.blt 0 k then some (⟨s.sl,upd (upd s.st s.nx (.row k false [])) b (.box (cs.set i (.row s.nx 0))),s.nx+1⟩,[]) else none
   |_=>none
  |_=>none
 | .fz id=>match s.st id with
  |some (.row k false xs)=>some (⟨s.sl,upd s.st id (.row k true xs),s.nx⟩,[])
  |_=>none
 | .fr t _ _=>match snap s.st (get s.sl t) with
  |some (v',g,p)=>bif g.all (fun x=>Nat.blt x.1 s.nx) then some (⟨(t,v')::s.sl,app s.st g,s.nx⟩,p) else none
  |none=>none
 | .eq t _ v _=>some (⟨(t,v)::s.sl,s.st,s.nx⟩,[Weak (get s.sl t) v])
 | .er id _ ys _=>match s.st id with
  |some (.row k fz xs)=>some (⟨s.sl,upd s.st id (.row k fz ys),s.nx⟩,[xs=ys])
  |_=>none
 | .kp ts=>some (⟨keepS s.sl ts,s.st,s.nx⟩,[])
 | .mc id xs' _ _=>match s.st id with
  |some (.mat false xs (some (i,r,q)))=>match s.st r with
   |some (.row k _ ys)=>some (⟨s.sl,upd (upd s.st r (.row k true ys)) id (.mat false xs' none),s.nx⟩,[q=ys.length,xs.set i (.lst k ys)=xs'])
   |_=>none
  |_=>none
 | .mf t=>match get s.sl t with
  | .mat id=>match s.st id with
   |some (.mat false xs none)=>some (⟨(t,.t (.lst 1 xs))::s.sl,upd s.st id (.mat true xs none),s.nx⟩,[])
   |_=>none
  |_=>none
 | .fR t _ _=>match snapR s.st (get s.sl t) with
  |some (v',g,p)=>bif g.all (fun x=>Nat.blt x.1 s.nx) then some (⟨(t,v')::s.sl,app s.st g,s.nx⟩,p) else none
  |none=>none
 | .mv t _ _ _=>match get s.sl t with
  | .row id q=>match s.st id with
   |some (.row k false xs)=>some (⟨(t,.row s.nx q)::s.sl,upd (upd s.st id .gone) s.nx (.row k false xs),s.nx+1⟩,[q=xs.length])
   |_=>none
  |_=>none
 | .mput id es' _ _=>match s.st id with
  |some (.mp es (some (n,.ptr r 0)))=>match s.st r with
   |some (.box cs)=>bif Nat.beq r id|| !(cs.all isCellV) then none else(allT cs).bind fun Ts=>some (⟨s.sl,upd (upd s.st r .gone) id (.mp es' none),s.nx⟩,[(lookE es n).isSome=true,putE es n (.bx Ts)=es'])
   |_=>none
  |some (.mp es (some (n,.row r q)))=>match s.st r with
   |some (.row k false xs)=>bif Nat.beq r id then none else some (⟨s.sl,upd (upd s.st r .gone) id (.mp es' none),s.nx⟩,[q=xs.length,(lookE es n).isSome=true,putE es n (.rw k xs)=es'])
   |_=>none
  |_=>none
 | .mfz id es' _ _=>match s.st id with
  |some (.mp es none)=>some (⟨s.sl,upd s.st id (.mp es' none),s.nx⟩,[(es.map fun x=>(x.1,frz x.2))=es'])
  |_=>none
 | .me id _ es' _=>match s.st id with
  |some (.mp es h)=>some (⟨s.sl,upd s.st id (.mp es' h),s.nx⟩,[es=es'])
  |_=>none
 | .eb b i _ v' _=>match s.st b with
  |some (.box cs)=>match cs[i]? with
   |some v0=>some (⟨s.sl,upd s.st b (.box (cs.set i v')),s.nx⟩,[v0=v'])
   |none=>none
  |_=>none
 | .cb b0 i ag k _ _=>match s.st b0 with
  |some (.box cs0)=>match cs0[i]? with
   |some (.bsl id q)=>match s.st id with
    |some (.box cs)=>match snapL s.st cs with
     |some (cs',g,p)=>bif !(Nat.beq b0 id)&&(g.all (fun x=>Nat.blt x.1 s.nx&&(!(Nat.beq x.1 id)&& !(Nat.beq x.1 b0)))&&(Nat.blt 0 k&&(Nat.ble (q*k) 16777216&&Nat.beq cs.length (q*k)))) then
      (allT cs').bind fun ts=>(group ag k q ts).bind fun xs=>some (⟨s.sl,upd (upd (upd (app s.st g) id .gone) s.nx (.row k false xs)) b0 (.box (cs0.set i (.row s.nx q))),s.nx+1⟩,p) else none
     |none=>none
    |_=>none
   |_=>none
  |_=>none
def leC:LeI→List Prop
 | .cb _ _ _ _ p _=>p
 | .fr _ p _=>p
 | .eq _ d v _=>[Weak d v]
 | .er _ xs ys _=>[xs=ys]
 | .eb _ _ v v' _=>[v=v']
 | .mc _ _ p _=>p
 | .fR _ p _=>p
 | .mv _ i j _=>[i=j]
 | .mput _ _ p _=>p
 | .mfz _ _ p _=>p
 | .me _ es es' _=>[es=es']
 |_=>[]
def runA(P:Program)(n:Nat)(ops:List Oper)(draw:Bool)(orcs:List (Nat×Orc))(s:St):Option (St×List Prop):=
 match runL P ops orcs s.nx 0 ops s with
 |some (s',rs)=>bif (ops.all (dstOk n))&&(!draw||drawOk ops s.nx rs) then some (⟨s'.sl,s'.st,s.nx+8*ops.length⟩,allC rs) else none
 |none=>none
def oxO:List (Nat×Ox)→List (Nat×Orc)
 | []=>[]
 | (i,x)::l=>(i,x.o)::oxO l
def apC:List Prop→List Prop→List Prop
 | [],t=>t
 |p::l,t=>p::apC l t
def oxC:List (Nat×Ox)→List Prop→List Prop
 | [],t=>t
 | (_,x)::l,t=>apC x.cs (oxC l t)
def csL:List It→List Prop
 | []=>[]
 | .r xs::l=>oxC xs (csL l)
 | .le x::l=>apC (leC x) (csL l)
 |_::l=>csL l
inductive OutR where
 |fin
 |back (c:Code) (K:List Fr)
 |go (ctl:Ctl) (K:List Fr)
def outS(e:Exit):List Fr→OutR
 | []=> .fin
 | .seq c::K=>match e with
  | .normal=> .go (.run c) K
  |e=> .go (.out e) K
 | .blk i::K=>match e with
  | .exit j=>bif Nat.beq j i then .go (.out .normal) K else .go (.out (.exit j)) K
  |e=> .go (.out e) K
 | .loop c::K=>match e with
  | .normal=> .back c K
  |e=> .go (.out e) K
def go(P:Program)(n:Nat):Nat→List It→Ctl→List Fr→St→List Prop→Option (At×List Prop)
 |0,_,_,_,_,_=>none
 |fuel+1,.le x::sc,ctl,K,s,acc=>match leR s x with
  |some (s',C)=>go P n fuel sc ctl K s' (acc++C)
  |none=>none
 |fuel+1,sc,.run c,K,s,acc=>match c with
  | .seq x y=>go P n fuel sc (.run x) (.seq y::K) s acc
  | .skip=>go P n fuel sc (.out .normal) K s acc
  | .ret=>go P n fuel sc (.out .ret) K s acc
  | .exit i=>go P n fuel sc (.out (.exit i)) K s acc
  | .block i c=>go P n fuel sc (.run c) (.blk i::K) s acc
  | .loop c=>match sc with
   | []=>some (.loop c K s,acc)
   | .u::sc=>go P n fuel sc (.run c) (.loop c::K) s acc
   |_=>none
  | .cond c x y=>match ev s.sl c with
   | .t (.sc (.bool b))=>match sc with
    | []=>some (.br b x y K s,acc)
    | .t::sc=>bif b then go P n fuel sc (.run x) K s acc else none
    | .f::sc=>bif b then none else go P n fuel sc (.run y) K s acc
    |_=>none
   | .anyB=>match sc with
    | []=>some (.any x y K s,acc)
    |_=>none
   |_=>none
  | .region id ops draw=>match sc with
   | []=>some (.mid (.region id ops draw) K s,acc)
   | .r xs::sc=>match runA P n ops.toList draw (oxO xs) s with
    |some (s',C)=>go P n fuel sc (.out .normal) K s' (acc++C)
    |none=>none
   |_=>none
  | .rangeFunc g ps a b=>match sc with
   | []=>some (.mid (.rangeFunc g ps a b) K s,acc)
   |_=>none
  |_=>none
 |fuel+1,sc,.out e,K,s,acc=>match outS e K with
  | .fin=>match sc with
   | []=>some (.fin e s,acc)
   |_=>none
  | .back c K=>match sc with
   | []=>some (.back c K s,acc)
   | .u::sc=>go P n fuel sc (.run c) (.loop c::K) s acc
   |_=>none
  | .go ctl K=>go P n fuel sc ctl K s acc
def wrapK(P:Program)(n:Nat)(l0:List (Nat×Ob)):List Fr→(Exit→St→Prop)→Exit→St→Prop
 | [],Q=>Q
 | .seq c::K,Q=>andThen (fun s=>Sim P n l0 c s (wrapK P n l0 K Q)) (wrapK P n l0 K Q)
 | .blk i::K,Q=>inBlk i (wrapK P n l0 K Q)
 | .loop c::K,Q=>andThen (fun s=>LoopSim P n l0 c s (wrapK P n l0 K Q)) (wrapK P n l0 K Q)
def LeClosed(n:Nat)(l0:List (Nat×Ob))(Q:Exit→St→Prop):Prop:=∀e s s',Le n l0 s s'→Q e s'→Q e s
def CtlG(P:Program)(n:Nat)(l0:List (Nat×Ob))(Q:Exit→St→Prop):Ctl→List Fr→St→Prop
 | .run c,K,s=>Sim P n l0 c s (wrapK P n l0 K Q)
 | .out e,K,s=>wrapK P n l0 K Q e s
def AtG(P:Program)(n:Nat)(l0:List (Nat×Ob))(Q:Exit→St→Prop):At→Prop
 | .any x y K s=>Sim P n l0 x s (wrapK P n l0 K Q)∧Sim P n l0 y s (wrapK P n l0 K Q)
 | .br b x y K s=>(b=true→Sim P n l0 x s (wrapK P n l0 K Q))∧(b=false→Sim P n l0 y s (wrapK P n l0 K Q))
 | .loop c K s=>LoopSim P n l0 c s (wrapK P n l0 K Q)
 | .back c K s=>LoopSim P n l0 c s (wrapK P n l0 K Q)
 | .fin e s=>Q e s
 | .mid c K s=>Sim P n l0 c s (wrapK P n l0 K Q)
theorem wrapK_le(hQ:LeClosed n l0 Q):∀(K:List Fr),LeClosed n l0 (wrapK P n l0 K Q)
 | []=>hQ
 | .seq c::K=>fun e s s' h k=>by
  cases e with
  |normal=>exact Sim.weaken h k
  |_=>exact wrapK_le hQ K _ s s' h k
 | .blk i::K=>fun e s s' h k=>by
  cases e with
  |exit j=>
   simp only[wrapK,inBlk] at k⊢
   split
   ·rename_i hj;rw[if_pos hj] at k;exact wrapK_le hQ K _ s s' h k
   ·rename_i hj;rw[if_neg hj] at k;exact wrapK_le hQ K _ s s' h k
  |_=>exact wrapK_le hQ K _ s s' h k
 | .loop c::K=>fun e s s' h k=>by
  cases e with
  |normal=>exact LoopSim.weaken h k
  |_=>exact wrapK_le hQ K _ s s' h k
theorem CtlG_le(hQ:LeClosed n l0 Q){ctl:Ctl}{K:List Fr}{s s':St}(h:Le n l0 s s')(k:CtlG P n l0 Q ctl K s'):CtlG P n l0 Q ctl K s:=by
 cases ctl with
 |run c=>exact Sim.weaken h k
 |out e=>exact wrapK_le hQ K e s s' h k
theorem Le.row{id k:Nat}{fz:Bool}{xs ys:List Tree}(hid:s.st id=some (.row k fz xs))(h:xs=ys):Le n l0 s ⟨s.sl,upd s.st id (.row k fz ys),s.nx⟩:=by
 have e:upd s.st id (.row k fz ys)=s.st:=by
  funext j
  unfold upd
  by_cases hj:j=id
  ·subst hj;simp[hid,h]
  ·rw[beq_ne hj];rfl
 rw[e]
 exact fun P F m0 w0 m a w h0 h1 h2=>⟨m,h1,h2⟩
theorem Le.boxE{b i:Nat}{cs:List AVal}{v0 v:AVal}(hb:s.st b=some (.box cs))(hi:cs[i]? =some v0)(h:v0=v):Le n l0 s ⟨s.sl,upd s.st b (.box (cs.set i v)),s.nx⟩:=by
 subst h
 have e0:cs.set i v0=cs:=by
  apply List.ext_getElem?
  intro j
  rw[List.getElem?_set]
  split
  ·rename_i hj;subst hj
   have:=(List.getElem?_eq_some_iff.1 hi).1
   rw[if_pos this,hi]
  ·rfl
 have e:upd s.st b (.box (cs.set i v0))=s.st:=by
  funext j
  unfold upd
  by_cases hj:j=b
  ·subst hj;simp[hb,e0]
  ·rw[beq_ne hj];rfl
 rw[e]
 exact fun P F m0 w0 m a w h0 h1 h2=>⟨m,h1,h2⟩
theorem Le.keep(ts:List Nat):Le n l0 s ⟨keepS s.sl ts,s.st,s.nx⟩:=by
 intro P F m0 w0 m a w h0 h1 h2
 exact⟨m,⟨h1.slots.keep ts,h1.size,h1.defers,h1.srel,h1.fresh⟩,h2⟩
theorem Le.mvRow{t id q k:Nat}{xs:List Tree}(hg:get s.sl t= .row id q)(hs:s.st id=some (.row k false xs))(hq:q=xs.length):
 Le n l0 s ⟨(t,.row s.nx q)::s.sl,upd (upd s.st id .gone) s.nx (.row k false xs),s.nx+1⟩:=by
 intro P F m0 w0 m a w h0 h1 h2
 have hn:s.st s.nx=none:=h1.fresh s.nx (Nat.le_refl _)
 obtain⟨k1,k2⟩:=shrink_obj h1.srel hs hn (Nat.le_refl xs.length)
 rw[List.take_length] at k1 k2
 refine⟨_,⟨fun t'=> ?_,h1.size,h1.defers.ext k2,k1,fun id' hid'=> ?_⟩,h2.trans h0 k2⟩
 ·simp only[get]
  by_cases e:t=t'
  ·subst e
   have hv:=h1.slots t
   rw[hg] at hv
   simp only[Nat.beq_refl,cond_true]
   generalize a.tmps.getD t undef=u at hv
   cases hv with
   |row _ _ k' fz' xs' L hs' hn' hu'=>
    rw[hs] at hs';cases hs'
    have:=hu' hq
    exact .row s.nx q k false xs L (upd_same _ _ _) (by omega) (fun _=>by rw[place_same];exact this)
   |rowG _ _ L hs'=>rw[hs] at hs';cases hs'
  ·rw[beq_ne e,cond_false]
   exact k2.val (h1.slots t')
 ·show upd (upd s.st id .gone) s.nx _ id'=none
  simp only at hid'
  have hne:id'≠id:=fun e=>by subst e;rw[h1.fresh id' (by omega)] at hs;cases hs
  rw[upd_ne (by omega),upd_ne hne]
  exact h1.fresh id' (by omega)
theorem Le.closeB{b0 i id q k:Nat}{ag:Bool}{cs0 cs cs':List AVal}{g:List (Nat×Ob)}{p:List Prop}{ts xs:List Tree}(hb0:s.st b0=some (.box cs0))(hg:cs0[i]? =some (.bsl id q))(hs:s.st id=some (.box cs))(e1:snapL s.st cs=some (cs',g,p))(hp:All p)
 (hne0:b0≠id) (hk:g.all (fun x=>Nat.blt x.1 s.nx&&(!(Nat.beq x.1 id)&& !(Nat.beq x.1 b0)))=true) (hk0:0<k) (hbig:q*k≤16777216) (hcl:cs.length=q*k) (e2:allT cs'=some ts) (e3:group ag k q ts=some xs):
 Le n l0 s ⟨s.sl,upd (upd (upd (app s.st g) id .gone) s.nx (.row k false xs)) b0 (.box (cs0.set i (.row s.nx q))),s.nx+1⟩:=by
 intro P F m0 w0 m a w h0 h1 h2
 obtain⟨bb,us0,e0,p1,p2,p3,p4⟩:=h1.srel.objs b0 _ hb0
 have hil:i<us0.size:=by rw[p3];exact(List.getElem?_eq_some_iff.1 hg).1
 have hu0:us0[i]? =some us0[i]:=Array.getElem?_eq_getElem hil
 have hv:=(p4 i _ _ hg hu0).1
 generalize hw0:us0[i]=u0 at hv
 rw[hw0] at hu0
 cases hv with
 |bslG _ _ L hs'=>rw[hs] at hs';cases hs'
 |bsl _ _ cs1 b hs' hm=>
 rw[hs] at hs';cases hs'
 obtain⟨b',us,e,q1,q2,q3,q4⟩:=h1.srel.objs id _ hs
 rw[hm] at q1;cases q1
 have hsn:=snapL_sound (fun _ _ h=>h) h1.srel e1 hp (us:=us.toList) (by simp[q3]) (fun i v u hv hu=>(q4 i v u hv (by simpa using hu)).1)
 obtain⟨r1,r2,r3,r4⟩:=freezeAll g s.st h1.srel hsn.2.1
 have hno:∀j,j∈g.map (·.1)→j<s.nx∧j≠id∧j≠b0:=fun j hj=>by
  obtain⟨x,hx,rfl⟩:=List.mem_map.1 hj
  have:=List.all_eq_true.1 hk x hx
  simp only[Bool.and_eq_true,Bool.not_eq_true'] at this
  exact⟨Nat.lt_of_succ_le (Nat.le_of_ble_eq_true this.1),fun e=>by rw[e] at this;simp at this,fun e=>by rw[e] at this;simp at this⟩
 have hidg:app s.st g id=some (.box cs):=by rw[r4 id (fun h=>(hno id h).2.1 rfl)];exact hs
 have hn:app s.st g s.nx=none:=by rw[r4 s.nx (fun h=>absurd (hno _ h).1 (Nat.lt_irrefl _))];exact h1.fresh s.nx (Nat.le_refl _)
 have hbn:b0≠s.nx:=fun e=>by rw[e,h1.fresh s.nx (Nat.le_refl _)] at hb0;cases hb0
 have hts:=allT_some e2
 have hrep:∀(j:Nat) (T:Tree) (u:Value),ts[j]? =some T→us[j]? =some u→TRep w (okB F (app s.st g) m w) T u:=fun j T u hT hu=>by
  have:=hsn.2.2 g hsn.2.1 (fun x hx=>hx) j (.t T) u (by rw[hts,List.getElem?_map,hT];rfl) (by simpa using hu)
  cases this with
  |t _ _ h=>exact h
 have hone:∀(j:Nat) (u:Value),us[j]? =some u→u.oneCell'=true:=fun j u hu=>by
  have hj:j<cs.length:=by rw[←q3];exact(Array.getElem?_eq_some_iff.1 hu).1
  exact(q4 j _ u (List.getElem?_eq_getElem hj) hu).2
 have htl:ts.length=us.size:=by have:=hsn.1;rw[hts] at this;simpa using this
 have hcellT:∀T∈ts,T.isCell=true:=fun T hT=>by
  obtain⟨j,hj,rfl⟩:=List.mem_iff_getElem.1 hT
  have hj':j<us.size:=by rw[←htl];exact hj
  have a1:=hrep j _ us[j] (List.getElem?_eq_getElem hj) (Array.getElem?_eq_getElem hj')
  have a2:=hone j us[j] (Array.getElem?_eq_getElem hj')
  generalize ts[j]=T at a1
  generalize us[j]=u at a1 a2
  cases a1 with
  |agg=>simp[Value.oneCell'] at a2
  |sc=>rfl
  |lst=>rfl
 obtain⟨g1,g2,g3⟩:=group_some e3 hcellT
 obtain⟨k1,k2⟩:=move_to (o':= .row k false xs) r1 hidg hn rfl trivial (by simp[Ob.len]) (fun hF=>by
  refine⟨hk0,g3,by rw[g2,hm];exact Nat.le_refl _,?_,.inr ⟨b,us,e,by rw[hm],q2,by rw[q3,hcl,hm],hone,fun j T u hj hu=>hF.tree (hrep j T u (by rw[←g1];exact hj) hu)⟩⟩
  have:=Nat.le_mul_of_pos_right q hk0
  rw[hm];simp only[maxLen];omega)
 have hb':upd (upd (app s.st g) id .gone) s.nx (.row k false xs) b0=some (.box cs0):=by rw[upd_ne hbn,upd_ne hne0,r4 b0 (fun h=>(hno _ h).2.2 rfl)];exact hb0
 obtain⟨bb',us',e',s1,s2,s3,s4⟩:=k1.objs b0 _ hb'
 have s1':=s1
 rw[place_ne hbn,place_ne hne0,p1] at s1'
 cases s1'
 have hss:=p2.symm.trans s2
 simp only[Option.some.injEq,Go.Obj.cells.injEq] at hss
 have key:=rewrite_obj (o':= .box (cs0.set i (.row s.nx q))) k1 hb' rfl s1 (w':=w) rfl rfl rfl rfl (fun _ _=>rfl) (by simp[Ob.len]) (by simp[Ob.same]) (fun hF=>by
  refine⟨bb,us',e',s1,s2,by simp[s3],fun j v u hv hu=> ?_⟩
  rw[List.getElem?_set] at hv
  split at hv
  ·rename_i hij
   subst hij
   split at hv
   ·simp only[Option.some.injEq] at hv
    subst hv
    rw[←hss.1,hu0] at hu
    cases hu
    exact⟨.row s.nx q k false xs (some b,q) (by rw[upd_ne (Ne.symm hbn)];exact upd_same _ _ _) (by omega) (fun _=>by rw[place_same];exact hm),rfl⟩
   ·cases hv
  ·obtain⟨t1,t2⟩:=s4 j v u hv hu
   exact⟨hF.val t1,t2⟩)
 have k3:=(r2.trans h1.srel k2).trans h1.srel key.2
 refine⟨_,⟨fun t'=>k3.val (h1.slots t'),h1.size,h1.defers.ext k3,key.1,fun id' hid'=> ?_⟩,h2.trans h0 k3⟩
 show upd (upd (upd (app s.st g) id .gone) s.nx _) b0 _ id'=none
 simp only at hid'
 have hne:∀x ob,s.st x=some ob→id'≠x:=fun x ob hx e=>by subst e;rw[h1.fresh id' (by omega)] at hx;cases hx
 rw[upd_ne (hne _ _ hb0),upd_ne (by omega),upd_ne (hne _ _ hs),r4 id' (fun h=>by have:=(hno _ h).1;omega)]
 exact h1.fresh id' (by omega)
theorem upd_fresh{S:Store}{nx id i:Nat}{o o':Ob}(h:∀id,nx≤id→S id=none)(hi:S i=some o')(hid:nx≤id):upd S i o id=none:=by
 have:id≠i:=fun e=>by subst e;rw[h id hid] at hi;cases hi
 rw[upd_ne this];exact h id hid
theorem Le.ghost'{S':Store}(h:∀{P:Program} (F:Fen P) (m:Place) (w:World),SRel F s.st m w→(∀id,s.nx≤id→s.st id=none)→(∀id,s.nx≤id→S' id=none)∧∃m',SRel F S' m' w∧FrameExt F s.st m w S' m' w):Le n l0 s ⟨s.sl,S',s.nx⟩:=by
 intro P F m0 w0 m a w h0 h1 h2
 obtain⟨hn,m',k1,k2⟩:=h F m w h1.srel h1.fresh
 exact⟨m',⟨fun t=>k2.val (h1.slots t),h1.size,h1.defers.ext k2,k1,hn⟩,h2.trans h0 k2⟩
theorem Le.mput{id r:Nat}{es es':List (Int×MV)}{k:Int}{v:AVal}{o:Ob}{mv:MV}(hid:s.st id=some (.mp es (some (k,v))))(hr:s.st r=some o)(hlive:o.live=true)(hsame:o.same .gone)
 (hlen:∀{P:Program} (F:Fen P) (m:Place) (w:World),SRel F s.st m w→o.len<18446744073709551616) (hri:r≠id) (hl:(lookE es k).isSome=true) (he:putE es k mv=es')
 (hv:∀{P:Program} (F:Fen P) (m:Place) (w:World),SRel F s.st m w→∀u,VRel s.st m w (okB F s.st m w) v u→∀S' m' w',FrameExt F s.st m w S' m' w'→(∀x,(m r).1=some x→w'.heap[x]? =w.heap[x]?)→MRel S' m' w' (okB F S' m' w') mv u (m r).1):
 Le n l0 s ⟨s.sl,upd (upd s.st r .gone) id (.mp es' none),s.nx⟩:=by
 subst he
 obtain⟨v0,hv0⟩:=Option.isSome_iff_exists.1 hl
 obtain⟨i,h1,h2⟩:=lookE_some hv0
 refine Le.ghost' (fun F m w hS hf=>⟨fun id' hid'=> ?_,put_back hS hid h1 h2 hr hlive hsame (hlen F m w hS) hri (hv F m w hS)⟩)
 have e1:id'≠id:=fun e=>by subst e;rw[hf id' hid'] at hid;cases hid
 rw[upd_ne e1]
 exact upd_fresh hf hr hid'
theorem leR_sound{x:LeI}{s':St}{C:List Prop}(h:leR s x=some (s',C))(hC:All C):Le n l0 s s':=by
 cases x with
 |nR t k=>
  simp only[leR] at h
  split at h
  ·rename_i hg
   obtain⟨hk,h⟩:=bif_some h
   cases h
   exact Le.nilRow hg (by simp) hk
  ·cases h
 |nL t k=>
  simp only[leR] at h
  split at h
  ·rename_i hg
   obtain⟨hk,h⟩:=bif_some h
   cases h
   exact Le.nilLst hg hk
  ·cases h
 |nB b i k=>
  simp only[leR] at h
  split at h
  ·rename_i cs hb
   split at h
   ·rename_i hg
    obtain⟨hk,h⟩:=bif_some h
    cases h
    exact Le.nilBox hb hg (by simp) hk
   ·cases h
  ·cases h
 |fz id=>
  simp only[leR] at h
  split at h
  ·rename_i hb;cases h;exact Le.fz hb
  ·cases h
 |fr t p hp=>
  simp only[leR] at h
  split at h
  ·rename_i v' g p hs
   obtain⟨hk,h⟩:=bif_some h
   cases h
   exact Le.freeze rfl hs hC hk
  ·cases h
 |fR t p hp=>
  simp only[leR] at h
  split at h
  ·rename_i v' g p hs
   obtain⟨hk,h⟩:=bif_some h
   cases h
   exact Le.freezeR rfl hs hC hk
  ·cases h
 |eq t d v hw=>
  simp only[leR] at h
  cases h
  exact Le.slot rfl hC.1
 |er id xs ys he=>
  simp only[leR] at h
  split at h
  ·rename_i hb;cases h;exact Le.row hb hC.1
  ·cases h
 |kp ts=>
  simp only[leR] at h
  cases h
  exact Le.keep ts
 |mc id xs' p hp=>
  simp only[leR] at h
  split at h
  ·rename_i hid
   split at h
   ·rename_i hr
    cases h
    exact Le.matClose hid hr hC.1 hC.2.1
   ·cases h
  ·cases h
 |mf t=>
  simp only[leR] at h
  split at h
  ·rename_i hg
   split at h
   ·rename_i hid;cases h;exact Le.matFreeze hg hid
   ·cases h
  ·cases h
 |cb b0 i ag k p hp=>
  simp only[leR] at h
  split at h
  rotate_left
  ·cases h
  rename_i cs0 hb0
  split at h
  rotate_left
  ·cases h
  rename_i id q hg
  split at h
  rotate_left
  ·cases h
  rename_i cs hs
  split at h
  rotate_left
  ·cases h
  rename_i cs' g p hsn
  obtain⟨hk,h⟩:=bif_some h
  simp only[Option.bind_eq_some_iff] at h
  obtain⟨ts,h1,xs,h2,h⟩:=h
  cases h
  simp only[Bool.and_eq_true,Bool.not_eq_true'] at hk
  obtain⟨c1,c2,c3,c4,c5⟩:=hk
  exact Le.closeB hb0 hg hs hsn hC (fun e=>by rw[e] at c1;simp at c1) c2 (blt_pos c3) (Nat.le_of_ble_eq_true c4) (Nat.eq_of_beq_eq_true c5) h1 h2
 |mv t i j he=>
  simp only[leR] at h
  split at h
  ·rename_i hg
   split at h
   ·rename_i hid;cases h;exact Le.mvRow hg hid hC.1
   ·cases h
  ·cases h
 |mput id es' p hp=>
  simp only[leR] at h
  split at h
  ·rename_i es k r hid
   split at h
   ·rename_i cs hr
    cases hri:(Nat.beq r id|| !cs.all isCellV) with
    |true=>rw[hri] at h;cases h
    |false=>
     rw[hri,cond_false] at h
     simp only[Option.bind_eq_some_iff,Option.some.injEq,Prod.mk.injEq] at h
     obtain⟨Ts,hTs,rfl,rfl⟩:=h
     simp only[Bool.or_eq_false_iff] at hri
     have hne:r≠id:=fun e=>by subst e;simp at hri
     obtain⟨c1,c2,-⟩:=hC
     have hcs:=allT_some hTs
     subst hcs
     refine @Le.mput _ _ _ _ _ _ _ _ _ _ (.bx Ts) hid hr rfl trivial (fun F m w hS=>by simp[Ob.len]) hne c1 c2 (@fun P F m w hS u hv S' m' w' hF hx=> ?_)
     obtain⟨bb,us,ty,q1,q2,q3,q4⟩:=hS.objs r _ hr
     have huv:u= .pointer (some ⟨bb,0,none⟩):=by
      cases hv with
      |ptrG _ _ _ hs'=>rw[hr] at hs';cases hs'
      |ptr _ _ cs' b' hs' hm=>rw[q1] at hm;cases hm;rfl
     refine⟨bb,us,ty,q1,huv,(hx bb q1).trans q2,by simpa using q3,fun T hT=> ?_,fun i T u a b'=>hF.tree ?_⟩
     ·have:=hri.2
      simp only[Bool.not_eq_false',List.all_eq_true] at this
      exact this (.t T) (List.mem_map.2 ⟨T,hT,rfl⟩)
     ·have:=(q4 i (.t T) u (by simp[a]) b').1
      cases this with
      |t _ _ h=>exact h
   ·cases h
  ·rename_i es k r q hid
   split at h
   ·rename_i k' xs hr
    cases hri:Nat.beq r id with
    |true=>rw[hri] at h;cases h
    |false=>
     rw[hri,cond_false] at h
     simp only[Option.some.injEq,Prod.mk.injEq] at h
     obtain⟨rfl,rfl⟩:=h
     have hne:r≠id:=fun e=>by subst e;simp at hri
     obtain⟨c0,c1,c2,-⟩:=hC
     refine @Le.mput _ _ _ _ _ _ _ _ _ _ (.rw k' xs) hid hr rfl trivial (@fun P F m w hS=> ?_) hne c1 c2 (@fun P F m w hS u hv S' m' w' hF hx=> ?_)
     ·obtain⟨_,_,a3,a4,_⟩:=hS.objs r _ hr
      simp only[maxLen] at a4;simp only[Ob.len];omega
     ·refine⟨m r,?_,rfl,RowAt.persist hF (hS.objs r _ hr) hx⟩
      cases hv with
      |rowG _ _ L hs'=>rw[hr] at hs';cases hs'
      |row _ _ k'' fz' xs' L hs' hn' hu'=>
       rw[hr] at hs';cases hs'
       rw[hu' c0,c0]
   ·cases h
  ·cases h
 |mfz id es' p hp=>
  simp only[leR] at h
  split at h
  ·rename_i es hid
   simp only[Option.some.injEq,Prod.mk.injEq] at h
   obtain⟨rfl,rfl⟩:=h
   obtain⟨rfl,-⟩:=hC
   exact Le.ghost' (fun F m w hS hf=>⟨fun id' hid'=>upd_fresh hf hid hid',free_all hS hid⟩)
  ·cases h
 |me id es1 es' he=>
  simp only[leR] at h
  split at h
  ·rename_i es hh hid
   simp only[Option.some.injEq,Prod.mk.injEq] at h
   obtain⟨rfl,rfl⟩:=h
   obtain⟨rfl,-⟩:=hC
   have e:upd s.st id (.mp es hh)=s.st:=by
    funext j
    unfold upd
    by_cases hj:j=id
    ·subst hj;simp[hid]
    ·rw[beq_ne hj];rfl
   rw[e]
   exact fun P F m0 w0 m a w h0 h1 h2=>⟨m,h1,h2⟩
  ·cases h
 |eb b i v v' he=>
  simp only[leR] at h
  split at h
  ·rename_i cs hb
   split at h
   ·rename_i v0 hi;cases h;exact Le.boxE hb hi hC.1
   ·cases h
  ·cases h
theorem get_keepS_all:∀(ks:List Nat) (sl:List (Nat×AVal)) (t:Nat),t∈ks→get (keepS sl ks) t=get sl t
 |k::ks,sl,t,h=>by
  simp only[keepS,get]
  by_cases e:k=t
  ·subst e;simp
  ·rw[beq_ne e]
   rcases List.mem_cons.1 h with h|h
   ·exact absurd h.symm e
   ·exact get_keepS_all ks sl t h
theorem get_not:∀(sl:List (Nat×AVal)) (t:Nat),t∉sl.map (·.1)→get sl t= .junk
 | [],t,h=>rfl
 | (k,v)::sl,t,h=>by
  simp only[List.map_cons,List.mem_cons,not_or] at h
  simp only[get]
  rw[beq_ne (Ne.symm h.1)]
  exact get_not sl t h.2
theorem get_keepS_keys(sl:List (Nat×AVal))(t:Nat):get (keepS sl (sl.map (·.1))) t=get sl t:=by
 by_cases h:t∈sl.map (·.1)
 ·exact get_keepS_all _ _ _ h
 ·rcases keepS_get (sl.map (·.1)) sl t with e|e
  ·exact e
  ·rw[e,get_not sl t h]
theorem Rel.slots_eq{sl sl':List (Nat×AVal)}{st:Store}{nx:Nat}{a:Act}(h:Rel F n ⟨sl,st,nx⟩ m a w)(e:∀t,get sl' t=get sl t):Rel F n ⟨sl',st,nx⟩ m a w:=
 ⟨fun t=>by rw[e];exact h.slots t,h.size,h.defers,h.srel,h.fresh⟩
theorem runA_sim(hm:P.follows .mixedOrders=true){id:Nat}{ops:Array Oper}{draw:Bool}{orcs:List (Nat×Orc)}{s':St}{C:List Prop}(h:runA P n ops.toList draw orcs s=some (s',C))(hC:All C)(hq:Q .normal s'):
 Sim P n l0 (.region id ops draw) s Q:=by
 unfold runA at h
 split at h
 rotate_left
 ·cases h
 rename_i s2 rs hrun
 obtain⟨h1,h2⟩:=bif_some h
 cases h2
 have hR:runR P n ops.toList draw orcs (s2.sl.map (·.1)) s=some (⟨keepS s2.sl (s2.sl.map (·.1)),s2.st,s.nx+8*ops.toList.length⟩,allC rs):=by
  unfold runR
  rw[hrun]
  simp only[h1,cond_true]
 intro F m0 w0 m a w h0 r1 r2
 cases draw with
 |false=>
  have:=runR_text hR hC r1 (Q:=fun e a' w'=> ∃s' m',Rel F n s' m' a' w'∧FrameExt F (app emp l0) m0 w0 s'.st m' w'∧Q e s') (fun m' a' w' q1 q2=>⟨⟨s2.sl,s2.st,s.nx+8*ops.toList.length⟩,m',q1.slots_eq (fun t=>(get_keepS_keys _ t).symm),r2.trans h0 q2,hq⟩) id
  simpa using this
 |true=>
  have:=runR_draw hm hR hC r1 (Q:=fun e a' w'=> ∃s' m',Rel F n s' m' a' w'∧FrameExt F (app emp l0) m0 w0 s'.st m' w'∧Q e s') (fun m' a' w' q1 q2=>⟨⟨s2.sl,s2.st,s.nx+8*ops.toList.length⟩,m',q1.slots_eq (fun t=>(get_keepS_keys _ t).symm),r2.trans h0 q2,hq⟩) id
  simpa using this
theorem All_app{a b:List Prop}:All (a++b)↔All a∧All b:=All_append
theorem outS_fin{e:Exit}{K:List Fr}(h:outS e K= .fin):K=[]:=by
 cases K with
 |nil=>rfl
 |cons f K=>
  cases f with
  |seq c=>cases e<;>simp[outS] at h
  |blk i=>
   cases e with
   |exit j=>simp only[outS] at h;cases hj:Nat.beq j i<;>rw[hj] at h<;>simp at h
   |_=>simp[outS] at h
  |loop c=>cases e<;>simp[outS] at h
theorem outS_back{e:Exit}{K K':List Fr}{c:Code}(h:outS e K= .back c K')(hA:LoopSim P n l0 c s (wrapK P n l0 K' Q)):wrapK P n l0 K Q e s:=by
 cases K with
 |nil=>simp[outS] at h
 |cons f K=>
  cases f with
  |seq c=>cases e<;>simp[outS] at h
  |blk i=>
   cases e with
   |exit j=>simp only[outS] at h;cases hj:Nat.beq j i<;>rw[hj] at h<;>simp at h
   |_=>simp[outS] at h
  |loop c=>
   cases e with
   |normal=>simp only[outS] at h;cases h;exact hA
   |_=>simp[outS] at h
theorem outS_go{e:Exit}{K K':List Fr}{ctl:Ctl}(h:outS e K= .go ctl K')(hA:CtlG P n l0 Q ctl K' s):wrapK P n l0 K Q e s:=by
 cases K with
 |nil=>simp[outS] at h
 |cons f K=>
  cases f with
  |seq c=>cases e<;>(simp only[outS] at h;cases h;exact hA)
  |blk i=>
   cases e with
   |exit j=>
    simp only[outS] at h
    show inBlk i _ (.exit j) s
    simp only[inBlk]
    cases hj:Nat.beq j i with
    |true=>rw[hj] at h;cases h;rw[if_pos (Nat.eq_of_beq_eq_true hj)];exact hA
    |false=>rw[hj] at h;cases h;rw[if_neg (fun e=>by subst e;simp at hj)];exact hA
   |_=>simp only[outS] at h;cases h;exact hA
  |loop c=>
   cases e with
   |normal=>simp[outS] at h
   |_=>simp only[outS] at h;cases h;exact hA
theorem go_sound(hm:P.follows .mixedOrders=true)(hQ:LeClosed n l0 Q):∀(fuel:Nat) (sc:List It) (ctl:Ctl) (K:List Fr) (s:St) (acc:List Prop) (a:At) (C:List Prop),
 go P n fuel sc ctl K s acc=some (a,C)→All C→AtG P n l0 Q a→All acc∧CtlG P n l0 Q ctl K s:=by
 intro fuel
 induction fuel with
 |zero=>intro sc ctl K s acc a C h;simp[go] at h
 |succ fuel ih=>
  intro sc ctl K s acc a C h hC hA
  unfold go at h
  split at h
  ·cases h
  ·
   rename_i x sc' K' s' acc' hfu
   cases hfu
   split at h
   ·rename_i s2 C2 hle
    obtain⟨q1,q2⟩:=ih _ _ _ _ _ _ _ h hC hA
    rw[All_app] at q1
    exact⟨q1.1,CtlG_le hQ (leR_sound hle q1.2) q2⟩
   ·cases h
  ·
   rename_i fuel2 c hfu _
   cases hfu
   split at h
   ·obtain⟨q1,q2⟩:=ih _ _ _ _ _ _ _ h hC hA;exact⟨q1,Sim.seq q2⟩
   ·obtain⟨q1,q2⟩:=ih _ _ _ _ _ _ _ h hC hA;exact⟨q1,Sim.skip q2⟩
   ·obtain⟨q1,q2⟩:=ih _ _ _ _ _ _ _ h hC hA;exact⟨q1,Sim.ret q2⟩
   ·obtain⟨q1,q2⟩:=ih _ _ _ _ _ _ _ h hC hA;exact⟨q1,Sim.exit q2⟩
   ·obtain⟨q1,q2⟩:=ih _ _ _ _ _ _ _ h hC hA;exact⟨q1,Sim.block q2⟩
   ·split at h
    ·cases h;exact⟨hC,Sim.loop hA⟩
    ·obtain⟨q1,q2⟩:=ih _ _ _ _ _ _ _ h hC hA;exact⟨q1,Sim.loop (LoopSim.step q2)⟩
    ·cases h
   ·split at h
    ·rename_i b hb
     split at h
     ·cases h;exact⟨hC,Sim.cond hb hA.1 hA.2⟩
     ·cases b with
      |true=>obtain⟨q1,q2⟩:=ih _ _ _ _ _ _ _ h hC hA;exact⟨q1,Sim.cond hb (fun _=>q2) (fun e=>by cases e)⟩
      |false=>cases h
     ·cases b with
      |false=>obtain⟨q1,q2⟩:=ih _ _ _ _ _ _ _ h hC hA;exact⟨q1,Sim.cond hb (fun e=>by cases e) (fun _=>q2)⟩
      |true=>cases h
     ·cases h
    ·rename_i hb
     split at h
     ·cases h;exact⟨hC,Sim.condAny hb hA.1 hA.2⟩
     ·cases h
    ·cases h
   ·split at h
    ·cases h;exact⟨hC,hA⟩
    ·split at h
     ·rename_i s2 C2 hr
      obtain⟨q1,q2⟩:=ih _ _ _ _ _ _ _ h hC hA
      rw[All_app] at q1
      exact⟨q1.1,runA_sim hm hr q1.2 q2⟩
     ·cases h
    ·cases h
   ·split at h
    ·cases h;exact⟨hC,hA⟩
    ·cases h
   ·cases h
  ·
   rename_i fuel2 e hfu _
   cases hfu
   split at h
   ·rename_i ho
    split at h
    ·cases h;exact⟨hC,by rw[outS_fin ho];exact hA⟩
    ·cases h
   ·rename_i c K' ho
    split at h
    ·cases h;exact⟨hC,outS_back ho hA⟩
    ·obtain⟨q1,q2⟩:=ih _ _ _ _ _ _ _ h hC hA;exact⟨q1,outS_back ho (LoopSim.step q2)⟩
    ·cases h
   ·rename_i ctl K' ho
    obtain⟨q1,q2⟩:=ih _ _ _ _ _ _ _ h hC hA
    exact⟨q1,outS_go ho q2⟩
end Go.Ab
end
section
set_option linter.unusedVariables false
namespace Go.Ab
open Go
variable {P:Program} {n:Nat} {l0:List (Nat×Ob)} {Q:Exit→St→Prop}
abbrev VI(x:Int):AVal:= .t (.sc (.int .i64 x))
abbrev VB(b:Bool):AVal:= .t (.sc (.bool b))
abbrev VS(s:ByteArray):AVal:= .t (.sc (.string s))
abbrev VN:AVal:= .t (.sc (.slice none 0 0))
abbrev VL{α:Type}(k:Nat)(f:α→Tree)(l:List α):AVal:= .t (.lst k (l.map f))
abbrev TI(x:Int):Tree:= .sc (.int .i64 x)
abbrev TB(b:Bool):Tree:= .sc (.bool b)
abbrev TS(s:ByteArray):Tree:= .sc (.string s)
abbrev TN:Tree:= .sc (.slice none 0 0)
abbrev TL{α:Type}(k:Nat)(f:α→Tree)(l:List α):Tree:= .lst k (l.map f)
abbrev OR{α:Type}(k:Nat)(f:α→Tree)(l:List α):Ob:= .row k false (l.map f)
abbrev OF{α:Type}(k:Nat)(f:α→Tree)(l:List α):Ob:= .row k true (l.map f)
structure SimC(P:Program)(n:Nat)(l0:List (Nat×Ob))(Q:Exit→St→Prop)(c:Cfg):Prop where
 run:P.follows .mixedOrders=true→LeClosed n l0 Q→CtlG P n l0 Q c.ctl c.K c.s
def runP(P:Program)(n:Nat)(sc:List It)(c:Cfg):Option (At×List Prop):=go P n 100000 sc c.ctl c.K c.s []
theorem leC_all:∀(x:LeI),All (leC x)
 | .fr _ p h=>h
 | .eq _ d v h=>⟨h,trivial⟩
 | .er _ xs ys h=>⟨h,trivial⟩
 | .nR _ _=>trivial
 | .nL _ _=>trivial
 | .nB _ _ _=>trivial
 | .fz _=>trivial
 | .kp _=>trivial
 | .eb _ _ _ _ h=>⟨h,trivial⟩
 | .mc _ _ _ h=>h
 | .fR _ _ h=>h
 | .mv _ _ _ h=>⟨h,trivial⟩
 | .mf _=>trivial
 | .mput _ _ _ h=>h
 | .mfz _ _ _ h=>h
 | .me _ _ _ h=>⟨h,trivial⟩
 | .cb _ _ _ _ _ h=>h
theorem apC_all:∀{l t:List Prop},All l→All t→All (apC l t)
 | [],t,_,h=>h
 |p::l,t,hp,h=>⟨hp.1,apC_all hp.2 h⟩
theorem oxC_all:∀(l:List (Nat×Ox)) {t:List Prop},All t→All (oxC l t)
 | [],t,h=>h
 | (_,x)::l,t,h=>apC_all x.h (oxC_all l h)
theorem csL_all:∀(sc:List It),All (csL sc)
 | []=>trivial
 | .r xs::l=>oxC_all xs (csL_all l)
 | .le x::l=>apC_all (leC_all x) (csL_all l)
 | .t::l=>csL_all l
 | .f::l=>csL_all l
 | .u::l=>csL_all l
theorem run_sound{sc:List It}{c:Cfg}{a:At}{C:List Prop}(h:runP P n sc c=some (a,C))(hC:All C)(hA:P.follows .mixedOrders=true→LeClosed n l0 Q→AtG P n l0 Q a):SimC P n l0 Q c:=
 ⟨fun hm hQ=>(go_sound hm hQ _ _ _ _ _ _ _ _ h hC (hA hm hQ)).2⟩
def brQ:Option (At×List Prop)→Option (Bool×List Prop)
 |some (.br b _ _ _ _,C)=>some (b,C)
 |_=>none
def brX(v:Bool):Option (At×List Prop)→Cfg
 |some (.br _ x y K s,_)=>⟨.run (bif v then x else y),K,s⟩
 |_=>default
theorem SimC.br{c:Cfg}(sc:List It)(b:Bool)(ht:b=true→SimC P n l0 Q (brX true (runP P n sc c)))(hf:b=false→SimC P n l0 Q (brX false (runP P n sc c)))
 (h:brQ (runP P n sc c)=some (b,csL sc):=by kernel_rfl):SimC P n l0 Q c:=by
 generalize hr:runP P n sc c=r at*
 match r,h with
 |some (.br b' x y K s,C),h=>
  simp only[brQ,Option.some.injEq,Prod.mk.injEq] at h
  obtain⟨rfl,rfl⟩:=h
  exact run_sound hr (csL_all sc) (fun hm hQ=>⟨fun e=>(ht e).run hm hQ,fun e=>(hf e).run hm hQ⟩)
class BP(b:Bool)(t f:outParam Prop):Prop where
 t:b=true→t
 f:b=false→f
instance (priority:=10) BP.any (b:Bool):BP b (b=true) (b=false):=⟨id,id⟩
instance (priority:=100) BP.dec (p:Prop) [Decidable p]:BP (decide p) p (¬p):=⟨of_decide_eq_true,of_decide_eq_false⟩
instance BP.ilt (a b:Int) [Decidable (a<b)]:BP (decide (a<b)) (a<b) (b≤a):=⟨of_decide_eq_true,fun h=>Int.not_lt.1 (of_decide_eq_false h)⟩
instance BP.ile (a b:Int) [Decidable (a≤b)]:BP (decide (a≤b)) (a≤b) (b<a):=⟨of_decide_eq_true,fun h=>Int.not_le.1 (of_decide_eq_false h)⟩
instance BP.not (b:Bool) {t f:Prop} [h:BP b t f]:BP (!b) f t:=⟨fun e=>h.f (by simpa using e),fun e=>h.t (by simpa using e)⟩
instance BP.and (a b:Bool) {t f t' f':Prop} [h:BP a t f] [k:BP b t' f']:BP (a&&b) (t∧t') (f∨f'):=⟨fun e=>by rw[Bool.and_eq_true] at e;exact⟨h.t e.1,k.t e.2⟩,fun e=>by rw[Bool.and_eq_false_iff] at e;exact e.imp h.f k.f⟩
instance BP.or (a b:Bool) {t f t' f':Prop} [h:BP a t f] [k:BP b t' f']:BP (a||b) (t∨t') (f∧f'):=⟨fun e=>by rw[Bool.or_eq_true] at e;exact e.imp h.t k.t,fun e=>by rw[Bool.or_eq_false_iff] at e;exact⟨h.f e.1,k.f e.2⟩⟩
instance BP.beq {α:Type} [BEq α] [LawfulBEq α] (a b:α):BP (a==b) (a=b) (¬a=b):=⟨fun e=>beq_iff_eq.1 e,fun e=>beq_eq_false_iff_ne.1 e⟩
instance BP.bne {α:Type} [BEq α] [LawfulBEq α] (a b:α):BP (a !=b) (¬a=b) (a=b):=⟨fun e=>bne_iff_ne.1 e,fun e=>bne_eq_false_iff_eq.1 e⟩
theorem SimC.bp{c:Cfg}(sc:List It)(b:Bool){t f:Prop}[hb:BP b t f](ht:t→SimC P n l0 Q (brX true (runP P n sc c)))(hf:f→SimC P n l0 Q (brX false (runP P n sc c)))
 (h:brQ (runP P n sc c)=some (b,csL sc):=by kernel_rfl):SimC P n l0 Q c:=SimC.br sc b (fun e=>ht (hb.t e)) (fun e=>hf (hb.f e)) h
def anQ:Option (At×List Prop)→Option (List Prop)
 |some (.any _ _ _ _,C)=>some C
 |_=>none
def anX(v:Bool):Option (At×List Prop)→Cfg
 |some (.any x y K s,_)=>⟨.run (bif v then x else y),K,s⟩
 |_=>default
theorem SimC.any{c:Cfg}(sc:List It)(ht:SimC P n l0 Q (anX true (runP P n sc c)))(hf:SimC P n l0 Q (anX false (runP P n sc c)))
 (h:anQ (runP P n sc c)=some (csL sc):=by kernel_rfl):SimC P n l0 Q c:=by
 generalize hr:runP P n sc c=r at*
 match r,h with
 |some (.any x y K s,C),h=>
  simp only[anQ,Option.some.injEq] at h
  subst h
  exact run_sound hr (csL_all sc) (fun hm hQ=>⟨ht.run hm hQ,hf.run hm hQ⟩)
def mkSt(p:List (Nat×AVal)×List (Nat×Ob))(nx:Nat):St:=⟨p.1,app emp p.2,nx⟩
def idT:List (Nat×Ob)→List (Nat×Nat)
 | []=>[]
 | (i,_)::l=>(i,i)::idT l
def keysT:List (Nat×AVal)→List Nat
 | []=>[]
 | (i,_)::l=>i::keysT l
def lpQ(l0:List (Nat×Ob))(nx:Nat)(p:List (Nat×AVal)×List (Nat×Ob)):Option (At×List Prop)→Option ((List (Nat×AVal)×List (Nat×Ob))×List Prop)
 |some (.loop _ _ s,C)=>match renSt l0 (idT p.2) (keysT p.1) nx s with
  |some p=>some (p,C)
  |none=>none
 |_=>none
def lpC:Option (At×List Prop)→Code
 |some (.loop c _ _,_)=>c
 |_=>default
def lpK:Option (At×List Prop)→List Fr
 |some (.loop _ K _,_)=>K
 |_=>[]
theorem SimC.loop{c:Cfg}{α:Type}(sc:List It)(nx:Nat)(S:α→List (Nat×AVal)×List (Nat×Ob))(I:α→Prop)(μ:α→Nat)(a:α)(ha:I a)
 (round:∀a,I a→(∀b,I b→μ b<μ a→LoopSim P n l0 (lpC (runP P n sc c)) (mkSt (S b) nx) (wrapK P n l0 (lpK (runP P n sc c)) Q))→
  SimC P n l0 Q ⟨.run (lpC (runP P n sc c)),.loop (lpC (runP P n sc c))::lpK (runP P n sc c),mkSt (S a) nx⟩)
 (h:lpQ l0 nx (S a) (runP P n sc c)=some (S a,csL sc):=by kernel_rfl):SimC P n l0 Q c:=by
 generalize hr:runP P n sc c=r at*
 match r,h with
 |some (.loop x K s,C),h=>
  simp only[lpQ] at h
  split at h
  ·rename_i p hp
   simp only[Option.some.injEq,Prod.mk.injEq] at h
   obtain⟨rfl,rfl⟩:=h
   refine run_sound hr (csL_all sc) (fun hm hQ=> ?_)
   have hle:Le n l0 s (mkSt (S a) nx):=Le.ren hp
   refine LoopSim.weaken hle ?_
   exact loop_ind (fun a=>mkSt (S a) nx) I μ (fun a hI ih=>LoopSim.step ((round a hI ih).run hm hQ)) a ha
  ·cases h
def bkQ(l0:List (Nat×Ob))(τ:List (Nat×Nat))(nx:Nat)(p:List (Nat×AVal)×List (Nat×Ob)):Option (At×List Prop)→Option ((List (Nat×AVal)×List (Nat×Ob))×List Prop)
 |some (.back _ _ s,C)=>match renSt l0 τ (keysT p.1) nx s with
  |some p=>some (p,C)
  |none=>none
 |_=>none
def bkC:Option (At×List Prop)→Option (Code×List Fr)
 |some (.back c K _,_)=>some (c,K)
 |_=>none
theorem SimC.back{c:Cfg}(sc:List It)(τ:List (Nat×Nat)){p:List (Nat×AVal)×List (Nat×Ob)}{nx:Nat}{body:Code}{K:List Fr}(ih:LoopSim P n l0 body (mkSt p nx) (wrapK P n l0 K Q))
 (h:bkQ l0 τ nx p (runP P n sc c)=some (p,csL sc):=by kernel_rfl) (hc:bkC (runP P n sc c)=some (body,K):=by kernel_rfl):SimC P n l0 Q c:=by
 generalize hr:runP P n sc c=r at*
 match r,h,hc with
 |some (.back x K' s,C),h,hc=>
  simp only[bkC,Option.some.injEq,Prod.mk.injEq] at hc
  obtain⟨rfl,rfl⟩:=hc
  simp only[bkQ] at h
  split at h
  ·rename_i p' hp
   simp only[Option.some.injEq,Prod.mk.injEq] at h
   obtain⟨rfl,rfl⟩:=h
   exact run_sound hr (csL_all sc) (fun hm hQ=>LoopSim.weaken (Le.ren hp) ih)
  ·cases h
abbrev FinX:=FinM
theorem FinX_le{rv:List ResultVar}{res:AVal}{l1:List (Nat×Ob)}:LeClosed n l0 (FinX P n l0 rv res l1):=fun _ _ _ h k=>FinM.le h k
def resX(P:Program)(rv:List ResultVar)(sl:List (Nat×AVal))(l:List (Nat×Ob)):Option AVal:=resM P rv sl (app emp l)
def rvKeys:List ResultVar→List Nat
 | []=>[]
 | .tmp t::l=>t::rvKeys l
 | .cell t _::l=>t::rvKeys l
def nxOf:List (Nat×Ob)→Nat
 | []=>0
 | (i,_)::l=>bif Nat.blt i (nxOf l) then nxOf l else i+1
def nxT:List (Nat×Nat)→Nat
 | []=>0
 | (_,i)::l=>bif Nat.blt i (nxT l) then nxT l else i+1
def isEnd:Exit→Bool
 | .ret=>true
 | .normal=>true
 |_=>false
def fnQ(P:Program)(l0:List (Nat×Ob))(τ:List (Nat×Nat))(rv:List ResultVar):Option (At×List Prop)→Option (AVal×List (Nat×Ob)×List Prop)
 |some (.fin e s,C)=>bif isEnd e then match renSt l0 τ (rvKeys rv) (nxT τ) s with
  |some (sl,l)=>match resX P rv sl l with
   |some r=>some (r,l,C)
   |none=>none
  |none=>none
  else none
 |_=>none
theorem isEnd_or{e:Exit}(h:isEnd e=true):e= .ret∨e= .normal:=by cases e<;>simp[isEnd] at h⊢
theorem SimC.finE{c:Cfg}{rv:List ResultVar}{res:AVal}{l1:List (Nat×Ob)}{β:Type}(sc:List It)(τ:List (Nat×Nat))(R:β→AVal×List (Nat×Ob))(x y:β)(e:y=x)
 (h:fnQ P l0 τ rv (runP P n sc c)=some ((R x).1,(R x).2,csL sc):=by kernel_rfl) (hR:R y=(res,l1):=by kernel_rfl):SimC P n l0 (FinX P n l0 rv res l1) c:=by
 subst e
 rw[hR] at h
 generalize hr:runP P n sc c=r at*
 match r,h with
 |some (.fin e s,C),h=>
  simp only[fnQ] at h
  cases he:isEnd e with
  |false=>rw[he] at h;cases h
  |true=>
   rw[he] at h
   simp only[cond_true] at h
   split at h
   ·rename_i sl l hs
    split at h
    ·rename_i r hres
     simp only[Option.some.injEq,Prod.mk.injEq] at h
     obtain⟨rfl,rfl,rfl⟩:=h
     exact run_sound hr (csL_all sc) (fun hm hQ=>FinM.here (isEnd_or he) (Le.ren hs) rfl hres)
    ·cases h
   ·cases h
theorem SimC.fin{c:Cfg}{rv:List ResultVar}{res:AVal}{l1:List (Nat×Ob)}(sc:List It)(τ:List (Nat×Nat))(h:fnQ P l0 τ rv (runP P n sc c)=some (res,l1,csL sc):=by kernel_rfl):SimC P n l0 (FinX P n l0 rv res l1) c:=
 SimC.finE sc τ (fun z=>z) (res,l1) (res,l1) rfl h rfl
def leS(s:St):List LeI→Option (St×List Prop)
 | []=>some (s,[])
 |x::l=>match leR s x with
  |some (s',C)=>match leS s' l with
   |some (s2,C2)=>some (s2,apC C C2)
   |none=>none
  |none=>none
def leCs:List LeI→List Prop
 | []=>[]
 |x::l=>apC (leC x) (leCs l)
theorem leCs_all:∀l:List LeI,All (leCs l)
 | []=>trivial
 |x::l=>apC_all (leC_all x) (leCs_all l)
theorem apC_inv:∀{l t:List Prop},All (apC l t)→All l∧All t
 | [],_,h=>⟨trivial,h⟩
 |_::_,_,h=>⟨⟨h.1,(apC_inv h.2).1⟩,(apC_inv h.2).2⟩
theorem leS_sound:∀{l:List LeI} {s s':St} {C:List Prop},leS s l=some (s',C)→All C→Le n l0 s s'
 | [],s,s',C,h,_=>by
  simp only[leS,Option.some.injEq,Prod.mk.injEq] at h
  obtain⟨rfl,rfl⟩:=h
  exact Le.refl _
 |x::l,s,s',C,h,hC=>by
  simp only[leS] at h
  split at h
  ·rename_i s1 C1 h1
   split at h
   ·rename_i s2 C2 h2
    simp only[Option.some.injEq,Prod.mk.injEq] at h
    obtain⟨rfl,rfl⟩:=h
    obtain⟨q1,q2⟩:=apC_inv hC
    exact Le.trans (leR_sound h1 q1) (leS_sound h2 q2)
   ·cases h
  ·cases h
def fvQ(P:Program)(l0:List (Nat×Ob))(les:List LeI)(τ:List (Nat×Nat))(rv:List ResultVar):Option (At×List Prop)→Option (AVal×List (Nat×Ob)×List Prop×List Prop)
 |some (.fin e s,C)=>bif isEnd e then match resM P rv s.sl s.st with
  |some r0=>match leS ⟨[(0,r0)],s.st,s.nx⟩ les with
   |some (s2,D)=>match renSt l0 τ [0] (nxT τ) s2 with
    |some (sl,l)=>some (get sl 0,l,C,D)
    |none=>none
   |none=>none
  |none=>none
  else none
 |_=>none
theorem SimC.finVE{c:Cfg}{rv:List ResultVar}{res:AVal}{l1:List (Nat×Ob)}{β:Type}(sc:List It)(les:List LeI)(τ:List (Nat×Nat))(R:β→AVal×List (Nat×Ob))(x y:β)(e:y=x)
 (h:fvQ P l0 les τ rv (runP P n sc c)=some ((R x).1,(R x).2,csL sc,leCs les):=by kernel_rfl) (hR:R y=(res,l1):=by kernel_rfl):SimC P n l0 (FinX P n l0 rv res l1) c:=by
 subst e
 rw[hR] at h
 generalize hr:runP P n sc c=r at*
 match r,h with
 |some (.fin e s,C),h=>
  simp only[fvQ] at h
  cases he:isEnd e with
  |false=>rw[he] at h;cases h
  |true=>
   rw[he] at h
   simp only[cond_true] at h
   split at h
   ·rename_i r0 hr0
    split at h
    ·rename_i s2 D hD
     split at h
     ·rename_i sl l hs
      simp only[Option.some.injEq,Prod.mk.injEq] at h
      obtain⟨rfl,rfl,rfl,rfl⟩:=h
      exact run_sound hr (csL_all sc) (fun hm hQ=>⟨isEnd_or he,s,r0,⟨sl,app emp l,nxT τ⟩,Le.refl _,hr0,Le.trans (leS_sound hD (leCs_all les)) (Le.ren hs),rfl,rfl⟩)
     ·cases h
    ·cases h
   ·cases h
theorem SimC.finV{c:Cfg}{rv:List ResultVar}{res:AVal}{l1:List (Nat×Ob)}(sc:List It)(les:List LeI)(τ:List (Nat×Nat))(h:fvQ P l0 les τ rv (runP P n sc c)=some (res,l1,csL sc,leCs les):=by kernel_rfl):SimC P n l0 (FinX P n l0 rv res l1) c:=
 SimC.finVE sc les τ (fun z=>z) (res,l1) (res,l1) rfl h rfl
theorem SimC.at{c:Cfg}(nx:Nat)(τ:List (Nat×Nat))(p:List (Nat×AVal)×List (Nat×Ob))(k:SimC P n l0 Q ⟨c.ctl,c.K,mkSt p nx⟩)(h:renSt l0 τ (keysT p.1) nx c.s=some p:=by kernel_rfl):SimC P n l0 Q c:=
 ⟨fun hm hQ=>CtlG_le hQ (Le.ren h) (k.run hm hQ)⟩
theorem SimC.len{x:Code}{K:List Fr}{s:St}{α:Type}(t:Nat){k:Nat}{f:α→Tree}{l:List α}(h:l.length≤9223372036854775807→SimC P n l0 Q ⟨.run x,K,s⟩)(hg:get s.sl t=VL k f l:=by rfl):SimC P n l0 Q ⟨.run x,K,s⟩:=
 ⟨fun hm hQ=>Sim.len (t:=t) (k:=k) (xs:=l.map f) hg (fun hl=>(h (by simpa using hl)).run hm hQ)⟩
def bodyOf(fn:Func):Code:=fn.body.getD default
theorem FC.go{f:FuncId}{args:List AVal}{res:AVal}{l1:List (Nat×Ob)}(fn:Func)(h:SimC P fn.ntmps l0 (FinX P fn.ntmps l0 fn.results.toList res l1) ⟨.run (bodyOf fn),[],⟨argSlots 0 args,app emp l0,nxOf l0⟩⟩)
 (hf:P.funcs[f]? =some fn:=by kernel_rfl) (hn:((args.length).ble fn.ntmps&&fn.body.isSome)=true:=by kernel_rfl) (hm:P.follows .mixedOrders=true:=by kernel_rfl):FC P f args (app emp l0) res (app emp l1):=by
 simp only[Bool.and_eq_true] at hn
 obtain⟨c,hb⟩:=Option.isSome_iff_exists.1 hn.2
 have hc:bodyOf fn=c:=by unfold bodyOf;rw[hb];rfl
 have hx:∀l:List (Nat×Ob),l.all (fun x=>Nat.blt x.1 (nxOf l))=true:=by
  have key:∀l:List (Nat×Ob),∀x∈l,x.1<nxOf l:=by
   intro l
   induction l with
   |nil=>intro x h;simp at h
   |cons y l ih=>
    intro x hx
    obtain⟨i,o⟩:=y
    simp only[nxOf]
    cases hh:Nat.blt i (nxOf l) with
    |true=>
     have:=Nat.lt_of_succ_le (Nat.le_of_ble_eq_true hh)
     rcases List.mem_cons.1 hx with rfl|hx
     ·exact this
     ·exact ih x hx
    |false=>
     rcases List.mem_cons.1 hx with rfl|hx
     ·exact Nat.lt_succ_self _
     ·have h1:=ih x hx
      have h2:¬(i<nxOf l):=fun h=>by rw[show Nat.blt i (nxOf l)=true from Nat.ble_eq_true_of_le h] at hh;cases hh
      simp only[cond_false]
      omega
  intro l
  exact List.all_eq_true.2 fun x hx=>Nat.ble_eq_true_of_le (key l x hx)
 have h:=h.run hm FinX_le
 simp only[CtlG,wrapK,hc] at h
 exact FC.of_simM hf hb hn.1 (hx l0) h
end Go.Ab
end
section
set_option linter.unusedVariables false
namespace Go.Ab
open Go
variable {P:Program}
structure Px(p:Prop) where
 o:Orc
 cs:List Prop
 h:p→All cs
def gdC(e:Bool):List Prop→List Prop
 | []=>[]
 |p::l=>(e=true→p)::gdC e l
theorem gdC_all{e:Bool}:∀{l:List Prop},(e=true→All l)→All (gdC e l)
 | [],_=>trivial
 |p::l,h=>⟨fun he=>(h he).1,gdC_all fun he=>(h he).2⟩
def X{p:Prop}(x:Px p)(h:p:=by first|with_reducible exact True.intro|omega| (and_intros<;>first|omega|with_reducible rfl|with_reducible assumption|with_reducible exact True.intro| (simp only[List.length_map];omega)| (simp[-List.getD_eq_getElem?_getD];omega)| (simp;omega)| (simp;done))):Ox:=⟨x.o,x.cs,x.h h⟩
def oV(v:AVal):Orc:=⟨some v,none,none,none,[]⟩
def oE(x:Tree):Orc:=⟨none,none,some x,none,[]⟩
def Xc(p:Prop):Px p:=⟨Orc.no,[p],fun h=>⟨h,trivial⟩⟩
def X0:Px True:=⟨Orc.no,[],fun _=>trivial⟩
def Xa{p q:Prop}(x:Px p)(y:Px q):Px (p∧q):=⟨y.o,x.cs++y.cs,fun h=>All_app.2 ⟨x.h h.1,y.h h.2⟩⟩
def Xn(a:Int):Px (-9223372036854775808≤a∧a≤9223372036854775807):=⟨oV (VI a),[Weak (VI (IntKind.i64.wrap a)) (VI a)],fun h=>⟨Weak.of_eq (nw h),trivial⟩⟩
def Xmax(a b:Int):Px True:=⟨oV (VI (max a b)),[Weak (VI (if b>a then b else a)) (VI (max a b))],fun _=>⟨Weak.of_eq max_if,trivial⟩⟩
def Xmin(a b:Int):Px True:=⟨oV (VI (min a b)),[Weak (VI (if b<a then b else a)) (VI (min a b))],fun _=>⟨Weak.of_eq min_if,trivial⟩⟩
def Xl{α:Type}(f:α→Tree)(l:List α):Px True:=⟨oV (VI (l.length:Int)),[Weak (VI ((l.map f).length:Int)) (VI (l.length:Int))],fun _=>⟨Weak.of_eq len_map,trivial⟩⟩
def Xi{α:Type}[Inhabited α](f:α→Tree)(l:List α)(j:Int):Px (0≤j∧j< (l.length:Int)):=
 ⟨oE (f (l.getD j.toNat default)),[0≤j,(l.map f)[j.toNat]? =some (f (l.getD j.toNat default))],fun h=>⟨h.1,elt_map h.1 h.2,trivial⟩⟩
def Xi'{α:Type}[Inhabited α](f:α→Tree)(l:List α)(j:Int)(k:Nat):Px (j=(k:Int)∧k<l.length):=
 ⟨oE (f (l.getD k default)),[0≤j,(l.map f)[j.toNat]? =some (f (l.getD k default))],fun h=>⟨by omega,elt_map' h.1 h.2,trivial⟩⟩
def Xp{α:Type}(f:α→Tree)(o:List α)(j:Int):Px (0≤j∧j< (o.length:Int)):=
 ⟨Orc.no,[o.length=(o.map f).length,0≤j,j< (o.length:Int)],fun h=>⟨List.length_map _|>.symm,h.1,h.2,trivial⟩⟩
def Xp'{α:Type}(f:α→Tree)(id:Nat)(o:List α)(j:Int)(k:Nat):Px (j=(k:Int)∧k<o.length):=
 ⟨oV (.eptr id o.length k 0),[o.length=(o.map f).length,0≤j,j< (o.length:Int),Weak (.eptr id o.length j.toNat 0) (.eptr id o.length k 0)],
  fun h=>⟨List.length_map _|>.symm,by omega,by omega,Weak.of_eq (eptr_eq (by omega)),trivial⟩⟩
def Xe{α:Type}[Inhabited α](f:α→Tree)(o:List α)(i:Nat):Px (i<o.length):=
 ⟨oE (f (o.getD i default)),[o.length=(o.map f).length,(o.map f)[i]? =some (f (o.getD i default))],fun h=>⟨List.length_map _|>.symm,elt_nat h,trivial⟩⟩
def Xs{α:Type}[Inhabited α](k:Nat)(f:α→Tree)(id:Nat)(o:List α)(i:Nat)(x:α)(g:List (Nat×Ob):=[]):Px (i<o.length):=
 ⟨⟨none,some (g++[(id,.row k false ((o.set i x).map f))]),some (f (o.getD i default)),none,[]⟩,
  [o.length=(o.map f).length,(o.map f)[i]? =some (f (o.getD i default)),g++[(id,Ob.row k false ((o.set i x).map f))]=g++[(id,Ob.row k false ((o.map f).set i (f x)))]],
  fun h=>⟨List.length_map _|>.symm,elt_nat h,by rw[row_set rfl],trivial⟩⟩
def Xst{α:Type}(f:α→Tree)(k:Nat)(l:List α)(hi:Int):Px (0≤hi∧hi≤(l.length:Int)):=
 ⟨oV (VL k f (l.take hi.toNat)),[0≤hi,hi≤(((l.map f).length:Nat):Int),Weak (.t (.lst k ((l.map f).take hi.toNat))) (VL k f (l.take hi.toNat))],fun h=>⟨h.1,by rw[List.length_map];exact h.2,Weak.of_eq sl_take,trivial⟩⟩
def Xsd{α:Type}(f:α→Tree)(k:Nat)(l:List α)(lo:Int):Px (0≤lo∧lo≤(l.length:Int)):=
 ⟨oV (VL k f (l.drop lo.toNat)),[0≤lo,lo≤(((l.map f).length:Nat):Int),Weak (.t (.lst k ((l.map f).drop lo.toNat))) (VL k f (l.drop lo.toNat))],fun h=>⟨h.1,by rw[List.length_map];exact h.2,Weak.of_eq sl_drop,trivial⟩⟩
def Xsb{α:Type}(f:α→Tree)(k:Nat)(l:List α)(lo hi:Int):Px (0≤lo∧lo≤hi∧hi≤(l.length:Int)):=
 ⟨oV (VL k f ((l.take hi.toNat).drop lo.toNat)),[0≤lo,lo≤hi,hi≤(((l.map f).length:Nat):Int),Weak (.t (.lst k (((l.map f).take hi.toNat).drop lo.toNat))) (VL k f ((l.take hi.toNat).drop lo.toNat))],
  fun h=>⟨h.1,h.2.1,by rw[List.length_map];exact h.2.2,Weak.of_eq sl_both,trivial⟩⟩
def rowC{p:Prop}{α:Type}(f:α→Tree)(o:List α)(x:Px p):Px p:=⟨x.o,(o.length=(o.map f).length)::x.cs,fun h=>⟨List.length_map _|>.symm,x.h h⟩⟩
theorem lm{α:Type}{n:Nat}{f:α→Tree}{o:List α}(h:n=o.length:=by first|with_reducible rfl|omega| (simp;done)| (simp[-List.getD_eq_getElem?_getD];omega)| (simp;omega)):n=(o.map f).length:=by rw[List.length_map];exact h
def rowX{p:Prop}{α:Type}(n:Nat)(f:α→Tree)(o:List α)(x:Px p)(h:n=o.length:=by first|omega| (simp;done)| (simp[-List.getD_eq_getElem?_getD];omega)| (simp;omega)):Px p:=⟨x.o,(n=(o.map f).length)::x.cs,fun hp=>⟨by rw[List.length_map];exact h,x.h hp⟩⟩
def Xen{α:Type}[Inhabited α](n:Nat)(f:α→Tree)(o:List α)(i:Nat):Px (n=o.length∧i<o.length):=
 ⟨oE (f (o.getD i default)),[n=(o.map f).length,(o.map f)[i]? =some (f (o.getD i default))],fun h=>⟨by rw[List.length_map];exact h.1,elt_nat h.2,trivial⟩⟩
def Xpn{α:Type}(n:Nat)(f:α→Tree)(o:List α)(j:Int):Px (n=o.length∧0≤j∧j< (n:Int)):=
 ⟨Orc.no,[n=(o.map f).length,0≤j,j< (n:Int)],fun h=>⟨by rw[List.length_map];exact h.1,h.2.1,h.2.2,trivial⟩⟩
def Xsn{α:Type}[Inhabited α](n k:Nat)(f:α→Tree)(id:Nat)(o:List α)(i:Nat)(x:α)(g:List (Nat×Ob):=[]):Px (n=o.length∧i<o.length):=
 ⟨⟨none,some (g++[(id,.row k false ((o.set i x).map f))]),some (f (o.getD i default)),none,[]⟩,
  [n=(o.map f).length,(o.map f)[i]? =some (f (o.getD i default)),g++[(id,Ob.row k false ((o.set i x).map f))]=g++[(id,Ob.row k false ((o.map f).set i (f x)))]],
  fun h=>⟨by rw[List.length_map];exact h.1,elt_nat h.2,by rw[row_set rfl],trivial⟩⟩
def Xb(s:ByteArray)(j:Int):Px (0≤j∧j< (s.size:Int)):=⟨Orc.no,[0≤j,j< (s.size:Int)],fun h=>⟨h.1,h.2,trivial⟩⟩
def Xan{α:Type}(f:α→Tree)(id:Nat)(ys:List α):Px (ys.length≤1099511627776):=
 ⟨oV (.row id ys.length),[(ys.map f).length≤1099511627776,Weak (.row id (ys.map f).length) (.row id ys.length)],fun h=>⟨by rw[List.length_map];exact h,Weak.of_eq (by rw[List.length_map]),trivial⟩⟩
def Xap{α:Type}(k:Nat)(f:α→Tree)(id:Nat)(o ys:List α):Px (o.length+ys.length≤1099511627776):=
 ⟨⟨some (.row id (o++ys).length),some [(id,.row k false ((o++ys).map f))],none,none,[]⟩,
  [o.length=(o.map f).length,o.length+(ys.map f).length≤1099511627776,Weak (.row id (o.length+(ys.map f).length)) (.row id (o++ys).length),[(id,Ob.row k false ((o++ys).map f))]=[(id,Ob.row k false (o.map f++ys.map f))]],
  fun h=>⟨List.length_map _|>.symm,by rw[List.length_map];exact h,Weak.of_eq (by simp),row_append rfl,trivial⟩⟩
def XapB{α:Type}(k:Nat)(f:α→Tree)(id:Nat)(o ys:List α):Px (o.length+ys.length≤8589934592):=
 ⟨⟨some (.row id (o++ys).length),some [(id,.row k false ((o++ys).map f))],none,none,[]⟩,
  [o.length=(o.map f).length,o.length+(ys.map f).length≤8589934592,Weak (.row id (o.length+(ys.map f).length)) (.row id (o++ys).length),[(id,Ob.row k false ((o++ys).map f))]=[(id,Ob.row k false (o.map f++ys.map f))]],
  fun h=>⟨List.length_map _|>.symm,by rw[List.length_map];exact h,Weak.of_eq (by simp),row_append rfl,trivial⟩⟩
def Xmk{α:Type}(k:Nat)(f:α→Tree)(id:Nat)(n m:Int)(z:α):Px (0≤n∧n≤m∧m≤1099511627776):=
 ⟨⟨none,some [(id,.row k false ((List.replicate n.toNat z).map f))],none,none,[]⟩,[0≤n,n≤m,m≤1099511627776,[(id,Ob.row k false ((List.replicate n.toNat z).map f))]=[(id,Ob.row k false (List.replicate n.toNat (f z)))]],
  fun h=>⟨h.1,h.2.1,h.2.2,by rw[List.map_replicate],trivial⟩⟩
def Xmz{α:Type}(k:Nat)(f:α→Tree)(id:Nat)(n m:Int)(z:α)(zs:List Tree)(hz:TWs zs (f z).cells):Px (0≤n∧n≤m∧m≤1099511627776):=
 ⟨⟨none,some [(id,.row k false ((List.replicate n.toNat z).map f))],some (f z),none,[]⟩,[0≤n,n≤m,m≤1099511627776,TWs zs (f z).cells,[(id,Ob.row k false ((List.replicate n.toNat z).map f))]=[(id,Ob.row k false (List.replicate n.toNat (f z)))]],
  fun h=>⟨h.1,h.2.1,h.2.2,hz,by rw[List.map_replicate],trivial⟩⟩
def Xbsl:Px True:=⟨⟨none,none,some (.sc (.bool true)),none,[]⟩,[],fun _=>trivial⟩
def Xf(l:List (Nat×Nat)):Px True:=⟨⟨none,none,none,none,l⟩,[],fun _=>trivial⟩
def Xtl{α:Type}(f:α→Tree)(n:Nat)(o:List α)(l:Int):Px (n=o.length∧0≤l∧l≤(n:Int)):=
 ⟨⟨none,none,none,none,[(0,0)]⟩,[n=(o.map f).length,0≤l,l≤(n:Int)],fun h=>⟨by rw[List.length_map];exact h.1,h.2.1,h.2.2,trivial⟩⟩
def rpC(e:Bool):Nat→List Prop→List Prop
 |0,l=>l
 |k+1,l=>(e=true)::rpC e k l
theorem rpC_all{e:Bool}(he:e=true){l:List Prop}(h:All l):∀k,All (rpC e k l)
 |0=>h
 |k+1=>⟨he,rpC_all he h k⟩
def Xv{p:Prop}(k:Nat)(e:Bool)(x:Px p)(h:e=true→p:=by first| (intro _;with_reducible exact True.intro)| (intro hg;(try simp[-List.getD_eq_getElem?_getD] at hg);first|omega| (and_intros<;>first|omega|with_reducible rfl|with_reducible assumption|with_reducible exact True.intro| (simp only[List.length_map];omega)| (simp[-List.getD_eq_getElem?_getD];omega)| (simp;omega)| (simp[hg];done)))):Ox:=
 ⟨x.o,gdC e (rpC e k x.cs),gdC_all fun he=>rpC_all he (x.h (h he)) k⟩
def Xk(g:Bool):Px True:=⟨Orc.no,[g=true→g=true],fun _=>⟨id,trivial⟩⟩
def Xk'(g:Bool):Px True:=⟨Orc.no,[g=false→(!g)=true],fun _=>⟨fun h=>by simp[h],trivial⟩⟩
def Xka(e g:Bool):Ox:=⟨Orc.no,[e=true→e=true,e=true→g=true→(e&&g)=true],⟨id,fun h k=>by rw[h,k];rfl,trivial⟩⟩
def Xko(e g:Bool):Ox:=⟨Orc.no,[e=true→e=true,e=true→g=false→(e&& !g)=true],⟨id,fun h k=>by rw[h,k];rfl,trivial⟩⟩
theorem FC.nil{f:FuncId}{args:List AVal}{res:AVal}{st st':Store}(i k:Nat)(h:FC P f args st res st')(hi:args[i]? =some (.t (.lst k [])):=by kernel_rfl)(hk:Nat.blt 0 k=true:=by kernel_rfl):FC P f (args.set i VN) st res st':=by
 intro F m w us hS hl hv
 refine h F m w us hS (by simpa using hl) (fun j v u hj hu=> ?_)
 by_cases e:i=j
 ·subst e
  rw[hi] at hj
  cases hj
  have hlt:=(List.getElem?_eq_some_iff.1 hi).1
  have:=hv i VN u (by simp[hlt]) hu
  exact nil_lst (Nat.lt_of_succ_le (Nat.le_of_ble_eq_true hk)) _ _ _ _ _ this
 ·exact hv j v u (by rw[List.getElem?_set_ne e];exact hj) hu
def Xc0{p:Prop}{f:FuncId}{args:List AVal}{res:AVal}(h:FC P f args emp res emp)(x:Px p)(hc:callable P f=true:=by kernel_rfl):Px p:=
 ⟨⟨none,none,none,some ⟨0,[],res,[]⟩,[]⟩,(callable P f=true)::(x.cs++[FC P f args emp res emp]),fun hp=>⟨hc,All_app.2 ⟨x.h hp,h,trivial⟩⟩⟩
def freshT:Nat→List (Nat×Ob)→List (Nat×Nat)→List (Nat×Nat)
 |_,[],_=>[]
 |nid,(i,_)::l,τ=>match lk τ i with
  |some _=>freshT nid l τ
  |none=>(i,nid)::freshT (nid+1) l τ
def orL{α:Type}(o:Option (List α)):List α:=o.getD []
def orV(o:Option AVal):AVal:=o.getD .junk
def ck1(τ:List (Nat×Nat))(res:AVal)(l1:List (Nat×Ob)):Bool:=nodupB (τ.map (·.1))&&nodupB (τ.map (·.2))&&(renStore τ (app emp l1) τ).isSome&&(renV τ res).isSome
theorem renL_nil_inv{args:List AVal}(h:renL [] args=some args):renL (inv []) args=some args:=h
theorem FC.fresh{f:FuncId}{args:List AVal}{res:AVal}{l1:List (Nat×Ob)}(τ:List (Nat×Nat))(h:FC P f args emp res (app emp l1))(ha:renL [] args=some args)(hk:ck1 τ res l1=true):
 FC P f args emp (orV (renV τ res)) (app emp (orL (renStore τ (app emp l1) τ))):=by
 simp only[ck1,Bool.and_eq_true] at hk
 obtain⟨⟨⟨k1,k2⟩,k3⟩,k4⟩:=hk
 obtain⟨l',e3⟩:=Option.isSome_iff_exists.1 k3
 obtain⟨r',e4⟩:=Option.isSome_iff_exists.1 k4
 refine FC.ren (l0:=[]) (l0':=[]) h [] τ (by simp[nodupB,k1,k2]) rfl (renL_nil_inv ha) rfl ?_ ?_
 ·rw[e3];rfl
 ·rw[e4];rfl
def Xc1{p:Prop}{f:FuncId}{args:List AVal}{res:AVal}{l1:List (Nat×Ob)}(nid:Nat)(h:FC P f args emp res (app emp l1))(x:Px p)(ha:renL [] args=some args:=by kernel_rfl)
 (hk:ck1 (freshT nid l1 []) res l1=true:=by kernel_rfl) (hc:callable P f=true:=by kernel_rfl):Px p:=
 ⟨⟨none,none,none,some ⟨1,[],orV (renV (freshT nid l1 []) res),orL (renStore (freshT nid l1 []) (app emp l1) (freshT nid l1 []))⟩,[]⟩,
  (callable P f=true)::(x.cs++[FC P f args emp (orV (renV (freshT nid l1 []) res)) (app emp (orL (renStore (freshT nid l1 []) (app emp l1) (freshT nid l1 []))))]),
  fun hp=>⟨hc,All_app.2 ⟨x.h hp,FC.fresh _ h ha hk,trivial⟩⟩⟩
def sndL:List (Nat×Nat)→List Nat
 | []=>[]
 | (_,j)::l=>j::sndL l
def ck3(τ0 τ:List (Nat×Nat))(args:List AVal)(l0:List (Nat×Ob))(res:AVal)(l1:List (Nat×Ob)):Bool:=
 (nodupB (τ0.map (·.1))&&nodupB (τ0.map (·.2))&&nodupB (τ.map (·.1))&&nodupB (τ.map (·.2))&&τ0.all (fun p=>match lk τ p.1 with|some j=>Nat.beq j p.2|none=>false))&&
  (orL (renStore τ0 (app emp l0) τ0)).all (fun x=>hasId (τ0.map (·.2)) x.1)&&(renStore τ (app emp l1) τ).isSome&&(renV τ res).isSome&&
  (orL (renStore τ0 (app emp l0) τ0)).all (fun x=>hasId ((orL (renStore τ (app emp l1) τ)).map (·.1)) x.1)
theorem app_over{a b:List (Nat×Ob)}(h:∀x∈a,x.1∈b.map (·.1)):app (app emp a) b=app emp b:=by
 funext i
 by_cases hi:i∈b.map (·.1)
 ·exact app_at (.inl hi)
 ·rw[app_not hi,app_not hi]
  refine app_not (fun hm=> ?_)
  obtain⟨x,hx,rfl⟩:=List.mem_map.1 hm
  exact hi (h x hx)
theorem FC.obj{f:FuncId}{args:List AVal}{res:AVal}{l0 l1:List (Nat×Ob)}(τ0 τ:List (Nat×Nat))(h:FC P f args (app emp l0) res (app emp l1))(hk:ck3 τ0 τ args l0 res l1=true)
 (h0:renStore (inv τ0) (app emp (orL (renStore τ0 (app emp l0) τ0))) (inv τ0)=some l0) (ha:renL (inv τ0) (orL (renL τ0 args))=some args):
 FC P f (orL (renL τ0 args)) (app emp (orL (renStore τ0 (app emp l0) τ0))) (orV (renV τ res)) (app (app emp (orL (renStore τ0 (app emp l0) τ0))) (orL (renStore τ (app emp l1) τ))):=by
 simp only[ck3,Bool.and_eq_true] at hk
 obtain⟨⟨⟨⟨k1,k2⟩,k3⟩,k4⟩,k5⟩:=hk
 obtain⟨l',e3⟩:=Option.isSome_iff_exists.1 k3
 obtain⟨r',e4⟩:=Option.isSome_iff_exists.1 k4
 rw[app_over (fun x hx=>hasId_iff.1 (List.all_eq_true.1 k5 x hx))]
 refine FC.ren h τ0 τ (by simp only[Bool.and_eq_true];exact k1) h0 ha k2 ?_ ?_
 ·rw[e3];rfl
 ·rw[e4];rfl
def Xc3{p:Prop}{f:FuncId}{args:List AVal}{res:AVal}{l0 l1:List (Nat×Ob)}(nid:Nat)(τ0:List (Nat×Nat))(h:FC P f args (app emp l0) res (app emp l1))(x:Px p)
 (hk:ck3 τ0 (τ0++freshT nid l1 τ0) args l0 res l1=true:=by kernel_rfl)
 (h0:renStore (inv τ0) (app emp (orL (renStore τ0 (app emp l0) τ0))) (inv τ0)=some l0:=by kernel_rfl) (ha:renL (inv τ0) (orL (renL τ0 args))=some args:=by kernel_rfl) (hc:callable P f=true:=by kernel_rfl):Px p:=
 ⟨⟨none,none,none,some ⟨3,sndL τ0,orV (renV (τ0++freshT nid l1 τ0) res),orL (renStore (τ0++freshT nid l1 τ0) (app emp l1) (τ0++freshT nid l1 τ0))⟩,[]⟩,
  [callable P f=true,FC P f (orL (renL τ0 args)) (app emp (orL (renStore τ0 (app emp l0) τ0))) (orV (renV (τ0++freshT nid l1 τ0) res)) (app (app emp (orL (renStore τ0 (app emp l0) τ0))) (orL (renStore (τ0++freshT nid l1 τ0) (app emp l1) (τ0++freshT nid l1 τ0))))],
  fun hp=>⟨hc,FC.obj _ _ h hk h0 ha,trivial⟩⟩
theorem FC.objr{f:FuncId}{args:List AVal}{res:AVal}{l0:List (Nat×Ob)}(τ0:List (Nat×Nat))(h:FC P f args (app emp l0) res (app emp l0))(hk:ck3 τ0 τ0 args l0 res l0=true)
 (h0:renStore (inv τ0) (app emp (orL (renStore τ0 (app emp l0) τ0))) (inv τ0)=some l0) (ha:renL (inv τ0) (orL (renL τ0 args))=some args):
 FC P f (orL (renL τ0 args)) (app emp (orL (renStore τ0 (app emp l0) τ0))) (orV (renV τ0 res)) (app (app emp (orL (renStore τ0 (app emp l0) τ0))) []):=by
 have:=FC.obj τ0 τ0 h hk h0 ha
 simp only[ck3,Bool.and_eq_true] at hk
 rw[app_over (fun x hx=>hasId_iff.1 (List.all_eq_true.1 hk.2 x hx))] at this
 exact this
def Xc4{p:Prop}{f:FuncId}{args:List AVal}{res:AVal}{l0:List (Nat×Ob)}(τ0:List (Nat×Nat))(h:FC P f args (app emp l0) res (app emp l0))(x:Px p)
 (hk:ck3 τ0 τ0 args l0 res l0=true:=by kernel_rfl)
 (h0:renStore (inv τ0) (app emp (orL (renStore τ0 (app emp l0) τ0))) (inv τ0)=some l0:=by kernel_rfl) (ha:renL (inv τ0) (orL (renL τ0 args))=some args:=by kernel_rfl) (hc:callable P f=true:=by kernel_rfl):Px p:=
 ⟨⟨none,none,none,some ⟨3,sndL τ0,orV (renV τ0 res),[]⟩,[]⟩,
  [callable P f=true,FC P f (orL (renL τ0 args)) (app emp (orL (renStore τ0 (app emp l0) τ0))) (orV (renV τ0 res)) (app (app emp (orL (renStore τ0 (app emp l0) τ0))) [])],
  fun hp=>⟨hc,FC.objr _ h hk h0 ha,trivial⟩⟩
theorem pr{α β:Type}{a b:α}{c d:β}(h:a=b)(k:c=d):(a,c)=(b,d):=by rw[h,k]
theorem wrap_i32{z:Int}(h:0≤z∧z≤2147483647):IntKind.i32.wrap z=z:=by unfold IntKind.wrap;simp[IntKind.bits,IntKind.signed];omega
def Xcv(k:IntKind)(z:Int):Px (k.wrap z=z):=⟨oV (.t (.sc (.int k z))),[Weak (.t (.sc (.int k (k.wrap z)))) (.t (.sc (.int k z)))],fun h=>⟨Weak.of_eq (by rw[h]),trivial⟩⟩
def Xbit(k:IntKind)(y z:Int):Px (y=z):=⟨oV (.t (.sc (.int k z))),[Weak (.t (.sc (.int k y))) (.t (.sc (.int k z)))],fun h=>⟨Weak.of_eq (by rw[h]),trivial⟩⟩
def Xsh(k:IntKind)(b y z:Int):Px (0≤b∧y=z):=⟨oV (.t (.sc (.int k z))),[0≤b,Weak (.t (.sc (.int k y))) (.t (.sc (.int k z)))],fun h=>⟨h.1,Weak.of_eq (by rw[h.2]),trivial⟩⟩
end Go.Ab
end
