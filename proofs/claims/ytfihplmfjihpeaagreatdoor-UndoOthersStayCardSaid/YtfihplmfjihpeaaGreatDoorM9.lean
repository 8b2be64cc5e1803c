/- Undo: the log of the law, and the one of the probe. -/
import Derived.Test.YtfihplmfjihpeaaGreatDoorM8
import Derived.JoinedOf
import Derived.Ground.Names2Prog
section
set_option linter.unusedVariables false
set_option linter.unusedSimpArgs false
namespace Go.Ch
open Go Go.Ab
structure BarB(d:List DStep)(us:List DU)(n:Nat):Prop where
 du:DU_ U0 d us
 ex:(exD d).length≤n
 bare:BareU us
theorem BarB.st{d:List DStep}{us:List DU}{n:Nat}(h:BarB d us n)(hn:n≤1000):(∀s∈d,PlS s∧s.elems.length≤n)∧DN 1048576 d∧d.length≤n:=by
 have hv:=h.du.v
 have hb:∀c,DU.K c∈exD d→c=[]:=fun c hc=>bare_iff.1 h.bare c ((dsw_mem h.du.sw _).1 hc)
 have key:∀s∈d,PlS s∧s.elems.length≤n:=fun s hs=>by
  rcases hv.1.all s hs with⟨k,n0,a,e,el⟩| ⟨k,e,a2,n1,n2,va⟩
  ·have hel:s.elems.length≤n:=by
    have hsub:(exS s).length≤(exD d).length:=by
     obtain⟨A,B,rfl⟩:=List.append_of_mem hs
     rw[exD_app]
     show _≤(exD A++(exS s++exD B)).length
     simp only[List.length_append];omega
    have:exS s=s.elems.map .A:=by unfold exS;rw[if_pos k]
    rw[this,List.length_map] at hsub
    have:=h.ex;omega
   refine⟨⟨a,fun q=>absurd k q,by omega,by omega,fun x hx=> ?_⟩,hel⟩
   have hu:DU.A x∈exD d:=exD_mem hs (by unfold exS;rw[if_pos k];exact List.mem_map.2 ⟨x,hx,rfl⟩)
   have:=UU.s un0.len (h.du.ex _ hu)
   have hru:RU U0 x:=h.du.ex _ hu
   exact Nat.le_trans (hru.2.len un0.len) (by decide)
  ·have ha:s.attrs=[]:=by
    by_cases k0:s.kind=2
    ·exact a2 k0
    ·refine hb _ (exD_mem hs ?_)
     unfold exS
     rw[if_neg (by omega),if_neg k0]
     exact List.mem_replicate.2 ⟨by omega,rfl⟩
   exact⟨⟨ha,fun _=>by omega,by omega,by rw[e];exact Nat.zero_le _,fun x hx=>by rw[e] at hx;cases hx⟩,by rw[e];exact Nat.zero_le _⟩
 refine⟨key,fun s hs=> ?_,?_⟩
 ·obtain⟨h1,h2⟩:=key s hs
  exact⟨by omega,by rw[h1.at0];exact Nat.zero_le _,fun x hx=>h1.an x hx⟩
 ·have hl:=(exD_len (l:=d) (fun s hs=>by
   rcases hv.1.all s hs with⟨k,n0,a,e,el⟩| ⟨k,e,a2,n1,n2,va⟩
   ·exact .inl ⟨k,n0,a,e,el⟩
   ·exact .inr ⟨k,e,a2,n1,va⟩)).1
  have:=h.ex;omega
theorem nb0:NodeB ⟨0,0,[],[],⟨0,0,[],[]⟩,[]⟩:=
 ⟨(fun a h=>by cases h),Nat.zero_le _,(fun x h=>by cases h),Nat.zero_le _,(fun x h=>by cases h),(fun c h=>by cases h),Nat.zero_le _,(fun c h=>by cases h),Nat.zero_le _,Nat.zero_le _,(fun o h=>by cases h)⟩
theorem BarB.cp{d:List DStep}{us:List DU}{n:Nat}(h:BarB d us n)(hn:n≤1000)(ho:OpL (opF 2 d)):CpB (opF 2 d):=by
 obtain⟨_,h2,h3⟩:=h.st hn
 exact⟨ho,by show d.length≤_;omega,h2,nb0⟩
theorem cpA{l:List Attr}(ho:OpL (opA 2 l)):CpB (opA 2 l):=⟨ho,Nat.zero_le _,(fun s hs=>by cases hs),nb0⟩
def lgE(ps:List Int)(i:Nat):EntL:=⟨1+((i:Int)%2),1+((i:Int)/2),[opF 2 (stK ps i)],0,0⟩
def lgL(ps:List Int)(k:Nat):List EntL:=(List.range k).map (lgE ps)
def lgD(ps:List Int)(i:Nat):Doc:=dF (fwL ps i)
def lgS(ps:List Int)(i:Nat):List Itm×List SetE:=(itL ps i,[])
theorem lgL_succ(ps:List Int)(k:Nat):lgL ps (k+1)=lgL ps k++[lgE ps k]:=by
 unfold lgL;rw[List.range_succ,List.map_append];rfl
theorem lgL_len(ps:List Int)(k:Nat):(lgL ps k).length=k:=by unfold lgL;simp
theorem stK_bar(ps:List Int){k:Nat}(h:k<10):BarB (stK ps k) (usL k (ps.getD k default) (fwL ps k).length) 101:=by
 have hf:=fw_fu ps (k:=k) (by omega)
 have hu:=us_ok h (p:=ps.getD k default) hf.pos
 have hd:=(entry_ok ps h).1
 refine⟨hd,?_,hu.bare⟩
 rw[dsw_len hd.sw]
 have:=hu.len;have:=hf.len;omega
theorem it_cl(ps:List Int):∀k,k≤10→∀x∈itL ps k,ItmNw x∧x.cu.length≤1
 |0,_=>fun x hx=>by
  have:x=z9I:=by simpa[itL] using hx
  subst this;exact⟨by simp[ItmNw,z9I],Nat.zero_le _⟩
 |k+1,h=>by
  have hf:=fw_fu ps (k:=k) (by omega)
  have hu:=us_ok (show k<10 by omega) (p:=ps.getD k default) hf.pos
  have hd:=(entry_ok ps (show k<10 by omega)).1
  have ho:oldN (exD (stK ps k))=(nowF (itL ps k)).length:=(sw_olN hd.sw).trans hu.old
  have e:itL ps (k+1)=plI ((k:Int)+1) (exD (stK ps k)) (itL ps k):=rfl
  rw[e]
  refine pl_allI (P:=fun x=>ItmNw x∧x.cu.length≤1) (fun x hx hn=>⟨by simp[ItmNw,ctI],?_⟩) ho (fun x _=>⟨by simp[ItmNw,nwI],Nat.zero_le _⟩) (it_cl ps k (by omega))
  have:=hx.1.1 hn
  show(x.cu++[(k:Int)+1]).length≤1
  rw[this];exact Nat.le_refl _
theorem law_log(ps:List Int){n:Nat}(h:n≤10):LogB (lgD ps) (lgS ps) (lgL ps n):=by
 refine⟨by rw[lgL_len];exact h,rfl,rfl,fun i hi=> ?_⟩
 rw[lgL_len] at hi
 have hg:(lgL ps n).getD i default=lgE ps i:=by
  unfold lgL
  rw[List.getD_eq_getElem?_getD,List.getElem?_map,List.getElem?_range hi];rfl
 rw[hg]
 have hk:i<10:=by omega
 obtain⟨hd,a1,a2,a3⟩:=entry_ok ps hk
 have hb:=stK_bar ps hk
 obtain⟨s1,s2,s3⟩:=hb.st (by decide)
 have hf:=fw_fu ps (k:=i) (by omega)
 have hu:=us_ok hk (p:=ps.getD i default) hf.pos
 have hI:=il_all ps i (by omega)
 refine⟨rfl,rfl,a1,a2,a3,fun o ho=> ?_,.inr ⟨stK ps i,rfl,rfl,⟨fun s hs=>(s1 s hs).1,(sw_olN hd.sw).trans hu.old,hI.nw,?_,?_,by omega⟩⟩⟩
 ·rw[List.mem_singleton.1 ho]
  exact hb.cp (by decide) (a1.ops _ (List.mem_singleton.2 rfl))
 ·have:=hI.len
  have:aN (exD (stK ps i))=1:=(sw_aN hd.sw).trans hu.na
  show(itL ps i).length+_≤1000
  omega
 ·exact bare_iff.2 fun c hc=>bare_iff.1 hb.bare c ((dsw_mem hd.sw _).1 hc)
theorem law_of(ps:List Int){n:Nat}(h:n≤10){e:Int}(he:1≤e∧e≤(n:Int)):OfB (lgD ps) (lgS ps) (lgL ps n) e [] [] [] (undS e (itL ps n))∧appD (lgD ps n) (outN [] (undS e (itL ps n)))=dF (toF e (itL ps n)):=by
 have hI:=il_all ps n h
 obtain⟨hd,a1,a2,a3⟩:=und_ok hI h he.1
 have ho:outN [] (undS e (itL ps n))=undO e (itL ps n):=rfl
 have hbar:BarB (undS e (itL ps n)) (unL e (itL ps n)) 11:=by
  refine⟨hd,?_,bare_iff.2 fun c hc=> ?_⟩
  ·rw[dsw_len hd.sw]
   have:=(un_apply e (itL ps n)).2.2;have:=hI.len;omega
  ·unfold unL at hc
   obtain⟨x,hx,hc⟩:=List.mem_flatMap.1 hc
   unfold unI at hc
   split at hc
   ·rw[List.mem_singleton] at hc;cases hc;rfl
   ·split at hc
    ·rw[List.mem_singleton] at hc;cases hc
    ·split at hc
     ·rw[List.mem_singleton] at hc;cases hc
     ·cases hc
 refine⟨⟨law_log ps h,by rw[lgL_len];exact he,?_,rfl,rfl,by decide,?_,by rw[lgL_len];rfl,by rw[lgL_len];exact a1,by rw[lgL_len];exact a2,fun o hm=> ?_⟩,a3⟩
 ·rw[lgL_len]
  refine⟨fun x hx=>⟨hI.nw x hx,hI.ad x hx,hI.cu x hx,?_,hI.se x hx,?_⟩,?_,(fun x hx=>by cases hx),Nat.zero_le _,⟨_,_,rfl,⟨rfl,rfl⟩,⟨rfl,rfl⟩⟩⟩
  ·have:=(it_cl ps n h x hx).2;omega
  ·have hr:RU U0 x.el:=by
    rw[hI.el x hx]
    split
    ·exact pE_ru (by unfold CharP;omega) (by decide)
    ·rename_i q
     have:=hI.ad x hx
     obtain⟨c1,c2,_⟩:=chr9_ok (j:=x.ad) (by omega)
     exact pE_ru c1 c2
   exact⟨by rw[hI.el x hx];rfl,(UU.s un0.len (show UU U0 (.A x.el) from hr)).ok⟩
  ·have:=hI.len
   show(itL ps n).length≤1000;omega
 ·exact List.eq_nil_of_length_eq_zero (Nat.le_zero.1 (fm_len' chgG [] []))
 ·rcases outN_mem hm with q|q
  ·exfalso
   rw[ho] at hm
   unfold undO at hm
   split at hm
   ·cases hm
   ·rw[List.mem_singleton.1 hm] at q
    have:=congrArg EOp.kind q
    exact absurd (show(2:Int)=1 from this) (by decide)
  ·subst q
   exact hbar.cp (by decide) (a1.ops _ (by rw[←ho];exact hm))
def ttlA:List Attr:=onA {data:=#[116,105,116,108,101]}
def prN:Node:=⟨2,1,ttlA,[⟨10,0,[]⟩],⟨0,0,[],[]⟩,[]⟩
def prD:Doc:=⟨[node1,prN]⟩
theorem prD_eq:appD firstD probE=prD:=by kernel_rfl
theorem prD_l:DocL prD:=by
 have hx:∀n∈prD.nodes,n=node1∨n=prN:=fun n hn=>by
  have hn:n∈[node1,prN]:=hn
  simpa using hn
 refine⟨⟨by decide,fun n hn=> ?_,by decide⟩,fun n hn=> ?_⟩
 ·rcases hx n hn with rfl|rfl
  ·exact first_l.all node1 (by show node1∈[node1,node2];simp)
  ·refine⟨fun a h=> ?_,by decide,fun x h=> ?_,by decide,fun x h=> ?_,(fun c h=>by cases h),by decide,(fun c h=>by cases h),by decide,by decide,(fun o h=>by cases h)⟩
   ·rw[show a=⟨{data:=#[116,105,116,108,101]},{data:=#[111,110]}⟩ by simpa[prN,ttlA,onA] using h];decide
   ·rw[show x=⟨10,0,[]⟩ by simpa[prN] using h];exact(fun a h=>by cases h)
   ·rw[show x=⟨10,0,[]⟩ by simpa[prN] using h];decide
 ·rcases hx n hn with rfl|rfl<;>exact⟨rfl,(fun c h=>by cases h)⟩
def prC:List Attr:=[⟨{data:=#[116,105,116,108,101]},{data:=#[]}⟩]
def prLog:List EntL:=[⟨1,0,probE,0,0⟩]
def prDs(i:Nat):Doc:=if i=0 then firstD else prD
def prS(i:Nat):List Itm×List SetE:=([z9I],if i=0 then[] else[⟨1,ttlA⟩])
theorem pr_ops:∀o∈probE,OpL o:=prob_b.ops
theorem pr_opC:OpL (opA 2 prC):=by
 refine⟨⟨by decide,by decide,by decide,by decide,by decide⟩,nb0,⟨rfl,(fun c h=>by cases h)⟩,by decide,(fun s h=>by cases h),⟨rfl,rfl,(fun c h=>by cases h),by decide⟩,(fun c h=>by cases h),by decide⟩
theorem pr_log:LogB prDs prS prLog:=by
 refine⟨by decide,rfl,rfl,fun i hi=> ?_⟩
 have:i=0:=by have:prLog.length=1:=rfl;omega
 subst this
 exact⟨rfl,rfl,prob_b,prob_e,prD_eq,fun o ho=>by rw[List.mem_singleton.1 ho];exact cpA (pr_ops _ (List.mem_singleton.2 rfl)),.inl ⟨ttlA,rfl,rfl,rfl⟩⟩
theorem pr_out:outN prC (undS 1 [z9I])=[opA 2 prC]:=by kernel_rfl
theorem pr_ap:AppB prD [opA 2 prC]:=by
 refine⟨prD_l,fun o h=> ?_,fun h1 h2=>⟨⟨by decide,sort_doc h1,by decide+kernel,pr_opC,fun n hn=>⟨prD_l.all n hn,prD_l.lite n hn,?_⟩⟩,fun _=>trivial⟩⟩
 ·rw[List.mem_singleton.1 h];exact pr_opC
 ·have hn:n∈[node1,prN]:=hn
  simp only[List.mem_cons,List.not_mem_nil,or_false] at hn
  rcases hn with rfl|rfl<;>decide
theorem pr_of:OfB prDs prS prLog 1 ttlA [] prC (undS 1 [z9I]):=by
 refine⟨pr_log,⟨by decide,by decide⟩,⟨fun x hx=> ?_,by decide,fun x hx=> ?_,by decide,⟨node1,prN,rfl,⟨rfl,rfl⟩,⟨rfl,rfl⟩⟩⟩,by kernel_rfl,by kernel_rfl,by decide,by kernel_rfl,rfl,?_,?_,fun o hm=> ?_⟩
 ·rw[List.mem_singleton.1 hx]
  exact⟨by simp[ItmNw,z9I],by simp[z9I],(fun k hk=>by cases hk),Nat.zero_le _,rfl,rfl,by decide+kernel,Nat.zero_le _⟩
 ·have:x=⟨1,ttlA⟩:=List.mem_singleton.1 hx
  subst this
  exact⟨⟨by decide,by decide⟩,by decide⟩
 ·rw[pr_out];exact pr_ap
 ·rw[pr_out];show appE prD [opA 2 prC]=0;decide+kernel
 ·rw[pr_out,List.mem_singleton] at hm
  subst hm;exact cpA pr_opC
theorem chr_odd{k:Int}(h:k%2=1):chr9 (k+1)=97+k:=by
 unfold chr9;rw[if_neg (by omega)];omega
theorem chr_even{k:Int}(h:¬k%2=1):chr9 (k+1)=65+k:=by
 unfold chr9;rw[if_pos (by omega)];omega
theorem toL_1(k:Nat)(p:Int){n:Nat}(hn:0<n):withinI p 0 ((n:Int)- 1)=((toL k p n).1:Int):=by
 have:=withinI_bd p (lo:=0) (hi:=(n:Int)- 1) (by omega)
 show _=(((withinI p 0 ((n:Int)- 1)).toNat:Nat):Int)
 omega
theorem toL_t{k:Nat}{p:Int}{n:Nat}(h:(k:Int)%3=2∧((toL k p n).1:Int)< (n:Int)- 1):((toL k p n).1:Int)+1=((toL k p n).2:Int):=by
 unfold toL at h⊢
 simp only at h⊢
 rw[if_pos (by omega)];omega
theorem toL_e{k:Nat}{p:Int}{n:Nat}(h:¬((k:Int)%3=2∧((toL k p n).1:Int)< (n:Int)- 1)):((toL k p n).1:Int)=((toL k p n).2:Int):=by
 unfold toL at h⊢
 simp only at h⊢
 rw[if_neg (by omega)]
theorem ec_t{e c:Int}(h:c=65+e- 1∨c=97+e- 1):eC e c=true:=by
 unfold eC;simpa using h
theorem ec_f{e c:Int}(h:c≠65+e- 1∧c≠97+e- 1):eC e c=false:=by
 unfold eC;simpa using h
def resL(e:Int)(W:List Elem)(i:Nat):List Int:=((W.drop i).filter fun x=> !(eC e x.char)).map Elem.char
theorem res_skip{e:Int}{W:List Elem}{i:Nat}(h:i<W.length)(hc:eC e (W.getD i default).char=true):resL e W i=resL e W (i+1):=by
 unfold resL
 rw[List.drop_eq_getElem_cons h,List.filter_cons,if_neg]
 rw[List.getD_eq_getElem?_getD,List.getElem?_eq_getElem h] at hc
 have hc:eC e W[i].char=true:=hc
 rw[hc];decide
theorem res_cons{e:Int}{W:List Elem}{i:Nat}(h:i<W.length)(hc:eC e (W.getD i default).char=false):resL e W i=(W.getD i default).char::resL e W (i+1):=by
 have hg:W.getD i default=W[i]:=by rw[List.getD_eq_getElem?_getD,List.getElem?_eq_getElem h];rfl
 rw[hg] at hc⊢
 unfold resL
 rw[List.drop_eq_getElem_cons h,List.filter_cons,if_pos (by rw[hc];rfl)];rfl
theorem map_at{T:List Elem}{a:Nat}(h:a<T.length):(T.map Elem.char)[a]'(by rw[List.length_map];exact h)=(T.getD a default).char:=by
 rw[List.getElem_map,List.getD_eq_getElem?_getD,List.getElem?_eq_getElem h];rfl
theorem law_sub(ps:List Int){n:Nat}(h:n≤10){e:Int}(he:1≤e∧e≤(n:Int)):(resL e (fwL ps n) 0).Sublist (((toF e (itL ps n)).map Elem.char).drop 0):=stay_sub (il_all ps n h) h (by omega)
theorem law_none(ps:List Int){n:Nat}(h:n≤10){e:Int}(he:1≤e∧e≤(n:Int)){x:Elem}(hx:x∈toF e (itL ps n)):eC e x.char=false:=stay_none (il_all ps n h) h (by omega) hx
end Go.Ch
end
section
set_option linter.unusedVariables false
set_option linter.unusedSimpArgs false
set_option maxRecDepth 100000
set_option maxHeartbeats 4000000
open Go Go.Proofs Go.Ab
namespace Go.Ch
theorem fc_bounds(n a b:Int)(h:(0≤n∧n≤1000000)∧0≤a∧a≤b∧b≤n):FC Tryz.prog 13 [VI n,VI a,VI b] (app emp []) (VI 0) (app emp []):=by
 refine .go Tryz.f13 ?_
 refine .bp [.r [],.r [(4,Xv 1 (!(decide (n<0))) X0),(5,X (Xk' (decide (n<0)))),(8,Xv 1 (!(decide (n<0)||decide (n>2147483647))) X0),(9,X (Xk' (decide (n<0)||decide (n>2147483647)))),(13,Xv 2 (!((decide (n<0)||decide (n>2147483647))||decide (a<0))) X0),(14,X (Xk' ((decide (n<0)||decide (n>2147483647))||decide (a<0)))),(18,Xv 2 (!(((decide (n<0)||decide (n>2147483647))||decide (a<0))||decide (b<a))) X0),(19,X (Xk' (((decide (n<0)||decide (n>2147483647))||decide (a<0))||decide (b<a))))]] ((((decide (n<0)||decide (n>2147483647))||decide (a<0))||decide (b<a))||decide (b>n)) (fun h1=> ?_) (fun h1=> ?_)
 ·
  exfalso
  omega
 ·
  exact .fin [.r []] []
theorem fc_replaceS(n p b:Nat)(es:List Elem)(h:p+1≤b∧b<n∧n≤1000)(he:partE es 0=0)(ha:AN 400000000000 es)(hl:es.length≤1000)(hu:∀u∈(List.replicate (p+1) (DU.K [])++(es.map DU.A++(List.replicate (b- (p+1)) DU.C++List.replicate (n-b- 1+1) (DU.K [])))),UnitOk u)(ho:oldN (List.replicate (p+1) (DU.K [])++(es.map DU.A++(List.replicate (b- (p+1)) DU.C++List.replicate (n-b- 1+1) (DU.K []))))≤2147483647)(hw:newN (List.replicate (p+1) (DU.K [])++(es.map DU.A++(List.replicate (b- (p+1)) DU.C++List.replicate (n-b- 1+1) (DU.K []))))≤2147483647):FC Tryz.prog 7 [VI (n:Int),VI ((p+1:Nat):Int),VI (b:Int),VL 3 elemT es] (app emp []) (.tup [.row 0 ((doneD (List.replicate (p+1) (DU.K [])++(es.map DU.A++(List.replicate (b- (p+1)) DU.C++List.replicate (n-b- 1+1) (DU.K []))))).length),VI 0]) (app emp [(0,OR 4 dstepT (doneD (List.replicate (p+1) (DU.K [])++(es.map DU.A++(List.replicate (b- (p+1)) DU.C++List.replicate (n-b- 1+1) (DU.K []))))))]):=by
 refine .go Tryz.f7 ?_
 refine .len 3 (fun hl3=> ?_)
 have z0:([]:List DStep).length=0:=rfl
 have z1:([]:List Elem).length=0:=rfl
 have D0:=DI.start hu (by simp only[List.length_append,List.length_replicate,List.length_map];omega)
 have D1:=D0.keep
 have D2:=D1.elems
 have D3:=D2.cuts
 have hD3:∀{w:DWr} {T:Nat} {G:DWr},DI w (List.replicate (n-b- 1+1) (DU.K [])) T G→DI w (List.replicate (n-b- 1+1) (DU.K [])++[]) T G:=fun h=>by rw[List.append_nil];exact h
 have D4:=DI.keep (hD3 D3)
 have b2:(keepD (flushD ⟨[],[],0⟩) ((p+1:Nat):Int) []).length≤100000000000:=by
  have h:=D2.bd;dsimp only at h;simp only[List.length_append,List.length_replicate,List.length_map] at h;omega
 have k0:=D0.fl.1
 have k3:=D3.fl.1
 have ec:((b:Int)- ((p+1:Nat):Int))=0+((b- (p+1):Nat):Int):=by omega
 have en:((n:Int)- (b:Int))=((n-b- 1+1:Nat):Int):=by omega
 have hG:=D4.done
 have b4:(keepD (flushD ⟨(keepD (flushD ⟨[],[],0⟩) ((p+1:Nat):Int) []),([]++es),(0+((b- (p+1):Nat):Int))⟩) ((n:Int)- (b:Int)) []).length≤100000000000:=by
  rw[en];have h:=D4.bd;dsimp only at h;simp only[List.length_append,List.length_replicate,List.length_map] at h;omega
 refine .bp [.r [],.r [(3,X (Xc0 (fc_bounds (n:Int) ((p+1:Nat):Int) (b:Int) (by omega)) X0))],.r [],.f,.r [(1,X (Xc0 (fc_checkPart es) X0))],.r []] ((partE es 0) !=0) (fun h5=> ?_) (fun h5=> ?_)
 ·
  exfalso
  omega
 ·
  have hfx:flushD ⟨(keepD (flushD ⟨(keepD (flushD ⟨[],[],0⟩) ((p+1:Nat):Int) []),([]++es),(0+((b- (p+1):Nat):Int))⟩) ((n:Int)- (b:Int)) []),[],0⟩=doneD (List.replicate (p+1) (DU.K [])++(es.map DU.A++(List.replicate (b- (p+1)) DU.C++List.replicate (n-b- 1+1) (DU.K [])))):=by
   rw[en];unfold doneD;rw[←hG]
  have hck:checkD (flushD ⟨(keepD (flushD ⟨(keepD (flushD ⟨[],[],0⟩) ((p+1:Nat):Int) []),([]++es),(0+((b- (p+1):Nat):Int))⟩) ((n:Int)- (b:Int)) []),[],0⟩)=0:=by rw[hfx];exact checkD_iff.2 (doneD_ok hu ho hw).1
  have hdn:DN 400000000000 (flushD ⟨(keepD (flushD ⟨(keepD (flushD ⟨[],[],0⟩) ((p+1:Nat):Int) []),([]++es),(0+((b- (p+1):Nat):Int))⟩) ((n:Int)- (b:Int)) []),[],0⟩):=by rw[en];exact D4.fl.2
  have e1:((doneD (List.replicate (p+1) (DU.K [])++(es.map DU.A++(List.replicate (b- (p+1)) DU.C++List.replicate (n-b- 1+1) (DU.K []))))):List DStep)=(flushD ⟨(keepD (flushD ⟨(keepD (flushD ⟨[],[],0⟩) ((p+1:Nat):Int) []),([]++es),(0+((b- (p+1):Nat):Int))⟩) ((n:Int)- (b:Int)) []),[],0⟩):=by
   first|exact hfx.symm|rw[hfx]
  have e2:((doneD (List.replicate (p+1) (DU.K [])++(es.map DU.A++(List.replicate (b- (p+1)) DU.C++List.replicate (n-b- 1+1) (DU.K []))))).length:Nat)=(flushD ⟨(keepD (flushD ⟨(keepD (flushD ⟨[],[],0⟩) ((p+1:Nat):Int) []),([]++es),(0+((b- (p+1):Nat):Int))⟩) ((n:Int)- (b:Int)) []),[],0⟩).length:=by
   first|exact hfx.symm|rw[hfx]
  exact .finE [.r [],.le (.nB 112 0 4),.le (.nB 112 1 3),.r [(1,X (Xc3 130 [(0,112),(1,120),(2,121)] (.nil 2 2 (fc_dKeep [] [] 0 ((p+1:Nat):Int) [] (by omega) (by first|omega|simp) (by omega) (by first|assumption|exact kbd (by assumption)))) X0))],.r [(1,X (Xc3 146 [(0,112),(1,120),(2,130)] (fc_dElems (keepD (flushD ⟨[],[],0⟩) ((p+1:Nat):Int) []) [] 0 es (by assumption) (by omega)) X0))],.r [(2,X (Xn ((b:Int)- ((p+1:Nat):Int))))],.le (.eb 112 2 (VI ((b:Int)- ((p+1:Nat):Int))) (VI (0+((b- (p+1):Nat):Int))) (by rw[ec])),.r [(2,X (Xn ((n:Int)- (b:Int)))),(3,X (Xc3 218 [(0,112),(1,120),(2,130)] (.nil 2 2 (fc_dKeep (keepD (flushD ⟨[],[],0⟩) ((p+1:Nat):Int) []) ([]++es) (0+((b- (p+1):Nat):Int)) ((n:Int)- (b:Int)) [] (by omega) (by first|omega|simp) (by omega) (by first|assumption|exact kbd (by assumption)))) X0))],.r [(0,X (Xc3 226 [(0,112),(1,120),(2,218)] (fc_dDone (keepD (flushD ⟨(keepD (flushD ⟨[],[],0⟩) ((p+1:Nat):Int) []),([]++es),(0+((b- (p+1):Nat):Int))⟩) ((n:Int)- (b:Int)) []) [] 0 (by omega) (by assumption) (by assumption)) X0))]] [(120,0)] (fun((z0,z1):(List DStep)×Nat)=>(.tup [.row 0 z1,VI 0],[(0,OR 4 dstepT z0)])) _ _ (pr e1 e2)
theorem fc_replace0(n b:Nat)(es:List Elem)(h:b<n∧n≤1000)(he:partE es 0=0)(ha:AN 400000000000 es)(hl:es.length≤1000)(hu:∀u∈(es.map DU.A++(List.replicate b DU.C++List.replicate (n-b- 1+1) (DU.K []))),UnitOk u)(ho:oldN (es.map DU.A++(List.replicate b DU.C++List.replicate (n-b- 1+1) (DU.K [])))≤2147483647)(hw:newN (es.map DU.A++(List.replicate b DU.C++List.replicate (n-b- 1+1) (DU.K [])))≤2147483647):FC Tryz.prog 7 [VI (n:Int),VI 0,VI (b:Int),VL 3 elemT es] (app emp []) (.tup [.row 0 ((doneD (es.map DU.A++(List.replicate b DU.C++List.replicate (n-b- 1+1) (DU.K [])))).length),VI 0]) (app emp [(0,OR 4 dstepT (doneD (es.map DU.A++(List.replicate b DU.C++List.replicate (n-b- 1+1) (DU.K [])))))]):=by
 refine .go Tryz.f7 ?_
 refine .len 3 (fun hl3=> ?_)
 have z2:(0:Int)=0:=rfl
 have z0:([]:List DStep).length=0:=rfl
 have z1:([]:List Elem).length=0:=rfl
 have D0:=DI.start hu (by simp only[List.length_append,List.length_replicate,List.length_map];omega)
 have D2:=D0.elems
 have D3:=D2.cuts
 have hD3:∀{w:DWr} {T:Nat} {G:DWr},DI w (List.replicate (n-b- 1+1) (DU.K [])) T G→DI w (List.replicate (n-b- 1+1) (DU.K [])++[]) T G:=fun h=>by rw[List.append_nil];exact h
 have D4:=DI.keep (hD3 D3)
 have k3:=D3.fl.1
 have ec:((b:Int)- 0)=0+(b:Int):=by omega
 have en:((n:Int)- (b:Int))=((n-b- 1+1:Nat):Int):=by omega
 have hG:=D4.done
 have b4:(keepD (flushD ⟨[],([]++es),(0+(b:Int))⟩) ((n:Int)- (b:Int)) []).length≤100000000000:=by
  rw[en];have h:=D4.bd;dsimp only at h;simp only[List.length_append,List.length_replicate,List.length_map] at h;omega
 refine .bp [.r [],.r [(3,X (Xc0 (fc_bounds (n:Int) 0 (b:Int) (by omega)) X0))],.r [],.f,.r [(1,X (Xc0 (fc_checkPart es) X0))],.r []] ((partE es 0) !=0) (fun h5=> ?_) (fun h5=> ?_)
 ·
  exfalso
  omega
 ·
  have hfx:flushD ⟨(keepD (flushD ⟨[],([]++es),(0+(b:Int))⟩) ((n:Int)- (b:Int)) []),[],0⟩=doneD (es.map DU.A++(List.replicate b DU.C++List.replicate (n-b- 1+1) (DU.K []))):=by
   rw[en];unfold doneD;rw[←hG]
  have hck:checkD (flushD ⟨(keepD (flushD ⟨[],([]++es),(0+(b:Int))⟩) ((n:Int)- (b:Int)) []),[],0⟩)=0:=by rw[hfx];exact checkD_iff.2 (doneD_ok hu ho hw).1
  have hdn:DN 400000000000 (flushD ⟨(keepD (flushD ⟨[],([]++es),(0+(b:Int))⟩) ((n:Int)- (b:Int)) []),[],0⟩):=by rw[en];exact D4.fl.2
  have e1:((doneD (es.map DU.A++(List.replicate b DU.C++List.replicate (n-b- 1+1) (DU.K [])))):List DStep)=(flushD ⟨(keepD (flushD ⟨[],([]++es),(0+(b:Int))⟩) ((n:Int)- (b:Int)) []),[],0⟩):=by
   first|exact hfx.symm|rw[hfx]
  have e2:((doneD (es.map DU.A++(List.replicate b DU.C++List.replicate (n-b- 1+1) (DU.K [])))).length:Nat)=(flushD ⟨(keepD (flushD ⟨[],([]++es),(0+(b:Int))⟩) ((n:Int)- (b:Int)) []),[],0⟩).length:=by
   first|exact hfx.symm|rw[hfx]
  exact .finE [.r [],.le (.nB 112 0 4),.le (.nB 112 1 3),.r [(1,X (Xc3 130 [(0,112),(1,120),(2,121)] (.nil 2 2 (fc_dKeep0 [] [] 0 0 [] (by assumption))) X0))],.r [(1,X (Xc3 146 [(0,112),(1,120),(2,121)] (fc_dElems [] [] 0 es (by assumption) (by omega)) X0))],.r [(2,X (Xn ((b:Int)- 0)))],.le (.eb 112 2 (VI ((b:Int)- 0)) (VI (0+(b:Int))) (by rw[ec])),.r [(2,X (Xn ((n:Int)- (b:Int)))),(3,X (Xc3 218 [(0,112),(1,120),(2,121)] (.nil 2 2 (fc_dKeep [] ([]++es) (0+(b:Int)) ((n:Int)- (b:Int)) [] (by omega) (by first|omega|simp) (by omega) (by first|assumption|exact kbd (by assumption)))) X0))],.r [(0,X (Xc3 226 [(0,112),(1,120),(2,218)] (fc_dDone (keepD (flushD ⟨[],([]++es),(0+(b:Int))⟩) ((n:Int)- (b:Int)) []) [] 0 (by omega) (by assumption) (by assumption)) X0))]] [(120,0)] (fun((z0,z1):(List DStep)×Nat)=>(.tup [.row 0 z1,VI 0],[(0,OR 4 dstepT z0)])) _ _ (pr e1 e2)
end Go.Ch
end
section
set_option linter.unusedVariables false
set_option linter.unusedSimpArgs false
set_option maxRecDepth 100000
open Go Go.Proofs Go.Ab
namespace Go.Ch
theorem us_len:∀us:List DU,oldN us≤us.length∧newN us≤us.length
 | []=>⟨Nat.le_refl _,Nat.le_refl _⟩
 |u::us=>by
  have:=us_len us
  cases u<;>simp only[oldN,newN,List.length_cons]<;>omega
theorem fc_replL{k n:Nat}{p:Int}(hk:k<10)(hn:0<n∧n≤100):FC Tryz.prog 7 [VI (n:Int),VI (((toL k p n).1:Nat):Int),VI (((toL k p n).2:Nat):Int),VL 3 elemT [pE (chr9 ((k:Int)+1))]] (app emp []) (.tup [.row 0 (stL k p n).length,VI 0]) (app emp [(0,OR 4 dstepT (stL k p n))]):=by
 have h:=us_ok hk (p:=p) hn.1
 have hl:=us_len (usL k p n)
 have hu:∀u∈usL k p n,UnitOk u:=fun u hu=>(UU.s un0.len (h.all u hu)).ok
 have h0:=h.len
 have he:partE [pE (chr9 ((k:Int)+1))] 0=0:=part_iff.2 fun x hx=>by
  have:=hu (.A x) (by unfold usL;simp only[List.mem_append,List.mem_map];exact .inr (.inl ⟨x,hx,rfl⟩))
  exact this.1
 have ha:AN 400000000000 [pE (chr9 ((k:Int)+1))]:=fun x hx=>by
  rw[List.mem_singleton.1 hx];exact Nat.zero_le _
 obtain⟨h1,h2,h3⟩:=toL_ok (k:=k) (p:=p) hn.1
 unfold stL
 revert hu hl h0
 unfold usL
 generalize toL k p n=ab at h1 h2 h3
 obtain⟨a,b⟩:=ab
 simp only at h1 h2 h3⊢
 rw[show n-b=n-b- 1+1 by omega]
 intro hl hu h0
 cases a with
 |zero=>exact fc_replace0 n b _ (by omega) he ha (Nat.le_of_ble_eq_true rfl) hu (Nat.le_trans hl.1 (Nat.le_trans h0 (by omega))) (Nat.le_trans hl.2 (Nat.le_trans h0 (by omega)))
 |succ a=>exact fc_replaceS n a b _ (by omega) he ha (Nat.le_of_ble_eq_true rfl) hu (Nat.le_trans hl.1 (Nat.le_trans h0 (by omega))) (Nat.le_trans hl.2 (Nat.le_trans h0 (by omega)))
end Go.Ch
end
section
set_option linter.unusedVariables false
set_option linter.unusedSimpArgs false
set_option maxRecDepth 100000
set_option maxHeartbeats 4000000
open Go Go.Proofs Go.Ab
namespace Go.Ch
theorem fc_ofP:FC Tryz.prog 12 [.t (docT firstD),VL 5 entT prLog,VI 1,VI 1] (app emp []) (.tup [VL 19 eopT [opA 2 prC],VI 0]) (app emp []):=by
 have:=fc_undoOf 1 pr_of (by decide)
 rw[pr_out] at this;exact this
theorem fc_unL(ps:List Int){n:Nat}(h:n≤10){e:Int}(he:1≤e∧e≤(n:Int)):FC Tryz.prog 9 [.t (docT firstD),VL 5 entT (lgL ps n),.t (docT (dF (fwL ps n))),VI e] (app emp []) (.tup [.row 0 (lgL ps n++[({site:=9,num:=1,ch:=outN [] (undS e (itL ps n)),un:=e,rf:=0}:EntL)]).length,.t (docT (dF (toF e (itL ps n)))),VB true]) (app emp [(0,OR 5 entT (lgL ps n++[({site:=9,num:=1,ch:=outN [] (undS e (itL ps n)),un:=e,rf:=0}:EntL)]))]):=by
 obtain⟨h1,h2⟩:=law_of ps h he
 have:=fc_undone h1 (d2:=dF (toF e (itL ps n))) (by rw[lgL_len];exact h2)
 rw[lgL_len] at this;exact this
theorem fc_probeU:FC Tryz.prog 4 [] (app emp []) (VB true) (app emp []):=by
 refine .go Tryz.f4 ?_
 have e1:(((((true&&(([opA 2 prC].length:Int)==1))&&(((([opA 2 prC].getD 0 default)).kind)==1))&&((((([opA 2 prC].getD 0 default)).attrs).length:Int)==1))&&(seq (((((([opA 2 prC].getD 0 default)).attrs).getD 0 default)).name) ({data:=#[116,105,116,108,101]})&&(seq (((((([opA 2 prC].getD 0 default)).attrs).getD 0 default)).val) ({data:=#[]})&&true))):Bool)=true:=by
  decide+kernel
 exact .finE [.r [],.r [(0,X (Xc0 fc_edits X0))],.f,.r [(0,X (Xc1 24 fc_first X0))],.r [(0,X (Xc1 48 (fc_onA ({data:=#[116,105,116,108,101]})) X0)),(1,X (Xf [(4,2),(5,3),(8,5),(9,4),(10,8),(12,4),(13,2),(14,2),(15,5),(16,4),(17,4),(18,8)])),(4,X (rowC eopT [({kind:=1,node:=2,nw:=({id:=0,kind:=0,attrs:=[],flow:=[],grid:=({rows:=0,cols:=0,cells:=[],merges:=[]}:Grid),draw:=[]}:Node),attrs:=(onA ({data:=#[116,105,116,108,101]})),steps:=[],grid:=({rows:=[],cols:=[],cells:=[],split:=[],merge:=[]}:GEd),draw:=[]}:EOp)] X0))],.le (.er 80 (List.map entT [({site:=1,num:=0,ch:=[({kind:=1,node:=2,nw:=({id:=0,kind:=0,attrs:=[],flow:=[],grid:=({rows:=0,cols:=0,cells:=[],merges:=[]}:Grid),draw:=[]}:Node),attrs:=(onA ({data:=#[116,105,116,108,101]})),steps:=[],grid:=({rows:=[],cols:=[],cells:=[],split:=[],merge:=[]}:GEd),draw:=[]}:EOp)],un:=0,rf:=0}:EntL)]) (List.map entT prLog) (by rw[(show[({site:=1,num:=0,ch:=[({kind:=1,node:=2,nw:=({id:=0,kind:=0,attrs:=[],flow:=[],grid:=({rows:=0,cols:=0,cells:=[],merges:=[]}:Grid),draw:=[]}:Node),attrs:=(onA ({data:=#[116,105,116,108,101]})),steps:=[],grid:=({rows:=[],cols:=[],cells:=[],split:=[],merge:=[]}:GEd),draw:=[]}:EOp)],un:=0,rf:=0}:EntL)]=prLog from rfl)])),.le (.eq 2 (.row 80 1) (.row 80 prLog.length) (.of_eq (by first| (with_reducible rfl)| (rw[(show[({site:=1,num:=0,ch:=[({kind:=1,node:=2,nw:=({id:=0,kind:=0,attrs:=[],flow:=[],grid:=({rows:=0,cols:=0,cells:=[],merges:=[]}:Grid),draw:=[]}:Node),attrs:=(onA ({data:=#[116,105,116,108,101]})),steps:=[],grid:=({rows:=[],cols:=[],cells:=[],split:=[],merge:=[]}:GEd),draw:=[]}:EOp)],un:=0,rf:=0}:EntL)]=prLog from rfl)]<;>rfl)|rfl))),.r [(2,X (Xc1 112 fc_ofP (rowC entT prLog X0)))],.r [(4,Xv 1 true (Xl eopT [opA 2 prC])),(5,Xv 1 true X0),(6,X (Xk true)),(9,Xv 1 (true&&(([opA 2 prC].length:Int)==1)) (Xi eopT [opA 2 prC] 0) (fun hg=>by(try simp only[Bool.and_eq_true,Bool.and_eq_false_iff,Bool.not_eq_true',Bool.not_eq_false',beq_iff_eq,beq_eq_false_iff_ne,ne_eq] at hg);exact⟨(by first|omega| (simp;omega)| (simp;done)|assumption),(by decide)⟩)),(10,Xv 1 (true&&(([opA 2 prC].length:Int)==1)) X0),(11,Xv 1 (true&&(([opA 2 prC].length:Int)==1)) X0),(12,Xv 1 (true&&(([opA 2 prC].length:Int)==1)) X0),(13,X (Xk (true&&(([opA 2 prC].length:Int)==1)))),(16,Xv 1 ((true&&(([opA 2 prC].length:Int)==1))&&(((([opA 2 prC].getD 0 default)).kind)==1)) (Xi eopT [opA 2 prC] 0) (fun hg=>by(try simp only[Bool.and_eq_true,Bool.and_eq_false_iff,Bool.not_eq_true',Bool.not_eq_false',beq_iff_eq,beq_eq_false_iff_ne,ne_eq] at hg);exact⟨(by first|omega| (simp;omega)| (simp;done)|assumption),(by decide)⟩)),(17,Xv 1 ((true&&(([opA 2 prC].length:Int)==1))&&(((([opA 2 prC].getD 0 default)).kind)==1)) X0),(18,Xv 1 ((true&&(([opA 2 prC].length:Int)==1))&&(((([opA 2 prC].getD 0 default)).kind)==1)) X0),(19,Xv 1 ((true&&(([opA 2 prC].length:Int)==1))&&(((([opA 2 prC].getD 0 default)).kind)==1)) (Xl attrT ((([opA 2 prC].getD 0 default)).attrs))),(20,Xv 1 ((true&&(([opA 2 prC].length:Int)==1))&&(((([opA 2 prC].getD 0 default)).kind)==1)) X0),(21,X (Xk ((true&&(([opA 2 prC].length:Int)==1))&&(((([opA 2 prC].getD 0 default)).kind)==1)))),(24,Xv 1 (((true&&(([opA 2 prC].length:Int)==1))&&(((([opA 2 prC].getD 0 default)).kind)==1))&&((((([opA 2 prC].getD 0 default)).attrs).length:Int)==1)) (Xi eopT [opA 2 prC] 0) (fun hg=>by(try simp only[Bool.and_eq_true,Bool.and_eq_false_iff,Bool.not_eq_true',Bool.not_eq_false',beq_iff_eq,beq_eq_false_iff_ne,ne_eq] at hg);exact⟨(by first|omega| (simp;omega)| (simp;done)|assumption),(by decide)⟩)),(25,Xv 1 (((true&&(([opA 2 prC].length:Int)==1))&&(((([opA 2 prC].getD 0 default)).kind)==1))&&((((([opA 2 prC].getD 0 default)).attrs).length:Int)==1)) X0),(26,Xv 1 (((true&&(([opA 2 prC].length:Int)==1))&&(((([opA 2 prC].getD 0 default)).kind)==1))&&((((([opA 2 prC].getD 0 default)).attrs).length:Int)==1)) X0),(27,Xv 1 (((true&&(([opA 2 prC].length:Int)==1))&&(((([opA 2 prC].getD 0 default)).kind)==1))&&((((([opA 2 prC].getD 0 default)).attrs).length:Int)==1)) (Xi attrT ((([opA 2 prC].getD 0 default)).attrs) 0) (fun hg=>by(try simp only[Bool.and_eq_true,Bool.and_eq_false_iff,Bool.not_eq_true',Bool.not_eq_false',beq_iff_eq,beq_eq_false_iff_ne,ne_eq] at hg);exact⟨(by first|omega| (simp;omega)| (simp;done)|assumption),(by decide)⟩)),(28,Xv 1 (((true&&(([opA 2 prC].length:Int)==1))&&(((([opA 2 prC].getD 0 default)).kind)==1))&&((((([opA 2 prC].getD 0 default)).attrs).length:Int)==1)) X0),(30,Xv 2 (((true&&(([opA 2 prC].length:Int)==1))&&(((([opA 2 prC].getD 0 default)).kind)==1))&&((((([opA 2 prC].getD 0 default)).attrs).length:Int)==1)) X0),(31,X (Xk (((true&&(([opA 2 prC].length:Int)==1))&&(((([opA 2 prC].getD 0 default)).kind)==1))&&((((([opA 2 prC].getD 0 default)).attrs).length:Int)==1))))]] [] (fun z0:Bool=>(VB z0,[])) _ _ e1.symm
theorem fc_within(x lo hi:Int)(hl: -1000000000000≤lo∧lo≤hi∧hi≤1000000000000):FC Tryz.prog 6 [VI x,VI lo,VI hi] (app emp []) (VI (withinI x lo hi)) (app emp []):=by
 refine .go Tryz.f6 ?_
 have e1:((withinI x lo hi):Int)=(lo+(((x.tmod ((hi-lo)+1))+((hi-lo)+1)).tmod ((hi-lo)+1))):=by
  rfl
 exact .finE [.r [],.r [(2,X (Xn (hi-lo))),(3,X (Xn ((hi-lo)+1)))],.r [(3,X (Xc ((((hi-lo)+1):Int)≠0))),(5,X (Xn ((x.tmod ((hi-lo)+1))+((hi-lo)+1))) (by have h1:=tmod_bd x (n:=hi-lo+1) (by omega);omega)),(7,X (Xc ((((hi-lo)+1):Int)≠0))),(8,X (Xn (lo+(((x.tmod ((hi-lo)+1))+((hi-lo)+1)).tmod ((hi-lo)+1)))) (by have h1:=withinI_bd x (lo:=lo) (hi:=hi) (by omega);unfold withinI at h1;omega))]] [] (fun z0:Int=>(VI z0,[])) _ _ e1
theorem fc_law50(ps:List Int)(entry:Int):FC Tryz.prog 3 [VL 1 intT ps,VI entry] (app emp []) (VB true) (app emp []):=by
 refine .go Tryz.f3 ?_
 refine .len 0 (fun hl0=> ?_)
 obtain⟨qs,hqs⟩:∃qs,ps.take (min ps.length 10)=qs:=⟨_,rfl⟩
 have hql:qs.length≤10:=by rw[←hqs,List.length_take];omega
 have hmn:Int.toNat (min (ps.length:Int) 10)=min ps.length 10:=by omega
 refine .loop (α:=Nat×(List Node)×(List EntL)) [.r [],.r [(0,X (Xc0 fc_probeU X0))],.f,.r [(0,X (Xc1 24 fc_first X0))],.r [],.r [],.r [(2,X (Xl intT ps)),(3,X (Xmin (ps.length:Int) 10)),(4,X (Xst intT 1 ps (min (ps.length:Int) 10))),(5,X (Xl intT (ps.take (Int.toNat (min (ps.length:Int) 10)))))],.le (.eq 36 (VL 1 intT (ps.take (Int.toNat (min (ps.length:Int) 10)))) (VL 1 intT qs) (.of_eq (by rw[hmn,hqs]))),.le (.eq 37 (VI ((ps.take (Int.toNat (min (ps.length:Int) 10))).length:Int)) (VI (qs.length:Int)) (.of_eq (by rw[hmn,hqs]))),.le (.nR 7 5)] 137 (fun(k,dn,L)=>([(1,VI entry),(5,.ptr 32 0),(6,.ptr 56 0),(7,.row 136 L.length),(36,VL 1 intT qs),(37,VI (qs.length:Int)),(38,VI (k:Int))],[(32,.box [VL 9 nodeT firstD.nodes]),(56,.box [VL 9 nodeT dn]),(136,OR 5 entT L)])) (fun(k,dn,L)=>k≤qs.length∧L=lgL qs k∧dn=(dF (fwL qs k)).nodes) (fun(k,dn,L)=>qs.length-k) (0,firstD.nodes,[]) ?_ ?_
 ·
  exact⟨Nat.zero_le _,rfl,rfl⟩
 rintro⟨k,dn,L⟩ I7 ih7
 try dsimp only at I7
 refine .bp [.r []] (decide ((k:Int)< (qs.length:Int))) (fun h7=> ?_) (fun h7=> ?_)
 ·
  have hLl:L.length=k:=by rw[I7.2.1,lgL_len]
  have hk9:k<10:=by omega
  have hf:=fw_fu qs (k:=k) (by omega)
  have hf0:=hf.pos
  have hfl:=hf.len
  obtain⟨en1,en2,en3,en4⟩:=entry_ok qs hk9
  refine .bp [.r [(1,X (Xi intT qs (k:Int)))],.le (.eb 56 0 (VL 9 nodeT dn) (VL 9 nodeT ((dF (fwL qs k)).nodes)) (by rw[I7.2.2])),.r [(2,X (Xi nodeT ((dF (fwL qs k)).nodes) 1) ⟨(by first|omega| (simp;omega)| (simp;done)|assumption),(by show(1:Int)< 2;decide)⟩),(5,X (Xl elemT (((((dF (fwL qs k)).nodes).getD 1 default)).flow)))],.le (.eq 10 (VI ((((((dF (fwL qs k)).nodes).getD 1 default)).flow).length:Int)) (VI ((fwL qs k).length:Int)) (.of_eq (by rfl))),.r [(1,X (Xn (65+(k:Int)))),(2,X (Xf [(2,2)]))],.r [(1,X (Xrem (k:Int) 2))]] (((k:Int)%2)==1) (fun h11=> ?_) (fun h11=> ?_)
  ·
   refine .bp [.r [(2,X (Xn (97+(k:Int)))),(3,X (Xp elemT [({char:=(65+(k:Int)),ref:=0,attrs:=[]}:Elem)] 0)),(5,X (Xs 3 elemT 265 [({char:=(65+(k:Int)),ref:=0,attrs:=[]}:Elem)] 0 ({char:=(97+(k:Int)),ref:=(([({char:=(65+(k:Int)),ref:=0,attrs:=[]}:Elem)].getD 0 default)).ref,attrs:=(([({char:=(65+(k:Int)),ref:=0,attrs:=[]}:Elem)].getD 0 default)).attrs}:Elem)))],.le (.er 265 (List.map elemT ([({char:=(65+(k:Int)),ref:=0,attrs:=[]}:Elem)].set 0 ({char:=(97+(k:Int)),ref:=(([({char:=(65+(k:Int)),ref:=0,attrs:=[]}:Elem)].getD 0 default)).ref,attrs:=(([({char:=(65+(k:Int)),ref:=0,attrs:=[]}:Elem)].getD 0 default)).attrs}:Elem))) (List.map elemT [pE (chr9 ((k:Int)+1))]) (by rw[(show([({char:=(65+(k:Int)),ref:=0,attrs:=[]}:Elem)].set 0 ({char:=(97+(k:Int)),ref:=(([({char:=(65+(k:Int)),ref:=0,attrs:=[]}:Elem)].getD 0 default)).ref,attrs:=(([({char:=(65+(k:Int)),ref:=0,attrs:=[]}:Elem)].getD 0 default)).attrs}:Elem))=[pE (chr9 ((k:Int)+1))] from by rw[chr_odd h11];rfl)])),.r [(2,X (Xn (((fwL qs k).length:Int)- 1))),(3,X (Xc0 (fc_within (qs.getD k default) 0 (((fwL qs k).length:Int)- 1) (by omega)) X0))],.le (.eq 12 (VI (withinI (qs.getD k default) 0 (((fwL qs k).length:Int)- 1))) (VI ((toL k (qs.getD k default) (fwL qs k).length).1:Int)) (.of_eq (by rw[toL_1 k (qs.getD k default) hf0]))),.r [],.r [(1,X (Xrem (k:Int) 3)),(6,Xv 1 (((k:Int)%3)==2) (Xn (((fwL qs k).length:Int)- 1))),(7,Xv 2 (((k:Int)%3)==2) X0),(8,X (Xk (((k:Int)%3)==2)))]] ((((k:Int)%3)==2)&&decide (((toL k (qs.getD k default) (fwL qs k).length).1:Int)< (((fwL qs k).length:Int)- 1))) (fun h15=> ?_) (fun h15=> ?_)
   ·
    refine .bp [.r [(1,X (Xn (((toL k (qs.getD k default) (fwL qs k).length).1:Int)+1)))],.le (.eq 13 (VI (((toL k (qs.getD k default) (fwL qs k).length).1:Int)+1)) (VI ((toL k (qs.getD k default) (fwL qs k).length).2:Int)) (.of_eq (by rw[toL_t h15]))),.r [(4,X (Xc1 537 (fc_replL (k:=k) (n:=(fwL qs k).length) (p:=(qs.getD k default)) hk9 ⟨hf0,hfl⟩) (rowC elemT [pE (chr9 ((k:Int)+1))] X0)))],.r [(1,X (Xf [(4,2),(5,3),(8,5),(9,4),(10,8),(11,2),(13,2),(14,2),(15,5),(16,4),(17,4),(18,8)])),(2,X (rowC dstepT (stK qs k) X0))],.le (.er 601 (List.map eopT [({kind:=2,node:=2,nw:=({id:=0,kind:=0,attrs:=[],flow:=[],grid:=({rows:=0,cols:=0,cells:=[],merges:=[]}:Grid),draw:=[]}:Node),attrs:=[],steps:=(stK qs k),grid:=({rows:=[],cols:=[],cells:=[],split:=[],merge:=[]}:GEd),draw:=[]}:EOp)]) (List.map eopT [opF 2 (stK qs k)]) (by rw[(show[({kind:=2,node:=2,nw:=({id:=0,kind:=0,attrs:=[],flow:=[],grid:=({rows:=0,cols:=0,cells:=[],merges:=[]}:Grid),draw:=[]}:Node),attrs:=[],steps:=(stK qs k),grid:=({rows:=[],cols:=[],cells:=[],split:=[],merge:=[]}:GEd),draw:=[]}:EOp)]=[opF 2 (stK qs k)] from rfl)])),.r [(2,X (Xc1 633 (fc_applyU rfl en2 en4 en3) (rowC eopT [opF 2 (stK qs k)] X0)))],.r [(4,Xv 1 (!false) X0),(5,X (Xk' false))]] (false||false) (fun h20=> ?_) (fun h20=> ?_)
    ·
     exfalso
     exact absurd h20 (by decide)
    ·
     refine .back [.r [],.r [(2,X (Xrem (k:Int) 2)),(3,X (Xn (1+((k:Int)%2)))),(5,X (Xquo (k:Int) 2)),(6,X (Xn (1+((k:Int)/2)))),(9,X (rowC eopT [opF 2 (stK qs k)] X0)),(10,X (rowC entT [({site:=(1+((k:Int)%2)),num:=(1+((k:Int)/2)),ch:=[opF 2 (stK qs k)],un:=0,rf:=0}:EntL)] (Xap 5 entT 136 L [({site:=(1+((k:Int)%2)),num:=(1+((k:Int)/2)),ch:=[opF 2 (stK qs k)],un:=0,rf:=0}:EntL)])))],.r [(0,X (Xn ((k:Int)+1)))]] [(32,32),(56,56),(136,136)] (ih7 ((k+1),((dF (fwL qs (k+1)))).nodes,(L++[({site:=(1+((k:Int)%2)),num:=(1+((k:Int)/2)),ch:=[opF 2 (stK qs k)],un:=0,rf:=0}:EntL)])) ?_ ?_)
     ·
      exact⟨by omega,by rw[I7.2.1,lgL_succ];rfl,rfl⟩
     ·
      ((try dsimp only);omega)
   ·
    refine .bp [.le (.eq 13 (VI ((toL k (qs.getD k default) (fwL qs k).length).1:Int)) (VI ((toL k (qs.getD k default) (fwL qs k).length).2:Int)) (.of_eq (by rw[toL_e (by omega)]))),.r [(4,X (Xc1 513 (fc_replL (k:=k) (n:=(fwL qs k).length) (p:=(qs.getD k default)) hk9 ⟨hf0,hfl⟩) (rowC elemT [pE (chr9 ((k:Int)+1))] X0)))],.r [(1,X (Xf [(4,2),(5,3),(8,5),(9,4),(10,8),(11,2),(13,2),(14,2),(15,5),(16,4),(17,4),(18,8)])),(2,X (rowC dstepT (stK qs k) X0))],.le (.er 577 (List.map eopT [({kind:=2,node:=2,nw:=({id:=0,kind:=0,attrs:=[],flow:=[],grid:=({rows:=0,cols:=0,cells:=[],merges:=[]}:Grid),draw:=[]}:Node),attrs:=[],steps:=(stK qs k),grid:=({rows:=[],cols:=[],cells:=[],split:=[],merge:=[]}:GEd),draw:=[]}:EOp)]) (List.map eopT [opF 2 (stK qs k)]) (by rw[(show[({kind:=2,node:=2,nw:=({id:=0,kind:=0,attrs:=[],flow:=[],grid:=({rows:=0,cols:=0,cells:=[],merges:=[]}:Grid),draw:=[]}:Node),attrs:=[],steps:=(stK qs k),grid:=({rows:=[],cols:=[],cells:=[],split:=[],merge:=[]}:GEd),draw:=[]}:EOp)]=[opF 2 (stK qs k)] from rfl)])),.r [(2,X (Xc1 609 (fc_applyU rfl en2 en4 en3) (rowC eopT [opF 2 (stK qs k)] X0)))],.r [(4,Xv 1 (!false) X0),(5,X (Xk' false))]] (false||false) (fun h20=> ?_) (fun h20=> ?_)
    ·
     exfalso
     exact absurd h20 (by decide)
    ·
     refine .back [.r [],.r [(2,X (Xrem (k:Int) 2)),(3,X (Xn (1+((k:Int)%2)))),(5,X (Xquo (k:Int) 2)),(6,X (Xn (1+((k:Int)/2)))),(9,X (rowC eopT [opF 2 (stK qs k)] X0)),(10,X (rowC entT [({site:=(1+((k:Int)%2)),num:=(1+((k:Int)/2)),ch:=[opF 2 (stK qs k)],un:=0,rf:=0}:EntL)] (Xap 5 entT 136 L [({site:=(1+((k:Int)%2)),num:=(1+((k:Int)/2)),ch:=[opF 2 (stK qs k)],un:=0,rf:=0}:EntL)])))],.r [(0,X (Xn ((k:Int)+1)))]] [(32,32),(56,56),(136,136)] (ih7 ((k+1),((dF (fwL qs (k+1)))).nodes,(L++[({site:=(1+((k:Int)%2)),num:=(1+((k:Int)/2)),ch:=[opF 2 (stK qs k)],un:=0,rf:=0}:EntL)])) ?_ ?_)
     ·
      exact⟨by omega,by rw[I7.2.1,lgL_succ];rfl,rfl⟩
     ·
      ((try dsimp only);omega)
  ·
   refine .bp [.le (.er 265 (List.map elemT [({char:=(65+(k:Int)),ref:=0,attrs:=[]}:Elem)]) (List.map elemT [pE (chr9 ((k:Int)+1))]) (by rw[(show[({char:=(65+(k:Int)),ref:=0,attrs:=[]}:Elem)]=[pE (chr9 ((k:Int)+1))] from by rw[chr_even h11];rfl)])),.r [(2,X (Xn (((fwL qs k).length:Int)- 1))),(3,X (Xc0 (fc_within (qs.getD k default) 0 (((fwL qs k).length:Int)- 1) (by omega)) X0))],.le (.eq 12 (VI (withinI (qs.getD k default) 0 (((fwL qs k).length:Int)- 1))) (VI ((toL k (qs.getD k default) (fwL qs k).length).1:Int)) (.of_eq (by rw[toL_1 k (qs.getD k default) hf0]))),.r [],.r [(1,X (Xrem (k:Int) 3)),(6,Xv 1 (((k:Int)%3)==2) (Xn (((fwL qs k).length:Int)- 1))),(7,Xv 2 (((k:Int)%3)==2) X0),(8,X (Xk (((k:Int)%3)==2)))]] ((((k:Int)%3)==2)&&decide (((toL k (qs.getD k default) (fwL qs k).length).1:Int)< (((fwL qs k).length:Int)- 1))) (fun h15=> ?_) (fun h15=> ?_)
   ·
    refine .bp [.r [(1,X (Xn (((toL k (qs.getD k default) (fwL qs k).length).1:Int)+1)))],.le (.eq 13 (VI (((toL k (qs.getD k default) (fwL qs k).length).1:Int)+1)) (VI ((toL k (qs.getD k default) (fwL qs k).length).2:Int)) (.of_eq (by rw[toL_t h15]))),.r [(4,X (Xc1 489 (fc_replL (k:=k) (n:=(fwL qs k).length) (p:=(qs.getD k default)) hk9 ⟨hf0,hfl⟩) (rowC elemT [pE (chr9 ((k:Int)+1))] X0)))],.r [(1,X (Xf [(4,2),(5,3),(8,5),(9,4),(10,8),(11,2),(13,2),(14,2),(15,5),(16,4),(17,4),(18,8)])),(2,X (rowC dstepT (stK qs k) X0))],.le (.er 553 (List.map eopT [({kind:=2,node:=2,nw:=({id:=0,kind:=0,attrs:=[],flow:=[],grid:=({rows:=0,cols:=0,cells:=[],merges:=[]}:Grid),draw:=[]}:Node),attrs:=[],steps:=(stK qs k),grid:=({rows:=[],cols:=[],cells:=[],split:=[],merge:=[]}:GEd),draw:=[]}:EOp)]) (List.map eopT [opF 2 (stK qs k)]) (by rw[(show[({kind:=2,node:=2,nw:=({id:=0,kind:=0,attrs:=[],flow:=[],grid:=({rows:=0,cols:=0,cells:=[],merges:=[]}:Grid),draw:=[]}:Node),attrs:=[],steps:=(stK qs k),grid:=({rows:=[],cols:=[],cells:=[],split:=[],merge:=[]}:GEd),draw:=[]}:EOp)]=[opF 2 (stK qs k)] from rfl)])),.r [(2,X (Xc1 585 (fc_applyU rfl en2 en4 en3) (rowC eopT [opF 2 (stK qs k)] X0)))],.r [(4,Xv 1 (!false) X0),(5,X (Xk' false))]] (false||false) (fun h20=> ?_) (fun h20=> ?_)
    ·
     exfalso
     exact absurd h20 (by decide)
    ·
     refine .back [.r [],.r [(2,X (Xrem (k:Int) 2)),(3,X (Xn (1+((k:Int)%2)))),(5,X (Xquo (k:Int) 2)),(6,X (Xn (1+((k:Int)/2)))),(9,X (rowC eopT [opF 2 (stK qs k)] X0)),(10,X (rowC entT [({site:=(1+((k:Int)%2)),num:=(1+((k:Int)/2)),ch:=[opF 2 (stK qs k)],un:=0,rf:=0}:EntL)] (Xap 5 entT 136 L [({site:=(1+((k:Int)%2)),num:=(1+((k:Int)/2)),ch:=[opF 2 (stK qs k)],un:=0,rf:=0}:EntL)])))],.r [(0,X (Xn ((k:Int)+1)))]] [(32,32),(56,56),(136,136)] (ih7 ((k+1),((dF (fwL qs (k+1)))).nodes,(L++[({site:=(1+((k:Int)%2)),num:=(1+((k:Int)/2)),ch:=[opF 2 (stK qs k)],un:=0,rf:=0}:EntL)])) ?_ ?_)
     ·
      exact⟨by omega,by rw[I7.2.1,lgL_succ];rfl,rfl⟩
     ·
      ((try dsimp only);omega)
   ·
    refine .bp [.le (.eq 13 (VI ((toL k (qs.getD k default) (fwL qs k).length).1:Int)) (VI ((toL k (qs.getD k default) (fwL qs k).length).2:Int)) (.of_eq (by rw[toL_e (by omega)]))),.r [(4,X (Xc1 465 (fc_replL (k:=k) (n:=(fwL qs k).length) (p:=(qs.getD k default)) hk9 ⟨hf0,hfl⟩) (rowC elemT [pE (chr9 ((k:Int)+1))] X0)))],.r [(1,X (Xf [(4,2),(5,3),(8,5),(9,4),(10,8),(11,2),(13,2),(14,2),(15,5),(16,4),(17,4),(18,8)])),(2,X (rowC dstepT (stK qs k) X0))],.le (.er 529 (List.map eopT [({kind:=2,node:=2,nw:=({id:=0,kind:=0,attrs:=[],flow:=[],grid:=({rows:=0,cols:=0,cells:=[],merges:=[]}:Grid),draw:=[]}:Node),attrs:=[],steps:=(stK qs k),grid:=({rows:=[],cols:=[],cells:=[],split:=[],merge:=[]}:GEd),draw:=[]}:EOp)]) (List.map eopT [opF 2 (stK qs k)]) (by rw[(show[({kind:=2,node:=2,nw:=({id:=0,kind:=0,attrs:=[],flow:=[],grid:=({rows:=0,cols:=0,cells:=[],merges:=[]}:Grid),draw:=[]}:Node),attrs:=[],steps:=(stK qs k),grid:=({rows:=[],cols:=[],cells:=[],split:=[],merge:=[]}:GEd),draw:=[]}:EOp)]=[opF 2 (stK qs k)] from rfl)])),.r [(2,X (Xc1 561 (fc_applyU rfl en2 en4 en3) (rowC eopT [opF 2 (stK qs k)] X0)))],.r [(4,Xv 1 (!false) X0),(5,X (Xk' false))]] (false||false) (fun h20=> ?_) (fun h20=> ?_)
    ·
     exfalso
     exact absurd h20 (by decide)
    ·
     refine .back [.r [],.r [(2,X (Xrem (k:Int) 2)),(3,X (Xn (1+((k:Int)%2)))),(5,X (Xquo (k:Int) 2)),(6,X (Xn (1+((k:Int)/2)))),(9,X (rowC eopT [opF 2 (stK qs k)] X0)),(10,X (rowC entT [({site:=(1+((k:Int)%2)),num:=(1+((k:Int)/2)),ch:=[opF 2 (stK qs k)],un:=0,rf:=0}:EntL)] (Xap 5 entT 136 L [({site:=(1+((k:Int)%2)),num:=(1+((k:Int)/2)),ch:=[opF 2 (stK qs k)],un:=0,rf:=0}:EntL)])))],.r [(0,X (Xn ((k:Int)+1)))]] [(32,32),(56,56),(136,136)] (ih7 ((k+1),((dF (fwL qs (k+1)))).nodes,(L++[({site:=(1+((k:Int)%2)),num:=(1+((k:Int)/2)),ch:=[opF 2 (stK qs k)],un:=0,rf:=0}:EntL)])) ?_ ?_)
     ·
      exact⟨by omega,by rw[I7.2.1,lgL_succ];rfl,rfl⟩
     ·
      ((try dsimp only);omega)
 ·
  have hkn:k=qs.length:=by omega
  have hLl:L.length=qs.length:=by rw[I7.2.1,lgL_len,hkn]
  refine .bp [.r []] ((L.length:Int)==0) (fun h25=> ?_) (fun h25=> ?_)
  ·
   exact .fin [.r []] []
  ·
   obtain⟨e,he0⟩:∃e,withinI entry 1 (L.length:Int)=e:=⟨_,rfl⟩
   have he:1≤e∧e≤(qs.length:Int):=by have:=withinI_bd entry (lo:=1) (hi:=(L.length:Int)) (by omega);omega
   obtain⟨T,hT⟩:∃T,toF e (itL qs qs.length)=T:=⟨_,rfl⟩
   obtain⟨W,hW⟩:∃W,fwL qs qs.length=W:=⟨_,rfl⟩
   have hsub:(resL e W 0).Sublist ((T.map Elem.char).drop 0):=by subst hW;subst hT;exact law_sub qs hql he
   have hWl:W.length≤100:=by subst hW;exact(fw_fu qs hql).len
   have hTl:T.length≤100:=by subst hT;exact((il_all qs qs.length hql).tq hql he.1).2.2.2.len
   have hnone:∀x∈T,eC e x.char=false:=by subst hT;exact fun x hx=>law_none qs hql he hx
   refine .loop (α:=Nat×Nat) [.r [(3,X (Xc0 (fc_within entry 1 (L.length:Int) (by omega)) X0))],.le (.eq 1 (VI (withinI entry 1 (L.length:Int))) (VI e) (.of_eq (by rw[he0]))),.le (.eb 56 0 (VL 9 nodeT dn) (VL 9 nodeT ((dF (fwL qs qs.length)).nodes)) (by rw[I7.2.2,hkn])),.le (.er 136 (List.map entT L) (List.map entT (lgL qs qs.length)) (by rw[(show L=lgL qs qs.length from by rw[I7.2.1,hkn])])),.le (.eq 7 (.row 136 L.length) (.row 136 ((lgL qs qs.length).length)) (.of_eq (by first| (with_reducible rfl)| (rw[(show L=lgL qs qs.length from by rw[I7.2.1,hkn])]<;>rfl)|rfl))),.r [(4,X (Xc1 241 (fc_unL qs hql he) (rowC entT (lgL qs qs.length) X0)))],.r [],.f,.r [],.r [(2,X (Xi nodeT (((dF (toF e (itL qs qs.length)))).nodes) 1) ⟨(by first|omega| (simp;omega)| (simp;done)|assumption),(by show(1:Int)< 2;decide)⟩)],.le (.eq 23 (VL 3 elemT ((((((dF (toF e (itL qs qs.length)))).nodes).getD 1 default)).flow)) (VL 3 elemT T) (.of_eq (by subst hT;rfl))),.r [(2,X (Xi nodeT ((dF (fwL qs qs.length)).nodes) 1) ⟨(by first|omega| (simp;omega)| (simp;done)|assumption),(by show(1:Int)< 2;decide)⟩),(5,X (Xl elemT (((((dF (fwL qs qs.length)).nodes).getD 1 default)).flow)))],.le (.eq 140 (VL 3 elemT (((((dF (fwL qs qs.length)).nodes).getD 1 default)).flow)) (VL 3 elemT W) (.of_eq (by subst hW;rfl))),.le (.eq 141 (VI ((((((dF (fwL qs qs.length)).nodes).getD 1 default)).flow).length:Int)) (VI (W.length:Int)) (.of_eq (by subst hW;rfl)))] 441 (fun(a,i)=>([(1,VI e),(22,VI (a:Int)),(23,VL 3 elemT T),(140,VL 3 elemT W),(141,VI (W.length:Int)),(142,VI (i:Int))],[])) (fun(a,i)=>i≤W.length∧a≤T.length∧(resL e W i).Sublist ((T.map Elem.char).drop a)) (fun(a,i)=>W.length-i) (0,0) ?_ ?_
   ·
    exact⟨Nat.zero_le _,Nat.zero_le _,hsub⟩
   rintro⟨a,i⟩ I34 ih34
   try dsimp only at I34
   refine .bp [.r []] (decide ((i:Int)< (W.length:Int))) (fun h34=> ?_) (fun h34=> ?_)
   ·
    refine .bp [.r [(0,X (Xi elemT W (i:Int)))],.r [(3,X (Xn (65+e))),(4,X (Xn ((65+e)- 1))),(8,Xv 1 (!((((W.getD i default)).char)==((65+e)- 1))) X0),(10,Xv 1 (!((((W.getD i default)).char)==((65+e)- 1))) (Xn (97+e))),(11,Xv 1 (!((((W.getD i default)).char)==((65+e)- 1))) (Xn ((97+e)- 1))),(12,Xv 2 (!((((W.getD i default)).char)==((65+e)- 1))) X0),(13,X (Xk' ((((W.getD i default)).char)==((65+e)- 1))))]] (((((W.getD i default)).char)==((65+e)- 1))|| ((((W.getD i default)).char)==((97+e)- 1))) (fun h36=> ?_) (fun h36=> ?_)
    ·
     refine .back [.r [(0,X (Xn ((i:Int)+1)))]] [] (ih34 (a,(i+1)) ?_ ?_)
     ·
      exact⟨by omega,I34.2.1,by rw[←res_skip (by omega) (ec_t h36)];exact I34.2.2⟩
     ·
      ((try dsimp only);omega)
    ·
     refine .loop (α:=Nat) [] 593 (fun b=>([(1,VI e),(22,VI (b:Int)),(23,VL 3 elemT T),(25,.ptr 465 0),(140,VL 3 elemT W),(141,VI (W.length:Int)),(142,VI (i:Int))],[(465,.box [VI (((W.getD i default)).char),VI (((W.getD i default)).ref),VL 2 attrT (((W.getD i default)).attrs)])])) (fun b=>b≤T.length∧((W.getD i default).char::resL e W (i+1)).Sublist ((T.map Elem.char).drop b)) (fun b=>T.length-b) (a:Nat) ?_ ?_
     ·
      exact⟨I34.2.1,by rw[←res_cons (by omega) (ec_f h36)];exact I34.2.2⟩
     rintro b I37 ih37
     try dsimp only at I37
     refine .bp [.r [(2,X (Xl elemT T)),(7,Xv 2 (decide ((b:Int)< (T.length:Int))) (Xi elemT T (b:Int))),(8,Xv 1 (decide ((b:Int)< (T.length:Int))) X0),(9,Xv 1 (decide ((b:Int)< (T.length:Int))) X0),(11,Xv 1 (decide ((b:Int)< (T.length:Int))) X0),(12,Xv 2 (decide ((b:Int)< (T.length:Int))) X0),(13,X (Xk (decide ((b:Int)< (T.length:Int)))))]] (decide ((b:Int)< (T.length:Int))&&((((T.getD b default)).char) !=(((W.getD i default)).char))) (fun h37=> ?_) (fun h37=> ?_)
     ·
      refine .back [.r [(1,X (Xn ((b:Int)+1)))]] [(465,465)] (ih37 ((b+1):Nat) ?_ ?_)
      ·
       exact⟨by omega,sub_miss I37.2 (by rw[List.length_map];omega) (by rw[map_at (by omega)];exact h37.2)⟩
      ·
       ((try dsimp only);omega)
     ·
      refine .bp [.r [(2,X (Xl elemT T))]] ((b:Int)==(T.length:Int)) (fun h39=> ?_) (fun h39=> ?_)
      ·
       exfalso
       have:=sub_end I37.2;rw[List.length_map] at this;omega
      ·
       refine .back [.r [(1,X (Xn ((b:Int)+1)))],.r [(0,X (Xn ((i:Int)+1)))]] [] (ih34 ((b+1),(i+1)) ?_ ?_)
       ·
        have hb:=sub_end I37.2
        rw[List.length_map] at hb
        exact⟨by omega,by omega,sub_hit I37.2 (by rw[List.length_map];omega) (by rw[map_at (by omega)];rcases h37 with q|q<;>first|omega|exact q)⟩
       ·
        ((try dsimp only);omega)
   ·
    refine .loop (α:=Nat) [.r [(1,X (Xl elemT T))]] 473 (fun j=>([(1,VI e),(183,VL 3 elemT T),(184,VI (T.length:Int)),(185,VI (j:Int))],[])) (fun j=>j≤T.length) (fun j=>T.length-j) (0:Nat) ?_ ?_
    ·
     exact Nat.zero_le _
    rintro j I44 ih44
    try dsimp only at I44
    refine .bp [.r []] (decide ((j:Int)< (T.length:Int))) (fun h44=> ?_) (fun h44=> ?_)
    ·
     refine .bp [.r [(0,X (Xi elemT T (j:Int)))],.r [(3,X (Xn (65+e))),(4,X (Xn ((65+e)- 1))),(8,Xv 1 (!((((T.getD j default)).char)==((65+e)- 1))) X0),(10,Xv 1 (!((((T.getD j default)).char)==((65+e)- 1))) (Xn (97+e))),(11,Xv 1 (!((((T.getD j default)).char)==((65+e)- 1))) (Xn ((97+e)- 1))),(12,Xv 2 (!((((T.getD j default)).char)==((65+e)- 1))) X0),(13,X (Xk' ((((T.getD j default)).char)==((65+e)- 1))))]] (((((T.getD j default)).char)==((65+e)- 1))|| ((((T.getD j default)).char)==((97+e)- 1))) (fun h46=> ?_) (fun h46=> ?_)
     ·
      exfalso
      have:=hnone _ (getDX_mem (l:=T) (i:=j) (by omega));rw[ec_t h46] at this;cases this
     ·
      refine .back [.r [(0,X (Xn ((j:Int)+1)))]] [] (ih44 ((j+1):Nat) ?_ ?_)
      ·
       show _≤_;omega
      ·
       ((try dsimp only);omega)
    ·
     exact .fin [.r []] []
end Go.Ch
end
section
set_option linter.unusedVariables false
set_option linter.unusedSimpArgs false
namespace Go.Proofs.YtfihplmfjihpeaaGreatDoor.frame
open Go Go.Proofs
def chs(l:List Nat):List Char:=l.map Char.ofNat
def w1:List Char:=chs [104,97,114,110,101,115,115]
def w2:List Char:=chs [102,49,54,56,53,100,53,98,48,51,97,101,49,56,101,48,101,102,54,101,101,100,99,55,53,48,100,57,97,48,49,97,98,55,53,55,100,98,48,51,56,99,55,53,56,102,50,54,51,98,49,50,100,51,101,50,50,102,51,98,53,53,54,48]
def w3:List Char:=chs [99,117,116]
def sp:Char:=Char.ofNat 32
theorem ws_sp(r:List Char):wordsSigns (sp::r)=[]::wordsSigns r:=rfl
theorem ws_c(c:Char)(r:List Char)(h:c≠sp):wordsSigns (c::r)=match wordsSigns r with
 |w::ws=>(c::w)::ws
 | []=>[[c]]:=by
 rw[wordsSigns.eq_def]
 split
 ·rename_i e;cases e
 ·rename_i e;simp only[List.cons.injEq] at e;exact absurd e.1 h
 ·rename_i e;simp only[List.cons.injEq] at e;obtain⟨rfl,rfl⟩:=e;rfl
theorem ws_app:∀(a:List Char),(a.all fun c=>c !=sp)=true→∀r,wordsSigns (a++sp::r)=a::wordsSigns r
 | [],_,r=>ws_sp r
 |c::a,h,r=>by
  simp only[List.all_cons,Bool.and_eq_true,bne_iff_ne] at h
  rw[List.cons_append,ws_c _ _ h.1,ws_app a h.2 r]
theorem tl(l:List Char):(String.ofList l).toList=l:=String.toList_ofList
theorem k1:("harness" :String).toList=w1:=tl w1
theorem k2:("cut" :String).toList=w3:=tl w3
theorem k3:("gc" :String).toList=chs [103,99]:=tl (chs [103,99])
theorem k4:("spec" :String).toList=chs [115,112,101,99]:=tl (chs [115,112,101,99])
theorem k5:("carried" :String).toList=chs [99,97,114,114,105,101,100]:=tl (chs [99,97,114,114,105,101,100])
theorem lifts(r:List (List Char)):stripLifts liftWords (w3::r)=([],w3::r):=by
 unfold liftWords
 simp only[stripLifts]
 have key:∀l:List Nat,(w3==chs l)=false→∀(s:String),s=String.ofList (chs l)→(w3==s.toList)=false:=fun l h s e=>by rw[e,tl];exact h
 rw[if_neg (by rw[key [102,105,110,97,108,115] (by kernel_rfl) "finals" rfl];decide)]
 rw[if_neg (by rw[key [114,101,102,108,101,99,116,114,111,119,115] (by kernel_rfl) "reflectrows" rfl];decide)]
 rw[if_neg (by rw[key [108,101,97,110,114,111,119,115] (by kernel_rfl) "leanrows" rfl];decide)]
 rw[if_neg (by rw[key [111,110,101,98,117,105,108,100] (by kernel_rfl) "onebuild" rfl];decide)]
 rw[if_neg (by rw[key [112,117,98,108,105,99,115,117,109,115] (by kernel_rfl) "publicsums" rfl];decide)]
 rw[if_neg (by rw[key [101,113,103,117,97,114,100] (by kernel_rfl) "eqguard" rfl];decide)]
 rw[if_neg (by rw[key [111,119,110,117,110,115,97,102,101] (by kernel_rfl) "ownunsafe" rfl];decide)]
 rw[if_neg (by rw[key [108,105,98,98,101,115,105,100,101] (by kernel_rfl) "libbeside" rfl];decide)]
 rw[if_neg (by rw[key [111,119,110,98,101,115,105,100,101] (by kernel_rfl) "ownbeside" rfl];decide)]
 rw[if_neg (by rw[key [114,101,102,108,98,101,115,105,100,101] (by kernel_rfl) "reflbeside" rfl];decide)]
 rw[if_neg (by rw[key [97,108,105,97,115,101,115] (by kernel_rfl) "aliases" rfl];decide)]
 rw[if_neg (by rw[key [97,102,116,101,114,105,110,105,116] (by kernel_rfl) "afterinit" rfl];decide)]
 rw[if_neg (by rw[key [99,114,99,112,108,97,105,110] (by kernel_rfl) "crcplain" rfl];decide)]
 rw[if_neg (by rw[key [114,111,97,100,117,110,115,97,102,101] (by kernel_rfl) "roadunsafe" rfl];decide)]
 rw[if_neg (by rw[key [102,109,116,104,97,110,100,111,110] (by kernel_rfl) "fmthandon" rfl];decide)]
theorem words{P:Program}{rest:List Char}(h:P.initOrder.toList=w1++sp::(w2++sp::(w3++sp::rest))):behindMainWord (wordsSigns P.initOrder.toList)=w3::wordsSigns rest:=by
 rw[h,ws_app w1 (by kernel_rfl),ws_app w2 (by kernel_rfl),ws_app w3 (by kernel_rfl)]
 unfold behindMainWord
 rw[k1]
 exact if_pos (by kernel_rfl)
theorem may{P:Program}{rest:List Char}(h:P.initOrder.toList=w1++sp::(w2++sp::(w3++sp::rest)))(hl:P.laysLater=false)(hb:P.bearsReflect=false)(hd:P.doorFits []=true):P.mayEnter=true:=by
 unfold Program.mayEnter
 rw[words h]
 simp only[lifts,k2,k3,k4,k5,hl,hb,hd]
 have h1:(w3==chs [103,99])=false:=by kernel_rfl
 have h2:(w3==chs [115,112,101,99])=false:=by kernel_rfl
 have h3:(w3==chs [99,97,114,114,105,101,100])=false:=by kernel_rfl
 rw[h1,h2,h3]
 simp
theorem fin{P:Program}{rest:List Char}(h:P.initOrder.toList=w1++sp::(w2++sp::(w3++sp::rest))):P.liftsFinal=false:=by
 unfold Program.liftsFinal Program.headLifts
 rw[words h]
 simp only[lifts,k2,k5]
 have h3:(w3==chs [99,97,114,114,105,101,100])=false:=by kernel_rfl
 simp[h3]
theorem mk{P:Program}{rest:List Char}(h:P.initOrder.toList=w1++sp::(w2++sp::(w3++sp::rest))):P.make=some .cut:=by
 unfold Program.make
 rw[words h]
 simp only[k2,k3,k4,k5]
 have h1:(w3==chs [103,99])=false:=by kernel_rfl
 have h2:(w3==chs [115,112,101,99])=false:=by kernel_rfl
 rw[h1,h2]
 simp
theorem head:Tryz.pinned.checked.prog.initOrder=String.ofList (w1++sp::(w2++sp::(w3++sp::chs [97,116,32,99,104,97,110,99,101,114,121,47,99,104,97,110,99,101,114,121,107,101,101,112,49,46,85,110,100,111,79,116,104,101,114,115,83,116,97,121]))):=by kernel_rfl
set_option maxRecDepth 100000 in
theorem headL:Tryz.pinned.checked.prog.initOrder.toList=w1++sp::(w2++sp::(w3++sp::chs [97,116,32,99,104,97,110,99,101,114,121,47,99,104,97,110,99,101,114,121,107,101,101,112,49,46,85,110,100,111,79,116,104,101,114,115,83,116,97,121])):=by rw[head,tl]
theorem later:Tryz.pinned.checked.prog.laysLater=false:=by kernel_rfl
theorem refl:Tryz.pinned.checked.prog.bearsReflect=false:=by kernel_rfl
theorem door:Tryz.pinned.checked.prog.doorFits []=true:=by kernel_rfl
theorem mayEnter:Tryz.pinned.checked.prog.mayEnter=true:=may headL later refl door
theorem made:Tryz.pinned.checked.prog.make=some .cut:=mk headL
theorem laid:laidOutB Tryz.pinned.checked.prog=true:=by kernel_rfl
theorem rowed:mapsRowed Tryz.pinned.checked.prog=true:=by kernel_rfl
theorem noStops:Tryz.pinned.checked.prog.stops=[]:=by kernel_rfl
theorem noKnobs:Tryz.pinned.checked.prog.stopKnobs=[]:=by kernel_rfl
theorem heard:Tryz.pinned.checked.prog.stopsHeard=true:=by kernel_rfl
theorem keys:Tryz.pinned.checked.prog.plainKeys=true:=by kernel_rfl
theorem liftsNo:Tryz.pinned.checked.prog.liftsFinal=false:=fin headL
end Go.Proofs.YtfihplmfjihpeaaGreatDoor.frame
end
section
namespace Go.Proofs
open Go.Shelf
def Tryz.lays260_ren:Go.Shelf.Ren:=⟨fun|260=>245|n=>n,fun|9=>9|21=>21|3=>3|4=>4|5=>5|119=>372|0=>0|46=>242|139=>375|138=>374|n=>n,fun|3=>0|4=>1|n=>n⟩
theorem Tryz.lays260:Go.Proofs.Lays.n260 Tryz.prog Tryz.lays260_ren:={
 mixed:=by kernel_rfl
 f260:=Tryz.func245.trans (congrArg some (by kernel_rfl))
 t0:=Tryz.underlying0
 a0:=Tryz.isAgg0
 z0:=Tryz.sizeOf0
 v0:=Tryz.zeroValue0
 t3:=Tryz.underlying3
 a3:=Tryz.isAgg3
 z3:=Tryz.sizeOf3
 v3:=Tryz.zeroValue3
 t4:=Tryz.underlying4
 a4:=Tryz.isAgg4
 z4:=Tryz.sizeOf4
 v4:=Tryz.zeroValue4
 t5:=Tryz.underlying5
 a5:=Tryz.isAgg5
 z5:=Tryz.sizeOf5
 v5:=Tryz.zeroValue5
 t9:=Tryz.underlying9
 a9:=Tryz.isAgg9
 z9:=Tryz.sizeOf9
 v9:=Tryz.zeroValue9
 t21:=Tryz.underlying21
 a21:=Tryz.isAgg21
 z21:=Tryz.sizeOf21
 v21:=Tryz.zeroValue21
 t46:=Tryz.underlying242
 a46:=Tryz.isAgg242
 z46:=Tryz.sizeOf242
 v46:=Tryz.zeroValue242
 t119:=Tryz.underlying372
 a119:=Tryz.isAgg372
 z119:=Tryz.sizeOf372
 t138:=Tryz.underlying374
 a138:=Tryz.isAgg374
 z138:=Tryz.sizeOf374
 v138:=Tryz.zeroValue374
 t139:=Tryz.underlying375
 a139:=Tryz.isAgg375
 z139:=Tryz.sizeOf375
 v139:=Tryz.zeroValue375
 g3:=by kernel_rfl
 g4:=by kernel_rfl}
end Go.Proofs
end
