/- Parts of the proof: EdCheck2, DeltaPD, DeltaTidy, DeltaTB, DeltaTL, TidyU, EditTrk, EditSel, ChDelta13, ChDelta16, EdTrack, EdSel, EdSel2, EdSel3, EdType. -/
import Derived.Test.YtojjoigepejggaaGreatDoorM1
import Derived.Test.YtojjoigepejggaaGreatDoorM2
import Derived.Test.YtojjoigepejggaaGreatDoorM3
import Derived.Test.YtojjoigepejggaaGreatDoorM4
import Derived.Test.YtojjoigepejggaaGreatDoorM5
import Derived.Test.YtojjoigepejggaaGreatDoorM6
import Derived.Test.YtojjoigepejggaaGreatDoorM7
section
set_option linter.unusedVariables false
set_option linter.unusedSimpArgs false
set_option maxRecDepth 100000
set_option maxHeartbeats 4000000
open Go Go.Proofs Go.Ab
namespace Go.Ch
theorem fc_checkOp(o:EOp)(ho:OpL o):FC Tryz.prog 41 [.t (eopT o)] (app emp []) (VI (eopE o)) (app emp []):=by
 refine .go Tryz.f41 ?_
 have k1:=ho.len
 have k2:=ho.nl
 have k3:=ho.dn
 have k4:=ho.gl
 refine .bp [.r [],.r [(5,Xv 1 (!(decide (o.kind<0))) X0),(6,Xv 1 (!(decide (o.kind<0))) X0),(7,X (Xk' (decide (o.kind<0))))]] (decide (o.kind<0)||decide (o.kind>4)) (fun h1=> ?_) (fun h1=> ?_)
 ·
  have e1:((eopE o):Int)=8:=by
   unfold eopE;((repeat' split)<;>first|rfl|omega| (simp_all;done)| (simp_all;omega))
  exact .finE [.r []] [] (fun z0:Int=>(VI z0,[])) _ _ e1
 ·
  refine .bp [.r [(1,X (Xc0 (fc_unused o (by assumption)) X0))]] (unuO o) (fun h3=> ?_) (fun h3=> ?_)
  ·
   have e2:((eopE o):Int)=4:=by
    unfold eopE;((repeat' split)<;>first|rfl|omega| (simp_all;done)| (simp_all;omega))
   exact .finE [.r []] [] (fun z0:Int=>(VI z0,[])) _ _ e2
  ·
   refine .bp [.r []] (o.kind==0) (fun h5=> ?_) (fun h5=> ?_)
   ·
    have e3:((eopE o):Int)=(nodeE o.nw):=by
     unfold eopE;((repeat' split)<;>first|rfl|omega| (simp_all;done)| (simp_all;omega))
    exact .finE [.r [(2,X (Xc0 (fc_nodeCk o.nw (by assumption)) X0))]] [] (fun z0:Int=>(VI z0,[])) _ _ e3
   ·
    refine .bp [.r [(5,Xv 1 (!(decide (o.node<1))) X0),(6,Xv 1 (!(decide (o.node<1))) X0),(7,X (Xk' (decide (o.node<1))))]] (decide (o.node<1)||decide (o.node>1073741824)) (fun h7=> ?_) (fun h7=> ?_)
    ·
     have e4:((eopE o):Int)=2:=by
      unfold eopE;((repeat' split)<;>first|rfl|omega| (simp_all;done)| (simp_all;omega))
     exact .finE [.r []] [] (fun z0:Int=>(VI z0,[])) _ _ e4
    ·
     refine .bp [.r []] (o.kind==1) (fun h9=> ?_) (fun h9=> ?_)
     ·
      have e5:((eopE o):Int)=(chkA true o.attrs 0):=by
       unfold eopE;((repeat' split)<;>first|rfl|omega| (simp_all;done)| (simp_all;omega))
      exact .finE [.r [(2,X (Xc0 (fc_acheckChange o.attrs) X0))]] [] (fun z0:Int=>(VI z0,[])) _ _ e5
     ·
      refine .bp [.r []] (o.kind==2) (fun h11=> ?_) (fun h11=> ?_)
      ·
       have e6:((eopE o):Int)=(checkD o.steps):=by
        unfold eopE;((repeat' split)<;>first|rfl|omega| (simp_all;done)| (simp_all;omega))
       exact .finE [.r [(2,X (Xc0 (fc_dCheck o.steps (by assumption)) X0))]] [] (fun z0:Int=>(VI z0,[])) _ _ e6
      ·
       refine .bp [.r []] (o.kind==3) (fun h13=> ?_) (fun h13=> ?_)
       ·
        have e7:((eopE o):Int)=(edE o.grid):=by
         unfold eopE;((repeat' split)<;>first|rfl|omega| (simp_all;done)| (simp_all;omega))
        exact .finE [.r [(2,X (Xc0 (fc_checkEdit o.grid (by assumption)) X0))]] [] (fun z0:Int=>(VI z0,[])) _ _ e7
       ·
        have e8:((eopE o):Int)=(drawE o.draw 0):=by
         unfold eopE;((repeat' split)<;>first|rfl|omega| (simp_all;done)| (simp_all;omega))
        exact .finE [.r [(2,X (Xc0 (fc_dcheck o.draw) X0))]] [] (fun z0:Int=>(VI z0,[])) _ _ e8
theorem fc_eCheck(c:List EOp)(hc:∀o∈c,OpL o):FC Tryz.prog 19 [VL 19 eopT c] (app emp []) (VI (eopsE c 0)) (app emp []):=by
 refine .go Tryz.f19 ?_
 refine .len 0 (fun hl0=> ?_)
 refine .loop (α:=Nat) [.r [],.r [(1,X (Xl eopT c))]] 32 (fun i=>([(6,VL 19 eopT c),(7,VI (c.length:Int)),(8,VI (i:Int))],[])) (fun i=>i≤c.length∧eopsE c 0=eopsE c i) (fun i=>c.length-i) (0:Nat) ?_ ?_
 ·
  exact⟨by omega,rfl⟩
 rintro i I2 ih2
 try dsimp only at I2
 refine .bp [.r []] (decide ((i:Int)< (c.length:Int))) (fun h2=> ?_) (fun h2=> ?_)
 ·
  have ho:=hc _ (getDX_mem (l:=c) (i:=i) (by omega))
  refine .bp [.r [(0,X (Xi eopT c (i:Int)))],.r [(1,X (Xc0 (fc_checkOp ((c.getD i default)) (by assumption)) X0))],.r []] ((eopE ((c.getD i default))) !=0) (fun h5=> ?_) (fun h5=> ?_)
  ·
   have e1:((eopsE c 0):Int)=(eopE ((c.getD i default))):=by
    exact I2.2.trans (eopsE_bad (by omega) h5)
   exact .finE [.r []] [] (fun z0:Int=>(VI z0,[])) _ _ e1
  ·
   refine .back [.r [(0,X (Xn ((i:Int)+1)))]] [] (ih2 ((i+1):Nat) ?_ ?_)
   ·
    exact⟨by omega,I2.2.trans (eopsE_next (by omega) h5)⟩
   ·
    ((try dsimp only);omega)
 ·
  have e2:((eopsE c 0):Int)=0:=by
   exact I2.2.trans (eopsE_end (by omega))
  exact .finE [.r []] [] (fun z0:Int=>(VI z0,[])) _ _ e2
end Go.Ch
end
section
set_option linter.unusedVariables false
set_option linter.unusedSimpArgs false
namespace Go.Ch
open Go Go.Ab
def NoAD:List DU→Prop
 | .A _::_=>False
 |_=>True
theorem pd_A1(e:Elem)(p q:List DU):pairDU (.A e::p) q=(.A e::(pairDU p q).1,.K []::(pairDU p q).2):=by rw[pairDU]
theorem pd_A2'{p:List DU}(hp:NoAD p)(e:Elem)(q:List DU):pairDU p (.A e::q)=(.K []::(pairDU p q).1,.A e::(pairDU p q).2):=by
 cases p with
 |nil=>rw[pairDU]
 |cons u p=>
  cases u with
  |A x=>exact hp.elim
  |K c=>rw[pairDU]
  |C=>rw[pairDU]
theorem pd_A(e:List Elem)(p q:List DU):pairDU (e.map .A++p) q=(e.map .A++(pairDU p q).1,List.replicate e.length (.K [])++(pairDU p q).2):=by
 induction e with
 |nil=>rfl
 |cons x e ih=>rw[List.map_cons,List.cons_append,pd_A1,ih];rfl
theorem pd_A2(e:List Elem){p:List DU}(hp:NoAD p)(q:List DU):pairDU p (e.map .A++q)=(List.replicate e.length (.K [])++(pairDU p q).1,e.map .A++(pairDU p q).2):=by
 induction e with
 |nil=>rfl
 |cons x e ih=>rw[List.map_cons,List.cons_append,pd_A2' hp,ih];rfl
theorem pd_KK(n:Nat)(c d:List Attr)(p q:List DU):pairDU (List.replicate n (.K c)++p) (List.replicate n (.K d)++q)=(List.replicate n (.K (fm wioG c d))++(pairDU p q).1,List.replicate n (.K d)++(pairDU p q).2):=by
 induction n with
 |zero=>rfl
 |succ n ih=>rw[List.replicate_succ,List.replicate_succ,List.replicate_succ,List.cons_append,List.cons_append,pairDU,ih];rfl
theorem pd_KC(n:Nat)(c:List Attr)(p q:List DU):pairDU (List.replicate n (.K c)++p) (List.replicate n .C++q)=((pairDU p q).1,List.replicate n .C++(pairDU p q).2):=by
 induction n with
 |zero=>rfl
 |succ n ih=>rw[List.replicate_succ,List.replicate_succ,List.cons_append,List.cons_append,pairDU,ih];rfl
theorem pd_CK(n:Nat)(c:List Attr)(p q:List DU):pairDU (List.replicate n .C++p) (List.replicate n (.K c)++q)=(List.replicate n .C++(pairDU p q).1,(pairDU p q).2):=by
 induction n with
 |zero=>rfl
 |succ n ih=>rw[List.replicate_succ,List.replicate_succ,List.cons_append,List.cons_append,pairDU,ih];rfl
theorem pd_CC(n:Nat)(p q:List DU):pairDU (List.replicate n .C++p) (List.replicate n .C++q)=pairDU p q:=by
 induction n with
 |zero=>rfl
 |succ n ih=>rw[List.replicate_succ,List.cons_append,List.cons_append,pairDU,ih]
theorem pairDU_units(p q:List DU)(hp:KOk p)(hq:KOk q):(∀u∈(pairDU p q).1,UnitOk u)∧(∀u∈(pairDU p q).2,UnitOk u):=by
 have okA:∀e:Elem,elemE e=0∧e.attrs.length≤100000000000→UnitOk (.A e):=fun e h=>⟨h.1,by omega⟩
 have okK:∀c:List Attr,VG true c∧c.length≤100000000000→UnitOk (.K c):=fun e h=>⟨h.1,by omega⟩
 have ok0:UnitOk (.K []):=⟨vg_nil,by simp⟩
 have cons:∀(x:DU) (l:List DU),UnitOk x→(∀u∈l,UnitOk u)→∀u∈x::l,UnitOk u:=fun x l h k u hu=>by
  rcases List.mem_cons.1 hu with rfl|hu
  ·exact h
  ·exact k u hu
 induction p,q using pairDU.induct with
 |case1 e p q ih=>rw[pairDU];have i:=ih hp.tail hq;exact⟨cons _ _ (okA e (hp.2 e (by simp))) i.1,cons _ _ ok0 i.2⟩
 |case2 e q ih=>rw[pairDU];have i:=ih hp hq.tail;exact⟨cons _ _ ok0 i.1,cons _ _ (okA e (hq.2 e (by simp))) i.2⟩
 |case3 c p e q ih=>rw[pairDU];have i:=ih hp hq.tail;exact⟨cons _ _ ok0 i.1,cons _ _ (okA e (hq.2 e (by simp))) i.2⟩
 |case4 p e q ih=>rw[pairDU];have i:=ih hp hq.tail;exact⟨cons _ _ ok0 i.1,cons _ _ (okA e (hq.2 e (by simp))) i.2⟩
 |case5 c p d q ih=>
  rw[pairDU]
  have i:=ih hp.tail hq.tail
  have h1:=hp.1 c (by simp)
  have h2:=hq.1 d (by simp)
  have:=fm_len' wioG c d
  exact⟨cons _ _ ⟨wio_V np_mt h1.1 h2.1,by omega⟩ i.1,cons _ _ (okK d h2) i.2⟩
 |case6 c p q ih=>rw[pairDU];have i:=ih hp.tail hq.tail;exact⟨i.1,cons _ _ trivial i.2⟩
 |case7 p d q ih=>rw[pairDU];have i:=ih hp.tail hq.tail;exact⟨cons _ _ trivial i.1,i.2⟩
 |case8 p q ih=>rw[pairDU];exact ih hp.tail hq.tail
 |case9 p hne=>
  rw[show pairDU p []=([],[]) by unfold pairDU;split<;>simp_all]
  exact⟨fun u hu=>absurd hu (List.not_mem_nil),fun u hu=>absurd hu (List.not_mem_nil)⟩
 |case10 q h1 h2=>
  rw[show pairDU [] q=([],[]) by unfold pairDU;split<;>simp_all]
  exact⟨fun u hu=>absurd hu (List.not_mem_nil),fun u hu=>absurd hu (List.not_mem_nil)⟩
theorem pairDU_new(p q:List DU):newN (pairDU p q).1≤newN p+newN q∧newN (pairDU p q).2≤newN p+newN q:=by
 induction p,q using pairDU.induct with
 |case9 p hne=>
  rw[show pairDU p []=([],[]) by unfold pairDU;split<;>simp_all]
  simp[newN]
 |case10 q h1 h2=>
  rw[show pairDU [] q=([],[]) by unfold pairDU;split<;>simp_all]
  simp[newN]
 |_=>rw[pairDU];simp only[newN] at*;omega
def pairD1(a b:List DStep):List DStep:=doneD (pairDU (exD a) (exD b)).1
def pairD2(a b:List DStep):List DStep:=doneD (pairDU (exD a) (exD b)).2
structure PD(wx wy:DWr)(ps:List DStep)(pu:Int)(qs:List DStep)(qu:Int)(T U:Nat)(G H:DWr):Prop where
 gp:GoodRD ps pu
 gq:GoodRD qs qu
 dp:DN 100000000000 ps
 dq:DN 100000000000 qs
 eq:oldN (ruD ps pu)=oldN (ruD qs qu)
 dx:DI wx (pairDU (ruD ps pu) (ruD qs qu)).1 T G
 dy:DI wy (pairDU (ruD ps pu) (ruD qs qu)).2 U H
theorem noAD{l:List DStep}{u:Int}(h:GoodRD l u)(hk:0<l.length→(l.getD 0 default).kind≠1):NoAD (ruD l u):=by
 by_cases h0:0<l.length
 ·have hl:=h.lt h0
  obtain⟨g,e⟩:=tkD_ok (n:=1) h h0 (by decide) (by omega)
  rcases k02 h h0 (hk h0) with k|k
  ·rw[e,exS_K k];trivial
  ·rw[e,exS_C k];trivial
 ·rw[ruD_nil (by omega)];trivial
section
variable {wx wy:DWr} {ps qs:List DStep} {pu qu:Int} {T U:Nat} {G H:DWr}
theorem PD.addP(h:PD wx wy ps pu qs qu T U G H)(h0:0<ps.length)(hk:(ps.getD 0 default).kind=1){n:Int}(hn:n=szD (ps.getD 0 default)- pu):
 PD ⟨wx.out,wx.add++(tkE ps pu n).elems,wx.cut⟩ ⟨keepD (flushD wy) ((tkE ps pu n).elems.length:Int) [],[],0⟩ (tkL ps pu n) (tkN ps pu n) qs qu T U G H∧
 jmD (tkL ps pu n) (tkN ps pu n) qs qu<jmD ps pu qs qu∧((tkE ps pu n).elems.length:Int)=n:=by
 have hl:=h.gp.lt h0
 obtain⟨g,e⟩:=tkD_ok (n:=n) h.gp h0 (by omega) (by omega)
 have hz:=tkE_len (n:=n) hk h.gp.pos (by omega) (by omega)
 rw[exS_A hk] at e
 have hx:=h.dx
 have hy:=h.dy
 have he:=h.eq
 rw[e,pd_A] at hx hy
 rw[e,oldN_app,(lens_As _).1] at he
 obtain⟨k,hk2⟩:∃k,(tkE ps pu n).elems.length=k+1:=⟨(tkE ps pu n).elems.length- 1,by omega⟩
 refine⟨⟨g,h.gq,dn_tk h.dp,h.dq,by omega,hx.elems,?_⟩,?_,by omega⟩
 ·rw[hk2] at hy⊢
  exact hy.keep
 ·unfold jmD
  rw[e,List.length_append,List.length_map,hz]
  omega
theorem PD.addQ(h:PD wx wy ps pu qs qu T U G H)(hp:0<ps.length→(ps.getD 0 default).kind≠1)(h0:0<qs.length)(hk:(qs.getD 0 default).kind=1){n:Int}(hn:n=szD (qs.getD 0 default)- qu):
 PD ⟨keepD (flushD wx) ((tkE qs qu n).elems.length:Int) [],[],0⟩ ⟨wy.out,wy.add++(tkE qs qu n).elems,wy.cut⟩ ps pu (tkL qs qu n) (tkN qs qu n) T U G H∧
 jmD ps pu (tkL qs qu n) (tkN qs qu n)< jmD ps pu qs qu∧((tkE qs qu n).elems.length:Int)=n:=by
 have hl:=h.gq.lt h0
 obtain⟨g,e⟩:=tkD_ok (n:=n) h.gq h0 (by omega) (by omega)
 have hz:=tkE_len (n:=n) hk h.gq.pos (by omega) (by omega)
 rw[exS_A hk] at e
 have hx:=h.dx
 have hy:=h.dy
 have he:=h.eq
 rw[e,pd_A2 _ (noAD h.gp hp)] at hx hy
 rw[e,oldN_app,(lens_As _).1] at he
 obtain⟨k,hk2⟩:∃k,(tkE qs qu n).elems.length=k+1:=⟨(tkE qs qu n).elems.length- 1,by omega⟩
 refine⟨⟨h.gp,g,h.dp,dn_tk h.dq,by omega,?_,hy.elems⟩,?_,by omega⟩
 ·rw[hk2] at hx⊢
  exact hx.keep
 ·unfold jmD
  rw[e,List.length_append,List.length_map,hz]
  omega
theorem PD.both(h:PD wx wy ps pu qs qu T U G H)(a:0<ps.length)(b:0<qs.length)(kp:(ps.getD 0 default).kind≠1)(kq:(qs.getD 0 default).kind≠1){n:Int}(hn:n=min (szD (ps.getD 0 default)- pu) (szD (qs.getD 0 default)- qu)):
 (((ps.getD 0 default).kind=0∧(qs.getD 0 default).kind=0→PD ⟨keepD (flushD wx) n (fm wioG (ps.getD 0 default).attrs (qs.getD 0 default).attrs),[],0⟩ ⟨keepD (flushD wy) n (qs.getD 0 default).attrs,[],0⟩ (tkL ps pu n) (tkN ps pu n) (tkL qs qu n) (tkN qs qu n) T U G H)∧
 ((ps.getD 0 default).kind=0∧(qs.getD 0 default).kind=2→PD wx ⟨wy.out,wy.add,wy.cut+n⟩ (tkL ps pu n) (tkN ps pu n) (tkL qs qu n) (tkN qs qu n) T U G H)∧
 ((ps.getD 0 default).kind=2∧(qs.getD 0 default).kind=0→PD ⟨wx.out,wx.add,wx.cut+n⟩ wy (tkL ps pu n) (tkN ps pu n) (tkL qs qu n) (tkN qs qu n) T U G H)∧
 ((ps.getD 0 default).kind=2∧(qs.getD 0 default).kind=2→PD wx wy (tkL ps pu n) (tkN ps pu n) (tkL qs qu n) (tkN qs qu n) T U G H))∧
 jmD (tkL ps pu n) (tkN ps pu n) (tkL qs qu n) (tkN qs qu n)< jmD ps pu qs qu:=by
 have l1:=h.gp.lt a
 have l2:=h.gq.lt b
 have p1:=h.gp.pos
 have p2:=h.gq.pos
 obtain⟨g1,e1⟩:=tkD_ok (n:=n) h.gp a (by omega) (by omega)
 obtain⟨g2,e2⟩:=tkD_ok (n:=n) h.gq b (by omega) (by omega)
 have hx:=h.dx
 have hy:=h.dy
 have he:=h.eq
 refine⟨⟨fun k=> ?_,fun k=> ?_,fun k=> ?_,fun k=> ?_⟩,?_⟩
 ·rw[e1,e2,exS_K k.1,exS_K k.2] at hx hy he
  rw[pd_KK,show n.toNat=(n.toNat- 1)+1 by omega] at hx hy
  rw[oldN_app,oldN_app,(lens_Ks _ _).1,(lens_Ks _ _).1] at he
  have hx2:=hx.keep
  have hy2:=hy.keep
  rw[show(((n.toNat- 1+1:Nat)):Int)=n by omega] at hx2 hy2
  exact⟨g1,g2,dn_tk h.dp,dn_tk h.dq,by omega,hx2,hy2⟩
 ·rw[e1,e2,exS_K k.1,exS_C k.2] at hx hy he
  rw[pd_KC] at hx hy
  rw[oldN_app,oldN_app,(lens_Cs _).1,(lens_Ks _ _).1] at he
  have hy2:=hy.cuts
  rw[show((n.toNat:Nat):Int)=n by omega] at hy2
  exact⟨g1,g2,dn_tk h.dp,dn_tk h.dq,by omega,hx,hy2⟩
 ·rw[e1,e2,exS_C k.1,exS_K k.2] at hx hy he
  rw[pd_CK] at hx hy
  rw[oldN_app,oldN_app,(lens_Cs _).1,(lens_Ks _ _).1] at he
  have hx2:=hx.cuts
  rw[show((n.toNat:Nat):Int)=n by omega] at hx2
  exact⟨g1,g2,dn_tk h.dp,dn_tk h.dq,by omega,hx2,hy⟩
 ·rw[e1,e2,exS_C k.1,exS_C k.2] at hx hy he
  rw[pd_CC] at hx hy
  rw[oldN_app,oldN_app,(lens_Cs _).1] at he
  exact⟨g1,g2,dn_tk h.dp,dn_tk h.dq,by omega,hx,hy⟩
 ·have hs:=exS_sz (h.gp.ok _ (getD_mem' a))
  have hl:=congrArg List.length (tkE_split (n:=n) (h.gp.ok _ (getD_mem' a)) p1 (by omega) (by omega))
  simp only[List.length_append,List.length_drop] at hl
  unfold jmD
  rw[e1,e2,List.length_append,List.length_append]
  omega
theorem PD.two(h:PD wx wy ps pu qs qu T U G H)(h0:0<ps.length∨0<qs.length)(hp:0<ps.length→(ps.getD 0 default).kind≠1)(hq:0<qs.length→(qs.getD 0 default).kind≠1):0<ps.length∧0<qs.length:=by
 have he:=h.eq
 rcases Nat.eq_zero_or_pos ps.length with a|a
 ·rcases Nat.eq_zero_or_pos qs.length with b|b
  ·omega
  ·have:=(rd_one h.gq b).1 (hq b)
   rw[ruD_nil a] at he
   simp only[oldN] at he
   omega
 ·rcases Nat.eq_zero_or_pos qs.length with b|b
  ·have:=(rd_one h.gp a).1 (hp a)
   rw[ruD_nil b] at he
   simp only[oldN] at he
   omega
  ·exact⟨a,b⟩
theorem PD.done(h:PD wx wy ps pu qs qu T U G H)(a:ps.length=0)(b:qs.length=0):wx=G∧wy=H:=by
 have hx:=h.dx
 have hy:=h.dy
 rw[ruD_nil a,ruD_nil b] at hx hy
 exact⟨DI.done (by simpa[pairDU] using hx),DI.done (by simpa[pairDU] using hy)⟩
end
theorem pair_start{a b:List DStep}(va:DValid a)(vb:DValid b)(da:DN 100000000000 a)(db:DN 100000000000 b)(hm:oldD a=oldD b)(hs:newD a+newD b≤2147483647):
 (∀u∈(pairDU (exD a) (exD b)).1,UnitOk u)∧(∀u∈(pairDU (exD a) (exD b)).2,UnitOk u)∧
 PD ⟨[],[],0⟩ ⟨[],[],0⟩ a 0 b 0 (pairDU (exD a) (exD b)).1.length (pairDU (exD a) (exD b)).2.length (foldD ⟨[],[],0⟩ (pairDU (exD a) (exD b)).1) (foldD ⟨[],[],0⟩ (pairDU (exD a) (exD b)).2)∧
 DValid (pairD1 a b)∧DValid (pairD2 a b)∧DSw (exD (pairD1 a b)) (pairDU (exD a) (exD b)).1∧DSw (exD (pairD2 a b)) (pairDU (exD a) (exD b)).2∧
 oldD (pairD1 a b)=newD b∧oldD (pairD2 a b)=newD a∧DN 400000000000 (pairD1 a b)∧DN 400000000000 (pairD2 a b):=by
 obtain⟨hu,hv⟩:=pairDU_units _ _ (exD_K va.1.all da) (exD_K vb.1.all db)
 have la:=lens_V va
 have lb:=lens_V vb
 have o:∃l:List Elem,l.length=oldN (exD a)∧∀x∈l,VG false x.attrs:=⟨List.replicate (oldN (exD a)) ⟨0,0,[]⟩,by simp,fun x hx=>by rw[List.eq_of_mem_replicate hx];exact(chk_iff (e:=false) (l:=[])).1 (by rw[chkA];rfl)⟩
 obtain⟨l,hl1,hl2⟩:=o
 obtain⟨_,m2,m1,_⟩:=pairDU_meets _ (exD a) (exD b) l (Nat.le_refl _) hl1.symm (by omega) (okU_of (exD_K va.1.all da)) (okU_of (exD_K vb.1.all db)) hl2
 have nn:=pairDU_new (exD a) (exD b)
 have s1:=len_sum (pairDU (exD a) (exD b)).1
 have s2:=len_sum (pairDU (exD a) (exD b)).2
 have a1:=va.2.2
 have b1:=vb.2.2
 obtain⟨d1,d2,d3,d4⟩:=doneD_ok hu (by omega) (by omega)
 obtain⟨e1,e2,e3,e4⟩:=doneD_ok hv (by omega) (by omega)
 exact⟨hu,hv,⟨goodRD0 va,goodRD0 vb,da,db,by rw[ruD0,ruD0];omega,by rw[ruD0,ruD0];exact DI.start hu (by omega),by rw[ruD0,ruD0];exact DI.start hv (by omega)⟩,d1,e1,d2,e2,by unfold pairD1;omega,by unfold pairD2;omega,
  doneD_dn hu (by omega),doneD_dn hv (by omega)⟩
end Go.Ch
end
section
set_option linter.unusedVariables false
set_option linter.unusedSimpArgs false
namespace Go.Ch
open Go Go.Ab
def lenE(s:DStep):Int:=if(s.kind=1∧s.elems.length=0∧stepD s=11)∨(s.kind≠1∧s.n=0∧stepD s=2) then chkA true s.attrs 0 else stepD s
def tdW(w:DWr)(s:DStep):DWr:=
 if s.kind=0 then(if s.n=0 then w else⟨keepD (flushD w) s.n s.attrs,[],0⟩) else if s.kind=1 then⟨w.out,w.add++s.elems,w.cut⟩ else⟨w.out,w.add,w.cut+s.n⟩
def tdBad(w:DWr)(s:DStep):Prop:=s.kind≠0∧s.kind≠1∧2147483647<w.cut+s.n
instance (w:DWr) (s:DStep):Decidable (tdBad w s):=by unfold tdBad;infer_instance
def tidyG(w:DWr):List DStep→List DStep×Int
 | []=>if checkD (flushD w)=0 then(flushD w,0) else([],3)
 |s::l=>if lenE s≠0 then([],lenE s) else if tdBad w s then([],3) else tidyG (tdW w s) l
def tidyL(d:List DStep):List DStep:=(tidyG ⟨[],[],0⟩ d).1
def tidyE(d:List DStep):Int:=(tidyG ⟨[],[],0⟩ d).2
theorem lenE_ok{s:DStep}(h:lenE s=0):(s.kind=0∨s.kind=1∨s.kind=2)∧0≤s.n∧s.n≤2147483647:=by
 unfold lenE at h
 split at h
 ·rename_i hc
  rcases hc with⟨k,e,q⟩| ⟨k,n0,q⟩
  ·unfold stepD at q
   rw[if_pos k] at q
   split at q
   ·cases q
   ·rename_i hh;exact⟨.inr (.inl k),by omega,by omega⟩
  ·unfold stepD at q
   rw[if_neg k] at q
   split at q
   ·rename_i hk;exact⟨by omega,by omega,by omega⟩
   ·cases q
 ·obtain⟨a,b,c,_⟩:=stepD_sz h;exact⟨a,b,c⟩
theorem keep_all{P:List Attr→Prop}{R:Elem→Prop}{l:List DStep}{n:Int}{c:List Attr}(h:∀s∈l,P s.attrs∧∀x∈s.elems,R x)(hc:P c):∀s∈keepD l n c,P s.attrs∧∀x∈s.elems,R x:=by
 unfold keepD
 split
 ·rename_i hl
  intro s hs
  rcases List.mem_or_eq_of_mem_set hs with hs|rfl
  ·exact h s hs
  ·exact h (l.getD (l.length- 1) default) (getD_mem' (by omega))
 ·intro s hs
  rcases List.mem_append.1 hs with hs|hs
  ·exact h s hs
  ·rw[List.mem_singleton] at hs;subst hs;exact⟨hc,fun x hx=>by cases hx⟩
theorem flush_all{P:List Attr→Prop}{R:Elem→Prop}{w:DWr}(h0:P [])(h:∀s∈w.out,P s.attrs∧∀x∈s.elems,R x)(ha:∀x∈w.add,R x):∀s∈flushD w,P s.attrs∧∀x∈s.elems,R x:=by
 unfold flushD
 intro s hs
 rcases List.mem_append.1 hs with hs|hs
 ·rcases List.mem_append.1 hs with hs|hs
  ·exact h s hs
  ·split at hs
   ·rw[List.mem_singleton] at hs;subst hs;exact⟨h0,ha⟩
   ·cases hs
 ·split at hs
  ·rw[List.mem_singleton] at hs;subst hs;exact⟨h0,fun x hx=>by cases hx⟩
  ·cases hs
theorem tdW_all{P:List Attr→Prop}{R:Elem→Prop}{w:DWr}{s:DStep}(h0:P [])(h:∀s∈w.out,P s.attrs∧∀x∈s.elems,R x)(ha:∀x∈w.add,R x)(hs:P s.attrs∧∀x∈s.elems,R x):
 (∀t∈(tdW w s).out,P t.attrs∧∀x∈t.elems,R x)∧∀x∈(tdW w s).add,R x:=by
 unfold tdW
 split
 ·split
  ·exact⟨h,ha⟩
  ·exact⟨keep_all (flush_all h0 h ha) hs.1,fun x hx=>by cases hx⟩
 ·split
  ·exact⟨h,fun x hx=>by rcases List.mem_append.1 hx with hx|hx;exact ha x hx;exact hs.2 x hx⟩
  ·exact⟨h,ha⟩
theorem lenE_step{s:DStep}(h:stepD s=0):lenE s=0:=by
 unfold lenE
 rw[if_neg]
 ·exact h
 ·rintro(⟨_,_,q⟩| ⟨_,_,q⟩)<;>rw[h] at q<;>cases q
theorem tidyG_cons{w:DWr}{s:DStep}{l:List DStep}(h:lenE s=0)(hb:¬tdBad w s):tidyG w (s::l)=tidyG (tdW w s) l:=by
 conv=>lhs;unfold tidyG
 rw[if_neg (by rw[h];decide),if_neg hb]
end Go.Ch
end
section
set_option linter.unusedVariables false
set_option linter.unusedSimpArgs false
namespace Go.Ch
open Go Go.Ab
def elS:List DStep→Nat
 | []=>0
 |s::l=>s.elems.length+elS l
theorem elS_app(p q:List DStep):elS (p++q)=elS p+elS q:=by
 induction p with
 |nil=>simp[elS]
 |cons s p ih=>simp only[List.cons_append,elS,ih];omega
theorem elS_take{d:List DStep}{i:Nat}(h:i<d.length):elS (d.take (i+1))=elS (d.take i)+(d.getD i default).elems.length∧elS (d.take (i+1))≤elS d:=by
 constructor
 ·rw[List.take_succ_eq_append_getElem h,elS_app,show d.getD i default=d[i] by simp[List.getD,List.getElem?_eq_getElem h]];simp[elS]
 ·conv=>rhs;rw[←List.take_append_drop (i+1) d,elS_app]
  omega
structure TB(d:List DStep)(i:Nat)(w:DWr):Prop where
 out:w.out.length≤3*i
 add:w.add.length≤elS (d.take i)
 cut:0≤w.cut∧w.cut≤2147483647
 n:∀s∈w.out,0≤s.n∧s.n≤2147483647*((i:Int)+1)
 dn:∀s∈w.out,s.attrs.length≤100000000000∧∀x∈s.elems,x.attrs.length≤100000000000
 an:∀x∈w.add,x.attrs.length≤100000000000
 el:∀s∈w.out,s.elems.length≤elS (d.take i)
theorem TB.start(d:List DStep):TB d 0 ⟨[],[],0⟩:=⟨by simp,by simp,⟨by simp,by simp⟩,fun s h=>absurd h List.not_mem_nil,fun s h=>absurd h List.not_mem_nil,fun s h=>absurd h List.not_mem_nil,fun s h=>absurd h List.not_mem_nil⟩
theorem flush_n{w:DWr}{B:Int}(hB:2147483647≤B)(hc:0≤w.cut∧w.cut≤2147483647)(h:∀s∈w.out,0≤s.n∧s.n≤B):∀s∈flushD w,0≤s.n∧s.n≤B:=by
 unfold flushD
 intro s hs
 rcases List.mem_append.1 hs with hs|hs
 ·rcases List.mem_append.1 hs with hs|hs
  ·exact h s hs
  ·split at hs
   ·rw[List.mem_singleton] at hs;subst hs;simp only;omega
   ·cases hs
 ·split at hs
  ·rw[List.mem_singleton] at hs;subst hs;simp only;omega
  ·cases hs
theorem flush_el{w:DWr}{B:Nat}(ha:w.add.length≤B)(h:∀s∈w.out,s.elems.length≤B):∀s∈flushD w,s.elems.length≤B:=by
 unfold flushD
 intro s hs
 rcases List.mem_append.1 hs with hs|hs
 ·rcases List.mem_append.1 hs with hs|hs
  ·exact h s hs
  ·split at hs
   ·rw[List.mem_singleton] at hs;subst hs;exact ha
   ·cases hs
 ·split at hs
  ·rw[List.mem_singleton] at hs;subst hs;simp
  ·cases hs
theorem keep_n{l:List DStep}{B B' n:Int}{c:List Attr}(h:∀s∈l,0≤s.n∧s.n≤B)(h1:0≤n)(h2:B+n≤B')(h3:0≤B):∀s∈keepD l n c,0≤s.n∧s.n≤B':=by
 unfold keepD
 split
 ·intro s hs
  rcases List.mem_or_eq_of_mem_set hs with hs|rfl
  ·have:=h s hs;omega
  ·have:=h (l.getD (l.length- 1) default) (getD_mem' (by omega))
   simp only;omega
 ·intro s hs
  rcases List.mem_append.1 hs with hs|hs
  ·have:=h s hs;omega
  ·rw[List.mem_singleton] at hs;subst hs;simp only;omega
theorem keep_el{l:List DStep}{B:Nat}{n:Int}{c:List Attr}(h:∀s∈l,s.elems.length≤B):∀s∈keepD l n c,s.elems.length≤B:=by
 unfold keepD
 split
 ·intro s hs
  rcases List.mem_or_eq_of_mem_set hs with hs|rfl
  ·exact h s hs
  ·exact h (l.getD (l.length- 1) default) (getD_mem' (by omega))
 ·intro s hs
  rcases List.mem_append.1 hs with hs|hs
  ·exact h s hs
  ·rw[List.mem_singleton] at hs;subst hs;simp
theorem TB.flush{d:List DStep}{i:Nat}{w:DWr}(h:TB d i w)(hi:i≤100000000)(he:elS d≤100000000000)(hd:elS (d.take i)≤elS d):
 (∀s∈flushD w,0≤s.n∧s.n≤1000000000000000000)∧DN 400000000000 (flushD w):=by
 refine⟨flush_n (by decide) h.cut (fun s hs=>by have:=h.n s hs;omega),fun s hs=> ?_⟩
 have h1:=flush_all (P:=fun l=>l.length≤100000000000) (R:=fun x=>x.attrs.length≤100000000000) (by simp) h.dn h.an s hs
 have h2:=flush_el h.add h.el s hs
 exact⟨by omega,by have:=h1.1;omega,fun x hx=>by have:=h1.2 x hx;omega⟩
theorem TB.next{d:List DStep}{i:Nat}{w:DWr}(h:TB d i w)(hi:i<d.length)(hd:DN 100000000000 d)(hl:lenE (d.getD i default)=0)(hb:¬tdBad w (d.getD i default)):TB d (i+1) (tdW w (d.getD i default)):=by
 obtain⟨k,n0,n1⟩:=lenE_ok hl
 obtain⟨e1,_⟩:=elS_take hi
 obtain⟨b1,b2,b3⟩:=hd _ (getD_mem' hi)
 generalize d.getD i default=s at*
 have ha:=tdW_all (P:=fun l=>l.length≤100000000000) (R:=fun x=>x.attrs.length≤100000000000) (w:=w) (s:=s) (by simp) h.dn h.an ⟨b2,b3⟩
 have hn:=h.n
 have hc:=h.cut
 have ho:=h.out
 have hadd:=h.add
 refine⟨?_,?_,?_,?_,ha.1,ha.2,?_⟩
 ·unfold tdW
  split
  ·split
   ·omega
   ·have:=keepD_len (flushD w) s.n s.attrs
    have:=flushD_len w
    simp only;omega
  ·split<;>simp only<;>omega
 ·unfold tdW
  split
  ·split
   ·omega
   ·simp
  ·split
   ·simp only[List.length_append];omega
   ·simp only;omega
 ·unfold tdW
  split
  ·split
   ·exact hc
   ·exact⟨Int.le_refl 0,(by decide:(0:Int)≤2147483647)⟩
  ·split
   ·exact hc
   ·rename_i k0 k1
    unfold tdBad at hb
    simp only
    omega
 ·have up:∀t∈w.out,0≤t.n∧t.n≤2147483647*(((i+1:Nat):Int)+1):=fun t ht=>by have:=hn t ht;omega
  unfold tdW
  split
  ·split
   ·exact up
   ·exact keep_n (flush_n (by omega) hc hn) (B':=2147483647*(((i+1:Nat):Int)+1)) (by omega) (by omega) (by omega)
  ·split
   ·exact up
   ·exact up
 ·have up:∀t∈w.out,t.elems.length≤elS (d.take (i+1)):=fun t ht=>by have:=h.el t ht;omega
  unfold tdW
  split
  ·split
   ·exact up
   ·exact keep_el (flush_el (by omega) up)
  ·split
   ·exact up
   ·exact up
end Go.Ch
namespace Go.Ch
open Go Go.Ab
theorem tidyG_at{d:List DStep}{i:Nat}(h:i<d.length)(w:DWr):tidyG w (d.drop i)=if lenE (d.getD i default)≠0 then([],lenE (d.getD i default)) else if tdBad w (d.getD i default) then([],3) else tidyG (tdW w (d.getD i default)) (d.drop (i+1)):=by
 rw[dropD h,tidyG]
theorem tidyG_end{d:List DStep}{i:Nat}(h:d.length≤i)(w:DWr):tidyG w (d.drop i)=if checkD (flushD w)=0 then(flushD w,0) else([],3):=by
 rw[List.drop_eq_nil_of_le h,tidyG]
end Go.Ch
end
section
set_option linter.unusedVariables false
set_option linter.unusedSimpArgs false
namespace Go.Ch
open Go Go.Ab
end Go.Ch
end
section
set_option linter.unusedVariables false
set_option linter.unusedSimpArgs false
namespace Go.Ch
open Go Go.Ab
def stepU:DU→DStep
 | .K c=>⟨0,1,c,[]⟩
 | .A e=>⟨1,0,[],[e]⟩
 | .C=>⟨2,1,[],[]⟩
theorem stepU_ok{u:DU}(h:UnitOk u):DOk (stepU u):=by
 cases u with
 |K c=>exact .inr ⟨.inl rfl,rfl,fun h=>absurd (show(0:Int)=2 from h) (by decide),Int.le_refl 1,(by decide:(1:Int)≤2147483647),h.1⟩
 |A e=>exact .inl ⟨rfl,rfl,rfl,by simp[stepU],fun x hx=>by rw[show x=e by simpa[stepU] using hx];exact h.1⟩
 |C=>exact .inr ⟨.inr rfl,rfl,fun _=>rfl,Int.le_refl 1,(by decide:(1:Int)≤2147483647),vg_nil⟩
theorem tdW_U(w:DWr)(u:DU):tdW w (stepU u)=putU w u:=by
 cases u<;>simp[tdW,stepU,putU]
theorem putU_cut{w:DWr}(h:0≤w.cut)(u:DU):0≤(putU w u).cut∧(putU w u).cut≤w.cut+1:=by
 cases u<;>simp only[putU]<;>omega
theorem tidyG_U:∀(us:List DU) (w:DWr),(∀u∈us,UnitOk u)→0≤w.cut→w.cut+us.length≤2147483647→tidyG w (us.map stepU)=if checkD (flushD (foldD w us))=0 then(flushD (foldD w us),0) else([],3)
 | [],w,_,_,_=>by rw[List.map_nil,tidyG,foldD]
 |u::us,w,hu,h0,hl=>by
  simp only[List.length_cons] at hl
  have hc:=putU_cut h0 u
  rw[List.map_cons,tidyG,if_neg (by rw[lenE_step (step_iff.2 (stepU_ok (hu u (by simp))))];decide),if_neg,tdW_U,tidyG_U us _ (fun v hv=>hu v (by simp[hv])) hc.1 (by omega),foldD]
  rintro⟨k0,k1,hb⟩
  have hn:(stepU u).n≤1:=by cases u<;>simp[stepU]
  omega
theorem tidy_units{us:List DU}(hu:∀u∈us,UnitOk u)(hl:us.length≤2147483647):tidyL (us.map stepU)=doneD us∧tidyE (us.map stepU)=0:=by
 have h1:oldN us≤us.length∧newN us≤us.length:=by
  clear hu hl
  induction us with
  |nil=>exact⟨Nat.le_refl _,Nat.le_refl _⟩
  |cons u us ih=>cases u<;>simp only[oldN,newN,List.length_cons]<;>omega
 have hd:=doneD_ok hu (by omega) (by omega)
 have:=tidyG_U us ⟨[],[],0⟩ hu (Int.le_refl _) (by simp only;omega)
 rw[if_pos (show checkD (flushD (foldD ⟨[],[],0⟩ us))=0 from checkD_iff.2 hd.1)] at this
 unfold tidyL tidyE
 rw[this]
 exact⟨rfl,rfl⟩
end Go.Ch
end
section
set_option linter.unusedVariables false
set_option linter.unusedSimpArgs false
namespace Go.Ch
open Go Go.Ab
def cutB:ByteArray:={data:=#[99,117,116]}
def addB:ByteArray:={data:=#[97,100,100]}
def hidB:ByteArray:={data:=#[104,105,100,100,101,110]}
def hasA(l:List Attr)(n:ByteArray):Bool:=l.any fun a=>seq a.name n
def gotA(l:List Attr)(n:ByteArray):Bool:=!(seq (getA l n 0) {data:=#[]})
theorem hasA_at{l:List Attr}{i:Nat}(h:i<l.length)(n:ByteArray):hasA (l.drop i) n=(seq (l.getD i default).name n||hasA (l.drop (i+1)) n):=by
 have e:l.drop i=l.getD i default::l.drop (i+1):=by
  rw[List.drop_eq_getElem_cons h];simp[List.getD,List.getElem?_eq_getElem h]
 rw[e];rfl
def hidX(x:Elem)(mode:Int):Bool:=(seq (getA x.attrs hidB 0) onB|| ((mode==0)&&gotA x.attrs cutB))|| ((mode==1)&&gotA x.attrs addB)
def visB(f:List Elem)(mode:Int)(i:Nat):Bool:=!(hidX (f.getD i default) mode)|| (decide ((i:Int)=(f.length:Int)- 1)&&decide ((f.getD i default).char=10))
def plcN(f:List Elem)(mode:Int)(i:Nat):List Nat:=(List.range i).filter (visB f mode)
def plcL(f:List Elem)(mode:Int)(i:Nat):List Int:=(plcN f mode i).map fun i:Nat=>(i:Int)
theorem plcL_succ(f:List Elem)(mode:Int)(i:Nat):plcL f mode (i+1)=plcL f mode i++(if visB f mode i=true then[(i:Int)] else[]):=by
 unfold plcL plcN
 rw[List.range_succ,List.filter_append,List.map_append,List.filter_cons]
 cases visB f mode i<;>simp
theorem plcL_len(f:List Elem)(mode:Int)(i:Nat):(plcL f mode i).length≤i:=by
 unfold plcL plcN
 rw[List.length_map]
 have:=List.length_filter_le (visB f mode) (List.range i)
 rw[List.length_range] at this;exact this
theorem vis_yes{f:List Elem}{mode:Int}{i:Nat}(h:hidX (f.getD i default) mode=false∨(i:Int)=(f.length:Int)- 1∧(f.getD i default).char=10):visB f mode i=true:=by
 unfold visB
 rcases h with h| ⟨h,k⟩
 ·rw[h];rfl
 ·rw[decide_eq_true h,decide_eq_true k];simp
theorem vis_no{f:List Elem}{mode:Int}{i:Nat}(h:hidX (f.getD i default) mode=true∧(¬(i:Int)=(f.length:Int)- 1∨¬(f.getD i default).char=10)):visB f mode i=false:=by
 unfold visB
 rw[h.1]
 rcases h.2 with k|k
 ·rw[decide_eq_false k];simp
 ·rw[decide_eq_false k];simp
end Go.Ch
end
section
set_option linter.unusedVariables false
set_option linter.unusedSimpArgs false
namespace Go.Ch
open Go Go.Ab
def mtB:ByteArray:={data:=#[]}
def gapP(pl:List Int)(k:Int):Int:=if k=0 then 0 else pl.getD (k- 1).toNat default+1
def markB(pl:List Int)(n:Nat):List Bool:=(List.range n).map fun i:Nat=>pl.any (fun p=>p==(i:Int))
def ersU(f:List Elem)(pl:List Int)(au:ByteArray)(i:Nat):DU:=
 if pl.any (fun p=>p==(i:Int))=true then(if(seq au mtB||seq (getA (f.getD i default).attrs addB 0) au)=true then .C else .K [⟨cutB,au⟩]) else .K []
def ersUs(f:List Elem)(pl:List Int)(au:ByteArray)(n:Nat):List DU:=(List.range n).map (ersU f pl au)
def ersS(f:List Elem)(pl:List Int)(au:ByteArray)(n:Nat):List DStep:=(ersUs f pl au n).map stepU
def ersD(f:List Elem)(pl:List Int)(au:ByteArray):List DStep:=tidyL (ersS f pl au f.length)
def typE(au:ByteArray)(x:Elem):Elem:={x with attrs:=fm rawG x.attrs [⟨addB,au⟩,⟨cutB,mtB⟩]}
def typS(n:Nat)(k:Int)(es:List Elem)(au:ByteArray):List DStep:=[⟨0,k,[],[]⟩,⟨1,0,[],es.map (typE au)⟩,⟨0,(n:Int)- k,[],[]⟩]
def typD(n:Nat)(k:Int)(es:List Elem)(au:ByteArray):List DStep:=tidyL (typS n k es au)
theorem markB_len(pl:List Int)(n:Nat):(markB pl n).length=n:=by simp[markB]
theorem markB_nil(n:Nat):markB [] n=List.replicate n false:=by
 unfold markB
 apply List.ext_getElem (by simp)
 intro i h1 h2
 simp
theorem markB_succ{pl:List Int}{k n:Nat}(h:k<pl.length)(hp:0≤pl.getD k default∧pl.getD k default< (n:Int)):(markB (pl.take k) n).set (pl.getD k default).toNat true=markB (pl.take (k+1)) n:=by
 have e:pl.getD k default=pl[k]:=by rw[List.getD_eq_getElem?_getD,List.getElem?_eq_getElem h];rfl
 unfold markB
 apply List.ext_getElem (by simp)
 intro i h1 h2
 simp only[List.getElem_set,List.getElem_map,List.getElem_range]
 rw[List.take_succ_eq_append_getElem h,List.any_append,List.any_cons,List.any_nil,Bool.or_false,←e]
 by_cases q:(pl.getD k default).toNat=i
 ·rw[if_pos q]
  have:(pl.getD k default==(i:Int))=true:=by rw[beq_iff_eq];omega
  rw[this,Bool.or_true]
 ·rw[if_neg q]
  have:(pl.getD k default==(i:Int))=false:=by rw[beq_eq_false_iff_ne];omega
  rw[this,Bool.or_false]
theorem ersS_succ(f:List Elem)(pl:List Int)(au:ByteArray)(i:Nat):ersS f pl au (i+1)=ersS f pl au i++[stepU (ersU f pl au i)]:=by
 unfold ersS ersUs
 rw[List.range_succ,List.map_append,List.map_append];rfl
theorem ersS_len(f:List Elem)(pl:List Int)(au:ByteArray)(i:Nat):(ersS f pl au i).length=i:=by simp[ersS,ersUs]
theorem markB_at{pl:List Int}{n i:Nat}(h:i<n):(markB pl n).getD i default=pl.any (fun p=>p==(i:Int)):=by
 unfold markB
 rw[List.getD_eq_getElem?_getD,List.getElem?_map,List.getElem?_range h];rfl
theorem ersS_dn(f:List Elem)(pl:List Int)(au:ByteArray)(n:Nat):DN 100000000000 (ersS f pl au n)∧elS (ersS f pl au n)=0:=by
 have hx:∀s∈ersS f pl au n,s.elems=[]∧s.attrs.length≤1:=by
  intro s hs
  unfold ersS ersUs at hs
  obtain⟨u,hu,rfl⟩:=List.mem_map.1 hs
  obtain⟨i,hi,rfl⟩:=List.mem_map.1 hu
  unfold ersU
  split
  ·split
   ·exact⟨rfl,by decide⟩
   ·exact⟨rfl,Nat.le_refl 1⟩
  ·exact⟨rfl,by decide⟩
 refine⟨fun s hs=> ?_,?_⟩
 ·obtain⟨h1,h2⟩:=hx s hs
  refine⟨by rw[h1];simp,by omega,?_⟩
  rw[h1];intro x hx;cases hx
 ·generalize ersS f pl au n=l at hx
  induction l with
  |nil=>rfl
  |cons s l ih=>
   rw[elS,(hx s List.mem_cons_self).1,ih (fun t ht=>hx t (List.mem_cons_of_mem _ ht))];rfl
theorem ers_0{f:List Elem}{pl:List Int}{au:ByteArray}{i:Nat}(h:pl.any (fun p=>p==(i:Int))=false):stepU (ersU f pl au i)={kind:=0,n:=1,attrs:=[],elems:=[]}:=by
 unfold ersU;rw[if_neg (by rw[h];decide)];rfl
theorem ers_c{f:List Elem}{pl:List Int}{au:ByteArray}{i:Nat}(h:pl.any (fun p=>p==(i:Int))=true)(h2:seq au {data:=#[]}=true∨seq (getA (f.getD i default).attrs {data:=#[97,100,100]} 0) au=true):stepU (ersU f pl au i)={kind:=2,n:=1,attrs:=[],elems:=[]}:=by
 unfold ersU;rw[if_pos h,if_pos (by rw[Bool.or_eq_true];exact h2)];rfl
theorem ers_k{f:List Elem}{pl:List Int}{au:ByteArray}{i:Nat}(h:pl.any (fun p=>p==(i:Int))=true)(h2:seq au {data:=#[]}=false∧seq (getA (f.getD i default).attrs {data:=#[97,100,100]} 0) au=false):stepU (ersU f pl au i)={kind:=0,n:=1,attrs:=[{name:={data:=#[99,117,116]},val:=au}],elems:=[]}:=by
 unfold ersU;rw[if_pos h,if_neg]
 ·rfl
 ·rw[Bool.or_eq_true];rintro(q|q)
  ·rw[show seq au mtB=seq au {data:=#[]} from rfl,h2.1] at q;cases q
  ·rw[show addB=({data:=#[97,100,100]}:ByteArray) from rfl,h2.2] at q;cases q
theorem mapt_at{α:Type}[Inhabited α]{g:α→α}{l:List α}{i:Nat}(h:i<l.length):((l.take i).map g++l.drop i).getD i default=l.getD i default:=by
 rw[List.getD_eq_getElem?_getD,List.getElem?_append_right (by simp;omega)]
 simp only[List.length_map,List.length_take,Nat.min_eq_left (Nat.le_of_lt h),Nat.sub_self]
 rw[List.getElem?_drop,List.getD_eq_getElem?_getD];rfl
theorem mapt_succ{α:Type}[Inhabited α]{g:α→α}{l:List α}{i:Nat}(h:i<l.length):((l.take i).map g++l.drop i).set i (g (l.getD i default))=(l.take (i+1)).map g++l.drop (i+1):=by
 have e:l.getD i default=l[i]:=by rw[List.getD_eq_getElem?_getD,List.getElem?_eq_getElem h];rfl
 rw[List.take_succ_eq_append_getElem h,List.map_append,List.append_assoc,List.set_append_right _ _ (by simp;omega)]
 congr 1
 simp only[List.length_map,List.length_take,Nat.min_eq_left (Nat.le_of_lt h),Nat.sub_self]
 rw[drop_succD h,List.set_cons_zero,e];rfl
theorem typS_dn(n:Nat)(k:Int)(es:List Elem)(au:ByteArray)(he:es.length≤1048576)(ha:∀x∈es,x.attrs.length≤1048576):DN 100000000000 (typS n k es au)∧elS (typS n k es au)≤1048576:=by
 refine⟨fun s hs=> ?_,by simp[typS,elS];omega⟩
 unfold typS at hs
 simp only[List.mem_cons,List.not_mem_nil,or_false] at hs
 rcases hs with rfl|rfl|rfl
 ·exact⟨by simp,by simp,fun x hx=>by cases hx⟩
 ·refine⟨by simp;omega,by simp,fun x hx=> ?_⟩
  obtain⟨y,hy,rfl⟩:=List.mem_map.1 hx
  have h1:=ha y hy
  have h2:=fm_len' rawG y.attrs [⟨addB,au⟩,⟨cutB,mtB⟩]
  show(fm rawG y.attrs [⟨addB,au⟩,⟨cutB,mtB⟩]).length≤_
  simp at h2;omega
 ·exact⟨by simp,by simp,fun x hx=>by cases hx⟩
theorem typS_o{n:Nat}{k:Int}{es o:List Elem}{au:ByteArray}(ho:o=es.map (typE au))(dn:DN 100000000000 (typS n k es au))(el:elS (typS n k es au)≤1048576):
 DN 100000000000 [{kind:=0,n:=k,attrs:=[],elems:=[]},{kind:=1,n:=0,attrs:=[],elems:=o},{kind:=0,n:=(n:Int)- k,attrs:=[],elems:=[]}]∧[({kind:=0,n:=k,attrs:=[],elems:=[]}:DStep),{kind:=1,n:=0,attrs:=[],elems:=o},{kind:=0,n:=(n:Int)- k,attrs:=[],elems:=[]}].length≤100000000∧
 elS [{kind:=0,n:=k,attrs:=[],elems:=[]},{kind:=1,n:=0,attrs:=[],elems:=o},{kind:=0,n:=(n:Int)- k,attrs:=[],elems:=[]}]≤10000000000:=by
 subst ho
 exact⟨dn,by simp,Nat.le_trans el (by decide)⟩
structure Pl where
 node:Node
 shown:List Int
 author:ByteArray
instance:Inhabited Pl:=⟨⟨default,[],{data:=#[]}⟩⟩
def plT(p:Pl):Tree:= .agg [TI p.node.id,TI p.node.kind,.lst 2 (p.node.attrs.map attrT),.lst 3 (p.node.flow.map elemT),TI p.node.grid.rows,TI p.node.grid.cols,.lst 5 (p.node.grid.cells.map cellT),.lst 4 (p.node.grid.merges.map rectT),.lst 8 (p.node.draw.map dopT),.lst 1 (p.shown.map intT),TS p.author]
structure Sel where
 nd:Int
 fr:Int
 tq:Int
instance:Inhabited Sel:=⟨⟨0,0,0⟩⟩
def selT(s:Sel):Tree:= .agg [TI s.nd,TI s.fr,TI s.tq]
def ndN(l:List Node)(k:Int):Node:=l.getD (lobN l k) default
def shwN(n:Node):List Int:=plcL n.flow 0 n.flow.length
def atE(d:Doc)(s:Sel)(au:ByteArray):Int:=
 if docE d≠0 then docE d
 else if hasN d.nodes s.nd=false then 7
 else if hasT (ndN d.nodes s.nd).kind=false then 8
 else if s.fr<0∨s.tq<s.fr∨((shwN (ndN d.nodes s.nd)).length:Int)≤s.tq then 2
 else if seq au {data:=#[]}=false∧valGo au=false then 23 else 0
def zeroPl:Pl:=⟨⟨0,0,[],[],⟨0,0,[],[]⟩,[]⟩,[],{data:=#[]}⟩
def atP(d:Doc)(s:Sel)(au:ByteArray):Pl:=if atE d s au≠0 then zeroPl else⟨ndN d.nodes s.nd,shwN (ndN d.nodes s.nd),au⟩
theorem at_e{d:Doc}{s:Sel}{au:ByteArray}{k:Int}(h:atE d s au=k)(hk:k≠0):atP d s au=zeroPl∧atE d s au=k:=by
 unfold atP;rw[h,if_pos hk];exact⟨rfl,rfl⟩
theorem at_1{d:Doc}{s:Sel}{au:ByteArray}(h:docE d≠0):atP d s au=zeroPl∧atE d s au=docE d:=at_e (by unfold atE;rw[if_pos h]) h
theorem at_2{d:Doc}{s:Sel}{au:ByteArray}(h:docE d=0)(h2:hasN d.nodes s.nd=false):atP d s au=zeroPl∧atE d s au=7:=at_e (by unfold atE;rw[if_neg (fun q=>q h),if_pos h2]) (by decide)
theorem at_3{d:Doc}{s:Sel}{au:ByteArray}(h:docE d=0)(h2:hasN d.nodes s.nd=true)(h3:hasT (d.nodes.getD (lobN d.nodes s.nd) default).kind=false):atP d s au=zeroPl∧atE d s au=8:=
 at_e (by unfold atE;rw[if_neg (fun q=>q h),if_neg (by rw[h2];decide),if_pos (show hasT (ndN d.nodes s.nd).kind=false from h3)]) (by decide)
theorem at_4{d:Doc}{s:Sel}{au:ByteArray}(h:docE d=0)(h2:hasN d.nodes s.nd=true)(h3:hasT (d.nodes.getD (lobN d.nodes s.nd) default).kind=true)
 (h4:(s.fr<0∨s.tq<s.fr)∨((plcL (d.nodes.getD (lobN d.nodes s.nd) default).flow 0 (d.nodes.getD (lobN d.nodes s.nd) default).flow.length).length:Int)≤s.tq):atP d s au=zeroPl∧atE d s au=2:=
 at_e (by unfold atE;rw[if_neg (fun q=>q h),if_neg (by rw[h2];decide),if_neg (by unfold ndN;rw[h3];decide),if_pos (by unfold shwN ndN;omega)]) (by decide)
theorem at_5{d:Doc}{s:Sel}{au:ByteArray}(h:docE d=0)(h2:hasN d.nodes s.nd=true)(h3:hasT (d.nodes.getD (lobN d.nodes s.nd) default).kind=true)
 (h4:(0≤s.fr∧s.fr≤s.tq)∧s.tq< ((plcL (d.nodes.getD (lobN d.nodes s.nd) default).flow 0 (d.nodes.getD (lobN d.nodes s.nd) default).flow.length).length:Int)) (h5:seq au {data:=#[]}=false∧valGo au=false):atP d s au=zeroPl∧atE d s au=23:=
 at_e (by unfold atE;rw[if_neg (fun q=>q h),if_neg (by rw[h2];decide),if_neg (by unfold ndN;rw[h3];decide),if_neg (by unfold shwN ndN;omega),if_pos h5]) (by decide)
theorem at_6{d:Doc}{s:Sel}{au:ByteArray}(h:docE d=0)(h2:hasN d.nodes s.nd=true)(h3:hasT (d.nodes.getD (lobN d.nodes s.nd) default).kind=true)
 (h4:(0≤s.fr∧s.fr≤s.tq)∧s.tq< ((plcL (d.nodes.getD (lobN d.nodes s.nd) default).flow 0 (d.nodes.getD (lobN d.nodes s.nd) default).flow.length).length:Int)) (h5:seq au {data:=#[]}=true∨valGo au=true):atP d s au=⟨ndN d.nodes s.nd,shwN (ndN d.nodes s.nd),au⟩∧atE d s au=0:=by
 have e:atE d s au=0:=by
  unfold atE;rw[if_neg (fun q=>q h),if_neg (by rw[h2];decide),if_neg (by unfold ndN;rw[h3];decide),if_neg (by unfold shwN ndN;omega),if_neg]
  rintro⟨a,b⟩;rcases h5 with q|q
  ·rw[a] at q;cases q
  ·rw[b] at q;cases q
 unfold atP;rw[e,if_neg (fun q=>q rfl)];exact⟨rfl,rfl⟩
def elemP(p:Pl)(k:Int):Elem:=if k<0∨(p.shown.length:Int)≤k then⟨10,0,[]⟩ else p.node.flow.getD (p.shown.getD k.toNat default).toNat default
structure PlB(p:Pl):Prop where
 len:p.node.flow.length≤1048576
 ok:∀x∈p.shown,0≤x∧x< (p.node.flow.length:Int)
 sl:p.shown.length≤1048576
 at1:∀x∈p.node.flow,x.attrs.length≤1048576
theorem elemP_len{p:Pl}(h:PlB p)(k:Int):(elemP p k).attrs.length≤1048576:=by
 unfold elemP;split
 ·simp
 ·rename_i q
  have hx:=h.ok _ (getDX_mem (l:=p.shown) (i:=k.toNat) (by omega))
  exact h.at1 _ (getDX_mem (by omega))
def sprL:List ByteArray:=[{data:=#[98,111,108,100]},{data:=#[105,116,97,108,105,99]},{data:=#[117,110,100,101,114]},{data:=#[115,116,114,105,107,101]},{data:=#[102,105,120,101,100]},{data:=#[114,97,105,115,101]},{data:=#[115,105,122,101]},{data:=#[99,111,108,111,117,114]},{data:=#[108,97,110,103]},{data:=#[115,116,121,108,101]}]
def sprB(n:ByteArray):Bool:=sprL.any fun y=>seq n y
def btwB(n:ByteArray):Bool:=
 (((seq n {data:=#[108,105,110,107]}||seq n {data:=#[108,111,99,107]})|| (decide ((n.size:Int)> 7)&&seq (n.extract 0 7) {data:=#[114,101,109,97,114,107,46]}))|| (decide ((n.size:Int)> 5)&&seq (n.extract 0 5) {data:=#[109,97,114,107,46]}))
def inhF(p:Pl)(k:Int):Elem:=if(elemP p (k- 1)).char=10 then elemP p k else elemP p (k- 1)
def inhG(r:Elem)(k:Int)(a:Attr):Bool:=(btwB a.name&&decide (k>0))&&seq (getA r.attrs a.name 0) a.val
def inhO(r:Elem)(k:Int)(o:List Attr)(l:List Attr):List Attr:=l.foldl (fun o a=>if inhG r k a=true then fm rawG o [a] else o) o
def inhB(p:Pl)(k:Int):List Attr:=if(inhF p k).char≠10 then(inhF p k).attrs.filter (fun a=>sprB a.name) else[]
def inhP(p:Pl)(k:Int):List Attr:=inhO (elemP p k) k (inhB p k) (elemP p (k- 1)).attrs
theorem inhB_def(p:Pl)(k:Int):inhB p k=if(elemP p (k- 1)).char=10 then(if(elemP p k).char≠10 then(elemP p k).attrs.filter (fun a=>sprB a.name) else[]) else(if(elemP p (k- 1)).char≠10 then(elemP p (k- 1)).attrs.filter (fun a=>sprB a.name) else[]):=by
 unfold inhB inhF
 by_cases h:(elemP p (k- 1)).char=10
 ·rw[if_pos h,if_pos h]
 ·rw[if_neg h,if_neg h]
theorem filter_1{α:Type}[Inhabited α]{f:α→Bool}{l:List α}{i:Nat}(h:i<l.length)(h1:f (l.getD i default)=true):List.filter f [l[i]]=[l.getD i default]:=by
 have e:l.getD i default=l[i]:=by rw[List.getD_eq_getElem?_getD,List.getElem?_eq_getElem h];rfl
 rw[e] at h1⊢;simp[h1]
theorem filter_0{α:Type}[Inhabited α]{f:α→Bool}{l:List α}{i:Nat}(h:i<l.length)(h1:f (l.getD i default)=false):List.filter f [l[i]]=[]:=by
 have e:l.getD i default=l[i]:=by rw[List.getD_eq_getElem?_getD,List.getElem?_eq_getElem h];rfl
 rw[e] at h1;simp[h1]
theorem inhO_succ{r:Elem}{k:Int}{o l:List Attr}{j:Nat}(h:j<l.length):inhO r k o (l.take (j+1))=if inhG r k (l.getD j default)=true then fm rawG (inhO r k o (l.take j)) [l.getD j default] else inhO r k o (l.take j):=by
 have e:l.getD j default=l[j]:=by rw[List.getD_eq_getElem?_getD,List.getElem?_eq_getElem h];rfl
 unfold inhO
 rw[List.take_succ_eq_append_getElem h,List.foldl_append,e];rfl
theorem inhG_y{r:Elem}{k:Int}{a:Attr}(h:(btwB a.name=true∧0<k)∧seq (getA r.attrs a.name 0) a.val=true):inhG r k a=true:=by
 unfold inhG;rw[h.1.1,h.2,decide_eq_true (show k>0 from h.1.2)];rfl
theorem inhG_n{r:Elem}{k:Int}{a:Attr}(h:(btwB a.name=false∨k≤0)∨seq (getA r.attrs a.name 0) a.val=false):¬inhG r k a=true:=by
 unfold inhG;rw[Bool.and_eq_true,Bool.and_eq_true,decide_eq_true_eq]
 rintro⟨⟨a,b⟩,c⟩
 rcases h with(h|h)|h
 ·rw[a] at h;cases h
 ·omega
 ·rw[c] at h;cases h
theorem elemP_out{p:Pl}{k:Int}(h:(p.shown.length:Int)≤k):(elemP p k).char=10:=by unfold elemP;rw[if_pos (.inr h)]
def endK(p:Pl)(k:Nat):Nat:=if h:k<p.shown.length∧(elemP p k).char≠10 then endK p (k+1) else k
termination_by p.shown.length-k
theorem endK_go{p:Pl}{k:Nat}(h:(elemP p k).char≠10):k<p.shown.length∧endK p k=endK p (k+1):=by
 have hl:k<p.shown.length:=Classical.byContradiction fun q=>h (elemP_out (by omega))
 refine⟨hl,?_⟩
 conv=>lhs;rw[endK]
 rw[dif_pos ⟨hl,h⟩]
theorem endK_at{p:Pl}{k:Nat}(h:(elemP p k).char=10):endK p k=k:=by rw[endK,dif_neg (fun q=>q.2 h)]
def endL:List ByteArray:=[{data:=#[97,100,100]},{data:=#[99,117,116]},{data:=#[104,105,100,100,101,110]},{data:=#[108,111,99,107]},{data:=#[115,101,99,116,105,111,110]},{data:=#[98,114,101,97,107]},{data:=#[115,116,97,114,116]}]
def endG(a:Attr):Bool:=!(endL.any fun y=>seq a.name y)&& !(btwB a.name)
def endP(p:Pl)(k:Nat):List Attr:=(elemP p (endK p k)).attrs.filter endG
def opF(n:Int)(s:List DStep):EOp:=⟨2,n,⟨0,0,[],[],⟨0,0,[],[]⟩,[]⟩,[],s,⟨[],[],[],[],[]⟩,[]⟩
def ersP(p:Pl)(s:Sel):List DStep:=ersD p.node.flow ((p.shown.take s.tq.toNat).drop s.fr.toNat) p.author
def typP(p:Pl)(s:Sel)(es:List Elem):List DStep:=typD p.node.flow.length (gapP p.shown s.fr) es p.author
def stpP(p:Pl)(s:Sel)(es:List Elem):List DStep:=joinD (ersP p s) (pairD1 (typP p s es) (ersP p s))
def selP(s:Sel)(es:List Elem):Sel:=⟨s.nd,s.fr+es.length,s.fr+es.length⟩
structure StpB(p:Pl)(s:Sel)(es:List Elem):Prop where
 s1:0≤s.fr∧s.fr≤s.tq∧s.tq< (p.shown.length:Int)
 e1:es.length≤1048576
 e2:∀x∈es,x.attrs.length≤1048576
 v1:DValid (ersP p s)
 v2:DValid (typP p s es)
 v3:DValid (pairD1 (typP p s es) (ersP p s))
 d1:DN 100000000000 (ersP p s)
 d2:DN 100000000000 (typP p s es)
 d3:DN 100000000000 (pairD1 (typP p s es) (ersP p s))
 m1:oldD (typP p s es)=oldD (ersP p s)
 m2:newD (ersP p s)=oldD (pairD1 (typP p s es) (ersP p s))
 m3:newD (typP p s es)+newD (ersP p s)≤2147483647
theorem gapP_bd{p:Pl}{s:Sel}(h:PlB p)(h2:0≤s.fr∧s.fr≤s.tq∧s.tq< (p.shown.length:Int)):0≤gapP p.shown s.fr∧gapP p.shown s.fr≤(p.node.flow.length:Int):=by
 unfold gapP;split
 ·omega
 ·have:=h.ok _ (getDX_mem (l:=p.shown) (i:=(s.fr- 1).toNat) (by omega));omega
def mkE(l:List Attr)(c:Int):Elem:=⟨c,0,l⟩
def typX(p:Pl)(s:Sel)(x:Elem):Elem:=if x.char=10 then {x with attrs:=endP p s.tq.toNat} else x
def typEl(p:Pl)(s:Sel)(cs:List Int):List Elem:=(cs.map (mkE (inhP p s.fr))).map (typX p s)
def typeO(d:Doc)(s:Sel)(cs:List Int)(au:ByteArray):List EOp:=if atE d s au≠0 then[] else[opF s.nd (stpP (atP d s au) s (typEl (atP d s au) s cs))]
def typeS(d:Doc)(s:Sel)(cs:List Int)(au:ByteArray):Sel:=if atE d s au≠0 then⟨0,0,0⟩ else selP s (typEl (atP d s au) s cs)
structure TypB(d:Doc)(s:Sel)(cs:List Int)(au:ByteArray):Prop where
 p:PlB (atP d s au)
 c:chkA false (inhP (atP d s au) s.fr) 0=0
 l:(inhP (atP d s au) s.fr).length≤10000000
 r:0≤s.fr∧s.fr≤s.tq∧s.tq< ((atP d s au).shown.length:Int)
 s:StpB (atP d s au) s (typEl (atP d s au) s cs)
theorem type_1{d:Doc}{s:Sel}{cs:List Int}{au:ByteArray}(h:atE d s au≠0):typeO d s cs au=[]∧typeS d s cs au=⟨0,0,0⟩:=by
 unfold typeO typeS;rw[if_pos h,if_pos h];exact⟨rfl,rfl⟩
theorem type_2{d:Doc}{s:Sel}{cs:List Int}{au:ByteArray}(h:atE d s au=0):typeO d s cs au=[opF s.nd (stpP (atP d s au) s (typEl (atP d s au) s cs))]∧typeS d s cs au=selP s (typEl (atP d s au) s cs):=by
 unfold typeO typeS;rw[if_neg (fun q=>q h),if_neg (fun q=>q h)];exact⟨rfl,rfl⟩
theorem typX_y{p:Pl}{s:Sel}{x:Elem}(h:x.char=10):typX p s x={char:=x.char,ref:=x.ref,attrs:=endP p s.tq.toNat}:=by unfold typX;rw[if_pos h]
theorem typX_n{p:Pl}{s:Sel}{x:Elem}(h:x.char≠10):typX p s x=x:=by unfold typX;rw[if_neg h]
theorem mapt_skip{α:Type}[Inhabited α]{g:α→α}{l:List α}{i:Nat}(h:i<l.length)(h2:g (l.getD i default)=l.getD i default):(l.take i).map g++l.drop i=(l.take (i+1)).map g++l.drop (i+1):=by
 have e:l.getD i default=l[i]:=by rw[List.getD_eq_getElem?_getD,List.getElem?_eq_getElem h];rfl
 rw[List.take_succ_eq_append_getElem h,List.map_append,List.append_assoc,drop_succD h]
 rw[e] at h2⊢
 simp[h2]
theorem endG_y{a:Attr}(h:endL.any (fun y=>seq a.name y)=false∧btwB a.name=false):endG a=true:=by unfold endG;rw[h.1,h.2];rfl
theorem endG_n{a:Attr}(h:endL.any (fun y=>seq a.name y)=true∨btwB a.name=true):endG a=false:=by
 unfold endG;rcases h with h|h<;>rw[h]
 ·rfl
 ·simp
theorem endK_goI{p:Pl}{k:Int}(h0:0≤k)(h:(elemP p k).char≠10):k< (p.shown.length:Int)∧endK p k.toNat=endK p (k+1).toNat:=by
 have e:((k.toNat:Nat):Int)=k:=Int.toNat_of_nonneg h0
 have:=endK_go (p:=p) (k:=k.toNat) (by rw[e];exact h)
 exact⟨by omega,by rw[this.2];congr 1;omega⟩
theorem endK_atI{p:Pl}{k:Int}(h0:0≤k)(h:(elemP p k).char=10):endK p k.toNat=k.toNat:=endK_at (by rw[Int.toNat_of_nonneg h0];exact h)
def fmtW(p:Pl)(s:Sel)(k:Int):Bool:=(decide (k≥s.fr)&&decide (k<s.tq))&&((elemP p k).char !=10)
def parW(p:Pl)(s:Sel)(m:Int)(k:Int):Bool:=(decide (k≥s.fr)&&decide (k≤m))&&((elemP p k).char==10)
def rstF(w:Int→Bool)(sh:List Int)(n m:Nat):List Bool:=(List.range m).foldl (fun b k=>b.set (Int.toNat (sh.getD k default)) (w (k:Int))) (List.replicate n false)
theorem rstF_succ(w:Int→Bool)(sh:List Int)(n m:Nat):rstF w sh n (m+1)=(rstF w sh n m).set (Int.toNat (sh.getD m default)) (w (m:Int)):=by
 unfold rstF;rw[List.range_succ,List.foldl_append];rfl
theorem rstF_len(w:Int→Bool)(sh:List Int)(n:Nat):∀m,(rstF w sh n m).length=n
 |0=>by simp[rstF]
 |m+1=>by rw[rstF_succ,List.length_set,rstF_len w sh n m]
def rstU(c:List Attr)(f:List Bool)(i:Nat):DU:=if f.getD i default=true then .K c else .K []
def rstS(c:List Attr)(f:List Bool)(n:Nat):List DStep:=((List.range n).map (rstU c f)).map stepU
def rstD(c:List Attr)(f:List Bool)(n:Nat):List DStep:=tidyL (rstS c f n)
theorem rstS_succ(c:List Attr)(f:List Bool)(i:Nat):rstS c f (i+1)=rstS c f i++[stepU (rstU c f i)]:=by
 unfold rstS;rw[List.range_succ,List.map_append,List.map_append];rfl
theorem rstS_len(c:List Attr)(f:List Bool)(i:Nat):(rstS c f i).length=i:=by simp[rstS]
theorem rstU_y{c:List Attr}{f:List Bool}{i:Nat}(h:f.getD i default=true):stepU (rstU c f i)={kind:=0,n:=1,attrs:=c,elems:=[]}:=by unfold rstU;rw[if_pos h];rfl
theorem rstU_n{c:List Attr}{f:List Bool}{i:Nat}(h:f.getD i default=false):stepU (rstU c f i)={kind:=0,n:=1,attrs:=[],elems:=[]}:=by unfold rstU;rw[if_neg (by rw[h];decide)];rfl
theorem rstS_dn(c:List Attr)(f:List Bool)(n:Nat)(hc:c.length≤1048576):DN 100000000000 (rstS c f n)∧elS (rstS c f n)=0:=by
 have hx:∀s∈rstS c f n,s.elems=[]∧s.attrs.length≤1048576:=by
  intro s hs
  unfold rstS at hs
  obtain⟨u,hu,rfl⟩:=List.mem_map.1 hs
  obtain⟨i,hi,rfl⟩:=List.mem_map.1 hu
  unfold rstU
  split
  ·exact⟨rfl,hc⟩
  ·exact⟨rfl,by simp[stepU]⟩
 refine⟨fun s hs=> ?_,?_⟩
 ·obtain⟨h1,h2⟩:=hx s hs
  refine⟨by rw[h1];simp,by omega,?_⟩
  rw[h1];intro x hx;cases hx
 ·generalize rstS c f n=l at hx
  induction l with
  |nil=>rfl
  |cons s l ih=>
   rw[elS,(hx s List.mem_cons_self).1,ih (fun t ht=>hx t (List.mem_cons_of_mem _ ht))];rfl
def fmtE(d:Doc)(s:Sel)(c:List Attr):Int:=if atE d s {data:=#[]}≠0 then atE d s {data:=#[]} else chkA true c 0
def fmtL(p:Pl)(c:List Attr)(w:Int→Bool):List EOp:=[opF p.node.id (rstD c (rstF w p.shown p.node.flow.length p.shown.length) p.node.flow.length)]
def fmtO(d:Doc)(s:Sel)(c:List Attr):List EOp:=if fmtE d s c≠0 then[] else fmtL (atP d s {data:=#[]}) c (fmtW (atP d s {data:=#[]}) s)
def parO(d:Doc)(s:Sel)(c:List Attr):List EOp:=
 if fmtE d s c≠0 then[] else fmtL (atP d s {data:=#[]}) c (parW (atP d s {data:=#[]}) s ((endK (atP d s {data:=#[]}) (max s.fr (s.tq- 1)).toNat:Nat):Int))
theorem fmtE_1{d:Doc}{s:Sel}{c:List Attr}(h:atE d s {data:=#[]}≠0):fmtE d s c=atE d s {data:=#[]}:=by unfold fmtE;rw[if_pos h]
theorem fmtE_2{d:Doc}{s:Sel}{c:List Attr}(h:atE d s {data:=#[]}=0):fmtE d s c=chkA true c 0:=by unfold fmtE;rw[if_neg (fun q=>q h)]
theorem fmt_1{d:Doc}{s:Sel}{c:List Attr}(h:atE d s {data:=#[]}≠0):fmtO d s c=[]∧fmtE d s c=atE d s {data:=#[]}:=by
 have e:=fmtE_1 (c:=c) h
 unfold fmtO;rw[e,if_pos h];exact⟨rfl,rfl⟩
theorem fmt_2{d:Doc}{s:Sel}{c:List Attr}(h:atE d s {data:=#[]}=0)(h2:chkA true c 0≠0):fmtO d s c=[]∧fmtE d s c=chkA true c 0:=by
 have e:=fmtE_2 (c:=c) h
 unfold fmtO;rw[e,if_pos h2];exact⟨rfl,rfl⟩
theorem fmt_3{d:Doc}{s:Sel}{c:List Attr}(h:atE d s {data:=#[]}=0)(h2:chkA true c 0=0):fmtO d s c=fmtL (atP d s {data:=#[]}) c (fmtW (atP d s {data:=#[]}) s)∧fmtE d s c=0:=by
 have e:=(fmtE_2 (c:=c) h).trans h2
 unfold fmtO;rw[e,if_neg (fun q=>q rfl)];exact⟨rfl,rfl⟩
theorem par_1{d:Doc}{s:Sel}{c:List Attr}(h:atE d s {data:=#[]}≠0):parO d s c=[]∧fmtE d s c=atE d s {data:=#[]}:=by
 have e:=fmtE_1 (c:=c) h
 unfold parO;rw[e,if_pos h];exact⟨rfl,rfl⟩
theorem par_2{d:Doc}{s:Sel}{c:List Attr}(h:atE d s {data:=#[]}=0)(h2:chkA true c 0≠0):parO d s c=[]∧fmtE d s c=chkA true c 0:=by
 have e:=fmtE_2 (c:=c) h
 unfold parO;rw[e,if_pos h2];exact⟨rfl,rfl⟩
theorem par_3{d:Doc}{s:Sel}{c:List Attr}{m:Int}(h:atE d s {data:=#[]}=0)(h2:chkA true c 0=0)(hm:((endK (atP d s {data:=#[]}) (max s.fr (s.tq- 1)).toNat:Nat):Int)=m):parO d s c=fmtL (atP d s {data:=#[]}) c (parW (atP d s {data:=#[]}) s m)∧fmtE d s c=0:=by
 have e:=(fmtE_2 (c:=c) h).trans h2
 unfold parO;rw[e,if_neg (fun q=>q rfl),hm];exact⟨rfl,rfl⟩
end Go.Ch
end
section
set_option linter.unusedVariables false
set_option linter.unusedSimpArgs false
set_option maxRecDepth 100000
set_option maxHeartbeats 4000000
open Go Go.Proofs Go.Ab
namespace Go.Ch
theorem fc_dPair(a b:List DStep)(va:DValid a)(vb:DValid b)(da:DN 100000000000 a)(db:DN 100000000000 b)(hm:oldD a=oldD b)(hs:newD a+newD b≤2147483647):FC Tryz.prog 117 [VL 4 dstepT a,VL 4 dstepT b] (app emp []) (.tup [VL 4 dstepT (pairD1 a b),VL 4 dstepT (pairD2 a b),VI 0]) (app emp []):=by
 refine .go Tryz.f117 ?_
 refine .len 0 (fun hl0=> ?_)
 refine .len 1 (fun hl1=> ?_)
 have ca:=checkD_iff.2 va
 have cb:=checkD_iff.2 vb
 have da4:=da.mono (n:=400000000000) (by decide)
 have db4:=db.mono (n:=400000000000) (by decide)
 obtain⟨_,_,st,v1,v2,_⟩:=pair_start va vb da db hm hs
 have c1:=checkD_iff.2 v1
 have c2:=checkD_iff.2 v2
 refine .bp [.r [],.r [(1,X (Xc0 (fc_dCheck a (by assumption)) X0))],.r []] ((checkD a) !=0) (fun h2=> ?_) (fun h2=> ?_)
 ·
  exfalso
  omega
 ·
  refine .bp [.r [(1,X (Xc0 (fc_dCheck b (by assumption)) X0))],.r []] ((checkD b) !=0) (fun h5=> ?_) (fun h5=> ?_)
  ·
   exfalso
   omega
  ·
   refine .bp [.r [(1,X (Xc0 (fc_dLens a (by assumption)) X0))],.r [(1,X (Xc0 (fc_dLens b (by assumption)) X0))],.r []] ((oldD a) !=(oldD b)) (fun h9=> ?_) (fun h9=> ?_)
   ·
    exfalso
    omega
   ·
    refine .loop (α:=Int×Int×(List DStep)×(List Elem)×(List DStep)×(List Elem)×(List DStep)×Int×(List DStep)×Int) [.r [],.le (.nB 240 0 4),.le (.nB 240 1 3),.le (.nB 248 0 4),.le (.nB 248 1 3),.r []] 324 (fun(y1,y2,o1,x1,o2,x2,ps,pu,qs,qu)=>([(13,.ptr 240 0),(14,.ptr 248 0),(15,.ptr 276 0),(16,.ptr 300 0)],[(240,.box [.row 256 o1.length,.row 257 x1.length,VI y1]),(248,.box [.row 258 o2.length,.row 259 x2.length,VI y2]),(256,OR 4 dstepT o1),(257,OR 3 elemT x1),(258,OR 4 dstepT o2),(259,OR 3 elemT x2),(276,.box [VL 4 dstepT ps,VI pu]),(300,.box [VL 4 dstepT qs,VI qu])])) (fun(y1,y2,o1,x1,o2,x2,ps,pu,qs,qu)=>PD ⟨o1,x1,y1⟩ ⟨o2,x2,y2⟩ ps pu qs qu (pairDU (exD a) (exD b)).1.length (pairDU (exD a) (exD b)).2.length (foldD ⟨[],[],0⟩ (pairDU (exD a) (exD b)).1) (foldD ⟨[],[],0⟩ (pairDU (exD a) (exD b)).2)) (fun(y1,y2,o1,x1,o2,x2,ps,pu,qs,qu)=>jmD ps pu qs qu) (0,0,[],[],[],[],a,0,b,0) ?_ ?_
    ·
     exact st
    rintro⟨y1,y2,o1,x1,o2,x2,ps,pu,qs,qu⟩ I13 ih13
    try dsimp only at I13
    have kp:=kindD_cases I13.gp
    have kq:=kindD_cases I13.gq
    have bx:=I13.dx.bd
    have by2:=I13.dy.bd
    simp only at bx by2
    have fx:=I13.dx.fl.1
    have fy:=I13.dy.fl.1
    refine .bp [.r [(1,X (Xc4 [(0,276)] (fc_dKind ps pu) X0)),(5,Xv 1 (!(decide ((kindD ps)≥0))) (Xc4 [(0,300)] (fc_dKind qs qu) X0)),(6,Xv 1 (!(decide ((kindD ps)≥0))) X0),(7,X (Xk' (decide ((kindD ps)≥0))))]] (decide ((kindD ps)≥0)||decide ((kindD qs)≥0)) (fun h13=> ?_) (fun h13=> ?_)
    ·
     refine .bp [.r [(1,X (Xc4 [(0,276)] (fc_dKind ps pu) X0))]] ((kindD ps)==1) (fun h14=> ?_) (fun h14=> ?_)
     ·
      have lp0:0<ps.length:=by omega
      have k1:(ps.getD 0 default).kind=1:=by omega
      clear kp kq h13 h14
      have sp:=szD_bd I13.gp I13.dp lp0
      obtain⟨s,hs⟩:∃z,tkE ps pu (szD (ps.getD 0 default)- pu)=z:=⟨_,rfl⟩
      have hA:=PD.addP I13 lp0 k1 rfl
      have hAn:=an_up (tkE_an (u:=pu) (n:=szD (ps.getD 0 default)- pu) sp.2.2.2.2.2) (k:=400000000000) (by decide)
      rw[hs] at hA hAn
      have hAb:=hA.1.dx.bd
      simp only[List.length_append] at hAb
      have hA2:=hA.2.2
      refine .back [.r [(2,X (Xc4 [(0,276)] (fc_dLeft ps pu (by omega) (by omega)) X0)),(3,X (Xc3 444 [(0,276)] (fc_dTake2 ps pu (szD (ps.getD 0 default)- pu) s hs (by omega) (by omega)) X0))],.r [(2,X (Xc3 484 [(0,240),(1,256),(2,257)] (fc_dElems o1 x1 y1 s.elems (by assumption) (by omega)) X0))],.r [(2,X (Xl elemT s.elems)),(3,X (Xc3 516 [(0,248),(1,258),(2,259)] (.nil 2 2 (fc_dKeep o2 x2 y2 (s.elems.length:Int) [] (by omega) (by first|omega|simp) (by omega) (by first|assumption|exact kbd (by assumption)))) X0))]] [(240,240),(248,248),(256,256),(257,257),(258,258),(516,259),(276,276),(300,300)] (ih13 (y1,0,o1,(x1++s.elems),(keepD (flushD ⟨o2,x2,y2⟩) (s.elems.length:Int) []),[],(tkL ps pu (szD (ps.getD 0 default)- pu)),(tkN ps pu (szD (ps.getD 0 default)- pu)),qs,qu) ?_ ?_)
      ·
       exact hA.1
      ·
       exact hA.2.1
     ·
      refine .bp [.r [(1,X (Xc4 [(0,300)] (fc_dKind qs qu) X0))]] ((kindD qs)==1) (fun h18=> ?_) (fun h18=> ?_)
      ·
       have lq0:0<qs.length:=by omega
       have k2:(qs.getD 0 default).kind=1:=by omega
       have k1:0<ps.length→(ps.getD 0 default).kind≠1:=fun h=>by omega
       clear kp kq h13 h14 h18
       have sq:=szD_bd I13.gq I13.dq lq0
       obtain⟨s,hs⟩:∃z,tkE qs qu (szD (qs.getD 0 default)- qu)=z:=⟨_,rfl⟩
       have hA:=PD.addQ I13 k1 lq0 k2 rfl
       have hAn:=an_up (tkE_an (u:=qu) (n:=szD (qs.getD 0 default)- qu) sq.2.2.2.2.2) (k:=400000000000) (by decide)
       rw[hs] at hA hAn
       have hAb:=hA.1.dy.bd
       simp only[List.length_append] at hAb
       have hA2:=hA.2.2
       clear k1
       refine .back [.r [(2,X (Xc4 [(0,300)] (fc_dLeft qs qu (by omega) (by omega)) X0)),(3,X (Xc3 476 [(0,300)] (fc_dTake2 qs qu (szD (qs.getD 0 default)- qu) s hs (by omega) (by omega)) X0))],.r [(2,X (Xl elemT s.elems)),(3,X (Xc3 524 [(0,240),(1,256),(2,257)] (.nil 2 2 (fc_dKeep o1 x1 y1 (s.elems.length:Int) [] (by omega) (by first|omega|simp) (by omega) (by first|assumption|exact kbd (by assumption)))) X0))],.r [(2,X (Xc3 548 [(0,248),(1,258),(2,259)] (fc_dElems o2 x2 y2 s.elems (by assumption) (by omega)) X0))]] [(240,240),(248,248),(256,256),(524,257),(258,258),(259,259),(276,276),(300,300)] (ih13 (0,y2,(keepD (flushD ⟨o1,x1,y1⟩) (s.elems.length:Int) []),[],o2,(x2++s.elems),ps,pu,(tkL qs qu (szD (qs.getD 0 default)- qu)),(tkN qs qu (szD (qs.getD 0 default)- qu))) ?_ ?_)
       ·
        exact hA.1
       ·
        exact hA.2.1
      ·
       obtain⟨lp0,lq0⟩:=PD.two I13 (by omega) (fun h=>by omega) (fun h=>by omega)
       have k1:(ps.getD 0 default).kind≠1:=by omega
       have k3:(qs.getD 0 default).kind≠1:=by omega
       have sk:=fun _:Unit=>k02 I13.gp lp0 k1
       have tk:=fun _:Unit=>k02 I13.gq lq0 k3
       have hB1:=fun n=>PD.both (n:=n) I13 lp0 lq0 k1 k3
       have mk1:=szD_k I13.gp lp0 k1
       clear kp kq h13 h14 h18 k1 k3
       have sp:=szD_bd I13.gp I13.dp lp0
       have sq:=szD_bd I13.gq I13.dq lq0
       obtain⟨m,hmm⟩:∃z,min (szD (ps.getD 0 default)- pu) (szD (qs.getD 0 default)- qu)=z:=⟨_,rfl⟩
       have hB:=hB1 m hmm.symm
       have m1:1≤m∧m≤szD (ps.getD 0 default)- pu∧m≤szD (qs.getD 0 default)- qu∧m≤100000000000:=by omega
       have m2:pu+m≤szD (ps.getD 0 default)∧qu+m≤szD (qs.getD 0 default):=by omega
       obtain⟨s,hs⟩:∃z,tkE ps pu m=z:=⟨_,rfl⟩
       obtain⟨t,ht⟩:∃z,tkE qs qu m=z:=⟨_,rfl⟩
       have ek1:=tkE_kind ps pu m
       have ek2:=tkE_kind qs qu m
       have ea1:=tkE_attrs ps pu m
       have ea2:=tkE_attrs qs qu m
       rw[hs] at ek1 ea1
       rw[ht] at ek2 ea2
       have al:s.attrs.length≤100000000000∧t.attrs.length≤100000000000:=by rw[ea1,ea2];omega
       rw[←ea1,←ea2,←ek1,←ek2] at hB
       rw[←ek1] at sk
       rw[←ek2] at tk
       clear hB1
       refine .bp [.r [(1,X (Xc4 [(0,276)] (fc_dLeft ps pu (by omega) (by omega)) X0)),(3,X (Xc4 [(0,300)] (fc_dLeft qs qu (by omega) (by omega)) X0)),(4,X (Xmin (szD (ps.getD 0 default)- pu) (szD (qs.getD 0 default)- qu)))],.le (.eq 19 (VI (min (szD (ps.getD 0 default)- pu) (szD (qs.getD 0 default)- qu))) (VI m) (.of_eq (by rw[hmm]))),.r [(2,X (Xc3 516 [(0,276)] (fc_dTake2 ps pu m s hs (by omega) (by omega)) X0)),(5,X (Xc3 540 [(0,300)] (fc_dTake2 qs qu m t ht (by omega) (by omega)) X0))],.r [(5,Xv 1 (s.kind==0) X0),(6,Xv 1 (s.kind==0) X0),(7,X (Xk (s.kind==0)))]] ((s.kind==0)&&(t.kind==0)) (fun h24=> ?_) (fun h24=> ?_)
       ·
        have fl:=fm_len' wioG s.attrs t.attrs
        refine .back [.r [(5,X (Xc1 692 (fc_without s.attrs t.attrs (by omega)) X0)),(6,X (Xc3 700 [(0,240),(1,256),(2,257)] (fc_dKeep o1 x1 y1 m (fm wioG s.attrs t.attrs) (by omega) (by first|omega|simp) (by omega) (by first|assumption|exact kbd (by assumption))) X0))],.r [(3,X (Xc3 732 [(0,248),(1,258),(2,259)] (fc_dKeep o2 x2 y2 m t.attrs (by omega) (by first|omega|simp) (by omega) (by first|assumption|exact kbd (by assumption))) X0))]] [(240,240),(248,248),(256,256),(700,257),(258,258),(732,259),(276,276),(300,300)] (ih13 (0,0,(keepD (flushD ⟨o1,x1,y1⟩) m (fm wioG s.attrs t.attrs)),[],(keepD (flushD ⟨o2,x2,y2⟩) m t.attrs),[],(tkL ps pu m),(tkN ps pu m),(tkL qs qu m),(tkN qs qu m)) ?_ ?_)
        ·
         exact hB.1.1 h24
        ·
         exact hB.2
       ·
        refine .bp [.r []] (s.kind==0) (fun h27=> ?_) (fun h27=> ?_)
        ·
         refine .back [.r [(3,X (Xn (y2+m)))]] [(240,240),(248,248),(256,256),(257,257),(258,258),(259,259),(276,276),(300,300)] (ih13 (y1,(y2+m),o1,x1,o2,x2,(tkL ps pu m),(tkN ps pu m),(tkL qs qu m),(tkN qs qu m)) ?_ ?_)
         ·
          exact hB.1.2.1 ⟨h27,(tk ()).resolve_left (h24.resolve_left (fun h=>h h27))⟩
         ·
          exact hB.2
        ·
         refine .bp [.r []] (t.kind==0) (fun h29=> ?_) (fun h29=> ?_)
         ·
          refine .at 716 [(240,240),(248,248),(256,256),(257,257),(258,258),(259,259),(276,276),(300,300)] ([(13,.ptr 240 0),(14,.ptr 248 0),(15,.ptr 276 0),(16,.ptr 300 0),(19,VI m),(133,VB (t.kind==0))],[(240,.box [.row 256 o1.length,.row 257 x1.length,VI y1]),(248,.box [.row 258 o2.length,.row 259 x2.length,VI y2]),(256,OR 4 dstepT o1),(257,OR 3 elemT x1),(258,OR 4 dstepT o2),(259,OR 3 elemT x2),(276,.box [VL 4 dstepT (tkL ps pu m),VI (tkN ps pu m)]),(300,.box [VL 4 dstepT (tkL qs qu m),VI (tkN qs qu m)])]) ?_
          refine .back [.r [(3,X (Xn (y1+m)))]] [(240,240),(248,248),(256,256),(257,257),(258,258),(259,259),(276,276),(300,300)] (ih13 ((y1+m),y2,o1,x1,o2,x2,(tkL ps pu m),(tkN ps pu m),(tkL qs qu m),(tkN qs qu m)) ?_ ?_)
          ·
           exact hB.1.2.2.1 ⟨(sk ()).resolve_left h27,h29⟩
          ·
           exact hB.2
         ·
          refine .at 716 [(240,240),(248,248),(256,256),(257,257),(258,258),(259,259),(276,276),(300,300)] ([(13,.ptr 240 0),(14,.ptr 248 0),(15,.ptr 276 0),(16,.ptr 300 0),(19,VI m),(133,VB (t.kind==0))],[(240,.box [.row 256 o1.length,.row 257 x1.length,VI y1]),(248,.box [.row 258 o2.length,.row 259 x2.length,VI y2]),(256,OR 4 dstepT o1),(257,OR 3 elemT x1),(258,OR 4 dstepT o2),(259,OR 3 elemT x2),(276,.box [VL 4 dstepT (tkL ps pu m),VI (tkN ps pu m)]),(300,.box [VL 4 dstepT (tkL qs qu m),VI (tkN qs qu m)])]) ?_
          refine .back [] [(240,240),(248,248),(256,256),(257,257),(258,258),(259,259),(276,276),(300,300)] (ih13 (y1,y2,o1,x1,o2,x2,(tkL ps pu m),(tkN ps pu m),(tkL qs qu m),(tkN qs qu m)) ?_ ?_)
          ·
           exact hB.1.2.2.2 ⟨(sk ()).resolve_left h27,(tk ()).resolve_left h29⟩
          ·
           exact hB.2
    ·
     obtain⟨hG1,hG2⟩:=PD.done I13 (by omega) (by omega)
     have hfx:flushD ⟨o1,x1,y1⟩=pairD1 a b:=by rw[hG1];rfl
     have hfy:flushD ⟨o2,x2,y2⟩=pairD2 a b:=by rw[hG2];rfl
     have hcx:checkD (flushD ⟨o1,x1,y1⟩)=0:=by rw[hfx];exact c1
     have hcy:checkD (flushD ⟨o2,x2,y2⟩)=0:=by rw[hfy];exact c2
     have hdx:=I13.dx.fl.2
     have hdy:=I13.dy.fl.2
     refine .bp [.r [(0,X (Xc3 388 [(0,240),(1,256),(2,257)] (fc_dDone o1 x1 y1 (by omega) (by assumption) (by assumption)) X0))],.r [(0,X (Xc3 436 [(0,248),(1,258),(2,259)] (fc_dDone o2 x2 y2 (by omega) (by assumption) (by assumption)) X0))],.r [(4,Xv 1 (!false) X0),(5,X (Xk' false))]] (false||false) (fun h33=> ?_) (fun h33=> ?_)
     ·
      exfalso
      simp at h33
     ·
      have e1:((pairD1 a b):List DStep)=(flushD ⟨o1,x1,y1⟩):=by
       first|rw[hfx]|rw[hfy]
      have e2:((pairD2 a b):List DStep)=(flushD ⟨o2,x2,y2⟩):=by
       first|rw[hfx]|rw[hfy]
      exact .finE [.r [],.le (.fr 4 [(((flushD ⟨o1,x1,y1⟩).length):Nat)=(List.map dstepT (flushD ⟨o1,x1,y1⟩)).length] ⟨lm,trivial⟩),.le (.fr 5 [(((flushD ⟨o2,x2,y2⟩).length):Nat)=(List.map dstepT (flushD ⟨o2,x2,y2⟩)).length] ⟨lm,trivial⟩)] [] (fun((z0,z1):(List DStep)×(List DStep))=>(.tup [VL 4 dstepT z0,VL 4 dstepT z1,VI 0],[])) _ _ (pr e1 e2)
end Go.Ch
end
section
set_option linter.unusedVariables false
set_option linter.unusedSimpArgs false
set_option maxRecDepth 100000
set_option maxHeartbeats 4000000
open Go Go.Proofs Go.Ab
namespace Go.Ch
theorem fc_dKeep0(o:List DStep)(a:List Elem)(c:Int)(n:Int)(l:List Attr)(h0:n=0):FC Tryz.prog 176 [.ptr 0 0,VI n,VL 2 attrT l] (app emp [(0,.box [.row 1 o.length,.row 2 a.length,VI c]),(1,OR 4 dstepT o),(2,OR 3 elemT a)]) (.tup []) (app emp [(0,.box [.row 1 o.length,.row 2 a.length,VI c]),(1,OR 4 dstepT o),(2,OR 3 elemT a)]):=by
 refine .go Tryz.f176 ?_
 refine .len 2 (fun hl2=> ?_)
 refine .bp [.r []] (n==0) (fun h0=> ?_) (fun h0=> ?_)
 ·
  exact .fin [] [(0,0),(1,1),(2,2)]
 ·
  exfalso
  omega
theorem fc_dDoneE(o:List DStep)(a:List Elem)(c:Int)(ho:o.length≤100000000000)(hc:¬checkD (flushD ⟨o,a,c⟩)=0)(hd:DN 400000000000 (flushD ⟨o,a,c⟩)):FC Tryz.prog 178 [.ptr 0 0] (app emp [(0,.box [.row 1 o.length,.row 2 a.length,VI c]),(1,OR 4 dstepT o),(2,OR 3 elemT a)]) (.tup [VL 4 dstepT [],VI 3]) (app emp [(0,.box [.row 1 ((flushD ⟨o,a,c⟩).length),.row 3 0,VI 0]),(1,OR 4 dstepT (flushD ⟨o,a,c⟩)),(2,OF 3 elemT a),(3,OR 3 elemT [])]):=by
 refine .go Tryz.f178 ?_
 refine .bp [.r [],.r [(1,X (Xc3 27 [(0,0),(1,1),(2,2)] (fc_dFlush o a c (by omega)) X0))],.r [(4,X (Xc0 (fc_dCheck (flushD ⟨o,a,c⟩) (by assumption)) (rowC dstepT (flushD ⟨o,a,c⟩) X0)))]] ((checkD (flushD ⟨o,a,c⟩)) !=0) (fun h2=> ?_) (fun h2=> ?_)
 ·
  exact .fin [.r [],.le (.nL 2 4)] [(0,0),(1,1),(2,2),(27,3)]
 ·
  exfalso
  omega
theorem fc_dTidy(d:List DStep)(hd:DN 100000000000 d)(hl:d.length≤100000000)(he:elS d≤10000000000):FC Tryz.prog 120 [VL 4 dstepT d] (app emp []) (.tup [VL 4 dstepT (tidyL d),VI (tidyE d)]) (app emp []):=by
 refine .go Tryz.f120 ?_
 refine .len 0 (fun hl0=> ?_)
 have hd4:=hd.mono (n:=400000000000) (by decide)
 refine .loop (α:=Nat×Int×(List DStep)×(List Elem)) [.r [],.r [],.le (.nB 16 0 4),.le (.nB 16 1 3),.r [(1,X (Xl dstepT d))]] 50 (fun(i,y,o,x)=>([(4,.ptr 16 0),(8,VL 4 dstepT d),(9,VI (d.length:Int)),(10,VI (i:Int))],[(16,.box [.row 24 o.length,.row 25 x.length,VI y]),(24,OR 4 dstepT o),(25,OR 3 elemT x)])) (fun(i,y,o,x)=>i≤d.length∧tidyG ⟨[],[],0⟩ d=tidyG ⟨o,x,y⟩ (d.drop i)∧TB d i ⟨o,x,y⟩) (fun(i,y,o,x)=>d.length-i) (0,0,[],[]) ?_ ?_
 ·
  exact⟨by omega,rfl,TB.start d⟩
 rintro⟨i,y,o,x⟩ I3 ih3
 try dsimp only at I3
 have b1:=I3.2.2.out
 have b2:=I3.2.2.add
 have b3:=I3.2.2.cut
 simp only at b1 b2 b3
 refine .bp [.r []] (decide ((i:Int)< (d.length:Int))) (fun h3=> ?_) (fun h3=> ?_)
 ·
  obtain⟨e1,e2⟩:=elS_take (d:=d) (i:=i) (by omega)
  have hT:=tidyG_at (d:=d) (i:=i) (by omega) ⟨o,x,y⟩
  obtain⟨d1,d2,d3⟩:=hd4 _ (getD_mem' (l:=d) (k:=i) (by omega))
  obtain⟨f1,f2⟩:=I3.2.2.flush (by omega) (by omega) (by omega)
  refine .bp [.r [(0,X (Xi dstepT d (i:Int)))],.r [(1,X (Xc0 (fc_step ((d.getD i default))) X0))],.r [(5,Xv 1 ((((d.getD i default)).kind)==1) X0),(6,Xv 1 ((((d.getD i default)).kind)==1) (Xl elemT (((d.getD i default)).elems))),(7,Xv 1 ((((d.getD i default)).kind)==1) X0),(8,X (Xk ((((d.getD i default)).kind)==1))),(11,Xv 1 (((((d.getD i default)).kind)==1)&&(((((d.getD i default)).elems).length:Int)==0)) X0),(12,X (Xk (((((d.getD i default)).kind)==1)&&(((((d.getD i default)).elems).length:Int)==0)))),(15,Xv 1 (!((((((d.getD i default)).kind)==1)&&(((((d.getD i default)).elems).length:Int)==0))&&((stepD ((d.getD i default)))==11))) X0),(16,Xv 1 (!((((((d.getD i default)).kind)==1)&&(((((d.getD i default)).elems).length:Int)==0))&&((stepD ((d.getD i default)))==11))) X0),(17,Xv 1 (!((((((d.getD i default)).kind)==1)&&(((((d.getD i default)).elems).length:Int)==0))&&((stepD ((d.getD i default)))==11))) X0),(19,Xv 1 ((!((((((d.getD i default)).kind)==1)&&(((((d.getD i default)).elems).length:Int)==0))&&((stepD ((d.getD i default)))==11)))&&((((d.getD i default)).kind) !=1)) X0),(20,Xv 1 ((!((((((d.getD i default)).kind)==1)&&(((((d.getD i default)).elems).length:Int)==0))&&((stepD ((d.getD i default)))==11)))&&((((d.getD i default)).kind) !=1)) X0),(21,Xka (!((((((d.getD i default)).kind)==1)&&(((((d.getD i default)).elems).length:Int)==0))&&((stepD ((d.getD i default)))==11))) ((((d.getD i default)).kind) !=1)),(22,Xv 1 (!((((((d.getD i default)).kind)==1)&&(((((d.getD i default)).elems).length:Int)==0))&&((stepD ((d.getD i default)))==11))) X0),(24,Xv 1 ((!((((((d.getD i default)).kind)==1)&&(((((d.getD i default)).elems).length:Int)==0))&&((stepD ((d.getD i default)))==11)))&&(((((d.getD i default)).kind) !=1)&&((((d.getD i default)).n)==0))) X0),(25,Xka (!((((((d.getD i default)).kind)==1)&&(((((d.getD i default)).elems).length:Int)==0))&&((stepD ((d.getD i default)))==11))) (((((d.getD i default)).kind) !=1)&&((((d.getD i default)).n)==0))),(26,X (Xk' ((((((d.getD i default)).kind)==1)&&(((((d.getD i default)).elems).length:Int)==0))&&((stepD ((d.getD i default)))==11))))]] (((((((d.getD i default)).kind)==1)&&(((((d.getD i default)).elems).length:Int)==0))&&((stepD ((d.getD i default)))==11))|| ((((((d.getD i default)).kind) !=1)&&((((d.getD i default)).n)==0))&&((stepD ((d.getD i default)))==2))) (fun h6=> ?_) (fun h6=> ?_)
  ·
   have hL:lenE (d.getD i default)=(chkA true (((d.getD i default)).attrs) 0):=by unfold lenE;first|rw[if_pos (by omega)]|rw[if_neg (by omega)]
   refine .bp [.r [(2,X (Xc0 (fc_acheckChange (((d.getD i default)).attrs)) X0))],.r []] ((chkA true (((d.getD i default)).attrs) 0) !=0) (fun h8=> ?_) (fun h8=> ?_)
   ·
    have e1:((tidyL d):List DStep)=[]:=by
     unfold tidyL
     rw[I3.2.1,hT,if_pos (by rw[hL];exact h8)]
    have e2:((tidyE d):Int)=(chkA true (((d.getD i default)).attrs) 0):=by
     unfold tidyE
     rw[I3.2.1,hT,if_pos (by rw[hL];exact h8)]
     exact hL
    exact .finE [.r [],.le (.nL 2 4)] [] (fun((z0,z1):(List DStep)×Int)=>(.tup [VL 4 dstepT z0,VI z1],[])) _ _ (pr e1 e2)
   ·
    have hL0:lenE (d.getD i default)=0:=by rw[hL];omega
    rw[if_neg (by rw[hL0];decide)] at hT
    obtain⟨hk,hn1,hn2⟩:=lenE_ok hL0
    have hN:=I3.2.2.next (by omega) hd hL0
    clear h6
    refine .bp [.r [],.r []] ((((d.getD i default)).kind)==0) (fun h14=> ?_) (fun h14=> ?_)
    ·
     by_cases hn0:(d.getD i default).n=0
     ·
      refine .back [.r [(4,X (Xc3 442 [(0,16),(1,24),(2,25)] (fc_dKeep0 o x y (((d.getD i default)).n) (((d.getD i default)).attrs) (by assumption)) X0))],.r [(0,X (Xn ((i:Int)+1)))]] [(16,16),(24,24),(25,25)] (ih3 ((i+1),y,o,x) ?_ ?_)
      ·
       have hW:tdW ⟨o,x,y⟩ (d.getD i default)=⟨o,x,y⟩:=by unfold tdW;rw[if_pos h14,if_pos hn0]
       have hb:¬tdBad ⟨o,x,y⟩ (d.getD i default):=fun h=>h.1 h14
       have hN2:=hN hb
       rw[if_neg hb] at hT
       rw[hW] at hT hN2
       exact⟨by omega,I3.2.1.trans hT,hN2⟩
      ·
       ((try dsimp only);omega)
     ·
      refine .back [.r [(4,X (Xc3 442 [(0,16),(1,24),(2,25)] (fc_dKeep o x y (((d.getD i default)).n) (((d.getD i default)).attrs) (by omega) (by first|omega|simp) (by omega) (by first|assumption|exact kbd (by assumption))) X0))],.r [(0,X (Xn ((i:Int)+1)))]] [(16,16),(24,24),(442,25)] (ih3 ((i+1),0,(keepD (flushD ⟨o,x,y⟩) (((d.getD i default)).n) (((d.getD i default)).attrs)),[]) ?_ ?_)
      ·
       have hW:tdW ⟨o,x,y⟩ (d.getD i default)=⟨keepD (flushD ⟨o,x,y⟩) (d.getD i default).n (d.getD i default).attrs,[],0⟩:=by unfold tdW;rw[if_pos h14,if_neg hn0]
       have hb:¬tdBad ⟨o,x,y⟩ (d.getD i default):=fun h=>h.1 h14
       have hN2:=hN hb
       rw[if_neg hb] at hT
       rw[hW] at hT hN2
       exact⟨by omega,I3.2.1.trans hT,hN2⟩
      ·
       ((try dsimp only);omega)
    ·
     refine .bp [.r []] ((((d.getD i default)).kind)==1) (fun h16=> ?_) (fun h16=> ?_)
     ·
      have hz:True:=trivial
      refine .back [.r [(2,X (Xc3 442 [(0,16),(1,24),(2,25)] (fc_dElems o x y (((d.getD i default)).elems) (by assumption) (by omega)) X0))],.r [(0,X (Xn ((i:Int)+1)))]] [(16,16),(24,24),(25,25)] (ih3 ((i+1),y,o,(x++(((d.getD i default)).elems))) ?_ ?_)
      ·
       have hW:tdW ⟨o,x,y⟩ (d.getD i default)=⟨o,x++(d.getD i default).elems,y⟩:=by unfold tdW;rw[if_neg h14,if_pos h16]
       have hb:¬tdBad ⟨o,x,y⟩ (d.getD i default):=fun h=>h.2.1 h16
       have hN2:=hN hb
       rw[if_neg hb] at hT
       rw[hW] at hT hN2
       exact⟨by omega,I3.2.1.trans hT,hN2⟩
      ·
       ((try dsimp only);omega)
     ·
      refine .bp [.r [(4,X (Xn (y+(((d.getD i default)).n))))],.r []] (decide ((y+(((d.getD i default)).n))> 2147483647)) (fun h12=> ?_) (fun h12=> ?_)
      ·
       refine .at 506 [(16,16),(24,24),(25,25)] ([(4,.ptr 16 0),(8,VL 4 dstepT d),(9,VI (d.length:Int)),(10,VI (i:Int)),(59,VB (decide ((y+(((d.getD i default)).n))> 2147483647)))],[(16,.box [.row 24 o.length,.row 25 x.length,VI (y+(((d.getD i default)).n))]),(24,OR 4 dstepT o),(25,OR 3 elemT x)]) ?_
       have e3:((tidyL d):List DStep)=[]:=by
        unfold tidyL
        rw[I3.2.1,hT,if_pos ⟨h14,h16,by simp only;omega⟩]
       have e4:((tidyE d):Int)=3:=by
        unfold tidyE
        rw[I3.2.1,hT,if_pos ⟨h14,h16,by simp only;omega⟩]
       exact .finE [.r [],.le (.nL 2 4)] [] (fun((z0,z1):(List DStep)×Int)=>(.tup [VL 4 dstepT z0,VI z1],[])) _ _ (pr e3 e4)
      ·
       refine .at 506 [(16,16),(24,24),(25,25)] ([(4,.ptr 16 0),(8,VL 4 dstepT d),(9,VI (d.length:Int)),(10,VI (i:Int)),(59,VB (decide ((y+(((d.getD i default)).n))> 2147483647)))],[(16,.box [.row 24 o.length,.row 25 x.length,VI (y+(((d.getD i default)).n))]),(24,OR 4 dstepT o),(25,OR 3 elemT x)]) ?_
       refine .back [.r [(0,X (Xn ((i:Int)+1)))]] [(16,16),(24,24),(25,25)] (ih3 ((i+1),(y+(((d.getD i default)).n)),o,x) ?_ ?_)
       ·
        have hW:tdW ⟨o,x,y⟩ (d.getD i default)=⟨o,x,y+(d.getD i default).n⟩:=by unfold tdW;rw[if_neg h14,if_neg h16]
        have hb:¬tdBad ⟨o,x,y⟩ (d.getD i default):=fun h=>by have:=h.2.2;simp only at this;omega
        have hN2:=hN hb
        rw[if_neg hb] at hT
        rw[hW] at hT hN2
        exact⟨by omega,I3.2.1.trans hT,hN2⟩
       ·
        ((try dsimp only);omega)
  ·
   have hL:lenE (d.getD i default)=(stepD ((d.getD i default))):=by unfold lenE;first|rw[if_pos (by omega)]|rw[if_neg (by omega)]
   refine .bp [.r []] ((stepD ((d.getD i default))) !=0) (fun h8=> ?_) (fun h8=> ?_)
   ·
    have e5:((tidyL d):List DStep)=[]:=by
     unfold tidyL
     rw[I3.2.1,hT,if_pos (by rw[hL];exact h8)]
    have e6:((tidyE d):Int)=(stepD ((d.getD i default))):=by
     unfold tidyE
     rw[I3.2.1,hT,if_pos (by rw[hL];exact h8)]
     exact hL
    exact .finE [.r [],.le (.nL 2 4)] [] (fun((z0,z1):(List DStep)×Int)=>(.tup [VL 4 dstepT z0,VI z1],[])) _ _ (pr e5 e6)
   ·
    have hL0:lenE (d.getD i default)=0:=by rw[hL];omega
    rw[if_neg (by rw[hL0];decide)] at hT
    obtain⟨hk,hn1,hn2⟩:=lenE_ok hL0
    have hN:=I3.2.2.next (by omega) hd hL0
    clear h6
    refine .bp [.r [],.r []] ((((d.getD i default)).kind)==0) (fun h14=> ?_) (fun h14=> ?_)
    ·
     by_cases hn0:(d.getD i default).n=0
     ·
      refine .back [.r [(4,X (Xc3 410 [(0,16),(1,24),(2,25)] (fc_dKeep0 o x y (((d.getD i default)).n) (((d.getD i default)).attrs) (by assumption)) X0))],.r [(0,X (Xn ((i:Int)+1)))]] [(16,16),(24,24),(25,25)] (ih3 ((i+1),y,o,x) ?_ ?_)
      ·
       have hW:tdW ⟨o,x,y⟩ (d.getD i default)=⟨o,x,y⟩:=by unfold tdW;rw[if_pos h14,if_pos hn0]
       have hb:¬tdBad ⟨o,x,y⟩ (d.getD i default):=fun h=>h.1 h14
       have hN2:=hN hb
       rw[if_neg hb] at hT
       rw[hW] at hT hN2
       exact⟨by omega,I3.2.1.trans hT,hN2⟩
      ·
       ((try dsimp only);omega)
     ·
      refine .back [.r [(4,X (Xc3 410 [(0,16),(1,24),(2,25)] (fc_dKeep o x y (((d.getD i default)).n) (((d.getD i default)).attrs) (by omega) (by first|omega|simp) (by omega) (by first|assumption|exact kbd (by assumption))) X0))],.r [(0,X (Xn ((i:Int)+1)))]] [(16,16),(24,24),(410,25)] (ih3 ((i+1),0,(keepD (flushD ⟨o,x,y⟩) (((d.getD i default)).n) (((d.getD i default)).attrs)),[]) ?_ ?_)
      ·
       have hW:tdW ⟨o,x,y⟩ (d.getD i default)=⟨keepD (flushD ⟨o,x,y⟩) (d.getD i default).n (d.getD i default).attrs,[],0⟩:=by unfold tdW;rw[if_pos h14,if_neg hn0]
       have hb:¬tdBad ⟨o,x,y⟩ (d.getD i default):=fun h=>h.1 h14
       have hN2:=hN hb
       rw[if_neg hb] at hT
       rw[hW] at hT hN2
       exact⟨by omega,I3.2.1.trans hT,hN2⟩
      ·
       ((try dsimp only);omega)
    ·
     refine .bp [.r []] ((((d.getD i default)).kind)==1) (fun h16=> ?_) (fun h16=> ?_)
     ·
      have hz:True:=trivial
      refine .back [.r [(2,X (Xc3 410 [(0,16),(1,24),(2,25)] (fc_dElems o x y (((d.getD i default)).elems) (by assumption) (by omega)) X0))],.r [(0,X (Xn ((i:Int)+1)))]] [(16,16),(24,24),(25,25)] (ih3 ((i+1),y,o,(x++(((d.getD i default)).elems))) ?_ ?_)
      ·
       have hW:tdW ⟨o,x,y⟩ (d.getD i default)=⟨o,x++(d.getD i default).elems,y⟩:=by unfold tdW;rw[if_neg h14,if_pos h16]
       have hb:¬tdBad ⟨o,x,y⟩ (d.getD i default):=fun h=>h.2.1 h16
       have hN2:=hN hb
       rw[if_neg hb] at hT
       rw[hW] at hT hN2
       exact⟨by omega,I3.2.1.trans hT,hN2⟩
      ·
       ((try dsimp only);omega)
     ·
      refine .bp [.r [(4,X (Xn (y+(((d.getD i default)).n))))],.r []] (decide ((y+(((d.getD i default)).n))> 2147483647)) (fun h12=> ?_) (fun h12=> ?_)
      ·
       refine .at 474 [(16,16),(24,24),(25,25)] ([(4,.ptr 16 0),(8,VL 4 dstepT d),(9,VI (d.length:Int)),(10,VI (i:Int)),(59,VB (decide ((y+(((d.getD i default)).n))> 2147483647)))],[(16,.box [.row 24 o.length,.row 25 x.length,VI (y+(((d.getD i default)).n))]),(24,OR 4 dstepT o),(25,OR 3 elemT x)]) ?_
       have e7:((tidyL d):List DStep)=[]:=by
        unfold tidyL
        rw[I3.2.1,hT,if_pos ⟨h14,h16,by simp only;omega⟩]
       have e8:((tidyE d):Int)=3:=by
        unfold tidyE
        rw[I3.2.1,hT,if_pos ⟨h14,h16,by simp only;omega⟩]
       exact .finE [.r [],.le (.nL 2 4)] [] (fun((z0,z1):(List DStep)×Int)=>(.tup [VL 4 dstepT z0,VI z1],[])) _ _ (pr e7 e8)
      ·
       refine .at 474 [(16,16),(24,24),(25,25)] ([(4,.ptr 16 0),(8,VL 4 dstepT d),(9,VI (d.length:Int)),(10,VI (i:Int)),(59,VB (decide ((y+(((d.getD i default)).n))> 2147483647)))],[(16,.box [.row 24 o.length,.row 25 x.length,VI (y+(((d.getD i default)).n))]),(24,OR 4 dstepT o),(25,OR 3 elemT x)]) ?_
       refine .back [.r [(0,X (Xn ((i:Int)+1)))]] [(16,16),(24,24),(25,25)] (ih3 ((i+1),(y+(((d.getD i default)).n)),o,x) ?_ ?_)
       ·
        have hW:tdW ⟨o,x,y⟩ (d.getD i default)=⟨o,x,y+(d.getD i default).n⟩:=by unfold tdW;rw[if_neg h14,if_neg h16]
        have hb:¬tdBad ⟨o,x,y⟩ (d.getD i default):=fun h=>by have:=h.2.2;simp only at this;omega
        have hN2:=hN hb
        rw[if_neg hb] at hT
        rw[hW] at hT hN2
        exact⟨by omega,I3.2.1.trans hT,hN2⟩
       ·
        ((try dsimp only);omega)
 ·
  by_cases hck:checkD (flushD ⟨o,x,y⟩)=0
  ·
   have hTe:=tidyG_end (d:=d) (i:=i) (by omega) ⟨o,x,y⟩
   obtain⟨f1,f2⟩:=I3.2.2.flush (by omega) (by omega) (by rw[List.take_of_length_le (by omega)];omega)
   have e9:((tidyL d):List DStep)=(flushD ⟨o,x,y⟩):=by
    unfold tidyL
    rw[I3.2.1,hTe,if_pos hck]
   have e10:((tidyE d):Int)=0:=by
    unfold tidyE
    rw[I3.2.1,hTe,if_pos hck]
   exact .finE [.r [(0,X (Xc3 58 [(0,16),(1,24),(2,25)] (fc_dDone o x y (by omega) (by assumption) (by assumption)) X0))],.le (.fr 2 [(((flushD ⟨o,x,y⟩).length):Nat)=(List.map dstepT (flushD ⟨o,x,y⟩)).length] ⟨lm,trivial⟩)] [] (fun((z0,z1):(List DStep)×Int)=>(.tup [VL 4 dstepT z0,VI z1],[])) _ _ (pr e9 e10)
  ·
   have hTe:=tidyG_end (d:=d) (i:=i) (by omega) ⟨o,x,y⟩
   obtain⟨f1,f2⟩:=I3.2.2.flush (by omega) (by omega) (by rw[List.take_of_length_le (by omega)];omega)
   have e11:((tidyL d):List DStep)=[]:=by
    unfold tidyL
    rw[I3.2.1,hTe,if_neg hck]
   have e12:((tidyE d):Int)=3:=by
    unfold tidyE
    rw[I3.2.1,hTe,if_neg hck]
   exact .finE [.r [(0,X (Xc3 58 [(0,16),(1,24),(2,25)] (fc_dDoneE o x y (by omega) (by assumption) (by assumption)) X0))]] [] (fun((z0,z1):(List DStep)×Int)=>(.tup [VL 4 dstepT z0,VI z1],[])) _ _ (pr e11 e12)
end Go.Ch
end
section
set_option linter.unusedVariables false
set_option linter.unusedSimpArgs false
set_option maxRecDepth 100000
set_option maxHeartbeats 4000000
open Go Go.Proofs Go.Ab
namespace Go.Ch
theorem fc_hidden(x:Elem)(mode:Int):FC Tryz.prog 169 [.t (elemT x),VI mode] (app emp []) (VB (hidX x mode)) (app emp []):=by
 refine .go Tryz.f169 ?_
 have e1:((hidX x mode):Bool)=((seq (getA x.attrs ({data:=#[104,105,100,100,101,110]}) 0) ({data:=#[111,110]})|| ((mode==0)&& !(seq (getA x.attrs ({data:=#[99,117,116]}) 0) ({data:=#[]}))))|| ((mode==1)&& !(seq (getA x.attrs ({data:=#[97,100,100]}) 0) ({data:=#[]})))):=by
  rfl
 exact .finE [.r [],.r [(2,X (Xc0 (fc_get x.attrs ({data:=#[104,105,100,100,101,110]})) X0)),(6,Xv 1 (!(seq (getA x.attrs ({data:=#[104,105,100,100,101,110]}) 0) ({data:=#[111,110]}))) X0),(7,Xv 1 (!(seq (getA x.attrs ({data:=#[104,105,100,100,101,110]}) 0) ({data:=#[111,110]}))) X0),(9,Xv 1 ((!(seq (getA x.attrs ({data:=#[104,105,100,100,101,110]}) 0) ({data:=#[111,110]})))&&(mode==0)) X0),(10,Xv 1 ((!(seq (getA x.attrs ({data:=#[104,105,100,100,101,110]}) 0) ({data:=#[111,110]})))&&(mode==0)) (Xc0 (fc_get x.attrs ({data:=#[99,117,116]})) X0)),(11,Xv 1 ((!(seq (getA x.attrs ({data:=#[104,105,100,100,101,110]}) 0) ({data:=#[111,110]})))&&(mode==0)) X0),(12,Xka (!(seq (getA x.attrs ({data:=#[104,105,100,100,101,110]}) 0) ({data:=#[111,110]}))) (mode==0)),(13,X (Xk' (seq (getA x.attrs ({data:=#[104,105,100,100,101,110]}) 0) ({data:=#[111,110]})))),(16,Xv 1 (!(seq (getA x.attrs ({data:=#[104,105,100,100,101,110]}) 0) ({data:=#[111,110]})|| ((mode==0)&& !(seq (getA x.attrs ({data:=#[99,117,116]}) 0) ({data:=#[]}))))) X0),(17,Xv 1 (!(seq (getA x.attrs ({data:=#[104,105,100,100,101,110]}) 0) ({data:=#[111,110]})|| ((mode==0)&& !(seq (getA x.attrs ({data:=#[99,117,116]}) 0) ({data:=#[]}))))) X0),(19,Xv 1 ((!(seq (getA x.attrs ({data:=#[104,105,100,100,101,110]}) 0) ({data:=#[111,110]})|| ((mode==0)&& !(seq (getA x.attrs ({data:=#[99,117,116]}) 0) ({data:=#[]})))))&&(mode==1)) X0),(20,Xv 1 ((!(seq (getA x.attrs ({data:=#[104,105,100,100,101,110]}) 0) ({data:=#[111,110]})|| ((mode==0)&& !(seq (getA x.attrs ({data:=#[99,117,116]}) 0) ({data:=#[]})))))&&(mode==1)) (Xc0 (fc_get x.attrs ({data:=#[97,100,100]})) X0)),(21,Xv 1 ((!(seq (getA x.attrs ({data:=#[104,105,100,100,101,110]}) 0) ({data:=#[111,110]})|| ((mode==0)&& !(seq (getA x.attrs ({data:=#[99,117,116]}) 0) ({data:=#[]})))))&&(mode==1)) X0),(22,Xka (!(seq (getA x.attrs ({data:=#[104,105,100,100,101,110]}) 0) ({data:=#[111,110]})|| ((mode==0)&& !(seq (getA x.attrs ({data:=#[99,117,116]}) 0) ({data:=#[]}))))) (mode==1)),(23,X (Xk' (seq (getA x.attrs ({data:=#[104,105,100,100,101,110]}) 0) ({data:=#[111,110]})|| ((mode==0)&& !(seq (getA x.attrs ({data:=#[99,117,116]}) 0) ({data:=#[]}))))))]] [] (fun z0:Bool=>(VB z0,[])) _ _ e1
theorem fc_places(f:List Elem)(mode:Int)(hn:f.length≤100000000000):FC Tryz.prog 106 [VL 3 elemT f,VI mode] (app emp []) (VL 1 intT (plcL f mode f.length)) (app emp []):=by
 refine .go Tryz.f106 ?_
 refine .len 0 (fun hl0=> ?_)
 refine .loop (α:=Nat×(List Int)) [.r [],.r [],.r [(1,X (Xl elemT f))],.le (.nR 5 1)] 41 (fun(i,o)=>([(0,VL 3 elemT f),(1,VI mode),(5,.row 40 o.length),(8,VL 3 elemT f),(9,VI (f.length:Int)),(10,VI (i:Int))],[(40,OR 1 intT o)])) (fun(i,o)=>i≤f.length∧o=plcL f mode i) (fun(i,o)=>f.length-i) (0,[]) ?_ ?_
 ·
  exact⟨by omega,rfl⟩
 rintro⟨i,o⟩ I3 ih3
 try dsimp only at I3
 have ol:o.length≤i:=by rw[I3.2];exact plcL_len f mode i
 refine .bp [.r []] (decide ((i:Int)< (f.length:Int))) (fun h3=> ?_) (fun h3=> ?_)
 ·
  refine .bp [.r [(1,X (Xi elemT f (i:Int)))],.r [(2,X (Xc0 (fc_hidden ((f.getD i default)) mode) X0)),(7,Xv 1 (!(!(hidX ((f.getD i default)) mode))) (Xl elemT f)),(8,Xv 1 (!(!(hidX ((f.getD i default)) mode))) (Xn ((f.length:Int)- 1))),(9,Xv 2 (!(!(hidX ((f.getD i default)) mode))) X0),(10,Xv 1 (!(!(hidX ((f.getD i default)) mode))) X0),(12,Xv 1 ((!(!(hidX ((f.getD i default)) mode)))&&((i:Int)==((f.length:Int)- 1))) X0),(13,Xv 1 ((!(!(hidX ((f.getD i default)) mode)))&&((i:Int)==((f.length:Int)- 1))) X0),(14,Xka (!(!(hidX ((f.getD i default)) mode))) ((i:Int)==((f.length:Int)- 1))),(15,X (Xk' (!(hidX ((f.getD i default)) mode))))]] (!(hidX ((f.getD i default)) mode)|| (((i:Int)==((f.length:Int)- 1))&&((((f.getD i default)).char)==10))) (fun h5=> ?_) (fun h5=> ?_)
  ·
   refine .back [.r [(3,X (rowC intT [(i:Int)] (Xap 1 intT 40 o [(i:Int)])))],.r [(0,X (Xn ((i:Int)+1)))]] [(40,40)] (ih3 ((i+1),(o++[(i:Int)])) ?_ ?_)
   ·
    refine⟨by omega,?_⟩
    rw[I3.2,plcL_succ]
    first|rw[if_pos (vis_yes h5)]|rw[if_neg (by rw[vis_no h5];decide),List.append_nil]
   ·
    ((try dsimp only);omega)
  ·
   refine .back [.r [(0,X (Xn ((i:Int)+1)))]] [(40,40)] (ih3 ((i+1),o) ?_ ?_)
   ·
    refine⟨by omega,?_⟩
    rw[I3.2,plcL_succ]
    first|rw[if_pos (vis_yes h5)]|rw[if_neg (by rw[vis_no h5];decide),List.append_nil]
   ·
    ((try dsimp only);omega)
 ·
  have e1:((plcL f mode f.length):List Int)=o:=by
   rw[I3.2,show i=f.length by omega]
  exact .finE [.r [],.le (.fr 4 [(o.length:Nat)=(List.map intT o).length] ⟨lm,trivial⟩)] [] (fun z0:List Int=>(VL 1 intT z0,[])) _ _ e1
theorem fc_gapT(pl:List Int)(k:Int)(hk:0≤k∧k≤pl.length)(hp:∀x∈pl,0≤x∧x≤1000000000):FC Tryz.prog 115 [VL 1 intT pl,VI k] (app emp []) (VI (gapP pl k)) (app emp []):=by
 refine .go Tryz.f115 ?_
 refine .len 0 (fun hl0=> ?_)
 refine .bp [.r [],.r []] (k==0) (fun h1=> ?_) (fun h1=> ?_)
 ·
  have e1:((gapP pl k):Int)=0:=by
   unfold gapP;rw[if_pos (by omega)]
  exact .finE [.r []] [] (fun z0:Int=>(VI z0,[])) _ _ e1
 ·
  have hx:=hp _ (getDX_mem (l:=pl) (i:=(k- 1).toNat) (by omega))
  have e2:((gapP pl k):Int)=((pl.getD (Int.toNat (k- 1)) default)+1):=by
   unfold gapP;rw[if_neg (by omega)]
  exact .finE [.r [(2,X (Xn (k- 1))),(3,X (Xi intT pl (k- 1))),(5,X (Xn ((pl.getD (Int.toNat (k- 1)) default)+1)))]] [] (fun z0:Int=>(VI z0,[])) _ _ e2
theorem fc_erased(f:List Elem)(pl:List Int)(au:ByteArray)(hf:f.length≤10000000)(hp:∀x∈pl,0≤x∧x< (f.length:Int)):FC Tryz.prog 114 [VL 3 elemT f,VL 1 intT pl,VS au] (app emp []) (VL 4 dstepT (ersD f pl au)) (app emp []):=by
 refine .go Tryz.f114 ?_
 refine .len 0 (fun hl0=> ?_)
 refine .len 1 (fun hl1=> ?_)
 obtain⟨dn,el⟩:=ersS_dn f pl au f.length
 have sl:=ersS_len f pl au f.length
 refine .loop (α:=Nat×(List Bool)) [.r [],.r [(1,X (Xl elemT f)),(2,X (Xmk 1 boolT 24 (f.length:Int) (f.length:Int) false))],.r [(1,X (Xl intT pl))]] 64 (fun(k,m)=>([(0,VL 3 elemT f),(2,VS au),(7,.row 24 f.length),(19,VL 1 intT pl),(20,VI (pl.length:Int)),(21,VI (k:Int))],[(24,OR 1 boolT m)])) (fun(k,m)=>k≤pl.length∧m=markB (pl.take k) f.length) (fun(k,m)=>pl.length-k) (0,(List.replicate f.length false)) ?_ ?_
 ·
  exact⟨by omega,by rw[List.take_zero,markB_nil]⟩
 rintro⟨k,m⟩ I3 ih3
 try dsimp only at I3
 have ol:m.length=f.length:=by rw[I3.2,markB_len]
 refine .bp [.r []] (decide ((k:Int)< (pl.length:Int))) (fun h3=> ?_) (fun h3=> ?_)
 ·
  have hpk:=hp _ (getDX_mem (l:=pl) (i:=k) (by omega))
  refine .back [.r [(0,X (Xi intT pl (k:Int)))],.r [(2,X (Xpn f.length boolT m (pl.getD k default))),(3,X (Xsn f.length 1 boolT 24 m (Int.toNat (pl.getD k default)) true))],.r [(0,X (Xn ((k:Int)+1)))]] [(24,24)] (ih3 ((k+1),(m.set (Int.toNat (pl.getD k default)) true)) ?_ ?_)
  ·
   exact⟨by omega,by rw[I3.2];exact markB_succ (by omega) hpk⟩
  ·
   ((try dsimp only);omega)
 ·
  have hm:m=markB pl f.length:=by rw[I3.2,List.take_of_length_le (by omega)]
  refine .loop (α:=Nat×(List DStep)) [.r [],.r [(1,X (Xl elemT f))],.le (.nR 10 4)] 105 (fun(i,o)=>([(2,VS au),(7,.row 24 f.length),(10,.row 104 o.length),(29,VL 3 elemT f),(30,VI (f.length:Int)),(31,VI (i:Int))],[(24,OR 1 boolT m),(104,OR 4 dstepT o)])) (fun(i,o)=>i≤f.length∧o=ersS f pl au i) (fun(i,o)=>f.length-i) (0,[]) ?_ ?_
  ·
   exact⟨by omega,rfl⟩
  rintro⟨i,o⟩ I9 ih9
  try dsimp only at I9
  have ol2:o.length=i:=by rw[I9.2];exact ersS_len f pl au i
  refine .bp [.r []] (decide ((i:Int)< (f.length:Int))) (fun h9=> ?_) (fun h9=> ?_)
  ·
   have hmi:m.getD i default=pl.any (fun p=>p==(i:Int)):=by rw[hm];exact markB_at (by omega)
   refine .bp [.r [(1,X (Xi elemT f (i:Int)))],.r [(0,X (Xf [(2,2),(3,3)]))],.r [(2,X (Xpn f.length boolT m (i:Int))),(3,X (Xen f.length boolT m i))]] (!(m.getD i default)) (fun h13=> ?_) (fun h13=> ?_)
   ·
    refine .back [.r [(3,X (rowC dstepT [({kind:=0,n:=1,attrs:=[],elems:=[]}:DStep)] (Xap 4 dstepT 104 o [({kind:=0,n:=1,attrs:=[],elems:=[]}:DStep)])))],.r [(0,X (Xn ((i:Int)+1)))]] [(24,24),(104,104)] (ih9 ((i+1),(o++[({kind:=0,n:=1,attrs:=[],elems:=[]}:DStep)])) ?_ ?_)
    ·
     refine⟨by omega,?_⟩
     rw[I9.2,ersS_succ,ers_0 (hmi.symm.trans h13)]
    ·
     ((try dsimp only);omega)
   ·
    refine .bp [.r [(4,Xv 1 (!(seq au ({data:=#[]}))) X0),(5,Xv 1 (!(seq au ({data:=#[]}))) (Xc0 (fc_get (((f.getD i default)).attrs) ({data:=#[97,100,100]})) X0)),(7,Xv 2 (!(seq au ({data:=#[]}))) X0),(8,X (Xk' (seq au ({data:=#[]}))))]] (seq au ({data:=#[]})||seq (getA (((f.getD i default)).attrs) ({data:=#[97,100,100]}) 0) au) (fun h14=> ?_) (fun h14=> ?_)
    ·
     refine .back [.r [],.r [(3,X (rowC dstepT [({kind:=2,n:=1,attrs:=[],elems:=[]}:DStep)] (Xap 4 dstepT 104 o [({kind:=2,n:=1,attrs:=[],elems:=[]}:DStep)])))],.r [(0,X (Xn ((i:Int)+1)))]] [(24,24),(104,104)] (ih9 ((i+1),(o++[({kind:=2,n:=1,attrs:=[],elems:=[]}:DStep)])) ?_ ?_)
     ·
      refine⟨by omega,?_⟩
      rw[I9.2,ersS_succ,ers_c (hmi.symm.trans h13) h14]
     ·
      ((try dsimp only);omega)
    ·
     refine .back [.r [],.r [(2,X (rowC attrT [({name:={data:=#[99,117,116]},val:=au}:Attr)] X0)),(3,X (rowC dstepT [({kind:=0,n:=1,attrs:=[({name:={data:=#[99,117,116]},val:=au}:Attr)],elems:=[]}:DStep)] (Xap 4 dstepT 104 o [({kind:=0,n:=1,attrs:=[({name:={data:=#[99,117,116]},val:=au}:Attr)],elems:=[]}:DStep)])))],.r [(0,X (Xn ((i:Int)+1)))]] [(24,24),(104,104)] (ih9 ((i+1),(o++[({kind:=0,n:=1,attrs:=[({name:={data:=#[99,117,116]},val:=au}:Attr)],elems:=[]}:DStep)])) ?_ ?_)
     ·
      refine⟨by omega,?_⟩
      rw[I9.2,ersS_succ,ers_k (hmi.symm.trans h13) h14]
     ·
      ((try dsimp only);omega)
  ·
   have ho:o=ersS f pl au f.length:=by rw[I9.2,show i=f.length by omega]
   rw[←ho] at dn el sl
   have e1:((ersD f pl au):List DStep)=(tidyL o):=by
    rw[ho];rfl
   exact .finE [.r [(1,X (Xc1 121 (fc_dTidy o (by assumption) (by omega) (by omega)) (rowC dstepT o X0)))],.r []] [] (fun z0:List DStep=>(VL 4 dstepT z0,[])) _ _ e1
theorem fc_copyR(l:List Elem)(hn:l.length≤1048576)(hs:∀x∈l,x.attrs.length≤1048576):FC Tryz.prog 87 [VL 3 elemT l] (app emp []) (.row 0 l.length) (app emp [(0,OR 3 elemT l)]):=by
 refine .go Tryz.f87 ?_
 refine .len 0 (fun hl0=> ?_)
 refine .loop (α:=Nat×(List Elem)) [.r [],.r [(1,X (Xl elemT l)),(2,X (Xmz 3 elemT 24 (l.length:Int) (l.length:Int) ({char:=0,ref:=0,attrs:=[]}:Elem) [TI 0,TI 0,TN] ⟨.inl rfl,⟨.inl rfl,⟨tw_nil (by decide),trivial⟩⟩⟩))],.r [(1,X (Xl elemT l))]] 64 (fun(i,o)=>([(3,.row 24 l.length),(9,VL 3 elemT l),(10,VI (l.length:Int)),(11,VI (i:Int))],[(24,OR 3 elemT o)])) (fun(i,o)=>i≤l.length∧o=l.take i++List.replicate (l.length-i) ({char:=0,ref:=0,attrs:=[]}:Elem)) (fun(i,o)=>l.length-i) (0,(List.replicate l.length ({char:=0,ref:=0,attrs:=[]}:Elem))) ?_ ?_
 ·
  exact⟨by omega,by simp⟩
 rintro⟨i,o⟩ I3 ih3
 try dsimp only at I3
 have ol:o.length=l.length:=by rw[I3.2];simp;omega
 refine .bp [.r []] (decide ((i:Int)< (l.length:Int))) (fun h3=> ?_) (fun h3=> ?_)
 ·
  have hx:=hs _ (getDE_mem (l:=l) (k:=i) (by omega))
  refine .back [.r [(1,X (Xi elemT l (i:Int)))],.r [(8,X (Xan attrT 184 (((l.getD i default)).attrs))),(10,X (Xpn l.length elemT o (i:Int))),(11,X (rowC attrT (((l.getD i default)).attrs) (Xsn l.length 3 elemT 24 o i ((l.getD i default)) [(184,OF 2 attrT (((l.getD i default)).attrs))])))],.r [(0,X (Xn ((i:Int)+1)))]] [(24,24)] (ih3 ((i+1),(o.set i ((l.getD i default)))) ?_ ?_)
  ·
   refine⟨by omega,?_⟩
   rw[I3.2]
   exact set_fillF rfl (by omega) rfl
  ·
   ((try dsimp only);omega)
 ·
  have e1:(l:List Elem)=o:=by
   first|omega| (rw[I3.2,List.take_of_length_le (by omega),show l.length-i=0 by omega];simp)
  exact .finE [.r []] [(24,0)] (fun z0:List Elem=>(.row 0 l.length,[(0,OR 3 elemT z0)])) _ _ e1
theorem fc_typed(f:List Elem)(k:Int)(es:List Elem)(au:ByteArray)(hf:f.length≤10000000)(hk:0≤k∧k≤f.length)(he:es.length≤1048576)(ha:∀x∈es,x.attrs.length≤1048576):FC Tryz.prog 116 [VL 3 elemT f,VI k,VL 3 elemT es,VS au] (app emp []) (VL 4 dstepT (typD f.length k es au)) (app emp []):=by
 refine .go Tryz.f116 ?_
 refine .len 0 (fun hl0=> ?_)
 refine .len 2 (fun hl2=> ?_)
 obtain⟨dn,el⟩:=typS_dn f.length k es au he ha
 refine .loop (α:=Nat×(List Elem)) [.r [],.r [(1,X (Xc1 16 (fc_copyR es (by assumption) (by assumption)) X0))],.r []] 56 (fun(i,o)=>([(0,VL 3 elemT f),(1,VI k),(3,VS au),(9,.row 16 ((es).length)),(16,VI ((es).length:Int)),(17,VI (i:Int))],[(16,OR 3 elemT o)])) (fun(i,o)=>i≤es.length∧o=(es.take i).map (typE au)++es.drop i) (fun(i,o)=>es.length-i) (0,es) ?_ ?_
 ·
  exact⟨by omega,by simp⟩
 rintro⟨i,o⟩ I3 ih3
 try dsimp only at I3
 have ol:o.length=es.length:=by rw[I3.2];simp;omega
 refine .bp [.r []] (decide ((i:Int)< ((es).length:Int))) (fun h3=> ?_) (fun h3=> ?_)
 ·
  have hxa:=ha _ (getDX_mem (l:=es) (i:=i) (by omega))
  have hog:o.getD i default=es.getD i default:=by rw[I3.2];exact mapt_at (by omega)
  rw[←hog] at hxa
  refine .back [.r [],.r [(4,X (Xpn ((es).length) elemT o (i:Int))),(6,X (Xen ((es).length) elemT o i)),(11,X (Xc1 168 (fc_raw (((o.getD i default)).attrs) [({name:={data:=#[97,100,100]},val:=au}:Attr),({name:={data:=#[99,117,116]},val:={data:=#[]}}:Attr)] (by simp only[List.length_cons,List.length_nil];omega)) (rowC attrT [({name:={data:=#[97,100,100]},val:=au}:Attr),({name:={data:=#[99,117,116]},val:={data:=#[]}}:Attr)] X0))),(12,X (Xpn ((es).length) elemT o (i:Int))),(14,X (Xsn ((es).length) 3 elemT 16 o i ({char:=((o.getD i default)).char,ref:=((o.getD i default)).ref,attrs:=(fm rawG (((o.getD i default)).attrs) [({name:={data:=#[97,100,100]},val:=au}:Attr),({name:={data:=#[99,117,116]},val:={data:=#[]}}:Attr)])}:Elem)))],.r [(0,X (Xn ((i:Int)+1)))]] [(16,16)] (ih3 ((i+1),(o.set i ({char:=((o.getD i default)).char,ref:=((o.getD i default)).ref,attrs:=(fm rawG (((o.getD i default)).attrs) [({name:={data:=#[97,100,100]},val:=au}:Attr),({name:={data:=#[99,117,116]},val:={data:=#[]}}:Attr)])}:Elem))) ?_ ?_)
  ·
   refine⟨by omega,?_⟩
   rw[hog,I3.2];exact mapt_succ (by omega)
  ·
   ((try dsimp only);omega)
 ·
  have ho:o=es.map (typE au):=by rw[I3.2,List.take_of_length_le (by omega),List.drop_eq_nil_of_le (by omega),List.append_nil]
  obtain⟨dn2,l2,e2⟩:=typS_o ho dn el
  have e1:((typD f.length k es au):List DStep)=(tidyL [({kind:=0,n:=k,attrs:=[],elems:=[]}:DStep),({kind:=1,n:=0,attrs:=[],elems:=o}:DStep),({kind:=0,n:=((f.length:Int)- k),attrs:=[],elems:=[]}:DStep)]):=by
   rw[ho];rfl
  exact .finE [.r [(1,X (Xf [(2,2),(3,3)])),(3,X (Xf [(2,2)])),(5,X (Xl elemT f)),(7,X (Xn ((f.length:Int)- k))),(8,X (Xf [(2,2),(3,3)])),(9,X (rowX ((es).length) elemT o X0)),(10,X (Xc1 144 (fc_dTidy [({kind:=0,n:=k,attrs:=[],elems:=[]}:DStep),({kind:=1,n:=0,attrs:=[],elems:=o}:DStep),({kind:=0,n:=((f.length:Int)- k),attrs:=[],elems:=[]}:DStep)] dn2 l2 e2) (rowC dstepT [({kind:=0,n:=k,attrs:=[],elems:=[]}:DStep),({kind:=1,n:=0,attrs:=[],elems:=o}:DStep),({kind:=0,n:=((f.length:Int)- k),attrs:=[],elems:=[]}:DStep)] X0)))],.r []] [] (fun z0:List DStep=>(VL 4 dstepT z0,[])) _ _ e1
end Go.Ch
end
section
set_option linter.unusedVariables false
set_option linter.unusedSimpArgs false
set_option maxRecDepth 100000
set_option maxHeartbeats 4000000
open Go Go.Proofs Go.Ab
namespace Go.Ch
theorem fc_at(d:Doc)(s:Sel)(au:ByteArray)(hb:DocL d):FC Tryz.prog 58 [.t (docT d),.t (selT s),VS au] (app emp []) (.tup [.t (plT (atP d s au)),VI (atE d s au)]) (app emp []):=by
 refine .go Tryz.f58 ?_
 have hdb:=hb.toDocB
 have hl:=hb.len
 refine .bp [.r [],.r [(1,X (Xc0 (fc_docCk d (by assumption)) X0))],.r []] ((docE d) !=0) (fun h2=> ?_) (fun h2=> ?_)
 ·
  have T:=at_1 (s:=s) (au:=au) h2
  have e1:((atP d s au):Pl)=({node:=({id:=0,kind:=0,attrs:=[],flow:=[],grid:=({rows:=0,cols:=0,cells:=[],merges:=[]}:Grid),draw:=[]}:Node),shown:=[],author:={data:=#[]}}:Pl):=by
   exact T.1
  have e2:((atE d s au):Int)=(docE d):=by
   exact T.2
  exact .finVE [.r [(0,X (Xf [(2,2),(3,3),(6,5),(7,4),(8,8),(9,1)]))]] [] [] (fun((z0,z1):Pl×Int)=>(.tup [.t (plT z0),VI z1],[])) _ _ (pr e1 e2)
 ·
  have hs:=sort_doc (d:=d) (by omega)
  refine .bp [.r [(3,X (Xc0 (fc_index d s.nd (by assumption) (by assumption)) X0))],.r []] (decide ((ixN (d).nodes s.nd)< 0)) (fun h5=> ?_) (fun h5=> ?_)
  ·
   have T:=at_2 (au:=au) (by omega) (ixN_lt.1 h5)
   have e3:((atP d s au):Pl)=({node:=({id:=0,kind:=0,attrs:=[],flow:=[],grid:=({rows:=0,cols:=0,cells:=[],merges:=[]}:Grid),draw:=[]}:Node),shown:=[],author:={data:=#[]}}:Pl):=by
    exact T.1
   have e4:((atE d s au):Int)=7:=by
    exact T.2
   exact .finVE [.r [(0,X (Xf [(2,2),(3,3),(6,5),(7,4),(8,8),(9,1)]))]] [] [] (fun((z0,z1):Pl×Int)=>(.tup [.t (plT z0),VI z1],[])) _ _ (pr e3 e4)
  ·
   have hh:=ixN_ge.1 h5
   have hlt:=(hasN_iff.1 hh).1
   have hbn:=(hb.all _ (getDN_mem hlt)).fl2
   refine .bp [.le (.eq 9 (VI (ixN (d).nodes s.nd)) (VI (lobN d.nodes s.nd:Int)) (.of_eq (by rw[ixN_has hh]))),.r [(3,X (Xi nodeT d.nodes (lobN d.nodes s.nd:Int))),(6,X (Xf [(9,1)]))],.r [(3,X (Xc0 (fc_Texts (((d.nodes.getD (lobN d.nodes s.nd) default)).kind)) X0))]] (!(hasT (((d.nodes.getD (lobN d.nodes s.nd) default)).kind))) (fun h8=> ?_) (fun h8=> ?_)
   ·
    have T:=at_3 (au:=au) (by omega) hh h8
    have e5:((atP d s au):Pl)=({node:=({id:=0,kind:=0,attrs:=[],flow:=[],grid:=({rows:=0,cols:=0,cells:=[],merges:=[]}:Grid),draw:=[]}:Node),shown:=[],author:={data:=#[]}}:Pl):=by
     exact T.1
    have e6:((atE d s au):Int)=8:=by
     exact T.2
    exact .finVE [.r [(0,X (Xf [(2,2),(3,3),(6,5),(7,4),(8,8),(9,1)]))]] [] [] (fun((z0,z1):Pl×Int)=>(.tup [.t (plT z0),VI z1],[])) _ _ (pr e5 e6)
   ·
    refine .bp [.r [(3,X (Xc1 264 (fc_places (((d.nodes.getD (lobN d.nodes s.nd) default)).flow) 0 (by omega)) X0))],.r [(5,Xv 1 (!(decide (s.fr<0))) X0),(7,Xv 1 (!(decide (s.fr<0))) X0),(8,Xv 2 (!(decide (s.fr<0))) X0),(9,X (Xk' (decide (s.fr<0)))),(12,Xv 1 (!(decide (s.fr<0)||decide (s.tq<s.fr))) X0),(14,Xv 1 (!(decide (s.fr<0)||decide (s.tq<s.fr))) X0),(15,Xv 1 (!(decide (s.fr<0)||decide (s.tq<s.fr))) (Xl intT (plcL (((d.nodes.getD (lobN d.nodes s.nd) default)).flow) 0 ((((d.nodes.getD (lobN d.nodes s.nd) default)).flow)).length))),(16,Xv 2 (!(decide (s.fr<0)||decide (s.tq<s.fr))) X0),(17,X (Xk' (decide (s.fr<0)||decide (s.tq<s.fr))))]] ((decide (s.fr<0)||decide (s.tq<s.fr))||decide (s.tq≥((plcL (((d.nodes.getD (lobN d.nodes s.nd) default)).flow) 0 ((((d.nodes.getD (lobN d.nodes s.nd) default)).flow)).length).length:Int))) (fun h11=> ?_) (fun h11=> ?_)
    ·
     have T:=at_4 (au:=au) (by omega) hh h8 h11
     have e7:((atP d s au):Pl)=({node:=({id:=0,kind:=0,attrs:=[],flow:=[],grid:=({rows:=0,cols:=0,cells:=[],merges:=[]}:Grid),draw:=[]}:Node),shown:=[],author:={data:=#[]}}:Pl):=by
      exact T.1
     have e8:((atE d s au):Int)=2:=by
      exact T.2
     exact .finVE [.r [(0,X (Xf [(2,2),(3,3),(6,5),(7,4),(8,8),(9,1)]))]] [] [] (fun((z0,z1):Pl×Int)=>(.tup [.t (plT z0),VI z1],[])) _ _ (pr e7 e8)
    ·
     refine .bp [.r [(4,Xv 1 (!(seq au ({data:=#[]}))) (Xc0 (fc_value au) X0)),(5,Xv 1 (!(seq au ({data:=#[]}))) X0),(6,X (Xk (!(seq au ({data:=#[]})))))]] (!(seq au ({data:=#[]}))&& !(valGo au)) (fun h13=> ?_) (fun h13=> ?_)
     ·
      have T:=at_5 (by omega) hh h8 h11 h13
      have e9:((atP d s au):Pl)=({node:=({id:=0,kind:=0,attrs:=[],flow:=[],grid:=({rows:=0,cols:=0,cells:=[],merges:=[]}:Grid),draw:=[]}:Node),shown:=[],author:={data:=#[]}}:Pl):=by
       exact T.1
      have e10:((atE d s au):Int)=23:=by
       exact T.2
      exact .finVE [.r [(0,X (Xf [(2,2),(3,3),(6,5),(7,4),(8,8),(9,1)]))]] [] [] (fun((z0,z1):Pl×Int)=>(.tup [.t (plT z0),VI z1],[])) _ _ (pr e9 e10)
     ·
      have T:=at_6 (by omega) hh h8 h11 h13
      have e11:((atP d s au):Pl)=({node:=((d.nodes.getD (lobN d.nodes s.nd) default)),shown:=(plcL (((d.nodes.getD (lobN d.nodes s.nd) default)).flow) 0 ((((d.nodes.getD (lobN d.nodes s.nd) default)).flow)).length),author:=au}:Pl):=by
       exact T.1
      have e12:((atE d s au):Int)=0:=by
       exact T.2
      exact .finVE [.r []] [] [] (fun((z0,z1):Pl×Int)=>(.tup [.t (plT z0),VI z1],[])) _ _ (pr e11 e12)
theorem fc_pelem(p:Pl)(k:Int)(hb:PlB p):FC Tryz.prog 66 [.ptr 0 0,VI k] (app emp [(0,.box [VI p.node.id,VI p.node.kind,VL 2 attrT p.node.attrs,VL 3 elemT p.node.flow,VI p.node.grid.rows,VI p.node.grid.cols,VL 5 cellT p.node.grid.cells,VL 4 rectT p.node.grid.merges,VL 8 dopT p.node.draw,VL 1 intT p.shown,VS p.author])]) (.t (elemT (elemP p k))) (app emp [(0,.box [VI p.node.id,VI p.node.kind,VL 2 attrT p.node.attrs,VL 3 elemT p.node.flow,VI p.node.grid.rows,VI p.node.grid.cols,VL 5 cellT p.node.grid.cells,VL 4 rectT p.node.grid.merges,VL 8 dopT p.node.draw,VL 1 intT p.shown,VS p.author])]):=by
 refine .go Tryz.f66 ?_
 refine .bp [.r [],.r [(5,Xv 1 (!(decide (k<0))) X0),(6,Xv 1 (!(decide (k<0))) X0),(7,Xv 1 (!(decide (k<0))) X0),(8,Xv 1 (!(decide (k<0))) (Xl intT p.shown)),(9,Xv 2 (!(decide (k<0))) X0),(10,X (Xk' (decide (k<0))))]] (decide (k<0)||decide (k≥(p.shown.length:Int))) (fun h1=> ?_) (fun h1=> ?_)
 ·
  have e1:((elemP p k):Elem)=({char:=10,ref:=0,attrs:=[]}:Elem):=by
   unfold elemP;rw[if_pos (by omega)]
  exact .finVE [.r [(0,X (Xf [(2,2)]))]] [] [(0,0)] (fun z0:Elem=>(.t (elemT z0),[(0,.box [VI p.node.id,VI p.node.kind,VL 2 attrT p.node.attrs,VL 3 elemT p.node.flow,VI p.node.grid.rows,VI p.node.grid.cols,VL 5 cellT p.node.grid.cells,VL 4 rectT p.node.grid.merges,VL 8 dopT p.node.draw,VL 1 intT p.shown,VS p.author])])) _ _ e1
 ·
  have hx:=hb.ok _ (getDX_mem (l:=p.shown) (i:=k.toNat) (by omega))
  have e2:((elemP p k):Elem)=((p.node.flow.getD (Int.toNat (p.shown.getD (Int.toNat k) default)) default)):=by
   unfold elemP;rw[if_neg (by omega)]
  exact .finVE [.r [(10,X (Xi intT p.shown k)),(12,X (Xi elemT p.node.flow (p.shown.getD (Int.toNat k) default)))]] [] [(0,0)] (fun z0:Elem=>(.t (elemT z0),[(0,.box [VI p.node.id,VI p.node.kind,VL 2 attrT p.node.attrs,VL 3 elemT p.node.flow,VI p.node.grid.rows,VI p.node.grid.cols,VL 5 cellT p.node.grid.cells,VL 4 rectT p.node.grid.merges,VL 8 dopT p.node.draw,VL 1 intT p.shown,VS p.author])])) _ _ e2
theorem fc_idxS(l:List ByteArray)(x:ByteArray):FC Tryz.prog 171 [VL 1 strT l,VS x] (app emp []) (VI (idxF (fun y=>seq x y) l 0)) (app emp []):=by
 refine .go Tryz.f171 ?_
 refine .len 0 (fun hl0=> ?_)
 refine .loop (α:=Nat) [.r [],.r [(1,X (Xl strT l))]] 32 (fun i=>([(0,VL 1 strT l),(1,VS x),(7,VI (l.length:Int)),(8,VI (i:Int))],[])) (fun i=>i≤l.length∧idxF (fun y=>seq x y) l 0=idxF (fun y=>seq x y) l i) (fun i=>l.length-i) (0:Nat) ?_ ?_
 ·
  exact⟨by omega,rfl⟩
 rintro i I2 ih2
 try dsimp only at I2
 refine .bp [.r []] (decide ((i:Int)< (l.length:Int))) (fun h2=> ?_) (fun h2=> ?_)
 ·
  refine .bp [.r [],.r [(3,X (Xi strT l (i:Int)))]] (seq x (l.getD i default)) (fun h4=> ?_) (fun h4=> ?_)
  ·
   have e1:((idxF (fun y=>seq x y) l 0):Int)=(i:Int):=by
    rw[I2.2,idxF,if_pos (by omega),if_pos h4]
   exact .finE [.r []] [] (fun z0:Int=>(VI z0,[])) _ _ e1
  ·
   refine .back [.r [(0,X (Xn ((i:Int)+1)))]] [] (ih2 ((i+1):Nat) ?_ ?_)
   ·
    exact⟨by omega,by rw[I2.2,idxF,if_pos (by omega),if_neg (by rw[h4];decide)]⟩
   ·
    ((try dsimp only);omega)
 ·
  have e2:((idxF (fun y=>seq x y) l 0):Int)= -1:=by
   rw[I2.2,idxF,if_neg (by omega)]
  exact .finE [.r []] [] (fun z0:Int=>(VI z0,[])) _ _ e2
theorem fc_hasS(l:List ByteArray)(x:ByteArray):FC Tryz.prog 113 [VL 1 strT l,VS x] (app emp []) (VB (l.any (fun y=>seq x y))) (app emp []):=by
 refine .go Tryz.f113 ?_
 refine .len 0 (fun hl0=> ?_)
 have e1:((l.any (fun y=>seq x y)):Bool)=decide ((idxF (fun y=>seq x y) l 0)≥0):=by
  rw[Bool.eq_iff_iff];simp only[decide_eq_true_eq,ge_iff_le];rw[idxF_any]
 exact .finE [.r [],.r [(2,X (Xc0 (fc_idxS l x) X0))]] [] (fun z0:Bool=>(VB z0,[])) _ _ e1
theorem fc_spreads(n:ByteArray):FC Tryz.prog 110 [VS n] (app emp []) (VB (sprB n)) (app emp []):=by
 refine .go Tryz.f110 ?_
 have e1:((sprB n):Bool)=(([{data:=#[98,111,108,100]},{data:=#[105,116,97,108,105,99]},{data:=#[117,110,100,101,114]},{data:=#[115,116,114,105,107,101]},{data:=#[102,105,120,101,100]},{data:=#[114,97,105,115,101]},{data:=#[115,105,122,101]},{data:=#[99,111,108,111,117,114]},{data:=#[108,97,110,103]},{data:=#[115,116,121,108,101]}]).any (fun y=>seq n y)):=by
  rfl
 exact .finE [.r [],.r [(2,X (Xc0 (fc_hasS [{data:=#[98,111,108,100]},{data:=#[105,116,97,108,105,99]},{data:=#[117,110,100,101,114]},{data:=#[115,116,114,105,107,101]},{data:=#[102,105,120,101,100]},{data:=#[114,97,105,115,101]},{data:=#[115,105,122,101]},{data:=#[99,111,108,111,117,114]},{data:=#[108,97,110,103]},{data:=#[115,116,121,108,101]}] n) (rowC strT [{data:=#[98,111,108,100]},{data:=#[105,116,97,108,105,99]},{data:=#[117,110,100,101,114]},{data:=#[115,116,114,105,107,101]},{data:=#[102,105,120,101,100]},{data:=#[114,97,105,115,101]},{data:=#[115,105,122,101]},{data:=#[99,111,108,111,117,114]},{data:=#[108,97,110,103]},{data:=#[115,116,121,108,101]}] X0)))]] [] (fun z0:Bool=>(VB z0,[])) _ _ e1
theorem fc_between(n:ByteArray):FC Tryz.prog 111 [VS n] (app emp []) (VB (btwB n)) (app emp []):=by
 refine .go Tryz.f111 ?_
 have e1:((btwB n):Bool)=(((seq n ({data:=#[108,105,110,107]})||seq n ({data:=#[108,111,99,107]}))|| (decide ((n.size:Int)> 7)&&seq (n.extract ((0:Int)).toNat ((7:Int)).toNat) ({data:=#[114,101,109,97,114,107,46]})))|| (decide ((n.size:Int)> 5)&&seq (n.extract ((0:Int)).toNat ((5:Int)).toNat) ({data:=#[109,97,114,107,46]}))):=by
  rfl
 exact .finE [.r [],.r [(4,Xv 1 (!(seq n ({data:=#[108,105,110,107]}))) X0),(5,X (Xk' (seq n ({data:=#[108,105,110,107]})))),(8,Xv 1 (!(seq n ({data:=#[108,105,110,107]})||seq n ({data:=#[108,111,99,107]}))) X0),(9,Xv 1 (!(seq n ({data:=#[108,105,110,107]})||seq n ({data:=#[108,111,99,107]}))) X0),(10,Xv 1 (!(seq n ({data:=#[108,105,110,107]})||seq n ({data:=#[108,111,99,107]}))) X0),(12,Xv 1 ((!(seq n ({data:=#[108,105,110,107]})||seq n ({data:=#[108,111,99,107]})))&&(decide ((n.size:Int)> 7))) (Xa (Xc ((0:Int)≤0)) (Xa (Xc ((0:Int)≤7)) (Xc ((7:Int)≤(n.size:Int)))))),(13,Xv 1 ((!(seq n ({data:=#[108,105,110,107]})||seq n ({data:=#[108,111,99,107]})))&&(decide ((n.size:Int)> 7))) X0),(14,Xka (!(seq n ({data:=#[108,105,110,107]})||seq n ({data:=#[108,111,99,107]}))) (decide ((n.size:Int)> 7))),(15,X (Xk' (seq n ({data:=#[108,105,110,107]})||seq n ({data:=#[108,111,99,107]})))),(18,Xv 1 (!((seq n ({data:=#[108,105,110,107]})||seq n ({data:=#[108,111,99,107]}))|| (decide ((n.size:Int)> 7)&&seq (n.extract ((0:Int)).toNat ((7:Int)).toNat) ({data:=#[114,101,109,97,114,107,46]})))) X0),(19,Xv 1 (!((seq n ({data:=#[108,105,110,107]})||seq n ({data:=#[108,111,99,107]}))|| (decide ((n.size:Int)> 7)&&seq (n.extract ((0:Int)).toNat ((7:Int)).toNat) ({data:=#[114,101,109,97,114,107,46]})))) X0),(20,Xv 1 (!((seq n ({data:=#[108,105,110,107]})||seq n ({data:=#[108,111,99,107]}))|| (decide ((n.size:Int)> 7)&&seq (n.extract ((0:Int)).toNat ((7:Int)).toNat) ({data:=#[114,101,109,97,114,107,46]})))) X0),(22,Xv 1 ((!((seq n ({data:=#[108,105,110,107]})||seq n ({data:=#[108,111,99,107]}))|| (decide ((n.size:Int)> 7)&&seq (n.extract ((0:Int)).toNat ((7:Int)).toNat) ({data:=#[114,101,109,97,114,107,46]}))))&&(decide ((n.size:Int)> 5))) (Xa (Xc ((0:Int)≤0)) (Xa (Xc ((0:Int)≤5)) (Xc ((5:Int)≤(n.size:Int)))))),(23,Xv 1 ((!((seq n ({data:=#[108,105,110,107]})||seq n ({data:=#[108,111,99,107]}))|| (decide ((n.size:Int)> 7)&&seq (n.extract ((0:Int)).toNat ((7:Int)).toNat) ({data:=#[114,101,109,97,114,107,46]}))))&&(decide ((n.size:Int)> 5))) X0),(24,Xka (!((seq n ({data:=#[108,105,110,107]})||seq n ({data:=#[108,111,99,107]}))|| (decide ((n.size:Int)> 7)&&seq (n.extract ((0:Int)).toNat ((7:Int)).toNat) ({data:=#[114,101,109,97,114,107,46]})))) (decide ((n.size:Int)> 5))),(25,X (Xk' ((seq n ({data:=#[108,105,110,107]})||seq n ({data:=#[108,111,99,107]}))|| (decide ((n.size:Int)> 7)&&seq (n.extract ((0:Int)).toNat ((7:Int)).toNat) ({data:=#[114,101,109,97,114,107,46]})))))]] [] (fun z0:Bool=>(VB z0,[])) _ _ e1
end Go.Ch
end
section
set_option linter.unusedVariables false
set_option linter.unusedSimpArgs false
set_option maxRecDepth 100000
set_option maxHeartbeats 4000000
open Go Go.Proofs Go.Ab
namespace Go.Ch
theorem fc_inh(p:Pl)(k:Int)(hb:PlB p)(hk:0≤k∧k≤1000000000):FC Tryz.prog 60 [.ptr 0 0,VI k] (app emp [(0,.box [VI p.node.id,VI p.node.kind,VL 2 attrT p.node.attrs,VL 3 elemT p.node.flow,VI p.node.grid.rows,VI p.node.grid.cols,VL 5 cellT p.node.grid.cells,VL 4 rectT p.node.grid.merges,VL 8 dopT p.node.draw,VL 1 intT p.shown,VS p.author])]) (VL 2 attrT (inhP p k)) (app emp [(0,.box [VI p.node.id,VI p.node.kind,VL 2 attrT p.node.attrs,VL 3 elemT p.node.flow,VI p.node.grid.rows,VI p.node.grid.cols,VL 5 cellT p.node.grid.cells,VL 4 rectT p.node.grid.merges,VL 8 dopT p.node.draw,VL 1 intT p.shown,VS p.author])]):=by
 refine .go Tryz.f60 ?_
 have b1:=elemP_len hb k
 have b2:=elemP_len hb (k- 1)
 refine .bp [.r [],.r [(2,X (Xn (k- 1))),(3,X (Xc4 [(0,0)] (fc_pelem p (k- 1) (by assumption)) X0)),(6,X (Xc4 [(0,0)] (fc_pelem p k (by assumption)) X0))],.r [],.r []] ((((elemP p (k- 1))).char)==10) (fun h3=> ?_) (fun h3=> ?_)
 ·
  refine .bp [.r [],.r [],.r []] ((((elemP p k)).char) !=10) (fun h6=> ?_) (fun h6=> ?_)
  ·
   refine .loop (α:=Nat×(List Attr)) [.r [(2,X (Xl attrT (((elemP p k)).attrs)))],.le (.nR 8 2)] 226 (fun(i,o)=>([(1,VI k),(5,.ptr 65 0),(6,.ptr 73 0),(8,.row 225 o.length),(29,VL 2 attrT (((elemP p k)).attrs)),(30,VI ((((elemP p k)).attrs).length:Int)),(31,VI (i:Int))],[(0,.box [VI p.node.id,VI p.node.kind,VL 2 attrT p.node.attrs,VL 3 elemT p.node.flow,VI p.node.grid.rows,VI p.node.grid.cols,VL 5 cellT p.node.grid.cells,VL 4 rectT p.node.grid.merges,VL 8 dopT p.node.draw,VL 1 intT p.shown,VS p.author]),(65,.box [VI (((elemP p (k- 1))).char),VI (((elemP p (k- 1))).ref),VL 2 attrT (((elemP p (k- 1))).attrs)]),(73,.box [VI (((elemP p k)).char),VI (((elemP p k)).ref),VL 2 attrT (((elemP p k)).attrs)]),(225,OR 2 attrT o)])) (fun(i,o)=>i≤((((elemP p k)).attrs)).length∧o=(((((elemP p k)).attrs)).take i).filter (fun a=>sprB a.name)) (fun(i,o)=>((((elemP p k)).attrs)).length-i) (0,[]) ?_ ?_
   ·
    exact⟨by omega,rfl⟩
   rintro⟨i,o⟩ I8 ih8
   try dsimp only at I8
   have ol:o.length≤i:=by rw[I8.2];exact Nat.le_trans (List.length_filter_le ..) (by rw[List.length_take];omega)
   refine .bp [.r []] (decide ((i:Int)< ((((elemP p k)).attrs).length:Int))) (fun h8=> ?_) (fun h8=> ?_)
   ·
    refine .bp [.r [(0,X (Xi attrT (((elemP p k)).attrs) (i:Int)))],.r [(2,X (Xc0 (fc_spreads ((((((elemP p k)).attrs).getD i default)).name)) X0))]] (sprB ((((((elemP p k)).attrs).getD i default)).name)) (fun h10=> ?_) (fun h10=> ?_)
    ·
     refine .back [.r [(3,X (rowC attrT [(((((elemP p k)).attrs).getD i default))] (Xap 2 attrT 225 o [(((((elemP p k)).attrs).getD i default))])))],.r [(0,X (Xn ((i:Int)+1)))]] [(0,0),(65,65),(73,73),(225,225)] (ih8 ((i+1),(o++[(((((elemP p k)).attrs).getD i default))])) ?_ ?_)
     ·
      refine⟨by omega,?_⟩
      rw[I8.2,List.take_succ_eq_append_getElem (by omega),List.filter_append]
      first|rw[filter_1 (by omega) h10]|rw[filter_0 (by omega) h10,List.append_nil]
     ·
      ((try dsimp only);omega)
    ·
     refine .back [.r [(0,X (Xn ((i:Int)+1)))]] [(0,0),(65,65),(73,73),(225,225)] (ih8 ((i+1),o) ?_ ?_)
     ·
      refine⟨by omega,?_⟩
      rw[I8.2,List.take_succ_eq_append_getElem (by omega),List.filter_append]
      first|rw[filter_1 (by omega) h10]|rw[filter_0 (by omega) h10,List.append_nil]
     ·
      ((try dsimp only);omega)
   ·
    have hB:=inhB_def p k
    simp only[h3,h6,if_true,if_false,ne_eq,not_true_eq_false,not_false_eq_true,ite_true,ite_false,reduceIte] at hB
    refine .loop (α:=(List Attr)×Nat) [.r [(2,X (Xl attrT (((elemP p (k- 1))).attrs)))],.le (.fr 8 [(o.length:Nat)=(List.map attrT o).length] ⟨lm,trivial⟩)] 266 (fun(q,j)=>([(1,VI k),(6,.ptr 73 0),(8,VL 2 attrT q),(44,VL 2 attrT (((elemP p (k- 1))).attrs)),(45,VI ((((elemP p (k- 1))).attrs).length:Int)),(46,VI (j:Int))],[(0,.box [VI p.node.id,VI p.node.kind,VL 2 attrT p.node.attrs,VL 3 elemT p.node.flow,VI p.node.grid.rows,VI p.node.grid.cols,VL 5 cellT p.node.grid.cells,VL 4 rectT p.node.grid.merges,VL 8 dopT p.node.draw,VL 1 intT p.shown,VS p.author]),(73,.box [VI (((elemP p k)).char),VI (((elemP p k)).ref),VL 2 attrT (((elemP p k)).attrs)])])) (fun(q,j)=>j≤(elemP p (k- 1)).attrs.length∧q=inhO (elemP p k) k (inhB p k) ((elemP p (k- 1)).attrs.take j)∧q.length≤1048576+j) (fun(q,j)=>(elemP p (k- 1)).attrs.length-j) (o,0) ?_ ?_
    ·
     first|exact absurd h6 h3|exact⟨by omega,by rw[hB];first| (rw[I8.2,List.take_of_length_le (by omega)];rfl)|rfl,by first|omega|simp⟩
    rintro⟨q,j⟩ I14 ih14
    try dsimp only at I14
    refine .bp [.r []] (decide ((j:Int)< ((((elemP p (k- 1))).attrs).length:Int))) (fun h14=> ?_) (fun h14=> ?_)
    ·
     refine .bp [.r [(0,X (Xi attrT (((elemP p (k- 1))).attrs) (j:Int)))],.r [(2,X (Xc0 (fc_between ((((((elemP p (k- 1))).attrs).getD j default)).name)) X0)),(5,Xv 1 (btwB ((((((elemP p (k- 1))).attrs).getD j default)).name)) X0),(6,X (Xk (btwB ((((((elemP p (k- 1))).attrs).getD j default)).name)))),(9,Xv 1 ((btwB ((((((elemP p (k- 1))).attrs).getD j default)).name))&&decide (k>0)) X0),(11,Xv 1 ((btwB ((((((elemP p (k- 1))).attrs).getD j default)).name))&&decide (k>0)) X0),(12,Xv 2 ((btwB ((((((elemP p (k- 1))).attrs).getD j default)).name))&&decide (k>0)) (Xc0 (fc_get (((elemP p k)).attrs) ((((((elemP p (k- 1))).attrs).getD j default)).name)) X0)),(14,Xv 1 ((btwB ((((((elemP p (k- 1))).attrs).getD j default)).name))&&decide (k>0)) X0),(15,Xv 2 ((btwB ((((((elemP p (k- 1))).attrs).getD j default)).name))&&decide (k>0)) X0),(16,X (Xk ((btwB ((((((elemP p (k- 1))).attrs).getD j default)).name))&&decide (k>0))))]] (((btwB ((((((elemP p (k- 1))).attrs).getD j default)).name))&&decide (k>0))&&seq (getA (((elemP p k)).attrs) ((((((elemP p (k- 1))).attrs).getD j default)).name) 0) ((((((elemP p (k- 1))).attrs).getD j default)).val)) (fun h16=> ?_) (fun h16=> ?_)
     ·
      refine .back [.r [(3,X (Xc1 466 (fc_raw q [(((((elemP p (k- 1))).attrs).getD j default))] (by simp only[List.length_cons,List.length_nil];omega)) (rowC attrT [(((((elemP p (k- 1))).attrs).getD j default))] X0)))],.r [(0,X (Xn ((j:Int)+1)))]] [(0,0),(73,73)] (ih14 ((fm rawG q [(((((elemP p (k- 1))).attrs).getD j default))]),(j+1)) ?_ ?_)
      ·
       first
       |exact⟨by omega,by rw[inhO_succ (by omega),if_pos (inhG_y h16),←I14.2.1],Nat.le_trans (fm_len' ..) (by simp;omega)⟩
       |exact⟨by omega,by rw[inhO_succ (by omega),if_neg (inhG_n h16)];exact I14.2.1,by omega⟩
      ·
       ((try dsimp only);omega)
     ·
      refine .back [.r [(0,X (Xn ((j:Int)+1)))]] [(0,0),(73,73)] (ih14 (q,(j+1)) ?_ ?_)
      ·
       first
       |exact⟨by omega,by rw[inhO_succ (by omega),if_pos (inhG_y h16),←I14.2.1],Nat.le_trans (fm_len' ..) (by simp;omega)⟩
       |exact⟨by omega,by rw[inhO_succ (by omega),if_neg (inhG_n h16)];exact I14.2.1,by omega⟩
      ·
       ((try dsimp only);omega)
    ·
     have e1:((inhP p k):List Attr)=q:=by
      rw[I14.2.1,List.take_of_length_le (by omega)];rfl
     exact .finE [.r []] [(0,0)] (fun z0:List Attr=>(VL 2 attrT z0,[(0,.box [VI p.node.id,VI p.node.kind,VL 2 attrT p.node.attrs,VL 3 elemT p.node.flow,VI p.node.grid.rows,VI p.node.grid.cols,VL 5 cellT p.node.grid.cells,VL 4 rectT p.node.grid.merges,VL 8 dopT p.node.draw,VL 1 intT p.shown,VS p.author])])) _ _ e1
  ·
   have hB:=inhB_def p k
   simp only[h3,h6,if_true,if_false,ne_eq,not_true_eq_false,not_false_eq_true,ite_true,ite_false,reduceIte] at hB
   refine .loop (α:=(List Attr)×Nat) [.r [(2,X (Xl attrT (((elemP p (k- 1))).attrs)))],.le (.nL 8 2)] 225 (fun(q,j)=>([(1,VI k),(6,.ptr 73 0),(8,VL 2 attrT q),(44,VL 2 attrT (((elemP p (k- 1))).attrs)),(45,VI ((((elemP p (k- 1))).attrs).length:Int)),(46,VI (j:Int))],[(0,.box [VI p.node.id,VI p.node.kind,VL 2 attrT p.node.attrs,VL 3 elemT p.node.flow,VI p.node.grid.rows,VI p.node.grid.cols,VL 5 cellT p.node.grid.cells,VL 4 rectT p.node.grid.merges,VL 8 dopT p.node.draw,VL 1 intT p.shown,VS p.author]),(73,.box [VI (((elemP p k)).char),VI (((elemP p k)).ref),VL 2 attrT (((elemP p k)).attrs)])])) (fun(q,j)=>j≤(elemP p (k- 1)).attrs.length∧q=inhO (elemP p k) k (inhB p k) ((elemP p (k- 1)).attrs.take j)∧q.length≤1048576+j) (fun(q,j)=>(elemP p (k- 1)).attrs.length-j) ([],0) ?_ ?_
   ·
    first|exact absurd h6 h3|exact⟨by omega,by rw[hB];first| (rw[I8.2,List.take_of_length_le (by omega)];rfl)|rfl,by first|omega|simp⟩
   rintro⟨q,j⟩ I14 ih14
   try dsimp only at I14
   refine .bp [.r []] (decide ((j:Int)< ((((elemP p (k- 1))).attrs).length:Int))) (fun h14=> ?_) (fun h14=> ?_)
   ·
    refine .bp [.r [(0,X (Xi attrT (((elemP p (k- 1))).attrs) (j:Int)))],.r [(2,X (Xc0 (fc_between ((((((elemP p (k- 1))).attrs).getD j default)).name)) X0)),(5,Xv 1 (btwB ((((((elemP p (k- 1))).attrs).getD j default)).name)) X0),(6,X (Xk (btwB ((((((elemP p (k- 1))).attrs).getD j default)).name)))),(9,Xv 1 ((btwB ((((((elemP p (k- 1))).attrs).getD j default)).name))&&decide (k>0)) X0),(11,Xv 1 ((btwB ((((((elemP p (k- 1))).attrs).getD j default)).name))&&decide (k>0)) X0),(12,Xv 2 ((btwB ((((((elemP p (k- 1))).attrs).getD j default)).name))&&decide (k>0)) (Xc0 (fc_get (((elemP p k)).attrs) ((((((elemP p (k- 1))).attrs).getD j default)).name)) X0)),(14,Xv 1 ((btwB ((((((elemP p (k- 1))).attrs).getD j default)).name))&&decide (k>0)) X0),(15,Xv 2 ((btwB ((((((elemP p (k- 1))).attrs).getD j default)).name))&&decide (k>0)) X0),(16,X (Xk ((btwB ((((((elemP p (k- 1))).attrs).getD j default)).name))&&decide (k>0))))]] (((btwB ((((((elemP p (k- 1))).attrs).getD j default)).name))&&decide (k>0))&&seq (getA (((elemP p k)).attrs) ((((((elemP p (k- 1))).attrs).getD j default)).name) 0) ((((((elemP p (k- 1))).attrs).getD j default)).val)) (fun h16=> ?_) (fun h16=> ?_)
    ·
     refine .back [.r [(3,X (Xc1 425 (fc_raw q [(((((elemP p (k- 1))).attrs).getD j default))] (by simp only[List.length_cons,List.length_nil];omega)) (rowC attrT [(((((elemP p (k- 1))).attrs).getD j default))] X0)))],.r [(0,X (Xn ((j:Int)+1)))]] [(0,0),(73,73)] (ih14 ((fm rawG q [(((((elemP p (k- 1))).attrs).getD j default))]),(j+1)) ?_ ?_)
     ·
      first
      |exact⟨by omega,by rw[inhO_succ (by omega),if_pos (inhG_y h16),←I14.2.1],Nat.le_trans (fm_len' ..) (by simp;omega)⟩
      |exact⟨by omega,by rw[inhO_succ (by omega),if_neg (inhG_n h16)];exact I14.2.1,by omega⟩
     ·
      ((try dsimp only);omega)
    ·
     refine .back [.r [(0,X (Xn ((j:Int)+1)))]] [(0,0),(73,73)] (ih14 (q,(j+1)) ?_ ?_)
     ·
      first
      |exact⟨by omega,by rw[inhO_succ (by omega),if_pos (inhG_y h16),←I14.2.1],Nat.le_trans (fm_len' ..) (by simp;omega)⟩
      |exact⟨by omega,by rw[inhO_succ (by omega),if_neg (inhG_n h16)];exact I14.2.1,by omega⟩
     ·
      ((try dsimp only);omega)
   ·
    have e2:((inhP p k):List Attr)=q:=by
     rw[I14.2.1,List.take_of_length_le (by omega)];rfl
    exact .finE [.r []] [(0,0)] (fun z0:List Attr=>(VL 2 attrT z0,[(0,.box [VI p.node.id,VI p.node.kind,VL 2 attrT p.node.attrs,VL 3 elemT p.node.flow,VI p.node.grid.rows,VI p.node.grid.cols,VL 5 cellT p.node.grid.cells,VL 4 rectT p.node.grid.merges,VL 8 dopT p.node.draw,VL 1 intT p.shown,VS p.author])])) _ _ e2
 ·
  refine .bp [.r [],.r []] ((((elemP p (k- 1))).char) !=10) (fun h6=> ?_) (fun h6=> ?_)
  ·
   refine .loop (α:=Nat×(List Attr)) [.r [(2,X (Xl attrT (((elemP p (k- 1))).attrs)))],.le (.nR 8 2)] 210 (fun(i,o)=>([(1,VI k),(5,.ptr 65 0),(6,.ptr 73 0),(8,.row 209 o.length),(29,VL 2 attrT (((elemP p (k- 1))).attrs)),(30,VI ((((elemP p (k- 1))).attrs).length:Int)),(31,VI (i:Int))],[(0,.box [VI p.node.id,VI p.node.kind,VL 2 attrT p.node.attrs,VL 3 elemT p.node.flow,VI p.node.grid.rows,VI p.node.grid.cols,VL 5 cellT p.node.grid.cells,VL 4 rectT p.node.grid.merges,VL 8 dopT p.node.draw,VL 1 intT p.shown,VS p.author]),(65,.box [VI (((elemP p (k- 1))).char),VI (((elemP p (k- 1))).ref),VL 2 attrT (((elemP p (k- 1))).attrs)]),(73,.box [VI (((elemP p k)).char),VI (((elemP p k)).ref),VL 2 attrT (((elemP p k)).attrs)]),(209,OR 2 attrT o)])) (fun(i,o)=>i≤((((elemP p (k- 1))).attrs)).length∧o=(((((elemP p (k- 1))).attrs)).take i).filter (fun a=>sprB a.name)) (fun(i,o)=>((((elemP p (k- 1))).attrs)).length-i) (0,[]) ?_ ?_
   ·
    exact⟨by omega,rfl⟩
   rintro⟨i,o⟩ I8 ih8
   try dsimp only at I8
   have ol:o.length≤i:=by rw[I8.2];exact Nat.le_trans (List.length_filter_le ..) (by rw[List.length_take];omega)
   refine .bp [.r []] (decide ((i:Int)< ((((elemP p (k- 1))).attrs).length:Int))) (fun h8=> ?_) (fun h8=> ?_)
   ·
    refine .bp [.r [(0,X (Xi attrT (((elemP p (k- 1))).attrs) (i:Int)))],.r [(2,X (Xc0 (fc_spreads ((((((elemP p (k- 1))).attrs).getD i default)).name)) X0))]] (sprB ((((((elemP p (k- 1))).attrs).getD i default)).name)) (fun h10=> ?_) (fun h10=> ?_)
    ·
     refine .back [.r [(3,X (rowC attrT [(((((elemP p (k- 1))).attrs).getD i default))] (Xap 2 attrT 209 o [(((((elemP p (k- 1))).attrs).getD i default))])))],.r [(0,X (Xn ((i:Int)+1)))]] [(0,0),(65,65),(73,73),(209,209)] (ih8 ((i+1),(o++[(((((elemP p (k- 1))).attrs).getD i default))])) ?_ ?_)
     ·
      refine⟨by omega,?_⟩
      rw[I8.2,List.take_succ_eq_append_getElem (by omega),List.filter_append]
      first|rw[filter_1 (by omega) h10]|rw[filter_0 (by omega) h10,List.append_nil]
     ·
      ((try dsimp only);omega)
    ·
     refine .back [.r [(0,X (Xn ((i:Int)+1)))]] [(0,0),(65,65),(73,73),(209,209)] (ih8 ((i+1),o) ?_ ?_)
     ·
      refine⟨by omega,?_⟩
      rw[I8.2,List.take_succ_eq_append_getElem (by omega),List.filter_append]
      first|rw[filter_1 (by omega) h10]|rw[filter_0 (by omega) h10,List.append_nil]
     ·
      ((try dsimp only);omega)
   ·
    have hB:=inhB_def p k
    simp only[h3,h6,if_true,if_false,ne_eq,not_true_eq_false,not_false_eq_true,ite_true,ite_false,reduceIte] at hB
    refine .loop (α:=(List Attr)×Nat) [.r [(2,X (Xl attrT (((elemP p (k- 1))).attrs)))],.le (.fr 8 [(o.length:Nat)=(List.map attrT o).length] ⟨lm,trivial⟩)] 250 (fun(q,j)=>([(1,VI k),(6,.ptr 73 0),(8,VL 2 attrT q),(44,VL 2 attrT (((elemP p (k- 1))).attrs)),(45,VI ((((elemP p (k- 1))).attrs).length:Int)),(46,VI (j:Int))],[(0,.box [VI p.node.id,VI p.node.kind,VL 2 attrT p.node.attrs,VL 3 elemT p.node.flow,VI p.node.grid.rows,VI p.node.grid.cols,VL 5 cellT p.node.grid.cells,VL 4 rectT p.node.grid.merges,VL 8 dopT p.node.draw,VL 1 intT p.shown,VS p.author]),(73,.box [VI (((elemP p k)).char),VI (((elemP p k)).ref),VL 2 attrT (((elemP p k)).attrs)])])) (fun(q,j)=>j≤(elemP p (k- 1)).attrs.length∧q=inhO (elemP p k) k (inhB p k) ((elemP p (k- 1)).attrs.take j)∧q.length≤1048576+j) (fun(q,j)=>(elemP p (k- 1)).attrs.length-j) (o,0) ?_ ?_
    ·
     first|exact absurd h6 h3|exact⟨by omega,by rw[hB];first| (rw[I8.2,List.take_of_length_le (by omega)];rfl)|rfl,by first|omega|simp⟩
    rintro⟨q,j⟩ I14 ih14
    try dsimp only at I14
    refine .bp [.r []] (decide ((j:Int)< ((((elemP p (k- 1))).attrs).length:Int))) (fun h14=> ?_) (fun h14=> ?_)
    ·
     refine .bp [.r [(0,X (Xi attrT (((elemP p (k- 1))).attrs) (j:Int)))],.r [(2,X (Xc0 (fc_between ((((((elemP p (k- 1))).attrs).getD j default)).name)) X0)),(5,Xv 1 (btwB ((((((elemP p (k- 1))).attrs).getD j default)).name)) X0),(6,X (Xk (btwB ((((((elemP p (k- 1))).attrs).getD j default)).name)))),(9,Xv 1 ((btwB ((((((elemP p (k- 1))).attrs).getD j default)).name))&&decide (k>0)) X0),(11,Xv 1 ((btwB ((((((elemP p (k- 1))).attrs).getD j default)).name))&&decide (k>0)) X0),(12,Xv 2 ((btwB ((((((elemP p (k- 1))).attrs).getD j default)).name))&&decide (k>0)) (Xc0 (fc_get (((elemP p k)).attrs) ((((((elemP p (k- 1))).attrs).getD j default)).name)) X0)),(14,Xv 1 ((btwB ((((((elemP p (k- 1))).attrs).getD j default)).name))&&decide (k>0)) X0),(15,Xv 2 ((btwB ((((((elemP p (k- 1))).attrs).getD j default)).name))&&decide (k>0)) X0),(16,X (Xk ((btwB ((((((elemP p (k- 1))).attrs).getD j default)).name))&&decide (k>0))))]] (((btwB ((((((elemP p (k- 1))).attrs).getD j default)).name))&&decide (k>0))&&seq (getA (((elemP p k)).attrs) ((((((elemP p (k- 1))).attrs).getD j default)).name) 0) ((((((elemP p (k- 1))).attrs).getD j default)).val)) (fun h16=> ?_) (fun h16=> ?_)
     ·
      refine .back [.r [(3,X (Xc1 450 (fc_raw q [(((((elemP p (k- 1))).attrs).getD j default))] (by simp only[List.length_cons,List.length_nil];omega)) (rowC attrT [(((((elemP p (k- 1))).attrs).getD j default))] X0)))],.r [(0,X (Xn ((j:Int)+1)))]] [(0,0),(73,73)] (ih14 ((fm rawG q [(((((elemP p (k- 1))).attrs).getD j default))]),(j+1)) ?_ ?_)
      ·
       first
       |exact⟨by omega,by rw[inhO_succ (by omega),if_pos (inhG_y h16),←I14.2.1],Nat.le_trans (fm_len' ..) (by simp;omega)⟩
       |exact⟨by omega,by rw[inhO_succ (by omega),if_neg (inhG_n h16)];exact I14.2.1,by omega⟩
      ·
       ((try dsimp only);omega)
     ·
      refine .back [.r [(0,X (Xn ((j:Int)+1)))]] [(0,0),(73,73)] (ih14 (q,(j+1)) ?_ ?_)
      ·
       first
       |exact⟨by omega,by rw[inhO_succ (by omega),if_pos (inhG_y h16),←I14.2.1],Nat.le_trans (fm_len' ..) (by simp;omega)⟩
       |exact⟨by omega,by rw[inhO_succ (by omega),if_neg (inhG_n h16)];exact I14.2.1,by omega⟩
      ·
       ((try dsimp only);omega)
    ·
     have e3:((inhP p k):List Attr)=q:=by
      rw[I14.2.1,List.take_of_length_le (by omega)];rfl
     exact .finE [.r []] [(0,0)] (fun z0:List Attr=>(VL 2 attrT z0,[(0,.box [VI p.node.id,VI p.node.kind,VL 2 attrT p.node.attrs,VL 3 elemT p.node.flow,VI p.node.grid.rows,VI p.node.grid.cols,VL 5 cellT p.node.grid.cells,VL 4 rectT p.node.grid.merges,VL 8 dopT p.node.draw,VL 1 intT p.shown,VS p.author])])) _ _ e3
  ·
   have hB:=inhB_def p k
   simp only[h3,h6,if_true,if_false,ne_eq,not_true_eq_false,not_false_eq_true,ite_true,ite_false,reduceIte] at hB
   refine .loop (α:=(List Attr)×Nat) [.r [(2,X (Xl attrT (((elemP p (k- 1))).attrs)))],.le (.nL 8 2)] 209 (fun(q,j)=>([(1,VI k),(6,.ptr 73 0),(8,VL 2 attrT q),(44,VL 2 attrT (((elemP p (k- 1))).attrs)),(45,VI ((((elemP p (k- 1))).attrs).length:Int)),(46,VI (j:Int))],[(0,.box [VI p.node.id,VI p.node.kind,VL 2 attrT p.node.attrs,VL 3 elemT p.node.flow,VI p.node.grid.rows,VI p.node.grid.cols,VL 5 cellT p.node.grid.cells,VL 4 rectT p.node.grid.merges,VL 8 dopT p.node.draw,VL 1 intT p.shown,VS p.author]),(73,.box [VI (((elemP p k)).char),VI (((elemP p k)).ref),VL 2 attrT (((elemP p k)).attrs)])])) (fun(q,j)=>j≤(elemP p (k- 1)).attrs.length∧q=inhO (elemP p k) k (inhB p k) ((elemP p (k- 1)).attrs.take j)∧q.length≤1048576+j) (fun(q,j)=>(elemP p (k- 1)).attrs.length-j) ([],0) ?_ ?_
   ·
    first|exact absurd h6 h3|exact⟨by omega,by rw[hB];first| (rw[I8.2,List.take_of_length_le (by omega)];rfl)|rfl,by first|omega|simp⟩
   rintro⟨q,j⟩ I14 ih14
   try dsimp only at I14
   refine .bp [.r []] (decide ((j:Int)< ((((elemP p (k- 1))).attrs).length:Int))) (fun h14=> ?_) (fun h14=> ?_)
   ·
    refine .bp [.r [(0,X (Xi attrT (((elemP p (k- 1))).attrs) (j:Int)))],.r [(2,X (Xc0 (fc_between ((((((elemP p (k- 1))).attrs).getD j default)).name)) X0)),(5,Xv 1 (btwB ((((((elemP p (k- 1))).attrs).getD j default)).name)) X0),(6,X (Xk (btwB ((((((elemP p (k- 1))).attrs).getD j default)).name)))),(9,Xv 1 ((btwB ((((((elemP p (k- 1))).attrs).getD j default)).name))&&decide (k>0)) X0),(11,Xv 1 ((btwB ((((((elemP p (k- 1))).attrs).getD j default)).name))&&decide (k>0)) X0),(12,Xv 2 ((btwB ((((((elemP p (k- 1))).attrs).getD j default)).name))&&decide (k>0)) (Xc0 (fc_get (((elemP p k)).attrs) ((((((elemP p (k- 1))).attrs).getD j default)).name)) X0)),(14,Xv 1 ((btwB ((((((elemP p (k- 1))).attrs).getD j default)).name))&&decide (k>0)) X0),(15,Xv 2 ((btwB ((((((elemP p (k- 1))).attrs).getD j default)).name))&&decide (k>0)) X0),(16,X (Xk ((btwB ((((((elemP p (k- 1))).attrs).getD j default)).name))&&decide (k>0))))]] (((btwB ((((((elemP p (k- 1))).attrs).getD j default)).name))&&decide (k>0))&&seq (getA (((elemP p k)).attrs) ((((((elemP p (k- 1))).attrs).getD j default)).name) 0) ((((((elemP p (k- 1))).attrs).getD j default)).val)) (fun h16=> ?_) (fun h16=> ?_)
    ·
     refine .back [.r [(3,X (Xc1 409 (fc_raw q [(((((elemP p (k- 1))).attrs).getD j default))] (by simp only[List.length_cons,List.length_nil];omega)) (rowC attrT [(((((elemP p (k- 1))).attrs).getD j default))] X0)))],.r [(0,X (Xn ((j:Int)+1)))]] [(0,0),(73,73)] (ih14 ((fm rawG q [(((((elemP p (k- 1))).attrs).getD j default))]),(j+1)) ?_ ?_)
     ·
      first
      |exact⟨by omega,by rw[inhO_succ (by omega),if_pos (inhG_y h16),←I14.2.1],Nat.le_trans (fm_len' ..) (by simp;omega)⟩
      |exact⟨by omega,by rw[inhO_succ (by omega),if_neg (inhG_n h16)];exact I14.2.1,by omega⟩
     ·
      ((try dsimp only);omega)
    ·
     refine .back [.r [(0,X (Xn ((j:Int)+1)))]] [(0,0),(73,73)] (ih14 (q,(j+1)) ?_ ?_)
     ·
      first
      |exact⟨by omega,by rw[inhO_succ (by omega),if_pos (inhG_y h16),←I14.2.1],Nat.le_trans (fm_len' ..) (by simp;omega)⟩
      |exact⟨by omega,by rw[inhO_succ (by omega),if_neg (inhG_n h16)];exact I14.2.1,by omega⟩
     ·
      ((try dsimp only);omega)
   ·
    have e4:((inhP p k):List Attr)=q:=by
     rw[I14.2.1,List.take_of_length_le (by omega)];rfl
    exact .finE [.r []] [(0,0)] (fun z0:List Attr=>(VL 2 attrT z0,[(0,.box [VI p.node.id,VI p.node.kind,VL 2 attrT p.node.attrs,VL 3 elemT p.node.flow,VI p.node.grid.rows,VI p.node.grid.cols,VL 5 cellT p.node.grid.cells,VL 4 rectT p.node.grid.merges,VL 8 dopT p.node.draw,VL 1 intT p.shown,VS p.author])])) _ _ e4
end Go.Ch
end
section
set_option linter.unusedVariables false
set_option linter.unusedSimpArgs false
set_option maxRecDepth 100000
set_option maxHeartbeats 4000000
open Go Go.Proofs Go.Ab
namespace Go.Ch
theorem fc_ending(p:Pl)(k:Nat)(hb:PlB p)(hk:k≤1000000000):FC Tryz.prog 61 [.ptr 0 0,VI (k:Int)] (app emp [(0,.box [VI p.node.id,VI p.node.kind,VL 2 attrT p.node.attrs,VL 3 elemT p.node.flow,VI p.node.grid.rows,VI p.node.grid.cols,VL 5 cellT p.node.grid.cells,VL 4 rectT p.node.grid.merges,VL 8 dopT p.node.draw,VL 1 intT p.shown,VS p.author])]) (VL 2 attrT (endP p k)) (app emp [(0,.box [VI p.node.id,VI p.node.kind,VL 2 attrT p.node.attrs,VL 3 elemT p.node.flow,VI p.node.grid.rows,VI p.node.grid.cols,VL 5 cellT p.node.grid.cells,VL 4 rectT p.node.grid.merges,VL 8 dopT p.node.draw,VL 1 intT p.shown,VS p.author])]):=by
 refine .go Tryz.f61 ?_
 have hsl:=hb.sl
 refine .loop (α:=Nat) [.r []] 9 (fun m=>([(0,.ptr 0 0),(1,VI (m:Int))],[(0,.box [VI p.node.id,VI p.node.kind,VL 2 attrT p.node.attrs,VL 3 elemT p.node.flow,VI p.node.grid.rows,VI p.node.grid.cols,VL 5 cellT p.node.grid.cells,VL 4 rectT p.node.grid.merges,VL 8 dopT p.node.draw,VL 1 intT p.shown,VS p.author])])) (fun m=>endK p k=endK p m∧m≤k+p.shown.length) (fun m=>p.shown.length-m) (k:Nat) ?_ ?_
 ·
  exact⟨rfl,by omega⟩
 rintro m I1 ih1
 try dsimp only at I1
 refine .bp [.r [(2,X (Xc4 [(0,0)] (fc_pelem p (m:Int) (by assumption)) X0))]] ((((elemP p (m:Int))).char) !=10) (fun h1=> ?_) (fun h1=> ?_)
 ·
  obtain⟨g1,g2⟩:=endK_go h1
  refine .back [.r [(1,X (Xn ((m:Int)+1)))]] [(0,0)] (ih1 ((m+1):Nat) ?_ ?_)
  ·
   exact⟨I1.1.trans g2,by omega⟩
  ·
   ((try dsimp only);omega)
 ·
  have g3:=I1.1.trans (endK_at h1)
  have bm:=elemP_len hb (m:Int)
  refine .loop (α:=Nat×(List Attr)) [.r [],.r [(2,X (Xc4 [(0,0)] (fc_pelem p (m:Int) (by assumption)) X0)),(4,X (Xl attrT (((elemP p (m:Int))).attrs)))],.le (.nR 5 2)] 106 (fun(i,o)=>([(5,.row 105 o.length),(18,VL 2 attrT (((elemP p (m:Int))).attrs)),(19,VI ((((elemP p (m:Int))).attrs).length:Int)),(20,VI (i:Int))],[(0,.box [VI p.node.id,VI p.node.kind,VL 2 attrT p.node.attrs,VL 3 elemT p.node.flow,VI p.node.grid.rows,VI p.node.grid.cols,VL 5 cellT p.node.grid.cells,VL 4 rectT p.node.grid.merges,VL 8 dopT p.node.draw,VL 1 intT p.shown,VS p.author]),(105,OR 2 attrT o)])) (fun(i,o)=>i≤(elemP p m).attrs.length∧o=((elemP p m).attrs.take i).filter endG) (fun(i,o)=>(elemP p m).attrs.length-i) (0,[]) ?_ ?_
  ·
   exact⟨by omega,rfl⟩
  rintro⟨i,o⟩ I5 ih5
  try dsimp only at I5
  have ol:o.length≤i:=by rw[I5.2];exact Nat.le_trans (List.length_filter_le ..) (by rw[List.length_take];omega)
  refine .bp [.r []] (decide ((i:Int)< ((((elemP p (m:Int))).attrs).length:Int))) (fun h5=> ?_) (fun h5=> ?_)
  ·
   refine .bp [.r [(0,X (Xi attrT (((elemP p (m:Int))).attrs) (i:Int)))],.r [(3,X (Xc0 (fc_hasS [{data:=#[97,100,100]},{data:=#[99,117,116]},{data:=#[104,105,100,100,101,110]},{data:=#[108,111,99,107]},{data:=#[115,101,99,116,105,111,110]},{data:=#[98,114,101,97,107]},{data:=#[115,116,97,114,116]}] ((((((elemP p (m:Int))).attrs).getD i default)).name)) (rowC strT [{data:=#[97,100,100]},{data:=#[99,117,116]},{data:=#[104,105,100,100,101,110]},{data:=#[108,111,99,107]},{data:=#[115,101,99,116,105,111,110]},{data:=#[98,114,101,97,107]},{data:=#[115,116,97,114,116]}] X0))),(7,Xv 1 (!(([{data:=#[97,100,100]},{data:=#[99,117,116]},{data:=#[104,105,100,100,101,110]},{data:=#[108,111,99,107]},{data:=#[115,101,99,116,105,111,110]},{data:=#[98,114,101,97,107]},{data:=#[115,116,97,114,116]}]).any (fun y=>seq ((((((elemP p (m:Int))).attrs).getD i default)).name) y))) X0),(8,Xv 1 (!(([{data:=#[97,100,100]},{data:=#[99,117,116]},{data:=#[104,105,100,100,101,110]},{data:=#[108,111,99,107]},{data:=#[115,101,99,116,105,111,110]},{data:=#[98,114,101,97,107]},{data:=#[115,116,97,114,116]}]).any (fun y=>seq ((((((elemP p (m:Int))).attrs).getD i default)).name) y))) (Xc0 (fc_between ((((((elemP p (m:Int))).attrs).getD i default)).name)) X0)),(9,Xv 1 (!(([{data:=#[97,100,100]},{data:=#[99,117,116]},{data:=#[104,105,100,100,101,110]},{data:=#[108,111,99,107]},{data:=#[115,101,99,116,105,111,110]},{data:=#[98,114,101,97,107]},{data:=#[115,116,97,114,116]}]).any (fun y=>seq ((((((elemP p (m:Int))).attrs).getD i default)).name) y))) X0),(10,X (Xk (!(([{data:=#[97,100,100]},{data:=#[99,117,116]},{data:=#[104,105,100,100,101,110]},{data:=#[108,111,99,107]},{data:=#[115,101,99,116,105,111,110]},{data:=#[98,114,101,97,107]},{data:=#[115,116,97,114,116]}]).any (fun y=>seq ((((((elemP p (m:Int))).attrs).getD i default)).name) y)))))]] (!(([{data:=#[97,100,100]},{data:=#[99,117,116]},{data:=#[104,105,100,100,101,110]},{data:=#[108,111,99,107]},{data:=#[115,101,99,116,105,111,110]},{data:=#[98,114,101,97,107]},{data:=#[115,116,97,114,116]}]).any (fun y=>seq ((((((elemP p (m:Int))).attrs).getD i default)).name) y))&& !(btwB ((((((elemP p (m:Int))).attrs).getD i default)).name))) (fun h7=> ?_) (fun h7=> ?_)
   ·
    refine .back [.r [(3,X (rowC attrT [(((((elemP p (m:Int))).attrs).getD i default))] (Xap 2 attrT 105 o [(((((elemP p (m:Int))).attrs).getD i default))])))],.r [(0,X (Xn ((i:Int)+1)))]] [(0,0),(105,105)] (ih5 ((i+1),(o++[(((((elemP p (m:Int))).attrs).getD i default))])) ?_ ?_)
    ·
     refine⟨by omega,?_⟩
     rw[I5.2,List.take_succ_eq_append_getElem (by omega),List.filter_append]
     first|rw[filter_1 (by omega) (endG_y h7)]|rw[filter_0 (by omega) (endG_n h7),List.append_nil]
    ·
     ((try dsimp only);omega)
   ·
    refine .back [.r [(0,X (Xn ((i:Int)+1)))]] [(0,0),(105,105)] (ih5 ((i+1),o) ?_ ?_)
    ·
     refine⟨by omega,?_⟩
     rw[I5.2,List.take_succ_eq_append_getElem (by omega),List.filter_append]
     first|rw[filter_1 (by omega) (endG_y h7)]|rw[filter_0 (by omega) (endG_n h7),List.append_nil]
    ·
     ((try dsimp only);omega)
  ·
   have e1:((endP p k):List Attr)=o:=by
    rw[I5.2,List.take_of_length_le (by omega)];unfold endP;rw[g3]
   exact .finE [.r [],.le (.fr 4 [(o.length:Nat)=(List.map attrT o).length] ⟨lm,trivial⟩)] [(0,0)] (fun z0:List Attr=>(VL 2 attrT z0,[(0,.box [VI p.node.id,VI p.node.kind,VL 2 attrT p.node.attrs,VL 3 elemT p.node.flow,VI p.node.grid.rows,VI p.node.grid.cols,VL 5 cellT p.node.grid.cells,VL 4 rectT p.node.grid.merges,VL 8 dopT p.node.draw,VL 1 intT p.shown,VS p.author])])) _ _ e1
theorem fc_psteps(p:Pl)(s:Sel)(es:List Elem)(hb:PlB p)(hs:StpB p s es):FC Tryz.prog 62 [.ptr 0 0,.t (selT s),VL 3 elemT es] (app emp [(0,.box [VI p.node.id,VI p.node.kind,VL 2 attrT p.node.attrs,VL 3 elemT p.node.flow,VI p.node.grid.rows,VI p.node.grid.cols,VL 5 cellT p.node.grid.cells,VL 4 rectT p.node.grid.merges,VL 8 dopT p.node.draw,VL 1 intT p.shown,VS p.author])]) (.tup [VL 19 eopT [opF s.nd (stpP p s es)],.t (selT (selP s es)),VI 0]) (app emp [(0,.box [VI p.node.id,VI p.node.kind,VL 2 attrT p.node.attrs,VL 3 elemT p.node.flow,VI p.node.grid.rows,VI p.node.grid.cols,VL 5 cellT p.node.grid.cells,VL 4 rectT p.node.grid.merges,VL 8 dopT p.node.draw,VL 1 intT p.shown,VS p.author])]):=by
 refine .go Tryz.f62 ?_
 refine .len 2 (fun hl2=> ?_)
 obtain⟨s1,q1,q2,v1,v2,v3,d1,d2,d3,m1,m2,m3⟩:=hs
 simp only[ersP,typP] at v1 v2 v3 d1 d2 d3 m1 m2 m3
 have hf:p.node.flow.length≤10000000:=by(have:=hb.len;omega)
 have hsh:=hb.sl
 have hpl:∀x∈(p.shown.take s.tq.toNat).drop s.fr.toNat,0≤x∧x< (p.node.flow.length:Int):=fun x hx=>hb.ok x (List.mem_of_mem_take (List.mem_of_mem_drop hx))
 have hpl2:∀x∈p.shown,0≤x∧x≤1000000000:=fun x hx=>by(have:=hb.ok x hx;omega)
 have hgp:=gapP_bd hb s1
 have e1:([opF s.nd (stpP p s es)]:List EOp)=[({kind:=2,node:=s.nd,nw:=({id:=0,kind:=0,attrs:=[],flow:=[],grid:=({rows:=0,cols:=0,cells:=[],merges:=[]}:Grid),draw:=[]}:Node),attrs:=[],steps:=(joinD (ersD p.node.flow ((p.shown.take (Int.toNat s.tq)).drop (Int.toNat s.fr)) p.author) (pairD1 (typD (p.node.flow).length (gapP p.shown s.fr) es p.author) (ersD p.node.flow ((p.shown.take (Int.toNat s.tq)).drop (Int.toNat s.fr)) p.author))),grid:=({rows:=[],cols:=[],cells:=[],split:=[],merge:=[]}:GEd),draw:=[]}:EOp)]:=by
  rfl
 have e2:((selP s es):Sel)=({nd:=s.nd,fr:=(s.fr+(es.length:Int)),tq:=(s.fr+(es.length:Int))}:Sel):=by
  rfl
 exact .finVE [.r [],.r [],.r [(9,X (Xsb intT 1 p.shown s.fr s.tq)),(14,X (Xc1 193 (fc_erased p.node.flow ((p.shown.take (Int.toNat s.tq)).drop (Int.toNat s.fr)) p.author (by omega) (by assumption)) X0))],.r [(6,X (Xc0 (fc_gapT p.shown s.fr (by omega) (by assumption)) X0))],.r [(7,X (Xc1 329 (fc_typed p.node.flow (gapP p.shown s.fr) es p.author (by omega) (by omega) (by omega) (by assumption)) X0))],.r [(2,X (Xc1 361 (fc_dPair (typD (p.node.flow).length (gapP p.shown s.fr) es p.author) (ersD p.node.flow ((p.shown.take (Int.toNat s.tq)).drop (Int.toNat s.fr)) p.author) (by assumption) (by assumption) (by assumption) (by assumption) (by omega) (by omega)) X0))],.r [],.f,.r [(2,X (Xc1 457 (fc_dJoin (ersD p.node.flow ((p.shown.take (Int.toNat s.tq)).drop (Int.toNat s.fr)) p.author) (pairD1 (typD (p.node.flow).length (gapP p.shown s.fr) es p.author) (ersD p.node.flow ((p.shown.take (Int.toNat s.tq)).drop (Int.toNat s.fr)) p.author)) (by assumption) (by assumption) (by assumption) (by assumption) (by omega)) X0))],.r [],.f,.r [(3,X (Xl elemT es)),(4,X (Xn (s.fr+(es.length:Int))))],.r [(3,X (Xf [(4,2),(5,3),(8,5),(9,4),(10,8),(11,2),(13,2),(14,2),(15,5),(16,4),(17,4),(18,8)]))],.le (.fr 6 [(1:Nat)=(List.map eopT [({kind:=2,node:=s.nd,nw:=({id:=0,kind:=0,attrs:=[],flow:=[],grid:=({rows:=0,cols:=0,cells:=[],merges:=[]}:Grid),draw:=[]}:Node),attrs:=[],steps:=(joinD (ersD p.node.flow ((p.shown.take (Int.toNat s.tq)).drop (Int.toNat s.fr)) p.author) (pairD1 (typD (p.node.flow).length (gapP p.shown s.fr) es p.author) (ersD p.node.flow ((p.shown.take (Int.toNat s.tq)).drop (Int.toNat s.fr)) p.author))),grid:=({rows:=[],cols:=[],cells:=[],split:=[],merge:=[]}:GEd),draw:=[]}:EOp)]).length] ⟨lm,trivial⟩)] [] [(0,0)] (fun((z0,z1):(List EOp)×Sel)=>(.tup [VL 19 eopT z0,.t (selT z1),VI 0],[(0,.box [VI p.node.id,VI p.node.kind,VL 2 attrT p.node.attrs,VL 3 elemT p.node.flow,VI p.node.grid.rows,VI p.node.grid.cols,VL 5 cellT p.node.grid.cells,VL 4 rectT p.node.grid.merges,VL 8 dopT p.node.draw,VL 1 intT p.shown,VS p.author])])) _ _ (pr e1 e2)
theorem fc_endI(p:Pl)(k:Int)(hb:PlB p)(hk:0≤k∧k≤1000000000):FC Tryz.prog 61 [.ptr 0 0,VI k] (app emp [(0,.box [VI p.node.id,VI p.node.kind,VL 2 attrT p.node.attrs,VL 3 elemT p.node.flow,VI p.node.grid.rows,VI p.node.grid.cols,VL 5 cellT p.node.grid.cells,VL 4 rectT p.node.grid.merges,VL 8 dopT p.node.draw,VL 1 intT p.shown,VS p.author])]) (VL 2 attrT (endP p k.toNat)) (app emp [(0,.box [VI p.node.id,VI p.node.kind,VL 2 attrT p.node.attrs,VL 3 elemT p.node.flow,VI p.node.grid.rows,VI p.node.grid.cols,VL 5 cellT p.node.grid.cells,VL 4 rectT p.node.grid.merges,VL 8 dopT p.node.draw,VL 1 intT p.shown,VS p.author])]):=by
 have h:=fc_ending p k.toNat hb (by omega)
 rw[Int.toNat_of_nonneg hk.1] at h
 exact h
def OfFC(t:ByteArray)(cs:List Int):Prop:=∀l:List Attr,chkA false l 0=0→l.length≤10000000→FC Tryz.prog 59 [VS t,VL 2 attrT l] (app emp []) (.tup [.row 0 (cs.map (mkE l)).length,VI 0]) (app emp [(0,OR 3 elemT (cs.map (mkE l)))])
end Go.Ch
end
section
set_option linter.unusedVariables false
set_option linter.unusedSimpArgs false
set_option maxRecDepth 100000
set_option maxHeartbeats 4000000
open Go Go.Proofs Go.Ab
namespace Go.Ch
theorem fc_type(d:Doc)(s:Sel)(t:ByteArray)(cs:List Int)(au:ByteArray)(hof:OfFC t cs)(hb:DocL d)(ht:t.size≤20000)(hx:atE d s au=0→TypB d s cs au):FC Tryz.prog 27 [.t (docT d),.t (selT s),VS t,VS au] (app emp []) (.tup [VL 19 eopT (typeO d s cs au),.t (selT (typeS d s cs au)),VI (atE d s au)]) (app emp []):=by
 refine .go Tryz.f27 ?_
 refine .bp [.r [],.r [(3,X (Xc1 64 (fc_at d s au (by assumption)) X0))],.r []] ((atE d s au) !=0) (fun h2=> ?_) (fun h2=> ?_)
 ·
  have T:=type_1 (cs:=cs) h2
  have e1:((typeO d s cs au):List EOp)=[]:=by
   exact T.1
  have e2:((typeS d s cs au):Sel)=({nd:=0,fr:=0,tq:=0}:Sel):=by
   exact T.2
  exact .finVE [.r [],.le (.nL 8 19)] [] [] (fun((z0,z1):(List EOp)×Sel)=>(.tup [VL 19 eopT z0,.t (selT z1),VI (atE d s au)],[])) _ _ (pr e1 e2)
 ·
  refine .bp [.r []] (decide ((t.size:Int)> 20000)) (fun h4=> ?_) (fun h4=> ?_)
  ·
   exfalso
   omega
  ·
   obtain⟨tp,tc,tl,tr,ts⟩:=hx h2
   have htl:=tp.sl
   have hcl:(List.map (mkE (inhP (atP d s au) s.fr)) cs).length≤1048576:=by(have:=ts.e1;unfold typEl at this;simpa using this)
   refine .loop (α:=Nat×(List Elem)) [.r [(3,X (Xc4 [(0,96)] (fc_inh ((atP d s au)) s.fr (by assumption) (by omega)) X0)),(4,X (Xc1 192 (hof (inhP ((atP d s au)) s.fr) (by assumption) (by omega)) X0))],.r [],.f,.r []] 280 (fun(i,o)=>([(5,.ptr 8 0),(9,.ptr 24 0),(11,.ptr 96 0),(13,.row 192 o.length),(43,VI ((List.map (mkE (inhP ((atP d s au)) s.fr)) cs).length:Int)),(44,VI (i:Int))],[(8,.box [VI s.nd,VI s.fr,VI s.tq]),(24,.box [VI 0,VI 0,VI 0]),(96,.box [VI ((((atP d s au)).node).id),VI ((((atP d s au)).node).kind),VL 2 attrT ((((atP d s au)).node).attrs),VL 3 elemT ((((atP d s au)).node).flow),VI (((((atP d s au)).node).grid).rows),VI (((((atP d s au)).node).grid).cols),VL 5 cellT (((((atP d s au)).node).grid).cells),VL 4 rectT (((((atP d s au)).node).grid).merges),VL 8 dopT ((((atP d s au)).node).draw),VL 1 intT (((atP d s au)).shown),VS (((atP d s au)).author)]),(192,OR 3 elemT o)])) (fun(i,o)=>i≤(cs.map (mkE (inhP (atP d s au) s.fr))).length∧o=((cs.map (mkE (inhP (atP d s au) s.fr))).take i).map (typX (atP d s au) s)++(cs.map (mkE (inhP (atP d s au) s.fr))).drop i) (fun(i,o)=>(cs.map (mkE (inhP (atP d s au) s.fr))).length-i) (0,(List.map (mkE (inhP ((atP d s au)) s.fr)) cs)) ?_ ?_
   ·
    exact⟨by omega,by simp⟩
   rintro⟨i,o⟩ I10 ih10
   try dsimp only at I10
   have ol:o.length=(cs.map (mkE (inhP (atP d s au) s.fr))).length:=by rw[I10.2];simp;omega
   refine .bp [.r []] (decide ((i:Int)< ((List.map (mkE (inhP ((atP d s au)) s.fr)) cs).length:Int))) (fun h10=> ?_) (fun h10=> ?_)
   ·
    have hog:o.getD i default=(cs.map (mkE (inhP (atP d s au) s.fr))).getD i default:=by rw[I10.2];exact mapt_at (by omega)
    refine .bp [.r [],.r [(2,X (Xp elemT o (i:Int))),(4,X (Xe elemT o i))]] ((((o.getD i default)).char)==10) (fun h12=> ?_) (fun h12=> ?_)
    ·
     refine .back [.r [(4,X (Xc4 [(0,96)] (fc_endI ((atP d s au)) s.tq (by assumption) (by omega)) X0)),(5,X (Xp elemT o (i:Int))),(7,X (Xs 3 elemT 192 o i ({char:=((o.getD i default)).char,ref:=((o.getD i default)).ref,attrs:=(endP ((atP d s au)) (s.tq).toNat)}:Elem)))],.r [(0,X (Xn ((i:Int)+1)))],.le (.eq 13 (.row 192 o.length) (.row 192 ((o.set i ({char:=((o.getD i default)).char,ref:=((o.getD i default)).ref,attrs:=(endP ((atP d s au)) (s.tq).toNat)}:Elem)).length)) (.of_eq (by simp only[List.length_set])))] [(8,8),(24,24),(96,96),(192,192)] (ih10 ((i+1),(o.set i ({char:=((o.getD i default)).char,ref:=((o.getD i default)).ref,attrs:=(endP ((atP d s au)) (s.tq).toNat)}:Elem))) ?_ ?_)
     ·
      refine⟨by omega,?_⟩
      rw[←typX_y h12,hog,←mapt_succ (by omega),←I10.2]
     ·
      ((try dsimp only);omega)
    ·
     refine .back [.r [(0,X (Xn ((i:Int)+1)))]] [(8,8),(24,24),(96,96),(192,192)] (ih10 ((i+1),o) ?_ ?_)
     ·
      refine⟨by omega,?_⟩
      rw[←mapt_skip (by omega) (typX_n (by rw[←hog];exact h12)),←I10.2]
     ·
      ((try dsimp only);omega)
   ·
    have ho:o=typEl (atP d s au) s cs:=by rw[I10.2,List.take_of_length_le (by omega),List.drop_eq_nil_of_le (by omega),List.append_nil];rfl
    rw[←ho] at ts
    have T:=type_2 (cs:=cs) h2
    have e3:((typeO d s cs au):List EOp)=[opF (s).nd (stpP ((atP d s au)) s o)]:=by
     rw[T.1,ho]
    have e4:((typeS d s cs au):Sel)=((selP s o)):=by
     rw[T.2,ho]
    have e5:((atE d s au):Int)=0:=by
     exact h2
    exact .finVE [.le (.fr 13 [(o.length:Nat)=(List.map elemT o).length] ⟨lm,trivial⟩),.r [(2,X (Xc4 [(0,96)] (fc_psteps ((atP d s au)) s o (by assumption) (by assumption)) X0))]] [] [] (fun((z0,z1,z2):(List EOp)×Sel×Int)=>(.tup [VL 19 eopT z0,.t (selT z1),VI z2],[])) _ _ (pr e3 (pr e4 e5))
end Go.Ch
end
