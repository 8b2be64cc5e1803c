/- Runs of operations over documents that commands make. -/
import Derived.Test.YtlgmgpnjkadhfaaGreatDoorM1
import Derived.Test.YtlgmgpnjkadhfaaGreatDoorM2
import Derived.Test.YtlgmgpnjkadhfaaGreatDoorM3
import Derived.Test.YtlgmgpnjkadhfaaGreatDoorM4
import Derived.Test.YtlgmgpnjkadhfaaGreatDoorM5
import Derived.Test.YtlgmgpnjkadhfaaGreatDoorRows
import Derived.JoinedOf
import Derived.ProofKit
set_option linter.unusedVariables false
set_option linter.unusedSimpArgs false
section
namespace Go.Ch
open Go Go.Ab
variable {U:US}
structure PP(U:US)(s:Int)(k:Nat)(l:List Node):Prop where
 gp:GP U (10+4*k) l
 len:l.length<=3+k
 id:∀n∈l,n.id< (s+1)*65536/\(n.id<4+k\/65536<=n.id)
theorem PP.mono{s:Int}{k k':Nat}{l:List Node}(h:PP U s k l)(hk:k<=k'):PP U s k' l:=
 ⟨h.gp.mono (by omega),by have:=h.len;omega,fun n hn=>by have:=h.id n hn;omega⟩
theorem PP.docL(hU:UB U){s:Int}{k:Nat}{d:Doc}(h:PP U s k d.nodes)(hk:k<=60):DocL d:=y40 hU (m:=10+4*k) (q:=63) (by omega) (by omega) (by have:=h.len;omega) h.gp.nd
theorem PP.doc{s:Int}{k:Nat}{d:Doc}(h:PP U s k d.nodes):docE d=0:=z98.2 h.gp.vd
theorem y6C{l:List Node}{n:Node}(hl:∀x∈l,x.id<n.id):lobN l n.id=l.length:=by
 obtain⟨s1,s2,s3⟩:=z1L l n.id
 apply qd;intro q
 exact s3 (by omega) (hl _ (z0h (by omega)))
theorem z6p(hU:UB U){s:Int}{k:Nat}{l:List Node}{o:EOp}(h:PP U s k l)(hk:k<=60)(hok:eopE o=0)(hop:OpL o)(hl:o.kind=0->∀x∈l,x.id<o.nw.id):OneB l o:=
 ⟨by have:=h.len;omega,h.gp.vd.srt,hok,hop,fun n hn=>⟨(h.gp.nd n hn).1.b hU (h.gp.nd n hn).2 (by omega),(h.gp.nd n hn).1.lite,(h.gp.nd n hn).1.kd⟩,fun q _=>y6C (hl q)⟩
theorem z7Y:NodeB ⟨0,0,[],[],⟨0,0,[],[]⟩,[]⟩:=
 ⟨(fun a h=>by cases h),by decide,(fun x h=>by cases h),by decide,(fun x h=>by cases h),(fun c h=>by cases h),by decide,(fun c h=>by cases h),by decide,by decide,(fun o h=>by cases h)⟩
theorem y1L:LiteE ⟨[],[],[],[],[]⟩:=⟨rfl,rfl,(fun c h=>by cases h),by decide⟩
theorem y1M{k n:Int}{w:Node}{a:List Attr}{s:List DStep}{c:List DOp}:EopL ⟨k,n,w,a,s,⟨[],[],[],[],[]⟩,c⟩:=⟨qU _,qU _,qU _,qU _,qU _⟩
theorem opL_F(hU:UB U){k:Int}{s:List DStep}{us:List DU}(hd:DU_ U s us):OpL (opF k s):=
 ⟨y1M,z7Y,⟨rfl,(fun c h=>by cases h)⟩,qU _,(hd.dn hU.len).mono (by omega),y1L,(fun c h=>by cases h),qU _⟩
theorem opL_A{k:Int}{c:List Attr}(hc:c.length<=1048576):OpL (opA k c):=
 ⟨y1M,z7Y,⟨rfl,(fun c h=>by cases h)⟩,hc,(fun s h=>by cases h),y1L,(fun c h=>by cases h),qU _⟩
theorem opL_D{k:Int}{c:List DOp}(hc:c.length<=1048576):OpL (opD k c):=
 ⟨y1M,z7Y,⟨rfl,(fun c h=>by cases h)⟩,qU _,(fun s h=>by cases h),y1L,(fun c h=>by cases h),hc⟩
theorem opL_N(hU:UB U){n:Node}{m:Nat}(hg:NG U n)(hz:NZ m n)(hm:m<=1048576):OpL (opN n):=
 ⟨y1M,hg.b hU hz hm,hg.lite,qU _,(fun s h=>by cases h),y1L,(fun c h=>by cases h),qU _⟩
theorem opL_G{k:Int}{g:GEd}(hl:LiteE g)(h1:g.rows.length<=1048576)(h2:g.cols.length<=1048576)(hc:∀c∈g.cells,c.attrs=[]/\c.text.size=0):OpL (opG k g):=
 ⟨⟨h1,h2,hl.ln,by have:=hl.sp;show g.split.length<=_;omega,by have:=hl.me;show g.merge.length<=_;omega⟩,z7Y,⟨rfl,(fun c h=>by cases h)⟩,qU _,(fun s h=>by cases h),hl,(fun c h=>by rw[(hc c h).1];decide),qU _⟩
def RunG(P:List Node->Prop):List Node->List EOp->Prop
 |l,[]=>P l
 |l,o::c=>P l/\OneB l o/\(oneE l o=0->RunG P (oneL l o) c)
theorem RunG.b{P:List Node->Prop}:∀{l:List Node} {c:List EOp},RunG P l c->RunB l c
 |_,[],_=>trivial
 |_,_::_,h=>⟨h.2.1,fun q=>(h.2.2 q).b⟩
theorem RunG.fin{P:List Node->Prop}:∀{l:List Node} {c:List EOp},RunG P l c->runE l c=0->P (runL l c)
 |_,[],h,_=>h
 |l,o::c,h,h0=>by
  rw[runE] at h0
  split at h0
  ·rename_i q;exact absurd h0 q
  ·rename_i q;exact(h.2.2 (qd q)).fin h0
theorem run1(hU:UB U){s:Int}{k:Nat}{l:List Node}{o:EOp}(h:PP U s k l)(hk:k<=57)(ho:OneB l o)(hn:oneE l o=0->PP U s (k+3) (oneL l o)):RunG (PP U s (k+3)) l [o]:=⟨h.mono (by omega),ho,hn⟩
theorem y1N(l:List Node)(s:Int):∀m,(nxtF l s m=s*65536\/∃n∈l,n.id/65536=s/\n.id=nxtF l s m)/\(SortN l->m<=l.length->∀i,i<m->(l.getD i default).id/65536=s->(l.getD i default).id<=nxtF l s m)
 |0=>⟨.inl (by simp[nxtF]),fun _ _ i hi=>by omega⟩
 |m+1=>by
  obtain⟨a,b⟩:=y1N l s m
  by_cases hm:m<l.length
  ·rw[z6f hm]
   split
   ·rename_i q
    refine⟨.inr ⟨_,z0h hm,q,rfl⟩,fun hs hl i hi hq=> ?_⟩
    by_cases e:i=m
    ·subst e;exact zy _
    ·have:=hs i m (by omega) hm;omega
   ·rename_i q
    refine⟨a,fun hs hl i hi hq=> ?_⟩
    by_cases e:i=m
    ·subst e;exact absurd hq q
    ·exact b hs (by omega) i (by omega) hq
  ·have e:nxtF l s (m+1)=nxtF l s m:=by unfold nxtF;rw[qn (by omega),qn (by omega)]
   rw[e]
   exact⟨a,fun hs hl=>by omega⟩
theorem y0b{s:Int}{k:Nat}{d:Doc}(hs:0<=s/\s<=1000)(h:PP U s k d.nodes)(h0:nextE d s=0):(∀x∈d.nodes,x.id<nextN d s)/\1<=nextN d s/\nextN d s< (s+1)*65536/\(nextN d s<4+(k+1:Nat)\/65536<=nextN d s):=by
 have hd:=h.doc
 have hb:nxtF d.nodes s d.nodes.length%65536≠65535:=by
  intro q
  rw[(y7c hd hs q).2] at h0;cases h0
 have e:nextN d s=nxtF d.nodes s d.nodes.length+1:=(y7d hd hs hb).1
 obtain⟨a,b⟩:=y1N d.nodes s d.nodes.length
 have hids:=y3W hd
 generalize nxtF d.nodes s d.nodes.length=z at a b hb e
 rw[e]
 have hz:s*65536<=z/\z< (s+1)*65536- 1/\(z<4+k\/65536<=z):=by
  rcases a with a| ⟨n,hn,q1,q2⟩
  ·have:s=0\/1<=s:=by omega
   omega
  ·have:=h.id n hn;omega
 refine⟨fun x hx=> ?_,by omega,by omega,by omega⟩
 obtain⟨j,hj,rfl⟩:=z0D hx
 have h1:=h.id _ hx
 have h2:=hids _ hx
 by_cases q:(d.nodes.getD j default).id/65536=s
 ·have:=b h.gp.vd.srt (qt _) j hj q;omega
 ·omega
end Go.Ch
end
section
namespace Go.Ch
open Go Go.Ab
variable {U:US}
structure UN(U:US):Prop extends UB U where
 ti:({data:=#[116,105,116,108,101]}:ByteArray)∈U
 bo:({data:=#[98,111,108,100]}:ByteArray)∈U
 si:({data:=#[115,105,122,101]}:ByteArray)∈U
 ma:({data:=#[109,97,114,107,46,109]}:ByteArray)∈U
 he:({data:=#[104,101,97,100]}:ByteArray)∈U
 li:({data:=#[108,105,115,116]}:ByteArray)∈U
 al:({data:=#[97,108,105,103,110]}:ByteArray)∈U
 ki:kindB∈U
def NmZ(U:US)(c:List Attr):Prop:=∀a∈c,a.name∈U/\a.val∉U.no
theorem vu_of{e:Bool}{l:List Attr}(h:VG e l)(hn:NmZ U l):VU U e l:=⟨h.1,fun a ha=>⟨⟨(h.2 a ha).1,(hn a ha).1⟩,(h.2 a ha).2.imp (fun q=>⟨q,(hn a ha).2⟩) (fun q=>q)⟩⟩
theorem y9r{n:Node}(h:eopE (opN n)=0):nodeE n=0:=by
 unfold eopE at h
 split at h
 ·cases h
 split at h
 ·cases h
 ·rwa [if_pos (show(opN n).kind=0 from rfl)] at h
theorem y9s{k:Int}{c:List Attr}(h:eopE (opA k c)=0):chkA true c 0=0:=by
 unfold eopE at h
 split at h
 ·cases h
 split at h
 ·cases h
 rw[if_neg (show¬(opA k c).kind=0 from(by decide:¬(1:Int)=0))] at h
 split at h
 ·cases h
 ·rwa [if_pos (show(opA k c).kind=1 from rfl)] at h
theorem y9t{k:Int}{c:List DOp}(h:eopE (opD k c)=0):drawE c 0=0:=by
 unfold eopE at h
 split at h
 ·cases h
 split at h
 ·cases h
 rw[if_neg (show¬(opD k c).kind=0 from(by decide:¬(4:Int)=0))] at h
 split at h
 ·cases h
 ·rwa [if_neg (show¬(opD k c).kind=1 from(by decide:¬(4:Int)=1)),if_neg (show¬(opD k c).kind=2 from(by decide:¬(4:Int)=2)),if_neg (show¬(opD k c).kind=3 from(by decide:¬(4:Int)=3))] at h
theorem z1M(hU:UB U){s:Int}{k:Nat}{d:Doc}(h:PP U s k d.nodes)(hk:k<=60){S:Sel}{au:ByteArray}(hz:au∉U.no)(h0:atE d S au=0):
 PlB (atP d S au)/\(atP d S au).node.flow.length<=1048576/\(∀x∈(atP d S au).node.flow,RU U x)/\AuB U (atP d S au).author/\(0<=S.fr/\S.fr<=S.tq/\S.tq< ((atP d S au).shown.length:Int)):=by
 obtain⟨a1,a2,a3,a4,a5,a6⟩:=y8u h0
 have hm:=z0h (l:=d.nodes) (z06.1 a2).1
 obtain⟨g,z⟩:=h.gp.nd _ hm
 have hl:(ndN d.nodes S.nd).flow.length<=1048576:=by have:=z.fl;unfold ndN;omega
 rw[a6]
 exact⟨y9p hU g hl,hl,g.fl,⟨a5,hz⟩,a4⟩
theorem z7Z{t:ByteArray}(h:AscN t):∀c∈ascC t,CharP c/\c≠0:=by
 intro c hc
 unfold ascC at hc
 obtain⟨i,hi,rfl⟩:=qC.1 hc
 have:=h i (zL.1 hi)
 unfold CharP;omega
theorem z5u(t:ByteArray):(ascC t).length=t.size:=by simp[ascC]
theorem z2C(p:Pl)(s:Sel)(cs:List Int):(typEl p s cs).length=cs.length:=by simp[typEl]
theorem y1O{r:Int}{l:List Attr}(h:1<=r/\r<=1073741824)(hl:VU U false l):RU U ⟨0,r,l⟩:=by
 refine⟨?_,hl⟩
 rw[z3u (x:=⟨0,r,l⟩) (fun q=>by have:=q.1 rfl;simp only at this;omega) (.inl (by simp only;omega)) (.inr h)]
 exact z05.2 hl.g
theorem y8y(hU:UB U)(hZ:U.no=[]){s:Int}(hs:0<=s/\s<=1000){k:Nat}{d:Doc}(h:PP U s k d.nodes)(hk:k<=60)(b c:Int):CmdB d s b c:=by
 have hL:=h.docL hU hk
 have hno:∀v:ByteArray,v∉U.no:=fun v=>by rw[hZ];simp
 have hM:=z91 hL b
 have hF:=y4E hL b c
 have hT:=z0m (IntKind.i64.wrap (c.tdiv 11)) (lo:=cmdF d b c) (hi:=min (cmdM d b) (cmdF d b c+4)) (by omega)
 refine⟨fun t au ht hn h0=> ?_,fun h0=>(z1M hU h hk (hno _) h0).1,fun h0=>⟨(z1M hU h hk (hno _) h0).1,hF.1,hT.1,?_⟩,fun n h0 h1=> ?_,?_⟩
 ·obtain⟨p1,p2,p3,p4,p5⟩:=z1M hU h hk (hno _) h0
  have hi:=z4E p1 p3 (cmdS d b c).fr
  exact⟨p1,z05.2 hi.g,by have:=hi.len hU.len;omega,p5,(z6m hU p1 p2 p3 p4 p5 (by rw[z2C,z5u];omega) (z5r p1 p3 (z7Z ht))).1⟩
 ·have:=hT.2
  show cmdT d b c<=1000000000
  unfold cmdT;omega
 ·obtain⟨p1,p2,p3,p4,p5⟩:=z1M hU h hk (hno _) h0
  obtain⟨n1,n2,n3,n4⟩:=y0b hs h h1
  exact⟨p1,⟨p5.1,by have:=p5.2;have:=p1.sl;omega⟩,(z6m hU p1 p2 p3 p4 p5 (by simp[objX]) (fun x hx=>by
   rw[show x=⟨0,nextN d s,inhP (atP d (cmdS d b c) {data:=#[]}) (cmdS d b c).fr⟩ by simpa[objX] using hx]
   exact y1O (by omega) (z4E p1 p3 _))).1⟩
 ·have hz:∀n:Node,nodeE n=0\/n.draw=[]-> -1<=lastC n/\lastC n<=1000000000000:=fun n hn=>by
   unfold lastC
   split
   ·rename_i q
    rcases hn with hn|hn
    ·have ho:=(z7X.1 (z4H hn)).1 _ (z0h (l:=n.draw) (i:=n.draw.length- 1) (by omega))
     unfold opE at ho
     split at ho
     ·cases ho
     ·split at ho
      ·cases ho
      ·omega
    ·rw[hn] at q;exact absurd q (by decide)
   ·omega
  refine hz _ ?_
  unfold nodeF
  split
  ·exact .inr rfl
  ·by_cases q:(findD d.nodes (pickP d b [10,8]) 0).toNat<d.nodes.length
   ·exact .inl (h.gp.vd.node _ (z0h q))
   ·rw[qc,zO (by omega)];exact .inr rfl
theorem PP.next{s:Int}{k k':Nat}{l:List Node}{o:EOp}(h:PP U s k l)(hkk:k<=k')(hk:o.kind≠0)(h0:oneE l o=0)(hg:GP U (10+4*k') (oneL l o)):PP U s k' (oneL l o):=by
 obtain⟨a,b⟩:=y8w hk h0
 refine⟨hg,by have:=h.len;omega,fun x hx=> ?_⟩
 obtain⟨n,hn,e⟩:=b x hx
 have:=h.id n hn
 omega
def CR(U:US)(s:Int)(k:Nat)(l:List Node)(c:List EOp):Prop:=(∀o∈c,OpL o)/\((∀o∈c,eopE o=0)->RunG (PP U s (k+3)) l c)
theorem CR.nil{s:Int}{k:Nat}{l:List Node}(h:PP U s k l):CR U s k l []:=⟨(fun o ho=>by cases ho),fun _=>h.mono (by omega)⟩
theorem CR.one(hU:UB U){s:Int}{k:Nat}{l:List Node}{o:EOp}(h:PP U s k l)(hk:k<=57)(ho:OpL o)(h0:o.kind≠0)(hn:eopE o=0->oneE l o=0->GP U (10+4*(k+3)) (oneL l o)):CR U s k l [o]:=by
 refine⟨fun x hx=>by rw[qy] at hx;subst hx;exact ho,fun he=> ?_⟩
 have he:=he o (by simp)
 exact run1 hU h hk (z6p hU h (by omega) he ho (fun q=>absurd q h0)) (fun q=>h.next (by omega) h0 q (hn he q))
theorem CR.two(hU:UB U){s:Int}{k:Nat}{l:List Node}{n:Node}{o:EOp}(h:PP U s k l)(hk:k<=57)(hg:NG U n)(hz:NZ 10 n)(hid:(∀x∈l,x.id<n.id)/\n.id< (s+1)*65536/\(n.id<4+(k+1:Nat)\/65536<=n.id))
 (ho:OpL o) (h0:o.kind≠0) (hn:∀l',PP U s (k+1) l'->eopE o=0->oneE l' o=0->GP U (10+4*(k+3)) (oneL l' o)):CR U s k l [opN n,o]:=by
 refine⟨fun x hx=> ?_,fun he=> ?_⟩
 ·simp only[qj,qS,or_false] at hx
  rcases hx with rfl|rfl
  ·exact opL_N hU hg hz (by decide)
  ·exact ho
 ·have e1:=he (opN n) (by simp)
  have e2:=he o (by simp)
  refine⟨h.mono (by omega),z6p hU h (by omega) e1 (opL_N hU hg hz (by decide)) (fun _=>hid.1),fun q=> ?_⟩
  obtain⟨k1,k2⟩:=keepN h.gp hg (hz.mono (by omega)) (y9r e1) hid.1 q
  rw[k1]
  have hp:PP U s (k+1) (l++[n]):=⟨k2.mono (by omega),by have:=h.len;rw[qf,zN];omega,fun x hx=>by
   rcases qp.1 hx with z|z
   ·have:=h.id x z;omega
   ·rw[qy] at z;subst z;exact hid.2⟩
  exact⟨hp.mono (by omega),z6p hU hp (by omega) e2 ho (fun z=>absurd z h0),fun q2=>hp.next (by omega) h0 q2 (hn _ hp e2 q2)⟩
theorem y0c(hU:UB U){s:Int}{k:Nat}{d:Doc}(h:PP U s k d.nodes)(hk:k<=57){S:Sel}{t au:ByteArray}(hz:au≠zzB)(ht:AscN t)(hl:t.size<=12):CR U s k d.nodes (typeO d S (ascC t) au):=by
 unfold typeO
 split
 ·exact .nil h
 ·rename_i q
  have h0:atE d S au=0:=qd q
  obtain⟨p1,p2,p3,p4,p5⟩:=z1M hU h (by omega) (hU.no hz) h0
  obtain⟨_,⟨us,hd⟩,e1,e2⟩:=z6m hU p1 p2 p3 p4 p5 (es:=typEl (atP d S au) S (ascC t)) (by rw[z2C,z5u];omega) (z5r p1 p3 (z7Z ht))
  rw[z2C,z5u] at e2
  exact .one hU h hk (opL_F hU hd) (show(2:Int)≠0 by decide) (fun _ z=>(keepF h.gp hd (q:=12) (by omega) z).mono (by omega))
theorem y47(hU:UB U){c:List Attr}{f:List Bool}{n:Nat}(hc:VU U true c)(hn:n<=100000000):DU_ U (rstD c f n) ((List.range n).map (rstU c f))/\newD (rstD c f n)=oldD (rstD c f n)/\oldN ((List.range n).map (rstU c f))=n:=by
 have hall:∀u∈(List.range n).map (rstU c f),UU U u:=fun u hu=>by
  obtain⟨i,_,rfl⟩:=qC.1 hu
  unfold rstU;split
  ·exact hc
  ·exact VU.nil
 have hnum:∀m,oldN ((List.range m).map (rstU c f))=m/\newN ((List.range m).map (rstU c f))=m:=fun m=>by
  induction m with
  |zero=>exact⟨rfl,rfl⟩
  |succ m ih=>
   rw[zG,qX,z0E,z1o,ih.1,ih.2,qV,zR]
   have:oldN [rstU c f m]=1/\newN [rstU c f m]=1:=by unfold rstU;split<;>simp[oldN,newN]
   omega
 have hq:=hnum n
 have e:rstD c f n=doneD ((List.range n).map (rstU c f)):=(z6T (fun u hu=>(UU.s hU.len (hall u hu)).ok) (by simp;omega)).1
 have hd:DU_ U (rstD c f n) ((List.range n).map (rstU c f)):=by rw[e];exact .done hU.len hall (by omega) (by omega)
 have hl:=hd.lens
 exact⟨hd,by omega,hq.1⟩
theorem y8z(hU:UB U){c:List Attr}{f:List Bool}{n:Nat}(hc:VU U true c)(hn:n<=100000000):∃us,DU_ U (rstD c f n) us/\newD (rstD c f n)=oldD (rstD c f n):=
 ⟨_,(y47 hU hc hn).1,(y47 hU hc hn).2.1⟩
theorem y9u(hU:UB U){s:Int}{k:Nat}{d:Doc}(h:PP U s k d.nodes)(hk:k<=57){S:Sel}{c:List Attr}(hn:NmZ U c)(w:Int->Bool)(h0:fmtE d S c=0):CR U s k d.nodes (fmtL (atP d S {data:=#[]}) c w):=by
 have h1:atE d S {data:=#[]}=0:=by
  apply qd;intro q
  rw[y4n q] at h0;exact q h0
 have h2:chkA true c 0=0:=by rw[z83 h1] at h0;exact h0
 obtain⟨p1,p2,p3,p4,p5⟩:=z1M hU h (by omega) (hU.no (by decide)) h1
 obtain⟨us,hd,e⟩:=y8z hU (f:=rstF w (atP d S {data:=#[]}).shown (atP d S {data:=#[]}).node.flow.length (atP d S {data:=#[]}).shown.length) (n:=(atP d S {data:=#[]}).node.flow.length) (vu_of (z05.1 h2) hn) (by omega)
 exact .one hU h hk (opL_F hU hd) (show(2:Int)≠0 by decide) (fun _ z=>(keepF h.gp hd (q:=0) (by omega) z).mono (by omega))
theorem y48(hU:UB U){s:Int}(hs:0<=s/\s<=1000){k:Nat}{d:Doc}(h:PP U s k d.nodes)(hk:k<=57){S:Sel}{n:Node}{au:ByteArray}(hau:au≠zzB)(hg:NG U n)(hz:NZ 10 n):CR U s k d.nodes (objO d S n s au):=by
 unfold objO
 split
 ·exact .nil h
 ·rename_i q
  have h0:objE d S n s au=0:=qd q
  have h1:atE d S au=0:=by
   apply qd;intro z
   rw[(obj_1 z).2.2] at h0;exact z h0
  have h2:nextE d s=0:=by
   unfold objE at h0
   rw[if_neg (fun z=>z h1)] at h0
   split at h0
   ·cases h0
   ·split at h0
    ·rename_i z;exact absurd h0 z
    ·rename_i z;exact qd z
  obtain⟨p1,p2,p3,p4,p5⟩:=z1M hU h (by omega) (hU.no hau) h1
  obtain⟨n1,n2,n3,n4⟩:=y0b hs h h2
  obtain⟨_,⟨us,hd⟩,e1,e2⟩:=z6m hU p1 p2 p3 p4 p5 (es:=objX d S s au) (by simp[objX]) (fun x hx=>by
   rw[show x=⟨0,nextN d s,inhP (atP d S au) S.fr⟩ by simpa[objX] using hx]
   exact y1O (by omega) (z4E p1 p3 _))
  have e3:(objX d S s au).length=1:=rfl
  exact .two hU h hk ⟨hg.at1,hg.fl,hg.mg,hg.ce,hg.dr,hg.kd⟩ ⟨hz.fl,hz.ce,hz.dr⟩ ⟨n1,n3,n4⟩ (opL_F hU hd) (show(2:Int)≠0 by decide) (fun l' hp _ z=>(keepF hp.gp hd (q:=1) (by omega) z).mono (by omega))
theorem y1P(m a n:Int):(shfL m a n).length<=4:=by
 unfold shfL
 split
 ·simp
 ·split
  ·simp
  ·unfold shfX
   have w1:=z2O 0 a
   have w2:=z2O 1 n
   have w3:=z2O 2 (0-n)
   have w4:=z2O 0 ((m-a)- max 0 (0-n))
   simp only[qf,zd];omega
theorem y49(hU:UB U){s:Int}{k:Nat}{l:List Node}(h:PP U s k l)(hk:k<=57)(i:Int){r c:List AxStep}(hr:r.length<=4)(hc:c.length<=4):CR U s k l [opG i ⟨r,c,[],[],[]⟩]:=by
 have hl:LiteE ⟨r,c,[],[],[]⟩:=⟨rfl,rfl,(fun c h=>by cases h),by simp⟩
 exact .one hU h hk (opL_G hl (by simp only;omega) (by simp only;omega) (fun c h=>by cases h)) (show(3:Int)≠0 by decide) (fun _ z=>(keepG h.gp hl (fun c h=>by cases h) (by omega) z).mono (by simp;omega))
theorem y8A(hU:UB U){s:Int}(hs:0<=s/\s<=1000){k:Nat}{d:Doc}(h:PP U s k d.nodes)(hk:k<=57)(i r c:Int):CR U s k d.nodes (celO d i r c s):=by
 unfold celO
 split
 ·exact .nil h
 ·rename_i q
  have h0:celE d i r c s=0:=qd fun z=>q (.inl z)
  have hi:¬0<=celI d i r c:=fun z=>q (.inr z)
  have h2:nextE d s=0:=by
   unfold celE at h0
   split at h0
   ·rename_i z;exact absurd h0 z
   split at h0
   ·cases h0
   split at h0
   ·cases h0
   first|exact h0|rwa [if_neg hi] at h0
  obtain⟨n1,n2,n3,n4⟩:=y0b hs h h2
  have hl:LiteE ⟨[],[],[⟨r,c,{data:=#[]},nextN d s,[]⟩],[],[]⟩:=⟨rfl,rfl,fun x hx=>by rw[show x=⟨r,c,{data:=#[]},nextN d s,[]⟩ by simpa using hx];rfl,by simp⟩
  have hc:∀x∈[(⟨r,c,{data:=#[]},nextN d s,[]⟩:Cell)],x.attrs=[]/\x.text.size=0:=fun x hx=>by rw[show x=⟨r,c,{data:=#[]},nextN d s,[]⟩ by simpa using hx];exact⟨rfl,rfl⟩
  exact .two hU h hk ⟨VU.nil,fun x hx=>by rw[show x=⟨10,0,[]⟩ by simpa[celM] using hx];exact y1F,rfl,(fun x hx=>by cases hx),(fun x hx=>by cases hx),by simp[celM]⟩ ⟨by simp[celM],by simp[celM],by simp[celM]⟩ ⟨n1,n3,n4⟩ (opL_G hl (by simp) (by simp) hc) (show(3:Int)≠0 by decide) (fun l' hp _ z=>(keepG hp.gp hl hc (by omega) z).mono (by simp;omega))
theorem z1r{Q:List EOp->Prop}{p:Prop}[Decidable p]{x y:List EOp}(hx:p->Q x)(hy:¬p->Q y):Q (if p then x else y):=by
 split
 ·rename_i h;exact hx h
 ·rename_i h;exact hy h
theorem y2E(k:Nat):(txt5.getD k default).size<=12:=by
 refine z5n (P:=fun t:ByteArray=>t.size<=12) (fun t ht=> ?_) (by decide) k
 simp only[txt5,qj,qS,or_false] at ht
 rcases ht with rfl|rfl|rfl|rfl|rfl<;>decide
theorem getD3{a b c:ByteArray}(ha:a∈U)(hb:b∈U)(hc:c∈U){i:Int}(hi:0<=i/\i<=2):[a,b,c].getD i.toNat default∈U:=by
 obtain⟨j,hj⟩:∃j,i.toNat=j:=⟨_,rfl⟩
 have:j=0\/j=1\/j=2:=by omega
 rw[hj]
 rcases this with rfl|rfl|rfl
 ·exact ha
 ·exact hb
 ·exact hc
theorem z4m(hU:UB U){a:Attr}(h:a.name∈U)(hv:a.val≠zzB):NmZ U [a]:=fun x hx=>by rw[qy] at hx;subst hx;exact⟨h,hU.no hv⟩
theorem y5a{a b c:ByteArray}(ha:a≠zzB)(hb:b≠zzB)(hc:c≠zzB){i:Int}(hi:0<=i/\i<=2):[a,b,c].getD i.toNat default≠zzB:=by
 obtain⟨j,hj⟩:∃j,i.toNat=j:=⟨_,rfl⟩
 have:j=0\/j=1\/j=2:=by omega
 rw[hj]
 rcases this with rfl|rfl|rfl
 ·exact ha
 ·exact hb
 ·exact hc
theorem y9v(r c:Int):NG U (tblN r c):=⟨VU.nil,(fun x h=>by cases h),rfl,(fun x h=>by cases h),(fun x h=>by cases h),(by decide:(2:Int)≠6)⟩
theorem y9w(hN:UN U):NG U (fldN seqA):=
 ⟨vu_of (z05.1 y4C) (z4m hN.toUB hN.ki (by decide)),(fun x h=>by cases h),rfl,(fun x h=>by cases h),(fun x h=>by cases h),(by decide:(5:Int)≠6)⟩
theorem y9x(hN:UN U)(e:Bool):NG U (notN e):=by
 refine⟨vu_of ?_ (z4m hN.toUB hN.ki (by cases e<;>decide)),fun x hx=> ?_,rfl,(fun x h=>by cases h),(fun x h=>by cases h),(by decide:(4:Int)≠6)⟩
 ·cases e<;>exact z05.1 (by decide+kernel)
 ·rw[show x=⟨10,0,[]⟩ by simpa[notN] using hx];exact y1F
theorem nz_of{n:Node}(h1:n.flow.length<=10)(h2:n.grid.cells.length<=10)(h3:n.draw.length<=10):NZ 10 n:=⟨h1,h2,h3⟩
theorem y5b(hN:UN U){s:Int}(hs:0<=s/\s<=1000){k:Nat}{d:Doc}(h:PP U s k d.nodes)(hk:k<=57)(a b c:Int):CR U s k d.nodes (cmdP d s a b c):=by
 have hU:=hN.toUB
 have hmt:([]:List EOp)=[]:=rfl
 have fmt:∀(S:Sel) (cs:List Attr) (w:Int->Bool),NmZ U cs->CR U s k d.nodes (if fmtE d S cs≠0 then[] else fmtL (atP d S {data:=#[]}) cs w):=fun S cs w hc=>
  z1r (fun _=> .nil h) (fun q=>y9u hU h hk hc w (qd q))
 unfold cmdP
 refine z1r (fun _=>y0c hU h hk (by decide) (z4f _) (y2E _)) (fun _=>z1r (fun _=>y0c hU h hk (by decide) y4A (by decide)) (fun _=>z1r (fun _=>y0c hU h hk (by decide) asc_t (by decide)) (fun _=>
  z1r (fun _=>fmt _ _ _ (z4m hU ?_ ?_)) (fun _=>z1r (fun _=>fmt _ _ _ (z4m hU ?_ ?_)) (fun _=>
  z1r (fun _=>y48 hU hs h hk (by decide) (y9v _ _) (nz_of (by simp[tblN]) (by simp[tblN]) (by simp[tblN]))) (fun _=>z1r (fun _=>y48 hU hs h hk (by decide) (y9x hN _) (nz_of (by simp[notN]) (by simp[notN]) (by simp[notN]))) (fun _=>z1r (fun _=>y48 hU hs h hk (by decide) (y9w hN) (nz_of (by simp[fldN]) (by simp[fldN]) (by simp[fldN]))) (fun _=>
  z1r (fun _=>z1r (fun _=> .nil h) (fun _=>y49 hU h hk _ (y1P _ _ _) (by simp))) (fun _=>z1r (fun _=>z1r (fun _=> .nil h) (fun _=>y49 hU h hk _ (by simp) (y1P _ _ _))) (fun _=>
  z1r (fun _=>y8A hU hs h hk _ _ _) (fun _=>z1r (fun _=> ?_) (fun _=> ?_))))))))))))
 ·exact getD3 hN.bo hN.si hN.ma (z0m _ (by decide))
 ·exact y5a (by decide) (by decide) (by decide) (z0m _ (by decide))
 ·exact getD3 hN.he hN.li hN.al (z0m _ (by decide))
 ·exact y5a (by decide) (by decide) (by decide) (z0m _ (by decide))
 ·refine .one hU h hk (opL_D (by simp)) (show(4:Int)≠0 by decide) (fun e z=>(y9q h.gp (fun o ho=> ?_) (y9t e) z).mono (by simp;omega))
  rw[qy] at ho;subst ho
  exact⟨(by decide:({data:=#[98]}:ByteArray).size<=100),(by decide:mtB.size<=100),(by decide:mtB.size<=100)⟩
 ·exact .one hU h hk (opL_A (by simp)) (show(1:Int)≠0 by decide) (fun e z=>(keepA h.gp (vu_of (z05.1 (y9s e)) (z4m hN.toUB hN.ti (y5a (by decide) (by decide) (by decide) (z0m _ (by decide))))) z).mono (by omega))
end Go.Ch
end
section
namespace Go.Ch
open Go Go.Ab
def UC:List ByteArray:=[addB,cutB,{data:=#[116,105,116,108,101]},{data:=#[98,111,108,100]},{data:=#[115,105,122,101]},{data:=#[109,97,114,107,46,109]},{data:=#[104,101,97,100]},{data:=#[108,105,115,116]},{data:=#[97,108,105,103,110]},kindB]
theorem y1Q(V:List ByteArray)(hV:V.length<=90)(Z:List ByteArray)(hZ:∀v∈Z,v=zzB):UN ⟨UC++V,Z⟩:=by
 have h:∀x∈UC,x∈(⟨UC++V,Z⟩:US):=fun x hx=>zQ _ hx
 exact⟨⟨by show(UC++V).length<=100;rw[qf];have:UC.length=10:=rfl;omega,hZ,h _ (by simp[UC]),h _ (by simp[UC])⟩,h _ (by simp[UC]),h _ (by simp[UC]),h _ (by simp[UC]),h _ (by simp[UC]),h _ (by simp[UC]),h _ (by simp[UC]),h _ (by simp[UC]),h _ (by simp[UC])⟩
theorem y1R{d:Doc}{c:List EOp}(h:appE d c=0):docE d=0/\eopsE c 0=0/\runE d.nodes c=0/\appD d c=⟨runL d.nodes c⟩:=by
 have h1:docE d=0:=by
  apply qd;intro q
  rw[(app_1 q).2] at h;exact q h
 have h2:eopsE c 0=0:=by
  apply qd;intro q
  rw[(app_2 h1 q).2] at h;exact q h
 have h3:runE d.nodes c=0:=(app_r h1 h2).symm.trans h
 exact⟨h1,h2,h3,(app_4 h1 h2 h3 rfl).1⟩
def GK(U:US)(s:Int)(k:Nat)(d:Doc):Prop:=k<=57/\PP U s k d.nodes
variable {U:US}
theorem y8B(hN:UN U){s:Int}(hs:0<=s/\s<=1000){k:Nat}{d:Doc}(h:GK U s k d)(a b c:Int):AppB d (cmdP d s a b c):=
 have r:=y5b hN hs h.2 h.1 a b c
 ⟨h.2.docL hN.toUB (by have:=h.1;omega),r.1,fun _ he=>(r.2 (z7L.1 he)).b⟩
theorem y7l(hN:UN U){s:Int}(hs:0<=s/\s<=1000){k:Nat}{d:Doc}(h:GK U s k d){a b c:Int}(h0:appE d (cmdP d s a b c)=0):RunG (PP U s (k+3)) d.nodes (cmdP d s a b c)/\PP U s (k+3) (appD d (cmdP d s a b c)).nodes:=by
 obtain⟨e1,e2,e3,e4⟩:=y1R h0
 have r:=(y5b hN hs h.2 h.1 a b c).2 (z7L.1 e2)
 rw[e4]
 exact⟨r,r.fin e3⟩
theorem y8C(hN:UN U)(hZ:U.no=[]){s:Int}(hs:0<=s/\s<=1000):GInv s (GK U s) where
 doc:=fun h=>h.2.docL hN.toUB (by have:=h.1;omega)
 cmd:=fun b c h=>y8y hN.toUB hZ hs h.2 (by have:=h.1;omega) b c
 app:=fun a b c h=>y8B hN hs h a b c
 step:=fun {k d} a b c hk h=>by
  by_cases q:appE d (cmdP d s a b c)=0
  ·rw[z6j q];exact⟨by omega,(y7l hN hs h q).2⟩
  ·rw[z6k q];exact⟨by omega,h.2.mono (by omega)⟩
 more:=fun hk h=>⟨by omega,h.2.mono (by omega)⟩
theorem y5c(hN:UN U):GK U 0 0 baseD:=by
 have hx:∀n∈baseD.nodes,NG U n/\NZ 10 n:=fun n hn=>by
  have hc:∀c:Int,CharP c->c≠0->RU U ⟨c,0,[]⟩:=fun c h1 h2=>z97 h1 h2 VU.nil
  simp only[baseD,qj,qS,or_false] at hn
  rcases hn with rfl|rfl|rfl
  ·refine⟨⟨VU.nil,fun x hx=> ?_,rfl,(fun x h=>by cases h),(fun x h=>by cases h),(by decide:(0:Int)≠6)⟩,nz_of (by simp) (by simp) (by simp)⟩
   simp only[qj,qS,or_false] at hx
   rcases hx with rfl|rfl<;>exact y1O (by omega) VU.nil
  ·refine⟨⟨VU.nil,fun x hx=> ?_,rfl,(fun x h=>by cases h),(fun x h=>by cases h),(by decide:(1:Int)≠6)⟩,nz_of (by simp) (by simp) (by simp)⟩
   simp only[qj,qS,or_false] at hx
   rcases hx with rfl|rfl|rfl|rfl|rfl|rfl<;>exact hc _ (by decide) (by decide)
  ·exact⟨⟨VU.nil,(fun x h=>by cases h),rfl,(fun x h=>by cases h),(fun x h=>by cases h),(by decide:(10:Int)≠6)⟩,nz_of (by simp) (by simp) (by simp)⟩
 refine⟨by omega,⟨z98.1 (by decide+kernel),hx⟩,by decide,fun n hn=> ?_⟩
 simp only[baseD,qj,qS,or_false] at hn
 rcases hn with rfl|rfl|rfl<;>simp
end Go.Ch
end
section
namespace Go.Ch
open Go Go.Ab
variable {U:US}
def TX(l:List Node):Prop:=∃n∈l,n.id=2/\n.kind=1
theorem y9y{l:List Node}{o:EOp}(h:TX l):TX (oneL l o):=by
 obtain⟨n,hn,h1,h2⟩:=h
 unfold oneL
 split
 ·exact⟨n,hn,h1,h2⟩
 ·split
  ·refine⟨n,?_,h1,h2⟩
   unfold insN
   have:n∈l.take (lobN l o.nw.id)++l.drop (lobN l o.nw.id):=by rw[zE];exact hn
   rcases qp.1 this with q|q
   ·exact zQ _ q
   ·exact List.mem_append_right _ (qB _ q)
  ·obtain⟨j,hj,rfl⟩:=z0D hn
   have hid:∀m:Node,(oneN m o).id=m.id/\(oneN m o).kind=m.kind:=fun m=>by
    unfold oneN;repeat' split
    all_goals exact⟨rfl,rfl⟩
   refine⟨(l.set (lobN l o.node) (oneN (l.getD (lobN l o.node) default) o)).getD j default,z0h (by rw[zp];exact hj),?_⟩
   by_cases e:lobN l o.node=j
   ·rw[e,qc,List.getElem?_set_self hj]
    have:=hid (l.getD j default)
    exact⟨this.1.trans h1,this.2.trans h2⟩
   ·rw[qc,List.getElem?_set_ne e,<-List.getD_eq_getElem?_getD]
    exact⟨h1,h2⟩
theorem y7m:∀{c:List EOp} {l:List Node},TX l->TX (runL l c)
 | [],_,h=>h
 |_::c,_,h=>y7m (c:=c) (y9y h)
theorem y6D{s:Int}{raw:List Int}:∀(m:Nat) {k:Nat} {d:Doc},raw.length-k=m->TX d.nodes->TX (z1y s raw d k).nodes:=by
 intro m
 induction m using Nat.strongRecOn with
 |_ m ih=>
  intro k d hm h
  by_cases q:k+2<raw.length/\k<36
  ·rw[z5p q]
   refine ih _ (by omega) rfl ?_
   by_cases q2:appE d (cmdP d s (raw.getD k default) (raw.getD (k+1) default) (raw.getD (k+2) default))=0
   ·rw[z6j q2,(y1R q2).2.2.2];exact y7m h
   ·rw[z6k q2];exact h
  ·rw[z6l q];exact h
theorem y6E(hN:UN U){s:Int}(hs:0<=s/\s<=1000){raw:List Int}:∀(m:Nat) {k:Nat} {d:Doc},raw.length-k=m->k<39->GK U s k d->∃k',k'<=38/\GK U s k' (z1y s raw d k):=by
 intro m
 induction m using Nat.strongRecOn with
 |_ m ih=>
  intro k d hm hk hg
  by_cases h:k+2<raw.length/\k<36
  ·rw[z5p h]
   refine ih _ (by omega) rfl (by omega) ?_
   by_cases q:appE d (cmdP d s (raw.getD k default) (raw.getD (k+1) default) (raw.getD (k+2) default))=0
   ·rw[z6j q];exact⟨by omega,(y7l hN hs hg q).2⟩
   ·rw[z6k q];exact⟨by omega,hg.2.mono (by omega)⟩
  ·rw[z6l h];exact⟨k,by omega,hg⟩
theorem y8D:TX baseD.nodes:=⟨⟨2,1,[],[⟨97,0,[]⟩,⟨98,0,[]⟩,⟨99,0,[]⟩,⟨10,0,[]⟩,⟨100,0,[]⟩,⟨10,0,[]⟩],⟨0,0,[],[]⟩,[]⟩,by simp[baseD],rfl,rfl⟩
structure DX(U:US)(d:Doc):Prop where
 pp:PP U 0 38 d.nodes
 tx:TX d.nodes
theorem y6F(hN:UN U)(raw:List Int):DX U (z1y 0 raw baseD 0):=by
 obtain⟨k',hk,hg⟩:=y6E hN (by omega) (raw:=raw) _ rfl (by omega) (y5c hN)
 exact⟨hg.2.mono hk,y6D _ rfl y8D⟩
variable {d:Doc}
theorem DX.nd(h:DX U d):hasN d.nodes 2=true/\lobN d.nodes 2<d.nodes.length/\(ndN d.nodes 2).id=2/\(ndN d.nodes 2).kind=1/\ndN d.nodes 2∈d.nodes:=by
 obtain⟨n,hn,h1,h2⟩:=h.tx
 have hh:hasN d.nodes 2=true:=h.pp.gp.vd.has.2 ⟨n,hn,h1⟩
 obtain⟨a,b⟩:=z06.1 hh
 obtain⟨j,hj,rfl⟩:=z0D hn
 have e:=z7T h.pp.gp.vd.srt a hj (b.trans h1.symm)
 refine⟨hh,a,b,?_,z0h a⟩
 unfold ndN;rw[e];exact h2
theorem DX.node(h:DX U d):nodeF d 2=ndN d.nodes 2/\nodeH d 2=true:=by
 obtain⟨h1,h2,h3,h4,h5⟩:=h.nd
 rcases z2w d.nodes 2 d.nodes.length 0 (by omega) with⟨_,q⟩| ⟨j,q1,_,q2,q3⟩
 ·exact absurd h3 (q _ (qU _) h2)
 ·have e:=z7T h.pp.gp.vd.srt h2 q2 (h3.trans q3.symm)
  have:=z90 q1
  unfold ndN;rw[e];exact this
theorem y8E{l:List Attr}{n:ByteArray}(h:VG false l):gotA l n=hasA l n:=by
 have a:=y6j (n:=n) h
 have b:=z80 (l:=l) (n:=n)
 cases h1:gotA l n<;>cases h2:hasA l n<;>simp_all
theorem y8F{f:List Elem}{i:Nat}(h:VG false (f.getD i default).attrs):shwB f i=visB f 0 i:=by
 unfold shwB visB hidX
 rw[y8E h]
 have e:((f.getD i default).char==10)=decide ((f.getD i default).char=10):=by
  by_cases q:(f.getD i default).char=10
  ·rw[decide_eq_true q,beq_iff_eq];exact q
  ·rw[decide_eq_false q,beq_eq_false_iff_ne];exact q
 rw[e]
 cases hasA (f.getD i default).attrs cutB<;>cases seq (getA (f.getD i default).attrs hidB 0) onB<;>simp
theorem y5d{f:List Elem}(h:∀x∈f,VG false x.attrs):shwR f f.length=plcL f 0 f.length:=by
 unfold shwR plcL plcN
 congr 1
 refine List.filter_congr fun i hi=>y8F (h _ (z0h (zL.1 hi)))
theorem y8G{f:List Elem}{n:Nat}{x:Int}:x∈plcL f 0 n↔∃i:Nat,i<n/\visB f 0 i=true/\x=(i:Int):=by
 unfold plcL plcN
 simp only[qC,zt,zL]
 constructor
 ·rintro⟨i,⟨h1,h2⟩,rfl⟩;exact⟨i,h1,h2,rfl⟩
 ·rintro⟨i,h1,h2,rfl⟩;exact⟨i,⟨h1,h2⟩,rfl⟩
structure FX(U:US)(f:List Elem):Prop where
 ru:∀x∈f,RU U x
 pos:0<f.length
 last:(f.getD (f.length- 1) default).char=10
theorem DX.flow(h:DX U d):FX U (ndN d.nodes 2).flow/\(ndN d.nodes 2).flow.length<=162:=by
 obtain⟨h1,h2,h3,h4,h5⟩:=h.nd
 obtain⟨g,z⟩:=h.pp.gp.nd _ h5
 obtain⟨p1,p2,p3,p4,p5,p6,p7⟩:=z1Q (h.pp.gp.vd.node _ h5)
 have ht:hasT (ndN d.nodes 2).kind=true:=by rw[h4];decide
 have hz:=z6o.1 (p5 (.inl ht))
 have hl:=hz.2 ht
 exact⟨⟨g.fl,hl.1,hl.2⟩,by have:=z.fl;omega⟩
theorem FX.plc{f:List Elem}(h:FX U f):shwR f f.length=plcL f 0 f.length/\1<=(plcL f 0 f.length).length:=by
 refine⟨y5d fun x hx=>(h.ru x hx).2.g,?_⟩
 have hp:=h.pos
 have:((f.length- 1:Nat):Int)∈plcL f 0 f.length:=y8G.2 ⟨f.length- 1,by omega,z6a (.inr ⟨by omega,h.last⟩),rfl⟩
 exact List.length_pos_of_mem this
theorem DX.at(h:DX U d){a b:Int}{au:ByteArray}(ha:0<=a/\a<=b/\b< ((plcL (ndN d.nodes 2).flow 0 (ndN d.nodes 2).flow.length).length:Int))(hau:seq au {data:=#[]}=true\/valGo au=true):
 atE d ⟨2,a,b⟩ au=0/\atP d ⟨2,a,b⟩ au=⟨ndN d.nodes 2,plcL (ndN d.nodes 2).flow 0 (ndN d.nodes 2).flow.length,au⟩:=by
 obtain⟨h1,h2,h3,h4,h5⟩:=h.nd
 have r:=at_6 (d:=d) (s:=⟨2,a,b⟩) (au:=au) h.pp.doc h1 (by show hasT (ndN d.nodes 2).kind=true;rw[h4];decide) ⟨⟨ha.1,ha.2.1⟩,ha.2.2⟩ hau
 exact⟨r.2,r.1⟩
def lastK(us:List DU):Bool:=match us.getLast? with
 |some (.K _)=>true
 |_=>false
theorem z1S(x y:DU)(u:List DU):lastK (x::y::u)=lastK (y::u):=by
 unfold lastK;rw[List.getLast?_cons_cons]
theorem y5e{u v:List DU}(h:DSw u v):lastK u=lastK v:=by
 induction h with
 |refl u=>rfl
 |cons x h ih=>
  have hl:=y33 h
  rename_i u v
  cases u with
  |nil=>cases v with
   |nil=>rfl
   |cons y v=>simp at hl
  |cons y u=>cases v with
   |nil=>simp at hl
   |cons z v=>rw[z1S,z1S];exact ih
 |swap e u=>cases u with
  |nil=>rfl
  |cons y u=>rw[z1S,z1S,z1S,z1S]
 |symm h ih=>exact ih.symm
 |trans h k ih1 ih2=>exact ih1.trans ih2
theorem z6q(u:List DU){v:List DU}(h:v≠[]):lastK (u++v)=lastK v:=by
 unfold lastK
 rw[List.getLast?_append]
 cases hv:v.getLast? with
 |none=>exact absurd (List.getLast?_eq_none_iff.1 hv) h
 |some x=>rfl
theorem y8H{s:List DStep}(hv:z0U s)(h:lastK (exD s)=true):endsD s=true:=by
 have hne:s≠[]:=fun e=>by rw[e] at h;exact absurd h (by decide)
 obtain⟨t,ht⟩:∃t,s=s.dropLast++[t]:=⟨s.getLast hne,(List.dropLast_concat_getLast hne).symm⟩
 generalize s.dropLast=i at ht
 subst ht
 have hg:(i++[t]).getD ((i++[t]).length- 1) default=t:=by rw[z4k (by simp)];rfl
 have hk:t.kind=0:=by
  apply qd;intro q
  have ho:=hv.1.all t (by simp)
  rw[z3x,show exD [t]=exS t by simp[exD]] at h
  unfold exS at h
  by_cases q1:t.kind=1
  ·rw[if_pos q1] at h
   have he:t.elems≠[]:=by
    rcases ho with⟨_,_,_,q,_⟩| ⟨q,_⟩
    ·exact q
    ·omega
   rw[z6q _ (by simpa using he)] at h
   unfold lastK at h
   rw[List.getLast?_map] at h
   cases hl:t.elems.getLast? with
   |none=>exact he (List.getLast?_eq_none_iff.1 hl)
   |some x=>rw[hl] at h;simp at h
  ·have q2:t.kind=2:=by
    rcases ho with⟨k,_⟩| ⟨k,_⟩
    ·omega
    ·omega
   have hn:1<=t.n:=by
    rcases ho with⟨k,_⟩| ⟨_,e,_,n,_⟩
    ·omega
    ·exact n
   rw[if_neg q1,if_pos q2] at h
   rw[z6q _ (by intro z;have:=congrArg List.length z;simp at this;omega)] at h
   unfold lastK at h
   rw[List.getLast?_replicate,if_neg (by omega)] at h
   cases h
 unfold endsD
 rw[hg,hk]
 simp
theorem y5f{s:List DStep}{t:DStep}{x:Elem}(ht:t∈s)(hk:t.kind=1)(hx:x∈t.elems):DU.A x∈exD s:=by
 induction s with
 |nil=>cases ht
 |cons y s ih=>
  rw[exD]
  rcases qj.1 ht with rfl|q
  ·refine zQ _ ?_
   unfold exS;rw[if_pos hk];exact qC.2 ⟨x,hx,rfl⟩
  ·exact List.mem_append_right _ (ih q)
theorem z62:∀{us:List DU},(∀u∈us,UU U u)->UOk us
 | [],_=>trivial
 | .K c::us,h=>⟨VU.g (show VU U true c from h (.K c) (by simp)),z62 (fun u hu=>h u (qB _ hu))⟩
 | .A _::us,h=>z62 (us:=us) (fun u hu=>h u (qB _ hu))
 | .C::us,h=>z62 (us:=us) (fun u hu=>h u (qB _ hu))
theorem y7n{U:US}{n:Int}{s:List DStep}{us:List DU}(hn:1<=n/\n<=1073741824)(hd:DU_ U s us):eopE (opF n s)=0:=by
 unfold eopE
 rw[if_neg (by show¬((2:Int)< 0\/4< (2:Int));decide)]
 have hu:unuO (opF n s)=false:=by
  unfold unuO opF
  simp only[show((2:Int)==0)=false from rfl,show((2:Int) !=0)=true from rfl,show((2:Int) !=1)=true from rfl,show((2:Int) !=2)=false from rfl,show((2:Int) !=3)=true from rfl,show((2:Int) !=4)=true from rfl,Bool.false_and,Bool.true_and,Bool.false_or]
  rw[show z0G ⟨0,0,[],[],⟨0,0,[],[]⟩,[]⟩=true by decide+kernel,show anyG ⟨[],[],[],[],[]⟩=false by decide+kernel]
  rfl
 rw[if_neg (by rw[hu];decide),if_neg (show¬(opF n s).kind=0 from(by decide:¬(2:Int)=0)),if_neg (by show¬(n<1\/1073741824<n);omega),if_neg (show¬(opF n s).kind=1 from(by decide:¬(2:Int)=1)),if_pos (show(opF n s).kind=2 from rfl)]
 exact z0Q.2 hd.v
def putF(d:Doc)(f:List Elem):Doc:=⟨d.nodes.set (lobN d.nodes 2) {(ndN d.nodes 2) with flow:=f}⟩
theorem DX.op(h:DX U d){U':US}(hU:UB U')(hp:PP U' 0 38 d.nodes){s:List DStep}{us:List DU}(hd:DU_ U' s us)(ho:oldN us=(ndN d.nodes 2).flow.length)(hk:lastK us=true)(ha:∀t∈s,∀x∈t.elems,x.ref=0):
 AppB d [opF 2 s]/\appE d [opF 2 s]=0/\appD d [opF 2 s]=putF d (z0i us (ndN d.nodes 2).flow):=by
 obtain⟨h1,h2,h3,h4,h5⟩:=h.nd
 have e0:eopE (opF 2 s)=0:=y7n (by decide) hd
 have hO:=opL_F hU (k:=2) hd
 have hb:=z6p hU hp (by omega) e0 hO (fun q=>absurd q (show¬(2:Int)=0 by decide))
 have hl:=hd.lens
 have hT:hasT (ndN d.nodes 2).kind=true:=by rw[h4];decide
 have hf:z0V d.nodes (ndN d.nodes 2) s=0:=by
  unfold z0V
  rw[if_neg (by rw[hT];simp),if_neg (by omega),if_neg (by rw[y8H hd.v (by rw[y5e hd.sw];exact hk)];simp)]
  refine z6N fun t ht=>z6N fun x hx=> ?_
  have hr:=ha t ht x hx
  unfold newE
  rw[if_neg (by rw[hT];simp)]
  have:refsF [x]=[]:=by unfold refsF;simp[hr]
  rw[this,refsE,if_neg (by simp)]
 have e1:oneE d.nodes (opF 2 s)=0:=(one_3 (o:=opF 2 s) h1 rfl).2.trans hf
 have e2:=one_s (o:=opF 2 s) (show(2:Int)≠0 by decide) e1
 have hv:eopsE [opF 2 s] 0=0:=z7L.2 fun o ho=>by rw[qy] at ho;subst ho;exact e0
 have hr:runE d.nodes [opF 2 s]=0:=by rw[runE,if_neg (fun q=>q e1)];rfl
 have hb2:AppB d [opF 2 s]:=⟨hp.docL hU (by omega),fun o ho=>by rw[qy] at ho;subst ho;exact hO,fun _ _=>⟨hb,fun _=>trivial⟩⟩
 have h4':=app_4 h.pp.doc hv hr (rfl:runL d.nodes [opF 2 s]=_)
 refine⟨hb2,h4'.2,?_⟩
 rw[h4'.1]
 show(⟨oneL d.nodes (opF 2 s)⟩:Doc)=_
 rw[e2]
 have:rawD (ndN d.nodes 2).flow s=z0i us (ndN d.nodes 2).flow:=y3Q hd.sw _
 unfold putF
 rw[<-this]
 rfl
theorem z9i(h:DX U d)(f:List Elem):nodeF (putF d f) 2={(ndN d.nodes 2) with flow:=f}/\nodeH (putF d f) 2=true:=by
 obtain⟨h1,h2,h3,h4,h5⟩:=h.nd
 have hl:∀j,((putF d f).nodes.getD j default).id=(d.nodes.getD j default).id:=fun j=>by
  unfold putF
  by_cases e:lobN d.nodes 2=j
  ·rw[<-e,qc,List.getElem?_set_self h2];rfl
  ·rw[qc,List.getElem?_set_ne e,<-List.getD_eq_getElem?_getD]
 have hn:(putF d f).nodes.length=d.nodes.length:=by unfold putF;rw[zp]
 rcases z2w (putF d f).nodes 2 (putF d f).nodes.length 0 (by omega) with⟨_,q⟩| ⟨j,q1,_,q2,q3⟩
 ·exact absurd ((hl _).trans h3) (q _ (qU _) (by rw[hn];exact h2))
 ·have e:=z7T h.pp.gp.vd.srt h2 (by rw[<-hn];exact q2) (h3.trans ((hl j).symm.trans q3).symm)
  have:=z90 q1
  refine⟨this.1.trans ?_,this.2⟩
  rw[<-e]
  unfold putF
  rw[qc,List.getElem?_set_self h2];rfl
end Go.Ch
end
section
namespace Go.Ch
open Go Go.Ab
theorem un_0:UN (⟨UC++[],[]⟩:US):=y1Q [] (by simp) [] (fun v hv=>by cases hv)
theorem z70:DX (⟨UC++[],[]⟩:US) z0e:=by
 have hx:∀n∈z0e.nodes,NG (⟨UC++[],[]⟩:US) n/\NZ 10 n:=fun n hn=>by
  simp only[z0e,qj,qS,or_false] at hn
  rcases hn with rfl|rfl
  ·refine⟨⟨VU.nil,fun x hx=> ?_,rfl,(fun x h=>by cases h),(fun x h=>by cases h),(by decide:(0:Int)≠6)⟩,nz_of (by simp) (by simp) (by simp)⟩
   rw[qy] at hx;subst hx;exact y1O (by omega) VU.nil
  ·refine⟨⟨VU.nil,fun x hx=> ?_,rfl,(fun x h=>by cases h),(fun x h=>by cases h),(by decide:(1:Int)≠6)⟩,nz_of (by simp) (by simp) (by simp)⟩
   rw[qy] at hx;subst hx;exact y1F
 have hp:PP (⟨UC++[],[]⟩:US) 0 0 z0e.nodes:=by
  refine⟨⟨z98.1 z6h,hx⟩,by decide,fun n hn=> ?_⟩
  simp only[z0e,qj,qS,or_false] at hn
  rcases hn with rfl|rfl<;>simp
 exact⟨hp.mono (by omega),⟨⟨2,1,[],[⟨10,0,[]⟩],⟨0,0,[],[]⟩,[]⟩,by simp[z0e],rfl,rfl⟩⟩
theorem y5g:DocL z0e/\AscN {data:=#[98]}/\(atE z0e ⟨2,0,0⟩ {data:=#[]}=0->TypB z0e ⟨2,0,0⟩ (ascC {data:=#[98]}) {data:=#[]})/\AppB z0e (typeO z0e ⟨2,0,0⟩ (ascC {data:=#[98]}) {data:=#[]})/\appE z0e (typeO z0e ⟨2,0,0⟩ (ascC {data:=#[98]}) {data:=#[]})=0/\atE z0e ⟨2,0,0⟩ {data:=#[]}=0/\typeS z0e ⟨2,0,0⟩ (ascC {data:=#[98]}) {data:=#[]}=⟨2,1,1⟩/\
 1< (appD z0e (typeO z0e ⟨2,0,0⟩ (ascC {data:=#[98]}) {data:=#[]})).nodes.length/\((appD z0e (typeO z0e ⟨2,0,0⟩ (ascC {data:=#[98]}) {data:=#[]})).nodes.getD 1 default).flow.length=2:=by
 have ha:AscN {data:=#[98]}:=z4f 4
 have t1:=(z70.at (a:=0) (b:=0) (au:={data:=#[]}) (by decide+kernel) (.inl (by decide+kernel))).1
 have hU:=un_0.toUB
 obtain⟨p1,p2,p3,p4,p5⟩:=z1M hU z70.pp (by omega) (by simp) t1
 have hl:(ascC {data:=#[98]}).length=1:=by rw[z5u];rfl
 have he:=z5r p1 p3 (s:=⟨2,0,0⟩) (z7Z ha)
 have hi:=z4E p1 p3 0
 obtain⟨s1,⟨us,hd⟩,_,_⟩:=z6m hU (s:=⟨2,0,0⟩) (es:=typEl (atP z0e ⟨2,0,0⟩ {data:=#[]}) ⟨2,0,0⟩ (ascC {data:=#[98]})) p1 p2 p3 p4 p5 (by rw[z2C,hl];omega) he
 have e1:=y1r (cs:=ascC {data:=#[98]}) t1
 refine⟨z6i,ha,fun _=>⟨p1,z05.2 hi.g,by have:=hi.len hU.len;show(inhP _ 0).length<=_;omega,p5,s1⟩,?_,by decide+kernel,t1,?_,by decide+kernel,by decide+kernel⟩
 ·rw[e1.1]
  refine⟨z6i,fun o ho=>by rw[qy] at ho;subst ho;exact opL_F hU hd,fun _ h=> ?_⟩
  exact⟨z6p hU z70.pp (by omega) (y7n (by decide) hd) (opL_F hU hd) (fun q=>absurd q (show¬(2:Int)=0 by decide)),fun _=>trivial⟩
 ·rw[e1.2];unfold selP
  rw[z2C,hl];rfl
end Go.Ch
end
section
set_option maxRecDepth 100000
set_option maxHeartbeats 4000000
open Go Go.Proofs Go.Ab
namespace Go.Ch
theorem y6G:FC Tryz.prog 6 [] (app emp []) (VB true) (app emp []):=by
 refine .go Tryz.f6 ?_
 obtain⟨hb,ht,hx,ha,he,hz,hs,hl,hf⟩:=y5g
 have hn:({data:=#[98]}:ByteArray).size<=20000:=by decide
 have e1:(((((true&&((atE z0e ({nd:=2,fr:=0,tq:=0}:Sel) ({data:=#[]}))==0))&&((appE z0e (typeO z0e ({nd:=2,fr:=0,tq:=0}:Sel) (ascC ({data:=#[98]})) ({data:=#[]})))==0))&&((((typeS z0e ({nd:=2,fr:=0,tq:=0}:Sel) (ascC ({data:=#[98]})) ({data:=#[]}))).nd)==2&&((((typeS z0e ({nd:=2,fr:=0,tq:=0}:Sel) (ascC ({data:=#[98]})) ({data:=#[]}))).fr)==1&&((((typeS z0e ({nd:=2,fr:=0,tq:=0}:Sel) (ascC ({data:=#[98]})) ({data:=#[]}))).tq)==1&&true))))&&((((((((appD z0e (typeO z0e ({nd:=2,fr:=0,tq:=0}:Sel) (ascC ({data:=#[98]})) ({data:=#[]})))).nodes).getD 1 default)).flow).length:Int)==2)):Bool)=true:=by
  rw[hs,hz,he,hf];rfl
 exact .finE [.r [],.r [(0,X (Xc1 8 z5q X0)),(2,X (Xc1 24 (z4g z0e ({nd:=2,fr:=0,tq:=0}:Sel) ({data:=#[98]}) ({data:=#[]}) (by assumption) (by assumption) (by assumption) (by assumption)) X0))],.r [(0,X (Xc1 96 z5q X0)),(2,X (Xc1 112 (z5o z0e (typeO z0e ({nd:=2,fr:=0,tq:=0}:Sel) (ascC ({data:=#[98]})) ({data:=#[]})) ha) X0))],.r [(0,X (Xc0 y6v X0)),(3,Xv 1 true X0),(4,X (Xk true)),(7,Xv 1 (true&&((atE z0e ({nd:=2,fr:=0,tq:=0}:Sel) ({data:=#[]}))==0)) X0),(8,X (Xk (true&&((atE z0e ({nd:=2,fr:=0,tq:=0}:Sel) ({data:=#[]}))==0)))),(12,Xv 2 ((true&&((atE z0e ({nd:=2,fr:=0,tq:=0}:Sel) ({data:=#[]}))==0))&&((appE z0e (typeO z0e ({nd:=2,fr:=0,tq:=0}:Sel) (ascC ({data:=#[98]})) ({data:=#[]})))==0)) X0),(13,X (Xk ((true&&((atE z0e ({nd:=2,fr:=0,tq:=0}:Sel) ({data:=#[]}))==0))&&((appE z0e (typeO z0e ({nd:=2,fr:=0,tq:=0}:Sel) (ascC ({data:=#[98]})) ({data:=#[]})))==0)))),(16,Xv 1 (((true&&((atE z0e ({nd:=2,fr:=0,tq:=0}:Sel) ({data:=#[]}))==0))&&((appE z0e (typeO z0e ({nd:=2,fr:=0,tq:=0}:Sel) (ascC ({data:=#[98]})) ({data:=#[]})))==0))&&((((typeS z0e ({nd:=2,fr:=0,tq:=0}:Sel) (ascC ({data:=#[98]})) ({data:=#[]}))).nd)==2&&((((typeS z0e ({nd:=2,fr:=0,tq:=0}:Sel) (ascC ({data:=#[98]})) ({data:=#[]}))).fr)==1&&((((typeS z0e ({nd:=2,fr:=0,tq:=0}:Sel) (ascC ({data:=#[98]})) ({data:=#[]}))).tq)==1&&true)))) X0),(17,Xv 1 (((true&&((atE z0e ({nd:=2,fr:=0,tq:=0}:Sel) ({data:=#[]}))==0))&&((appE z0e (typeO z0e ({nd:=2,fr:=0,tq:=0}:Sel) (ascC ({data:=#[98]})) ({data:=#[]})))==0))&&((((typeS z0e ({nd:=2,fr:=0,tq:=0}:Sel) (ascC ({data:=#[98]})) ({data:=#[]}))).nd)==2&&((((typeS z0e ({nd:=2,fr:=0,tq:=0}:Sel) (ascC ({data:=#[98]})) ({data:=#[]}))).fr)==1&&((((typeS z0e ({nd:=2,fr:=0,tq:=0}:Sel) (ascC ({data:=#[98]})) ({data:=#[]}))).tq)==1&&true)))) (Xi nodeT (((appD z0e (typeO z0e ({nd:=2,fr:=0,tq:=0}:Sel) (ascC ({data:=#[98]})) ({data:=#[]})))).nodes) 1)),(18,Xv 1 (((true&&((atE z0e ({nd:=2,fr:=0,tq:=0}:Sel) ({data:=#[]}))==0))&&((appE z0e (typeO z0e ({nd:=2,fr:=0,tq:=0}:Sel) (ascC ({data:=#[98]})) ({data:=#[]})))==0))&&((((typeS z0e ({nd:=2,fr:=0,tq:=0}:Sel) (ascC ({data:=#[98]})) ({data:=#[]}))).nd)==2&&((((typeS z0e ({nd:=2,fr:=0,tq:=0}:Sel) (ascC ({data:=#[98]})) ({data:=#[]}))).fr)==1&&((((typeS z0e ({nd:=2,fr:=0,tq:=0}:Sel) (ascC ({data:=#[98]})) ({data:=#[]}))).tq)==1&&true)))) X0),(19,Xv 1 (((true&&((atE z0e ({nd:=2,fr:=0,tq:=0}:Sel) ({data:=#[]}))==0))&&((appE z0e (typeO z0e ({nd:=2,fr:=0,tq:=0}:Sel) (ascC ({data:=#[98]})) ({data:=#[]})))==0))&&((((typeS z0e ({nd:=2,fr:=0,tq:=0}:Sel) (ascC ({data:=#[98]})) ({data:=#[]}))).nd)==2&&((((typeS z0e ({nd:=2,fr:=0,tq:=0}:Sel) (ascC ({data:=#[98]})) ({data:=#[]}))).fr)==1&&((((typeS z0e ({nd:=2,fr:=0,tq:=0}:Sel) (ascC ({data:=#[98]})) ({data:=#[]}))).tq)==1&&true)))) X0),(20,Xv 1 (((true&&((atE z0e ({nd:=2,fr:=0,tq:=0}:Sel) ({data:=#[]}))==0))&&((appE z0e (typeO z0e ({nd:=2,fr:=0,tq:=0}:Sel) (ascC ({data:=#[98]})) ({data:=#[]})))==0))&&((((typeS z0e ({nd:=2,fr:=0,tq:=0}:Sel) (ascC ({data:=#[98]})) ({data:=#[]}))).nd)==2&&((((typeS z0e ({nd:=2,fr:=0,tq:=0}:Sel) (ascC ({data:=#[98]})) ({data:=#[]}))).fr)==1&&((((typeS z0e ({nd:=2,fr:=0,tq:=0}:Sel) (ascC ({data:=#[98]})) ({data:=#[]}))).tq)==1&&true)))) (Xl elemT ((((((appD z0e (typeO z0e ({nd:=2,fr:=0,tq:=0}:Sel) (ascC ({data:=#[98]})) ({data:=#[]})))).nodes).getD 1 default)).flow))),(21,Xv 1 (((true&&((atE z0e ({nd:=2,fr:=0,tq:=0}:Sel) ({data:=#[]}))==0))&&((appE z0e (typeO z0e ({nd:=2,fr:=0,tq:=0}:Sel) (ascC ({data:=#[98]})) ({data:=#[]})))==0))&&((((typeS z0e ({nd:=2,fr:=0,tq:=0}:Sel) (ascC ({data:=#[98]})) ({data:=#[]}))).nd)==2&&((((typeS z0e ({nd:=2,fr:=0,tq:=0}:Sel) (ascC ({data:=#[98]})) ({data:=#[]}))).fr)==1&&((((typeS z0e ({nd:=2,fr:=0,tq:=0}:Sel) (ascC ({data:=#[98]})) ({data:=#[]}))).tq)==1&&true)))) X0),(22,X (Xk (((true&&((atE z0e ({nd:=2,fr:=0,tq:=0}:Sel) ({data:=#[]}))==0))&&((appE z0e (typeO z0e ({nd:=2,fr:=0,tq:=0}:Sel) (ascC ({data:=#[98]})) ({data:=#[]})))==0))&&((((typeS z0e ({nd:=2,fr:=0,tq:=0}:Sel) (ascC ({data:=#[98]})) ({data:=#[]}))).nd)==2&&((((typeS z0e ({nd:=2,fr:=0,tq:=0}:Sel) (ascC ({data:=#[98]})) ({data:=#[]}))).fr)==1&&((((typeS z0e ({nd:=2,fr:=0,tq:=0}:Sel) (ascC ({data:=#[98]})) ({data:=#[]}))).tq)==1&&true))))))]] [] (fun z0:Bool=>(VB z0,[])) _ _ e1.symm
end Go.Ch
end
section
namespace Go.Ch
open Go Go.Ab
variable {U:US}
theorem y5h{u v:List DU}(h:DSw u v):((∀e,DU.A e∉u)\/DU.C∉u)->u=v:=by
 induction h with
 |refl u=>exact fun _=>rfl
 |cons x h ih=>
  intro q
  rw[ih (q.imp (fun a e he=>a e (qB _ he)) (fun a he=>a (qB _ he)))]
 |swap e u=>
  rintro(q|q)
  ·exact absurd (by simp) (q e)
  ·exact absurd (by simp) q
 |symm h ih=>
  intro q
  exact(ih (q.imp (fun a e he=>a e ((z57 h _).1 he)) (fun a he=>a ((z57 h _).1 he)))).symm
 |trans h k ih1 ih2=>
  intro q
  have e:=ih1 q
  exact e.trans (ih2 (by rw[<-e];exact q))
theorem z71:∀(e:List DU) (p q:List DU),(∀x,DU.A x∉e)->(z0b (List.replicate e.length (.K [])++p) (e++q)).2=e++(z0b p q).2
 | [],p,q,_=>rfl
 | .K d::e,p,q,h=>by
  rw[qi,qE,qg,qg,z0b,z71 e p q (fun x hx=>h x (qB _ hx))]
  rfl
 | .C::e,p,q,h=>by
  rw[qi,qE,qg,qg,z0b,z71 e p q (fun x hx=>h x (qB _ hx))]
  rfl
 | .A x::e,p,q,h=>absurd (by simp) (h x)
theorem y5i:∀(es:List Elem) (p q:List DU),(z0b (es.map .A++p) q).2=List.replicate es.length (.K [])++(z0b p q).2
 | [],p,q=>rfl
 |x::es,p,q=>by
  rw[qV,qg,z0b,y5i es p q,qi,qE];rfl
theorem y5j(p q:List DU)(h:DU.C∉p):DU.C∉(z0b p q).1:=by
 induction p,q using z0b.induct with
 |case1 e p q ih=>rw[z0b];intro z;rcases qj.1 z with z|z;(cases z);exact ih (fun y=>h (qB _ y)) z
 |case2 e q ih=>rw[z0b];intro z;rcases qj.1 z with z|z;(cases z);exact ih h z
 |case3 c p e q ih=>rw[z0b];intro z;rcases qj.1 z with z|z;(cases z);exact ih h z
 |case4 p e q ih=>exact absurd (by simp) h
 |case5 c p d q ih=>rw[z0b];intro z;rcases qj.1 z with z|z;(cases z);exact ih (fun y=>h (qB _ y)) z
 |case6 c p q ih=>rw[z0b];exact ih (fun y=>h (qB _ y))
 |case7 p d q ih=>exact absurd (by simp) h
 |case8 p q ih=>exact absurd (by simp) h
 |case9 p hne=>rw[show z0b p []=([],[]) by unfold z0b;split<;>simp_all];simp
 |case10 q h1 h2=>rw[show z0b [] q=([],[]) by unfold z0b;split<;>simp_all];simp
theorem y8I(p q:List DU){x:Elem}(h:DU.A x∈(z0b p q).1):DU.A x∈p:=by
 induction p,q using z0b.induct with
 |case1 e p q ih=>rw[z0b] at h;rcases qj.1 h with z|z;(rw[z];simp);exact qB _ (ih z)
 |case2 e q ih=>rw[z0b] at h;rcases qj.1 h with z|z;(cases z);exact ih z
 |case3 c p e q ih=>rw[z0b] at h;rcases qj.1 h with z|z;(cases z);exact ih z
 |case4 p e q ih=>rw[z0b] at h;rcases qj.1 h with z|z;(cases z);exact ih z
 |case5 c p d q ih=>rw[z0b] at h;rcases qj.1 h with z|z;(cases z);exact qB _ (ih z)
 |case6 c p q ih=>rw[z0b] at h;exact qB _ (ih h)
 |case7 p d q ih=>rw[z0b] at h;rcases qj.1 h with z|z;(cases z);exact qB _ (ih z)
 |case8 p q ih=>rw[z0b] at h;exact qB _ (ih h)
 |case9 p hne=>rw[show z0b p []=([],[]) by unfold z0b;split<;>simp_all] at h;cases h
 |case10 q h1 h2=>rw[show z0b [] q=([],[]) by unfold z0b;split<;>simp_all] at h;cases h
theorem y9z(p q:List DU)(hp:∀e,DU.A e∉p){x:Elem}(h:DU.A x∈z0g p q):DU.A x∈q:=by
 induction p,q using z0g.induct with
 |case1 q p ih=>rw[z0g] at h;rcases qj.1 h with z|z;(cases z);exact ih (fun e y=>hp e (qB _ y)) z
 |case2 p e q hne ih=>
  rw[z0g] at h
  rotate_left
  ·exact hne
  rcases qj.1 h with z|z;(rw[z];simp);exact qB _ (ih hp z)
 |case3 c p d q ih=>rw[z0g] at h;rcases qj.1 h with z|z;(cases z);exact qB _ (ih (fun e y=>hp e (qB _ y)) z)
 |case4 c p q ih=>rw[z0g] at h;rcases qj.1 h with z|z;(cases z);exact qB _ (ih (fun e y=>hp e (qB _ y)) z)
 |case5 e p d q ih=>exact absurd (by simp) (hp e)
 |case6 e p q ih=>exact absurd (by simp) (hp e)
 |case7 p hne=>rw[show z0g p []=p by unfold z0g;split<;>simp_all] at h;exact absurd h (hp x)
 |case8 q h1 h2=>rw[show z0g [] q=[] by unfold z0g;split<;>simp_all] at h;cases h
theorem y5k(p q:List DU)(c d:List Attr)(hm:oldN p=oldN q):(z0b (p++[.K c]) (q++[.K d])).1=(z0b p q).1++[.K (fm wioG c d)]:=by
 have base:(z0b [.K c] [.K d]).1=[.K (fm wioG c d)]:=by rw[z0b,show z0b [] []=([],[]) by unfold z0b;rfl]
 induction p,q using z0b.induct with
 |case1 e p q ih=>rw[qg,z0b,z0b,ih (by simpa[oldN] using hm)];rfl
 |case2 e q ih=>
  have ih:=ih (by simpa[oldN] using hm)
  rw[zT] at ih
  rw[zT,qg,z0b,z0b,ih];rfl
 |case3 c' p e q ih=>
  have ih:=ih (by simpa[oldN] using hm)
  rw[qg] at ih
  rw[qg,qg,z0b,z0b,ih];rfl
 |case4 p e q ih=>
  have ih:=ih (by simpa[oldN] using hm)
  rw[qg] at ih
  rw[qg,qg,z0b,z0b,ih];rfl
 |case5 c' p d' q ih=>rw[qg,qg,z0b,z0b,ih (by simpa[oldN] using hm)];rfl
 |case6 c' p q ih=>rw[qg,qg,z0b,z0b,ih (by simpa[oldN] using hm)]
 |case7 p d' q ih=>rw[qg,qg,z0b,z0b,ih (by simpa[oldN] using hm)];rfl
 |case8 p q ih=>rw[qg,qg,z0b,z0b,ih (by simpa[oldN] using hm)]
 |case9 p hne=>
  cases p with
  |nil=>rw[show z0b [] []=([],[]) by unfold z0b;rfl];exact base
  |cons x p=>cases x<;>simp_all[oldN]
 |case10 q h1 h2=>
  cases q with
  |nil=>rw[show z0b [] []=([],[]) by unfold z0b;rfl];exact base
  |cons x q=>cases x<;>simp_all[oldN]
theorem y5l(p q:List DU)(c d:List Attr)(hm:newN p=oldN q)(ha:∀e,DU.A e∉p):z0g (p++[.K c]) (q++[.K d])=z0g p q++[.K (fm botG c d)]:=by
 have base:z0g [.K c] [.K d]=[.K (fm botG c d)]:=by rw[z0g,show z0g [] []=[] by unfold z0g;rfl]
 induction p,q using z0g.induct with
 |case1 q p ih=>rw[qg,z0g,z0g,ih (by simpa[newN] using hm) (fun e y=>ha e (qB _ y))];rfl
 |case2 p e q hne ih=>
  have ih:=ih (by simpa[oldN] using hm) ha
  rw[qg,z0g,z0g,ih]
  ·rfl
  ·exact hne
  ·intro p' hp
   cases p with
   |nil=>simp at hp
   |cons x p=>
    rw[qg] at hp
    injection hp with h1 h2
    subst h1
    exact hne _ rfl
 |case3 c' p d' q ih=>rw[qg,qg,z0g,z0g,ih (by simpa[newN,oldN] using hm) (fun e y=>ha e (qB _ y))];rfl
 |case4 c' p q ih=>rw[qg,qg,z0g,z0g,ih (by simpa[newN,oldN] using hm) (fun e y=>ha e (qB _ y))];rfl
 |case5 e p d' q ih=>exact absurd (by simp) (ha e)
 |case6 e p q ih=>exact absurd (by simp) (ha e)
 |case7 p hne=>
  cases p with
  |nil=>rw[show z0g [] []=[] by unfold z0g;rfl];exact base
  |cons x p=>cases x<;>simp_all[oldN,newN]
 |case8 q h1 h2=>
  cases q with
  |nil=>rw[show z0g [] []=[] by unfold z0g;rfl];exact base
  |cons x q=>cases x<;>simp_all[oldN,newN]
theorem y1S(p q:List DU)(hm:oldN p=oldN q):oldN (z0b p q).1=newN q:=by
 induction p,q using z0b.induct with
 |case9 p hne=>
  rw[show z0b p []=([],[]) by unfold z0b;split<;>simp_all];rfl
 |case10 q h1 h2=>
  rw[show z0b [] q=([],[]) by unfold z0b;split<;>simp_all]
  cases q with
  |nil=>rfl
  |cons x q=>cases x<;>simp_all[oldN]
 |_=>rw[z0b];simp only[oldN,newN] at*;omega
theorem y2F(u:List DU)(c:List Attr):lastK (u++[.K c])=true:=by rw[z6q _ (by simp)];rfl
theorem y5m(f:List Elem)(pl:List Int)(au:ByteArray){k n:Nat}(h:k<=n):ersUs f pl au n=ersUs f pl au k++(List.range' k (n-k)).map (ersU f pl au):=by
 unfold ersUs
 rw[zZ,zZ,<-List.map_append,show n=k+(n-k) by omega,<-List.range'_append_1,zB,show k+(n-k)- k=n-k by omega]
theorem y5n{f:List Elem}{pl:List Int}{au:ByteArray}{l:List Nat}:∀e,DU.A e∉l.map (ersU f pl au):=fun e h=>by
 obtain⟨i,_,h⟩:=qC.1 h
 unfold ersU at h
 repeat' split at h
 all_goals cases h
theorem z4n{f:List Elem}{pl:List Int}{au:ByteArray}{n:Nat}:∀e,DU.A e∉ersUs f pl au n:=y5n
def ersG(f:List Elem)(pl:List Int)(au:ByteArray)(l:List Nat):List Elem:=
 (l.filter fun i:Nat=> !(pl.any (fun p=>p==(i:Int))&&(seq au mtB||seq (getA (f.getD i default).attrs addB 0) au))).map fun i:Nat=>if pl.any (fun p=>p==(i:Int))=true then chgE [⟨cutB,au⟩] (f.getD i default) else f.getD i default
theorem z9j{f g:List Elem}{pl:List Int}{au:ByteArray}{s n:Nat}(h:s+n=g.length)(hg:∀i,s<=i->i<g.length->g.getD i default=f.getD i default):
 z0i ((List.range' s n).map (ersU f pl au)) (g.drop s)=ersG f pl au (List.range' s n):=by
 have hk:=z8Z (fun i:Nat=>pl.any (fun p=>p==(i:Int))&&(seq au mtB||seq (getA (f.getD i default).attrs addB 0) au)) (fun i:Nat=>if pl.any (fun p=>p==(i:Int))=true then[⟨cutB,au⟩] else[]) g n s h
 have e:(List.range' s n).map (ersU f pl au)=(List.range' s n).map fun i:Nat=>if(pl.any (fun p=>p==(i:Int))&&(seq au mtB||seq (getA (f.getD i default).attrs addB 0) au))=true then DU.C else .K (if pl.any (fun p=>p==(i:Int))=true then[⟨cutB,au⟩] else[]):=by
  refine zD fun i _=> ?_
  unfold ersU
  cases h1:pl.any (fun p=>p==(i:Int)) with
  |true=>cases h2:(seq au mtB||seq (getA (f.getD i default).attrs addB 0) au)<;>simp
  |false=>simp
 rw[e,hk]
 unfold ersG
 refine zD fun i hi=> ?_
 have hi:=z8.1 (zt.1 hi).1
 rw[hg i hi.1 (by omega)]
 split
 ·rfl
 ·exact z2e _
def typG(f:List Elem)(pl:List Int)(au:ByteArray)(k:Nat)(es:List Elem):List Elem:=ersG f pl au (List.range' 0 k)++(es.map (typE au)++ersG f pl au (List.range' k (f.length-k)))
theorem y2G{E1 E2:List DU}{es f1 f2:List Elem}(h1:oldN E1=f1.length):z0i (E1++(List.replicate es.length (.K [])++E2)) (f1++(es++f2))=z0i E1 f1++(es++z0i E2 f2):=by
 rw[z1z _ _ _ _ h1,z27,List.take_left,List.drop_left]
 congr 2
 rw[zD (g:=id) (fun x _=>z2e x),List.map_id]
theorem y5o(hU:UB U){f:List Elem}{pl:List Int}{au:ByteArray}{k:Nat}{es:List Elem}(hf:f.length<=1048576)(hn:∀x∈f,RU U x)(ha:AuB U au)(hk:k<f.length)(hl:es.length<=1048576)(he:∀x∈es,RU U x)(h0:∀x∈es,x.ref=0)
 (hlast:pl.any (fun p=>p==((f.length- 1:Nat):Int))=false):
 ∃us,DU_ U (joinD (ersD f pl au) (z0X (typD f.length k es au) (ersD f pl au))) us/\oldN us=f.length/\lastK us=true/\(∀t∈joinD (ersD f pl au) (z0X (typD f.length k es au) (ersD f pl au)),∀x∈t.elems,x.ref=0)/\z0i us f=typG f pl au k es:=by
 obtain⟨_,T⟩:=y4X hU.len (n:=f.length) (k:=(k:Int)) (es:=es) (au:=au) (by omega) (by omega) (by omega) (y42 hU ha) he
 obtain⟨_,E⟩:=y4Z hU.len (f:=f) (pl:=pl) (au:=au) (by omega) (y7i hU ha)
 rw[show(k:Int).toNat=k by omega] at T
 have tf:=z2P (n:=f.length) (k:=k) (es:=es) (au:=au) (by omega)
 have ef:=z14 f pl au f.length
 have tl:=T.lens
 have el:=E.lens
 obtain⟨P,p1,p2⟩:=z9c hU.len T E (by omega) (by omega)
 obtain⟨J,j1,j2⟩:=y1E hU.len E P p1.symm
 have nC:DU.C∉typUs f.length k es au:=fun h=>by
  unfold typUs at h
  rcases qp.1 h with h|h
  ·cases zn h
  ·rcases qp.1 h with h|h
   ·obtain⟨_,_,h⟩:=qC.1 h;cases h
   ·cases zn h
 have eT:exD (typD f.length k es au)=typUs f.length k es au:=(y5h T.sw.symm (.inr nC)).symm
 have eE:exD (ersD f pl au)=ersUs f pl au f.length:=(y5h E.sw.symm (.inl z4n)).symm
 rw[eT,eE] at P
 have eP:exD (z0X (typD f.length k es au) (ersD f pl au))=(z0b (typUs f.length k es au) (ersUs f pl au f.length)).1:=(y5h P.sw.symm (.inr (y5j _ _ nC))).symm
 rw[eE,eP] at J
 have hE:ersUs f pl au f.length=ersUs f pl au (f.length- 1)++[.K []]:=by
  rw[y5m f pl au (show f.length- 1<=f.length by omega),show f.length- (f.length- 1)=1 by omega]
  congr 1
  show[ersU f pl au (f.length- 1)]=_
  unfold ersU;rw[if_neg (by rw[hlast];decide)]
 have hT:typUs f.length k es au=typUs (f.length- 1) k es au++[.K []]:=by
  unfold typUs
  rw[show f.length-k=(f.length- 1-k)+1 by omega,List.replicate_succ',qR,qR]
 have tf':=z2P (n:=f.length- 1) (k:=k) (es:=es) (au:=au) (by omega)
 have ef':=z14 f pl au (f.length- 1)
 have hq:(z0b (typUs f.length k es au) (ersUs f pl au f.length)).1=(z0b (typUs (f.length- 1) k es au) (ersUs f pl au (f.length- 1))).1++[.K (fm wioG [] [])]:=by
  rw[hT,hE,y5k _ _ _ _ (by omega)]
 refine⟨_,J,?_,?_,fun t ht x hx=> ?_,?_⟩
 ·have:=J.lens;omega
 ·rw[hq,hE,y5l _ _ _ _ (by rw[y1S _ _ (by omega)]) z4n];exact y2F _ _
 ·have hA:DU.A x∈exD (joinD (ersD f pl au) (z0X (typD f.length k es au) (ersD f pl au))):=y5f ht (by
   rcases J.v.1.all t ht with q| ⟨_,e,_⟩
   ·exact q.1
   ·rw[e] at hx;cases hx) hx
  have h1:=y8I _ _ (y9z _ _ z4n ((z57 J.sw _).1 hA))
  unfold typUs at h1
  rcases qp.1 h1 with h1|h1
  ·cases zn h1
  ·rcases qp.1 h1 with h1|h1
   ·obtain⟨y,hy,h1⟩:=qC.1 h1
    cases h1
    obtain⟨z,hz,rfl⟩:=qC.1 hy
    exact h0 z hz
   ·cases zn h1
 ·have vf:∀x∈f,VG false x.attrs:=fun x hx=>(hn x hx).2.g
  have okE:UOk (ersUs f pl au f.length):=z62 E.all
  have okT:UOk (typUs f.length k es au):=z62 T.all
  have okP:UOk (z0b (typUs f.length k es au) (ersUs f pl au f.length)).1:=z62 P.all
  rw[z07 _ _ _ f (qt _) ef.1 (by rw[y1S _ _ (by omega)]) okE okP vf,<-(z0K _ _ _ f (qt _) tf.1 ef.1 okT okE vf).1]
  have a1:z0i (typUs f.length k es au) f=f.take k++(es.map (typE au)++f.drop k):=by
   unfold typUs
   rw[z27,z8Q,zD (g:=id) (fun x _=>z2e x),List.map_id]
   congr 2
   have:=z27 (f.length-k) [] [] (f.drop k)
   rw[qM] at this
   rw[this,zD (g:=id) (fun x _=>z2e x),List.map_id,qn (by rw[zi];omega)]
   simp[z0i]
  have b1:(z0b (typUs f.length k es au) (ersUs f pl au f.length)).2=ersUs f pl au k++(List.replicate (es.map (typE au)).length (.K [])++(List.range' k (f.length-k)).map (ersU f pl au)):=by
   have l1:(ersUs f pl au k).length=k:=by simp[ersUs]
   have l2:((List.range' k (f.length-k)).map (ersU f pl au)).length=f.length-k:=by simp
   rw[y5m f pl au (Nat.le_of_lt hk)]
   unfold typUs
   have:=z71 (ersUs f pl au k) ((es.map (typE au)).map .A++List.replicate (f.length-k) (.K [])) ((List.range' k (f.length-k)).map (ersU f pl au)) z4n
   rw[l1] at this
   rw[this,y5i]
   congr 2
   have:=z71 ((List.range' k (f.length-k)).map (ersU f pl au)) [] [] y5n
   rw[l2,qM,qM] at this
   rw[this,show z0b [] []=([],[]) by unfold z0b;rfl,qM]
  rw[a1,b1,y2G (by rw[(z14 f pl au k).1,qO];omega)]
  unfold typG
  congr 1
  ·have:=z9j (f:=f) (g:=f.take k) (pl:=pl) (au:=au) (s:=0) (n:=k) (by rw[qO];omega) (fun i _ hi=>by
    rw[qO] at hi
    rw[qc,List.getElem?_take_of_lt (by omega),<-List.getD_eq_getElem?_getD])
   rw[List.drop_zero] at this
   unfold ersUs
   rw[zZ]
   exact this
  ·congr 1
   exact z9j (by omega) (fun i _ _=>rfl)
def visF(f:List Elem):List Elem:=(plcN f 0 f.length).map fun i=>f.getD i default
theorem z9k{q:Elem->Bool}{f:List Elem}:∀m,m<=f.length->((List.range m).filter fun i=>q (f.getD i default)).map (fun i=>f.getD i default)=(f.take m).filter q
 |0,_=>by simp
 |m+1,h=>by
  have e:f.getD m default=f[m]:=by rw[qc,qa (by omega)];rfl
  rw[zG,zf,qX,z9k m (by omega),qr (by omega),zf]
  congr 1
  rw[<-e]
  by_cases hq:q (f.getD m default)=true
  ·rw[jf (by exact hq),jf hq];rfl
  ·rw[List.filter_cons_of_neg (by exact hq),List.filter_cons_of_neg hq];rfl
theorem y8J{f:List Elem}(h0:0<f.length)(hl:(f.getD (f.length- 1) default).char=10):visF f=(f.take (f.length- 1)).filter (fun x=> !(hidX x 0))++[f.getD (f.length- 1) default]:=by
 obtain⟨m,hm⟩:∃m,f.length=m+1:=⟨f.length- 1,by omega⟩
 have e1:f.length- 1=m:=by omega
 unfold visF plcN
 rw[e1,hm,zG,zf,qX]
 congr 1
 ·rw[<-z9k m (by omega)]
  congr 1
  refine List.filter_congr fun i hi=> ?_
  have hi:=zL.1 hi
  unfold visB
  rw[decide_eq_false (show¬(i:Int)=(f.length:Int)- 1 by omega),Bool.false_and,zA]
 ·rw[jf (z6a (.inr ⟨by omega,by rw[<-e1];exact hl⟩))];rfl
theorem y8K{l:List Attr}{au:ByteArray}(h:VG false l)(ha:valGo au=true):gotA (fm rawG l [⟨cutB,au⟩]) cutB=true:=by
 have hc:VG true [⟨cutB,au⟩]:=⟨⟨(fun b hb=>by cases hb),trivial⟩,fun a h=>by
  rw[show a=⟨cutB,au⟩ by simpa using h]
  exact⟨(by decide+kernel:z1f cutB=true),.inl ha⟩⟩
 have hn:cutB≠mt:=by decide
 have hau:au≠mt:=fun e=>vp_mt (by rw[e] at ha;exact ha)
 unfold gotA
 rw[z7x,z1C np_mt z1n h hc cutB]
 have e:look [⟨cutB,au⟩] cutB=some au:=by unfold look;rw[if_pos rfl]
 have k:∀v,(rawG v ⟨cutB,au⟩).map (·.val)=some au:=fun v=>by unfold rawG;rw[if_neg hn,if_neg hau];rfl
 rw[e]
 have:at2 rawG cutB (look l cutB) (some au)=some au:=by
  cases look l cutB with
  |none=>exact k _
  |some v=>exact k _
 rw[this]
 show(!(seq au {data:=#[]}))=true
 rw[z1a.2 hau];rfl
theorem z72{f:List Elem}{pl:List Int}{au:ByteArray}(hv:∀x∈f,VG false x.attrs)(ha:seq au mtB=false->valGo au=true):∀(l:List Nat),(∀i∈l,i<f.length)->
 (ersG f pl au l).filter (fun x=> !(hidX x 0))=(l.filter fun i:Nat=> !(pl.any fun p=>p==(i:Int))&& !(hidX (f.getD i default) 0)).map fun i=>f.getD i default
 | [],_=>rfl
 |i::l,h=>by
  have ih:=z72 (pl:=pl) hv ha l (fun j hj=>h j (qB _ hj))
  unfold ersG at ih|-
  rw[jg,jg]
  cases h1:pl.any (fun p=>p==(i:Int)) with
  |false=>
   simp only[Bool.false_and,Bool.not_false,Bool.true_and,if_true,qV]
   rw[jg,ih]
   simp only[h1,qN,if_false]
   split<;>rfl
  |true=>
   simp only[Bool.true_and,Bool.not_true,Bool.false_and,qN,if_false]
   cases h2:(seq au mtB||seq (getA (f.getD i default).attrs addB 0) au) with
   |true=>simp only[Bool.not_true,qN,if_false];exact ih
   |false=>
    simp only[Bool.not_false,if_true,qV]
    rw[h1,if_pos rfl,jg]
    have hx:=hv _ (z0h (h i (by simp)))
    have hau:seq au mtB=false:=by cases q:seq au mtB;rfl;rw[q] at h2;simp at h2
    have hc:hidX (chgE [⟨cutB,au⟩] (f.getD i default)) 0=true:=by
     unfold hidX
     have hg:gotA (fm rawG (f.getD i default).attrs [⟨cutB,au⟩]) cutB=true:=y8K hx (ha hau)
     show((seq (getA (chgE [⟨cutB,au⟩] (f.getD i default)).attrs hidB 0) onB|| (((0:Int)==0)&&gotA (fm rawG (f.getD i default).attrs [⟨cutB,au⟩]) cutB))||_)=true
     rw[hg];simp
    rw[hc]
    simp only[Bool.not_true,qN,if_false]
    exact ih
theorem z9l(f:List Elem){k:Nat}(h:k<=f.length):plcN f 0 f.length=(List.range k).filter (visB f 0)++(List.range' k (f.length-k)).filter (visB f 0):=by
 unfold plcN
 rw[<-List.filter_append]
 congr 1
 rw[zZ,zZ]
 conv=>lhs;rw[show f.length=k+(f.length-k) by omega]
 rw[<-List.range'_append_1,zB]
theorem y8L{f:List Elem}{n i:Nat}(h:i< (plcN f 0 n).length):(plcL f 0 n).getD i default=(((plcN f 0 n)[i]:Nat):Int):=by
 unfold plcL
 rw[qc,q9,qa h];rfl
theorem y7o(f:List Elem)(n:Nat):(plcN f 0 n).Pairwise (·< ·):=List.Pairwise.filter _ List.pairwise_lt_range
theorem z15(f:List Elem)(n:Nat):(plcL f 0 n).length=(plcN f 0 n).length:=by unfold plcL;rw[qk]
theorem y5p{f:List Elem}{a b:Int}(h:0<=a/\a<=b/\b< ((plcL f 0 f.length).length:Int)):
 0<=gapP (plcL f 0 f.length) a/\(gapP (plcL f 0 f.length) a).toNat<f.length/\((List.range (gapP (plcL f 0 f.length) a).toNat).filter (visB f 0)).length=a.toNat:=by
 have hl:=z15 f f.length
 have hs:=y7o f f.length
 have hm:∀x∈plcN f 0 f.length,x<f.length:=fun x hx=>zL.1 (zt.1 hx).1
 have hb:=hm _ (zo (show a.toNat< (plcN f 0 f.length).length by omega))
 by_cases h0:a=0
 ·subst h0
  have:gapP (plcL f 0 f.length) 0=0:=by unfold gapP;rw[if_pos rfl]
  rw[this]
  exact⟨by omega,by show 0<f.length;omega,by simp⟩
 ·have e:gapP (plcL f 0 f.length) a=(((plcN f 0 f.length)[a.toNat- 1]'(by omega):Nat):Int)+1:=by
   unfold gapP
   rw[if_neg h0,show(a- 1).toNat=a.toNat- 1 by omega,y8L (by omega)]
  have hlt:=List.pairwise_iff_getElem.1 hs (a.toNat- 1) a.toNat (by omega) (by omega) (by omega)
  generalize hz:(plcN f 0 f.length)[a.toNat- 1]'(by omega)=z at e hlt
  rw[e,show((z:Int)+1).toNat=z+1 by omega]
  refine⟨by omega,by omega,?_⟩
  have sp:=z9l f (show z+1<=f.length by omega)
  generalize hA:(List.range (z+1)).filter (visB f 0)=A at sp
  generalize hB:(List.range' (z+1) (f.length- (z+1))).filter (visB f 0)=B at sp
  have mA:∀x∈A,x<z+1:=fun x hx=>by rw[<-hA] at hx;exact zL.1 (zt.1 hx).1
  have mB:∀x∈B,z+1<=x:=fun x hx=>by rw[<-hB] at hx;exact(z8.1 (zt.1 hx).1).1
  have hlen:(plcN f 0 f.length).length=A.length+B.length:=by rw[sp,qf]
  rcases Nat.lt_trichotomy A.length a.toNat with q|q|q
  ·have:(plcN f 0 f.length)[a.toNat- 1]'(by omega)=B[a.toNat- 1-A.length]'(by omega):=by
    simp only[sp]
    rw[List.getElem_append_right (by omega)]
   have:=mB _ (zo (show a.toNat- 1-A.length<B.length by omega))
   omega
  ·exact q
  ·have:(plcN f 0 f.length)[a.toNat]'(by omega)=A[a.toNat]'q:=by
    simp only[sp]
    rw[List.getElem_append_left q]
   have:=mA _ (zo q)
   omega
theorem y6H{B:List Nat}(hd:B.Nodup)(m:Nat){q:Nat->Bool}(hq:∀x∈B,q x=true↔x∉B.take m):B.filter q=B.drop m:=by
 have hp:(B.take m++B.drop m).Nodup:=by rw[zE];exact hd
 rw[List.nodup_append] at hp
 conv=>lhs;rw[<-List.take_append_drop m B]
 rw[zf]
 have e1:(B.take m).filter q=[]:=by
  rw[List.filter_eq_nil_iff]
  intro x hx hx2
  exact(hq x (qA hx)).1 hx2 hx
 have e2:(B.drop m).filter q=B.drop m:=by
  rw[List.filter_eq_self]
  intro x hx
  exact(hq x (qJ hx)).2 (fun z=>hp.2.2 x z x hx rfl)
 rw[e1,e2,zT]
theorem y6I(f:List Elem)(pl:List Int)(au:ByteArray)(l1 l2:List Nat):ersG f pl au (l1++l2)=ersG f pl au l1++ersG f pl au l2:=by
 unfold ersG;rw[zf,qX]
theorem y8M{f:List Elem}{a b:Int}{au:ByteArray}{es:List Elem}(hf:FX U f)(ha:seq au mtB=false->valGo au=true)(h:0<=a/\a<=b/\b< ((plcL f 0 f.length).length:Int))(he:∀x∈es,hidX (typE au x) 0=false):
 (((plcL f 0 f.length).take b.toNat).drop a.toNat).any (fun p=>p==((f.length- 1:Nat):Int))=false/\
 visF (typG f (((plcL f 0 f.length).take b.toNat).drop a.toNat) au (gapP (plcL f 0 f.length) a).toNat es)=(visF f).take a.toNat++(es.map (typE au)++(visF f).drop b.toNat):=by
 obtain⟨g0,g1,g2⟩:=y5p h
 generalize hk:(gapP (plcL f 0 f.length) a).toNat=k at g1 g2
 have hl:=z15 f f.length
 have hlt:=y7o f f.length
 have hpos:=hf.pos
 have hv:∀x∈f,VG false x.attrs:=fun x hx=>(hf.ru x hx).2.g
 have sp:=z9l f (Nat.le_of_lt g1)
 have hr:List.range' k (f.length-k)=List.range' k (f.length- 1-k)++[f.length- 1]:=by
  rw[show f.length-k=(f.length- 1-k)+1 by omega,List.range'_concat]
  simp only[Nat.one_mul]
  rw[show k+(f.length- 1-k)=f.length- 1 by omega]
 have hvl:visB f 0 (f.length- 1)=true:=z6a (.inr ⟨by omega,hf.last⟩)
 rw[hr,zf,show[f.length- 1].filter (visB f 0)=[f.length- 1] by rw[jf hvl];rfl] at sp
 generalize hA:(List.range k).filter (visB f 0)=A at sp g2
 generalize hB:(List.range' k (f.length- 1-k)).filter (visB f 0)=B at sp
 have hlen:(plcN f 0 f.length).length=A.length+(B.length+1):=by rw[sp,qf,qf];rfl
 have mA:∀x∈A,x<k:=fun x hx=>by rw[<-hA] at hx;exact zL.1 (zt.1 hx).1
 have mB:∀x∈B,k<=x/\x<f.length- 1:=fun x hx=>by
  rw[<-hB] at hx
  have:=z8.1 (zt.1 hx).1
  omega
 have ndB:B.Nodup:=by
  rw[sp] at hlt
  have:=(List.pairwise_append.1 (List.pairwise_append.1 hlt).2.1).1
  exact this.imp (fun h=>Nat.ne_of_lt h)
 have hpl:((plcL f 0 f.length).take b.toNat).drop a.toNat=(B.take (b.toNat-a.toNat)).map fun i:Nat=>(i:Int):=by
  unfold plcL
  rw[<-List.map_take,<-List.map_drop,sp,List.take_append,List.drop_append,g2]
  congr 1
  rw[show A.take b.toNat=A from qn (by omega),qP (by omega),zT,List.take_append,g2,Nat.sub_self,List.drop_zero,show(b.toNat-a.toNat)- B.length=0 by omega,List.take_zero,qM]
 have any_iff:∀i:Nat,((((plcL f 0 f.length).take b.toNat).drop a.toNat).any fun p=>p==(i:Int))=true↔i∈B.take (b.toNat-a.toNat):=fun i=>by
  rw[hpl,List.any_eq_true]
  constructor
  ·rintro⟨x,hx,e⟩
   obtain⟨j,hj,rfl⟩:=qC.1 hx
   rw[beq_iff_eq] at e
   have:j=i:=by omega
   rw[<-this];exact hj
  ·intro hi
   exact⟨(i:Int),qC.2 ⟨i,hi,rfl⟩,by simp⟩
 generalize((plcL f 0 f.length).take b.toNat).drop a.toNat=pl at any_iff
 have nolast:pl.any (fun p=>p==((f.length- 1:Nat):Int))=false:=by
  apply qd;intro q
  have:=(any_iff _).1 (by simpa using q)
  have:=(mB _ (qA this)).2
  omega
 refine⟨nolast,?_⟩
 have hvis:∀i,i<f.length- 1->visB f 0 i=!(hidX (f.getD i default) 0):=fun i hi=>by
  unfold visB
  rw[decide_eq_false (show¬(i:Int)=(f.length:Int)- 1 by omega),Bool.false_and,zA]
 have eL:ersG f pl au [f.length- 1]=[f.getD (f.length- 1) default]:=by
  unfold ersG
  rw[jf (by rw[nolast];rfl)]
  simp only[List.filter_nil,qV,zR]
  rw[nolast,if_neg (by decide)]
 have eg:typG f pl au k es=(ersG f pl au (List.range' 0 k)++(es.map (typE au)++ersG f pl au (List.range' k (f.length- 1-k))))++[f.getD (f.length- 1) default]:=by
  unfold typG
  rw[hr,y6I,eL];simp only[qR]
 have ev:visF f=A.map (fun i=>f.getD i default)++(B.map (fun i=>f.getD i default)++[f.getD (f.length- 1) default]):=by
  unfold visF
  rw[sp,qX,qX];rfl
 rw[eg,y8J (by rw[qf,zN];omega) (by rw[z4k (by simp)];exact hf.last),z4k (by simp)]
 rw[qf,zN,Nat.add_sub_cancel,List.take_left,zf,zf]
 have c1:(ersG f pl au (List.range' 0 k)).filter (fun x=> !(hidX x 0))=A.map fun i=>f.getD i default:=by
  rw[z72 hv ha _ (fun i hi=>by have:=z8.1 hi;omega),<-hA,zZ]
  congr 1
  refine List.filter_congr fun i hi=> ?_
  have hi:=z8.1 hi
  rw[hvis i (by omega)]
  have:pl.any (fun p=>p==(i:Int))=false:=by
   apply qd;intro q
   have:=(any_iff _).1 (by simpa using q)
   have:=(mB _ (qA this)).1
   omega
  rw[this];rfl
 have c2:(es.map (typE au)).filter (fun x=> !(hidX x 0))=es.map (typE au):=by
  rw[List.filter_eq_self]
  intro x hx
  obtain⟨y,hy,rfl⟩:=qC.1 hx
  rw[he y hy];rfl
 have c3:(ersG f pl au (List.range' k (f.length- 1-k))).filter (fun x=> !(hidX x 0))=(B.drop (b.toNat-a.toNat)).map fun i=>f.getD i default:=by
  rw[z72 hv ha _ (fun i hi=>by have:=z8.1 hi;omega)]
  congr 1
  rw[<-y6H ndB (b.toNat-a.toNat) (q:=fun i:Nat=> !(pl.any fun p=>p==(i:Int))) (fun x hx=>by
   rw[<-any_iff x];show(!(pl.any fun p=>p==(x:Int)))=true↔¬((pl.any fun p=>p==(x:Int))=true);cases(pl.any fun p=>p==(x:Int))<;>simp),<-hB,List.filter_filter]
  refine List.filter_congr fun i hi=> ?_
  have hi:=z8.1 hi
  rw[hvis i (by omega)]
 rw[c1,c2,c3,ev]
 have lA:(A.map fun i=>f.getD i default).length=a.toNat:=by rw[qk];exact g2
 rw[show a.toNat=(A.map fun i=>f.getD i default).length from lA.symm]
 rw[List.take_left,List.drop_append,qP (show(A.map fun i=>f.getD i default).length<=b.toNat by omega),zT,List.drop_append,<-List.map_drop,lA]
 rw[show b.toNat-a.toNat- (B.map fun i=>f.getD i default).length=0 by rw[qk];omega,List.drop_zero]
 simp only[qR]
 rfl
end Go.Ch
end
section
namespace Go.Ch
open Go Go.Ab
variable {U:US}
theorem z5v{l:List Attr}{n:ByteArray}(h:∀a∈l,seq a.name n=false):look l n=none:=by
 rw[<-z80]
 unfold hasA
 apply qd;intro q
 have q:l.any (fun a=>seq a.name n)=true:=by simpa using q
 obtain⟨a,ha,q⟩:=List.any_eq_true.1 q
 rw[h a ha] at q;cases q
theorem y8N{n:ByteArray}(h:sprB n=true):seq n hidB=false:=by
 cases q:seq n hidB with
 |false=>rfl
 |true=>rw[z0u.1 q] at h;exact absurd h (by decide+kernel)
theorem y8O{n:ByteArray}(h:btwB n=true):seq n hidB=false:=by
 cases q:seq n hidB with
 |false=>rfl
 |true=>rw[z0u.1 q] at h;exact absurd h (by decide+kernel)
theorem y1T{r:Elem}{k:Int}:∀{l o:List Attr},VU U false o->(∀a∈l,VU U true [a])->look o hidB=none->look (inhO r k o l) hidB=none
 | [],o,_,_,h=>h
 |a::l,o,ho,hl,h=>by
  show look (inhO r k (if inhG r k a=true then fm rawG o [a] else o) l) hidB=none
  have ha:=hl a (by simp)
  have h1:VU U false (if inhG r k a=true then fm rawG o [a] else o):=by
   split
   ·exact raw_V nu_mt ho ha
   ·exact ho
  refine y1T h1 (fun b hb=>hl b (by simp[hb])) ?_
  ·split
   ·rename_i q
    have hb:btwB a.name=true:=by
     unfold inhG at q
     rw[qm,qm] at q;exact q.1.1
    rw[z1C np_mt z1n ho.g ha.g hidB,h,z5v (l:=[a]) (fun b hb'=>by rw[qy] at hb';subst hb';exact y8O hb)]
    rfl
   ·exact h
theorem y6J{p:Pl}(hp:PlB p)(hn:∀x∈p.node.flow,RU U x)(k:Int):look (inhP p k) hidB=none:=by
 unfold inhP
 have h1:=z4h hp hn (k- 1)
 have h2:VU U false (inhB p k):=by
  unfold inhB
  split
  ·refine V.filt ?_
   unfold inhF;split
   ·exact(z4h hp hn k).2
   ·exact h1.2
  ·exact VU.nil
 refine y1T h2 (fun a ha=>h1.2.one ha) ?_
 ·unfold inhB
  split
  ·exact z5v (fun a ha=>y8N (zt.1 ha).2)
  ·rfl
theorem y6K(p:Pl)(k:Nat):look (endP p k) hidB=none:=by
 refine z5v (fun a ha=> ?_)
 have h:=(zt.1 ha).2
 cases q:seq a.name hidB with
 |false=>rfl
 |true=>
  unfold endG at h
  rw[z0u.1 q] at h
  exact absurd h (by decide+kernel)
theorem y5q{au:ByteArray}{x:Elem}(hx:VG false x.attrs)(ha:VG true [⟨addB,au⟩,⟨cutB,mtB⟩])(h:look x.attrs hidB=none):hidX (typE au x) 0=false:=by
 have l1:look (fm rawG x.attrs [⟨addB,au⟩,⟨cutB,mtB⟩]) hidB=none:=by
  rw[z1C np_mt z1n hx ha hidB,h,z5v (l:=[⟨addB,au⟩,⟨cutB,mtB⟩]) (fun b hb=>by
   simp only[qj,qS,or_false] at hb
   rcases hb with rfl|rfl
   ·exact(by decide+kernel:seq addB hidB=false)
   ·exact(by decide+kernel:seq cutB hidB=false))]
  rfl
 have l2:look (fm rawG x.attrs [⟨addB,au⟩,⟨cutB,mtB⟩]) cutB=none:=by
  rw[z1C np_mt z1n hx ha cutB]
  have e:look [⟨addB,au⟩,⟨cutB,mtB⟩] cutB=some mtB:=by
   unfold look;rw[if_neg (show¬addB=cutB by decide)]
   unfold look;rw[if_pos rfl]
  have k:∀v:Attr,(rawG v ⟨cutB,mtB⟩).map (·.val)=none:=fun v=>by unfold rawG;rw[if_neg (show¬cutB=mt by decide),if_pos (show mtB=mt from rfl)];rfl
  rw[e]
  cases look x.attrs cutB with
  |none=>exact k default
  |some v=>exact k ⟨cutB,v⟩
 unfold hidX gotA typE
 simp only
 rw[z7x,z7x,l1,l2,show seq ((none:Option ByteArray).getD mt) onB=false by decide+kernel,show seq ((none:Option ByteArray).getD mt) {data:=#[]}=true by decide+kernel]
 rfl
theorem y2H{p:Pl}(hp:PlB p)(hn:∀x∈p.node.flow,RU U x){s:Sel}{cs:List Int}:∀x∈typEl p s cs,look x.attrs hidB=none/\x.ref=0:=by
 intro x hx
 unfold typEl at hx
 obtain⟨y,hy,rfl⟩:=qC.1 hx
 obtain⟨c,hc',rfl⟩:=qC.1 hy
 unfold typX mkE
 split
 ·exact⟨y6K _ _,rfl⟩
 ·exact⟨y6J hp hn _,rfl⟩
theorem y0d(p:Pl)(s:Sel)(cs:List Int):(typEl p s cs).map (·.char)=cs:=by
 unfold typEl
 rw[jb,jb]
 conv=>rhs;rw[<-List.map_id cs]
 refine zD fun c _=> ?_
 show(typX p s (mkE _ c)).char=c
 unfold typX;split<;>rfl
theorem y8P{c:Int}(h:CharP c):c≠0:=by unfold CharP at h;omega
theorem y6L{d:Doc}(x1:DX (⟨UC++[],[]⟩:US) d)(a b:Int)(cs:List Int)(au:ByteArray){f:List Elem}(hf:(ndN d.nodes 2).flow=f){P:List Int}(hP:plcL f 0 f.length=P)(h:0<=a/\a<=b/\b< (P.length:Int))
 (hau:seq au mtB=true\/valGo au=true) (hc:∀c∈cs,CharP c) (hl:cs.length<=1000000):
 atE d ⟨2,a,b⟩ au=0/\TypB d ⟨2,a,b⟩ cs au/\AppB d (typeO d ⟨2,a,b⟩ cs au)/\appE d (typeO d ⟨2,a,b⟩ cs au)=0/\typeS d ⟨2,a,b⟩ cs au=⟨2,a+cs.length,a+cs.length⟩/\
 ∃es g,(nodeF (appD d (typeO d ⟨2,a,b⟩ cs au)) 2).flow=g/\es.map (fun x:Elem=>(x.char,x.ref))=cs.map (fun c=>(c,(0:Int)))/\shwR g g.length=plcL g 0 g.length/\g.length<=f.length+cs.length/\
  (∀x∈g,RU (⟨UC++[],[]⟩:US) x)/\appD d (typeO d ⟨2,a,b⟩ cs au)=putF d g/\visF g=(visF f).take a.toNat++(es++(visF f).drop b.toNat):=by
 have hN:=y1Q [] (by simp) [] (fun v hv=>by cases hv)
 have hU:=hN.toUB
 obtain⟨g1,g2⟩:=x1.flow
 obtain⟨n1,n2,n3,n4,n5⟩:=x1.nd
 rw[hf] at g1 g2
 have hAu:AuB (⟨UC++[],[]⟩:US) au:=⟨hau,by simp⟩
 obtain⟨t1,t2⟩:=x1.at (au:=au) (by rw[hf,hP];exact h) hau
 obtain⟨p1,p2,p3,p4,p5⟩:=z1M hU x1.pp (by omega) (by simp) t1
 have hcs:∀c∈cs,CharP c/\c≠0:=fun c hc'=>⟨hc c hc',y8P (hc c hc')⟩
 have he:=z5r p1 p3 (s:=⟨2,a,b⟩) hcs
 have hsn:=y2H p1 p3 (s:=⟨2,a,b⟩) (cs:=cs)
 have hlen:(typEl (atP d ⟨2,a,b⟩ au) ⟨2,a,b⟩ cs).length=cs.length:=z2C _ _ _
 have hi:=z4E p1 p3 a
 have hS:=(z6m hU (s:=⟨2,a,b⟩) (es:=typEl (atP d ⟨2,a,b⟩ au) ⟨2,a,b⟩ cs) p1 p2 p3 p4 p5 (by omega) he).1
 have hT:TypB d ⟨2,a,b⟩ cs au:=⟨p1,z05.2 hi.g,by have:=hi.len hU.len;show(inhP _ a).length<=_;omega,p5,hS⟩
 generalize hes:typEl (atP d ⟨2,a,b⟩ au) ⟨2,a,b⟩ cs=es at he hsn hlen
 have hg:=y5p (f:=f) (a:=a) (b:=b) (by rw[hP];exact h)
 rw[hP] at hg
 obtain⟨k0,k1,k2⟩:=hg
 have hx:=y8M (f:=f) (a:=a) (b:=b) (au:=au) (es:=es) g1 (fun q=>hau.resolve_left (by rw[q];decide)) (by rw[hP];exact h) (fun x hx=>y5q (he x hx).2.g (y42 hU hAu).g (hsn x hx).1)
 rw[hP] at hx
 obtain⟨us,s1,s2,s3,s4,s5⟩:=y5o hU (f:=f) (pl:=(P.take b.toNat).drop a.toNat) (au:=au) (k:=(gapP P a).toNat) (es:=es) (by omega) g1.ru hAu k1 (by omega) he (fun x hx=>(hsn x hx).2) hx.1
 rw[zU k0] at s1 s4
 have e1:=(y1r (cs:=cs) t1).1
 have e2:=(y1r (cs:=cs) t1).2
 have e3:stpP (atP d ⟨2,a,b⟩ au) ⟨2,a,b⟩ es=joinD (ersD f ((P.take b.toNat).drop a.toNat) au) (z0X (typD f.length (gapP P a) es au) (ersD f ((P.take b.toNat).drop a.toNat) au)):=by
  rw[t2,hf,hP];unfold stpP ersP typP;simp only[hf]
 rw[hes] at e1 e2
 rw[e3] at e1
 have r:=x1.op hU x1.pp s1 (by rw[hf];exact s2) s3 s4
 rw[hf] at r
 have hru:∀x∈z0i us f,RU _ x:=z1D us f s1.all g1.ru
 have e:=z2A us f s2
 have l1:=s1.lens
 have l2:=(z6m hU (s:=⟨2,a,b⟩) (es:=es) p1 p2 p3 p4 p5 (by omega) he).2.2.2
 rw[e3,t2] at l2
 simp only[hf] at l2
 refine⟨t1,hT,by rw[e1];exact r.1,by rw[e1];exact r.2.1,by rw[e2];unfold selP;rw[hlen],es.map (typE au),z0i us f,?_,?_,?_,?_,hru,?_,by rw[s5];exact hx.2⟩
 ·rw[e1,r.2.2,(z9i x1 _).1]
 ·have:=y0d (atP d ⟨2,a,b⟩ au) ⟨2,a,b⟩ cs
  rw[hes] at this
  rw[<-this,jb,jb]
  refine zD fun x hx=> ?_
  show(x.char,x.ref)=(x.char,0)
  rw[(hsn x hx).2]
 ·exact y5d fun x hx=>(hru x hx).2.g
 ·omega
 ·rw[e1,r.2.2]
def visR(f:List Elem):List Elem:=(shwR f f.length).map fun i=>f.getD i.toNat default
theorem z73{f:List Elem}(h:shwR f f.length=plcL f 0 f.length):visR f=visF f:=by
 unfold visR visF
 rw[h]
 unfold plcL
 rw[jb]
 rfl
theorem y1U(a b:List Int):strB (a++b)=strB a++strB b:=by
 unfold strB
 rw[qX]
 apply ByteArray.ext
 rw[ByteArray.data_append]
 simp
theorem y5r(t:ByteArray):strB (intsB t)=t:=by
 unfold strB intsB
 apply ByteArray.ext
 rw[jb]
 have:(t.data.toList.map ((fun z:Int=>UInt8.ofNat z.toNat)∘fun b:UInt8=>(b.toNat:Int)))=t.data.toList:=by
  conv=>rhs;rw[<-List.map_id t.data.toList]
  refine zD fun b _=> ?_
  simp
 first
 | (rw[this];simp)
 |simp[this]
theorem y5s(a b:List Elem):txB (a++b)=txB a++txB b:=by unfold txB;rw[List.flatMap_append]
theorem y5t{x y z:List Elem}{t:ByteArray}(h:txB y=intsB t):txS (x++(y++z))=(txS x++t)++txS z:=by
 unfold txS
 rw[y5s,y5s,y1U,y1U,h,y5r,ByteArray.append_assoc]
theorem z9m:∀{es:List Elem} {cs:List Int},es.map (fun x:Elem=>(x.char,x.ref))=cs.map (fun c=>(c,(0:Int)))->txB es=cs.flatMap Lib.encodeRuneZ
 | [],[],_=>rfl
 | [],c::cs,h=>by cases h
 |x::es,[],h=>by cases h
 |x::es,c::cs,h=>by
  rw[qV,qV] at h
  injection h with h1 h2
  injection h1 with h3 h4
  have:=z9m h2
  unfold txB at this|-
  rw[List.flatMap_cons,List.flatMap_cons,this]
  congr 2
  unfold runeE;rw[if_pos h4,h3]
end Go.Ch
end
section
set_option maxRecDepth 100000
set_option maxHeartbeats 4000000
open Go Go.Proofs Go.Ab
namespace Go.Ch
theorem y8Q(f:List Elem)(hf:f.length<=1048576)(hp:∀x∈shwR f f.length,0<=x/\x< (f.length:Int)):FC Tryz.prog 9 [VL 3 elemT f] (app emp []) (VL 3 elemT (visR f)) (app emp []):=by
 refine .go Tryz.f9 ?_
 refine .len 0 (fun hl0=> ?_)
 have hsl:=z5m f f.length
 refine .loop (α:=Nat×(List Elem)) [.r [],.r [],.r [(1,X (Xc1 24 (z88 f (by omega)) X0))],.r [(1,X (Xl intT (shwR f (f).length)))],.le (.nR 3 3)] 65 (fun(i,o)=>([(0,VL 3 elemT f),(3,.row 64 o.length),(4,VL 1 intT (shwR f (f).length)),(9,VI ((shwR f (f).length).length:Int)),(10,VI (i:Int))],[(64,OR 3 elemT o)])) (fun(i,o)=>i<=(shwR f f.length).length/\o=((shwR f f.length).take i).map fun j=>f.getD j.toNat default) (fun(i,o)=>(shwR f f.length).length-i) (0,[]) ?_ ?_
 ·
  exact⟨by omega,rfl⟩
 rintro⟨i,o⟩ I4 ih4
 try dsimp only at I4
 have ol:o.length=i:=by rw[I4.2];simp;omega
 refine .bp [.r []] (decide ((i:Int)< ((shwR f (f).length).length:Int))) (fun h4=> ?_) (fun h4=> ?_)
 ·
  have hx:=hp _ (z0h (l:=shwR f f.length) (i:=i) (by omega))
  refine .back [.r [],.r [(4,X (Xi intT (shwR f (f).length) (i:Int))),(6,X (Xi elemT f ((shwR f (f).length).getD i default))),(9,X (rowC elemT [((f.getD (Int.toNat ((shwR f (f).length).getD i default)) default))] (Xap 3 elemT 64 o [((f.getD (Int.toNat ((shwR f (f).length).getD i default)) default))])))],.r [(0,X (Xn ((i:Int)+1)))]] [(64,64)] (ih4 ((i+1),(o++[((f.getD (Int.toNat ((shwR f (f).length).getD i default)) default))])) ?_ ?_)
  ·
   refine⟨by omega,?_⟩
   rw[I4.2,qr (by omega),qX]
   simp[List.getD,qa (show i< (shwR f f.length).length by omega)]
  ·
   ((try dsimp only);omega)
 ·
  have e1:((visR f):List Elem)=o:=by
   rw[I4.2,qn (by omega)];rfl
  exact .finE [.r [],.le (.fr 2 [(o.length:Nat)=(List.map elemT o).length] ⟨lm,trivial⟩)] [] (fun z0:List Elem=>(VL 3 elemT z0,[])) _ _ e1
theorem y1V(d:Doc)(s:Sel)(t:ByteArray)(cs:List Int)(au:ByteArray)(hof:OfFC t cs)(hb:DocL d)(ht:t.size<=20000)(hx:atE d s au=0->TypB d s cs au){o:List EOp}{S:Sel}(ho:typeO d s cs au=o)(hS:typeS d s cs au=S)(h0:atE d s au=0):FC Tryz.prog 12 [.t (docT d),.t (selT s),VS t,VS au] (app emp []) (.tup [VL 19 eopT o,.t (selT S),VI 0]) (app emp []):=by
 have:=z9Y d s t cs au hof hb ht hx
 rw[ho,hS,h0] at this;exact this
theorem y0e(f:List Elem)(hf:f.length<=1048576)(hp:∀x∈shwR f f.length,0<=x/\x< (f.length:Int)){v:List Elem}(h:visR f=v):FC Tryz.prog 9 [VL 3 elemT f] (app emp []) (VL 3 elemT v) (app emp []):=h▸y8Q f hf hp
end Go.Ch
end
section
namespace Go.Ch
open Go Go.Ab
variable {U:US}
end Go.Ch
end
section
namespace Go.Ch
open Go Go.Ab
variable {U:US}
end Go.Ch
end
section
set_option maxRecDepth 100000
set_option maxHeartbeats 4000000
open Go Go.Proofs Go.Ab
namespace Go.Ch
theorem y5u(raw:List Int)(G:Nat->Doc->Prop)(hI:GInv 0 G)(hg:G 0 baseD){d:Doc}(h:z1y 0 raw baseD 0=d):FC Tryz.prog 7 [VL 1 intT raw] (app emp []) (.t (docT d)) (app emp []):=h▸y6x raw G hI hg
theorem z74(d:Doc)(hb:DocL d){n:Node}(h:nodeF d 2=n)(h2:nodeH d 2=true):FC Tryz.prog 8 [.t (docT d),VI 2] (app emp []) (.tup [.t (nodeT n),VB true]) (app emp []):=h▸h2▸z92 d 2 hb
theorem z63(x lo hi:Int)(hl: -1000000000000<=lo/\lo<=hi/\hi<=1000000000000){z:Int}(h:z0c x lo hi=z):FC Tryz.prog 10 [VI x,VI lo,VI hi] (app emp []) (VI z) (app emp []):=h▸z0x x lo hi hl
theorem z9n(d:Doc)(c:List EOp)(hb:AppB d c){d2:Doc}(h:appD d c=d2)(h0:appE d c=0):FC Tryz.prog 13 [.t (docT d),VL 19 eopT c] (app emp []) (.tup [.t (docT d2),VI 0]) (app emp []):=by
 have:=z5o d c hb
 rw[h,h0] at this;exact this
end Go.Ch
end
section
namespace Go.Ch
open Go Go.Ab
theorem NG.put{U:US}{n:Node}{m:Nat}{f:List Elem}(h:NG U n)(hz:NZ m n)(hf:∀x∈f,RU U x)(hl:f.length<=m):NG U {n with flow:=f}/\NZ m {n with flow:=f}:=
 ⟨{h with fl:=hf},{hz with fl:=hl}⟩
theorem y5v{U:US}(hU:UB U){d:Doc}(h:DX U d){f:List Elem}(hf:∀x∈f,RU U x)(hl:f.length<=3000):DocL (putF d f):=by
 obtain⟨h1,h2,h3,h4,h5⟩:=h.nd
 have hlen:=h.pp.len
 refine y40 hU (m:=3000) (q:=63) (by omega) (by omega) (by unfold putF;rw[zp];omega) fun n hn=> ?_
 rcases za hn with hn|rfl
 ·have:=h.pp.gp.nd _ hn
  exact⟨this.1,this.2.mono (by omega)⟩
 ·have:=h.pp.gp.nd _ h5
  exact this.1.put (this.2.mono (by omega)) hf hl
structure Au37(d:Doc)(A B:Int)(t:ByteArray)(cs:List Int)(v:List Elem)(au:ByteArray)(o:List EOp)(d2:Doc)(m:Node)(w:List Elem):Prop where
 ho:typeO d ⟨2,A,B⟩ cs au=o
 hs:typeS d ⟨2,A,B⟩ cs au=⟨2,A+cs.length,A+cs.length⟩
 e1:atE d ⟨2,A,B⟩ au=0
 tb:atE d ⟨2,A,B⟩ au=0->TypB d ⟨2,A,B⟩ cs au
 ap:AppB d o
 e2:appE d o=0
 hd2:appD d o=d2
 doc2:DocL d2
 hm:nodeF d2 2=m
 hm2:nodeH d2 2=true
 hw:visR m.flow=w
 fl:m.flow.length<=1048576
 pl:∀x∈shwR m.flow m.flow.length,0<=x/\x< (m.flow.length:Int)
 wl:w.length<=1000000
 wo:∀x∈w,elemE x=0
 str:txS w=(txS (v.take A.toNat)++t)++txS (v.drop B.toNat)
theorem y5w(f:List Elem):(visF f).length=(plcL f 0 f.length).length:=by unfold visF;rw[qk,z15]
theorem y5x{f:List Elem}{x:Elem}(h:x∈visF f):x∈f:=by
 unfold visF at h
 obtain⟨i,hi,rfl⟩:=qC.1 h
 unfold plcN at hi
 exact z0h (zL.1 (zt.1 hi).1)
theorem au_ok{d:Doc}(x1:DX (⟨UC++[],[]⟩:US) d){f:List Elem}(hf:(ndN d.nodes 2).flow=f)(a b:Int)(t au:ByteArray)(h:0<=a/\a<=b/\b< ((plcL f 0 f.length).length:Int))(hau:seq au mtB=true\/valGo au=true)(ht:(ofR t).2=0)(hn:t.size<=200):
 Au37 d a b t (ofR t).1 (visF f) au (typeO d ⟨2,a,b⟩ (ofR t).1 au) (appD d (typeO d ⟨2,a,b⟩ (ofR t).1 au)) (nodeF (appD d (typeO d ⟨2,a,b⟩ (ofR t).1 au)) 2) (visR (nodeF (appD d (typeO d ⟨2,a,b⟩ (ofR t).1 au)) 2).flow):=by
 obtain⟨c1,c2,c3⟩:=y4R _ t rfl
 have hN:=y1Q [] (by simp) [] (fun v hv=>by cases hv)
 obtain⟨g1,g2⟩:=x1.flow
 rw[hf] at g1 g2
 obtain⟨t1,t2,t3,t4,t5,es,g,t6,t7,t8,t9,t10,t11,t12⟩:=y6L x1 a b (ofR t).1 au hf rfl h hau c1 (by omega)
 refine⟨rfl,t5,t1,fun _=>t2,t3,t4,rfl,?_,rfl,?_,rfl,?_,?_,?_,?_,?_⟩
 ·rw[t11];exact y5v hN.toUB x1 t10 (by omega)
 ·rw[t11];exact(z9i x1 g).2
 ·rw[t6];omega
 ·rw[t6,t8];exact fun x hx=>z7S hx
 ·rw[t6,z73 t8,y5w,z15]
  have:(plcN g 0 g.length).length<=g.length:=by unfold plcN;exact qD (zF _ _) (by rw[List.length_range];omega)
  omega
 ·rw[t6,z73 t8];exact fun x hx=>(t10 x (y5x hx)).1
 ·rw[t6,z73 t8,t12]
  exact y5t (by rw[z9m t7];exact c3 ht)
def AuC(au:ByteArray):Prop:=au={data:=#[]}\/au={data:=#[98,111,98]}
structure Ok37(raw:List Int)(a b:Int)(t:ByteArray)(d:Doc)(n:Node)(v:List Elem)(A B:Int)(O:ByteArray->List EOp)(D:List EOp->Doc)(M:Doc->Node)(W:List Elem->List Elem):Prop where
 hd:z1y 0 raw baseD 0=d
 hn:nodeF d 2=n
 hn2:nodeH d 2=true
 hv:visR n.flow=v
 hA:z0c a 0 ((v.length:Int)- 1)=A
 hB:z0c b A ((v.length:Int)- 1)=B
 doc:DocL d
 fl:n.flow.length<=1048576
 pl:∀x∈shwR n.flow n.flow.length,0<=x/\x< (n.flow.length:Int)
 vl:1<=v.length/\v.length<=1000000
 vo:∀x∈v,elemE x=0
 each:(ofR t).2=0->t.size<=200->∀au,AuC au->Au37 d A B t (ofR t).1 v au (O au) (D (O au)) (M (D (O au))) (W (M (D (O au))).flow)
theorem ofL_l{t:ByteArray}{l:List Attr}(h:(ofR t).2=0):(ofL t l).length=(ofR t).1.length:=by unfold ofL;rw[if_pos h,qk]
theorem y6M(raw:List Int)(a b:Int)(t:ByteArray):∃d n v A B O D M W,Ok37 raw a b t d n v A B O D M W:=by
 have hN:=y1Q [] (by simp) [] (fun v hv=>by cases hv)
 have x1:=y6F hN raw
 generalize hd:z1y 0 raw baseD 0=d at x1
 obtain⟨g1,g2⟩:=x1.flow
 obtain⟨s1,s2⟩:=g1.plc
 generalize hf:(ndN d.nodes 2).flow=f at g1 g2 s1 s2
 have hv:visR f=visF f:=z73 s1
 have hl:=y5w f
 have w1:=z0m a (lo:=0) (hi:=((visF f).length:Int)- 1) (by omega)
 have w2:=z0m b (lo:=z0c a 0 (((visF f).length:Int)- 1)) (hi:=((visF f).length:Int)- 1) (by omega)
 have hl2:(plcL f 0 f.length).length<=f.length:=by rw[z15];unfold plcN;exact qD (zF _ _) (by rw[List.length_range];omega)
 refine⟨d,nodeF d 2,visF f,_,_,fun au=>_,appD d,fun d=>nodeF d 2,visR,hd,rfl,x1.node.2,by rw[x1.node.1,hf,hv],rfl,rfl,x1.pp.docL hN.toUB (by omega),by rw[x1.node.1,hf];omega,?_,by omega,fun x hx=>(g1.ru x (y5x hx)).1,fun h1 h2 au hau=>au_ok x1 hf _ _ t au (by omega) ?_ h1 h2⟩
 ·rw[x1.node.1,hf,s1]
  exact fun x hx=>z7S hx
 ·rcases hau with rfl|rfl
  ·exact .inl (by decide+kernel)
  ·exact .inr (by decide+kernel)
end Go.Ch
end
section
set_option maxRecDepth 100000
set_option maxHeartbeats 4000000
open Go Go.Proofs Go.Ab
namespace Go.Ch
theorem y1W{f:List Elem}(h:∀x∈f,elemE x=0):(txS f).size<=4*f.length:=by
 have:=z96 f (fun x hx=>y4P (h x hx))
 have e:(txS f).size=(txB f).length:=by unfold txS strB;show Array.size _=_;simp
 omega
theorem y6N(raw:List Int)(a b:Int)(t:ByteArray)(G:Nat->Doc->Prop)(hI:GInv 0 G)(hg:G 0 baseD)(hs:t.size<=1000000000)(d:Doc)(n:Node)(v:List Elem)(A B:Int)(O:ByteArray->List EOp)(D:List EOp->Doc)(M:Doc->Node)(W:List Elem->List Elem)(hx:Ok37 raw a b t d n v A B O D M W):FC Tryz.prog 3 [VL 1 intT raw,VI a,VI b,VS t] (app emp []) (VB true) (app emp []):=by
 refine .go Tryz.f3 ?_
 refine .len 0 (fun hl0=> ?_)
 obtain⟨hd,hn,hn2,hv,hA,hB,hD,hfl,hpl,hvl,hvo,heach⟩:=hx
 have hw:=z0m a (lo:=0) (hi:=(v.length:Int)- 1) (by omega)
 rw[hA] at hw
 have hw2:=z0m b (lo:=A) (hi:=(v.length:Int)- 1) (by omega)
 rw[hB] at hw2
 refine .bp [.r [],.r [(0,X (Xc0 y6G X0))],.f,.r [(1,X (Xc1 32 (y5u raw G hI hg hd) X0))],.r [(1,X (Xc1 64 (z74 d hD hn hn2) X0))],.r [(2,X (Xc1 136 (y0e n.flow hfl hpl hv) X0))],.r [(2,X (Xl elemT v)),(3,X (Xn ((v.length:Int)- 1))),(4,X (Xc0 (z63 a 0 ((v.length:Int)- 1) (by omega) hA) X0))],.r [(3,X (Xl elemT v)),(4,X (Xn ((v.length:Int)- 1))),(5,X (Xc0 (z63 b A ((v.length:Int)- 1) (by omega) hB) X0))],.r [(1,X (Xc1 264 (y4T t (by omega)) X0))],.r [(4,Xv 1 (!(((ofR t).2) !=0)) X0),(5,Xv 1 (!(((ofR t).2) !=0)) X0),(6,X (Xk' (((ofR t).2) !=0)))]] ((((ofR t).2) !=0)||decide ((t.size:Int)> 200)) (fun h9=> ?_) (fun h9=> ?_)
 ·
  exact .fin [.r []] []
 ·
  have hz:(ofR t).2=0/\t.size<=200:=by omega
  have hE:=heach hz.1 hz.2
  have hle:=ofL_l (l:=[]) hz.1
  have hcl:=(y4R _ t rfl).2.1
  have hof:=ofAny t hz.1 (by omega)
  have z1:=y1W (f:=List.take A.toNat v) (fun x hx=>hvo x (qA hx))
  have z2:=y1W (f:=List.drop B.toNat v) (fun x hx=>hvo x (qJ hx))
  rw[qO] at z1
  rw[zi] at z2
  refine .bp [.r [],.u,.r [],.t,.r [(0,X (Xa (Xc ((0:Int)<=0)) (Xc ((0:Int)< ((2:Nat):Int)))) ⟨by decide,by decide⟩)],.r [(6,X (Xc1 456 (y1V d ({nd:=2,fr:=A,tq:=B}:Sel) t (ofR t).1 ({data:=#[]}) hof hD (by omega) (hE ({data:=#[]}) (by first|exact .inl rfl|exact .inr rfl)).tb (hE ({data:=#[]}) (by first|exact .inl rfl|exact .inr rfl)).ho (hE ({data:=#[]}) (by first|exact .inl rfl|exact .inr rfl)).hs (hE ({data:=#[]}) (by first|exact .inl rfl|exact .inr rfl)).e1) X0))],.r [(2,X (Xc1 544 (z9n d (O ({data:=#[]})) (by first|exact(hE _ (.inl rfl)).ap|exact(hE _ (.inr rfl)).ap) (by first|exact(hE _ (.inl rfl)).hd2|exact(hE _ (.inr rfl)).hd2) (by first|exact(hE _ (.inl rfl)).e2|exact(hE _ (.inr rfl)).e2)) X0))],.r [(4,Xv 1 (!false) X0),(5,X (Xk' false)),(8,Xv 1 (!(false||false)) X0),(11,Xv 1 (!(false||false)) (Xl elemT (ofL t []))),(12,Xv 2 (!(false||false)) (Xn (A+((ofL t []).length:Int)))),(13,Xv 2 (!(false||false)) X0),(14,X (Xk' (false||false)))]] ((false||false)|| ((((⟨2,A+((ofR t).1.length:Int),A+((ofR t).1.length:Int)⟩:Sel)).fr) !=(A+((ofL t []).length:Int)))) (fun h16=> ?_) (fun h16=> ?_)
  ·
   exfalso
   simp[hle] at h16
  ·
   refine .bp [.r [(1,X (Xc1 728 (z74 ((D (O ({data:=#[]})))) (by first|exact(hE _ (.inl rfl)).doc2|exact(hE _ (.inr rfl)).doc2) (by first|exact(hE _ (.inl rfl)).hm|exact(hE _ (.inr rfl)).hm) (by first|exact(hE _ (.inl rfl)).hm2|exact(hE _ (.inr rfl)).hm2)) X0))],.r [(2,X (Xc1 800 (y0e (((M ((D (O ({data:=#[]})))))).flow) (by first|exact(hE _ (.inl rfl)).fl|exact(hE _ (.inr rfl)).fl) (by first|exact(hE _ (.inl rfl)).pl|exact(hE _ (.inr rfl)).pl) (by first|exact(hE _ (.inl rfl)).hw|exact(hE _ (.inr rfl)).hw)) X0))],.r [(1,X (Xc0 (z4D (W (((M ((D (O ({data:=#[]})))))).flow)) (by first|exact fun x hx=>hvo x (qA hx)|exact fun x hx=>hvo x (qJ hx)|exact(hE _ (.inl rfl)).wo|exact(hE _ (.inr rfl)).wo) (by first| (rw[qO];omega)| (rw[zi];omega)|exact qD (hE _ (.inl rfl)).wl (by decide)|exact qD (hE _ (.inr rfl)).wl (by decide))) X0)),(4,X (Xst elemT 3 v A)),(5,X (Xc0 (z4D (v.take (Int.toNat A)) (by first|exact fun x hx=>hvo x (qA hx)|exact fun x hx=>hvo x (qJ hx)|exact(hE _ (.inl rfl)).wo|exact(hE _ (.inr rfl)).wo) (by first| (rw[qO];omega)| (rw[zi];omega)|exact qD (hE _ (.inl rfl)).wl (by decide)|exact qD (hE _ (.inr rfl)).wl (by decide))) X0)),(7,X (Xc (((((txS (v.take (Int.toNat A)))).size+(t).size:Nat):Int)<=IntKind.i64.max))),(10,X (Xsd elemT 3 v B)),(11,X (Xc0 (z4D (v.drop (Int.toNat B)) (by first|exact fun x hx=>hvo x (qA hx)|exact fun x hx=>hvo x (qJ hx)|exact(hE _ (.inl rfl)).wo|exact(hE _ (.inr rfl)).wo) (by first| (rw[qO];omega)| (rw[zi];omega)|exact qD (hE _ (.inl rfl)).wl (by decide)|exact qD (hE _ (.inr rfl)).wl (by decide))) X0)),(12,X (Xc ((((((txS (v.take (Int.toNat A)))++t)).size+((txS (v.drop (Int.toNat B)))).size:Nat):Int)<=IntKind.i64.max)))]] (!(seq (txS (W (((M ((D (O ({data:=#[]})))))).flow))) (((txS (v.take (Int.toNat A)))++t)++(txS (v.drop (Int.toNat B)))))) (fun h20=> ?_) (fun h20=> ?_)
   ·
    exfalso
    first
    | (rw[(hE _ (.inl rfl)).str] at h20;rw[z0u.2 rfl] at h20;cases h20)
    | (rw[(hE _ (.inr rfl)).str] at h20;rw[z0u.2 rfl] at h20;cases h20)
   ·
    refine .bp [.r [],.u,.r [],.t,.r [(0,X (Xa (Xc ((0:Int)<=1)) (Xc ((1:Int)< ((2:Nat):Int)))) ⟨by decide,by decide⟩)],.r [(6,X (Xc1 1016 (y1V d ({nd:=2,fr:=A,tq:=B}:Sel) t (ofR t).1 ({data:=#[98,111,98]}) hof hD (by omega) (hE ({data:=#[98,111,98]}) (by first|exact .inl rfl|exact .inr rfl)).tb (hE ({data:=#[98,111,98]}) (by first|exact .inl rfl|exact .inr rfl)).ho (hE ({data:=#[98,111,98]}) (by first|exact .inl rfl|exact .inr rfl)).hs (hE ({data:=#[98,111,98]}) (by first|exact .inl rfl|exact .inr rfl)).e1) X0))],.r [(2,X (Xc1 1104 (z9n d (O ({data:=#[98,111,98]})) (by first|exact(hE _ (.inl rfl)).ap|exact(hE _ (.inr rfl)).ap) (by first|exact(hE _ (.inl rfl)).hd2|exact(hE _ (.inr rfl)).hd2) (by first|exact(hE _ (.inl rfl)).e2|exact(hE _ (.inr rfl)).e2)) X0))],.r [(4,Xv 1 (!false) X0),(5,X (Xk' false)),(8,Xv 1 (!(false||false)) X0),(11,Xv 1 (!(false||false)) (Xl elemT (ofL t []))),(12,Xv 2 (!(false||false)) (Xn (A+((ofL t []).length:Int)))),(13,Xv 2 (!(false||false)) X0),(14,X (Xk' (false||false)))]] ((false||false)|| ((((⟨2,A+((ofR t).1.length:Int),A+((ofR t).1.length:Int)⟩:Sel)).fr) !=(A+((ofL t []).length:Int)))) (fun h16=> ?_) (fun h16=> ?_)
    ·
     exfalso
     simp[hle] at h16
    ·
     refine .bp [.r [(1,X (Xc1 1288 (z74 ((D (O ({data:=#[98,111,98]})))) (by first|exact(hE _ (.inl rfl)).doc2|exact(hE _ (.inr rfl)).doc2) (by first|exact(hE _ (.inl rfl)).hm|exact(hE _ (.inr rfl)).hm) (by first|exact(hE _ (.inl rfl)).hm2|exact(hE _ (.inr rfl)).hm2)) X0))],.r [(2,X (Xc1 1360 (y0e (((M ((D (O ({data:=#[98,111,98]})))))).flow) (by first|exact(hE _ (.inl rfl)).fl|exact(hE _ (.inr rfl)).fl) (by first|exact(hE _ (.inl rfl)).pl|exact(hE _ (.inr rfl)).pl) (by first|exact(hE _ (.inl rfl)).hw|exact(hE _ (.inr rfl)).hw)) X0))],.r [(1,X (Xc0 (z4D (W (((M ((D (O ({data:=#[98,111,98]})))))).flow)) (by first|exact fun x hx=>hvo x (qA hx)|exact fun x hx=>hvo x (qJ hx)|exact(hE _ (.inl rfl)).wo|exact(hE _ (.inr rfl)).wo) (by first| (rw[qO];omega)| (rw[zi];omega)|exact qD (hE _ (.inl rfl)).wl (by decide)|exact qD (hE _ (.inr rfl)).wl (by decide))) X0)),(4,X (Xst elemT 3 v A)),(5,X (Xc0 (z4D (v.take (Int.toNat A)) (by first|exact fun x hx=>hvo x (qA hx)|exact fun x hx=>hvo x (qJ hx)|exact(hE _ (.inl rfl)).wo|exact(hE _ (.inr rfl)).wo) (by first| (rw[qO];omega)| (rw[zi];omega)|exact qD (hE _ (.inl rfl)).wl (by decide)|exact qD (hE _ (.inr rfl)).wl (by decide))) X0)),(7,X (Xc (((((txS (v.take (Int.toNat A)))).size+(t).size:Nat):Int)<=IntKind.i64.max))),(10,X (Xsd elemT 3 v B)),(11,X (Xc0 (z4D (v.drop (Int.toNat B)) (by first|exact fun x hx=>hvo x (qA hx)|exact fun x hx=>hvo x (qJ hx)|exact(hE _ (.inl rfl)).wo|exact(hE _ (.inr rfl)).wo) (by first| (rw[qO];omega)| (rw[zi];omega)|exact qD (hE _ (.inl rfl)).wl (by decide)|exact qD (hE _ (.inr rfl)).wl (by decide))) X0)),(12,X (Xc ((((((txS (v.take (Int.toNat A)))++t)).size+((txS (v.drop (Int.toNat B)))).size:Nat):Int)<=IntKind.i64.max)))]] (!(seq (txS (W (((M ((D (O ({data:=#[98,111,98]})))))).flow))) (((txS (v.take (Int.toNat A)))++t)++(txS (v.drop (Int.toNat B)))))) (fun h20=> ?_) (fun h20=> ?_)
     ·
      exfalso
      first
      | (rw[(hE _ (.inl rfl)).str] at h20;rw[z0u.2 rfl] at h20;cases h20)
      | (rw[(hE _ (.inr rfl)).str] at h20;rw[z0u.2 rfl] at h20;cases h20)
     ·
      exact .fin [.r [],.u,.r [],.f,.r []] []
theorem y6O(raw:List Int)(a b:Int)(t:ByteArray)(hs:t.size<=1000000000):FC Tryz.prog 3 [VL 1 intT raw,VI a,VI b,VS t] (app emp []) (VB true) (app emp []):=by
 obtain⟨d,n,v,A,B,O,D,M,W,h⟩:=y6M raw a b t
 exact y6N raw a b t _ (y8C un_0 rfl (s:=0) (by omega)) (y5c un_0) hs d n v A B O D M W h
end Go.Ch
end
section
namespace Go.Ab
open Go Go.Proofs.YtlgmgpnjkadhfaaGreatDoor
variable {P:Program} {W:World}
def RdM(P:Program)(t:TypeId)(k:Nat){α:Type}(f:α->Tree)(μ:α->Nat):Prop:=
 (∀a,Elt k (f a))/\P.cellsOf t=k/\∀(H:Type) (enc:TypeId×Value->H) (W:World) (fuel:Nat) (cs:List Value) (x:DataW H×List MemPlace),
  DataW.trod enc P W 0 (fun _=>true) true fuel t cs=some x->∃a:α,y3i W (f a).cells cs/\μ a<=Rows.uptoBulk x.1
theorem y1X{H:Type}(d:DataW H):1<=Rows.uptoBulk d:=by
 cases d with
 |lit l=>cases l<;>simp[Rows.uptoBulk]
 |_=>simp[Rows.uptoBulk]
theorem RdM.int{t:TypeId}{k:IntKind}(ht:P.underlying t=some (.int k))(hc:P.cellsOf t=1):RdM P t 1 (fun z:Int=> .sc (.int k z)) (fun _=>1):=by
 refine⟨fun _=>elt1,hc,fun H enc W fuel cs x h=> ?_⟩
 obtain⟨n,rfl,_,_⟩:=DataW.trod_int ht h
 exact⟨n,y0H rfl (.sc _ rfl),y1X _⟩
theorem RdM.str{t:TypeId}(ht:P.underlying t=some .string)(hc:P.cellsOf t=1):RdM P t 1 (fun s:ByteArray=> .sc (.string s)) (fun s=>s.size+1):=by
 refine⟨fun _=>elt1,hc,fun H enc W fuel cs x h=> ?_⟩
 obtain⟨n,rfl,rfl,_⟩:=DataW.trod_string ht h
 exact⟨n,y0H rfl (.sc _ rfl),by simp[Rows.uptoBulk]⟩
theorem y7p{α H:Type}{μ:α->Nat}:∀{l:List α} {es:List (DataW H)},l.length=es.length->(∀(i:Nat) (a:α) (d:DataW H),l[i]? =some a->es[i]? =some d->μ a<=Rows.uptoBulk d)->(l.map μ).sum<=Rows.uptoBulkAll es
 | [],es,_,_=>by simp
 |a::l,[],h,_=>by simp at h
 |a::l,d::es,h,hi=>by
  have h0:=hi 0 a d rfl rfl
  have ih:=y7p (l:=l) (es:=es) (by simpa using h) (fun i a' d' h1 h2=>hi (i+1) a' d' (by simpa using h1) (by simpa using h2))
  simp only[qV,List.sum_cons,Rows.uptoBulkAll]
  omega
theorem RdM.slice{t e:TypeId}{k:Nat}{α:Type}{f:α->Tree}{μ:α->Nat}(ht:P.underlying t=some (.slice e))(hk:0<k)(hc:P.cellsOf t=1)(he:RdM P e k f μ):RdM P t 1 (fun l:List α=> .lst k (l.map f)) (fun l=>(l.map μ).sum+1):=by
 obtain⟨h1,h2,h3⟩:=he
 refine⟨fun l=>⟨rfl,fun T hT=>by simp[Tree.cells] at hT;subst hT;rfl⟩,hc,fun H enc W fuel cs x h=> ?_⟩
 have hx:∀l:List α,∀x∈l.map f,Elt k x:=fun l x hx=>by
  obtain⟨a,_,rfl⟩:=qC.1 hx
  exact h1 a
 rcases DataW.trod_slice ht h with⟨rfl,hx0⟩| ⟨a,len,cap,elems,rest,n,_,rfl,hxe,hb,hl,hm,hlen,hel,_,_⟩
 ·refine⟨[],y0H rfl (.lst k [] none 0 [] hk (fun x hx=>by simp at hx) (qt _) (by simp[maxLen]) (fun h=>absurd rfl h) (by simp) (fun j T u hT=>by simp[flat] at hT)),?_⟩
  exact y1X _
 ·have key:∀i,i<len->∃y:α,(∃cs',cs'.length=k/\(∀r,r<k->W.cell? (a.add (i*k+r))=cs'[r]?)/\y3i W (f y).cells cs')/\∀d,(elems.map (·.1))[i]? =some d->μ y<=Rows.uptoBulk d:=by
   intro i hi
   have h4:=hel i hi
   have h5:elems[i]? =some elems[i]:=by rw[qa (by omega)]
   rw[h5,h2] at h4
   obtain⟨cs',h6,h7⟩:=qv.1 h4
   obtain⟨q1,q2,q3⟩:=World.cells?_some h6
   obtain⟨y,hy,hμ⟩:=h3 H enc W n cs' _ h7
   refine⟨y,⟨cs',q2,fun r hr=> ?_,hy⟩,fun d hd=> ?_⟩
   ·rw[<-q3 r hr]
    rw[Addr.add_add]
   ·rw[q9,h5] at hd
    simp only[z7,qb] at hd
    subst hd;exact hμ
  obtain⟨l,hl1,hl2'⟩:=y3j len _ key
  have hl2:=fun i a h=>(hl2' i a h).1
  have hspot:l≠[]->∃u,W.cell? a=some u:=by
   intro hne
   have h0:0<len:=by rw[<-hl1];exact jd.2 hne
   obtain⟨cs',c1,c2,c3⟩:=hl2 0 l[0] (by rw[qa (by omega)])
   have:=c2 0 hk
   simp only[Nat.zero_mul,Nat.add_zero] at this
   rw[qa (by omega)] at this
   have e:a.add 0=a:=by simp[Addr.add]
   rw[e] at this
   exact⟨_,this⟩
  refine⟨l,y0H rfl ?_,?_⟩
  rotate_left
  ·rw[hxe]
   simp only[Rows.uptoBulk]
   have:=y7p (μ:=μ) (l:=l) (es:=elems.map (·.1)) (by simp[hl1,hlen]) (fun i y d h1 h2=>(hl2' i y h1).2 d h2)
   omega
  have hget:∀j,j<len*k->∃u,W.cell? (a.add j)=some u/\∀T,(flat (l.map f))[j]? =some T->TRep W (fun b=>b<W.heap.size) T u:=by
   intro j hj
   have hi:j/k<len:=Nat.div_lt_of_lt_mul (by rw[Nat.mul_comm];exact hj)
   have hr:j%k<k:=Nat.mod_lt _ hk
   have hji:j=j/k*k+j%k:=by rw[Nat.mul_comm];exact(Nat.div_add_mod j k).symm
   obtain⟨cs',c1,c2,c3⟩:=hl2 (j/k) l[j/k] (by rw[qa (by omega)])
   have c4:=c2 (j%k) hr
   rw[<-hji,qa (by omega)] at c4
   refine⟨_,c4,fun T hT=> ?_⟩
   rw[hji,z28 (hx l) (i:=j/k) (X:=f l[j/k]) (by simp[qa (show j/k<l.length by omega)]) hr] at hT
   exact c3.2 (j%k) T _ hT (by rw[qa (by omega)])
  obtain⟨us,hu1,hu2⟩:=y3j (len*k) _ hget
  have hlm:(l.map f).length=len:=by simp[hl1]
  have:=TRep.lst (w:=W) (ok:=fun b=>b<W.heap.size) k (l.map f) (some a) cap us hk (hx l) (by omega) hm (fun hne=> ?_) (by rw[hlm];exact hu1) (fun j T u hT hu=>(hu2 j u hu).2 T hT)
  ·rw[hlm] at this;exact this
  ·obtain⟨u,hu⟩:=hspot (fun e=>hne (by rw[e];rfl))
   have hs:=World.cell?_spot hu
   obtain⟨b,o,sp⟩:=a
   simp only at hs
   subst hs
   refine⟨b,o,rfl,?_,fun j u hj=> ?_⟩
   ·simp only[World.cell?] at hu
    by_cases hb:b<W.heap.size
    ·exact hb
    ·rw[Array.getElem?_eq_none (by omega)] at hu;simp at hu
   ·have:=(hu2 j u hj).1
    rw[z0O] at this
    exact this
theorem RdM.arg{t:TypeId}{α:Type}{f:α->Tree}{μ:α->Nat}(h:RdM P t 1 f μ)(h1:∀a,(f a).isCell=true){H:Type}{enc:TypeId×Value->H}{v:Value}{d:DataW H}{ps:List MemPlace}(hd:DataW.Trod enc P W 0 (fun _=>true) true t v d ps)(hv:v.cells.toList=[v]):
 ∃a,TRep W (fun b=>b<W.heap.size) (f a) v/\μ a<=Rows.uptoBulk d:=by
 obtain⟨fuel,hf⟩:=hd
 obtain⟨a,⟨c1,c2⟩,c3⟩:=h.2.2 H enc W fuel _ _ hf
 refine⟨a,c2 0 _ _ ?_ (by rw[hv];rfl),c3⟩
 cases hfa:f a with
 |agg cs=>have:=h1 a;rw[hfa] at this;cases this
 |sc v=>rfl
 |lst k xs=>rfl
theorem y2I{H:Type}{l:List (DataW H)}(hk:Rows.uptoSmall H l=true):Rows.uptoBulkAll l<=1048576:=of_decide_eq_true hk
end Go.Ab
end
section
namespace Go.Proofs.YtlgmgpnjkadhfaaGreatDoor.frame
open Go Go.Proofs
def chs(l:List Nat):List Char:=l.map Char.ofNat
def w1:List Char:=chs [104,97,114,110,101,115,115]
def w2:List Char:=chs [51,57,57,56,55,51,102,56,99,48,99,49,49,50,102,101,48,51,97,52,54,55,48,49,49,54,56,51,98,52,54,53,57,99,50,53,101,57,99,57,56,51,57,97,100,57,57,56,97,50,100,57,48,49,56,51,53,51,102,99,53,52,102,54]
def w3:List Char:=chs [99,117,116]
def sp:Char:=Char.ofNat 32
theorem ws_sp(r:List Char):wordsSigns (sp::r)=[]::wordsSigns r:=rfl
theorem ws_c(c:Char)(r:List Char)(h:c≠sp):wordsSigns (c::r)=match wordsSigns r with
 |w::ws=>(c::w)::ws
 | []=>[[c]]:=by
 rw[wordsSigns.eq_def]
 split
 ·rename_i e;cases e
 ·rename_i e;simp only[List.cons.injEq] at e;exact absurd e.1 h
 ·rename_i e;simp only[List.cons.injEq] at e;obtain⟨rfl,rfl⟩:=e;rfl
theorem y1Y:∀(a:List Char),(a.all fun c=>c !=sp)=true->∀r,wordsSigns (a++sp::r)=a::wordsSigns r
 | [],_,r=>ws_sp r
 |c::a,h,r=>by
  simp only[List.all_cons,Bool.and_eq_true,bne_iff_ne] at h
  rw[List.cons_append,ws_c _ _ h.1,y1Y a h.2 r]
theorem tl(l:List Char):(String.ofList l).toList=l:=String.toList_ofList
theorem k1:("harness" :String).toList=w1:=tl w1
theorem k2:("cut" :String).toList=w3:=tl w3
theorem k3:("gc" :String).toList=chs [103,99]:=tl (chs [103,99])
theorem k4:("spec" :String).toList=chs [115,112,101,99]:=tl (chs [115,112,101,99])
theorem k5:("carried" :String).toList=chs [99,97,114,114,105,101,100]:=tl (chs [99,97,114,114,105,101,100])
theorem lifts(r:List (List Char)):stripLifts liftWords (w3::r)=([],w3::r):=by
 unfold liftWords
 simp only[stripLifts]
 have key:∀l:List Nat,(w3==chs l)=false->∀(s:String),s=String.ofList (chs l)->(w3==s.toList)=false:=fun l h s e=>by rw[e,tl];exact h
 rw[if_neg (by rw[key [102,105,110,97,108,115] (by kernel_rfl) "finals" rfl];decide)]
 rw[if_neg (by rw[key [114,101,102,108,101,99,116,114,111,119,115] (by kernel_rfl) "reflectrows" rfl];decide)]
 rw[if_neg (by rw[key [108,101,97,110,114,111,119,115] (by kernel_rfl) "leanrows" rfl];decide)]
 rw[if_neg (by rw[key [111,110,101,98,117,105,108,100] (by kernel_rfl) "onebuild" rfl];decide)]
 rw[if_neg (by rw[key [112,117,98,108,105,99,115,117,109,115] (by kernel_rfl) "publicsums" rfl];decide)]
 rw[if_neg (by rw[key [101,113,103,117,97,114,100] (by kernel_rfl) "eqguard" rfl];decide)]
 rw[if_neg (by rw[key [111,119,110,117,110,115,97,102,101] (by kernel_rfl) "ownunsafe" rfl];decide)]
 rw[if_neg (by rw[key [108,105,98,98,101,115,105,100,101] (by kernel_rfl) "libbeside" rfl];decide)]
 rw[if_neg (by rw[key [111,119,110,98,101,115,105,100,101] (by kernel_rfl) "ownbeside" rfl];decide)]
 rw[if_neg (by rw[key [114,101,102,108,98,101,115,105,100,101] (by kernel_rfl) "reflbeside" rfl];decide)]
 rw[if_neg (by rw[key [97,108,105,97,115,101,115] (by kernel_rfl) "aliases" rfl];decide)]
 rw[if_neg (by rw[key [97,102,116,101,114,105,110,105,116] (by kernel_rfl) "afterinit" rfl];decide)]
 rw[if_neg (by rw[key [99,114,99,112,108,97,105,110] (by kernel_rfl) "crcplain" rfl];decide)]
 rw[if_neg (by rw[key [114,111,97,100,117,110,115,97,102,101] (by kernel_rfl) "roadunsafe" rfl];decide)]
 rw[if_neg (by rw[key [102,109,116,104,97,110,100,111,110] (by kernel_rfl) "fmthandon" rfl];decide)]
theorem words{P:Program}{rest:List Char}(h:P.initOrder.toList=w1++sp::(w2++sp::(w3++sp::rest))):behindMainWord (wordsSigns P.initOrder.toList)=w3::wordsSigns rest:=by
 rw[h,y1Y w1 (by kernel_rfl),y1Y w2 (by kernel_rfl),y1Y w3 (by kernel_rfl)]
 unfold behindMainWord
 rw[k1]
 exact if_pos (by kernel_rfl)
theorem may{P:Program}{rest:List Char}(h:P.initOrder.toList=w1++sp::(w2++sp::(w3++sp::rest)))(hl:P.laysLater=false)(hb:P.bearsReflect=false)(hd:P.doorFits []=true):P.mayEnter=true:=by
 unfold Program.mayEnter
 rw[words h]
 simp only[lifts,k2,k3,k4,k5,hl,hb,hd]
 have h1:(w3==chs [103,99])=false:=by kernel_rfl
 have h2:(w3==chs [115,112,101,99])=false:=by kernel_rfl
 have h3:(w3==chs [99,97,114,114,105,101,100])=false:=by kernel_rfl
 rw[h1,h2,h3]
 simp
theorem fin{P:Program}{rest:List Char}(h:P.initOrder.toList=w1++sp::(w2++sp::(w3++sp::rest))):P.liftsFinal=false:=by
 unfold Program.liftsFinal Program.headLifts
 rw[words h]
 simp only[lifts,k2,k5]
 have h3:(w3==chs [99,97,114,114,105,101,100])=false:=by kernel_rfl
 simp[h3]
theorem mk{P:Program}{rest:List Char}(h:P.initOrder.toList=w1++sp::(w2++sp::(w3++sp::rest))):P.make=some .cut:=by
 unfold Program.make
 rw[words h]
 simp only[k2,k3,k4,k5]
 have h1:(w3==chs [103,99])=false:=by kernel_rfl
 have h2:(w3==chs [115,112,101,99])=false:=by kernel_rfl
 rw[h1,h2]
 simp
theorem head:Tryz.pinned.checked.prog.initOrder=String.ofList (w1++sp::(w2++sp::(w3++sp::chs [97,116,32,99,104,97,110,99,101,114,121,47,99,104,97,110,99,101,114,121,107,101,101,112,49,46,83,101,108,101,99,116,105,111,110,84,121,112,101,100,83,104,111,119,115,32,99,104,97,110,99,101,114,121,47,99,104,97,110,99,101,114,121,107,101,101,112,49,46,83,101,108,101,99,116,105,111,110,70,111,114,109,97,116,75,101,101,112,115,32,99,104,97,110,99,101,114,121,47,99,104,97,110,99,101,114,121,107,101,101,112,49,46,83,101,108,101,99,116,105,111,110,84,104,114,111,117,103,104,79,116,104,101,114,115]))):=by kernel_rfl
set_option maxRecDepth 100000 in
theorem headL:Tryz.pinned.checked.prog.initOrder.toList=w1++sp::(w2++sp::(w3++sp::chs [97,116,32,99,104,97,110,99,101,114,121,47,99,104,97,110,99,101,114,121,107,101,101,112,49,46,83,101,108,101,99,116,105,111,110,84,121,112,101,100,83,104,111,119,115,32,99,104,97,110,99,101,114,121,47,99,104,97,110,99,101,114,121,107,101,101,112,49,46,83,101,108,101,99,116,105,111,110,70,111,114,109,97,116,75,101,101,112,115,32,99,104,97,110,99,101,114,121,47,99,104,97,110,99,101,114,121,107,101,101,112,49,46,83,101,108,101,99,116,105,111,110,84,104,114,111,117,103,104,79,116,104,101,114,115])):=by rw[head,tl]
theorem later:Tryz.pinned.checked.prog.laysLater=false:=by kernel_rfl
theorem refl:Tryz.pinned.checked.prog.bearsReflect=false:=by kernel_rfl
theorem door:Tryz.pinned.checked.prog.doorFits []=true:=by kernel_rfl
theorem mayEnter:Tryz.pinned.checked.prog.mayEnter=true:=may headL later refl door
theorem made:Tryz.pinned.checked.prog.make=some .cut:=mk headL
theorem laid:laidOutB Tryz.pinned.checked.prog=true:=by kernel_rfl
theorem rowed:mapsRowed Tryz.pinned.checked.prog=true:=by kernel_rfl
theorem noStops:Tryz.pinned.checked.prog.stops=[]:=by kernel_rfl
theorem noKnobs:Tryz.pinned.checked.prog.stopKnobs=[]:=by kernel_rfl
theorem heard:Tryz.pinned.checked.prog.stopsHeard=true:=by kernel_rfl
theorem keys:Tryz.pinned.checked.prog.plainKeys=true:=by kernel_rfl
theorem liftsNo:Tryz.pinned.checked.prog.liftsFinal=false:=fin headL
end Go.Proofs.YtlgmgpnjkadhfaaGreatDoor.frame
end
