/- What commands make of a document: it stays in its bounds. -/
import Derived.Test.YtlgmgpnjkadhfaaGreatDoorM1
import Derived.Test.YtlgmgpnjkadhfaaGreatDoorM2
import Derived.Test.YtlgmgpnjkadhfaaGreatDoorM3
import Derived.Test.YtlgmgpnjkadhfaaGreatDoorM4
import Derived.Test.YtlgmgpnjkadhfaaGreatDoorM5
import Derived.Test.YtlgmgpnjkadhfaaGreatDoorRows
import Derived.JoinedOf
import Derived.ProofKit
set_option linter.unusedVariables false
set_option linter.unusedSimpArgs false
section
namespace Go.Ch
open Go Go.Ab
variable {U:US}
structure UN(U:US):Prop extends UB U where
 ti:({data:=#[116,105,116,108,101]}:ByteArray)∈U
 bo:({data:=#[98,111,108,100]}:ByteArray)∈U
 si:({data:=#[115,105,122,101]}:ByteArray)∈U
 ma:({data:=#[109,97,114,107,46,109]}:ByteArray)∈U
 he:({data:=#[104,101,97,100]}:ByteArray)∈U
 li:({data:=#[108,105,115,116]}:ByteArray)∈U
 al:({data:=#[97,108,105,103,110]}:ByteArray)∈U
 ki:kindB∈U
def NmZ(U:US)(c:List Attr):Prop:=∀a∈c,a.name∈U/\a.val∉U.no
theorem vu_of{e:Bool}{l:List Attr}(h:VG e l)(hn:NmZ U l):VU U e l:=⟨h.1,fun a ha=>⟨⟨(h.2 a ha).1,(hn a ha).1⟩,(h.2 a ha).2.imp (fun q=>⟨q,(hn a ha).2⟩) (fun q=>q)⟩⟩
theorem y9O{n:Node}(h:eopE (opN n)=0):nodeE n=0:=by
 unfold eopE at h
 split at h
 ·cases h
 split at h
 ·cases h
 ·rwa [if_pos (show(opN n).kind=0 from rfl)] at h
theorem y9P{k:Int}{c:List Attr}(h:eopE (opA k c)=0):chkA true c 0=0:=by
 unfold eopE at h
 split at h
 ·cases h
 split at h
 ·cases h
 rw[if_neg (show¬(opA k c).kind=0 from(by decide:¬(1:Int)=0))] at h
 split at h
 ·cases h
 ·rwa [if_pos (show(opA k c).kind=1 from rfl)] at h
theorem y9Q{k:Int}{c:List DOp}(h:eopE (opD k c)=0):drawE c 0=0:=by
 unfold eopE at h
 split at h
 ·cases h
 split at h
 ·cases h
 rw[if_neg (show¬(opD k c).kind=0 from(by decide:¬(4:Int)=0))] at h
 split at h
 ·cases h
 ·rwa [if_neg (show¬(opD k c).kind=1 from(by decide:¬(4:Int)=1)),if_neg (show¬(opD k c).kind=2 from(by decide:¬(4:Int)=2)),if_neg (show¬(opD k c).kind=3 from(by decide:¬(4:Int)=3))] at h
theorem z1K(hU:UB U){s:Int}{k:Nat}{d:Doc}(h:PP U s k d.nodes)(hk:k<=60){S:Sel}{au:ByteArray}(hz:au∉U.no)(h0:atE d S au=0):
 PlB (atP d S au)/\(atP d S au).node.flow.length<=1048576/\(∀x∈(atP d S au).node.flow,RU U x)/\AuB U (atP d S au).author/\(0<=S.fr/\S.fr<=S.tq/\S.tq< ((atP d S au).shown.length:Int)):=by
 obtain⟨a1,a2,a3,a4,a5,a6⟩:=y8N h0
 have hm:=z0h (l:=d.nodes) (z0X.1 a2).1
 obtain⟨g,z⟩:=h.gp.nd _ hm
 have hl:(ndN d.nodes S.nd).flow.length<=1048576:=by have:=z.fl;unfold ndN;omega
 rw[a6]
 exact⟨y9M hU g hl,hl,g.fl,⟨a5,hz⟩,a4⟩
theorem z8a{t:ByteArray}(h:AscN t):∀c∈ascC t,CharP c/\c≠0:=by
 intro c hc
 unfold ascC at hc
 obtain⟨i,hi,rfl⟩:=qy.1 hc
 have:=h i (zG.1 hi)
 unfold CharP;omega
theorem z5z(t:ByteArray):(ascC t).length=t.size:=by simp[ascC]
theorem z2b(p:Pl)(s:Sel)(cs:List Int):(typEl p s cs).length=cs.length:=by simp[typEl]
theorem y1W{r:Int}{l:List Attr}(h:1<=r/\r<=1073741824)(hl:VU U false l):RU U ⟨0,r,l⟩:=by
 refine⟨?_,hl⟩
 rw[z3v (x:=⟨0,r,l⟩) (fun q=>by have:=q.1 rfl;simp only at this;omega) (.inl (by simp only;omega)) (.inr h)]
 exact z07.2 hl.g
theorem y8R(hU:UB U)(hZ:U.no=[]){s:Int}(hs:0<=s/\s<=1000){k:Nat}{d:Doc}(h:PP U s k d.nodes)(hk:k<=60)(b c:Int):CmdB d s b c:=by
 have hL:=h.docL hU hk
 have hno:∀v:ByteArray,v∉U.no:=fun v=>by rw[hZ];simp
 have hM:=y0f hL b
 have hF:=y4N hL b c
 have hT:=z0m (IntKind.i64.wrap (c.tdiv 11)) (lo:=cmdF d b c) (hi:=min (cmdM d b) (cmdF d b c+4)) (by omega)
 refine⟨fun t au ht hn h0=> ?_,fun h0=>(z1K hU h hk (hno _) h0).1,fun h0=>⟨(z1K hU h hk (hno _) h0).1,hF.1,hT.1,?_⟩,fun n h0 h1=> ?_,?_⟩
 ·obtain⟨p1,p2,p3,p4,p5⟩:=z1K hU h hk (hno _) h0
  have hi:=z4K p1 p3 (cmdS d b c).fr
  exact⟨p1,z07.2 hi.g,by have:=hi.len hU.len;omega,p5,(z6r hU p1 p2 p3 p4 p5 (by rw[z2b,z5z];omega) (z4l p1 p3 (z8a ht))).1⟩
 ·have:=hT.2
  show cmdT d b c<=1000000000
  unfold cmdT;omega
 ·obtain⟨p1,p2,p3,p4,p5⟩:=z1K hU h hk (hno _) h0
  obtain⟨n1,n2,n3,n4⟩:=y0q hs h h1
  exact⟨p1,⟨p5.1,by have:=p5.2;have:=p1.sl;omega⟩,(z6r hU p1 p2 p3 p4 p5 (by simp[objX]) (fun x hx=>by
   rw[show x=⟨0,nextN d s,inhP (atP d (cmdS d b c) {data:=#[]}) (cmdS d b c).fr⟩ by simpa[objX] using hx]
   exact y1W (by omega) (z4K p1 p3 _))).1⟩
 ·have hz:∀n:Node,nodeE n=0\/n.draw=[]-> -1<=lastC n/\lastC n<=1000000000000:=fun n hn=>by
   unfold lastC
   split
   ·rename_i q
    rcases hn with hn|hn
    ·have ho:=(z78.1 (z4N hn)).1 _ (z0h (l:=n.draw) (i:=n.draw.length- 1) (by omega))
     unfold opE at ho
     split at ho
     ·cases ho
     ·split at ho
      ·cases ho
      ·omega
    ·rw[hn] at q;exact absurd q (by decide)
   ·omega
  refine hz _ ?_
  unfold nodeF
  split
  ·exact .inr rfl
  ·by_cases q:(findD d.nodes (pickP d b [10,8]) 0).toNat<d.nodes.length
   ·exact .inl (h.gp.vd.node _ (z0h q))
   ·rw[qc,zT (by omega)];exact .inr rfl
theorem PP.next{s:Int}{k k':Nat}{l:List Node}{o:EOp}(h:PP U s k l)(hkk:k<=k')(hk:o.kind≠0)(h0:oneE l o=0)(hg:GP U (10+4*k') (oneL l o)):PP U s k' (oneL l o):=by
 obtain⟨a,b⟩:=y8P hk h0
 refine⟨hg,by have:=h.len;omega,fun x hx=> ?_⟩
 obtain⟨n,hn,e⟩:=b x hx
 have:=h.id n hn
 omega
def CR(U:US)(s:Int)(k:Nat)(l:List Node)(c:List EOp):Prop:=(∀o∈c,OpL o)/\((∀o∈c,eopE o=0)->RunG (PP U s (k+3)) l c)
theorem CR.nil{s:Int}{k:Nat}{l:List Node}(h:PP U s k l):CR U s k l []:=⟨(fun o ho=>by cases ho),fun _=>h.mono (by omega)⟩
theorem CR.one(hU:UB U){s:Int}{k:Nat}{l:List Node}{o:EOp}(h:PP U s k l)(hk:k<=57)(ho:OpL o)(h0:o.kind≠0)(hn:eopE o=0->oneE l o=0->GP U (10+4*(k+3)) (oneL l o)):CR U s k l [o]:=by
 refine⟨fun x hx=>by rw[qw] at hx;subst hx;exact ho,fun he=> ?_⟩
 have he:=he o (by simp)
 exact run1 hU h hk (z6u hU h (by omega) he ho (fun q=>absurd q h0)) (fun q=>h.next (by omega) h0 q (hn he q))
theorem CR.two(hU:UB U){s:Int}{k:Nat}{l:List Node}{n:Node}{o:EOp}(h:PP U s k l)(hk:k<=57)(hg:NG U n)(hz:NZ 10 n)(hid:(∀x∈l,x.id<n.id)/\n.id< (s+1)*65536/\(n.id<4+(k+1:Nat)\/65536<=n.id))
 (ho:OpL o) (h0:o.kind≠0) (hn:∀l',PP U s (k+1) l'->eopE o=0->oneE l' o=0->GP U (10+4*(k+3)) (oneL l' o)):CR U s k l [opN n,o]:=by
 refine⟨fun x hx=> ?_,fun he=> ?_⟩
 ·simp only[qj,qX,or_false] at hx
  rcases hx with rfl|rfl
  ·exact opL_N hU hg hz (by decide)
  ·exact ho
 ·have e1:=he (opN n) (by simp)
  have e2:=he o (by simp)
  refine⟨h.mono (by omega),z6u hU h (by omega) e1 (opL_N hU hg hz (by decide)) (fun _=>hid.1),fun q=> ?_⟩
  obtain⟨k1,k2⟩:=keepN h.gp hg (hz.mono (by omega)) (y9O e1) hid.1 q
  rw[k1]
  have hp:PP U s (k+1) (l++[n]):=⟨k2.mono (by omega),by have:=h.len;rw[qf,zS];omega,fun x hx=>by
   rcases qm.1 hx with z|z
   ·have:=h.id x z;omega
   ·rw[qw] at z;subst z;exact hid.2⟩
  exact⟨hp.mono (by omega),z6u hU hp (by omega) e2 ho (fun z=>absurd z h0),fun q2=>hp.next (by omega) h0 q2 (hn _ hp e2 q2)⟩
theorem y0r(hU:UB U){s:Int}{k:Nat}{d:Doc}(h:PP U s k d.nodes)(hk:k<=57){S:Sel}{t au:ByteArray}(hz:au≠zzB)(ht:AscN t)(hl:t.size<=12):CR U s k d.nodes (typeO d S (ascC t) au):=by
 unfold typeO
 split
 ·exact .nil h
 ·rename_i q
  have h0:atE d S au=0:=qd q
  obtain⟨p1,p2,p3,p4,p5⟩:=z1K hU h (by omega) (hU.no hz) h0
  obtain⟨_,⟨us,hd⟩,e1,e2⟩:=z6r hU p1 p2 p3 p4 p5 (es:=typEl (atP d S au) S (ascC t)) (by rw[z2b,z5z];omega) (z4l p1 p3 (z8a ht))
  rw[z2b,z5z] at e2
  exact .one hU h hk (opL_F hU hd) (show(2:Int)≠0 by decide) (fun _ z=>(keepF h.gp hd (q:=12) (by omega) z).mono (by omega))
theorem y5b(hU:UB U){c:List Attr}{f:List Bool}{n:Nat}(hc:VU U true c)(hn:n<=100000000):DU_ U (rstD c f n) ((List.range n).map (rstU c f))/\newD (rstD c f n)=oldD (rstD c f n)/\oldN ((List.range n).map (rstU c f))=n:=by
 have hall:∀u∈(List.range n).map (rstU c f),UU U u:=fun u hu=>by
  obtain⟨i,_,rfl⟩:=qy.1 hu
  unfold rstU;split
  ·exact hc
  ·exact VU.nil
 have hnum:∀m,oldN ((List.range m).map (rstU c f))=m/\newN ((List.range m).map (rstU c f))=m:=fun m=>by
  induction m with
  |zero=>exact⟨rfl,rfl⟩
  |succ m ih=>
   rw[zF,qU,z0B,z1m,ih.1,ih.2,qZ,zW]
   have:oldN [rstU c f m]=1/\newN [rstU c f m]=1:=by unfold rstU;split<;>simp[oldN,newN]
   omega
 have hq:=hnum n
 have e:rstD c f n=doneD ((List.range n).map (rstU c f)):=(z60 (fun u hu=>(UU.s hU.len (hall u hu)).ok) (by simp;omega)).1
 have hd:DU_ U (rstD c f n) ((List.range n).map (rstU c f)):=by rw[e];exact .done hU.len hall (by omega) (by omega)
 have hl:=hd.lens
 exact⟨hd,by omega,hq.1⟩
theorem y8S(hU:UB U){c:List Attr}{f:List Bool}{n:Nat}(hc:VU U true c)(hn:n<=100000000):∃us,DU_ U (rstD c f n) us/\newD (rstD c f n)=oldD (rstD c f n):=
 ⟨_,(y5b hU hc hn).1,(y5b hU hc hn).2.1⟩
theorem y9R(hU:UB U){s:Int}{k:Nat}{d:Doc}(h:PP U s k d.nodes)(hk:k<=57){S:Sel}{c:List Attr}(hn:NmZ U c)(w:Int->Bool)(h0:fmtE d S c=0):CR U s k d.nodes (fmtL (atP d S {data:=#[]}) c w):=by
 have h1:atE d S {data:=#[]}=0:=by
  apply qd;intro q
  rw[y4y q] at h0;exact q h0
 have h2:chkA true c 0=0:=by rw[z9f h1] at h0;exact h0
 obtain⟨p1,p2,p3,p4,p5⟩:=z1K hU h (by omega) (hU.no (by decide)) h1
 obtain⟨us,hd,e⟩:=y8S hU (f:=rstF w (atP d S {data:=#[]}).shown (atP d S {data:=#[]}).node.flow.length (atP d S {data:=#[]}).shown.length) (n:=(atP d S {data:=#[]}).node.flow.length) (vu_of (z07.1 h2) hn) (by omega)
 exact .one hU h hk (opL_F hU hd) (show(2:Int)≠0 by decide) (fun _ z=>(keepF h.gp hd (q:=0) (by omega) z).mono (by omega))
theorem y5c(hU:UB U){s:Int}(hs:0<=s/\s<=1000){k:Nat}{d:Doc}(h:PP U s k d.nodes)(hk:k<=57){S:Sel}{n:Node}{au:ByteArray}(hau:au≠zzB)(hg:NG U n)(hz:NZ 10 n):CR U s k d.nodes (objO d S n s au):=by
 unfold objO
 split
 ·exact .nil h
 ·rename_i q
  have h0:objE d S n s au=0:=qd q
  have h1:atE d S au=0:=by
   apply qd;intro z
   rw[(obj_1 z).2.2] at h0;exact z h0
  have h2:nextE d s=0:=by
   unfold objE at h0
   rw[if_neg (fun z=>z h1)] at h0
   split at h0
   ·cases h0
   ·split at h0
    ·rename_i z;exact absurd h0 z
    ·rename_i z;exact qd z
  obtain⟨p1,p2,p3,p4,p5⟩:=z1K hU h (by omega) (hU.no hau) h1
  obtain⟨n1,n2,n3,n4⟩:=y0q hs h h2
  obtain⟨_,⟨us,hd⟩,e1,e2⟩:=z6r hU p1 p2 p3 p4 p5 (es:=objX d S s au) (by simp[objX]) (fun x hx=>by
   rw[show x=⟨0,nextN d s,inhP (atP d S au) S.fr⟩ by simpa[objX] using hx]
   exact y1W (by omega) (z4K p1 p3 _))
  have e3:(objX d S s au).length=1:=rfl
  exact .two hU h hk ⟨hg.at1,hg.fl,hg.mg,hg.ce,hg.dr,hg.kd⟩ ⟨hz.fl,hz.ce,hz.dr⟩ ⟨n1,n3,n4⟩ (opL_F hU hd) (show(2:Int)≠0 by decide) (fun l' hp _ z=>(keepF hp.gp hd (q:=1) (by omega) z).mono (by omega))
theorem y1X(m a n:Int):(shfL m a n).length<=4:=by
 unfold shfL
 split
 ·simp
 ·split
  ·simp
  ·unfold shfX
   have w1:=z2Q 0 a
   have w2:=z2Q 1 n
   have w3:=z2Q 2 (0-n)
   have w4:=z2Q 0 ((m-a)- max 0 (0-n))
   simp only[qf,zf];omega
theorem y5d(hU:UB U){s:Int}{k:Nat}{l:List Node}(h:PP U s k l)(hk:k<=57)(i:Int){r c:List AxStep}(hr:r.length<=4)(hc:c.length<=4):CR U s k l [opG i ⟨r,c,[],[],[]⟩]:=by
 have hl:LiteE ⟨r,c,[],[],[]⟩:=⟨rfl,rfl,(fun c h=>by cases h),by simp⟩
 exact .one hU h hk (opL_G hl (by simp only;omega) (by simp only;omega) (fun c h=>by cases h)) (show(3:Int)≠0 by decide) (fun _ z=>(keepG h.gp hl (fun c h=>by cases h) (by omega) z).mono (by simp;omega))
theorem y8T(hU:UB U){s:Int}(hs:0<=s/\s<=1000){k:Nat}{d:Doc}(h:PP U s k d.nodes)(hk:k<=57)(i r c:Int):CR U s k d.nodes (celO d i r c s):=by
 unfold celO
 split
 ·exact .nil h
 ·rename_i q
  have h0:celE d i r c s=0:=qd fun z=>q (.inl z)
  have hi:¬0<=celI d i r c:=fun z=>q (.inr z)
  have h2:nextE d s=0:=by
   unfold celE at h0
   split at h0
   ·rename_i z;exact absurd h0 z
   split at h0
   ·cases h0
   split at h0
   ·cases h0
   first|exact h0|rwa [if_neg hi] at h0
  obtain⟨n1,n2,n3,n4⟩:=y0q hs h h2
  have hl:LiteE ⟨[],[],[⟨r,c,{data:=#[]},nextN d s,[]⟩],[],[]⟩:=⟨rfl,rfl,fun x hx=>by rw[show x=⟨r,c,{data:=#[]},nextN d s,[]⟩ by simpa using hx];rfl,by simp⟩
  have hc:∀x∈[(⟨r,c,{data:=#[]},nextN d s,[]⟩:Cell)],x.attrs=[]/\x.text.size=0:=fun x hx=>by rw[show x=⟨r,c,{data:=#[]},nextN d s,[]⟩ by simpa using hx];exact⟨rfl,rfl⟩
  exact .two hU h hk ⟨VU.nil,fun x hx=>by rw[show x=⟨10,0,[]⟩ by simpa[celM] using hx];exact y1N,rfl,(fun x hx=>by cases hx),(fun x hx=>by cases hx),by simp[celM]⟩ ⟨by simp[celM],by simp[celM],by simp[celM]⟩ ⟨n1,n3,n4⟩ (opL_G hl (by simp) (by simp) hc) (show(3:Int)≠0 by decide) (fun l' hp _ z=>(keepG hp.gp hl hc (by omega) z).mono (by simp;omega))
theorem z1r{Q:List EOp->Prop}{p:Prop}[Decidable p]{x y:List EOp}(hx:p->Q x)(hy:¬p->Q y):Q (if p then x else y):=by
 split
 ·rename_i h;exact hx h
 ·rename_i h;exact hy h
theorem y2N(k:Nat):(txt5.getD k default).size<=12:=by
 refine z5t (P:=fun t:ByteArray=>t.size<=12) (fun t ht=> ?_) (by decide) k
 simp only[txt5,qj,qX,or_false] at ht
 rcases ht with rfl|rfl|rfl|rfl|rfl<;>decide
theorem getD3{a b c:ByteArray}(ha:a∈U)(hb:b∈U)(hc:c∈U){i:Int}(hi:0<=i/\i<=2):[a,b,c].getD i.toNat default∈U:=by
 obtain⟨j,hj⟩:∃j,i.toNat=j:=⟨_,rfl⟩
 have:j=0\/j=1\/j=2:=by omega
 rw[hj]
 rcases this with rfl|rfl|rfl
 ·exact ha
 ·exact hb
 ·exact hc
theorem z4q(hU:UB U){a:Attr}(h:a.name∈U)(hv:a.val≠zzB):NmZ U [a]:=fun x hx=>by rw[qw] at hx;subst hx;exact⟨h,hU.no hv⟩
theorem y5e{a b c:ByteArray}(ha:a≠zzB)(hb:b≠zzB)(hc:c≠zzB){i:Int}(hi:0<=i/\i<=2):[a,b,c].getD i.toNat default≠zzB:=by
 obtain⟨j,hj⟩:∃j,i.toNat=j:=⟨_,rfl⟩
 have:j=0\/j=1\/j=2:=by omega
 rw[hj]
 rcases this with rfl|rfl|rfl
 ·exact ha
 ·exact hb
 ·exact hc
theorem y9S(r c:Int):NG U (tblN r c):=⟨VU.nil,(fun x h=>by cases h),rfl,(fun x h=>by cases h),(fun x h=>by cases h),(by decide:(2:Int)≠6)⟩
theorem y9T(hN:UN U):NG U (fldN seqA):=
 ⟨vu_of (z07.1 y4L) (z4q hN.toUB hN.ki (by decide)),(fun x h=>by cases h),rfl,(fun x h=>by cases h),(fun x h=>by cases h),(by decide:(5:Int)≠6)⟩
theorem y9U(hN:UN U)(e:Bool):NG U (notN e):=by
 refine⟨vu_of ?_ (z4q hN.toUB hN.ki (by cases e<;>decide)),fun x hx=> ?_,rfl,(fun x h=>by cases h),(fun x h=>by cases h),(by decide:(4:Int)≠6)⟩
 ·cases e<;>exact z07.1 (by decide+kernel)
 ·rw[show x=⟨10,0,[]⟩ by simpa[notN] using hx];exact y1N
theorem nz_of{n:Node}(h1:n.flow.length<=10)(h2:n.grid.cells.length<=10)(h3:n.draw.length<=10):NZ 10 n:=⟨h1,h2,h3⟩
theorem y5f(hN:UN U){s:Int}(hs:0<=s/\s<=1000){k:Nat}{d:Doc}(h:PP U s k d.nodes)(hk:k<=57)(a b c:Int):CR U s k d.nodes (cmdP d s a b c):=by
 have hU:=hN.toUB
 have hmt:([]:List EOp)=[]:=rfl
 have fmt:∀(S:Sel) (cs:List Attr) (w:Int->Bool),NmZ U cs->CR U s k d.nodes (if fmtE d S cs≠0 then[] else fmtL (atP d S {data:=#[]}) cs w):=fun S cs w hc=>
  z1r (fun _=> .nil h) (fun q=>y9R hU h hk hc w (qd q))
 unfold cmdP
 refine z1r (fun _=>y0r hU h hk (by decide) (z4i _) (y2N _)) (fun _=>z1r (fun _=>y0r hU h hk (by decide) y4J (by decide)) (fun _=>z1r (fun _=>y0r hU h hk (by decide) asc_t (by decide)) (fun _=>
  z1r (fun _=>fmt _ _ _ (z4q hU ?_ ?_)) (fun _=>z1r (fun _=>fmt _ _ _ (z4q hU ?_ ?_)) (fun _=>
  z1r (fun _=>y5c hU hs h hk (by decide) (y9S _ _) (nz_of (by simp[tblN]) (by simp[tblN]) (by simp[tblN]))) (fun _=>z1r (fun _=>y5c hU hs h hk (by decide) (y9U hN _) (nz_of (by simp[notN]) (by simp[notN]) (by simp[notN]))) (fun _=>z1r (fun _=>y5c hU hs h hk (by decide) (y9T hN) (nz_of (by simp[fldN]) (by simp[fldN]) (by simp[fldN]))) (fun _=>
  z1r (fun _=>z1r (fun _=> .nil h) (fun _=>y5d hU h hk _ (y1X _ _ _) (by simp))) (fun _=>z1r (fun _=>z1r (fun _=> .nil h) (fun _=>y5d hU h hk _ (by simp) (y1X _ _ _))) (fun _=>
  z1r (fun _=>y8T hU hs h hk _ _ _) (fun _=>z1r (fun _=> ?_) (fun _=> ?_))))))))))))
 ·exact getD3 hN.bo hN.si hN.ma (z0m _ (by decide))
 ·exact y5e (by decide) (by decide) (by decide) (z0m _ (by decide))
 ·exact getD3 hN.he hN.li hN.al (z0m _ (by decide))
 ·exact y5e (by decide) (by decide) (by decide) (z0m _ (by decide))
 ·refine .one hU h hk (opL_D (by simp)) (show(4:Int)≠0 by decide) (fun e z=>(y9N h.gp (fun o ho=> ?_) (y9Q e) z).mono (by simp;omega))
  rw[qw] at ho;subst ho
  exact⟨(by decide:({data:=#[98]}:ByteArray).size<=100),(by decide:mtB.size<=100),(by decide:mtB.size<=100)⟩
 ·exact .one hU h hk (opL_A (by simp)) (show(1:Int)≠0 by decide) (fun e z=>(keepA h.gp (vu_of (z07.1 (y9P e)) (z4q hN.toUB hN.ti (y5e (by decide) (by decide) (by decide) (z0m _ (by decide))))) z).mono (by omega))
end Go.Ch
end
section
namespace Go.Ch
open Go Go.Ab
def UC:List ByteArray:=[addB,cutB,{data:=#[116,105,116,108,101]},{data:=#[98,111,108,100]},{data:=#[115,105,122,101]},{data:=#[109,97,114,107,46,109]},{data:=#[104,101,97,100]},{data:=#[108,105,115,116]},{data:=#[97,108,105,103,110]},kindB]
theorem z9u(V:List ByteArray)(hV:V.length<=90)(Z:List ByteArray)(hZ:∀v∈Z,v=zzB):UN ⟨UC++V,Z⟩:=by
 have h:∀x∈UC,x∈(⟨UC++V,Z⟩:US):=fun x hx=>zV _ hx
 exact⟨⟨by show(UC++V).length<=100;rw[qf];have:UC.length=10:=rfl;omega,hZ,h _ (by simp[UC]),h _ (by simp[UC])⟩,h _ (by simp[UC]),h _ (by simp[UC]),h _ (by simp[UC]),h _ (by simp[UC]),h _ (by simp[UC]),h _ (by simp[UC]),h _ (by simp[UC]),h _ (by simp[UC])⟩
theorem y1Y{d:Doc}{c:List EOp}(h:appE d c=0):docE d=0/\eopsE c 0=0/\runE d.nodes c=0/\appD d c=⟨runL d.nodes c⟩:=by
 have h1:docE d=0:=by
  apply qd;intro q
  rw[(app_1 q).2] at h;exact q h
 have h2:eopsE c 0=0:=by
  apply qd;intro q
  rw[(app_2 h1 q).2] at h;exact q h
 have h3:runE d.nodes c=0:=(app_r h1 h2).symm.trans h
 exact⟨h1,h2,h3,(app_4 h1 h2 h3 rfl).1⟩
def GK(U:US)(s:Int)(k:Nat)(d:Doc):Prop:=k<=57/\PP U s k d.nodes
variable {U:US}
theorem y8U(hN:UN U){s:Int}(hs:0<=s/\s<=1000){k:Nat}{d:Doc}(h:GK U s k d)(a b c:Int):AppB d (cmdP d s a b c):=
 have r:=y5f hN hs h.2 h.1 a b c
 ⟨h.2.docL hN.toUB (by have:=h.1;omega),r.1,fun _ he=>(r.2 (z7T.1 he)).b⟩
theorem y7D(hN:UN U){s:Int}(hs:0<=s/\s<=1000){k:Nat}{d:Doc}(h:GK U s k d){a b c:Int}(h0:appE d (cmdP d s a b c)=0):RunG (PP U s (k+3)) d.nodes (cmdP d s a b c)/\PP U s (k+3) (appD d (cmdP d s a b c)).nodes:=by
 obtain⟨e1,e2,e3,e4⟩:=y1Y h0
 have r:=(y5f hN hs h.2 h.1 a b c).2 (z7T.1 e2)
 rw[e4]
 exact⟨r,r.fin e3⟩
theorem y8V(hN:UN U)(hZ:U.no=[]){s:Int}(hs:0<=s/\s<=1000):GInv s (GK U s) where
 doc:=fun h=>h.2.docL hN.toUB (by have:=h.1;omega)
 cmd:=fun b c h=>y8R hN.toUB hZ hs h.2 (by have:=h.1;omega) b c
 app:=fun a b c h=>y8U hN hs h a b c
 step:=fun {k d} a b c hk h=>by
  by_cases q:appE d (cmdP d s a b c)=0
  ·rw[z6n q];exact⟨by omega,(y7D hN hs h q).2⟩
  ·rw[z6o q];exact⟨by omega,h.2.mono (by omega)⟩
 more:=fun hk h=>⟨by omega,h.2.mono (by omega)⟩
theorem y5g(hN:UN U):GK U 0 0 baseD:=by
 have hx:∀n∈baseD.nodes,NG U n/\NZ 10 n:=fun n hn=>by
  have hc:∀c:Int,CharP c->c≠0->RU U ⟨c,0,[]⟩:=fun c h1 h2=>y0m h1 h2 VU.nil
  simp only[baseD,qj,qX,or_false] at hn
  rcases hn with rfl|rfl|rfl
  ·refine⟨⟨VU.nil,fun x hx=> ?_,rfl,(fun x h=>by cases h),(fun x h=>by cases h),(by decide:(0:Int)≠6)⟩,nz_of (by simp) (by simp) (by simp)⟩
   simp only[qj,qX,or_false] at hx
   rcases hx with rfl|rfl<;>exact y1W (by omega) VU.nil
  ·refine⟨⟨VU.nil,fun x hx=> ?_,rfl,(fun x h=>by cases h),(fun x h=>by cases h),(by decide:(1:Int)≠6)⟩,nz_of (by simp) (by simp) (by simp)⟩
   simp only[qj,qX,or_false] at hx
   rcases hx with rfl|rfl|rfl|rfl|rfl|rfl<;>exact hc _ (by decide) (by decide)
  ·exact⟨⟨VU.nil,(fun x h=>by cases h),rfl,(fun x h=>by cases h),(fun x h=>by cases h),(by decide:(10:Int)≠6)⟩,nz_of (by simp) (by simp) (by simp)⟩
 refine⟨by omega,⟨y0n.1 (by decide+kernel),hx⟩,by decide,fun n hn=> ?_⟩
 simp only[baseD,qj,qX,or_false] at hn
 rcases hn with rfl|rfl|rfl<;>simp
end Go.Ch
end
section
namespace Go.Ch
open Go Go.Ab
variable {U:US}
def TX(l:List Node):Prop:=∃n∈l,n.id=2/\n.kind=1
theorem y9V{l:List Node}{o:EOp}(h:TX l):TX (oneL l o):=by
 obtain⟨n,hn,h1,h2⟩:=h
 unfold oneL
 split
 ·exact⟨n,hn,h1,h2⟩
 ·split
  ·refine⟨n,?_,h1,h2⟩
   unfold insN
   have:n∈l.take (lobN l o.nw.id)++l.drop (lobN l o.nw.id):=by rw[zJ];exact hn
   rcases qm.1 this with q|q
   ·exact zV _ q
   ·exact List.mem_append_right _ (qC _ q)
  ·obtain⟨j,hj,rfl⟩:=z0F hn
   have hid:∀m:Node,(oneN m o).id=m.id/\(oneN m o).kind=m.kind:=fun m=>by
    unfold oneN;repeat' split
    all_goals exact⟨rfl,rfl⟩
   refine⟨(l.set (lobN l o.node) (oneN (l.getD (lobN l o.node) default) o)).getD j default,z0h (by rw[zl];exact hj),?_⟩
   by_cases e:lobN l o.node=j
   ·rw[e,qc,List.getElem?_set_self hj]
    have:=hid (l.getD j default)
    exact⟨this.1.trans h1,this.2.trans h2⟩
   ·rw[qc,List.getElem?_set_ne e,<-List.getD_eq_getElem?_getD]
    exact⟨h1,h2⟩
theorem y7E:∀{c:List EOp} {l:List Node},TX l->TX (runL l c)
 | [],_,h=>h
 |_::c,_,h=>y7E (c:=c) (y9V h)
theorem y6N{s:Int}{raw:List Int}:∀(m:Nat) {k:Nat} {d:Doc},raw.length-k=m->TX d.nodes->TX (z1B s raw d k).nodes:=by
 intro m
 induction m using Nat.strongRecOn with
 |_ m ih=>
  intro k d hm h
  by_cases q:k+2<raw.length/\k<36
  ·rw[z5v q]
   refine ih _ (by omega) rfl ?_
   by_cases q2:appE d (cmdP d s (raw.getD k default) (raw.getD (k+1) default) (raw.getD (k+2) default))=0
   ·rw[z6n q2,(y1Y q2).2.2.2];exact y7E h
   ·rw[z6o q2];exact h
  ·rw[z6p q];exact h
theorem y6O(hN:UN U){s:Int}(hs:0<=s/\s<=1000){raw:List Int}:∀(m:Nat) {k:Nat} {d:Doc},raw.length-k=m->k<39->GK U s k d->∃k',k'<=38/\GK U s k' (z1B s raw d k):=by
 intro m
 induction m using Nat.strongRecOn with
 |_ m ih=>
  intro k d hm hk hg
  by_cases h:k+2<raw.length/\k<36
  ·rw[z5v h]
   refine ih _ (by omega) rfl (by omega) ?_
   by_cases q:appE d (cmdP d s (raw.getD k default) (raw.getD (k+1) default) (raw.getD (k+2) default))=0
   ·rw[z6n q];exact⟨by omega,(y7D hN hs hg q).2⟩
   ·rw[z6o q];exact⟨by omega,hg.2.mono (by omega)⟩
  ·rw[z6p h];exact⟨k,by omega,hg⟩
theorem y8W:TX baseD.nodes:=⟨⟨2,1,[],[⟨97,0,[]⟩,⟨98,0,[]⟩,⟨99,0,[]⟩,⟨10,0,[]⟩,⟨100,0,[]⟩,⟨10,0,[]⟩],⟨0,0,[],[]⟩,[]⟩,by simp[baseD],rfl,rfl⟩
structure DX(U:US)(d:Doc):Prop where
 pp:PP U 0 38 d.nodes
 tx:TX d.nodes
theorem y6P(hN:UN U)(raw:List Int):DX U (z1B 0 raw baseD 0):=by
 obtain⟨k',hk,hg⟩:=y6O hN (by omega) (raw:=raw) _ rfl (by omega) (y5g hN)
 exact⟨hg.2.mono hk,y6N _ rfl y8W⟩
variable {d:Doc}
theorem DX.nd(h:DX U d):hasN d.nodes 2=true/\lobN d.nodes 2<d.nodes.length/\(ndN d.nodes 2).id=2/\(ndN d.nodes 2).kind=1/\ndN d.nodes 2∈d.nodes:=by
 obtain⟨n,hn,h1,h2⟩:=h.tx
 have hh:hasN d.nodes 2=true:=h.pp.gp.vd.has.2 ⟨n,hn,h1⟩
 obtain⟨a,b⟩:=z0X.1 hh
 obtain⟨j,hj,rfl⟩:=z0F hn
 have e:=z74 h.pp.gp.vd.srt a hj (b.trans h1.symm)
 refine⟨hh,a,b,?_,z0h a⟩
 unfold ndN;rw[e];exact h2
theorem DX.node(h:DX U d):nodeF d 2=ndN d.nodes 2/\nodeH d 2=true:=by
 obtain⟨h1,h2,h3,h4,h5⟩:=h.nd
 rcases z2A d.nodes 2 d.nodes.length 0 (by omega) with⟨_,q⟩| ⟨j,q1,_,q2,q3⟩
 ·exact absurd h3 (q _ (qR _) h2)
 ·have e:=z74 h.pp.gp.vd.srt h2 q2 (h3.trans q3.symm)
  have:=y0e q1
  unfold ndN;rw[e];exact this
theorem y8X{l:List Attr}{n:ByteArray}(h:VG false l):gotA l n=hasA l n:=by
 have a:=y6t (n:=n) h
 have b:=z9b (l:=l) (n:=n)
 cases h1:gotA l n<;>cases h2:hasA l n<;>simp_all
theorem y8Y{f:List Elem}{i:Nat}(h:VG false (f.getD i default).attrs):shwB f i=visB f 0 i:=by
 unfold shwB visB hidX
 rw[y8X h]
 have e:((f.getD i default).char==10)=decide ((f.getD i default).char=10):=by
  by_cases q:(f.getD i default).char=10
  ·rw[decide_eq_true q,beq_iff_eq];exact q
  ·rw[decide_eq_false q,beq_eq_false_iff_ne];exact q
 rw[e]
 cases hasA (f.getD i default).attrs cutB<;>cases seq (getA (f.getD i default).attrs hidB 0) onB<;>simp
theorem y5h{f:List Elem}(h:∀x∈f,VG false x.attrs):shwR f f.length=plcL f 0 f.length:=by
 unfold shwR plcL plcN
 congr 1
 refine List.filter_congr fun i hi=>y8Y (h _ (z0h (zG.1 hi)))
theorem y8Z{f:List Elem}{n:Nat}{x:Int}:x∈plcL f 0 n↔∃i:Nat,i<n/\visB f 0 i=true/\x=(i:Int):=by
 unfold plcL plcN
 simp only[qy,zt,zG]
 constructor
 ·rintro⟨i,⟨h1,h2⟩,rfl⟩;exact⟨i,h1,h2,rfl⟩
 ·rintro⟨i,h1,h2,rfl⟩;exact⟨i,⟨h1,h2⟩,rfl⟩
structure FX(U:US)(f:List Elem):Prop where
 ru:∀x∈f,RU U x
 pos:0<f.length
 last:(f.getD (f.length- 1) default).char=10
theorem DX.flow(h:DX U d):FX U (ndN d.nodes 2).flow/\(ndN d.nodes 2).flow.length<=162:=by
 obtain⟨h1,h2,h3,h4,h5⟩:=h.nd
 obtain⟨g,z⟩:=h.pp.gp.nd _ h5
 obtain⟨p1,p2,p3,p4,p5,p6,p7⟩:=z1W (h.pp.gp.vd.node _ h5)
 have ht:hasT (ndN d.nodes 2).kind=true:=by rw[h4];decide
 have hz:=z6t.1 (p5 (.inl ht))
 have hl:=hz.2 ht
 exact⟨⟨g.fl,hl.1,hl.2⟩,by have:=z.fl;omega⟩
theorem FX.plc{f:List Elem}(h:FX U f):shwR f f.length=plcL f 0 f.length/\1<=(plcL f 0 f.length).length:=by
 refine⟨y5h fun x hx=>(h.ru x hx).2.g,?_⟩
 have hp:=h.pos
 have:((f.length- 1:Nat):Int)∈plcL f 0 f.length:=y8Z.2 ⟨f.length- 1,by omega,z4J (.inr ⟨by omega,h.last⟩),rfl⟩
 exact List.length_pos_of_mem this
theorem DX.at(h:DX U d){a b:Int}{au:ByteArray}(ha:0<=a/\a<=b/\b< ((plcL (ndN d.nodes 2).flow 0 (ndN d.nodes 2).flow.length).length:Int))(hau:seq au {data:=#[]}=true\/valGo au=true):
 atE d ⟨2,a,b⟩ au=0/\atP d ⟨2,a,b⟩ au=⟨ndN d.nodes 2,plcL (ndN d.nodes 2).flow 0 (ndN d.nodes 2).flow.length,au⟩:=by
 obtain⟨h1,h2,h3,h4,h5⟩:=h.nd
 have r:=at_6 (d:=d) (s:=⟨2,a,b⟩) (au:=au) h.pp.doc h1 (by show hasT (ndN d.nodes 2).kind=true;rw[h4];decide) ⟨⟨ha.1,ha.2.1⟩,ha.2.2⟩ hau
 exact⟨r.2,r.1⟩
def lastK(us:List DU):Bool:=match us.getLast? with
 |some (.K _)=>true
 |_=>false
theorem z1Y(x y:DU)(u:List DU):lastK (x::y::u)=lastK (y::u):=by
 unfold lastK;rw[List.getLast?_cons_cons]
theorem y5i{u v:List DU}(h:DSw u v):lastK u=lastK v:=by
 induction h with
 |refl u=>rfl
 |cons x h ih=>
  have hl:=y4e h
  rename_i u v
  cases u with
  |nil=>cases v with
   |nil=>rfl
   |cons y v=>simp at hl
  |cons y u=>cases v with
   |nil=>simp at hl
   |cons z v=>rw[z1Y,z1Y];exact ih
 |swap e u=>cases u with
  |nil=>rfl
  |cons y u=>rw[z1Y,z1Y,z1Y,z1Y]
 |symm h ih=>exact ih.symm
 |trans h k ih1 ih2=>exact ih1.trans ih2
theorem z29(u:List DU){v:List DU}(h:v≠[]):lastK (u++v)=lastK v:=by
 unfold lastK
 rw[List.getLast?_append]
 cases hv:v.getLast? with
 |none=>exact absurd (List.getLast?_eq_none_iff.1 hv) h
 |some x=>rfl
theorem y80{s:List DStep}(hv:z0I s)(h:lastK (exD s)=true):endsD s=true:=by
 have hne:s≠[]:=fun e=>by rw[e] at h;exact absurd h (by decide)
 obtain⟨t,ht⟩:∃t,s=s.dropLast++[t]:=⟨s.getLast hne,(List.dropLast_concat_getLast hne).symm⟩
 generalize s.dropLast=i at ht
 subst ht
 have hg:(i++[t]).getD ((i++[t]).length- 1) default=t:=by rw[z4o (by simp)];rfl
 have hk:t.kind=0:=by
  apply qd;intro q
  have ho:=hv.1.all t (by simp)
  rw[z3y,show exD [t]=exS t by simp[exD]] at h
  unfold exS at h
  by_cases q1:t.kind=1
  ·rw[if_pos q1] at h
   have he:t.elems≠[]:=by
    rcases ho with⟨_,_,_,q,_⟩| ⟨q,_⟩
    ·exact q
    ·omega
   rw[z29 _ (by simpa using he)] at h
   unfold lastK at h
   rw[List.getLast?_map] at h
   cases hl:t.elems.getLast? with
   |none=>exact he (List.getLast?_eq_none_iff.1 hl)
   |some x=>rw[hl] at h;simp at h
  ·have q2:t.kind=2:=by
    rcases ho with⟨k,_⟩| ⟨k,_⟩
    ·omega
    ·omega
   have hn:1<=t.n:=by
    rcases ho with⟨k,_⟩| ⟨_,e,_,n,_⟩
    ·omega
    ·exact n
   rw[if_neg q1,if_pos q2] at h
   rw[z29 _ (by intro z;have:=congrArg List.length z;simp at this;omega)] at h
   unfold lastK at h
   rw[List.getLast?_replicate,if_neg (by omega)] at h
   cases h
 unfold endsD
 rw[hg,hk]
 simp
theorem z9v{s:List DStep}{t:DStep}{x:Elem}(ht:t∈s)(hk:t.kind=1)(hx:x∈t.elems):DU.A x∈exD s:=by
 induction s with
 |nil=>cases ht
 |cons y s ih=>
  rw[exD]
  rcases qj.1 ht with rfl|q
  ·refine zV _ ?_
   unfold exS;rw[if_pos hk];exact qy.2 ⟨x,hx,rfl⟩
  ·exact List.mem_append_right _ (ih q)
theorem z69:∀{us:List DU},(∀u∈us,UU U u)->UOk us
 | [],_=>trivial
 | .K c::us,h=>⟨VU.g (show VU U true c from h (.K c) (by simp)),z69 (fun u hu=>h u (qC _ hu))⟩
 | .A _::us,h=>z69 (us:=us) (fun u hu=>h u (qC _ hu))
 | .C::us,h=>z69 (us:=us) (fun u hu=>h u (qC _ hu))
theorem y7F{U:US}{n:Int}{s:List DStep}{us:List DU}(hn:1<=n/\n<=1073741824)(hd:DU_ U s us):eopE (opF n s)=0:=by
 unfold eopE
 rw[if_neg (by show¬((2:Int)< 0\/4< (2:Int));decide)]
 have hu:unuO (opF n s)=false:=by
  unfold unuO opF
  simp only[show((2:Int)==0)=false from rfl,show((2:Int) !=0)=true from rfl,show((2:Int) !=1)=true from rfl,show((2:Int) !=2)=false from rfl,show((2:Int) !=3)=true from rfl,show((2:Int) !=4)=true from rfl,Bool.false_and,Bool.true_and,Bool.false_or]
  rw[show z0J ⟨0,0,[],[],⟨0,0,[],[]⟩,[]⟩=true by decide+kernel,show anyG ⟨[],[],[],[],[]⟩=false by decide+kernel]
  rfl
 rw[if_neg (by rw[hu];decide),if_neg (show¬(opF n s).kind=0 from(by decide:¬(2:Int)=0)),if_neg (by show¬(n<1\/1073741824<n);omega),if_neg (show¬(opF n s).kind=1 from(by decide:¬(2:Int)=1)),if_pos (show(opF n s).kind=2 from rfl)]
 exact z0N.2 hd.v
def putF(d:Doc)(f:List Elem):Doc:=⟨d.nodes.set (lobN d.nodes 2) {(ndN d.nodes 2) with flow:=f}⟩
theorem DX.op(h:DX U d){U':US}(hU:UB U')(hp:PP U' 0 38 d.nodes){s:List DStep}{us:List DU}(hd:DU_ U' s us)(ho:oldN us=(ndN d.nodes 2).flow.length)(hk:lastK us=true)(ha:∀t∈s,∀x∈t.elems,x.ref=0):
 AppB d [opF 2 s]/\appE d [opF 2 s]=0/\appD d [opF 2 s]=putF d (z0i us (ndN d.nodes 2).flow):=by
 obtain⟨h1,h2,h3,h4,h5⟩:=h.nd
 have e0:eopE (opF 2 s)=0:=y7F (by decide) hd
 have hO:=opL_F hU (k:=2) hd
 have hb:=z6u hU hp (by omega) e0 hO (fun q=>absurd q (show¬(2:Int)=0 by decide))
 have hl:=hd.lens
 have hT:hasT (ndN d.nodes 2).kind=true:=by rw[h4];decide
 have hf:z0Y d.nodes (ndN d.nodes 2) s=0:=by
  unfold z0Y
  rw[if_neg (by rw[hT];simp),if_neg (by omega),if_neg (by rw[y80 hd.v (by rw[y5i hd.sw];exact hk)];simp)]
  refine z6U fun t ht=>z6U fun x hx=> ?_
  have hr:=ha t ht x hx
  unfold newE
  rw[if_neg (by rw[hT];simp)]
  have:refsF [x]=[]:=by unfold refsF;simp[hr]
  rw[this,refsE,if_neg (by simp)]
 have e1:oneE d.nodes (opF 2 s)=0:=(one_3 (o:=opF 2 s) h1 rfl).2.trans hf
 have e2:=one_s (o:=opF 2 s) (show(2:Int)≠0 by decide) e1
 have hv:eopsE [opF 2 s] 0=0:=z7T.2 fun o ho=>by rw[qw] at ho;subst ho;exact e0
 have hr:runE d.nodes [opF 2 s]=0:=by rw[runE,if_neg (fun q=>q e1)];rfl
 have hb2:AppB d [opF 2 s]:=⟨hp.docL hU (by omega),fun o ho=>by rw[qw] at ho;subst ho;exact hO,fun _ _=>⟨hb,fun _=>trivial⟩⟩
 have h4':=app_4 h.pp.doc hv hr (rfl:runL d.nodes [opF 2 s]=_)
 refine⟨hb2,h4'.2,?_⟩
 rw[h4'.1]
 show(⟨oneL d.nodes (opF 2 s)⟩:Doc)=_
 rw[e2]
 have:rawD (ndN d.nodes 2).flow s=z0i us (ndN d.nodes 2).flow:=y31 hd.sw _
 unfold putF
 rw[<-this]
 rfl
theorem y5j(h:DX U d)(f:List Elem):nodeF (putF d f) 2={(ndN d.nodes 2) with flow:=f}/\nodeH (putF d f) 2=true:=by
 obtain⟨h1,h2,h3,h4,h5⟩:=h.nd
 have hl:∀j,((putF d f).nodes.getD j default).id=(d.nodes.getD j default).id:=fun j=>by
  unfold putF
  by_cases e:lobN d.nodes 2=j
  ·rw[<-e,qc,List.getElem?_set_self h2];rfl
  ·rw[qc,List.getElem?_set_ne e,<-List.getD_eq_getElem?_getD]
 have hn:(putF d f).nodes.length=d.nodes.length:=by unfold putF;rw[zl]
 rcases z2A (putF d f).nodes 2 (putF d f).nodes.length 0 (by omega) with⟨_,q⟩| ⟨j,q1,_,q2,q3⟩
 ·exact absurd ((hl _).trans h3) (q _ (qR _) (by rw[hn];exact h2))
 ·have e:=z74 h.pp.gp.vd.srt h2 (by rw[<-hn];exact q2) (h3.trans ((hl j).symm.trans q3).symm)
  have:=y0e q1
  refine⟨this.1.trans ?_,this.2⟩
  rw[<-e]
  unfold putF
  rw[qc,List.getElem?_set_self h2];rfl
end Go.Ch
end
section
namespace Go.Ch
open Go Go.Ab
theorem un_0:UN (⟨UC++[],[]⟩:US):=z9u [] (by simp) [] (fun v hv=>by cases hv)
theorem z8b:DX (⟨UC++[],[]⟩:US) z0e:=by
 have hx:∀n∈z0e.nodes,NG (⟨UC++[],[]⟩:US) n/\NZ 10 n:=fun n hn=>by
  simp only[z0e,qj,qX,or_false] at hn
  rcases hn with rfl|rfl
  ·refine⟨⟨VU.nil,fun x hx=> ?_,rfl,(fun x h=>by cases h),(fun x h=>by cases h),(by decide:(0:Int)≠6)⟩,nz_of (by simp) (by simp) (by simp)⟩
   rw[qw] at hx;subst hx;exact y1W (by omega) VU.nil
  ·refine⟨⟨VU.nil,fun x hx=> ?_,rfl,(fun x h=>by cases h),(fun x h=>by cases h),(by decide:(1:Int)≠6)⟩,nz_of (by simp) (by simp) (by simp)⟩
   rw[qw] at hx;subst hx;exact y1N
 have hp:PP (⟨UC++[],[]⟩:US) 0 0 z0e.nodes:=by
  refine⟨⟨y0n.1 z6l,hx⟩,by decide,fun n hn=> ?_⟩
  simp only[z0e,qj,qX,or_false] at hn
  rcases hn with rfl|rfl<;>simp
 exact⟨hp.mono (by omega),⟨⟨2,1,[],[⟨10,0,[]⟩],⟨0,0,[],[]⟩,[]⟩,by simp[z0e],rfl,rfl⟩⟩
theorem y5k:DocL z0e/\AscN {data:=#[98]}/\(atE z0e ⟨2,0,0⟩ {data:=#[]}=0->TypB z0e ⟨2,0,0⟩ (ascC {data:=#[98]}) {data:=#[]})/\AppB z0e (typeO z0e ⟨2,0,0⟩ (ascC {data:=#[98]}) {data:=#[]})/\appE z0e (typeO z0e ⟨2,0,0⟩ (ascC {data:=#[98]}) {data:=#[]})=0/\atE z0e ⟨2,0,0⟩ {data:=#[]}=0/\typeS z0e ⟨2,0,0⟩ (ascC {data:=#[98]}) {data:=#[]}=⟨2,1,1⟩/\
 1< (appD z0e (typeO z0e ⟨2,0,0⟩ (ascC {data:=#[98]}) {data:=#[]})).nodes.length/\((appD z0e (typeO z0e ⟨2,0,0⟩ (ascC {data:=#[98]}) {data:=#[]})).nodes.getD 1 default).flow.length=2:=by
 have ha:AscN {data:=#[98]}:=z4i 4
 have t1:=(z8b.at (a:=0) (b:=0) (au:={data:=#[]}) (by decide+kernel) (.inl (by decide+kernel))).1
 have hU:=un_0.toUB
 obtain⟨p1,p2,p3,p4,p5⟩:=z1K hU z8b.pp (by omega) (by simp) t1
 have hl:(ascC {data:=#[98]}).length=1:=by rw[z5z];rfl
 have he:=z4l p1 p3 (s:=⟨2,0,0⟩) (z8a ha)
 have hi:=z4K p1 p3 0
 obtain⟨s1,⟨us,hd⟩,_,_⟩:=z6r hU (s:=⟨2,0,0⟩) (es:=typEl (atP z0e ⟨2,0,0⟩ {data:=#[]}) ⟨2,0,0⟩ (ascC {data:=#[98]})) p1 p2 p3 p4 p5 (by rw[z2b,hl];omega) he
 have e1:=z9e (cs:=ascC {data:=#[98]}) t1
 refine⟨z6m,ha,fun _=>⟨p1,z07.2 hi.g,by have:=hi.len hU.len;show(inhP _ 0).length<=_;omega,p5,s1⟩,?_,by decide+kernel,t1,?_,by decide+kernel,by decide+kernel⟩
 ·rw[e1.1]
  refine⟨z6m,fun o ho=>by rw[qw] at ho;subst ho;exact opL_F hU hd,fun _ h=> ?_⟩
  exact⟨z6u hU z8b.pp (by omega) (y7F (by decide) hd) (opL_F hU hd) (fun q=>absurd q (show¬(2:Int)=0 by decide)),fun _=>trivial⟩
 ·rw[e1.2];unfold selP
  rw[z2b,hl];rfl
end Go.Ch
end
section
set_option maxRecDepth 100000
set_option maxHeartbeats 4000000
open Go Go.Proofs Go.Ab
namespace Go.Ch
theorem y6Q:FC Tryz.prog 6 [] (app emp []) (VB true) (app emp []):=by
 refine .go Tryz.f6 ?_
 obtain⟨hb,ht,hx,ha,he,hz,hs,hl,hf⟩:=y5k
 have hn:({data:=#[98]}:ByteArray).size<=20000:=by decide
 have e1:(((((true&&((atE z0e ({nd:=2,fr:=0,tq:=0}:Sel) ({data:=#[]}))==0))&&((appE z0e (typeO z0e ({nd:=2,fr:=0,tq:=0}:Sel) (ascC ({data:=#[98]})) ({data:=#[]})))==0))&&((((typeS z0e ({nd:=2,fr:=0,tq:=0}:Sel) (ascC ({data:=#[98]})) ({data:=#[]}))).nd)==2&&((((typeS z0e ({nd:=2,fr:=0,tq:=0}:Sel) (ascC ({data:=#[98]})) ({data:=#[]}))).fr)==1&&((((typeS z0e ({nd:=2,fr:=0,tq:=0}:Sel) (ascC ({data:=#[98]})) ({data:=#[]}))).tq)==1&&true))))&&((((((((appD z0e (typeO z0e ({nd:=2,fr:=0,tq:=0}:Sel) (ascC ({data:=#[98]})) ({data:=#[]})))).nodes).getD 1 default)).flow).length:Int)==2)):Bool)=true:=by
  rw[hs,hz,he,hf];rfl
 exact .finE [.r [],.r [(0,X (Xc1 8 z5w X0)),(2,X (Xc1 24 (z4j z0e ({nd:=2,fr:=0,tq:=0}:Sel) ({data:=#[98]}) ({data:=#[]}) (by assumption) (by assumption) (by assumption) (by assumption)) X0))],.r [(0,X (Xc1 96 z5w X0)),(2,X (Xc1 112 (z5u z0e (typeO z0e ({nd:=2,fr:=0,tq:=0}:Sel) (ascC ({data:=#[98]})) ({data:=#[]})) ha) X0))],.r [(0,X (Xc0 y6F X0)),(3,Xv 1 true X0),(4,X (Xk true)),(7,Xv 1 (true&&((atE z0e ({nd:=2,fr:=0,tq:=0}:Sel) ({data:=#[]}))==0)) X0),(8,X (Xk (true&&((atE z0e ({nd:=2,fr:=0,tq:=0}:Sel) ({data:=#[]}))==0)))),(12,Xv 2 ((true&&((atE z0e ({nd:=2,fr:=0,tq:=0}:Sel) ({data:=#[]}))==0))&&((appE z0e (typeO z0e ({nd:=2,fr:=0,tq:=0}:Sel) (ascC ({data:=#[98]})) ({data:=#[]})))==0)) X0),(13,X (Xk ((true&&((atE z0e ({nd:=2,fr:=0,tq:=0}:Sel) ({data:=#[]}))==0))&&((appE z0e (typeO z0e ({nd:=2,fr:=0,tq:=0}:Sel) (ascC ({data:=#[98]})) ({data:=#[]})))==0)))),(16,Xv 1 (((true&&((atE z0e ({nd:=2,fr:=0,tq:=0}:Sel) ({data:=#[]}))==0))&&((appE z0e (typeO z0e ({nd:=2,fr:=0,tq:=0}:Sel) (ascC ({data:=#[98]})) ({data:=#[]})))==0))&&((((typeS z0e ({nd:=2,fr:=0,tq:=0}:Sel) (ascC ({data:=#[98]})) ({data:=#[]}))).nd)==2&&((((typeS z0e ({nd:=2,fr:=0,tq:=0}:Sel) (ascC ({data:=#[98]})) ({data:=#[]}))).fr)==1&&((((typeS z0e ({nd:=2,fr:=0,tq:=0}:Sel) (ascC ({data:=#[98]})) ({data:=#[]}))).tq)==1&&true)))) X0),(17,Xv 1 (((true&&((atE z0e ({nd:=2,fr:=0,tq:=0}:Sel) ({data:=#[]}))==0))&&((appE z0e (typeO z0e ({nd:=2,fr:=0,tq:=0}:Sel) (ascC ({data:=#[98]})) ({data:=#[]})))==0))&&((((typeS z0e ({nd:=2,fr:=0,tq:=0}:Sel) (ascC ({data:=#[98]})) ({data:=#[]}))).nd)==2&&((((typeS z0e ({nd:=2,fr:=0,tq:=0}:Sel) (ascC ({data:=#[98]})) ({data:=#[]}))).fr)==1&&((((typeS z0e ({nd:=2,fr:=0,tq:=0}:Sel) (ascC ({data:=#[98]})) ({data:=#[]}))).tq)==1&&true)))) (Xi nodeT (((appD z0e (typeO z0e ({nd:=2,fr:=0,tq:=0}:Sel) (ascC ({data:=#[98]})) ({data:=#[]})))).nodes) 1)),(18,Xv 1 (((true&&((atE z0e ({nd:=2,fr:=0,tq:=0}:Sel) ({data:=#[]}))==0))&&((appE z0e (typeO z0e ({nd:=2,fr:=0,tq:=0}:Sel) (ascC ({data:=#[98]})) ({data:=#[]})))==0))&&((((typeS z0e ({nd:=2,fr:=0,tq:=0}:Sel) (ascC ({data:=#[98]})) ({data:=#[]}))).nd)==2&&((((typeS z0e ({nd:=2,fr:=0,tq:=0}:Sel) (ascC ({data:=#[98]})) ({data:=#[]}))).fr)==1&&((((typeS z0e ({nd:=2,fr:=0,tq:=0}:Sel) (ascC ({data:=#[98]})) ({data:=#[]}))).tq)==1&&true)))) X0),(19,Xv 1 (((true&&((atE z0e ({nd:=2,fr:=0,tq:=0}:Sel) ({data:=#[]}))==0))&&((appE z0e (typeO z0e ({nd:=2,fr:=0,tq:=0}:Sel) (ascC ({data:=#[98]})) ({data:=#[]})))==0))&&((((typeS z0e ({nd:=2,fr:=0,tq:=0}:Sel) (ascC ({data:=#[98]})) ({data:=#[]}))).nd)==2&&((((typeS z0e ({nd:=2,fr:=0,tq:=0}:Sel) (ascC ({data:=#[98]})) ({data:=#[]}))).fr)==1&&((((typeS z0e ({nd:=2,fr:=0,tq:=0}:Sel) (ascC ({data:=#[98]})) ({data:=#[]}))).tq)==1&&true)))) X0),(20,Xv 1 (((true&&((atE z0e ({nd:=2,fr:=0,tq:=0}:Sel) ({data:=#[]}))==0))&&((appE z0e (typeO z0e ({nd:=2,fr:=0,tq:=0}:Sel) (ascC ({data:=#[98]})) ({data:=#[]})))==0))&&((((typeS z0e ({nd:=2,fr:=0,tq:=0}:Sel) (ascC ({data:=#[98]})) ({data:=#[]}))).nd)==2&&((((typeS z0e ({nd:=2,fr:=0,tq:=0}:Sel) (ascC ({data:=#[98]})) ({data:=#[]}))).fr)==1&&((((typeS z0e ({nd:=2,fr:=0,tq:=0}:Sel) (ascC ({data:=#[98]})) ({data:=#[]}))).tq)==1&&true)))) (Xl elemT ((((((appD z0e (typeO z0e ({nd:=2,fr:=0,tq:=0}:Sel) (ascC ({data:=#[98]})) ({data:=#[]})))).nodes).getD 1 default)).flow))),(21,Xv 1 (((true&&((atE z0e ({nd:=2,fr:=0,tq:=0}:Sel) ({data:=#[]}))==0))&&((appE z0e (typeO z0e ({nd:=2,fr:=0,tq:=0}:Sel) (ascC ({data:=#[98]})) ({data:=#[]})))==0))&&((((typeS z0e ({nd:=2,fr:=0,tq:=0}:Sel) (ascC ({data:=#[98]})) ({data:=#[]}))).nd)==2&&((((typeS z0e ({nd:=2,fr:=0,tq:=0}:Sel) (ascC ({data:=#[98]})) ({data:=#[]}))).fr)==1&&((((typeS z0e ({nd:=2,fr:=0,tq:=0}:Sel) (ascC ({data:=#[98]})) ({data:=#[]}))).tq)==1&&true)))) X0),(22,X (Xk (((true&&((atE z0e ({nd:=2,fr:=0,tq:=0}:Sel) ({data:=#[]}))==0))&&((appE z0e (typeO z0e ({nd:=2,fr:=0,tq:=0}:Sel) (ascC ({data:=#[98]})) ({data:=#[]})))==0))&&((((typeS z0e ({nd:=2,fr:=0,tq:=0}:Sel) (ascC ({data:=#[98]})) ({data:=#[]}))).nd)==2&&((((typeS z0e ({nd:=2,fr:=0,tq:=0}:Sel) (ascC ({data:=#[98]})) ({data:=#[]}))).fr)==1&&((((typeS z0e ({nd:=2,fr:=0,tq:=0}:Sel) (ascC ({data:=#[98]})) ({data:=#[]}))).tq)==1&&true))))))]] [] (fun z0:Bool=>(VB z0,[])) _ _ e1.symm
end Go.Ch
end
section
namespace Go.Ch
open Go Go.Ab
variable {U:US}
theorem z6v{u v:List DU}(h:DSw u v):((∀e,DU.A e∉u)\/DU.C∉u)->u=v:=by
 induction h with
 |refl u=>exact fun _=>rfl
 |cons x h ih=>
  intro q
  rw[ih (q.imp (fun a e he=>a e (qC _ he)) (fun a he=>a (qC _ he)))]
 |swap e u=>
  rintro(q|q)
  ·exact absurd (by simp) (q e)
  ·exact absurd (by simp) q
 |symm h ih=>
  intro q
  exact(ih (q.imp (fun a e he=>a e ((z4I h _).1 he)) (fun a he=>a ((z4I h _).1 he)))).symm
 |trans h k ih1 ih2=>
  intro q
  have e:=ih1 q
  exact e.trans (ih2 (by rw[<-e];exact q))
theorem z8c:∀(e:List DU) (p q:List DU),(∀x,DU.A x∉e)->(z0a (List.replicate e.length (.K [])++p) (e++q)).2=e++(z0a p q).2
 | [],p,q,_=>rfl
 | .K d::e,p,q,h=>by
  rw[qi,qt,qg,qg,z0a,z8c e p q (fun x hx=>h x (qC _ hx))]
  rfl
 | .C::e,p,q,h=>by
  rw[qi,qt,qg,qg,z0a,z8c e p q (fun x hx=>h x (qC _ hx))]
  rfl
 | .A x::e,p,q,h=>absurd (by simp) (h x)
theorem y5l:∀(es:List Elem) (p q:List DU),(z0a (es.map .A++p) q).2=List.replicate es.length (.K [])++(z0a p q).2
 | [],p,q=>rfl
 |x::es,p,q=>by
  rw[qZ,qg,z0a,y5l es p q,qi,qt];rfl
theorem y5m(p q:List DU)(h:DU.C∉p):DU.C∉(z0a p q).1:=by
 induction p,q using z0a.induct with
 |case1 e p q ih=>rw[z0a];intro z;rcases qj.1 z with z|z;(cases z);exact ih (fun y=>h (qC _ y)) z
 |case2 e q ih=>rw[z0a];intro z;rcases qj.1 z with z|z;(cases z);exact ih h z
 |case3 c p e q ih=>rw[z0a];intro z;rcases qj.1 z with z|z;(cases z);exact ih h z
 |case4 p e q ih=>exact absurd (by simp) h
 |case5 c p d q ih=>rw[z0a];intro z;rcases qj.1 z with z|z;(cases z);exact ih (fun y=>h (qC _ y)) z
 |case6 c p q ih=>rw[z0a];exact ih (fun y=>h (qC _ y))
 |case7 p d q ih=>exact absurd (by simp) h
 |case8 p q ih=>exact absurd (by simp) h
 |case9 p hne=>rw[show z0a p []=([],[]) by unfold z0a;split<;>simp_all];simp
 |case10 q h1 h2=>rw[show z0a [] q=([],[]) by unfold z0a;split<;>simp_all];simp
theorem y81(p q:List DU){x:Elem}(h:DU.A x∈(z0a p q).1):DU.A x∈p:=by
 induction p,q using z0a.induct with
 |case1 e p q ih=>rw[z0a] at h;rcases qj.1 h with z|z;(rw[z];simp);exact qC _ (ih z)
 |case2 e q ih=>rw[z0a] at h;rcases qj.1 h with z|z;(cases z);exact ih z
 |case3 c p e q ih=>rw[z0a] at h;rcases qj.1 h with z|z;(cases z);exact ih z
 |case4 p e q ih=>rw[z0a] at h;rcases qj.1 h with z|z;(cases z);exact ih z
 |case5 c p d q ih=>rw[z0a] at h;rcases qj.1 h with z|z;(cases z);exact qC _ (ih z)
 |case6 c p q ih=>rw[z0a] at h;exact qC _ (ih h)
 |case7 p d q ih=>rw[z0a] at h;rcases qj.1 h with z|z;(cases z);exact qC _ (ih z)
 |case8 p q ih=>rw[z0a] at h;exact qC _ (ih h)
 |case9 p hne=>rw[show z0a p []=([],[]) by unfold z0a;split<;>simp_all] at h;cases h
 |case10 q h1 h2=>rw[show z0a [] q=([],[]) by unfold z0a;split<;>simp_all] at h;cases h
theorem y9W(p q:List DU)(hp:∀e,DU.A e∉p){x:Elem}(h:DU.A x∈z0g p q):DU.A x∈q:=by
 induction p,q using z0g.induct with
 |case1 q p ih=>rw[z0g] at h;rcases qj.1 h with z|z;(cases z);exact ih (fun e y=>hp e (qC _ y)) z
 |case2 p e q hne ih=>
  rw[z0g] at h
  rotate_left
  ·exact hne
  rcases qj.1 h with z|z;(rw[z];simp);exact qC _ (ih hp z)
 |case3 c p d q ih=>rw[z0g] at h;rcases qj.1 h with z|z;(cases z);exact qC _ (ih (fun e y=>hp e (qC _ y)) z)
 |case4 c p q ih=>rw[z0g] at h;rcases qj.1 h with z|z;(cases z);exact qC _ (ih (fun e y=>hp e (qC _ y)) z)
 |case5 e p d q ih=>exact absurd (by simp) (hp e)
 |case6 e p q ih=>exact absurd (by simp) (hp e)
 |case7 p hne=>rw[show z0g p []=p by unfold z0g;split<;>simp_all] at h;exact absurd h (hp x)
 |case8 q h1 h2=>rw[show z0g [] q=[] by unfold z0g;split<;>simp_all] at h;cases h
theorem y5n(p q:List DU)(c d:List Attr)(hm:oldN p=oldN q):(z0a (p++[.K c]) (q++[.K d])).1=(z0a p q).1++[.K (fm wioG c d)]:=by
 have base:(z0a [.K c] [.K d]).1=[.K (fm wioG c d)]:=by rw[z0a,show z0a [] []=([],[]) by unfold z0a;rfl]
 induction p,q using z0a.induct with
 |case1 e p q ih=>rw[qg,z0a,z0a,ih (by simpa[oldN] using hm)];rfl
 |case2 e q ih=>
  have ih:=ih (by simpa[oldN] using hm)
  rw[zy] at ih
  rw[zy,qg,z0a,z0a,ih];rfl
 |case3 c' p e q ih=>
  have ih:=ih (by simpa[oldN] using hm)
  rw[qg] at ih
  rw[qg,qg,z0a,z0a,ih];rfl
 |case4 p e q ih=>
  have ih:=ih (by simpa[oldN] using hm)
  rw[qg] at ih
  rw[qg,qg,z0a,z0a,ih];rfl
 |case5 c' p d' q ih=>rw[qg,qg,z0a,z0a,ih (by simpa[oldN] using hm)];rfl
 |case6 c' p q ih=>rw[qg,qg,z0a,z0a,ih (by simpa[oldN] using hm)]
 |case7 p d' q ih=>rw[qg,qg,z0a,z0a,ih (by simpa[oldN] using hm)];rfl
 |case8 p q ih=>rw[qg,qg,z0a,z0a,ih (by simpa[oldN] using hm)]
 |case9 p hne=>
  cases p with
  |nil=>rw[show z0a [] []=([],[]) by unfold z0a;rfl];exact base
  |cons x p=>cases x<;>simp_all[oldN]
 |case10 q h1 h2=>
  cases q with
  |nil=>rw[show z0a [] []=([],[]) by unfold z0a;rfl];exact base
  |cons x q=>cases x<;>simp_all[oldN]
theorem y5o(p q:List DU)(c d:List Attr)(hm:newN p=oldN q)(ha:∀e,DU.A e∉p):z0g (p++[.K c]) (q++[.K d])=z0g p q++[.K (fm botG c d)]:=by
 have base:z0g [.K c] [.K d]=[.K (fm botG c d)]:=by rw[z0g,show z0g [] []=[] by unfold z0g;rfl]
 induction p,q using z0g.induct with
 |case1 q p ih=>rw[qg,z0g,z0g,ih (by simpa[newN] using hm) (fun e y=>ha e (qC _ y))];rfl
 |case2 p e q hne ih=>
  have ih:=ih (by simpa[oldN] using hm) ha
  rw[qg,z0g,z0g,ih]
  ·rfl
  ·exact hne
  ·intro p' hp
   cases p with
   |nil=>simp at hp
   |cons x p=>
    rw[qg] at hp
    injection hp with h1 h2
    subst h1
    exact hne _ rfl
 |case3 c' p d' q ih=>rw[qg,qg,z0g,z0g,ih (by simpa[newN,oldN] using hm) (fun e y=>ha e (qC _ y))];rfl
 |case4 c' p q ih=>rw[qg,qg,z0g,z0g,ih (by simpa[newN,oldN] using hm) (fun e y=>ha e (qC _ y))];rfl
 |case5 e p d' q ih=>exact absurd (by simp) (ha e)
 |case6 e p q ih=>exact absurd (by simp) (ha e)
 |case7 p hne=>
  cases p with
  |nil=>rw[show z0g [] []=[] by unfold z0g;rfl];exact base
  |cons x p=>cases x<;>simp_all[oldN,newN]
 |case8 q h1 h2=>
  cases q with
  |nil=>rw[show z0g [] []=[] by unfold z0g;rfl];exact base
  |cons x q=>cases x<;>simp_all[oldN,newN]
theorem y1Z(p q:List DU)(hm:oldN p=oldN q):oldN (z0a p q).1=newN q:=by
 induction p,q using z0a.induct with
 |case9 p hne=>
  rw[show z0a p []=([],[]) by unfold z0a;split<;>simp_all];rfl
 |case10 q h1 h2=>
  rw[show z0a [] q=([],[]) by unfold z0a;split<;>simp_all]
  cases q with
  |nil=>rfl
  |cons x q=>cases x<;>simp_all[oldN]
 |_=>rw[z0a];simp only[oldN,newN] at*;omega
theorem z7a(u:List DU)(c:List Attr):lastK (u++[.K c])=true:=by rw[z29 _ (by simp)];rfl
theorem y5p(f:List Elem)(pl:List Int)(au:ByteArray){k n:Nat}(h:k<=n):ersUs f pl au n=ersUs f pl au k++(List.range' k (n-k)).map (ersU f pl au):=by
 unfold ersUs
 rw[zo,zo,<-List.map_append,show n=k+(n-k) by omega,<-List.range'_append_1,zq,show k+(n-k)- k=n-k by omega]
theorem y5q{f:List Elem}{pl:List Int}{au:ByteArray}{l:List Nat}:∀e,DU.A e∉l.map (ersU f pl au):=fun e h=>by
 obtain⟨i,_,h⟩:=qy.1 h
 unfold ersU at h
 repeat' split at h
 all_goals cases h
theorem z4r{f:List Elem}{pl:List Int}{au:ByteArray}{n:Nat}:∀e,DU.A e∉ersUs f pl au n:=y5q
def ersG(f:List Elem)(pl:List Int)(au:ByteArray)(l:List Nat):List Elem:=
 (l.filter fun i:Nat=> !(pl.any (fun p=>p==(i:Int))&&(seq au mtB||seq (getA (f.getD i default).attrs addB 0) au))).map fun i:Nat=>if pl.any (fun p=>p==(i:Int))=true then chgE [⟨cutB,au⟩] (f.getD i default) else f.getD i default
theorem z9w{f g:List Elem}{pl:List Int}{au:ByteArray}{s n:Nat}(h:s+n=g.length)(hg:∀i,s<=i->i<g.length->g.getD i default=f.getD i default):
 z0i ((List.range' s n).map (ersU f pl au)) (g.drop s)=ersG f pl au (List.range' s n):=by
 have hk:=z9a (fun i:Nat=>pl.any (fun p=>p==(i:Int))&&(seq au mtB||seq (getA (f.getD i default).attrs addB 0) au)) (fun i:Nat=>if pl.any (fun p=>p==(i:Int))=true then[⟨cutB,au⟩] else[]) g n s h
 have e:(List.range' s n).map (ersU f pl au)=(List.range' s n).map fun i:Nat=>if(pl.any (fun p=>p==(i:Int))&&(seq au mtB||seq (getA (f.getD i default).attrs addB 0) au))=true then DU.C else .K (if pl.any (fun p=>p==(i:Int))=true then[⟨cutB,au⟩] else[]):=by
  refine zI fun i _=> ?_
  unfold ersU
  cases h1:pl.any (fun p=>p==(i:Int)) with
  |true=>cases h2:(seq au mtB||seq (getA (f.getD i default).attrs addB 0) au)<;>simp
  |false=>simp
 rw[e,hk]
 unfold ersG
 refine zI fun i hi=> ?_
 have hi:=zK.1 (zt.1 hi).1
 rw[hg i hi.1 (by omega)]
 split
 ·rfl
 ·exact z1J _
def typG(f:List Elem)(pl:List Int)(au:ByteArray)(k:Nat)(es:List Elem):List Elem:=ersG f pl au (List.range' 0 k)++(es.map (typE au)++ersG f pl au (List.range' k (f.length-k)))
theorem y2O{E1 E2:List DU}{es f1 f2:List Elem}(h1:oldN E1=f1.length):z0i (E1++(List.replicate es.length (.K [])++E2)) (f1++(es++f2))=z0i E1 f1++(es++z0i E2 f2):=by
 rw[z1C _ _ _ _ h1,z19,List.take_left,List.drop_left]
 congr 2
 rw[zI (g:=id) (fun x _=>z1J x),List.map_id]
theorem y5r(hU:UB U){f:List Elem}{pl:List Int}{au:ByteArray}{k:Nat}{es:List Elem}(hf:f.length<=1048576)(hn:∀x∈f,RU U x)(ha:AuB U au)(hk:k<f.length)(hl:es.length<=1048576)(he:∀x∈es,RU U x)(h0:∀x∈es,x.ref=0)
 (hlast:pl.any (fun p=>p==((f.length- 1:Nat):Int))=false):
 ∃us,DU_ U (joinD (ersD f pl au) (z0R (typD f.length k es au) (ersD f pl au))) us/\oldN us=f.length/\lastK us=true/\(∀t∈joinD (ersD f pl au) (z0R (typD f.length k es au) (ersD f pl au)),∀x∈t.elems,x.ref=0)/\z0i us f=typG f pl au k es:=by
 obtain⟨_,T⟩:=y0k hU.len (n:=f.length) (k:=(k:Int)) (es:=es) (au:=au) (by omega) (by omega) (by omega) (z9o hU ha) he
 obtain⟨_,E⟩:=y0l hU.len (f:=f) (pl:=pl) (au:=au) (by omega) (y46 hU ha)
 rw[show(k:Int).toNat=k by omega] at T
 have tf:=z1H (n:=f.length) (k:=k) (es:=es) (au:=au) (by omega)
 have ef:=z2a f pl au f.length
 have tl:=T.lens
 have el:=E.lens
 obtain⟨P,p1,p2⟩:=z6q hU.len T E (by omega) (by omega)
 obtain⟨J,j1,j2⟩:=z72 hU.len E P p1.symm
 have nC:DU.C∉typUs f.length k es au:=fun h=>by
  unfold typUs at h
  rcases qm.1 h with h|h
  ·cases qV h
  ·rcases qm.1 h with h|h
   ·obtain⟨_,_,h⟩:=qy.1 h;cases h
   ·cases qV h
 have eT:exD (typD f.length k es au)=typUs f.length k es au:=(z6v T.sw.symm (.inr nC)).symm
 have eE:exD (ersD f pl au)=ersUs f pl au f.length:=(z6v E.sw.symm (.inl z4r)).symm
 rw[eT,eE] at P
 have eP:exD (z0R (typD f.length k es au) (ersD f pl au))=(z0a (typUs f.length k es au) (ersUs f pl au f.length)).1:=(z6v P.sw.symm (.inr (y5m _ _ nC))).symm
 rw[eE,eP] at J
 have hE:ersUs f pl au f.length=ersUs f pl au (f.length- 1)++[.K []]:=by
  rw[y5p f pl au (show f.length- 1<=f.length by omega),show f.length- (f.length- 1)=1 by omega]
  congr 1
  show[ersU f pl au (f.length- 1)]=_
  unfold ersU;rw[if_neg (by rw[hlast];decide)]
 have hT:typUs f.length k es au=typUs (f.length- 1) k es au++[.K []]:=by
  unfold typUs
  rw[show f.length-k=(f.length- 1-k)+1 by omega,List.replicate_succ',qN,qN]
 have tf':=z1H (n:=f.length- 1) (k:=k) (es:=es) (au:=au) (by omega)
 have ef':=z2a f pl au (f.length- 1)
 have hq:(z0a (typUs f.length k es au) (ersUs f pl au f.length)).1=(z0a (typUs (f.length- 1) k es au) (ersUs f pl au (f.length- 1))).1++[.K (fm wioG [] [])]:=by
  rw[hT,hE,y5n _ _ _ _ (by omega)]
 refine⟨_,J,?_,?_,fun t ht x hx=> ?_,?_⟩
 ·have:=J.lens;omega
 ·rw[hq,hE,y5o _ _ _ _ (by rw[y1Z _ _ (by omega)]) z4r];exact z7a _ _
 ·have hA:DU.A x∈exD (joinD (ersD f pl au) (z0R (typD f.length k es au) (ersD f pl au))):=z9v ht (by
   rcases J.v.1.all t ht with q| ⟨_,e,_⟩
   ·exact q.1
   ·rw[e] at hx;cases hx) hx
  have h1:=y81 _ _ (y9W _ _ z4r ((z4I J.sw _).1 hA))
  unfold typUs at h1
  rcases qm.1 h1 with h1|h1
  ·cases qV h1
  ·rcases qm.1 h1 with h1|h1
   ·obtain⟨y,hy,h1⟩:=qy.1 h1
    cases h1
    obtain⟨z,hz,rfl⟩:=qy.1 hy
    exact h0 z hz
   ·cases qV h1
 ·have vf:∀x∈f,VG false x.attrs:=fun x hx=>(hn x hx).2.g
  have okE:UOk (ersUs f pl au f.length):=z69 E.all
  have okT:UOk (typUs f.length k es au):=z69 T.all
  have okP:UOk (z0a (typUs f.length k es au) (ersUs f pl au f.length)).1:=z69 P.all
  rw[z08 _ _ _ f (qr _) ef.1 (by rw[y1Z _ _ (by omega)]) okE okP vf,<-(z0M _ _ _ f (qr _) tf.1 ef.1 okT okE vf).1]
  have a1:z0i (typUs f.length k es au) f=f.take k++(es.map (typE au)++f.drop k):=by
   unfold typUs
   rw[z19,z58,zI (g:=id) (fun x _=>z1J x),List.map_id]
   congr 2
   have:=z19 (f.length-k) [] [] (f.drop k)
   rw[qG] at this
   rw[this,zI (g:=id) (fun x _=>z1J x),List.map_id,qp (by rw[zr];omega)]
   simp[z0i]
  have b1:(z0a (typUs f.length k es au) (ersUs f pl au f.length)).2=ersUs f pl au k++(List.replicate (es.map (typE au)).length (.K [])++(List.range' k (f.length-k)).map (ersU f pl au)):=by
   have l1:(ersUs f pl au k).length=k:=by simp[ersUs]
   have l2:((List.range' k (f.length-k)).map (ersU f pl au)).length=f.length-k:=by simp
   rw[y5p f pl au (Nat.le_of_lt hk)]
   unfold typUs
   have:=z8c (ersUs f pl au k) ((es.map (typE au)).map .A++List.replicate (f.length-k) (.K [])) ((List.range' k (f.length-k)).map (ersU f pl au)) z4r
   rw[l1] at this
   rw[this,y5l]
   congr 2
   have:=z8c ((List.range' k (f.length-k)).map (ersU f pl au)) [] [] y5q
   rw[l2,qG,qG] at this
   rw[this,show z0a [] []=([],[]) by unfold z0a;rfl,qG]
  rw[a1,b1,y2O (by rw[(z2a f pl au k).1,qS];omega)]
  unfold typG
  congr 1
  ·have:=z9w (f:=f) (g:=f.take k) (pl:=pl) (au:=au) (s:=0) (n:=k) (by rw[qS];omega) (fun i _ hi=>by
    rw[qS] at hi
    rw[qc,List.getElem?_take_of_lt (by omega),<-List.getD_eq_getElem?_getD])
   rw[List.drop_zero] at this
   unfold ersUs
   rw[zo]
   exact this
  ·congr 1
   exact z9w (by omega) (fun i _ _=>rfl)
def visF(f:List Elem):List Elem:=(plcN f 0 f.length).map fun i=>f.getD i default
theorem z9x{q:Elem->Bool}{f:List Elem}:∀m,m<=f.length->((List.range m).filter fun i=>q (f.getD i default)).map (fun i=>f.getD i default)=(f.take m).filter q
 |0,_=>by simp
 |m+1,h=>by
  have e:f.getD m default=f[m]:=by rw[qc,qa (by omega)];rfl
  rw[zF,qW,qU,z9x m (by omega),qA (by omega),qW]
  congr 1
  rw[<-e]
  by_cases hq:q (f.getD m default)=true
  ·rw[jg (by exact hq),jg hq];rfl
  ·rw[List.filter_cons_of_neg (by exact hq),List.filter_cons_of_neg hq];rfl
theorem y82{f:List Elem}(h0:0<f.length)(hl:(f.getD (f.length- 1) default).char=10):visF f=(f.take (f.length- 1)).filter (fun x=> !(hidX x 0))++[f.getD (f.length- 1) default]:=by
 obtain⟨m,hm⟩:∃m,f.length=m+1:=⟨f.length- 1,by omega⟩
 have e1:f.length- 1=m:=by omega
 unfold visF plcN
 rw[e1,hm,zF,qW,qU]
 congr 1
 ·rw[<-z9x m (by omega)]
  congr 1
  refine List.filter_congr fun i hi=> ?_
  have hi:=zG.1 hi
  unfold visB
  rw[decide_eq_false (show¬(i:Int)=(f.length:Int)- 1 by omega),Bool.false_and,zE]
 ·rw[jg (z4J (.inr ⟨by omega,by rw[<-e1];exact hl⟩))];rfl
theorem y83{l:List Attr}{au:ByteArray}(h:VG false l)(ha:valGo au=true):gotA (fm rawG l [⟨cutB,au⟩]) cutB=true:=by
 have hc:VG true [⟨cutB,au⟩]:=⟨⟨(fun b hb=>by cases hb),trivial⟩,fun a h=>by
  rw[show a=⟨cutB,au⟩ by simpa using h]
  exact⟨(by decide+kernel:z1g cutB=true),.inl ha⟩⟩
 have hn:cutB≠mt:=by decide
 have hau:au≠mt:=fun e=>vp_mt (by rw[e] at ha;exact ha)
 unfold gotA
 rw[z7G,z1F np_mt z1p h hc cutB]
 have e:look [⟨cutB,au⟩] cutB=some au:=by unfold look;rw[if_pos rfl]
 have k:∀v,(rawG v ⟨cutB,au⟩).map (·.val)=some au:=fun v=>by unfold rawG;rw[if_neg hn,if_neg hau];rfl
 rw[e]
 have:at2 rawG cutB (look l cutB) (some au)=some au:=by
  cases look l cutB with
  |none=>exact k _
  |some v=>exact k _
 rw[this]
 show(!(seq au {data:=#[]}))=true
 rw[z1b.2 hau];rfl
theorem z8d{f:List Elem}{pl:List Int}{au:ByteArray}(hv:∀x∈f,VG false x.attrs)(ha:seq au mtB=false->valGo au=true):∀(l:List Nat),(∀i∈l,i<f.length)->
 (ersG f pl au l).filter (fun x=> !(hidX x 0))=(l.filter fun i:Nat=> !(pl.any fun p=>p==(i:Int))&& !(hidX (f.getD i default) 0)).map fun i=>f.getD i default
 | [],_=>rfl
 |i::l,h=>by
  have ih:=z8d (pl:=pl) hv ha l (fun j hj=>h j (qC _ hj))
  unfold ersG at ih|-
  rw[zO,zO]
  cases h1:pl.any (fun p=>p==(i:Int)) with
  |false=>
   simp only[Bool.false_and,Bool.not_false,Bool.true_and,if_true,qZ]
   rw[zO,ih]
   simp only[h1,qP,if_false]
   split<;>rfl
  |true=>
   simp only[Bool.true_and,Bool.not_true,Bool.false_and,qP,if_false]
   cases h2:(seq au mtB||seq (getA (f.getD i default).attrs addB 0) au) with
   |true=>simp only[Bool.not_true,qP,if_false];exact ih
   |false=>
    simp only[Bool.not_false,if_true,qZ]
    rw[h1,if_pos rfl,zO]
    have hx:=hv _ (z0h (h i (by simp)))
    have hau:seq au mtB=false:=by cases q:seq au mtB;rfl;rw[q] at h2;simp at h2
    have hc:hidX (chgE [⟨cutB,au⟩] (f.getD i default)) 0=true:=by
     unfold hidX
     have hg:gotA (fm rawG (f.getD i default).attrs [⟨cutB,au⟩]) cutB=true:=y83 hx (ha hau)
     show((seq (getA (chgE [⟨cutB,au⟩] (f.getD i default)).attrs hidB 0) onB|| (((0:Int)==0)&&gotA (fm rawG (f.getD i default).attrs [⟨cutB,au⟩]) cutB))||_)=true
     rw[hg];simp
    rw[hc]
    simp only[Bool.not_true,qP,if_false]
    exact ih
theorem z6w(f:List Elem){k:Nat}(h:k<=f.length):plcN f 0 f.length=(List.range k).filter (visB f 0)++(List.range' k (f.length-k)).filter (visB f 0):=by
 unfold plcN
 rw[<-List.filter_append]
 congr 1
 rw[zo,zo]
 conv=>lhs;rw[show f.length=k+(f.length-k) by omega]
 rw[<-List.range'_append_1,zq]
theorem y84{f:List Elem}{n i:Nat}(h:i< (plcN f 0 n).length):(plcL f 0 n).getD i default=(((plcN f 0 n)[i]:Nat):Int):=by
 unfold plcL
 rw[qc,q9,qa h];rfl
theorem y5s(f:List Elem)(n:Nat):(plcN f 0 n).Pairwise (·< ·):=List.Pairwise.filter _ List.pairwise_lt_range
theorem z1s(f:List Elem)(n:Nat):(plcL f 0 n).length=(plcN f 0 n).length:=by unfold plcL;rw[qk]
theorem z6x{f:List Elem}{a b:Int}(h:0<=a/\a<=b/\b< ((plcL f 0 f.length).length:Int)):
 0<=gapP (plcL f 0 f.length) a/\(gapP (plcL f 0 f.length) a).toNat<f.length/\((List.range (gapP (plcL f 0 f.length) a).toNat).filter (visB f 0)).length=a.toNat:=by
 have hl:=z1s f f.length
 have hs:=y5s f f.length
 have hm:∀x∈plcN f 0 f.length,x<f.length:=fun x hx=>zG.1 (zt.1 hx).1
 have hb:=hm _ (zp (show a.toNat< (plcN f 0 f.length).length by omega))
 by_cases h0:a=0
 ·subst h0
  have:gapP (plcL f 0 f.length) 0=0:=by unfold gapP;rw[if_pos rfl]
  rw[this]
  exact⟨by omega,by show 0<f.length;omega,by simp⟩
 ·have e:gapP (plcL f 0 f.length) a=(((plcN f 0 f.length)[a.toNat- 1]'(by omega):Nat):Int)+1:=by
   unfold gapP
   rw[if_neg h0,show(a- 1).toNat=a.toNat- 1 by omega,y84 (by omega)]
  have hlt:=List.pairwise_iff_getElem.1 hs (a.toNat- 1) a.toNat (by omega) (by omega) (by omega)
  generalize hz:(plcN f 0 f.length)[a.toNat- 1]'(by omega)=z at e hlt
  rw[e,show((z:Int)+1).toNat=z+1 by omega]
  refine⟨by omega,by omega,?_⟩
  have sp:=z6w f (show z+1<=f.length by omega)
  generalize hA:(List.range (z+1)).filter (visB f 0)=A at sp
  generalize hB:(List.range' (z+1) (f.length- (z+1))).filter (visB f 0)=B at sp
  have mA:∀x∈A,x<z+1:=fun x hx=>by rw[<-hA] at hx;exact zG.1 (zt.1 hx).1
  have mB:∀x∈B,z+1<=x:=fun x hx=>by rw[<-hB] at hx;exact(zK.1 (zt.1 hx).1).1
  have hlen:(plcN f 0 f.length).length=A.length+B.length:=by rw[sp,qf]
  rcases Nat.lt_trichotomy A.length a.toNat with q|q|q
  ·have:(plcN f 0 f.length)[a.toNat- 1]'(by omega)=B[a.toNat- 1-A.length]'(by omega):=by
    simp only[sp]
    rw[List.getElem_append_right (by omega)]
   have:=mB _ (zp (show a.toNat- 1-A.length<B.length by omega))
   omega
  ·exact q
  ·have:(plcN f 0 f.length)[a.toNat]'(by omega)=A[a.toNat]'q:=by
    simp only[sp]
    rw[List.getElem_append_left q]
   have:=mA _ (zp q)
   omega
theorem y6R{B:List Nat}(hd:B.Nodup)(m:Nat){q:Nat->Bool}(hq:∀x∈B,q x=true↔x∉B.take m):B.filter q=B.drop m:=by
 have hp:(B.take m++B.drop m).Nodup:=by rw[zJ];exact hd
 rw[List.nodup_append] at hp
 conv=>lhs;rw[<-List.take_append_drop m B]
 rw[qW]
 have e1:(B.take m).filter q=[]:=by
  rw[List.filter_eq_nil_iff]
  intro x hx hx2
  exact(hq x (qK hx)).1 hx2 hx
 have e2:(B.drop m).filter q=B.drop m:=by
  rw[List.filter_eq_self]
  intro x hx
  exact(hq x (qT hx)).2 (fun z=>hp.2.2 x z x hx rfl)
 rw[e1,e2,zy]
theorem y6S(f:List Elem)(pl:List Int)(au:ByteArray)(l1 l2:List Nat):ersG f pl au (l1++l2)=ersG f pl au l1++ersG f pl au l2:=by
 unfold ersG;rw[qW,qU]
theorem y85{f:List Elem}{a b:Int}{au:ByteArray}{es:List Elem}(hf:FX U f)(ha:seq au mtB=false->valGo au=true)(h:0<=a/\a<=b/\b< ((plcL f 0 f.length).length:Int))(he:∀x∈es,hidX (typE au x) 0=false):
 (((plcL f 0 f.length).take b.toNat).drop a.toNat).any (fun p=>p==((f.length- 1:Nat):Int))=false/\
 visF (typG f (((plcL f 0 f.length).take b.toNat).drop a.toNat) au (gapP (plcL f 0 f.length) a).toNat es)=(visF f).take a.toNat++(es.map (typE au)++(visF f).drop b.toNat):=by
 obtain⟨g0,g1,g2⟩:=z6x h
 generalize hk:(gapP (plcL f 0 f.length) a).toNat=k at g1 g2
 have hl:=z1s f f.length
 have hlt:=y5s f f.length
 have hpos:=hf.pos
 have hv:∀x∈f,VG false x.attrs:=fun x hx=>(hf.ru x hx).2.g
 have sp:=z6w f (Nat.le_of_lt g1)
 have hr:List.range' k (f.length-k)=List.range' k (f.length- 1-k)++[f.length- 1]:=by
  rw[show f.length-k=(f.length- 1-k)+1 by omega,List.range'_concat]
  simp only[Nat.one_mul]
  rw[show k+(f.length- 1-k)=f.length- 1 by omega]
 have hvl:visB f 0 (f.length- 1)=true:=z4J (.inr ⟨by omega,hf.last⟩)
 rw[hr,qW,show[f.length- 1].filter (visB f 0)=[f.length- 1] by rw[jg hvl];rfl] at sp
 generalize hA:(List.range k).filter (visB f 0)=A at sp g2
 generalize hB:(List.range' k (f.length- 1-k)).filter (visB f 0)=B at sp
 have hlen:(plcN f 0 f.length).length=A.length+(B.length+1):=by rw[sp,qf,qf];rfl
 have mA:∀x∈A,x<k:=fun x hx=>by rw[<-hA] at hx;exact zG.1 (zt.1 hx).1
 have mB:∀x∈B,k<=x/\x<f.length- 1:=fun x hx=>by
  rw[<-hB] at hx
  have:=zK.1 (zt.1 hx).1
  omega
 have ndB:B.Nodup:=by
  rw[sp] at hlt
  have:=(List.pairwise_append.1 (List.pairwise_append.1 hlt).2.1).1
  exact this.imp (fun h=>Nat.ne_of_lt h)
 have hpl:((plcL f 0 f.length).take b.toNat).drop a.toNat=(B.take (b.toNat-a.toNat)).map fun i:Nat=>(i:Int):=by
  unfold plcL
  rw[<-List.map_take,<-List.map_drop,sp,List.take_append,List.drop_append,g2]
  congr 1
  rw[show A.take b.toNat=A from qp (by omega),qL (by omega),zy,List.take_append,g2,Nat.sub_self,List.drop_zero,show(b.toNat-a.toNat)- B.length=0 by omega,List.take_zero,qG]
 have any_iff:∀i:Nat,((((plcL f 0 f.length).take b.toNat).drop a.toNat).any fun p=>p==(i:Int))=true↔i∈B.take (b.toNat-a.toNat):=fun i=>by
  rw[hpl,List.any_eq_true]
  constructor
  ·rintro⟨x,hx,e⟩
   obtain⟨j,hj,rfl⟩:=qy.1 hx
   rw[beq_iff_eq] at e
   have:j=i:=by omega
   rw[<-this];exact hj
  ·intro hi
   exact⟨(i:Int),qy.2 ⟨i,hi,rfl⟩,by simp⟩
 generalize((plcL f 0 f.length).take b.toNat).drop a.toNat=pl at any_iff
 have nolast:pl.any (fun p=>p==((f.length- 1:Nat):Int))=false:=by
  apply qd;intro q
  have:=(any_iff _).1 (by simpa using q)
  have:=(mB _ (qK this)).2
  omega
 refine⟨nolast,?_⟩
 have hvis:∀i,i<f.length- 1->visB f 0 i=!(hidX (f.getD i default) 0):=fun i hi=>by
  unfold visB
  rw[decide_eq_false (show¬(i:Int)=(f.length:Int)- 1 by omega),Bool.false_and,zE]
 have eL:ersG f pl au [f.length- 1]=[f.getD (f.length- 1) default]:=by
  unfold ersG
  rw[jg (by rw[nolast];rfl)]
  simp only[List.filter_nil,qZ,zW]
  rw[nolast,if_neg (by decide)]
 have eg:typG f pl au k es=(ersG f pl au (List.range' 0 k)++(es.map (typE au)++ersG f pl au (List.range' k (f.length- 1-k))))++[f.getD (f.length- 1) default]:=by
  unfold typG
  rw[hr,y6S,eL];simp only[qN]
 have ev:visF f=A.map (fun i=>f.getD i default)++(B.map (fun i=>f.getD i default)++[f.getD (f.length- 1) default]):=by
  unfold visF
  rw[sp,qU,qU];rfl
 rw[eg,y82 (by rw[qf,zS];omega) (by rw[z4o (by simp)];exact hf.last),z4o (by simp)]
 rw[qf,zS,Nat.add_sub_cancel,List.take_left,qW,qW]
 have c1:(ersG f pl au (List.range' 0 k)).filter (fun x=> !(hidX x 0))=A.map fun i=>f.getD i default:=by
  rw[z8d hv ha _ (fun i hi=>by have:=zK.1 hi;omega),<-hA,zo]
  congr 1
  refine List.filter_congr fun i hi=> ?_
  have hi:=zK.1 hi
  rw[hvis i (by omega)]
  have:pl.any (fun p=>p==(i:Int))=false:=by
   apply qd;intro q
   have:=(any_iff _).1 (by simpa using q)
   have:=(mB _ (qK this)).1
   omega
  rw[this];rfl
 have c2:(es.map (typE au)).filter (fun x=> !(hidX x 0))=es.map (typE au):=by
  rw[List.filter_eq_self]
  intro x hx
  obtain⟨y,hy,rfl⟩:=qy.1 hx
  rw[he y hy];rfl
 have c3:(ersG f pl au (List.range' k (f.length- 1-k))).filter (fun x=> !(hidX x 0))=(B.drop (b.toNat-a.toNat)).map fun i=>f.getD i default:=by
  rw[z8d hv ha _ (fun i hi=>by have:=zK.1 hi;omega)]
  congr 1
  rw[<-y6R ndB (b.toNat-a.toNat) (q:=fun i:Nat=> !(pl.any fun p=>p==(i:Int))) (fun x hx=>by
   rw[<-any_iff x];show(!(pl.any fun p=>p==(x:Int)))=true↔¬((pl.any fun p=>p==(x:Int))=true);cases(pl.any fun p=>p==(x:Int))<;>simp),<-hB,List.filter_filter]
  refine List.filter_congr fun i hi=> ?_
  have hi:=zK.1 hi
  rw[hvis i (by omega)]
 rw[c1,c2,c3,ev]
 have lA:(A.map fun i=>f.getD i default).length=a.toNat:=by rw[qk];exact g2
 rw[show a.toNat=(A.map fun i=>f.getD i default).length from lA.symm]
 rw[List.take_left,List.drop_append,qL (show(A.map fun i=>f.getD i default).length<=b.toNat by omega),zy,List.drop_append,<-List.map_drop,lA]
 rw[show b.toNat-a.toNat- (B.map fun i=>f.getD i default).length=0 by rw[qk];omega,List.drop_zero]
 simp only[qN]
 rfl
end Go.Ch
end
section
namespace Go.Ch
open Go Go.Ab
variable {U:US}
theorem z5A{l:List Attr}{n:ByteArray}(h:∀a∈l,seq a.name n=false):look l n=none:=by
 rw[<-z9b]
 unfold hasA
 apply qd;intro q
 have q:l.any (fun a=>seq a.name n)=true:=by simpa using q
 obtain⟨a,ha,q⟩:=List.any_eq_true.1 q
 rw[h a ha] at q;cases q
theorem y86{n:ByteArray}(h:sprB n=true):seq n hidB=false:=by
 cases q:seq n hidB with
 |false=>rfl
 |true=>rw[z0z.1 q] at h;exact absurd h (by decide+kernel)
theorem y87{n:ByteArray}(h:btwB n=true):seq n hidB=false:=by
 cases q:seq n hidB with
 |false=>rfl
 |true=>rw[z0z.1 q] at h;exact absurd h (by decide+kernel)
theorem y10{r:Elem}{k:Int}:∀{l o:List Attr},VU U false o->(∀a∈l,VU U true [a])->look o hidB=none->look (inhO r k o l) hidB=none
 | [],o,_,_,h=>h
 |a::l,o,ho,hl,h=>by
  show look (inhO r k (if inhG r k a=true then fm rawG o [a] else o) l) hidB=none
  have ha:=hl a (by simp)
  have h1:VU U false (if inhG r k a=true then fm rawG o [a] else o):=by
   split
   ·exact raw_V nu_mt ho ha
   ·exact ho
  refine y10 h1 (fun b hb=>hl b (by simp[hb])) ?_
  ·split
   ·rename_i q
    have hb:btwB a.name=true:=by
     unfold inhG at q
     rw[qn,qn] at q;exact q.1.1
    rw[z1F np_mt z1p ho.g ha.g hidB,h,z5A (l:=[a]) (fun b hb'=>by rw[qw] at hb';subst hb';exact y87 hb)]
    rfl
   ·exact h
theorem y6T{p:Pl}(hp:PlB p)(hn:∀x∈p.node.flow,RU U x)(k:Int):look (inhP p k) hidB=none:=by
 unfold inhP
 have h1:=z4k hp hn (k- 1)
 have h2:VU U false (inhB p k):=by
  unfold inhB
  split
  ·refine V.filt ?_
   unfold inhF;split
   ·exact(z4k hp hn k).2
   ·exact h1.2
  ·exact VU.nil
 refine y10 h2 (fun a ha=>h1.2.one ha) ?_
 ·unfold inhB
  split
  ·exact z5A (fun a ha=>y86 (zt.1 ha).2)
  ·rfl
theorem y6U(p:Pl)(k:Nat):look (endP p k) hidB=none:=by
 refine z5A (fun a ha=> ?_)
 have h:=(zt.1 ha).2
 cases q:seq a.name hidB with
 |false=>rfl
 |true=>
  unfold endG at h
  rw[z0z.1 q] at h
  exact absurd h (by decide+kernel)
theorem z9y{au:ByteArray}{x:Elem}(hx:VG false x.attrs)(ha:VG true [⟨addB,au⟩,⟨cutB,mtB⟩])(h:look x.attrs hidB=none):hidX (typE au x) 0=false:=by
 have l1:look (fm rawG x.attrs [⟨addB,au⟩,⟨cutB,mtB⟩]) hidB=none:=by
  rw[z1F np_mt z1p hx ha hidB,h,z5A (l:=[⟨addB,au⟩,⟨cutB,mtB⟩]) (fun b hb=>by
   simp only[qj,qX,or_false] at hb
   rcases hb with rfl|rfl
   ·exact(by decide+kernel:seq addB hidB=false)
   ·exact(by decide+kernel:seq cutB hidB=false))]
  rfl
 have l2:look (fm rawG x.attrs [⟨addB,au⟩,⟨cutB,mtB⟩]) cutB=none:=by
  rw[z1F np_mt z1p hx ha cutB]
  have e:look [⟨addB,au⟩,⟨cutB,mtB⟩] cutB=some mtB:=by
   unfold look;rw[if_neg (show¬addB=cutB by decide)]
   unfold look;rw[if_pos rfl]
  have k:∀v:Attr,(rawG v ⟨cutB,mtB⟩).map (·.val)=none:=fun v=>by unfold rawG;rw[if_neg (show¬cutB=mt by decide),if_pos (show mtB=mt from rfl)];rfl
  rw[e]
  cases look x.attrs cutB with
  |none=>exact k default
  |some v=>exact k ⟨cutB,v⟩
 unfold hidX gotA typE
 simp only
 rw[z7G,z7G,l1,l2,show seq ((none:Option ByteArray).getD mt) onB=false by decide+kernel,show seq ((none:Option ByteArray).getD mt) {data:=#[]}=true by decide+kernel]
 rfl
theorem z7b{p:Pl}(hp:PlB p)(hn:∀x∈p.node.flow,RU U x){s:Sel}{cs:List Int}:∀x∈typEl p s cs,look x.attrs hidB=none/\x.ref=0:=by
 intro x hx
 unfold typEl at hx
 obtain⟨y,hy,rfl⟩:=qy.1 hx
 obtain⟨c,hc',rfl⟩:=qy.1 hy
 unfold typX mkE
 split
 ·exact⟨y6U _ _,rfl⟩
 ·exact⟨y6T hp hn _,rfl⟩
theorem y0s(p:Pl)(s:Sel)(cs:List Int):(typEl p s cs).map (·.char)=cs:=by
 unfold typEl
 rw[List.map_map,List.map_map]
 conv=>rhs;rw[<-List.map_id cs]
 refine zI fun c _=> ?_
 show(typX p s (mkE _ c)).char=c
 unfold typX;split<;>rfl
theorem y5t{c:Int}(h:CharP c):c≠0:=by unfold CharP at h;omega
theorem y6V{d:Doc}(x1:DX (⟨UC++[],[]⟩:US) d)(a b:Int)(cs:List Int)(au:ByteArray){f:List Elem}(hf:(ndN d.nodes 2).flow=f){P:List Int}(hP:plcL f 0 f.length=P)(h:0<=a/\a<=b/\b< (P.length:Int))
 (hau:seq au mtB=true\/valGo au=true) (hc:∀c∈cs,CharP c) (hl:cs.length<=1000000):
 atE d ⟨2,a,b⟩ au=0/\TypB d ⟨2,a,b⟩ cs au/\AppB d (typeO d ⟨2,a,b⟩ cs au)/\appE d (typeO d ⟨2,a,b⟩ cs au)=0/\typeS d ⟨2,a,b⟩ cs au=⟨2,a+cs.length,a+cs.length⟩/\
 ∃es g,(nodeF (appD d (typeO d ⟨2,a,b⟩ cs au)) 2).flow=g/\es.map (fun x:Elem=>(x.char,x.ref))=cs.map (fun c=>(c,(0:Int)))/\shwR g g.length=plcL g 0 g.length/\g.length<=f.length+cs.length/\
  (∀x∈g,RU (⟨UC++[],[]⟩:US) x)/\appD d (typeO d ⟨2,a,b⟩ cs au)=putF d g/\visF g=(visF f).take a.toNat++(es++(visF f).drop b.toNat):=by
 have hN:=z9u [] (by simp) [] (fun v hv=>by cases hv)
 have hU:=hN.toUB
 obtain⟨g1,g2⟩:=x1.flow
 obtain⟨n1,n2,n3,n4,n5⟩:=x1.nd
 rw[hf] at g1 g2
 have hAu:AuB (⟨UC++[],[]⟩:US) au:=⟨hau,by simp⟩
 obtain⟨t1,t2⟩:=x1.at (au:=au) (by rw[hf,hP];exact h) hau
 obtain⟨p1,p2,p3,p4,p5⟩:=z1K hU x1.pp (by omega) (by simp) t1
 have hcs:∀c∈cs,CharP c/\c≠0:=fun c hc'=>⟨hc c hc',y5t (hc c hc')⟩
 have he:=z4l p1 p3 (s:=⟨2,a,b⟩) hcs
 have hsn:=z7b p1 p3 (s:=⟨2,a,b⟩) (cs:=cs)
 have hlen:(typEl (atP d ⟨2,a,b⟩ au) ⟨2,a,b⟩ cs).length=cs.length:=z2b _ _ _
 have hi:=z4K p1 p3 a
 have hS:=(z6r hU (s:=⟨2,a,b⟩) (es:=typEl (atP d ⟨2,a,b⟩ au) ⟨2,a,b⟩ cs) p1 p2 p3 p4 p5 (by omega) he).1
 have hT:TypB d ⟨2,a,b⟩ cs au:=⟨p1,z07.2 hi.g,by have:=hi.len hU.len;show(inhP _ a).length<=_;omega,p5,hS⟩
 generalize hes:typEl (atP d ⟨2,a,b⟩ au) ⟨2,a,b⟩ cs=es at he hsn hlen
 have hg:=z6x (f:=f) (a:=a) (b:=b) (by rw[hP];exact h)
 rw[hP] at hg
 obtain⟨k0,k1,k2⟩:=hg
 have hx:=y85 (f:=f) (a:=a) (b:=b) (au:=au) (es:=es) g1 (fun q=>hau.resolve_left (by rw[q];decide)) (by rw[hP];exact h) (fun x hx=>z9y (he x hx).2.g (z9o hU hAu).g (hsn x hx).1)
 rw[hP] at hx
 obtain⟨us,s1,s2,s3,s4,s5⟩:=y5r hU (f:=f) (pl:=(P.take b.toNat).drop a.toNat) (au:=au) (k:=(gapP P a).toNat) (es:=es) (by omega) g1.ru hAu k1 (by omega) he (fun x hx=>(hsn x hx).2) hx.1
 rw[zQ k0] at s1 s4
 have e1:=(z9e (cs:=cs) t1).1
 have e2:=(z9e (cs:=cs) t1).2
 have e3:stpP (atP d ⟨2,a,b⟩ au) ⟨2,a,b⟩ es=joinD (ersD f ((P.take b.toNat).drop a.toNat) au) (z0R (typD f.length (gapP P a) es au) (ersD f ((P.take b.toNat).drop a.toNat) au)):=by
  rw[t2,hf,hP];unfold stpP ersP typP;simp only[hf]
 rw[hes] at e1 e2
 rw[e3] at e1
 have r:=x1.op hU x1.pp s1 (by rw[hf];exact s2) s3 s4
 rw[hf] at r
 have hru:∀x∈z0i us f,RU _ x:=z1y us f s1.all g1.ru
 have e:=z2E us f s2
 have l1:=s1.lens
 have l2:=(z6r hU (s:=⟨2,a,b⟩) (es:=es) p1 p2 p3 p4 p5 (by omega) he).2.2.2
 rw[e3,t2] at l2
 simp only[hf] at l2
 refine⟨t1,hT,by rw[e1];exact r.1,by rw[e1];exact r.2.1,by rw[e2];unfold selP;rw[hlen],es.map (typE au),z0i us f,?_,?_,?_,?_,hru,?_,by rw[s5];exact hx.2⟩
 ·rw[e1,r.2.2,(y5j x1 _).1]
 ·have:=y0s (atP d ⟨2,a,b⟩ au) ⟨2,a,b⟩ cs
  rw[hes] at this
  rw[<-this,List.map_map,List.map_map]
  refine zI fun x hx=> ?_
  show(x.char,x.ref)=(x.char,0)
  rw[(hsn x hx).2]
 ·exact y5h fun x hx=>(hru x hx).2.g
 ·omega
 ·rw[e1,r.2.2]
def visR(f:List Elem):List Elem:=(shwR f f.length).map fun i=>f.getD i.toNat default
theorem y88{f:List Elem}(h:shwR f f.length=plcL f 0 f.length):visR f=visF f:=by
 unfold visR visF
 rw[h]
 unfold plcL
 rw[List.map_map]
 rfl
end Go.Ch
end
section
set_option maxRecDepth 100000
set_option maxHeartbeats 4000000
open Go Go.Proofs Go.Ab
namespace Go.Ch
theorem y89(f:List Elem)(hf:f.length<=1048576)(hp:∀x∈shwR f f.length,0<=x/\x< (f.length:Int)):FC Tryz.prog 9 [VL 3 elemT f] (app emp []) (VL 3 elemT (visR f)) (app emp []):=by
 refine .go Tryz.f9 ?_
 refine .len 0 (fun hl0=> ?_)
 have hsl:=z5s f f.length
 refine .loop (α:=Nat×(List Elem)) [.r [],.r [],.r [(1,X (Xc1 24 (z9l f (by omega)) X0))],.r [(1,X (Xl intT (shwR f (f).length)))],.le (.nR 3 3)] 65 (fun(i,o)=>([(0,VL 3 elemT f),(3,.row 64 o.length),(4,VL 1 intT (shwR f (f).length)),(9,VI ((shwR f (f).length).length:Int)),(10,VI (i:Int))],[(64,OR 3 elemT o)])) (fun(i,o)=>i<=(shwR f f.length).length/\o=((shwR f f.length).take i).map fun j=>f.getD j.toNat default) (fun(i,o)=>(shwR f f.length).length-i) (0,[]) ?_ ?_
 ·
  exact⟨by omega,rfl⟩
 rintro⟨i,o⟩ I4 ih4
 try dsimp only at I4
 have ol:o.length=i:=by rw[I4.2];simp;omega
 refine .bp [.r []] (decide ((i:Int)< ((shwR f (f).length).length:Int))) (fun h4=> ?_) (fun h4=> ?_)
 ·
  have hx:=hp _ (z0h (l:=shwR f f.length) (i:=i) (by omega))
  refine .back [.r [],.r [(4,X (Xi intT (shwR f (f).length) (i:Int))),(6,X (Xi elemT f ((shwR f (f).length).getD i default))),(9,X (rowC elemT [((f.getD (Int.toNat ((shwR f (f).length).getD i default)) default))] (Xap 3 elemT 64 o [((f.getD (Int.toNat ((shwR f (f).length).getD i default)) default))])))],.r [(0,X (Xn ((i:Int)+1)))]] [(64,64)] (ih4 ((i+1),(o++[((f.getD (Int.toNat ((shwR f (f).length).getD i default)) default))])) ?_ ?_)
  ·
   refine⟨by omega,?_⟩
   rw[I4.2,qA (by omega),qU]
   simp[List.getD,qa (show i< (shwR f f.length).length by omega)]
  ·
   ((try dsimp only);omega)
 ·
  have e1:((visR f):List Elem)=o:=by
   rw[I4.2,qp (by omega)];rfl
  exact .finE [.r [],.le (.fr 2 [(o.length:Nat)=(List.map elemT o).length] ⟨lm,trivial⟩)] [] (fun z0:List Elem=>(VL 3 elemT z0,[])) _ _ e1
theorem y6W(d:Doc)(s:Sel)(t:ByteArray)(cs:List Int)(au:ByteArray)(hof:OfFC t cs)(hb:DocL d)(ht:t.size<=20000)(hx:atE d s au=0->TypB d s cs au){o:List EOp}{S:Sel}(ho:typeO d s cs au=o)(hS:typeS d s cs au=S)(h0:atE d s au=0):FC Tryz.prog 12 [.t (docT d),.t (selT s),VS t,VS au] (app emp []) (.tup [VL 19 eopT o,.t (selT S),VI 0]) (app emp []):=by
 have:=y0c d s t cs au hof hb ht hx
 rw[ho,hS,h0] at this;exact this
theorem y9a(f:List Elem)(hf:f.length<=1048576)(hp:∀x∈shwR f f.length,0<=x/\x< (f.length:Int)){v:List Elem}(h:visR f=v):FC Tryz.prog 9 [VL 3 elemT f] (app emp []) (VL 3 elemT v) (app emp []):=h▸y89 f hf hp
end Go.Ch
end
section
namespace Go.Ch
open Go Go.Ab
variable {U:US}
end Go.Ch
end
section
namespace Go.Ch
open Go Go.Ab
variable {U:US}
end Go.Ch
end
section
set_option maxRecDepth 100000
set_option maxHeartbeats 4000000
open Go Go.Proofs Go.Ab
namespace Go.Ch
theorem y5u(raw:List Int)(G:Nat->Doc->Prop)(hI:GInv 0 G)(hg:G 0 baseD){d:Doc}(h:z1B 0 raw baseD 0=d):FC Tryz.prog 7 [VL 1 intT raw] (app emp []) (.t (docT d)) (app emp []):=h▸y6H raw G hI hg
theorem y6X(d:Doc)(hb:DocL d){n:Node}(h:nodeF d 2=n)(h2:nodeH d 2=true):FC Tryz.prog 8 [.t (docT d),VI 2] (app emp []) (.tup [.t (nodeT n),VB true]) (app emp []):=h▸h2▸y0g d 2 hb
theorem z7c(x lo hi:Int)(hl: -1000000000000<=lo/\lo<=hi/\hi<=1000000000000){z:Int}(h:z0c x lo hi=z):FC Tryz.prog 10 [VI x,VI lo,VI hi] (app emp []) (VI z) (app emp []):=h▸z0x x lo hi hl
theorem y5v(d:Doc)(c:List EOp)(hb:AppB d c){d2:Doc}(h:appD d c=d2)(h0:appE d c=0):FC Tryz.prog 13 [.t (docT d),VL 19 eopT c] (app emp []) (.tup [.t (docT d2),VI 0]) (app emp []):=by
 have:=z5u d c hb
 rw[h,h0] at this;exact this
end Go.Ch
end
section
namespace Go.Ch
open Go Go.Ab
theorem y9b(f:List Elem):(visF f).length=(plcL f 0 f.length).length:=by unfold visF;rw[qk,z1s]
theorem ofL_l{t:ByteArray}{l:List Attr}(h:(ofR t).2=0):(ofL t l).length=(ofR t).1.length:=by unfold ofL;rw[if_pos h,qk]
end Go.Ch
end
section
set_option maxRecDepth 100000
set_option maxHeartbeats 4000000
open Go Go.Proofs Go.Ab
namespace Go.Ch

end Go.Ch
end
section
namespace Go.Ch
open Go Go.Ab
def axPut(o:List AxStep)(s:DStep):List AxStep:=
 if s.kind=0/\0<o.length/\(o.getD (o.length- 1) default).kind=0 then o.set (o.length- 1) ⟨(o.getD (o.length- 1) default).kind,(o.getD (o.length- 1) default).n+s.n⟩ else o++[⟨s.kind,szD s⟩]
def axF(o:List AxStep):List DStep->List AxStep
 | []=>o
 |s::l=>axF (axPut o s) l
def axD(d:List DStep):List AxStep:=axF [] d
theorem y9X{d:List DStep}{i:Nat}(h:i<d.length)(o:List AxStep):axF o (d.drop i)=axF (axPut o (d.getD i default)) (d.drop (i+1)):=by rw[dropD h,axF]
theorem y9c{d:List DStep}{i:Nat}(h:d.length<=i)(o:List AxStep):axF o (d.drop i)=o:=by rw[qL h,axF]
def forg:DU->U
 | .K _=> .K
 | .A _=> .A
 | .C=> .C
theorem y5w{α:Type}[Inhabited α]{o:List α}(h:0<o.length):∃o',o=o'++[o.getD (o.length- 1) default]:=by
 refine⟨o.dropLast,?_⟩
 have hne:o≠[]:=by intro e;rw[e] at h;simp at h
 have:=List.dropLast_concat_getLast hne
 rw[List.getLast_eq_getElem] at this
 rw[show o.getD (o.length- 1) default=o[o.length- 1]'(by omega) by simp[List.getD,qa (show o.length- 1<o.length by omega)]]
 exact this.symm
theorem y11{α:Type}{o':List α}{t x:α}:(o'++[t]).set o'.length x=o'++[x]:=by
 rw[List.set_append,if_neg (by omega),Nat.sub_self];rfl
theorem y5x{α β:Type}(f:α->β)(n:Nat)(a:α):(List.replicate n a).map f=List.replicate n (f a):=by simp
theorem y6Y{s:DStep}(h:DOk s):(exS s).map forg=rep (szD s).toNat (uOf s.kind):=by
 unfold exS szD uOf
 have hk:=(z0G (z0A.2 h)).1
 by_cases k1:s.kind=1
 ·rw[if_pos k1,if_pos k1,if_pos k1,List.map_map]
  rw[show(forg∘DU.A)=fun _:Elem=>U.A from rfl,List.map_const',Int.toNat_natCast]
 ·rw[if_neg k1,if_neg k1,if_neg k1]
  by_cases k2:s.kind=2
  ·rw[if_pos k2,if_pos k2,y5x];rfl
  ·rw[if_neg k2,if_neg k2,y5x];rfl
theorem y6Z{o:List AxStep}{s:DStep}(h:DOk s)(ho:∀t∈o,0<=t.n):ex (axPut o s)=ex o++(exS s).map forg:=by
 rw[y6Y h]
 unfold axPut
 by_cases c:s.kind=0/\0<o.length/\(o.getD (o.length- 1) default).kind=0
 ·rw[if_pos c]
  obtain⟨k,hp,kt⟩:=c
  obtain⟨o',e⟩:=y5w hp
  have hn:=ho _ (z0s (l:=o) (k:=o.length- 1) (by omega))
  generalize o.getD (o.length- 1) default=t at*
  subst e
  rw[show(o'++[t]).length- 1=o'.length by simp,y11,y3P,y3P,qN]
  congr 1
  have hz:szD s=s.n:=by unfold szD;rw[if_neg (by omega)]
  have hs:0<=s.n:=(z0G (z0A.2 h)).2.1
  simp only[ex,qG]
  rw[hz,kt,k,Int.toNat_add hn hs,y72]
 ·rw[if_neg c,y3P]
  simp[ex]
def AdjK(k k':Int):Prop:=(k=k'->k'=0)/\¬(k=2/\k'=1)
theorem y9d{s t:DStep}(h:adjD s t=false):AdjK s.kind t.kind:=by
 have hn:¬adjD s t=true:=by rw[h];decide
 rw[z37] at hn
 refine⟨fun e=>qd fun q=>hn (.inl ⟨e,.inl q⟩),fun e=>hn (.inr e)⟩
theorem y2P{o:List AxStep}{s:DStep}(h:DOk s)(ho:Form o)(ha:∀t,o.getLast? =some t->AdjK t.kind s.kind):Form (axPut o s)/\∀t,(axPut o s).getLast? =some t->t.kind=s.kind:=by
 have hz:=z0G (z0A.2 h)
 unfold axPut
 by_cases c:s.kind=0/\0<o.length/\(o.getD (o.length- 1) default).kind=0
 ·rw[if_pos c]
  obtain⟨k,hp,kt⟩:=c
  obtain⟨o',e⟩:=y5w hp
  have hn:=ho.all _ (z0s (l:=o) (k:=o.length- 1) (by omega))
  generalize o.getD (o.length- 1) default=t at*
  subst e
  rw[show(o'++[t]).length- 1=o'.length by simp,y11]
  refine⟨z8O ho rfl ?_,?_⟩
  ·have:=hn.2.2;simp only;omega
  ·intro x hx;simp at hx;subst hx;simp only;omega
 ·rw[if_neg c]
  refine⟨z8N ho ⟨by simp only;omega,by simp only;omega,by simp only;omega⟩ (fun t ht=> ?_),?_⟩
  ·have hp:0<o.length:=by cases o with|nil=>simp at ht|cons _ _=>simp
   have e:o.getD (o.length- 1) default=t:=by
    rw[List.getLast?_eq_getElem?] at ht;simp[List.getD,ht]
   rw[e] at c
   obtain⟨a1,a2⟩:=ha t ht
   exact nx_mk (fun q=>c ⟨a1 q,hp,by rw[q];exact a1 q⟩) a2
  ·intro x hx;simp at hx;subst hx;rfl
theorem y7G:∀(d:List DStep) (o:List AxStep),DForm d->Form o->(∀t s,o.getLast? =some t->d.head? =some s->AdjK t.kind s.kind)->
 Form (axF o d)/\ex (axF o d)=ex o++(exD d).map forg
 | [],o,_,ho,_=>⟨ho,by simp[axF,exD]⟩
 |s::d,o,hd,ho,ha=>by
  have hs:DOk s:=hd.all s (by simp)
  obtain⟨f1,f2⟩:=y2P hs ho (fun t ht=>ha t s ht rfl)
  have hd':DForm d:=by cases d with|nil=>trivial|cons t d=>exact hd.2.2
  obtain⟨g1,g2⟩:=y7G d (axPut o s) hd' f1 (fun t x ht hx=>by
   rw[f2 t ht]
   cases d with
   |nil=>simp at hx
   |cons y d=>simp at hx;subst hx;exact y9d hd.2.1)
  refine⟨g1,?_⟩
  rw[axF,g2,y6Z hs (fun t ht=>by have:=(ho.all t ht).2.2;omega),exD,qU,qN]
theorem y5y(us:List DU):oldU (us.map forg)=oldN us/\newU (us.map forg)=newN us:=by
 induction us with
 |nil=>exact⟨rfl,rfl⟩
 |cons u us ih=>cases u<;>simp[oldU,newU,oldN,newN,forg,ih.1,ih.2]
theorem y12:∀{d:List DStep},(∀s∈d,DOk s)->oldD d=oldN (exD d)/\newD d=newN (exD d)
 | [],_=>⟨rfl,rfl⟩
 |s::d,h=>by
  obtain⟨i1,i2⟩:=y12 (d:=d) (fun t ht=>h t (by simp[ht]))
  have hs:=h s (by simp)
  have hz:=z0G (z0A.2 hs)
  have e:(oldN (exS s):Int)=oS s/\(newN (exS s):Int)=nS s:=by
   unfold exS oS nS szD
   by_cases k1:s.kind=1
   ·rw[if_pos k1,if_pos k1,if_neg (by omega),if_pos k1,(z1G _).1,(z1G _).2];exact⟨rfl,rfl⟩
   ·rw[if_neg k1,if_neg k1]
    by_cases k2:s.kind=2
    ·rw[if_pos k2,if_pos k2,(z1O _).1,(z1O _).2];omega
    ·rw[if_neg k2,if_neg k2,if_neg k1,(z03 _ _).1,(z03 _ _).2];omega
  rw[exD,z0B,z1m,oldD,newD,i1,i2]
  omega
theorem y9Y{d:List DStep}(h:z0I d):Valid (axD d)/\ex (axD d)=(exD d).map forg/\oldI (axD d)=oldD d/\newI (axD d)=newD d:=by
 obtain⟨f1,f2⟩:=y7G d [] h.1 trivial (fun t s ht _=>by simp at ht)
 have e:ex (axD d)=(exD d).map forg:=by unfold axD;rw[f2];rfl
 obtain⟨l1,l2⟩:=y5y (exD d)
 obtain⟨m1,m2⟩:=y12 h.1.all
 have q1:oldI (axD d)=oldD d:=by unfold oldI;rw[e,l1,m1]
 have q2:newI (axD d)=newD d:=by unfold newI;rw[e,l2,m2]
 have h1:=h.2.1
 have h2:=h.2.2
 unfold oldI at q1
 unfold newI at q2
 exact⟨⟨f1,by omega,by omega⟩,e,q1,q2⟩
theorem dlen:∀{d:List DStep},(∀s∈d,DOk s)->(d.length:Int)<=oldD d+newD d
 | [],_=>by simp[oldD,newD]
 |s::d,h=>by
  have ih:=dlen (d:=d) (fun t ht=>h t (by simp[ht]))
  have hs:=z0G (z0A.2 (h s (by simp)))
  rw[qi,oldD,newD]
  unfold oS nS
  unfold szD at hs|-
  by_cases k1:s.kind=1
  ·simp only[if_pos k1] at hs|-;rw[if_neg (by omega)];omega
  ·simp only[if_neg k1] at hs|-;split<;>omega
structure AxB(o:List AxStep)(i:Nat):Prop where
 len:o.length<=i
 n:∀t∈o,0<=t.n/\t.n<=2147483647*(i:Int)
theorem AxB.start:AxB [] 0:=⟨qr _,fun t ht=>by cases ht⟩
theorem AxB.last{o:List AxStep}{i:Nat}(h:AxB o i)(hp:0<o.length):0<=(o.getD (o.length- 1) default).n/\(o.getD (o.length- 1) default).n<=2147483647*(i:Int):=
 h.n _ (z0s (by omega))
theorem AxB.next{o:List AxStep}{i:Nat}{s:DStep}(h:AxB o i)(hz:0<=szD s/\szD s<=2147483647)(hs:0<=s.n/\s.n<=2147483647):AxB (axPut o s) (i+1):=by
 have hl:=h.len
 unfold axPut
 split
 ·rename_i c
  have hq:=h.last c.2.1
  refine⟨by rw[zl];omega,fun t ht=> ?_⟩
  rcases ze ht with ht|rfl
  ·have:=h.n t ht;omega
  ·simp only;omega
 ·refine⟨by rw[qf];simp;omega,fun t ht=> ?_⟩
  rcases qm.1 ht with ht|ht
  ·have:=h.n t ht;omega
  ·rw[qw] at ht;subst ht;simp only;omega
theorem y5z{d:List DStep}(h:z0I d){s:DStep}(hs:s∈d):0<=szD s/\szD s<=2147483647:=by
 have h1:=z7X h.1.all s hs
 have h2:=z0G (z0A.2 (h.1.all s hs))
 have h3:=h.2.2
 unfold nS at h1
 by_cases k2:s.kind=2
 ·have:szD s=s.n:=by unfold szD;rw[if_neg (by omega)]
  omega
 ·rw[if_neg k2] at h1;omega
def gapU:List U->Int->Int->Int->Int
 | [],_,_,tq=>tq
 | .K::u,x,fr,tq=>gapU u x (fr+1) (tq+min 1 (max 0 (x-fr)))
 | .A::u,x,fr,tq=>gapU u x fr (if fr<=x then tq+1 else tq)
 | .C::u,x,fr,tq=>gapU u x (fr+1) tq
theorem y5A(n:Nat)(u:List U):∀(x fr tq:Int),gapU (rep n .A++u) x fr tq=gapU u x fr (if fr<=x then tq+n else tq):=by
 induction n with
 |zero=>intro x fr tq;show gapU u x fr tq=_;congr 1;split<;>simp
 |succ n ih=>
  intro x fr tq
  show gapU (rep n .A++u) x fr (if fr<=x then tq+1 else tq)=_
  rw[ih];congr 1;split<;>(simp;try omega)
theorem z8e(n:Nat)(u:List U):∀(x fr tq:Int),gapU (rep n .K++u) x fr tq=gapU u x (fr+n) (tq+min (n:Int) (max 0 (x-fr))):=by
 induction n with
 |zero=>intro x fr tq;show gapU u x fr tq=_;congr 1<;>simp<;>omega
 |succ n ih=>
  intro x fr tq
  show gapU (rep n .K++u) x (fr+1) (tq+min 1 (max 0 (x-fr)))=_
  rw[ih];congr 1<;>omega
theorem y9e(n:Nat)(u:List U):∀(x fr tq:Int),gapU (rep n .C++u) x fr tq=gapU u x (fr+n) tq:=by
 induction n with
 |zero=>intro x fr tq;show gapU u x fr tq=_;congr 1;simp
 |succ n ih=>
  intro x fr tq
  show gapU (rep n .C++u) x (fr+1) tq=_
  rw[ih];congr 1;omega
theorem z8f:∀{l:List AxStep},Form l->∀(x fr tq:Int),gapS l x true fr tq=gapU (ex l) x fr tq
 | [],_,x,fr,tq=>rfl
 |s::l,hl,x,fr,tq=>by
  have hn:=hl.head.2.2
  have hk:=kinds hl.head
  have hnn:(s.n.toNat:Int)=s.n:=zQ (by omega)
  rw[gapS,ex]
  by_cases k1:s.kind=1
  ·rw[if_pos k1,k1,uOf1,y5A,hnn,z8f hl.tail]
   congr 1
   by_cases q:fr<=x
   ·rw[if_pos q,if_pos ⟨rfl,(Int.lt_or_eq_of_le q).imp id fun h=>⟨h,rfl⟩⟩]
   ·rw[if_neg q,if_neg (fun z=>q (by rcases z.2 with h|h;omega;omega)),if_neg (by decide)]
  ·rw[if_neg k1,if_neg (fun q=>k1 q.1)]
   by_cases k0:s.kind=0
   ·rw[if_pos k0,k0,uOf0,z8e,hnn,z8f hl.tail]
   ·have k2:s.kind=2:=by omega
    rw[if_neg k0,k2,uOf2,y9e,hnn,z8f hl.tail]
theorem y60(k m n:Nat)(x:Int)(h0:0<=x)(hx:x<=(k+n:Nat)):gapU (rep k .K++(rep m .A++rep n .K)) x 0 0=if(k:Int)<=x then x+m else x:=by
 have:=z8e n []
 rw[z8e,y5A]
 have e:=z8e n [] x (0+(k:Int)) (if 0+(k:Int)<=x then 0+min (k:Int) (max 0 (x-0))+m else 0+min (k:Int) (max 0 (x-0)))
 rw[qG] at e
 rw[e]
 show(if 0+(k:Int)<=x then 0+min (k:Int) (max 0 (x-0))+m else 0+min (k:Int) (max 0 (x-0)))+min (n:Int) (max 0 (x- (0+(k:Int))))=_
 split<;>split<;>omega
end Go.Ch
end
section
namespace Go.Ch
open Go Go.Ab
variable {U:US}
theorem y61(f:List Elem)(au:ByteArray)(n:Nat):ersUs f [] au n=List.replicate n (.K []):=by
 unfold ersUs
 rw[show ersU f [] au=fun _=>DU.K [] by funext i;unfold ersU;rw[if_neg (by simp)],List.map_const',List.length_range]
theorem y5B:fm wioG [] []=[]:=by simp[fm,bothL]
theorem y5C:fm botG [] []=[]:=by simp[fm,bothL]
theorem y13(es:List DU)(hes:∀u∈es,∃x,u= .A x)(b:Nat):∀(a:Nat),(z0a (List.replicate a (.K [])++(es++List.replicate b (.K []))) (List.replicate (a+b) (.K []))).1=List.replicate a (.K [])++(es++List.replicate b (.K []))
 |a+1=>by
  rw[show a+1+b=(a+b)+1 by omega,qt,qt,qg,z0a,y13 es hes b a,y5B]
 |0=>by
  rw[List.replicate_zero,zy,zq]
  induction es with
  |nil=>
   rw[zy]
   induction b with
   |zero=>show(z0a [] []).1=[];unfold z0a;rfl
   |succ b ih=>rw[qt,z0a,ih,y5B]
  |cons u es ih=>
   obtain⟨x,rfl⟩:=hes u (by simp)
   rw[qg,z0a,ih (fun v hv=>hes v (by simp[hv]))]
theorem y14(es:List DU)(hes:∀u∈es,∃x,u= .A x)(b:Nat):∀(a:Nat),z0g (List.replicate (a+b) (.K [])) (List.replicate a (.K [])++(es++List.replicate b (.K [])))=List.replicate a (.K [])++(es++List.replicate b (.K []))
 |a+1=>by
  rw[show a+1+b=(a+b)+1 by omega,qt,qt,qg,z0g,y14 es hes b a,y5C]
 |0=>by
  rw[List.replicate_zero,zy,zq]
  induction es with
  |nil=>
   rw[zy]
   induction b with
   |zero=>show z0g [] []=[];unfold z0g;rfl
   |succ b ih=>rw[qt,z0g,ih,y5C]
  |cons u es ih=>
   obtain⟨x,rfl⟩:=hes u (by simp)
   rw[qg,z0g,ih (fun v hv=>hes v (by simp[hv]))]
   intro p' hp
   cases b with
   |zero=>simp at hp
   |succ b=>rw[qt] at hp;cases hp
def lobI(l:List Int)(k:Int):Nat:=(l.takeWhile (fun x=>decide (x<k))).length
theorem y2Q{a b:List Int}{k:Int}(ha:∀x∈a,x<k)(hb:∀x∈b,k<=x):lobI (a++b) k=a.length:=by
 unfold lobI
 induction a with
 |nil=>
  cases b with
  |nil=>rfl
  |cons y b=>rw[zy,jd,if_neg (by have:=hb y (by simp);simp;omega)]
 |cons y a ih=>
  rw[qg,jd,if_pos (by have:=ha y (by simp);simp;omega),qi,ih (fun x hx=>ha x (by simp[hx])),qi]
theorem y62(f:List Elem){g:Nat}(h:g<=f.length):lobI (plcL f 0 f.length) (g:Int)=((List.range g).filter (visB f 0)).length:=by
 unfold plcL
 rw[z6w f h,qU,y2Q,qk]
 ·intro x hx
  obtain⟨i,hi,rfl⟩:=qy.1 hx
  have:=zG.1 (zt.1 hi).1
  omega
 ·intro x hx
  obtain⟨i,hi,rfl⟩:=qy.1 hx
  have:=(zK.1 (zt.1 hi).1).1
  omega
theorem z3D(a b:List Elem)(i:Nat):(a++b).getD i default=if i<a.length then a.getD i default else b.getD (i-a.length) default:=by
 rw[qc,List.getElem?_append]
 split
 ·rw[<-List.getD_eq_getElem?_getD]
 ·rw[<-List.getD_eq_getElem?_getD]
theorem z7d{α β:Type}{p:α->Bool}{q:β->Bool}:∀{a:List α} {b:List β},a.length=b.length->(∀i (h:i<a.length) (h2:i<b.length),p a[i]=q b[i])->(a.filter p).length=(b.filter q).length
 | [],[],_,_=>rfl
 | [],y::b,h,_=>by cases h
 |x::a,[],h,_=>by cases h
 |x::a,y::b,h,hp=>by
  have e:=hp 0 (by simp) (by simp)
  simp only[List.getElem_cons_zero] at e
  have ih:=z7d (p:=p) (q:=q) (a:=a) (b:=b) (by simpa using h) (fun i h1 h2=>hp (i+1) (by simpa using h1) (by simpa using h2))
  rw[zO,zO,e]
  split<;>simp[ih]
theorem z9z{f es:List Elem}{k x:Nat}(hk:k<f.length)(hx:x<f.length)(he:∀y∈es,hidX y 0=false):
 ((List.range (if k<=x then x+es.length else x)).filter (visB (f.take k++(es++f.drop k)) 0)).length=((List.range x).filter (visB f 0)).length+if k<=x then es.length else 0:=by
 have gl:(f.take k++(es++f.drop k)).length=f.length+es.length:=by simp;omega
 have tl:(f.take k).length=k:=by rw[qS];omega
 have g1:∀i,i<k->(f.take k++(es++f.drop k)).getD i default=f.getD i default:=fun i hi=>by
  rw[z3D,if_pos (by omega),qc,List.getElem?_take_of_lt hi,<-List.getD_eq_getElem?_getD]
 have g2:∀i,k<=i->i<k+es.length->(f.take k++(es++f.drop k)).getD i default=es.getD (i-k) default:=fun i h1 h2=>by
  rw[z3D,if_neg (by omega),z3D,if_pos (by omega),tl]
 have g3:∀i,k<=i->(f.take k++(es++f.drop k)).getD (i+es.length) default=f.getD i default:=fun i h1=>by
  rw[z3D,if_neg (by omega),z3D,if_neg (by omega),qc,qO,<-List.getD_eq_getElem?_getD,tl]
  congr 1;omega
 generalize hG:f.take k++(es++f.drop k)=G at gl g1 g2 g3
 have v1:∀i,i<k->visB G 0 i=visB f 0 i:=fun i hi=>by
  unfold visB;rw[g1 i hi,gl,decide_eq_false (show¬(i:Int)=((f.length+es.length:Nat):Int)- 1 by omega),decide_eq_false (show¬(i:Int)=(f.length:Int)- 1 by omega)]
 have v2:∀i,k<=i->i<k+es.length->visB G 0 i=true:=fun i h1 h2=>by
  unfold visB;rw[g2 i h1 h2,he _ (z0h (by omega))];rfl
 have v3:∀i,k<=i->visB G 0 (i+es.length)=visB f 0 i:=fun i h1=>by
  unfold visB;rw[g3 i h1,gl]
  congr 2
  exact decide_eq_decide.2 (by omega)
 by_cases q:k<=x
 ·rw[if_pos q,if_pos q]
  have r1:List.range (x+es.length)=List.range k++(List.range' k es.length++List.range' (k+es.length) (x-k)):=by
   rw[zo,zo,z8,show es.length+(x-k)=es.length+(x-k) from rfl]
   have:=z8 (s:=0) (m:=k) (n:=es.length+(x-k))
   rw[zq] at this
   rw[this];congr 1;omega
  have r2:List.range x=List.range k++List.range' k (x-k):=by
   rw[zo,zo]
   have:=z8 (s:=0) (m:=k) (n:=x-k)
   rw[zq] at this
   rw[this];congr 1;omega
  rw[r1,r2,qW,qW,qW,qf,qf,qf]
  have a1:((List.range k).filter (visB G 0)).length=((List.range k).filter (visB f 0)).length:=congrArg List.length (List.filter_congr fun i hi=>v1 i (zG.1 hi))
  have a2:(List.range' k es.length).filter (visB G 0)=List.range' k es.length:=List.filter_eq_self.2 fun i hi=>v2 i (zK.1 hi).1 (zK.1 hi).2
  have a3:((List.range' (k+es.length) (x-k)).filter (visB G 0)).length=((List.range' k (x-k)).filter (visB f 0)).length:=z7d (by simp) fun i h1 h2=>by
   rw[List.getElem_range',List.getElem_range',Nat.one_mul,<-v3 (k+i) (by omega)]
   congr 1;omega
  rw[a1,a2,a3,List.length_range'];omega
 ·rw[if_neg q,if_neg q,Nat.add_zero]
  exact congrArg List.length (List.filter_congr fun i hi=>v1 i (by have:=zG.1 hi;omega))
end Go.Ch
end
section
namespace Go.Ch
open Go Go.Ab
theorem z4s:∀(l:List Int) (k:Int),lobI l k<=l.length/\(∀i,i<lobI l k->l.getD i default<k)/\(lobI l k<l.length->¬l.getD (lobI l k) default<k)
 | [],k=>⟨qR _,fun i hi=>absurd hi (by simp[lobI]),fun h=>absurd h (by simp[lobI])⟩
 |c::l,k=>by
  obtain⟨h1,h2,h3⟩:=z4s l k
  by_cases hc:c<k
  ·have e:lobI (c::l) k=lobI l k+1:=by unfold lobI;rw[jd,if_pos (decide_eq_true hc)];rfl
   rw[e]
   refine⟨by simp;omega,fun i hi=> ?_,fun h=> ?_⟩
   ·cases i with
    |zero=>exact hc
    |succ i=>exact h2 i (by omega)
   ·exact h3 (by simpa using h)
  ·have e:lobI (c::l) k=0:=by unfold lobI;rw[jd,if_neg (by simpa using hc)];rfl
   rw[e]
   exact⟨qR _,fun i hi=>absurd hi (by omega),fun _=>hc⟩
theorem y9f{l:List Int}{k:Int}(hs:l.Pairwise (·< ·)){m:Nat}(hm:m<l.length)(h:l.getD m default<k):m<lobI l k:=by
 obtain⟨s1,s2,s3⟩:=z4s l k
 apply qd;intro q
 have h3:=s3 (by omega)
 rcases Nat.lt_or_eq_of_le (Nat.le_of_not_lt q) with z|z
 ·have:=List.pairwise_iff_getElem.1 hs (lobI l k) m (by omega) hm z
  simp only[List.getD,qa (show lobI l k<l.length by omega),qa hm,zx] at h h3
  omega
 ·rw[z] at h3;exact h3 h
theorem y9g{l:List Int}{k:Int}{m:Nat}(h:¬l.getD m default<k):lobI l k<=m:=by
 apply qd;intro q
 exact h ((z4s l k).2.1 m (by omega))
def hasI(l:List Int)(k:Int):Bool:=decide (lobI l k<l.length)&&(l.getD (lobI l k) default==k)
structure ThrB(d:Doc)(s:Sel)(c:List EOp)(p:Pl)(st:List DStep)(ax:List AxStep)(g0 g1:Int)(d2:Doc)(L:List Int)(z:Int):Prop where
 doc:DocL d
 e0:atE d s {data:=#[]}=0
 hp:atP d s {data:=#[]}=p
 sl:p.shown.length<=1048576
 so:∀x∈p.shown,0<=x/\x<=1000000000
 r:0<=s.fr/\s.tq=s.fr/\s.fr<=(p.shown.length:Int)
 ap:AppB d c
 e2:appE d c=0
 hd2:appD d c=d2
 c1:c.length=1
 ck:(c.getD 0 default).kind=2/\(c.getD 0 default).node=s.nd/\(c.getD 0 default).steps=st
 dv:z0I st
 dn:DN 400000000000 st
 hax:axD st=ax
 av:Valid ax
 hg0:gapP p.shown s.fr=g0
 gb:0<=g0/\g0<=oldI ax
 hg1:gapS ax g0 true 0 0=g1
 nl:d2.nodes.length<=1048576
 srt:SortN d2.nodes
 hi:hasN d2.nodes s.nd=true
 fl:(d2.nodes.getD (lobN d2.nodes s.nd) default).flow.length<=1048576
 hL:plcL (d2.nodes.getD (lobN d2.nodes s.nd) default).flow 0 (d2.nodes.getD (lobN d2.nodes s.nd) default).flow.length=L
 ll:L.length<=1048576
 lo:L.Pairwise (·< ·)
 hz:min (lobI L g1:Int) ((L.length:Int)- 1)=z
end Go.Ch
end
section
set_option maxRecDepth 100000
set_option maxHeartbeats 4000000
open Go Go.Proofs Go.Ab
namespace Go.Ch
theorem y9Z(l:List AxStep)(x:Int)(r:Bool)(hv:Valid l)(hx:0<=x/\x<=oldI l):FC Tryz.prog 47 [VL 2 stepT l,VI x,VB r] (app emp []) (.tup [VI (gapS l x r 0 0),VI 0]) (app emp []):=by
 refine .go Tryz.f47 ?_
 refine .len 0 (fun hl0=> ?_)
 have ca:=z2y.2 hv
 have hv1:oldI l<=2147483647:=by have:=hv.2.1;unfold oldI;omega
 have hv2:newI l<=2147483647:=by have:=hv.2.2;unfold newI;omega
 have o0:0<=oldI l:=by unfold oldI;omega
 have o1:0<=newI l:=by unfold newI;omega
 refine .bp [.r [],.r [(1,X (Xc0 (z1V l) X0))],.r []] ((z1h l) !=0) (fun h2=> ?_) (fun h2=> ?_)
 ·
  exfalso
  omega
 ·
  refine .bp [.r [(1,X (Xc0 (z52 l (by assumption)) X0))],.r [(5,Xv 2 (!(decide (x<0))) X0),(6,X (Xk' (decide (x<0))))]] (decide (x<0)||decide (x>(oldI l))) (fun h5=> ?_) (fun h5=> ?_)
  ·
   exfalso
   omega
  ·
   refine .loop (α:=Int×Int×Nat) [.r [],.r [(1,X (Xl stepT l))]] 208 (fun(fr,tq,i)=>([(1,VI x),(2,VB r),(11,VI fr),(12,VI tq),(32,VL 2 stepT l),(33,VI (l.length:Int)),(34,VI (i:Int))],[])) (fun(fr,tq,i)=>i<=l.length/\0<=fr/\0<=tq/\fr+oldU (ex (l.drop i))=oldI l/\tq+newU (ex (l.drop i))<=newI l/\gapS l x r 0 0=gapS (l.drop i) x r fr tq) (fun(fr,tq,i)=>l.length-i) (0,0,0) ?_ ?_
   ·
    exact⟨by omega,by decide,by decide,by simp[oldI],by simp[newI],rfl⟩
   rintro⟨fr,tq,i⟩ I9 ih9
   try dsimp only at I9
   refine .bp [.r []] (decide ((i:Int)< (l.length:Int))) (fun h9=> ?_) (fun h9=> ?_)
   ·
    have hst:=z51 (l:=l) (i:=i) (by omega) hv.1
    have hd:=z5i (l:=l) (i:=i) (by omega)
    refine .bp [.r [(0,X (Xi stepT l (i:Int)))],.r [(6,Xv 2 ((((l.getD i default)).kind)==1) X0),(7,X (Xk ((((l.getD i default)).kind)==1)))]] (((((l.getD i default)).kind)==1)&&decide (fr<x)) (fun h11=> ?_) (fun h11=> ?_)
    ·
     refine .bp [] (((((l.getD i default)).kind)==1)&&decide (fr<x)) (fun h11=> ?_) (fun h11=> ?_)
     ·
      refine .bp [.r [(3,X (Xn (tq+(((l.getD i default)).n))))],.r []] ((((l.getD i default)).kind) !=1) (fun h16=> ?_) (fun h16=> ?_)
      ·
       refine .back [.r [(3,X (Xn (fr+(((l.getD i default)).n))))],.r [(0,X (Xn ((i:Int)+1)))]] [] (ih9 ((fr+(((l.getD i default)).n)),(tq+(((l.getD i default)).n)),(i+1)) ?_ ?_)
       ·
        obtain⟨s1,s2,s3,s4,s5⟩:=hst
        (first|rw[if_pos (by omega)] at s1|rw[if_neg (by omega)] at s1)
        (first|rw[if_pos (by omega)] at s2|rw[if_neg (by omega)] at s2)
        refine⟨by omega,by omega,by omega,by omega,by omega,?_⟩
        rw[I9.2.2.2.2.2,hd,gapS]
        congr 1<;>((repeat' split)<;>first|rfl|omega| (exfalso;rename_i q;rcases q with⟨_,q| ⟨q,q2⟩⟩;omega;rcases h12 with(h|h)|h;omega;omega;rw[q2] at h;cases h)| (simp_all;done)| (simp_all;omega))
       ·
        ((try dsimp only);omega)
      ·
       refine .back [.r [(0,X (Xn ((i:Int)+1)))]] [] (ih9 (fr,(tq+(((l.getD i default)).n)),(i+1)) ?_ ?_)
       ·
        obtain⟨s1,s2,s3,s4,s5⟩:=hst
        (first|rw[if_pos (by omega)] at s1|rw[if_neg (by omega)] at s1)
        (first|rw[if_pos (by omega)] at s2|rw[if_neg (by omega)] at s2)
        refine⟨by omega,by omega,by omega,by omega,by omega,?_⟩
        rw[I9.2.2.2.2.2,hd,gapS]
        congr 1<;>((repeat' split)<;>first|rfl|omega| (exfalso;rename_i q;rcases q with⟨_,q| ⟨q,q2⟩⟩;omega;rcases h12 with(h|h)|h;omega;omega;rw[q2] at h;cases h)| (simp_all;done)| (simp_all;omega))
       ·
        ((try dsimp only);omega)
     ·
      refine .bp [.r []] ((((l.getD i default)).kind)==0) (fun h14=> ?_) (fun h14=> ?_)
      ·
       refine .bp [.r [(5,X (Xn (x-fr))),(6,X (Xmax 0 (x-fr))),(7,X (Xmin (((l.getD i default)).n) (max 0 (x-fr)))),(8,X (Xn (tq+(min (((l.getD i default)).n) (max 0 (x-fr))))))],.r []] ((((l.getD i default)).kind) !=1) (fun h16=> ?_) (fun h16=> ?_)
       ·
        refine .back [.r [(3,X (Xn (fr+(((l.getD i default)).n))))],.r [(0,X (Xn ((i:Int)+1)))]] [] (ih9 ((fr+(((l.getD i default)).n)),(tq+(min (((l.getD i default)).n) (max 0 (x-fr)))),(i+1)) ?_ ?_)
        ·
         obtain⟨s1,s2,s3,s4,s5⟩:=hst
         (first|rw[if_pos (by omega)] at s1|rw[if_neg (by omega)] at s1)
         (first|rw[if_pos (by omega)] at s2|rw[if_neg (by omega)] at s2)
         refine⟨by omega,by omega,by omega,by omega,by omega,?_⟩
         rw[I9.2.2.2.2.2,hd,gapS]
         congr 1<;>((repeat' split)<;>first|rfl|omega| (exfalso;rename_i q;rcases q with⟨_,q| ⟨q,q2⟩⟩;omega;rcases h12 with(h|h)|h;omega;omega;rw[q2] at h;cases h)| (simp_all;done)| (simp_all;omega))
        ·
         ((try dsimp only);omega)
       ·
        refine .back [.r [(0,X (Xn ((i:Int)+1)))]] [] (ih9 (fr,(tq+(min (((l.getD i default)).n) (max 0 (x-fr)))),(i+1)) ?_ ?_)
        ·
         obtain⟨s1,s2,s3,s4,s5⟩:=hst
         (first|rw[if_pos (by omega)] at s1|rw[if_neg (by omega)] at s1)
         (first|rw[if_pos (by omega)] at s2|rw[if_neg (by omega)] at s2)
         refine⟨by omega,by omega,by omega,by omega,by omega,?_⟩
         rw[I9.2.2.2.2.2,hd,gapS]
         congr 1<;>((repeat' split)<;>first|rfl|omega| (exfalso;rename_i q;rcases q with⟨_,q| ⟨q,q2⟩⟩;omega;rcases h12 with(h|h)|h;omega;omega;rw[q2] at h;cases h)| (simp_all;done)| (simp_all;omega))
        ·
         ((try dsimp only);omega)
      ·
       refine .bp [.r []] ((((l.getD i default)).kind) !=1) (fun h16=> ?_) (fun h16=> ?_)
       ·
        refine .back [.r [(3,X (Xn (fr+(((l.getD i default)).n))))],.r [(0,X (Xn ((i:Int)+1)))]] [] (ih9 ((fr+(((l.getD i default)).n)),tq,(i+1)) ?_ ?_)
        ·
         obtain⟨s1,s2,s3,s4,s5⟩:=hst
         (first|rw[if_pos (by omega)] at s1|rw[if_neg (by omega)] at s1)
         (first|rw[if_pos (by omega)] at s2|rw[if_neg (by omega)] at s2)
         refine⟨by omega,by omega,by omega,by omega,by omega,?_⟩
         rw[I9.2.2.2.2.2,hd,gapS]
         congr 1<;>((repeat' split)<;>first|rfl|omega| (exfalso;rename_i q;rcases q with⟨_,q| ⟨q,q2⟩⟩;omega;rcases h12 with(h|h)|h;omega;omega;rw[q2] at h;cases h)| (simp_all;done)| (simp_all;omega))
        ·
         ((try dsimp only);omega)
       ·
        refine .back [.r [(0,X (Xn ((i:Int)+1)))]] [] (ih9 (fr,tq,(i+1)) ?_ ?_)
        ·
         obtain⟨s1,s2,s3,s4,s5⟩:=hst
         (first|rw[if_pos (by omega)] at s1|rw[if_neg (by omega)] at s1)
         (first|rw[if_pos (by omega)] at s2|rw[if_neg (by omega)] at s2)
         refine⟨by omega,by omega,by omega,by omega,by omega,?_⟩
         rw[I9.2.2.2.2.2,hd,gapS]
         congr 1<;>((repeat' split)<;>first|rfl|omega| (exfalso;rename_i q;rcases q with⟨_,q| ⟨q,q2⟩⟩;omega;rcases h12 with(h|h)|h;omega;omega;rw[q2] at h;cases h)| (simp_all;done)| (simp_all;omega))
        ·
         ((try dsimp only);omega)
    ·
     refine .bp [.r [(6,Xv 2 ((((l.getD i default)).kind)==1) X0),(7,X (Xk ((((l.getD i default)).kind)==1))),(10,X (Xk (((((l.getD i default)).kind)==1)&&(fr==x))))]] ((((((l.getD i default)).kind)==1)&&(fr==x))&&r) (fun h12=> ?_) (fun h12=> ?_)
     ·
      refine .bp [.r [(3,X (Xn (tq+(((l.getD i default)).n))))],.r []] ((((l.getD i default)).kind) !=1) (fun h16=> ?_) (fun h16=> ?_)
      ·
       refine .back [.r [(3,X (Xn (fr+(((l.getD i default)).n))))],.r [(0,X (Xn ((i:Int)+1)))]] [] (ih9 ((fr+(((l.getD i default)).n)),(tq+(((l.getD i default)).n)),(i+1)) ?_ ?_)
       ·
        obtain⟨s1,s2,s3,s4,s5⟩:=hst
        (first|rw[if_pos (by omega)] at s1|rw[if_neg (by omega)] at s1)
        (first|rw[if_pos (by omega)] at s2|rw[if_neg (by omega)] at s2)
        refine⟨by omega,by omega,by omega,by omega,by omega,?_⟩
        rw[I9.2.2.2.2.2,hd,gapS]
        congr 1<;>((repeat' split)<;>first|rfl|omega| (exfalso;rename_i q;rcases q with⟨_,q| ⟨q,q2⟩⟩;omega;rcases h12 with(h|h)|h;omega;omega;rw[q2] at h;cases h)| (simp_all;done)| (simp_all;omega))
       ·
        ((try dsimp only);omega)
      ·
       refine .back [.r [(0,X (Xn ((i:Int)+1)))]] [] (ih9 (fr,(tq+(((l.getD i default)).n)),(i+1)) ?_ ?_)
       ·
        obtain⟨s1,s2,s3,s4,s5⟩:=hst
        (first|rw[if_pos (by omega)] at s1|rw[if_neg (by omega)] at s1)
        (first|rw[if_pos (by omega)] at s2|rw[if_neg (by omega)] at s2)
        refine⟨by omega,by omega,by omega,by omega,by omega,?_⟩
        rw[I9.2.2.2.2.2,hd,gapS]
        congr 1<;>((repeat' split)<;>first|rfl|omega| (exfalso;rename_i q;rcases q with⟨_,q| ⟨q,q2⟩⟩;omega;rcases h12 with(h|h)|h;omega;omega;rw[q2] at h;cases h)| (simp_all;done)| (simp_all;omega))
       ·
        ((try dsimp only);omega)
     ·
      refine .bp [.r []] ((((l.getD i default)).kind)==0) (fun h14=> ?_) (fun h14=> ?_)
      ·
       refine .bp [.r [(5,X (Xn (x-fr))),(6,X (Xmax 0 (x-fr))),(7,X (Xmin (((l.getD i default)).n) (max 0 (x-fr)))),(8,X (Xn (tq+(min (((l.getD i default)).n) (max 0 (x-fr))))))],.r []] ((((l.getD i default)).kind) !=1) (fun h16=> ?_) (fun h16=> ?_)
       ·
        refine .back [.r [(3,X (Xn (fr+(((l.getD i default)).n))))],.r [(0,X (Xn ((i:Int)+1)))]] [] (ih9 ((fr+(((l.getD i default)).n)),(tq+(min (((l.getD i default)).n) (max 0 (x-fr)))),(i+1)) ?_ ?_)
        ·
         obtain⟨s1,s2,s3,s4,s5⟩:=hst
         (first|rw[if_pos (by omega)] at s1|rw[if_neg (by omega)] at s1)
         (first|rw[if_pos (by omega)] at s2|rw[if_neg (by omega)] at s2)
         refine⟨by omega,by omega,by omega,by omega,by omega,?_⟩
         rw[I9.2.2.2.2.2,hd,gapS]
         congr 1<;>((repeat' split)<;>first|rfl|omega| (exfalso;rename_i q;rcases q with⟨_,q| ⟨q,q2⟩⟩;omega;rcases h12 with(h|h)|h;omega;omega;rw[q2] at h;cases h)| (simp_all;done)| (simp_all;omega))
        ·
         ((try dsimp only);omega)
       ·
        refine .back [.r [(0,X (Xn ((i:Int)+1)))]] [] (ih9 (fr,(tq+(min (((l.getD i default)).n) (max 0 (x-fr)))),(i+1)) ?_ ?_)
        ·
         obtain⟨s1,s2,s3,s4,s5⟩:=hst
         (first|rw[if_pos (by omega)] at s1|rw[if_neg (by omega)] at s1)
         (first|rw[if_pos (by omega)] at s2|rw[if_neg (by omega)] at s2)
         refine⟨by omega,by omega,by omega,by omega,by omega,?_⟩
         rw[I9.2.2.2.2.2,hd,gapS]
         congr 1<;>((repeat' split)<;>first|rfl|omega| (exfalso;rename_i q;rcases q with⟨_,q| ⟨q,q2⟩⟩;omega;rcases h12 with(h|h)|h;omega;omega;rw[q2] at h;cases h)| (simp_all;done)| (simp_all;omega))
        ·
         ((try dsimp only);omega)
      ·
       refine .bp [.r []] ((((l.getD i default)).kind) !=1) (fun h16=> ?_) (fun h16=> ?_)
       ·
        refine .back [.r [(3,X (Xn (fr+(((l.getD i default)).n))))],.r [(0,X (Xn ((i:Int)+1)))]] [] (ih9 ((fr+(((l.getD i default)).n)),tq,(i+1)) ?_ ?_)
        ·
         obtain⟨s1,s2,s3,s4,s5⟩:=hst
         (first|rw[if_pos (by omega)] at s1|rw[if_neg (by omega)] at s1)
         (first|rw[if_pos (by omega)] at s2|rw[if_neg (by omega)] at s2)
         refine⟨by omega,by omega,by omega,by omega,by omega,?_⟩
         rw[I9.2.2.2.2.2,hd,gapS]
         congr 1<;>((repeat' split)<;>first|rfl|omega| (exfalso;rename_i q;rcases q with⟨_,q| ⟨q,q2⟩⟩;omega;rcases h12 with(h|h)|h;omega;omega;rw[q2] at h;cases h)| (simp_all;done)| (simp_all;omega))
        ·
         ((try dsimp only);omega)
       ·
        refine .back [.r [(0,X (Xn ((i:Int)+1)))]] [] (ih9 (fr,tq,(i+1)) ?_ ?_)
        ·
         obtain⟨s1,s2,s3,s4,s5⟩:=hst
         (first|rw[if_pos (by omega)] at s1|rw[if_neg (by omega)] at s1)
         (first|rw[if_pos (by omega)] at s2|rw[if_neg (by omega)] at s2)
         refine⟨by omega,by omega,by omega,by omega,by omega,?_⟩
         rw[I9.2.2.2.2.2,hd,gapS]
         congr 1<;>((repeat' split)<;>first|rfl|omega| (exfalso;rename_i q;rcases q with⟨_,q| ⟨q,q2⟩⟩;omega;rcases h12 with(h|h)|h;omega;omega;rw[q2] at h;cases h)| (simp_all;done)| (simp_all;omega))
        ·
         ((try dsimp only);omega)
   ·
    have e1:((gapS l x r 0 0):Int)=tq:=by
     rw[I9.2.2.2.2.2,z27 (by omega)];rfl
    exact .finE [.r []] [] (fun z0:Int=>(.tup [VI z0,VI 0],[])) _ _ e1
theorem y63(d:List DStep)(hv:z0I d)(hd:DN 400000000000 d):FC Tryz.prog 46 [VL 4 z0d d] (app emp []) (.tup [VL 2 stepT (axD d),VI 0]) (app emp []):=by
 refine .go Tryz.f46 ?_
 refine .len 0 (fun hl0=> ?_)
 have hc:=z0N.2 hv
 have hdl:=dlen hv.1.all
 have hv1:=hv.2.1
 have hv2:=hv.2.2
 refine .bp [.r [],.r [(1,X (Xc0 (z1A d (by assumption)) X0))],.r []] ((z0T d) !=0) (fun h2=> ?_) (fun h2=> ?_)
 ·
  exfalso
  omega
 ·
  refine .loop (α:=Nat×(List AxStep)) [.r [],.r [(1,X (Xl z0d d))],.le (.nR 5 2)] 89 (fun(i,o)=>([(5,.row 88 o.length),(14,VL 4 z0d d),(15,VI (d.length:Int)),(16,VI (i:Int))],[(88,OR 2 stepT o)])) (fun(i,o)=>i<=d.length/\axF o (d.drop i)=axD d/\AxB o i) (fun(i,o)=>d.length-i) (0,[]) ?_ ?_
  ·
   exact⟨by omega,rfl,AxB.start⟩
  rintro⟨i,o⟩ I6 ih6
  try dsimp only at I6
  have ol:=I6.2.2.len
  refine .bp [.r []] (decide ((i:Int)< (d.length:Int))) (fun h6=> ?_) (fun h6=> ?_)
  ·
   have hm:=z0s (l:=d) (k:=i) (by omega)
   obtain⟨hk,hn1,hn2,_⟩:=z0G (z0A.2 (hv.1.all _ hm))
   obtain⟨hz1,hz2⟩:=y5z hv hm
   have hN:=I6.2.2.next ⟨hz1,hz2⟩ ⟨hn1,hn2⟩
   have hF:=(y9X (d:=d) (i:=i) (by omega) o).symm.trans I6.2.1
   have hla:=fun h=>I6.2.2.last h
   unfold axPut at hN hF
   refine .bp [.r [(0,X (Xi z0d d (i:Int)))],.r [(2,X (Xn ((o.length:Int)- 1)))],.r [(5,Xv 1 ((((d.getD i default)).kind)==0) X0),(6,X (Xk ((((d.getD i default)).kind)==0))),(10,Xv 2 (((((d.getD i default)).kind)==0)&&decide (((o.length:Int)- 1)>=0)) (Xp' stepT 88 o ((o.length:Int)- 1) (o.length- 1))),(11,Xv 1 (((((d.getD i default)).kind)==0)&&decide (((o.length:Int)- 1)>=0)) X0),(12,Xv 1 (((((d.getD i default)).kind)==0)&&decide (((o.length:Int)- 1)>=0)) (Xe stepT o (o.length- 1))),(13,Xv 1 (((((d.getD i default)).kind)==0)&&decide (((o.length:Int)- 1)>=0)) X0),(14,X (Xk (((((d.getD i default)).kind)==0)&&decide (((o.length:Int)- 1)>=0))))]] ((((((d.getD i default)).kind)==0)&&decide (((o.length:Int)- 1)>=0))&&((((o.getD (o.length- 1) default)).kind)==0)) (fun h9=> ?_) (fun h9=> ?_)
   ·
    have hla2:=hla (by omega)
    rw[if_pos ⟨h9.1.1,by omega,h9.2⟩] at hN hF
    refine .back [.r [(2,X (Xp' stepT 88 o ((o.length:Int)- 1) (o.length- 1))),(4,X (Xe stepT o (o.length- 1))),(7,X (Xn ((((o.getD (o.length- 1) default)).n)+(((d.getD i default)).n)))),(8,X (Xp' stepT 88 o ((o.length:Int)- 1) (o.length- 1))),(10,X (Xs 2 stepT 88 o (o.length- 1) ({kind:=((o.getD (o.length- 1) default)).kind,n:=((((o.getD (o.length- 1) default)).n)+(((d.getD i default)).n))}:AxStep)))],.r [(0,X (Xn ((i:Int)+1)))],.le (.eq 5 (.row 88 o.length) (.row 88 ((o.set (o.length- 1) ({kind:=((o.getD (o.length- 1) default)).kind,n:=((((o.getD (o.length- 1) default)).n)+(((d.getD i default)).n))}:AxStep)).length)) (.of_eq (by simp only[zl])))] [(88,88)] (ih6 ((i+1),(o.set (o.length- 1) ({kind:=((o.getD (o.length- 1) default)).kind,n:=((((o.getD (o.length- 1) default)).n)+(((d.getD i default)).n))}:AxStep))) ?_ ?_)
    ·
     exact⟨by omega,hF,hN⟩
    ·
     ((try dsimp only);omega)
   ·
    have hno:¬((d.getD i default).kind=0/\0<o.length/\(o.getD (o.length- 1) default).kind=0):=by rintro⟨q1,q2,q3⟩;rcases h9 with(h9|h9)|h9<;>omega
    rw[if_neg hno] at hN hF
    refine .back [.r [(4,X (Xc0 (z2n ((d.getD i default))) X0)),(7,X (rowC stepT [({kind:=((d.getD i default)).kind,n:=(szD ((d.getD i default)))}:AxStep)] (Xap 2 stepT 88 o [({kind:=((d.getD i default)).kind,n:=(szD ((d.getD i default)))}:AxStep)])))],.r [(0,X (Xn ((i:Int)+1)))]] [(88,88)] (ih6 ((i+1),(o++[({kind:=((d.getD i default)).kind,n:=(szD ((d.getD i default)))}:AxStep)])) ?_ ?_)
    ·
     exact⟨by omega,hF,hN⟩
    ·
     ((try dsimp only);omega)
  ·
   have ho:=I6.2.1
   rw[y9c (by omega)] at ho
   have e1:((axD d):List AxStep)=o:=by
    rw[ho]
   exact .finE [.r [],.le (.fr 2 [(o.length:Nat)=(List.map stepT o).length] ⟨lm,trivial⟩)] [] (fun z0:List AxStep=>(.tup [VL 2 stepT z0,VI 0],[])) _ _ e1
theorem z9A(x:Int):FC Tryz.prog 91 [VI x] (app emp []) (VB false) (app emp []):=by
 refine .go Tryz.f91 ?_
 have e1:((x !=x):Bool)=false:=by
  simp
 exact .finE [.r [],.r []] [] (fun z0:Bool=>(VB z0,[])) _ _ e1.symm
theorem y9h(x y:Int):FC Tryz.prog 90 [VI x,VI y] (app emp []) (VB (decide (x<y))) (app emp []):=by
 refine .go Tryz.f90 ?_
 have e1:((decide (x<y)):Bool)=((false||false)||decide (x<y)):=by
  simp
 exact .finE [.r [],.r [(1,X (Xc0 (z5k x) X0)),(4,Xv 1 false (Xc0 (z5k y) X0)),(5,Xv 1 false X0),(6,X (Xk false)),(10,Xv 2 (!(false||false)) X0),(11,X (Xk' (false||false)))]] [] (fun z0:Bool=>(VB z0,[])) _ _ e1
theorem y90(l:List Int)(k:Int)(hn:l.length<=1048576)(hs:l.Pairwise (·< ·)):FC Tryz.prog 51 [VL 1 intT l,VI k] (app emp []) (.tup [VI (lobI l k:Int),VB (hasI l k)]) (app emp []):=by
 refine .go Tryz.f51 ?_
 refine .len 0 (fun hl0=> ?_)
 obtain⟨s1,s2,s3⟩:=z4s l k
 refine .loop (α:=Nat×Nat) [.r [],.r [(1,X (Xl intT l))],.r []] 64 (fun(i,j)=>([(0,VL 1 intT l),(1,VI k),(6,VI (l.length:Int)),(7,VI (i:Int)),(8,VI (j:Int))],[])) (fun(i,j)=>i<=lobI l k/\lobI l k<=j/\j<=l.length) (fun(i,j)=>j-i) (0,l.length) ?_ ?_
 ·
  exact⟨by omega,by omega,by omega⟩
 rintro⟨i,j⟩ I3 ih3
 try dsimp only at I3
 refine .bp [.r []] (decide ((i:Int)< (j:Int))) (fun h3=> ?_) (fun h3=> ?_)
 ·
  obtain⟨m,hm⟩:∃m:Nat,((i:Int)+(j:Int))/2=(m:Int):=⟨(i+j)/2,by omega⟩
  refine .bp [.r [(2,X (Xn ((i:Int)+(j:Int)))),(3,X (Xcv IntKind.u64 ((i:Int)+(j:Int))) (by simp[IntKind.wrap,IntKind.bits,IntKind.signed];omega)),(4,X (Xsh IntKind.u64 1 (((i:Int)+(j:Int)).fdiv (2^(min (1:Int).toNat IntKind.u64.bits))) (((i:Int)+(j:Int))/2)) ⟨by decide,(by rw[Int.fdiv_eq_ediv_of_nonneg _ (by decide)];rfl)⟩),(5,X (Xn (((i:Int)+(j:Int))/2)))],.le (.eq 9 (VI (((i:Int)+(j:Int))/2)) (VI (m:Int)) (.of_eq (by rw[<-hm]))),.r [(2,X (Xi intT l (m:Int))),(5,X (Xc0 (y9h (l.getD m default) k) X0))]] (decide ((l.getD m default)< k)) (fun h5=> ?_) (fun h5=> ?_)
  ·
   refine .back [.r [(1,X (Xn ((m:Int)+1)))]] [] (ih3 ((m+1),j) ?_ ?_)
   ·
    have:=y9f hs (m:=m) (by omega) (by simpa using h5)
    exact⟨by omega,by omega,by omega⟩
   ·
    ((try dsimp only);omega)
  ·
   refine .back [.r []] [] (ih3 (i,m) ?_ ?_)
   ·
    have:=y9g (l:=l) (k:=k) (m:=m) (fun q=>by first|omega| (rw[decide_eq_true q] at h5;cases h5))
    exact⟨by omega,by omega,by omega⟩
   ·
    ((try dsimp only);omega)
 ·
  have hi:i=lobI l k:=by omega
  have e1:((lobI l k:Int):Int)=(i:Int):=by
   first|omega| (unfold hasI;rw[<-hi];simp)
  have e2:((hasI l k):Bool)=(decide ((i:Int)< (l.length:Int))&&(((l.getD i default)==k)|| (false&&false))):=by
   first|omega| (unfold hasI;rw[<-hi];simp)
  exact .finE [.r [(7,Xv 2 (decide ((i:Int)< (l.length:Int))) (Xi intT l (i:Int))),(8,Xv 1 (decide ((i:Int)< (l.length:Int))) X0),(10,Xv 2 (decide ((i:Int)< (l.length:Int))) X0),(11,Xv 1 (decide ((i:Int)< (l.length:Int))) X0),(14,Xv 2 ((decide ((i:Int)< (l.length:Int)))&& !((l.getD i default)==k)) (Xi intT l (i:Int))),(15,Xv 1 ((decide ((i:Int)< (l.length:Int)))&& !((l.getD i default)==k)) X0),(16,Xv 1 ((decide ((i:Int)< (l.length:Int)))&& !((l.getD i default)==k)) (Xc0 (z9A (l.getD i default)) X0)),(17,Xv 1 ((decide ((i:Int)< (l.length:Int)))&& !((l.getD i default)==k)) X0),(19,Xv 1 (((decide ((i:Int)< (l.length:Int)))&& !((l.getD i default)==k))&&false) (Xc0 (z9A k) X0)),(20,Xka ((decide ((i:Int)< (l.length:Int)))&& !((l.getD i default)==k)) false),(21,Xko (decide ((i:Int)< (l.length:Int))) ((l.getD i default)==k)),(22,X (Xk (decide ((i:Int)< (l.length:Int)))))]] [] (fun((z0,z1):Int×Bool)=>(.tup [VI z0,VB z1],[])) _ _ (pr e1 e2)
theorem y64(l:List Int)(g:Int)(hn:l.length<=1048576)(hs:l.Pairwise (·< ·)):FC Tryz.prog 50 [VI g,.ptr 0 0] (app emp [(0,.box [VL 1 intT l])]) (VI (min (lobI l g:Int) ((l.length:Int)- 1))) (app emp [(0,.box [VL 1 intT l])]):=by
 refine .go Tryz.f50 ?_
 obtain⟨s1,s2,s3⟩:=z4s l g
 exact .fin [.r [],.r [(2,X (Xc0 (y90 l g (by omega) (by assumption)) X0))],.r [(2,X (Xl intT l)),(3,X (Xn ((l.length:Int)- 1))),(4,X (Xmin (lobI l g:Int) ((l.length:Int)- 1)))]] [(0,0)]
theorem y91(d:Doc)(s:Sel)(au:ByteArray)(hb:DocL d){p:Pl}(h:atP d s au=p)(h0:atE d s au=0):FC Tryz.prog 29 [.t (docT d),.t (selT s),VS au] (app emp []) (.tup [.t (plT p),VI 0]) (app emp []):=by
 have:=fc_at d s au hb
 rw[h,h0] at this;exact this
theorem y15(pl:List Int)(k:Int)(hk:0<=k/\k<=pl.length)(hp:∀x∈pl,0<=x/\x<=1000000000){g:Int}(h:gapP pl k=g):FC Tryz.prog 45 [VL 1 intT pl,VI k] (app emp []) (VI g) (app emp []):=h▸y0b pl k hk hp
theorem y92(d st:List DStep)(hd:d=st)(hv:z0I st)(hn:DN 400000000000 st){ax:List AxStep}(h:axD st=ax):FC Tryz.prog 46 [VL 4 z0d d] (app emp []) (.tup [VL 2 stepT ax,VI 0]) (app emp []):=by
 subst hd;subst h;exact y63 d hv hn
theorem y5D(l:List AxStep)(x:Int)(r:Bool)(hv:Valid l)(hr:r=true){g0 g1:Int}(hx:x=g0)(hb:0<=g0/\g0<=oldI l)(h:gapS l g0 true 0 0=g1):FC Tryz.prog 47 [VL 2 stepT l,VI x,VB r] (app emp []) (.tup [VI g1,VI 0]) (app emp []):=by
 subst hr;subst hx;subst h;exact y9Z l x true hv hb
theorem y5E(d:Doc)(k:Int)(hn:d.nodes.length<=1048576)(hs:SortN d.nodes)(hh:hasN d.nodes k=true):FC Tryz.prog 49 [.t (docT d),VI k] (app emp []) (VI (lobN d.nodes k:Int)) (app emp []):=by
 have:=z4e d k hn hs
 rw[z7U hh] at this;exact this
theorem y9i(f:List Elem)(hn:f.length<=1048576){L:List Int}(h:plcL f 0 f.length=L):FC Tryz.prog 48 [VL 3 elemT f,VI 0] (app emp []) (VL 1 intT L) (app emp []):=h▸z9h f 0 (by omega)
theorem z9B(l:List Int)(g:Int)(hn:l.length<=1048576)(hs:l.Pairwise (·< ·)){z:Int}(h:min (lobI l g:Int) ((l.length:Int)- 1)=z):FC Tryz.prog 50 [VI g,.ptr 0 0] (app emp [(0,.box [VL 1 intT l])]) (VI z) (app emp [(0,.box [VL 1 intT l])]):=h▸y64 l g hn hs
theorem y2R(d:Doc)(s:Sel)(c:List EOp)(p:Pl)(st:List DStep)(ax:List AxStep)(g0 g1:Int)(d2:Doc)(L:List Int)(z:Int)(hx:ThrB d s c p st ax g0 g1 d2 L z):FC Tryz.prog 20 [.t (docT d),.t (selT s),VL 19 eopT c] (app emp []) (.tup [.t (selT ({nd:=s.nd,fr:=z,tq:=z}:Sel)),VI 0]) (app emp []):=by
 refine .go Tryz.f20 ?_
 refine .len 2 (fun hl2=> ?_)
 obtain⟨hD,he0,hp,hsl,hso,hr,hap,he2,hd2,hc1,hck,hdv,hdn,hax,hav,hg0,hgb,hg1,hnl,hsr,hhi,hfl,hL,hll,hlo,hz⟩:=hx
 have hg02:gapP p.shown s.tq=g0:=by rw[hr.2.1];exact hg0
 have hlt:=(z0X.1 hhi).1
 refine .loop (α:=Int×Int×Nat) [.r [],.r [(2,X (Xc1 48 (y91 d s ({data:=#[]}) hD hp he0) X0))],.r [],.f,.r [(2,X (Xc1 136 (y5v d c hap hd2 he2) X0))],.r [],.f,.r [(4,X (Xc0 (y15 p.shown s.fr (by omega) hso (by first|exact hg0|exact hg02)) X0)),(9,X (Xc0 (y15 p.shown s.tq (by omega) hso (by first|exact hg0|exact hg02)) X0))],.r [(1,X (Xl eopT c))]] 328 (fun(x,y,i)=>([(4,.ptr 8 0),(6,.ptr 16 0),(10,.ptr 168 0),(11,VI x),(12,VI y),(49,VL 19 eopT c),(50,VI (c.length:Int)),(51,VI (i:Int))],[(8,.box [VI s.nd,VI s.fr,VI s.tq]),(16,.box [VI 0,VI 0,VI 0]),(168,.box [VL 9 nodeT d2.nodes])])) (fun(x,y,i)=>i<=1/\(i=0->x=g0/\y=g0)/\(i=1->x=g1/\y=g1)) (fun(x,y,i)=>1-i) (g0,g0,0) ?_ ?_
 ·
  exact⟨by omega,fun _=>⟨rfl,rfl⟩,fun h=>by omega⟩
 rintro⟨x,y,i⟩ I9 ih9
 try dsimp only at I9
 refine .bp [.r []] (decide ((i:Int)< (c.length:Int))) (fun h9=> ?_) (fun h9=> ?_)
 ·
  have hi0:i=0:=by omega
  have hk0:(c.getD i default).kind=2/\(c.getD i default).node=s.nd/\(c.getD i default).steps=st:=by rw[hi0];exact hck
  refine .bp [.r [(0,X (Xi eopT c (i:Int)))],.r [(5,Xv 1 (!((((c.getD i default)).kind) !=2)) X0),(7,Xv 1 (!((((c.getD i default)).kind) !=2)) X0),(8,Xv 2 (!((((c.getD i default)).kind) !=2)) X0),(9,X (Xk' ((((c.getD i default)).kind) !=2)))]] (((((c.getD i default)).kind) !=2)|| ((((c.getD i default)).node) !=s.nd)) (fun h11=> ?_) (fun h11=> ?_)
  ·
   exfalso
   omega
  ·
   refine .back [.r [(2,X (Xc1 464 (y92 (((c.getD i default)).steps) st hk0.2.2 hdv hdn hax) X0))],.r [(7,X (Xc0 (y5D ax x (s.fr==s.tq) hav (by rw[beq_iff_eq];omega) (by first|exact(I9.2.1 hi0).1|exact(I9.2.1 hi0).2) hgb hg1) X0))],.r [(7,X (Xc0 (y5D ax y (s.fr==s.tq) hav (by rw[beq_iff_eq];omega) (by first|exact(I9.2.1 hi0).1|exact(I9.2.1 hi0).2) hgb hg1) X0))],.r [(0,X (Xn ((i:Int)+1)))]] [(8,8),(16,16),(168,168)] (ih9 (g1,g1,(i+1)) ?_ ?_)
   ·
    exact⟨by omega,fun h=>by omega,fun _=>⟨rfl,rfl⟩⟩
   ·
    ((try dsimp only);omega)
 ·
  obtain⟨hx1,hy1⟩:=I9.2.2 (by omega)
  exact .finV [.r [(5,X (Xc0 (y5E d2 s.nd hnl hsr hhi) X0)),(6,X (Xi nodeT d2.nodes (lobN d2.nodes s.nd:Int))),(9,X (Xc1 408 (y9i (((d2.nodes.getD (lobN d2.nodes s.nd) default)).flow) hfl hL) X0))],.r [],.r [(4,X (Xc4 [(0,416)] (z9B (z:=z) L x hll hlo (by first| (rw[hx1];exact hz)| (rw[hy1];exact hz))) X0)),(7,X (Xc4 [(0,416)] (z9B (z:=z) L y hll hlo (by first| (rw[hx1];exact hz)| (rw[hy1];exact hz))) X0))]] [] []
end Go.Ch
end
section
namespace Go.Ch
open Go Go.Ab
theorem y65{l m:List Node}(h:l.map (·.id)=m.map (·.id))(k:Int):lobN l k=lobN m k:=by
 have e:∀l:List Node,lobN l k=((l.map (·.id)).takeWhile (fun z=>decide (z<k))).length:=fun l=>by
  unfold lobN;rw[List.takeWhile_map,qk];rfl
 rw[e,e,h]
theorem y5F{l m:List Node}(h:l.map (·.id)=m.map (·.id))(i:Nat):(l.getD i default).id=(m.getD i default).id:=by
 have e:∀l:List Node,((l.map (·.id))[i]?).getD (default:Node).id=(l.getD i default).id:=fun l=>by
  rw[q9,qc]
  cases l[i]? <;>rfl
 rw[<-e,<-e,h]
theorem y66{d:Doc}(h:DX (⟨UC++[],[]⟩:US) d)(f:List Elem):SortN (putF d f).nodes/\(putF d f).nodes.getD (lobN (putF d f).nodes 2) default={(ndN d.nodes 2) with flow:=f}/\hasN (putF d f).nodes 2=true:=by
 obtain⟨h1,h2,h3,h4,h5⟩:=h.nd
 have hi:(putF d f).nodes.map (·.id)=d.nodes.map (·.id):=by
  unfold putF
  rw[List.map_set]
  apply List.ext_getElem (by simp)
  intro i a b
  rw[List.getElem_set]
  split
  ·rename_i q;subst q
   simp only[List.getElem_map]
   show(ndN d.nodes 2).id=_
   unfold ndN;rw[qc,qa h2];rfl
  ·rfl
 have hl:(putF d f).nodes.length=d.nodes.length:=by unfold putF;rw[zl]
 have hlob:=y65 hi 2
 have hg:(putF d f).nodes.getD (lobN (putF d f).nodes 2) default={(ndN d.nodes 2) with flow:=f}:=by
  rw[hlob];unfold putF
  rw[qc,List.getElem?_set_self h2];rfl
 refine⟨fun p q hp hq=> ?_,hg,z0X.2 ⟨by rw[hlob,hl];exact h2,by rw[hg];exact h3⟩⟩
 rw[y5F hi,y5F hi]
 exact h.pp.gp.vd.srt p q hp (by omega)
theorem y5G{d:Doc}(x1:DX (⟨UC++[],[]⟩:US) d)(b:Int)(cs:List Int){f:List Elem}(hf:(ndN d.nodes 2).flow=f){P:List Int}(hP:plcL f 0 f.length=P)(h:0<=b/\b< (P.length:Int))(hc:∀c∈cs,CharP c)(hl:cs.length<=1000000):
 ∃st es,typeO d ⟨2,b,b⟩ cs mtB=[opF 2 st]/\DU_ (⟨UC++[],[]⟩:US) st (List.replicate (gapP P b).toNat (.K [])++(es.map .A++List.replicate (f.length- (gapP P b).toNat) (.K [])))/\es.length=cs.length/\(∀y∈es,hidX y 0=false)/\
  (gapP P b).toNat<f.length/\appD d [opF 2 st]=putF d (f.take (gapP P b).toNat++(es++f.drop (gapP P b).toNat))/\∀x∈f.take (gapP P b).toNat++(es++f.drop (gapP P b).toNat),RU (⟨UC++[],[]⟩:US) x:=by
 have hN:=z9u [] (by simp) [] (fun v hv=>by cases hv)
 have hU:=hN.toUB
 obtain⟨g1,g2⟩:=x1.flow
 rw[hf] at g1 g2
 have hau:seq mtB mtB=true\/valGo mtB=true:= .inl (by decide+kernel)
 have hAu:AuB (⟨UC++[],[]⟩:US) mtB:=⟨hau,by simp⟩
 obtain⟨t1,t2⟩:=x1.at (a:=b) (b:=b) (au:=mtB) (by rw[hf,hP];omega) hau
 obtain⟨p1,p2,p3,p4,p5⟩:=z1K hU x1.pp (by omega) (by simp) t1
 have he:=z4l p1 p3 (s:=⟨2,b,b⟩) (fun c hc'=>⟨hc c hc',y5t (hc c hc')⟩)
 have hsn:=z7b p1 p3 (s:=⟨2,b,b⟩) (cs:=cs)
 have hlen:(typEl (atP d ⟨2,b,b⟩ mtB) ⟨2,b,b⟩ cs).length=cs.length:=z2b _ _ _
 generalize hes:typEl (atP d ⟨2,b,b⟩ mtB) ⟨2,b,b⟩ cs=es at he hsn hlen
 have hg:=z6x (f:=f) (a:=b) (b:=b) (by rw[hP];omega)
 rw[hP] at hg
 obtain⟨k0,k1,k2⟩:=hg
 generalize hk:(gapP P b).toNat=k at k1 k2
 have hkk:gapP P b=(k:Int):=by omega
 have e1:=(z9e (cs:=cs) t1).1
 have e3:stpP (atP d ⟨2,b,b⟩ mtB) ⟨2,b,b⟩ es=joinD (ersD f [] mtB) (z0R (typD f.length k es mtB) (ersD f [] mtB)):=by
  rw[t2,hf,hP];unfold stpP ersP typP;simp only[hf,hkk,List.drop_take,Nat.sub_self,List.take_zero]
 rw[hes,e3] at e1
 obtain⟨_,T⟩:=y0k hU.len (n:=f.length) (k:=(k:Int)) (es:=es) (au:=mtB) (by omega) (by omega) (by omega) (z9o hU hAu) he
 obtain⟨_,E⟩:=y0l hU.len (f:=f) (pl:=[]) (au:=mtB) (by omega) (y46 hU hAu)
 rw[show(k:Int).toNat=k by omega] at T
 rw[y61] at E
 have tf:=z1H (n:=f.length) (k:=k) (es:=es) (au:=mtB) (by omega)
 have le:=z03 f.length []
 have tl:=T.lens
 have el:=E.lens
 have E2:=E
 obtain⟨Q,p1',p2'⟩:=z6q hU.len T E (by omega) (by omega)
 obtain⟨J,j1,j2⟩:=z72 hU.len E Q p1'.symm
 have nC:DU.C∉typUs f.length k es mtB:=fun h=>by
  unfold typUs at h
  rcases qm.1 h with h|h
  ·cases qV h
  ·rcases qm.1 h with h|h
   ·obtain⟨_,_,h⟩:=qy.1 h;cases h
   ·cases qV h
 have nA:∀e,DU.A e∉List.replicate f.length (DU.K []):=fun e h=>by cases qV h
 have eT:exD (typD f.length k es mtB)=typUs f.length k es mtB:=(z6v T.sw.symm (.inr nC)).symm
 have eE:exD (ersD f [] mtB)=List.replicate f.length (.K []):=(z6v E.sw.symm (.inl nA)).symm
 rw[eT,eE] at Q
 have isA:∀u∈(es.map (typE mtB)).map DU.A,∃x,u= .A x:=fun u hu=>by
  obtain⟨x,_,rfl⟩:=qy.1 hu;exact⟨x,rfl⟩
 have hn:f.length=k+(f.length-k):=by omega
 have pt:=y13 ((es.map (typE mtB)).map .A) isA (f.length-k) k
 have jt:=y14 ((es.map (typE mtB)).map .A) isA (f.length-k) k
 rw[<-hn] at pt jt
 have ut:typUs f.length k es mtB=List.replicate k (.K [])++((es.map (typE mtB)).map .A++List.replicate (f.length-k) (.K [])):=rfl
 rw[ut,pt] at Q
 have eQ:exD (z0R (typD f.length k es mtB) (ersD f [] mtB))=List.replicate k (.K [])++((es.map (typE mtB)).map .A++List.replicate (f.length-k) (.K [])):=(z6v Q.sw.symm (.inr nC)).symm
 rw[eE,eQ,jt] at J
 have a1:z0i (List.replicate k (.K [])++((es.map (typE mtB)).map .A++List.replicate (f.length-k) (.K []))) f=f.take k++(es.map (typE mtB)++f.drop k):=by
  rw[z19,z58,zI (g:=id) (fun x _=>z1J x),List.map_id]
  congr 2
  have:=z19 (f.length-k) [] [] (f.drop k)
  rw[qG] at this
  rw[this,zI (g:=id) (fun x _=>z1J x),List.map_id,qp (by rw[zr];omega)]
  simp[z0i]
 have r:=x1.op hU x1.pp J (by rw[hf,<-ut];exact tf.1) (by rw[z29 _ (by simp;omega),z29 _ (by simp;omega),show f.length-k=(f.length-k- 1)+1 by omega,List.replicate_succ'];exact z7a _ _) (fun t ht x hx=>by
  have hA:DU.A x∈exD (joinD (ersD f [] mtB) (z0R (typD f.length k es mtB) (ersD f [] mtB))):=z9v ht (by
   rcases J.v.1.all t ht with q| ⟨_,e,_⟩
   ·exact q.1
   ·rw[e] at hx;cases hx) hx
  have h1:=(z4I J.sw _).1 hA
  rcases qm.1 h1 with h1|h1
  ·cases qV h1
  ·rcases qm.1 h1 with h1|h1
   ·obtain⟨y,hy,h1⟩:=qy.1 h1
    cases h1
    obtain⟨z,hz,rfl⟩:=qy.1 hy
    exact(hsn z hz).2
   ·cases qV h1)
 have hru:∀x∈z0i (List.replicate k (.K [])++((es.map (typE mtB)).map .A++List.replicate (f.length-k) (.K []))) f,RU (⟨UC++[],[]⟩:US) x:=z1y _ f J.all g1.ru
 rw[hf,a1] at r
 rw[a1] at hru
 refine⟨_,es.map (typE mtB),e1,J,by rw[qk,hlen],fun y hy=> ?_,k1,r.2.2,hru⟩
 obtain⟨x,hx,rfl⟩:=qy.1 hy
 exact z9y (he x hx).2.g (z9o hU hAu).g (hsn x hx).1
structure Ok40(raw:List Int)(a b:Int)(t:ByteArray)(d:Doc)(n:Node)(v:List Elem)(A B:Int)(o:List EOp)(p:Pl)(st:List DStep)(ax:List AxStep)(g0 g1:Int)(d2:Doc)(L:List Int)(z:Int):Prop where
 hd:z1B 0 raw baseD 0=d
 hn:nodeF d 2=n
 hn2:nodeH d 2=true
 hv:visR n.flow=v
 hA:z0c a 0 ((v.length:Int)- 1)=A
 hB:z0c b 0 ((v.length:Int)- 1)=B
 doc:DocL d
 fl:n.flow.length<=1048576
 pl:∀x∈shwR n.flow n.flow.length,0<=x/\x< (n.flow.length:Int)
 vl:1<=v.length/\v.length<=1000000
 each:(ofR t).2=0->t.size<=200->(typeO d ⟨2,B,B⟩ (ofR t).1 {data:=#[]}=o/\typeS d ⟨2,B,B⟩ (ofR t).1 {data:=#[]}=⟨2,B+(ofR t).1.length,B+(ofR t).1.length⟩/\atE d ⟨2,B,B⟩ {data:=#[]}=0/\TypB d ⟨2,B,B⟩ (ofR t).1 {data:=#[]})/\
  ThrB d ⟨2,A,A⟩ o p st ax g0 g1 d2 L z/\z=if B<=A then A+(ofR t).1.length else A
theorem y93{d:Doc}(x1:DX (⟨UC++[],[]⟩:US) d){f:List Elem}(hf:(ndN d.nodes 2).flow=f)(a b:Int)(t:ByteArray){P:List Int}(hP:plcL f 0 f.length=P)(ha:0<=a/\a< (P.length:Int))(hb:0<=b/\b< (P.length:Int))(ht:(ofR t).2=0)(hn:t.size<=200):
 ∃o p st ax g0 g1 d2 L z,(typeO d ⟨2,b,b⟩ (ofR t).1 {data:=#[]}=o/\typeS d ⟨2,b,b⟩ (ofR t).1 {data:=#[]}=⟨2,b+(ofR t).1.length,b+(ofR t).1.length⟩/\atE d ⟨2,b,b⟩ {data:=#[]}=0/\TypB d ⟨2,b,b⟩ (ofR t).1 {data:=#[]})/\
  ThrB d ⟨2,a,a⟩ o p st ax g0 g1 d2 L z/\z=if b<=a then a+(ofR t).1.length else a:=by
 obtain⟨c1,c2,c3⟩:=y4Y _ t rfl
 have hN:=z9u [] (by simp) [] (fun v hv=>by cases hv)
 obtain⟨g1',g2'⟩:=x1.flow
 obtain⟨n1,n2,n3,n4,n5⟩:=x1.nd
 rw[hf] at g1' g2'
 have hau:seq mtB mtB=true\/valGo mtB=true:= .inl (by decide+kernel)
 obtain⟨t1,t2,t3,t4,t5,_⟩:=y6V x1 b b (ofR t).1 mtB hf hP (by omega) hau c1 (by omega)
 obtain⟨st,es,u1,u2,u3,u4,u5,u6,u7⟩:=y5G x1 b (ofR t).1 hf hP hb c1 (by omega)
 have ga:=z6x (f:=f) (a:=a) (b:=a) (by rw[hP];omega)
 have gb:=z6x (f:=f) (a:=b) (b:=b) (by rw[hP];omega)
 rw[hP] at ga gb
 obtain⟨s1,s2⟩:=x1.at (a:=a) (b:=a) (au:=mtB) (by rw[hf,hP];omega) hau
 rw[hf,hP] at s2
 generalize hk:(gapP P b).toNat=k at u2 u5 u6 u7 gb
 generalize hx:(gapP P a).toNat=x at ga
 have hxx:gapP P a=(x:Int):=by omega
 obtain⟨v1,v2,v3,v4⟩:=y9Y u2.v
 have lf:=z1H (n:=f.length) (k:=k) (es:=es) (au:=mtB) (by omega)
 have ul:=u2.lens
 have lo:oldN (List.replicate k (DU.K [])++(es.map .A++List.replicate (f.length-k) (.K [])))=f.length:=by
  rw[z0B,z0B,(z03 _ _).1,(z03 _ _).1,(z1G _).1];omega
 have ex1:ex (axD st)=rep k .K++(rep es.length .A++rep (f.length-k) .K):=by
  have nC:DU.C∉List.replicate k (DU.K [])++(es.map .A++List.replicate (f.length-k) (.K [])):=fun h=>by
   rcases qm.1 h with h|h
   ·cases qV h
   ·rcases qm.1 h with h|h
    ·obtain⟨_,_,h⟩:=qy.1 h;cases h
    ·cases qV h
  rw[v2,<-z6v u2.sw.symm (.inr nC)]
  simp only[qU,List.map_replicate,List.map_map]
  unfold rep forg
  congr 2
  rw[<-List.map_const']
  rfl
 have hg1:gapS (axD st) (x:Int) true 0 0=((if k<=x then x+es.length else x:Nat):Int):=by
  rw[z8f v1.1,ex1,y60 _ _ _ _ (by omega) (by omega)]
  split<;>split<;>omega
 generalize hG:f.take k++(es++f.drop k)=G at u6 u7
 have lG:G.length=f.length+es.length:=by rw[<-hG];simp;omega
 have cnt:=z9z (f:=f) (es:=es) (k:=k) (x:=x) u5 ga.2.1 u4
 rw[hG] at cnt
 have le:(if k<=x then x+es.length else x)<=G.length:=by split<;>omega
 have hlob:=y62 G le
 rw[cnt,ga.2.2] at hlob
 have mono:k<=x↔b<=a:=by
  have mm:∀{i j:Nat},i<=j->((List.range i).filter (visB f 0)).length<=((List.range j).filter (visB f 0)).length:=fun {i j} h=>by
   have:List.range j=List.range i++List.range' i (j-i):=by
    rw[zo,zo]
    have:=z8 (s:=0) (m:=i) (n:=j-i)
    rw[zq] at this
    rw[this];congr 1;omega
   rw[this,qW,qf];omega
  constructor
  ·intro h
   have:=mm h
   rw[ga.2.2,gb.2.2] at this;omega
  ·intro h
   apply qd;intro q
   have:=mm (show x<=k by omega)
   rw[ga.2.2,gb.2.2] at this
   have e:a=b:=by omega
   subst e
   omega
 have tot:(plcL G 0 G.length).length=P.length+es.length:=by
  have c:=z9z (f:=f) (es:=es) (k:=k) (x:=f.length- 1) u5 (by omega) u4
  rw[hG,if_pos (by omega),if_pos (by omega)] at c
  have vis:∀(F:List Elem),0<F.length->(F.getD (F.length- 1) default).char=10->(plcL F 0 F.length).length=((List.range (F.length- 1)).filter (visB F 0)).length+1:=fun F hF hc=>by
   rw[z1s]
   unfold plcN
   conv=>lhs;rw[show F.length=(F.length- 1)+1 by omega,zF,qW,qf]
   congr 1
   rw[zO,if_pos (z4J (.inr ⟨by omega,hc⟩))]
   rfl
  have hp:=g1'.pos
  have r1:=vis f hp g1'.last
  have r2:=vis G (by omega) (by
   rw[lG,<-hG,z3D,if_neg (by rw[qS];omega),z3D,if_neg (by rw[qS];omega)]
   rw[qc,qO,<-List.getD_eq_getElem?_getD,qS]
   rw[show k+(f.length+es.length- 1-min k f.length-es.length)=f.length- 1 by omega]
   exact g1'.last)
  rw[hP] at r1
  rw[show G.length- 1=f.length- 1+es.length by omega,c] at r2
  omega
 have hnode:∀(F:List Elem),(putF d F).nodes.getD (lobN (putF d F).nodes 2) default={(ndN d.nodes 2) with flow:=F}/\hasN (putF d F).nodes 2=true/\SortN (putF d F).nodes:=fun F=>by
  have hs:=y66 x1 F
  exact⟨hs.2.1,hs.2.2,hs.1⟩
 obtain⟨h1,h2,h3⟩:=hnode G
 refine⟨_,_,st,axD st,x,_,_,plcL G 0 G.length,_,⟨rfl,t5,t1,t2⟩,⟨x1.pp.docL hN.toUB (by omega),s1,rfl,?_,?_,?_,t3,t4,rfl,?_,?_,u2.v,(u2.dn hN.toUB.len).mono (by omega),rfl,v1,?_,?_,hg1,?_,?_,?_,?_,?_,?_,?_,rfl⟩,?_⟩
 ·rw[show atP d ⟨2,a,a⟩ {data:=#[]}=_ from s2];show P.length<=_;rw[<-hP,z1s];unfold plcN;exact qM (zB _ _) (by rw[List.length_range];omega)
 ·rw[show atP d ⟨2,a,a⟩ {data:=#[]}=_ from s2];intro y hy
  have:y∈P:=hy
  rw[<-hP] at this
  have:=z73 this
  omega
 ·rw[show atP d ⟨2,a,a⟩ {data:=#[]}=_ from s2];exact⟨ha.1,rfl,by show a<=(P.length:Int);omega⟩
 ·show(typeO d ⟨2,b,b⟩ (ofR t).1 mtB).length=1;rw[u1];rfl
 ·have e:typeO d ⟨2,b,b⟩ (ofR t).1 {data:=#[]}=[opF 2 st]:=u1
  rw[e];exact⟨rfl,rfl,rfl⟩
 ·rw[show atP d ⟨2,a,a⟩ {data:=#[]}=_ from s2];exact hxx
 ·rw[v3,ul.1,lo];omega
 ·show(appD d (typeO d ⟨2,b,b⟩ (ofR t).1 mtB)).nodes.length<=_;rw[u1,u6];unfold putF;rw[zl];have:=x1.pp.len;omega
 ·show SortN (appD d (typeO d ⟨2,b,b⟩ (ofR t).1 mtB)).nodes;rw[u1,u6];exact h3
 ·show hasN (appD d (typeO d ⟨2,b,b⟩ (ofR t).1 mtB)).nodes 2=true;rw[u1,u6];exact h2
 ·show((appD d (typeO d ⟨2,b,b⟩ (ofR t).1 mtB)).nodes.getD (lobN (appD d (typeO d ⟨2,b,b⟩ (ofR t).1 mtB)).nodes 2) default).flow.length<=_;rw[u1,u6,h1];show G.length<=_;omega
 ·have e:appD d (typeO d ⟨2,b,b⟩ (ofR t).1 {data:=#[]})=putF d G:=by rw[show typeO d ⟨2,b,b⟩ (ofR t).1 {data:=#[]}=[opF 2 st] from u1,u6]
  rw[e,h1]
 ·rw[tot];have:P.length<=f.length:=by rw[<-hP,z1s];unfold plcN;exact qM (zB _ _) (by rw[List.length_range];omega)
  omega
 ·unfold plcL;exact List.Pairwise.map _ (fun i j h=>by omega) (y5s G G.length)
 ·rw[hlob,tot]
  by_cases q:k<=x
  ·rw[if_pos q,if_pos (mono.1 q)];omega
  ·rw[if_neg q,if_neg (fun z=>q (mono.2 z))];omega
theorem y9j(raw:List Int)(a b:Int)(t:ByteArray):∃d n v A B o p st ax g0 g1 d2 L z,Ok40 raw a b t d n v A B o p st ax g0 g1 d2 L z:=by
 have hN:=z9u [] (by simp) [] (fun v hv=>by cases hv)
 have x1:=y6P hN raw
 generalize hd:z1B 0 raw baseD 0=d at x1
 obtain⟨g1,g2⟩:=x1.flow
 obtain⟨s1,s2⟩:=g1.plc
 generalize hf:(ndN d.nodes 2).flow=f at g1 g2 s1 s2
 have hv:visR f=visF f:=y88 s1
 have hl:=y9b f
 have w1:=z0m a (lo:=0) (hi:=((visF f).length:Int)- 1) (by omega)
 have w2:=z0m b (lo:=0) (hi:=((visF f).length:Int)- 1) (by omega)
 have hl2:(plcL f 0 f.length).length<=f.length:=by rw[z1s];unfold plcN;exact qM (zB _ _) (by rw[List.length_range];omega)
 have hp:∀x∈shwR (nodeF d 2).flow (nodeF d 2).flow.length,0<=x/\x< ((nodeF d 2).flow.length:Int):=by
  rw[x1.node.1,hf,s1]
  exact fun x hx=>z73 hx
 by_cases q:(ofR t).2=0/\t.size<=200
 ·obtain⟨o,p,st,ax,g0,g1',d2,L,z,h⟩:=y93 x1 hf (z0c a 0 (((visF f).length:Int)- 1)) (z0c b 0 (((visF f).length:Int)- 1)) t rfl (by omega) (by omega) q.1 q.2
  exact⟨d,nodeF d 2,visF f,_,_,o,p,st,ax,g0,g1',d2,L,z,hd,rfl,x1.node.2,by rw[x1.node.1,hf,hv],rfl,rfl,x1.pp.docL hN.toUB (by omega),by rw[x1.node.1,hf];omega,hp,by omega,fun _ _=>h⟩
 ·exact⟨d,nodeF d 2,visF f,_,_,[],z48,[],[],0,0,d,[],0,hd,rfl,x1.node.2,by rw[x1.node.1,hf,hv],rfl,rfl,x1.pp.docL hN.toUB (by omega),by rw[x1.node.1,hf];omega,hp,by omega,fun h1 h2=>absurd ⟨h1,h2⟩ q⟩
end Go.Ch
end
section
set_option maxRecDepth 100000
set_option maxHeartbeats 4000000
open Go Go.Proofs Go.Ab
namespace Go.Ch
theorem y67(raw:List Int)(a b:Int)(t:ByteArray)(G:Nat->Doc->Prop)(hI:GInv 0 G)(hg:G 0 baseD)(hs:t.size<=1000000000)(d:Doc)(n:Node)(v:List Elem)(A B:Int)(o:List EOp)(p:Pl)(st:List DStep)(ax:List AxStep)(g0 g1:Int)(d2:Doc)(L:List Int)(z:Int)(hx:Ok40 raw a b t d n v A B o p st ax g0 g1 d2 L z):FC Tryz.prog 5 [VL 1 intT raw,VI a,VI b,VS t] (app emp []) (VB true) (app emp []):=by
 refine .go Tryz.f5 ?_
 refine .len 0 (fun hl0=> ?_)
 obtain⟨hd,hn,hn2,hv,hA,hB,hD,hfl,hpl,hvl,heach⟩:=hx
 have hw:=z0m a (lo:=0) (hi:=(v.length:Int)- 1) (by omega)
 rw[hA] at hw
 have hw2:=z0m b (lo:=0) (hi:=(v.length:Int)- 1) (by omega)
 rw[hB] at hw2
 refine .bp [.r [],.r [(0,X (Xc0 y6Q X0))],.f,.r [(1,X (Xc1 32 (y5u raw G hI hg hd) X0))],.r [(1,X (Xc1 64 (y6X d hD hn hn2) X0))],.r [(2,X (Xc1 136 (y9a n.flow hfl hpl hv) X0))],.r [(2,X (Xl elemT v)),(3,X (Xn ((v.length:Int)- 1))),(4,X (Xc0 (z7c a 0 ((v.length:Int)- 1) (by omega) hA) X0)),(7,X (Xl elemT v)),(8,X (Xn ((v.length:Int)- 1))),(9,X (Xc0 (z7c b 0 ((v.length:Int)- 1) (by omega) hB) X0))],.r [(1,X (Xc1 256 (y40 t (by omega)) X0))],.r [(4,Xv 1 (!(((ofR t).2) !=0)) X0),(5,Xv 1 (!(((ofR t).2) !=0)) X0),(6,X (Xk' (((ofR t).2) !=0)))]] ((((ofR t).2) !=0)||decide ((t.size:Int)> 200)) (fun h8=> ?_) (fun h8=> ?_)
 ·
  exact .fin [.r []] []
 ·
  have hz:(ofR t).2=0/\t.size<=200:=by omega
  obtain⟨⟨ho,hS,he,htb⟩,hth,hz3⟩:=heach hz.1 hz.2
  have hle:=ofL_l (l:=[]) hz.1
  have hcl:=(y4Y _ t rfl).2.1
  have hof:=ofAny t hz.1 (by omega)
  refine .bp [.r [(5,X (Xc1 400 (y6W d ({nd:=2,fr:=B,tq:=B}:Sel) t (ofR t).1 ({data:=#[]}) hof hD (by omega) (fun _=>htb) ho hS he) X0))],.r [(5,X (Xc0 (y2R d ({nd:=2,fr:=A,tq:=A}:Sel) o p st ax g0 g1 d2 L z hth) X0))],.r [],.r []] (decide (B<=A)) (fun h13=> ?_) (fun h13=> ?_)
  ·
   refine .bp [.r [(2,X (Xl elemT (ofL t []))),(3,X (Xn (A+((ofL t []).length:Int))))],.r [(4,Xv 1 (!false) X0),(5,X (Xk' false)),(8,Xv 1 (!(false||false)) X0),(10,Xv 1 (!(false||false)) X0),(11,Xv 2 (!(false||false)) X0),(12,X (Xk' (false||false)))]] ((false||false)|| (((({nd:=2,fr:=z,tq:=z}:Sel)).fr) !=((({nd:=2,fr:=z,tq:=z}:Sel)).tq))) (fun h15=> ?_) (fun h15=> ?_)
   ·
    exfalso
    simp at h15
   ·
    have e1:((((({nd:=2,fr:=z,tq:=z}:Sel)).fr)==(A+((ofL t []).length:Int))):Bool)=true:=by
     (first|rw[if_pos (by omega)] at hz3|rw[if_neg (by omega)] at hz3);show(z==_)=true;rw[beq_iff_eq];omega
    exact .finE [.r []] [] (fun z0:Bool=>(VB z0,[])) _ _ e1.symm
  ·
   refine .bp [.r [(4,Xv 1 (!false) X0),(5,X (Xk' false)),(8,Xv 1 (!(false||false)) X0),(10,Xv 1 (!(false||false)) X0),(11,Xv 2 (!(false||false)) X0),(12,X (Xk' (false||false)))]] ((false||false)|| (((({nd:=2,fr:=z,tq:=z}:Sel)).fr) !=((({nd:=2,fr:=z,tq:=z}:Sel)).tq))) (fun h15=> ?_) (fun h15=> ?_)
   ·
    exfalso
    simp at h15
   ·
    have e2:((((({nd:=2,fr:=z,tq:=z}:Sel)).fr)==A):Bool)=true:=by
     (first|rw[if_pos (by omega)] at hz3|rw[if_neg (by omega)] at hz3);show(z==_)=true;rw[beq_iff_eq];omega
    exact .finE [.r []] [] (fun z0:Bool=>(VB z0,[])) _ _ e2.symm
theorem y68(raw:List Int)(a b:Int)(t:ByteArray)(hs:t.size<=1000000000):FC Tryz.prog 5 [VL 1 intT raw,VI a,VI b,VS t] (app emp []) (VB true) (app emp []):=by
 obtain⟨d,n,v,A,B,o,p,st,ax,g0,g1,d2,L,z,h⟩:=y9j raw a b t
 exact y67 raw a b t _ (y8V un_0 rfl (s:=0) (by omega)) (y5g un_0) hs d n v A B o p st ax g0 g1 d2 L z h
end Go.Ch
end
section
namespace Go.Ab
open Go Go.Proofs.YtlgmgpnjkadhfaaGreatDoor
variable {P:Program} {W:World}
def RdM(P:Program)(t:TypeId)(k:Nat){α:Type}(f:α->Tree)(μ:α->Nat):Prop:=
 (∀a,Elt k (f a))/\P.cellsOf t=k/\∀(H:Type) (enc:TypeId×Value->H) (W:World) (fuel:Nat) (cs:List Value) (x:DataW H×List MemPlace),
  DataW.trod enc P W 0 (fun _=>true) true fuel t cs=some x->∃a:α,y3s W (f a).cells cs/\μ a<=Rows.uptoBulk x.1
theorem y16{H:Type}(d:DataW H):1<=Rows.uptoBulk d:=by
 cases d with
 |lit l=>cases l<;>simp[Rows.uptoBulk]
 |_=>simp[Rows.uptoBulk]
theorem RdM.int{t:TypeId}{k:IntKind}(ht:P.underlying t=some (.int k))(hc:P.cellsOf t=1):RdM P t 1 (fun z:Int=> .sc (.int k z)) (fun _=>1):=by
 refine⟨fun _=>elt1,hc,fun H enc W fuel cs x h=> ?_⟩
 obtain⟨n,rfl,_,_⟩:=DataW.trod_int ht h
 exact⟨n,y0V rfl (.sc _ rfl),y16 _⟩
theorem RdM.str{t:TypeId}(ht:P.underlying t=some .string)(hc:P.cellsOf t=1):RdM P t 1 (fun s:ByteArray=> .sc (.string s)) (fun s=>s.size+1):=by
 refine⟨fun _=>elt1,hc,fun H enc W fuel cs x h=> ?_⟩
 obtain⟨n,rfl,rfl,_⟩:=DataW.trod_string ht h
 exact⟨n,y0V rfl (.sc _ rfl),by simp[Rows.uptoBulk]⟩
theorem y7H{α H:Type}{μ:α->Nat}:∀{l:List α} {es:List (DataW H)},l.length=es.length->(∀(i:Nat) (a:α) (d:DataW H),l[i]? =some a->es[i]? =some d->μ a<=Rows.uptoBulk d)->(l.map μ).sum<=Rows.uptoBulkAll es
 | [],es,_,_=>by simp
 |a::l,[],h,_=>by simp at h
 |a::l,d::es,h,hi=>by
  have h0:=hi 0 a d rfl rfl
  have ih:=y7H (l:=l) (es:=es) (by simpa using h) (fun i a' d' h1 h2=>hi (i+1) a' d' (by simpa using h1) (by simpa using h2))
  simp only[qZ,List.sum_cons,Rows.uptoBulkAll]
  omega
theorem RdM.slice{t e:TypeId}{k:Nat}{α:Type}{f:α->Tree}{μ:α->Nat}(ht:P.underlying t=some (.slice e))(hk:0<k)(hc:P.cellsOf t=1)(he:RdM P e k f μ):RdM P t 1 (fun l:List α=> .lst k (l.map f)) (fun l=>(l.map μ).sum+1):=by
 obtain⟨h1,h2,h3⟩:=he
 refine⟨fun l=>⟨rfl,fun T hT=>by simp[Tree.cells] at hT;subst hT;rfl⟩,hc,fun H enc W fuel cs x h=> ?_⟩
 have hx:∀l:List α,∀x∈l.map f,Elt k x:=fun l x hx=>by
  obtain⟨a,_,rfl⟩:=qy.1 hx
  exact h1 a
 rcases DataW.trod_slice ht h with⟨rfl,hx0⟩| ⟨a,len,cap,elems,rest,n,_,rfl,hxe,hb,hl,hm,hlen,hel,_,_⟩
 ·refine⟨[],y0V rfl (.lst k [] none 0 [] hk (fun x hx=>by simp at hx) (qr _) (by simp[maxLen]) (fun h=>absurd rfl h) (by simp) (fun j T u hT=>by simp[flat] at hT)),?_⟩
  exact y16 _
 ·have key:∀i,i<len->∃y:α,(∃cs',cs'.length=k/\(∀r,r<k->W.cell? (a.add (i*k+r))=cs'[r]?)/\y3s W (f y).cells cs')/\∀d,(elems.map (·.1))[i]? =some d->μ y<=Rows.uptoBulk d:=by
   intro i hi
   have h4:=hel i hi
   have h5:elems[i]? =some elems[i]:=by rw[qa (by omega)]
   rw[h5,h2] at h4
   obtain⟨cs',h6,h7⟩:=qv.1 h4
   obtain⟨q1,q2,q3⟩:=World.cells?_some h6
   obtain⟨y,hy,hμ⟩:=h3 H enc W n cs' _ h7
   refine⟨y,⟨cs',q2,fun r hr=> ?_,hy⟩,fun d hd=> ?_⟩
   ·rw[<-q3 r hr]
    rw[Addr.add_add]
   ·rw[q9,h5] at hd
    simp only[ja,qb] at hd
    subst hd;exact hμ
  obtain⟨l,hl1,hl2'⟩:=y3t len _ key
  have hl2:=fun i a h=>(hl2' i a h).1
  have hspot:l≠[]->∃u,W.cell? a=some u:=by
   intro hne
   have h0:0<len:=by rw[<-hl1];exact je.2 hne
   obtain⟨cs',c1,c2,c3⟩:=hl2 0 l[0] (by rw[qa (by omega)])
   have:=c2 0 hk
   simp only[Nat.zero_mul,Nat.add_zero] at this
   rw[qa (by omega)] at this
   have e:a.add 0=a:=by simp[Addr.add]
   rw[e] at this
   exact⟨_,this⟩
  refine⟨l,y0V rfl ?_,?_⟩
  rotate_left
  ·rw[hxe]
   simp only[Rows.uptoBulk]
   have:=y7H (μ:=μ) (l:=l) (es:=elems.map (·.1)) (by simp[hl1,hlen]) (fun i y d h1 h2=>(hl2' i y h1).2 d h2)
   omega
  have hget:∀j,j<len*k->∃u,W.cell? (a.add j)=some u/\∀T,(flat (l.map f))[j]? =some T->TRep W (fun b=>b<W.heap.size) T u:=by
   intro j hj
   have hi:j/k<len:=Nat.div_lt_of_lt_mul (by rw[Nat.mul_comm];exact hj)
   have hr:j%k<k:=Nat.mod_lt _ hk
   have hji:j=j/k*k+j%k:=by rw[Nat.mul_comm];exact(Nat.div_add_mod j k).symm
   obtain⟨cs',c1,c2,c3⟩:=hl2 (j/k) l[j/k] (by rw[qa (by omega)])
   have c4:=c2 (j%k) hr
   rw[<-hji,qa (by omega)] at c4
   refine⟨_,c4,fun T hT=> ?_⟩
   rw[hji,z3a (hx l) (i:=j/k) (X:=f l[j/k]) (by simp[qa (show j/k<l.length by omega)]) hr] at hT
   exact c3.2 (j%k) T _ hT (by rw[qa (by omega)])
  obtain⟨us,hu1,hu2⟩:=y3t (len*k) _ hget
  have hlm:(l.map f).length=len:=by simp[hl1]
  have:=TRep.lst (w:=W) (ok:=fun b=>b<W.heap.size) k (l.map f) (some a) cap us hk (hx l) (by omega) hm (fun hne=> ?_) (by rw[hlm];exact hu1) (fun j T u hT hu=>(hu2 j u hu).2 T hT)
  ·rw[hlm] at this;exact this
  ·obtain⟨u,hu⟩:=hspot (fun e=>hne (by rw[e];rfl))
   have hs:=World.cell?_spot hu
   obtain⟨b,o,sp⟩:=a
   simp only at hs
   subst hs
   refine⟨b,o,rfl,?_,fun j u hj=> ?_⟩
   ·simp only[World.cell?] at hu
    by_cases hb:b<W.heap.size
    ·exact hb
    ·rw[Array.getElem?_eq_none (by omega)] at hu;simp at hu
   ·have:=(hu2 j u hj).1
    rw[z0S] at this
    exact this
theorem RdM.arg{t:TypeId}{α:Type}{f:α->Tree}{μ:α->Nat}(h:RdM P t 1 f μ)(h1:∀a,(f a).isCell=true){H:Type}{enc:TypeId×Value->H}{v:Value}{d:DataW H}{ps:List MemPlace}(hd:DataW.Trod enc P W 0 (fun _=>true) true t v d ps)(hv:v.cells.toList=[v]):
 ∃a,TRep W (fun b=>b<W.heap.size) (f a) v/\μ a<=Rows.uptoBulk d:=by
 obtain⟨fuel,hf⟩:=hd
 obtain⟨a,⟨c1,c2⟩,c3⟩:=h.2.2 H enc W fuel _ _ hf
 refine⟨a,c2 0 _ _ ?_ (by rw[hv];rfl),c3⟩
 cases hfa:f a with
 |agg cs=>have:=h1 a;rw[hfa] at this;cases this
 |sc v=>rfl
 |lst k xs=>rfl
theorem y2S{H:Type}{l:List (DataW H)}(hk:Rows.uptoSmall H l=true):Rows.uptoBulkAll l<=1048576:=of_decide_eq_true hk
end Go.Ab
end
section
namespace Go.Proofs.YtlgmgpnjkadhfaaGreatDoor.frame
open Go Go.Proofs
def chs(l:List Nat):List Char:=l.map Char.ofNat
def w1:List Char:=chs [104,97,114,110,101,115,115]
def w2:List Char:=chs [51,57,57,56,55,51,102,56,99,48,99,49,49,50,102,101,48,51,97,52,54,55,48,49,49,54,56,51,98,52,54,53,57,99,50,53,101,57,99,57,56,51,57,97,100,57,57,56,97,50,100,57,48,49,56,51,53,51,102,99,53,52,102,54]
def w3:List Char:=chs [99,117,116]
def sp:Char:=Char.ofNat 32
theorem ws_sp(r:List Char):wordsSigns (sp::r)=[]::wordsSigns r:=rfl
theorem ws_c(c:Char)(r:List Char)(h:c≠sp):wordsSigns (c::r)=match wordsSigns r with
 |w::ws=>(c::w)::ws
 | []=>[[c]]:=by
 rw[wordsSigns.eq_def]
 split
 ·rename_i e;cases e
 ·rename_i e;simp only[List.cons.injEq] at e;exact absurd e.1 h
 ·rename_i e;simp only[List.cons.injEq] at e;obtain⟨rfl,rfl⟩:=e;rfl
theorem y17:∀(a:List Char),(a.all fun c=>c !=sp)=true->∀r,wordsSigns (a++sp::r)=a::wordsSigns r
 | [],_,r=>ws_sp r
 |c::a,h,r=>by
  simp only[List.all_cons,Bool.and_eq_true,bne_iff_ne] at h
  rw[List.cons_append,ws_c _ _ h.1,y17 a h.2 r]
theorem tl(l:List Char):(String.ofList l).toList=l:=String.toList_ofList
theorem k1:("harness" :String).toList=w1:=tl w1
theorem k2:("cut" :String).toList=w3:=tl w3
theorem k3:("gc" :String).toList=chs [103,99]:=tl (chs [103,99])
theorem k4:("spec" :String).toList=chs [115,112,101,99]:=tl (chs [115,112,101,99])
theorem k5:("carried" :String).toList=chs [99,97,114,114,105,101,100]:=tl (chs [99,97,114,114,105,101,100])
theorem lifts(r:List (List Char)):stripLifts liftWords (w3::r)=([],w3::r):=by
 unfold liftWords
 simp only[stripLifts]
 have key:∀l:List Nat,(w3==chs l)=false->∀(s:String),s=String.ofList (chs l)->(w3==s.toList)=false:=fun l h s e=>by rw[e,tl];exact h
 rw[if_neg (by rw[key [102,105,110,97,108,115] (by kernel_rfl) "finals" rfl];decide)]
 rw[if_neg (by rw[key [114,101,102,108,101,99,116,114,111,119,115] (by kernel_rfl) "reflectrows" rfl];decide)]
 rw[if_neg (by rw[key [108,101,97,110,114,111,119,115] (by kernel_rfl) "leanrows" rfl];decide)]
 rw[if_neg (by rw[key [111,110,101,98,117,105,108,100] (by kernel_rfl) "onebuild" rfl];decide)]
 rw[if_neg (by rw[key [112,117,98,108,105,99,115,117,109,115] (by kernel_rfl) "publicsums" rfl];decide)]
 rw[if_neg (by rw[key [101,113,103,117,97,114,100] (by kernel_rfl) "eqguard" rfl];decide)]
 rw[if_neg (by rw[key [111,119,110,117,110,115,97,102,101] (by kernel_rfl) "ownunsafe" rfl];decide)]
 rw[if_neg (by rw[key [108,105,98,98,101,115,105,100,101] (by kernel_rfl) "libbeside" rfl];decide)]
 rw[if_neg (by rw[key [111,119,110,98,101,115,105,100,101] (by kernel_rfl) "ownbeside" rfl];decide)]
 rw[if_neg (by rw[key [114,101,102,108,98,101,115,105,100,101] (by kernel_rfl) "reflbeside" rfl];decide)]
 rw[if_neg (by rw[key [97,108,105,97,115,101,115] (by kernel_rfl) "aliases" rfl];decide)]
 rw[if_neg (by rw[key [97,102,116,101,114,105,110,105,116] (by kernel_rfl) "afterinit" rfl];decide)]
 rw[if_neg (by rw[key [99,114,99,112,108,97,105,110] (by kernel_rfl) "crcplain" rfl];decide)]
 rw[if_neg (by rw[key [114,111,97,100,117,110,115,97,102,101] (by kernel_rfl) "roadunsafe" rfl];decide)]
 rw[if_neg (by rw[key [102,109,116,104,97,110,100,111,110] (by kernel_rfl) "fmthandon" rfl];decide)]
theorem words{P:Program}{rest:List Char}(h:P.initOrder.toList=w1++sp::(w2++sp::(w3++sp::rest))):behindMainWord (wordsSigns P.initOrder.toList)=w3::wordsSigns rest:=by
 rw[h,y17 w1 (by kernel_rfl),y17 w2 (by kernel_rfl),y17 w3 (by kernel_rfl)]
 unfold behindMainWord
 rw[k1]
 exact if_pos (by kernel_rfl)
theorem may{P:Program}{rest:List Char}(h:P.initOrder.toList=w1++sp::(w2++sp::(w3++sp::rest)))(hl:P.laysLater=false)(hb:P.bearsReflect=false)(hd:P.doorFits []=true):P.mayEnter=true:=by
 unfold Program.mayEnter
 rw[words h]
 simp only[lifts,k2,k3,k4,k5,hl,hb,hd]
 have h1:(w3==chs [103,99])=false:=by kernel_rfl
 have h2:(w3==chs [115,112,101,99])=false:=by kernel_rfl
 have h3:(w3==chs [99,97,114,114,105,101,100])=false:=by kernel_rfl
 rw[h1,h2,h3]
 simp
theorem fin{P:Program}{rest:List Char}(h:P.initOrder.toList=w1++sp::(w2++sp::(w3++sp::rest))):P.liftsFinal=false:=by
 unfold Program.liftsFinal Program.headLifts
 rw[words h]
 simp only[lifts,k2,k5]
 have h3:(w3==chs [99,97,114,114,105,101,100])=false:=by kernel_rfl
 simp[h3]
theorem mk{P:Program}{rest:List Char}(h:P.initOrder.toList=w1++sp::(w2++sp::(w3++sp::rest))):P.make=some .cut:=by
 unfold Program.make
 rw[words h]
 simp only[k2,k3,k4,k5]
 have h1:(w3==chs [103,99])=false:=by kernel_rfl
 have h2:(w3==chs [115,112,101,99])=false:=by kernel_rfl
 rw[h1,h2]
 simp
theorem head:Tryz.pinned.checked.prog.initOrder=String.ofList (w1++sp::(w2++sp::(w3++sp::chs [97,116,32,99,104,97,110,99,101,114,121,47,99,104,97,110,99,101,114,121,107,101,101,112,49,46,83,101,108,101,99,116,105,111,110,84,121,112,101,100,83,104,111,119,115,32,99,104,97,110,99,101,114,121,47,99,104,97,110,99,101,114,121,107,101,101,112,49,46,83,101,108,101,99,116,105,111,110,70,111,114,109,97,116,75,101,101,112,115,32,99,104,97,110,99,101,114,121,47,99,104,97,110,99,101,114,121,107,101,101,112,49,46,83,101,108,101,99,116,105,111,110,84,104,114,111,117,103,104,79,116,104,101,114,115]))):=by kernel_rfl
set_option maxRecDepth 100000 in
theorem headL:Tryz.pinned.checked.prog.initOrder.toList=w1++sp::(w2++sp::(w3++sp::chs [97,116,32,99,104,97,110,99,101,114,121,47,99,104,97,110,99,101,114,121,107,101,101,112,49,46,83,101,108,101,99,116,105,111,110,84,121,112,101,100,83,104,111,119,115,32,99,104,97,110,99,101,114,121,47,99,104,97,110,99,101,114,121,107,101,101,112,49,46,83,101,108,101,99,116,105,111,110,70,111,114,109,97,116,75,101,101,112,115,32,99,104,97,110,99,101,114,121,47,99,104,97,110,99,101,114,121,107,101,101,112,49,46,83,101,108,101,99,116,105,111,110,84,104,114,111,117,103,104,79,116,104,101,114,115])):=by rw[head,tl]
theorem later:Tryz.pinned.checked.prog.laysLater=false:=by kernel_rfl
theorem refl:Tryz.pinned.checked.prog.bearsReflect=false:=by kernel_rfl
theorem door:Tryz.pinned.checked.prog.doorFits []=true:=by kernel_rfl
theorem mayEnter:Tryz.pinned.checked.prog.mayEnter=true:=may headL later refl door
theorem made:Tryz.pinned.checked.prog.make=some .cut:=mk headL
theorem laid:laidOutB Tryz.pinned.checked.prog=true:=by kernel_rfl
theorem rowed:mapsRowed Tryz.pinned.checked.prog=true:=by kernel_rfl
theorem noStops:Tryz.pinned.checked.prog.stops=[]:=by kernel_rfl
theorem noKnobs:Tryz.pinned.checked.prog.stopKnobs=[]:=by kernel_rfl
theorem heard:Tryz.pinned.checked.prog.stopsHeard=true:=by kernel_rfl
theorem keys:Tryz.pinned.checked.prog.plainKeys=true:=by kernel_rfl
theorem liftsNo:Tryz.pinned.checked.prog.liftsFinal=false:=fin headL
end Go.Proofs.YtlgmgpnjkadhfaaGreatDoor.frame
end
