/- Parts of the proof: ChDelta2, ChDelta3, DeltaWrite, ChDelta4, DeltaFold, DeltaUndo, DeltaAct, ChDelta7, ChAxis, DeltaChange, DeltaLaws, DeltaJoin, DeltaPair, ChDelta9, ChDelta10, DeltaRead, DeltaRuns, DeltaJD, DeltaJF, ChDelta11, EdCheck, EdCheck2, DeltaPD, DeltaTidy, DeltaTB, DeltaTL, TidyU, EditTrk, EditSel, ChDelta13, ChDelta16, EdTrack, EdSel, EdSel2, EdSel3, EdType, EditObj. -/
import Derived.Test.YtlgmgpnjkadhfaaGreatDoorM1
import Derived.Test.YtlgmgpnjkadhfaaGreatDoorM2
import Derived.Test.YtlgmgpnjkadhfaaGreatDoorM3
set_option linter.unusedVariables false
set_option linter.unusedSimpArgs false
section
set_option maxRecDepth 100000
set_option maxHeartbeats 4000000
open Go Go.Proofs Go.Ab
namespace Go.Ch
theorem y7V(f:List Elem)(l:List DStep)(hv:z0U l)(hd:DN 400000000000 l)(ha:AN 400000000000 f)(hlen:oldD l=f.length):FC Tryz.prog 130 [VL 3 elemT f,VL 4 z0d l] (app emp []) (VL 3 elemT (rawD f l)) (app emp []):=by
 refine .go Tryz.f130 ?_
 refine .len 0 (fun hl0=> ?_)
 refine .len 1 (fun hl1=> ?_)
 refine .loop (α:=(List Elem)×Nat×(List Elem)) [.r [],.r [],.r [(1,X (Xl z0d l))],.le (.nR 5 3)] 41 (fun(r,i,o)=>([(0,VL 3 elemT r),(5,.row 40 o.length),(8,VL 4 z0d l),(9,VI (l.length:Int)),(10,VI (i:Int))],[(40,OR 3 elemT o)])) (fun(r,i,o)=>i<=l.length/\AN 400000000000 r/\oldD (l.drop i)=r.length/\o.length+newD (l.drop i)=newD l/\rawD f l=o++z0i (exD (l.drop i)) r) (fun(r,i,o)=>l.length-i) (f,0,[]) ?_ ?_
 ·
  exact⟨by omega,ha,by simpa using hlen,by simp,by simp[rawD]⟩
 rintro⟨r,i,o⟩ I3 ih3
 try dsimp only at I3
 have hv1:=hv.2.1
 have hv2:=hv.2.2
 refine .bp [.r []] (decide ((i:Int)< (l.length:Int))) (fun h3=> ?_) (fun h3=> ?_)
 ·
  have hst:=z6M (l:=l) (i:=i) (by omega) hv.1
  obtain⟨hx,hx2,hx3⟩:=hd.at_ (k:=i) (by omega)
  have hr:=y87 (d:=l) (i:=i) (by omega) r
  refine .bp [.r [(0,X (Xi z0d l (i:Int)))],.r [],.r []] ((((l.getD i default)).kind)==0) (fun h7=> ?_) (fun h7=> ?_)
  ·
   obtain⟨s1,s2,s3,s4,s5,s6,s7,s8⟩:=hst
   rw[if_neg (by omega)] at s1 s2
   have hz:szD (l.getD i default)=(l.getD i default).n:=by unfold szD;rw[if_neg (by omega)]
   have hl8:(r.take (l.getD i default).n.toNat).length=(l.getD i default).n.toNat:=by rw[qO];omega
   have hs8:∀x∈r.take (l.getD i default).n.toNat,x.attrs.length+(l.getD i default).attrs.length<1099511627776:=fun x hx=>by have:=I3.2.1 x (qA hx);omega
   refine .back [.r [(4,X (Xst elemT 3 r (((l.getD i default)).n))),(7,X (Xc1 169 (z6P (r.take (Int.toNat (((l.getD i default)).n))) (((l.getD i default)).attrs) (by omega) (by assumption)) X0)),(8,X (Xap 3 elemT 40 o (List.map (chgE (((l.getD i default)).attrs)) (r.take (Int.toNat (((l.getD i default)).n))))))],.r [(3,X (Xsd elemT 3 r (((l.getD i default)).n)))],.r [(0,X (Xn ((i:Int)+1)))]] [(40,40)] (ih3 ((r.drop (Int.toNat (((l.getD i default)).n))),(i+1),(o++(List.map (chgE (((l.getD i default)).attrs)) (r.take (Int.toNat (((l.getD i default)).n)))))) ?_ ?_)
   ·
    refine⟨by omega,fun x hx=>I3.2.1 x (qJ hx),by(rw[zi];omega),by(simp only[qf,qk];omega),?_⟩
    rw[I3.2.2.2.2,hr,if_neg (by omega),if_neg (by omega),qR]
   ·
    show l.length- (i+1)< l.length-i;omega
  ·
   refine .bp [.r []] ((((l.getD i default)).kind)==1) (fun h10=> ?_) (fun h10=> ?_)
   ·
    obtain⟨s1,s2,s3,s4,s5,s6,s7,s8⟩:=hst
    rw[if_pos (by omega)] at s1
    rw[if_neg (by omega)] at s2
    have hz:szD (l.getD i default)=(l.getD i default).elems.length:=by unfold szD;rw[if_pos (by omega)]
    refine .back [.r [(3,X (Xc1 153 (y3Z (((l.getD i default)).elems) (by omega) (by assumption)) X0)),(4,X (Xap 3 elemT 40 o (((l.getD i default)).elems)))],.r [(0,X (Xn ((i:Int)+1)))]] [(40,40)] (ih3 (r,(i+1),(o++(((l.getD i default)).elems))) ?_ ?_)
    ·
     refine⟨by omega,I3.2.1,by omega,by(simp only[qf];omega),?_⟩
     rw[I3.2.2.2.2,hr,if_pos (by omega),qR]
    ·
     show l.length- (i+1)< l.length-i;omega
   ·
    obtain⟨s1,s2,s3,s4,s5,s6,s7,s8⟩:=hst
    rw[if_neg (by omega)] at s1
    rw[if_pos (by omega)] at s2
    refine .back [.r [(3,X (Xsd elemT 3 r (((l.getD i default)).n)))],.r [(0,X (Xn ((i:Int)+1)))]] [(40,40)] (ih3 ((r.drop (Int.toNat (((l.getD i default)).n))),(i+1),o) ?_ ?_)
    ·
     refine⟨by omega,fun x hx=>I3.2.1 x (qJ hx),by(rw[zi];omega),by omega,?_⟩
     rw[I3.2.2.2.2,hr,if_neg (by omega),if_pos (by omega)]
    ·
     show l.length- (i+1)< l.length-i;omega
 ·
  have e1:((rawD f l):List Elem)=o:=by
   rw[I3.2.2.2.2,qP (by omega)];simp[exD,z0i]
  exact .finE [.r [],.le (.fr 4 [(o.length:Nat)=(List.map elemT o).length] ⟨lm,trivial⟩)] [] (fun z0:List Elem=>(VL 3 elemT z0,[])) _ _ e1

end Go.Ch
end
section
namespace Go.Ch
open Go Go.Ab
structure DWr where
 out:List DStep
 add:List Elem
 cut:Int
def z0a(w:DWr):List DStep:=w.out++(if 0<w.add.length then[⟨1,0,[],w.add⟩] else[])++(if 0<w.cut then[⟨2,w.cut,[],[]⟩] else[])
def keepD(l:List DStep)(n:Int)(c:List Attr):List DStep:=
 if 0<l.length/\(l.getD (l.length- 1) default).kind=0/\sameL (l.getD (l.length- 1) default).attrs c=true then
  l.set (l.length- 1) ⟨(l.getD (l.length- 1) default).kind,(l.getD (l.length- 1) default).n+n,(l.getD (l.length- 1) default).attrs,(l.getD (l.length- 1) default).elems⟩
 else l++[⟨0,n,c,[]⟩]
theorem z6Q(w:DWr):(z0a w).length<=w.out.length+2:=by
 unfold z0a;simp only[qf];split<;>split<;>simp
theorem y31(l:List DStep)(n:Int)(c:List Attr):(keepD l n c).length<=l.length+1:=by
 unfold keepD;split<;>simp
def DOkW(s:DStep):Prop:=
 (s.kind=1/\s.n=0/\s.attrs=[]/\s.elems≠[]/\∀x∈s.elems,elemE x=0)\/
 ((s.kind=0\/s.kind=2)/\s.elems=[]/\(s.kind=2->s.attrs=[])/\1<=s.n/\VG true s.attrs)
def AdjOk:List DStep->Prop
 | []=>True
 | [_]=>True
 |s::t::l=>adjD s t=false/\AdjOk (t::l)
theorem z39:∀{l:List DStep} {s:DStep},AdjOk l->(∀t,l.getLast? =some t->adjD t s=false)->AdjOk (l++[s])
 | [],s,_,_=>trivial
 | [x],s,_,h=>⟨h x rfl,trivial⟩
 |x::y::l,s,hf,h=>⟨hf.1,z39 (l:=y::l) hf.2 (fun t ht=>h t (by simpa[List.getLast?_cons_cons] using ht))⟩
theorem y6a{w x x':DStep}(k:x'.kind=x.kind)(a:x'.attrs=x.attrs):adjD w x'=adjD w x:=by unfold adjD;rw[k,a]
theorem y1e:∀{l:List DStep} {s s':DStep},AdjOk (l++[s])->s'.kind=s.kind->s'.attrs=s.attrs->AdjOk (l++[s'])
 | [],s,s',_,_,_=>trivial
 | [x],s,s',h,k,a=>⟨by rw[y6a k a];exact h.1,trivial⟩
 |x::y::l,s,s',h,k,a=>⟨h.1,y1e (l:=y::l) h.2 k a⟩
theorem y1f:∀{l:List DStep},(∀s∈l,DOk s)->AdjOk l->DForm l
 | [],_,_=>trivial
 | [s],h,_=>h s (by simp)
 |s::t::l,h,k=>⟨h s (by simp),k.1,y1f (fun x hx=>h x (by simp at hx|-;exact .inr hx)) k.2⟩
theorem okW{s:DStep}(h:DOk s):DOkW s:=by
 rcases h with h| ⟨a,b,c,d,e,f⟩
 ·exact .inl h
 ·exact .inr ⟨a,b,c,d,f⟩
theorem oSW{s:DStep}(h:DOkW s):0<=oS s/\0<=nS s/\(s.kind≠1->oS s=s.n)/\0<=s.n:=by
 unfold oS nS szD
 rcases h with⟨k,n,a,e,_⟩| ⟨k,_,_,n1,_⟩
 ·have:0<s.elems.length:=jd.2 e
  rw[if_pos k,if_neg (by omega),if_pos k]
  exact⟨zy _,by omega,fun q=>absurd k q,by omega⟩
 ·have k1:¬s.kind=1:=by omega
  simp only[if_neg k1]
  refine⟨by omega,by(split<;>omega),fun _=>trivial,by omega⟩
theorem sumsW:∀{l:List DStep},(∀s∈l,DOkW s)->0<=oldD l/\0<=newD l/\∀s∈l,s.kind≠1->s.n<=oldD l
 | [],_=>⟨zy _,zy _,fun s hs=>by cases hs⟩
 |s::l,h=>by
  have h1:=oSW (h s (by simp))
  have h2:=sumsW (l:=l) (fun t ht=>h t (by simp[ht]))
  simp only[oldD,newD]
  refine⟨by omega,by omega,fun t ht k=> ?_⟩
  rcases qj.1 ht with rfl|ht
  ·have:=h1.2.2.1 k;omega
  ·have:=h2.2.2 t ht k;omega
theorem y6b{l:List DStep}(h:∀s∈l,DOkW s)(ha:AdjOk l)(h1:oldD l<=2147483647)(h2:newD l<=2147483647):z0U l:=by
 refine⟨y1f (fun s hs=> ?_) ha,h1,h2⟩
 rcases h s hs with q| ⟨a,b,c,d,e⟩
 ·exact .inl q
 ·have:=(sumsW h).2.2 s hs (by omega)
  exact .inr ⟨a,b,c,d,by omega,e⟩
theorem z0E(u v:List DU):oldN (u++v)=oldN u+oldN v:=by
 induction u with
 |nil=>simp[oldN]
 |cons x u ih=>cases x<;>simp[oldN,ih]<;>omega
theorem z1o(u v:List DU):newN (u++v)=newN u+newN v:=by
 induction u with
 |nil=>simp[newN]
 |cons x u ih=>cases x<;>simp[newN,ih]<;>omega
theorem z2i(e:List Elem):oldN (e.map .A)=0/\newN (e.map .A)=e.length:=by
 induction e with
 |nil=>exact⟨rfl,rfl⟩
 |cons x e ih=>simp[oldN,newN,ih]
theorem z2j(n:Nat):oldN (List.replicate n .C)=n/\newN (List.replicate n .C)=0:=by
 induction n with
 |zero=>exact⟨rfl,rfl⟩
 |succ n ih=>simp[qE,oldN,newN,ih]
theorem z1p(n:Nat)(c:List Attr):oldN (List.replicate n (.K c))=n/\newN (List.replicate n (.K c))=n:=by
 induction n with
 |zero=>exact⟨rfl,rfl⟩
 |succ n ih=>simp[qE,oldN,newN,ih]
theorem y9a{s:DStep}(h:DOkW s):(oldN (exS s):Int)=oS s/\(newN (exS s):Int)=nS s:=by
 unfold exS oS nS szD
 rcases h with⟨k,n,a,e,_⟩| ⟨k,_,_,n1,_⟩
 ·rw[if_pos k,if_pos k,if_neg (by omega),if_pos k,(z2i _).1,(z2i _).2];exact⟨rfl,rfl⟩
 ·have k1:¬s.kind=1:=by omega
  by_cases k2:s.kind=2
  ·simp only[if_neg k1,if_pos k2]
   rw[(z2j _).1,(z2j _).2];omega
  ·simp only[if_neg k1,if_neg k2]
   rw[(z1p _ _).1,(z1p _ _).2];omega
theorem y32:∀{l:List DStep},(∀s∈l,DOkW s)->(oldN (exD l):Int)=oldD l/\(newN (exD l):Int)=newD l
 | [],_=>⟨rfl,rfl⟩
 |s::l,h=>by
  have h1:=y9a (h s (by simp))
  have h2:=y32 (l:=l) (fun t ht=>h t (by simp[ht]))
  simp only[exD,oldD,newD]
  rw[z0E,z1o]
  omega
def exDW(w:DWr):List DU:=exD w.out++(w.add.map .A++List.replicate w.cut.toNat .C)
structure GoodD(w:DWr):Prop where
 ok:∀s∈w.out,DOkW s
 adj:AdjOk w.out
 last:∀t,w.out.getLast? =some t->t.kind=0
 add:∀x∈w.add,elemE x=0
 cut:0<=w.cut
theorem y63:GoodD ⟨[],[],0⟩:=⟨fun s h=>(by cases h),trivial,fun t h=>(by cases h),fun x h=>(by cases h),zy _⟩
theorem z54{w:DWr}(h:GoodD w):exD (z0a w)=exDW w:=by
 have h2:=h.cut
 unfold z0a exDW
 rw[z3x,z3x,qR]
 congr 2
 ·split
  ·simp[exD,exS]
  ·rw[show w.add=[] from len0.1 (by omega)];rfl
 ·split
  ·simp[exD,exS]
  ·rw[show w.cut.toNat=0 by omega];rfl
theorem adj_1{t s:DStep}(h:t.kind≠s.kind)(h2:¬(t.kind=2/\s.kind=1)):adjD t s=false:=by
 cases e:adjD t s
 ·rfl
 ·rcases z5e.1 e with⟨a,_⟩|a
  ·exact absurd a h
  ·exact absurd a h2
theorem z55:VG true []:=(z05 (e:=true) (l:=[])).1 (by rw[chkA];rfl)
theorem z4a{w:DWr}(h:GoodD w):(∀s∈z0a w,DOkW s)/\AdjOk (z0a w):=by
 have h2:=h.cut
 have o1:0<w.add.length->DOkW ⟨1,0,[],w.add⟩:=fun q=> .inl ⟨rfl,rfl,rfl,jd.1 q,h.add⟩
 have o2:0<w.cut->DOkW ⟨2,w.cut,[],[]⟩:=fun q=> .inr ⟨.inr rfl,rfl,fun _=>rfl,q,z55⟩
 refine⟨fun s hs=> ?_,?_⟩
 ·unfold z0a at hs
  simp only[qp] at hs
  rcases hs with(hs|hs)|hs
  ·exact h.ok s hs
  ·split at hs
   ·rename_i q;rw[qy] at hs;subst hs;exact o1 q
   ·cases hs
  ·split at hs
   ·rename_i q;rw[qy] at hs;subst hs;exact o2 q
   ·cases hs
 ·unfold z0a
  by_cases ha:0<w.add.length
  ·rw[if_pos ha]
   have f1:AdjOk (w.out++[⟨1,0,[],w.add⟩]):=z39 h.adj (fun t ht=>by
    have:=h.last t ht
    exact adj_1 (by simp only;omega) (by omega))
   by_cases hc:0<w.cut
   ·rw[if_pos hc]
    refine z39 f1 (fun t ht=> ?_)
    rw[List.getLast?_concat] at ht
    cases ht
    exact adj_1 (by show(1:Int)≠2;decide) (by show¬((1:Int)=2/\(2:Int)=1);decide)
   ·rw[if_neg hc,qM];exact f1
  ·rw[if_neg ha,qM]
   by_cases hc:0<w.cut
   ·rw[if_pos hc]
    refine z39 h.adj (fun t ht=> ?_)
    have:=h.last t ht
    exact adj_1 (by simp only;omega) (by omega)
   ·rw[if_neg hc,qM];exact h.adj
theorem lastD{l:List DStep}(h:0<l.length):l=l.take (l.length- 1)++[l.getD (l.length- 1) default]:=by
 conv=>lhs;rw[<-List.take_append_drop (l.length- 1) l]
 congr 1
 rw[zk (by omega),qP (by omega)]
 simp[List.getD,qa (show l.length- 1<l.length by omega)]
theorem z8U{l:List DStep}(h:0<l.length):l.getD (l.length- 1) default∈l:=by
 rw[show l.getD (l.length- 1) default=l[l.length- 1] by simp[List.getD,qa (show l.length- 1<l.length by omega)]]
 exact zo _
theorem setD{l:List DStep}(h:0<l.length)(s:DStep):l.set (l.length- 1) s=l.take (l.length- 1)++[s]:=by
 rw[List.set_eq_take_append_cons_drop,if_pos (by omega),qP (by omega)]
theorem y6c{l:List DStep}{n:Int}{c:List Attr}(ho:∀s∈l,DOkW s)(hf:AdjOk l)(hn:1<=n)(hc:VG true c):
 (∀s∈keepD l n c,DOkW s)/\AdjOk (keepD l n c)/\(∀t,(keepD l n c).getLast? =some t->t.kind=0)/\exD (keepD l n c)=exD l++List.replicate n.toNat (.K c):=by
 unfold keepD
 split
 ·rename_i hc
  obtain⟨h0,hk,ha⟩:=hc
  rw[y5T] at ha
  generalize hx:l.getD (l.length- 1) default=x at hk ha|-
  have hl:=lastD h0
  rw[hx] at hl
  rw[setD h0]
  have hox:DOkW x:=ho x (by rw[hl];simp)
  have hx2:x.elems=[]/\1<=x.n/\VG true x.attrs:=by
   rcases hox with⟨k,_⟩| ⟨_,a,_,b,d⟩
   ·omega
   ·exact⟨a,b,d⟩
  refine⟨fun s hs=> ?_,y1e (s:=x) (by rw[<-hl];exact hf) rfl rfl,fun t ht=> ?_,?_⟩
  ·rw[qp] at hs
   rcases hs with hs|hs
   ·exact ho s (qA hs)
   ·rw[qy] at hs;subst hs
    exact .inr ⟨.inl hk,hx2.1,fun q=>by simp only at q;omega,by simp only;omega,hx2.2.2⟩
  ·rw[List.getLast?_concat] at ht;cases ht;exact hk
  ·conv=>rhs;rw[hl]
   rw[z3x,z3x,qR]
   congr 1
   simp only[exD,qM,exS]
   rw[if_neg (by omega),if_neg (by omega),if_neg (by omega),if_neg (by omega),ha,show(x.n+n).toNat=x.n.toNat+n.toNat by omega]
   exact List.replicate_append_replicate.symm
 ·rename_i hq
  refine⟨fun s hs=> ?_,z39 hf (fun t ht=> ?_),fun t ht=> ?_,by rw[z3x];simp[exD,exS]⟩
  ·rw[qp] at hs
   rcases hs with hs|hs
   ·exact ho s hs
   ·rw[qy] at hs;subst hs
    exact .inr ⟨.inl rfl,rfl,fun q=>(by cases q),hn,hc⟩
  ·have h0:0<l.length:=by
    rcases l with _| ⟨y,l⟩
    ·cases ht
    ·simp
   have hl:l.getLast? =some (l.getD (l.length- 1) default):=by
    conv=>lhs;rw[lastD h0]
    rw[List.getLast?_concat]
   rw[hl] at ht
   cases ht
   cases e:adjD (l.getD (l.length- 1) default) ⟨0,n,c,[]⟩
   ·rfl
   ·rcases z5e.1 e with⟨a,b|b⟩| ⟨_,b⟩
    ·exact absurd rfl b
    ·exact absurd ⟨h0,a,b⟩ hq
    ·cases b
  ·rw[List.getLast?_concat] at ht;cases ht;rfl
theorem GoodD.keep{w:DWr}{n:Int}{c:List Attr}(h:GoodD w)(hn:1<=n)(hc:VG true c):
 GoodD ⟨keepD (z0a w) n c,[],0⟩/\exDW ⟨keepD (z0a w) n c,[],0⟩=exDW w++List.replicate n.toNat (.K c):=by
 obtain⟨q1,q2,q3,q4⟩:=y6c (z4a h).1 (z4a h).2 hn hc
 refine⟨⟨q1,q2,q3,fun x hx=>(by cases hx),zy _⟩,?_⟩
 rw[<-z54 h,<-q4]
 simp[exDW]
theorem GoodD.elems{w:DWr}{e:List Elem}(h:GoodD w)(he:∀x∈e,elemE x=0):
 GoodD ⟨w.out,w.add++e,w.cut⟩/\DSw (exDW ⟨w.out,w.add++e,w.cut⟩) (exDW w++e.map .A):=by
 refine⟨⟨h.ok,h.adj,h.last,fun x hx=> ?_,h.cut⟩,?_⟩
 ·rcases qp.1 hx with hx|hx
  ·exact h.add x hx
  ·exact he x hx
 ·unfold exDW
  simp only[qX,qR]
  refine .left _ (.left _ ?_)
  have:=y3R w.cut.toNat e []
  simp only[qM] at this
  exact .symm this
theorem GoodD.cuts{w:DWr}{n:Int}(h:GoodD w)(hn:0<=n):
 GoodD ⟨w.out,w.add,w.cut+n⟩/\exDW ⟨w.out,w.add,w.cut+n⟩=exDW w++List.replicate n.toNat .C:=by
 have h2:=h.cut
 refine⟨⟨h.ok,h.adj,h.last,h.add,by simp only;omega⟩,?_⟩
 unfold exDW
 simp only[qR]
 rw[show(w.cut+n).toNat=w.cut.toNat+n.toNat by omega,<-List.replicate_append_replicate]
theorem GoodD.valid{w:DWr}{u:List DU}(h:GoodD w)(hs:DSw (exDW w) u)(h1:oldN u<=2147483647)(h2:newN u<=2147483647):
 z0U (z0a w)/\DSw (exD (z0a w)) u/\oldD (z0a w)=oldN u/\newD (z0a w)=newN u:=by
 have hk:=z4a h
 have he:=z54 h
 have hl:=y07 hs
 have hd:=y32 hk.1
 rw[he] at hd
 refine⟨y6b hk.1 hk.2 (by omega) (by omega),by rw[he];exact hs,by omega,by omega⟩
end Go.Ch
end
section
set_option maxRecDepth 100000
set_option maxHeartbeats 4000000
open Go Go.Proofs Go.Ab
namespace Go.Ch
theorem z56(o:List DStep)(a:List Elem)(c:Int)(ho:o.length<=100000000000):FC Tryz.prog 150 [.ptr 0 0] (app emp [(0,.box [.row 1 o.length,.row 2 a.length,VI c]),(1,OR 4 z0d o),(2,OR 3 elemT a)]) (.tup []) (app emp [(0,.box [.row 1 ((z0a ⟨o,a,c⟩).length),.row 3 0,VI 0]),(1,OR 4 z0d (z0a ⟨o,a,c⟩)),(2,OF 3 elemT a),(3,OR 3 elemT [])]):=by
 refine .go Tryz.f150 ?_
 refine .bp [.r []] (decide ((a.length:Int)> 0)) (fun h0=> ?_) (fun h0=> ?_)
 ·
  refine .bp [.r [(9,X (Xf [(2,2)])),(10,X (rowC elemT a X0)),(11,X (rowC z0d [({kind:=1,n:=0,attrs:=[],elems:=a}:DStep)] (Xap 4 z0d 1 o [({kind:=1,n:=0,attrs:=[],elems:=a}:DStep)])))],.r []] (decide (c>0)) (fun h2=> ?_) (fun h2=> ?_)
  ·
   have e1:((z0a ⟨o,a,c⟩).length:Nat)=((o++[({kind:=1,n:=0,attrs:=[],elems:=a}:DStep)])++[({kind:=2,n:=c,attrs:=[],elems:=[]}:DStep)]).length:=by
    unfold z0a;simp only;(repeat (first|rw[if_pos (by omega)]|rw[if_neg (by omega)]));try simp
   have e2:((z0a ⟨o,a,c⟩):List DStep)=((o++[({kind:=1,n:=0,attrs:=[],elems:=a}:DStep)])++[({kind:=2,n:=c,attrs:=[],elems:=[]}:DStep)]):=by
    unfold z0a;simp only;(repeat (first|rw[if_pos (by omega)]|rw[if_neg (by omega)]));try simp
   exact .finE [.r [(9,X (Xf [(2,2),(3,3)])),(11,X (rowC z0d [({kind:=2,n:=c,attrs:=[],elems:=[]}:DStep)] (Xap 4 z0d 1 (o++[({kind:=1,n:=0,attrs:=[],elems:=a}:DStep)]) [({kind:=2,n:=c,attrs:=[],elems:=[]}:DStep)])))],.r [],.le (.nB 0 1 3)] [(0,0),(1,1),(2,2),(395,3)] (fun((z0,z1):Nat×(List DStep))=>(.tup [],[(0,.box [.row 1 z0,.row 3 0,VI 0]),(1,OR 4 z0d z1),(2,OF 3 elemT a),(3,OR 3 elemT [])])) _ _ (pr e1 e2)
  ·
   have e3:((z0a ⟨o,a,c⟩).length:Nat)=(o++[({kind:=1,n:=0,attrs:=[],elems:=a}:DStep)]).length:=by
    unfold z0a;simp only;(repeat (first|rw[if_pos (by omega)]|rw[if_neg (by omega)]));try simp
   have e4:((z0a ⟨o,a,c⟩):List DStep)=(o++[({kind:=1,n:=0,attrs:=[],elems:=a}:DStep)]):=by
    unfold z0a;simp only;(repeat (first|rw[if_pos (by omega)]|rw[if_neg (by omega)]));try simp
   exact .finE [.r [],.le (.nB 0 1 3)] [(0,0),(1,1),(2,2),(275,3)] (fun((z0,z1):Nat×(List DStep))=>(.tup [],[(0,.box [.row 1 z0,.row 3 0,VI 0]),(1,OR 4 z0d z1),(2,OF 3 elemT a),(3,OR 3 elemT [])])) _ _ (pr e3 e4)
 ·
  refine .bp [.r []] (decide (c>0)) (fun h2=> ?_) (fun h2=> ?_)
  ·
   have e5:((z0a ⟨o,a,c⟩).length:Nat)=(o++[({kind:=2,n:=c,attrs:=[],elems:=[]}:DStep)]).length:=by
    unfold z0a;simp only;(repeat (first|rw[if_pos (by omega)]|rw[if_neg (by omega)]));try simp
   have e6:((z0a ⟨o,a,c⟩):List DStep)=(o++[({kind:=2,n:=c,attrs:=[],elems:=[]}:DStep)]):=by
    unfold z0a;simp only;(repeat (first|rw[if_pos (by omega)]|rw[if_neg (by omega)]));try simp
   exact .finE [.r [(9,X (Xf [(2,2),(3,3)])),(11,X (rowC z0d [({kind:=2,n:=c,attrs:=[],elems:=[]}:DStep)] (Xap 4 z0d 1 o [({kind:=2,n:=c,attrs:=[],elems:=[]}:DStep)])))],.r [],.le (.nB 0 1 3),.le (.fz 2)] [(0,0),(1,1),(2,2),(275,3)] (fun((z0,z1):Nat×(List DStep))=>(.tup [],[(0,.box [.row 1 z0,.row 3 0,VI 0]),(1,OR 4 z0d z1),(2,OF 3 elemT a),(3,OR 3 elemT [])])) _ _ (pr e5 e6)
  ·
   have e7:((z0a ⟨o,a,c⟩).length:Nat)=o.length:=by
    unfold z0a;simp only;(repeat (first|rw[if_pos (by omega)]|rw[if_neg (by omega)]));try simp
   have e8:((z0a ⟨o,a,c⟩):List DStep)=o:=by
    unfold z0a;simp only;(repeat (first|rw[if_pos (by omega)]|rw[if_neg (by omega)]));try simp
   exact .finE [.r [],.le (.nB 0 1 3),.le (.fz 2)] [(0,0),(1,1),(2,2),(155,3)] (fun((z0,z1):Nat×(List DStep))=>(.tup [],[(0,.box [.row 1 z0,.row 3 0,VI 0]),(1,OR 4 z0d z1),(2,OF 3 elemT a),(3,OR 3 elemT [])])) _ _ (pr e7 e8)
theorem z2z(o:List DStep)(a:List Elem)(c:Int)(e:List Elem)(hs:AN 400000000000 e)(ho:a.length+e.length<=100000000000):FC Tryz.prog 110 [.ptr 0 0,VL 3 elemT e] (app emp [(0,.box [.row 1 o.length,.row 2 a.length,VI c]),(1,OR 4 z0d o),(2,OR 3 elemT a)]) (.tup []) (app emp [(0,.box [.row 1 o.length,.row 2 ((a++e).length),VI c]),(1,OR 4 z0d o),(2,OR 3 elemT (a++e))]):=by
 refine .go Tryz.f110 ?_
 refine .len 1 (fun hl1=> ?_)
 exact .fin [.r [(6,X (Xc1 51 (y3Z e (by omega) (by assumption)) X0)),(7,X (Xap 3 elemT 2 a e))]] [(0,0),(1,1),(2,2)]
theorem kbd{l:List DStep}(h:∀s∈l,0<=s.n/\s.n<=10000000000):∀s∈l,0<=s.n/\s.n<=1000000000000000000:=fun s hs=>by have:=h s hs;omega
theorem z2L(o:List DStep)(a:List Elem)(c:Int)(n:Int)(l:List Attr)(ho:o.length<=100000000000)(hl:l.length<=400000000000)(hn:1<=n/\n<=100000000000)(hk:∀s∈z0a ⟨o,a,c⟩,0<=s.n/\s.n<=1000000000000000000):FC Tryz.prog 111 [.ptr 0 0,VI n,VL 2 attrT l] (app emp [(0,.box [.row 1 o.length,.row 2 a.length,VI c]),(1,OR 4 z0d o),(2,OR 3 elemT a)]) (.tup []) (app emp [(0,.box [.row 1 ((keepD (z0a ⟨o,a,c⟩) n l).length),.row 3 0,VI 0]),(1,OR 4 z0d (keepD (z0a ⟨o,a,c⟩) n l)),(2,OF 3 elemT a),(3,OR 3 elemT [])]):=by
 refine .go Tryz.f111 ?_
 refine .len 2 (fun hl2=> ?_)
 have hfl:=z6Q ⟨o,a,c⟩
 simp only at hfl
 refine .bp [.r []] (n==0) (fun h0=> ?_) (fun h0=> ?_)
 ·
  exfalso
  omega
 ·
  have hlast:=fun h:0< (z0a ⟨o,a,c⟩).length=>hk _ (z8U h)
  refine .bp [.r [(1,X (Xc3 27 [(0,0),(1,1),(2,2)] (z56 o a c (by omega)) X0))],.r [(5,X (Xn (((z0a ⟨o,a,c⟩).length:Int)- 1)))],.r [(4,Xv 1 (decide ((((z0a ⟨o,a,c⟩).length:Int)- 1)>=0)) X0),(5,Xv 1 (decide ((((z0a ⟨o,a,c⟩).length:Int)- 1)>=0)) X0),(6,Xv 1 (decide ((((z0a ⟨o,a,c⟩).length:Int)- 1)>=0)) X0),(8,Xv 2 (decide ((((z0a ⟨o,a,c⟩).length:Int)- 1)>=0)) (Xp' z0d 1 (z0a ⟨o,a,c⟩) (((z0a ⟨o,a,c⟩).length:Int)- 1) (((z0a ⟨o,a,c⟩).length)- 1))),(9,Xv 1 (decide ((((z0a ⟨o,a,c⟩).length:Int)- 1)>=0)) X0),(10,Xv 1 (decide ((((z0a ⟨o,a,c⟩).length:Int)- 1)>=0)) (Xe z0d (z0a ⟨o,a,c⟩) (((z0a ⟨o,a,c⟩).length)- 1))),(11,Xv 1 (decide ((((z0a ⟨o,a,c⟩).length:Int)- 1)>=0)) X0),(12,X (Xk (decide ((((z0a ⟨o,a,c⟩).length:Int)- 1)>=0)))),(15,Xv 1 (decide ((((z0a ⟨o,a,c⟩).length:Int)- 1)>=0)&&(((((z0a ⟨o,a,c⟩).getD (((z0a ⟨o,a,c⟩).length)- 1) default)).kind)==0)) X0),(16,Xv 1 (decide ((((z0a ⟨o,a,c⟩).length:Int)- 1)>=0)&&(((((z0a ⟨o,a,c⟩).getD (((z0a ⟨o,a,c⟩).length)- 1) default)).kind)==0)) X0),(17,Xv 1 (decide ((((z0a ⟨o,a,c⟩).length:Int)- 1)>=0)&&(((((z0a ⟨o,a,c⟩).getD (((z0a ⟨o,a,c⟩).length)- 1) default)).kind)==0)) X0),(19,Xv 2 (decide ((((z0a ⟨o,a,c⟩).length:Int)- 1)>=0)&&(((((z0a ⟨o,a,c⟩).getD (((z0a ⟨o,a,c⟩).length)- 1) default)).kind)==0)) (Xp' z0d 1 (z0a ⟨o,a,c⟩) (((z0a ⟨o,a,c⟩).length:Int)- 1) (((z0a ⟨o,a,c⟩).length)- 1))),(20,Xv 1 (decide ((((z0a ⟨o,a,c⟩).length:Int)- 1)>=0)&&(((((z0a ⟨o,a,c⟩).getD (((z0a ⟨o,a,c⟩).length)- 1) default)).kind)==0)) X0),(21,Xv 1 (decide ((((z0a ⟨o,a,c⟩).length:Int)- 1)>=0)&&(((((z0a ⟨o,a,c⟩).getD (((z0a ⟨o,a,c⟩).length)- 1) default)).kind)==0)) (Xe z0d (z0a ⟨o,a,c⟩) (((z0a ⟨o,a,c⟩).length)- 1))),(23,Xv 2 (decide ((((z0a ⟨o,a,c⟩).length:Int)- 1)>=0)&&(((((z0a ⟨o,a,c⟩).getD (((z0a ⟨o,a,c⟩).length)- 1) default)).kind)==0)) (Xc0 (z3v ((((z0a ⟨o,a,c⟩).getD (((z0a ⟨o,a,c⟩).length)- 1) default)).attrs) l) X0)),(24,X (Xk (decide ((((z0a ⟨o,a,c⟩).length:Int)- 1)>=0)&&(((((z0a ⟨o,a,c⟩).getD (((z0a ⟨o,a,c⟩).length)- 1) default)).kind)==0))))]] ((decide ((((z0a ⟨o,a,c⟩).length:Int)- 1)>=0)&&(((((z0a ⟨o,a,c⟩).getD (((z0a ⟨o,a,c⟩).length)- 1) default)).kind)==0))&&(sameL ((((z0a ⟨o,a,c⟩).getD (((z0a ⟨o,a,c⟩).length)- 1) default)).attrs) l)) (fun h3=> ?_) (fun h3=> ?_)
  ·
   have e1:((keepD (z0a ⟨o,a,c⟩) n l).length:Nat)=(z0a ⟨o,a,c⟩).length:=by
    unfold keepD;((repeat' split)<;>first|rfl|omega| (simp_all;done)| (simp_all;omega))
   have e2:((keepD (z0a ⟨o,a,c⟩) n l):List DStep)=((z0a ⟨o,a,c⟩).set (((z0a ⟨o,a,c⟩).length)- 1) ({kind:=(((z0a ⟨o,a,c⟩).getD (((z0a ⟨o,a,c⟩).length)- 1) default)).kind,n:=(((((z0a ⟨o,a,c⟩).getD (((z0a ⟨o,a,c⟩).length)- 1) default)).n)+n),attrs:=(((z0a ⟨o,a,c⟩).getD (((z0a ⟨o,a,c⟩).length)- 1) default)).attrs,elems:=(((z0a ⟨o,a,c⟩).getD (((z0a ⟨o,a,c⟩).length)- 1) default)).elems}:DStep)):=by
    unfold keepD;((repeat' split)<;>first|rfl|omega| (simp_all;done)| (simp_all;omega))
   exact .finE [.r [(5,X (Xp' z0d 1 (z0a ⟨o,a,c⟩) (((z0a ⟨o,a,c⟩).length:Int)- 1) (((z0a ⟨o,a,c⟩).length)- 1))),(7,X (Xe z0d (z0a ⟨o,a,c⟩) (((z0a ⟨o,a,c⟩).length)- 1))),(9,X (Xn (((((z0a ⟨o,a,c⟩).getD (((z0a ⟨o,a,c⟩).length)- 1) default)).n)+n))),(10,X (Xp' z0d 1 (z0a ⟨o,a,c⟩) (((z0a ⟨o,a,c⟩).length:Int)- 1) (((z0a ⟨o,a,c⟩).length)- 1))),(12,X (Xs 4 z0d 1 (z0a ⟨o,a,c⟩) (((z0a ⟨o,a,c⟩).length)- 1) ({kind:=(((z0a ⟨o,a,c⟩).getD (((z0a ⟨o,a,c⟩).length)- 1) default)).kind,n:=(((((z0a ⟨o,a,c⟩).getD (((z0a ⟨o,a,c⟩).length)- 1) default)).n)+n),attrs:=(((z0a ⟨o,a,c⟩).getD (((z0a ⟨o,a,c⟩).length)- 1) default)).attrs,elems:=(((z0a ⟨o,a,c⟩).getD (((z0a ⟨o,a,c⟩).length)- 1) default)).elems}:DStep)))]] [(0,0),(1,1),(2,2),(27,3)] (fun((z0,z1):Nat×(List DStep))=>(.tup [],[(0,.box [.row 1 z0,.row 3 0,VI 0]),(1,OR 4 z0d z1),(2,OF 3 elemT a),(3,OR 3 elemT [])])) _ _ (pr e1 e2)
  ·
   have e3:((keepD (z0a ⟨o,a,c⟩) n l).length:Nat)=((z0a ⟨o,a,c⟩)++[({kind:=0,n:=n,attrs:=l,elems:=[]}:DStep)]).length:=by
    unfold keepD;((repeat' split)<;>first|rfl|omega| (simp_all;done)| (simp_all;omega))
   have e4:((keepD (z0a ⟨o,a,c⟩) n l):List DStep)=((z0a ⟨o,a,c⟩)++[({kind:=0,n:=n,attrs:=l,elems:=[]}:DStep)]):=by
    unfold keepD;((repeat' split)<;>first|rfl|omega| (simp_all;done)| (simp_all;omega))
   exact .finE [.r [(7,X (Xan attrT 347 l)),(8,X (Xf [(3,3)])),(9,X (rowC attrT l X0)),(10,X (rowC z0d [({kind:=0,n:=n,attrs:=l,elems:=[]}:DStep)] (Xap 4 z0d 1 (z0a ⟨o,a,c⟩) [({kind:=0,n:=n,attrs:=l,elems:=[]}:DStep)])))]] [(0,0),(1,1),(2,2),(27,3)] (fun((z0,z1):Nat×(List DStep))=>(.tup [],[(0,.box [.row 1 z0,.row 3 0,VI 0]),(1,OR 4 z0d z1),(2,OF 3 elemT a),(3,OR 3 elemT [])])) _ _ (pr e3 e4)
theorem z5g(o:List DStep)(a:List Elem)(c:Int)(ho:o.length<=100000000000)(hc:z0T (z0a ⟨o,a,c⟩)=0)(hd:DN 400000000000 (z0a ⟨o,a,c⟩)):FC Tryz.prog 113 [.ptr 0 0] (app emp [(0,.box [.row 1 o.length,.row 2 a.length,VI c]),(1,OR 4 z0d o),(2,OR 3 elemT a)]) (.tup [.row 1 ((z0a ⟨o,a,c⟩).length),VI 0]) (app emp [(0,.box [.row 1 ((z0a ⟨o,a,c⟩).length),.row 3 0,VI 0]),(1,OR 4 z0d (z0a ⟨o,a,c⟩)),(2,OF 3 elemT a),(3,OR 3 elemT [])]):=by
 refine .go Tryz.f113 ?_
 refine .bp [.r [],.r [(1,X (Xc3 27 [(0,0),(1,1),(2,2)] (z56 o a c (by omega)) X0))],.r [(4,X (Xc0 (z1H (z0a ⟨o,a,c⟩) (by assumption)) (rowC z0d (z0a ⟨o,a,c⟩) X0)))]] ((z0T (z0a ⟨o,a,c⟩)) !=0) (fun h2=> ?_) (fun h2=> ?_)
 ·
  exfalso
  omega
 ·
  exact .fin [.r []] [(0,0),(1,1),(2,2),(27,3)]
end Go.Ch
end
section
namespace Go.Ch
open Go Go.Ab
def putU(w:DWr):DU->DWr
 | .K c=>⟨keepD (z0a w) 1 c,[],0⟩
 | .A e=>⟨w.out,w.add++[e],w.cut⟩
 | .C=>⟨w.out,w.add,w.cut+1⟩
def foldD(w:DWr):List DU->DWr
 | []=>w
 |u::us=>foldD (putU w u) us
theorem y1g(e:List Elem)(us:List DU):∀w:DWr,foldD w (e.map .A++us)=foldD ⟨w.out,w.add++e,w.cut⟩ us:=by
 induction e with
 |nil=>intro w;simp
 |cons x e ih=>intro w;simp only[qV,qg,foldD,putU];rw[ih];simp
theorem y6d(n:Nat)(us:List DU):∀w:DWr,foldD w (List.replicate n .C++us)=foldD ⟨w.out,w.add,w.cut+n⟩ us:=by
 induction n with
 |zero=>intro w;simp
 |succ n ih=>intro w;simp only[qE,qg,foldD,putU];rw[ih];simp only;rw[show w.cut+1+(n:Int)=w.cut+((n+1:Nat):Int) by omega]
theorem y2i(l:List DStep):z0a ⟨l,[],0⟩=l:=by simp[z0a]
theorem z9T{l:List DStep}{m n:Int}{c:List Attr}:keepD (keepD l m c) n c=keepD l (m+n) c:=by
 unfold keepD
 by_cases h:0<l.length/\(l.getD (l.length- 1) default).kind=0/\sameL (l.getD (l.length- 1) default).attrs c=true
 ·rw[if_pos h,if_pos h,setD h.1,setD h.1]
  generalize l.getD (l.length- 1) default=x at*
  have e:∀y:DStep,(List.take (l.length- 1) l++[y]).getD ((List.take (l.length- 1) l++[y]).length- 1) default=y:=fun y=>by simp
  rw[e,if_pos ⟨by simp,h.2.1,h.2.2⟩,setD (by simp)]
  have t:∀y:DStep,(List.take (l.length- 1) l++[y]).take ((List.take (l.length- 1) l++[y]).length- 1)=List.take (l.length- 1) l:=fun y=>by simp
  rw[t,Int.add_assoc]
 ·rw[if_neg h,if_neg h]
  have e:∀y:DStep,(l++[y]).getD ((l++[y]).length- 1) default=y:=fun y=>by simp
  rw[e,if_pos ⟨by simp,rfl,z6H c⟩,setD (by simp)]
  simp
theorem z7N(c:List Attr)(us:List DU):∀(n:Nat) (w:DWr),foldD w (List.replicate (n+1) (.K c)++us)=foldD ⟨keepD (z0a w) ((n+1:Nat):Int) c,[],0⟩ us
 |0,w=>by simp[foldD,putU]
 |n+1,w=>by
  rw[qE,qg,foldD,z7N c us n]
  simp only[putU]
  rw[y2i,z9T,show(1:Int)+((n+1:Nat):Int)=((n+1+1:Nat):Int) by omega]
def z03:DU->Prop
 | .K c=>VG true c/\c.length<=400000000000
 | .A e=>elemE e=0/\e.attrs.length<=400000000000
 | .C=>True
structure WBd(w:DWr):Prop where
 out:DN 400000000000 w.out
 add:AN 400000000000 w.add
theorem WBd.flush{w:DWr}(h:WBd w)(hl:w.add.length<=400000000000):DN 400000000000 (z0a w):=by
 intro s hs
 unfold z0a at hs
 simp only[qp] at hs
 rcases hs with(hs|hs)|hs
 ·exact h.out s hs
 ·split at hs
  ·rw[qy] at hs;subst hs;exact⟨hl,by simp,h.add⟩
  ·cases hs
 ·split at hs
  ·rw[qy] at hs;subst hs;exact⟨by simp,by simp,fun x hx=>by cases hx⟩
  ·cases hs
theorem WBd.keep{w:DWr}{n:Int}{c:List Attr}(h:WBd w)(hl:w.add.length<=400000000000)(hc:c.length<=400000000000):WBd ⟨keepD (z0a w) n c,[],0⟩:=by
 have hf:=h.flush hl
 refine⟨fun s hs=> ?_,fun x hx=>by cases hx⟩
 simp only at hs
 unfold keepD at hs
 split at hs
 ·rename_i q
  rw[setD q.1,qp] at hs
  rcases hs with hs|hs
  ·exact hf s (qA hs)
  ·rw[qy] at hs;subst hs
   have:=hf _ (z8U q.1)
   exact this
 ·rw[qp] at hs
  rcases hs with hs|hs
  ·exact hf s hs
  ·rw[qy] at hs;subst hs;exact⟨by simp,hc,fun x hx=>by cases hx⟩
theorem y7W{s:DStep}(h:DOkW s):1<=(exS s).length/\(s.kind≠1->s.n<=(exS s).length)/\0<=s.n/\(s.kind=1->s.n=0):=by
 unfold exS
 rcases h with⟨k,n,a,e,_⟩| ⟨k,_,_,n1,_⟩
 ·rw[if_pos k,qk]
  have:0<s.elems.length:=jd.2 e
  exact⟨this,fun q=>absurd k q,by omega,fun _=>n⟩
 ·have k1:¬s.kind=1:=by omega
  rw[if_neg k1]
  refine⟨?_,fun _=> ?_,by omega,fun q=>absurd q k1⟩<;>split<;>simp<;>omega
theorem z9U:∀{l:List DStep},(∀s∈l,DOkW s)->l.length<=(exD l).length/\∀s∈l,0<=s.n/\s.n<=((exD l).length:Int)
 | [],_=>⟨qt _,fun s hs=>by cases hs⟩
 |s::l,h=>by
  have h1:=y7W (h s (by simp))
  have h2:=z9U (l:=l) (fun t ht=>h t (by simp[ht]))
  simp only[exD,qf,qi]
  refine⟨by omega,fun t ht=> ?_⟩
  rcases qj.1 ht with rfl|ht
  ·refine⟨h1.2.2.1,?_⟩
   by_cases k:t.kind=1
   ·have:=h1.2.2.2 k;omega
   ·have:=h1.2.1 k;omega
  ·have:=h2.2 t ht;omega
structure DI(w:DWr)(us:List DU)(T:Nat)(G:DWr):Prop where
 good:GoodD w
 wb:WBd w
 units:∀u∈us,z03 u
 len:(exDW w).length+us.length=T
 small:T<=8589934592
 eq:foldD w us=G
variable {w G:DWr} {us:List DU} {T:Nat}
theorem DI.bd(h:DI w us T G):w.out.length<=T/\w.add.length<=T/\0<=w.cut/\w.cut<=T/\us.length<=T/\T<=8589934592/\w.add.length+us.length<=T/\w.cut+us.length<=T:=by
 have h1:=(z9U h.good.ok).1
 have h2:=h.good.cut
 have h3:=h.len
 have h4:=h.small
 unfold exDW at h3
 simp only[qf,zw,qk] at h3
 omega
theorem DI.fl(h:DI w us T G):(∀s∈z0a w,0<=s.n/\s.n<=10000000000)/\DN 400000000000 (z0a w):=by
 have hb:=h.bd
 refine⟨fun s hs=> ?_,h.wb.flush (by omega)⟩
 have h1:=(z9U (z4a h.good).1).2 s hs
 rw[z54 h.good] at h1
 have h3:=h.len
 omega
theorem DI.keep{n:Nat}{c:List Attr}(h:DI w (List.replicate (n+1) (.K c)++us) T G):DI ⟨keepD (z0a w) ((n+1:Nat):Int) c,[],0⟩ us T G:=by
 have hu:=h.units (.K c) (by rw[qE];simp)
 have hb:=h.bd
 obtain⟨g1,g2⟩:=h.good.keep (n:=((n+1:Nat):Int)) (by omega) hu.1
 refine⟨g1,h.wb.keep (by omega) hu.2,fun u hu=>h.units u (by simp[hu]),?_,h.small,?_⟩
 ·have h3:=h.len
  rw[g2]
  simp only[qf,zw] at h3|-
  omega
 ·rw[<-h.eq,z7N]
theorem y33{u v:List DU}(h:DSw u v):u.length=v.length:=by
 induction h with
 |refl u=>rfl
 |cons x _ ih=>simp[ih]
 |swap e u=>rfl
 |symm _ ih=>exact ih.symm
 |trans _ _ a b=>exact a.trans b
theorem DI.elems{e:List Elem}(h:DI w (e.map .A++us) T G):DI ⟨w.out,w.add++e,w.cut⟩ us T G:=by
 have hu:∀x∈e,z03 (.A x):=fun x hx=>h.units (.A x) (by simp[hx])
 obtain⟨g1,g2⟩:=h.good.elems (e:=e) (fun x hx=>(hu x hx).1)
 refine⟨g1,⟨h.wb.out,fun x hx=> ?_⟩,fun u hu=>h.units u (by simp[hu]),?_,h.small,?_⟩
 ·rcases qp.1 hx with hx|hx
  ·exact h.wb.add x hx
  ·exact(hu x hx).2
 ·have h3:=h.len
  rw[y33 g2]
  simp only[qf,qk] at h3|-
  omega
 ·rw[<-h.eq,y1g]
theorem DI.cuts{n:Nat}(h:DI w (List.replicate n .C++us) T G):DI ⟨w.out,w.add,w.cut+n⟩ us T G:=by
 obtain⟨g1,g2⟩:=h.good.cuts (n:=(n:Int)) (by omega)
 refine⟨g1,⟨h.wb.out,h.wb.add⟩,fun u hu=>h.units u (by simp[hu]),?_,h.small,?_⟩
 ·have h3:=h.len
  rw[g2]
  simp only[qf,zw] at h3|-
  omega
 ·rw[<-h.eq,y6d]
theorem DI.done(h:DI w [] T G):w=G:=h.eq
def doneD(us:List DU):List DStep:=z0a (foldD ⟨[],[],0⟩ us)
theorem DI.start(h:∀u∈us,z03 u)(hs:us.length<=8589934592):DI ⟨[],[],0⟩ us us.length (foldD ⟨[],[],0⟩ us):=
 ⟨y63,⟨fun s h=>(by cases h),fun x h=>(by cases h)⟩,h,by simp[exDW,exD],hs,rfl⟩
theorem y1h:∀(us:List DU) (w:DWr),GoodD w->(∀u∈us,z03 u)->GoodD (foldD w us)/\DSw (exDW (foldD w us)) (exDW w++us)
 | [],w,h,_=>⟨h,by simp only[foldD,qM];exact .refl _⟩
 |u::us,w,h,hu=>by
  have h0:=hu u (by simp)
  have hp:GoodD (putU w u)/\DSw (exDW (putU w u)) (exDW w++[u]):=by
   cases u with
   |K c=>
    obtain⟨g1,g2⟩:=h.keep (n:=1) (by decide) h0.1
    exact⟨g1,by simp only[putU];rw[g2];exact .refl _⟩
   |A e=>
    obtain⟨g1,g2⟩:=h.elems (e:=[e]) (fun x hx=>by rw[qy] at hx;subst hx;exact h0.1)
    exact⟨g1,g2⟩
   |C=>
    obtain⟨g1,g2⟩:=h.cuts (n:=1) (by decide)
    exact⟨g1,by simp only[putU];rw[g2];exact .refl _⟩
  obtain⟨q1,q2⟩:=y1h us (putU w u) hp.1 (fun v hv=>hu v (by simp[hv]))
  refine⟨q1,.trans q2 ?_⟩
  have:=hp.2.right us
  simpa using this
theorem z3g(h:∀u∈us,z03 u)(h1:oldN us<=2147483647)(h2:newN us<=2147483647):
 z0U (doneD us)/\DSw (exD (doneD us)) us/\oldD (doneD us)=oldN us/\newD (doneD us)=newN us:=by
 obtain⟨q1,q2⟩:=y1h us ⟨[],[],0⟩ y63 h
 exact q1.valid (by simpa[exDW,exD] using q2) h1 h2
theorem z9V(us:List DU):us.length<=oldN us+newN us:=by
 induction us with
 |nil=>simp[oldN]
 |cons u us ih=>cases u<;>simp[oldN,newN]<;>omega
end Go.Ch
end
section
namespace Go.Ch
open Go Go.Ab
theorem z1q(g:Attr->Attr->Option Attr)(a b:List Attr):(fm g a b).length<=a.length+b.length:=by
 unfold fm
 exact qD (ja _ _) (y3z a b)
def KOk(us:List DU):Prop:=(∀c,DU.K c∈us->VG true c/\c.length<=100000000000)/\(∀e,DU.A e∈us->elemE e=0/\e.attrs.length<=100000000000)
def EOk(r:List Elem):Prop:=∀x∈r,elemE x=0/\x.attrs.length<=100000000000
theorem KOk.tail{u:DU}{us:List DU}(h:KOk (u::us)):KOk us:=⟨fun c hc=>h.1 c (by simp[hc]),fun e he=>h.2 e (by simp[he])⟩
theorem EOk.tail{x:Elem}{r:List Elem}(h:EOk (x::r)):EOk r:=fun y hy=>h y (by simp[hy])
theorem z2A:∀(us:List DU) (r:List Elem),oldN us=r.length->(z0i us r).length=newN us
 | [],r,h=>by simp[z0i,newN]
 | .A e::us,r,h=>by
  have:=z2A us r (by simpa[oldN] using h)
  simp[z0i,newN,this]
 | .K c::us,[],h=>by simp[oldN] at h
 | .C::us,[],h=>by simp[oldN] at h
 | .K c::us,x::r,h=>by
  have:=z2A us r (by simpa[oldN] using h)
  simp[z0i,newN,this]
 | .C::us,x::r,h=>by
  have:=z2A us r (by simpa[oldN] using h)
  simp[z0i,newN,this]
theorem y7X{x:Elem}{c:List Attr}(h:elemE x=0)(hc:VG true c):elemE (chgE c x)=0:=by
 have v:=raw_V np_mt (y7K h) hc
 unfold elemE at h|-
 unfold chgE
 simp only
 split at h
 ·omega
 ·rename_i q1
  rw[if_neg q1]
  split at h
  ·omega
  ·rename_i q2
   rw[if_neg q2]
   exact z05.2 v
theorem exD_K{l:List DStep}(h:∀s∈l,DOk s)(hd:DN 100000000000 l):KOk (exD l):=by
 induction l with
 |nil=>exact⟨fun c hc=>by simp[exD] at hc,fun c hc=>by simp[exD] at hc⟩
 |cons s l ih=>
  obtain⟨i1,i2⟩:=ih (fun t ht=>h t (by simp[ht])) (fun t ht=>hd t (by simp[ht]))
  have hs:=h s (by simp)
  obtain⟨b1,b2,b3⟩:=hd s (by simp)
  refine⟨fun c hc=> ?_,fun e he=> ?_⟩
  ·simp only[exD,qp] at hc
   rcases hc with hc|hc
   ·unfold exS at hc
    rcases hs with⟨k,_⟩| ⟨k,_,_,_,_,v⟩
    ·rw[if_pos k] at hc;simp at hc
    ·rw[if_neg (by omega)] at hc
     split at hc
     ·simp[zX] at hc
     ·have:=zn hc
      cases this
      exact⟨v,b2⟩
   ·exact i1 c hc
  ·simp only[exD,qp] at he
   rcases he with he|he
   ·unfold exS at he
    rcases hs with⟨k,_,_,_,q⟩| ⟨k,_⟩
    ·rw[if_pos k,qC] at he
     obtain⟨x,hx,e1⟩:=he
     cases e1
     exact⟨q _ hx,b3 _ hx⟩
    ·rw[if_neg (by omega)] at he
     split at he
     ·simp[zX] at he
     ·simp[zX] at he
   ·exact i2 e he
theorem y64{us:List DU}(h:KOk us):UOk us:=by
 induction us with
 |nil=>trivial
 |cons u us ih=>
  cases u with
  |K c=>exact⟨(h.1 c (by simp)).1,ih h.tail⟩
  |A e=>exact ih h.tail
  |C=>exact ih h.tail
variable {w G:DWr} {us:List DU} {T:Nat}
theorem DN.mono{m n:Nat}{l:List DStep}(h:DN m l)(hm:m<=n):DN n l:=fun s hs=>⟨qD (h s hs).1 hm,qD (h s hs).2.1 hm,fun x hx=>qD ((h s hs).2.2 x hx) hm⟩
end Go.Ch
end
section
namespace Go.Ch
open Go Go.Ab
def boolT(b:Bool):Tree:= .sc (.bool b)
structure Act where
 ins:List (List Elem)
 cut:List Bool
 set:List (List Attr)
variable {w G:DWr} {us:List DU} {T:Nat}
theorem DI.keep1{c:List Attr}(h:DI w (.K c::us) T G):DI ⟨keepD (z0a w) 1 c,[],0⟩ us T G:=DI.keep (n:=0) h
theorem DI.cut1(h:DI w (.C::us) T G):DI ⟨w.out,w.add,w.cut+1⟩ us T G:=DI.cuts (n:=1) h
end Go.Ch
end
section

end
section

end
section
namespace Go.Ch
open Go Go.Ab
def onB:ByteArray:={data:=#[111,110]}
def UnitS:DU->Prop
 | .K c=>VG true c/\c.length<=100
 | .A e=>elemE e=0/\e.attrs.length<=100
 | .C=>True
theorem UnitS.ok{u:DU}(h:UnitS u):z03 u:=by
 cases u with
 |K c=>exact⟨h.1,by have:=h.2;omega⟩
 |A e=>exact⟨h.1,by have:=h.2;omega⟩
 |C=>trivial
theorem z0z{α:Type}[Inhabited α]{l:List α}{k:Nat}(h:k<l.length):l.getD k default∈l:=by
 rw[show l.getD k default=l[k] by simp[List.getD,qa h]]
 exact zo h
theorem z57{u v:List DU}(h:DSw u v):∀x,x∈u↔x∈v:=by
 induction h with
 |refl u=>exact fun x=>Iff.rfl
 |cons y _ ih=>intro x;simp[ih x]
 |swap e u=>intro x;simp only[qj];constructor<;>rintro(h|h|h)<;>simp[h]
 |symm _ ih=>exact fun x=>(ih x).symm
 |trans _ _ a b=>exact fun x=>(a x).trans (b x)
theorem y7Y{l:List DStep}{s:DStep}(h:s∈l){u:DU}(hu:u∈exS s):u∈exD l:=by
 induction l with
 |nil=>cases h
 |cons t l ih=>
  simp only[exD,qp]
  rcases qj.1 h with rfl|h
  ·exact .inl hu
  ·exact .inr (ih h)
theorem y1i:∀{l:List DStep},(∀s∈l,DOk s)->∀s∈l,nS s<=newD l
 | [],_,s,h=>by cases h
 |t::l,h,s,hs=>by
  have h1:=oS_nn (h t (by simp))
  have h2:=z7K (l:=l) (fun t ht=>h t (by simp[ht]))
  simp only[newD]
  rcases qj.1 hs with rfl|hs
  ·omega
  ·have:=y1i (l:=l) (fun t ht=>h t (by simp[ht])) s hs;omega
theorem dn_of{l:List DStep}{us:List DU}(hv:z0U l)(hs:DSw (exD l) us)(hu:∀u∈us,UnitS u):DN 100000000000 l:=by
 intro s hs'
 have ho:=hv.1.all s hs'
 have hn:=y1i hv.1.all s hs'
 have v2:=hv.2.2
 have hm:=fun u hu'=>hu u ((z57 hs u).1 (y7Y hs' (u:=u) hu'))
 unfold exS at hm
 unfold nS szD at hn
 rcases ho with⟨k,n,a,e,q⟩| ⟨k,a,b,n1,n2,v⟩
 ·rw[if_neg (by omega),if_pos k] at hn
  rw[if_pos k] at hm
  refine⟨by omega,by rw[a];simp,fun x hx=> ?_⟩
  have:=(hm (.A x) (qC.2 ⟨x,hx,rfl⟩)).2
  omega
 ·rw[if_neg (by omega)] at hm
  refine⟨by rw[a];simp,?_,fun x hx=>by rw[a] at hx;cases hx⟩
  by_cases k2:s.kind=2
  ·rw[b k2];simp
  ·rw[if_neg k2] at hm
   have:=(hm (.K s.attrs) (by rw[zX];exact⟨by omega,rfl⟩)).2
   omega
end Go.Ch
end
section
namespace Go.Ch
open Go Go.Ab
variable {w G:DWr} {us:List DU} {T:Nat}
theorem DI.all:∀{us:List DU} {w:DWr},DI w us T G->DI G [] T G
 | [],w,h=>by have:=h.done;subst this;exact h
 | .K c::us,w,h=>DI.all h.keep1
 | .A e::us,w,h=>DI.all (DI.elems (e:=[e]) h)
 | .C::us,w,h=>DI.all h.cut1
theorem y1j(hu:∀u∈us,z03 u)(hs:us.length<=8589934592):DN 400000000000 (doneD us):=(DI.start hu hs).all.fl.2
end Go.Ch
end
section
namespace Go.Ch
open Go Go.Ab
def z0g:List DU->List DU->List DU
 | .C::p,q=> .C::z0g p q
 |p,.A e::q=> .A e::z0g p q
 | .K c::p,.K d::q=> .K (fm botG c d)::z0g p q
 | .K _::p,.C::q=> .C::z0g p q
 | .A e::p,.K d::q=> .A (chgE d e)::z0g p q
 | .A _::p,.C::q=>z0g p q
 |p,[]=>p
 | [],_=>[]
termination_by p q=>p.length+q.length
theorem y34{x:Elem}{c d:List Attr}(hx:VG false x.attrs)(hc:VG true c)(hd:VG true d):chgE (fm botG c d) x=chgE d (chgE c x):=by
 unfold chgE
 simp only
 rw[y3B np_mt hx hc hd]
theorem z07:∀(n:Nat) (p q:List DU) (l:List Elem),p.length+q.length<=n->oldN p=l.length->newN p=oldN q->UOk p->UOk q->(∀x∈l,VG false x.attrs)->
 z0i (z0g p q) l=z0i q (z0i p l)
 |n,.C::p,q,[],hn,ho,_,_,_,_=>by simp[oldN] at ho
 |n,.C::p,q,x::l,hn,ho,hm,hp,hq,hl=>by
  simp only[qi] at hn
  obtain⟨n,rfl⟩:∃k,n=k+1:=⟨n- 1,by omega⟩
  rw[z0g]
  simp only[z0i]
  exact z07 n p q l (by omega) (by simpa[oldN] using ho) (by simpa[newN] using hm) hp hq (fun y hy=>hl y (by simp[hy]))
 |n,[],.A e::q,l,hn,ho,hm,hp,hq,hl=>by
  simp only[qi] at hn
  obtain⟨n,rfl⟩:∃k,n=k+1:=⟨n- 1,by omega⟩
  rw[z0g]
  ·simp only[z0i]
   rw[z07 n [] q l (by simp only[zd] at hn|-;omega) ho (by simpa[oldN] using hm) hp hq hl]
   simp[z0i]
  ·intro p hp;cases hp
 |n,.A a::p,.A e::q,l,hn,ho,hm,hp,hq,hl=>by
  simp only[qi] at hn
  obtain⟨n,rfl⟩:∃k,n=k+1:=⟨n- 1,by omega⟩
  rw[z0g]
  ·simp only[z0i]
   rw[z07 n (.A a::p) q l (by simp only[qi];omega) ho (by simpa[oldN] using hm) hp hq hl]
   simp[z0i]
  ·intro p hp;cases hp
 |n,.K c::p,.A e::q,l,hn,ho,hm,hp,hq,hl=>by
  simp only[qi] at hn
  obtain⟨n,rfl⟩:∃k,n=k+1:=⟨n- 1,by omega⟩
  rw[z0g]
  ·simp only[z0i]
   rw[z07 n (.K c::p) q l (by simp only[qi];omega) ho (by simpa[oldN] using hm) hp hq hl]
  ·intro p hp;cases hp
 |n,.K c::p,.K d::q,[],hn,ho,hm,hp,hq,hl=>by simp[oldN] at ho
 |n,.K c::p,.K d::q,x::l,hn,ho,hm,hp,hq,hl=>by
  simp only[qi] at hn
  obtain⟨n,rfl⟩:∃k,n=k+1:=⟨n- 1,by omega⟩
  rw[z0g]
  simp only[z0i]
  rw[z07 n p q l (by omega) (by simpa[oldN] using ho) (by simpa[newN,oldN] using hm) hp.2 hq.2 (fun y hy=>hl y (by simp[hy])),y34 (hl x (by simp)) hp.1 hq.1]
 |n,.K c::p,.C::q,[],hn,ho,hm,hp,hq,hl=>by simp[oldN] at ho
 |n,.K c::p,.C::q,x::l,hn,ho,hm,hp,hq,hl=>by
  simp only[qi] at hn
  obtain⟨n,rfl⟩:∃k,n=k+1:=⟨n- 1,by omega⟩
  rw[z0g]
  simp only[z0i]
  exact z07 n p q l (by omega) (by simpa[oldN] using ho) (by simpa[newN,oldN] using hm) hp.2 hq (fun y hy=>hl y (by simp[hy]))
 |n,.A a::p,.K d::q,l,hn,ho,hm,hp,hq,hl=>by
  simp only[qi] at hn
  obtain⟨n,rfl⟩:∃k,n=k+1:=⟨n- 1,by omega⟩
  rw[z0g]
  simp only[z0i]
  rw[z07 n p q l (by omega) (by simpa[oldN] using ho) (by simpa[newN,oldN] using hm) hp hq.2 hl]
 |n,.A a::p,.C::q,l,hn,ho,hm,hp,hq,hl=>by
  simp only[qi] at hn
  obtain⟨n,rfl⟩:∃k,n=k+1:=⟨n- 1,by omega⟩
  rw[z0g]
  simp only[z0i]
  exact z07 n p q l (by omega) (by simpa[oldN] using ho) (by simpa[newN,oldN] using hm) hp hq hl
 |n,[],[],l,hn,ho,hm,hp,hq,hl=>by simp[z0g,z0i]
 |n,[],.K d::q,l,hn,ho,hm,hp,hq,hl=>by simp[oldN,newN] at hm
 |n,[],.C::q,l,hn,ho,hm,hp,hq,hl=>by simp[oldN,newN] at hm
 |n,.K c::p,[],l,hn,ho,hm,hp,hq,hl=>by simp[oldN,newN] at hm
 |n,.A c::p,[],l,hn,ho,hm,hp,hq,hl=>by simp[oldN,newN] at hm
end Go.Ch
end
section
namespace Go.Ch
open Go Go.Ab
theorem y35:∀l:List Attr,fm rawG l []=l
 | []=>by simp[fm,bothL]
 |x::l=>by
  have ih:=y35 l
  unfold fm at ih|-
  rw[bothL,z1Y,ih]
  have:rawG x default=some x:=by unfold rawG;rw[if_pos (show(default:Attr).name=mt from rfl)]
  rw[this];rfl
theorem z2e(x:Elem):chgE [] x=x:=by unfold chgE;rw[y35]
def z0b:List DU->List DU->List DU×List DU
 | .A e::p,q=>(.A e::(z0b p q).1,.K []::(z0b p q).2)
 | [],.A e::q=>(.K []::(z0b [] q).1,.A e::(z0b [] q).2)
 | .K c::p,.A e::q=>(.K []::(z0b (.K c::p) q).1,.A e::(z0b (.K c::p) q).2)
 | .C::p,.A e::q=>(.K []::(z0b (.C::p) q).1,.A e::(z0b (.C::p) q).2)
 | .K c::p,.K d::q=>(.K (fm wioG c d)::(z0b p q).1,.K d::(z0b p q).2)
 | .K _::p,.C::q=>((z0b p q).1,.C::(z0b p q).2)
 | .C::p,.K _::q=>(.C::(z0b p q).1,(z0b p q).2)
 | .C::p,.C::q=>z0b p q
 |_,[]=>([],[])
 | [],_=>([],[])
termination_by p q=>p.length+q.length
theorem y36{x:Elem}{c d:List Attr}(hx:VG false x.attrs)(hc:VG true c)(hd:VG true d):chgE d (chgE c x)=chgE (fm wioG c d) (chgE d x):=by
 unfold chgE
 simp only
 rw[y18 np_mt hx hc hd]
theorem z0K:∀(n:Nat) (p q:List DU) (l:List Elem),p.length+q.length<=n->oldN p=l.length->oldN q=l.length->UOk p->UOk q->(∀x∈l,VG false x.attrs)->
 z0i (z0b p q).2 (z0i p l)=z0i (z0b p q).1 (z0i q l)/\
 oldN (z0b p q).2=newN p/\oldN (z0b p q).1=newN q/\newN (z0b p q).1=newN (z0b p q).2
 |n,.A e::p,q,l,hn,ho,hm,hp,hq,hl=>by
  simp only[qi] at hn
  obtain⟨n,rfl⟩:∃k,n=k+1:=⟨n- 1,by omega⟩
  obtain⟨i1,i2,i3,i4⟩:=z0K n p q l (by omega) (by simpa[oldN] using ho) hm hp hq hl
  rw[z0b]
  simp only[z0i,z2e,oldN,newN]
  exact⟨by rw[i1],by omega,by omega,by omega⟩
 |n,[],.A e::q,l,hn,ho,hm,hp,hq,hl=>by
  simp only[qi] at hn
  obtain⟨n,rfl⟩:∃k,n=k+1:=⟨n- 1,by omega⟩
  obtain⟨i1,i2,i3,i4⟩:=z0K n [] q l (by simp only[zd] at hn|-;omega) ho (by simpa[oldN] using hm) hp hq hl
  rw[z0b]
  simp only[z0i,z2e,oldN,newN] at i1 i2 i3 i4|-
  exact⟨by rw[i1],by omega,by omega,by omega⟩
 |n,.K c::p,.A e::q,l,hn,ho,hm,hp,hq,hl=>by
  simp only[qi] at hn
  obtain⟨n,rfl⟩:∃k,n=k+1:=⟨n- 1,by omega⟩
  obtain⟨i1,i2,i3,i4⟩:=z0K n (.K c::p) q l (by simp only[qi];omega) ho (by simpa[oldN] using hm) hp hq hl
  rw[z0b]
  rw[show z0i (.A e::q) l=e::z0i q l by simp[z0i]]
  rw[z0i,z0i,i1,z2e]
  exact⟨rfl,i2,by simp only[oldN,newN];omega,by simp only[newN];omega⟩
 |n,.C::p,.A e::q,l,hn,ho,hm,hp,hq,hl=>by
  simp only[qi] at hn
  obtain⟨n,rfl⟩:∃k,n=k+1:=⟨n- 1,by omega⟩
  obtain⟨i1,i2,i3,i4⟩:=z0K n (.C::p) q l (by simp only[qi];omega) ho (by simpa[oldN] using hm) hp hq hl
  rw[z0b]
  rw[show z0i (.A e::q) l=e::z0i q l by simp[z0i]]
  rw[z0i,z0i,i1,z2e]
  exact⟨rfl,i2,by simp only[oldN,newN];omega,by simp only[newN];omega⟩
 |n,.K c::p,.K d::q,[],hn,ho,hm,hp,hq,hl=>by simp[oldN] at ho
 |n,.K c::p,.K d::q,x::l,hn,ho,hm,hp,hq,hl=>by
  simp only[qi] at hn
  obtain⟨n,rfl⟩:∃k,n=k+1:=⟨n- 1,by omega⟩
  obtain⟨i1,i2,i3,i4⟩:=z0K n p q l (by omega) (by simpa[oldN] using ho) (by simpa[oldN] using hm) hp.2 hq.2 (fun y hy=>hl y (by simp[hy]))
  rw[z0b]
  simp only[z0i,oldN,newN]
  exact⟨by rw[i1,y36 (hl x (by simp)) hp.1 hq.1],by omega,by omega,by omega⟩
 |n,.K c::p,.C::q,[],hn,ho,hm,hp,hq,hl=>by simp[oldN] at ho
 |n,.K c::p,.C::q,x::l,hn,ho,hm,hp,hq,hl=>by
  simp only[qi] at hn
  obtain⟨n,rfl⟩:∃k,n=k+1:=⟨n- 1,by omega⟩
  obtain⟨i1,i2,i3,i4⟩:=z0K n p q l (by omega) (by simpa[oldN] using ho) (by simpa[oldN] using hm) hp.2 hq (fun y hy=>hl y (by simp[hy]))
  rw[z0b]
  simp only[z0i,oldN,newN]
  exact⟨i1,by omega,by omega,by omega⟩
 |n,.C::p,.K d::q,[],hn,ho,hm,hp,hq,hl=>by simp[oldN] at ho
 |n,.C::p,.K d::q,x::l,hn,ho,hm,hp,hq,hl=>by
  simp only[qi] at hn
  obtain⟨n,rfl⟩:∃k,n=k+1:=⟨n- 1,by omega⟩
  obtain⟨i1,i2,i3,i4⟩:=z0K n p q l (by omega) (by simpa[oldN] using ho) (by simpa[oldN] using hm) hp hq.2 (fun y hy=>hl y (by simp[hy]))
  rw[z0b]
  simp only[z0i,oldN,newN]
  exact⟨i1,by omega,by omega,by omega⟩
 |n,.C::p,.C::q,[],hn,ho,hm,hp,hq,hl=>by simp[oldN] at ho
 |n,.C::p,.C::q,x::l,hn,ho,hm,hp,hq,hl=>by
  simp only[qi] at hn
  obtain⟨n,rfl⟩:∃k,n=k+1:=⟨n- 1,by omega⟩
  obtain⟨i1,i2,i3,i4⟩:=z0K n p q l (by omega) (by simpa[oldN] using ho) (by simpa[oldN] using hm) hp hq (fun y hy=>hl y (by simp[hy]))
  rw[z0b]
  simp only[z0i,oldN,newN]
  exact⟨i1,by omega,by omega,by omega⟩
 |n,[],[],l,hn,ho,hm,hp,hq,hl=>by simp[z0b,z0i,oldN,newN]
 |n,[],.K d::q,l,hn,ho,hm,hp,hq,hl=>by simp only[oldN] at ho hm;omega
 |n,[],.C::q,l,hn,ho,hm,hp,hq,hl=>by simp only[oldN] at ho hm;omega
 |n,.K c::p,[],l,hn,ho,hm,hp,hq,hl=>by simp only[oldN] at ho hm;omega
 |n,.C::p,[],l,hn,ho,hm,hp,hq,hl=>by simp only[oldN] at ho hm;omega
theorem z08:∀(n:Nat) (p q:List DU),p.length+q.length<=n->newN p=oldN q->oldN (z0g p q)=oldN p/\newN (z0g p q)=newN q
 |n,.C::p,q,hn,hm=>by
  simp only[qi] at hn
  obtain⟨n,rfl⟩:∃k,n=k+1:=⟨n- 1,by omega⟩
  have i:=z08 n p q (by omega) (by simpa[newN] using hm)
  rw[z0g];simp only[oldN,newN];omega
 |n,[],.A e::q,hn,hm=>by
  simp only[qi] at hn
  obtain⟨n,rfl⟩:∃k,n=k+1:=⟨n- 1,by omega⟩
  have i:=z08 n [] q (by simp only[zd] at hn|-;omega) (by simpa[oldN] using hm)
  rw[z0g]
  ·simp only[oldN,newN] at i|-;omega
  ·intro p hp;cases hp
 |n,.A a::p,.A e::q,hn,hm=>by
  simp only[qi] at hn
  obtain⟨n,rfl⟩:∃k,n=k+1:=⟨n- 1,by omega⟩
  have i:=z08 n (.A a::p) q (by simp only[qi];omega) (by simpa[oldN] using hm)
  rw[z0g]
  ·simp only[oldN,newN] at i|-;omega
  ·intro p hp;cases hp
 |n,.K c::p,.A e::q,hn,hm=>by
  simp only[qi] at hn
  obtain⟨n,rfl⟩:∃k,n=k+1:=⟨n- 1,by omega⟩
  have i:=z08 n (.K c::p) q (by simp only[qi];omega) (by simpa[oldN] using hm)
  rw[z0g]
  ·simp only[oldN,newN] at i|-;omega
  ·intro p hp;cases hp
 |n,.K c::p,.K d::q,hn,hm=>by
  simp only[qi] at hn
  obtain⟨n,rfl⟩:∃k,n=k+1:=⟨n- 1,by omega⟩
  have i:=z08 n p q (by omega) (by simpa[newN,oldN] using hm)
  rw[z0g];simp only[oldN,newN];omega
 |n,.K c::p,.C::q,hn,hm=>by
  simp only[qi] at hn
  obtain⟨n,rfl⟩:∃k,n=k+1:=⟨n- 1,by omega⟩
  have i:=z08 n p q (by omega) (by simpa[newN,oldN] using hm)
  rw[z0g];simp only[oldN,newN];omega
 |n,.A a::p,.K d::q,hn,hm=>by
  simp only[qi] at hn
  obtain⟨n,rfl⟩:∃k,n=k+1:=⟨n- 1,by omega⟩
  have i:=z08 n p q (by omega) (by simpa[newN,oldN] using hm)
  rw[z0g];simp only[oldN,newN];omega
 |n,.A a::p,.C::q,hn,hm=>by
  simp only[qi] at hn
  obtain⟨n,rfl⟩:∃k,n=k+1:=⟨n- 1,by omega⟩
  have i:=z08 n p q (by omega) (by simpa[newN,oldN] using hm)
  rw[z0g];simp only[oldN,newN];omega
 |n,[],[],hn,hm=>by simp[z0g,oldN,newN]
 |n,[],.K d::q,hn,hm=>by simp[oldN,newN] at hm
 |n,[],.C::q,hn,hm=>by simp[oldN,newN] at hm
 |n,.K c::p,[],hn,hm=>by simp[oldN,newN] at hm
 |n,.A c::p,[],hn,hm=>by simp[oldN,newN] at hm
end Go.Ch
namespace Go.Ch
open Go Go.Ab
def kindD(l:List DStep):Int:=if l.length=0 then-1 else(l.getD 0 default).kind
end Go.Ch
end
section
set_option maxRecDepth 100000
set_option maxHeartbeats 4000000
open Go Go.Proofs Go.Ab
namespace Go.Ch
theorem z2f(l:List DStep)(u:Int):FC Tryz.prog 107 [.ptr 0 0] (app emp [(0,.box [VL 4 z0d l,VI u])]) (VI (kindD l)) (app emp [(0,.box [VL 4 z0d l,VI u])]):=by
 refine .go Tryz.f107 ?_
 refine .bp [.r [],.r [(4,X (Xl z0d l))]] ((l.length:Int)==0) (fun h1=> ?_) (fun h1=> ?_)
 ·
  have e1:((kindD l):Int)= -1:=by
   unfold kindD;((repeat' split)<;>first|rfl|omega| (simp_all;done)| (simp_all;omega))
  exact .finE [.r []] [(0,0)] (fun z0:Int=>(VI z0,[(0,.box [VL 4 z0d l,VI u])])) _ _ e1
 ·
  have e2:((kindD l):Int)=((l.getD 0 default)).kind:=by
   unfold kindD;((repeat' split)<;>first|rfl|omega| (simp_all;done)| (simp_all;omega))
  exact .finE [.r [(4,X (Xi z0d l 0))]] [(0,0)] (fun z0:Int=>(VI z0,[(0,.box [VL 4 z0d l,VI u])])) _ _ e2
theorem z2g(l:List DStep)(u:Int)(h0:0<l.length)(hb: -9223372036854775808<=szD (l.getD 0 default)- u/\szD (l.getD 0 default)- u<=9223372036854775807):FC Tryz.prog 109 [.ptr 0 0] (app emp [(0,.box [VL 4 z0d l,VI u])]) (VI (szD (l.getD 0 default)- u)) (app emp [(0,.box [VL 4 z0d l,VI u])]):=by
 refine .go Tryz.f109 ?_
 have e1:((szD (l.getD 0 default)- u):Int)=((szD ((l.getD 0 default)))- u):=by
  (first|omega|with_reducible exact fun h=>h| (intro hq;rw[hq];done)| (intro hq;rw[hq];rfl)| (simp only[qk];done)| (simp only[qk];omega)| (simp;omega)| (simp;done))
 exact .finE [.r [],.r [(4,X (Xi z0d l 0)),(6,X (Xc0 (z2K ((l.getD 0 default))) X0)),(11,X (Xn ((szD ((l.getD 0 default)))- u)))]] [(0,0)] (fun z0:Int=>(VI z0,[(0,.box [VL 4 z0d l,VI u])])) _ _ e1
def tkE(l:List DStep)(u n:Int):DStep:=if(l.getD 0 default).kind=1 then⟨(l.getD 0 default).kind,(l.getD 0 default).n,(l.getD 0 default).attrs,((l.getD 0 default).elems.take (u+n).toNat).drop u.toNat⟩ else⟨(l.getD 0 default).kind,n,(l.getD 0 default).attrs,(l.getD 0 default).elems⟩
def tkL(l:List DStep)(u n:Int):List DStep:=if u+n=szD (l.getD 0 default) then l.drop 1 else l
def tkN(l:List DStep)(u n:Int):Int:=if u+n=szD (l.getD 0 default) then 0 else u+n
theorem y6e(l:List DStep)(u n:Int)(h0:0<l.length)(hu:0<=u/\0<=n/\u+n<=szD (l.getD 0 default)/\u+n<=9223372036854775807):FC Tryz.prog 108 [.ptr 0 0,VI n] (app emp [(0,.box [VL 4 z0d l,VI u])]) (.t (z0d (tkE l u n))) (app emp [(0,.box [VL 4 z0d (tkL l u n),VI (tkN l u n)]),(1,.box [VI ((tkE l u n).kind),VI ((tkE l u n).n),VL 2 attrT ((tkE l u n).attrs),VL 3 elemT ((tkE l u n).elems)])]):=by
 refine .go Tryz.f108 ?_
 refine .bp [.r [],.r [(4,X (Xi z0d l 0))],.r []] ((((l.getD 0 default)).kind)==1) (fun h2=> ?_) (fun h2=> ?_)
 ·
  have hsz:szD (l.getD 0 default)=(l.getD 0 default).elems.length:=by unfold szD;rw[if_pos (by omega)]
  refine .bp [.r [(11,X (Xn (u+n))),(12,X (Xsb elemT 3 (((l.getD 0 default)).elems) u (u+n)))],.r [(5,X (Xn (u+n)))],.r [(8,X (Xi z0d l 0)),(10,X (Xc0 (z2K ((l.getD 0 default))) X0))]] ((u+n)==(szD ((l.getD 0 default)))) (fun h6=> ?_) (fun h6=> ?_)
  ·
   have e1:((tkL l u n):List DStep)=(l.drop 1):=by
    simp only[tkE,tkL,tkN];((repeat' split)<;>first|rfl|omega| (simp_all;done)| (simp_all;omega))
   have e2:((tkN l u n):Int)=0:=by
    simp only[tkE,tkL,tkN];((repeat' split)<;>first|rfl|omega| (simp_all;done)| (simp_all;omega))
   have e3:((tkE l u n).kind:Int)=((l.getD 0 default)).kind:=by
    simp only[tkE,tkL,tkN];((repeat' split)<;>first|rfl|omega| (simp_all;done)| (simp_all;omega))
   have e4:((tkE l u n).n:Int)=((l.getD 0 default)).n:=by
    simp only[tkE,tkL,tkN];((repeat' split)<;>first|rfl|omega| (simp_all;done)| (simp_all;omega))
   have e5:((tkE l u n).attrs:List Attr)=((l.getD 0 default)).attrs:=by
    simp only[tkE,tkL,tkN];((repeat' split)<;>first|rfl|omega| (simp_all;done)| (simp_all;omega))
   have e6:((tkE l u n).elems:List Elem)=(((((l.getD 0 default)).elems).take (Int.toNat (u+n))).drop (Int.toNat u)):=by
    simp only[tkE,tkL,tkN];((repeat' split)<;>first|rfl|omega| (simp_all;done)| (simp_all;omega))
   have e7:((tkE l u n):DStep)=({kind:=((l.getD 0 default)).kind,n:=((l.getD 0 default)).n,attrs:=((l.getD 0 default)).attrs,elems:=(((((l.getD 0 default)).elems).take (Int.toNat (u+n))).drop (Int.toNat u))}:DStep):=by
    simp only[tkE,tkL,tkN];((repeat' split)<;>first|rfl|omega| (simp_all;done)| (simp_all;omega))
   exact .finE [.r [(6,X (Xsd z0d 4 l 1))],.r []] [(0,0),(1,1)] (fun((z0,z1,z2,z3,z4,z5,z6):(List DStep)×Int×Int×Int×(List Attr)×(List Elem)×DStep)=>(.t (z0d z6),[(0,.box [VL 4 z0d z0,VI z1]),(1,.box [VI z2,VI z3,VL 2 attrT z4,VL 3 elemT z5])])) _ _ (pr e1 (pr e2 (pr e3 (pr e4 (pr e5 (pr e6 e7))))))
  ·
   have e8:((tkL l u n):List DStep)=l:=by
    simp only[tkE,tkL,tkN];((repeat' split)<;>first|rfl|omega| (simp_all;done)| (simp_all;omega))
   have e9:((tkN l u n):Int)=(u+n):=by
    simp only[tkE,tkL,tkN];((repeat' split)<;>first|rfl|omega| (simp_all;done)| (simp_all;omega))
   have e10:((tkE l u n).kind:Int)=((l.getD 0 default)).kind:=by
    simp only[tkE,tkL,tkN];((repeat' split)<;>first|rfl|omega| (simp_all;done)| (simp_all;omega))
   have e11:((tkE l u n).n:Int)=((l.getD 0 default)).n:=by
    simp only[tkE,tkL,tkN];((repeat' split)<;>first|rfl|omega| (simp_all;done)| (simp_all;omega))
   have e12:((tkE l u n).attrs:List Attr)=((l.getD 0 default)).attrs:=by
    simp only[tkE,tkL,tkN];((repeat' split)<;>first|rfl|omega| (simp_all;done)| (simp_all;omega))
   have e13:((tkE l u n).elems:List Elem)=(((((l.getD 0 default)).elems).take (Int.toNat (u+n))).drop (Int.toNat u)):=by
    simp only[tkE,tkL,tkN];((repeat' split)<;>first|rfl|omega| (simp_all;done)| (simp_all;omega))
   have e14:((tkE l u n):DStep)=({kind:=((l.getD 0 default)).kind,n:=((l.getD 0 default)).n,attrs:=((l.getD 0 default)).attrs,elems:=(((((l.getD 0 default)).elems).take (Int.toNat (u+n))).drop (Int.toNat u))}:DStep):=by
    simp only[tkE,tkL,tkN];((repeat' split)<;>first|rfl|omega| (simp_all;done)| (simp_all;omega))
   exact .finE [.r []] [(0,0),(1,1)] (fun((z0,z1,z2,z3,z4,z5,z6):(List DStep)×Int×Int×Int×(List Attr)×(List Elem)×DStep)=>(.t (z0d z6),[(0,.box [VL 4 z0d z0,VI z1]),(1,.box [VI z2,VI z3,VL 2 attrT z4,VL 3 elemT z5])])) _ _ (pr e8 (pr e9 (pr e10 (pr e11 (pr e12 (pr e13 e14))))))
 ·
  refine .bp [.r [],.r [(5,X (Xn (u+n)))],.r [(8,X (Xi z0d l 0)),(10,X (Xc0 (z2K ((l.getD 0 default))) X0))]] ((u+n)==(szD ((l.getD 0 default)))) (fun h6=> ?_) (fun h6=> ?_)
  ·
   have e15:((tkL l u n):List DStep)=(l.drop 1):=by
    simp only[tkE,tkL,tkN];((repeat' split)<;>first|rfl|omega| (simp_all;done)| (simp_all;omega))
   have e16:((tkN l u n):Int)=0:=by
    simp only[tkE,tkL,tkN];((repeat' split)<;>first|rfl|omega| (simp_all;done)| (simp_all;omega))
   have e17:((tkE l u n).kind:Int)=((l.getD 0 default)).kind:=by
    simp only[tkE,tkL,tkN];((repeat' split)<;>first|rfl|omega| (simp_all;done)| (simp_all;omega))
   have e18:((tkE l u n).n:Int)=n:=by
    simp only[tkE,tkL,tkN];((repeat' split)<;>first|rfl|omega| (simp_all;done)| (simp_all;omega))
   have e19:((tkE l u n).attrs:List Attr)=((l.getD 0 default)).attrs:=by
    simp only[tkE,tkL,tkN];((repeat' split)<;>first|rfl|omega| (simp_all;done)| (simp_all;omega))
   have e20:((tkE l u n).elems:List Elem)=((l.getD 0 default)).elems:=by
    simp only[tkE,tkL,tkN];((repeat' split)<;>first|rfl|omega| (simp_all;done)| (simp_all;omega))
   have e21:((tkE l u n):DStep)=({kind:=((l.getD 0 default)).kind,n:=n,attrs:=((l.getD 0 default)).attrs,elems:=((l.getD 0 default)).elems}:DStep):=by
    simp only[tkE,tkL,tkN];((repeat' split)<;>first|rfl|omega| (simp_all;done)| (simp_all;omega))
   exact .finE [.r [(6,X (Xsd z0d 4 l 1))],.r []] [(0,0),(1,1)] (fun((z0,z1,z2,z3,z4,z5,z6):(List DStep)×Int×Int×Int×(List Attr)×(List Elem)×DStep)=>(.t (z0d z6),[(0,.box [VL 4 z0d z0,VI z1]),(1,.box [VI z2,VI z3,VL 2 attrT z4,VL 3 elemT z5])])) _ _ (pr e15 (pr e16 (pr e17 (pr e18 (pr e19 (pr e20 e21))))))
  ·
   have e22:((tkL l u n):List DStep)=l:=by
    simp only[tkE,tkL,tkN];((repeat' split)<;>first|rfl|omega| (simp_all;done)| (simp_all;omega))
   have e23:((tkN l u n):Int)=(u+n):=by
    simp only[tkE,tkL,tkN];((repeat' split)<;>first|rfl|omega| (simp_all;done)| (simp_all;omega))
   have e24:((tkE l u n).kind:Int)=((l.getD 0 default)).kind:=by
    simp only[tkE,tkL,tkN];((repeat' split)<;>first|rfl|omega| (simp_all;done)| (simp_all;omega))
   have e25:((tkE l u n).n:Int)=n:=by
    simp only[tkE,tkL,tkN];((repeat' split)<;>first|rfl|omega| (simp_all;done)| (simp_all;omega))
   have e26:((tkE l u n).attrs:List Attr)=((l.getD 0 default)).attrs:=by
    simp only[tkE,tkL,tkN];((repeat' split)<;>first|rfl|omega| (simp_all;done)| (simp_all;omega))
   have e27:((tkE l u n).elems:List Elem)=((l.getD 0 default)).elems:=by
    simp only[tkE,tkL,tkN];((repeat' split)<;>first|rfl|omega| (simp_all;done)| (simp_all;omega))
   have e28:((tkE l u n):DStep)=({kind:=((l.getD 0 default)).kind,n:=n,attrs:=((l.getD 0 default)).attrs,elems:=((l.getD 0 default)).elems}:DStep):=by
    simp only[tkE,tkL,tkN];((repeat' split)<;>first|rfl|omega| (simp_all;done)| (simp_all;omega))
   exact .finE [.r []] [(0,0),(1,1)] (fun((z0,z1,z2,z3,z4,z5,z6):(List DStep)×Int×Int×Int×(List Attr)×(List Elem)×DStep)=>(.t (z0d z6),[(0,.box [VL 4 z0d z0,VI z1]),(1,.box [VI z2,VI z3,VL 2 attrT z4,VL 3 elemT z5])])) _ _ (pr e22 (pr e23 (pr e24 (pr e25 (pr e26 (pr e27 e28))))))
end Go.Ch
end
section
namespace Go.Ch
open Go Go.Ab
def ruD(l:List DStep)(u:Int):List DU:=(exD l).drop u.toNat
structure GoodRD(l:List DStep)(u:Int):Prop where
 ok:∀s∈l,DOk s
 pos:0<=u
 lt:0<l.length->u<szD (l.getD 0 default)
 nil:l.length=0->u=0
theorem y37{s:DStep}(h:DOk s):((exS s).length:Int)=szD s:=by
 unfold exS szD
 rcases h with⟨k,_⟩| ⟨k,_,_,n1,_⟩
 ·rw[if_pos k,if_pos k,qk]
 ·have k1:¬s.kind=1:=by omega
  rw[if_neg k1,if_neg k1]
  split<;>rw[zw]<;>omega
theorem ruD0(l:List DStep):ruD l 0=exD l:=rfl
theorem z2k{l:List DStep}{u:Int}(h:l.length=0):ruD l u=[]:=by
 rw[je.1 h];unfold ruD;simp[exD]
theorem z58{l:List DStep}{u n:Int}(ho:DOk (l.getD 0 default))(hu:0<=u)(hn:0<=n)(hl:u+n<=szD (l.getD 0 default)):
 (exS (l.getD 0 default)).drop u.toNat=exS (tkE l u n)++(exS (l.getD 0 default)).drop (u+n).toNat:=by
 unfold tkE
 generalize l.getD 0 default=s at*
 have hz:(u+n).toNat=u.toNat+n.toNat:=by omega
 unfold szD at hl
 by_cases k1:s.kind=1
 ·rw[if_pos k1] at hl|-
  unfold exS
  simp only[if_pos k1]
  rw[<-List.map_drop,<-List.map_drop,<-List.map_append]
  congr 1
  conv=>lhs;rw[<-List.take_append_drop (u+n).toNat s.elems]
  rw[jh (by rw[qO];omega)]
 ·rw[if_neg k1] at hl|-
  unfold exS
  simp only[if_neg k1]
  split
  ·rw[List.drop_replicate,List.drop_replicate,List.replicate_append_replicate];congr 1;omega
  ·rw[List.drop_replicate,List.drop_replicate,List.replicate_append_replicate];congr 1;omega
theorem z2S{l:List DStep}{u n:Int}(h:GoodRD l u)(h0:0<l.length)(hn:0<=n)(hl:u+n<=szD (l.getD 0 default)):
 GoodRD (tkL l u n) (tkN l u n)/\ruD l u=exS (tkE l u n)++ruD (tkL l u n) (tkN l u n):=by
 have ho:DOk (l.getD 0 default):=h.ok _ (z0z h0)
 have hz:=y37 ho
 have hp:=h.pos
 have hs:=z58 ho hp hn hl
 have hd:=dropD (l:=l) (i:=0) h0
 rw[List.drop_zero] at hd
 have he:exD l=exS (l.getD 0 default)++exD (l.drop 1):=by conv=>lhs;rw[hd,exD]
 have hlt:=h.lt h0
 unfold tkL tkN
 by_cases e:u+n=szD (l.getD 0 default)
 ·rw[if_pos e,if_pos e]
  refine⟨⟨fun s hs=>h.ok s (qJ hs),zy _,fun h1=> ?_,fun _=>rfl⟩,?_⟩
  ·have:=z0Z (z0I.2 (h.ok _ (qJ (z0z h1))))
   omega
  ·rw[ruD0]
   unfold ruD
   rw[he,jh (by omega),hs,qP (show(exS (l.getD 0 default)).length<=(u+n).toNat by omega),qM]
 ·rw[if_neg e,if_neg e]
  refine⟨⟨h.ok,by omega,fun _=>by omega,fun h1=>by omega⟩,?_⟩
  unfold ruD
  rw[he,jh (by omega),jh (by omega),hs,qR]
theorem jd_C(n:Nat)(p q:List DU):z0g (List.replicate n .C++p) q=List.replicate n .C++z0g p q:=by
 induction n with
 |zero=>rfl
 |succ n ih=>rw[qE,qg,z0g,ih,qg]
def NoCD:List DU->Prop
 | .C::_=>False
 |_=>True
theorem jd_A1{p:List DU}(hp:NoCD p)(e:Elem)(q:List DU):z0g p (.A e::q)= .A e::z0g p q:=by
 rw[z0g]
 intro p' h
 subst h
 exact hp
theorem jd_A(e:List Elem){p:List DU}(hp:NoCD p)(q:List DU):z0g p (e.map .A++q)=e.map .A++z0g p q:=by
 induction e with
 |nil=>rfl
 |cons x e ih=>rw[qV,qg,jd_A1 hp,ih,qg]
theorem jd_KK(n:Nat)(c d:List Attr)(p q:List DU):z0g (List.replicate n (.K c)++p) (List.replicate n (.K d)++q)=List.replicate n (.K (fm botG c d))++z0g p q:=by
 induction n with
 |zero=>rfl
 |succ n ih=>rw[qE,qE,qE,qg,qg,z0g,ih,qg]
theorem jd_KC(n:Nat)(c:List Attr)(p q:List DU):z0g (List.replicate n (.K c)++p) (List.replicate n .C++q)=List.replicate n .C++z0g p q:=by
 induction n with
 |zero=>rfl
 |succ n ih=>rw[qE,qE,qg,qg,z0g,ih,qg]
theorem jd_AK(e:List Elem)(d:List Attr)(p q:List DU):z0g (e.map .A++p) (List.replicate e.length (.K d)++q)=(e.map (chgE d)).map .A++z0g p q:=by
 induction e with
 |nil=>rfl
 |cons x e ih=>rw[qV,qi,qE,qg,qg,z0g,ih];rfl
theorem jd_AC(e:List Elem)(p q:List DU):z0g (e.map .A++p) (List.replicate e.length .C++q)=z0g p q:=by
 induction e with
 |nil=>rfl
 |cons x e ih=>rw[qV,qi,qE,qg,qg,z0g,ih]
end Go.Ch
end
section
namespace Go.Ch
open Go Go.Ab
structure JD(w:DWr)(ps:List DStep)(pu:Int)(qs:List DStep)(qu:Int)(T:Nat)(G:DWr):Prop where
 gp:GoodRD ps pu
 gq:GoodRD qs qu
 dp:DN 100000000000 ps
 dq:DN 100000000000 qs
 eq:newN (ruD ps pu)=oldN (ruD qs qu)
 di:DI w (z0g (ruD ps pu) (ruD qs qu)) T G
def jmD(ps:List DStep)(pu:Int)(qs:List DStep)(qu:Int):Nat:=(ruD ps pu).length+(ruD qs qu).length
theorem dn_tk{m:Nat}{l:List DStep}{u n:Int}(h:DN m l):DN m (tkL l u n):=by
 unfold tkL;split
 ·exact fun s hs=>h s (qJ hs)
 ·exact h
theorem exS_C{l:List DStep}{u n:Int}(k:(l.getD 0 default).kind=2):exS (tkE l u n)=List.replicate n.toNat .C:=by
 unfold tkE
 rw[if_neg (by omega)]
 unfold exS
 simp only
 rw[if_neg (by omega),if_pos k]
theorem exS_A{l:List DStep}{u n:Int}(k:(l.getD 0 default).kind=1):exS (tkE l u n)=(tkE l u n).elems.map .A:=by
 unfold tkE
 rw[if_pos k]
 unfold exS
 simp only
 rw[if_pos k]
theorem exS_K{l:List DStep}{u n:Int}(k:(l.getD 0 default).kind=0):exS (tkE l u n)=List.replicate n.toNat (.K (l.getD 0 default).attrs):=by
 unfold tkE
 rw[if_neg (by omega)]
 unfold exS
 simp only
 rw[if_neg (by omega),if_neg (by omega)]
section
variable {w:DWr} {ps qs:List DStep} {pu qu:Int} {T:Nat} {G:DWr}
theorem JD.cut(h:JD w ps pu qs qu T G)(h0:0<ps.length)(hk:(ps.getD 0 default).kind=2){n:Int}(hn:n=szD (ps.getD 0 default)- pu):
 JD ⟨w.out,w.add,w.cut+n⟩ (tkL ps pu n) (tkN ps pu n) qs qu T G/\jmD (tkL ps pu n) (tkN ps pu n) qs qu<jmD ps pu qs qu:=by
 have hl:=h.gp.lt h0
 obtain⟨g,e⟩:=z2S (n:=n) h.gp h0 (by omega) (by omega)
 rw[exS_C hk] at e
 have hd:=h.di
 have he:=h.eq
 rw[e,jd_C] at hd
 rw[e,z1o,(z2j _).2] at he
 have hd2:=hd.cuts
 rw[show((n.toNat:Nat):Int)=n by omega] at hd2
 refine⟨⟨g,h.gq,dn_tk h.dp,h.dq,by omega,hd2⟩,?_⟩
 unfold jmD
 rw[e,List.length_append,List.length_replicate]
 omega
theorem noCD{l:List DStep}{u:Int}(h:GoodRD l u)(hk:0<l.length->(l.getD 0 default).kind≠2):NoCD (ruD l u):=by
 by_cases h0:0<l.length
 ·have hl:=h.lt h0
  have hp:=h.pos
  have k2:=hk h0
  obtain⟨g,e⟩:=z2S (n:=1) h h0 (by decide) (by omega)
  have hs:=(z0Z (z0I.2 (h.ok _ (z0z h0)))).1
  rcases hs with k|k|k
  ·rw[e,exS_K k];trivial
  ·rw[e,exS_A k]
   have hem:(tkE l u 1).elems.length=1:=by
    unfold tkE
    rw[if_pos k]
    simp only[List.length_drop,List.length_take]
    have:szD (l.getD 0 default)=(l.getD 0 default).elems.length:=by unfold szD;rw[if_pos k]
    omega
   generalize(tkE l u 1).elems=z at hem
   cases z with
   |nil=>simp at hem
   |cons x r=>trivial
  ·exact absurd k k2
 ·rw[z2k (by omega)];trivial
theorem JD.add(h:JD w ps pu qs qu T G)(hp:0<ps.length->(ps.getD 0 default).kind≠2)(h0:0<qs.length)(hk:(qs.getD 0 default).kind=1){n:Int}(hn:n=szD (qs.getD 0 default)- qu):
 JD ⟨w.out,w.add++(tkE qs qu n).elems,w.cut⟩ ps pu (tkL qs qu n) (tkN qs qu n) T G:=by
 have hl:=h.gq.lt h0
 obtain⟨g,e⟩:=z2S (n:=n) h.gq h0 (by omega) (by omega)
 rw[exS_A hk] at e
 have hd:=h.di
 have he:=h.eq
 rw[e,jd_A _ (noCD h.gp hp)] at hd
 rw[e,z0E,(z2i _).1] at he
 exact⟨h.gp,g,h.dp,dn_tk h.dq,by omega,hd.elems⟩
theorem z3z{l:List DStep}{u n:Int}(k:(l.getD 0 default).kind=1)(hu:0<=u)(hn:0<=n)(hl:u+n<=szD (l.getD 0 default)):(tkE l u n).elems.length=n.toNat:=by
 unfold tkE
 rw[if_pos k]
 simp only[List.length_drop,List.length_take]
 have:szD (l.getD 0 default)=(l.getD 0 default).elems.length:=by unfold szD;rw[if_pos k]
 omega
theorem JD.both(h:JD w ps pu qs qu T G)(a:0<ps.length)(b:0<qs.length)(kp:(ps.getD 0 default).kind≠2)(kq:(qs.getD 0 default).kind≠1){n:Int}(hn:n=min (szD (ps.getD 0 default)- pu) (szD (qs.getD 0 default)- qu)):
 (((ps.getD 0 default).kind=0/\(qs.getD 0 default).kind=0->JD ⟨keepD (z0a w) n (fm botG (ps.getD 0 default).attrs (qs.getD 0 default).attrs),[],0⟩ (tkL ps pu n) (tkN ps pu n) (tkL qs qu n) (tkN qs qu n) T G)/\
 ((ps.getD 0 default).kind=0/\(qs.getD 0 default).kind=2->JD ⟨w.out,w.add,w.cut+n⟩ (tkL ps pu n) (tkN ps pu n) (tkL qs qu n) (tkN qs qu n) T G)/\
 ((ps.getD 0 default).kind=1/\(qs.getD 0 default).kind=0->JD ⟨w.out,w.add++(tkE ps pu n).elems.map (chgE (qs.getD 0 default).attrs),w.cut⟩ (tkL ps pu n) (tkN ps pu n) (tkL qs qu n) (tkN qs qu n) T G)/\
 ((ps.getD 0 default).kind=1/\(qs.getD 0 default).kind=2->JD w (tkL ps pu n) (tkN ps pu n) (tkL qs qu n) (tkN qs qu n) T G))/\
 jmD (tkL ps pu n) (tkN ps pu n) (tkL qs qu n) (tkN qs qu n)< jmD ps pu qs qu:=by
 have l1:=h.gp.lt a
 have l2:=h.gq.lt b
 have p1:=h.gp.pos
 have p2:=h.gq.pos
 obtain⟨g1,e1⟩:=z2S (n:=n) h.gp a (by omega) (by omega)
 obtain⟨g2,e2⟩:=z2S (n:=n) h.gq b (by omega) (by omega)
 have hd:=h.di
 have he:=h.eq
 have k1:=(z0Z (z0I.2 (h.gp.ok _ (z0z a)))).1
 have k2:=(z0Z (z0I.2 (h.gq.ok _ (z0z b)))).1
 refine⟨⟨fun k=> ?_,fun k=> ?_,fun k=> ?_,fun k=> ?_⟩,?_⟩
 ·rw[e1,e2,exS_K k.1,exS_K k.2] at hd he
  rw[jd_KK,show n.toNat=(n.toNat- 1)+1 by omega] at hd
  rw[z1o,z0E,(z1p _ _).1,(z1p _ _).2] at he
  have hd2:=hd.keep
  rw[show(((n.toNat- 1+1:Nat)):Int)=n by omega] at hd2
  exact⟨g1,g2,dn_tk h.dp,dn_tk h.dq,by omega,hd2⟩
 ·rw[e1,e2,exS_K k.1,exS_C k.2] at hd he
  rw[jd_KC] at hd
  rw[z1o,z0E,(z2j _).1,(z1p _ _).2] at he
  have hd2:=hd.cuts
  rw[show((n.toNat:Nat):Int)=n by omega] at hd2
  exact⟨g1,g2,dn_tk h.dp,dn_tk h.dq,by omega,hd2⟩
 ·have hz:=z3z (n:=n) k.1 p1 (by omega) (by omega)
  rw[e1,e2,exS_A k.1,exS_K k.2] at hd he
  rw[z1o,z0E,(z1p _ _).1,(z2i _).2] at he
  rw[<-hz,jd_AK] at hd
  exact⟨g1,g2,dn_tk h.dp,dn_tk h.dq,by omega,hd.elems⟩
 ·have hz:=z3z (n:=n) k.1 p1 (by omega) (by omega)
  rw[e1,e2,exS_A k.1,exS_C k.2] at hd he
  rw[z1o,z0E,(z2j _).1,(z2i _).2] at he
  rw[<-hz,jd_AC] at hd
  exact⟨g1,g2,dn_tk h.dp,dn_tk h.dq,by omega,hd⟩
 ·have hs:=y37 (h.gp.ok _ (z0z a))
  have hl:=congrArg List.length (z58 (n:=n) (h.gp.ok _ (z0z a)) p1 (by omega) (by omega))
  simp only[List.length_append,List.length_drop] at hl
  unfold jmD
  rw[e1,e2,List.length_append,List.length_append]
  omega
end
end Go.Ch
end
section
namespace Go.Ch
open Go Go.Ab
theorem z8V(p q:List DU)(hp:KOk p)(hq:KOk q):∀u∈z0g p q,z03 u:=by
 have okA:∀e:Elem,elemE e=0/\e.attrs.length<=100000000000->z03 (.A e):=fun e h=>⟨h.1,by omega⟩
 have okK:∀c:List Attr,VG true c/\c.length<=100000000000->z03 (.K c):=fun e h=>⟨h.1,by omega⟩
 have okU:∀us:List DU,KOk us->∀u∈us,z03 u:=fun us h u hu=>by
  cases u with
  |K c=>exact okK c (h.1 c hu)
  |A e=>exact okA e (h.2 e hu)
  |C=>trivial
 induction p,q using z0g.induct with
 |case1 q p ih=>
  rw[z0g]
  intro u hu
  rcases qj.1 hu with rfl|hu
  ·trivial
  ·exact ih hp.tail hq u hu
 |case2 p e q hne ih=>
  rw[z0g]
  rotate_left
  ·exact hne
  intro u hu
  rcases qj.1 hu with rfl|hu
  ·exact okA _ (hq.2 e (by simp))
  ·exact ih hp hq.tail u hu
 |case3 c p d q ih=>
  rw[z0g]
  intro u hu
  rcases qj.1 hu with rfl|hu
  ·have h1:=hp.1 c (by simp)
   have h2:=hq.1 d (by simp)
   have:=z1q botG c d
   exact⟨bot_V np_mt h1.1 h2.1,by omega⟩
  ·exact ih hp.tail hq.tail u hu
 |case4 c p q ih=>
  rw[z0g]
  intro u hu
  rcases qj.1 hu with rfl|hu
  ·trivial
  ·exact ih hp.tail hq.tail u hu
 |case5 e p d q ih=>
  rw[z0g]
  intro u hu
  rcases qj.1 hu with rfl|hu
  ·have h1:=hp.2 e (by simp)
   have h2:=hq.1 d (by simp)
   have:=z1q rawG e.attrs d
   refine⟨y7X h1.1 h2.1,?_⟩
   show(fm rawG e.attrs d).length<=_
   omega
  ·exact ih hp.tail hq.tail u hu
 |case6 e p q ih=>
  rw[z0g]
  exact ih hp.tail hq.tail
 |case7 p hne=>
  rw[show z0g p []=p by unfold z0g;split<;>simp_all]
  exact okU _ hp
 |case8 q h1 h2=>
  rw[show z0g [] q=[] by unfold z0g;split<;>simp_all]
  intro u hu;cases hu
def joinD(a b:List DStep):List DStep:=doneD (z0g (exD a) (exD b))
theorem z7O{l:List DStep}(h:z0U l):GoodRD l 0:=⟨h.1.all,zy _,fun h0=>by have:=z0Z (z0I.2 (h.1.all _ (z0z h0)));omega,fun _=>rfl⟩
theorem z4Y{l:List DStep}(h:z0U l):(oldN (exD l):Int)=oldD l/\(newN (exD l):Int)=newD l:=y32 (fun s hs=>okW (h.1.all s hs))
theorem z6R{a b:List DStep}(va:z0U a)(vb:z0U b)(da:DN 100000000000 a)(db:DN 100000000000 b)(hm:newD a=oldD b):
 (∀u∈z0g (exD a) (exD b),z03 u)/\(oldN (z0g (exD a) (exD b)):Int)=oldD a/\(newN (z0g (exD a) (exD b)):Int)=newD b/\
 JD ⟨[],[],0⟩ a 0 b 0 (z0g (exD a) (exD b)).length (foldD ⟨[],[],0⟩ (z0g (exD a) (exD b)))/\z0U (joinD a b)/\DSw (exD (joinD a b)) (z0g (exD a) (exD b))/\
 oldD (joinD a b)=oldD a/\newD (joinD a b)=newD b:=by
 have hu:=z8V _ _ (exD_K va.1.all da) (exD_K vb.1.all db)
 have la:=z4Y va
 have lb:=z4Y vb
 have hl:=z08 _ (exD a) (exD b) (qt _) (by omega)
 have hs:=z9V (z0g (exD a) (exD b))
 have a1:=va.2.1
 have b1:=vb.2.2
 obtain⟨d1,d2,d3,d4⟩:=z3g hu (by omega) (by omega)
 exact⟨hu,by omega,by omega,⟨z7O va,z7O vb,da,db,by rw[ruD0,ruD0];omega,by rw[ruD0,ruD0];exact DI.start hu (by omega)⟩,d1,d2,by unfold joinD;omega,by unfold joinD;omega⟩
theorem y1k{l:List DStep}{u:Int}(h:GoodRD l u)(h0:0<l.length):((l.getD 0 default).kind≠1->1<=oldN (ruD l u))/\((l.getD 0 default).kind≠2->1<=newN (ruD l u)):=by
 have hl:=h.lt h0
 have hp:=h.pos
 obtain⟨g,e⟩:=z2S (n:=1) h h0 (by decide) (by omega)
 have hs:=(z0Z (z0I.2 (h.ok _ (z0z h0)))).1
 rcases hs with k|k|k
 ·rw[e,exS_K k,z0E,z1o,(z1p _ _).1,(z1p _ _).2];constructor<;>intro _<;>omega
 ·have hz:=z3z (n:=1) k hp (by omega) (by omega)
  rw[e,exS_A k,z0E,z1o,(z2i _).1,(z2i _).2,hz];constructor<;>intro _<;>omega
 ·rw[e,exS_C k,z0E,z1o,(z2j _).1,(z2j _).2];constructor<;>intro _<;>omega
variable {w:DWr} {ps qs:List DStep} {pu qu:Int} {T:Nat} {G:DWr}
theorem JD.two(h:JD w ps pu qs qu T G)(h0:0<ps.length\/0<qs.length)(hp:0<ps.length->(ps.getD 0 default).kind≠2)(hq:0<qs.length->(qs.getD 0 default).kind≠1):0<ps.length/\0<qs.length:=by
 have he:=h.eq
 rcases Nat.eq_zero_or_pos ps.length with a|a
 ·rcases Nat.eq_zero_or_pos qs.length with b|b
  ·omega
  ·have:=(y1k h.gq b).1 (hq b)
   rw[z2k a] at he
   simp only[newN] at he
   omega
 ·rcases Nat.eq_zero_or_pos qs.length with b|b
  ·have:=(y1k h.gp a).2 (hp a)
   rw[z2k b] at he
   simp only[oldN] at he
   omega
  ·exact⟨a,b⟩
theorem JD.done(h:JD w ps pu qs qu T G)(a:ps.length=0)(b:qs.length=0):w=G:=by
 have:=h.di
 rw[z2k a,z2k b] at this
 exact DI.done (by simpa[z0g] using this)
theorem JD.add2(h:JD w ps pu qs qu T G)(hp:0<ps.length->(ps.getD 0 default).kind≠2)(h0:0<qs.length)(hk:(qs.getD 0 default).kind=1){n:Int}(hn:n=szD (qs.getD 0 default)- qu):
 jmD ps pu (tkL qs qu n) (tkN qs qu n)< jmD ps pu qs qu:=by
 have hl:=h.gq.lt h0
 obtain⟨g,e⟩:=z2S (n:=n) h.gq h0 (by omega) (by omega)
 have hz:=z3z (n:=n) hk h.gq.pos (by omega) (by omega)
 rw[exS_A hk] at e
 unfold jmD
 rw[e,qf,qk,hz]
 omega
theorem z2M{l:List DStep}{u:Int}(h:GoodRD l u):(kindD l= -1/\l.length=0)\/(kindD l=(l.getD 0 default).kind/\0<l.length/\(kindD l=0\/kindD l=1\/kindD l=2)):=by
 unfold kindD
 split
 ·rename_i h0;exact .inl ⟨rfl,h0⟩
 ·rename_i h0
  have h0':0<l.length:=by omega
  have hs:=(z0Z (z0I.2 (h.ok _ (z0z h0')))).1
  exact .inr ⟨rfl,by omega,hs⟩
theorem k01{l:List DStep}{u:Int}(h:GoodRD l u)(h0:0<l.length)(k:(l.getD 0 default).kind≠2):(l.getD 0 default).kind=0\/(l.getD 0 default).kind=1:=by
 have:=(z0Z (z0I.2 (h.ok _ (z0z h0)))).1
 omega
theorem k02{l:List DStep}{u:Int}(h:GoodRD l u)(h0:0<l.length)(k:(l.getD 0 default).kind≠1):(l.getD 0 default).kind=0\/(l.getD 0 default).kind=2:=by
 have:=(z0Z (z0I.2 (h.ok _ (z0z h0)))).1
 omega
theorem z4Z{l:List DStep}{u:Int}(h:GoodRD l u)(hd:DN 100000000000 l)(h0:0<l.length):0<=u/\u<szD (l.getD 0 default)/\szD (l.getD 0 default)<=100000000000/\
 (l.getD 0 default).attrs.length<=100000000000/\(l.getD 0 default).elems.length<=100000000000/\AN 100000000000 (l.getD 0 default).elems:=by
 have hs:=z0Z (z0I.2 (h.ok _ (z0z h0)))
 obtain⟨b1,b2,b3⟩:=hd _ (z0z h0)
 have hl:=h.lt h0
 exact⟨h.pos,hl,by omega,b2,b1,b3⟩
theorem szD_k{l:List DStep}{u:Int}(h:GoodRD l u)(h0:0<l.length)(k:(l.getD 0 default).kind≠1):szD (l.getD 0 default)<=2147483647:=by
 have hs:=z0Z (z0I.2 (h.ok _ (z0z h0)))
 have:szD (l.getD 0 default)=(l.getD 0 default).n:=by unfold szD;rw[if_neg k]
 omega
theorem z5h(l:List DStep)(u n:Int):(tkE l u n).kind=(l.getD 0 default).kind:=by unfold tkE;split<;>rfl
theorem z4b(l:List DStep)(u n:Int):(tkE l u n).attrs=(l.getD 0 default).attrs:=by unfold tkE;split<;>rfl
theorem tkE_n{l:List DStep}{u n:Int}(h:(l.getD 0 default).kind≠1):(tkE l u n).n=n:=by unfold tkE;rw[if_neg h]
theorem y1l{l:List DStep}{u n:Int}{m:Nat}(h:AN m (l.getD 0 default).elems):AN m (tkE l u n).elems:=by
 unfold tkE
 split
 ·exact fun x hx=>h x (qA (qJ hx))
 ·exact h
theorem an_up{m k:Nat}{l:List Elem}(h:AN m l)(hm:m<=k):AN k l:=fun x hx=>qD (h x hx) hm
theorem y9b{m k:Nat}{l:List Elem}{c:List Attr}(h:AN m l)(hm:m+c.length<=k):AN k (l.map (chgE c)):=fun x hx=>by
 obtain⟨y,hy,rfl⟩:=qC.1 hx
 have h1:=h y hy
 have:=z1q rawG y.attrs c
 show(fm rawG y.attrs c).length<=k
 omega
end Go.Ch
end
section
set_option maxRecDepth 100000
set_option maxHeartbeats 4000000
open Go Go.Proofs Go.Ab
namespace Go.Ch
theorem z1I(l:List DStep)(u n:Int)(s:DStep)(hs:tkE l u n=s)(h0:0<l.length)(hu:0<=u/\0<=n/\u+n<=szD (l.getD 0 default)/\u+n<=9223372036854775807):
 FC Tryz.prog 108 [.ptr 0 0,VI n] (app emp [(0,.box [VL 4 z0d l,VI u])]) (.t (z0d s)) (app emp [(0,.box [VL 4 z0d (tkL l u n),VI (tkN l u n)]),(1,.box [VI s.kind,VI s.n,VL 2 attrT s.attrs,VL 3 elemT s.elems])]):=hs▸y6e l u n h0 hu
theorem y1m(a b:List DStep)(va:z0U a)(vb:z0U b)(da:DN 100000000000 a)(db:DN 100000000000 b)(hm:newD a=oldD b):FC Tryz.prog 71 [VL 4 z0d a,VL 4 z0d b] (app emp []) (.tup [VL 4 z0d (joinD a b),VI 0]) (app emp []):=by
 refine .go Tryz.f71 ?_
 refine .len 0 (fun hl0=> ?_)
 refine .len 1 (fun hl1=> ?_)
 have ca:=z0Q.2 va
 have cb:=z0Q.2 vb
 have da4:=da.mono (n:=400000000000) (by decide)
 have db4:=db.mono (n:=400000000000) (by decide)
 obtain⟨_,_,_,st,vj,_⟩:=z6R va vb da db hm
 have cj:=z0Q.2 vj
 refine .bp [.r [],.r [(1,X (Xc0 (z1H a (by assumption)) X0))],.r []] ((z0T a) !=0) (fun h2=> ?_) (fun h2=> ?_)
 ·
  exfalso
  omega
 ·
  refine .bp [.r [(1,X (Xc0 (z1H b (by assumption)) X0))],.r []] ((z0T b) !=0) (fun h5=> ?_) (fun h5=> ?_)
  ·
   exfalso
   omega
  ·
   refine .bp [.r [(1,X (Xc0 (z38 a (by assumption)) X0))],.r [(1,X (Xc0 (z38 b (by assumption)) X0))],.r []] ((oldD b) !=(newD a)) (fun h9=> ?_) (fun h9=> ?_)
   ·
    exfalso
    omega
   ·
    refine .loop (α:=Int×(List DStep)×(List Elem)×(List DStep)×Int×(List DStep)×Int) [.r [],.le (.nB 232 0 4),.le (.nB 232 1 3),.r []] 306 (fun(y,o,x,ps,pu,qs,qu)=>([(12,.ptr 232 0),(13,.ptr 258 0),(14,.ptr 282 0)],[(232,.box [.row 240 o.length,.row 241 x.length,VI y]),(240,OR 4 z0d o),(241,OR 3 elemT x),(258,.box [VL 4 z0d ps,VI pu]),(282,.box [VL 4 z0d qs,VI qu])])) (fun(y,o,x,ps,pu,qs,qu)=>JD ⟨o,x,y⟩ ps pu qs qu (z0g (exD a) (exD b)).length (foldD ⟨[],[],0⟩ (z0g (exD a) (exD b)))) (fun(y,o,x,ps,pu,qs,qu)=>jmD ps pu qs qu) (0,[],[],a,0,b,0) ?_ ?_
    ·
     exact st
    rintro⟨y,o,x,ps,pu,qs,qu⟩ I13 ih13
    try dsimp only at I13
    have kp:=z2M I13.gp
    have kq:=z2M I13.gq
    have hb:=I13.di.bd
    simp only at hb
    have hf:=I13.di.fl.1
    refine .bp [.r [(1,X (Xc4 [(0,258)] (z2f ps pu) X0)),(5,Xv 1 (!(decide ((kindD ps)>=0))) (Xc4 [(0,282)] (z2f qs qu) X0)),(6,Xv 1 (!(decide ((kindD ps)>=0))) X0),(7,X (Xk' (decide ((kindD ps)>=0))))]] (decide ((kindD ps)>=0)||decide ((kindD qs)>=0)) (fun h13=> ?_) (fun h13=> ?_)
    ·
     refine .bp [.r [(1,X (Xc4 [(0,258)] (z2f ps pu) X0))]] ((kindD ps)==2) (fun h14=> ?_) (fun h14=> ?_)
     ·
      have lp0:0<ps.length:=by omega
      have k1:(ps.getD 0 default).kind=2:=by omega
      clear kp kq
      have sp:=z4Z I13.gp I13.dp lp0
      obtain⟨s,hs⟩:∃z,tkE ps pu (szD (ps.getD 0 default)- pu)=z:=⟨_,rfl⟩
      have hn:s.n=szD (ps.getD 0 default)- pu:=by rw[<-hs];exact tkE_n (by omega)
      have hC:=JD.cut I13 lp0 k1 rfl
      refine .back [.r [(4,X (Xc4 [(0,258)] (z2g ps pu (by omega) (by omega)) X0)),(5,X (Xc3 442 [(0,258)] (z1I ps pu (szD (ps.getD 0 default)- pu) s hs (by omega) (by omega)) X0)),(7,X (Xn (y+s.n)))]] [(232,232),(240,240),(241,241),(258,258),(282,282)] (ih13 ((y+s.n),o,x,(tkL ps pu (szD (ps.getD 0 default)- pu)),(tkN ps pu (szD (ps.getD 0 default)- pu)),qs,qu) ?_ ?_)
      ·
       rw[hn];exact hC.1
      ·
       exact hC.2
     ·
      refine .bp [.r [(1,X (Xc4 [(0,282)] (z2f qs qu) X0))]] ((kindD qs)==1) (fun h16=> ?_) (fun h16=> ?_)
      ·
       have lq0:0<qs.length:=by omega
       have k2:(qs.getD 0 default).kind=1:=by omega
       have k1:0<ps.length->(ps.getD 0 default).kind≠2:=fun h=>by omega
       clear kp kq
       have sq:=z4Z I13.gq I13.dq lq0
       obtain⟨s,hs⟩:∃z,tkE qs qu (szD (qs.getD 0 default)- qu)=z:=⟨_,rfl⟩
       have hA:=JD.add I13 k1 lq0 k2 rfl
       have hA2:=JD.add2 I13 k1 lq0 k2 rfl
       have hAn:=an_up (y1l (u:=qu) (n:=szD (qs.getD 0 default)- qu) sq.2.2.2.2.2) (k:=400000000000) (by decide)
       rw[hs] at hA hAn
       have hAb:=hA.di.bd
       simp only[qf] at hAb
       refine .back [.r [(2,X (Xc4 [(0,282)] (z2g qs qu (by omega) (by omega)) X0)),(3,X (Xc3 458 [(0,282)] (z1I qs qu (szD (qs.getD 0 default)- qu) s hs (by omega) (by omega)) X0)),(5,X (Xc3 474 [(0,232),(1,240),(2,241)] (z2z o x y s.elems (by assumption) (by omega)) X0))]] [(232,232),(240,240),(241,241),(258,258),(282,282)] (ih13 (y,o,(x++s.elems),ps,pu,(tkL qs qu (szD (qs.getD 0 default)- qu)),(tkN qs qu (szD (qs.getD 0 default)- qu))) ?_ ?_)
       ·
        exact hA
       ·
        exact hA2
      ·
       obtain⟨lp0,lq0⟩:=JD.two I13 (by omega) (fun h=>by omega) (fun h=>by omega)
       have k1:(ps.getD 0 default).kind≠2:=by omega
       have k3:(qs.getD 0 default).kind≠1:=by omega
       have sk:=fun _:Unit=>k01 I13.gp lp0 k1
       have tk:=fun _:Unit=>k02 I13.gq lq0 k3
       have hB1:=fun n=>JD.both (n:=n) I13 lp0 lq0 k1 k3
       clear kp kq h13 h14 h16 k1 k3
       have sp:=z4Z I13.gp I13.dp lp0
       have sq:=z4Z I13.gq I13.dq lq0
       obtain⟨m,hmm⟩:∃z,min (szD (ps.getD 0 default)- pu) (szD (qs.getD 0 default)- qu)=z:=⟨_,rfl⟩
       have hB:=hB1 m hmm.symm
       have m1:1<=m/\m<=szD (ps.getD 0 default)- pu/\m<=szD (qs.getD 0 default)- qu/\m<=100000000000:=by omega
       have m2:pu+m<=szD (ps.getD 0 default)/\qu+m<=szD (qs.getD 0 default):=by omega
       obtain⟨s,hs⟩:∃z,tkE ps pu m=z:=⟨_,rfl⟩
       obtain⟨t,ht⟩:∃z,tkE qs qu m=z:=⟨_,rfl⟩
       have ek1:=z5h ps pu m
       have ek2:=z5h qs qu m
       have ea1:=z4b ps pu m
       have ea2:=z4b qs qu m
       have hE0:=y1l (u:=pu) (n:=m) sp.2.2.2.2.2
       rw[hs] at ek1 ea1 hE0
       rw[ht] at ek2 ea2
       have al:s.attrs.length<=100000000000/\t.attrs.length<=100000000000:=by rw[ea1,ea2];omega
       rw[hs,<-ea1,<-ea2,<-ek1,<-ek2] at hB
       rw[<-ek1] at sk
       rw[<-ek2] at tk
       clear hB1
       refine .bp [.r [(1,X (Xc4 [(0,258)] (z2g ps pu (by omega) (by omega)) X0)),(3,X (Xc4 [(0,282)] (z2g qs qu (by omega) (by omega)) X0)),(4,X (Xmin (szD (ps.getD 0 default)- pu) (szD (qs.getD 0 default)- qu)))],.le (.eq 15 (VI (min (szD (ps.getD 0 default)- pu) (szD (qs.getD 0 default)- qu))) (VI m) (.of_eq (by rw[hmm]))),.r [(2,X (Xc3 498 [(0,258)] (z1I ps pu m s hs (by omega) (by omega)) X0)),(5,X (Xc3 522 [(0,282)] (z1I qs qu m t ht (by omega) (by omega)) X0))],.r [(5,Xv 1 (s.kind==0) X0),(6,Xv 1 (s.kind==0) X0),(7,X (Xk (s.kind==0)))]] ((s.kind==0)&&(t.kind==0)) (fun h20=> ?_) (fun h20=> ?_)
       ·
        have fl:=z1q botG s.attrs t.attrs
        have mk:=szD_k I13.gp lp0 (by rw[<-ek1,h20.1];decide)
        refine .back [.r [(5,X (Xc1 674 (y5Q s.attrs t.attrs (by omega)) X0)),(6,X (Xc3 682 [(0,232),(1,240),(2,241)] (z2L o x y m (fm botG s.attrs t.attrs) (by omega) (by first|omega|simp) (by omega) (by first|assumption|exact kbd (by assumption))) X0))]] [(232,232),(240,240),(682,241),(258,258),(282,282)] (ih13 (0,(keepD (z0a ⟨o,x,y⟩) m (fm botG s.attrs t.attrs)),[],(tkL ps pu m),(tkN ps pu m),(tkL qs qu m),(tkN qs qu m)) ?_ ?_)
        ·
         exact hB.1.1 h20
        ·
         exact hB.2
       ·
        refine .bp [.r []] (s.kind==0) (fun h22=> ?_) (fun h22=> ?_)
        ·
         refine .back [.r [(3,X (Xn (y+m)))]] [(232,232),(240,240),(241,241),(258,258),(282,282)] (ih13 ((y+m),o,x,(tkL ps pu m),(tkN ps pu m),(tkL qs qu m),(tkN qs qu m)) ?_ ?_)
         ·
          exact hB.1.2.1 ⟨h22,(tk ()).resolve_left (h20.resolve_left (fun h=>h h22))⟩
         ·
          exact hB.2
        ·
         refine .bp [.r []] (t.kind==0) (fun h24=> ?_) (fun h24=> ?_)
         ·
          refine .at 698 [(232,232),(240,240),(241,241),(258,258),(282,282),(530,530),(538,538)] ([(12,.ptr 232 0),(13,.ptr 258 0),(14,.ptr 282 0),(16,.ptr 530 0),(17,.ptr 538 0),(114,VB (t.kind==0))],[(232,.box [.row 240 o.length,.row 241 x.length,VI y]),(240,OR 4 z0d o),(241,OR 3 elemT x),(258,.box [VL 4 z0d (tkL ps pu m),VI (tkN ps pu m)]),(282,.box [VL 4 z0d (tkL qs qu m),VI (tkN qs qu m)]),(530,.box [VI s.kind,VI s.n,VL 2 attrT s.attrs,VL 3 elemT s.elems]),(538,.box [VI t.kind,VI t.n,VL 2 attrT t.attrs,VL 3 elemT t.elems])]) ?_
          have hE1:∀x∈s.elems,x.attrs.length+t.attrs.length<1099511627776:=fun x hx=>by have:=hE0 x hx;omega
          have hE2:=y9b hE0 (c:=t.attrs) (k:=400000000000) (by omega)
          have hE4:(List.map (chgE t.attrs) s.elems).length=s.elems.length:=qk _
          have s1:=(sk ()).resolve_left h22
          have hE3:s.elems.length=m.toNat:=by rw[<-hs];exact z3z (by rw[<-ek1];exact s1) sp.1 (by omega) m2.1
          have hA:=hB.1.2.2.1 ⟨s1,h24⟩
          have hAb:=hA.di.bd
          simp only[qf,qk] at hAb
          clear h20 h22
          refine .back [.r [(4,X (Xc1 730 (z6P s.elems t.attrs (by omega) (by assumption)) X0)),(5,X (Xc3 738 [(0,232),(1,240),(2,241)] (z2z o x y (List.map (chgE t.attrs) s.elems) (by assumption) (by omega)) X0))]] [(232,232),(240,240),(241,241),(258,258),(282,282)] (ih13 (y,o,(x++(List.map (chgE t.attrs) s.elems)),(tkL ps pu m),(tkN ps pu m),(tkL qs qu m),(tkN qs qu m)) ?_ ?_)
          ·
           exact hA
          ·
           exact hB.2
         ·
          refine .at 698 [(232,232),(240,240),(241,241),(258,258),(282,282),(530,530),(538,538)] ([(12,.ptr 232 0),(13,.ptr 258 0),(14,.ptr 282 0),(16,.ptr 530 0),(17,.ptr 538 0),(114,VB (t.kind==0))],[(232,.box [.row 240 o.length,.row 241 x.length,VI y]),(240,OR 4 z0d o),(241,OR 3 elemT x),(258,.box [VL 4 z0d (tkL ps pu m),VI (tkN ps pu m)]),(282,.box [VL 4 z0d (tkL qs qu m),VI (tkN qs qu m)]),(530,.box [VI s.kind,VI s.n,VL 2 attrT s.attrs,VL 3 elemT s.elems]),(538,.box [VI t.kind,VI t.n,VL 2 attrT t.attrs,VL 3 elemT t.elems])]) ?_
          refine .back [] [(232,232),(240,240),(241,241),(258,258),(282,282)] (ih13 (y,o,x,(tkL ps pu m),(tkN ps pu m),(tkL qs qu m),(tkN qs qu m)) ?_ ?_)
          ·
           exact hB.1.2.2.2 ⟨(sk ()).resolve_left h22,(tk ()).resolve_left h24⟩
          ·
           exact hB.2
    ·
     have hG:=JD.done I13 (by omega) (by omega)
     have hfx:z0a ⟨o,x,y⟩=joinD a b:=by rw[hG];rfl
     have hcd:z0T (z0a ⟨o,x,y⟩)=0:=by rw[hfx];exact cj
     have hfl2:=I13.di.fl.2
     have e1:((joinD a b):List DStep)=(z0a ⟨o,x,y⟩):=by
      rw[hfx]
     exact .finE [.r [(0,X (Xc3 370 [(0,232),(1,240),(2,241)] (z5g o x y (by omega) (by assumption) (by assumption)) X0))],.le (.fr 4 [(((z0a ⟨o,x,y⟩).length):Nat)=(List.map z0d (z0a ⟨o,x,y⟩)).length] ⟨lm,trivial⟩)] [] (fun z0:List DStep=>(.tup [VL 4 z0d z0,VI 0],[])) _ _ e1
theorem z5i(d:Doc)(k:Int)(hn:d.nodes.length<=1048576)(hs:SortN d.nodes):FC Tryz.prog 49 [.t (docT d),VI k] (app emp []) (VI (ixN d.nodes k)) (app emp []):=by
 refine .go Tryz.f49 ?_
 refine .bp [.r [],.r [(2,X (Xc0 (z7J d k (by assumption) (by assumption)) X0))],.r []] (hasN (d).nodes k) (fun h2=> ?_) (fun h2=> ?_)
 ·
  have e1:((ixN d.nodes k):Int)=(lobN (d).nodes k:Int):=by
   unfold ixN;rw[if_pos h2]
  exact .finE [.r []] [] (fun z0:Int=>(VI z0,[])) _ _ e1
 ·
  have e2:((ixN d.nodes k):Int)= -1:=by
   unfold ixN;rw[if_neg (by rw[h2];decide)]
  exact .finE [.r []] [] (fun z0:Int=>(VI z0,[])) _ _ e2
theorem y38(l:List Elem):FC Tryz.prog 198 [VL 3 elemT l,VN] (app emp []) (VB ((l.length:Int)==0)) (app emp []):=by
 refine .go Tryz.f198 ?_
 refine .len 0 (fun hl0=> ?_)
 refine .bp [.r [],.r [(1,X (Xl elemT l))]] ((l.length:Int) !=0) (fun h1=> ?_) (fun h1=> ?_)
 ·
  have e1:(((l.length:Int)==0):Bool)=false:=by
   rw[beq_eq_false_iff_ne];exact h1
  exact .finE [.r []] [] (fun z0:Bool=>(VB z0,[])) _ _ e1
 ·
  refine .loop (α:=Nat) [.r [(1,X (Xl elemT l))]] 72 (fun i=>([(1,VN),(13,VL 3 elemT l),(14,VI (l.length:Int)),(15,VI (i:Int))],[])) (fun i=>i=0) (fun i=>0) (0:Nat) ?_ ?_
  ·
   rfl
  rintro i I4 ih4
  try dsimp only at I4
  refine .bp [.r []] (decide ((i:Int)< (l.length:Int))) (fun h4=> ?_) (fun h4=> ?_)
  ·
   exfalso
   omega
  ·
   have e2:(((l.length:Int)==0):Bool)=true:=by
    rw[beq_iff_eq];exact h1
   exact .finE [.r []] [] (fun z0:Bool=>(VB z0,[])) _ _ e2
theorem y7Z(l:List DOp):FC Tryz.prog 199 [VL 8 dopT l,VN] (app emp []) (VB ((l.length:Int)==0)) (app emp []):=by
 refine .go Tryz.f199 ?_
 refine .len 0 (fun hl0=> ?_)
 refine .bp [.r [],.r [(1,X (Xl dopT l))]] ((l.length:Int) !=0) (fun h1=> ?_) (fun h1=> ?_)
 ·
  have e1:(((l.length:Int)==0):Bool)=false:=by
   rw[beq_eq_false_iff_ne];exact h1
  exact .finE [.r []] [] (fun z0:Bool=>(VB z0,[])) _ _ e1
 ·
  refine .loop (α:=Nat) [.r [(1,X (Xl dopT l))]] 72 (fun i=>([(0,VL 8 dopT l),(1,VN),(12,VI (l.length:Int)),(13,VI (i:Int))],[])) (fun i=>i=0) (fun i=>0) (0:Nat) ?_ ?_
  ·
   rfl
  rintro i I4 ih4
  try dsimp only at I4
  refine .bp [.r []] (decide ((i:Int)< (l.length:Int))) (fun h4=> ?_) (fun h4=> ?_)
  ·
   exfalso
   omega
  ·
   have e2:(((l.length:Int)==0):Bool)=true:=by
    rw[beq_iff_eq];exact h1
   exact .finE [.r []] [] (fun z0:Bool=>(VB z0,[])) _ _ e2
theorem y39(n:Node):FC Tryz.prog 165 [.t (nodeT n),.t (.agg [TI 0,TI 0,TN,TN,TI 0,TI 0,TN,TN,TN])] (app emp []) (VB (z0G n)) (app emp []):=by
 refine .go Tryz.f165 ?_
 have e1:((z0G n):Bool)=((((((n.id==0)&&(n.kind==0))&&(sameL n.attrs []))&&(((n.flow).length:Int)==0))&&(zeroG n.grid))&&(((n.draw).length:Int)==0)):=by
  rfl
 exact .finE [.r [],.r [(7,Xv 1 (n.id==0) X0),(9,Xv 1 (n.id==0) X0),(10,Xv 2 (n.id==0) X0),(11,X (Xk (n.id==0))),(14,Xv 1 ((n.id==0)&&(n.kind==0)) X0),(16,Xv 1 ((n.id==0)&&(n.kind==0)) X0),(17,Xv 2 ((n.id==0)&&(n.kind==0)) (Xc0 (.nil 1 2 (z3v n.attrs [])) X0)),(18,X (Xk ((n.id==0)&&(n.kind==0)))),(21,Xv 1 (((n.id==0)&&(n.kind==0))&&(sameL n.attrs [])) X0),(23,Xv 1 (((n.id==0)&&(n.kind==0))&&(sameL n.attrs [])) X0),(24,Xv 2 (((n.id==0)&&(n.kind==0))&&(sameL n.attrs [])) (Xc0 (y38 n.flow) X0)),(25,X (Xk (((n.id==0)&&(n.kind==0))&&(sameL n.attrs [])))),(28,Xv 1 ((((n.id==0)&&(n.kind==0))&&(sameL n.attrs []))&&(((n.flow).length:Int)==0)) X0),(30,Xv 1 ((((n.id==0)&&(n.kind==0))&&(sameL n.attrs []))&&(((n.flow).length:Int)==0)) X0),(31,Xv 2 ((((n.id==0)&&(n.kind==0))&&(sameL n.attrs []))&&(((n.flow).length:Int)==0)) (Xc0 (z8T n.grid) X0)),(32,X (Xk ((((n.id==0)&&(n.kind==0))&&(sameL n.attrs []))&&(((n.flow).length:Int)==0)))),(35,Xv 1 (((((n.id==0)&&(n.kind==0))&&(sameL n.attrs []))&&(((n.flow).length:Int)==0))&&(zeroG n.grid)) X0),(37,Xv 1 (((((n.id==0)&&(n.kind==0))&&(sameL n.attrs []))&&(((n.flow).length:Int)==0))&&(zeroG n.grid)) X0),(38,Xv 2 (((((n.id==0)&&(n.kind==0))&&(sameL n.attrs []))&&(((n.flow).length:Int)==0))&&(zeroG n.grid)) (Xc0 (y7Z n.draw) X0)),(39,X (Xk (((((n.id==0)&&(n.kind==0))&&(sameL n.attrs []))&&(((n.flow).length:Int)==0))&&(zeroG n.grid))))]] [] (fun z0:Bool=>(VB z0,[])) _ _ e1
theorem y4a(o:EOp)(hl:EopL o):FC Tryz.prog 125 [.t (eopT o)] (app emp []) (VB (unuO o)) (app emp []):=by
 refine .go Tryz.f125 ?_
 obtain⟨l1,l2,l3,l4,l5⟩:=hl
 have e1:((unuO o):Bool)=(((((((o.kind==0)&&(o.node !=0))|| ((o.kind !=0)&& !(z0G o.nw)))|| ((o.kind !=1)&&decide ((o.attrs.length:Int)> 0)))|| ((o.kind !=2)&&decide ((o.steps.length:Int)> 0)))|| ((o.kind !=3)&&decide ((((((o.grid.rows.length:Int)+(o.grid.cols.length:Int))+(o.grid.cells.length:Int))+(o.grid.split.length:Int))+(o.grid.merge.length:Int))> 0)))|| ((o.kind !=4)&&decide ((o.draw.length:Int)> 0))):=by
  rfl
 exact .finE [.r [],.r [],.r [(2,X (Xl stepT o.grid.rows)),(5,X (Xl stepT o.grid.cols)),(6,X (Xn ((o.grid.rows.length:Int)+(o.grid.cols.length:Int)))),(9,X (Xl cellT o.grid.cells)),(10,X (Xn (((o.grid.rows.length:Int)+(o.grid.cols.length:Int))+(o.grid.cells.length:Int)))),(13,X (Xl rectT o.grid.split)),(14,X (Xn ((((o.grid.rows.length:Int)+(o.grid.cols.length:Int))+(o.grid.cells.length:Int))+(o.grid.split.length:Int)))),(17,X (Xl rectT o.grid.merge)),(18,X (Xn (((((o.grid.rows.length:Int)+(o.grid.cols.length:Int))+(o.grid.cells.length:Int))+(o.grid.split.length:Int))+(o.grid.merge.length:Int))))],.r [(5,Xv 1 (o.kind==0) X0),(6,Xv 1 (o.kind==0) X0),(7,X (Xk (o.kind==0))),(10,Xv 1 (!((o.kind==0)&&(o.node !=0))) X0),(11,Xv 1 (!((o.kind==0)&&(o.node !=0))) X0),(12,Xv 1 (!((o.kind==0)&&(o.node !=0))) X0),(14,Xv 1 ((!((o.kind==0)&&(o.node !=0)))&&(o.kind !=0)) X0),(16,Xv 2 ((!((o.kind==0)&&(o.node !=0)))&&(o.kind !=0)) (Xc0 (y39 o.nw) X0)),(17,Xv 1 ((!((o.kind==0)&&(o.node !=0)))&&(o.kind !=0)) X0),(18,Xka (!((o.kind==0)&&(o.node !=0))) (o.kind !=0)),(19,X (Xk' ((o.kind==0)&&(o.node !=0)))),(22,Xv 1 (!(((o.kind==0)&&(o.node !=0))|| ((o.kind !=0)&& !(z0G o.nw)))) X0),(23,Xv 1 (!(((o.kind==0)&&(o.node !=0))|| ((o.kind !=0)&& !(z0G o.nw)))) X0),(24,Xv 1 (!(((o.kind==0)&&(o.node !=0))|| ((o.kind !=0)&& !(z0G o.nw)))) X0),(26,Xv 1 ((!(((o.kind==0)&&(o.node !=0))|| ((o.kind !=0)&& !(z0G o.nw))))&&(o.kind !=1)) X0),(27,Xv 1 ((!(((o.kind==0)&&(o.node !=0))|| ((o.kind !=0)&& !(z0G o.nw))))&&(o.kind !=1)) (Xl attrT o.attrs)),(28,Xv 1 ((!(((o.kind==0)&&(o.node !=0))|| ((o.kind !=0)&& !(z0G o.nw))))&&(o.kind !=1)) X0),(29,Xka (!(((o.kind==0)&&(o.node !=0))|| ((o.kind !=0)&& !(z0G o.nw)))) (o.kind !=1)),(30,X (Xk' (((o.kind==0)&&(o.node !=0))|| ((o.kind !=0)&& !(z0G o.nw))))),(33,Xv 1 (!((((o.kind==0)&&(o.node !=0))|| ((o.kind !=0)&& !(z0G o.nw)))|| ((o.kind !=1)&&decide ((o.attrs.length:Int)> 0)))) X0),(34,Xv 1 (!((((o.kind==0)&&(o.node !=0))|| ((o.kind !=0)&& !(z0G o.nw)))|| ((o.kind !=1)&&decide ((o.attrs.length:Int)> 0)))) X0),(35,Xv 1 (!((((o.kind==0)&&(o.node !=0))|| ((o.kind !=0)&& !(z0G o.nw)))|| ((o.kind !=1)&&decide ((o.attrs.length:Int)> 0)))) X0),(37,Xv 1 ((!((((o.kind==0)&&(o.node !=0))|| ((o.kind !=0)&& !(z0G o.nw)))|| ((o.kind !=1)&&decide ((o.attrs.length:Int)> 0))))&&(o.kind !=2)) X0),(38,Xv 1 ((!((((o.kind==0)&&(o.node !=0))|| ((o.kind !=0)&& !(z0G o.nw)))|| ((o.kind !=1)&&decide ((o.attrs.length:Int)> 0))))&&(o.kind !=2)) (Xl z0d o.steps)),(39,Xv 1 ((!((((o.kind==0)&&(o.node !=0))|| ((o.kind !=0)&& !(z0G o.nw)))|| ((o.kind !=1)&&decide ((o.attrs.length:Int)> 0))))&&(o.kind !=2)) X0),(40,Xka (!((((o.kind==0)&&(o.node !=0))|| ((o.kind !=0)&& !(z0G o.nw)))|| ((o.kind !=1)&&decide ((o.attrs.length:Int)> 0)))) (o.kind !=2)),(41,X (Xk' ((((o.kind==0)&&(o.node !=0))|| ((o.kind !=0)&& !(z0G o.nw)))|| ((o.kind !=1)&&decide ((o.attrs.length:Int)> 0))))),(44,Xv 1 (!(((((o.kind==0)&&(o.node !=0))|| ((o.kind !=0)&& !(z0G o.nw)))|| ((o.kind !=1)&&decide ((o.attrs.length:Int)> 0)))|| ((o.kind !=2)&&decide ((o.steps.length:Int)> 0)))) X0),(45,Xv 1 (!(((((o.kind==0)&&(o.node !=0))|| ((o.kind !=0)&& !(z0G o.nw)))|| ((o.kind !=1)&&decide ((o.attrs.length:Int)> 0)))|| ((o.kind !=2)&&decide ((o.steps.length:Int)> 0)))) X0),(46,Xv 1 (!(((((o.kind==0)&&(o.node !=0))|| ((o.kind !=0)&& !(z0G o.nw)))|| ((o.kind !=1)&&decide ((o.attrs.length:Int)> 0)))|| ((o.kind !=2)&&decide ((o.steps.length:Int)> 0)))) X0),(48,Xka (!(((((o.kind==0)&&(o.node !=0))|| ((o.kind !=0)&& !(z0G o.nw)))|| ((o.kind !=1)&&decide ((o.attrs.length:Int)> 0)))|| ((o.kind !=2)&&decide ((o.steps.length:Int)> 0)))) (o.kind !=3)),(49,X (Xk' (((((o.kind==0)&&(o.node !=0))|| ((o.kind !=0)&& !(z0G o.nw)))|| ((o.kind !=1)&&decide ((o.attrs.length:Int)> 0)))|| ((o.kind !=2)&&decide ((o.steps.length:Int)> 0))))),(52,Xv 1 (!((((((o.kind==0)&&(o.node !=0))|| ((o.kind !=0)&& !(z0G o.nw)))|| ((o.kind !=1)&&decide ((o.attrs.length:Int)> 0)))|| ((o.kind !=2)&&decide ((o.steps.length:Int)> 0)))|| ((o.kind !=3)&&decide ((((((o.grid.rows.length:Int)+(o.grid.cols.length:Int))+(o.grid.cells.length:Int))+(o.grid.split.length:Int))+(o.grid.merge.length:Int))> 0)))) X0),(53,Xv 1 (!((((((o.kind==0)&&(o.node !=0))|| ((o.kind !=0)&& !(z0G o.nw)))|| ((o.kind !=1)&&decide ((o.attrs.length:Int)> 0)))|| ((o.kind !=2)&&decide ((o.steps.length:Int)> 0)))|| ((o.kind !=3)&&decide ((((((o.grid.rows.length:Int)+(o.grid.cols.length:Int))+(o.grid.cells.length:Int))+(o.grid.split.length:Int))+(o.grid.merge.length:Int))> 0)))) X0),(54,Xv 1 (!((((((o.kind==0)&&(o.node !=0))|| ((o.kind !=0)&& !(z0G o.nw)))|| ((o.kind !=1)&&decide ((o.attrs.length:Int)> 0)))|| ((o.kind !=2)&&decide ((o.steps.length:Int)> 0)))|| ((o.kind !=3)&&decide ((((((o.grid.rows.length:Int)+(o.grid.cols.length:Int))+(o.grid.cells.length:Int))+(o.grid.split.length:Int))+(o.grid.merge.length:Int))> 0)))) X0),(56,Xv 1 ((!((((((o.kind==0)&&(o.node !=0))|| ((o.kind !=0)&& !(z0G o.nw)))|| ((o.kind !=1)&&decide ((o.attrs.length:Int)> 0)))|| ((o.kind !=2)&&decide ((o.steps.length:Int)> 0)))|| ((o.kind !=3)&&decide ((((((o.grid.rows.length:Int)+(o.grid.cols.length:Int))+(o.grid.cells.length:Int))+(o.grid.split.length:Int))+(o.grid.merge.length:Int))> 0))))&&(o.kind !=4)) X0),(57,Xv 1 ((!((((((o.kind==0)&&(o.node !=0))|| ((o.kind !=0)&& !(z0G o.nw)))|| ((o.kind !=1)&&decide ((o.attrs.length:Int)> 0)))|| ((o.kind !=2)&&decide ((o.steps.length:Int)> 0)))|| ((o.kind !=3)&&decide ((((((o.grid.rows.length:Int)+(o.grid.cols.length:Int))+(o.grid.cells.length:Int))+(o.grid.split.length:Int))+(o.grid.merge.length:Int))> 0))))&&(o.kind !=4)) (Xl dopT o.draw)),(58,Xv 1 ((!((((((o.kind==0)&&(o.node !=0))|| ((o.kind !=0)&& !(z0G o.nw)))|| ((o.kind !=1)&&decide ((o.attrs.length:Int)> 0)))|| ((o.kind !=2)&&decide ((o.steps.length:Int)> 0)))|| ((o.kind !=3)&&decide ((((((o.grid.rows.length:Int)+(o.grid.cols.length:Int))+(o.grid.cells.length:Int))+(o.grid.split.length:Int))+(o.grid.merge.length:Int))> 0))))&&(o.kind !=4)) X0),(59,Xka (!((((((o.kind==0)&&(o.node !=0))|| ((o.kind !=0)&& !(z0G o.nw)))|| ((o.kind !=1)&&decide ((o.attrs.length:Int)> 0)))|| ((o.kind !=2)&&decide ((o.steps.length:Int)> 0)))|| ((o.kind !=3)&&decide ((((((o.grid.rows.length:Int)+(o.grid.cols.length:Int))+(o.grid.cells.length:Int))+(o.grid.split.length:Int))+(o.grid.merge.length:Int))> 0)))) (o.kind !=4)),(60,X (Xk' ((((((o.kind==0)&&(o.node !=0))|| ((o.kind !=0)&& !(z0G o.nw)))|| ((o.kind !=1)&&decide ((o.attrs.length:Int)> 0)))|| ((o.kind !=2)&&decide ((o.steps.length:Int)> 0)))|| ((o.kind !=3)&&decide ((((((o.grid.rows.length:Int)+(o.grid.cols.length:Int))+(o.grid.cells.length:Int))+(o.grid.split.length:Int))+(o.grid.merge.length:Int))> 0)))))]] [] (fun z0:Bool=>(VB z0,[])) _ _ e1
theorem y2j(o:EOp)(ho:OpL o):FC Tryz.prog 75 [.t (eopT o)] (app emp []) (VI (eopE o)) (app emp []):=by
 refine .go Tryz.f75 ?_
 have k1:=ho.len
 have k2:=ho.nl
 have k3:=ho.dn
 have k4:=ho.gl
 refine .bp [.r [],.r [(5,Xv 1 (!(decide (o.kind<0))) X0),(6,Xv 1 (!(decide (o.kind<0))) X0),(7,X (Xk' (decide (o.kind<0))))]] (decide (o.kind<0)||decide (o.kind>4)) (fun h1=> ?_) (fun h1=> ?_)
 ·
  have e1:((eopE o):Int)=8:=by
   unfold eopE;((repeat' split)<;>first|rfl|omega| (simp_all;done)| (simp_all;omega))
  exact .finE [.r []] [] (fun z0:Int=>(VI z0,[])) _ _ e1
 ·
  refine .bp [.r [(1,X (Xc0 (y4a o (by assumption)) X0))]] (unuO o) (fun h3=> ?_) (fun h3=> ?_)
  ·
   have e2:((eopE o):Int)=4:=by
    unfold eopE;((repeat' split)<;>first|rfl|omega| (simp_all;done)| (simp_all;omega))
   exact .finE [.r []] [] (fun z0:Int=>(VI z0,[])) _ _ e2
  ·
   refine .bp [.r []] (o.kind==0) (fun h5=> ?_) (fun h5=> ?_)
   ·
    have e3:((eopE o):Int)=(nodeE o.nw):=by
     unfold eopE;((repeat' split)<;>first|rfl|omega| (simp_all;done)| (simp_all;omega))
    exact .finE [.r [(2,X (Xc0 (z53 o.nw (by assumption)) X0))]] [] (fun z0:Int=>(VI z0,[])) _ _ e3
   ·
    refine .bp [.r [(5,Xv 1 (!(decide (o.node<1))) X0),(6,Xv 1 (!(decide (o.node<1))) X0),(7,X (Xk' (decide (o.node<1))))]] (decide (o.node<1)||decide (o.node>1073741824)) (fun h7=> ?_) (fun h7=> ?_)
    ·
     have e4:((eopE o):Int)=2:=by
      unfold eopE;((repeat' split)<;>first|rfl|omega| (simp_all;done)| (simp_all;omega))
     exact .finE [.r []] [] (fun z0:Int=>(VI z0,[])) _ _ e4
    ·
     refine .bp [.r []] (o.kind==1) (fun h9=> ?_) (fun h9=> ?_)
     ·
      have e5:((eopE o):Int)=(chkA true o.attrs 0):=by
       unfold eopE;((repeat' split)<;>first|rfl|omega| (simp_all;done)| (simp_all;omega))
      exact .finE [.r [(2,X (Xc0 (z01 o.attrs) X0))]] [] (fun z0:Int=>(VI z0,[])) _ _ e5
     ·
      refine .bp [.r []] (o.kind==2) (fun h11=> ?_) (fun h11=> ?_)
      ·
       have e6:((eopE o):Int)=(z0T o.steps):=by
        unfold eopE;((repeat' split)<;>first|rfl|omega| (simp_all;done)| (simp_all;omega))
       exact .finE [.r [(2,X (Xc0 (z1H o.steps (by assumption)) X0))]] [] (fun z0:Int=>(VI z0,[])) _ _ e6
      ·
       refine .bp [.r []] (o.kind==3) (fun h13=> ?_) (fun h13=> ?_)
       ·
        have e7:((eopE o):Int)=(edE o.grid):=by
         unfold eopE;((repeat' split)<;>first|rfl|omega| (simp_all;done)| (simp_all;omega))
        exact .finE [.r [(2,X (Xc0 (z4X o.grid (by assumption)) X0))]] [] (fun z0:Int=>(VI z0,[])) _ _ e7
       ·
        have e8:((eopE o):Int)=(drawE o.draw 0):=by
         unfold eopE;((repeat' split)<;>first|rfl|omega| (simp_all;done)| (simp_all;omega))
        exact .finE [.r [(2,X (Xc0 (z8I o.draw) X0))]] [] (fun z0:Int=>(VI z0,[])) _ _ e8
theorem y4b(c:List EOp)(hc:∀o∈c,OpL o):FC Tryz.prog 35 [VL 19 eopT c] (app emp []) (VI (eopsE c 0)) (app emp []):=by
 refine .go Tryz.f35 ?_
 refine .len 0 (fun hl0=> ?_)
 refine .loop (α:=Nat) [.r [],.r [(1,X (Xl eopT c))]] 32 (fun i=>([(6,VL 19 eopT c),(7,VI (c.length:Int)),(8,VI (i:Int))],[])) (fun i=>i<=c.length/\eopsE c 0=eopsE c i) (fun i=>c.length-i) (0:Nat) ?_ ?_
 ·
  exact⟨by omega,rfl⟩
 rintro i I2 ih2
 try dsimp only at I2
 refine .bp [.r []] (decide ((i:Int)< (c.length:Int))) (fun h2=> ?_) (fun h2=> ?_)
 ·
  have ho:=hc _ (z0h (l:=c) (i:=i) (by omega))
  refine .bp [.r [(0,X (Xi eopT c (i:Int)))],.r [(1,X (Xc0 (y2j ((c.getD i default)) (by assumption)) X0))],.r []] ((eopE ((c.getD i default))) !=0) (fun h5=> ?_) (fun h5=> ?_)
  ·
   have e1:((eopsE c 0):Int)=(eopE ((c.getD i default))):=by
    exact I2.2.trans (y3T (by omega) h5)
   exact .finE [.r []] [] (fun z0:Int=>(VI z0,[])) _ _ e1
  ·
   refine .back [.r [(0,X (Xn ((i:Int)+1)))]] [] (ih2 ((i+1):Nat) ?_ ?_)
   ·
    exact⟨by omega,I2.2.trans (y2h (by omega) h5)⟩
   ·
    ((try dsimp only);omega)
 ·
  have e2:((eopsE c 0):Int)=0:=by
   exact I2.2.trans (y3U (by omega))
  exact .finE [.r []] [] (fun z0:Int=>(VI z0,[])) _ _ e2
end Go.Ch
end
section
namespace Go.Ch
open Go Go.Ab
def NoAD:List DU->Prop
 | .A _::_=>False
 |_=>True
theorem pd_A1(e:Elem)(p q:List DU):z0b (.A e::p) q=(.A e::(z0b p q).1,.K []::(z0b p q).2):=by rw[z0b]
theorem y9c{p:List DU}(hp:NoAD p)(e:Elem)(q:List DU):z0b p (.A e::q)=(.K []::(z0b p q).1,.A e::(z0b p q).2):=by
 cases p with
 |nil=>rw[z0b]
 |cons u p=>
  cases u with
  |A x=>exact hp.elim
  |K c=>rw[z0b]
  |C=>rw[z0b]
theorem pd_A(e:List Elem)(p q:List DU):z0b (e.map .A++p) q=(e.map .A++(z0b p q).1,List.replicate e.length (.K [])++(z0b p q).2):=by
 induction e with
 |nil=>rfl
 |cons x e ih=>rw[qV,qg,pd_A1,ih];rfl
theorem pd_A2(e:List Elem){p:List DU}(hp:NoAD p)(q:List DU):z0b p (e.map .A++q)=(List.replicate e.length (.K [])++(z0b p q).1,e.map .A++(z0b p q).2):=by
 induction e with
 |nil=>rfl
 |cons x e ih=>rw[qV,qg,y9c hp,ih];rfl
theorem pd_KK(n:Nat)(c d:List Attr)(p q:List DU):z0b (List.replicate n (.K c)++p) (List.replicate n (.K d)++q)=(List.replicate n (.K (fm wioG c d))++(z0b p q).1,List.replicate n (.K d)++(z0b p q).2):=by
 induction n with
 |zero=>rfl
 |succ n ih=>rw[qE,qE,qE,qg,qg,z0b,ih];rfl
theorem pd_KC(n:Nat)(c:List Attr)(p q:List DU):z0b (List.replicate n (.K c)++p) (List.replicate n .C++q)=((z0b p q).1,List.replicate n .C++(z0b p q).2):=by
 induction n with
 |zero=>rfl
 |succ n ih=>rw[qE,qE,qg,qg,z0b,ih];rfl
theorem pd_CK(n:Nat)(c:List Attr)(p q:List DU):z0b (List.replicate n .C++p) (List.replicate n (.K c)++q)=(List.replicate n .C++(z0b p q).1,(z0b p q).2):=by
 induction n with
 |zero=>rfl
 |succ n ih=>rw[qE,qE,qg,qg,z0b,ih];rfl
theorem pd_CC(n:Nat)(p q:List DU):z0b (List.replicate n .C++p) (List.replicate n .C++q)=z0b p q:=by
 induction n with
 |zero=>rfl
 |succ n ih=>rw[qE,qg,qg,z0b,ih]
theorem z8W(p q:List DU)(hp:KOk p)(hq:KOk q):(∀u∈(z0b p q).1,z03 u)/\(∀u∈(z0b p q).2,z03 u):=by
 have okA:∀e:Elem,elemE e=0/\e.attrs.length<=100000000000->z03 (.A e):=fun e h=>⟨h.1,by omega⟩
 have okK:∀c:List Attr,VG true c/\c.length<=100000000000->z03 (.K c):=fun e h=>⟨h.1,by omega⟩
 have ok0:z03 (.K []):=⟨z55,by simp⟩
 have cons:∀(x:DU) (l:List DU),z03 x->(∀u∈l,z03 u)->∀u∈x::l,z03 u:=fun x l h k u hu=>by
  rcases qj.1 hu with rfl|hu
  ·exact h
  ·exact k u hu
 induction p,q using z0b.induct with
 |case1 e p q ih=>rw[z0b];have i:=ih hp.tail hq;exact⟨cons _ _ (okA e (hp.2 e (by simp))) i.1,cons _ _ ok0 i.2⟩
 |case2 e q ih=>rw[z0b];have i:=ih hp hq.tail;exact⟨cons _ _ ok0 i.1,cons _ _ (okA e (hq.2 e (by simp))) i.2⟩
 |case3 c p e q ih=>rw[z0b];have i:=ih hp hq.tail;exact⟨cons _ _ ok0 i.1,cons _ _ (okA e (hq.2 e (by simp))) i.2⟩
 |case4 p e q ih=>rw[z0b];have i:=ih hp hq.tail;exact⟨cons _ _ ok0 i.1,cons _ _ (okA e (hq.2 e (by simp))) i.2⟩
 |case5 c p d q ih=>
  rw[z0b]
  have i:=ih hp.tail hq.tail
  have h1:=hp.1 c (by simp)
  have h2:=hq.1 d (by simp)
  have:=z1q wioG c d
  exact⟨cons _ _ ⟨wio_V np_mt h1.1 h2.1,by omega⟩ i.1,cons _ _ (okK d h2) i.2⟩
 |case6 c p q ih=>rw[z0b];have i:=ih hp.tail hq.tail;exact⟨i.1,cons _ _ trivial i.2⟩
 |case7 p d q ih=>rw[z0b];have i:=ih hp.tail hq.tail;exact⟨cons _ _ trivial i.1,i.2⟩
 |case8 p q ih=>rw[z0b];exact ih hp.tail hq.tail
 |case9 p hne=>
  rw[show z0b p []=([],[]) by unfold z0b;split<;>simp_all]
  exact⟨fun u hu=>absurd hu (qS),fun u hu=>absurd hu (qS)⟩
 |case10 q h1 h2=>
  rw[show z0b [] q=([],[]) by unfold z0b;split<;>simp_all]
  exact⟨fun u hu=>absurd hu (qS),fun u hu=>absurd hu (qS)⟩
theorem y2k(p q:List DU):newN (z0b p q).1<=newN p+newN q/\newN (z0b p q).2<=newN p+newN q:=by
 induction p,q using z0b.induct with
 |case9 p hne=>
  rw[show z0b p []=([],[]) by unfold z0b;split<;>simp_all]
  simp[newN]
 |case10 q h1 h2=>
  rw[show z0b [] q=([],[]) by unfold z0b;split<;>simp_all]
  simp[newN]
 |_=>rw[z0b];simp only[newN] at*;omega
def z0X(a b:List DStep):List DStep:=doneD (z0b (exD a) (exD b)).1
def z40(a b:List DStep):List DStep:=doneD (z0b (exD a) (exD b)).2
structure PD(wx wy:DWr)(ps:List DStep)(pu:Int)(qs:List DStep)(qu:Int)(T U:Nat)(G H:DWr):Prop where
 gp:GoodRD ps pu
 gq:GoodRD qs qu
 dp:DN 100000000000 ps
 dq:DN 100000000000 qs
 eq:oldN (ruD ps pu)=oldN (ruD qs qu)
 dx:DI wx (z0b (ruD ps pu) (ruD qs qu)).1 T G
 dy:DI wy (z0b (ruD ps pu) (ruD qs qu)).2 U H
theorem noAD{l:List DStep}{u:Int}(h:GoodRD l u)(hk:0<l.length->(l.getD 0 default).kind≠1):NoAD (ruD l u):=by
 by_cases h0:0<l.length
 ·have hl:=h.lt h0
  obtain⟨g,e⟩:=z2S (n:=1) h h0 (by decide) (by omega)
  rcases k02 h h0 (hk h0) with k|k
  ·rw[e,exS_K k];trivial
  ·rw[e,exS_C k];trivial
 ·rw[z2k (by omega)];trivial
section
variable {wx wy:DWr} {ps qs:List DStep} {pu qu:Int} {T U:Nat} {G H:DWr}
theorem PD.addP(h:PD wx wy ps pu qs qu T U G H)(h0:0<ps.length)(hk:(ps.getD 0 default).kind=1){n:Int}(hn:n=szD (ps.getD 0 default)- pu):
 PD ⟨wx.out,wx.add++(tkE ps pu n).elems,wx.cut⟩ ⟨keepD (z0a wy) ((tkE ps pu n).elems.length:Int) [],[],0⟩ (tkL ps pu n) (tkN ps pu n) qs qu T U G H/\
 jmD (tkL ps pu n) (tkN ps pu n) qs qu<jmD ps pu qs qu/\((tkE ps pu n).elems.length:Int)=n:=by
 have hl:=h.gp.lt h0
 obtain⟨g,e⟩:=z2S (n:=n) h.gp h0 (by omega) (by omega)
 have hz:=z3z (n:=n) hk h.gp.pos (by omega) (by omega)
 rw[exS_A hk] at e
 have hx:=h.dx
 have hy:=h.dy
 have he:=h.eq
 rw[e,pd_A] at hx hy
 rw[e,z0E,(z2i _).1] at he
 obtain⟨k,hk2⟩:∃k,(tkE ps pu n).elems.length=k+1:=⟨(tkE ps pu n).elems.length- 1,by omega⟩
 refine⟨⟨g,h.gq,dn_tk h.dp,h.dq,by omega,hx.elems,?_⟩,?_,by omega⟩
 ·rw[hk2] at hy|-
  exact hy.keep
 ·unfold jmD
  rw[e,List.length_append,List.length_map,hz]
  omega
theorem PD.addQ(h:PD wx wy ps pu qs qu T U G H)(hp:0<ps.length->(ps.getD 0 default).kind≠1)(h0:0<qs.length)(hk:(qs.getD 0 default).kind=1){n:Int}(hn:n=szD (qs.getD 0 default)- qu):
 PD ⟨keepD (z0a wx) ((tkE qs qu n).elems.length:Int) [],[],0⟩ ⟨wy.out,wy.add++(tkE qs qu n).elems,wy.cut⟩ ps pu (tkL qs qu n) (tkN qs qu n) T U G H/\
 jmD ps pu (tkL qs qu n) (tkN qs qu n)< jmD ps pu qs qu/\((tkE qs qu n).elems.length:Int)=n:=by
 have hl:=h.gq.lt h0
 obtain⟨g,e⟩:=z2S (n:=n) h.gq h0 (by omega) (by omega)
 have hz:=z3z (n:=n) hk h.gq.pos (by omega) (by omega)
 rw[exS_A hk] at e
 have hx:=h.dx
 have hy:=h.dy
 have he:=h.eq
 rw[e,pd_A2 _ (noAD h.gp hp)] at hx hy
 rw[e,z0E,(z2i _).1] at he
 obtain⟨k,hk2⟩:∃k,(tkE qs qu n).elems.length=k+1:=⟨(tkE qs qu n).elems.length- 1,by omega⟩
 refine⟨⟨h.gp,g,h.dp,dn_tk h.dq,by omega,?_,hy.elems⟩,?_,by omega⟩
 ·rw[hk2] at hx|-
  exact hx.keep
 ·unfold jmD
  rw[e,List.length_append,List.length_map,hz]
  omega
theorem PD.both(h:PD wx wy ps pu qs qu T U G H)(a:0<ps.length)(b:0<qs.length)(kp:(ps.getD 0 default).kind≠1)(kq:(qs.getD 0 default).kind≠1){n:Int}(hn:n=min (szD (ps.getD 0 default)- pu) (szD (qs.getD 0 default)- qu)):
 (((ps.getD 0 default).kind=0/\(qs.getD 0 default).kind=0->PD ⟨keepD (z0a wx) n (fm wioG (ps.getD 0 default).attrs (qs.getD 0 default).attrs),[],0⟩ ⟨keepD (z0a wy) n (qs.getD 0 default).attrs,[],0⟩ (tkL ps pu n) (tkN ps pu n) (tkL qs qu n) (tkN qs qu n) T U G H)/\
 ((ps.getD 0 default).kind=0/\(qs.getD 0 default).kind=2->PD wx ⟨wy.out,wy.add,wy.cut+n⟩ (tkL ps pu n) (tkN ps pu n) (tkL qs qu n) (tkN qs qu n) T U G H)/\
 ((ps.getD 0 default).kind=2/\(qs.getD 0 default).kind=0->PD ⟨wx.out,wx.add,wx.cut+n⟩ wy (tkL ps pu n) (tkN ps pu n) (tkL qs qu n) (tkN qs qu n) T U G H)/\
 ((ps.getD 0 default).kind=2/\(qs.getD 0 default).kind=2->PD wx wy (tkL ps pu n) (tkN ps pu n) (tkL qs qu n) (tkN qs qu n) T U G H))/\
 jmD (tkL ps pu n) (tkN ps pu n) (tkL qs qu n) (tkN qs qu n)< jmD ps pu qs qu:=by
 have l1:=h.gp.lt a
 have l2:=h.gq.lt b
 have p1:=h.gp.pos
 have p2:=h.gq.pos
 obtain⟨g1,e1⟩:=z2S (n:=n) h.gp a (by omega) (by omega)
 obtain⟨g2,e2⟩:=z2S (n:=n) h.gq b (by omega) (by omega)
 have hx:=h.dx
 have hy:=h.dy
 have he:=h.eq
 refine⟨⟨fun k=> ?_,fun k=> ?_,fun k=> ?_,fun k=> ?_⟩,?_⟩
 ·rw[e1,e2,exS_K k.1,exS_K k.2] at hx hy he
  rw[pd_KK,show n.toNat=(n.toNat- 1)+1 by omega] at hx hy
  rw[z0E,z0E,(z1p _ _).1,(z1p _ _).1] at he
  have hx2:=hx.keep
  have hy2:=hy.keep
  rw[show(((n.toNat- 1+1:Nat)):Int)=n by omega] at hx2 hy2
  exact⟨g1,g2,dn_tk h.dp,dn_tk h.dq,by omega,hx2,hy2⟩
 ·rw[e1,e2,exS_K k.1,exS_C k.2] at hx hy he
  rw[pd_KC] at hx hy
  rw[z0E,z0E,(z2j _).1,(z1p _ _).1] at he
  have hy2:=hy.cuts
  rw[show((n.toNat:Nat):Int)=n by omega] at hy2
  exact⟨g1,g2,dn_tk h.dp,dn_tk h.dq,by omega,hx,hy2⟩
 ·rw[e1,e2,exS_C k.1,exS_K k.2] at hx hy he
  rw[pd_CK] at hx hy
  rw[z0E,z0E,(z2j _).1,(z1p _ _).1] at he
  have hx2:=hx.cuts
  rw[show((n.toNat:Nat):Int)=n by omega] at hx2
  exact⟨g1,g2,dn_tk h.dp,dn_tk h.dq,by omega,hx2,hy⟩
 ·rw[e1,e2,exS_C k.1,exS_C k.2] at hx hy he
  rw[pd_CC] at hx hy
  rw[z0E,z0E,(z2j _).1] at he
  exact⟨g1,g2,dn_tk h.dp,dn_tk h.dq,by omega,hx,hy⟩
 ·have hs:=y37 (h.gp.ok _ (z0z a))
  have hl:=congrArg List.length (z58 (n:=n) (h.gp.ok _ (z0z a)) p1 (by omega) (by omega))
  simp only[List.length_append,List.length_drop] at hl
  unfold jmD
  rw[e1,e2,List.length_append,List.length_append]
  omega
theorem PD.two(h:PD wx wy ps pu qs qu T U G H)(h0:0<ps.length\/0<qs.length)(hp:0<ps.length->(ps.getD 0 default).kind≠1)(hq:0<qs.length->(qs.getD 0 default).kind≠1):0<ps.length/\0<qs.length:=by
 have he:=h.eq
 rcases Nat.eq_zero_or_pos ps.length with a|a
 ·rcases Nat.eq_zero_or_pos qs.length with b|b
  ·omega
  ·have:=(y1k h.gq b).1 (hq b)
   rw[z2k a] at he
   simp only[oldN] at he
   omega
 ·rcases Nat.eq_zero_or_pos qs.length with b|b
  ·have:=(y1k h.gp a).1 (hp a)
   rw[z2k b] at he
   simp only[oldN] at he
   omega
  ·exact⟨a,b⟩
theorem PD.done(h:PD wx wy ps pu qs qu T U G H)(a:ps.length=0)(b:qs.length=0):wx=G/\wy=H:=by
 have hx:=h.dx
 have hy:=h.dy
 rw[z2k a,z2k b] at hx hy
 exact⟨DI.done (by simpa[z0b] using hx),DI.done (by simpa[z0b] using hy)⟩
end
theorem z6S{a b:List DStep}(va:z0U a)(vb:z0U b)(da:DN 100000000000 a)(db:DN 100000000000 b)(hm:oldD a=oldD b)(hs:newD a+newD b<=2147483647):
 (∀u∈(z0b (exD a) (exD b)).1,z03 u)/\(∀u∈(z0b (exD a) (exD b)).2,z03 u)/\
 PD ⟨[],[],0⟩ ⟨[],[],0⟩ a 0 b 0 (z0b (exD a) (exD b)).1.length (z0b (exD a) (exD b)).2.length (foldD ⟨[],[],0⟩ (z0b (exD a) (exD b)).1) (foldD ⟨[],[],0⟩ (z0b (exD a) (exD b)).2)/\
 z0U (z0X a b)/\z0U (z40 a b)/\DSw (exD (z0X a b)) (z0b (exD a) (exD b)).1/\DSw (exD (z40 a b)) (z0b (exD a) (exD b)).2/\
 oldD (z0X a b)=newD b/\oldD (z40 a b)=newD a/\DN 400000000000 (z0X a b)/\DN 400000000000 (z40 a b):=by
 obtain⟨hu,hv⟩:=z8W _ _ (exD_K va.1.all da) (exD_K vb.1.all db)
 have la:=z4Y va
 have lb:=z4Y vb
 have o:∃l:List Elem,l.length=oldN (exD a)/\∀x∈l,VG false x.attrs:=⟨List.replicate (oldN (exD a)) ⟨0,0,[]⟩,by simp,fun x hx=>by rw[List.eq_of_mem_replicate hx];exact(z05 (e:=false) (l:=[])).1 (by rw[chkA];rfl)⟩
 obtain⟨l,hl1,hl2⟩:=o
 obtain⟨_,m2,m1,_⟩:=z0K _ (exD a) (exD b) l (Nat.le_refl _) hl1.symm (by omega) (y64 (exD_K va.1.all da)) (y64 (exD_K vb.1.all db)) hl2
 have nn:=y2k (exD a) (exD b)
 have s1:=z9V (z0b (exD a) (exD b)).1
 have s2:=z9V (z0b (exD a) (exD b)).2
 have a1:=va.2.2
 have b1:=vb.2.2
 obtain⟨d1,d2,d3,d4⟩:=z3g hu (by omega) (by omega)
 obtain⟨e1,e2,e3,e4⟩:=z3g hv (by omega) (by omega)
 exact⟨hu,hv,⟨z7O va,z7O vb,da,db,by rw[ruD0,ruD0];omega,by rw[ruD0,ruD0];exact DI.start hu (by omega),by rw[ruD0,ruD0];exact DI.start hv (by omega)⟩,d1,e1,d2,e2,by unfold z0X;omega,by unfold z40;omega,
  y1j hu (by omega),y1j hv (by omega)⟩
end Go.Ch
end
section
namespace Go.Ch
open Go Go.Ab
def lenE(s:DStep):Int:=if(s.kind=1/\s.elems.length=0/\stepD s=11)\/(s.kind≠1/\s.n=0/\stepD s=2) then chkA true s.attrs 0 else stepD s
def tdW(w:DWr)(s:DStep):DWr:=
 if s.kind=0 then(if s.n=0 then w else⟨keepD (z0a w) s.n s.attrs,[],0⟩) else if s.kind=1 then⟨w.out,w.add++s.elems,w.cut⟩ else⟨w.out,w.add,w.cut+s.n⟩
def tdBad(w:DWr)(s:DStep):Prop:=s.kind≠0/\s.kind≠1/\2147483647<w.cut+s.n
instance (w:DWr) (s:DStep):Decidable (tdBad w s):=by unfold tdBad;infer_instance
def tidyG(w:DWr):List DStep->List DStep×Int
 | []=>if z0T (z0a w)=0 then(z0a w,0) else([],3)
 |s::l=>if lenE s≠0 then([],lenE s) else if tdBad w s then([],3) else tidyG (tdW w s) l
def tidyL(d:List DStep):List DStep:=(tidyG ⟨[],[],0⟩ d).1
def tidyE(d:List DStep):Int:=(tidyG ⟨[],[],0⟩ d).2
theorem z9W{s:DStep}(h:lenE s=0):(s.kind=0\/s.kind=1\/s.kind=2)/\0<=s.n/\s.n<=2147483647:=by
 unfold lenE at h
 split at h
 ·rename_i hc
  rcases hc with⟨k,e,q⟩| ⟨k,n0,q⟩
  ·unfold stepD at q
   rw[if_pos k] at q
   split at q
   ·cases q
   ·rename_i hh;exact⟨.inr (.inl k),by omega,by omega⟩
  ·unfold stepD at q
   rw[if_neg k] at q
   split at q
   ·rename_i hk;exact⟨by omega,by omega,by omega⟩
   ·cases q
 ·obtain⟨a,b,c,_⟩:=z0Z h;exact⟨a,b,c⟩
theorem y6f{P:List Attr->Prop}{R:Elem->Prop}{l:List DStep}{n:Int}{c:List Attr}(h:∀s∈l,P s.attrs/\∀x∈s.elems,R x)(hc:P c):∀s∈keepD l n c,P s.attrs/\∀x∈s.elems,R x:=by
 unfold keepD
 split
 ·rename_i hl
  intro s hs
  rcases za hs with hs|rfl
  ·exact h s hs
  ·exact h (l.getD (l.length- 1) default) (z0z (by omega))
 ·intro s hs
  rcases qp.1 hs with hs|hs
  ·exact h s hs
  ·rw[qy] at hs;subst hs;exact⟨hc,fun x hx=>by cases hx⟩
theorem z8X{P:List Attr->Prop}{R:Elem->Prop}{w:DWr}(h0:P [])(h:∀s∈w.out,P s.attrs/\∀x∈s.elems,R x)(ha:∀x∈w.add,R x):∀s∈z0a w,P s.attrs/\∀x∈s.elems,R x:=by
 unfold z0a
 intro s hs
 rcases qp.1 hs with hs|hs
 ·rcases qp.1 hs with hs|hs
  ·exact h s hs
  ·split at hs
   ·rw[qy] at hs;subst hs;exact⟨h0,ha⟩
   ·cases hs
 ·split at hs
  ·rw[qy] at hs;subst hs;exact⟨h0,fun x hx=>by cases hx⟩
  ·cases hs
theorem y70{P:List Attr->Prop}{R:Elem->Prop}{w:DWr}{s:DStep}(h0:P [])(h:∀s∈w.out,P s.attrs/\∀x∈s.elems,R x)(ha:∀x∈w.add,R x)(hs:P s.attrs/\∀x∈s.elems,R x):
 (∀t∈(tdW w s).out,P t.attrs/\∀x∈t.elems,R x)/\∀x∈(tdW w s).add,R x:=by
 unfold tdW
 split
 ·split
  ·exact⟨h,ha⟩
  ·exact⟨y6f (z8X h0 h ha) hs.1,fun x hx=>by cases hx⟩
 ·split
  ·exact⟨h,fun x hx=>by rcases qp.1 hx with hx|hx;exact ha x hx;exact hs.2 x hx⟩
  ·exact⟨h,ha⟩
theorem z59{s:DStep}(h:stepD s=0):lenE s=0:=by
 unfold lenE
 rw[if_neg]
 ·exact h
 ·rintro(⟨_,_,q⟩| ⟨_,_,q⟩)<;>rw[h] at q<;>cases q
theorem y2l{w:DWr}{s:DStep}{l:List DStep}(h:lenE s=0)(hb:¬tdBad w s):tidyG w (s::l)=tidyG (tdW w s) l:=by
 conv=>lhs;unfold tidyG
 rw[if_neg (by rw[h];decide),if_neg hb]
end Go.Ch
end
section
namespace Go.Ch
open Go Go.Ab
def elS:List DStep->Nat
 | []=>0
 |s::l=>s.elems.length+elS l
theorem y4c(p q:List DStep):elS (p++q)=elS p+elS q:=by
 induction p with
 |nil=>simp[elS]
 |cons s p ih=>simp only[qg,elS,ih];omega
theorem y1n{d:List DStep}{i:Nat}(h:i<d.length):elS (d.take (i+1))=elS (d.take i)+(d.getD i default).elems.length/\elS (d.take (i+1))<=elS d:=by
 constructor
 ·rw[qr h,y4c,show d.getD i default=d[i] by simp[List.getD,qa h]];simp[elS]
 ·conv=>rhs;rw[<-List.take_append_drop (i+1) d,y4c]
  omega
structure TB(d:List DStep)(i:Nat)(w:DWr):Prop where
 out:w.out.length<=3*i
 add:w.add.length<=elS (d.take i)
 cut:0<=w.cut/\w.cut<=2147483647
 n:∀s∈w.out,0<=s.n/\s.n<=2147483647*((i:Int)+1)
 dn:∀s∈w.out,s.attrs.length<=100000000000/\∀x∈s.elems,x.attrs.length<=100000000000
 an:∀x∈w.add,x.attrs.length<=100000000000
 el:∀s∈w.out,s.elems.length<=elS (d.take i)
theorem TB.start(d:List DStep):TB d 0 ⟨[],[],0⟩:=⟨by simp,by simp,⟨by simp,by simp⟩,fun s h=>absurd h qS,fun s h=>absurd h qS,fun s h=>absurd h qS,fun s h=>absurd h qS⟩
theorem y4d{w:DWr}{B:Int}(hB:2147483647<=B)(hc:0<=w.cut/\w.cut<=2147483647)(h:∀s∈w.out,0<=s.n/\s.n<=B):∀s∈z0a w,0<=s.n/\s.n<=B:=by
 unfold z0a
 intro s hs
 rcases qp.1 hs with hs|hs
 ·rcases qp.1 hs with hs|hs
  ·exact h s hs
  ·split at hs
   ·rw[qy] at hs;subst hs;simp only;omega
   ·cases hs
 ·split at hs
  ·rw[qy] at hs;subst hs;simp only;omega
  ·cases hs
theorem y1o{w:DWr}{B:Nat}(ha:w.add.length<=B)(h:∀s∈w.out,s.elems.length<=B):∀s∈z0a w,s.elems.length<=B:=by
 unfold z0a
 intro s hs
 rcases qp.1 hs with hs|hs
 ·rcases qp.1 hs with hs|hs
  ·exact h s hs
  ·split at hs
   ·rw[qy] at hs;subst hs;exact ha
   ·cases hs
 ·split at hs
  ·rw[qy] at hs;subst hs;simp
  ·cases hs
theorem y9d{l:List DStep}{B B' n:Int}{c:List Attr}(h:∀s∈l,0<=s.n/\s.n<=B)(h1:0<=n)(h2:B+n<=B')(h3:0<=B):∀s∈keepD l n c,0<=s.n/\s.n<=B':=by
 unfold keepD
 split
 ·intro s hs
  rcases za hs with hs|rfl
  ·have:=h s hs;omega
  ·have:=h (l.getD (l.length- 1) default) (z0z (by omega))
   simp only;omega
 ·intro s hs
  rcases qp.1 hs with hs|hs
  ·have:=h s hs;omega
  ·rw[qy] at hs;subst hs;simp only;omega
theorem y71{l:List DStep}{B:Nat}{n:Int}{c:List Attr}(h:∀s∈l,s.elems.length<=B):∀s∈keepD l n c,s.elems.length<=B:=by
 unfold keepD
 split
 ·intro s hs
  rcases za hs with hs|rfl
  ·exact h s hs
  ·exact h (l.getD (l.length- 1) default) (z0z (by omega))
 ·intro s hs
  rcases qp.1 hs with hs|hs
  ·exact h s hs
  ·rw[qy] at hs;subst hs;simp
theorem TB.flush{d:List DStep}{i:Nat}{w:DWr}(h:TB d i w)(hi:i<=100000000)(he:elS d<=100000000000)(hd:elS (d.take i)<=elS d):
 (∀s∈z0a w,0<=s.n/\s.n<=1000000000000000000)/\DN 400000000000 (z0a w):=by
 refine⟨y4d (by decide) h.cut (fun s hs=>by have:=h.n s hs;omega),fun s hs=> ?_⟩
 have h1:=z8X (P:=fun l=>l.length<=100000000000) (R:=fun x=>x.attrs.length<=100000000000) (by simp) h.dn h.an s hs
 have h2:=y1o h.add h.el s hs
 exact⟨by omega,by have:=h1.1;omega,fun x hx=>by have:=h1.2 x hx;omega⟩
theorem TB.next{d:List DStep}{i:Nat}{w:DWr}(h:TB d i w)(hi:i<d.length)(hd:DN 100000000000 d)(hl:lenE (d.getD i default)=0)(hb:¬tdBad w (d.getD i default)):TB d (i+1) (tdW w (d.getD i default)):=by
 obtain⟨k,n0,n1⟩:=z9W hl
 obtain⟨e1,_⟩:=y1n hi
 obtain⟨b1,b2,b3⟩:=hd _ (z0z hi)
 generalize d.getD i default=s at*
 have ha:=y70 (P:=fun l=>l.length<=100000000000) (R:=fun x=>x.attrs.length<=100000000000) (w:=w) (s:=s) (by simp) h.dn h.an ⟨b2,b3⟩
 have hn:=h.n
 have hc:=h.cut
 have ho:=h.out
 have hadd:=h.add
 refine⟨?_,?_,?_,?_,ha.1,ha.2,?_⟩
 ·unfold tdW
  split
  ·split
   ·omega
   ·have:=y31 (z0a w) s.n s.attrs
    have:=z6Q w
    simp only;omega
  ·split<;>simp only<;>omega
 ·unfold tdW
  split
  ·split
   ·omega
   ·simp
  ·split
   ·simp only[qf];omega
   ·simp only;omega
 ·unfold tdW
  split
  ·split
   ·exact hc
   ·exact⟨zy 0,(by decide:(0:Int)<=2147483647)⟩
  ·split
   ·exact hc
   ·rename_i k0 k1
    unfold tdBad at hb
    simp only
    omega
 ·have up:∀t∈w.out,0<=t.n/\t.n<=2147483647*(((i+1:Nat):Int)+1):=fun t ht=>by have:=hn t ht;omega
  unfold tdW
  split
  ·split
   ·exact up
   ·exact y9d (y4d (by omega) hc hn) (B':=2147483647*(((i+1:Nat):Int)+1)) (by omega) (by omega) (by omega)
  ·split
   ·exact up
   ·exact up
 ·have up:∀t∈w.out,t.elems.length<=elS (d.take (i+1)):=fun t ht=>by have:=h.el t ht;omega
  unfold tdW
  split
  ·split
   ·exact up
   ·exact y71 (y1o (by omega) up)
  ·split
   ·exact up
   ·exact up
end Go.Ch
namespace Go.Ch
open Go Go.Ab
theorem y6g{d:List DStep}{i:Nat}(h:i<d.length)(w:DWr):tidyG w (d.drop i)=if lenE (d.getD i default)≠0 then([],lenE (d.getD i default)) else if tdBad w (d.getD i default) then([],3) else tidyG (tdW w (d.getD i default)) (d.drop (i+1)):=by
 rw[dropD h,tidyG]
theorem z8Y{d:List DStep}{i:Nat}(h:d.length<=i)(w:DWr):tidyG w (d.drop i)=if z0T (z0a w)=0 then(z0a w,0) else([],3):=by
 rw[qP h,tidyG]
end Go.Ch
end
section
namespace Go.Ch
open Go Go.Ab

def stepU:DU->DStep
 | .K c=>⟨0,1,c,[]⟩
 | .A e=>⟨1,0,[],[e]⟩
 | .C=>⟨2,1,[],[]⟩
theorem y6h{u:DU}(h:z03 u):DOk (stepU u):=by
 cases u with
 |K c=>exact .inr ⟨.inl rfl,rfl,fun h=>absurd (show(0:Int)=2 from h) (by decide),zy 1,(by decide:(1:Int)<=2147483647),h.1⟩
 |A e=>exact .inl ⟨rfl,rfl,rfl,by simp[stepU],fun x hx=>by rw[show x=e by simpa[stepU] using hx];exact h.1⟩
 |C=>exact .inr ⟨.inr rfl,rfl,fun _=>rfl,zy 1,(by decide:(1:Int)<=2147483647),z55⟩
theorem tdW_U(w:DWr)(u:DU):tdW w (stepU u)=putU w u:=by
 cases u<;>simp[tdW,stepU,putU]
theorem y6i{w:DWr}(h:0<=w.cut)(u:DU):0<=(putU w u).cut/\(putU w u).cut<=w.cut+1:=by
 cases u<;>simp only[putU]<;>omega
theorem y4e:∀(us:List DU) (w:DWr),(∀u∈us,z03 u)->0<=w.cut->w.cut+us.length<=2147483647->tidyG w (us.map stepU)=if z0T (z0a (foldD w us))=0 then(z0a (foldD w us),0) else([],3)
 | [],w,_,_,_=>by rw[zR,tidyG,foldD]
 |u::us,w,hu,h0,hl=>by
  simp only[qi] at hl
  have hc:=y6i h0 u
  rw[qV,tidyG,if_neg (by rw[z59 (z0I.2 (y6h (hu u (by simp))))];decide),if_neg,tdW_U,y4e us _ (fun v hv=>hu v (by simp[hv])) hc.1 (by omega),foldD]
  rintro⟨k0,k1,hb⟩
  have hn:(stepU u).n<=1:=by cases u<;>simp[stepU]
  omega
theorem z6T{us:List DU}(hu:∀u∈us,z03 u)(hl:us.length<=2147483647):tidyL (us.map stepU)=doneD us/\tidyE (us.map stepU)=0:=by
 have h1:oldN us<=us.length/\newN us<=us.length:=by
  clear hu hl
  induction us with
  |nil=>exact⟨qt _,qt _⟩
  |cons u us ih=>cases u<;>simp only[oldN,newN,qi]<;>omega
 have hd:=z3g hu (by omega) (by omega)
 have:=y4e us ⟨[],[],0⟩ hu (zy _) (by simp only;omega)
 rw[if_pos (show z0T (z0a (foldD ⟨[],[],0⟩ us))=0 from z0Q.2 hd.1)] at this
 unfold tidyL tidyE
 rw[this]
 exact⟨rfl,rfl⟩
theorem z8Z(p:Nat->Bool)(c:Nat->List Attr)(f:List Elem):∀(n s:Nat),s+n=f.length->
 z0i ((List.range' s n).map fun i=>if p i=true then .C else .K (c i)) (f.drop s)=((List.range' s n).filter fun i=> !p i).map fun i=>chgE (c i) (f.getD i default)
 |0,s,h=>by simp[z0i]
 |n+1,s,h=>by
  have ih:=z8Z p c f n (s+1) (by omega)
  rw[List.range'_succ,qV,dropD (show s<f.length by omega),jg]
  cases hp:p s with
  |true=>simp[z0i,ih]
  |false=>simp[z0i,ih]
def cutB:ByteArray:={data:=#[99,117,116]}
def addB:ByteArray:={data:=#[97,100,100]}
def hidB:ByteArray:={data:=#[104,105,100,100,101,110]}
def hasA(l:List Attr)(n:ByteArray):Bool:=l.any fun a=>seq a.name n
def gotA(l:List Attr)(n:ByteArray):Bool:=!(seq (getA l n 0) {data:=#[]})
theorem y72{l:List Attr}{i:Nat}(h:i<l.length)(n:ByteArray):hasA (l.drop i) n=(seq (l.getD i default).name n||hasA (l.drop (i+1)) n):=by
 have e:l.drop i=l.getD i default::l.drop (i+1):=by
  rw[zk h];simp[List.getD,qa h]
 rw[e];rfl
theorem z80{l:List Attr}{n:ByteArray}:hasA l n=false↔look l n=none:=by
 induction l with
 |nil=>simp[hasA,look]
 |cons x l ih=>
  unfold hasA at ih|-
  rw[zC,look]
  by_cases e:x.name=n
  ·rw[if_pos e,show seq x.name n=true from z0u.2 e];simp
  ·rw[if_neg e,show seq x.name n=false from z1a.2 e,Bool.false_or];exact ih
theorem y6j{l:List Attr}{n:ByteArray}(h:VG false l):gotA l n=false↔look l n=none:=by
 unfold gotA
 rw[z7x]
 cases hl:look l n with
 |none=>simp only[Option.getD_none];simp;exact z0u.2 rfl
 |some v=>
  have hv:v≠mt:=q_val vp_mt (V.look h hl)
  simp only[zz]
  rw[show seq v {data:=#[]}=false from z1a.2 hv];simp
def hidX(x:Elem)(mode:Int):Bool:=(seq (getA x.attrs hidB 0) onB|| ((mode==0)&&gotA x.attrs cutB))|| ((mode==1)&&gotA x.attrs addB)
def visB(f:List Elem)(mode:Int)(i:Nat):Bool:=!(hidX (f.getD i default) mode)|| (decide ((i:Int)=(f.length:Int)- 1)&&decide ((f.getD i default).char=10))
def plcN(f:List Elem)(mode:Int)(i:Nat):List Nat:=(List.range i).filter (visB f mode)
def plcL(f:List Elem)(mode:Int)(i:Nat):List Int:=(plcN f mode i).map fun i:Nat=>(i:Int)
theorem z81(f:List Elem)(mode:Int)(i:Nat):plcL f mode (i+1)=plcL f mode i++(if visB f mode i=true then[(i:Int)] else[]):=by
 unfold plcL plcN
 rw[zG,zf,qX,jg]
 cases visB f mode i<;>simp
theorem y1p(f:List Elem)(mode:Int)(i:Nat):(plcL f mode i).length<=i:=by
 unfold plcL plcN
 rw[qk]
 have:=zF (visB f mode) (List.range i)
 rw[List.length_range] at this;exact this
theorem z6a{f:List Elem}{mode:Int}{i:Nat}(h:hidX (f.getD i default) mode=false\/(i:Int)=(f.length:Int)- 1/\(f.getD i default).char=10):visB f mode i=true:=by
 unfold visB
 rcases h with h| ⟨h,k⟩
 ·rw[h];rfl
 ·rw[decide_eq_true h,decide_eq_true k];simp
theorem y65{f:List Elem}{mode:Int}{i:Nat}(h:hidX (f.getD i default) mode=true/\(¬(i:Int)=(f.length:Int)- 1\/¬(f.getD i default).char=10)):visB f mode i=false:=by
 unfold visB
 rw[h.1]
 rcases h.2 with k|k
 ·rw[decide_eq_false k];simp
 ·rw[decide_eq_false k];simp
def mtB:ByteArray:={data:=#[]}
def gapP(pl:List Int)(k:Int):Int:=if k=0 then 0 else pl.getD (k- 1).toNat default+1
def markB(pl:List Int)(n:Nat):List Bool:=(List.range n).map fun i:Nat=>pl.any (fun p=>p==(i:Int))
def ersU(f:List Elem)(pl:List Int)(au:ByteArray)(i:Nat):DU:=
 if pl.any (fun p=>p==(i:Int))=true then(if(seq au mtB||seq (getA (f.getD i default).attrs addB 0) au)=true then .C else .K [⟨cutB,au⟩]) else .K []
def ersUs(f:List Elem)(pl:List Int)(au:ByteArray)(n:Nat):List DU:=(List.range n).map (ersU f pl au)
def ersS(f:List Elem)(pl:List Int)(au:ByteArray)(n:Nat):List DStep:=(ersUs f pl au n).map stepU
def ersD(f:List Elem)(pl:List Int)(au:ByteArray):List DStep:=tidyL (ersS f pl au f.length)
def typE(au:ByteArray)(x:Elem):Elem:={x with attrs:=fm rawG x.attrs [⟨addB,au⟩,⟨cutB,mtB⟩]}
def typS(n:Nat)(k:Int)(es:List Elem)(au:ByteArray):List DStep:=[⟨0,k,[],[]⟩,⟨1,0,[],es.map (typE au)⟩,⟨0,(n:Int)- k,[],[]⟩]
def typD(n:Nat)(k:Int)(es:List Elem)(au:ByteArray):List DStep:=tidyL (typS n k es au)
theorem y4f(pl:List Int)(n:Nat):(markB pl n).length=n:=by simp[markB]
theorem y4g(n:Nat):markB [] n=List.replicate n false:=by
 unfold markB
 apply List.ext_getElem (by simp)
 intro i h1 h2
 simp
theorem y2m{pl:List Int}{k n:Nat}(h:k<pl.length)(hp:0<=pl.getD k default/\pl.getD k default< (n:Int)):(markB (pl.take k) n).set (pl.getD k default).toNat true=markB (pl.take (k+1)) n:=by
 have e:pl.getD k default=pl[k]:=by rw[qc,qa h];rfl
 unfold markB
 apply List.ext_getElem (by simp)
 intro i h1 h2
 simp only[List.getElem_set,List.getElem_map,List.getElem_range]
 rw[qr h,List.any_append,zC,zS,zA,<-e]
 by_cases q:(pl.getD k default).toNat=i
 ·rw[if_pos q]
  have:(pl.getD k default==(i:Int))=true:=by rw[beq_iff_eq];omega
  rw[this,Bool.or_true]
 ·rw[if_neg q]
  have:(pl.getD k default==(i:Int))=false:=by rw[beq_eq_false_iff_ne];omega
  rw[this,zA]
theorem z6b(f:List Elem)(pl:List Int)(au:ByteArray)(i:Nat):ersS f pl au (i+1)=ersS f pl au i++[stepU (ersU f pl au i)]:=by
 unfold ersS ersUs
 rw[zG,qX,qX];rfl
theorem y1q(f:List Elem)(pl:List Int)(au:ByteArray)(i:Nat):(ersS f pl au i).length=i:=by simp[ersS,ersUs]
theorem y6k{pl:List Int}{n i:Nat}(h:i<n):(markB pl n).getD i default=pl.any (fun p=>p==(i:Int)):=by
 unfold markB
 rw[qc,q9,List.getElem?_range h];rfl
theorem y73(f:List Elem)(pl:List Int)(au:ByteArray)(n:Nat):DN 100000000000 (ersS f pl au n)/\elS (ersS f pl au n)=0:=by
 have hx:∀s∈ersS f pl au n,s.elems=[]/\s.attrs.length<=1:=by
  intro s hs
  unfold ersS ersUs at hs
  obtain⟨u,hu,rfl⟩:=qC.1 hs
  obtain⟨i,hi,rfl⟩:=qC.1 hu
  unfold ersU
  split
  ·split
   ·exact⟨rfl,by decide⟩
   ·exact⟨rfl,qt 1⟩
  ·exact⟨rfl,by decide⟩
 refine⟨fun s hs=> ?_,?_⟩
 ·obtain⟨h1,h2⟩:=hx s hs
  refine⟨by rw[h1];simp,by omega,?_⟩
  rw[h1];intro x hx;cases hx
 ·generalize ersS f pl au n=l at hx
  induction l with
  |nil=>rfl
  |cons s l ih=>
   rw[elS,(hx s List.mem_cons_self).1,ih (fun t ht=>hx t (qB _ ht))];rfl
theorem ers_0{f:List Elem}{pl:List Int}{au:ByteArray}{i:Nat}(h:pl.any (fun p=>p==(i:Int))=false):stepU (ersU f pl au i)={kind:=0,n:=1,attrs:=[],elems:=[]}:=by
 unfold ersU;rw[if_neg (by rw[h];decide)];rfl
theorem ers_c{f:List Elem}{pl:List Int}{au:ByteArray}{i:Nat}(h:pl.any (fun p=>p==(i:Int))=true)(h2:seq au {data:=#[]}=true\/seq (getA (f.getD i default).attrs {data:=#[97,100,100]} 0) au=true):stepU (ersU f pl au i)={kind:=2,n:=1,attrs:=[],elems:=[]}:=by
 unfold ersU;rw[if_pos h,if_pos (by rw[qF];exact h2)];rfl
theorem ers_k{f:List Elem}{pl:List Int}{au:ByteArray}{i:Nat}(h:pl.any (fun p=>p==(i:Int))=true)(h2:seq au {data:=#[]}=false/\seq (getA (f.getD i default).attrs {data:=#[97,100,100]} 0) au=false):stepU (ersU f pl au i)={kind:=0,n:=1,attrs:=[{name:={data:=#[99,117,116]},val:=au}],elems:=[]}:=by
 unfold ersU;rw[if_pos h,if_neg]
 ·rfl
 ·rw[qF];rintro(q|q)
  ·rw[show seq au mtB=seq au {data:=#[]} from rfl,h2.1] at q;cases q
  ·rw[show addB=({data:=#[97,100,100]}:ByteArray) from rfl,h2.2] at q;cases q
theorem y4h{α:Type}[Inhabited α]{g:α->α}{l:List α}{i:Nat}(h:i<l.length):((l.take i).map g++l.drop i).getD i default=l.getD i default:=by
 rw[qc,qI (by simp;omega)]
 simp only[qk,qO,Nat.min_eq_left (Nat.le_of_lt h),Nat.sub_self]
 rw[qT,qc];rfl
theorem z82{α:Type}[Inhabited α]{g:α->α}{l:List α}{i:Nat}(h:i<l.length):((l.take i).map g++l.drop i).set i (g (l.getD i default))=(l.take (i+1)).map g++l.drop (i+1):=by
 have e:l.getD i default=l[i]:=by rw[qc,qa h];rfl
 rw[qr h,qX,qR,List.set_append_right _ _ (by simp;omega)]
 congr 1
 simp only[qk,qO,Nat.min_eq_left (Nat.le_of_lt h),Nat.sub_self]
 rw[z3e h,List.set_cons_zero,e];rfl
theorem y74(n:Nat)(k:Int)(es:List Elem)(au:ByteArray)(he:es.length<=1048576)(ha:∀x∈es,x.attrs.length<=1048576):DN 100000000000 (typS n k es au)/\elS (typS n k es au)<=1048576:=by
 refine⟨fun s hs=> ?_,by simp[typS,elS];omega⟩
 unfold typS at hs
 simp only[qj,qS,or_false] at hs
 rcases hs with rfl|rfl|rfl
 ·exact⟨by simp,by simp,fun x hx=>by cases hx⟩
 ·refine⟨by simp;omega,by simp,fun x hx=> ?_⟩
  obtain⟨y,hy,rfl⟩:=qC.1 hx
  have h1:=ha y hy
  have h2:=z1q rawG y.attrs [⟨addB,au⟩,⟨cutB,mtB⟩]
  show(fm rawG y.attrs [⟨addB,au⟩,⟨cutB,mtB⟩]).length<=_
  simp at h2;omega
 ·exact⟨by simp,by simp,fun x hx=>by cases hx⟩
theorem y9e{n:Nat}{k:Int}{es o:List Elem}{au:ByteArray}(ho:o=es.map (typE au))(dn:DN 100000000000 (typS n k es au))(el:elS (typS n k es au)<=1048576):
 DN 100000000000 [{kind:=0,n:=k,attrs:=[],elems:=[]},{kind:=1,n:=0,attrs:=[],elems:=o},{kind:=0,n:=(n:Int)- k,attrs:=[],elems:=[]}]/\[({kind:=0,n:=k,attrs:=[],elems:=[]}:DStep),{kind:=1,n:=0,attrs:=[],elems:=o},{kind:=0,n:=(n:Int)- k,attrs:=[],elems:=[]}].length<=100000000/\
 elS [{kind:=0,n:=k,attrs:=[],elems:=[]},{kind:=1,n:=0,attrs:=[],elems:=o},{kind:=0,n:=(n:Int)- k,attrs:=[],elems:=[]}]<=10000000000:=by
 subst ho
 exact⟨dn,by simp,qD el (by decide)⟩
structure Pl where
 node:Node
 shown:List Int
 author:ByteArray
instance:Inhabited Pl:=⟨⟨default,[],{data:=#[]}⟩⟩
def plT(p:Pl):Tree:= .agg [TI p.node.id,TI p.node.kind,.lst 2 (p.node.attrs.map attrT),.lst 3 (p.node.flow.map elemT),TI p.node.grid.rows,TI p.node.grid.cols,.lst 5 (p.node.grid.cells.map cellT),.lst 4 (p.node.grid.merges.map rectT),.lst 8 (p.node.draw.map dopT),.lst 1 (p.shown.map intT),TS p.author]
structure Sel where
 nd:Int
 fr:Int
 tq:Int
instance:Inhabited Sel:=⟨⟨0,0,0⟩⟩
def selT(s:Sel):Tree:= .agg [TI s.nd,TI s.fr,TI s.tq]
def ndN(l:List Node)(k:Int):Node:=l.getD (lobN l k) default
def shwN(n:Node):List Int:=plcL n.flow 0 n.flow.length
def atE(d:Doc)(s:Sel)(au:ByteArray):Int:=
 if docE d≠0 then docE d
 else if hasN d.nodes s.nd=false then 7
 else if hasT (ndN d.nodes s.nd).kind=false then 8
 else if s.fr<0\/s.tq<s.fr\/((shwN (ndN d.nodes s.nd)).length:Int)<=s.tq then 2
 else if seq au {data:=#[]}=false/\valGo au=false then 23 else 0
def z6c:Pl:=⟨⟨0,0,[],[],⟨0,0,[],[]⟩,[]⟩,[],{data:=#[]}⟩
def atP(d:Doc)(s:Sel)(au:ByteArray):Pl:=if atE d s au≠0 then z6c else⟨ndN d.nodes s.nd,shwN (ndN d.nodes s.nd),au⟩
theorem at_e{d:Doc}{s:Sel}{au:ByteArray}{k:Int}(h:atE d s au=k)(hk:k≠0):atP d s au=z6c/\atE d s au=k:=by
 unfold atP;rw[h,if_pos hk];exact⟨rfl,rfl⟩
theorem at_1{d:Doc}{s:Sel}{au:ByteArray}(h:docE d≠0):atP d s au=z6c/\atE d s au=docE d:=at_e (by unfold atE;rw[if_pos h]) h
theorem at_2{d:Doc}{s:Sel}{au:ByteArray}(h:docE d=0)(h2:hasN d.nodes s.nd=false):atP d s au=z6c/\atE d s au=7:=at_e (by unfold atE;rw[if_neg (fun q=>q h),if_pos h2]) (by decide)
theorem at_3{d:Doc}{s:Sel}{au:ByteArray}(h:docE d=0)(h2:hasN d.nodes s.nd=true)(h3:hasT (d.nodes.getD (lobN d.nodes s.nd) default).kind=false):atP d s au=z6c/\atE d s au=8:=
 at_e (by unfold atE;rw[if_neg (fun q=>q h),if_neg (by rw[h2];decide),if_pos (show hasT (ndN d.nodes s.nd).kind=false from h3)]) (by decide)
theorem at_4{d:Doc}{s:Sel}{au:ByteArray}(h:docE d=0)(h2:hasN d.nodes s.nd=true)(h3:hasT (d.nodes.getD (lobN d.nodes s.nd) default).kind=true)
 (h4:(s.fr<0\/s.tq<s.fr)\/((plcL (d.nodes.getD (lobN d.nodes s.nd) default).flow 0 (d.nodes.getD (lobN d.nodes s.nd) default).flow.length).length:Int)<=s.tq):atP d s au=z6c/\atE d s au=2:=
 at_e (by unfold atE;rw[if_neg (fun q=>q h),if_neg (by rw[h2];decide),if_neg (by unfold ndN;rw[h3];decide),if_pos (by unfold shwN ndN;omega)]) (by decide)
theorem at_5{d:Doc}{s:Sel}{au:ByteArray}(h:docE d=0)(h2:hasN d.nodes s.nd=true)(h3:hasT (d.nodes.getD (lobN d.nodes s.nd) default).kind=true)
 (h4:(0<=s.fr/\s.fr<=s.tq)/\s.tq< ((plcL (d.nodes.getD (lobN d.nodes s.nd) default).flow 0 (d.nodes.getD (lobN d.nodes s.nd) default).flow.length).length:Int)) (h5:seq au {data:=#[]}=false/\valGo au=false):atP d s au=z6c/\atE d s au=23:=
 at_e (by unfold atE;rw[if_neg (fun q=>q h),if_neg (by rw[h2];decide),if_neg (by unfold ndN;rw[h3];decide),if_neg (by unfold shwN ndN;omega),if_pos h5]) (by decide)
theorem at_6{d:Doc}{s:Sel}{au:ByteArray}(h:docE d=0)(h2:hasN d.nodes s.nd=true)(h3:hasT (d.nodes.getD (lobN d.nodes s.nd) default).kind=true)
 (h4:(0<=s.fr/\s.fr<=s.tq)/\s.tq< ((plcL (d.nodes.getD (lobN d.nodes s.nd) default).flow 0 (d.nodes.getD (lobN d.nodes s.nd) default).flow.length).length:Int)) (h5:seq au {data:=#[]}=true\/valGo au=true):atP d s au=⟨ndN d.nodes s.nd,shwN (ndN d.nodes s.nd),au⟩/\atE d s au=0:=by
 have e:atE d s au=0:=by
  unfold atE;rw[if_neg (fun q=>q h),if_neg (by rw[h2];decide),if_neg (by unfold ndN;rw[h3];decide),if_neg (by unfold shwN ndN;omega),if_neg]
  rintro⟨a,b⟩;rcases h5 with q|q
  ·rw[a] at q;cases q
  ·rw[b] at q;cases q
 unfold atP;rw[e,if_neg (fun q=>q rfl)];exact⟨rfl,rfl⟩
def elemP(p:Pl)(k:Int):Elem:=if k<0\/(p.shown.length:Int)<=k then⟨10,0,[]⟩ else p.node.flow.getD (p.shown.getD k.toNat default).toNat default
structure PlB(p:Pl):Prop where
 len:p.node.flow.length<=1048576
 ok:∀x∈p.shown,0<=x/\x< (p.node.flow.length:Int)
 sl:p.shown.length<=1048576
 at1:∀x∈p.node.flow,x.attrs.length<=1048576
theorem z6d{p:Pl}(h:PlB p)(k:Int):(elemP p k).attrs.length<=1048576:=by
 unfold elemP;split
 ·simp
 ·rename_i q
  have hx:=h.ok _ (z0h (l:=p.shown) (i:=k.toNat) (by omega))
  exact h.at1 _ (z0h (by omega))
def sprL:List ByteArray:=[{data:=#[98,111,108,100]},{data:=#[105,116,97,108,105,99]},{data:=#[117,110,100,101,114]},{data:=#[115,116,114,105,107,101]},{data:=#[102,105,120,101,100]},{data:=#[114,97,105,115,101]},{data:=#[115,105,122,101]},{data:=#[99,111,108,111,117,114]},{data:=#[108,97,110,103]},{data:=#[115,116,121,108,101]}]
def sprB(n:ByteArray):Bool:=sprL.any fun y=>seq n y
def btwB(n:ByteArray):Bool:=
 (((seq n {data:=#[108,105,110,107]}||seq n {data:=#[108,111,99,107]})|| (decide ((n.size:Int)> 7)&&seq (n.extract 0 7) {data:=#[114,101,109,97,114,107,46]}))|| (decide ((n.size:Int)> 5)&&seq (n.extract 0 5) {data:=#[109,97,114,107,46]}))
def inhF(p:Pl)(k:Int):Elem:=if(elemP p (k- 1)).char=10 then elemP p k else elemP p (k- 1)
def inhG(r:Elem)(k:Int)(a:Attr):Bool:=(btwB a.name&&decide (k>0))&&seq (getA r.attrs a.name 0) a.val
def inhO(r:Elem)(k:Int)(o:List Attr)(l:List Attr):List Attr:=l.foldl (fun o a=>if inhG r k a=true then fm rawG o [a] else o) o
def inhB(p:Pl)(k:Int):List Attr:=if(inhF p k).char≠10 then(inhF p k).attrs.filter (fun a=>sprB a.name) else[]
def inhP(p:Pl)(k:Int):List Attr:=inhO (elemP p k) k (inhB p k) (elemP p (k- 1)).attrs
theorem z5j(p:Pl)(k:Int):inhB p k=if(elemP p (k- 1)).char=10 then(if(elemP p k).char≠10 then(elemP p k).attrs.filter (fun a=>sprB a.name) else[]) else(if(elemP p (k- 1)).char≠10 then(elemP p (k- 1)).attrs.filter (fun a=>sprB a.name) else[]):=by
 unfold inhB inhF
 by_cases h:(elemP p (k- 1)).char=10
 ·rw[if_pos h,if_pos h]
 ·rw[if_neg h,if_neg h]
theorem z3h{α:Type}[Inhabited α]{f:α->Bool}{l:List α}{i:Nat}(h:i<l.length)(h1:f (l.getD i default)=true):List.filter f [l[i]]=[l.getD i default]:=by
 have e:l.getD i default=l[i]:=by rw[qc,qa h];rfl
 rw[e] at h1|-;simp[h1]
theorem z3i{α:Type}[Inhabited α]{f:α->Bool}{l:List α}{i:Nat}(h:i<l.length)(h1:f (l.getD i default)=false):List.filter f [l[i]]=[]:=by
 have e:l.getD i default=l[i]:=by rw[qc,qa h];rfl
 rw[e] at h1;simp[h1]
theorem z0H{r:Elem}{k:Int}{o l:List Attr}{j:Nat}(h:j<l.length):inhO r k o (l.take (j+1))=if inhG r k (l.getD j default)=true then fm rawG (inhO r k o (l.take j)) [l.getD j default] else inhO r k o (l.take j):=by
 have e:l.getD j default=l[j]:=by rw[qc,qa h];rfl
 unfold inhO
 rw[qr h,List.foldl_append,e];rfl
theorem z41{r:Elem}{k:Int}{a:Attr}(h:(btwB a.name=true/\0<k)/\seq (getA r.attrs a.name 0) a.val=true):inhG r k a=true:=by
 unfold inhG;rw[h.1.1,h.2,decide_eq_true (show k>0 from h.1.2)];rfl
theorem z42{r:Elem}{k:Int}{a:Attr}(h:(btwB a.name=false\/k<=0)\/seq (getA r.attrs a.name 0) a.val=false):¬inhG r k a=true:=by
 unfold inhG;rw[qm,qm,decide_eq_true_eq]
 rintro⟨⟨a,b⟩,c⟩
 rcases h with(h|h)|h
 ·rw[a] at h;cases h
 ·omega
 ·rw[c] at h;cases h
theorem y4i{p:Pl}{k:Int}(h:(p.shown.length:Int)<=k):(elemP p k).char=10:=by unfold elemP;rw[if_pos (.inr h)]
def endK(p:Pl)(k:Nat):Nat:=if h:k<p.shown.length/\(elemP p k).char≠10 then endK p (k+1) else k
termination_by p.shown.length-k
theorem y4j{p:Pl}{k:Nat}(h:(elemP p k).char≠10):k<p.shown.length/\endK p k=endK p (k+1):=by
 have hl:k<p.shown.length:=qd fun q=>h (y4i (by omega))
 refine⟨hl,?_⟩
 conv=>lhs;rw[endK]
 rw[dif_pos ⟨hl,h⟩]
theorem y4k{p:Pl}{k:Nat}(h:(elemP p k).char=10):endK p k=k:=by rw[endK,dif_neg (fun q=>q.2 h)]
def endL:List ByteArray:=[{data:=#[97,100,100]},{data:=#[99,117,116]},{data:=#[104,105,100,100,101,110]},{data:=#[108,111,99,107]},{data:=#[115,101,99,116,105,111,110]},{data:=#[98,114,101,97,107]},{data:=#[115,116,97,114,116]}]
def endG(a:Attr):Bool:=!(endL.any fun y=>seq a.name y)&& !(btwB a.name)
def endP(p:Pl)(k:Nat):List Attr:=(elemP p (endK p k)).attrs.filter endG
def opF(n:Int)(s:List DStep):EOp:=⟨2,n,⟨0,0,[],[],⟨0,0,[],[]⟩,[]⟩,[],s,⟨[],[],[],[],[]⟩,[]⟩
def ersP(p:Pl)(s:Sel):List DStep:=ersD p.node.flow ((p.shown.take s.tq.toNat).drop s.fr.toNat) p.author
def typP(p:Pl)(s:Sel)(es:List Elem):List DStep:=typD p.node.flow.length (gapP p.shown s.fr) es p.author
def stpP(p:Pl)(s:Sel)(es:List Elem):List DStep:=joinD (ersP p s) (z0X (typP p s es) (ersP p s))
def selP(s:Sel)(es:List Elem):Sel:=⟨s.nd,s.fr+es.length,s.fr+es.length⟩
structure StpB(p:Pl)(s:Sel)(es:List Elem):Prop where
 s1:0<=s.fr/\s.fr<=s.tq/\s.tq< (p.shown.length:Int)
 e1:es.length<=1048576
 e2:∀x∈es,x.attrs.length<=1048576
 v1:z0U (ersP p s)
 v2:z0U (typP p s es)
 v3:z0U (z0X (typP p s es) (ersP p s))
 d1:DN 100000000000 (ersP p s)
 d2:DN 100000000000 (typP p s es)
 d3:DN 100000000000 (z0X (typP p s es) (ersP p s))
 m1:oldD (typP p s es)=oldD (ersP p s)
 m2:newD (ersP p s)=oldD (z0X (typP p s es) (ersP p s))
 m3:newD (typP p s es)+newD (ersP p s)<=2147483647
theorem z9X{p:Pl}{s:Sel}(h:PlB p)(h2:0<=s.fr/\s.fr<=s.tq/\s.tq< (p.shown.length:Int)):0<=gapP p.shown s.fr/\gapP p.shown s.fr<=(p.node.flow.length:Int):=by
 unfold gapP;split
 ·omega
 ·have:=h.ok _ (z0h (l:=p.shown) (i:=(s.fr- 1).toNat) (by omega));omega
def mkE(l:List Attr)(c:Int):Elem:=⟨c,0,l⟩
def typX(p:Pl)(s:Sel)(x:Elem):Elem:=if x.char=10 then {x with attrs:=endP p s.tq.toNat} else x
def typEl(p:Pl)(s:Sel)(cs:List Int):List Elem:=(cs.map (mkE (inhP p s.fr))).map (typX p s)
def typeO(d:Doc)(s:Sel)(cs:List Int)(au:ByteArray):List EOp:=if atE d s au≠0 then[] else[opF s.nd (stpP (atP d s au) s (typEl (atP d s au) s cs))]
def typeS(d:Doc)(s:Sel)(cs:List Int)(au:ByteArray):Sel:=if atE d s au≠0 then⟨0,0,0⟩ else selP s (typEl (atP d s au) s cs)
structure TypB(d:Doc)(s:Sel)(cs:List Int)(au:ByteArray):Prop where
 p:PlB (atP d s au)
 c:chkA false (inhP (atP d s au) s.fr) 0=0
 l:(inhP (atP d s au) s.fr).length<=10000000
 r:0<=s.fr/\s.fr<=s.tq/\s.tq< ((atP d s au).shown.length:Int)
 s:StpB (atP d s au) s (typEl (atP d s au) s cs)
theorem y9f{d:Doc}{s:Sel}{cs:List Int}{au:ByteArray}(h:atE d s au≠0):typeO d s cs au=[]/\typeS d s cs au=⟨0,0,0⟩:=by
 unfold typeO typeS;rw[if_pos h,if_pos h];exact⟨rfl,rfl⟩
theorem y1r{d:Doc}{s:Sel}{cs:List Int}{au:ByteArray}(h:atE d s au=0):typeO d s cs au=[opF s.nd (stpP (atP d s au) s (typEl (atP d s au) s cs))]/\typeS d s cs au=selP s (typEl (atP d s au) s cs):=by
 unfold typeO typeS;rw[if_neg (fun q=>q h),if_neg (fun q=>q h)];exact⟨rfl,rfl⟩
theorem y9g{p:Pl}{s:Sel}{x:Elem}(h:x.char=10):typX p s x={char:=x.char,ref:=x.ref,attrs:=endP p s.tq.toNat}:=by unfold typX;rw[if_pos h]
theorem y9h{p:Pl}{s:Sel}{x:Elem}(h:x.char≠10):typX p s x=x:=by unfold typX;rw[if_neg h]
theorem y4l{α:Type}[Inhabited α]{g:α->α}{l:List α}{i:Nat}(h:i<l.length)(h2:g (l.getD i default)=l.getD i default):(l.take i).map g++l.drop i=(l.take (i+1)).map g++l.drop (i+1):=by
 have e:l.getD i default=l[i]:=by rw[qc,qa h];rfl
 rw[qr h,qX,qR,z3e h]
 rw[e] at h2|-
 simp[h2]
theorem y66{a:Attr}(h:endL.any (fun y=>seq a.name y)=false/\btwB a.name=false):endG a=true:=by unfold endG;rw[h.1,h.2];rfl
theorem y67{a:Attr}(h:endL.any (fun y=>seq a.name y)=true\/btwB a.name=true):endG a=false:=by
 unfold endG;rcases h with h|h<;>rw[h]
 ·rfl
 ·simp
theorem y6l{p:Pl}{k:Int}(h0:0<=k)(h:(elemP p k).char≠10):k< (p.shown.length:Int)/\endK p k.toNat=endK p (k+1).toNat:=by
 have e:((k.toNat:Nat):Int)=k:=zU h0
 have:=y4j (p:=p) (k:=k.toNat) (by rw[e];exact h)
 exact⟨by omega,by rw[this.2];congr 1;omega⟩
theorem y6m{p:Pl}{k:Int}(h0:0<=k)(h:(elemP p k).char=10):endK p k.toNat=k.toNat:=y4k (by rw[zU h0];exact h)
def fmtW(p:Pl)(s:Sel)(k:Int):Bool:=(decide (k>=s.fr)&&decide (k<s.tq))&&((elemP p k).char !=10)
def parW(p:Pl)(s:Sel)(m:Int)(k:Int):Bool:=(decide (k>=s.fr)&&decide (k<=m))&&((elemP p k).char==10)
def rstF(w:Int->Bool)(sh:List Int)(n m:Nat):List Bool:=(List.range m).foldl (fun b k=>b.set (Int.toNat (sh.getD k default)) (w (k:Int))) (List.replicate n false)
theorem z6e(w:Int->Bool)(sh:List Int)(n m:Nat):rstF w sh n (m+1)=(rstF w sh n m).set (Int.toNat (sh.getD m default)) (w (m:Int)):=by
 unfold rstF;rw[zG,List.foldl_append];rfl
theorem z7P(w:Int->Bool)(sh:List Int)(n:Nat):∀m,(rstF w sh n m).length=n
 |0=>by simp[rstF]
 |m+1=>by rw[z6e,zp,z7P w sh n m]
def rstU(c:List Attr)(f:List Bool)(i:Nat):DU:=if f.getD i default=true then .K c else .K []
def rstS(c:List Attr)(f:List Bool)(n:Nat):List DStep:=((List.range n).map (rstU c f)).map stepU
def rstD(c:List Attr)(f:List Bool)(n:Nat):List DStep:=tidyL (rstS c f n)
theorem z4c(c:List Attr)(f:List Bool)(i:Nat):rstS c f (i+1)=rstS c f i++[stepU (rstU c f i)]:=by
 unfold rstS;rw[zG,qX,qX];rfl
theorem y1s(c:List Attr)(f:List Bool)(i:Nat):(rstS c f i).length=i:=by simp[rstS]
theorem y68{c:List Attr}{f:List Bool}{i:Nat}(h:f.getD i default=true):stepU (rstU c f i)={kind:=0,n:=1,attrs:=c,elems:=[]}:=by unfold rstU;rw[if_pos h];rfl
theorem y69{c:List Attr}{f:List Bool}{i:Nat}(h:f.getD i default=false):stepU (rstU c f i)={kind:=0,n:=1,attrs:=[],elems:=[]}:=by unfold rstU;rw[if_neg (by rw[h];decide)];rfl
theorem y4m(c:List Attr)(f:List Bool)(n:Nat)(hc:c.length<=1048576):DN 100000000000 (rstS c f n)/\elS (rstS c f n)=0:=by
 have hx:∀s∈rstS c f n,s.elems=[]/\s.attrs.length<=1048576:=by
  intro s hs
  unfold rstS at hs
  obtain⟨u,hu,rfl⟩:=qC.1 hs
  obtain⟨i,hi,rfl⟩:=qC.1 hu
  unfold rstU
  split
  ·exact⟨rfl,hc⟩
  ·exact⟨rfl,by simp[stepU]⟩
 refine⟨fun s hs=> ?_,?_⟩
 ·obtain⟨h1,h2⟩:=hx s hs
  refine⟨by rw[h1];simp,by omega,?_⟩
  rw[h1];intro x hx;cases hx
 ·generalize rstS c f n=l at hx
  induction l with
  |nil=>rfl
  |cons s l ih=>
   rw[elS,(hx s List.mem_cons_self).1,ih (fun t ht=>hx t (qB _ ht))];rfl
def fmtE(d:Doc)(s:Sel)(c:List Attr):Int:=if atE d s {data:=#[]}≠0 then atE d s {data:=#[]} else chkA true c 0
def fmtL(p:Pl)(c:List Attr)(w:Int->Bool):List EOp:=[opF p.node.id (rstD c (rstF w p.shown p.node.flow.length p.shown.length) p.node.flow.length)]
def fmtO(d:Doc)(s:Sel)(c:List Attr):List EOp:=if fmtE d s c≠0 then[] else fmtL (atP d s {data:=#[]}) c (fmtW (atP d s {data:=#[]}) s)
def parO(d:Doc)(s:Sel)(c:List Attr):List EOp:=
 if fmtE d s c≠0 then[] else fmtL (atP d s {data:=#[]}) c (parW (atP d s {data:=#[]}) s ((endK (atP d s {data:=#[]}) (max s.fr (s.tq- 1)).toNat:Nat):Int))
theorem y4n{d:Doc}{s:Sel}{c:List Attr}(h:atE d s {data:=#[]}≠0):fmtE d s c=atE d s {data:=#[]}:=by unfold fmtE;rw[if_pos h]
theorem z83{d:Doc}{s:Sel}{c:List Attr}(h:atE d s {data:=#[]}=0):fmtE d s c=chkA true c 0:=by unfold fmtE;rw[if_neg (fun q=>q h)]
theorem fmt_1{d:Doc}{s:Sel}{c:List Attr}(h:atE d s {data:=#[]}≠0):fmtO d s c=[]/\fmtE d s c=atE d s {data:=#[]}:=by
 have e:=y4n (c:=c) h
 unfold fmtO;rw[e,if_pos h];exact⟨rfl,rfl⟩
theorem fmt_2{d:Doc}{s:Sel}{c:List Attr}(h:atE d s {data:=#[]}=0)(h2:chkA true c 0≠0):fmtO d s c=[]/\fmtE d s c=chkA true c 0:=by
 have e:=z83 (c:=c) h
 unfold fmtO;rw[e,if_pos h2];exact⟨rfl,rfl⟩
theorem fmt_3{d:Doc}{s:Sel}{c:List Attr}(h:atE d s {data:=#[]}=0)(h2:chkA true c 0=0):fmtO d s c=fmtL (atP d s {data:=#[]}) c (fmtW (atP d s {data:=#[]}) s)/\fmtE d s c=0:=by
 have e:=(z83 (c:=c) h).trans h2
 unfold fmtO;rw[e,if_neg (fun q=>q rfl)];exact⟨rfl,rfl⟩
theorem par_1{d:Doc}{s:Sel}{c:List Attr}(h:atE d s {data:=#[]}≠0):parO d s c=[]/\fmtE d s c=atE d s {data:=#[]}:=by
 have e:=y4n (c:=c) h
 unfold parO;rw[e,if_pos h];exact⟨rfl,rfl⟩
theorem par_2{d:Doc}{s:Sel}{c:List Attr}(h:atE d s {data:=#[]}=0)(h2:chkA true c 0≠0):parO d s c=[]/\fmtE d s c=chkA true c 0:=by
 have e:=z83 (c:=c) h
 unfold parO;rw[e,if_pos h2];exact⟨rfl,rfl⟩
theorem par_3{d:Doc}{s:Sel}{c:List Attr}{m:Int}(h:atE d s {data:=#[]}=0)(h2:chkA true c 0=0)(hm:((endK (atP d s {data:=#[]}) (max s.fr (s.tq- 1)).toNat:Nat):Int)=m):parO d s c=fmtL (atP d s {data:=#[]}) c (parW (atP d s {data:=#[]}) s m)/\fmtE d s c=0:=by
 have e:=(z83 (c:=c) h).trans h2
 unfold parO;rw[e,if_neg (fun q=>q rfl),hm];exact⟨rfl,rfl⟩
end Go.Ch
end
section
set_option maxRecDepth 100000
set_option maxHeartbeats 4000000
open Go Go.Proofs Go.Ab
namespace Go.Ch
theorem y1t(a b:List DStep)(va:z0U a)(vb:z0U b)(da:DN 100000000000 a)(db:DN 100000000000 b)(hm:oldD a=oldD b)(hs:newD a+newD b<=2147483647):FC Tryz.prog 70 [VL 4 z0d a,VL 4 z0d b] (app emp []) (.tup [VL 4 z0d (z0X a b),VL 4 z0d (z40 a b),VI 0]) (app emp []):=by
 refine .go Tryz.f70 ?_
 refine .len 0 (fun hl0=> ?_)
 refine .len 1 (fun hl1=> ?_)
 have ca:=z0Q.2 va
 have cb:=z0Q.2 vb
 have da4:=da.mono (n:=400000000000) (by decide)
 have db4:=db.mono (n:=400000000000) (by decide)
 obtain⟨_,_,st,v1,v2,_⟩:=z6S va vb da db hm hs
 have c1:=z0Q.2 v1
 have c2:=z0Q.2 v2
 refine .bp [.r [],.r [(1,X (Xc0 (z1H a (by assumption)) X0))],.r []] ((z0T a) !=0) (fun h2=> ?_) (fun h2=> ?_)
 ·
  exfalso
  omega
 ·
  refine .bp [.r [(1,X (Xc0 (z1H b (by assumption)) X0))],.r []] ((z0T b) !=0) (fun h5=> ?_) (fun h5=> ?_)
  ·
   exfalso
   omega
  ·
   refine .bp [.r [(1,X (Xc0 (z38 a (by assumption)) X0))],.r [(1,X (Xc0 (z38 b (by assumption)) X0))],.r []] ((oldD a) !=(oldD b)) (fun h9=> ?_) (fun h9=> ?_)
   ·
    exfalso
    omega
   ·
    refine .loop (α:=Int×Int×(List DStep)×(List Elem)×(List DStep)×(List Elem)×(List DStep)×Int×(List DStep)×Int) [.r [],.le (.nB 240 0 4),.le (.nB 240 1 3),.le (.nB 248 0 4),.le (.nB 248 1 3),.r []] 324 (fun(y1,y2,o1,x1,o2,x2,ps,pu,qs,qu)=>([(13,.ptr 240 0),(14,.ptr 248 0),(15,.ptr 276 0),(16,.ptr 300 0)],[(240,.box [.row 256 o1.length,.row 257 x1.length,VI y1]),(248,.box [.row 258 o2.length,.row 259 x2.length,VI y2]),(256,OR 4 z0d o1),(257,OR 3 elemT x1),(258,OR 4 z0d o2),(259,OR 3 elemT x2),(276,.box [VL 4 z0d ps,VI pu]),(300,.box [VL 4 z0d qs,VI qu])])) (fun(y1,y2,o1,x1,o2,x2,ps,pu,qs,qu)=>PD ⟨o1,x1,y1⟩ ⟨o2,x2,y2⟩ ps pu qs qu (z0b (exD a) (exD b)).1.length (z0b (exD a) (exD b)).2.length (foldD ⟨[],[],0⟩ (z0b (exD a) (exD b)).1) (foldD ⟨[],[],0⟩ (z0b (exD a) (exD b)).2)) (fun(y1,y2,o1,x1,o2,x2,ps,pu,qs,qu)=>jmD ps pu qs qu) (0,0,[],[],[],[],a,0,b,0) ?_ ?_
    ·
     exact st
    rintro⟨y1,y2,o1,x1,o2,x2,ps,pu,qs,qu⟩ I13 ih13
    try dsimp only at I13
    have kp:=z2M I13.gp
    have kq:=z2M I13.gq
    have bx:=I13.dx.bd
    have by2:=I13.dy.bd
    simp only at bx by2
    have fx:=I13.dx.fl.1
    have fy:=I13.dy.fl.1
    refine .bp [.r [(1,X (Xc4 [(0,276)] (z2f ps pu) X0)),(5,Xv 1 (!(decide ((kindD ps)>=0))) (Xc4 [(0,300)] (z2f qs qu) X0)),(6,Xv 1 (!(decide ((kindD ps)>=0))) X0),(7,X (Xk' (decide ((kindD ps)>=0))))]] (decide ((kindD ps)>=0)||decide ((kindD qs)>=0)) (fun h13=> ?_) (fun h13=> ?_)
    ·
     refine .bp [.r [(1,X (Xc4 [(0,276)] (z2f ps pu) X0))]] ((kindD ps)==1) (fun h14=> ?_) (fun h14=> ?_)
     ·
      have lp0:0<ps.length:=by omega
      have k1:(ps.getD 0 default).kind=1:=by omega
      clear kp kq h13 h14
      have sp:=z4Z I13.gp I13.dp lp0
      obtain⟨s,hs⟩:∃z,tkE ps pu (szD (ps.getD 0 default)- pu)=z:=⟨_,rfl⟩
      have hA:=PD.addP I13 lp0 k1 rfl
      have hAn:=an_up (y1l (u:=pu) (n:=szD (ps.getD 0 default)- pu) sp.2.2.2.2.2) (k:=400000000000) (by decide)
      rw[hs] at hA hAn
      have hAb:=hA.1.dx.bd
      simp only[qf] at hAb
      have hA2:=hA.2.2
      refine .back [.r [(2,X (Xc4 [(0,276)] (z2g ps pu (by omega) (by omega)) X0)),(3,X (Xc3 444 [(0,276)] (z1I ps pu (szD (ps.getD 0 default)- pu) s hs (by omega) (by omega)) X0))],.r [(2,X (Xc3 484 [(0,240),(1,256),(2,257)] (z2z o1 x1 y1 s.elems (by assumption) (by omega)) X0))],.r [(2,X (Xl elemT s.elems)),(3,X (Xc3 516 [(0,248),(1,258),(2,259)] (.nil 2 2 (z2L o2 x2 y2 (s.elems.length:Int) [] (by omega) (by first|omega|simp) (by omega) (by first|assumption|exact kbd (by assumption)))) X0))]] [(240,240),(248,248),(256,256),(257,257),(258,258),(516,259),(276,276),(300,300)] (ih13 (y1,0,o1,(x1++s.elems),(keepD (z0a ⟨o2,x2,y2⟩) (s.elems.length:Int) []),[],(tkL ps pu (szD (ps.getD 0 default)- pu)),(tkN ps pu (szD (ps.getD 0 default)- pu)),qs,qu) ?_ ?_)
      ·
       exact hA.1
      ·
       exact hA.2.1
     ·
      refine .bp [.r [(1,X (Xc4 [(0,300)] (z2f qs qu) X0))]] ((kindD qs)==1) (fun h18=> ?_) (fun h18=> ?_)
      ·
       have lq0:0<qs.length:=by omega
       have k2:(qs.getD 0 default).kind=1:=by omega
       have k1:0<ps.length->(ps.getD 0 default).kind≠1:=fun h=>by omega
       clear kp kq h13 h14 h18
       have sq:=z4Z I13.gq I13.dq lq0
       obtain⟨s,hs⟩:∃z,tkE qs qu (szD (qs.getD 0 default)- qu)=z:=⟨_,rfl⟩
       have hA:=PD.addQ I13 k1 lq0 k2 rfl
       have hAn:=an_up (y1l (u:=qu) (n:=szD (qs.getD 0 default)- qu) sq.2.2.2.2.2) (k:=400000000000) (by decide)
       rw[hs] at hA hAn
       have hAb:=hA.1.dy.bd
       simp only[qf] at hAb
       have hA2:=hA.2.2
       clear k1
       refine .back [.r [(2,X (Xc4 [(0,300)] (z2g qs qu (by omega) (by omega)) X0)),(3,X (Xc3 476 [(0,300)] (z1I qs qu (szD (qs.getD 0 default)- qu) s hs (by omega) (by omega)) X0))],.r [(2,X (Xl elemT s.elems)),(3,X (Xc3 524 [(0,240),(1,256),(2,257)] (.nil 2 2 (z2L o1 x1 y1 (s.elems.length:Int) [] (by omega) (by first|omega|simp) (by omega) (by first|assumption|exact kbd (by assumption)))) X0))],.r [(2,X (Xc3 548 [(0,248),(1,258),(2,259)] (z2z o2 x2 y2 s.elems (by assumption) (by omega)) X0))]] [(240,240),(248,248),(256,256),(524,257),(258,258),(259,259),(276,276),(300,300)] (ih13 (0,y2,(keepD (z0a ⟨o1,x1,y1⟩) (s.elems.length:Int) []),[],o2,(x2++s.elems),ps,pu,(tkL qs qu (szD (qs.getD 0 default)- qu)),(tkN qs qu (szD (qs.getD 0 default)- qu))) ?_ ?_)
       ·
        exact hA.1
       ·
        exact hA.2.1
      ·
       obtain⟨lp0,lq0⟩:=PD.two I13 (by omega) (fun h=>by omega) (fun h=>by omega)
       have k1:(ps.getD 0 default).kind≠1:=by omega
       have k3:(qs.getD 0 default).kind≠1:=by omega
       have sk:=fun _:Unit=>k02 I13.gp lp0 k1
       have tk:=fun _:Unit=>k02 I13.gq lq0 k3
       have hB1:=fun n=>PD.both (n:=n) I13 lp0 lq0 k1 k3
       have mk1:=szD_k I13.gp lp0 k1
       clear kp kq h13 h14 h18 k1 k3
       have sp:=z4Z I13.gp I13.dp lp0
       have sq:=z4Z I13.gq I13.dq lq0
       obtain⟨m,hmm⟩:∃z,min (szD (ps.getD 0 default)- pu) (szD (qs.getD 0 default)- qu)=z:=⟨_,rfl⟩
       have hB:=hB1 m hmm.symm
       have m1:1<=m/\m<=szD (ps.getD 0 default)- pu/\m<=szD (qs.getD 0 default)- qu/\m<=100000000000:=by omega
       have m2:pu+m<=szD (ps.getD 0 default)/\qu+m<=szD (qs.getD 0 default):=by omega
       obtain⟨s,hs⟩:∃z,tkE ps pu m=z:=⟨_,rfl⟩
       obtain⟨t,ht⟩:∃z,tkE qs qu m=z:=⟨_,rfl⟩
       have ek1:=z5h ps pu m
       have ek2:=z5h qs qu m
       have ea1:=z4b ps pu m
       have ea2:=z4b qs qu m
       rw[hs] at ek1 ea1
       rw[ht] at ek2 ea2
       have al:s.attrs.length<=100000000000/\t.attrs.length<=100000000000:=by rw[ea1,ea2];omega
       rw[<-ea1,<-ea2,<-ek1,<-ek2] at hB
       rw[<-ek1] at sk
       rw[<-ek2] at tk
       clear hB1
       refine .bp [.r [(1,X (Xc4 [(0,276)] (z2g ps pu (by omega) (by omega)) X0)),(3,X (Xc4 [(0,300)] (z2g qs qu (by omega) (by omega)) X0)),(4,X (Xmin (szD (ps.getD 0 default)- pu) (szD (qs.getD 0 default)- qu)))],.le (.eq 19 (VI (min (szD (ps.getD 0 default)- pu) (szD (qs.getD 0 default)- qu))) (VI m) (.of_eq (by rw[hmm]))),.r [(2,X (Xc3 516 [(0,276)] (z1I ps pu m s hs (by omega) (by omega)) X0)),(5,X (Xc3 540 [(0,300)] (z1I qs qu m t ht (by omega) (by omega)) X0))],.r [(5,Xv 1 (s.kind==0) X0),(6,Xv 1 (s.kind==0) X0),(7,X (Xk (s.kind==0)))]] ((s.kind==0)&&(t.kind==0)) (fun h24=> ?_) (fun h24=> ?_)
       ·
        have fl:=z1q wioG s.attrs t.attrs
        refine .back [.r [(5,X (Xc1 692 (y19 s.attrs t.attrs (by omega)) X0)),(6,X (Xc3 700 [(0,240),(1,256),(2,257)] (z2L o1 x1 y1 m (fm wioG s.attrs t.attrs) (by omega) (by first|omega|simp) (by omega) (by first|assumption|exact kbd (by assumption))) X0))],.r [(3,X (Xc3 732 [(0,248),(1,258),(2,259)] (z2L o2 x2 y2 m t.attrs (by omega) (by first|omega|simp) (by omega) (by first|assumption|exact kbd (by assumption))) X0))]] [(240,240),(248,248),(256,256),(700,257),(258,258),(732,259),(276,276),(300,300)] (ih13 (0,0,(keepD (z0a ⟨o1,x1,y1⟩) m (fm wioG s.attrs t.attrs)),[],(keepD (z0a ⟨o2,x2,y2⟩) m t.attrs),[],(tkL ps pu m),(tkN ps pu m),(tkL qs qu m),(tkN qs qu m)) ?_ ?_)
        ·
         exact hB.1.1 h24
        ·
         exact hB.2
       ·
        refine .bp [.r []] (s.kind==0) (fun h27=> ?_) (fun h27=> ?_)
        ·
         refine .back [.r [(3,X (Xn (y2+m)))]] [(240,240),(248,248),(256,256),(257,257),(258,258),(259,259),(276,276),(300,300)] (ih13 (y1,(y2+m),o1,x1,o2,x2,(tkL ps pu m),(tkN ps pu m),(tkL qs qu m),(tkN qs qu m)) ?_ ?_)
         ·
          exact hB.1.2.1 ⟨h27,(tk ()).resolve_left (h24.resolve_left (fun h=>h h27))⟩
         ·
          exact hB.2
        ·
         refine .bp [.r []] (t.kind==0) (fun h29=> ?_) (fun h29=> ?_)
         ·
          refine .at 716 [(240,240),(248,248),(256,256),(257,257),(258,258),(259,259),(276,276),(300,300)] ([(13,.ptr 240 0),(14,.ptr 248 0),(15,.ptr 276 0),(16,.ptr 300 0),(19,VI m),(133,VB (t.kind==0))],[(240,.box [.row 256 o1.length,.row 257 x1.length,VI y1]),(248,.box [.row 258 o2.length,.row 259 x2.length,VI y2]),(256,OR 4 z0d o1),(257,OR 3 elemT x1),(258,OR 4 z0d o2),(259,OR 3 elemT x2),(276,.box [VL 4 z0d (tkL ps pu m),VI (tkN ps pu m)]),(300,.box [VL 4 z0d (tkL qs qu m),VI (tkN qs qu m)])]) ?_
          refine .back [.r [(3,X (Xn (y1+m)))]] [(240,240),(248,248),(256,256),(257,257),(258,258),(259,259),(276,276),(300,300)] (ih13 ((y1+m),y2,o1,x1,o2,x2,(tkL ps pu m),(tkN ps pu m),(tkL qs qu m),(tkN qs qu m)) ?_ ?_)
          ·
           exact hB.1.2.2.1 ⟨(sk ()).resolve_left h27,h29⟩
          ·
           exact hB.2
         ·
          refine .at 716 [(240,240),(248,248),(256,256),(257,257),(258,258),(259,259),(276,276),(300,300)] ([(13,.ptr 240 0),(14,.ptr 248 0),(15,.ptr 276 0),(16,.ptr 300 0),(19,VI m),(133,VB (t.kind==0))],[(240,.box [.row 256 o1.length,.row 257 x1.length,VI y1]),(248,.box [.row 258 o2.length,.row 259 x2.length,VI y2]),(256,OR 4 z0d o1),(257,OR 3 elemT x1),(258,OR 4 z0d o2),(259,OR 3 elemT x2),(276,.box [VL 4 z0d (tkL ps pu m),VI (tkN ps pu m)]),(300,.box [VL 4 z0d (tkL qs qu m),VI (tkN qs qu m)])]) ?_
          refine .back [] [(240,240),(248,248),(256,256),(257,257),(258,258),(259,259),(276,276),(300,300)] (ih13 (y1,y2,o1,x1,o2,x2,(tkL ps pu m),(tkN ps pu m),(tkL qs qu m),(tkN qs qu m)) ?_ ?_)
          ·
           exact hB.1.2.2.2 ⟨(sk ()).resolve_left h27,(tk ()).resolve_left h29⟩
          ·
           exact hB.2
    ·
     obtain⟨hG1,hG2⟩:=PD.done I13 (by omega) (by omega)
     have hfx:z0a ⟨o1,x1,y1⟩=z0X a b:=by rw[hG1];rfl
     have hfy:z0a ⟨o2,x2,y2⟩=z40 a b:=by rw[hG2];rfl
     have hcx:z0T (z0a ⟨o1,x1,y1⟩)=0:=by rw[hfx];exact c1
     have hcy:z0T (z0a ⟨o2,x2,y2⟩)=0:=by rw[hfy];exact c2
     have hdx:=I13.dx.fl.2
     have hdy:=I13.dy.fl.2
     refine .bp [.r [(0,X (Xc3 388 [(0,240),(1,256),(2,257)] (z5g o1 x1 y1 (by omega) (by assumption) (by assumption)) X0))],.r [(0,X (Xc3 436 [(0,248),(1,258),(2,259)] (z5g o2 x2 y2 (by omega) (by assumption) (by assumption)) X0))],.r [(4,Xv 1 (!false) X0),(5,X (Xk' false))]] (false||false) (fun h33=> ?_) (fun h33=> ?_)
     ·
      exfalso
      simp at h33
     ·
      have e1:((z0X a b):List DStep)=(z0a ⟨o1,x1,y1⟩):=by
       first|rw[hfx]|rw[hfy]
      have e2:((z40 a b):List DStep)=(z0a ⟨o2,x2,y2⟩):=by
       first|rw[hfx]|rw[hfy]
      exact .finE [.r [],.le (.fr 4 [(((z0a ⟨o1,x1,y1⟩).length):Nat)=(List.map z0d (z0a ⟨o1,x1,y1⟩)).length] ⟨lm,trivial⟩),.le (.fr 5 [(((z0a ⟨o2,x2,y2⟩).length):Nat)=(List.map z0d (z0a ⟨o2,x2,y2⟩)).length] ⟨lm,trivial⟩)] [] (fun((z0,z1):(List DStep)×(List DStep))=>(.tup [VL 4 z0d z0,VL 4 z0d z1,VI 0],[])) _ _ (pr e1 e2)
theorem z84(o:List DStep)(a:List Elem)(c:Int)(n:Int)(l:List Attr)(h0:n=0):FC Tryz.prog 111 [.ptr 0 0,VI n,VL 2 attrT l] (app emp [(0,.box [.row 1 o.length,.row 2 a.length,VI c]),(1,OR 4 z0d o),(2,OR 3 elemT a)]) (.tup []) (app emp [(0,.box [.row 1 o.length,.row 2 a.length,VI c]),(1,OR 4 z0d o),(2,OR 3 elemT a)]):=by
 refine .go Tryz.f111 ?_
 refine .len 2 (fun hl2=> ?_)
 refine .bp [.r []] (n==0) (fun h0=> ?_) (fun h0=> ?_)
 ·
  exact .fin [] [(0,0),(1,1),(2,2)]
 ·
  exfalso
  omega
theorem y4o(o:List DStep)(a:List Elem)(c:Int)(ho:o.length<=100000000000)(hc:¬z0T (z0a ⟨o,a,c⟩)=0)(hd:DN 400000000000 (z0a ⟨o,a,c⟩)):FC Tryz.prog 113 [.ptr 0 0] (app emp [(0,.box [.row 1 o.length,.row 2 a.length,VI c]),(1,OR 4 z0d o),(2,OR 3 elemT a)]) (.tup [VL 4 z0d [],VI 3]) (app emp [(0,.box [.row 1 ((z0a ⟨o,a,c⟩).length),.row 3 0,VI 0]),(1,OR 4 z0d (z0a ⟨o,a,c⟩)),(2,OF 3 elemT a),(3,OR 3 elemT [])]):=by
 refine .go Tryz.f113 ?_
 refine .bp [.r [],.r [(1,X (Xc3 27 [(0,0),(1,1),(2,2)] (z56 o a c (by omega)) X0))],.r [(4,X (Xc0 (z1H (z0a ⟨o,a,c⟩) (by assumption)) (rowC z0d (z0a ⟨o,a,c⟩) X0)))]] ((z0T (z0a ⟨o,a,c⟩)) !=0) (fun h2=> ?_) (fun h2=> ?_)
 ·
  exact .fin [.r [],.le (.nL 2 4)] [(0,0),(1,1),(2,2),(27,3)]
 ·
  exfalso
  omega
theorem z5k(d:List DStep)(hd:DN 100000000000 d)(hl:d.length<=100000000)(he:elS d<=10000000000):FC Tryz.prog 83 [VL 4 z0d d] (app emp []) (.tup [VL 4 z0d (tidyL d),VI (tidyE d)]) (app emp []):=by
 refine .go Tryz.f83 ?_
 refine .len 0 (fun hl0=> ?_)
 have hd4:=hd.mono (n:=400000000000) (by decide)
 refine .loop (α:=Nat×Int×(List DStep)×(List Elem)) [.r [],.r [],.le (.nB 16 0 4),.le (.nB 16 1 3),.r [(1,X (Xl z0d d))]] 50 (fun(i,y,o,x)=>([(4,.ptr 16 0),(8,VL 4 z0d d),(9,VI (d.length:Int)),(10,VI (i:Int))],[(16,.box [.row 24 o.length,.row 25 x.length,VI y]),(24,OR 4 z0d o),(25,OR 3 elemT x)])) (fun(i,y,o,x)=>i<=d.length/\tidyG ⟨[],[],0⟩ d=tidyG ⟨o,x,y⟩ (d.drop i)/\TB d i ⟨o,x,y⟩) (fun(i,y,o,x)=>d.length-i) (0,0,[],[]) ?_ ?_
 ·
  exact⟨by omega,rfl,TB.start d⟩
 rintro⟨i,y,o,x⟩ I3 ih3
 try dsimp only at I3
 have b1:=I3.2.2.out
 have b2:=I3.2.2.add
 have b3:=I3.2.2.cut
 simp only at b1 b2 b3
 refine .bp [.r []] (decide ((i:Int)< (d.length:Int))) (fun h3=> ?_) (fun h3=> ?_)
 ·
  obtain⟨e1,e2⟩:=y1n (d:=d) (i:=i) (by omega)
  have hT:=y6g (d:=d) (i:=i) (by omega) ⟨o,x,y⟩
  obtain⟨d1,d2,d3⟩:=hd4 _ (z0z (l:=d) (k:=i) (by omega))
  obtain⟨f1,f2⟩:=I3.2.2.flush (by omega) (by omega) (by omega)
  refine .bp [.r [(0,X (Xi z0d d (i:Int)))],.r [(1,X (Xc0 (y30 ((d.getD i default))) X0))],.r [(5,Xv 1 ((((d.getD i default)).kind)==1) X0),(6,Xv 1 ((((d.getD i default)).kind)==1) (Xl elemT (((d.getD i default)).elems))),(7,Xv 1 ((((d.getD i default)).kind)==1) X0),(8,X (Xk ((((d.getD i default)).kind)==1))),(11,Xv 1 (((((d.getD i default)).kind)==1)&&(((((d.getD i default)).elems).length:Int)==0)) X0),(12,X (Xk (((((d.getD i default)).kind)==1)&&(((((d.getD i default)).elems).length:Int)==0)))),(15,Xv 1 (!((((((d.getD i default)).kind)==1)&&(((((d.getD i default)).elems).length:Int)==0))&&((stepD ((d.getD i default)))==11))) X0),(16,Xv 1 (!((((((d.getD i default)).kind)==1)&&(((((d.getD i default)).elems).length:Int)==0))&&((stepD ((d.getD i default)))==11))) X0),(17,Xv 1 (!((((((d.getD i default)).kind)==1)&&(((((d.getD i default)).elems).length:Int)==0))&&((stepD ((d.getD i default)))==11))) X0),(19,Xv 1 ((!((((((d.getD i default)).kind)==1)&&(((((d.getD i default)).elems).length:Int)==0))&&((stepD ((d.getD i default)))==11)))&&((((d.getD i default)).kind) !=1)) X0),(20,Xv 1 ((!((((((d.getD i default)).kind)==1)&&(((((d.getD i default)).elems).length:Int)==0))&&((stepD ((d.getD i default)))==11)))&&((((d.getD i default)).kind) !=1)) X0),(21,Xka (!((((((d.getD i default)).kind)==1)&&(((((d.getD i default)).elems).length:Int)==0))&&((stepD ((d.getD i default)))==11))) ((((d.getD i default)).kind) !=1)),(22,Xv 1 (!((((((d.getD i default)).kind)==1)&&(((((d.getD i default)).elems).length:Int)==0))&&((stepD ((d.getD i default)))==11))) X0),(24,Xv 1 ((!((((((d.getD i default)).kind)==1)&&(((((d.getD i default)).elems).length:Int)==0))&&((stepD ((d.getD i default)))==11)))&&(((((d.getD i default)).kind) !=1)&&((((d.getD i default)).n)==0))) X0),(25,Xka (!((((((d.getD i default)).kind)==1)&&(((((d.getD i default)).elems).length:Int)==0))&&((stepD ((d.getD i default)))==11))) (((((d.getD i default)).kind) !=1)&&((((d.getD i default)).n)==0))),(26,X (Xk' ((((((d.getD i default)).kind)==1)&&(((((d.getD i default)).elems).length:Int)==0))&&((stepD ((d.getD i default)))==11))))]] (((((((d.getD i default)).kind)==1)&&(((((d.getD i default)).elems).length:Int)==0))&&((stepD ((d.getD i default)))==11))|| ((((((d.getD i default)).kind) !=1)&&((((d.getD i default)).n)==0))&&((stepD ((d.getD i default)))==2))) (fun h6=> ?_) (fun h6=> ?_)
  ·
   have hL:lenE (d.getD i default)=(chkA true (((d.getD i default)).attrs) 0):=by unfold lenE;first|rw[if_pos (by omega)]|rw[if_neg (by omega)]
   refine .bp [.r [(2,X (Xc0 (z01 (((d.getD i default)).attrs)) X0))],.r []] ((chkA true (((d.getD i default)).attrs) 0) !=0) (fun h8=> ?_) (fun h8=> ?_)
   ·
    have e1:((tidyL d):List DStep)=[]:=by
     unfold tidyL
     rw[I3.2.1,hT,if_pos (by rw[hL];exact h8)]
    have e2:((tidyE d):Int)=(chkA true (((d.getD i default)).attrs) 0):=by
     unfold tidyE
     rw[I3.2.1,hT,if_pos (by rw[hL];exact h8)]
     exact hL
    exact .finE [.r [],.le (.nL 2 4)] [] (fun((z0,z1):(List DStep)×Int)=>(.tup [VL 4 z0d z0,VI z1],[])) _ _ (pr e1 e2)
   ·
    have hL0:lenE (d.getD i default)=0:=by rw[hL];omega
    rw[if_neg (by rw[hL0];decide)] at hT
    obtain⟨hk,hn1,hn2⟩:=z9W hL0
    have hN:=I3.2.2.next (by omega) hd hL0
    clear h6
    refine .bp [.r [],.r []] ((((d.getD i default)).kind)==0) (fun h14=> ?_) (fun h14=> ?_)
    ·
     by_cases hn0:(d.getD i default).n=0
     ·
      refine .back [.r [(4,X (Xc3 442 [(0,16),(1,24),(2,25)] (z84 o x y (((d.getD i default)).n) (((d.getD i default)).attrs) (by assumption)) X0))],.r [(0,X (Xn ((i:Int)+1)))]] [(16,16),(24,24),(25,25)] (ih3 ((i+1),y,o,x) ?_ ?_)
      ·
       have hW:tdW ⟨o,x,y⟩ (d.getD i default)=⟨o,x,y⟩:=by unfold tdW;rw[if_pos h14,if_pos hn0]
       have hb:¬tdBad ⟨o,x,y⟩ (d.getD i default):=fun h=>h.1 h14
       have hN2:=hN hb
       rw[if_neg hb] at hT
       rw[hW] at hT hN2
       exact⟨by omega,I3.2.1.trans hT,hN2⟩
      ·
       ((try dsimp only);omega)
     ·
      refine .back [.r [(4,X (Xc3 442 [(0,16),(1,24),(2,25)] (z2L o x y (((d.getD i default)).n) (((d.getD i default)).attrs) (by omega) (by first|omega|simp) (by omega) (by first|assumption|exact kbd (by assumption))) X0))],.r [(0,X (Xn ((i:Int)+1)))]] [(16,16),(24,24),(442,25)] (ih3 ((i+1),0,(keepD (z0a ⟨o,x,y⟩) (((d.getD i default)).n) (((d.getD i default)).attrs)),[]) ?_ ?_)
      ·
       have hW:tdW ⟨o,x,y⟩ (d.getD i default)=⟨keepD (z0a ⟨o,x,y⟩) (d.getD i default).n (d.getD i default).attrs,[],0⟩:=by unfold tdW;rw[if_pos h14,if_neg hn0]
       have hb:¬tdBad ⟨o,x,y⟩ (d.getD i default):=fun h=>h.1 h14
       have hN2:=hN hb
       rw[if_neg hb] at hT
       rw[hW] at hT hN2
       exact⟨by omega,I3.2.1.trans hT,hN2⟩
      ·
       ((try dsimp only);omega)
    ·
     refine .bp [.r []] ((((d.getD i default)).kind)==1) (fun h16=> ?_) (fun h16=> ?_)
     ·
      have hz:True:=trivial
      refine .back [.r [(2,X (Xc3 442 [(0,16),(1,24),(2,25)] (z2z o x y (((d.getD i default)).elems) (by assumption) (by omega)) X0))],.r [(0,X (Xn ((i:Int)+1)))]] [(16,16),(24,24),(25,25)] (ih3 ((i+1),y,o,(x++(((d.getD i default)).elems))) ?_ ?_)
      ·
       have hW:tdW ⟨o,x,y⟩ (d.getD i default)=⟨o,x++(d.getD i default).elems,y⟩:=by unfold tdW;rw[if_neg h14,if_pos h16]
       have hb:¬tdBad ⟨o,x,y⟩ (d.getD i default):=fun h=>h.2.1 h16
       have hN2:=hN hb
       rw[if_neg hb] at hT
       rw[hW] at hT hN2
       exact⟨by omega,I3.2.1.trans hT,hN2⟩
      ·
       ((try dsimp only);omega)
     ·
      refine .bp [.r [(4,X (Xn (y+(((d.getD i default)).n))))],.r []] (decide ((y+(((d.getD i default)).n))> 2147483647)) (fun h12=> ?_) (fun h12=> ?_)
      ·
       refine .at 506 [(16,16),(24,24),(25,25)] ([(4,.ptr 16 0),(8,VL 4 z0d d),(9,VI (d.length:Int)),(10,VI (i:Int)),(59,VB (decide ((y+(((d.getD i default)).n))> 2147483647)))],[(16,.box [.row 24 o.length,.row 25 x.length,VI (y+(((d.getD i default)).n))]),(24,OR 4 z0d o),(25,OR 3 elemT x)]) ?_
       have e3:((tidyL d):List DStep)=[]:=by
        unfold tidyL
        rw[I3.2.1,hT,if_pos ⟨h14,h16,by simp only;omega⟩]
       have e4:((tidyE d):Int)=3:=by
        unfold tidyE
        rw[I3.2.1,hT,if_pos ⟨h14,h16,by simp only;omega⟩]
       exact .finE [.r [],.le (.nL 2 4)] [] (fun((z0,z1):(List DStep)×Int)=>(.tup [VL 4 z0d z0,VI z1],[])) _ _ (pr e3 e4)
      ·
       refine .at 506 [(16,16),(24,24),(25,25)] ([(4,.ptr 16 0),(8,VL 4 z0d d),(9,VI (d.length:Int)),(10,VI (i:Int)),(59,VB (decide ((y+(((d.getD i default)).n))> 2147483647)))],[(16,.box [.row 24 o.length,.row 25 x.length,VI (y+(((d.getD i default)).n))]),(24,OR 4 z0d o),(25,OR 3 elemT x)]) ?_
       refine .back [.r [(0,X (Xn ((i:Int)+1)))]] [(16,16),(24,24),(25,25)] (ih3 ((i+1),(y+(((d.getD i default)).n)),o,x) ?_ ?_)
       ·
        have hW:tdW ⟨o,x,y⟩ (d.getD i default)=⟨o,x,y+(d.getD i default).n⟩:=by unfold tdW;rw[if_neg h14,if_neg h16]
        have hb:¬tdBad ⟨o,x,y⟩ (d.getD i default):=fun h=>by have:=h.2.2;simp only at this;omega
        have hN2:=hN hb
        rw[if_neg hb] at hT
        rw[hW] at hT hN2
        exact⟨by omega,I3.2.1.trans hT,hN2⟩
       ·
        ((try dsimp only);omega)
  ·
   have hL:lenE (d.getD i default)=(stepD ((d.getD i default))):=by unfold lenE;first|rw[if_pos (by omega)]|rw[if_neg (by omega)]
   refine .bp [.r []] ((stepD ((d.getD i default))) !=0) (fun h8=> ?_) (fun h8=> ?_)
   ·
    have e5:((tidyL d):List DStep)=[]:=by
     unfold tidyL
     rw[I3.2.1,hT,if_pos (by rw[hL];exact h8)]
    have e6:((tidyE d):Int)=(stepD ((d.getD i default))):=by
     unfold tidyE
     rw[I3.2.1,hT,if_pos (by rw[hL];exact h8)]
     exact hL
    exact .finE [.r [],.le (.nL 2 4)] [] (fun((z0,z1):(List DStep)×Int)=>(.tup [VL 4 z0d z0,VI z1],[])) _ _ (pr e5 e6)
   ·
    have hL0:lenE (d.getD i default)=0:=by rw[hL];omega
    rw[if_neg (by rw[hL0];decide)] at hT
    obtain⟨hk,hn1,hn2⟩:=z9W hL0
    have hN:=I3.2.2.next (by omega) hd hL0
    clear h6
    refine .bp [.r [],.r []] ((((d.getD i default)).kind)==0) (fun h14=> ?_) (fun h14=> ?_)
    ·
     by_cases hn0:(d.getD i default).n=0
     ·
      refine .back [.r [(4,X (Xc3 410 [(0,16),(1,24),(2,25)] (z84 o x y (((d.getD i default)).n) (((d.getD i default)).attrs) (by assumption)) X0))],.r [(0,X (Xn ((i:Int)+1)))]] [(16,16),(24,24),(25,25)] (ih3 ((i+1),y,o,x) ?_ ?_)
      ·
       have hW:tdW ⟨o,x,y⟩ (d.getD i default)=⟨o,x,y⟩:=by unfold tdW;rw[if_pos h14,if_pos hn0]
       have hb:¬tdBad ⟨o,x,y⟩ (d.getD i default):=fun h=>h.1 h14
       have hN2:=hN hb
       rw[if_neg hb] at hT
       rw[hW] at hT hN2
       exact⟨by omega,I3.2.1.trans hT,hN2⟩
      ·
       ((try dsimp only);omega)
     ·
      refine .back [.r [(4,X (Xc3 410 [(0,16),(1,24),(2,25)] (z2L o x y (((d.getD i default)).n) (((d.getD i default)).attrs) (by omega) (by first|omega|simp) (by omega) (by first|assumption|exact kbd (by assumption))) X0))],.r [(0,X (Xn ((i:Int)+1)))]] [(16,16),(24,24),(410,25)] (ih3 ((i+1),0,(keepD (z0a ⟨o,x,y⟩) (((d.getD i default)).n) (((d.getD i default)).attrs)),[]) ?_ ?_)
      ·
       have hW:tdW ⟨o,x,y⟩ (d.getD i default)=⟨keepD (z0a ⟨o,x,y⟩) (d.getD i default).n (d.getD i default).attrs,[],0⟩:=by unfold tdW;rw[if_pos h14,if_neg hn0]
       have hb:¬tdBad ⟨o,x,y⟩ (d.getD i default):=fun h=>h.1 h14
       have hN2:=hN hb
       rw[if_neg hb] at hT
       rw[hW] at hT hN2
       exact⟨by omega,I3.2.1.trans hT,hN2⟩
      ·
       ((try dsimp only);omega)
    ·
     refine .bp [.r []] ((((d.getD i default)).kind)==1) (fun h16=> ?_) (fun h16=> ?_)
     ·
      have hz:True:=trivial
      refine .back [.r [(2,X (Xc3 410 [(0,16),(1,24),(2,25)] (z2z o x y (((d.getD i default)).elems) (by assumption) (by omega)) X0))],.r [(0,X (Xn ((i:Int)+1)))]] [(16,16),(24,24),(25,25)] (ih3 ((i+1),y,o,(x++(((d.getD i default)).elems))) ?_ ?_)
      ·
       have hW:tdW ⟨o,x,y⟩ (d.getD i default)=⟨o,x++(d.getD i default).elems,y⟩:=by unfold tdW;rw[if_neg h14,if_pos h16]
       have hb:¬tdBad ⟨o,x,y⟩ (d.getD i default):=fun h=>h.2.1 h16
       have hN2:=hN hb
       rw[if_neg hb] at hT
       rw[hW] at hT hN2
       exact⟨by omega,I3.2.1.trans hT,hN2⟩
      ·
       ((try dsimp only);omega)
     ·
      refine .bp [.r [(4,X (Xn (y+(((d.getD i default)).n))))],.r []] (decide ((y+(((d.getD i default)).n))> 2147483647)) (fun h12=> ?_) (fun h12=> ?_)
      ·
       refine .at 474 [(16,16),(24,24),(25,25)] ([(4,.ptr 16 0),(8,VL 4 z0d d),(9,VI (d.length:Int)),(10,VI (i:Int)),(59,VB (decide ((y+(((d.getD i default)).n))> 2147483647)))],[(16,.box [.row 24 o.length,.row 25 x.length,VI (y+(((d.getD i default)).n))]),(24,OR 4 z0d o),(25,OR 3 elemT x)]) ?_
       have e7:((tidyL d):List DStep)=[]:=by
        unfold tidyL
        rw[I3.2.1,hT,if_pos ⟨h14,h16,by simp only;omega⟩]
       have e8:((tidyE d):Int)=3:=by
        unfold tidyE
        rw[I3.2.1,hT,if_pos ⟨h14,h16,by simp only;omega⟩]
       exact .finE [.r [],.le (.nL 2 4)] [] (fun((z0,z1):(List DStep)×Int)=>(.tup [VL 4 z0d z0,VI z1],[])) _ _ (pr e7 e8)
      ·
       refine .at 474 [(16,16),(24,24),(25,25)] ([(4,.ptr 16 0),(8,VL 4 z0d d),(9,VI (d.length:Int)),(10,VI (i:Int)),(59,VB (decide ((y+(((d.getD i default)).n))> 2147483647)))],[(16,.box [.row 24 o.length,.row 25 x.length,VI (y+(((d.getD i default)).n))]),(24,OR 4 z0d o),(25,OR 3 elemT x)]) ?_
       refine .back [.r [(0,X (Xn ((i:Int)+1)))]] [(16,16),(24,24),(25,25)] (ih3 ((i+1),(y+(((d.getD i default)).n)),o,x) ?_ ?_)
       ·
        have hW:tdW ⟨o,x,y⟩ (d.getD i default)=⟨o,x,y+(d.getD i default).n⟩:=by unfold tdW;rw[if_neg h14,if_neg h16]
        have hb:¬tdBad ⟨o,x,y⟩ (d.getD i default):=fun h=>by have:=h.2.2;simp only at this;omega
        have hN2:=hN hb
        rw[if_neg hb] at hT
        rw[hW] at hT hN2
        exact⟨by omega,I3.2.1.trans hT,hN2⟩
       ·
        ((try dsimp only);omega)
 ·
  by_cases hck:z0T (z0a ⟨o,x,y⟩)=0
  ·
   have hTe:=z8Y (d:=d) (i:=i) (by omega) ⟨o,x,y⟩
   obtain⟨f1,f2⟩:=I3.2.2.flush (by omega) (by omega) (by rw[qn (by omega)];omega)
   have e9:((tidyL d):List DStep)=(z0a ⟨o,x,y⟩):=by
    unfold tidyL
    rw[I3.2.1,hTe,if_pos hck]
   have e10:((tidyE d):Int)=0:=by
    unfold tidyE
    rw[I3.2.1,hTe,if_pos hck]
   exact .finE [.r [(0,X (Xc3 58 [(0,16),(1,24),(2,25)] (z5g o x y (by omega) (by assumption) (by assumption)) X0))],.le (.fr 2 [(((z0a ⟨o,x,y⟩).length):Nat)=(List.map z0d (z0a ⟨o,x,y⟩)).length] ⟨lm,trivial⟩)] [] (fun((z0,z1):(List DStep)×Int)=>(.tup [VL 4 z0d z0,VI z1],[])) _ _ (pr e9 e10)
  ·
   have hTe:=z8Y (d:=d) (i:=i) (by omega) ⟨o,x,y⟩
   obtain⟨f1,f2⟩:=I3.2.2.flush (by omega) (by omega) (by rw[qn (by omega)];omega)
   have e11:((tidyL d):List DStep)=[]:=by
    unfold tidyL
    rw[I3.2.1,hTe,if_neg hck]
   have e12:((tidyE d):Int)=3:=by
    unfold tidyE
    rw[I3.2.1,hTe,if_neg hck]
   exact .finE [.r [(0,X (Xc3 58 [(0,16),(1,24),(2,25)] (y4o o x y (by omega) (by assumption) (by assumption)) X0))]] [] (fun((z0,z1):(List DStep)×Int)=>(.tup [VL 4 z0d z0,VI z1],[])) _ _ (pr e11 e12)
theorem y4p(x:Elem)(mode:Int):FC Tryz.prog 88 [.t (elemT x),VI mode] (app emp []) (VB (hidX x mode)) (app emp []):=by
 refine .go Tryz.f88 ?_
 have e1:((hidX x mode):Bool)=((seq (getA x.attrs ({data:=#[104,105,100,100,101,110]}) 0) ({data:=#[111,110]})|| ((mode==0)&& !(seq (getA x.attrs ({data:=#[99,117,116]}) 0) ({data:=#[]}))))|| ((mode==1)&& !(seq (getA x.attrs ({data:=#[97,100,100]}) 0) ({data:=#[]})))):=by
  rfl
 exact .finE [.r [],.r [(2,X (Xc0 (z4U x.attrs ({data:=#[104,105,100,100,101,110]})) X0)),(6,Xv 1 (!(seq (getA x.attrs ({data:=#[104,105,100,100,101,110]}) 0) ({data:=#[111,110]}))) X0),(7,Xv 1 (!(seq (getA x.attrs ({data:=#[104,105,100,100,101,110]}) 0) ({data:=#[111,110]}))) X0),(9,Xv 1 ((!(seq (getA x.attrs ({data:=#[104,105,100,100,101,110]}) 0) ({data:=#[111,110]})))&&(mode==0)) X0),(10,Xv 1 ((!(seq (getA x.attrs ({data:=#[104,105,100,100,101,110]}) 0) ({data:=#[111,110]})))&&(mode==0)) (Xc0 (z4U x.attrs ({data:=#[99,117,116]})) X0)),(11,Xv 1 ((!(seq (getA x.attrs ({data:=#[104,105,100,100,101,110]}) 0) ({data:=#[111,110]})))&&(mode==0)) X0),(12,Xka (!(seq (getA x.attrs ({data:=#[104,105,100,100,101,110]}) 0) ({data:=#[111,110]}))) (mode==0)),(13,X (Xk' (seq (getA x.attrs ({data:=#[104,105,100,100,101,110]}) 0) ({data:=#[111,110]})))),(16,Xv 1 (!(seq (getA x.attrs ({data:=#[104,105,100,100,101,110]}) 0) ({data:=#[111,110]})|| ((mode==0)&& !(seq (getA x.attrs ({data:=#[99,117,116]}) 0) ({data:=#[]}))))) X0),(17,Xv 1 (!(seq (getA x.attrs ({data:=#[104,105,100,100,101,110]}) 0) ({data:=#[111,110]})|| ((mode==0)&& !(seq (getA x.attrs ({data:=#[99,117,116]}) 0) ({data:=#[]}))))) X0),(19,Xv 1 ((!(seq (getA x.attrs ({data:=#[104,105,100,100,101,110]}) 0) ({data:=#[111,110]})|| ((mode==0)&& !(seq (getA x.attrs ({data:=#[99,117,116]}) 0) ({data:=#[]})))))&&(mode==1)) X0),(20,Xv 1 ((!(seq (getA x.attrs ({data:=#[104,105,100,100,101,110]}) 0) ({data:=#[111,110]})|| ((mode==0)&& !(seq (getA x.attrs ({data:=#[99,117,116]}) 0) ({data:=#[]})))))&&(mode==1)) (Xc0 (z4U x.attrs ({data:=#[97,100,100]})) X0)),(21,Xv 1 ((!(seq (getA x.attrs ({data:=#[104,105,100,100,101,110]}) 0) ({data:=#[111,110]})|| ((mode==0)&& !(seq (getA x.attrs ({data:=#[99,117,116]}) 0) ({data:=#[]})))))&&(mode==1)) X0),(22,Xka (!(seq (getA x.attrs ({data:=#[104,105,100,100,101,110]}) 0) ({data:=#[111,110]})|| ((mode==0)&& !(seq (getA x.attrs ({data:=#[99,117,116]}) 0) ({data:=#[]}))))) (mode==1)),(23,X (Xk' (seq (getA x.attrs ({data:=#[104,105,100,100,101,110]}) 0) ({data:=#[111,110]})|| ((mode==0)&& !(seq (getA x.attrs ({data:=#[99,117,116]}) 0) ({data:=#[]}))))))]] [] (fun z0:Bool=>(VB z0,[])) _ _ e1
theorem y4q(f:List Elem)(mode:Int)(hn:f.length<=100000000000):FC Tryz.prog 48 [VL 3 elemT f,VI mode] (app emp []) (VL 1 intT (plcL f mode f.length)) (app emp []):=by
 refine .go Tryz.f48 ?_
 refine .len 0 (fun hl0=> ?_)
 refine .loop (α:=Nat×(List Int)) [.r [],.r [],.r [(1,X (Xl elemT f))],.le (.nR 5 1)] 41 (fun(i,o)=>([(0,VL 3 elemT f),(1,VI mode),(5,.row 40 o.length),(8,VL 3 elemT f),(9,VI (f.length:Int)),(10,VI (i:Int))],[(40,OR 1 intT o)])) (fun(i,o)=>i<=f.length/\o=plcL f mode i) (fun(i,o)=>f.length-i) (0,[]) ?_ ?_
 ·
  exact⟨by omega,rfl⟩
 rintro⟨i,o⟩ I3 ih3
 try dsimp only at I3
 have ol:o.length<=i:=by rw[I3.2];exact y1p f mode i
 refine .bp [.r []] (decide ((i:Int)< (f.length:Int))) (fun h3=> ?_) (fun h3=> ?_)
 ·
  refine .bp [.r [(1,X (Xi elemT f (i:Int)))],.r [(2,X (Xc0 (y4p ((f.getD i default)) mode) X0)),(7,Xv 1 (!(!(hidX ((f.getD i default)) mode))) (Xl elemT f)),(8,Xv 1 (!(!(hidX ((f.getD i default)) mode))) (Xn ((f.length:Int)- 1))),(9,Xv 2 (!(!(hidX ((f.getD i default)) mode))) X0),(10,Xv 1 (!(!(hidX ((f.getD i default)) mode))) X0),(12,Xv 1 ((!(!(hidX ((f.getD i default)) mode)))&&((i:Int)==((f.length:Int)- 1))) X0),(13,Xv 1 ((!(!(hidX ((f.getD i default)) mode)))&&((i:Int)==((f.length:Int)- 1))) X0),(14,Xka (!(!(hidX ((f.getD i default)) mode))) ((i:Int)==((f.length:Int)- 1))),(15,X (Xk' (!(hidX ((f.getD i default)) mode))))]] (!(hidX ((f.getD i default)) mode)|| (((i:Int)==((f.length:Int)- 1))&&((((f.getD i default)).char)==10))) (fun h5=> ?_) (fun h5=> ?_)
  ·
   refine .back [.r [(3,X (rowC intT [(i:Int)] (Xap 1 intT 40 o [(i:Int)])))],.r [(0,X (Xn ((i:Int)+1)))]] [(40,40)] (ih3 ((i+1),(o++[(i:Int)])) ?_ ?_)
   ·
    refine⟨by omega,?_⟩
    rw[I3.2,z81]
    first|rw[if_pos (z6a h5)]|rw[if_neg (by rw[y65 h5];decide),qM]
   ·
    ((try dsimp only);omega)
  ·
   refine .back [.r [(0,X (Xn ((i:Int)+1)))]] [(40,40)] (ih3 ((i+1),o) ?_ ?_)
   ·
    refine⟨by omega,?_⟩
    rw[I3.2,z81]
    first|rw[if_pos (z6a h5)]|rw[if_neg (by rw[y65 h5];decide),qM]
   ·
    ((try dsimp only);omega)
 ·
  have e1:((plcL f mode f.length):List Int)=o:=by
   rw[I3.2,show i=f.length by omega]
  exact .finE [.r [],.le (.fr 4 [(o.length:Nat)=(List.map intT o).length] ⟨lm,trivial⟩)] [] (fun z0:List Int=>(VL 1 intT z0,[])) _ _ e1
theorem y4r(pl:List Int)(k:Int)(hk:0<=k/\k<=pl.length)(hp:∀x∈pl,0<=x/\x<=1000000000):FC Tryz.prog 45 [VL 1 intT pl,VI k] (app emp []) (VI (gapP pl k)) (app emp []):=by
 refine .go Tryz.f45 ?_
 refine .len 0 (fun hl0=> ?_)
 refine .bp [.r [],.r []] (k==0) (fun h1=> ?_) (fun h1=> ?_)
 ·
  have e1:((gapP pl k):Int)=0:=by
   unfold gapP;rw[if_pos (by omega)]
  exact .finE [.r []] [] (fun z0:Int=>(VI z0,[])) _ _ e1
 ·
  have hx:=hp _ (z0h (l:=pl) (i:=(k- 1).toNat) (by omega))
  have e2:((gapP pl k):Int)=((pl.getD (Int.toNat (k- 1)) default)+1):=by
   unfold gapP;rw[if_neg (by omega)]
  exact .finE [.r [(2,X (Xn (k- 1))),(3,X (Xi intT pl (k- 1))),(5,X (Xn ((pl.getD (Int.toNat (k- 1)) default)+1)))]] [] (fun z0:Int=>(VI z0,[])) _ _ e2
theorem z85(f:List Elem)(pl:List Int)(au:ByteArray)(hf:f.length<=10000000)(hp:∀x∈pl,0<=x/\x< (f.length:Int)):FC Tryz.prog 68 [VL 3 elemT f,VL 1 intT pl,VS au] (app emp []) (VL 4 z0d (ersD f pl au)) (app emp []):=by
 refine .go Tryz.f68 ?_
 refine .len 0 (fun hl0=> ?_)
 refine .len 1 (fun hl1=> ?_)
 obtain⟨dn,el⟩:=y73 f pl au f.length
 have sl:=y1q f pl au f.length
 refine .loop (α:=Nat×(List Bool)) [.r [],.r [(1,X (Xl elemT f)),(2,X (Xmk 1 boolT 24 (f.length:Int) (f.length:Int) false))],.r [(1,X (Xl intT pl))]] 64 (fun(k,m)=>([(0,VL 3 elemT f),(2,VS au),(7,.row 24 f.length),(19,VL 1 intT pl),(20,VI (pl.length:Int)),(21,VI (k:Int))],[(24,OR 1 boolT m)])) (fun(k,m)=>k<=pl.length/\m=markB (pl.take k) f.length) (fun(k,m)=>pl.length-k) (0,(List.replicate f.length false)) ?_ ?_
 ·
  exact⟨by omega,by rw[List.take_zero,y4g]⟩
 rintro⟨k,m⟩ I3 ih3
 try dsimp only at I3
 have ol:m.length=f.length:=by rw[I3.2,y4f]
 refine .bp [.r []] (decide ((k:Int)< (pl.length:Int))) (fun h3=> ?_) (fun h3=> ?_)
 ·
  have hpk:=hp _ (z0h (l:=pl) (i:=k) (by omega))
  refine .back [.r [(0,X (Xi intT pl (k:Int)))],.r [(2,X (Xpn f.length boolT m (pl.getD k default))),(3,X (Xsn f.length 1 boolT 24 m (Int.toNat (pl.getD k default)) true))],.r [(0,X (Xn ((k:Int)+1)))]] [(24,24)] (ih3 ((k+1),(m.set (Int.toNat (pl.getD k default)) true)) ?_ ?_)
  ·
   exact⟨by omega,by rw[I3.2];exact y2m (by omega) hpk⟩
  ·
   ((try dsimp only);omega)
 ·
  have hm:m=markB pl f.length:=by rw[I3.2,qn (by omega)]
  refine .loop (α:=Nat×(List DStep)) [.r [],.r [(1,X (Xl elemT f))],.le (.nR 10 4)] 105 (fun(i,o)=>([(2,VS au),(7,.row 24 f.length),(10,.row 104 o.length),(29,VL 3 elemT f),(30,VI (f.length:Int)),(31,VI (i:Int))],[(24,OR 1 boolT m),(104,OR 4 z0d o)])) (fun(i,o)=>i<=f.length/\o=ersS f pl au i) (fun(i,o)=>f.length-i) (0,[]) ?_ ?_
  ·
   exact⟨by omega,rfl⟩
  rintro⟨i,o⟩ I9 ih9
  try dsimp only at I9
  have ol2:o.length=i:=by rw[I9.2];exact y1q f pl au i
  refine .bp [.r []] (decide ((i:Int)< (f.length:Int))) (fun h9=> ?_) (fun h9=> ?_)
  ·
   have hmi:m.getD i default=pl.any (fun p=>p==(i:Int)):=by rw[hm];exact y6k (by omega)
   refine .bp [.r [(1,X (Xi elemT f (i:Int)))],.r [(0,X (Xf [(2,2),(3,3)]))],.r [(2,X (Xpn f.length boolT m (i:Int))),(3,X (Xen f.length boolT m i))]] (!(m.getD i default)) (fun h13=> ?_) (fun h13=> ?_)
   ·
    refine .back [.r [(3,X (rowC z0d [({kind:=0,n:=1,attrs:=[],elems:=[]}:DStep)] (Xap 4 z0d 104 o [({kind:=0,n:=1,attrs:=[],elems:=[]}:DStep)])))],.r [(0,X (Xn ((i:Int)+1)))]] [(24,24),(104,104)] (ih9 ((i+1),(o++[({kind:=0,n:=1,attrs:=[],elems:=[]}:DStep)])) ?_ ?_)
    ·
     refine⟨by omega,?_⟩
     rw[I9.2,z6b,ers_0 (hmi.symm.trans h13)]
    ·
     ((try dsimp only);omega)
   ·
    refine .bp [.r [(4,Xv 1 (!(seq au ({data:=#[]}))) X0),(5,Xv 1 (!(seq au ({data:=#[]}))) (Xc0 (z4U (((f.getD i default)).attrs) ({data:=#[97,100,100]})) X0)),(7,Xv 2 (!(seq au ({data:=#[]}))) X0),(8,X (Xk' (seq au ({data:=#[]}))))]] (seq au ({data:=#[]})||seq (getA (((f.getD i default)).attrs) ({data:=#[97,100,100]}) 0) au) (fun h14=> ?_) (fun h14=> ?_)
    ·
     refine .back [.r [],.r [(3,X (rowC z0d [({kind:=2,n:=1,attrs:=[],elems:=[]}:DStep)] (Xap 4 z0d 104 o [({kind:=2,n:=1,attrs:=[],elems:=[]}:DStep)])))],.r [(0,X (Xn ((i:Int)+1)))]] [(24,24),(104,104)] (ih9 ((i+1),(o++[({kind:=2,n:=1,attrs:=[],elems:=[]}:DStep)])) ?_ ?_)
     ·
      refine⟨by omega,?_⟩
      rw[I9.2,z6b,ers_c (hmi.symm.trans h13) h14]
     ·
      ((try dsimp only);omega)
    ·
     refine .back [.r [],.r [(2,X (rowC attrT [({name:={data:=#[99,117,116]},val:=au}:Attr)] X0)),(3,X (rowC z0d [({kind:=0,n:=1,attrs:=[({name:={data:=#[99,117,116]},val:=au}:Attr)],elems:=[]}:DStep)] (Xap 4 z0d 104 o [({kind:=0,n:=1,attrs:=[({name:={data:=#[99,117,116]},val:=au}:Attr)],elems:=[]}:DStep)])))],.r [(0,X (Xn ((i:Int)+1)))]] [(24,24),(104,104)] (ih9 ((i+1),(o++[({kind:=0,n:=1,attrs:=[({name:={data:=#[99,117,116]},val:=au}:Attr)],elems:=[]}:DStep)])) ?_ ?_)
     ·
      refine⟨by omega,?_⟩
      rw[I9.2,z6b,ers_k (hmi.symm.trans h13) h14]
     ·
      ((try dsimp only);omega)
  ·
   have ho:o=ersS f pl au f.length:=by rw[I9.2,show i=f.length by omega]
   rw[<-ho] at dn el sl
   have e1:((ersD f pl au):List DStep)=(tidyL o):=by
    rw[ho];rfl
   exact .finE [.r [(1,X (Xc1 121 (z5k o (by assumption) (by omega) (by omega)) (rowC z0d o X0)))],.r []] [] (fun z0:List DStep=>(VL 4 z0d z0,[])) _ _ e1
theorem y6n(l:List Elem)(hn:l.length<=1048576)(hs:∀x∈l,x.attrs.length<=1048576):FC Tryz.prog 55 [VL 3 elemT l] (app emp []) (.row 0 l.length) (app emp [(0,OR 3 elemT l)]):=by
 refine .go Tryz.f55 ?_
 refine .len 0 (fun hl0=> ?_)
 refine .loop (α:=Nat×(List Elem)) [.r [],.r [(1,X (Xl elemT l)),(2,X (Xmz 3 elemT 24 (l.length:Int) (l.length:Int) ({char:=0,ref:=0,attrs:=[]}:Elem) [TI 0,TI 0,TN] ⟨.inl rfl,⟨.inl rfl,⟨z3S (by decide),trivial⟩⟩⟩))],.r [(1,X (Xl elemT l))]] 64 (fun(i,o)=>([(3,.row 24 l.length),(9,VL 3 elemT l),(10,VI (l.length:Int)),(11,VI (i:Int))],[(24,OR 3 elemT o)])) (fun(i,o)=>i<=l.length/\o=l.take i++List.replicate (l.length-i) ({char:=0,ref:=0,attrs:=[]}:Elem)) (fun(i,o)=>l.length-i) (0,(List.replicate l.length ({char:=0,ref:=0,attrs:=[]}:Elem))) ?_ ?_
 ·
  exact⟨by omega,by simp⟩
 rintro⟨i,o⟩ I3 ih3
 try dsimp only at I3
 have ol:o.length=l.length:=by rw[I3.2];simp;omega
 refine .bp [.r []] (decide ((i:Int)< (l.length:Int))) (fun h3=> ?_) (fun h3=> ?_)
 ·
  have hx:=hs _ (z11 (l:=l) (k:=i) (by omega))
  refine .back [.r [(1,X (Xi elemT l (i:Int)))],.r [(8,X (Xan attrT 184 (((l.getD i default)).attrs))),(10,X (Xpn l.length elemT o (i:Int))),(11,X (rowC attrT (((l.getD i default)).attrs) (Xsn l.length 3 elemT 24 o i ((l.getD i default)) [(184,OF 2 attrT (((l.getD i default)).attrs))])))],.r [(0,X (Xn ((i:Int)+1)))]] [(24,24)] (ih3 ((i+1),(o.set i ((l.getD i default)))) ?_ ?_)
  ·
   refine⟨by omega,?_⟩
   rw[I3.2]
   exact z36 rfl (by omega) rfl
  ·
   ((try dsimp only);omega)
 ·
  have e1:(l:List Elem)=o:=by
   first|omega| (rw[I3.2,qn (by omega),show l.length-i=0 by omega];simp)
  exact .finE [.r []] [(24,0)] (fun z0:List Elem=>(.row 0 l.length,[(0,OR 3 elemT z0)])) _ _ e1
theorem y1u(f:List Elem)(k:Int)(es:List Elem)(au:ByteArray)(hf:f.length<=10000000)(hk:0<=k/\k<=f.length)(he:es.length<=1048576)(ha:∀x∈es,x.attrs.length<=1048576):FC Tryz.prog 69 [VL 3 elemT f,VI k,VL 3 elemT es,VS au] (app emp []) (VL 4 z0d (typD f.length k es au)) (app emp []):=by
 refine .go Tryz.f69 ?_
 refine .len 0 (fun hl0=> ?_)
 refine .len 2 (fun hl2=> ?_)
 obtain⟨dn,el⟩:=y74 f.length k es au he ha
 refine .loop (α:=Nat×(List Elem)) [.r [],.r [(1,X (Xc1 16 (y6n es (by assumption) (by assumption)) X0))],.r []] 56 (fun(i,o)=>([(0,VL 3 elemT f),(1,VI k),(3,VS au),(9,.row 16 ((es).length)),(16,VI ((es).length:Int)),(17,VI (i:Int))],[(16,OR 3 elemT o)])) (fun(i,o)=>i<=es.length/\o=(es.take i).map (typE au)++es.drop i) (fun(i,o)=>es.length-i) (0,es) ?_ ?_
 ·
  exact⟨by omega,by simp⟩
 rintro⟨i,o⟩ I3 ih3
 try dsimp only at I3
 have ol:o.length=es.length:=by rw[I3.2];simp;omega
 refine .bp [.r []] (decide ((i:Int)< ((es).length:Int))) (fun h3=> ?_) (fun h3=> ?_)
 ·
  have hxa:=ha _ (z0h (l:=es) (i:=i) (by omega))
  have hog:o.getD i default=es.getD i default:=by rw[I3.2];exact y4h (by omega)
  rw[<-hog] at hxa
  refine .back [.r [],.r [(4,X (Xpn ((es).length) elemT o (i:Int))),(6,X (Xen ((es).length) elemT o i)),(11,X (Xc1 168 (z5U (((o.getD i default)).attrs) [({name:={data:=#[97,100,100]},val:=au}:Attr),({name:={data:=#[99,117,116]},val:={data:=#[]}}:Attr)] (by simp only[qi,zd];omega)) (rowC attrT [({name:={data:=#[97,100,100]},val:=au}:Attr),({name:={data:=#[99,117,116]},val:={data:=#[]}}:Attr)] X0))),(12,X (Xpn ((es).length) elemT o (i:Int))),(14,X (Xsn ((es).length) 3 elemT 16 o i ({char:=((o.getD i default)).char,ref:=((o.getD i default)).ref,attrs:=(fm rawG (((o.getD i default)).attrs) [({name:={data:=#[97,100,100]},val:=au}:Attr),({name:={data:=#[99,117,116]},val:={data:=#[]}}:Attr)])}:Elem)))],.r [(0,X (Xn ((i:Int)+1)))]] [(16,16)] (ih3 ((i+1),(o.set i ({char:=((o.getD i default)).char,ref:=((o.getD i default)).ref,attrs:=(fm rawG (((o.getD i default)).attrs) [({name:={data:=#[97,100,100]},val:=au}:Attr),({name:={data:=#[99,117,116]},val:={data:=#[]}}:Attr)])}:Elem))) ?_ ?_)
  ·
   refine⟨by omega,?_⟩
   rw[hog,I3.2];exact z82 (by omega)
  ·
   ((try dsimp only);omega)
 ·
  have ho:o=es.map (typE au):=by rw[I3.2,qn (by omega),qP (by omega),qM]
  obtain⟨dn2,l2,e2⟩:=y9e ho dn el
  have e1:((typD f.length k es au):List DStep)=(tidyL [({kind:=0,n:=k,attrs:=[],elems:=[]}:DStep),({kind:=1,n:=0,attrs:=[],elems:=o}:DStep),({kind:=0,n:=((f.length:Int)- k),attrs:=[],elems:=[]}:DStep)]):=by
   rw[ho];rfl
  exact .finE [.r [(1,X (Xf [(2,2),(3,3)])),(3,X (Xf [(2,2)])),(5,X (Xl elemT f)),(7,X (Xn ((f.length:Int)- k))),(8,X (Xf [(2,2),(3,3)])),(9,X (rowX ((es).length) elemT o X0)),(10,X (Xc1 144 (z5k [({kind:=0,n:=k,attrs:=[],elems:=[]}:DStep),({kind:=1,n:=0,attrs:=[],elems:=o}:DStep),({kind:=0,n:=((f.length:Int)- k),attrs:=[],elems:=[]}:DStep)] dn2 l2 e2) (rowC z0d [({kind:=0,n:=k,attrs:=[],elems:=[]}:DStep),({kind:=1,n:=0,attrs:=[],elems:=o}:DStep),({kind:=0,n:=((f.length:Int)- k),attrs:=[],elems:=[]}:DStep)] X0)))],.r []] [] (fun z0:List DStep=>(VL 4 z0d z0,[])) _ _ e1
theorem fc_at(d:Doc)(s:Sel)(au:ByteArray)(hb:DocL d):FC Tryz.prog 29 [.t (docT d),.t (selT s),VS au] (app emp []) (.tup [.t (plT (atP d s au)),VI (atE d s au)]) (app emp []):=by
 refine .go Tryz.f29 ?_
 have hdb:=hb.toDocB
 have hl:=hb.len
 refine .bp [.r [],.r [(1,X (Xc0 (z3f d (by assumption)) X0))],.r []] ((docE d) !=0) (fun h2=> ?_) (fun h2=> ?_)
 ·
  have T:=at_1 (s:=s) (au:=au) h2
  have e1:((atP d s au):Pl)=({node:=({id:=0,kind:=0,attrs:=[],flow:=[],grid:=({rows:=0,cols:=0,cells:=[],merges:=[]}:Grid),draw:=[]}:Node),shown:=[],author:={data:=#[]}}:Pl):=by
   exact T.1
  have e2:((atE d s au):Int)=(docE d):=by
   exact T.2
  exact .finVE [.r [(0,X (Xf [(2,2),(3,3),(6,5),(7,4),(8,8),(9,1)]))]] [] [] (fun((z0,z1):Pl×Int)=>(.tup [.t (plT z0),VI z1],[])) _ _ (pr e1 e2)
 ·
  have hs:=z5f (d:=d) (by omega)
  refine .bp [.r [(3,X (Xc0 (z5i d s.nd (by assumption) (by assumption)) X0))],.r []] (decide ((ixN (d).nodes s.nd)< 0)) (fun h5=> ?_) (fun h5=> ?_)
  ·
   have T:=at_2 (au:=au) (by omega) (y09.1 h5)
   have e3:((atP d s au):Pl)=({node:=({id:=0,kind:=0,attrs:=[],flow:=[],grid:=({rows:=0,cols:=0,cells:=[],merges:=[]}:Grid),draw:=[]}:Node),shown:=[],author:={data:=#[]}}:Pl):=by
    exact T.1
   have e4:((atE d s au):Int)=7:=by
    exact T.2
   exact .finVE [.r [(0,X (Xf [(2,2),(3,3),(6,5),(7,4),(8,8),(9,1)]))]] [] [] (fun((z0,z1):Pl×Int)=>(.tup [.t (plT z0),VI z1],[])) _ _ (pr e3 e4)
  ·
   have hh:=y08.1 h5
   have hlt:=(z06.1 hh).1
   have hbn:=(hb.all _ (z2v hlt)).fl2
   refine .bp [.le (.eq 9 (VI (ixN (d).nodes s.nd)) (VI (lobN d.nodes s.nd:Int)) (.of_eq (by rw[z9S hh]))),.r [(3,X (Xi nodeT d.nodes (lobN d.nodes s.nd:Int))),(6,X (Xf [(9,1)]))],.r [(3,X (Xc0 (z5d (((d.nodes.getD (lobN d.nodes s.nd) default)).kind)) X0))]] (!(hasT (((d.nodes.getD (lobN d.nodes s.nd) default)).kind))) (fun h8=> ?_) (fun h8=> ?_)
   ·
    have T:=at_3 (au:=au) (by omega) hh h8
    have e5:((atP d s au):Pl)=({node:=({id:=0,kind:=0,attrs:=[],flow:=[],grid:=({rows:=0,cols:=0,cells:=[],merges:=[]}:Grid),draw:=[]}:Node),shown:=[],author:={data:=#[]}}:Pl):=by
     exact T.1
    have e6:((atE d s au):Int)=8:=by
     exact T.2
    exact .finVE [.r [(0,X (Xf [(2,2),(3,3),(6,5),(7,4),(8,8),(9,1)]))]] [] [] (fun((z0,z1):Pl×Int)=>(.tup [.t (plT z0),VI z1],[])) _ _ (pr e5 e6)
   ·
    refine .bp [.r [(3,X (Xc1 264 (y4q (((d.nodes.getD (lobN d.nodes s.nd) default)).flow) 0 (by omega)) X0))],.r [(5,Xv 1 (!(decide (s.fr<0))) X0),(7,Xv 1 (!(decide (s.fr<0))) X0),(8,Xv 2 (!(decide (s.fr<0))) X0),(9,X (Xk' (decide (s.fr<0)))),(12,Xv 1 (!(decide (s.fr<0)||decide (s.tq<s.fr))) X0),(14,Xv 1 (!(decide (s.fr<0)||decide (s.tq<s.fr))) X0),(15,Xv 1 (!(decide (s.fr<0)||decide (s.tq<s.fr))) (Xl intT (plcL (((d.nodes.getD (lobN d.nodes s.nd) default)).flow) 0 ((((d.nodes.getD (lobN d.nodes s.nd) default)).flow)).length))),(16,Xv 2 (!(decide (s.fr<0)||decide (s.tq<s.fr))) X0),(17,X (Xk' (decide (s.fr<0)||decide (s.tq<s.fr))))]] ((decide (s.fr<0)||decide (s.tq<s.fr))||decide (s.tq>=((plcL (((d.nodes.getD (lobN d.nodes s.nd) default)).flow) 0 ((((d.nodes.getD (lobN d.nodes s.nd) default)).flow)).length).length:Int))) (fun h11=> ?_) (fun h11=> ?_)
    ·
     have T:=at_4 (au:=au) (by omega) hh h8 h11
     have e7:((atP d s au):Pl)=({node:=({id:=0,kind:=0,attrs:=[],flow:=[],grid:=({rows:=0,cols:=0,cells:=[],merges:=[]}:Grid),draw:=[]}:Node),shown:=[],author:={data:=#[]}}:Pl):=by
      exact T.1
     have e8:((atE d s au):Int)=2:=by
      exact T.2
     exact .finVE [.r [(0,X (Xf [(2,2),(3,3),(6,5),(7,4),(8,8),(9,1)]))]] [] [] (fun((z0,z1):Pl×Int)=>(.tup [.t (plT z0),VI z1],[])) _ _ (pr e7 e8)
    ·
     refine .bp [.r [(4,Xv 1 (!(seq au ({data:=#[]}))) (Xc0 (z3c au) X0)),(5,Xv 1 (!(seq au ({data:=#[]}))) X0),(6,X (Xk (!(seq au ({data:=#[]})))))]] (!(seq au ({data:=#[]}))&& !(valGo au)) (fun h13=> ?_) (fun h13=> ?_)
     ·
      have T:=at_5 (by omega) hh h8 h11 h13
      have e9:((atP d s au):Pl)=({node:=({id:=0,kind:=0,attrs:=[],flow:=[],grid:=({rows:=0,cols:=0,cells:=[],merges:=[]}:Grid),draw:=[]}:Node),shown:=[],author:={data:=#[]}}:Pl):=by
       exact T.1
      have e10:((atE d s au):Int)=23:=by
       exact T.2
      exact .finVE [.r [(0,X (Xf [(2,2),(3,3),(6,5),(7,4),(8,8),(9,1)]))]] [] [] (fun((z0,z1):Pl×Int)=>(.tup [.t (plT z0),VI z1],[])) _ _ (pr e9 e10)
     ·
      have T:=at_6 (by omega) hh h8 h11 h13
      have e11:((atP d s au):Pl)=({node:=((d.nodes.getD (lobN d.nodes s.nd) default)),shown:=(plcL (((d.nodes.getD (lobN d.nodes s.nd) default)).flow) 0 ((((d.nodes.getD (lobN d.nodes s.nd) default)).flow)).length),author:=au}:Pl):=by
       exact T.1
      have e12:((atE d s au):Int)=0:=by
       exact T.2
      exact .finVE [.r []] [] [] (fun((z0,z1):Pl×Int)=>(.tup [.t (plT z0),VI z1],[])) _ _ (pr e11 e12)
theorem z2N(p:Pl)(k:Int)(hb:PlB p):FC Tryz.prog 43 [.ptr 0 0,VI k] (app emp [(0,.box [VI p.node.id,VI p.node.kind,VL 2 attrT p.node.attrs,VL 3 elemT p.node.flow,VI p.node.grid.rows,VI p.node.grid.cols,VL 5 cellT p.node.grid.cells,VL 4 rectT p.node.grid.merges,VL 8 dopT p.node.draw,VL 1 intT p.shown,VS p.author])]) (.t (elemT (elemP p k))) (app emp [(0,.box [VI p.node.id,VI p.node.kind,VL 2 attrT p.node.attrs,VL 3 elemT p.node.flow,VI p.node.grid.rows,VI p.node.grid.cols,VL 5 cellT p.node.grid.cells,VL 4 rectT p.node.grid.merges,VL 8 dopT p.node.draw,VL 1 intT p.shown,VS p.author])]):=by
 refine .go Tryz.f43 ?_
 refine .bp [.r [],.r [(5,Xv 1 (!(decide (k<0))) X0),(6,Xv 1 (!(decide (k<0))) X0),(7,Xv 1 (!(decide (k<0))) X0),(8,Xv 1 (!(decide (k<0))) (Xl intT p.shown)),(9,Xv 2 (!(decide (k<0))) X0),(10,X (Xk' (decide (k<0))))]] (decide (k<0)||decide (k>=(p.shown.length:Int))) (fun h1=> ?_) (fun h1=> ?_)
 ·
  have e1:((elemP p k):Elem)=({char:=10,ref:=0,attrs:=[]}:Elem):=by
   unfold elemP;rw[if_pos (by omega)]
  exact .finVE [.r [(0,X (Xf [(2,2)]))]] [] [(0,0)] (fun z0:Elem=>(.t (elemT z0),[(0,.box [VI p.node.id,VI p.node.kind,VL 2 attrT p.node.attrs,VL 3 elemT p.node.flow,VI p.node.grid.rows,VI p.node.grid.cols,VL 5 cellT p.node.grid.cells,VL 4 rectT p.node.grid.merges,VL 8 dopT p.node.draw,VL 1 intT p.shown,VS p.author])])) _ _ e1
 ·
  have hx:=hb.ok _ (z0h (l:=p.shown) (i:=k.toNat) (by omega))
  have e2:((elemP p k):Elem)=((p.node.flow.getD (Int.toNat (p.shown.getD (Int.toNat k) default)) default)):=by
   unfold elemP;rw[if_neg (by omega)]
  exact .finVE [.r [(10,X (Xi intT p.shown k)),(12,X (Xi elemT p.node.flow (p.shown.getD (Int.toNat k) default)))]] [] [(0,0)] (fun z0:Elem=>(.t (elemT z0),[(0,.box [VI p.node.id,VI p.node.kind,VL 2 attrT p.node.attrs,VL 3 elemT p.node.flow,VI p.node.grid.rows,VI p.node.grid.cols,VL 5 cellT p.node.grid.cells,VL 4 rectT p.node.grid.merges,VL 8 dopT p.node.draw,VL 1 intT p.shown,VS p.author])])) _ _ e2
theorem y75(l:List ByteArray)(x:ByteArray):FC Tryz.prog 105 [VL 1 strT l,VS x] (app emp []) (VI (idxF (fun y=>seq x y) l 0)) (app emp []):=by
 refine .go Tryz.f105 ?_
 refine .len 0 (fun hl0=> ?_)
 refine .loop (α:=Nat) [.r [],.r [(1,X (Xl strT l))]] 32 (fun i=>([(0,VL 1 strT l),(1,VS x),(7,VI (l.length:Int)),(8,VI (i:Int))],[])) (fun i=>i<=l.length/\idxF (fun y=>seq x y) l 0=idxF (fun y=>seq x y) l i) (fun i=>l.length-i) (0:Nat) ?_ ?_
 ·
  exact⟨by omega,rfl⟩
 rintro i I2 ih2
 try dsimp only at I2
 refine .bp [.r []] (decide ((i:Int)< (l.length:Int))) (fun h2=> ?_) (fun h2=> ?_)
 ·
  refine .bp [.r [],.r [(3,X (Xi strT l (i:Int)))]] (seq x (l.getD i default)) (fun h4=> ?_) (fun h4=> ?_)
  ·
   have e1:((idxF (fun y=>seq x y) l 0):Int)=(i:Int):=by
    rw[I2.2,idxF,if_pos (by omega),if_pos h4]
   exact .finE [.r []] [] (fun z0:Int=>(VI z0,[])) _ _ e1
  ·
   refine .back [.r [(0,X (Xn ((i:Int)+1)))]] [] (ih2 ((i+1):Nat) ?_ ?_)
   ·
    exact⟨by omega,by rw[I2.2,idxF,if_pos (by omega),if_neg (by rw[h4];decide)]⟩
   ·
    ((try dsimp only);omega)
 ·
  have e2:((idxF (fun y=>seq x y) l 0):Int)= -1:=by
   rw[I2.2,idxF,if_neg (by omega)]
  exact .finE [.r []] [] (fun z0:Int=>(VI z0,[])) _ _ e2
theorem y4s(l:List ByteArray)(x:ByteArray):FC Tryz.prog 67 [VL 1 strT l,VS x] (app emp []) (VB (l.any (fun y=>seq x y))) (app emp []):=by
 refine .go Tryz.f67 ?_
 refine .len 0 (fun hl0=> ?_)
 have e1:((l.any (fun y=>seq x y)):Bool)=decide ((idxF (fun y=>seq x y) l 0)>=0):=by
  rw[zh];simp only[decide_eq_true_eq,ge_iff_le];rw[y0T]
 exact .finE [.r [],.r [(2,X (Xc0 (y75 l x) X0))]] [] (fun z0:Bool=>(VB z0,[])) _ _ e1
theorem z6U(n:ByteArray):FC Tryz.prog 63 [VS n] (app emp []) (VB (sprB n)) (app emp []):=by
 refine .go Tryz.f63 ?_
 have e1:((sprB n):Bool)=(([{data:=#[98,111,108,100]},{data:=#[105,116,97,108,105,99]},{data:=#[117,110,100,101,114]},{data:=#[115,116,114,105,107,101]},{data:=#[102,105,120,101,100]},{data:=#[114,97,105,115,101]},{data:=#[115,105,122,101]},{data:=#[99,111,108,111,117,114]},{data:=#[108,97,110,103]},{data:=#[115,116,121,108,101]}]).any (fun y=>seq n y)):=by
  rfl
 exact .finE [.r [],.r [(2,X (Xc0 (y4s [{data:=#[98,111,108,100]},{data:=#[105,116,97,108,105,99]},{data:=#[117,110,100,101,114]},{data:=#[115,116,114,105,107,101]},{data:=#[102,105,120,101,100]},{data:=#[114,97,105,115,101]},{data:=#[115,105,122,101]},{data:=#[99,111,108,111,117,114]},{data:=#[108,97,110,103]},{data:=#[115,116,121,108,101]}] n) (rowC strT [{data:=#[98,111,108,100]},{data:=#[105,116,97,108,105,99]},{data:=#[117,110,100,101,114]},{data:=#[115,116,114,105,107,101]},{data:=#[102,105,120,101,100]},{data:=#[114,97,105,115,101]},{data:=#[115,105,122,101]},{data:=#[99,111,108,111,117,114]},{data:=#[108,97,110,103]},{data:=#[115,116,121,108,101]}] X0)))]] [] (fun z0:Bool=>(VB z0,[])) _ _ e1
theorem z2B(n:ByteArray):FC Tryz.prog 64 [VS n] (app emp []) (VB (btwB n)) (app emp []):=by
 refine .go Tryz.f64 ?_
 have e1:((btwB n):Bool)=(((seq n ({data:=#[108,105,110,107]})||seq n ({data:=#[108,111,99,107]}))|| (decide ((n.size:Int)> 7)&&seq (n.extract ((0:Int)).toNat ((7:Int)).toNat) ({data:=#[114,101,109,97,114,107,46]})))|| (decide ((n.size:Int)> 5)&&seq (n.extract ((0:Int)).toNat ((5:Int)).toNat) ({data:=#[109,97,114,107,46]}))):=by
  rfl
 exact .finE [.r [],.r [(4,Xv 1 (!(seq n ({data:=#[108,105,110,107]}))) X0),(5,X (Xk' (seq n ({data:=#[108,105,110,107]})))),(8,Xv 1 (!(seq n ({data:=#[108,105,110,107]})||seq n ({data:=#[108,111,99,107]}))) X0),(9,Xv 1 (!(seq n ({data:=#[108,105,110,107]})||seq n ({data:=#[108,111,99,107]}))) X0),(10,Xv 1 (!(seq n ({data:=#[108,105,110,107]})||seq n ({data:=#[108,111,99,107]}))) X0),(12,Xv 1 ((!(seq n ({data:=#[108,105,110,107]})||seq n ({data:=#[108,111,99,107]})))&&(decide ((n.size:Int)> 7))) (Xa (Xc ((0:Int)<=0)) (Xa (Xc ((0:Int)<=7)) (Xc ((7:Int)<=(n.size:Int)))))),(13,Xv 1 ((!(seq n ({data:=#[108,105,110,107]})||seq n ({data:=#[108,111,99,107]})))&&(decide ((n.size:Int)> 7))) X0),(14,Xka (!(seq n ({data:=#[108,105,110,107]})||seq n ({data:=#[108,111,99,107]}))) (decide ((n.size:Int)> 7))),(15,X (Xk' (seq n ({data:=#[108,105,110,107]})||seq n ({data:=#[108,111,99,107]})))),(18,Xv 1 (!((seq n ({data:=#[108,105,110,107]})||seq n ({data:=#[108,111,99,107]}))|| (decide ((n.size:Int)> 7)&&seq (n.extract ((0:Int)).toNat ((7:Int)).toNat) ({data:=#[114,101,109,97,114,107,46]})))) X0),(19,Xv 1 (!((seq n ({data:=#[108,105,110,107]})||seq n ({data:=#[108,111,99,107]}))|| (decide ((n.size:Int)> 7)&&seq (n.extract ((0:Int)).toNat ((7:Int)).toNat) ({data:=#[114,101,109,97,114,107,46]})))) X0),(20,Xv 1 (!((seq n ({data:=#[108,105,110,107]})||seq n ({data:=#[108,111,99,107]}))|| (decide ((n.size:Int)> 7)&&seq (n.extract ((0:Int)).toNat ((7:Int)).toNat) ({data:=#[114,101,109,97,114,107,46]})))) X0),(22,Xv 1 ((!((seq n ({data:=#[108,105,110,107]})||seq n ({data:=#[108,111,99,107]}))|| (decide ((n.size:Int)> 7)&&seq (n.extract ((0:Int)).toNat ((7:Int)).toNat) ({data:=#[114,101,109,97,114,107,46]}))))&&(decide ((n.size:Int)> 5))) (Xa (Xc ((0:Int)<=0)) (Xa (Xc ((0:Int)<=5)) (Xc ((5:Int)<=(n.size:Int)))))),(23,Xv 1 ((!((seq n ({data:=#[108,105,110,107]})||seq n ({data:=#[108,111,99,107]}))|| (decide ((n.size:Int)> 7)&&seq (n.extract ((0:Int)).toNat ((7:Int)).toNat) ({data:=#[114,101,109,97,114,107,46]}))))&&(decide ((n.size:Int)> 5))) X0),(24,Xka (!((seq n ({data:=#[108,105,110,107]})||seq n ({data:=#[108,111,99,107]}))|| (decide ((n.size:Int)> 7)&&seq (n.extract ((0:Int)).toNat ((7:Int)).toNat) ({data:=#[114,101,109,97,114,107,46]})))) (decide ((n.size:Int)> 5))),(25,X (Xk' ((seq n ({data:=#[108,105,110,107]})||seq n ({data:=#[108,111,99,107]}))|| (decide ((n.size:Int)> 7)&&seq (n.extract ((0:Int)).toNat ((7:Int)).toNat) ({data:=#[114,101,109,97,114,107,46]})))))]] [] (fun z0:Bool=>(VB z0,[])) _ _ e1
theorem y7a(p:Pl)(k:Int)(hb:PlB p)(hk:0<=k/\k<=1000000000):FC Tryz.prog 31 [.ptr 0 0,VI k] (app emp [(0,.box [VI p.node.id,VI p.node.kind,VL 2 attrT p.node.attrs,VL 3 elemT p.node.flow,VI p.node.grid.rows,VI p.node.grid.cols,VL 5 cellT p.node.grid.cells,VL 4 rectT p.node.grid.merges,VL 8 dopT p.node.draw,VL 1 intT p.shown,VS p.author])]) (VL 2 attrT (inhP p k)) (app emp [(0,.box [VI p.node.id,VI p.node.kind,VL 2 attrT p.node.attrs,VL 3 elemT p.node.flow,VI p.node.grid.rows,VI p.node.grid.cols,VL 5 cellT p.node.grid.cells,VL 4 rectT p.node.grid.merges,VL 8 dopT p.node.draw,VL 1 intT p.shown,VS p.author])]):=by
 refine .go Tryz.f31 ?_
 have b1:=z6d hb k
 have b2:=z6d hb (k- 1)
 refine .bp [.r [],.r [(2,X (Xn (k- 1))),(3,X (Xc4 [(0,0)] (z2N p (k- 1) (by assumption)) X0)),(6,X (Xc4 [(0,0)] (z2N p k (by assumption)) X0))],.r [],.r []] ((((elemP p (k- 1))).char)==10) (fun h3=> ?_) (fun h3=> ?_)
 ·
  refine .bp [.r [],.r [],.r []] ((((elemP p k)).char) !=10) (fun h6=> ?_) (fun h6=> ?_)
  ·
   refine .loop (α:=Nat×(List Attr)) [.r [(2,X (Xl attrT (((elemP p k)).attrs)))],.le (.nR 8 2)] 226 (fun(i,o)=>([(1,VI k),(5,.ptr 65 0),(6,.ptr 73 0),(8,.row 225 o.length),(29,VL 2 attrT (((elemP p k)).attrs)),(30,VI ((((elemP p k)).attrs).length:Int)),(31,VI (i:Int))],[(0,.box [VI p.node.id,VI p.node.kind,VL 2 attrT p.node.attrs,VL 3 elemT p.node.flow,VI p.node.grid.rows,VI p.node.grid.cols,VL 5 cellT p.node.grid.cells,VL 4 rectT p.node.grid.merges,VL 8 dopT p.node.draw,VL 1 intT p.shown,VS p.author]),(65,.box [VI (((elemP p (k- 1))).char),VI (((elemP p (k- 1))).ref),VL 2 attrT (((elemP p (k- 1))).attrs)]),(73,.box [VI (((elemP p k)).char),VI (((elemP p k)).ref),VL 2 attrT (((elemP p k)).attrs)]),(225,OR 2 attrT o)])) (fun(i,o)=>i<=((((elemP p k)).attrs)).length/\o=(((((elemP p k)).attrs)).take i).filter (fun a=>sprB a.name)) (fun(i,o)=>((((elemP p k)).attrs)).length-i) (0,[]) ?_ ?_
   ·
    exact⟨by omega,rfl⟩
   rintro⟨i,o⟩ I8 ih8
   try dsimp only at I8
   have ol:o.length<=i:=by rw[I8.2];exact qD (zF ..) (by rw[qO];omega)
   refine .bp [.r []] (decide ((i:Int)< ((((elemP p k)).attrs).length:Int))) (fun h8=> ?_) (fun h8=> ?_)
   ·
    refine .bp [.r [(0,X (Xi attrT (((elemP p k)).attrs) (i:Int)))],.r [(2,X (Xc0 (z6U ((((((elemP p k)).attrs).getD i default)).name)) X0))]] (sprB ((((((elemP p k)).attrs).getD i default)).name)) (fun h10=> ?_) (fun h10=> ?_)
    ·
     refine .back [.r [(3,X (rowC attrT [(((((elemP p k)).attrs).getD i default))] (Xap 2 attrT 225 o [(((((elemP p k)).attrs).getD i default))])))],.r [(0,X (Xn ((i:Int)+1)))]] [(0,0),(65,65),(73,73),(225,225)] (ih8 ((i+1),(o++[(((((elemP p k)).attrs).getD i default))])) ?_ ?_)
     ·
      refine⟨by omega,?_⟩
      rw[I8.2,qr (by omega),zf]
      first|rw[z3h (by omega) h10]|rw[z3i (by omega) h10,qM]
     ·
      ((try dsimp only);omega)
    ·
     refine .back [.r [(0,X (Xn ((i:Int)+1)))]] [(0,0),(65,65),(73,73),(225,225)] (ih8 ((i+1),o) ?_ ?_)
     ·
      refine⟨by omega,?_⟩
      rw[I8.2,qr (by omega),zf]
      first|rw[z3h (by omega) h10]|rw[z3i (by omega) h10,qM]
     ·
      ((try dsimp only);omega)
   ·
    have hB:=z5j p k
    simp only[h3,h6,if_true,if_false,ne_eq,not_true_eq_false,not_false_eq_true,ite_true,ite_false,reduceIte] at hB
    refine .loop (α:=(List Attr)×Nat) [.r [(2,X (Xl attrT (((elemP p (k- 1))).attrs)))],.le (.fr 8 [(o.length:Nat)=(List.map attrT o).length] ⟨lm,trivial⟩)] 266 (fun(q,j)=>([(1,VI k),(6,.ptr 73 0),(8,VL 2 attrT q),(44,VL 2 attrT (((elemP p (k- 1))).attrs)),(45,VI ((((elemP p (k- 1))).attrs).length:Int)),(46,VI (j:Int))],[(0,.box [VI p.node.id,VI p.node.kind,VL 2 attrT p.node.attrs,VL 3 elemT p.node.flow,VI p.node.grid.rows,VI p.node.grid.cols,VL 5 cellT p.node.grid.cells,VL 4 rectT p.node.grid.merges,VL 8 dopT p.node.draw,VL 1 intT p.shown,VS p.author]),(73,.box [VI (((elemP p k)).char),VI (((elemP p k)).ref),VL 2 attrT (((elemP p k)).attrs)])])) (fun(q,j)=>j<=(elemP p (k- 1)).attrs.length/\q=inhO (elemP p k) k (inhB p k) ((elemP p (k- 1)).attrs.take j)/\q.length<=1048576+j) (fun(q,j)=>(elemP p (k- 1)).attrs.length-j) (o,0) ?_ ?_
    ·
     first|exact absurd h6 h3|exact⟨by omega,by rw[hB];first| (rw[I8.2,qn (by omega)];rfl)|rfl,by first|omega|simp⟩
    rintro⟨q,j⟩ I14 ih14
    try dsimp only at I14
    refine .bp [.r []] (decide ((j:Int)< ((((elemP p (k- 1))).attrs).length:Int))) (fun h14=> ?_) (fun h14=> ?_)
    ·
     refine .bp [.r [(0,X (Xi attrT (((elemP p (k- 1))).attrs) (j:Int)))],.r [(2,X (Xc0 (z2B ((((((elemP p (k- 1))).attrs).getD j default)).name)) X0)),(5,Xv 1 (btwB ((((((elemP p (k- 1))).attrs).getD j default)).name)) X0),(6,X (Xk (btwB ((((((elemP p (k- 1))).attrs).getD j default)).name)))),(9,Xv 1 ((btwB ((((((elemP p (k- 1))).attrs).getD j default)).name))&&decide (k>0)) X0),(11,Xv 1 ((btwB ((((((elemP p (k- 1))).attrs).getD j default)).name))&&decide (k>0)) X0),(12,Xv 2 ((btwB ((((((elemP p (k- 1))).attrs).getD j default)).name))&&decide (k>0)) (Xc0 (z4U (((elemP p k)).attrs) ((((((elemP p (k- 1))).attrs).getD j default)).name)) X0)),(14,Xv 1 ((btwB ((((((elemP p (k- 1))).attrs).getD j default)).name))&&decide (k>0)) X0),(15,Xv 2 ((btwB ((((((elemP p (k- 1))).attrs).getD j default)).name))&&decide (k>0)) X0),(16,X (Xk ((btwB ((((((elemP p (k- 1))).attrs).getD j default)).name))&&decide (k>0))))]] (((btwB ((((((elemP p (k- 1))).attrs).getD j default)).name))&&decide (k>0))&&seq (getA (((elemP p k)).attrs) ((((((elemP p (k- 1))).attrs).getD j default)).name) 0) ((((((elemP p (k- 1))).attrs).getD j default)).val)) (fun h16=> ?_) (fun h16=> ?_)
     ·
      refine .back [.r [(3,X (Xc1 466 (z5U q [(((((elemP p (k- 1))).attrs).getD j default))] (by simp only[qi,zd];omega)) (rowC attrT [(((((elemP p (k- 1))).attrs).getD j default))] X0)))],.r [(0,X (Xn ((j:Int)+1)))]] [(0,0),(73,73)] (ih14 ((fm rawG q [(((((elemP p (k- 1))).attrs).getD j default))]),(j+1)) ?_ ?_)
      ·
       first
       |exact⟨by omega,by rw[z0H (by omega),if_pos (z41 h16),<-I14.2.1],qD (z1q ..) (by simp;omega)⟩
       |exact⟨by omega,by rw[z0H (by omega),if_neg (z42 h16)];exact I14.2.1,by omega⟩
      ·
       ((try dsimp only);omega)
     ·
      refine .back [.r [(0,X (Xn ((j:Int)+1)))]] [(0,0),(73,73)] (ih14 (q,(j+1)) ?_ ?_)
      ·
       first
       |exact⟨by omega,by rw[z0H (by omega),if_pos (z41 h16),<-I14.2.1],qD (z1q ..) (by simp;omega)⟩
       |exact⟨by omega,by rw[z0H (by omega),if_neg (z42 h16)];exact I14.2.1,by omega⟩
      ·
       ((try dsimp only);omega)
    ·
     have e1:((inhP p k):List Attr)=q:=by
      rw[I14.2.1,qn (by omega)];rfl
     exact .finE [.r []] [(0,0)] (fun z0:List Attr=>(VL 2 attrT z0,[(0,.box [VI p.node.id,VI p.node.kind,VL 2 attrT p.node.attrs,VL 3 elemT p.node.flow,VI p.node.grid.rows,VI p.node.grid.cols,VL 5 cellT p.node.grid.cells,VL 4 rectT p.node.grid.merges,VL 8 dopT p.node.draw,VL 1 intT p.shown,VS p.author])])) _ _ e1
  ·
   have hB:=z5j p k
   simp only[h3,h6,if_true,if_false,ne_eq,not_true_eq_false,not_false_eq_true,ite_true,ite_false,reduceIte] at hB
   refine .loop (α:=(List Attr)×Nat) [.r [(2,X (Xl attrT (((elemP p (k- 1))).attrs)))],.le (.nL 8 2)] 225 (fun(q,j)=>([(1,VI k),(6,.ptr 73 0),(8,VL 2 attrT q),(44,VL 2 attrT (((elemP p (k- 1))).attrs)),(45,VI ((((elemP p (k- 1))).attrs).length:Int)),(46,VI (j:Int))],[(0,.box [VI p.node.id,VI p.node.kind,VL 2 attrT p.node.attrs,VL 3 elemT p.node.flow,VI p.node.grid.rows,VI p.node.grid.cols,VL 5 cellT p.node.grid.cells,VL 4 rectT p.node.grid.merges,VL 8 dopT p.node.draw,VL 1 intT p.shown,VS p.author]),(73,.box [VI (((elemP p k)).char),VI (((elemP p k)).ref),VL 2 attrT (((elemP p k)).attrs)])])) (fun(q,j)=>j<=(elemP p (k- 1)).attrs.length/\q=inhO (elemP p k) k (inhB p k) ((elemP p (k- 1)).attrs.take j)/\q.length<=1048576+j) (fun(q,j)=>(elemP p (k- 1)).attrs.length-j) ([],0) ?_ ?_
   ·
    first|exact absurd h6 h3|exact⟨by omega,by rw[hB];first| (rw[I8.2,qn (by omega)];rfl)|rfl,by first|omega|simp⟩
   rintro⟨q,j⟩ I14 ih14
   try dsimp only at I14
   refine .bp [.r []] (decide ((j:Int)< ((((elemP p (k- 1))).attrs).length:Int))) (fun h14=> ?_) (fun h14=> ?_)
   ·
    refine .bp [.r [(0,X (Xi attrT (((elemP p (k- 1))).attrs) (j:Int)))],.r [(2,X (Xc0 (z2B ((((((elemP p (k- 1))).attrs).getD j default)).name)) X0)),(5,Xv 1 (btwB ((((((elemP p (k- 1))).attrs).getD j default)).name)) X0),(6,X (Xk (btwB ((((((elemP p (k- 1))).attrs).getD j default)).name)))),(9,Xv 1 ((btwB ((((((elemP p (k- 1))).attrs).getD j default)).name))&&decide (k>0)) X0),(11,Xv 1 ((btwB ((((((elemP p (k- 1))).attrs).getD j default)).name))&&decide (k>0)) X0),(12,Xv 2 ((btwB ((((((elemP p (k- 1))).attrs).getD j default)).name))&&decide (k>0)) (Xc0 (z4U (((elemP p k)).attrs) ((((((elemP p (k- 1))).attrs).getD j default)).name)) X0)),(14,Xv 1 ((btwB ((((((elemP p (k- 1))).attrs).getD j default)).name))&&decide (k>0)) X0),(15,Xv 2 ((btwB ((((((elemP p (k- 1))).attrs).getD j default)).name))&&decide (k>0)) X0),(16,X (Xk ((btwB ((((((elemP p (k- 1))).attrs).getD j default)).name))&&decide (k>0))))]] (((btwB ((((((elemP p (k- 1))).attrs).getD j default)).name))&&decide (k>0))&&seq (getA (((elemP p k)).attrs) ((((((elemP p (k- 1))).attrs).getD j default)).name) 0) ((((((elemP p (k- 1))).attrs).getD j default)).val)) (fun h16=> ?_) (fun h16=> ?_)
    ·
     refine .back [.r [(3,X (Xc1 425 (z5U q [(((((elemP p (k- 1))).attrs).getD j default))] (by simp only[qi,zd];omega)) (rowC attrT [(((((elemP p (k- 1))).attrs).getD j default))] X0)))],.r [(0,X (Xn ((j:Int)+1)))]] [(0,0),(73,73)] (ih14 ((fm rawG q [(((((elemP p (k- 1))).attrs).getD j default))]),(j+1)) ?_ ?_)
     ·
      first
      |exact⟨by omega,by rw[z0H (by omega),if_pos (z41 h16),<-I14.2.1],qD (z1q ..) (by simp;omega)⟩
      |exact⟨by omega,by rw[z0H (by omega),if_neg (z42 h16)];exact I14.2.1,by omega⟩
     ·
      ((try dsimp only);omega)
    ·
     refine .back [.r [(0,X (Xn ((j:Int)+1)))]] [(0,0),(73,73)] (ih14 (q,(j+1)) ?_ ?_)
     ·
      first
      |exact⟨by omega,by rw[z0H (by omega),if_pos (z41 h16),<-I14.2.1],qD (z1q ..) (by simp;omega)⟩
      |exact⟨by omega,by rw[z0H (by omega),if_neg (z42 h16)];exact I14.2.1,by omega⟩
     ·
      ((try dsimp only);omega)
   ·
    have e2:((inhP p k):List Attr)=q:=by
     rw[I14.2.1,qn (by omega)];rfl
    exact .finE [.r []] [(0,0)] (fun z0:List Attr=>(VL 2 attrT z0,[(0,.box [VI p.node.id,VI p.node.kind,VL 2 attrT p.node.attrs,VL 3 elemT p.node.flow,VI p.node.grid.rows,VI p.node.grid.cols,VL 5 cellT p.node.grid.cells,VL 4 rectT p.node.grid.merges,VL 8 dopT p.node.draw,VL 1 intT p.shown,VS p.author])])) _ _ e2
 ·
  refine .bp [.r [],.r []] ((((elemP p (k- 1))).char) !=10) (fun h6=> ?_) (fun h6=> ?_)
  ·
   refine .loop (α:=Nat×(List Attr)) [.r [(2,X (Xl attrT (((elemP p (k- 1))).attrs)))],.le (.nR 8 2)] 210 (fun(i,o)=>([(1,VI k),(5,.ptr 65 0),(6,.ptr 73 0),(8,.row 209 o.length),(29,VL 2 attrT (((elemP p (k- 1))).attrs)),(30,VI ((((elemP p (k- 1))).attrs).length:Int)),(31,VI (i:Int))],[(0,.box [VI p.node.id,VI p.node.kind,VL 2 attrT p.node.attrs,VL 3 elemT p.node.flow,VI p.node.grid.rows,VI p.node.grid.cols,VL 5 cellT p.node.grid.cells,VL 4 rectT p.node.grid.merges,VL 8 dopT p.node.draw,VL 1 intT p.shown,VS p.author]),(65,.box [VI (((elemP p (k- 1))).char),VI (((elemP p (k- 1))).ref),VL 2 attrT (((elemP p (k- 1))).attrs)]),(73,.box [VI (((elemP p k)).char),VI (((elemP p k)).ref),VL 2 attrT (((elemP p k)).attrs)]),(209,OR 2 attrT o)])) (fun(i,o)=>i<=((((elemP p (k- 1))).attrs)).length/\o=(((((elemP p (k- 1))).attrs)).take i).filter (fun a=>sprB a.name)) (fun(i,o)=>((((elemP p (k- 1))).attrs)).length-i) (0,[]) ?_ ?_
   ·
    exact⟨by omega,rfl⟩
   rintro⟨i,o⟩ I8 ih8
   try dsimp only at I8
   have ol:o.length<=i:=by rw[I8.2];exact qD (zF ..) (by rw[qO];omega)
   refine .bp [.r []] (decide ((i:Int)< ((((elemP p (k- 1))).attrs).length:Int))) (fun h8=> ?_) (fun h8=> ?_)
   ·
    refine .bp [.r [(0,X (Xi attrT (((elemP p (k- 1))).attrs) (i:Int)))],.r [(2,X (Xc0 (z6U ((((((elemP p (k- 1))).attrs).getD i default)).name)) X0))]] (sprB ((((((elemP p (k- 1))).attrs).getD i default)).name)) (fun h10=> ?_) (fun h10=> ?_)
    ·
     refine .back [.r [(3,X (rowC attrT [(((((elemP p (k- 1))).attrs).getD i default))] (Xap 2 attrT 209 o [(((((elemP p (k- 1))).attrs).getD i default))])))],.r [(0,X (Xn ((i:Int)+1)))]] [(0,0),(65,65),(73,73),(209,209)] (ih8 ((i+1),(o++[(((((elemP p (k- 1))).attrs).getD i default))])) ?_ ?_)
     ·
      refine⟨by omega,?_⟩
      rw[I8.2,qr (by omega),zf]
      first|rw[z3h (by omega) h10]|rw[z3i (by omega) h10,qM]
     ·
      ((try dsimp only);omega)
    ·
     refine .back [.r [(0,X (Xn ((i:Int)+1)))]] [(0,0),(65,65),(73,73),(209,209)] (ih8 ((i+1),o) ?_ ?_)
     ·
      refine⟨by omega,?_⟩
      rw[I8.2,qr (by omega),zf]
      first|rw[z3h (by omega) h10]|rw[z3i (by omega) h10,qM]
     ·
      ((try dsimp only);omega)
   ·
    have hB:=z5j p k
    simp only[h3,h6,if_true,if_false,ne_eq,not_true_eq_false,not_false_eq_true,ite_true,ite_false,reduceIte] at hB
    refine .loop (α:=(List Attr)×Nat) [.r [(2,X (Xl attrT (((elemP p (k- 1))).attrs)))],.le (.fr 8 [(o.length:Nat)=(List.map attrT o).length] ⟨lm,trivial⟩)] 250 (fun(q,j)=>([(1,VI k),(6,.ptr 73 0),(8,VL 2 attrT q),(44,VL 2 attrT (((elemP p (k- 1))).attrs)),(45,VI ((((elemP p (k- 1))).attrs).length:Int)),(46,VI (j:Int))],[(0,.box [VI p.node.id,VI p.node.kind,VL 2 attrT p.node.attrs,VL 3 elemT p.node.flow,VI p.node.grid.rows,VI p.node.grid.cols,VL 5 cellT p.node.grid.cells,VL 4 rectT p.node.grid.merges,VL 8 dopT p.node.draw,VL 1 intT p.shown,VS p.author]),(73,.box [VI (((elemP p k)).char),VI (((elemP p k)).ref),VL 2 attrT (((elemP p k)).attrs)])])) (fun(q,j)=>j<=(elemP p (k- 1)).attrs.length/\q=inhO (elemP p k) k (inhB p k) ((elemP p (k- 1)).attrs.take j)/\q.length<=1048576+j) (fun(q,j)=>(elemP p (k- 1)).attrs.length-j) (o,0) ?_ ?_
    ·
     first|exact absurd h6 h3|exact⟨by omega,by rw[hB];first| (rw[I8.2,qn (by omega)];rfl)|rfl,by first|omega|simp⟩
    rintro⟨q,j⟩ I14 ih14
    try dsimp only at I14
    refine .bp [.r []] (decide ((j:Int)< ((((elemP p (k- 1))).attrs).length:Int))) (fun h14=> ?_) (fun h14=> ?_)
    ·
     refine .bp [.r [(0,X (Xi attrT (((elemP p (k- 1))).attrs) (j:Int)))],.r [(2,X (Xc0 (z2B ((((((elemP p (k- 1))).attrs).getD j default)).name)) X0)),(5,Xv 1 (btwB ((((((elemP p (k- 1))).attrs).getD j default)).name)) X0),(6,X (Xk (btwB ((((((elemP p (k- 1))).attrs).getD j default)).name)))),(9,Xv 1 ((btwB ((((((elemP p (k- 1))).attrs).getD j default)).name))&&decide (k>0)) X0),(11,Xv 1 ((btwB ((((((elemP p (k- 1))).attrs).getD j default)).name))&&decide (k>0)) X0),(12,Xv 2 ((btwB ((((((elemP p (k- 1))).attrs).getD j default)).name))&&decide (k>0)) (Xc0 (z4U (((elemP p k)).attrs) ((((((elemP p (k- 1))).attrs).getD j default)).name)) X0)),(14,Xv 1 ((btwB ((((((elemP p (k- 1))).attrs).getD j default)).name))&&decide (k>0)) X0),(15,Xv 2 ((btwB ((((((elemP p (k- 1))).attrs).getD j default)).name))&&decide (k>0)) X0),(16,X (Xk ((btwB ((((((elemP p (k- 1))).attrs).getD j default)).name))&&decide (k>0))))]] (((btwB ((((((elemP p (k- 1))).attrs).getD j default)).name))&&decide (k>0))&&seq (getA (((elemP p k)).attrs) ((((((elemP p (k- 1))).attrs).getD j default)).name) 0) ((((((elemP p (k- 1))).attrs).getD j default)).val)) (fun h16=> ?_) (fun h16=> ?_)
     ·
      refine .back [.r [(3,X (Xc1 450 (z5U q [(((((elemP p (k- 1))).attrs).getD j default))] (by simp only[qi,zd];omega)) (rowC attrT [(((((elemP p (k- 1))).attrs).getD j default))] X0)))],.r [(0,X (Xn ((j:Int)+1)))]] [(0,0),(73,73)] (ih14 ((fm rawG q [(((((elemP p (k- 1))).attrs).getD j default))]),(j+1)) ?_ ?_)
      ·
       first
       |exact⟨by omega,by rw[z0H (by omega),if_pos (z41 h16),<-I14.2.1],qD (z1q ..) (by simp;omega)⟩
       |exact⟨by omega,by rw[z0H (by omega),if_neg (z42 h16)];exact I14.2.1,by omega⟩
      ·
       ((try dsimp only);omega)
     ·
      refine .back [.r [(0,X (Xn ((j:Int)+1)))]] [(0,0),(73,73)] (ih14 (q,(j+1)) ?_ ?_)
      ·
       first
       |exact⟨by omega,by rw[z0H (by omega),if_pos (z41 h16),<-I14.2.1],qD (z1q ..) (by simp;omega)⟩
       |exact⟨by omega,by rw[z0H (by omega),if_neg (z42 h16)];exact I14.2.1,by omega⟩
      ·
       ((try dsimp only);omega)
    ·
     have e3:((inhP p k):List Attr)=q:=by
      rw[I14.2.1,qn (by omega)];rfl
     exact .finE [.r []] [(0,0)] (fun z0:List Attr=>(VL 2 attrT z0,[(0,.box [VI p.node.id,VI p.node.kind,VL 2 attrT p.node.attrs,VL 3 elemT p.node.flow,VI p.node.grid.rows,VI p.node.grid.cols,VL 5 cellT p.node.grid.cells,VL 4 rectT p.node.grid.merges,VL 8 dopT p.node.draw,VL 1 intT p.shown,VS p.author])])) _ _ e3
  ·
   have hB:=z5j p k
   simp only[h3,h6,if_true,if_false,ne_eq,not_true_eq_false,not_false_eq_true,ite_true,ite_false,reduceIte] at hB
   refine .loop (α:=(List Attr)×Nat) [.r [(2,X (Xl attrT (((elemP p (k- 1))).attrs)))],.le (.nL 8 2)] 209 (fun(q,j)=>([(1,VI k),(6,.ptr 73 0),(8,VL 2 attrT q),(44,VL 2 attrT (((elemP p (k- 1))).attrs)),(45,VI ((((elemP p (k- 1))).attrs).length:Int)),(46,VI (j:Int))],[(0,.box [VI p.node.id,VI p.node.kind,VL 2 attrT p.node.attrs,VL 3 elemT p.node.flow,VI p.node.grid.rows,VI p.node.grid.cols,VL 5 cellT p.node.grid.cells,VL 4 rectT p.node.grid.merges,VL 8 dopT p.node.draw,VL 1 intT p.shown,VS p.author]),(73,.box [VI (((elemP p k)).char),VI (((elemP p k)).ref),VL 2 attrT (((elemP p k)).attrs)])])) (fun(q,j)=>j<=(elemP p (k- 1)).attrs.length/\q=inhO (elemP p k) k (inhB p k) ((elemP p (k- 1)).attrs.take j)/\q.length<=1048576+j) (fun(q,j)=>(elemP p (k- 1)).attrs.length-j) ([],0) ?_ ?_
   ·
    first|exact absurd h6 h3|exact⟨by omega,by rw[hB];first| (rw[I8.2,qn (by omega)];rfl)|rfl,by first|omega|simp⟩
   rintro⟨q,j⟩ I14 ih14
   try dsimp only at I14
   refine .bp [.r []] (decide ((j:Int)< ((((elemP p (k- 1))).attrs).length:Int))) (fun h14=> ?_) (fun h14=> ?_)
   ·
    refine .bp [.r [(0,X (Xi attrT (((elemP p (k- 1))).attrs) (j:Int)))],.r [(2,X (Xc0 (z2B ((((((elemP p (k- 1))).attrs).getD j default)).name)) X0)),(5,Xv 1 (btwB ((((((elemP p (k- 1))).attrs).getD j default)).name)) X0),(6,X (Xk (btwB ((((((elemP p (k- 1))).attrs).getD j default)).name)))),(9,Xv 1 ((btwB ((((((elemP p (k- 1))).attrs).getD j default)).name))&&decide (k>0)) X0),(11,Xv 1 ((btwB ((((((elemP p (k- 1))).attrs).getD j default)).name))&&decide (k>0)) X0),(12,Xv 2 ((btwB ((((((elemP p (k- 1))).attrs).getD j default)).name))&&decide (k>0)) (Xc0 (z4U (((elemP p k)).attrs) ((((((elemP p (k- 1))).attrs).getD j default)).name)) X0)),(14,Xv 1 ((btwB ((((((elemP p (k- 1))).attrs).getD j default)).name))&&decide (k>0)) X0),(15,Xv 2 ((btwB ((((((elemP p (k- 1))).attrs).getD j default)).name))&&decide (k>0)) X0),(16,X (Xk ((btwB ((((((elemP p (k- 1))).attrs).getD j default)).name))&&decide (k>0))))]] (((btwB ((((((elemP p (k- 1))).attrs).getD j default)).name))&&decide (k>0))&&seq (getA (((elemP p k)).attrs) ((((((elemP p (k- 1))).attrs).getD j default)).name) 0) ((((((elemP p (k- 1))).attrs).getD j default)).val)) (fun h16=> ?_) (fun h16=> ?_)
    ·
     refine .back [.r [(3,X (Xc1 409 (z5U q [(((((elemP p (k- 1))).attrs).getD j default))] (by simp only[qi,zd];omega)) (rowC attrT [(((((elemP p (k- 1))).attrs).getD j default))] X0)))],.r [(0,X (Xn ((j:Int)+1)))]] [(0,0),(73,73)] (ih14 ((fm rawG q [(((((elemP p (k- 1))).attrs).getD j default))]),(j+1)) ?_ ?_)
     ·
      first
      |exact⟨by omega,by rw[z0H (by omega),if_pos (z41 h16),<-I14.2.1],qD (z1q ..) (by simp;omega)⟩
      |exact⟨by omega,by rw[z0H (by omega),if_neg (z42 h16)];exact I14.2.1,by omega⟩
     ·
      ((try dsimp only);omega)
    ·
     refine .back [.r [(0,X (Xn ((j:Int)+1)))]] [(0,0),(73,73)] (ih14 (q,(j+1)) ?_ ?_)
     ·
      first
      |exact⟨by omega,by rw[z0H (by omega),if_pos (z41 h16),<-I14.2.1],qD (z1q ..) (by simp;omega)⟩
      |exact⟨by omega,by rw[z0H (by omega),if_neg (z42 h16)];exact I14.2.1,by omega⟩
     ·
      ((try dsimp only);omega)
   ·
    have e4:((inhP p k):List Attr)=q:=by
     rw[I14.2.1,qn (by omega)];rfl
    exact .finE [.r []] [(0,0)] (fun z0:List Attr=>(VL 2 attrT z0,[(0,.box [VI p.node.id,VI p.node.kind,VL 2 attrT p.node.attrs,VL 3 elemT p.node.flow,VI p.node.grid.rows,VI p.node.grid.cols,VL 5 cellT p.node.grid.cells,VL 4 rectT p.node.grid.merges,VL 8 dopT p.node.draw,VL 1 intT p.shown,VS p.author])])) _ _ e4
theorem y4t(p:Pl)(k:Nat)(hb:PlB p)(hk:k<=1000000000):FC Tryz.prog 32 [.ptr 0 0,VI (k:Int)] (app emp [(0,.box [VI p.node.id,VI p.node.kind,VL 2 attrT p.node.attrs,VL 3 elemT p.node.flow,VI p.node.grid.rows,VI p.node.grid.cols,VL 5 cellT p.node.grid.cells,VL 4 rectT p.node.grid.merges,VL 8 dopT p.node.draw,VL 1 intT p.shown,VS p.author])]) (VL 2 attrT (endP p k)) (app emp [(0,.box [VI p.node.id,VI p.node.kind,VL 2 attrT p.node.attrs,VL 3 elemT p.node.flow,VI p.node.grid.rows,VI p.node.grid.cols,VL 5 cellT p.node.grid.cells,VL 4 rectT p.node.grid.merges,VL 8 dopT p.node.draw,VL 1 intT p.shown,VS p.author])]):=by
 refine .go Tryz.f32 ?_
 have hsl:=hb.sl
 refine .loop (α:=Nat) [.r []] 9 (fun m=>([(0,.ptr 0 0),(1,VI (m:Int))],[(0,.box [VI p.node.id,VI p.node.kind,VL 2 attrT p.node.attrs,VL 3 elemT p.node.flow,VI p.node.grid.rows,VI p.node.grid.cols,VL 5 cellT p.node.grid.cells,VL 4 rectT p.node.grid.merges,VL 8 dopT p.node.draw,VL 1 intT p.shown,VS p.author])])) (fun m=>endK p k=endK p m/\m<=k+p.shown.length) (fun m=>p.shown.length-m) (k:Nat) ?_ ?_
 ·
  exact⟨rfl,by omega⟩
 rintro m I1 ih1
 try dsimp only at I1
 refine .bp [.r [(2,X (Xc4 [(0,0)] (z2N p (m:Int) (by assumption)) X0))]] ((((elemP p (m:Int))).char) !=10) (fun h1=> ?_) (fun h1=> ?_)
 ·
  obtain⟨g1,g2⟩:=y4j h1
  refine .back [.r [(1,X (Xn ((m:Int)+1)))]] [(0,0)] (ih1 ((m+1):Nat) ?_ ?_)
  ·
   exact⟨I1.1.trans g2,by omega⟩
  ·
   ((try dsimp only);omega)
 ·
  have g3:=I1.1.trans (y4k h1)
  have bm:=z6d hb (m:Int)
  refine .loop (α:=Nat×(List Attr)) [.r [],.r [(2,X (Xc4 [(0,0)] (z2N p (m:Int) (by assumption)) X0)),(4,X (Xl attrT (((elemP p (m:Int))).attrs)))],.le (.nR 5 2)] 106 (fun(i,o)=>([(5,.row 105 o.length),(18,VL 2 attrT (((elemP p (m:Int))).attrs)),(19,VI ((((elemP p (m:Int))).attrs).length:Int)),(20,VI (i:Int))],[(0,.box [VI p.node.id,VI p.node.kind,VL 2 attrT p.node.attrs,VL 3 elemT p.node.flow,VI p.node.grid.rows,VI p.node.grid.cols,VL 5 cellT p.node.grid.cells,VL 4 rectT p.node.grid.merges,VL 8 dopT p.node.draw,VL 1 intT p.shown,VS p.author]),(105,OR 2 attrT o)])) (fun(i,o)=>i<=(elemP p m).attrs.length/\o=((elemP p m).attrs.take i).filter endG) (fun(i,o)=>(elemP p m).attrs.length-i) (0,[]) ?_ ?_
  ·
   exact⟨by omega,rfl⟩
  rintro⟨i,o⟩ I5 ih5
  try dsimp only at I5
  have ol:o.length<=i:=by rw[I5.2];exact qD (zF ..) (by rw[qO];omega)
  refine .bp [.r []] (decide ((i:Int)< ((((elemP p (m:Int))).attrs).length:Int))) (fun h5=> ?_) (fun h5=> ?_)
  ·
   refine .bp [.r [(0,X (Xi attrT (((elemP p (m:Int))).attrs) (i:Int)))],.r [(3,X (Xc0 (y4s [{data:=#[97,100,100]},{data:=#[99,117,116]},{data:=#[104,105,100,100,101,110]},{data:=#[108,111,99,107]},{data:=#[115,101,99,116,105,111,110]},{data:=#[98,114,101,97,107]},{data:=#[115,116,97,114,116]}] ((((((elemP p (m:Int))).attrs).getD i default)).name)) (rowC strT [{data:=#[97,100,100]},{data:=#[99,117,116]},{data:=#[104,105,100,100,101,110]},{data:=#[108,111,99,107]},{data:=#[115,101,99,116,105,111,110]},{data:=#[98,114,101,97,107]},{data:=#[115,116,97,114,116]}] X0))),(7,Xv 1 (!(([{data:=#[97,100,100]},{data:=#[99,117,116]},{data:=#[104,105,100,100,101,110]},{data:=#[108,111,99,107]},{data:=#[115,101,99,116,105,111,110]},{data:=#[98,114,101,97,107]},{data:=#[115,116,97,114,116]}]).any (fun y=>seq ((((((elemP p (m:Int))).attrs).getD i default)).name) y))) X0),(8,Xv 1 (!(([{data:=#[97,100,100]},{data:=#[99,117,116]},{data:=#[104,105,100,100,101,110]},{data:=#[108,111,99,107]},{data:=#[115,101,99,116,105,111,110]},{data:=#[98,114,101,97,107]},{data:=#[115,116,97,114,116]}]).any (fun y=>seq ((((((elemP p (m:Int))).attrs).getD i default)).name) y))) (Xc0 (z2B ((((((elemP p (m:Int))).attrs).getD i default)).name)) X0)),(9,Xv 1 (!(([{data:=#[97,100,100]},{data:=#[99,117,116]},{data:=#[104,105,100,100,101,110]},{data:=#[108,111,99,107]},{data:=#[115,101,99,116,105,111,110]},{data:=#[98,114,101,97,107]},{data:=#[115,116,97,114,116]}]).any (fun y=>seq ((((((elemP p (m:Int))).attrs).getD i default)).name) y))) X0),(10,X (Xk (!(([{data:=#[97,100,100]},{data:=#[99,117,116]},{data:=#[104,105,100,100,101,110]},{data:=#[108,111,99,107]},{data:=#[115,101,99,116,105,111,110]},{data:=#[98,114,101,97,107]},{data:=#[115,116,97,114,116]}]).any (fun y=>seq ((((((elemP p (m:Int))).attrs).getD i default)).name) y)))))]] (!(([{data:=#[97,100,100]},{data:=#[99,117,116]},{data:=#[104,105,100,100,101,110]},{data:=#[108,111,99,107]},{data:=#[115,101,99,116,105,111,110]},{data:=#[98,114,101,97,107]},{data:=#[115,116,97,114,116]}]).any (fun y=>seq ((((((elemP p (m:Int))).attrs).getD i default)).name) y))&& !(btwB ((((((elemP p (m:Int))).attrs).getD i default)).name))) (fun h7=> ?_) (fun h7=> ?_)
   ·
    refine .back [.r [(3,X (rowC attrT [(((((elemP p (m:Int))).attrs).getD i default))] (Xap 2 attrT 105 o [(((((elemP p (m:Int))).attrs).getD i default))])))],.r [(0,X (Xn ((i:Int)+1)))]] [(0,0),(105,105)] (ih5 ((i+1),(o++[(((((elemP p (m:Int))).attrs).getD i default))])) ?_ ?_)
    ·
     refine⟨by omega,?_⟩
     rw[I5.2,qr (by omega),zf]
     first|rw[z3h (by omega) (y66 h7)]|rw[z3i (by omega) (y67 h7),qM]
    ·
     ((try dsimp only);omega)
   ·
    refine .back [.r [(0,X (Xn ((i:Int)+1)))]] [(0,0),(105,105)] (ih5 ((i+1),o) ?_ ?_)
    ·
     refine⟨by omega,?_⟩
     rw[I5.2,qr (by omega),zf]
     first|rw[z3h (by omega) (y66 h7)]|rw[z3i (by omega) (y67 h7),qM]
    ·
     ((try dsimp only);omega)
  ·
   have e1:((endP p k):List Attr)=o:=by
    rw[I5.2,qn (by omega)];unfold endP;rw[g3]
   exact .finE [.r [],.le (.fr 4 [(o.length:Nat)=(List.map attrT o).length] ⟨lm,trivial⟩)] [(0,0)] (fun z0:List Attr=>(VL 2 attrT z0,[(0,.box [VI p.node.id,VI p.node.kind,VL 2 attrT p.node.attrs,VL 3 elemT p.node.flow,VI p.node.grid.rows,VI p.node.grid.cols,VL 5 cellT p.node.grid.cells,VL 4 rectT p.node.grid.merges,VL 8 dopT p.node.draw,VL 1 intT p.shown,VS p.author])])) _ _ e1
theorem y4u(p:Pl)(s:Sel)(es:List Elem)(hb:PlB p)(hs:StpB p s es):FC Tryz.prog 33 [.ptr 0 0,.t (selT s),VL 3 elemT es] (app emp [(0,.box [VI p.node.id,VI p.node.kind,VL 2 attrT p.node.attrs,VL 3 elemT p.node.flow,VI p.node.grid.rows,VI p.node.grid.cols,VL 5 cellT p.node.grid.cells,VL 4 rectT p.node.grid.merges,VL 8 dopT p.node.draw,VL 1 intT p.shown,VS p.author])]) (.tup [VL 19 eopT [opF s.nd (stpP p s es)],.t (selT (selP s es)),VI 0]) (app emp [(0,.box [VI p.node.id,VI p.node.kind,VL 2 attrT p.node.attrs,VL 3 elemT p.node.flow,VI p.node.grid.rows,VI p.node.grid.cols,VL 5 cellT p.node.grid.cells,VL 4 rectT p.node.grid.merges,VL 8 dopT p.node.draw,VL 1 intT p.shown,VS p.author])]):=by
 refine .go Tryz.f33 ?_
 refine .len 2 (fun hl2=> ?_)
 obtain⟨s1,q1,q2,v1,v2,v3,d1,d2,d3,m1,m2,m3⟩:=hs
 simp only[ersP,typP] at v1 v2 v3 d1 d2 d3 m1 m2 m3
 have hf:p.node.flow.length<=10000000:=by(have:=hb.len;omega)
 have hsh:=hb.sl
 have hpl:∀x∈(p.shown.take s.tq.toNat).drop s.fr.toNat,0<=x/\x< (p.node.flow.length:Int):=fun x hx=>hb.ok x (qA (qJ hx))
 have hpl2:∀x∈p.shown,0<=x/\x<=1000000000:=fun x hx=>by(have:=hb.ok x hx;omega)
 have hgp:=z9X hb s1
 have e1:([opF s.nd (stpP p s es)]:List EOp)=[({kind:=2,node:=s.nd,nw:=({id:=0,kind:=0,attrs:=[],flow:=[],grid:=({rows:=0,cols:=0,cells:=[],merges:=[]}:Grid),draw:=[]}:Node),attrs:=[],steps:=(joinD (ersD p.node.flow ((p.shown.take (Int.toNat s.tq)).drop (Int.toNat s.fr)) p.author) (z0X (typD (p.node.flow).length (gapP p.shown s.fr) es p.author) (ersD p.node.flow ((p.shown.take (Int.toNat s.tq)).drop (Int.toNat s.fr)) p.author))),grid:=({rows:=[],cols:=[],cells:=[],split:=[],merge:=[]}:GEd),draw:=[]}:EOp)]:=by
  rfl
 have e2:((selP s es):Sel)=({nd:=s.nd,fr:=(s.fr+(es.length:Int)),tq:=(s.fr+(es.length:Int))}:Sel):=by
  rfl
 exact .finVE [.r [],.r [],.r [(9,X (Xsb intT 1 p.shown s.fr s.tq)),(14,X (Xc1 193 (z85 p.node.flow ((p.shown.take (Int.toNat s.tq)).drop (Int.toNat s.fr)) p.author (by omega) (by assumption)) X0))],.r [(6,X (Xc0 (y4r p.shown s.fr (by omega) (by assumption)) X0))],.r [(7,X (Xc1 329 (y1u p.node.flow (gapP p.shown s.fr) es p.author (by omega) (by omega) (by omega) (by assumption)) X0))],.r [(2,X (Xc1 361 (y1t (typD (p.node.flow).length (gapP p.shown s.fr) es p.author) (ersD p.node.flow ((p.shown.take (Int.toNat s.tq)).drop (Int.toNat s.fr)) p.author) (by assumption) (by assumption) (by assumption) (by assumption) (by omega) (by omega)) X0))],.r [],.f,.r [(2,X (Xc1 457 (y1m (ersD p.node.flow ((p.shown.take (Int.toNat s.tq)).drop (Int.toNat s.fr)) p.author) (z0X (typD (p.node.flow).length (gapP p.shown s.fr) es p.author) (ersD p.node.flow ((p.shown.take (Int.toNat s.tq)).drop (Int.toNat s.fr)) p.author)) (by assumption) (by assumption) (by assumption) (by assumption) (by omega)) X0))],.r [],.f,.r [(3,X (Xl elemT es)),(4,X (Xn (s.fr+(es.length:Int))))],.r [(3,X (Xf [(4,2),(5,3),(8,5),(9,4),(10,8),(11,2),(13,2),(14,2),(15,5),(16,4),(17,4),(18,8)]))],.le (.fr 6 [(1:Nat)=(List.map eopT [({kind:=2,node:=s.nd,nw:=({id:=0,kind:=0,attrs:=[],flow:=[],grid:=({rows:=0,cols:=0,cells:=[],merges:=[]}:Grid),draw:=[]}:Node),attrs:=[],steps:=(joinD (ersD p.node.flow ((p.shown.take (Int.toNat s.tq)).drop (Int.toNat s.fr)) p.author) (z0X (typD (p.node.flow).length (gapP p.shown s.fr) es p.author) (ersD p.node.flow ((p.shown.take (Int.toNat s.tq)).drop (Int.toNat s.fr)) p.author))),grid:=({rows:=[],cols:=[],cells:=[],split:=[],merge:=[]}:GEd),draw:=[]}:EOp)]).length] ⟨lm,trivial⟩)] [] [(0,0)] (fun((z0,z1):(List EOp)×Sel)=>(.tup [VL 19 eopT z0,.t (selT z1),VI 0],[(0,.box [VI p.node.id,VI p.node.kind,VL 2 attrT p.node.attrs,VL 3 elemT p.node.flow,VI p.node.grid.rows,VI p.node.grid.cols,VL 5 cellT p.node.grid.cells,VL 4 rectT p.node.grid.merges,VL 8 dopT p.node.draw,VL 1 intT p.shown,VS p.author])])) _ _ (pr e1 e2)
theorem y76(p:Pl)(k:Int)(hb:PlB p)(hk:0<=k/\k<=1000000000):FC Tryz.prog 32 [.ptr 0 0,VI k] (app emp [(0,.box [VI p.node.id,VI p.node.kind,VL 2 attrT p.node.attrs,VL 3 elemT p.node.flow,VI p.node.grid.rows,VI p.node.grid.cols,VL 5 cellT p.node.grid.cells,VL 4 rectT p.node.grid.merges,VL 8 dopT p.node.draw,VL 1 intT p.shown,VS p.author])]) (VL 2 attrT (endP p k.toNat)) (app emp [(0,.box [VI p.node.id,VI p.node.kind,VL 2 attrT p.node.attrs,VL 3 elemT p.node.flow,VI p.node.grid.rows,VI p.node.grid.cols,VL 5 cellT p.node.grid.cells,VL 4 rectT p.node.grid.merges,VL 8 dopT p.node.draw,VL 1 intT p.shown,VS p.author])]):=by
 have h:=y4t p k.toNat hb (by omega)
 rw[zU hk.1] at h
 exact h
def OfFC(t:ByteArray)(cs:List Int):Prop:=∀l:List Attr,chkA false l 0=0->l.length<=10000000->FC Tryz.prog 30 [VS t,VL 2 attrT l] (app emp []) (.tup [.row 0 (cs.map (mkE l)).length,VI 0]) (app emp [(0,OR 3 elemT (cs.map (mkE l)))])
theorem z9Y(d:Doc)(s:Sel)(t:ByteArray)(cs:List Int)(au:ByteArray)(hof:OfFC t cs)(hb:DocL d)(ht:t.size<=20000)(hx:atE d s au=0->TypB d s cs au):FC Tryz.prog 12 [.t (docT d),.t (selT s),VS t,VS au] (app emp []) (.tup [VL 19 eopT (typeO d s cs au),.t (selT (typeS d s cs au)),VI (atE d s au)]) (app emp []):=by
 refine .go Tryz.f12 ?_
 refine .bp [.r [],.r [(3,X (Xc1 64 (fc_at d s au (by assumption)) X0))],.r []] ((atE d s au) !=0) (fun h2=> ?_) (fun h2=> ?_)
 ·
  have T:=y9f (cs:=cs) h2
  have e1:((typeO d s cs au):List EOp)=[]:=by
   exact T.1
  have e2:((typeS d s cs au):Sel)=({nd:=0,fr:=0,tq:=0}:Sel):=by
   exact T.2
  exact .finVE [.r [],.le (.nL 8 19)] [] [] (fun((z0,z1):(List EOp)×Sel)=>(.tup [VL 19 eopT z0,.t (selT z1),VI (atE d s au)],[])) _ _ (pr e1 e2)
 ·
  refine .bp [.r []] (decide ((t.size:Int)> 20000)) (fun h4=> ?_) (fun h4=> ?_)
  ·
   exfalso
   omega
  ·
   obtain⟨tp,tc,tl,tr,ts⟩:=hx h2
   have htl:=tp.sl
   have hcl:(List.map (mkE (inhP (atP d s au) s.fr)) cs).length<=1048576:=by(have:=ts.e1;unfold typEl at this;simpa using this)
   refine .loop (α:=Nat×(List Elem)) [.r [(3,X (Xc4 [(0,96)] (y7a ((atP d s au)) s.fr (by assumption) (by omega)) X0)),(4,X (Xc1 192 (hof (inhP ((atP d s au)) s.fr) (by assumption) (by omega)) X0))],.r [],.f,.r []] 280 (fun(i,o)=>([(5,.ptr 8 0),(9,.ptr 24 0),(11,.ptr 96 0),(13,.row 192 o.length),(43,VI ((List.map (mkE (inhP ((atP d s au)) s.fr)) cs).length:Int)),(44,VI (i:Int))],[(8,.box [VI s.nd,VI s.fr,VI s.tq]),(24,.box [VI 0,VI 0,VI 0]),(96,.box [VI ((((atP d s au)).node).id),VI ((((atP d s au)).node).kind),VL 2 attrT ((((atP d s au)).node).attrs),VL 3 elemT ((((atP d s au)).node).flow),VI (((((atP d s au)).node).grid).rows),VI (((((atP d s au)).node).grid).cols),VL 5 cellT (((((atP d s au)).node).grid).cells),VL 4 rectT (((((atP d s au)).node).grid).merges),VL 8 dopT ((((atP d s au)).node).draw),VL 1 intT (((atP d s au)).shown),VS (((atP d s au)).author)]),(192,OR 3 elemT o)])) (fun(i,o)=>i<=(cs.map (mkE (inhP (atP d s au) s.fr))).length/\o=((cs.map (mkE (inhP (atP d s au) s.fr))).take i).map (typX (atP d s au) s)++(cs.map (mkE (inhP (atP d s au) s.fr))).drop i) (fun(i,o)=>(cs.map (mkE (inhP (atP d s au) s.fr))).length-i) (0,(List.map (mkE (inhP ((atP d s au)) s.fr)) cs)) ?_ ?_
   ·
    exact⟨by omega,by simp⟩
   rintro⟨i,o⟩ I10 ih10
   try dsimp only at I10
   have ol:o.length=(cs.map (mkE (inhP (atP d s au) s.fr))).length:=by rw[I10.2];simp;omega
   refine .bp [.r []] (decide ((i:Int)< ((List.map (mkE (inhP ((atP d s au)) s.fr)) cs).length:Int))) (fun h10=> ?_) (fun h10=> ?_)
   ·
    have hog:o.getD i default=(cs.map (mkE (inhP (atP d s au) s.fr))).getD i default:=by rw[I10.2];exact y4h (by omega)
    refine .bp [.r [],.r [(2,X (Xp elemT o (i:Int))),(4,X (Xe elemT o i))]] ((((o.getD i default)).char)==10) (fun h12=> ?_) (fun h12=> ?_)
    ·
     refine .back [.r [(4,X (Xc4 [(0,96)] (y76 ((atP d s au)) s.tq (by assumption) (by omega)) X0)),(5,X (Xp elemT o (i:Int))),(7,X (Xs 3 elemT 192 o i ({char:=((o.getD i default)).char,ref:=((o.getD i default)).ref,attrs:=(endP ((atP d s au)) (s.tq).toNat)}:Elem)))],.r [(0,X (Xn ((i:Int)+1)))],.le (.eq 13 (.row 192 o.length) (.row 192 ((o.set i ({char:=((o.getD i default)).char,ref:=((o.getD i default)).ref,attrs:=(endP ((atP d s au)) (s.tq).toNat)}:Elem)).length)) (.of_eq (by simp only[zp])))] [(8,8),(24,24),(96,96),(192,192)] (ih10 ((i+1),(o.set i ({char:=((o.getD i default)).char,ref:=((o.getD i default)).ref,attrs:=(endP ((atP d s au)) (s.tq).toNat)}:Elem))) ?_ ?_)
     ·
      refine⟨by omega,?_⟩
      rw[<-y9g h12,hog,<-z82 (by omega),<-I10.2]
     ·
      ((try dsimp only);omega)
    ·
     refine .back [.r [(0,X (Xn ((i:Int)+1)))]] [(8,8),(24,24),(96,96),(192,192)] (ih10 ((i+1),o) ?_ ?_)
     ·
      refine⟨by omega,?_⟩
      rw[<-y4l (by omega) (y9h (by rw[<-hog];exact h12)),<-I10.2]
     ·
      ((try dsimp only);omega)
   ·
    have ho:o=typEl (atP d s au) s cs:=by rw[I10.2,qn (by omega),qP (by omega),qM];rfl
    rw[<-ho] at ts
    have T:=y1r (cs:=cs) h2
    have e3:((typeO d s cs au):List EOp)=[opF (s).nd (stpP ((atP d s au)) s o)]:=by
     rw[T.1,ho]
    have e4:((typeS d s cs au):Sel)=((selP s o)):=by
     rw[T.2,ho]
    have e5:((atE d s au):Int)=0:=by
     exact h2
    exact .finVE [.le (.fr 13 [(o.length:Nat)=(List.map elemT o).length] ⟨lm,trivial⟩),.r [(2,X (Xc4 [(0,96)] (y4u ((atP d s au)) s o (by assumption) (by assumption)) X0))]] [] [] (fun((z0,z1,z2):(List EOp)×Sel×Int)=>(.tup [VL 19 eopT z0,.t (selT z1),VI z2],[])) _ _ (pr e3 (pr e4 e5))
end Go.Ch
end
section
namespace Go.Ch
open Go Go.Ab
theorem shr16{r:Int}:r.fdiv (2^(min (16:Int).toNat IntKind.i64.bits))=r/65536:=by
 show r.fdiv 65536=r/65536
 exact zW r (by decide)
theorem y7b{r:Int}(h: -9223372036854775808<=r/\r<=9223372036854775807):IntKind.i64.wrap r=r:=by
 simp[IntKind.wrap,IntKind.bits,IntKind.signed];omega
theorem shl16{r:Int}(h:0<=r/\r<=1000):IntKind.i64.wrap (r*2^(min (16:Int).toNat IntKind.i64.bits))=r*65536:=by
 show IntKind.i64.wrap (r*65536)=r*65536
 exact y7b (by omega)
theorem and16{x:Int}(h:0<=x/\x<=1073741824):andI .i64 x 65535=x%65536:=by
 unfold andI
 have e1:(BitVec.ofInt IntKind.i64.bits x&&&BitVec.ofInt IntKind.i64.bits 65535).toNat=x.toNat%65536:=by
  rw[BitVec.toNat_and]
  have hx:(BitVec.ofInt IntKind.i64.bits x).toNat=x.toNat:=by
   rw[BitVec.toNat_ofInt]
   show(x%((2^64:Nat):Int)).toNat=x.toNat
   rw[Int.emod_eq_of_lt h.1 (by have:=h.2;omega)]
  have hy:(BitVec.ofInt IntKind.i64.bits 65535).toNat=2^16- 1:=by decide
  rw[hx,hy,Nat.and_two_pow_sub_one_eq_mod]
 rw[e1,y7b (by omega)]
 omega
def nxtF(l:List Node)(site:Int)(m:Nat):Int:=(l.take m).foldl (fun x n=>if n.id/65536=site then n.id else x) (site*65536)
theorem z6f{l:List Node}{site:Int}{m:Nat}(h:m<l.length):nxtF l site (m+1)=if(l.getD m default).id/65536=site then(l.getD m default).id else nxtF l site m:=by
 have e:l.getD m default=l[m]:=by rw[qc,qa h];rfl
 unfold nxtF
 rw[qr h,List.foldl_append,e];rfl
def nextE(d:Doc)(site:Int):Int:=
 if docE d≠0 then docE d else if site<0\/1000<site then 2 else if nxtF d.nodes site d.nodes.length%65536=65535 then 18 else 0
def nextN(d:Doc)(site:Int):Int:=if nextE d site≠0 then 0 else nxtF d.nodes site d.nodes.length+1
theorem y4v{d:Doc}{site k:Int}(h:nextE d site=k)(hk:k≠0):nextN d site=0/\nextE d site=k:=by
 unfold nextN;rw[h,if_pos hk];exact⟨rfl,rfl⟩
theorem y9i{d:Doc}{site:Int}(h:docE d≠0):nextN d site=0/\nextE d site=docE d:=y4v (by unfold nextE;rw[if_pos h]) h
theorem y9j{d:Doc}{site:Int}(h:docE d=0)(h2:site<0\/1000<site):nextN d site=0/\nextE d site=2:=y4v (by unfold nextE;rw[if_neg (fun q=>q h),if_pos h2]) (by decide)
theorem y7c{d:Doc}{site:Int}(h:docE d=0)(h2:0<=site/\site<=1000)(h3:nxtF d.nodes site d.nodes.length%65536=65535):nextN d site=0/\nextE d site=18:=
 y4v (by unfold nextE;rw[if_neg (fun q=>q h),if_neg (by omega),if_pos h3]) (by decide)
theorem y7d{d:Doc}{site:Int}(h:docE d=0)(h2:0<=site/\site<=1000)(h3:¬nxtF d.nodes site d.nodes.length%65536=65535):nextN d site=nxtF d.nodes site d.nodes.length+1/\nextE d site=0:=by
 have e:nextE d site=0:=by unfold nextE;rw[if_neg (fun q=>q h),if_neg (by omega),if_neg h3]
 unfold nextN;rw[e,if_neg (fun q=>q rfl)];exact⟨rfl,rfl⟩
def opN(n:Node):EOp:=⟨0,0,n,[],[],⟨[],[],[],[],[]⟩,[]⟩
def opG(k:Int)(g:GEd):EOp:=⟨3,k,⟨0,0,[],[],⟨0,0,[],[]⟩,[]⟩,[],[],g,[]⟩
def objN(d:Doc)(n:Node)(site:Int):Node:={id:=nextN d site,kind:=n.kind,attrs:=n.attrs,flow:=n.flow,grid:=n.grid,draw:=n.draw}
def objX(d:Doc)(s:Sel)(site:Int)(au:ByteArray):List Elem:=[{char:=0,ref:=nextN d site,attrs:=inhP (atP d s au) s.fr}]
def objE(d:Doc)(s:Sel)(n:Node)(site:Int)(au:ByteArray):Int:=
 if atE d s au≠0 then atE d s au
 else if permB (atP d s au).node.kind n.kind=false then 8
 else if nextE d site≠0 then nextE d site
 else nodeE (objN d n site)
def objO(d:Doc)(s:Sel)(n:Node)(site:Int)(au:ByteArray):List EOp:=if objE d s n site au≠0 then[] else[opN (objN d n site)]++[opF s.nd (stpP (atP d s au) s (objX d s site au))]
def objS(d:Doc)(s:Sel)(n:Node)(site:Int)(au:ByteArray):Sel:=if objE d s n site au≠0 then⟨0,0,0⟩ else selP s (objX d s site au)
structure ObjB(d:Doc)(s:Sel)(n:Node)(site:Int)(au:ByteArray):Prop where
 p:PlB (atP d s au)
 r:0<=s.fr/\s.fr<=1000000000
 s:StpB (atP d s au) s (objX d s site au)
theorem obj_e{d:Doc}{s:Sel}{n:Node}{site:Int}{au:ByteArray}{k:Int}(h:objE d s n site au=k)(hk:k≠0):objO d s n site au=[]/\objS d s n site au=⟨0,0,0⟩/\objE d s n site au=k:=by
 unfold objO objS;rw[h,if_pos hk,if_pos hk];exact⟨rfl,rfl,rfl⟩
theorem obj_1{d:Doc}{s:Sel}{n:Node}{site:Int}{au:ByteArray}(h:atE d s au≠0):objO d s n site au=[]/\objS d s n site au=⟨0,0,0⟩/\objE d s n site au=atE d s au:=obj_e (by unfold objE;rw[if_pos h]) h
theorem obj_2{d:Doc}{s:Sel}{n:Node}{site:Int}{au:ByteArray}(h:atE d s au=0)(h2:permB (atP d s au).node.kind n.kind=false):objO d s n site au=[]/\objS d s n site au=⟨0,0,0⟩/\objE d s n site au=8:=
 obj_e (by unfold objE;rw[if_neg (fun q=>q h),if_pos h2]) (by decide)
theorem obj_3{d:Doc}{s:Sel}{n:Node}{site:Int}{au:ByteArray}(h:atE d s au=0)(h2:permB (atP d s au).node.kind n.kind=true)(h3:nextE d site≠0):objO d s n site au=[]/\objS d s n site au=⟨0,0,0⟩/\objE d s n site au=nextE d site:=
 obj_e (by unfold objE;rw[if_neg (fun q=>q h),if_neg (by rw[h2];decide),if_pos h3]) h3
theorem obj_n{d:Doc}{s:Sel}{n:Node}{site:Int}{au:ByteArray}(h:atE d s au=0)(h2:permB (atP d s au).node.kind n.kind=true)(h3:nextE d site=0):objE d s n site au=nodeE (objN d n site):=by
 unfold objE;rw[if_neg (fun q=>q h),if_neg (by rw[h2];decide),if_neg (fun q=>q h3)]
theorem obj_4{d:Doc}{s:Sel}{n:Node}{site:Int}{au:ByteArray}(h:atE d s au=0)(h2:permB (atP d s au).node.kind n.kind=true)(h3:nextE d site=0)(h4:nodeE (objN d n site)≠0):objO d s n site au=[]/\objS d s n site au=⟨0,0,0⟩/\objE d s n site au=nodeE (objN d n site):=
 obj_e (obj_n h h2 h3) h4
theorem obj_5{d:Doc}{s:Sel}{n:Node}{site:Int}{au:ByteArray}(h:atE d s au=0)(h2:permB (atP d s au).node.kind n.kind=true)(h3:nextE d site=0)(h4:nodeE (objN d n site)=0):
 objO d s n site au=[opN (objN d n site)]++[opF s.nd (stpP (atP d s au) s (objX d s site au))]/\objS d s n site au=selP s (objX d s site au)/\objE d s n site au=0:=by
 have e:=(obj_n (n:=n) h h2 h3).trans h4
 unfold objO objS;rw[e,if_neg (fun q=>q rfl),if_neg (fun q=>q rfl)];exact⟨rfl,rfl,rfl⟩
def tblN(r c:Int):Node:=⟨0,2,[],[],⟨r,c,[],[]⟩,[]⟩
def kindB:ByteArray:={data:=#[107,105,110,100]}
def notN(e:Bool):Node:=⟨0,4,[⟨kindB,if e=true then {data:=#[101,110,100]} else {data:=#[102,111,111,116]}⟩],[⟨10,0,[]⟩],⟨0,0,[],[]⟩,[]⟩
def fldN(l:List Attr):Node:=⟨0,5,l,[],⟨0,0,[],[]⟩,[]⟩
def tabE(d:Doc)(k:Int):Int:=if docE d≠0 then docE d else if hasN d.nodes k=false then 7 else if hasG (d.nodes.getD (lobN d.nodes k) default).kind=false then 8 else 0
def zeroN:Node:=⟨0,0,[],[],⟨0,0,[],[]⟩,[]⟩
def tabN(d:Doc)(k:Int):Node:=if tabE d k≠0 then zeroN else d.nodes.getD (lobN d.nodes k) default
theorem tab_e{d:Doc}{k e:Int}(h:tabE d k=e)(he:e≠0):tabN d k=zeroN/\tabE d k=e:=by
 unfold tabN;rw[h,if_pos he];exact⟨rfl,rfl⟩
theorem tab_1{d:Doc}{k:Int}(h:docE d≠0):tabN d k=zeroN/\tabE d k=docE d:=tab_e (by unfold tabE;rw[if_pos h]) h
theorem tab_2{d:Doc}{k:Int}(h:docE d=0)(h2:hasN d.nodes k=false):tabN d k=zeroN/\tabE d k=7:=tab_e (by unfold tabE;rw[if_neg (fun q=>q h),if_pos h2]) (by decide)
theorem tab_3{d:Doc}{k:Int}(h:docE d=0)(h2:hasN d.nodes k=true)(h3:hasG (d.nodes.getD (lobN d.nodes k) default).kind=false):tabN d k=zeroN/\tabE d k=8:=
 tab_e (by unfold tabE;rw[if_neg (fun q=>q h),if_neg (by rw[h2];decide),if_pos h3]) (by decide)
theorem tab_4{d:Doc}{k:Int}(h:docE d=0)(h2:hasN d.nodes k=true)(h3:hasG (d.nodes.getD (lobN d.nodes k) default).kind=true):tabN d k=d.nodes.getD (lobN d.nodes k) default/\tabE d k=0:=by
 have e:tabE d k=0:=by unfold tabE;rw[if_neg (fun q=>q h),if_neg (by rw[h2];decide),if_neg (by rw[h3];decide)]
 unfold tabN;rw[e,if_neg (fun q=>q rfl)];exact⟨rfl,rfl⟩
theorem y1v{d:Doc}{k:Int}(h:tabE d k=0):(0<=(tabN d k).grid.rows/\(tabN d k).grid.rows<=2147483647)/\0<=(tabN d k).grid.cols/\(tabN d k).grid.cols<=2147483647:=by
 have e:tabN d k=d.nodes.getD (lobN d.nodes k) default:=by unfold tabN;rw[h,if_neg (fun q=>q rfl)]
 unfold tabE at h
 split at h
 ·rename_i q;exact absurd h q
 rename_i q
 have hd:docE d=0:=qd q
 split at h
 ·cases h
 rename_i hn
 split at h
 ·cases h
 rename_i hg
 have hn:hasN d.nodes k=true:=by simpa using hn
 have hg:hasG (d.nodes.getD (lobN d.nodes k) default).kind=true:=by simpa using hg
 have hlt:=(z06.1 hn).1
 have hnd:nodeE (d.nodes.getD (lobN d.nodes k) default)=0:=by
  unfold docE at hd
  split at hd
  ·cases hd
  ·split at hd
   ·rename_i q;exact absurd hd q
   ·rename_i q;exact(z2x _ 0 rfl (qd q)).1 _ (qU _) hlt
 rw[e]
 generalize d.nodes.getD (lobN d.nodes k) default=n at hnd hg
 have hgr:gridE n.grid=0:=by
  unfold nodeE at hnd
  split at hnd
  ·cases hnd
  split at hnd
  ·cases hnd
  split at hnd
  ·rename_i q;exact absurd hnd q
  split at hnd
  ·cases hnd
  split at hnd
  ·rename_i q;exfalso
   unfold hasG at hg;unfold hasT hasL at q
   simp only[qF,beq_iff_eq] at hg q
   omega
  (try rw[if_pos hg] at hnd)
  split at hnd
  ·rename_i q;exact absurd hnd q
  ·rename_i q;exact qd q
 unfold gridE at hgr
 split at hgr
 ·cases hgr
 ·omega
theorem y6o{d:Doc}(h:DocL d)(k:Int):(tabN d k).grid.cells.length<=1048576:=by
 unfold tabN;split
 ·simp[zeroN]
 ·by_cases q:lobN d.nodes k<d.nodes.length
  ·exact(h.all _ (z0h q)).ce2
  ·rw[qc,zO (by omega)];simp[default,instInhabitedNode]
def addS(k n:Int):List AxStep:=if n>0 then[{kind:=k,n:=n}] else[]
theorem z2O(k n:Int):(addS k n).length<=1:=by unfold addS;split<;>simp
def shfX(m a n:Int):List AxStep:=(((([]:List AxStep)++addS 0 a)++addS 1 n)++addS 2 (0-n))++addS 0 ((m-a)- max 0 (0-n))
def shfE(m a n:Int):Int:=if n< -2147483647\/n=0\/a<0\/m<a\/(n<0/\m-a< -n) then 2 else if 1000<n then 3 else z1k (shfX m a n)
def shfL(m a n:Int):List AxStep:=if n< -2147483647\/n=0\/a<0\/m<a\/(n<0/\m-a< -n) then[] else if 1000<n then[] else shfX m a n
theorem shf_1{m a n:Int}(h:(((n< -2147483647\/n=0)\/a<0)\/m<a)\/(n<0/\m-a< -n)):shfL m a n=[]/\shfE m a n=2:=by
 have hc:(n< -2147483647\/n=0\/a<0\/m<a\/(n<0/\m-a< -n)):=by omega
 unfold shfL shfE;rw[if_pos hc,if_pos hc];exact⟨rfl,rfl⟩
theorem shf_2{m a n:Int}(h:(((-2147483647<=n/\¬n=0)/\0<=a)/\a<=m)/\(0<=n\/ -n<=m-a))(h2:1000<n):shfL m a n=[]/\shfE m a n=3:=by
 have hc:¬(n< -2147483647\/n=0\/a<0\/m<a\/(n<0/\m-a< -n)):=by omega
 unfold shfL shfE;rw[if_neg hc,if_neg hc,if_pos h2,if_pos h2];exact⟨rfl,rfl⟩
theorem shf_3{m a n:Int}(h:(((-2147483647<=n/\¬n=0)/\0<=a)/\a<=m)/\(0<=n\/ -n<=m-a))(h2:n<=1000):shfL m a n=shfX m a n/\shfE m a n=z1k (shfX m a n):=by
 have hc:¬(n< -2147483647\/n=0\/a<0\/m<a\/(n<0/\m-a< -n)):=by omega
 have h2':¬1000<n:=by omega
 unfold shfL shfE;rw[if_neg hc,if_neg hc,if_neg h2',if_neg h2'];exact⟨rfl,rfl⟩
def rshE(d:Doc)(k a n:Int):Int:=if tabE d k≠0 then tabE d k else shfE (tabN d k).grid.rows a n
def rshO(d:Doc)(k a n:Int):List EOp:=if rshE d k a n≠0 then[] else[opG k ⟨shfL (tabN d k).grid.rows a n,[],[],[],[]⟩]
theorem rsh_1{d:Doc}{k a n:Int}(h:tabE d k≠0):rshO d k a n=[]/\rshE d k a n=tabE d k:=by
 have e:rshE d k a n=tabE d k:=by unfold rshE;rw[if_pos h]
 unfold rshO;rw[e,if_pos h];exact⟨rfl,rfl⟩
theorem rsh_2{d:Doc}{k a n:Int}(h:tabE d k=0)(h2:shfE (tabN d k).grid.rows a n≠0):rshO d k a n=[]/\rshE d k a n=shfE (tabN d k).grid.rows a n:=by
 have e:rshE d k a n=shfE (tabN d k).grid.rows a n:=by unfold rshE;rw[if_neg (fun q=>q h)]
 unfold rshO;rw[e,if_pos h2];exact⟨rfl,rfl⟩
theorem rsh_3{d:Doc}{k a n:Int}(h:tabE d k=0)(h2:shfE (tabN d k).grid.rows a n=0):rshO d k a n=[opG k ⟨shfL (tabN d k).grid.rows a n,[],[],[],[]⟩]/\rshE d k a n=0:=by
 have e:rshE d k a n=0:=by unfold rshE;rw[if_neg (fun q=>q h),h2]
 unfold rshO;rw[e,if_neg (fun q=>q rfl)];exact⟨rfl,rfl⟩
def cshE(d:Doc)(k a n:Int):Int:=if tabE d k≠0 then tabE d k else shfE (tabN d k).grid.cols a n
def cshO(d:Doc)(k a n:Int):List EOp:=if cshE d k a n≠0 then[] else[opG k ⟨[],shfL (tabN d k).grid.cols a n,[],[],[]⟩]
theorem csh_1{d:Doc}{k a n:Int}(h:tabE d k≠0):cshO d k a n=[]/\cshE d k a n=tabE d k:=by
 have e:cshE d k a n=tabE d k:=by unfold cshE;rw[if_pos h]
 unfold cshO;rw[e,if_pos h];exact⟨rfl,rfl⟩
theorem csh_2{d:Doc}{k a n:Int}(h:tabE d k=0)(h2:shfE (tabN d k).grid.cols a n≠0):cshO d k a n=[]/\cshE d k a n=shfE (tabN d k).grid.cols a n:=by
 have e:cshE d k a n=shfE (tabN d k).grid.cols a n:=by unfold cshE;rw[if_neg (fun q=>q h)]
 unfold cshO;rw[e,if_pos h2];exact⟨rfl,rfl⟩
theorem csh_3{d:Doc}{k a n:Int}(h:tabE d k=0)(h2:shfE (tabN d k).grid.cols a n=0):cshO d k a n=[opG k ⟨[],shfL (tabN d k).grid.cols a n,[],[],[]⟩]/\cshE d k a n=0:=by
 have e:cshE d k a n=0:=by unfold cshE;rw[if_neg (fun q=>q h),h2]
 unfold cshO;rw[e,if_neg (fun q=>q rfl)];exact⟨rfl,rfl⟩
theorem y77{α:Type}[Inhabited α]{f:α->Bool}{l:List α}{i:Nat}(h:i<l.length)(h2:f (l.getD i default)=true):idxF f l i=(i:Int):=by rw[idxF,if_pos h,if_pos h2]
theorem y6p{α:Type}[Inhabited α]{f:α->Bool}{l:List α}{i:Nat}(h:i<l.length)(h2:f (l.getD i default)=false):idxF f l i=idxF f l (i+1):=by rw[idxF,if_pos h,if_neg (by rw[h2];decide)]
theorem y78{α:Type}[Inhabited α]{f:α->Bool}{l:List α}{i:Nat}(h:¬i<l.length):idxF f l i= -1:=by rw[idxF,if_neg h]
def celI(d:Doc)(k r c:Int):Int:=idxF (fun x:Cell=>x.row==r&&x.col==c) (tabN d k).grid.cells 0
def celE(d:Doc)(k r c site:Int):Int:=
 if tabE d k≠0 then tabE d k else if(tabN d k).kind≠2 then 8
 else if r<0\/(tabN d k).grid.rows<=r\/c<0\/(tabN d k).grid.cols<=c then 2
 else if 0<=celI d k r c then 0 else nextE d site
def celM(d:Doc)(site:Int):Node:=⟨nextN d site,3,[],[⟨10,0,[]⟩],⟨0,0,[],[]⟩,[]⟩
def celL(d:Doc)(k r c site:Int):List EOp:=[opN (celM d site),opG k ⟨[],[],[⟨r,c,{data:=#[]},nextN d site,[]⟩],[],[]⟩]
def celO(d:Doc)(k r c site:Int):List EOp:=if celE d k r c site≠0\/0<=celI d k r c then[] else celL d k r c site
def celR(d:Doc)(k r c site:Int):Int:=if celE d k r c site≠0 then 0 else if 0<=celI d k r c then((tabN d k).grid.cells.getD (celI d k r c).toNat default).ref else nextN d site
theorem cel_e{d:Doc}{k r c site e:Int}(h:celE d k r c site=e)(he:e≠0):celO d k r c site=[]/\celR d k r c site=0/\celE d k r c site=e:=by
 unfold celO celR;rw[h,if_pos (.inl he),if_pos he];exact⟨rfl,rfl,rfl⟩
theorem cel_1{d:Doc}{k r c site:Int}(h:tabE d k≠0):celO d k r c site=[]/\celR d k r c site=0/\celE d k r c site=tabE d k:=cel_e (by unfold celE;rw[if_pos h]) h
theorem cel_2{d:Doc}{k r c site:Int}(h:tabE d k=0)(h2:¬(tabN d k).kind=2):celO d k r c site=[]/\celR d k r c site=0/\celE d k r c site=8:=cel_e (by unfold celE;rw[if_neg (fun q=>q h),if_pos h2]) (by decide)
theorem cel_3{d:Doc}{k r c site:Int}(h:tabE d k=0)(h2:(tabN d k).kind=2)(h3:((r<0\/(tabN d k).grid.rows<=r)\/c<0)\/(tabN d k).grid.cols<=c):celO d k r c site=[]/\celR d k r c site=0/\celE d k r c site=2:=
 cel_e (by unfold celE;rw[if_neg (fun q=>q h),if_neg (fun q=>q h2),if_pos (by omega)]) (by decide)
theorem cel_4{d:Doc}{k r c site:Int}{i:Nat}(h:tabE d k=0)(h2:(tabN d k).kind=2)(h3:((0<=r/\r< (tabN d k).grid.rows)/\0<=c)/\c< (tabN d k).grid.cols)(h4:idxF (fun x:Cell=>x.row==r&&x.col==c) (tabN d k).grid.cells 0=(i:Int)):
 celO d k r c site=[]/\celR d k r c site=((tabN d k).grid.cells.getD i default).ref/\celE d k r c site=0:=by
 have hi:celI d k r c=(i:Int):=h4
 have e:celE d k r c site=0:=by unfold celE;rw[if_neg (fun q=>q h),if_neg (fun q=>q h2),if_neg (by omega),hi,if_pos (by omega)]
 unfold celO celR;rw[e,hi,if_pos (.inr (by omega)),if_neg (fun q=>q rfl),if_pos (by omega)]
 exact⟨rfl,rfl,rfl⟩
theorem cel_n{d:Doc}{k r c site:Int}(h:tabE d k=0)(h2:(tabN d k).kind=2)(h3:((0<=r/\r< (tabN d k).grid.rows)/\0<=c)/\c< (tabN d k).grid.cols)(h4:idxF (fun x:Cell=>x.row==r&&x.col==c) (tabN d k).grid.cells 0= -1):celE d k r c site=nextE d site:=by
 have hi:celI d k r c= -1:=h4
 unfold celE;rw[if_neg (fun q=>q h),if_neg (fun q=>q h2),if_neg (by omega),hi,if_neg (by omega)]
theorem cel_5{d:Doc}{k r c site:Int}(h:tabE d k=0)(h2:(tabN d k).kind=2)(h3:((0<=r/\r< (tabN d k).grid.rows)/\0<=c)/\c< (tabN d k).grid.cols)(h4:idxF (fun x:Cell=>x.row==r&&x.col==c) (tabN d k).grid.cells 0= -1)(h5:¬nextE d site=0):
 celO d k r c site=[]/\celR d k r c site=0/\celE d k r c site=nextE d site:=cel_e (cel_n h h2 h3 h4) h5
theorem cel_6{d:Doc}{k r c site:Int}(h:tabE d k=0)(h2:(tabN d k).kind=2)(h3:((0<=r/\r< (tabN d k).grid.rows)/\0<=c)/\c< (tabN d k).grid.cols)(h4:idxF (fun x:Cell=>x.row==r&&x.col==c) (tabN d k).grid.cells 0= -1)(h5:nextE d site=0):
 celO d k r c site=celL d k r c site/\celR d k r c site=nextN d site/\celE d k r c site=0:=by
 have hi:celI d k r c= -1:=h4
 have e:=(cel_n (site:=site) h h2 h3 h4).trans h5
 unfold celO celR;rw[e,hi,if_neg (by omega),if_neg (fun q=>q rfl),if_neg (by omega)]
 exact⟨rfl,rfl,rfl⟩
end Go.Ch
end
