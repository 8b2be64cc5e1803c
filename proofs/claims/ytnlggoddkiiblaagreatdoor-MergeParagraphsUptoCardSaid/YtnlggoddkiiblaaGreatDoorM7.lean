/- Rebasing two deltas over each other, unit by unit; lengths and units of joins and pairs. -/
import Derived.Test.YtnlggoddkiiblaaGreatDoorM1
import Derived.Test.YtnlggoddkiiblaaGreatDoorM2
import Derived.Test.YtnlggoddkiiblaaGreatDoorM3
import Derived.Test.YtnlggoddkiiblaaGreatDoorM4
import Derived.Test.YtnlggoddkiiblaaGreatDoorM5
import Derived.Test.YtnlggoddkiiblaaGreatDoorM6
import Derived.Shelf.Unicode.DecodeSlow
import Derived.Lib.TrimUEq
import Derived.Lib.QuoteLoop
import Derived.Lib.ValidLaws
import Derived.Lib.ValidAsc
import Derived.Maps.RangeRun
set_option linter.unusedVariables false
set_option linter.unusedSimpArgs false
section
namespace Go.Ch
open Go Go.Ab
theorem y0t:∀l:List Attr,fm rawG l []=l
 | []=>by simp[fm,bothL]
 |x::l=>by
  have ih:=y0t l
  unfold fm at ih|-
  rw[bothL,z2d,ih]
  have:rawG x default=some x:=by unfold rawG;rw[if_pos (show(default:Attr).name=mt from rfl)]
  rw[this];rfl
theorem z1L(x:Elem):chgE [] x=x:=by unfold chgE;rw[y0t]
def z0a:List DU->List DU->List DU×List DU
 | .A e::p,q=>(.A e::(z0a p q).1,.K []::(z0a p q).2)
 | [],.A e::q=>(.K []::(z0a [] q).1,.A e::(z0a [] q).2)
 | .K c::p,.A e::q=>(.K []::(z0a (.K c::p) q).1,.A e::(z0a (.K c::p) q).2)
 | .C::p,.A e::q=>(.K []::(z0a (.C::p) q).1,.A e::(z0a (.C::p) q).2)
 | .K c::p,.K d::q=>(.K (fm wioG c d)::(z0a p q).1,.K d::(z0a p q).2)
 | .K _::p,.C::q=>((z0a p q).1,.C::(z0a p q).2)
 | .C::p,.K _::q=>(.C::(z0a p q).1,(z0a p q).2)
 | .C::p,.C::q=>z0a p q
 |_,[]=>([],[])
 | [],_=>([],[])
termination_by p q=>p.length+q.length
theorem y4m{x:Elem}{c d:List Attr}(hx:VG false x.attrs)(hc:VG true c)(hd:VG true d):chgE d (chgE c x)=chgE (fm wioG c d) (chgE d x):=by
 unfold chgE
 simp only
 rw[y2Q np_mt hx hc hd]
theorem z0N:∀(n:Nat) (p q:List DU) (l:List Elem),p.length+q.length<=n->oldN p=l.length->oldN q=l.length->UOk p->UOk q->(∀x∈l,VG false x.attrs)->
 z0h (z0a p q).2 (z0h p l)=z0h (z0a p q).1 (z0h q l)/\
 oldN (z0a p q).2=newN p/\oldN (z0a p q).1=newN q/\newN (z0a p q).1=newN (z0a p q).2
 |n,.A e::p,q,l,hn,ho,hm,hp,hq,hl=>by
  simp only[qi] at hn
  obtain⟨n,rfl⟩:∃k,n=k+1:=⟨n- 1,by omega⟩
  obtain⟨i1,i2,i3,i4⟩:=z0N n p q l (by omega) (by simpa[oldN] using ho) hm hp hq hl
  rw[z0a]
  simp only[z0h,z1L,oldN,newN]
  exact⟨by rw[i1],by omega,by omega,by omega⟩
 |n,[],.A e::q,l,hn,ho,hm,hp,hq,hl=>by
  simp only[qi] at hn
  obtain⟨n,rfl⟩:∃k,n=k+1:=⟨n- 1,by omega⟩
  obtain⟨i1,i2,i3,i4⟩:=z0N n [] q l (by simp only[zh] at hn|-;omega) ho (by simpa[oldN] using hm) hp hq hl
  rw[z0a]
  simp only[z0h,z1L,oldN,newN] at i1 i2 i3 i4|-
  exact⟨by rw[i1],by omega,by omega,by omega⟩
 |n,.K c::p,.A e::q,l,hn,ho,hm,hp,hq,hl=>by
  simp only[qi] at hn
  obtain⟨n,rfl⟩:∃k,n=k+1:=⟨n- 1,by omega⟩
  obtain⟨i1,i2,i3,i4⟩:=z0N n (.K c::p) q l (by simp only[qi];omega) ho (by simpa[oldN] using hm) hp hq hl
  rw[z0a]
  rw[show z0h (.A e::q) l=e::z0h q l by simp[z0h]]
  rw[z0h,z0h,i1,z1L]
  exact⟨rfl,i2,by simp only[oldN,newN];omega,by simp only[newN];omega⟩
 |n,.C::p,.A e::q,l,hn,ho,hm,hp,hq,hl=>by
  simp only[qi] at hn
  obtain⟨n,rfl⟩:∃k,n=k+1:=⟨n- 1,by omega⟩
  obtain⟨i1,i2,i3,i4⟩:=z0N n (.C::p) q l (by simp only[qi];omega) ho (by simpa[oldN] using hm) hp hq hl
  rw[z0a]
  rw[show z0h (.A e::q) l=e::z0h q l by simp[z0h]]
  rw[z0h,z0h,i1,z1L]
  exact⟨rfl,i2,by simp only[oldN,newN];omega,by simp only[newN];omega⟩
 |n,.K c::p,.K d::q,[],hn,ho,hm,hp,hq,hl=>by simp[oldN] at ho
 |n,.K c::p,.K d::q,x::l,hn,ho,hm,hp,hq,hl=>by
  simp only[qi] at hn
  obtain⟨n,rfl⟩:∃k,n=k+1:=⟨n- 1,by omega⟩
  obtain⟨i1,i2,i3,i4⟩:=z0N n p q l (by omega) (by simpa[oldN] using ho) (by simpa[oldN] using hm) hp.2 hq.2 (fun y hy=>hl y (by simp[hy]))
  rw[z0a]
  simp only[z0h,oldN,newN]
  exact⟨by rw[i1,y4m (hl x (by simp)) hp.1 hq.1],by omega,by omega,by omega⟩
 |n,.K c::p,.C::q,[],hn,ho,hm,hp,hq,hl=>by simp[oldN] at ho
 |n,.K c::p,.C::q,x::l,hn,ho,hm,hp,hq,hl=>by
  simp only[qi] at hn
  obtain⟨n,rfl⟩:∃k,n=k+1:=⟨n- 1,by omega⟩
  obtain⟨i1,i2,i3,i4⟩:=z0N n p q l (by omega) (by simpa[oldN] using ho) (by simpa[oldN] using hm) hp.2 hq (fun y hy=>hl y (by simp[hy]))
  rw[z0a]
  simp only[z0h,oldN,newN]
  exact⟨i1,by omega,by omega,by omega⟩
 |n,.C::p,.K d::q,[],hn,ho,hm,hp,hq,hl=>by simp[oldN] at ho
 |n,.C::p,.K d::q,x::l,hn,ho,hm,hp,hq,hl=>by
  simp only[qi] at hn
  obtain⟨n,rfl⟩:∃k,n=k+1:=⟨n- 1,by omega⟩
  obtain⟨i1,i2,i3,i4⟩:=z0N n p q l (by omega) (by simpa[oldN] using ho) (by simpa[oldN] using hm) hp hq.2 (fun y hy=>hl y (by simp[hy]))
  rw[z0a]
  simp only[z0h,oldN,newN]
  exact⟨i1,by omega,by omega,by omega⟩
 |n,.C::p,.C::q,[],hn,ho,hm,hp,hq,hl=>by simp[oldN] at ho
 |n,.C::p,.C::q,x::l,hn,ho,hm,hp,hq,hl=>by
  simp only[qi] at hn
  obtain⟨n,rfl⟩:∃k,n=k+1:=⟨n- 1,by omega⟩
  obtain⟨i1,i2,i3,i4⟩:=z0N n p q l (by omega) (by simpa[oldN] using ho) (by simpa[oldN] using hm) hp hq (fun y hy=>hl y (by simp[hy]))
  rw[z0a]
  simp only[z0h,oldN,newN]
  exact⟨i1,by omega,by omega,by omega⟩
 |n,[],[],l,hn,ho,hm,hp,hq,hl=>by simp[z0a,z0h,oldN,newN]
 |n,[],.K d::q,l,hn,ho,hm,hp,hq,hl=>by simp only[oldN] at ho hm;omega
 |n,[],.C::q,l,hn,ho,hm,hp,hq,hl=>by simp only[oldN] at ho hm;omega
 |n,.K c::p,[],l,hn,ho,hm,hp,hq,hl=>by simp only[oldN] at ho hm;omega
 |n,.C::p,[],l,hn,ho,hm,hp,hq,hl=>by simp only[oldN] at ho hm;omega
theorem z09:∀(n:Nat) (p q:List DU),p.length+q.length<=n->newN p=oldN q->oldN (z0g p q)=oldN p/\newN (z0g p q)=newN q
 |n,.C::p,q,hn,hm=>by
  simp only[qi] at hn
  obtain⟨n,rfl⟩:∃k,n=k+1:=⟨n- 1,by omega⟩
  have i:=z09 n p q (by omega) (by simpa[newN] using hm)
  rw[z0g];simp only[oldN,newN];omega
 |n,[],.A e::q,hn,hm=>by
  simp only[qi] at hn
  obtain⟨n,rfl⟩:∃k,n=k+1:=⟨n- 1,by omega⟩
  have i:=z09 n [] q (by simp only[zh] at hn|-;omega) (by simpa[oldN] using hm)
  rw[z0g]
  ·simp only[oldN,newN] at i|-;omega
  ·intro p hp;cases hp
 |n,.A a::p,.A e::q,hn,hm=>by
  simp only[qi] at hn
  obtain⟨n,rfl⟩:∃k,n=k+1:=⟨n- 1,by omega⟩
  have i:=z09 n (.A a::p) q (by simp only[qi];omega) (by simpa[oldN] using hm)
  rw[z0g]
  ·simp only[oldN,newN] at i|-;omega
  ·intro p hp;cases hp
 |n,.K c::p,.A e::q,hn,hm=>by
  simp only[qi] at hn
  obtain⟨n,rfl⟩:∃k,n=k+1:=⟨n- 1,by omega⟩
  have i:=z09 n (.K c::p) q (by simp only[qi];omega) (by simpa[oldN] using hm)
  rw[z0g]
  ·simp only[oldN,newN] at i|-;omega
  ·intro p hp;cases hp
 |n,.K c::p,.K d::q,hn,hm=>by
  simp only[qi] at hn
  obtain⟨n,rfl⟩:∃k,n=k+1:=⟨n- 1,by omega⟩
  have i:=z09 n p q (by omega) (by simpa[newN,oldN] using hm)
  rw[z0g];simp only[oldN,newN];omega
 |n,.K c::p,.C::q,hn,hm=>by
  simp only[qi] at hn
  obtain⟨n,rfl⟩:∃k,n=k+1:=⟨n- 1,by omega⟩
  have i:=z09 n p q (by omega) (by simpa[newN,oldN] using hm)
  rw[z0g];simp only[oldN,newN];omega
 |n,.A a::p,.K d::q,hn,hm=>by
  simp only[qi] at hn
  obtain⟨n,rfl⟩:∃k,n=k+1:=⟨n- 1,by omega⟩
  have i:=z09 n p q (by omega) (by simpa[newN,oldN] using hm)
  rw[z0g];simp only[oldN,newN];omega
 |n,.A a::p,.C::q,hn,hm=>by
  simp only[qi] at hn
  obtain⟨n,rfl⟩:∃k,n=k+1:=⟨n- 1,by omega⟩
  have i:=z09 n p q (by omega) (by simpa[newN,oldN] using hm)
  rw[z0g];simp only[oldN,newN];omega
 |n,[],[],hn,hm=>by simp[z0g,oldN,newN]
 |n,[],.K d::q,hn,hm=>by simp[oldN,newN] at hm
 |n,[],.C::q,hn,hm=>by simp[oldN,newN] at hm
 |n,.K c::p,[],hn,hm=>by simp[oldN,newN] at hm
 |n,.A c::p,[],hn,hm=>by simp[oldN,newN] at hm
end Go.Ch
namespace Go.Ch
open Go Go.Ab
def kindD(l:List DStep):Int:=if l.length=0 then-1 else(l.getD 0 default).kind
end Go.Ch
end
section
set_option maxRecDepth 100000
set_option maxHeartbeats 4000000
open Go Go.Proofs Go.Ab
namespace Go.Ch
theorem z2u(l:List DStep)(u:Int):FC Tryz.prog 114 [.ptr 0 0] (app emp [(0,.box [VL 4 z0c l,VI u])]) (VI (kindD l)) (app emp [(0,.box [VL 4 z0c l,VI u])]):=by
 refine .go Tryz.f114 ?_
 refine .bp [.r [],.r [(4,X (Xl z0c l))]] ((l.length:Int)==0) (fun h1=> ?_) (fun h1=> ?_)
 ·
  have e1:((kindD l):Int)= -1:=by
   unfold kindD;((repeat' split)<;>first|rfl|omega| (simp_all;done)| (simp_all;omega))
  exact .finE [.r []] [(0,0)] (fun z0:Int=>(VI z0,[(0,.box [VL 4 z0c l,VI u])])) _ _ e1
 ·
  have e2:((kindD l):Int)=((l.getD 0 default)).kind:=by
   unfold kindD;((repeat' split)<;>first|rfl|omega| (simp_all;done)| (simp_all;omega))
  exact .finE [.r [(4,X (Xi z0c l 0))]] [(0,0)] (fun z0:Int=>(VI z0,[(0,.box [VL 4 z0c l,VI u])])) _ _ e2
theorem z2v(l:List DStep)(u:Int)(h0:0<l.length)(hb: -9223372036854775808<=szD (l.getD 0 default)- u/\szD (l.getD 0 default)- u<=9223372036854775807):FC Tryz.prog 116 [.ptr 0 0] (app emp [(0,.box [VL 4 z0c l,VI u])]) (VI (szD (l.getD 0 default)- u)) (app emp [(0,.box [VL 4 z0c l,VI u])]):=by
 refine .go Tryz.f116 ?_
 have e1:((szD (l.getD 0 default)- u):Int)=((szD ((l.getD 0 default)))- u):=by
  (first|omega|with_reducible exact fun h=>h| (intro hq;rw[hq];done)| (intro hq;rw[hq];rfl)| (simp only[qg];done)| (simp only[qg];omega)| (simp;omega)| (simp;done))
 exact .finE [.r [],.r [(4,X (Xi z0c l 0)),(6,X (Xc0 (z20 ((l.getD 0 default))) X0)),(11,X (Xn ((szD ((l.getD 0 default)))- u)))]] [(0,0)] (fun z0:Int=>(VI z0,[(0,.box [VL 4 z0c l,VI u])])) _ _ e1
def tkE(l:List DStep)(u n:Int):DStep:=if(l.getD 0 default).kind=1 then⟨(l.getD 0 default).kind,(l.getD 0 default).n,(l.getD 0 default).attrs,((l.getD 0 default).elems.take (u+n).toNat).drop u.toNat⟩ else⟨(l.getD 0 default).kind,n,(l.getD 0 default).attrs,(l.getD 0 default).elems⟩
def tkL(l:List DStep)(u n:Int):List DStep:=if u+n=szD (l.getD 0 default) then l.drop 1 else l
def tkN(l:List DStep)(u n:Int):Int:=if u+n=szD (l.getD 0 default) then 0 else u+n
theorem y6B(l:List DStep)(u n:Int)(h0:0<l.length)(hu:0<=u/\0<=n/\u+n<=szD (l.getD 0 default)/\u+n<=9223372036854775807):FC Tryz.prog 115 [.ptr 0 0,VI n] (app emp [(0,.box [VL 4 z0c l,VI u])]) (.t (z0c (tkE l u n))) (app emp [(0,.box [VL 4 z0c (tkL l u n),VI (tkN l u n)]),(1,.box [VI ((tkE l u n).kind),VI ((tkE l u n).n),VL 2 attrT ((tkE l u n).attrs),VL 3 elemT ((tkE l u n).elems)])]):=by
 refine .go Tryz.f115 ?_
 refine .bp [.r [],.r [(4,X (Xi z0c l 0))],.r []] ((((l.getD 0 default)).kind)==1) (fun h2=> ?_) (fun h2=> ?_)
 ·
  have hsz:szD (l.getD 0 default)=(l.getD 0 default).elems.length:=by unfold szD;rw[if_pos (by omega)]
  refine .bp [.r [(11,X (Xn (u+n))),(12,X (Xsb elemT 3 (((l.getD 0 default)).elems) u (u+n)))],.r [(5,X (Xn (u+n)))],.r [(8,X (Xi z0c l 0)),(10,X (Xc0 (z20 ((l.getD 0 default))) X0))]] ((u+n)==(szD ((l.getD 0 default)))) (fun h6=> ?_) (fun h6=> ?_)
  ·
   have e1:((tkL l u n):List DStep)=(l.drop 1):=by
    simp only[tkE,tkL,tkN];((repeat' split)<;>first|rfl|omega| (simp_all;done)| (simp_all;omega))
   have e2:((tkN l u n):Int)=0:=by
    simp only[tkE,tkL,tkN];((repeat' split)<;>first|rfl|omega| (simp_all;done)| (simp_all;omega))
   have e3:((tkE l u n).kind:Int)=((l.getD 0 default)).kind:=by
    simp only[tkE,tkL,tkN];((repeat' split)<;>first|rfl|omega| (simp_all;done)| (simp_all;omega))
   have e4:((tkE l u n).n:Int)=((l.getD 0 default)).n:=by
    simp only[tkE,tkL,tkN];((repeat' split)<;>first|rfl|omega| (simp_all;done)| (simp_all;omega))
   have e5:((tkE l u n).attrs:List Attr)=((l.getD 0 default)).attrs:=by
    simp only[tkE,tkL,tkN];((repeat' split)<;>first|rfl|omega| (simp_all;done)| (simp_all;omega))
   have e6:((tkE l u n).elems:List Elem)=(((((l.getD 0 default)).elems).take (Int.toNat (u+n))).drop (Int.toNat u)):=by
    simp only[tkE,tkL,tkN];((repeat' split)<;>first|rfl|omega| (simp_all;done)| (simp_all;omega))
   have e7:((tkE l u n):DStep)=({kind:=((l.getD 0 default)).kind,n:=((l.getD 0 default)).n,attrs:=((l.getD 0 default)).attrs,elems:=(((((l.getD 0 default)).elems).take (Int.toNat (u+n))).drop (Int.toNat u))}:DStep):=by
    simp only[tkE,tkL,tkN];((repeat' split)<;>first|rfl|omega| (simp_all;done)| (simp_all;omega))
   exact .finE [.r [(6,X (Xsd z0c 4 l 1))],.r []] [(0,0),(1,1)] (fun((z0,z1,z2,z3,z4,z5,z6):(List DStep)×Int×Int×Int×(List Attr)×(List Elem)×DStep)=>(.t (z0c z6),[(0,.box [VL 4 z0c z0,VI z1]),(1,.box [VI z2,VI z3,VL 2 attrT z4,VL 3 elemT z5])])) _ _ (pr e1 (pr e2 (pr e3 (pr e4 (pr e5 (pr e6 e7))))))
  ·
   have e8:((tkL l u n):List DStep)=l:=by
    simp only[tkE,tkL,tkN];((repeat' split)<;>first|rfl|omega| (simp_all;done)| (simp_all;omega))
   have e9:((tkN l u n):Int)=(u+n):=by
    simp only[tkE,tkL,tkN];((repeat' split)<;>first|rfl|omega| (simp_all;done)| (simp_all;omega))
   have e10:((tkE l u n).kind:Int)=((l.getD 0 default)).kind:=by
    simp only[tkE,tkL,tkN];((repeat' split)<;>first|rfl|omega| (simp_all;done)| (simp_all;omega))
   have e11:((tkE l u n).n:Int)=((l.getD 0 default)).n:=by
    simp only[tkE,tkL,tkN];((repeat' split)<;>first|rfl|omega| (simp_all;done)| (simp_all;omega))
   have e12:((tkE l u n).attrs:List Attr)=((l.getD 0 default)).attrs:=by
    simp only[tkE,tkL,tkN];((repeat' split)<;>first|rfl|omega| (simp_all;done)| (simp_all;omega))
   have e13:((tkE l u n).elems:List Elem)=(((((l.getD 0 default)).elems).take (Int.toNat (u+n))).drop (Int.toNat u)):=by
    simp only[tkE,tkL,tkN];((repeat' split)<;>first|rfl|omega| (simp_all;done)| (simp_all;omega))
   have e14:((tkE l u n):DStep)=({kind:=((l.getD 0 default)).kind,n:=((l.getD 0 default)).n,attrs:=((l.getD 0 default)).attrs,elems:=(((((l.getD 0 default)).elems).take (Int.toNat (u+n))).drop (Int.toNat u))}:DStep):=by
    simp only[tkE,tkL,tkN];((repeat' split)<;>first|rfl|omega| (simp_all;done)| (simp_all;omega))
   exact .finE [.r []] [(0,0),(1,1)] (fun((z0,z1,z2,z3,z4,z5,z6):(List DStep)×Int×Int×Int×(List Attr)×(List Elem)×DStep)=>(.t (z0c z6),[(0,.box [VL 4 z0c z0,VI z1]),(1,.box [VI z2,VI z3,VL 2 attrT z4,VL 3 elemT z5])])) _ _ (pr e8 (pr e9 (pr e10 (pr e11 (pr e12 (pr e13 e14))))))
 ·
  refine .bp [.r [],.r [(5,X (Xn (u+n)))],.r [(8,X (Xi z0c l 0)),(10,X (Xc0 (z20 ((l.getD 0 default))) X0))]] ((u+n)==(szD ((l.getD 0 default)))) (fun h6=> ?_) (fun h6=> ?_)
  ·
   have e15:((tkL l u n):List DStep)=(l.drop 1):=by
    simp only[tkE,tkL,tkN];((repeat' split)<;>first|rfl|omega| (simp_all;done)| (simp_all;omega))
   have e16:((tkN l u n):Int)=0:=by
    simp only[tkE,tkL,tkN];((repeat' split)<;>first|rfl|omega| (simp_all;done)| (simp_all;omega))
   have e17:((tkE l u n).kind:Int)=((l.getD 0 default)).kind:=by
    simp only[tkE,tkL,tkN];((repeat' split)<;>first|rfl|omega| (simp_all;done)| (simp_all;omega))
   have e18:((tkE l u n).n:Int)=n:=by
    simp only[tkE,tkL,tkN];((repeat' split)<;>first|rfl|omega| (simp_all;done)| (simp_all;omega))
   have e19:((tkE l u n).attrs:List Attr)=((l.getD 0 default)).attrs:=by
    simp only[tkE,tkL,tkN];((repeat' split)<;>first|rfl|omega| (simp_all;done)| (simp_all;omega))
   have e20:((tkE l u n).elems:List Elem)=((l.getD 0 default)).elems:=by
    simp only[tkE,tkL,tkN];((repeat' split)<;>first|rfl|omega| (simp_all;done)| (simp_all;omega))
   have e21:((tkE l u n):DStep)=({kind:=((l.getD 0 default)).kind,n:=n,attrs:=((l.getD 0 default)).attrs,elems:=((l.getD 0 default)).elems}:DStep):=by
    simp only[tkE,tkL,tkN];((repeat' split)<;>first|rfl|omega| (simp_all;done)| (simp_all;omega))
   exact .finE [.r [(6,X (Xsd z0c 4 l 1))],.r []] [(0,0),(1,1)] (fun((z0,z1,z2,z3,z4,z5,z6):(List DStep)×Int×Int×Int×(List Attr)×(List Elem)×DStep)=>(.t (z0c z6),[(0,.box [VL 4 z0c z0,VI z1]),(1,.box [VI z2,VI z3,VL 2 attrT z4,VL 3 elemT z5])])) _ _ (pr e15 (pr e16 (pr e17 (pr e18 (pr e19 (pr e20 e21))))))
  ·
   have e22:((tkL l u n):List DStep)=l:=by
    simp only[tkE,tkL,tkN];((repeat' split)<;>first|rfl|omega| (simp_all;done)| (simp_all;omega))
   have e23:((tkN l u n):Int)=(u+n):=by
    simp only[tkE,tkL,tkN];((repeat' split)<;>first|rfl|omega| (simp_all;done)| (simp_all;omega))
   have e24:((tkE l u n).kind:Int)=((l.getD 0 default)).kind:=by
    simp only[tkE,tkL,tkN];((repeat' split)<;>first|rfl|omega| (simp_all;done)| (simp_all;omega))
   have e25:((tkE l u n).n:Int)=n:=by
    simp only[tkE,tkL,tkN];((repeat' split)<;>first|rfl|omega| (simp_all;done)| (simp_all;omega))
   have e26:((tkE l u n).attrs:List Attr)=((l.getD 0 default)).attrs:=by
    simp only[tkE,tkL,tkN];((repeat' split)<;>first|rfl|omega| (simp_all;done)| (simp_all;omega))
   have e27:((tkE l u n).elems:List Elem)=((l.getD 0 default)).elems:=by
    simp only[tkE,tkL,tkN];((repeat' split)<;>first|rfl|omega| (simp_all;done)| (simp_all;omega))
   have e28:((tkE l u n):DStep)=({kind:=((l.getD 0 default)).kind,n:=n,attrs:=((l.getD 0 default)).attrs,elems:=((l.getD 0 default)).elems}:DStep):=by
    simp only[tkE,tkL,tkN];((repeat' split)<;>first|rfl|omega| (simp_all;done)| (simp_all;omega))
   exact .finE [.r []] [(0,0),(1,1)] (fun((z0,z1,z2,z3,z4,z5,z6):(List DStep)×Int×Int×Int×(List Attr)×(List Elem)×DStep)=>(.t (z0c z6),[(0,.box [VL 4 z0c z0,VI z1]),(1,.box [VI z2,VI z3,VL 2 attrT z4,VL 3 elemT z5])])) _ _ (pr e22 (pr e23 (pr e24 (pr e25 (pr e26 (pr e27 e28))))))
end Go.Ch
end
section
namespace Go.Ch
open Go Go.Ab
def ruD(l:List DStep)(u:Int):List DU:=(exD l).drop u.toNat
structure GoodRD(l:List DStep)(u:Int):Prop where
 ok:∀s∈l,DOk s
 pos:0<=u
 lt:0<l.length->u<szD (l.getD 0 default)
 nil:l.length=0->u=0
theorem y4n{s:DStep}(h:DOk s):((exS s).length:Int)=szD s:=by
 unfold exS szD
 rcases h with⟨k,_⟩| ⟨k,_,_,n1,_⟩
 ·rw[if_pos k,if_pos k,qg]
 ·have k1:¬s.kind=1:=by omega
  rw[if_neg k1,if_neg k1]
  split<;>rw[qW]<;>omega
theorem ruD0(l:List DStep):ruD l 0=exD l:=rfl
theorem z2C{l:List DStep}{u:Int}(h:l.length=0):ruD l u=[]:=by
 rw[zN.1 h];unfold ruD;simp[exD]
theorem z6p{l:List DStep}{u n:Int}(ho:DOk (l.getD 0 default))(hu:0<=u)(hn:0<=n)(hl:u+n<=szD (l.getD 0 default)):
 (exS (l.getD 0 default)).drop u.toNat=exS (tkE l u n)++(exS (l.getD 0 default)).drop (u+n).toNat:=by
 unfold tkE
 generalize l.getD 0 default=s at*
 have hz:(u+n).toNat=u.toNat+n.toNat:=by omega
 unfold szD at hl
 by_cases k1:s.kind=1
 ·rw[if_pos k1] at hl|-
  unfold exS
  simp only[if_pos k1]
  rw[<-List.map_drop,<-List.map_drop,<-List.map_append]
  congr 1
  conv=>lhs;rw[<-List.take_append_drop (u+n).toNat s.elems]
  rw[jf (by rw[qX];omega)]
 ·rw[if_neg k1] at hl|-
  unfold exS
  simp only[if_neg k1]
  split
  ·rw[List.drop_replicate,List.drop_replicate,zR];congr 1;omega
  ·rw[List.drop_replicate,List.drop_replicate,zR];congr 1;omega
theorem z3c{l:List DStep}{u n:Int}(h:GoodRD l u)(h0:0<l.length)(hn:0<=n)(hl:u+n<=szD (l.getD 0 default)):
 GoodRD (tkL l u n) (tkN l u n)/\ruD l u=exS (tkE l u n)++ruD (tkL l u n) (tkN l u n):=by
 have ho:DOk (l.getD 0 default):=h.ok _ (z0e h0)
 have hz:=y4n ho
 have hp:=h.pos
 have hs:=z6p ho hp hn hl
 have hd:=dropD (l:=l) (i:=0) h0
 rw[zS] at hd
 have he:exD l=exS (l.getD 0 default)++exD (l.drop 1):=by conv=>lhs;rw[hd,exD]
 have hlt:=h.lt h0
 unfold tkL tkN
 by_cases e:u+n=szD (l.getD 0 default)
 ·rw[if_pos e,if_pos e]
  refine⟨⟨fun s hs=>h.ok s (zc hs),zO _,fun h1=> ?_,fun _=>rfl⟩,?_⟩
  ·have:=z0V (z0J.2 (h.ok _ (zc (z0e h1))))
   omega
  ·rw[ruD0]
   unfold ruD
   rw[he,jf (by omega),hs,qT (show(exS (l.getD 0 default)).length<=(u+n).toNat by omega),qQ]
 ·rw[if_neg e,if_neg e]
  refine⟨⟨h.ok,by omega,fun _=>by omega,fun h1=>by omega⟩,?_⟩
  unfold ruD
  rw[he,jf (by omega),jf (by omega),hs,qE]
theorem jd_C(n:Nat)(p q:List DU):z0g (List.replicate n .C++p) q=List.replicate n .C++z0g p q:=by
 induction n with
 |zero=>rfl
 |succ n ih=>rw[qo,qe,z0g,ih,qe]
def NoCD:List DU->Prop
 | .C::_=>False
 |_=>True
theorem jd_A1{p:List DU}(hp:NoCD p)(e:Elem)(q:List DU):z0g p (.A e::q)= .A e::z0g p q:=by
 rw[z0g]
 intro p' h
 subst h
 exact hp
theorem jd_A(e:List Elem){p:List DU}(hp:NoCD p)(q:List DU):z0g p (e.map .A++q)=e.map .A++z0g p q:=by
 induction e with
 |nil=>rfl
 |cons x e ih=>rw[q9,qe,jd_A1 hp,ih,qe]
theorem jd_KK(n:Nat)(c d:List Attr)(p q:List DU):z0g (List.replicate n (.K c)++p) (List.replicate n (.K d)++q)=List.replicate n (.K (fm botG c d))++z0g p q:=by
 induction n with
 |zero=>rfl
 |succ n ih=>rw[qo,qo,qo,qe,qe,z0g,ih,qe]
theorem jd_KC(n:Nat)(c:List Attr)(p q:List DU):z0g (List.replicate n (.K c)++p) (List.replicate n .C++q)=List.replicate n .C++z0g p q:=by
 induction n with
 |zero=>rfl
 |succ n ih=>rw[qo,qo,qe,qe,z0g,ih,qe]
theorem jd_AK(e:List Elem)(d:List Attr)(p q:List DU):z0g (e.map .A++p) (List.replicate e.length (.K d)++q)=(e.map (chgE d)).map .A++z0g p q:=by
 induction e with
 |nil=>rfl
 |cons x e ih=>rw[q9,qi,qo,qe,qe,z0g,ih];rfl
theorem jd_AC(e:List Elem)(p q:List DU):z0g (e.map .A++p) (List.replicate e.length .C++q)=z0g p q:=by
 induction e with
 |nil=>rfl
 |cons x e ih=>rw[q9,qi,qo,qe,qe,z0g,ih]
end Go.Ch
end
section
namespace Go.Ch
open Go Go.Ab
structure JD(w:DWr)(ps:List DStep)(pu:Int)(qs:List DStep)(qu:Int)(T:Nat)(G:DWr):Prop where
 gp:GoodRD ps pu
 gq:GoodRD qs qu
 dp:DN 100000000000 ps
 dq:DN 100000000000 qs
 eq:newN (ruD ps pu)=oldN (ruD qs qu)
 di:DI w (z0g (ruD ps pu) (ruD qs qu)) T G
def jmD(ps:List DStep)(pu:Int)(qs:List DStep)(qu:Int):Nat:=(ruD ps pu).length+(ruD qs qu).length
theorem dn_tk{m:Nat}{l:List DStep}{u n:Int}(h:DN m l):DN m (tkL l u n):=by
 unfold tkL;split
 ·exact fun s hs=>h s (zc hs)
 ·exact h
theorem exS_C{l:List DStep}{u n:Int}(k:(l.getD 0 default).kind=2):exS (tkE l u n)=List.replicate n.toNat .C:=by
 unfold tkE
 rw[if_neg (by omega)]
 unfold exS
 simp only
 rw[if_neg (by omega),if_pos k]
theorem exS_A{l:List DStep}{u n:Int}(k:(l.getD 0 default).kind=1):exS (tkE l u n)=(tkE l u n).elems.map .A:=by
 unfold tkE
 rw[if_pos k]
 unfold exS
 simp only
 rw[if_pos k]
theorem exS_K{l:List DStep}{u n:Int}(k:(l.getD 0 default).kind=0):exS (tkE l u n)=List.replicate n.toNat (.K (l.getD 0 default).attrs):=by
 unfold tkE
 rw[if_neg (by omega)]
 unfold exS
 simp only
 rw[if_neg (by omega),if_neg (by omega)]
section
variable {w:DWr} {ps qs:List DStep} {pu qu:Int} {T:Nat} {G:DWr}
theorem JD.cut(h:JD w ps pu qs qu T G)(h0:0<ps.length)(hk:(ps.getD 0 default).kind=2){n:Int}(hn:n=szD (ps.getD 0 default)- pu):
 JD ⟨w.out,w.add,w.cut+n⟩ (tkL ps pu n) (tkN ps pu n) qs qu T G/\jmD (tkL ps pu n) (tkN ps pu n) qs qu<jmD ps pu qs qu:=by
 have hl:=h.gp.lt h0
 obtain⟨g,e⟩:=z3c (n:=n) h.gp h0 (by omega) (by omega)
 rw[exS_C hk] at e
 have hd:=h.di
 have he:=h.eq
 rw[e,jd_C] at hd
 rw[e,z1C,(z2B _).2] at he
 have hd2:=hd.cuts
 rw[show((n.toNat:Nat):Int)=n by omega] at hd2
 refine⟨⟨g,h.gq,dn_tk h.dp,h.dq,by omega,hd2⟩,?_⟩
 unfold jmD
 rw[e,List.length_append,List.length_replicate]
 omega
theorem noCD{l:List DStep}{u:Int}(h:GoodRD l u)(hk:0<l.length->(l.getD 0 default).kind≠2):NoCD (ruD l u):=by
 by_cases h0:0<l.length
 ·have hl:=h.lt h0
  have hp:=h.pos
  have k2:=hk h0
  obtain⟨g,e⟩:=z3c (n:=1) h h0 (by decide) (by omega)
  have hs:=(z0V (z0J.2 (h.ok _ (z0e h0)))).1
  rcases hs with k|k|k
  ·rw[e,exS_K k];trivial
  ·rw[e,exS_A k]
   have hem:(tkE l u 1).elems.length=1:=by
    unfold tkE
    rw[if_pos k]
    simp only[List.length_drop,List.length_take]
    have:szD (l.getD 0 default)=(l.getD 0 default).elems.length:=by unfold szD;rw[if_pos k]
    omega
   generalize(tkE l u 1).elems=z at hem
   cases z with
   |nil=>simp at hem
   |cons x r=>trivial
  ·exact absurd k k2
 ·rw[z2C (by omega)];trivial
theorem JD.add(h:JD w ps pu qs qu T G)(hp:0<ps.length->(ps.getD 0 default).kind≠2)(h0:0<qs.length)(hk:(qs.getD 0 default).kind=1){n:Int}(hn:n=szD (qs.getD 0 default)- qu):
 JD ⟨w.out,w.add++(tkE qs qu n).elems,w.cut⟩ ps pu (tkL qs qu n) (tkN qs qu n) T G:=by
 have hl:=h.gq.lt h0
 obtain⟨g,e⟩:=z3c (n:=n) h.gq h0 (by omega) (by omega)
 rw[exS_A hk] at e
 have hd:=h.di
 have he:=h.eq
 rw[e,jd_A _ (noCD h.gp hp)] at hd
 rw[e,z0E,(z1S _).1] at he
 exact⟨h.gp,g,h.dp,dn_tk h.dq,by omega,hd.elems⟩
theorem z34{l:List DStep}{u n:Int}(k:(l.getD 0 default).kind=1)(hu:0<=u)(hn:0<=n)(hl:u+n<=szD (l.getD 0 default)):(tkE l u n).elems.length=n.toNat:=by
 unfold tkE
 rw[if_pos k]
 simp only[List.length_drop,List.length_take]
 have:szD (l.getD 0 default)=(l.getD 0 default).elems.length:=by unfold szD;rw[if_pos k]
 omega
theorem JD.both(h:JD w ps pu qs qu T G)(a:0<ps.length)(b:0<qs.length)(kp:(ps.getD 0 default).kind≠2)(kq:(qs.getD 0 default).kind≠1){n:Int}(hn:n=min (szD (ps.getD 0 default)- pu) (szD (qs.getD 0 default)- qu)):
 (((ps.getD 0 default).kind=0/\(qs.getD 0 default).kind=0->JD ⟨keepD (z0b w) n (fm botG (ps.getD 0 default).attrs (qs.getD 0 default).attrs),[],0⟩ (tkL ps pu n) (tkN ps pu n) (tkL qs qu n) (tkN qs qu n) T G)/\
 ((ps.getD 0 default).kind=0/\(qs.getD 0 default).kind=2->JD ⟨w.out,w.add,w.cut+n⟩ (tkL ps pu n) (tkN ps pu n) (tkL qs qu n) (tkN qs qu n) T G)/\
 ((ps.getD 0 default).kind=1/\(qs.getD 0 default).kind=0->JD ⟨w.out,w.add++(tkE ps pu n).elems.map (chgE (qs.getD 0 default).attrs),w.cut⟩ (tkL ps pu n) (tkN ps pu n) (tkL qs qu n) (tkN qs qu n) T G)/\
 ((ps.getD 0 default).kind=1/\(qs.getD 0 default).kind=2->JD w (tkL ps pu n) (tkN ps pu n) (tkL qs qu n) (tkN qs qu n) T G))/\
 jmD (tkL ps pu n) (tkN ps pu n) (tkL qs qu n) (tkN qs qu n)< jmD ps pu qs qu:=by
 have l1:=h.gp.lt a
 have l2:=h.gq.lt b
 have p1:=h.gp.pos
 have p2:=h.gq.pos
 obtain⟨g1,e1⟩:=z3c (n:=n) h.gp a (by omega) (by omega)
 obtain⟨g2,e2⟩:=z3c (n:=n) h.gq b (by omega) (by omega)
 have hd:=h.di
 have he:=h.eq
 have k1:=(z0V (z0J.2 (h.gp.ok _ (z0e a)))).1
 have k2:=(z0V (z0J.2 (h.gq.ok _ (z0e b)))).1
 refine⟨⟨fun k=> ?_,fun k=> ?_,fun k=> ?_,fun k=> ?_⟩,?_⟩
 ·rw[e1,e2,exS_K k.1,exS_K k.2] at hd he
  rw[jd_KK,show n.toNat=(n.toNat- 1)+1 by omega] at hd
  rw[z1C,z0E,(z1t _ _).1,(z1t _ _).2] at he
  have hd2:=hd.keep
  rw[show(((n.toNat- 1+1:Nat)):Int)=n by omega] at hd2
  exact⟨g1,g2,dn_tk h.dp,dn_tk h.dq,by omega,hd2⟩
 ·rw[e1,e2,exS_K k.1,exS_C k.2] at hd he
  rw[jd_KC] at hd
  rw[z1C,z0E,(z2B _).1,(z1t _ _).2] at he
  have hd2:=hd.cuts
  rw[show((n.toNat:Nat):Int)=n by omega] at hd2
  exact⟨g1,g2,dn_tk h.dp,dn_tk h.dq,by omega,hd2⟩
 ·have hz:=z34 (n:=n) k.1 p1 (by omega) (by omega)
  rw[e1,e2,exS_A k.1,exS_K k.2] at hd he
  rw[z1C,z0E,(z1t _ _).1,(z1S _).2] at he
  rw[<-hz,jd_AK] at hd
  exact⟨g1,g2,dn_tk h.dp,dn_tk h.dq,by omega,hd.elems⟩
 ·have hz:=z34 (n:=n) k.1 p1 (by omega) (by omega)
  rw[e1,e2,exS_A k.1,exS_C k.2] at hd he
  rw[z1C,z0E,(z2B _).1,(z1S _).2] at he
  rw[<-hz,jd_AC] at hd
  exact⟨g1,g2,dn_tk h.dp,dn_tk h.dq,by omega,hd⟩
 ·have hs:=y4n (h.gp.ok _ (z0e a))
  have hl:=congrArg List.length (z6p (n:=n) (h.gp.ok _ (z0e a)) p1 (by omega) (by omega))
  simp only[List.length_append,List.length_drop] at hl
  unfold jmD
  rw[e1,e2,List.length_append,List.length_append]
  omega
end
end Go.Ch
end
section
namespace Go.Ch
open Go Go.Ab
theorem z85(p q:List DU)(hp:KOk p)(hq:KOk q):∀u∈z0g p q,z0G u:=by
 have okA:∀e:Elem,elemE e=0/\e.attrs.length<=100000000000->z0G (.A e):=fun e h=>⟨h.1,by omega⟩
 have okK:∀c:List Attr,VG true c/\c.length<=100000000000->z0G (.K c):=fun e h=>⟨h.1,by omega⟩
 have okU:∀us:List DU,KOk us->∀u∈us,z0G u:=fun us h u hu=>by
  cases u with
  |K c=>exact okK c (h.1 c hu)
  |A e=>exact okA e (h.2 e hu)
  |C=>trivial
 induction p,q using z0g.induct with
 |case1 q p ih=>
  rw[z0g]
  intro u hu
  rcases qn.1 hu with rfl|hu
  ·trivial
  ·exact ih hp.tail hq u hu
 |case2 p e q hne ih=>
  rw[z0g]
  rotate_left
  ·exact hne
  intro u hu
  rcases qn.1 hu with rfl|hu
  ·exact okA _ (hq.2 e (by simp))
  ·exact ih hp hq.tail u hu
 |case3 c p d q ih=>
  rw[z0g]
  intro u hu
  rcases qn.1 hu with rfl|hu
  ·have h1:=hp.1 c (by simp)
   have h2:=hq.1 d (by simp)
   have:=z0Z botG c d
   exact⟨bot_V np_mt h1.1 h2.1,by omega⟩
  ·exact ih hp.tail hq.tail u hu
 |case4 c p q ih=>
  rw[z0g]
  intro u hu
  rcases qn.1 hu with rfl|hu
  ·trivial
  ·exact ih hp.tail hq.tail u hu
 |case5 e p d q ih=>
  rw[z0g]
  intro u hu
  rcases qn.1 hu with rfl|hu
  ·have h1:=hp.2 e (by simp)
   have h2:=hq.1 d (by simp)
   have:=z0Z rawG e.attrs d
   refine⟨y8C h1.1 h2.1,?_⟩
   show(fm rawG e.attrs d).length<=_
   omega
  ·exact ih hp.tail hq.tail u hu
 |case6 e p q ih=>
  rw[z0g]
  exact ih hp.tail hq.tail
 |case7 p hne=>
  rw[show z0g p []=p by unfold z0g;split<;>simp_all]
  exact okU _ hp
 |case8 q h1 h2=>
  rw[show z0g [] q=[] by unfold z0g;split<;>simp_all]
  intro u hu;cases hu
def joinD(a b:List DStep):List DStep:=doneD (z0g (exD a) (exD b))
theorem z7W{l:List DStep}(h:z0D l):GoodRD l 0:=⟨h.1.all,zO _,fun h0=>by have:=z0V (z0J.2 (h.1.all _ (z0e h0)));omega,fun _=>rfl⟩
theorem z62{l:List DStep}(h:z0D l):(oldN (exD l):Int)=oldD l/\(newN (exD l):Int)=newD l:=z82 (fun s hs=>okW (h.1.all s hs))
theorem z63{a b:List DStep}(va:z0D a)(vb:z0D b)(da:DN 100000000000 a)(db:DN 100000000000 b)(hm:newD a=oldD b):
 (∀u∈z0g (exD a) (exD b),z0G u)/\(oldN (z0g (exD a) (exD b)):Int)=oldD a/\(newN (z0g (exD a) (exD b)):Int)=newD b/\
 JD ⟨[],[],0⟩ a 0 b 0 (z0g (exD a) (exD b)).length (foldD ⟨[],[],0⟩ (z0g (exD a) (exD b)))/\z0D (joinD a b)/\DSw (exD (joinD a b)) (z0g (exD a) (exD b))/\
 oldD (joinD a b)=oldD a/\newD (joinD a b)=newD b:=by
 have hu:=z85 _ _ (exD_K va.1.all da) (exD_K vb.1.all db)
 have la:=z62 va
 have lb:=z62 vb
 have hl:=z09 _ (exD a) (exD b) (qr _) (by omega)
 have hs:=y0s (z0g (exD a) (exD b))
 have a1:=va.2.1
 have b1:=vb.2.2
 obtain⟨d1,d2,d3,d4⟩:=z1Y hu (by omega) (by omega)
 exact⟨hu,by omega,by omega,⟨z7W va,z7W vb,da,db,by rw[ruD0,ruD0];omega,by rw[ruD0,ruD0];exact DI.start hu (by omega)⟩,d1,d2,by unfold joinD;omega,by unfold joinD;omega⟩
theorem y1J{l:List DStep}{u:Int}(h:GoodRD l u)(h0:0<l.length):((l.getD 0 default).kind≠1->1<=oldN (ruD l u))/\((l.getD 0 default).kind≠2->1<=newN (ruD l u)):=by
 have hl:=h.lt h0
 have hp:=h.pos
 obtain⟨g,e⟩:=z3c (n:=1) h h0 (by decide) (by omega)
 have hs:=(z0V (z0J.2 (h.ok _ (z0e h0)))).1
 rcases hs with k|k|k
 ·rw[e,exS_K k,z0E,z1C,(z1t _ _).1,(z1t _ _).2];constructor<;>intro _<;>omega
 ·have hz:=z34 (n:=1) k hp (by omega) (by omega)
  rw[e,exS_A k,z0E,z1C,(z1S _).1,(z1S _).2,hz];constructor<;>intro _<;>omega
 ·rw[e,exS_C k,z0E,z1C,(z2B _).1,(z2B _).2];constructor<;>intro _<;>omega
variable {w:DWr} {ps qs:List DStep} {pu qu:Int} {T:Nat} {G:DWr}
theorem JD.two(h:JD w ps pu qs qu T G)(h0:0<ps.length\/0<qs.length)(hp:0<ps.length->(ps.getD 0 default).kind≠2)(hq:0<qs.length->(qs.getD 0 default).kind≠1):0<ps.length/\0<qs.length:=by
 have he:=h.eq
 rcases Nat.eq_zero_or_pos ps.length with a|a
 ·rcases Nat.eq_zero_or_pos qs.length with b|b
  ·omega
  ·have:=(y1J h.gq b).1 (hq b)
   rw[z2C a] at he
   simp only[newN] at he
   omega
 ·rcases Nat.eq_zero_or_pos qs.length with b|b
  ·have:=(y1J h.gp a).2 (hp a)
   rw[z2C b] at he
   simp only[oldN] at he
   omega
  ·exact⟨a,b⟩
theorem JD.done(h:JD w ps pu qs qu T G)(a:ps.length=0)(b:qs.length=0):w=G:=by
 have:=h.di
 rw[z2C a,z2C b] at this
 exact DI.done (by simpa[z0g] using this)
theorem JD.add2(h:JD w ps pu qs qu T G)(hp:0<ps.length->(ps.getD 0 default).kind≠2)(h0:0<qs.length)(hk:(qs.getD 0 default).kind=1){n:Int}(hn:n=szD (qs.getD 0 default)- qu):
 jmD ps pu (tkL qs qu n) (tkN qs qu n)< jmD ps pu qs qu:=by
 have hl:=h.gq.lt h0
 obtain⟨g,e⟩:=z3c (n:=n) h.gq h0 (by omega) (by omega)
 have hz:=z34 (n:=n) hk h.gq.pos (by omega) (by omega)
 rw[exS_A hk] at e
 unfold jmD
 rw[e,qc,qg,hz]
 omega
theorem z24{l:List DStep}{u:Int}(h:GoodRD l u):(kindD l= -1/\l.length=0)\/(kindD l=(l.getD 0 default).kind/\0<l.length/\(kindD l=0\/kindD l=1\/kindD l=2)):=by
 unfold kindD
 split
 ·rename_i h0;exact .inl ⟨rfl,h0⟩
 ·rename_i h0
  have h0':0<l.length:=by omega
  have hs:=(z0V (z0J.2 (h.ok _ (z0e h0')))).1
  exact .inr ⟨rfl,by omega,hs⟩
theorem k01{l:List DStep}{u:Int}(h:GoodRD l u)(h0:0<l.length)(k:(l.getD 0 default).kind≠2):(l.getD 0 default).kind=0\/(l.getD 0 default).kind=1:=by
 have:=(z0V (z0J.2 (h.ok _ (z0e h0)))).1
 omega
theorem k02{l:List DStep}{u:Int}(h:GoodRD l u)(h0:0<l.length)(k:(l.getD 0 default).kind≠1):(l.getD 0 default).kind=0\/(l.getD 0 default).kind=2:=by
 have:=(z0V (z0J.2 (h.ok _ (z0e h0)))).1
 omega
theorem z5i{l:List DStep}{u:Int}(h:GoodRD l u)(hd:DN 100000000000 l)(h0:0<l.length):0<=u/\u<szD (l.getD 0 default)/\szD (l.getD 0 default)<=100000000000/\
 (l.getD 0 default).attrs.length<=100000000000/\(l.getD 0 default).elems.length<=100000000000/\AN 100000000000 (l.getD 0 default).elems:=by
 have hs:=z0V (z0J.2 (h.ok _ (z0e h0)))
 obtain⟨b1,b2,b3⟩:=hd _ (z0e h0)
 have hl:=h.lt h0
 exact⟨h.pos,hl,by omega,b2,b1,b3⟩
theorem szD_k{l:List DStep}{u:Int}(h:GoodRD l u)(h0:0<l.length)(k:(l.getD 0 default).kind≠1):szD (l.getD 0 default)<=2147483647:=by
 have hs:=z0V (z0J.2 (h.ok _ (z0e h0)))
 have:szD (l.getD 0 default)=(l.getD 0 default).n:=by unfold szD;rw[if_neg k]
 omega
theorem z5z(l:List DStep)(u n:Int):(tkE l u n).kind=(l.getD 0 default).kind:=by unfold tkE;split<;>rfl
theorem z4B(l:List DStep)(u n:Int):(tkE l u n).attrs=(l.getD 0 default).attrs:=by unfold tkE;split<;>rfl
theorem tkE_n{l:List DStep}{u n:Int}(h:(l.getD 0 default).kind≠1):(tkE l u n).n=n:=by unfold tkE;rw[if_neg h]
theorem y1K{l:List DStep}{u n:Int}{m:Nat}(h:AN m (l.getD 0 default).elems):AN m (tkE l u n).elems:=by
 unfold tkE
 split
 ·exact fun x hx=>h x (qL (zc hx))
 ·exact h
theorem an_up{m k:Nat}{l:List Elem}(h:AN m l)(hm:m<=k):AN k l:=fun x hx=>zd (h x hx) hm
theorem y9R{m k:Nat}{l:List Elem}{c:List Attr}(h:AN m l)(hm:m+c.length<=k):AN k (l.map (chgE c)):=fun x hx=>by
 obtain⟨y,hy,rfl⟩:=qy.1 hx
 have h1:=h y hy
 have:=z0Z rawG y.attrs c
 show(fm rawG y.attrs c).length<=k
 omega
end Go.Ch
end
section
namespace Go.Ch
open Go Go.Ab
def NoAD:List DU->Prop
 | .A _::_=>False
 |_=>True
theorem pd_A1(e:Elem)(p q:List DU):z0a (.A e::p) q=(.A e::(z0a p q).1,.K []::(z0a p q).2):=by rw[z0a]
theorem y9S{p:List DU}(hp:NoAD p)(e:Elem)(q:List DU):z0a p (.A e::q)=(.K []::(z0a p q).1,.A e::(z0a p q).2):=by
 cases p with
 |nil=>rw[z0a]
 |cons u p=>
  cases u with
  |A x=>exact hp.elim
  |K c=>rw[z0a]
  |C=>rw[z0a]
theorem pd_A(e:List Elem)(p q:List DU):z0a (e.map .A++p) q=(e.map .A++(z0a p q).1,List.replicate e.length (.K [])++(z0a p q).2):=by
 induction e with
 |nil=>rfl
 |cons x e ih=>rw[q9,qe,pd_A1,ih];rfl
theorem pd_A2(e:List Elem){p:List DU}(hp:NoAD p)(q:List DU):z0a p (e.map .A++q)=(List.replicate e.length (.K [])++(z0a p q).1,e.map .A++(z0a p q).2):=by
 induction e with
 |nil=>rfl
 |cons x e ih=>rw[q9,qe,y9S hp,ih];rfl
theorem pd_KK(n:Nat)(c d:List Attr)(p q:List DU):z0a (List.replicate n (.K c)++p) (List.replicate n (.K d)++q)=(List.replicate n (.K (fm wioG c d))++(z0a p q).1,List.replicate n (.K d)++(z0a p q).2):=by
 induction n with
 |zero=>rfl
 |succ n ih=>rw[qo,qo,qo,qe,qe,z0a,ih];rfl
theorem pd_KC(n:Nat)(c:List Attr)(p q:List DU):z0a (List.replicate n (.K c)++p) (List.replicate n .C++q)=((z0a p q).1,List.replicate n .C++(z0a p q).2):=by
 induction n with
 |zero=>rfl
 |succ n ih=>rw[qo,qo,qe,qe,z0a,ih];rfl
theorem pd_CK(n:Nat)(c:List Attr)(p q:List DU):z0a (List.replicate n .C++p) (List.replicate n (.K c)++q)=(List.replicate n .C++(z0a p q).1,(z0a p q).2):=by
 induction n with
 |zero=>rfl
 |succ n ih=>rw[qo,qo,qe,qe,z0a,ih];rfl
theorem pd_CC(n:Nat)(p q:List DU):z0a (List.replicate n .C++p) (List.replicate n .C++q)=z0a p q:=by
 induction n with
 |zero=>rfl
 |succ n ih=>rw[qo,qe,qe,z0a,ih]
theorem z86(p q:List DU)(hp:KOk p)(hq:KOk q):(∀u∈(z0a p q).1,z0G u)/\(∀u∈(z0a p q).2,z0G u):=by
 have okA:∀e:Elem,elemE e=0/\e.attrs.length<=100000000000->z0G (.A e):=fun e h=>⟨h.1,by omega⟩
 have okK:∀c:List Attr,VG true c/\c.length<=100000000000->z0G (.K c):=fun e h=>⟨h.1,by omega⟩
 have ok0:z0G (.K []):=⟨z5h,by simp⟩
 have cons:∀(x:DU) (l:List DU),z0G x->(∀u∈l,z0G u)->∀u∈x::l,z0G u:=fun x l h k u hu=>by
  rcases qn.1 hu with rfl|hu
  ·exact h
  ·exact k u hu
 induction p,q using z0a.induct with
 |case1 e p q ih=>rw[z0a];have i:=ih hp.tail hq;exact⟨cons _ _ (okA e (hp.2 e (by simp))) i.1,cons _ _ ok0 i.2⟩
 |case2 e q ih=>rw[z0a];have i:=ih hp hq.tail;exact⟨cons _ _ ok0 i.1,cons _ _ (okA e (hq.2 e (by simp))) i.2⟩
 |case3 c p e q ih=>rw[z0a];have i:=ih hp hq.tail;exact⟨cons _ _ ok0 i.1,cons _ _ (okA e (hq.2 e (by simp))) i.2⟩
 |case4 p e q ih=>rw[z0a];have i:=ih hp hq.tail;exact⟨cons _ _ ok0 i.1,cons _ _ (okA e (hq.2 e (by simp))) i.2⟩
 |case5 c p d q ih=>
  rw[z0a]
  have i:=ih hp.tail hq.tail
  have h1:=hp.1 c (by simp)
  have h2:=hq.1 d (by simp)
  have:=z0Z wioG c d
  exact⟨cons _ _ ⟨wio_V np_mt h1.1 h2.1,by omega⟩ i.1,cons _ _ (okK d h2) i.2⟩
 |case6 c p q ih=>rw[z0a];have i:=ih hp.tail hq.tail;exact⟨i.1,cons _ _ trivial i.2⟩
 |case7 p d q ih=>rw[z0a];have i:=ih hp.tail hq.tail;exact⟨cons _ _ trivial i.1,i.2⟩
 |case8 p q ih=>rw[z0a];exact ih hp.tail hq.tail
 |case9 p hne=>
  rw[show z0a p []=([],[]) by unfold z0a;split<;>simp_all]
  exact⟨fun u hu=>absurd hu (qV),fun u hu=>absurd hu (qV)⟩
 |case10 q h1 h2=>
  rw[show z0a [] q=([],[]) by unfold z0a;split<;>simp_all]
  exact⟨fun u hu=>absurd hu (qV),fun u hu=>absurd hu (qV)⟩
theorem y2W(p q:List DU):newN (z0a p q).1<=newN p+newN q/\newN (z0a p q).2<=newN p+newN q:=by
 induction p,q using z0a.induct with
 |case9 p hne=>
  rw[show z0a p []=([],[]) by unfold z0a;split<;>simp_all]
  simp[newN]
 |case10 q h1 h2=>
  rw[show z0a [] q=([],[]) by unfold z0a;split<;>simp_all]
  simp[newN]
 |_=>rw[z0a];simp only[newN] at*;omega
def z00(a b:List DStep):List DStep:=doneD (z0a (exD a) (exD b)).1
def z5j(a b:List DStep):List DStep:=doneD (z0a (exD a) (exD b)).2
structure PD(wx wy:DWr)(ps:List DStep)(pu:Int)(qs:List DStep)(qu:Int)(T U:Nat)(G H:DWr):Prop where
 gp:GoodRD ps pu
 gq:GoodRD qs qu
 dp:DN 100000000000 ps
 dq:DN 100000000000 qs
 eq:oldN (ruD ps pu)=oldN (ruD qs qu)
 dx:DI wx (z0a (ruD ps pu) (ruD qs qu)).1 T G
 dy:DI wy (z0a (ruD ps pu) (ruD qs qu)).2 U H
theorem noAD{l:List DStep}{u:Int}(h:GoodRD l u)(hk:0<l.length->(l.getD 0 default).kind≠1):NoAD (ruD l u):=by
 by_cases h0:0<l.length
 ·have hl:=h.lt h0
  obtain⟨g,e⟩:=z3c (n:=1) h h0 (by decide) (by omega)
  rcases k02 h h0 (hk h0) with k|k
  ·rw[e,exS_K k];trivial
  ·rw[e,exS_C k];trivial
 ·rw[z2C (by omega)];trivial
section
variable {wx wy:DWr} {ps qs:List DStep} {pu qu:Int} {T U:Nat} {G H:DWr}
theorem PD.addP(h:PD wx wy ps pu qs qu T U G H)(h0:0<ps.length)(hk:(ps.getD 0 default).kind=1){n:Int}(hn:n=szD (ps.getD 0 default)- pu):
 PD ⟨wx.out,wx.add++(tkE ps pu n).elems,wx.cut⟩ ⟨keepD (z0b wy) ((tkE ps pu n).elems.length:Int) [],[],0⟩ (tkL ps pu n) (tkN ps pu n) qs qu T U G H/\
 jmD (tkL ps pu n) (tkN ps pu n) qs qu<jmD ps pu qs qu/\((tkE ps pu n).elems.length:Int)=n:=by
 have hl:=h.gp.lt h0
 obtain⟨g,e⟩:=z3c (n:=n) h.gp h0 (by omega) (by omega)
 have hz:=z34 (n:=n) hk h.gp.pos (by omega) (by omega)
 rw[exS_A hk] at e
 have hx:=h.dx
 have hy:=h.dy
 have he:=h.eq
 rw[e,pd_A] at hx hy
 rw[e,z0E,(z1S _).1] at he
 obtain⟨k,hk2⟩:∃k,(tkE ps pu n).elems.length=k+1:=⟨(tkE ps pu n).elems.length- 1,by omega⟩
 refine⟨⟨g,h.gq,dn_tk h.dp,h.dq,by omega,hx.elems,?_⟩,?_,by omega⟩
 ·rw[hk2] at hy|-
  exact hy.keep
 ·unfold jmD
  rw[e,List.length_append,List.length_map,hz]
  omega
theorem PD.addQ(h:PD wx wy ps pu qs qu T U G H)(hp:0<ps.length->(ps.getD 0 default).kind≠1)(h0:0<qs.length)(hk:(qs.getD 0 default).kind=1){n:Int}(hn:n=szD (qs.getD 0 default)- qu):
 PD ⟨keepD (z0b wx) ((tkE qs qu n).elems.length:Int) [],[],0⟩ ⟨wy.out,wy.add++(tkE qs qu n).elems,wy.cut⟩ ps pu (tkL qs qu n) (tkN qs qu n) T U G H/\
 jmD ps pu (tkL qs qu n) (tkN qs qu n)< jmD ps pu qs qu/\((tkE qs qu n).elems.length:Int)=n:=by
 have hl:=h.gq.lt h0
 obtain⟨g,e⟩:=z3c (n:=n) h.gq h0 (by omega) (by omega)
 have hz:=z34 (n:=n) hk h.gq.pos (by omega) (by omega)
 rw[exS_A hk] at e
 have hx:=h.dx
 have hy:=h.dy
 have he:=h.eq
 rw[e,pd_A2 _ (noAD h.gp hp)] at hx hy
 rw[e,z0E,(z1S _).1] at he
 obtain⟨k,hk2⟩:∃k,(tkE qs qu n).elems.length=k+1:=⟨(tkE qs qu n).elems.length- 1,by omega⟩
 refine⟨⟨h.gp,g,h.dp,dn_tk h.dq,by omega,?_,hy.elems⟩,?_,by omega⟩
 ·rw[hk2] at hx|-
  exact hx.keep
 ·unfold jmD
  rw[e,List.length_append,List.length_map,hz]
  omega
theorem PD.both(h:PD wx wy ps pu qs qu T U G H)(a:0<ps.length)(b:0<qs.length)(kp:(ps.getD 0 default).kind≠1)(kq:(qs.getD 0 default).kind≠1){n:Int}(hn:n=min (szD (ps.getD 0 default)- pu) (szD (qs.getD 0 default)- qu)):
 (((ps.getD 0 default).kind=0/\(qs.getD 0 default).kind=0->PD ⟨keepD (z0b wx) n (fm wioG (ps.getD 0 default).attrs (qs.getD 0 default).attrs),[],0⟩ ⟨keepD (z0b wy) n (qs.getD 0 default).attrs,[],0⟩ (tkL ps pu n) (tkN ps pu n) (tkL qs qu n) (tkN qs qu n) T U G H)/\
 ((ps.getD 0 default).kind=0/\(qs.getD 0 default).kind=2->PD wx ⟨wy.out,wy.add,wy.cut+n⟩ (tkL ps pu n) (tkN ps pu n) (tkL qs qu n) (tkN qs qu n) T U G H)/\
 ((ps.getD 0 default).kind=2/\(qs.getD 0 default).kind=0->PD ⟨wx.out,wx.add,wx.cut+n⟩ wy (tkL ps pu n) (tkN ps pu n) (tkL qs qu n) (tkN qs qu n) T U G H)/\
 ((ps.getD 0 default).kind=2/\(qs.getD 0 default).kind=2->PD wx wy (tkL ps pu n) (tkN ps pu n) (tkL qs qu n) (tkN qs qu n) T U G H))/\
 jmD (tkL ps pu n) (tkN ps pu n) (tkL qs qu n) (tkN qs qu n)< jmD ps pu qs qu:=by
 have l1:=h.gp.lt a
 have l2:=h.gq.lt b
 have p1:=h.gp.pos
 have p2:=h.gq.pos
 obtain⟨g1,e1⟩:=z3c (n:=n) h.gp a (by omega) (by omega)
 obtain⟨g2,e2⟩:=z3c (n:=n) h.gq b (by omega) (by omega)
 have hx:=h.dx
 have hy:=h.dy
 have he:=h.eq
 refine⟨⟨fun k=> ?_,fun k=> ?_,fun k=> ?_,fun k=> ?_⟩,?_⟩
 ·rw[e1,e2,exS_K k.1,exS_K k.2] at hx hy he
  rw[pd_KK,show n.toNat=(n.toNat- 1)+1 by omega] at hx hy
  rw[z0E,z0E,(z1t _ _).1,(z1t _ _).1] at he
  have hx2:=hx.keep
  have hy2:=hy.keep
  rw[show(((n.toNat- 1+1:Nat)):Int)=n by omega] at hx2 hy2
  exact⟨g1,g2,dn_tk h.dp,dn_tk h.dq,by omega,hx2,hy2⟩
 ·rw[e1,e2,exS_K k.1,exS_C k.2] at hx hy he
  rw[pd_KC] at hx hy
  rw[z0E,z0E,(z2B _).1,(z1t _ _).1] at he
  have hy2:=hy.cuts
  rw[show((n.toNat:Nat):Int)=n by omega] at hy2
  exact⟨g1,g2,dn_tk h.dp,dn_tk h.dq,by omega,hx,hy2⟩
 ·rw[e1,e2,exS_C k.1,exS_K k.2] at hx hy he
  rw[pd_CK] at hx hy
  rw[z0E,z0E,(z2B _).1,(z1t _ _).1] at he
  have hx2:=hx.cuts
  rw[show((n.toNat:Nat):Int)=n by omega] at hx2
  exact⟨g1,g2,dn_tk h.dp,dn_tk h.dq,by omega,hx2,hy⟩
 ·rw[e1,e2,exS_C k.1,exS_C k.2] at hx hy he
  rw[pd_CC] at hx hy
  rw[z0E,z0E,(z2B _).1] at he
  exact⟨g1,g2,dn_tk h.dp,dn_tk h.dq,by omega,hx,hy⟩
 ·have hs:=y4n (h.gp.ok _ (z0e a))
  have hl:=congrArg List.length (z6p (n:=n) (h.gp.ok _ (z0e a)) p1 (by omega) (by omega))
  simp only[List.length_append,List.length_drop] at hl
  unfold jmD
  rw[e1,e2,List.length_append,List.length_append]
  omega
theorem PD.two(h:PD wx wy ps pu qs qu T U G H)(h0:0<ps.length\/0<qs.length)(hp:0<ps.length->(ps.getD 0 default).kind≠1)(hq:0<qs.length->(qs.getD 0 default).kind≠1):0<ps.length/\0<qs.length:=by
 have he:=h.eq
 rcases Nat.eq_zero_or_pos ps.length with a|a
 ·rcases Nat.eq_zero_or_pos qs.length with b|b
  ·omega
  ·have:=(y1J h.gq b).1 (hq b)
   rw[z2C a] at he
   simp only[oldN] at he
   omega
 ·rcases Nat.eq_zero_or_pos qs.length with b|b
  ·have:=(y1J h.gp a).1 (hp a)
   rw[z2C b] at he
   simp only[oldN] at he
   omega
  ·exact⟨a,b⟩
theorem PD.done(h:PD wx wy ps pu qs qu T U G H)(a:ps.length=0)(b:qs.length=0):wx=G/\wy=H:=by
 have hx:=h.dx
 have hy:=h.dy
 rw[z2C a,z2C b] at hx hy
 exact⟨DI.done (by simpa[z0a] using hx),DI.done (by simpa[z0a] using hy)⟩
end
theorem z64{a b:List DStep}(va:z0D a)(vb:z0D b)(da:DN 100000000000 a)(db:DN 100000000000 b)(hm:oldD a=oldD b)(hs:newD a+newD b<=2147483647):
 (∀u∈(z0a (exD a) (exD b)).1,z0G u)/\(∀u∈(z0a (exD a) (exD b)).2,z0G u)/\
 PD ⟨[],[],0⟩ ⟨[],[],0⟩ a 0 b 0 (z0a (exD a) (exD b)).1.length (z0a (exD a) (exD b)).2.length (foldD ⟨[],[],0⟩ (z0a (exD a) (exD b)).1) (foldD ⟨[],[],0⟩ (z0a (exD a) (exD b)).2)/\
 z0D (z00 a b)/\z0D (z5j a b)/\DSw (exD (z00 a b)) (z0a (exD a) (exD b)).1/\DSw (exD (z5j a b)) (z0a (exD a) (exD b)).2/\
 oldD (z00 a b)=newD b/\oldD (z5j a b)=newD a/\DN 400000000000 (z00 a b)/\DN 400000000000 (z5j a b):=by
 obtain⟨hu,hv⟩:=z86 _ _ (exD_K va.1.all da) (exD_K vb.1.all db)
 have la:=z62 va
 have lb:=z62 vb
 have o:∃l:List Elem,l.length=oldN (exD a)/\∀x∈l,VG false x.attrs:=⟨List.replicate (oldN (exD a)) ⟨0,0,[]⟩,by simp,fun x hx=>by rw[List.eq_of_mem_replicate hx];exact(z1H (e:=false) (l:=[])).1 (by rw[chkA];rfl)⟩
 obtain⟨l,hl1,hl2⟩:=o
 obtain⟨_,m2,m1,_⟩:=z0N _ (exD a) (exD b) l (Nat.le_refl _) hl1.symm (by omega) (y7S (exD_K va.1.all da)) (y7S (exD_K vb.1.all db)) hl2
 have nn:=y2W (exD a) (exD b)
 have s1:=y0s (z0a (exD a) (exD b)).1
 have s2:=y0s (z0a (exD a) (exD b)).2
 have a1:=va.2.2
 have b1:=vb.2.2
 obtain⟨d1,d2,d3,d4⟩:=z1Y hu (by omega) (by omega)
 obtain⟨e1,e2,e3,e4⟩:=z1Y hv (by omega) (by omega)
 exact⟨hu,hv,⟨z7W va,z7W vb,da,db,by rw[ruD0,ruD0];omega,by rw[ruD0,ruD0];exact DI.start hu (by omega),by rw[ruD0,ruD0];exact DI.start hv (by omega)⟩,d1,e1,d2,e2,by unfold z00;omega,by unfold z5j;omega,
  y1I hu (by omega),y1I hv (by omega)⟩
end Go.Ch
end
section
namespace Go.Ch
open Go Go.Ab
def lenE(s:DStep):Int:=if(s.kind=1/\s.elems.length=0/\stepD s=11)\/(s.kind≠1/\s.n=0/\stepD s=2) then chkA true s.attrs 0 else stepD s
def tdW(w:DWr)(s:DStep):DWr:=
 if s.kind=0 then(if s.n=0 then w else⟨keepD (z0b w) s.n s.attrs,[],0⟩) else if s.kind=1 then⟨w.out,w.add++s.elems,w.cut⟩ else⟨w.out,w.add,w.cut+s.n⟩
def tdBad(w:DWr)(s:DStep):Prop:=s.kind≠0/\s.kind≠1/\2147483647<w.cut+s.n
instance (w:DWr) (s:DStep):Decidable (tdBad w s):=by unfold tdBad;infer_instance
def tidyG(w:DWr):List DStep->List DStep×Int
 | []=>if z0W (z0b w)=0 then(z0b w,0) else([],3)
 |s::l=>if lenE s≠0 then([],lenE s) else if tdBad w s then([],3) else tidyG (tdW w s) l
def tidyL(d:List DStep):List DStep:=(tidyG ⟨[],[],0⟩ d).1
def tidyE(d:List DStep):Int:=(tidyG ⟨[],[],0⟩ d).2
theorem y0u{s:DStep}(h:lenE s=0):(s.kind=0\/s.kind=1\/s.kind=2)/\0<=s.n/\s.n<=2147483647:=by
 unfold lenE at h
 split at h
 ·rename_i hc
  rcases hc with⟨k,e,q⟩| ⟨k,n0,q⟩
  ·unfold stepD at q
   rw[if_pos k] at q
   split at q
   ·cases q
   ·rename_i hh;exact⟨.inr (.inl k),by omega,by omega⟩
  ·unfold stepD at q
   rw[if_neg k] at q
   split at q
   ·rename_i hk;exact⟨by omega,by omega,by omega⟩
   ·cases q
 ·obtain⟨a,b,c,_⟩:=z0V h;exact⟨a,b,c⟩
theorem y6C{P:List Attr->Prop}{R:Elem->Prop}{l:List DStep}{n:Int}{c:List Attr}(h:∀s∈l,P s.attrs/\∀x∈s.elems,R x)(hc:P c):∀s∈keepD l n c,P s.attrs/\∀x∈s.elems,R x:=by
 unfold keepD
 split
 ·rename_i hl
  intro s hs
  rcases zu hs with hs|rfl
  ·exact h s hs
  ·exact h (l.getD (l.length- 1) default) (z0e (by omega))
 ·intro s hs
  rcases qm.1 hs with hs|hs
  ·exact h s hs
  ·rw[qK] at hs;subst hs;exact⟨hc,fun x hx=>by cases hx⟩
theorem z87{P:List Attr->Prop}{R:Elem->Prop}{w:DWr}(h0:P [])(h:∀s∈w.out,P s.attrs/\∀x∈s.elems,R x)(ha:∀x∈w.add,R x):∀s∈z0b w,P s.attrs/\∀x∈s.elems,R x:=by
 unfold z0b
 intro s hs
 rcases qm.1 hs with hs|hs
 ·rcases qm.1 hs with hs|hs
  ·exact h s hs
  ·split at hs
   ·rw[qK] at hs;subst hs;exact⟨h0,ha⟩
   ·cases hs
 ·split at hs
  ·rw[qK] at hs;subst hs;exact⟨h0,fun x hx=>by cases hx⟩
  ·cases hs
theorem y8E{P:List Attr->Prop}{R:Elem->Prop}{w:DWr}{s:DStep}(h0:P [])(h:∀s∈w.out,P s.attrs/\∀x∈s.elems,R x)(ha:∀x∈w.add,R x)(hs:P s.attrs/\∀x∈s.elems,R x):
 (∀t∈(tdW w s).out,P t.attrs/\∀x∈t.elems,R x)/\∀x∈(tdW w s).add,R x:=by
 unfold tdW
 split
 ·split
  ·exact⟨h,ha⟩
  ·exact⟨y6C (z87 h0 h ha) hs.1,fun x hx=>by cases hx⟩
 ·split
  ·exact⟨h,fun x hx=>by rcases qm.1 hx with hx|hx;exact ha x hx;exact hs.2 x hx⟩
  ·exact⟨h,ha⟩
theorem z6q{s:DStep}(h:stepD s=0):lenE s=0:=by
 unfold lenE
 rw[if_neg]
 ·exact h
 ·rintro(⟨_,_,q⟩| ⟨_,_,q⟩)<;>rw[h] at q<;>cases q
theorem y2X{w:DWr}{s:DStep}{l:List DStep}(h:lenE s=0)(hb:¬tdBad w s):tidyG w (s::l)=tidyG (tdW w s) l:=by
 conv=>lhs;unfold tidyG
 rw[if_neg (by rw[h];decide),if_neg hb]
end Go.Ch
end
section
namespace Go.Ch
open Go Go.Ab
def elS:List DStep->Nat
 | []=>0
 |s::l=>s.elems.length+elS l
theorem y4o(p q:List DStep):elS (p++q)=elS p+elS q:=by
 induction p with
 |nil=>simp[elS]
 |cons s p ih=>simp only[qe,elS,ih];omega
theorem y1L{d:List DStep}{i:Nat}(h:i<d.length):elS (d.take (i+1))=elS (d.take i)+(d.getD i default).elems.length/\elS (d.take (i+1))<=elS d:=by
 constructor
 ·rw[qD h,y4o,show d.getD i default=d[i] by simp[List.getD,qa h]];simp[elS]
 ·conv=>rhs;rw[<-List.take_append_drop (i+1) d,y4o]
  omega
structure TB(d:List DStep)(i:Nat)(w:DWr):Prop where
 out:w.out.length<=3*i
 add:w.add.length<=elS (d.take i)
 cut:0<=w.cut/\w.cut<=2147483647
 n:∀s∈w.out,0<=s.n/\s.n<=2147483647*((i:Int)+1)
 dn:∀s∈w.out,s.attrs.length<=100000000000/\∀x∈s.elems,x.attrs.length<=100000000000
 an:∀x∈w.add,x.attrs.length<=100000000000
 el:∀s∈w.out,s.elems.length<=elS (d.take i)
theorem TB.start(d:List DStep):TB d 0 ⟨[],[],0⟩:=⟨by simp,by simp,⟨by simp,by simp⟩,fun s h=>absurd h qV,fun s h=>absurd h qV,fun s h=>absurd h qV,fun s h=>absurd h qV⟩
theorem y4p{w:DWr}{B:Int}(hB:2147483647<=B)(hc:0<=w.cut/\w.cut<=2147483647)(h:∀s∈w.out,0<=s.n/\s.n<=B):∀s∈z0b w,0<=s.n/\s.n<=B:=by
 unfold z0b
 intro s hs
 rcases qm.1 hs with hs|hs
 ·rcases qm.1 hs with hs|hs
  ·exact h s hs
  ·split at hs
   ·rw[qK] at hs;subst hs;simp only;omega
   ·cases hs
 ·split at hs
  ·rw[qK] at hs;subst hs;simp only;omega
  ·cases hs
theorem y1M{w:DWr}{B:Nat}(ha:w.add.length<=B)(h:∀s∈w.out,s.elems.length<=B):∀s∈z0b w,s.elems.length<=B:=by
 unfold z0b
 intro s hs
 rcases qm.1 hs with hs|hs
 ·rcases qm.1 hs with hs|hs
  ·exact h s hs
  ·split at hs
   ·rw[qK] at hs;subst hs;exact ha
   ·cases hs
 ·split at hs
  ·rw[qK] at hs;subst hs;simp
  ·cases hs
theorem y9T{l:List DStep}{B B' n:Int}{c:List Attr}(h:∀s∈l,0<=s.n/\s.n<=B)(h1:0<=n)(h2:B+n<=B')(h3:0<=B):∀s∈keepD l n c,0<=s.n/\s.n<=B':=by
 unfold keepD
 split
 ·intro s hs
  rcases zu hs with hs|rfl
  ·have:=h s hs;omega
  ·have:=h (l.getD (l.length- 1) default) (z0e (by omega))
   simp only;omega
 ·intro s hs
  rcases qm.1 hs with hs|hs
  ·have:=h s hs;omega
  ·rw[qK] at hs;subst hs;simp only;omega
theorem y8F{l:List DStep}{B:Nat}{n:Int}{c:List Attr}(h:∀s∈l,s.elems.length<=B):∀s∈keepD l n c,s.elems.length<=B:=by
 unfold keepD
 split
 ·intro s hs
  rcases zu hs with hs|rfl
  ·exact h s hs
  ·exact h (l.getD (l.length- 1) default) (z0e (by omega))
 ·intro s hs
  rcases qm.1 hs with hs|hs
  ·exact h s hs
  ·rw[qK] at hs;subst hs;simp
theorem TB.flush{d:List DStep}{i:Nat}{w:DWr}(h:TB d i w)(hi:i<=100000000)(he:elS d<=100000000000)(hd:elS (d.take i)<=elS d):
 (∀s∈z0b w,0<=s.n/\s.n<=1000000000000000000)/\DN 400000000000 (z0b w):=by
 refine⟨y4p (by decide) h.cut (fun s hs=>by have:=h.n s hs;omega),fun s hs=> ?_⟩
 have h1:=z87 (P:=fun l=>l.length<=100000000000) (R:=fun x=>x.attrs.length<=100000000000) (by simp) h.dn h.an s hs
 have h2:=y1M h.add h.el s hs
 exact⟨by omega,by have:=h1.1;omega,fun x hx=>by have:=h1.2 x hx;omega⟩
theorem TB.next{d:List DStep}{i:Nat}{w:DWr}(h:TB d i w)(hi:i<d.length)(hd:DN 100000000000 d)(hl:lenE (d.getD i default)=0)(hb:¬tdBad w (d.getD i default)):TB d (i+1) (tdW w (d.getD i default)):=by
 obtain⟨k,n0,n1⟩:=y0u hl
 obtain⟨e1,_⟩:=y1L hi
 obtain⟨b1,b2,b3⟩:=hd _ (z0e hi)
 generalize d.getD i default=s at*
 have ha:=y8E (P:=fun l=>l.length<=100000000000) (R:=fun x=>x.attrs.length<=100000000000) (w:=w) (s:=s) (by simp) h.dn h.an ⟨b2,b3⟩
 have hn:=h.n
 have hc:=h.cut
 have ho:=h.out
 have hadd:=h.add
 refine⟨?_,?_,?_,?_,ha.1,ha.2,?_⟩
 ·unfold tdW
  split
  ·split
   ·omega
   ·have:=y4g (z0b w) s.n s.attrs
    have:=z60 w
    simp only;omega
  ·split<;>simp only<;>omega
 ·unfold tdW
  split
  ·split
   ·omega
   ·simp
  ·split
   ·simp only[qc];omega
   ·simp only;omega
 ·unfold tdW
  split
  ·split
   ·exact hc
   ·exact⟨zO 0,(by decide:(0:Int)<=2147483647)⟩
  ·split
   ·exact hc
   ·rename_i k0 k1
    unfold tdBad at hb
    simp only
    omega
 ·have up:∀t∈w.out,0<=t.n/\t.n<=2147483647*(((i+1:Nat):Int)+1):=fun t ht=>by have:=hn t ht;omega
  unfold tdW
  split
  ·split
   ·exact up
   ·exact y9T (y4p (by omega) hc hn) (B':=2147483647*(((i+1:Nat):Int)+1)) (by omega) (by omega) (by omega)
  ·split
   ·exact up
   ·exact up
 ·have up:∀t∈w.out,t.elems.length<=elS (d.take (i+1)):=fun t ht=>by have:=h.el t ht;omega
  unfold tdW
  split
  ·split
   ·exact up
   ·exact y8F (y1M (by omega) up)
  ·split
   ·exact up
   ·exact up
end Go.Ch
namespace Go.Ch
open Go Go.Ab
theorem y6D{d:List DStep}{i:Nat}(h:i<d.length)(w:DWr):tidyG w (d.drop i)=if lenE (d.getD i default)≠0 then([],lenE (d.getD i default)) else if tdBad w (d.getD i default) then([],3) else tidyG (tdW w (d.getD i default)) (d.drop (i+1)):=by
 rw[dropD h,tidyG]
theorem z88{d:List DStep}{i:Nat}(h:d.length<=i)(w:DWr):tidyG w (d.drop i)=if z0W (z0b w)=0 then(z0b w,0) else([],3):=by
 rw[qT h,tidyG]
end Go.Ch
end
section
namespace Go.Ch
open Go Go.Ab
theorem y7V:∀{l:List DStep},(∀s∈l,s.elems.length<=1)->elS l<=l.length
 | [],_=>qr _
 |s::l,h=>by
  have h1:=h s (by simp)
  have h2:=y7V (l:=l) (fun t ht=>h t (by simp[ht]))
  simp only[elS,qi];omega
end Go.Ch
end
section
namespace Go.Ch
open Go Go.Ab
def putA(a:Attr):List Attr->Bool->List Attr
 | [],d=>if d=true then[] else[a]
 |x::l,d=>(if d=false/\slt x.name a.name=false then[a] else[])++((if seq x.name a.name=true then[] else[x])++putA a l (d|| !(slt x.name a.name)))
theorem z89(a:Attr)(l:List Attr):putA a l true=l.filter fun x=> !seq x.name a.name:=by
 induction l with
 |nil=>rfl
 |cons x l ih=>
  unfold putA
  rw[if_neg (by simp)]
  simp only[Bool.true_or,ih,zo,zA]
  cases seq x.name a.name<;>simp
theorem z6K{l:List Attr}{m n:ByteArray}:look (l.filter fun x=> !seq x.name m) n=if m=n then none else look l n:=by
 induction l with
 |nil=>simp[look]
 |cons x l ih=>
  rw[zA]
  by_cases e:x.name=m
  ·rw[show seq x.name m=true from z0q.2 e]
   simp only[zW,qU,if_false,ih]
   by_cases q:m=n
   ·rw[if_pos q,if_pos q]
   ·rw[if_neg q,if_neg q,look,if_neg (by rw[e];exact q)]
  ·rw[show seq x.name m=false from z0H.2 e]
   simp only[Bool.not_false,if_true]
   rw[look,look,ih]
   by_cases q:x.name=n
   ·rw[if_pos q,if_pos q,if_neg (by rw[<-q];exact fun h=>e h.symm)]
   ·rw[if_neg q,if_neg q]
theorem z4C{l:List Attr}(p:Attr->Bool)(h:z1c l):z1c (l.filter p):=by
 induction l with
 |nil=>exact h
 |cons x l ih=>
  rw[zA]
  split
  ·exact⟨fun a ha=>h.1 a (zF.1 ha).1,ih h.2⟩
  ·exact ih h.2
theorem z65{n:ByteArray}{a:Attr}(hn:slt n a.name=true):∀{l:List Attr} {d:Bool},Above n l->Above n (putA a l d)
 | [],d,h=>by
  unfold putA;split
  ·exact h
  ·intro x hx;rw[qK] at hx;subst hx;exact hn
 |y::l,d,h=>by
  unfold putA
  intro x hx
  rcases qm.1 hx with hx|hx
  ·split at hx
   ·rw[qK] at hx;subst hx;exact hn
   ·cases hx
  ·rcases qm.1 hx with hx|hx
   ·split at hx
    ·cases hx
    ·rw[qK] at hx;subst hx;exact h _ (by simp)
   ·exact z65 hn (fun z hz=>h z (by simp[hz])) x hx
theorem z6r{a:Attr}:∀{l:List Attr},z1c l->z1c (putA a l false)
 | [],h=>by unfold putA;rw[if_neg (by decide)];exact⟨fun x hx=>(by cases hx),trivial⟩
 |x::l,h=>by
  unfold putA
  by_cases hs:slt x.name a.name=true
  ·rw[if_neg (by rw[hs];simp),if_neg (by rw[z0q];exact z1r hs)]
   simp only[hs,zW,zD]
   exact⟨z65 hs h.1,z6r h.2⟩
  ·have hs:slt x.name a.name=false:=by simpa using hs
   rw[if_pos ⟨rfl,hs⟩]
   simp only[hs,Bool.not_false,Bool.or_true,z89]
   have e:(if seq x.name a.name=true then[] else[x])++l.filter (fun x=> !seq x.name a.name)=(x::l).filter fun x=> !seq x.name a.name:=by
    rw[zA];cases seq x.name a.name<;>simp
   rw[e]
   refine⟨fun y hy=> ?_,z4C _ h⟩
   obtain⟨h1,h2⟩:=zF.1 hy
   have hne:y.name≠a.name:=by simpa[z0H] using h2
   have hx:slt a.name x.name=true\/a.name=x.name:=by
    cases q:slt a.name x.name with
    |true=>exact .inl rfl
    |false=>exact .inr (z7L q hs)
   rcases qn.1 h1 with rfl|h1
   ·exact hx.resolve_right (fun e=>hne e.symm)
   ·have h3:=h.1 y h1
    rcases hx with q|q
    ·exact z2c q h3
    ·rw[q];exact h3
theorem z9a{a:Attr}{n:ByteArray}:∀{l:List Attr},z1c l->look (putA a l false) n=if a.name=n then some a.val else look l n
 | [],h=>by unfold putA;rw[if_neg (by decide)];simp only[look]
 |x::l,h=>by
  unfold putA
  by_cases hs:slt x.name a.name=true
  ·rw[if_neg (by rw[hs];simp),if_neg (by rw[z0q];exact z1r hs)]
   simp only[hs,zW,zD,zo,List.singleton_append]
   rw[look,z9a h.2,look]
   by_cases q:x.name=n
   ·rw[if_pos q,if_pos q,if_neg (by rw[<-q];exact fun e=>z1r hs e.symm)]
   ·rw[if_neg q,if_neg q]
  ·have hs:slt x.name a.name=false:=by simpa using hs
   rw[if_pos ⟨rfl,hs⟩]
   simp only[hs,Bool.not_false,Bool.or_true,z89]
   have e:(if seq x.name a.name=true then[] else[x])++l.filter (fun x=> !seq x.name a.name)=(x::l).filter fun x=> !seq x.name a.name:=by
    rw[zA];cases seq x.name a.name<;>simp
   rw[e,List.singleton_append,look,z6K]
   by_cases q:a.name=n
   ·rw[if_pos q,if_pos q]
   ·rw[if_neg q,if_neg q,if_neg q]
def putsA(o c:List Attr):List Attr:=c.foldl (fun o a=>putA a o false) o
theorem z7X:∀{c o:List Attr},z1c c->z1c o->z1c (putsA o c)/\∀n,look (putsA o c) n=(look c n).or (look o n)
 | [],o,_,h=>⟨h,fun n=>by simp[putsA,look]⟩
 |x::c,o,hc,h=>by
  obtain⟨i1,i2⟩:=z7X (c:=c) (o:=putA x o false) hc.2 (z6r h)
  refine⟨i1,fun n=> ?_⟩
  have e:putsA o (x::c)=putsA (putA x o false) c:=rfl
  rw[e,i2,z9a h,look]
  by_cases q:x.name=n
  ·rw[if_pos q,if_pos q,z0I (l:=c) (fun a ha=>by rw[<-q];exact fun e=>z1r (hc.1 a ha) e.symm)];rfl
  ·rw[if_neg q,if_neg q]
def fullA(l:List Attr):List Attr:=l.filter fun a=> !seq a.val {data:=#[]}
def z7Y(l c:List Attr):List Attr:=fullA (putsA (putsA [] l) c)
theorem y4q{l:List Attr}(h:z1c l)(n:ByteArray):look (fullA l) n=(look l n).bind fun v=>if v=mt then none else some v:=by
 induction l with
 |nil=>rfl
 |cons x l ih=>
  have i:=ih h.2
  unfold fullA at i|-
  rw[zA]
  by_cases e:x.val=mt
  ·rw[show seq x.val {data:=#[]}=true from z0q.2 e]
   simp only[zW,qU,if_false,i]
   rw[look]
   by_cases q:x.name=n
   ·rw[if_pos q,z0I (l:=l) (fun a ha=>by rw[<-q];exact fun e=>z1r (h.1 a ha) e.symm)]
    simp[e]
   ·rw[if_neg q]
  ·rw[show seq x.val {data:=#[]}=false from z0H.2 e]
   simp only[Bool.not_false,if_true]
   rw[look,look,i]
   by_cases q:x.name=n
   ·rw[if_pos q,if_pos q];simp[e]
   ·rw[if_neg q,if_neg q]
theorem y0v{l c:List Attr}(hl:VG false l)(hc:VG true c):z7Y l c=fm rawG l c:=by
 obtain⟨a1,a2⟩:=z7X (c:=l) (o:=[]) hl.1 trivial
 obtain⟨b1,b2⟩:=z7X (c:=c) (o:=putsA [] l) hc.1 a1
 refine z2K (z4C _ b1) (raw_V np_mt hl hc).1 (fun n=> ?_)
 unfold z7Y
 rw[y4q b1,b2,a2,z1j np_mt z1d hl hc]
 unfold at2
 cases hq:look c n with
 |none=>
  cases hp:look l n with
  |none=>rfl
  |some v=>
   have hv:v≠mt:=q_val vp_mt (V.look hl hp)
   simp[look,rawG,hv,dflt]
 |some v=>
  have hn:n≠mt:=q_ne np_mt (V.look hc hq)
  cases hp:look l n with
  |none=>by_cases e:v=mt<;>simp[look,rawG,hn,e]
  |some w=>by_cases e:v=mt<;>simp[look,rawG,hn,e]
end Go.Ch
namespace Go.Ch
open Go Go.Ab
theorem takeA{l:List Attr}{i:Nat}(h:i<l.length):l.take (i+1)=l.take i++[l.getD i default]:=by
 rw[qD h];simp[List.getD,qa h]
end Go.Ch
end
section
namespace Go.Ch
open Go Go.Ab
def actS(x:Act)(s:DStep):Act:=
 if s.kind=1 then⟨x.ins.set (x.ins.length- 1) (x.ins.getD (x.ins.length- 1) default++s.elems),x.cut,x.set⟩
 else⟨x.ins++List.replicate s.n.toNat [],x.cut++List.replicate s.n.toNat (s.kind==2),x.set++List.replicate s.n.toNat s.attrs⟩
def actF(x:Act):List DStep->Act
 | []=>x
 |s::l=>actF (actS x s) l
def z0d(d:List DStep):Act:=actF ⟨[[]],[],[]⟩ d
theorem y0w{d:List DStep}{i:Nat}(h:i<d.length)(x:Act):actF x (d.drop i)=actF (actS x (d.getD i default)) (d.drop (i+1)):=by rw[dropD h,actF]
theorem y1N{d:List DStep}{i:Nat}(h:d.length<=i)(x:Act):actF x (d.drop i)=x:=by rw[qT h,actF]
def z1e(x:Act):Prop:=x.ins.length=x.cut.length+1/\x.set.length=x.cut.length
theorem z5A{x:Act}(h:z1e x)(s:DStep):z1e (actS x s):=by
 unfold z1e actS at*
 split
 ·simp only[zq];exact h
 ·simp only[qc,qW];omega
def actU(x:Act):DU->Act
 | .A e=>⟨x.ins.set (x.ins.length- 1) (x.ins.getD (x.ins.length- 1) default++[e]),x.cut,x.set⟩
 | .K c=>⟨x.ins++[[]],x.cut++[false],x.set++[c]⟩
 | .C=>⟨x.ins++[[]],x.cut++[true],x.set++[[]]⟩
theorem z1y{α:Type}[Inhabited α]{l r:List α}{i:Nat}(h:i<l.length):(l++r).getD i default=l.getD i default:=by
 simp[List.getD,qH h]
theorem z2Q{α:Type}[Inhabited α]{l:List α}{y:α}:(l++[y]).getD l.length default=y:=by simp[List.getD]
theorem z6s{α:Type}[Inhabited α]{l:List α}{i j:Nat}{y:α}(h:j≠i):(l.set j y).getD i default=l.getD i default:=by
 simp[List.getD,List.getElem?_set_ne h]
theorem z25{α:Type}[Inhabited α]{l:List α}{i:Nat}{y:α}(h:i<l.length):(l.set i y).getD i default=y:=by
 simp[List.getD,List.getElem?_set_self h]
theorem z7Z{x:Act}{i:Nat}(h:i<x.cut.length)(hb:x.cut.getD i default=true):actR x i=(x.ins.getD i default).map .A++ .C::actR x (i+1):=by
 rw[actR,if_pos h,if_pos hb]
theorem z70{x:Act}{i:Nat}(h:i<x.cut.length)(hb:x.cut.getD i default=false):actR x i=(x.ins.getD i default).map .A++ .K (x.set.getD i default)::actR x (i+1):=by
 rw[actR,if_pos h,if_neg (by rw[hb];decide)]
theorem z3u{x:Act}{i:Nat}(h:¬i<x.cut.length):actR x i=(x.ins.getD i default).map .A:=by rw[actR,if_neg h]
theorem y8G{x:Act}{i:Nat}(h:z1e x)(hi:i<x.cut.length)(u:DU):i< (actU x u).cut.length/\(actU x u).cut.getD i default=x.cut.getD i default/\(actU x u).ins.getD i default=x.ins.getD i default/\(actU x u).set.getD i default=x.set.getD i default:=by
 obtain⟨f1,f2⟩:=h
 cases u with
 |A e=>exact⟨hi,rfl,z6s (by omega),rfl⟩
 |K c=>exact⟨by simp[actU];omega,z1y hi,z1y (by omega),z1y (by omega)⟩
 |C=>exact⟨by simp[actU];omega,z1y hi,z1y (by omega),z1y (by omega)⟩
theorem y7W{x:Act}(h:z1e x)(u:DU):∀(m i:Nat),x.cut.length-i=m->i<=x.cut.length->actR (actU x u) i=actR x i++[u]
 |0,i,hm,hi=>by
  obtain⟨f1,f2⟩:=h
  have hi2:i=x.cut.length:=by omega
  rw[z3u (x:=x) (by omega)]
  cases u with
  |A e=>
   have e1:(actU x (.A e)).ins.getD i default=x.ins.getD i default++[e]:=by
    show(x.ins.set (x.ins.length- 1) (x.ins.getD (x.ins.length- 1) default++[e])).getD i default=_
    rw[show x.ins.length- 1=i by omega,z25 (by omega)]
   rw[z3u (show¬i< (actU x (.A e)).cut.length by show¬i<x.cut.length;omega),e1,zg];rfl
  |K c=>
   have l1:(actU x (.K c)).cut.length=x.cut.length+1:=by simp[actU]
   have e1:(actU x (.K c)).cut.getD i default=false:=by rw[hi2];exact z2Q
   have e2:(actU x (.K c)).set.getD i default=c:=by rw[hi2,<-f2];exact z2Q
   have e3:(actU x (.K c)).ins.getD i default=x.ins.getD i default:=z1y (by omega)
   have e4:(actU x (.K c)).ins.getD (i+1) default=[]:=by rw[show i+1=x.ins.length by omega];exact z2Q
   rw[z70 (by omega) e1,e2,e3,z3u (x:=actU x (.K c)) (i:=i+1) (by omega),e4];rfl
  |C=>
   have l1:(actU x .C).cut.length=x.cut.length+1:=by simp[actU]
   have e1:(actU x .C).cut.getD i default=true:=by rw[hi2];exact z2Q
   have e3:(actU x .C).ins.getD i default=x.ins.getD i default:=z1y (by omega)
   have e4:(actU x .C).ins.getD (i+1) default=[]:=by rw[show i+1=x.ins.length by omega];exact z2Q
   rw[z7Z (by omega) e1,e3,z3u (x:=actU x .C) (i:=i+1) (by omega),e4];rfl
 |m+1,i,hm,hi=>by
  have ih:=y7W h u m (i+1) (by omega) (by omega)
  obtain⟨q1,q2,q3,q4⟩:=y8G h (i:=i) (by omega) u
  cases hb:x.cut.getD i default with
  |true=>rw[z7Z q1 (by rw[q2];exact hb),z7Z (x:=x) (by omega) hb,q3,ih,qE,qe]
  |false=>rw[z70 q1 (by rw[q2];exact hb),z70 (x:=x) (by omega) hb,q3,q4,ih,qE,qe]
theorem y1O{x:Act}(h:z1e x)(u:DU):z1e (actU x u):=by
 unfold z1e at*
 cases u<;>simp only[actU,zq,qc,zG]<;>omega
def actUs(x:Act)(us:List DU):Act:=us.foldl actU x
theorem y4r:∀(us:List DU) {x:Act},z1e x->z1e (actUs x us)/\actR (actUs x us) 0=actR x 0++us
 | [],x,h=>⟨h,by simp[actUs]⟩
 |u::us,x,h=>by
  obtain⟨a,b⟩:=y4r us (y1O h u)
  refine⟨a,?_⟩
  have e:actUs x (u::us)=actUs (actU x u) us:=rfl
  rw[e,b,y7W h u _ 0 rfl (qp _),qE];rfl
theorem y1P:∀(l:List Elem) {x:Act},z1e x->actUs x (l.map .A)=⟨x.ins.set (x.ins.length- 1) (x.ins.getD (x.ins.length- 1) default++l),x.cut,x.set⟩
 | [],x,h=>by
  obtain⟨f1,f2⟩:=h
  have e:x.ins.set (x.ins.length- 1) (x.ins.getD (x.ins.length- 1) default++[])=x.ins:=by
   rw[qQ]
   apply List.ext_getElem?
   intro k
   rw[zy]
   split
   ·rename_i h1
    subst h1
    rw[if_pos (by omega),List.getD,qa (by omega)];rfl
   ·rfl
  rw[e];rfl
 |y::l,x,h=>by
  have e:actUs x ((y::l).map .A)=actUs (actU x (.A y)) (l.map .A):=rfl
  rw[e,y1P l (y1O h _)]
  obtain⟨f1,f2⟩:=h
  simp only[actU,zq]
  rw[z25 (by omega),List.set_set,qE];rfl
theorem z6t(u:DU)(a:List Elem)(b:Bool)(c:List Attr)(hu:∀x:Act,actU x u=⟨x.ins++[[]],x.cut++[b],x.set++[c]⟩):∀(n:Nat) (x:Act),actUs x (List.replicate n u)=⟨x.ins++List.replicate n [],x.cut++List.replicate n b,x.set++List.replicate n c⟩
 |0,x=>by simp[actUs]
 |n+1,x=>by
  have e:actUs x (List.replicate (n+1) u)=actUs (actU x u) (List.replicate n u):=by rw[qo];rfl
  rw[e,z6t u a b c hu n,hu]
  simp only[qE,qo];rfl
theorem y8H{x:Act}{s:DStep}(h:z1e x)(hs:DOk s):actS x s=actUs x (exS s):=by
 unfold actS exS
 rcases hs with⟨k,n,a,e,_⟩| ⟨k,e,b,n1,n2,_⟩
 ·rw[if_pos k,if_pos k,y1P _ h]
 ·rw[if_neg (by omega),if_neg (by omega)]
  by_cases k2:s.kind=2
  ·rw[if_pos k2,z6t .C [] true [] (fun x=>rfl),b k2,k2];rfl
  ·have k0:s.kind=0:=by omega
   rw[if_neg k2,z6t (.K s.attrs) [] false s.attrs (fun x=>rfl),k0];rfl
theorem y4s:∀{d:List DStep} {x:Act},z1e x->(∀s∈d,DOk s)->actF x d=actUs x (exD d)
 | [],x,_,_=>rfl
 |s::d,x,h,hd=>by
  have h1:=y8H h (hd s (by simp))
  rw[actF,y4s (z5A h s) (fun t ht=>hd t (by simp[ht])),h1,exD]
  unfold actUs
  rw[List.foldl_append]
theorem z71{d:List DStep}(h:z0D d):z1e (z0d d)/\actR (z0d d) 0=exD d:=by
 have h0:z1e ⟨[[]],[],[]⟩:=⟨rfl,rfl⟩
 obtain⟨a,b⟩:=y4r (exD d) h0
 unfold z0d
 rw[y4s h0 h.1.all]
 exact⟨a,by rw[b];rw[actR];simp⟩
def doneR(f:List Elem)(x:Act)(i:Nat):List Elem:=
 if i<f.length then x.ins.getD i default++((if x.cut.getD i default=true then[] else[⟨(f.getD i default).char,(f.getD i default).ref,z7Y (f.getD i default).attrs (x.set.getD i default)⟩])++doneR f x (i+1))
 else x.ins.getD f.length default
termination_by f.length-i
theorem y1Q{f:List Elem}{x:Act}(h:z1e x)(hl:x.cut.length=f.length)(hf:∀e∈f,VG false e.attrs)(hc:∀c∈x.set,VG true c):∀(m i:Nat),f.length-i=m->i<=f.length->doneR f x i=z0h (actR x i) (f.drop i)
 |0,i,hm,hi=>by
  rw[doneR,if_neg (by omega),actR,if_neg (by omega),show i=f.length by omega,List.drop_length]
  have:=z2M (x.ins.getD f.length default) [] []
  rw[qQ] at this
  rw[this];simp[z0h]
 |m+1,i,hm,hi=>by
  have ih:=y1Q h hl hf hc m (i+1) (by omega) (by omega)
  rw[doneR,if_pos (by omega),ih]
  cases hb:x.cut.getD i default with
  |true=>
   rw[z7Z (by omega) hb,z2M,dropD (show i<f.length by omega)]
   simp[z0h]
  |false=>
   have e:=y0v (hf _ (z0e (l:=f) (k:=i) (by omega))) (hc _ (z0e (l:=x.set) (k:=i) (by have:=h.2;omega)))
   rw[z70 (by omega) hb,z2M,dropD (show i<f.length by omega),e]
   simp only[qU,if_false,z0h,chgE]
   rfl
theorem y1R{x:Act}(h:z1e x):∀(m i:Nat),x.cut.length-i=m->i<=x.cut.length->oldN (actR x i)=x.cut.length-i
 |0,i,hm,hi=>by rw[actR,if_neg (by omega),(z1S _).1];omega
 |m+1,i,hm,hi=>by
  have ih:=y1R h m (i+1) (by omega) (by omega)
  rw[actR,if_pos (by omega),z0E,(z1S _).1]
  split<;>simp only[oldN]<;>omega
theorem z72{Q:List Attr->Prop}:∀{d:List DStep} {x:Act},(∀s∈d,Q s.attrs)->(∀c∈x.set,Q c)->∀c∈(actF x d).set,Q c
 | [],x,_,h=>h
 |s::d,x,hd,h=>by
  refine z72 (d:=d) (fun t ht=>hd t (by simp[ht])) ?_
  unfold actS
  split
  ·exact h
  ·intro c hc
   rcases qm.1 hc with hc|hc
   ·exact h c hc
   ·rw[zJ] at hc;rw[hc.2];exact hd s (by simp)
theorem y6E{d:List DStep}(h:z0D d):∀s∈d,VG true s.attrs:=fun s hs=>by
 rcases h.1.all s hs with⟨_,_,a,_⟩| ⟨_,_,_,_,_,v⟩
 ·rw[a];exact z5h
 ·exact v
theorem y6F{f:List Elem}{d:List DStep}(h:z0D d)(hl:oldD d=f.length)(hf:∀e∈f,VG false e.attrs):z1e (z0d d)/\(z0d d).cut.length=f.length/\doneR f (z0d d) 0=rawD f d:=by
 obtain⟨a,b⟩:=z71 h
 have ho:=y1R a _ 0 rfl (qp _)
 have e:(z0d d).cut.length=f.length:=by
  rw[b] at ho
  have:oldD d=oldN (exD d):=by
   have:=z82 (l:=d) (fun s hs=>okW (h.1.all s hs));omega
  omega
 refine⟨a,e,?_⟩
 rw[y1Q a e hf (z72 (y6E h) (fun c hc=>by cases hc)) _ 0 rfl (qp _),b];rfl
end Go.Ch
namespace Go.Ch
open Go Go.Ab
structure AIv(d:List DStep)(i:Nat)(x:Act):Prop where
 fit:z1e x
 go:actF x (d.drop i)=z0d d
 len:(x.cut.length:Int)+oldD (d.drop i)=oldD d
 el:∀e∈x.ins,(e.length:Int)+newD (d.drop i)<=newD d
theorem AIv.start{d:List DStep}:AIv d 0 ⟨[[]],[],[]⟩:=⟨⟨rfl,rfl⟩,rfl,by simp,fun e he=>by rw[qK] at he;subst he;simp⟩
theorem AIv.next{d:List DStep}{i:Nat}{x:Act}(h:AIv d i x)(hv:z0D d)(hi:i<d.length):AIv d (i+1) (actS x (d.getD i default)):=by
 obtain⟨s1,s2,s3,s4,s5,s6,s7,s8⟩:=z15 hi hv.1
 refine⟨z5A h.fit _,(y0w hi x).symm.trans h.go,?_,?_⟩
 ·have:=h.len
  unfold actS
  split
  ·rename_i k;rw[if_pos k] at s1;simp only;omega
  ·rename_i k;rw[if_neg k] at s1;simp only[qc,qW];omega
 ·have he:=h.el
  unfold actS
  split
  ·rename_i k
   have hz:szD (d.getD i default)=(d.getD i default).elems.length:=by unfold szD;rw[if_pos k]
   rw[if_neg (by omega)] at s2
   intro e hm
   rcases zu hm with hm|rfl
   ·have:=he e hm;omega
   ·have:=he _ (z0e (l:=x.ins) (k:=x.ins.length- 1) (by have:=h.fit.1;omega))
    rw[qc];omega
  ·rename_i k
   have:newD (d.drop (i+1))<=newD (d.drop i):=by rw[s2];split<;>omega
   intro e hm
   rcases qm.1 hm with hm|hm
   ·have:=he e hm;omega
   ·rw[zJ] at hm;rw[hm.2]
    have h0:=he _ (z0e (l:=x.ins) (k:=0) (by have:=h.fit.1;omega))
    simp only[zh];omega
theorem AIv.done{d:List DStep}{i:Nat}{x:Act}(h:AIv d i x)(hi:d.length<=i):x=z0d d:=by have:=h.go;rw[y1N hi] at this;exact this
end Go.Ch
namespace Go.Ch
open Go Go.Ab
theorem y4t{d:List DStep}{f:List Elem}(h:z0D d)(hl:oldD d=f.length):((rawD f d).length:Int)=newD d:=by
 have hw:=z82 (l:=d) (fun s hs=>okW (h.1.all s hs))
 unfold rawD
 rw[z2P _ _ (by omega)]
 exact hw.2
end Go.Ch
end
section
namespace Go.Ch
open Go Go.Ab
def stepU:DU->DStep
 | .K c=>⟨0,1,c,[]⟩
 | .A e=>⟨1,0,[],[e]⟩
 | .C=>⟨2,1,[],[]⟩
theorem y6G{u:DU}(h:z0G u):DOk (stepU u):=by
 cases u with
 |K c=>exact .inr ⟨.inl rfl,rfl,fun h=>absurd (show(0:Int)=2 from h) (by decide),zO 1,(by decide:(1:Int)<=2147483647),h.1⟩
 |A e=>exact .inl ⟨rfl,rfl,rfl,by simp[stepU],fun x hx=>by rw[show x=e by simpa[stepU] using hx];exact h.1⟩
 |C=>exact .inr ⟨.inr rfl,rfl,fun _=>rfl,zO 1,(by decide:(1:Int)<=2147483647),z5h⟩
theorem tdW_U(w:DWr)(u:DU):tdW w (stepU u)=putU w u:=by
 cases u<;>simp[tdW,stepU,putU]
theorem y6H{w:DWr}(h:0<=w.cut)(u:DU):0<=(putU w u).cut/\(putU w u).cut<=w.cut+1:=by
 cases u<;>simp only[putU]<;>omega
theorem y4u:∀(us:List DU) (w:DWr),(∀u∈us,z0G u)->0<=w.cut->w.cut+us.length<=2147483647->tidyG w (us.map stepU)=if z0W (z0b (foldD w us))=0 then(z0b (foldD w us),0) else([],3)
 | [],w,_,_,_=>by rw[zV,tidyG,foldD]
 |u::us,w,hu,h0,hl=>by
  simp only[qi] at hl
  have hc:=y6H h0 u
  rw[q9,tidyG,if_neg (by rw[z6q (z0J.2 (y6G (hu u (by simp))))];decide),if_neg,tdW_U,y4u us _ (fun v hv=>hu v (by simp[hv])) hc.1 (by omega),foldD]
  rintro⟨k0,k1,hb⟩
  have hn:(stepU u).n<=1:=by cases u<;>simp[stepU]
  omega
theorem z66{us:List DU}(hu:∀u∈us,z0G u)(hl:us.length<=2147483647):tidyL (us.map stepU)=doneD us/\tidyE (us.map stepU)=0:=by
 have h1:oldN us<=us.length/\newN us<=us.length:=by
  clear hu hl
  induction us with
  |nil=>exact⟨qr _,qr _⟩
  |cons u us ih=>cases u<;>simp only[oldN,newN,qi]<;>omega
 have hd:=z1Y hu (by omega) (by omega)
 have:=y4u us ⟨[],[],0⟩ hu (zO _) (by simp only;omega)
 rw[if_pos (show z0W (z0b (foldD ⟨[],[],0⟩ us))=0 from z0S.2 hd.1)] at this
 unfold tidyL tidyE
 rw[this]
 exact⟨rfl,rfl⟩
theorem y4v{us:List DU}(hu:∀u∈us,z0G u):(us.map stepU).length=us.length/\elS (us.map stepU)<=us.length/\((∀u∈us,UnitS u)->DN 100000000000 (us.map stepU)):=by
 refine⟨qg _,?_,fun hs s hm=> ?_⟩
 ·have:=y7V (l:=us.map stepU) (fun s hm=>by
   obtain⟨u,_,rfl⟩:=qy.1 hm
   cases u<;>simp[stepU])
  rw[qg] at this;exact this
 ·obtain⟨u,h,rfl⟩:=qy.1 hm
  have:=hs u h
  cases u with
  |K c=>exact⟨by simp[stepU],by have:=this.2;simp only[stepU];omega,fun x hx=>by cases hx⟩
  |A e=>exact⟨by simp[stepU],by simp[stepU],fun x hx=>by rw[show x=e by simpa[stepU] using hx];have:=this.2;omega⟩
  |C=>exact⟨by simp[stepU],by simp[stepU],fun x hx=>by cases hx⟩
theorem z9b(p:Nat->Bool)(c:Nat->List Attr)(f:List Elem):∀(n s:Nat),s+n=f.length->
 z0h ((List.range' s n).map fun i=>if p i=true then .C else .K (c i)) (f.drop s)=((List.range' s n).filter fun i=> !p i).map fun i=>chgE (c i) (f.getD i default)
 |0,s,h=>by simp[z0h]
 |n+1,s,h=>by
  have ih:=z9b p c f n (s+1) (by omega)
  rw[List.range'_succ,q9,dropD (show s<f.length by omega),zA]
  cases hp:p s with
  |true=>simp[z0h,ih]
  |false=>simp[z0h,ih]
def intsT(l:List Int):Tree:= .lst 1 (l.map intT)
def z0r(x y:Elem):Bool:=(x.char==y.char)&&(x.ref==y.ref)
def z01(x y:Elem):Int:=if sameL x.attrs y.attrs=true then 0 else 1
theorem z26(x y:Elem):0<=z01 x y/\z01 x y<=1:=by unfold z01;split<;>omega
def tabR(a b:List Elem)(i k:Nat):Int:=
 if i<a.length then
  if k<b.length then
   if z0r (a.getD i default) (b.getD k default)=true then min (1+min (tabR a b (i+1) k) (tabR a b i (k+1))) (tabR a b (i+1) (k+1)+z01 (a.getD i default) (b.getD k default))
   else 1+min (tabR a b (i+1) k) (tabR a b i (k+1))
  else(a.length:Int)- i
 else(b.length:Int)- k
termination_by (a.length-i)+(b.length-k)
theorem y9U(a b:List Elem):∀(n i k:Nat),(a.length-i)+(b.length-k)=n->i<=a.length->k<=b.length->0<=tabR a b i k/\tabR a b i k<=((a.length-i:Nat):Int)+((b.length-k:Nat):Int):=by
 intro n
 induction n using Nat.strongRecOn with
 |_ n ih=>
  intro i k hn hi hk
  rw[tabR]
  by_cases h1:i<a.length
  ·rw[if_pos h1]
   by_cases h2:k<b.length
   ·rw[if_pos h2]
    have i1:=ih ((a.length- (i+1))+(b.length-k)) (by omega) (i+1) k rfl (by omega) hk
    have i2:=ih ((a.length-i)+(b.length- (k+1))) (by omega) i (k+1) rfl hi (by omega)
    have i3:=ih ((a.length- (i+1))+(b.length- (k+1))) (by omega) (i+1) (k+1) rfl (by omega) (by omega)
    have p:=z26 (a.getD i default) (b.getD k default)
    split<;>omega
   ·rw[if_neg h2];omega
  ·rw[if_neg h1];omega
theorem z1T{a b:List Elem}{i k:Nat}(hi:i<=a.length)(hk:k<=b.length):0<=tabR a b i k/\tabR a b i k<=(a.length:Int)+b.length:=by
 have:=y9U a b _ i k rfl hi hk;omega
def rowT(a b:List Elem)(i:Nat):List Int:=(List.range (b.length+1)).map (tabR a b i)
def tabL(a b:List Elem):List (List Int):=(List.range (a.length+1)).map (rowT a b)
theorem z5B(a b:List Elem)(i:Nat):(rowT a b i).length=b.length+1:=by simp[rowT]
theorem z73{a b:List Elem}{i k:Nat}(h:k<=b.length):(rowT a b i).getD k default=tabR a b i k:=by
 unfold rowT
 rw[List.getD,ze,List.getElem?_range (by omega)];rfl
theorem y0x{a b:List Elem}{i:Nat}(h:i<=a.length):(tabL a b).getD i default=rowT a b i:=by
 unfold tabL
 rw[List.getD,ze,List.getElem?_range (by omega)];rfl
theorem z5C(a b:List Elem):(tabL a b).length=a.length+1:=by simp[tabL]
theorem y4w{α:Type}[Inhabited α]{l r:List α}(hl:l.length=r.length)(h:∀j,j<r.length->l.getD j default=r.getD j default):l=r:=by
 apply List.ext_getElem hl
 intro j h1 h2
 have:=h j h2
 simpa[List.getD,qa h1,qa h2] using this
structure TOq(a b:List Elem)(L:List (List Int))(i:Int):Prop where
 bd: -1<=i/\i<=a.length
 len:L.length=a.length+1
 at_:∀j:Nat,i<j->j<=a.length->L.getD j default=rowT a b j
structure TIq(a b:List Elem)(o:List Int)(i k:Int):Prop where
 bd: -1<=k/\k<=b.length
 len:o.length=b.length+1
 at_:∀j:Nat,k<j->j<=b.length->o.getD j default=tabR a b i.toNat j
theorem TOq.start(a b:List Elem):TOq a b (List.replicate (a.length+1) []) a.length:=⟨by omega,by simp,fun j h1 h2=>by omega⟩
theorem TIq.start(a b:List Elem)(i:Int):TIq a b (List.replicate (b.length+1) 0) i b.length:=⟨by omega,by simp,fun j h1 h2=>by omega⟩
theorem TIq.row{a b:List Elem}{o:List Int}{i k:Int}(h:TIq a b o i k)(hk:k<0):o=rowT a b i.toNat:=
 y4w (by rw[h.len,z5B]) (fun j hj=>by rw[z5B] at hj;rw[h.at_ j (by omega) (by omega),z73 (by omega)])
theorem z74{α:Type}[Inhabited α]{l:List α}{i j:Nat}{x:α}(h:i<l.length):(l.set i x).getD j default=if i=j then x else l.getD j default:=by
 by_cases e:i=j
 ·subst e;rw[if_pos rfl,z25 h]
 ·rw[if_neg e,z6s e]
theorem TOq.next{a b:List Elem}{L:List (List Int)}{o:List Int}{i k:Int}(h:TOq a b L i)(h0:0<=i)(g:TIq a b o i k)(hk:k<0):TOq a b (L.set i.toNat o) (i- 1):=by
 obtain⟨b1,b2⟩:=h.bd
 refine⟨by omega,by rw[zq];exact h.len,fun j h1 h2=> ?_⟩
 rw[z74 (by have:=h.len;omega)]
 split
 ·rename_i e;rw[g.row hk,e]
 ·exact h.at_ j (by omega) h2
theorem TOq.done{a b:List Elem}{L:List (List Int)}{i:Int}(h:TOq a b L i)(hi:i<0):L=tabL a b:=
 y4w (by rw[h.len,z5C]) (fun j hj=>by rw[z5C] at hj;rw[h.at_ j (by omega) (by omega),y0x (by omega)])
theorem TOq.below{a b:List Elem}{L:List (List Int)}{i:Int}(h:TOq a b L i)(h0:0<=i)(h1:i<a.length):L.getD (Int.toNat (i+1)) default=rowT a b (i.toNat+1):=by
 have:=h.at_ (Int.toNat (i+1)) (by omega) (by omega)
 rw[this,show Int.toNat (i+1)=i.toNat+1 by omega]
theorem TIq.next{a b:List Elem}{o:List Int}{i k:Int}{v:Int}(h:TIq a b o i k)(h0:0<=k)(hv:v=tabR a b i.toNat k.toNat):TIq a b (o.set k.toNat v) i (k- 1):=by
 obtain⟨b1,b2⟩:=h.bd
 refine⟨by omega,by rw[zq];exact h.len,fun j h1 h2=> ?_⟩
 rw[z74 (by have:=h.len;omega)]
 split
 ·rename_i e;rw[hv,e]
 ·exact h.at_ j (by omega) h2
theorem TIq.right{a b:List Elem}{o:List Int}{i k:Int}(h:TIq a b o i k)(h0:0<=k)(h1:k<b.length):o.getD (Int.toNat (k+1)) default=tabR a b i.toNat (k.toNat+1):=by
 have:=h.at_ (Int.toNat (k+1)) (by omega) (by omega)
 rw[this,show Int.toNat (k+1)=k.toNat+1 by omega]
end Go.Ch
end
section
namespace Go.Ch
open Go Go.Ab
def chgU(x y:Elem):List Attr:=fm chgG x.attrs y.attrs
def KeepP(a b:List Elem)(i k:Nat):Prop:=(i<a.length/\k<b.length)/\z0r (a.getD i default) (b.getD k default)=true/\tabR a b i k=tabR a b (i+1) (k+1)+z01 (a.getD i default) (b.getD k default)
instance (a b:List Elem) (i k:Nat):Decidable (KeepP a b i k):=by unfold KeepP;infer_instance
def CutP(a b:List Elem)(i k:Nat):Prop:=i<a.length/\(k=b.length\/tabR a b i k=1+tabR a b (i+1) k)
instance (a b:List Elem) (i k:Nat):Decidable (CutP a b i k):=by unfold CutP;infer_instance
def pathU(a b:List Elem)(i k:Nat):List DU:=
 if h1:KeepP a b i k then .K (chgU (a.getD i default) (b.getD k default))::pathU a b (i+1) (k+1)
 else if h2:CutP a b i k then .C::pathU a b (i+1) k
 else if k<b.length then .A (b.getD k default)::pathU a b i (k+1)
 else[]
termination_by (a.length-i)+(b.length-k)
decreasing_by
 ·have:=h1.1;omega
 ·have:=h2.1;omega
 ·omega
theorem z1E{a b:List Elem}{i k:Nat}(h:KeepP a b i k):pathU a b i k= .K (chgU (a.getD i default) (b.getD k default))::pathU a b (i+1) (k+1):=by rw[pathU,dif_pos h]
theorem z27{a b:List Elem}{i k:Nat}(h:¬KeepP a b i k)(h2:CutP a b i k):pathU a b i k= .C::pathU a b (i+1) k:=by rw[pathU,dif_neg h,dif_pos h2]
theorem z2w{a b:List Elem}{i k:Nat}(h:¬KeepP a b i k)(h2:¬CutP a b i k)(h3:k<b.length):pathU a b i k= .A (b.getD k default)::pathU a b i (k+1):=by rw[pathU,dif_neg h,dif_neg h2,if_pos h3]
theorem z2x{a b:List Elem}{i k:Nat}(h:a.length<=i)(h3:b.length<=k):pathU a b i k=[]:=by
 rw[pathU,dif_neg (fun q=>by have:=q.1;omega),dif_neg (fun q=>by have:=q.1;omega),if_neg (by omega)]
theorem z35{a b:List Elem}{i k:Nat}(hi:i<=a.length)(hk:k<=b.length)(h2:¬CutP a b i k)(h:i<a.length\/k<b.length):k<b.length:=by
 refine qk fun q=>h2 ⟨by omega,.inl (by omega)⟩
def costU:List DU->Int
 | []=>0
 | .K c::u=>(if 0<c.length then 1 else 0)+costU u
 | .A _::u=>1+costU u
 | .C::u=>1+costU u
theorem z9c(u v:List DU):costU (u++v)=costU u+costU v:=by
 induction u with
 |nil=>simp[costU]
 |cons x u ih=>cases x<;>simp only[qe,costU,ih]<;>omega
theorem y6I{u v:List DU}(h:DSw u v):costU u=costU v:=by
 induction h with
 |refl u=>rfl
 |cons x _ ih=>cases x<;>simp only[costU,ih]
 |swap e u=>simp only[costU]
 |symm _ ih=>exact ih.symm
 |trans _ _ a b=>exact a.trans b
theorem y0y{x y:List Attr}(hx:VG false x)(hy:VG false y):(0< (fm chgG x y).length)↔sameL x y=false:=by
 constructor
 ·intro h
  cases hs:sameL x y with
  |false=>rfl
  |true=>
   have:=z5x.1 hs
   subst this
   obtain⟨z,hz⟩:∃z,z∈fm chgG x x:=List.exists_mem_of_length_pos h
   exact absurd rfl (z6i np_mt vp_mt hx hx hz)
 ·intro h
  refine qk fun q=> ?_
  have e:fm chgG x y=[]:=zN.1 (by omega)
  have:=z4p np_mt vp_mt hx hy
  rw[e,y0t] at this
  rw[this,z14] at h;cases h
theorem z9d{x y:Elem}(hx:VG false x.attrs)(hy:VG false y.attrs):(if 0< (chgU x y).length then(1:Int) else 0)=z01 x y:=by
 unfold z01 chgU
 cases hs:sameL x.attrs y.attrs with
 |true=>rw[if_neg (fun h=>by have:=(y0y hx hy).1 h;rw[hs] at this;cases this),if_pos rfl]
 |false=>rw[if_pos ((y0y hx hy).2 hs),if_neg (by decide)]
theorem y7X{x y:Elem}(ha:z0r x y=true)(hx:VG false x.attrs)(hy:VG false y.attrs):chgE (chgU x y) x=y:=by
 unfold z0r at ha
 simp only[qd,beq_iff_eq] at ha
 obtain⟨xc,xr,xa⟩:=x
 obtain⟨yc,yr,ya⟩:=y
 simp only at ha hx hy
 unfold chgE chgU
 simp only
 rw[z4p np_mt vp_mt hx hy,ha.1,ha.2]
theorem z75{a b:List Elem}{i:Nat}(hi:i<=a.length):tabR a b i b.length=(a.length:Int)- i:=by
 rw[tabR]
 by_cases h:i<a.length
 ·rw[if_pos h,if_neg (by omega)]
 ·rw[if_neg h];omega
theorem y1S{a b:List Elem}{k:Nat}(hk:k<=b.length):tabR a b a.length k=(b.length:Int)- k:=by
 rw[tabR,if_neg (by omega)]
def AV(l:List Elem):Prop:=∀x∈l,VG false x.attrs
theorem AV.at_{l:List Elem}(h:AV l){i:Nat}(hi:i<l.length):VG false (l.getD i default).attrs:=h _ (z0e hi)
theorem z9e{a b:List Elem}(ha:AV a)(hb:AV b):∀(n i k:Nat),(a.length-i)+(b.length-k)=n->i<=a.length->k<=b.length->costU (pathU a b i k)=tabR a b i k:=by
 intro n
 induction n using Nat.strongRecOn with
 |_ n ih=>
  intro i k hn hi hk
  by_cases h1:KeepP a b i k
  ·rw[z1E h1,costU,z9d (ha.at_ h1.1.1) (hb.at_ h1.1.2),ih _ (by have:=h1.1;omega) (i+1) (k+1) rfl (by have:=h1.1;omega) (by have:=h1.1;omega),h1.2.2];omega
  ·by_cases h2:CutP a b i k
   ·rw[z27 h1 h2,costU,ih _ (by have:=h2.1;omega) (i+1) k rfl (by have:=h2.1;omega) hk]
    rcases h2.2 with q|q
    ·subst q
     rw[z75 (by have:=h2.1;omega),z75 hi];omega
    ·exact q.symm
   ·by_cases h3:i<a.length\/k<b.length
    ·have hk2:=z35 hi hk h2 h3
     rw[z2w h1 h2 hk2,costU,ih _ (by omega) i (k+1) rfl hi (by omega)]
     by_cases h4:i<a.length
     ·have hc:¬tabR a b i k=1+tabR a b (i+1) k:=fun q=>h2 ⟨h4,.inr q⟩
      have e:=tabR.eq_1 a b i k
      rw[if_pos h4,if_pos hk2] at e
      by_cases h5:z0r (a.getD i default) (b.getD k default)=true
      ·rw[if_pos h5] at e
       have hq:¬tabR a b i k=tabR a b (i+1) (k+1)+z01 (a.getD i default) (b.getD k default):=fun q=>h1 ⟨⟨h4,hk2⟩,h5,q⟩
       omega
      ·rw[if_neg h5] at e;omega
     ·have hi2:i=a.length:=by omega
      subst hi2
      rw[y1S (by omega),y1S hk];omega
    ·rw[z2x (by omega) (by omega),show k=b.length by omega,z75 hi]
     simp only[costU];omega
theorem z67{a b:List Elem}(ha:AV a)(hb:AV b):∀(n i k:Nat),(a.length-i)+(b.length-k)=n->i<=a.length->k<=b.length->z0h (pathU a b i k) (a.drop i)=b.drop k:=by
 intro n
 induction n using Nat.strongRecOn with
 |_ n ih=>
  intro i k hn hi hk
  by_cases h1:KeepP a b i k
  ·rw[z1E h1,dropD (l:=a) h1.1.1,z0h,ih _ (by have:=h1.1;omega) (i+1) (k+1) rfl (by have:=h1.1;omega) (by have:=h1.1;omega),dropD (l:=b) h1.1.2,y7X h1.2.1 (ha.at_ h1.1.1) (hb.at_ h1.1.2)]
  ·by_cases h2:CutP a b i k
   ·rw[z27 h1 h2,dropD (l:=a) h2.1,z0h,ih _ (by have:=h2.1;omega) (i+1) k rfl (by have:=h2.1;omega) hk]
   ·by_cases h3:i<a.length\/k<b.length
    ·have hk2:=z35 hi hk h2 h3
     rw[z2w h1 h2 hk2,z0h,ih _ (by omega) i (k+1) rfl hi (by omega),dropD (l:=b) hk2]
    ·rw[z2x (by omega) (by omega),z0h,qT (by omega)]
theorem z5D{a b:List Elem}:∀(n i k:Nat),(a.length-i)+(b.length-k)=n->i<=a.length->k<=b.length->(pathU a b i k).length<=n:=by
 intro n
 induction n using Nat.strongRecOn with
 |_ n ih=>
  intro i k hn hi hk
  by_cases h1:KeepP a b i k
  ·rw[z1E h1]
   have:=ih ((a.length- (i+1))+(b.length- (k+1))) (by have:=h1.1;omega) (i+1) (k+1) rfl (by have:=h1.1;omega) (by have:=h1.1;omega)
   simp only[qi];have:=h1.1;omega
  ·by_cases h2:CutP a b i k
   ·rw[z27 h1 h2]
    have:=ih ((a.length- (i+1))+(b.length-k)) (by have:=h2.1;omega) (i+1) k rfl (by have:=h2.1;omega) hk
    simp only[qi];have:=h2.1;omega
   ·by_cases h3:i<a.length\/k<b.length
    ·have hk2:=z35 hi hk h2 h3
     rw[z2w h1 h2 hk2]
     have:=ih ((a.length-i)+(b.length- (k+1))) (by omega) i (k+1) rfl hi (by omega)
     simp only[qi];omega
    ·rw[z2x (by omega) (by omega)];simp
theorem z5E{a b:List Elem}{Q:DU->Prop}(hK:∀i k,i<a.length->k<b.length->Q (.K (chgU (a.getD i default) (b.getD k default))))(hA:∀k,k<b.length->Q (.A (b.getD k default)))(hC:Q .C):
 ∀(n i k:Nat),(a.length-i)+(b.length-k)=n->i<=a.length->k<=b.length->∀u∈pathU a b i k,Q u:=by
 intro n
 induction n using Nat.strongRecOn with
 |_ n ih=>
  intro i k hn hi hk u hu
  by_cases h1:KeepP a b i k
  ·rw[z1E h1] at hu
   rcases qn.1 hu with rfl|hu
   ·exact hK i k h1.1.1 h1.1.2
   ·exact ih _ (by have:=h1.1;omega) (i+1) (k+1) rfl (by have:=h1.1;omega) (by have:=h1.1;omega) u hu
  ·by_cases h2:CutP a b i k
   ·rw[z27 h1 h2] at hu
    rcases qn.1 hu with rfl|hu
    ·exact hC
    ·exact ih _ (by have:=h2.1;omega) (i+1) k rfl (by have:=h2.1;omega) hk u hu
   ·by_cases h3:i<a.length\/k<b.length
    ·have hk2:=z35 hi hk h2 h3
     rw[z2w h1 h2 hk2] at hu
     rcases qn.1 hu with rfl|hu
     ·exact hA k hk2
     ·exact ih _ (by omega) i (k+1) rfl hi (by omega) u hu
    ·rw[z2x (by omega) (by omega)] at hu;cases hu
theorem y4x(x y:Elem):z0r x y=z0r y x:=by
 unfold z0r
 rw[zj];simp only[qd,beq_iff_eq]
 exact⟨fun h=>⟨h.1.symm,h.2.symm⟩,fun h=>⟨h.1.symm,h.2.symm⟩⟩
theorem z9f(x y:Elem):z01 x y=z01 y x:=by
 unfold z01
 have:sameL x.attrs y.attrs=true↔sameL y.attrs x.attrs=true:=by rw[z5x,z5x];exact eq_comm
 by_cases h:sameL x.attrs y.attrs=true
 ·rw[if_pos h,if_pos (this.1 h)]
 ·rw[if_neg h,if_neg (fun q=>h (this.2 q))]
theorem y4y(a b:List Elem):∀(n i k:Nat),(a.length-i)+(b.length-k)=n->i<=a.length->k<=b.length->tabR a b i k=tabR b a k i:=by
 intro n
 induction n using Nat.strongRecOn with
 |_ n ih=>
  intro i k hn hi hk
  by_cases h1:i<a.length
  ·by_cases h2:k<b.length
   ·rw[tabR,tabR.eq_1 b a k i,if_pos h1,if_pos h2,if_pos h2,if_pos h1,ih _ (by omega) (i+1) k rfl (by omega) hk,ih _ (by omega) i (k+1) rfl hi (by omega),ih _ (by omega) (i+1) (k+1) rfl (by omega) (by omega),y4x,z9f]
    split<;>omega
   ·rw[tabR,tabR.eq_1 b a k i,if_pos h1,if_neg h2,if_neg h2]
  ·rw[tabR,tabR.eq_1 b a k i,if_neg h1]
   by_cases h2:k<b.length
   ·rw[if_pos h2,if_neg h1]
   ·rw[if_neg h2];omega
def TiedP(a b:List Elem):Prop:=((0<a.length/\0<b.length)/\(a.getD (a.length- 1) default).char=10)/\(b.getD (b.length- 1) default).char=10
instance (a b:List Elem):Decidable (TiedP a b):=by unfold TiedP;infer_instance
def ini(a:List Elem):List Elem:=a.take (a.length- 1)
def lst(a:List Elem):Elem:=a.getD (a.length- 1) default
def diffU(a b:List Elem):List DU:=if TiedP a b then pathU (ini a) (ini b) 0 0++[.K (chgU (lst a) (lst b))] else pathU a b 0 0
def costT(a b:List Elem):Int:=if TiedP a b then tabR (ini a) (ini b) 0 0+z01 (lst a) (lst b) else tabR a b 0 0
theorem y4z{a:List Elem}(h:0<a.length):a=ini a++[lst a]:=by
 unfold ini lst
 conv=>lhs;rw[<-List.take_append_drop (a.length- 1) a]
 rw[dropD (show a.length- 1<a.length by omega),qT (by omega)]
theorem z1I{a:List Elem}:(ini a).length=a.length- 1:=by simp[ini]
theorem AV.ini{a:List Elem}(h:AV a):AV (ini a):=fun x hx=>h x (qL hx)
theorem AV.lst{a:List Elem}(h:AV a)(hp:0<a.length):VG false (lst a).attrs:=h _ (z0e (by omega))
theorem z2y:∀(u v:List DU) (l r:List Elem),oldN u=l.length->z0h (u++v) (l++r)=z0h u l++z0h v r
 | [],v,[],r,h=>rfl
 | [],v,_::_,r,h=>by simp[oldN] at h
 | .A e::u,v,l,r,h=>by simp only[qe,z0h];rw[z2y u v l r (by simpa[oldN] using h)]
 | .K c::u,v,[],r,h=>by simp[oldN] at h
 | .C::u,v,[],r,h=>by simp[oldN] at h
 | .K c::u,v,x::l,r,h=>by simp only[qe,z0h];rw[z2y u v l r (by simpa[oldN] using h)]
 | .C::u,v,x::l,r,h=>by simp only[qe,z0h];rw[z2y u v l r (by simpa[oldN] using h)]
theorem y1T{a b:List Elem}:∀(n i k:Nat),(a.length-i)+(b.length-k)=n->i<=a.length->k<=b.length->oldN (pathU a b i k)=a.length-i:=by
 intro n
 induction n using Nat.strongRecOn with
 |_ n ih=>
  intro i k hn hi hk
  by_cases h1:KeepP a b i k
  ·rw[z1E h1,oldN,ih _ (by have:=h1.1;omega) (i+1) (k+1) rfl (by have:=h1.1;omega) (by have:=h1.1;omega)];have:=h1.1;omega
   intro e h;cases h
  ·by_cases h2:CutP a b i k
   ·rw[z27 h1 h2,oldN,ih _ (by have:=h2.1;omega) (i+1) k rfl (by have:=h2.1;omega) hk];have:=h2.1;omega
    intro e h;cases h
   ·by_cases h3:i<a.length\/k<b.length
    ·have hk2:=z35 hi hk h2 h3
     rw[z2w h1 h2 hk2,oldN,ih _ (by omega) i (k+1) rfl hi (by omega)]
    ·rw[z2x (by omega) (by omega),oldN];omega
def costS(s:DStep):Int:=if s.kind=1 then(s.elems.length:Int) else if s.kind=2\/0<s.attrs.length then s.n else 0
def costD:List DStep->Int
 | []=>0
 |s::l=>costS s+costD l
theorem y6J(e:List Elem):costU (e.map .A)=e.length:=by
 induction e with
 |nil=>rfl
 |cons x e ih=>simp only[q9,costU,ih,qi];omega
theorem y6K(n:Nat):costU (List.replicate n .C)=n:=by
 induction n with
 |zero=>rfl
 |succ n ih=>simp only[qo,costU,ih];omega
theorem y6L(n:Nat)(c:List Attr):costU (List.replicate n (.K c))=if 0<c.length then(n:Int) else 0:=by
 induction n with
 |zero=>simp[costU]
 |succ n ih=>simp only[qo,costU,ih];split<;>omega
theorem y6M{s:DStep}(h:DOk s):costS s=costU (exS s)/\0<=costS s:=by
 have hz:=z0V (z0J.2 h)
 unfold costS exS
 by_cases k1:s.kind=1
 ·rw[if_pos k1,if_pos k1,y6J];exact⟨rfl,by omega⟩
 ·rw[if_neg k1,if_neg k1]
  by_cases k2:s.kind=2
  ·rw[if_pos (.inl k2),if_pos k2,y6K];omega
  ·rw[if_neg k2,y6L]
   by_cases h0:0<s.attrs.length
   ·rw[if_pos (.inr h0),if_pos h0];omega
   ·rw[if_neg (by rintro(q|q);exact k2 q;exact h0 q),if_neg h0];omega
theorem y1U:∀{d:List DStep},(∀s∈d,DOk s)->costD d=costU (exD d)
 | [],_=>rfl
 |s::d,h=>by
  rw[costD,exD,z9c,(y6M (h s (by simp))).1,y1U (d:=d) (fun t ht=>h t (by simp[ht]))]
theorem z4D{a b:List Elem}(pa:partE a 0=0)(pb:partE b 0=0)(na:AN 1000000000 a)(nb:AN 1000000000 b)(la:a.length<=2000)(lb:b.length<=2000):
 tidyL ((diffU a b).map stepU)=doneD (diffU a b)/\tidyE ((diffU a b).map stepU)=0/\((diffU a b).map stepU).length<=5000/\elS ((diffU a b).map stepU)<=5000/\DN 100000000000 ((diffU a b).map stepU)/\
 z0D (doneD (diffU a b))/\DN 400000000000 (doneD (diffU a b))/\oldD (doneD (diffU a b))=a.length/\rawD a (doneD (diffU a b))=b/\costD (doneD (diffU a b))=costT a b/\0<=costT a b/\costT a b<=(a.length:Int)+b.length/\costT a b=costT b a:=by
 have va:AV a:=fun x hx=>z7T (z2s.1 pa x hx)
 have vb:AV b:=fun x hx=>z7T (z2s.1 pb x hx)
 have eb:∀x∈b,elemE x=0:=z2s.1 pb
 have chgl:∀x y:Elem,x.attrs.length<=1000000000->y.attrs.length<=1000000000->(chgU x y).length<=4000000000:=fun x y h1 h2=>by
  have:=z0Z chgG x.attrs y.attrs;unfold chgU;omega
 have hu:∀u∈diffU a b,z0G u/\DN 100000000000 [stepU u]:=by
  have kok:∀x y:Elem,VG false x.attrs->VG false y.attrs->x.attrs.length<=1000000000->y.attrs.length<=1000000000->z0G (.K (chgU x y))/\DN 100000000000 [stepU (.K (chgU x y))]:=fun x y h1 h2 h3 h4=>by
   have:=chgl x y h3 h4
   refine⟨⟨chg_V np_mt h1 h2,by omega⟩,fun s hs=> ?_⟩
   rw[qK] at hs;subst hs
   exact⟨by simp[stepU],by simp only[stepU];omega,fun x hx=>by cases hx⟩
  have aok:∀x:Elem,elemE x=0->x.attrs.length<=1000000000->z0G (.A x)/\DN 100000000000 [stepU (.A x)]:=fun x h1 h2=>by
   refine⟨⟨h1,by omega⟩,fun s hs=> ?_⟩
   rw[qK] at hs;subst hs
   exact⟨by simp[stepU],by simp[stepU],fun y hy=>by rw[show y=x by simpa[stepU] using hy];omega⟩
  have cok:z0G .C/\DN 100000000000 [stepU .C]:=⟨trivial,fun s hs=>by
   rw[qK] at hs;subst hs
   exact⟨by simp[stepU],by simp[stepU],fun y hy=>by cases hy⟩⟩
  unfold diffU
  intro u hu
  split at hu
  ·rename_i ht
   rcases qm.1 hu with hu|hu
   ·refine z5E (Q:=fun u=>z0G u/\DN 100000000000 [stepU u]) (fun i k h1 h2=>kok _ _ (va.ini.at_ h1) (vb.ini.at_ h2) (na _ (qL (z0e h1))) (nb _ (qL (z0e h2)))) (fun k h=>aok _ (eb _ (qL (z0e h))) (nb _ (qL (z0e h)))) cok _ 0 0 rfl (qp _) (qp _) u hu
   ·rw[qK] at hu;subst hu
    exact kok _ _ (va.lst ht.1.1.1) (vb.lst ht.1.1.2) (na _ (z0e (by have:=ht.1.1.1;omega))) (nb _ (z0e (by have:=ht.1.1.2;omega)))
  ·exact z5E (Q:=fun u=>z0G u/\DN 100000000000 [stepU u]) (fun i k h1 h2=>kok _ _ (va.at_ h1) (vb.at_ h2) (na _ (z0e h1)) (nb _ (z0e h2))) (fun k h=>aok _ (eb _ (z0e h)) (nb _ (z0e h))) cok _ 0 0 rfl (qp _) (qp _) u hu
 have hl:(diffU a b).length<=4001:=by
  unfold diffU
  split
  ·have:=z5D (a:=ini a) (b:=ini b) _ 0 0 rfl (qp _) (qp _)
   rw[z1I,z1I] at this
   rw[qc];simp only[zG];omega
  ·have:=z5D (a:=a) (b:=b) _ 0 0 rfl (qp _) (qp _);omega
 have hap:z0h (diffU a b) a=b/\oldN (diffU a b)=a.length:=by
  unfold diffU
  by_cases ht:TiedP a b
  ·rw[if_pos ht]
   have e1:=z67 va.ini vb.ini _ 0 0 rfl (qp _) (qp _)
   have o1:=y1T (a:=ini a) (b:=ini b) _ 0 0 rfl (qp _) (qp _)
   rw[zS,zS] at e1
   constructor
   ·have key:=z2y (pathU (ini a) (ini b) 0 0) [.K (chgU (lst a) (lst b))] (ini a) [lst a] (by omega)
    rw[<-y4z ht.1.1.1] at key
    rw[key,e1]
    have hal:z0r (lst a) (lst b)=true:=by
     have w1:=z2s.1 pa (lst a) (z0e (by have:=ht.1.1.1;omega))
     have w2:=z2s.1 pb (lst b) (z0e (by have:=ht.1.1.2;omega))
     have c1:(lst a).char=10:=ht.1.2
     have c2:(lst b).char=10:=ht.2
     have r:∀x:Elem,elemE x=0->x.char=10->x.ref=0:=fun x hx hc=>by
      unfold elemE at hx
      split at hx
      ·omega
      ·rename_i q
       exact qk fun hr=>q ⟨fun e=>by omega,fun e=>absurd e hr⟩
     unfold z0r
     rw[c1,c2,r _ w1 c1,r _ w2 c2];rfl
    simp only[z0h]
    rw[y7X hal (va.lst ht.1.1.1) (vb.lst ht.1.1.2)]
    exact(y4z ht.1.1.2).symm
   ·rw[z0E,o1,z1I];simp only[oldN];have:=ht.1.1.1;omega
  ·rw[if_neg ht]
   have e1:=z67 va vb _ 0 0 rfl (qp _) (qp _)
   have o1:=y1T (a:=a) (b:=b) _ 0 0 rfl (qp _) (qp _)
   rw[zS,zS] at e1
   exact⟨e1,by omega⟩
 have hco:costU (diffU a b)=costT a b:=by
  unfold diffU costT
  split
  ·rename_i ht
   rw[z9c,z9e va.ini vb.ini _ 0 0 rfl (qp _) (qp _),costU,z9d (va.lst ht.1.1.1) (vb.lst ht.1.1.2),costU];omega
  ·rw[z9e va vb _ 0 0 rfl (qp _) (qp _)]
 have hcb:0<=costT a b/\costT a b<=(a.length:Int)+b.length:=by
  unfold costT
  split
  ·rename_i ht
   have:=z1T (a:=ini a) (b:=ini b) (i:=0) (k:=0) (qp _) (qp _)
   rw[z1I,z1I] at this
   have p:=z26 (lst a) (lst b)
   have:=ht.1.1;omega
  ·exact z1T (qp _) (qp _)
 have hcs:costT a b=costT b a:=by
  unfold costT
  by_cases ht:TiedP a b
  ·rw[if_pos ht,if_pos ⟨⟨⟨ht.1.1.2,ht.1.1.1⟩,ht.2⟩,ht.1.2⟩,y4y _ _ _ 0 0 rfl (qp _) (qp _),z9f]
  ·rw[if_neg ht,if_neg (fun q=>ht ⟨⟨⟨q.1.1.2,q.1.1.1⟩,q.2⟩,q.1.2⟩),y4y _ _ _ 0 0 rfl (qp _) (qp _)]
 have hok:∀u∈diffU a b,z0G u:=fun u h=>(hu u h).1
 obtain⟨t1,t2⟩:=z66 hok (by omega)
 have hn:oldN (diffU a b)<=(diffU a b).length/\newN (diffU a b)<=(diffU a b).length:=by
  have:∀us:List DU,oldN us<=us.length/\newN us<=us.length:=by
   intro us
   induction us with
   |nil=>exact⟨qr _,qr _⟩
   |cons u us ih=>cases u<;>simp only[oldN,newN,qi]<;>omega
  exact this _
 obtain⟨d1,d2,d3,d4⟩:=z1Y hok (by omega) (by omega)
 obtain⟨m1,m2,_⟩:=y4v hok
 have hfl:=(DI.start hok (by omega)).all.fl.2
 refine⟨t1,t2,by omega,by omega,fun s hs=> ?_,d1,hfl,by rw[d3,hap.2],?_,?_,hcb.1,hcb.2,hcs⟩
 ·obtain⟨u,h,rfl⟩:=qy.1 hs
  exact(hu u h).2 _ (by simp)
 ·unfold rawD;rw[z81 d2];exact hap.1
 ·rw[y1U d1.1.all,y6I d2,hco]
end Go.Ch
namespace Go.Ch
open Go Go.Ab
theorem z68{a b:List Elem}{i k:Nat}(hi:i<=a.length)(hk:k<=b.length):((tabL a b).getD i default).getD k default=tabR a b i k:=by rw[y0x hi,z73 hk]
theorem z76{a b:List Elem}{i:Nat}(hi:i<=a.length):((tabL a b).getD i default).length=b.length+1:=by rw[y0x hi,z5B]
theorem y7Y{l:List Elem}{k:Nat}(h:k<l.length):(l.take (k+1)).drop k=[l.getD k default]:=by
 rw[qD h,jg,qT (by simp;omega)]
 simp[show k-min k l.length=0 by omega,List.getD,qa h]
end Go.Ch
namespace Go.Ch
open Go Go.Ab
theorem z3v{a:List Elem}{x:Elem}(h:x∈ini a):x∈a:=qL h
end Go.Ch
end
section
namespace Go.Ch
open Go Go.Ab
theorem y4A{α:Type}(p:List α)(u v:α)(k m:Nat):(p++(List.replicate k u++List.replicate (m+1) v)).set (p.length+k) u=p++(List.replicate (k+1) u++List.replicate m v):=by
 rw[List.set_append,if_neg (by omega),List.set_append,if_neg (by simp),qW,show p.length+k-p.length-k=0 by omega,qo,List.set_cons_zero,List.replicate_succ',qE]
 rfl
structure RI(d:List DStep)(n:Nat)(i:Nat)(I:List (List Elem))(C:List Bool)(S:List (List Attr))(w:Int)(x:Act):Prop where
 fit:z1e x
 go:actF x (d.drop i)=z0d d
 at_:w=x.cut.length
 old:(x.cut.length:Int)+oldD (d.drop i)=n
 ins:I=x.ins++List.replicate (n-x.cut.length) []
 cut:C=x.cut++List.replicate (n-x.cut.length) false
 set:S=x.set++List.replicate (n-x.cut.length) []
 emp:i<d.length->(d.getD i default).kind=1->x.ins.getD (x.ins.length- 1) default=[]
theorem RI.start{d:List DStep}{n:Nat}(hn:oldD d=n):RI d n 0 (List.replicate (n+1) []) (List.replicate n false) (List.replicate n []) 0 ⟨[[]],[],[]⟩:=
 ⟨⟨rfl,rfl⟩,rfl,rfl,by simpa using hn,by simp[qo],by simp,by simp,fun _ _=>rfl⟩
theorem RI.lens{d:List DStep}{n i:Nat}{I:List (List Elem)}{C:List Bool}{S:List (List Attr)}{w:Int}{x:Act}(h:RI d n i I C S w x)(hv:z0D d):I.length=n+1/\C.length=n/\S.length=n/\0<=w/\w<=n:=by
 have h1:=h.old
 have h2:=z4W (l:=d.drop i) (fun s hs=>hv.1.all s (zc hs))
 obtain⟨f1,f2⟩:=h.fit
 have:=h.at_
 rw[h.ins,h.cut,h.set]
 simp only[qc,qW]
 omega
theorem y4B{d:List DStep}(hv:DForm d){i:Nat}(hi:i+1<d.length):adjD (d.getD i default) (d.getD (i+1) default)=false:=by
 have:=(z2h hv (i+1) (qp _) hi).2 (by omega)
 rwa [Nat.add_sub_cancel] at this
theorem y6N{s t:DStep}(h:adjD s t=false):(s.kind=t.kind->t.kind=0)/\¬(s.kind=2/\t.kind=1):=by
 have hn:¬adjD s t=true:=by rw[h];decide
 rw[z4v] at hn
 exact⟨fun e=>qk fun q=>hn (.inl ⟨e,.inl q⟩),fun e=>hn (.inr e)⟩
theorem RI.add{d:List DStep}{n i:Nat}{I:List (List Elem)}{C:List Bool}{S:List (List Attr)}{w:Int}{x:Act}(h:RI d n i I C S w x)(hv:z0D d)(hi:i<d.length)(k:(d.getD i default).kind=1):
 RI d n (i+1) (I.set w.toNat (d.getD i default).elems) C S w (actS x (d.getD i default)):=by
 obtain⟨s1,s2,s3,s4,s5,s6,s7,s8⟩:=z15 hi hv.1
 rw[if_pos k] at s1
 obtain⟨f1,f2⟩:=h.fit
 have e:actS x (d.getD i default)=⟨x.ins.set (x.ins.length- 1) (x.ins.getD (x.ins.length- 1) default++(d.getD i default).elems),x.cut,x.set⟩:=by unfold actS;rw[if_pos k]
 have hE:=h.emp hi k
 refine⟨z5A h.fit _,(y0w hi x).symm.trans h.go,?_,?_,?_,?_,?_,fun h1 h2=> ?_⟩
 ·rw[e];exact h.at_
 ·rw[e];have:=h.old;simp only;omega
 ·rw[e,h.ins,h.at_]
  simp only[Int.toNat_natCast]
  rw[hE,zo,List.set_append,if_pos (by omega),show x.ins.length- 1=x.cut.length by omega]
 ·rw[e];exact h.cut
 ·rw[e];exact h.set
 ·have:=y6N (y4B hv.1 h1)
  omega
structure RC(C0:List Bool)(n w k:Nat)(x:Act)(C:List Bool):Prop where
 eq:C=x.cut++(List.replicate k true++List.replicate (n-x.cut.length-k) false)
structure RS(n k:Nat)(c:List Attr)(x:Act)(S:List (List Attr)):Prop where
 eq:S=x.set++(List.replicate k c++List.replicate (n-x.cut.length-k) [])
theorem RC.start{n w:Nat}{x:Act}{C:List Bool}(h:C=x.cut++List.replicate (n-x.cut.length) false):RC C n w 0 x C:=⟨by simpa using h⟩
theorem RS.start{n:Nat}{c:List Attr}{x:Act}{S:List (List Attr)}(h:S=x.set++List.replicate (n-x.cut.length) []):RS n 0 c x S:=⟨by simpa using h⟩
theorem RC.next{C0:List Bool}{n w k j:Nat}{x:Act}{C:List Bool}(h:RC C0 n w k x C)(hk:k<n-x.cut.length)(hj:j=x.cut.length+k):RC C0 n w (k+1) x (C.set j true):=⟨by
 subst hj
 rw[h.eq,show n-x.cut.length-k=(n-x.cut.length- (k+1))+1 by omega,y4A]⟩
theorem RS.next{n k j:Nat}{c:List Attr}{x:Act}{S:List (List Attr)}(h:RS n k c x S)(hf:z1e x)(hk:k<n-x.cut.length)(hj:j=x.cut.length+k):RS n (k+1) c x (S.set j c):=⟨by
 subst hj
 rw[h.eq,show n-x.cut.length-k=(n-x.cut.length- (k+1))+1 by omega,<-hf.2,y4A]⟩
theorem RC.len{C0:List Bool}{n w k:Nat}{x:Act}{C:List Bool}(h:RC C0 n w k x C)(hk:k<=n-x.cut.length)(hn:x.cut.length<=n):C.length=n:=by rw[h.eq];simp;omega
theorem RS.len{n k:Nat}{c:List Attr}{x:Act}{S:List (List Attr)}(h:RS n k c x S)(hf:z1e x)(hk:k<=n-x.cut.length)(hn:x.cut.length<=n):S.length=n:=by
 have:=hf.2
 rw[h.eq];simp;omega
theorem RI.rest{d:List DStep}{n i:Nat}{I:List (List Elem)}{C C':List Bool}{S S':List (List Attr)}{w:Int}{x:Act}(h:RI d n i I C S w x)(hv:z0D d)(hi:i<d.length)(k:(d.getD i default).kind≠1)
 (hC:C'=x.cut++(List.replicate (d.getD i default).n.toNat ((d.getD i default).kind==2)++List.replicate (n-x.cut.length- (d.getD i default).n.toNat) false))
 (hS:S'=x.set++(List.replicate (d.getD i default).n.toNat (d.getD i default).attrs++List.replicate (n-x.cut.length- (d.getD i default).n.toNat) [])):
 RI d n (i+1) I C' S' (w+(d.getD i default).n) (actS x (d.getD i default)):=by
 obtain⟨s1,s2,s3,s4,s5,s6,s7,s8⟩:=z15 hi hv.1
 rw[if_neg k] at s1
 obtain⟨f1,f2⟩:=h.fit
 have e:actS x (d.getD i default)=⟨x.ins++List.replicate (d.getD i default).n.toNat [],x.cut++List.replicate (d.getD i default).n.toNat ((d.getD i default).kind==2),x.set++List.replicate (d.getD i default).n.toNat (d.getD i default).attrs⟩:=by unfold actS;rw[if_neg k]
 have ho:=h.old
 have hn:n- (x.cut.length+(d.getD i default).n.toNat)=n-x.cut.length- (d.getD i default).n.toNat:=by omega
 have hn1:1<=(d.getD i default).n.toNat:=by
  have hz:szD (d.getD i default)=(d.getD i default).n:=by unfold szD;rw[if_neg k]
  omega
 refine⟨z5A h.fit _,(y0w hi x).symm.trans h.go,?_,?_,?_,?_,?_,fun h1 h2=> ?_⟩
 ·rw[e,h.at_];simp only[qc,qW];omega
 ·rw[e];simp only[qc,qW];omega
 ·rw[e,h.ins]
  simp only[qc,qW,qE,zR]
  congr 2;omega
 ·rw[e,hC];simp only[qc,qW,qE,hn]
 ·rw[e,hS];simp only[qc,qW,qE,hn]
 ·rw[e]
  simp only[qc,qW]
  rw[List.getD,qP (by omega),List.getElem?_replicate,if_pos (by omega)];rfl
theorem RI.done{d:List DStep}{n i:Nat}{I:List (List Elem)}{C:List Bool}{S:List (List Attr)}{w:Int}{x:Act}(h:RI d n i I C S w x)(hi:d.length<=i):I=(z0d d).ins/\C=(z0d d).cut/\S=(z0d d).set:=by
 have hg:=h.go
 rw[y1N hi] at hg
 have ho:=h.old
 rw[qT hi] at ho
 simp only[oldD] at ho
 rw[h.ins,h.cut,h.set,<-hg,show n-x.cut.length=0 by omega]
 simp
theorem y1V{α:Type}(a b:Nat)(u:α):List.replicate a u++List.replicate b u=List.replicate (a+b) u:=zR
structure Conf where
 kind:Int
 node:Int
 fr:Int
 tq:Int
 name:ByteArray
instance:Inhabited Conf:=⟨⟨0,0,0,0,{data:=#[]}⟩⟩
def confT(s:Conf):Tree:= .agg [.sc (.int .i64 s.kind),.sc (.int .i64 s.node),.sc (.int .i64 s.fr),.sc (.int .i64 s.tq),.sc (.string s.name)]
def gapO(o a b:List Elem):List Elem:=if b.length=0\/sameF a b=true then o++a else o++a++b
def gapC(node:Int)(o a b:List Elem)(c:List Conf):List Conf:=
 if b.length=0\/sameF a b=true then c else if 0<a.length then c++[⟨0,node,o.length,(o++a++b).length,{data:=#[]}⟩] else c
def idxM(l:List Attr)(n:ByteArray)(i:Nat):Int:=if i<l.length then(if seq (l.getD i default).name n=true then(i:Int) else idxM l n (i+1)) else-1
termination_by l.length-i
theorem y4C(l:List Attr)(n:ByteArray):∀(m i:Nat),l.length-i=m->idxM l n i= -1\/(0<=idxM l n i/\idxM l n i<l.length)
 |0,i,h=>by rw[idxM,if_neg (by omega)];exact .inl rfl
 |m+1,i,h=>by
  rw[idxM,if_pos (by omega)]
  split
  ·right;omega
  ·exact y4C l n m (i+1) (by omega)
def z6u(b:List Attr)(x:Attr):Bool:=decide (0<=idxM b x.name 0)&& !(seq (b.getD (idxM b x.name 0).toNat default).val x.val)
def attC(node:Int)(at_:Nat)(b:List Attr)(a:List Attr):List Conf:=(a.filter (z6u b)).map fun x=>⟨2,node,at_,(at_:Int)+1,x.name⟩
theorem z9g(node:Int)(at_:Nat)(b a:List Attr)(x:Attr):attC node at_ b (a++[x])=attC node at_ b a++(if z6u b x=true then[⟨2,node,at_,(at_:Int)+1,x.name⟩] else[]):=by
 unfold attC
 rw[zp,zg,zA]
 cases z6u b x<;>simp
theorem y1W(node:Int)(at_:Nat)(b a:List Attr):(attC node at_ b a).length<=a.length:=by
 unfold attC;rw[qg];exact z7 _ _
def keptE(x:Elem)(a b:List Attr):Elem:=⟨x.char,x.ref,fm rawG (fm rawG x.attrs b) a⟩
def elmO(o:List Elem)(x:Elem)(a b:List Attr)(ca cb:Bool):List Elem:=if(ca||cb)=true then o else o++[keptE x a b]
def elmC(node:Int)(o:List Elem)(a b:List Attr)(ca cb:Bool)(c:List Conf):List Conf:=
 if(ca||cb)=true then(if(ca=false/\0<a.length)\/(cb=false/\0<b.length) then c++[⟨1,node,o.length,o.length,{data:=#[]}⟩] else c)
 else c++attC node o.length b a
def mrgS(node:Int)(f:List Elem)(A B:Act):Nat->List Elem×List Conf
 |0=>([],[])
 |i+1=>
  (elmO (gapO (mrgS node f A B i).1 (A.ins.getD i default) (B.ins.getD i default)) (f.getD i default) (A.set.getD i default) (B.set.getD i default) (A.cut.getD i default) (B.cut.getD i default),
   elmC node (gapO (mrgS node f A B i).1 (A.ins.getD i default) (B.ins.getD i default)) (A.set.getD i default) (B.set.getD i default) (A.cut.getD i default) (B.cut.getD i default) (gapC node (mrgS node f A B i).1 (A.ins.getD i default) (B.ins.getD i default) (mrgS node f A B i).2))
def mrgO(node:Int)(f:List Elem)(A B:Act):List Elem:=gapO (mrgS node f A B f.length).1 (A.ins.getD f.length default) (B.ins.getD f.length default)
def mrgC(node:Int)(f:List Elem)(A B:Act):List Conf:=gapC node (mrgS node f A B f.length).1 (A.ins.getD f.length default) (B.ins.getD f.length default) (mrgS node f A B f.length).2
structure ActBd(A:Act)(n:Nat):Prop where
 fit:z1e A
 len:A.cut.length=n
 ins:∀e∈A.ins,e.length<=3000/\AN 10000000 e
 set:∀c∈A.set,c.length<=20000000
structure MBd(o:List Elem)(c:List Conf)(i:Nat):Prop where
 len:o.length<=6001*i
 an:AN 60000000 o
 conf:c.length<=30000000*i
theorem ActBd.at_{A:Act}{n i:Nat}(h:ActBd A n)(hi:i<=n):(A.ins.getD i default).length<=3000/\AN 10000000 (A.ins.getD i default):=h.ins _ (z0e (by have:=h.fit.1;have:=h.len;omega))
theorem ActBd.set_{A:Act}{n i:Nat}(h:ActBd A n)(hi:i<n):(A.set.getD i default).length<=20000000:=h.set _ (z0e (by have:=h.fit.2;have:=h.len;omega))
theorem y4D{o a b:List Elem}{c:List Conf}{node:Int}{i:Nat}(h:MBd o c i)(ha:a.length<=3000/\AN 10000000 a)(hb:b.length<=3000/\AN 10000000 b):
 (gapO o a b).length<=6001*i+6000/\AN 60000000 (gapO o a b)/\(gapC node o a b c).length<=30000000*i+1:=by
 have h1:=h.len
 have h3:=h.conf
 have hx:∀x,x∈o\/x∈a\/x∈b->x.attrs.length<=60000000:=fun x hx=>by
  rcases hx with q|q|q
  ·exact h.an x q
  ·have:=ha.2 x q;omega
  ·have:=hb.2 x q;omega
 unfold gapO gapC
 split
 ·exact⟨by rw[qc];omega,fun x q=>hx x (by rcases qm.1 q with q|q;exact .inl q;exact .inr (.inl q)),by omega⟩
 ·refine⟨by simp only[qc];omega,fun x q=>hx x (by
   rcases qm.1 q with q|q
   ·rcases qm.1 q with q|q
    ·exact .inl q
    ·exact .inr (.inl q)
   ·exact .inr (.inr q)),by split<;>(try simp only[qc,qi,zh])<;>omega⟩
theorem y9V{o:List Elem}{x:Elem}{a b:List Attr}{ca cb:Bool}{c:List Conf}{node:Int}{i:Nat}(h1:o.length<=6001*i+6000)(h2:AN 60000000 o)(h3:c.length<=30000000*i+1)
 (hx:x.attrs.length<=10000000) (ha:a.length<=20000000) (hb:b.length<=20000000):MBd (elmO o x a b ca cb) (elmC node o a b ca cb c) (i+1):=by
 unfold elmO elmC
 have hl:=y1W node o.length b a
 split
 ·exact⟨by omega,h2,by split<;>(try simp only[qc,qi,zh])<;>omega⟩
 ·refine⟨by simp;omega,fun y hy=> ?_,by rw[qc];omega⟩
  rcases qm.1 hy with hy|hy
  ·exact h2 y hy
  ·rw[qK] at hy;subst hy
   have q1:=z0Z rawG x.attrs b
   have q2:=z0Z rawG (fm rawG x.attrs b) a
   show(fm rawG (fm rawG x.attrs b) a).length<=60000000
   omega
theorem y7Z{f:List Elem}{A B:Act}{node:Int}(hA:ActBd A f.length)(hB:ActBd B f.length)(hf:AN 10000000 f):∀i,i<=f.length->MBd (mrgS node f A B i).1 (mrgS node f A B i).2 i
 |0,_=>⟨qp _,fun x hx=>(by cases hx),qp _⟩
 |i+1,hi=>by
  have ih:=y7Z hA hB hf (node:=node) i (by omega)
  have g:=y4D (node:=node) ih (hA.at_ (i:=i) (by omega)) (hB.at_ (i:=i) (by omega))
  exact y9V g.1 g.2.1 g.2.2 (hf _ (z0e (by omega))) (hA.set_ (by omega)) (hB.set_ (by omega))
end Go.Ch
end
section
set_option maxRecDepth 100000
set_option maxHeartbeats 4000000
open Go Go.Proofs Go.Ab
namespace Go.Ch
theorem z9h(o:List DStep)(a:List Elem)(c:Int)(n:Int)(l:List Attr)(h0:n=0):FC Tryz.prog 118 [.ptr 0 0,VI n,VL 2 attrT l] (app emp [(0,.box [.row 1 o.length,.row 2 a.length,VI c]),(1,OR 4 z0c o),(2,OR 3 elemT a)]) (.tup []) (app emp [(0,.box [.row 1 o.length,.row 2 a.length,VI c]),(1,OR 4 z0c o),(2,OR 3 elemT a)]):=by
 refine .go Tryz.f118 ?_
 refine .len 2 (fun hl2=> ?_)
 refine .bp [.r []] (n==0) (fun h0=> ?_) (fun h0=> ?_)
 ·
  exact .fin [] [(0,0),(1,1),(2,2)]
 ·
  exfalso
  omega
theorem y4E(o:List DStep)(a:List Elem)(c:Int)(ho:o.length<=100000000000)(hc:¬z0W (z0b ⟨o,a,c⟩)=0)(hd:DN 400000000000 (z0b ⟨o,a,c⟩)):FC Tryz.prog 120 [.ptr 0 0] (app emp [(0,.box [.row 1 o.length,.row 2 a.length,VI c]),(1,OR 4 z0c o),(2,OR 3 elemT a)]) (.tup [VL 4 z0c [],VI 3]) (app emp [(0,.box [.row 1 ((z0b ⟨o,a,c⟩).length),.row 3 0,VI 0]),(1,OR 4 z0c (z0b ⟨o,a,c⟩)),(2,OF 3 elemT a),(3,OR 3 elemT [])]):=by
 refine .go Tryz.f120 ?_
 refine .bp [.r [],.r [(1,X (Xc3 27 [(0,0),(1,1),(2,2)] (z6o o a c (by omega)) X0))],.r [(4,X (Xc0 (z1Q (z0b ⟨o,a,c⟩) (by assumption)) (rowC z0c (z0b ⟨o,a,c⟩) X0)))]] ((z0W (z0b ⟨o,a,c⟩)) !=0) (fun h2=> ?_) (fun h2=> ?_)
 ·
  exact .fin [.r [],.le (.nL 2 4)] [(0,0),(1,1),(2,2),(27,3)]
 ·
  exfalso
  omega
theorem z5F(d:List DStep)(hd:DN 100000000000 d)(hl:d.length<=100000000)(he:elS d<=10000000000):FC Tryz.prog 111 [VL 4 z0c d] (app emp []) (.tup [VL 4 z0c (tidyL d),VI (tidyE d)]) (app emp []):=by
 refine .go Tryz.f111 ?_
 refine .len 0 (fun hl0=> ?_)
 have hd4:=hd.mono (n:=400000000000) (by decide)
 refine .loop (α:=Nat×Int×(List DStep)×(List Elem)) [.r [],.r [],.le (.nB 16 0 4),.le (.nB 16 1 3),.r [(1,X (Xl z0c d))]] 50 (fun(i,y,o,x)=>([(4,.ptr 16 0),(8,VL 4 z0c d),(9,VI (d.length:Int)),(10,VI (i:Int))],[(16,.box [.row 24 o.length,.row 25 x.length,VI y]),(24,OR 4 z0c o),(25,OR 3 elemT x)])) (fun(i,y,o,x)=>i<=d.length/\tidyG ⟨[],[],0⟩ d=tidyG ⟨o,x,y⟩ (d.drop i)/\TB d i ⟨o,x,y⟩) (fun(i,y,o,x)=>d.length-i) (0,0,[],[]) ?_ ?_
 ·
  exact⟨by omega,rfl,TB.start d⟩
 rintro⟨i,y,o,x⟩ I3 ih3
 try dsimp only at I3
 have b1:=I3.2.2.out
 have b2:=I3.2.2.add
 have b3:=I3.2.2.cut
 simp only at b1 b2 b3
 refine .bp [.r []] (decide ((i:Int)< (d.length:Int))) (fun h3=> ?_) (fun h3=> ?_)
 ·
  obtain⟨e1,e2⟩:=y1L (d:=d) (i:=i) (by omega)
  have hT:=y6D (d:=d) (i:=i) (by omega) ⟨o,x,y⟩
  obtain⟨d1,d2,d3⟩:=hd4 _ (z0e (l:=d) (k:=i) (by omega))
  obtain⟨f1,f2⟩:=I3.2.2.flush (by omega) (by omega) (by omega)
  refine .bp [.r [(0,X (Xi z0c d (i:Int)))],.r [(1,X (Xc0 (y4f ((d.getD i default))) X0))],.r [(5,Xv 1 ((((d.getD i default)).kind)==1) X0),(6,Xv 1 ((((d.getD i default)).kind)==1) (Xl elemT (((d.getD i default)).elems))),(7,Xv 1 ((((d.getD i default)).kind)==1) X0),(8,X (Xk ((((d.getD i default)).kind)==1))),(11,Xv 1 (((((d.getD i default)).kind)==1)&&(((((d.getD i default)).elems).length:Int)==0)) X0),(12,X (Xk (((((d.getD i default)).kind)==1)&&(((((d.getD i default)).elems).length:Int)==0)))),(15,Xv 1 (!((((((d.getD i default)).kind)==1)&&(((((d.getD i default)).elems).length:Int)==0))&&((stepD ((d.getD i default)))==11))) X0),(16,Xv 1 (!((((((d.getD i default)).kind)==1)&&(((((d.getD i default)).elems).length:Int)==0))&&((stepD ((d.getD i default)))==11))) X0),(17,Xv 1 (!((((((d.getD i default)).kind)==1)&&(((((d.getD i default)).elems).length:Int)==0))&&((stepD ((d.getD i default)))==11))) X0),(19,Xv 1 ((!((((((d.getD i default)).kind)==1)&&(((((d.getD i default)).elems).length:Int)==0))&&((stepD ((d.getD i default)))==11)))&&((((d.getD i default)).kind) !=1)) X0),(20,Xv 1 ((!((((((d.getD i default)).kind)==1)&&(((((d.getD i default)).elems).length:Int)==0))&&((stepD ((d.getD i default)))==11)))&&((((d.getD i default)).kind) !=1)) X0),(21,Xka (!((((((d.getD i default)).kind)==1)&&(((((d.getD i default)).elems).length:Int)==0))&&((stepD ((d.getD i default)))==11))) ((((d.getD i default)).kind) !=1)),(22,Xv 1 (!((((((d.getD i default)).kind)==1)&&(((((d.getD i default)).elems).length:Int)==0))&&((stepD ((d.getD i default)))==11))) X0),(24,Xv 1 ((!((((((d.getD i default)).kind)==1)&&(((((d.getD i default)).elems).length:Int)==0))&&((stepD ((d.getD i default)))==11)))&&(((((d.getD i default)).kind) !=1)&&((((d.getD i default)).n)==0))) X0),(25,Xka (!((((((d.getD i default)).kind)==1)&&(((((d.getD i default)).elems).length:Int)==0))&&((stepD ((d.getD i default)))==11))) (((((d.getD i default)).kind) !=1)&&((((d.getD i default)).n)==0))),(26,X (Xk' ((((((d.getD i default)).kind)==1)&&(((((d.getD i default)).elems).length:Int)==0))&&((stepD ((d.getD i default)))==11))))]] (((((((d.getD i default)).kind)==1)&&(((((d.getD i default)).elems).length:Int)==0))&&((stepD ((d.getD i default)))==11))|| ((((((d.getD i default)).kind) !=1)&&((((d.getD i default)).n)==0))&&((stepD ((d.getD i default)))==2))) (fun h6=> ?_) (fun h6=> ?_)
  ·
   have hL:lenE (d.getD i default)=(chkA true (((d.getD i default)).attrs) 0):=by unfold lenE;first|rw[if_pos (by omega)]|rw[if_neg (by omega)]
   refine .bp [.r [(2,X (Xc0 (z1B (((d.getD i default)).attrs)) X0))],.r []] ((chkA true (((d.getD i default)).attrs) 0) !=0) (fun h8=> ?_) (fun h8=> ?_)
   ·
    have e1:((tidyL d):List DStep)=[]:=by
     unfold tidyL
     rw[I3.2.1,hT,if_pos (by rw[hL];exact h8)]
    have e2:((tidyE d):Int)=(chkA true (((d.getD i default)).attrs) 0):=by
     unfold tidyE
     rw[I3.2.1,hT,if_pos (by rw[hL];exact h8)]
     exact hL
    exact .finE [.r [],.le (.nL 2 4)] [] (fun((z0,z1):(List DStep)×Int)=>(.tup [VL 4 z0c z0,VI z1],[])) _ _ (pr e1 e2)
   ·
    have hL0:lenE (d.getD i default)=0:=by rw[hL];omega
    rw[if_neg (by rw[hL0];decide)] at hT
    obtain⟨hk,hn1,hn2⟩:=y0u hL0
    have hN:=I3.2.2.next (by omega) hd hL0
    clear h6
    refine .bp [.r [],.r []] ((((d.getD i default)).kind)==0) (fun h14=> ?_) (fun h14=> ?_)
    ·
     by_cases hn0:(d.getD i default).n=0
     ·
      refine .back [.r [(4,X (Xc3 442 [(0,16),(1,24),(2,25)] (z9h o x y (((d.getD i default)).n) (((d.getD i default)).attrs) (by assumption)) X0))],.r [(0,X (Xn ((i:Int)+1)))]] [(16,16),(24,24),(25,25)] (ih3 ((i+1),y,o,x) ?_ ?_)
      ·
       have hW:tdW ⟨o,x,y⟩ (d.getD i default)=⟨o,x,y⟩:=by unfold tdW;rw[if_pos h14,if_pos hn0]
       have hb:¬tdBad ⟨o,x,y⟩ (d.getD i default):=fun h=>h.1 h14
       have hN2:=hN hb
       rw[if_neg hb] at hT
       rw[hW] at hT hN2
       exact⟨by omega,I3.2.1.trans hT,hN2⟩
      ·
       ((try dsimp only);omega)
     ·
      refine .back [.r [(4,X (Xc3 442 [(0,16),(1,24),(2,25)] (z23 o x y (((d.getD i default)).n) (((d.getD i default)).attrs) (by omega) (by first|omega|simp) (by omega) (by first|assumption|exact kbd (by assumption))) X0))],.r [(0,X (Xn ((i:Int)+1)))]] [(16,16),(24,24),(442,25)] (ih3 ((i+1),0,(keepD (z0b ⟨o,x,y⟩) (((d.getD i default)).n) (((d.getD i default)).attrs)),[]) ?_ ?_)
      ·
       have hW:tdW ⟨o,x,y⟩ (d.getD i default)=⟨keepD (z0b ⟨o,x,y⟩) (d.getD i default).n (d.getD i default).attrs,[],0⟩:=by unfold tdW;rw[if_pos h14,if_neg hn0]
       have hb:¬tdBad ⟨o,x,y⟩ (d.getD i default):=fun h=>h.1 h14
       have hN2:=hN hb
       rw[if_neg hb] at hT
       rw[hW] at hT hN2
       exact⟨by omega,I3.2.1.trans hT,hN2⟩
      ·
       ((try dsimp only);omega)
    ·
     refine .bp [.r []] ((((d.getD i default)).kind)==1) (fun h16=> ?_) (fun h16=> ?_)
     ·
      have hz:True:=trivial
      refine .back [.r [(2,X (Xc3 442 [(0,16),(1,24),(2,25)] (z2O o x y (((d.getD i default)).elems) (by assumption) (by omega)) X0))],.r [(0,X (Xn ((i:Int)+1)))]] [(16,16),(24,24),(25,25)] (ih3 ((i+1),y,o,(x++(((d.getD i default)).elems))) ?_ ?_)
      ·
       have hW:tdW ⟨o,x,y⟩ (d.getD i default)=⟨o,x++(d.getD i default).elems,y⟩:=by unfold tdW;rw[if_neg h14,if_pos h16]
       have hb:¬tdBad ⟨o,x,y⟩ (d.getD i default):=fun h=>h.2.1 h16
       have hN2:=hN hb
       rw[if_neg hb] at hT
       rw[hW] at hT hN2
       exact⟨by omega,I3.2.1.trans hT,hN2⟩
      ·
       ((try dsimp only);omega)
     ·
      refine .bp [.r [(4,X (Xn (y+(((d.getD i default)).n))))],.r []] (decide ((y+(((d.getD i default)).n))> 2147483647)) (fun h12=> ?_) (fun h12=> ?_)
      ·
       refine .at 506 [(16,16),(24,24),(25,25)] ([(4,.ptr 16 0),(8,VL 4 z0c d),(9,VI (d.length:Int)),(10,VI (i:Int)),(59,VB (decide ((y+(((d.getD i default)).n))> 2147483647)))],[(16,.box [.row 24 o.length,.row 25 x.length,VI (y+(((d.getD i default)).n))]),(24,OR 4 z0c o),(25,OR 3 elemT x)]) ?_
       have e3:((tidyL d):List DStep)=[]:=by
        unfold tidyL
        rw[I3.2.1,hT,if_pos ⟨h14,h16,by simp only;omega⟩]
       have e4:((tidyE d):Int)=3:=by
        unfold tidyE
        rw[I3.2.1,hT,if_pos ⟨h14,h16,by simp only;omega⟩]
       exact .finE [.r [],.le (.nL 2 4)] [] (fun((z0,z1):(List DStep)×Int)=>(.tup [VL 4 z0c z0,VI z1],[])) _ _ (pr e3 e4)
      ·
       refine .at 506 [(16,16),(24,24),(25,25)] ([(4,.ptr 16 0),(8,VL 4 z0c d),(9,VI (d.length:Int)),(10,VI (i:Int)),(59,VB (decide ((y+(((d.getD i default)).n))> 2147483647)))],[(16,.box [.row 24 o.length,.row 25 x.length,VI (y+(((d.getD i default)).n))]),(24,OR 4 z0c o),(25,OR 3 elemT x)]) ?_
       refine .back [.r [(0,X (Xn ((i:Int)+1)))]] [(16,16),(24,24),(25,25)] (ih3 ((i+1),(y+(((d.getD i default)).n)),o,x) ?_ ?_)
       ·
        have hW:tdW ⟨o,x,y⟩ (d.getD i default)=⟨o,x,y+(d.getD i default).n⟩:=by unfold tdW;rw[if_neg h14,if_neg h16]
        have hb:¬tdBad ⟨o,x,y⟩ (d.getD i default):=fun h=>by have:=h.2.2;simp only at this;omega
        have hN2:=hN hb
        rw[if_neg hb] at hT
        rw[hW] at hT hN2
        exact⟨by omega,I3.2.1.trans hT,hN2⟩
       ·
        ((try dsimp only);omega)
  ·
   have hL:lenE (d.getD i default)=(stepD ((d.getD i default))):=by unfold lenE;first|rw[if_pos (by omega)]|rw[if_neg (by omega)]
   refine .bp [.r []] ((stepD ((d.getD i default))) !=0) (fun h8=> ?_) (fun h8=> ?_)
   ·
    have e5:((tidyL d):List DStep)=[]:=by
     unfold tidyL
     rw[I3.2.1,hT,if_pos (by rw[hL];exact h8)]
    have e6:((tidyE d):Int)=(stepD ((d.getD i default))):=by
     unfold tidyE
     rw[I3.2.1,hT,if_pos (by rw[hL];exact h8)]
     exact hL
    exact .finE [.r [],.le (.nL 2 4)] [] (fun((z0,z1):(List DStep)×Int)=>(.tup [VL 4 z0c z0,VI z1],[])) _ _ (pr e5 e6)
   ·
    have hL0:lenE (d.getD i default)=0:=by rw[hL];omega
    rw[if_neg (by rw[hL0];decide)] at hT
    obtain⟨hk,hn1,hn2⟩:=y0u hL0
    have hN:=I3.2.2.next (by omega) hd hL0
    clear h6
    refine .bp [.r [],.r []] ((((d.getD i default)).kind)==0) (fun h14=> ?_) (fun h14=> ?_)
    ·
     by_cases hn0:(d.getD i default).n=0
     ·
      refine .back [.r [(4,X (Xc3 410 [(0,16),(1,24),(2,25)] (z9h o x y (((d.getD i default)).n) (((d.getD i default)).attrs) (by assumption)) X0))],.r [(0,X (Xn ((i:Int)+1)))]] [(16,16),(24,24),(25,25)] (ih3 ((i+1),y,o,x) ?_ ?_)
      ·
       have hW:tdW ⟨o,x,y⟩ (d.getD i default)=⟨o,x,y⟩:=by unfold tdW;rw[if_pos h14,if_pos hn0]
       have hb:¬tdBad ⟨o,x,y⟩ (d.getD i default):=fun h=>h.1 h14
       have hN2:=hN hb
       rw[if_neg hb] at hT
       rw[hW] at hT hN2
       exact⟨by omega,I3.2.1.trans hT,hN2⟩
      ·
       ((try dsimp only);omega)
     ·
      refine .back [.r [(4,X (Xc3 410 [(0,16),(1,24),(2,25)] (z23 o x y (((d.getD i default)).n) (((d.getD i default)).attrs) (by omega) (by first|omega|simp) (by omega) (by first|assumption|exact kbd (by assumption))) X0))],.r [(0,X (Xn ((i:Int)+1)))]] [(16,16),(24,24),(410,25)] (ih3 ((i+1),0,(keepD (z0b ⟨o,x,y⟩) (((d.getD i default)).n) (((d.getD i default)).attrs)),[]) ?_ ?_)
      ·
       have hW:tdW ⟨o,x,y⟩ (d.getD i default)=⟨keepD (z0b ⟨o,x,y⟩) (d.getD i default).n (d.getD i default).attrs,[],0⟩:=by unfold tdW;rw[if_pos h14,if_neg hn0]
       have hb:¬tdBad ⟨o,x,y⟩ (d.getD i default):=fun h=>h.1 h14
       have hN2:=hN hb
       rw[if_neg hb] at hT
       rw[hW] at hT hN2
       exact⟨by omega,I3.2.1.trans hT,hN2⟩
      ·
       ((try dsimp only);omega)
    ·
     refine .bp [.r []] ((((d.getD i default)).kind)==1) (fun h16=> ?_) (fun h16=> ?_)
     ·
      have hz:True:=trivial
      refine .back [.r [(2,X (Xc3 410 [(0,16),(1,24),(2,25)] (z2O o x y (((d.getD i default)).elems) (by assumption) (by omega)) X0))],.r [(0,X (Xn ((i:Int)+1)))]] [(16,16),(24,24),(25,25)] (ih3 ((i+1),y,o,(x++(((d.getD i default)).elems))) ?_ ?_)
      ·
       have hW:tdW ⟨o,x,y⟩ (d.getD i default)=⟨o,x++(d.getD i default).elems,y⟩:=by unfold tdW;rw[if_neg h14,if_pos h16]
       have hb:¬tdBad ⟨o,x,y⟩ (d.getD i default):=fun h=>h.2.1 h16
       have hN2:=hN hb
       rw[if_neg hb] at hT
       rw[hW] at hT hN2
       exact⟨by omega,I3.2.1.trans hT,hN2⟩
      ·
       ((try dsimp only);omega)
     ·
      refine .bp [.r [(4,X (Xn (y+(((d.getD i default)).n))))],.r []] (decide ((y+(((d.getD i default)).n))> 2147483647)) (fun h12=> ?_) (fun h12=> ?_)
      ·
       refine .at 474 [(16,16),(24,24),(25,25)] ([(4,.ptr 16 0),(8,VL 4 z0c d),(9,VI (d.length:Int)),(10,VI (i:Int)),(59,VB (decide ((y+(((d.getD i default)).n))> 2147483647)))],[(16,.box [.row 24 o.length,.row 25 x.length,VI (y+(((d.getD i default)).n))]),(24,OR 4 z0c o),(25,OR 3 elemT x)]) ?_
       have e7:((tidyL d):List DStep)=[]:=by
        unfold tidyL
        rw[I3.2.1,hT,if_pos ⟨h14,h16,by simp only;omega⟩]
       have e8:((tidyE d):Int)=3:=by
        unfold tidyE
        rw[I3.2.1,hT,if_pos ⟨h14,h16,by simp only;omega⟩]
       exact .finE [.r [],.le (.nL 2 4)] [] (fun((z0,z1):(List DStep)×Int)=>(.tup [VL 4 z0c z0,VI z1],[])) _ _ (pr e7 e8)
      ·
       refine .at 474 [(16,16),(24,24),(25,25)] ([(4,.ptr 16 0),(8,VL 4 z0c d),(9,VI (d.length:Int)),(10,VI (i:Int)),(59,VB (decide ((y+(((d.getD i default)).n))> 2147483647)))],[(16,.box [.row 24 o.length,.row 25 x.length,VI (y+(((d.getD i default)).n))]),(24,OR 4 z0c o),(25,OR 3 elemT x)]) ?_
       refine .back [.r [(0,X (Xn ((i:Int)+1)))]] [(16,16),(24,24),(25,25)] (ih3 ((i+1),(y+(((d.getD i default)).n)),o,x) ?_ ?_)
       ·
        have hW:tdW ⟨o,x,y⟩ (d.getD i default)=⟨o,x,y+(d.getD i default).n⟩:=by unfold tdW;rw[if_neg h14,if_neg h16]
        have hb:¬tdBad ⟨o,x,y⟩ (d.getD i default):=fun h=>by have:=h.2.2;simp only at this;omega
        have hN2:=hN hb
        rw[if_neg hb] at hT
        rw[hW] at hT hN2
        exact⟨by omega,I3.2.1.trans hT,hN2⟩
       ·
        ((try dsimp only);omega)
 ·
  by_cases hck:z0W (z0b ⟨o,x,y⟩)=0
  ·
   have hTe:=z88 (d:=d) (i:=i) (by omega) ⟨o,x,y⟩
   obtain⟨f1,f2⟩:=I3.2.2.flush (by omega) (by omega) (by rw[qw (by omega)];omega)
   have e9:((tidyL d):List DStep)=(z0b ⟨o,x,y⟩):=by
    unfold tidyL
    rw[I3.2.1,hTe,if_pos hck]
   have e10:((tidyE d):Int)=0:=by
    unfold tidyE
    rw[I3.2.1,hTe,if_pos hck]
   exact .finE [.r [(0,X (Xc3 58 [(0,16),(1,24),(2,25)] (z5y o x y (by omega) (by assumption) (by assumption)) X0))],.le (.fr 2 [(((z0b ⟨o,x,y⟩).length):Nat)=(List.map z0c (z0b ⟨o,x,y⟩)).length] ⟨lm,trivial⟩)] [] (fun((z0,z1):(List DStep)×Int)=>(.tup [VL 4 z0c z0,VI z1],[])) _ _ (pr e9 e10)
  ·
   have hTe:=z88 (d:=d) (i:=i) (by omega) ⟨o,x,y⟩
   obtain⟨f1,f2⟩:=I3.2.2.flush (by omega) (by omega) (by rw[qw (by omega)];omega)
   have e11:((tidyL d):List DStep)=[]:=by
    unfold tidyL
    rw[I3.2.1,hTe,if_neg hck]
   have e12:((tidyE d):Int)=3:=by
    unfold tidyE
    rw[I3.2.1,hTe,if_neg hck]
   exact .finE [.r [(0,X (Xc3 58 [(0,16),(1,24),(2,25)] (y4E o x y (by omega) (by assumption) (by assumption)) X0))]] [] (fun((z0,z1):(List DStep)×Int)=>(.tup [VL 4 z0c z0,VI z1],[])) _ _ (pr e11 e12)
theorem z77(x y:Elem):FC Tryz.prog 160 [.t (elemT x),.t (elemT y)] (app emp []) (VB (z0r x y)) (app emp []):=by
 refine .go Tryz.f160 ?_
 have e1:((z0r x y):Bool)=((x.char==y.char)&&(x.ref==y.ref)):=by
  rfl
 exact .finE [.r [],.r [(7,Xv 1 (x.char==y.char) X0),(9,Xv 1 (x.char==y.char) X0),(10,Xv 2 (x.char==y.char) X0),(11,X (Xk (x.char==y.char)))]] [] (fun z0:Bool=>(VB z0,[])) _ _ e1
theorem z78(x y:Elem):FC Tryz.prog 161 [.t (elemT x),.t (elemT y)] (app emp []) (VI (z01 x y)) (app emp []):=by
 refine .go Tryz.f161 ?_
 refine .bp [.r [],.r [(4,X (Xc0 (z2g x.attrs y.attrs) X0))]] (sameL x.attrs y.attrs) (fun h1=> ?_) (fun h1=> ?_)
 ·
  have e1:((z01 x y):Int)=0:=by
   unfold z01;((repeat' split)<;>first|rfl|omega| (simp_all;done)| (simp_all;omega))
  exact .finE [.r []] [] (fun z0:Int=>(VI z0,[])) _ _ e1
 ·
  have e2:((z01 x y):Int)=1:=by
   unfold z01;((repeat' split)<;>first|rfl|omega| (simp_all;done)| (simp_all;omega))
  exact .finE [.r []] [] (fun z0:Int=>(VI z0,[])) _ _ e2
theorem z9i(a b:List Elem)(ha:a.length<=1000000)(hb:b.length<=1000000):FC Tryz.prog 159 [VL 3 elemT a,VL 3 elemT b] (app emp []) (VL 1 intsT (tabL a b)) (app emp []):=by
 refine .go Tryz.f159 ?_
 refine .len 0 (fun hl0=> ?_)
 refine .len 1 (fun hl1=> ?_)
 refine .loop (α:=Int×(List (List Int))) [.r [],.r [(1,X (Xl elemT a)),(2,X (Xn ((a.length:Int)+1))),(3,X (Xmm intsT 32 ((a.length:Int)+1) ((a.length:Int)+1) ([]:(List Int)) [TN] ⟨z3b (by decide),trivial⟩))],.r [(1,X (Xl elemT a))]] 72 (fun(i,L)=>([(0,VL 3 elemT a),(1,VL 3 elemT b),(5,.mat 32),(6,VI i)],[(32,.mat false (List.map intsT L) none)])) (fun(i,L)=>TOq a b L i) (fun(i,L)=>(i+1).toNat) ((a.length:Int),(List.replicate (a.length+1) ([]:(List Int)))) ?_ ?_
 ·
  exact TOq.start a b
 rintro⟨i,L⟩ I3 ih3
 replace I3:TOq a b L i:=I3
 obtain⟨i1,i2⟩:=I3.bd
 have Ll:=I3.len
 refine .bp [.r []] (decide (i>=0)) (fun h3=> ?_) (fun h3=> ?_)
 ·
  refine .loop (α:=Int×(List Int)) [.r [(3,X (Xl elemT b)),(4,X (Xn ((b.length:Int)+1))),(5,X (Xmk 1 intT 128 ((b.length:Int)+1) ((b.length:Int)+1) 0)),(6,X (Xmi intsT L i)),(7,X (Xms intsT L (Int.toNat i)))],.r [(1,X (Xl elemT b))]] 176 (fun(k,o)=>([(0,VL 3 elemT a),(1,VL 3 elemT b),(5,.mat 32),(6,VI i),(7,VI k)],[(32,.mat false (List.map intsT L) (some ((Int.toNat i),128,(b.length+1)))),(128,OR 1 intT o)])) (fun(k,o)=>TIq a b o i k) (fun(k,o)=>(k+1).toNat) ((b.length:Int),(List.replicate (b.length+1) 0)) ?_ ?_
  ·
   exact TIq.start a b i
  rintro⟨k,o⟩ I7 ih7
  replace I7:TIq a b o i k:=I7
  obtain⟨k1,k2⟩:=I7.bd
  have ol:=I7.len
  refine .bp [.r []] (decide (k>=0)) (fun h7=> ?_) (fun h7=> ?_)
  ·
   refine .bp [.r [(2,X (Xl elemT a))]] (i==(a.length:Int)) (fun h12=> ?_) (fun h12=> ?_)
   ·
    refine .back [.r [(2,X (Xmi intsT L i)),(3,X (Xmh intsT L (Int.toNat i) (Int.toNat i))),(6,X (Xl elemT b)),(8,X (Xn ((b.length:Int)- k))),(9,X (Xpn (b.length+1) intT o k)),(10,X (Xsn (b.length+1) 1 intT 128 o (Int.toNat k) ((b.length:Int)- k)))],.r [(1,X (Xn (k- 1)))]] [(32,32),(128,128)] (ih7 ((k- 1),(o.set (Int.toNat k) ((b.length:Int)- k))) ?_ ?_)
    ·
     exact I7.next (by omega) (by rw[tabR,if_neg (by omega)];omega)
    ·
     ((try dsimp only);omega)
   ·
    refine .bp [.r [(2,X (Xl elemT b))]] (k==(b.length:Int)) (fun h14=> ?_) (fun h14=> ?_)
    ·
     refine .back [.r [(2,X (Xmi intsT L i)),(3,X (Xmh intsT L (Int.toNat i) (Int.toNat i))),(6,X (Xl elemT a)),(8,X (Xn ((a.length:Int)- i))),(9,X (Xpn (b.length+1) intT o k)),(10,X (Xsn (b.length+1) 1 intT 128 o (Int.toNat k) ((a.length:Int)- i)))],.r [(1,X (Xn (k- 1)))]] [(32,32),(128,128)] (ih7 ((k- 1),(o.set (Int.toNat k) ((a.length:Int)- i))) ?_ ?_)
     ·
      exact I7.next (by omega) (by rw[tabR,if_pos (by omega),if_neg (by omega)];omega)
     ·
      ((try dsimp only);omega)
    ·
     have hA:=I3.below (by omega) (by omega)
     have hlA:(L.getD (Int.toNat (i+1)) default).length=b.length+1:=by rw[hA,z5B]
     have qA:((L.getD (Int.toNat (i+1)) default).getD (Int.toNat k) default)=tabR a b (i.toNat+1) k.toNat:=by rw[hA,z73 (by omega)]
     have qB:=I7.right (by omega) (by omega)
     have qC:((L.getD (Int.toNat (i+1)) default).getD (Int.toNat (k+1)) default)=tabR a b (i.toNat+1) (k.toNat+1):=by rw[hA,show Int.toNat (k+1)=k.toNat+1 by omega,z73 (by omega)]
     have dA:=z1T (a:=a) (b:=b) (i:=i.toNat+1) (k:=k.toNat) (by omega) (by omega)
     have dB:=z1T (a:=a) (b:=b) (i:=i.toNat) (k:=k.toNat+1) (by omega) (by omega)
     have dC:=z1T (a:=a) (b:=b) (i:=i.toNat+1) (k:=k.toNat+1) (by omega) (by omega)
     have dP:=z26 (a.getD i.toNat default) (b.getD k.toNat default)
     refine .bp [.r [(2,X (Xmi intsT L i)),(3,X (Xmh intsT L (Int.toNat i) (Int.toNat i))),(7,X (Xn (i+1))),(8,X (Xmi intsT L (i+1))),(9,X (Xml' intsT L (Int.toNat (i+1)) (Int.toNat i) 128 (b.length+1))),(11,X (Xi intT (L.getD (Int.toNat (i+1)) default) k)),(15,X (Xmi intsT L i)),(16,X (Xmh intsT L (Int.toNat i) (Int.toNat i))),(18,X (Xn (k+1))),(19,X (Xpn (b.length+1) intT o (k+1))),(20,X (Xen (b.length+1) intT o (Int.toNat (k+1)))),(21,X (Xmin ((L.getD (Int.toNat (i+1)) default).getD (Int.toNat k) default) (o.getD (Int.toNat (k+1)) default))),(22,X (Xn (1+(min ((L.getD (Int.toNat (i+1)) default).getD (Int.toNat k) default) (o.getD (Int.toNat (k+1)) default))))),(23,X (Xpn (b.length+1) intT o k)),(24,X (Xsn (b.length+1) 1 intT 128 o (Int.toNat k) (1+(min ((L.getD (Int.toNat (i+1)) default).getD (Int.toNat k) default) (o.getD (Int.toNat (k+1)) default)))))],.r [(2,X (Xi elemT a i)),(6,X (Xi elemT b k)),(8,X (Xc0 (z77 ((a.getD (Int.toNat i) default)) ((b.getD (Int.toNat k) default))) X0))]] (z0r ((a.getD (Int.toNat i) default)) ((b.getD (Int.toNat k) default))) (fun h10=> ?_) (fun h10=> ?_)
     ·
      have hS:((o.set (Int.toNat k) (1+(min ((L.getD (Int.toNat (i+1)) default).getD (Int.toNat k) default) (o.getD (Int.toNat (k+1)) default)))).getD (Int.toNat k) default)=(1+(min ((L.getD (Int.toNat (i+1)) default).getD (Int.toNat k) default) (o.getD (Int.toNat (k+1)) default))):=z25 (by omega)
      refine .back [.r [(2,X (Xmi intsT L i)),(3,X (Xmh intsT L (Int.toNat i) (Int.toNat i))),(7,X (Xmi intsT L i)),(8,X (Xmh intsT L (Int.toNat i) (Int.toNat i))),(10,X (Xpn (b.length+1) intT (o.set (Int.toNat k) (1+(min ((L.getD (Int.toNat (i+1)) default).getD (Int.toNat k) default) (o.getD (Int.toNat (k+1)) default)))) k)),(11,X (Xen (b.length+1) intT (o.set (Int.toNat k) (1+(min ((L.getD (Int.toNat (i+1)) default).getD (Int.toNat k) default) (o.getD (Int.toNat (k+1)) default)))) (Int.toNat k))),(14,X (Xn (i+1))),(15,X (Xmi intsT L (i+1))),(16,X (Xml' intsT L (Int.toNat (i+1)) (Int.toNat i) 128 (b.length+1))),(18,X (Xn (k+1))),(19,X (Xi intT (L.getD (Int.toNat (i+1)) default) (k+1))),(23,X (Xi elemT a i)),(27,X (Xi elemT b k)),(29,X (Xc0 (z78 ((a.getD (Int.toNat i) default)) ((b.getD (Int.toNat k) default))) X0)),(30,X (Xn (((L.getD (Int.toNat (i+1)) default).getD (Int.toNat (k+1)) default)+(z01 ((a.getD (Int.toNat i) default)) ((b.getD (Int.toNat k) default)))))),(31,X (Xmin ((o.set (Int.toNat k) (1+(min ((L.getD (Int.toNat (i+1)) default).getD (Int.toNat k) default) (o.getD (Int.toNat (k+1)) default)))).getD (Int.toNat k) default) (((L.getD (Int.toNat (i+1)) default).getD (Int.toNat (k+1)) default)+(z01 ((a.getD (Int.toNat i) default)) ((b.getD (Int.toNat k) default)))))),(32,X (Xpn (b.length+1) intT (o.set (Int.toNat k) (1+(min ((L.getD (Int.toNat (i+1)) default).getD (Int.toNat k) default) (o.getD (Int.toNat (k+1)) default)))) k)),(33,X (Xsn (b.length+1) 1 intT 128 (o.set (Int.toNat k) (1+(min ((L.getD (Int.toNat (i+1)) default).getD (Int.toNat k) default) (o.getD (Int.toNat (k+1)) default)))) (Int.toNat k) (min ((o.set (Int.toNat k) (1+(min ((L.getD (Int.toNat (i+1)) default).getD (Int.toNat k) default) (o.getD (Int.toNat (k+1)) default)))).getD (Int.toNat k) default) (((L.getD (Int.toNat (i+1)) default).getD (Int.toNat (k+1)) default)+(z01 ((a.getD (Int.toNat i) default)) ((b.getD (Int.toNat k) default)))))))],.r [(1,X (Xn (k- 1)))]] [(32,32),(128,128)] (ih7 ((k- 1),((o.set (Int.toNat k) (1+(min ((L.getD (Int.toNat (i+1)) default).getD (Int.toNat k) default) (o.getD (Int.toNat (k+1)) default)))).set (Int.toNat k) (min ((o.set (Int.toNat k) (1+(min ((L.getD (Int.toNat (i+1)) default).getD (Int.toNat k) default) (o.getD (Int.toNat (k+1)) default)))).getD (Int.toNat k) default) (((L.getD (Int.toNat (i+1)) default).getD (Int.toNat (k+1)) default)+(z01 ((a.getD (Int.toNat i) default)) ((b.getD (Int.toNat k) default))))))) ?_ ?_)
      ·
       rw[List.set_set]
       refine I7.next (by omega) ?_
       rw[hS,qA,qB,qC]
       conv=>rhs;rw[tabR]
       rw[if_pos (by omega),if_pos (by omega),if_pos h10]
      ·
       ((try dsimp only);omega)
     ·
      refine .back [.r [(1,X (Xn (k- 1)))]] [(32,32),(128,128)] (ih7 ((k- 1),(o.set (Int.toNat k) (1+(min ((L.getD (Int.toNat (i+1)) default).getD (Int.toNat k) default) (o.getD (Int.toNat (k+1)) default))))) ?_ ?_)
      ·
       refine I7.next (by omega) ?_
       rw[qA,qB]
       conv=>rhs;rw[tabR]
       rw[if_pos (by omega),if_pos (by omega),if_neg (by rw[h10];decide)]
      ·
       ((try dsimp only);omega)
  ·
   refine .back [.le (.mc 32 (List.map intsT (L.set (Int.toNat i) o)) _ (mc_ok (f:=intsT) (g:=intT) (l:=L) (x:=o) (o:=o) (q:=(b.length+1)) (i:=(Int.toNat i)) (k:=1) (by first|rfl|omega) rfl)),.r [(1,X (Xn (i- 1)))]] [(32,32)] (ih3 ((i- 1),(L.set (Int.toNat i) o)) ?_ ?_)
   ·
    exact I3.next (by omega) I7 (by omega)
   ·
    ((try dsimp only);omega)
 ·
  have hL:=I3.done (by omega)
  have e1:((tabL a b):List (List Int))=L:=by
   rw[hL]
  exact .finE [.r [],.le (.mf 4)] [] (fun z0:List (List Int)=>(VL 1 intsT z0,[])) _ _ e1
theorem z69 (a b : List Elem) (pa : partE a 0 = 0) (pb : partE b 0 = 0) (na : AN 1000000000 a) (nb : AN 1000000000 b) (la : a.length <= 2000) (lb : b.length <= 2000) : FC Tryz.prog 86 [VL 3 elemT a, VL 3 elemT b] (app emp []) (VL 4 z0c (doneD (diffU a b))) (app emp []) := by
 refine .go Tryz.f86 ?_
 refine .len 0 (fun hl0 => ?_)
 refine .len 1 (fun hl1 => ?_)
 obtain ⟨t1, t2, t3, t4, t5, _⟩ := z4D pa pb na nb la lb
 refine .bp [.r [], .r [(1, X (Xl elemT a)), (5, Xv 1 (decide ((a.length : Int) > 0)) (Xl elemT b)), (6, Xv 1 (decide ((a.length : Int) > 0)) X0), (7, X (Xk (decide ((a.length : Int) > 0)))), (11, Xv 1 (decide ((a.length : Int) > 0) && decide ((b.length : Int) > 0)) (Xl elemT a)), (12, Xv 1 (decide ((a.length : Int) > 0) && decide ((b.length : Int) > 0)) (Xn ((a.length : Int) - 1))), (13, Xv 2 (decide ((a.length : Int) > 0) && decide ((b.length : Int) > 0)) (Xi' elemT a ((a.length : Int) - 1) (a.length - 1)) (fun hg => by (try simp only [decide_eq_true_eq, decide_eq_false_iff_not, zk, zl, gt_iff_lt, qd, qz, qv, qI] at hg); exact ⟨(by omega), (by omega)⟩)), (14, Xv 1 (decide ((a.length : Int) > 0) && decide ((b.length : Int) > 0)) X0), (15, Xv 1 (decide ((a.length : Int) > 0) && decide ((b.length : Int) > 0)) X0), (16, Xv 1 (decide ((a.length : Int) > 0) && decide ((b.length : Int) > 0)) X0), (17, X (Xk (decide ((a.length : Int) > 0) && decide ((b.length : Int) > 0)))), (21, Xv 1 ((decide ((a.length : Int) > 0) && decide ((b.length : Int) > 0)) && ((((a.getD (a.length - 1) default)).char) == 10)) (Xl elemT b)), (22, Xv 1 ((decide ((a.length : Int) > 0) && decide ((b.length : Int) > 0)) && ((((a.getD (a.length - 1) default)).char) == 10)) (Xn ((b.length : Int) - 1))), (23, Xv 2 ((decide ((a.length : Int) > 0) && decide ((b.length : Int) > 0)) && ((((a.getD (a.length - 1) default)).char) == 10)) (Xi' elemT b ((b.length : Int) - 1) (b.length - 1)) (fun hg => by (try simp only [decide_eq_true_eq, decide_eq_false_iff_not, zk, zl, gt_iff_lt, qd, qz, qv, qI, beq_iff_eq, beq_eq_false_iff_ne, ne_eq] at hg); exact ⟨(by omega), (by omega)⟩)), (24, Xv 1 ((decide ((a.length : Int) > 0) && decide ((b.length : Int) > 0)) && ((((a.getD (a.length - 1) default)).char) == 10)) X0), (25, Xv 1 ((decide ((a.length : Int) > 0) && decide ((b.length : Int) > 0)) && ((((a.getD (a.length - 1) default)).char) == 10)) X0), (26, Xv 1 ((decide ((a.length : Int) > 0) && decide ((b.length : Int) > 0)) && ((((a.getD (a.length - 1) default)).char) == 10)) X0), (27, X (Xk ((decide ((a.length : Int) > 0) && decide ((b.length : Int) > 0)) && ((((a.getD (a.length - 1) default)).char) == 10))))], .r [], .r []] (((decide ((a.length : Int) > 0) && decide ((b.length : Int) > 0)) && ((((a.getD (a.length - 1) default)).char) == 10)) && ((((b.getD (b.length - 1) default)).char) == 10)) (fun h3 => ?_) (fun h3 => ?_)
 ·
  have na1 := na _ (z0e (l := a) (k := a.length - 1) (by omega))
  have nb1 := nb _ (z0e (l := b) (k := b.length - 1) (by omega))
  have il := z1I (a := a)
  have jl := z1I (a := b)
  have hD : diffU a b = (if TiedP a b then pathU (ini a) (ini b) 0 0 ++ [.K (chgU (lst a) (lst b))] else pathU a b 0 0) := rfl
  first
  | rw [if_pos ⟨⟨⟨by omega, by omega⟩, h3.1.2⟩, h3.2⟩] at hD
  | rw [if_neg (by rintro ⟨⟨⟨q1, q2⟩, q3⟩, q4⟩; rcases h3 with ((h | h) | h) | h; (omega); (omega); (exact h q3); (exact h q4))] at hD
  have lT := z5C (ini a) (ini b)
  refine .loop (α := Nat × Nat × (List DStep)) [.r [(2, X (Xl elemT a)), (3, X (Xn ((a.length : Int) - 1))), (4, X (Xi' elemT a ((a.length : Int) - 1) (a.length - 1))), (8, X (Xl elemT b)), (9, X (Xn ((b.length : Int) - 1))), (10, X (Xi' elemT b ((b.length : Int) - 1) (b.length - 1)))], .r [(4, X (Xc1 416 (z3q (((a.getD (a.length - 1) default)).attrs) (((b.getD (b.length - 1) default)).attrs) (by omega)) X0)), (5, X (Xf [(3, 3)]))], .r [(2, X (Xl elemT a)), (3, X (Xn ((a.length : Int) - 1))), (4, X (Xst elemT 3 a ((a.length : Int) - 1))), (7, X (Xl elemT b)), (8, X (Xn ((b.length : Int) - 1))), (9, X (Xst elemT 3 b ((b.length : Int) - 1)))], .le (.eq 0 (VL 3 elemT (a.take (Int.toNat ((a.length : Int) - 1)))) (VL 3 elemT (ini a)) (.of_eq (by unfold ini; rw [show Int.toNat ((a.length : Int) - 1) = a.length - 1 by omega]))), .le (.eq 1 (VL 3 elemT (b.take (Int.toNat ((b.length : Int) - 1)))) (VL 3 elemT (ini b)) (.of_eq (by unfold ini; rw [show Int.toNat ((b.length : Int) - 1) = b.length - 1 by omega]))), .r [(2, X (Xc1 560 (z9i (ini a) (ini b) (by omega) (by omega)) X0))], .r [], .r [], .le (.nR 10 4)] 601 (fun (i, k, o) => ([(0, VL 3 elemT (ini a)), (1, VL 3 elemT (ini b)), (6, .row 432 1), (9, VL 1 intsT (tabL (ini a) (ini b))), (10, .row 600 o.length), (11, VI (i : Int)), (12, VI (k : Int))], [(432, OR 4 z0c [({ kind := 0, n := 1, attrs := (fm chgG (((a.getD (a.length - 1) default)).attrs) (((b.getD (b.length - 1) default)).attrs)), elems := [] } : DStep)]), (600, OR 4 z0c o)])) (fun (i, k, o) => (i <= ((ini a)).length /\ k <= ((ini b)).length) /\ o ++ (pathU (ini a) (ini b) i k).map stepU = (pathU (ini a) (ini b) 0 0).map stepU /\ o.length <= i + k) (fun (i, k, o) => (((ini a)).length - i) + (((ini b)).length - k)) (0, 0, []) ?_ ?_
  ·
   exact ⟨⟨by omega, by omega⟩, rfl, by simp⟩
  rintro ⟨i, k, o⟩ I10 ih10
  try dsimp only at I10
  refine .bp [.r [(2, X (Xl elemT (ini a))), (7, Xv 1 (!(decide ((i : Int) < ((ini a).length : Int)))) (Xl elemT (ini b))), (8, Xv 2 (!(decide ((i : Int) < ((ini a).length : Int)))) X0), (9, X (Xk' (decide ((i : Int) < ((ini a).length : Int)))))]] (decide ((i : Int) < ((ini a).length : Int)) || decide ((k : Int) < ((ini b).length : Int))) (fun h10 => ?_) (fun h10 => ?_)
  ·
   have r0 := z76 (a := (ini a)) (b := (ini b)) (i := i) I10.1.1
   have r1 := fun h : i + 1 <= ((ini a)).length => z76 (a := (ini a)) (b := (ini b)) (i := i + 1) h
   have v0 := z68 (a := (ini a)) (b := (ini b)) (i := i) (k := k) I10.1.1 I10.1.2
   have v1 := fun (h : i + 1 <= ((ini a)).length) (g : k + 1 <= ((ini b)).length) => z68 (a := (ini a)) (b := (ini b)) (i := i + 1) (k := k + 1) h g
   have v2 := fun h : i + 1 <= ((ini a)).length => z68 (a := (ini a)) (b := (ini b)) (i := i + 1) (k := k) h I10.1.2
   have d1 := fun (h : i + 1 <= ((ini a)).length) (g : k + 1 <= ((ini b)).length) => z1T (a := (ini a)) (b := (ini b)) (i := i + 1) (k := k + 1) h g
   have d2 := fun h : i + 1 <= ((ini a)).length => z1T (a := (ini a)) (b := (ini b)) (i := i + 1) (k := k) h I10.1.2
   have dP := z26 (((ini a)).getD i default) (((ini b)).getD k default)
   refine .bp [.r [(2, X (Xl elemT (ini a))), (7, Xv 1 (decide ((i : Int) < ((ini a).length : Int))) (Xl elemT (ini b))), (8, Xv 2 (decide ((i : Int) < ((ini a).length : Int))) X0), (9, X (Xk (decide ((i : Int) < ((ini a).length : Int))))), (13, Xv 2 (decide ((i : Int) < ((ini a).length : Int)) && decide ((k : Int) < ((ini b).length : Int))) (Xi elemT (ini a) (i : Int)) (fun hg => by (try simp only [decide_eq_true_eq, decide_eq_false_iff_not, zk, zl, qd, qz, qv, qI] at hg); exact ⟨(by omega), (by omega)⟩)), (14, Xv 1 (decide ((i : Int) < ((ini a).length : Int)) && decide ((k : Int) < ((ini b).length : Int))) X0), (17, Xv 2 (decide ((i : Int) < ((ini a).length : Int)) && decide ((k : Int) < ((ini b).length : Int))) (Xi elemT (ini b) (k : Int)) (fun hg => by (try simp only [decide_eq_true_eq, decide_eq_false_iff_not, zk, zl, qd, qz, qv, qI] at hg); exact ⟨(by omega), (by omega)⟩)), (18, Xv 1 (decide ((i : Int) < ((ini a).length : Int)) && decide ((k : Int) < ((ini b).length : Int))) X0), (19, Xv 2 (decide ((i : Int) < ((ini a).length : Int)) && decide ((k : Int) < ((ini b).length : Int))) (Xc0 (z77 (((ini a).getD i default)) (((ini b).getD k default))) X0)), (20, X (Xk (decide ((i : Int) < ((ini a).length : Int)) && decide ((k : Int) < ((ini b).length : Int))))), (24, Xv 2 ((decide ((i : Int) < ((ini a).length : Int)) && decide ((k : Int) < ((ini b).length : Int))) && (z0r (((ini a).getD i default)) (((ini b).getD k default)))) (Xi intsT (tabL (ini a) (ini b)) (i : Int)) (fun hg => by (try simp only [decide_eq_true_eq, decide_eq_false_iff_not, zk, zl, qd, qz, qv, qI] at hg); exact ⟨(by omega), (by omega)⟩)), (25, Xv 1 ((decide ((i : Int) < ((ini a).length : Int)) && decide ((k : Int) < ((ini b).length : Int))) && (z0r (((ini a).getD i default)) (((ini b).getD k default)))) X0), (27, Xv 2 ((decide ((i : Int) < ((ini a).length : Int)) && decide ((k : Int) < ((ini b).length : Int))) && (z0r (((ini a).getD i default)) (((ini b).getD k default)))) (Xi intT ((tabL (ini a) (ini b)).getD i default) (k : Int)) (fun hg => by (try simp only [decide_eq_true_eq, decide_eq_false_iff_not, zk, zl, qd, qz, qv, qI] at hg); exact ⟨(by omega), (by omega)⟩)), (28, Xv 1 ((decide ((i : Int) < ((ini a).length : Int)) && decide ((k : Int) < ((ini b).length : Int))) && (z0r (((ini a).getD i default)) (((ini b).getD k default)))) X0), (31, Xv 1 ((decide ((i : Int) < ((ini a).length : Int)) && decide ((k : Int) < ((ini b).length : Int))) && (z0r (((ini a).getD i default)) (((ini b).getD k default)))) (Xn ((i : Int) + 1))), (32, Xv 2 ((decide ((i : Int) < ((ini a).length : Int)) && decide ((k : Int) < ((ini b).length : Int))) && (z0r (((ini a).getD i default)) (((ini b).getD k default)))) (Xi intsT (tabL (ini a) (ini b)) ((i : Int) + 1)) (fun hg => by (try simp only [decide_eq_true_eq, decide_eq_false_iff_not, zk, zl, qd, qz, qv, qI] at hg); exact ⟨(by omega), (by omega)⟩)), (33, Xv 1 ((decide ((i : Int) < ((ini a).length : Int)) && decide ((k : Int) < ((ini b).length : Int))) && (z0r (((ini a).getD i default)) (((ini b).getD k default)))) X0), (35, Xv 1 ((decide ((i : Int) < ((ini a).length : Int)) && decide ((k : Int) < ((ini b).length : Int))) && (z0r (((ini a).getD i default)) (((ini b).getD k default)))) (Xn ((k : Int) + 1))), (36, Xv 2 ((decide ((i : Int) < ((ini a).length : Int)) && decide ((k : Int) < ((ini b).length : Int))) && (z0r (((ini a).getD i default)) (((ini b).getD k default)))) (Xi intT ((tabL (ini a) (ini b)).getD (i + 1) default) ((k : Int) + 1)) (fun hg => by (try simp only [decide_eq_true_eq, decide_eq_false_iff_not, zk, zl, qd, qz, qv, qI] at hg); exact ⟨(by omega), (by omega)⟩)), (37, Xv 1 ((decide ((i : Int) < ((ini a).length : Int)) && decide ((k : Int) < ((ini b).length : Int))) && (z0r (((ini a).getD i default)) (((ini b).getD k default)))) X0), (40, Xv 2 ((decide ((i : Int) < ((ini a).length : Int)) && decide ((k : Int) < ((ini b).length : Int))) && (z0r (((ini a).getD i default)) (((ini b).getD k default)))) (Xi elemT (ini a) (i : Int)) (fun hg => by (try simp only [decide_eq_true_eq, decide_eq_false_iff_not, zk, zl, qd, qz, qv, qI] at hg); exact ⟨(by omega), (by omega)⟩)), (41, Xv 1 ((decide ((i : Int) < ((ini a).length : Int)) && decide ((k : Int) < ((ini b).length : Int))) && (z0r (((ini a).getD i default)) (((ini b).getD k default)))) X0), (44, Xv 2 ((decide ((i : Int) < ((ini a).length : Int)) && decide ((k : Int) < ((ini b).length : Int))) && (z0r (((ini a).getD i default)) (((ini b).getD k default)))) (Xi elemT (ini b) (k : Int)) (fun hg => by (try simp only [decide_eq_true_eq, decide_eq_false_iff_not, zk, zl, qd, qz, qv, qI] at hg); exact ⟨(by omega), (by omega)⟩)), (45, Xv 1 ((decide ((i : Int) < ((ini a).length : Int)) && decide ((k : Int) < ((ini b).length : Int))) && (z0r (((ini a).getD i default)) (((ini b).getD k default)))) X0), (46, Xv 2 ((decide ((i : Int) < ((ini a).length : Int)) && decide ((k : Int) < ((ini b).length : Int))) && (z0r (((ini a).getD i default)) (((ini b).getD k default)))) (Xc0 (z78 (((ini a).getD i default)) (((ini b).getD k default))) X0)), (47, Xv 2 ((decide ((i : Int) < ((ini a).length : Int)) && decide ((k : Int) < ((ini b).length : Int))) && (z0r (((ini a).getD i default)) (((ini b).getD k default)))) (Xn ((((tabL (ini a) (ini b)).getD (i + 1) default).getD (k + 1) default) + (z01 (((ini a).getD i default)) (((ini b).getD k default))))) (fun hg => by (try simp only [decide_eq_true_eq, decide_eq_false_iff_not, zk, zl, qd, qz, qv, qI] at hg); exact (by omega))), (48, Xv 2 ((decide ((i : Int) < ((ini a).length : Int)) && decide ((k : Int) < ((ini b).length : Int))) && (z0r (((ini a).getD i default)) (((ini b).getD k default)))) X0), (49, X (Xk ((decide ((i : Int) < ((ini a).length : Int)) && decide ((k : Int) < ((ini b).length : Int))) && (z0r (((ini a).getD i default)) (((ini b).getD k default))))))]] (((decide ((i : Int) < ((ini a).length : Int)) && decide ((k : Int) < ((ini b).length : Int))) && (z0r (((ini a).getD i default)) (((ini b).getD k default)))) && ((((tabL (ini a) (ini b)).getD i default).getD k default) == ((((tabL (ini a) (ini b)).getD (i + 1) default).getD (k + 1) default) + (z01 (((ini a).getD i default)) (((ini b).getD k default)))))) (fun h13 => ?_) (fun h13 => ?_)
   ·
    have hK : KeepP (ini a) (ini b) i k := ⟨⟨by omega, by omega⟩, h13.1.2, by rw [<- v0, <- v1 (by omega) (by omega)]; exact h13.2⟩
    have hP := I10.2.1
    rw [z1E hK, q9] at hP
    have na2 : (((ini a)).getD i default).attrs.length <= 1000000000 := by first | exact na _ (z0e (by omega)) | exact na _ (z3v (z0e (by omega)))
    have nb2 : (((ini b)).getD k default).attrs.length <= 1000000000 := by first | exact nb _ (z0e (by omega)) | exact nb _ (z3v (z0e (by omega)))
    refine .back [.r [(3, X (Xi elemT (ini a) (i : Int))), (8, X (Xi elemT (ini b) (k : Int))), (11, X (Xc1 1177 (z3q ((((ini a).getD i default)).attrs) ((((ini b).getD k default)).attrs) (by omega)) X0)), (12, X (Xf [(3, 3)])), (14, X (rowC z0c [({ kind := 0, n := 1, attrs := (fm chgG ((((ini a).getD i default)).attrs) ((((ini b).getD k default)).attrs)), elems := [] } : DStep)] (Xap 4 z0c 600 o [({ kind := 0, n := 1, attrs := (fm chgG ((((ini a).getD i default)).attrs) ((((ini b).getD k default)).attrs)), elems := [] } : DStep)])))], .r [(1, X (Xn ((i : Int) + 1))), (3, X (Xn ((k : Int) + 1)))]] [(432, 432), (600, 600)] (ih10 ((i + 1), (k + 1), (o ++ [({ kind := 0, n := 1, attrs := (fm chgG ((((ini a).getD i default)).attrs) ((((ini b).getD k default)).attrs)), elems := [] } : DStep)])) ?_ ?_)
    ·
     refine ⟨⟨by omega, by omega⟩, ?_, by simp only [qc, qi, zh]; omega⟩
     rw [qE]; exact hP
    ·
     (try dsimp only); omega
   ·
    have hK : ¬ KeepP (ini a) (ini b) i k := fun q => by
      rcases h13 with ((h | h) | h) | h
      · have := q.1; omega
      · have := q.1; omega
      · exact absurd (q.2.1.symm.trans h) (by decide)
      · exact h (by rw [v0, v1 q.1.1 q.1.2]; exact q.2.2)
    refine .bp [.r [(2, X (Xl elemT (ini a))), (7, Xv 1 (decide ((i : Int) < ((ini a).length : Int))) (Xl elemT (ini b))), (8, Xv 2 (decide ((i : Int) < ((ini a).length : Int))) X0), (9, Xv 1 (decide ((i : Int) < ((ini a).length : Int))) X0), (12, Xv 2 ((decide ((i : Int) < ((ini a).length : Int))) && !((k : Int) == ((ini b).length : Int))) (Xi intsT (tabL (ini a) (ini b)) (i : Int)) (fun hg => by (try simp only [decide_eq_true_eq, decide_eq_false_iff_not, zk, zl, qv, qI, qd, qz, beq_iff_eq, beq_eq_false_iff_ne, ne_eq] at hg); exact ⟨(by omega), (by omega)⟩)), (13, Xv 1 ((decide ((i : Int) < ((ini a).length : Int))) && !((k : Int) == ((ini b).length : Int))) X0), (15, Xv 2 ((decide ((i : Int) < ((ini a).length : Int))) && !((k : Int) == ((ini b).length : Int))) (Xi intT ((tabL (ini a) (ini b)).getD i default) (k : Int)) (fun hg => by (try simp only [decide_eq_true_eq, decide_eq_false_iff_not, zk, zl, qv, qI, qd, qz, beq_iff_eq, beq_eq_false_iff_ne, ne_eq] at hg); exact ⟨(by omega), (by omega)⟩)), (16, Xv 1 ((decide ((i : Int) < ((ini a).length : Int))) && !((k : Int) == ((ini b).length : Int))) X0), (19, Xv 1 ((decide ((i : Int) < ((ini a).length : Int))) && !((k : Int) == ((ini b).length : Int))) (Xn ((i : Int) + 1))), (20, Xv 2 ((decide ((i : Int) < ((ini a).length : Int))) && !((k : Int) == ((ini b).length : Int))) (Xi intsT (tabL (ini a) (ini b)) ((i : Int) + 1)) (fun hg => by (try simp only [decide_eq_true_eq, decide_eq_false_iff_not, zk, zl, qv, qI, qd, qz, beq_iff_eq, beq_eq_false_iff_ne, ne_eq] at hg); exact ⟨(by omega), (by omega)⟩)), (21, Xv 1 ((decide ((i : Int) < ((ini a).length : Int))) && !((k : Int) == ((ini b).length : Int))) X0), (23, Xv 2 ((decide ((i : Int) < ((ini a).length : Int))) && !((k : Int) == ((ini b).length : Int))) (Xi intT ((tabL (ini a) (ini b)).getD (i + 1) default) (k : Int)) (fun hg => by (try simp only [decide_eq_true_eq, decide_eq_false_iff_not, zk, zl, qv, qI, qd, qz, beq_iff_eq, beq_eq_false_iff_ne, ne_eq] at hg); exact ⟨(by omega), (by omega)⟩)), (24, Xv 1 ((decide ((i : Int) < ((ini a).length : Int))) && !((k : Int) == ((ini b).length : Int))) X0), (25, Xv 1 ((decide ((i : Int) < ((ini a).length : Int))) && !((k : Int) == ((ini b).length : Int))) (Xn (1 + (((tabL (ini a) (ini b)).getD (i + 1) default).getD k default))) (fun hg => by (try simp only [decide_eq_true_eq, decide_eq_false_iff_not, zk, zl, qv, qI, qd, qz, beq_iff_eq, beq_eq_false_iff_ne, ne_eq] at hg); exact (by omega))), (26, Xv 2 ((decide ((i : Int) < ((ini a).length : Int))) && !((k : Int) == ((ini b).length : Int))) X0), (27, Xko (decide ((i : Int) < ((ini a).length : Int))) ((k : Int) == ((ini b).length : Int))), (28, X (Xk (decide ((i : Int) < ((ini a).length : Int)))))]] (decide ((i : Int) < ((ini a).length : Int)) && (((k : Int) == ((ini b).length : Int)) || ((((tabL (ini a) (ini b)).getD i default).getD k default) == (1 + (((tabL (ini a) (ini b)).getD (i + 1) default).getD k default))))) (fun h16 => ?_) (fun h16 => ?_)
    ·
     have hC : CutP (ini a) (ini b) i k := ⟨by omega, by
       rcases h16.2 with h | h
       · exact .inl (by omega)
       · exact .inr (by rw [<- v0, <- v2 (by omega)]; exact h)⟩
     have hP := I10.2.1
     rw [z27 hK hC, q9] at hP
     refine .back [.r [(1, X (Xf [(2, 2), (3, 3)])), (3, X (rowC z0c [({ kind := 2, n := 1, attrs := [], elems := [] } : DStep)] (Xap 4 z0c 600 o [({ kind := 2, n := 1, attrs := [], elems := [] } : DStep)])))], .r [(1, X (Xn ((i : Int) + 1)))]] [(432, 432), (600, 600)] (ih10 ((i + 1), k, (o ++ [({ kind := 2, n := 1, attrs := [], elems := [] } : DStep)])) ?_ ?_)
     ·
      refine ⟨⟨by omega, by omega⟩, ?_, by simp only [qc, qi, zh]; omega⟩
      rw [qE]; exact hP
     ·
      (try dsimp only); omega
    ·
     have hC : ¬ CutP (ini a) (ini b) i k := fun q => by
       rcases h16 with h | h
       · have := q.1; omega
       · rcases q.2 with q2 | q2
         · exact h.1 (by omega)
         · exact h.2 (by rw [v0, v2 q.1]; exact q2)
     have hk3 := z35 I10.1.1 I10.1.2 hC (by omega)
     have hP := I10.2.1
     rw [z2w hK hC hk3, q9] at hP
     have e1 := y7Y hk3
     refine .back [.r [(4, X (Xn ((k : Int) + 1))), (5, X (Xsb elemT 3 (ini b) (k : Int) ((k : Int) + 1))), (6, X (Xf [(2, 2)])), (8, X (rowC z0c [({ kind := 1, n := 0, attrs := [], elems := (((ini b).take (k + 1)).drop k) } : DStep)] (Xap 4 z0c 600 o [({ kind := 1, n := 0, attrs := [], elems := (((ini b).take (k + 1)).drop k) } : DStep)])))], .r [(1, X (Xn ((k : Int) + 1)))]] [(432, 432), (600, 600)] (ih10 (i, (k + 1), (o ++ [({ kind := 1, n := 0, attrs := [], elems := (((ini b).take (k + 1)).drop k) } : DStep)])) ?_ ?_)
     ·
      refine ⟨⟨by omega, by omega⟩, ?_, by simp only [qc, qi, zh]; omega⟩
      rw [qE, e1]; exact hP
     ·
      (try dsimp only); omega
  ·
   have hE := I10.2.1
   rw [z2x (by omega) (by omega), zV, qQ] at hE
   first
   | (have hf : o ++ [({ kind := 0, n := 1, attrs := (fm chgG (((a.getD (a.length - 1) default)).attrs) (((b.getD (b.length - 1) default)).attrs)), elems := [] } : DStep)] = (diffU a b).map stepU := by rw [hD, zg, <- hE]; rfl
      rw [<- hf] at t1 t3 t4 t5)
   | (have hf : (o ++ [] : List DStep) = (diffU a b).map stepU := by rw [qQ, hE, hD]
      rw [<- hf] at t1 t3 t4 t5)
   have e1 : ((doneD (diffU a b)) : List DStep) = (tidyL (o ++ [({ kind := 0, n := 1, attrs := (fm chgG (((a.getD (a.length - 1) default)).attrs) (((b.getD (b.length - 1) default)).attrs)), elems := [] } : DStep)])) := by
    rw [t1]
   exact .finE [.r [(2, X (rowC z0c [({ kind := 0, n := 1, attrs := (fm chgG (((a.getD (a.length - 1) default)).attrs) (((b.getD (b.length - 1) default)).attrs)), elems := [] } : DStep)] (Xap 4 z0c 600 o [({ kind := 0, n := 1, attrs := (fm chgG (((a.getD (a.length - 1) default)).attrs) (((b.getD (b.length - 1) default)).attrs)), elems := [] } : DStep)]))), (3, X (Xc1 705 (z5F (o ++ [({ kind := 0, n := 1, attrs := (fm chgG (((a.getD (a.length - 1) default)).attrs) (((b.getD (b.length - 1) default)).attrs)), elems := [] } : DStep)]) (by assumption) (by omega) (by omega)) (rowC z0c (o ++ [({ kind := 0, n := 1, attrs := (fm chgG (((a.getD (a.length - 1) default)).attrs) (((b.getD (b.length - 1) default)).attrs)), elems := [] } : DStep)]) X0)))], .r []] [] (fun z0 : List DStep => (VL 4 z0c z0, [])) _ _ e1
 ·
  have il := z1I (a := a)
  have jl := z1I (a := b)
  have hD : diffU a b = (if TiedP a b then pathU (ini a) (ini b) 0 0 ++ [.K (chgU (lst a) (lst b))] else pathU a b 0 0) := rfl
  first
  | rw [if_pos ⟨⟨⟨by omega, by omega⟩, h3.1.2⟩, h3.2⟩] at hD
  | rw [if_neg (by rintro ⟨⟨⟨q1, q2⟩, q3⟩, q4⟩; rcases h3 with ((h | h) | h) | h; (omega); (omega); (exact h q3); (exact h q4))] at hD
  have lT := z5C a b
  refine .loop (α := Nat × Nat × (List DStep)) [.r [(2, X (Xc1 272 (z9i a b (by omega) (by omega)) X0))], .r [], .r [], .le (.nR 10 4)] 313 (fun (i, k, o) => ([(0, VL 3 elemT a), (1, VL 3 elemT b), (6, VN), (9, VL 1 intsT (tabL a b)), (10, .row 312 o.length), (11, VI (i : Int)), (12, VI (k : Int))], [(312, OR 4 z0c o)])) (fun (i, k, o) => (i <= (a).length /\ k <= (b).length) /\ o ++ (pathU a b i k).map stepU = (pathU a b 0 0).map stepU /\ o.length <= i + k) (fun (i, k, o) => ((a).length - i) + ((b).length - k)) (0, 0, []) ?_ ?_
  ·
   exact ⟨⟨by omega, by omega⟩, rfl, by simp⟩
  rintro ⟨i, k, o⟩ I10 ih10
  try dsimp only at I10
  refine .bp [.r [(2, X (Xl elemT a)), (7, Xv 1 (!(decide ((i : Int) < (a.length : Int)))) (Xl elemT b)), (8, Xv 2 (!(decide ((i : Int) < (a.length : Int)))) X0), (9, X (Xk' (decide ((i : Int) < (a.length : Int)))))]] (decide ((i : Int) < (a.length : Int)) || decide ((k : Int) < (b.length : Int))) (fun h10 => ?_) (fun h10 => ?_)
  ·
   have r0 := z76 (a := a) (b := b) (i := i) I10.1.1
   have r1 := fun h : i + 1 <= (a).length => z76 (a := a) (b := b) (i := i + 1) h
   have v0 := z68 (a := a) (b := b) (i := i) (k := k) I10.1.1 I10.1.2
   have v1 := fun (h : i + 1 <= (a).length) (g : k + 1 <= (b).length) => z68 (a := a) (b := b) (i := i + 1) (k := k + 1) h g
   have v2 := fun h : i + 1 <= (a).length => z68 (a := a) (b := b) (i := i + 1) (k := k) h I10.1.2
   have d1 := fun (h : i + 1 <= (a).length) (g : k + 1 <= (b).length) => z1T (a := a) (b := b) (i := i + 1) (k := k + 1) h g
   have d2 := fun h : i + 1 <= (a).length => z1T (a := a) (b := b) (i := i + 1) (k := k) h I10.1.2
   have dP := z26 ((a).getD i default) ((b).getD k default)
   refine .bp [.r [(2, X (Xl elemT a)), (7, Xv 1 (decide ((i : Int) < (a.length : Int))) (Xl elemT b)), (8, Xv 2 (decide ((i : Int) < (a.length : Int))) X0), (9, X (Xk (decide ((i : Int) < (a.length : Int))))), (13, Xv 2 (decide ((i : Int) < (a.length : Int)) && decide ((k : Int) < (b.length : Int))) (Xi elemT a (i : Int)) (fun hg => by (try simp only [decide_eq_true_eq, decide_eq_false_iff_not, zk, zl, qd, qz, qv, qI] at hg); exact ⟨(by omega), (by omega)⟩)), (14, Xv 1 (decide ((i : Int) < (a.length : Int)) && decide ((k : Int) < (b.length : Int))) X0), (17, Xv 2 (decide ((i : Int) < (a.length : Int)) && decide ((k : Int) < (b.length : Int))) (Xi elemT b (k : Int)) (fun hg => by (try simp only [decide_eq_true_eq, decide_eq_false_iff_not, zk, zl, qd, qz, qv, qI] at hg); exact ⟨(by omega), (by omega)⟩)), (18, Xv 1 (decide ((i : Int) < (a.length : Int)) && decide ((k : Int) < (b.length : Int))) X0), (19, Xv 2 (decide ((i : Int) < (a.length : Int)) && decide ((k : Int) < (b.length : Int))) (Xc0 (z77 ((a.getD i default)) ((b.getD k default))) X0)), (20, X (Xk (decide ((i : Int) < (a.length : Int)) && decide ((k : Int) < (b.length : Int))))), (24, Xv 2 ((decide ((i : Int) < (a.length : Int)) && decide ((k : Int) < (b.length : Int))) && (z0r ((a.getD i default)) ((b.getD k default)))) (Xi intsT (tabL a b) (i : Int)) (fun hg => by (try simp only [decide_eq_true_eq, decide_eq_false_iff_not, zk, zl, qd, qz, qv, qI] at hg); exact ⟨(by omega), (by omega)⟩)), (25, Xv 1 ((decide ((i : Int) < (a.length : Int)) && decide ((k : Int) < (b.length : Int))) && (z0r ((a.getD i default)) ((b.getD k default)))) X0), (27, Xv 2 ((decide ((i : Int) < (a.length : Int)) && decide ((k : Int) < (b.length : Int))) && (z0r ((a.getD i default)) ((b.getD k default)))) (Xi intT ((tabL a b).getD i default) (k : Int)) (fun hg => by (try simp only [decide_eq_true_eq, decide_eq_false_iff_not, zk, zl, qd, qz, qv, qI] at hg); exact ⟨(by omega), (by omega)⟩)), (28, Xv 1 ((decide ((i : Int) < (a.length : Int)) && decide ((k : Int) < (b.length : Int))) && (z0r ((a.getD i default)) ((b.getD k default)))) X0), (31, Xv 1 ((decide ((i : Int) < (a.length : Int)) && decide ((k : Int) < (b.length : Int))) && (z0r ((a.getD i default)) ((b.getD k default)))) (Xn ((i : Int) + 1))), (32, Xv 2 ((decide ((i : Int) < (a.length : Int)) && decide ((k : Int) < (b.length : Int))) && (z0r ((a.getD i default)) ((b.getD k default)))) (Xi intsT (tabL a b) ((i : Int) + 1)) (fun hg => by (try simp only [decide_eq_true_eq, decide_eq_false_iff_not, zk, zl, qd, qz, qv, qI] at hg); exact ⟨(by omega), (by omega)⟩)), (33, Xv 1 ((decide ((i : Int) < (a.length : Int)) && decide ((k : Int) < (b.length : Int))) && (z0r ((a.getD i default)) ((b.getD k default)))) X0), (35, Xv 1 ((decide ((i : Int) < (a.length : Int)) && decide ((k : Int) < (b.length : Int))) && (z0r ((a.getD i default)) ((b.getD k default)))) (Xn ((k : Int) + 1))), (36, Xv 2 ((decide ((i : Int) < (a.length : Int)) && decide ((k : Int) < (b.length : Int))) && (z0r ((a.getD i default)) ((b.getD k default)))) (Xi intT ((tabL a b).getD (i + 1) default) ((k : Int) + 1)) (fun hg => by (try simp only [decide_eq_true_eq, decide_eq_false_iff_not, zk, zl, qd, qz, qv, qI] at hg); exact ⟨(by omega), (by omega)⟩)), (37, Xv 1 ((decide ((i : Int) < (a.length : Int)) && decide ((k : Int) < (b.length : Int))) && (z0r ((a.getD i default)) ((b.getD k default)))) X0), (40, Xv 2 ((decide ((i : Int) < (a.length : Int)) && decide ((k : Int) < (b.length : Int))) && (z0r ((a.getD i default)) ((b.getD k default)))) (Xi elemT a (i : Int)) (fun hg => by (try simp only [decide_eq_true_eq, decide_eq_false_iff_not, zk, zl, qd, qz, qv, qI] at hg); exact ⟨(by omega), (by omega)⟩)), (41, Xv 1 ((decide ((i : Int) < (a.length : Int)) && decide ((k : Int) < (b.length : Int))) && (z0r ((a.getD i default)) ((b.getD k default)))) X0), (44, Xv 2 ((decide ((i : Int) < (a.length : Int)) && decide ((k : Int) < (b.length : Int))) && (z0r ((a.getD i default)) ((b.getD k default)))) (Xi elemT b (k : Int)) (fun hg => by (try simp only [decide_eq_true_eq, decide_eq_false_iff_not, zk, zl, qd, qz, qv, qI] at hg); exact ⟨(by omega), (by omega)⟩)), (45, Xv 1 ((decide ((i : Int) < (a.length : Int)) && decide ((k : Int) < (b.length : Int))) && (z0r ((a.getD i default)) ((b.getD k default)))) X0), (46, Xv 2 ((decide ((i : Int) < (a.length : Int)) && decide ((k : Int) < (b.length : Int))) && (z0r ((a.getD i default)) ((b.getD k default)))) (Xc0 (z78 ((a.getD i default)) ((b.getD k default))) X0)), (47, Xv 2 ((decide ((i : Int) < (a.length : Int)) && decide ((k : Int) < (b.length : Int))) && (z0r ((a.getD i default)) ((b.getD k default)))) (Xn ((((tabL a b).getD (i + 1) default).getD (k + 1) default) + (z01 ((a.getD i default)) ((b.getD k default))))) (fun hg => by (try simp only [decide_eq_true_eq, decide_eq_false_iff_not, zk, zl, qd, qz, qv, qI] at hg); exact (by omega))), (48, Xv 2 ((decide ((i : Int) < (a.length : Int)) && decide ((k : Int) < (b.length : Int))) && (z0r ((a.getD i default)) ((b.getD k default)))) X0), (49, X (Xk ((decide ((i : Int) < (a.length : Int)) && decide ((k : Int) < (b.length : Int))) && (z0r ((a.getD i default)) ((b.getD k default))))))]] (((decide ((i : Int) < (a.length : Int)) && decide ((k : Int) < (b.length : Int))) && (z0r ((a.getD i default)) ((b.getD k default)))) && ((((tabL a b).getD i default).getD k default) == ((((tabL a b).getD (i + 1) default).getD (k + 1) default) + (z01 ((a.getD i default)) ((b.getD k default)))))) (fun h13 => ?_) (fun h13 => ?_)
   ·
    have hK : KeepP a b i k := ⟨⟨by omega, by omega⟩, h13.1.2, by rw [<- v0, <- v1 (by omega) (by omega)]; exact h13.2⟩
    have hP := I10.2.1
    rw [z1E hK, q9] at hP
    have na2 : ((a).getD i default).attrs.length <= 1000000000 := by first | exact na _ (z0e (by omega)) | exact na _ (z3v (z0e (by omega)))
    have nb2 : ((b).getD k default).attrs.length <= 1000000000 := by first | exact nb _ (z0e (by omega)) | exact nb _ (z3v (z0e (by omega)))
    refine .back [.r [(3, X (Xi elemT a (i : Int))), (8, X (Xi elemT b (k : Int))), (11, X (Xc1 889 (z3q (((a.getD i default)).attrs) (((b.getD k default)).attrs) (by omega)) X0)), (12, X (Xf [(3, 3)])), (14, X (rowC z0c [({ kind := 0, n := 1, attrs := (fm chgG (((a.getD i default)).attrs) (((b.getD k default)).attrs)), elems := [] } : DStep)] (Xap 4 z0c 312 o [({ kind := 0, n := 1, attrs := (fm chgG (((a.getD i default)).attrs) (((b.getD k default)).attrs)), elems := [] } : DStep)])))], .r [(1, X (Xn ((i : Int) + 1))), (3, X (Xn ((k : Int) + 1)))]] [(312, 312)] (ih10 ((i + 1), (k + 1), (o ++ [({ kind := 0, n := 1, attrs := (fm chgG (((a.getD i default)).attrs) (((b.getD k default)).attrs)), elems := [] } : DStep)])) ?_ ?_)
    ·
     refine ⟨⟨by omega, by omega⟩, ?_, by simp only [qc, qi, zh]; omega⟩
     rw [qE]; exact hP
    ·
     (try dsimp only); omega
   ·
    have hK : ¬ KeepP a b i k := fun q => by
      rcases h13 with ((h | h) | h) | h
      · have := q.1; omega
      · have := q.1; omega
      · exact absurd (q.2.1.symm.trans h) (by decide)
      · exact h (by rw [v0, v1 q.1.1 q.1.2]; exact q.2.2)
    refine .bp [.r [(2, X (Xl elemT a)), (7, Xv 1 (decide ((i : Int) < (a.length : Int))) (Xl elemT b)), (8, Xv 2 (decide ((i : Int) < (a.length : Int))) X0), (9, Xv 1 (decide ((i : Int) < (a.length : Int))) X0), (12, Xv 2 ((decide ((i : Int) < (a.length : Int))) && !((k : Int) == (b.length : Int))) (Xi intsT (tabL a b) (i : Int)) (fun hg => by (try simp only [decide_eq_true_eq, decide_eq_false_iff_not, zk, zl, qv, qI, qd, qz, beq_iff_eq, beq_eq_false_iff_ne, ne_eq] at hg); exact ⟨(by omega), (by omega)⟩)), (13, Xv 1 ((decide ((i : Int) < (a.length : Int))) && !((k : Int) == (b.length : Int))) X0), (15, Xv 2 ((decide ((i : Int) < (a.length : Int))) && !((k : Int) == (b.length : Int))) (Xi intT ((tabL a b).getD i default) (k : Int)) (fun hg => by (try simp only [decide_eq_true_eq, decide_eq_false_iff_not, zk, zl, qv, qI, qd, qz, beq_iff_eq, beq_eq_false_iff_ne, ne_eq] at hg); exact ⟨(by omega), (by omega)⟩)), (16, Xv 1 ((decide ((i : Int) < (a.length : Int))) && !((k : Int) == (b.length : Int))) X0), (19, Xv 1 ((decide ((i : Int) < (a.length : Int))) && !((k : Int) == (b.length : Int))) (Xn ((i : Int) + 1))), (20, Xv 2 ((decide ((i : Int) < (a.length : Int))) && !((k : Int) == (b.length : Int))) (Xi intsT (tabL a b) ((i : Int) + 1)) (fun hg => by (try simp only [decide_eq_true_eq, decide_eq_false_iff_not, zk, zl, qv, qI, qd, qz, beq_iff_eq, beq_eq_false_iff_ne, ne_eq] at hg); exact ⟨(by omega), (by omega)⟩)), (21, Xv 1 ((decide ((i : Int) < (a.length : Int))) && !((k : Int) == (b.length : Int))) X0), (23, Xv 2 ((decide ((i : Int) < (a.length : Int))) && !((k : Int) == (b.length : Int))) (Xi intT ((tabL a b).getD (i + 1) default) (k : Int)) (fun hg => by (try simp only [decide_eq_true_eq, decide_eq_false_iff_not, zk, zl, qv, qI, qd, qz, beq_iff_eq, beq_eq_false_iff_ne, ne_eq] at hg); exact ⟨(by omega), (by omega)⟩)), (24, Xv 1 ((decide ((i : Int) < (a.length : Int))) && !((k : Int) == (b.length : Int))) X0), (25, Xv 1 ((decide ((i : Int) < (a.length : Int))) && !((k : Int) == (b.length : Int))) (Xn (1 + (((tabL a b).getD (i + 1) default).getD k default))) (fun hg => by (try simp only [decide_eq_true_eq, decide_eq_false_iff_not, zk, zl, qv, qI, qd, qz, beq_iff_eq, beq_eq_false_iff_ne, ne_eq] at hg); exact (by omega))), (26, Xv 2 ((decide ((i : Int) < (a.length : Int))) && !((k : Int) == (b.length : Int))) X0), (27, Xko (decide ((i : Int) < (a.length : Int))) ((k : Int) == (b.length : Int))), (28, X (Xk (decide ((i : Int) < (a.length : Int)))))]] (decide ((i : Int) < (a.length : Int)) && (((k : Int) == (b.length : Int)) || ((((tabL a b).getD i default).getD k default) == (1 + (((tabL a b).getD (i + 1) default).getD k default))))) (fun h16 => ?_) (fun h16 => ?_)
    ·
     have hC : CutP a b i k := ⟨by omega, by
       rcases h16.2 with h | h
       · exact .inl (by omega)
       · exact .inr (by rw [<- v0, <- v2 (by omega)]; exact h)⟩
     have hP := I10.2.1
     rw [z27 hK hC, q9] at hP
     refine .back [.r [(1, X (Xf [(2, 2), (3, 3)])), (3, X (rowC z0c [({ kind := 2, n := 1, attrs := [], elems := [] } : DStep)] (Xap 4 z0c 312 o [({ kind := 2, n := 1, attrs := [], elems := [] } : DStep)])))], .r [(1, X (Xn ((i : Int) + 1)))]] [(312, 312)] (ih10 ((i + 1), k, (o ++ [({ kind := 2, n := 1, attrs := [], elems := [] } : DStep)])) ?_ ?_)
     ·
      refine ⟨⟨by omega, by omega⟩, ?_, by simp only [qc, qi, zh]; omega⟩
      rw [qE]; exact hP
     ·
      (try dsimp only); omega
    ·
     have hC : ¬ CutP a b i k := fun q => by
       rcases h16 with h | h
       · have := q.1; omega
       · rcases q.2 with q2 | q2
         · exact h.1 (by omega)
         · exact h.2 (by rw [v0, v2 q.1]; exact q2)
     have hk3 := z35 I10.1.1 I10.1.2 hC (by omega)
     have hP := I10.2.1
     rw [z2w hK hC hk3, q9] at hP
     have e1 := y7Y hk3
     refine .back [.r [(4, X (Xn ((k : Int) + 1))), (5, X (Xsb elemT 3 b (k : Int) ((k : Int) + 1))), (6, X (Xf [(2, 2)])), (8, X (rowC z0c [({ kind := 1, n := 0, attrs := [], elems := ((b.take (k + 1)).drop k) } : DStep)] (Xap 4 z0c 312 o [({ kind := 1, n := 0, attrs := [], elems := ((b.take (k + 1)).drop k) } : DStep)])))], .r [(1, X (Xn ((k : Int) + 1)))]] [(312, 312)] (ih10 (i, (k + 1), (o ++ [({ kind := 1, n := 0, attrs := [], elems := ((b.take (k + 1)).drop k) } : DStep)])) ?_ ?_)
     ·
      refine ⟨⟨by omega, by omega⟩, ?_, by simp only [qc, qi, zh]; omega⟩
      rw [qE, e1]; exact hP
     ·
      (try dsimp only); omega
  ·
   have hE := I10.2.1
   rw [z2x (by omega) (by omega), zV, qQ] at hE
   first
   | (have hf : o ++ [({ kind := 0, n := 1, attrs := (fm chgG (((a.getD (a.length - 1) default)).attrs) (((b.getD (b.length - 1) default)).attrs)), elems := [] } : DStep)] = (diffU a b).map stepU := by rw [hD, zg, <- hE]; rfl
      rw [<- hf] at t1 t3 t4 t5)
   | (have hf : (o ++ [] : List DStep) = (diffU a b).map stepU := by rw [qQ, hE, hD]
      rw [<- hf] at t1 t3 t4 t5)
   have e2 : ((doneD (diffU a b)) : List DStep) = (tidyL (o ++ [])) := by
    rw [t1]
   exact .finE [.r [(2, X (Xap 4 z0c 312 o [])), (3, X (Xc1 417 (z5F (o ++ []) (by assumption) (by omega) (by omega)) (rowC z0c (o ++ []) X0)))], .r []] [] (fun z0 : List DStep => (VL 4 z0c z0, [])) _ _ e2
theorem z9j{x y:Elem}:sameE x y=true↔x.char=y.char/\x.ref=y.ref/\sameL x.attrs y.attrs=true:=by
 unfold sameE;simp only[qd,beq_iff_eq,and_assoc]
theorem y6O(a b:List Elem):FC Tryz.prog 77 [VL 3 elemT a,VL 3 elemT b] (app emp []) (VB (sameF a b)) (app emp []):=by
 refine .go Tryz.f77 ?_
 refine .len 0 (fun hl0=> ?_)
 refine .len 1 (fun hl1=> ?_)
 refine .bp [.r [],.r [(1,X (Xl elemT a)),(3,X (Xl elemT b))]] ((a.length:Int) !=(b.length:Int)) (fun h1=> ?_) (fun h1=> ?_)
 ·
  have e1:((sameF a b):Bool)=false:=by
   unfold sameF;rw[decide_eq_false (by omega)];rfl
  exact .finE [.r []] [] (fun z0:Bool=>(VB z0,[])) _ _ e1
 ·
  refine .loop (α:=Nat) [.r [(1,X (Xl elemT a))]] 72 (fun i=>([(1,VL 3 elemT b),(13,VL 3 elemT a),(14,VI (a.length:Int)),(15,VI (i:Int))],[])) (fun i=>i<=a.length/\z2f a b 0=z2f a b i) (fun i=>a.length-i) (0:Nat) ?_ ?_
  ·
   exact⟨by omega,rfl⟩
  rintro i I4 ih4
  try dsimp only at I4
  refine .bp [.r []] (decide ((i:Int)< (a.length:Int))) (fun h4=> ?_) (fun h4=> ?_)
  ·
   refine .bp [.r [(1,X (Xi elemT a (i:Int)))],.r [(2,X (Xi elemT b (i:Int)))],.r [(7,Xv 1 (!((((a.getD i default)).char) !=(((b.getD i default)).char))) X0),(9,Xv 1 (!((((a.getD i default)).char) !=(((b.getD i default)).char))) X0),(10,Xv 2 (!((((a.getD i default)).char) !=(((b.getD i default)).char))) X0),(11,X (Xk' ((((a.getD i default)).char) !=(((b.getD i default)).char)))),(14,Xv 1 (!(((((a.getD i default)).char) !=(((b.getD i default)).char))|| ((((a.getD i default)).ref) !=(((b.getD i default)).ref)))) X0),(16,Xv 1 (!(((((a.getD i default)).char) !=(((b.getD i default)).char))|| ((((a.getD i default)).ref) !=(((b.getD i default)).ref)))) X0),(17,Xv 2 (!(((((a.getD i default)).char) !=(((b.getD i default)).char))|| ((((a.getD i default)).ref) !=(((b.getD i default)).ref)))) (Xc0 (z2g (((a.getD i default)).attrs) (((b.getD i default)).attrs)) X0)),(18,Xv 1 (!(((((a.getD i default)).char) !=(((b.getD i default)).char))|| ((((a.getD i default)).ref) !=(((b.getD i default)).ref)))) X0),(19,X (Xk' (((((a.getD i default)).char) !=(((b.getD i default)).char))|| ((((a.getD i default)).ref) !=(((b.getD i default)).ref)))))]] ((((((a.getD i default)).char) !=(((b.getD i default)).char))|| ((((a.getD i default)).ref) !=(((b.getD i default)).ref)))|| !(sameL (((a.getD i default)).attrs) (((b.getD i default)).attrs))) (fun h7=> ?_) (fun h7=> ?_)
   ·
    have e2:((sameF a b):Bool)=false:=by
     have hq:¬sameE (a.getD i default) (b.getD i default)=true:=fun q=>by
      rw[z9j] at q
      obtain⟨q1,q2,q3⟩:=q
      rcases h7 with(h|h)|h
      ·exact h q1
      ·exact h q2
      ·rw[q3] at h;cases h
     unfold sameF;rw[I4.2,z2f,if_pos (by omega),if_neg hq];simp
    exact .finE [.r []] [] (fun z0:Bool=>(VB z0,[])) _ _ e2
   ·
    refine .back [.r [(0,X (Xn ((i:Int)+1)))]] [] (ih4 ((i+1):Nat) ?_ ?_)
    ·
     refine⟨by omega,?_⟩;rw[I4.2,z2f,if_pos (by omega),if_pos (z9j.2 ⟨by omega,by omega,h7.2⟩)]
    ·
     ((try dsimp only);omega)
  ·
   have e3:((sameF a b):Bool)=true:=by
    unfold sameF;rw[I4.2,z2f,if_neg (by omega),decide_eq_true (by omega)];rfl
   exact .finE [.r []] [] (fun z0:Bool=>(VB z0,[])) _ _ e3
theorem y4F(x a:Attr):FC Tryz.prog 163 [.t (attrT x),.ptr 0 0] (app emp [(0,.box [VS a.name,VS a.val])]) (VB (seq x.name a.name)) (app emp [(0,.box [VS a.name,VS a.val])]):=by
 refine .go Tryz.f163 ?_
 have e1:((seq x.name a.name):Bool)=seq x.name a.name:=by
  (first|omega|with_reducible exact fun h=>h| (intro hq;rw[hq];done)| (intro hq;rw[hq];rfl)| (simp only[qg];done)| (simp only[qg];omega)| (simp;omega)| (simp;done))
 exact .finE [.r [],.r []] [(0,0)] (fun z0:Bool=>(VB z0,[(0,.box [VS a.name,VS a.val])])) _ _ e1
theorem y4G(l:List Attr)(a:Attr):FC Tryz.prog 162 [VL 2 attrT l,.fn 163 [.ptr 0 0]] (app emp [(0,.box [VS a.name,VS a.val])]) (VI (idxM l a.name 0)) (app emp [(0,.box [VS a.name,VS a.val])]):=by
 refine .go Tryz.f162 ?_
 refine .len 0 (fun hl0=> ?_)
 refine .loop (α:=Nat) [.r [],.r [(1,X (Xl attrT l))]] 33 (fun i=>([(0,VL 2 attrT l),(1,.fn 163 [.ptr 0 0]),(7,VI (l.length:Int)),(8,VI (i:Int))],[(0,.box [VS a.name,VS a.val])])) (fun i=>i<=l.length/\idxM l a.name 0=idxM l a.name i) (fun i=>l.length-i) (0:Nat) ?_ ?_
 ·
  exact⟨by omega,rfl⟩
 rintro i I2 ih2
 try dsimp only at I2
 refine .bp [.r []] (decide ((i:Int)< (l.length:Int))) (fun h2=> ?_) (fun h2=> ?_)
 ·
  refine .bp [.r [],.r [(3,X (Xi attrT l (i:Int))),(5,X (Xc4 [(0,0)] (y4F ((l.getD i default)) ⟨a.name,a.val⟩) X0))]] (seq (((l.getD i default))).name a.name) (fun h4=> ?_) (fun h4=> ?_)
  ·
   have e1:((idxM l a.name 0):Int)=(i:Int):=by
    rw[I2.2,idxM,if_pos (by omega),if_pos h4]
   exact .finE [.r []] [(0,0)] (fun z0:Int=>(VI z0,[(0,.box [VS a.name,VS a.val])])) _ _ e1
  ·
   refine .back [.r [(0,X (Xn ((i:Int)+1)))]] [(0,0)] (ih2 ((i+1):Nat) ?_ ?_)
   ·
    refine⟨by omega,?_⟩
    rw[I2.2,idxM,if_pos (by omega),if_neg (by rw[h4];decide)]
   ·
    ((try dsimp only);omega)
 ·
  have e2:((idxM l a.name 0):Int)= -1:=by
   rw[I2.2,idxM,if_neg (by omega)]
  exact .finE [.r []] [(0,0)] (fun z0:Int=>(VI z0,[(0,.box [VS a.name,VS a.val])])) _ _ e2
theorem y1X(n:Nat)(d:List DStep)(hn:n<=100000000)(hv:z0D d)(hl:oldD d=n)(hd:DN 400000000000 d):FC Tryz.prog 85 [VI (n:Int),VL 4 z0c d] (app emp []) (.agg [.row 1 ((z0d d).ins.length),.row 2 ((z0d d).cut.length),.row 3 ((z0d d).set.length)]) (app emp [(0,.box [.row 1 ((z0d d).ins.length),.row 2 ((z0d d).cut.length),.row 3 ((z0d d).set.length)]),(1,OR 1 z1F ((z0d d).ins)),(2,OR 1 boolT ((z0d d).cut)),(3,OR 1 z2t ((z0d d).set))]):=by
 refine .go Tryz.f85 ?_
 refine .len 1 (fun hl1=> ?_)
 have hv1:=hv.2.1
 have hv2:=hv.2.2
 refine .loop (α:=Int×Nat×(List (List Elem))×(List Bool)×(List (List Attr))) [.r [],.r [(1,X (Xn ((n:Int)+1))),(2,X (Xmz 1 z1F 24 ((n:Int)+1) ((n:Int)+1) ([]:(List Elem)) [TN] ⟨z3b (by decide),trivial⟩)),(4,X (Xmk 1 boolT 40 (n:Int) (n:Int) false)),(6,X (Xmz 1 z2t 56 (n:Int) (n:Int) ([]:(List Attr)) [TN] ⟨z3b (by decide),trivial⟩))],.r [],.r [(1,X (Xl z0c d))],.le (.eb 72 0 (.row 24 (n+1)) (.row 24 ((List.replicate (n+1) ([]:(List Elem))).length)) (by simp only[qW])),.le (.eb 72 1 (.row 40 n) (.row 40 ((List.replicate n false).length)) (by simp only[qW])),.le (.eb 72 2 (.row 56 n) (.row 56 ((List.replicate n ([]:(List Attr))).length)) (by simp only[qW]))] 120 (fun(w,i,I,C,S)=>([(4,.ptr 0 0),(5,.ptr 72 0),(6,VI w),(19,VL 4 z0c d),(20,VI (d.length:Int)),(21,VI (i:Int))],[(0,.box [VN,VN,VN]),(24,OR 1 z1F I),(40,OR 1 boolT C),(56,OR 1 z2t S),(72,.box [.row 24 I.length,.row 40 C.length,.row 56 S.length])])) (fun(w,i,I,C,S)=>i<=d.length/\∃x,RI d n i I C S w x) (fun(w,i,I,C,S)=>d.length-i) (0,0,(List.replicate (n+1) ([]:(List Elem))),(List.replicate n false),(List.replicate n ([]:(List Attr)))) ?_ ?_
 ·
  exact⟨by omega,_,RI.start hl⟩
 rintro⟨w,i,I,C,S⟩ I4 ih4
 try dsimp only at I4
 obtain⟨x,hx⟩:=I4.2
 obtain⟨l1,l2,l3,l4,l5⟩:=hx.lens hv
 refine .bp [.r []] (decide ((i:Int)< (d.length:Int))) (fun h4=> ?_) (fun h4=> ?_)
 ·
  obtain⟨s1,s2,s3,s4,s5,s6,s7,s8⟩:=z15 (l:=d) (i:=i) (by omega) hv.1
  obtain⟨hy,hy2,hy3⟩:=hd.at_ (k:=i) (by omega)
  have ho:=hx.old
  have hw:=hx.at_
  have hdo:=hv.1.all _ (z0e (l:=d) (k:=i) (by omega))
  have hnn:=z4W (l:=d.drop (i+1)) (fun s hs=>hv.1.all s (zc hs))
  refine .bp [.r [(0,X (Xi z0c d (i:Int)))],.r [],.r []] ((((d.getD i default)).kind)==1) (fun h12=> ?_) (fun h12=> ?_)
  ·
   refine .back [.r [(5,X (Xp z1F I w)),(6,X (Xs 1 z1F 24 I (Int.toNat w) (((d.getD i default)).elems)))],.r [(0,X (Xn ((i:Int)+1)))],.le (.eb 72 0 (.row 24 I.length) (.row 24 ((I.set (Int.toNat w) (((d.getD i default)).elems)).length)) (by simp only[zq]))] [(0,0),(24,24),(40,40),(56,56),(72,72)] (ih4 (w,(i+1),(I.set (Int.toNat w) (((d.getD i default)).elems)),C,S) ?_ ?_)
   ·
    exact⟨by omega,_,hx.add hv (by omega) h12⟩
   ·
    ((try dsimp only);omega)
  ·
   rw[if_neg h12] at s1
   refine .bp [.r []] ((((d.getD i default)).kind)==2) (fun h14=> ?_) (fun h14=> ?_)
   ·
    refine .loop (α:=Nat×(List Bool)) [.r []] 232 (fun(k,C2)=>([(4,.ptr 0 0),(5,.ptr 72 0),(6,VI w),(8,.ptr 144 0),(19,VL 4 z0c d),(20,VI (d.length:Int)),(21,VI (i:Int)),(52,VI (((d.getD i default)).n)),(53,VI (k:Int))],[(0,.box [VN,VN,VN]),(24,OR 1 z1F I),(40,OR 1 boolT C2),(56,OR 1 z2t S),(72,.box [.row 24 I.length,.row 40 C2.length,.row 56 S.length]),(144,.box [VI (((d.getD i default)).kind),VI (((d.getD i default)).n),VL 2 attrT (((d.getD i default)).attrs),VL 3 elemT (((d.getD i default)).elems)])])) (fun(k,C2)=>(k:Int)<=(d.getD i default).n/\RC C n 0 k x C2) (fun(k,C2)=>(d.getD i default).n.toNat-k) (0,C) ?_ ?_
    ·
     exact⟨by omega,RC.start hx.cut⟩
    rintro⟨k,C2⟩ I16 ih16
    try dsimp only at I16
    have m2:=I16.2.len (by omega) (by omega)
    refine .bp [.r []] (decide ((k:Int)< (((d.getD i default)).n))) (fun h16=> ?_) (fun h16=> ?_)
    ·
     refine .back [.r [],.r [(4,X (Xn (w+(k:Int)))),(5,X (Xp boolT C2 (w+(k:Int)))),(6,X (Xs 1 boolT 40 C2 (Int.toNat (w+(k:Int))) true))],.r [(0,X (Xn ((k:Int)+1)))],.le (.eb 72 1 (.row 40 C2.length) (.row 40 ((C2.set (Int.toNat (w+(k:Int))) true).length)) (by simp only[zq]))] [(0,0),(24,24),(40,40),(56,56),(72,72),(144,144)] (ih16 ((k+1),(C2.set (Int.toNat (w+(k:Int))) true)) ?_ ?_)
     ·
      exact⟨by omega,I16.2.next (by omega) (by omega)⟩
     ·
      ((try dsimp only);omega)
    ·
     refine .back [.r [(3,X (Xn (w+(((d.getD i default)).n))))],.r [(0,X (Xn ((i:Int)+1)))]] [(0,0),(24,24),(40,40),(56,56),(72,72)] (ih4 ((w+(((d.getD i default)).n)),(i+1),I,C2,S) ?_ ?_)
     ·
      have ek:k=(d.getD i default).n.toNat:=by omega
      have ea:(d.getD i default).attrs=[]:=by rcases hdo with⟨q,_⟩| ⟨q,e,b,n1,n2,v⟩;(omega);exact b h14
      refine⟨by omega,_,hx.rest hv (by omega) h12 ?_ ?_⟩
      ·rw[I16.2.eq,ek,h14];rfl
      ·rw[hx.set,ea,y1V];congr 2;omega
     ·
      ((try dsimp only);omega)
   ·
    refine .loop (α:=Nat×(List (List Attr))) [.r []] 232 (fun(k,S2)=>([(4,.ptr 0 0),(5,.ptr 72 0),(6,VI w),(8,.ptr 144 0),(19,VL 4 z0c d),(20,VI (d.length:Int)),(21,VI (i:Int)),(28,VI (((d.getD i default)).n)),(29,VI (k:Int))],[(0,.box [VN,VN,VN]),(24,OR 1 z1F I),(40,OR 1 boolT C),(56,OR 1 z2t S2),(72,.box [.row 24 I.length,.row 40 C.length,.row 56 S2.length]),(144,.box [VI (((d.getD i default)).kind),VI (((d.getD i default)).n),VL 2 attrT (((d.getD i default)).attrs),VL 3 elemT (((d.getD i default)).elems)])])) (fun(k,S2)=>(k:Int)<=(d.getD i default).n/\RS n k (d.getD i default).attrs x S2) (fun(k,S2)=>(d.getD i default).n.toNat-k) (0,S) ?_ ?_
    ·
     exact⟨by omega,RS.start hx.set⟩
    rintro⟨k,S2⟩ I8 ih8
    try dsimp only at I8
    have m3:=I8.2.len hx.fit (by omega) (by omega)
    refine .bp [.r []] (decide ((k:Int)< (((d.getD i default)).n))) (fun h8=> ?_) (fun h8=> ?_)
    ·
     refine .back [.r [],.r [(4,X (Xn (w+(k:Int)))),(7,X (Xp z2t S2 (w+(k:Int)))),(8,X (Xs 1 z2t 56 S2 (Int.toNat (w+(k:Int))) (((d.getD i default)).attrs)))],.r [(0,X (Xn ((k:Int)+1)))],.le (.eb 72 2 (.row 56 S2.length) (.row 56 ((S2.set (Int.toNat (w+(k:Int))) (((d.getD i default)).attrs)).length)) (by simp only[zq]))] [(0,0),(24,24),(40,40),(56,56),(72,72),(144,144)] (ih8 ((k+1),(S2.set (Int.toNat (w+(k:Int))) (((d.getD i default)).attrs))) ?_ ?_)
     ·
      exact⟨by omega,I8.2.next hx.fit (by omega) (by omega)⟩
     ·
      ((try dsimp only);omega)
    ·
     refine .back [.r [(3,X (Xn (w+(((d.getD i default)).n))))],.r [(0,X (Xn ((i:Int)+1)))]] [(0,0),(24,24),(40,40),(56,56),(72,72)] (ih4 ((w+(((d.getD i default)).n)),(i+1),I,C,S2) ?_ ?_)
     ·
      have ek:k=(d.getD i default).n.toNat:=by omega
      refine⟨by omega,_,hx.rest hv (by omega) h12 ?_ ?_⟩
      ·rw[hx.cut,show((d.getD i default).kind==2)=false by simpa using h14,y1V];congr 2;omega
      ·rw[I8.2.eq,ek]
     ·
      ((try dsimp only);omega)
 ·
  have hG:=(hx.done (by omega))
  obtain⟨g1,g2,g3⟩:=hG
  have e1:((z0d d).ins.length:Nat)=I.length:=by
   first|rw[g1]|rw[g2]|rw[g3]
  have e2:((z0d d).cut.length:Nat)=C.length:=by
   first|rw[g1]|rw[g2]|rw[g3]
  have e3:((z0d d).set.length:Nat)=S.length:=by
   first|rw[g1]|rw[g2]|rw[g3]
  have e4:((z0d d).ins:List (List Elem))=I:=by
   first|rw[g1]|rw[g2]|rw[g3]
  have e5:((z0d d).cut:List Bool)=C:=by
   first|rw[g1]|rw[g2]|rw[g3]
  have e6:((z0d d).set:List (List Attr))=S:=by
   first|rw[g1]|rw[g2]|rw[g3]
  exact .finE [.r []] [(0,0),(24,1),(40,2),(56,3)] (fun((z0,z1,z2,z3,z4,z5):Nat×Nat×Nat×(List (List Elem))×(List Bool)×(List (List Attr)))=>(.agg [.row 1 z0,.row 2 z1,.row 3 z2],[(0,.box [.row 1 z0,.row 2 z1,.row 3 z2]),(1,OR 1 z1F z3),(2,OR 1 boolT z4),(3,OR 1 z2t z5)])) _ _ (pr e1 (pr e2 (pr e3 (pr e4 (pr e5 e6)))))
end Go.Ch
end
section
set_option maxRecDepth 100000
set_option maxHeartbeats 4000000
open Go Go.Proofs Go.Ab
namespace Go.Ch
theorem y4H(node:Int)(o:List Elem)(c:List Conf)(a b:List Elem)(ho:o.length+a.length+b.length<=100000000000)(hc:c.length<=100000000000):FC Tryz.prog 87 [.ptr 0 0,VL 3 elemT a,VL 3 elemT b] (app emp [(0,.box [VI node,.row 1 o.length,.row 2 c.length]),(1,OR 3 elemT o),(2,OR 5 confT c)]) (.tup []) (app emp [(0,.box [VI node,.row 1 ((gapO o a b).length),.row 2 ((gapC node o a b c).length)]),(1,OR 3 elemT (gapO o a b)),(2,OR 5 confT (gapC node o a b c))]):=by
 refine .go Tryz.f87 ?_
 refine .len 1 (fun hl1=> ?_)
 refine .len 2 (fun hl2=> ?_)
 refine .bp [.r [],.r [(6,X (Xap 3 elemT 1 o a))],.r [(1,X (Xl elemT b)),(6,Xv 2 (!((b.length:Int)==0)) (Xc0 (y6O a b) X0)),(7,X (Xk' ((b.length:Int)==0)))]] (((b.length:Int)==0)|| (sameF a b)) (fun h2=> ?_) (fun h2=> ?_)
 ·
  have e1:((gapO o a b).length:Nat)=(o++a).length:=by
   (try unfold gapO);(try unfold gapC);((repeat' split)<;>first|rfl|omega| (simp_all;done)| (simp_all;omega))
  have e2:((gapC node o a b c).length:Nat)=c.length:=by
   (try unfold gapO);(try unfold gapC);((repeat' split)<;>first|rfl|omega| (simp_all;done)| (simp_all;omega))
  have e3:((gapO o a b):List Elem)=(o++a):=by
   (try unfold gapO);(try unfold gapC);((repeat' split)<;>first|rfl|omega| (simp_all;done)| (simp_all;omega))
  have e4:((gapC node o a b c):List Conf)=c:=by
   (try unfold gapO);(try unfold gapC);((repeat' split)<;>first|rfl|omega| (simp_all;done)| (simp_all;omega))
  exact .finE [] [(0,0),(1,1),(2,2)] (fun((z0,z1,z2,z3):Nat×Nat×(List Elem)×(List Conf))=>(.tup [],[(0,.box [VI node,.row 1 z0,.row 2 z1]),(1,OR 3 elemT z2),(2,OR 5 confT z3)])) _ _ (pr e1 (pr e2 (pr e3 e4)))
 ·
  refine .bp [.r [(6,X (Xap 3 elemT 1 (o++a) b))],.r [(1,X (Xl elemT a))]] (decide ((a.length:Int)> 0)) (fun h4=> ?_) (fun h4=> ?_)
  ·
   have e5:((gapO o a b).length:Nat)=((o++a)++b).length:=by
    (try unfold gapO);(try unfold gapC);((repeat' split)<;>first|rfl|omega| (simp_all;done)| (simp_all;omega))
   have e6:((gapC node o a b c).length:Nat)=(c++[({kind:=0,node:=node,fr:=(o.length:Int),tq:=(((o++a)++b).length:Int),name:={data:=#[]}}:Conf)]).length:=by
    (try unfold gapO);(try unfold gapC);((repeat' split)<;>first|rfl|omega| (simp_all;done)| (simp_all;omega))
   have e7:((gapO o a b):List Elem)=((o++a)++b):=by
    (try unfold gapO);(try unfold gapC);((repeat' split)<;>first|rfl|omega| (simp_all;done)| (simp_all;omega))
   have e8:((gapC node o a b c):List Conf)=(c++[({kind:=0,node:=node,fr:=(o.length:Int),tq:=(((o++a)++b).length:Int),name:={data:=#[]}}:Conf)]):=by
    (try unfold gapO);(try unfold gapC);((repeat' split)<;>first|rfl|omega| (simp_all;done)| (simp_all;omega))
   exact .finE [.r [(17,X (rowC confT [({kind:=0,node:=node,fr:=(o.length:Int),tq:=(((o++a)++b).length:Int),name:={data:=#[]}}:Conf)] (Xap 5 confT 2 c [({kind:=0,node:=node,fr:=(o.length:Int),tq:=(((o++a)++b).length:Int),name:={data:=#[]}}:Conf)])))]] [(0,0),(1,1),(2,2)] (fun((z0,z1,z2,z3):Nat×Nat×(List Elem)×(List Conf))=>(.tup [],[(0,.box [VI node,.row 1 z0,.row 2 z1]),(1,OR 3 elemT z2),(2,OR 5 confT z3)])) _ _ (pr e5 (pr e6 (pr e7 e8)))
  ·
   have e9:((gapO o a b).length:Nat)=((o++a)++b).length:=by
    (try unfold gapO);(try unfold gapC);((repeat' split)<;>first|rfl|omega| (simp_all;done)| (simp_all;omega))
   have e10:((gapC node o a b c).length:Nat)=c.length:=by
    (try unfold gapO);(try unfold gapC);((repeat' split)<;>first|rfl|omega| (simp_all;done)| (simp_all;omega))
   have e11:((gapO o a b):List Elem)=((o++a)++b):=by
    (try unfold gapO);(try unfold gapC);((repeat' split)<;>first|rfl|omega| (simp_all;done)| (simp_all;omega))
   have e12:((gapC node o a b c):List Conf)=c:=by
    (try unfold gapO);(try unfold gapC);((repeat' split)<;>first|rfl|omega| (simp_all;done)| (simp_all;omega))
   exact .finE [] [(0,0),(1,1),(2,2)] (fun((z0,z1,z2,z3):Nat×Nat×(List Elem)×(List Conf))=>(.tup [],[(0,.box [VI node,.row 1 z0,.row 2 z1]),(1,OR 3 elemT z2),(2,OR 5 confT z3)])) _ _ (pr e9 (pr e10 (pr e11 e12)))
section
variable {node:Int} {o:List Elem} {x:Elem} {a b:List Attr} {ca cb:Bool} {c:List Conf}
theorem z1s(h:ca=true\/cb=true):elmO o x a b ca cb=o:=by unfold elmO;rw[if_pos (by simpa using h)]
theorem z1a(h:ca=false/\cb=false):elmO o x a b ca cb=o++[keptE x a b]:=by unfold elmO;rw[if_neg (by rw[h.1,h.2];decide)]
theorem z1U(h:ca=true\/cb=true)(h3:ca=false/\(0:Int)< a.length\/cb=false/\(0:Int)< b.length):elmC node o a b ca cb c=c++[⟨1,node,o.length,o.length,{data:=#[]}⟩]:=by
 unfold elmC;rw[if_pos (by simpa using h),if_pos (by rcases h3 with⟨p,q⟩| ⟨p,q⟩;exact .inl ⟨p,by omega⟩;exact .inr ⟨p,by omega⟩)]
theorem z1V(h:ca=true\/cb=true)(h3:(ca=true\/(a.length:Int)<=0)/\(cb=true\/(b.length:Int)<=0)):elmC node o a b ca cb c=c:=by
 unfold elmC;rw[if_pos (by simpa using h),if_neg (by
  rintro(⟨p,q⟩| ⟨p,q⟩)
  ·rcases h3.1 with r|r;(rw[p] at r;cases r);omega
  ·rcases h3.2 with r|r;(rw[p] at r;cases r);omega)]
theorem z1b(h:ca=false/\cb=false):elmC node o a b ca cb c=c++attC node o.length b a:=by unfold elmC;rw[if_neg (by rw[h.1,h.2];decide)]
theorem y4I{x:Attr}(h:0<=idxM b x.name 0/\seq (b.getD (idxM b x.name 0).toNat default).val x.val=false):z6u b x=true:=by
 unfold z6u;rw[decide_eq_true h.1,h.2];rfl
theorem y6P{x:Attr}(h:idxM b x.name 0<0\/seq (b.getD (idxM b x.name 0).toNat default).val x.val=true):z6u b x=false:=by
 unfold z6u
 rcases h with h|h
 ·rw[decide_eq_false (by omega)];rfl
 ·rw[h];simp
end
theorem y1Y(node:Int)(o:List Elem)(c:List Conf)(x:Elem)(a b:List Attr)(ca cb:Bool)(hx:x.attrs.length+a.length+b.length<=1000000000000)(ho:o.length<=100000000000)(hc:c.length+a.length<=1000000000000):FC Tryz.prog 88 [.ptr 0 0,.t (elemT x),VL 2 attrT a,VL 2 attrT b,VB ca,VB cb] (app emp [(0,.box [VI node,.row 1 o.length,.row 2 c.length]),(1,OR 3 elemT o),(2,OR 5 confT c)]) (.tup []) (app emp [(0,.box [VI node,.row 1 ((elmO o x a b ca cb).length),.row 2 ((elmC node o a b ca cb c).length)]),(1,OR 3 elemT (elmO o x a b ca cb)),(2,OR 5 confT (elmC node o a b ca cb c))]):=by
 refine .go Tryz.f88 ?_
 refine .len 2 (fun hl2=> ?_)
 refine .len 3 (fun hl3=> ?_)
 refine .bp [.r [],.r [],.r [(3,X (Xk' ca))]] (ca||cb) (fun h2=> ?_) (fun h2=> ?_)
 ·
  refine .bp [.r [(4,Xv 1 (!ca) (Xl attrT a)),(5,Xv 1 (!ca) X0),(6,X (Xk (!ca))),(9,Xv 1 (!(!ca&&decide ((a.length:Int)> 0))) X0),(10,Xv 1 (!(!ca&&decide ((a.length:Int)> 0))) X0),(12,Xv 1 ((!(!ca&&decide ((a.length:Int)> 0)))&&(!cb)) (Xl attrT b)),(13,Xv 1 ((!(!ca&&decide ((a.length:Int)> 0)))&&(!cb)) X0),(14,Xka (!(!ca&&decide ((a.length:Int)> 0))) (!cb)),(15,X (Xk' (!ca&&decide ((a.length:Int)> 0))))]] ((!ca&&decide ((a.length:Int)> 0))|| (!cb&&decide ((b.length:Int)> 0))) (fun h3=> ?_) (fun h3=> ?_)
  ·
   have e1:((elmO o x a b ca cb).length:Nat)=o.length:=by
    (first|rw[z1s h2]|rw[z1a h2]|rw[z1U h2 h3]|rw[z1V h2 h3]|rw[z1b h2,hq]);(first|done|rfl|simp|skip)
   have e2:((elmC node o a b ca cb c).length:Nat)=(c++[({kind:=1,node:=node,fr:=(o.length:Int),tq:=(o.length:Int),name:={data:=#[]}}:Conf)]).length:=by
    (first|rw[z1s h2]|rw[z1a h2]|rw[z1U h2 h3]|rw[z1V h2 h3]|rw[z1b h2,hq]);(first|done|rfl|simp|skip)
   have e3:((elmO o x a b ca cb):List Elem)=o:=by
    (first|rw[z1s h2]|rw[z1a h2]|rw[z1U h2 h3]|rw[z1V h2 h3]|rw[z1b h2,hq]);(first|done|rfl|simp|skip)
   have e4:((elmC node o a b ca cb c):List Conf)=(c++[({kind:=1,node:=node,fr:=(o.length:Int),tq:=(o.length:Int),name:={data:=#[]}}:Conf)]):=by
    (first|rw[z1s h2]|rw[z1a h2]|rw[z1U h2 h3]|rw[z1V h2 h3]|rw[z1b h2,hq]);(first|done|rfl|simp|skip)
   exact .finE [.r [(13,X (rowC confT [({kind:=1,node:=node,fr:=(o.length:Int),tq:=(o.length:Int),name:={data:=#[]}}:Conf)] (Xap 5 confT 2 c [({kind:=1,node:=node,fr:=(o.length:Int),tq:=(o.length:Int),name:={data:=#[]}}:Conf)])))]] [(0,0),(1,1),(2,2)] (fun((z0,z1,z2,z3):Nat×Nat×(List Elem)×(List Conf))=>(.tup [],[(0,.box [VI node,.row 1 z0,.row 2 z1]),(1,OR 3 elemT z2),(2,OR 5 confT z3)])) _ _ (pr e1 (pr e2 (pr e3 e4)))
  ·
   have e5:((elmO o x a b ca cb).length:Nat)=o.length:=by
    (first|rw[z1s h2]|rw[z1a h2]|rw[z1U h2 h3]|rw[z1V h2 h3]|rw[z1b h2,hq]);(first|done|rfl|simp|skip)
   have e6:((elmC node o a b ca cb c).length:Nat)=c.length:=by
    (first|rw[z1s h2]|rw[z1a h2]|rw[z1U h2 h3]|rw[z1V h2 h3]|rw[z1b h2,hq]);(first|done|rfl|simp|skip)
   have e7:((elmO o x a b ca cb):List Elem)=o:=by
    (first|rw[z1s h2]|rw[z1a h2]|rw[z1U h2 h3]|rw[z1V h2 h3]|rw[z1b h2,hq]);(first|done|rfl|simp|skip)
   have e8:((elmC node o a b ca cb c):List Conf)=c:=by
    (first|rw[z1s h2]|rw[z1a h2]|rw[z1U h2 h3]|rw[z1V h2 h3]|rw[z1b h2,hq]);(first|done|rfl|simp|skip)
   exact .finE [] [(0,0),(1,1),(2,2)] (fun((z0,z1,z2,z3):Nat×Nat×(List Elem)×(List Conf))=>(.tup [],[(0,.box [VI node,.row 1 z0,.row 2 z1]),(1,OR 3 elemT z2),(2,OR 5 confT z3)])) _ _ (pr e5 (pr e6 (pr e7 e8)))
 ·
  refine .loop (α:=Nat×(List Conf)) [.r [(1,X (Xl attrT a))]] 115 (fun(i,q)=>([(0,.ptr 0 0),(2,VL 2 attrT a),(3,VL 2 attrT b),(7,.ptr 3 0),(12,VI (o.length:Int)),(57,VL 2 attrT a),(58,VI (a.length:Int)),(59,VI (i:Int))],[(0,.box [VI node,.row 1 o.length,.row 2 q.length]),(1,OR 3 elemT o),(2,OR 5 confT q),(3,.box [VI x.char,VI x.ref,VL 2 attrT x.attrs])])) (fun(i,q)=>i<=a.length/\q=c++attC node o.length b (a.take i)) (fun(i,q)=>a.length-i) (0,c) ?_ ?_
  ·
   exact⟨by omega,by simp[attC]⟩
  rintro⟨i,q⟩ I6 ih6
  try dsimp only at I6
  have ql:=y1W node o.length b (a.take i)
  have qq:q.length<=c.length+i:=by rw[I6.2,List.length_append];rw[List.length_take] at ql;omega
  refine .bp [.r []] (decide ((i:Int)< (a.length:Int))) (fun h6=> ?_) (fun h6=> ?_)
  ·
   have hb:=y4C b (a.getD i default).name _ 0 rfl
   refine .bp [.r [(0,X (Xi attrT a (i:Int)))],.r [(2,X (Xc4 [(0,139)] (y4G b ⟨(((a.getD i default)).name),(((a.getD i default)).val)⟩) X0))],.r [(5,Xv 2 (decide ((idxM b (((a.getD i default)).name) 0)>=0)) (Xi attrT b (idxM b (((a.getD i default)).name) 0)) (fun hg=>by(try simp only[decide_eq_true_eq,decide_eq_false_iff_not,Int.not_lt,Int.not_le,ge_iff_le] at hg);exact⟨(by omega),(by omega)⟩)),(6,Xv 1 (decide ((idxM b (((a.getD i default)).name) 0)>=0)) X0),(7,Xv 1 (decide ((idxM b (((a.getD i default)).name) 0)>=0)) X0),(9,Xv 1 (decide ((idxM b (((a.getD i default)).name) 0)>=0)) X0),(10,Xv 2 (decide ((idxM b (((a.getD i default)).name) 0)>=0)) X0),(11,X (Xk (decide ((idxM b (((a.getD i default)).name) 0)>=0))))]] (decide ((idxM b (((a.getD i default)).name) 0)>=0)&& !(seq (((b.getD (Int.toNat (idxM b (((a.getD i default)).name) 0)) default)).val) (((a.getD i default)).val))) (fun h9=> ?_) (fun h9=> ?_)
   ·
    refine .back [.r [(11,X (Xn ((o.length:Int)+1))),(16,X (rowC confT [({kind:=2,node:=node,fr:=(o.length:Int),tq:=((o.length:Int)+1),name:=((a.getD i default)).name}:Conf)] (Xap 5 confT 2 q [({kind:=2,node:=node,fr:=(o.length:Int),tq:=((o.length:Int)+1),name:=((a.getD i default)).name}:Conf)])))],.r [(0,X (Xn ((i:Int)+1)))]] [(0,0),(1,1),(2,2),(3,3)] (ih6 ((i+1),(q++[({kind:=2,node:=node,fr:=(o.length:Int),tq:=((o.length:Int)+1),name:=((a.getD i default)).name}:Conf)])) ?_ ?_)
    ·
     refine⟨by omega,?_⟩
     rw[takeA (by omega),z9g,if_pos (y4I h9),I6.2,List.append_assoc]
    ·
     ((try dsimp only);omega)
   ·
    refine .back [.r [(0,X (Xn ((i:Int)+1)))]] [(0,0),(1,1),(2,2),(3,3)] (ih6 ((i+1),q) ?_ ?_)
    ·
     refine⟨by omega,?_⟩
     rw[takeA (by omega),z9g,if_neg (by rw[y6P h9];decide),I6.2,List.append_nil]
    ·
     ((try dsimp only);omega)
  ·
   have hq:q=c++attC node o.length b a:=by rw[I6.2,List.take_of_length_le (by omega)]
   have hfl:=z0Z rawG x.attrs b
   have e9:((elmO o x a b ca cb).length:Nat)=(o++[({char:=x.char,ref:=x.ref,attrs:=(fm rawG (fm rawG x.attrs b) a)}:Elem)]).length:=by
    (first|rw[z1s h2]|rw[z1a h2]|rw[z1U h2 h3]|rw[z1V h2 h3]|rw[z1b h2,hq]);(first|done|rfl|simp|skip)
   have e10:((elmC node o a b ca cb c).length:Nat)=q.length:=by
    (first|rw[z1s h2]|rw[z1a h2]|rw[z1U h2 h3]|rw[z1V h2 h3]|rw[z1b h2,hq]);(first|done|rfl|simp|skip)
   have e11:((elmO o x a b ca cb):List Elem)=(o++[({char:=x.char,ref:=x.ref,attrs:=(fm rawG (fm rawG x.attrs b) a)}:Elem)]):=by
    (first|rw[z1s h2]|rw[z1a h2]|rw[z1U h2 h3]|rw[z1V h2 h3]|rw[z1b h2,hq]);(first|done|rfl|simp|skip)
   have e12:((elmC node o a b ca cb c):List Conf)=q:=by
    (first|rw[z1s h2]|rw[z1a h2]|rw[z1U h2 h3]|rw[z1V h2 h3]|rw[z1b h2,hq]);(first|done|rfl|simp|skip)
   exact .finE [.r [(3,X (Xc1 147 (z4s x.attrs b (by omega)) X0)),(5,X (Xc1 163 (z4s (fm rawG x.attrs b) a (by omega)) X0))],.r [(7,X (rowC elemT [({char:=x.char,ref:=x.ref,attrs:=(fm rawG (fm rawG x.attrs b) a)}:Elem)] (Xap 3 elemT 1 o [({char:=x.char,ref:=x.ref,attrs:=(fm rawG (fm rawG x.attrs b) a)}:Elem)])))]] [(0,0),(1,1),(2,2)] (fun((z0,z1,z2,z3):Nat×Nat×(List Elem)×(List Conf))=>(.tup [],[(0,.box [VI node,.row 1 z0,.row 2 z1]),(1,OR 3 elemT z2),(2,OR 5 confT z3)])) _ _ (pr e9 (pr e10 (pr e11 e12)))
end Go.Ch
end
section
namespace Go.Ch
open Go Go.Ab
theorem z79{a b:List Elem}{Q:DU->Prop}(hK:∀x∈a,∀y∈b,Q (.K (chgU x y)))(hA:∀x∈b,Q (.A x))(hC:Q .C):∀u∈diffU a b,Q u:=by
 unfold diffU
 intro u hu
 split at hu
 ·rename_i ht
  rcases qm.1 hu with hu|hu
  ·exact z5E (Q:=Q) (fun i k h1 h2=>hK _ (z3v (z0e h1)) _ (z3v (z0e h2))) (fun k h=>hA _ (z3v (z0e h))) hC _ 0 0 rfl (qp _) (qp _) u hu
  ·rw[qK] at hu;subst hu
   exact hK _ (z0e (by have:=ht.1.1.1;omega)) _ (z0e (by have:=ht.1.1.2;omega))
 ·exact z5E (Q:=Q) (fun i k h1 h2=>hK _ (z0e h1) _ (z0e h2)) (fun k h=>hA _ (z0e h)) hC _ 0 0 rfl (qp _) (qp _) u hu
theorem z8a{a:List Elem}(pa:partE a 0=0):AV a:=fun x hx=>z7T (z2s.1 pa x hx)
theorem y4J{a b:List Elem}(pa:partE a 0=0)(pb:partE b 0=0)(na:AN 1000000000 a)(nb:AN 1000000000 b):∀u∈diffU a b,z0G u:=by
 refine z79 (fun x hx y hy=> ?_) (fun x hx=> ?_) trivial
 ·have h1:=z0Z chgG x.attrs y.attrs
  have h2:=na x hx
  have h3:=nb y hy
  exact⟨chg_V np_mt (z8a pa x hx) (z8a pb y hy),by unfold chgU;omega⟩
 ·exact⟨z2s.1 pb x hx,by have:=nb x hx;omega⟩
theorem y1Z{a b:List Elem}(la:a.length<=2000)(lb:b.length<=2000):(diffU a b).length<=4001:=by
 unfold diffU
 split
 ·have:=z5D (a:=ini a) (b:=ini b) _ 0 0 rfl (qp _) (qp _)
  rw[z1I,z1I] at this
  rw[qc];simp only[zG];omega
 ·have:=z5D (a:=a) (b:=b) _ 0 0 rfl (qp _) (qp _);omega
theorem y4K:∀us:List DU,oldN us<=us.length/\newN us<=us.length
 | []=>⟨qr _,qr _⟩
 |u::us=>by
  have:=y4K us
  cases u<;>simp only[oldN,newN,qi]<;>omega
theorem y6Q{a b:List Elem}(pa:partE a 0=0)(pb:partE b 0=0)(na:AN 1000000000 a)(nb:AN 1000000000 b)(la:a.length<=2000)(lb:b.length<=2000)(u:DU):u∈exD (doneD (diffU a b))↔u∈diffU a b:=by
 have h1:=y1Z la lb
 have h2:=y4K (diffU a b)
 obtain⟨_,d2,_⟩:=z1Y (y4J pa pb na nb) (by omega) (by omega)
 exact z3t d2 u
theorem y10{x:Act}(h:z1e x):∀(m i:Nat),x.cut.length-i=m->i<=x.cut.length->∀k,i<=k->k<=x.cut.length->∀y∈x.ins.getD k default,DU.A y∈actR x i
 |0,i,hm,hi=>fun k h1 h2 y hy=>by
  rw[z3u (by omega),show i=k by omega]
  exact qy.2 ⟨y,hy,rfl⟩
 |m+1,i,hm,hi=>fun k h1 h2 y hy=>by
  have ih:=y10 h m (i+1) (by omega) (by omega)
  rw[actR,if_pos (by omega)]
  by_cases e:k=i
  ·subst e;exact List.mem_append_left _ (qy.2 ⟨y,hy,rfl⟩)
  ·have:=ih k (by omega) h2 y hy
   split<;>exact List.mem_append_right _ (qJ _ this)
theorem y0z{d:List DStep}(hv:z0D d):∀e∈(z0d d).ins,(e.length:Int)<=newD d:=by
 have key:∀i,i<=d.length->∃x,AIv d i x:=by
  intro i
  induction i with
  |zero=>intro _;exact⟨_,AIv.start⟩
  |succ i ih=>intro hi;obtain⟨x,hx⟩:=ih (by omega);exact⟨_,hx.next hv (by omega)⟩
 obtain⟨x,hx⟩:=key d.length (qr _)
 have e:=hx.done (qr _)
 subst e
 intro e he
 have:=hx.el e he
 rw[List.drop_length] at this
 simp only[newD] at this
 omega
theorem y4L{o a:List Elem}(po:partE o 0=0)(pa:partE a 0=0)(no:AN 10000000 o)(na:AN 10000000 a)(lo:o.length<=2000)(la:a.length<=2000):ActBd (z0d (doneD (diffU o a))) o.length:=by
 have no':=an_up no (k:=1000000000) (by decide)
 have na':=an_up na (k:=1000000000) (by decide)
 obtain⟨_,_,_,_,_,v1,w1,o1,r1,_⟩:=z4D po pa no' na' (by omega) (by omega)
 obtain⟨f1,f2⟩:=z71 v1
 obtain⟨_,l1,_⟩:=y6F v1 o1 (z8a po)
 have hm:=y6Q po pa no' na' lo la
 have hal:=y4t v1 o1
 rw[r1] at hal
 refine⟨f1,l1,fun e he=>⟨by have:=y0z v1 e he;omega,fun y hy=> ?_⟩,?_⟩
 ·obtain⟨k,hk,rfl⟩:=zn.1 he
  have hk2:=f1.1
  have:=y10 f1 _ 0 rfl (qp _) k (qp _) (by omega) y (by simpa[List.getD,qa hk] using hy)
  rw[f2,hm] at this
  exact z79 (Q:=fun u=> ∀y,u= .A y->y.attrs.length<=10000000) (fun _ _ _ _ y h=>by cases h) (fun x hx y h=>by injection h with h;subst h;exact na x hx) (fun y h=>by cases h) _ this y rfl
 ·refine z72 (Q:=fun c=>c.length<=20000000) (fun s hs=> ?_) (fun c hc=>by cases hc)
  rcases v1.1.all s hs with⟨_,_,q,_⟩| ⟨q,_,z,n1,_,_⟩
  ·rw[q];simp
  ·by_cases k2:s.kind=2
   ·rw[z k2];simp
   ·have hu:DU.K s.attrs∈exS s:=by
     unfold exS
     rw[if_neg (by omega),if_neg k2]
     exact zJ.2 ⟨by omega,rfl⟩
    have:=(hm _).1 (y4k hs hu)
    refine z79 (Q:=fun u=> ∀c,u= .K c->c.length<=20000000) (fun x hx y hy c h=> ?_) (fun x hx y h=>by cases h) (fun y h=>by cases h) _ this _ rfl
    injection h with h;subst h
    have h1:=z0Z chgG x.attrs y.attrs
    have h2:=no x hx
    have h3:=na y hy
    unfold chgU;omega
theorem z8b{x:Elem}(h:VG false x.attrs):chgU x x=[]:=by
 have:=y0y h h
 rw[z14] at this
 exact len0.1 (fun q=>absurd (this.1 q) (by decide))
section
variable {o a:List Elem} (po:partE o 0=0) (pa:partE a 0=0) (no:AN 10000000 o) (na:AN 10000000 a) (lo:o.length<=2000) (la:a.length<=2000)
include po pa no na lo la
end
end Go.Ch
end
section
set_option maxRecDepth 100000
set_option maxHeartbeats 4000000
open Go Go.Proofs Go.Ab
namespace Go.Ch
theorem y11(node:Int)(o a b:List Elem)(po:partE o 0=0)(pa:partE a 0=0)(pb:partE b 0=0)(no:AN 10000000 o)(na:AN 10000000 a)(nb:AN 10000000 b)(lo:o.length<=2000)(la:a.length<=2000)(lb:b.length<=2000):FC Tryz.prog 41 [VI node,VL 3 elemT o,VL 3 elemT a,VL 3 elemT b] (app emp []) (.tup [VL 3 elemT (mrgO node o (z0d (doneD (diffU o a))) (z0d (doneD (diffU o b)))),VL 5 confT (mrgC node o (z0d (doneD (diffU o a))) (z0d (doneD (diffU o b))))]) (app emp []):=by
 refine .go Tryz.f41 ?_
 refine .len 1 (fun hl1=> ?_)
 refine .len 2 (fun hl2=> ?_)
 refine .len 3 (fun hl3=> ?_)
 have no':=an_up no (k:=1000000000) (by decide)
 have na':=an_up na (k:=1000000000) (by decide)
 have nb':=an_up nb (k:=1000000000) (by decide)
 obtain⟨_,_,_,_,_,v1,w1,o1,r1,_⟩:=z4D po pa no' na' (by omega) (by omega)
 obtain⟨_,_,_,_,_,v2,w2,o2,r2,_⟩:=z4D po pb no' nb' (by omega) (by omega)
 have A1:=y4L po pa no na lo la
 have A2:=y4L po pb no nb lo lb
 refine .loop (α:=Nat×(List Elem)×(List Conf)) [.r [],.r [(1,X (Xl elemT o)),(4,X (Xc1 48 (z69 o a (by assumption) (by assumption) (by assumption) (by assumption) (by omega) (by omega)) X0)),(5,X (Xc1 56 (y1X o.length (doneD (diffU o a)) (by omega) (by assumption) (by assumption) (by assumption)) X0)),(7,X (Xl elemT o)),(10,X (Xc1 96 (z69 o b (by assumption) (by assumption) (by assumption) (by assumption) (by omega) (by omega)) X0)),(11,X (Xc1 104 (y1X o.length (doneD (diffU o b)) (by omega) (by assumption) (by assumption) (by assumption)) X0))],.r [],.le (.nB 160 1 3),.le (.nB 160 2 5),.r [(1,X (Xl elemT o))]] 202 (fun(i,p,q)=>([(1,VL 3 elemT o),(10,.ptr 112 0),(11,.ptr 120 0),(12,.ptr 160 0),(30,VL 3 elemT o),(31,VI (o.length:Int)),(32,VI (i:Int))],[(57,OR 1 z1F ((z0d (doneD (diffU o a))).ins)),(58,OR 1 boolT ((z0d (doneD (diffU o a))).cut)),(59,OR 1 z2t ((z0d (doneD (diffU o a))).set)),(105,OR 1 z1F ((z0d (doneD (diffU o b))).ins)),(106,OR 1 boolT ((z0d (doneD (diffU o b))).cut)),(107,OR 1 z2t ((z0d (doneD (diffU o b))).set)),(112,.box [.row 57 ((z0d (doneD (diffU o a))).ins.length),.row 58 ((z0d (doneD (diffU o a))).cut.length),.row 59 ((z0d (doneD (diffU o a))).set.length)]),(120,.box [.row 105 ((z0d (doneD (diffU o b))).ins.length),.row 106 ((z0d (doneD (diffU o b))).cut.length),.row 107 ((z0d (doneD (diffU o b))).set.length)]),(160,.box [VI node,.row 176 p.length,.row 177 q.length]),(176,OR 3 elemT p),(177,OR 5 confT q)])) (fun(i,p,q)=>i<=o.length/\p=(mrgS node o (z0d (doneD (diffU o a))) (z0d (doneD (diffU o b))) i).1/\q=(mrgS node o (z0d (doneD (diffU o a))) (z0d (doneD (diffU o b))) i).2) (fun(i,p,q)=>o.length-i) (0,[],[]) ?_ ?_
 ·
  exact⟨by omega,rfl,rfl⟩
 rintro⟨i,p,q⟩ I4 ih4
 try dsimp only at I4
 have hb:=y7Z (node:=node) A1 A2 no i I4.1
 rw[<-I4.2.1,<-I4.2.2] at hb
 have b1:=hb.len
 have b2:=hb.an
 have b3:=hb.conf
 have f1:=A1.fit.1
 have f2:=A1.fit.2
 have f3:=A1.len
 have k1:=A2.fit.1
 have k2:=A2.fit.2
 have k3:=A2.len
 refine .bp [.r []] (decide ((i:Int)< (o.length:Int))) (fun h4=> ?_) (fun h4=> ?_)
 ·
  have g1:=A1.at_ (i:=i) (by omega)
  have g2:=A2.at_ (i:=i) (by omega)
  have s1:=A1.set_ (i:=i) (by omega)
  have s2:=A2.set_ (i:=i) (by omega)
  have nx:=no _ (z0e (l:=o) (k:=i) (by omega))
  have hg:=y4D (node:=node) hb g1 g2
  have hg1:=hg.1
  have hg3:=hg.2.2
  refine .back [.r [(1,X (Xi elemT o (i:Int)))],.r [(4,X (Xpn ((z0d (doneD (diffU o a))).ins.length) z1F ((z0d (doneD (diffU o a))).ins) (i:Int))),(5,X (Xen ((z0d (doneD (diffU o a))).ins.length) z1F ((z0d (doneD (diffU o a))).ins) i)),(9,X (Xpn ((z0d (doneD (diffU o b))).ins.length) z1F ((z0d (doneD (diffU o b))).ins) (i:Int))),(10,X (Xen ((z0d (doneD (diffU o b))).ins.length) z1F ((z0d (doneD (diffU o b))).ins) i)),(11,X (Xc3 346 [(0,160),(1,176),(2,177)] (y4H node p q (((z0d (doneD (diffU o a))).ins).getD i default) (((z0d (doneD (diffU o b))).ins).getD i default) (by omega) (by omega)) X0))],.r [(5,X (Xpn ((z0d (doneD (diffU o a))).set.length) z2t ((z0d (doneD (diffU o a))).set) (i:Int))),(6,X (Xen ((z0d (doneD (diffU o a))).set.length) z2t ((z0d (doneD (diffU o a))).set) i)),(10,X (Xpn ((z0d (doneD (diffU o b))).set.length) z2t ((z0d (doneD (diffU o b))).set) (i:Int))),(11,X (Xen ((z0d (doneD (diffU o b))).set.length) z2t ((z0d (doneD (diffU o b))).set) i)),(15,X (Xpn ((z0d (doneD (diffU o a))).cut.length) boolT ((z0d (doneD (diffU o a))).cut) (i:Int))),(16,X (Xen ((z0d (doneD (diffU o a))).cut.length) boolT ((z0d (doneD (diffU o a))).cut) i)),(20,X (Xpn ((z0d (doneD (diffU o b))).cut.length) boolT ((z0d (doneD (diffU o b))).cut) (i:Int))),(21,X (Xen ((z0d (doneD (diffU o b))).cut.length) boolT ((z0d (doneD (diffU o b))).cut) i)),(22,X (Xc3 530 [(0,160),(1,176),(2,177)] (y1Y node (gapO p (((z0d (doneD (diffU o a))).ins).getD i default) (((z0d (doneD (diffU o b))).ins).getD i default)) (gapC node p (((z0d (doneD (diffU o a))).ins).getD i default) (((z0d (doneD (diffU o b))).ins).getD i default) q) ((o.getD i default)) (((z0d (doneD (diffU o a))).set).getD i default) (((z0d (doneD (diffU o b))).set).getD i default) (((z0d (doneD (diffU o a))).cut).getD i default) (((z0d (doneD (diffU o b))).cut).getD i default) (by omega) (by omega) (by omega)) X0))],.r [(0,X (Xn ((i:Int)+1)))]] [(57,57),(58,58),(59,59),(105,105),(106,106),(107,107),(112,112),(120,120),(160,160),(176,176),(177,177)] (ih4 ((i+1),(elmO (gapO p (((z0d (doneD (diffU o a))).ins).getD i default) (((z0d (doneD (diffU o b))).ins).getD i default)) ((o.getD i default)) (((z0d (doneD (diffU o a))).set).getD i default) (((z0d (doneD (diffU o b))).set).getD i default) (((z0d (doneD (diffU o a))).cut).getD i default) (((z0d (doneD (diffU o b))).cut).getD i default)),(elmC node (gapO p (((z0d (doneD (diffU o a))).ins).getD i default) (((z0d (doneD (diffU o b))).ins).getD i default)) (((z0d (doneD (diffU o a))).set).getD i default) (((z0d (doneD (diffU o b))).set).getD i default) (((z0d (doneD (diffU o a))).cut).getD i default) (((z0d (doneD (diffU o b))).cut).getD i default) (gapC node p (((z0d (doneD (diffU o a))).ins).getD i default) (((z0d (doneD (diffU o b))).ins).getD i default) q))) ?_ ?_)
  ·
   refine⟨by omega,?_,?_⟩
   ·rw[mrgS,I4.2.1]
   ·rw[mrgS,I4.2.1,I4.2.2]
  ·
   ((try dsimp only);omega)
 ·
  have g1:=A1.at_ (i:=o.length) (by omega)
  have g2:=A2.at_ (i:=o.length) (by omega)
  have hg:=y4D (node:=node) hb g1 g2
  have hg1:=hg.1
  have hg3:=hg.2.2
  have an2:=an_up hg.2.1 (k:=400000000000) (by decide)
  have he:i=o.length:=by omega
  have e1:((mrgO node o (z0d (doneD (diffU o a))) (z0d (doneD (diffU o b)))):List Elem)=(gapO p (((z0d (doneD (diffU o a))).ins).getD o.length default) (((z0d (doneD (diffU o b))).ins).getD o.length default)):=by
   first| (unfold mrgO;rw[I4.2.1,he])| (unfold mrgC;rw[I4.2.1,I4.2.2,he])
  have e2:((mrgC node o (z0d (doneD (diffU o a))) (z0d (doneD (diffU o b)))):List Conf)=(gapC node p (((z0d (doneD (diffU o a))).ins).getD o.length default) (((z0d (doneD (diffU o b))).ins).getD o.length default) q):=by
   first| (unfold mrgO;rw[I4.2.1,he])| (unfold mrgC;rw[I4.2.1,I4.2.2,he])
  exact .finE [.r [(4,X (Xl elemT o)),(5,X (Xpn ((z0d (doneD (diffU o a))).ins.length) z1F ((z0d (doneD (diffU o a))).ins) (o.length:Int))),(6,X (Xen ((z0d (doneD (diffU o a))).ins.length) z1F ((z0d (doneD (diffU o a))).ins) o.length)),(10,X (Xl elemT o)),(11,X (Xpn ((z0d (doneD (diffU o b))).ins.length) z1F ((z0d (doneD (diffU o b))).ins) (o.length:Int))),(12,X (Xen ((z0d (doneD (diffU o b))).ins.length) z1F ((z0d (doneD (diffU o b))).ins) o.length)),(13,X (Xc3 314 [(0,160),(1,176),(2,177)] (y4H node p q (((z0d (doneD (diffU o a))).ins).getD o.length default) (((z0d (doneD (diffU o b))).ins).getD o.length default) (by omega) (by omega)) X0))],.r [(4,X (Xc1 354 (y0p (gapO p (((z0d (doneD (diffU o a))).ins).getD o.length default) (((z0d (doneD (diffU o b))).ins).getD o.length default)) (by omega) (by assumption)) (rowC elemT (gapO p (((z0d (doneD (diffU o a))).ins).getD o.length default) (((z0d (doneD (diffU o b))).ins).getD o.length default)) X0)))],.le (.fr 9 [(((gapC node p (((z0d (doneD (diffU o a))).ins).getD o.length default) (((z0d (doneD (diffU o b))).ins).getD o.length default) q).length):Nat)=(List.map confT (gapC node p (((z0d (doneD (diffU o a))).ins).getD o.length default) (((z0d (doneD (diffU o b))).ins).getD o.length default) q)).length] ⟨lm,trivial⟩)] [] (fun((z0,z1):(List Elem)×(List Conf))=>(.tup [VL 3 elemT z0,VL 5 confT z1],[])) _ _ (pr e1 e2)
theorem z8c(o a b:List Elem)(po:partE o 0=0)(pa:partE a 0=0)(pb:partE b 0=0)(no:AN 10000000 o)(na:AN 10000000 a)(nb:AN 10000000 b)(lo:o.length<=2000)(la:a.length<=2000)(lb:b.length<=2000):FC Tryz.prog 14 [VL 3 elemT o,VL 3 elemT a,VL 3 elemT b] (app emp []) (.tup [VL 3 elemT (mrgO 0 o (z0d (doneD (diffU o a))) (z0d (doneD (diffU o b)))),VL 5 confT (mrgC 0 o (z0d (doneD (diffU o a))) (z0d (doneD (diffU o b)))),VI 0]) (app emp []):=by
 refine .go Tryz.f14 ?_
 refine .len 0 (fun hl0=> ?_)
 refine .len 1 (fun hl1=> ?_)
 refine .len 2 (fun hl2=> ?_)
 refine .bp [.r [],.r [],.u,.r [],.t,.r [(0,X (Xa (Xc ((0:Int)<=0)) (Xc ((0:Int)< ((3:Nat):Int)))) ⟨by decide,by decide⟩)],.r [(1,X (Xc0 (z1P o) X0))],.r []] ((partE o 0) !=0) (fun h5=> ?_) (fun h5=> ?_)
 ·
  exfalso
  omega
 ·
  refine .bp [.r [],.u,.r [],.t,.r [(0,X (Xa (Xc ((0:Int)<=1)) (Xc ((1:Int)< ((3:Nat):Int)))) ⟨by decide,by decide⟩)],.r [(1,X (Xc0 (z1P a) X0))],.r []] ((partE a 0) !=0) (fun h5=> ?_) (fun h5=> ?_)
  ·
   exfalso
   omega
  ·
   refine .bp [.r [],.u,.r [],.t,.r [(0,X (Xa (Xc ((0:Int)<=2)) (Xc ((2:Int)< ((3:Nat):Int)))) ⟨by decide,by decide⟩)],.r [(1,X (Xc0 (z1P b) X0))],.r []] ((partE b 0) !=0) (fun h5=> ?_) (fun h5=> ?_)
   ·
    exfalso
    omega
   ·
    refine .bp [.r [],.u,.r [],.f,.r [],.u,.r [],.t,.r [(0,X (Xa (Xc ((0:Int)<=0)) (Xc ((0:Int)< ((3:Nat):Int)))) ⟨by decide,by decide⟩)],.r [(1,X (Xl elemT o))]] (decide ((o.length:Int)> 2000)) (fun h11=> ?_) (fun h11=> ?_)
    ·
     exfalso
     omega
    ·
     refine .bp [.r [],.u,.r [],.t,.r [(0,X (Xa (Xc ((0:Int)<=1)) (Xc ((1:Int)< ((3:Nat):Int)))) ⟨by decide,by decide⟩)],.r [(1,X (Xl elemT a))]] (decide ((a.length:Int)> 2000)) (fun h11=> ?_) (fun h11=> ?_)
     ·
      exfalso
      omega
     ·
      refine .bp [.r [],.u,.r [],.t,.r [(0,X (Xa (Xc ((0:Int)<=2)) (Xc ((2:Int)< ((3:Nat):Int)))) ⟨by decide,by decide⟩)],.r [(1,X (Xl elemT b))]] (decide ((b.length:Int)> 2000)) (fun h11=> ?_) (fun h11=> ?_)
      ·
       exfalso
       omega
      ·
       refine .at 528 [] ([(0,VL 3 elemT o),(1,VL 3 elemT a),(2,VL 3 elemT b),(32,.t (.agg [TL 3 elemT o,TL 3 elemT a,TL 3 elemT b])),(33,VI 2),(38,VB (decide ((b.length:Int)> 2000)))],[]) ?_
       exact .fin [.r [],.u,.r [],.f,.r [(3,X (Xc1 576 (y11 0 o a b (by assumption) (by assumption) (by assumption) (by assumption) (by assumption) (by assumption) (by omega) (by omega) (by omega)) X0))],.r []] []
theorem y4M:partE (z0j {data:=#[97,98]}) 0=0/\partE (z0j {data:=#[97,120,98]}) 0=0/\((z0j {data:=#[97,98]})).length=2/\((z0j {data:=#[97,120,98]})).length=3:=by decide+kernel
theorem y4N:FC Tryz.prog 4 [] (app emp []) (VB true) (app emp []):=by
 refine .go Tryz.f4 ?_
 obtain⟨p1,p2,l1,l2⟩:=y4M
 have n1:=y7U {data:=#[97,98]} 10000000
 have n2:=y7U {data:=#[97,120,98]} 10000000
 have u1:mrgO 0 (z0j {data:=#[97,98]}) (z0d (doneD (diffU (z0j {data:=#[97,98]}) (z0j {data:=#[97,120,98]})))) (z0d (doneD (diffU (z0j {data:=#[97,98]}) (z0j {data:=#[97,98]}))))=(z0j {data:=#[97,120,98]}):=by kernel_rfl
 have u2:mrgC 0 (z0j {data:=#[97,98]}) (z0d (doneD (diffU (z0j {data:=#[97,98]}) (z0j {data:=#[97,120,98]})))) (z0d (doneD (diffU (z0j {data:=#[97,98]}) (z0j {data:=#[97,98]}))))=[]:=by kernel_rfl
 have e1:(((true&&(sameF (z0j {data:=#[97,120,98]}) (z0j ({data:=#[97,120,98]}))))&&((([]:List Conf).length:Int)==0)):Bool)=true:=by
  rw[y2U];rfl
 exact .finE [.r [],.r [(0,X (Xc1 8 (z3F ({data:=#[97,98]}) (by decide)) X0)),(1,X (Xc1 16 (z3F ({data:=#[97,120,98]}) (by decide)) X0)),(2,X (Xc1 24 (z3F ({data:=#[97,98]}) (by decide)) X0)),(3,X (Xc1 32 (z8c (z0j ({data:=#[97,98]})) (z0j ({data:=#[97,120,98]})) (z0j ({data:=#[97,98]})) (by assumption) (by assumption) (by assumption) (by assumption) (by assumption) (by assumption) (by omega) (by omega) (by omega)) X0))],.le (.eq 1 (VL 3 elemT (mrgO 0 (z0j ({data:=#[97,98]})) (z0d (doneD (diffU (z0j ({data:=#[97,98]})) (z0j ({data:=#[97,120,98]}))))) (z0d (doneD (diffU (z0j ({data:=#[97,98]})) (z0j ({data:=#[97,98]}))))))) (VL 3 elemT (z0j {data:=#[97,120,98]})) (.of_eq (by rw[u1]))),.le (.eq 2 (VL 5 confT (mrgC 0 (z0j ({data:=#[97,98]})) (z0d (doneD (diffU (z0j ({data:=#[97,98]})) (z0j ({data:=#[97,120,98]}))))) (z0d (doneD (diffU (z0j ({data:=#[97,98]})) (z0j ({data:=#[97,98]}))))))) (VL 5 confT ([]:List Conf)) (.of_eq (by rw[u2]))),.r [(4,Xg true (Xc1 128 (z3F ({data:=#[97,120,98]}) (by decide)) X0)),(5,Xv 2 true (Xc0 (y0o (z0j {data:=#[97,120,98]}) (z0j ({data:=#[97,120,98]}))) X0)),(6,X (Xk true)),(9,Xv 1 (true&&(sameF (z0j {data:=#[97,120,98]}) (z0j ({data:=#[97,120,98]})))) (Xl confT ([]:List Conf))),(10,Xv 1 (true&&(sameF (z0j {data:=#[97,120,98]}) (z0j ({data:=#[97,120,98]})))) X0),(11,X (Xk (true&&(sameF (z0j {data:=#[97,120,98]}) (z0j ({data:=#[97,120,98]}))))))]] [] (fun z0:Bool=>(VB z0,[])) _ _ e1.symm
end Go.Ch
end
section
namespace Go.Ch
open Go Go.Ab
theorem y12{a b:List Elem}{i k:Nat}(h1:i<a.length)(h2:k<b.length):tabR a b i k=if z0r (a.getD i default) (b.getD k default)=true then min (1+min (tabR a b (i+1) k) (tabR a b i (k+1))) (tabR a b (i+1) (k+1)+z01 (a.getD i default) (b.getD k default))
 else 1+min (tabR a b (i+1) k) (tabR a b i (k+1)):=by
 conv=>lhs;rw[tabR]
 rw[if_pos h1,if_pos h2]
theorem y4O(a b:List Elem):∀(n i k:Nat),(a.length-i)+(b.length-k)<=n->i<=a.length->k<=b.length->((b.length:Int)- k)- ((a.length:Int)- i)<=tabR a b i k:=by
 intro n
 induction n with
 |zero=>
  intro i k hn hi hk
  have:=z1T hi hk
  omega
 |succ n ih=>
  intro i k hn hi hk
  have hb:=z1T hi hk
  by_cases h1:i<a.length
  ·by_cases h2:k<b.length
   ·have e1:=ih (i+1) k (by omega) (by omega) hk
    have e2:=ih i (k+1) (by omega) hi (by omega)
    have e3:=ih (i+1) (k+1) (by omega) (by omega) (by omega)
    have:=z26 (a.getD i default) (b.getD k default)
    rw[y12 h1 h2]
    split<;>omega
   ·omega
  ·have:tabR a b i k=(b.length:Int)- k:=by rw[tabR,if_neg h1]
   omega
variable {o e:List Elem} {p:Nat}
def insF(o e:List Elem)(p:Nat):List Elem:=o.take p++(e++o.drop p)
theorem z1Z(hp:p<=o.length):(insF o e p).length=o.length+e.length:=by unfold insF;simp;omega
theorem z4E(a b:List Elem)(i:Nat):(a++b).getD i default=if i<a.length then a.getD i default else b.getD (i-a.length) default:=by
 rw[qj,List.getElem?_append]
 split<;>rw[<-List.getD_eq_getElem?_getD]
theorem y4P(hp:p<=o.length){i:Nat}(h:i<p):(insF o e p).getD i default=o.getD i default:=by
 unfold insF
 rw[z4E,if_pos (by rw[qX];omega),qj,List.getElem?_take_of_lt h,<-List.getD_eq_getElem?_getD]
theorem y6R(hp:p<=o.length){j:Nat}(h:j<e.length):(insF o e p).getD (p+j) default=e.getD j default:=by
 unfold insF
 have tl:(o.take p).length=p:=by rw[qX];omega
 rw[z4E,if_neg (by omega),z4E,if_pos (by omega),tl]
 congr 1;omega
theorem y0A(hp:p<=o.length){i:Nat}(h:p<=i):(insF o e p).getD (i+e.length) default=o.getD i default:=by
 unfold insF
 have tl:(o.take p).length=p:=by rw[qX];omega
 rw[z4E,if_neg (by omega),z4E,if_neg (by omega),tl,qj,qZ,<-List.getD_eq_getElem?_getD]
 congr 1;omega
theorem z3H(x:Elem):z0r x x=true:=by unfold z0r;simp
theorem z3I(x:Elem):z01 x x=0:=by unfold z01;rw[if_pos (z14 _)]
theorem y13(hp:p<=o.length):∀(n i:Nat),o.length-i=n->p<=i->i<=o.length->tabR o (insF o e p) i (i+e.length)=0
 |0,i,hn,h,hi=>by
  have:=z1Z (e:=e) hp
  rw[tabR,if_neg (by omega),this];omega
 |n+1,i,hn,h,hi=>by
  have ih:=y13 hp n (i+1) (by omega) (by omega) (by omega)
  have hl:=z1Z (e:=e) hp
  have hb:=z1T (a:=o) (b:=insF o e p) (i:=i) (k:=i+e.length) hi (by omega)
  have hx:=y0A (e:=e) hp h
  have ee:=y12 (a:=o) (b:=insF o e p) (i:=i) (k:=i+e.length) (by omega) (by omega)
  rw[hx,z3H,if_pos rfl,z3I,show i+e.length+1=(i+1)+e.length by omega,ih] at ee
  omega
theorem y0B(hp:p<=o.length):∀(n j:Nat),e.length-j=n->j<=e.length->tabR o (insF o e p) p (p+j)=(e.length:Int)- j
 |0,j,hn,hj=>by
  have:=y13 (e:=e) hp _ p rfl (qr _) hp
  rw[show j=e.length by omega,this];omega
 |n+1,j,hn,hj=>by
  have ih:=y0B hp n (j+1) (by omega) (by omega)
  have hl:=z1Z (e:=e) hp
  have hg:=y4O o (insF o e p) _ p (p+j) (qr _) hp (by omega)
  by_cases h1:p<o.length
  ·have ee:=y12 (a:=o) (b:=insF o e p) (i:=p) (k:=p+j) h1 (by omega)
   rw[show p+j+1=p+(j+1) by omega,ih] at ee
   rw[hl] at hg
   have:=z26 (o.getD p default) ((insF o e p).getD (p+j) default)
   split at ee<;>omega
  ·rw[tabR,if_neg h1,hl];omega
theorem y4Q(hp:p<=o.length):∀(n i:Nat),p-i=n->i<=p->tabR o (insF o e p) i i=e.length
 |0,i,hn,hi=>by
  have:=y0B (e:=e) hp _ 0 rfl (qp _)
  rw[show i=p by omega]
  simpa using this
 |n+1,i,hn,hi=>by
  have ih:=y4Q hp n (i+1) (by omega) (by omega)
  have hl:=z1Z (e:=e) hp
  have hg:=y4O o (insF o e p) _ i i (qr _) (by omega) (by omega)
  have hx:=y4P (e:=e) hp (show i<p by omega)
  have ee:=y12 (a:=o) (b:=insF o e p) (i:=i) (k:=i) (by omega) (by omega)
  rw[hx,z3H,if_pos rfl,z3I,ih] at ee
  rw[hl] at hg
  omega
theorem y4R(hv:AV o)(hp:p<=o.length):∀(n i:Nat),o.length-i=n->p<=i->i<=o.length->pathU o (insF o e p) i (i+e.length)=List.replicate (o.length-i) (.K [])
 |0,i,hn,h,hi=>by
  have hl:=z1Z (e:=e) hp
  rw[z2x (by omega) (by omega),hn];rfl
 |n+1,i,hn,h,hi=>by
  have hl:=z1Z (e:=e) hp
  have hx:=y0A (e:=e) hp h
  have hk:KeepP o (insF o e p) i (i+e.length):=⟨⟨by omega,by omega⟩,by rw[hx,z3H],by rw[hx,z3I,y13 hp _ i rfl h hi,show i+e.length+1=(i+1)+e.length by omega,y13 hp _ (i+1) rfl (by omega) (by omega)];rfl⟩
  rw[z1E hk,hx,z8b (hv _ (z0e (by omega))),show i+e.length+1=(i+1)+e.length by omega,y4R hv hp n (i+1) (by omega) (by omega) (by omega),hn,show o.length- (i+1)=n by omega]
  rfl
theorem y14(hv:AV o)(hp:p<=o.length)(hn:∀x∈o,∀y∈e,z0r x y=false):∀(n j:Nat),e.length-j=n->j<=e.length->pathU o (insF o e p) p (p+j)=(e.drop j).map .A++List.replicate (o.length-p) (.K [])
 |0,j,h,hj=>by
  rw[show j=e.length by omega,y4R hv hp _ p rfl (qr _) hp];simp
 |n+1,j,h,hj=>by
  have hl:=z1Z (e:=e) hp
  have hx:=y6R (o:=o) (e:=e) hp (show j<e.length by omega)
  have t0:=y0B (e:=e) hp _ j rfl hj
  have nk:¬KeepP o (insF o e p) p (p+j):=fun q=>by
   have h2:=q.2.1
   rw[hx,hn _ (z0e q.1.1) _ (z0e (by omega))] at h2;cases h2
  have nc:¬CutP o (insF o e p) p (p+j):=fun q=>by
   obtain⟨q1,q2|q2⟩:=q
   ·omega
   ·have hg:=y4O o (insF o e p) _ (p+1) (p+j) (qr _) (by omega) (by omega)
    rw[hl] at hg;omega
  rw[z2w nk nc (by omega),hx,show p+j+1=p+(j+1) by omega,y14 hv hp hn n (j+1) (by omega) (by omega)]
  rw[zt (show j<e.length by omega),q9,qe]
  congr 2
  rw[qj,qa (show j<e.length by omega)];rfl
theorem y4S(hv:AV o)(hp:p<=o.length)(hn:∀x∈o,∀y∈e,z0r x y=false):∀(n i:Nat),p-i=n->i<=p->pathU o (insF o e p) i i=List.replicate (p-i) (.K [])++(e.map .A++List.replicate (o.length-p) (.K []))
 |0,i,h,hi=>by
  have:=y14 hv hp hn _ 0 rfl (qp _)
  rw[show i=p by omega,Nat.sub_self]
  simpa using this
 |n+1,i,h,hi=>by
  have hl:=z1Z (e:=e) hp
  have hx:=y4P (e:=e) hp (show i<p by omega)
  have hk:KeepP o (insF o e p) i i:=⟨⟨by omega,by omega⟩,by rw[hx,z3H],by rw[hx,z3I,y4Q hp _ i rfl hi,y4Q hp _ (i+1) rfl (by omega)];omega⟩
  rw[z1E hk,hx,z8b (hv _ (z0e (by omega))),y4S hv hp hn n (i+1) (by omega) (by omega),h,show p- (i+1)=n by omega]
  rfl
theorem y6S(hv:AV o)(h0:0<o.length)(hl:(o.getD (o.length- 1) default).char=10)(hp:p<o.length)(hn:∀x∈o,∀y∈e,z0r x y=false):
 diffU o (insF o e p)=List.replicate p (.K [])++(e.map .A++List.replicate (o.length-p) (.K [])):=by
 have il:=z1Z (e:=e) (show p<=o.length by omega)
 have ll:lst (insF o e p)=lst o:=by
  unfold lst
  rw[il]
  have:=y0A (o:=o) (e:=e) (p:=p) (by omega) (i:=o.length- 1) (by omega)
  rw[<-this];congr 1;omega
 have ht:TiedP o (insF o e p):=⟨⟨⟨h0,by omega⟩,hl⟩,by have:=ll;unfold lst at this;rw[this];exact hl⟩
 have ii:ini (insF o e p)=insF (ini o) e p:=by
  unfold ini
  rw[il]
  unfold insF
  rw[List.take_append,List.take_append,qX,List.take_take,List.take_take,show min p o.length=p by omega,show min (o.length+e.length- 1) p=p by omega,show min p (o.length- 1)=p by omega]
  congr 1
  rw[qw (l:=e) (by omega)]
  congr 1
  rw[List.drop_take]
  congr 1;omega
 unfold diffU
 rw[if_pos ht,ll,z8b (hv.lst h0),ii,y4S hv.ini (by rw[z1I];omega) (fun x hx=>hn x (z3v hx)) _ 0 rfl (qp _),z1I,Nat.sub_zero,qE,qE]
 congr 2
 rw[<-List.replicate_succ',show o.length- 1-p+1=o.length-p by omega]
theorem dswC{u v:List DU}(h:DSw u v):DU.C∉u->u=v:=by
 induction h with
 |refl u=>exact fun _=>rfl
 |cons x h ih=>intro q;rw[ih (fun a=>q (qJ _ a))]
 |swap e u=>exact fun q=>absurd (by simp) q
 |symm h ih=>exact fun q=>(ih (fun a=>q ((z3t h _).1 a))).symm
 |trans h k ih1 ih2=>
  intro q
  have e:=ih1 q
  exact e.trans (ih2 (by rw[<-e];exact q))
def IsA:DU->Bool
 | .A _=>true
 |_=>false
theorem y4T:∀{l m:List Elem} {y z:DU} {r s:List DU},IsA y=false->IsA z=false->l.map .A++(y::r)=m.map .A++(z::s)->l=m/\y=z/\r=s
 | [],[],y,z,r,s,_,_,h=>by injection h with h1 h2;exact⟨rfl,h1,h2⟩
 | [],b::m,y,z,r,s,hy,_,h=>by injection h with h1 h2;rw[h1] at hy;cases hy
 |a::l,[],y,z,r,s,_,hz,h=>by injection h with h1 h2;rw[<-h1] at hz;cases hz
 |a::l,b::m,y,z,r,s,hy,hz,h=>by
  injection h with h1 h2
  injection h1 with h1
  obtain⟨q1,q2,q3⟩:=y4T hy hz h2
  exact⟨by rw[h1,q1],q2,q3⟩
theorem map_A:∀{l m:List Elem},l.map DU.A=m.map DU.A->l=m
 | [],[],_=>rfl
 | [],b::m,h=>by cases h
 |a::l,[],h=>by cases h
 |a::l,b::m,h=>by injection h with h1 h2;injection h1 with h1;rw[h1,map_A h2]
structure InsAct(A:Act)(n p:Nat)(e:List Elem):Prop where
 ins:∀i,i<=n->A.ins.getD i default=if i=p then e else[]
 cut:∀i,i<n->A.cut.getD i default=false
 set:∀i,i<n->A.set.getD i default=[]
theorem z8d{x:Act}{i:Nat}{m:List Elem}{c:List Attr}{r:List DU}(hi:i<x.cut.length)(h:actR x i=m.map .A++(.K c::r)):x.ins.getD i default=m/\x.cut.getD i default=false/\x.set.getD i default=c/\actR x (i+1)=r:=by
 rw[actR,if_pos hi] at h
 obtain⟨q1,q2,q3⟩:=y4T (by split<;>rfl) rfl h
 cases hc:x.cut.getD i default with
 |true=>rw[hc,if_pos rfl] at q2;cases q2
 |false=>rw[hc,if_neg (by decide)] at q2;injection q2 with q2;exact⟨q1,rfl,q2,q3⟩
theorem z7a{x:Act}{n p:Nat}{e:List Elem}(hl:x.cut.length=n)(hp:p<=n):∀(k i:Nat),n-i=k->i<=n->actR x i=(if i<=p then List.replicate (p-i) (.K [])++(e.map .A++List.replicate (n-p) (.K [])) else List.replicate (n-i) (.K []))->
 ∀j,i<=j->(j<=n->x.ins.getD j default=if j=p then e else[])/\(j<n->x.cut.getD j default=false/\x.set.getD j default=[])
 |0,i,hk,hi,h,j,hj=>by
  have e0:i=n:=by omega
  rw[actR,if_neg (by omega)] at h
  refine⟨fun q=> ?_,fun q=>by omega⟩
  rw[show j=i by omega]
  split at h
  ·rename_i q2
   rw[show p-i=0 by omega,show n-p=0 by omega] at h
   rw[if_pos (by omega)]
   exact map_A (by simpa using h)
  ·rw[show n-i=0 by omega] at h
   rw[if_neg (by omega)]
   exact map_A (by simpa using h)
 |k+1,i,hk,hi,h,j,hj=>by
  have main:x.ins.getD i default=(if i=p then e else[])/\x.cut.getD i default=false/\x.set.getD i default=[]/\actR x (i+1)=(if i+1<=p then List.replicate (p- (i+1)) (.K [])++(e.map .A++List.replicate (n-p) (.K [])) else List.replicate (n- (i+1)) (.K [])):=by
   by_cases h1:i<p
   ·rw[if_pos (by omega),show p-i=(p- (i+1))+1 by omega,qo] at h
    rw[if_neg (by omega),if_pos (by omega)]
    exact z8d (m:=[]) (by omega) h
   ·by_cases h2:i=p
    ·rw[if_pos (by omega),show p-i=0 by omega,show n-p=(n- (i+1))+1 by omega,qo] at h
     rw[if_pos h2,if_neg (by omega)]
     exact z8d (by omega) h
    ·rw[if_neg (by omega),show n-i=(n- (i+1))+1 by omega,qo] at h
     rw[if_neg h2,if_neg (by omega)]
     exact z8d (m:=[]) (by omega) h
  rcases Nat.lt_or_eq_of_le hj with q|q
  ·exact z7a hl hp k (i+1) (by omega) (by omega) main.2.2.2 j (by omega)
  ·subst q
   exact⟨fun _=>main.1,fun _=>⟨main.2.1,main.2.2.1⟩⟩
theorem y4U(po:partE o 0=0)(pa:partE (insF o e p) 0=0)(no:AN 10000000 o)(na:AN 10000000 (insF o e p))(lo:o.length<=2000)(la:(insF o e p).length<=2000)(h0:0<o.length)(hl:(o.getD (o.length- 1) default).char=10)(hp:p<o.length)(hn:∀x∈o,∀y∈e,z0r x y=false):
 InsAct (z0d (doneD (diffU o (insF o e p)))) o.length p e:=by
 have no':=an_up no (k:=1000000000) (by decide)
 have na':=an_up na (k:=1000000000) (by decide)
 have hb:=y4L po pa no na lo la
 obtain⟨_,_,_,_,_,v1,w1,o1,r1,_⟩:=z4D po pa no' na' lo la
 obtain⟨f1,f2⟩:=z71 v1
 have hd:=y6S (z8a po) h0 hl hp hn
 have ok:=y4J po pa no' na'
 have nC:DU.C∉diffU o (insF o e p):=fun h=>by
  rw[hd] at h
  rcases qm.1 h with h|h
  ·cases zf h
  ·rcases qm.1 h with h|h
   ·obtain⟨_,_,h⟩:=qy.1 h;cases h
   ·cases zf h
 have lens:=y4K (diffU o (insF o e p))
 have dl:=y1Z (a:=o) (b:=insF o e p) lo la
 have sw:=(z1Y ok (by omega) (by omega)).2.1
 have eq:=dswC sw.symm nC
 have f3:=f2.trans (eq.symm.trans hd)
 have all:=z7a (x:=z0d (doneD (diffU o (insF o e p)))) (n:=o.length) (p:=p) (e:=e) hb.len (by omega) _ 0 rfl (qp _) (by rw[if_pos (qp _),Nat.sub_zero];exact f3)
 exact⟨fun i hi=>(all i (qp _)).1 hi,fun i hi=>((all i (qp _)).2 hi).1,fun i hi=>((all i (qp _)).2 hi).2⟩
theorem z9k(q s:List Elem):gapO q s []=q++s:=by unfold gapO;rw[if_pos (.inl rfl)]
theorem y2Y(q t:List Elem):gapO q [] t=q++t:=by
 unfold gapO
 split
 ·rename_i h
  rcases h with h|h
  ·rw[qN h]
  ·have:t.length=0:=by
    cases t with
    |nil=>rfl
    |cons y t=>simp[sameF] at h
   rw[qN this]
 ·rw[qQ]
theorem z9l(node:Int)(q s:List Elem)(c:List Conf):gapC node q s [] c=c:=by unfold gapC;rw[if_pos (.inl rfl)]
theorem y2Z(node:Int)(q t:List Elem)(c:List Conf):gapC node q [] t c=c:=by
 unfold gapC
 split
 ·rfl
 ·rw[if_neg (by simp)]
theorem z5G:fm rawG [] []=[]:=by simp[fm,bothL]
theorem z3J{node:Int}{f:List Elem}{A B:Act}{n p r i:Nat}{s t q:List Elem}(hA:InsAct A n p s)(hB:InsAct B n r t)(hpr:p≠r)(hi:i<n)(hf:(f.getD i default).attrs=[])(h:mrgS node f A B i=(q,[])):
 mrgS node f A B (i+1)=(q++((if i=p then s else[])++((if i=r then t else[])++[f.getD i default])),[]):=by
 have e:keptE (f.getD i default) [] []=f.getD i default:=by
  unfold keptE
  rw[hf,z5G,z5G]
  rw[<-hf]
 have g:gapO q (A.ins.getD i default) (B.ins.getD i default)=q++((if i=p then s else[])++(if i=r then t else[]))/\∀c,gapC node q (A.ins.getD i default) (B.ins.getD i default) c=c:=by
  rw[hA.ins i (by omega),hB.ins i (by omega)]
  by_cases h1:i=p
  ·rw[if_pos h1,if_neg (by omega),qQ];exact⟨z9k _ _,fun c=>z9l _ _ _ _⟩
  ·rw[if_neg h1,zo];exact⟨y2Y _ _,fun c=>y2Z _ _ _ _⟩
 rw[mrgS]
 simp only[h]
 rw[g.1,g.2,hA.set i hi,hB.set i hi,hA.cut i hi,hB.cut i hi]
 unfold elmO elmC attC
 rw[if_neg (show¬(false||false)=true by decide),if_neg (show¬(false||false)=true by decide),e]
 simp
def abcF(s t:List Elem):List Elem:=⟨97,0,[]⟩::(s++(⟨98,0,[]⟩::⟨99,0,[]⟩::⟨10,0,[]⟩::⟨100,0,[]⟩::(t++[⟨10,0,[]⟩])))
theorem y8I{node:Int}{A B:Act}{s t:List Elem}(hA:InsAct A 6 1 s)(hB:InsAct B 6 5 t):mrgO node (abcF [] []) A B=abcF s t/\mrgC node (abcF [] []) A B=[]:=by
 have s0:mrgS node (abcF [] []) A B 0=([],[]):=rfl
 have s1:=z3J hA hB (by decide) (by decide) rfl s0
 have s2:=z3J hA hB (by decide) (by decide) rfl s1
 have s3:=z3J hA hB (by decide) (by decide) rfl s2
 have s4:=z3J hA hB (by decide) (by decide) rfl s3
 have s5:=z3J hA hB (by decide) (by decide) rfl s4
 have s6:=z3J hA hB (by decide) (by decide) rfl s5
 have hl:(abcF [] []).length=6:=rfl
 unfold mrgO mrgC
 rw[hl,s6]
 rw[hA.ins 6 (by decide),hB.ins 6 (by decide)]
 simp only[show¬((6:Nat)=1) by decide,show¬((6:Nat)=5) by decide,if_false]
 rw[z9k,z9l]
 refine⟨?_,rfl⟩
 simp[abcF]
end Go.Ch
end
section
set_option maxRecDepth 100000
set_option maxHeartbeats 4000000
open Go Go.Proofs Go.Ab
namespace Go.Ch
theorem z3K(l:List AxStep):FC Tryz.prog 192 [VL 2 stepT l] (app emp []) (VI (z1D l)) (app emp []):=by
 refine .go Tryz.f192 ?_
 refine .len 0 (fun hl0=> ?_)
 refine .loop (α:=Int×Int×Nat) [.r [],.r [],.r [(1,X (Xl stepT l))]] 48 (fun(b,a,i)=>([(0,VL 2 stepT l),(3,VI b),(4,VI a),(7,VL 2 stepT l),(8,VI (l.length:Int)),(9,VI (i:Int))],[])) (fun(b,a,i)=>i<=l.length/\0<=b/\b<=2147483648/\0<=a/\a<=2147483648/\z1D l=chkX l i b a) (fun(b,a,i)=>l.length-i) (0,0,0) ?_ ?_
 ·
  exact⟨by omega,by decide,by decide,by decide,by decide,rfl⟩
 rintro⟨b,a,i⟩ I3 ih3
 try dsimp only at I3
 refine .bp [.r []] (decide ((i:Int)< (l.length:Int))) (fun h3=> ?_) (fun h3=> ?_)
 ·
  refine .bp [.r [(1,X (Xi stepT l (i:Int)))],.r [(5,Xv 1 (!(decide ((((l.getD i default)).kind)< 0))) X0),(6,Xv 1 (!(decide ((((l.getD i default)).kind)< 0))) X0),(7,X (Xk' (decide ((((l.getD i default)).kind)< 0))))]] (decide ((((l.getD i default)).kind)< 0)||decide ((((l.getD i default)).kind)> 2)) (fun h5=> ?_) (fun h5=> ?_)
  ·
   have e1:((z1D l):Int)=8:=by
    rw[I3.2.2.2.2.2,chkX];((repeat' split)<;>first|rfl|omega| (simp_all;done)| (simp_all;omega))
   exact .finE [.r []] [] (fun z0:Int=>(VI z0,[])) _ _ e1
  ·
   refine .bp [.r [(5,Xv 1 (!(decide ((((l.getD i default)).n)< 1))) X0),(6,Xv 1 (!(decide ((((l.getD i default)).n)< 1))) X0),(7,X (Xk' (decide ((((l.getD i default)).n)< 1))))]] (decide ((((l.getD i default)).n)< 1)||decide ((((l.getD i default)).n)> 2147483647)) (fun h7=> ?_) (fun h7=> ?_)
   ·
    have e2:((z1D l):Int)=2:=by
     rw[I3.2.2.2.2.2,chkX];((repeat' split)<;>first|rfl|omega| (simp_all;done)| (simp_all;omega))
    exact .finE [.r []] [] (fun z0:Int=>(VI z0,[])) _ _ e2
   ·
    refine .bp [.r [(5,Xv 1 (decide ((i:Int)> 0)) (Xn ((i:Int)- 1))),(6,Xv 2 (decide ((i:Int)> 0)) (Xi' stepT l ((i:Int)- 1) (i- 1))),(7,Xv 1 (decide ((i:Int)> 0)) X0),(8,Xv 1 (decide ((i:Int)> 0)) X0),(10,Xv 1 (decide ((i:Int)> 0)) X0),(11,Xv 2 (decide ((i:Int)> 0)) X0),(12,Xv 1 (decide ((i:Int)> 0)) X0),(15,Xv 1 ((decide ((i:Int)> 0))&& !((((l.getD (i- 1) default)).kind)==(((l.getD i default)).kind))) (Xn ((i:Int)- 1))),(16,Xv 2 ((decide ((i:Int)> 0))&& !((((l.getD (i- 1) default)).kind)==(((l.getD i default)).kind))) (Xi' stepT l ((i:Int)- 1) (i- 1))),(17,Xv 1 ((decide ((i:Int)> 0))&& !((((l.getD (i- 1) default)).kind)==(((l.getD i default)).kind))) X0),(18,Xv 1 ((decide ((i:Int)> 0))&& !((((l.getD (i- 1) default)).kind)==(((l.getD i default)).kind))) X0),(19,Xv 1 ((decide ((i:Int)> 0))&& !((((l.getD (i- 1) default)).kind)==(((l.getD i default)).kind))) X0),(20,Xv 1 ((decide ((i:Int)> 0))&& !((((l.getD (i- 1) default)).kind)==(((l.getD i default)).kind))) X0),(22,Xv 1 (((decide ((i:Int)> 0))&& !((((l.getD (i- 1) default)).kind)==(((l.getD i default)).kind)))&&((((l.getD (i- 1) default)).kind)==2)) X0),(23,Xv 1 (((decide ((i:Int)> 0))&& !((((l.getD (i- 1) default)).kind)==(((l.getD i default)).kind)))&&((((l.getD (i- 1) default)).kind)==2)) X0),(24,Xka ((decide ((i:Int)> 0))&& !((((l.getD (i- 1) default)).kind)==(((l.getD i default)).kind))) ((((l.getD (i- 1) default)).kind)==2)),(25,Xko (decide ((i:Int)> 0)) ((((l.getD (i- 1) default)).kind)==(((l.getD i default)).kind))),(26,X (Xk (decide ((i:Int)> 0))))]] (decide ((i:Int)> 0)&&(((((l.getD (i- 1) default)).kind)==(((l.getD i default)).kind))|| (((((l.getD (i- 1) default)).kind)==2)&&((((l.getD i default)).kind)==1)))) (fun h9=> ?_) (fun h9=> ?_)
    ·
     have e3:((z1D l):Int)=5:=by
      rw[I3.2.2.2.2.2,chkX];((repeat' split)<;>first|rfl|omega| (simp_all;done)| (simp_all;omega))
     exact .finE [.r []] [] (fun z0:Int=>(VI z0,[])) _ _ e3
    ·
     refine .bp [.r []] ((((l.getD i default)).kind) !=1) (fun h11=> ?_) (fun h11=> ?_)
     ·
      refine .bp [.r [(3,X (Xn (b+(((l.getD i default)).n)))),(4,X (Xmin (b+(((l.getD i default)).n)) 2147483648))],.r []] ((((l.getD i default)).kind) !=2) (fun h13=> ?_) (fun h13=> ?_)
      ·
       refine .at 568 [(80,80)] ([(0,VL 2 stepT l),(3,VI (min (b+(((l.getD i default)).n)) 2147483648)),(4,VI a),(6,.ptr 80 0),(7,VL 2 stepT l),(8,VI (l.length:Int)),(9,VI (i:Int)),(70,VB ((((l.getD i default)).kind) !=2))],[(80,.box [VI (((l.getD i default)).kind),VI (((l.getD i default)).n)])]) ?_
       refine .back [.r [(3,X (Xn (a+(((l.getD i default)).n)))),(4,X (Xmin (a+(((l.getD i default)).n)) 2147483648))],.r [(0,X (Xn ((i:Int)+1)))]] [] (ih3 ((min (b+(((l.getD i default)).n)) 2147483648),(min (a+(((l.getD i default)).n)) 2147483648),(i+1)) ?_ ?_)
       ·
        refine⟨by omega,by omega,by omega,by omega,by omega,?_⟩;rw[I3.2.2.2.2.2,chkX];((repeat' split)<;>first|rfl|omega| (simp_all;done)| (simp_all;omega))
       ·
        ((try dsimp only);omega)
      ·
       refine .at 568 [(80,80)] ([(0,VL 2 stepT l),(3,VI (min (b+(((l.getD i default)).n)) 2147483648)),(4,VI a),(6,.ptr 80 0),(7,VL 2 stepT l),(8,VI (l.length:Int)),(9,VI (i:Int)),(70,VB ((((l.getD i default)).kind) !=2))],[(80,.box [VI (((l.getD i default)).kind),VI (((l.getD i default)).n)])]) ?_
       refine .back [.r [(0,X (Xn ((i:Int)+1)))]] [] (ih3 ((min (b+(((l.getD i default)).n)) 2147483648),a,(i+1)) ?_ ?_)
       ·
        refine⟨by omega,by omega,by omega,by omega,by omega,?_⟩;rw[I3.2.2.2.2.2,chkX];((repeat' split)<;>first|rfl|omega| (simp_all;done)| (simp_all;omega))
       ·
        ((try dsimp only);omega)
     ·
      refine .bp [.r []] ((((l.getD i default)).kind) !=2) (fun h13=> ?_) (fun h13=> ?_)
      ·
       refine .at 520 [(80,80)] ([(0,VL 2 stepT l),(3,VI b),(4,VI a),(6,.ptr 80 0),(7,VL 2 stepT l),(8,VI (l.length:Int)),(9,VI (i:Int)),(70,VB ((((l.getD i default)).kind) !=2))],[(80,.box [VI (((l.getD i default)).kind),VI (((l.getD i default)).n)])]) ?_
       refine .back [.r [(3,X (Xn (a+(((l.getD i default)).n)))),(4,X (Xmin (a+(((l.getD i default)).n)) 2147483648))],.r [(0,X (Xn ((i:Int)+1)))]] [] (ih3 (b,(min (a+(((l.getD i default)).n)) 2147483648),(i+1)) ?_ ?_)
       ·
        refine⟨by omega,by omega,by omega,by omega,by omega,?_⟩;rw[I3.2.2.2.2.2,chkX];((repeat' split)<;>first|rfl|omega| (simp_all;done)| (simp_all;omega))
       ·
        ((try dsimp only);omega)
      ·
       refine .at 520 [(80,80)] ([(0,VL 2 stepT l),(3,VI b),(4,VI a),(6,.ptr 80 0),(7,VL 2 stepT l),(8,VI (l.length:Int)),(9,VI (i:Int)),(70,VB ((((l.getD i default)).kind) !=2))],[(80,.box [VI (((l.getD i default)).kind),VI (((l.getD i default)).n)])]) ?_
       refine .back [.r [(0,X (Xn ((i:Int)+1)))]] [] (ih3 (b,a,(i+1)) ?_ ?_)
       ·
        refine⟨by omega,by omega,by omega,by omega,by omega,?_⟩;rw[I3.2.2.2.2.2,chkX];((repeat' split)<;>first|rfl|omega| (simp_all;done)| (simp_all;omega))
       ·
        ((try dsimp only);omega)
 ·
  refine .bp [.r [(4,Xv 1 (!(decide (b>2147483647))) X0),(5,X (Xk' (decide (b>2147483647))))]] (decide (b>2147483647)||decide (a>2147483647)) (fun h16=> ?_) (fun h16=> ?_)
  ·
   have e4:((z1D l):Int)=3:=by
    rw[I3.2.2.2.2.2,chkX];((repeat' split)<;>first|rfl|omega| (simp_all;done)| (simp_all;omega))
   exact .finE [.r []] [] (fun z0:Int=>(VI z0,[])) _ _ e4
  ·
   have e5:((z1D l):Int)=0:=by
    rw[I3.2.2.2.2.2,chkX];((repeat' split)<;>first|rfl|omega| (simp_all;done)| (simp_all;omega))
   exact .finE [.r []] [] (fun z0:Int=>(VI z0,[])) _ _ e5
theorem ex_at{l:List AxStep}{i:Nat}(h:i<l.length):ex (l.drop i)=rep (l.getD i default).n.toNat (uOf (l.getD i default).kind)++ex (l.drop (i+1)):=by rw[z7V h];rfl
def oldI(l:List AxStep):Int:=(oldU (ex l):Int)
def newI(l:List AxStep):Int:=(newU (ex l):Int)
theorem z9m{l:List AxStep}{i:Nat}(h:i<l.length)(hf:Form l):(oldU (ex (l.drop i)):Int)=(if(l.getD i default).kind=1 then 0 else(l.getD i default).n)+oldU (ex (l.drop (i+1)))/\
 (newU (ex (l.drop i)):Int)=(if(l.getD i default).kind=2 then 0 else(l.getD i default).n)+newU (ex (l.drop (i+1)))/\1<=(l.getD i default).n/\0<=(l.getD i default).kind/\(l.getD i default).kind<=2:=by
 have h1:=((z4Y hf) i (qp _) h).1
 have hn:((l.getD i default).n.toNat:Int)=(l.getD i default).n:=Int.toNat_of_nonneg (by have:=h1.2.2;omega)
 rw[ex_at h,y4i,y4j,hn]
 exact⟨rfl,rfl,h1.2.2,h1.1,h1.2.1⟩
theorem y70{l:List AxStep}{i:Nat}(h:l.length<=i):ex (l.drop i)=[]:=by rw[qT h];rfl
theorem z9n(l:List AxStep)(hv:Valid l):FC Tryz.prog 256 [VL 2 stepT l] (app emp []) (.tup [VI (oldI l),VI (newI l)]) (app emp []):=by
 refine .go Tryz.f256 ?_
 refine .len 0 (fun hl0=> ?_)
 refine .loop (α:=Int×Int×Nat) [.r [],.r [],.r [(1,X (Xl stepT l))]] 56 (fun(b,a,i)=>([(4,VI b),(5,VI a),(8,VL 2 stepT l),(9,VI (l.length:Int)),(10,VI (i:Int))],[])) (fun(b,a,i)=>i<=l.length/\0<=b/\0<=a/\oldI l=b+oldU (ex (l.drop i))/\newI l=a+newU (ex (l.drop i))) (fun(b,a,i)=>l.length-i) (0,0,0) ?_ ?_
 ·
  exact⟨by omega,by decide,by decide,by simp[oldI],by simp[newI]⟩
 rintro⟨b,a,i⟩ I3 ih3
 try dsimp only at I3
 have hv1:oldI l<=2147483647:=by have:=hv.2.1;unfold oldI;omega
 have hv2:newI l<=2147483647:=by have:=hv.2.2;unfold newI;omega
 refine .bp [.r []] (decide ((i:Int)< (l.length:Int))) (fun h3=> ?_) (fun h3=> ?_)
 ·
  have hst:=z9m (l:=l) (i:=i) (by omega) hv.1
  refine .bp [.r [(0,X (Xi stepT l (i:Int)))],.r []] ((((l.getD i default)).kind) !=1) (fun h5=> ?_) (fun h5=> ?_)
  ·
   refine .bp [.r [(3,X (Xn (b+(((l.getD i default)).n))))],.r []] ((((l.getD i default)).kind) !=2) (fun h7=> ?_) (fun h7=> ?_)
   ·
    refine .back [.r [(3,X (Xn (a+(((l.getD i default)).n))))],.r [(0,X (Xn ((i:Int)+1)))]] [] (ih3 ((b+(((l.getD i default)).n)),(a+(((l.getD i default)).n)),(i+1)) ?_ ?_)
    ·
     obtain⟨s1,s2,s3,s4,s5⟩:=hst
     first|rw[if_pos (by omega)] at s1|rw[if_neg (by omega)] at s1
     first|rw[if_pos (by omega)] at s2|rw[if_neg (by omega)] at s2
     refine⟨by omega,by omega,by omega,by omega,by omega⟩
    ·
     ((try dsimp only);omega)
   ·
    refine .back [.r [(0,X (Xn ((i:Int)+1)))]] [] (ih3 ((b+(((l.getD i default)).n)),a,(i+1)) ?_ ?_)
    ·
     obtain⟨s1,s2,s3,s4,s5⟩:=hst
     first|rw[if_pos (by omega)] at s1|rw[if_neg (by omega)] at s1
     first|rw[if_pos (by omega)] at s2|rw[if_neg (by omega)] at s2
     refine⟨by omega,by omega,by omega,by omega,by omega⟩
    ·
     ((try dsimp only);omega)
  ·
   refine .bp [.r []] ((((l.getD i default)).kind) !=2) (fun h7=> ?_) (fun h7=> ?_)
   ·
    refine .back [.r [(3,X (Xn (a+(((l.getD i default)).n))))],.r [(0,X (Xn ((i:Int)+1)))]] [] (ih3 (b,(a+(((l.getD i default)).n)),(i+1)) ?_ ?_)
    ·
     obtain⟨s1,s2,s3,s4,s5⟩:=hst
     first|rw[if_pos (by omega)] at s1|rw[if_neg (by omega)] at s1
     first|rw[if_pos (by omega)] at s2|rw[if_neg (by omega)] at s2
     refine⟨by omega,by omega,by omega,by omega,by omega⟩
    ·
     ((try dsimp only);omega)
   ·
    refine .back [.r [(0,X (Xn ((i:Int)+1)))]] [] (ih3 (b,a,(i+1)) ?_ ?_)
    ·
     obtain⟨s1,s2,s3,s4,s5⟩:=hst
     first|rw[if_pos (by omega)] at s1|rw[if_neg (by omega)] at s1
     first|rw[if_pos (by omega)] at s2|rw[if_neg (by omega)] at s2
     refine⟨by omega,by omega,by omega,by omega,by omega⟩
    ·
     ((try dsimp only);omega)
 ·
  have e1:((oldI l):Int)=b:=by
   have:=y70 (l:=l) (i:=i) (by omega)
   rw[this] at I3
   have i1:=I3.2.2.2.1
   have i2:=I3.2.2.2.2
   simp only[oldU,newU] at i1 i2
   omega
  have e2:((newI l):Int)=a:=by
   have:=y70 (l:=l) (i:=i) (by omega)
   rw[this] at I3
   have i1:=I3.2.2.2.1
   have i2:=I3.2.2.2.2
   simp only[oldU,newU] at i1 i2
   omega
  exact .finE [.r []] [] (fun((z0,z1):Int×Int)=>(.tup [VI z0,VI z1],[])) _ _ (pr e1 e2)
theorem z9o(l:List AxStep)(hv:Valid l):FC Tryz.prog 233 [VL 2 stepT l] (app emp []) (.tup [VI (oldI l),VI (newI l),VI 0]) (app emp []):=by
 refine .go Tryz.f233 ?_
 refine .len 0 (fun hl0=> ?_)
 have hc:=z3s.2 hv
 refine .bp [.r [],.r [(1,X (Xc0 (z3K l) X0))],.r []] ((z1D l) !=0) (fun h2=> ?_) (fun h2=> ?_)
 ·
  exfalso
  omega
 ·
  exact .fin [.r [(1,X (Xc0 (z9n l (by assumption)) X0))],.r []] []
end Go.Ch
end
section
namespace Go.Ch
open Go Go.Ab
section
variable {w:Wr} {ps qs:List AxStep} {pu qu:Int} {T:Nat} {G:Wr}
end
section
variable {x y:Wr} {ps qs:List AxStep} {pu qu:Int} {T:Nat} {G1 G2:Wr}
end
end Go.Ch
end
section

end
section
namespace Go.Ch
open Go Go.Ab
def z0A:List AxStep->Int->Int->Int->Int
 | [],_,_,_=> -1
 |s::l,p,fr,tq=>if s.kind=1 then z0A l p fr (tq+s.n) else if s.kind=0 then(if p<fr+s.n then tq+p-fr else z0A l p (fr+s.n) (tq+s.n)) else(if p<fr+s.n then-1 else z0A l p (fr+s.n) tq)
structure Cell where
 row:Int
 col:Int
 text:ByteArray
 ref:Int
 attrs:List Attr
instance:Inhabited Cell:=⟨⟨0,0,{data:=#[]},0,[]⟩⟩
structure Rect where
 row:Int
 col:Int
 h:Int
 w:Int
deriving DecidableEq
instance:Inhabited Rect:=⟨⟨0,0,0,0⟩⟩
structure Grid where
 rows:Int
 cols:Int
 cells:List Cell
 merges:List Rect
instance:Inhabited Grid:=⟨⟨0,0,[],[]⟩⟩
structure GEd where
 rows:List AxStep
 cols:List AxStep
 cells:List Cell
 split:List Rect
 merge:List Rect
instance:Inhabited GEd:=⟨⟨[],[],[],[],[]⟩⟩
def cellT(c:Cell):Tree:= .agg [TI c.row,TI c.col,TS c.text,TI c.ref,.lst 2 (c.attrs.map attrT)]
def rectT(r:Rect):Tree:= .agg [TI r.row,TI r.col,TI r.h,TI r.w]
def gridT(g:Grid):Tree:= .agg [TI g.rows,TI g.cols,.lst 5 (g.cells.map cellT),.lst 4 (g.merges.map rectT)]
def gedT(e:GEd):Tree:= .agg [.lst 2 (e.rows.map stepT),.lst 2 (e.cols.map stepT),.lst 5 (e.cells.map cellT),.lst 4 (e.split.map rectT),.lst 4 (e.merge.map rectT)]
def ordC(a b:Cell):Int:=orL [cmpI a.row b.row,cmpI a.col b.col]
def z2R(c:Cell):Bool:=(seq c.text {data:=#[]}&&c.ref==0)&&(c.attrs.length:Int)==0
def insB(r:Rect)(m n:Int):Bool:=decide (0<=r.row/\0<=r.col/\1<=r.h/\1<=r.w/\r.row<m/\r.col<n/\r.h<=m-r.row/\r.w<=n-r.col)
def meetB(a b:Rect):Bool:=decide (a.row<b.row+b.h/\b.row<a.row+a.h/\a.col<b.col+b.w/\b.col<a.col+a.w)
def befB(a b:Rect):Bool:=decide (a.row<b.row\/(a.row=b.row/\a.col<b.col))
def mvR(a:List AxStep)(p:Int):Int:=if 0<a.length then z0A a p 0 0 else p
def mvC(rows cols:List AxStep)(c:Cell):Option Cell:=
 if 0<rows.length/\mvR rows c.row<0 then none else if 0<cols.length/\mvR cols c.col<0 then none else some {c with row:=mvR rows c.row,col:=mvR cols c.col}
def movL(l:List Cell)(rows cols:List AxStep):List Cell:=l.filterMap (mvC rows cols)
def PIn(a:List AxStep)(p:Int):Prop:=0<a.length->Valid a/\0<=p/\p<oldI a
def CAN(k:Nat)(l:List Cell):Prop:=∀c∈l,c.attrs.length<=k
theorem z9p{l:List Cell}{i:Nat}(h:i<l.length):l.getD i default∈l:=by
 rw[show l.getD i default=l[i] by simp[List.getD,qa h]];exact zx _
theorem z2i{l:List Cell}{rows cols:List AxStep}{i:Nat}(h:i<l.length):movL (l.take (i+1)) rows cols=movL (l.take i) rows cols++(mvC rows cols (l.getD i default)).toList:=by
 unfold movL
 rw[qD h,List.filterMap_append]
 simp only[List.getD,qa h,zE]
 simp only[List.filterMap_cons,List.filterMap_nil]
 cases mvC rows cols l[i]<;>rfl
theorem y15(l:List Cell)(rows cols:List AxStep):(movL l rows cols).length<=l.length:=jb _ _
def putC(c:Cell)(k:List Cell->List Cell):List Cell->List Cell
 | []=>(if z2R c=true then[] else[c])++k []
 |x::l=>if ordC x c<0 then x::putC c k l else if ordC x c=0 then(if z2R c=true then[] else[c])++k l else(if z2R c=true then[] else[c])++k (x::l)
def putL:List Cell->List Cell->List Cell
 | [],l=>l
 |c::ns,l=>putC c (putL ns) l
theorem dropC{l:List Cell}{i:Nat}(h:i<l.length):l.drop i=l.getD i default::l.drop (i+1):=by
 rw[zt h];simp[List.getD,qa h]
theorem z9q{l:List Cell}{i:Nat}(h:l.length<=i):l.drop i=[]:=qT h
theorem y8J{c:Cell}{k:List Cell->List Cell}{l:List Cell}{j:Nat}(h:j<l.length)(h0:ordC (l.getD j default) c<0):putC c k (l.drop j)=l.getD j default::putC c k (l.drop (j+1)):=by
 rw[dropC h,putC,if_pos h0]
theorem z8e{c:Cell}{k:List Cell->List Cell}{l:List Cell}{j:Nat}(h:j<l.length)(h0:ordC (l.getD j default) c=0):putC c k (l.drop j)=(if z2R c=true then[] else[c])++k (l.drop (j+1)):=by
 rw[dropC h,putC,if_neg (by omega),if_pos h0]
theorem z8f{c:Cell}{k:List Cell->List Cell}{l:List Cell}{j:Nat}(h:j<l.length->0<ordC (l.getD j default) c):putC c k (l.drop j)=(if z2R c=true then[] else[c])++k (l.drop j):=by
 by_cases hj:j<l.length
 ·have:=h hj
  rw[dropC hj,putC,if_neg (by omega),if_neg (by omega)]
 ·rw[z9q (by omega),putC]
theorem z0n{α:Type}[Inhabited α]{l:List α}{i:Nat}(h:i<l.length):l.getD i default∈l:=by
 rw[show l.getD i default=l[i] by simp[List.getD,qa h]];exact zx _
theorem z3L{α:Type}[Inhabited α]{l:List α}{i:Nat}(h:i<l.length):l.drop i=l.getD i default::l.drop (i+1):=by
 rw[zt h];simp[List.getD,qa h]
def decR(u:ByteArray):Int:=((Lib.decodeGo u).1:Int)
def decW(u:ByteArray):Nat:=(Lib.decodeGo u).2
theorem z4Z{u:ByteArray}(h:0<u.size):1<=decW u/\decW u<=u.size:=by
 unfold decW Lib.decodeGo
 rw[if_neg (by omega)]
 have hl:u.data.toList.length=u.size:=by rw[Array.length_toList];rfl
 rw[Lib.decode_N]
 have h1:=Lib.decodeN_ge1 (u.data.toList.length-0) (u.data.toList.getD 0 0).toNat (u.data.toList.getD (0+1) 0).toNat (u.data.toList.getD (0+2) 0).toNat (u.data.toList.getD (0+3) 0).toNat
 have h2:=Lib.decodeN_width_le (u.data.toList.length-0) (u.data.toList.getD 0 0).toNat (u.data.toList.getD (0+1) 0).toNat (u.data.toList.getD (0+2) 0).toNat (u.data.toList.getD (0+3) 0).toNat (by omega)
 omega
theorem y4V(u:ByteArray):0<=decR u/\decR u<=1114111:=by
 unfold decR Lib.decodeGo
 split
 ·decide
 ·have:=Lib.rune_le u 0;omega
def badT(u:ByteArray):Prop:=(decR u=65533/\decW u=1)\/decR u=10\/¬CharP (decR u)
instance (u:ByteArray):Decidable (badT u):=by unfold badT CharP;infer_instance
def textG(u:ByteArray):Bool:=if h:0<u.size then(if badT u then false else textG (u.extract (decW u) u.size)) else true
termination_by u.size
decreasing_by
 have:=z4Z h
 rw[zY]
 omega
theorem y4W{u:ByteArray}(h:¬0<u.size):textG u=true:=by rw[textG,dif_neg h]
def tailG(u:ByteArray)(p:Nat):ByteArray:=u.extract p u.size
def cellE(c:Cell)(m n:Int)(none:Bool):Int:=
 if c.row<0\/m<=c.row\/c.col<0\/n<=c.col then 2
 else if c.ref<0\/1073741824<c.ref then 2
 else if textG c.text=false then 23
 else if¬chkA false c.attrs 0=0 then chkA false c.attrs 0
 else if z2R c=true/\none=false then 4 else 0
def z0O(l:List Cell)(m n:Int)(none:Bool)(i:Nat):Int:=
 if i<l.length then
  (if¬cellE (l.getD i default) m n none=0 then cellE (l.getD i default) m n none
   else if 0<i/\0<=ordC (l.getD (i- 1) default) (l.getD i default) then 5 else z0O l m n none (i+1))
 else 0
termination_by l.length-i
def SzC(l:List Cell):Prop:=∀c∈l,c.text.size<=9223372036854775807/\Szd c.attrs
def anyM(l:List Rect)(r:Rect):Bool:=l.any (fun q=>meetB q r)
def mergE(l:List Rect)(m n:Int)(i:Nat):Int:=
 if i<l.length then
  (if insB (l.getD i default) m n=false then 2
   else if(l.getD i default).h=1/\(l.getD i default).w=1 then 4
   else if 0<i/\befB (l.getD (i- 1) default) (l.getD i default)=false then 5
   else if anyM (l.take i) (l.getD i default)=true then 21
   else mergE l m n (i+1))
 else 0
termination_by l.length-i
def gridE(g:Grid):Int:=
 if g.rows<0\/2147483647<g.rows\/g.cols<0\/2147483647<g.cols then 2
 else if¬z0O g.cells g.rows g.cols false 0=0 then z0O g.cells g.rows g.cols false 0
 else mergE g.merges g.rows g.cols 0
def idxF{α:Type}[Inhabited α](p:α->Bool)(l:List α)(i:Nat):Int:=if i<l.length then(if p (l.getD i default)=true then(i:Int) else idxF p l (i+1)) else-1
termination_by l.length-i
theorem y4X{α:Type}[Inhabited α](p:α->Bool){l:List α}:∀(n i:Nat),l.length-i=n->(0<=idxF p l i↔(l.drop i).any p=true)
 |0,i,h=>by rw[idxF,if_neg (by omega),qT (by omega)];simp
 |n+1,i,h=>by
  have hi:i<l.length:=by omega
  rw[idxF,if_pos hi,z3L hi,zL]
  by_cases hp:p (l.getD i default)=true
  ·rw[if_pos hp,hp];simp
  ·rw[if_neg hp,y4X p n (i+1) (by omega)]
   simp only[zZ] at hp
   rw[hp,Bool.false_or]
theorem y16{α:Type}[Inhabited α](p:α->Bool)(l:List α):(0<=idxF p l 0)=((l.any p)=true):=propext (by rw[y4X p _ 0 rfl,zS])
def insQE(l:List Rect)(m n:Int)(i:Nat):Int:=if i<l.length then(if insB (l.getD i default) m n=false then 2 else insQE l m n (i+1)) else 0
termination_by l.length-i
def mgE(l:List Rect)(m n:Int)(i:Nat):Int:=if i<l.length then(if insB (l.getD i default) m n=false then 2 else if(l.getD i default).h=1/\(l.getD i default).w=1 then 4 else mgE l m n (i+1)) else 0
termination_by l.length-i
def celF(l:List Cell)(m n:Int)(i:Nat):Int:=if i<l.length then(if m<=(l.getD i default).row\/n<=(l.getD i default).col then 2 else celF l m n (i+1)) else 0
termination_by l.length-i
theorem z4F{l:List Rect}{m n:Int}:∀(k i:Nat),l.length-i=k->insQE l m n i=0->∀j,i<=j->j<l.length->insB (l.getD j default) m n=true
 |0,i,h,_,j,h1,h2=>by omega
 |k+1,i,h,h0,j,h1,h2=>by
  rw[insQE,if_pos (by omega)] at h0
  split at h0
  ·cases h0
  ·rename_i hb
   by_cases e:i=j
   ·rw[<-e];simpa using hb
   ·exact z4F k (i+1) (by omega) h0 j (by omega) h2
theorem y4Y{l:List Rect}{m n:Int}:∀(k i:Nat),l.length-i=k->mgE l m n i=0->∀j,i<=j->j<l.length->insB (l.getD j default) m n=true/\¬((l.getD j default).h=1/\(l.getD j default).w=1)
 |0,i,h,_,j,h1,h2=>by omega
 |k+1,i,h,h0,j,h1,h2=>by
  rw[mgE,if_pos (by omega)] at h0
  split at h0
  ·cases h0
  ·rename_i hb
   split at h0
   ·cases h0
   ·rename_i hc
    by_cases e:i=j
    ·rw[<-e];exact⟨by simpa using hb,hc⟩
    ·exact y4Y k (i+1) (by omega) h0 j (by omega) h2
theorem y17{l:List Cell}{m n:Int}:∀(k i:Nat),l.length-i=k->celF l m n i=0->∀j,i<=j->j<l.length->(l.getD j default).row<m/\(l.getD j default).col<n
 |0,i,h,_,j,h1,h2=>by omega
 |k+1,i,h,h0,j,h1,h2=>by
  rw[celF,if_pos (by omega)] at h0
  split at h0
  ·cases h0
  ·rename_i hb
   by_cases e:i=j
   ·rw[<-e];omega
   ·exact y17 k (i+1) (by omega) h0 j (by omega) h2
theorem z0R{α:Type}[Inhabited α]{l:List α}{x:α}(h:x∈l):∃j,j<l.length/\l.getD j default=x:=by
 obtain⟨j,hj,e⟩:=zn.1 h
 exact⟨j,hj,by rw[qj,qa hj];exact e⟩
structure EdOk(e:GEd):Prop where
 okr:Valid e.rows
 okc:Valid e.cols
 cells:z0O e.cells 2147483647 2147483647 true 0=0
 split:∀r∈e.split,insB r 2147483647 2147483647=true
 merge:∀r∈e.merge,insB r 2147483647 2147483647=true/\¬(r.h=1/\r.w=1)
def edE(e:GEd):Int:=
 if¬z1D e.rows=0 then z1D e.rows else if¬z1D e.cols=0 then z1D e.cols
 else if¬z0O e.cells 2147483647 2147483647 true 0=0 then z0O e.cells 2147483647 2147483647 true 0
 else if¬insQE e.split 2147483647 2147483647 0=0 then insQE e.split 2147483647 2147483647 0 else mgE e.merge 2147483647 2147483647 0
theorem y4Z{e:GEd}(h:edE e=0):EdOk e:=by
 unfold edE at h
 split at h
 ·omega
 ·split at h
  ·omega
  ·split at h
   ·omega
   ·split at h
    ·omega
    ·refine⟨z3s.1 (by omega),z3s.1 (by omega),by omega,fun r hr=> ?_,fun r hr=> ?_⟩
     ·obtain⟨j,hj,rfl⟩:=z0R hr
      exact z4F _ 0 rfl (by omega) j (by omega) hj
     ·obtain⟨j,hj,rfl⟩:=z0R hr
      exact y4Y _ 0 rfl h j (by omega) hj
def nwS(n:Int)(a:List AxStep):Int:=if 0<a.length then newI a else n
structure FitOk(g:Grid)(e:GEd):Prop where
 rows:0<e.rows.length->oldI e.rows=g.rows
 cols:0<e.cols.length->oldI e.cols=g.cols
 cells:∀c∈e.cells,c.row<nwS g.rows e.rows/\c.col<nwS g.cols e.cols
 split:∀r∈e.split,insB r (nwS g.rows e.rows) (nwS g.cols e.cols)=true
 merge:∀r∈e.merge,insB r (nwS g.rows e.rows) (nwS g.cols e.cols)=true
def fitE(g:Grid)(e:GEd):Int:=
 if 0<e.rows.length/\¬oldI e.rows=g.rows then 14 else if 0<e.cols.length/\¬oldI e.cols=g.cols then 14
 else if¬celF e.cells (nwS g.rows e.rows) (nwS g.cols e.cols) 0=0 then celF e.cells (nwS g.rows e.rows) (nwS g.cols e.cols) 0
 else if¬insQE e.split (nwS g.rows e.rows) (nwS g.cols e.cols) 0=0 then insQE e.split (nwS g.rows e.rows) (nwS g.cols e.cols) 0
 else insQE e.merge (nwS g.rows e.rows) (nwS g.cols e.cols) 0
theorem y8K{g:Grid}{e:GEd}(h:fitE g e=0):FitOk g e:=by
 unfold fitE at h
 split at h
 ·omega
 ·split at h
  ·omega
  ·split at h
   ·omega
   ·split at h
    ·omega
    ·refine⟨fun q=>by omega,fun q=>by omega,fun c hc=> ?_,fun r hr=> ?_,fun r hr=> ?_⟩
     ·obtain⟨j,hj,rfl⟩:=z0R hc
      exact y17 _ 0 rfl (by omega) j (by omega) hj
     ·obtain⟨j,hj,rfl⟩:=z0R hr
      exact z4F _ 0 rfl (by omega) j (by omega) hj
     ·obtain⟨j,hj,rfl⟩:=z0R hr
      exact z4F _ 0 rfl h j (by omega) hj
end Go.Ch
end
section

end
section
namespace Go.Ab
open Go
variable {P:Program} {w:World} {F:Fen P} {S:Store} {m:Place} {n:Nat} {l0:List (Nat×Ob)} {s:St} {Q:Exit->St->Prop}
end Go.Ab
end
section
namespace Go.Ab
open Go
variable {P:Program}
def Xm0(es:List (Int×MV))(n:Int):Px (lookE es n=none):=⟨⟨none,none,none,some ⟨0,[],.junk,[]⟩,[]⟩,[lookE es n=none],fun h=>⟨h,trivial⟩⟩
def Xmu{β:Type}(f:β->Int×MV)(l l':List β)(n:Int)(id:Nat)(v:MV):Px (putE (l.map f) n v=l'.map f):=
 ⟨⟨none,some [(id,.mp (l'.map f) none)],none,none,[]⟩,[[(id,Ob.mp (l'.map f) none)]=[(id,Ob.mp (putE (l.map f) n v) none)]],fun h=>⟨by rw[h],trivial⟩⟩
def Xskip(e:Bool)(v:AVal):Px (e=false):=⟨⟨none,none,none,some ⟨9,[],v,[]⟩,[]⟩,[e=false],fun h=>⟨h,trivial⟩⟩
end Go.Ab
end
section
namespace Go.Ch
open Go Go.Ab
structure DOp where
 clock:Int
 site:Int
 kind:Int
 itm:Int
 prt:Int
 plc:ByteArray
 nm:ByteArray
 vl:ByteArray
 deriving DecidableEq
instance:Inhabited DOp:=⟨⟨0,0,0,0,0,mt,mt,mt⟩⟩
def dopT(o:DOp):Tree:= .agg [TI o.clock,TI o.site,TI o.kind,TI o.itm,TI o.prt,TS o.plc,TS o.nm,TS o.vl]
structure DItem where
 item:Int
 parent:Int
 place:ByteArray
 attrs:List Attr
instance:Inhabited DItem:=⟨⟨0,0,mt,[]⟩⟩
def plS(s:ByteArray)(i:Nat):Bool:=if i<s.size then(if byt s i<97\/122<byt s i then false else plS s (i+1)) else true
termination_by s.size-i
def z3d(s:ByteArray):Bool:=decide (1<=s.size/\s.size<=200/\byt s (s.size- 1)≠97)&&plS s 0
def z5k(a b:DOp):Int:=orL [cmpI a.clock b.clock,cmpI a.site b.site]
def ltO(a b:DOp):Prop:=a.clock<b.clock\/(a.clock=b.clock/\a.site<b.site)
instance (a b:DOp):Decidable (ltO a b):=by unfold ltO;infer_instance
theorem z3w{a b:DOp}:z5k a b<0↔ltO a b:=by
 unfold z5k ltO cmpI
 rw[y8D]
 split<;>split<;>(try split)<;>(try split)<;>omega
theorem z9r{a b:DOp}:0<=z5k a b↔¬ltO a b:=by rw[<-z3w];omega
def opE(o:DOp):Int:=
 if o.kind≠0/\o.kind≠1 then 8
 else if o.clock<1\/1073741824<o.clock\/o.site<0\/1000<o.site\/o.itm<1\/1073741824<o.itm then 2
 else if(o.kind=0/\(seq o.nm mt=false\/seq o.vl mt=false))\/(o.kind=1/\(o.prt≠0\/seq o.plc mt=false)) then 4
 else if o.kind=0/\(o.prt< -1\/1073741824<o.prt) then 2
 else if(o.kind=0/\z3d o.plc=false)\/(o.kind=1/\z1k o.nm=false) then 9
 else if o.kind=1/\seq o.vl mt=false/\valGo o.vl=false then 23
 else 0
def drawE(l:List DOp)(i:Nat):Int:=
 if i<l.length then
  if opE (l.getD i default)≠0 then opE (l.getD i default)
  else if 0<i/\¬ltO (l.getD (i- 1) default) (l.getD i default) then 5
  else drawE l (i+1)
 else 0
termination_by l.length-i
def z0B:List DOp->List DOp->Option (List DOp)
 | [],[]=>some []
 |a::l,[]=>(z0B l []).map (a:: ·)
 | [],b::r=>(z0B [] r).map (b:: ·)
 |a::l,b::r=>
  if ltO a b then(z0B l (b::r)).map (a:: ·)
  else if ltO b a then(z0B (a::l) r).map (b:: ·)
  else if a=b then(z0B l r).map (a:: ·) else none
termination_by a b=>a.length+b.length
theorem y0C{x y:List DOp}(h:0<x.length)(hy:y.length=0\/ltO (x.getD 0 default) (y.getD 0 default)):z0B x y=(z0B (x.drop 1) y).map (x.getD 0 default:: ·):=by
 cases x with
 |nil=>simp at h
 |cons a l=>
  cases y with
  |nil=>simp[z0B]
  |cons b r=>simp only[zH] at hy;rw[z0B,if_pos (by simpa using hy)];rfl
theorem z9s{x y:List DOp}(h:0<y.length)(hx:x.length=0\/ltO (y.getD 0 default) (x.getD 0 default)):z0B x y=(z0B x (y.drop 1)).map (y.getD 0 default:: ·):=by
 cases y with
 |nil=>simp at h
 |cons b r=>
  cases x with
  |nil=>simp[z0B]
  |cons a l=>
   simp only[zH] at hx
   have hx:ltO b a:=by simpa using hx
   rw[z0B,if_neg (by unfold ltO at*;omega),if_pos hx];rfl
theorem y0D{x y:List DOp}(h:0<x.length)(h':0<y.length)(h1:¬ltO (x.getD 0 default) (y.getD 0 default))(h2:¬ltO (y.getD 0 default) (x.getD 0 default)):
 z0B x y=if x.getD 0 default=y.getD 0 default then(z0B (x.drop 1) (y.drop 1)).map (x.getD 0 default:: ·) else none:=by
 cases x with
 |nil=>simp at h
 |cons a l=>
  cases y with
  |nil=>simp at h'
  |cons b r=>simp only[zH] at h1 h2;rw[z0B,if_neg h1,if_neg h2];rfl
theorem y8L{a b:DOp}(h1:a.clock=b.clock)(h2:a.site=b.site)(h3:a.kind=b.kind)(h4:a.itm=b.itm)(h5:a.prt=b.prt)(h6:a.plc=b.plc)(h7:a.nm=b.nm)(h8:a.vl=b.vl):a=b:=by
 cases a;cases b;simp_all
end Go.Ch
end
