/- References to cells, as far as the formula of an empty text needs them. -/
import Derived.Test.YtipofpnmgbaopaaGreatDoorM8
import Derived.Laws.Cover1
import Derived.WalkMore
import Derived.Handy
import Derived.StillTailTactics
import Derived.Shelf.RegionOpenPlain
import Derived.Shelf.Spec.SlicesInsertGrow
import Derived.Shelf.SlSortCmp.WholeK
set_option linter.unusedVariables false
set_option linter.unusedSimpArgs false
section
namespace Go.Ch
open Go Go.Ab
structure Ref where
 bu:ByteArray
 af:Int
 aF:Int
 aV:Int
 dI:Int
 dZ:Int
 f1:Bool
 f2:Bool
 f3:Bool
 f4:Bool
instance:Inhabited Ref:=⟨⟨{data:=#[]},0,0,0,0,0,false,false,false,false⟩⟩
def nE(r:Ref):Tree:= .agg [TS r.bu,TI r.af,TI r.aF,TI r.aV,TI r.dI,TI r.dZ,Ab.TB r.f1,Ab.TB r.f2,Ab.TB r.f3,Ab.TB r.f4]
structure HS where
 old:Int
 now:Int
 first:Int
 last:Int
 found:Bool
def gT(S:HS)(n:Int):HS:=if max 0 S.old<=min 0 (S.old+n- 1) then⟨S.old,S.now,if S.found=true then S.first else S.now+max 0 S.old-S.old,S.now+min 0 (S.old+n- 1)- S.old,true⟩ else S
def bH(S:HS)(s:aA):HS:=
 ⟨if s.af=1 then S.old else S.old+s.n,if s.af=2 then S.now else S.now+s.n,if s.af=0 then(gT S s.n).first else S.first,if s.af=0 then(gT S s.n).last else S.last,if s.af=0 then(gT S s.n).found else S.found⟩
def iY(l:List aA):HS:=l.foldl bH ⟨0,0,0,0,false⟩
def dG(l:List aA):HS:=gT (iY l) 1073741824
theorem z22{l:List aA}{i:Nat}(h:i<l.length):iY (l.take (i+1))=bH (iY (l.take i)) (l.getD i default):=by
 unfold iY;rw[Ri h,List.foldl_append];rfl
theorem x6l{S:HS}{n m:Int}(h0:0<=S.old/\0<=S.now/\S.now<=m)(h:0<=S.first/\S.first<=m/\0<=S.last/\S.last<=m):0<=(gT S n).first/\(gT S n).first<=m/\0<=(gT S n).last/\(gT S n).last<=m:=by
 unfold gT;split
 ·simp only;split<;>omega
 exact h
theorem x6m{l:List aA}(hf:jk l):∀(i:Nat),i<=l.length->(iY (l.take i)).old=cS (ex (l.take i))/\(iY (l.take i)).now=eV (ex (l.take i))/\0<=(iY (l.take i)).first/\(iY (l.take i)).first<=eV (ex (l.take i))/\0<=(iY (l.take i)).last/\(iY (l.take i)).last<=eV (ex (l.take i))
 |0,_=>by simp[iY,ex,cS,eV]
 |i+1,h=>by
  obtain⟨a,b,c,d,e,f⟩:=x6m hf i oM;have ok:=((D8 hf) i (qG _) oM).1;have hn:=ok.2.2;have hk:=x6l (S:=iY (l.take i)) (n:=(l.getD i default).n) (m:=eV (ex (l.take i))) ⟨oM,oM,oM⟩ ⟨c,d,e,f⟩;rw[z22 oM,Ri oM,x7,Z1,Z2,show ex [l.getD i default]=rep (l.getD i default).n.toNat (j5 (l.getD i default).af)++[] by simp[ex]];have o1:=D7 (l.getD i default).n.toNat (l.getD i default).af [];have o2:=LA (l.getD i default).n.toNat (l.getD i default).af [];simp only[cS,eV] at o1 o2;unfold bH;simp only;refine⟨?_,?_,?_⟩
  ·by_cases q:(l.getD i default).af=1
   ·rw[if_pos q] at o1|-;omega
   rw[if_neg q] at o1|-;omega
  ·by_cases q:(l.getD i default).af=2
   ·rw[if_pos q] at o2|-;omega
   rw[if_neg q] at o2|-;omega
  have:(0:Int)<=eV (rep (l.getD i default).n.toNat (j5 (l.getD i default).af)++[]):=oM;split<;>omega
theorem SV{l:List aA}(hv:eR l){i:Nat}(h:i<=l.length):(0<=(iY (l.take i)).old/\(iY (l.take i)).old<=2147483647)/\(0<=(iY (l.take i)).now/\(iY (l.take i)).now<=2147483647)/\(0<=(iY (l.take i)).first/\(iY (l.take i)).first<=2147483647)/\(0<=(iY (l.take i)).last/\(iY (l.take i)).last<=2147483647):=by
 obtain⟨a,b,c,d,e,f⟩:=x6m hv.1 i h;have e1:ex l=ex (l.take i)++ex (l.drop i):=by rw[<-x7,zW]
 have h1:=hv.2.1;have h2:=hv.2.2;rw[e1,Z1] at h1;rw[e1,Z2] at h2;omega
theorem x6n{l:List aA}(hv:eR l):(0<=(dG l).first/\(dG l).first<=2147483647)/\(0<=(dG l).last/\(dG l).last<=2147483647):=by
 have h:=SV hv (qp l.length);rw[List.take_length] at h;have:=x6l (S:=iY l) (n:=1073741824) (m:=2147483647) ⟨oM,oM,oM⟩ ⟨oM,oM,oM,oM⟩;unfold dG;omega
def SX:Ref:=⟨{data:=#[]},4,0,0,0,0,false,false,false,false⟩
def w2o:Ref:=⟨{data:=#[]},0,0,0,0,0,false,false,false,false⟩
def vI(r:Ref):Ref:=if¬r.aF<1073741824\/¬r.aV<1073741824 then SX else⟨r.bu,r.af,r.aF,r.aV,0,0,r.f1,r.f2,false,false⟩
def lC(ak aj:List aA):Ref:=
 if(dG ak).found=false then SX else if(dG aj).found=false then SX
 else vI ⟨{data:=#[]},0,(dG ak).first,(dG aj).first,(dG ak).last,(dG aj).last,false,false,false,false⟩
structure Gu where
 af:Int
 text:ByteArray
instance:Inhabited Gu:=⟨⟨0,{data:=#[]}⟩⟩
def scT(r:Gu):Tree:= .agg [TI r.af,TS r.text]
theorem x49{l:List Cell}{i:Nat}:l.set i (l.getD i default)=l:=by
 apply List.ext_getElem?;intro j;rw[zz];split
 ·rename_i e;subst e;split
  ·rename_i h;rw[qd,qa h];rfl
  rename_i h;rw[zP oM]
 rfl
end Go.Ch
end
section
set_option maxRecDepth 100000
set_option maxHeartbeats 4000000
open Go Go.Proofs Go.Ab
namespace Go.Ch
theorem x2O(s:ByteArray)(hs:s.size=0):FC Tryz.prog 258 [VS s] (app emp []) (VI 0) (app emp []):=by
 refine .go Tryz.f258 ?_;refine .bp [.r [],.r []] (decide ((s.size:Int)> 200)) (fun h1=> ?_) (fun h1=> ?_)
 ·exfalso;omega
 refine .loop (α:=Nat) [.r []] 56 (fun i=>([(0,VS s),(8,VI (s.size:Int)),(9,VI (i:Int))],[])) (fun i=>i=0) (fun i=>0) (0:Nat) ?_ ?_
 ·rfl
 rintro i I4 kJ;try dsimp only at I4
 refine .bp [.r []] (decide ((i:Int)< (s.size:Int))) (fun h4=> ?_) (fun h4=> ?_)
 ·exfalso;omega
 exact .fin [.r []] []
theorem y1G(r:Ref)(hk:r.af=0):FC Tryz.prog 259 [.t (nE r)] (app emp []) (.t (nE (⟨r.bu,r.af,r.aF,r.aV,0,0,r.f1,r.f2,false,false⟩:Ref))) (app emp []):=by
 refine .go Tryz.f259 ?_;refine .bp [.r [],.r [],.r []] (r.af==0) (fun h2=> ?_) (fun h2=> ?_)
 ·have e1:((⟨r.bu,r.af,r.aF,r.aV,0,0,r.f1,r.f2,false,false⟩:Ref):Ref)=({bu:=r.bu,af:=r.af,aF:=r.aF,aV:=r.aV,dI:=0,dZ:=0,f1:=r.f1,f2:=r.f2,f3:=false,f4:=false}:Ref):=by
   rfl
  exact .bA [.r [],.r []] [] [] (fun z0:Ref=>(.t (nE z0),[])) _ _ e1
 exfalso;omega
theorem Db(n:Int):FC Tryz.prog 260 [VI n] (app emp []) (VB (decide (0<=n/\n<1073741824))) (app emp []):=by
 refine .go Tryz.f260 ?_;have e1:((decide (0<=n/\n<1073741824)):Bool)=(decide (n>=0)&&decide (n<1073741824)):=by
  rw[zp];simp;try omega
 exact .aG [.r [],.r [(4,Xv 1 (decide (n>=0)) X0),(5,X (Xk (decide (n>=0))))]] [] (fun z0:Bool=>(VB z0,[])) _ _ e1
theorem y9x(r:Ref)(hr:r=w2o):FC Tryz.prog 221 [.t (nE r)] (app emp []) (VI 0) (app emp []):=by
 refine .go Tryz.f221 ?_;have k0:r.af=0:=by rw[hr];rfl
 have k1:r.bu.size=0:=by rw[hr];rfl
 have k2:r.aF=0/\r.aV=0/\r.dI=0/\r.dZ=0:=by rw[hr];exact⟨rfl,rfl,rfl,rfl⟩
 have k3:r.f1=false/\r.f2=false/\r.f3=false/\r.f4=false:=by rw[hr];exact⟨rfl,rfl,rfl,rfl⟩
 refine .bp (let a:=decide (r.af<0);[.r [],.r [(5,Xv 1 (!a) X0),(6,Xv 1 (!a) X0),(7,X (b7 a))]]) (decide (r.af<0)||decide (r.af>4)) (fun h1=> ?_) (fun h1=> ?_)
 ·exfalso;omega
 refine .bp [.r [(2,X (aW (x2O r.bu oM) X0))],.r [],.f,.r [(2,X (aW (y1G r (by first|assumption|rfl)) X0))]] (!(seq r.bu (((⟨(r).bu,(r).af,(r).aF,(r).aV,0,0,(r).f1,(r).f2,false,false⟩:Ref)).bu)&&(r.af==(((⟨(r).bu,(r).af,(r).aF,(r).aV,0,0,(r).f1,(r).f2,false,false⟩:Ref)).af)&&(r.aF==(((⟨(r).bu,(r).af,(r).aF,(r).aV,0,0,(r).f1,(r).f2,false,false⟩:Ref)).aF)&&(r.aV==(((⟨(r).bu,(r).af,(r).aF,(r).aV,0,0,(r).f1,(r).f2,false,false⟩:Ref)).aV)&&(r.dI==(((⟨(r).bu,(r).af,(r).aF,(r).aV,0,0,(r).f1,(r).f2,false,false⟩:Ref)).dI)&&(r.dZ==(((⟨(r).bu,(r).af,(r).aF,(r).aV,0,0,(r).f1,(r).f2,false,false⟩:Ref)).dZ)&&(r.f1==(((⟨(r).bu,(r).af,(r).aF,(r).aV,0,0,(r).f1,(r).f2,false,false⟩:Ref)).f1)&&(r.f2==(((⟨(r).bu,(r).af,(r).aF,(r).aV,0,0,(r).f1,(r).f2,false,false⟩:Ref)).f2)&&(r.f3==(((⟨(r).bu,(r).af,(r).aF,(r).aV,0,0,(r).f1,(r).f2,false,false⟩:Ref)).f3)&&(r.f4==(((⟨(r).bu,(r).af,(r).aF,(r).aV,0,0,(r).f1,(r).f2,false,false⟩:Ref)).f4)&&true))))))))))) (fun h6=> ?_) (fun h6=> ?_)
 ·exfalso;subst hr;exact absurd h6 (by decide+kernel)
 refine .bp (let a:=!(decide (0<=r.aF/\r.aF<1073741824))|| !(decide (0<=r.aV/\r.aV<1073741824));let b:=a|| !(decide (0<=r.dI/\r.dI<1073741824));let c:=!(decide (0<=r.aF/\r.aF<1073741824));[.r [(2,X (aW (Db r.aF) X0)),(6,Xv 1 (!c) X0),(7,Xv 1 (!c) (aW (Db r.aV) X0)),(8,Xv 1 (!c) X0),(9,X (b7 c)),(12,Xv 1 (!a) X0),(13,Xv 1 (!a) (aW (Db r.dI) X0)),(14,Xv 1 (!a) X0),(15,X (b7 a)),(18,Xv 1 (!b) X0),(19,Xv 1 (!b) (aW (Db r.dZ) X0)),(20,Xv 1 (!b) X0),(21,X (b7 b))]]) (((!(decide (0<=r.aF/\r.aF<1073741824))|| !(decide (0<=r.aV/\r.aV<1073741824)))|| !(decide (0<=r.dI/\r.dI<1073741824)))|| !(decide (0<=r.dZ/\r.dZ<1073741824))) (fun h8=> ?_) (fun h8=> ?_)
 ·exfalso;subst hr;exact absurd h8 (by decide+kernel)
 refine .bp (let a:=r.af !=0;let b:=decide (r.dI<r.aF);[.r [(5,Xv 1 a X0),(7,Xv 1 a X0),(8,Xv 2 a X0),(9,Xv 1 a X0),(11,Xv 1 (a&& !b) X0),(13,Xv 1 (a&& !b) X0),(14,Xv 2 (a&& !b) X0),(15,x5 a b),(16,X (Xk a))]]) ((r.af !=0)&&(decide (r.dI<r.aF)||decide (r.dZ<r.aV))) (fun eE=> ?_) (fun eE=> ?_)
 ·exfalso;omega
 exact .fin [.r []] []
theorem y8p(n o w f g p q:Int)(b:Bool)(hp:p=0)(hq:q=0)(hb:0<=o/\o<=2147483647/\0<=w/\w<=2147483647/\0<=n/\n<=2147483647):FC Tryz.prog 271 [VI n,.ptr 0 0,.ptr 1 0,.ptr 2 0,.ptr 3 0,.ptr 4 0,.ptr 5 0,.ptr 6 0] (app emp [(0,.box [VI p]),(1,.box [VI o]),(2,.box [VI q]),(3,.box [VB b]),(4,.box [VI w]),(5,.box [VI f]),(6,.box [VI g])]) (.aZ []) (app emp [(0,.box [VI p]),(1,.box [VI o]),(2,.box [VI q]),(3,.box [VB ((gT (⟨o,w,f,g,b⟩:HS) n).found)]),(4,.box [VI w]),(5,.box [VI ((gT (⟨o,w,f,g,b⟩:HS) n).first)]),(6,.box [VI ((gT (⟨o,w,f,g,b⟩:HS) n).last)])]):=by
 refine .go Tryz.f271 ?_;refine .bp [.r [(2,X (Li p o)),(6,X (Xn (o+n))),(7,X (Xn ((o+n)- 1))),(8,X (vq q ((o+n)- 1)))],.r []] (decide ((max p o)<=(min q ((o+n)- 1)))) (fun h1=> ?_) (fun h1=> ?_)
 ·refine .bp [.r []] (!b) (fun h2=> ?_) (fun h2=> ?_)
  ·have e1:((gT (⟨o,w,f,g,b⟩:HS) n).found:Bool)=true:=by
    unfold gT;simp only[hp,hq] at*;(first|rw[if_pos oM]|rw[if_neg oM])<;>(first|rfl|omega| (simp only[*];done)| (simp only[*];rfl)|simp_all)
   have e2:((gT (⟨o,w,f,g,b⟩:HS) n).first:Int)=((w+(max p o))- o):=by
    unfold gT;simp only[hp,hq] at*;(first|rw[if_pos oM]|rw[if_neg oM])<;>(first|rfl|omega| (simp only[*];done)| (simp only[*];rfl)|simp_all)
   have e3:((gT (⟨o,w,f,g,b⟩:HS) n).last:Int)=((w+(min q ((o+n)- 1)))- o):=by
    unfold gT;simp only[hp,hq] at*;(first|rw[if_pos oM]|rw[if_neg oM])<;>(first|rfl|omega| (simp only[*];done)| (simp only[*];rfl)|simp_all)
   exact .aG (let a:=w+(min q ((o+n)- 1));[.r [(2,X (Xn (w+(max p o)))),(4,X (Xn ((w+(max p o))- o)))],.r [(2,X (Xn a)),(4,X (Xn (a- o)))]]) [(0,0),(1,1),(2,2),(3,3),(4,4),(5,5),(6,6)] (fun((z0,z1,z2):Bool×Int×Int)=>(.aZ [],[(0,.box [VI p]),(1,.box [VI o]),(2,.box [VI q]),(3,.box [VB z0]),(4,.box [VI w]),(5,.box [VI z1]),(6,.box [VI z2])])) _ _ (pr e1 (pr e2 e3))
  have e4:((gT (⟨o,w,f,g,b⟩:HS) n).found:Bool)=b:=by
   unfold gT;simp only[hp,hq] at*;(first|rw[if_pos oM]|rw[if_neg oM])<;>(first|rfl|omega| (simp only[*];done)| (simp only[*];rfl)|simp_all)
  have e5:((gT (⟨o,w,f,g,b⟩:HS) n).first:Int)=f:=by
   unfold gT;simp only[hp,hq] at*;(first|rw[if_pos oM]|rw[if_neg oM])<;>(first|rfl|omega| (simp only[*];done)| (simp only[*];rfl)|simp_all)
  have e6:((gT (⟨o,w,f,g,b⟩:HS) n).last:Int)=((w+(min q ((o+n)- 1)))- o):=by
   unfold gT;simp only[hp,hq] at*;(first|rw[if_pos oM]|rw[if_neg oM])<;>(first|rfl|omega| (simp only[*];done)| (simp only[*];rfl)|simp_all)
  exact .aG (let a:=w+(min q ((o+n)- 1));[.r [(2,X (Xn a)),(4,X (Xn (a- o)))]]) [(0,0),(1,1),(2,2),(3,3),(4,4),(5,5),(6,6)] (fun((z0,z1,z2):Bool×Int×Int)=>(.aZ [],[(0,.box [VI p]),(1,.box [VI o]),(2,.box [VI q]),(3,.box [VB z0]),(4,.box [VI w]),(5,.box [VI z1]),(6,.box [VI z2])])) _ _ (pr e4 (pr e5 e6))
 have e7:((gT (⟨o,w,f,g,b⟩:HS) n).found:Bool)=b:=by
  unfold gT;simp only[hp,hq] at*;(first|rw[if_pos oM]|rw[if_neg oM])<;>(first|rfl|omega| (simp only[*];done)| (simp only[*];rfl)|simp_all)
 have e8:((gT (⟨o,w,f,g,b⟩:HS) n).first:Int)=f:=by
  unfold gT;simp only[hp,hq] at*;(first|rw[if_pos oM]|rw[if_neg oM])<;>(first|rfl|omega| (simp only[*];done)| (simp only[*];rfl)|simp_all)
 have e9:((gT (⟨o,w,f,g,b⟩:HS) n).last:Int)=g:=by
  unfold gT;simp only[hp,hq] at*;(first|rw[if_pos oM]|rw[if_neg oM])<;>(first|rfl|omega| (simp only[*];done)| (simp only[*];rfl)|simp_all)
 exact .aG [] [(0,0),(1,1),(2,2),(3,3),(4,4),(5,5),(6,6)] (fun((z0,z1,z2):Bool×Int×Int)=>(.aZ [],[(0,.box [VI p]),(1,.box [VI o]),(2,.box [VI q]),(3,.box [VB z0]),(4,.box [VI w]),(5,.box [VI z1]),(6,.box [VI z2])])) _ _ (pr e7 (pr e8 e9))
theorem Gv(l:List aA)(x y:Int)(hx:x=0)(hy:y=0)(hv:eR l):FC Tryz.prog 239 [VL 2 bk l,VI x,VI y] (app emp []) (.aZ [VI ((dG l).first),VI ((dG l).last),VB ((dG l).found)]) (app emp []):=by
 refine .go Tryz.f239 ?_;refine .len 0 (fun dQ=> ?_);refine .loop (α:=Nat×Int×Int×Bool×Int×Int) [.r [],.r [],.r [],.r [],.r [(1,X (Xl bk l))]] 160 (fun(i,f,g,b,o,w)=>([(9,.ptr 40 0),(10,.ptr 48 0),(11,.ptr 56 0),(12,.ptr 88 0),(13,.ptr 96 0),(14,.fn 271 [.ptr 0 0,.ptr 88 0,.ptr 8 0,.ptr 56 0,.ptr 96 0,.ptr 40 0,.ptr 48 0]),(18,VL 2 bk l),(19,VI (l.length:Int)),(20,VI (i:Int))],[(0,.box [VI x]),(8,.box [VI y]),(40,.box [VI f]),(48,.box [VI g]),(56,.box [VB b]),(88,.box [VI o]),(96,.box [VI w])])) (fun(i,f,g,b,o,w)=>i<=l.length/\(⟨o,w,f,g,b⟩:HS)=iY (l.take i)) (fun(i,f,g,b,o,w)=>l.length-i) (0,0,0,false,0,0) ?_ ?_
 ·exact⟨oM,rfl⟩
 rintro⟨i,f,g,b,o,w⟩ I5 mR;try dsimp only at I5
 have B:=SV hv I5.1;rw[<-I5.2] at B;simp only at B;refine .bp [.r []] (decide ((i:Int)< (l.length:Int))) (fun h5=> ?_) (fun h5=> ?_)
 ·have hs:=(((D8 hv.1) i (qG _) oM).1).2.2;have B2:=SV hv (show i+1<=l.length by omega);rw[z22 oM,<-I5.2] at B2;have B3:(l.getD i default).af≠1->o+(l.getD i default).n<=2147483647:=fun z=>by(have z2:=B2.1.2;unfold bH at z2;rwa [if_neg z] at z2)
  have B4:(l.getD i default).af≠2->w+(l.getD i default).n<=2147483647:=fun z=>by(have z2:=B2.2.1.2;unfold bH at z2;rwa [if_neg z] at z2)
  clear B2;refine .bp [.r [(0,X (Xi bk l (i:Int)))],.r []] ((((l.getD i default)).af)==0) (fun h7=> ?_) (fun h7=> ?_)
  ·refine .bp [.r [(3,X (dV 248 [(0,0),(1,88),(2,8),(3,56),(4,96),(5,40),(6,48)] (y8p (((l.getD i default)).n) o w f g x y b aM aM oM) X0))],.r []] ((((l.getD i default)).af) !=2) (fun h9=> ?_) (fun h9=> ?_)
   ·refine .bp [.r [(3,X (Xn (w+(((l.getD i default)).n))))],.r []] ((((l.getD i default)).af) !=1) (fun gO=> ?_) (fun gO=> ?_)
    ·refine .back [.r [(3,X (Xn (o+(((l.getD i default)).n))))],.r [(0,X (Xn ((i:Int)+1)))]] [(0,0),(8,8),(40,40),(48,48),(56,56),(88,88),(96,96)] (mR ((i+1),(gT (⟨o,w,f,g,b⟩:HS) (((l.getD i default)).n)).first,(gT (⟨o,w,f,g,b⟩:HS) (((l.getD i default)).n)).last,(gT (⟨o,w,f,g,b⟩:HS) (((l.getD i default)).n)).found,(o+(((l.getD i default)).n)),(w+(((l.getD i default)).n))) ?_ ?_)
     ·refine⟨oM,?_⟩;rw[z22 oM,<-I5.2];unfold bH;clear mR;simp only
      (first|rfl| (congr 1<;>(repeat' split)<;>first|rfl|omega|simp_all))
     exact tO
    refine .back [.r [(0,X (Xn ((i:Int)+1)))]] [(0,0),(8,8),(40,40),(48,48),(56,56),(88,88),(96,96)] (mR ((i+1),(gT (⟨o,w,f,g,b⟩:HS) (((l.getD i default)).n)).first,(gT (⟨o,w,f,g,b⟩:HS) (((l.getD i default)).n)).last,(gT (⟨o,w,f,g,b⟩:HS) (((l.getD i default)).n)).found,o,(w+(((l.getD i default)).n))) ?_ ?_)
    ·refine⟨oM,?_⟩;rw[z22 oM,<-I5.2];unfold bH;clear mR;simp only
     (first|rfl| (congr 1<;>(repeat' split)<;>first|rfl|omega|simp_all))
    exact tO
   refine .bp [.r []] ((((l.getD i default)).af) !=1) (fun gO=> ?_) (fun gO=> ?_)
   ·refine .back [.r [(3,X (Xn (o+(((l.getD i default)).n))))],.r [(0,X (Xn ((i:Int)+1)))]] [(0,0),(8,8),(40,40),(48,48),(56,56),(88,88),(96,96)] (mR ((i+1),(gT (⟨o,w,f,g,b⟩:HS) (((l.getD i default)).n)).first,(gT (⟨o,w,f,g,b⟩:HS) (((l.getD i default)).n)).last,(gT (⟨o,w,f,g,b⟩:HS) (((l.getD i default)).n)).found,(o+(((l.getD i default)).n)),w) ?_ ?_)
    ·refine⟨oM,?_⟩;rw[z22 oM,<-I5.2];unfold bH;clear mR;simp only
     (first|rfl| (congr 1<;>(repeat' split)<;>first|rfl|omega|simp_all))
    exact tO
   refine .back [.r [(0,X (Xn ((i:Int)+1)))]] [(0,0),(8,8),(40,40),(48,48),(56,56),(88,88),(96,96)] (mR ((i+1),(gT (⟨o,w,f,g,b⟩:HS) (((l.getD i default)).n)).first,(gT (⟨o,w,f,g,b⟩:HS) (((l.getD i default)).n)).last,(gT (⟨o,w,f,g,b⟩:HS) (((l.getD i default)).n)).found,o,w) ?_ ?_)
   ·refine⟨oM,?_⟩;rw[z22 oM,<-I5.2];unfold bH;clear mR;simp only
    (first|rfl| (congr 1<;>(repeat' split)<;>first|rfl|omega|simp_all))
   exact tO
  refine .bp [.r []] ((((l.getD i default)).af) !=2) (fun h9=> ?_) (fun h9=> ?_)
  ·refine .bp [.r [(3,X (Xn (w+(((l.getD i default)).n))))],.r []] ((((l.getD i default)).af) !=1) (fun gO=> ?_) (fun gO=> ?_)
   ·refine .back [.r [(3,X (Xn (o+(((l.getD i default)).n))))],.r [(0,X (Xn ((i:Int)+1)))]] [(0,0),(8,8),(40,40),(48,48),(56,56),(88,88),(96,96)] (mR ((i+1),f,g,b,(o+(((l.getD i default)).n)),(w+(((l.getD i default)).n))) ?_ ?_)
    ·refine⟨oM,?_⟩;rw[z22 oM,<-I5.2];unfold bH;clear mR;simp only
     (first|rfl| (congr 1<;>(repeat' split)<;>first|rfl|omega|simp_all))
    exact tO
   refine .back [.r [(0,X (Xn ((i:Int)+1)))]] [(0,0),(8,8),(40,40),(48,48),(56,56),(88,88),(96,96)] (mR ((i+1),f,g,b,o,(w+(((l.getD i default)).n))) ?_ ?_)
   ·refine⟨oM,?_⟩;rw[z22 oM,<-I5.2];unfold bH;clear mR;simp only
    (first|rfl| (congr 1<;>(repeat' split)<;>first|rfl|omega|simp_all))
   exact tO
  refine .bp [.r []] ((((l.getD i default)).af) !=1) (fun gO=> ?_) (fun gO=> ?_)
  ·refine .back [.r [(3,X (Xn (o+(((l.getD i default)).n))))],.r [(0,X (Xn ((i:Int)+1)))]] [(0,0),(8,8),(40,40),(48,48),(56,56),(88,88),(96,96)] (mR ((i+1),f,g,b,(o+(((l.getD i default)).n)),w) ?_ ?_)
   ·refine⟨oM,?_⟩;rw[z22 oM,<-I5.2];unfold bH;clear mR;simp only
    (first|rfl| (congr 1<;>(repeat' split)<;>first|rfl|omega|simp_all))
   exact tO
  refine .back [.r [(0,X (Xn ((i:Int)+1)))]] [(0,0),(8,8),(40,40),(48,48),(56,56),(88,88),(96,96)] (mR ((i+1),f,g,b,o,w) ?_ ?_)
  ·refine⟨oM,?_⟩;rw[z22 oM,<-I5.2];unfold bH;clear mR;simp only
   (first|rfl| (congr 1<;>(repeat' split)<;>first|rfl|omega|simp_all))
  exact tO
 have hE:iY l=(⟨o,w,f,g,b⟩:HS):=by rw[I5.2,qk oM]
 have e1:((dG l).first:Int)=(gT (⟨o,w,f,g,b⟩:HS) 1073741824).first:=by
  unfold dG;rw[hE]
 have e2:((dG l).last:Int)=(gT (⟨o,w,f,g,b⟩:HS) 1073741824).last:=by
  unfold dG;rw[hE]
 have e3:((dG l).found:Bool)=(gT (⟨o,w,f,g,b⟩:HS) 1073741824).found:=by
  unfold dG;rw[hE]
 exact .aG [.r [(1,X (dV 176 [(0,0),(1,88),(2,8),(3,56),(4,96),(5,40),(6,48)] (y8p 1073741824 o w f g x y b aM aM oM) X0))],.r []] [] (fun((z0,z1,z2):Int×Int×Bool)=>(.aZ [VI z0,VI z1,VB z2],[])) _ _ (pr e1 (pr e2 e3))
theorem Dc(r:Ref)(hk:r.af=0)(hb:0<=r.aF/\0<=r.aV):FC Tryz.prog 240 [.t (nE r)] (app emp []) (.t (nE (vI r))) (app emp []):=by
 refine .go Tryz.f240 ?_;refine .bp (let a:=((⟨(r).bu,(r).af,(r).aF,(r).aV,0,0,(r).f1,(r).f2,false,false⟩:Ref));let b:=!(decide (0<=(a.aF)/\(a.aF)< 1073741824))|| !(decide (0<=(a.aV)/\(a.aV)< 1073741824));let c:=b|| !(decide (0<=(a.dI)/\(a.dI)< 1073741824));let d:=!(decide (0<=(a.aF)/\(a.aF)< 1073741824));[.r [],.r [(1,X (aW (y1G r (by first|assumption|rfl)) X0))],.r [(2,X (aW (Db (a.aF)) X0)),(6,Xv 1 (!d) X0),(7,Xv 1 (!d) (aW (Db (a.aV)) X0)),(8,Xv 1 (!d) X0),(9,X (b7 d)),(12,Xv 1 (!b) X0),(13,Xv 1 (!b) (aW (Db (a.dI)) X0)),(14,Xv 1 (!b) X0),(15,X (b7 b)),(18,Xv 1 (!c) X0),(19,Xv 1 (!c) (aW (Db (a.dZ)) X0)),(20,Xv 1 (!c) X0),(21,X (b7 c))]]) (((!(decide (0<=(((⟨(r).bu,(r).af,(r).aF,(r).aV,0,0,(r).f1,(r).f2,false,false⟩:Ref)).aF)/\(((⟨(r).bu,(r).af,(r).aF,(r).aV,0,0,(r).f1,(r).f2,false,false⟩:Ref)).aF)< 1073741824))|| !(decide (0<=(((⟨(r).bu,(r).af,(r).aF,(r).aV,0,0,(r).f1,(r).f2,false,false⟩:Ref)).aV)/\(((⟨(r).bu,(r).af,(r).aF,(r).aV,0,0,(r).f1,(r).f2,false,false⟩:Ref)).aV)< 1073741824)))|| !(decide (0<=(((⟨(r).bu,(r).af,(r).aF,(r).aV,0,0,(r).f1,(r).f2,false,false⟩:Ref)).dI)/\(((⟨(r).bu,(r).af,(r).aF,(r).aV,0,0,(r).f1,(r).f2,false,false⟩:Ref)).dI)< 1073741824)))|| !(decide (0<=(((⟨(r).bu,(r).af,(r).aF,(r).aV,0,0,(r).f1,(r).f2,false,false⟩:Ref)).dZ)/\(((⟨(r).bu,(r).af,(r).aF,(r).aV,0,0,(r).f1,(r).f2,false,false⟩:Ref)).dZ)< 1073741824))) (fun h2=> ?_) (fun h2=> ?_)
 ·simp only at h2;have e1:((vI r):Ref)=({bu:={data:=#[]},af:=4,aF:=0,aV:=0,dI:=0,dZ:=0,f1:=false,f2:=false,f3:=false,f4:=false}:Ref):=by
   unfold vI;(first|rw[if_pos oM]|rw[if_neg oM])
   (first|rfl|skip)
  exact .bA [.r []] [] [] (fun z0:Ref=>(.t (nE z0),[])) _ _ e1
 simp only at h2;have e2:((vI r):Ref)=((⟨(r).bu,(r).af,(r).aF,(r).aV,0,0,(r).f1,(r).f2,false,false⟩:Ref)):=by
  unfold vI;(first|rw[if_pos oM]|rw[if_neg oM])
  (first|rfl|skip)
 exact .bA [.r []] [] [] (fun z0:Ref=>(.t (nE z0),[])) _ _ e2
theorem y8q(o:List aA)(a c:Int)(ho:o.length<=1000000000000):FC Tryz.prog 270 [.ptr 0 0] (app emp [(0,.box [.aF 1 o.length,VI a,VI c]),(1,OR 2 bk o)]) (.aZ []) (app emp [(0,.box [.aF 1 ((dm ⟨o,a,c⟩).length),VI 0,VI 0]),(1,OR 2 bk (dm ⟨o,a,c⟩))]):=by
 refine .go Tryz.f270 ?_;refine .bp [.r []] (decide (a>0)) (fun h0=> ?_) (fun h0=> ?_)
 ·refine .bp (let b:=({af:=1,n:=a}:aA);[.r [(11,X (cg bk [b] (fK 2 bk 1 o [b])))],.r []]) (decide (c>0)) (fun h2=> ?_) (fun h2=> ?_)
  ·have e1:((dm ⟨o,a,c⟩).length:Nat)=((o++[({af:=1,n:=a}:aA)])++[({af:=2,n:=c}:aA)]).length:=by
    unfold dm;simp only;(repeat (first|rw[if_pos oM]|rw[if_neg oM]));try simp
   have e2:((dm ⟨o,a,c⟩):List aA)=((o++[({af:=1,n:=a}:aA)])++[({af:=2,n:=c}:aA)]):=by
    unfold dm;simp only;(repeat (first|rw[if_pos oM]|rw[if_neg oM]));try simp
   exact .aG (let b:=({af:=2,n:=c}:aA);[.r [(11,X (cg bk [b] (fK 2 bk 1 (o++[({af:=1,n:=a}:aA)]) [b])))],.r []]) [(0,0),(1,1)] (fun((z0,z1):Nat×(List aA))=>(.aZ [],[(0,.box [.aF 1 z0,VI 0,VI 0]),(1,OR 2 bk z1)])) _ _ (pr e1 e2)
  have e3:((dm ⟨o,a,c⟩).length:Nat)=(o++[({af:=1,n:=a}:aA)]).length:=by
   unfold dm;simp only;(repeat (first|rw[if_pos oM]|rw[if_neg oM]));try simp
  have e4:((dm ⟨o,a,c⟩):List aA)=(o++[({af:=1,n:=a}:aA)]):=by
   unfold dm;simp only;(repeat (first|rw[if_pos oM]|rw[if_neg oM]));try simp
  exact .aG [.r []] [(0,0),(1,1)] (fun((z0,z1):Nat×(List aA))=>(.aZ [],[(0,.box [.aF 1 z0,VI 0,VI 0]),(1,OR 2 bk z1)])) _ _ (pr e3 e4)
 refine .bp [.r []] (decide (c>0)) (fun h2=> ?_) (fun h2=> ?_)
 ·have e5:((dm ⟨o,a,c⟩).length:Nat)=(o++[({af:=2,n:=c}:aA)]).length:=by
   unfold dm;simp only;(repeat (first|rw[if_pos oM]|rw[if_neg oM]));try simp
  have e6:((dm ⟨o,a,c⟩):List aA)=(o++[({af:=2,n:=c}:aA)]):=by
   unfold dm;simp only;(repeat (first|rw[if_pos oM]|rw[if_neg oM]));try simp
  exact .aG (let a:=({af:=2,n:=c}:aA);[.r [(11,X (cg bk [a] (fK 2 bk 1 o [a])))],.r []]) [(0,0),(1,1)] (fun((z0,z1):Nat×(List aA))=>(.aZ [],[(0,.box [.aF 1 z0,VI 0,VI 0]),(1,OR 2 bk z1)])) _ _ (pr e5 e6)
 have e7:((dm ⟨o,a,c⟩).length:Nat)=o.length:=by
  unfold dm;simp only;(repeat (first|rw[if_pos oM]|rw[if_neg oM]));try simp
 have e8:((dm ⟨o,a,c⟩):List aA)=o:=by
  unfold dm;simp only;(repeat (first|rw[if_pos oM]|rw[if_neg oM]));try simp
 exact .aG [.r []] [(0,0),(1,1)] (fun((z0,z1):Nat×(List aA))=>(.aZ [],[(0,.box [.aF 1 z0,VI 0,VI 0]),(1,OR 2 bk z1)])) _ _ (pr e7 e8)
theorem y9y(w:Wr):(dm w).length<=w.out.length+2:=by
 unfold dm;simp only[qf];split<;>split<;>simp
theorem SY{w:Wr}(h:js w):w.out.length<=(mw w).length/\w.add<=(mw w).length/\w.cut<=(mw w).length/\0<=w.add/\0<=w.cut:=by
 have h1:=FR h.form;have h2:=h.add;have h3:=h.cut;unfold mw;simp only[qf,zd];omega
theorem w12{w:Wr}(h:js w){s:aA}(hs:s∈dm w):s.n<=(mw w).length:=by
 rw[<-Q2 h];exact XL hs
theorem y8r{l:List aA}(h:0<l.length):l.getD (l.length- 1) default∈l:=by
 rw[show l.getD (l.length- 1) default=l[l.length- 1] by simp[List.getD,qa (show l.length- 1<l.length by omega)]];exact zB _
theorem EK(o:List aA)(a c k n:Int)(hg:js ⟨o,a,c⟩)(hk:0<=k/\k<=2)(hn:0<=n)(hl:((mw ⟨o,a,c⟩).length:Int)+n<=100000000000):FC Tryz.prog 234 [.ptr 0 0,VI k,VI n] (app emp [(0,.box [.aF 1 o.length,VI a,VI c]),(1,OR 2 bk o)]) (.aZ []) (app emp [(0,.box [.aF 1 (((de ⟨o,a,c⟩ k n).out).length),VI ((de ⟨o,a,c⟩ k n).add),VI ((de ⟨o,a,c⟩ k n).cut)]),(1,OR 2 bk ((de ⟨o,a,c⟩ k n).out))]):=by
 refine .go Tryz.f234 ?_;have hb:=SY hg;have sx:=y9y ⟨o,a,c⟩;simp only at hb sx;refine .bp [.r []] (n==0) (fun h5=> ?_) (fun h5=> ?_)
 ·have e1:(((de ⟨o,a,c⟩ k n).out).length:Nat)=o.length:=by
   (try unfold de);(try unfold kM);((repeat' split)<;>first|rfl|omega| (simp_all;done)| (simp_all;omega))
  have e2:((de ⟨o,a,c⟩ k n).add:Int)=a:=by
   (try unfold de);(try unfold kM);((repeat' split)<;>first|rfl|omega| (simp_all;done)| (simp_all;omega))
  have e3:((de ⟨o,a,c⟩ k n).cut:Int)=c:=by
   (try unfold de);(try unfold kM);((repeat' split)<;>first|rfl|omega| (simp_all;done)| (simp_all;omega))
  have e4:((de ⟨o,a,c⟩ k n).out:List aA)=o:=by
   (try unfold de);(try unfold kM);((repeat' split)<;>first|rfl|omega| (simp_all;done)| (simp_all;omega))
  exact .aG [] [(0,0),(1,1)] (fun((z0,z1,z2,z3):Nat×Int×Int×(List aA))=>(.aZ [],[(0,.box [.aF 1 z0,VI z1,VI z2]),(1,OR 2 bk z3)])) _ _ (pr e1 (pr e2 (pr e3 e4)))
 refine .bp [.r []] (k==1) (fun h6=> ?_) (fun h6=> ?_)
 ·have e5:(((de ⟨o,a,c⟩ k n).out).length:Nat)=o.length:=by
   (try unfold de);(try unfold kM);((repeat' split)<;>first|rfl|omega| (simp_all;done)| (simp_all;omega))
  have e6:((de ⟨o,a,c⟩ k n).add:Int)=(a+n):=by
   (try unfold de);(try unfold kM);((repeat' split)<;>first|rfl|omega| (simp_all;done)| (simp_all;omega))
  have e7:((de ⟨o,a,c⟩ k n).cut:Int)=c:=by
   (try unfold de);(try unfold kM);((repeat' split)<;>first|rfl|omega| (simp_all;done)| (simp_all;omega))
  have e8:((de ⟨o,a,c⟩ k n).out:List aA)=o:=by
   (try unfold de);(try unfold kM);((repeat' split)<;>first|rfl|omega| (simp_all;done)| (simp_all;omega))
  exact .aG [.r [(5,X (Xn (a+n)))]] [(0,0),(1,1)] (fun((z0,z1,z2,z3):Nat×Int×Int×(List aA))=>(.aZ [],[(0,.box [.aF 1 z0,VI z1,VI z2]),(1,OR 2 bk z3)])) _ _ (pr e5 (pr e6 (pr e7 e8)))
 refine .bp [.r []] (k==2) (fun h8=> ?_) (fun h8=> ?_)
 ·have e9:(((de ⟨o,a,c⟩ k n).out).length:Nat)=o.length:=by
   (try unfold de);(try unfold kM);((repeat' split)<;>first|rfl|omega| (simp_all;done)| (simp_all;omega))
  have kE:((de ⟨o,a,c⟩ k n).add:Int)=a:=by
   (try unfold de);(try unfold kM);((repeat' split)<;>first|rfl|omega| (simp_all;done)| (simp_all;omega))
  have lg:((de ⟨o,a,c⟩ k n).cut:Int)=(c+n):=by
   (try unfold de);(try unfold kM);((repeat' split)<;>first|rfl|omega| (simp_all;done)| (simp_all;omega))
  have lu:((de ⟨o,a,c⟩ k n).out:List aA)=o:=by
   (try unfold de);(try unfold kM);((repeat' split)<;>first|rfl|omega| (simp_all;done)| (simp_all;omega))
  exact .aG [.r [(5,X (Xn (c+n)))]] [(0,0),(1,1)] (fun((z0,z1,z2,z3):Nat×Int×Int×(List aA))=>(.aZ [],[(0,.box [.aF 1 z0,VI z1,VI z2]),(1,OR 2 bk z3)])) _ _ (pr e9 (pr kE (pr lg lu)))
 have Jf:0< (dm ⟨o,a,c⟩).length->_:=fun h=>w12 hg (y8r h)
 have dF:0< (dm ⟨o,a,c⟩).length->_:=fun h=>(Q3 hg).all _ (y8r h)
 unfold wk at dF;refine .bp [.r [(1,X (dV 82 [(0,0),(1,1)] (y8q o a c (by omega)) X0))],.r [(5,X (Xn (((dm ⟨o,a,c⟩).length:Int)- 1)))],.r [(4,Xv 1 (decide ((((dm ⟨o,a,c⟩).length:Int)- 1)>=0)) X0),(5,Xv 1 (decide ((((dm ⟨o,a,c⟩).length:Int)- 1)>=0)) X0),(6,Xv 1 (decide ((((dm ⟨o,a,c⟩).length:Int)- 1)>=0)) X0),(8,Xv 2 (decide ((((dm ⟨o,a,c⟩).length:Int)- 1)>=0)) (DZ bk 1 (dm ⟨o,a,c⟩) (((dm ⟨o,a,c⟩).length:Int)- 1) (((dm ⟨o,a,c⟩).length)- 1))),(9,Xv 1 (decide ((((dm ⟨o,a,c⟩).length:Int)- 1)>=0)) X0),(10,Xv 1 (decide ((((dm ⟨o,a,c⟩).length:Int)- 1)>=0)) (Xe bk (dm ⟨o,a,c⟩) (((dm ⟨o,a,c⟩).length)- 1))),(11,Xv 1 (decide ((((dm ⟨o,a,c⟩).length:Int)- 1)>=0)) X0),(12,X (Xk (decide ((((dm ⟨o,a,c⟩).length:Int)- 1)>=0))))]] (decide ((((dm ⟨o,a,c⟩).length:Int)- 1)>=0)&&(((((dm ⟨o,a,c⟩).getD (((dm ⟨o,a,c⟩).length)- 1) default)).af)==0)) (fun h2=> ?_) (fun h2=> ?_)
 ·have nP:(((de ⟨o,a,c⟩ k n).out).length:Nat)=(dm ⟨o,a,c⟩).length:=by
   (try unfold de);(try unfold kM);((repeat' split)<;>first|rfl|omega| (simp_all;done)| (simp_all;omega))
  have nQ:((de ⟨o,a,c⟩ k n).add:Int)=0:=by
   (try unfold de);(try unfold kM);((repeat' split)<;>first|rfl|omega| (simp_all;done)| (simp_all;omega))
  have pY:((de ⟨o,a,c⟩ k n).cut:Int)=0:=by
   (try unfold de);(try unfold kM);((repeat' split)<;>first|rfl|omega| (simp_all;done)| (simp_all;omega))
  have xO:((de ⟨o,a,c⟩ k n).out:List aA)=((dm ⟨o,a,c⟩).set (((dm ⟨o,a,c⟩).length)- 1) ({af:=(((dm ⟨o,a,c⟩).getD (((dm ⟨o,a,c⟩).length)- 1) default)).af,n:=(((((dm ⟨o,a,c⟩).getD (((dm ⟨o,a,c⟩).length)- 1) default)).n)+n)}:aA)):=by
   (try unfold de);(try unfold kM);((repeat' split)<;>first|rfl|omega| (simp_all;done)| (simp_all;omega))
  exact .aG [.r [(5,X (DZ bk 1 (dm ⟨o,a,c⟩) (((dm ⟨o,a,c⟩).length:Int)- 1) (((dm ⟨o,a,c⟩).length)- 1))),(7,X (Xe bk (dm ⟨o,a,c⟩) (((dm ⟨o,a,c⟩).length)- 1))),(9,X (Xn (((((dm ⟨o,a,c⟩).getD (((dm ⟨o,a,c⟩).length)- 1) default)).n)+n))),(10,X (DZ bk 1 (dm ⟨o,a,c⟩) (((dm ⟨o,a,c⟩).length:Int)- 1) (((dm ⟨o,a,c⟩).length)- 1))),(12,X (Xs 2 bk 1 (dm ⟨o,a,c⟩) (((dm ⟨o,a,c⟩).length)- 1) ({af:=(((dm ⟨o,a,c⟩).getD (((dm ⟨o,a,c⟩).length)- 1) default)).af,n:=(((((dm ⟨o,a,c⟩).getD (((dm ⟨o,a,c⟩).length)- 1) default)).n)+n)}:aA)))]] [(0,0),(1,1)] (fun((z0,z1,z2,z3):Nat×Int×Int×(List aA))=>(.aZ [],[(0,.box [.aF 1 z0,VI z1,VI z2]),(1,OR 2 bk z3)])) _ _ (pr nP (pr nQ (pr pY xO)))
 have xP:(((de ⟨o,a,c⟩ k n).out).length:Nat)=((dm ⟨o,a,c⟩)++[({af:=0,n:=n}:aA)]).length:=by
  (try unfold de);(try unfold kM);((repeat' split)<;>first|rfl|omega| (simp_all;done)| (simp_all;omega))
 have xQ:((de ⟨o,a,c⟩ k n).add:Int)=0:=by
  (try unfold de);(try unfold kM);((repeat' split)<;>first|rfl|omega| (simp_all;done)| (simp_all;omega))
 have HL:((de ⟨o,a,c⟩ k n).cut:Int)=0:=by
  (try unfold de);(try unfold kM);((repeat' split)<;>first|rfl|omega| (simp_all;done)| (simp_all;omega))
 have HM:((de ⟨o,a,c⟩ k n).out:List aA)=((dm ⟨o,a,c⟩)++[({af:=0,n:=n}:aA)]):=by
  (try unfold de);(try unfold kM);((repeat' split)<;>first|rfl|omega| (simp_all;done)| (simp_all;omega))
 exact .aG [.r [(8,X (cg bk [({af:=0,n:=n}:aA)] (fK 2 bk 1 (dm ⟨o,a,c⟩) [({af:=0,n:=n}:aA)])))]] [(0,0),(1,1)] (fun((z0,z1,z2,z3):Nat×Int×Int×(List aA))=>(.aZ [],[(0,.box [.aF 1 z0,VI z1,VI z2]),(1,OR 2 bk z3)])) _ _ (pr xP (pr xQ (pr HL HM)))
theorem x2Q(o:List aA)(a c:Int)(ho:o.length<=1000000000000)(hc:jT (dm ⟨o,a,c⟩)=0):FC Tryz.prog 237 [.ptr 0 0] (app emp [(0,.box [.aF 1 o.length,VI a,VI c]),(1,OR 2 bk o)]) (.aZ [.aF 1 ((dm ⟨o,a,c⟩).length),VI 0]) (app emp [(0,.box [.aF 1 ((dm ⟨o,a,c⟩).length),VI 0,VI 0]),(1,OR 2 bk (dm ⟨o,a,c⟩))]):=by
 refine .go Tryz.f237 ?_;refine .bp [.r [],.r [(1,X (dV 26 [(0,0),(1,1)] (y8q o a c oM) X0))],.r [(4,X (aW (Ae (dm ⟨o,a,c⟩)) (cg bk (dm ⟨o,a,c⟩) X0)))]] ((jT (dm ⟨o,a,c⟩)) !=0) (fun h2=> ?_) (fun h2=> ?_)
 ·exfalso;omega
 exact .fin [.r []] [(0,0),(1,1)]
theorem Aw(l:List aA)(u:Int):FC Tryz.prog 233 [.ptr 0 0] (app emp [(0,.box [VL 2 bk l,VI u])]) (VI (iD l)) (app emp [(0,.box [VL 2 bk l,VI u])]):=by
 refine .go Tryz.f233 ?_;refine .bp [.r [],.r [(4,X (Xl bk l))]] ((l.length:Int)==0) (fun h1=> ?_) (fun h1=> ?_)
 ·have e1:((iD l):Int)= -1:=by
   unfold iD;exact iF
  exact .aG [.r []] [(0,0)] (fun z0:Int=>(VI z0,[(0,.box [VL 2 bk l,VI u])])) _ _ e1
 have e2:((iD l):Int)=((l.getD 0 default)).af:=by
  unfold iD;exact iF
 exact .aG [.r [(4,X (Xi bk l 0))]] [(0,0)] (fun z0:Int=>(VI z0,[(0,.box [VL 2 bk l,VI u])])) _ _ e2
theorem Dd(l:List aA)(u:Int)(h0:0<l.length)(hb: -9223372036854775808<=(l.getD 0 default).n-u/\(l.getD 0 default).n-u<=9223372036854775807):FC Tryz.prog 235 [.ptr 0 0] (app emp [(0,.box [VL 2 bk l,VI u])]) (VI ((l.getD 0 default).n-u)) (app emp [(0,.box [VL 2 bk l,VI u])]):=by
 refine .go Tryz.f235 ?_;have e1:(((l.getD 0 default).n-u):Int)=((((l.getD 0 default)).n)- u):=by
  (first|omega|with_reducible exact fun h=>h| (intro hq;rw[hq];done)| (intro hq;rw[hq];rfl)| (simp only[qj];done)| (simp only[qj];omega)| (simp;omega)| (simp;done))
 exact .aG [.r [],.r [(4,X (Xi bk l 0)),(11,X (Xn ((((l.getD 0 default)).n)- u)))]] [(0,0)] (fun z0:Int=>(VI z0,[(0,.box [VL 2 bk l,VI u])])) _ _ e1
theorem Ax(l:List aA)(u n:Int)(h0:0<l.length)(hb: -9223372036854775808<=u+n/\u+n<=9223372036854775807):FC Tryz.prog 236 [.ptr 0 0,VI n] (app emp [(0,.box [VL 2 bk l,VI u])]) (.aZ []) (app emp [(0,.box [VL 2 bk (jU l u n),VI (ko l u n)])]):=by
 refine .go Tryz.f236 ?_;refine .bp [.r [(5,X (Xn (u+n)))],.r [(8,X (Xi bk l 0))]] ((u+n)==(((l.getD 0 default)).n)) (fun h1=> ?_) (fun h1=> ?_)
 ·have e1:((jU l u n):List aA)=(l.drop 1):=by
   simp only[jU,ko];exact iF
  have e2:((ko l u n):Int)=0:=by
   simp only[jU,ko];exact iF
  exact .aG [.r [(6,X (y7 bk 2 l 1))]] [(0,0)] (fun((z0,z1):(List aA)×Int)=>(.aZ [],[(0,.box [VL 2 bk z0,VI z1])])) _ _ (pr e1 e2)
 have e3:((jU l u n):List aA)=l:=by
  simp only[jU,ko];exact iF
 have e4:((ko l u n):Int)=(u+n):=by
  simp only[jU,ko];exact iF
 exact .aG [] [(0,0)] (fun((z0,z1):(List aA)×Int)=>(.aZ [],[(0,.box [VL 2 bk z0,VI z1])])) _ _ (pr e3 e4)
theorem x2R(a b:List aA)(va:eR a)(vb:eR b)(hm:cz a=cz b)(Fe:jT (z26 a b)=0)(vo:jT (sK a b)=0):FC Tryz.prog 201 [VL 2 bk a,VL 2 bk b] (app emp []) (.aZ [VL 2 bk (z26 a b),VL 2 bk (sK a b),VI 0]) (app emp []):=by
 refine .go Tryz.f201 ?_;refine .len 0 (fun dQ=> ?_);refine .len 1 (fun gW=> ?_);have ca:=wo.2 va;have cb:=wo.2 vb;obtain⟨st,st2⟩:=PI.start va vb hm;refine .bp [.r [],.r [(1,X (aW (Ae a) X0))],.r []] ((jT a) !=0) (fun h2=> ?_) (fun h2=> ?_)
 ·exfalso;omega
 refine .bp [.r [(1,X (aW (Ae b) X0))],.r []] ((jT b) !=0) (fun h5=> ?_) (fun h5=> ?_)
 ·exfalso;omega
 refine .bp [.r [(1,X (aW (LB a aM) X0))],.r [(1,X (aW (LB b aM) X0))],.r []] ((cz a) !=(cz b)) (fun h9=> ?_) (fun h9=> ?_)
 ·exfalso;omega
 refine .loop (α:=Int×Int×Int×Int×(List aA)×(List aA)×(List aA)×Int×(List aA)×Int) [.r [],.le (.nB 240 0 2),.le (.nB 248 0 2),.r []] 322 (fun(x1,y1,x2,y2,o1,o2,ps,pu,qs,qu)=>([(13,.ptr 240 0),(14,.ptr 248 0),(15,.ptr 274 0),(16,.ptr 298 0)],[(240,.box [.aF 256 o1.length,VI x1,VI y1]),(248,.box [.aF 257 o2.length,VI x2,VI y2]),(256,OR 2 bk o1),(257,OR 2 bk o2),(274,.box [VL 2 bk ps,VI pu]),(298,.box [VL 2 bk qs,VI qu])])) (fun(x1,y1,x2,y2,o1,o2,ps,pu,qs,qu)=>PI ⟨o1,x1,y1⟩ ⟨o2,x2,y2⟩ ps pu qs qu ((ex a).length+(ex b).length) (z49 ⟨[],0,0⟩ (cL (ex a) (ex b)).1) (z49 ⟨[],0,0⟩ (cL (ex a) (ex b)).2)) (fun(x1,y1,x2,y2,o1,o2,ps,pu,qs,qu)=>jm ps pu qs qu) (0,0,0,0,[],[],a,0,b,0) ?_ ?_
 ·exact st
 rintro⟨x1,y1,x2,y2,o1,o2,ps,pu,qs,qu⟩ dD gj;try dsimp only at dD
 have gx:=dD.gx;have gy:=dD.gy;have kp:=XS dD.gp;have kq:=XS dD.gq;have hlen:=dD.uC;have j8:=dD.uD;have hlp:=dD.lp;have hlq:=dD.lq;have hwb:=SY dD.gx;have SZ:=SY dD.gy;simp only at hwb SZ;refine .bp (let a:=decide ((iD ps)>=0);[.r [(1,X (gB [(0,274)] (Aw ps pu) X0)),(5,Xv 1 (!a) (gB [(0,298)] (Aw qs qu) X0)),(6,Xv 1 (!a) X0),(7,X (b7 a))]]) (decide ((iD ps)>=0)||decide ((iD qs)>=0)) (fun fe=> ?_) (fun fe=> ?_)
 ·refine .bp [.r [(1,X (gB [(0,274)] (Aw ps pu) X0))]] ((iD ps)==1) (fun eN=> ?_) (fun eN=> ?_)
  ·refine .back (let a:=(ps.getD 0 default).n-pu;[.r [(1,X (gB [(0,274)] (Dd ps pu oM oM) X0)),(2,X (dV 434 [(0,240),(1,256)] (EK o1 x1 y1 1 a aM oM oM oM) X0))],.r [(1,X (gB [(0,274)] (Dd ps pu oM oM) X0)),(2,X (dV 458 [(0,248),(1,257)] (EK o2 x2 y2 0 a aM oM oM oM) X0))],.r [(2,X (gB [(0,274)] (Dd ps pu oM oM) X0)),(3,X (dV 490 [(0,274)] (Ax ps pu a oM oM) X0))]]) [(240,240),(248,248),(256,256),(257,257),(274,274),(298,298)] (gj ((de ⟨o1,x1,y1⟩ 1 ((ps.getD 0 default).n-pu)).add,(de ⟨o1,x1,y1⟩ 1 ((ps.getD 0 default).n-pu)).cut,(de ⟨o2,x2,y2⟩ 0 ((ps.getD 0 default).n-pu)).add,(de ⟨o2,x2,y2⟩ 0 ((ps.getD 0 default).n-pu)).cut,(de ⟨o1,x1,y1⟩ 1 ((ps.getD 0 default).n-pu)).out,(de ⟨o2,x2,y2⟩ 0 ((ps.getD 0 default).n-pu)).out,(jU ps pu ((ps.getD 0 default).n-pu)),(ko ps pu ((ps.getD 0 default).n-pu)),qs,qu) ?_ ?_)
   ·exact(PI.Bt dD oM oM).1
   exact(PI.Bt dD oM oM).2
  refine .bp [.r [(1,X (gB [(0,298)] (Aw qs qu) X0))]] ((iD qs)==1) (fun lV=> ?_) (fun lV=> ?_)
  ·refine .back (let a:=(qs.getD 0 default).n-qu;[.r [(1,X (gB [(0,298)] (Dd qs qu oM oM) X0)),(2,X (dV 466 [(0,240),(1,256)] (EK o1 x1 y1 0 a aM oM oM oM) X0))],.r [(1,X (gB [(0,298)] (Dd qs qu oM oM) X0)),(2,X (dV 490 [(0,248),(1,257)] (EK o2 x2 y2 1 a aM oM oM oM) X0))],.r [(2,X (gB [(0,298)] (Dd qs qu oM oM) X0)),(3,X (dV 522 [(0,298)] (Ax qs qu a oM oM) X0))]]) [(240,240),(248,248),(256,256),(257,257),(274,274),(298,298)] (gj ((de ⟨o1,x1,y1⟩ 0 ((qs.getD 0 default).n-qu)).add,(de ⟨o1,x1,y1⟩ 0 ((qs.getD 0 default).n-qu)).cut,(de ⟨o2,x2,y2⟩ 1 ((qs.getD 0 default).n-qu)).add,(de ⟨o2,x2,y2⟩ 1 ((qs.getD 0 default).n-qu)).cut,(de ⟨o1,x1,y1⟩ 0 ((qs.getD 0 default).n-qu)).out,(de ⟨o2,x2,y2⟩ 1 ((qs.getD 0 default).n-qu)).out,ps,pu,(jU qs qu ((qs.getD 0 default).n-qu)),(ko qs qu ((qs.getD 0 default).n-qu))) ?_ ?_)
   ·exact(PI.Bu dD oM oM oM).1
   exact(PI.Bu dD oM oM oM).2
  obtain⟨sS,tN⟩:=PI.two dD oM oM oM;have hB:=PI.both dD sS tN oM oM rfl;have hkq:(qs.getD 0 default).af=iD qs:=oM;have gT:(ps.getD 0 default).af=iD ps:=oM;rw[hkq,gT] at hB;refine .bp [.r [(1,X (gB [(0,274)] (Dd ps pu oM oM) X0)),(3,X (gB [(0,298)] (Dd qs qu oM oM) X0)),(4,X (vq ((ps.getD 0 default).n-pu) ((qs.getD 0 default).n-qu)))],.r [(1,X (gB [(0,298)] (Aw qs qu) X0))]] ((iD qs)==0) (fun h23=> ?_) (fun h23=> ?_)
  ·refine .bp [.r [(1,X (gB [(0,274)] (Aw ps pu) X0)),(3,X (dV 546 [(0,240),(1,256)] (EK o1 x1 y1 (iD ps) (min ((ps.getD 0 default).n-pu) ((qs.getD 0 default).n-qu)) aM oM oM oM) X0))],.r [(1,X (gB [(0,274)] (Aw ps pu) X0))]] ((iD ps)==0) (fun S0=> ?_) (fun S0=> ?_)
   ·refine .back (let a:=min ((ps.getD 0 default).n-pu) ((qs.getD 0 default).n-qu);[.r [(1,X (gB [(0,298)] (Aw qs qu) X0)),(3,X (dV 602 [(0,248),(1,257)] (EK o2 x2 y2 (iD qs) a aM oM oM oM) X0))],.r [(2,X (dV 626 [(0,274)] (Ax ps pu a oM oM) X0))],.r [(2,X (dV 650 [(0,298)] (Ax qs qu a oM oM) X0))]]) [(240,240),(248,248),(256,256),(257,257),(274,274),(298,298)] (gj ((de ⟨o1,x1,y1⟩ (iD ps) (min ((ps.getD 0 default).n-pu) ((qs.getD 0 default).n-qu))).add,(de ⟨o1,x1,y1⟩ (iD ps) (min ((ps.getD 0 default).n-pu) ((qs.getD 0 default).n-qu))).cut,(de ⟨o2,x2,y2⟩ (iD qs) (min ((ps.getD 0 default).n-pu) ((qs.getD 0 default).n-qu))).add,(de ⟨o2,x2,y2⟩ (iD qs) (min ((ps.getD 0 default).n-pu) ((qs.getD 0 default).n-qu))).cut,(de ⟨o1,x1,y1⟩ (iD ps) (min ((ps.getD 0 default).n-pu) ((qs.getD 0 default).n-qu))).out,(de ⟨o2,x2,y2⟩ (iD qs) (min ((ps.getD 0 default).n-pu) ((qs.getD 0 default).n-qu))).out,(jU ps pu (min ((ps.getD 0 default).n-pu) ((qs.getD 0 default).n-qu))),(ko ps pu (min ((ps.getD 0 default).n-pu) ((qs.getD 0 default).n-qu))),(jU qs qu (min ((ps.getD 0 default).n-pu) ((qs.getD 0 default).n-qu))),(ko qs qu (min ((ps.getD 0 default).n-pu) ((qs.getD 0 default).n-qu)))) ?_ ?_)
    ·rw[if_pos (show iD qs=0 by omega),if_pos (show iD ps=0 by omega)] at hB;exact hB.1
    exact hB.2
   refine .back (let a:=min ((ps.getD 0 default).n-pu) ((qs.getD 0 default).n-qu);[.r [(2,X (dV 594 [(0,274)] (Ax ps pu a oM oM) X0))],.r [(2,X (dV 618 [(0,298)] (Ax qs qu a oM oM) X0))]]) [(240,240),(248,248),(256,256),(257,257),(274,274),(298,298)] (gj ((de ⟨o1,x1,y1⟩ (iD ps) (min ((ps.getD 0 default).n-pu) ((qs.getD 0 default).n-qu))).add,(de ⟨o1,x1,y1⟩ (iD ps) (min ((ps.getD 0 default).n-pu) ((qs.getD 0 default).n-qu))).cut,x2,y2,(de ⟨o1,x1,y1⟩ (iD ps) (min ((ps.getD 0 default).n-pu) ((qs.getD 0 default).n-qu))).out,o2,(jU ps pu (min ((ps.getD 0 default).n-pu) ((qs.getD 0 default).n-qu))),(ko ps pu (min ((ps.getD 0 default).n-pu) ((qs.getD 0 default).n-qu))),(jU qs qu (min ((ps.getD 0 default).n-pu) ((qs.getD 0 default).n-qu))),(ko qs qu (min ((ps.getD 0 default).n-pu) ((qs.getD 0 default).n-qu)))) ?_ ?_)
   ·rw[if_pos (show iD qs=0 by omega),if_neg (show¬iD ps=0 by omega)] at hB;exact hB.1
   exact hB.2
  refine .bp [.r [(1,X (gB [(0,274)] (Aw ps pu) X0))]] ((iD ps)==0) (fun S0=> ?_) (fun S0=> ?_)
  ·refine .back (let a:=min ((ps.getD 0 default).n-pu) ((qs.getD 0 default).n-qu);[.r [(1,X (gB [(0,298)] (Aw qs qu) X0)),(3,X (dV 570 [(0,248),(1,257)] (EK o2 x2 y2 (iD qs) a aM oM oM oM) X0))],.r [(2,X (dV 594 [(0,274)] (Ax ps pu a oM oM) X0))],.r [(2,X (dV 618 [(0,298)] (Ax qs qu a oM oM) X0))]]) [(240,240),(248,248),(256,256),(257,257),(274,274),(298,298)] (gj (x1,y1,(de ⟨o2,x2,y2⟩ (iD qs) (min ((ps.getD 0 default).n-pu) ((qs.getD 0 default).n-qu))).add,(de ⟨o2,x2,y2⟩ (iD qs) (min ((ps.getD 0 default).n-pu) ((qs.getD 0 default).n-qu))).cut,o1,(de ⟨o2,x2,y2⟩ (iD qs) (min ((ps.getD 0 default).n-pu) ((qs.getD 0 default).n-qu))).out,(jU ps pu (min ((ps.getD 0 default).n-pu) ((qs.getD 0 default).n-qu))),(ko ps pu (min ((ps.getD 0 default).n-pu) ((qs.getD 0 default).n-qu))),(jU qs qu (min ((ps.getD 0 default).n-pu) ((qs.getD 0 default).n-qu))),(ko qs qu (min ((ps.getD 0 default).n-pu) ((qs.getD 0 default).n-qu)))) ?_ ?_)
   ·rw[if_neg (show¬iD qs=0 by omega),if_pos (show iD ps=0 by omega)] at hB;exact hB.1
   exact hB.2
  refine .back (let a:=min ((ps.getD 0 default).n-pu) ((qs.getD 0 default).n-qu);[.r [(2,X (dV 562 [(0,274)] (Ax ps pu a oM oM) X0))],.r [(2,X (dV 586 [(0,298)] (Ax qs qu a oM oM) X0))]]) [(240,240),(248,248),(256,256),(257,257),(274,274),(298,298)] (gj (x1,y1,x2,y2,o1,o2,(jU ps pu (min ((ps.getD 0 default).n-pu) ((qs.getD 0 default).n-qu))),(ko ps pu (min ((ps.getD 0 default).n-pu) ((qs.getD 0 default).n-qu))),(jU qs qu (min ((ps.getD 0 default).n-pu) ((qs.getD 0 default).n-qu))),(ko qs qu (min ((ps.getD 0 default).n-pu) ((qs.getD 0 default).n-qu)))) ?_ ?_)
  ·rw[if_neg (show¬iD qs=0 by omega),if_neg (show¬iD ps=0 by omega)] at hB;exact hB.1
  exact hB.2
 obtain⟨hG,SR⟩:=PI.done dD oM oM;have ng:dm ⟨o1,x1,y1⟩=z26 a b:=by rw[hG];rfl
 have hcd:jT (dm ⟨o1,x1,y1⟩)=0:=by rw[ng];exact Fe
 have AK:dm ⟨o2,x2,y2⟩=sK a b:=by rw[SR];rfl
 have w29:jT (dm ⟨o2,x2,y2⟩)=0:=by rw[AK];exact vo
 refine .bp [.r [(0,X (dV 386 [(0,240),(1,256)] (x2Q o1 x1 y1 oM aM) X0))],.r [(0,X (dV 434 [(0,248),(1,257)] (x2Q o2 x2 y2 oM aM) X0))],.r [(4,Xv 1 (!false) X0),(5,X (b7 false))]] (false||false) (fun h31=> ?_) (fun h31=> ?_)
 ·exfalso;simp at h31
 have e1:((z26 a b):List aA)=(dm ⟨o1,x1,y1⟩):=by
  first|rw[ng]|rw[AK]
 have e2:((sK a b):List aA)=(dm ⟨o2,x2,y2⟩):=by
  first|rw[ng]|rw[AK]
 exact .aG (let a:=dm ⟨o1,x1,y1⟩;let b:=dm ⟨o2,x2,y2⟩;[.r [],.le (.fr 4 [((a.length):Nat)=(List.map bk a).length] ⟨lm,trivial⟩),.le (.fr 5 [((b.length):Nat)=(List.map bk b).length] ⟨lm,trivial⟩)]) [] (fun((z0,z1):(List aA)×(List aA))=>(.aZ [VL 2 bk z0,VL 2 bk z1,VI 0],[])) _ _ (pr e1 e2)
theorem y4L(l:List aA)(h:l.length<=1000000000000):FC Tryz.prog 200 [VL 2 bk l] (app emp []) (VL 2 bk l) (app emp []):=by
 refine .go Tryz.f200 ?_;refine .len 0 (fun dQ=> ?_);refine .iJ [.r []] ?_;by_cases hn:l=[]
 ·refine .any [.r []] ?_ ?_
  ·have e1:(l:List aA)=[]:=by
    simp[hn]
   exact .aG [.r [],.le (.nL 2 2)] [] (fun z0:List aA=>(VL 2 bk z0,[])) _ _ e1
  have e2:(l:List aA)=([]++l):=by
   simp[hn]
  exact .aG [.r [(2,X (fK 2 bk 24 [] l))],.le (.fr 2 [((([]++l).length):Nat)=(List.map bk ([]++l)).length] ⟨lm,trivial⟩)] [] (fun z0:List aA=>(VL 2 bk z0,[])) _ _ e2
 have e3:(l:List aA)=([]++l):=by
  (first|omega|with_reducible exact fun h=>h| (intro hq;rw[hq];done)| (intro hq;rw[hq];rfl)| (simp only[qj];done)| (simp only[qj];omega)| (simp;omega)| (simp;done))
 exact .aG [.r [(1,X (QA bk l))],.f,.r [(2,X (fK 2 bk 24 [] l))],.le (.fr 2 [((([]++l).length):Nat)=(List.map bk ([]++l)).length] ⟨lm,trivial⟩)] [] (fun z0:List aA=>(VL 2 bk z0,[])) _ _ e3
theorem y0C(a b:List aA)(ha:a.length<=1000000000000)(hb:b.length<=1000000000000)(hp:0<a.length->0<b.length->rC a b):FC Tryz.prog 153 [VL 2 bk a,VL 2 bk b] (app emp []) (.aZ [VL 2 bk (pA a b),VL 2 bk (pB a b),VI 0]) (app emp []):=by
 refine .go Tryz.f153 ?_;refine .len 0 (fun dQ=> ?_);refine .len 1 (fun gW=> ?_);refine .bp (let c:=(a.length:Int)==0;[.r [],.r [(1,X (Xl bk a)),(5,Xv 1 (!c) (Xl bk b)),(6,Xv 1 (!c) X0),(7,X (b7 c))]]) (((a.length:Int)==0)|| ((b.length:Int)==0)) (fun h1=> ?_) (fun h1=> ?_)
 ·have e1:((pA a b):List aA)=a:=by
   (first|unfold pA|unfold pB)
   (first|rw[if_pos oM]|rw[if_neg oM])
  have e2:((pB a b):List aA)=b:=by
   (first|unfold pA|unfold pB)
   (first|rw[if_pos oM]|rw[if_neg oM])
  exact .aG [.r [(1,X (bV 96 (y4L a oM) X0)),(3,X (bV 112 (y4L b oM) X0))]] [] (fun((z0,z1):(List aA)×(List aA))=>(.aZ [VL 2 bk z0,VL 2 bk z1,VI 0],[])) _ _ (pr e1 e2)
 obtain⟨p1,p2,p3,p4,p5⟩:=hp oM oM;have e3:((pA a b):List aA)=(z26 a b):=by
  (first|unfold pA|unfold pB)
  (first|rw[if_pos oM]|rw[if_neg oM])
 have e4:((pB a b):List aA)=(sK a b):=by
  (first|unfold pA|unfold pB)
  (first|rw[if_pos oM]|rw[if_neg oM])
 exact .aG [.r [(2,X (bV 104 (x2R a b aM aM aM aM aM) X0))]] [] (fun((z0,z1):(List aA)×(List aA))=>(.aZ [VL 2 bk z0,VL 2 bk z1,VI 0],[])) _ _ (pr e3 e4)
theorem M5(l:List eo)(ak aj:List aA)(hl:l.length=0):FC Tryz.prog 156 [VL 4 bE l,VL 2 bk ak,VL 2 bk aj] (app emp []) (VL 4 bE ([]:List eo)) (app emp []):=by
 refine .go Tryz.f156 ?_;refine .len 0 (fun dQ=> ?_);refine .len 1 (fun gW=> ?_);refine .len 2 (fun lU=> ?_);refine .loop (α:=Nat×(List eo)) [.r [],.r [],.r [(1,X (Xl bE l))],.le (.nR 7 4)] 41 (fun(i,o)=>([(1,VL 2 bk ak),(2,VL 2 bk aj),(7,.aF 40 o.length),(12,VL 4 bE l),(13,VI (l.length:Int)),(14,VI (i:Int))],[(40,OR 4 bE o)])) (fun(i,o)=>i=0/\o=[]) (fun(i,o)=>0) (0,[]) ?_ ?_
 ·exact⟨rfl,rfl⟩
 rintro⟨i,o⟩ I3 cC;try dsimp only at I3
 refine .bp [.r []] (decide ((i:Int)< (l.length:Int))) (fun h3=> ?_) (fun h3=> ?_)
 ·exfalso;omega
 have e1:(([]:List eo):List eo)=o:=by
  rw[I3.2]
 exact .aG [.r [],.le (.fr 6 [(o.length:Nat)=(List.map bE o).length] ⟨lm,trivial⟩)] [] (fun z0:List eo=>(VL 4 bE z0,[])) _ _ e1
theorem y8s(e:bP)(ak aj:List aA)(hr:eR ak)(hc:eR aj)(he:p9 e)(hx:∀c∈e.cells,c.aF<Bw ak/\c.aV<Bw aj):FC Tryz.prog 154 [.t (rW e),VL 2 bk ak,VL 2 bk aj] (app emp []) (VB true) (app emp []):=by
 refine .go Tryz.f154 ?_;refine .len 1 (fun gW=> ?_);refine .len 2 (fun lU=> ?_);unfold Bw at hx;have l1:=he.ln;have l2:e.split.length=0:=by rw[he.sp];rfl
 have l3:e.merge.length=0:=by rw[he.me];rfl
 have hw1:0<=cz ak/\cz ak<=1000000000000:=by(have:=hr.2.1;unfold cz;omega)
 have hw2:0<=cz aj/\cz aj<=1000000000000:=by(have:=hc.2.1;unfold cz;omega)
 refine .bp [.r [],.r [],.r [(1,X (Xl bk ak))]] (decide ((ak.length:Int)> 0)) (fun h2=> ?_) (fun h2=> ?_)
 ·refine .bp [.r [(1,X (aW (LC ak aM) X0))],.r [(1,X (Xl bk aj))]] (decide ((aj.length:Int)> 0)) (fun h4=> ?_) (fun h4=> ?_)
  ·refine .loop (α:=Nat) [.r [(1,X (aW (LC aj aM) X0))],.r [(2,X (Xl bg e.cells))]] 224 (fun i=>([(3,.ptr 0 0),(7,VI (cz ak)),(8,VI (cz aj)),(34,VL 5 bg e.cells),(35,VI (e.cells.length:Int)),(36,VI (i:Int))],[(0,.box [VL 2 bk e.ak,VL 2 bk e.aj,VL 5 bg e.cells,VL 4 bE e.split,VL 4 bE e.merge])])) (fun i=>i<=e.cells.length) (fun i=>e.cells.length-i) (0:Nat) ?_ ?_
   ·
    (try dsimp only);omega
   rintro i I7 wP;try dsimp only at I7
   first|rw[if_pos (show 0<ak.length by omega)] at hx|rw[if_neg (show¬0<ak.length by omega)] at hx
   first|rw[if_pos (show 0<aj.length by omega)] at hx|rw[if_neg (show¬0<aj.length by omega)] at hx
   refine .bp [.r []] (decide ((i:Int)< (e.cells.length:Int))) (fun h7=> ?_) (fun h7=> ?_)
   ·have hm:=hx _ (fE (l:=e.cells) (i:=i) oM);refine .bp (let a:=decide ((((e.cells.getD i default)).aF)>=(cz ak));[.r [(0,X (Xi bg e.cells (i:Int)))],.r [(6,Xv 1 (!a) X0),(8,Xv 2 (!a) X0),(9,X (b7 a))]]) (decide ((((e.cells.getD i default)).aF)>=(cz ak))||decide ((((e.cells.getD i default)).aV)>=(cz aj))) (fun h9=> ?_) (fun h9=> ?_)
    ·exfalso;omega
    refine .back [.r [(0,X (Xn ((i:Int)+1)))]] [(0,0)] (wP ((i+1):Nat) ?_ ?_)
    ·
     (try dsimp only);omega
    exact tO
   refine .loop (α:=Nat) [.r [],.u,.r [],.t,.r [(0,X (Xa (Xc ((0:Int)<=0)) (Xc ((0:Int)< ((2:Nat):Int)))) ⟨dM,dM⟩)],.r [(1,X (Xl bE e.split))]] 328 (fun j=>([(7,VI (cz ak)),(8,VI (cz aj)),(55,.t (.agg [TL 4 bE e.split,TL 4 bE e.merge])),(56,VI 0),(59,VL 4 bE e.split),(60,VI (e.split.length:Int)),(61,VI (j:Int))],[])) (fun j=>j=0) (fun j=>0) (0:Nat) ?_ ?_
   ·rfl
   rintro j uW uX;try dsimp only at uW
   refine .bp [.r []] (decide ((j:Int)< (e.split.length:Int))) (fun eO=> ?_) (fun eO=> ?_)
   ·exfalso;omega
   refine .loop (α:=Nat) [.r [],.u,.r [],.t,.r [(0,X (Xa (Xc ((0:Int)<=1)) (Xc ((1:Int)< ((2:Nat):Int)))) ⟨dM,dM⟩)],.r [(1,X (Xl bE e.merge))]] 400 (fun j=>([(7,VI (cz ak)),(8,VI (cz aj)),(55,.t (.agg [TL 4 bE e.split,TL 4 bE e.merge])),(56,VI 1),(59,VL 4 bE e.merge),(60,VI (e.merge.length:Int)),(61,VI (j:Int))],[])) (fun j=>j=0) (fun j=>0) (0:Nat) ?_ ?_
   ·rfl
   rintro j uW uX;try dsimp only at uW
   refine .bp [.r []] (decide ((j:Int)< (e.merge.length:Int))) (fun eO=> ?_) (fun eO=> ?_)
   ·exfalso;omega
   exact .fin [.r [],.u,.r [],.f,.r []] []
  refine .loop (α:=Nat) [.r [(2,X (Xl bg e.cells))]] 168 (fun i=>([(3,.ptr 0 0),(7,VI (cz ak)),(8,VI 2147483647),(34,VL 5 bg e.cells),(35,VI (e.cells.length:Int)),(36,VI (i:Int))],[(0,.box [VL 2 bk e.ak,VL 2 bk e.aj,VL 5 bg e.cells,VL 4 bE e.split,VL 4 bE e.merge])])) (fun i=>i<=e.cells.length) (fun i=>e.cells.length-i) (0:Nat) ?_ ?_
  ·
   (try dsimp only);omega
  rintro i I7 wP;try dsimp only at I7
  first|rw[if_pos (show 0<ak.length by omega)] at hx|rw[if_neg (show¬0<ak.length by omega)] at hx
  first|rw[if_pos (show 0<aj.length by omega)] at hx|rw[if_neg (show¬0<aj.length by omega)] at hx
  refine .bp [.r []] (decide ((i:Int)< (e.cells.length:Int))) (fun h7=> ?_) (fun h7=> ?_)
  ·have hm:=hx _ (fE (l:=e.cells) (i:=i) oM);refine .bp (let a:=decide ((((e.cells.getD i default)).aF)>=(cz ak));[.r [(0,X (Xi bg e.cells (i:Int)))],.r [(6,Xv 1 (!a) X0),(8,Xv 2 (!a) X0),(9,X (b7 a))]]) (decide ((((e.cells.getD i default)).aF)>=(cz ak))||decide ((((e.cells.getD i default)).aV)>=2147483647)) (fun h9=> ?_) (fun h9=> ?_)
   ·exfalso;omega
   refine .back [.r [(0,X (Xn ((i:Int)+1)))]] [(0,0)] (wP ((i+1):Nat) ?_ ?_)
   ·
    (try dsimp only);omega
   exact tO
  refine .loop (α:=Nat) [.r [],.u,.r [],.t,.r [(0,X (Xa (Xc ((0:Int)<=0)) (Xc ((0:Int)< ((2:Nat):Int)))) ⟨dM,dM⟩)],.r [(1,X (Xl bE e.split))]] 272 (fun j=>([(7,VI (cz ak)),(8,VI 2147483647),(55,.t (.agg [TL 4 bE e.split,TL 4 bE e.merge])),(56,VI 0),(59,VL 4 bE e.split),(60,VI (e.split.length:Int)),(61,VI (j:Int))],[])) (fun j=>j=0) (fun j=>0) (0:Nat) ?_ ?_
  ·rfl
  rintro j uW uX;try dsimp only at uW
  refine .bp [.r []] (decide ((j:Int)< (e.split.length:Int))) (fun eO=> ?_) (fun eO=> ?_)
  ·exfalso;omega
  refine .loop (α:=Nat) [.r [],.u,.r [],.t,.r [(0,X (Xa (Xc ((0:Int)<=1)) (Xc ((1:Int)< ((2:Nat):Int)))) ⟨dM,dM⟩)],.r [(1,X (Xl bE e.merge))]] 344 (fun j=>([(7,VI (cz ak)),(8,VI 2147483647),(55,.t (.agg [TL 4 bE e.split,TL 4 bE e.merge])),(56,VI 1),(59,VL 4 bE e.merge),(60,VI (e.merge.length:Int)),(61,VI (j:Int))],[])) (fun j=>j=0) (fun j=>0) (0:Nat) ?_ ?_
  ·rfl
  rintro j uW uX;try dsimp only at uW
  refine .bp [.r []] (decide ((j:Int)< (e.merge.length:Int))) (fun eO=> ?_) (fun eO=> ?_)
  ·exfalso;omega
  exact .fin [.r [],.u,.r [],.f,.r []] []
 refine .bp [.r [(1,X (Xl bk aj))]] (decide ((aj.length:Int)> 0)) (fun h4=> ?_) (fun h4=> ?_)
 ·refine .loop (α:=Nat) [.r [(1,X (aW (LC aj aM) X0))],.r [(2,X (Xl bg e.cells))]] 168 (fun i=>([(3,.ptr 0 0),(7,VI 2147483647),(8,VI (cz aj)),(34,VL 5 bg e.cells),(35,VI (e.cells.length:Int)),(36,VI (i:Int))],[(0,.box [VL 2 bk e.ak,VL 2 bk e.aj,VL 5 bg e.cells,VL 4 bE e.split,VL 4 bE e.merge])])) (fun i=>i<=e.cells.length) (fun i=>e.cells.length-i) (0:Nat) ?_ ?_
  ·
   (try dsimp only);omega
  rintro i I7 wP;try dsimp only at I7
  first|rw[if_pos (show 0<ak.length by omega)] at hx|rw[if_neg (show¬0<ak.length by omega)] at hx
  first|rw[if_pos (show 0<aj.length by omega)] at hx|rw[if_neg (show¬0<aj.length by omega)] at hx
  refine .bp [.r []] (decide ((i:Int)< (e.cells.length:Int))) (fun h7=> ?_) (fun h7=> ?_)
  ·have hm:=hx _ (fE (l:=e.cells) (i:=i) oM);refine .bp (let a:=decide ((((e.cells.getD i default)).aF)>=2147483647);[.r [(0,X (Xi bg e.cells (i:Int)))],.r [(6,Xv 1 (!a) X0),(8,Xv 2 (!a) X0),(9,X (b7 a))]]) (decide ((((e.cells.getD i default)).aF)>=2147483647)||decide ((((e.cells.getD i default)).aV)>=(cz aj))) (fun h9=> ?_) (fun h9=> ?_)
   ·exfalso;omega
   refine .back [.r [(0,X (Xn ((i:Int)+1)))]] [(0,0)] (wP ((i+1):Nat) ?_ ?_)
   ·
    (try dsimp only);omega
   exact tO
  refine .loop (α:=Nat) [.r [],.u,.r [],.t,.r [(0,X (Xa (Xc ((0:Int)<=0)) (Xc ((0:Int)< ((2:Nat):Int)))) ⟨dM,dM⟩)],.r [(1,X (Xl bE e.split))]] 272 (fun j=>([(7,VI 2147483647),(8,VI (cz aj)),(55,.t (.agg [TL 4 bE e.split,TL 4 bE e.merge])),(56,VI 0),(59,VL 4 bE e.split),(60,VI (e.split.length:Int)),(61,VI (j:Int))],[])) (fun j=>j=0) (fun j=>0) (0:Nat) ?_ ?_
  ·rfl
  rintro j uW uX;try dsimp only at uW
  refine .bp [.r []] (decide ((j:Int)< (e.split.length:Int))) (fun eO=> ?_) (fun eO=> ?_)
  ·exfalso;omega
  refine .loop (α:=Nat) [.r [],.u,.r [],.t,.r [(0,X (Xa (Xc ((0:Int)<=1)) (Xc ((1:Int)< ((2:Nat):Int)))) ⟨dM,dM⟩)],.r [(1,X (Xl bE e.merge))]] 344 (fun j=>([(7,VI 2147483647),(8,VI (cz aj)),(55,.t (.agg [TL 4 bE e.split,TL 4 bE e.merge])),(56,VI 1),(59,VL 4 bE e.merge),(60,VI (e.merge.length:Int)),(61,VI (j:Int))],[])) (fun j=>j=0) (fun j=>0) (0:Nat) ?_ ?_
  ·rfl
  rintro j uW uX;try dsimp only at uW
  refine .bp [.r []] (decide ((j:Int)< (e.merge.length:Int))) (fun eO=> ?_) (fun eO=> ?_)
  ·exfalso;omega
  exact .fin [.r [],.u,.r [],.f,.r []] []
 refine .loop (α:=Nat) [.r [(2,X (Xl bg e.cells))]] 112 (fun i=>([(3,.ptr 0 0),(7,VI 2147483647),(8,VI 2147483647),(34,VL 5 bg e.cells),(35,VI (e.cells.length:Int)),(36,VI (i:Int))],[(0,.box [VL 2 bk e.ak,VL 2 bk e.aj,VL 5 bg e.cells,VL 4 bE e.split,VL 4 bE e.merge])])) (fun i=>i<=e.cells.length) (fun i=>e.cells.length-i) (0:Nat) ?_ ?_
 ·
  (try dsimp only);omega
 rintro i I7 wP;try dsimp only at I7
 first|rw[if_pos (show 0<ak.length by omega)] at hx|rw[if_neg (show¬0<ak.length by omega)] at hx
 first|rw[if_pos (show 0<aj.length by omega)] at hx|rw[if_neg (show¬0<aj.length by omega)] at hx
 refine .bp [.r []] (decide ((i:Int)< (e.cells.length:Int))) (fun h7=> ?_) (fun h7=> ?_)
 ·have hm:=hx _ (fE (l:=e.cells) (i:=i) oM);refine .bp (let a:=decide ((((e.cells.getD i default)).aF)>=2147483647);[.r [(0,X (Xi bg e.cells (i:Int)))],.r [(6,Xv 1 (!a) X0),(8,Xv 2 (!a) X0),(9,X (b7 a))]]) (decide ((((e.cells.getD i default)).aF)>=2147483647)||decide ((((e.cells.getD i default)).aV)>=2147483647)) (fun h9=> ?_) (fun h9=> ?_)
  ·exfalso;omega
  refine .back [.r [(0,X (Xn ((i:Int)+1)))]] [(0,0)] (wP ((i+1):Nat) ?_ ?_)
  ·
   (try dsimp only);omega
  exact tO
 refine .loop (α:=Nat) [.r [],.u,.r [],.t,.r [(0,X (Xa (Xc ((0:Int)<=0)) (Xc ((0:Int)< ((2:Nat):Int)))) ⟨dM,dM⟩)],.r [(1,X (Xl bE e.split))]] 216 (fun j=>([(7,VI 2147483647),(8,VI 2147483647),(55,.t (.agg [TL 4 bE e.split,TL 4 bE e.merge])),(56,VI 0),(59,VL 4 bE e.split),(60,VI (e.split.length:Int)),(61,VI (j:Int))],[])) (fun j=>j=0) (fun j=>0) (0:Nat) ?_ ?_
 ·rfl
 rintro j uW uX;try dsimp only at uW
 refine .bp [.r []] (decide ((j:Int)< (e.split.length:Int))) (fun eO=> ?_) (fun eO=> ?_)
 ·exfalso;omega
 refine .loop (α:=Nat) [.r [],.u,.r [],.t,.r [(0,X (Xa (Xc ((0:Int)<=1)) (Xc ((1:Int)< ((2:Nat):Int)))) ⟨dM,dM⟩)],.r [(1,X (Xl bE e.merge))]] 288 (fun j=>([(7,VI 2147483647),(8,VI 2147483647),(55,.t (.agg [TL 4 bE e.split,TL 4 bE e.merge])),(56,VI 1),(59,VL 4 bE e.merge),(60,VI (e.merge.length:Int)),(61,VI (j:Int))],[])) (fun j=>j=0) (fun j=>0) (0:Nat) ?_ ?_
 ·rfl
 rintro j uW uX;try dsimp only at uW
 refine .bp [.r []] (decide ((j:Int)< (e.merge.length:Int))) (fun eO=> ?_) (fun eO=> ?_)
 ·exfalso;omega
 exact .fin [.r [],.u,.r [],.f,.r []] []
theorem x98(l:List Cell)(t:Cell)(hn:l.length<=100000000000)(hs:BH l):FC Tryz.prog 206 [VL 5 bg l,.t (bg t),.fn 185 []] (app emp []) (.aZ [VI (mW l t:Int),VB (jy l t)]) (app emp []):=by
 refine .go Tryz.f206 ?_;refine .len 0 (fun dQ=> ?_);obtain⟨s1,s2,s3⟩:=Jt l t;refine .loop (α:=Nat×Nat) [.r [],.r [(1,X (Xl bg l))],.r []] 72 (fun(i,j)=>([(0,VL 5 bg l),(2,.fn 185 []),(4,.ptr 0 0),(8,VI (l.length:Int)),(9,VI (i:Int)),(10,VI (j:Int))],[(0,.box [VI t.aF,VI t.aV,VS t.text,VI t.bh,VL 2 aS t.ah])])) (fun(i,j)=>i<=mW l t/\mW l t<=j/\j<=l.length) (fun(i,j)=>j-i) (0,l.length) ?_ ?_
 ·exact⟨by omega,by omega,by omega⟩
 rintro⟨i,j⟩ I3 cC;try dsimp only at I3
 refine .bp [.r []] (decide ((i:Int)< (j:Int))) (fun h3=> ?_) (fun h3=> ?_)
 ·obtain⟨m,hm⟩:∃m:Nat,((i:Int)+(j:Int))/2=(m:Int):=⟨(i+j)/2,by omega⟩
  refine .bp [.r [(2,X (Xn ((i:Int)+(j:Int)))),(3,X (Lj IntKind.u64 ((i:Int)+(j:Int))) (by simp[IntKind.wrap,IntKind.bits,IntKind.signed];omega)),(4,X (Ll IntKind.u64 1 (((i:Int)+(j:Int)).fdiv (2^(min (1:Int).toNat IntKind.u64.bits))) (((i:Int)+(j:Int))/2)) ⟨by decide,(by rw[Int.fdiv_eq_ediv_of_nonneg _ (by decide)];rfl)⟩),(5,X (Xn (((i:Int)+(j:Int))/2)))],.le (.eq 11 (VI (((i:Int)+(j:Int))/2)) (VI (m:Int)) (.of_eq (by rw[<-hm]))),.r [(3,X (Xi bg l (m:Int))),(6,X (aW (IW ((l.getD m default)) t) X0))]] (decide ((eF ((l.getD m default)) t)< 0)) (fun h5=> ?_) (fun h5=> ?_)
  ·refine .back [.r [(1,X (Xn ((m:Int)+1)))]] [(0,0)] (cC ((m+1),j) ?_ ?_)
   ·have:=x7Z hs (m:=m) (by omega) h5;exact⟨by omega,by omega,by omega⟩
   ((try dsimp only);omega)
  refine .back [.r []] [(0,0)] (cC (i,m) ?_ ?_)
  ·have:=x2h (l:=l) (t:=t) (m:=m) (by omega);exact⟨by omega,by omega,by omega⟩
  ((try dsimp only);omega)
 have hi:i=mW l t:=by omega
 have e1:((mW l t:Int):Int)=(i:Int):=by
  first|omega| (unfold jy;rw[<-hi])
 have e2:((jy l t):Bool)=(decide ((i:Int)< (l.length:Int))&&((eF ((l.getD i default)) t)==0)):=by
  first|omega| (unfold jy;rw[<-hi])
 exact .aG [.r [(8,Xv 2 (decide ((i:Int)< (l.length:Int))) (Xi bg l (i:Int))),(9,Xv 1 (decide ((i:Int)< (l.length:Int))) X0),(11,Xv 3 (decide ((i:Int)< (l.length:Int))) (aW (IW ((l.getD i default)) t) X0)),(12,Xv 1 (decide ((i:Int)< (l.length:Int))) X0),(13,X (Xk (decide ((i:Int)< (l.length:Int)))))]] [] (fun((z0,z1):Int×Bool)=>(.aZ [VI z0,VB z1],[])) _ _ (pr e1 e2)
theorem x8l(l:List Cell)(m n:Int)(hn:l.length<=100000000000)(hs:BH l):FC Tryz.prog 159 [VL 5 bg l,VI m,VI n] (app emp []) (.aZ [VI (mW l (⟨m,n,{data:=#[]},0,[]⟩:Cell):Int),VB (jy l (⟨m,n,{data:=#[]},0,[]⟩:Cell))]) (app emp []):=by
 refine .go Tryz.f159 ?_;refine .len 0 (fun dQ=> ?_);have e1:((mW l (⟨m,n,{data:=#[]},0,[]⟩:Cell):Int):Int)=(mW l ({aF:=m,aV:=n,text:={data:=#[]},bh:=0,ah:=[]}:Cell):Int):=by
  (first|omega|with_reducible exact fun h=>h| (intro hq;rw[hq];done)| (intro hq;rw[hq];rfl)| (simp only[qj];done)| (simp only[qj];omega)| (simp;omega)| (simp;done))
 have e2:((jy l (⟨m,n,{data:=#[]},0,[]⟩:Cell)):Bool)=(jy l ({aF:=m,aV:=n,text:={data:=#[]},bh:=0,ah:=[]}:Cell)):=by
  (first|omega|with_reducible exact fun h=>h| (intro hq;rw[hq];done)| (intro hq;rw[hq];rfl)| (simp only[qj];done)| (simp only[qj];omega)| (simp;omega)| (simp;done))
 exact .aG [.r [],.r [(3,X (Xf [(4,2)])),(4,X (aW (x98 l ({aF:=m,aV:=n,text:={data:=#[]},bh:=0,ah:=[]}:Cell) oM aM) X0))]] [] (fun((z0,z1):Int×Bool)=>(.aZ [VI z0,VB z1],[])) _ _ (pr e1 e2)
theorem y8t(c:Cell)(yr yc:List aA)(y:List Cell)(ys ym:List eo)(hyn:y.length<=100000000000)(G4:BH y):FC Tryz.prog 158 [.t (bg c),.ptr 0 0] (app emp [(0,.box [VL 2 bk yr,VL 2 bk yc,VL 5 bg y,VL 4 bE ys,VL 4 bE ym])]) (VB (jy y (⟨c.aF,c.aV,{data:=#[]},0,[]⟩:Cell))) (app emp [(0,.box [VL 2 bk yr,VL 2 bk yc,VL 5 bg y,VL 4 bE ys,VL 4 bE ym])]):=by
 refine .go Tryz.f158 ?_;exact .fin [.r [],.r [(6,X (aW (x8l y c.aF c.aV oM aM) X0))],.r []] [(0,0)]
theorem x2S(l:List Cell)(yr yc:List aA)(y:List Cell)(ys ym:List eo)(hyn:y.length<=100000000000)(G4:BH y)(hn:l.length<=100000000000):FC Tryz.prog 205 [.aF 0 l.length,.fn 158 [.ptr 1 0]] (app emp [(0,OR 5 bg l),(1,.box [VL 2 bk yr,VL 2 bk yc,VL 5 bg y,VL 4 bE ys,VL 4 bE ym])]) (VI (gw (fun c:Cell=>jy y (⟨c.aF,c.aV,{data:=#[]},0,[]⟩:Cell)) l 0)) (app emp [(0,OR 5 bg l),(1,.box [VL 2 bk yr,VL 2 bk yc,VL 5 bg y,VL 4 bE ys,VL 4 bE ym])]):=by
 refine .go Tryz.f205 ?_;refine .loop (α:=Nat) [.r [],.r []] 34 (fun i=>([(0,.aF 0 l.length),(1,.fn 158 [.ptr 1 0]),(7,VI (l.length:Int)),(8,VI (i:Int))],[(0,OR 5 bg l),(1,.box [VL 2 bk yr,VL 2 bk yc,VL 5 bg y,VL 4 bE ys,VL 4 bE ym])])) (fun i=>i<=l.length/\gw (fun c:Cell=>jy y (⟨c.aF,c.aV,{data:=#[]},0,[]⟩:Cell)) l 0=gw (fun c:Cell=>jy y (⟨c.aF,c.aV,{data:=#[]},0,[]⟩:Cell)) l i) (fun i=>l.length-i) (0:Nat) ?_ ?_
 ·exact⟨oM,rfl⟩
 rintro i I2 ic;try dsimp only at I2
 refine .bp [.r []] (decide ((i:Int)< (l.length:Int))) (fun h2=> ?_) (fun h2=> ?_)
 ·refine .bp [.r [],.r [(3,X (Xp bg l (i:Int))),(4,X (Xe bg l i)),(5,X (dV 98 [(0,1)] (y8t ((l.getD i default)) yr yc y ys ym aM aM) X0))]] (jy y (⟨(((l.getD i default))).aF,(((l.getD i default))).aV,{data:=#[]},0,[]⟩:Cell)) (fun h4=> ?_) (fun h4=> ?_)
  ·have e1:((gw (fun c:Cell=>jy y (⟨c.aF,c.aV,{data:=#[]},0,[]⟩:Cell)) l 0):Int)=(i:Int):=by
    rw[I2.2,gw,if_pos oM,if_pos h4]
   exact .aG [.r []] [(0,0),(1,1)] (fun z0:Int=>(VI z0,[(0,OR 5 bg l),(1,.box [VL 2 bk yr,VL 2 bk yc,VL 5 bg y,VL 4 bE ys,VL 4 bE ym])])) _ _ e1
  refine .back [.r [(0,X (Xn ((i:Int)+1)))]] [(0,0),(1,1)] (ic ((i+1):Nat) ?_ ?_)
  ·refine⟨oM,?_⟩;rw[I2.2,gw,if_pos oM,if_neg (by rw[h4];decide)]
  exact tO
 have e2:((gw (fun c:Cell=>jy y (⟨c.aF,c.aV,{data:=#[]},0,[]⟩:Cell)) l 0):Int)= -1:=by
  rw[I2.2,gw,if_neg oM]
 exact .aG [.r []] [(0,0),(1,1)] (fun z0:Int=>(VI z0,[(0,OR 5 bg l),(1,.box [VL 2 bk yr,VL 2 bk yc,VL 5 bg y,VL 4 bE ys,VL 4 bE ym])])) _ _ e2
theorem x8m(l:List Cell)(yr yc:List aA)(y:List Cell)(ys ym:List eo)(hyn:y.length<=100000000000)(G4:BH y)(hn:l.length<=100000000000):FC Tryz.prog 157 [.aF 0 l.length,.fn 158 [.ptr 1 0]] (app emp [(0,OR 5 bg l),(1,.box [VL 2 bk yr,VL 2 bk yc,VL 5 bg y,VL 4 bE ys,VL 4 bE ym])]) (.aF 2 ((oK (fun c:Cell=>jy y (⟨c.aF,c.aV,{data:=#[]},0,[]⟩:Cell)) l).length)) (app emp [(0,.gone),(1,.box [VL 2 bk yr,VL 2 bk yc,VL 5 bg y,VL 4 bE ys,VL 4 bE ym]),(2,OR 5 bg (oK (fun c:Cell=>jy y (⟨c.aF,c.aV,{data:=#[]},0,[]⟩:Cell)) l))]):=by
 refine .go Tryz.f157 ?_;have sp:=y4z (fun c:Cell=>jy y (⟨c.aF,c.aV,{data:=#[]},0,[]⟩:Cell)) (l:=l) _ 0 rfl;refine .iJ [.r []] ?_;by_cases hd:0<=gw (fun c:Cell=>jy y (⟨c.aF,c.aV,{data:=#[]},0,[]⟩:Cell)) l 0
 ·obtain⟨k,hk,k1,k2,k3,k4⟩:=sp.resolve_left (fun q=>oM);refine .bp [.r [(2,X (gB [(0,0),(1,1)] (x2S l yr yc y ys ym aM aM oM) X0))],.le (.eq 5 (VI (gw (fun c:Cell=>jy y (⟨c.aF,c.aV,{data:=#[]},0,[]⟩:Cell)) l 0)) (VI (k:Int)) (.of_eq (by rw[hk]))),.r []] ((k:Int)==(-1)) (fun h2=> ?_) (fun h2=> ?_)
  ·exfalso;omega
  refine .loop (α:=Nat×Nat×(List Cell)) [.r [(1,X (Xn ((k:Int)+1)))]] 82 (fun(i,j,o)=>([(0,.aF 0 o.length),(1,.fn 158 [.ptr 1 0]),(5,VI (i:Int)),(6,VI (j:Int))],[(0,OR 5 bg o),(1,.box [VL 2 bk yr,VL 2 bk yc,VL 5 bg y,VL 4 bE ys,VL 4 bE ym])])) (fun(i,j,o)=>kO (fun c:Cell=>jy y (⟨c.aF,c.aV,{data:=#[]},0,[]⟩:Cell)) l o i j) (fun(i,j,o)=>l.length-j) (k,(k+1),l) ?_ ?_
  ·exact kO.start k2 k3 k4
  rintro⟨i,j,o⟩ I5 mR
  replace I5:kO (fun c:Cell=>jy y (⟨c.aF,c.aV,{data:=#[]},0,[]⟩:Cell)) l o i j:=I5
  have il:=I5.len;have ilt:=I5.lt;have ile:=I5.le;refine .bp [.r []] (decide ((j:Int)< (o.length:Int))) (fun h5=> ?_) (fun h5=> ?_)
  ·refine .bp [.r [(2,X (Xp bg o (j:Int))),(3,X (Xe bg o j))],.r [(2,X (dV 178 [(0,1)] (y8t ((o.getD j default)) yr yc y ys ym aM aM) X0))]] (!(jy y (⟨(((o.getD j default))).aF,(((o.getD j default))).aV,{data:=#[]},0,[]⟩:Cell))) (fun h8=> ?_) (fun h8=> ?_)
   ·refine .back [.r [(3,X (Xp bg o (i:Int))),(4,X (Xs 5 bg 0 o i ((o.getD j default))))],.r [(1,X (Xn ((i:Int)+1)))],.r [(1,X (Xn ((j:Int)+1)))],.le (.eq 0 (.aF 0 o.length) (.aF 0 ((o.set i ((o.getD j default))).length)) (.of_eq (by simp only[zt])))] [(0,0),(1,1)] (mR ((i+1),(j+1),(o.set i ((o.getD j default)))) ?_ ?_)
    ·exact I5.bW oM h8
    exact tO
   refine .back [.r [(1,X (Xn ((j:Int)+1)))]] [(0,0),(1,1)] (mR (i,(j+1),o) ?_ ?_)
   ·exact I5.skip oM h8
   exact tO
  have M6:=I5.done oM;have e1:((oK (fun c:Cell=>jy y (⟨c.aF,c.aV,{data:=#[]},0,[]⟩:Cell)) l):List Cell)=(o.take i):=by
   first|exact M6.symm|rw[M6]
  have e2:((oK (fun c:Cell=>jy y (⟨c.aF,c.aV,{data:=#[]},0,[]⟩:Cell)) l).length:Nat)=(o.take i).length:=by
   first|exact M6.symm|rw[M6]
  exact .aG [.r [(2,X (Uq bg o.length o (i:Int))),(3,X (w2w bg o.length i o))],.r [(2,X (w0G bg 5 0 162 o.length i o (.agg [TI 0,TI 0,TS ({data:=#[]}),TI 0,TN]) (i:Int)))]] [(0,0),(1,1),(162,2)] (fun((z0,z1):(List Cell)×Nat)=>(.aF 2 z1,[(0,.gone),(1,.box [VL 2 bk yr,VL 2 bk yc,VL 5 bg y,VL 4 bE ys,VL 4 bE ym]),(2,OR 5 bg z0)])) _ _ (pr e1 e2)
 obtain⟨hk,gh⟩:=sp.resolve_right (fun⟨k,hk,q⟩=>oM);have e3:((oK (fun c:Cell=>jy y (⟨c.aF,c.aV,{data:=#[]},0,[]⟩:Cell)) l):List Cell)=l:=by
  first|exact MI gh|rw[MI gh]
 have e4:((oK (fun c:Cell=>jy y (⟨c.aF,c.aV,{data:=#[]},0,[]⟩:Cell)) l).length:Nat)=l.length:=by
  first|exact MI gh|rw[MI gh]
 exact .aG [.r [(2,X (gB [(0,0),(1,1)] (x2S l yr yc y ys ym aM aM oM) X0))],.le (.eq 5 (VI (gw (fun c:Cell=>jy y (⟨c.aF,c.aV,{data:=#[]},0,[]⟩:Cell)) l 0)) (VI (-1)) (.of_eq (by rw[hk]))),.r [],.t,.le (.mv 0 l.length (List.map bg l).length lm),.r []] [(0,0),(1,1),(58,2)] (fun((z0,z1):(List Cell)×Nat)=>(.aF 2 z1,[(0,.gone),(1,.box [VL 2 bk yr,VL 2 bk yc,VL 5 bg y,VL 4 bE ys,VL 4 bE ym]),(2,OR 5 bg z0)])) _ _ (pr e3 e4)
theorem x2T(l:List Cell)(ak aj:List aA)(hl:l.length<=100000000000)(ha:w5 1000000000000 l)(hr:∀c∈l,gv ak c.aF)(hc:∀c∈l,gv aj c.aV):FC Tryz.prog 155 [VL 5 bg l,VL 2 bk ak,VL 2 bk aj] (app emp []) (.aF 0 ((dY l ak aj).length)) (app emp [(0,OR 5 bg (dY l ak aj))]):=by
 refine .go Tryz.f155 ?_;refine .len 0 (fun dQ=> ?_);refine .len 1 (fun gW=> ?_);refine .len 2 (fun lU=> ?_);refine .loop (α:=Nat×(List Cell)) [.r [],.r [],.r [(1,X (Xl bg l))],.le (.nR 7 5)] 41 (fun(i,o)=>([(1,VL 2 bk ak),(2,VL 2 bk aj),(7,.aF 40 o.length),(14,VL 5 bg l),(15,VI (l.length:Int)),(16,VI (i:Int))],[(40,OR 5 bg o)])) (fun(i,o)=>i<=l.length/\o=dY (l.take i) ak aj) (fun(i,o)=>l.length-i) (0,[]) ?_ ?_
 ·exact⟨oM,rfl⟩
 rintro⟨i,o⟩ I3 cC;try dsimp only at I3
 have ol:o.length<=i:=by rw[I3.2];have:=Af (l.take i) ak aj;simp at this;omega
 refine .bp [.r []] (decide ((i:Int)< (l.length:Int))) (fun h3=> ?_) (fun h3=> ?_)
 ·have hm:=Rh (l:=l) (i:=i) oM;have ha1:=ha _ hm;have lR:=hr _ hm;have Fa:=hc _ hm;refine .bp [.r [(0,X (Xi bg l (i:Int)))],.r [(1,X (bV 89 (z80 ((l.getD i default)) oM) X0))],.r [(1,X (Xl bk ak))]] (decide ((ak.length:Int)> 0)) (fun h6=> ?_) (fun h6=> ?_)
  ·obtain⟨rz,OJ⟩:=lR oM;have u5:∀x∈[(l.getD i default).aF],0<=x/\x<cz ak:=fun x hx=>by(have:=qv.1 hx;omega)
   refine .bp (let a:=(((l.getD i default)));[.r [(4,X (bV 161 (FW ak [a.aF] aM aM sM) (cg bC [a.aF] X0)))],.r [(4,Xv 1 (!false) (Xi bC (List.map (fun x=>dK ak x 0 0) [a.aF]) 0)),(5,Xv 1 (!false) X0),(6,Xv 1 (!false) X0),(7,X (b7 false))]]) (false||decide (((List.map (fun x=>dK ak x 0 0) [(((l.getD i default))).aF]).getD 0 default)< 0)) (fun h8=> ?_) (fun h8=> ?_)
   ·
    skip
    refine .back [.r [(0,X (Xn ((i:Int)+1)))]] [(40,40)] (cC ((i+1),o) ?_ ?_)
    ·refine⟨oM,?_⟩;rw[vw oM,<-I3.2];unfold j6 fB;simp only[qU,zF,za] at*
     (repeat' split)<;>first|rfl| (simp;done)| (exfalso;omega)| (exfalso;simp_all;done)| (exfalso;simp_all;omega)
    exact tO
   refine .bp [.r [(1,X (Xi bC (List.map (fun x=>dK ak x 0 0) [(((l.getD i default))).aF]) 0))],.r [(1,X (Xl bk aj))]] (decide ((aj.length:Int)> 0)) (fun eE=> ?_) (fun eE=> ?_)
   ·obtain⟨mQ,kD⟩:=Fa oM;have Ho:∀x∈[(l.getD i default).aV],0<=x/\x<cz aj:=fun x hx=>by(have:=qv.1 hx;omega)
    refine .bp (let a:=(((l.getD i default)));[.r [(4,X (bV 369 (FW aj [a.aV] aM aM sM) (cg bC [a.aV] X0)))],.r [(4,Xv 1 (!false) (Xi bC (List.map (fun x=>dK aj x 0 0) [a.aV]) 0)),(5,Xv 1 (!false) X0),(6,Xv 1 (!false) X0),(7,X (b7 false))]]) (false||decide (((List.map (fun x=>dK aj x 0 0) [(((l.getD i default))).aV]).getD 0 default)< 0)) (fun fJ=> ?_) (fun fJ=> ?_)
    ·
     skip
     refine .back [.r [(0,X (Xn ((i:Int)+1)))]] [(40,40)] (cC ((i+1),o) ?_ ?_)
     ·refine⟨oM,?_⟩;rw[vw oM,<-I3.2];unfold j6 fB;simp only[qU,zF,za] at*
      (repeat' split)<;>first|rfl| (simp;done)| (exfalso;omega)| (exfalso;simp_all;done)| (exfalso;simp_all;omega)
     exact tO
    skip
    refine .back (let a:=(((l.getD i default)));[.r [(1,X (Xi bC (List.map (fun x=>dK aj x 0 0) [a.aV]) 0))],.r [(3,X (cg bg [({aF:=((List.map (fun x=>dK ak x 0 0) [a.aF]).getD 0 default),aV:=((List.map (fun x=>dK aj x 0 0) [a.aV]).getD 0 default),text:=a.text,bh:=a.bh,ah:=a.ah}:Cell)] (fK 5 bg 40 o [({aF:=((List.map (fun x=>dK ak x 0 0) [a.aF]).getD 0 default),aV:=((List.map (fun x=>dK aj x 0 0) [a.aV]).getD 0 default),text:=a.text,bh:=a.bh,ah:=a.ah}:Cell)])))],.r [(0,X (Xn ((i:Int)+1)))]]) [(40,40)] (cC ((i+1),(o++[({aF:=((List.map (fun x=>dK ak x 0 0) [(((l.getD i default))).aF]).getD 0 default),aV:=((List.map (fun x=>dK aj x 0 0) [(((l.getD i default))).aV]).getD 0 default),text:=(((l.getD i default))).text,bh:=(((l.getD i default))).bh,ah:=(((l.getD i default))).ah}:Cell)])) ?_ ?_)
    ·refine⟨oM,?_⟩;rw[vw oM,<-I3.2];unfold j6 fB;simp only[qU,zF,za] at*
     (repeat' split)<;>first|rfl| (simp;done)| (exfalso;omega)| (exfalso;simp_all;done)| (exfalso;simp_all;omega)
    exact tO
   skip
   refine .back (let a:=(((l.getD i default)));[.r [(3,X (cg bg [({aF:=((List.map (fun x=>dK ak x 0 0) [a.aF]).getD 0 default),aV:=a.aV,text:=a.text,bh:=a.bh,ah:=a.ah}:Cell)] (fK 5 bg 40 o [({aF:=((List.map (fun x=>dK ak x 0 0) [a.aF]).getD 0 default),aV:=a.aV,text:=a.text,bh:=a.bh,ah:=a.ah}:Cell)])))],.r [(0,X (Xn ((i:Int)+1)))]]) [(40,40)] (cC ((i+1),(o++[({aF:=((List.map (fun x=>dK ak x 0 0) [(((l.getD i default))).aF]).getD 0 default),aV:=(((l.getD i default))).aV,text:=(((l.getD i default))).text,bh:=(((l.getD i default))).bh,ah:=(((l.getD i default))).ah}:Cell)])) ?_ ?_)
   ·refine⟨oM,?_⟩;rw[vw oM,<-I3.2];unfold j6 fB;simp only[qU,zF,za] at*
    (repeat' split)<;>first|rfl| (simp;done)| (exfalso;omega)| (exfalso;simp_all;done)| (exfalso;simp_all;omega)
   exact tO
  refine .bp [.r [(1,X (Xl bk aj))]] (decide ((aj.length:Int)> 0)) (fun eE=> ?_) (fun eE=> ?_)
  ·obtain⟨mQ,kD⟩:=Fa oM;have Ho:∀x∈[(l.getD i default).aV],0<=x/\x<cz aj:=fun x hx=>by(have:=qv.1 hx;omega)
   refine .bp (let a:=(((l.getD i default)));[.r [(4,X (bV 185 (FW aj [a.aV] aM aM sM) (cg bC [a.aV] X0)))],.r [(4,Xv 1 (!false) (Xi bC (List.map (fun x=>dK aj x 0 0) [a.aV]) 0)),(5,Xv 1 (!false) X0),(6,Xv 1 (!false) X0),(7,X (b7 false))]]) (false||decide (((List.map (fun x=>dK aj x 0 0) [(((l.getD i default))).aV]).getD 0 default)< 0)) (fun fJ=> ?_) (fun fJ=> ?_)
   ·
    skip
    refine .back [.r [(0,X (Xn ((i:Int)+1)))]] [(40,40)] (cC ((i+1),o) ?_ ?_)
    ·refine⟨oM,?_⟩;rw[vw oM,<-I3.2];unfold j6 fB;simp only[qU,zF,za] at*
     (repeat' split)<;>first|rfl| (simp;done)| (exfalso;omega)| (exfalso;simp_all;done)| (exfalso;simp_all;omega)
    exact tO
   skip
   refine .back (let a:=(((l.getD i default)));[.r [(1,X (Xi bC (List.map (fun x=>dK aj x 0 0) [a.aV]) 0))],.r [(3,X (cg bg [({aF:=a.aF,aV:=((List.map (fun x=>dK aj x 0 0) [a.aV]).getD 0 default),text:=a.text,bh:=a.bh,ah:=a.ah}:Cell)] (fK 5 bg 40 o [({aF:=a.aF,aV:=((List.map (fun x=>dK aj x 0 0) [a.aV]).getD 0 default),text:=a.text,bh:=a.bh,ah:=a.ah}:Cell)])))],.r [(0,X (Xn ((i:Int)+1)))]]) [(40,40)] (cC ((i+1),(o++[({aF:=(((l.getD i default))).aF,aV:=((List.map (fun x=>dK aj x 0 0) [(((l.getD i default))).aV]).getD 0 default),text:=(((l.getD i default))).text,bh:=(((l.getD i default))).bh,ah:=(((l.getD i default))).ah}:Cell)])) ?_ ?_)
   ·refine⟨oM,?_⟩;rw[vw oM,<-I3.2];unfold j6 fB;simp only[qU,zF,za] at*
    (repeat' split)<;>first|rfl| (simp;done)| (exfalso;omega)| (exfalso;simp_all;done)| (exfalso;simp_all;omega)
   exact tO
  skip
  refine .back (let a:=(((l.getD i default)));[.r [(3,X (cg bg [a] (fK 5 bg 40 o [a])))],.r [(0,X (Xn ((i:Int)+1)))]]) [(40,40)] (cC ((i+1),(o++[(((l.getD i default)))])) ?_ ?_)
  ·refine⟨oM,?_⟩;rw[vw oM,<-I3.2];unfold j6 fB;simp only[qU,zF,za] at*
   (repeat' split)<;>first|rfl| (simp;done)| (exfalso;omega)| (exfalso;simp_all;done)| (exfalso;simp_all;omega)
  exact tO
 have ho:o=dY l ak aj:=by rw[I3.2,qk oM]
 have e1:((dY l ak aj):List Cell)=o:=by
  first|rw[I3.2,qk oM]
 have e2:((dY l ak aj).length:Nat)=o.length:=by
  first|rw[I3.2,qk oM]
 exact .aG [.r []] [(40,0)] (fun((z0,z1):(List Cell)×Nat)=>(.aF 0 z1,[(0,OR 5 bg z0)])) _ _ (pr e1 e2)
theorem x5a(a b:bP)(hi:sZ a b):FC Tryz.prog 99 [.t (rW a),.t (rW b)] (app emp []) (.aZ [.t (rW (z12 a b)),.t (rW (nD a b)),VI 0]) (app emp []):=by
 refine .go Tryz.f99 ?_;obtain⟨la,lb,ea,eb,hpr,hpc,v1,v2,w1,w2,ra,rb,pa1,pa2,pb1,pb2,pz,len⟩:=hi;have hla:=la.lY;have hlb:=lb.lY;have n1:=la.ln;have n2:=lb.ln;have s1:a.split.length=0:=by rw[la.sp];rfl
 have s2:a.merge.length=0:=by rw[la.me];rfl
 have s3:b.split.length=0:=by rw[lb.sp];rfl
 have s4:b.merge.length=0:=by rw[lb.me];rfl
 have ca:w5 1000000000000 a.cells:=fun c hc=>by rw[(la.ce c hc).1];decide
 have cb:w5 1000000000000 b.cells:=fun c hc=>by rw[(lb.ce c hc).1];decide
 have mla:=Af a.cells (pB a.ak b.ak) (pB a.aj b.aj);have mlb:=Af b.cells (pA a.ak b.ak) (pA a.aj b.aj);refine .bp [.r [],.r [],.u,.r [],.t,.r [(0,X (Xa (Xc ((0:Int)<=0)) (Xc ((0:Int)< ((2:Nat):Int)))) ⟨by decide,by decide⟩)],.r [(1,X (aW (LV a (by assumption)) X0))],.r []] ((jF a) !=0) (fun h5=> ?_) (fun h5=> ?_)
 ·exfalso;omega
 refine .bp [.r [],.u,.r [],.t,.r [(0,X (Xa (Xc ((0:Int)<=1)) (Xc ((1:Int)< ((2:Nat):Int)))) ⟨by decide,by decide⟩)],.r [(1,X (aW (LV b (by assumption)) X0))],.r []] ((jF b) !=0) (fun h5=> ?_) (fun h5=> ?_)
 ·exfalso;omega
 refine .bp [.r [],.u,.r [],.f,.r [(4,X (bV 288 (y0C a.ak b.ak (by omega) (by omega) (by assumption)) X0))],.r [],.f,.r [(4,X (bV 400 (y0C a.aj b.aj (by omega) (by omega) (by assumption)) X0))],.r [],.f,.r [(3,X (aW (y8s a (pB a.ak b.ak) (pB a.aj b.aj) (by assumption) (by assumption) (by assumption) (by assumption)) X0)),(9,Xv 3 (!false) (aW (y8s b (pA a.ak b.ak) (pA a.aj b.aj) (by assumption) (by assumption) (by assumption) (by assumption)) X0)),(10,Xv 1 (!false) X0),(11,X (b7 false))]] (false||false) (fun eN=> ?_) (fun eN=> ?_)
 ·exfalso;simp at eN
 have e1:((z12 a b):bP)=({ak:=(pA a.ak b.ak),aj:=(pA a.aj b.aj),cells:=(oK (fun c:Cell=>jy (dY b.cells (pA a.ak b.ak) (pA a.aj b.aj)) (⟨c.aF,c.aV,{data:=#[]},0,[]⟩:Cell)) (dY a.cells (pB a.ak b.ak) (pB a.aj b.aj))),split:=([]:List eo),merge:=([]:List eo)}:bP):=by
  rfl
 have e2:((nD a b):bP)=({ak:=(pB a.ak b.ak),aj:=(pB a.aj b.aj),cells:=(dY b.cells (pA a.ak b.ak) (pA a.aj b.aj)),split:=([]:List eo),merge:=([]:List eo)}:bP):=by
  rfl
 exact .bA [.r [(6,X (bV 624 (x2T a.cells (pB a.ak b.ak) (pB a.aj b.aj) (by omega) (by assumption) (by assumption) (by assumption)) X0)),(11,X (bV 664 (M5 a.split (pB a.ak b.ak) (pB a.aj b.aj) (by omega)) X0)),(16,X (bV 704 (M5 a.merge (pB a.ak b.ak) (pB a.aj b.aj) (by omega)) X0))],.r [(6,X (bV 784 (Ya b.cells (pA a.ak b.ak) (pA a.aj b.aj) (by omega) (by assumption) (by assumption) (by assumption)) X0)),(11,X (bV 824 (M5 b.split (pA a.ak b.ak) (pA a.aj b.aj) (by omega)) X0)),(16,X (bV 864 (M5 b.merge (pA a.ak b.ak) (pA a.aj b.aj) (by omega)) X0))],.r [(3,X (dV 920 [(0,624),(1,880)] (x8m (dY a.cells (pB a.ak b.ak) (pB a.aj b.aj)) (pB a.ak b.ak) (pB a.aj b.aj) (dY b.cells (pA a.ak b.ak) (pA a.aj b.aj)) ([]:List eo) ([]:List eo) (by omega) (by assumption) (by omega)) X0))],.r []] [.fR 0 [(((oK (fun c:Cell=>jy (dY b.cells (pA a.ak b.ak) (pA a.aj b.aj)) (⟨c.aF,c.aV,{data:=#[]},0,[]⟩:Cell)) (dY a.cells (pB a.ak b.ak) (pB a.aj b.aj))).length):Nat)=(List.map bg (oK (fun c:Cell=>jy (dY b.cells (pA a.ak b.ak) (pA a.aj b.aj)) (⟨c.aF,c.aV,{data:=#[]},0,[]⟩:Cell)) (dY a.cells (pB a.ak b.ak) (pB a.aj b.aj)))).length] ⟨lm,trivial⟩] [] (fun((z0,z1):bP×bP)=>(.aZ [.t (rW z0),.t (rW z1),VI 0],[])) _ _ (pr e1 e2)
theorem y4M(r:Ref)(hr:r=w2o)(ak aj:List aA)(v1:eR ak)(v2:eR aj):FC Tryz.prog 209 [.t (nE r),VL 2 bk ak,VL 2 bk aj] (app emp []) (.aZ [.t (nE (lC ak aj)),VI 0]) (app emp []):=by
 refine .go Tryz.f209 ?_;refine .len 1 (fun gW=> ?_);refine .len 2 (fun lU=> ?_);have k0:r.af=0:=by rw[hr];rfl
 have k1:r.bu.size=0:=by rw[hr];rfl
 have k2:r.aF=0/\r.aV=0/\r.dI=0/\r.dZ=0:=by rw[hr];exact⟨rfl,rfl,rfl,rfl⟩
 have k3:r.f1=false/\r.f2=false/\r.f3=false/\r.f4=false:=by rw[hr];exact⟨rfl,rfl,rfl,rfl⟩
 have c1:=wo.2 v1;have c2:=wo.2 v2;have b1:=x6n v1;have b2:=x6n v2;refine .bp [.r [],.r [(1,X (aW (y9x r (by first|assumption|rfl)) X0))],.r [],.f,.r [],.u,.r [],.t,.r [(0,X (Xa (Xc ((0:Int)<=0)) (Xc ((0:Int)< ((2:Nat):Int)))) ⟨dM,dM⟩)],.r [(1,X (aW (Ae ak) X0))],.r []] ((jT ak) !=0) (fun h8=> ?_) (fun h8=> ?_)
 ·exfalso;omega
 refine .bp [.r [],.u,.r [],.t,.r [(0,X (Xa (Xc ((0:Int)<=1)) (Xc ((1:Int)< ((2:Nat):Int)))) ⟨dM,dM⟩)],.r [(1,X (aW (Ae aj) X0))],.r []] ((jT aj) !=0) (fun h8=> ?_) (fun h8=> ?_)
 ·exfalso;omega
 refine .bp [.r [],.u,.r [],.f,.r []] (r.af==4) (fun gO=> ?_) (fun gO=> ?_)
 ·exfalso;omega
 refine .bp [.r []] (r.af==0) (fun fe=> ?_) (fun fe=> ?_)
 ·refine .bp [.r [],.r [],.r []] (r.af !=3) (fun eO=> ?_) (fun eO=> ?_)
  ·refine .bp [.r [(5,X (aW (Gv ak r.aF r.aF oM oM aM) X0))],.r [(5,X (Xk (r.af !=2)))]] ((r.af !=2)&&(dG ak).found) (fun lV=> ?_) (fun lV=> ?_)
   ·refine .bp [.r [(5,X (aW (Gv aj r.aV r.aV oM oM aM) X0))],.r []] (!((dG aj).found)) (fun rE=> ?_) (fun rE=> ?_)
    ·have e1:((lC ak aj):Ref)=({bu:={data:=#[]},af:=4,aF:=0,aV:=0,dI:=0,dZ:=0,f1:=false,f2:=false,f3:=false,f4:=false}:Ref):=by
      unfold lC;subst hr;cases hR:(dG ak).found<;>cases hC:(dG aj).found<;>first|rfl| (exfalso;simp_all;done)
     exact .bA [.r []] [] [] (fun z0:Ref=>(.aZ [.t (nE z0),VI 0],[])) _ _ e1
    have e2:((lC ak aj):Ref)=((vI ({bu:=r.bu,af:=r.af,aF:=(dG ak).first,aV:=(dG aj).first,dI:=(dG ak).last,dZ:=(dG aj).last,f1:=r.f1,f2:=r.f2,f3:=r.f3,f4:=r.f4}:Ref))):=by
     unfold lC;subst hr;cases hR:(dG ak).found<;>cases hC:(dG aj).found<;>first|rfl| (exfalso;simp_all;done)
    exact .bA [.r [(1,X (aW (Dc ({bu:=r.bu,af:=r.af,aF:=(dG ak).first,aV:=(dG aj).first,dI:=(dG ak).last,dZ:=(dG aj).last,f1:=r.f1,f2:=r.f2,f3:=r.f3,f4:=r.f4}:Ref) (by first|assumption|rfl) (by(try simp only);omega)) X0))]] [] [] (fun z0:Ref=>(.aZ [.t (nE z0),VI 0],[])) _ _ e2
   refine .bp [.r []] (!((dG ak).found)) (fun rE=> ?_) (fun rE=> ?_)
   ·have e3:((lC ak aj):Ref)=({bu:={data:=#[]},af:=4,aF:=0,aV:=0,dI:=0,dZ:=0,f1:=false,f2:=false,f3:=false,f4:=false}:Ref):=by
     unfold lC;subst hr;cases hR:(dG ak).found<;>cases hC:(dG aj).found<;>first|rfl| (exfalso;simp_all;done)
    exact .bA [.r []] [] [] (fun z0:Ref=>(.aZ [.t (nE z0),VI 0],[])) _ _ e3
   have e4:((lC ak aj):Ref)=((vI ({bu:=r.bu,af:=r.af,aF:=(dG ak).first,aV:=r.aV,dI:=(dG ak).last,dZ:=r.aV,f1:=r.f1,f2:=r.f2,f3:=r.f3,f4:=r.f4}:Ref))):=by
    unfold lC;subst hr;cases hR:(dG ak).found<;>cases hC:(dG aj).found<;>first|rfl| (exfalso;simp_all;done)
   exact .bA [.r [(1,X (aW (Dc ({bu:=r.bu,af:=r.af,aF:=(dG ak).first,aV:=r.aV,dI:=(dG ak).last,dZ:=r.aV,f1:=r.f1,f2:=r.f2,f3:=r.f3,f4:=r.f4}:Ref) (by first|assumption|rfl) (by(try simp only);omega)) X0))]] [] [] (fun z0:Ref=>(.aZ [.t (nE z0),VI 0],[])) _ _ e4
  refine .bp [.r [(5,X (Xk (r.af !=2)))]] ((r.af !=2)||false) (fun lV=> ?_) (fun lV=> ?_)
  ·refine .bp [.r [(5,X (aW (Gv aj r.aV r.aV oM oM aM) X0))],.r []] (!((dG aj).found)) (fun rE=> ?_) (fun rE=> ?_)
   ·have e5:((lC ak aj):Ref)=({bu:={data:=#[]},af:=4,aF:=0,aV:=0,dI:=0,dZ:=0,f1:=false,f2:=false,f3:=false,f4:=false}:Ref):=by
     unfold lC;subst hr;cases hR:(dG ak).found<;>cases hC:(dG aj).found<;>first|rfl| (exfalso;simp_all;done)
    exact .bA [.r []] [] [] (fun z0:Ref=>(.aZ [.t (nE z0),VI 0],[])) _ _ e5
   have e6:((lC ak aj):Ref)=((vI ({bu:=r.bu,af:=r.af,aF:=r.aF,aV:=(dG aj).first,dI:=r.aF,dZ:=(dG aj).last,f1:=r.f1,f2:=r.f2,f3:=r.f3,f4:=r.f4}:Ref))):=by
    unfold lC;subst hr;cases hR:(dG ak).found<;>cases hC:(dG aj).found<;>first|rfl| (exfalso;simp_all;done)
   exact .bA [.r [(1,X (aW (Dc ({bu:=r.bu,af:=r.af,aF:=r.aF,aV:=(dG aj).first,dI:=r.aF,dZ:=(dG aj).last,f1:=r.f1,f2:=r.f2,f3:=r.f3,f4:=r.f4}:Ref) (by first|assumption|rfl) (by(try simp only);omega)) X0))]] [] [] (fun z0:Ref=>(.aZ [.t (nE z0),VI 0],[])) _ _ e6
  have e7:((lC ak aj):Ref)=((vI ({bu:=r.bu,af:=r.af,aF:=r.aF,aV:=r.aV,dI:=r.aF,dZ:=r.aV,f1:=r.f1,f2:=r.f2,f3:=r.f3,f4:=r.f4}:Ref))):=by
   unfold lC;subst hr;cases hR:(dG ak).found<;>cases hC:(dG aj).found<;>first|rfl| (exfalso;simp_all;done)
  exact .bA [.r [],.f,.r [(1,X (aW (Dc ({bu:=r.bu,af:=r.af,aF:=r.aF,aV:=r.aV,dI:=r.aF,dZ:=r.aV,f1:=r.f1,f2:=r.f2,f3:=r.f3,f4:=r.f4}:Ref) (by first|assumption|rfl) (by(try simp only);omega)) X0))]] [] [] (fun z0:Ref=>(.aZ [.t (nE z0),VI 0],[])) _ _ e7
 refine .bp [.r [],.r []] (r.af !=3) (fun eO=> ?_) (fun eO=> ?_)
 ·refine .bp [.r [(5,X (aW (Gv ak r.aF r.dI oM oM aM) X0))],.r [(5,X (Xk (r.af !=2)))]] ((r.af !=2)&&(dG ak).found) (fun lV=> ?_) (fun lV=> ?_)
  ·refine .bp [.r [(5,X (aW (Gv aj r.aV r.dZ oM oM aM) X0))],.r []] (!((dG aj).found)) (fun rE=> ?_) (fun rE=> ?_)
   ·have e8:((lC ak aj):Ref)=({bu:={data:=#[]},af:=4,aF:=0,aV:=0,dI:=0,dZ:=0,f1:=false,f2:=false,f3:=false,f4:=false}:Ref):=by
     unfold lC;subst hr;cases hR:(dG ak).found<;>cases hC:(dG aj).found<;>first|rfl| (exfalso;simp_all;done)
    exact .bA [.r []] [] [] (fun z0:Ref=>(.aZ [.t (nE z0),VI 0],[])) _ _ e8
   have e9:((lC ak aj):Ref)=((vI ({bu:=r.bu,af:=r.af,aF:=(dG ak).first,aV:=(dG aj).first,dI:=(dG ak).last,dZ:=(dG aj).last,f1:=r.f1,f2:=r.f2,f3:=r.f3,f4:=r.f4}:Ref))):=by
    unfold lC;subst hr;cases hR:(dG ak).found<;>cases hC:(dG aj).found<;>first|rfl| (exfalso;simp_all;done)
   exact .bA [.r [(1,X (aW (Dc ({bu:=r.bu,af:=r.af,aF:=(dG ak).first,aV:=(dG aj).first,dI:=(dG ak).last,dZ:=(dG aj).last,f1:=r.f1,f2:=r.f2,f3:=r.f3,f4:=r.f4}:Ref) (by first|assumption|rfl) (by(try simp only);omega)) X0))]] [] [] (fun z0:Ref=>(.aZ [.t (nE z0),VI 0],[])) _ _ e9
  refine .bp [.r []] (!((dG ak).found)) (fun rE=> ?_) (fun rE=> ?_)
  ·have kE:((lC ak aj):Ref)=({bu:={data:=#[]},af:=4,aF:=0,aV:=0,dI:=0,dZ:=0,f1:=false,f2:=false,f3:=false,f4:=false}:Ref):=by
    unfold lC;subst hr;cases hR:(dG ak).found<;>cases hC:(dG aj).found<;>first|rfl| (exfalso;simp_all;done)
   exact .bA [.r []] [] [] (fun z0:Ref=>(.aZ [.t (nE z0),VI 0],[])) _ _ kE
  have lg:((lC ak aj):Ref)=((vI ({bu:=r.bu,af:=r.af,aF:=(dG ak).first,aV:=r.aV,dI:=(dG ak).last,dZ:=r.dZ,f1:=r.f1,f2:=r.f2,f3:=r.f3,f4:=r.f4}:Ref))):=by
   unfold lC;subst hr;cases hR:(dG ak).found<;>cases hC:(dG aj).found<;>first|rfl| (exfalso;simp_all;done)
  exact .bA [.r [(1,X (aW (Dc ({bu:=r.bu,af:=r.af,aF:=(dG ak).first,aV:=r.aV,dI:=(dG ak).last,dZ:=r.dZ,f1:=r.f1,f2:=r.f2,f3:=r.f3,f4:=r.f4}:Ref) (by first|assumption|rfl) (by(try simp only);omega)) X0))]] [] [] (fun z0:Ref=>(.aZ [.t (nE z0),VI 0],[])) _ _ lg
 refine .bp [.r [(5,X (Xk (r.af !=2)))]] ((r.af !=2)||false) (fun lV=> ?_) (fun lV=> ?_)
 ·refine .bp [.r [(5,X (aW (Gv aj r.aV r.dZ oM oM aM) X0))],.r []] (!((dG aj).found)) (fun rE=> ?_) (fun rE=> ?_)
  ·have lu:((lC ak aj):Ref)=({bu:={data:=#[]},af:=4,aF:=0,aV:=0,dI:=0,dZ:=0,f1:=false,f2:=false,f3:=false,f4:=false}:Ref):=by
    unfold lC;subst hr;cases hR:(dG ak).found<;>cases hC:(dG aj).found<;>first|rfl| (exfalso;simp_all;done)
   exact .bA [.r []] [] [] (fun z0:Ref=>(.aZ [.t (nE z0),VI 0],[])) _ _ lu
  have nP:((lC ak aj):Ref)=((vI ({bu:=r.bu,af:=r.af,aF:=r.aF,aV:=(dG aj).first,dI:=r.dI,dZ:=(dG aj).last,f1:=r.f1,f2:=r.f2,f3:=r.f3,f4:=r.f4}:Ref))):=by
   unfold lC;subst hr;cases hR:(dG ak).found<;>cases hC:(dG aj).found<;>first|rfl| (exfalso;simp_all;done)
  exact .bA [.r [(1,X (aW (Dc ({bu:=r.bu,af:=r.af,aF:=r.aF,aV:=(dG aj).first,dI:=r.dI,dZ:=(dG aj).last,f1:=r.f1,f2:=r.f2,f3:=r.f3,f4:=r.f4}:Ref) (by first|assumption|rfl) (by(try simp only);omega)) X0))]] [] [] (fun z0:Ref=>(.aZ [.t (nE z0),VI 0],[])) _ _ nP
 have nQ:((lC ak aj):Ref)=((vI r)):=by
  unfold lC;subst hr;cases hR:(dG ak).found<;>cases hC:(dG aj).found<;>first|rfl| (exfalso;simp_all;done)
 exact .bA [.r [],.f,.r [(1,X (aW (Dc r (by first|assumption|rfl) (by(try simp only);omega)) X0))]] [] [] (fun z0:Ref=>(.aZ [.t (nE z0),VI 0],[])) _ _ nQ
theorem x5b(s p:ByteArray)(hs:s.size=0)(hp:0<p.size):FC Tryz.prog 304 [VS s,VS p] (app emp []) (VB false) (app emp []):=by
 refine .go Tryz.f304 ?_;have e1:((decide ((s.size:Int)>=(p.size:Int))&&seq (s.extract ((0:Int)).toNat (((p.size:Int):Int)).toNat) p):Bool)=false:=by
  first|rfl| (rw[decide_eq_false (by omega)];rfl)
 exact .aG [.r [],.r [(8,Xv 1 (decide ((s.size:Int)>=(p.size:Int))) X0),(9,Xv 2 (decide ((s.size:Int)>=(p.size:Int))) (Xa (Xc ((0:Int)<=0)) (Xa (Xc ((0:Int)<=(p.size:Int))) (Xc (((p.size:Int):Int)<=(s.size:Int)))))),(11,Xv 2 (decide ((s.size:Int)>=(p.size:Int))) X0),(12,X (Xk (decide ((s.size:Int)>=(p.size:Int)))))]] [] (fun z0:Bool=>(VB z0,[])) _ _ e1.symm
theorem x8n(s p:ByteArray)(hs:s.size=0)(hp:0<p.size):FC Tryz.prog 272 [VS s,VS p] (app emp []) (VB false) (app emp []):=by
 refine .go Tryz.f272 ?_;exact .fin [.r [],.r [(2,X (aW (x5b s p oM (by first|omega|decide)) X0))]] []
theorem x5c(s:ByteArray)(hs:s.size=0):FC Tryz.prog 241 [VS s] (app emp []) (.aZ [VL 2 scT ([]:List Gu),VI 0,VI 10]) (app emp []):=by
 refine .go Tryz.f241 ?_;have e1:(([]:List Gu):List Gu)=[]:=by
  (first|omega|with_reducible exact fun h=>h| (intro hq;rw[hq];done)| (intro hq;rw[hq];rfl)| (simp only[qj];done)| (simp only[qj];omega)| (simp;omega)| (simp;done))
 exact .aG [.r [],.r [(1,X (aW (x8n s ({data:=#[61]}) oM (by first|omega|decide)) X0))],.t,.r [],.le (.nL 2 2)] [] (fun z0:List Gu=>(.aZ [VL 2 scT z0,VI 0,VI 10],[])) _ _ e1
theorem y4N(s:ByteArray)(nm:ByteArray)(ow:Bool)(ak aj:List aA)(hs:s.size=0):FC Tryz.prog 210 [VS s,.fn 211 [.ptr 0 0,.ptr 1 0,.ptr 2 0,.ptr 3 0]] (app emp [(0,.box [VS nm]),(1,.box [VB ow]),(2,.box [VL 2 bk ak]),(3,.box [VL 2 bk aj])]) (VS s) (app emp [(0,.box [VS nm]),(1,.box [VB ow]),(2,.box [VL 2 bk ak]),(3,.box [VL 2 bk aj])]):=by
 refine .go Tryz.f210 ?_;exact .fin [.r [],.r [(1,X (bV 20 (x5c s oM) X0))],.r [],.t,.r []] [(0,0),(1,1),(2,2),(3,3)]
theorem y9z(s:ByteArray)(nm:ByteArray)(ow:Bool)(ak aj:List aA)(hs:s.size=0)(v1:eR ak)(v2:eR aj):FC Tryz.prog 162 [VS s,VS nm,VB ow,VL 2 bk ak,VL 2 bk aj] (app emp []) (.aZ [VS s,VI 0]) (app emp []):=by
 refine .go Tryz.f162 ?_;refine .len 3 (fun hl3=> ?_);refine .len 4 (fun hl4=> ?_);exact .fin [.r [],.r [(3,X (aW (y4M ({bu:={data:=#[]},af:=0,aF:=0,aV:=0,dI:=0,dZ:=0,f1:=false,f2:=false,f3:=false,f4:=false}:Ref) (by first|assumption|rfl) ak aj aM aM) X0))],.r [],.f,.r [(2,X (dV 160 [(0,0),(1,8),(2,16),(3,24)] (y4N s nm ow ak aj oM) X0))]] []
theorem x8o(s:ByteArray)(nm:ByteArray)(ow:Bool)(ak aj:List aA)(hs:s.size=0)(v1:eR ak)(v2:eR aj):FC Tryz.prog 161 [VS s,.ptr 0 0,.ptr 1 0,.ptr 2 0,.ptr 3 0] (app emp [(0,.box [VS nm]),(1,.box [VB ow]),(2,.box [VL 2 bk ak]),(3,.box [VL 2 bk aj])]) (VS s) (app emp [(0,.box [VS nm]),(1,.box [VB ow]),(2,.box [VL 2 bk ak]),(3,.box [VL 2 bk aj])]):=by
 refine .go Tryz.f161 ?_;exact .fin [.r [],.r [(5,X (aW (y9z s nm ow ak aj oM aM aM) X0))],.r []] [(0,0),(1,1),(2,2),(3,3)]
theorem x2U(l:List aI)(h:l.length<=1000000000000):FC Tryz.prog 208 [VL 2 aS l] (app emp []) (VL 2 aS l) (app emp []):=by
 refine .go Tryz.f208 ?_;refine .len 0 (fun dQ=> ?_);refine .iJ [.r []] ?_;by_cases hn:l=[]
 ·refine .any [.r []] ?_ ?_
  ·have e1:(l:List aI)=[]:=by
    simp[hn]
   exact .aG [.r [],.le (.nL 2 2)] [] (fun z0:List aI=>(VL 2 aS z0,[])) _ _ e1
  have e2:(l:List aI)=([]++l):=by
   simp[hn]
  exact .aG [.r [(2,X (fK 2 aS 24 [] l))],.le (.fr 2 [((([]++l).length):Nat)=(List.map aS ([]++l)).length] ⟨lm,trivial⟩)] [] (fun z0:List aI=>(VL 2 aS z0,[])) _ _ e2
 have e3:(l:List aI)=([]++l):=by
  (first|omega|with_reducible exact fun h=>h| (intro hq;rw[hq];done)| (intro hq;rw[hq];rfl)| (simp only[qj];done)| (simp only[qj];omega)| (simp;omega)| (simp;done))
 exact .aG [.r [(1,X (QA aS l))],.f,.r [(2,X (fK 2 aS 24 [] l))],.le (.fr 2 [((([]++l).length):Nat)=(List.map aS ([]++l)).length] ⟨lm,trivial⟩)] [] (fun z0:List aI=>(VL 2 aS z0,[])) _ _ e3
theorem x2V(l:List Cell)(h:l.length<=1000000)(hn:0<l.length):FC Tryz.prog 207 [VL 5 bg l] (app emp []) (.aF 0 l.length) (app emp [(0,OR 5 bg l)]):=by
 refine .go Tryz.f207 ?_;refine .len 0 (fun dQ=> ?_);have hn2:l≠[]:=fun q=>by(rw[q] at hn;exact absurd hn dM)
 have e1:(l:List Cell)=([]++l):=by
  (first|omega|with_reducible exact fun h=>h| (intro hq;rw[hq];done)| (intro hq;rw[hq];rfl)| (simp only[qj];done)| (simp only[qj];omega)| (simp;omega)| (simp;done))
 have e2:(l.length:Nat)=([]++l).length:=by
  (first|omega|with_reducible exact fun h=>h| (intro hq;rw[hq];done)| (intro hq;rw[hq];rfl)| (simp only[qj];done)| (simp only[qj];omega)| (simp;omega)| (simp;done))
 exact .aG [.r [],.r [(1,X (QA bg l))],.f,.r [(2,X (fK 5 bg 24 [] l))]] [(24,0)] (fun((z0,z1):(List Cell)×Nat)=>(.aF 0 z1,[(0,OR 5 bg z0)])) _ _ (pr e1 e2)
theorem y9A(l:List Cell)(hn:l=[]):FC Tryz.prog 207 [VL 5 bg l] (app emp []) (VL 5 bg ([]:List Cell)) (app emp []):=by
 refine .go Tryz.f207 ?_;refine .len 0 (fun dQ=> ?_);have BZ:l.length=0:=by rw[hn];rfl
 refine .any [.r [],.r []] ?_ ?_
 ·have e1:(([]:List Cell):List Cell)=[]:=by
   simp[hn]
  exact .aG [.r [],.le (.nL 2 5)] [] (fun z0:List Cell=>(VL 5 bg z0,[])) _ _ e1
 have e2:(([]:List Cell):List Cell)=([]++l):=by
  simp[hn]
 exact .aG [.r [(2,X (fK 5 bg 24 [] l))],.le (.fr 2 [((([]++l).length):Nat)=(List.map bg ([]++l)).length] ⟨lm,trivial⟩)] [] (fun z0:List Cell=>(VL 5 bg z0,[])) _ _ e2
theorem x2W(l:List Cell)(nm:ByteArray)(ow:Bool)(ak aj:List aA)(hn:0<l.length)(hl:l.length<=1000000)(ht:pJ l)(ha:w5 1000000 l)(v1:eR ak)(v2:eR aj):FC Tryz.prog 160 [VL 5 bg l,.fn 161 [.ptr 0 0,.ptr 1 0,.ptr 2 0,.ptr 3 0]] (app emp [(0,.box [VS nm]),(1,.box [VB ow]),(2,.box [VL 2 bk ak]),(3,.box [VL 2 bk aj])]) (VL 5 bg l) (app emp [(0,.box [VS nm]),(1,.box [VB ow]),(2,.box [VL 2 bk ak]),(3,.box [VL 2 bk aj])]):=by
 refine .go Tryz.f160 ?_;refine .len 0 (fun dQ=> ?_);refine .loop (α:=Nat×(List Cell)) [.r [],.r [(1,X (bV 20 (x2V l (by omega) (by omega)) X0))],.r []] 60 (fun(i,q)=>([(1,.fn 161 [.ptr 0 0,.ptr 1 0,.ptr 2 0,.ptr 3 0]),(5,.aF 20 ((l).length)),(10,VI ((l).length:Int)),(11,VI (i:Int))],[(0,.box [VS nm]),(1,.box [VB ow]),(2,.box [VL 2 bk ak]),(3,.box [VL 2 bk aj]),(20,OR 5 bg q)])) (fun(i,q)=>i<=l.length/\q=l) (fun(i,q)=>l.length-i) (0,l) ?_ ?_
 ·exact⟨by omega,rfl⟩
 rintro⟨i,q⟩ I3 cC;try dsimp only at I3
 have ql:q.length=l.length:=by rw[I3.2]
 refine .bp [.r []] (decide ((i:Int)< ((l).length:Int))) (fun h3=> ?_) (fun h3=> ?_)
 ·have hm:=fE (l:=l) (i:=i) (by omega);rw[<-I3.2] at hm;have hs:(q.getD i default).text.size=0:=ht _ (by rw[<-I3.2];exact hm);have hz:(q.getD i default).ah.length<=1000000:=ha _ (by rw[<-I3.2];exact hm);have e1:q.set i (q.getD i default)=q:=x49;have Da:((q.set i (q.getD i default)).getD i default).ah.length<=1000000:=by rw[e1];exact hz
  refine .back [.r [],.r [(5,X (nr ((l).length) bg q (i:Int))),(7,X (CB ((l).length) bg q i)),(8,X (dV 148 [(0,0),(1,1),(2,2),(3,3)] (x8o (((q.getD i default)).text) nm ow ak aj (by omega) (by assumption) (by assumption)) X0)),(9,X (nr ((l).length) bg q (i:Int))),(11,X (tE ((l).length) 5 bg 20 q i ((q.getD i default))))],.r [(4,X (nr ((l).length) bg (q.set i ((q.getD i default))) (i:Int))),(6,X (CB ((l).length) bg (q.set i ((q.getD i default))) i)),(7,X (bV 236 (x2U ((((q.set i ((q.getD i default))).getD i default)).ah) (by omega)) X0)),(8,X (nr ((l).length) bg (q.set i ((q.getD i default))) (i:Int))),(10,X (tE ((l).length) 5 bg 20 (q.set i ((q.getD i default))) i (((q.set i ((q.getD i default))).getD i default))))],.r [(0,X (Xn ((i:Int)+1)))]] [(0,0),(1,1),(2,2),(3,3),(20,20)] (cC ((i+1),((q.set i ((q.getD i default))).set i (((q.set i ((q.getD i default))).getD i default)))) ?_ ?_)
  ·exact⟨by omega,by simp only[e1];exact I3.2⟩
  ((try dsimp only);omega)
 have e1:(l:List Cell)=q:=by
  rw[I3.2]
 exact .aG [.r [],.le (.fr 4 [(((l).length):Nat)=(List.map bg q).length] ⟨lm,trivial⟩)] [(0,0),(1,1),(2,2),(3,3)] (fun z0:List Cell=>(VL 5 bg z0,[(0,.box [VS nm]),(1,.box [VB ow]),(2,.box [VL 2 bk ak]),(3,.box [VL 2 bk aj])])) _ _ e1
theorem x2X(l:List Cell)(nm:ByteArray)(ow:Bool)(ak aj:List aA)(hn:l=[]):FC Tryz.prog 160 [VL 5 bg l,.fn 161 [.ptr 0 0,.ptr 1 0,.ptr 2 0,.ptr 3 0]] (app emp [(0,.box [VS nm]),(1,.box [VB ow]),(2,.box [VL 2 bk ak]),(3,.box [VL 2 bk aj])]) (VL 5 bg ([]:List Cell)) (app emp [(0,.box [VS nm]),(1,.box [VB ow]),(2,.box [VL 2 bk ak]),(3,.box [VL 2 bk aj])]):=by
 refine .go Tryz.f160 ?_;refine .len 0 (fun dQ=> ?_);have hz:([]:List Cell).length=0:=rfl;refine .loop (α:=Nat) [.r [],.r [(1,X (bV 20 (y9A l aM) X0))],.r [(1,X (Xl bg ([]:List Cell)))]] 60 (fun i=>([(1,.fn 161 [.ptr 0 0,.ptr 1 0,.ptr 2 0,.ptr 3 0]),(5,VL 5 bg ([]:List Cell)),(10,VI (([]:List Cell).length:Int)),(11,VI (i:Int))],[(0,.box [VS nm]),(1,.box [VB ow]),(2,.box [VL 2 bk ak]),(3,.box [VL 2 bk aj])])) (fun i=>i=0) (fun i=>0) (0:Nat) ?_ ?_
 ·rfl
 rintro i I3 cC;try dsimp only at I3
 refine .bp [.r []] (decide ((i:Int)< (([]:List Cell).length:Int))) (fun h3=> ?_) (fun h3=> ?_)
 ·exfalso;omega
 exact .fin [.r []] [(0,0),(1,1),(2,2),(3,3)]
theorem x5d(l:List Cell)(nm:ByteArray)(ow:Bool)(ak aj:List aA)(hl:l.length<=1000000)(ht:pJ l)(ha:w5 1000000 l)(v1:eR ak)(v2:eR aj):FC Tryz.prog 160 [VL 5 bg l,.fn 161 [.ptr 0 0,.ptr 1 0,.ptr 2 0,.ptr 3 0]] (app emp [(0,.box [VS nm]),(1,.box [VB ow]),(2,.box [VL 2 bk ak]),(3,.box [VL 2 bk aj])]) (VL 5 bg l) (app emp [(0,.box [VS nm]),(1,.box [VB ow]),(2,.box [VL 2 bk ak]),(3,.box [VL 2 bk aj])]):=by
 by_cases hn:0<l.length
 ·exact x2W l nm ow ak aj hn hl ht ha v1 v2
 have e:l=[]:=qZ.1 oM;subst e;exact x2X [] nm ow ak aj rfl
theorem y4O(l:List Cell)(nm:ByteArray)(ow:Bool)(ak aj:List aA)(hl:l.length<=1000000)(ht:pJ l)(ha:w5 1000000 l)(v1:eR ak)(v2:eR aj):FC Tryz.prog 100 [VL 5 bg l,VS nm,VB ow,VL 2 bk ak,VL 2 bk aj] (app emp []) (VL 5 bg l) (app emp []):=by
 refine .go Tryz.f100 ?_;refine .len 0 (fun dQ=> ?_);refine .len 3 (fun hl3=> ?_);refine .len 4 (fun hl4=> ?_);exact .fin [.r [],.r [(2,X (dV 56 [(0,0),(1,8),(2,16),(3,24)] (x5d l nm ow ak aj oM aM aM aM aM) X0))]] []
theorem x5e(a b:bP)(hi:sZ a b):FC Tryz.prog 48 [.t (rW a),.t (rW b)] (app emp []) (.aZ [.t (rW (z12 a b)),.t (rW (nD a b)),VI 0]) (app emp []):=by
 refine .go Tryz.f48 ?_;have v1:=hi.v1;have v2:=hi.v2;have w1:=hi.w1;have w2:=hi.w2;have l1:=hi.la.ln;have l2:=hi.lb.ln;have zx:∀c∈(z12 a b).cells,c.ah=[]/\c.text.size=0:=fun c hc=>MM hi.la.ce c (zX.1 hc).1
 have zy:∀c∈(nD a b).cells,c.ah=[]/\c.text.size=0:=fun c hc=>MM hi.lb.ce c hc
 have tx:pJ (z12 a b).cells:=fun c hc=>(zx c hc).2
 have ty:pJ (nD a b).cells:=fun c hc=>(zy c hc).2
 have ax:w5 1000000 (z12 a b).cells:=fun c hc=>by rw[(zx c hc).1];decide
 have ay:w5 1000000 (nD a b).cells:=fun c hc=>by rw[(zy c hc).1];decide
 have lx:(z12 a b).cells.length<=1000000:=qC (qC (zO _ _) (Af _ _ _)) (qC l1 dM);have ly:(nD a b).cells.length<=1000000:=qC (Af _ _ _) (qC l2 dM);have e1:((z12 a b):bP)=((z12 a b)):=by
  rfl
 have e2:((nD a b):bP)=((nD a b)):=by
  rfl
 exact .bA (let c:=((z12 a b));let d:=((nD a b));[.r [],.r [(2,X (bV 56 (x5a a b aM) X0))],.r [],.f,.r [(6,X (bV 200 (y4O (c.cells) ({data:=#[]}) true (d.ak) (d.aj) oM aM aM aM aM) X0)),(13,X (bV 256 (y4O (d.cells) ({data:=#[]}) true (c.ak) (c.aj) oM aM aM aM aM) X0))],.r []]) [] [] (fun((z0,z1):bP×bP)=>(.aZ [.t (rW z0),.t (rW z1),VI 0],[])) _ _ (pr e1 e2)
theorem x5f(a b:List aI)(ha:dO true a 0=0)(hb:dO true b 0=0)(hn:a.length+b.length<1099511627776):FC Tryz.prog 46 [VL 2 aS a,VL 2 aS b] (app emp []) (.aZ [VL 2 aS (fm iw a b),VL 2 aS b,VI 0]) (app emp []):=by
 have h:=x6X a b hn;have e1:uH a b=fm iw a b:=by unfold uH;rw[if_pos ⟨ha,hb⟩]
 have e2:uI a b=b:=by unfold uI;rw[if_pos ⟨ha,hb⟩]
 have e3:uG a b=0:=by unfold uG;rw[if_pos ha];exact hb
 rw[e1,e2,e3] at h;exact h
theorem x5g(U:US)(s t:Int)(p q:aP)(hU:UB U)(hb:Gt U s t p q):FC Tryz.prog 21 [.t (bI p),.t (bI q)] (app emp []) (.aZ [.t (bI ((gE p q).1)),.t (bI ((gE p q).2)),VI 0]) (app emp []):=by
 refine .go Tryz.f21 ?_;have kp:=x8g hb.1;have l1:=x6k hU hb.1;have l2:=x6k hU hb.2.1;refine .bp (let a:=p.af !=q.af;let b:=a|| (p.af==0);[.r [],.r [],.r [(7,Xv 1 (!a) X0),(8,Xv 1 (!a) X0),(9,X (b7 a)),(12,Xv 1 (!b) X0),(14,Xv 1 (!b) X0),(15,Xv 2 (!b) X0),(16,X (b7 b))]]) (((p.af !=q.af)|| (p.af==0))|| (p.ai !=q.ai)) (fun h2=> ?_) (fun h2=> ?_)
 ·have T:=x8k (p:=p) (q:=q) oM;have e1:((gE p q).1:aP)=p:=by
   rw[T]
  have e2:((gE p q).2:aP)=q:=by
   rw[T]
  exact .bA [.r []] [] [] (fun((z0,z1):aP×aP)=>(.aZ [.t (bI z0),.t (bI z1),VI 0],[])) _ _ (pr e1 e2)
 refine .bp [.r [],.r [],.r []] (p.af==1) (fun h6=> ?_) (fun h6=> ?_)
 ·have T:=x8h (p:=p) (q:=q) oM oM oM;have a1:=y8j hb.1 oM;have a2:=y8j hb.2.1 oM
  first|have T:=T|have T:=M0 (p:=p) (q:=q) oM oM oM
  have e3:((gE p q).1:aP)=({af:=p.af,ai:=p.ai,nw:=p.nw,ah:=(fm iw p.ah q.ah),aQ:=p.aQ,az:=p.az,draw:=p.draw}:aP):=by
   rw[T]
  have e4:((gE p q).2:aP)=q:=by
   rw[T]
  exact .bA [.r [(4,X (bV 296 (x5f p.ah q.ah aM aM oM) X0))],.r []] [] [] (fun((z0,z1):aP×aP)=>(.aZ [.t (bI z0),.t (bI z1),VI 0],[])) _ _ (pr e3 e4)
 refine .bp [.r []] (p.af==2) (fun h8=> ?_) (fun h8=> ?_)
 ·have T:=x8i (p:=p) (q:=q) oM oM oM;obtain⟨d1,d2⟩:=y8k hU hb.1 oM;obtain⟨d3,d4⟩:=y8k hU hb.2.1 oM;obtain⟨d5,d6⟩:=hb.2.2.1 oM oM oM
  first|have T:=T|have T:=M0 (p:=p) (q:=q) oM oM oM
  have e5:((gE p q).1:aP)=({af:=p.af,ai:=p.ai,nw:=p.nw,ah:=p.ah,aQ:=(jD p.aQ q.aQ),az:=p.az,draw:=p.draw}:aP):=by
   rw[T]
  have e6:((gE p q).2:aP)=({af:=q.af,ai:=q.ai,nw:=q.nw,ah:=q.ah,aQ:=(pO p.aQ q.aQ),az:=q.az,draw:=q.draw}:aP):=by
   rw[T]
  exact .bA [.r [(4,X (bV 312 (SP p.aQ q.aQ aM aM aM aM oM oM) X0))],.r []] [] [] (fun((z0,z1):aP×aP)=>(.aZ [.t (bI z0),.t (bI z1),VI 0],[])) _ _ (pr e5 e6)
 refine .bp [.r []] (p.af==3) (fun eE=> ?_) (fun eE=> ?_)
 ·have T:=x8j (p:=p) (q:=q) oM oM oM
  first|have T:=T|have T:=M0 (p:=p) (q:=q) oM oM oM
  have e7:((gE p q).1:aP)=({af:=p.af,ai:=p.ai,nw:=p.nw,ah:=p.ah,aQ:=p.aQ,az:=((z12 p.az q.az)),draw:=p.draw}:aP):=by
   rw[T]
  have e8:((gE p q).2:aP)=({af:=q.af,ai:=q.ai,nw:=q.nw,ah:=q.ah,aQ:=q.aQ,az:=((nD p.az q.az)),draw:=q.draw}:aP):=by
   rw[T]
  exact .bA [.r [(4,X (bV 328 (x5e p.az q.az (hb.2.2.2 oM oM oM)) X0))],.r []] [] [] (fun((z0,z1):aP×aP)=>(.aZ [.t (bI z0),.t (bI z1),VI 0],[])) _ _ (pr e7 e8)
 first|have T:=T|have T:=M0 (p:=p) (q:=q) oM oM oM
 have e9:((gE p q).1:aP)=p:=by
  rw[T]
 have kE:((gE p q).2:aP)=q:=by
  rw[T]
 exact .bA [.r []] [] [] (fun((z0,z1):aP×aP)=>(.aZ [.t (bI z0),.t (bI z1),VI 0],[])) _ _ (pr e9 kE)
theorem x5h(U:US)(s t:Int)(ps qs x y:List aP)(hU:UB U)(h1:ps.length<=1000)(h2:qs.length<=1000)(ep:jC ps 0=0)(eq_:jC qs 0=0)(cp:∀o∈ps,vh o)(cq:∀o∈qs,vh o)(hm:Fp U s t ps qs)(hx:(jP ps qs).1=x)(hy:(jP ps qs).2=y)(cx:∀o∈x,vh o)(cy:∀o∈y,vh o):FC Tryz.prog 7 [VL 19 bI ps,VL 19 bI qs] (app emp []) (.aZ [VL 19 bI x,VL 19 bI y,VI 0]) (app emp []):=by
 refine .go Tryz.f7 ?_;refine .len 0 (fun dQ=> ?_);refine .len 1 (fun gW=> ?_);have lp:∀o∈ps,pq o:=fun o h=>(cp o h).op
 have lq:∀o∈qs,pq o:=fun o h=>(cq o h).op
 have lx:x.length=ps.length:=by rw[<-hx];exact(z51 _ _).1
 have ly:y.length=qs.length:=by rw[<-hy];exact(z51 _ _).2
 refine .bp [.r [],.r [],.u,.r [],.t,.r [(0,X (Xa (Xc ((0:Int)<=0)) (Xc ((0:Int)< ((2:Nat):Int)))) ⟨dM,dM⟩)],.r [(1,X (aW (OX ps aM) X0))],.r []] ((jC ps 0) !=0) (fun h5=> ?_) (fun h5=> ?_)
 ·exfalso;omega
 refine .bp [.r [],.u,.r [],.t,.r [(0,X (Xa (Xc ((0:Int)<=1)) (Xc ((1:Int)< ((2:Nat):Int)))) ⟨dM,dM⟩)],.r [(1,X (aW (OX qs aM) X0))],.r []] ((jC qs 0) !=0) (fun h5=> ?_) (fun h5=> ?_)
 ·exfalso;omega
 refine .loop (α:=Nat×(List aP)×(List aP)) [.r [],.u,.r [],.f,.r [(1,X (bV 232 (y4I ps oM aM) X0)),(3,X (bV 248 (y4I qs oM aM) X0))],.r []] 296 (fun(i,A,B)=>([(0,.aF 232 ((ps).length)),(1,.aF 248 ((qs).length)),(32,VI ((ps).length:Int)),(33,VI (i:Int))],[(232,OR 19 bI A),(248,OR 19 bI B)])) (fun(i,A,B)=>i<=ps.length/\A=xx ps qs i/\B=tU ps qs i) (fun(i,A,B)=>ps.length-i) (0,ps,qs) ?_ ?_
 ·exact⟨oM,rfl,rfl⟩
 rintro⟨i,A,B⟩ mN pX;try dsimp only at mN
 have la:A.length=ps.length:=by rw[mN.2.1,SO mN.1]
 have lb:B.length=qs.length:=by rw[mN.2.2,BN]
 refine .bp [.r []] (decide ((i:Int)< ((ps).length:Int))) (fun eE=> ?_) (fun eE=> ?_)
 ·refine .loop (α:=Nat×(List aP)×(List aP)) [.r [],.r []] 344 (fun(k,C,D)=>([(0,.aF 232 ((ps).length)),(1,.aF 248 ((qs).length)),(10,VI (i:Int)),(32,VI ((ps).length:Int)),(33,VI (i:Int)),(37,VI ((qs).length:Int)),(38,VI (k:Int))],[(232,OR 19 bI C),(248,OR 19 bI D)])) (fun(k,C,D)=>k<=qs.length/\C=(xx ps qs i).set i (yH (ps.getD i default) (tU ps qs i) k)/\D=yI (ps.getD i default) (tU ps qs i) k) (fun(k,C,D)=>qs.length-k) (0,A,B) ?_ ?_
  ·exact⟨qG _,by rw[mN.2.1];exact(RI (by rw[x8d oM];rfl)).symm,by rw[mN.2.2];rfl⟩
  rintro⟨k,C,D⟩ dD gj;try dsimp only at dD
  have lc:C.length=ps.length:=by rw[dD.2.1,zt,SO oM]
  have ld:D.length=qs.length:=by rw[dD.2.2,x46 (by rw[BN];exact dD.1),BN]
  refine .bp [.r []] (decide ((k:Int)< ((qs).length:Int))) (fun fe=> ?_) (fun fe=> ?_)
  ·have cA:C.getD i default=yH (ps.getD i default) (tU ps qs i) k:=by rw[dD.2.1,qd,List.getElem?_set_self (by rw[SO oM];omega)];rfl
   have cD:D.getD k default=(tU ps qs i).getD k default:=by rw[dD.2.2];exact x8e (by rw[BN];omega)
   have hpb:Gt U s t (C.getD i default) (D.getD k default):=by rw[cA,cD];exact x8f hm oM oM
   refine .back (let a:=gE ((C.getD i default)) ((D.getD k default));let b:=(ps).length;let c:=(qs).length;[.r [],.r [(2,X (nr b bI C (i:Int))),(3,X (CB b bI C i)),(6,X (nr c bI D (k:Int))),(7,X (CB c bI D k)),(8,X (bV 432 (x5g U s t ((C.getD i default)) ((D.getD k default)) hU aM) X0))],.r [],.f,.r [(6,X (nr b bI C (i:Int))),(7,X (tE b 19 bI 232 C i (a.1))),(8,X (nr c bI D (k:Int))),(9,X (tE c 19 bI 248 D k (a.2)))],.r [(0,X (Xn ((k:Int)+1)))]]) [(232,232),(248,248)] (gj ((k+1),(C.set i ((gE ((C.getD i default)) ((D.getD k default))).1)),(D.set k ((gE ((C.getD i default)) ((D.getD k default))).2))) ?_ ?_)
   ·refine⟨oM,?_,?_⟩
    ·rw[cA,cD,dD.2.1,List.set_set,x2H (by rw[BN];omega)]
    rw[cA,cD,dD.2.2,x2I (by rw[BN];omega)]
   exact tO
  refine .back [.r [(0,X (Xn ((i:Int)+1)))]] [(232,232),(248,248)] (pX ((i+1),C,D) ?_ ?_)
  ·refine⟨oM,?_,?_⟩
   ·rw[dD.2.1,x2F oM,x44 (by rw[BN];omega)]
   rw[dD.2.2,x2G oM,x45 (by rw[BN];omega)]
  exact tO
 have hA:A=x:=by rw[mN.2.1,x42 oM,hx]
 have hB:B=y:=by rw[mN.2.2,x43 oM,hy]
 have cA:∀o∈A,vh o:=by rw[hA];exact cx
 have cB:∀o∈B,vh o:=by rw[hB];exact cy
 have e1:(x:List aP)=A:=by
  first|exact hA.symm|exact hB.symm|rfl
 have e2:(y:List aP)=B:=by
  first|exact hA.symm|exact hB.symm|rfl
 exact .aG [.r [(1,X (bV 312 (y8m A oM aM) (Qy ((ps).length) bI A X0))),(3,X (bV 328 (y8m B oM aM) (Qy ((qs).length) bI B X0)))]] [] (fun((z0,z1):(List aP)×(List aP))=>(.aZ [VL 19 bI z0,VL 19 bI z1,VI 0],[])) _ _ (pr e1 e2)
theorem x2Y(a b:List fN):FC Tryz.prog 12 [VL 8 cm a,VL 8 cm b] (app emp []) (VB (yZ a b)) (app emp []):=by
 refine .go Tryz.f12 ?_;refine .len 0 (fun dQ=> ?_);refine .len 1 (fun gW=> ?_);refine .bp [.r [],.r [(1,X (Xl cm a)),(3,X (Xl cm b))]] ((a.length:Int) !=(b.length:Int)) (fun h1=> ?_) (fun h1=> ?_)
 ·have e1:((yZ a b):Bool)=false:=by
   unfold yZ;rw[decide_eq_false oM];rfl
  exact .aG [.r []] [] (fun z0:Bool=>(VB z0,[])) _ _ e1
 refine .loop (α:=Nat) [.r [(1,X (Xl cm a))]] 72 (fun i=>([(0,VL 8 cm a),(1,VL 8 cm b),(12,VI (a.length:Int)),(13,VI (i:Int))],[])) (fun i=>i<=a.length/\Aq a b 0=Aq a b i) (fun i=>a.length-i) (0:Nat) ?_ ?_
 ·exact⟨oM,rfl⟩
 rintro i I4 kJ;try dsimp only at I4
 refine .bp [.r []] (decide ((i:Int)< (a.length:Int))) (fun h4=> ?_) (fun h4=> ?_)
 ·refine .bp [.r [],.r [(2,X (Xi cm a (i:Int))),(6,X (Xi cm b (i:Int)))]] (!((((a.getD i default)).clock)==(((b.getD i default)).clock)&&((((a.getD i default)).aC)==(((b.getD i default)).aC)&&((((a.getD i default)).af)==(((b.getD i default)).af)&&((((a.getD i default)).tH)==(((b.getD i default)).tH)&&((((a.getD i default)).prt)==(((b.getD i default)).prt)&&(seq (((a.getD i default)).nu) (((b.getD i default)).nu)&&(seq (((a.getD i default)).nm) (((b.getD i default)).nm)&&(seq (((a.getD i default)).vl) (((b.getD i default)).vl)&&true))))))))) (fun h6=> ?_) (fun h6=> ?_)
  ·have e2:((yZ a b):Bool)=false:=by
    unfold yZ;rw[I4.2,Aq,if_pos oM,if_neg (fun e=>by(have s0:∀s,seq s s=true:=fun s=>kj.2 rfl);rw[e] at h6;simp[s0] at h6)];simp
   exact .aG [.r []] [] (fun z0:Bool=>(VB z0,[])) _ _ e2
  refine .back [.r [(0,X (Xn ((i:Int)+1)))]] [] (kJ ((i+1):Nat) ?_ ?_)
  ·refine⟨oM,?_⟩;rw[I4.2,Aq,if_pos oM,if_pos (by obtain⟨q1,q2,q3,q4,q5,q6,q7,q8,-⟩:=h6;rw[kj] at q6 q7 q8;exact Xq q1 q2 q3 q4 q5 q6 q7 q8)]
  exact tO
 have e3:((yZ a b):Bool)=true:=by
  unfold yZ;rw[I4.2,Aq,if_neg oM,decide_eq_true oM];rfl
 exact .aG [.r []] [] (fun z0:Bool=>(VB z0,[])) _ _ e3

theorem M7(d:Doc)(s:bM)(au:ByteArray)(hb:fD d):FC Tryz.prog 73 [.t (gU d),.t (jR s),VS au] (app emp []) (.aZ [.t (Ep (bL d s au)),VI (dP d s au)]) (app emp []):=by
 refine .go Tryz.f73 ?_;have UG:=hb.toDocB;have hl:=hb.len;refine .bp [.r [],.r [(1,X (aW (DD d (by assumption)) X0))],.r []] ((ez d) !=0) (fun h2=> ?_) (fun h2=> ?_)
 ·have T:=w2O (s:=s) (au:=au) h2;have e1:((bL d s au):Pl)=({ai:=({id:=0,af:=0,ah:=[],aD:=[],az:=({ak:=0,aj:=0,cells:=[],aH:=[]}:aX),draw:=[]}:Node),aN:=[],aR:={data:=#[]}}:Pl):=by
   exact T.1
  have e2:((dP d s au):Int)=(ez d):=by
   exact T.2
  exact .bA [.r [(0,X (Xf [(2,2),(3,3),(6,5),(7,4),(8,8),(9,1)]))]] [] [] (fun((z0,z1):Pl×Int)=>(.aZ [.t (Ep z0),VI z1],[])) _ _ (pr e1 e2)
 have hs:=KD (d:=d) (by omega);refine .bp [.r [(3,X (aW (Kt d s.nd (by assumption) (by assumption)) X0))],.r []] (decide ((rU (d).aq s.nd)< 0)) (fun h5=> ?_) (fun h5=> ?_)
 ·have T:=w2P (au:=au) (by omega) (Kw.1 h5);have e3:((bL d s au):Pl)=({ai:=({id:=0,af:=0,ah:=[],aD:=[],az:=({ak:=0,aj:=0,cells:=[],aH:=[]}:aX),draw:=[]}:Node),aN:=[],aR:={data:=#[]}}:Pl):=by
   exact T.1
  have e4:((dP d s au):Int)=7:=by
   exact T.2
  exact .bA [.r [(0,X (Xf [(2,2),(3,3),(6,5),(7,4),(8,8),(9,1)]))]] [] [] (fun((z0,z1):Pl×Int)=>(.aZ [.t (Ep z0),VI z1],[])) _ _ (pr e3 e4)
 have hh:=Kv.1 h5;have fQ:=(rX.1 hh).1;have HK:=(hb.all _ (FZ fQ)).LW;refine .bp [.le (.eq 9 (VI (rU (d).aq s.nd)) (VI (bt d.aq s.nd:Int)) (.of_eq (by rw[OS hh]))),.r [(3,X (Xi bz d.aq (bt d.aq s.nd:Int))),(6,X (Xf [(9,1)]))],.r [(3,X (aW (z82 (((d.aq.getD (bt d.aq s.nd) default)).af)) X0))]] (!(eX (((d.aq.getD (bt d.aq s.nd) default)).af))) (fun h8=> ?_) (fun h8=> ?_)
 ·have T:=w2Q (au:=au) (by omega) hh h8;have e5:((bL d s au):Pl)=({ai:=({id:=0,af:=0,ah:=[],aD:=[],az:=({ak:=0,aj:=0,cells:=[],aH:=[]}:aX),draw:=[]}:Node),aN:=[],aR:={data:=#[]}}:Pl):=by
   exact T.1
  have e6:((dP d s au):Int)=8:=by
   exact T.2
  exact .bA [.r [(0,X (Xf [(2,2),(3,3),(6,5),(7,4),(8,8),(9,1)]))]] [] [] (fun((z0,z1):Pl×Int)=>(.aZ [.t (Ep z0),VI z1],[])) _ _ (pr e5 e6)
 refine .bp [.r [(3,X (bV 264 (x2L (((d.aq.getD (bt d.aq s.nd) default)).aD) 0 (by omega)) X0))],.r [(5,Xv 1 (!(decide (s.fr<0))) X0),(7,Xv 1 (!(decide (s.fr<0))) X0),(8,Xv 2 (!(decide (s.fr<0))) X0),(9,X (b7 (decide (s.fr<0)))),(12,Xv 1 (!(decide (s.fr<0)||decide (s.tq<s.fr))) X0),(14,Xv 1 (!(decide (s.fr<0)||decide (s.tq<s.fr))) X0),(15,Xv 1 (!(decide (s.fr<0)||decide (s.tq<s.fr))) (Xl bC (sU (((d.aq.getD (bt d.aq s.nd) default)).aD) 0 ((((d.aq.getD (bt d.aq s.nd) default)).aD)).length))),(16,Xv 2 (!(decide (s.fr<0)||decide (s.tq<s.fr))) X0),(17,X (b7 (decide (s.fr<0)||decide (s.tq<s.fr))))]] ((decide (s.fr<0)||decide (s.tq<s.fr))||decide (s.tq>=((sU (((d.aq.getD (bt d.aq s.nd) default)).aD) 0 ((((d.aq.getD (bt d.aq s.nd) default)).aD)).length).length:Int))) (fun gO=> ?_) (fun gO=> ?_)
 ·have T:=w2R (au:=au) (by omega) hh h8 gO;have e7:((bL d s au):Pl)=({ai:=({id:=0,af:=0,ah:=[],aD:=[],az:=({ak:=0,aj:=0,cells:=[],aH:=[]}:aX),draw:=[]}:Node),aN:=[],aR:={data:=#[]}}:Pl):=by
   exact T.1
  have e8:((dP d s au):Int)=2:=by
   exact T.2
  exact .bA [.r [(0,X (Xf [(2,2),(3,3),(6,5),(7,4),(8,8),(9,1)]))]] [] [] (fun((z0,z1):Pl×Int)=>(.aZ [.t (Ep z0),VI z1],[])) _ _ (pr e7 e8)
 refine .bp [.r [(4,Xv 1 (!(seq au ({data:=#[]}))) (aW (FL au) X0)),(5,Xv 1 (!(seq au ({data:=#[]}))) X0),(6,X (Xk (!(seq au ({data:=#[]})))))]] (!(seq au ({data:=#[]}))&& !(j4 au)) (fun fe=> ?_) (fun fe=> ?_)
 ·have T:=w2S (by omega) hh h8 gO fe;have e9:((bL d s au):Pl)=({ai:=({id:=0,af:=0,ah:=[],aD:=[],az:=({ak:=0,aj:=0,cells:=[],aH:=[]}:aX),draw:=[]}:Node),aN:=[],aR:={data:=#[]}}:Pl):=by
   exact T.1
  have kE:((dP d s au):Int)=23:=by
   exact T.2
  exact .bA [.r [(0,X (Xf [(2,2),(3,3),(6,5),(7,4),(8,8),(9,1)]))]] [] [] (fun((z0,z1):Pl×Int)=>(.aZ [.t (Ep z0),VI z1],[])) _ _ (pr e9 kE)
 have T:=w2T (by omega) hh h8 gO fe;have lg:((bL d s au):Pl)=({ai:=((d.aq.getD (bt d.aq s.nd) default)),aN:=(sU (((d.aq.getD (bt d.aq s.nd) default)).aD) 0 ((((d.aq.getD (bt d.aq s.nd) default)).aD)).length),aR:=au}:Pl):=by
  exact T.1
 have lu:((dP d s au):Int)=0:=by
  exact T.2
 exact .bA [.r []] [] [] (fun((z0,z1):Pl×Int)=>(.aZ [.t (Ep z0),VI z1],[])) _ _ (pr lg lu)
theorem z40(p:Pl)(k:Int)(hb:mq p):FC Tryz.prog 81 [.ptr 0 0,VI k] (app emp [(0,.box [VI p.ai.id,VI p.ai.af,VL 2 aS p.ai.ah,VL 3 aU p.ai.aD,VI p.ai.az.ak,VI p.ai.az.aj,VL 5 bg p.ai.az.cells,VL 4 bE p.ai.az.aH,VL 8 cm p.ai.draw,VL 1 bC p.aN,VS p.aR])]) (.t (aU (bG p k))) (app emp [(0,.box [VI p.ai.id,VI p.ai.af,VL 2 aS p.ai.ah,VL 3 aU p.ai.aD,VI p.ai.az.ak,VI p.ai.az.aj,VL 5 bg p.ai.az.cells,VL 4 bE p.ai.az.aH,VL 8 cm p.ai.draw,VL 1 bC p.aN,VS p.aR])]):=by
 refine .go Tryz.f81 ?_;refine .bp (let a:=decide (k<0);[.r [],.r [(5,Xv 1 (!a) X0),(6,Xv 1 (!a) X0),(7,Xv 1 (!a) X0),(8,Xv 1 (!a) (Xl bC p.aN)),(9,Xv 2 (!a) X0),(10,X (b7 a))]]) (decide (k<0)||decide (k>=(p.aN.length:Int))) (fun h1=> ?_) (fun h1=> ?_)
 ·have e1:((bG p k):aL)=({aT:=10,bh:=0,ah:=[]}:aL):=by
   unfold bG;rw[if_pos oM]
  exact .bA [.r [(0,X (Xf [(2,2)]))]] [] [(0,0)] (fun z0:aL=>(.t (aU z0),[(0,.box [VI p.ai.id,VI p.ai.af,VL 2 aS p.ai.ah,VL 3 aU p.ai.aD,VI p.ai.az.ak,VI p.ai.az.aj,VL 5 bg p.ai.az.cells,VL 4 bE p.ai.az.aH,VL 8 cm p.ai.draw,VL 1 bC p.aN,VS p.aR])])) _ _ e1
 have hx:=hb.ok _ (fE (l:=p.aN) (i:=k.toNat) oM);have e2:((bG p k):aL)=((p.ai.aD.getD (Int.toNat (p.aN.getD (Int.toNat k) default)) default)):=by
  unfold bG;rw[if_neg oM]
 exact .bA [.r [(10,X (Xi bC p.aN k)),(12,X (Xi aU p.ai.aD (p.aN.getD (Int.toNat k) default)))]] [] [(0,0)] (fun z0:aL=>(.t (aU z0),[(0,.box [VI p.ai.id,VI p.ai.af,VL 2 aS p.ai.ah,VL 3 aU p.ai.aD,VI p.ai.az.ak,VI p.ai.az.aj,VL 5 bg p.ai.az.cells,VL 4 bE p.ai.az.aH,VL 8 cm p.ai.draw,VL 1 bC p.aN,VS p.aR])])) _ _ e2
theorem x8p(l:List ByteArray)(x:ByteArray):FC Tryz.prog 195 [VL 1 n5 l,VS x] (app emp []) (VI (gw (fun y=>seq x y) l 0)) (app emp []):=by
 refine .go Tryz.f195 ?_;refine .len 0 (fun dQ=> ?_);refine .loop (α:=Nat) [.r [],.r [(1,X (Xl n5 l))]] 32 (fun i=>([(0,VL 1 n5 l),(1,VS x),(7,VI (l.length:Int)),(8,VI (i:Int))],[])) (fun i=>i<=l.length/\gw (fun y=>seq x y) l 0=gw (fun y=>seq x y) l i) (fun i=>l.length-i) (0:Nat) ?_ ?_
 ·exact⟨oM,rfl⟩
 rintro i I2 ic;try dsimp only at I2
 refine .bp [.r []] (decide ((i:Int)< (l.length:Int))) (fun h2=> ?_) (fun h2=> ?_)
 ·refine .bp [.r [],.r [(3,X (Xi n5 l (i:Int)))]] (seq x (l.getD i default)) (fun h4=> ?_) (fun h4=> ?_)
  ·have e1:((gw (fun y=>seq x y) l 0):Int)=(i:Int):=by
    rw[I2.2,gw,if_pos oM,if_pos h4]
   exact .aG [.r []] [] (fun z0:Int=>(VI z0,[])) _ _ e1
  refine .back [.r [(0,X (Xn ((i:Int)+1)))]] [] (ic ((i+1):Nat) ?_ ?_)
  ·exact⟨oM,by rw[I2.2,gw,if_pos oM,if_neg (by rw[h4];decide)]⟩
  exact tO
 have e2:((gw (fun y=>seq x y) l 0):Int)= -1:=by
  rw[I2.2,gw,if_neg oM]
 exact .aG [.r []] [] (fun z0:Int=>(VI z0,[])) _ _ e2
theorem x2Z(l:List ByteArray)(x:ByteArray):FC Tryz.prog 138 [VL 1 n5 l,VS x] (app emp []) (VB (l.any (fun y=>seq x y))) (app emp []):=by
 refine .go Tryz.f138 ?_;refine .len 0 (fun dQ=> ?_);have e1:((l.any (fun y=>seq x y)):Bool)=decide ((gw (fun y=>seq x y) l 0)>=0):=by
  rw[zp];simp only[decide_eq_true_eq,ge_iff_le];rw[XZ]
 exact .aG [.r [],.r [(2,X (aW (x8p l x) X0))]] [] (fun z0:Bool=>(VB z0,[])) _ _ e1
theorem y1H(n:ByteArray):FC Tryz.prog 135 [VS n] (app emp []) (VB (BD n)) (app emp []):=by
 refine .go Tryz.f135 ?_;have e1:((BD n):Bool)=(([{data:=#[98,111,108,100]},{data:=#[105,116,97,108,105,99]},{data:=#[117,110,100,101,114]},{data:=#[115,116,114,105,107,101]},{data:=#[102,105,120,101,100]},{data:=#[114,97,105,115,101]},{data:=#[115,105,122,101]},{data:=#[99,111,108,111,117,114]},{data:=#[108,97,110,103]},{data:=#[115,116,121,108,101]}]).any (fun y=>seq n y)):=by
  rfl
 exact .aG [.r [],.r [(2,X (aW (x2Z [{data:=#[98,111,108,100]},{data:=#[105,116,97,108,105,99]},{data:=#[117,110,100,101,114]},{data:=#[115,116,114,105,107,101]},{data:=#[102,105,120,101,100]},{data:=#[114,97,105,115,101]},{data:=#[115,105,122,101]},{data:=#[99,111,108,111,117,114]},{data:=#[108,97,110,103]},{data:=#[115,116,121,108,101]}] n) (cg n5 [{data:=#[98,111,108,100]},{data:=#[105,116,97,108,105,99]},{data:=#[117,110,100,101,114]},{data:=#[115,116,114,105,107,101]},{data:=#[102,105,120,101,100]},{data:=#[114,97,105,115,101]},{data:=#[115,105,122,101]},{data:=#[99,111,108,111,117,114]},{data:=#[108,97,110,103]},{data:=#[115,116,121,108,101]}] X0)))]] [] (fun z0:Bool=>(VB z0,[])) _ _ e1
theorem JF(n:ByteArray):FC Tryz.prog 136 [VS n] (app emp []) (VB (mT n)) (app emp []):=by
 refine .go Tryz.f136 ?_;have e1:((mT n):Bool)=(((seq n ({data:=#[108,105,110,107]})||seq n ({data:=#[108,111,99,107]}))|| (decide ((n.size:Int)> 7)&&seq (n.extract ((0:Int)).toNat ((7:Int)).toNat) ({data:=#[114,101,109,97,114,107,46]})))|| (decide ((n.size:Int)> 5)&&seq (n.extract ((0:Int)).toNat ((5:Int)).toNat) ({data:=#[109,97,114,107,46]}))):=by
  rfl
 exact .aG [.r [],.r [(4,Xv 1 (!(seq n ({data:=#[108,105,110,107]}))) X0),(5,X (b7 (seq n ({data:=#[108,105,110,107]})))),(8,Xv 1 (!(seq n ({data:=#[108,105,110,107]})||seq n ({data:=#[108,111,99,107]}))) X0),(9,Xv 1 (!(seq n ({data:=#[108,105,110,107]})||seq n ({data:=#[108,111,99,107]}))) X0),(10,Xv 1 (!(seq n ({data:=#[108,105,110,107]})||seq n ({data:=#[108,111,99,107]}))) X0),(12,Xv 1 ((!(seq n ({data:=#[108,105,110,107]})||seq n ({data:=#[108,111,99,107]})))&&(decide ((n.size:Int)> 7))) (Xa (Xc ((0:Int)<=0)) (Xa (Xc ((0:Int)<=7)) (Xc ((7:Int)<=(n.size:Int)))))),(13,Xv 1 ((!(seq n ({data:=#[108,105,110,107]})||seq n ({data:=#[108,111,99,107]})))&&(decide ((n.size:Int)> 7))) X0),(14,kH (!(seq n ({data:=#[108,105,110,107]})||seq n ({data:=#[108,111,99,107]}))) (decide ((n.size:Int)> 7))),(15,X (b7 (seq n ({data:=#[108,105,110,107]})||seq n ({data:=#[108,111,99,107]})))),(18,Xv 1 (!((seq n ({data:=#[108,105,110,107]})||seq n ({data:=#[108,111,99,107]}))|| (decide ((n.size:Int)> 7)&&seq (n.extract ((0:Int)).toNat ((7:Int)).toNat) ({data:=#[114,101,109,97,114,107,46]})))) X0),(19,Xv 1 (!((seq n ({data:=#[108,105,110,107]})||seq n ({data:=#[108,111,99,107]}))|| (decide ((n.size:Int)> 7)&&seq (n.extract ((0:Int)).toNat ((7:Int)).toNat) ({data:=#[114,101,109,97,114,107,46]})))) X0),(20,Xv 1 (!((seq n ({data:=#[108,105,110,107]})||seq n ({data:=#[108,111,99,107]}))|| (decide ((n.size:Int)> 7)&&seq (n.extract ((0:Int)).toNat ((7:Int)).toNat) ({data:=#[114,101,109,97,114,107,46]})))) X0),(22,Xv 1 ((!((seq n ({data:=#[108,105,110,107]})||seq n ({data:=#[108,111,99,107]}))|| (decide ((n.size:Int)> 7)&&seq (n.extract ((0:Int)).toNat ((7:Int)).toNat) ({data:=#[114,101,109,97,114,107,46]}))))&&(decide ((n.size:Int)> 5))) (Xa (Xc ((0:Int)<=0)) (Xa (Xc ((0:Int)<=5)) (Xc ((5:Int)<=(n.size:Int)))))),(23,Xv 1 ((!((seq n ({data:=#[108,105,110,107]})||seq n ({data:=#[108,111,99,107]}))|| (decide ((n.size:Int)> 7)&&seq (n.extract ((0:Int)).toNat ((7:Int)).toNat) ({data:=#[114,101,109,97,114,107,46]}))))&&(decide ((n.size:Int)> 5))) X0),(24,kH (!((seq n ({data:=#[108,105,110,107]})||seq n ({data:=#[108,111,99,107]}))|| (decide ((n.size:Int)> 7)&&seq (n.extract ((0:Int)).toNat ((7:Int)).toNat) ({data:=#[114,101,109,97,114,107,46]})))) (decide ((n.size:Int)> 5))),(25,X (b7 ((seq n ({data:=#[108,105,110,107]})||seq n ({data:=#[108,111,99,107]}))|| (decide ((n.size:Int)> 7)&&seq (n.extract ((0:Int)).toNat ((7:Int)).toNat) ({data:=#[114,101,109,97,114,107,46]})))))]] [] (fun z0:Bool=>(VB z0,[])) _ _ e1
theorem x6o(p:Pl)(k:Int)(hb:mq p)(hk:0<=k/\k<=1000000000):FC Tryz.prog 75 [.ptr 0 0,VI k] (app emp [(0,.box [VI p.ai.id,VI p.ai.af,VL 2 aS p.ai.ah,VL 3 aU p.ai.aD,VI p.ai.az.ak,VI p.ai.az.aj,VL 5 bg p.ai.az.cells,VL 4 bE p.ai.az.aH,VL 8 cm p.ai.draw,VL 1 bC p.aN,VS p.aR])]) (VL 2 aS (lH p k)) (app emp [(0,.box [VI p.ai.id,VI p.ai.af,VL 2 aS p.ai.ah,VL 3 aU p.ai.aD,VI p.ai.az.ak,VI p.ai.az.aj,VL 5 bg p.ai.az.cells,VL 4 bE p.ai.az.aH,VL 8 cm p.ai.draw,VL 1 bC p.aN,VS p.aR])]):=by
 refine .go Tryz.f75 ?_;have b1:=R5 hb k;have b2:=R5 hb (k- 1);refine .bp [.r [],.r [(2,X (Xn (k- 1))),(3,X (gB [(0,0)] (z40 p (k- 1) aM) X0)),(6,X (gB [(0,0)] (z40 p k aM) X0))],.r [],.r []] ((((bG p (k- 1))).aT)==10) (fun h3=> ?_) (fun h3=> ?_)
 ·refine .bp [.r [],.r [],.r []] ((((bG p k)).aT) !=10) (fun h6=> ?_) (fun h6=> ?_)
  ·refine .loop (α:=Nat×(List aI)) [.r [(2,X (Xl aS (((bG p k)).ah)))],.le (.nR 8 2)] 226 (fun(i,o)=>([(1,VI k),(5,.ptr 65 0),(6,.ptr 73 0),(8,.aF 225 o.length),(29,VL 2 aS (((bG p k)).ah)),(30,VI ((((bG p k)).ah).length:Int)),(31,VI (i:Int))],[(0,.box [VI p.ai.id,VI p.ai.af,VL 2 aS p.ai.ah,VL 3 aU p.ai.aD,VI p.ai.az.ak,VI p.ai.az.aj,VL 5 bg p.ai.az.cells,VL 4 bE p.ai.az.aH,VL 8 cm p.ai.draw,VL 1 bC p.aN,VS p.aR]),(65,.box [VI (((bG p (k- 1))).aT),VI (((bG p (k- 1))).bh),VL 2 aS (((bG p (k- 1))).ah)]),(73,.box [VI (((bG p k)).aT),VI (((bG p k)).bh),VL 2 aS (((bG p k)).ah)]),(225,OR 2 aS o)])) (fun(i,o)=>i<=((((bG p k)).ah)).length/\o=(((((bG p k)).ah)).take i).filter (fun a=>BD a.name)) (fun(i,o)=>((((bG p k)).ah)).length-i) (0,[]) ?_ ?_
   ·exact⟨oM,rfl⟩
   rintro⟨i,o⟩ I8 u9;try dsimp only at I8
   have ol:o.length<=i:=by rw[I8.2];exact qC (zO ..) (by rw[qz];omega)
   refine .bp [.r []] (decide ((i:Int)< ((((bG p k)).ah).length:Int))) (fun h8=> ?_) (fun h8=> ?_)
   ·refine .bp [.r [(0,X (Xi aS (((bG p k)).ah) (i:Int)))],.r [(2,X (aW (y1H ((((((bG p k)).ah).getD i default)).name)) X0))]] (BD ((((((bG p k)).ah).getD i default)).name)) (fun eE=> ?_) (fun eE=> ?_)
    ·refine .back (let a:=(((((bG p k)).ah).getD i default));[.r [(3,X (cg aS [a] (fK 2 aS 225 o [a])))],.r [(0,X (Xn ((i:Int)+1)))]]) [(0,0),(65,65),(73,73),(225,225)] (u9 ((i+1),(o++[(((((bG p k)).ah).getD i default))])) ?_ ?_)
     ·refine⟨oM,?_⟩;rw[I8.2,qt oM,zH]
      first|rw[F8 oM eE]|rw[F9 oM eE,qL]
     exact tO
    refine .back [.r [(0,X (Xn ((i:Int)+1)))]] [(0,0),(65,65),(73,73),(225,225)] (u9 ((i+1),o) ?_ ?_)
    ·refine⟨oM,?_⟩;rw[I8.2,qt oM,zH]
     first|rw[F8 oM eE]|rw[F9 oM eE,qL]
    exact tO
   have hB:=Ml p k;simp only[h3,h6,if_true,if_false,ne_eq,not_true_eq_false,not_false_eq_true,ite_true,ite_false,reduceIte] at hB;refine .loop (α:=(List aI)×Nat) [.r [(2,X (Xl aS (((bG p (k- 1))).ah)))],.le (.fr 8 [(o.length:Nat)=(List.map aS o).length] ⟨lm,trivial⟩)] 266 (fun(q,j)=>([(1,VI k),(6,.ptr 73 0),(8,VL 2 aS q),(44,VL 2 aS (((bG p (k- 1))).ah)),(45,VI ((((bG p (k- 1))).ah).length:Int)),(46,VI (j:Int))],[(0,.box [VI p.ai.id,VI p.ai.af,VL 2 aS p.ai.ah,VL 3 aU p.ai.aD,VI p.ai.az.ak,VI p.ai.az.aj,VL 5 bg p.ai.az.cells,VL 4 bE p.ai.az.aH,VL 8 cm p.ai.draw,VL 1 bC p.aN,VS p.aR]),(73,.box [VI (((bG p k)).aT),VI (((bG p k)).bh),VL 2 aS (((bG p k)).ah)])])) (fun(q,j)=>j<=(bG p (k- 1)).ah.length/\q=yu (bG p k) k (CY p k) ((bG p (k- 1)).ah.take j)/\q.length<=1048576+j) (fun(q,j)=>(bG p (k- 1)).ah.length-j) (o,0) ?_ ?_
   ·
    first|exact absurd h6 h3|exact⟨oM,by rw[hB];first| (rw[I8.2,qk oM];rfl)|rfl,by first|omega|simp⟩
   rintro⟨q,j⟩ l9 om;try dsimp only at l9
   refine .bp [.r []] (decide ((j:Int)< ((((bG p (k- 1))).ah).length:Int))) (fun eN=> ?_) (fun eN=> ?_)
   ·refine .bp (let a:=(((((bG p (k- 1))).ah).getD j default)).name;let b:=(mT a)&&decide (k>0);[.r [(0,X (Xi aS (((bG p (k- 1))).ah) (j:Int)))],.r [(2,X (aW (JF a) X0)),(5,Xv 1 (mT a) X0),(6,X (Xk (mT a))),(9,Xv 1 b X0),(11,Xv 1 b X0),(12,Xv 2 b (aW (CG (((bG p k)).ah) a) X0)),(14,Xv 1 b X0),(15,Xv 2 b X0),(16,X (Xk b))]]) (((mT ((((((bG p (k- 1))).ah).getD j default)).name))&&decide (k>0))&&seq (iZ (((bG p k)).ah) ((((((bG p (k- 1))).ah).getD j default)).name) 0) ((((((bG p (k- 1))).ah).getD j default)).val)) (fun eO=> ?_) (fun eO=> ?_)
    ·refine .back (let a:=(((((bG p (k- 1))).ah).getD j default));[.r [(3,X (bV 466 (DC q [a] (by simp only[qi,zg];omega)) (cg aS [a] X0)))],.r [(0,X (Xn ((j:Int)+1)))]]) [(0,0),(73,73)] (om ((fm eY q [(((((bG p (k- 1))).ah).getD j default))]),(j+1)) ?_ ?_)
     ·
      first
      |exact⟨oM,by rw[tP oM,if_pos (CZ eO),<-l9.2.1],qC (uN ..) (by simp;omega)⟩
      |exact⟨oM,by rw[tP oM,if_neg (C0 eO)];exact l9.2.1,oM⟩
     exact tO
    refine .back [.r [(0,X (Xn ((j:Int)+1)))]] [(0,0),(73,73)] (om (q,(j+1)) ?_ ?_)
    ·
     first
     |exact⟨oM,by rw[tP oM,if_pos (CZ eO),<-l9.2.1],qC (uN ..) (by simp;omega)⟩
     |exact⟨oM,by rw[tP oM,if_neg (C0 eO)];exact l9.2.1,oM⟩
    exact tO
   have e1:((lH p k):List aI)=q:=by
    rw[l9.2.1,qk oM];rfl
   exact .aG [.r []] [(0,0)] (fun z0:List aI=>(VL 2 aS z0,[(0,.box [VI p.ai.id,VI p.ai.af,VL 2 aS p.ai.ah,VL 3 aU p.ai.aD,VI p.ai.az.ak,VI p.ai.az.aj,VL 5 bg p.ai.az.cells,VL 4 bE p.ai.az.aH,VL 8 cm p.ai.draw,VL 1 bC p.aN,VS p.aR])])) _ _ e1
  have hB:=Ml p k;simp only[h3,h6,if_true,if_false,ne_eq,not_true_eq_false,not_false_eq_true,ite_true,ite_false,reduceIte] at hB;refine .loop (α:=(List aI)×Nat) [.r [(2,X (Xl aS (((bG p (k- 1))).ah)))],.le (.nL 8 2)] 225 (fun(q,j)=>([(1,VI k),(6,.ptr 73 0),(8,VL 2 aS q),(44,VL 2 aS (((bG p (k- 1))).ah)),(45,VI ((((bG p (k- 1))).ah).length:Int)),(46,VI (j:Int))],[(0,.box [VI p.ai.id,VI p.ai.af,VL 2 aS p.ai.ah,VL 3 aU p.ai.aD,VI p.ai.az.ak,VI p.ai.az.aj,VL 5 bg p.ai.az.cells,VL 4 bE p.ai.az.aH,VL 8 cm p.ai.draw,VL 1 bC p.aN,VS p.aR]),(73,.box [VI (((bG p k)).aT),VI (((bG p k)).bh),VL 2 aS (((bG p k)).ah)])])) (fun(q,j)=>j<=(bG p (k- 1)).ah.length/\q=yu (bG p k) k (CY p k) ((bG p (k- 1)).ah.take j)/\q.length<=1048576+j) (fun(q,j)=>(bG p (k- 1)).ah.length-j) ([],0) ?_ ?_
  ·
   first|exact absurd h6 h3|exact⟨oM,by rw[hB];first| (rw[I8.2,qk oM];rfl)|rfl,by first|omega|simp⟩
  rintro⟨q,j⟩ l9 om;try dsimp only at l9
  refine .bp [.r []] (decide ((j:Int)< ((((bG p (k- 1))).ah).length:Int))) (fun eN=> ?_) (fun eN=> ?_)
  ·refine .bp (let a:=(((((bG p (k- 1))).ah).getD j default)).name;let b:=(mT a)&&decide (k>0);[.r [(0,X (Xi aS (((bG p (k- 1))).ah) (j:Int)))],.r [(2,X (aW (JF a) X0)),(5,Xv 1 (mT a) X0),(6,X (Xk (mT a))),(9,Xv 1 b X0),(11,Xv 1 b X0),(12,Xv 2 b (aW (CG (((bG p k)).ah) a) X0)),(14,Xv 1 b X0),(15,Xv 2 b X0),(16,X (Xk b))]]) (((mT ((((((bG p (k- 1))).ah).getD j default)).name))&&decide (k>0))&&seq (iZ (((bG p k)).ah) ((((((bG p (k- 1))).ah).getD j default)).name) 0) ((((((bG p (k- 1))).ah).getD j default)).val)) (fun eO=> ?_) (fun eO=> ?_)
   ·refine .back (let a:=(((((bG p (k- 1))).ah).getD j default));[.r [(3,X (bV 425 (DC q [a] (by simp only[qi,zg];omega)) (cg aS [a] X0)))],.r [(0,X (Xn ((j:Int)+1)))]]) [(0,0),(73,73)] (om ((fm eY q [(((((bG p (k- 1))).ah).getD j default))]),(j+1)) ?_ ?_)
    ·
     first
     |exact⟨oM,by rw[tP oM,if_pos (CZ eO),<-l9.2.1],qC (uN ..) (by simp;omega)⟩
     |exact⟨oM,by rw[tP oM,if_neg (C0 eO)];exact l9.2.1,oM⟩
    exact tO
   refine .back [.r [(0,X (Xn ((j:Int)+1)))]] [(0,0),(73,73)] (om (q,(j+1)) ?_ ?_)
   ·
    first
    |exact⟨oM,by rw[tP oM,if_pos (CZ eO),<-l9.2.1],qC (uN ..) (by simp;omega)⟩
    |exact⟨oM,by rw[tP oM,if_neg (C0 eO)];exact l9.2.1,oM⟩
   exact tO
  have e2:((lH p k):List aI)=q:=by
   rw[l9.2.1,qk oM];rfl
  exact .aG [.r []] [(0,0)] (fun z0:List aI=>(VL 2 aS z0,[(0,.box [VI p.ai.id,VI p.ai.af,VL 2 aS p.ai.ah,VL 3 aU p.ai.aD,VI p.ai.az.ak,VI p.ai.az.aj,VL 5 bg p.ai.az.cells,VL 4 bE p.ai.az.aH,VL 8 cm p.ai.draw,VL 1 bC p.aN,VS p.aR])])) _ _ e2
 refine .bp [.r [],.r []] ((((bG p (k- 1))).aT) !=10) (fun h6=> ?_) (fun h6=> ?_)
 ·refine .loop (α:=Nat×(List aI)) [.r [(2,X (Xl aS (((bG p (k- 1))).ah)))],.le (.nR 8 2)] 210 (fun(i,o)=>([(1,VI k),(5,.ptr 65 0),(6,.ptr 73 0),(8,.aF 209 o.length),(29,VL 2 aS (((bG p (k- 1))).ah)),(30,VI ((((bG p (k- 1))).ah).length:Int)),(31,VI (i:Int))],[(0,.box [VI p.ai.id,VI p.ai.af,VL 2 aS p.ai.ah,VL 3 aU p.ai.aD,VI p.ai.az.ak,VI p.ai.az.aj,VL 5 bg p.ai.az.cells,VL 4 bE p.ai.az.aH,VL 8 cm p.ai.draw,VL 1 bC p.aN,VS p.aR]),(65,.box [VI (((bG p (k- 1))).aT),VI (((bG p (k- 1))).bh),VL 2 aS (((bG p (k- 1))).ah)]),(73,.box [VI (((bG p k)).aT),VI (((bG p k)).bh),VL 2 aS (((bG p k)).ah)]),(209,OR 2 aS o)])) (fun(i,o)=>i<=((((bG p (k- 1))).ah)).length/\o=(((((bG p (k- 1))).ah)).take i).filter (fun a=>BD a.name)) (fun(i,o)=>((((bG p (k- 1))).ah)).length-i) (0,[]) ?_ ?_
  ·exact⟨oM,rfl⟩
  rintro⟨i,o⟩ I8 u9;try dsimp only at I8
  have ol:o.length<=i:=by rw[I8.2];exact qC (zO ..) (by rw[qz];omega)
  refine .bp [.r []] (decide ((i:Int)< ((((bG p (k- 1))).ah).length:Int))) (fun h8=> ?_) (fun h8=> ?_)
  ·refine .bp (let a:=((bG p (k- 1))).ah;[.r [(0,X (Xi aS a (i:Int)))],.r [(2,X (aW (y1H (((a.getD i default)).name)) X0))]]) (BD ((((((bG p (k- 1))).ah).getD i default)).name)) (fun eE=> ?_) (fun eE=> ?_)
   ·refine .back (let a:=(((((bG p (k- 1))).ah).getD i default));[.r [(3,X (cg aS [a] (fK 2 aS 209 o [a])))],.r [(0,X (Xn ((i:Int)+1)))]]) [(0,0),(65,65),(73,73),(209,209)] (u9 ((i+1),(o++[(((((bG p (k- 1))).ah).getD i default))])) ?_ ?_)
    ·refine⟨oM,?_⟩;rw[I8.2,qt oM,zH]
     first|rw[F8 oM eE]|rw[F9 oM eE,qL]
    exact tO
   refine .back [.r [(0,X (Xn ((i:Int)+1)))]] [(0,0),(65,65),(73,73),(209,209)] (u9 ((i+1),o) ?_ ?_)
   ·refine⟨oM,?_⟩;rw[I8.2,qt oM,zH]
    first|rw[F8 oM eE]|rw[F9 oM eE,qL]
   exact tO
  have hB:=Ml p k;simp only[h3,h6,if_true,if_false,ne_eq,not_true_eq_false,not_false_eq_true,ite_true,ite_false,reduceIte] at hB;refine .loop (α:=(List aI)×Nat) [.r [(2,X (Xl aS (((bG p (k- 1))).ah)))],.le (.fr 8 [(o.length:Nat)=(List.map aS o).length] ⟨lm,trivial⟩)] 250 (fun(q,j)=>([(1,VI k),(6,.ptr 73 0),(8,VL 2 aS q),(44,VL 2 aS (((bG p (k- 1))).ah)),(45,VI ((((bG p (k- 1))).ah).length:Int)),(46,VI (j:Int))],[(0,.box [VI p.ai.id,VI p.ai.af,VL 2 aS p.ai.ah,VL 3 aU p.ai.aD,VI p.ai.az.ak,VI p.ai.az.aj,VL 5 bg p.ai.az.cells,VL 4 bE p.ai.az.aH,VL 8 cm p.ai.draw,VL 1 bC p.aN,VS p.aR]),(73,.box [VI (((bG p k)).aT),VI (((bG p k)).bh),VL 2 aS (((bG p k)).ah)])])) (fun(q,j)=>j<=(bG p (k- 1)).ah.length/\q=yu (bG p k) k (CY p k) ((bG p (k- 1)).ah.take j)/\q.length<=1048576+j) (fun(q,j)=>(bG p (k- 1)).ah.length-j) (o,0) ?_ ?_
  ·
   first|exact absurd h6 h3|exact⟨oM,by rw[hB];first| (rw[I8.2,qk oM];rfl)|rfl,by first|omega|simp⟩
  rintro⟨q,j⟩ l9 om;try dsimp only at l9
  refine .bp [.r []] (decide ((j:Int)< ((((bG p (k- 1))).ah).length:Int))) (fun eN=> ?_) (fun eN=> ?_)
  ·refine .bp (let a:=(((((bG p (k- 1))).ah).getD j default)).name;let b:=(mT a)&&decide (k>0);[.r [(0,X (Xi aS (((bG p (k- 1))).ah) (j:Int)))],.r [(2,X (aW (JF a) X0)),(5,Xv 1 (mT a) X0),(6,X (Xk (mT a))),(9,Xv 1 b X0),(11,Xv 1 b X0),(12,Xv 2 b (aW (CG (((bG p k)).ah) a) X0)),(14,Xv 1 b X0),(15,Xv 2 b X0),(16,X (Xk b))]]) (((mT ((((((bG p (k- 1))).ah).getD j default)).name))&&decide (k>0))&&seq (iZ (((bG p k)).ah) ((((((bG p (k- 1))).ah).getD j default)).name) 0) ((((((bG p (k- 1))).ah).getD j default)).val)) (fun eO=> ?_) (fun eO=> ?_)
   ·refine .back (let a:=(((((bG p (k- 1))).ah).getD j default));[.r [(3,X (bV 450 (DC q [a] (by simp only[qi,zg];omega)) (cg aS [a] X0)))],.r [(0,X (Xn ((j:Int)+1)))]]) [(0,0),(73,73)] (om ((fm eY q [(((((bG p (k- 1))).ah).getD j default))]),(j+1)) ?_ ?_)
    ·
     first
     |exact⟨oM,by rw[tP oM,if_pos (CZ eO),<-l9.2.1],qC (uN ..) (by simp;omega)⟩
     |exact⟨oM,by rw[tP oM,if_neg (C0 eO)];exact l9.2.1,oM⟩
    exact tO
   refine .back [.r [(0,X (Xn ((j:Int)+1)))]] [(0,0),(73,73)] (om (q,(j+1)) ?_ ?_)
   ·
    first
    |exact⟨oM,by rw[tP oM,if_pos (CZ eO),<-l9.2.1],qC (uN ..) (by simp;omega)⟩
    |exact⟨oM,by rw[tP oM,if_neg (C0 eO)];exact l9.2.1,oM⟩
   exact tO
  have e3:((lH p k):List aI)=q:=by
   rw[l9.2.1,qk oM];rfl
  exact .aG [.r []] [(0,0)] (fun z0:List aI=>(VL 2 aS z0,[(0,.box [VI p.ai.id,VI p.ai.af,VL 2 aS p.ai.ah,VL 3 aU p.ai.aD,VI p.ai.az.ak,VI p.ai.az.aj,VL 5 bg p.ai.az.cells,VL 4 bE p.ai.az.aH,VL 8 cm p.ai.draw,VL 1 bC p.aN,VS p.aR])])) _ _ e3
 have hB:=Ml p k;simp only[h3,h6,if_true,if_false,ne_eq,not_true_eq_false,not_false_eq_true,ite_true,ite_false,reduceIte] at hB;refine .loop (α:=(List aI)×Nat) [.r [(2,X (Xl aS (((bG p (k- 1))).ah)))],.le (.nL 8 2)] 209 (fun(q,j)=>([(1,VI k),(6,.ptr 73 0),(8,VL 2 aS q),(44,VL 2 aS (((bG p (k- 1))).ah)),(45,VI ((((bG p (k- 1))).ah).length:Int)),(46,VI (j:Int))],[(0,.box [VI p.ai.id,VI p.ai.af,VL 2 aS p.ai.ah,VL 3 aU p.ai.aD,VI p.ai.az.ak,VI p.ai.az.aj,VL 5 bg p.ai.az.cells,VL 4 bE p.ai.az.aH,VL 8 cm p.ai.draw,VL 1 bC p.aN,VS p.aR]),(73,.box [VI (((bG p k)).aT),VI (((bG p k)).bh),VL 2 aS (((bG p k)).ah)])])) (fun(q,j)=>j<=(bG p (k- 1)).ah.length/\q=yu (bG p k) k (CY p k) ((bG p (k- 1)).ah.take j)/\q.length<=1048576+j) (fun(q,j)=>(bG p (k- 1)).ah.length-j) ([],0) ?_ ?_
 ·
  first|exact absurd h6 h3|exact⟨oM,by rw[hB];first| (rw[I8.2,qk oM];rfl)|rfl,by first|omega|simp⟩
 rintro⟨q,j⟩ l9 om;try dsimp only at l9
 refine .bp [.r []] (decide ((j:Int)< ((((bG p (k- 1))).ah).length:Int))) (fun eN=> ?_) (fun eN=> ?_)
 ·refine .bp (let a:=(((((bG p (k- 1))).ah).getD j default)).name;let b:=(mT a)&&decide (k>0);[.r [(0,X (Xi aS (((bG p (k- 1))).ah) (j:Int)))],.r [(2,X (aW (JF a) X0)),(5,Xv 1 (mT a) X0),(6,X (Xk (mT a))),(9,Xv 1 b X0),(11,Xv 1 b X0),(12,Xv 2 b (aW (CG (((bG p k)).ah) a) X0)),(14,Xv 1 b X0),(15,Xv 2 b X0),(16,X (Xk b))]]) (((mT ((((((bG p (k- 1))).ah).getD j default)).name))&&decide (k>0))&&seq (iZ (((bG p k)).ah) ((((((bG p (k- 1))).ah).getD j default)).name) 0) ((((((bG p (k- 1))).ah).getD j default)).val)) (fun eO=> ?_) (fun eO=> ?_)
  ·refine .back (let a:=(((((bG p (k- 1))).ah).getD j default));[.r [(3,X (bV 409 (DC q [a] (by simp only[qi,zg];omega)) (cg aS [a] X0)))],.r [(0,X (Xn ((j:Int)+1)))]]) [(0,0),(73,73)] (om ((fm eY q [(((((bG p (k- 1))).ah).getD j default))]),(j+1)) ?_ ?_)
   ·
    first
    |exact⟨oM,by rw[tP oM,if_pos (CZ eO),<-l9.2.1],qC (uN ..) (by simp;omega)⟩
    |exact⟨oM,by rw[tP oM,if_neg (C0 eO)];exact l9.2.1,oM⟩
   exact tO
  refine .back [.r [(0,X (Xn ((j:Int)+1)))]] [(0,0),(73,73)] (om (q,(j+1)) ?_ ?_)
  ·
   first
   |exact⟨oM,by rw[tP oM,if_pos (CZ eO),<-l9.2.1],qC (uN ..) (by simp;omega)⟩
   |exact⟨oM,by rw[tP oM,if_neg (C0 eO)];exact l9.2.1,oM⟩
  exact tO
 have e4:((lH p k):List aI)=q:=by
  rw[l9.2.1,qk oM];rfl
 exact .aG [.r []] [(0,0)] (fun z0:List aI=>(VL 2 aS z0,[(0,.box [VI p.ai.id,VI p.ai.af,VL 2 aS p.ai.ah,VL 3 aU p.ai.aD,VI p.ai.az.ak,VI p.ai.az.aj,VL 5 bg p.ai.az.cells,VL 4 bE p.ai.az.aH,VL 8 cm p.ai.draw,VL 1 bC p.aN,VS p.aR])])) _ _ e4
theorem x20(p:Pl)(k:Nat)(hb:mq p)(hk:k<=1000000000):FC Tryz.prog 76 [.ptr 0 0,VI (k:Int)] (app emp [(0,.box [VI p.ai.id,VI p.ai.af,VL 2 aS p.ai.ah,VL 3 aU p.ai.aD,VI p.ai.az.ak,VI p.ai.az.aj,VL 5 bg p.ai.az.cells,VL 4 bE p.ai.az.aH,VL 8 cm p.ai.draw,VL 1 bC p.aN,VS p.aR])]) (VL 2 aS (BE p k)) (app emp [(0,.box [VI p.ai.id,VI p.ai.af,VL 2 aS p.ai.ah,VL 3 aU p.ai.aD,VI p.ai.az.ak,VI p.ai.az.aj,VL 5 bg p.ai.az.cells,VL 4 bE p.ai.az.aH,VL 8 cm p.ai.draw,VL 1 bC p.aN,VS p.aR])]):=by
 refine .go Tryz.f76 ?_;have iY:=hb.sl;refine .loop (α:=Nat) [.r []] 9 (fun m=>([(0,.ptr 0 0),(1,VI (m:Int))],[(0,.box [VI p.ai.id,VI p.ai.af,VL 2 aS p.ai.ah,VL 3 aU p.ai.aD,VI p.ai.az.ak,VI p.ai.az.aj,VL 5 bg p.ai.az.cells,VL 4 bE p.ai.az.aH,VL 8 cm p.ai.draw,VL 1 bC p.aN,VS p.aR])])) (fun m=>sV p k=sV p m/\m<=k+p.aN.length) (fun m=>p.aN.length-m) (k:Nat) ?_ ?_
 ·exact⟨rfl,oM⟩
 rintro m I1 xY;try dsimp only at I1
 refine .bp [.r [(2,X (gB [(0,0)] (z40 p (m:Int) aM) X0))]] ((((bG p (m:Int))).aT) !=10) (fun h1=> ?_) (fun h1=> ?_)
 ·obtain⟨g1,g2⟩:=Zi h1;refine .back [.r [(1,X (Xn ((m:Int)+1)))]] [(0,0)] (xY ((m+1):Nat) ?_ ?_)
  ·exact⟨I1.1.trans g2,oM⟩
  exact tO
 have g3:=I1.1.trans (Zj h1);have bm:=R5 hb (m:Int);refine .loop (α:=Nat×(List aI)) [.r [],.r [(2,X (gB [(0,0)] (z40 p (m:Int) aM) X0)),(4,X (Xl aS (((bG p (m:Int))).ah)))],.le (.nR 5 2)] 106 (fun(i,o)=>([(5,.aF 105 o.length),(18,VL 2 aS (((bG p (m:Int))).ah)),(19,VI ((((bG p (m:Int))).ah).length:Int)),(20,VI (i:Int))],[(0,.box [VI p.ai.id,VI p.ai.af,VL 2 aS p.ai.ah,VL 3 aU p.ai.aD,VI p.ai.az.ak,VI p.ai.az.aj,VL 5 bg p.ai.az.cells,VL 4 bE p.ai.az.aH,VL 8 cm p.ai.draw,VL 1 bC p.aN,VS p.aR]),(105,OR 2 aS o)])) (fun(i,o)=>i<=(bG p m).ah.length/\o=((bG p m).ah.take i).filter Ga) (fun(i,o)=>(bG p m).ah.length-i) (0,[]) ?_ ?_
 ·exact⟨oM,rfl⟩
 rintro⟨i,o⟩ I5 mR;try dsimp only at I5
 have ol:o.length<=i:=by rw[I5.2];exact qC (zO ..) (by rw[qz];omega)
 refine .bp [.r []] (decide ((i:Int)< ((((bG p (m:Int))).ah).length:Int))) (fun h5=> ?_) (fun h5=> ?_)
 ·refine .bp (let a:=([{data:=#[97,100,100]},{data:=#[99,117,116]},{data:=#[104,105,100,100,101,110]},{data:=#[108,111,99,107]},{data:=#[115,101,99,116,105,111,110]},{data:=#[98,114,101,97,107]},{data:=#[115,116,97,114,116]}]);let b:=(((((bG p (m:Int))).ah).getD i default)).name;[.r [(0,X (Xi aS (((bG p (m:Int))).ah) (i:Int)))],.r [(3,X (aW (x2Z [{data:=#[97,100,100]},{data:=#[99,117,116]},{data:=#[104,105,100,100,101,110]},{data:=#[108,111,99,107]},{data:=#[115,101,99,116,105,111,110]},{data:=#[98,114,101,97,107]},{data:=#[115,116,97,114,116]}] b) (cg n5 [{data:=#[97,100,100]},{data:=#[99,117,116]},{data:=#[104,105,100,100,101,110]},{data:=#[108,111,99,107]},{data:=#[115,101,99,116,105,111,110]},{data:=#[98,114,101,97,107]},{data:=#[115,116,97,114,116]}] X0))),(7,Xv 1 (!(a.any (fun y=>seq b y))) X0),(8,Xv 1 (!(a.any (fun y=>seq b y))) (aW (JF b) X0)),(9,Xv 1 (!(a.any (fun y=>seq b y))) X0),(10,X (Xk (!(a.any (fun y=>seq b y)))))]]) (!(([{data:=#[97,100,100]},{data:=#[99,117,116]},{data:=#[104,105,100,100,101,110]},{data:=#[108,111,99,107]},{data:=#[115,101,99,116,105,111,110]},{data:=#[98,114,101,97,107]},{data:=#[115,116,97,114,116]}]).any (fun y=>seq ((((((bG p (m:Int))).ah).getD i default)).name) y))&& !(mT ((((((bG p (m:Int))).ah).getD i default)).name))) (fun h7=> ?_) (fun h7=> ?_)
  ·refine .back (let a:=(((((bG p (m:Int))).ah).getD i default));[.r [(3,X (cg aS [a] (fK 2 aS 105 o [a])))],.r [(0,X (Xn ((i:Int)+1)))]]) [(0,0),(105,105)] (mR ((i+1),(o++[(((((bG p (m:Int))).ah).getD i default))])) ?_ ?_)
   ·refine⟨oM,?_⟩;rw[I5.2,qt oM,zH]
    first|rw[F8 oM (Zk h7)]|rw[F9 oM (Zl h7),qL]
   exact tO
  refine .back [.r [(0,X (Xn ((i:Int)+1)))]] [(0,0),(105,105)] (mR ((i+1),o) ?_ ?_)
  ·refine⟨oM,?_⟩;rw[I5.2,qt oM,zH]
   first|rw[F8 oM (Zk h7)]|rw[F9 oM (Zl h7),qL]
  exact tO
 have e1:((BE p k):List aI)=o:=by
  rw[I5.2,qk oM];unfold BE;rw[g3]
 exact .aG [.r [],.le (.fr 4 [(o.length:Nat)=(List.map aS o).length] ⟨lm,trivial⟩)] [(0,0)] (fun z0:List aI=>(VL 2 aS z0,[(0,.box [VI p.ai.id,VI p.ai.af,VL 2 aS p.ai.ah,VL 3 aU p.ai.aD,VI p.ai.az.ak,VI p.ai.az.aj,VL 5 bg p.ai.az.cells,VL 4 bE p.ai.az.aH,VL 8 cm p.ai.draw,VL 1 bC p.aN,VS p.aR])])) _ _ e1
theorem x21(p:Pl)(s:bM)(es:List aL)(hb:mq p)(hs:yw p s es):FC Tryz.prog 77 [.ptr 0 0,.t (jR s),VL 3 aU es] (app emp [(0,.box [VI p.ai.id,VI p.ai.af,VL 2 aS p.ai.ah,VL 3 aU p.ai.aD,VI p.ai.az.ak,VI p.ai.az.aj,VL 5 bg p.ai.az.cells,VL 4 bE p.ai.az.aH,VL 8 cm p.ai.draw,VL 1 bC p.aN,VS p.aR])]) (.aZ [VL 19 bI [gG s.nd (rZ p s es)],.t (jR (Ao s es)),VI 0]) (app emp [(0,.box [VI p.ai.id,VI p.ai.af,VL 2 aS p.ai.ah,VL 3 aU p.ai.aD,VI p.ai.az.ak,VI p.ai.az.aj,VL 5 bg p.ai.az.cells,VL 4 bE p.ai.az.aH,VL 8 cm p.ai.draw,VL 1 bC p.aN,VS p.aR])]):=by
 refine .go Tryz.f77 ?_;refine .len 2 (fun lU=> ?_);obtain⟨s1,q1,q2,v1,v2,v3,d1,d2,d3,m1,m2,m3⟩:=hs;simp only[xg,An] at v1 v2 v3 d1 d2 d3 m1 m2 m3;have hf:p.ai.aD.length<=10000000:=by(have:=hb.len;omega)
 have gA:=hb.sl;have tW:∀x∈(p.aN.take s.tq.toNat).drop s.fr.toNat,0<=x/\x< (p.ai.aD.length:Int):=fun x hx=>hb.ok x (qF (qE hx))
 have S1:∀x∈p.aN,0<=x/\x<=1000000000:=fun x hx=>by(have:=hb.ok x hx;omega)
 have hgp:=KH hb s1;have e1:([gG s.nd (rZ p s es)]:List aP)=[({af:=2,ai:=s.nd,nw:=({id:=0,af:=0,ah:=[],aD:=[],az:=({ak:=0,aj:=0,cells:=[],aH:=[]}:aX),draw:=[]}:Node),ah:=[],aQ:=(sQ (pZ p.ai.aD ((p.aN.take (Int.toNat s.tq)).drop (Int.toNat s.fr)) p.aR) (jD (tD (p.ai.aD).length (ou p.aN s.fr) es p.aR) (pZ p.ai.aD ((p.aN.take (Int.toNat s.tq)).drop (Int.toNat s.fr)) p.aR))),az:=({ak:=[],aj:=[],cells:=[],split:=[],merge:=[]}:bP),draw:=[]}:aP)]:=by
  rfl
 have e2:((Ao s es):bM)=({nd:=s.nd,fr:=(s.fr+(es.length:Int)),tq:=(s.fr+(es.length:Int))}:bM):=by
  rfl
 exact .bA (let a:=pZ p.ai.aD ((p.aN.take (Int.toNat s.tq)).drop (Int.toNat s.fr)) p.aR;let b:=tD (p.ai.aD).length (ou p.aN s.fr) es p.aR;[.r [],.r [],.r [(9,X (Qx bC 1 p.aN s.fr s.tq)),(14,X (bV 193 (y4K p.ai.aD ((p.aN.take (Int.toNat s.tq)).drop (Int.toNat s.fr)) p.aR oM aM) X0))],.r [(6,X (aW (x2M p.aN s.fr oM aM) X0))],.r [(7,X (bV 329 (y8n p.ai.aD (ou p.aN s.fr) es p.aR oM oM oM aM) X0))],.r [(2,X (bV 361 (SP b a aM aM aM aM oM oM) X0))],.r [],.f,.r [(2,X (bV 457 (YZ a (jD b a) aM aM aM aM oM) X0))],.r [],.f,.r [(3,X (Xl aU es)),(4,X (Xn (s.fr+(es.length:Int))))],.r [(3,X (Xf [(4,2),(5,3),(8,5),(9,4),(10,8),(11,2),(13,2),(14,2),(15,5),(16,4),(17,4),(18,8)]))],.le (.fr 6 [(1:Nat)=(List.map bI [({af:=2,ai:=s.nd,nw:=({id:=0,af:=0,ah:=[],aD:=[],az:=({ak:=0,aj:=0,cells:=[],aH:=[]}:aX),draw:=[]}:Node),ah:=[],aQ:=(sQ a (jD b a)),az:=({ak:=[],aj:=[],cells:=[],split:=[],merge:=[]}:bP),draw:=[]}:aP)]).length] ⟨lm,trivial⟩)]) [] [(0,0)] (fun((z0,z1):(List aP)×bM)=>(.aZ [VL 19 bI z0,.t (jR z1),VI 0],[(0,.box [VI p.ai.id,VI p.ai.af,VL 2 aS p.ai.ah,VL 3 aU p.ai.aD,VI p.ai.az.ak,VI p.ai.az.aj,VL 5 bg p.ai.az.cells,VL 4 bE p.ai.az.aH,VL 8 cm p.ai.draw,VL 1 bC p.aN,VS p.aR])])) _ _ (pr e1 e2)
theorem x8q(p:Pl)(k:Int)(hb:mq p)(hk:0<=k/\k<=1000000000):FC Tryz.prog 76 [.ptr 0 0,VI k] (app emp [(0,.box [VI p.ai.id,VI p.ai.af,VL 2 aS p.ai.ah,VL 3 aU p.ai.aD,VI p.ai.az.ak,VI p.ai.az.aj,VL 5 bg p.ai.az.cells,VL 4 bE p.ai.az.aH,VL 8 cm p.ai.draw,VL 1 bC p.aN,VS p.aR])]) (VL 2 aS (BE p k.toNat)) (app emp [(0,.box [VI p.ai.id,VI p.ai.af,VL 2 aS p.ai.ah,VL 3 aU p.ai.aD,VI p.ai.az.ak,VI p.ai.az.aj,VL 5 bg p.ai.az.cells,VL 4 bE p.ai.az.aH,VL 8 cm p.ai.draw,VL 1 bC p.aN,VS p.aR])]):=by
 have h:=x20 p k.toNat hb oM;rw[zL hk.1] at h;exact h
def w2p(t:ByteArray)(cs:List Int):Prop:=∀l:List aI,dO false l 0=0->l.length<=10000000->FC Tryz.prog 74 [VS t,VL 2 aS l] (app emp []) (.aZ [.aF 0 (cs.map (uQ l)).length,VI 0]) (app emp [(0,OR 3 aU (cs.map (uQ l)))])
theorem x22(d:Doc)(s:bM)(t:ByteArray)(cs:List Int)(au:ByteArray)(hof:w2p t cs)(hb:fD d)(ht:t.size<=20000)(hx:dP d s au=0->BF d s cs au):FC Tryz.prog 33 [.t (gU d),.t (jR s),VS t,VS au] (app emp []) (.aZ [VL 19 bI (nT d s cs au),.t (jR (yx d s cs au)),VI (dP d s au)]) (app emp []):=by
 refine .go Tryz.f33 ?_;refine .bp [.r [],.r [(3,X (bV 64 (M7 d s au aM) X0))],.r []] ((dP d s au) !=0) (fun h2=> ?_) (fun h2=> ?_)
 ·have T:=x9I (cs:=cs) h2;have e1:((nT d s cs au):List aP)=[]:=by
   exact T.1
  have e2:((yx d s cs au):bM)=({nd:=0,fr:=0,tq:=0}:bM):=by
   exact T.2
  exact .bA [.r [],.le (.nL 8 19)] [] [] (fun((z0,z1):(List aP)×bM)=>(.aZ [VL 19 bI z0,.t (jR z1),VI (dP d s au)],[])) _ _ (pr e1 e2)
 refine .bp [.r []] (decide ((t.size:Int)> 20000)) (fun h4=> ?_) (fun h4=> ?_)
 ·exfalso;omega
 obtain⟨tp,tc,tl,tr,ts⟩:=hx h2;have Qn:=tp.sl;have kV:(List.map (uQ (lH (bL d s au) s.fr)) cs).length<=1048576:=by(have:=ts.e1;unfold v7 at this;simpa using this)
 refine .loop (α:=Nat×(List aL)) [.r [(3,X (gB [(0,96)] (x6o ((bL d s au)) s.fr aM oM) X0)),(4,X (bV 192 (hof (lH ((bL d s au)) s.fr) aM oM) X0))],.r [],.f,.r []] 280 (fun(i,o)=>([(5,.ptr 8 0),(9,.ptr 24 0),(11,.ptr 96 0),(13,.aF 192 o.length),(43,VI ((List.map (uQ (lH ((bL d s au)) s.fr)) cs).length:Int)),(44,VI (i:Int))],[(8,.box [VI s.nd,VI s.fr,VI s.tq]),(24,.box [VI 0,VI 0,VI 0]),(96,.box [VI ((((bL d s au)).ai).id),VI ((((bL d s au)).ai).af),VL 2 aS ((((bL d s au)).ai).ah),VL 3 aU ((((bL d s au)).ai).aD),VI (((((bL d s au)).ai).az).ak),VI (((((bL d s au)).ai).az).aj),VL 5 bg (((((bL d s au)).ai).az).cells),VL 4 bE (((((bL d s au)).ai).az).aH),VL 8 cm ((((bL d s au)).ai).draw),VL 1 bC (((bL d s au)).aN),VS (((bL d s au)).aR)]),(192,OR 3 aU o)])) (fun(i,o)=>i<=(cs.map (uQ (lH (bL d s au) s.fr))).length/\o=((cs.map (uQ (lH (bL d s au) s.fr))).take i).map (Et (bL d s au) s)++(cs.map (uQ (lH (bL d s au) s.fr))).drop i) (fun(i,o)=>(cs.map (uQ (lH (bL d s au) s.fr))).length-i) (0,(List.map (uQ (lH ((bL d s au)) s.fr)) cs)) ?_ ?_
 ·exact⟨oM,sM⟩
 rintro⟨i,o⟩ mN pX;try dsimp only at mN
 have ol:o.length=(cs.map (uQ (lH (bL d s au) s.fr))).length:=by rw[mN.2];simp;omega
 refine .bp [.r []] (decide ((i:Int)< ((List.map (uQ (lH ((bL d s au)) s.fr)) cs).length:Int))) (fun eE=> ?_) (fun eE=> ?_)
 ·have JE:o.getD i default=(cs.map (uQ (lH (bL d s au) s.fr))).getD i default:=by rw[mN.2];exact Zg oM
  refine .bp [.r [],.r [(2,X (Xp aU o (i:Int))),(4,X (Xe aU o i))]] ((((o.getD i default)).aT)==10) (fun fJ=> ?_) (fun fJ=> ?_)
  ·refine .back (let a:=({aT:=((o.getD i default)).aT,bh:=((o.getD i default)).bh,ah:=(BE ((bL d s au)) (s.tq).toNat)}:aL);[.r [(4,X (gB [(0,96)] (x8q ((bL d s au)) s.tq aM oM) X0)),(5,X (Xp aU o (i:Int))),(7,X (Xs 3 aU 192 o i a))],.r [(0,X (Xn ((i:Int)+1)))],.le (.eq 13 (.aF 192 o.length) (.aF 192 ((o.set i a).length)) (.of_eq (by simp only[zt])))]) [(8,8),(24,24),(96,96),(192,192)] (pX ((i+1),(o.set i ({aT:=((o.getD i default)).aT,bh:=((o.getD i default)).bh,ah:=(BE ((bL d s au)) (s.tq).toNat)}:aL))) ?_ ?_)
   ·refine⟨oM,?_⟩;rw[<-x9K fJ,JE,<-Zh oM,<-mN.2]
   exact tO
  refine .back [.r [(0,X (Xn ((i:Int)+1)))]] [(8,8),(24,24),(96,96),(192,192)] (pX ((i+1),o) ?_ ?_)
  ·refine⟨oM,?_⟩;rw[<-x1I oM (x9L (by rw[<-JE];exact fJ)),<-mN.2]
  exact tO
 have ho:o=v7 (bL d s au) s cs:=by rw[mN.2,qk oM,qN oM,qL];rfl
 rw[<-ho] at ts;have T:=x9J (cs:=cs) h2;have e3:((nT d s cs au):List aP)=[gG (s).nd (rZ ((bL d s au)) s o)]:=by
  rw[T.1,ho]
 have e4:((yx d s cs au):bM)=((Ao s o)):=by
  rw[T.2,ho]
 have e5:((dP d s au):Int)=0:=by
  exact h2
 exact .bA [.le (.fr 13 [(o.length:Nat)=(List.map aU o).length] ⟨lm,trivial⟩),.r [(2,X (gB [(0,96)] (x21 ((bL d s au)) s o aM aM) X0))]] [] [] (fun((z0,z1,z2):(List aP)×bM×Int)=>(.aZ [VL 19 bI z0,.t (jR z1),VI z2],[])) _ _ (pr e3 (pr e4 e5))
theorem y9B(p:Pl)(s:bM)(es:List aL)(hb:mq p)(hs:yw p s es):FC Tryz.prog 77 [.ptr 0 0,.t (jR s),.aF 1 es.length] (app emp [(0,.box [VI p.ai.id,VI p.ai.af,VL 2 aS p.ai.ah,VL 3 aU p.ai.aD,VI p.ai.az.ak,VI p.ai.az.aj,VL 5 bg p.ai.az.cells,VL 4 bE p.ai.az.aH,VL 8 cm p.ai.draw,VL 1 bC p.aN,VS p.aR]),(1,OR 3 aU es)]) (.aZ [VL 19 bI [gG s.nd (rZ p s es)],.t (jR (Ao s es)),VI 0]) (app emp [(0,.box [VI p.ai.id,VI p.ai.af,VL 2 aS p.ai.ah,VL 3 aU p.ai.aD,VI p.ai.az.ak,VI p.ai.az.aj,VL 5 bg p.ai.az.cells,VL 4 bE p.ai.az.aH,VL 8 cm p.ai.draw,VL 1 bC p.aN,VS p.aR]),(1,OF 3 aU es)]):=by
 refine .go Tryz.f77 ?_;obtain⟨s1,q1,q2,v1,v2,v3,d1,d2,d3,m1,m2,m3⟩:=hs;simp only[xg,An] at v1 v2 v3 d1 d2 d3 m1 m2 m3;have hf:p.ai.aD.length<=10000000:=by(have:=hb.len;omega)
 have gA:=hb.sl;have tW:∀x∈(p.aN.take s.tq.toNat).drop s.fr.toNat,0<=x/\x< (p.ai.aD.length:Int):=fun x hx=>hb.ok x (qF (qE hx))
 have S1:∀x∈p.aN,0<=x/\x<=1000000000:=fun x hx=>by(have:=hb.ok x hx;omega)
 have hgp:=KH hb s1;have e1:([gG s.nd (rZ p s es)]:List aP)=[({af:=2,ai:=s.nd,nw:=({id:=0,af:=0,ah:=[],aD:=[],az:=({ak:=0,aj:=0,cells:=[],aH:=[]}:aX),draw:=[]}:Node),ah:=[],aQ:=(sQ (pZ p.ai.aD ((p.aN.take (Int.toNat s.tq)).drop (Int.toNat s.fr)) p.aR) (jD (tD (p.ai.aD).length (ou p.aN s.fr) es p.aR) (pZ p.ai.aD ((p.aN.take (Int.toNat s.tq)).drop (Int.toNat s.fr)) p.aR))),az:=({ak:=[],aj:=[],cells:=[],split:=[],merge:=[]}:bP),draw:=[]}:aP)]:=by
  rfl
 have e2:((Ao s es):bM)=({nd:=s.nd,fr:=(s.fr+(es.length:Int)),tq:=(s.fr+(es.length:Int))}:bM):=by
  rfl
 exact .bA (let a:=pZ p.ai.aD ((p.aN.take (Int.toNat s.tq)).drop (Int.toNat s.fr)) p.aR;let b:=tD (p.ai.aD).length (ou p.aN s.fr) es p.aR;[.r [],.r [],.r [(9,X (Qx bC 1 p.aN s.fr s.tq)),(14,X (bV 194 (y4K p.ai.aD ((p.aN.take (Int.toNat s.tq)).drop (Int.toNat s.fr)) p.aR oM aM) X0))],.r [(6,X (aW (x2M p.aN s.fr oM aM) X0))],.r [(7,X (bV 330 (y8n p.ai.aD (ou p.aN s.fr) es p.aR oM oM oM aM) (cg aU es X0)))],.r [(2,X (bV 362 (SP b a aM aM aM aM oM oM) X0))],.r [],.f,.r [(2,X (bV 458 (YZ a (jD b a) aM aM aM aM oM) X0))],.r [],.f,.r [(4,X (Xn (s.fr+(es.length:Int))))],.r [(3,X (Xf [(4,2),(5,3),(8,5),(9,4),(10,8),(11,2),(13,2),(14,2),(15,5),(16,4),(17,4),(18,8)]))],.le (.fr 6 [(1:Nat)=(List.map bI [({af:=2,ai:=s.nd,nw:=({id:=0,af:=0,ah:=[],aD:=[],az:=({ak:=0,aj:=0,cells:=[],aH:=[]}:aX),draw:=[]}:Node),ah:=[],aQ:=(sQ a (jD b a)),az:=({ak:=[],aj:=[],cells:=[],split:=[],merge:=[]}:bP),draw:=[]}:aP)]).length] ⟨lm,trivial⟩)]) [] [(0,0),(1,1)] (fun((z0,z1):(List aP)×bM)=>(.aZ [VL 19 bI z0,.t (jR z1),VI 0],[(0,.box [VI p.ai.id,VI p.ai.af,VL 2 aS p.ai.ah,VL 3 aU p.ai.aD,VI p.ai.az.ak,VI p.ai.az.aj,VL 5 bg p.ai.az.cells,VL 4 bE p.ai.az.aH,VL 8 cm p.ai.draw,VL 1 bC p.aN,VS p.aR]),(1,OF 3 aU es)])) _ _ (pr e1 e2)
theorem x8r(k:Int):FC Tryz.prog 146 [VI k] (app emp []) (VI (k/65536)) (app emp []):=by
 refine .go Tryz.f146 ?_;exact .fin [.r [],.r [(1,X (Ll IntKind.i64 16 (k.fdiv (2^(min (16:Int).toNat IntKind.i64.bits))) (k/65536)) ⟨dM,w1u⟩)]] []
theorem x23(d:Doc)(aC:Int)(hb:fD d):FC Tryz.prog 86 [.t (gU d),VI aC] (app emp []) (.aZ [VI (ij d aC),VI (ig d aC)]) (app emp []):=by
 refine .go Tryz.f86 ?_;have hl:=hb.len;refine .bp [.r [],.r [(1,X (aW (DD d aM) X0))],.r []] ((ez d) !=0) (fun h2=> ?_) (fun h2=> ?_)
 ·have T:=x9M (aC:=aC) h2;have e1:((ij d aC):Int)=0:=by
   exact T.1
  have e2:((ig d aC):Int)=(ez d):=by
   exact T.2
  exact .aG [.r []] [] (fun((z0,z1):Int×Int)=>(.aZ [VI z0,VI z1],[])) _ _ (pr e1 e2)
 refine .bp [.r [(4,Xv 1 (!(decide (aC<0))) X0),(5,X (b7 (decide (aC<0))))]] (decide (aC<0)||decide (aC>1000)) (fun h4=> ?_) (fun h4=> ?_)
 ·have T:=x9N oM h4;have e3:((ij d aC):Int)=0:=by
   exact T.1
  have e4:((ig d aC):Int)=2:=by
   exact T.2
  exact .aG [.r []] [] (fun((z0,z1):Int×Int)=>(.aZ [VI z0,VI z1],[])) _ _ (pr e3 e4)
 have bn:=YC (d:=d) oM;refine .loop (α:=Int×Nat) [.r [(1,X (Ll IntKind.i64 16 (IntKind.i64.wrap (aC*2^(min (16:Int).toNat IntKind.i64.bits))) (aC*65536)) ⟨dM,w1v oM⟩)],.r [(2,X (Xl bz d.aq))]] 168 (fun(x,i)=>([(1,VI aC),(7,VI x),(24,VL 9 bz d.aq),(25,VI (d.aq.length:Int)),(26,VI (i:Int))],[])) (fun(x,i)=>i<=d.aq.length/\x=ov d.aq aC i/\0<=x/\x<=1073741824) (fun(x,i)=>d.aq.length-i) ((aC*65536),0) ?_ ?_
 ·exact⟨oM,rfl,oM,oM⟩
 rintro⟨x,i⟩ I8 u9;try dsimp only at I8
 refine .bp [.r []] (decide ((i:Int)< (d.aq.length:Int))) (fun h8=> ?_) (fun h8=> ?_)
 ·have hx:=bn _ (FZ (l:=d.aq) (i:=i) oM);refine .bp [.r [(0,X (Xi bz d.aq (i:Int)))],.r [(2,X (aW (x8r (((d.aq.getD i default)).id)) X0))]] (((((d.aq.getD i default)).id)/65536)==aC) (fun eE=> ?_) (fun eE=> ?_)
  ·refine .back [.r [],.r [(0,X (Xn ((i:Int)+1)))]] [] (u9 (((d.aq.getD i default)).id,(i+1)) ?_ ?_)
   ·exact⟨oM,by rw[R9 oM,if_pos eE],oM,oM⟩
   exact tO
  refine .back [.r [(0,X (Xn ((i:Int)+1)))]] [] (u9 (x,(i+1)) ?_ ?_)
  ·exact⟨oM,by rw[R9 oM,if_neg eE];exact I8.2.1,I8.2.2⟩
  exact tO
 have kD:x=ov d.aq aC d.aq.length:=by rw[I8.2.1,show i=d.aq.length by omega]
 refine .bp [.r [(1,X (w2x IntKind.i64 (GC IntKind.i64 x 65535) (x%65536)) (w1w oM))]] ((x%65536)==65535) (fun fe=> ?_) (fun fe=> ?_)
 ·have T:=O7 oM h4 (kD▸fe);have e5:((ij d aC):Int)=0:=by
   exact T.1
  have e6:((ig d aC):Int)=18:=by
   exact T.2
  exact .aG [.r []] [] (fun((z0,z1):Int×Int)=>(.aZ [VI z0,VI z1],[])) _ _ (pr e5 e6)
 have T:=O8 oM h4 (kD▸fe);rw[<-kD] at T;have e7:((ij d aC):Int)=(x+1):=by
  exact T.1
 have e8:((ig d aC):Int)=0:=by
  exact T.2
 exact .aG [.r [(1,X (Xn (x+1)))]] [] (fun((z0,z1):Int×Int)=>(.aZ [VI z0,VI z1],[])) _ _ (pr e7 e8)
theorem M8(d:Doc)(s:bM)(n:Node)(aC:Int)(au:ByteArray)(hb:fD d)(hn:n.az.aH=[]/\pJ n.az.cells)(hx:dP d s au=0->ig d aC=0->yy d s n aC au):FC Tryz.prog 83 [.t (gU d),.t (jR s),.t (bz n),VI aC,VS au] (app emp []) (.aZ [VL 19 bI (jE d s n aC au),.t (jR (mU d s n aC au)),VI (jO d s n aC au)]) (app emp []):=by
 refine .go Tryz.f83 ?_;refine .bp [.r [],.r [(3,X (bV 72 (M7 d s au aM) X0))],.r []] ((dP d s au) !=0) (fun h2=> ?_) (fun h2=> ?_)
 ·have T:=Ph (n:=n) (aC:=aC) h2;have e1:((jE d s n aC au):List aP)=[]:=by
   exact T.1
  have e2:((mU d s n aC au):bM)=({nd:=0,fr:=0,tq:=0}:bM):=by
   exact T.2.1
  have e3:((jO d s n aC au):Int)=(dP d s au):=by
   exact T.2.2
  exact .bA [.r [],.le (.nL 10 19)] [] [] (fun((z0,z1,z2):(List aP)×bM×Int)=>(.aZ [VL 19 bI z0,.t (jR z1),VI z2],[])) _ _ (pr e1 (pr e2 e3))
 refine .bp [.r [(5,X (aW (Yn ((((bL d s au)).ai).af) n.af) X0))]] (!(gz ((((bL d s au)).ai).af) n.af)) (fun h4=> ?_) (fun h4=> ?_)
 ·have T:=w1x (aC:=aC) h2 h4;have e4:((jE d s n aC au):List aP)=[]:=by
   exact T.1
  have e5:((mU d s n aC au):bM)=({nd:=0,fr:=0,tq:=0}:bM):=by
   exact T.2.1
  have e6:((jO d s n aC au):Int)=8:=by
   exact T.2.2
  exact .bA [.r [],.le (.nL 10 19)] [] [] (fun((z0,z1,z2):(List aP)×bM×Int)=>(.aZ [VL 19 bI z0,.t (jR z1),VI z2],[])) _ _ (pr e4 (pr e5 e6))
 refine .bp [.r [(2,X (aW (x23 d aC aM) X0))],.r []] ((ig d aC) !=0) (fun h7=> ?_) (fun h7=> ?_)
 ·have T:=w1y h2 h4 h7;have e7:((jE d s n aC au):List aP)=[]:=by
   exact T.1
  have e8:((mU d s n aC au):bM)=({nd:=0,fr:=0,tq:=0}:bM):=by
   exact T.2.1
  have e9:((jO d s n aC au):Int)=(ig d aC):=by
   exact T.2.2
  exact .bA [.r [],.le (.nL 10 19)] [] [] (fun((z0,z1,z2):(List aP)×bM×Int)=>(.aZ [VL 19 bI z0,.t (jR z1),VI z2],[])) _ _ (pr e7 (pr e8 e9))
 obtain⟨o1,o2,o3⟩:=hx h2 h7;refine .bp [.r [],.r [(1,X (aW (z93 ({id:=(ij d aC),af:=n.af,ah:=n.ah,aD:=n.aD,az:=n.az,draw:=n.draw}:Node) aM) X0))],.r []] ((fT ({id:=(ij d aC),af:=n.af,ah:=n.ah,aD:=n.aD,az:=n.az,draw:=n.draw}:Node)) !=0) (fun gO=> ?_) (fun gO=> ?_)
 ·have T:=w1z h2 h4 h7 gO;have kE:((jE d s n aC au):List aP)=[]:=by
   exact T.1
  have lg:((mU d s n aC au):bM)=({nd:=0,fr:=0,tq:=0}:bM):=by
   exact T.2.1
  have lu:((jO d s n aC au):Int)=(fT ({id:=(ij d aC),af:=n.af,ah:=n.ah,aD:=n.aD,az:=n.az,draw:=n.draw}:Node)):=by
   exact T.2.2
  exact .bA [.r [],.le (.nL 10 19)] [] [] (fun((z0,z1,z2):(List aP)×bM×Int)=>(.aZ [VL 19 bI z0,.t (jR z1),VI z2],[])) _ _ (pr kE (pr lg lu))
 have T:=w1A h2 h4 h7 gO;have nP:((jE d s n aC au):List aP)=([({af:=0,ai:=0,nw:=({id:=(ij d aC),af:=n.af,ah:=n.ah,aD:=n.aD,az:=n.az,draw:=n.draw}:Node),ah:=[],aQ:=[],az:=({ak:=[],aj:=[],cells:=[],split:=[],merge:=[]}:bP),draw:=[]}:aP)]++[gG (s).nd (rZ ((bL d s au)) s [({aT:=0,bh:=(ij d aC),ah:=(lH ((bL d s au)) s.fr)}:aL)])]):=by
  exact T.1
 have nQ:((mU d s n aC au):bM)=((Ao s [({aT:=0,bh:=(ij d aC),ah:=(lH ((bL d s au)) s.fr)}:aL)])):=by
  exact T.2.1
 have pY:((jO d s n aC au):Int)=0:=by
  exact T.2.2
 exact .bA (let a:=({af:=0,ai:=0,nw:=({id:=(ij d aC),af:=n.af,ah:=n.ah,aD:=n.aD,az:=n.az,draw:=n.draw}:Node),ah:=[],aQ:=[],az:=({ak:=[],aj:=[],cells:=[],split:=[],merge:=[]}:bP),draw:=[]}:aP);let c:=((bL d s au));let b:=({aT:=0,bh:=(ij d aC),ah:=(lH c s.fr)}:aL);let e:=[a]++[gG (s).nd (rZ c s [b])];[.r [(4,X (gB [(0,104)] (x6o c s.fr aM oM) X0)),(7,X (dV 400 [(0,104),(1,392)] (y9B c s [b] aM aM) X0))],.r [],.f,.r [(1,X (Xf [(11,2),(12,4),(13,2),(14,2),(15,5),(16,4),(17,4),(18,8)])),(4,X (Ks 19 bI 504 [a] [gG (s).nd (rZ c s [b])]))],.le (.fr 10 [((e.length):Nat)=(List.map bI e).length] ⟨lm,trivial⟩)]) [] [] (fun((z0,z1,z2):(List aP)×bM×Int)=>(.aZ [VL 19 bI z0,.t (jR z1),VI z2],[])) _ _ (pr nP (pr nQ pY))
theorem x8s(d:Doc)(s:bM)(r c:Int)(aC:Int)(au:ByteArray)(hr:1<=r/\r<=1000/\1<=c/\c<=1000)(hb:fD d)(hx:dP d s au=0->ig d aC=0->yy d s (sW r c) aC au):FC Tryz.prog 37 [.t (gU d),.t (jR s),VI r,VI c,VI aC,VS au] (app emp []) (.aZ [VL 19 bI (jE d s (sW r c) aC au),.t (jR (mU d s (sW r c) aC au)),VI (jO d s (sW r c) aC au)]) (app emp []):=by
 refine .go Tryz.f37 ?_;have hn:(sW r c).az.aH=[]/\pJ (sW r c).az.cells:=⟨rfl,fun x h=>by cases h⟩
 refine .bp (let a:=decide (r<1)||decide (r>1000);[.r [],.r [(4,Xv 1 (!(decide (r<1))) X0),(5,X (b7 (decide (r<1)))),(8,Xv 1 (!a) X0),(9,X (b7 a)),(12,Xv 1 (!(a||decide (c<1))) X0),(13,X (b7 (a||decide (c<1))))]]) (((decide (r<1)||decide (r>1000))||decide (c<1))||decide (c>1000)) (fun h1=> ?_) (fun h1=> ?_)
 ·exfalso;omega
 have e1:((jE d s (sW r c) aC au):List aP)=(jE d s ({id:=0,af:=2,ah:=[],aD:=[],az:=({ak:=r,aj:=c,cells:=[],aH:=[]}:aX),draw:=[]}:Node) aC au):=by
  rfl
 have e2:((mU d s (sW r c) aC au):bM)=((mU d s ({id:=0,af:=2,ah:=[],aD:=[],az:=({ak:=r,aj:=c,cells:=[],aH:=[]}:aX),draw:=[]}:Node) aC au)):=by
  rfl
 have e3:((jO d s (sW r c) aC au):Int)=(jO d s ({id:=0,af:=2,ah:=[],aD:=[],az:=({ak:=r,aj:=c,cells:=[],aH:=[]}:aX),draw:=[]}:Node) aC au):=by
  rfl
 exact .bA [.r [(4,X (Xf [(2,5),(3,4)])),(5,X (Xf [(2,2),(3,3),(8,8)])),(8,X (bV 216 (M8 d s ({id:=0,af:=2,ah:=[],aD:=[],az:=({ak:=r,aj:=c,cells:=[],aH:=[]}:aX),draw:=[]}:Node) aC au aM aM aM) X0))]] [] [] (fun((z0,z1,z2):(List aP)×bM×Int)=>(.aZ [VL 19 bI z0,.t (jR z1),VI z2],[])) _ _ (pr e1 (pr e2 e3))
theorem x8t(d:Doc)(s:bM)(e:Bool)(aC:Int)(au:ByteArray)(hb:fD d)(hx:dP d s au=0->ig d aC=0->yy d s (nV e) aC au):FC Tryz.prog 38 [.t (gU d),.t (jR s),VB e,VI aC,VS au] (app emp []) (.aZ [VL 19 bI (jE d s (nV e) aC au),.t (jR (mU d s (nV e) aC au)),VI (jO d s (nV e) aC au)]) (app emp []):=by
 refine .go Tryz.f38 ?_;have hn:(nV e).az.aH=[]/\pJ (nV e).az.cells:=⟨rfl,fun x h=>by cases h⟩
 refine .bp [.r [],.r [],.r []] e (fun h2=> ?_) (fun h2=> ?_)
 ·rw[h2] at hx hn;have e1:((jE d s (nV e) aC au):List aP)=(jE d s ({id:=0,af:=4,ah:=[({name:={data:=#[107,105,110,100]},val:={data:=#[101,110,100]}}:aI)],aD:=[({aT:=10,bh:=0,ah:=[]}:aL)],az:=({ak:=0,aj:=0,cells:=[],aH:=[]}:aX),draw:=[]}:Node) aC au):=by
   rw[h2];rfl
  have e2:((mU d s (nV e) aC au):bM)=((mU d s ({id:=0,af:=4,ah:=[({name:={data:=#[107,105,110,100]},val:={data:=#[101,110,100]}}:aI)],aD:=[({aT:=10,bh:=0,ah:=[]}:aL)],az:=({ak:=0,aj:=0,cells:=[],aH:=[]}:aX),draw:=[]}:Node) aC au)):=by
   rw[h2];rfl
  have e3:((jO d s (nV e) aC au):Int)=(jO d s ({id:=0,af:=4,ah:=[({name:={data:=#[107,105,110,100]},val:={data:=#[101,110,100]}}:aI)],aD:=[({aT:=10,bh:=0,ah:=[]}:aL)],az:=({ak:=0,aj:=0,cells:=[],aH:=[]}:aX),draw:=[]}:Node) aC au):=by
   rw[h2];rfl
  exact .bA (let a:=({name:={data:=#[107,105,110,100]},val:={data:=#[101,110,100]}}:aI);let b:=({aT:=10,bh:=0,ah:=[]}:aL);[.r [],.r [(5,X (Xf [(2,2)])),(7,X (Xf [(6,5),(7,4),(8,8)])),(10,X (bV 144 (M8 d s ({id:=0,af:=4,ah:=[a],aD:=[b],az:=({ak:=0,aj:=0,cells:=[],aH:=[]}:aX),draw:=[]}:Node) aC au aM aM aM) (cg aS [a] (cg aU [b] X0))))]]) [] [] (fun((z0,z1,z2):(List aP)×bM×Int)=>(.aZ [VL 19 bI z0,.t (jR z1),VI z2],[])) _ _ (pr e1 (pr e2 e3))
 rw[h2] at hx hn;have e4:((jE d s (nV e) aC au):List aP)=(jE d s ({id:=0,af:=4,ah:=[({name:={data:=#[107,105,110,100]},val:={data:=#[102,111,111,116]}}:aI)],aD:=[({aT:=10,bh:=0,ah:=[]}:aL)],az:=({ak:=0,aj:=0,cells:=[],aH:=[]}:aX),draw:=[]}:Node) aC au):=by
  rw[h2];rfl
 have e5:((mU d s (nV e) aC au):bM)=((mU d s ({id:=0,af:=4,ah:=[({name:={data:=#[107,105,110,100]},val:={data:=#[102,111,111,116]}}:aI)],aD:=[({aT:=10,bh:=0,ah:=[]}:aL)],az:=({ak:=0,aj:=0,cells:=[],aH:=[]}:aX),draw:=[]}:Node) aC au)):=by
  rw[h2];rfl
 have e6:((jO d s (nV e) aC au):Int)=(jO d s ({id:=0,af:=4,ah:=[({name:={data:=#[107,105,110,100]},val:={data:=#[102,111,111,116]}}:aI)],aD:=[({aT:=10,bh:=0,ah:=[]}:aL)],az:=({ak:=0,aj:=0,cells:=[],aH:=[]}:aX),draw:=[]}:Node) aC au):=by
  rw[h2];rfl
 exact .bA (let a:=({name:={data:=#[107,105,110,100]},val:={data:=#[102,111,111,116]}}:aI);let b:=({aT:=10,bh:=0,ah:=[]}:aL);[.r [(5,X (Xf [(2,2)])),(7,X (Xf [(6,5),(7,4),(8,8)])),(10,X (bV 136 (M8 d s ({id:=0,af:=4,ah:=[a],aD:=[b],az:=({ak:=0,aj:=0,cells:=[],aH:=[]}:aX),draw:=[]}:Node) aC au aM aM aM) (cg aS [a] (cg aU [b] X0))))]]) [] [] (fun((z0,z1,z2):(List aP)×bM×Int)=>(.aZ [VL 19 bI z0,.t (jR z1),VI z2],[])) _ _ (pr e4 (pr e5 e6))
theorem x8u(d:Doc)(s:bM)(l:List aI)(aC:Int)(au:ByteArray)(hc:dO false l 0=0)(hl:l.length<=1048576)(hb:fD d)(hx:dP d s au=0->ig d aC=0->yy d s (rj l) aC au):FC Tryz.prog 39 [.t (gU d),.t (jR s),VL 2 aS l,VI aC,VS au] (app emp []) (.aZ [VL 19 bI (jE d s (rj l) aC au),.t (jR (mU d s (rj l) aC au)),VI (jO d s (rj l) aC au)]) (app emp []):=by
 refine .go Tryz.f39 ?_;refine .len 2 (fun lU=> ?_);have hn:(rj l).az.aH=[]/\pJ (rj l).az.cells:=⟨rfl,fun x h=>by cases h⟩
 refine .bp [.r [],.r [(1,X (aW (FM l) X0))],.r []] ((dO false l 0) !=0) (fun h2=> ?_) (fun h2=> ?_)
 ·exfalso;omega
 have e1:((jE d s (rj l) aC au):List aP)=(jE d s ({id:=0,af:=5,ah:=l,aD:=[],az:=({ak:=0,aj:=0,cells:=[],aH:=[]}:aX),draw:=[]}:Node) aC au):=by
  rfl
 have e2:((mU d s (rj l) aC au):bM)=((mU d s ({id:=0,af:=5,ah:=l,aD:=[],az:=({ak:=0,aj:=0,cells:=[],aH:=[]}:aX),draw:=[]}:Node) aC au)):=by
  rfl
 have e3:((jO d s (rj l) aC au):Int)=(jO d s ({id:=0,af:=5,ah:=l,aD:=[],az:=({ak:=0,aj:=0,cells:=[],aH:=[]}:aX),draw:=[]}:Node) aC au):=by
  rfl
 exact .bA [.r [(3,X (o5 aS 104 l)),(4,X (Xf [(3,3),(6,5),(7,4),(8,8)])),(7,X (bV 136 (M8 d s ({id:=0,af:=5,ah:=l,aD:=[],az:=({ak:=0,aj:=0,cells:=[],aH:=[]}:aX),draw:=[]}:Node) aC au aM aM aM) (cg aS l X0)))]] [] [] (fun((z0,z1,z2):(List aP)×bM×Int)=>(.aZ [VL 19 bI z0,.t (jR z1),VI z2],[])) _ _ (pr e1 (pr e2 e3))
theorem S2(d:Doc)(k:Int)(hb:fD d):FC Tryz.prog 84 [.t (gU d),VI k] (app emp []) (.aZ [.t (bz (dH d k)),VI (gJ d k)]) (app emp []):=by
 refine .go Tryz.f84 ?_;have UG:=hb.toDocB;have hl:=hb.len;refine .bp [.r [],.r [(1,X (aW (DD d aM) X0))],.r []] ((ez d) !=0) (fun h2=> ?_) (fun h2=> ?_)
 ·have T:=w1B (k:=k) h2;have e1:((dH d k):Node)=({id:=0,af:=0,ah:=[],aD:=[],az:=({ak:=0,aj:=0,cells:=[],aH:=[]}:aX),draw:=[]}:Node):=by
   exact T.1
  have e2:((gJ d k):Int)=(ez d):=by
   exact T.2
  exact .bA [.r [(0,X (Xf [(2,2),(3,3),(6,5),(7,4),(8,8)]))]] [] [] (fun((z0,z1):Node×Int)=>(.aZ [.t (bz z0),VI z1],[])) _ _ (pr e1 e2)
 have hs:=KD (d:=d) oM;refine .bp [.r [(2,X (aW (Kt d k aM aM) X0))],.r []] (decide ((rU (d).aq k)< 0)) (fun h5=> ?_) (fun h5=> ?_)
 ·have T:=w1C oM (Kw.1 h5);have e3:((dH d k):Node)=({id:=0,af:=0,ah:=[],aD:=[],az:=({ak:=0,aj:=0,cells:=[],aH:=[]}:aX),draw:=[]}:Node):=by
   exact T.1
  have e4:((gJ d k):Int)=7:=by
   exact T.2
  exact .bA [.r [(0,X (Xf [(2,2),(3,3),(6,5),(7,4),(8,8)]))]] [] [] (fun((z0,z1):Node×Int)=>(.aZ [.t (bz z0),VI z1],[])) _ _ (pr e3 e4)
 have hh:=Kv.1 h5;have fQ:=(rX.1 hh).1;refine .bp [.le (.eq 7 (VI (rU (d).aq k)) (VI (bt d.aq k:Int)) (.of_eq (by rw[OS hh]))),.r [(3,X (Xi bz d.aq (bt d.aq k:Int))),(6,X (aW (OP (((d.aq.getD (bt d.aq k) default)).af)) X0))]] (!(jX (((d.aq.getD (bt d.aq k) default)).af))) (fun h7=> ?_) (fun h7=> ?_)
 ·have T:=w1D oM hh h7;have e5:((dH d k):Node)=({id:=0,af:=0,ah:=[],aD:=[],az:=({ak:=0,aj:=0,cells:=[],aH:=[]}:aX),draw:=[]}:Node):=by
   exact T.1
  have e6:((gJ d k):Int)=8:=by
   exact T.2
  exact .bA [.r [(0,X (Xf [(2,2),(3,3),(6,5),(7,4),(8,8)]))]] [] [] (fun((z0,z1):Node×Int)=>(.aZ [.t (bz z0),VI z1],[])) _ _ (pr e5 e6)
 have T:=w1E oM hh h7;have e7:((dH d k):Node)=((d.aq.getD (bt d.aq k) default)):=by
  exact T.1
 have e8:((gJ d k):Int)=0:=by
  exact T.2
 exact .bA [.r [(3,X (Xi bz d.aq (bt d.aq k:Int)))]] [] [] (fun((z0,z1):Node×Int)=>(.aZ [.t (bz z0),VI z1],[])) _ _ (pr e7 e8)
theorem M9(l:List aA)(k n:Int)(hl:l.length<=1000):FC Tryz.prog 144 [VI k,VI n,.ptr 0 0] (app emp [(0,.box [.aF 1 l.length]),(1,OR 2 bk l)]) (.aZ []) (app emp [(0,.box [.aF 1 ((l++gM k n).length)]),(1,OR 2 bk (l++gM k n))]):=by
 refine .go Tryz.f144 ?_;refine .bp [.r []] (decide (n>0)) (fun h0=> ?_) (fun h0=> ?_)
 ·have e1:((l++gM k n).length:Nat)=(l++[({af:=k,n:=n}:aA)]).length:=by
   unfold gM;rw[if_pos oM]
  have e2:((l++gM k n):List aA)=(l++[({af:=k,n:=n}:aA)]):=by
   unfold gM;rw[if_pos oM]
  exact .aG (let a:=({af:=k,n:=n}:aA);[.r [(5,X (cg bk [a] (fK 2 bk 1 l [a])))]]) [(0,0),(1,1)] (fun((z0,z1):Nat×(List aA))=>(.aZ [],[(0,.box [.aF 1 z0]),(1,OR 2 bk z1)])) _ _ (pr e1 e2)
 have e3:((l++gM k n).length:Nat)=l.length:=by
  unfold gM;rw[if_neg oM,qL]
 have e4:((l++gM k n):List aA)=l:=by
  unfold gM;rw[if_neg oM,qL]
 exact .aG [] [(0,0),(1,1)] (fun((z0,z1):Nat×(List aA))=>(.aZ [],[(0,.box [.aF 1 z0]),(1,OR 2 bk z1)])) _ _ (pr e3 e4)
theorem y8v(m a n:Int)(hm:0<=m/\m<=2147483647)(ha: -1000000<=a/\a<=2147483647)(hn: -1000000<=n/\n<=2147483647):FC Tryz.prog 85 [VI m,VI a,VI n] (app emp []) (.aZ [VL 2 bk (oJ m a n),VI (ny m a n)]) (app emp []):=by
 refine .go Tryz.f85 ?_;have w1:=Ev 0 a;have w2:=Ev 1 n;have w3:=Ev 2 (0-n);refine .bp [.r [],.r [(4,Xv 1 (!(decide (n< (-2147483647)))) X0),(5,X (b7 (decide (n< (-2147483647))))),(8,Xv 1 (!(decide (n< (-2147483647))|| (n==0))) X0),(9,X (b7 (decide (n< (-2147483647))|| (n==0)))),(13,Xv 2 (!((decide (n< (-2147483647))|| (n==0))||decide (a<0))) X0),(14,X (b7 ((decide (n< (-2147483647))|| (n==0))||decide (a<0)))),(17,Xv 1 (!(((decide (n< (-2147483647))|| (n==0))||decide (a<0))||decide (a>m))) X0),(18,Xv 1 (!(((decide (n< (-2147483647))|| (n==0))||decide (a<0))||decide (a>m))) X0),(20,Xv 1 ((!(((decide (n< (-2147483647))|| (n==0))||decide (a<0))||decide (a>m)))&&(decide (n<0))) (Xn (0-n))),(23,Xv 2 ((!(((decide (n< (-2147483647))|| (n==0))||decide (a<0))||decide (a>m)))&&(decide (n<0))) (Xn (m-a))),(24,Xv 2 ((!(((decide (n< (-2147483647))|| (n==0))||decide (a<0))||decide (a>m)))&&(decide (n<0))) X0),(25,kH (!(((decide (n< (-2147483647))|| (n==0))||decide (a<0))||decide (a>m))) (decide (n<0))),(26,X (b7 (((decide (n< (-2147483647))|| (n==0))||decide (a<0))||decide (a>m))))]] ((((decide (n< (-2147483647))|| (n==0))||decide (a<0))||decide (a>m))|| (decide (n<0)&&decide ((0-n)>(m-a)))) (fun h1=> ?_) (fun h1=> ?_)
 ·have T:=w1F (m:=m) (a:=a) (n:=n) (by omega);have e1:((oJ m a n):List aA)=[]:=by
   exact T.1
  have e2:((ny m a n):Int)=2:=by
   exact T.2
  exact .aG [.r [],.le (.nL 6 2)] [] (fun((z0,z1):(List aA)×Int)=>(.aZ [VL 2 bk z0,VI z1],[])) _ _ (pr e1 e2)
 refine .bp [.r []] (decide (n>1000)) (fun h3=> ?_) (fun h3=> ?_)
 ·have T:=w1G (m:=m) (a:=a) (n:=n) (by omega) h3;have e3:((oJ m a n):List aA)=[]:=by
   exact T.1
  have e4:((ny m a n):Int)=3:=by
   exact T.2
  exact .aG [.r [],.le (.nL 6 2)] [] (fun((z0,z1):(List aA)×Int)=>(.aZ [VL 2 bk z0,VI z1],[])) _ _ (pr e3 e4)
 have T:=w1H (m:=m) (a:=a) (n:=n) (by omega) h3;have e5:((oJ m a n):List aA)=(((([]++gM 0 a)++gM 1 n)++gM 2 (0-n))++gM 0 ((m-a)- (max 0 (0-n)))):=by
  exact T.1
 have e6:((ny m a n):Int)=(jT (((([]++gM 0 a)++gM 1 n)++gM 2 (0-n))++gM 0 ((m-a)- (max 0 (0-n))))):=by
  exact T.2
 exact .aG [.r [],.r [],.le (.nB 248 0 2),.r [(2,X (dV 289 [(0,248),(1,272)] (M9 [] 0 a (by first|omega| (simp only[qf,zg];omega))) X0))],.r [(2,X (dV 313 [(0,248),(1,272)] (M9 ([]++gM 0 a) 1 n (by first|omega| (simp only[qf,zg];omega))) X0))],.r [(2,X (Xn (0-n))),(3,X (dV 345 [(0,248),(1,272)] (M9 (([]++gM 0 a)++gM 1 n) 2 (0-n) (by first|omega| (simp only[qf,zg];omega))) X0))],.r [(3,X (Xn (m-a))),(5,X (Xn (0-n))),(6,X (Li 0 (0-n))),(7,X (Xn ((m-a)- (max 0 (0-n))))),(8,X (dV 417 [(0,248),(1,272)] (M9 ((([]++gM 0 a)++gM 1 n)++gM 2 (0-n)) 0 ((m-a)- (max 0 (0-n))) (by first|omega| (simp only[qf,zg];omega))) X0))],.r [(2,X (aW (Ae (((([]++gM 0 a)++gM 1 n)++gM 2 (0-n))++gM 0 ((m-a)- (max 0 (0-n))))) (cg bk (((([]++gM 0 a)++gM 1 n)++gM 2 (0-n))++gM 0 ((m-a)- (max 0 (0-n)))) X0)))],.le (.fr 6 [(((((([]++gM 0 a)++gM 1 n)++gM 2 (0-n))++gM 0 ((m-a)- (max 0 (0-n)))).length):Nat)=(List.map bk (((([]++gM 0 a)++gM 1 n)++gM 2 (0-n))++gM 0 ((m-a)- (max 0 (0-n))))).length] ⟨lm,trivial⟩)] [] (fun((z0,z1):(List aA)×Int)=>(.aZ [VL 2 bk z0,VI z1],[])) _ _ (pr e5 e6)
theorem x8v(d:Doc)(k a n:Int)(hb:fD d)(ha: -1000000<=a/\a<=2147483647)(hn: -1000000<=n/\n<=2147483647):FC Tryz.prog 40 [.t (gU d),VI k,VI a,VI n] (app emp []) (.aZ [VL 19 bI (xm d k a n),VI (vF d k a n)]) (app emp []):=by
 refine .go Tryz.f40 ?_;refine .bp [.r [],.r [(2,X (bV 40 (S2 d k aM) X0))],.r []] ((gJ d k) !=0) (fun h2=> ?_) (fun h2=> ?_)
 ·have T:=w1I (a:=a) (n:=n) h2;have e1:((xm d k a n):List aP)=[]:=by
   exact T.1
  have e2:((vF d k a n):Int)=(gJ d k):=by
   exact T.2
  exact .aG [.r [],.le (.nL 8 19)] [] (fun((z0,z1):(List aP)×Int)=>(.aZ [VL 19 bI z0,VI z1],[])) _ _ (pr e1 e2)
 have hg:=Zs h2;refine .bp [.r [(5,X (bV 152 (y8v ((((dH d k)).az).ak) a n oM oM oM) X0))],.r []] ((ny ((((dH d k)).az).ak) a n) !=0) (fun h5=> ?_) (fun h5=> ?_)
 ·have T:=w1J h2 h5;have e3:((xm d k a n):List aP)=[]:=by
   exact T.1
  have e4:((vF d k a n):Int)=(ny ((((dH d k)).az).ak) a n):=by
   exact T.2
  exact .aG [.r [],.le (.nL 8 19)] [] (fun((z0,z1):(List aP)×Int)=>(.aZ [VL 19 bI z0,VI z1],[])) _ _ (pr e3 e4)
 have T:=w1K h2 h5;have e5:((xm d k a n):List aP)=[({af:=3,ai:=k,nw:=({id:=0,af:=0,ah:=[],aD:=[],az:=({ak:=0,aj:=0,cells:=[],aH:=[]}:aX),draw:=[]}:Node),ah:=[],aQ:=[],az:=({ak:=(oJ ((((dH d k)).az).ak) a n),aj:=[],cells:=[],split:=[],merge:=[]}:bP),draw:=[]}:aP)]:=by
  exact T.1
 have e6:((vF d k a n):Int)=0:=by
  exact T.2
 exact .aG [.r [(2,X (Xf [(1,2),(2,5),(3,4),(4,4)])),(3,X (Xf [(4,2),(5,3),(8,5),(9,4),(10,8),(11,2),(12,4),(18,8)]))],.le (.fr 8 [(1:Nat)=(List.map bI [({af:=3,ai:=k,nw:=({id:=0,af:=0,ah:=[],aD:=[],az:=({ak:=0,aj:=0,cells:=[],aH:=[]}:aX),draw:=[]}:Node),ah:=[],aQ:=[],az:=({ak:=(oJ ((((dH d k)).az).ak) a n),aj:=[],cells:=[],split:=[],merge:=[]}:bP),draw:=[]}:aP)]).length] ⟨lm,trivial⟩)] [] (fun((z0,z1):(List aP)×Int)=>(.aZ [VL 19 bI z0,VI z1],[])) _ _ (pr e5 e6)
theorem y9C(d:Doc)(k a n:Int)(hb:fD d)(ha: -1000000<=a/\a<=2147483647)(hn: -1000000<=n/\n<=2147483647):FC Tryz.prog 41 [.t (gU d),VI k,VI a,VI n] (app emp []) (.aZ [VL 19 bI (xo d k a n),VI (vG d k a n)]) (app emp []):=by
 refine .go Tryz.f41 ?_;refine .bp [.r [],.r [(2,X (bV 40 (S2 d k aM) X0))],.r []] ((gJ d k) !=0) (fun h2=> ?_) (fun h2=> ?_)
 ·have T:=w1L (a:=a) (n:=n) h2;have e1:((xo d k a n):List aP)=[]:=by
   exact T.1
  have e2:((vG d k a n):Int)=(gJ d k):=by
   exact T.2
  exact .aG [.r [],.le (.nL 8 19)] [] (fun((z0,z1):(List aP)×Int)=>(.aZ [VL 19 bI z0,VI z1],[])) _ _ (pr e1 e2)
 have hg:=Zs h2;refine .bp [.r [(5,X (bV 152 (y8v ((((dH d k)).az).aj) a n oM oM oM) X0))],.r []] ((ny ((((dH d k)).az).aj) a n) !=0) (fun h5=> ?_) (fun h5=> ?_)
 ·have T:=w1M h2 h5;have e3:((xo d k a n):List aP)=[]:=by
   exact T.1
  have e4:((vG d k a n):Int)=(ny ((((dH d k)).az).aj) a n):=by
   exact T.2
  exact .aG [.r [],.le (.nL 8 19)] [] (fun((z0,z1):(List aP)×Int)=>(.aZ [VL 19 bI z0,VI z1],[])) _ _ (pr e3 e4)
 have T:=w1N h2 h5;have e5:((xo d k a n):List aP)=[({af:=3,ai:=k,nw:=({id:=0,af:=0,ah:=[],aD:=[],az:=({ak:=0,aj:=0,cells:=[],aH:=[]}:aX),draw:=[]}:Node),ah:=[],aQ:=[],az:=({ak:=[],aj:=(oJ ((((dH d k)).az).aj) a n),cells:=[],split:=[],merge:=[]}:bP),draw:=[]}:aP)]:=by
  exact T.1
 have e6:((vG d k a n):Int)=0:=by
  exact T.2
 exact .aG [.r [(2,X (Xf [(0,2),(2,5),(3,4),(4,4)])),(3,X (Xf [(4,2),(5,3),(8,5),(9,4),(10,8),(11,2),(12,4),(18,8)]))],.le (.fr 8 [(1:Nat)=(List.map bI [({af:=3,ai:=k,nw:=({id:=0,af:=0,ah:=[],aD:=[],az:=({ak:=0,aj:=0,cells:=[],aH:=[]}:aX),draw:=[]}:Node),ah:=[],aQ:=[],az:=({ak:=[],aj:=(oJ ((((dH d k)).az).aj) a n),cells:=[],split:=[],merge:=[]}:bP),draw:=[]}:aP)]).length] ⟨lm,trivial⟩)] [] (fun((z0,z1):(List aP)×Int)=>(.aZ [VL 19 bI z0,VI z1],[])) _ _ (pr e5 e6)
theorem x8w(d:Doc)(k r c aC:Int)(hb:fD d):FC Tryz.prog 42 [.t (gU d),VI k,VI r,VI c,VI aC] (app emp []) (.aZ [VL 19 bI (nU d k r c aC),VI (sX d k r c aC),VI (lI d k r c aC)]) (app emp []):=by
 refine .go Tryz.f42 ?_;have Qn:=x4G hb k;refine .bp [.r [],.r [(2,X (bV 48 (S2 d k aM) X0))],.r []] ((gJ d k) !=0) (fun h2=> ?_) (fun h2=> ?_)
 ·have T:=w1P (r:=r) (c:=c) (aC:=aC) h2;have e1:((nU d k r c aC):List aP)=[]:=by
   exact T.1
  have e2:((sX d k r c aC):Int)=0:=by
   exact T.2.1
  have e3:((lI d k r c aC):Int)=(gJ d k):=by
   exact T.2.2
  exact .aG [.r [],.le (.nL 10 19)] [] (fun((z0,z1,z2):(List aP)×Int×Int)=>(.aZ [VL 19 bI z0,VI z1,VI z2],[])) _ _ (pr e1 (pr e2 e3))
 refine .bp [.r []] ((((dH d k)).af) !=2) (fun h4=> ?_) (fun h4=> ?_)
 ·have T:=w1Q (r:=r) (c:=c) (aC:=aC) h2 h4;have e4:((nU d k r c aC):List aP)=[]:=by
   exact T.1
  have e5:((sX d k r c aC):Int)=0:=by
   exact T.2.1
  have e6:((lI d k r c aC):Int)=8:=by
   exact T.2.2
  exact .aG [.r [],.le (.nL 10 19)] [] (fun((z0,z1,z2):(List aP)×Int×Int)=>(.aZ [VL 19 bI z0,VI z1,VI z2],[])) _ _ (pr e4 (pr e5 e6))
 refine .bp (let a:=decide (r<0)||decide (r>=((((dH d k)).az).ak));let b:=a||decide (c<0);let e:=decide (r<0);[.r [(5,Xv 1 (!e) X0),(6,Xv 1 (!e) X0),(7,Xv 2 (!e) X0),(8,X (b7 e)),(11,Xv 1 (!a) X0),(12,X (b7 a)),(16,Xv 1 (!b) X0),(17,Xv 1 (!b) X0),(18,Xv 2 (!b) X0),(19,X (b7 b))]]) (((decide (r<0)||decide (r>=((((dH d k)).az).ak)))||decide (c<0))||decide (c>=((((dH d k)).az).aj))) (fun h6=> ?_) (fun h6=> ?_)
 ·have T:=w1R (aC:=aC) h2 h4 h6;have e7:((nU d k r c aC):List aP)=[]:=by
   exact T.1
  have e8:((sX d k r c aC):Int)=0:=by
   exact T.2.1
  have e9:((lI d k r c aC):Int)=2:=by
   exact T.2.2
  exact .aG [.r [],.le (.nL 10 19)] [] (fun((z0,z1,z2):(List aP)×Int×Int)=>(.aZ [VL 19 bI z0,VI z1,VI z2],[])) _ _ (pr e7 (pr e8 e9))
 refine .loop (α:=Nat) [.r [(3,X (Xl bg ((((dH d k)).az).cells)))]] 344 (fun i=>([(1,VI k),(2,VI r),(3,VI c),(4,VI aC),(5,.ptr 0 0),(52,VL 5 bg ((((dH d k)).az).cells)),(53,VI (((((dH d k)).az).cells).length:Int)),(54,VI (i:Int))],[(0,.box [VL 9 bz d.aq])])) (fun i=>i<=(dH d k).az.cells.length/\gw (fun x:Cell=>x.aF==r&&x.aV==c) (dH d k).az.cells 0=gw (fun x:Cell=>x.aF==r&&x.aV==c) (dH d k).az.cells i) (fun i=>(dH d k).az.cells.length-i) (0:Nat) ?_ ?_
 ·exact⟨oM,rfl⟩
 rintro i I9 vY;try dsimp only at I9
 refine .bp [.r []] (decide ((i:Int)< (((((dH d k)).az).cells).length:Int))) (fun h9=> ?_) (fun h9=> ?_)
 ·refine .bp (let a:=(((((((dH d k)).az).cells).getD i default)).aF)==r;[.r [(0,X (Xi bg ((((dH d k)).az).cells) (i:Int)))],.r [(6,Xv 1 a X0),(8,Xv 2 a X0),(9,X (Xk a))]]) (((((((((dH d k)).az).cells).getD i default)).aF)==r)&&((((((((dH d k)).az).cells).getD i default)).aV)==c)) (fun gO=> ?_) (fun gO=> ?_)
  ·have T:=w1S (aC:=aC) h2 h4 h6 (I9.2.trans (x7I oM (by simpa[-List.getD_eq_getElem?_getD] using gO)));have kE:((nU d k r c aC):List aP)=[]:=by
    exact T.1
   have lg:((sX d k r c aC):Int)=((((((dH d k)).az).cells).getD i default)).bh:=by
    exact T.2.1
   have lu:((lI d k r c aC):Int)=0:=by
    exact T.2.2
   exact .aG [.r [],.le (.nL 10 19)] [] (fun((z0,z1,z2):(List aP)×Int×Int)=>(.aZ [VL 19 bI z0,VI z1,VI z2],[])) _ _ (pr kE (pr lg lu))
  refine .back [.r [(0,X (Xn ((i:Int)+1)))]] [(0,0)] (vY ((i+1):Nat) ?_ ?_)
  ·exact⟨oM,I9.2.trans (x4H oM (by simpa[-List.getD_eq_getElem?_getD,Classical.or_iff_not_imp_left] using gO))⟩
  exact tO
 have wW:=I9.2.trans (x7J oM);refine .bp [.r [(2,X (aW (x23 d aC aM) X0))],.r []] ((ig d aC) !=0) (fun ni=> ?_) (fun ni=> ?_)
 ·have T:=w1T h2 h4 h6 wW ni;have nP:((nU d k r c aC):List aP)=[]:=by
   exact T.1
  have nQ:((sX d k r c aC):Int)=0:=by
   exact T.2.1
  have pY:((lI d k r c aC):Int)=(ig d aC):=by
   exact T.2.2
  exact .aG [.r [],.le (.nL 10 19)] [] (fun((z0,z1,z2):(List aP)×Int×Int)=>(.aZ [VL 19 bI z0,VI z1,VI z2],[])) _ _ (pr nP (pr nQ pY))
 have T:=w1U h2 h4 h6 wW ni;have xO:((nU d k r c aC):List aP)=[({af:=0,ai:=0,nw:=({id:=(ij d aC),af:=3,ah:=[],aD:=[({aT:=10,bh:=0,ah:=[]}:aL)],az:=({ak:=0,aj:=0,cells:=[],aH:=[]}:aX),draw:=[]}:Node),ah:=[],aQ:=[],az:=({ak:=[],aj:=[],cells:=[],split:=[],merge:=[]}:bP),draw:=[]}:aP),({af:=3,ai:=k,nw:=({id:=0,af:=0,ah:=[],aD:=[],az:=({ak:=0,aj:=0,cells:=[],aH:=[]}:aX),draw:=[]}:Node),ah:=[],aQ:=[],az:=({ak:=[],aj:=[],cells:=[({aF:=r,aV:=c,text:={data:=#[]},bh:=(ij d aC),ah:=[]}:Cell)],split:=[],merge:=[]}:bP),draw:=[]}:aP)]:=by
  exact T.1
 have xP:((sX d k r c aC):Int)=(ij d aC):=by
  exact T.2.1
 have xQ:((lI d k r c aC):Int)=0:=by
  exact T.2.2
 exact .aG (let a:=({aF:=r,aV:=c,text:={data:=#[]},bh:=(ij d aC),ah:=[]}:Cell);let b:=({ak:=0,aj:=0,cells:=[],aH:=[]}:aX);let e:=({aT:=10,bh:=0,ah:=[]}:aL);[.r [(1,X (Xf [(2,2)])),(3,X (Xf [(2,2),(6,5),(7,4),(8,8)])),(4,X (Xf [(11,2),(12,4),(13,2),(14,2),(15,5),(16,4),(17,4),(18,8)])),(9,X (Xf [(4,2)])),(11,X (Xf [(0,2),(1,2),(3,4),(4,4)])),(12,X (Xf [(4,2),(5,3),(8,5),(9,4),(10,8),(11,2),(12,4),(18,8)])),(13,X (cg aU [e] (cg bg [a] X0)))],.le (.fr 10 [(2:Nat)=(List.map bI [({af:=0,ai:=0,nw:=({id:=(ij d aC),af:=3,ah:=[],aD:=[e],az:=b,draw:=[]}:Node),ah:=[],aQ:=[],az:=({ak:=[],aj:=[],cells:=[],split:=[],merge:=[]}:bP),draw:=[]}:aP),({af:=3,ai:=k,nw:=({id:=0,af:=0,ah:=[],aD:=[],az:=b,draw:=[]}:Node),ah:=[],aQ:=[],az:=({ak:=[],aj:=[],cells:=[a],split:=[],merge:=[]}:bP),draw:=[]}:aP)]).length] ⟨lm,trivial⟩)]) [] (fun((z0,z1,z2):(List aP)×Int×Int)=>(.aZ [VL 19 bI z0,VI z1,VI z2],[])) _ _ (pr xO (pr xP xQ))
theorem x8x(p:Pl)(s:bM)(k:Int)(hb:mq p):FC Tryz.prog 80 [VI k,.ptr 1 0,.ptr 0 0] (app emp [(0,.box [VI p.ai.id,VI p.ai.af,VL 2 aS p.ai.ah,VL 3 aU p.ai.aD,VI p.ai.az.ak,VI p.ai.az.aj,VL 5 bg p.ai.az.cells,VL 4 bE p.ai.az.aH,VL 8 cm p.ai.draw,VL 1 bC p.aN,VS p.aR]),(1,.box [VI s.nd,VI s.fr,VI s.tq])]) (VB (wA p s k)) (app emp [(0,.box [VI p.ai.id,VI p.ai.af,VL 2 aS p.ai.ah,VL 3 aU p.ai.aD,VI p.ai.az.ak,VI p.ai.az.aj,VL 5 bg p.ai.az.cells,VL 4 bE p.ai.az.aH,VL 8 cm p.ai.draw,VL 1 bC p.aN,VS p.aR]),(1,.box [VI s.nd,VI s.fr,VI s.tq])]):=by
 refine .go Tryz.f80 ?_;have e1:((wA p s k):Bool)=((decide (k>=s.fr)&&decide (k<s.tq))&&((((bG p k)).aT) !=10)):=by
  rfl
 exact .aG (let a:=decide (k>=s.fr)&&decide (k<s.tq);let b:=decide (k>=s.fr);[.r [],.r [(7,Xv 1 b X0),(8,Xv 2 b X0),(9,X (Xk b)),(12,Xv 1 a (gB [(0,0)] (z40 p k aM) X0)),(13,Xv 1 a X0),(14,Xv 1 a X0),(15,X (Xk a))]]) [(0,0),(1,1)] (fun z0:Bool=>(VB z0,[(0,.box [VI p.ai.id,VI p.ai.af,VL 2 aS p.ai.ah,VL 3 aU p.ai.aD,VI p.ai.az.ak,VI p.ai.az.aj,VL 5 bg p.ai.az.cells,VL 4 bE p.ai.az.aH,VL 8 cm p.ai.draw,VL 1 bC p.aN,VS p.aR]),(1,.box [VI s.nd,VI s.fr,VI s.tq])])) _ _ e1
theorem y9D(p:Pl)(s:bM)(c:List aI)(hb:mq p)(hc:c.length<=1048576):FC Tryz.prog 79 [.ptr 0 0,VL 2 aS c,.fn 80 [.ptr 1 0,.ptr 0 0]] (app emp [(0,.box [VI p.ai.id,VI p.ai.af,VL 2 aS p.ai.ah,VL 3 aU p.ai.aD,VI p.ai.az.ak,VI p.ai.az.aj,VL 5 bg p.ai.az.cells,VL 4 bE p.ai.az.aH,VL 8 cm p.ai.draw,VL 1 bC p.aN,VS p.aR]),(1,.box [VI s.nd,VI s.fr,VI s.tq])]) (VL 19 bI [gG p.ai.id (uS c (oz (wA p s) p.aN p.ai.aD.length p.aN.length) p.ai.aD.length)]) (app emp [(0,.box [VI p.ai.id,VI p.ai.af,VL 2 aS p.ai.ah,VL 3 aU p.ai.aD,VI p.ai.az.ak,VI p.ai.az.aj,VL 5 bg p.ai.az.cells,VL 4 bE p.ai.az.aH,VL 8 cm p.ai.draw,VL 1 bC p.aN,VS p.aR]),(1,.box [VI s.nd,VI s.fr,VI s.tq])]):=by
 refine .go Tryz.f79 ?_;refine .len 1 (fun gW=> ?_);obtain⟨dn,el⟩:=Zp c (oz (wA p s) p.aN p.ai.aD.length p.aN.length) p.ai.aD.length hc;have K9:=hb.len;have hbs:=hb.sl;refine .loop (α:=Nat×(List Bool)) (let a:=(p.ai.aD.length:Int);[.r [],.r [(5,X (Xl aU p.ai.aD)),(6,X (Qz 1 o6 58 a a false))],.r [(4,X (Xl bC p.aN))]]) 122 (fun(k,f)=>([(0,.ptr 0 0),(1,VL 2 aS c),(2,.fn 80 [.ptr 1 0,.ptr 0 0]),(7,.aF 58 p.ai.aD.length),(25,VL 1 bC p.aN),(26,VI (p.aN.length:Int)),(27,VI (k:Int))],[(0,.box [VI p.ai.id,VI p.ai.af,VL 2 aS p.ai.ah,VL 3 aU p.ai.aD,VI p.ai.az.ak,VI p.ai.az.aj,VL 5 bg p.ai.az.cells,VL 4 bE p.ai.az.aH,VL 8 cm p.ai.draw,VL 1 bC p.aN,VS p.aR]),(1,.box [VI s.nd,VI s.fr,VI s.tq]),(58,OR 1 o6 f)])) (fun(k,f)=>k<=p.aN.length/\f=oz (wA p s) p.aN p.ai.aD.length k) (fun(k,f)=>p.aN.length-k) (0,(List.replicate p.ai.aD.length false)) ?_ ?_
 ·exact⟨oM,rfl⟩
 rintro⟨k,f⟩ I3 cC;try dsimp only at I3
 have fl:f.length=p.ai.aD.length:=by rw[I3.2,R8]
 refine .bp [.r []] (decide ((k:Int)< (p.aN.length:Int))) (fun h3=> ?_) (fun h3=> ?_)
 ·have SS:=hb.ok _ (fE (l:=p.aN) (i:=k) oM);refine .back (let a:=p.aN.getD k default;[.r [(1,X (Xi bC p.aN (k:Int)))],.r [(4,X (gB [(0,0),(1,1)] (x8x p s (k:Int) aM) X0)),(5,X (nr p.ai.aD.length o6 f a)),(6,X (tE p.ai.aD.length 1 o6 58 f (Int.toNat a) (wA p s (k:Int))))],.r [(0,X (Xn ((k:Int)+1)))]]) [(0,0),(1,1),(58,58)] (cC ((k+1),(f.set (Int.toNat (p.aN.getD k default)) (wA p s (k:Int)))) ?_ ?_)
  ·exact⟨oM,by rw[I3.2,R7]⟩
  exact tO
 have S3:f=(oz (wA p s) p.aN p.ai.aD.length p.aN.length):=by rw[I3.2,show k=p.aN.length by omega]
 refine .loop (α:=Nat×(List aB)) [.r [],.r [(5,X (Xl aU p.ai.aD))],.le (.nR 10 4)] 195 (fun(i,o)=>([(0,.ptr 0 0),(1,VL 2 aS c),(7,.aF 58 p.ai.aD.length),(10,.aF 194 o.length),(44,VI (p.ai.aD.length:Int)),(45,VI (i:Int))],[(0,.box [VI p.ai.id,VI p.ai.af,VL 2 aS p.ai.ah,VL 3 aU p.ai.aD,VI p.ai.az.ak,VI p.ai.az.aj,VL 5 bg p.ai.az.cells,VL 4 bE p.ai.az.aH,VL 8 cm p.ai.draw,VL 1 bC p.aN,VS p.aR]),(1,.box [VI s.nd,VI s.fr,VI s.tq]),(58,OR 1 o6 f),(194,OR 4 bB o)])) (fun(i,o)=>i<=p.ai.aD.length/\o=uR c f i) (fun(i,o)=>p.ai.aD.length-i) (0,[]) ?_ ?_
 ·exact⟨oM,rfl⟩
 rintro⟨i,o⟩ I9 vY;try dsimp only at I9
 have RB:o.length=i:=by rw[I9.2];exact Zm c f i
 refine .bp [.r []] (decide ((i:Int)< (p.ai.aD.length:Int))) (fun h9=> ?_) (fun h9=> ?_)
 ·refine .bp [.r [],.r [(0,X (Xf [(2,2),(3,3)]))],.r [(2,X (nr p.ai.aD.length o6 f (i:Int))),(3,X (CB p.ai.aD.length o6 f i))]] (f.getD i default) (fun fJ=> ?_) (fun fJ=> ?_)
  ·refine .back (let a:=({af:=0,n:=1,ah:=c,elems:=[]}:aB);[.r [],.r [(3,X (cg bB [a] (fK 4 bB 194 o [a])))],.r [(0,X (Xn ((i:Int)+1)))]]) [(0,0),(1,1),(58,58),(194,194)] (vY ((i+1),(o++[({af:=0,n:=1,ah:=c,elems:=[]}:aB)])) ?_ ?_)
   ·exact⟨oM,by rw[I9.2,Mm,Zn fJ]⟩
   exact tO
  refine .back (let a:=({af:=0,n:=1,ah:=[],elems:=[]}:aB);[.r [(3,X (cg bB [a] (fK 4 bB 194 o [a])))],.r [(0,X (Xn ((i:Int)+1)))]]) [(0,0),(1,1),(58,58),(194,194)] (vY ((i+1),(o++[({af:=0,n:=1,ah:=[],elems:=[]}:aB)])) ?_ ?_)
  ·exact⟨oM,by rw[I9.2,Mm,Zo fJ]⟩
  exact tO
 have ho:o=uR c (oz (wA p s) p.aN p.ai.aD.length p.aN.length) p.ai.aD.length:=by rw[I9.2,show i=p.ai.aD.length by omega,S3]
 rw[<-ho] at dn el;have e1:([gG p.ai.id (uS c (oz (wA p s) p.aN p.ai.aD.length p.aN.length) p.ai.aD.length)]:List aP)=[({af:=2,ai:=p.ai.id,nw:=({id:=0,af:=0,ah:=[],aD:=[],az:=({ak:=0,aj:=0,cells:=[],aH:=[]}:aX),draw:=[]}:Node),ah:=[],aQ:=(mB o),az:=({ak:=[],aj:=[],cells:=[],split:=[],merge:=[]}:bP),draw:=[]}:aP)]:=by
  rw[ho];rfl
 exact .aG [.r [(1,X (bV 211 (M3 o aM oM oM) (cg bB o X0)))],.r [(6,X (Xf [(4,2),(5,3),(8,5),(9,4),(10,8),(11,2),(13,2),(14,2),(15,5),(16,4),(17,4),(18,8)]))],.le (.fr 6 [(1:Nat)=(List.map bI [({af:=2,ai:=p.ai.id,nw:=({id:=0,af:=0,ah:=[],aD:=[],az:=({ak:=0,aj:=0,cells:=[],aH:=[]}:aX),draw:=[]}:Node),ah:=[],aQ:=(mB o),az:=({ak:=[],aj:=[],cells:=[],split:=[],merge:=[]}:bP),draw:=[]}:aP)]).length] ⟨lm,trivial⟩)] [(0,0),(1,1)] (fun z0:List aP=>(VL 19 bI z0,[(0,.box [VI p.ai.id,VI p.ai.af,VL 2 aS p.ai.ah,VL 3 aU p.ai.aD,VI p.ai.az.ak,VI p.ai.az.aj,VL 5 bg p.ai.az.cells,VL 4 bE p.ai.az.aH,VL 8 cm p.ai.draw,VL 1 bC p.aN,VS p.aR]),(1,.box [VI s.nd,VI s.fr,VI s.tq])])) _ _ e1
theorem x24(d:Doc)(s:bM)(c:List aI)(hb:fD d)(hc:c.length<=1048576)(hx:dP d s {data:=#[]}=0->mq (bL d s {data:=#[]})):FC Tryz.prog 35 [.t (gU d),.t (jR s),VL 2 aS c] (app emp []) (.aZ [VL 19 bI (xh d s c),VI (nj d s c)]) (app emp []):=by
 refine .go Tryz.f35 ?_;refine .len 2 (fun lU=> ?_);refine .bp [.r [],.r [(2,X (bV 48 (M7 d s ({data:=#[]}) aM) X0))],.r []] ((dP d s ({data:=#[]})) !=0) (fun h2=> ?_) (fun h2=> ?_)
 ·have T:=w1o (c:=c) h2;have e1:((xh d s c):List aP)=[]:=by
   exact T.1
  have e2:((nj d s c):Int)=(dP d s ({data:=#[]})):=by
   exact T.2
  exact .aG [.r [],.le (.nL 6 19)] [] (fun((z0,z1):(List aP)×Int)=>(.aZ [VL 19 bI z0,VI z1],[])) _ _ (pr e1 e2)
 refine .bp [.r [(1,X (aW (CF c) X0))],.r []] ((dO true c 0) !=0) (fun h5=> ?_) (fun h5=> ?_)
 ·have T:=w1p h2 h5;have e3:((xh d s c):List aP)=[]:=by
   exact T.1
  have e4:((nj d s c):Int)=(dO true c 0):=by
   exact T.2
  exact .aG [.r [],.le (.nL 6 19)] [] (fun((z0,z1):(List aP)×Int)=>(.aZ [VL 19 bI z0,VI z1],[])) _ _ (pr e3 e4)
 have hp:=hx h2;have T:=w1q h2 h5;have e5:((xh d s c):List aP)=[gG (((bL d s ({data:=#[]})))).ai.id (uS c (oz (wA ((bL d s ({data:=#[]}))) s) (((bL d s ({data:=#[]})))).aN (((bL d s ({data:=#[]})))).ai.aD.length (((bL d s ({data:=#[]})))).aN.length) (((bL d s ({data:=#[]})))).ai.aD.length)]:=by
  exact T.1
 have e6:((nj d s c):Int)=0:=by
  exact T.2
 exact .aG [.r [(2,X (gB [(0,80),(1,8)] (y9D ((bL d s ({data:=#[]}))) s c aM oM) X0))]] [] (fun((z0,z1):(List aP)×Int)=>(.aZ [VL 19 bI z0,VI z1],[])) _ _ (pr e5 e6)
theorem x8y(p:Pl)(s:bM)(m:Int)(k:Int)(hb:mq p):FC Tryz.prog 82 [VI k,.ptr 1 0,.ptr 2 0,.ptr 0 0] (app emp [(0,.box [VI p.ai.id,VI p.ai.af,VL 2 aS p.ai.ah,VL 3 aU p.ai.aD,VI p.ai.az.ak,VI p.ai.az.aj,VL 5 bg p.ai.az.cells,VL 4 bE p.ai.az.aH,VL 8 cm p.ai.draw,VL 1 bC p.aN,VS p.aR]),(1,.box [VI s.nd,VI s.fr,VI s.tq]),(2,.box [VI m])]) (VB (wB p s m k)) (app emp [(0,.box [VI p.ai.id,VI p.ai.af,VL 2 aS p.ai.ah,VL 3 aU p.ai.aD,VI p.ai.az.ak,VI p.ai.az.aj,VL 5 bg p.ai.az.cells,VL 4 bE p.ai.az.aH,VL 8 cm p.ai.draw,VL 1 bC p.aN,VS p.aR]),(1,.box [VI s.nd,VI s.fr,VI s.tq]),(2,.box [VI m])]):=by
 refine .go Tryz.f82 ?_;have e1:((wB p s m k):Bool)=((decide (k>=s.fr)&&decide (k<=m))&&((((bG p k)).aT)==10)):=by
  rfl
 exact .aG (let a:=decide (k>=s.fr)&&decide (k<=m);[.r [],.r [(7,Xv 2 (decide (k>=s.fr)) X0),(8,X (Xk (decide (k>=s.fr)))),(11,Xv 1 a (gB [(0,0)] (z40 p k aM) X0)),(12,Xv 1 a X0),(13,Xv 1 a X0),(14,X (Xk a))]]) [(0,0),(1,1),(2,2)] (fun z0:Bool=>(VB z0,[(0,.box [VI p.ai.id,VI p.ai.af,VL 2 aS p.ai.ah,VL 3 aU p.ai.aD,VI p.ai.az.ak,VI p.ai.az.aj,VL 5 bg p.ai.az.cells,VL 4 bE p.ai.az.aH,VL 8 cm p.ai.draw,VL 1 bC p.aN,VS p.aR]),(1,.box [VI s.nd,VI s.fr,VI s.tq]),(2,.box [VI m])])) _ _ e1
theorem y9E(p:Pl)(s:bM)(m:Int)(c:List aI)(hb:mq p)(hc:c.length<=1048576):FC Tryz.prog 79 [.ptr 0 0,VL 2 aS c,.fn 82 [.ptr 1 0,.ptr 2 0,.ptr 0 0]] (app emp [(0,.box [VI p.ai.id,VI p.ai.af,VL 2 aS p.ai.ah,VL 3 aU p.ai.aD,VI p.ai.az.ak,VI p.ai.az.aj,VL 5 bg p.ai.az.cells,VL 4 bE p.ai.az.aH,VL 8 cm p.ai.draw,VL 1 bC p.aN,VS p.aR]),(1,.box [VI s.nd,VI s.fr,VI s.tq]),(2,.box [VI m])]) (VL 19 bI [gG p.ai.id (uS c (oz (wB p s m) p.aN p.ai.aD.length p.aN.length) p.ai.aD.length)]) (app emp [(0,.box [VI p.ai.id,VI p.ai.af,VL 2 aS p.ai.ah,VL 3 aU p.ai.aD,VI p.ai.az.ak,VI p.ai.az.aj,VL 5 bg p.ai.az.cells,VL 4 bE p.ai.az.aH,VL 8 cm p.ai.draw,VL 1 bC p.aN,VS p.aR]),(1,.box [VI s.nd,VI s.fr,VI s.tq]),(2,.box [VI m])]):=by
 refine .go Tryz.f79 ?_;refine .len 1 (fun gW=> ?_);obtain⟨dn,el⟩:=Zp c (oz (wB p s m) p.aN p.ai.aD.length p.aN.length) p.ai.aD.length hc;have K9:=hb.len;have hbs:=hb.sl;refine .loop (α:=Nat×(List Bool)) (let a:=(p.ai.aD.length:Int);[.r [],.r [(5,X (Xl aU p.ai.aD)),(6,X (Qz 1 o6 59 a a false))],.r [(4,X (Xl bC p.aN))]]) 123 (fun(k,f)=>([(0,.ptr 0 0),(1,VL 2 aS c),(2,.fn 82 [.ptr 1 0,.ptr 2 0,.ptr 0 0]),(7,.aF 59 p.ai.aD.length),(25,VL 1 bC p.aN),(26,VI (p.aN.length:Int)),(27,VI (k:Int))],[(0,.box [VI p.ai.id,VI p.ai.af,VL 2 aS p.ai.ah,VL 3 aU p.ai.aD,VI p.ai.az.ak,VI p.ai.az.aj,VL 5 bg p.ai.az.cells,VL 4 bE p.ai.az.aH,VL 8 cm p.ai.draw,VL 1 bC p.aN,VS p.aR]),(1,.box [VI s.nd,VI s.fr,VI s.tq]),(2,.box [VI m]),(59,OR 1 o6 f)])) (fun(k,f)=>k<=p.aN.length/\f=oz (wB p s m) p.aN p.ai.aD.length k) (fun(k,f)=>p.aN.length-k) (0,(List.replicate p.ai.aD.length false)) ?_ ?_
 ·exact⟨oM,rfl⟩
 rintro⟨k,f⟩ I3 cC;try dsimp only at I3
 have fl:f.length=p.ai.aD.length:=by rw[I3.2,R8]
 refine .bp [.r []] (decide ((k:Int)< (p.aN.length:Int))) (fun h3=> ?_) (fun h3=> ?_)
 ·have SS:=hb.ok _ (fE (l:=p.aN) (i:=k) oM);refine .back (let a:=p.aN.getD k default;[.r [(1,X (Xi bC p.aN (k:Int)))],.r [(4,X (gB [(0,0),(1,1),(2,2)] (x8y p s m (k:Int) aM) X0)),(5,X (nr p.ai.aD.length o6 f a)),(6,X (tE p.ai.aD.length 1 o6 59 f (Int.toNat a) (wB p s m (k:Int))))],.r [(0,X (Xn ((k:Int)+1)))]]) [(0,0),(1,1),(2,2),(59,59)] (cC ((k+1),(f.set (Int.toNat (p.aN.getD k default)) (wB p s m (k:Int)))) ?_ ?_)
  ·exact⟨oM,by rw[I3.2,R7]⟩
  exact tO
 have S3:f=(oz (wB p s m) p.aN p.ai.aD.length p.aN.length):=by rw[I3.2,show k=p.aN.length by omega]
 refine .loop (α:=Nat×(List aB)) [.r [],.r [(5,X (Xl aU p.ai.aD))],.le (.nR 10 4)] 196 (fun(i,o)=>([(0,.ptr 0 0),(1,VL 2 aS c),(7,.aF 59 p.ai.aD.length),(10,.aF 195 o.length),(44,VI (p.ai.aD.length:Int)),(45,VI (i:Int))],[(0,.box [VI p.ai.id,VI p.ai.af,VL 2 aS p.ai.ah,VL 3 aU p.ai.aD,VI p.ai.az.ak,VI p.ai.az.aj,VL 5 bg p.ai.az.cells,VL 4 bE p.ai.az.aH,VL 8 cm p.ai.draw,VL 1 bC p.aN,VS p.aR]),(1,.box [VI s.nd,VI s.fr,VI s.tq]),(2,.box [VI m]),(59,OR 1 o6 f),(195,OR 4 bB o)])) (fun(i,o)=>i<=p.ai.aD.length/\o=uR c f i) (fun(i,o)=>p.ai.aD.length-i) (0,[]) ?_ ?_
 ·exact⟨oM,rfl⟩
 rintro⟨i,o⟩ I9 vY;try dsimp only at I9
 have RB:o.length=i:=by rw[I9.2];exact Zm c f i
 refine .bp [.r []] (decide ((i:Int)< (p.ai.aD.length:Int))) (fun h9=> ?_) (fun h9=> ?_)
 ·refine .bp [.r [],.r [(0,X (Xf [(2,2),(3,3)]))],.r [(2,X (nr p.ai.aD.length o6 f (i:Int))),(3,X (CB p.ai.aD.length o6 f i))]] (f.getD i default) (fun fJ=> ?_) (fun fJ=> ?_)
  ·refine .back (let a:=({af:=0,n:=1,ah:=c,elems:=[]}:aB);[.r [],.r [(3,X (cg bB [a] (fK 4 bB 195 o [a])))],.r [(0,X (Xn ((i:Int)+1)))]]) [(0,0),(1,1),(2,2),(59,59),(195,195)] (vY ((i+1),(o++[({af:=0,n:=1,ah:=c,elems:=[]}:aB)])) ?_ ?_)
   ·exact⟨oM,by rw[I9.2,Mm,Zn fJ]⟩
   exact tO
  refine .back (let a:=({af:=0,n:=1,ah:=[],elems:=[]}:aB);[.r [(3,X (cg bB [a] (fK 4 bB 195 o [a])))],.r [(0,X (Xn ((i:Int)+1)))]]) [(0,0),(1,1),(2,2),(59,59),(195,195)] (vY ((i+1),(o++[({af:=0,n:=1,ah:=[],elems:=[]}:aB)])) ?_ ?_)
  ·exact⟨oM,by rw[I9.2,Mm,Zo fJ]⟩
  exact tO
 have ho:o=uR c (oz (wB p s m) p.aN p.ai.aD.length p.aN.length) p.ai.aD.length:=by rw[I9.2,show i=p.ai.aD.length by omega,S3]
 rw[<-ho] at dn el;have e1:([gG p.ai.id (uS c (oz (wB p s m) p.aN p.ai.aD.length p.aN.length) p.ai.aD.length)]:List aP)=[({af:=2,ai:=p.ai.id,nw:=({id:=0,af:=0,ah:=[],aD:=[],az:=({ak:=0,aj:=0,cells:=[],aH:=[]}:aX),draw:=[]}:Node),ah:=[],aQ:=(mB o),az:=({ak:=[],aj:=[],cells:=[],split:=[],merge:=[]}:bP),draw:=[]}:aP)]:=by
  rw[ho];rfl
 exact .aG [.r [(1,X (bV 212 (M3 o aM oM oM) (cg bB o X0)))],.r [(6,X (Xf [(4,2),(5,3),(8,5),(9,4),(10,8),(11,2),(13,2),(14,2),(15,5),(16,4),(17,4),(18,8)]))],.le (.fr 6 [(1:Nat)=(List.map bI [({af:=2,ai:=p.ai.id,nw:=({id:=0,af:=0,ah:=[],aD:=[],az:=({ak:=0,aj:=0,cells:=[],aH:=[]}:aX),draw:=[]}:Node),ah:=[],aQ:=(mB o),az:=({ak:=[],aj:=[],cells:=[],split:=[],merge:=[]}:bP),draw:=[]}:aP)]).length] ⟨lm,trivial⟩)] [(0,0),(1,1),(2,2)] (fun z0:List aP=>(VL 19 bI z0,[(0,.box [VI p.ai.id,VI p.ai.af,VL 2 aS p.ai.ah,VL 3 aU p.ai.aD,VI p.ai.az.ak,VI p.ai.az.aj,VL 5 bg p.ai.az.cells,VL 4 bE p.ai.az.aH,VL 8 cm p.ai.draw,VL 1 bC p.aN,VS p.aR]),(1,.box [VI s.nd,VI s.fr,VI s.tq]),(2,.box [VI m])])) _ _ e1
theorem y9F(d:Doc)(s:bM)(c:List aI)(hb:fD d)(hc:c.length<=1048576)(hx:dP d s {data:=#[]}=0->mq (bL d s {data:=#[]})/\0<=s.fr/\s.fr<=s.tq/\s.tq<=1000000000):FC Tryz.prog 36 [.t (gU d),.t (jR s),VL 2 aS c] (app emp []) (.aZ [VL 19 bI (xk d s c),VI (nj d s c)]) (app emp []):=by
 refine .go Tryz.f36 ?_;refine .len 2 (fun lU=> ?_);refine .bp [.r [],.r [(2,X (bV 48 (M7 d s ({data:=#[]}) aM) X0))],.r []] ((dP d s ({data:=#[]})) !=0) (fun h2=> ?_) (fun h2=> ?_)
 ·have T:=w1r (c:=c) h2;have e1:((xk d s c):List aP)=[]:=by
   exact T.1
  have e2:((nj d s c):Int)=(dP d s ({data:=#[]})):=by
   exact T.2
  exact .aG [.r [],.le (.nL 6 19)] [] (fun((z0,z1):(List aP)×Int)=>(.aZ [VL 19 bI z0,VI z1],[])) _ _ (pr e1 e2)
 refine .bp [.r [(1,X (aW (CF c) X0))],.r []] ((dO true c 0) !=0) (fun h5=> ?_) (fun h5=> ?_)
 ·have T:=w1s h2 h5;have e3:((xk d s c):List aP)=[]:=by
   exact T.1
  have e4:((nj d s c):Int)=(dO true c 0):=by
   exact T.2
  exact .aG [.r [],.le (.nL 6 19)] [] (fun((z0,z1):(List aP)×Int)=>(.aZ [VL 19 bI z0,VI z1],[])) _ _ (pr e3 e4)
 obtain⟨hp,q1,q2,q3⟩:=hx h2;have N3:=hp.sl;refine .loop (α:=Int) [.r [(4,X (Xn (s.tq- 1))),(5,X (Li s.fr (s.tq- 1)))]] 224 (fun fk=>([(2,VL 2 aS c),(4,.ptr 8 0),(8,.ptr 80 0),(11,.ptr 208 0)],[(8,.box [VI s.nd,VI s.fr,VI s.tq]),(80,.box [VI ((((bL d s ({data:=#[]}))).ai).id),VI ((((bL d s ({data:=#[]}))).ai).af),VL 2 aS ((((bL d s ({data:=#[]}))).ai).ah),VL 3 aU ((((bL d s ({data:=#[]}))).ai).aD),VI (((((bL d s ({data:=#[]}))).ai).az).ak),VI (((((bL d s ({data:=#[]}))).ai).az).aj),VL 5 bg (((((bL d s ({data:=#[]}))).ai).az).cells),VL 4 bE (((((bL d s ({data:=#[]}))).ai).az).aH),VL 8 cm ((((bL d s ({data:=#[]}))).ai).draw),VL 1 bC (((bL d s ({data:=#[]}))).aN),VS (((bL d s ({data:=#[]}))).aR)]),(208,.box [VI fk])])) (fun fk=>sV (bL d s {data:=#[]}) (max s.fr (s.tq- 1)).toNat=sV (bL d s {data:=#[]}) fk.toNat/\0<=fk/\fk<=s.tq+(bL d s {data:=#[]}).aN.length) (fun fk=>(bL d s {data:=#[]}).aN.length-fk.toNat) ((max s.fr (s.tq- 1)):Int) ?_ ?_
 ·exact⟨rfl,oM,oM⟩
 rintro fk I8 u9;try dsimp only at I8
 refine .bp [.r [(1,X (gB [(0,80)] (z40 ((bL d s ({data:=#[]}))) fk aM) X0))]] ((((bG ((bL d s ({data:=#[]}))) fk)).aT) !=10) (fun h8=> ?_) (fun h8=> ?_)
 ·obtain⟨g1,g2⟩:=x4D I8.2.1 h8;refine .back [.r [(1,X (Xn (fk+1)))]] [(8,8),(80,80),(208,208)] (u9 ((fk+1):Int) ?_ ?_)
  ·exact⟨I8.1.trans g2,oM,oM⟩
  exact tO
 have g3:=x4E I8.2.1 h8;have T:=w1t h2 h5 (show((sV (bL d s {data:=#[]}) (max s.fr (s.tq- 1)).toNat:Nat):Int)=fk by rw[I8.1,g3];omega);have e5:((xk d s c):List aP)=[gG (((bL d s ({data:=#[]})))).ai.id (uS c (oz (wB ((bL d s ({data:=#[]}))) s fk) (((bL d s ({data:=#[]})))).aN (((bL d s ({data:=#[]})))).ai.aD.length (((bL d s ({data:=#[]})))).aN.length) (((bL d s ({data:=#[]})))).ai.aD.length)]:=by
  exact T.1
 have e6:((nj d s c):Int)=0:=by
  exact T.2
 exact .aG [.r [(2,X (gB [(0,80),(1,8),(2,208)] (y9E ((bL d s ({data:=#[]}))) s fk c aM oM) X0))]] [] (fun((z0,z1):(List aP)×Int)=>(.aZ [VL 19 bI z0,VI z1],[])) _ _ (pr e5 e6)
theorem oL(x lo hi:Int)(hl: -1000000000000<=lo/\lo<=hi/\hi<=1000000000000):FC Tryz.prog 32 [VI x,VI lo,VI hi] (app emp []) (VI (bN x lo hi)) (app emp []):=by
 refine .go Tryz.f32 ?_;have e1:((bN x lo hi):Int)=(lo+(((x.tmod ((hi-lo)+1))+((hi-lo)+1)).tmod ((hi-lo)+1))):=by
  rfl
 exact .aG [.r [],.r [(2,X (Xn (hi-lo))),(3,X (Xn ((hi-lo)+1)))],.r [(3,X (Xc ((((hi-lo)+1):Int)≠0))),(5,X (Xn ((x.tmod ((hi-lo)+1))+((hi-lo)+1))) (by have h1:=Zu x (n:=hi-lo+1) (by omega);omega)),(7,X (Xc ((((hi-lo)+1):Int)≠0))),(8,X (Xn (lo+(((x.tmod ((hi-lo)+1))+((hi-lo)+1)).tmod ((hi-lo)+1)))) (by have h1:=jZ x (lo:=lo) (hi:=hi) (by omega);unfold bN at h1;omega))]] [] (fun z0:Int=>(VI z0,[])) _ _ e1
theorem x8z(l:List aI)(n:ByteArray):FC Tryz.prog 71 [VL 2 aS l,VS n] (app emp []) (VS (iZ l n 0)) (app emp []):=by
 refine .go Tryz.f71 ?_;refine .len 0 (fun dQ=> ?_);refine .loop (α:=Nat) [.r [],.r [(1,X (Xl aS l))]] 32 (fun i=>([(0,VL 2 aS l),(1,VS n),(7,VI (l.length:Int)),(8,VI (i:Int))],[])) (fun i=>i<=l.length/\iZ l n 0=iZ l n i) (fun i=>l.length-i) (0:Nat) ?_ ?_
 ·exact⟨oM,rfl⟩
 rintro i I2 ic;try dsimp only at I2
 refine .bp [.r []] (decide ((i:Int)< (l.length:Int))) (fun h2=> ?_) (fun h2=> ?_)
 ·refine .bp [.r [],.r [(2,X (Xi aS l (i:Int)))]] (seq (((l.getD i default)).name) n) (fun h4=> ?_) (fun h4=> ?_)
  ·have e1:((iZ l n 0):ByteArray)=((l.getD i default)).val:=by
    rw[I2.2,iZ,if_pos oM,if_pos (kj.1 h4)]
   exact .aG [.r [(2,X (Xi aS l (i:Int)))]] [] (fun z0:ByteArray=>(VS z0,[])) _ _ e1
  refine .back [.r [(0,X (Xn ((i:Int)+1)))]] [] (ic ((i+1):Nat) ?_ ?_)
  ·refine⟨oM,?_⟩;rw[I2.2,iZ,if_pos oM,if_neg (nZ.1 h4)]
  exact tO
 have e2:((iZ l n 0):ByteArray)={data:=#[]}:=by
  rw[I2.2,iZ,if_neg oM]
 exact .aG [.r []] [] (fun z0:ByteArray=>(VS z0,[])) _ _ e2
theorem x6p(l:List aI)(n:ByteArray):FC Tryz.prog 72 [VL 2 aS l,VS n] (app emp []) (VB (yj l n)) (app emp []):=by
 refine .go Tryz.f72 ?_;refine .len 0 (fun dQ=> ?_);refine .loop (α:=Nat) [.r [],.r [(1,X (Xl aS l))]] 32 (fun i=>([(0,VL 2 aS l),(1,VS n),(7,VI (l.length:Int)),(8,VI (i:Int))],[])) (fun i=>i<=l.length/\yj l n=yj (l.drop i) n) (fun i=>l.length-i) (0:Nat) ?_ ?_
 ·exact⟨oM,rfl⟩
 rintro i I2 ic;try dsimp only at I2
 refine .bp [.r []] (decide ((i:Int)< (l.length:Int))) (fun h2=> ?_) (fun h2=> ?_)
 ·have hs:=x7x (l:=l) (i:=i) oM n;refine .bp [.r [],.r [(2,X (Xi aS l (i:Int)))]] (seq (((l.getD i default)).name) n) (fun h4=> ?_) (fun h4=> ?_)
  ·have e1:((yj l n):Bool)=true:=by
    first| (rw[I2.2,hs,h4,Bool.true_or])| (rw[I2.2,qN oM];rfl)
   exact .aG [.r []] [] (fun z0:Bool=>(VB z0,[])) _ _ e1
  refine .back [.r [(0,X (Xn ((i:Int)+1)))]] [] (ic ((i+1):Nat) ?_ ?_)
  ·refine⟨oM,?_⟩;rw[I2.2,hs,h4,ji]
  exact tO
 have e2:((yj l n):Bool)=false:=by
  first| (rw[I2.2,hs,h4,Bool.true_or])| (rw[I2.2,qN oM];rfl)
 exact .aG [.r []] [] (fun z0:Bool=>(VB z0,[])) _ _ e2
theorem x25(f:List aL)(hn:f.length<=1048576):FC Tryz.prog 31 [VL 3 aU f,VI 0] (app emp []) (VL 1 bC (wC f f.length)) (app emp []):=by
 refine .go Tryz.f31 ?_;refine .len 0 (fun dQ=> ?_);refine .loop (α:=Nat×(List Int)) [.r [],.r [],.r [(1,X (Xl aU f))],.le (.nR 5 1)] 41 (fun(i,o)=>([(0,VL 3 aU f),(1,VI 0),(5,.aF 40 o.length),(10,VI (f.length:Int)),(11,VI (i:Int))],[(40,OR 1 bC o)])) (fun(i,o)=>i<=f.length/\o=wC f i) (fun(i,o)=>f.length-i) (0,[]) ?_ ?_
 ·exact⟨oM,rfl⟩
 rintro⟨i,o⟩ I3 cC;try dsimp only at I3
 have ol:o.length<=i:=by rw[I3.2];exact Sg f i
 refine .bp [.r []] (decide ((i:Int)< (f.length:Int))) (fun h3=> ?_) (fun h3=> ?_)
 ·refine .bp (let b:=((f.getD i default)).ah;let a:=true&&(yj b ({data:=#[99,117,116]}));[.r [],.r [(2,X (Xi aU f (i:Int)))],.r [(1,X (aW (x8z b ({data:=#[104,105,100,100,101,110]})) X0))],.r [(4,Xv 1 true (aW (x6p b ({data:=#[99,117,116]})) X0)),(5,X (Xk true)),(8,Xv 1 (!a) X0),(9,Xv 1 (!a) X0),(11,Xv 1 ((!a)&&false) (aW (x6p b ({data:=#[97,100,100]})) X0)),(12,kH (!a) false),(13,X (b7 a))]]) ((true&&(yj (((f.getD i default)).ah) ({data:=#[99,117,116]})))|| (false&&(yj (((f.getD i default)).ah) ({data:=#[97,100,100]})))) (fun h7=> ?_) (fun h7=> ?_)
  ·refine .bp (let b:=!false;let a:=b&&((i:Int)==((f.length:Int)- 1));[.r [],.r [(4,Xv 1 b (Xl aU f)),(5,Xv 1 b (Xn ((f.length:Int)- 1))),(6,Xv 2 b X0),(7,Xv 1 b X0),(10,Xv 2 a (Xi aU f (i:Int))),(11,Xv 1 a X0),(12,Xv 1 a X0),(13,Xv 1 a X0),(14,kH b ((i:Int)==((f.length:Int)- 1))),(15,X (b7 false))]]) (false|| (((i:Int)==((f.length:Int)- 1))&&((((f.getD i default)).aT)==10))) (fun h9=> ?_) (fun h9=> ?_)
   ·refine .back [.r [(3,X (cg bC [(i:Int)] (fK 1 bC 40 o [(i:Int)])))],.r [(0,X (Xn ((i:Int)+1)))]] [(40,40)] (cC ((i+1),(o++[(i:Int)])) ?_ ?_)
    ·refine⟨oM,?_⟩;rw[I3.2,Mr];simp[-List.getD_eq_getElem?_getD] at h7 h9;unfold Ew oI F7 F6;simp_all[-List.getD_eq_getElem?_getD];all_goals omega
    exact tO
   refine .back [.r [(0,X (Xn ((i:Int)+1)))]] [(40,40)] (cC ((i+1),o) ?_ ?_)
   ·refine⟨oM,?_⟩;rw[I3.2,Mr];simp[-List.getD_eq_getElem?_getD] at h7 h9;unfold Ew oI F7 F6;simp_all[-List.getD_eq_getElem?_getD];all_goals omega
   exact tO
  refine .bp (let a:=!(seq (iZ (((f.getD i default)).ah) ({data:=#[104,105,100,100,101,110]}) 0) ({data:=#[111,110]}));let b:=(i:Int)==((f.length:Int)- 1);let c:=(!a)&&b;[.r [(4,Xv 1 (!a) (Xl aU f)),(5,Xv 1 (!a) (Xn ((f.length:Int)- 1))),(6,Xv 2 (!a) X0),(7,Xv 1 (!a) X0),(10,Xv 2 c (Xi aU f (i:Int))),(11,Xv 1 c X0),(12,Xv 1 c X0),(13,Xv 1 c X0),(14,kH (!a) b),(15,X (b7 a))]]) (!(seq (iZ (((f.getD i default)).ah) ({data:=#[104,105,100,100,101,110]}) 0) ({data:=#[111,110]}))|| (((i:Int)==((f.length:Int)- 1))&&((((f.getD i default)).aT)==10))) (fun h9=> ?_) (fun h9=> ?_)
  ·refine .back [.r [(3,X (cg bC [(i:Int)] (fK 1 bC 40 o [(i:Int)])))],.r [(0,X (Xn ((i:Int)+1)))]] [(40,40)] (cC ((i+1),(o++[(i:Int)])) ?_ ?_)
   ·refine⟨oM,?_⟩;rw[I3.2,Mr];simp[-List.getD_eq_getElem?_getD] at h7 h9;unfold Ew oI F7 F6;simp_all[-List.getD_eq_getElem?_getD];all_goals omega
   exact tO
  refine .back [.r [(0,X (Xn ((i:Int)+1)))]] [(40,40)] (cC ((i+1),o) ?_ ?_)
  ·refine⟨oM,?_⟩;rw[I3.2,Mr];simp[-List.getD_eq_getElem?_getD] at h7 h9;unfold Ew oI F7 F6;simp_all[-List.getD_eq_getElem?_getD];all_goals omega
  exact tO
 have e1:((wC f f.length):List Int)=o:=by
  rw[I3.2,show i=f.length by omega]
 exact .aG [.r [],.le (.fr 4 [(o.length:Nat)=(List.map bC o).length] ⟨lm,trivial⟩)] [] (fun z0:List Int=>(VL 1 bC z0,[])) _ _ e1
theorem x26(d:Doc)(k:Int)(hb:fD d):FC Tryz.prog 30 [.t (gU d),VI k] (app emp []) (.aZ [.t (bz (jt d k)),VB (BG d k)]) (app emp []):=by
 refine .go Tryz.f30 ?_;have hl:=hb.len;refine .loop (α:=Nat) [.r [],.r [(2,X (Xl bz d.aq))]] 56 (fun i=>([(1,VI k),(4,.ptr 8 0),(9,VL 9 bz d.aq),(10,VI (d.aq.length:Int)),(11,VI (i:Int))],[(8,.box [VI 0,VI 0,VN,VN,VI 0,VI 0,VN,VN,VN])])) (fun i=>i<=d.aq.length/\kN d.aq k 0=kN d.aq k i) (fun i=>d.aq.length-i) (0:Nat) ?_ ?_
 ·exact⟨oM,rfl⟩
 rintro i I2 ic;try dsimp only at I2
 refine .bp [.r []] (decide ((i:Int)< (d.aq.length:Int))) (fun h2=> ?_) (fun h2=> ?_)
 ·have hx:=hb.all _ (FZ (l:=d.aq) (i:=i) oM);refine .bp [.r [(0,X (Xi bz d.aq (i:Int)))],.r []] ((((d.aq.getD i default)).id)==k) (fun h4=> ?_) (fun h4=> ?_)
  ·have T:=x7O (I2.2.trans (by rw[kN,if_pos oM,if_pos oM]));have e1:((jt d k):Node)=(((d.aq.getD i default))):=by
    exact T.1
   have e2:((BG d k):Bool)=true:=by
    exact T.2
   exact .bA [.r [(1,X (bV 136 (HI ((d.aq.getD i default)) aM) X0))]] [] [] (fun((z0,z1):Node×Bool)=>(.aZ [.t (bz z0),VB z1],[])) _ _ (pr e1 e2)
  refine .back [.r [(0,X (Xn ((i:Int)+1)))]] [(8,8)] (ic ((i+1):Nat) ?_ ?_)
  ·exact⟨oM,by rw[I2.2,kN,if_pos oM,if_neg oM]⟩
  exact tO
 have T:=x7P (I2.2.trans (by rw[kN,if_neg oM]));have e3:((jt d k):Node)=({id:=0,af:=0,ah:=[],aD:=[],az:=({ak:=0,aj:=0,cells:=[],aH:=[]}:aX),draw:=[]}:Node):=by
  exact T.1
 have e4:((BG d k):Bool)=false:=by
  exact T.2
 exact .bA [.r [(0,X (Xf [(2,2),(3,3),(6,5),(7,4),(8,8)]))]] [] [] (fun((z0,z1):Node×Bool)=>(.aZ [.t (bz z0),VB z1],[])) _ _ (pr e3 e4)
theorem x5j(n:Node)(hn:n.draw.length<=1048576):FC Tryz.prog 43 [.t (bz n)] (app emp []) (VI (uT n)) (app emp []):=by
 refine .go Tryz.f43 ?_;refine .bp [.r [],.r [(2,X (Xl cm n.draw))],.r []] (decide ((n.draw.length:Int)> 0)) (fun h2=> ?_) (fun h2=> ?_)
 ·have e1:((uT n):Int)=((n.draw.getD (n.draw.length- 1) default)).clock:=by
   unfold uT;rw[if_pos oM]
  exact .aG (let a:=(n.draw.length:Int)- 1;[.r [(3,X (Xn a)),(4,X (yV cm n.draw a (n.draw.length- 1)))]]) [] (fun z0:Int=>(VI z0,[])) _ _ e1
 have e2:((uT n):Int)=0:=by
  unfold uT;rw[if_neg oM]
 exact .aG [.r []] [] (fun z0:Int=>(VI z0,[])) _ _ e2
theorem JG(d:Doc)(k:Int)(ks:List Int)(hd:d.aq.length<=1048576)(hk:ks.length<=16):FC Tryz.prog 29 [.t (gU d),VI k,VL 1 bC ks] (app emp []) (VI (kz d k ks)) (app emp []):=by
 refine .go Tryz.f29 ?_;refine .len 2 (fun lU=> ?_);refine .loop (α:=Nat×(List Int)) [.r [],.r [],.r [(2,X (Xl bz d.aq))],.le (.nR 7 1)] 57 (fun(i,o)=>([(1,VI k),(2,VL 1 bC ks),(7,.aF 56 o.length),(13,VL 9 bz d.aq),(14,VI (d.aq.length:Int)),(15,VI (i:Int))],[(56,OR 1 bC o)])) (fun(i,o)=>i<=d.aq.length/\o=wD (d.aq.take i) ks) (fun(i,o)=>d.aq.length-i) (0,[]) ?_ ?_
 ·exact⟨by omega,rfl⟩
 rintro⟨i,o⟩ I3 cC;try dsimp only at I3
 have ol:=x1R (d.aq.take i) ks;rw[<-I3.2] at ol;have ob:o.length<=1048576*16:=qC ol (Nat.mul_le_mul (by(rw[qz];omega)) hk);refine .bp [.r []] (decide ((i:Int)< (d.aq.length:Int))) (fun h3=> ?_) (fun h3=> ?_)
 ·refine .loop (α:=Nat×(List Int)) [.r [(0,X (Xi bz d.aq (i:Int)))],.r [(1,X (Xl bC ks))]] 121 (fun(j,q)=>([(1,VI k),(2,VL 1 bC ks),(7,.aF 56 q.length),(9,.ptr 81 0),(13,VL 9 bz d.aq),(14,VI (d.aq.length:Int)),(15,VI (i:Int)),(19,VL 1 bC ks),(20,VI (ks.length:Int)),(21,VI (j:Int))],[(56,OR 1 bC q),(81,.box [VI (((d.aq.getD i default)).id),VI (((d.aq.getD i default)).af),VL 2 aS (((d.aq.getD i default)).ah),VL 3 aU (((d.aq.getD i default)).aD),VI ((((d.aq.getD i default)).az).ak),VI ((((d.aq.getD i default)).az).aj),VL 5 bg ((((d.aq.getD i default)).az).cells),VL 4 bE ((((d.aq.getD i default)).az).aH),VL 8 cm (((d.aq.getD i default)).draw)])])) (fun(j,q)=>j<=ks.length/\q=wD (d.aq.take i) ks++vM (d.aq.getD i default) (ks.take j)) (fun(j,q)=>ks.length-j) (0,o) ?_ ?_
  ·exact⟨by omega,by rw[I3.2];simp[vM]⟩
  rintro⟨j,q⟩ I6 FX;try dsimp only at I6
  have ql:=Zv (d.aq.getD i default) (ks.take j);have qo:=congrArg List.length I6.2;rw[qf,<-I3.2] at qo;rw[qz] at ql;refine .bp [.r []] (decide ((j:Int)< (ks.length:Int))) (fun h6=> ?_) (fun h6=> ?_)
  ·refine .bp [.r [(0,X (Xi bC ks (j:Int)))],.r []] ((((d.aq.getD i default)).af)==(ks.getD j default)) (fun h8=> ?_) (fun h8=> ?_)
   ·refine .back [.r [(4,X (cg bC [((d.aq.getD i default)).id] (fK 1 bC 56 q [((d.aq.getD i default)).id])))],.r [(0,X (Xn ((j:Int)+1)))]] [(56,56),(81,81)] (FX ((j+1),(q++[((d.aq.getD i default)).id])) ?_ ?_)
    ·refine⟨by omega,?_⟩;rw[I6.2,Zw (by omega)]
     first|rw[if_pos h8,qI]|rw[if_neg h8,qL]
    ((try dsimp only);omega)
   refine .back [.r [(0,X (Xn ((j:Int)+1)))]] [(56,56),(81,81)] (FX ((j+1),q) ?_ ?_)
   ·refine⟨by omega,?_⟩;rw[I6.2,Zw (by omega)]
    first|rw[if_pos h8,qI]|rw[if_neg h8,qL]
   ((try dsimp only);omega)
  refine .back [.r [(0,X (Xn ((i:Int)+1)))]] [(56,56)] (cC ((i+1),q) ?_ ?_)
  ·refine⟨by omega,?_⟩;rw[I6.2,show ks.take j=ks from qk (by omega),y9m (by omega)]
  ((try dsimp only);omega)
 have ho:o=wD d.aq ks:=by rw[I3.2,qk (by omega)]
 refine .bp [.r []] ((o.length:Int)==0) (fun fJ=> ?_) (fun fJ=> ?_)
 ·have e1:((kz d k ks):Int)=0:=by
   unfold kz;rw[<-ho,if_pos (by omega)]
  exact .aG [.r []] [] (fun z0:Int=>(VI z0,[])) _ _ e1
 have hw:=jZ k (lo:=0) (hi:=(o.length:Int)- 1) (by omega);have e2:((kz d k ks):Int)=(o.getD (Int.toNat (bN k 0 ((o.length:Int)- 1))) default):=by
  unfold kz;rw[<-ho,if_neg (by omega)]
 exact .aG [.r [(4,X (Xn ((o.length:Int)- 1))),(5,X (aW (oL k 0 ((o.length:Int)- 1) (by omega)) X0)),(6,X (Xp bC o (bN k 0 ((o.length:Int)- 1)))),(7,X (Xe bC o (Int.toNat (bN k 0 ((o.length:Int)- 1)))))]] [] (fun z0:Int=>(VI z0,[])) _ _ e2
theorem x27(s:ByteArray)(h:0<s.size/\gQ s 0<128):FC Tryz.prog 133 [VS s] (app emp []) (.aZ [.t (.sc (.int .i32 (gQ s 0:Int))),VI 1]) (app emp []):=by
 refine .go Tryz.f133 ?_;have hz:seq s {data:=#[]}=false:=by rw[z44,decide_eq_false oM]
 have h2:=h.2;unfold gQ at h2;refine .bp (let a:=!(seq s ({data:=#[]}));[.r [],.r [(4,Xv 1 a (Xb s 0)),(5,Xv 1 a X0),(6,X (Xk a))]]) (!(seq s ({data:=#[]}))&&decide (((((s[0]?).getD 0).toNat:Nat):Int)< 128)) (fun h1=> ?_) (fun h1=> ?_)
 ·have e1:((gQ s 0:Int):Int)=((((s[0]?).getD 0).toNat:Nat):Int):=by
   rfl
  exact .aG [.r [(1,X (Xb s 0)),(2,X (Lj IntKind.i32 ((((s[0]?).getD 0).toNat:Nat):Int)) (x3R oM))]] [] (fun z0:Int=>(.aZ [.t (.sc (.int .i32 z0)),VI 1],[])) _ _ e1
 exfalso;rcases h1 with q|q;(rw[hz] at q;cases q);omega
theorem x28(s:ByteArray)(l:List aI)(hs:wS s)(hl:dO false l 0=0)(hn:s.size<=1000000000)(hk:l.length<=1000000000):FC Tryz.prog 74 [VS s,VL 2 aS l] (app emp []) (.aZ [.aF 0 ((yz s l s.size).length),VI 0]) (app emp [(0,OR 3 aU (yz s l s.size))]):=by
 refine .go Tryz.f74 ?_;refine .len 1 (fun gW=> ?_);refine .bp [.r [],.r [(1,X (aW (FM l) X0))],.r []] ((dO false l 0) !=0) (fun h2=> ?_) (fun h2=> ?_)
 ·exfalso;omega
 refine .loop (α:=ByteArray×(List aL)) [.r [],.le (.nR 7 3)] 65 (fun(u,o)=>([(0,VS u),(1,VL 2 aS l),(7,.aF 64 o.length)],[(64,OR 3 aU o)])) (fun(u,o)=>o.length<=s.size/\u=s.extract o.length s.size/\o=yz s l o.length) (fun(u,o)=>s.size-o.length) (s,[]) ?_ ?_
 ·exact⟨sM,(x7M s).symm,rfl⟩
 rintro⟨u,o⟩ I5 mR;try dsimp only at I5
 have us:u.size=s.size-o.length:=by rw[I5.2.1,Se]
 refine .bp [.r []] (!(seq u ({data:=#[]}))) (fun h5=> ?_) (fun h5=> ?_)
 ·rw[z44,decide_eq_false_iff_not] at h5;have hb:=hs o.length oM;have hu:gQ u 0=gQ s o.length:=by rw[I5.2.1,x7K oM]
  have h0:0<u.size/\gQ u 0<128:=⟨oM,oM⟩
  refine .bp (let a:=(gQ u 0:Int)==65533;[.r [(1,X (aW (x27 u aM) X0))],.r [(4,Xv 1 a X0),(5,X (Xk a))]]) (((gQ u 0:Int)==65533)||false) (fun h7=> ?_) (fun h7=> ?_)
  ·exfalso;rcases h7 with q|q
   ·omega
   cases q
  refine .bp [.r [(1,X (Xn (gQ u 0:Int))),(2,X (aW (XA (gQ u 0:Int)) X0))]] (!(decide (rB (gQ u 0:Int)))) (fun h9=> ?_) (fun h9=> ?_)
  ·exfalso;unfold rB at h9;omega
  refine .back (let a:=({aT:=(gQ u 0:Int),bh:=0,ah:=l}:aL);let b:=(u.size:Int);[.r [(2,X (Xn (gQ u 0:Int))),(4,X (o5 aS 249 l)),(6,X (cg aS l X0)),(7,X (cg aU [a] (fK 3 aU 64 o [a])))],.r [(2,X (Xa (Xc ((0:Int)<=1)) (Xa (Xc ((1:Int)<=b)) (Xc ((b:Int)<=b)))))]]) [(64,64)] (mR ((u.extract ((1:Int)).toNat (((u.size:Int):Int)).toNat),(o++[({aT:=(gQ u 0:Int),bh:=0,ah:=l}:aL)])) ?_ ?_)
  ·simp only[qf,qi,zg];refine⟨oM,?_,?_⟩
   ·show u.extract 1 u.size=_;rw[I5.2.1];exact x7L
   rw[zw,x1P,<-I5.2.2,hu]
  simp only[qf,qi,zg];omega
 rw[z44,decide_eq_true_eq] at h5;have JH:yz s l s.size=o:=by rw[show s.size=o.length by omega];exact I5.2.2.symm
 have e1:((yz s l s.size):List aL)=o:=by
  rw[JH]
 have e2:((yz s l s.size).length:Nat)=o.length:=by
  rw[JH]
 exact .aG [.r []] [(64,0)] (fun((z0,z1):(List aL)×Nat)=>(.aZ [.aF 0 z1,VI 0],[(0,OR 3 aU z0)])) _ _ (pr e1 e2)
theorem x99(t:ByteArray)(h:wS t)(hn:t.size<=1000000):w2p t (kI t):=fun l h1 h2=>by
 have h:=x28 t l h h1 oM oM;rw[x4K] at h;exact h
theorem x5k(d:Doc)(s:bM)(au:ByteArray)(hb:fD d)(hx:dP d s au=0->BF d s (kI {data:=#[]}) au):FC Tryz.prog 34 [.t (gU d),.t (jR s),VS au] (app emp []) (.aZ [VL 19 bI (nT d s (kI {data:=#[]}) au),.t (jR (yx d s (kI {data:=#[]}) au)),VI (dP d s au)]) (app emp []):=by
 refine .go Tryz.f34 ?_;have hof:=x99 {data:=#[]} KL dM;have ht:({data:=#[]}:ByteArray).size<=20000:=dM;have e1:((yx d s (kI {data:=#[]}) au):bM)=((yx d s (kI {data:=#[]}) au)):=by
  (first|omega|with_reducible exact fun h=>h| (intro hq;rw[hq];done)| (intro hq;rw[hq];rfl)| (simp only[qj];done)| (simp only[qj];omega)| (simp;omega)| (simp;done))
 exact .bA [.r [],.r [(3,X (bV 64 (x22 d s ({data:=#[]}) (kI {data:=#[]}) au aM aM aM aM) X0))]] [] [] (fun z0:bM=>(.aZ [VL 19 bI (nT d s (kI {data:=#[]}) au),.t (jR z0),VI (dP d s au)],[])) _ _ e1
theorem Na(d:Doc)(s:bM)(t au:ByteArray)(hb:fD d)(ht:wS t)(hn:t.size<=20000)(hx:dP d s au=0->BF d s (kI t) au):FC Tryz.prog 33 [.t (gU d),.t (jR s),VS t,VS au] (app emp []) (.aZ [VL 19 bI (nT d s (kI t) au),.t (jR (yx d s (kI t) au)),VI (dP d s au)]) (app emp []):=
 x22 d s t (kI t) au (x99 t ht oM) hb hn hx
theorem UM(d:Doc)(aC a b c:Int)(hb:fD d)(hx:Ex d aC b c):FC Tryz.prog 18 [.t (gU d),VI aC,VI a,VI b,VI c] (app emp []) (VL 19 bI (dR d aC a b c)) (app emp []):=by
 refine .go Tryz.f18 ?_;have hl:=hb.len;have sx:=Zz hb (iQ d b);have vX:=x1T hb (kz d b [10,8]);have kZ:=Sg (jt d (iQ d b)).aD (jt d (iQ d b)).aD.length;have hmo:=Si hb b;have TG:=ZA hb b c;refine .bp [.r [],.r [(2,X (Xc ((7:Int)≠0))),(4,X (aW (JG d (IntKind.i64.wrap (b.tdiv 7)) [1,3,4,12] (by omega) (by first|omega|simp)) (cg bC [1,3,4,12] X0)))],.le (.eq 11 (VI (kz d (IntKind.i64.wrap (b.tdiv 7)) [1,3,4,12])) (VI (iQ d b)) (.of_eq rfl)),.r [(2,X (bV 80 (x26 d (iQ d b) (by assumption)) X0))],.r [(2,X (bV 152 (x25 (((jt d (iQ d b))).aD) (by omega)) X0)),(3,X (Xl bC (wC (((jt d (iQ d b))).aD) ((((jt d (iQ d b))).aD)).length))),(4,X (Xn (((wC (((jt d (iQ d b))).aD) ((((jt d (iQ d b))).aD)).length).length:Int)- 1))),(5,X (Li 0 (((wC (((jt d (iQ d b))).aD) ((((jt d (iQ d b))).aD)).length).length:Int)- 1)))],.le (.eq 14 (VI (max 0 (((wC (((jt d (iQ d b))).aD) ((((jt d (iQ d b))).aD)).length).length:Int)- 1))) (VI (wE d b)) (.of_eq rfl)),.r [(1,X (Xc ((5:Int)≠0))),(3,X (aW (oL (IntKind.i64.wrap (c.tdiv 5)) 0 (wE d b) (by omega)) X0))],.le (.eq 15 (VI (bN (IntKind.i64.wrap (c.tdiv 5)) 0 (wE d b))) (VI (jK d b c)) (.of_eq rfl)),.r [(3,X (Xc ((11:Int)≠0))),(7,X (Xn ((jK d b c)+4))),(8,X (vq (wE d b) ((jK d b c)+4))),(9,X (aW (oL (IntKind.i64.wrap (c.tdiv 11)) (jK d b c) (min (wE d b) ((jK d b c)+4)) (by omega)) X0))],.r [],.le (.eb 320 2 (VI (bN (IntKind.i64.wrap (c.tdiv 11)) (jK d b c) (min (wE d b) ((jK d b c)+4)))) (VI (mD d b c)) rfl),.r [(1,X (aW (oL a 0 13 (by omega)) X0))],.r []] ((bN a 0 13)==0) (fun fJ=> ?_) (fun fJ=> ?_)
 ·have w0:=jZ b (lo:=0) (hi:=4) (by decide);have ha:=HV (Int.toNat (bN b 0 4));have hn:=Sh (Int.toNat (bN b 0 4));have ht:=hx.ty (As.getD (Int.toNat (bN b 0 4)) default) {data:=#[]} (by assumption) (by assumption);have e1:((dR d aC a b c):List aP)=(nT d ({nd:=(iQ d b),fr:=(jK d b c),tq:=(mD d b c)}:bM) (kI ([{data:=#[120]},{data:=#[121,122]},{data:=#[10]},{data:=#[119,32,118]},{data:=#[98]}].getD (Int.toNat (bN b 0 4)) default)) ({data:=#[]})):=by
   unfold dR;((repeat' split)<;>first|rfl|omega| (simp_all;done)| (simp_all;omega))
  exact .aG [.le (.eq 88 (VB ((bN a 0 13)==0)) (VB true) (.of_eq (by simp[fJ]))),.t,.r [(4,X (aW (oL b 0 4 (by omega)) X0)),(5,X (Xp n5 [{data:=#[120]},{data:=#[121,122]},{data:=#[10]},{data:=#[119,32,118]},{data:=#[98]}] (bN b 0 4))),(6,X (Xe n5 [{data:=#[120]},{data:=#[121,122]},{data:=#[10]},{data:=#[119,32,118]},{data:=#[98]}] (Int.toNat (bN b 0 4)))),(7,X (bV 432 (Na d ({nd:=(iQ d b),fr:=(jK d b c),tq:=(mD d b c)}:bM) ([{data:=#[120]},{data:=#[121,122]},{data:=#[10]},{data:=#[119,32,118]},{data:=#[98]}].getD (Int.toNat (bN b 0 4)) default) ({data:=#[]}) (by assumption) (by assumption) (by assumption) (by assumption)) X0))],.r []] [] (fun z0:List aP=>(VL 19 bI z0,[])) _ _ e1
 refine .bp [.le (.eq 88 (VB ((bN a 0 13)==0)) (VB false) (.of_eq (by simp[fJ]))),.r []] ((bN a 0 13)==1) (fun fe=> ?_) (fun fe=> ?_)
 ·have w0:=jZ b (lo:=0) (hi:=4) (by decide);have ha:=HV (Int.toNat (bN b 0 4));have hn:=Sh (Int.toNat (bN b 0 4));have ht:=hx.ty (As.getD (Int.toNat (bN b 0 4)) default) {data:=#[]} (by assumption) (by assumption);have e2:((dR d aC a b c):List aP)=(nT d ({nd:=(iQ d b),fr:=(jK d b c),tq:=(mD d b c)}:bM) (kI ([{data:=#[120]},{data:=#[121,122]},{data:=#[10]},{data:=#[119,32,118]},{data:=#[98]}].getD (Int.toNat (bN b 0 4)) default)) ({data:=#[]})):=by
   unfold dR;((repeat' split)<;>first|rfl|omega| (simp_all;done)| (simp_all;omega))
  exact .aG [.le (.eq 88 (VB ((bN a 0 13)==1)) (VB true) (.of_eq (by simp[fe]))),.t,.r [(4,X (aW (oL b 0 4 (by omega)) X0)),(5,X (Xp n5 [{data:=#[120]},{data:=#[121,122]},{data:=#[10]},{data:=#[119,32,118]},{data:=#[98]}] (bN b 0 4))),(6,X (Xe n5 [{data:=#[120]},{data:=#[121,122]},{data:=#[10]},{data:=#[119,32,118]},{data:=#[98]}] (Int.toNat (bN b 0 4)))),(7,X (bV 448 (Na d ({nd:=(iQ d b),fr:=(jK d b c),tq:=(mD d b c)}:bM) ([{data:=#[120]},{data:=#[121,122]},{data:=#[10]},{data:=#[119,32,118]},{data:=#[98]}].getD (Int.toNat (bN b 0 4)) default) ({data:=#[]}) (by assumption) (by assumption) (by assumption) (by assumption)) X0))],.r []] [] (fun z0:List aP=>(VL 19 bI z0,[])) _ _ e2
 refine .bp [.le (.eq 88 (VB ((bN a 0 13)==1)) (VB false) (.of_eq (by simp[fe]))),.r []] ((bN a 0 13)==2) (fun eN=> ?_) (fun eN=> ?_)
 ·have w0:=jZ b (lo:=0) (hi:=4) (by decide);have ha:=HV (Int.toNat (bN b 0 4));have hn:=Sh (Int.toNat (bN b 0 4));have ht:=hx.ty (As.getD (Int.toNat (bN b 0 4)) default) {data:=#[]} (by assumption) (by assumption);have e3:((dR d aC a b c):List aP)=(nT d ({nd:=(iQ d b),fr:=(jK d b c),tq:=(mD d b c)}:bM) (kI ([{data:=#[120]},{data:=#[121,122]},{data:=#[10]},{data:=#[119,32,118]},{data:=#[98]}].getD (Int.toNat (bN b 0 4)) default)) ({data:=#[]})):=by
   unfold dR;((repeat' split)<;>first|rfl|omega| (simp_all;done)| (simp_all;omega))
  exact .aG [.le (.eq 88 (VB ((bN a 0 13)==2)) (VB true) (.of_eq (by simp[eN]))),.r [(4,X (aW (oL b 0 4 (by omega)) X0)),(5,X (Xp n5 [{data:=#[120]},{data:=#[121,122]},{data:=#[10]},{data:=#[119,32,118]},{data:=#[98]}] (bN b 0 4))),(6,X (Xe n5 [{data:=#[120]},{data:=#[121,122]},{data:=#[10]},{data:=#[119,32,118]},{data:=#[98]}] (Int.toNat (bN b 0 4)))),(7,X (bV 464 (Na d ({nd:=(iQ d b),fr:=(jK d b c),tq:=(mD d b c)}:bM) ([{data:=#[120]},{data:=#[121,122]},{data:=#[10]},{data:=#[119,32,118]},{data:=#[98]}].getD (Int.toNat (bN b 0 4)) default) ({data:=#[]}) (by assumption) (by assumption) (by assumption) (by assumption)) X0))],.r []] [] (fun z0:List aP=>(VL 19 bI z0,[])) _ _ e3
 refine .bp [.le (.eq 88 (VB ((bN a 0 13)==2)) (VB false) (.of_eq (by simp[eN]))),.r []] ((bN a 0 13)==3) (fun eO=> ?_) (fun eO=> ?_)
 ·have ht:=hx.ty {data:=#[]} {data:=#[]} KL (by decide);have e4:((dR d aC a b c):List aP)=(nT d ({nd:=(iQ d b),fr:=(jK d b c),tq:=(mD d b c)}:bM) (kI {data:=#[]}) ({data:=#[]})):=by
   unfold dR;((repeat' split)<;>first|rfl|omega| (simp_all;done)| (simp_all;omega))
  exact .aG [.r [(2,X (bV 440 (x5k d ({nd:=(iQ d b),fr:=(jK d b c),tq:=(mD d b c)}:bM) ({data:=#[]}) (by assumption) (by assumption)) X0))],.r []] [] (fun z0:List aP=>(VL 19 bI z0,[])) _ _ e4
 refine .bp [.r []] ((bN a 0 13)==4) (fun lV=> ?_) (fun lV=> ?_)
 ·have ha:=Pk;have hn:({data:=#[116]}:ByteArray).size<=20000:=by decide
  have ht:=hx.ty {data:=#[116]} {data:=#[97,110,110]} ha hn;have e5:((dR d aC a b c):List aP)=(nT d ({nd:=(iQ d b),fr:=(jK d b c),tq:=(mD d b c)}:bM) (kI ({data:=#[116]})) ({data:=#[97,110,110]})):=by
   unfold dR;((repeat' split)<;>first|rfl|omega| (simp_all;done)| (simp_all;omega))
  exact .aG [.r [(2,X (bV 456 (Na d ({nd:=(iQ d b),fr:=(jK d b c),tq:=(mD d b c)}:bM) ({data:=#[116]}) ({data:=#[97,110,110]}) (by assumption) (by assumption) (by assumption) (by assumption)) X0))],.r []] [] (fun z0:List aP=>(VL 19 bI z0,[])) _ _ e5
 refine .bp [.r []] ((bN a 0 13)==5) (fun rE=> ?_) (fun rE=> ?_)
 ·have w0:=jZ b (lo:=0) (hi:=2) (by decide);have w1:=jZ (IntKind.i64.wrap (a.tdiv 14)) (lo:=0) (hi:=2) (by decide);have hf:=hx.fm;have e6:((dR d aC a b c):List aP)=(xh d ({nd:=(iQ d b),fr:=(jK d b c),tq:=(mD d b c)}:bM) [({name:=([{data:=#[98,111,108,100]},{data:=#[115,105,122,101]},{data:=#[109,97,114,107,46,109]}].getD (Int.toNat (bN b 0 2)) default),val:=([{data:=#[]},{data:=#[111,110]},{data:=#[52,48]}].getD (Int.toNat (bN (IntKind.i64.wrap (a.tdiv 14)) 0 2)) default)}:aI)]):=by
   unfold dR;((repeat' split)<;>first|rfl|omega| (simp_all;done)| (simp_all;omega))
  exact .aG [.r [(4,X (aW (oL b 0 2 (by omega)) X0)),(5,X (Xp n5 [{data:=#[98,111,108,100]},{data:=#[115,105,122,101]},{data:=#[109,97,114,107,46,109]}] (bN b 0 2))),(6,X (Xe n5 [{data:=#[98,111,108,100]},{data:=#[115,105,122,101]},{data:=#[109,97,114,107,46,109]}] (Int.toNat (bN b 0 2)))),(9,X (Xc ((14:Int)≠0))),(10,X (aW (oL (IntKind.i64.wrap (a.tdiv 14)) 0 2 (by omega)) X0)),(11,X (Xp n5 [{data:=#[]},{data:=#[111,110]},{data:=#[52,48]}] (bN (IntKind.i64.wrap (a.tdiv 14)) 0 2))),(12,X (Xe n5 [{data:=#[]},{data:=#[111,110]},{data:=#[52,48]}] (Int.toNat (bN (IntKind.i64.wrap (a.tdiv 14)) 0 2)))),(15,X (bV 576 (x24 d ({nd:=(iQ d b),fr:=(jK d b c),tq:=(mD d b c)}:bM) [({name:=([{data:=#[98,111,108,100]},{data:=#[115,105,122,101]},{data:=#[109,97,114,107,46,109]}].getD (Int.toNat (bN b 0 2)) default),val:=([{data:=#[]},{data:=#[111,110]},{data:=#[52,48]}].getD (Int.toNat (bN (IntKind.i64.wrap (a.tdiv 14)) 0 2)) default)}:aI)] (by assumption) (by first|omega|simp) (by assumption)) (cg aS [({name:=([{data:=#[98,111,108,100]},{data:=#[115,105,122,101]},{data:=#[109,97,114,107,46,109]}].getD (Int.toNat (bN b 0 2)) default),val:=([{data:=#[]},{data:=#[111,110]},{data:=#[52,48]}].getD (Int.toNat (bN (IntKind.i64.wrap (a.tdiv 14)) 0 2)) default)}:aI)] X0)))],.r []] [] (fun z0:List aP=>(VL 19 bI z0,[])) _ _ e6
 refine .bp [.r []] ((bN a 0 13)==6) (fun CW=> ?_) (fun CW=> ?_)
 ·have w0:=jZ b (lo:=0) (hi:=2) (by decide);have w1:=jZ (IntKind.i64.wrap (a.tdiv 14)) (lo:=0) (hi:=2) (by decide);have hf:=hx.pa;have e7:((dR d aC a b c):List aP)=(xk d ({nd:=(iQ d b),fr:=(jK d b c),tq:=(mD d b c)}:bM) [({name:=([{data:=#[104,101,97,100]},{data:=#[108,105,115,116]},{data:=#[97,108,105,103,110]}].getD (Int.toNat (bN b 0 2)) default),val:=([{data:=#[49]},{data:=#[50]},{data:=#[]}].getD (Int.toNat (bN (IntKind.i64.wrap (a.tdiv 14)) 0 2)) default)}:aI)]):=by
   unfold dR;((repeat' split)<;>first|rfl|omega| (simp_all;done)| (simp_all;omega))
  exact .aG [.r [(4,X (aW (oL b 0 2 (by omega)) X0)),(5,X (Xp n5 [{data:=#[104,101,97,100]},{data:=#[108,105,115,116]},{data:=#[97,108,105,103,110]}] (bN b 0 2))),(6,X (Xe n5 [{data:=#[104,101,97,100]},{data:=#[108,105,115,116]},{data:=#[97,108,105,103,110]}] (Int.toNat (bN b 0 2)))),(9,X (Xc ((14:Int)≠0))),(10,X (aW (oL (IntKind.i64.wrap (a.tdiv 14)) 0 2 (by omega)) X0)),(11,X (Xp n5 [{data:=#[49]},{data:=#[50]},{data:=#[]}] (bN (IntKind.i64.wrap (a.tdiv 14)) 0 2))),(12,X (Xe n5 [{data:=#[49]},{data:=#[50]},{data:=#[]}] (Int.toNat (bN (IntKind.i64.wrap (a.tdiv 14)) 0 2)))),(15,X (bV 592 (y9F d ({nd:=(iQ d b),fr:=(jK d b c),tq:=(mD d b c)}:bM) [({name:=([{data:=#[104,101,97,100]},{data:=#[108,105,115,116]},{data:=#[97,108,105,103,110]}].getD (Int.toNat (bN b 0 2)) default),val:=([{data:=#[49]},{data:=#[50]},{data:=#[]}].getD (Int.toNat (bN (IntKind.i64.wrap (a.tdiv 14)) 0 2)) default)}:aI)] (by assumption) (by first|omega|simp) (by assumption)) (cg aS [({name:=([{data:=#[104,101,97,100]},{data:=#[108,105,115,116]},{data:=#[97,108,105,103,110]}].getD (Int.toNat (bN b 0 2)) default),val:=([{data:=#[49]},{data:=#[50]},{data:=#[]}].getD (Int.toNat (bN (IntKind.i64.wrap (a.tdiv 14)) 0 2)) default)}:aI)] X0)))],.r []] [] (fun z0:List aP=>(VL 19 bI z0,[])) _ _ e7
 refine .bp [.r []] ((bN a 0 13)==7) (fun BC=> ?_) (fun BC=> ?_)
 ·have w1:=jZ b (lo:=1) (hi:=3) (by decide);have w2:=jZ (IntKind.i64.wrap (a.tdiv 14)) (lo:=1) (hi:=3) (by decide);have ho:=hx.ob (sW (bN b 1 3) (bN (IntKind.i64.wrap (a.tdiv 14)) 1 3));have e8:((dR d aC a b c):List aP)=(jE d ({nd:=(iQ d b),fr:=(jK d b c),tq:=(mD d b c)}:bM) (sW (bN b 1 3) (bN (IntKind.i64.wrap (a.tdiv 14)) 1 3)) aC ({data:=#[]})):=by
   unfold dR;((repeat' split)<;>first|rfl|omega| (simp_all;done)| (simp_all;omega))
  exact .aG [.r [(3,X (aW (oL b 1 3 (by omega)) X0)),(5,X (Xc ((14:Int)≠0))),(6,X (aW (oL (IntKind.i64.wrap (a.tdiv 14)) 1 3 (by omega)) X0)),(8,X (bV 552 (x8s d ({nd:=(iQ d b),fr:=(jK d b c),tq:=(mD d b c)}:bM) (bN b 1 3) (bN (IntKind.i64.wrap (a.tdiv 14)) 1 3) aC ({data:=#[]}) (by omega) (by assumption) (by assumption)) X0))],.r []] [] (fun z0:List aP=>(VL 19 bI z0,[])) _ _ e8
 refine .bp [.r []] ((bN a 0 13)==8) (fun h26=> ?_) (fun h26=> ?_)
 ·have ho:=hx.ob (nV (b.tmod 2==0));have e9:((dR d aC a b c):List aP)=(jE d ({nd:=(iQ d b),fr:=(jK d b c),tq:=(mD d b c)}:bM) (nV ((b.tmod 2)==0)) aC ({data:=#[]})):=by
   unfold dR;((repeat' split)<;>first|rfl|omega| (simp_all;done)| (simp_all;omega))
  exact .aG [.r [(3,X (Xc ((2:Int)≠0))),(6,X (bV 552 (x8t d ({nd:=(iQ d b),fr:=(jK d b c),tq:=(mD d b c)}:bM) ((b.tmod 2)==0) aC ({data:=#[]}) (by assumption) (by assumption)) X0))],.r []] [] (fun z0:List aP=>(VL 19 bI z0,[])) _ _ e9
 refine .bp [.r []] ((bN a 0 13)==9) (fun h28=> ?_) (fun h28=> ?_)
 ·have hc:=Zy;have ho:=hx.ob (rj Ms);have kE:((dR d aC a b c):List aP)=(jE d ({nd:=(iQ d b),fr:=(jK d b c),tq:=(mD d b c)}:bM) (rj [({name:={data:=#[107,105,110,100]},val:={data:=#[115,101,113]}}:aI)]) aC ({data:=#[]})):=by
   unfold dR;((repeat' split)<;>first|rfl|omega| (simp_all;done)| (simp_all;omega))
  exact .aG [.r [(5,X (bV 560 (x8u d ({nd:=(iQ d b),fr:=(jK d b c),tq:=(mD d b c)}:bM) [({name:={data:=#[107,105,110,100]},val:={data:=#[115,101,113]}}:aI)] aC ({data:=#[]}) (by assumption) (by first|omega|simp) (by assumption) (by assumption)) (cg aS [({name:={data:=#[107,105,110,100]},val:={data:=#[115,101,113]}}:aI)] X0)))],.r []] [] (fun z0:List aP=>(VL 19 bI z0,[])) _ _ kE
 refine .bp [.r []] ((bN a 0 13)==10) (fun h30=> ?_) (fun h30=> ?_)
 ·have w0:=jZ (IntKind.i64.wrap (a.tdiv 14)) (lo:=0) (hi:=2) (by decide);have w1:=jZ c (lo:=0) (hi:=2) (by decide);have w2:=Zx (Int.toNat (bN (IntKind.i64.wrap (a.tdiv 14)) 0 2));have lg:((dR d aC a b c):List aP)=(xm d (kz d b [2,6]) (bN c 0 2) ([1,2,-1].getD (Int.toNat (bN (IntKind.i64.wrap (a.tdiv 14)) 0 2)) default)):=by
   unfold dR;((repeat' split)<;>first|rfl|omega| (simp_all;done)| (simp_all;omega))
  exact .aG [.r [(4,X (aW (JG d b [2,6] (by omega) (by first|omega|simp)) (cg bC [2,6] X0))),(6,X (aW (oL c 0 2 (by omega)) X0)),(9,X (Xc ((14:Int)≠0))),(10,X (aW (oL (IntKind.i64.wrap (a.tdiv 14)) 0 2 (by omega)) X0)),(11,X (Xp bC [1,2,-1] (bN (IntKind.i64.wrap (a.tdiv 14)) 0 2))),(12,X (Xe bC [1,2,-1] (Int.toNat (bN (IntKind.i64.wrap (a.tdiv 14)) 0 2)))),(13,X (bV 640 (x8v d (kz d b [2,6]) (bN c 0 2) ([1,2,-1].getD (Int.toNat (bN (IntKind.i64.wrap (a.tdiv 14)) 0 2)) default) (by assumption) (by omega) (by omega)) X0))],.r []] [] (fun z0:List aP=>(VL 19 bI z0,[])) _ _ lg
 refine .bp [.r []] ((bN a 0 13)==11) (fun h32=> ?_) (fun h32=> ?_)
 ·have w0:=jZ (IntKind.i64.wrap (a.tdiv 14)) (lo:=0) (hi:=2) (by decide);have w1:=jZ c (lo:=0) (hi:=2) (by decide);have w2:=Zx (Int.toNat (bN (IntKind.i64.wrap (a.tdiv 14)) 0 2));have lu:((dR d aC a b c):List aP)=(xo d (kz d b [2,6]) (bN c 0 2) ([1,2,-1].getD (Int.toNat (bN (IntKind.i64.wrap (a.tdiv 14)) 0 2)) default)):=by
   unfold dR;((repeat' split)<;>first|rfl|omega| (simp_all;done)| (simp_all;omega))
  exact .aG [.r [(4,X (aW (JG d b [2,6] (by omega) (by first|omega|simp)) (cg bC [2,6] X0))),(6,X (aW (oL c 0 2 (by omega)) X0)),(9,X (Xc ((14:Int)≠0))),(10,X (aW (oL (IntKind.i64.wrap (a.tdiv 14)) 0 2 (by omega)) X0)),(11,X (Xp bC [1,2,-1] (bN (IntKind.i64.wrap (a.tdiv 14)) 0 2))),(12,X (Xe bC [1,2,-1] (Int.toNat (bN (IntKind.i64.wrap (a.tdiv 14)) 0 2)))),(13,X (bV 656 (y9C d (kz d b [2,6]) (bN c 0 2) ([1,2,-1].getD (Int.toNat (bN (IntKind.i64.wrap (a.tdiv 14)) 0 2)) default) (by assumption) (by omega) (by omega)) X0))],.r []] [] (fun z0:List aP=>(VL 19 bI z0,[])) _ _ lu
 refine .bp [.r []] ((bN a 0 13)==12) (fun h34=> ?_) (fun h34=> ?_)
 ·have nP:((dR d aC a b c):List aP)=(nU d (kz d b [2]) (bN c 0 2) (bN (IntKind.i64.wrap (a.tdiv 14)) 0 2) aC):=by
   unfold dR;((repeat' split)<;>first|rfl|omega| (simp_all;done)| (simp_all;omega))
  exact .aG [.r [(4,X (aW (JG d b [2] (by omega) (by first|omega|simp)) (cg bC [2] X0))),(6,X (aW (oL c 0 2 (by omega)) X0)),(8,X (Xc ((14:Int)≠0))),(9,X (aW (oL (IntKind.i64.wrap (a.tdiv 14)) 0 2 (by omega)) X0)),(11,X (bV 656 (x8w d (kz d b [2]) (bN c 0 2) (bN (IntKind.i64.wrap (a.tdiv 14)) 0 2) aC (by assumption)) X0))],.r []] [] (fun z0:List aP=>(VL 19 bI z0,[])) _ _ nP
 refine .bp [.r [(4,X (aW (JG d b [10,8] (by omega) (by first|omega|simp)) (cg bC [10,8] X0))),(5,X (bV 608 (x26 d (kz d b [10,8]) (by assumption)) X0))],.r []] (BG d (kz d b [10,8])) (fun h9=> ?_) (fun h9=> ?_)
 ·have w0:=jZ (IntKind.i64.wrap (a.tdiv 14)) (lo:=(-1)) (hi:=3) (by decide);have w1:=jZ c (lo:=1) (hi:=3) (by decide);have w2:=jZ c (lo:=0) (hi:=2) (by decide);have TD:=hx.lc;have nQ:((dR d aC a b c):List aP)=[({af:=4,ai:=((jt d (kz d b [10,8]))).id,nw:=({id:=0,af:=0,ah:=[],aD:=[],az:=({ak:=0,aj:=0,cells:=[],aH:=[]}:aX),draw:=[]}:Node),ah:=[],aQ:=[],az:=({ak:=[],aj:=[],cells:=[],split:=[],merge:=[]}:bP),draw:=[({clock:=(1+(uT ((jt d (kz d b [10,8]))))),aC:=aC,af:=0,tH:=(bN c 1 3),prt:=(bN (IntKind.i64.wrap (a.tdiv 14)) (-1) 3),nu:={data:=#[98]},nm:={data:=#[]},vl:={data:=#[]}}:fN)]}:aP)]:=by
   unfold dR;((repeat' split)<;>first|rfl|omega| (simp_all;done)| (simp_all;omega))
  exact .aG [.r [(3,X (aW (x5j ((jt d (kz d b [10,8]))) (by assumption)) X0)),(4,X (Xn (1+(uT ((jt d (kz d b [10,8]))))))),(7,X (aW (oL c 1 3 (by omega)) X0)),(9,X (Xc ((14:Int)≠0))),(10,X (aW (oL (IntKind.i64.wrap (a.tdiv 14)) (-1) 3 (by omega)) X0)),(13,X (Xf [(4,2),(5,3),(8,5),(9,4),(10,8),(11,2),(12,4),(13,2),(14,2),(15,5),(16,4),(17,4)])),(14,X (cg cm [({clock:=(1+(uT ((jt d (kz d b [10,8]))))),aC:=aC,af:=0,tH:=(bN c 1 3),prt:=(bN (IntKind.i64.wrap (a.tdiv 14)) (-1) 3),nu:={data:=#[98]},nm:={data:=#[]},vl:={data:=#[]}}:fN)] X0))],.r [],.le (.fr 10 [(1:Nat)=(List.map bI [({af:=4,ai:=((jt d (kz d b [10,8]))).id,nw:=({id:=0,af:=0,ah:=[],aD:=[],az:=({ak:=0,aj:=0,cells:=[],aH:=[]}:aX),draw:=[]}:Node),ah:=[],aQ:=[],az:=({ak:=[],aj:=[],cells:=[],split:=[],merge:=[]}:bP),draw:=[({clock:=(1+(uT ((jt d (kz d b [10,8]))))),aC:=aC,af:=0,tH:=(bN c 1 3),prt:=(bN (IntKind.i64.wrap (a.tdiv 14)) (-1) 3),nu:={data:=#[98]},nm:={data:=#[]},vl:={data:=#[]}}:fN)]}:aP)]).length] ⟨lm,trivial⟩)] [] (fun z0:List aP=>(VL 19 bI z0,[])) _ _ nQ
 have w2:=jZ c (lo:=0) (hi:=2) (by decide);have pY:((dR d aC a b c):List aP)=[({af:=1,ai:=1,nw:=({id:=0,af:=0,ah:=[],aD:=[],az:=({ak:=0,aj:=0,cells:=[],aH:=[]}:aX),draw:=[]}:Node),ah:=[({name:={data:=#[116,105,116,108,101]},val:=([{data:=#[]},{data:=#[112]},{data:=#[113]}].getD (Int.toNat (bN c 0 2)) default)}:aI)],aQ:=[],az:=({ak:=[],aj:=[],cells:=[],split:=[],merge:=[]}:bP),draw:=[]}:aP)]:=by
  unfold dR;((repeat' split)<;>first|rfl|omega| (simp_all;done)| (simp_all;omega))
 exact .aG [.r [(2,X (aW (oL c 0 2 (by omega)) X0)),(3,X (Xp n5 [{data:=#[]},{data:=#[112]},{data:=#[113]}] (bN c 0 2))),(4,X (Xe n5 [{data:=#[]},{data:=#[112]},{data:=#[113]}] (Int.toNat (bN c 0 2)))),(7,X (Xf [(4,2),(5,3),(8,5),(9,4),(10,8),(12,4),(13,2),(14,2),(15,5),(16,4),(17,4),(18,8)])),(8,X (cg aS [({name:={data:=#[116,105,116,108,101]},val:=([{data:=#[]},{data:=#[112]},{data:=#[113]}].getD (Int.toNat (bN c 0 2)) default)}:aI)] X0))],.r [],.le (.fr 10 [(1:Nat)=(List.map bI [({af:=1,ai:=1,nw:=({id:=0,af:=0,ah:=[],aD:=[],az:=({ak:=0,aj:=0,cells:=[],aH:=[]}:aX),draw:=[]}:Node),ah:=[({name:={data:=#[116,105,116,108,101]},val:=([{data:=#[]},{data:=#[112]},{data:=#[113]}].getD (Int.toNat (bN c 0 2)) default)}:aI)],aQ:=[],az:=({ak:=[],aj:=[],cells:=[],split:=[],merge:=[]}:bP),draw:=[]}:aP)]).length] ⟨lm,trivial⟩)] [] (fun z0:List aP=>(VL 19 bI z0,[])) _ _ pY
end Go.Ch
end
