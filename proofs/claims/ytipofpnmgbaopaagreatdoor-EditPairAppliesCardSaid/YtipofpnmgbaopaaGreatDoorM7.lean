/- Parts of the proof: ChGrid7, ChGrid8, ChGrid9, GridDoc, DocPlain, ChDoc, ChDoc2, DocFind, ChDoc3, ChDoc4, ChDoc5, ChDoc6, ChDoc7, DeltaPlain, EditPlain, ChDoc8, DocCopy, ChDoc9, ChFlow2, ChDelta, ChDelta2, ChDelta3, DeltaWrite, ChDelta4, DeltaFold, DeltaUndo, DeltaAct, ChDelta7, ChAxis, DeltaChange, DeltaLaws, DeltaJoin, DeltaPair, ChDelta9, ChDelta10, DeltaRead, DeltaRuns, DeltaJD, DeltaJF, ChDelta11, EdCheck, EdCheck2, DeltaPD, DeltaTidy, DeltaTB, DeltaTL, TidyU, EditTrk, EditSel. -/
import Derived.Test.YtipofpnmgbaopaaGreatDoorM6
set_option linter.unusedVariables false
set_option linter.unusedSimpArgs false
section
set_option maxRecDepth 100000
set_option maxHeartbeats 4000000
open Go Go.Proofs Go.Ab
namespace Go.Ch
theorem Ya(l:List Cell)(ak aj:List aA)(hl:l.length<=100000000000)(ha:w5 1000000000000 l)(hr:∀c∈l,gv ak c.aF)(hc:∀c∈l,gv aj c.aV):FC Tryz.prog 155 [VL 5 bg l,VL 2 bk ak,VL 2 bk aj] (app emp []) (VL 5 bg (dY l ak aj)) (app emp []):=by
 refine .go Tryz.f155 ?_;refine .len 0 (fun dQ=> ?_);refine .len 1 (fun gW=> ?_);refine .len 2 (fun lU=> ?_);refine .loop (α:=Nat×(List Cell)) [.r [],.r [],.r [(1,X (Xl bg l))],.le (.nR 7 5)] 41 (fun(i,o)=>([(1,VL 2 bk ak),(2,VL 2 bk aj),(7,.aF 40 o.length),(14,VL 5 bg l),(15,VI (l.length:Int)),(16,VI (i:Int))],[(40,OR 5 bg o)])) (fun(i,o)=>i<=l.length/\o=dY (l.take i) ak aj) (fun(i,o)=>l.length-i) (0,[]) ?_ ?_
 ·exact⟨oM,rfl⟩
 rintro⟨i,o⟩ I3 cC;try dsimp only at I3
 have ol:o.length<=i:=by rw[I3.2];have:=Af (l.take i) ak aj;simp at this;omega
 refine .bp [.r []] (decide ((i:Int)< (l.length:Int))) (fun h3=> ?_) (fun h3=> ?_)
 ·have hm:=Rh (l:=l) (i:=i) oM;have ha1:=ha _ hm;have lR:=hr _ hm;have Fa:=hc _ hm;refine .bp [.r [(0,X (Xi bg l (i:Int)))],.r [(1,X (bV 89 (z80 ((l.getD i default)) oM) X0))],.r [(1,X (Xl bk ak))]] (decide ((ak.length:Int)> 0)) (fun h6=> ?_) (fun h6=> ?_)
  ·obtain⟨rz,OJ⟩:=lR oM;have u5:∀x∈[(l.getD i default).aF],0<=x/\x<cz ak:=fun x hx=>by(have:=qv.1 hx;omega)
   refine .bp (let a:=(((l.getD i default)));[.r [(4,X (bV 161 (FW ak [a.aF] aM aM sM) (cg bC [a.aF] X0)))],.r [(4,Xv 1 (!false) (Xi bC (List.map (fun x=>dK ak x 0 0) [a.aF]) 0)),(5,Xv 1 (!false) X0),(6,Xv 1 (!false) X0),(7,X (b7 false))]]) (false||decide (((List.map (fun x=>dK ak x 0 0) [(((l.getD i default))).aF]).getD 0 default)< 0)) (fun h8=> ?_) (fun h8=> ?_)
   ·refine .back [.r [(0,X (Xn ((i:Int)+1)))]] [(40,40)] (cC ((i+1),o) ?_ ?_)
    ·refine⟨oM,?_⟩;rw[vw oM,<-I3.2];unfold j6 fB;simp only[qU,zF,za] at*
     (repeat' split)<;>first|rfl| (simp;done)| (exfalso;omega)| (exfalso;simp_all;done)| (exfalso;simp_all;omega)
    exact tO
   refine .bp [.r [(1,X (Xi bC (List.map (fun x=>dK ak x 0 0) [(((l.getD i default))).aF]) 0))],.r [(1,X (Xl bk aj))]] (decide ((aj.length:Int)> 0)) (fun eE=> ?_) (fun eE=> ?_)
   ·obtain⟨mQ,kD⟩:=Fa oM;have Ho:∀x∈[(l.getD i default).aV],0<=x/\x<cz aj:=fun x hx=>by(have:=qv.1 hx;omega)
    refine .bp (let a:=(((l.getD i default)));[.r [(4,X (bV 369 (FW aj [a.aV] aM aM sM) (cg bC [a.aV] X0)))],.r [(4,Xv 1 (!false) (Xi bC (List.map (fun x=>dK aj x 0 0) [a.aV]) 0)),(5,Xv 1 (!false) X0),(6,Xv 1 (!false) X0),(7,X (b7 false))]]) (false||decide (((List.map (fun x=>dK aj x 0 0) [(((l.getD i default))).aV]).getD 0 default)< 0)) (fun fJ=> ?_) (fun fJ=> ?_)
    ·refine .back [.r [(0,X (Xn ((i:Int)+1)))]] [(40,40)] (cC ((i+1),o) ?_ ?_)
     ·refine⟨oM,?_⟩;rw[vw oM,<-I3.2];unfold j6 fB;simp only[qU,zF,za] at*
      (repeat' split)<;>first|rfl| (simp;done)| (exfalso;omega)| (exfalso;simp_all;done)| (exfalso;simp_all;omega)
     exact tO
    refine .back (let a:=(((l.getD i default)));[.r [(1,X (Xi bC (List.map (fun x=>dK aj x 0 0) [a.aV]) 0))],.r [(3,X (cg bg [({aF:=((List.map (fun x=>dK ak x 0 0) [a.aF]).getD 0 default),aV:=((List.map (fun x=>dK aj x 0 0) [a.aV]).getD 0 default),text:=a.text,bh:=a.bh,ah:=a.ah}:Cell)] (fK 5 bg 40 o [({aF:=((List.map (fun x=>dK ak x 0 0) [a.aF]).getD 0 default),aV:=((List.map (fun x=>dK aj x 0 0) [a.aV]).getD 0 default),text:=a.text,bh:=a.bh,ah:=a.ah}:Cell)])))],.r [(0,X (Xn ((i:Int)+1)))]]) [(40,40)] (cC ((i+1),(o++[({aF:=((List.map (fun x=>dK ak x 0 0) [(((l.getD i default))).aF]).getD 0 default),aV:=((List.map (fun x=>dK aj x 0 0) [(((l.getD i default))).aV]).getD 0 default),text:=(((l.getD i default))).text,bh:=(((l.getD i default))).bh,ah:=(((l.getD i default))).ah}:Cell)])) ?_ ?_)
    ·refine⟨oM,?_⟩;rw[vw oM,<-I3.2];unfold j6 fB;simp only[qU,zF,za] at*
     (repeat' split)<;>first|rfl| (simp;done)| (exfalso;omega)| (exfalso;simp_all;done)| (exfalso;simp_all;omega)
    exact tO
   refine .back (let a:=(((l.getD i default)));[.r [(3,X (cg bg [({aF:=((List.map (fun x=>dK ak x 0 0) [a.aF]).getD 0 default),aV:=a.aV,text:=a.text,bh:=a.bh,ah:=a.ah}:Cell)] (fK 5 bg 40 o [({aF:=((List.map (fun x=>dK ak x 0 0) [a.aF]).getD 0 default),aV:=a.aV,text:=a.text,bh:=a.bh,ah:=a.ah}:Cell)])))],.r [(0,X (Xn ((i:Int)+1)))]]) [(40,40)] (cC ((i+1),(o++[({aF:=((List.map (fun x=>dK ak x 0 0) [(((l.getD i default))).aF]).getD 0 default),aV:=(((l.getD i default))).aV,text:=(((l.getD i default))).text,bh:=(((l.getD i default))).bh,ah:=(((l.getD i default))).ah}:Cell)])) ?_ ?_)
   ·refine⟨oM,?_⟩;rw[vw oM,<-I3.2];unfold j6 fB;simp only[qU,zF,za] at*
    (repeat' split)<;>first|rfl| (simp;done)| (exfalso;omega)| (exfalso;simp_all;done)| (exfalso;simp_all;omega)
   exact tO
  refine .bp [.r [(1,X (Xl bk aj))]] (decide ((aj.length:Int)> 0)) (fun eE=> ?_) (fun eE=> ?_)
  ·obtain⟨mQ,kD⟩:=Fa oM;have Ho:∀x∈[(l.getD i default).aV],0<=x/\x<cz aj:=fun x hx=>by(have:=qv.1 hx;omega)
   refine .bp (let a:=(((l.getD i default)));[.r [(4,X (bV 185 (FW aj [a.aV] aM aM sM) (cg bC [a.aV] X0)))],.r [(4,Xv 1 (!false) (Xi bC (List.map (fun x=>dK aj x 0 0) [a.aV]) 0)),(5,Xv 1 (!false) X0),(6,Xv 1 (!false) X0),(7,X (b7 false))]]) (false||decide (((List.map (fun x=>dK aj x 0 0) [(((l.getD i default))).aV]).getD 0 default)< 0)) (fun fJ=> ?_) (fun fJ=> ?_)
   ·refine .back [.r [(0,X (Xn ((i:Int)+1)))]] [(40,40)] (cC ((i+1),o) ?_ ?_)
    ·refine⟨oM,?_⟩;rw[vw oM,<-I3.2];unfold j6 fB;simp only[qU,zF,za] at*
     (repeat' split)<;>first|rfl| (simp;done)| (exfalso;omega)| (exfalso;simp_all;done)| (exfalso;simp_all;omega)
    exact tO
   refine .back (let a:=(((l.getD i default)));[.r [(1,X (Xi bC (List.map (fun x=>dK aj x 0 0) [a.aV]) 0))],.r [(3,X (cg bg [({aF:=a.aF,aV:=((List.map (fun x=>dK aj x 0 0) [a.aV]).getD 0 default),text:=a.text,bh:=a.bh,ah:=a.ah}:Cell)] (fK 5 bg 40 o [({aF:=a.aF,aV:=((List.map (fun x=>dK aj x 0 0) [a.aV]).getD 0 default),text:=a.text,bh:=a.bh,ah:=a.ah}:Cell)])))],.r [(0,X (Xn ((i:Int)+1)))]]) [(40,40)] (cC ((i+1),(o++[({aF:=(((l.getD i default))).aF,aV:=((List.map (fun x=>dK aj x 0 0) [(((l.getD i default))).aV]).getD 0 default),text:=(((l.getD i default))).text,bh:=(((l.getD i default))).bh,ah:=(((l.getD i default))).ah}:Cell)])) ?_ ?_)
   ·refine⟨oM,?_⟩;rw[vw oM,<-I3.2];unfold j6 fB;simp only[qU,zF,za] at*
    (repeat' split)<;>first|rfl| (simp;done)| (exfalso;omega)| (exfalso;simp_all;done)| (exfalso;simp_all;omega)
   exact tO
  refine .back (let a:=(((l.getD i default)));[.r [(3,X (cg bg [a] (fK 5 bg 40 o [a])))],.r [(0,X (Xn ((i:Int)+1)))]]) [(40,40)] (cC ((i+1),(o++[(((l.getD i default)))])) ?_ ?_)
  ·refine⟨oM,?_⟩;rw[vw oM,<-I3.2];unfold j6 fB;simp only[qU,zF,za] at*
   (repeat' split)<;>first|rfl| (simp;done)| (exfalso;omega)| (exfalso;simp_all;done)| (exfalso;simp_all;omega)
  exact tO
 have e1:((dY l ak aj):List Cell)=o:=by
  rw[I3.2,qk oM]
 exact .aG [.r [],.le (.fr 6 [(o.length:Nat)=(List.map bg o).length] ⟨lm,trivial⟩)] [] (fun z0:List Cell=>(VL 5 bg z0,[])) _ _ e1
theorem x7c(l news:List Cell)(hl:l.length<=100000000000)(hn:news.length<=100000000000)(ha:w5 1000000000000 news):FC Tryz.prog 168 [VL 5 bg l,VL 5 bg news] (app emp []) (VL 5 bg (iy news l)) (app emp []):=by
 refine .go Tryz.f168 ?_;refine .len 0 (fun dQ=> ?_);refine .len 1 (fun gW=> ?_);refine .loop (α:=Nat×Nat×(List Cell)) [.r [],.r [],.r [],.r [(1,X (Xl bg news))],.le (.nR 5 5)] 49 (fun(i,k,o)=>([(0,VL 5 bg l),(5,.aF 48 o.length),(6,VI (i:Int)),(9,VL 5 bg news),(10,VI (news.length:Int)),(11,VI (k:Int))],[(48,OR 5 bg o)])) (fun(i,k,o)=>k<=news.length/\i<=l.length/\o.length<=i+k/\iy news l=o++iy (news.drop k) (l.drop i)) (fun(i,k,o)=>news.length-k) (0,0,[]) ?_ ?_
 ·exact⟨by omega,by omega,by simp,rfl⟩
 rintro⟨i,k,o⟩ I4 kJ;try dsimp only at I4
 refine .bp [.r []] (decide ((k:Int)< (news.length:Int))) (fun h4=> ?_) (fun h4=> ?_)
 ·have hm:=ha _ (Rh (l:=news) (i:=k) (by omega));refine .loop (α:=Nat×(List Cell)) [.r [(0,X (Xi bg news (k:Int)))]] 89 (fun(j,p)=>([(0,VL 5 bg l),(5,.aF 48 p.length),(6,VI (j:Int)),(8,.ptr 73 0),(9,VL 5 bg news),(10,VI (news.length:Int)),(11,VI (k:Int))],[(48,OR 5 bg p),(73,.box [VI (((news.getD k default)).aF),VI (((news.getD k default)).aV),VS (((news.getD k default)).text),VI (((news.getD k default)).bh),VL 2 aS (((news.getD k default)).ah)])])) (fun(j,p)=>j<=l.length/\p.length<=j+k/\iy news l=p++pH (news.getD k default) (iy (news.drop (k+1))) (l.drop j)) (fun(j,p)=>l.length-j) (i,o) ?_ ?_
  ·exact⟨by omega,by omega,by rw[I4.2.2.2,LL (l:=news) (by omega),iy]⟩
  rintro⟨j,p⟩ I6 FX;try dsimp only at I6
  skip
  refine .bp [.r [(2,X (Xl bg l)),(7,Xv 2 (decide ((j:Int)< (l.length:Int))) (Xi bg l (j:Int))),(8,Xv 1 (decide ((j:Int)< (l.length:Int))) X0),(10,Xv 2 (decide ((j:Int)< (l.length:Int))) (aW (IW ((l.getD j default)) ((news.getD k default))) X0)),(11,Xv 1 (decide ((j:Int)< (l.length:Int))) X0),(12,X (Xk (decide ((j:Int)< (l.length:Int)))))]] (decide ((j:Int)< (l.length:Int))&&decide ((eF ((l.getD j default)) ((news.getD k default)))< 0)) (fun h6=> ?_) (fun h6=> ?_)
  ·refine .back [.r [(3,X (Xi bg l (j:Int))),(6,X (cg bg [((l.getD j default))] (fK 5 bg 48 p [((l.getD j default))])))],.r [(1,X (Xn ((j:Int)+1)))]] [(48,48),(73,73)] (FX ((j+1),(p++[((l.getD j default))])) ?_ ?_)
   ·refine⟨by omega,by simp;omega,?_⟩;rw[I6.2.2,x69 (by omega) (by omega),qI];rfl
   ((try dsimp only);omega)
  refine .bp [.r [(2,X (Xl bg l)),(7,Xv 2 (decide ((j:Int)< (l.length:Int))) (Xi bg l (j:Int))),(8,Xv 1 (decide ((j:Int)< (l.length:Int))) X0),(10,Xv 2 (decide ((j:Int)< (l.length:Int))) (aW (IW ((l.getD j default)) ((news.getD k default))) X0)),(11,Xv 1 (decide ((j:Int)< (l.length:Int))) X0),(12,X (Xk (decide ((j:Int)< (l.length:Int)))))]] (decide ((j:Int)< (l.length:Int))&&((eF ((l.getD j default)) ((news.getD k default)))==0)) (fun h9=> ?_) (fun h9=> ?_)
  ·refine .bp [.r [(1,X (Xn ((j:Int)+1)))],.r [(1,X (aW (Rm ((news.getD k default))) X0))]] (!(kr ((news.getD k default)))) (fun gO=> ?_) (fun gO=> ?_)
   ·refine .back [.r [(2,X (bV 361 (z80 ((news.getD k default)) (by omega)) X0)),(4,X (cg bg [((news.getD k default))] (fK 5 bg 48 p [((news.getD k default))])))],.r [(0,X (Xn ((k:Int)+1)))]] [(48,48)] (kJ ((j+1),(k+1),(p++[((news.getD k default))])) ?_ ?_)
    ·refine⟨by omega,by omega,by((try simp only[qf,qi,zg]);omega),?_⟩;rw[I6.2.2]
     (first|rw[LM (by omega) (by omega)]|rw[LN (fun h=>by omega)])
     (first|rw[if_pos (by assumption)]|rw[if_neg (by simp_all)])
     simp
    ((try dsimp only);omega)
   refine .back [.r [(0,X (Xn ((k:Int)+1)))]] [(48,48)] (kJ ((j+1),(k+1),p) ?_ ?_)
   ·refine⟨by omega,by omega,by((try simp only[qf,qi,zg]);omega),?_⟩;rw[I6.2.2]
    (first|rw[LM (by omega) (by omega)]|rw[LN (fun h=>by omega)])
    (first|rw[if_pos (by assumption)]|rw[if_neg (by simp_all)])
    simp
   ((try dsimp only);omega)
  refine .bp [.r [(1,X (aW (Rm ((news.getD k default))) X0))]] (!(kr ((news.getD k default)))) (fun gO=> ?_) (fun gO=> ?_)
  ·refine .back [.r [(2,X (bV 337 (z80 ((news.getD k default)) (by omega)) X0)),(4,X (cg bg [((news.getD k default))] (fK 5 bg 48 p [((news.getD k default))])))],.r [(0,X (Xn ((k:Int)+1)))]] [(48,48)] (kJ (j,(k+1),(p++[((news.getD k default))])) ?_ ?_)
   ·refine⟨by omega,by omega,by((try simp only[qf,qi,zg]);omega),?_⟩;rw[I6.2.2]
    (first|rw[LM (by omega) (by omega)]|rw[LN (fun h=>by omega)])
    (first|rw[if_pos (by assumption)]|rw[if_neg (by simp_all)])
    simp
   ((try dsimp only);omega)
  refine .back [.r [(0,X (Xn ((k:Int)+1)))]] [(48,48)] (kJ (j,(k+1),p) ?_ ?_)
  ·refine⟨by omega,by omega,by((try simp only[qf,qi,zg]);omega),?_⟩;rw[I6.2.2]
   (first|rw[LM (by omega) (by omega)]|rw[LN (fun h=>by omega)])
   (first|rw[if_pos (by assumption)]|rw[if_neg (by simp_all)])
   simp
  ((try dsimp only);omega)
 have e1:((iy news l):List Cell)=(o++(l.drop i)):=by
  rw[I4.2.2.2,XX (l:=news) (by omega),iy]
 exact .aG [.r [(3,X (y7 bg 5 l (i:Int))),(4,X (fK 5 bg 48 o (l.drop i)))],.le (.fr 4 [(((o++(l.drop i)).length):Nat)=(List.map bg (o++(l.drop i))).length] ⟨lm,trivial⟩)] [] (fun z0:List Cell=>(VL 5 bg z0,[])) _ _ e1
theorem Yb(x:aX)(hm:x.aH=[])(Rp:pJ x.cells):FC Tryz.prog 63 [.t (Ea x)] (app emp []) (VI (jI x)) (app emp []):=by
 refine .go Tryz.f63 ?_;have hl:x.aH.length=0:=by rw[hm];rfl
 refine .bp (let a:=decide (x.ak<0)||decide (x.ak>2147483647);let b:=a||decide (x.aj<0);let c:=decide (x.ak<0);[.r [],.r [(5,Xv 1 (!c) X0),(6,Xv 1 (!c) X0),(7,X (b7 c)),(10,Xv 1 (!a) X0),(11,Xv 1 (!a) X0),(12,X (b7 a)),(15,Xv 1 (!b) X0),(16,Xv 1 (!b) X0),(17,X (b7 b))]]) (((decide (x.ak<0)||decide (x.ak>2147483647))||decide (x.aj<0))||decide (x.aj>2147483647)) (fun h1=> ?_) (fun h1=> ?_)
 ·have e1:((jI x):Int)=2:=by
   unfold jI;rw[if_pos oM]
  exact .aG [.r []] [] (fun z0:Int=>(VI z0,[])) _ _ e1
 refine .bp [.r [(6,X (aW (X9 x.cells x.ak x.aj false aM) X0))],.r []] ((iO x.cells x.ak x.aj false 0) !=0) (fun h4=> ?_) (fun h4=> ?_)
 ·have e2:((jI x):Int)=(iO x.cells x.ak x.aj false 0):=by
   unfold jI;rw[if_neg oM,if_pos oM]
  exact .aG [.r []] [] (fun z0:Int=>(VI z0,[])) _ _ e2
 refine .loop (α:=Nat) [.r [(2,X (Xl bE x.aH))]] 272 (fun i=>([(1,.ptr 0 0),(35,VL 4 bE x.aH),(36,VI (x.aH.length:Int)),(37,VI (i:Int))],[(0,.box [VI x.ak,VI x.aj,VL 5 bg x.cells,VL 4 bE x.aH])])) (fun i=>i=0) (fun i=>0) (0:Nat) ?_ ?_
 ·rfl
 rintro i I7 wP;try dsimp only at I7
 refine .bp [.r []] (decide ((i:Int)< (x.aH.length:Int))) (fun h7=> ?_) (fun h7=> ?_)
 ·exfalso;omega
 have e3:((jI x):Int)=0:=by
  unfold jI;rw[if_neg oM,if_neg oM,IU,if_neg oM]
 exact .aG [.r []] [] (fun z0:Int=>(VI z0,[])) _ _ e3
theorem LV(e:bP)(hl:mz e):FC Tryz.prog 89 [.t (rW e)] (app emp []) (VI (jF e)) (app emp []):=by
 refine .go Tryz.f89 ?_;have h1:=hl.sp;have h2:=hl.me;have Rp:=hl.tx;have g1:z55 e.split 2147483647 2147483647 0=0:=by rw[z55,if_neg oM]
 have g2:CL e.merge 2147483647 2147483647 0=0:=by rw[CL,if_neg oM]
 refine .bp [.r [],.r [],.u,.r [],.t,.r [(0,X (Xa (Xc ((0:Int)<=0)) (Xc ((0:Int)< ((2:Nat):Int)))) ⟨dM,dM⟩)],.r [(1,X (aW (Ae e.ak) X0))],.r []] ((jT e.ak) !=0) (fun h5=> ?_) (fun h5=> ?_)
 ·have e1:((jF e):Int)=(jT e.ak):=by
   unfold jF;(repeat' split)<;>omega
  exact .aG [.r []] [] (fun z0:Int=>(VI z0,[])) _ _ e1
 refine .bp [.r [],.u,.r [],.t,.r [(0,X (Xa (Xc ((0:Int)<=1)) (Xc ((1:Int)< ((2:Nat):Int)))) ⟨dM,dM⟩)],.r [(1,X (aW (Ae e.aj) X0))],.r []] ((jT e.aj) !=0) (fun h5=> ?_) (fun h5=> ?_)
 ·have e2:((jF e):Int)=(jT e.aj):=by
   unfold jF;(repeat' split)<;>omega
  exact .aG [.r []] [] (fun z0:Int=>(VI z0,[])) _ _ e2
 refine .bp [.r [],.u,.r [],.f,.r [(2,X (aW (X9 e.cells 2147483647 2147483647 true aM) X0))],.r []] ((iO e.cells 2147483647 2147483647 true 0) !=0) (fun h9=> ?_) (fun h9=> ?_)
 ·have e3:((jF e):Int)=(iO e.cells 2147483647 2147483647 true 0):=by
   unfold jF;(repeat' split)<;>omega
  exact .aG [.r []] [] (fun z0:Int=>(VI z0,[])) _ _ e3
 refine .loop (α:=Nat) [.r [],.u,.r [],.t,.r [(1,X (Xa (Xc ((0:Int)<=0)) (Xc ((0:Int)< ((2:Nat):Int)))) ⟨dM,dM⟩)],.r [(1,X (Xl bE e.split))]] 392 (fun j=>([(7,VI 0),(35,.t (.agg [TL 4 bE e.split,TL 4 bE e.merge])),(36,VI 0),(40,VL 4 bE e.split),(41,VI (e.split.length:Int)),(42,VI (j:Int))],[])) (fun j=>j=0) (fun j=>0) (0:Nat) ?_ ?_
 ·rfl
 rintro j Rq Rr;try dsimp only at Rq
 refine .bp [.r []] (decide ((j:Int)< (e.split.length:Int))) (fun ni=> ?_) (fun ni=> ?_)
 ·exfalso;omega
 refine .loop (α:=Nat) [.r [],.u,.r [],.t,.r [(1,X (Xa (Xc ((0:Int)<=1)) (Xc ((1:Int)< ((2:Nat):Int)))) ⟨dM,dM⟩)],.r [(1,X (Xl bE e.merge))]] 480 (fun j=>([(7,VI 1),(35,.t (.agg [TL 4 bE e.split,TL 4 bE e.merge])),(36,VI 1),(40,VL 4 bE e.merge),(41,VI (e.merge.length:Int)),(42,VI (j:Int))],[])) (fun j=>j=0) (fun j=>0) (0:Nat) ?_ ?_
 ·rfl
 rintro j Rq Rr;try dsimp only at Rq
 refine .bp [.r []] (decide ((j:Int)< (e.merge.length:Int))) (fun ni=> ?_) (fun ni=> ?_)
 ·exfalso;omega
 have e4:((jF e):Int)=0:=by
  unfold jF;(repeat' split)<;>omega
 exact .aG [.r [],.u,.r [],.f,.r []] [] (fun z0:Int=>(VI z0,[])) _ _ e4
theorem x7d(x:aX)(e:bP)(hm:x.aH=[])(Qf:pJ x.cells)(hl:mz e):FC Tryz.prog 166 [.t (Ea x),.t (rW e)] (app emp []) (.aZ [VI (vz x e),VI (vA x e),VI (gX x e)]) (app emp []):=by
 refine .go Tryz.f166 ?_;have q1:=hl.sp;have q2:=hl.me;have q3:=hl.ln;have vT:0<e.ak.length->jF e=0->eR e.ak:=fun _ h=>(LQ h).w6
 have hvc:0<e.aj.length->jF e=0->eR e.aj:=fun _ h=>(LQ h).w8
 refine .bp [.r [],.r [(1,X (aW (Yb x aM aM) X0))],.r []] ((jI x) !=0) (fun h2=> ?_) (fun h2=> ?_)
 ·have T:=x9g (e:=e) h2;have e1:((vz x e):Int)=0:=by
   exact T.1
  have e2:((vA x e):Int)=0:=by
   exact T.2.1
  have e3:((gX x e):Int)=(jI x):=by
   exact T.2.2
  exact .aG [.r []] [] (fun((z0,z1,z2):Int×Int×Int)=>(.aZ [VI z0,VI z1,VI z2],[])) _ _ (pr e1 (pr e2 e3))
 refine .bp [.r [(1,X (aW (LV e aM) X0))],.r []] ((jF e) !=0) (fun h5=> ?_) (fun h5=> ?_)
 ·have T:=x9h oM h5;have e4:((vz x e):Int)=0:=by
   exact T.1
  have e5:((vA x e):Int)=0:=by
   exact T.2.1
  have e6:((gX x e):Int)=(jF e):=by
   exact T.2.2
  exact .aG [.r []] [] (fun((z0,z1,z2):Int×Int×Int)=>(.aZ [VI z0,VI z1,VI z2],[])) _ _ (pr e4 (pr e5 e6))
 have rz:0<e.ak.length->eR e.ak:=fun h=>vT h oM
 have mQ:0<e.aj.length->eR e.aj:=fun h=>hvc h oM
 refine .bp (let a:=!(decide (0< (e.ak).length->cz e.ak=x.ak));[.r [(4,X (aW (LU x.ak e.ak aM) X0))],.r [(4,X (aW (LU x.aj e.aj aM) X0))],.r [(4,Xv 1 (!a) X0),(5,X (b7 a))]]) (!(decide (0< (e.ak).length->cz e.ak=x.ak))|| !(decide (0< (e.aj).length->cz e.aj=x.aj))) (fun h9=> ?_) (fun h9=> ?_)
 ·have T:=x9i oM oM h9;have e7:((vz x e):Int)=0:=by
   exact T.1
  have e8:((vA x e):Int)=0:=by
   exact T.2.1
  have e9:((gX x e):Int)=14:=by
   exact T.2.2
  exact .aG [.r []] [] (fun((z0,z1,z2):Int×Int×Int)=>(.aZ [VI z0,VI z1,VI z2],[])) _ _ (pr e7 (pr e8 e9))
 refine .loop (α:=Nat) [.r [(2,X (Xl bg e.cells))]] 360 (fun i=>([(3,.ptr 8 0),(9,VI (if 0< (e.ak).length then eS e.ak else x.ak)),(11,VI (if 0< (e.aj).length then eS e.aj else x.aj)),(52,VL 5 bg e.cells),(53,VI (e.cells.length:Int)),(54,VI (i:Int))],[(8,.box [VL 2 bk e.ak,VL 2 bk e.aj,VL 5 bg e.cells,VL 4 bE e.split,VL 4 bE e.merge])])) (fun i=>i<=e.cells.length/\sg e.cells (if 0< (e.ak).length then eS e.ak else x.ak) (if 0< (e.aj).length then eS e.aj else x.aj) 0=sg e.cells (if 0< (e.ak).length then eS e.ak else x.ak) (if 0< (e.aj).length then eS e.aj else x.aj) i) (fun i=>e.cells.length-i) (0:Nat) ?_ ?_
 ·exact⟨oM,rfl⟩
 rintro i Cs AT;try dsimp only at Cs
 refine .bp [.r []] (decide ((i:Int)< (e.cells.length:Int))) (fun fJ=> ?_) (fun fJ=> ?_)
 ·refine .bp (let a:=decide ((((e.cells.getD i default)).aF)>=(if 0< (e.ak).length then eS e.ak else x.ak));[.r [(0,X (Xi bg e.cells (i:Int)))],.r [(6,Xv 1 (!a) X0),(8,Xv 2 (!a) X0),(9,X (b7 a))]]) (decide ((((e.cells.getD i default)).aF)>=(if 0< (e.ak).length then eS e.ak else x.ak))||decide ((((e.cells.getD i default)).aV)>=(if 0< (e.aj).length then eS e.aj else x.aj))) (fun eN=> ?_) (fun eN=> ?_)
  ·have kV:sg e.cells (if 0< (e.ak).length then eS e.ak else x.ak) (if 0< (e.aj).length then eS e.aj else x.aj) 0=2:=by rw[Cs.2,sg,if_pos oM,if_pos oM]
   have T:=x9j oM oM h9 q1 q2 kV;have kE:((vz x e):Int)=0:=by
    exact T.1
   have lg:((vA x e):Int)=0:=by
    exact T.2.1
   have lu:((gX x e):Int)=2:=by
    exact T.2.2
   exact .aG [.r []] [] (fun((z0,z1,z2):Int×Int×Int)=>(.aZ [VI z0,VI z1,VI z2],[])) _ _ (pr kE (pr lg lu))
  refine .back [.r [(0,X (Xn ((i:Int)+1)))]] [(8,8)] (AT ((i+1):Nat) ?_ ?_)
  ·refine⟨oM,?_⟩;rw[Cs.2,sg,if_pos oM,if_neg oM]
  exact tO
 refine .loop (α:=Nat) [.r [],.u,.r [],.t,.r [(0,X (Xa (Xc ((0:Int)<=0)) (Xc ((0:Int)< ((2:Nat):Int)))) ⟨dM,dM⟩)],.r [(1,X (Xl bE e.split))]] 464 (fun j=>([(9,VI (if 0< (e.ak).length then eS e.ak else x.ak)),(11,VI (if 0< (e.aj).length then eS e.aj else x.aj)),(73,.t (.agg [TL 4 bE e.split,TL 4 bE e.merge])),(74,VI 0),(77,VL 4 bE e.split),(78,VI (e.split.length:Int)),(79,VI (j:Int))],[])) (fun j=>j=0) (fun j=>0) (0:Nat) ?_ ?_
 ·rfl
 rintro j Rs Rt;try dsimp only at Rs
 refine .bp [.r []] (decide ((j:Int)< (e.split.length:Int))) (fun Ru=> ?_) (fun Ru=> ?_)
 ·exfalso;omega
 refine .loop (α:=Nat) [.r [],.u,.r [],.t,.r [(0,X (Xa (Xc ((0:Int)<=1)) (Xc ((1:Int)< ((2:Nat):Int)))) ⟨dM,dM⟩)],.r [(1,X (Xl bE e.merge))]] 536 (fun j=>([(9,VI (if 0< (e.ak).length then eS e.ak else x.ak)),(11,VI (if 0< (e.aj).length then eS e.aj else x.aj)),(73,.t (.agg [TL 4 bE e.split,TL 4 bE e.merge])),(74,VI 1),(77,VL 4 bE e.merge),(78,VI (e.merge.length:Int)),(79,VI (j:Int))],[])) (fun j=>j=0) (fun j=>0) (0:Nat) ?_ ?_
 ·rfl
 rintro j Rs Rt;try dsimp only at Rs
 refine .bp [.r []] (decide ((j:Int)< (e.merge.length:Int))) (fun Ru=> ?_) (fun Ru=> ?_)
 ·exfalso;omega
 have kV:sg e.cells (if 0< (e.ak).length then eS e.ak else x.ak) (if 0< (e.aj).length then eS e.aj else x.aj) 0=0:=by rw[Cs.2,sg,if_neg oM]
 have T:=x9k oM oM h9 q1 q2 kV;have nP:((vz x e):Int)=(if 0< (e.ak).length then eS e.ak else x.ak):=by
  exact T.1
 have nQ:((vA x e):Int)=(if 0< (e.aj).length then eS e.aj else x.aj):=by
  exact T.2.1
 have pY:((gX x e):Int)=0:=by
  exact T.2.2
 exact .aG [.r [],.u,.r [],.f,.r []] [] (fun((z0,z1,z2):Int×Int×Int)=>(.aZ [VI z0,VI z1,VI z2],[])) _ _ (pr nP (pr nQ pY))
theorem x9l(x:aX)(e:bP)(hm:x.aH=[])(Qf:pJ x.cells)(hl:mz e):FC Tryz.prog 107 [.t (Ea x),.t (rW e)] (app emp []) (VI (gX x e)) (app emp []):=by
 refine .go Tryz.f107 ?_;exact .fin [.r [],.r [(2,X (aW (x7d x e aM aM aM) X0))],.r []] []
theorem x7e:FC Tryz.prog 257 [.t (.sc (.int .u64 0))] (app emp []) (VI 0) (app emp []):=by
 refine .go Tryz.f257 ?_;have e1:((0+(((((({data:=#[0,1,2,2,3,3,3,3,4,4,4,4,4,4,4,4,5,5,5,5,5,5,5,5,5,5,5,5,5,5,5,5,6,6,6,6,6,6,6,6,6,6,6,6,6,6,6,6,6,6,6,6,6,6,6,6,6,6,6,6,6,6,6,6,7,7,7,7,7,7,7,7,7,7,7,7,7,7,7,7,7,7,7,7,7,7,7,7,7,7,7,7,7,7,7,7,7,7,7,7,7,7,7,7,7,7,7,7,7,7,7,7,7,7,7,7,7,7,7,7,7,7,7,7,7,7,7,7,8,8,8,8,8,8,8,8,8,8,8,8,8,8,8,8,8,8,8,8,8,8,8,8,8,8,8,8,8,8,8,8,8,8,8,8,8,8,8,8,8,8,8,8,8,8,8,8,8,8,8,8,8,8,8,8,8,8,8,8,8,8,8,8,8,8,8,8,8,8,8,8,8,8,8,8,8,8,8,8,8,8,8,8,8,8,8,8,8,8,8,8,8,8,8,8,8,8,8,8,8,8,8,8,8,8,8,8,8,8,8,8,8,8,8,8,8,8,8,8,8,8,8,8,8,8,8,8]}):ByteArray)[(Int.toNat (IntKind.u8.wrap 0))]?).getD 0).toNat:Nat):Int)):Int)=0:=by
  decide+kernel
 exact .aG (let a:=(({data:=#[0,1,2,2,3,3,3,3,4,4,4,4,4,4,4,4,5,5,5,5,5,5,5,5,5,5,5,5,5,5,5,5,6,6,6,6,6,6,6,6,6,6,6,6,6,6,6,6,6,6,6,6,6,6,6,6,6,6,6,6,6,6,6,6,7,7,7,7,7,7,7,7,7,7,7,7,7,7,7,7,7,7,7,7,7,7,7,7,7,7,7,7,7,7,7,7,7,7,7,7,7,7,7,7,7,7,7,7,7,7,7,7,7,7,7,7,7,7,7,7,7,7,7,7,7,7,7,7,8,8,8,8,8,8,8,8,8,8,8,8,8,8,8,8,8,8,8,8,8,8,8,8,8,8,8,8,8,8,8,8,8,8,8,8,8,8,8,8,8,8,8,8,8,8,8,8,8,8,8,8,8,8,8,8,8,8,8,8,8,8,8,8,8,8,8,8,8,8,8,8,8,8,8,8,8,8,8,8,8,8,8,8,8,8,8,8,8,8,8,8,8,8,8,8,8,8,8,8,8,8,8,8,8,8,8,8,8,8,8,8,8,8,8,8,8,8,8,8,8,8,8,8,8,8,8,8]}):ByteArray);let b:=((((a[(Int.toNat (IntKind.u8.wrap 0))]?).getD 0).toNat:Nat):Int);[.r [],.r [],.f,.r [],.f,.r [],.f,.r [(3,X (Xb a (IntKind.u8.wrap 0)) ⟨dM,(by decide+kernel)⟩),(4,X (Xn b) (by decide+kernel)),(5,X (Xn (0+b)) (by decide+kernel))]]) [] (fun z0:Int=>(VI z0,[])) _ _ e1.symm
theorem w0V:FC Tryz.prog 217 [.t (.sc (.int .u64 0))] (app emp []) (VI 0) (app emp []):=by
 refine .go Tryz.f217 ?_;exact .fin [.r [],.f,.r [(1,X (aW x7e X0))]] []
theorem x4e:FC Tryz.prog 248 [VL 4 bE ([]:List eo),VI 0,VI 0,.fn 174 []] (app emp []) (.aZ []) (app emp []):=by
 refine .go Tryz.f248 ?_;refine .len 0 (fun dQ=> ?_);refine .loop (α:=Int) [.r []] 24 (fun v8=>([(0,VL 4 bE ([]:List eo)),(1,VI 0),(2,VI 0),(3,.fn 174 []),(8,VI v8)],[])) (fun v8=>0<=v8) (fun v8=>0) (1:Int) ?_ ?_
 ·decide
 rintro v8 I1 xY;try dsimp only at I1
 refine .bp [.r []] (decide (v8<0)) (fun h1=> ?_) (fun h1=> ?_)
 ·exfalso;omega
 exact .fin [] []
theorem x4f:FC Tryz.prog 216 [VL 4 bE ([]:List eo),VI 0,VI 0,VI 0,.fn 174 []] (app emp []) (.aZ []) (app emp []):=by
 refine .go Tryz.f216 ?_;refine .len 0 (fun dQ=> ?_);exact .fin [.r [],.r [],.u,.r [],.r [],.t,.r [(4,X (aW x4e X0))]] []
theorem x04:FC Tryz.prog 173 [VL 4 bE ([]:List eo),.fn 174 []] (app emp []) (.aZ []) (app emp []):=by
 refine .go Tryz.f173 ?_;refine .len 0 (fun dQ=> ?_);exact .fin [.r [(1,X (Xl bE ([]:List eo)))],.le (.eq 4 (VI (([]:List eo).length:Int)) (VI 0) (.of_eq rfl)),.r [(3,X (Lj IntKind.u64 0) dM),(4,X (aW w0V X0)),(6,X (aW x4f X0))]] []
theorem x7f(x:aX)(e:bP)(hi:oU x e):FC Tryz.prog 108 [.t (Ea x),.t (rW e)] (app emp []) (.t (Ea (kg x e))) (app emp []):=by
 refine .go Tryz.f108 ?_;obtain⟨vr,vk,l1,l2,a1,a2,p1,p2,hq,hm⟩:=hi;have hml:=Af x.cells e.ak e.aj;refine .loop (α:=Nat) [.r [],.r [(4,X (aW (LU x.ak e.ak aM) X0))],.r [(4,X (aW (LU x.aj e.aj aM) X0))],.r [(8,X (bV 248 (Ya x.cells e.ak e.aj oM aM aM aM) X0)),(11,X (bV 272 (x7c (dY x.cells e.ak e.aj) e.cells oM oM aM) X0)),(12,X (Xf [(3,4)]))],.r [(2,X (Xl bE x.aH))]] 336 (fun i=>([(3,.ptr 8 0),(4,.ptr 16 0),(9,.ptr 288 0),(46,VL 4 bE x.aH),(47,VI (x.aH.length:Int)),(48,VI (i:Int))],[(8,.box [VL 2 bk e.ak,VL 2 bk e.aj,VL 5 bg e.cells,VL 4 bE e.split,VL 4 bE e.merge]),(16,.box [VI 0,VI 0,VN,VN]),(288,.box [VI (if 0< (e.ak).length then eS e.ak else x.ak),VI (if 0< (e.aj).length then eS e.aj else x.aj),VL 5 bg (iy e.cells (dY x.cells e.ak e.aj)),VL 4 bE []])])) (fun i=>i=0) (fun i=>0) (0:Nat) ?_ ?_
 ·rfl
 rintro i I5 mR;try dsimp only at I5
 refine .bp [.r []] (decide ((i:Int)< (x.aH.length:Int))) (fun h5=> ?_) (fun h5=> ?_)
 ·exfalso;omega
 refine .loop (α:=Nat) [.r [(2,X (Xl bE e.merge))]] 376 (fun j=>([(4,.ptr 16 0),(9,.ptr 288 0),(77,VL 4 bE e.merge),(78,VI (e.merge.length:Int)),(79,VI (j:Int))],[(16,.box [VI 0,VI 0,VN,VN]),(288,.box [VI (if 0< (e.ak).length then eS e.ak else x.ak),VI (if 0< (e.aj).length then eS e.aj else x.aj),VL 5 bg (iy e.cells (dY x.cells e.ak e.aj)),VL 4 bE []])])) (fun j=>j=0) (fun j=>0) (0:Nat) ?_ ?_
 ·rfl
 rintro j Cs AT;try dsimp only at Cs
 refine .bp [.r []] (decide ((j:Int)< (e.merge.length:Int))) (fun fJ=> ?_) (fun fJ=> ?_)
 ·exfalso;omega
 have e1:((kg x e):aX)=({ak:=(if 0< (e.ak).length then eS e.ak else x.ak),aj:=(if 0< (e.aj).length then eS e.aj else x.aj),cells:=(iy e.cells (dY x.cells e.ak e.aj)),aH:=[]}:aX):=by
  rfl
 exact .bA [.r [(2,X (aW x04 X0))],.r []] [] [] (fun z0:aX=>(.t (Ea z0),[])) _ _ e1
end Go.Ch
end
section

end
section
namespace Go.Ch
open Go Go.Ab
structure Node where
 id:Int
 af:Int
 ah:List aI
 aD:List aL
 az:aX
 draw:List fN
instance:Inhabited Node:=⟨⟨0,0,[],[],default,[]⟩⟩
def bz(n:Node):Tree:= .agg [TI n.id,TI n.af,.bX 2 (n.ah.map aS),.bX 3 (n.aD.map aU),TI n.az.ak,TI n.az.aj,.bX 5 (n.az.cells.map bg),.bX 4 (n.az.aH.map bE),.bX 8 (n.draw.map cm)]
structure Doc where
 aq:List Node
instance:Inhabited Doc:=⟨⟨[]⟩⟩
def gU(d:Doc):Tree:= .agg [.bX 9 (d.aq.map bz)]
def eX(k:Int):Bool:=((k==1||k==3)||k==4)||k==12
def nh(k:Int):Bool:=k==0||k==7
def jX(k:Int):Bool:=k==2||k==6
def rY(k:Int):Bool:=(k==8||k==9)||k==10
def ye(g:aX):Bool:=((g.ak==0&&g.aj==0)&&(g.cells.length:Int)==0)&&(g.aH.length:Int)==0
def gz(p k:Int):Bool:=
 if k=1\/k=6\/k=7\/k=11\/k=12 then p==0
 else if k=10 then(p==0||p==1)||p==3
 else if k=2 then p==1
 else if k=4 then p==1||p==3
 else if k=5 then eX p
 else if k=3 then p==2
 else if k=8\/k=9 then p==7
 else false
def pK(t:Bool)(f:List aL)(i:Nat):Int:=
 if i<f.length then
  (if gC (f.getD i default)≠0 then gC (f.getD i default) else if t=false/\(f.getD i default).bh=0 then 8 else pK t f (i+1))
 else 0
termination_by f.length-i
def vB(t:Bool)(f:List aL):Int:=
 if pK t f 0≠0 then pK t f 0 else if t=true/\(f.length=0\/(f.getD (f.length- 1) default).aT≠10) then 11 else 0
theorem Yc{t:Bool}{f:List aL}{i:Nat}(h:i<f.length)(he:gC (f.getD i default)≠0):pK t f i=gC (f.getD i default):=by rw[pK,if_pos h,if_pos he]
theorem Yd{t:Bool}{f:List aL}{i:Nat}(h:i<f.length)(he:gC (f.getD i default)=0)(hk:t=false/\(f.getD i default).bh=0):pK t f i=8:=by rw[pK,if_pos h,if_neg (fun q=>q he),if_pos hk]
theorem Ye{t:Bool}{f:List aL}{i:Nat}(h:i<f.length)(he:gC (f.getD i default)=0)(hk:t=true\/(f.getD i default).bh≠0):pK t f i=pK t f (i+1):=by
 rw[pK,if_pos h,if_neg (fun q=>q he),if_neg];rintro⟨a,b⟩;rcases hk with q|q
 ·rw[a] at q;cases q
 exact q b
theorem Yf{t:Bool}{f:List aL}{i:Nat}(h:¬i<f.length):pK t f i=0:=by rw[pK,if_neg h]
theorem Rv{t:Bool}{f:List aL}{e:Int}(h:pK t f 0=e)(he:e≠0):vB t f=e:=by unfold vB;rw[h,if_pos he]
theorem Rw{t:Bool}{f:List aL}(h:pK t f 0=0):vB t f=if t=true/\(f.length=0\/(f.getD (f.length- 1) default).aT≠10) then 11 else 0:=by unfold vB;rw[h,if_neg (fun q=>q rfl)]
def z28(k:Int)(l:List Cell)(i:Nat):Int:=
 if i<l.length then
  (if(k=2/\(seq (l.getD i default).text {data:=#[]}=false\/0< (l.getD i default).ah.length))\/(k=6/\(l.getD i default).bh≠0) then 4 else z28 k l (i+1))
 else 0
termination_by l.length-i
def fT(n:Node):Int:=
 if n.id<1\/1073741824<n.id then 2
 else if n.af<0\/12<n.af\/(n.id=1/\n.af≠0)\/(n.id≠1/\n.af=0) then 8
 else if dO false n.ah 0≠0 then dO false n.ah 0
 else if(0<n.aD.length/\eX n.af=false/\nh n.af=false)\/(ye n.az=false/\jX n.af=false)\/(0<n.draw.length/\rY n.af=false) then 4
 else if eX n.af=true\/nh n.af=true then vB (eX n.af) n.aD
 else if jX n.af=true then(if jI n.az≠0 then jI n.az else z28 n.af n.az.cells 0)
 else lX n.draw 0
def kN(l:List Node)(k:Int)(i:Nat):Int:=if i<l.length then(if(l.getD i default).id=k then(i:Int) else kN l k (i+1)) else-1
termination_by l.length-i
def mo(f:List aL):List Int:=f.filterMap fun x=>if x.bh≠0 then some x.bh else none
def CM(l:List Cell):List Int:=l.filterMap fun x=>if x.bh≠0 then some x.bh else none
def lG(n:Node):List Int:=mo n.aD++CM n.az.cells
def gI(l:List Node)(k:Int)(rs:List Int)(i:Nat):Int:=
 if i<rs.length then
  (if kN l (rs.getD i default) 0<0 then 7
   else if gz k (l.getD (kN l (rs.getD i default) 0).toNat default).af=false then 8
   else gI l k rs (i+1))
 else 0
termination_by rs.length-i
def nv(l:List Node)(i:Nat):Int:=
 if i<l.length then
  (if fT (l.getD i default)≠0 then fT (l.getD i default)
   else if(i=0/\(l.getD 0 default).id≠1)\/(0<i/\(l.getD i default).id<=(l.getD (i- 1) default).id) then 5
   else nv l (i+1))
 else 0
termination_by l.length-i
def sL(l:List Node)(i:Nat):Int:=
 if i<l.length then
  (if gI l (l.getD i default).af (lG (l.getD i default)) 0≠0 then gI l (l.getD i default).af (lG (l.getD i default)) 0 else sL l (i+1))
 else 0
termination_by l.length-i
def ez(d:Doc):Int:=
 if d.aq.length=0 then 11
 else if nv d.aq 0≠0 then nv d.aq 0
 else sL d.aq 0
theorem y83{l:List Node}{i:Nat}(h:i<l.length)(he:fT (l.getD i default)≠0):nv l i=fT (l.getD i default):=by rw[nv,if_pos h,if_pos he]
theorem y84{l:List Node}{i:Nat}(h:i<l.length)(he:fT (l.getD i default)=0)(ho:(i=0/\(l.getD 0 default).id≠1)\/(0<i/\(l.getD i default).id<=(l.getD (i- 1) default).id)):nv l i=5:=by rw[nv,if_pos h,if_neg (fun q=>q he),if_pos ho]
theorem y5D{l:List Node}{i:Nat}(h:i<l.length)(he:fT (l.getD i default)=0)(ho:¬((i=0/\(l.getD 0 default).id≠1)\/(0<i/\(l.getD i default).id<=(l.getD (i- 1) default).id))):nv l i=nv l (i+1):=by rw[nv,if_pos h,if_neg (fun q=>q he),if_neg ho]
theorem z76{l:List Node}{i:Nat}(h:¬i<l.length):nv l i=0:=by rw[nv,if_neg h]
theorem x4g{l:List Node}{i:Nat}(h:i<l.length)(he:gI l (l.getD i default).af (lG (l.getD i default)) 0≠0):sL l i=gI l (l.getD i default).af (lG (l.getD i default)) 0:=by rw[sL,if_pos h,if_pos he]
theorem x05{l:List Node}{i:Nat}(h:i<l.length)(he:gI l (l.getD i default).af (lG (l.getD i default)) 0=0):sL l i=sL l (i+1):=by rw[sL,if_pos h,if_neg (fun q=>q he)]
theorem x4h{l:List Node}{i:Nat}(h:¬i<l.length):sL l i=0:=by rw[sL,if_neg h]
theorem Yg{d:Doc}(h:d.aq.length=0):ez d=11:=by unfold ez;rw[if_pos h]
theorem Yh{d:Doc}(h:¬d.aq.length=0){e:Int}(he:nv d.aq 0=e)(hn:e≠0):ez d=e:=by unfold ez;rw[if_neg h,he,if_pos hn]
theorem Yi{d:Doc}(h:¬d.aq.length=0){e:Int}(he:nv d.aq 0=0)(hr:sL d.aq 0=e):ez d=e:=by unfold ez;rw[if_neg h,he,if_neg (fun q=>q rfl),hr]
theorem y85{l:List Node}{k:Int}{rs:List Int}{i:Nat}(h:i<rs.length)(he:kN l (rs.getD i default) 0<0):gI l k rs i=7:=by rw[gI,if_pos h,if_pos he]
theorem y86{l:List Node}{k:Int}{rs:List Int}{i:Nat}(h:i<rs.length)(he:0<=kN l (rs.getD i default) 0)(hp:gz k (l.getD (kN l (rs.getD i default) 0).toNat default).af=false):gI l k rs i=8:=by rw[gI,if_pos h,if_neg oM,if_pos hp]
theorem y87{l:List Node}{k:Int}{rs:List Int}{i:Nat}(h:i<rs.length)(he:0<=kN l (rs.getD i default) 0)(hp:gz k (l.getD (kN l (rs.getD i default) 0).toNat default).af=true):gI l k rs i=gI l k rs (i+1):=by rw[gI,if_pos h,if_neg oM,if_neg (by rw[hp];decide)]
theorem x06{l:List Node}{k:Int}{rs:List Int}{i:Nat}(h:¬i<rs.length):gI l k rs i=0:=by rw[gI,if_neg h]
structure kf(n:Node):Prop where
 uA:Lr n.ah
 l6:n.ah.length<=1048576
 fl1:SzE n.aD
 LW:n.aD.length<=1048576
 Yj:∀x∈n.aD,x.ah.length<=1048576
 ce1:SzC n.az.cells
 LX:n.az.cells.length<=1048576
 Yk:∀c∈n.az.cells,c.ah.length<=1048576
 me:n.az.aH.length<=1048576
 Rx:n.draw.length<=1048576
 dr2:∀o∈n.draw,o.nu.size<=1048576/\o.nm.size<=1048576/\o.vl.size<=1048576
def Ry(n:Node):Nat:=n.aD.length+n.az.cells.length+n.draw.length
def FY(l:List Node):Nat:=(l.map Ry).sum
structure DocB(d:Doc):Prop where
 len:d.aq.length<=1048576
 all:∀n∈d.aq,kf n
 sum:FY d.aq<=1048576
theorem FZ{l:List Node}{i:Nat}(h:i<l.length):l.getD i default∈l:=fE h
theorem LY{α β:Type}[Inhabited α]{l:List α}{i:Nat}(g:α->Option β)(h:i<l.length):(l.take (i+1)).filterMap g=(l.take i).filterMap g++(g (l.getD i default)).toList:=by
 have e:l.getD i default=l[i]:=by rw[qd,qa h];rfl
 rw[qt h,List.filterMap_append,e];congr 1
end Go.Ch
end
section
set_option maxRecDepth 100000
set_option maxHeartbeats 4000000
open Go Go.Proofs Go.Ab
namespace Go.Ch
theorem z82(k:Int):FC Tryz.prog 58 [VI k] (app emp []) (VB (eX k)) (app emp []):=by
 refine .go Tryz.f58 ?_;have e1:((eX k):Bool)=((((k==1)|| (k==3))|| (k==4))|| (k==12)):=by
  rfl
 exact .aG (let a:=(k==1)|| (k==3);[.r [],.r [(4,Xv 1 (!(k==1)) X0),(5,X (b7 (k==1))),(8,Xv 1 (!a) X0),(9,X (b7 a)),(12,Xv 1 (!(a|| (k==4))) X0),(13,X (b7 (a|| (k==4))))]]) [] (fun z0:Bool=>(VB z0,[])) _ _ e1
theorem Uu(k:Int):FC Tryz.prog 59 [VI k] (app emp []) (VB (nh k)) (app emp []):=by
 refine .go Tryz.f59 ?_;have e1:((nh k):Bool)=((k==0)|| (k==7)):=by
  rfl
 exact .aG [.r [],.r [(4,Xv 1 (!(k==0)) X0),(5,X (b7 (k==0)))]] [] (fun z0:Bool=>(VB z0,[])) _ _ e1
theorem OP(k:Int):FC Tryz.prog 60 [VI k] (app emp []) (VB (jX k)) (app emp []):=by
 refine .go Tryz.f60 ?_;have e1:((jX k):Bool)=((k==2)|| (k==6)):=by
  rfl
 exact .aG [.r [],.r [(4,Xv 1 (!(k==2)) X0),(5,X (b7 (k==2)))]] [] (fun z0:Bool=>(VB z0,[])) _ _ e1
theorem UE(k:Int):FC Tryz.prog 55 [VI k] (app emp []) (VB (rY k)) (app emp []):=by
 refine .go Tryz.f55 ?_;have e1:((rY k):Bool)=(((k==8)|| (k==9))|| (k==10)):=by
  rfl
 exact .aG [.r [],.r [(4,Xv 1 (!(k==8)) X0),(5,X (b7 (k==8))),(8,Xv 1 (!((k==8)|| (k==9))) X0),(9,X (b7 ((k==8)|| (k==9))))]] [] (fun z0:Bool=>(VB z0,[])) _ _ e1
theorem y2j(f:List aL)(t:Bool):FC Tryz.prog 62 [VL 3 aU f,VB t] (app emp []) (VI (vB t f)) (app emp []):=by
 refine .go Tryz.f62 ?_;refine .len 0 (fun dQ=> ?_);refine .loop (α:=Nat) [.r [],.r [(1,X (Xl aU f))]] 32 (fun i=>([(0,VL 3 aU f),(1,VB t),(8,VL 3 aU f),(9,VI (f.length:Int)),(10,VI (i:Int))],[])) (fun i=>i<=f.length/\pK t f 0=pK t f i) (fun i=>f.length-i) (0:Nat) ?_ ?_
 ·exact⟨by omega,rfl⟩
 rintro i I2 ic;try dsimp only at I2
 refine .bp [.r []] (decide ((i:Int)< (f.length:Int))) (fun h2=> ?_) (fun h2=> ?_)
 ·refine .bp [.r [(0,X (Xi aU f (i:Int)))],.r [(1,X (aW (XB ((f.getD i default))) X0))],.r []] ((gC ((f.getD i default))) !=0) (fun h5=> ?_) (fun h5=> ?_)
  ·have e1:((vB t f):Int)=(gC ((f.getD i default))):=by
    exact Rv (I2.2.trans (Yc (by omega) (by omega))) (by omega)
   exact .aG [.r []] [] (fun z0:Int=>(VI z0,[])) _ _ e1
  refine .bp [.r [(4,Xv 1 (!t) X0),(5,Xv 1 (!t) X0),(6,X (Xk (!t)))]] (!t&&((((f.getD i default)).bh)==0)) (fun h7=> ?_) (fun h7=> ?_)
  ·have e2:((vB t f):Int)=8:=by
    exact Rv (I2.2.trans (Yd (by omega) (by omega) h7)) (by decide)
   exact .aG [.r []] [] (fun z0:Int=>(VI z0,[])) _ _ e2
  refine .back [.r [(0,X (Xn ((i:Int)+1)))]] [] (ic ((i+1):Nat) ?_ ?_)
  ·exact⟨by omega,I2.2.trans (Ye (by omega) (by omega) h7)⟩
  ((try dsimp only);omega)
 refine .bp [.r [(3,Xv 1 t (Xl aU f)),(4,Xv 1 t X0),(5,Xv 1 t X0),(8,Xv 1 (t&& !((f.length:Int)==0)) (Xl aU f)),(9,Xv 1 (t&& !((f.length:Int)==0)) (Xn ((f.length:Int)- 1))),(10,Xv 2 (t&& !((f.length:Int)==0)) (yV aU f ((f.length:Int)- 1) (f.length- 1)) (fun hg=>by(try simp only[zf,zT,qq,Bool.and_eq_false_iff,beq_iff_eq,beq_eq_false_iff_ne,ne_eq] at hg);exact⟨(by omega),(by omega)⟩)),(11,Xv 1 (t&& !((f.length:Int)==0)) X0),(12,Xv 1 (t&& !((f.length:Int)==0)) X0),(13,Xv 1 (t&& !((f.length:Int)==0)) X0),(14,x5 t ((f.length:Int)==0)),(15,X (Xk t))]] (t&&(((f.length:Int)==0)|| ((((f.getD (f.length- 1) default)).aT) !=10))) (fun eE=> ?_) (fun eE=> ?_)
 ·have e3:((vB t f):Int)=11:=by
   rw[Rw (I2.2.trans (Yf (by omega))),if_pos (by refine⟨eE.1,?_⟩;rcases eE.2 with h|h;(left;omega);(right;exact h))]
  exact .aG [.r []] [] (fun z0:Int=>(VI z0,[])) _ _ e3
 have e4:((vB t f):Int)=0:=by
  rw[Rw (I2.2.trans (Yf (by omega))),if_neg (by rintro⟨q1,q2⟩;rcases eE with h|h;(rw[q1] at h;cases h);(rcases q2 with q|q;(omega);(exact q h.2)))]
 exact .aG [.r []] [] (fun z0:Int=>(VI z0,[])) _ _ e4
end Go.Ch
end
section
namespace Go.Ch
open Go Go.Ab
def gH(l:List Node):Prop:=∀p q,p<q->q<l.length->(l.getD p default).id< (l.getD q default).id
def vC(n:Node)(k:Int):Int:=if n.id<k then-1 else if n.id>k then 1 else 0
def bt(l:List Node)(k:Int):Nat:=(l.takeWhile (fun n=>decide (n.id<k))).length
theorem xN:∀(l:List Node) (k:Int),bt l k<=l.length/\(∀i,i<bt l k->(l.getD i default).id<k)/\(bt l k<l.length->¬(l.getD (bt l k) default).id<k)
 | [],k=>⟨qG _,fun i hi=>absurd hi (by simp[bt]),fun h=>absurd h (by simp[bt])⟩
 |c::l,k=>by
  obtain⟨h1,h2,h3⟩:=xN l k;by_cases hc:c.id<k
  ·have e:bt (c::l) k=bt l k+1:=by unfold bt;rw[List.takeWhile_cons,if_pos (decide_eq_true hc)];rfl
   rw[e];refine⟨by simp;omega,fun i hi=> ?_,fun h=> ?_⟩
   ·cases i with
    |zero=>exact hc
    |succ i=>exact h2 i oM
   exact h3 (by simpa using h)
  have e:bt (c::l) k=0:=by unfold bt;rw[List.takeWhile_cons,if_neg (by simpa using hc)];rfl
  rw[e];exact⟨qG _,fun i hi=>absurd hi oM,fun _=>hc⟩
theorem Us{l:List Node}{k:Int}{m:Nat}(hs:gH l)(hm:m<l.length)(h:(l.getD m default).id<k):m<bt l k:=by
 obtain⟨h1,h2,h3⟩:=xN l k;apply qc;intro q;have h4:=h3 oM;by_cases e:bt l k=m
 ·rw[e] at h4;exact h4 h
 have h5:=hs (bt l k) m oM hm;omega
theorem Rz{l:List Node}{k:Int}{m:Nat}(h:¬(l.getD m default).id<k):bt l k<=m:=by
 obtain⟨h1,h2,h3⟩:=xN l k;apply qc;intro q;exact h (h2 m oM)
def eM(l:List Node)(k:Int):Bool:=decide ((bt l k:Int)< (l.length:Int))&&(vC (l.getD (bt l k) default) k==0)
theorem Yl{n:Node}{k:Int}:vC n k<0↔n.id<k:=by unfold vC;split<;>(try split)<;>omega
theorem x4i{n:Node}{k:Int}:vC n k=0↔n.id=k:=by unfold vC;split<;>(try split)<;>omega
theorem rX{l:List Node}{k:Int}:eM l k=true↔bt l k<l.length/\(l.getD (bt l k) default).id=k:=by
 unfold eM;rw[qq,decide_eq_true_eq,beq_iff_eq,x4i];omega
theorem LZ(l:List Node)(k:Int):∀(n i:Nat),l.length-i=n->(kN l k i= -1/\∀j,i<=j->j<l.length->(l.getD j default).id≠k)\/∃j:Nat,kN l k i=j/\i<=j/\j<l.length/\(l.getD j default).id=k
 |0,i,h=>by rw[kN,if_neg oM];exact .inl ⟨rfl,fun j h1 h2=>oM⟩
 |n+1,i,h=>by
  have hi:i<l.length:=oM;rw[kN,if_pos hi];by_cases e:(l.getD i default).id=k
  ·rw[if_pos e];exact .inr ⟨i,rfl,qp _,hi,e⟩
  rw[if_neg e];rcases LZ l k n (i+1) oM with⟨a,b⟩| ⟨j,a,b,c,d⟩
  ·refine .inl ⟨a,fun j h1 h2=> ?_⟩;by_cases q:j=i
   ·subst q;exact e
   exact b j oM h2
  exact .inr ⟨j,a,oM,c,d⟩
theorem x4j{l:List Node}{k:Int}(hs:gH l)(h:eM l k=true):kN l k 0=(bt l k:Int):=by
 obtain⟨h1,h2⟩:=rX.1 h;rcases LZ l k _ 0 rfl with⟨a,b⟩| ⟨j,a,b,c,d⟩
 ·exact absurd h2 (b _ (qG _) h1)
 rw[a];rcases Nat.lt_trichotomy j (bt l k) with q|q|q
 ·have:=hs j _ q h1;omega
 ·rw[q]
 have:=hs _ j q c;omega
theorem x7g{l:List Node}{k:Int}(hs:gH l)(h:eM l k=false):kN l k 0<0:=by
 rcases LZ l k _ 0 rfl with⟨a,b⟩| ⟨j,a,b,c,d⟩
 ·rw[a];decide
 exfalso;have h1:=Rz (l:=l) (k:=k) (m:=j) oM;obtain⟨s1,s2,s3⟩:=xN l k;have h2:bt l k=j:=by
  apply qc;intro q;have:=hs (bt l k) j oM c;exact s3 oM oM
 have:eM l k=true:=rX.2 ⟨oM,by rw[h2];exact d⟩;rw[h] at this;cases this
theorem IY{l:List Node}:∀(n i:Nat),l.length-i=n->nv l i=0->(∀j,i<=j->j<l.length->fT (l.getD j default)=0)/\(∀j,i<=j->j<l.length->(j=0->(l.getD 0 default).id=1)/\(0<j->(l.getD (j- 1) default).id< (l.getD j default).id))
 |0,i,h,_=>⟨fun j h1 h2=>oM,fun j h1 h2=>oM⟩
 |n+1,i,h,he=>by
  have hi:i<l.length:=oM;rw[nv,if_pos hi] at he;by_cases h1:fT (l.getD i default)≠0
  ·rw[if_pos h1] at he;exact absurd he h1
  rw[if_neg h1] at he;split at he
  ·cases he
  rename_i h2;obtain⟨a,b⟩:=IY n (i+1) oM he;refine⟨fun j q1 q2=> ?_,fun j q1 q2=> ?_⟩
  ·by_cases q:j=i
   ·subst q;exact qc h1
   exact a j oM q2
  by_cases q:j=i
  ·subst q;exact⟨fun q3=>oM,fun q3=>oM⟩
  exact b j oM q2
theorem RA{l:List Node}(h:nv l 0=0):gH l:=by
 have h2:=(IY _ 0 rfl h).2;have key:∀d p,p+d+1<l.length->(l.getD p default).id< (l.getD (p+d+1) default).id:=by
  intro d;induction d with
  |zero=>intro p hp;have:=(h2 (p+1) (qG _) hp).2 oM;rwa [show p+1- 1=p by omega] at this
  |succ d ih=>
   intro p hp;have h3:=ih p oM;have h4:=(h2 (p+(d+1)+1) (qG _) hp).2 oM;rw[show p+(d+1)+1- 1=p+d+1 by omega] at h4;omega
 intro p q uE hq;have:=key (q-p- 1) p oM;rwa [show p+(q-p- 1)+1=q by omega] at this
end Go.Ch
end
section
set_option maxRecDepth 100000
set_option maxHeartbeats 4000000
open Go Go.Proofs Go.Ab
namespace Go.Ch



theorem Ym(n:Node)(k:Int):FC Tryz.prog 126 [.t (bz n),VI k] (app emp []) (VI (vC n k)) (app emp []):=by
 refine .go Tryz.f126 ?_;refine .bp [.r [],.r []] (decide (n.id<k)) (fun h1=> ?_) (fun h1=> ?_)
 ·have e1:((vC n k):Int)= -1:=by
   unfold vC;exact iF
  exact .aG [.r []] [] (fun z0:Int=>(VI z0,[])) _ _ e1
 refine .bp [.r []] (decide (n.id>k)) (fun h3=> ?_) (fun h3=> ?_)
 ·have e2:((vC n k):Int)=1:=by
   unfold vC;exact iF
  exact .aG [.r []] [] (fun z0:Int=>(VI z0,[])) _ _ e2
 have e3:((vC n k):Int)=0:=by
  unfold vC;exact iF
 exact .aG [.r []] [] (fun z0:Int=>(VI z0,[])) _ _ e3
theorem x9m(l:List Node)(k:Int)(hn:l.length<=1048576)(hs:gH l):FC Tryz.prog 125 [VL 9 bz l,VI k,.fn 126 []] (app emp []) (.aZ [VI (bt l k:Int),VB (eM l k)]) (app emp []):=by
 refine .go Tryz.f125 ?_;refine .len 0 (fun dQ=> ?_);obtain⟨s1,s2,s3⟩:=xN l k;refine .loop (α:=Nat×Nat) [.r [],.r [(1,X (Xl bz l))],.r []] 64 (fun(i,j)=>([(0,VL 9 bz l),(1,VI k),(2,.fn 126 []),(8,VI (l.length:Int)),(9,VI (i:Int)),(10,VI (j:Int))],[])) (fun(i,j)=>i<=bt l k/\bt l k<=j/\j<=l.length) (fun(i,j)=>j-i) (0,l.length) ?_ ?_
 ·exact⟨by omega,by omega,by omega⟩
 rintro⟨i,j⟩ I3 cC;try dsimp only at I3
 refine .bp [.r []] (decide ((i:Int)< (j:Int))) (fun h3=> ?_) (fun h3=> ?_)
 ·obtain⟨m,hm⟩:∃m:Nat,((i:Int)+(j:Int))/2=(m:Int):=⟨(i+j)/2,by omega⟩
  refine .bp [.r [(2,X (Xn ((i:Int)+(j:Int)))),(3,X (Lj IntKind.u64 ((i:Int)+(j:Int))) (by simp[IntKind.wrap,IntKind.bits,IntKind.signed];omega)),(4,X (Ll IntKind.u64 1 (((i:Int)+(j:Int)).fdiv (2^(min (1:Int).toNat IntKind.u64.bits))) (((i:Int)+(j:Int))/2)) ⟨by decide,(by rw[Int.fdiv_eq_ediv_of_nonneg _ (by decide)];rfl)⟩),(5,X (Xn (((i:Int)+(j:Int))/2)))],.le (.eq 11 (VI (((i:Int)+(j:Int))/2)) (VI (m:Int)) (.of_eq (by rw[<-hm]))),.r [(3,X (Xi bz l (m:Int))),(6,X (aW (Ym ((l.getD m default)) k) X0))]] (decide ((vC ((l.getD m default)) k)< 0)) (fun h5=> ?_) (fun h5=> ?_)
  ·refine .back [.r [(1,X (Xn ((m:Int)+1)))]] [] (cC ((m+1),j) ?_ ?_)
   ·have:=Us hs (m:=m) (by omega) (Yl.1 h5);exact⟨by omega,by omega,by omega⟩
   ((try dsimp only);omega)
  refine .back [.r []] [] (cC (i,m) ?_ ?_)
  ·have:=Rz (l:=l) (k:=k) (m:=m) (fun q=>by have:=Yl.2 q;omega);exact⟨by omega,by omega,by omega⟩
  ((try dsimp only);omega)
 have hi:i=bt l k:=by omega
 have e1:((bt l k:Int):Int)=(i:Int):=by
  first|omega| (unfold eM;rw[<-hi])
 have e2:((eM l k):Bool)=(decide ((i:Int)< (l.length:Int))&&((vC ((l.getD i default)) k)==0)):=by
  first|omega| (unfold eM;rw[<-hi])
 exact .aG [.r [(8,Xv 2 (decide ((i:Int)< (l.length:Int))) (Xi bz l (i:Int))),(9,Xv 1 (decide ((i:Int)< (l.length:Int))) X0),(11,Xv 3 (decide ((i:Int)< (l.length:Int))) (aW (Ym ((l.getD i default)) k) X0)),(12,Xv 1 (decide ((i:Int)< (l.length:Int))) X0),(13,X (Xk (decide ((i:Int)< (l.length:Int)))))]] [] (fun((z0,z1):Int×Bool)=>(.aZ [VI z0,VB z1],[])) _ _ (pr e1 e2)
theorem OZ(d:Doc)(k:Int)(hn:d.aq.length<=1048576)(hs:gH d.aq):FC Tryz.prog 66 [.t (gU d),VI k] (app emp []) (.aZ [VI (bt d.aq k:Int),VB (eM d.aq k)]) (app emp []):=by
 refine .go Tryz.f66 ?_;exact .fin [.r [],.r [(3,X (aW (x9m d.aq k oM aM) X0))]] []
theorem OO(f:List aL)(hn:f.length<=1048576):FC Tryz.prog 68 [VL 3 aU f] (app emp []) (.aF 0 ((mo f).length)) (app emp [(0,OR 1 bC (mo f))]):=by
 refine .go Tryz.f68 ?_;refine .len 0 (fun dQ=> ?_);refine .loop (α:=Nat×(List Int)) [.r [],.r [],.r [(1,X (Xl aU f))],.le (.nR 3 1)] 41 (fun(i,o)=>([(3,.aF 40 o.length),(6,VL 3 aU f),(7,VI (f.length:Int)),(8,VI (i:Int))],[(40,OR 1 bC o)])) (fun(i,o)=>i<=f.length/\o=mo (f.take i)) (fun(i,o)=>f.length-i) (0,[]) ?_ ?_
 ·exact⟨oM,rfl⟩
 rintro⟨i,o⟩ I3 cC;try dsimp only at I3
 have ol:o.length<=i:=by rw[I3.2];unfold mo;exact qC (je _ _) (by rw[qz];omega)
 refine .bp [.r []] (decide ((i:Int)< (f.length:Int))) (fun h3=> ?_) (fun h3=> ?_)
 ·refine .bp [.r [(0,X (Xi aU f (i:Int)))],.r []] ((((f.getD i default)).bh) !=0) (fun h5=> ?_) (fun h5=> ?_)
  ·refine .back [.r [(4,X (cg bC [((f.getD i default)).bh] (fK 1 bC 40 o [((f.getD i default)).bh])))],.r [(0,X (Xn ((i:Int)+1)))]] [(40,40)] (cC ((i+1),(o++[((f.getD i default)).bh])) ?_ ?_)
   ·refine⟨oM,?_⟩;rw[I3.2];unfold mo;rw[LY _ oM]
    first| (rw[if_pos oM];rfl)| (rw[if_neg oM];simp)
   exact tO
  refine .back [.r [(0,X (Xn ((i:Int)+1)))]] [(40,40)] (cC ((i+1),o) ?_ ?_)
  ·refine⟨oM,?_⟩;rw[I3.2];unfold mo;rw[LY _ oM]
   first| (rw[if_pos oM];rfl)| (rw[if_neg oM];simp)
  exact tO
 have e1:((mo f):List Int)=o:=by
  rw[I3.2,qk oM]
 have e2:((mo f).length:Nat)=o.length:=by
  rw[I3.2,qk oM]
 exact .aG [.r []] [(40,0)] (fun((z0,z1):(List Int)×Nat)=>(.aF 0 z1,[(0,OR 1 bC z0)])) _ _ (pr e1 e2)
theorem Ur(n:Node)(hb:kf n):FC Tryz.prog 26 [.t (bz n)] (app emp []) (VL 1 bC (lG n)) (app emp []):=by
 refine .go Tryz.f26 ?_;have b1:=hb.LW;have b2:=hb.LX;have b3:(mo n.aD).length<=n.aD.length:=je _ _;refine .loop (α:=Nat×(List Int)) [.r [],.r [(2,X (bV 32 (OO n.aD (by first|omega|simp)) X0))],.r [(3,X (Xl bg n.az.cells))]] 88 (fun(j,p)=>([(3,.aF 32 p.length),(11,VL 5 bg n.az.cells),(12,VI (n.az.cells.length:Int)),(13,VI (j:Int))],[(32,OR 1 bC p)])) (fun(j,p)=>j<=n.az.cells.length/\p=mo n.aD++CM (n.az.cells.take j)) (fun(j,p)=>n.az.cells.length-j) (0,(mo n.aD)) ?_ ?_
 ·exact⟨oM,by simp[CM]⟩
 rintro⟨j,p⟩ I3 cC;try dsimp only at I3
 have RB:p.length<=n.aD.length+j:=by rw[I3.2,qf];unfold CM;have q2:=je (fun x:Cell=>if x.bh≠0 then some x.bh else none) (n.az.cells.take j);rw[qz] at q2;omega
 refine .bp [.r []] (decide ((j:Int)< (n.az.cells.length:Int))) (fun h3=> ?_) (fun h3=> ?_)
 ·refine .bp [.r [(0,X (Xi bg n.az.cells (j:Int)))],.r []] ((((n.az.cells.getD j default)).bh) !=0) (fun h5=> ?_) (fun h5=> ?_)
  ·refine .back (let a:=((n.az.cells.getD j default));[.r [(4,X (cg bC [a.bh] (fK 1 bC 32 p [a.bh])))],.r [(0,X (Xn ((j:Int)+1)))]]) [(32,32)] (cC ((j+1),(p++[((n.az.cells.getD j default)).bh])) ?_ ?_)
   ·refine⟨oM,?_⟩;rw[I3.2];unfold CM;rw[LY _ oM,<-List.append_assoc]
    first| (rw[if_pos oM];rfl)| (rw[if_neg oM];simp)
   exact tO
  refine .back [.r [(0,X (Xn ((j:Int)+1)))]] [(32,32)] (cC ((j+1),p) ?_ ?_)
  ·refine⟨oM,?_⟩;rw[I3.2];unfold CM;rw[LY _ oM,<-List.append_assoc]
   first| (rw[if_pos oM];rfl)| (rw[if_neg oM];simp)
  exact tO
 have e1:((lG n):List Int)=p:=by
  rw[I3.2,qk oM];rfl
 exact .aG [.r [],.le (.fr 2 [(p.length:Nat)=(List.map bC p).length] ⟨lm,trivial⟩)] [] (fun z0:List Int=>(VL 1 bC z0,[])) _ _ e1
theorem x7h(l:List Int)(x:Int):FC Tryz.prog 188 [VL 1 bC l,VI x] (app emp []) (VI (gw (fun y=>x==y) l 0)) (app emp []):=by
 refine .go Tryz.f188 ?_;refine .len 0 (fun dQ=> ?_);refine .loop (α:=Nat) [.r [],.r [(1,X (Xl bC l))]] 32 (fun i=>([(0,VL 1 bC l),(1,VI x),(7,VI (l.length:Int)),(8,VI (i:Int))],[])) (fun i=>i<=l.length/\gw (fun y=>x==y) l 0=gw (fun y=>x==y) l i) (fun i=>l.length-i) (0:Nat) ?_ ?_
 ·exact⟨oM,rfl⟩
 rintro i I2 ic;try dsimp only at I2
 refine .bp [.r []] (decide ((i:Int)< (l.length:Int))) (fun h2=> ?_) (fun h2=> ?_)
 ·refine .bp [.r [],.r [(3,X (Xi bC l (i:Int)))]] (x==(l.getD i default)) (fun h4=> ?_) (fun h4=> ?_)
  ·have e1:((gw (fun y=>x==y) l 0):Int)=(i:Int):=by
    rw[I2.2,gw,if_pos oM,if_pos (by simpa using h4)]
   exact .aG [.r []] [] (fun z0:Int=>(VI z0,[])) _ _ e1
  refine .back [.r [(0,X (Xn ((i:Int)+1)))]] [] (ic ((i+1):Nat) ?_ ?_)
  ·exact⟨oM,by rw[I2.2,gw,if_pos oM,if_neg (by simpa using h4)]⟩
  exact tO
 have e2:((gw (fun y=>x==y) l 0):Int)= -1:=by
  rw[I2.2,gw,if_neg oM]
 exact .aG [.r []] [] (fun z0:Int=>(VI z0,[])) _ _ e2
theorem yf(l:List Int)(x:Int):FC Tryz.prog 127 [VL 1 bC l,VI x] (app emp []) (VB (l.any (fun y=>x==y))) (app emp []):=by
 refine .go Tryz.f127 ?_;refine .len 0 (fun dQ=> ?_);have e1:((l.any (fun y=>x==y)):Bool)=decide ((gw (fun y=>x==y) l 0)>=0):=by
  rw[zp];simp only[decide_eq_true_eq,ge_iff_le];rw[XZ]
 exact .aG [.r [],.r [(2,X (aW (x7h l x) X0))]] [] (fun z0:Bool=>(VB z0,[])) _ _ e1
theorem Yn(p k:Int):FC Tryz.prog 67 [VI p,VI k] (app emp []) (VB (gz p k)) (app emp []):=by
 refine .go Tryz.f67 ?_;refine .bp [.r [],.r [],.r [],.r []] (p==0) (fun h3=> ?_) (fun h3=> ?_)
 ·have e1:((gz p k):Bool)=(([1,6,7,10,11,12]).any (fun y=>k==y)):=by
   rw[zp];unfold gz eX;simp only[zR,z8,zS,qM,beq_iff_eq,qW,false_iff,iff_false];(repeat' split)<;>(try simp only[qM,beq_iff_eq,qW,false_iff])<;>first|omega| (simp;done)
  exact .aG [.r [],.r [(2,X (aW (yf [1,6,7,10,11,12] k) (cg bC [1,6,7,10,11,12] X0)))]] [] (fun z0:Bool=>(VB z0,[])) _ _ e1
 refine .bp [.r []] (p==1) (fun h5=> ?_) (fun h5=> ?_)
 ·have e2:((gz p k):Bool)=(([2,4,5,10]).any (fun y=>k==y)):=by
   rw[zp];unfold gz eX;simp only[zR,z8,zS,qM,beq_iff_eq,qW,false_iff,iff_false];(repeat' split)<;>(try simp only[qM,beq_iff_eq,qW,false_iff])<;>first|omega| (simp;done)
  exact .aG [.r [],.r [(2,X (aW (yf [2,4,5,10] k) (cg bC [2,4,5,10] X0)))]] [] (fun z0:Bool=>(VB z0,[])) _ _ e2
 refine .bp [.r []] (p==3) (fun h7=> ?_) (fun h7=> ?_)
 ·have e3:((gz p k):Bool)=(([4,5,10]).any (fun y=>k==y)):=by
   rw[zp];unfold gz eX;simp only[zR,z8,zS,qM,beq_iff_eq,qW,false_iff,iff_false];(repeat' split)<;>(try simp only[qM,beq_iff_eq,qW,false_iff])<;>first|omega| (simp;done)
  exact .aG [.r [],.r [(2,X (aW (yf [4,5,10] k) (cg bC [4,5,10] X0)))]] [] (fun z0:Bool=>(VB z0,[])) _ _ e3
 refine .bp [.r []] (p==4) (fun h9=> ?_) (fun h9=> ?_)
 ·refine .bp [] (p==4) (fun h9=> ?_) (fun h9=> ?_)
  ·have e4:((gz p k):Bool)=(([5]).any (fun y=>k==y)):=by
    rw[zp];unfold gz eX;simp only[zR,z8,zS,qM,beq_iff_eq,qW,false_iff,iff_false];(repeat' split)<;>(try simp only[qM,beq_iff_eq,qW,false_iff])<;>first|omega| (simp;done)
   exact .aG [.r [],.r [(2,X (aW (yf [5] k) (cg bC [5] X0)))]] [] (fun z0:Bool=>(VB z0,[])) _ _ e4
  refine .bp [.r []] (p==2) (fun fJ=> ?_) (fun fJ=> ?_)
  ·have e5:((gz p k):Bool)=(([3]).any (fun y=>k==y)):=by
    rw[zp];unfold gz eX;simp only[zR,z8,zS,qM,beq_iff_eq,qW,false_iff,iff_false];(repeat' split)<;>(try simp only[qM,beq_iff_eq,qW,false_iff])<;>first|omega| (simp;done)
   exact .aG [.r [],.r [(2,X (aW (yf [3] k) (cg bC [3] X0)))]] [] (fun z0:Bool=>(VB z0,[])) _ _ e5
  refine .bp [.r []] (p==7) (fun eN=> ?_) (fun eN=> ?_)
  ·have e6:((gz p k):Bool)=(([8,9]).any (fun y=>k==y)):=by
    rw[zp];unfold gz eX;simp only[zR,z8,zS,qM,beq_iff_eq,qW,false_iff,iff_false];(repeat' split)<;>(try simp only[qM,beq_iff_eq,qW,false_iff])<;>first|omega| (simp;done)
   exact .aG [.r [],.r [(2,X (aW (yf [8,9] k) (cg bC [8,9] X0)))]] [] (fun z0:Bool=>(VB z0,[])) _ _ e6
  have e7:((gz p k):Bool)=(([]).any (fun y=>k==y)):=by
   rw[zp];unfold gz eX;simp only[zR,z8,zS,qM,beq_iff_eq,qW,false_iff,iff_false];(repeat' split)<;>(try simp only[qM,beq_iff_eq,qW,false_iff])<;>first|omega| (simp;done)
  exact .aG [.r [(2,X (aW (.nil 0 1 (yf [] k)) X0))]] [] (fun z0:Bool=>(VB z0,[])) _ _ e7
 refine .bp [.r []] (p==12) (fun eE=> ?_) (fun eE=> ?_)
 ·have e8:((gz p k):Bool)=(([5]).any (fun y=>k==y)):=by
   rw[zp];unfold gz eX;simp only[zR,z8,zS,qM,beq_iff_eq,qW,false_iff,iff_false];(repeat' split)<;>(try simp only[qM,beq_iff_eq,qW,false_iff])<;>first|omega| (simp;done)
  exact .aG [.r [],.r [(2,X (aW (yf [5] k) (cg bC [5] X0)))]] [] (fun z0:Bool=>(VB z0,[])) _ _ e8
 refine .bp [.r []] (p==2) (fun fJ=> ?_) (fun fJ=> ?_)
 ·have e9:((gz p k):Bool)=(([3]).any (fun y=>k==y)):=by
   rw[zp];unfold gz eX;simp only[zR,z8,zS,qM,beq_iff_eq,qW,false_iff,iff_false];(repeat' split)<;>(try simp only[qM,beq_iff_eq,qW,false_iff])<;>first|omega| (simp;done)
  exact .aG [.r [],.r [(2,X (aW (yf [3] k) (cg bC [3] X0)))]] [] (fun z0:Bool=>(VB z0,[])) _ _ e9
 refine .bp [.r []] (p==7) (fun eN=> ?_) (fun eN=> ?_)
 ·have kE:((gz p k):Bool)=(([8,9]).any (fun y=>k==y)):=by
   rw[zp];unfold gz eX;simp only[zR,z8,zS,qM,beq_iff_eq,qW,false_iff,iff_false];(repeat' split)<;>(try simp only[qM,beq_iff_eq,qW,false_iff])<;>first|omega| (simp;done)
  exact .aG [.r [],.r [(2,X (aW (yf [8,9] k) (cg bC [8,9] X0)))]] [] (fun z0:Bool=>(VB z0,[])) _ _ kE
 have lg:((gz p k):Bool)=(([]).any (fun y=>k==y)):=by
  rw[zp];unfold gz eX;simp only[zR,z8,zS,qM,beq_iff_eq,qW,false_iff,iff_false];(repeat' split)<;>(try simp only[qM,beq_iff_eq,qW,false_iff])<;>first|omega| (simp;done)
 exact .aG [.r [(2,X (aW (.nil 0 1 (yf [] k)) X0))]] [] (fun z0:Bool=>(VB z0,[])) _ _ lg
theorem Kx(d:Doc)(k:Int)(rs:List Int)(hl:d.aq.length<=1048576)(hs:gH d.aq):FC Tryz.prog 25 [.t (gU d),VI k,VL 1 bC rs] (app emp []) (VI (gI d.aq k rs 0)) (app emp []):=by
 refine .go Tryz.f25 ?_;refine .len 2 (fun lU=> ?_);refine .loop (α:=Nat) [.r [],.r [(1,X (Xl bC rs))]] 40 (fun i=>([(1,VI k),(3,.ptr 0 0),(11,VL 1 bC rs),(12,VI (rs.length:Int)),(13,VI (i:Int))],[(0,.box [VL 9 bz d.aq])])) (fun i=>i<=rs.length/\gI d.aq k rs 0=gI d.aq k rs i) (fun i=>rs.length-i) (0:Nat) ?_ ?_
 ·exact⟨oM,rfl⟩
 rintro i I2 ic;try dsimp only at I2
 refine .bp [.r []] (decide ((i:Int)< (rs.length:Int))) (fun h2=> ?_) (fun h2=> ?_)
 ·refine .bp [.r [(0,X (Xi bC rs (i:Int)))],.r [(2,X (aW (OZ d (rs.getD i default) aM aM) X0))],.r []] (!(eM (d).aq (rs.getD i default))) (fun h5=> ?_) (fun h5=> ?_)
  ·have e1:((gI d.aq k rs 0):Int)=7:=by
    exact I2.2.trans (y85 oM (x7g hs h5))
   exact .aG [.r []] [] (fun z0:Int=>(VI z0,[])) _ _ e1
  obtain⟨q1,q2⟩:=rX.1 h5;have hf:=x4j hs h5;refine .bp [.r [(4,X (Xi bz d.aq (bt (d).aq (rs.getD i default):Int))),(7,X (aW (Yn k (((d.aq.getD (bt (d).aq (rs.getD i default)) default)).af)) X0))]] (!(gz k (((d.aq.getD (bt (d).aq (rs.getD i default)) default)).af))) (fun h7=> ?_) (fun h7=> ?_)
  ·have e2:((gI d.aq k rs 0):Int)=8:=by
    exact I2.2.trans (y86 oM oM (by rw[hf];exact h7))
   exact .aG [.r []] [] (fun z0:Int=>(VI z0,[])) _ _ e2
  refine .back [.r [(0,X (Xn ((i:Int)+1)))]] [(0,0)] (ic ((i+1):Nat) ?_ ?_)
  ·exact⟨oM,I2.2.trans (y87 oM oM (by rw[hf];exact h7))⟩
  exact tO
 have e3:((gI d.aq k rs 0):Int)=0:=by
  exact I2.2.trans (x06 oM)
 exact .aG [.r []] [] (fun z0:Int=>(VI z0,[])) _ _ e3
theorem Ux(k:Int)(l:List Cell):FC Tryz.prog 64 [VI k,VL 5 bg l] (app emp []) (VI (z28 k l 0)) (app emp []):=by
 refine .go Tryz.f64 ?_;refine .len 1 (fun gW=> ?_);refine .loop (α:=Nat) [.r [],.r [(1,X (Xl bg l))]] 32 (fun i=>([(0,VI k),(7,VL 5 bg l),(8,VI (l.length:Int)),(9,VI (i:Int))],[])) (fun i=>i<=l.length/\z28 k l 0=z28 k l i) (fun i=>l.length-i) (0:Nat) ?_ ?_
 ·exact⟨oM,rfl⟩
 rintro i I2 ic;try dsimp only at I2
 refine .bp [.r []] (decide ((i:Int)< (l.length:Int))) (fun h2=> ?_) (fun h2=> ?_)
 ·refine .bp (let a:=(k==2)&&(!(seq (((l.getD i default)).text) ({data:=#[]}))||decide (((((l.getD i default)).ah).length:Int)> 0));let b:=!(seq (((l.getD i default)).text) ({data:=#[]}));let c:=(k==2)&& !b;[.r [(0,X (Xi bg l (i:Int)))],.r [(4,Xv 1 (k==2) X0),(5,Xv 1 (k==2) X0),(6,Xv 1 (k==2) X0),(8,Xv 1 c X0),(9,Xv 1 c (Xl aS (((l.getD i default)).ah))),(10,Xv 1 c X0),(11,x5 (k==2) b),(12,X (Xk (k==2))),(15,Xv 1 (!a) X0),(16,Xv 1 (!a) X0),(18,Xv 1 ((!a)&&(k==6)) X0),(19,Xv 1 ((!a)&&(k==6)) X0),(20,kH (!a) (k==6)),(21,X (b7 a))]]) (((k==2)&&(!(seq (((l.getD i default)).text) ({data:=#[]}))||decide (((((l.getD i default)).ah).length:Int)> 0)))|| ((k==6)&&((((l.getD i default)).bh) !=0))) (fun h4=> ?_) (fun h4=> ?_)
  ·have e1:((z28 k l 0):Int)=4:=by
    rw[I2.2,z28,if_pos oM,if_pos];exact h4.imp (fun q=>⟨q.1,q.2.imp id (fun z=>oM)⟩) id
   exact .aG [.r []] [] (fun z0:Int=>(VI z0,[])) _ _ e1
  refine .back [.r [(0,X (Xn ((i:Int)+1)))]] [] (ic ((i+1):Nat) ?_ ?_)
  ·refine⟨oM,?_⟩;rw[I2.2,z28,if_pos oM,if_neg];rintro(⟨a,b|b⟩| ⟨a,b⟩)
   ·rcases h4.1 with q|q
    ·exact q a
    rw[q.1] at b;cases b
   ·rcases h4.1 with q|q
    ·exact q a
    omega
   rcases h4.2 with q|q
   ·exact q a
   exact b q
  exact tO
 have e2:((z28 k l 0):Int)=0:=by
  rw[I2.2,z28,if_neg oM]
 exact .aG [.r []] [] (fun z0:Int=>(VI z0,[])) _ _ e2
theorem x7i(l:List eo):FC Tryz.prog 114 [VL 4 bE l,VN] (app emp []) (VB ((l.length:Int)==0)) (app emp []):=by
 refine .go Tryz.f114 ?_;refine .len 0 (fun dQ=> ?_);refine .bp [.r [],.r [(1,X (Xl bE l))]] ((l.length:Int) !=0) (fun h1=> ?_) (fun h1=> ?_)
 ·have e1:(((l.length:Int)==0):Bool)=false:=by
   rw[beq_eq_false_iff_ne];exact h1
  exact .aG [.r []] [] (fun z0:Bool=>(VB z0,[])) _ _ e1
 refine .loop (α:=Nat) [.r [(1,X (Xl bE l))]] 72 (fun i=>([(0,VL 4 bE l),(1,VN),(12,VI (l.length:Int)),(13,VI (i:Int))],[])) (fun i=>i=0) (fun i=>0) (0:Nat) ?_ ?_
 ·rfl
 rintro i I4 kJ;try dsimp only at I4
 refine .bp [.r []] (decide ((i:Int)< (l.length:Int))) (fun h4=> ?_) (fun h4=> ?_)
 ·exfalso;omega
 have e2:(((l.length:Int)==0):Bool)=true:=by
  rw[beq_iff_eq];exact h1
 exact .aG [.r []] [] (fun z0:Bool=>(VB z0,[])) _ _ e2
theorem x7j(l:List Cell):FC Tryz.prog 115 [VL 5 bg l,VN,.fn 116 []] (app emp []) (VB ((l.length:Int)==0)) (app emp []):=by
 refine .go Tryz.f115 ?_;refine .len 0 (fun dQ=> ?_);refine .bp [.r [],.r [(1,X (Xl bg l))]] ((l.length:Int) !=0) (fun h1=> ?_) (fun h1=> ?_)
 ·have e1:(((l.length:Int)==0):Bool)=false:=by
   rw[beq_eq_false_iff_ne];exact h1
  exact .aG [.r []] [] (fun z0:Bool=>(VB z0,[])) _ _ e1
 refine .loop (α:=Nat) [.r [(1,X (Xl bg l))]] 72 (fun i=>([(1,VN),(2,.fn 116 []),(15,VL 5 bg l),(16,VI (l.length:Int)),(17,VI (i:Int))],[])) (fun i=>i=0) (fun i=>0) (0:Nat) ?_ ?_
 ·rfl
 rintro i I4 kJ;try dsimp only at I4
 refine .bp [.r []] (decide ((i:Int)< (l.length:Int))) (fun h4=> ?_) (fun h4=> ?_)
 ·exfalso;omega
 have e2:(((l.length:Int)==0):Bool)=true:=by
  rw[beq_iff_eq];exact h1
 exact .aG [.r []] [] (fun z0:Bool=>(VB z0,[])) _ _ e2
end Go.Ch
end
section
namespace Go.Ch
open Go Go.Ab
structure aB where
 af:Int
 n:Int
 ah:List aI
 elems:List aL
instance:Inhabited aB:=⟨⟨0,0,[],[]⟩⟩
def bB(s:aB):Tree:= .agg [.sc (.int .i64 s.af),.sc (.int .i64 s.n),.bX 2 (s.ah.map aS),.bX 3 (s.elems.map aU)]
def AN(n:Nat)(l:List aL):Prop:=∀x∈l,x.ah.length<=n
def fZ(s:aB):Int:=
 if s.af=1 then(if s.n≠0\/0<s.ah.length then 4 else if s.elems.length=0 then 11 else z54 s.elems 0)
 else if s.af=0\/s.af=2 then
  (if 0<s.elems.length\/(s.af=2/\0<s.ah.length) then 4 else if s.n<1\/2147483647<s.n then 2 else dO true s.ah 0)
 else 8
def cE(s:aB):Int:=if s.af=1 then(s.elems.length:Int) else s.n
def n9(s:aB):Prop:=
 (s.af=1/\s.n=0/\s.ah=[]/\s.elems≠[]/\∀x∈s.elems,gC x=0)\/
 ((s.af=0\/s.af=2)/\s.elems=[]/\(s.af=2->s.ah=[])/\1<=s.n/\s.n<=2147483647/\VG true s.ah)
theorem Fs{α:Type}{l:List α}:¬0<l.length↔l=[]:=by
 rw[Nat.not_lt,Nat.le_zero,qZ]
theorem rD{s:aB}:fZ s=0↔n9 s:=by
 unfold fZ n9;by_cases k1:s.af=1
 ·rw[if_pos k1];by_cases c1:s.n≠0\/0<s.ah.length
  ·rw[if_pos c1];constructor
   ·intro h;omega
   rintro(⟨_,h1,h2,_⟩| ⟨h,_⟩)
   ·rw[h2] at c1;simp at c1;omega
   omega
  rw[if_neg c1];by_cases c2:s.elems.length=0
  ·rw[if_pos c2];constructor
   ·intro h;omega
   rintro(⟨_,_,_,h,_⟩| ⟨h,_⟩)
   ·exact absurd (qZ.1 c2) h
   omega
  rw[if_neg c2,x30];have ha:s.ah=[]:=Fs.1 oM;constructor
  ·intro h;exact .inl ⟨k1,oM,ha,fun e=>c2 (by rw[e];rfl),h⟩
  rintro(⟨_,_,_,_,h⟩| ⟨h,_⟩)
  ·exact h
  omega
 rw[if_neg k1];by_cases k2:s.af=0\/s.af=2
 ·rw[if_pos k2];by_cases c1:0<s.elems.length\/(s.af=2/\0<s.ah.length)
  ·rw[if_pos c1];constructor
   ·intro h;omega
   rintro(⟨h,_⟩| ⟨_,h1,h2,_⟩)
   ·omega
   rcases c1 with c| ⟨c,d⟩
   ·rw[h1] at c;simp at c
   rw[h2 c] at d;simp at d
  rw[if_neg c1];by_cases c2:s.n<1\/2147483647<s.n
  ·rw[if_pos c2];constructor
   ·intro h;omega
   rintro(⟨h,_⟩| ⟨_,_,_,h1,h2,_⟩)<;>omega
  rw[if_neg c2,oW];constructor
  ·intro h;exact .inr ⟨k2,Fs.1 oM,fun h2=>Fs.1 oM,oM,oM,h⟩
  rintro(⟨h,_⟩| ⟨_,_,_,_,_,h⟩)
  ·omega
  exact h
 rw[if_neg k2];constructor
 ·intro h;omega
 rintro(⟨h,_⟩| ⟨h,_⟩)
 ·omega
 exact absurd h k2
theorem tJ{s:aB}(h:fZ s=0):(s.af=0\/s.af=1\/s.af=2)/\0<=s.n/\s.n<=2147483647/\1<=cE s/\cE s<=max 2147483647 s.elems.length:=by
 unfold cE;rcases rD.1 h with⟨k,n,a,e,_⟩| ⟨k,_,_,n1,n2,_⟩
 ·have:0<s.elems.length:=jb.2 e;rw[if_pos k];omega
 rw[if_neg oM];omega
def sN(w x:aB):Bool:=((w.af==x.af)&&((x.af !=0)||iN w.ah x.ah))|| ((w.af==2)&&(x.af==1))
theorem L0{w x:aB}:sN w x=true↔(w.af=x.af/\(¬x.af=0\/iN w.ah x.ah=true))\/(w.af=2/\x.af=1):=by
 unfold sN;simp
theorem CN{w x:aB}(h:(¬w.af=x.af\/(x.af=0/\iN w.ah x.ah=false))/\(¬w.af=2\/¬x.af=1)):¬sN w x=true:=by
 rw[L0];rintro(⟨a,b⟩| ⟨a,b⟩)
 ·rcases h.1 with c| ⟨c,d⟩
  ·exact c a
  rcases b with b|b
  ·exact b c
  rw[d] at b;cases b
 rcases h.2 with c|c
 ·exact c a
 exact c b
def DN(n:Nat)(l:List aB):Prop:=∀s∈l,s.elems.length<=n/\s.ah.length<=n/\AN n s.elems
theorem DN.at_{n:Nat}{l:List aB}(h:DN n l){k:Nat}(hk:k<l.length):(l.getD k default).elems.length<=n/\(l.getD k default).ah.length<=n/\AN n (l.getD k default).elems:=by
 refine h _ ?_;rw[show l.getD k default=l[k] by simp[List.getD,qa hk]];exact zB hk
def sn(l:List aB)(i:Nat)(b a:Int):Int:=
 if i<l.length then
  if fZ (l.getD i default)≠0 then fZ (l.getD i default)
  else if 0<i/\sN (l.getD (i- 1) default) (l.getD i default)=true then 5
  else sn l (i+1) (if(l.getD i default).af≠1 then min (b+(l.getD i default).n) 2147483648 else b) (if(l.getD i default).af≠2 then min (a+cE (l.getD i default)) 2147483648 else a)
 else if 2147483647<b\/2147483647<a then 3 else 0
termination_by l.length-i
def k8(l:List aB):Int:=sn l 0 0 0
def oS(s:aB):Int:=if s.af=1 then 0 else s.n
def nS(s:aB):Int:=if s.af=2 then 0 else cE s
def eu:List aB->Int
 | []=>0
 |s::l=>oS s+eu l
def eU:List aB->Int
 | []=>0
 |s::l=>nS s+eU l
def CO:List aB->Prop
 | []=>True
 | [s]=>n9 s
 |s::t::l=>n9 s/\sN s t=false/\CO (t::l)
def Ec(l:List aB)(i:Nat):Prop:=∀k,i<=k->k<l.length->n9 (l.getD k default)/\(0<k->sN (l.getD (k- 1) default) (l.getD k default)=false)
theorem IZ{α:Type}[Inhabited α]{l:List α}{i:Nat}(h:i<l.length):l.drop i=l.getD i default::l.drop (i+1):=by
 rw[zh h];simp[List.getD,qa h]
theorem Yo{s:aB}(h:n9 s):0<=oS s/\0<=nS s:=by
 have:=tJ (rD.2 h);unfold oS nS;constructor<;>split<;>omega
theorem Yp{l:List aB}{i:Nat}(h:Ec l i):∀s∈l.drop i,n9 s:=by
 intro s hs;obtain⟨k,hk,e⟩:=q9.1 hs;rw[qT] at hk;have:=(h (i+k) oM oM).1;rw[List.getElem_drop] at e;rw[<-e];simpa[List.getD,qa (show i+k<l.length by omega)] using this
theorem L4:∀{l:List aB},(∀s∈l,n9 s)->0<=eu l/\0<=eU l
 | [],_=>⟨zm _,zm _⟩
 |s::l,h=>by
  have h1:=Yo (h s sM);have h2:=L4 (l:=l) (fun t ht=>h t (by simp[ht]));simp only[eu,eU];omega
theorem Yq(l:List aB):∀(m i:Nat) (b a:Int),l.length-i=m->0<=b->0<=a->b<=2147483648->a<=2147483648->
 (sn l i b a=0↔Ec l i/\b+eu (l.drop i)<=2147483647/\a+eU (l.drop i)<=2147483647)
 |0,i,b,a,h,hb,ha,xT,DH=>by
  rw[sn,if_neg oM,qN oM];simp only[eu,eU];split
  ·constructor
   ·intro h;omega
   rintro⟨_,h1,h2⟩;omega
  exact⟨fun _=>⟨fun k h1 h2=>oM,oM,oM⟩,fun _=>rfl⟩
 |m+1,i,b,a,h,hb,ha,xT,DH=>by
  have hi:i<l.length:=oM;rw[sn,if_pos hi];have step:Ec l i↔(n9 (l.getD i default)/\(0<i->sN (l.getD (i- 1) default) (l.getD i default)=false))/\Ec l (i+1):=by
   constructor
   ·exact fun h=>⟨h i (qp _) hi,fun k h1 h2=>h k oM h2⟩
   rintro⟨h1,h2⟩ k h3 h4;by_cases e:k=i
   ·subst e;exact h1
   exact h2 k oM h4
  rw[step,IZ hi];simp only[eu,eU];have ih:=fun b' a'=>Yq l m (i+1) b' a' oM
  have nn:=fun f:Ec l (i+1)=>L4 (Yp f)
  generalize l.getD i default=x at*
  generalize l.getD (i- 1) default=y at*
  by_cases c1:fZ x≠0
  ·rw[if_pos c1];constructor
   ·intro h;exact absurd h c1
   rintro⟨⟨⟨h,_⟩,_⟩,_⟩;exact absurd (rD.2 h) c1
  rw[if_neg c1];have hs:=rD.1 (by omega:fZ x=0);have hz:=tJ (by omega:fZ x=0);by_cases c3:0<i/\sN y x=true
  ·rw[if_pos c3];constructor
   ·intro h;omega
   rintro⟨⟨⟨_,h⟩,_⟩,_⟩;have:=h c3.1;rw[c3.2] at this;cases this
  rw[if_neg c3,ih _ _ (by split<;>omega) (by split<;>omega) (by split<;>omega) (by split<;>omega)];unfold oS nS;constructor
  ·rintro⟨f,h1,h2⟩;obtain⟨n0,n1⟩:=nn f;refine⟨⟨⟨hs,fun h0=> ?_⟩,f⟩,?_,?_⟩
   ·cases e:sN y x
    ·rfl
    exact absurd ⟨h0,e⟩ c3
   ·by_cases k1:x.af=1
    ·rw[if_pos k1];rw[if_neg oM] at h1;omega
    rw[if_neg k1];rw[if_pos k1] at h1;omega
   by_cases k1:x.af=2
   ·rw[if_pos k1];rw[if_neg oM] at h2;omega
   rw[if_neg k1];rw[if_pos k1] at h2;omega
  rintro⟨⟨_,f⟩,h1,h2⟩;obtain⟨n0,n1⟩:=nn f;refine⟨f,?_,?_⟩
  ·by_cases k1:x.af=1
   ·rw[if_pos k1] at h1;rw[if_neg oM];omega
   rw[if_neg k1] at h1;rw[if_pos k1];omega
  by_cases k1:x.af=2
  ·rw[if_pos k1] at h2;rw[if_neg oM];omega
  rw[if_neg k1] at h2;rw[if_pos k1];omega
theorem z91:∀{l:List aB},Ec l 0->CO l
 | [],_=>trivial
 | [s],h=>(h 0 (qp _) sM).1
 |s::t::l,h=>by
  refine⟨(h 0 (qp _) sM).1,(h 1 oM sM).2 oM,z91 (fun k h1 h2=> ?_)⟩;have rS:k+1< (s::t::l).length:=by simp at h2|-;omega
  have:=h (k+1) oM rS;simp only[List.getD_cons_succ] at this;refine⟨this.1,fun h0=> ?_⟩;have e:=this.2 oM;rw[show k+1- 1=(k- 1)+1 by omega,List.getD_cons_succ] at e;exact e
theorem L5:∀{l:List aB},CO l->Ec l 0
 | [],_=>fun k h1 h2=>by simp at h2
 | [s],h=>fun k h1 h2=>by
  have:k=0:=by simp at h2;omega
  subst this;exact⟨h,fun h0=>oM⟩
 |s::t::l,h=>fun k h1 h2=>by
  obtain⟨a,b,c⟩:=h;rcases k with _|k
  ·exact⟨a,fun h0=>oM⟩
  have:=L5 c k (qG _) (by simp at h2|-;omega);rw[List.getD_cons_succ];refine⟨this.1,fun _=> ?_⟩;rcases k with _|k
  ·exact b
  rw[Nat.add_sub_cancel,List.getD_cons_succ];have e:=this.2 oM;rw[Nat.add_sub_cancel] at e;exact e
def j9(l:List aB):Prop:=CO l/\eu l<=2147483647/\eU l<=2147483647
theorem wO{l:List aB}:k8 l=0↔j9 l:=by
 unfold k8 j9;rw[Yq l _ 0 0 0 rfl (zm _) (zm _) dM dM];simp only[List.drop_zero,Int.zero_add];exact⟨fun h=>⟨z91 h.1,h.2⟩,fun h=>⟨L5 h.1,h.2⟩⟩
theorem CO.all{l:List aB}(h:CO l):∀s∈l,n9 s:=by
 have:=Yp (L5 h);simpa using this
theorem Yr{l:List aB}{i:Nat}(h:i<l.length)(hf:CO l):eu (l.drop i)=(if(l.getD i default).af=1 then 0 else(l.getD i default).n)+eu (l.drop (i+1))/\
 eU (l.drop i)=(if(l.getD i default).af=2 then 0 else cE (l.getD i default))+eU (l.drop (i+1))/\n9 (l.getD i default)/\0<=eu (l.drop (i+1))/\0<=eU (l.drop (i+1))/\0<=(l.getD i default).n/\1<=cE (l.getD i default)/\((l.getD i default).af=0\/(l.getD i default).af=1\/(l.getD i default).af=2):=by
 have h1:=((L5 hf) i (qG _) h).1;have h2:=tJ (rD.2 h1);have h3:=L4 (l:=l.drop (i+1)) (fun s hs=>hf.all s (qE hs));rw[IZ h];exact⟨rfl,rfl,h1,h3.1,h3.2,h2.2.1,h2.2.2.2.1,h2.1⟩
theorem Ys{l:List aB}{i:Nat}(h:l.length<=i):eu (l.drop i)=0/\eU (l.drop i)=0:=by rw[qN h];exact⟨rfl,rfl⟩
def Yt(w x:aB):Prop:=if x.af=1 then w.af≠0 else if x.af=2 then w.af=2 else w.af=0/\iN w.ah x.ah=true
instance (w x:aB):Decidable (Yt w x):=by unfold Yt;infer_instance
inductive DU where
 |K (c:List aI)
 |A (e:aL)
 |C
def ir(s:aB):List DU:=if s.af=1 then s.elems.map .A else if s.af=2 then List.replicate s.n.toNat .C else List.replicate s.n.toNat (.K s.ah)
def bD:List aB->List DU
 | []=>[]
 |s::l=>ir s++bD l
theorem CP(a b:List aB):bD (a++b)=bD a++bD b:=by
 induction a with
 |nil=>rfl
 |cons s a ih=>simp[bD,ih]
def lM(c:List aI)(x:aL):aL:=⟨x.aT,x.bh,fm eY x.ah c⟩
def dW:List DU->List aL->List aL
 | [],_=>[]
 | .A e::u,l=>e::dW u l
 | .K c::u,x::l=>lM c x::dW u l
 | .C::u,_::l=>dW u l
 | .K _::u,[]=>dW u []
 | .C::u,[]=>dW u []
def bK:List DU->Nat
 | []=>0
 | .A _::u=>bK u
 |_::u=>bK u+1
def cG:List DU->Nat
 | []=>0
 | .C::u=>cG u
 |_::u=>cG u+1
def Ja:List DU->Prop
 | []=>True
 | .K c::u=>VG true c/\Ja u
 |_::u=>Ja u
inductive jV:List DU->List DU->Prop
 |refl (u:List DU):jV u u
 |cons (x:DU) {u v:List DU} (h:jV u v):jV (x::u) (x::v)
 |swap (e:aL) (u:List DU):jV (.A e:: .C::u) (.C:: .A e::u)
 |symm {u v:List DU} (h:jV u v):jV v u
 |trans {u v w:List DU} (h:jV u v) (k:jV v w):jV u w
theorem jV.left(w:List DU){u v:List DU}(h:jV u v):jV (w++u) (w++v):=by
 induction w with
 |nil=>exact h
 |cons x w ih=>exact .cons x ih
theorem jV.right(w:List DU){u v:List DU}(h:jV u v):jV (u++w) (v++w):=by
 induction h with
 |refl u=>exact .refl _
 |cons x _ ih=>exact .cons x ih
 |swap e u=>exact .swap e _
 |symm _ ih=>exact .symm ih
 |trans _ _ a b=>exact .trans a b
theorem Yu{u v:List DU}(h:jV u v):∀l,dW u l=dW v l:=by
 induction h with
 |refl u=>exact fun _=>rfl
 |cons x _ ih=>
  intro l;cases x<;>cases l<;>simp[dW,ih]
 |swap e u=>intro l;cases l<;>simp[dW]
 |symm _ ih=>exact fun l=>(ih l).symm
 |trans _ _ a b=>exact fun l=>(a l).trans (b l)
theorem Yv{u v:List DU}(h:jV u v):bK u=bK v/\cG u=cG v:=by
 induction h with
 |refl u=>exact⟨rfl,rfl⟩
 |cons x _ ih=>cases x<;>simp[bK,cG,ih.1,ih.2]
 |swap e u=>exact⟨rfl,rfl⟩
 |symm _ ih=>exact⟨ih.1.symm,ih.2.symm⟩
 |trans _ _ a b=>exact⟨a.1.trans b.1,a.2.trans b.2⟩
theorem x4k(e:List aL)(u:List DU):jV (.C::(e.map .A++u)) (e.map .A++ .C::u):=by
 induction e with
 |nil=>exact .refl _
 |cons x e ih=>exact .trans (.symm (.swap x _)) (.cons _ ih)
theorem x09(c:Nat)(e:List aL)(u:List DU):jV (List.replicate c .C++(e.map .A++u)) (e.map .A++(List.replicate c .C++u)):=by
 induction c with
 |zero=>exact .refl _
 |succ c ih=>exact .trans (.cons _ ih) (x4k e _)
theorem x1a(e:List aL)(u:List DU)(l:List aL):dW (e.map .A++u) l=e++dW u l:=by
 induction e with
 |nil=>rfl
 |cons x e ih=>simp[dW,ih]
theorem Yw(n:Nat)(c:List aI)(u:List DU):∀l:List aL,dW (List.replicate n (.K c)++u) l=(l.take n).map (lM c)++dW u (l.drop n):=by
 induction n with
 |zero=>intro l;simp
 |succ n ih=>
  intro l;cases l with
  |nil=>have:=ih [];simpa[dW,qH] using this
  |cons x l=>simp[dW,qH,ih]
theorem x1b(n:Nat)(u:List DU):∀l:List aL,dW (List.replicate n .C++u) l=dW u (l.drop n):=by
 induction n with
 |zero=>intro l;simp
 |succ n ih=>
  intro l;cases l with
  |nil=>have:=ih [];simpa[dW,qH] using this
  |cons x l=>simp[dW,qH,ih]
def jx(l:List aL)(d:List aB):List aL:=dW (bD d) l
theorem x9o{d:List aB}{i:Nat}(h:i<d.length)(l:List aL):dW (bD (d.drop i)) l=
 if(d.getD i default).af=1 then(d.getD i default).elems++dW (bD (d.drop (i+1))) l
 else if(d.getD i default).af=2 then dW (bD (d.drop (i+1))) (l.drop (d.getD i default).n.toNat)
 else(l.take (d.getD i default).n.toNat).map (lM (d.getD i default).ah)++dW (bD (d.drop (i+1))) (l.drop (d.getD i default).n.toNat):=by
 rw[IZ h,bD];unfold ir;split
 ·rw[x1a]
 split
 ·rw[x1b]
 rw[Yw]
structure aP where
 af:Int
 ai:Int
 nw:Node
 ah:List aI
 aQ:List aB
 az:bP
 draw:List fN
instance:Inhabited aP:=⟨⟨0,0,default,[],[],default,[]⟩⟩
def bI(o:aP):Tree:= .agg [TI o.af,TI o.ai,TI o.nw.id,TI o.nw.af,.bX 2 (o.nw.ah.map aS),.bX 3 (o.nw.aD.map aU),TI o.nw.az.ak,TI o.nw.az.aj,.bX 5 (o.nw.az.cells.map bg),.bX 4 (o.nw.az.aH.map bE),.bX 8 (o.nw.draw.map cm),
 .bX 2 (o.ah.map aS),.bX 4 (o.aQ.map bB),.bX 2 (o.az.ak.map bk),.bX 2 (o.az.aj.map bk),.bX 5 (o.az.cells.map bg),.bX 4 (o.az.split.map bE),.bX 4 (o.az.merge.map bE),.bX 8 (o.draw.map cm)]
def AR(n:Node):Bool:=((((n.id==0&&n.af==0)&&iN n.ah [])&&((n.aD.length:Int)==0))&&ye n.az)&&((n.draw.length:Int)==0)
def HW(g:bP):Bool:=decide ((g.ak.length:Int)+(g.aj.length:Int)+(g.cells.length:Int)+(g.split.length:Int)+(g.merge.length:Int)> 0)
def ve(o:aP):Bool:=
 (o.af==0&&o.ai !=0)|| (o.af !=0&& !(AR o.nw))|| (o.af !=1&&decide ((o.ah.length:Int)> 0))|| (o.af !=2&&decide ((o.aQ.length:Int)> 0))|| (o.af !=3&&HW o.az)|| (o.af !=4&&decide ((o.draw.length:Int)> 0))
def fF(o:aP):Int:=
 if o.af<0\/4<o.af then 8
 else if ve o=true then 4
 else if o.af=0 then fT o.nw
 else if o.ai<1\/1073741824<o.ai then 2
 else if o.af=1 then dO true o.ah 0
 else if o.af=2 then k8 o.aQ
 else if o.af=3 then jF o.az
 else lX o.draw 0
def jC(c:List aP)(i:Nat):Int:=if i<c.length then(if fF (c.getD i default)≠0 then fF (c.getD i default) else jC c (i+1)) else 0
termination_by c.length-i
theorem x1c{c:List aP}{i:Nat}(h:i<c.length)(he:fF (c.getD i default)≠0):jC c i=fF (c.getD i default):=by rw[jC,if_pos h,if_pos he]
theorem y89{c:List aP}{i:Nat}(h:i<c.length)(he:fF (c.getD i default)=0):jC c i=jC c (i+1):=by rw[jC,if_pos h,if_neg (fun q=>q he)]
theorem x1d{c:List aP}{i:Nat}(h:¬i<c.length):jC c i=0:=by rw[jC,if_neg h]
def rV{α:Type}(f:α->Int):List α->Int
 | []=>0
 |x::l=>if f x≠0 then f x else rV f l
theorem Ff{α:Type}[Inhabited α](f:α->Int){l:List α}{i:Nat}(h:i<l.length):rV f (l.drop i)=if f (l.getD i default)≠0 then f (l.getD i default) else rV f (l.drop (i+1)):=by
 rw[show l.drop i=l.getD i default::l.drop (i+1) from by rw[zh h];simp[List.getD,qa h]];rfl
theorem z77{α:Type}(f:α->Int){l:List α}{i:Nat}(h:l.length<=i):rV f (l.drop i)=0:=by rw[qN h];rfl
theorem RC{α:Type}{f:α->Int}{l:List α}(h:rV f l=0):∀x∈l,f x=0:=by
 induction l with
 |nil=>intro x hx;cases hx
 |cons y l ih=>
  rw[rV] at h;split at h
  ·rename_i q;exact absurd h q
  rename_i q;intro x hx;rcases qg.1 hx with rfl|hx
  ·exact qc q
  exact ih h x hx
theorem z78{α:Type}{f:α->Int}{l:List α}(h:∀x∈l,f x=0):rV f l=0:=by
 induction l with
 |nil=>rfl
 |cons y l ih=>rw[rV,if_neg (fun q=>q (h y zQ))];exact ih (fun x hx=>h x (qR _ hx))
def tC(l:List Node)(k:Int)(x:aL):Int:=if x.bh=0/\eX k=false then 8 else gI l k (mo [x]) 0
def Fc(l:List Node)(k:Int)(s:List aB):Int:=rV (fun t:aB=>rV (tC l k) t.elems) s
def u7(s:List aB):Bool:=decide ((s.length:Int)> 0)&&((s.getD (s.length- 1) default).af==0)
def k9(l:List Node)(n:Node)(s:List aB):Int:=
 if eX n.af=false/\nh n.af=false then 8
 else if eu s≠(n.aD.length:Int) then 14
 else if eX n.af=true/\u7 s=false then 4
 else Fc l n.af s
def yW(l:List Node)(k:Int)(c:Cell):Int:=if c.bh=0 then 0 else gI l k [c.bh] 0
def lW(l:List Node)(n:Node)(g:bP):Int:=
 if jX n.af=false then 8
 else if z28 n.af g.cells 0≠0 then z28 n.af g.cells 0
 else if gX n.az g≠0 then gX n.az g
 else rV (yW l n.af) g.cells
def tK(l:List Node)(n:Node):List Node:=l.take (bt l n.id)++n::l.drop (bt l n.id)
def pe(l:List Node)(n:Node):Int:=if eM l n.id=true then 6 else gI l n.af (lG n) 0
def CQ(n:Node)(c:List fN):Int:=if rY n.af=false then 8 else if(dN n.draw c).isSome then 0 else 6
def cV(l:List Node)(o:aP):Int:=
 if o.af=0 then pe l o.nw
 else if eM l o.ai=false then 7
 else if o.af=1 then 0
 else if o.af=2 then k9 l (l.getD (bt l o.ai) default) o.aQ
 else if o.af=3 then lW l (l.getD (bt l o.ai) default) o.az
 else CQ (l.getD (bt l o.ai) default) o.draw
def iP(n:Node)(o:aP):Node:=
 if o.af=1 then {n with ah:=fm eY n.ah o.ah}
 else if o.af=2 then {n with aD:=jx n.aD o.aQ}
 else if o.af=3 then {n with az:=kg n.az o.az}
 else {n with draw:=(dN n.draw o.draw).getD []}
def cn(l:List Node)(o:aP):List Node:=
 if cV l o≠0 then l else if o.af=0 then tK l o.nw else l.set (bt l o.ai) (iP (l.getD (bt l o.ai) default) o)
def iz:List Node->List aP->Int
 |_,[]=>0
 |l,o::c=>if cV l o≠0 then cV l o else iz (cn l o) c
def gK:List Node->List aP->List Node
 |l,[]=>l
 |l,o::c=>gK (cn l o) c
def gV(d:Doc)(c:List aP):Int:=if ez d≠0 then ez d else if jC c 0≠0 then jC c 0 else iz d.aq c
def jB(d:Doc)(c:List aP):Doc:=if gV d c≠0 then⟨[]⟩ else⟨gK d.aq c⟩
theorem Yx:∀(a b:List aP) (l:List Node),iz l (a++b)=if iz l a≠0 then iz l a else iz (gK l a) b
 | [],b,l=>by simp[iz,gK]
 |o::a,b,l=>by
  rw[qm];by_cases h:cV l o≠0
  ·have e1:iz l (o::(a++b))=cV l o:=by rw[iz,if_pos h]
   have e2:iz l (o::a)=cV l o:=by rw[iz,if_pos h]
   rw[e1,e2,if_pos h]
  have e1:iz l (o::(a++b))=iz (cn l o) (a++b):=by rw[iz,if_neg h]
  have e2:iz l (o::a)=iz (cn l o) a:=by rw[iz,if_neg h]
  rw[e1,e2,Yx a b,gK]
theorem Yy:∀(a b:List aP) (l:List Node),gK l (a++b)=gK (gK l a) b
 | [],b,l=>rfl
 |o::a,b,l=>Yy a b _
theorem Yz{c:List aP}:∀(n i:Nat),c.length-i=n->(jC c i=0↔∀j,i<=j->j<c.length->fF (c.getD j default)=0)
 |0,i,h=>by rw[jC,if_neg oM];exact⟨fun _ j h1 h2=>oM,fun _=>rfl⟩
 |n+1,i,h=>by
  have hi:i<c.length:=oM;rw[jC,if_pos hi];by_cases q:fF (c.getD i default)≠0
  ·rw[if_pos q];exact⟨fun e=>absurd e q,fun e=>absurd (e i (qp _) hi) q⟩
  rw[if_neg q,Yz n (i+1) oM];refine⟨fun e j h1 h2=> ?_,fun e j h1 h2=>e j oM h2⟩;by_cases z:j=i
  ·subst z;exact qc q
  exact e j oM h2
theorem DG{c:List aP}:jC c 0=0↔∀o∈c,fF o=0:=by
 rw[Yz _ 0 rfl];constructor
 ·intro h o ho;obtain⟨j,hj,rfl⟩:∃j,j<c.length/\c.getD j default=o:=by
   obtain⟨j,hj,e⟩:=jc ho;exact⟨j,hj,by simp[List.getD,hj,e]⟩
  exact h j (qG _) hj
 intro h j _ hj;exact h _ (fE hj)
def rU(l:List Node)(k:Int):Int:=if eM l k=true then(bt l k:Int) else-1
theorem OS{l:List Node}{k:Int}(h:eM l k=true):rU l k=(bt l k:Int):=by unfold rU;rw[if_pos h]
theorem Kv{l:List Node}{k:Int}:0<=rU l k↔eM l k=true:=by
 unfold rU;split
 ·rename_i h;exact⟨fun _=>h,fun _=>oM⟩
 rename_i h;exact⟨fun q=>oM,fun q=>absurd q h⟩
theorem Kw{l:List Node}{k:Int}:rU l k<0↔eM l k=false:=by
 unfold rU;split
 ·rename_i h;rw[h];exact⟨fun q=>oM,fun q=>by cases q⟩
 rename_i h;exact⟨fun _=>by simpa using h,fun _=>oM⟩
structure Ed(o:aP):Prop where
 a:o.az.ak.length<=1048576
 b:o.az.aj.length<=1048576
 c:o.az.cells.length<=1048576
 d:o.az.split.length<=1048576
 e:o.az.merge.length<=1048576
structure pq(o:aP):Prop where
 len:Ed o
 nb:kf o.nw
 nl:o.nw.az.aH=[]/\pJ o.nw.az.cells
 uA:o.ah.length<=1048576
 dn:DN 400000000000 o.aQ
 gl:mz o.az
 ga:∀c∈o.az.cells,c.ah.length<=1048576
 dr:o.draw.length<=1048576
structure fD(d:Doc):Prop extends DocB d where
 lY:∀n∈d.aq,n.az.aH=[]/\pJ n.az.cells
def oQ(l:List Node)(n:Node):List Node:=if pe l n≠0 then l else tK l n
theorem YA{l:List Node}{n:Node}{k:Int}(h:pe l n=k)(hk:k≠0):oQ l n=l/\pe l n=k:=by
 unfold oQ;rw[h,if_pos hk];exact⟨rfl,rfl⟩
theorem Ku{l:List Node}{n:Node}(h:eM l n.id=true):oQ l n=l/\pe l n=6:=YA (by unfold pe;rw[if_pos h]) dM
theorem F0{l:List Node}{n:Node}(h:eM l n.id=false):pe l n=gI l n.af (lG n) 0:=by unfold pe;rw[if_neg (by rw[h];decide)]
theorem w0X{l:List Node}{n:Node}(h:eM l n.id=false)(h2:gI l n.af (lG n) 0≠0):oQ l n=l/\pe l n=gI l n.af (lG n) 0:=YA (F0 h) h2
theorem w0Y{l:List Node}{n:Node}(h:eM l n.id=false)(h2:gI l n.af (lG n) 0=0)(h3:bt l n.id=l.length):oQ l n=l++[n]/\pe l n=0:=by
 have e:=(F0 h).trans h2;unfold oQ tK;rw[e,if_neg (fun q=>q rfl),h3,List.take_length,List.drop_length];exact⟨rfl,rfl⟩
theorem w0Z{l:List Node}{n:Node}(h:eM l n.id=false)(h2:gI l n.af (lG n) 0=0):oQ l n=l.take (bt l n.id)++n::l.drop (bt l n.id)/\pe l n=0:=by
 have e:=(F0 h).trans h2;unfold oQ;rw[e,if_neg (fun q=>q rfl)];exact⟨rfl,rfl⟩
def ot(l:List Node)(i:Nat)(s:List aB):List Node:=
 if k9 l (l.getD i default) s≠0 then l else l.set i {(l.getD i default) with aD:=jx (l.getD i default).aD s}
structure Ut(l:List Node)(i:Nat)(s:List aB):Prop where
 len:l.length<=1048576
 sort:gH l
 dn:DN 400000000000 s
 dv:j9 s
 an:AN 400000000000 (l.getD i default).aD
theorem HJ{l:List Node}{i:Nat}{s:List aB}{k:Int}(h:k9 l (l.getD i default) s=k)(hk:k≠0):ot l i s=l/\k9 l (l.getD i default) s=k:=by
 unfold ot;rw[h,if_pos hk];exact⟨rfl,rfl⟩
theorem w00{l:List Node}{i:Nat}{s:List aB}(h:k9 l (l.getD i default) s=0):ot l i s=l.set i {(l.getD i default) with aD:=jx (l.getD i default).aD s}/\k9 l (l.getD i default) s=0:=by
 unfold ot;rw[h,if_neg (fun q=>q rfl)];exact⟨rfl,rfl⟩
theorem w2C{l:List Node}{n:Node}{s:List aB}(h:eX n.af=false/\nh n.af=false):k9 l n s=8:=by unfold k9;rw[if_pos h]
theorem L6{a b:Bool}(h:a=true\/b=true):¬(a=false/\b=false):=by rintro⟨rfl,rfl⟩;rcases h with h|h<;>cases h
theorem w2D{l:List Node}{n:Node}{s:List aB}(h:eX n.af=true\/nh n.af=true)(h2:eu s≠(n.aD.length:Int)):k9 l n s=14:=by unfold k9;rw[if_neg (L6 h),if_pos h2]
theorem w2E{l:List Node}{n:Node}{s:List aB}(h:eX n.af=true\/nh n.af=true)(h2:eu s=(n.aD.length:Int))(h3:eX n.af=true/\u7 s=false):k9 l n s=4:=by
 unfold k9;rw[if_neg (L6 h),if_neg (fun q=>q h2),if_pos h3]
theorem w2F{l:List Node}{n:Node}{s:List aB}(h:eX n.af=true\/nh n.af=true)(h2:eu s=(n.aD.length:Int))(h3:eX n.af=false\/u7 s=true):k9 l n s=Fc l n.af s:=by
 unfold k9;rw[if_neg (L6 h),if_neg (fun q=>q h2),if_neg];rintro⟨a,b⟩;rcases h3 with q|q
 ·rw[a] at q;cases q
 rw[b] at q;cases q
theorem x9r{l:List Node}{k:Int}{x:aL}(h:x.bh=0/\eX k=false):tC l k x=8:=by unfold tC;rw[if_pos h]
theorem Uv{l:List Node}{k:Int}{x:aL}(h:x.bh≠0\/eX k=true):tC l k x=gI l k (mo [x]) 0:=by
 unfold tC;rw[if_neg];rintro⟨a,b⟩;rcases h with q|q
 ·exact q a
 rw[b] at q;cases q
def pn(l:List Node)(i:Nat)(g:bP):List Node:=
 if lW l (l.getD i default) g≠0 then l else l.set i {(l.getD i default) with az:=kg (l.getD i default).az g}
structure Uw(l:List Node)(i:Nat)(g:bP):Prop where
 len:l.length<=1048576
 sort:gH l
 gl:mz g
 m:(l.getD i default).az.aH=[]
 tx:pJ (l.getD i default).az.cells
 l1:(l.getD i default).az.cells.length<=1048576
 l2:g.cells.length<=1048576
 a1:∀c∈(l.getD i default).az.cells,c.ah.length<=1048576
 a2:∀c∈g.cells,c.ah.length<=1048576
 k:(l.getD i default).af≠6
theorem Ky{l:List Node}{i:Nat}{s:bP}{k:Int}(h:lW l (l.getD i default) s=k)(hk:k≠0):pn l i s=l/\lW l (l.getD i default) s=k:=by
 unfold pn;rw[h,if_pos hk];exact⟨rfl,rfl⟩
theorem w01{l:List Node}{i:Nat}{s:bP}(h:lW l (l.getD i default) s=0):pn l i s=l.set i {(l.getD i default) with az:=kg (l.getD i default).az s}/\lW l (l.getD i default) s=0:=by
 unfold pn;rw[h,if_neg (fun q=>q rfl)];exact⟨rfl,rfl⟩
theorem w2G{l:List Node}{n:Node}{g:bP}(h:jX n.af=false):lW l n g=8:=by unfold lW;rw[if_pos h]
theorem w2H{l:List Node}{n:Node}{g:bP}(h:jX n.af=true)(h2:z28 n.af g.cells 0≠0):lW l n g=z28 n.af g.cells 0:=by unfold lW;rw[if_neg (by rw[h];decide),if_pos h2]
theorem w2I{l:List Node}{n:Node}{g:bP}(h:jX n.af=true)(h2:z28 n.af g.cells 0=0)(h3:gX n.az g≠0):lW l n g=gX n.az g:=by
 unfold lW;rw[if_neg (by rw[h];decide),if_neg (fun q=>q h2),if_pos h3]
theorem Uy{l:List Node}{n:Node}{g:bP}(h:jX n.af=true)(h2:z28 n.af g.cells 0=0)(h3:gX n.az g=0):lW l n g=rV (yW l n.af) g.cells:=by
 unfold lW;rw[if_neg (by rw[h];decide),if_neg (fun q=>q h2),if_neg (fun q=>q h3)]
theorem Fg{l:List Node}{k:Int}{c:Cell}(h:c.bh≠0):yW l k c=gI l k [c.bh] 0:=by unfold yW;rw[if_neg h]
theorem OQ{l:List Node}{k:Int}{c:Cell}(h:c.bh=0):yW l k c=0:=by unfold yW;rw[if_pos h]
theorem Uz{α:Type}[Inhabited α](f:α->Int){l:List α}{i:Nat}(h:i<l.length)(h0:f (l.getD i default)=0):rV f (l.drop i)=rV f (l.drop (i+1)):=by rw[Ff f h,if_neg (fun q=>q h0)]
theorem x9s{k:Int}(h:jX k=true)(h6:k≠6)(h2:k≠2):False:=by
 unfold jX at h;rw[qM,beq_iff_eq,beq_iff_eq] at h;omega
structure iX(l:List Node)(o:aP):Prop where
 len:l.length<=1048575
 sort:gH l
 ok:fF o=0
 op:pq o
 all:∀n∈l,kf n/\(n.az.aH=[]/\pJ n.az.cells)/\n.af≠6
theorem iX.base{l:List Node}{o:aP}(h:iX l o):l.length<=1048575/\l.length<=1048576/\gH l:=⟨h.len,by have:=h.len;omega,h.sort⟩
theorem iX.nw{l:List Node}{o:aP}(h:iX l o):kf o.nw:=h.op.nb
theorem iX.nd{l:List Node}{o:aP}(h:iX l o)(hh:eM l o.ai=true):(l.getD (bt l o.ai) default).ah.length<=1048576/\o.ah.length<=1048576:=
 ⟨(h.all _ (fE (rX.1 hh).1)).1.l6,h.op.uA⟩
theorem iX.fl{l:List Node}{o:aP}(h:iX l o)(hh:eM l o.ai=true)(hk:o.af=2):Ut l (bt l o.ai) o.aQ:=by
 have hn:=h.all _ (fE (rX.1 hh).1);have he:=h.ok;unfold fF at he;refine⟨h.base.2.1,h.sort,h.op.dn,wO.1 ?_,fun x hx=>by have:=hn.1.Yj x hx;omega⟩;split at he
 ·cases he
 split at he
 ·cases he
 have k0:¬o.af=0:=oM;have k1:¬o.af=1:=oM;rw[if_neg k0] at he;split at he
 ·cases he
 first|exact he| (rw[if_neg k1,if_pos hk] at he;exact he)
theorem iX.gr{l:List Node}{o:aP}(h:iX l o)(hh:eM l o.ai=true)(hk:o.af=3):Uw l (bt l o.ai) o.az:=by
 have hn:=h.all _ (fE (rX.1 hh).1);exact⟨h.base.2.1,h.sort,h.op.gl,hn.2.1.1,hn.2.1.2,hn.1.LX,h.op.len.c,hn.1.Yk,h.op.ga,hn.2.2⟩
theorem iX.kd{l:List Node}{o:aP}(h:iX l o)(h0:o.af≠0)(h1:o.af≠1)(h2:o.af≠2)(h3:o.af≠3):o.af=4:=by
 have he:=h.ok;unfold fF at he;split at he
 ·cases he
 omega
theorem iX.dr{l:List Node}{o:aP}(h:iX l o)(hh:eM l o.ai=true)(hk:o.af=4):(l.getD (bt l o.ai) default).draw.length<=1048576/\o.draw.length<=1048576:=
 ⟨(h.all _ (fE (rX.1 hh).1)).1.Rx,h.op.dr⟩
theorem Fi{l:List Node}{o:aP}(h:o.af=0):cn l o=oQ l o.nw/\cV l o=pe l o.nw:=by
 have e:cV l o=pe l o.nw:=by unfold cV;rw[if_pos h]
 refine⟨?_,e⟩;unfold cn oQ;rw[e,if_pos h]
theorem RD{l:List Node}{o:aP}{k:Int}(h:cV l o=k)(hk:k≠0):cn l o=l/\cV l o=k:=by
 unfold cn;rw[h,if_pos hk];exact⟨rfl,rfl⟩
theorem UA{l:List Node}{o:aP}(h:o.af≠0)(h2:eM l o.ai=false):cn l o=l/\cV l o=7:=RD (by unfold cV;rw[if_neg h,if_pos h2]) dM
theorem RE{l:List Node}{o:aP}(h:o.af≠0)(h0:cV l o=0):cn l o=l.set (bt l o.ai) (iP (l.getD (bt l o.ai) default) o):=by
 unfold cn;rw[h0,if_neg (fun q=>q rfl),if_neg h]
theorem UD{l:List Node}{o:aP}(h:eM l o.ai=true)(hk:o.af=1):cn l o=l.set (bt l o.ai) {(l.getD (bt l o.ai) default) with ah:=fm eY (l.getD (bt l o.ai) default).ah o.ah}/\cV l o=0:=by
 have e:cV l o=0:=by unfold cV;rw[if_neg oM,if_neg (by rw[h];decide),if_pos hk]
 refine⟨(RE oM e).trans ?_,e⟩;unfold iP;rw[if_pos hk]
theorem Kz{l:List Node}{o:aP}(h:eM l o.ai=true)(hk:o.af=2):cn l o=ot l (bt l o.ai) o.aQ/\cV l o=k9 l (l.getD (bt l o.ai) default) o.aQ:=by
 have e:cV l o=k9 l (l.getD (bt l o.ai) default) o.aQ:=by unfold cV;rw[if_neg oM,if_neg (by rw[h];decide),if_neg oM,if_pos hk]
 refine⟨?_,e⟩;unfold cn ot iP;rw[e,if_neg (show¬o.af=0 by omega),if_neg (show¬o.af=1 by omega),if_pos hk]
theorem KA{l:List Node}{o:aP}(h:eM l o.ai=true)(hk:o.af=3):cn l o=pn l (bt l o.ai) o.az/\cV l o=lW l (l.getD (bt l o.ai) default) o.az:=by
 have e:cV l o=lW l (l.getD (bt l o.ai) default) o.az:=by unfold cV;rw[if_neg oM,if_neg (by rw[h];decide),if_neg oM,if_neg oM,if_pos hk]
 refine⟨?_,e⟩;unfold cn pn iP;rw[e,if_neg (show¬o.af=0 by omega),if_neg (show¬o.af=1 by omega),if_neg (show¬o.af=2 by omega),if_pos hk]
theorem Jb{l:List Node}{o:aP}(h:eM l o.ai=true)(hk:o.af=4):cV l o=CQ (l.getD (bt l o.ai) default) o.draw:=by
 unfold cV;rw[if_neg oM,if_neg (by rw[h];decide),if_neg oM,if_neg oM,if_neg oM]
theorem w02{l:List Node}{o:aP}(h:eM l o.ai=true)(hk:o.af=4)(hd:rY (l.getD (bt l o.ai) default).af=false):cn l o=l/\cV l o=8:=
 RD ((Jb h hk).trans (by unfold CQ;rw[if_pos hd])) dM
theorem UF{l:List Node}{o:aP}(h:eM l o.ai=true)(hk:o.af=4)(hd:rY (l.getD (bt l o.ai) default).af=true):
 ((if(dN (l.getD (bt l o.ai) default).draw o.draw).isSome then(0:Int) else 6)=0->cn l o=l.set (bt l o.ai) {(l.getD (bt l o.ai) default) with draw:=(dN (l.getD (bt l o.ai) default).draw o.draw).getD []})/\
 ((if(dN (l.getD (bt l o.ai) default).draw o.draw).isSome then(0:Int) else 6)≠0->cn l o=l)/\cV l o=(if(dN (l.getD (bt l o.ai) default).draw o.draw).isSome then(0:Int) else 6):=by
 have e:cV l o=(if(dN (l.getD (bt l o.ai) default).draw o.draw).isSome then(0:Int) else 6):=(Jb h hk).trans (by unfold CQ;rw[if_neg (by rw[hd];decide)]);refine⟨fun h0=>(RE oM (e.trans h0)).trans ?_,fun h0=>(RD e h0).1,e⟩;unfold iP;rw[if_neg (show¬o.af=1 by omega),if_neg (show¬o.af=2 by omega),if_neg (show¬o.af=3 by omega)]
def HN:List Node->List aP->Prop
 |_,[]=>True
 |l,o::c=>iX l o/\(cV l o=0->HN (cn l o) c)
structure sD(d:Doc)(c:List aP):Prop where
 doc:fD d
 ops:∀o∈c,pq o
 run:ez d=0->jC c 0=0->HN d.aq c
theorem RF{d:Doc}{c:List aP}{k:Int}(h:gV d c=k)(hk:k≠0):jB d c=⟨[]⟩/\gV d c=k:=by
 unfold jB;rw[h,if_pos hk];exact⟨rfl,rfl⟩
theorem UH{d:Doc}{c:List aP}(h:ez d≠0):jB d c=⟨[]⟩/\gV d c=ez d:=RF (by unfold gV;rw[if_pos h]) h
theorem UI{d:Doc}{c:List aP}(h:ez d=0)(h2:jC c 0≠0):jB d c=⟨[]⟩/\gV d c=jC c 0:=RF (by unfold gV;rw[if_neg (fun q=>q h),if_pos h2]) h2
theorem RG{d:Doc}{c:List aP}(h:ez d=0)(h2:jC c 0=0):gV d c=iz d.aq c:=by unfold gV;rw[if_neg (fun q=>q h),if_neg (fun q=>q h2)]
theorem w03{d:Doc}{c:List aP}{k:Int}(h:ez d=0)(h2:jC c 0=0)(h3:iz d.aq c=k)(hk:k≠0):jB d c=⟨[]⟩/\gV d c=k:=RF ((RG h h2).trans h3) hk
theorem OY{d:Doc}{c:List aP}{l:List Node}(h:ez d=0)(h2:jC c 0=0)(h3:iz d.aq c=0)(h4:gK d.aq c=l):jB d c=⟨l⟩/\gV d c=0:=by
 have e:=(RG h h2).trans h3;unfold jB;rw[e,if_neg (fun q=>q rfl),h4];exact⟨rfl,rfl⟩
theorem RH{d:Doc}(h:ez d=0):nv d.aq 0=0:=by
 unfold ez at h;split at h
 ·cases h
 split at h
 ·rename_i q;exact absurd h q
 rename_i q;exact qc q
theorem KD{d:Doc}(h:ez d=0):gH d.aq:=RA (RH h)
theorem YB{d:Doc}(h:ez d=0):∀n∈d.aq,fT n=0:=by
 intro n hn;obtain⟨j,hj,rfl⟩:=oF hn;exact(IY _ 0 rfl (RH h)).1 j (qG _) hj
theorem YC{d:Doc}(h:ez d=0):∀n∈d.aq,1<=n.id/\n.id<=1073741824:=by
 intro n hn;have:=YB h n hn;unfold fT at this;split at this
 ·cases this
 omega
end Go.Ch
end
section
set_option maxRecDepth 100000
set_option maxHeartbeats 4000000
open Go Go.Proofs Go.Ab
namespace Go.Ch
theorem YD(x:aX):FC Tryz.prog 61 [.t (Ea x),.t (.agg [TI 0,TI 0,TN,TN])] (app emp []) (VB (ye x)) (app emp []):=by
 refine .go Tryz.f61 ?_;have e1:((ye x):Bool)=((((x.ak==0)&&(x.aj==0))&&(((x.aH).length:Int)==0))&&(((x.cells).length:Int)==0)):=by
  unfold ye;rw[zp];simp only[qq];constructor<;>(rintro⟨⟨⟨a,b⟩,c⟩,d⟩;exact⟨⟨⟨a,b⟩,d⟩,c⟩)
 exact .aG (let c:=x.ak==0;let a:=c&&(x.aj==0);let b:=a&&(((x.aH).length:Int)==0);[.r [],.r [(7,Xv 1 c X0),(9,Xv 1 c X0),(10,Xv 2 c X0),(11,X (Xk c)),(14,Xv 1 a X0),(16,Xv 1 a X0),(17,Xv 2 a (aW (x7i x.aH) X0)),(18,X (Xk a)),(21,Xv 1 b X0),(23,Xv 1 b X0),(24,Xv 2 b (aW (x7j x.cells) X0)),(25,X (Xk b))]]) [] (fun z0:Bool=>(VB z0,[])) _ _ e1
theorem z93(n:Node)(hm:n.az.aH=[]/\pJ n.az.cells):FC Tryz.prog 24 [.t (bz n)] (app emp []) (VI (fT n)) (app emp []):=by
 refine .go Tryz.f24 ?_;obtain⟨Nf,E5⟩:=hm;refine .bp (let a:=decide (n.id<1);[.r [],.r [(5,Xv 1 (!a) X0),(6,Xv 1 (!a) X0),(7,X (b7 a))]]) (decide (n.id<1)||decide (n.id>1073741824)) (fun h1=> ?_) (fun h1=> ?_)
 ·have e1:((fT n):Int)=2:=by
   (try rw[Bo false n.ah _ 0 rfl] at*)
   unfold fT
   (repeat' split)<;>first|rfl|omega| (exfalso;omega)| (simp_all;done)| (exfalso;simp_all;done)| (exfalso;simp_all;omega)|grind
  exact .aG [.r []] [] (fun z0:Int=>(VI z0,[])) _ _ e1
 refine .bp (let a:=decide (n.af<0)||decide (n.af>=13);let b:=decide (n.af<0);[.r [(5,Xv 1 (!b) X0),(6,Xv 1 (!b) X0),(7,X (b7 b)),(10,Xv 1 (!a) X0),(11,Xv 1 (!a) X0),(13,Xv 1 (!a) X0),(14,Xv 1 (!a) X0),(15,Xv 2 (!a) X0),(16,X (b7 a))]]) ((decide (n.af<0)||decide (n.af>=13))|| !((n.id==1)==(n.af==0))) (fun h3=> ?_) (fun h3=> ?_)
 ·have e2:((fT n):Int)=8:=by
   (try rw[Bo false n.ah _ 0 rfl] at*)
   unfold fT
   (repeat' split)<;>first|rfl|omega| (exfalso;omega)| (simp_all;done)| (exfalso;simp_all;done)| (exfalso;simp_all;omega)|grind
  exact .aG [.r []] [] (fun z0:Int=>(VI z0,[])) _ _ e2
 refine .bp [.r [(2,X (aW (FM n.ah) X0))],.r []] ((dO false n.ah 0) !=0) (fun h6=> ?_) (fun h6=> ?_)
 ·have e3:((fT n):Int)=(dO false n.ah 0):=by
   (try rw[Bo false n.ah _ 0 rfl] at*)
   unfold fT
   (repeat' split)<;>first|rfl|omega| (exfalso;omega)| (simp_all;done)| (exfalso;simp_all;done)| (exfalso;simp_all;omega)|grind
  exact .aG [.r []] [] (fun z0:Int=>(VI z0,[])) _ _ e3
 refine .bp (let f:=eX n.af;let a:=!(f|| (nh n.af))&&decide ((n.aD.length:Int)> 0);let b:=a|| (!(jX n.af)&& !(ye n.az));let c:=!(f|| (nh n.af));let d:=(!a)&&(!(jX n.af));let e:=(!b)&&(!(rY n.af));[.r [(2,X (aW (z82 n.af) X0)),(5,Xv 1 (!f) X0),(6,Xv 1 (!f) (aW (Uu n.af) X0)),(7,X (b7 f)),(10,X (aW (OP n.af) X0))],.r [(4,Xv 1 c X0),(5,Xv 1 c (Xl aU n.aD)),(6,Xv 1 c X0),(7,X (Xk c)),(10,Xv 1 (!a) X0),(11,Xv 1 (!a) X0),(13,Xv 1 d X0),(15,Xv 2 d (aW (YD n.az) X0)),(16,Xv 1 d X0),(17,kH (!a) (!(jX n.af))),(18,X (b7 a)),(21,Xv 1 (!b) X0),(22,Xv 1 (!b) (aW (UE n.af) X0)),(23,Xv 1 (!b) X0),(24,Xv 1 (!b) X0),(26,Xv 1 e X0),(27,Xv 1 e (Xl cm n.draw)),(28,Xv 1 e X0),(29,kH (!b) (!(rY n.af))),(30,X (b7 b))]]) (((!((eX n.af)|| (nh n.af))&&decide ((n.aD.length:Int)> 0))|| (!(jX n.af)&& !(ye n.az)))|| (!(rY n.af)&&decide ((n.draw.length:Int)> 0))) (fun h9=> ?_) (fun h9=> ?_)
 ·have e4:((fT n):Int)=4:=by
   (try rw[Bo false n.ah _ 0 rfl] at*)
   unfold fT
   (repeat' split)<;>first|rfl|omega| (exfalso;omega)| (simp_all;done)| (exfalso;simp_all;done)| (exfalso;simp_all;omega)|grind
  exact .aG [.r []] [] (fun z0:Int=>(VI z0,[])) _ _ e4
 refine .bp [.r []] ((eX n.af)|| (nh n.af)) (fun gO=> ?_) (fun gO=> ?_)
 ·have e5:((fT n):Int)=(vB (eX n.af) n.aD):=by
   (try rw[Bo false n.ah _ 0 rfl] at*)
   unfold fT
   (repeat' split)<;>first|rfl|omega| (exfalso;omega)| (simp_all;done)| (exfalso;simp_all;done)| (exfalso;simp_all;omega)|grind
  exact .aG [.r [(4,X (aW (z82 n.af) X0)),(5,X (aW (y2j n.aD (eX n.af)) X0))]] [] (fun z0:Int=>(VI z0,[])) _ _ e5
 refine .bp [.r []] (jX n.af) (fun fe=> ?_) (fun fe=> ?_)
 ·refine .bp [.r [(2,X (aW (Yb n.az aM aM) X0))],.r []] ((jI n.az) !=0) (fun ni=> ?_) (fun ni=> ?_)
  ·have e6:((fT n):Int)=(jI n.az):=by
    (try rw[Bo false n.ah _ 0 rfl] at*)
    unfold fT
    (repeat' split)<;>first|rfl|omega| (exfalso;omega)| (simp_all;done)| (exfalso;simp_all;done)| (exfalso;simp_all;omega)|grind
   exact .aG [.r []] [] (fun z0:Int=>(VI z0,[])) _ _ e6
  have e7:((fT n):Int)=(z28 n.af n.az.cells 0):=by
   (try rw[Bo false n.ah _ 0 rfl] at*)
   unfold fT
   (repeat' split)<;>first|rfl|omega| (exfalso;omega)| (simp_all;done)| (exfalso;simp_all;done)| (exfalso;simp_all;omega)|grind
  exact .aG [.r [(5,X (aW (Ux n.af n.az.cells) X0))]] [] (fun z0:Int=>(VI z0,[])) _ _ e7
 have e8:((fT n):Int)=(lX n.draw 0):=by
  (try rw[Bo false n.ah _ 0 rfl] at*)
  unfold fT
  (repeat' split)<;>first|rfl|omega| (exfalso;omega)| (simp_all;done)| (exfalso;simp_all;done)| (exfalso;simp_all;omega)|grind
 exact .aG [.r [(2,X (aW (X7 n.draw) X0))]] [] (fun z0:Int=>(VI z0,[])) _ _ e8
theorem DD(d:Doc)(hb:fD d):FC Tryz.prog 9 [.t (gU d)] (app emp []) (VI (ez d)) (app emp []):=by
 refine .go Tryz.f9 ?_;have hl:=hb.len;refine .bp [.r [],.r [(2,X (Xl bz d.aq))]] ((d.aq.length:Int)==0) (fun h1=> ?_) (fun h1=> ?_)
 ·have e1:((ez d):Int)=11:=by
   exact Yg (by omega)
  exact .aG [.r []] [] (fun z0:Int=>(VI z0,[])) _ _ e1
 refine .loop (α:=Nat) [.r [(2,X (Xl bz d.aq))]] 80 (fun i=>([(1,.ptr 0 0),(14,VL 9 bz d.aq),(15,VI (d.aq.length:Int)),(16,VI (i:Int))],[(0,.box [VL 9 bz d.aq])])) (fun i=>i<=d.aq.length/\nv d.aq 0=nv d.aq i) (fun i=>d.aq.length-i) (0:Nat) ?_ ?_
 ·exact⟨by omega,rfl⟩
 rintro i I4 kJ;try dsimp only at I4
 refine .bp [.r []] (decide ((i:Int)< (d.aq.length:Int))) (fun h4=> ?_) (fun h4=> ?_)
 ·have hn:=hb.lY _ (FZ (l:=d.aq) (i:=i) (by omega));refine .bp [.r [(1,X (Xi bz d.aq (i:Int)))],.r [(1,X (aW (z93 ((d.aq.getD i default)) (by assumption)) X0))],.r []] ((fT ((d.aq.getD i default))) !=0) (fun h7=> ?_) (fun h7=> ?_)
  ·have e2:((ez d):Int)=(fT ((d.aq.getD i default))):=by
    exact Yh (by omega) (I4.2.trans (y83 (by omega) h7)) h7
   exact .aG [.r []] [] (fun z0:Int=>(VI z0,[])) _ _ e2
  refine .bp [.r [(4,Xv 1 ((i:Int)==0) X0),(5,Xv 1 ((i:Int)==0) X0),(6,X (Xk ((i:Int)==0))),(9,Xv 1 (!(((i:Int)==0)&&((((d.aq.getD i default)).id) !=1))) X0),(10,Xv 1 (!(((i:Int)==0)&&((((d.aq.getD i default)).id) !=1))) X0),(12,Xv 1 ((!(((i:Int)==0)&&((((d.aq.getD i default)).id) !=1)))&&(decide ((i:Int)> 0))) X0),(14,Xv 1 ((!(((i:Int)==0)&&((((d.aq.getD i default)).id) !=1)))&&(decide ((i:Int)> 0))) X0),(16,Xv 1 ((!(((i:Int)==0)&&((((d.aq.getD i default)).id) !=1)))&&(decide ((i:Int)> 0))) (Xn ((i:Int)- 1))),(17,Xv 2 ((!(((i:Int)==0)&&((((d.aq.getD i default)).id) !=1)))&&(decide ((i:Int)> 0))) (yV bz d.aq ((i:Int)- 1) (i- 1))),(18,Xv 1 ((!(((i:Int)==0)&&((((d.aq.getD i default)).id) !=1)))&&(decide ((i:Int)> 0))) X0),(19,Xv 1 ((!(((i:Int)==0)&&((((d.aq.getD i default)).id) !=1)))&&(decide ((i:Int)> 0))) X0),(20,Xv 2 ((!(((i:Int)==0)&&((((d.aq.getD i default)).id) !=1)))&&(decide ((i:Int)> 0))) X0),(21,kH (!(((i:Int)==0)&&((((d.aq.getD i default)).id) !=1))) (decide ((i:Int)> 0))),(22,X (b7 (((i:Int)==0)&&((((d.aq.getD i default)).id) !=1))))]] ((((i:Int)==0)&&((((d.aq.getD i default)).id) !=1))|| (decide ((i:Int)> 0)&&decide ((((d.aq.getD i default)).id)<=(((d.aq.getD (i- 1) default)).id)))) (fun h9=> ?_) (fun h9=> ?_)
  ·have e3:((ez d):Int)=5:=by
    exact Yh (by omega) (I4.2.trans (y84 (by omega) h7 (by rcases h9 with q|q;(left;obtain⟨q1,q2⟩:=q;have q3:i=0:=(by omega);subst q3;exact⟨rfl,q2⟩);(right;omega)))) (by decide)
   exact .aG [.r []] [] (fun z0:Int=>(VI z0,[])) _ _ e3
  refine .back [.r [(0,X (Xn ((i:Int)+1)))]] [(0,0)] (kJ ((i+1):Nat) ?_ ?_)
  ·exact⟨by omega,I4.2.trans (y5D (by omega) h7 (by rintro(⟨q1,q2⟩|q);(subst q1;rcases h9.1 with q|q;(exact q rfl);(exact q2 q));(rcases h9.2 with q3|q3<;>omega)))⟩
  ((try dsimp only);omega)
 refine .loop (α:=Nat) [.r [(2,X (Xl bz d.aq))]] 120 (fun j=>([(1,.ptr 0 0),(51,VL 9 bz d.aq),(52,VI (d.aq.length:Int)),(53,VI (j:Int))],[(0,.box [VL 9 bz d.aq])])) (fun j=>j<=d.aq.length/\sL d.aq 0=sL d.aq j) (fun j=>d.aq.length-j) (0:Nat) ?_ ?_
 ·exact⟨by omega,rfl⟩
 rintro j dD gj;try dsimp only at dD
 refine .bp [.r []] (decide ((j:Int)< (d.aq.length:Int))) (fun fe=> ?_) (fun fe=> ?_)
 ·have hn:=hb.all _ (FZ (l:=d.aq) (i:=j) (by omega));have hs:=RA (I4.2.trans (z76 (by omega)));refine .bp [.r [(0,X (Xi bz d.aq (j:Int)))],.r [(4,X (bV 192 (Ur ((d.aq.getD j default)) (by assumption)) X0)),(5,X (aW (Kx d (((d.aq.getD j default)).af) (lG ((d.aq.getD j default))) (by assumption) (by assumption)) X0))],.r []] ((gI (d).aq (((d.aq.getD j default)).af) (lG ((d.aq.getD j default))) 0) !=0) (fun eO=> ?_) (fun eO=> ?_)
  ·have e4:((ez d):Int)=(gI (d).aq (((d.aq.getD j default)).af) (lG ((d.aq.getD j default))) 0):=by
    exact Yi (by omega) (I4.2.trans (z76 (by omega))) (dD.2.trans (x4g (by omega) eO))
   exact .aG [.r []] [] (fun z0:Int=>(VI z0,[])) _ _ e4
  refine .back [.r [(0,X (Xn ((j:Int)+1)))]] [(0,0)] (gj ((j+1):Nat) ?_ ?_)
  ·exact⟨by omega,dD.2.trans (x05 (by omega) eO)⟩
  ((try dsimp only);omega)
 have e5:((ez d):Int)=0:=by
  exact Yi (by omega) (I4.2.trans (z76 (by omega))) (dD.2.trans (x4h (by omega)))
 exact .aG [.r []] [] (fun z0:Int=>(VI z0,[])) _ _ e5
end Go.Ch
end
section
namespace Go.Ch
open Go Go.Ab
theorem Jc{α:Type}[Inhabited α]{l:List α}{i n:Nat}{z x:α}(hn:n=l.length)(hi:i<n)(hx:x=l.getD i default):(l.take i++List.replicate (n-i) z).set i x=l.take (i+1)++List.replicate (n- (i+1)) z:=by
 subst hn;have h1:(l.take i).length=i:=by simp;omega
 rw[List.set_append,if_neg oM,h1,Nat.sub_self,show l.length-i=(l.length- (i+1))+1 by omega,qH,List.set_cons_zero,qt hi,hx,qI];simp only[List.getD,qa hi,zG];rfl
theorem RI{α:Type}[Inhabited α]{l:List α}{i:Nat}{x:α}(hx:x=l.getD i default):l.set i x=l:=by
 subst hx;by_cases h:i<l.length
 ·rw[qd,qa h];simp
 rw[List.set_eq_of_length_le oM]
end Go.Ch
end
section
set_option maxRecDepth 100000
set_option maxHeartbeats 4000000
open Go Go.Proofs Go.Ab
namespace Go.Ch
theorem YE(l:List aL)(hn:l.length<=1048576)(hs:∀x∈l,x.ah.length<=1048576):FC Tryz.prog 90 [VL 3 aU l] (app emp []) (VL 3 aU l) (app emp []):=by
 refine .go Tryz.f90 ?_;refine .len 0 (fun dQ=> ?_);refine .loop (α:=Nat×(List aL)) [.r [],.r [(1,X (Xl aU l)),(2,X (IC 3 aU 24 (l.length:Int) (l.length:Int) ({aT:=0,bh:=0,ah:=[]}:aL) [TI 0,TI 0,TN] ⟨.inl rfl,⟨.inl rfl,⟨jQ (by decide),trivial⟩⟩⟩))],.r [(1,X (Xl aU l))]] 64 (fun(i,o)=>([(3,.aF 24 l.length),(9,VL 3 aU l),(10,VI (l.length:Int)),(11,VI (i:Int))],[(24,OR 3 aU o)])) (fun(i,o)=>i<=l.length/\o=l.take i++List.replicate (l.length-i) ({aT:=0,bh:=0,ah:=[]}:aL)) (fun(i,o)=>l.length-i) (0,(List.replicate l.length ({aT:=0,bh:=0,ah:=[]}:aL))) ?_ ?_
 ·exact⟨by omega,by simp⟩
 rintro⟨i,o⟩ I3 cC;try dsimp only at I3
 have ol:o.length=l.length:=by rw[I3.2];simp;omega
 refine .bp [.r []] (decide ((i:Int)< (l.length:Int))) (fun h3=> ?_) (fun h3=> ?_)
 ·have hx:=hs _ (IL (l:=l) (k:=i) (by omega));refine .back [.r [(1,X (Xi aU l (i:Int)))],.r [(8,X (o5 aS 184 (((l.getD i default)).ah))),(10,X (nr l.length aU o (i:Int))),(11,X (cg aS (((l.getD i default)).ah) (tE l.length 3 aU 24 o i ((l.getD i default)) [(184,OF 2 aS (((l.getD i default)).ah))])))],.r [(0,X (Xn ((i:Int)+1)))]] [(24,24)] (cC ((i+1),(o.set i ((l.getD i default)))) ?_ ?_)
  ·refine⟨by omega,?_⟩;rw[I3.2];exact Jc rfl (by omega) rfl
  ((try dsimp only);omega)
 have e1:(l:List aL)=o:=by
  rw[I3.2,qk (by omega),show l.length-i=0 by omega];simp
 exact .aG [.r [],.le (.fr 2 [(l.length:Nat)=(List.map aU o).length] ⟨lm,trivial⟩)] [] (fun z0:List aL=>(VL 3 aU z0,[])) _ _ e1
theorem HI(n:Node)(hb:kf n):FC Tryz.prog 49 [.t (bz n)] (app emp []) (.t (bz n)) (app emp []):=by
 refine .go Tryz.f49 ?_;have b1:=hb.l6;have b2:=hb.LW;have b3:=hb.Yj;have b4:=hb.LX;have b5:=hb.me;have b6:=hb.Rx;refine .loop (α:=Nat×(List Cell)) [.r [],.r [(2,X (o5 aS 32 n.ah))],.r [(2,X (bV 72 (YE n.aD (by assumption) (by assumption)) X0))],.r [(2,X (o5 cm 112 n.draw))],.r [],.r [(2,X (o5 bE 184 n.az.aH))],.r [(2,X (o5 bg 224 n.az.cells))],.r []] 280 (fun(i,o)=>([(1,.ptr 0 0),(2,.ptr 8 0),(3,.ptr 152 0),(29,.aF 224 o.length),(30,VI (n.az.cells.length:Int)),(31,VI (i:Int))],[(0,.box [VI n.id,VI n.af,.aF 32 n.ah.length,VL 3 aU n.aD,VI n.az.ak,VI n.az.aj,VL 5 bg n.az.cells,VL 4 bE n.az.aH,.aF 112 n.draw.length]),(8,.box [VI 0,VI 0,VN,VN,VI 0,VI 0,VN,VN,VN]),(32,OR 2 aS n.ah),(112,OR 8 cm n.draw),(152,.box [VI n.az.ak,VI n.az.aj,.aF 224 o.length,.aF 184 n.az.aH.length]),(184,OR 4 bE n.az.aH),(224,OR 5 bg o)])) (fun(i,o)=>i<=n.az.cells.length/\o=n.az.cells) (fun(i,o)=>n.az.cells.length-i) (0,n.az.cells) ?_ ?_
 ·exact⟨by omega,rfl⟩
 rintro⟨i,o⟩ I8 u9;try dsimp only at I8
 have ol:o.length=n.az.cells.length:=by rw[I8.2]
 refine .bp [.r []] (decide ((i:Int)< (n.az.cells.length:Int))) (fun h8=> ?_) (fun h8=> ?_)
 ·have hc:=hb.Yk (o.getD i default) (by rw[I8.2];exact fE (by omega));refine .back [.r [(1,X (Xp bg o (i:Int))),(2,X (Xe bg o i))],.r [(5,X (o5 aS 376 (((o.getD i default)).ah))),(6,X (Xp bg o (i:Int))),(8,X (cg aS (((o.getD i default)).ah) (Xs 5 bg 224 o i ((o.getD i default)) [(376,OF 2 aS (((o.getD i default)).ah))])))],.r [(0,X (Xn ((i:Int)+1)))],.le (.eq 29 (.aF 224 o.length) (.aF 224 ((o.set i ((o.getD i default))).length)) (.of_eq (by simp only[zt]))),.le (.eb 152 2 (.aF 224 o.length) (.aF 224 ((o.set i ((o.getD i default))).length)) (by simp only[zt]))] [(0,0),(8,8),(32,32),(112,112),(152,152),(184,184),(224,224)] (u9 ((i+1),(o.set i ((o.getD i default)))) ?_ ?_)
  ·refine⟨by omega,?_⟩;rw[I8.2];exact RI rfl
  ((try dsimp only);omega)
 have e1:(n:Node)=({id:=n.id,af:=n.af,ah:=n.ah,aD:=n.aD,az:=({ak:=n.az.ak,aj:=n.az.aj,cells:=o,aH:=n.az.aH}:aX),draw:=n.draw}:Node):=by
  rw[I8.2]
 exact .bA [.r [],.r []] [.fR 0 [(n.ah.length:Nat)=(List.map aS n.ah).length,(o.length:Nat)=(List.map bg o).length,(n.az.aH.length:Nat)=(List.map bE n.az.aH).length,(n.draw.length:Nat)=(List.map cm n.draw).length] ⟨lm,lm,lm,lm,trivial⟩] [] (fun z0:Node=>(.t (bz z0),[])) _ _ e1
theorem x1h(d:Doc)(hb:DocB d):FC Tryz.prog 22 [.t (gU d)] (app emp []) (.agg [.aF 1 d.aq.length]) (app emp [(0,.box [.aF 1 d.aq.length]),(1,OR 9 bz d.aq)]):=by
 refine .go Tryz.f22 ?_;have hl:=hb.len;refine .loop (α:=Nat×(List Node)) (let a:=({id:=0,af:=0,ah:=[],aD:=[],az:=({ak:=0,aj:=0,cells:=[],aH:=[]}:aX),draw:=[]}:Node);[.r [],.r [(2,X (Xl bz d.aq)),(3,X (IC 9 bz 40 (d.aq.length:Int) (d.aq.length:Int) a [TI 0,TI 0,TN,TN,TI 0,TI 0,TN,TN,TN] ⟨.inl rfl,⟨.inl rfl,⟨jQ dM,⟨jQ dM,⟨.inl rfl,⟨.inl rfl,⟨jQ dM,⟨jQ dM,⟨jQ dM,trivial⟩⟩⟩⟩⟩⟩⟩⟩⟩))],.r [(2,X (Xl bz d.aq))],.le (.eb 56 0 (.aF 40 d.aq.length) (.aF 40 ((List.replicate d.aq.length a).length)) (by simp only[zd]))]) 104 (fun(i,o)=>([(2,.ptr 8 0),(3,.ptr 56 0),(12,VL 9 bz d.aq),(13,VI (d.aq.length:Int)),(14,VI (i:Int))],[(8,.box [VN]),(40,OR 9 bz o),(56,.box [.aF 40 o.length])])) (fun(i,o)=>i<=d.aq.length/\o=d.aq.take i++List.replicate (d.aq.length-i) ({id:=0,af:=0,ah:=[],aD:=[],az:=({ak:=0,aj:=0,cells:=[],aH:=[]}:aX),draw:=[]}:Node)) (fun(i,o)=>d.aq.length-i) (0,(List.replicate d.aq.length ({id:=0,af:=0,ah:=[],aD:=[],az:=({ak:=0,aj:=0,cells:=[],aH:=[]}:aX),draw:=[]}:Node))) ?_ ?_
 ·exact⟨oM,sM⟩
 rintro⟨i,o⟩ I3 cC;try dsimp only at I3
 have ol:o.length=d.aq.length:=by rw[I3.2];simp;omega
 refine .bp [.r []] (decide ((i:Int)< (d.aq.length:Int))) (fun h3=> ?_) (fun h3=> ?_)
 ·have hx:=hb.all _ (FZ (l:=d.aq) (i:=i) oM);refine .back (let a:=((d.aq.getD i default));[.r [(1,X (Xi bz d.aq (i:Int)))],.r [(4,X (bV 192 (HI a aM) X0)),(5,X (Xp bz o (i:Int))),(6,X (Xs 9 bz 40 o i (a)))],.r [(0,X (Xn ((i:Int)+1)))],.le (.eb 56 0 (.aF 40 o.length) (.aF 40 ((o.set i (a)).length)) (by simp only[zt]))]) [(8,8),(40,40),(56,56)] (cC ((i+1),(o.set i (((d.aq.getD i default))))) ?_ ?_)
  ·refine⟨oM,?_⟩;rw[I3.2];exact Jc rfl oM rfl
  exact tO
 have e1:(d.aq.length:Nat)=o.length:=by
  first|omega| (rw[I3.2,qk oM,show d.aq.length-i=0 by omega];simp)
 have e2:(d.aq:List Node)=o:=by
  first|omega| (rw[I3.2,qk oM,show d.aq.length-i=0 by omega];simp)
 exact .aG [.r []] [(8,0),(40,1)] (fun((z0,z1):Nat×(List Node))=>(.agg [.aF 1 z0],[(0,.box [.aF 1 z0]),(1,OR 9 bz z1)])) _ _ (pr e1 e2)
theorem x4o{α:Type}[Inhabited α]{l:List α}{i n:Nat}{z x:α}(hn:n=l.length)(hi:i<n)(hx:x=l.getD i default):(l.take i++List.replicate (n-i) z).set i x=l.take (i+1)++List.replicate (n- (i+1)) z:=by
 subst hn;have h1:(l.take i).length=i:=by simp;omega
 rw[List.set_append,if_neg oM,h1,Nat.sub_self,show l.length-i=(l.length- (i+1))+1 by omega,qH,List.set_cons_zero,qt hi,hx,qI];simp only[List.getD,qa hi,zG];rfl
theorem YF(l:List aL)(hn:l.length<=1000000000000)(hs:AN 400000000000 l):FC Tryz.prog 90 [VL 3 aU l] (app emp []) (VL 3 aU l) (app emp []):=by
 refine .go Tryz.f90 ?_;refine .len 0 (fun dQ=> ?_);refine .loop (α:=Nat×(List aL)) [.r [],.r [(1,X (Xl aU l)),(2,X (IC 3 aU 24 (l.length:Int) (l.length:Int) ({aT:=0,bh:=0,ah:=[]}:aL) [TI 0,TI 0,TN] ⟨.inl rfl,⟨.inl rfl,⟨jQ (by decide),trivial⟩⟩⟩))],.r [(1,X (Xl aU l))]] 64 (fun(i,o)=>([(3,.aF 24 l.length),(9,VL 3 aU l),(10,VI (l.length:Int)),(11,VI (i:Int))],[(24,OR 3 aU o)])) (fun(i,o)=>i<=l.length/\o=l.take i++List.replicate (l.length-i) ({aT:=0,bh:=0,ah:=[]}:aL)) (fun(i,o)=>l.length-i) (0,(List.replicate l.length ({aT:=0,bh:=0,ah:=[]}:aL))) ?_ ?_
 ·exact⟨by omega,by simp⟩
 rintro⟨i,o⟩ I3 cC;try dsimp only at I3
 have ol:o.length=l.length:=by rw[I3.2];simp;omega
 refine .bp [.r []] (decide ((i:Int)< (l.length:Int))) (fun h3=> ?_) (fun h3=> ?_)
 ·have hx:=hs _ (IL (l:=l) (k:=i) (by omega));refine .back [.r [(1,X (Xi aU l (i:Int)))],.r [(8,X (o5 aS 184 (((l.getD i default)).ah))),(10,X (nr l.length aU o (i:Int))),(11,X (cg aS (((l.getD i default)).ah) (tE l.length 3 aU 24 o i ((l.getD i default)) [(184,OF 2 aS (((l.getD i default)).ah))])))],.r [(0,X (Xn ((i:Int)+1)))]] [(24,24)] (cC ((i+1),(o.set i ((l.getD i default)))) ?_ ?_)
  ·refine⟨by omega,?_⟩;rw[I3.2];exact x4o rfl (by omega) rfl
  ((try dsimp only);omega)
 have e1:(l:List aL)=o:=by
  rw[I3.2,qk (by omega),show l.length-i=0 by omega];simp
 exact .aG [.r [],.le (.fr 2 [(l.length:Nat)=(List.map aU o).length] ⟨lm,trivial⟩)] [] (fun z0:List aL=>(VL 3 aU z0,[])) _ _ e1
theorem x4p{l:List aL}{i:Nat}{z:aL}{f:aL->aL}(hi:i<l.length){y:aL}(hy:y=f (l.getD i default)):((l.take i).map f++List.replicate (l.length-i) z).set i y=(l.take (i+1)).map f++List.replicate (l.length- (i+1)) z:=by
 have h1:((l.take i).map f).length=i:=by simp;omega
 rw[List.set_append,if_neg oM,h1,Nat.sub_self,show l.length-i=(l.length- (i+1))+1 by omega,qH,List.set_cons_zero,qt hi,hy,zo,qI];simp only[List.getD,qa hi,zG];rfl
theorem YG(l:List aL)(c:List aI)(hn:l.length<=1000000000000)(hs:∀x∈l,x.ah.length+c.length<1099511627776):FC Tryz.prog 165 [VL 3 aU l,VL 2 aS c] (app emp []) (VL 3 aU (List.map (lM c) l)) (app emp []):=by
 refine .go Tryz.f165 ?_;refine .len 0 (fun dQ=> ?_);refine .len 1 (fun gW=> ?_);refine .loop (α:=Nat×(List aL)) [.r [],.r [(1,X (Xl aU l)),(2,X (IC 3 aU 24 (l.length:Int) (l.length:Int) ({aT:=0,bh:=0,ah:=[]}:aL) [TI 0,TI 0,TN] ⟨.inl rfl,⟨.inl rfl,⟨jQ dM,trivial⟩⟩⟩))],.r [(1,X (Xl aU l))]] 64 (fun(i,o)=>([(1,VL 2 aS c),(5,.aF 24 l.length),(11,VL 3 aU l),(12,VI (l.length:Int)),(13,VI (i:Int))],[(24,OR 3 aU o)])) (fun(i,o)=>i<=l.length/\o=(l.take i).map (lM c)++List.replicate (l.length-i) ({aT:=0,bh:=0,ah:=[]}:aL)) (fun(i,o)=>l.length-i) (0,(List.replicate l.length ({aT:=0,bh:=0,ah:=[]}:aL))) ?_ ?_
 ·exact⟨oM,sM⟩
 rintro⟨i,o⟩ I3 cC;try dsimp only at I3
 have ol:o.length=l.length:=by rw[I3.2];simp;omega
 refine .bp [.r []] (decide ((i:Int)< (l.length:Int))) (fun h3=> ?_) (fun h3=> ?_)
 ·have hx:=hs _ (IL (l:=l) (k:=i) oM);refine .back (let a:=((l.getD i default));[.r [(1,X (Xi aU l (i:Int)))],.r [(3,X (bV 144 (DC (a.ah) c oM) X0))],.r [(3,X (nr l.length aU o (i:Int))),(4,X (tE l.length 3 aU 24 o i ({aT:=a.aT,bh:=a.bh,ah:=(fm eY (a.ah) c)}:aL)))],.r [(0,X (Xn ((i:Int)+1)))]]) [(24,24)] (cC ((i+1),(o.set i ({aT:=((l.getD i default)).aT,bh:=((l.getD i default)).bh,ah:=(fm eY (((l.getD i default)).ah) c)}:aL))) ?_ ?_)
  ·refine⟨oM,?_⟩;rw[I3.2];exact x4p oM rfl
  exact tO
 have e1:((List.map (lM c) l):List aL)=o:=by
  rw[I3.2,qk oM,show l.length-i=0 by omega];simp
 exact .aG [.r [],.le (.fr 4 [(l.length:Nat)=(List.map aU o).length] ⟨lm,trivial⟩)] [] (fun z0:List aL=>(VL 3 aU z0,[])) _ _ e1
def UP(s:ByteArray)(i:Nat):aL:=⟨(gQ s i:Int),0,[]⟩
def HO(s:ByteArray):List aL:=(List.range s.size).map (UP s)
theorem YH(x:aB):FC Tryz.prog 148 [.t (bB x)] (app emp []) (VI (fZ x)) (app emp []):=by
 refine .go Tryz.f148 ?_;refine .bp [.r [],.r [],.r []] (x.af==0) (fun h2=> ?_) (fun h2=> ?_)
 ·refine .bp [] (x.af==0) (fun h2=> ?_) (fun h2=> ?_)
  ·refine .bp (let a:=decide ((x.elems.length:Int)> 0);let b:=(!a)&&(x.af==2);[.r [(2,X (Xl aU x.elems)),(6,Xv 1 (!a) X0),(7,Xv 1 (!a) X0),(8,Xv 1 (!a) X0),(10,Xv 1 b X0),(11,Xv 1 b (Xl aS x.ah)),(12,Xv 1 b X0),(13,kH (!a) (x.af==2)),(14,X (b7 a))]]) (decide ((x.elems.length:Int)> 0)|| ((x.af==2)&&decide ((x.ah.length:Int)> 0))) (fun h4=> ?_) (fun h4=> ?_)
   ·have e1:((fZ x):Int)=4:=by
     unfold fZ;exact iF
    exact .aG [.r []] [] (fun z0:Int=>(VI z0,[])) _ _ e1
   refine .bp (let a:=decide (x.n<1);[.r [(5,Xv 1 (!a) X0),(6,Xv 1 (!a) X0),(7,X (b7 a))]]) (decide (x.n<1)||decide (x.n>2147483647)) (fun h6=> ?_) (fun h6=> ?_)
   ·have e2:((fZ x):Int)=2:=by
     unfold fZ;exact iF
    exact .aG [.r []] [] (fun z0:Int=>(VI z0,[])) _ _ e2
   have e3:((fZ x):Int)=(dO true x.ah 0):=by
    unfold fZ;exact iF
   exact .aG [.r [(2,X (aW (CF x.ah) X0))]] [] (fun z0:Int=>(VI z0,[])) _ _ e3
  refine .bp [.r []] (x.af==1) (fun h9=> ?_) (fun h9=> ?_)
  ·refine .bp (let a:=x.n !=0;[.r [(5,Xv 1 (!a) X0),(6,Xv 1 (!a) (Xl aS x.ah)),(7,Xv 1 (!a) X0),(8,X (b7 a))]]) ((x.n !=0)||decide ((x.ah.length:Int)> 0)) (fun eE=> ?_) (fun eE=> ?_)
   ·have e4:((fZ x):Int)=4:=by
     unfold fZ;exact iF
    exact .aG [.r []] [] (fun z0:Int=>(VI z0,[])) _ _ e4
   refine .bp [.r [(2,X (Xl aU x.elems))]] ((x.elems.length:Int)==0) (fun fJ=> ?_) (fun fJ=> ?_)
   ·have e5:((fZ x):Int)=11:=by
     unfold fZ;exact iF
    exact .aG [.r []] [] (fun z0:Int=>(VI z0,[])) _ _ e5
   have e6:((fZ x):Int)=(z54 x.elems 0):=by
    unfold fZ;exact iF
   exact .aG [.r [(2,X (aW (XC x.elems) X0))]] [] (fun z0:Int=>(VI z0,[])) _ _ e6
  have e7:((fZ x):Int)=8:=by
   unfold fZ;exact iF
  exact .aG [.r []] [] (fun z0:Int=>(VI z0,[])) _ _ e7
 refine .bp [.r []] (x.af==2) (fun h3=> ?_) (fun h3=> ?_)
 ·refine .bp (let a:=decide ((x.elems.length:Int)> 0);let b:=(!a)&&(x.af==2);[.r [(2,X (Xl aU x.elems)),(6,Xv 1 (!a) X0),(7,Xv 1 (!a) X0),(8,Xv 1 (!a) X0),(10,Xv 1 b X0),(11,Xv 1 b (Xl aS x.ah)),(12,Xv 1 b X0),(13,kH (!a) (x.af==2)),(14,X (b7 a))]]) (decide ((x.elems.length:Int)> 0)|| ((x.af==2)&&decide ((x.ah.length:Int)> 0))) (fun h4=> ?_) (fun h4=> ?_)
  ·have e8:((fZ x):Int)=4:=by
    unfold fZ;exact iF
   exact .aG [.r []] [] (fun z0:Int=>(VI z0,[])) _ _ e8
  refine .bp (let a:=decide (x.n<1);[.r [(5,Xv 1 (!a) X0),(6,Xv 1 (!a) X0),(7,X (b7 a))]]) (decide (x.n<1)||decide (x.n>2147483647)) (fun h6=> ?_) (fun h6=> ?_)
  ·have e9:((fZ x):Int)=2:=by
    unfold fZ;exact iF
   exact .aG [.r []] [] (fun z0:Int=>(VI z0,[])) _ _ e9
  have kE:((fZ x):Int)=(dO true x.ah 0):=by
   unfold fZ;exact iF
  exact .aG [.r [(2,X (aW (CF x.ah) X0))]] [] (fun z0:Int=>(VI z0,[])) _ _ kE
 refine .bp [.r []] (x.af==1) (fun h9=> ?_) (fun h9=> ?_)
 ·refine .bp (let a:=x.n !=0;[.r [(5,Xv 1 (!a) X0),(6,Xv 1 (!a) (Xl aS x.ah)),(7,Xv 1 (!a) X0),(8,X (b7 a))]]) ((x.n !=0)||decide ((x.ah.length:Int)> 0)) (fun eE=> ?_) (fun eE=> ?_)
  ·have lg:((fZ x):Int)=4:=by
    unfold fZ;exact iF
   exact .aG [.r []] [] (fun z0:Int=>(VI z0,[])) _ _ lg
  refine .bp [.r [(2,X (Xl aU x.elems))]] ((x.elems.length:Int)==0) (fun fJ=> ?_) (fun fJ=> ?_)
  ·have lu:((fZ x):Int)=11:=by
    unfold fZ;exact iF
   exact .aG [.r []] [] (fun z0:Int=>(VI z0,[])) _ _ lu
  have nP:((fZ x):Int)=(z54 x.elems 0):=by
   unfold fZ;exact iF
  exact .aG [.r [(2,X (aW (XC x.elems) X0))]] [] (fun z0:Int=>(VI z0,[])) _ _ nP
 have nQ:((fZ x):Int)=8:=by
  unfold fZ;exact iF
 exact .aG [.r []] [] (fun z0:Int=>(VI z0,[])) _ _ nQ
theorem By(x:aB):FC Tryz.prog 150 [.t (bB x)] (app emp []) (VI (cE x)) (app emp []):=by
 refine .go Tryz.f150 ?_;refine .bp [.r [],.r []] (x.af==1) (fun h1=> ?_) (fun h1=> ?_)
 ·have e1:((cE x):Int)=(x.elems.length:Int):=by
   unfold cE;exact iF
  exact .aG [.r [(2,X (Xl aU x.elems))]] [] (fun z0:Int=>(VI z0,[])) _ _ e1
 have e2:((cE x):Int)=x.n:=by
  unfold cE;exact iF
 exact .aG [.r []] [] (fun z0:Int=>(VI z0,[])) _ _ e2
theorem Cp(l:List aB)(hd:DN 400000000000 l):FC Tryz.prog 88 [VL 4 bB l] (app emp []) (VI (k8 l)) (app emp []):=by
 refine .go Tryz.f88 ?_;refine .len 0 (fun dQ=> ?_);refine .loop (α:=Int×Int×Nat) [.r [],.r [],.r [(1,X (Xl bB l))]] 48 (fun(b,a,i)=>([(0,VL 4 bB l),(3,VI b),(4,VI a),(9,VL 4 bB l),(10,VI (l.length:Int)),(11,VI (i:Int))],[])) (fun(b,a,i)=>i<=l.length/\0<=b/\b<=2147483648/\0<=a/\a<=2147483648/\k8 l=sn l i b a) (fun(b,a,i)=>l.length-i) (0,0,0) ?_ ?_
 ·exact⟨by omega,by decide,by decide,by decide,by decide,rfl⟩
 rintro⟨b,a,i⟩ I3 cC;try dsimp only at I3
 refine .bp [.r []] (decide ((i:Int)< (l.length:Int))) (fun h3=> ?_) (fun h3=> ?_)
 ·refine .bp [.r [(1,X (Xi bB l (i:Int)))],.r [(1,X (aW (YH ((l.getD i default))) X0))],.r []] ((fZ ((l.getD i default))) !=0) (fun h6=> ?_) (fun h6=> ?_)
  ·have e1:((k8 l):Int)=(fZ ((l.getD i default))):=by
    rw[I3.2.2.2.2.2,sn];((repeat' split)<;>first|rfl|omega| (simp_all;done)| (simp_all;omega))
   exact .aG [.r []] [] (fun z0:Int=>(VI z0,[])) _ _ e1
  have hz:=tJ (s:=l.getD i default) (by omega);obtain⟨hx,_,_⟩:=hd.at_ (k:=i) (by omega);refine .bp [.r []] (decide ((i:Int)> 0)) (fun h8=> ?_) (fun h8=> ?_)
  ·refine .bp [.r [(2,X (Xn ((i:Int)- 1))),(3,X (yV bB l ((i:Int)- 1) (i- 1)))],.r [(7,Xv 1 ((((l.getD (i- 1) default)).af)==(((l.getD i default)).af)) X0),(8,Xv 1 ((((l.getD (i- 1) default)).af)==(((l.getD i default)).af)) X0),(9,Xv 1 ((((l.getD (i- 1) default)).af)==(((l.getD i default)).af)) X0),(11,Xv 1 (((((l.getD (i- 1) default)).af)==(((l.getD i default)).af))&& !((((l.getD i default)).af) !=0)) X0),(13,Xv 1 (((((l.getD (i- 1) default)).af)==(((l.getD i default)).af))&& !((((l.getD i default)).af) !=0)) X0),(14,Xv 2 (((((l.getD (i- 1) default)).af)==(((l.getD i default)).af))&& !((((l.getD i default)).af) !=0)) (aW (QU (((l.getD (i- 1) default)).ah) (((l.getD i default)).ah)) X0)),(15,x5 ((((l.getD (i- 1) default)).af)==(((l.getD i default)).af)) ((((l.getD i default)).af) !=0)),(16,X (Xk ((((l.getD (i- 1) default)).af)==(((l.getD i default)).af)))),(19,Xv 1 (!(((((l.getD (i- 1) default)).af)==(((l.getD i default)).af))&&(((((l.getD i default)).af) !=0)|| (iN (((l.getD (i- 1) default)).ah) (((l.getD i default)).ah))))) X0),(20,Xv 1 (!(((((l.getD (i- 1) default)).af)==(((l.getD i default)).af))&&(((((l.getD i default)).af) !=0)|| (iN (((l.getD (i- 1) default)).ah) (((l.getD i default)).ah))))) X0),(21,Xv 1 (!(((((l.getD (i- 1) default)).af)==(((l.getD i default)).af))&&(((((l.getD i default)).af) !=0)|| (iN (((l.getD (i- 1) default)).ah) (((l.getD i default)).ah))))) X0),(23,Xv 1 ((!(((((l.getD (i- 1) default)).af)==(((l.getD i default)).af))&&(((((l.getD i default)).af) !=0)|| (iN (((l.getD (i- 1) default)).ah) (((l.getD i default)).ah)))))&&((((l.getD (i- 1) default)).af)==2)) X0),(24,Xv 1 ((!(((((l.getD (i- 1) default)).af)==(((l.getD i default)).af))&&(((((l.getD i default)).af) !=0)|| (iN (((l.getD (i- 1) default)).ah) (((l.getD i default)).ah)))))&&((((l.getD (i- 1) default)).af)==2)) X0),(25,kH (!(((((l.getD (i- 1) default)).af)==(((l.getD i default)).af))&&(((((l.getD i default)).af) !=0)|| (iN (((l.getD (i- 1) default)).ah) (((l.getD i default)).ah))))) ((((l.getD (i- 1) default)).af)==2)),(26,X (b7 (((((l.getD (i- 1) default)).af)==(((l.getD i default)).af))&&(((((l.getD i default)).af) !=0)|| (iN (((l.getD (i- 1) default)).ah) (((l.getD i default)).ah))))))]] ((((((l.getD (i- 1) default)).af)==(((l.getD i default)).af))&&(((((l.getD i default)).af) !=0)|| (iN (((l.getD (i- 1) default)).ah) (((l.getD i default)).ah))))|| (((((l.getD (i- 1) default)).af)==2)&&((((l.getD i default)).af)==1))) (fun eE=> ?_) (fun eE=> ?_)
   ·have e2:((k8 l):Int)=5:=by
     rw[I3.2.2.2.2.2,sn,if_pos (by omega),if_neg (by omega),if_pos ⟨by omega,L0.2 eE⟩]
    exact .aG [.r []] [] (fun z0:Int=>(VI z0,[])) _ _ e2
   refine .bp [.r []] ((((l.getD i default)).af) !=1) (fun fJ=> ?_) (fun fJ=> ?_)
   ·refine .bp [.r [(3,X (Xn (b+(((l.getD i default)).n)))),(4,X (vq (b+(((l.getD i default)).n)) 2147483648))],.r []] ((((l.getD i default)).af) !=2) (fun eN=> ?_) (fun eN=> ?_)
    ·refine .at 528 [(80,80)] ([(0,VL 4 bB l),(3,VI (min (b+(((l.getD i default)).n)) 2147483648)),(4,VI a),(6,.ptr 80 0),(9,VL 4 bB l),(10,VI (l.length:Int)),(11,VI (i:Int)),(65,VB ((((l.getD i default)).af) !=2))],[(80,.box [VI (((l.getD i default)).af),VI (((l.getD i default)).n),VL 2 aS (((l.getD i default)).ah),VL 3 aU (((l.getD i default)).elems)])]) ?_;refine .back [.r [(2,X (aW (By ((l.getD i default))) X0)),(3,X (Xn (a+(cE ((l.getD i default)))))),(4,X (vq (a+(cE ((l.getD i default)))) 2147483648))],.r [(0,X (Xn ((i:Int)+1)))]] [] (cC ((min (b+(((l.getD i default)).n)) 2147483648),(min (a+(cE ((l.getD i default)))) 2147483648),(i+1)) ?_ ?_)
     ·refine⟨by omega,by omega,by omega,by omega,by omega,?_⟩;rw[I3.2.2.2.2.2,sn,if_pos (by omega),if_neg (by omega),if_neg (by first|omega|exact fun hh=>CN eE hh.2)]
      ((repeat' split)<;>first|rfl|omega| (simp_all;done)| (simp_all;omega))
     ((try dsimp only);omega)
    refine .at 528 [(80,80)] ([(0,VL 4 bB l),(3,VI (min (b+(((l.getD i default)).n)) 2147483648)),(4,VI a),(6,.ptr 80 0),(9,VL 4 bB l),(10,VI (l.length:Int)),(11,VI (i:Int)),(65,VB ((((l.getD i default)).af) !=2))],[(80,.box [VI (((l.getD i default)).af),VI (((l.getD i default)).n),VL 2 aS (((l.getD i default)).ah),VL 3 aU (((l.getD i default)).elems)])]) ?_;refine .back [.r [(0,X (Xn ((i:Int)+1)))]] [] (cC ((min (b+(((l.getD i default)).n)) 2147483648),a,(i+1)) ?_ ?_)
    ·refine⟨by omega,by omega,by omega,by omega,by omega,?_⟩;rw[I3.2.2.2.2.2,sn,if_pos (by omega),if_neg (by omega),if_neg (by first|omega|exact fun hh=>CN eE hh.2)]
     ((repeat' split)<;>first|rfl|omega| (simp_all;done)| (simp_all;omega))
    ((try dsimp only);omega)
   refine .bp [.r []] ((((l.getD i default)).af) !=2) (fun eN=> ?_) (fun eN=> ?_)
   ·refine .at 480 [(80,80)] ([(0,VL 4 bB l),(3,VI b),(4,VI a),(6,.ptr 80 0),(9,VL 4 bB l),(10,VI (l.length:Int)),(11,VI (i:Int)),(65,VB ((((l.getD i default)).af) !=2))],[(80,.box [VI (((l.getD i default)).af),VI (((l.getD i default)).n),VL 2 aS (((l.getD i default)).ah),VL 3 aU (((l.getD i default)).elems)])]) ?_;refine .back [.r [(2,X (aW (By ((l.getD i default))) X0)),(3,X (Xn (a+(cE ((l.getD i default)))))),(4,X (vq (a+(cE ((l.getD i default)))) 2147483648))],.r [(0,X (Xn ((i:Int)+1)))]] [] (cC (b,(min (a+(cE ((l.getD i default)))) 2147483648),(i+1)) ?_ ?_)
    ·refine⟨by omega,by omega,by omega,by omega,by omega,?_⟩;rw[I3.2.2.2.2.2,sn,if_pos (by omega),if_neg (by omega),if_neg (by first|omega|exact fun hh=>CN eE hh.2)]
     ((repeat' split)<;>first|rfl|omega| (simp_all;done)| (simp_all;omega))
    ((try dsimp only);omega)
   refine .at 480 [(80,80)] ([(0,VL 4 bB l),(3,VI b),(4,VI a),(6,.ptr 80 0),(9,VL 4 bB l),(10,VI (l.length:Int)),(11,VI (i:Int)),(65,VB ((((l.getD i default)).af) !=2))],[(80,.box [VI (((l.getD i default)).af),VI (((l.getD i default)).n),VL 2 aS (((l.getD i default)).ah),VL 3 aU (((l.getD i default)).elems)])]) ?_;refine .back [.r [(0,X (Xn ((i:Int)+1)))]] [] (cC (b,a,(i+1)) ?_ ?_)
   ·refine⟨by omega,by omega,by omega,by omega,by omega,?_⟩;rw[I3.2.2.2.2.2,sn,if_pos (by omega),if_neg (by omega),if_neg (by first|omega|exact fun hh=>CN eE hh.2)]
    ((repeat' split)<;>first|rfl|omega| (simp_all;done)| (simp_all;omega))
   ((try dsimp only);omega)
  refine .bp [.r []] ((((l.getD i default)).af) !=1) (fun fJ=> ?_) (fun fJ=> ?_)
  ·refine .bp [.r [(3,X (Xn (b+(((l.getD i default)).n)))),(4,X (vq (b+(((l.getD i default)).n)) 2147483648))],.r []] ((((l.getD i default)).af) !=2) (fun eN=> ?_) (fun eN=> ?_)
   ·refine .back [.r [(2,X (aW (By ((l.getD i default))) X0)),(3,X (Xn (a+(cE ((l.getD i default)))))),(4,X (vq (a+(cE ((l.getD i default)))) 2147483648))],.r [(0,X (Xn ((i:Int)+1)))]] [] (cC ((min (b+(((l.getD i default)).n)) 2147483648),(min (a+(cE ((l.getD i default)))) 2147483648),(i+1)) ?_ ?_)
    ·refine⟨by omega,by omega,by omega,by omega,by omega,?_⟩;rw[I3.2.2.2.2.2,sn,if_pos (by omega),if_neg (by omega),if_neg (by first|omega|exact fun hh=>CN eE hh.2)]
     ((repeat' split)<;>first|rfl|omega| (simp_all;done)| (simp_all;omega))
    ((try dsimp only);omega)
   refine .back [.r [(0,X (Xn ((i:Int)+1)))]] [] (cC ((min (b+(((l.getD i default)).n)) 2147483648),a,(i+1)) ?_ ?_)
   ·refine⟨by omega,by omega,by omega,by omega,by omega,?_⟩;rw[I3.2.2.2.2.2,sn,if_pos (by omega),if_neg (by omega),if_neg (by first|omega|exact fun hh=>CN eE hh.2)]
    ((repeat' split)<;>first|rfl|omega| (simp_all;done)| (simp_all;omega))
   ((try dsimp only);omega)
  refine .bp [.r []] ((((l.getD i default)).af) !=2) (fun eN=> ?_) (fun eN=> ?_)
  ·refine .back [.r [(2,X (aW (By ((l.getD i default))) X0)),(3,X (Xn (a+(cE ((l.getD i default)))))),(4,X (vq (a+(cE ((l.getD i default)))) 2147483648))],.r [(0,X (Xn ((i:Int)+1)))]] [] (cC (b,(min (a+(cE ((l.getD i default)))) 2147483648),(i+1)) ?_ ?_)
   ·refine⟨by omega,by omega,by omega,by omega,by omega,?_⟩;rw[I3.2.2.2.2.2,sn,if_pos (by omega),if_neg (by omega),if_neg (by first|omega|exact fun hh=>CN eE hh.2)]
    ((repeat' split)<;>first|rfl|omega| (simp_all;done)| (simp_all;omega))
   ((try dsimp only);omega)
  refine .back [.r [(0,X (Xn ((i:Int)+1)))]] [] (cC (b,a,(i+1)) ?_ ?_)
  ·refine⟨by omega,by omega,by omega,by omega,by omega,?_⟩;rw[I3.2.2.2.2.2,sn,if_pos (by omega),if_neg (by omega),if_neg (by first|omega|exact fun hh=>CN eE hh.2)]
   ((repeat' split)<;>first|rfl|omega| (simp_all;done)| (simp_all;omega))
  ((try dsimp only);omega)
 refine .bp [.r [(4,Xv 1 (!(decide (b>2147483647))) X0),(5,X (b7 (decide (b>2147483647))))]] (decide (b>2147483647)||decide (a>2147483647)) (fun Fh=> ?_) (fun Fh=> ?_)
 ·have e3:((k8 l):Int)=3:=by
   rw[I3.2.2.2.2.2,sn];((repeat' split)<;>first|rfl|omega| (simp_all;done)| (simp_all;omega))
  exact .aG [.r []] [] (fun z0:Int=>(VI z0,[])) _ _ e3
 have e4:((k8 l):Int)=0:=by
  rw[I3.2.2.2.2.2,sn];((repeat' split)<;>first|rfl|omega| (simp_all;done)| (simp_all;omega))
 exact .aG [.r []] [] (fun z0:Int=>(VI z0,[])) _ _ e4
theorem HH(l:List aB)(hv:j9 l):FC Tryz.prog 92 [VL 4 bB l] (app emp []) (.aZ [VI (eu l),VI (eU l)]) (app emp []):=by
 refine .go Tryz.f92 ?_;refine .len 0 (fun dQ=> ?_);refine .loop (α:=Int×Int×Nat) [.r [],.r [],.r [(1,X (Xl bB l))]] 56 (fun(b,a,i)=>([(4,VI b),(5,VI a),(8,VL 4 bB l),(9,VI (l.length:Int)),(10,VI (i:Int))],[])) (fun(b,a,i)=>i<=l.length/\0<=b/\0<=a/\eu l=b+eu (l.drop i)/\eU l=a+eU (l.drop i)) (fun(b,a,i)=>l.length-i) (0,0,0) ?_ ?_
 ·exact⟨oM,dM,dM,sM,sM⟩
 rintro⟨b,a,i⟩ I3 cC;try dsimp only at I3
 have rz:=hv.2.1;have mQ:=hv.2.2;refine .bp [.r []] (decide ((i:Int)< (l.length:Int))) (fun h3=> ?_) (fun h3=> ?_)
 ·have bH:=Yr (l:=l) (i:=i) oM hv.1;refine .bp [.r [(0,X (Xi bB l (i:Int)))],.r []] ((((l.getD i default)).af) !=1) (fun h5=> ?_) (fun h5=> ?_)
  ·have s1:=bH.1;rw[if_neg oM] at s1;refine .bp [.r [(3,X (Xn (b+(((l.getD i default)).n))))],.r []] ((((l.getD i default)).af) !=2) (fun h7=> ?_) (fun h7=> ?_)
   ·have s2:=bH.2.1;rw[if_neg oM] at s2;refine .back [.r [(2,X (aW (By ((l.getD i default))) X0)),(3,X (Xn (a+(cE ((l.getD i default))))))],.r [(0,X (Xn ((i:Int)+1)))]] [] (cC ((b+(((l.getD i default)).n)),(a+(cE ((l.getD i default)))),(i+1)) ?_ ?_)
    ·obtain⟨s1,s2,s3,s4,s5,s6,s7,s8⟩:=bH
     first|rw[if_pos oM] at s1|rw[if_neg oM] at s1
     first|rw[if_pos oM] at s2|rw[if_neg oM] at s2
     refine⟨oM,oM,oM,oM,oM⟩
    exact tO
   refine .back [.r [(0,X (Xn ((i:Int)+1)))]] [] (cC ((b+(((l.getD i default)).n)),a,(i+1)) ?_ ?_)
   ·obtain⟨s1,s2,s3,s4,s5,s6,s7,s8⟩:=bH
    first|rw[if_pos oM] at s1|rw[if_neg oM] at s1
    first|rw[if_pos oM] at s2|rw[if_neg oM] at s2
    refine⟨oM,oM,oM,oM,oM⟩
   exact tO
  refine .bp [.r []] ((((l.getD i default)).af) !=2) (fun h7=> ?_) (fun h7=> ?_)
  ·have s2:=bH.2.1;rw[if_neg oM] at s2;refine .back [.r [(2,X (aW (By ((l.getD i default))) X0)),(3,X (Xn (a+(cE ((l.getD i default))))))],.r [(0,X (Xn ((i:Int)+1)))]] [] (cC (b,(a+(cE ((l.getD i default)))),(i+1)) ?_ ?_)
   ·obtain⟨s1,s2,s3,s4,s5,s6,s7,s8⟩:=bH
    first|rw[if_pos oM] at s1|rw[if_neg oM] at s1
    first|rw[if_pos oM] at s2|rw[if_neg oM] at s2
    refine⟨oM,oM,oM,oM,oM⟩
   exact tO
  refine .back [.r [(0,X (Xn ((i:Int)+1)))]] [] (cC (b,a,(i+1)) ?_ ?_)
  ·obtain⟨s1,s2,s3,s4,s5,s6,s7,s8⟩:=bH
   first|rw[if_pos oM] at s1|rw[if_neg oM] at s1
   first|rw[if_pos oM] at s2|rw[if_neg oM] at s2
   refine⟨oM,oM,oM,oM,oM⟩
  exact tO
 have e1:((eu l):Int)=b:=by
  have hE:=Ys (l:=l) (i:=i) oM;omega
 have e2:((eU l):Int)=a:=by
  have hE:=Ys (l:=l) (i:=i) oM;omega
 exact .aG [.r []] [] (fun((z0,z1):Int×Int)=>(.aZ [VI z0,VI z1],[])) _ _ (pr e1 e2)
theorem x7p(f:List aL)(l:List aB)(hv:j9 l)(hd:DN 400000000000 l)(ha:AN 400000000000 f)(hlen:eu l=f.length):FC Tryz.prog 106 [VL 3 aU f,VL 4 bB l] (app emp []) (VL 3 aU (jx f l)) (app emp []):=by
 refine .go Tryz.f106 ?_;refine .len 0 (fun dQ=> ?_);refine .len 1 (fun gW=> ?_);refine .loop (α:=(List aL)×Nat×(List aL)) [.r [],.r [],.r [(1,X (Xl bB l))],.le (.nR 5 3)] 41 (fun(r,i,o)=>([(0,VL 3 aU r),(5,.aF 40 o.length),(8,VL 4 bB l),(9,VI (l.length:Int)),(10,VI (i:Int))],[(40,OR 3 aU o)])) (fun(r,i,o)=>i<=l.length/\AN 400000000000 r/\eu (l.drop i)=r.length/\o.length+eU (l.drop i)=eU l/\jx f l=o++dW (bD (l.drop i)) r) (fun(r,i,o)=>l.length-i) (f,0,[]) ?_ ?_
 ·exact⟨by omega,ha,by simpa using hlen,by simp,by simp[jx]⟩
 rintro⟨r,i,o⟩ I3 cC;try dsimp only at I3
 have rz:=hv.2.1;have mQ:=hv.2.2;refine .bp [.r []] (decide ((i:Int)< (l.length:Int))) (fun h3=> ?_) (fun h3=> ?_)
 ·have bH:=Yr (l:=l) (i:=i) (by omega) hv.1;obtain⟨hx,kD,hx3⟩:=hd.at_ (k:=i) (by omega);have hr:=x9o (d:=l) (i:=i) (by omega) r;refine .bp [.r [(0,X (Xi bB l (i:Int)))],.r [],.r []] ((((l.getD i default)).af)==0) (fun h7=> ?_) (fun h7=> ?_)
  ·obtain⟨s1,s2,s3,s4,s5,s6,s7,s8⟩:=bH;rw[if_neg (by omega)] at s1 s2;have hz:cE (l.getD i default)=(l.getD i default).n:=by unfold cE;rw[if_neg (by omega)]
   have hl8:(r.take (l.getD i default).n.toNat).length=(l.getD i default).n.toNat:=by rw[qz];omega
   have hs8:∀x∈r.take (l.getD i default).n.toNat,x.ah.length+(l.getD i default).ah.length<1099511627776:=fun x hx=>by have:=I3.2.1 x (qF hx);omega
   refine .back [.r [(4,X (Xst aU 3 r (((l.getD i default)).n))),(7,X (bV 169 (YG (r.take (Int.toNat (((l.getD i default)).n))) (((l.getD i default)).ah) (by omega) (by assumption)) X0)),(8,X (fK 3 aU 40 o (List.map (lM (((l.getD i default)).ah)) (r.take (Int.toNat (((l.getD i default)).n))))))],.r [(3,X (y7 aU 3 r (((l.getD i default)).n)))],.r [(0,X (Xn ((i:Int)+1)))]] [(40,40)] (cC ((r.drop (Int.toNat (((l.getD i default)).n))),(i+1),(o++(List.map (lM (((l.getD i default)).ah)) (r.take (Int.toNat (((l.getD i default)).n)))))) ?_ ?_)
   ·refine⟨by omega,fun x hx=>I3.2.1 x (qE hx),by(rw[qT];omega),by(simp only[qf,qj];omega),?_⟩;rw[I3.2.2.2.2,hr,if_neg (by omega),if_neg (by omega),qI]
   show l.length- (i+1)< l.length-i;omega
  refine .bp [.r []] ((((l.getD i default)).af)==1) (fun eE=> ?_) (fun eE=> ?_)
  ·obtain⟨s1,s2,s3,s4,s5,s6,s7,s8⟩:=bH;rw[if_pos (by omega)] at s1;rw[if_neg (by omega)] at s2;have hz:cE (l.getD i default)=(l.getD i default).elems.length:=by unfold cE;rw[if_pos (by omega)]
   refine .back [.r [(3,X (bV 153 (YF (((l.getD i default)).elems) (by omega) (by assumption)) X0)),(4,X (fK 3 aU 40 o (((l.getD i default)).elems)))],.r [(0,X (Xn ((i:Int)+1)))]] [(40,40)] (cC (r,(i+1),(o++(((l.getD i default)).elems))) ?_ ?_)
   ·refine⟨by omega,I3.2.1,by omega,by(simp only[qf];omega),?_⟩;rw[I3.2.2.2.2,hr,if_pos (by omega),qI]
   show l.length- (i+1)< l.length-i;omega
  obtain⟨s1,s2,s3,s4,s5,s6,s7,s8⟩:=bH;rw[if_neg (by omega)] at s1;rw[if_pos (by omega)] at s2;refine .back [.r [(3,X (y7 aU 3 r (((l.getD i default)).n)))],.r [(0,X (Xn ((i:Int)+1)))]] [(40,40)] (cC ((r.drop (Int.toNat (((l.getD i default)).n))),(i+1),o) ?_ ?_)
  ·refine⟨by omega,fun x hx=>I3.2.1 x (qE hx),by(rw[qT];omega),by omega,?_⟩;rw[I3.2.2.2.2,hr,if_neg (by omega),if_pos (by omega)]
  show l.length- (i+1)< l.length-i;omega
 have e1:((jx f l):List aL)=o:=by
  rw[I3.2.2.2.2,qN (by omega)];simp[bD,dW]
 exact .aG [.r [],.le (.fr 4 [(o.length:Nat)=(List.map aU o).length] ⟨lm,trivial⟩)] [] (fun z0:List aL=>(VL 3 aU z0,[])) _ _ e1

end Go.Ch
end
section
namespace Go.Ch
open Go Go.Ab
structure fM where
 out:List aB
 add:List aL
 cut:Int
def bw(w:fM):List aB:=w.out++(if 0<w.add.length then[⟨1,0,[],w.add⟩] else[])++(if 0<w.cut then[⟨2,w.cut,[],[]⟩] else[])
def gF(l:List aB)(n:Int)(c:List aI):List aB:=
 if 0<l.length/\(l.getD (l.length- 1) default).af=0/\iN (l.getD (l.length- 1) default).ah c=true then
  l.set (l.length- 1) ⟨(l.getD (l.length- 1) default).af,(l.getD (l.length- 1) default).n+n,(l.getD (l.length- 1) default).ah,(l.getD (l.length- 1) default).elems⟩
 else l++[⟨0,n,c,[]⟩]
theorem YI(w:fM):(bw w).length<=w.out.length+2:=by
 unfold bw;simp only[qf];split<;>split<;>simp
theorem x1k(l:List aB)(n:Int)(c:List aI):(gF l n c).length<=l.length+1:=by
 unfold gF;split<;>simp
def uK(s:aB):Prop:=
 (s.af=1/\s.n=0/\s.ah=[]/\s.elems≠[]/\∀x∈s.elems,gC x=0)\/
 ((s.af=0\/s.af=2)/\s.elems=[]/\(s.af=2->s.ah=[])/\1<=s.n/\VG true s.ah)
def w9:List aB->Prop
 | []=>True
 | [_]=>True
 |s::t::l=>sN s t=false/\w9 (t::l)
theorem Jd:∀{l:List aB} {s:aB},w9 l->(∀t,l.getLast? =some t->sN t s=false)->w9 (l++[s])
 | [],s,_,_=>trivial
 | [x],s,_,h=>⟨h x rfl,trivial⟩
 |x::y::l,s,hf,h=>⟨hf.1,Jd (l:=y::l) hf.2 (fun t ht=>h t (by simpa[List.getLast?_cons_cons] using ht))⟩
theorem x4q{w x x':aB}(k:x'.af=x.af)(a:x'.ah=x.ah):sN w x'=sN w x:=by unfold sN;rw[k,a]
theorem YJ:∀{l:List aB} {s s':aB},w9 (l++[s])->s'.af=s.af->s'.ah=s.ah->w9 (l++[s'])
 | [],s,s',_,_,_=>trivial
 | [x],s,s',h,k,a=>⟨by rw[x4q k a];exact h.1,trivial⟩
 |x::y::l,s,s',h,k,a=>⟨h.1,YJ (l:=y::l) h.2 k a⟩
theorem YK:∀{l:List aB},(∀s∈l,n9 s)->w9 l->CO l
 | [],_,_=>trivial
 | [s],h,_=>h s sM
 |s::t::l,h,k=>⟨h s sM,k.1,YK (fun x hx=>h x (by simp at hx|-;exact .inr hx)) k.2⟩
theorem okW{s:aB}(h:n9 s):uK s:=by
 rcases h with h| ⟨a,b,c,d,e,f⟩
 ·exact .inl h
 exact .inr ⟨a,b,c,d,f⟩
theorem oSW{s:aB}(h:uK s):0<=oS s/\0<=nS s/\(s.af≠1->oS s=s.n)/\0<=s.n:=by
 unfold oS nS cE;rcases h with⟨k,n,a,e,_⟩| ⟨k,_,_,n1,_⟩
 ·have:0<s.elems.length:=jb.2 e;rw[if_pos k,if_neg oM,if_pos k];exact⟨zm _,oM,fun q=>absurd k q,oM⟩
 have k1:¬s.af=1:=oM;simp only[if_neg k1];refine⟨oM,by(split<;>omega),fun _=>trivial,oM⟩
theorem YL:∀{l:List aB},(∀s∈l,uK s)->0<=eu l/\0<=eU l/\∀s∈l,s.af≠1->s.n<=eu l
 | [],_=>⟨zm _,zm _,fun s hs=>by cases hs⟩
 |s::l,h=>by
  have h1:=oSW (h s sM);have h2:=YL (l:=l) (fun t ht=>h t (by simp[ht]));simp only[eu,eU];refine⟨oM,oM,fun t ht k=> ?_⟩;rcases qg.1 ht with rfl|ht
  ·have:=h1.2.2.1 k;omega
  have:=h2.2.2 t ht k;omega
theorem x4r{l:List aB}(h:∀s∈l,uK s)(ha:w9 l)(h1:eu l<=2147483647)(h2:eU l<=2147483647):j9 l:=by
 refine⟨YK (fun s hs=> ?_) ha,h1,h2⟩;rcases h s hs with q| ⟨a,b,c,d,e⟩
 ·exact .inl q
 have:=(YL h).2.2 s hs oM;exact .inr ⟨a,b,c,d,oM,e⟩
theorem oe(u v:List DU):bK (u++v)=bK u+bK v:=by
 induction u with
 |nil=>simp[bK]
 |cons x u ih=>cases x<;>simp[bK,ih]<;>omega
theorem xd(u v:List DU):cG (u++v)=cG u+cG v:=by
 induction u with
 |nil=>simp[cG]
 |cons x u ih=>cases x<;>simp[cG,ih]<;>omega
theorem z39(e:List aL):bK (e.map .A)=0/\cG (e.map .A)=e.length:=by
 induction e with
 |nil=>exact⟨rfl,rfl⟩
 |cons x e ih=>simp[bK,cG,ih]
theorem Ah(n:Nat):bK (List.replicate n .C)=n/\cG (List.replicate n .C)=0:=by
 induction n with
 |zero=>exact⟨rfl,rfl⟩
 |succ n ih=>simp[qH,bK,cG,ih]
theorem uL(n:Nat)(c:List aI):bK (List.replicate n (.K c))=n/\cG (List.replicate n (.K c))=n:=by
 induction n with
 |zero=>exact⟨rfl,rfl⟩
 |succ n ih=>simp[qH,bK,cG,ih]
theorem x9A{s:aB}(h:uK s):(bK (ir s):Int)=oS s/\(cG (ir s):Int)=nS s:=by
 unfold ir oS nS cE;rcases h with⟨k,n,a,e,_⟩| ⟨k,_,_,n1,_⟩
 ·rw[if_pos k,if_pos k,if_neg oM,if_pos k,(z39 _).1,(z39 _).2];exact⟨rfl,rfl⟩
 have k1:¬s.af=1:=oM;by_cases k2:s.af=2
 ·simp only[if_neg k1,if_pos k2];rw[(Ah _).1,(Ah _).2];omega
 simp only[if_neg k1,if_neg k2];rw[(uL _ _).1,(uL _ _).2];omega
theorem RJ:∀{l:List aB},(∀s∈l,uK s)->(bK (bD l):Int)=eu l/\(cG (bD l):Int)=eU l
 | [],_=>⟨rfl,rfl⟩
 |s::l,h=>by
  have h1:=x9A (h s sM);have h2:=RJ (l:=l) (fun t ht=>h t (by simp[ht]));simp only[bD,eu,eU];rw[oe,xd];omega
def pL(w:fM):List DU:=bD w.out++(w.add.map .A++List.replicate w.cut.toNat .C)
structure fU(w:fM):Prop where
 ok:∀s∈w.out,uK s
 Je:w9 w.out
 last:∀t,w.out.getLast? =some t->t.af=0
 add:∀x∈w.add,gC x=0
 cut:0<=w.cut
theorem YM:fU ⟨[],[],0⟩:=⟨fun s h=>(by cases h),trivial,fun t h=>(by cases h),fun x h=>(by cases h),zm _⟩
theorem RK{w:fM}(h:fU w):bD (bw w)=pL w:=by
 have h2:=h.cut;unfold bw pL;rw[CP,CP,qI];congr 2
 ·split
  ·simp[bD,ir]
  rw[show w.add=[] from Fs.1 oM];rfl
 split
 ·simp[bD,ir]
 rw[show w.cut.toNat=0 by omega];rfl
theorem RL{t s:aB}(h:t.af≠s.af)(h2:¬(t.af=2/\s.af=1)):sN t s=false:=by
 cases e:sN t s
 ·rfl
 rcases L0.1 e with⟨a,_⟩|a
 ·exact absurd a h
 exact absurd a h2
theorem Ee:VG true []:=(oW (e:=true) (l:=[])).1 (by rw[dO];rfl)
theorem L7{w:fM}(h:fU w):(∀s∈bw w,uK s)/\w9 (bw w):=by
 have h2:=h.cut;have o1:0<w.add.length->uK ⟨1,0,[],w.add⟩:=fun q=> .inl ⟨rfl,rfl,rfl,jb.1 q,h.add⟩
 have o2:0<w.cut->uK ⟨2,w.cut,[],[]⟩:=fun q=> .inr ⟨.inr rfl,rfl,fun _=>rfl,q,Ee⟩
 refine⟨fun s hs=> ?_,?_⟩
 ·unfold bw at hs;simp only[qn] at hs;rcases hs with(hs|hs)|hs
  ·exact h.ok s hs
  ·split at hs
   ·rename_i q;rw[qv] at hs;subst hs;exact o1 q
   cases hs
  split at hs
  ·rename_i q;rw[qv] at hs;subst hs;exact o2 q
  cases hs
 unfold bw;by_cases ha:0<w.add.length
 ·rw[if_pos ha];have f1:w9 (w.out++[⟨1,0,[],w.add⟩]):=Jd h.Je (fun t ht=>by
   have:=h.last t ht;exact RL (by simp only;omega) oM)
  by_cases hc:0<w.cut
  ·rw[if_pos hc];refine Jd f1 (fun t ht=> ?_);rw[zU] at ht;cases ht;exact RL (by show(1:Int)≠2;decide) (by show¬((1:Int)=2/\(2:Int)=1);decide)
  rw[if_neg hc,qL];exact f1
 rw[if_neg ha,qL];by_cases hc:0<w.cut
 ·rw[if_pos hc];refine Jd h.Je (fun t ht=> ?_);have:=h.last t ht;exact RL (by simp only;omega) oM
 rw[if_neg hc,qL];exact h.Je
theorem YN{l:List aB}(h:0<l.length):l=l.take (l.length- 1)++[l.getD (l.length- 1) default]:=by
 conv=>lhs;rw[<-List.take_append_drop (l.length- 1) l]
 congr 1;rw[zh oM,qN oM];simp[List.getD,qa (show l.length- 1<l.length by omega)]
theorem YO{l:List aB}(h:0<l.length):l.getD (l.length- 1) default∈l:=by
 rw[show l.getD (l.length- 1) default=l[l.length- 1] by simp[List.getD,qa (show l.length- 1<l.length by omega)]];exact zB _
theorem F1{l:List aB}(h:0<l.length)(s:aB):l.set (l.length- 1) s=l.take (l.length- 1)++[s]:=by
 rw[List.set_eq_take_append_cons_drop,if_pos oM,qN oM]
theorem x4s{l:List aB}{n:Int}{c:List aI}(ho:∀s∈l,uK s)(hf:w9 l)(hn:1<=n)(hc:VG true c):
 (∀s∈gF l n c,uK s)/\w9 (gF l n c)/\(∀t,(gF l n c).getLast? =some t->t.af=0)/\bD (gF l n c)=bD l++List.replicate n.toNat (.K c):=by
 unfold gF;split
 ·rename_i hc;obtain⟨h0,hk,ha⟩:=hc;rw[x3Z] at ha;generalize hx:l.getD (l.length- 1) default=x at hk ha|-;have hl:=YN h0;rw[hx] at hl;rw[F1 h0];have Lx:uK x:=ho x (by rw[hl];simp);have kD:x.elems=[]/\1<=x.n/\VG true x.ah:=by
   rcases Lx with⟨k,_⟩| ⟨_,a,_,b,d⟩
   ·omega
   exact⟨a,b,d⟩
  refine⟨fun s hs=> ?_,YJ (s:=x) (by rw[<-hl];exact hf) rfl rfl,fun t ht=> ?_,?_⟩
  ·rw[qn] at hs;rcases hs with hs|hs
   ·exact ho s (qF hs)
   rw[qv] at hs;subst hs;exact .inr ⟨.inl hk,kD.1,fun q=>by simp only at q;omega,by simp only;omega,kD.2.2⟩
  ·rw[zU] at ht;cases ht;exact hk
  conv=>rhs;rw[hl]
  rw[CP,CP,qI];congr 1;simp only[bD,qL,ir];rw[if_neg oM,if_neg oM,if_neg oM,if_neg oM,ha,show(x.n+n).toNat=x.n.toNat+n.toNat by omega];exact List.replicate_append_replicate.symm
 rename_i hq;refine⟨fun s hs=> ?_,Jd hf (fun t ht=> ?_),fun t ht=> ?_,by rw[CP];simp[bD,ir]⟩
 ·rw[qn] at hs;rcases hs with hs|hs
  ·exact ho s hs
  rw[qv] at hs;subst hs;exact .inr ⟨.inl rfl,rfl,fun q=>(by cases q),hn,hc⟩
 ·have h0:0<l.length:=by
   rcases l with _| ⟨y,l⟩
   ·cases ht
   ·simp
  have hl:l.getLast? =some (l.getD (l.length- 1) default):=by
   conv=>lhs;rw[YN h0]
   rw[zU]
  rw[hl] at ht;cases ht;cases e:sN (l.getD (l.length- 1) default) ⟨0,n,c,[]⟩
  ·rfl
  rcases L0.1 e with⟨a,b|b⟩| ⟨_,b⟩
  ·exact absurd rfl b
  ·exact absurd ⟨h0,a,b⟩ hq
  cases b
 rw[zU] at ht;cases ht;rfl
theorem fU.bW{w:fM}{n:Int}{c:List aI}(h:fU w)(hn:1<=n)(hc:VG true c):
 fU ⟨gF (bw w) n c,[],0⟩/\pL ⟨gF (bw w) n c,[],0⟩=pL w++List.replicate n.toNat (.K c):=by
 obtain⟨q1,q2,q3,q4⟩:=x4s (L7 h).1 (L7 h).2 hn hc;refine⟨⟨q1,q2,q3,fun x hx=>(by cases hx),zm _⟩,?_⟩;rw[<-RK h,<-q4];simp[pL]
theorem fU.elems{w:fM}{e:List aL}(h:fU w)(he:∀x∈e,gC x=0):
 fU ⟨w.out,w.add++e,w.cut⟩/\jV (pL ⟨w.out,w.add++e,w.cut⟩) (pL w++e.map .A):=by
 refine⟨⟨h.ok,h.Je,h.last,fun x hx=> ?_,h.cut⟩,?_⟩
 ·rcases qn.1 hx with hx|hx
  ·exact h.add x hx
  exact he x hx
 unfold pL;simp only[zo,qI];refine .left _ (.left _ ?_);have:=x09 w.cut.toNat e [];simp only[qL] at this;exact .symm this
theorem fU.sO{w:fM}{n:Int}(h:fU w)(hn:0<=n):
 fU ⟨w.out,w.add,w.cut+n⟩/\pL ⟨w.out,w.add,w.cut+n⟩=pL w++List.replicate n.toNat .C:=by
 have h2:=h.cut;refine⟨⟨h.ok,h.Je,h.last,h.add,by simp only;omega⟩,?_⟩;unfold pL;simp only[qI];rw[show(w.cut+n).toNat=w.cut.toNat+n.toNat by omega,<-List.replicate_append_replicate]
theorem fU.valid{w:fM}{u:List DU}(h:fU w)(hs:jV (pL w) u)(h1:bK u<=2147483647)(h2:cG u<=2147483647):
 j9 (bw w)/\jV (bD (bw w)) u/\eu (bw w)=bK u/\eU (bw w)=cG u:=by
 have hk:=L7 h;have he:=RK h;have hl:=Yv hs;have hd:=RJ hk.1;rw[he] at hd;refine⟨x4r hk.1 hk.2 oM oM,by rw[he];exact hs,oM,oM⟩
end Go.Ch
end
section
set_option maxRecDepth 100000
set_option maxHeartbeats 4000000
open Go Go.Proofs Go.Ab
namespace Go.Ch
theorem RM(o:List aB)(a:List aL)(c:Int)(ho:o.length<=100000000000):FC Tryz.prog 152 [.ptr 0 0] (app emp [(0,.box [.aF 1 o.length,.aF 2 a.length,VI c]),(1,OR 4 bB o),(2,OR 3 aU a)]) (.aZ []) (app emp [(0,.box [.aF 1 ((bw ⟨o,a,c⟩).length),.aF 3 0,VI 0]),(1,OR 4 bB (bw ⟨o,a,c⟩)),(2,OF 3 aU a),(3,OR 3 aU [])]):=by
 refine .go Tryz.f152 ?_;refine .bp [.r []] (decide ((a.length:Int)> 0)) (fun h0=> ?_) (fun h0=> ?_)
 ·refine .bp (let b:=({af:=1,n:=0,ah:=[],elems:=a}:aB);[.r [(9,X (Xf [(2,2)])),(10,X (cg aU a X0)),(11,X (cg bB [b] (fK 4 bB 1 o [b])))],.r []]) (decide (c>0)) (fun h2=> ?_) (fun h2=> ?_)
  ·have e1:((bw ⟨o,a,c⟩).length:Nat)=((o++[({af:=1,n:=0,ah:=[],elems:=a}:aB)])++[({af:=2,n:=c,ah:=[],elems:=[]}:aB)]).length:=by
    unfold bw;simp only;(repeat (first|rw[if_pos oM]|rw[if_neg oM]));try simp
   have e2:((bw ⟨o,a,c⟩):List aB)=((o++[({af:=1,n:=0,ah:=[],elems:=a}:aB)])++[({af:=2,n:=c,ah:=[],elems:=[]}:aB)]):=by
    unfold bw;simp only;(repeat (first|rw[if_pos oM]|rw[if_neg oM]));try simp
   exact .aG (let b:=({af:=2,n:=c,ah:=[],elems:=[]}:aB);[.r [(9,X (Xf [(2,2),(3,3)])),(11,X (cg bB [b] (fK 4 bB 1 (o++[({af:=1,n:=0,ah:=[],elems:=a}:aB)]) [b])))],.r [],.le (.nB 0 1 3)]) [(0,0),(1,1),(2,2),(395,3)] (fun((z0,z1):Nat×(List aB))=>(.aZ [],[(0,.box [.aF 1 z0,.aF 3 0,VI 0]),(1,OR 4 bB z1),(2,OF 3 aU a),(3,OR 3 aU [])])) _ _ (pr e1 e2)
  have e3:((bw ⟨o,a,c⟩).length:Nat)=(o++[({af:=1,n:=0,ah:=[],elems:=a}:aB)]).length:=by
   unfold bw;simp only;(repeat (first|rw[if_pos oM]|rw[if_neg oM]));try simp
  have e4:((bw ⟨o,a,c⟩):List aB)=(o++[({af:=1,n:=0,ah:=[],elems:=a}:aB)]):=by
   unfold bw;simp only;(repeat (first|rw[if_pos oM]|rw[if_neg oM]));try simp
  exact .aG [.r [],.le (.nB 0 1 3)] [(0,0),(1,1),(2,2),(275,3)] (fun((z0,z1):Nat×(List aB))=>(.aZ [],[(0,.box [.aF 1 z0,.aF 3 0,VI 0]),(1,OR 4 bB z1),(2,OF 3 aU a),(3,OR 3 aU [])])) _ _ (pr e3 e4)
 refine .bp [.r []] (decide (c>0)) (fun h2=> ?_) (fun h2=> ?_)
 ·have e5:((bw ⟨o,a,c⟩).length:Nat)=(o++[({af:=2,n:=c,ah:=[],elems:=[]}:aB)]).length:=by
   unfold bw;simp only;(repeat (first|rw[if_pos oM]|rw[if_neg oM]));try simp
  have e6:((bw ⟨o,a,c⟩):List aB)=(o++[({af:=2,n:=c,ah:=[],elems:=[]}:aB)]):=by
   unfold bw;simp only;(repeat (first|rw[if_pos oM]|rw[if_neg oM]));try simp
  exact .aG (let b:=({af:=2,n:=c,ah:=[],elems:=[]}:aB);[.r [(9,X (Xf [(2,2),(3,3)])),(11,X (cg bB [b] (fK 4 bB 1 o [b])))],.r [],.le (.nB 0 1 3),.le (.fz 2)]) [(0,0),(1,1),(2,2),(275,3)] (fun((z0,z1):Nat×(List aB))=>(.aZ [],[(0,.box [.aF 1 z0,.aF 3 0,VI 0]),(1,OR 4 bB z1),(2,OF 3 aU a),(3,OR 3 aU [])])) _ _ (pr e5 e6)
 have e7:((bw ⟨o,a,c⟩).length:Nat)=o.length:=by
  unfold bw;simp only;(repeat (first|rw[if_pos oM]|rw[if_neg oM]));try simp
 have e8:((bw ⟨o,a,c⟩):List aB)=o:=by
  unfold bw;simp only;(repeat (first|rw[if_pos oM]|rw[if_neg oM]));try simp
 exact .aG [.r [],.le (.nB 0 1 3),.le (.fz 2)] [(0,0),(1,1),(2,2),(155,3)] (fun((z0,z1):Nat×(List aB))=>(.aZ [],[(0,.box [.aF 1 z0,.aF 3 0,VI 0]),(1,OR 4 bB z1),(2,OF 3 aU a),(3,OR 3 aU [])])) _ _ (pr e7 e8)
theorem F2(o:List aB)(a:List aL)(c:Int)(e:List aL)(hs:AN 400000000000 e)(ho:a.length+e.length<=100000000000):FC Tryz.prog 96 [.ptr 0 0,VL 3 aU e] (app emp [(0,.box [.aF 1 o.length,.aF 2 a.length,VI c]),(1,OR 4 bB o),(2,OR 3 aU a)]) (.aZ []) (app emp [(0,.box [.aF 1 o.length,.aF 2 ((a++e).length),VI c]),(1,OR 4 bB o),(2,OR 3 aU (a++e))]):=by
 refine .go Tryz.f96 ?_;refine .len 1 (fun gW=> ?_);exact .fin [.r [(6,X (bV 51 (YF e oM aM) X0)),(7,X (fK 3 aU 2 a e))]] [(0,0),(1,1),(2,2)]
theorem Ef{l:List aB}(h:∀s∈l,0<=s.n/\s.n<=10000000000):∀s∈l,0<=s.n/\s.n<=1000000000000000000:=fun s hs=>by have:=h s hs;omega
theorem Eg(o:List aB)(a:List aL)(c:Int)(n:Int)(l:List aI)(ho:o.length<=100000000000)(hl:l.length<=400000000000)(hn:1<=n/\n<=100000000000)(hk:∀s∈bw ⟨o,a,c⟩,0<=s.n/\s.n<=1000000000000000000):FC Tryz.prog 97 [.ptr 0 0,VI n,VL 2 aS l] (app emp [(0,.box [.aF 1 o.length,.aF 2 a.length,VI c]),(1,OR 4 bB o),(2,OR 3 aU a)]) (.aZ []) (app emp [(0,.box [.aF 1 ((gF (bw ⟨o,a,c⟩) n l).length),.aF 3 0,VI 0]),(1,OR 4 bB (gF (bw ⟨o,a,c⟩) n l)),(2,OF 3 aU a),(3,OR 3 aU [])]):=by
 refine .go Tryz.f97 ?_;refine .len 2 (fun lU=> ?_);have sx:=YI ⟨o,a,c⟩;simp only at sx;refine .bp [.r []] (n==0) (fun h0=> ?_) (fun h0=> ?_)
 ·exfalso;omega
 have Jf:=fun h:0< (bw ⟨o,a,c⟩).length=>hk _ (YO h)
 refine .bp [.r [(1,X (dV 27 [(0,0),(1,1),(2,2)] (RM o a c (by omega)) X0))],.r [(5,X (Xn (((bw ⟨o,a,c⟩).length:Int)- 1)))],.r [(4,Xv 1 (decide ((((bw ⟨o,a,c⟩).length:Int)- 1)>=0)) X0),(5,Xv 1 (decide ((((bw ⟨o,a,c⟩).length:Int)- 1)>=0)) X0),(6,Xv 1 (decide ((((bw ⟨o,a,c⟩).length:Int)- 1)>=0)) X0),(8,Xv 2 (decide ((((bw ⟨o,a,c⟩).length:Int)- 1)>=0)) (DZ bB 1 (bw ⟨o,a,c⟩) (((bw ⟨o,a,c⟩).length:Int)- 1) (((bw ⟨o,a,c⟩).length)- 1))),(9,Xv 1 (decide ((((bw ⟨o,a,c⟩).length:Int)- 1)>=0)) X0),(10,Xv 1 (decide ((((bw ⟨o,a,c⟩).length:Int)- 1)>=0)) (Xe bB (bw ⟨o,a,c⟩) (((bw ⟨o,a,c⟩).length)- 1))),(11,Xv 1 (decide ((((bw ⟨o,a,c⟩).length:Int)- 1)>=0)) X0),(12,X (Xk (decide ((((bw ⟨o,a,c⟩).length:Int)- 1)>=0)))),(15,Xv 1 (decide ((((bw ⟨o,a,c⟩).length:Int)- 1)>=0)&&(((((bw ⟨o,a,c⟩).getD (((bw ⟨o,a,c⟩).length)- 1) default)).af)==0)) X0),(16,Xv 1 (decide ((((bw ⟨o,a,c⟩).length:Int)- 1)>=0)&&(((((bw ⟨o,a,c⟩).getD (((bw ⟨o,a,c⟩).length)- 1) default)).af)==0)) X0),(17,Xv 1 (decide ((((bw ⟨o,a,c⟩).length:Int)- 1)>=0)&&(((((bw ⟨o,a,c⟩).getD (((bw ⟨o,a,c⟩).length)- 1) default)).af)==0)) X0),(19,Xv 2 (decide ((((bw ⟨o,a,c⟩).length:Int)- 1)>=0)&&(((((bw ⟨o,a,c⟩).getD (((bw ⟨o,a,c⟩).length)- 1) default)).af)==0)) (DZ bB 1 (bw ⟨o,a,c⟩) (((bw ⟨o,a,c⟩).length:Int)- 1) (((bw ⟨o,a,c⟩).length)- 1))),(20,Xv 1 (decide ((((bw ⟨o,a,c⟩).length:Int)- 1)>=0)&&(((((bw ⟨o,a,c⟩).getD (((bw ⟨o,a,c⟩).length)- 1) default)).af)==0)) X0),(21,Xv 1 (decide ((((bw ⟨o,a,c⟩).length:Int)- 1)>=0)&&(((((bw ⟨o,a,c⟩).getD (((bw ⟨o,a,c⟩).length)- 1) default)).af)==0)) (Xe bB (bw ⟨o,a,c⟩) (((bw ⟨o,a,c⟩).length)- 1))),(23,Xv 2 (decide ((((bw ⟨o,a,c⟩).length:Int)- 1)>=0)&&(((((bw ⟨o,a,c⟩).getD (((bw ⟨o,a,c⟩).length)- 1) default)).af)==0)) (aW (QU ((((bw ⟨o,a,c⟩).getD (((bw ⟨o,a,c⟩).length)- 1) default)).ah) l) X0)),(24,X (Xk (decide ((((bw ⟨o,a,c⟩).length:Int)- 1)>=0)&&(((((bw ⟨o,a,c⟩).getD (((bw ⟨o,a,c⟩).length)- 1) default)).af)==0))))]] ((decide ((((bw ⟨o,a,c⟩).length:Int)- 1)>=0)&&(((((bw ⟨o,a,c⟩).getD (((bw ⟨o,a,c⟩).length)- 1) default)).af)==0))&&(iN ((((bw ⟨o,a,c⟩).getD (((bw ⟨o,a,c⟩).length)- 1) default)).ah) l)) (fun h3=> ?_) (fun h3=> ?_)
 ·have e1:((gF (bw ⟨o,a,c⟩) n l).length:Nat)=(bw ⟨o,a,c⟩).length:=by
   unfold gF;((repeat' split)<;>first|rfl|omega| (simp_all;done)| (simp_all;omega))
  have e2:((gF (bw ⟨o,a,c⟩) n l):List aB)=((bw ⟨o,a,c⟩).set (((bw ⟨o,a,c⟩).length)- 1) ({af:=(((bw ⟨o,a,c⟩).getD (((bw ⟨o,a,c⟩).length)- 1) default)).af,n:=(((((bw ⟨o,a,c⟩).getD (((bw ⟨o,a,c⟩).length)- 1) default)).n)+n),ah:=(((bw ⟨o,a,c⟩).getD (((bw ⟨o,a,c⟩).length)- 1) default)).ah,elems:=(((bw ⟨o,a,c⟩).getD (((bw ⟨o,a,c⟩).length)- 1) default)).elems}:aB)):=by
   unfold gF;((repeat' split)<;>first|rfl|omega| (simp_all;done)| (simp_all;omega))
  exact .aG [.r [(5,X (DZ bB 1 (bw ⟨o,a,c⟩) (((bw ⟨o,a,c⟩).length:Int)- 1) (((bw ⟨o,a,c⟩).length)- 1))),(7,X (Xe bB (bw ⟨o,a,c⟩) (((bw ⟨o,a,c⟩).length)- 1))),(9,X (Xn (((((bw ⟨o,a,c⟩).getD (((bw ⟨o,a,c⟩).length)- 1) default)).n)+n))),(10,X (DZ bB 1 (bw ⟨o,a,c⟩) (((bw ⟨o,a,c⟩).length:Int)- 1) (((bw ⟨o,a,c⟩).length)- 1))),(12,X (Xs 4 bB 1 (bw ⟨o,a,c⟩) (((bw ⟨o,a,c⟩).length)- 1) ({af:=(((bw ⟨o,a,c⟩).getD (((bw ⟨o,a,c⟩).length)- 1) default)).af,n:=(((((bw ⟨o,a,c⟩).getD (((bw ⟨o,a,c⟩).length)- 1) default)).n)+n),ah:=(((bw ⟨o,a,c⟩).getD (((bw ⟨o,a,c⟩).length)- 1) default)).ah,elems:=(((bw ⟨o,a,c⟩).getD (((bw ⟨o,a,c⟩).length)- 1) default)).elems}:aB)))]] [(0,0),(1,1),(2,2),(27,3)] (fun((z0,z1):Nat×(List aB))=>(.aZ [],[(0,.box [.aF 1 z0,.aF 3 0,VI 0]),(1,OR 4 bB z1),(2,OF 3 aU a),(3,OR 3 aU [])])) _ _ (pr e1 e2)
 have e3:((gF (bw ⟨o,a,c⟩) n l).length:Nat)=((bw ⟨o,a,c⟩)++[({af:=0,n:=n,ah:=l,elems:=[]}:aB)]).length:=by
  unfold gF;((repeat' split)<;>first|rfl|omega| (simp_all;done)| (simp_all;omega))
 have e4:((gF (bw ⟨o,a,c⟩) n l):List aB)=((bw ⟨o,a,c⟩)++[({af:=0,n:=n,ah:=l,elems:=[]}:aB)]):=by
  unfold gF;((repeat' split)<;>first|rfl|omega| (simp_all;done)| (simp_all;omega))
 exact .aG [.r [(7,X (o5 aS 347 l)),(8,X (Xf [(3,3)])),(9,X (cg aS l X0)),(10,X (cg bB [({af:=0,n:=n,ah:=l,elems:=[]}:aB)] (fK 4 bB 1 (bw ⟨o,a,c⟩) [({af:=0,n:=n,ah:=l,elems:=[]}:aB)])))]] [(0,0),(1,1),(2,2),(27,3)] (fun((z0,z1):Nat×(List aB))=>(.aZ [],[(0,.box [.aF 1 z0,.aF 3 0,VI 0]),(1,OR 4 bB z1),(2,OF 3 aU a),(3,OR 3 aU [])])) _ _ (pr e3 e4)
theorem z85(o:List aB)(a:List aL)(c:Int)(ho:o.length<=100000000000)(hc:k8 (bw ⟨o,a,c⟩)=0)(hd:DN 400000000000 (bw ⟨o,a,c⟩)):FC Tryz.prog 98 [.ptr 0 0] (app emp [(0,.box [.aF 1 o.length,.aF 2 a.length,VI c]),(1,OR 4 bB o),(2,OR 3 aU a)]) (.aZ [.aF 1 ((bw ⟨o,a,c⟩).length),VI 0]) (app emp [(0,.box [.aF 1 ((bw ⟨o,a,c⟩).length),.aF 3 0,VI 0]),(1,OR 4 bB (bw ⟨o,a,c⟩)),(2,OF 3 aU a),(3,OR 3 aU [])]):=by
 refine .go Tryz.f98 ?_;refine .bp [.r [],.r [(1,X (dV 27 [(0,0),(1,1),(2,2)] (RM o a c oM) X0))],.r [(4,X (aW (Cp (bw ⟨o,a,c⟩) aM) (cg bB (bw ⟨o,a,c⟩) X0)))]] ((k8 (bw ⟨o,a,c⟩)) !=0) (fun h2=> ?_) (fun h2=> ?_)
 ·exfalso;omega
 exact .fin [.r []] [(0,0),(1,1),(2,2),(27,3)]
end Go.Ch
end
section
namespace Go.Ch
open Go Go.Ab
def tL(w:fM):DU->fM
 | .K c=>⟨gF (bw w) 1 c,[],0⟩
 | .A e=>⟨w.out,w.add++[e],w.cut⟩
 | .C=>⟨w.out,w.add,w.cut+1⟩
def jJ(w:fM):List DU->fM
 | []=>w
 |u::us=>jJ (tL w u) us
theorem YP(e:List aL)(us:List DU):∀w:fM,jJ w (e.map .A++us)=jJ ⟨w.out,w.add++e,w.cut⟩ us:=by
 induction e with
 |nil=>intro w;simp
 |cons x e ih=>intro w;simp only[qU,qm,jJ,tL];rw[ih];simp
theorem x4t(n:Nat)(us:List DU):∀w:fM,jJ w (List.replicate n .C++us)=jJ ⟨w.out,w.add,w.cut+n⟩ us:=by
 induction n with
 |zero=>intro w;simp
 |succ n ih=>intro w;simp only[qH,qm,jJ,tL];rw[ih];simp only;rw[show w.cut+1+(n:Int)=w.cut+((n+1:Nat):Int) by omega]
theorem y9d(l:List aB):bw ⟨l,[],0⟩=l:=by simp[bw]
theorem y5I{l:List aB}{m n:Int}{c:List aI}:gF (gF l m c) n c=gF l (m+n) c:=by
 unfold gF;by_cases h:0<l.length/\(l.getD (l.length- 1) default).af=0/\iN (l.getD (l.length- 1) default).ah c=true
 ·rw[if_pos h,if_pos h,F1 h.1,F1 h.1];generalize l.getD (l.length- 1) default=x at*
  have e:∀y:aB,(List.take (l.length- 1) l++[y]).getD ((List.take (l.length- 1) l++[y]).length- 1) default=y:=fun y=>sM
  rw[e,if_pos ⟨sM,h.2.1,h.2.2⟩,F1 sM];have t:∀y:aB,(List.take (l.length- 1) l++[y]).take ((List.take (l.length- 1) l++[y]).length- 1)=List.take (l.length- 1) l:=fun y=>sM
  rw[t,Int.add_assoc]
 rw[if_neg h,if_neg h];have e:∀y:aB,(l++[y]).getD ((l++[y]).length- 1) default=y:=fun y=>sM
 rw[e,if_pos ⟨sM,rfl,KX c⟩,F1 sM];simp
theorem RN(c:List aI)(us:List DU):∀(n:Nat) (w:fM),jJ w (List.replicate (n+1) (.K c)++us)=jJ ⟨gF (bw w) ((n+1:Nat):Int) c,[],0⟩ us
 |0,w=>by simp[jJ,tL]
 |n+1,w=>by
  rw[qH,qm,jJ,RN c us n];simp only[tL];rw[y9d,y5I,show(1:Int)+((n+1:Nat):Int)=((n+1+1:Nat):Int) by omega]
def mA:DU->Prop
 | .K c=>VG true c/\c.length<=400000000000
 | .A e=>gC e=0/\e.ah.length<=400000000000
 | .C=>True
structure F3(w:fM):Prop where
 out:DN 400000000000 w.out
 add:AN 400000000000 w.add
theorem F3.flush{w:fM}(h:F3 w)(hl:w.add.length<=400000000000):DN 400000000000 (bw w):=by
 intro s hs;unfold bw at hs;simp only[qn] at hs;rcases hs with(hs|hs)|hs
 ·exact h.out s hs
 ·split at hs
  ·rw[qv] at hs;subst hs;exact⟨hl,sM,h.add⟩
  cases hs
 split at hs
 ·rw[qv] at hs;subst hs;exact⟨sM,sM,fun x hx=>by cases hx⟩
 cases hs
theorem F3.bW{w:fM}{n:Int}{c:List aI}(h:F3 w)(hl:w.add.length<=400000000000)(hc:c.length<=400000000000):F3 ⟨gF (bw w) n c,[],0⟩:=by
 have hf:=h.flush hl;refine⟨fun s hs=> ?_,fun x hx=>by cases hx⟩;simp only at hs;unfold gF at hs;split at hs
 ·rename_i q;rw[F1 q.1,qn] at hs;rcases hs with hs|hs
  ·exact hf s (qF hs)
  rw[qv] at hs;subst hs;have:=hf _ (YO q.1);exact this
 rw[qn] at hs;rcases hs with hs|hs
 ·exact hf s hs
 rw[qv] at hs;subst hs;exact⟨sM,hc,fun x hx=>by cases hx⟩
theorem x7r{s:aB}(h:uK s):1<=(ir s).length/\(s.af≠1->s.n<=(ir s).length)/\0<=s.n/\(s.af=1->s.n=0):=by
 unfold ir;rcases h with⟨k,n,a,e,_⟩| ⟨k,_,_,n1,_⟩
 ·rw[if_pos k,qj];have:0<s.elems.length:=jb.2 e;exact⟨this,fun q=>absurd k q,oM,fun _=>n⟩
 have k1:¬s.af=1:=oM;rw[if_neg k1];refine⟨?_,fun _=> ?_,oM,fun q=>absurd q k1⟩<;>split<;>simp<;>omega
theorem RO:∀{l:List aB},(∀s∈l,uK s)->l.length<=(bD l).length/\∀s∈l,0<=s.n/\s.n<=((bD l).length:Int)
 | [],_=>⟨qp _,fun s hs=>by cases hs⟩
 |s::l,h=>by
  have h1:=x7r (h s sM);have h2:=RO (l:=l) (fun t ht=>h t (by simp[ht]));simp only[bD,qf,qi];refine⟨oM,fun t ht=> ?_⟩;rcases qg.1 ht with rfl|ht
  ·refine⟨h1.2.2.1,?_⟩;by_cases k:t.af=1
   ·have:=h1.2.2.2 k;omega
   have:=h1.2.1 k;omega
  have:=h2.2 t ht;omega
structure DI(w:fM)(us:List DU)(T:Nat)(G:fM):Prop where
 uM:fU w
 wb:F3 w
 sP:∀u∈us,mA u
 len:(pL w).length+us.length=T
 small:T<=8589934592
 eq:jJ w us=G
variable {w G:fM} {us:List DU} {T:Nat}
theorem DI.bd(h:DI w us T G):w.out.length<=T/\w.add.length<=T/\0<=w.cut/\w.cut<=T/\us.length<=T/\T<=8589934592/\w.add.length+us.length<=T/\w.cut+us.length<=T:=by
 have h1:=(RO h.uM.ok).1;have h2:=h.uM.cut;have h3:=h.len;have h4:=h.small;unfold pL at h3;simp only[qf,zd,qj] at h3;omega
theorem DI.fl(h:DI w us T G):(∀s∈bw w,0<=s.n/\s.n<=10000000000)/\DN 400000000000 (bw w):=by
 have hb:=h.bd;refine⟨fun s hs=> ?_,h.wb.flush oM⟩;have h1:=(RO (L7 h.uM).1).2 s hs;rw[RK h.uM] at h1;have h3:=h.len;omega
theorem DI.bW{n:Nat}{c:List aI}(h:DI w (List.replicate (n+1) (.K c)++us) T G):DI ⟨gF (bw w) ((n+1:Nat):Int) c,[],0⟩ us T G:=by
 have hu:=h.sP (.K c) (by rw[qH];simp);have hb:=h.bd;obtain⟨g1,g2⟩:=h.uM.bW (n:=((n+1:Nat):Int)) oM hu.1;refine⟨g1,h.wb.bW oM hu.2,fun u hu=>h.sP u (by simp[hu]),?_,h.small,?_⟩
 ·have h3:=h.len;rw[g2];simp only[qf,zd] at h3|-;omega
 rw[<-h.eq,RN]
theorem YQ{u v:List DU}(h:jV u v):u.length=v.length:=by
 induction h with
 |refl u=>rfl
 |cons x _ ih=>simp[ih]
 |swap e u=>rfl
 |symm _ ih=>exact ih.symm
 |trans _ _ a b=>exact a.trans b
theorem DI.elems{e:List aL}(h:DI w (e.map .A++us) T G):DI ⟨w.out,w.add++e,w.cut⟩ us T G:=by
 have hu:∀x∈e,mA (.A x):=fun x hx=>h.sP (.A x) (by simp[hx])
 obtain⟨g1,g2⟩:=h.uM.elems (e:=e) (fun x hx=>(hu x hx).1);refine⟨g1,⟨h.wb.out,fun x hx=> ?_⟩,fun u hu=>h.sP u (by simp[hu]),?_,h.small,?_⟩
 ·rcases qn.1 hx with hx|hx
  ·exact h.wb.add x hx
  exact(hu x hx).2
 ·have h3:=h.len;rw[YQ g2];simp only[qf,qj] at h3|-;omega
 rw[<-h.eq,YP]
theorem DI.sO{n:Nat}(h:DI w (List.replicate n .C++us) T G):DI ⟨w.out,w.add,w.cut+n⟩ us T G:=by
 obtain⟨g1,g2⟩:=h.uM.sO (n:=(n:Int)) oM;refine⟨g1,⟨h.wb.out,h.wb.add⟩,fun u hu=>h.sP u (by simp[hu]),?_,h.small,?_⟩
 ·have h3:=h.len;rw[g2];simp only[qf,zd] at h3|-;omega
 rw[<-h.eq,x4t]
theorem DI.done(h:DI w [] T G):w=G:=h.eq
def tM(us:List DU):List aB:=bw (jJ ⟨[],[],0⟩ us)
theorem DI.start(h:∀u∈us,mA u)(hs:us.length<=8589934592):DI ⟨[],[],0⟩ us us.length (jJ ⟨[],[],0⟩ us):=
 ⟨YM,⟨fun s h=>(by cases h),fun x h=>(by cases h)⟩,h,by simp[pL,bD],hs,rfl⟩
theorem YR:∀(us:List DU) (w:fM),fU w->(∀u∈us,mA u)->fU (jJ w us)/\jV (pL (jJ w us)) (pL w++us)
 | [],w,h,_=>⟨h,by simp only[jJ,qL];exact .refl _⟩
 |u::us,w,h,hu=>by
  have h0:=hu u sM;have hp:fU (tL w u)/\jV (pL (tL w u)) (pL w++[u]):=by
   cases u with
   |K c=>
    obtain⟨g1,g2⟩:=h.bW (n:=1) dM h0.1;exact⟨g1,by simp only[tL];rw[g2];exact .refl _⟩
   |A e=>
    obtain⟨g1,g2⟩:=h.elems (e:=[e]) (fun x hx=>by rw[qv] at hx;subst hx;exact h0.1);exact⟨g1,g2⟩
   |C=>
    obtain⟨g1,g2⟩:=h.sO (n:=1) dM;exact⟨g1,by simp only[tL];rw[g2];exact .refl _⟩
  obtain⟨q1,q2⟩:=YR us (tL w u) hp.1 (fun v hv=>hu v (by simp[hv]));refine⟨q1,.trans q2 ?_⟩;have:=hp.2.right us;simpa using this
theorem F4(h:∀u∈us,mA u)(h1:bK us<=2147483647)(h2:cG us<=2147483647):
 j9 (tM us)/\jV (bD (tM us)) us/\eu (tM us)=bK us/\eU (tM us)=cG us:=by
 obtain⟨q1,q2⟩:=YR us ⟨[],[],0⟩ YM h;exact q1.valid (by simpa[pL,bD] using q2) h1 h2
theorem RP(us:List DU):us.length<=bK us+cG us:=by
 induction us with
 |nil=>simp[bK]
 |cons u us ih=>cases u<;>simp[bK,cG]<;>omega
end Go.Ch
end
section
namespace Go.Ch
open Go Go.Ab
theorem uN(g:aI->aI->Option aI)(a b:List aI):(fm g a b).length<=a.length+b.length:=by
 unfold fm;exact qC (je _ _) (x0N a b)
def Ai(us:List DU):Prop:=(∀c,DU.K c∈us->VG true c/\c.length<=100000000000)/\(∀e,DU.A e∈us->gC e=0/\e.ah.length<=100000000000)
theorem Ai.tail{u:DU}{us:List DU}(h:Ai (u::us)):Ai us:=⟨fun c hc=>h.1 c (by simp[hc]),fun e he=>h.2 e (by simp[he])⟩
theorem F5:∀(us:List DU) (r:List aL),bK us=r.length->(dW us r).length=cG us
 | [],r,h=>by simp[dW,cG]
 | .A e::us,r,h=>by
  have:=F5 us r (by simpa[bK] using h);simp[dW,cG,this]
 | .K c::us,[],h=>by simp[bK] at h
 | .C::us,[],h=>by simp[bK] at h
 | .K c::us,x::r,h=>by
  have:=F5 us r (by simpa[bK] using h);simp[dW,cG,this]
 | .C::us,x::r,h=>by
  have:=F5 us r (by simpa[bK] using h);simp[dW,cG,this]
theorem x7s{x:aL}{c:List aI}(h:gC x=0)(hc:VG true c):gC (lM c x)=0:=by
 have v:=CC FO (x6Z h) hc;unfold gC at h|-;unfold lM;simp only;split at h
 ·omega
 rename_i q1;rw[if_neg q1];split at h
 ·omega
 rename_i q2;rw[if_neg q2];exact oW.2 v
theorem CS{l:List aB}(h:∀s∈l,n9 s)(hd:DN 100000000000 l):Ai (bD l):=by
 induction l with
 |nil=>exact⟨fun c hc=>by simp[bD] at hc,fun c hc=>by simp[bD] at hc⟩
 |cons s l ih=>
  obtain⟨i1,i2⟩:=ih (fun t ht=>h t (by simp[ht])) (fun t ht=>hd t (by simp[ht]));have hs:=h s sM;obtain⟨b1,b2,b3⟩:=hd s sM;refine⟨fun c hc=> ?_,fun e he=> ?_⟩
  ·simp only[bD,qn] at hc;rcases hc with hc|hc
   ·unfold ir at hc;rcases hs with⟨k,_⟩| ⟨k,_,_,_,_,v⟩
    ·rw[if_pos k] at hc;simp at hc
    rw[if_neg oM] at hc;split at hc
    ·simp[zY] at hc
    have:=zZ hc;cases this;exact⟨v,b2⟩
   exact i1 c hc
  simp only[bD,qn] at he;rcases he with he|he
  ·unfold ir at he;rcases hs with⟨k,_,_,_,q⟩| ⟨k,_⟩
   ·rw[if_pos k,qO] at he;obtain⟨x,hx,e1⟩:=he;cases e1;exact⟨q _ hx,b3 _ hx⟩
   rw[if_neg oM] at he;split at he
   ·simp[zY] at he
   simp[zY] at he
  exact i2 e he
theorem L8{us:List DU}(h:Ai us):Ja us:=by
 induction us with
 |nil=>trivial
 |cons u us ih=>
  cases u with
  |K c=>exact⟨(h.1 c sM).1,ih h.tail⟩
  |A e=>exact ih h.tail
  |C=>exact ih h.tail
variable {w G:fM} {us:List DU} {T:Nat}
theorem DN.mono{m n:Nat}{l:List aB}(h:DN m l)(hm:m<=n):DN n l:=fun s hs=>⟨qC (h s hs).1 hm,qC (h s hs).2.1 hm,fun x hx=>qC ((h s hs).2.2 x hx) hm⟩
end Go.Ch
end
section
namespace Go.Ch
open Go Go.Ab
def o6(b:Bool):Tree:= .sc (.bool b)
structure Act where
 ins:List (List aL)
 cut:List Bool
 set:List (List aI)
variable {w G:fM} {us:List DU} {T:Nat}
theorem DI.Jg{c:List aI}(h:DI w (.K c::us) T G):DI ⟨gF (bw w) 1 c,[],0⟩ us T G:=DI.bW (n:=0) h
theorem DI.RQ(h:DI w (.C::us) T G):DI ⟨w.out,w.add,w.cut+1⟩ us T G:=DI.sO (n:=1) h
end Go.Ch
end
section

end
section

end
section
namespace Go.Ch
open Go Go.Ab
def F6:ByteArray:={data:=#[111,110]}
def L9:DU->Prop
 | .K c=>VG true c/\c.length<=100
 | .A e=>gC e=0/\e.ah.length<=100
 | .C=>True
theorem L9.ok{u:DU}(h:L9 u):mA u:=by
 cases u with
 |K c=>exact⟨h.1,by have:=h.2;omega⟩
 |A e=>exact⟨h.1,by have:=h.2;omega⟩
 |C=>trivial
theorem oG{α:Type}[Inhabited α]{l:List α}{k:Nat}(h:k<l.length):l.getD k default∈l:=by
 rw[show l.getD k default=l[k] by simp[List.getD,qa h]];exact zB h
theorem Ma{u v:List DU}(h:jV u v):∀x,x∈u↔x∈v:=by
 induction h with
 |refl u=>exact fun x=>Iff.rfl
 |cons y _ ih=>intro x;simp[ih x]
 |swap e u=>intro x;simp only[qg];constructor<;>rintro(h|h|h)<;>simp[h]
 |symm _ ih=>exact fun x=>(ih x).symm
 |trans _ _ a b=>exact fun x=>(a x).trans (b x)
theorem YS{l:List aB}{s:aB}(h:s∈l){u:DU}(hu:u∈ir s):u∈bD l:=by
 induction l with
 |nil=>cases h
 |cons t l ih=>
  simp only[bD,qn];rcases qg.1 h with rfl|h
  ·exact .inl hu
  exact .inr (ih h)
theorem YT:∀{l:List aB},(∀s∈l,n9 s)->∀s∈l,nS s<=eU l
 | [],_,s,h=>by cases h
 |t::l,h,s,hs=>by
  have h1:=Yo (h t sM);have h2:=L4 (l:=l) (fun t ht=>h t (by simp[ht]));simp only[eU];rcases qg.1 hs with rfl|hs
  ·omega
  have:=YT (l:=l) (fun t ht=>h t (by simp[ht])) s hs;omega
theorem w04{l:List aB}{us:List DU}(hv:j9 l)(hs:jV (bD l) us)(hu:∀u∈us,L9 u):DN 100000000000 l:=by
 intro s b9;have ho:=hv.1.all s b9;have hn:=YT hv.1.all s b9;have v2:=hv.2.2;have hm:=fun u fu=>hu u ((Ma hs u).1 (YS b9 (u:=u) fu))
 unfold ir at hm;unfold nS cE at hn;rcases ho with⟨k,n,a,e,q⟩| ⟨k,a,b,n1,n2,v⟩
 ·rw[if_neg oM,if_pos k] at hn;rw[if_pos k] at hm;refine⟨oM,by rw[a];simp,fun x hx=> ?_⟩;have:=(hm (.A x) (qO.2 ⟨x,hx,rfl⟩)).2;omega
 rw[if_neg oM] at hm;refine⟨by rw[a];simp,?_,fun x hx=>by rw[a] at hx;cases hx⟩;by_cases k2:s.af=2
 ·rw[b k2];simp
 rw[if_neg k2] at hm;have:=(hm (.K s.ah) (by rw[zY];exact⟨oM,rfl⟩)).2;omega
end Go.Ch
end
section
namespace Go.Ch
open Go Go.Ab
variable {w G:fM} {us:List DU} {T:Nat}
theorem DI.all:∀{us:List DU} {w:fM},DI w us T G->DI G [] T G
 | [],w,h=>by have:=h.done;subst this;exact h
 | .K c::us,w,h=>DI.all h.Jg
 | .A e::us,w,h=>DI.all (DI.elems (e:=[e]) h)
 | .C::us,w,h=>DI.all h.RQ
theorem YU(hu:∀u∈us,mA u)(hs:us.length<=8589934592):DN 400000000000 (tM us):=(DI.start hu hs).all.fl.2
end Go.Ch
end
section
namespace Go.Ch
open Go Go.Ab
def dU:List DU->List DU->List DU
 | .C::p,q=> .C::dU p q
 |p,.A e::q=> .A e::dU p q
 | .K c::p,.K d::q=> .K (fm l7 c d)::dU p q
 | .K _::p,.C::q=> .C::dU p q
 | .A e::p,.K d::q=> .A (lM d e)::dU p q
 | .A _::p,.C::q=>dU p q
 |p,[]=>p
 | [],_=>[]
termination_by p q=>p.length+q.length
end Go.Ch
end
section
namespace Go.Ch
open Go Go.Ab
theorem YV:∀l:List aI,fm eY l []=l
 | []=>by simp[fm,kL]
 |x::l=>by
  have ih:=YV l;unfold fm at ih|-;rw[kL,x6,ih];have:eY x default=some x:=by unfold eY;rw[if_pos (show(default:aI).name=mt from rfl)]
  rw[this];rfl
theorem Mb(x:aL):lM [] x=x:=by unfold lM;rw[YV]
def bF:List DU->List DU->List DU×List DU
 | .A e::p,q=>(.A e::(bF p q).1,.K []::(bF p q).2)
 | [],.A e::q=>(.K []::(bF [] q).1,.A e::(bF [] q).2)
 | .K c::p,.A e::q=>(.K []::(bF (.K c::p) q).1,.A e::(bF (.K c::p) q).2)
 | .C::p,.A e::q=>(.K []::(bF (.C::p) q).1,.A e::(bF (.C::p) q).2)
 | .K c::p,.K d::q=>(.K (fm iw c d)::(bF p q).1,.K d::(bF p q).2)
 | .K _::p,.C::q=>((bF p q).1,.C::(bF p q).2)
 | .C::p,.K _::q=>(.C::(bF p q).1,(bF p q).2)
 | .C::p,.C::q=>bF p q
 |_,[]=>([],[])
 | [],_=>([],[])
termination_by p q=>p.length+q.length
theorem x1p{x:aL}{c d:List aI}(hx:VG false x.ah)(hc:VG true c)(hd:VG true d):lM d (lM c x)=lM (fm iw c d) (lM d x):=by
 unfold lM;simp only;rw[W9 FO hx hc hd]
theorem Aj:∀(n:Nat) (p q:List DU) (l:List aL),p.length+q.length<=n->bK p=l.length->bK q=l.length->Ja p->Ja q->(∀x∈l,VG false x.ah)->
 dW (bF p q).2 (dW p l)=dW (bF p q).1 (dW q l)/\
 bK (bF p q).2=cG p/\bK (bF p q).1=cG q/\cG (bF p q).1=cG (bF p q).2
 |n,.A e::p,q,l,hn,ho,hm,hp,hq,hl=>by
  simp only[qi] at hn;obtain⟨n,rfl⟩:∃k,n=k+1:=⟨n- 1,oM⟩
  obtain⟨i1,i2,i3,i4⟩:=Aj n p q l oM (by simpa[bK] using ho) hm hp hq hl;rw[bF];simp only[dW,Mb,bK,cG];exact⟨by rw[i1],oM,oM,oM⟩
 |n,[],.A e::q,l,hn,ho,hm,hp,hq,hl=>by
  simp only[qi] at hn;obtain⟨n,rfl⟩:∃k,n=k+1:=⟨n- 1,oM⟩
  obtain⟨i1,i2,i3,i4⟩:=Aj n [] q l (by simp only[zg] at hn|-;omega) ho (by simpa[bK] using hm) hp hq hl;rw[bF];simp only[dW,Mb,bK,cG] at i1 i2 i3 i4|-;exact⟨by rw[i1],oM,oM,oM⟩
 |n,.K c::p,.A e::q,l,hn,ho,hm,hp,hq,hl=>by
  simp only[qi] at hn;obtain⟨n,rfl⟩:∃k,n=k+1:=⟨n- 1,oM⟩
  obtain⟨i1,i2,i3,i4⟩:=Aj n (.K c::p) q l (by simp only[qi];omega) ho (by simpa[bK] using hm) hp hq hl;rw[bF];rw[show dW (.A e::q) l=e::dW q l by simp[dW]];rw[dW,dW,i1,Mb];exact⟨rfl,i2,by simp only[bK,cG];omega,by simp only[cG];omega⟩
 |n,.C::p,.A e::q,l,hn,ho,hm,hp,hq,hl=>by
  simp only[qi] at hn;obtain⟨n,rfl⟩:∃k,n=k+1:=⟨n- 1,oM⟩
  obtain⟨i1,i2,i3,i4⟩:=Aj n (.C::p) q l (by simp only[qi];omega) ho (by simpa[bK] using hm) hp hq hl;rw[bF];rw[show dW (.A e::q) l=e::dW q l by simp[dW]];rw[dW,dW,i1,Mb];exact⟨rfl,i2,by simp only[bK,cG];omega,by simp only[cG];omega⟩
 |n,.K c::p,.K d::q,[],hn,ho,hm,hp,hq,hl=>by simp[bK] at ho
 |n,.K c::p,.K d::q,x::l,hn,ho,hm,hp,hq,hl=>by
  simp only[qi] at hn;obtain⟨n,rfl⟩:∃k,n=k+1:=⟨n- 1,oM⟩
  obtain⟨i1,i2,i3,i4⟩:=Aj n p q l oM (by simpa[bK] using ho) (by simpa[bK] using hm) hp.2 hq.2 (fun y hy=>hl y (by simp[hy]));rw[bF];simp only[dW,bK,cG];exact⟨by rw[i1,x1p (hl x sM) hp.1 hq.1],oM,oM,oM⟩
 |n,.K c::p,.C::q,[],hn,ho,hm,hp,hq,hl=>by simp[bK] at ho
 |n,.K c::p,.C::q,x::l,hn,ho,hm,hp,hq,hl=>by
  simp only[qi] at hn;obtain⟨n,rfl⟩:∃k,n=k+1:=⟨n- 1,oM⟩
  obtain⟨i1,i2,i3,i4⟩:=Aj n p q l oM (by simpa[bK] using ho) (by simpa[bK] using hm) hp.2 hq (fun y hy=>hl y (by simp[hy]));rw[bF];simp only[dW,bK,cG];exact⟨i1,oM,oM,oM⟩
 |n,.C::p,.K d::q,[],hn,ho,hm,hp,hq,hl=>by simp[bK] at ho
 |n,.C::p,.K d::q,x::l,hn,ho,hm,hp,hq,hl=>by
  simp only[qi] at hn;obtain⟨n,rfl⟩:∃k,n=k+1:=⟨n- 1,oM⟩
  obtain⟨i1,i2,i3,i4⟩:=Aj n p q l oM (by simpa[bK] using ho) (by simpa[bK] using hm) hp hq.2 (fun y hy=>hl y (by simp[hy]));rw[bF];simp only[dW,bK,cG];exact⟨i1,oM,oM,oM⟩
 |n,.C::p,.C::q,[],hn,ho,hm,hp,hq,hl=>by simp[bK] at ho
 |n,.C::p,.C::q,x::l,hn,ho,hm,hp,hq,hl=>by
  simp only[qi] at hn;obtain⟨n,rfl⟩:∃k,n=k+1:=⟨n- 1,oM⟩
  obtain⟨i1,i2,i3,i4⟩:=Aj n p q l oM (by simpa[bK] using ho) (by simpa[bK] using hm) hp hq (fun y hy=>hl y (by simp[hy]));rw[bF];simp only[dW,bK,cG];exact⟨i1,oM,oM,oM⟩
 |n,[],[],l,hn,ho,hm,hp,hq,hl=>by simp[bF,dW,bK,cG]
 |n,[],.K d::q,l,hn,ho,hm,hp,hq,hl=>by simp only[bK] at ho hm;omega
 |n,[],.C::q,l,hn,ho,hm,hp,hq,hl=>by simp only[bK] at ho hm;omega
 |n,.K c::p,[],l,hn,ho,hm,hp,hq,hl=>by simp only[bK] at ho hm;omega
 |n,.C::p,[],l,hn,ho,hm,hp,hq,hl=>by simp only[bK] at ho hm;omega
theorem Bz:∀(n:Nat) (p q:List DU),p.length+q.length<=n->cG p=bK q->bK (dU p q)=bK p/\cG (dU p q)=cG q
 |n,.C::p,q,hn,hm=>by
  simp only[qi] at hn;obtain⟨n,rfl⟩:∃k,n=k+1:=⟨n- 1,oM⟩
  have i:=Bz n p q oM (by simpa[cG] using hm);rw[dU];simp only[bK,cG];omega
 |n,[],.A e::q,hn,hm=>by
  simp only[qi] at hn;obtain⟨n,rfl⟩:∃k,n=k+1:=⟨n- 1,oM⟩
  have i:=Bz n [] q (by simp only[zg] at hn|-;omega) (by simpa[bK] using hm);rw[dU]
  ·simp only[bK,cG] at i|-;omega
  intro p hp;cases hp
 |n,.A a::p,.A e::q,hn,hm=>by
  simp only[qi] at hn;obtain⟨n,rfl⟩:∃k,n=k+1:=⟨n- 1,oM⟩
  have i:=Bz n (.A a::p) q (by simp only[qi];omega) (by simpa[bK] using hm);rw[dU]
  ·simp only[bK,cG] at i|-;omega
  intro p hp;cases hp
 |n,.K c::p,.A e::q,hn,hm=>by
  simp only[qi] at hn;obtain⟨n,rfl⟩:∃k,n=k+1:=⟨n- 1,oM⟩
  have i:=Bz n (.K c::p) q (by simp only[qi];omega) (by simpa[bK] using hm);rw[dU]
  ·simp only[bK,cG] at i|-;omega
  intro p hp;cases hp
 |n,.K c::p,.K d::q,hn,hm=>by
  simp only[qi] at hn;obtain⟨n,rfl⟩:∃k,n=k+1:=⟨n- 1,oM⟩
  have i:=Bz n p q oM (by simpa[cG,bK] using hm);rw[dU];simp only[bK,cG];omega
 |n,.K c::p,.C::q,hn,hm=>by
  simp only[qi] at hn;obtain⟨n,rfl⟩:∃k,n=k+1:=⟨n- 1,oM⟩
  have i:=Bz n p q oM (by simpa[cG,bK] using hm);rw[dU];simp only[bK,cG];omega
 |n,.A a::p,.K d::q,hn,hm=>by
  simp only[qi] at hn;obtain⟨n,rfl⟩:∃k,n=k+1:=⟨n- 1,oM⟩
  have i:=Bz n p q oM (by simpa[cG,bK] using hm);rw[dU];simp only[bK,cG];omega
 |n,.A a::p,.C::q,hn,hm=>by
  simp only[qi] at hn;obtain⟨n,rfl⟩:∃k,n=k+1:=⟨n- 1,oM⟩
  have i:=Bz n p q oM (by simpa[cG,bK] using hm);rw[dU];simp only[bK,cG];omega
 |n,[],[],hn,hm=>by simp[dU,bK,cG]
 |n,[],.K d::q,hn,hm=>by simp[bK,cG] at hm
 |n,[],.C::q,hn,hm=>by simp[bK,cG] at hm
 |n,.K c::p,[],hn,hm=>by simp[bK,cG] at hm
 |n,.A c::p,[],hn,hm=>by simp[bK,cG] at hm
end Go.Ch
namespace Go.Ch
open Go Go.Ab
def o7(l:List aB):Int:=if l.length=0 then-1 else(l.getD 0 default).af
end Go.Ch
end
section
set_option maxRecDepth 100000
set_option maxHeartbeats 4000000
open Go Go.Proofs Go.Ab
namespace Go.Ch
theorem z31(l:List aB)(u:Int):FC Tryz.prog 93 [.ptr 0 0] (app emp [(0,.box [VL 4 bB l,VI u])]) (VI (o7 l)) (app emp [(0,.box [VL 4 bB l,VI u])]):=by
 refine .go Tryz.f93 ?_;refine .bp [.r [],.r [(4,X (Xl bB l))]] ((l.length:Int)==0) (fun h1=> ?_) (fun h1=> ?_)
 ·have e1:((o7 l):Int)= -1:=by
   unfold o7;exact iF
  exact .aG [.r []] [(0,0)] (fun z0:Int=>(VI z0,[(0,.box [VL 4 bB l,VI u])])) _ _ e1
 have e2:((o7 l):Int)=((l.getD 0 default)).af:=by
  unfold o7;exact iF
 exact .aG [.r [(4,X (Xi bB l 0))]] [(0,0)] (fun z0:Int=>(VI z0,[(0,.box [VL 4 bB l,VI u])])) _ _ e2
theorem z32(l:List aB)(u:Int)(h0:0<l.length)(hb: -9223372036854775808<=cE (l.getD 0 default)- u/\cE (l.getD 0 default)- u<=9223372036854775807):FC Tryz.prog 95 [.ptr 0 0] (app emp [(0,.box [VL 4 bB l,VI u])]) (VI (cE (l.getD 0 default)- u)) (app emp [(0,.box [VL 4 bB l,VI u])]):=by
 refine .go Tryz.f95 ?_;have e1:((cE (l.getD 0 default)- u):Int)=((cE ((l.getD 0 default)))- u):=by
  (first|omega|with_reducible exact fun h=>h| (intro hq;rw[hq];done)| (intro hq;rw[hq];rfl)| (simp only[qj];done)| (simp only[qj];omega)| (simp;omega)| (simp;done))
 exact .aG [.r [],.r [(4,X (Xi bB l 0)),(6,X (aW (By ((l.getD 0 default))) X0)),(11,X (Xn ((cE ((l.getD 0 default)))- u)))]] [(0,0)] (fun z0:Int=>(VI z0,[(0,.box [VL 4 bB l,VI u])])) _ _ e1
def cO(l:List aB)(u n:Int):aB:=if(l.getD 0 default).af=1 then⟨(l.getD 0 default).af,(l.getD 0 default).n,(l.getD 0 default).ah,((l.getD 0 default).elems.take (u+n).toNat).drop u.toNat⟩ else⟨(l.getD 0 default).af,n,(l.getD 0 default).ah,(l.getD 0 default).elems⟩
def cT(l:List aB)(u n:Int):List aB:=if u+n=cE (l.getD 0 default) then l.drop 1 else l
def cW(l:List aB)(u n:Int):Int:=if u+n=cE (l.getD 0 default) then 0 else u+n
theorem x4v(l:List aB)(u n:Int)(h0:0<l.length)(hu:0<=u/\0<=n/\u+n<=cE (l.getD 0 default)/\u+n<=9223372036854775807):FC Tryz.prog 94 [.ptr 0 0,VI n] (app emp [(0,.box [VL 4 bB l,VI u])]) (.t (bB (cO l u n))) (app emp [(0,.box [VL 4 bB (cT l u n),VI (cW l u n)]),(1,.box [VI ((cO l u n).af),VI ((cO l u n).n),VL 2 aS ((cO l u n).ah),VL 3 aU ((cO l u n).elems)])]):=by
 refine .go Tryz.f94 ?_;refine .bp [.r [],.r [(4,X (Xi bB l 0))],.r []] ((((l.getD 0 default)).af)==1) (fun h2=> ?_) (fun h2=> ?_)
 ·have fV:cE (l.getD 0 default)=(l.getD 0 default).elems.length:=by unfold cE;rw[if_pos oM]
  refine .bp [.r [(11,X (Xn (u+n))),(12,X (Qx aU 3 (((l.getD 0 default)).elems) u (u+n)))],.r [(5,X (Xn (u+n)))],.r [(8,X (Xi bB l 0)),(10,X (aW (By ((l.getD 0 default))) X0))]] ((u+n)==(cE ((l.getD 0 default)))) (fun h6=> ?_) (fun h6=> ?_)
  ·have e1:((cT l u n):List aB)=(l.drop 1):=by
    simp only[cO,cT,cW];exact iF
   have e2:((cW l u n):Int)=0:=by
    simp only[cO,cT,cW];exact iF
   have e3:((cO l u n).af:Int)=((l.getD 0 default)).af:=by
    simp only[cO,cT,cW];exact iF
   have e4:((cO l u n).n:Int)=((l.getD 0 default)).n:=by
    simp only[cO,cT,cW];exact iF
   have e5:((cO l u n).ah:List aI)=((l.getD 0 default)).ah:=by
    simp only[cO,cT,cW];exact iF
   have e6:((cO l u n).elems:List aL)=(((((l.getD 0 default)).elems).take (Int.toNat (u+n))).drop (Int.toNat u)):=by
    simp only[cO,cT,cW];exact iF
   have e7:((cO l u n):aB)=({af:=((l.getD 0 default)).af,n:=((l.getD 0 default)).n,ah:=((l.getD 0 default)).ah,elems:=(((((l.getD 0 default)).elems).take (Int.toNat (u+n))).drop (Int.toNat u))}:aB):=by
    simp only[cO,cT,cW];exact iF
   exact .aG [.r [(6,X (y7 bB 4 l 1))],.r []] [(0,0),(1,1)] (fun((z0,z1,z2,z3,z4,z5,z6):(List aB)×Int×Int×Int×(List aI)×(List aL)×aB)=>(.t (bB z6),[(0,.box [VL 4 bB z0,VI z1]),(1,.box [VI z2,VI z3,VL 2 aS z4,VL 3 aU z5])])) _ _ (pr e1 (pr e2 (pr e3 (pr e4 (pr e5 (pr e6 e7))))))
  have e8:((cT l u n):List aB)=l:=by
   simp only[cO,cT,cW];exact iF
  have e9:((cW l u n):Int)=(u+n):=by
   simp only[cO,cT,cW];exact iF
  have kE:((cO l u n).af:Int)=((l.getD 0 default)).af:=by
   simp only[cO,cT,cW];exact iF
  have lg:((cO l u n).n:Int)=((l.getD 0 default)).n:=by
   simp only[cO,cT,cW];exact iF
  have lu:((cO l u n).ah:List aI)=((l.getD 0 default)).ah:=by
   simp only[cO,cT,cW];exact iF
  have nP:((cO l u n).elems:List aL)=(((((l.getD 0 default)).elems).take (Int.toNat (u+n))).drop (Int.toNat u)):=by
   simp only[cO,cT,cW];exact iF
  have nQ:((cO l u n):aB)=({af:=((l.getD 0 default)).af,n:=((l.getD 0 default)).n,ah:=((l.getD 0 default)).ah,elems:=(((((l.getD 0 default)).elems).take (Int.toNat (u+n))).drop (Int.toNat u))}:aB):=by
   simp only[cO,cT,cW];exact iF
  exact .aG [.r []] [(0,0),(1,1)] (fun((z0,z1,z2,z3,z4,z5,z6):(List aB)×Int×Int×Int×(List aI)×(List aL)×aB)=>(.t (bB z6),[(0,.box [VL 4 bB z0,VI z1]),(1,.box [VI z2,VI z3,VL 2 aS z4,VL 3 aU z5])])) _ _ (pr e8 (pr e9 (pr kE (pr lg (pr lu (pr nP nQ))))))
 refine .bp [.r [],.r [(5,X (Xn (u+n)))],.r [(8,X (Xi bB l 0)),(10,X (aW (By ((l.getD 0 default))) X0))]] ((u+n)==(cE ((l.getD 0 default)))) (fun h6=> ?_) (fun h6=> ?_)
 ·have pY:((cT l u n):List aB)=(l.drop 1):=by
   simp only[cO,cT,cW];exact iF
  have xO:((cW l u n):Int)=0:=by
   simp only[cO,cT,cW];exact iF
  have xP:((cO l u n).af:Int)=((l.getD 0 default)).af:=by
   simp only[cO,cT,cW];exact iF
  have xQ:((cO l u n).n:Int)=n:=by
   simp only[cO,cT,cW];exact iF
  have HL:((cO l u n).ah:List aI)=((l.getD 0 default)).ah:=by
   simp only[cO,cT,cW];exact iF
  have HM:((cO l u n).elems:List aL)=((l.getD 0 default)).elems:=by
   simp only[cO,cT,cW];exact iF
  have OT:((cO l u n):aB)=({af:=((l.getD 0 default)).af,n:=n,ah:=((l.getD 0 default)).ah,elems:=((l.getD 0 default)).elems}:aB):=by
   simp only[cO,cT,cW];exact iF
  exact .aG [.r [(6,X (y7 bB 4 l 1))],.r []] [(0,0),(1,1)] (fun((z0,z1,z2,z3,z4,z5,z6):(List aB)×Int×Int×Int×(List aI)×(List aL)×aB)=>(.t (bB z6),[(0,.box [VL 4 bB z0,VI z1]),(1,.box [VI z2,VI z3,VL 2 aS z4,VL 3 aU z5])])) _ _ (pr pY (pr xO (pr xP (pr xQ (pr HL (pr HM OT))))))
 have OU:((cT l u n):List aB)=l:=by
  simp only[cO,cT,cW];exact iF
 have OV:((cW l u n):Int)=(u+n):=by
  simp only[cO,cT,cW];exact iF
 have OW:((cO l u n).af:Int)=((l.getD 0 default)).af:=by
  simp only[cO,cT,cW];exact iF
 have e25:((cO l u n).n:Int)=n:=by
  simp only[cO,cT,cW];exact iF
 have e26:((cO l u n).ah:List aI)=((l.getD 0 default)).ah:=by
  simp only[cO,cT,cW];exact iF
 have e27:((cO l u n).elems:List aL)=((l.getD 0 default)).elems:=by
  simp only[cO,cT,cW];exact iF
 have e28:((cO l u n):aB)=({af:=((l.getD 0 default)).af,n:=n,ah:=((l.getD 0 default)).ah,elems:=((l.getD 0 default)).elems}:aB):=by
  simp only[cO,cT,cW];exact iF
 exact .aG [.r []] [(0,0),(1,1)] (fun((z0,z1,z2,z3,z4,z5,z6):(List aB)×Int×Int×Int×(List aI)×(List aL)×aB)=>(.t (bB z6),[(0,.box [VL 4 bB z0,VI z1]),(1,.box [VI z2,VI z3,VL 2 aS z4,VL 3 aU z5])])) _ _ (pr OU (pr OV (pr OW (pr e25 (pr e26 (pr e27 e28))))))
end Go.Ch
end
section
namespace Go.Ch
open Go Go.Ab
def og(l:List aB)(u:Int):List DU:=(bD l).drop u.toNat
structure fh(l:List aB)(u:Int):Prop where
 ok:∀s∈l,n9 s
 pos:0<=u
 lt:0<l.length->u<cE (l.getD 0 default)
 nil:l.length=0->u=0
theorem RR{s:aB}(h:n9 s):((ir s).length:Int)=cE s:=by
 unfold ir cE;rcases h with⟨k,_⟩| ⟨k,_,_,n1,_⟩
 ·rw[if_pos k,if_pos k,qj]
 have k1:¬s.af=1:=oM;rw[if_neg k1,if_neg k1];split<;>rw[zd]<;>omega
theorem yg(l:List aB):og l 0=bD l:=rfl
theorem Ak{l:List aB}{u:Int}(h:l.length=0):og l u=[]:=by
 rw[qZ.1 h];unfold og;simp[bD]
theorem RS{l:List aB}{u n:Int}(ho:n9 (l.getD 0 default))(hu:0<=u)(hn:0<=n)(hl:u+n<=cE (l.getD 0 default)):
 (ir (l.getD 0 default)).drop u.toNat=ir (cO l u n)++(ir (l.getD 0 default)).drop (u+n).toNat:=by
 unfold cO;generalize l.getD 0 default=s at*
 have hz:(u+n).toNat=u.toNat+n.toNat:=oM;unfold cE at hl;by_cases k1:s.af=1
 ·rw[if_pos k1] at hl|-;unfold ir;simp only[if_pos k1];rw[<-List.map_drop,<-List.map_drop,<-List.map_append];congr 1
  conv=>lhs;rw[<-List.take_append_drop (u+n).toNat s.elems]
  rw[zJ (by rw[qz];omega)]
 rw[if_neg k1] at hl|-;unfold ir;simp only[if_neg k1];split
 ·rw[List.drop_replicate,List.drop_replicate,List.replicate_append_replicate];congr 1;omega
 rw[List.drop_replicate,List.drop_replicate,List.replicate_append_replicate];congr 1;omega
theorem xe{l:List aB}{u n:Int}(h:fh l u)(h0:0<l.length)(hn:0<=n)(hl:u+n<=cE (l.getD 0 default)):
 fh (cT l u n) (cW l u n)/\og l u=ir (cO l u n)++og (cT l u n) (cW l u n):=by
 have ho:n9 (l.getD 0 default):=h.ok _ (oG h0);have hz:=RR ho;have hp:=h.pos;have hs:=RS ho hp hn hl;have hd:=IZ (l:=l) (i:=0) h0;rw[List.drop_zero] at hd;have he:bD l=ir (l.getD 0 default)++bD (l.drop 1):=by conv=>lhs;rw[hd,bD]
 have fQ:=h.lt h0;unfold cT cW;by_cases e:u+n=cE (l.getD 0 default)
 ·rw[if_pos e,if_pos e];refine⟨⟨fun s hs=>h.ok s (qE hs),zm _,fun h1=> ?_,fun _=>rfl⟩,?_⟩
  ·have:=tJ (rD.2 (h.ok _ (qE (oG h1))));omega
  rw[yg];unfold og;rw[he,zJ oM,hs,qN (show(ir (l.getD 0 default)).length<=(u+n).toNat by omega),qL]
 rw[if_neg e,if_neg e];refine⟨⟨h.ok,oM,fun _=>oM,fun h1=>oM⟩,?_⟩;unfold og;rw[he,zJ oM,zJ oM,hs,qI]
theorem w2J(n:Nat)(p q:List DU):dU (List.replicate n .C++p) q=List.replicate n .C++dU p q:=by
 induction n with
 |zero=>rfl
 |succ n ih=>rw[qH,qm,dU,ih,qm]
def RT:List DU->Prop
 | .C::_=>False
 |_=>True
theorem w06{p:List DU}(hp:RT p)(e:aL)(q:List DU):dU p (.A e::q)= .A e::dU p q:=by
 rw[dU];intro p' h;subst h;exact hp
theorem w2K(e:List aL){p:List DU}(hp:RT p)(q:List DU):dU p (e.map .A++q)=e.map .A++dU p q:=by
 induction e with
 |nil=>rfl
 |cons x e ih=>rw[qU,qm,w06 hp,ih,qm]
theorem w07(n:Nat)(c d:List aI)(p q:List DU):dU (List.replicate n (.K c)++p) (List.replicate n (.K d)++q)=List.replicate n (.K (fm l7 c d))++dU p q:=by
 induction n with
 |zero=>rfl
 |succ n ih=>rw[qH,qH,qH,qm,qm,dU,ih,qm]
theorem w08(n:Nat)(c:List aI)(p q:List DU):dU (List.replicate n (.K c)++p) (List.replicate n .C++q)=List.replicate n .C++dU p q:=by
 induction n with
 |zero=>rfl
 |succ n ih=>rw[qH,qH,qm,qm,dU,ih,qm]
theorem w09(e:List aL)(d:List aI)(p q:List DU):dU (e.map .A++p) (List.replicate e.length (.K d)++q)=(e.map (lM d)).map .A++dU p q:=by
 induction e with
 |nil=>rfl
 |cons x e ih=>rw[qU,qi,qH,qm,qm,dU,ih];rfl
theorem w1a(e:List aL)(p q:List DU):dU (e.map .A++p) (List.replicate e.length .C++q)=dU p q:=by
 induction e with
 |nil=>rfl
 |cons x e ih=>rw[qU,qi,qH,qm,qm,dU,ih]
end Go.Ch
end
section
namespace Go.Ch
open Go Go.Ab
structure JD(w:fM)(ps:List aB)(pu:Int)(qs:List aB)(qu:Int)(T:Nat)(G:fM):Prop where
 gp:fh ps pu
 gq:fh qs qu
 dp:DN 100000000000 ps
 dq:DN 100000000000 qs
 eq:cG (og ps pu)=bK (og qs qu)
 di:DI w (dU (og ps pu) (og qs qu)) T G
def pM(ps:List aB)(pu:Int)(qs:List aB)(qu:Int):Nat:=(og ps pu).length+(og qs qu).length
theorem pN{m:Nat}{l:List aB}{u n:Int}(h:DN m l):DN m (cT l u n):=by
 unfold cT;split
 ·exact fun s hs=>h s (qE hs)
 exact h
theorem BA{l:List aB}{u n:Int}(k:(l.getD 0 default).af=2):ir (cO l u n)=List.replicate n.toNat .C:=by
 unfold cO;rw[if_neg oM];unfold ir;simp only;rw[if_neg oM,if_pos k]
theorem CT{l:List aB}{u n:Int}(k:(l.getD 0 default).af=1):ir (cO l u n)=(cO l u n).elems.map .A:=by
 unfold cO;rw[if_pos k];unfold ir;simp only;rw[if_pos k]
theorem yh{l:List aB}{u n:Int}(k:(l.getD 0 default).af=0):ir (cO l u n)=List.replicate n.toNat (.K (l.getD 0 default).ah):=by
 unfold cO;rw[if_neg oM];unfold ir;simp only;rw[if_neg oM,if_neg oM]
section
variable {w:fM} {ps qs:List aB} {pu qu:Int} {T:Nat} {G:fM}
theorem JD.cut(h:JD w ps pu qs qu T G)(h0:0<ps.length)(hk:(ps.getD 0 default).af=2){n:Int}(hn:n=cE (ps.getD 0 default)- pu):
 JD ⟨w.out,w.add,w.cut+n⟩ (cT ps pu n) (cW ps pu n) qs qu T G/\pM (cT ps pu n) (cW ps pu n) qs qu<pM ps pu qs qu:=by
 have hl:=h.gp.lt h0;obtain⟨g,e⟩:=xe (n:=n) h.gp h0 oM oM;rw[BA hk] at e;have hd:=h.di;have he:=h.eq;rw[e,w2J] at hd;rw[e,xd,(Ah _).2] at he;have vo:=hd.sO;rw[show((n.toNat:Nat):Int)=n by omega] at vo;refine⟨⟨g,h.gq,pN h.dp,h.dq,oM,vo⟩,?_⟩;unfold pM;rw[e,List.length_append,List.length_replicate];omega
theorem w2L{l:List aB}{u:Int}(h:fh l u)(hk:0<l.length->(l.getD 0 default).af≠2):RT (og l u):=by
 by_cases h0:0<l.length
 ·have hl:=h.lt h0;have hp:=h.pos;have k2:=hk h0;obtain⟨g,e⟩:=xe (n:=1) h h0 dM oM;have hs:=(tJ (rD.2 (h.ok _ (oG h0)))).1;rcases hs with k|k|k
  ·rw[e,yh k];trivial
  ·rw[e,CT k];have YW:(cO l u 1).elems.length=1:=by
    unfold cO;rw[if_pos k];simp only[List.length_drop,List.length_take];have:cE (l.getD 0 default)=(l.getD 0 default).elems.length:=by unfold cE;rw[if_pos k]
    omega
   generalize(cO l u 1).elems=z at YW;cases z with
   |nil=>simp at YW
   |cons x r=>trivial
  exact absurd k k2
 rw[Ak oM];trivial
theorem JD.add(h:JD w ps pu qs qu T G)(hp:0<ps.length->(ps.getD 0 default).af≠2)(h0:0<qs.length)(hk:(qs.getD 0 default).af=1){n:Int}(hn:n=cE (qs.getD 0 default)- qu):
 JD ⟨w.out,w.add++(cO qs qu n).elems,w.cut⟩ ps pu (cT qs qu n) (cW qs qu n) T G:=by
 have hl:=h.gq.lt h0;obtain⟨g,e⟩:=xe (n:=n) h.gq h0 oM oM;rw[CT hk] at e;have hd:=h.di;have he:=h.eq;rw[e,w2K _ (w2L h.gp hp)] at hd;rw[e,oe,(z39 _).1] at he;exact⟨h.gp,g,h.dp,pN h.dq,oM,hd.elems⟩
theorem Eh{l:List aB}{u n:Int}(k:(l.getD 0 default).af=1)(hu:0<=u)(hn:0<=n)(hl:u+n<=cE (l.getD 0 default)):(cO l u n).elems.length=n.toNat:=by
 unfold cO;rw[if_pos k];simp only[List.length_drop,List.length_take];have:cE (l.getD 0 default)=(l.getD 0 default).elems.length:=by unfold cE;rw[if_pos k]
 omega
theorem JD.both(h:JD w ps pu qs qu T G)(a:0<ps.length)(b:0<qs.length)(kp:(ps.getD 0 default).af≠2)(kq:(qs.getD 0 default).af≠1){n:Int}(hn:n=min (cE (ps.getD 0 default)- pu) (cE (qs.getD 0 default)- qu)):
 (((ps.getD 0 default).af=0/\(qs.getD 0 default).af=0->JD ⟨gF (bw w) n (fm l7 (ps.getD 0 default).ah (qs.getD 0 default).ah),[],0⟩ (cT ps pu n) (cW ps pu n) (cT qs qu n) (cW qs qu n) T G)/\
 ((ps.getD 0 default).af=0/\(qs.getD 0 default).af=2->JD ⟨w.out,w.add,w.cut+n⟩ (cT ps pu n) (cW ps pu n) (cT qs qu n) (cW qs qu n) T G)/\
 ((ps.getD 0 default).af=1/\(qs.getD 0 default).af=0->JD ⟨w.out,w.add++(cO ps pu n).elems.map (lM (qs.getD 0 default).ah),w.cut⟩ (cT ps pu n) (cW ps pu n) (cT qs qu n) (cW qs qu n) T G)/\
 ((ps.getD 0 default).af=1/\(qs.getD 0 default).af=2->JD w (cT ps pu n) (cW ps pu n) (cT qs qu n) (cW qs qu n) T G))/\
 pM (cT ps pu n) (cW ps pu n) (cT qs qu n) (cW qs qu n)< pM ps pu qs qu:=by
 have l1:=h.gp.lt a;have l2:=h.gq.lt b;have p1:=h.gp.pos;have p2:=h.gq.pos;obtain⟨g1,e1⟩:=xe (n:=n) h.gp a oM oM;obtain⟨g2,e2⟩:=xe (n:=n) h.gq b oM oM;have hd:=h.di;have he:=h.eq;have k1:=(tJ (rD.2 (h.gp.ok _ (oG a)))).1;have k2:=(tJ (rD.2 (h.gq.ok _ (oG b)))).1;refine⟨⟨fun k=> ?_,fun k=> ?_,fun k=> ?_,fun k=> ?_⟩,?_⟩
 ·rw[e1,e2,yh k.1,yh k.2] at hd he;rw[w07,show n.toNat=(n.toNat- 1)+1 by omega] at hd;rw[xd,oe,(uL _ _).1,(uL _ _).2] at he;have vo:=hd.bW;rw[show(((n.toNat- 1+1:Nat)):Int)=n by omega] at vo;exact⟨g1,g2,pN h.dp,pN h.dq,oM,vo⟩
 ·rw[e1,e2,yh k.1,BA k.2] at hd he;rw[w08] at hd;rw[xd,oe,(Ah _).1,(uL _ _).2] at he;have vo:=hd.sO;rw[show((n.toNat:Nat):Int)=n by omega] at vo;exact⟨g1,g2,pN h.dp,pN h.dq,oM,vo⟩
 ·have hz:=Eh (n:=n) k.1 p1 oM oM;rw[e1,e2,CT k.1,yh k.2] at hd he;rw[xd,oe,(uL _ _).1,(z39 _).2] at he;rw[<-hz,w09] at hd;exact⟨g1,g2,pN h.dp,pN h.dq,oM,hd.elems⟩
 ·have hz:=Eh (n:=n) k.1 p1 oM oM;rw[e1,e2,CT k.1,BA k.2] at hd he;rw[xd,oe,(Ah _).1,(z39 _).2] at he;rw[<-hz,w1a] at hd;exact⟨g1,g2,pN h.dp,pN h.dq,oM,hd⟩
 have hs:=RR (h.gp.ok _ (oG a));have hl:=congrArg List.length (RS (n:=n) (h.gp.ok _ (oG a)) p1 oM oM);simp only[List.length_append,List.length_drop] at hl;unfold pM;rw[e1,e2,List.length_append,List.length_append];omega
end
end Go.Ch
end
section
namespace Go.Ch
open Go Go.Ab
theorem y4d(p q:List DU)(hp:Ai p)(hq:Ai q):∀u∈dU p q,mA u:=by
 have Ei:∀e:aL,gC e=0/\e.ah.length<=100000000000->mA (.A e):=fun e h=>⟨h.1,oM⟩
 have RV:∀c:List aI,VG true c/\c.length<=100000000000->mA (.K c):=fun e h=>⟨h.1,oM⟩
 have okU:∀us:List DU,Ai us->∀u∈us,mA u:=fun us h u hu=>by
  cases u with
  |K c=>exact RV c (h.1 c hu)
  |A e=>exact Ei e (h.2 e hu)
  |C=>trivial
 induction p,q using dU.induct with
 |case1 q p ih=>
  rw[dU];intro u hu;rcases qg.1 hu with rfl|hu
  ·trivial
  exact ih hp.tail hq u hu
 |case2 p e q dh ih=>
  rw[dU];rotate_left
  ·exact dh
  intro u hu;rcases qg.1 hu with rfl|hu
  ·exact Ei _ (hq.2 e sM)
  exact ih hp hq.tail u hu
 |case3 c p d q ih=>
  rw[dU];intro u hu;rcases qg.1 hu with rfl|hu
  ·have h1:=hp.1 c sM;have h2:=hq.1 d sM;have:=uN l7 c d;exact⟨W8 FO h1.1 h2.1,oM⟩
  exact ih hp.tail hq.tail u hu
 |case4 c p q ih=>
  rw[dU];intro u hu;rcases qg.1 hu with rfl|hu
  ·trivial
  exact ih hp.tail hq.tail u hu
 |case5 e p d q ih=>
  rw[dU];intro u hu;rcases qg.1 hu with rfl|hu
  ·have h1:=hp.2 e sM;have h2:=hq.1 d sM;have:=uN eY e.ah d;refine⟨x7s h1.1 h2.1,?_⟩;show(fm eY e.ah d).length<=_;omega
  exact ih hp.tail hq.tail u hu
 |case6 e p q ih=>
  rw[dU];exact ih hp.tail hq.tail
 |case7 p dh=>
  rw[show dU p []=p by unfold dU;split<;>simp_all];exact okU _ hp
 |case8 q h1 h2=>
  rw[show dU [] q=[] by unfold dU;split<;>simp_all];intro u hu;cases hu
def sQ(a b:List aB):List aB:=tM (dU (bD a) (bD b))
theorem Mc{l:List aB}(h:j9 l):fh l 0:=⟨h.1.all,zm _,fun h0=>by have:=tJ (rD.2 (h.1.all _ (oG h0)));omega,fun _=>rfl⟩
theorem Al{l:List aB}(h:j9 l):(bK (bD l):Int)=eu l/\(cG (bD l):Int)=eU l:=RJ (fun s hs=>okW (h.1.all s hs))
theorem YX{a b:List aB}(va:j9 a)(vb:j9 b)(da:DN 100000000000 a)(db:DN 100000000000 b)(hm:eU a=eu b):
 (∀u∈dU (bD a) (bD b),mA u)/\(bK (dU (bD a) (bD b)):Int)=eu a/\(cG (dU (bD a) (bD b)):Int)=eU b/\
 JD ⟨[],[],0⟩ a 0 b 0 (dU (bD a) (bD b)).length (jJ ⟨[],[],0⟩ (dU (bD a) (bD b)))/\j9 (sQ a b)/\jV (bD (sQ a b)) (dU (bD a) (bD b))/\
 eu (sQ a b)=eu a/\eU (sQ a b)=eU b:=by
 have hu:=y4d _ _ (CS va.1.all da) (CS vb.1.all db);have la:=Al va;have lb:=Al vb;have hl:=Bz _ (bD a) (bD b) (qp _) oM;have hs:=RP (dU (bD a) (bD b));have a1:=va.2.1;have b1:=vb.2.2;obtain⟨d1,d2,d3,d4⟩:=F4 hu oM oM;exact⟨hu,oM,oM,⟨Mc va,Mc vb,da,db,by rw[yg,yg];omega,by rw[yg,yg];exact DI.start hu oM⟩,d1,d2,by unfold sQ;omega,by unfold sQ;omega⟩
theorem Md{l:List aB}{u:Int}(h:fh l u)(h0:0<l.length):((l.getD 0 default).af≠1->1<=bK (og l u))/\((l.getD 0 default).af≠2->1<=cG (og l u)):=by
 have hl:=h.lt h0;have hp:=h.pos;obtain⟨g,e⟩:=xe (n:=1) h h0 dM oM;have hs:=(tJ (rD.2 (h.ok _ (oG h0)))).1;rcases hs with k|k|k
 ·rw[e,yh k,oe,xd,(uL _ _).1,(uL _ _).2];constructor<;>intro _<;>omega
 ·have hz:=Eh (n:=1) k hp oM oM;rw[e,CT k,oe,xd,(z39 _).1,(z39 _).2,hz];constructor<;>intro _<;>omega
 rw[e,BA k,oe,xd,(Ah _).1,(Ah _).2];constructor<;>intro _<;>omega
variable {w:fM} {ps qs:List aB} {pu qu:Int} {T:Nat} {G:fM}
theorem JD.two(h:JD w ps pu qs qu T G)(h0:0<ps.length\/0<qs.length)(hp:0<ps.length->(ps.getD 0 default).af≠2)(hq:0<qs.length->(qs.getD 0 default).af≠1):0<ps.length/\0<qs.length:=by
 have he:=h.eq;rcases Nat.eq_zero_or_pos ps.length with a|a
 ·rcases Nat.eq_zero_or_pos qs.length with b|b
  ·omega
  have:=(Md h.gq b).1 (hq b);rw[Ak a] at he;simp only[cG] at he;omega
 rcases Nat.eq_zero_or_pos qs.length with b|b
 ·have:=(Md h.gp a).2 (hp a);rw[Ak b] at he;simp only[bK] at he;omega
 exact⟨a,b⟩
theorem JD.done(h:JD w ps pu qs qu T G)(a:ps.length=0)(b:qs.length=0):w=G:=by
 have:=h.di;rw[Ak a,Ak b] at this;exact DI.done (by simpa[dU] using this)
theorem JD.RW(h:JD w ps pu qs qu T G)(hp:0<ps.length->(ps.getD 0 default).af≠2)(h0:0<qs.length)(hk:(qs.getD 0 default).af=1){n:Int}(hn:n=cE (qs.getD 0 default)- qu):
 pM ps pu (cT qs qu n) (cW qs qu n)< pM ps pu qs qu:=by
 have hl:=h.gq.lt h0;obtain⟨g,e⟩:=xe (n:=n) h.gq h0 oM oM;have hz:=Eh (n:=n) hk h.gq.pos oM oM;rw[CT hk] at e;unfold pM;rw[e,qf,qj,hz];omega
theorem Me{l:List aB}{u:Int}(h:fh l u):(o7 l= -1/\l.length=0)\/(o7 l=(l.getD 0 default).af/\0<l.length/\(o7 l=0\/o7 l=1\/o7 l=2)):=by
 unfold o7;split
 ·rename_i h0;exact .inl ⟨rfl,h0⟩
 rename_i h0;have h0':0<l.length:=oM;have hs:=(tJ (rD.2 (h.ok _ (oG h0')))).1;exact .inr ⟨rfl,oM,hs⟩
theorem k01{l:List aB}{u:Int}(h:fh l u)(h0:0<l.length)(k:(l.getD 0 default).af≠2):(l.getD 0 default).af=0\/(l.getD 0 default).af=1:=by
 have:=(tJ (rD.2 (h.ok _ (oG h0)))).1;omega
theorem Mf{l:List aB}{u:Int}(h:fh l u)(h0:0<l.length)(k:(l.getD 0 default).af≠1):(l.getD 0 default).af=0\/(l.getD 0 default).af=2:=by
 have:=(tJ (rD.2 (h.ok _ (oG h0)))).1;omega
theorem CU{l:List aB}{u:Int}(h:fh l u)(hd:DN 100000000000 l)(h0:0<l.length):0<=u/\u<cE (l.getD 0 default)/\cE (l.getD 0 default)<=100000000000/\
 (l.getD 0 default).ah.length<=100000000000/\(l.getD 0 default).elems.length<=100000000000/\AN 100000000000 (l.getD 0 default).elems:=by
 have hs:=tJ (rD.2 (h.ok _ (oG h0)));obtain⟨b1,b2,b3⟩:=hd _ (oG h0);have hl:=h.lt h0;exact⟨h.pos,hl,oM,b2,b1,b3⟩
theorem YY{l:List aB}{u:Int}(h:fh l u)(h0:0<l.length)(k:(l.getD 0 default).af≠1):cE (l.getD 0 default)<=2147483647:=by
 have hs:=tJ (rD.2 (h.ok _ (oG h0)));have:cE (l.getD 0 default)=(l.getD 0 default).n:=by unfold cE;rw[if_neg k]
 omega
theorem z87(l:List aB)(u n:Int):(cO l u n).af=(l.getD 0 default).af:=by unfold cO;split<;>rfl
theorem Mg(l:List aB)(u n:Int):(cO l u n).ah=(l.getD 0 default).ah:=by unfold cO;split<;>rfl
theorem w1b{l:List aB}{u n:Int}(h:(l.getD 0 default).af≠1):(cO l u n).n=n:=by unfold cO;rw[if_neg h]
theorem Mh{l:List aB}{u n:Int}{m:Nat}(h:AN m (l.getD 0 default).elems):AN m (cO l u n).elems:=by
 unfold cO;split
 ·exact fun x hx=>h x (qF (qE hx))
 exact h
theorem RX{m k:Nat}{l:List aL}(h:AN m l)(hm:m<=k):AN k l:=fun x hx=>qC (h x hx) hm
theorem x9D{m k:Nat}{l:List aL}{c:List aI}(h:AN m l)(hm:m+c.length<=k):AN k (l.map (lM c)):=fun x hx=>by
 obtain⟨y,hy,rfl⟩:=qO.1 hx;have h1:=h y hy;have:=uN eY y.ah c;show(fm eY y.ah c).length<=k;omega
end Go.Ch
end
section
set_option maxRecDepth 100000
set_option maxHeartbeats 4000000
open Go Go.Proofs Go.Ab
namespace Go.Ch
theorem CV(l:List aB)(u n:Int)(s:aB)(hs:cO l u n=s)(h0:0<l.length)(hu:0<=u/\0<=n/\u+n<=cE (l.getD 0 default)/\u+n<=9223372036854775807):
 FC Tryz.prog 94 [.ptr 0 0,VI n] (app emp [(0,.box [VL 4 bB l,VI u])]) (.t (bB s)) (app emp [(0,.box [VL 4 bB (cT l u n),VI (cW l u n)]),(1,.box [VI s.af,VI s.n,VL 2 aS s.ah,VL 3 aU s.elems])]):=hs▸x4v l u n h0 hu
theorem YZ(a b:List aB)(va:j9 a)(vb:j9 b)(da:DN 100000000000 a)(db:DN 100000000000 b)(hm:eU a=eu b):FC Tryz.prog 142 [VL 4 bB a,VL 4 bB b] (app emp []) (.aZ [VL 4 bB (sQ a b),VI 0]) (app emp []):=by
 refine .go Tryz.f142 ?_;refine .len 0 (fun dQ=> ?_);refine .len 1 (fun gW=> ?_);have ca:=wO.2 va;have cb:=wO.2 vb;have da4:=da.mono (n:=400000000000) dM;have db4:=db.mono (n:=400000000000) dM;obtain⟨_,_,_,st,vj,_⟩:=YX va vb da db hm;have cj:=wO.2 vj;refine .bp [.r [],.r [(1,X (aW (Cp a aM) X0))],.r []] ((k8 a) !=0) (fun h2=> ?_) (fun h2=> ?_)
 ·exfalso;omega
 refine .bp [.r [(1,X (aW (Cp b aM) X0))],.r []] ((k8 b) !=0) (fun h5=> ?_) (fun h5=> ?_)
 ·exfalso;omega
 refine .bp [.r [(1,X (aW (HH a aM) X0))],.r [(1,X (aW (HH b aM) X0))],.r []] ((eu b) !=(eU a)) (fun h9=> ?_) (fun h9=> ?_)
 ·exfalso;omega
 refine .loop (α:=Int×(List aB)×(List aL)×(List aB)×Int×(List aB)×Int) [.r [],.le (.nB 232 0 4),.le (.nB 232 1 3),.r []] 306 (fun(y,o,x,ps,pu,qs,qu)=>([(12,.ptr 232 0),(13,.ptr 258 0),(14,.ptr 282 0)],[(232,.box [.aF 240 o.length,.aF 241 x.length,VI y]),(240,OR 4 bB o),(241,OR 3 aU x),(258,.box [VL 4 bB ps,VI pu]),(282,.box [VL 4 bB qs,VI qu])])) (fun(y,o,x,ps,pu,qs,qu)=>JD ⟨o,x,y⟩ ps pu qs qu (dU (bD a) (bD b)).length (jJ ⟨[],[],0⟩ (dU (bD a) (bD b)))) (fun(y,o,x,ps,pu,qs,qu)=>pM ps pu qs qu) (0,[],[],a,0,b,0) ?_ ?_
 ·exact st
 rintro⟨y,o,x,ps,pu,qs,qu⟩ dD gj;try dsimp only at dD
 have kp:=Me dD.gp;have kq:=Me dD.gq;have hb:=dD.di.bd;simp only at hb;have hf:=dD.di.fl.1;refine .bp (let a:=decide ((o7 ps)>=0);[.r [(1,X (gB [(0,258)] (z31 ps pu) X0)),(5,Xv 1 (!a) (gB [(0,282)] (z31 qs qu) X0)),(6,Xv 1 (!a) X0),(7,X (b7 a))]]) (decide ((o7 ps)>=0)||decide ((o7 qs)>=0)) (fun fe=> ?_) (fun fe=> ?_)
 ·refine .bp [.r [(1,X (gB [(0,258)] (z31 ps pu) X0))]] ((o7 ps)==2) (fun eN=> ?_) (fun eN=> ?_)
  ·have sS:0<ps.length:=oM;have k1:(ps.getD 0 default).af=2:=oM;clear kp kq;have sp:=CU dD.gp dD.dp sS;obtain⟨s,hs⟩:∃z,cO ps pu (cE (ps.getD 0 default)- pu)=z:=⟨_,rfl⟩
   have hn:s.n=cE (ps.getD 0 default)- pu:=by rw[<-hs];exact w1b oM
   have hC:=JD.cut dD sS k1 rfl;refine .back [.r [(4,X (gB [(0,258)] (z32 ps pu oM oM) X0)),(5,X (dV 442 [(0,258)] (CV ps pu (cE (ps.getD 0 default)- pu) s hs oM oM) X0)),(7,X (Xn (y+s.n)))]] [(232,232),(240,240),(241,241),(258,258),(282,282)] (gj ((y+s.n),o,x,(cT ps pu (cE (ps.getD 0 default)- pu)),(cW ps pu (cE (ps.getD 0 default)- pu)),qs,qu) ?_ ?_)
   ·rw[hn];exact hC.1
   exact hC.2
  refine .bp [.r [(1,X (gB [(0,282)] (z31 qs qu) X0))]] ((o7 qs)==1) (fun eO=> ?_) (fun eO=> ?_)
  ·have tN:0<qs.length:=oM;have k2:(qs.getD 0 default).af=1:=oM;have k1:0<ps.length->(ps.getD 0 default).af≠2:=fun h=>oM
   clear kp kq;have sq:=CU dD.gq dD.dq tN;obtain⟨s,hs⟩:∃z,cO qs qu (cE (qs.getD 0 default)- qu)=z:=⟨_,rfl⟩
   have hA:=JD.add dD k1 tN k2 rfl;have RY:=JD.RW dD k1 tN k2 rfl;have Jh:=RX (Mh (u:=qu) (n:=cE (qs.getD 0 default)- qu) sq.2.2.2.2.2) (k:=400000000000) dM;rw[hs] at hA Jh;have Ej:=hA.di.bd;simp only[qf] at Ej;refine .back [.r [(2,X (gB [(0,282)] (z32 qs qu oM oM) X0)),(3,X (dV 458 [(0,282)] (CV qs qu (cE (qs.getD 0 default)- qu) s hs oM oM) X0)),(5,X (dV 474 [(0,232),(1,240),(2,241)] (F2 o x y s.elems aM oM) X0))]] [(232,232),(240,240),(241,241),(258,258),(282,282)] (gj (y,o,(x++s.elems),ps,pu,(cT qs qu (cE (qs.getD 0 default)- qu)),(cW qs qu (cE (qs.getD 0 default)- qu))) ?_ ?_)
   ·exact hA
   exact RY
  obtain⟨sS,tN⟩:=JD.two dD oM (fun h=>oM) (fun h=>oM);have k1:(ps.getD 0 default).af≠2:=oM;have k3:(qs.getD 0 default).af≠1:=oM;have sk:=fun _:Unit=>k01 dD.gp sS k1
  have tk:=fun _:Unit=>Mf dD.gq tN k3
  have Ji:=fun n=>JD.both (n:=n) dD sS tN k1 k3
  clear kp kq fe eN eO k1 k3;have sp:=CU dD.gp dD.dp sS;have sq:=CU dD.gq dD.dq tN;obtain⟨m,Jj⟩:∃z,min (cE (ps.getD 0 default)- pu) (cE (qs.getD 0 default)- qu)=z:=⟨_,rfl⟩
  have hB:=Ji m Jj.symm;have m1:1<=m/\m<=cE (ps.getD 0 default)- pu/\m<=cE (qs.getD 0 default)- qu/\m<=100000000000:=oM;have m2:pu+m<=cE (ps.getD 0 default)/\qu+m<=cE (qs.getD 0 default):=oM;obtain⟨s,hs⟩:∃z,cO ps pu m=z:=⟨_,rfl⟩
  obtain⟨t,ht⟩:∃z,cO qs qu m=z:=⟨_,rfl⟩
  have BB:=z87 ps pu m;have Ek:=z87 qs qu m;have El:=Mg ps pu m;have Em:=Mg qs qu m;have DJ:=Mh (u:=pu) (n:=m) sp.2.2.2.2.2;rw[hs] at BB El DJ;rw[ht] at Ek Em;have al:s.ah.length<=100000000000/\t.ah.length<=100000000000:=by rw[El,Em];omega
  rw[hs,<-El,<-Em,<-BB,<-Ek] at hB;rw[<-BB] at sk;rw[<-Ek] at tk;clear Ji;refine .bp (let a:=cE (ps.getD 0 default)- pu;let b:=cE (qs.getD 0 default)- qu;[.r [(1,X (gB [(0,258)] (z32 ps pu oM oM) X0)),(3,X (gB [(0,282)] (z32 qs qu oM oM) X0)),(4,X (vq a b))],.le (.eq 15 (VI (min a b)) (VI m) (.of_eq (by rw[Jj]))),.r [(2,X (dV 498 [(0,258)] (CV ps pu m s hs oM oM) X0)),(5,X (dV 522 [(0,282)] (CV qs qu m t ht oM oM) X0))],.r [(5,Xv 1 (s.af==0) X0),(6,Xv 1 (s.af==0) X0),(7,X (Xk (s.af==0)))]]) ((s.af==0)&&(t.af==0)) (fun rE=> ?_) (fun rE=> ?_)
  ·have fl:=uN l7 s.ah t.ah;have mk:=YY dD.gp sS (by rw[<-BB,rE.1];decide);refine .back [.r [(5,X (bV 674 (x3W s.ah t.ah oM) X0)),(6,X (dV 682 [(0,232),(1,240),(2,241)] (Eg o x y m (fm l7 s.ah t.ah) oM (by first|omega|simp) oM (by first|assumption|exact Ef aM)) X0))]] [(232,232),(240,240),(682,241),(258,258),(282,282)] (gj (0,(gF (bw ⟨o,x,y⟩) m (fm l7 s.ah t.ah)),[],(cT ps pu m),(cW ps pu m),(cT qs qu m),(cW qs qu m)) ?_ ?_)
   ·exact hB.1.1 rE
   exact hB.2
  refine .bp [.r []] (s.af==0) (fun CW=> ?_) (fun CW=> ?_)
  ·refine .back [.r [(3,X (Xn (y+m)))]] [(232,232),(240,240),(241,241),(258,258),(282,282)] (gj ((y+m),o,x,(cT ps pu m),(cW ps pu m),(cT qs qu m),(cW qs qu m)) ?_ ?_)
   ·exact hB.1.2.1 ⟨CW,(tk ()).resolve_left (rE.resolve_left (fun h=>h CW))⟩
   exact hB.2
  refine .bp [.r []] (t.af==0) (fun BC=> ?_) (fun BC=> ?_)
  ·refine .at 698 [(232,232),(240,240),(241,241),(258,258),(282,282),(530,530),(538,538)] ([(12,.ptr 232 0),(13,.ptr 258 0),(14,.ptr 282 0),(16,.ptr 530 0),(17,.ptr 538 0),(114,VB (t.af==0))],[(232,.box [.aF 240 o.length,.aF 241 x.length,VI y]),(240,OR 4 bB o),(241,OR 3 aU x),(258,.box [VL 4 bB (cT ps pu m),VI (cW ps pu m)]),(282,.box [VL 4 bB (cT qs qu m),VI (cW qs qu m)]),(530,.box [VI s.af,VI s.n,VL 2 aS s.ah,VL 3 aU s.elems]),(538,.box [VI t.af,VI t.n,VL 2 aS t.ah,VL 3 aU t.elems])]) ?_;have Y0:∀x∈s.elems,x.ah.length+t.ah.length<1099511627776:=fun x hx=>by have:=DJ x hx;omega
   have Y1:=x9D DJ (c:=t.ah) (k:=400000000000) oM;have hE4:(List.map (lM t.ah) s.elems).length=s.elems.length:=qj _;have s1:=(sk ()).resolve_left CW;have hE3:s.elems.length=m.toNat:=by rw[<-hs];exact Eh (by rw[<-BB];exact s1) sp.1 oM m2.1
   have hA:=hB.1.2.2.1 ⟨s1,BC⟩;have Ej:=hA.di.bd;simp only[qf,qj] at Ej;clear rE CW;refine .back [.r [(4,X (bV 730 (YG s.elems t.ah oM aM) X0)),(5,X (dV 738 [(0,232),(1,240),(2,241)] (F2 o x y (List.map (lM t.ah) s.elems) aM oM) X0))]] [(232,232),(240,240),(241,241),(258,258),(282,282)] (gj (y,o,(x++(List.map (lM t.ah) s.elems)),(cT ps pu m),(cW ps pu m),(cT qs qu m),(cW qs qu m)) ?_ ?_)
   ·exact hA
   exact hB.2
  refine .at 698 [(232,232),(240,240),(241,241),(258,258),(282,282),(530,530),(538,538)] ([(12,.ptr 232 0),(13,.ptr 258 0),(14,.ptr 282 0),(16,.ptr 530 0),(17,.ptr 538 0),(114,VB (t.af==0))],[(232,.box [.aF 240 o.length,.aF 241 x.length,VI y]),(240,OR 4 bB o),(241,OR 3 aU x),(258,.box [VL 4 bB (cT ps pu m),VI (cW ps pu m)]),(282,.box [VL 4 bB (cT qs qu m),VI (cW qs qu m)]),(530,.box [VI s.af,VI s.n,VL 2 aS s.ah,VL 3 aU s.elems]),(538,.box [VI t.af,VI t.n,VL 2 aS t.ah,VL 3 aU t.elems])]) ?_;refine .back [] [(232,232),(240,240),(241,241),(258,258),(282,282)] (gj (y,o,x,(cT ps pu m),(cW ps pu m),(cT qs qu m),(cW qs qu m)) ?_ ?_)
  ·exact hB.1.2.2.2 ⟨(sk ()).resolve_left CW,(tk ()).resolve_left BC⟩
  exact hB.2
 have hG:=JD.done dD oM oM;have ng:bw ⟨o,x,y⟩=sQ a b:=by rw[hG];rfl
 have hcd:k8 (bw ⟨o,x,y⟩)=0:=by rw[ng];exact cj
 have w27:=dD.di.fl.2;have e1:((sQ a b):List aB)=(bw ⟨o,x,y⟩):=by
  rw[ng]
 exact .aG [.r [(0,X (dV 370 [(0,232),(1,240),(2,241)] (z85 o x y oM aM aM) X0))],.le (.fr 4 [(((bw ⟨o,x,y⟩).length):Nat)=(List.map bB (bw ⟨o,x,y⟩)).length] ⟨lm,trivial⟩)] [] (fun z0:List aB=>(.aZ [VL 4 bB z0,VI 0],[])) _ _ e1
theorem Kt(d:Doc)(k:Int)(hn:d.aq.length<=1048576)(hs:gH d.aq):FC Tryz.prog 51 [.t (gU d),VI k] (app emp []) (VI (rU d.aq k)) (app emp []):=by
 refine .go Tryz.f51 ?_;refine .bp [.r [],.r [(2,X (aW (OZ d k aM aM) X0))],.r []] (eM (d).aq k) (fun h2=> ?_) (fun h2=> ?_)
 ·have e1:((rU d.aq k):Int)=(bt (d).aq k:Int):=by
   unfold rU;rw[if_pos h2]
  exact .aG [.r []] [] (fun z0:Int=>(VI z0,[])) _ _ e1
 have e2:((rU d.aq k):Int)= -1:=by
  unfold rU;rw[if_neg (by rw[h2];decide)]
 exact .aG [.r []] [] (fun z0:Int=>(VI z0,[])) _ _ e2
theorem x1s(l:List aL):FC Tryz.prog 197 [VL 3 aU l,VN] (app emp []) (VB ((l.length:Int)==0)) (app emp []):=by
 refine .go Tryz.f197 ?_;refine .len 0 (fun dQ=> ?_);refine .bp [.r [],.r [(1,X (Xl aU l))]] ((l.length:Int) !=0) (fun h1=> ?_) (fun h1=> ?_)
 ·have e1:(((l.length:Int)==0):Bool)=false:=by
   rw[beq_eq_false_iff_ne];exact h1
  exact .aG [.r []] [] (fun z0:Bool=>(VB z0,[])) _ _ e1
 refine .loop (α:=Nat) [.r [(1,X (Xl aU l))]] 72 (fun i=>([(1,VN),(13,VL 3 aU l),(14,VI (l.length:Int)),(15,VI (i:Int))],[])) (fun i=>i=0) (fun i=>0) (0:Nat) ?_ ?_
 ·rfl
 rintro i I4 kJ;try dsimp only at I4
 refine .bp [.r []] (decide ((i:Int)< (l.length:Int))) (fun h4=> ?_) (fun h4=> ?_)
 ·exfalso;omega
 have e2:(((l.length:Int)==0):Bool)=true:=by
  rw[beq_iff_eq];exact h1
 exact .aG [.r []] [] (fun z0:Bool=>(VB z0,[])) _ _ e2
theorem x7u(l:List fN):FC Tryz.prog 198 [VL 8 cm l,VN] (app emp []) (VB ((l.length:Int)==0)) (app emp []):=by
 refine .go Tryz.f198 ?_;refine .len 0 (fun dQ=> ?_);refine .bp [.r [],.r [(1,X (Xl cm l))]] ((l.length:Int) !=0) (fun h1=> ?_) (fun h1=> ?_)
 ·have e1:(((l.length:Int)==0):Bool)=false:=by
   rw[beq_eq_false_iff_ne];exact h1
  exact .aG [.r []] [] (fun z0:Bool=>(VB z0,[])) _ _ e1
 refine .loop (α:=Nat) [.r [(1,X (Xl cm l))]] 72 (fun i=>([(0,VL 8 cm l),(1,VN),(12,VI (l.length:Int)),(13,VI (i:Int))],[])) (fun i=>i=0) (fun i=>0) (0:Nat) ?_ ?_
 ·rfl
 rintro i I4 kJ;try dsimp only at I4
 refine .bp [.r []] (decide ((i:Int)< (l.length:Int))) (fun h4=> ?_) (fun h4=> ?_)
 ·exfalso;omega
 have e2:(((l.length:Int)==0):Bool)=true:=by
  rw[beq_iff_eq];exact h1
 exact .aG [.r []] [] (fun z0:Bool=>(VB z0,[])) _ _ e2
theorem x1t(n:Node):FC Tryz.prog 147 [.t (bz n),.t (.agg [TI 0,TI 0,TN,TN,TI 0,TI 0,TN,TN,TN])] (app emp []) (VB (AR n)) (app emp []):=by
 refine .go Tryz.f147 ?_;have e1:((AR n):Bool)=((((((n.id==0)&&(n.af==0))&&(iN n.ah []))&&(((n.aD).length:Int)==0))&&(ye n.az))&&(((n.draw).length:Int)==0)):=by
  rfl
 exact .aG (let e:=n.id==0;let b:=e&&(n.af==0);let c:=b&&(iN n.ah []);let a:=c&&(((n.aD).length:Int)==0);let d:=a&&(ye n.az);[.r [],.r [(7,Xv 1 e X0),(9,Xv 1 e X0),(10,Xv 2 e X0),(11,X (Xk e)),(14,Xv 1 b X0),(16,Xv 1 b X0),(17,Xv 2 b (aW (.nil 1 2 (QU n.ah [])) X0)),(18,X (Xk b)),(21,Xv 1 c X0),(23,Xv 1 c X0),(24,Xv 2 c (aW (x1s n.aD) X0)),(25,X (Xk c)),(28,Xv 1 a X0),(30,Xv 1 a X0),(31,Xv 2 a (aW (YD n.az) X0)),(32,X (Xk a)),(35,Xv 1 d X0),(37,Xv 1 d X0),(38,Xv 2 d (aW (x7u n.draw) X0)),(39,X (Xk d))]]) [] (fun z0:Bool=>(VB z0,[])) _ _ e1
theorem x1u(o:aP)(hl:Ed o):FC Tryz.prog 87 [.t (bI o)] (app emp []) (VB (ve o)) (app emp []):=by
 refine .go Tryz.f87 ?_;obtain⟨l1,l2,l3,l4,l5⟩:=hl;have e1:((ve o):Bool)=(((((((o.af==0)&&(o.ai !=0))|| ((o.af !=0)&& !(AR o.nw)))|| ((o.af !=1)&&decide ((o.ah.length:Int)> 0)))|| ((o.af !=2)&&decide ((o.aQ.length:Int)> 0)))|| ((o.af !=3)&&decide ((((((o.az.ak.length:Int)+(o.az.aj.length:Int))+(o.az.cells.length:Int))+(o.az.split.length:Int))+(o.az.merge.length:Int))> 0)))|| ((o.af !=4)&&decide ((o.draw.length:Int)> 0))):=by
  rfl
 exact .aG (let e:=(o.af==0)&&(o.ai !=0);let c:=e|| ((o.af !=0)&& !(AR o.nw));let b:=c|| ((o.af !=1)&&decide ((o.ah.length:Int)> 0));let d:=b|| ((o.af !=2)&&decide ((o.aQ.length:Int)> 0));let f:=((o.az.ak.length:Int)+(o.az.aj.length:Int))+(o.az.cells.length:Int);let g:=(!e)&&(o.af !=0);let k:=(!c)&&(o.af !=1);let m:=(!b)&&(o.af !=2);let p:=f+(o.az.split.length:Int);let a:=d|| ((o.af !=3)&&decide ((p+(o.az.merge.length:Int))> 0));let n:=(!a)&&(o.af !=4);[.r [],.r [],.r [(2,X (Xl bk o.az.ak)),(5,X (Xl bk o.az.aj)),(6,X (Xn ((o.az.ak.length:Int)+(o.az.aj.length:Int)))),(9,X (Xl bg o.az.cells)),(10,X (Xn f)),(13,X (Xl bE o.az.split)),(14,X (Xn p)),(17,X (Xl bE o.az.merge)),(18,X (Xn (p+(o.az.merge.length:Int))))],.r [(5,Xv 1 (o.af==0) X0),(6,Xv 1 (o.af==0) X0),(7,X (Xk (o.af==0))),(10,Xv 1 (!e) X0),(11,Xv 1 (!e) X0),(12,Xv 1 (!e) X0),(14,Xv 1 g X0),(16,Xv 2 g (aW (x1t o.nw) X0)),(17,Xv 1 g X0),(18,kH (!e) (o.af !=0)),(19,X (b7 e)),(22,Xv 1 (!c) X0),(23,Xv 1 (!c) X0),(24,Xv 1 (!c) X0),(26,Xv 1 k X0),(27,Xv 1 k (Xl aS o.ah)),(28,Xv 1 k X0),(29,kH (!c) (o.af !=1)),(30,X (b7 c)),(33,Xv 1 (!b) X0),(34,Xv 1 (!b) X0),(35,Xv 1 (!b) X0),(37,Xv 1 m X0),(38,Xv 1 m (Xl bB o.aQ)),(39,Xv 1 m X0),(40,kH (!b) (o.af !=2)),(41,X (b7 b)),(44,Xv 1 (!d) X0),(45,Xv 1 (!d) X0),(46,Xv 1 (!d) X0),(48,kH (!d) (o.af !=3)),(49,X (b7 d)),(52,Xv 1 (!a) X0),(53,Xv 1 (!a) X0),(54,Xv 1 (!a) X0),(56,Xv 1 n X0),(57,Xv 1 n (Xl cm o.draw)),(58,Xv 1 n X0),(59,kH (!a) (o.af !=4)),(60,X (b7 a))]]) [] (fun z0:Bool=>(VB z0,[])) _ _ e1
theorem y9e(o:aP)(ho:pq o):FC Tryz.prog 44 [.t (bI o)] (app emp []) (VI (fF o)) (app emp []):=by
 refine .go Tryz.f44 ?_;have k1:=ho.len;have k2:=ho.nl;have k3:=ho.dn;have k4:=ho.gl;refine .bp (let a:=decide (o.af<0);[.r [],.r [(5,Xv 1 (!a) X0),(6,Xv 1 (!a) X0),(7,X (b7 a))]]) (decide (o.af<0)||decide (o.af>4)) (fun h1=> ?_) (fun h1=> ?_)
 ·have e1:((fF o):Int)=8:=by
   unfold fF;exact iF
  exact .aG [.r []] [] (fun z0:Int=>(VI z0,[])) _ _ e1
 refine .bp [.r [(1,X (aW (x1u o aM) X0))]] (ve o) (fun h3=> ?_) (fun h3=> ?_)
 ·have e2:((fF o):Int)=4:=by
   unfold fF;exact iF
  exact .aG [.r []] [] (fun z0:Int=>(VI z0,[])) _ _ e2
 refine .bp [.r []] (o.af==0) (fun h5=> ?_) (fun h5=> ?_)
 ·have e3:((fF o):Int)=(fT o.nw):=by
   unfold fF;exact iF
  exact .aG [.r [(2,X (aW (z93 o.nw aM) X0))]] [] (fun z0:Int=>(VI z0,[])) _ _ e3
 refine .bp (let a:=decide (o.ai<1);[.r [(5,Xv 1 (!a) X0),(6,Xv 1 (!a) X0),(7,X (b7 a))]]) (decide (o.ai<1)||decide (o.ai>1073741824)) (fun h7=> ?_) (fun h7=> ?_)
 ·have e4:((fF o):Int)=2:=by
   unfold fF;exact iF
  exact .aG [.r []] [] (fun z0:Int=>(VI z0,[])) _ _ e4
 refine .bp [.r []] (o.af==1) (fun h9=> ?_) (fun h9=> ?_)
 ·have e5:((fF o):Int)=(dO true o.ah 0):=by
   unfold fF;exact iF
  exact .aG [.r [(2,X (aW (CF o.ah) X0))]] [] (fun z0:Int=>(VI z0,[])) _ _ e5
 refine .bp [.r []] (o.af==2) (fun gO=> ?_) (fun gO=> ?_)
 ·have e6:((fF o):Int)=(k8 o.aQ):=by
   unfold fF;exact iF
  exact .aG [.r [(2,X (aW (Cp o.aQ aM) X0))]] [] (fun z0:Int=>(VI z0,[])) _ _ e6
 refine .bp [.r []] (o.af==3) (fun fe=> ?_) (fun fe=> ?_)
 ·have e7:((fF o):Int)=(jF o.az):=by
   unfold fF;exact iF
  exact .aG [.r [(2,X (aW (LV o.az aM) X0))]] [] (fun z0:Int=>(VI z0,[])) _ _ e7
 have e8:((fF o):Int)=(lX o.draw 0):=by
  unfold fF;exact iF
 exact .aG [.r [(2,X (aW (X7 o.draw) X0))]] [] (fun z0:Int=>(VI z0,[])) _ _ e8
theorem OX(c:List aP)(hc:∀o∈c,pq o):FC Tryz.prog 19 [VL 19 bI c] (app emp []) (VI (jC c 0)) (app emp []):=by
 refine .go Tryz.f19 ?_;refine .len 0 (fun dQ=> ?_);refine .loop (α:=Nat) [.r [],.r [(1,X (Xl bI c))]] 32 (fun i=>([(6,VL 19 bI c),(7,VI (c.length:Int)),(8,VI (i:Int))],[])) (fun i=>i<=c.length/\jC c 0=jC c i) (fun i=>c.length-i) (0:Nat) ?_ ?_
 ·exact⟨oM,rfl⟩
 rintro i I2 ic;try dsimp only at I2
 refine .bp [.r []] (decide ((i:Int)< (c.length:Int))) (fun h2=> ?_) (fun h2=> ?_)
 ·have ho:=hc _ (fE (l:=c) (i:=i) oM);refine .bp [.r [(0,X (Xi bI c (i:Int)))],.r [(1,X (aW (y9e ((c.getD i default)) aM) X0))],.r []] ((fF ((c.getD i default))) !=0) (fun h5=> ?_) (fun h5=> ?_)
  ·have e1:((jC c 0):Int)=(fF ((c.getD i default))):=by
    exact I2.2.trans (x1c oM h5)
   exact .aG [.r []] [] (fun z0:Int=>(VI z0,[])) _ _ e1
  refine .back [.r [(0,X (Xn ((i:Int)+1)))]] [] (ic ((i+1):Nat) ?_ ?_)
  ·exact⟨oM,I2.2.trans (y89 oM h5)⟩
  exact tO
 have e2:((jC c 0):Int)=0:=by
  exact I2.2.trans (x1d oM)
 exact .aG [.r []] [] (fun z0:Int=>(VI z0,[])) _ _ e2
end Go.Ch
end
section
namespace Go.Ch
open Go Go.Ab
def RZ:List DU->Prop
 | .A _::_=>False
 |_=>True
theorem w1d(e:aL)(p q:List DU):bF (.A e::p) q=(.A e::(bF p q).1,.K []::(bF p q).2):=by rw[bF]
theorem x9E{p:List DU}(hp:RZ p)(e:aL)(q:List DU):bF p (.A e::q)=(.K []::(bF p q).1,.A e::(bF p q).2):=by
 cases p with
 |nil=>rw[bF]
 |cons u p=>
  cases u with
  |A x=>exact hp.elim
  |K c=>rw[bF]
  |C=>rw[bF]
theorem w2M(e:List aL)(p q:List DU):bF (e.map .A++p) q=(e.map .A++(bF p q).1,List.replicate e.length (.K [])++(bF p q).2):=by
 induction e with
 |nil=>rfl
 |cons x e ih=>rw[qU,qm,w1d,ih];rfl
theorem w1e(e:List aL){p:List DU}(hp:RZ p)(q:List DU):bF p (e.map .A++q)=(List.replicate e.length (.K [])++(bF p q).1,e.map .A++(bF p q).2):=by
 induction e with
 |nil=>rfl
 |cons x e ih=>rw[qU,qm,x9E hp,ih];rfl
theorem w1f(n:Nat)(c d:List aI)(p q:List DU):bF (List.replicate n (.K c)++p) (List.replicate n (.K d)++q)=(List.replicate n (.K (fm iw c d))++(bF p q).1,List.replicate n (.K d)++(bF p q).2):=by
 induction n with
 |zero=>rfl
 |succ n ih=>rw[qH,qH,qH,qm,qm,bF,ih];rfl
theorem w1g(n:Nat)(c:List aI)(p q:List DU):bF (List.replicate n (.K c)++p) (List.replicate n .C++q)=((bF p q).1,List.replicate n .C++(bF p q).2):=by
 induction n with
 |zero=>rfl
 |succ n ih=>rw[qH,qH,qm,qm,bF,ih];rfl
theorem w1h(n:Nat)(c:List aI)(p q:List DU):bF (List.replicate n .C++p) (List.replicate n (.K c)++q)=(List.replicate n .C++(bF p q).1,(bF p q).2):=by
 induction n with
 |zero=>rfl
 |succ n ih=>rw[qH,qH,qm,qm,bF,ih];rfl
theorem w1i(n:Nat)(p q:List DU):bF (List.replicate n .C++p) (List.replicate n .C++q)=bF p q:=by
 induction n with
 |zero=>rfl
 |succ n ih=>rw[qH,qm,qm,bF,ih]
theorem y4e(p q:List DU)(hp:Ai p)(hq:Ai q):(∀u∈(bF p q).1,mA u)/\(∀u∈(bF p q).2,mA u):=by
 have Ei:∀e:aL,gC e=0/\e.ah.length<=100000000000->mA (.A e):=fun e h=>⟨h.1,oM⟩
 have RV:∀c:List aI,VG true c/\c.length<=100000000000->mA (.K c):=fun e h=>⟨h.1,oM⟩
 have Mi:mA (.K []):=⟨Ee,sM⟩
 have cons:∀(x:DU) (l:List DU),mA x->(∀u∈l,mA u)->∀u∈x::l,mA u:=fun x l h k u hu=>by
  rcases qg.1 hu with rfl|hu
  ·exact h
  exact k u hu
 induction p,q using bF.induct with
 |case1 e p q ih=>rw[bF];have i:=ih hp.tail hq;exact⟨cons _ _ (Ei e (hp.2 e sM)) i.1,cons _ _ Mi i.2⟩
 |case2 e q ih=>rw[bF];have i:=ih hp hq.tail;exact⟨cons _ _ Mi i.1,cons _ _ (Ei e (hq.2 e sM)) i.2⟩
 |case3 c p e q ih=>rw[bF];have i:=ih hp hq.tail;exact⟨cons _ _ Mi i.1,cons _ _ (Ei e (hq.2 e sM)) i.2⟩
 |case4 p e q ih=>rw[bF];have i:=ih hp hq.tail;exact⟨cons _ _ Mi i.1,cons _ _ (Ei e (hq.2 e sM)) i.2⟩
 |case5 c p d q ih=>
  rw[bF];have i:=ih hp.tail hq.tail;have h1:=hp.1 c sM;have h2:=hq.1 d sM;have:=uN iw c d;exact⟨cons _ _ ⟨Lo FO h1.1 h2.1,oM⟩ i.1,cons _ _ (RV d h2) i.2⟩
 |case6 c p q ih=>rw[bF];have i:=ih hp.tail hq.tail;exact⟨i.1,cons _ _ trivial i.2⟩
 |case7 p d q ih=>rw[bF];have i:=ih hp.tail hq.tail;exact⟨cons _ _ trivial i.1,i.2⟩
 |case8 p q ih=>rw[bF];exact ih hp.tail hq.tail
 |case9 p dh=>
  rw[show bF p []=([],[]) by unfold bF;split<;>simp_all];exact⟨fun u hu=>absurd hu (qX),fun u hu=>absurd hu (qX)⟩
 |case10 q h1 h2=>
  rw[show bF [] q=([],[]) by unfold bF;split<;>simp_all];exact⟨fun u hu=>absurd hu (qX),fun u hu=>absurd hu (qX)⟩
theorem y9f(p q:List DU):cG (bF p q).1<=cG p+cG q/\cG (bF p q).2<=cG p+cG q:=by
 induction p,q using bF.induct with
 |case9 p dh=>
  rw[show bF p []=([],[]) by unfold bF;split<;>simp_all];simp[cG]
 |case10 q h1 h2=>
  rw[show bF [] q=([],[]) by unfold bF;split<;>simp_all];simp[cG]
 |_=>rw[bF];simp only[cG] at*;omega
def jD(a b:List aB):List aB:=tM (bF (bD a) (bD b)).1
def pO(a b:List aB):List aB:=tM (bF (bD a) (bD b)).2
structure PD(wx wy:fM)(ps:List aB)(pu:Int)(qs:List aB)(qu:Int)(T U:Nat)(G H:fM):Prop where
 gp:fh ps pu
 gq:fh qs qu
 dp:DN 100000000000 ps
 dq:DN 100000000000 qs
 eq:bK (og ps pu)=bK (og qs qu)
 dx:DI wx (bF (og ps pu) (og qs qu)).1 T G
 dy:DI wy (bF (og ps pu) (og qs qu)).2 U H
theorem w2N{l:List aB}{u:Int}(h:fh l u)(hk:0<l.length->(l.getD 0 default).af≠1):RZ (og l u):=by
 by_cases h0:0<l.length
 ·have hl:=h.lt h0;obtain⟨g,e⟩:=xe (n:=1) h h0 dM oM;rcases Mf h h0 (hk h0) with k|k
  ·rw[e,yh k];trivial
  rw[e,BA k];trivial
 rw[Ak oM];trivial
section
variable {wx wy:fM} {ps qs:List aB} {pu qu:Int} {T U:Nat} {G H:fM}
theorem PD.Bt(h:PD wx wy ps pu qs qu T U G H)(h0:0<ps.length)(hk:(ps.getD 0 default).af=1){n:Int}(hn:n=cE (ps.getD 0 default)- pu):
 PD ⟨wx.out,wx.add++(cO ps pu n).elems,wx.cut⟩ ⟨gF (bw wy) ((cO ps pu n).elems.length:Int) [],[],0⟩ (cT ps pu n) (cW ps pu n) qs qu T U G H/\
 pM (cT ps pu n) (cW ps pu n) qs qu<pM ps pu qs qu/\((cO ps pu n).elems.length:Int)=n:=by
 have hl:=h.gp.lt h0;obtain⟨g,e⟩:=xe (n:=n) h.gp h0 oM oM;have hz:=Eh (n:=n) hk h.gp.pos oM oM;rw[CT hk] at e;have hx:=h.dx;have hy:=h.dy;have he:=h.eq;rw[e,w2M] at hx hy;rw[e,oe,(z39 _).1] at he;obtain⟨k,R1⟩:∃k,(cO ps pu n).elems.length=k+1:=⟨(cO ps pu n).elems.length- 1,oM⟩
 refine⟨⟨g,h.gq,pN h.dp,h.dq,oM,hx.elems,?_⟩,?_,oM⟩
 ·rw[R1] at hy|-;exact hy.bW
 unfold pM;rw[e,List.length_append,List.length_map,hz];omega
theorem PD.Bu(h:PD wx wy ps pu qs qu T U G H)(hp:0<ps.length->(ps.getD 0 default).af≠1)(h0:0<qs.length)(hk:(qs.getD 0 default).af=1){n:Int}(hn:n=cE (qs.getD 0 default)- qu):
 PD ⟨gF (bw wx) ((cO qs qu n).elems.length:Int) [],[],0⟩ ⟨wy.out,wy.add++(cO qs qu n).elems,wy.cut⟩ ps pu (cT qs qu n) (cW qs qu n) T U G H/\
 pM ps pu (cT qs qu n) (cW qs qu n)< pM ps pu qs qu/\((cO qs qu n).elems.length:Int)=n:=by
 have hl:=h.gq.lt h0;obtain⟨g,e⟩:=xe (n:=n) h.gq h0 oM oM;have hz:=Eh (n:=n) hk h.gq.pos oM oM;rw[CT hk] at e;have hx:=h.dx;have hy:=h.dy;have he:=h.eq;rw[e,w1e _ (w2N h.gp hp)] at hx hy;rw[e,oe,(z39 _).1] at he;obtain⟨k,R1⟩:∃k,(cO qs qu n).elems.length=k+1:=⟨(cO qs qu n).elems.length- 1,oM⟩
 refine⟨⟨h.gp,g,h.dp,pN h.dq,oM,?_,hy.elems⟩,?_,oM⟩
 ·rw[R1] at hx|-;exact hx.bW
 unfold pM;rw[e,List.length_append,List.length_map,hz];omega
theorem PD.both(h:PD wx wy ps pu qs qu T U G H)(a:0<ps.length)(b:0<qs.length)(kp:(ps.getD 0 default).af≠1)(kq:(qs.getD 0 default).af≠1){n:Int}(hn:n=min (cE (ps.getD 0 default)- pu) (cE (qs.getD 0 default)- qu)):
 (((ps.getD 0 default).af=0/\(qs.getD 0 default).af=0->PD ⟨gF (bw wx) n (fm iw (ps.getD 0 default).ah (qs.getD 0 default).ah),[],0⟩ ⟨gF (bw wy) n (qs.getD 0 default).ah,[],0⟩ (cT ps pu n) (cW ps pu n) (cT qs qu n) (cW qs qu n) T U G H)/\
 ((ps.getD 0 default).af=0/\(qs.getD 0 default).af=2->PD wx ⟨wy.out,wy.add,wy.cut+n⟩ (cT ps pu n) (cW ps pu n) (cT qs qu n) (cW qs qu n) T U G H)/\
 ((ps.getD 0 default).af=2/\(qs.getD 0 default).af=0->PD ⟨wx.out,wx.add,wx.cut+n⟩ wy (cT ps pu n) (cW ps pu n) (cT qs qu n) (cW qs qu n) T U G H)/\
 ((ps.getD 0 default).af=2/\(qs.getD 0 default).af=2->PD wx wy (cT ps pu n) (cW ps pu n) (cT qs qu n) (cW qs qu n) T U G H))/\
 pM (cT ps pu n) (cW ps pu n) (cT qs qu n) (cW qs qu n)< pM ps pu qs qu:=by
 have l1:=h.gp.lt a;have l2:=h.gq.lt b;have p1:=h.gp.pos;have p2:=h.gq.pos;obtain⟨g1,e1⟩:=xe (n:=n) h.gp a oM oM;obtain⟨g2,e2⟩:=xe (n:=n) h.gq b oM oM;have hx:=h.dx;have hy:=h.dy;have he:=h.eq;refine⟨⟨fun k=> ?_,fun k=> ?_,fun k=> ?_,fun k=> ?_⟩,?_⟩
 ·rw[e1,e2,yh k.1,yh k.2] at hx hy he;rw[w1f,show n.toNat=(n.toNat- 1)+1 by omega] at hx hy;rw[oe,oe,(uL _ _).1,(uL _ _).1] at he;have kD:=hx.bW;have xK:=hy.bW;rw[show(((n.toNat- 1+1:Nat)):Int)=n by omega] at kD xK;exact⟨g1,g2,pN h.dp,pN h.dq,oM,kD,xK⟩
 ·rw[e1,e2,yh k.1,BA k.2] at hx hy he;rw[w1g] at hx hy;rw[oe,oe,(Ah _).1,(uL _ _).1] at he;have xK:=hy.sO;rw[show((n.toNat:Nat):Int)=n by omega] at xK;exact⟨g1,g2,pN h.dp,pN h.dq,oM,hx,xK⟩
 ·rw[e1,e2,BA k.1,yh k.2] at hx hy he;rw[w1h] at hx hy;rw[oe,oe,(Ah _).1,(uL _ _).1] at he;have kD:=hx.sO;rw[show((n.toNat:Nat):Int)=n by omega] at kD;exact⟨g1,g2,pN h.dp,pN h.dq,oM,kD,hy⟩
 ·rw[e1,e2,BA k.1,BA k.2] at hx hy he;rw[w1i] at hx hy;rw[oe,oe,(Ah _).1] at he;exact⟨g1,g2,pN h.dp,pN h.dq,oM,hx,hy⟩
 have hs:=RR (h.gp.ok _ (oG a));have hl:=congrArg List.length (RS (n:=n) (h.gp.ok _ (oG a)) p1 oM oM);simp only[List.length_append,List.length_drop] at hl;unfold pM;rw[e1,e2,List.length_append,List.length_append];omega
theorem PD.two(h:PD wx wy ps pu qs qu T U G H)(h0:0<ps.length\/0<qs.length)(hp:0<ps.length->(ps.getD 0 default).af≠1)(hq:0<qs.length->(qs.getD 0 default).af≠1):0<ps.length/\0<qs.length:=by
 have he:=h.eq;rcases Nat.eq_zero_or_pos ps.length with a|a
 ·rcases Nat.eq_zero_or_pos qs.length with b|b
  ·omega
  have:=(Md h.gq b).1 (hq b);rw[Ak a] at he;simp only[bK] at he;omega
 rcases Nat.eq_zero_or_pos qs.length with b|b
 ·have:=(Md h.gp a).1 (hp a);rw[Ak b] at he;simp only[bK] at he;omega
 exact⟨a,b⟩
theorem PD.done(h:PD wx wy ps pu qs qu T U G H)(a:ps.length=0)(b:qs.length=0):wx=G/\wy=H:=by
 have hx:=h.dx;have hy:=h.dy;rw[Ak a,Ak b] at hx hy;exact⟨DI.done (by simpa[bF] using hx),DI.done (by simpa[bF] using hy)⟩
end
theorem z79{a b:List aB}(va:j9 a)(vb:j9 b)(da:DN 100000000000 a)(db:DN 100000000000 b)(hm:eu a=eu b)(hs:eU a+eU b<=2147483647):
 (∀u∈(bF (bD a) (bD b)).1,mA u)/\(∀u∈(bF (bD a) (bD b)).2,mA u)/\
 PD ⟨[],[],0⟩ ⟨[],[],0⟩ a 0 b 0 (bF (bD a) (bD b)).1.length (bF (bD a) (bD b)).2.length (jJ ⟨[],[],0⟩ (bF (bD a) (bD b)).1) (jJ ⟨[],[],0⟩ (bF (bD a) (bD b)).2)/\
 j9 (jD a b)/\j9 (pO a b)/\jV (bD (jD a b)) (bF (bD a) (bD b)).1/\jV (bD (pO a b)) (bF (bD a) (bD b)).2/\
 eu (jD a b)=eU b/\eu (pO a b)=eU a/\DN 400000000000 (jD a b)/\DN 400000000000 (pO a b):=by
 obtain⟨hu,hv⟩:=y4e _ _ (CS va.1.all da) (CS vb.1.all db);have la:=Al va;have lb:=Al vb;have o:∃l:List aL,l.length=bK (bD a)/\∀x∈l,VG false x.ah:=⟨List.replicate (bK (bD a)) ⟨0,0,[]⟩,sM,fun x hx=>by rw[List.eq_of_mem_replicate hx];exact(oW (e:=false) (l:=[])).1 (by rw[dO];rfl)⟩
 obtain⟨l,gW,lU⟩:=o;obtain⟨_,m2,m1,_⟩:=Aj _ (bD a) (bD b) l (Nat.le_refl _) gW.symm oM (L8 (CS va.1.all da)) (L8 (CS vb.1.all db)) lU;have nn:=y9f (bD a) (bD b);have s1:=RP (bF (bD a) (bD b)).1;have s2:=RP (bF (bD a) (bD b)).2;have a1:=va.2.2;have b1:=vb.2.2;obtain⟨d1,d2,d3,d4⟩:=F4 hu oM oM;obtain⟨e1,e2,e3,e4⟩:=F4 hv oM oM;exact⟨hu,hv,⟨Mc va,Mc vb,da,db,by rw[yg,yg];omega,by rw[yg,yg];exact DI.start hu oM,by rw[yg,yg];exact DI.start hv oM⟩,d1,e1,d2,e2,by unfold jD;omega,by unfold pO;omega,
  YU hu oM,YU hv oM⟩
end Go.Ch
end
section
namespace Go.Ch
open Go Go.Ab
def oH(s:aB):Int:=if(s.af=1/\s.elems.length=0/\fZ s=11)\/(s.af≠1/\s.n=0/\fZ s=2) then dO true s.ah 0 else fZ s
def ku(w:fM)(s:aB):fM:=
 if s.af=0 then(if s.n=0 then w else⟨gF (bw w) s.n s.ah,[],0⟩) else if s.af=1 then⟨w.out,w.add++s.elems,w.cut⟩ else⟨w.out,w.add,w.cut+s.n⟩
def z58(w:fM)(s:aB):Prop:=s.af≠0/\s.af≠1/\2147483647<w.cut+s.n
instance (w:fM) (s:aB):Decidable (z58 w s):=by unfold z58;infer_instance
def sr(w:fM):List aB->List aB×Int
 | []=>if k8 (bw w)=0 then(bw w,0) else([],3)
 |s::l=>if oH s≠0 then([],oH s) else if z58 w s then([],3) else sr (ku w s) l
def mB(d:List aB):List aB:=(sr ⟨[],[],0⟩ d).1
def uO(d:List aB):Int:=(sr ⟨[],[],0⟩ d).2
theorem R2{s:aB}(h:oH s=0):(s.af=0\/s.af=1\/s.af=2)/\0<=s.n/\s.n<=2147483647:=by
 unfold oH at h;split at h
 ·rename_i hc;rcases hc with⟨k,e,q⟩| ⟨k,n0,q⟩
  ·unfold fZ at q;rw[if_pos k] at q;split at q
   ·cases q
   rename_i hh;exact⟨.inr (.inl k),oM,oM⟩
  unfold fZ at q;rw[if_neg k] at q;split at q
  ·rename_i hk;exact⟨oM,oM,oM⟩
  cases q
 obtain⟨a,b,c,_⟩:=tJ h;exact⟨a,b,c⟩
theorem x4w{P:List aI->Prop}{R:aL->Prop}{l:List aB}{n:Int}{c:List aI}(h:∀s∈l,P s.ah/\∀x∈s.elems,R x)(hc:P c):∀s∈gF l n c,P s.ah/\∀x∈s.elems,R x:=by
 unfold gF;split
 ·rename_i hl;intro s hs;rcases zl hs with hs|rfl
  ·exact h s hs
  exact h (l.getD (l.length- 1) default) (oG oM)
 intro s hs;rcases qn.1 hs with hs|hs
 ·exact h s hs
 rw[qv] at hs;subst hs;exact⟨hc,fun x hx=>by cases hx⟩
theorem Y2{P:List aI->Prop}{R:aL->Prop}{w:fM}(h0:P [])(h:∀s∈w.out,P s.ah/\∀x∈s.elems,R x)(ha:∀x∈w.add,R x):∀s∈bw w,P s.ah/\∀x∈s.elems,R x:=by
 unfold bw;intro s hs;rcases qn.1 hs with hs|hs
 ·rcases qn.1 hs with hs|hs
  ·exact h s hs
  split at hs
  ·rw[qv] at hs;subst hs;exact⟨h0,ha⟩
  cases hs
 split at hs
 ·rw[qv] at hs;subst hs;exact⟨h0,fun x hx=>by cases hx⟩
 cases hs
theorem x7v{P:List aI->Prop}{R:aL->Prop}{w:fM}{s:aB}(h0:P [])(h:∀s∈w.out,P s.ah/\∀x∈s.elems,R x)(ha:∀x∈w.add,R x)(hs:P s.ah/\∀x∈s.elems,R x):
 (∀t∈(ku w s).out,P t.ah/\∀x∈t.elems,R x)/\∀x∈(ku w s).add,R x:=by
 unfold ku;split
 ·split
  ·exact⟨h,ha⟩
  exact⟨x4w (Y2 h0 h ha) hs.1,fun x hx=>by cases hx⟩
 split
 ·exact⟨h,fun x hx=>by rcases qn.1 hx with hx|hx;exact ha x hx;exact hs.2 x hx⟩
 exact⟨h,ha⟩
theorem R3{s:aB}(h:fZ s=0):oH s=0:=by
 unfold oH;rw[if_neg]
 ·exact h
 rintro(⟨_,_,q⟩| ⟨_,_,q⟩)<;>rw[h] at q<;>cases q
theorem y9g{w:fM}{s:aB}{l:List aB}(h:oH s=0)(hb:¬z58 w s):sr w (s::l)=sr (ku w s) l:=by
 conv=>lhs;unfold sr
 rw[if_neg (by rw[h];decide),if_neg hb]
end Go.Ch
end
section
namespace Go.Ch
open Go Go.Ab
def mC:List aB->Nat
 | []=>0
 |s::l=>s.elems.length+mC l
theorem Y3(p q:List aB):mC (p++q)=mC p+mC q:=by
 induction p with
 |nil=>simp[mC]
 |cons s p ih=>simp only[qm,mC,ih];omega
theorem Y4{d:List aB}{i:Nat}(h:i<d.length):mC (d.take (i+1))=mC (d.take i)+(d.getD i default).elems.length/\mC (d.take (i+1))<=mC d:=by
 constructor
 ·rw[qt h,Y3,show d.getD i default=d[i] by simp[List.getD,qa h]];simp[mC]
 conv=>rhs;rw[<-List.take_append_drop (i+1) d,Y3]
 omega
structure TB(d:List aB)(i:Nat)(w:fM):Prop where
 out:w.out.length<=3*i
 add:w.add.length<=mC (d.take i)
 cut:0<=w.cut/\w.cut<=2147483647
 n:∀s∈w.out,0<=s.n/\s.n<=2147483647*((i:Int)+1)
 dn:∀s∈w.out,s.ah.length<=100000000000/\∀x∈s.elems,x.ah.length<=100000000000
 an:∀x∈w.add,x.ah.length<=100000000000
 el:∀s∈w.out,s.elems.length<=mC (d.take i)
theorem TB.start(d:List aB):TB d 0 ⟨[],[],0⟩:=⟨sM,sM,⟨sM,sM⟩,fun s h=>absurd h qX,fun s h=>absurd h qX,fun s h=>absurd h qX,fun s h=>absurd h qX⟩
theorem Y5{w:fM}{B:Int}(hB:2147483647<=B)(hc:0<=w.cut/\w.cut<=2147483647)(h:∀s∈w.out,0<=s.n/\s.n<=B):∀s∈bw w,0<=s.n/\s.n<=B:=by
 unfold bw;intro s hs;rcases qn.1 hs with hs|hs
 ·rcases qn.1 hs with hs|hs
  ·exact h s hs
  split at hs
  ·rw[qv] at hs;subst hs;simp only;omega
  cases hs
 split at hs
 ·rw[qv] at hs;subst hs;simp only;omega
 cases hs
theorem Y6{w:fM}{B:Nat}(ha:w.add.length<=B)(h:∀s∈w.out,s.elems.length<=B):∀s∈bw w,s.elems.length<=B:=by
 unfold bw;intro s hs;rcases qn.1 hs with hs|hs
 ·rcases qn.1 hs with hs|hs
  ·exact h s hs
  split at hs
  ·rw[qv] at hs;subst hs;exact ha
  cases hs
 split at hs
 ·rw[qv] at hs;subst hs;simp
 cases hs
theorem x9F{l:List aB}{B B' n:Int}{c:List aI}(h:∀s∈l,0<=s.n/\s.n<=B)(h1:0<=n)(h2:B+n<=B')(h3:0<=B):∀s∈gF l n c,0<=s.n/\s.n<=B':=by
 unfold gF;split
 ·intro s hs;rcases zl hs with hs|rfl
  ·have:=h s hs;omega
  have:=h (l.getD (l.length- 1) default) (oG oM);simp only;omega
 intro s hs;rcases qn.1 hs with hs|hs
 ·have:=h s hs;omega
 rw[qv] at hs;subst hs;simp only;omega
theorem x7w{l:List aB}{B:Nat}{n:Int}{c:List aI}(h:∀s∈l,s.elems.length<=B):∀s∈gF l n c,s.elems.length<=B:=by
 unfold gF;split
 ·intro s hs;rcases zl hs with hs|rfl
  ·exact h s hs
  exact h (l.getD (l.length- 1) default) (oG oM)
 intro s hs;rcases qn.1 hs with hs|hs
 ·exact h s hs
 rw[qv] at hs;subst hs;simp
theorem TB.flush{d:List aB}{i:Nat}{w:fM}(h:TB d i w)(hi:i<=100000000)(he:mC d<=100000000000)(hd:mC (d.take i)<=mC d):
 (∀s∈bw w,0<=s.n/\s.n<=1000000000000000000)/\DN 400000000000 (bw w):=by
 refine⟨Y5 dM h.cut (fun s hs=>by have:=h.n s hs;omega),fun s hs=> ?_⟩;have h1:=Y2 (P:=fun l=>l.length<=100000000000) (R:=fun x=>x.ah.length<=100000000000) sM h.dn h.an s hs;have h2:=Y6 h.add h.el s hs;exact⟨oM,by have:=h1.1;omega,fun x hx=>by have:=h1.2 x hx;omega⟩
theorem TB.next{d:List aB}{i:Nat}{w:fM}(h:TB d i w)(hi:i<d.length)(hd:DN 100000000000 d)(hl:oH (d.getD i default)=0)(hb:¬z58 w (d.getD i default)):TB d (i+1) (ku w (d.getD i default)):=by
 obtain⟨k,n0,n1⟩:=R2 hl;obtain⟨e1,_⟩:=Y4 hi;obtain⟨b1,b2,b3⟩:=hd _ (oG hi);generalize d.getD i default=s at*
 have ha:=x7v (P:=fun l=>l.length<=100000000000) (R:=fun x=>x.ah.length<=100000000000) (w:=w) (s:=s) sM h.dn h.an ⟨b2,b3⟩;have hn:=h.n;have hc:=h.cut;have ho:=h.out;have w28:=h.add;refine⟨?_,?_,?_,?_,ha.1,ha.2,?_⟩
 ·unfold ku;split
  ·split
   ·omega
   have:=x1k (bw w) s.n s.ah;have:=YI w;simp only;omega
  split<;>simp only<;>omega
 ·unfold ku;split
  ·split
   ·omega
   simp
  split
  ·simp only[qf];omega
  simp only;omega
 ·unfold ku;split
  ·split
   ·exact hc
   exact⟨zm 0,(by decide:(0:Int)<=2147483647)⟩
  split
  ·exact hc
  rename_i k0 k1;unfold z58 at hb;simp only;omega
 ·have up:∀t∈w.out,0<=t.n/\t.n<=2147483647*(((i+1:Nat):Int)+1):=fun t ht=>by have:=hn t ht;omega
  unfold ku;split
  ·split
   ·exact up
   exact x9F (Y5 oM hc hn) (B':=2147483647*(((i+1:Nat):Int)+1)) oM oM oM
  split
  ·exact up
  exact up
 have up:∀t∈w.out,t.elems.length<=mC (d.take (i+1)):=fun t ht=>by have:=h.el t ht;omega
 unfold ku;split
 ·split
  ·exact up
  exact x7w (Y6 oM up)
 split
 ·exact up
 exact up
end Go.Ch
namespace Go.Ch
open Go Go.Ab
theorem x4x{d:List aB}{i:Nat}(h:i<d.length)(w:fM):sr w (d.drop i)=if oH (d.getD i default)≠0 then([],oH (d.getD i default)) else if z58 w (d.getD i default) then([],3) else sr (ku w (d.getD i default)) (d.drop (i+1)):=by
 rw[IZ h,sr]
theorem Y7{d:List aB}{i:Nat}(h:d.length<=i)(w:fM):sr w (d.drop i)=if k8 (bw w)=0 then(bw w,0) else([],3):=by
 rw[qN h,sr]
end Go.Ch
end
section
namespace Go.Ch
open Go Go.Ab

def pP:DU->aB
 | .K c=>⟨0,1,c,[]⟩
 | .A e=>⟨1,0,[],[e]⟩
 | .C=>⟨2,1,[],[]⟩
theorem x4y{u:DU}(h:mA u):n9 (pP u):=by
 cases u with
 |K c=>exact .inr ⟨.inl rfl,rfl,fun h=>absurd (show(0:Int)=2 from h) dM,zm 1,(by decide:(1:Int)<=2147483647),h.1⟩
 |A e=>exact .inl ⟨rfl,rfl,rfl,by simp[pP],fun x hx=>by rw[show x=e by simpa[pP] using hx];exact h.1⟩
 |C=>exact .inr ⟨.inr rfl,rfl,fun _=>rfl,zm 1,(by decide:(1:Int)<=2147483647),Ee⟩
theorem w1j(w:fM)(u:DU):ku w (pP u)=tL w u:=by
 cases u<;>simp[ku,pP,tL]
theorem x4z{w:fM}(h:0<=w.cut)(u:DU):0<=(tL w u).cut/\(tL w u).cut<=w.cut+1:=by
 cases u<;>simp only[tL]<;>omega
theorem Y8:∀(us:List DU) (w:fM),(∀u∈us,mA u)->0<=w.cut->w.cut+us.length<=2147483647->sr w (us.map pP)=if k8 (bw (jJ w us))=0 then(bw (jJ w us),0) else([],3)
 | [],w,_,_,_=>by rw[zF,sr,jJ]
 |u::us,w,hu,h0,hl=>by
  simp only[qi] at hl;have hc:=x4z h0 u;rw[qU,sr,if_neg (by rw[R3 (rD.2 (x4y (hu u sM)))];decide),if_neg,w1j,Y8 us _ (fun v hv=>hu v (by simp[hv])) hc.1 oM,jJ];rintro⟨k0,k1,hb⟩;have hn:(pP u).n<=1:=by cases u<;>simp[pP]
  omega
theorem Y9{us:List DU}(hu:∀u∈us,mA u)(hl:us.length<=2147483647):mB (us.map pP)=tM us/\uO (us.map pP)=0:=by
 have h1:bK us<=us.length/\cG us<=us.length:=by
  clear hu hl;induction us with
  |nil=>exact⟨qp _,qp _⟩
  |cons u us ih=>cases u<;>simp only[bK,cG,qi]<;>omega
 have hd:=F4 hu oM oM;have:=Y8 us ⟨[],[],0⟩ hu (zm _) (by simp only;omega);rw[if_pos (show k8 (bw (jJ ⟨[],[],0⟩ us))=0 from wO.2 hd.1)] at this;unfold mB uO;rw[this];exact⟨rfl,rfl⟩
def oI:ByteArray:={data:=#[99,117,116]}
def vD:ByteArray:={data:=#[97,100,100]}
def F7:ByteArray:={data:=#[104,105,100,100,101,110]}
def yj(l:List aI)(n:ByteArray):Bool:=l.any fun a=>seq a.name n
def Za(l:List aI)(n:ByteArray):Bool:=!(seq (iZ l n 0) {data:=#[]})
theorem x7x{l:List aI}{i:Nat}(h:i<l.length)(n:ByteArray):yj (l.drop i) n=(seq (l.getD i default).name n||yj (l.drop (i+1)) n):=by
 have e:l.drop i=l.getD i default::l.drop (i+1):=by
  rw[zh h];simp[List.getD,qa h]
 rw[e];rfl
def En(x:aL)(mode:Int):Bool:=(seq (iZ x.ah F7 0) F6|| ((mode==0)&&Za x.ah oI))|| ((mode==1)&&Za x.ah vD)
def CX(f:List aL)(mode:Int)(i:Nat):Bool:=!(En (f.getD i default) mode)|| (decide ((i:Int)=(f.length:Int)- 1)&&decide ((f.getD i default).aT=10))
def Mj(f:List aL)(mode:Int)(i:Nat):List Nat:=(List.range i).filter (CX f mode)
def sU(f:List aL)(mode:Int)(i:Nat):List Int:=(Mj f mode i).map fun i:Nat=>(i:Int)
theorem Zb(f:List aL)(mode:Int)(i:Nat):sU f mode (i+1)=sU f mode i++(if CX f mode i=true then[(i:Int)] else[]):=by
 unfold sU Mj;rw[ja,zH,zo,List.filter_cons];cases CX f mode i<;>simp
theorem Zc(f:List aL)(mode:Int)(i:Nat):(sU f mode i).length<=i:=by
 unfold sU Mj;rw[qj];have:=zO (CX f mode) (List.range i);rw[List.length_range] at this;exact this
theorem Zd{f:List aL}{mode:Int}{i:Nat}(h:En (f.getD i default) mode=false\/(i:Int)=(f.length:Int)- 1/\(f.getD i default).aT=10):CX f mode i=true:=by
 unfold CX;rcases h with h| ⟨h,k⟩
 ·rw[h];rfl
 rw[decide_eq_true h,decide_eq_true k];simp
theorem Ze{f:List aL}{mode:Int}{i:Nat}(h:En (f.getD i default) mode=true/\(¬(i:Int)=(f.length:Int)- 1\/¬(f.getD i default).aT=10)):CX f mode i=false:=by
 unfold CX;rw[h.1];rcases h.2 with k|k
 ·rw[decide_eq_false k];simp
 rw[decide_eq_false k];simp
def r8:ByteArray:={data:=#[]}
def ou(pl:List Int)(k:Int):Int:=if k=0 then 0 else pl.getD (k- 1).toNat default+1
def yp(pl:List Int)(n:Nat):List Bool:=(List.range n).map fun i:Nat=>pl.any (fun p=>p==(i:Int))
def vE(f:List aL)(pl:List Int)(au:ByteArray)(i:Nat):DU:=
 if pl.any (fun p=>p==(i:Int))=true then(if(seq au r8||seq (iZ (f.getD i default).ah vD 0) au)=true then .C else .K [⟨oI,au⟩]) else .K []
def uP(f:List aL)(pl:List Int)(au:ByteArray)(n:Nat):List DU:=(List.range n).map (vE f pl au)
def wz(f:List aL)(pl:List Int)(au:ByteArray)(n:Nat):List aB:=(uP f pl au n).map pP
def pZ(f:List aL)(pl:List Int)(au:ByteArray):List aB:=mB (wz f pl au f.length)
def Eo(au:ByteArray)(x:aL):aL:={x with ah:=fm eY x.ah [⟨vD,au⟩,⟨oI,r8⟩]}
def yq(n:Nat)(k:Int)(es:List aL)(au:ByteArray):List aB:=[⟨0,k,[],[]⟩,⟨1,0,[],es.map (Eo au)⟩,⟨0,(n:Int)- k,[],[]⟩]
def tD(n:Nat)(k:Int)(es:List aL)(au:ByteArray):List aB:=mB (yq n k es au)
theorem x1B(pl:List Int)(n:Nat):(yp pl n).length=n:=by simp[yp]
theorem x1C(n:Nat):yp [] n=List.replicate n false:=by
 unfold yp;apply List.ext_getElem sM;intro i h1 h2;simp
theorem y9i{pl:List Int}{k n:Nat}(h:k<pl.length)(hp:0<=pl.getD k default/\pl.getD k default< (n:Int)):(yp (pl.take k) n).set (pl.getD k default).toNat true=yp (pl.take (k+1)) n:=by
 have e:pl.getD k default=pl[k]:=by rw[qd,qa h];rfl
 unfold yp;apply List.ext_getElem sM;intro i h1 h2;simp only[List.getElem_set,List.getElem_map,List.getElem_range];rw[qt h,List.any_append,zR,z8,zS,<-e];by_cases q:(pl.getD k default).toNat=i
 ·rw[if_pos q];have:(pl.getD k default==(i:Int))=true:=by rw[beq_iff_eq];omega
  rw[this,Bool.or_true]
 rw[if_neg q];have:(pl.getD k default==(i:Int))=false:=by rw[beq_eq_false_iff_ne];omega
 rw[this,zS]
theorem R4(f:List aL)(pl:List Int)(au:ByteArray)(i:Nat):wz f pl au (i+1)=wz f pl au i++[pP (vE f pl au i)]:=by
 unfold wz uP;rw[ja,zo,zo];rfl
theorem Zf(f:List aL)(pl:List Int)(au:ByteArray)(i:Nat):(wz f pl au i).length=i:=by simp[wz,uP]
theorem x4A{pl:List Int}{n i:Nat}(h:i<n):(yp pl n).getD i default=pl.any (fun p=>p==(i:Int)):=by
 unfold yp;rw[qd,zj,List.getElem?_range h];rfl
theorem x7A(f:List aL)(pl:List Int)(au:ByteArray)(n:Nat):DN 100000000000 (wz f pl au n)/\mC (wz f pl au n)=0:=by
 have hx:∀s∈wz f pl au n,s.elems=[]/\s.ah.length<=1:=by
  intro s hs;unfold wz uP at hs;obtain⟨u,hu,rfl⟩:=qO.1 hs;obtain⟨i,hi,rfl⟩:=qO.1 hu;unfold vE;split
  ·split
   ·exact⟨rfl,dM⟩
   exact⟨rfl,qp 1⟩
  exact⟨rfl,dM⟩
 refine⟨fun s hs=> ?_,?_⟩
 ·obtain⟨h1,h2⟩:=hx s hs;refine⟨by rw[h1];simp,oM,?_⟩;rw[h1];intro x hx;cases hx
 generalize wz f pl au n=l at hx;induction l with
 |nil=>rfl
 |cons s l ih=>
  rw[mC,(hx s zQ).1,ih (fun t ht=>hx t (qR _ ht))];rfl
theorem w1k{f:List aL}{pl:List Int}{au:ByteArray}{i:Nat}(h:pl.any (fun p=>p==(i:Int))=false):pP (vE f pl au i)={af:=0,n:=1,ah:=[],elems:=[]}:=by
 unfold vE;rw[if_neg (by rw[h];decide)];rfl
theorem w1l{f:List aL}{pl:List Int}{au:ByteArray}{i:Nat}(h:pl.any (fun p=>p==(i:Int))=true)(h2:seq au {data:=#[]}=true\/seq (iZ (f.getD i default).ah {data:=#[97,100,100]} 0) au=true):pP (vE f pl au i)={af:=2,n:=1,ah:=[],elems:=[]}:=by
 unfold vE;rw[if_pos h,if_pos (by rw[qM];exact h2)];rfl
theorem w1m{f:List aL}{pl:List Int}{au:ByteArray}{i:Nat}(h:pl.any (fun p=>p==(i:Int))=true)(h2:seq au {data:=#[]}=false/\seq (iZ (f.getD i default).ah {data:=#[97,100,100]} 0) au=false):pP (vE f pl au i)={af:=0,n:=1,ah:=[{name:={data:=#[99,117,116]},val:=au}],elems:=[]}:=by
 unfold vE;rw[if_pos h,if_neg]
 ·rfl
 rw[qM];rintro(q|q)
 ·rw[show seq au r8=seq au {data:=#[]} from rfl,h2.1] at q;cases q
 rw[show vD=({data:=#[97,100,100]}:ByteArray) from rfl,h2.2] at q;cases q
theorem Zg{α:Type}[Inhabited α]{g:α->α}{l:List α}{i:Nat}(h:i<l.length):((l.take i).map g++l.drop i).getD i default=l.getD i default:=by
 rw[qd,qK (by simp;omega)];simp only[qj,qz,Nat.min_eq_left (Nat.le_of_lt h),Nat.sub_self];rw[qQ,qd];rfl
theorem Zh{α:Type}[Inhabited α]{g:α->α}{l:List α}{i:Nat}(h:i<l.length):((l.take i).map g++l.drop i).set i (g (l.getD i default))=(l.take (i+1)).map g++l.drop (i+1):=by
 have e:l.getD i default=l[i]:=by rw[qd,qa h];rfl
 rw[qt h,zo,qI,List.set_append_right _ _ (by simp;omega)];congr 1;simp only[qj,qz,Nat.min_eq_left (Nat.le_of_lt h),Nat.sub_self];rw[Fj h,List.set_cons_zero,e];rfl
theorem x7B(n:Nat)(k:Int)(es:List aL)(au:ByteArray)(he:es.length<=1048576)(ha:∀x∈es,x.ah.length<=1048576):DN 100000000000 (yq n k es au)/\mC (yq n k es au)<=1048576:=by
 refine⟨fun s hs=> ?_,by simp[yq,mC];omega⟩;unfold yq at hs;simp only[qg,qX,or_false] at hs;rcases hs with rfl|rfl|rfl
 ·exact⟨sM,sM,fun x hx=>by cases hx⟩
 ·refine⟨by simp;omega,sM,fun x hx=> ?_⟩;obtain⟨y,hy,rfl⟩:=qO.1 hx;have h1:=ha y hy;have h2:=uN eY y.ah [⟨vD,au⟩,⟨oI,r8⟩];show(fm eY y.ah [⟨vD,au⟩,⟨oI,r8⟩]).length<=_;simp at h2;omega
 exact⟨sM,sM,fun x hx=>by cases hx⟩
theorem x9G{n:Nat}{k:Int}{es o:List aL}{au:ByteArray}(ho:o=es.map (Eo au))(dn:DN 100000000000 (yq n k es au))(el:mC (yq n k es au)<=1048576):
 DN 100000000000 [{af:=0,n:=k,ah:=[],elems:=[]},{af:=1,n:=0,ah:=[],elems:=o},{af:=0,n:=(n:Int)- k,ah:=[],elems:=[]}]/\[({af:=0,n:=k,ah:=[],elems:=[]}:aB),{af:=1,n:=0,ah:=[],elems:=o},{af:=0,n:=(n:Int)- k,ah:=[],elems:=[]}].length<=100000000/\
 mC [{af:=0,n:=k,ah:=[],elems:=[]},{af:=1,n:=0,ah:=[],elems:=o},{af:=0,n:=(n:Int)- k,ah:=[],elems:=[]}]<=10000000000:=by
 subst ho;exact⟨dn,sM,qC el dM⟩
structure Pl where
 ai:Node
 aN:List Int
 aR:ByteArray
instance:Inhabited Pl:=⟨⟨default,[],{data:=#[]}⟩⟩
def Ep(p:Pl):Tree:= .agg [TI p.ai.id,TI p.ai.af,.bX 2 (p.ai.ah.map aS),.bX 3 (p.ai.aD.map aU),TI p.ai.az.ak,TI p.ai.az.aj,.bX 5 (p.ai.az.cells.map bg),.bX 4 (p.ai.az.aH.map bE),.bX 8 (p.ai.draw.map cm),.bX 1 (p.aN.map bC),TS p.aR]
structure bM where
 nd:Int
 fr:Int
 tq:Int
instance:Inhabited bM:=⟨⟨0,0,0⟩⟩
def jR(s:bM):Tree:= .agg [TI s.nd,TI s.fr,TI s.tq]
def mS(l:List Node)(k:Int):Node:=l.getD (bt l k) default
def Am(n:Node):List Int:=sU n.aD 0 n.aD.length
def dP(d:Doc)(s:bM)(au:ByteArray):Int:=
 if ez d≠0 then ez d
 else if eM d.aq s.nd=false then 7
 else if eX (mS d.aq s.nd).af=false then 8
 else if s.fr<0\/s.tq<s.fr\/((Am (mS d.aq s.nd)).length:Int)<=s.tq then 2
 else if seq au {data:=#[]}=false/\j4 au=false then 23 else 0
def Er:Pl:=⟨⟨0,0,[],[],⟨0,0,[],[]⟩,[]⟩,[],{data:=#[]}⟩
def bL(d:Doc)(s:bM)(au:ByteArray):Pl:=if dP d s au≠0 then Er else⟨mS d.aq s.nd,Am (mS d.aq s.nd),au⟩
theorem Jk{d:Doc}{s:bM}{au:ByteArray}{k:Int}(h:dP d s au=k)(hk:k≠0):bL d s au=Er/\dP d s au=k:=by
 unfold bL;rw[h,if_pos hk];exact⟨rfl,rfl⟩
theorem w2O{d:Doc}{s:bM}{au:ByteArray}(h:ez d≠0):bL d s au=Er/\dP d s au=ez d:=Jk (by unfold dP;rw[if_pos h]) h
theorem w2P{d:Doc}{s:bM}{au:ByteArray}(h:ez d=0)(h2:eM d.aq s.nd=false):bL d s au=Er/\dP d s au=7:=Jk (by unfold dP;rw[if_neg (fun q=>q h),if_pos h2]) dM
theorem w2Q{d:Doc}{s:bM}{au:ByteArray}(h:ez d=0)(h2:eM d.aq s.nd=true)(h3:eX (d.aq.getD (bt d.aq s.nd) default).af=false):bL d s au=Er/\dP d s au=8:=
 Jk (by unfold dP;rw[if_neg (fun q=>q h),if_neg (by rw[h2];decide),if_pos (show eX (mS d.aq s.nd).af=false from h3)]) dM
theorem w2R{d:Doc}{s:bM}{au:ByteArray}(h:ez d=0)(h2:eM d.aq s.nd=true)(h3:eX (d.aq.getD (bt d.aq s.nd) default).af=true)
 (h4:(s.fr<0\/s.tq<s.fr)\/((sU (d.aq.getD (bt d.aq s.nd) default).aD 0 (d.aq.getD (bt d.aq s.nd) default).aD.length).length:Int)<=s.tq):bL d s au=Er/\dP d s au=2:=
 Jk (by unfold dP;rw[if_neg (fun q=>q h),if_neg (by rw[h2];decide),if_neg (by unfold mS;rw[h3];decide),if_pos (by unfold Am mS;omega)]) dM
theorem w2S{d:Doc}{s:bM}{au:ByteArray}(h:ez d=0)(h2:eM d.aq s.nd=true)(h3:eX (d.aq.getD (bt d.aq s.nd) default).af=true)
 (h4:(0<=s.fr/\s.fr<=s.tq)/\s.tq< ((sU (d.aq.getD (bt d.aq s.nd) default).aD 0 (d.aq.getD (bt d.aq s.nd) default).aD.length).length:Int)) (h5:seq au {data:=#[]}=false/\j4 au=false):bL d s au=Er/\dP d s au=23:=
 Jk (by unfold dP;rw[if_neg (fun q=>q h),if_neg (by rw[h2];decide),if_neg (by unfold mS;rw[h3];decide),if_neg (by unfold Am mS;omega),if_pos h5]) dM
theorem w2T{d:Doc}{s:bM}{au:ByteArray}(h:ez d=0)(h2:eM d.aq s.nd=true)(h3:eX (d.aq.getD (bt d.aq s.nd) default).af=true)
 (h4:(0<=s.fr/\s.fr<=s.tq)/\s.tq< ((sU (d.aq.getD (bt d.aq s.nd) default).aD 0 (d.aq.getD (bt d.aq s.nd) default).aD.length).length:Int)) (h5:seq au {data:=#[]}=true\/j4 au=true):bL d s au=⟨mS d.aq s.nd,Am (mS d.aq s.nd),au⟩/\dP d s au=0:=by
 have e:dP d s au=0:=by
  unfold dP;rw[if_neg (fun q=>q h),if_neg (by rw[h2];decide),if_neg (by unfold mS;rw[h3];decide),if_neg (by unfold Am mS;omega),if_neg];rintro⟨a,b⟩;rcases h5 with q|q
  ·rw[a] at q;cases q
  rw[b] at q;cases q
 unfold bL;rw[e,if_neg (fun q=>q rfl)];exact⟨rfl,rfl⟩
def bG(p:Pl)(k:Int):aL:=if k<0\/(p.aN.length:Int)<=k then⟨10,0,[]⟩ else p.ai.aD.getD (p.aN.getD k.toNat default).toNat default
structure mq(p:Pl):Prop where
 len:p.ai.aD.length<=1048576
 ok:∀x∈p.aN,0<=x/\x< (p.ai.aD.length:Int)
 sl:p.aN.length<=1048576
 uA:∀x∈p.ai.aD,x.ah.length<=1048576
theorem R5{p:Pl}(h:mq p)(k:Int):(bG p k).ah.length<=1048576:=by
 unfold bG;split
 ·simp
 rename_i q;have hx:=h.ok _ (fE (l:=p.aN) (i:=k.toNat) oM);exact h.uA _ (fE oM)
def w2U:List ByteArray:=[{data:=#[98,111,108,100]},{data:=#[105,116,97,108,105,99]},{data:=#[117,110,100,101,114]},{data:=#[115,116,114,105,107,101]},{data:=#[102,105,120,101,100]},{data:=#[114,97,105,115,101]},{data:=#[115,105,122,101]},{data:=#[99,111,108,111,117,114]},{data:=#[108,97,110,103]},{data:=#[115,116,121,108,101]}]
def BD(n:ByteArray):Bool:=w2U.any fun y=>seq n y
def mT(n:ByteArray):Bool:=
 (((seq n {data:=#[108,105,110,107]}||seq n {data:=#[108,111,99,107]})|| (decide ((n.size:Int)> 7)&&seq (n.extract 0 7) {data:=#[114,101,109,97,114,107,46]}))|| (decide ((n.size:Int)> 5)&&seq (n.extract 0 5) {data:=#[109,97,114,107,46]}))
def Mk(p:Pl)(k:Int):aL:=if(bG p (k- 1)).aT=10 then bG p k else bG p (k- 1)
def Es(r:aL)(k:Int)(a:aI):Bool:=(mT a.name&&decide (k>0))&&seq (iZ r.ah a.name 0) a.val
def yu(r:aL)(k:Int)(o:List aI)(l:List aI):List aI:=l.foldl (fun o a=>if Es r k a=true then fm eY o [a] else o) o
def CY(p:Pl)(k:Int):List aI:=if(Mk p k).aT≠10 then(Mk p k).ah.filter (fun a=>BD a.name) else[]
def lH(p:Pl)(k:Int):List aI:=yu (bG p k) k (CY p k) (bG p (k- 1)).ah
theorem Ml(p:Pl)(k:Int):CY p k=if(bG p (k- 1)).aT=10 then(if(bG p k).aT≠10 then(bG p k).ah.filter (fun a=>BD a.name) else[]) else(if(bG p (k- 1)).aT≠10 then(bG p (k- 1)).ah.filter (fun a=>BD a.name) else[]):=by
 unfold CY Mk;by_cases h:(bG p (k- 1)).aT=10
 ·rw[if_pos h,if_pos h]
 rw[if_neg h,if_neg h]
theorem F8{α:Type}[Inhabited α]{f:α->Bool}{l:List α}{i:Nat}(h:i<l.length)(h1:f (l.getD i default)=true):List.filter f [l[i]]=[l.getD i default]:=by
 have e:l.getD i default=l[i]:=by rw[qd,qa h];rfl
 rw[e] at h1|-;simp[h1]
theorem F9{α:Type}[Inhabited α]{f:α->Bool}{l:List α}{i:Nat}(h:i<l.length)(h1:f (l.getD i default)=false):List.filter f [l[i]]=[]:=by
 have e:l.getD i default=l[i]:=by rw[qd,qa h];rfl
 rw[e] at h1;simp[h1]
theorem tP{r:aL}{k:Int}{o l:List aI}{j:Nat}(h:j<l.length):yu r k o (l.take (j+1))=if Es r k (l.getD j default)=true then fm eY (yu r k o (l.take j)) [l.getD j default] else yu r k o (l.take j):=by
 have e:l.getD j default=l[j]:=by rw[qd,qa h];rfl
 unfold yu;rw[qt h,List.foldl_append,e];rfl
theorem CZ{r:aL}{k:Int}{a:aI}(h:(mT a.name=true/\0<k)/\seq (iZ r.ah a.name 0) a.val=true):Es r k a=true:=by
 unfold Es;rw[h.1.1,h.2,decide_eq_true (show k>0 from h.1.2)];rfl
theorem C0{r:aL}{k:Int}{a:aI}(h:(mT a.name=false\/k<=0)\/seq (iZ r.ah a.name 0) a.val=false):¬Es r k a=true:=by
 unfold Es;rw[qq,qq,decide_eq_true_eq];rintro⟨⟨a,b⟩,c⟩;rcases h with(h|h)|h
 ·rw[a] at h;cases h
 ·omega
 rw[c] at h;cases h
theorem x1F{p:Pl}{k:Int}(h:(p.aN.length:Int)<=k):(bG p k).aT=10:=by unfold bG;rw[if_pos (.inr h)]
def sV(p:Pl)(k:Nat):Nat:=if h:k<p.aN.length/\(bG p k).aT≠10 then sV p (k+1) else k
termination_by p.aN.length-k
theorem Zi{p:Pl}{k:Nat}(h:(bG p k).aT≠10):k<p.aN.length/\sV p k=sV p (k+1):=by
 have hl:k<p.aN.length:=qc fun q=>h (x1F oM)
 refine⟨hl,?_⟩
 conv=>lhs;rw[sV]
 rw[dif_pos ⟨hl,h⟩]
theorem Zj{p:Pl}{k:Nat}(h:(bG p k).aT=10):sV p k=k:=by rw[sV,dif_neg (fun q=>q.2 h)]
def R6:List ByteArray:=[{data:=#[97,100,100]},{data:=#[99,117,116]},{data:=#[104,105,100,100,101,110]},{data:=#[108,111,99,107]},{data:=#[115,101,99,116,105,111,110]},{data:=#[98,114,101,97,107]},{data:=#[115,116,97,114,116]}]
def Ga(a:aI):Bool:=!(R6.any fun y=>seq a.name y)&& !(mT a.name)
def BE(p:Pl)(k:Nat):List aI:=(bG p (sV p k)).ah.filter Ga
def gG(n:Int)(s:List aB):aP:=⟨2,n,⟨0,0,[],[],⟨0,0,[],[]⟩,[]⟩,[],s,⟨[],[],[],[],[]⟩,[]⟩
def xg(p:Pl)(s:bM):List aB:=pZ p.ai.aD ((p.aN.take s.tq.toNat).drop s.fr.toNat) p.aR
def An(p:Pl)(s:bM)(es:List aL):List aB:=tD p.ai.aD.length (ou p.aN s.fr) es p.aR
def rZ(p:Pl)(s:bM)(es:List aL):List aB:=sQ (xg p s) (jD (An p s es) (xg p s))
def Ao(s:bM)(es:List aL):bM:=⟨s.nd,s.fr+es.length,s.fr+es.length⟩
structure yw(p:Pl)(s:bM)(es:List aL):Prop where
 s1:0<=s.fr/\s.fr<=s.tq/\s.tq< (p.aN.length:Int)
 e1:es.length<=1048576
 e2:∀x∈es,x.ah.length<=1048576
 v1:j9 (xg p s)
 v2:j9 (An p s es)
 v3:j9 (jD (An p s es) (xg p s))
 d1:DN 100000000000 (xg p s)
 d2:DN 100000000000 (An p s es)
 d3:DN 100000000000 (jD (An p s es) (xg p s))
 m1:eu (An p s es)=eu (xg p s)
 m2:eU (xg p s)=eu (jD (An p s es) (xg p s))
 m3:eU (An p s es)+eU (xg p s)<=2147483647
theorem KH{p:Pl}{s:bM}(h:mq p)(h2:0<=s.fr/\s.fr<=s.tq/\s.tq< (p.aN.length:Int)):0<=ou p.aN s.fr/\ou p.aN s.fr<=(p.ai.aD.length:Int):=by
 unfold ou;split
 ·omega
 have:=h.ok _ (fE (l:=p.aN) (i:=(s.fr- 1).toNat) oM);omega
def uQ(l:List aI)(c:Int):aL:=⟨c,0,l⟩
def Et(p:Pl)(s:bM)(x:aL):aL:=if x.aT=10 then {x with ah:=BE p s.tq.toNat} else x
def v7(p:Pl)(s:bM)(cs:List Int):List aL:=(cs.map (uQ (lH p s.fr))).map (Et p s)
def nT(d:Doc)(s:bM)(cs:List Int)(au:ByteArray):List aP:=if dP d s au≠0 then[] else[gG s.nd (rZ (bL d s au) s (v7 (bL d s au) s cs))]
def yx(d:Doc)(s:bM)(cs:List Int)(au:ByteArray):bM:=if dP d s au≠0 then⟨0,0,0⟩ else Ao s (v7 (bL d s au) s cs)
structure BF(d:Doc)(s:bM)(cs:List Int)(au:ByteArray):Prop where
 p:mq (bL d s au)
 c:dO false (lH (bL d s au) s.fr) 0=0
 l:(lH (bL d s au) s.fr).length<=10000000
 r:0<=s.fr/\s.fr<=s.tq/\s.tq< ((bL d s au).aN.length:Int)
 s:yw (bL d s au) s (v7 (bL d s au) s cs)
theorem x9I{d:Doc}{s:bM}{cs:List Int}{au:ByteArray}(h:dP d s au≠0):nT d s cs au=[]/\yx d s cs au=⟨0,0,0⟩:=by
 unfold nT yx;rw[if_pos h,if_pos h];exact⟨rfl,rfl⟩
theorem x9J{d:Doc}{s:bM}{cs:List Int}{au:ByteArray}(h:dP d s au=0):nT d s cs au=[gG s.nd (rZ (bL d s au) s (v7 (bL d s au) s cs))]/\yx d s cs au=Ao s (v7 (bL d s au) s cs):=by
 unfold nT yx;rw[if_neg (fun q=>q h),if_neg (fun q=>q h)];exact⟨rfl,rfl⟩
theorem x9K{p:Pl}{s:bM}{x:aL}(h:x.aT=10):Et p s x={aT:=x.aT,bh:=x.bh,ah:=BE p s.tq.toNat}:=by unfold Et;rw[if_pos h]
theorem x9L{p:Pl}{s:bM}{x:aL}(h:x.aT≠10):Et p s x=x:=by unfold Et;rw[if_neg h]
theorem x1I{α:Type}[Inhabited α]{g:α->α}{l:List α}{i:Nat}(h:i<l.length)(h2:g (l.getD i default)=l.getD i default):(l.take i).map g++l.drop i=(l.take (i+1)).map g++l.drop (i+1):=by
 have e:l.getD i default=l[i]:=by rw[qd,qa h];rfl
 rw[qt h,zo,qI,Fj h];rw[e] at h2|-;simp[h2]
theorem Zk{a:aI}(h:R6.any (fun y=>seq a.name y)=false/\mT a.name=false):Ga a=true:=by unfold Ga;rw[h.1,h.2];rfl
theorem Zl{a:aI}(h:R6.any (fun y=>seq a.name y)=true\/mT a.name=true):Ga a=false:=by
 unfold Ga;rcases h with h|h<;>rw[h]
 ·rfl
 simp
theorem x4D{p:Pl}{k:Int}(h0:0<=k)(h:(bG p k).aT≠10):k< (p.aN.length:Int)/\sV p k.toNat=sV p (k+1).toNat:=by
 have e:((k.toNat:Nat):Int)=k:=zL h0;have:=Zi (p:=p) (k:=k.toNat) (by rw[e];exact h);exact⟨oM,by rw[this.2];congr 1;omega⟩
theorem x4E{p:Pl}{k:Int}(h0:0<=k)(h:(bG p k).aT=10):sV p k.toNat=k.toNat:=Zj (by rw[zL h0];exact h)
def wA(p:Pl)(s:bM)(k:Int):Bool:=(decide (k>=s.fr)&&decide (k<s.tq))&&((bG p k).aT !=10)
def wB(p:Pl)(s:bM)(m:Int)(k:Int):Bool:=(decide (k>=s.fr)&&decide (k<=m))&&((bG p k).aT==10)
def oz(w:Int->Bool)(sh:List Int)(n m:Nat):List Bool:=(List.range m).foldl (fun b k=>b.set (Int.toNat (sh.getD k default)) (w (k:Int))) (List.replicate n false)
theorem R7(w:Int->Bool)(sh:List Int)(n m:Nat):oz w sh n (m+1)=(oz w sh n m).set (Int.toNat (sh.getD m default)) (w (m:Int)):=by
 unfold oz;rw[ja,List.foldl_append];rfl
theorem R8(w:Int->Bool)(sh:List Int)(n:Nat):∀m,(oz w sh n m).length=n
 |0=>by simp[oz]
 |m+1=>by rw[R7,zt,R8 w sh n m]
def p8(c:List aI)(f:List Bool)(i:Nat):DU:=if f.getD i default=true then .K c else .K []
def uR(c:List aI)(f:List Bool)(n:Nat):List aB:=((List.range n).map (p8 c f)).map pP
def uS(c:List aI)(f:List Bool)(n:Nat):List aB:=mB (uR c f n)
theorem Mm(c:List aI)(f:List Bool)(i:Nat):uR c f (i+1)=uR c f i++[pP (p8 c f i)]:=by
 unfold uR;rw[ja,zo,zo];rfl
theorem Zm(c:List aI)(f:List Bool)(i:Nat):(uR c f i).length=i:=by simp[uR]
theorem Zn{c:List aI}{f:List Bool}{i:Nat}(h:f.getD i default=true):pP (p8 c f i)={af:=0,n:=1,ah:=c,elems:=[]}:=by unfold p8;rw[if_pos h];rfl
theorem Zo{c:List aI}{f:List Bool}{i:Nat}(h:f.getD i default=false):pP (p8 c f i)={af:=0,n:=1,ah:=[],elems:=[]}:=by unfold p8;rw[if_neg (by rw[h];decide)];rfl
theorem Zp(c:List aI)(f:List Bool)(n:Nat)(hc:c.length<=1048576):DN 100000000000 (uR c f n)/\mC (uR c f n)=0:=by
 have hx:∀s∈uR c f n,s.elems=[]/\s.ah.length<=1048576:=by
  intro s hs;unfold uR at hs;obtain⟨u,hu,rfl⟩:=qO.1 hs;obtain⟨i,hi,rfl⟩:=qO.1 hu;unfold p8;split
  ·exact⟨rfl,hc⟩
  exact⟨rfl,by simp[pP]⟩
 refine⟨fun s hs=> ?_,?_⟩
 ·obtain⟨h1,h2⟩:=hx s hs;refine⟨by rw[h1];simp,oM,?_⟩;rw[h1];intro x hx;cases hx
 generalize uR c f n=l at hx;induction l with
 |nil=>rfl
 |cons s l ih=>
  rw[mC,(hx s zQ).1,ih (fun t ht=>hx t (qR _ ht))];rfl
def nj(d:Doc)(s:bM)(c:List aI):Int:=if dP d s {data:=#[]}≠0 then dP d s {data:=#[]} else dO true c 0
def yX(p:Pl)(c:List aI)(w:Int->Bool):List aP:=[gG p.ai.id (uS c (oz w p.aN p.ai.aD.length p.aN.length) p.ai.aD.length)]
def xh(d:Doc)(s:bM)(c:List aI):List aP:=if nj d s c≠0 then[] else yX (bL d s {data:=#[]}) c (wA (bL d s {data:=#[]}) s)
def xk(d:Doc)(s:bM)(c:List aI):List aP:=
 if nj d s c≠0 then[] else yX (bL d s {data:=#[]}) c (wB (bL d s {data:=#[]}) s ((sV (bL d s {data:=#[]}) (max s.fr (s.tq- 1)).toNat:Nat):Int))
theorem KI{d:Doc}{s:bM}{c:List aI}(h:dP d s {data:=#[]}≠0):nj d s c=dP d s {data:=#[]}:=by unfold nj;rw[if_pos h]
theorem Fl{d:Doc}{s:bM}{c:List aI}(h:dP d s {data:=#[]}=0):nj d s c=dO true c 0:=by unfold nj;rw[if_neg (fun q=>q h)]
theorem w1o{d:Doc}{s:bM}{c:List aI}(h:dP d s {data:=#[]}≠0):xh d s c=[]/\nj d s c=dP d s {data:=#[]}:=by
 have e:=KI (c:=c) h;unfold xh;rw[e,if_pos h];exact⟨rfl,rfl⟩
theorem w1p{d:Doc}{s:bM}{c:List aI}(h:dP d s {data:=#[]}=0)(h2:dO true c 0≠0):xh d s c=[]/\nj d s c=dO true c 0:=by
 have e:=Fl (c:=c) h;unfold xh;rw[e,if_pos h2];exact⟨rfl,rfl⟩
theorem w1q{d:Doc}{s:bM}{c:List aI}(h:dP d s {data:=#[]}=0)(h2:dO true c 0=0):xh d s c=yX (bL d s {data:=#[]}) c (wA (bL d s {data:=#[]}) s)/\nj d s c=0:=by
 have e:=(Fl (c:=c) h).trans h2;unfold xh;rw[e,if_neg (fun q=>q rfl)];exact⟨rfl,rfl⟩
theorem w1r{d:Doc}{s:bM}{c:List aI}(h:dP d s {data:=#[]}≠0):xk d s c=[]/\nj d s c=dP d s {data:=#[]}:=by
 have e:=KI (c:=c) h;unfold xk;rw[e,if_pos h];exact⟨rfl,rfl⟩
theorem w1s{d:Doc}{s:bM}{c:List aI}(h:dP d s {data:=#[]}=0)(h2:dO true c 0≠0):xk d s c=[]/\nj d s c=dO true c 0:=by
 have e:=Fl (c:=c) h;unfold xk;rw[e,if_pos h2];exact⟨rfl,rfl⟩
theorem w1t{d:Doc}{s:bM}{c:List aI}{m:Int}(h:dP d s {data:=#[]}=0)(h2:dO true c 0=0)(hm:((sV (bL d s {data:=#[]}) (max s.fr (s.tq- 1)).toNat:Nat):Int)=m):xk d s c=yX (bL d s {data:=#[]}) c (wB (bL d s {data:=#[]}) s m)/\nj d s c=0:=by
 have e:=(Fl (c:=c) h).trans h2;unfold xk;rw[e,if_neg (fun q=>q rfl),hm];exact⟨rfl,rfl⟩
end Go.Ch
end
