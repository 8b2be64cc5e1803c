/- Parts of the proof: ChDoc7, ChDoc8, DocCopy, ChDoc9, EdSame, EdCopy, ChDelta11, EdCheck, EdCheck2, ChDelta13, EdTrack, EdSel, EdSel2, EdSel3, EdType, EdObj, EdGrd, EdFmt, EdFmt2, EdCmd, EdOf, EdCmd2, EdOne, EdOne2, EdOne3, EdOne4, EdApp, EdFirst, EdProbe, EdGrown, EdStart, EdUtf, TryzShelf2, SelTab, EdOfG, EdTexts, EdMrg, SortKit, IntSort, EdMrg2, EdLaw46, Frame. -/
import Derived.Test.YtnlggoddkiiblaaGreatDoorM1
import Derived.Test.YtnlggoddkiiblaaGreatDoorM2
import Derived.Test.YtnlggoddkiiblaaGreatDoorM3
import Derived.Test.YtnlggoddkiiblaaGreatDoorM4
import Derived.Test.YtnlggoddkiiblaaGreatDoorM5
import Derived.Test.YtnlggoddkiiblaaGreatDoorM6
import Derived.Test.YtnlggoddkiiblaaGreatDoorM7
import Derived.Test.YtnlggoddkiiblaaGreatDoorM8
import Derived.Shelf.Sort.Plain
import Derived.Shelf.Unicode.DecodeAny
import Derived.Ground.Names2Prog
import Derived.Shelf.Slices.CompactI
import Derived.Shelf.Slices.In.SortNone
import Derived.Test.YtnlggoddkiiblaaGreatDoorProg
import Derived.Shelf.SlSortCmp.WholeK
import Derived.Test.YtnlggoddkiiblaaGreatDoorRows
import Derived.JoinedOf
import Derived.ProofKit
set_option linter.unusedVariables false
set_option linter.unusedSimpArgs false
section
set_option maxRecDepth 100000
set_option maxHeartbeats 4000000
open Go Go.Proofs Go.Ab
namespace Go.Ch
theorem y9r(l:List Int)(x:Int):FC Tryz.prog 231 [VL 1 intT l,VI x] (app emp []) (VI (idxF (fun y=>x==y) l 0)) (app emp []):=by
 refine .go Tryz.f231 ?_
 refine .len 0 (fun hl0=> ?_)
 refine .loop (α:=Nat) [.r [],.r [(1,X (Xl intT l))]] 32 (fun i=>([(0,VL 1 intT l),(1,VI x),(7,VI (l.length:Int)),(8,VI (i:Int))],[])) (fun i=>i<=l.length/\idxF (fun y=>x==y) l 0=idxF (fun y=>x==y) l i) (fun i=>l.length-i) (0:Nat) ?_ ?_
 ·
  exact⟨by omega,rfl⟩
 rintro i I2 ih2
 try dsimp only at I2
 refine .bp [.r []] (decide ((i:Int)< (l.length:Int))) (fun h2=> ?_) (fun h2=> ?_)
 ·
  refine .bp [.r [],.r [(3,X (Xi intT l (i:Int)))]] (x==(l.getD i default)) (fun h4=> ?_) (fun h4=> ?_)
  ·
   have e1:((idxF (fun y=>x==y) l 0):Int)=(i:Int):=by
    rw[I2.2,idxF,if_pos (by omega),if_pos (by simpa using h4)]
   exact .finE [.r []] [] (fun z0:Int=>(VI z0,[])) _ _ e1
  ·
   refine .back [.r [(0,X (Xn ((i:Int)+1)))]] [] (ih2 ((i+1):Nat) ?_ ?_)
   ·
    exact⟨by omega,by rw[I2.2,idxF,if_pos (by omega),if_neg (by simpa using h4)]⟩
   ·
    ((try dsimp only);omega)
 ·
  have e2:((idxF (fun y=>x==y) l 0):Int)= -1:=by
   rw[I2.2,idxF,if_neg (by omega)]
  exact .finE [.r []] [] (fun z0:Int=>(VI z0,[])) _ _ e2
theorem z2l(l:List Int)(x:Int):FC Tryz.prog 191 [VL 1 intT l,VI x] (app emp []) (VB (l.any (fun y=>x==y))) (app emp []):=by
 refine .go Tryz.f191 ?_
 refine .len 0 (fun hl0=> ?_)
 have e1:((l.any (fun y=>x==y)):Bool)=decide ((idxF (fun y=>x==y) l 0)>=0):=by
  rw[zj];simp only[decide_eq_true_eq,ge_iff_le];rw[y16]
 exact .finE [.r [],.r [(2,X (Xc0 (y9r l x) X0))]] [] (fun z0:Bool=>(VB z0,[])) _ _ e1
theorem y7k(p k:Int):FC Tryz.prog 129 [VI p,VI k] (app emp []) (VB (permB p k)) (app emp []):=by
 refine .go Tryz.f129 ?_
 refine .bp [.r [],.r [],.r [],.r []] (p==0) (fun h3=> ?_) (fun h3=> ?_)
 ·
  have e1:((permB p k):Bool)=(([1,6,7,10,11,12]).any (fun y=>k==y)):=by
   rw[zj];unfold permB hasT;simp only[zL,zX,zD,qS,beq_iff_eq,qU,false_iff,iff_false];(repeat' split)<;>(try simp only[qS,beq_iff_eq,qU,false_iff])<;>first|omega| (simp;done)
  exact .finE [.r [],.r [(2,X (Xc0 (z2l [1,6,7,10,11,12] k) (rowC intT [1,6,7,10,11,12] X0)))]] [] (fun z0:Bool=>(VB z0,[])) _ _ e1
 ·
  refine .bp [.r []] (p==1) (fun h5=> ?_) (fun h5=> ?_)
  ·
   have e2:((permB p k):Bool)=(([2,4,5,10]).any (fun y=>k==y)):=by
    rw[zj];unfold permB hasT;simp only[zL,zX,zD,qS,beq_iff_eq,qU,false_iff,iff_false];(repeat' split)<;>(try simp only[qS,beq_iff_eq,qU,false_iff])<;>first|omega| (simp;done)
   exact .finE [.r [],.r [(2,X (Xc0 (z2l [2,4,5,10] k) (rowC intT [2,4,5,10] X0)))]] [] (fun z0:Bool=>(VB z0,[])) _ _ e2
  ·
   refine .bp [.r []] (p==3) (fun h7=> ?_) (fun h7=> ?_)
   ·
    have e3:((permB p k):Bool)=(([4,5,10]).any (fun y=>k==y)):=by
     rw[zj];unfold permB hasT;simp only[zL,zX,zD,qS,beq_iff_eq,qU,false_iff,iff_false];(repeat' split)<;>(try simp only[qS,beq_iff_eq,qU,false_iff])<;>first|omega| (simp;done)
    exact .finE [.r [],.r [(2,X (Xc0 (z2l [4,5,10] k) (rowC intT [4,5,10] X0)))]] [] (fun z0:Bool=>(VB z0,[])) _ _ e3
   ·
    refine .bp [.r []] (p==4) (fun h9=> ?_) (fun h9=> ?_)
    ·
     refine .bp [] (p==4) (fun h9=> ?_) (fun h9=> ?_)
     ·
      have e4:((permB p k):Bool)=(([5]).any (fun y=>k==y)):=by
       rw[zj];unfold permB hasT;simp only[zL,zX,zD,qS,beq_iff_eq,qU,false_iff,iff_false];(repeat' split)<;>(try simp only[qS,beq_iff_eq,qU,false_iff])<;>first|omega| (simp;done)
      exact .finE [.r [],.r [(2,X (Xc0 (z2l [5] k) (rowC intT [5] X0)))]] [] (fun z0:Bool=>(VB z0,[])) _ _ e4
     ·
      refine .bp [.r []] (p==2) (fun h12=> ?_) (fun h12=> ?_)
      ·
       have e5:((permB p k):Bool)=(([3]).any (fun y=>k==y)):=by
        rw[zj];unfold permB hasT;simp only[zL,zX,zD,qS,beq_iff_eq,qU,false_iff,iff_false];(repeat' split)<;>(try simp only[qS,beq_iff_eq,qU,false_iff])<;>first|omega| (simp;done)
       exact .finE [.r [],.r [(2,X (Xc0 (z2l [3] k) (rowC intT [3] X0)))]] [] (fun z0:Bool=>(VB z0,[])) _ _ e5
      ·
       refine .bp [.r []] (p==7) (fun h14=> ?_) (fun h14=> ?_)
       ·
        have e6:((permB p k):Bool)=(([8,9]).any (fun y=>k==y)):=by
         rw[zj];unfold permB hasT;simp only[zL,zX,zD,qS,beq_iff_eq,qU,false_iff,iff_false];(repeat' split)<;>(try simp only[qS,beq_iff_eq,qU,false_iff])<;>first|omega| (simp;done)
        exact .finE [.r [],.r [(2,X (Xc0 (z2l [8,9] k) (rowC intT [8,9] X0)))]] [] (fun z0:Bool=>(VB z0,[])) _ _ e6
       ·
        have e7:((permB p k):Bool)=(([]).any (fun y=>k==y)):=by
         rw[zj];unfold permB hasT;simp only[zL,zX,zD,qS,beq_iff_eq,qU,false_iff,iff_false];(repeat' split)<;>(try simp only[qS,beq_iff_eq,qU,false_iff])<;>first|omega| (simp;done)
        exact .finE [.r [(2,X (Xc0 (.nil 0 1 (z2l [] k)) X0))]] [] (fun z0:Bool=>(VB z0,[])) _ _ e7
    ·
     refine .bp [.r []] (p==12) (fun h10=> ?_) (fun h10=> ?_)
     ·
      have e8:((permB p k):Bool)=(([5]).any (fun y=>k==y)):=by
       rw[zj];unfold permB hasT;simp only[zL,zX,zD,qS,beq_iff_eq,qU,false_iff,iff_false];(repeat' split)<;>(try simp only[qS,beq_iff_eq,qU,false_iff])<;>first|omega| (simp;done)
      exact .finE [.r [],.r [(2,X (Xc0 (z2l [5] k) (rowC intT [5] X0)))]] [] (fun z0:Bool=>(VB z0,[])) _ _ e8
     ·
      refine .bp [.r []] (p==2) (fun h12=> ?_) (fun h12=> ?_)
      ·
       have e9:((permB p k):Bool)=(([3]).any (fun y=>k==y)):=by
        rw[zj];unfold permB hasT;simp only[zL,zX,zD,qS,beq_iff_eq,qU,false_iff,iff_false];(repeat' split)<;>(try simp only[qS,beq_iff_eq,qU,false_iff])<;>first|omega| (simp;done)
       exact .finE [.r [],.r [(2,X (Xc0 (z2l [3] k) (rowC intT [3] X0)))]] [] (fun z0:Bool=>(VB z0,[])) _ _ e9
      ·
       refine .bp [.r []] (p==7) (fun h14=> ?_) (fun h14=> ?_)
       ·
        have e10:((permB p k):Bool)=(([8,9]).any (fun y=>k==y)):=by
         rw[zj];unfold permB hasT;simp only[zL,zX,zD,qS,beq_iff_eq,qU,false_iff,iff_false];(repeat' split)<;>(try simp only[qS,beq_iff_eq,qU,false_iff])<;>first|omega| (simp;done)
        exact .finE [.r [],.r [(2,X (Xc0 (z2l [8,9] k) (rowC intT [8,9] X0)))]] [] (fun z0:Bool=>(VB z0,[])) _ _ e10
       ·
        have e11:((permB p k):Bool)=(([]).any (fun y=>k==y)):=by
         rw[zj];unfold permB hasT;simp only[zL,zX,zD,qS,beq_iff_eq,qU,false_iff,iff_false];(repeat' split)<;>(try simp only[qS,beq_iff_eq,qU,false_iff])<;>first|omega| (simp;done)
        exact .finE [.r [(2,X (Xc0 (.nil 0 1 (z2l [] k)) X0))]] [] (fun z0:Bool=>(VB z0,[])) _ _ e11
theorem z4L(d:Doc)(k:Int)(rs:List Int)(hl:d.nodes.length<=1048576)(hs:SortN d.nodes):FC Tryz.prog 66 [.t (docT d),VI k,VL 1 intT rs] (app emp []) (VI (refsE d.nodes k rs 0)) (app emp []):=by
 refine .go Tryz.f66 ?_
 refine .len 2 (fun hl2=> ?_)
 refine .loop (α:=Nat) [.r [],.r [(1,X (Xl intT rs))]] 40 (fun i=>([(1,VI k),(3,.ptr 0 0),(11,VL 1 intT rs),(12,VI (rs.length:Int)),(13,VI (i:Int))],[(0,.box [VL 9 nodeT d.nodes])])) (fun i=>i<=rs.length/\refsE d.nodes k rs 0=refsE d.nodes k rs i) (fun i=>rs.length-i) (0:Nat) ?_ ?_
 ·
  exact⟨by omega,rfl⟩
 rintro i I2 ih2
 try dsimp only at I2
 refine .bp [.r []] (decide ((i:Int)< (rs.length:Int))) (fun h2=> ?_) (fun h2=> ?_)
 ·
  refine .bp [.r [(0,X (Xi intT rs (i:Int)))],.r [(2,X (Xc0 (z8u d (rs.getD i default) (by assumption) (by assumption)) X0))],.r []] (!(hasN (d).nodes (rs.getD i default))) (fun h5=> ?_) (fun h5=> ?_)
  ·
   have e1:((refsE d.nodes k rs 0):Int)=7:=by
    exact I2.2.trans (y22 (by omega) (y8M hs h5))
   exact .finE [.r []] [] (fun z0:Int=>(VI z0,[])) _ _ e1
  ·
   obtain⟨q1,q2⟩:=z03.1 h5
   have hf:=y6W hs h5
   refine .bp [.r [(4,X (Xi nodeT d.nodes (lobN (d).nodes (rs.getD i default):Int))),(7,X (Xc0 (y7k k (((d.nodes.getD (lobN (d).nodes (rs.getD i default)) default)).kind)) X0))]] (!(permB k (((d.nodes.getD (lobN (d).nodes (rs.getD i default)) default)).kind))) (fun h7=> ?_) (fun h7=> ?_)
   ·
    have e2:((refsE d.nodes k rs 0):Int)=8:=by
     exact I2.2.trans (y23 (by omega) (by omega) (by rw[hf];exact h7))
    exact .finE [.r []] [] (fun z0:Int=>(VI z0,[])) _ _ e2
   ·
    refine .back [.r [(0,X (Xn ((i:Int)+1)))]] [(0,0)] (ih2 ((i+1):Nat) ?_ ?_)
    ·
     exact⟨by omega,I2.2.trans (y24 (by omega) (by omega) (by rw[hf];exact h7))⟩
    ·
     ((try dsimp only);omega)
 ·
  have e3:((refsE d.nodes k rs 0):Int)=0:=by
   exact I2.2.trans (y41 (by omega))
  exact .finE [.r []] [] (fun z0:Int=>(VI z0,[])) _ _ e3
theorem z9V(k:Int)(l:List Cell):FC Tryz.prog 127 [VI k,VL 5 cellT l] (app emp []) (VI (cellK k l 0)) (app emp []):=by
 refine .go Tryz.f127 ?_
 refine .len 1 (fun hl1=> ?_)
 refine .loop (α:=Nat) [.r [],.r [(1,X (Xl cellT l))]] 32 (fun i=>([(0,VI k),(7,VL 5 cellT l),(8,VI (l.length:Int)),(9,VI (i:Int))],[])) (fun i=>i<=l.length/\cellK k l 0=cellK k l i) (fun i=>l.length-i) (0:Nat) ?_ ?_
 ·
  exact⟨by omega,rfl⟩
 rintro i I2 ih2
 try dsimp only at I2
 refine .bp [.r []] (decide ((i:Int)< (l.length:Int))) (fun h2=> ?_) (fun h2=> ?_)
 ·
  refine .bp [.r [(0,X (Xi cellT l (i:Int)))],.r [(4,Xv 1 (k==2) X0),(5,Xv 1 (k==2) X0),(6,Xv 1 (k==2) X0),(8,Xv 1 ((k==2)&& !(!(seq (((l.getD i default)).text) ({data:=#[]})))) X0),(9,Xv 1 ((k==2)&& !(!(seq (((l.getD i default)).text) ({data:=#[]})))) (Xl attrT (((l.getD i default)).attrs))),(10,Xv 1 ((k==2)&& !(!(seq (((l.getD i default)).text) ({data:=#[]})))) X0),(11,Xko (k==2) (!(seq (((l.getD i default)).text) ({data:=#[]})))),(12,X (Xk (k==2))),(15,Xv 1 (!((k==2)&&(!(seq (((l.getD i default)).text) ({data:=#[]}))||decide (((((l.getD i default)).attrs).length:Int)> 0)))) X0),(16,Xv 1 (!((k==2)&&(!(seq (((l.getD i default)).text) ({data:=#[]}))||decide (((((l.getD i default)).attrs).length:Int)> 0)))) X0),(18,Xv 1 ((!((k==2)&&(!(seq (((l.getD i default)).text) ({data:=#[]}))||decide (((((l.getD i default)).attrs).length:Int)> 0))))&&(k==6)) X0),(19,Xv 1 ((!((k==2)&&(!(seq (((l.getD i default)).text) ({data:=#[]}))||decide (((((l.getD i default)).attrs).length:Int)> 0))))&&(k==6)) X0),(20,Xka (!((k==2)&&(!(seq (((l.getD i default)).text) ({data:=#[]}))||decide (((((l.getD i default)).attrs).length:Int)> 0)))) (k==6)),(21,X (Xk' ((k==2)&&(!(seq (((l.getD i default)).text) ({data:=#[]}))||decide (((((l.getD i default)).attrs).length:Int)> 0)))))]] (((k==2)&&(!(seq (((l.getD i default)).text) ({data:=#[]}))||decide (((((l.getD i default)).attrs).length:Int)> 0)))|| ((k==6)&&((((l.getD i default)).ref) !=0))) (fun h4=> ?_) (fun h4=> ?_)
  ·
   have e1:((cellK k l 0):Int)=4:=by
    rw[I2.2,cellK,if_pos (by omega),if_pos]
    exact h4.imp (fun q=>⟨q.1,q.2.imp id (fun z=>by omega)⟩) id
   exact .finE [.r []] [] (fun z0:Int=>(VI z0,[])) _ _ e1
  ·
   refine .back [.r [(0,X (Xn ((i:Int)+1)))]] [] (ih2 ((i+1):Nat) ?_ ?_)
   ·
    refine⟨by omega,?_⟩
    rw[I2.2,cellK,if_pos (by omega),if_neg]
    rintro(⟨a,b|b⟩| ⟨a,b⟩)
    ·rcases h4.1 with q|q
     ·exact q a
     ·rw[q.1] at b;cases b
    ·rcases h4.1 with q|q
     ·exact q a
     ·omega
    ·rcases h4.2 with q|q
     ·exact q a
     ·exact b q
   ·
    ((try dsimp only);omega)
 ·
  have e2:((cellK k l 0):Int)=0:=by
   rw[I2.2,cellK,if_neg (by omega)]
  exact .finE [.r []] [] (fun z0:Int=>(VI z0,[])) _ _ e2
theorem y9s(l:List Rect):FC Tryz.prog 155 [VL 4 rectT l,VN] (app emp []) (VB ((l.length:Int)==0)) (app emp []):=by
 refine .go Tryz.f155 ?_
 refine .len 0 (fun hl0=> ?_)
 refine .bp [.r [],.r [(1,X (Xl rectT l))]] ((l.length:Int) !=0) (fun h1=> ?_) (fun h1=> ?_)
 ·
  have e1:(((l.length:Int)==0):Bool)=false:=by
   rw[beq_eq_false_iff_ne];exact h1
  exact .finE [.r []] [] (fun z0:Bool=>(VB z0,[])) _ _ e1
 ·
  refine .loop (α:=Nat) [.r [(1,X (Xl rectT l))]] 72 (fun i=>([(0,VL 4 rectT l),(1,VN),(12,VI (l.length:Int)),(13,VI (i:Int))],[])) (fun i=>i=0) (fun i=>0) (0:Nat) ?_ ?_
  ·
   rfl
  rintro i I4 ih4
  try dsimp only at I4
  refine .bp [.r []] (decide ((i:Int)< (l.length:Int))) (fun h4=> ?_) (fun h4=> ?_)
  ·
   exfalso
   omega
  ·
   have e2:(((l.length:Int)==0):Bool)=true:=by
    rw[beq_iff_eq];exact h1
   exact .finE [.r []] [] (fun z0:Bool=>(VB z0,[])) _ _ e2
theorem y9t(l:List Cell):FC Tryz.prog 156 [VL 5 cellT l,VN,.fn 157 []] (app emp []) (VB ((l.length:Int)==0)) (app emp []):=by
 refine .go Tryz.f156 ?_
 refine .len 0 (fun hl0=> ?_)
 refine .bp [.r [],.r [(1,X (Xl cellT l))]] ((l.length:Int) !=0) (fun h1=> ?_) (fun h1=> ?_)
 ·
  have e1:(((l.length:Int)==0):Bool)=false:=by
   rw[beq_eq_false_iff_ne];exact h1
  exact .finE [.r []] [] (fun z0:Bool=>(VB z0,[])) _ _ e1
 ·
  refine .loop (α:=Nat) [.r [(1,X (Xl cellT l))]] 72 (fun i=>([(1,VN),(2,.fn 157 []),(15,VL 5 cellT l),(16,VI (l.length:Int)),(17,VI (i:Int))],[])) (fun i=>i=0) (fun i=>0) (0:Nat) ?_ ?_
  ·
   rfl
  rintro i I4 ih4
  try dsimp only at I4
  refine .bp [.r []] (decide ((i:Int)< (l.length:Int))) (fun h4=> ?_) (fun h4=> ?_)
  ·
   exfalso
   omega
  ·
   have e2:(((l.length:Int)==0):Bool)=true:=by
    rw[beq_iff_eq];exact h1
   exact .finE [.r []] [] (fun z0:Bool=>(VB z0,[])) _ _ e2
theorem z9W(x:Grid):FC Tryz.prog 78 [.t (gridT x),.t (.agg [TI 0,TI 0,TN,TN])] (app emp []) (VB (zeroG x)) (app emp []):=by
 refine .go Tryz.f78 ?_
 have e1:((zeroG x):Bool)=((((x.rows==0)&&(x.cols==0))&&(((x.merges).length:Int)==0))&&(((x.cells).length:Int)==0)):=by
  unfold zeroG;rw[zj];simp only[qd];constructor<;>(rintro⟨⟨⟨a,b⟩,c⟩,d⟩;exact⟨⟨⟨a,b⟩,d⟩,c⟩)
 exact .finE [.r [],.r [(7,Xv 1 (x.rows==0) X0),(9,Xv 1 (x.rows==0) X0),(10,Xv 2 (x.rows==0) X0),(11,X (Xk (x.rows==0))),(14,Xv 1 ((x.rows==0)&&(x.cols==0)) X0),(16,Xv 1 ((x.rows==0)&&(x.cols==0)) X0),(17,Xv 2 ((x.rows==0)&&(x.cols==0)) (Xc0 (y9s x.merges) X0)),(18,X (Xk ((x.rows==0)&&(x.cols==0)))),(21,Xv 1 (((x.rows==0)&&(x.cols==0))&&(((x.merges).length:Int)==0)) X0),(23,Xv 1 (((x.rows==0)&&(x.cols==0))&&(((x.merges).length:Int)==0)) X0),(24,Xv 2 (((x.rows==0)&&(x.cols==0))&&(((x.merges).length:Int)==0)) (Xc0 (y9t x.cells) X0)),(25,X (Xk (((x.rows==0)&&(x.cols==0))&&(((x.merges).length:Int)==0))))]] [] (fun z0:Bool=>(VB z0,[])) _ _ e1
theorem z9X(n:Node)(hm:n.grid.merges=[]/\NoTx n.grid.cells):FC Tryz.prog 65 [.t (nodeT n)] (app emp []) (VI (nodeE n)) (app emp []):=by
 refine .go Tryz.f65 ?_
 obtain⟨hm1,hm2⟩:=hm
 refine .bp [.r [],.r [(5,Xv 1 (!(decide (n.id<1))) X0),(6,Xv 1 (!(decide (n.id<1))) X0),(7,X (Xk' (decide (n.id<1))))]] (decide (n.id<1)||decide (n.id>1073741824)) (fun h1=> ?_) (fun h1=> ?_)
 ·
  have e1:((nodeE n):Int)=2:=by
   (try rw[z2Z false n.attrs _ 0 rfl] at*)
   unfold nodeE
   (repeat' split)<;>first|rfl|omega| (exfalso;omega)| (simp_all;done)| (exfalso;simp_all;done)| (exfalso;simp_all;omega)|grind
  exact .finE [.r []] [] (fun z0:Int=>(VI z0,[])) _ _ e1
 ·
  refine .bp [.r [(5,Xv 1 (!(decide (n.kind<0))) X0),(6,Xv 1 (!(decide (n.kind<0))) X0),(7,X (Xk' (decide (n.kind<0)))),(10,Xv 1 (!(decide (n.kind<0)||decide (n.kind>=13))) X0),(11,Xv 1 (!(decide (n.kind<0)||decide (n.kind>=13))) X0),(13,Xv 1 (!(decide (n.kind<0)||decide (n.kind>=13))) X0),(14,Xv 1 (!(decide (n.kind<0)||decide (n.kind>=13))) X0),(15,Xv 2 (!(decide (n.kind<0)||decide (n.kind>=13))) X0),(16,X (Xk' (decide (n.kind<0)||decide (n.kind>=13))))]] ((decide (n.kind<0)||decide (n.kind>=13))|| !((n.id==1)==(n.kind==0))) (fun h3=> ?_) (fun h3=> ?_)
  ·
   have e2:((nodeE n):Int)=8:=by
    (try rw[z2Z false n.attrs _ 0 rfl] at*)
    unfold nodeE
    (repeat' split)<;>first|rfl|omega| (exfalso;omega)| (simp_all;done)| (exfalso;simp_all;done)| (exfalso;simp_all;omega)|grind
   exact .finE [.r []] [] (fun z0:Int=>(VI z0,[])) _ _ e2
  ·
   refine .bp [.r [(2,X (Xc0 (z3p n.attrs) X0))],.r []] ((chkA false n.attrs 0) !=0) (fun h6=> ?_) (fun h6=> ?_)
   ·
    have e3:((nodeE n):Int)=(chkA false n.attrs 0):=by
     (try rw[z2Z false n.attrs _ 0 rfl] at*)
     unfold nodeE
     (repeat' split)<;>first|rfl|omega| (exfalso;omega)| (simp_all;done)| (exfalso;simp_all;done)| (exfalso;simp_all;omega)|grind
    exact .finE [.r []] [] (fun z0:Int=>(VI z0,[])) _ _ e3
   ·
    refine .bp [.r [(2,X (Xc0 (z5M n.kind) X0)),(5,Xv 1 (!(hasT n.kind)) X0),(6,Xv 1 (!(hasT n.kind)) (Xc0 (y2w n.kind) X0)),(7,X (Xk' (hasT n.kind))),(10,X (Xc0 (y2x n.kind) X0))],.r [(4,Xv 1 (!((hasT n.kind)|| (hasL n.kind))) X0),(5,Xv 1 (!((hasT n.kind)|| (hasL n.kind))) (Xl elemT n.flow)),(6,Xv 1 (!((hasT n.kind)|| (hasL n.kind))) X0),(7,X (Xk (!((hasT n.kind)|| (hasL n.kind))))),(10,Xv 1 (!(!((hasT n.kind)|| (hasL n.kind))&&decide ((n.flow.length:Int)> 0))) X0),(11,Xv 1 (!(!((hasT n.kind)|| (hasL n.kind))&&decide ((n.flow.length:Int)> 0))) X0),(13,Xv 1 ((!(!((hasT n.kind)|| (hasL n.kind))&&decide ((n.flow.length:Int)> 0)))&&(!(hasG n.kind))) X0),(15,Xv 2 ((!(!((hasT n.kind)|| (hasL n.kind))&&decide ((n.flow.length:Int)> 0)))&&(!(hasG n.kind))) (Xc0 (z9W n.grid) X0)),(16,Xv 1 ((!(!((hasT n.kind)|| (hasL n.kind))&&decide ((n.flow.length:Int)> 0)))&&(!(hasG n.kind))) X0),(17,Xka (!(!((hasT n.kind)|| (hasL n.kind))&&decide ((n.flow.length:Int)> 0))) (!(hasG n.kind))),(18,X (Xk' (!((hasT n.kind)|| (hasL n.kind))&&decide ((n.flow.length:Int)> 0)))),(21,Xv 1 (!((!((hasT n.kind)|| (hasL n.kind))&&decide ((n.flow.length:Int)> 0))|| (!(hasG n.kind)&& !(zeroG n.grid)))) X0),(22,Xv 1 (!((!((hasT n.kind)|| (hasL n.kind))&&decide ((n.flow.length:Int)> 0))|| (!(hasG n.kind)&& !(zeroG n.grid)))) (Xc0 (y2y n.kind) X0)),(23,Xv 1 (!((!((hasT n.kind)|| (hasL n.kind))&&decide ((n.flow.length:Int)> 0))|| (!(hasG n.kind)&& !(zeroG n.grid)))) X0),(24,Xv 1 (!((!((hasT n.kind)|| (hasL n.kind))&&decide ((n.flow.length:Int)> 0))|| (!(hasG n.kind)&& !(zeroG n.grid)))) X0),(26,Xv 1 ((!((!((hasT n.kind)|| (hasL n.kind))&&decide ((n.flow.length:Int)> 0))|| (!(hasG n.kind)&& !(zeroG n.grid))))&&(!(hasD n.kind))) X0),(27,Xv 1 ((!((!((hasT n.kind)|| (hasL n.kind))&&decide ((n.flow.length:Int)> 0))|| (!(hasG n.kind)&& !(zeroG n.grid))))&&(!(hasD n.kind))) (Xl dopT n.draw)),(28,Xv 1 ((!((!((hasT n.kind)|| (hasL n.kind))&&decide ((n.flow.length:Int)> 0))|| (!(hasG n.kind)&& !(zeroG n.grid))))&&(!(hasD n.kind))) X0),(29,Xka (!((!((hasT n.kind)|| (hasL n.kind))&&decide ((n.flow.length:Int)> 0))|| (!(hasG n.kind)&& !(zeroG n.grid)))) (!(hasD n.kind))),(30,X (Xk' ((!((hasT n.kind)|| (hasL n.kind))&&decide ((n.flow.length:Int)> 0))|| (!(hasG n.kind)&& !(zeroG n.grid)))))]] (((!((hasT n.kind)|| (hasL n.kind))&&decide ((n.flow.length:Int)> 0))|| (!(hasG n.kind)&& !(zeroG n.grid)))|| (!(hasD n.kind)&&decide ((n.draw.length:Int)> 0))) (fun h9=> ?_) (fun h9=> ?_)
    ·
     have e4:((nodeE n):Int)=4:=by
      (try rw[z2Z false n.attrs _ 0 rfl] at*)
      unfold nodeE
      (repeat' split)<;>first|rfl|omega| (exfalso;omega)| (simp_all;done)| (exfalso;simp_all;done)| (exfalso;simp_all;omega)|grind
     exact .finE [.r []] [] (fun z0:Int=>(VI z0,[])) _ _ e4
    ·
     refine .bp [.r []] ((hasT n.kind)|| (hasL n.kind)) (fun h11=> ?_) (fun h11=> ?_)
     ·
      have e5:((nodeE n):Int)=(flowZ (hasT n.kind) n.flow):=by
       (try rw[z2Z false n.attrs _ 0 rfl] at*)
       unfold nodeE
       (repeat' split)<;>first|rfl|omega| (exfalso;omega)| (simp_all;done)| (exfalso;simp_all;done)| (exfalso;simp_all;omega)|grind
      exact .finE [.r [(4,X (Xc0 (z5M n.kind) X0)),(5,X (Xc0 (z8t n.flow (hasT n.kind)) X0))]] [] (fun z0:Int=>(VI z0,[])) _ _ e5
     ·
      refine .bp [.r []] (hasG n.kind) (fun h13=> ?_) (fun h13=> ?_)
      ·
       refine .bp [.r [(2,X (Xc0 (z9T n.grid (by assumption) (by assumption)) X0))],.r []] ((gridE n.grid) !=0) (fun h15=> ?_) (fun h15=> ?_)
       ·
        have e6:((nodeE n):Int)=(gridE n.grid):=by
         (try rw[z2Z false n.attrs _ 0 rfl] at*)
         unfold nodeE
         (repeat' split)<;>first|rfl|omega| (exfalso;omega)| (simp_all;done)| (exfalso;simp_all;done)| (exfalso;simp_all;omega)|grind
        exact .finE [.r []] [] (fun z0:Int=>(VI z0,[])) _ _ e6
       ·
        have e7:((nodeE n):Int)=(cellK n.kind n.grid.cells 0):=by
         (try rw[z2Z false n.attrs _ 0 rfl] at*)
         unfold nodeE
         (repeat' split)<;>first|rfl|omega| (exfalso;omega)| (simp_all;done)| (exfalso;simp_all;done)| (exfalso;simp_all;omega)|grind
        exact .finE [.r [(5,X (Xc0 (z9V n.kind n.grid.cells) X0))]] [] (fun z0:Int=>(VI z0,[])) _ _ e7
      ·
       have e8:((nodeE n):Int)=(drawE n.draw 0):=by
        (try rw[z2Z false n.attrs _ 0 rfl] at*)
        unfold nodeE
        (repeat' split)<;>first|rfl|omega| (exfalso;omega)| (simp_all;done)| (exfalso;simp_all;done)| (exfalso;simp_all;omega)|grind
       exact .finE [.r [(2,X (Xc0 (z9S n.draw) X0))]] [] (fun z0:Int=>(VI z0,[])) _ _ e8
theorem z29(d:Doc)(hb:DocL d):FC Tryz.prog 29 [.t (docT d)] (app emp []) (VI (docE d)) (app emp []):=by
 refine .go Tryz.f29 ?_
 have hl:=hb.len
 refine .bp [.r [],.r [(2,X (Xl nodeT d.nodes))]] ((d.nodes.length:Int)==0) (fun h1=> ?_) (fun h1=> ?_)
 ·
  have e1:((docE d):Int)=11:=by
   exact z7d (by omega)
  exact .finE [.r []] [] (fun z0:Int=>(VI z0,[])) _ _ e1
 ·
  refine .loop (α:=Nat) [.r [(2,X (Xl nodeT d.nodes))]] 80 (fun i=>([(1,.ptr 0 0),(14,VL 9 nodeT d.nodes),(15,VI (d.nodes.length:Int)),(16,VI (i:Int))],[(0,.box [VL 9 nodeT d.nodes])])) (fun i=>i<=d.nodes.length/\z1f d.nodes 0=z1f d.nodes i) (fun i=>d.nodes.length-i) (0:Nat) ?_ ?_
  ·
   exact⟨by omega,rfl⟩
  rintro i I4 ih4
  try dsimp only at I4
  refine .bp [.r []] (decide ((i:Int)< (d.nodes.length:Int))) (fun h4=> ?_) (fun h4=> ?_)
  ·
   have hn:=hb.lite _ (z3x (l:=d.nodes) (i:=i) (by omega))
   refine .bp [.r [(1,X (Xi nodeT d.nodes (i:Int)))],.r [(1,X (Xc0 (z9X ((d.nodes.getD i default)) (by assumption)) X0))],.r []] ((nodeE ((d.nodes.getD i default))) !=0) (fun h7=> ?_) (fun h7=> ?_)
   ·
    have e2:((docE d):Int)=(nodeE ((d.nodes.getD i default))):=by
     exact z9v (by omega) (I4.2.trans (y20 (by omega) h7)) h7
    exact .finE [.r []] [] (fun z0:Int=>(VI z0,[])) _ _ e2
   ·
    refine .bp [.r [(4,Xv 1 ((i:Int)==0) X0),(5,Xv 1 ((i:Int)==0) X0),(6,X (Xk ((i:Int)==0))),(9,Xv 1 (!(((i:Int)==0)&&((((d.nodes.getD i default)).id) !=1))) X0),(10,Xv 1 (!(((i:Int)==0)&&((((d.nodes.getD i default)).id) !=1))) X0),(12,Xv 1 ((!(((i:Int)==0)&&((((d.nodes.getD i default)).id) !=1)))&&(decide ((i:Int)> 0))) X0),(14,Xv 1 ((!(((i:Int)==0)&&((((d.nodes.getD i default)).id) !=1)))&&(decide ((i:Int)> 0))) X0),(16,Xv 1 ((!(((i:Int)==0)&&((((d.nodes.getD i default)).id) !=1)))&&(decide ((i:Int)> 0))) (Xn ((i:Int)- 1))),(17,Xv 2 ((!(((i:Int)==0)&&((((d.nodes.getD i default)).id) !=1)))&&(decide ((i:Int)> 0))) (Xi' nodeT d.nodes ((i:Int)- 1) (i- 1))),(18,Xv 1 ((!(((i:Int)==0)&&((((d.nodes.getD i default)).id) !=1)))&&(decide ((i:Int)> 0))) X0),(19,Xv 1 ((!(((i:Int)==0)&&((((d.nodes.getD i default)).id) !=1)))&&(decide ((i:Int)> 0))) X0),(20,Xv 2 ((!(((i:Int)==0)&&((((d.nodes.getD i default)).id) !=1)))&&(decide ((i:Int)> 0))) X0),(21,Xka (!(((i:Int)==0)&&((((d.nodes.getD i default)).id) !=1))) (decide ((i:Int)> 0))),(22,X (Xk' (((i:Int)==0)&&((((d.nodes.getD i default)).id) !=1))))]] ((((i:Int)==0)&&((((d.nodes.getD i default)).id) !=1))|| (decide ((i:Int)> 0)&&decide ((((d.nodes.getD i default)).id)<=(((d.nodes.getD (i- 1) default)).id)))) (fun h9=> ?_) (fun h9=> ?_)
    ·
     have e3:((docE d):Int)=5:=by
      exact z9v (by omega) (I4.2.trans (y21 (by omega) h7 (by rcases h9 with q|q;(left;obtain⟨q1,q2⟩:=q;have q3:i=0:=(by omega);subst q3;exact⟨rfl,q2⟩);(right;omega)))) (by decide)
     exact .finE [.r []] [] (fun z0:Int=>(VI z0,[])) _ _ e3
    ·
     refine .back [.r [(0,X (Xn ((i:Int)+1)))]] [(0,0)] (ih4 ((i+1):Nat) ?_ ?_)
     ·
      exact⟨by omega,I4.2.trans (y0E (by omega) h7 (by rintro(⟨q1,q2⟩|q);(subst q1;rcases h9.1 with q|q;(exact q rfl);(exact q2 q));(rcases h9.2 with q3|q3<;>omega)))⟩
     ·
      ((try dsimp only);omega)
  ·
   refine .loop (α:=Nat) [.r [(2,X (Xl nodeT d.nodes))]] 120 (fun j=>([(1,.ptr 0 0),(51,VL 9 nodeT d.nodes),(52,VI (d.nodes.length:Int)),(53,VI (j:Int))],[(0,.box [VL 9 nodeT d.nodes])])) (fun j=>j<=d.nodes.length/\z0X d.nodes 0=z0X d.nodes j) (fun j=>d.nodes.length-j) (0:Nat) ?_ ?_
   ·
    exact⟨by omega,rfl⟩
   rintro j I13 ih13
   try dsimp only at I13
   refine .bp [.r []] (decide ((j:Int)< (d.nodes.length:Int))) (fun h13=> ?_) (fun h13=> ?_)
   ·
    have hn:=hb.all _ (z3x (l:=d.nodes) (i:=j) (by omega))
    have hs:=y0G (I4.2.trans (z40 (by omega)))
    refine .bp [.r [(0,X (Xi nodeT d.nodes (j:Int)))],.r [(4,X (Xc1 192 (z9U ((d.nodes.getD j default)) (by assumption)) X0)),(5,X (Xc0 (z4L d (((d.nodes.getD j default)).kind) (refsN ((d.nodes.getD j default))) (by assumption) (by assumption)) X0))],.r []] ((refsE (d).nodes (((d.nodes.getD j default)).kind) (refsN ((d.nodes.getD j default))) 0) !=0) (fun h16=> ?_) (fun h16=> ?_)
    ·
     have e4:((docE d):Int)=(refsE (d).nodes (((d.nodes.getD j default)).kind) (refsN ((d.nodes.getD j default))) 0):=by
      exact z9w (by omega) (I4.2.trans (z40 (by omega))) (I13.2.trans (y6T (by omega) h16))
     exact .finE [.r []] [] (fun z0:Int=>(VI z0,[])) _ _ e4
    ·
     refine .back [.r [(0,X (Xn ((j:Int)+1)))]] [(0,0)] (ih13 ((j+1):Nat) ?_ ?_)
     ·
      exact⟨by omega,I13.2.trans (y40 (by omega) h16)⟩
     ·
      ((try dsimp only);omega)
   ·
    have e5:((docE d):Int)=0:=by
     exact z9w (by omega) (I4.2.trans (z40 (by omega))) (I13.2.trans (y6U (by omega)))
    exact .finE [.r []] [] (fun z0:Int=>(VI z0,[])) _ _ e5
end Go.Ch
end
section
namespace Go.Ch
open Go Go.Ab
theorem y7l{α:Type}[Inhabited α]{l:List α}{i:Nat}{x:α}(hx:x=l.getD i default):l.set i x=l:=by
 subst hx
 by_cases h:i<l.length
 ·rw[qj,qa h];simp
 ·rw[List.set_eq_of_length_le (by omega)]
end Go.Ch
end
section
set_option maxRecDepth 100000
set_option maxHeartbeats 4000000
open Go Go.Proofs Go.Ab
namespace Go.Ch
theorem y7m(l:List Elem)(hn:l.length<=1048576)(hs:∀x∈l,x.attrs.length<=1048576):FC Tryz.prog 82 [VL 3 elemT l] (app emp []) (VL 3 elemT l) (app emp []):=by
 refine .go Tryz.f82 ?_
 refine .len 0 (fun hl0=> ?_)
 refine .loop (α:=Nat×(List Elem)) [.r [],.r [(1,X (Xl elemT l)),(2,X (Xmz 3 elemT 24 (l.length:Int) (l.length:Int) ({char:=0,ref:=0,attrs:=[]}:Elem) [TI 0,TI 0,TN] ⟨.inl rfl,⟨.inl rfl,⟨z3b (by decide),trivial⟩⟩⟩))],.r [(1,X (Xl elemT l))]] 64 (fun(i,o)=>([(3,.row 24 l.length),(9,VL 3 elemT l),(10,VI (l.length:Int)),(11,VI (i:Int))],[(24,OR 3 elemT o)])) (fun(i,o)=>i<=l.length/\o=l.take i++List.replicate (l.length-i) ({char:=0,ref:=0,attrs:=[]}:Elem)) (fun(i,o)=>l.length-i) (0,(List.replicate l.length ({char:=0,ref:=0,attrs:=[]}:Elem))) ?_ ?_
 ·
  exact⟨by omega,by simp⟩
 rintro⟨i,o⟩ I3 ih3
 try dsimp only at I3
 have ol:o.length=l.length:=by rw[I3.2];simp;omega
 refine .bp [.r []] (decide ((i:Int)< (l.length:Int))) (fun h3=> ?_) (fun h3=> ?_)
 ·
  have hx:=hs _ (z1O (l:=l) (k:=i) (by omega))
  refine .back [.r [(1,X (Xi elemT l (i:Int)))],.r [(8,X (Xan attrT 184 (((l.getD i default)).attrs))),(10,X (Xpn l.length elemT o (i:Int))),(11,X (rowC attrT (((l.getD i default)).attrs) (Xsn l.length 3 elemT 24 o i ((l.getD i default)) [(184,OF 2 attrT (((l.getD i default)).attrs))])))],.r [(0,X (Xn ((i:Int)+1)))]] [(24,24)] (ih3 ((i+1),(o.set i ((l.getD i default)))) ?_ ?_)
  ·
   refine⟨by omega,?_⟩
   rw[I3.2]
   exact z4w rfl (by omega) rfl
  ·
   ((try dsimp only);omega)
 ·
  have e1:(l:List Elem)=o:=by
   rw[I3.2,qw (by omega),show l.length-i=0 by omega];simp
  exact .finE [.r [],.le (.fr 2 [(l.length:Nat)=(List.map elemT o).length] ⟨lm,trivial⟩)] [] (fun z0:List Elem=>(VL 3 elemT z0,[])) _ _ e1
theorem z8v(n:Node)(hb:NodeB n):FC Tryz.prog 38 [.t (nodeT n)] (app emp []) (.t (nodeT n)) (app emp []):=by
 refine .go Tryz.f38 ?_
 have b1:=hb.at2
 have b2:=hb.fl2
 have b3:=hb.fl3
 have b4:=hb.ce2
 have b5:=hb.me
 have b6:=hb.dr1
 refine .loop (α:=Nat×(List Cell)) [.r [],.r [(2,X (Xan attrT 32 n.attrs))],.r [(2,X (Xc1 72 (y7m n.flow (by assumption) (by assumption)) X0))],.r [(2,X (Xan dopT 112 n.draw))],.r [],.r [(2,X (Xan rectT 184 n.grid.merges))],.r [(2,X (Xan cellT 224 n.grid.cells))],.r []] 280 (fun(i,o)=>([(1,.ptr 0 0),(2,.ptr 8 0),(3,.ptr 152 0),(29,.row 224 o.length),(30,VI (n.grid.cells.length:Int)),(31,VI (i:Int))],[(0,.box [VI n.id,VI n.kind,.row 32 n.attrs.length,VL 3 elemT n.flow,VI n.grid.rows,VI n.grid.cols,VL 5 cellT n.grid.cells,VL 4 rectT n.grid.merges,.row 112 n.draw.length]),(8,.box [VI 0,VI 0,VN,VN,VI 0,VI 0,VN,VN,VN]),(32,OR 2 attrT n.attrs),(112,OR 8 dopT n.draw),(152,.box [VI n.grid.rows,VI n.grid.cols,.row 224 o.length,.row 184 n.grid.merges.length]),(184,OR 4 rectT n.grid.merges),(224,OR 5 cellT o)])) (fun(i,o)=>i<=n.grid.cells.length/\o=n.grid.cells) (fun(i,o)=>n.grid.cells.length-i) (0,n.grid.cells) ?_ ?_
 ·
  exact⟨by omega,rfl⟩
 rintro⟨i,o⟩ I8 ih8
 try dsimp only at I8
 have ol:o.length=n.grid.cells.length:=by rw[I8.2]
 refine .bp [.r []] (decide ((i:Int)< (n.grid.cells.length:Int))) (fun h8=> ?_) (fun h8=> ?_)
 ·
  have hc:=hb.ce3 (o.getD i default) (by rw[I8.2];exact z0n (by omega))
  refine .back [.r [(1,X (Xp cellT o (i:Int))),(2,X (Xe cellT o i))],.r [(5,X (Xan attrT 376 (((o.getD i default)).attrs))),(6,X (Xp cellT o (i:Int))),(8,X (rowC attrT (((o.getD i default)).attrs) (Xs 5 cellT 224 o i ((o.getD i default)) [(376,OF 2 attrT (((o.getD i default)).attrs))])))],.r [(0,X (Xn ((i:Int)+1)))],.le (.eq 29 (.row 224 o.length) (.row 224 ((o.set i ((o.getD i default))).length)) (.of_eq (by simp only[zq]))),.le (.eb 152 2 (.row 224 o.length) (.row 224 ((o.set i ((o.getD i default))).length)) (by simp only[zq]))] [(0,0),(8,8),(32,32),(112,112),(152,152),(184,184),(224,224)] (ih8 ((i+1),(o.set i ((o.getD i default)))) ?_ ?_)
  ·
   refine⟨by omega,?_⟩
   rw[I8.2];exact y7l rfl
  ·
   ((try dsimp only);omega)
 ·
  have e1:(n:Node)=({id:=n.id,kind:=n.kind,attrs:=n.attrs,flow:=n.flow,grid:=({rows:=n.grid.rows,cols:=n.grid.cols,cells:=o,merges:=n.grid.merges}:Grid),draw:=n.draw}:Node):=by
   rw[I8.2]
  exact .finVE [.r [],.r []] [.fR 0 [(n.attrs.length:Nat)=(List.map attrT n.attrs).length,(o.length:Nat)=(List.map cellT o).length,(n.grid.merges.length:Nat)=(List.map rectT n.grid.merges).length,(n.draw.length:Nat)=(List.map dopT n.draw).length] ⟨lm,lm,lm,lm,trivial⟩] [] (fun z0:Node=>(.t (nodeT z0),[])) _ _ e1
theorem z9Y(d:Doc)(hb:DocB d):FC Tryz.prog 31 [.t (docT d)] (app emp []) (.agg [.row 1 d.nodes.length]) (app emp [(0,.box [.row 1 d.nodes.length]),(1,OR 9 nodeT d.nodes)]):=by
 refine .go Tryz.f31 ?_
 have hl:=hb.len
 refine .loop (α:=Nat×(List Node)) [.r [],.r [(2,X (Xl nodeT d.nodes)),(3,X (Xmz 9 nodeT 40 (d.nodes.length:Int) (d.nodes.length:Int) ({id:=0,kind:=0,attrs:=[],flow:=[],grid:=({rows:=0,cols:=0,cells:=[],merges:=[]}:Grid),draw:=[]}:Node) [TI 0,TI 0,TN,TN,TI 0,TI 0,TN,TN,TN] ⟨.inl rfl,⟨.inl rfl,⟨z3b (by decide),⟨z3b (by decide),⟨.inl rfl,⟨.inl rfl,⟨z3b (by decide),⟨z3b (by decide),⟨z3b (by decide),trivial⟩⟩⟩⟩⟩⟩⟩⟩⟩))],.r [(2,X (Xl nodeT d.nodes))],.le (.eb 56 0 (.row 40 d.nodes.length) (.row 40 ((List.replicate d.nodes.length ({id:=0,kind:=0,attrs:=[],flow:=[],grid:=({rows:=0,cols:=0,cells:=[],merges:=[]}:Grid),draw:=[]}:Node)).length)) (by simp only[qW]))] 104 (fun(i,o)=>([(2,.ptr 8 0),(3,.ptr 56 0),(12,VL 9 nodeT d.nodes),(13,VI (d.nodes.length:Int)),(14,VI (i:Int))],[(8,.box [VN]),(40,OR 9 nodeT o),(56,.box [.row 40 o.length])])) (fun(i,o)=>i<=d.nodes.length/\o=d.nodes.take i++List.replicate (d.nodes.length-i) ({id:=0,kind:=0,attrs:=[],flow:=[],grid:=({rows:=0,cols:=0,cells:=[],merges:=[]}:Grid),draw:=[]}:Node)) (fun(i,o)=>d.nodes.length-i) (0,(List.replicate d.nodes.length ({id:=0,kind:=0,attrs:=[],flow:=[],grid:=({rows:=0,cols:=0,cells:=[],merges:=[]}:Grid),draw:=[]}:Node))) ?_ ?_
 ·
  exact⟨by omega,by simp⟩
 rintro⟨i,o⟩ I3 ih3
 try dsimp only at I3
 have ol:o.length=d.nodes.length:=by rw[I3.2];simp;omega
 refine .bp [.r []] (decide ((i:Int)< (d.nodes.length:Int))) (fun h3=> ?_) (fun h3=> ?_)
 ·
  have hx:=hb.all _ (z3x (l:=d.nodes) (i:=i) (by omega))
  refine .back [.r [(1,X (Xi nodeT d.nodes (i:Int)))],.r [(4,X (Xc1 192 (z8v ((d.nodes.getD i default)) (by assumption)) X0)),(5,X (Xp nodeT o (i:Int))),(6,X (Xs 9 nodeT 40 o i (((d.nodes.getD i default)))))],.r [(0,X (Xn ((i:Int)+1)))],.le (.eb 56 0 (.row 40 o.length) (.row 40 ((o.set i (((d.nodes.getD i default)))).length)) (by simp only[zq]))] [(8,8),(40,40),(56,56)] (ih3 ((i+1),(o.set i (((d.nodes.getD i default))))) ?_ ?_)
  ·
   refine⟨by omega,?_⟩
   rw[I3.2]
   exact z4w rfl (by omega) rfl
  ·
   ((try dsimp only);omega)
 ·
  have e1:(d.nodes.length:Nat)=o.length:=by
   first|omega| (rw[I3.2,qw (by omega),show d.nodes.length-i=0 by omega];simp)
  have e2:(d.nodes:List Node)=o:=by
   first|omega| (rw[I3.2,qw (by omega),show d.nodes.length-i=0 by omega];simp)
  exact .finE [.r []] [(8,0),(40,1)] (fun((z0,z1):Nat×(List Node))=>(.agg [.row 1 z0],[(0,.box [.row 1 z0]),(1,OR 9 nodeT z1)])) _ _ (pr e1 e2)


theorem z1R(l:List DStep)(u n:Int)(s:DStep)(hs:tkE l u n=s)(h0:0<l.length)(hu:0<=u/\0<=n/\u+n<=szD (l.getD 0 default)/\u+n<=9223372036854775807):
 FC Tryz.prog 115 [.ptr 0 0,VI n] (app emp [(0,.box [VL 4 z0c l,VI u])]) (.t (z0c s)) (app emp [(0,.box [VL 4 z0c (tkL l u n),VI (tkN l u n)]),(1,.box [VI s.kind,VI s.n,VL 2 attrT s.attrs,VL 3 elemT s.elems])]):=hs▸y6B l u n h0 hu
theorem y7n(a b:List DStep)(va:z0D a)(vb:z0D b)(da:DN 100000000000 a)(db:DN 100000000000 b)(hm:newD a=oldD b):FC Tryz.prog 64 [VL 4 z0c a,VL 4 z0c b] (app emp []) (.tup [VL 4 z0c (joinD a b),VI 0]) (app emp []):=by
 refine .go Tryz.f64 ?_
 refine .len 0 (fun hl0=> ?_)
 refine .len 1 (fun hl1=> ?_)
 have ca:=z0S.2 va
 have cb:=z0S.2 vb
 have da4:=da.mono (n:=400000000000) (by decide)
 have db4:=db.mono (n:=400000000000) (by decide)
 obtain⟨_,_,_,st,vj,_⟩:=z63 va vb da db hm
 have cj:=z0S.2 vj
 refine .bp [.r [],.r [(1,X (Xc0 (z1Q a (by assumption)) X0))],.r []] ((z0W a) !=0) (fun h2=> ?_) (fun h2=> ?_)
 ·
  exfalso
  omega
 ·
  refine .bp [.r [(1,X (Xc0 (z1Q b (by assumption)) X0))],.r []] ((z0W b) !=0) (fun h5=> ?_) (fun h5=> ?_)
  ·
   exfalso
   omega
  ·
   refine .bp [.r [(1,X (Xc0 (z4x a (by assumption)) X0))],.r [(1,X (Xc0 (z4x b (by assumption)) X0))],.r []] ((oldD b) !=(newD a)) (fun h9=> ?_) (fun h9=> ?_)
   ·
    exfalso
    omega
   ·
    refine .loop (α:=Int×(List DStep)×(List Elem)×(List DStep)×Int×(List DStep)×Int) [.r [],.le (.nB 232 0 4),.le (.nB 232 1 3),.r []] 306 (fun(y,o,x,ps,pu,qs,qu)=>([(12,.ptr 232 0),(13,.ptr 258 0),(14,.ptr 282 0)],[(232,.box [.row 240 o.length,.row 241 x.length,VI y]),(240,OR 4 z0c o),(241,OR 3 elemT x),(258,.box [VL 4 z0c ps,VI pu]),(282,.box [VL 4 z0c qs,VI qu])])) (fun(y,o,x,ps,pu,qs,qu)=>JD ⟨o,x,y⟩ ps pu qs qu (z0g (exD a) (exD b)).length (foldD ⟨[],[],0⟩ (z0g (exD a) (exD b)))) (fun(y,o,x,ps,pu,qs,qu)=>jmD ps pu qs qu) (0,[],[],a,0,b,0) ?_ ?_
    ·
     exact st
    rintro⟨y,o,x,ps,pu,qs,qu⟩ I13 ih13
    try dsimp only at I13
    have kp:=z24 I13.gp
    have kq:=z24 I13.gq
    have hb:=I13.di.bd
    simp only at hb
    have hf:=I13.di.fl.1
    refine .bp [.r [(1,X (Xc4 [(0,258)] (z2u ps pu) X0)),(5,Xv 1 (!(decide ((kindD ps)>=0))) (Xc4 [(0,282)] (z2u qs qu) X0)),(6,Xv 1 (!(decide ((kindD ps)>=0))) X0),(7,X (Xk' (decide ((kindD ps)>=0))))]] (decide ((kindD ps)>=0)||decide ((kindD qs)>=0)) (fun h13=> ?_) (fun h13=> ?_)
    ·
     refine .bp [.r [(1,X (Xc4 [(0,258)] (z2u ps pu) X0))]] ((kindD ps)==2) (fun h14=> ?_) (fun h14=> ?_)
     ·
      have lp0:0<ps.length:=by omega
      have k1:(ps.getD 0 default).kind=2:=by omega
      clear kp kq
      have sp:=z5i I13.gp I13.dp lp0
      obtain⟨s,hs⟩:∃z,tkE ps pu (szD (ps.getD 0 default)- pu)=z:=⟨_,rfl⟩
      have hn:s.n=szD (ps.getD 0 default)- pu:=by rw[<-hs];exact tkE_n (by omega)
      have hC:=JD.cut I13 lp0 k1 rfl
      refine .back [.r [(4,X (Xc4 [(0,258)] (z2v ps pu (by omega) (by omega)) X0)),(5,X (Xc3 442 [(0,258)] (z1R ps pu (szD (ps.getD 0 default)- pu) s hs (by omega) (by omega)) X0)),(7,X (Xn (y+s.n)))]] [(232,232),(240,240),(241,241),(258,258),(282,282)] (ih13 ((y+s.n),o,x,(tkL ps pu (szD (ps.getD 0 default)- pu)),(tkN ps pu (szD (ps.getD 0 default)- pu)),qs,qu) ?_ ?_)
      ·
       rw[hn];exact hC.1
      ·
       exact hC.2
     ·
      refine .bp [.r [(1,X (Xc4 [(0,282)] (z2u qs qu) X0))]] ((kindD qs)==1) (fun h16=> ?_) (fun h16=> ?_)
      ·
       have lq0:0<qs.length:=by omega
       have k2:(qs.getD 0 default).kind=1:=by omega
       have k1:0<ps.length->(ps.getD 0 default).kind≠2:=fun h=>by omega
       clear kp kq
       have sq:=z5i I13.gq I13.dq lq0
       obtain⟨s,hs⟩:∃z,tkE qs qu (szD (qs.getD 0 default)- qu)=z:=⟨_,rfl⟩
       have hA:=JD.add I13 k1 lq0 k2 rfl
       have hA2:=JD.add2 I13 k1 lq0 k2 rfl
       have hAn:=an_up (y1K (u:=qu) (n:=szD (qs.getD 0 default)- qu) sq.2.2.2.2.2) (k:=400000000000) (by decide)
       rw[hs] at hA hAn
       have hAb:=hA.di.bd
       simp only[qc] at hAb
       refine .back [.r [(2,X (Xc4 [(0,282)] (z2v qs qu (by omega) (by omega)) X0)),(3,X (Xc3 458 [(0,282)] (z1R qs qu (szD (qs.getD 0 default)- qu) s hs (by omega) (by omega)) X0)),(5,X (Xc3 474 [(0,232),(1,240),(2,241)] (z2O o x y s.elems (by assumption) (by omega)) X0))]] [(232,232),(240,240),(241,241),(258,258),(282,282)] (ih13 (y,o,(x++s.elems),ps,pu,(tkL qs qu (szD (qs.getD 0 default)- qu)),(tkN qs qu (szD (qs.getD 0 default)- qu))) ?_ ?_)
       ·
        exact hA
       ·
        exact hA2
      ·
       obtain⟨lp0,lq0⟩:=JD.two I13 (by omega) (fun h=>by omega) (fun h=>by omega)
       have k1:(ps.getD 0 default).kind≠2:=by omega
       have k3:(qs.getD 0 default).kind≠1:=by omega
       have sk:=fun _:Unit=>k01 I13.gp lp0 k1
       have tk:=fun _:Unit=>k02 I13.gq lq0 k3
       have hB1:=fun n=>JD.both (n:=n) I13 lp0 lq0 k1 k3
       clear kp kq h13 h14 h16 k1 k3
       have sp:=z5i I13.gp I13.dp lp0
       have sq:=z5i I13.gq I13.dq lq0
       obtain⟨m,hmm⟩:∃z,min (szD (ps.getD 0 default)- pu) (szD (qs.getD 0 default)- qu)=z:=⟨_,rfl⟩
       have hB:=hB1 m hmm.symm
       have m1:1<=m/\m<=szD (ps.getD 0 default)- pu/\m<=szD (qs.getD 0 default)- qu/\m<=100000000000:=by omega
       have m2:pu+m<=szD (ps.getD 0 default)/\qu+m<=szD (qs.getD 0 default):=by omega
       obtain⟨s,hs⟩:∃z,tkE ps pu m=z:=⟨_,rfl⟩
       obtain⟨t,ht⟩:∃z,tkE qs qu m=z:=⟨_,rfl⟩
       have ek1:=z5z ps pu m
       have ek2:=z5z qs qu m
       have ea1:=z4B ps pu m
       have ea2:=z4B qs qu m
       have hE0:=y1K (u:=pu) (n:=m) sp.2.2.2.2.2
       rw[hs] at ek1 ea1 hE0
       rw[ht] at ek2 ea2
       have al:s.attrs.length<=100000000000/\t.attrs.length<=100000000000:=by rw[ea1,ea2];omega
       rw[hs,<-ea1,<-ea2,<-ek1,<-ek2] at hB
       rw[<-ek1] at sk
       rw[<-ek2] at tk
       clear hB1
       refine .bp [.r [(1,X (Xc4 [(0,258)] (z2v ps pu (by omega) (by omega)) X0)),(3,X (Xc4 [(0,282)] (z2v qs qu (by omega) (by omega)) X0)),(4,X (Xmin (szD (ps.getD 0 default)- pu) (szD (qs.getD 0 default)- qu)))],.le (.eq 15 (VI (min (szD (ps.getD 0 default)- pu) (szD (qs.getD 0 default)- qu))) (VI m) (.of_eq (by rw[hmm]))),.r [(2,X (Xc3 498 [(0,258)] (z1R ps pu m s hs (by omega) (by omega)) X0)),(5,X (Xc3 522 [(0,282)] (z1R qs qu m t ht (by omega) (by omega)) X0))],.r [(5,Xv 1 (s.kind==0) X0),(6,Xv 1 (s.kind==0) X0),(7,X (Xk (s.kind==0)))]] ((s.kind==0)&&(t.kind==0)) (fun h20=> ?_) (fun h20=> ?_)
       ·
        have fl:=z0Z botG s.attrs t.attrs
        have mk:=szD_k I13.gp lp0 (by rw[<-ek1,h20.1];decide)
        refine .back [.r [(5,X (Xc1 674 (y6r s.attrs t.attrs (by omega)) X0)),(6,X (Xc3 682 [(0,232),(1,240),(2,241)] (z23 o x y m (fm botG s.attrs t.attrs) (by omega) (by first|omega|simp) (by omega) (by first|assumption|exact kbd (by assumption))) X0))]] [(232,232),(240,240),(682,241),(258,258),(282,282)] (ih13 (0,(keepD (z0b ⟨o,x,y⟩) m (fm botG s.attrs t.attrs)),[],(tkL ps pu m),(tkN ps pu m),(tkL qs qu m),(tkN qs qu m)) ?_ ?_)
        ·
         exact hB.1.1 h20
        ·
         exact hB.2
       ·
        refine .bp [.r []] (s.kind==0) (fun h22=> ?_) (fun h22=> ?_)
        ·
         refine .back [.r [(3,X (Xn (y+m)))]] [(232,232),(240,240),(241,241),(258,258),(282,282)] (ih13 ((y+m),o,x,(tkL ps pu m),(tkN ps pu m),(tkL qs qu m),(tkN qs qu m)) ?_ ?_)
         ·
          exact hB.1.2.1 ⟨h22,(tk ()).resolve_left (h20.resolve_left (fun h=>h h22))⟩
         ·
          exact hB.2
        ·
         refine .bp [.r []] (t.kind==0) (fun h24=> ?_) (fun h24=> ?_)
         ·
          refine .at 698 [(232,232),(240,240),(241,241),(258,258),(282,282),(530,530),(538,538)] ([(12,.ptr 232 0),(13,.ptr 258 0),(14,.ptr 282 0),(16,.ptr 530 0),(17,.ptr 538 0),(114,VB (t.kind==0))],[(232,.box [.row 240 o.length,.row 241 x.length,VI y]),(240,OR 4 z0c o),(241,OR 3 elemT x),(258,.box [VL 4 z0c (tkL ps pu m),VI (tkN ps pu m)]),(282,.box [VL 4 z0c (tkL qs qu m),VI (tkN qs qu m)]),(530,.box [VI s.kind,VI s.n,VL 2 attrT s.attrs,VL 3 elemT s.elems]),(538,.box [VI t.kind,VI t.n,VL 2 attrT t.attrs,VL 3 elemT t.elems])]) ?_
          have hE1:∀x∈s.elems,x.attrs.length+t.attrs.length<1099511627776:=fun x hx=>by have:=hE0 x hx;omega
          have hE2:=y9R hE0 (c:=t.attrs) (k:=400000000000) (by omega)
          have hE4:(List.map (chgE t.attrs) s.elems).length=s.elems.length:=qg _
          have s1:=(sk ()).resolve_left h22
          have hE3:s.elems.length=m.toNat:=by rw[<-hs];exact z34 (by rw[<-ek1];exact s1) sp.1 (by omega) m2.1
          have hA:=hB.1.2.2.1 ⟨s1,h24⟩
          have hAb:=hA.di.bd
          simp only[qc,qg] at hAb
          clear h20 h22
          refine .back [.r [(4,X (Xc1 730 (z6Z s.elems t.attrs (by omega) (by assumption)) X0)),(5,X (Xc3 738 [(0,232),(1,240),(2,241)] (z2O o x y (List.map (chgE t.attrs) s.elems) (by assumption) (by omega)) X0))]] [(232,232),(240,240),(241,241),(258,258),(282,282)] (ih13 (y,o,(x++(List.map (chgE t.attrs) s.elems)),(tkL ps pu m),(tkN ps pu m),(tkL qs qu m),(tkN qs qu m)) ?_ ?_)
          ·
           exact hA
          ·
           exact hB.2
         ·
          refine .at 698 [(232,232),(240,240),(241,241),(258,258),(282,282),(530,530),(538,538)] ([(12,.ptr 232 0),(13,.ptr 258 0),(14,.ptr 282 0),(16,.ptr 530 0),(17,.ptr 538 0),(114,VB (t.kind==0))],[(232,.box [.row 240 o.length,.row 241 x.length,VI y]),(240,OR 4 z0c o),(241,OR 3 elemT x),(258,.box [VL 4 z0c (tkL ps pu m),VI (tkN ps pu m)]),(282,.box [VL 4 z0c (tkL qs qu m),VI (tkN qs qu m)]),(530,.box [VI s.kind,VI s.n,VL 2 attrT s.attrs,VL 3 elemT s.elems]),(538,.box [VI t.kind,VI t.n,VL 2 attrT t.attrs,VL 3 elemT t.elems])]) ?_
          refine .back [] [(232,232),(240,240),(241,241),(258,258),(282,282)] (ih13 (y,o,x,(tkL ps pu m),(tkN ps pu m),(tkL qs qu m),(tkN qs qu m)) ?_ ?_)
          ·
           exact hB.1.2.2.2 ⟨(sk ()).resolve_left h22,(tk ()).resolve_left h24⟩
          ·
           exact hB.2
    ·
     have hG:=JD.done I13 (by omega) (by omega)
     have hfx:z0b ⟨o,x,y⟩=joinD a b:=by rw[hG];rfl
     have hcd:z0W (z0b ⟨o,x,y⟩)=0:=by rw[hfx];exact cj
     have hfl2:=I13.di.fl.2
     have e1:((joinD a b):List DStep)=(z0b ⟨o,x,y⟩):=by
      rw[hfx]
     exact .finE [.r [(0,X (Xc3 370 [(0,232),(1,240),(2,241)] (z5y o x y (by omega) (by assumption) (by assumption)) X0))],.le (.fr 4 [(((z0b ⟨o,x,y⟩).length):Nat)=(List.map z0c (z0b ⟨o,x,y⟩)).length] ⟨lm,trivial⟩)] [] (fun z0:List DStep=>(.tup [VL 4 z0c z0,VI 0],[])) _ _ e1
theorem z5N(d:Doc)(k:Int)(hn:d.nodes.length<=1048576)(hs:SortN d.nodes):FC Tryz.prog 48 [.t (docT d),VI k] (app emp []) (VI (ixN d.nodes k)) (app emp []):=by
 refine .go Tryz.f48 ?_
 refine .bp [.r [],.r [(2,X (Xc0 (z8u d k (by assumption) (by assumption)) X0))],.r []] (hasN (d).nodes k) (fun h2=> ?_) (fun h2=> ?_)
 ·
  have e1:((ixN d.nodes k):Int)=(lobN (d).nodes k:Int):=by
   unfold ixN;rw[if_pos h2]
  exact .finE [.r []] [] (fun z0:Int=>(VI z0,[])) _ _ e1
 ·
  have e2:((ixN d.nodes k):Int)= -1:=by
   unfold ixN;rw[if_neg (by rw[h2];decide)]
  exact .finE [.r []] [] (fun z0:Int=>(VI z0,[])) _ _ e2
theorem y5K(l:List Elem):FC Tryz.prog 77 [VL 3 elemT l,VN] (app emp []) (VB ((l.length:Int)==0)) (app emp []):=by
 refine .go Tryz.f77 ?_
 refine .len 0 (fun hl0=> ?_)
 refine .bp [.r [],.r [(1,X (Xl elemT l))]] ((l.length:Int) !=0) (fun h1=> ?_) (fun h1=> ?_)
 ·
  have e1:(((l.length:Int)==0):Bool)=false:=by
   rw[beq_eq_false_iff_ne];exact h1
  exact .finE [.r []] [] (fun z0:Bool=>(VB z0,[])) _ _ e1
 ·
  refine .loop (α:=Nat) [.r [(1,X (Xl elemT l))]] 72 (fun i=>([(1,VN),(13,VL 3 elemT l),(14,VI (l.length:Int)),(15,VI (i:Int))],[])) (fun i=>i=0) (fun i=>0) (0:Nat) ?_ ?_
  ·
   rfl
  rintro i I4 ih4
  try dsimp only at I4
  refine .bp [.r []] (decide ((i:Int)< (l.length:Int))) (fun h4=> ?_) (fun h4=> ?_)
  ·
   exfalso
   omega
  ·
   have e2:(((l.length:Int)==0):Bool)=true:=by
    rw[beq_iff_eq];exact h1
   exact .finE [.r []] [] (fun z0:Bool=>(VB z0,[])) _ _ e2
theorem y9u(l:List DOp):FC Tryz.prog 79 [VL 8 dopT l,VN] (app emp []) (VB ((l.length:Int)==0)) (app emp []):=by
 refine .go Tryz.f79 ?_
 refine .len 0 (fun hl0=> ?_)
 refine .bp [.r [],.r [(1,X (Xl dopT l))]] ((l.length:Int) !=0) (fun h1=> ?_) (fun h1=> ?_)
 ·
  have e1:(((l.length:Int)==0):Bool)=false:=by
   rw[beq_eq_false_iff_ne];exact h1
  exact .finE [.r []] [] (fun z0:Bool=>(VB z0,[])) _ _ e1
 ·
  refine .loop (α:=Nat) [.r [(1,X (Xl dopT l))]] 72 (fun i=>([(0,VL 8 dopT l),(1,VN),(12,VI (l.length:Int)),(13,VI (i:Int))],[])) (fun i=>i=0) (fun i=>0) (0:Nat) ?_ ?_
  ·
   rfl
  rintro i I4 ih4
  try dsimp only at I4
  refine .bp [.r []] (decide ((i:Int)< (l.length:Int))) (fun h4=> ?_) (fun h4=> ?_)
  ·
   exfalso
   omega
  ·
   have e2:(((l.length:Int)==0):Bool)=true:=by
    rw[beq_iff_eq];exact h1
   exact .finE [.r []] [] (fun z0:Bool=>(VB z0,[])) _ _ e2
theorem y5L(n:Node):FC Tryz.prog 36 [.t (nodeT n),.t (.agg [TI 0,TI 0,TN,TN,TI 0,TI 0,TN,TN,TN])] (app emp []) (VB (z0K n)) (app emp []):=by
 refine .go Tryz.f36 ?_
 have e1:((z0K n):Bool)=((((((n.id==0)&&(n.kind==0))&&(sameL n.attrs []))&&(((n.flow).length:Int)==0))&&(zeroG n.grid))&&(((n.draw).length:Int)==0)):=by
  rfl
 exact .finE [.r [],.r [(7,Xv 1 (n.id==0) X0),(9,Xv 1 (n.id==0) X0),(10,Xv 2 (n.id==0) X0),(11,X (Xk (n.id==0))),(14,Xv 1 ((n.id==0)&&(n.kind==0)) X0),(16,Xv 1 ((n.id==0)&&(n.kind==0)) X0),(17,Xv 2 ((n.id==0)&&(n.kind==0)) (Xc0 (.nil 1 2 (z2g n.attrs [])) X0)),(18,X (Xk ((n.id==0)&&(n.kind==0)))),(21,Xv 1 (((n.id==0)&&(n.kind==0))&&(sameL n.attrs [])) X0),(23,Xv 1 (((n.id==0)&&(n.kind==0))&&(sameL n.attrs [])) X0),(24,Xv 2 (((n.id==0)&&(n.kind==0))&&(sameL n.attrs [])) (Xc0 (y5K n.flow) X0)),(25,X (Xk (((n.id==0)&&(n.kind==0))&&(sameL n.attrs [])))),(28,Xv 1 ((((n.id==0)&&(n.kind==0))&&(sameL n.attrs []))&&(((n.flow).length:Int)==0)) X0),(30,Xv 1 ((((n.id==0)&&(n.kind==0))&&(sameL n.attrs []))&&(((n.flow).length:Int)==0)) X0),(31,Xv 2 ((((n.id==0)&&(n.kind==0))&&(sameL n.attrs []))&&(((n.flow).length:Int)==0)) (Xc0 (z9W n.grid) X0)),(32,X (Xk ((((n.id==0)&&(n.kind==0))&&(sameL n.attrs []))&&(((n.flow).length:Int)==0)))),(35,Xv 1 (((((n.id==0)&&(n.kind==0))&&(sameL n.attrs []))&&(((n.flow).length:Int)==0))&&(zeroG n.grid)) X0),(37,Xv 1 (((((n.id==0)&&(n.kind==0))&&(sameL n.attrs []))&&(((n.flow).length:Int)==0))&&(zeroG n.grid)) X0),(38,Xv 2 (((((n.id==0)&&(n.kind==0))&&(sameL n.attrs []))&&(((n.flow).length:Int)==0))&&(zeroG n.grid)) (Xc0 (y9u n.draw) X0)),(39,X (Xk (((((n.id==0)&&(n.kind==0))&&(sameL n.attrs []))&&(((n.flow).length:Int)==0))&&(zeroG n.grid))))]] [] (fun z0:Bool=>(VB z0,[])) _ _ e1
theorem y5M(o:EOp)(hl:EopL o):FC Tryz.prog 131 [.t (eopT o)] (app emp []) (VB (unuO o)) (app emp []):=by
 refine .go Tryz.f131 ?_
 obtain⟨l1,l2,l3,l4,l5⟩:=hl
 have e1:((unuO o):Bool)=(((((((o.kind==0)&&(o.node !=0))|| ((o.kind !=0)&& !(z0K o.nw)))|| ((o.kind !=1)&&decide ((o.attrs.length:Int)> 0)))|| ((o.kind !=2)&&decide ((o.steps.length:Int)> 0)))|| ((o.kind !=3)&&decide ((((((o.grid.rows.length:Int)+(o.grid.cols.length:Int))+(o.grid.cells.length:Int))+(o.grid.split.length:Int))+(o.grid.merge.length:Int))> 0)))|| ((o.kind !=4)&&decide ((o.draw.length:Int)> 0))):=by
  rfl
 exact .finE [.r [],.r [],.r [(2,X (Xl stepT o.grid.rows)),(5,X (Xl stepT o.grid.cols)),(6,X (Xn ((o.grid.rows.length:Int)+(o.grid.cols.length:Int)))),(9,X (Xl cellT o.grid.cells)),(10,X (Xn (((o.grid.rows.length:Int)+(o.grid.cols.length:Int))+(o.grid.cells.length:Int)))),(13,X (Xl rectT o.grid.split)),(14,X (Xn ((((o.grid.rows.length:Int)+(o.grid.cols.length:Int))+(o.grid.cells.length:Int))+(o.grid.split.length:Int)))),(17,X (Xl rectT o.grid.merge)),(18,X (Xn (((((o.grid.rows.length:Int)+(o.grid.cols.length:Int))+(o.grid.cells.length:Int))+(o.grid.split.length:Int))+(o.grid.merge.length:Int))))],.r [(5,Xv 1 (o.kind==0) X0),(6,Xv 1 (o.kind==0) X0),(7,X (Xk (o.kind==0))),(10,Xv 1 (!((o.kind==0)&&(o.node !=0))) X0),(11,Xv 1 (!((o.kind==0)&&(o.node !=0))) X0),(12,Xv 1 (!((o.kind==0)&&(o.node !=0))) X0),(14,Xv 1 ((!((o.kind==0)&&(o.node !=0)))&&(o.kind !=0)) X0),(16,Xv 2 ((!((o.kind==0)&&(o.node !=0)))&&(o.kind !=0)) (Xc0 (y5L o.nw) X0)),(17,Xv 1 ((!((o.kind==0)&&(o.node !=0)))&&(o.kind !=0)) X0),(18,Xka (!((o.kind==0)&&(o.node !=0))) (o.kind !=0)),(19,X (Xk' ((o.kind==0)&&(o.node !=0)))),(22,Xv 1 (!(((o.kind==0)&&(o.node !=0))|| ((o.kind !=0)&& !(z0K o.nw)))) X0),(23,Xv 1 (!(((o.kind==0)&&(o.node !=0))|| ((o.kind !=0)&& !(z0K o.nw)))) X0),(24,Xv 1 (!(((o.kind==0)&&(o.node !=0))|| ((o.kind !=0)&& !(z0K o.nw)))) X0),(26,Xv 1 ((!(((o.kind==0)&&(o.node !=0))|| ((o.kind !=0)&& !(z0K o.nw))))&&(o.kind !=1)) X0),(27,Xv 1 ((!(((o.kind==0)&&(o.node !=0))|| ((o.kind !=0)&& !(z0K o.nw))))&&(o.kind !=1)) (Xl attrT o.attrs)),(28,Xv 1 ((!(((o.kind==0)&&(o.node !=0))|| ((o.kind !=0)&& !(z0K o.nw))))&&(o.kind !=1)) X0),(29,Xka (!(((o.kind==0)&&(o.node !=0))|| ((o.kind !=0)&& !(z0K o.nw)))) (o.kind !=1)),(30,X (Xk' (((o.kind==0)&&(o.node !=0))|| ((o.kind !=0)&& !(z0K o.nw))))),(33,Xv 1 (!((((o.kind==0)&&(o.node !=0))|| ((o.kind !=0)&& !(z0K o.nw)))|| ((o.kind !=1)&&decide ((o.attrs.length:Int)> 0)))) X0),(34,Xv 1 (!((((o.kind==0)&&(o.node !=0))|| ((o.kind !=0)&& !(z0K o.nw)))|| ((o.kind !=1)&&decide ((o.attrs.length:Int)> 0)))) X0),(35,Xv 1 (!((((o.kind==0)&&(o.node !=0))|| ((o.kind !=0)&& !(z0K o.nw)))|| ((o.kind !=1)&&decide ((o.attrs.length:Int)> 0)))) X0),(37,Xv 1 ((!((((o.kind==0)&&(o.node !=0))|| ((o.kind !=0)&& !(z0K o.nw)))|| ((o.kind !=1)&&decide ((o.attrs.length:Int)> 0))))&&(o.kind !=2)) X0),(38,Xv 1 ((!((((o.kind==0)&&(o.node !=0))|| ((o.kind !=0)&& !(z0K o.nw)))|| ((o.kind !=1)&&decide ((o.attrs.length:Int)> 0))))&&(o.kind !=2)) (Xl z0c o.steps)),(39,Xv 1 ((!((((o.kind==0)&&(o.node !=0))|| ((o.kind !=0)&& !(z0K o.nw)))|| ((o.kind !=1)&&decide ((o.attrs.length:Int)> 0))))&&(o.kind !=2)) X0),(40,Xka (!((((o.kind==0)&&(o.node !=0))|| ((o.kind !=0)&& !(z0K o.nw)))|| ((o.kind !=1)&&decide ((o.attrs.length:Int)> 0)))) (o.kind !=2)),(41,X (Xk' ((((o.kind==0)&&(o.node !=0))|| ((o.kind !=0)&& !(z0K o.nw)))|| ((o.kind !=1)&&decide ((o.attrs.length:Int)> 0))))),(44,Xv 1 (!(((((o.kind==0)&&(o.node !=0))|| ((o.kind !=0)&& !(z0K o.nw)))|| ((o.kind !=1)&&decide ((o.attrs.length:Int)> 0)))|| ((o.kind !=2)&&decide ((o.steps.length:Int)> 0)))) X0),(45,Xv 1 (!(((((o.kind==0)&&(o.node !=0))|| ((o.kind !=0)&& !(z0K o.nw)))|| ((o.kind !=1)&&decide ((o.attrs.length:Int)> 0)))|| ((o.kind !=2)&&decide ((o.steps.length:Int)> 0)))) X0),(46,Xv 1 (!(((((o.kind==0)&&(o.node !=0))|| ((o.kind !=0)&& !(z0K o.nw)))|| ((o.kind !=1)&&decide ((o.attrs.length:Int)> 0)))|| ((o.kind !=2)&&decide ((o.steps.length:Int)> 0)))) X0),(48,Xka (!(((((o.kind==0)&&(o.node !=0))|| ((o.kind !=0)&& !(z0K o.nw)))|| ((o.kind !=1)&&decide ((o.attrs.length:Int)> 0)))|| ((o.kind !=2)&&decide ((o.steps.length:Int)> 0)))) (o.kind !=3)),(49,X (Xk' (((((o.kind==0)&&(o.node !=0))|| ((o.kind !=0)&& !(z0K o.nw)))|| ((o.kind !=1)&&decide ((o.attrs.length:Int)> 0)))|| ((o.kind !=2)&&decide ((o.steps.length:Int)> 0))))),(52,Xv 1 (!((((((o.kind==0)&&(o.node !=0))|| ((o.kind !=0)&& !(z0K o.nw)))|| ((o.kind !=1)&&decide ((o.attrs.length:Int)> 0)))|| ((o.kind !=2)&&decide ((o.steps.length:Int)> 0)))|| ((o.kind !=3)&&decide ((((((o.grid.rows.length:Int)+(o.grid.cols.length:Int))+(o.grid.cells.length:Int))+(o.grid.split.length:Int))+(o.grid.merge.length:Int))> 0)))) X0),(53,Xv 1 (!((((((o.kind==0)&&(o.node !=0))|| ((o.kind !=0)&& !(z0K o.nw)))|| ((o.kind !=1)&&decide ((o.attrs.length:Int)> 0)))|| ((o.kind !=2)&&decide ((o.steps.length:Int)> 0)))|| ((o.kind !=3)&&decide ((((((o.grid.rows.length:Int)+(o.grid.cols.length:Int))+(o.grid.cells.length:Int))+(o.grid.split.length:Int))+(o.grid.merge.length:Int))> 0)))) X0),(54,Xv 1 (!((((((o.kind==0)&&(o.node !=0))|| ((o.kind !=0)&& !(z0K o.nw)))|| ((o.kind !=1)&&decide ((o.attrs.length:Int)> 0)))|| ((o.kind !=2)&&decide ((o.steps.length:Int)> 0)))|| ((o.kind !=3)&&decide ((((((o.grid.rows.length:Int)+(o.grid.cols.length:Int))+(o.grid.cells.length:Int))+(o.grid.split.length:Int))+(o.grid.merge.length:Int))> 0)))) X0),(56,Xv 1 ((!((((((o.kind==0)&&(o.node !=0))|| ((o.kind !=0)&& !(z0K o.nw)))|| ((o.kind !=1)&&decide ((o.attrs.length:Int)> 0)))|| ((o.kind !=2)&&decide ((o.steps.length:Int)> 0)))|| ((o.kind !=3)&&decide ((((((o.grid.rows.length:Int)+(o.grid.cols.length:Int))+(o.grid.cells.length:Int))+(o.grid.split.length:Int))+(o.grid.merge.length:Int))> 0))))&&(o.kind !=4)) X0),(57,Xv 1 ((!((((((o.kind==0)&&(o.node !=0))|| ((o.kind !=0)&& !(z0K o.nw)))|| ((o.kind !=1)&&decide ((o.attrs.length:Int)> 0)))|| ((o.kind !=2)&&decide ((o.steps.length:Int)> 0)))|| ((o.kind !=3)&&decide ((((((o.grid.rows.length:Int)+(o.grid.cols.length:Int))+(o.grid.cells.length:Int))+(o.grid.split.length:Int))+(o.grid.merge.length:Int))> 0))))&&(o.kind !=4)) (Xl dopT o.draw)),(58,Xv 1 ((!((((((o.kind==0)&&(o.node !=0))|| ((o.kind !=0)&& !(z0K o.nw)))|| ((o.kind !=1)&&decide ((o.attrs.length:Int)> 0)))|| ((o.kind !=2)&&decide ((o.steps.length:Int)> 0)))|| ((o.kind !=3)&&decide ((((((o.grid.rows.length:Int)+(o.grid.cols.length:Int))+(o.grid.cells.length:Int))+(o.grid.split.length:Int))+(o.grid.merge.length:Int))> 0))))&&(o.kind !=4)) X0),(59,Xka (!((((((o.kind==0)&&(o.node !=0))|| ((o.kind !=0)&& !(z0K o.nw)))|| ((o.kind !=1)&&decide ((o.attrs.length:Int)> 0)))|| ((o.kind !=2)&&decide ((o.steps.length:Int)> 0)))|| ((o.kind !=3)&&decide ((((((o.grid.rows.length:Int)+(o.grid.cols.length:Int))+(o.grid.cells.length:Int))+(o.grid.split.length:Int))+(o.grid.merge.length:Int))> 0)))) (o.kind !=4)),(60,X (Xk' ((((((o.kind==0)&&(o.node !=0))|| ((o.kind !=0)&& !(z0K o.nw)))|| ((o.kind !=1)&&decide ((o.attrs.length:Int)> 0)))|| ((o.kind !=2)&&decide ((o.steps.length:Int)> 0)))|| ((o.kind !=3)&&decide ((((((o.grid.rows.length:Int)+(o.grid.cols.length:Int))+(o.grid.cells.length:Int))+(o.grid.split.length:Int))+(o.grid.merge.length:Int))> 0)))))]] [] (fun z0:Bool=>(VB z0,[])) _ _ e1
theorem y3e(o:EOp)(ho:OpL o):FC Tryz.prog 68 [.t (eopT o)] (app emp []) (VI (eopE o)) (app emp []):=by
 refine .go Tryz.f68 ?_
 have k1:=ho.len
 have k2:=ho.nl
 have k3:=ho.dn
 have k4:=ho.gl
 refine .bp [.r [],.r [(5,Xv 1 (!(decide (o.kind<0))) X0),(6,Xv 1 (!(decide (o.kind<0))) X0),(7,X (Xk' (decide (o.kind<0))))]] (decide (o.kind<0)||decide (o.kind>4)) (fun h1=> ?_) (fun h1=> ?_)
 ·
  have e1:((eopE o):Int)=8:=by
   unfold eopE;((repeat' split)<;>first|rfl|omega| (simp_all;done)| (simp_all;omega))
  exact .finE [.r []] [] (fun z0:Int=>(VI z0,[])) _ _ e1
 ·
  refine .bp [.r [(1,X (Xc0 (y5M o (by assumption)) X0))]] (unuO o) (fun h3=> ?_) (fun h3=> ?_)
  ·
   have e2:((eopE o):Int)=4:=by
    unfold eopE;((repeat' split)<;>first|rfl|omega| (simp_all;done)| (simp_all;omega))
   exact .finE [.r []] [] (fun z0:Int=>(VI z0,[])) _ _ e2
  ·
   refine .bp [.r []] (o.kind==0) (fun h5=> ?_) (fun h5=> ?_)
   ·
    have e3:((eopE o):Int)=(nodeE o.nw):=by
     unfold eopE;((repeat' split)<;>first|rfl|omega| (simp_all;done)| (simp_all;omega))
    exact .finE [.r [(2,X (Xc0 (z9X o.nw (by assumption)) X0))]] [] (fun z0:Int=>(VI z0,[])) _ _ e3
   ·
    refine .bp [.r [(5,Xv 1 (!(decide (o.node<1))) X0),(6,Xv 1 (!(decide (o.node<1))) X0),(7,X (Xk' (decide (o.node<1))))]] (decide (o.node<1)||decide (o.node>1073741824)) (fun h7=> ?_) (fun h7=> ?_)
    ·
     have e4:((eopE o):Int)=2:=by
      unfold eopE;((repeat' split)<;>first|rfl|omega| (simp_all;done)| (simp_all;omega))
     exact .finE [.r []] [] (fun z0:Int=>(VI z0,[])) _ _ e4
    ·
     refine .bp [.r []] (o.kind==1) (fun h9=> ?_) (fun h9=> ?_)
     ·
      have e5:((eopE o):Int)=(chkA true o.attrs 0):=by
       unfold eopE;((repeat' split)<;>first|rfl|omega| (simp_all;done)| (simp_all;omega))
      exact .finE [.r [(2,X (Xc0 (z1B o.attrs) X0))]] [] (fun z0:Int=>(VI z0,[])) _ _ e5
     ·
      refine .bp [.r []] (o.kind==2) (fun h11=> ?_) (fun h11=> ?_)
      ·
       have e6:((eopE o):Int)=(z0W o.steps):=by
        unfold eopE;((repeat' split)<;>first|rfl|omega| (simp_all;done)| (simp_all;omega))
       exact .finE [.r [(2,X (Xc0 (z1Q o.steps (by assumption)) X0))]] [] (fun z0:Int=>(VI z0,[])) _ _ e6
      ·
       refine .bp [.r []] (o.kind==3) (fun h13=> ?_) (fun h13=> ?_)
       ·
        have e7:((eopE o):Int)=(edE o.grid):=by
         unfold eopE;((repeat' split)<;>first|rfl|omega| (simp_all;done)| (simp_all;omega))
        exact .finE [.r [(2,X (Xc0 (z5o o.grid (by assumption)) X0))]] [] (fun z0:Int=>(VI z0,[])) _ _ e7
       ·
        have e8:((eopE o):Int)=(drawE o.draw 0):=by
         unfold eopE;((repeat' split)<;>first|rfl|omega| (simp_all;done)| (simp_all;omega))
        exact .finE [.r [(2,X (Xc0 (z9S o.draw) X0))]] [] (fun z0:Int=>(VI z0,[])) _ _ e8
theorem y5N(c:List EOp)(hc:∀o∈c,OpL o):FC Tryz.prog 30 [VL 19 eopT c] (app emp []) (VI (eopsE c 0)) (app emp []):=by
 refine .go Tryz.f30 ?_
 refine .len 0 (fun hl0=> ?_)
 refine .loop (α:=Nat) [.r [],.r [(1,X (Xl eopT c))]] 32 (fun i=>([(6,VL 19 eopT c),(7,VI (c.length:Int)),(8,VI (i:Int))],[])) (fun i=>i<=c.length/\eopsE c 0=eopsE c i) (fun i=>c.length-i) (0:Nat) ?_ ?_
 ·
  exact⟨by omega,rfl⟩
 rintro i I2 ih2
 try dsimp only at I2
 refine .bp [.r []] (decide ((i:Int)< (c.length:Int))) (fun h2=> ?_) (fun h2=> ?_)
 ·
  have ho:=hc _ (z0n (l:=c) (i:=i) (by omega))
  refine .bp [.r [(0,X (Xi eopT c (i:Int)))],.r [(1,X (Xc0 (y3e ((c.getD i default)) (by assumption)) X0))],.r []] ((eopE ((c.getD i default))) !=0) (fun h5=> ?_) (fun h5=> ?_)
  ·
   have e1:((eopsE c 0):Int)=(eopE ((c.getD i default))):=by
    exact I2.2.trans (y43 (by omega) h5)
   exact .finE [.r []] [] (fun z0:Int=>(VI z0,[])) _ _ e1
  ·
   refine .back [.r [(0,X (Xn ((i:Int)+1)))]] [] (ih2 ((i+1):Nat) ?_ ?_)
   ·
    exact⟨by omega,I2.2.trans (y26 (by omega) h5)⟩
   ·
    ((try dsimp only);omega)
 ·
  have e2:((eopsE c 0):Int)=0:=by
   exact I2.2.trans (y44 (by omega))
  exact .finE [.r []] [] (fun z0:Int=>(VI z0,[])) _ _ e2
theorem y7o(a b:List DStep)(va:z0D a)(vb:z0D b)(da:DN 100000000000 a)(db:DN 100000000000 b)(hm:oldD a=oldD b)(hs:newD a+newD b<=2147483647):FC Tryz.prog 63 [VL 4 z0c a,VL 4 z0c b] (app emp []) (.tup [VL 4 z0c (z00 a b),VL 4 z0c (z5j a b),VI 0]) (app emp []):=by
 refine .go Tryz.f63 ?_
 refine .len 0 (fun hl0=> ?_)
 refine .len 1 (fun hl1=> ?_)
 have ca:=z0S.2 va
 have cb:=z0S.2 vb
 have da4:=da.mono (n:=400000000000) (by decide)
 have db4:=db.mono (n:=400000000000) (by decide)
 obtain⟨_,_,st,v1,v2,_⟩:=z64 va vb da db hm hs
 have c1:=z0S.2 v1
 have c2:=z0S.2 v2
 refine .bp [.r [],.r [(1,X (Xc0 (z1Q a (by assumption)) X0))],.r []] ((z0W a) !=0) (fun h2=> ?_) (fun h2=> ?_)
 ·
  exfalso
  omega
 ·
  refine .bp [.r [(1,X (Xc0 (z1Q b (by assumption)) X0))],.r []] ((z0W b) !=0) (fun h5=> ?_) (fun h5=> ?_)
  ·
   exfalso
   omega
  ·
   refine .bp [.r [(1,X (Xc0 (z4x a (by assumption)) X0))],.r [(1,X (Xc0 (z4x b (by assumption)) X0))],.r []] ((oldD a) !=(oldD b)) (fun h9=> ?_) (fun h9=> ?_)
   ·
    exfalso
    omega
   ·
    refine .loop (α:=Int×Int×(List DStep)×(List Elem)×(List DStep)×(List Elem)×(List DStep)×Int×(List DStep)×Int) [.r [],.le (.nB 240 0 4),.le (.nB 240 1 3),.le (.nB 248 0 4),.le (.nB 248 1 3),.r []] 324 (fun(y1,y2,o1,x1,o2,x2,ps,pu,qs,qu)=>([(13,.ptr 240 0),(14,.ptr 248 0),(15,.ptr 276 0),(16,.ptr 300 0)],[(240,.box [.row 256 o1.length,.row 257 x1.length,VI y1]),(248,.box [.row 258 o2.length,.row 259 x2.length,VI y2]),(256,OR 4 z0c o1),(257,OR 3 elemT x1),(258,OR 4 z0c o2),(259,OR 3 elemT x2),(276,.box [VL 4 z0c ps,VI pu]),(300,.box [VL 4 z0c qs,VI qu])])) (fun(y1,y2,o1,x1,o2,x2,ps,pu,qs,qu)=>PD ⟨o1,x1,y1⟩ ⟨o2,x2,y2⟩ ps pu qs qu (z0a (exD a) (exD b)).1.length (z0a (exD a) (exD b)).2.length (foldD ⟨[],[],0⟩ (z0a (exD a) (exD b)).1) (foldD ⟨[],[],0⟩ (z0a (exD a) (exD b)).2)) (fun(y1,y2,o1,x1,o2,x2,ps,pu,qs,qu)=>jmD ps pu qs qu) (0,0,[],[],[],[],a,0,b,0) ?_ ?_
    ·
     exact st
    rintro⟨y1,y2,o1,x1,o2,x2,ps,pu,qs,qu⟩ I13 ih13
    try dsimp only at I13
    have kp:=z24 I13.gp
    have kq:=z24 I13.gq
    have bx:=I13.dx.bd
    have by2:=I13.dy.bd
    simp only at bx by2
    have fx:=I13.dx.fl.1
    have fy:=I13.dy.fl.1
    refine .bp [.r [(1,X (Xc4 [(0,276)] (z2u ps pu) X0)),(5,Xv 1 (!(decide ((kindD ps)>=0))) (Xc4 [(0,300)] (z2u qs qu) X0)),(6,Xv 1 (!(decide ((kindD ps)>=0))) X0),(7,X (Xk' (decide ((kindD ps)>=0))))]] (decide ((kindD ps)>=0)||decide ((kindD qs)>=0)) (fun h13=> ?_) (fun h13=> ?_)
    ·
     refine .bp [.r [(1,X (Xc4 [(0,276)] (z2u ps pu) X0))]] ((kindD ps)==1) (fun h14=> ?_) (fun h14=> ?_)
     ·
      have lp0:0<ps.length:=by omega
      have k1:(ps.getD 0 default).kind=1:=by omega
      clear kp kq h13 h14
      have sp:=z5i I13.gp I13.dp lp0
      obtain⟨s,hs⟩:∃z,tkE ps pu (szD (ps.getD 0 default)- pu)=z:=⟨_,rfl⟩
      have hA:=PD.addP I13 lp0 k1 rfl
      have hAn:=an_up (y1K (u:=pu) (n:=szD (ps.getD 0 default)- pu) sp.2.2.2.2.2) (k:=400000000000) (by decide)
      rw[hs] at hA hAn
      have hAb:=hA.1.dx.bd
      simp only[qc] at hAb
      have hA2:=hA.2.2
      refine .back [.r [(2,X (Xc4 [(0,276)] (z2v ps pu (by omega) (by omega)) X0)),(3,X (Xc3 444 [(0,276)] (z1R ps pu (szD (ps.getD 0 default)- pu) s hs (by omega) (by omega)) X0))],.r [(2,X (Xc3 484 [(0,240),(1,256),(2,257)] (z2O o1 x1 y1 s.elems (by assumption) (by omega)) X0))],.r [(2,X (Xl elemT s.elems)),(3,X (Xc3 516 [(0,248),(1,258),(2,259)] (.nil 2 2 (z23 o2 x2 y2 (s.elems.length:Int) [] (by omega) (by first|omega|simp) (by omega) (by first|assumption|exact kbd (by assumption)))) X0))]] [(240,240),(248,248),(256,256),(257,257),(258,258),(516,259),(276,276),(300,300)] (ih13 (y1,0,o1,(x1++s.elems),(keepD (z0b ⟨o2,x2,y2⟩) (s.elems.length:Int) []),[],(tkL ps pu (szD (ps.getD 0 default)- pu)),(tkN ps pu (szD (ps.getD 0 default)- pu)),qs,qu) ?_ ?_)
      ·
       exact hA.1
      ·
       exact hA.2.1
     ·
      refine .bp [.r [(1,X (Xc4 [(0,300)] (z2u qs qu) X0))]] ((kindD qs)==1) (fun h18=> ?_) (fun h18=> ?_)
      ·
       have lq0:0<qs.length:=by omega
       have k2:(qs.getD 0 default).kind=1:=by omega
       have k1:0<ps.length->(ps.getD 0 default).kind≠1:=fun h=>by omega
       clear kp kq h13 h14 h18
       have sq:=z5i I13.gq I13.dq lq0
       obtain⟨s,hs⟩:∃z,tkE qs qu (szD (qs.getD 0 default)- qu)=z:=⟨_,rfl⟩
       have hA:=PD.addQ I13 k1 lq0 k2 rfl
       have hAn:=an_up (y1K (u:=qu) (n:=szD (qs.getD 0 default)- qu) sq.2.2.2.2.2) (k:=400000000000) (by decide)
       rw[hs] at hA hAn
       have hAb:=hA.1.dy.bd
       simp only[qc] at hAb
       have hA2:=hA.2.2
       clear k1
       refine .back [.r [(2,X (Xc4 [(0,300)] (z2v qs qu (by omega) (by omega)) X0)),(3,X (Xc3 476 [(0,300)] (z1R qs qu (szD (qs.getD 0 default)- qu) s hs (by omega) (by omega)) X0))],.r [(2,X (Xl elemT s.elems)),(3,X (Xc3 524 [(0,240),(1,256),(2,257)] (.nil 2 2 (z23 o1 x1 y1 (s.elems.length:Int) [] (by omega) (by first|omega|simp) (by omega) (by first|assumption|exact kbd (by assumption)))) X0))],.r [(2,X (Xc3 548 [(0,248),(1,258),(2,259)] (z2O o2 x2 y2 s.elems (by assumption) (by omega)) X0))]] [(240,240),(248,248),(256,256),(524,257),(258,258),(259,259),(276,276),(300,300)] (ih13 (0,y2,(keepD (z0b ⟨o1,x1,y1⟩) (s.elems.length:Int) []),[],o2,(x2++s.elems),ps,pu,(tkL qs qu (szD (qs.getD 0 default)- qu)),(tkN qs qu (szD (qs.getD 0 default)- qu))) ?_ ?_)
       ·
        exact hA.1
       ·
        exact hA.2.1
      ·
       obtain⟨lp0,lq0⟩:=PD.two I13 (by omega) (fun h=>by omega) (fun h=>by omega)
       have k1:(ps.getD 0 default).kind≠1:=by omega
       have k3:(qs.getD 0 default).kind≠1:=by omega
       have sk:=fun _:Unit=>k02 I13.gp lp0 k1
       have tk:=fun _:Unit=>k02 I13.gq lq0 k3
       have hB1:=fun n=>PD.both (n:=n) I13 lp0 lq0 k1 k3
       have mk1:=szD_k I13.gp lp0 k1
       clear kp kq h13 h14 h18 k1 k3
       have sp:=z5i I13.gp I13.dp lp0
       have sq:=z5i I13.gq I13.dq lq0
       obtain⟨m,hmm⟩:∃z,min (szD (ps.getD 0 default)- pu) (szD (qs.getD 0 default)- qu)=z:=⟨_,rfl⟩
       have hB:=hB1 m hmm.symm
       have m1:1<=m/\m<=szD (ps.getD 0 default)- pu/\m<=szD (qs.getD 0 default)- qu/\m<=100000000000:=by omega
       have m2:pu+m<=szD (ps.getD 0 default)/\qu+m<=szD (qs.getD 0 default):=by omega
       obtain⟨s,hs⟩:∃z,tkE ps pu m=z:=⟨_,rfl⟩
       obtain⟨t,ht⟩:∃z,tkE qs qu m=z:=⟨_,rfl⟩
       have ek1:=z5z ps pu m
       have ek2:=z5z qs qu m
       have ea1:=z4B ps pu m
       have ea2:=z4B qs qu m
       rw[hs] at ek1 ea1
       rw[ht] at ek2 ea2
       have al:s.attrs.length<=100000000000/\t.attrs.length<=100000000000:=by rw[ea1,ea2];omega
       rw[<-ea1,<-ea2,<-ek1,<-ek2] at hB
       rw[<-ek1] at sk
       rw[<-ek2] at tk
       clear hB1
       refine .bp [.r [(1,X (Xc4 [(0,276)] (z2v ps pu (by omega) (by omega)) X0)),(3,X (Xc4 [(0,300)] (z2v qs qu (by omega) (by omega)) X0)),(4,X (Xmin (szD (ps.getD 0 default)- pu) (szD (qs.getD 0 default)- qu)))],.le (.eq 19 (VI (min (szD (ps.getD 0 default)- pu) (szD (qs.getD 0 default)- qu))) (VI m) (.of_eq (by rw[hmm]))),.r [(2,X (Xc3 516 [(0,276)] (z1R ps pu m s hs (by omega) (by omega)) X0)),(5,X (Xc3 540 [(0,300)] (z1R qs qu m t ht (by omega) (by omega)) X0))],.r [(5,Xv 1 (s.kind==0) X0),(6,Xv 1 (s.kind==0) X0),(7,X (Xk (s.kind==0)))]] ((s.kind==0)&&(t.kind==0)) (fun h24=> ?_) (fun h24=> ?_)
       ·
        have fl:=z0Z wioG s.attrs t.attrs
        refine .back [.r [(5,X (Xc1 692 (y2R s.attrs t.attrs (by omega)) X0)),(6,X (Xc3 700 [(0,240),(1,256),(2,257)] (z23 o1 x1 y1 m (fm wioG s.attrs t.attrs) (by omega) (by first|omega|simp) (by omega) (by first|assumption|exact kbd (by assumption))) X0))],.r [(3,X (Xc3 732 [(0,248),(1,258),(2,259)] (z23 o2 x2 y2 m t.attrs (by omega) (by first|omega|simp) (by omega) (by first|assumption|exact kbd (by assumption))) X0))]] [(240,240),(248,248),(256,256),(700,257),(258,258),(732,259),(276,276),(300,300)] (ih13 (0,0,(keepD (z0b ⟨o1,x1,y1⟩) m (fm wioG s.attrs t.attrs)),[],(keepD (z0b ⟨o2,x2,y2⟩) m t.attrs),[],(tkL ps pu m),(tkN ps pu m),(tkL qs qu m),(tkN qs qu m)) ?_ ?_)
        ·
         exact hB.1.1 h24
        ·
         exact hB.2
       ·
        refine .bp [.r []] (s.kind==0) (fun h27=> ?_) (fun h27=> ?_)
        ·
         refine .back [.r [(3,X (Xn (y2+m)))]] [(240,240),(248,248),(256,256),(257,257),(258,258),(259,259),(276,276),(300,300)] (ih13 (y1,(y2+m),o1,x1,o2,x2,(tkL ps pu m),(tkN ps pu m),(tkL qs qu m),(tkN qs qu m)) ?_ ?_)
         ·
          exact hB.1.2.1 ⟨h27,(tk ()).resolve_left (h24.resolve_left (fun h=>h h27))⟩
         ·
          exact hB.2
        ·
         refine .bp [.r []] (t.kind==0) (fun h29=> ?_) (fun h29=> ?_)
         ·
          refine .at 716 [(240,240),(248,248),(256,256),(257,257),(258,258),(259,259),(276,276),(300,300)] ([(13,.ptr 240 0),(14,.ptr 248 0),(15,.ptr 276 0),(16,.ptr 300 0),(19,VI m),(133,VB (t.kind==0))],[(240,.box [.row 256 o1.length,.row 257 x1.length,VI y1]),(248,.box [.row 258 o2.length,.row 259 x2.length,VI y2]),(256,OR 4 z0c o1),(257,OR 3 elemT x1),(258,OR 4 z0c o2),(259,OR 3 elemT x2),(276,.box [VL 4 z0c (tkL ps pu m),VI (tkN ps pu m)]),(300,.box [VL 4 z0c (tkL qs qu m),VI (tkN qs qu m)])]) ?_
          refine .back [.r [(3,X (Xn (y1+m)))]] [(240,240),(248,248),(256,256),(257,257),(258,258),(259,259),(276,276),(300,300)] (ih13 ((y1+m),y2,o1,x1,o2,x2,(tkL ps pu m),(tkN ps pu m),(tkL qs qu m),(tkN qs qu m)) ?_ ?_)
          ·
           exact hB.1.2.2.1 ⟨(sk ()).resolve_left h27,h29⟩
          ·
           exact hB.2
         ·
          refine .at 716 [(240,240),(248,248),(256,256),(257,257),(258,258),(259,259),(276,276),(300,300)] ([(13,.ptr 240 0),(14,.ptr 248 0),(15,.ptr 276 0),(16,.ptr 300 0),(19,VI m),(133,VB (t.kind==0))],[(240,.box [.row 256 o1.length,.row 257 x1.length,VI y1]),(248,.box [.row 258 o2.length,.row 259 x2.length,VI y2]),(256,OR 4 z0c o1),(257,OR 3 elemT x1),(258,OR 4 z0c o2),(259,OR 3 elemT x2),(276,.box [VL 4 z0c (tkL ps pu m),VI (tkN ps pu m)]),(300,.box [VL 4 z0c (tkL qs qu m),VI (tkN qs qu m)])]) ?_
          refine .back [] [(240,240),(248,248),(256,256),(257,257),(258,258),(259,259),(276,276),(300,300)] (ih13 (y1,y2,o1,x1,o2,x2,(tkL ps pu m),(tkN ps pu m),(tkL qs qu m),(tkN qs qu m)) ?_ ?_)
          ·
           exact hB.1.2.2.2 ⟨(sk ()).resolve_left h27,(tk ()).resolve_left h29⟩
          ·
           exact hB.2
    ·
     obtain⟨hG1,hG2⟩:=PD.done I13 (by omega) (by omega)
     have hfx:z0b ⟨o1,x1,y1⟩=z00 a b:=by rw[hG1];rfl
     have hfy:z0b ⟨o2,x2,y2⟩=z5j a b:=by rw[hG2];rfl
     have hcx:z0W (z0b ⟨o1,x1,y1⟩)=0:=by rw[hfx];exact c1
     have hcy:z0W (z0b ⟨o2,x2,y2⟩)=0:=by rw[hfy];exact c2
     have hdx:=I13.dx.fl.2
     have hdy:=I13.dy.fl.2
     refine .bp [.r [(0,X (Xc3 388 [(0,240),(1,256),(2,257)] (z5y o1 x1 y1 (by omega) (by assumption) (by assumption)) X0))],.r [(0,X (Xc3 436 [(0,248),(1,258),(2,259)] (z5y o2 x2 y2 (by omega) (by assumption) (by assumption)) X0))],.r [(4,Xv 1 (!false) X0),(5,X (Xk' false))]] (false||false) (fun h33=> ?_) (fun h33=> ?_)
     ·
      exfalso
      simp at h33
     ·
      have e1:((z00 a b):List DStep)=(z0b ⟨o1,x1,y1⟩):=by
       first|rw[hfx]|rw[hfy]
      have e2:((z5j a b):List DStep)=(z0b ⟨o2,x2,y2⟩):=by
       first|rw[hfx]|rw[hfy]
      exact .finE [.r [],.le (.fr 4 [(((z0b ⟨o1,x1,y1⟩).length):Nat)=(List.map z0c (z0b ⟨o1,x1,y1⟩)).length] ⟨lm,trivial⟩),.le (.fr 5 [(((z0b ⟨o2,x2,y2⟩).length):Nat)=(List.map z0c (z0b ⟨o2,x2,y2⟩)).length] ⟨lm,trivial⟩)] [] (fun((z0,z1):(List DStep)×(List DStep))=>(.tup [VL 4 z0c z0,VL 4 z0c z1,VI 0],[])) _ _ (pr e1 e2)
theorem y5O(x:Elem)(mode:Int):FC Tryz.prog 106 [.t (elemT x),VI mode] (app emp []) (VB (hidX x mode)) (app emp []):=by
 refine .go Tryz.f106 ?_
 have e1:((hidX x mode):Bool)=((seq (getA x.attrs ({data:=#[104,105,100,100,101,110]}) 0) ({data:=#[111,110]})|| ((mode==0)&& !(seq (getA x.attrs ({data:=#[99,117,116]}) 0) ({data:=#[]}))))|| ((mode==1)&& !(seq (getA x.attrs ({data:=#[97,100,100]}) 0) ({data:=#[]})))):=by
  rfl
 exact .finE [.r [],.r [(2,X (Xc0 (z5g x.attrs ({data:=#[104,105,100,100,101,110]})) X0)),(6,Xv 1 (!(seq (getA x.attrs ({data:=#[104,105,100,100,101,110]}) 0) ({data:=#[111,110]}))) X0),(7,Xv 1 (!(seq (getA x.attrs ({data:=#[104,105,100,100,101,110]}) 0) ({data:=#[111,110]}))) X0),(9,Xv 1 ((!(seq (getA x.attrs ({data:=#[104,105,100,100,101,110]}) 0) ({data:=#[111,110]})))&&(mode==0)) X0),(10,Xv 1 ((!(seq (getA x.attrs ({data:=#[104,105,100,100,101,110]}) 0) ({data:=#[111,110]})))&&(mode==0)) (Xc0 (z5g x.attrs ({data:=#[99,117,116]})) X0)),(11,Xv 1 ((!(seq (getA x.attrs ({data:=#[104,105,100,100,101,110]}) 0) ({data:=#[111,110]})))&&(mode==0)) X0),(12,Xka (!(seq (getA x.attrs ({data:=#[104,105,100,100,101,110]}) 0) ({data:=#[111,110]}))) (mode==0)),(13,X (Xk' (seq (getA x.attrs ({data:=#[104,105,100,100,101,110]}) 0) ({data:=#[111,110]})))),(16,Xv 1 (!(seq (getA x.attrs ({data:=#[104,105,100,100,101,110]}) 0) ({data:=#[111,110]})|| ((mode==0)&& !(seq (getA x.attrs ({data:=#[99,117,116]}) 0) ({data:=#[]}))))) X0),(17,Xv 1 (!(seq (getA x.attrs ({data:=#[104,105,100,100,101,110]}) 0) ({data:=#[111,110]})|| ((mode==0)&& !(seq (getA x.attrs ({data:=#[99,117,116]}) 0) ({data:=#[]}))))) X0),(19,Xv 1 ((!(seq (getA x.attrs ({data:=#[104,105,100,100,101,110]}) 0) ({data:=#[111,110]})|| ((mode==0)&& !(seq (getA x.attrs ({data:=#[99,117,116]}) 0) ({data:=#[]})))))&&(mode==1)) X0),(20,Xv 1 ((!(seq (getA x.attrs ({data:=#[104,105,100,100,101,110]}) 0) ({data:=#[111,110]})|| ((mode==0)&& !(seq (getA x.attrs ({data:=#[99,117,116]}) 0) ({data:=#[]})))))&&(mode==1)) (Xc0 (z5g x.attrs ({data:=#[97,100,100]})) X0)),(21,Xv 1 ((!(seq (getA x.attrs ({data:=#[104,105,100,100,101,110]}) 0) ({data:=#[111,110]})|| ((mode==0)&& !(seq (getA x.attrs ({data:=#[99,117,116]}) 0) ({data:=#[]})))))&&(mode==1)) X0),(22,Xka (!(seq (getA x.attrs ({data:=#[104,105,100,100,101,110]}) 0) ({data:=#[111,110]})|| ((mode==0)&& !(seq (getA x.attrs ({data:=#[99,117,116]}) 0) ({data:=#[]}))))) (mode==1)),(23,X (Xk' (seq (getA x.attrs ({data:=#[104,105,100,100,101,110]}) 0) ({data:=#[111,110]})|| ((mode==0)&& !(seq (getA x.attrs ({data:=#[99,117,116]}) 0) ({data:=#[]}))))))]] [] (fun z0:Bool=>(VB z0,[])) _ _ e1
theorem y5P(f:List Elem)(mode:Int)(hn:f.length<=100000000000):FC Tryz.prog 50 [VL 3 elemT f,VI mode] (app emp []) (VL 1 intT (plcL f mode f.length)) (app emp []):=by
 refine .go Tryz.f50 ?_
 refine .len 0 (fun hl0=> ?_)
 refine .loop (α:=Nat×(List Int)) [.r [],.r [],.r [(1,X (Xl elemT f))],.le (.nR 5 1)] 41 (fun(i,o)=>([(0,VL 3 elemT f),(1,VI mode),(5,.row 40 o.length),(8,VL 3 elemT f),(9,VI (f.length:Int)),(10,VI (i:Int))],[(40,OR 1 intT o)])) (fun(i,o)=>i<=f.length/\o=plcL f mode i) (fun(i,o)=>f.length-i) (0,[]) ?_ ?_
 ·
  exact⟨by omega,rfl⟩
 rintro⟨i,o⟩ I3 ih3
 try dsimp only at I3
 have ol:o.length<=i:=by rw[I3.2];exact y2e f mode i
 refine .bp [.r []] (decide ((i:Int)< (f.length:Int))) (fun h3=> ?_) (fun h3=> ?_)
 ·
  refine .bp [.r [(1,X (Xi elemT f (i:Int)))],.r [(2,X (Xc0 (y5O ((f.getD i default)) mode) X0)),(7,Xv 1 (!(!(hidX ((f.getD i default)) mode))) (Xl elemT f)),(8,Xv 1 (!(!(hidX ((f.getD i default)) mode))) (Xn ((f.length:Int)- 1))),(9,Xv 2 (!(!(hidX ((f.getD i default)) mode))) X0),(10,Xv 1 (!(!(hidX ((f.getD i default)) mode))) X0),(12,Xv 1 ((!(!(hidX ((f.getD i default)) mode)))&&((i:Int)==((f.length:Int)- 1))) X0),(13,Xv 1 ((!(!(hidX ((f.getD i default)) mode)))&&((i:Int)==((f.length:Int)- 1))) X0),(14,Xka (!(!(hidX ((f.getD i default)) mode))) ((i:Int)==((f.length:Int)- 1))),(15,X (Xk' (!(hidX ((f.getD i default)) mode))))]] (!(hidX ((f.getD i default)) mode)|| (((i:Int)==((f.length:Int)- 1))&&((((f.getD i default)).char)==10))) (fun h5=> ?_) (fun h5=> ?_)
  ·
   refine .back [.r [(3,X (rowC intT [(i:Int)] (Xap 1 intT 40 o [(i:Int)])))],.r [(0,X (Xn ((i:Int)+1)))]] [(40,40)] (ih3 ((i+1),(o++[(i:Int)])) ?_ ?_)
   ·
    refine⟨by omega,?_⟩
    rw[I3.2,z9A]
    first|rw[if_pos (z8g h5)]|rw[if_neg (by rw[y74 h5];decide),qQ]
   ·
    ((try dsimp only);omega)
  ·
   refine .back [.r [(0,X (Xn ((i:Int)+1)))]] [(40,40)] (ih3 ((i+1),o) ?_ ?_)
   ·
    refine⟨by omega,?_⟩
    rw[I3.2,z9A]
    first|rw[if_pos (z8g h5)]|rw[if_neg (by rw[y74 h5];decide),qQ]
   ·
    ((try dsimp only);omega)
 ·
  have e1:((plcL f mode f.length):List Int)=o:=by
   rw[I3.2,show i=f.length by omega]
  exact .finE [.r [],.le (.fr 4 [(o.length:Nat)=(List.map intT o).length] ⟨lm,trivial⟩)] [] (fun z0:List Int=>(VL 1 intT z0,[])) _ _ e1
theorem y9v(pl:List Int)(k:Int)(hk:0<=k/\k<=pl.length)(hp:∀x∈pl,0<=x/\x<=1000000000):FC Tryz.prog 61 [VL 1 intT pl,VI k] (app emp []) (VI (gapP pl k)) (app emp []):=by
 refine .go Tryz.f61 ?_
 refine .len 0 (fun hl0=> ?_)
 refine .bp [.r [],.r []] (k==0) (fun h1=> ?_) (fun h1=> ?_)
 ·
  have e1:((gapP pl k):Int)=0:=by
   unfold gapP;rw[if_pos (by omega)]
  exact .finE [.r []] [] (fun z0:Int=>(VI z0,[])) _ _ e1
 ·
  have hx:=hp _ (z0n (l:=pl) (i:=(k- 1).toNat) (by omega))
  have e2:((gapP pl k):Int)=((pl.getD (Int.toNat (k- 1)) default)+1):=by
   unfold gapP;rw[if_neg (by omega)]
  exact .finE [.r [(2,X (Xn (k- 1))),(3,X (Xi intT pl (k- 1))),(5,X (Xn ((pl.getD (Int.toNat (k- 1)) default)+1)))]] [] (fun z0:Int=>(VI z0,[])) _ _ e2
theorem y5Q(f:List Elem)(pl:List Int)(au:ByteArray)(hf:f.length<=10000000)(hp:∀x∈pl,0<=x/\x< (f.length:Int)):FC Tryz.prog 60 [VL 3 elemT f,VL 1 intT pl,VS au] (app emp []) (VL 4 z0c (ersD f pl au)) (app emp []):=by
 refine .go Tryz.f60 ?_
 refine .len 0 (fun hl0=> ?_)
 refine .len 1 (fun hl1=> ?_)
 obtain⟨dn,el⟩:=y8N f pl au f.length
 have sl:=y2f f pl au f.length
 refine .loop (α:=Nat×(List Bool)) [.r [],.r [(1,X (Xl elemT f)),(2,X (Xmk 1 boolT 24 (f.length:Int) (f.length:Int) false))],.r [(1,X (Xl intT pl))]] 64 (fun(k,m)=>([(0,VL 3 elemT f),(2,VS au),(7,.row 24 f.length),(19,VL 1 intT pl),(20,VI (pl.length:Int)),(21,VI (k:Int))],[(24,OR 1 boolT m)])) (fun(k,m)=>k<=pl.length/\m=markB (pl.take k) f.length) (fun(k,m)=>pl.length-k) (0,(List.replicate f.length false)) ?_ ?_
 ·
  exact⟨by omega,by rw[List.take_zero,y5a]⟩
 rintro⟨k,m⟩ I3 ih3
 try dsimp only at I3
 have ol:m.length=f.length:=by rw[I3.2,y49]
 refine .bp [.r []] (decide ((k:Int)< (pl.length:Int))) (fun h3=> ?_) (fun h3=> ?_)
 ·
  have hpk:=hp _ (z0n (l:=pl) (i:=k) (by omega))
  refine .back [.r [(0,X (Xi intT pl (k:Int)))],.r [(2,X (Xpn f.length boolT m (pl.getD k default))),(3,X (Xsn f.length 1 boolT 24 m (Int.toNat (pl.getD k default)) true))],.r [(0,X (Xn ((k:Int)+1)))]] [(24,24)] (ih3 ((k+1),(m.set (Int.toNat (pl.getD k default)) true)) ?_ ?_)
  ·
   exact⟨by omega,by rw[I3.2];exact y27 (by omega) hpk⟩
  ·
   ((try dsimp only);omega)
 ·
  have hm:m=markB pl f.length:=by rw[I3.2,qw (by omega)]
  refine .loop (α:=Nat×(List DStep)) [.r [],.r [(1,X (Xl elemT f))],.le (.nR 10 4)] 105 (fun(i,o)=>([(2,VS au),(7,.row 24 f.length),(10,.row 104 o.length),(29,VL 3 elemT f),(30,VI (f.length:Int)),(31,VI (i:Int))],[(24,OR 1 boolT m),(104,OR 4 z0c o)])) (fun(i,o)=>i<=f.length/\o=ersS f pl au i) (fun(i,o)=>f.length-i) (0,[]) ?_ ?_
  ·
   exact⟨by omega,rfl⟩
  rintro⟨i,o⟩ I9 ih9
  try dsimp only at I9
  have ol2:o.length=i:=by rw[I9.2];exact y2f f pl au i
  refine .bp [.r []] (decide ((i:Int)< (f.length:Int))) (fun h9=> ?_) (fun h9=> ?_)
  ·
   have hmi:m.getD i default=pl.any (fun p=>p==(i:Int)):=by rw[hm];exact y60 (by omega)
   refine .bp [.r [(1,X (Xi elemT f (i:Int)))],.r [(0,X (Xf [(2,2),(3,3)]))],.r [(2,X (Xpn f.length boolT m (i:Int))),(3,X (Xen f.length boolT m i))]] (!(m.getD i default)) (fun h13=> ?_) (fun h13=> ?_)
   ·
    refine .back [.r [(3,X (rowC z0c [({kind:=0,n:=1,attrs:=[],elems:=[]}:DStep)] (Xap 4 z0c 104 o [({kind:=0,n:=1,attrs:=[],elems:=[]}:DStep)])))],.r [(0,X (Xn ((i:Int)+1)))]] [(24,24),(104,104)] (ih9 ((i+1),(o++[({kind:=0,n:=1,attrs:=[],elems:=[]}:DStep)])) ?_ ?_)
    ·
     refine⟨by omega,?_⟩
     rw[I9.2,z6x,ers_0 (hmi.symm.trans h13)]
    ·
     ((try dsimp only);omega)
   ·
    refine .bp [.r [(4,Xv 1 (!(seq au ({data:=#[]}))) X0),(5,Xv 1 (!(seq au ({data:=#[]}))) (Xc0 (z5g (((f.getD i default)).attrs) ({data:=#[97,100,100]})) X0)),(7,Xv 2 (!(seq au ({data:=#[]}))) X0),(8,X (Xk' (seq au ({data:=#[]}))))]] (seq au ({data:=#[]})||seq (getA (((f.getD i default)).attrs) ({data:=#[97,100,100]}) 0) au) (fun h14=> ?_) (fun h14=> ?_)
    ·
     refine .back [.r [],.r [(3,X (rowC z0c [({kind:=2,n:=1,attrs:=[],elems:=[]}:DStep)] (Xap 4 z0c 104 o [({kind:=2,n:=1,attrs:=[],elems:=[]}:DStep)])))],.r [(0,X (Xn ((i:Int)+1)))]] [(24,24),(104,104)] (ih9 ((i+1),(o++[({kind:=2,n:=1,attrs:=[],elems:=[]}:DStep)])) ?_ ?_)
     ·
      refine⟨by omega,?_⟩
      rw[I9.2,z6x,ers_c (hmi.symm.trans h13) h14]
     ·
      ((try dsimp only);omega)
    ·
     refine .back [.r [],.r [(2,X (rowC attrT [({name:={data:=#[99,117,116]},val:=au}:Attr)] X0)),(3,X (rowC z0c [({kind:=0,n:=1,attrs:=[({name:={data:=#[99,117,116]},val:=au}:Attr)],elems:=[]}:DStep)] (Xap 4 z0c 104 o [({kind:=0,n:=1,attrs:=[({name:={data:=#[99,117,116]},val:=au}:Attr)],elems:=[]}:DStep)])))],.r [(0,X (Xn ((i:Int)+1)))]] [(24,24),(104,104)] (ih9 ((i+1),(o++[({kind:=0,n:=1,attrs:=[({name:={data:=#[99,117,116]},val:=au}:Attr)],elems:=[]}:DStep)])) ?_ ?_)
     ·
      refine⟨by omega,?_⟩
      rw[I9.2,z6x,ers_k (hmi.symm.trans h13) h14]
     ·
      ((try dsimp only);omega)
  ·
   have ho:o=ersS f pl au f.length:=by rw[I9.2,show i=f.length by omega]
   rw[<-ho] at dn el sl
   have e1:((ersD f pl au):List DStep)=(tidyL o):=by
    rw[ho];rfl
   exact .finE [.r [(1,X (Xc1 121 (z5F o (by assumption) (by omega) (by omega)) (rowC z0c o X0)))],.r []] [] (fun z0:List DStep=>(VL 4 z0c z0,[])) _ _ e1
theorem y7p(l:List Elem)(hn:l.length<=1048576)(hs:∀x∈l,x.attrs.length<=1048576):FC Tryz.prog 82 [VL 3 elemT l] (app emp []) (.row 0 l.length) (app emp [(0,OR 3 elemT l)]):=by
 refine .go Tryz.f82 ?_
 refine .len 0 (fun hl0=> ?_)
 refine .loop (α:=Nat×(List Elem)) [.r [],.r [(1,X (Xl elemT l)),(2,X (Xmz 3 elemT 24 (l.length:Int) (l.length:Int) ({char:=0,ref:=0,attrs:=[]}:Elem) [TI 0,TI 0,TN] ⟨.inl rfl,⟨.inl rfl,⟨z3b (by decide),trivial⟩⟩⟩))],.r [(1,X (Xl elemT l))]] 64 (fun(i,o)=>([(3,.row 24 l.length),(9,VL 3 elemT l),(10,VI (l.length:Int)),(11,VI (i:Int))],[(24,OR 3 elemT o)])) (fun(i,o)=>i<=l.length/\o=l.take i++List.replicate (l.length-i) ({char:=0,ref:=0,attrs:=[]}:Elem)) (fun(i,o)=>l.length-i) (0,(List.replicate l.length ({char:=0,ref:=0,attrs:=[]}:Elem))) ?_ ?_
 ·
  exact⟨by omega,by simp⟩
 rintro⟨i,o⟩ I3 ih3
 try dsimp only at I3
 have ol:o.length=l.length:=by rw[I3.2];simp;omega
 refine .bp [.r []] (decide ((i:Int)< (l.length:Int))) (fun h3=> ?_) (fun h3=> ?_)
 ·
  have hx:=hs _ (z1O (l:=l) (k:=i) (by omega))
  refine .back [.r [(1,X (Xi elemT l (i:Int)))],.r [(8,X (Xan attrT 184 (((l.getD i default)).attrs))),(10,X (Xpn l.length elemT o (i:Int))),(11,X (rowC attrT (((l.getD i default)).attrs) (Xsn l.length 3 elemT 24 o i ((l.getD i default)) [(184,OF 2 attrT (((l.getD i default)).attrs))])))],.r [(0,X (Xn ((i:Int)+1)))]] [(24,24)] (ih3 ((i+1),(o.set i ((l.getD i default)))) ?_ ?_)
  ·
   refine⟨by omega,?_⟩
   rw[I3.2]
   exact z4w rfl (by omega) rfl
  ·
   ((try dsimp only);omega)
 ·
  have e1:(l:List Elem)=o:=by
   first|omega| (rw[I3.2,qw (by omega),show l.length-i=0 by omega];simp)
  exact .finE [.r []] [(24,0)] (fun z0:List Elem=>(.row 0 l.length,[(0,OR 3 elemT z0)])) _ _ e1
theorem y7q(f:List Elem)(k:Int)(es:List Elem)(au:ByteArray)(hf:f.length<=10000000)(hk:0<=k/\k<=f.length)(he:es.length<=1048576)(ha:∀x∈es,x.attrs.length<=1048576):FC Tryz.prog 62 [VL 3 elemT f,VI k,VL 3 elemT es,VS au] (app emp []) (VL 4 z0c (typD f.length k es au)) (app emp []):=by
 refine .go Tryz.f62 ?_
 refine .len 0 (fun hl0=> ?_)
 refine .len 2 (fun hl2=> ?_)
 obtain⟨dn,el⟩:=y8O f.length k es au he ha
 refine .loop (α:=Nat×(List Elem)) [.r [],.r [(1,X (Xc1 16 (y7p es (by assumption) (by assumption)) X0))],.r []] 56 (fun(i,o)=>([(0,VL 3 elemT f),(1,VI k),(3,VS au),(9,.row 16 ((es).length)),(16,VI ((es).length:Int)),(17,VI (i:Int))],[(16,OR 3 elemT o)])) (fun(i,o)=>i<=es.length/\o=(es.take i).map (typE au)++es.drop i) (fun(i,o)=>es.length-i) (0,es) ?_ ?_
 ·
  exact⟨by omega,by simp⟩
 rintro⟨i,o⟩ I3 ih3
 try dsimp only at I3
 have ol:o.length=es.length:=by rw[I3.2];simp;omega
 refine .bp [.r []] (decide ((i:Int)< ((es).length:Int))) (fun h3=> ?_) (fun h3=> ?_)
 ·
  have hxa:=ha _ (z0n (l:=es) (i:=i) (by omega))
  have hog:o.getD i default=es.getD i default:=by rw[I3.2];exact y5b (by omega)
  rw[<-hog] at hxa
  refine .back [.r [],.r [(4,X (Xpn ((es).length) elemT o (i:Int))),(6,X (Xen ((es).length) elemT o i)),(11,X (Xc1 168 (z4s (((o.getD i default)).attrs) [({name:={data:=#[97,100,100]},val:=au}:Attr),({name:={data:=#[99,117,116]},val:={data:=#[]}}:Attr)] (by simp only[qi,zh];omega)) (rowC attrT [({name:={data:=#[97,100,100]},val:=au}:Attr),({name:={data:=#[99,117,116]},val:={data:=#[]}}:Attr)] X0))),(12,X (Xpn ((es).length) elemT o (i:Int))),(14,X (Xsn ((es).length) 3 elemT 16 o i ({char:=((o.getD i default)).char,ref:=((o.getD i default)).ref,attrs:=(fm rawG (((o.getD i default)).attrs) [({name:={data:=#[97,100,100]},val:=au}:Attr),({name:={data:=#[99,117,116]},val:={data:=#[]}}:Attr)])}:Elem)))],.r [(0,X (Xn ((i:Int)+1)))]] [(16,16)] (ih3 ((i+1),(o.set i ({char:=((o.getD i default)).char,ref:=((o.getD i default)).ref,attrs:=(fm rawG (((o.getD i default)).attrs) [({name:={data:=#[97,100,100]},val:=au}:Attr),({name:={data:=#[99,117,116]},val:={data:=#[]}}:Attr)])}:Elem))) ?_ ?_)
  ·
   refine⟨by omega,?_⟩
   rw[hog,I3.2];exact z9B (by omega)
  ·
   ((try dsimp only);omega)
 ·
  have ho:o=es.map (typE au):=by rw[I3.2,qw (by omega),qT (by omega),qQ]
  obtain⟨dn2,l2,e2⟩:=y93 ho dn el
  have e1:((typD f.length k es au):List DStep)=(tidyL [({kind:=0,n:=k,attrs:=[],elems:=[]}:DStep),({kind:=1,n:=0,attrs:=[],elems:=o}:DStep),({kind:=0,n:=((f.length:Int)- k),attrs:=[],elems:=[]}:DStep)]):=by
   rw[ho];rfl
  exact .finE [.r [(1,X (Xf [(2,2),(3,3)])),(3,X (Xf [(2,2)])),(5,X (Xl elemT f)),(7,X (Xn ((f.length:Int)- k))),(8,X (Xf [(2,2),(3,3)])),(9,X (rowX ((es).length) elemT o X0)),(10,X (Xc1 144 (z5F [({kind:=0,n:=k,attrs:=[],elems:=[]}:DStep),({kind:=1,n:=0,attrs:=[],elems:=o}:DStep),({kind:=0,n:=((f.length:Int)- k),attrs:=[],elems:=[]}:DStep)] dn2 l2 e2) (rowC z0c [({kind:=0,n:=k,attrs:=[],elems:=[]}:DStep),({kind:=1,n:=0,attrs:=[],elems:=o}:DStep),({kind:=0,n:=((f.length:Int)- k),attrs:=[],elems:=[]}:DStep)] X0)))],.r []] [] (fun z0:List DStep=>(VL 4 z0c z0,[])) _ _ e1
theorem fc_at(d:Doc)(s:Sel)(au:ByteArray)(hb:DocL d):FC Tryz.prog 24 [.t (docT d),.t (selT s),VS au] (app emp []) (.tup [.t (plT (atP d s au)),VI (atE d s au)]) (app emp []):=by
 refine .go Tryz.f24 ?_
 have hdb:=hb.toDocB
 have hl:=hb.len
 refine .bp [.r [],.r [(1,X (Xc0 (z29 d (by assumption)) X0))],.r []] ((docE d) !=0) (fun h2=> ?_) (fun h2=> ?_)
 ·
  have T:=at_1 (s:=s) (au:=au) h2
  have e1:((atP d s au):Pl)=({node:=({id:=0,kind:=0,attrs:=[],flow:=[],grid:=({rows:=0,cols:=0,cells:=[],merges:=[]}:Grid),draw:=[]}:Node),shown:=[],author:={data:=#[]}}:Pl):=by
   exact T.1
  have e2:((atE d s au):Int)=(docE d):=by
   exact T.2
  exact .finVE [.r [(0,X (Xf [(2,2),(3,3),(6,5),(7,4),(8,8),(9,1)]))]] [] [] (fun((z0,z1):Pl×Int)=>(.tup [.t (plT z0),VI z1],[])) _ _ (pr e1 e2)
 ·
  have hs:=z3N (d:=d) (by omega)
  refine .bp [.r [(3,X (Xc0 (z5N d s.nd (by assumption) (by assumption)) X0))],.r []] (decide ((ixN (d).nodes s.nd)< 0)) (fun h5=> ?_) (fun h5=> ?_)
  ·
   have T:=at_2 (au:=au) (by omega) (y46.1 h5)
   have e3:((atP d s au):Pl)=({node:=({id:=0,kind:=0,attrs:=[],flow:=[],grid:=({rows:=0,cols:=0,cells:=[],merges:=[]}:Grid),draw:=[]}:Node),shown:=[],author:={data:=#[]}}:Pl):=by
    exact T.1
   have e4:((atE d s au):Int)=7:=by
    exact T.2
   exact .finVE [.r [(0,X (Xf [(2,2),(3,3),(6,5),(7,4),(8,8),(9,1)]))]] [] [] (fun((z0,z1):Pl×Int)=>(.tup [.t (plT z0),VI z1],[])) _ _ (pr e3 e4)
  ·
   have hh:=y45.1 h5
   have hlt:=(z03.1 hh).1
   have hbn:=(hb.all _ (z3x hlt)).fl2
   refine .bp [.le (.eq 9 (VI (ixN (d).nodes s.nd)) (VI (lobN d.nodes s.nd:Int)) (.of_eq (by rw[y0H hh]))),.r [(3,X (Xi nodeT d.nodes (lobN d.nodes s.nd:Int))),(6,X (Xf [(9,1)]))],.r [(3,X (Xc0 (z5M (((d.nodes.getD (lobN d.nodes s.nd) default)).kind)) X0))]] (!(hasT (((d.nodes.getD (lobN d.nodes s.nd) default)).kind))) (fun h8=> ?_) (fun h8=> ?_)
   ·
    have T:=at_3 (au:=au) (by omega) hh h8
    have e5:((atP d s au):Pl)=({node:=({id:=0,kind:=0,attrs:=[],flow:=[],grid:=({rows:=0,cols:=0,cells:=[],merges:=[]}:Grid),draw:=[]}:Node),shown:=[],author:={data:=#[]}}:Pl):=by
     exact T.1
    have e6:((atE d s au):Int)=8:=by
     exact T.2
    exact .finVE [.r [(0,X (Xf [(2,2),(3,3),(6,5),(7,4),(8,8),(9,1)]))]] [] [] (fun((z0,z1):Pl×Int)=>(.tup [.t (plT z0),VI z1],[])) _ _ (pr e5 e6)
   ·
    refine .bp [.r [(3,X (Xc1 264 (y5P (((d.nodes.getD (lobN d.nodes s.nd) default)).flow) 0 (by omega)) X0))],.r [(5,Xv 1 (!(decide (s.fr<0))) X0),(7,Xv 1 (!(decide (s.fr<0))) X0),(8,Xv 2 (!(decide (s.fr<0))) X0),(9,X (Xk' (decide (s.fr<0)))),(12,Xv 1 (!(decide (s.fr<0)||decide (s.tq<s.fr))) X0),(14,Xv 1 (!(decide (s.fr<0)||decide (s.tq<s.fr))) X0),(15,Xv 1 (!(decide (s.fr<0)||decide (s.tq<s.fr))) (Xl intT (plcL (((d.nodes.getD (lobN d.nodes s.nd) default)).flow) 0 ((((d.nodes.getD (lobN d.nodes s.nd) default)).flow)).length))),(16,Xv 2 (!(decide (s.fr<0)||decide (s.tq<s.fr))) X0),(17,X (Xk' (decide (s.fr<0)||decide (s.tq<s.fr))))]] ((decide (s.fr<0)||decide (s.tq<s.fr))||decide (s.tq>=((plcL (((d.nodes.getD (lobN d.nodes s.nd) default)).flow) 0 ((((d.nodes.getD (lobN d.nodes s.nd) default)).flow)).length).length:Int))) (fun h11=> ?_) (fun h11=> ?_)
    ·
     have T:=at_4 (au:=au) (by omega) hh h8 h11
     have e7:((atP d s au):Pl)=({node:=({id:=0,kind:=0,attrs:=[],flow:=[],grid:=({rows:=0,cols:=0,cells:=[],merges:=[]}:Grid),draw:=[]}:Node),shown:=[],author:={data:=#[]}}:Pl):=by
      exact T.1
     have e8:((atE d s au):Int)=2:=by
      exact T.2
     exact .finVE [.r [(0,X (Xf [(2,2),(3,3),(6,5),(7,4),(8,8),(9,1)]))]] [] [] (fun((z0,z1):Pl×Int)=>(.tup [.t (plT z0),VI z1],[])) _ _ (pr e7 e8)
    ·
     refine .bp [.r [(4,Xv 1 (!(seq au ({data:=#[]}))) (Xc0 (z3E au) X0)),(5,Xv 1 (!(seq au ({data:=#[]}))) X0),(6,X (Xk (!(seq au ({data:=#[]})))))]] (!(seq au ({data:=#[]}))&& !(valGo au)) (fun h13=> ?_) (fun h13=> ?_)
     ·
      have T:=at_5 (by omega) hh h8 h11 h13
      have e9:((atP d s au):Pl)=({node:=({id:=0,kind:=0,attrs:=[],flow:=[],grid:=({rows:=0,cols:=0,cells:=[],merges:=[]}:Grid),draw:=[]}:Node),shown:=[],author:={data:=#[]}}:Pl):=by
       exact T.1
      have e10:((atE d s au):Int)=23:=by
       exact T.2
      exact .finVE [.r [(0,X (Xf [(2,2),(3,3),(6,5),(7,4),(8,8),(9,1)]))]] [] [] (fun((z0,z1):Pl×Int)=>(.tup [.t (plT z0),VI z1],[])) _ _ (pr e9 e10)
     ·
      have T:=at_6 (by omega) hh h8 h11 h13
      have e11:((atP d s au):Pl)=({node:=((d.nodes.getD (lobN d.nodes s.nd) default)),shown:=(plcL (((d.nodes.getD (lobN d.nodes s.nd) default)).flow) 0 ((((d.nodes.getD (lobN d.nodes s.nd) default)).flow)).length),author:=au}:Pl):=by
       exact T.1
      have e12:((atE d s au):Int)=0:=by
       exact T.2
      exact .finVE [.r []] [] [] (fun((z0,z1):Pl×Int)=>(.tup [.t (plT z0),VI z1],[])) _ _ (pr e11 e12)
theorem z5O(p:Pl)(k:Int)(hb:PlB p):FC Tryz.prog 54 [.ptr 0 0,VI k] (app emp [(0,.box [VI p.node.id,VI p.node.kind,VL 2 attrT p.node.attrs,VL 3 elemT p.node.flow,VI p.node.grid.rows,VI p.node.grid.cols,VL 5 cellT p.node.grid.cells,VL 4 rectT p.node.grid.merges,VL 8 dopT p.node.draw,VL 1 intT p.shown,VS p.author])]) (.t (elemT (elemP p k))) (app emp [(0,.box [VI p.node.id,VI p.node.kind,VL 2 attrT p.node.attrs,VL 3 elemT p.node.flow,VI p.node.grid.rows,VI p.node.grid.cols,VL 5 cellT p.node.grid.cells,VL 4 rectT p.node.grid.merges,VL 8 dopT p.node.draw,VL 1 intT p.shown,VS p.author])]):=by
 refine .go Tryz.f54 ?_
 refine .bp [.r [],.r [(5,Xv 1 (!(decide (k<0))) X0),(6,Xv 1 (!(decide (k<0))) X0),(7,Xv 1 (!(decide (k<0))) X0),(8,Xv 1 (!(decide (k<0))) (Xl intT p.shown)),(9,Xv 2 (!(decide (k<0))) X0),(10,X (Xk' (decide (k<0))))]] (decide (k<0)||decide (k>=(p.shown.length:Int))) (fun h1=> ?_) (fun h1=> ?_)
 ·
  have e1:((elemP p k):Elem)=({char:=10,ref:=0,attrs:=[]}:Elem):=by
   unfold elemP;rw[if_pos (by omega)]
  exact .finVE [.r [(0,X (Xf [(2,2)]))]] [] [(0,0)] (fun z0:Elem=>(.t (elemT z0),[(0,.box [VI p.node.id,VI p.node.kind,VL 2 attrT p.node.attrs,VL 3 elemT p.node.flow,VI p.node.grid.rows,VI p.node.grid.cols,VL 5 cellT p.node.grid.cells,VL 4 rectT p.node.grid.merges,VL 8 dopT p.node.draw,VL 1 intT p.shown,VS p.author])])) _ _ e1
 ·
  have hx:=hb.ok _ (z0n (l:=p.shown) (i:=k.toNat) (by omega))
  have e2:((elemP p k):Elem)=((p.node.flow.getD (Int.toNat (p.shown.getD (Int.toNat k) default)) default)):=by
   unfold elemP;rw[if_neg (by omega)]
  exact .finVE [.r [(10,X (Xi intT p.shown k)),(12,X (Xi elemT p.node.flow (p.shown.getD (Int.toNat k) default)))]] [] [(0,0)] (fun z0:Elem=>(.t (elemT z0),[(0,.box [VI p.node.id,VI p.node.kind,VL 2 attrT p.node.attrs,VL 3 elemT p.node.flow,VI p.node.grid.rows,VI p.node.grid.cols,VL 5 cellT p.node.grid.cells,VL 4 rectT p.node.grid.merges,VL 8 dopT p.node.draw,VL 1 intT p.shown,VS p.author])])) _ _ e2
theorem y9w(l:List ByteArray)(x:ByteArray):FC Tryz.prog 110 [VL 1 strT l,VS x] (app emp []) (VI (idxF (fun y=>seq x y) l 0)) (app emp []):=by
 refine .go Tryz.f110 ?_
 refine .len 0 (fun hl0=> ?_)
 refine .loop (α:=Nat) [.r [],.r [(1,X (Xl strT l))]] 32 (fun i=>([(0,VL 1 strT l),(1,VS x),(7,VI (l.length:Int)),(8,VI (i:Int))],[])) (fun i=>i<=l.length/\idxF (fun y=>seq x y) l 0=idxF (fun y=>seq x y) l i) (fun i=>l.length-i) (0:Nat) ?_ ?_
 ·
  exact⟨by omega,rfl⟩
 rintro i I2 ih2
 try dsimp only at I2
 refine .bp [.r []] (decide ((i:Int)< (l.length:Int))) (fun h2=> ?_) (fun h2=> ?_)
 ·
  refine .bp [.r [],.r [(3,X (Xi strT l (i:Int)))]] (seq x (l.getD i default)) (fun h4=> ?_) (fun h4=> ?_)
  ·
   have e1:((idxF (fun y=>seq x y) l 0):Int)=(i:Int):=by
    rw[I2.2,idxF,if_pos (by omega),if_pos h4]
   exact .finE [.r []] [] (fun z0:Int=>(VI z0,[])) _ _ e1
  ·
   refine .back [.r [(0,X (Xn ((i:Int)+1)))]] [] (ih2 ((i+1):Nat) ?_ ?_)
   ·
    exact⟨by omega,by rw[I2.2,idxF,if_pos (by omega),if_neg (by rw[h4];decide)]⟩
   ·
    ((try dsimp only);omega)
 ·
  have e2:((idxF (fun y=>seq x y) l 0):Int)= -1:=by
   rw[I2.2,idxF,if_neg (by omega)]
  exact .finE [.r []] [] (fun z0:Int=>(VI z0,[])) _ _ e2
theorem y5R(l:List ByteArray)(x:ByteArray):FC Tryz.prog 59 [VL 1 strT l,VS x] (app emp []) (VB (l.any (fun y=>seq x y))) (app emp []):=by
 refine .go Tryz.f59 ?_
 refine .len 0 (fun hl0=> ?_)
 have e1:((l.any (fun y=>seq x y)):Bool)=decide ((idxF (fun y=>seq x y) l 0)>=0):=by
  rw[zj];simp only[decide_eq_true_eq,ge_iff_le];rw[y16]
 exact .finE [.r [],.r [(2,X (Xc0 (y9w l x) X0))]] [] (fun z0:Bool=>(VB z0,[])) _ _ e1
theorem z7m(n:ByteArray):FC Tryz.prog 55 [VS n] (app emp []) (VB (sprB n)) (app emp []):=by
 refine .go Tryz.f55 ?_
 have e1:((sprB n):Bool)=(([{data:=#[98,111,108,100]},{data:=#[105,116,97,108,105,99]},{data:=#[117,110,100,101,114]},{data:=#[115,116,114,105,107,101]},{data:=#[102,105,120,101,100]},{data:=#[114,97,105,115,101]},{data:=#[115,105,122,101]},{data:=#[99,111,108,111,117,114]},{data:=#[108,97,110,103]},{data:=#[115,116,121,108,101]}]).any (fun y=>seq n y)):=by
  rfl
 exact .finE [.r [],.r [(2,X (Xc0 (y5R [{data:=#[98,111,108,100]},{data:=#[105,116,97,108,105,99]},{data:=#[117,110,100,101,114]},{data:=#[115,116,114,105,107,101]},{data:=#[102,105,120,101,100]},{data:=#[114,97,105,115,101]},{data:=#[115,105,122,101]},{data:=#[99,111,108,111,117,114]},{data:=#[108,97,110,103]},{data:=#[115,116,121,108,101]}] n) (rowC strT [{data:=#[98,111,108,100]},{data:=#[105,116,97,108,105,99]},{data:=#[117,110,100,101,114]},{data:=#[115,116,114,105,107,101]},{data:=#[102,105,120,101,100]},{data:=#[114,97,105,115,101]},{data:=#[115,105,122,101]},{data:=#[99,111,108,111,117,114]},{data:=#[108,97,110,103]},{data:=#[115,116,121,108,101]}] X0)))]] [] (fun z0:Bool=>(VB z0,[])) _ _ e1
theorem z2T(n:ByteArray):FC Tryz.prog 56 [VS n] (app emp []) (VB (btwB n)) (app emp []):=by
 refine .go Tryz.f56 ?_
 have e1:((btwB n):Bool)=(((seq n ({data:=#[108,105,110,107]})||seq n ({data:=#[108,111,99,107]}))|| (decide ((n.size:Int)> 7)&&seq (n.extract ((0:Int)).toNat ((7:Int)).toNat) ({data:=#[114,101,109,97,114,107,46]})))|| (decide ((n.size:Int)> 5)&&seq (n.extract ((0:Int)).toNat ((5:Int)).toNat) ({data:=#[109,97,114,107,46]}))):=by
  rfl
 exact .finE [.r [],.r [(4,Xv 1 (!(seq n ({data:=#[108,105,110,107]}))) X0),(5,X (Xk' (seq n ({data:=#[108,105,110,107]})))),(8,Xv 1 (!(seq n ({data:=#[108,105,110,107]})||seq n ({data:=#[108,111,99,107]}))) X0),(9,Xv 1 (!(seq n ({data:=#[108,105,110,107]})||seq n ({data:=#[108,111,99,107]}))) X0),(10,Xv 1 (!(seq n ({data:=#[108,105,110,107]})||seq n ({data:=#[108,111,99,107]}))) X0),(12,Xv 1 ((!(seq n ({data:=#[108,105,110,107]})||seq n ({data:=#[108,111,99,107]})))&&(decide ((n.size:Int)> 7))) (Xa (Xc ((0:Int)<=0)) (Xa (Xc ((0:Int)<=7)) (Xc ((7:Int)<=(n.size:Int)))))),(13,Xv 1 ((!(seq n ({data:=#[108,105,110,107]})||seq n ({data:=#[108,111,99,107]})))&&(decide ((n.size:Int)> 7))) X0),(14,Xka (!(seq n ({data:=#[108,105,110,107]})||seq n ({data:=#[108,111,99,107]}))) (decide ((n.size:Int)> 7))),(15,X (Xk' (seq n ({data:=#[108,105,110,107]})||seq n ({data:=#[108,111,99,107]})))),(18,Xv 1 (!((seq n ({data:=#[108,105,110,107]})||seq n ({data:=#[108,111,99,107]}))|| (decide ((n.size:Int)> 7)&&seq (n.extract ((0:Int)).toNat ((7:Int)).toNat) ({data:=#[114,101,109,97,114,107,46]})))) X0),(19,Xv 1 (!((seq n ({data:=#[108,105,110,107]})||seq n ({data:=#[108,111,99,107]}))|| (decide ((n.size:Int)> 7)&&seq (n.extract ((0:Int)).toNat ((7:Int)).toNat) ({data:=#[114,101,109,97,114,107,46]})))) X0),(20,Xv 1 (!((seq n ({data:=#[108,105,110,107]})||seq n ({data:=#[108,111,99,107]}))|| (decide ((n.size:Int)> 7)&&seq (n.extract ((0:Int)).toNat ((7:Int)).toNat) ({data:=#[114,101,109,97,114,107,46]})))) X0),(22,Xv 1 ((!((seq n ({data:=#[108,105,110,107]})||seq n ({data:=#[108,111,99,107]}))|| (decide ((n.size:Int)> 7)&&seq (n.extract ((0:Int)).toNat ((7:Int)).toNat) ({data:=#[114,101,109,97,114,107,46]}))))&&(decide ((n.size:Int)> 5))) (Xa (Xc ((0:Int)<=0)) (Xa (Xc ((0:Int)<=5)) (Xc ((5:Int)<=(n.size:Int)))))),(23,Xv 1 ((!((seq n ({data:=#[108,105,110,107]})||seq n ({data:=#[108,111,99,107]}))|| (decide ((n.size:Int)> 7)&&seq (n.extract ((0:Int)).toNat ((7:Int)).toNat) ({data:=#[114,101,109,97,114,107,46]}))))&&(decide ((n.size:Int)> 5))) X0),(24,Xka (!((seq n ({data:=#[108,105,110,107]})||seq n ({data:=#[108,111,99,107]}))|| (decide ((n.size:Int)> 7)&&seq (n.extract ((0:Int)).toNat ((7:Int)).toNat) ({data:=#[114,101,109,97,114,107,46]})))) (decide ((n.size:Int)> 5))),(25,X (Xk' ((seq n ({data:=#[108,105,110,107]})||seq n ({data:=#[108,111,99,107]}))|| (decide ((n.size:Int)> 7)&&seq (n.extract ((0:Int)).toNat ((7:Int)).toNat) ({data:=#[114,101,109,97,114,107,46]})))))]] [] (fun z0:Bool=>(VB z0,[])) _ _ e1
theorem x0l(p:Pl)(k:Int)(hb:PlB p)(hk:0<=k/\k<=1000000000):FC Tryz.prog 26 [.ptr 0 0,VI k] (app emp [(0,.box [VI p.node.id,VI p.node.kind,VL 2 attrT p.node.attrs,VL 3 elemT p.node.flow,VI p.node.grid.rows,VI p.node.grid.cols,VL 5 cellT p.node.grid.cells,VL 4 rectT p.node.grid.merges,VL 8 dopT p.node.draw,VL 1 intT p.shown,VS p.author])]) (VL 2 attrT (inhP p k)) (app emp [(0,.box [VI p.node.id,VI p.node.kind,VL 2 attrT p.node.attrs,VL 3 elemT p.node.flow,VI p.node.grid.rows,VI p.node.grid.cols,VL 5 cellT p.node.grid.cells,VL 4 rectT p.node.grid.merges,VL 8 dopT p.node.draw,VL 1 intT p.shown,VS p.author])]):=by
 refine .go Tryz.f26 ?_
 have b1:=z6z hb k
 have b2:=z6z hb (k- 1)
 refine .bp [.r [],.r [(2,X (Xn (k- 1))),(3,X (Xc4 [(0,0)] (z5O p (k- 1) (by assumption)) X0)),(6,X (Xc4 [(0,0)] (z5O p k (by assumption)) X0))],.r [],.r []] ((((elemP p (k- 1))).char)==10) (fun h3=> ?_) (fun h3=> ?_)
 ·
  refine .bp [.r [],.r [],.r []] ((((elemP p k)).char) !=10) (fun h6=> ?_) (fun h6=> ?_)
  ·
   refine .loop (α:=Nat×(List Attr)) [.r [(2,X (Xl attrT (((elemP p k)).attrs)))],.le (.nR 8 2)] 226 (fun(i,o)=>([(1,VI k),(5,.ptr 65 0),(6,.ptr 73 0),(8,.row 225 o.length),(29,VL 2 attrT (((elemP p k)).attrs)),(30,VI ((((elemP p k)).attrs).length:Int)),(31,VI (i:Int))],[(0,.box [VI p.node.id,VI p.node.kind,VL 2 attrT p.node.attrs,VL 3 elemT p.node.flow,VI p.node.grid.rows,VI p.node.grid.cols,VL 5 cellT p.node.grid.cells,VL 4 rectT p.node.grid.merges,VL 8 dopT p.node.draw,VL 1 intT p.shown,VS p.author]),(65,.box [VI (((elemP p (k- 1))).char),VI (((elemP p (k- 1))).ref),VL 2 attrT (((elemP p (k- 1))).attrs)]),(73,.box [VI (((elemP p k)).char),VI (((elemP p k)).ref),VL 2 attrT (((elemP p k)).attrs)]),(225,OR 2 attrT o)])) (fun(i,o)=>i<=((((elemP p k)).attrs)).length/\o=(((((elemP p k)).attrs)).take i).filter (fun a=>sprB a.name)) (fun(i,o)=>((((elemP p k)).attrs)).length-i) (0,[]) ?_ ?_
   ·
    exact⟨by omega,rfl⟩
   rintro⟨i,o⟩ I8 ih8
   try dsimp only at I8
   have ol:o.length<=i:=by rw[I8.2];exact zd (z7 ..) (by rw[qX];omega)
   refine .bp [.r []] (decide ((i:Int)< ((((elemP p k)).attrs).length:Int))) (fun h8=> ?_) (fun h8=> ?_)
   ·
    refine .bp [.r [(0,X (Xi attrT (((elemP p k)).attrs) (i:Int)))],.r [(2,X (Xc0 (z7m ((((((elemP p k)).attrs).getD i default)).name)) X0))]] (sprB ((((((elemP p k)).attrs).getD i default)).name)) (fun h10=> ?_) (fun h10=> ?_)
    ·
     refine .back [.r [(3,X (rowC attrT [(((((elemP p k)).attrs).getD i default))] (Xap 2 attrT 225 o [(((((elemP p k)).attrs).getD i default))])))],.r [(0,X (Xn ((i:Int)+1)))]] [(0,0),(65,65),(73,73),(225,225)] (ih8 ((i+1),(o++[(((((elemP p k)).attrs).getD i default))])) ?_ ?_)
     ·
      refine⟨by omega,?_⟩
      rw[I8.2,qD (by omega),zp]
      first|rw[z3O (by omega) h10]|rw[z3P (by omega) h10,qQ]
     ·
      ((try dsimp only);omega)
    ·
     refine .back [.r [(0,X (Xn ((i:Int)+1)))]] [(0,0),(65,65),(73,73),(225,225)] (ih8 ((i+1),o) ?_ ?_)
     ·
      refine⟨by omega,?_⟩
      rw[I8.2,qD (by omega),zp]
      first|rw[z3O (by omega) h10]|rw[z3P (by omega) h10,qQ]
     ·
      ((try dsimp only);omega)
   ·
    have hB:=z5H p k
    simp only[h3,h6,if_true,if_false,ne_eq,not_true_eq_false,not_false_eq_true,ite_true,ite_false,reduceIte] at hB
    refine .loop (α:=(List Attr)×Nat) [.r [(2,X (Xl attrT (((elemP p (k- 1))).attrs)))],.le (.fr 8 [(o.length:Nat)=(List.map attrT o).length] ⟨lm,trivial⟩)] 266 (fun(q,j)=>([(1,VI k),(6,.ptr 73 0),(8,VL 2 attrT q),(44,VL 2 attrT (((elemP p (k- 1))).attrs)),(45,VI ((((elemP p (k- 1))).attrs).length:Int)),(46,VI (j:Int))],[(0,.box [VI p.node.id,VI p.node.kind,VL 2 attrT p.node.attrs,VL 3 elemT p.node.flow,VI p.node.grid.rows,VI p.node.grid.cols,VL 5 cellT p.node.grid.cells,VL 4 rectT p.node.grid.merges,VL 8 dopT p.node.draw,VL 1 intT p.shown,VS p.author]),(73,.box [VI (((elemP p k)).char),VI (((elemP p k)).ref),VL 2 attrT (((elemP p k)).attrs)])])) (fun(q,j)=>j<=(elemP p (k- 1)).attrs.length/\q=inhO (elemP p k) k (inhB p k) ((elemP p (k- 1)).attrs.take j)/\q.length<=1048576+j) (fun(q,j)=>(elemP p (k- 1)).attrs.length-j) (o,0) ?_ ?_
    ·
     first|exact absurd h6 h3|exact⟨by omega,by rw[hB];first| (rw[I8.2,qw (by omega)];rfl)|rfl,by first|omega|simp⟩
    rintro⟨q,j⟩ I14 ih14
    try dsimp only at I14
    refine .bp [.r []] (decide ((j:Int)< ((((elemP p (k- 1))).attrs).length:Int))) (fun h14=> ?_) (fun h14=> ?_)
    ·
     refine .bp [.r [(0,X (Xi attrT (((elemP p (k- 1))).attrs) (j:Int)))],.r [(2,X (Xc0 (z2T ((((((elemP p (k- 1))).attrs).getD j default)).name)) X0)),(5,Xv 1 (btwB ((((((elemP p (k- 1))).attrs).getD j default)).name)) X0),(6,X (Xk (btwB ((((((elemP p (k- 1))).attrs).getD j default)).name)))),(9,Xv 1 ((btwB ((((((elemP p (k- 1))).attrs).getD j default)).name))&&decide (k>0)) X0),(11,Xv 1 ((btwB ((((((elemP p (k- 1))).attrs).getD j default)).name))&&decide (k>0)) X0),(12,Xv 2 ((btwB ((((((elemP p (k- 1))).attrs).getD j default)).name))&&decide (k>0)) (Xc0 (z5g (((elemP p k)).attrs) ((((((elemP p (k- 1))).attrs).getD j default)).name)) X0)),(14,Xv 1 ((btwB ((((((elemP p (k- 1))).attrs).getD j default)).name))&&decide (k>0)) X0),(15,Xv 2 ((btwB ((((((elemP p (k- 1))).attrs).getD j default)).name))&&decide (k>0)) X0),(16,X (Xk ((btwB ((((((elemP p (k- 1))).attrs).getD j default)).name))&&decide (k>0))))]] (((btwB ((((((elemP p (k- 1))).attrs).getD j default)).name))&&decide (k>0))&&seq (getA (((elemP p k)).attrs) ((((((elemP p (k- 1))).attrs).getD j default)).name) 0) ((((((elemP p (k- 1))).attrs).getD j default)).val)) (fun h16=> ?_) (fun h16=> ?_)
     ·
      refine .back [.r [(3,X (Xc1 466 (z4s q [(((((elemP p (k- 1))).attrs).getD j default))] (by simp only[qi,zh];omega)) (rowC attrT [(((((elemP p (k- 1))).attrs).getD j default))] X0)))],.r [(0,X (Xn ((j:Int)+1)))]] [(0,0),(73,73)] (ih14 ((fm rawG q [(((((elemP p (k- 1))).attrs).getD j default))]),(j+1)) ?_ ?_)
      ·
       first
       |exact⟨by omega,by rw[z0L (by omega),if_pos (z5l h16),<-I14.2.1],zd (z0Z ..) (by simp;omega)⟩
       |exact⟨by omega,by rw[z0L (by omega),if_neg (z5m h16)];exact I14.2.1,by omega⟩
      ·
       ((try dsimp only);omega)
     ·
      refine .back [.r [(0,X (Xn ((j:Int)+1)))]] [(0,0),(73,73)] (ih14 (q,(j+1)) ?_ ?_)
      ·
       first
       |exact⟨by omega,by rw[z0L (by omega),if_pos (z5l h16),<-I14.2.1],zd (z0Z ..) (by simp;omega)⟩
       |exact⟨by omega,by rw[z0L (by omega),if_neg (z5m h16)];exact I14.2.1,by omega⟩
      ·
       ((try dsimp only);omega)
    ·
     have e1:((inhP p k):List Attr)=q:=by
      rw[I14.2.1,qw (by omega)];rfl
     exact .finE [.r []] [(0,0)] (fun z0:List Attr=>(VL 2 attrT z0,[(0,.box [VI p.node.id,VI p.node.kind,VL 2 attrT p.node.attrs,VL 3 elemT p.node.flow,VI p.node.grid.rows,VI p.node.grid.cols,VL 5 cellT p.node.grid.cells,VL 4 rectT p.node.grid.merges,VL 8 dopT p.node.draw,VL 1 intT p.shown,VS p.author])])) _ _ e1
  ·
   have hB:=z5H p k
   simp only[h3,h6,if_true,if_false,ne_eq,not_true_eq_false,not_false_eq_true,ite_true,ite_false,reduceIte] at hB
   refine .loop (α:=(List Attr)×Nat) [.r [(2,X (Xl attrT (((elemP p (k- 1))).attrs)))],.le (.nL 8 2)] 225 (fun(q,j)=>([(1,VI k),(6,.ptr 73 0),(8,VL 2 attrT q),(44,VL 2 attrT (((elemP p (k- 1))).attrs)),(45,VI ((((elemP p (k- 1))).attrs).length:Int)),(46,VI (j:Int))],[(0,.box [VI p.node.id,VI p.node.kind,VL 2 attrT p.node.attrs,VL 3 elemT p.node.flow,VI p.node.grid.rows,VI p.node.grid.cols,VL 5 cellT p.node.grid.cells,VL 4 rectT p.node.grid.merges,VL 8 dopT p.node.draw,VL 1 intT p.shown,VS p.author]),(73,.box [VI (((elemP p k)).char),VI (((elemP p k)).ref),VL 2 attrT (((elemP p k)).attrs)])])) (fun(q,j)=>j<=(elemP p (k- 1)).attrs.length/\q=inhO (elemP p k) k (inhB p k) ((elemP p (k- 1)).attrs.take j)/\q.length<=1048576+j) (fun(q,j)=>(elemP p (k- 1)).attrs.length-j) ([],0) ?_ ?_
   ·
    first|exact absurd h6 h3|exact⟨by omega,by rw[hB];first| (rw[I8.2,qw (by omega)];rfl)|rfl,by first|omega|simp⟩
   rintro⟨q,j⟩ I14 ih14
   try dsimp only at I14
   refine .bp [.r []] (decide ((j:Int)< ((((elemP p (k- 1))).attrs).length:Int))) (fun h14=> ?_) (fun h14=> ?_)
   ·
    refine .bp [.r [(0,X (Xi attrT (((elemP p (k- 1))).attrs) (j:Int)))],.r [(2,X (Xc0 (z2T ((((((elemP p (k- 1))).attrs).getD j default)).name)) X0)),(5,Xv 1 (btwB ((((((elemP p (k- 1))).attrs).getD j default)).name)) X0),(6,X (Xk (btwB ((((((elemP p (k- 1))).attrs).getD j default)).name)))),(9,Xv 1 ((btwB ((((((elemP p (k- 1))).attrs).getD j default)).name))&&decide (k>0)) X0),(11,Xv 1 ((btwB ((((((elemP p (k- 1))).attrs).getD j default)).name))&&decide (k>0)) X0),(12,Xv 2 ((btwB ((((((elemP p (k- 1))).attrs).getD j default)).name))&&decide (k>0)) (Xc0 (z5g (((elemP p k)).attrs) ((((((elemP p (k- 1))).attrs).getD j default)).name)) X0)),(14,Xv 1 ((btwB ((((((elemP p (k- 1))).attrs).getD j default)).name))&&decide (k>0)) X0),(15,Xv 2 ((btwB ((((((elemP p (k- 1))).attrs).getD j default)).name))&&decide (k>0)) X0),(16,X (Xk ((btwB ((((((elemP p (k- 1))).attrs).getD j default)).name))&&decide (k>0))))]] (((btwB ((((((elemP p (k- 1))).attrs).getD j default)).name))&&decide (k>0))&&seq (getA (((elemP p k)).attrs) ((((((elemP p (k- 1))).attrs).getD j default)).name) 0) ((((((elemP p (k- 1))).attrs).getD j default)).val)) (fun h16=> ?_) (fun h16=> ?_)
    ·
     refine .back [.r [(3,X (Xc1 425 (z4s q [(((((elemP p (k- 1))).attrs).getD j default))] (by simp only[qi,zh];omega)) (rowC attrT [(((((elemP p (k- 1))).attrs).getD j default))] X0)))],.r [(0,X (Xn ((j:Int)+1)))]] [(0,0),(73,73)] (ih14 ((fm rawG q [(((((elemP p (k- 1))).attrs).getD j default))]),(j+1)) ?_ ?_)
     ·
      first
      |exact⟨by omega,by rw[z0L (by omega),if_pos (z5l h16),<-I14.2.1],zd (z0Z ..) (by simp;omega)⟩
      |exact⟨by omega,by rw[z0L (by omega),if_neg (z5m h16)];exact I14.2.1,by omega⟩
     ·
      ((try dsimp only);omega)
    ·
     refine .back [.r [(0,X (Xn ((j:Int)+1)))]] [(0,0),(73,73)] (ih14 (q,(j+1)) ?_ ?_)
     ·
      first
      |exact⟨by omega,by rw[z0L (by omega),if_pos (z5l h16),<-I14.2.1],zd (z0Z ..) (by simp;omega)⟩
      |exact⟨by omega,by rw[z0L (by omega),if_neg (z5m h16)];exact I14.2.1,by omega⟩
     ·
      ((try dsimp only);omega)
   ·
    have e2:((inhP p k):List Attr)=q:=by
     rw[I14.2.1,qw (by omega)];rfl
    exact .finE [.r []] [(0,0)] (fun z0:List Attr=>(VL 2 attrT z0,[(0,.box [VI p.node.id,VI p.node.kind,VL 2 attrT p.node.attrs,VL 3 elemT p.node.flow,VI p.node.grid.rows,VI p.node.grid.cols,VL 5 cellT p.node.grid.cells,VL 4 rectT p.node.grid.merges,VL 8 dopT p.node.draw,VL 1 intT p.shown,VS p.author])])) _ _ e2
 ·
  refine .bp [.r [],.r []] ((((elemP p (k- 1))).char) !=10) (fun h6=> ?_) (fun h6=> ?_)
  ·
   refine .loop (α:=Nat×(List Attr)) [.r [(2,X (Xl attrT (((elemP p (k- 1))).attrs)))],.le (.nR 8 2)] 210 (fun(i,o)=>([(1,VI k),(5,.ptr 65 0),(6,.ptr 73 0),(8,.row 209 o.length),(29,VL 2 attrT (((elemP p (k- 1))).attrs)),(30,VI ((((elemP p (k- 1))).attrs).length:Int)),(31,VI (i:Int))],[(0,.box [VI p.node.id,VI p.node.kind,VL 2 attrT p.node.attrs,VL 3 elemT p.node.flow,VI p.node.grid.rows,VI p.node.grid.cols,VL 5 cellT p.node.grid.cells,VL 4 rectT p.node.grid.merges,VL 8 dopT p.node.draw,VL 1 intT p.shown,VS p.author]),(65,.box [VI (((elemP p (k- 1))).char),VI (((elemP p (k- 1))).ref),VL 2 attrT (((elemP p (k- 1))).attrs)]),(73,.box [VI (((elemP p k)).char),VI (((elemP p k)).ref),VL 2 attrT (((elemP p k)).attrs)]),(209,OR 2 attrT o)])) (fun(i,o)=>i<=((((elemP p (k- 1))).attrs)).length/\o=(((((elemP p (k- 1))).attrs)).take i).filter (fun a=>sprB a.name)) (fun(i,o)=>((((elemP p (k- 1))).attrs)).length-i) (0,[]) ?_ ?_
   ·
    exact⟨by omega,rfl⟩
   rintro⟨i,o⟩ I8 ih8
   try dsimp only at I8
   have ol:o.length<=i:=by rw[I8.2];exact zd (z7 ..) (by rw[qX];omega)
   refine .bp [.r []] (decide ((i:Int)< ((((elemP p (k- 1))).attrs).length:Int))) (fun h8=> ?_) (fun h8=> ?_)
   ·
    refine .bp [.r [(0,X (Xi attrT (((elemP p (k- 1))).attrs) (i:Int)))],.r [(2,X (Xc0 (z7m ((((((elemP p (k- 1))).attrs).getD i default)).name)) X0))]] (sprB ((((((elemP p (k- 1))).attrs).getD i default)).name)) (fun h10=> ?_) (fun h10=> ?_)
    ·
     refine .back [.r [(3,X (rowC attrT [(((((elemP p (k- 1))).attrs).getD i default))] (Xap 2 attrT 209 o [(((((elemP p (k- 1))).attrs).getD i default))])))],.r [(0,X (Xn ((i:Int)+1)))]] [(0,0),(65,65),(73,73),(209,209)] (ih8 ((i+1),(o++[(((((elemP p (k- 1))).attrs).getD i default))])) ?_ ?_)
     ·
      refine⟨by omega,?_⟩
      rw[I8.2,qD (by omega),zp]
      first|rw[z3O (by omega) h10]|rw[z3P (by omega) h10,qQ]
     ·
      ((try dsimp only);omega)
    ·
     refine .back [.r [(0,X (Xn ((i:Int)+1)))]] [(0,0),(65,65),(73,73),(209,209)] (ih8 ((i+1),o) ?_ ?_)
     ·
      refine⟨by omega,?_⟩
      rw[I8.2,qD (by omega),zp]
      first|rw[z3O (by omega) h10]|rw[z3P (by omega) h10,qQ]
     ·
      ((try dsimp only);omega)
   ·
    have hB:=z5H p k
    simp only[h3,h6,if_true,if_false,ne_eq,not_true_eq_false,not_false_eq_true,ite_true,ite_false,reduceIte] at hB
    refine .loop (α:=(List Attr)×Nat) [.r [(2,X (Xl attrT (((elemP p (k- 1))).attrs)))],.le (.fr 8 [(o.length:Nat)=(List.map attrT o).length] ⟨lm,trivial⟩)] 250 (fun(q,j)=>([(1,VI k),(6,.ptr 73 0),(8,VL 2 attrT q),(44,VL 2 attrT (((elemP p (k- 1))).attrs)),(45,VI ((((elemP p (k- 1))).attrs).length:Int)),(46,VI (j:Int))],[(0,.box [VI p.node.id,VI p.node.kind,VL 2 attrT p.node.attrs,VL 3 elemT p.node.flow,VI p.node.grid.rows,VI p.node.grid.cols,VL 5 cellT p.node.grid.cells,VL 4 rectT p.node.grid.merges,VL 8 dopT p.node.draw,VL 1 intT p.shown,VS p.author]),(73,.box [VI (((elemP p k)).char),VI (((elemP p k)).ref),VL 2 attrT (((elemP p k)).attrs)])])) (fun(q,j)=>j<=(elemP p (k- 1)).attrs.length/\q=inhO (elemP p k) k (inhB p k) ((elemP p (k- 1)).attrs.take j)/\q.length<=1048576+j) (fun(q,j)=>(elemP p (k- 1)).attrs.length-j) (o,0) ?_ ?_
    ·
     first|exact absurd h6 h3|exact⟨by omega,by rw[hB];first| (rw[I8.2,qw (by omega)];rfl)|rfl,by first|omega|simp⟩
    rintro⟨q,j⟩ I14 ih14
    try dsimp only at I14
    refine .bp [.r []] (decide ((j:Int)< ((((elemP p (k- 1))).attrs).length:Int))) (fun h14=> ?_) (fun h14=> ?_)
    ·
     refine .bp [.r [(0,X (Xi attrT (((elemP p (k- 1))).attrs) (j:Int)))],.r [(2,X (Xc0 (z2T ((((((elemP p (k- 1))).attrs).getD j default)).name)) X0)),(5,Xv 1 (btwB ((((((elemP p (k- 1))).attrs).getD j default)).name)) X0),(6,X (Xk (btwB ((((((elemP p (k- 1))).attrs).getD j default)).name)))),(9,Xv 1 ((btwB ((((((elemP p (k- 1))).attrs).getD j default)).name))&&decide (k>0)) X0),(11,Xv 1 ((btwB ((((((elemP p (k- 1))).attrs).getD j default)).name))&&decide (k>0)) X0),(12,Xv 2 ((btwB ((((((elemP p (k- 1))).attrs).getD j default)).name))&&decide (k>0)) (Xc0 (z5g (((elemP p k)).attrs) ((((((elemP p (k- 1))).attrs).getD j default)).name)) X0)),(14,Xv 1 ((btwB ((((((elemP p (k- 1))).attrs).getD j default)).name))&&decide (k>0)) X0),(15,Xv 2 ((btwB ((((((elemP p (k- 1))).attrs).getD j default)).name))&&decide (k>0)) X0),(16,X (Xk ((btwB ((((((elemP p (k- 1))).attrs).getD j default)).name))&&decide (k>0))))]] (((btwB ((((((elemP p (k- 1))).attrs).getD j default)).name))&&decide (k>0))&&seq (getA (((elemP p k)).attrs) ((((((elemP p (k- 1))).attrs).getD j default)).name) 0) ((((((elemP p (k- 1))).attrs).getD j default)).val)) (fun h16=> ?_) (fun h16=> ?_)
     ·
      refine .back [.r [(3,X (Xc1 450 (z4s q [(((((elemP p (k- 1))).attrs).getD j default))] (by simp only[qi,zh];omega)) (rowC attrT [(((((elemP p (k- 1))).attrs).getD j default))] X0)))],.r [(0,X (Xn ((j:Int)+1)))]] [(0,0),(73,73)] (ih14 ((fm rawG q [(((((elemP p (k- 1))).attrs).getD j default))]),(j+1)) ?_ ?_)
      ·
       first
       |exact⟨by omega,by rw[z0L (by omega),if_pos (z5l h16),<-I14.2.1],zd (z0Z ..) (by simp;omega)⟩
       |exact⟨by omega,by rw[z0L (by omega),if_neg (z5m h16)];exact I14.2.1,by omega⟩
      ·
       ((try dsimp only);omega)
     ·
      refine .back [.r [(0,X (Xn ((j:Int)+1)))]] [(0,0),(73,73)] (ih14 (q,(j+1)) ?_ ?_)
      ·
       first
       |exact⟨by omega,by rw[z0L (by omega),if_pos (z5l h16),<-I14.2.1],zd (z0Z ..) (by simp;omega)⟩
       |exact⟨by omega,by rw[z0L (by omega),if_neg (z5m h16)];exact I14.2.1,by omega⟩
      ·
       ((try dsimp only);omega)
    ·
     have e3:((inhP p k):List Attr)=q:=by
      rw[I14.2.1,qw (by omega)];rfl
     exact .finE [.r []] [(0,0)] (fun z0:List Attr=>(VL 2 attrT z0,[(0,.box [VI p.node.id,VI p.node.kind,VL 2 attrT p.node.attrs,VL 3 elemT p.node.flow,VI p.node.grid.rows,VI p.node.grid.cols,VL 5 cellT p.node.grid.cells,VL 4 rectT p.node.grid.merges,VL 8 dopT p.node.draw,VL 1 intT p.shown,VS p.author])])) _ _ e3
  ·
   have hB:=z5H p k
   simp only[h3,h6,if_true,if_false,ne_eq,not_true_eq_false,not_false_eq_true,ite_true,ite_false,reduceIte] at hB
   refine .loop (α:=(List Attr)×Nat) [.r [(2,X (Xl attrT (((elemP p (k- 1))).attrs)))],.le (.nL 8 2)] 209 (fun(q,j)=>([(1,VI k),(6,.ptr 73 0),(8,VL 2 attrT q),(44,VL 2 attrT (((elemP p (k- 1))).attrs)),(45,VI ((((elemP p (k- 1))).attrs).length:Int)),(46,VI (j:Int))],[(0,.box [VI p.node.id,VI p.node.kind,VL 2 attrT p.node.attrs,VL 3 elemT p.node.flow,VI p.node.grid.rows,VI p.node.grid.cols,VL 5 cellT p.node.grid.cells,VL 4 rectT p.node.grid.merges,VL 8 dopT p.node.draw,VL 1 intT p.shown,VS p.author]),(73,.box [VI (((elemP p k)).char),VI (((elemP p k)).ref),VL 2 attrT (((elemP p k)).attrs)])])) (fun(q,j)=>j<=(elemP p (k- 1)).attrs.length/\q=inhO (elemP p k) k (inhB p k) ((elemP p (k- 1)).attrs.take j)/\q.length<=1048576+j) (fun(q,j)=>(elemP p (k- 1)).attrs.length-j) ([],0) ?_ ?_
   ·
    first|exact absurd h6 h3|exact⟨by omega,by rw[hB];first| (rw[I8.2,qw (by omega)];rfl)|rfl,by first|omega|simp⟩
   rintro⟨q,j⟩ I14 ih14
   try dsimp only at I14
   refine .bp [.r []] (decide ((j:Int)< ((((elemP p (k- 1))).attrs).length:Int))) (fun h14=> ?_) (fun h14=> ?_)
   ·
    refine .bp [.r [(0,X (Xi attrT (((elemP p (k- 1))).attrs) (j:Int)))],.r [(2,X (Xc0 (z2T ((((((elemP p (k- 1))).attrs).getD j default)).name)) X0)),(5,Xv 1 (btwB ((((((elemP p (k- 1))).attrs).getD j default)).name)) X0),(6,X (Xk (btwB ((((((elemP p (k- 1))).attrs).getD j default)).name)))),(9,Xv 1 ((btwB ((((((elemP p (k- 1))).attrs).getD j default)).name))&&decide (k>0)) X0),(11,Xv 1 ((btwB ((((((elemP p (k- 1))).attrs).getD j default)).name))&&decide (k>0)) X0),(12,Xv 2 ((btwB ((((((elemP p (k- 1))).attrs).getD j default)).name))&&decide (k>0)) (Xc0 (z5g (((elemP p k)).attrs) ((((((elemP p (k- 1))).attrs).getD j default)).name)) X0)),(14,Xv 1 ((btwB ((((((elemP p (k- 1))).attrs).getD j default)).name))&&decide (k>0)) X0),(15,Xv 2 ((btwB ((((((elemP p (k- 1))).attrs).getD j default)).name))&&decide (k>0)) X0),(16,X (Xk ((btwB ((((((elemP p (k- 1))).attrs).getD j default)).name))&&decide (k>0))))]] (((btwB ((((((elemP p (k- 1))).attrs).getD j default)).name))&&decide (k>0))&&seq (getA (((elemP p k)).attrs) ((((((elemP p (k- 1))).attrs).getD j default)).name) 0) ((((((elemP p (k- 1))).attrs).getD j default)).val)) (fun h16=> ?_) (fun h16=> ?_)
    ·
     refine .back [.r [(3,X (Xc1 409 (z4s q [(((((elemP p (k- 1))).attrs).getD j default))] (by simp only[qi,zh];omega)) (rowC attrT [(((((elemP p (k- 1))).attrs).getD j default))] X0)))],.r [(0,X (Xn ((j:Int)+1)))]] [(0,0),(73,73)] (ih14 ((fm rawG q [(((((elemP p (k- 1))).attrs).getD j default))]),(j+1)) ?_ ?_)
     ·
      first
      |exact⟨by omega,by rw[z0L (by omega),if_pos (z5l h16),<-I14.2.1],zd (z0Z ..) (by simp;omega)⟩
      |exact⟨by omega,by rw[z0L (by omega),if_neg (z5m h16)];exact I14.2.1,by omega⟩
     ·
      ((try dsimp only);omega)
    ·
     refine .back [.r [(0,X (Xn ((j:Int)+1)))]] [(0,0),(73,73)] (ih14 (q,(j+1)) ?_ ?_)
     ·
      first
      |exact⟨by omega,by rw[z0L (by omega),if_pos (z5l h16),<-I14.2.1],zd (z0Z ..) (by simp;omega)⟩
      |exact⟨by omega,by rw[z0L (by omega),if_neg (z5m h16)];exact I14.2.1,by omega⟩
     ·
      ((try dsimp only);omega)
   ·
    have e4:((inhP p k):List Attr)=q:=by
     rw[I14.2.1,qw (by omega)];rfl
    exact .finE [.r []] [(0,0)] (fun z0:List Attr=>(VL 2 attrT z0,[(0,.box [VI p.node.id,VI p.node.kind,VL 2 attrT p.node.attrs,VL 3 elemT p.node.flow,VI p.node.grid.rows,VI p.node.grid.cols,VL 5 cellT p.node.grid.cells,VL 4 rectT p.node.grid.merges,VL 8 dopT p.node.draw,VL 1 intT p.shown,VS p.author])])) _ _ e4
theorem y5S(p:Pl)(k:Nat)(hb:PlB p)(hk:k<=1000000000):FC Tryz.prog 27 [.ptr 0 0,VI (k:Int)] (app emp [(0,.box [VI p.node.id,VI p.node.kind,VL 2 attrT p.node.attrs,VL 3 elemT p.node.flow,VI p.node.grid.rows,VI p.node.grid.cols,VL 5 cellT p.node.grid.cells,VL 4 rectT p.node.grid.merges,VL 8 dopT p.node.draw,VL 1 intT p.shown,VS p.author])]) (VL 2 attrT (endP p k)) (app emp [(0,.box [VI p.node.id,VI p.node.kind,VL 2 attrT p.node.attrs,VL 3 elemT p.node.flow,VI p.node.grid.rows,VI p.node.grid.cols,VL 5 cellT p.node.grid.cells,VL 4 rectT p.node.grid.merges,VL 8 dopT p.node.draw,VL 1 intT p.shown,VS p.author])]):=by
 refine .go Tryz.f27 ?_
 have hsl:=hb.sl
 refine .loop (α:=Nat) [.r []] 9 (fun m=>([(0,.ptr 0 0),(1,VI (m:Int))],[(0,.box [VI p.node.id,VI p.node.kind,VL 2 attrT p.node.attrs,VL 3 elemT p.node.flow,VI p.node.grid.rows,VI p.node.grid.cols,VL 5 cellT p.node.grid.cells,VL 4 rectT p.node.grid.merges,VL 8 dopT p.node.draw,VL 1 intT p.shown,VS p.author])])) (fun m=>endK p k=endK p m/\m<=k+p.shown.length) (fun m=>p.shown.length-m) (k:Nat) ?_ ?_
 ·
  exact⟨rfl,by omega⟩
 rintro m I1 ih1
 try dsimp only at I1
 refine .bp [.r [(2,X (Xc4 [(0,0)] (z5O p (m:Int) (by assumption)) X0))]] ((((elemP p (m:Int))).char) !=10) (fun h1=> ?_) (fun h1=> ?_)
 ·
  obtain⟨g1,g2⟩:=y8P h1
  refine .back [.r [(1,X (Xn ((m:Int)+1)))]] [(0,0)] (ih1 ((m+1):Nat) ?_ ?_)
  ·
   exact⟨I1.1.trans g2,by omega⟩
  ·
   ((try dsimp only);omega)
 ·
  have g3:=I1.1.trans (y8Q h1)
  have bm:=z6z hb (m:Int)
  refine .loop (α:=Nat×(List Attr)) [.r [],.r [(2,X (Xc4 [(0,0)] (z5O p (m:Int) (by assumption)) X0)),(4,X (Xl attrT (((elemP p (m:Int))).attrs)))],.le (.nR 5 2)] 106 (fun(i,o)=>([(5,.row 105 o.length),(18,VL 2 attrT (((elemP p (m:Int))).attrs)),(19,VI ((((elemP p (m:Int))).attrs).length:Int)),(20,VI (i:Int))],[(0,.box [VI p.node.id,VI p.node.kind,VL 2 attrT p.node.attrs,VL 3 elemT p.node.flow,VI p.node.grid.rows,VI p.node.grid.cols,VL 5 cellT p.node.grid.cells,VL 4 rectT p.node.grid.merges,VL 8 dopT p.node.draw,VL 1 intT p.shown,VS p.author]),(105,OR 2 attrT o)])) (fun(i,o)=>i<=(elemP p m).attrs.length/\o=((elemP p m).attrs.take i).filter endG) (fun(i,o)=>(elemP p m).attrs.length-i) (0,[]) ?_ ?_
  ·
   exact⟨by omega,rfl⟩
  rintro⟨i,o⟩ I5 ih5
  try dsimp only at I5
  have ol:o.length<=i:=by rw[I5.2];exact zd (z7 ..) (by rw[qX];omega)
  refine .bp [.r []] (decide ((i:Int)< ((((elemP p (m:Int))).attrs).length:Int))) (fun h5=> ?_) (fun h5=> ?_)
  ·
   refine .bp [.r [(0,X (Xi attrT (((elemP p (m:Int))).attrs) (i:Int)))],.r [(3,X (Xc0 (y5R [{data:=#[97,100,100]},{data:=#[99,117,116]},{data:=#[104,105,100,100,101,110]},{data:=#[108,111,99,107]},{data:=#[115,101,99,116,105,111,110]},{data:=#[98,114,101,97,107]},{data:=#[115,116,97,114,116]}] ((((((elemP p (m:Int))).attrs).getD i default)).name)) (rowC strT [{data:=#[97,100,100]},{data:=#[99,117,116]},{data:=#[104,105,100,100,101,110]},{data:=#[108,111,99,107]},{data:=#[115,101,99,116,105,111,110]},{data:=#[98,114,101,97,107]},{data:=#[115,116,97,114,116]}] X0))),(7,Xv 1 (!(([{data:=#[97,100,100]},{data:=#[99,117,116]},{data:=#[104,105,100,100,101,110]},{data:=#[108,111,99,107]},{data:=#[115,101,99,116,105,111,110]},{data:=#[98,114,101,97,107]},{data:=#[115,116,97,114,116]}]).any (fun y=>seq ((((((elemP p (m:Int))).attrs).getD i default)).name) y))) X0),(8,Xv 1 (!(([{data:=#[97,100,100]},{data:=#[99,117,116]},{data:=#[104,105,100,100,101,110]},{data:=#[108,111,99,107]},{data:=#[115,101,99,116,105,111,110]},{data:=#[98,114,101,97,107]},{data:=#[115,116,97,114,116]}]).any (fun y=>seq ((((((elemP p (m:Int))).attrs).getD i default)).name) y))) (Xc0 (z2T ((((((elemP p (m:Int))).attrs).getD i default)).name)) X0)),(9,Xv 1 (!(([{data:=#[97,100,100]},{data:=#[99,117,116]},{data:=#[104,105,100,100,101,110]},{data:=#[108,111,99,107]},{data:=#[115,101,99,116,105,111,110]},{data:=#[98,114,101,97,107]},{data:=#[115,116,97,114,116]}]).any (fun y=>seq ((((((elemP p (m:Int))).attrs).getD i default)).name) y))) X0),(10,X (Xk (!(([{data:=#[97,100,100]},{data:=#[99,117,116]},{data:=#[104,105,100,100,101,110]},{data:=#[108,111,99,107]},{data:=#[115,101,99,116,105,111,110]},{data:=#[98,114,101,97,107]},{data:=#[115,116,97,114,116]}]).any (fun y=>seq ((((((elemP p (m:Int))).attrs).getD i default)).name) y)))))]] (!(([{data:=#[97,100,100]},{data:=#[99,117,116]},{data:=#[104,105,100,100,101,110]},{data:=#[108,111,99,107]},{data:=#[115,101,99,116,105,111,110]},{data:=#[98,114,101,97,107]},{data:=#[115,116,97,114,116]}]).any (fun y=>seq ((((((elemP p (m:Int))).attrs).getD i default)).name) y))&& !(btwB ((((((elemP p (m:Int))).attrs).getD i default)).name))) (fun h7=> ?_) (fun h7=> ?_)
   ·
    refine .back [.r [(3,X (rowC attrT [(((((elemP p (m:Int))).attrs).getD i default))] (Xap 2 attrT 105 o [(((((elemP p (m:Int))).attrs).getD i default))])))],.r [(0,X (Xn ((i:Int)+1)))]] [(0,0),(105,105)] (ih5 ((i+1),(o++[(((((elemP p (m:Int))).attrs).getD i default))])) ?_ ?_)
    ·
     refine⟨by omega,?_⟩
     rw[I5.2,qD (by omega),zp]
     first|rw[z3O (by omega) (y75 h7)]|rw[z3P (by omega) (y76 h7),qQ]
    ·
     ((try dsimp only);omega)
   ·
    refine .back [.r [(0,X (Xn ((i:Int)+1)))]] [(0,0),(105,105)] (ih5 ((i+1),o) ?_ ?_)
    ·
     refine⟨by omega,?_⟩
     rw[I5.2,qD (by omega),zp]
     first|rw[z3O (by omega) (y75 h7)]|rw[z3P (by omega) (y76 h7),qQ]
    ·
     ((try dsimp only);omega)
  ·
   have e1:((endP p k):List Attr)=o:=by
    rw[I5.2,qw (by omega)];unfold endP;rw[g3]
   exact .finE [.r [],.le (.fr 4 [(o.length:Nat)=(List.map attrT o).length] ⟨lm,trivial⟩)] [(0,0)] (fun z0:List Attr=>(VL 2 attrT z0,[(0,.box [VI p.node.id,VI p.node.kind,VL 2 attrT p.node.attrs,VL 3 elemT p.node.flow,VI p.node.grid.rows,VI p.node.grid.cols,VL 5 cellT p.node.grid.cells,VL 4 rectT p.node.grid.merges,VL 8 dopT p.node.draw,VL 1 intT p.shown,VS p.author])])) _ _ e1
theorem y5T(p:Pl)(s:Sel)(es:List Elem)(hb:PlB p)(hs:StpB p s es):FC Tryz.prog 28 [.ptr 0 0,.t (selT s),VL 3 elemT es] (app emp [(0,.box [VI p.node.id,VI p.node.kind,VL 2 attrT p.node.attrs,VL 3 elemT p.node.flow,VI p.node.grid.rows,VI p.node.grid.cols,VL 5 cellT p.node.grid.cells,VL 4 rectT p.node.grid.merges,VL 8 dopT p.node.draw,VL 1 intT p.shown,VS p.author])]) (.tup [VL 19 eopT [opF s.nd (stpP p s es)],.t (selT (selP s es)),VI 0]) (app emp [(0,.box [VI p.node.id,VI p.node.kind,VL 2 attrT p.node.attrs,VL 3 elemT p.node.flow,VI p.node.grid.rows,VI p.node.grid.cols,VL 5 cellT p.node.grid.cells,VL 4 rectT p.node.grid.merges,VL 8 dopT p.node.draw,VL 1 intT p.shown,VS p.author])]):=by
 refine .go Tryz.f28 ?_
 refine .len 2 (fun hl2=> ?_)
 obtain⟨s1,q1,q2,v1,v2,v3,d1,d2,d3,m1,m2,m3⟩:=hs
 simp only[ersP,typP] at v1 v2 v3 d1 d2 d3 m1 m2 m3
 have hf:p.node.flow.length<=10000000:=by(have:=hb.len;omega)
 have hsh:=hb.sl
 have hpl:∀x∈(p.shown.take s.tq.toNat).drop s.fr.toNat,0<=x/\x< (p.node.flow.length:Int):=fun x hx=>hb.ok x (qL (zc hx))
 have hpl2:∀x∈p.shown,0<=x/\x<=1000000000:=fun x hx=>by(have:=hb.ok x hx;omega)
 have hgp:=y5d hb s1
 have e1:([opF s.nd (stpP p s es)]:List EOp)=[({kind:=2,node:=s.nd,nw:=({id:=0,kind:=0,attrs:=[],flow:=[],grid:=({rows:=0,cols:=0,cells:=[],merges:=[]}:Grid),draw:=[]}:Node),attrs:=[],steps:=(joinD (ersD p.node.flow ((p.shown.take (Int.toNat s.tq)).drop (Int.toNat s.fr)) p.author) (z00 (typD (p.node.flow).length (gapP p.shown s.fr) es p.author) (ersD p.node.flow ((p.shown.take (Int.toNat s.tq)).drop (Int.toNat s.fr)) p.author))),grid:=({rows:=[],cols:=[],cells:=[],split:=[],merge:=[]}:GEd),draw:=[]}:EOp)]:=by
  rfl
 have e2:((selP s es):Sel)=({nd:=s.nd,fr:=(s.fr+(es.length:Int)),tq:=(s.fr+(es.length:Int))}:Sel):=by
  rfl
 exact .finVE [.r [],.r [],.r [(9,X (Xsb intT 1 p.shown s.fr s.tq)),(14,X (Xc1 193 (y5Q p.node.flow ((p.shown.take (Int.toNat s.tq)).drop (Int.toNat s.fr)) p.author (by omega) (by assumption)) X0))],.r [(6,X (Xc0 (y9v p.shown s.fr (by omega) (by assumption)) X0))],.r [(7,X (Xc1 329 (y7q p.node.flow (gapP p.shown s.fr) es p.author (by omega) (by omega) (by omega) (by assumption)) X0))],.r [(2,X (Xc1 361 (y7o (typD (p.node.flow).length (gapP p.shown s.fr) es p.author) (ersD p.node.flow ((p.shown.take (Int.toNat s.tq)).drop (Int.toNat s.fr)) p.author) (by assumption) (by assumption) (by assumption) (by assumption) (by omega) (by omega)) X0))],.r [],.f,.r [(2,X (Xc1 457 (y7n (ersD p.node.flow ((p.shown.take (Int.toNat s.tq)).drop (Int.toNat s.fr)) p.author) (z00 (typD (p.node.flow).length (gapP p.shown s.fr) es p.author) (ersD p.node.flow ((p.shown.take (Int.toNat s.tq)).drop (Int.toNat s.fr)) p.author)) (by assumption) (by assumption) (by assumption) (by assumption) (by omega)) X0))],.r [],.f,.r [(3,X (Xl elemT es)),(4,X (Xn (s.fr+(es.length:Int))))],.r [(3,X (Xf [(4,2),(5,3),(8,5),(9,4),(10,8),(11,2),(13,2),(14,2),(15,5),(16,4),(17,4),(18,8)]))],.le (.fr 6 [(1:Nat)=(List.map eopT [({kind:=2,node:=s.nd,nw:=({id:=0,kind:=0,attrs:=[],flow:=[],grid:=({rows:=0,cols:=0,cells:=[],merges:=[]}:Grid),draw:=[]}:Node),attrs:=[],steps:=(joinD (ersD p.node.flow ((p.shown.take (Int.toNat s.tq)).drop (Int.toNat s.fr)) p.author) (z00 (typD (p.node.flow).length (gapP p.shown s.fr) es p.author) (ersD p.node.flow ((p.shown.take (Int.toNat s.tq)).drop (Int.toNat s.fr)) p.author))),grid:=({rows:=[],cols:=[],cells:=[],split:=[],merge:=[]}:GEd),draw:=[]}:EOp)]).length] ⟨lm,trivial⟩)] [] [(0,0)] (fun((z0,z1):(List EOp)×Sel)=>(.tup [VL 19 eopT z0,.t (selT z1),VI 0],[(0,.box [VI p.node.id,VI p.node.kind,VL 2 attrT p.node.attrs,VL 3 elemT p.node.flow,VI p.node.grid.rows,VI p.node.grid.cols,VL 5 cellT p.node.grid.cells,VL 4 rectT p.node.grid.merges,VL 8 dopT p.node.draw,VL 1 intT p.shown,VS p.author])])) _ _ (pr e1 e2)
theorem y9x(p:Pl)(k:Int)(hb:PlB p)(hk:0<=k/\k<=1000000000):FC Tryz.prog 27 [.ptr 0 0,VI k] (app emp [(0,.box [VI p.node.id,VI p.node.kind,VL 2 attrT p.node.attrs,VL 3 elemT p.node.flow,VI p.node.grid.rows,VI p.node.grid.cols,VL 5 cellT p.node.grid.cells,VL 4 rectT p.node.grid.merges,VL 8 dopT p.node.draw,VL 1 intT p.shown,VS p.author])]) (VL 2 attrT (endP p k.toNat)) (app emp [(0,.box [VI p.node.id,VI p.node.kind,VL 2 attrT p.node.attrs,VL 3 elemT p.node.flow,VI p.node.grid.rows,VI p.node.grid.cols,VL 5 cellT p.node.grid.cells,VL 4 rectT p.node.grid.merges,VL 8 dopT p.node.draw,VL 1 intT p.shown,VS p.author])]):=by
 have h:=y5S p k.toNat hb (by omega)
 rw[Int.toNat_of_nonneg hk.1] at h
 exact h
def OfFC(t:ByteArray)(cs:List Int):Prop:=∀l:List Attr,chkA false l 0=0->l.length<=10000000->FC Tryz.prog 25 [VS t,VL 2 attrT l] (app emp []) (.tup [.row 0 (cs.map (mkE l)).length,VI 0]) (app emp [(0,OR 3 elemT (cs.map (mkE l)))])
theorem y9y(d:Doc)(s:Sel)(t:ByteArray)(cs:List Int)(au:ByteArray)(hof:OfFC t cs)(hb:DocL d)(ht:t.size<=20000)(hx:atE d s au=0->TypB d s cs au):FC Tryz.prog 9 [.t (docT d),.t (selT s),VS t,VS au] (app emp []) (.tup [VL 19 eopT (typeO d s cs au),.t (selT (typeS d s cs au)),VI (atE d s au)]) (app emp []):=by
 refine .go Tryz.f9 ?_
 refine .bp [.r [],.r [(3,X (Xc1 64 (fc_at d s au (by assumption)) X0))],.r []] ((atE d s au) !=0) (fun h2=> ?_) (fun h2=> ?_)
 ·
  have T:=y94 (cs:=cs) h2
  have e1:((typeO d s cs au):List EOp)=[]:=by
   exact T.1
  have e2:((typeS d s cs au):Sel)=({nd:=0,fr:=0,tq:=0}:Sel):=by
   exact T.2
  exact .finVE [.r [],.le (.nL 8 19)] [] [] (fun((z0,z1):(List EOp)×Sel)=>(.tup [VL 19 eopT z0,.t (selT z1),VI (atE d s au)],[])) _ _ (pr e1 e2)
 ·
  refine .bp [.r []] (decide ((t.size:Int)> 20000)) (fun h4=> ?_) (fun h4=> ?_)
  ·
   exfalso
   omega
  ·
   obtain⟨tp,tc,tl,tr,ts⟩:=hx h2
   have htl:=tp.sl
   have hcl:(List.map (mkE (inhP (atP d s au) s.fr)) cs).length<=1048576:=by(have:=ts.e1;unfold typEl at this;simpa using this)
   refine .loop (α:=Nat×(List Elem)) [.r [(3,X (Xc4 [(0,96)] (x0l ((atP d s au)) s.fr (by assumption) (by omega)) X0)),(4,X (Xc1 192 (hof (inhP ((atP d s au)) s.fr) (by assumption) (by omega)) X0))],.r [],.f,.r []] 280 (fun(i,o)=>([(5,.ptr 8 0),(9,.ptr 24 0),(11,.ptr 96 0),(13,.row 192 o.length),(43,VI ((List.map (mkE (inhP ((atP d s au)) s.fr)) cs).length:Int)),(44,VI (i:Int))],[(8,.box [VI s.nd,VI s.fr,VI s.tq]),(24,.box [VI 0,VI 0,VI 0]),(96,.box [VI ((((atP d s au)).node).id),VI ((((atP d s au)).node).kind),VL 2 attrT ((((atP d s au)).node).attrs),VL 3 elemT ((((atP d s au)).node).flow),VI (((((atP d s au)).node).grid).rows),VI (((((atP d s au)).node).grid).cols),VL 5 cellT (((((atP d s au)).node).grid).cells),VL 4 rectT (((((atP d s au)).node).grid).merges),VL 8 dopT ((((atP d s au)).node).draw),VL 1 intT (((atP d s au)).shown),VS (((atP d s au)).author)]),(192,OR 3 elemT o)])) (fun(i,o)=>i<=(cs.map (mkE (inhP (atP d s au) s.fr))).length/\o=((cs.map (mkE (inhP (atP d s au) s.fr))).take i).map (typX (atP d s au) s)++(cs.map (mkE (inhP (atP d s au) s.fr))).drop i) (fun(i,o)=>(cs.map (mkE (inhP (atP d s au) s.fr))).length-i) (0,(List.map (mkE (inhP ((atP d s au)) s.fr)) cs)) ?_ ?_
   ·
    exact⟨by omega,by simp⟩
   rintro⟨i,o⟩ I10 ih10
   try dsimp only at I10
   have ol:o.length=(cs.map (mkE (inhP (atP d s au) s.fr))).length:=by rw[I10.2];simp;omega
   refine .bp [.r []] (decide ((i:Int)< ((List.map (mkE (inhP ((atP d s au)) s.fr)) cs).length:Int))) (fun h10=> ?_) (fun h10=> ?_)
   ·
    have hog:o.getD i default=(cs.map (mkE (inhP (atP d s au) s.fr))).getD i default:=by rw[I10.2];exact y5b (by omega)
    refine .bp [.r [],.r [(2,X (Xp elemT o (i:Int))),(4,X (Xe elemT o i))]] ((((o.getD i default)).char)==10) (fun h12=> ?_) (fun h12=> ?_)
    ·
     refine .back [.r [(4,X (Xc4 [(0,96)] (y9x ((atP d s au)) s.tq (by assumption) (by omega)) X0)),(5,X (Xp elemT o (i:Int))),(7,X (Xs 3 elemT 192 o i ({char:=((o.getD i default)).char,ref:=((o.getD i default)).ref,attrs:=(endP ((atP d s au)) (s.tq).toNat)}:Elem)))],.r [(0,X (Xn ((i:Int)+1)))],.le (.eq 13 (.row 192 o.length) (.row 192 ((o.set i ({char:=((o.getD i default)).char,ref:=((o.getD i default)).ref,attrs:=(endP ((atP d s au)) (s.tq).toNat)}:Elem)).length)) (.of_eq (by simp only[zq])))] [(8,8),(24,24),(96,96),(192,192)] (ih10 ((i+1),(o.set i ({char:=((o.getD i default)).char,ref:=((o.getD i default)).ref,attrs:=(endP ((atP d s au)) (s.tq).toNat)}:Elem))) ?_ ?_)
     ·
      refine⟨by omega,?_⟩
      rw[<-y95 h12,hog,<-z9B (by omega),<-I10.2]
     ·
      ((try dsimp only);omega)
    ·
     refine .back [.r [(0,X (Xn ((i:Int)+1)))]] [(8,8),(24,24),(96,96),(192,192)] (ih10 ((i+1),o) ?_ ?_)
     ·
      refine⟨by omega,?_⟩
      rw[<-y5e (by omega) (y96 (by rw[<-hog];exact h12)),<-I10.2]
     ·
      ((try dsimp only);omega)
   ·
    have ho:o=typEl (atP d s au) s cs:=by rw[I10.2,qw (by omega),qT (by omega),qQ];rfl
    rw[<-ho] at ts
    have T:=y2g (cs:=cs) h2
    have e3:((typeO d s cs au):List EOp)=[opF (s).nd (stpP ((atP d s au)) s o)]:=by
     rw[T.1,ho]
    have e4:((typeS d s cs au):Sel)=((selP s o)):=by
     rw[T.2,ho]
    have e5:((atE d s au):Int)=0:=by
     exact h2
    exact .finVE [.le (.fr 13 [(o.length:Nat)=(List.map elemT o).length] ⟨lm,trivial⟩),.r [(2,X (Xc4 [(0,96)] (y5T ((atP d s au)) s o (by assumption) (by assumption)) X0))]] [] [] (fun((z0,z1,z2):(List EOp)×Sel×Int)=>(.tup [VL 19 eopT z0,.t (selT z1),VI z2],[])) _ _ (pr e3 (pr e4 e5))




theorem y9z(d:Doc)(k:Int)(hb:DocL d):FC Tryz.prog 12 [.t (docT d),VI k] (app emp []) (.tup [.t (nodeT (nodeF d k)),VB (nodeH d k)]) (app emp []):=by
 refine .go Tryz.f12 ?_
 have hl:=hb.len
 refine .loop (α:=Nat) [.r [],.r [(2,X (Xl nodeT d.nodes))]] 56 (fun i=>([(1,VI k),(4,.ptr 8 0),(9,VL 9 nodeT d.nodes),(10,VI (d.nodes.length:Int)),(11,VI (i:Int))],[(8,.box [VI 0,VI 0,VN,VN,VI 0,VI 0,VN,VN,VN])])) (fun i=>i<=d.nodes.length/\findD d.nodes k 0=findD d.nodes k i) (fun i=>d.nodes.length-i) (0:Nat) ?_ ?_
 ·
  exact⟨by omega,rfl⟩
 rintro i I2 ih2
 try dsimp only at I2
 refine .bp [.r []] (decide ((i:Int)< (d.nodes.length:Int))) (fun h2=> ?_) (fun h2=> ?_)
 ·
  have hx:=hb.all _ (z3x (l:=d.nodes) (i:=i) (by omega))
  refine .bp [.r [(0,X (Xi nodeT d.nodes (i:Int)))],.r []] ((((d.nodes.getD i default)).id)==k) (fun h4=> ?_) (fun h4=> ?_)
  ·
   have T:=y5f (I2.2.trans (by rw[findD,if_pos (by omega),if_pos (by omega)]))
   have e1:((nodeF d k):Node)=(((d.nodes.getD i default))):=by
    exact T.1
   have e2:((nodeH d k):Bool)=true:=by
    exact T.2
   exact .finVE [.r [(1,X (Xc1 136 (z8v ((d.nodes.getD i default)) (by assumption)) X0))]] [] [] (fun((z0,z1):Node×Bool)=>(.tup [.t (nodeT z0),VB z1],[])) _ _ (pr e1 e2)
  ·
   refine .back [.r [(0,X (Xn ((i:Int)+1)))]] [(8,8)] (ih2 ((i+1):Nat) ?_ ?_)
   ·
    exact⟨by omega,by rw[I2.2,findD,if_pos (by omega),if_neg (by omega)]⟩
   ·
    ((try dsimp only);omega)
 ·
  have T:=y8S (I2.2.trans (by rw[findD,if_neg (by omega)]))
  have e3:((nodeF d k):Node)=({id:=0,kind:=0,attrs:=[],flow:=[],grid:=({rows:=0,cols:=0,cells:=[],merges:=[]}:Grid),draw:=[]}:Node):=by
   exact T.1
  have e4:((nodeH d k):Bool)=false:=by
   exact T.2
  exact .finVE [.r [(0,X (Xf [(2,2),(3,3),(6,5),(7,4),(8,8)]))]] [] [] (fun((z0,z1):Node×Bool)=>(.tup [.t (nodeT z0),VB z1],[])) _ _ (pr e3 e4)


theorem y0T(l:List DStep)(hd:DN 400000000000 l)(hv:z0D l):FC Tryz.prog 135 [VL 4 z0c l] (app emp []) (.tup [VI (oldD l),VI (newD l),VI 0]) (app emp []):=by
 refine .go Tryz.f135 ?_
 refine .len 0 (fun hl0=> ?_)
 have hc:=z0S.2 hv
 refine .bp [.r [],.r [(1,X (Xc0 (z1Q l (by assumption)) X0))],.r []] ((z0W l) !=0) (fun h2=> ?_) (fun h2=> ?_)
 ·
  exfalso
  omega
 ·
  exact .fin [.r [(1,X (Xc0 (z4x l (by assumption)) X0))],.r []] []
theorem y7r(l:List DStep):FC Tryz.prog 136 [VL 4 z0c l] (app emp []) (VB (endsD l)) (app emp []):=by
 refine .go Tryz.f136 ?_
 refine .len 0 (fun hl0=> ?_)
 have e1:((endsD l):Bool)=(decide ((l.length:Int)> 0)&&((((l.getD (l.length- 1) default)).kind)==0)):=by
  rfl
 exact .finE [.r [],.r [(1,X (Xl z0c l)),(6,Xv 1 (decide ((l.length:Int)> 0)) (Xl z0c l)),(7,Xv 1 (decide ((l.length:Int)> 0)) (Xn ((l.length:Int)- 1))),(8,Xv 2 (decide ((l.length:Int)> 0)) (Xi' z0c l ((l.length:Int)- 1) (l.length- 1))),(9,Xv 1 (decide ((l.length:Int)> 0)) X0),(10,Xv 1 (decide ((l.length:Int)> 0)) X0),(11,Xv 1 (decide ((l.length:Int)> 0)) X0),(12,X (Xk (decide ((l.length:Int)> 0))))]] [] (fun z0:Bool=>(VB z0,[])) _ _ e1
theorem y5U(l:List Node)(n:Node)(j:Nat)(hl:l.length<=1048576)(hj:j=l.length):FC Tryz.prog 134 [.row 0 l.length,VI (j:Int),.row 1 1] (app emp [(0,OR 9 nodeT l),(1,OR 9 nodeT [n])]) (.row 0 ((l++[n]).length)) (app emp [(0,OR 9 nodeT (l++[n])),(1,OF 9 nodeT [n])]):=by
 refine .go Tryz.f134 ?_
 refine .bp [.r [],.r [(2,X (Xtl nodeT l.length l (j:Int)))],.r [],.r [],.f,.r [],.r []] ((j:Int)==(l.length:Int)) (fun h6=> ?_) (fun h6=> ?_)
 ·
  exact .fin [.r [(2,X (rowC nodeT [n] (XapB 9 nodeT 0 l [n])))],.le (.fz 1)] [(0,0),(1,1)]
 ·
  exfalso
  omega
theorem y3f(l:List Node)(n:Node)(hl:l.length<=1048575)(hs:SortN l)(hb:NodeB n)(hlast:hasN l n.id=false->lobN l n.id=l.length):FC Tryz.prog 69 [.ptr 0 0,.t (nodeT n)] (app emp [(0,.box [.row 1 l.length]),(1,OR 9 nodeT l)]) (VI (adnE l n)) (app emp [(0,.box [.row 1 ((insR l n).length)]),(1,OR 9 nodeT (insR l n))]):=by
 refine .go Tryz.f69 ?_
 have hl1:l.length<=1048576:=by omega
 refine .bp [.r [],.r [(5,X (Xc0 (z5N ({nodes:=l}:Doc) n.id (by assumption) (by assumption)) (rowC nodeT l X0)))]] (decide ((ixN (({nodes:=l}:Doc)).nodes n.id)>=0)) (fun h1=> ?_) (fun h1=> ?_)
 ·
  have T:=ins_1 (l:=l) (n:=n) (y45.1 h1)
  have e1:((insR l n).length:Nat)=l.length:=by
   rw[T.1]
  have e2:((insR l n):List Node)=l:=by
   exact T.1
  have e3:((adnE l n):Int)=6:=by
   exact T.2
  exact .finE [.r []] [(0,0),(1,1)] (fun((z0,z1,z2):Nat×(List Node)×Int)=>(VI z2,[(0,.box [.row 1 z0]),(1,OR 9 nodeT z1)])) _ _ (pr e1 (pr e2 e3))
 ·
  have hh:hasN l n.id=false:=y46.1 h1
  refine .bp [.r [(6,X (Xc1 122 (z9U n (by assumption)) X0)),(7,X (Xc0 (z4L ({nodes:=l}:Doc) n.kind (refsN n) (by assumption) (by assumption)) (rowC nodeT l X0)))],.r []] ((refsE (({nodes:=l}:Doc)).nodes n.kind (refsN n) 0) !=0) (fun h4=> ?_) (fun h4=> ?_)
  ·
   have T:=ins_2 hh h4
   have e4:((insR l n).length:Nat)=l.length:=by
    rw[T.1]
   have e5:((insR l n):List Node)=l:=by
    exact T.1
   have e6:((adnE l n):Int)=(refsE (({nodes:=l}:Doc)).nodes n.kind (refsN n) 0):=by
    exact T.2
   exact .finE [.r []] [(0,0),(1,1)] (fun((z0,z1,z2):Nat×(List Node)×Int)=>(VI z2,[(0,.box [.row 1 z0]),(1,OR 9 nodeT z1)])) _ _ (pr e4 (pr e5 e6))
  ·
   obtain⟨s1,s2,s3⟩:=z2z l n.id
   have hlo:=hlast hh
   refine .loop (α:=Nat) [.r []] 170 (fun i=>([(0,.ptr 0 0),(3,.ptr 2 0),(6,VI (i:Int))],[(0,.box [.row 1 l.length]),(1,OR 9 nodeT l),(2,.box [VI n.id,VI n.kind,VL 2 attrT n.attrs,VL 3 elemT n.flow,VI n.grid.rows,VI n.grid.cols,VL 5 cellT n.grid.cells,VL 4 rectT n.grid.merges,VL 8 dopT n.draw])])) (fun i=>i<=lobN l n.id) (fun i=>l.length-i) (0:Nat) ?_ ?_
   ·
    exact qp _
   rintro i I7 ih7
   try dsimp only at I7
   refine .bp [.r [(9,Xv 1 (decide ((i:Int)< (l.length:Int))) X0),(10,Xv 1 (decide ((i:Int)< (l.length:Int))) X0),(11,Xv 1 (decide ((i:Int)< (l.length:Int))) X0),(13,Xv 2 (decide ((i:Int)< (l.length:Int))) (Xp nodeT l (i:Int))),(14,Xv 1 (decide ((i:Int)< (l.length:Int))) X0),(15,Xv 1 (decide ((i:Int)< (l.length:Int))) (Xe nodeT l i)),(17,Xv 1 (decide ((i:Int)< (l.length:Int))) X0),(18,Xv 2 (decide ((i:Int)< (l.length:Int))) X0),(19,X (Xk (decide ((i:Int)< (l.length:Int)))))]] (decide ((i:Int)< (l.length:Int))&&decide ((((l.getD i default)).id)< n.id)) (fun h7=> ?_) (fun h7=> ?_)
   ·
    refine .back [.r [(1,X (Xn ((i:Int)+1)))]] [(0,0),(1,1),(2,2)] (ih7 ((i+1):Nat) ?_ ?_)
    ·
     exact y42 hs (by omega) h7.2
    ·
     ((try dsimp only);omega)
   ·
    have hi:i=l.length:=by(apply qk;intro q;have:=s2 i (by omega);rcases h7 with h|h<;>omega)
    have T:=ins_3 hh h4 hlo
    have e7:((insR l n).length:Nat)=(l++[n]).length:=by
     rw[T.1]
    have e8:((insR l n):List Node)=(l++[n]):=by
     exact T.1
    have e9:((adnE l n):Int)=0:=by
     exact T.2
    exact .finE [.r [(7,X (Xc1 386 (z8v n (by assumption)) X0)),(9,X (Xc3 402 [(0,1),(1,394)] (y5U l n i (by omega) (by omega)) X0))],.r []] [(0,0),(1,1)] (fun((z0,z1,z2):Nat×(List Node)×Int)=>(VI z2,[(0,.box [.row 1 z0]),(1,OR 9 nodeT z1)])) _ _ (pr e7 (pr e8 e9))
theorem y5V(l:List Node)(i:Nat)(s:List DStep)(hi:i<l.length)(hb:FlB l i s):FC Tryz.prog 70 [.ptr 0 0,.eptr 1 l.length i 0,VL 4 z0c s] (app emp [(0,.box [.row 1 l.length]),(1,OR 9 nodeT l)]) (VI (z05 l (l.getD i default) s)) (app emp [(0,.box [.row 1 ((z1p l i s).length)]),(1,OR 9 nodeT (z1p l i s))]):=by
 refine .go Tryz.f70 ?_
 refine .len 2 (fun hl2=> ?_)
 obtain⟨hl1,hs,hd,hv,hf⟩:=hb
 refine .bp [.r [],.r [(3,X (Xe nodeT l i)),(4,X (Xc0 (z5M (((l.getD i default)).kind)) X0))],.r [(4,Xv 1 (!(hasT (((l.getD i default)).kind))) X0),(5,Xv 1 (!(hasT (((l.getD i default)).kind))) X0),(6,Xv 1 (!(hasT (((l.getD i default)).kind))) (Xe nodeT l i)),(7,Xv 1 (!(hasT (((l.getD i default)).kind))) (Xc0 (y2w (((l.getD i default)).kind)) X0)),(8,Xv 1 (!(hasT (((l.getD i default)).kind))) X0),(9,X (Xk (!(hasT (((l.getD i default)).kind)))))]] (!(hasT (((l.getD i default)).kind))&& !(hasL (((l.getD i default)).kind))) (fun h2=> ?_) (fun h2=> ?_)
 ·
  have T:=z9y (i:=i) (fl_1 (s:=s) h2) (by decide)
  have e1:((z1p l i s).length:Nat)=l.length:=by
   rw[T.1]
  have e2:((z1p l i s):List Node)=l:=by
   exact T.1
  have e3:((z05 l (l.getD i default) s):Int)=8:=by
   exact T.2
  exact .finE [.r []] [(0,0),(1,1)] (fun((z0,z1,z2):Nat×(List Node)×Int)=>(VI z2,[(0,.box [.row 1 z0]),(1,OR 9 nodeT z1)])) _ _ (pr e1 (pr e2 e3))
 ·
  refine .bp [.r [(1,X (Xc0 (y0T s (by assumption) (by assumption)) X0))],.r [(4,X (Xe nodeT l i)),(5,X (Xl elemT (((l.getD i default)).flow)))]] ((oldD s) !=((((l.getD i default)).flow).length:Int)) (fun h5=> ?_) (fun h5=> ?_)
  ·
   have T:=z9y (i:=i) (fl_2 h2 h5) (by decide)
   have e4:((z1p l i s).length:Nat)=l.length:=by
    rw[T.1]
   have e5:((z1p l i s):List Node)=l:=by
    exact T.1
   have e6:((z05 l (l.getD i default) s):Int)=14:=by
    exact T.2
   exact .finE [.r []] [(0,0),(1,1)] (fun((z0,z1,z2):Nat×(List Node)×Int)=>(VI z2,[(0,.box [.row 1 z0]),(1,OR 9 nodeT z1)])) _ _ (pr e4 (pr e5 e6))
  ·
   refine .bp [.r [(3,Xv 1 (hasT (((l.getD i default)).kind)) (Xc0 (y7r s) X0)),(4,Xv 1 (hasT (((l.getD i default)).kind)) X0),(5,X (Xk (hasT (((l.getD i default)).kind))))]] ((hasT (((l.getD i default)).kind))&& !(endsD s)) (fun h7=> ?_) (fun h7=> ?_)
   ·
    have T:=z9y (i:=i) (fl_3 h2 h5 h7) (by decide)
    have e7:((z1p l i s).length:Nat)=l.length:=by
     rw[T.1]
    have e8:((z1p l i s):List Node)=l:=by
     exact T.1
    have e9:((z05 l (l.getD i default) s):Int)=4:=by
     exact T.2
    exact .finE [.r []] [(0,0),(1,1)] (fun((z0,z1,z2):Nat×(List Node)×Int)=>(VI z2,[(0,.box [.row 1 z0]),(1,OR 9 nodeT z1)])) _ _ (pr e7 (pr e8 e9))
   ·
    have F:=fl_4 (l:=l) h2 h5 h7
    refine .loop (α:=Nat) [.r [(1,X (Xl z0c s))]] 338 (fun a=>([(0,.ptr 0 0),(1,.eptr 1 l.length i 0),(2,VL 4 z0c s),(7,VB (hasT (((l.getD i default)).kind))),(50,VL 4 z0c s),(51,VI (s.length:Int)),(52,VI (a:Int))],[(0,.box [.row 1 l.length]),(1,OR 9 nodeT l)])) (fun a=>a<=s.length/\addsE l (l.getD i default).kind s=addsE l (l.getD i default).kind (s.drop a)) (fun a=>s.length-a) (0:Nat) ?_ ?_
    ·
     exact⟨by omega,rfl⟩
    rintro a I10 ih10
    try dsimp only at I10
    refine .bp [.r []] (decide ((a:Int)< (s.length:Int))) (fun h10=> ?_) (fun h10=> ?_)
    ·
     have hd1:=(hd _ (z0n (l:=s) (i:=a) (by omega))).1
     refine .loop (α:=Nat) [.r [(0,X (Xi z0c s (a:Int)))],.r [(2,X (Xl elemT (((s.getD a default)).elems)))]] 410 (fun b=>([(0,.ptr 0 0),(1,.eptr 1 l.length i 0),(2,VL 4 z0c s),(7,VB (hasT (((l.getD i default)).kind))),(50,VL 4 z0c s),(51,VI (s.length:Int)),(52,VI (a:Int)),(57,VL 3 elemT (((s.getD a default)).elems)),(58,VI ((((s.getD a default)).elems).length:Int)),(59,VI (b:Int))],[(0,.box [.row 1 l.length]),(1,OR 9 nodeT l)])) (fun b=>b<=(s.getD a default).elems.length/\addsE l (l.getD i default).kind s=if z1X (newE l (l.getD i default).kind) ((s.getD a default).elems.drop b)≠0 then z1X (newE l (l.getD i default).kind) ((s.getD a default).elems.drop b) else addsE l (l.getD i default).kind (s.drop (a+1))) (fun b=>(s.getD a default).elems.length-b) (0:Nat) ?_ ?_
     ·
      exact⟨by omega,by rw[I10.2];exact z2S _ (by omega)⟩
     rintro b I13 ih13
     try dsimp only at I13
     refine .bp [.r []] (decide ((b:Int)< ((((s.getD a default)).elems).length:Int))) (fun h13=> ?_) (fun h13=> ?_)
     ·
      refine .bp [.r [(0,X (Xi elemT (((s.getD a default)).elems) (b:Int)))],.r [(5,Xv 1 (((((((s.getD a default)).elems).getD b default)).ref)==0) X0),(6,X (Xk (((((((s.getD a default)).elems).getD b default)).ref)==0)))]] ((((((((s.getD a default)).elems).getD b default)).ref)==0)&& !(hasT (((l.getD i default)).kind))) (fun h15=> ?_) (fun h15=> ?_)
      ·
       have hx:newE l (l.getD i default).kind ((s.getD a default).elems.getD b default)=8:=y91 h15
       have T:=z9y (i:=i) (k:=8) (F.trans (I13.2.trans (by rw[z2S _ (by omega),hx];rfl))) (by decide)
       have e10:((z1p l i s).length:Nat)=l.length:=by
        rw[T.1]
       have e11:((z1p l i s):List Node)=l:=by
        exact T.1
       have e12:((z05 l (l.getD i default) s):Int)=8:=by
        exact T.2
       exact .finE [.r []] [(0,0),(1,1)] (fun((z0,z1,z2):Nat×(List Node)×Int)=>(VI z2,[(0,.box [.row 1 z0]),(1,OR 9 nodeT z1)])) _ _ (pr e10 (pr e11 e12))
      ·
       refine .bp [.r [(6,X (Xe nodeT l i)),(9,X (Xc1 578 (z6F [(((((s.getD a default)).elems).getD b default))] (by first|omega|simp)) (rowC elemT [(((((s.getD a default)).elems).getD b default))] X0))),(10,X (Xc0 (z4L ({nodes:=l}:Doc) (((l.getD i default)).kind) (refsF [(((((s.getD a default)).elems).getD b default))]) (by assumption) (by assumption)) (rowC nodeT l (rowC intT (refsF [(((((s.getD a default)).elems).getD b default))]) X0))))],.r []] ((refsE (({nodes:=l}:Doc)).nodes (((l.getD i default)).kind) (refsF [(((((s.getD a default)).elems).getD b default))]) 0) !=0) (fun h18=> ?_) (fun h18=> ?_)
       ·
        have hx:newE l (l.getD i default).kind ((s.getD a default).elems.getD b default)=refsE l (l.getD i default).kind (refsF [((s.getD a default).elems.getD b default)]) 0:=y72 h15
        have T:=z9y (i:=i) (F.trans (I13.2.trans (by rw[z2S _ (by omega),hx,if_pos h18,if_pos h18]))) h18
        have e13:((z1p l i s).length:Nat)=l.length:=by
         rw[T.1]
        have e14:((z1p l i s):List Node)=l:=by
         exact T.1
        have e15:((z05 l (l.getD i default) s):Int)=(refsE (({nodes:=l}:Doc)).nodes (((l.getD i default)).kind) (refsF [(((((s.getD a default)).elems).getD b default))]) 0):=by
         exact T.2
        exact .finE [.r []] [(0,0),(1,1)] (fun((z0,z1,z2):Nat×(List Node)×Int)=>(VI z2,[(0,.box [.row 1 z0]),(1,OR 9 nodeT z1)])) _ _ (pr e13 (pr e14 e15))
       ·
        refine .back [.r [(0,X (Xn ((b:Int)+1)))]] [(0,0),(1,1)] (ih13 ((b+1):Nat) ?_ ?_)
        ·
         have hx:newE l (l.getD i default).kind ((s.getD a default).elems.getD b default)=0:=(y72 h15).trans h18
         exact⟨by omega,I13.2.trans (by rw[z2S _ (by omega),hx];rfl)⟩
        ·
         ((try dsimp only);omega)
     ·
      refine .back [.r [(0,X (Xn ((a:Int)+1)))]] [(0,0),(1,1)] (ih10 ((a+1):Nat) ?_ ?_)
      ·
       exact⟨by omega,I13.2.trans (by rw[z41 _ (by omega)];rfl)⟩
      ·
       ((try dsimp only);omega)
    ·
     have T:=fl_ok (i:=i) (F.trans (I10.2.trans (z41 _ (by omega))))
     have e16:((z1p l i s).length:Nat)=l.length:=by
      rw[T.1];exact zq ..
     have e17:((z1p l i s):List Node)=(l.set i ({id:=((l.getD i default)).id,kind:=((l.getD i default)).kind,attrs:=((l.getD i default)).attrs,flow:=(rawD (((l.getD i default)).flow) s),grid:=(((l.getD i default)).grid),draw:=((l.getD i default)).draw}:Node)):=by
      exact T.1
     have e18:((z05 l (l.getD i default) s):Int)=0:=by
      exact T.2
     exact .finE [.r [(4,X (Xe nodeT l i)),(6,X (Xc1 394 (y8A (((l.getD i default)).flow) s (by assumption) (by assumption) (by assumption) (by omega)) X0)),(9,X (Xs 9 nodeT 1 l i ({id:=((l.getD i default)).id,kind:=((l.getD i default)).kind,attrs:=((l.getD i default)).attrs,flow:=(rawD (((l.getD i default)).flow) s),grid:=(((l.getD i default)).grid),draw:=((l.getD i default)).draw}:Node)))],.r []] [(0,0),(1,1)] (fun((z0,z1,z2):Nat×(List Node)×Int)=>(VI z2,[(0,.box [.row 1 z0]),(1,OR 9 nodeT z1)])) _ _ (pr e16 (pr e17 e18))
theorem y5W(l:List Node)(i:Nat)(g:GEd)(hi:i<l.length)(hb:GrB l i g):FC Tryz.prog 71 [.ptr 0 0,.eptr 1 l.length i 0,.t (gedT g)] (app emp [(0,.box [.row 1 l.length]),(1,OR 9 nodeT l)]) (VI (z1l l (l.getD i default) g)) (app emp [(0,.box [.row 1 ((z1z l i g).length)]),(1,OR 9 nodeT (z1z l i g))]):=by
 refine .go Tryz.f71 ?_
 obtain⟨hl1,hs,hg,hm,hx,l1,l2,a1,a2,hk⟩:=hb
 refine .bp [.r [],.r [(3,X (Xe nodeT l i)),(4,X (Xc0 (y2x (((l.getD i default)).kind)) X0))]] (!(hasG (((l.getD i default)).kind))) (fun h1=> ?_) (fun h1=> ?_)
 ·
  have T:=y2c (i:=i) (gr_1 (g:=g) h1) (by decide)
  have e1:((z1z l i g).length:Nat)=l.length:=by
   rw[T.1]
  have e2:((z1z l i g):List Node)=l:=by
   exact T.1
  have e3:((z1l l (l.getD i default) g):Int)=8:=by
   exact T.2
  exact .finE [.r []] [(0,0),(1,1)] (fun((z0,z1,z2):Nat×(List Node)×Int)=>(VI z2,[(0,.box [.row 1 z0]),(1,OR 9 nodeT z1)])) _ _ (pr e1 (pr e2 e3))
 ·
  refine .bp [.r [(3,X (Xe nodeT l i)),(6,X (Xc0 (z9V (((l.getD i default)).kind) g.cells) X0))],.r []] ((cellK (((l.getD i default)).kind) g.cells 0) !=0) (fun h4=> ?_) (fun h4=> ?_)
  ·
   have T:=y2c (i:=i) (gr_2 h1 h4) h4
   have e4:((z1z l i g).length:Nat)=l.length:=by
    rw[T.1]
   have e5:((z1z l i g):List Node)=l:=by
    exact T.1
   have e6:((z1l l (l.getD i default) g):Int)=(cellK (((l.getD i default)).kind) g.cells 0):=by
    exact T.2
   exact .finE [.r []] [(0,0),(1,1)] (fun((z0,z1,z2):Nat×(List Node)×Int)=>(VI z2,[(0,.box [.row 1 z0]),(1,OR 9 nodeT z1)])) _ _ (pr e4 (pr e5 e6))
  ·
   refine .bp [.r [(3,X (Xe nodeT l i)),(5,X (Xc0 (x0j (((l.getD i default)).grid) g (by assumption) (by assumption) (by assumption)) X0))],.r []] ((fitsE (((l.getD i default)).grid) g) !=0) (fun h7=> ?_) (fun h7=> ?_)
   ·
    have T:=y2c (i:=i) (gr_3 h1 h4 h7) h7
    have e7:((z1z l i g).length:Nat)=l.length:=by
     rw[T.1]
    have e8:((z1z l i g):List Node)=l:=by
     exact T.1
    have e9:((z1l l (l.getD i default) g):Int)=(fitsE (((l.getD i default)).grid) g):=by
     exact T.2
    exact .finE [.r []] [(0,0),(1,1)] (fun((z0,z1,z2):Nat×(List Node)×Int)=>(VI z2,[(0,.box [.row 1 z0]),(1,OR 9 nodeT z1)])) _ _ (pr e7 (pr e8 e9))
   ·
    have F:=gr_4 (l:=l) h1 h4 h7
    have hr:=RawT.of h7 hm hg l1 l2 a1 a2
    refine .loop (α:=Nat) [.r [(2,X (Xl cellT g.cells))]] 250 (fun b=>([(0,.ptr 0 0),(1,.eptr 1 l.length i 0),(5,.ptr 2 0),(43,VL 5 cellT g.cells),(44,VI (g.cells.length:Int)),(45,VI (b:Int))],[(0,.box [.row 1 l.length]),(1,OR 9 nodeT l),(2,.box [VL 2 stepT g.rows,VL 2 stepT g.cols,VL 5 cellT g.cells,VL 4 rectT g.split,VL 4 rectT g.merge])])) (fun b=>b<=g.cells.length/\z1X (newC l (l.getD i default).kind) g.cells=z1X (newC l (l.getD i default).kind) (g.cells.drop b)) (fun b=>g.cells.length-b) (0:Nat) ?_ ?_
    ·
     exact⟨by omega,rfl⟩
    rintro b I10 ih10
    try dsimp only at I10
    refine .bp [.r []] (decide ((b:Int)< (g.cells.length:Int))) (fun h10=> ?_) (fun h10=> ?_)
    ·
     refine .bp [.r [(0,X (Xi cellT g.cells (b:Int)))],.r []] ((((g.cells.getD b default)).ref)==0) (fun h12=> ?_) (fun h12=> ?_)
     ·
      refine .back [.r [(0,X (Xn ((b:Int)+1)))]] [(0,0),(1,1),(2,2)] (ih10 ((b+1):Nat) ?_ ?_)
      ·
       exact⟨by omega,I10.2.trans (y2d _ (by omega) (by first|exact y73 h12|exact(y48 h12).trans h14))⟩
      ·
       ((try dsimp only);omega)
     ·
      refine .bp [.r [(6,X (Xe nodeT l i)),(10,X (Xc0 (z4L ({nodes:=l}:Doc) (((l.getD i default)).kind) [((g.cells.getD b default)).ref] (by assumption) (by assumption)) (rowC nodeT l (rowC intT [((g.cells.getD b default)).ref] X0))))],.r []] ((refsE (({nodes:=l}:Doc)).nodes (((l.getD i default)).kind) [((g.cells.getD b default)).ref] 0) !=0) (fun h14=> ?_) (fun h14=> ?_)
      ·
       have hx:newC l (l.getD i default).kind (g.cells.getD b default)=refsE l (l.getD i default).kind [(g.cells.getD b default).ref] 0:=y48 h12
       have T:=y2c (i:=i) (F.trans (I10.2.trans (by rw[z2S _ (by omega),hx,if_pos h14]))) h14
       have e10:((z1z l i g).length:Nat)=l.length:=by
        rw[T.1]
       have e11:((z1z l i g):List Node)=l:=by
        exact T.1
       have e12:((z1l l (l.getD i default) g):Int)=(refsE (({nodes:=l}:Doc)).nodes (((l.getD i default)).kind) [((g.cells.getD b default)).ref] 0):=by
        exact T.2
       exact .finE [.r []] [(0,0),(1,1)] (fun((z0,z1,z2):Nat×(List Node)×Int)=>(VI z2,[(0,.box [.row 1 z0]),(1,OR 9 nodeT z1)])) _ _ (pr e10 (pr e11 e12))
      ·
       refine .back [.r [(0,X (Xn ((b:Int)+1)))]] [(0,0),(1,1),(2,2)] (ih10 ((b+1):Nat) ?_ ?_)
       ·
        exact⟨by omega,I10.2.trans (y2d _ (by omega) (by first|exact y73 h12|exact(y48 h12).trans h14))⟩
       ·
        ((try dsimp only);omega)
    ·
     refine .bp [.r [(3,X (Xe nodeT l i))]] ((((l.getD i default)).kind)==2) (fun h17=> ?_) (fun h17=> ?_)
     ·
      have T:=gr_ok (i:=i) (F.trans (I10.2.trans (z41 _ (by omega))))
      have e13:((z1z l i g).length:Nat)=l.length:=by
       rw[T.1];exact zq ..
      have e14:((z1z l i g):List Node)=(l.set i ({id:=((l.getD i default)).id,kind:=((l.getD i default)).kind,attrs:=((l.getD i default)).attrs,flow:=((l.getD i default)).flow,grid:=((rawT (((l.getD i default)).grid) g)),draw:=((l.getD i default)).draw}:Node)):=by
       exact T.1
      have e15:((z1l l (l.getD i default) g):Int)=0:=by
       exact T.2
      exact .finE [.r [(4,X (Xe nodeT l i)),(6,X (Xc1 346 (y9q (((l.getD i default)).grid) g (by assumption)) X0)),(9,X (Xs 9 nodeT 1 l i ({id:=((l.getD i default)).id,kind:=((l.getD i default)).kind,attrs:=((l.getD i default)).attrs,flow:=((l.getD i default)).flow,grid:=((rawT (((l.getD i default)).grid) g)),draw:=((l.getD i default)).draw}:Node)))],.r []] [(0,0),(1,1)] (fun((z0,z1,z2):Nat×(List Node)×Int)=>(VI z2,[(0,.box [.row 1 z0]),(1,OR 9 nodeT z1)])) _ _ (pr e13 (pr e14 e15))
     ·
      exfalso
      exact y92 h1 hk h17
theorem y9A(l:List Node)(o:EOp)(hb:OneB l o):FC Tryz.prog 32 [.ptr 0 0,.t (eopT o)] (app emp [(0,.box [.row 1 l.length]),(1,OR 9 nodeT l)]) (VI (oneE l o)) (app emp [(0,.box [.row 1 ((oneL l o).length)]),(1,OR 9 nodeT (oneL l o))]):=by
 refine .go Tryz.f32 ?_
 obtain⟨hl1,hl2,hs⟩:=hb.base
 refine .bp [.r [],.r []] (o.kind==0) (fun h1=> ?_) (fun h1=> ?_)
 ·
  obtain⟨n1,n2⟩:=hb.nw h1
  have T:=one_0 (l:=l) h1
  have e1:((oneL l o).length:Nat)=(insR l o.nw).length:=by
   rw[T.1]
  have e2:((oneL l o):List Node)=(insR l o.nw):=by
   exact T.1
  have e3:((oneE l o):Int)=(adnE l o.nw):=by
   exact T.2
  exact .finE [.r [(3,X (Xc3 66 [(0,0),(1,1)] (y3f l o.nw (by omega) (by assumption) (by assumption) (by assumption)) X0))]] [(0,0),(1,1)] (fun((z0,z1,z2):Nat×(List Node)×Int)=>(VI z2,[(0,.box [.row 1 z0]),(1,OR 9 nodeT z1)])) _ _ (pr e1 (pr e2 e3))
 ·
  refine .bp [.r [(5,X (Xc0 (z5N ({nodes:=l}:Doc) o.node (by assumption) (by assumption)) (rowC nodeT l X0)))],.r []] (decide ((ixN (({nodes:=l}:Doc)).nodes o.node)< 0)) (fun h4=> ?_) (fun h4=> ?_)
  ·
   have T:=one_1 h1 (y46.1 h4)
   have e4:((oneL l o).length:Nat)=l.length:=by
    rw[T.1]
   have e5:((oneL l o):List Node)=l:=by
    exact T.1
   have e6:((oneE l o):Int)=7:=by
    exact T.2
   exact .finE [.r []] [(0,0),(1,1)] (fun((z0,z1,z2):Nat×(List Node)×Int)=>(VI z2,[(0,.box [.row 1 z0]),(1,OR 9 nodeT z1)])) _ _ (pr e4 (pr e5 e6))
  ·
   have hh:=y45.1 h4
   have hlt:=(z03.1 hh).1
   have hbn:=hb.nd hh
   refine .bp [.le (.eq 5 (VI (ixN (({nodes:=l}:Doc)).nodes o.node)) (VI ((lobN l o.node):Int)) (.of_eq (by rw[y0H hh]))),.r [(5,X (Xp nodeT l ((lobN l o.node):Int)))],.r [],.r []] (o.kind==1) (fun h8=> ?_) (fun h8=> ?_)
   ·
    have T:=one_2 hh h8
    have e7:((oneL l o).length:Nat)=l.length:=by
     rw[T.1];exact zq ..
    have e8:((oneL l o):List Node)=(l.set (lobN l o.node) ({id:=((l.getD (lobN l o.node) default)).id,kind:=((l.getD (lobN l o.node) default)).kind,attrs:=(fm rawG (((l.getD (lobN l o.node) default)).attrs) o.attrs),flow:=((l.getD (lobN l o.node) default)).flow,grid:=(((l.getD (lobN l o.node) default)).grid),draw:=((l.getD (lobN l o.node) default)).draw}:Node)):=by
     exact T.1
    have e9:((oneE l o):Int)=0:=by
     exact T.2
    exact .finE [.r [(4,X (Xe nodeT l (lobN l o.node))),(7,X (Xc1 258 (z4s (((l.getD (lobN l o.node) default)).attrs) o.attrs (by omega)) X0)),(10,X (Xs 9 nodeT 1 l (lobN l o.node) ({id:=((l.getD (lobN l o.node) default)).id,kind:=((l.getD (lobN l o.node) default)).kind,attrs:=(fm rawG (((l.getD (lobN l o.node) default)).attrs) o.attrs),flow:=((l.getD (lobN l o.node) default)).flow,grid:=(((l.getD (lobN l o.node) default)).grid),draw:=((l.getD (lobN l o.node) default)).draw}:Node)))],.r []] [(0,0),(1,1)] (fun((z0,z1,z2):Nat×(List Node)×Int)=>(VI z2,[(0,.box [.row 1 z0]),(1,OR 9 nodeT z1)])) _ _ (pr e7 (pr e8 e9))
   ·
    refine .bp [.r []] (o.kind==2) (fun h11=> ?_) (fun h11=> ?_)
    ·
     have T:=one_3 (l:=l) hh h11
     have hfl:=hb.fl hh h11
     have e10:((oneL l o).length:Nat)=(z1p l (lobN l o.node) o.steps).length:=by
      rw[T.1]
     have e11:((oneL l o):List Node)=(z1p l (lobN l o.node) o.steps):=by
      exact T.1
     have e12:((oneE l o):Int)=(z05 l ((l).getD (lobN l o.node) default) o.steps):=by
      exact T.2
     exact .finE [.r [(4,X (Xc3 250 [(0,0),(1,1)] (y5V l (lobN l o.node) o.steps (by assumption) (by assumption)) X0))]] [(0,0),(1,1)] (fun((z0,z1,z2):Nat×(List Node)×Int)=>(VI z2,[(0,.box [.row 1 z0]),(1,OR 9 nodeT z1)])) _ _ (pr e10 (pr e11 e12))
    ·
     refine .bp [.r []] (o.kind==3) (fun h13=> ?_) (fun h13=> ?_)
     ·
      have T:=one_4 (l:=l) hh h13
      have hgr:=hb.gr hh h13
      have e13:((oneL l o).length:Nat)=(z1z l (lobN l o.node) o.grid).length:=by
       rw[T.1]
      have e14:((oneL l o):List Node)=(z1z l (lobN l o.node) o.grid):=by
       exact T.1
      have e15:((oneE l o):Int)=(z1l l ((l).getD (lobN l o.node) default) o.grid):=by
       exact T.2
      exact .finE [.r [(4,X (Xc3 266 [(0,0),(1,1)] (y5W l (lobN l o.node) o.grid (by assumption) (by assumption)) X0))]] [(0,0),(1,1)] (fun((z0,z1,z2):Nat×(List Node)×Int)=>(VI z2,[(0,.box [.row 1 z0]),(1,OR 9 nodeT z1)])) _ _ (pr e13 (pr e14 e15))
     ·
      have hkk:=hb.kd h1 h8 h11 h13
      refine .bp [.r [(3,X (Xe nodeT l (lobN l o.node))),(4,X (Xc0 (y2y (((l.getD (lobN l o.node) default)).kind)) X0))]] (!(hasD (((l.getD (lobN l o.node) default)).kind))) (fun h15=> ?_) (fun h15=> ?_)
      ·
       have T:=one_5 hh hkk h15
       have e16:((oneL l o).length:Nat)=l.length:=by
        rw[T.1]
       have e17:((oneL l o):List Node)=l:=by
        exact T.1
       have e18:((oneE l o):Int)=8:=by
        exact T.2
       exact .finE [.r []] [(0,0),(1,1)] (fun((z0,z1,z2):Nat×(List Node)×Int)=>(VI z2,[(0,.box [.row 1 z0]),(1,OR 9 nodeT z1)])) _ _ (pr e16 (pr e17 e18))
      ·
       have hdr:=hb.dr hh hkk
       refine .bp [.r [(3,X (Xe nodeT l (lobN l o.node))),(6,X (Xc1 330 (y2u (((l.getD (lobN l o.node) default)).draw) o.draw (by first|omega| (simp;omega))) X0))],.r []] ((if(z0B (((l.getD (lobN l o.node) default)).draw) o.draw).isSome then(0:Int) else 6)==0) (fun h18=> ?_) (fun h18=> ?_)
       ·
        have T:=one_6 (l:=l) hh hkk h15
        have e19:((oneL l o).length:Nat)=l.length:=by
         rw[T.1 h18];exact zq ..
        have e20:((oneL l o):List Node)=(l.set (lobN l o.node) ({id:=((l.getD (lobN l o.node) default)).id,kind:=((l.getD (lobN l o.node) default)).kind,attrs:=((l.getD (lobN l o.node) default)).attrs,flow:=((l.getD (lobN l o.node) default)).flow,grid:=(((l.getD (lobN l o.node) default)).grid),draw:=((z0B (((l.getD (lobN l o.node) default)).draw) o.draw).getD [])}:Node)):=by
         exact T.1 h18
        have e21:((oneE l o):Int)=(if(z0B (((l.getD (lobN l o.node) default)).draw) o.draw).isSome then(0:Int) else 6):=by
         exact T.2.2
        exact .finE [.r [(4,X (Xs 9 nodeT 1 l (lobN l o.node) ({id:=((l.getD (lobN l o.node) default)).id,kind:=((l.getD (lobN l o.node) default)).kind,attrs:=((l.getD (lobN l o.node) default)).attrs,flow:=((l.getD (lobN l o.node) default)).flow,grid:=(((l.getD (lobN l o.node) default)).grid),draw:=((z0B (((l.getD (lobN l o.node) default)).draw) o.draw).getD [])}:Node)))],.r []] [(0,0),(1,1)] (fun((z0,z1,z2):Nat×(List Node)×Int)=>(VI z2,[(0,.box [.row 1 z0]),(1,OR 9 nodeT z1)])) _ _ (pr e19 (pr e20 e21))
       ·
        have T:=one_6 (l:=l) hh hkk h15
        have e22:((oneL l o).length:Nat)=l.length:=by
         rw[T.2.1 h18]
        have e23:((oneL l o):List Node)=l:=by
         exact T.2.1 h18
        have e24:((oneE l o):Int)=(if(z0B (((l.getD (lobN l o.node) default)).draw) o.draw).isSome then(0:Int) else 6):=by
         exact T.2.2
        exact .finE [.r []] [(0,0),(1,1)] (fun((z0,z1,z2):Nat×(List Node)×Int)=>(VI z2,[(0,.box [.row 1 z0]),(1,OR 9 nodeT z1)])) _ _ (pr e22 (pr e23 e24))
theorem y2A(d:Doc)(c:List EOp)(hb:AppB d c):FC Tryz.prog 10 [.t (docT d),VL 19 eopT c] (app emp []) (.tup [.t (docT (appD d c)),VI (appE d c)]) (app emp []):=by
 refine .go Tryz.f10 ?_
 refine .len 1 (fun hl1=> ?_)
 obtain⟨hd,ho,hr⟩:=hb
 have hdb:=hd.toDocB
 refine .bp [.r [],.r [(1,X (Xc0 (z29 d (by assumption)) X0))],.r []] ((docE d) !=0) (fun h2=> ?_) (fun h2=> ?_)
 ·
  have T:=app_1 (c:=c) h2
  have e1:((appD d c):Doc)=({nodes:=[]}:Doc):=by
   exact T.1
  have e2:((appE d c):Int)=(docE d):=by
   exact T.2
  exact .finVE [.r [(0,X (Xf [(0,9)]))]] [] [] (fun((z0,z1):Doc×Int)=>(.tup [.t (docT z0),VI z1],[])) _ _ (pr e1 e2)
 ·
  refine .bp [.r [(1,X (Xc0 (y5N c (by assumption)) X0))],.r []] ((eopsE c 0) !=0) (fun h5=> ?_) (fun h5=> ?_)
  ·
   have T:=app_2 (d:=d) (by omega) h5
   have e3:((appD d c):Doc)=({nodes:=[]}:Doc):=by
    exact T.1
   have e4:((appE d c):Int)=(eopsE c 0):=by
    exact T.2
   exact .finVE [.r [(0,X (Xf [(0,9)]))]] [] [] (fun((z0,z1):Doc×Int)=>(.tup [.t (docT z0),VI z1],[])) _ _ (pr e3 e4)
  ·
   refine .loop (α:=Nat×(List Node)) [.r [(1,X (Xc1 112 (z9Y d (by assumption)) X0))],.r [(1,X (Xl eopT c))]] 160 (fun(i,o)=>([(4,.ptr 8 0),(8,.ptr 120 0),(26,VL 19 eopT c),(27,VI (c.length:Int)),(28,VI (i:Int))],[(8,.box [VN]),(113,OR 9 nodeT o),(120,.box [.row 113 o.length])])) (fun(i,o)=>i<=c.length/\RunB o (c.drop i)/\runE d.nodes c=runE o (c.drop i)/\runL d.nodes c=runL o (c.drop i)) (fun(i,o)=>c.length-i) (0,(d).nodes) ?_ ?_
   ·
    exact⟨by omega,hr (by omega) (by omega),rfl,rfl⟩
   rintro⟨i,o⟩ I9 ih9
   try dsimp only at I9
   refine .bp [.r []] (decide ((i:Int)< (c.length:Int))) (fun h9=> ?_) (fun h9=> ?_)
   ·
    obtain⟨q1,q2,q3,q4⟩:=I9
    rw[z3L (by omega)] at q2 q3 q4
    have hone:=q2.1
    refine .bp [.r [(0,X (Xi eopT c (i:Int)))],.r [(1,X (Xc3 208 [(0,120),(1,113)] (y9A o ((c.getD i default)) (by assumption)) X0))],.r []] ((oneE o ((c.getD i default))) !=0) (fun h12=> ?_) (fun h12=> ?_)
    ·
     have T:=app_3 (d:=d) (c:=c) (by omega) (by omega) (q3.trans (by rw[runE,if_pos h12])) h12
     have e5:((appD d c):Doc)=({nodes:=[]}:Doc):=by
      exact T.1
     have e6:((appE d c):Int)=(oneE o ((c.getD i default))):=by
      exact T.2
     exact .finVE [.r [(0,X (Xf [(0,9)]))]] [] [] (fun((z0,z1):Doc×Int)=>(.tup [.t (docT z0),VI z1],[])) _ _ (pr e5 e6)
    ·
     refine .back [.r [(0,X (Xn ((i:Int)+1)))]] [(8,8),(113,113),(120,120)] (ih9 ((i+1),(oneL o ((c.getD i default)))) ?_ ?_)
     ·
      rw[runE,if_neg (by omega)] at q3
      exact⟨by omega,q2.2 h12,q3,q4⟩
     ·
      ((try dsimp only);omega)
   ·
    have T:=app_4 (d:=d) (c:=c) (by omega) (by omega) (I9.2.2.1.trans (by rw[qT (by omega)];try rfl)) (I9.2.2.2.trans (by rw[qT (by omega)];try rfl))
    have e7:((appD d c):Doc)=({nodes:=o}:Doc):=by
     exact T.1
    have e8:((appE d c):Int)=0:=by
     exact T.2
    exact .finVE [.r []] [.fR 0 [(o.length:Nat)=(List.map nodeT o).length] ⟨lm,trivial⟩] [] (fun((z0,z1):Doc×Int)=>(.tup [.t (docT z0),VI z1],[])) _ _ (pr e7 e8)
theorem y2B:FC Tryz.prog 17 [] (app emp []) (.t (docT z0s)) (app emp []):=by
 refine .go Tryz.f17 ?_
 have e1:(z0s:Doc)=({nodes:=[({id:=1,kind:=0,attrs:=[],flow:=[({char:=0,ref:=2,attrs:=[]}:Elem)],grid:=({rows:=0,cols:=0,cells:=[],merges:=[]}:Grid),draw:=[]}:Node),({id:=2,kind:=1,attrs:=[],flow:=[({char:=10,ref:=0,attrs:=[]}:Elem)],grid:=({rows:=0,cols:=0,cells:=[],merges:=[]}:Grid),draw:=[]}:Node)]}:Doc):=by
  rfl
 exact .finVE [.r [],.r [(0,X (Xf [(2,2)])),(2,X (Xf [(2,2),(6,5),(7,4),(8,8)])),(3,X (Xf [(2,2)])),(5,X (Xf [(2,2),(6,5),(7,4),(8,8)])),(6,X (rowC elemT [({char:=0,ref:=2,attrs:=[]}:Elem)] (rowC elemT [({char:=10,ref:=0,attrs:=[]}:Elem)] X0)))]] [.fR 0 [(2:Nat)=(List.map nodeT [({id:=1,kind:=0,attrs:=[],flow:=[({char:=0,ref:=2,attrs:=[]}:Elem)],grid:=({rows:=0,cols:=0,cells:=[],merges:=[]}:Grid),draw:=[]}:Node),({id:=2,kind:=1,attrs:=[],flow:=[({char:=10,ref:=0,attrs:=[]}:Elem)],grid:=({rows:=0,cols:=0,cells:=[],merges:=[]}:Grid),draw:=[]}:Node)]).length] ⟨lm,trivial⟩] [] (fun z0:Doc=>(.t (docT z0),[])) _ _ e1
theorem y5X:FC Tryz.prog 17 [] (app emp []) (.agg [.bsl 1 2]) (app emp [(0,.box [.bsl 1 2]),(1,.box [VI 1,VI 0,VL 2 attrT [],.row 2 1,VI 0,VI 0,VL 5 cellT [],VL 4 rectT [],VL 8 dopT [],VI 2,VI 1,VL 2 attrT [],.row 3 1,VI 0,VI 0,VL 5 cellT [],VL 4 rectT [],VL 8 dopT []]),(2,OR 3 elemT [({char:=0,ref:=2,attrs:=[]}:Elem)]),(3,OR 3 elemT [({char:=10,ref:=0,attrs:=[]}:Elem)])]):=by
 refine .go Tryz.f17 ?_
 exact .fin [.r [],.r [(0,X (Xf [(2,2)])),(2,X (Xf [(2,2),(6,5),(7,4),(8,8)])),(3,X (Xf [(2,2)])),(5,X (Xf [(2,2),(6,5),(7,4),(8,8)])),(6,X Xbsl)]] [(0,0),(56,1),(16,2),(40,3)]
theorem y9B:FC Tryz.prog 91 [.t (.agg [TI 1,TI 0,Ab.TB true]),.ptr 0 0,.ptr 1 0] (app emp [(0,.box [VI 2]),(1,.box [VB false])]) (VB true) (app emp [(0,.box [VI 2]),(1,.box [VB false])]):=by
 refine .go Tryz.f91 ?_
 exact .fin [.r [],.r [],.f,.r []] [(0,0),(1,1)]
theorem y9C:FC Tryz.prog 91 [.t (.agg [TI 2,TI 1,Ab.TB true]),.ptr 0 0,.ptr 1 0] (app emp [(0,.box [VI 2]),(1,.box [VB false])]) (VB false) (app emp [(0,.box [VI 2]),(1,.box [VB true])]):=by
 refine .go Tryz.f91 ?_
 exact .fin [.r [],.r [],.t,.r [],.r []] [(0,0),(1,1)]
theorem fc_w2:FC Tryz.prog 164 [.t (.agg [TI 2,TI 1,Ab.TB true]),.ptr 0 0,.ptr 1 0,.ptr 2 0,.ptr 3 0] (app emp [(0,.box [.hdl 4]),(1,.box [.fn 91 [.ptr 5 0,.ptr 6 0]]),(2,.box [VL 9 nodeT z0s.nodes]),(3,.box [.fn 164 [.ptr 0 0,.ptr 1 0,.ptr 2 0,.ptr 3 0]]),(4,.mp (List.map onM [1]) none),(5,.box [VI 2]),(6,.box [VB false])]) (VB false) (app emp [(0,.box [.hdl 4]),(1,.box [.fn 91 [.ptr 5 0,.ptr 6 0]]),(2,.box [VL 9 nodeT z0s.nodes]),(3,.box [.fn 164 [.ptr 0 0,.ptr 1 0,.ptr 2 0,.ptr 3 0]]),(4,.mp (List.map onM [1,2]) none),(5,.box [VI 2]),(6,.box [VB true])]):=by
 refine .go Tryz.f164 ?_
 exact .fin [.r [],.r [(3,X (Xm0 (List.map onM [1]) 2) (by kernel_rfl))],.f,.r [(3,X (Xmu onM [1] [1,2] 2 4 (.im (Ab.TB true))) (by kernel_rfl))],.r [(2,X (Xc3 103 [(0,5),(1,6)] y9C X0))],.t,.r []] [(0,0),(1,1),(2,2),(3,3),(4,4),(5,5),(6,6)]
theorem fc_w1:FC Tryz.prog 164 [.t (.agg [TI 1,TI 0,Ab.TB true]),.ptr 0 0,.ptr 1 0,.ptr 2 0,.ptr 3 0] (app emp [(0,.box [.hdl 4]),(1,.box [.fn 91 [.ptr 5 0,.ptr 6 0]]),(2,.box [VL 9 nodeT z0s.nodes]),(3,.box [.fn 164 [.ptr 0 0,.ptr 1 0,.ptr 2 0,.ptr 3 0]]),(4,.mp (List.map onM []) none),(5,.box [VI 2]),(6,.box [VB false])]) (VB false) (app emp [(0,.box [.hdl 4]),(1,.box [.fn 91 [.ptr 5 0,.ptr 6 0]]),(2,.box [VL 9 nodeT z0s.nodes]),(3,.box [.fn 164 [.ptr 0 0,.ptr 1 0,.ptr 2 0,.ptr 3 0]]),(4,.mp (List.map onM [1,2]) none),(5,.box [VI 2]),(6,.box [VB true])]):=by
 refine .go Tryz.f164 ?_
 have hs:=z3N z8h
 have hl:z0s.nodes.length<=1048576:=by decide
 refine .bp [.r [],.r [(3,X (Xm0 (List.map onM []) 1) (by kernel_rfl))],.f,.r [(3,X (Xmu onM [] [1] 1 4 (.im (Ab.TB true))) (by kernel_rfl))],.r [(2,X (Xc3 103 [(0,5),(1,6)] y9B X0))],.f,.r [(3,X (Xc0 (z8u z0s 1 (by assumption) (by assumption)) X0))],.le (.eq 7 (VI (lobN (z0s).nodes 1:Int)) (VI 0) (.of_eq (by kernel_rfl))),.r [(3,X (Xi nodeT z0s.nodes 0) ⟨(by first|omega| (simp;omega)| (simp;done)|assumption),(by decide)⟩)],.r [(2,X (Xc1 263 (z6F (((z0s.nodes.getD 0 default)).flow) (by decide)) X0))],.u,.r []] (decide (0< ((refsF (((z0s.nodes.getD 0 default)).flow)).length:Int))) (fun h9=> ?_) (fun h9=> ?_)
 ·
  exact .fin [.r [(0,X (Xp intT (refsF (((z0s.nodes.getD 0 default)).flow)) 0)),(1,X (Xe intT (refsF (((z0s.nodes.getD 0 default)).flow)) 0))],.le (.eq 11 (VI ((refsF (((z0s.nodes.getD 0 default)).flow)).getD 0 default)) (VI 2) (.of_eq (by kernel_rfl))),.r [(7,X (Xc3 375 [(0,0),(1,1),(2,2),(3,3),(4,4),(5,5),(6,6)] fc_w2 X0))],.t,.r []] [(0,0),(1,1),(2,2),(3,3),(4,4),(5,5),(6,6)]
 ·
  exfalso
  exact absurd h9 (by decide)
theorem y7s:FC Tryz.prog 90 [.t (docT z0s),.fn 91 [.ptr 0 0,.ptr 1 0]] (app emp [(0,.box [VI 2]),(1,.box [VB false])]) (.tup []) (app emp [(0,.box [VI 2]),(1,.box [VB true])]):=by
 refine .go Tryz.f90 ?_
 exact .fin [.r [],.r [],.r [],.r [],.r [(2,X (Xc3 82 [(0,26),(1,10),(2,2),(3,42),(4,18),(5,0),(6,1)] fc_w1 X0))]] [(0,0),(1,1)]
theorem y3g:FC Tryz.prog 43 [.t (docT z0s),VI 2] (app emp []) (VB true) (app emp []):=by
 refine .go Tryz.f43 ?_
 have hb:=y0I
 refine .bp [.r [],.r [],.r [(1,X (Xc0 (z29 z0s (by assumption)) X0))]] ((docE z0s) !=0) (fun h2=> ?_) (fun h2=> ?_)
 ·
  exfalso
  exact h2 z8h
 ·
  exact .fin [.r [(2,X (Xc3 80 [(0,8),(1,24)] y7s X0))],.r []] []
theorem y9D:FC Tryz.prog 19 [] (app emp []) (VB true) (app emp []):=by
 refine .go Tryz.f19 ?_
 have hb:=y0I
 have e1:(((((docE z0s)==0)&&((z0s.nodes.length:Int)==2))||false):Bool)=true:=by
  rw[z8h];rfl
 exact .finE [.r [],.r [(0,X (Xc1 8 y2B X0))],.r [(1,X (Xc0 (z29 z0s (by assumption)) X0)),(5,Xv 1 ((docE z0s)==0) X0),(6,Xv 1 ((docE z0s)==0) (Xl nodeT z0s.nodes)),(7,Xv 1 ((docE z0s)==0) X0),(8,X (Xk ((docE z0s)==0))),(11,Xv 1 (((docE z0s)==0)&&((z0s.nodes.length:Int)==2)) (Xc0 y3g X0)),(12,X (Xk (((docE z0s)==0)&&((z0s.nodes.length:Int)==2))))]] [] (fun z0:Bool=>(VB z0,[])) _ _ e1.symm
theorem x0m(s:ByteArray):FC Tryz.prog 18 [VS s] (app emp []) (VL 2 attrT (onA s)) (app emp []):=by
 refine .go Tryz.f18 ?_
 have e1:((onA s):List Attr)=[({name:=s,val:={data:=#[111,110]}}:Attr)]:=by
  rfl
 exact .finE [.r [],.r [],.le (.fr 2 [(1:Nat)=(List.map attrT [({name:=s,val:={data:=#[111,110]}}:Attr)]).length] ⟨lm,trivial⟩)] [] (fun z0:List Attr=>(VL 2 attrT z0,[])) _ _ e1
theorem y7t:FC Tryz.prog 5 [] (app emp []) (VB true) (app emp []):=by
 refine .go Tryz.f5 ?_
 have hp:=y97
 have e1:((((true&&((appE z0s [({kind:=1,node:=2,nw:=({id:=0,kind:=0,attrs:=[],flow:=[],grid:=({rows:=0,cols:=0,cells:=[],merges:=[]}:Grid),draw:=[]}:Node),attrs:=(onA ({data:=#[116,105,116,108,101]})),steps:=[],grid:=({rows:=[],cols:=[],cells:=[],split:=[],merge:=[]}:GEd),draw:=[]}:EOp)])==0))&&(((((appD z0s [({kind:=1,node:=2,nw:=({id:=0,kind:=0,attrs:=[],flow:=[],grid:=({rows:=0,cols:=0,cells:=[],merges:=[]}:Grid),draw:=[]}:Node),attrs:=(onA ({data:=#[116,105,116,108,101]})),steps:=[],grid:=({rows:=[],cols:=[],cells:=[],split:=[],merge:=[]}:GEd),draw:=[]}:EOp)])).nodes).length:Int)==2))&&((((((((appD z0s [({kind:=1,node:=2,nw:=({id:=0,kind:=0,attrs:=[],flow:=[],grid:=({rows:=0,cols:=0,cells:=[],merges:=[]}:Grid),draw:=[]}:Node),attrs:=(onA ({data:=#[116,105,116,108,101]})),steps:=[],grid:=({rows:=[],cols:=[],cells:=[],split:=[],merge:=[]}:GEd),draw:=[]}:EOp)])).nodes).getD 1 default)).attrs).length:Int)==1)):Bool)=true:=by
  exact(by decide+kernel)
 exact .finE [.r [],.r [(0,X (Xc1 8 y2B X0)),(1,X (Xc1 16 (x0m ({data:=#[116,105,116,108,101]})) X0)),(2,X (Xf [(4,2),(5,3),(8,5),(9,4),(10,8),(12,4),(13,2),(14,2),(15,5),(16,4),(17,4),(18,8)])),(4,X (Xc1 40 (y2A z0s [({kind:=1,node:=2,nw:=({id:=0,kind:=0,attrs:=[],flow:=[],grid:=({rows:=0,cols:=0,cells:=[],merges:=[]}:Grid),draw:=[]}:Node),attrs:=(onA ({data:=#[116,105,116,108,101]})),steps:=[],grid:=({rows:=[],cols:=[],cells:=[],split:=[],merge:=[]}:GEd),draw:=[]}:EOp)] hp) (rowC eopT [({kind:=1,node:=2,nw:=({id:=0,kind:=0,attrs:=[],flow:=[],grid:=({rows:=0,cols:=0,cells:=[],merges:=[]}:Grid),draw:=[]}:Node),attrs:=(onA ({data:=#[116,105,116,108,101]})),steps:=[],grid:=({rows:=[],cols:=[],cells:=[],split:=[],merge:=[]}:GEd),draw:=[]}:EOp)] X0)))],.r [(0,X (Xc0 y9D X0)),(3,Xv 1 true X0),(4,X (Xk true)),(7,Xv 1 (true&&((appE z0s [({kind:=1,node:=2,nw:=({id:=0,kind:=0,attrs:=[],flow:=[],grid:=({rows:=0,cols:=0,cells:=[],merges:=[]}:Grid),draw:=[]}:Node),attrs:=(onA ({data:=#[116,105,116,108,101]})),steps:=[],grid:=({rows:=[],cols:=[],cells:=[],split:=[],merge:=[]}:GEd),draw:=[]}:EOp)])==0)) X0),(8,Xv 1 (true&&((appE z0s [({kind:=1,node:=2,nw:=({id:=0,kind:=0,attrs:=[],flow:=[],grid:=({rows:=0,cols:=0,cells:=[],merges:=[]}:Grid),draw:=[]}:Node),attrs:=(onA ({data:=#[116,105,116,108,101]})),steps:=[],grid:=({rows:=[],cols:=[],cells:=[],split:=[],merge:=[]}:GEd),draw:=[]}:EOp)])==0)) (Xl nodeT (((appD z0s [({kind:=1,node:=2,nw:=({id:=0,kind:=0,attrs:=[],flow:=[],grid:=({rows:=0,cols:=0,cells:=[],merges:=[]}:Grid),draw:=[]}:Node),attrs:=(onA ({data:=#[116,105,116,108,101]})),steps:=[],grid:=({rows:=[],cols:=[],cells:=[],split:=[],merge:=[]}:GEd),draw:=[]}:EOp)])).nodes))),(9,Xv 1 (true&&((appE z0s [({kind:=1,node:=2,nw:=({id:=0,kind:=0,attrs:=[],flow:=[],grid:=({rows:=0,cols:=0,cells:=[],merges:=[]}:Grid),draw:=[]}:Node),attrs:=(onA ({data:=#[116,105,116,108,101]})),steps:=[],grid:=({rows:=[],cols:=[],cells:=[],split:=[],merge:=[]}:GEd),draw:=[]}:EOp)])==0)) X0),(10,X (Xk (true&&((appE z0s [({kind:=1,node:=2,nw:=({id:=0,kind:=0,attrs:=[],flow:=[],grid:=({rows:=0,cols:=0,cells:=[],merges:=[]}:Grid),draw:=[]}:Node),attrs:=(onA ({data:=#[116,105,116,108,101]})),steps:=[],grid:=({rows:=[],cols:=[],cells:=[],split:=[],merge:=[]}:GEd),draw:=[]}:EOp)])==0)))),(13,Xv 1 ((true&&((appE z0s [({kind:=1,node:=2,nw:=({id:=0,kind:=0,attrs:=[],flow:=[],grid:=({rows:=0,cols:=0,cells:=[],merges:=[]}:Grid),draw:=[]}:Node),attrs:=(onA ({data:=#[116,105,116,108,101]})),steps:=[],grid:=({rows:=[],cols:=[],cells:=[],split:=[],merge:=[]}:GEd),draw:=[]}:EOp)])==0))&&(((((appD z0s [({kind:=1,node:=2,nw:=({id:=0,kind:=0,attrs:=[],flow:=[],grid:=({rows:=0,cols:=0,cells:=[],merges:=[]}:Grid),draw:=[]}:Node),attrs:=(onA ({data:=#[116,105,116,108,101]})),steps:=[],grid:=({rows:=[],cols:=[],cells:=[],split:=[],merge:=[]}:GEd),draw:=[]}:EOp)])).nodes).length:Int)==2)) X0),(14,Xv 1 ((true&&((appE z0s [({kind:=1,node:=2,nw:=({id:=0,kind:=0,attrs:=[],flow:=[],grid:=({rows:=0,cols:=0,cells:=[],merges:=[]}:Grid),draw:=[]}:Node),attrs:=(onA ({data:=#[116,105,116,108,101]})),steps:=[],grid:=({rows:=[],cols:=[],cells:=[],split:=[],merge:=[]}:GEd),draw:=[]}:EOp)])==0))&&(((((appD z0s [({kind:=1,node:=2,nw:=({id:=0,kind:=0,attrs:=[],flow:=[],grid:=({rows:=0,cols:=0,cells:=[],merges:=[]}:Grid),draw:=[]}:Node),attrs:=(onA ({data:=#[116,105,116,108,101]})),steps:=[],grid:=({rows:=[],cols:=[],cells:=[],split:=[],merge:=[]}:GEd),draw:=[]}:EOp)])).nodes).length:Int)==2)) (Xi nodeT (((appD z0s [({kind:=1,node:=2,nw:=({id:=0,kind:=0,attrs:=[],flow:=[],grid:=({rows:=0,cols:=0,cells:=[],merges:=[]}:Grid),draw:=[]}:Node),attrs:=(onA ({data:=#[116,105,116,108,101]})),steps:=[],grid:=({rows:=[],cols:=[],cells:=[],split:=[],merge:=[]}:GEd),draw:=[]}:EOp)])).nodes) 1)),(15,Xv 1 ((true&&((appE z0s [({kind:=1,node:=2,nw:=({id:=0,kind:=0,attrs:=[],flow:=[],grid:=({rows:=0,cols:=0,cells:=[],merges:=[]}:Grid),draw:=[]}:Node),attrs:=(onA ({data:=#[116,105,116,108,101]})),steps:=[],grid:=({rows:=[],cols:=[],cells:=[],split:=[],merge:=[]}:GEd),draw:=[]}:EOp)])==0))&&(((((appD z0s [({kind:=1,node:=2,nw:=({id:=0,kind:=0,attrs:=[],flow:=[],grid:=({rows:=0,cols:=0,cells:=[],merges:=[]}:Grid),draw:=[]}:Node),attrs:=(onA ({data:=#[116,105,116,108,101]})),steps:=[],grid:=({rows:=[],cols:=[],cells:=[],split:=[],merge:=[]}:GEd),draw:=[]}:EOp)])).nodes).length:Int)==2)) X0),(16,Xv 1 ((true&&((appE z0s [({kind:=1,node:=2,nw:=({id:=0,kind:=0,attrs:=[],flow:=[],grid:=({rows:=0,cols:=0,cells:=[],merges:=[]}:Grid),draw:=[]}:Node),attrs:=(onA ({data:=#[116,105,116,108,101]})),steps:=[],grid:=({rows:=[],cols:=[],cells:=[],split:=[],merge:=[]}:GEd),draw:=[]}:EOp)])==0))&&(((((appD z0s [({kind:=1,node:=2,nw:=({id:=0,kind:=0,attrs:=[],flow:=[],grid:=({rows:=0,cols:=0,cells:=[],merges:=[]}:Grid),draw:=[]}:Node),attrs:=(onA ({data:=#[116,105,116,108,101]})),steps:=[],grid:=({rows:=[],cols:=[],cells:=[],split:=[],merge:=[]}:GEd),draw:=[]}:EOp)])).nodes).length:Int)==2)) X0),(17,Xv 1 ((true&&((appE z0s [({kind:=1,node:=2,nw:=({id:=0,kind:=0,attrs:=[],flow:=[],grid:=({rows:=0,cols:=0,cells:=[],merges:=[]}:Grid),draw:=[]}:Node),attrs:=(onA ({data:=#[116,105,116,108,101]})),steps:=[],grid:=({rows:=[],cols:=[],cells:=[],split:=[],merge:=[]}:GEd),draw:=[]}:EOp)])==0))&&(((((appD z0s [({kind:=1,node:=2,nw:=({id:=0,kind:=0,attrs:=[],flow:=[],grid:=({rows:=0,cols:=0,cells:=[],merges:=[]}:Grid),draw:=[]}:Node),attrs:=(onA ({data:=#[116,105,116,108,101]})),steps:=[],grid:=({rows:=[],cols:=[],cells:=[],split:=[],merge:=[]}:GEd),draw:=[]}:EOp)])).nodes).length:Int)==2)) (Xl attrT ((((((appD z0s [({kind:=1,node:=2,nw:=({id:=0,kind:=0,attrs:=[],flow:=[],grid:=({rows:=0,cols:=0,cells:=[],merges:=[]}:Grid),draw:=[]}:Node),attrs:=(onA ({data:=#[116,105,116,108,101]})),steps:=[],grid:=({rows:=[],cols:=[],cells:=[],split:=[],merge:=[]}:GEd),draw:=[]}:EOp)])).nodes).getD 1 default)).attrs))),(18,Xv 1 ((true&&((appE z0s [({kind:=1,node:=2,nw:=({id:=0,kind:=0,attrs:=[],flow:=[],grid:=({rows:=0,cols:=0,cells:=[],merges:=[]}:Grid),draw:=[]}:Node),attrs:=(onA ({data:=#[116,105,116,108,101]})),steps:=[],grid:=({rows:=[],cols:=[],cells:=[],split:=[],merge:=[]}:GEd),draw:=[]}:EOp)])==0))&&(((((appD z0s [({kind:=1,node:=2,nw:=({id:=0,kind:=0,attrs:=[],flow:=[],grid:=({rows:=0,cols:=0,cells:=[],merges:=[]}:Grid),draw:=[]}:Node),attrs:=(onA ({data:=#[116,105,116,108,101]})),steps:=[],grid:=({rows:=[],cols:=[],cells:=[],split:=[],merge:=[]}:GEd),draw:=[]}:EOp)])).nodes).length:Int)==2)) X0),(19,X (Xk ((true&&((appE z0s [({kind:=1,node:=2,nw:=({id:=0,kind:=0,attrs:=[],flow:=[],grid:=({rows:=0,cols:=0,cells:=[],merges:=[]}:Grid),draw:=[]}:Node),attrs:=(onA ({data:=#[116,105,116,108,101]})),steps:=[],grid:=({rows:=[],cols:=[],cells:=[],split:=[],merge:=[]}:GEd),draw:=[]}:EOp)])==0))&&(((((appD z0s [({kind:=1,node:=2,nw:=({id:=0,kind:=0,attrs:=[],flow:=[],grid:=({rows:=0,cols:=0,cells:=[],merges:=[]}:Grid),draw:=[]}:Node),attrs:=(onA ({data:=#[116,105,116,108,101]})),steps:=[],grid:=({rows:=[],cols:=[],cells:=[],split:=[],merge:=[]}:GEd),draw:=[]}:EOp)])).nodes).length:Int)==2))))]] [] (fun z0:Bool=>(VB z0,[])) _ _ e1.symm

theorem y0U(s:ByteArray)(hs:s.size<=1000000000):FC Tryz.prog 15 [VS s] (app emp []) (.row 0 ((z0j s).length)) (app emp [(0,OR 3 elemT (z0j s))]):=by
 refine .go Tryz.f15 ?_
 refine .loop (α:=Nat×(List Elem)) [.r [],.r [],.r [],.le (.nR 3 3)] 41 (fun(i,o)=>([(0,VS s),(3,.row 40 o.length),(6,VI (s.size:Int)),(7,VI (i:Int))],[(40,OR 3 elemT o)])) (fun(i,o)=>i<=s.size/\o=(List.range i).map (ltr s)) (fun(i,o)=>s.size-i) (0,[]) ?_ ?_
 ·
  exact⟨by omega,rfl⟩
 rintro⟨i,o⟩ I3 ih3
 try dsimp only at I3
 have ol:o.length=i:=by rw[I3.2];simp
 refine .bp [.r []] (decide ((i:Int)< (s.size:Int))) (fun h3=> ?_) (fun h3=> ?_)
 ·
  refine .back [.r [],.r [(3,X (Xb s (i:Int))),(4,X (Xn ((((s[i]?).getD 0).toNat:Nat):Int)) (by have:=UInt8.toNat_lt ((s[i]?).getD 0);omega)),(5,X (Xf [(2,2)])),(7,X (rowC elemT [({char:=((((s[i]?).getD 0).toNat:Nat):Int),ref:=0,attrs:=[]}:Elem)] (Xap 3 elemT 40 o [({char:=((((s[i]?).getD 0).toNat:Nat):Int),ref:=0,attrs:=[]}:Elem)])))],.r [(0,X (Xn ((i:Int)+1)))]] [(40,40)] (ih3 ((i+1),(o++[({char:=((((s[i]?).getD 0).toNat:Nat):Int),ref:=0,attrs:=[]}:Elem)])) ?_ ?_)
  ·
   refine⟨by omega,?_⟩
   rw[I3.2,List.range_succ,zg]
   rfl
  ·
   ((try dsimp only);omega)
 ·
  have e1:((z0j s):List Elem)=o:=by
   first| (rw[I3.2,show i=s.size by omega];done)| (rw[I3.2,show i=s.size by omega];rfl)
  have e2:((z0j s).length:Nat)=o.length:=by
   first| (rw[I3.2,show i=s.size by omega];done)| (rw[I3.2,show i=s.size by omega];rfl)
  exact .finE [.r []] [(40,0)] (fun((z0,z1):(List Elem)×Nat)=>(.row 0 z1,[(0,OR 3 elemT z0)])) _ _ (pr e1 e2)
theorem x0n:FC Tryz.prog 15 [VS {data:=#[97,98,99]}] (app emp []) (.row 0 3) (app emp [(0,OR 3 elemT [({char:=97,ref:=0,attrs:=[]}:Elem),({char:=98,ref:=0,attrs:=[]}:Elem),({char:=99,ref:=0,attrs:=[]}:Elem)])]):=by
 have h:=y0U {data:=#[97,98,99]} (by decide)
 have e:z0j {data:=#[97,98,99]}=[({char:=97,ref:=0,attrs:=[]}:Elem),({char:=98,ref:=0,attrs:=[]}:Elem),({char:=99,ref:=0,attrs:=[]}:Elem)]:=by kernel_rfl
 rw[e] at h
 exact h
theorem z9Z(l:List Int)(r:Int)(h:128<=r/\r<=1114111/\¬(55296<=r/\r<=57343))(hl:l.length<=100000000000):FC Tryz.prog 83 [.row 0 l.length,.t (.sc (.int .i32 r))] (app emp [(0,OR 1 byteT l)]) (.row 0 ((l++(Lib.encodeRuneZ r)).length)) (app emp [(0,OR 1 byteT (l++(Lib.encodeRuneZ r)))]):=by
 refine .go Tryz.f83 ?_
 refine .bp [.r [],.r [(1,X (Xcv IntKind.u32 r) (y1t (by omega)))],.r []] (decide (r<=2047)) (fun h3=> ?_) (fun h3=> ?_)
 ·
  have e1:((l++(Lib.encodeRuneZ r)):List Int)=(l++[(192+r/64),(128+r%64)]):=by
   first| (exfalso;omega)|rw[Lib.encodeRuneZ_two (by omega) (by omega)]|rw[Lib.encodeRuneZ_three (by omega)]|rw[Lib.encodeRuneZ_four (by omega) (by omega)]
  have e2:((l++(Lib.encodeRuneZ r)).length:Nat)=(l++[(192+r/64),(128+r%64)]).length:=by
   first| (exfalso;omega)|rw[Lib.encodeRuneZ_two (by omega) (by omega)]|rw[Lib.encodeRuneZ_three (by omega)]|rw[Lib.encodeRuneZ_four (by omega) (by omega)]
  exact .finE [.r [(2,X (Xsh IntKind.i32 6 (r.fdiv (2^(min (6:Int).toNat IntKind.i32.bits))) (r/64)) ⟨by decide,shr6⟩),(3,X (Xbit IntKind.u8 (IntKind.u8.wrap (r/64)) (r/64)) (by rw[u8mod];omega)),(4,X (Xbit IntKind.u8 (orI IntKind.u8 192 (r/64)) (192+r/64)) (or192 (by omega))),(6,X (Xbit IntKind.u8 (IntKind.u8.wrap r) (r%256)) u8mod),(7,X (Xbit IntKind.u8 (andI IntKind.u8 (r%256) 63) (r%64)) (by rw[and63 (by omega)];omega)),(8,X (Xbit IntKind.u8 (orI IntKind.u8 128 (r%64)) (128+r%64)) (or128 (by omega))),(10,X (rowC byteT [(192+r/64),(128+r%64)] (Xap 1 byteT 0 l [(192+r/64),(128+r%64)])))]] [(0,0)] (fun((z0,z1):(List Int)×Nat)=>(.row 0 z1,[(0,OR 1 byteT z0)])) _ _ (pr e1 e2)
 ·
  refine .bp [.r []] (decide (r<55296)) (fun h5=> ?_) (fun h5=> ?_)
  ·
   refine .bp [] (decide (r<55296)) (fun h5=> ?_) (fun h5=> ?_)
   ·
    have e3:((l++(Lib.encodeRuneZ r)):List Int)=(l++[(224+r/4096),(128+r/64%64),(128+r%64)]):=by
     first| (exfalso;omega)|rw[Lib.encodeRuneZ_two (by omega) (by omega)]|rw[Lib.encodeRuneZ_three (by omega)]|rw[Lib.encodeRuneZ_four (by omega) (by omega)]
    have e4:((l++(Lib.encodeRuneZ r)).length:Nat)=(l++[(224+r/4096),(128+r/64%64),(128+r%64)]).length:=by
     first| (exfalso;omega)|rw[Lib.encodeRuneZ_two (by omega) (by omega)]|rw[Lib.encodeRuneZ_three (by omega)]|rw[Lib.encodeRuneZ_four (by omega) (by omega)]
    exact .finE [.r [(2,X (Xsh IntKind.i32 12 (r.fdiv (2^(min (12:Int).toNat IntKind.i32.bits))) (r/4096)) ⟨by decide,shr12⟩),(3,X (Xbit IntKind.u8 (IntKind.u8.wrap (r/4096)) (r/4096)) (by rw[u8mod];omega)),(4,X (Xbit IntKind.u8 (orI IntKind.u8 224 (r/4096)) (224+r/4096)) (or224 (by omega))),(6,X (Xsh IntKind.i32 6 (r.fdiv (2^(min (6:Int).toNat IntKind.i32.bits))) (r/64)) ⟨by decide,shr6⟩),(7,X (Xbit IntKind.u8 (IntKind.u8.wrap (r/64)) (r/64%256)) u8mod),(8,X (Xbit IntKind.u8 (andI IntKind.u8 (r/64%256) 63) (r/64%64)) (by rw[and63 (by omega)];omega)),(9,X (Xbit IntKind.u8 (orI IntKind.u8 128 (r/64%64)) (128+r/64%64)) (or128 (by omega))),(11,X (Xbit IntKind.u8 (IntKind.u8.wrap r) (r%256)) u8mod),(12,X (Xbit IntKind.u8 (andI IntKind.u8 (r%256) 63) (r%64)) (by rw[and63 (by omega)];omega)),(13,X (Xbit IntKind.u8 (orI IntKind.u8 128 (r%64)) (128+r%64)) (or128 (by omega))),(15,X (rowC byteT [(224+r/4096),(128+r/64%64),(128+r%64)] (Xap 1 byteT 0 l [(224+r/4096),(128+r/64%64),(128+r%64)])))]] [(0,0)] (fun((z0,z1):(List Int)×Nat)=>(.row 0 z1,[(0,OR 1 byteT z0)])) _ _ (pr e3 e4)
   ·
    refine .bp [.r [(4,Xv 1 (decide (r>65535)) X0),(5,X (Xk (decide (r>65535))))]] (decide (r>65535)&&decide (r<=1114111)) (fun h8=> ?_) (fun h8=> ?_)
    ·
     have e5:((l++(Lib.encodeRuneZ r)):List Int)=(l++[(240+r/262144),(128+r/4096%64),(128+r/64%64),(128+r%64)]):=by
      first| (exfalso;omega)|rw[Lib.encodeRuneZ_two (by omega) (by omega)]|rw[Lib.encodeRuneZ_three (by omega)]|rw[Lib.encodeRuneZ_four (by omega) (by omega)]
     have e6:((l++(Lib.encodeRuneZ r)).length:Nat)=(l++[(240+r/262144),(128+r/4096%64),(128+r/64%64),(128+r%64)]).length:=by
      first| (exfalso;omega)|rw[Lib.encodeRuneZ_two (by omega) (by omega)]|rw[Lib.encodeRuneZ_three (by omega)]|rw[Lib.encodeRuneZ_four (by omega) (by omega)]
     exact .finE [.r [(2,X (Xsh IntKind.i32 18 (r.fdiv (2^(min (18:Int).toNat IntKind.i32.bits))) (r/262144)) ⟨by decide,shr18⟩),(3,X (Xbit IntKind.u8 (IntKind.u8.wrap (r/262144)) (r/262144)) (by rw[u8mod];omega)),(4,X (Xbit IntKind.u8 (orI IntKind.u8 240 (r/262144)) (240+r/262144)) (or240 (by omega))),(6,X (Xsh IntKind.i32 12 (r.fdiv (2^(min (12:Int).toNat IntKind.i32.bits))) (r/4096)) ⟨by decide,shr12⟩),(7,X (Xbit IntKind.u8 (IntKind.u8.wrap (r/4096)) (r/4096%256)) u8mod),(8,X (Xbit IntKind.u8 (andI IntKind.u8 (r/4096%256) 63) (r/4096%64)) (by rw[and63 (by omega)];omega)),(9,X (Xbit IntKind.u8 (orI IntKind.u8 128 (r/4096%64)) (128+r/4096%64)) (or128 (by omega))),(11,X (Xsh IntKind.i32 6 (r.fdiv (2^(min (6:Int).toNat IntKind.i32.bits))) (r/64)) ⟨by decide,shr6⟩),(12,X (Xbit IntKind.u8 (IntKind.u8.wrap (r/64)) (r/64%256)) u8mod),(13,X (Xbit IntKind.u8 (andI IntKind.u8 (r/64%256) 63) (r/64%64)) (by rw[and63 (by omega)];omega)),(14,X (Xbit IntKind.u8 (orI IntKind.u8 128 (r/64%64)) (128+r/64%64)) (or128 (by omega))),(16,X (Xbit IntKind.u8 (IntKind.u8.wrap r) (r%256)) u8mod),(17,X (Xbit IntKind.u8 (andI IntKind.u8 (r%256) 63) (r%64)) (by rw[and63 (by omega)];omega)),(18,X (Xbit IntKind.u8 (orI IntKind.u8 128 (r%64)) (128+r%64)) (or128 (by omega))),(20,X (rowC byteT [(240+r/262144),(128+r/4096%64),(128+r/64%64),(128+r%64)] (Xap 1 byteT 0 l [(240+r/262144),(128+r/4096%64),(128+r/64%64),(128+r%64)])))]] [(0,0)] (fun((z0,z1):(List Int)×Nat)=>(.row 0 z1,[(0,OR 1 byteT z0)])) _ _ (pr e5 e6)
    ·
     exfalso
     omega
  ·
   refine .bp [.r [(4,Xv 1 (decide (57343<r)) X0),(5,X (Xk (decide (57343<r))))]] (decide (57343<r)&&decide (r<=65535)) (fun h6=> ?_) (fun h6=> ?_)
   ·
    have e7:((l++(Lib.encodeRuneZ r)):List Int)=(l++[(224+r/4096),(128+r/64%64),(128+r%64)]):=by
     first| (exfalso;omega)|rw[Lib.encodeRuneZ_two (by omega) (by omega)]|rw[Lib.encodeRuneZ_three (by omega)]|rw[Lib.encodeRuneZ_four (by omega) (by omega)]
    have e8:((l++(Lib.encodeRuneZ r)).length:Nat)=(l++[(224+r/4096),(128+r/64%64),(128+r%64)]).length:=by
     first| (exfalso;omega)|rw[Lib.encodeRuneZ_two (by omega) (by omega)]|rw[Lib.encodeRuneZ_three (by omega)]|rw[Lib.encodeRuneZ_four (by omega) (by omega)]
    exact .finE [.r [(2,X (Xsh IntKind.i32 12 (r.fdiv (2^(min (12:Int).toNat IntKind.i32.bits))) (r/4096)) ⟨by decide,shr12⟩),(3,X (Xbit IntKind.u8 (IntKind.u8.wrap (r/4096)) (r/4096)) (by rw[u8mod];omega)),(4,X (Xbit IntKind.u8 (orI IntKind.u8 224 (r/4096)) (224+r/4096)) (or224 (by omega))),(6,X (Xsh IntKind.i32 6 (r.fdiv (2^(min (6:Int).toNat IntKind.i32.bits))) (r/64)) ⟨by decide,shr6⟩),(7,X (Xbit IntKind.u8 (IntKind.u8.wrap (r/64)) (r/64%256)) u8mod),(8,X (Xbit IntKind.u8 (andI IntKind.u8 (r/64%256) 63) (r/64%64)) (by rw[and63 (by omega)];omega)),(9,X (Xbit IntKind.u8 (orI IntKind.u8 128 (r/64%64)) (128+r/64%64)) (or128 (by omega))),(11,X (Xbit IntKind.u8 (IntKind.u8.wrap r) (r%256)) u8mod),(12,X (Xbit IntKind.u8 (andI IntKind.u8 (r%256) 63) (r%64)) (by rw[and63 (by omega)];omega)),(13,X (Xbit IntKind.u8 (orI IntKind.u8 128 (r%64)) (128+r%64)) (or128 (by omega))),(15,X (rowC byteT [(224+r/4096),(128+r/64%64),(128+r%64)] (Xap 1 byteT 0 l [(224+r/4096),(128+r/64%64),(128+r%64)])))]] [(0,0)] (fun((z0,z1):(List Int)×Nat)=>(.row 0 z1,[(0,OR 1 byteT z0)])) _ _ (pr e7 e8)
   ·
    refine .bp [.r [(4,Xv 1 (decide (r>65535)) X0),(5,X (Xk (decide (r>65535))))]] (decide (r>65535)&&decide (r<=1114111)) (fun h8=> ?_) (fun h8=> ?_)
    ·
     have e9:((l++(Lib.encodeRuneZ r)):List Int)=(l++[(240+r/262144),(128+r/4096%64),(128+r/64%64),(128+r%64)]):=by
      first| (exfalso;omega)|rw[Lib.encodeRuneZ_two (by omega) (by omega)]|rw[Lib.encodeRuneZ_three (by omega)]|rw[Lib.encodeRuneZ_four (by omega) (by omega)]
     have e10:((l++(Lib.encodeRuneZ r)).length:Nat)=(l++[(240+r/262144),(128+r/4096%64),(128+r/64%64),(128+r%64)]).length:=by
      first| (exfalso;omega)|rw[Lib.encodeRuneZ_two (by omega) (by omega)]|rw[Lib.encodeRuneZ_three (by omega)]|rw[Lib.encodeRuneZ_four (by omega) (by omega)]
     exact .finE [.r [(2,X (Xsh IntKind.i32 18 (r.fdiv (2^(min (18:Int).toNat IntKind.i32.bits))) (r/262144)) ⟨by decide,shr18⟩),(3,X (Xbit IntKind.u8 (IntKind.u8.wrap (r/262144)) (r/262144)) (by rw[u8mod];omega)),(4,X (Xbit IntKind.u8 (orI IntKind.u8 240 (r/262144)) (240+r/262144)) (or240 (by omega))),(6,X (Xsh IntKind.i32 12 (r.fdiv (2^(min (12:Int).toNat IntKind.i32.bits))) (r/4096)) ⟨by decide,shr12⟩),(7,X (Xbit IntKind.u8 (IntKind.u8.wrap (r/4096)) (r/4096%256)) u8mod),(8,X (Xbit IntKind.u8 (andI IntKind.u8 (r/4096%256) 63) (r/4096%64)) (by rw[and63 (by omega)];omega)),(9,X (Xbit IntKind.u8 (orI IntKind.u8 128 (r/4096%64)) (128+r/4096%64)) (or128 (by omega))),(11,X (Xsh IntKind.i32 6 (r.fdiv (2^(min (6:Int).toNat IntKind.i32.bits))) (r/64)) ⟨by decide,shr6⟩),(12,X (Xbit IntKind.u8 (IntKind.u8.wrap (r/64)) (r/64%256)) u8mod),(13,X (Xbit IntKind.u8 (andI IntKind.u8 (r/64%256) 63) (r/64%64)) (by rw[and63 (by omega)];omega)),(14,X (Xbit IntKind.u8 (orI IntKind.u8 128 (r/64%64)) (128+r/64%64)) (or128 (by omega))),(16,X (Xbit IntKind.u8 (IntKind.u8.wrap r) (r%256)) u8mod),(17,X (Xbit IntKind.u8 (andI IntKind.u8 (r%256) 63) (r%64)) (by rw[and63 (by omega)];omega)),(18,X (Xbit IntKind.u8 (orI IntKind.u8 128 (r%64)) (128+r%64)) (or128 (by omega))),(20,X (rowC byteT [(240+r/262144),(128+r/4096%64),(128+r/64%64),(128+r%64)] (Xap 1 byteT 0 l [(240+r/262144),(128+r/4096%64),(128+r/64%64),(128+r%64)])))]] [(0,0)] (fun((z0,z1):(List Int)×Nat)=>(.row 0 z1,[(0,OR 1 byteT z0)])) _ _ (pr e9 e10)
    ·
     exfalso
     omega
theorem z3U(l:List Int)(r:Int)(h:(0<=r/\r<=1114111/\¬(55296<=r/\r<=57343)))(hl:l.length<=100000000000):FC Tryz.prog 39 [.row 0 l.length,.t (.sc (.int .i32 r))] (app emp [(0,OR 1 byteT l)]) (.row 0 ((l++(Lib.encodeRuneZ r)).length)) (app emp [(0,OR 1 byteT (l++(Lib.encodeRuneZ r)))]):=by
 refine .go Tryz.f39 ?_
 refine .bp [.r [],.r [(1,X (Xcv IntKind.u32 r) (y1t (by omega)))]] (decide (r<=127)) (fun h1=> ?_) (fun h1=> ?_)
 ·
  have e1:((l++(Lib.encodeRuneZ r)):List Int)=(l++[r]):=by
   first|rw[Lib.encodeRuneZ_one (by omega) (by omega)]|rfl
  have e2:((l++(Lib.encodeRuneZ r)).length:Nat)=(l++[r]).length:=by
   first|rw[Lib.encodeRuneZ_one (by omega) (by omega)]|rfl
  exact .finE [.r [(2,X (Xcv IntKind.u8 r) (y8u (by omega))),(4,X (rowC byteT [r] (Xap 1 byteT 0 l [r])))]] [(0,0)] (fun((z0,z1):(List Int)×Nat)=>(.row 0 z1,[(0,OR 1 byteT z0)])) _ _ (pr e1 e2)
 ·
  exact .fin [.r [(2,X (Xc3 49 [(0,0)] (z9Z l r (by omega) (by omega)) X0))]] [(0,0)]
theorem y9E(f:List Elem)(hp:∀x∈f,elemE x=0)(hn:f.length<=1000000000):FC Tryz.prog 13 [VL 3 elemT f,VI 65532] (app emp []) (VS (txS f)) (app emp []):=by
 refine .go Tryz.f13 ?_
 refine .len 0 (fun hl0=> ?_)
 have hr:∀x∈f,z5n (runeE x):=fun x hx=>y9d (hp x hx)
 refine .loop (α:=Nat×(List Int)) [.r [],.r [],.r [(1,X (Xl elemT f))],.le (.nR 5 1)] 41 (fun(i,b)=>([(0,VL 3 elemT f),(1,VI 65532),(5,.row 40 b.length),(9,VI (f.length:Int)),(10,VI (i:Int))],[(40,OR 1 byteT b)])) (fun(i,b)=>i<=f.length/\b=txB (f.take i)) (fun(i,b)=>f.length-i) (0,[]) ?_ ?_
 ·
  exact⟨by omega,rfl⟩
 rintro⟨i,b⟩ I3 ih3
 try dsimp only at I3
 have bl:b.length<=4*i:=by rw[I3.2];have:=y5B (f.take i) (fun x hx=>hr x (qL hx));rw[qX] at this;omega
 refine .bp [.r []] (decide ((i:Int)< (f.length:Int))) (fun h3=> ?_) (fun h3=> ?_)
 ·
  refine .bp [.r [],.r [(2,X (Xi elemT f (i:Int)))],.r [(2,X (Xi elemT f (i:Int)))]] ((((f.getD i default)).ref) !=0) (fun h6=> ?_) (fun h6=> ?_)
  ·
   have hx:=hr _ (z1O (l:=f) (k:=i) (by omega))
   unfold z5n at hx
   have hre:runeE (f.getD i default)=(if(f.getD i default).ref=0 then(f.getD i default).char else 65532):=rfl
   first| (have hrr:runeE (f.getD i default)=(f.getD i default).char:=by rw[hre,if_pos (by omega)])| (have hrr:runeE (f.getD i default)=65532:=by rw[hre,if_neg (by omega)])
   rw[hrr] at hx
   refine .back [.r [],.r [],.t,.r [(2,X (Xcv IntKind.i32 65532) (y1u (by omega))),(3,X (Xc3 217 [(0,40)] (z3U b 65532 (by omega) (by omega)) X0))],.r [(0,X (Xn ((i:Int)+1)))]] [(40,40)] (ih3 ((i+1),(b++(Lib.encodeRuneZ 65532))) ?_ ?_)
   ·
    refine⟨by omega,?_⟩
    rw[qD (show i<f.length by omega),y2p,<-I3.2]
    have hq:f.getD i default=f[i]:=by simp[List.getD,qa (show i<f.length by omega)]
    rw[<-hq,hrr]
   ·
    ((try dsimp only);omega)
  ·
   have hx:=hr _ (z1O (l:=f) (k:=i) (by omega))
   unfold z5n at hx
   have hre:runeE (f.getD i default)=(if(f.getD i default).ref=0 then(f.getD i default).char else 65532):=rfl
   first| (have hrr:runeE (f.getD i default)=(f.getD i default).char:=by rw[hre,if_pos (by omega)])| (have hrr:runeE (f.getD i default)=65532:=by rw[hre,if_neg (by omega)])
   rw[hrr] at hx
   refine .bp [.r []] (decide ((((f.getD i default)).char)>=0)) (fun h8=> ?_) (fun h8=> ?_)
   ·
    refine .back [.r [(2,X (Xcv IntKind.i32 (((f.getD i default)).char)) (y1u (by omega))),(3,X (Xc3 201 [(0,40)] (z3U b (((f.getD i default)).char) (by omega) (by omega)) X0))],.r [(0,X (Xn ((i:Int)+1)))]] [(40,40)] (ih3 ((i+1),(b++(Lib.encodeRuneZ (((f.getD i default)).char)))) ?_ ?_)
    ·
     refine⟨by omega,?_⟩
     rw[qD (show i<f.length by omega),y2p,<-I3.2]
     have hq:f.getD i default=f[i]:=by simp[List.getD,qa (show i<f.length by omega)]
     rw[<-hq,hrr]
    ·
     ((try dsimp only);omega)
   ·
    exfalso
    omega
 ·
  have hb:b=intsB (txS f):=by rw[I3.2,qw (by omega)];exact y5A (x0g hr)
  exact .fin [.r [(1,X (Xstr b.length b (txS f)) ⟨rfl,hb⟩)]] []
end Go.Ch
end
section
namespace Go.Proofs
open Go.Shelf
def Tryz.lays189_ren:Go.Shelf.Ren:=⟨fun|189=>33|125=>75|257=>74|128=>153|129=>154|294=>144|295=>145|296=>146|297=>147|298=>148|299=>149|216=>150|300=>151|301=>152|328=>213|329=>214|330=>215|331=>216|332=>217|215=>218|343=>245|n=>n,fun|28=>72|3=>3|46=>133|0=>0|51=>147|53=>233|4=>4|183=>226|182=>225|131=>181|5=>5|9=>9|218=>295|222=>299|228=>332|229=>191|n=>n,fun|n=>n⟩
theorem Tryz.lays189:Go.Proofs.Lays.n189 Tryz.prog Tryz.lays189_ren:={
 mixed:=by kernel_rfl
 f125:=Tryz.func75.trans (congrArg some (by kernel_rfl))
 f128:=Tryz.func153.trans (congrArg some (by kernel_rfl))
 f129:=Tryz.func154.trans (congrArg some (by kernel_rfl))
 f189:=Tryz.func33.trans (congrArg some (by kernel_rfl))
 f215:=Tryz.func218.trans (congrArg some (by kernel_rfl))
 f216:=Tryz.func150.trans (congrArg some (by kernel_rfl))
 f257:=Tryz.func74.trans (congrArg some (by kernel_rfl))
 f294:=Tryz.func144.trans (congrArg some (by kernel_rfl))
 f295:=Tryz.func145.trans (congrArg some (by kernel_rfl))
 f296:=Tryz.func146.trans (congrArg some (by kernel_rfl))
 f297:=Tryz.func147.trans (congrArg some (by kernel_rfl))
 f298:=Tryz.func148.trans (congrArg some (by kernel_rfl))
 f299:=Tryz.func149.trans (congrArg some (by kernel_rfl))
 f300:=Tryz.func151.trans (congrArg some (by kernel_rfl))
 f301:=Tryz.func152.trans (congrArg some (by kernel_rfl))
 f328:=Tryz.func213.trans (congrArg some (by kernel_rfl))
 f329:=Tryz.func214.trans (congrArg some (by kernel_rfl))
 f330:=Tryz.func215.trans (congrArg some (by kernel_rfl))
 f331:=Tryz.func216.trans (congrArg some (by kernel_rfl))
 f332:=Tryz.func217.trans (congrArg some (by kernel_rfl))
 f343:=Tryz.func245.trans (congrArg some (by kernel_rfl))
 t0:=Tryz.underlying0
 a0:=Tryz.isAgg0
 z0:=Tryz.sizeOf0
 v0:=Tryz.zeroValue0
 t3:=Tryz.underlying3
 a3:=Tryz.isAgg3
 z3:=Tryz.sizeOf3
 v3:=Tryz.zeroValue3
 t4:=Tryz.underlying4
 a4:=Tryz.isAgg4
 z4:=Tryz.sizeOf4
 v4:=Tryz.zeroValue4
 t5:=Tryz.underlying5
 a5:=Tryz.isAgg5
 z5:=Tryz.sizeOf5
 v5:=Tryz.zeroValue5
 t9:=Tryz.underlying9
 a9:=Tryz.isAgg9
 z9:=Tryz.sizeOf9
 v9:=Tryz.zeroValue9
 t28:=Tryz.underlying72
 a28:=Tryz.isAgg72
 z28:=Tryz.sizeOf72
 v28:=Tryz.zeroValue72
 t46:=Tryz.underlying133
 a46:=Tryz.isAgg133
 z46:=Tryz.sizeOf133
 v46:=Tryz.zeroValue133
 t51:=Tryz.underlying147
 a51:=Tryz.isAgg147
 z51:=Tryz.sizeOf147
 v51:=Tryz.zeroValue147
 t53:=Tryz.underlying233
 a53:=Tryz.isAgg233
 z53:=Tryz.sizeOf233
 v53:=Tryz.zeroValue233
 t131:=Tryz.underlying181
 a131:=Tryz.isAgg181
 z131:=Tryz.sizeOf181
 v131:=Tryz.zeroValue181
 t182:=Tryz.underlying225
 a182:=Tryz.isAgg225
 z182:=Tryz.sizeOf225
 v182:=Tryz.zeroValue225
 t183:=Tryz.underlying226
 a183:=Tryz.isAgg226
 z183:=Tryz.sizeOf226
 v183:=Tryz.zeroValue226
 t218:=Tryz.underlying295
 a218:=Tryz.isAgg295
 z218:=Tryz.sizeOf295
 v218:=Tryz.zeroValue295
 t222:=Tryz.underlying299
 a222:=Tryz.isAgg299
 z222:=Tryz.sizeOf299
 v222:=Tryz.zeroValue299
 t228:=Tryz.underlying332
 a228:=Tryz.isAgg332
 z228:=Tryz.sizeOf332
 v228:=Tryz.zeroValue332
 t229:=Tryz.underlying191
 a229:=Tryz.isAgg191
 z229:=Tryz.sizeOf191
 v229:=Tryz.zeroValue191}
open Go.Sort Go.RowKit in
theorem Tryz.slices_Sort_int(blk off cap:Nat)(zs:List Int)(w:World)(hH:Holds (Value.int .i64) w blk off zs.toArray)(hblk:blk<w.heap.size)(hsz:zs.length<4611686018427387904):
 Calls Tryz.prog 33 #[.slice (some ⟨blk,off,none⟩) zs.length cap] w fun e w'=>
  e= .returned (.tuple #[])/\∃n os,w'=grow (putRow (Value.int .i64) (Sort.ahead w n) blk off (zs.mergeSort fun x y=>decide (x<=y)).toArray) os:=Any.slices_Sort_int Tryz.lays189 blk off cap zs w hH hblk hsz
def Tryz.lays260_ren:Go.Shelf.Ren:=⟨fun|260=>46|n=>n,fun|9=>9|21=>21|3=>3|4=>4|5=>5|119=>165|0=>0|46=>133|139=>168|138=>167|n=>n,fun|3=>0|4=>1|n=>n⟩
theorem Tryz.lays260:Go.Proofs.Lays.n260 Tryz.prog Tryz.lays260_ren:={
 mixed:=by kernel_rfl
 f260:=Tryz.func46.trans (congrArg some (by kernel_rfl))
 t0:=Tryz.underlying0
 a0:=Tryz.isAgg0
 z0:=Tryz.sizeOf0
 v0:=Tryz.zeroValue0
 t3:=Tryz.underlying3
 a3:=Tryz.isAgg3
 z3:=Tryz.sizeOf3
 v3:=Tryz.zeroValue3
 t4:=Tryz.underlying4
 a4:=Tryz.isAgg4
 z4:=Tryz.sizeOf4
 v4:=Tryz.zeroValue4
 t5:=Tryz.underlying5
 a5:=Tryz.isAgg5
 z5:=Tryz.sizeOf5
 v5:=Tryz.zeroValue5
 t9:=Tryz.underlying9
 a9:=Tryz.isAgg9
 z9:=Tryz.sizeOf9
 v9:=Tryz.zeroValue9
 t21:=Tryz.underlying21
 a21:=Tryz.isAgg21
 z21:=Tryz.sizeOf21
 v21:=Tryz.zeroValue21
 t46:=Tryz.underlying133
 a46:=Tryz.isAgg133
 z46:=Tryz.sizeOf133
 v46:=Tryz.zeroValue133
 t119:=Tryz.underlying165
 a119:=Tryz.isAgg165
 z119:=Tryz.sizeOf165
 t138:=Tryz.underlying167
 a138:=Tryz.isAgg167
 z138:=Tryz.sizeOf167
 v138:=Tryz.zeroValue167
 t139:=Tryz.underlying168
 a139:=Tryz.isAgg168
 z139:=Tryz.sizeOf168
 v139:=Tryz.zeroValue168
 g3:=by kernel_rfl
 g4:=by kernel_rfl}
def Tryz.lays197_ren:Go.Shelf.Ren:=⟨fun|197=>21|260=>46|n=>n,fun|9=>9|21=>21|3=>3|4=>4|5=>5|105=>69|119=>165|0=>0|46=>133|139=>168|138=>167|n=>n,fun|3=>0|4=>1|n=>n⟩
theorem Tryz.lays197:Go.Proofs.Lays.n197 Tryz.prog Tryz.lays197_ren:={
 mixed:=by kernel_rfl
 f197:=Tryz.func21.trans (congrArg some (by kernel_rfl))
 f260:=Tryz.func46.trans (congrArg some (by kernel_rfl))
 t0:=Tryz.underlying0
 a0:=Tryz.isAgg0
 z0:=Tryz.sizeOf0
 v0:=Tryz.zeroValue0
 t3:=Tryz.underlying3
 a3:=Tryz.isAgg3
 z3:=Tryz.sizeOf3
 v3:=Tryz.zeroValue3
 t4:=Tryz.underlying4
 a4:=Tryz.isAgg4
 z4:=Tryz.sizeOf4
 v4:=Tryz.zeroValue4
 t5:=Tryz.underlying5
 a5:=Tryz.isAgg5
 z5:=Tryz.sizeOf5
 v5:=Tryz.zeroValue5
 t9:=Tryz.underlying9
 a9:=Tryz.isAgg9
 z9:=Tryz.sizeOf9
 v9:=Tryz.zeroValue9
 t21:=Tryz.underlying21
 a21:=Tryz.isAgg21
 z21:=Tryz.sizeOf21
 v21:=Tryz.zeroValue21
 t46:=Tryz.underlying133
 a46:=Tryz.isAgg133
 z46:=Tryz.sizeOf133
 v46:=Tryz.zeroValue133
 t105:=Tryz.underlying69
 a105:=Tryz.isAgg69
 z105:=Tryz.sizeOf69
 v105:=Tryz.zeroValue69
 t119:=Tryz.underlying165
 a119:=Tryz.isAgg165
 z119:=Tryz.sizeOf165
 t138:=Tryz.underlying167
 a138:=Tryz.isAgg167
 z138:=Tryz.sizeOf167
 v138:=Tryz.zeroValue167
 t139:=Tryz.underlying168
 a139:=Tryz.isAgg168
 z139:=Tryz.sizeOf168
 v139:=Tryz.zeroValue168
 g3:=by kernel_rfl
 g4:=by kernel_rfl}
open Go.RowKit Go.Lib in
theorem Tryz.utf8_DecodeRuneInString(s:ByteArray)(w:World)(hT:Lib.Utf8Tabs 0 1 w):
 Calls Tryz.prog 21 #[.string s] w fun e w'=>e= .returned (.tuple #[.int .i32 (Lib.decodeGo s).1,.int .i64 (Lib.decodeGo s).2])/\Below w.heap.size w w':=Any.utf8_DecodeRuneInString Tryz.lays197 s w hT
def Tryz.laysNm220_ren:Go.Shelf.Ren:=⟨fun|20=>34|n=>n,fun|22=>72|3=>3|4=>4|0=>0|n=>n,fun|n=>n⟩
theorem Tryz.laysNm220:Go.Proofs.Lays2.n20 Tryz.prog Tryz.laysNm220_ren:={
 mixed:=by kernel_rfl
 f20:=Tryz.func34.trans (congrArg some (by kernel_rfl))
 t0:=Tryz.underlying0
 a0:=Tryz.isAgg0
 z0:=Tryz.sizeOf0
 v0:=Tryz.zeroValue0
 t3:=Tryz.underlying3
 a3:=Tryz.isAgg3
 z3:=Tryz.sizeOf3
 v3:=Tryz.zeroValue3
 t4:=Tryz.underlying4
 a4:=Tryz.isAgg4
 z4:=Tryz.sizeOf4
 v4:=Tryz.zeroValue4
 t22:=Tryz.underlying72
 a22:=Tryz.isAgg72
 z22:=Tryz.sizeOf72
 v22:=Tryz.zeroValue72
 i3:=by kernel_rfl}
open Go.RowKit Go.Lib Go.Sort in
theorem Tryz.slices_Compact_int(blk off cap:Nat)(zs:List Int)(w:World)(hH:Holds (Value.int .i64) w blk off zs.toArray)(hsz:zs.length<=9223372036854775807)(hcap:zs.length<=cap):
 Calls Tryz.prog 34 #[.slice (some ⟨blk,off,none⟩) zs.length cap] w fun e w'=>e= .returned (.slice (some ⟨blk,off,none⟩) (Lib.compact zs).length cap)/\∃q,w'=putRow (Value.int .i64) (Sort.ahead w q) blk off (Lib.compact zs++List.replicate (zs.length- (Lib.compact zs).length) 0).toArray:=Any.slices_Compact_int Tryz.laysNm220 blk off cap zs w hH hsz hcap
open Go.RowKit Go.Sort in
theorem Tryz.slices_Sort_int_none(p:Option Addr)(cap:Nat)(w:World):
 Calls Tryz.prog 33 #[.slice p 0 cap] w fun e w'=>e= .returned (.tuple #[])/\w'=w:=Any.slices_Sort_int_none Tryz.lays189 p cap w
end Go.Proofs
end
section
set_option maxRecDepth 100000
set_option maxHeartbeats 4000000
open Go Go.Proofs Go.Ab
namespace Go.Ch
theorem y5Y(s:ByteArray):FC Tryz.prog 21 [VS s] (app emp []) (.tup [.t (.sc (.int .i32 (decR s))),VI (decW s:Int)]) (app emp []):=by
 refine FC.ofTab (us:=[.string s]) (v:= .tuple #[.int .i32 (Lib.decodeGo s).1,.int .i64 (Lib.decodeGo s).2]) (fun st m w ok xs hl hv=> ?_) (fun st m w ok=> ?_) (fun w hT=> ?_)
 ·match xs,hl with
  | [x],_=>
   have:=VRel.sc_inv (hv 0 _ _ rfl rfl)
   rw[this]
 ·refine .tup _ [.int .i32 (Lib.decodeGo s).1,.int .i64 (Lib.decodeGo s).2] rfl (fun i v u h1 h2=> ?_)
  match i with
  |0=>cases h1;cases h2;exact .t _ _ (.sc _ rfl)
  |1=>cases h1;cases h2;exact .t _ _ (.sc _ rfl)
  |i+2=>cases h1
 ·exact Go.Proofs.Tryz.utf8_DecodeRuneInString s w (hT.utf 0 1 (by kernel_rfl) (by kernel_rfl))
theorem fc_of(s:ByteArray)(l:List Attr)(hn:s.size<=1000000000)(hk:l.length<=1000000000)(hl:chkA false l 0=0)(hz:(ofR s).2=0):FC Tryz.prog 25 [VS s,VL 2 attrT l] (app emp []) (.tup [.row 0 ((ofL s l).length),VI 0]) (app emp [(0,OR 3 elemT (ofL s l))]):=by
 refine .go Tryz.f25 ?_
 refine .len 1 (fun hl1=> ?_)
 refine .bp [.r [],.r [(1,X (Xc0 (z3p l) X0))],.r []] ((chkA false l 0) !=0) (fun h2=> ?_) (fun h2=> ?_)
 ·
  exfalso
  omega
 ·
  refine .loop (α:=ByteArray×(List Elem)) [.r [],.le (.nR 7 3)] 65 (fun(u,o)=>([(0,VS u),(1,VL 2 attrT l),(7,.row 64 o.length)],[(64,OR 3 elemT o)])) (fun(u,o)=>OfI s l u o) (fun(u,o)=>u.size) (s,[]) ?_ ?_
  ·
   exact OfI.start s l
  rintro⟨u,o⟩ I5 ih5
  replace I5:OfI s l u o:=I5
  have ol:=I5.size
  have oe:=I5.err
  refine .bp [.r []] (!(seq u ({data:=#[]}))) (fun h5=> ?_) (fun h5=> ?_)
  ·
   rw[z3T,decide_eq_false_iff_not] at h5
   have hw:=z4Z (u:=u) (by omega)
   have hr:=y4V u
   refine .bp [.r [(1,X (Xc0 (y5Y u) X0))],.r [(4,Xv 1 ((decR u)==65533) X0),(5,X (Xk ((decR u)==65533)))]] (((decR u)==65533)&&((decW u:Int)==1)) (fun h7=> ?_) (fun h7=> ?_)
   ·
    exfalso
    have hb:=y0P (u:=u) (by omega) ⟨h7.1,by omega⟩
    rw[hb] at oe
    have oe2:(ofR s).2=10:=oe.symm
    omega
   ·
    have hnb:¬(decR u=65533/\decW u=1):=fun q=>by rcases h7 with h|h;(exact h q.1);(apply h;omega)
    refine .bp [.r [(1,X (Xn (decR u))),(2,X (Xc0 (y4b (decR u)) X0))]] (!(decide (CharP (decR u)))) (fun h9=> ?_) (fun h9=> ?_)
    ·
     exfalso
     have hb:=y5y (u:=u) (by omega) hnb h9
     rw[hb] at oe
     have oe2:(ofR s).2=2:=oe.symm
     omega
    ·
     refine .back [.r [(2,X (Xn (decR u))),(4,X (Xan attrT 249 l)),(6,X (rowC attrT l X0)),(7,X (rowC elemT [({char:=(decR u),ref:=0,attrs:=l}:Elem)] (Xap 3 elemT 64 o [({char:=(decR u),ref:=0,attrs:=l}:Elem)])))],.r [(2,X (Xa (Xc ((0:Int)<=(decW u:Int))) (Xa (Xc (((decW u:Int):Int)<=(u.size:Int))) (Xc (((u.size:Int):Int)<=(u.size:Int))))))]] [(64,64)] (ih5 ((u.extract (((decW u:Int):Int)).toNat (((u.size:Int):Int)).toNat),(o++[({char:=(decR u),ref:=0,attrs:=l}:Elem)])) ?_ ?_)
     ·
      exact I5.next (by omega) hnb h9
     ·
      show(u.extract (decW u) u.size).size<u.size
      rw[zY];omega
  ·
   rw[z3T,decide_eq_true_eq] at h5
   obtain⟨oz,oe2⟩:=I5.done h5
   have e1:((ofL s l):List Elem)=o:=by
    rw[oz]
   have e2:((ofL s l).length:Nat)=o.length:=by
    rw[oz]
   exact .finE [.r []] [(64,0)] (fun((z0,z1):(List Elem)×Nat)=>(.tup [.row 0 z1,VI 0],[(0,OR 3 elemT z0)])) _ _ (pr e1 e2)
theorem ofAny(t:ByteArray)(h:(ofR t).2=0)(hn:t.size<=1000000):OfFC t (ofR t).1:=fun l h1 h2=>by
 have:=fc_of t l (by omega) (by omega) h1 h
 rw[show ofL t l=(ofR t).1.map (mkE l) by unfold ofL;rw[if_pos h]] at this
 exact this
theorem z90(s:ByteArray)(hn:s.size<=1000000000):FC Tryz.prog 6 [VS s,VN] (app emp []) (.tup [VL 3 elemT (ofL s []),VI ((ofR s).2)]) (app emp []):=by
 refine .go Tryz.f6 ?_
 have hz0:Szd ([]:List Attr):=fun a h=>by cases h
 refine .bp [.r [],.r [(1,X (Xc0 (.nil 0 2 (z7Q [] false (by assumption))) X0))],.r []] ((errA false [] 0) !=0) (fun h2=> ?_) (fun h2=> ?_)
 ·
  exfalso
  exact h2 (by rw[errA,if_neg (by simp)])
 ·
  refine .loop (α:=Nat×(List Elem)) [.r [],.r [],.le (.nR 7 3)] 73 (fun(i,o)=>([(0,VS s),(1,VN),(7,.row 72 o.length),(8,VI (i:Int))],[(72,OR 3 elemT o)])) (fun(i,o)=>OfI s [] (s.extract i s.size) o/\i<=s.size) (fun(i,o)=>s.size-i) (0,[]) ?_ ?_
  ·
   exact⟨by rw[y8R];exact OfI.start s [],qp _⟩
  rintro⟨i,o⟩ I6 ih6
  try dsimp only at I6
  have ol:=I6.1.size
  have oe:=I6.1.err
  have ux:=y61 s i
  refine .bp [.r []] (decide ((i:Int)< (s.size:Int))) (fun h6=> ?_) (fun h6=> ?_)
  ·
   have hw:=z4Z (u:=(s.extract i s.size)) (by omega)
   have hr:=y4V (s.extract i s.size)
   refine .bp [.r [(2,X (Xa (Xc ((0:Int)<=(i:Int))) (Xa (Xc (((i:Int):Int)<=(s.size:Int))) (Xc (((s.size:Int):Int)<=(s.size:Int)))))),(3,X (Xc0 (y5Y (s.extract (((i:Int):Int)).toNat (((s.size:Int):Int)).toNat)) X0))],.le (.eq 9 (.t (.sc (.int .i32 (decR (s.extract (((i:Int):Int)).toNat (((s.size:Int):Int)).toNat))))) (.t (.sc (.int .i32 (decR (s.extract i s.size))))) (.of_eq (by simp only[Int.toNat_natCast]))),.le (.eq 10 (VI (decW (s.extract (((i:Int):Int)).toNat (((s.size:Int):Int)).toNat):Int)) (VI (decW (s.extract i s.size):Int)) (.of_eq (by simp only[Int.toNat_natCast]))),.r [(4,Xv 1 ((decR (s.extract i s.size))==65533) X0),(5,X (Xk ((decR (s.extract i s.size))==65533)))]] (((decR (s.extract i s.size))==65533)&&decide ((decW (s.extract i s.size):Int)< 2)) (fun h8=> ?_) (fun h8=> ?_)
   ·
    have hb:=y0P (u:=(s.extract i s.size)) (by omega) ⟨h8.1,by omega⟩
    rw[hb] at oe
    have oe2:(ofR s).2=10:=oe.symm
    have oz:ofL s []=[]:=y5z (by rw[oe2];decide)
    have e1:((ofL s []):List Elem)=[]:=by
     first|exact oz|exact oe2|skip
    have e2:((ofR s).2:Int)=10:=by
     first|exact oz|exact oe2|skip
    exact .finE [.r [],.le (.nL 4 3)] [] (fun((z0,z1):(List Elem)×Int)=>(.tup [VL 3 elemT z0,VI z1],[])) _ _ (pr e1 e2)
   ·
    have hnb:¬(decR (s.extract i s.size)=65533/\decW (s.extract i s.size)=1):=fun q=>by rcases h8 with h|h;(exact h q.1);(have:=q.2;omega)
    refine .bp [.r [(1,X (Xn (decR (s.extract i s.size)))),(2,X (Xc0 (y6u (decR (s.extract i s.size))) X0))]] (!(decide (CharP (decR (s.extract i s.size))))) (fun h10=> ?_) (fun h10=> ?_)
    ·
     have hb:=y5y (u:=(s.extract i s.size)) (by omega) hnb h10
     rw[hb] at oe
     have oe2:(ofR s).2=2:=oe.symm
     have oz:ofL s []=[]:=y5z (by rw[oe2];decide)
     have e3:((ofL s []):List Elem)=[]:=by
      first|exact oz|exact oe2|skip
     have e4:((ofR s).2:Int)=2:=by
      first|exact oz|exact oe2|skip
     exact .finE [.r [],.le (.nL 4 3)] [] (fun((z0,z1):(List Elem)×Int)=>(.tup [VL 3 elemT z0,VI z1],[])) _ _ (pr e3 e4)
    ·
     refine .back [.r [(2,X (Xn (decR (s.extract i s.size)))),(4,X (Xf [(2,2)])),(6,X (rowC elemT [({char:=(decR (s.extract i s.size)),ref:=0,attrs:=[]}:Elem)] (Xap 3 elemT 72 o [({char:=(decR (s.extract i s.size)),ref:=0,attrs:=[]}:Elem)])))],.r [(2,X (Xn ((i:Int)+(decW (s.extract i s.size):Int))))]] [(72,72)] (ih6 ((Int.toNat ((i:Int)+(decW (s.extract i s.size):Int))),(o++[({char:=(decR (s.extract i s.size)),ref:=0,attrs:=[]}:Elem)])) ?_ ?_)
     ·
      have hx:=I6.1.next (by omega) hnb h10
      have e:((s.extract i s.size).extract (decW (s.extract i s.size)) (s.extract i s.size).size)=s.extract (i+decW (s.extract i s.size)) s.size:=by
       rw[ux];apply ByteArray.ext;simp only[ByteArray.data_extract,Array.extract_extract];congr 1;omega
      rw[e] at hx
      exact⟨hx,by omega⟩
     ·
      ((try dsimp only);omega)
  ·
   obtain⟨oz,oe2⟩:=I6.1.done (by omega)
   have e5:((ofL s []):List Elem)=o:=by
    first|exact oz|exact oe2|skip
   have e6:((ofR s).2:Int)=0:=by
    first|exact oz|exact oe2|skip
   exact .finE [.r [],.le (.fr 4 [(o.length:Nat)=(List.map elemT o).length] ⟨lm,trivial⟩)] [] (fun((z0,z1):(List Elem)×Int)=>(.tup [VL 3 elemT z0,VI z1],[])) _ _ (pr e5 e6)
theorem y2C(d:Doc)(s:Sel)(t:ByteArray)(cs:List Int)(au:ByteArray)(hof:OfFC t cs)(hb:DocL d)(ht:t.size<=20000)(hx:atE d s au=0->TypB d s cs au){o:List EOp}{S:Sel}(ho:typeO d s cs au=o)(hS:typeS d s cs au=S)(h0:atE d s au=0):FC Tryz.prog 9 [.t (docT d),.t (selT s),VS t,VS au] (app emp []) (.tup [VL 19 eopT o,.t (selT S),VI 0]) (app emp []):=by
 have:=y9y d s t cs au hof hb ht hx
 rw[ho,hS,h0] at this;exact this
theorem z91(d:Doc)(c:List EOp)(hb:AppB d c){d2:Doc}(h:appD d c=d2)(h0:appE d c=0):FC Tryz.prog 10 [.t (docT d),VL 19 eopT c] (app emp []) (.tup [.t (docT d2),VI 0]) (app emp []):=by
 have:=y2A d c hb
 rw[h,h0] at this;exact this
theorem y7u(d:Doc)(hb:DocL d){n:Node}(h:nodeF d 2=n)(h2:nodeH d 2=true):FC Tryz.prog 12 [.t (docT d),VI 2] (app emp []) (.tup [.t (nodeT n),VB true]) (app emp []):=h▸h2▸y9z d 2 hb
theorem y7v{x:Elem}(h:x.attrs=[]):keptE x [] []=x:=by
 unfold keptE
 rw[h,z5G,z5G,<-h]
theorem y2D:fm chgG [] []=[]:=by simp[fm,bothL]
theorem y7w(n:Int)(o:List Elem)(c:List Conf)(x:Elem)(a b:List Attr)(ho:o=[])(hc:c=[])(hx:x.attrs=[])(ha:a=[])(hb:b=[]):FC Tryz.prog 88 [.ptr 0 0,.t (elemT x),VL 2 attrT a,VL 2 attrT b,VB false,VB false] (app emp [(0,.box [VI n,.row 1 (o).length,.row 2 (c).length]),(1,OR 3 elemT o),(2,OR 5 confT c)]) (.tup []) (app emp [(0,.box [VI n,.row 1 ([x]).length,.row 2 (([]:List Conf)).length]),(1,OR 3 elemT [x]),(2,OR 5 confT ([]:List Conf))]):=by
 subst ho hc ha hb
 have h:=y1Y n [] [] x [] [] false false (by rw[hx];decide) (by decide) (by decide)
 have e1:elmO [] x [] [] false false=[x]:=by unfold elmO;rw[if_neg (by decide),y7v hx];rfl
 have e2:elmC n [] [] [] false false []=[]:=by unfold elmC;rw[if_neg (by decide)];rfl
 rw[e1,e2] at h;exact h
theorem y3h(n:Int)(o a b:List Elem)(po:partE o 0=0)(pa:partE a 0=0)(pb:partE b 0=0)(no:AN 10000000 o)(na:AN 10000000 a)(nb:AN 10000000 b)(lo:o.length<=2000)(la:a.length<=2000)(lb:b.length<=2000){f:List Elem}(h1:mrgO n o (z0d (doneD (diffU o a))) (z0d (doneD (diffU o b)))=f)(h2:mrgC n o (z0d (doneD (diffU o a))) (z0d (doneD (diffU o b)))=[]):FC Tryz.prog 41 [VI n,VL 3 elemT o,VL 3 elemT a,VL 3 elemT b] (app emp []) (.tup [VL 3 elemT f,VL 5 confT ([]:List Conf)]) (app emp []):=by
 have h:=y11 n o a b po pa pb no na nb lo la lb
 rw[h1,h2] at h;exact h
theorem y3i(d:Doc)(k:Int)(hn:d.nodes.length<=1048576)(hs:SortN d.nodes)(hh:hasN d.nodes k=true):FC Tryz.prog 48 [.t (docT d),VI k] (app emp []) (VI (lobN d.nodes k:Int)) (app emp []):=by
 have:=z5N d k hn hs
 rw[y0H hh] at this;exact this
theorem y5Z(node:Int)(o a b:List Attr)(ho:o=[])(ha:a=[])(hb:b=[]):FC Tryz.prog 80 [VI node,VL 2 attrT o,VL 2 attrT a,VL 2 attrT b] (app emp []) (.tup [VL 2 attrT [],.row 0 (([]:List Conf).length)]) (app emp [(0,OR 5 confT ([]:List Conf))]):=by
 refine .go Tryz.f80 ?_
 refine .len 1 (fun hl1=> ?_)
 refine .len 2 (fun hl2=> ?_)
 refine .len 3 (fun hl3=> ?_)
 have z1:o.length=0:=by rw[ho];rfl
 have z2:a.length=0:=by rw[ha];rfl
 have z3:b.length=0:=by rw[hb];rfl
 have h1:fm chgG o a=[]:=by rw[ho,ha,y2D]
 have h2:fm chgG o b=[]:=by rw[ho,hb,y2D]
 refine .loop (α:=Nat) [.r [],.r [],.le (.nB 32 1 3),.le (.nB 32 2 5),.r [(5,X (Xc1 90 (z3q o a (by omega)) X0)),(8,X (Xc1 114 (z3q o b (by omega)) X0)),(9,X (Xc3 122 [(0,32),(1,48),(2,49)] (y7w node [] [] ({char:=0,ref:=0,attrs:=o}:Elem) (fm chgG o a) (fm chgG o b) rfl rfl (by exact ho) (by first|assumption|rfl) (by first|assumption|rfl)) X0))],.r []] 178 (fun i=>([(10,.ptr 32 0),(29,VI (([]:List Conf).length:Int)),(30,VI (i:Int))],[(32,.box [VI node,.row 48 ([({char:=0,ref:=0,attrs:=o}:Elem)].length),.row 49 (([]:List Conf).length)]),(48,OR 3 elemT [({char:=0,ref:=0,attrs:=o}:Elem)]),(49,OR 5 confT ([]:List Conf))])) (fun i=>i=0) (fun i=>0) (0:Nat) ?_ ?_
 ·
  rfl
 rintro i I4 ih4
 try dsimp only at I4
 refine .bp [.r []] (decide ((i:Int)< (([]:List Conf).length:Int))) (fun h4=> ?_) (fun h4=> ?_)
 ·
  exfalso
  simp only[zh] at h4;omega
 ·
  have e1:([]:List Attr)=(([({char:=0,ref:=0,attrs:=o}:Elem)].getD 0 default)).attrs:=by
   first|rfl| (simp[ho];done)
  exact .finE [.r [(4,X (Xp elemT [({char:=0,ref:=0,attrs:=o}:Elem)] 0)),(6,X (Xe elemT [({char:=0,ref:=0,attrs:=o}:Elem)] 0))]] [(49,0)] (fun z0:List Attr=>(.tup [VL 2 attrT z0,.row 0 (([]:List Conf).length)],[(0,OR 5 confT ([]:List Conf))])) _ _ e1
theorem y7x(l m:List Cell)(hl:l=[])(hm:m=[]):FC Tryz.prog 156 [VL 5 cellT l,VL 5 cellT m,.fn 157 []] (app emp []) (VB true) (app emp []):=by
 refine .go Tryz.f156 ?_
 refine .len 0 (fun hl0=> ?_)
 refine .len 1 (fun hl1=> ?_)
 have e1:l.length=0:=by rw[hl];rfl
 have e2:m.length=0:=by rw[hm];rfl
 refine .bp [.r [],.r [(1,X (Xl cellT l)),(3,X (Xl cellT m))]] ((l.length:Int) !=(m.length:Int)) (fun h1=> ?_) (fun h1=> ?_)
 ·
  exfalso
  omega
 ·
  refine .loop (α:=Nat) [.r [(1,X (Xl cellT l))]] 72 (fun i=>([(1,VL 5 cellT m),(2,.fn 157 []),(15,VL 5 cellT l),(16,VI (l.length:Int)),(17,VI (i:Int))],[])) (fun i=>i=0) (fun i=>0) (0:Nat) ?_ ?_
  ·
   rfl
  rintro i I4 ih4
  try dsimp only at I4
  refine .bp [.r []] (decide ((i:Int)< (l.length:Int))) (fun h4=> ?_) (fun h4=> ?_)
  ·
   exfalso
   omega
  ·
   exact .fin [.r []] []
theorem y7y(l m:List Rect)(hl:l=[])(hm:m=[]):FC Tryz.prog 155 [VL 4 rectT l,VL 4 rectT m] (app emp []) (VB true) (app emp []):=by
 refine .go Tryz.f155 ?_
 refine .len 0 (fun hl0=> ?_)
 refine .len 1 (fun hl1=> ?_)
 have e1:l.length=0:=by rw[hl];rfl
 have e2:m.length=0:=by rw[hm];rfl
 refine .bp [.r [],.r [(1,X (Xl rectT l)),(3,X (Xl rectT m))]] ((l.length:Int) !=(m.length:Int)) (fun h1=> ?_) (fun h1=> ?_)
 ·
  exfalso
  omega
 ·
  refine .loop (α:=Nat) [.r [(1,X (Xl rectT l))]] 72 (fun i=>([(0,VL 4 rectT l),(1,VL 4 rectT m),(12,VI (l.length:Int)),(13,VI (i:Int))],[])) (fun i=>i=0) (fun i=>0) (0:Nat) ?_ ?_
  ·
   rfl
  rintro i I4 ih4
  try dsimp only at I4
  refine .bp [.r []] (decide ((i:Int)< (l.length:Int))) (fun h4=> ?_) (fun h4=> ?_)
  ·
   exfalso
   omega
  ·
   exact .fin [.r []] []
theorem y50(x y:Grid)(hx:x=noG)(hy:y=noG):FC Tryz.prog 78 [.t (gridT x),.t (gridT y)] (app emp []) (VB true) (app emp []):=by
 refine .go Tryz.f78 ?_
 have e1:(((((x.rows==y.rows)&&(x.cols==y.cols))||false)||false):Bool)=true:=by
  rw[hx,hy];rfl
 exact .finE [.r [],.r [(7,Xv 1 (x.rows==y.rows) X0),(9,Xv 1 (x.rows==y.rows) X0),(10,Xv 2 (x.rows==y.rows) X0),(11,X (Xk (x.rows==y.rows))),(14,Xv 1 ((x.rows==y.rows)&&(x.cols==y.cols)) X0),(16,Xv 1 ((x.rows==y.rows)&&(x.cols==y.cols)) X0),(17,Xv 2 ((x.rows==y.rows)&&(x.cols==y.cols)) (Xc0 (y7y x.merges y.merges (by rw[hx];rfl) (by rw[hy];rfl)) X0)),(18,X (Xk ((x.rows==y.rows)&&(x.cols==y.cols)))),(21,Xv 1 (((x.rows==y.rows)&&(x.cols==y.cols))||false) X0),(23,Xv 1 (((x.rows==y.rows)&&(x.cols==y.cols))||false) X0),(24,Xv 2 (((x.rows==y.rows)&&(x.cols==y.cols))||false) (Xc0 (y7x x.cells y.cells (by rw[hx];rfl) (by rw[hy];rfl)) X0)),(25,X (Xk (((x.rows==y.rows)&&(x.cols==y.cols))||false)))]] [] (fun z0:Bool=>(VB z0,[])) _ _ e1.symm
theorem y51(node:Int)(o a b:Grid)(ho:o=noG)(ha:a=noG)(hb:b=noG):FC Tryz.prog 81 [VI node,.t (gridT o),.t (gridT a),.t (gridT b)] (app emp []) (.tup [.t (gridT a),VL 5 confT ([]:List Conf)]) (app emp []):=by
 refine .go Tryz.f81 ?_
 refine .bp [.r [],.r [(2,X (Xc0 (y50 a b (by assumption) (by assumption)) X0)),(4,X (Xskip (!true) (.junk)) rfl),(5,X (Xskip (!true) (.junk)) rfl),(6,X (Xskip (!true) (VB false)) rfl),(7,X (Xk' true))]] (true||false) (fun h1=> ?_) (fun h1=> ?_)
 ·
  have e1:(([]:List Conf):List Conf)=[]:=by
   rfl
  exact .finVE [.r [],.le (.nL 9 5)] [] [] (fun z0:List Conf=>(.tup [.t (gridT a),VL 5 confT z0],[])) _ _ e1
 ·
  exfalso
  simp at h1
theorem y7z(o a b r:Node)(hm:MrgN o a b r):FC Tryz.prog 37 [.t (nodeT o),.t (nodeT a),.t (nodeT b)] (app emp []) (.tup [.t (nodeT r),VL 5 confT ([]:List Conf),VI 0]) (app emp []):=by
 refine .go Tryz.f37 ?_
 have hk1:=hm.kd.1
 have hk2:=hm.kd.2
 have hat:=hm.at_
 have hgr:=hm.gr
 have hdr:=hm.dr
 have hlo:=hm.lo
 have hla:=hm.la
 have hlb:=hm.lb
 have d1:a.draw.length=0:=by rw[hdr.1];rfl
 have d2:b.draw.length=0:=by rw[hdr.2];rfl
 have hu:z0B a.draw b.draw=some []:=by rw[hdr.1,hdr.2];simp[z0B]
 refine .bp [.r [],.r [(7,Xv 1 (!(o.kind !=a.kind)) X0),(9,Xv 1 (!(o.kind !=a.kind)) X0),(10,Xv 2 (!(o.kind !=a.kind)) X0),(11,X (Xk' (o.kind !=a.kind)))]] ((o.kind !=a.kind)|| (a.kind !=b.kind)) (fun h1=> ?_) (fun h1=> ?_)
 ·
  exfalso
  rcases h1 with h|h<;>omega
 ·
  refine .bp [.r [(2,X (Xl elemT o.flow)),(5,X (Xl elemT a.flow)),(8,X (Xl elemT b.flow)),(9,X (Xmax3 (o.flow.length:Int) (a.flow.length:Int) (b.flow.length:Int)))]] (decide ((max (max (o.flow.length:Int) (a.flow.length:Int)) (b.flow.length:Int))> 2000)) (fun h3=> ?_) (fun h3=> ?_)
  ·
   exfalso
   omega
  ·
   have e1:(r:Node)=({id:=a.id,kind:=a.kind,attrs:=[],flow:=r.flow,grid:=a.grid,draw:=([]:List DOp)}:Node):=by
    exact hm.re.trans (by rw[hgr.2.1])
   have e2:(([]:List Conf):List Conf)=((([]:List Conf)++([]:List Conf))++([]:List Conf)):=by
    first|rfl|simp
   exact .finVE [.r [(4,X (Xf [(2,2),(3,3),(6,5),(7,4),(8,8)]))],.r [],.r [(8,X (Xc1 368 (y5Z a.id o.attrs a.attrs b.attrs (by exact hat.1) (by exact hat.2.1) (by exact hat.2.2)) X0))],.r [(8,X (Xc1 488 (y3h a.id o.flow a.flow b.flow (f:=r.flow) hm.po hm.pa hm.pb hm.no hm.na hm.nb hm.lo hm.la hm.lb hm.mo hm.mc) X0))],.r [(2,X (Xap 5 confT 368 ([]:List Conf) ([]:List Conf)))],.r [(8,X (Xc1 640 (y51 a.id o.grid a.grid b.grid (by exact hgr.1) (by exact hgr.2.1) (by exact hgr.2.2)) X0))],.r [(4,X (Xc1 728 (y2u a.draw b.draw (by first|omega| (simp;omega))) X0))],.le (.eq 12 (VL 8 dopT ((z0B a.draw b.draw).getD [])) (VL 8 dopT ([]:List DOp)) (.of_eq (by rw[hu];rfl))),.le (.eq 13 (VI (if(z0B a.draw b.draw).isSome then(0:Int) else 6)) (VI 0) (.of_eq (by rw[hu];rfl))),.r [],.r [(3,X (Xap 5 confT 368 (([]:List Conf)++([]:List Conf)) ([]:List Conf)))],.le (.fr 7 [((((([]:List Conf)++([]:List Conf))++([]:List Conf)).length):Nat)=(List.map confT ((([]:List Conf)++([]:List Conf))++([]:List Conf))).length] ⟨lm,trivial⟩)] [] [] (fun((z0,z1):Node×(List Conf))=>(.tup [.t (nodeT z0),VL 5 confT z1,VI 0],[])) _ _ (pr e1 e2)
theorem y9F(k:Int)(l:List Doc)(hl:0<l.length/\l.length<=1000)(hn:(l.getD 0 default).nodes.length<=1048576)(hs:SortN (l.getD 0 default).nodes)(hh:hasN (l.getD 0 default).nodes k=true):FC Tryz.prog 35 [VI k,.row 0 l.length] (app emp [(0,OR 1 docT l)]) (.t (nodeT (ndN (l.getD 0 default).nodes k))) (app emp [(0,OR 1 docT l)]):=by
 refine .go Tryz.f35 ?_
 have hlt:=(z03.1 hh).1
 refine .loop (α:=Nat) [.r [],.r []] 33 (fun i=>([(0,VI k),(4,.ptr 1 0),(8,.row 0 l.length),(9,VI (l.length:Int)),(10,VI (i:Int))],[(0,OR 1 docT l),(1,.box [VI 0,VI 0,VN,VN,VI 0,VI 0,VN,VN,VN])])) (fun i=>i=0) (fun i=>0) (0:Nat) ?_ ?_
 ·
  rfl
 rintro i I2 ih2
 try dsimp only at I2
 refine .bp [.r []] (decide ((i:Int)< (l.length:Int))) (fun h2=> ?_) (fun h2=> ?_)
 ·
  have hlt2:lobN (l.getD i default).nodes k< (l.getD i default).nodes.length:=by rw[I2];exact hlt
  refine .bp [.r [(0,X (Xp docT l (i:Int))),(1,X (Xe docT l i))],.r [(2,X (Xc0 (y3i ((l.getD i default)) k (by rw[I2];exact hn) (by rw[I2];exact hs) (by rw[I2];exact hh)) X0))],.r []] (decide ((lobN (((l.getD i default))).nodes k:Int)>=0)) (fun h5=> ?_) (fun h5=> ?_)
  ·
   have e1:((ndN (l.getD 0 default).nodes k):Node)=(((((l.getD i default)).nodes).getD (lobN (((l.getD i default))).nodes k) default)):=by
    rw[I2];rfl
   exact .finVE [.r [(3,X (Xi nodeT (((l.getD i default)).nodes) (lobN (((l.getD i default))).nodes k:Int)))]] [] [(0,0)] (fun z0:Node=>(.t (nodeT z0),[(0,OR 1 docT l)])) _ _ e1
  ·
   exfalso
   omega
 ·
  exfalso
  omega
end Go.Ch
end
section
namespace Go.Ch
open Go Go.Proofs Go.Ab Go.RowKit Go.Shelf Go.Sort
theorem y7A{P:Program}{F:Fen P}{S:Store}{m:Ab.Place}{w:World}(hS:SRel F S m w)(os:Array Obj):SRel F S m (grow w os)/\FrameExt F S m w S m (grow w os):=by
 have hg:∀b,b<w.heap.size->(grow w os).heap[b]? =w.heap[b]? :=fun b hb=>by
  show(w.heap++os)[b]? =_
  rw[Array.getElem?_append_left hb]
 have hF:FrameExt F S m w S m (grow w os):=⟨rfl,rfl,rfl,by show w.heap.size<=(w.heap++os).size;simp,fun b hb _=>hg b hb,fun id o h=>⟨o,h,qr _,fun _=>rfl,fun h=>h,fun _ q=> .inl q,o.same_refl⟩,fun id o h hn=>by rw[h] at hn;cases hn⟩
 exact⟨⟨fun id o h=>(hS.objs id o h).persist hF (fun b hb=>hg b (hS.lt id o b h hb)),hS.inj,hS.avoid,fun id o b h hb=>zr (hS.lt id o b h hb) hF.size,fun b hb=>zr (hS.low b hb) hF.size,hS.held hF⟩,hF⟩
theorem y0V(o o':Ob):upd (app emp [(0,o)]) 0 o'=app emp [(0,o')]:=by
 funext i
 by_cases e:i=0
 ·subst e;rfl
 ·rw[z0k e]
  show upd emp 0 o i=upd emp 0 o' i
  rw[z0k e,z0k e]
theorem y52{w:World}{b:Nat}{c:Array Value}{e:TypeId}{fr:Nat×Nat}(f:Array Value->Array Value)(h:w.heap[b]? =some (.cells c e fr)):(mapBlock w b f).heap[b]? =some (.cells (f c) e fr):=by
 unfold mapBlock
 simp only[Array.getElem?_modify,if_true,h]
 rfl
theorem y53{w:World}{b x:Nat}(f:Array Value->Array Value)(h:x≠b):(mapBlock w b f).heap[x]? =w.heap[x]? :=by
 unfold mapBlock
 simp only[Array.getElem?_modify]
 rw[if_neg (fun e=>h e.symm)]
end Go.Ch
end
section
set_option maxRecDepth 100000
namespace Go.Ch
open Go Go.Proofs Go.Ab Go.RowKit Go.Shelf Go.Sort
theorem z6G{l:List Int}:∀x∈l.map intT,Elt 1 x:=fun x hx=>by
 obtain⟨r,_,rfl⟩:=qy.1 hx
 exact⟨rfl,fun T hT=>by simp only[intT,Tree.cells,qn,qV,or_false] at hT;subst hT;rfl⟩
theorem z5P(l:List Int)(j:Nat)(hj:j<l.length):(flat (l.map intT))[j]? =some (intT (l[j]'hj)):=by
 have h1:=z3A (k:=1) (xs:=l.map intT) (i:=j) (X:=intT l[j]) z6G (by rw[ze,qa hj];rfl) (j:=0) (by omega)
 simpa[intT,Tree.cells] using h1
theorem y54(l:List Int):(srtZ l).Perm l:=List.mergeSort_perm l _
theorem z5Q(l:List Int):(srtZ l).length=l.length:=(y54 l).length_eq
theorem y7B(l:List Int)(hn:l.length<=100000000000):
 FC Tryz.prog 33 [.row 0 l.length] (app emp [(0,.row 1 false (l.map intT))]) (.tup []) (app emp [(0,.row 1 false ((srtZ l).map intT))]):=by
 intro F m w xs hS hl hv
 match xs,hl with
 | [x0],_=>
 have v0:=hv 0 _ _ rfl rfl
 have hs0:app emp [(0,Ob.row 1 false (l.map intT))] 0=some (.row 1 false (l.map intT)):=rfl
 obtain⟨a1,a2,a3,a4,a5⟩:=hS.objs 0 _ hs0
 have hlen:=z5Q l
 cases v0 with
 |rowG _ _ L hs'=>rw[hs0] at hs';cases hs'
 |row _ _ k' fz' xs' L hs' hn' hu'=>
 rw[hs0] at hs';cases hs'
 have hL:=hu' (by simp)
 rw[hL] at a3 a4 a5
 rcases a5 with⟨q1,q2⟩| ⟨b,us,e,h1,h2,h3,h4,h5⟩
 ·obtain⟨L1,L2⟩:=L
  simp only at q1 q2
  subst q1 q2
  obtain rfl:l=[]:=zN.1 (by have a3':(List.map intT l).length<=0:=a3;rw[qg] at a3';omega)
  have key:=Tryz.slices_Sort_int_none none 0 w
  change Calls Tryz.prog 33 _ _ _ at key
  refine key.mono ?_
  rintro e' w' ⟨rfl,rfl⟩
  rw[show srtZ []=[] by simp[srtZ]]
  exact⟨_,m,rfl,hS,FrameExt.refl F _ m _,.tup [] [] rfl (fun i v u hv=>by simp at hv)⟩
 ·have hb:b<w.heap.size:=(za.1 h2).1
  have hsz:l.length<=us.size:=by rw[h3];simp at a3;omega
  have hcell:∀(W:World) (c:Array Value) (o:Nat),W.heap[b]? =some (.cells c e (0,0))->W.cell? ⟨b,o,none⟩=c[o]? :=fun W c o h=>by
   unfold World.cell?;simp only[h];rfl
  have hcu:∀(j:Nat) (hj:j<l.length),us[j]? =some (.int .i64 l[j]):=fun j hj=>by
   have hu:us[j]? =some us[j]:=zK (by omega)
   rw[hu]
   have:=h5 j _ _ (z5P l j hj) hu
   generalize us[j]=u at*
   cases this;rfl
  have hH:Holds (Value.int .i64) w b 0 l.toArray:=fun j hj=>by
   have hj':j<l.length:=by simpa using hj
   refine⟨?_,?_⟩
   ·rw[hcell w us _ h2,zB,hcu j hj',getElem!_pos l.toArray j hj]
    simp
   ·unfold World.frozen?;simp only[h2];simp
  have key:=Tryz.slices_Sort_int b 0 L.2 l w hH hb (by omega)
  obtain⟨L1,L2⟩:=L
  simp only at h1
  subst h1
  have ea:(#[Value.slice (some ⟨b,0,none⟩) l.length L2]:Array Value)=[z0y (some b,L2) l.length].toArray:=by simp[z0y]
  rw[ea] at key
  refine key.mono ?_
  rintro e' w' ⟨rfl,n,os,rfl⟩
  have hDs:(srtZ l).toArray.size=l.length:=by simp[hlen]
  have hblk:(putRow (Value.int .i64) (Sort.ahead w n) b 0 (srtZ l).toArray).heap[b]? =some (.cells (putCells (Value.int .i64) 0 (srtZ l).toArray us) e (0,0)):=y52 _ h2
  have hcu2:∀(j:Nat) (u:Value),(putCells (Value.int .i64) 0 (srtZ l).toArray us)[j]? =some u->(∃hj:j< (srtZ l).length,u= .int .i64 (srtZ l)[j])\/(¬j< (srtZ l).length/\us[j]? =some u):=fun j u hu=>by
   unfold putCells at hu
   rw[Array.getElem?_mapIdx,qf] at hu
   obtain⟨x,hx,hxu⟩:=hu
   split at hxu
   ·rename_i hc
    have hj:j< (srtZ l).length:=by rw[hDs] at hc;omega
    refine .inl ⟨hj,?_⟩
    rw[<-hxu,Nat.sub_zero,getElem!_pos (srtZ l).toArray j (by simpa using hj)]
    simp
   ·rename_i hc
    exact .inr ⟨fun hj=>hc ⟨qp _,by rw[hDs];omega⟩,by rw[hx,hxu]⟩
  have r:=z0F (o':= .row 1 false ((srtZ l).map intT)) hS hs0 rfl (by rw[hL]) (w':=putRow (Value.int .i64) (Sort.ahead w n) b 0 (srtZ l).toArray) rfl rfl rfl
   (by show(w.heap.modify b _).size=_;simp) (fun c hc=>y53 (w:=Sort.ahead w n) _ hc) (by simp only[Ob.len,qg];omega) (by simp[Ob.same]) (fun hF=>by
    rw[hL]
    refine⟨a1,z6G,by simp only[qg] at a3|-;omega,a4,.inr ⟨b,_,e,rfl,hblk,?_,fun j u hu=> ?_,fun j T u hT hu=> ?_⟩⟩
    ·unfold putCells;rw[Array.size_mapIdx];exact h3
    ·rcases hcu2 j u hu with⟨hj,rfl⟩| ⟨_,hu⟩
     ·rfl
     ·exact h4 j u hu
    ·have hj:j< (srtZ l).length:=by
      have:=(qx.1 hT).1
      rw[z07 z6G,qg] at this;omega
     rcases hcu2 j u hu with⟨hj2,rfl⟩| ⟨hno,_⟩
     ·rw[z5P (srtZ l) j hj] at hT
      cases hT;exact .sc _ rfl
     ·exact absurd hj hno)
  rw[y0V] at r
  obtain⟨g1,g2⟩:=y7A r.1 os
  exact⟨_,m,rfl,g1,FrameExt.trans hS r.2 g2,.tup [] [] rfl (fun i v u hv=>by simp at hv)⟩
theorem TRep.pre{w:World}{ok:Nat->Prop}{k:Nat}{xs:List Tree}{A:Option Addr}{n c:Nat}(h:TRep w ok (.lst k xs) (.slice A n c))(q:Nat)(hq:q<=xs.length):TRep w ok (.lst k (xs.take q)) (.slice A q c):=by
 cases h with
 |lst _ _ _ _ us hk hx hn hm hA hl h=>
  have e:(xs.take q).length=q:=by rw[qX];omega
  have:=TRep.lst (w:=w) (ok:=ok) k (xs.take q) A c (us.take (q*k)) hk (fun x hx'=>hx x (qL hx')) (by omega) hm (fun hne=>by
   have hne2:xs≠[]:=fun z=>hne (by rw[z];simp)
   obtain⟨b,o,h1,h2,h3⟩:=hA hne2
   exact⟨b,o,h1,h2,fun j u hu=>h3 j u (by
    rw[qM] at hu
    split at hu
    ·exact hu
    ·cases hu)⟩) (by
    have:q*k<=xs.length*k:=zm k hq
    rw[qX,e];omega) (fun j T u hT hu=>by
    rw[z3j hx,qM] at hT
    rw[qM] at hu
    split at hT
    ·rename_i z
     rw[if_pos z] at hu
     exact h j T u hT hu
    ·cases hT)
  rw[e] at this
  exact this
def cmpF(l:List Int):List Int:=Lib.compact l++List.replicate (l.length- (Lib.compact l).length) 0
theorem z7n(l:List Int):(Lib.compact l).length<=l.length:=by
 unfold Lib.compact Lib.compactUpTo
 rw[qg]
 exact zd (z7 _ _) (by rw[List.length_range];exact qr _)
theorem y7C(l:List Int):(cmpF l).length=l.length:=by
 unfold cmpF;rw[qc,qW];have:=z7n l;omega
theorem y0W(l:List Int)(h0:0<l.length)(hn:l.length<=100000000000):
 FC Tryz.prog 34 [.row 0 l.length] (app emp [(0,.row 1 false (l.map intT))]) (.t (.lst 1 ((Lib.compact l).map intT))) (app emp [(0,.row 1 true ((cmpF l).map intT))]):=by
 intro F m w xs hS hl hv
 match xs,hl with
 | [x0],_=>
 have v0:=hv 0 _ _ rfl rfl
 have hs0:app emp [(0,Ob.row 1 false (l.map intT))] 0=some (.row 1 false (l.map intT)):=rfl
 obtain⟨a1,a2,a3,a4,a5⟩:=hS.objs 0 _ hs0
 have hlen:=y7C l
 cases v0 with
 |rowG _ _ L hs'=>rw[hs0] at hs';cases hs'
 |row _ _ k' fz' xs' L hs' hn' hu'=>
 rw[hs0] at hs';cases hs'
 have hL:=hu' (by simp)
 rw[hL] at a3 a4 a5
 rcases a5 with⟨q1,q2⟩| ⟨b,us,e,h1,h2,h3,h4,h5⟩
 ·obtain⟨L1,L2⟩:=L
  simp only at q1 q2
  rw[qg] at a3
  have a3':l.length<=L2:=a3
  omega
 ·have hb:b<w.heap.size:=(za.1 h2).1
  have hsz:l.length<=us.size:=by rw[h3];simp at a3;omega
  have hcap:l.length<=L.2:=by simpa using a3
  have hcell:∀(W:World) (c:Array Value) (o:Nat),W.heap[b]? =some (.cells c e (0,0))->W.cell? ⟨b,o,none⟩=c[o]? :=fun W c o h=>by
   unfold World.cell?;simp only[h];rfl
  have hcu:∀(j:Nat) (hj:j<l.length),us[j]? =some (.int .i64 l[j]):=fun j hj=>by
   have hu:us[j]? =some us[j]:=zK (by omega)
   rw[hu]
   have:=h5 j _ _ (z5P l j hj) hu
   generalize us[j]=u at*
   cases this;rfl
  have hH:Holds (Value.int .i64) w b 0 l.toArray:=fun j hj=>by
   have hj':j<l.length:=by simpa using hj
   refine⟨?_,?_⟩
   ·rw[hcell w us _ h2,zB,hcu j hj',getElem!_pos l.toArray j hj]
    simp
   ·unfold World.frozen?;simp only[h2];simp
  have key:=Tryz.slices_Compact_int b 0 L.2 l w hH (by omega) hcap
  obtain⟨L1,L2⟩:=L
  simp only at h1
  subst h1
  have ea:(#[Value.slice (some ⟨b,0,none⟩) l.length L2]:Array Value)=[z0y (some b,L2) l.length].toArray:=by simp[z0y]
  rw[ea] at key
  refine key.mono ?_
  rintro e' w' ⟨rfl,n,rfl⟩
  have hDs:(cmpF l).toArray.size=l.length:=by simp[hlen]
  change SRel F _ m w at hS
  have hblk:(putRow (Value.int .i64) (Sort.ahead w n) b 0 (cmpF l).toArray).heap[b]? =some (.cells (putCells (Value.int .i64) 0 (cmpF l).toArray us) e (0,0)):=y52 _ h2
  have hcu2:∀(j:Nat) (u:Value),(putCells (Value.int .i64) 0 (cmpF l).toArray us)[j]? =some u->(∃hj:j< (cmpF l).length,u= .int .i64 (cmpF l)[j])\/(¬j< (cmpF l).length/\us[j]? =some u):=fun j u hu=>by
   unfold putCells at hu
   rw[Array.getElem?_mapIdx,qf] at hu
   obtain⟨x,hx,hxu⟩:=hu
   split at hxu
   ·rename_i hc
    have hj:j< (cmpF l).length:=by rw[hDs] at hc;omega
    refine .inl ⟨hj,?_⟩
    rw[<-hxu,Nat.sub_zero,getElem!_pos (cmpF l).toArray j (by simpa using hj)]
    simp
   ·rename_i hc
    exact .inr ⟨fun hj=>hc ⟨qp _,by rw[hDs];omega⟩,by rw[hx,hxu]⟩
  have r:=z0F (o':= .row 1 false ((cmpF l).map intT)) hS hs0 rfl (by rw[hL]) (w':=putRow (Value.int .i64) (Sort.ahead w n) b 0 (cmpF l).toArray) rfl rfl rfl
   (by show(w.heap.modify b _).size=_;simp) (fun c hc=>y53 (w:=Sort.ahead w n) _ hc) (by simp only[Ob.len,qg];omega) (by simp[Ob.same]) (fun hF=>by
    rw[hL]
    refine⟨a1,z6G,by simp only[qg] at a3|-;omega,a4,.inr ⟨b,_,e,rfl,hblk,?_,fun j u hu=> ?_,fun j T u hT hu=> ?_⟩⟩
    ·unfold putCells;rw[Array.size_mapIdx];exact h3
    ·rcases hcu2 j u hu with⟨hj,rfl⟩| ⟨_,hu⟩
     ·rfl
     ·exact h4 j u hu
    ·have hj:j< (cmpF l).length:=by
      have:=(qx.1 hT).1
      rw[z07 z6G,qg] at this;omega
     rcases hcu2 j u hu with⟨hj2,rfl⟩| ⟨hno,_⟩
     ·rw[z5P (cmpF l) j hj] at hT
      cases hT;exact .sc _ rfl
     ·exact absurd hj hno)
  rw[y0V] at r
  have hid:app emp [(0,Ob.row 1 false ((cmpF l).map intT))] 0=some (.row 1 false ((cmpF l).map intT)):=rfl
  obtain⟨g1,g2⟩:=Ab.freeze r.1 hid
  rw[y0V] at g1 g2
  have ht:=z5t g1 (id:=0) (k:=1) (xs:=(cmpF l).map intT) rfl
  rw[hL] at ht
  have hp:=TRep.pre (show TRep _ _ (.lst 1 ((cmpF l).map intT)) (.slice (some ⟨b,0,none⟩) ((cmpF l).map intT).length L2) from ht) (Lib.compact l).length (by rw[qg,hlen];exact z7n l)
  have et:((cmpF l).map intT).take (Lib.compact l).length=(Lib.compact l).map intT:=by
   rw[<-List.map_take];unfold cmpF;rw[List.take_left'];rfl
  rw[et] at hp
  exact⟨_,m,rfl,g1,FrameExt.trans hS r.2 g2,.t _ _ hp⟩
theorem y0X(l:List Int)(q:Nat)(L:List Int)(h:Lib.compact l=L)(h0:0<l.length)(hq:q=l.length)(hn:l.length<=100000000000):
 FC Tryz.prog 34 [.row 0 q] (app emp [(0,.row 1 false (l.map intT))]) (.t (.lst 1 (L.map intT))) (app emp [(0,.row 1 true ((cmpF l).map intT))]):=by
 subst hq;subst h;exact y0W l h0 hn
end Go.Ch
end
section
set_option maxRecDepth 100000
set_option maxHeartbeats 4000000
open Go Go.Proofs Go.Ab
namespace Go.Ch
theorem z4M(k:Int)(l:List Doc)(q:Nat)(d:Doc)(hq:q=l.length)(hl:0<l.length/\l.length<=1000)(hd:l.getD 0 default=d)(hn:d.nodes.length<=1048576)(hs:SortN d.nodes)(hh:hasN d.nodes k=true):FC Tryz.prog 35 [VI k,.row 0 q] (app emp [(0,OR 1 docT l)]) (.t (nodeT (ndN d.nodes k))) (app emp [(0,OR 1 docT l)]):=by
 subst hq
 have:=y9F k l hl (by rw[hd];exact hn) (by rw[hd];exact hs) (by rw[hd];exact hh)
 rw[hd] at this;exact this
theorem y7D(o a b:Doc)(R:List Node)(hm:MrgD o a b [1,2,3] R):FC Tryz.prog 11 [.t (docT o),.t (docT a),.t (docT b)] (app emp []) (.tup [.t (docT ({nodes:=R}:Doc)),VL 5 confT ([]:List Conf),VI 0]) (app emp []):=by
 refine .go Tryz.f11 ?_
 obtain⟨dlo,dla,dlb⟩:=hm.dl
 obtain⟨deo,dea,deb⟩:=hm.de
 obtain⟨lo,o0,o1,o2⟩:=ids3 hm.ido
 obtain⟨la,a0,a1,a2⟩:=ids3 hm.ida
 obtain⟨lb,b0,b1,b2⟩:=ids3 hm.idb
 have hno:o.nodes.length<=1048576:=by omega
 have hna:a.nodes.length<=1048576:=by omega
 have hnb:b.nodes.length<=1048576:=by omega
 have hso:=z3N deo
 have hsa:=z3N dea
 have hsb:=z3N deb
 obtain⟨L,hLe⟩:∃L:List Int,L=[1,2,3]:=⟨_,rfl⟩
 have lL:L.length=3:=by rw[hLe];rfl
 have lR:R.length=3:=hm.len
 have hE:=hm.each
 rw[<-hLe] at hE
 refine .bp [.r [],.r [],.u,.r [],.t,.r [(0,X (Xa (Xc ((0:Int)<=0)) (Xc ((0:Int)< ((3:Nat):Int)))) ⟨by decide,by decide⟩)],.r [(1,X (Xc0 (z29 o (by assumption)) X0))],.r []] ((docE o) !=0) (fun h5=> ?_) (fun h5=> ?_)
 ·
  exfalso
  first|exact h5 deo|exact h5 dea|exact h5 deb
 ·
  refine .bp [.r [],.u,.r [],.t,.r [(0,X (Xa (Xc ((0:Int)<=1)) (Xc ((1:Int)< ((3:Nat):Int)))) ⟨by decide,by decide⟩)],.r [(1,X (Xc0 (z29 a (by assumption)) X0))],.r []] ((docE a) !=0) (fun h5=> ?_) (fun h5=> ?_)
  ·
   exfalso
   first|exact h5 deo|exact h5 dea|exact h5 deb
  ·
   refine .bp [.r [],.u,.r [],.t,.r [(0,X (Xa (Xc ((0:Int)<=2)) (Xc ((2:Int)< ((3:Nat):Int)))) ⟨by decide,by decide⟩)],.r [(1,X (Xc0 (z29 b (by assumption)) X0))],.r []] ((docE b) !=0) (fun h5=> ?_) (fun h5=> ?_)
   ·
    exfalso
    first|exact h5 deo|exact h5 dea|exact h5 deb
   ·
    obtain⟨Z,hgen⟩:∃z,(((((((([((o.nodes.getD 0 default)).id]++[((o.nodes.getD 1 default)).id])++[((o.nodes.getD 2 default)).id])++[((a.nodes.getD 0 default)).id])++[((a.nodes.getD 1 default)).id])++[((a.nodes.getD 2 default)).id])++[((b.nodes.getD 0 default)).id])++[((b.nodes.getD 1 default)).id])++[((b.nodes.getD 2 default)).id])=z:=⟨_,rfl⟩
    have hz:Z=[1,2,3,1,2,3,1,2,3]:=by rw[<-hgen];simp only[o0,o1,o2,a0,a1,a2,b0,b1,b2];rfl
    have lz:Z.length=9:=by rw[hz];rfl
    have hcL:Lib.compact (srtZ Z)=L:=by rw[hLe,hz];exact srt9
    refine .loop (α:=Nat×(List Node)×(List Conf)) [.r [],.u,.r [],.f,.r [],.r [],.u,.r [],.t,.r [(0,X (Xa (Xc ((0:Int)<=0)) (Xc ((0:Int)< ((3:Nat):Int)))) ⟨by decide,by decide⟩)],.r [(2,X (Xl nodeT o.nodes))],.le (.eq 50 (VI (o.nodes.length:Int)) (VI 3) (.of_eq (by first|rw[lo];done|rw[la];done|rw[lb];done| (rw[lo];rfl)| (rw[la];rfl)| (rw[lb];rfl)))),.u,.r [],.t,.r [(0,X (Xi nodeT o.nodes 0))],.r [(4,X (rowC intT [((o.nodes.getD 0 default)).id] (Xan intT 544 [((o.nodes.getD 0 default)).id])))],.r [],.u,.r [],.t,.r [(0,X (Xi nodeT o.nodes 1))],.r [(4,X (rowC intT [((o.nodes.getD 1 default)).id] (Xap 1 intT 544 [((o.nodes.getD 0 default)).id] [((o.nodes.getD 1 default)).id])))],.r [],.u,.r [],.t,.r [(0,X (Xi nodeT o.nodes 2))],.r [(4,X (rowC intT [((o.nodes.getD 2 default)).id] (Xap 1 intT 544 ([((o.nodes.getD 0 default)).id]++[((o.nodes.getD 1 default)).id]) [((o.nodes.getD 2 default)).id])))],.r [],.u,.r [],.f,.r [],.u,.r [],.t,.r [(0,X (Xa (Xc ((0:Int)<=1)) (Xc ((1:Int)< ((3:Nat):Int)))) ⟨by decide,by decide⟩)],.r [(2,X (Xl nodeT a.nodes))],.le (.eq 50 (VI (a.nodes.length:Int)) (VI 3) (.of_eq (by first|rw[lo];done|rw[la];done|rw[lb];done| (rw[lo];rfl)| (rw[la];rfl)| (rw[lb];rfl)))),.u,.r [],.t,.r [(0,X (Xi nodeT a.nodes 0))],.r [(4,X (rowC intT [((a.nodes.getD 0 default)).id] (Xap 1 intT 544 (([((o.nodes.getD 0 default)).id]++[((o.nodes.getD 1 default)).id])++[((o.nodes.getD 2 default)).id]) [((a.nodes.getD 0 default)).id])))],.r [],.u,.r [],.t,.r [(0,X (Xi nodeT a.nodes 1))],.r [(4,X (rowC intT [((a.nodes.getD 1 default)).id] (Xap 1 intT 544 ((([((o.nodes.getD 0 default)).id]++[((o.nodes.getD 1 default)).id])++[((o.nodes.getD 2 default)).id])++[((a.nodes.getD 0 default)).id]) [((a.nodes.getD 1 default)).id])))],.r [],.u,.r [],.t,.r [(0,X (Xi nodeT a.nodes 2))],.r [(4,X (rowC intT [((a.nodes.getD 2 default)).id] (Xap 1 intT 544 (((([((o.nodes.getD 0 default)).id]++[((o.nodes.getD 1 default)).id])++[((o.nodes.getD 2 default)).id])++[((a.nodes.getD 0 default)).id])++[((a.nodes.getD 1 default)).id]) [((a.nodes.getD 2 default)).id])))],.r [],.u,.r [],.f,.r [],.u,.r [],.t,.r [(0,X (Xa (Xc ((0:Int)<=2)) (Xc ((2:Int)< ((3:Nat):Int)))) ⟨by decide,by decide⟩)],.r [(2,X (Xl nodeT b.nodes))],.le (.eq 50 (VI (b.nodes.length:Int)) (VI 3) (.of_eq (by first|rw[lo];done|rw[la];done|rw[lb];done| (rw[lo];rfl)| (rw[la];rfl)| (rw[lb];rfl)))),.u,.r [],.t,.r [(0,X (Xi nodeT b.nodes 0))],.r [(4,X (rowC intT [((b.nodes.getD 0 default)).id] (Xap 1 intT 544 ((((([((o.nodes.getD 0 default)).id]++[((o.nodes.getD 1 default)).id])++[((o.nodes.getD 2 default)).id])++[((a.nodes.getD 0 default)).id])++[((a.nodes.getD 1 default)).id])++[((a.nodes.getD 2 default)).id]) [((b.nodes.getD 0 default)).id])))],.r [],.u,.r [],.t,.r [(0,X (Xi nodeT b.nodes 1))],.r [(4,X (rowC intT [((b.nodes.getD 1 default)).id] (Xap 1 intT 544 (((((([((o.nodes.getD 0 default)).id]++[((o.nodes.getD 1 default)).id])++[((o.nodes.getD 2 default)).id])++[((a.nodes.getD 0 default)).id])++[((a.nodes.getD 1 default)).id])++[((a.nodes.getD 2 default)).id])++[((b.nodes.getD 0 default)).id]) [((b.nodes.getD 1 default)).id])))],.r [],.u,.r [],.t,.r [(0,X (Xi nodeT b.nodes 2))],.r [(4,X (rowC intT [((b.nodes.getD 2 default)).id] (Xap 1 intT 544 ((((((([((o.nodes.getD 0 default)).id]++[((o.nodes.getD 1 default)).id])++[((o.nodes.getD 2 default)).id])++[((a.nodes.getD 0 default)).id])++[((a.nodes.getD 1 default)).id])++[((a.nodes.getD 2 default)).id])++[((b.nodes.getD 0 default)).id])++[((b.nodes.getD 1 default)).id]) [((b.nodes.getD 2 default)).id])))],.r [],.u,.r [],.f,.r [],.u,.r [],.f,.le (.er 544 (List.map intT (((((((([((o.nodes.getD 0 default)).id]++[((o.nodes.getD 1 default)).id])++[((o.nodes.getD 2 default)).id])++[((a.nodes.getD 0 default)).id])++[((a.nodes.getD 1 default)).id])++[((a.nodes.getD 2 default)).id])++[((b.nodes.getD 0 default)).id])++[((b.nodes.getD 1 default)).id])++[((b.nodes.getD 2 default)).id])) (List.map intT Z) (by rw[hgen])),.le (.eq 12 (.row 544 ((((((((([((o.nodes.getD 0 default)).id]++[((o.nodes.getD 1 default)).id])++[((o.nodes.getD 2 default)).id])++[((a.nodes.getD 0 default)).id])++[((a.nodes.getD 1 default)).id])++[((a.nodes.getD 2 default)).id])++[((b.nodes.getD 0 default)).id])++[((b.nodes.getD 1 default)).id])++[((b.nodes.getD 2 default)).id]).length)) (.row 544 Z.length) (.of_eq (by rw[<-hgen]))),.r [(1,X (Xc3 1624 [(0,544)] (y7B Z (by omega)) X0))],.r [],.r [],.le (.nB 1632 0 9),.r [(1,X (Xc3 1657 [(0,544)] (y0X (srtZ Z) Z.length L hcL (by rw[z5Q];omega) (by rw[z5Q]) (by rw[z5Q];omega)) X0)),(2,X (Xl intT L))],.le (.nR 18 5)] 1682 (fun(i,W,c)=>([(3,.ptr 0 0),(4,.ptr 8 0),(5,.ptr 16 0),(6,.ptr 24 0),(17,.ptr 1632 0),(18,.row 1681 c.length),(65,VL 1 intT L),(66,VI (L.length:Int)),(67,VI (i:Int))],[(0,.box [VL 9 nodeT o.nodes]),(8,.box [VL 9 nodeT a.nodes]),(16,.box [VL 9 nodeT b.nodes]),(24,.box [VN]),(1632,.box [.row 1648 W.length]),(1648,OR 9 nodeT W),(1681,OR 5 confT c)])) (fun(i,W,c)=>i<=3/\W=R.take i/\c=[]) (fun(i,W,c)=>3-i) (0,[],[]) ?_ ?_
    ·
     exact⟨by omega,rfl,rfl⟩
    rintro⟨i,W,c⟩ I22 ih22
    try dsimp only at I22
    have lW:W.length=i:=by rw[I22.2.1,qX];omega
    have lc:c.length=0:=by rw[I22.2.2];rfl
    refine .bp [.r []] (decide ((i:Int)< (L.length:Int))) (fun h22=> ?_) (fun h22=> ?_)
    ·
     obtain⟨hho,hha,hhb⟩:=hm.has i (show i<3 by omega)
     have hz0:=hm.nz i (show i<3 by omega)
     rw[<-hLe] at hho hha hhb hz0
     refine .bp [.r [(0,X (Xi intT L (i:Int)))],.r [(3,X (Xc3 1738 [(0,1730)] (z4M (L.getD i default) [o] 1 o rfl (by simp) rfl hno hso hho) X0)),(7,X (Xc3 1770 [(0,1762)] (z4M (L.getD i default) [a] 1 a rfl (by simp) rfl hna hsa hha) X0)),(11,X (Xc3 1802 [(0,1794)] (z4M (L.getD i default) [b] 1 b rfl (by simp) rfl hnb hsb hhb) X0))],.r [(5,Xv 1 ((((ndN o.nodes (L.getD i default))).id)==0) X0),(6,Xv 1 ((((ndN o.nodes (L.getD i default))).id)==0) X0),(7,X (Xk ((((ndN o.nodes (L.getD i default))).id)==0))),(10,Xv 1 (((((ndN o.nodes (L.getD i default))).id)==0)&&((((ndN a.nodes (L.getD i default))).id) !=0)) X0),(11,Xv 1 (((((ndN o.nodes (L.getD i default))).id)==0)&&((((ndN a.nodes (L.getD i default))).id) !=0)) X0),(12,X (Xk (((((ndN o.nodes (L.getD i default))).id)==0)&&((((ndN a.nodes (L.getD i default))).id) !=0))))]] ((((((ndN o.nodes (L.getD i default))).id)==0)&&((((ndN a.nodes (L.getD i default))).id) !=0))&&((((ndN b.nodes (L.getD i default))).id) !=0)) (fun h25=> ?_) (fun h25=> ?_)
     ·
      exfalso
      omega
     ·
      refine .bp [.r []] ((((ndN o.nodes (L.getD i default))).id)==0) (fun h29=> ?_) (fun h29=> ?_)
      ·
       exfalso
       omega
      ·
       refine .back [.r [(5,X (Xc3 2042 [(0,2034)] (z4M (L.getD i default) [a,o] 2 a rfl (by simp) rfl hna hsa hha) X0)),(10,X (Xc3 2082 [(0,2074)] (z4M (L.getD i default) [b,o] 2 b rfl (by simp) rfl hnb hsb hhb) X0)),(11,X (Xc1 2090 (y7z ((ndN o.nodes (L.getD i default))) (ndN a.nodes (L.getD i default)) (ndN b.nodes (L.getD i default)) (R.getD i default) (hE i (by omega))) X0))],.r [],.f,.r [(4,X (rowC nodeT [((R.getD i default))] (XapB 9 nodeT 1648 W [((R.getD i default))]))),(7,X (Xap 5 confT 1681 c ([]:List Conf)))],.r [(0,X (Xn ((i:Int)+1)))]] [(0,0),(8,8),(16,16),(24,24),(1632,1632),(1648,1648),(1681,1681)] (ih22 ((i+1),(W++[((R.getD i default))]),(c++([]:List Conf))) ?_ ?_)
       ·
        refine⟨by omega,?_,?_⟩
        ·rw[I22.2.1,takeN (by omega)]
        ·rw[I22.2.2];rfl
       ·
        ((try dsimp only);omega)
    ·
     have hW:W=R:=by rw[I22.2.1,qw (by omega)]
     have e1:(({nodes:=R}:Doc):Doc)=(({nodes:=W}:Doc)):=by
      first|exact I22.2.2|exact I22.2.2.symm| (show W=R;exact hW)| (rw[hW];done)| (rw[I22.2.2];done)
     have e2:(([]:List Conf):List Conf)=c:=by
      first|exact I22.2.2|exact I22.2.2.symm| (show W=R;exact hW)| (rw[hW];done)| (rw[I22.2.2];done)
     exact .finVE [.r [(1,X (Xc1 1698 (z9Y ({nodes:=W}:Doc) (by rw[hW];exact hm.dr)) (rowC nodeT W X0)))],.le (.fr 7 [(c.length:Nat)=(List.map confT c).length] ⟨lm,trivial⟩)] [.fR 0 [(((({nodes:=W}:Doc)).nodes.length):Nat)=(List.map nodeT ((({nodes:=W}:Doc)).nodes)).length] ⟨lm,trivial⟩] [] (fun((z0,z1):Doc×(List Conf))=>(.tup [.t (docT z0),VL 5 confT z1,VI 0],[])) _ _ (pr e1 e2)
theorem y55(d:Doc)(site:Int):FC Tryz.prog 23 [.t (docT d),VI site,VN] (app emp []) (.t (docT d)) (app emp []):=by
 refine .go Tryz.f23 ?_
 refine .bp [.r [],.r [],.u,.r [(7,Xv 1 false X0),(8,X (Xk false))]] (false||false) (fun h2=> ?_) (fun h2=> ?_)
 ·
  exfalso
  simp at h2
 ·
  exact .finV [.r []] [] []
theorem y56:FC Tryz.prog 8 [VN] (app emp []) (.t (docT baseD)) (app emp []):=by
 refine .go Tryz.f8 ?_
 have e1:(baseD:Doc)=(({nodes:=([({id:=1,kind:=0,attrs:=[],flow:=([({char:=0,ref:=2,attrs:=[]}:Elem)]++[({char:=0,ref:=3,attrs:=[]}:Elem)]),grid:=({rows:=0,cols:=0,cells:=[],merges:=[]}:Grid),draw:=[]}:Node),({id:=2,kind:=1,attrs:=[],flow:=([({char:=97,ref:=0,attrs:=[]}:Elem),({char:=98,ref:=0,attrs:=[]}:Elem),({char:=99,ref:=0,attrs:=[]}:Elem)]++[({char:=10,ref:=0,attrs:=[]}:Elem),({char:=100,ref:=0,attrs:=[]}:Elem),({char:=10,ref:=0,attrs:=[]}:Elem)]),grid:=({rows:=0,cols:=0,cells:=[],merges:=[]}:Grid),draw:=[]}:Node)]++[({id:=3,kind:=10,attrs:=[],flow:=[],grid:=({rows:=0,cols:=0,cells:=[],merges:=[]}:Grid),draw:=[]}:Node)])}:Doc)):=by
  rfl
 exact .finVE [.r [],.r [(0,X (Xc1 8 y5X X0))],.r [(4,X (Xa (Xc ((0:Int)<=0)) (Xc ((0:Int)< ((2:Nat):Int)))) ⟨by decide,by decide⟩),(7,X (Xf [(2,2)])),(9,X (rowC elemT [({char:=0,ref:=3,attrs:=[]}:Elem)] (Xap 3 elemT 10 [({char:=0,ref:=2,attrs:=[]}:Elem)] [({char:=0,ref:=3,attrs:=[]}:Elem)]))),(10,X (Xa (Xc ((0:Int)<=0)) (Xc ((0:Int)< ((2:Nat):Int)))) ⟨by decide,by decide⟩)],.r [(2,X (Xc1 152 x0n X0)),(3,X (Xf [(2,2)])),(4,X (Xf [(2,2)])),(5,X (Xf [(2,2)])),(7,X (rowC elemT [({char:=10,ref:=0,attrs:=[]}:Elem),({char:=100,ref:=0,attrs:=[]}:Elem),({char:=10,ref:=0,attrs:=[]}:Elem)] (Xap 3 elemT 152 [({char:=97,ref:=0,attrs:=[]}:Elem),({char:=98,ref:=0,attrs:=[]}:Elem),({char:=99,ref:=0,attrs:=[]}:Elem)] [({char:=10,ref:=0,attrs:=[]}:Elem),({char:=100,ref:=0,attrs:=[]}:Elem),({char:=10,ref:=0,attrs:=[]}:Elem)]))),(8,X (Xa (Xc ((0:Int)<=1)) (Xc ((1:Int)< ((2:Nat):Int)))) ⟨by decide,by decide⟩)],.le (.cb 16 0 true 9 [((([({char:=0,ref:=2,attrs:=[]}:Elem)]++[({char:=0,ref:=3,attrs:=[]}:Elem)]).length):Nat)=(List.map elemT ([({char:=0,ref:=2,attrs:=[]}:Elem)]++[({char:=0,ref:=3,attrs:=[]}:Elem)])).length,((([({char:=97,ref:=0,attrs:=[]}:Elem),({char:=98,ref:=0,attrs:=[]}:Elem),({char:=99,ref:=0,attrs:=[]}:Elem)]++[({char:=10,ref:=0,attrs:=[]}:Elem),({char:=100,ref:=0,attrs:=[]}:Elem),({char:=10,ref:=0,attrs:=[]}:Elem)]).length):Nat)=(List.map elemT ([({char:=97,ref:=0,attrs:=[]}:Elem),({char:=98,ref:=0,attrs:=[]}:Elem),({char:=99,ref:=0,attrs:=[]}:Elem)]++[({char:=10,ref:=0,attrs:=[]}:Elem),({char:=100,ref:=0,attrs:=[]}:Elem),({char:=10,ref:=0,attrs:=[]}:Elem)])).length] ⟨lm,lm,trivial⟩),.r [(2,X (Xf [(2,2),(3,3),(6,5),(7,4),(8,8)])),(4,X (rowC nodeT [({id:=3,kind:=10,attrs:=[],flow:=[],grid:=({rows:=0,cols:=0,cells:=[],merges:=[]}:Grid),draw:=[]}:Node)] (XapB 9 nodeT 224 [({id:=1,kind:=0,attrs:=[],flow:=([({char:=0,ref:=2,attrs:=[]}:Elem)]++[({char:=0,ref:=3,attrs:=[]}:Elem)]),grid:=({rows:=0,cols:=0,cells:=[],merges:=[]}:Grid),draw:=[]}:Node),({id:=2,kind:=1,attrs:=[],flow:=([({char:=97,ref:=0,attrs:=[]}:Elem),({char:=98,ref:=0,attrs:=[]}:Elem),({char:=99,ref:=0,attrs:=[]}:Elem)]++[({char:=10,ref:=0,attrs:=[]}:Elem),({char:=100,ref:=0,attrs:=[]}:Elem),({char:=10,ref:=0,attrs:=[]}:Elem)]),grid:=({rows:=0,cols:=0,cells:=[],merges:=[]}:Grid),draw:=[]}:Node)] [({id:=3,kind:=10,attrs:=[],flow:=[],grid:=({rows:=0,cols:=0,cells:=[],merges:=[]}:Grid),draw:=[]}:Node)])))],.r [(2,X (Xc1 297 (y55 ({nodes:=([({id:=1,kind:=0,attrs:=[],flow:=([({char:=0,ref:=2,attrs:=[]}:Elem)]++[({char:=0,ref:=3,attrs:=[]}:Elem)]),grid:=({rows:=0,cols:=0,cells:=[],merges:=[]}:Grid),draw:=[]}:Node),({id:=2,kind:=1,attrs:=[],flow:=([({char:=97,ref:=0,attrs:=[]}:Elem),({char:=98,ref:=0,attrs:=[]}:Elem),({char:=99,ref:=0,attrs:=[]}:Elem)]++[({char:=10,ref:=0,attrs:=[]}:Elem),({char:=100,ref:=0,attrs:=[]}:Elem),({char:=10,ref:=0,attrs:=[]}:Elem)]),grid:=({rows:=0,cols:=0,cells:=[],merges:=[]}:Grid),draw:=[]}:Node)]++[({id:=3,kind:=10,attrs:=[],flow:=[],grid:=({rows:=0,cols:=0,cells:=[],merges:=[]}:Grid),draw:=[]}:Node)])}:Doc) 0) (rowC nodeT ([({id:=1,kind:=0,attrs:=[],flow:=([({char:=0,ref:=2,attrs:=[]}:Elem)]++[({char:=0,ref:=3,attrs:=[]}:Elem)]),grid:=({rows:=0,cols:=0,cells:=[],merges:=[]}:Grid),draw:=[]}:Node),({id:=2,kind:=1,attrs:=[],flow:=([({char:=97,ref:=0,attrs:=[]}:Elem),({char:=98,ref:=0,attrs:=[]}:Elem),({char:=99,ref:=0,attrs:=[]}:Elem)]++[({char:=10,ref:=0,attrs:=[]}:Elem),({char:=100,ref:=0,attrs:=[]}:Elem),({char:=10,ref:=0,attrs:=[]}:Elem)]),grid:=({rows:=0,cols:=0,cells:=[],merges:=[]}:Grid),draw:=[]}:Node)]++[({id:=3,kind:=10,attrs:=[],flow:=[],grid:=({rows:=0,cols:=0,cells:=[],merges:=[]}:Grid),draw:=[]}:Node)]) X0)))]] [] [] (fun z0:Doc=>(.t (docT z0),[])) _ _ e1
theorem y7E(s t:ByteArray)(hs:s.size<=1000000000)(ht:t.size<=1000000000):FC Tryz.prog 3 [VS s,VS t] (app emp []) (VB true) (app emp []):=by
 refine .go Tryz.f3 ?_
 have hD:DocL baseD:=y5I
 refine .bp [.r [],.r [(0,X (Xc0 y4N X0)),(3,Xg (!false) (Xc0 y7t X0)),(4,Xv 1 (!false) X0),(5,X (Xk' false))]] (false||false) (fun h1=> ?_) (fun h1=> ?_)
 ·
  exfalso
  simp at h1
 ·
  refine .bp [.r [(1,X (Xc1 64 (z90 s (by omega)) X0))],.r [(1,X (Xc1 120 (z90 t (by omega)) X0))],.r [(4,Xv 1 (!(((ofR s).2) !=0)) X0),(5,X (Xk' (((ofR s).2) !=0))),(8,Xv 1 (!((((ofR s).2) !=0)|| (((ofR t).2) !=0))) X0),(9,Xv 1 (!((((ofR s).2) !=0)|| (((ofR t).2) !=0))) X0),(10,X (Xk' ((((ofR s).2) !=0)|| (((ofR t).2) !=0)))),(13,Xv 1 (!(((((ofR s).2) !=0)|| (((ofR t).2) !=0))||decide ((s.size:Int)> 60))) X0),(14,Xv 1 (!(((((ofR s).2) !=0)|| (((ofR t).2) !=0))||decide ((s.size:Int)> 60))) X0),(15,X (Xk' (((((ofR s).2) !=0)|| (((ofR t).2) !=0))||decide ((s.size:Int)> 60))))]] ((((((ofR s).2) !=0)|| (((ofR t).2) !=0))||decide ((s.size:Int)> 60))||decide ((t.size:Int)> 60)) (fun h5=> ?_) (fun h5=> ?_)
  ·
   exact .fin [.r []] []
  ·
   have hz:((ofR s).2=0/\s.size<=60)/\((ofR t).2=0/\t.size<=60):=by omega
   obtain⟨⟨hz1,hz2⟩,hz3,hz4⟩:=hz
   have l1:=ofL_l (l:=[]) hz1
   have l2:=ofL_l (l:=[]) hz3
   have k1:=(z8m _ s rfl).2.1
   have k2:=(z8m _ t rfl).2.1
   have lst:(([]++(ofL s []))++(ofL t [])).length=(ofL s []).length+(ofL t []).length:=by rw[qc,zo]
   refine .loop (α:=Nat) [.r [(2,X (Xap 3 elemT 296 [] (ofL s []))),(4,X (Xap 3 elemT 296 ([]++(ofL s [])) (ofL t [])))]] 352 (fun i=>([(0,VS s),(1,VS t),(60,.row 296 ((([]++(ofL s []))++(ofL t [])).length)),(61,VI ((([]++(ofL s []))++(ofL t [])).length:Int)),(62,VI (i:Int))],[(296,OR 3 elemT (([]++(ofL s []))++(ofL t [])))])) (fun i=>i<=(([]++(ofL s []))++(ofL t [])).length/\∀j,j<i->OkC46 ((([]++(ofL s []))++(ofL t [])).getD j default)) (fun i=>(([]++(ofL s []))++(ofL t [])).length-i) (0:Nat) ?_ ?_
   ·
    exact⟨by omega,fun j hj=>by omega⟩
   rintro i I8 ih8
   try dsimp only at I8
   refine .bp [.r []] (decide ((i:Int)< ((([]++(ofL s []))++(ofL t [])).length:Int))) (fun h8=> ?_) (fun h8=> ?_)
   ·
    refine .bp [.r [(0,X (Xp elemT (([]++(ofL s []))++(ofL t [])) (i:Int))),(1,X (Xe elemT (([]++(ofL s []))++(ofL t [])) i))],.r [(2,X (Xc0 (fc_in ((((([]++(ofL s []))++(ofL t [])).getD i default)).char) 97 100) X0)),(5,Xv 1 (!(decide (97<=((((([]++(ofL s []))++(ofL t [])).getD i default)).char)/\((((([]++(ofL s []))++(ofL t [])).getD i default)).char)<=100))) X0),(6,Xv 1 (!(decide (97<=((((([]++(ofL s []))++(ofL t [])).getD i default)).char)/\((((([]++(ofL s []))++(ofL t [])).getD i default)).char)<=100))) X0),(7,X (Xk' (decide (97<=((((([]++(ofL s []))++(ofL t [])).getD i default)).char)/\((((([]++(ofL s []))++(ofL t [])).getD i default)).char)<=100))))]] ((decide (97<=((((([]++(ofL s []))++(ofL t [])).getD i default)).char)/\((((([]++(ofL s []))++(ofL t [])).getD i default)).char)<=100))|| (((((([]++(ofL s []))++(ofL t [])).getD i default)).char)==10)) (fun h10=> ?_) (fun h10=> ?_)
    ·
     exact .fin [.r []] []
    ·
     refine .back [.r [(0,X (Xn ((i:Int)+1)))]] [(296,296)] (ih8 ((i+1):Nat) ?_ ?_)
     ·
      refine⟨by omega,fun j hj=> ?_⟩
      by_cases e:j=i
      ·subst e;refine⟨fun q=> ?_,fun q=> ?_⟩<;>omega
      ·exact I8.2 j (by omega)
     ·
      ((try dsimp only);omega)
   ·
    obtain⟨cs,ct⟩:=y9m hz1 hz3 (fun j hj=>I8.2 j (by rw[qc] at hj;omega))
    obtain⟨o1,S1,d1,o2,S2,d2,R,n,hx⟩:=ok46 hz1 hz3 hz2 hz4 cs ct
    have hof1:=ofAny s hz1 (by omega)
    have hof2:=ofAny t hz3 (by omega)
    have hfl:=hx.fl
    have hok:=hx.ok
    refine .bp [.r [(0,X (Xc1 360 y56 X0))],.r [(3,X (Xc1 408 (y2C baseD ({nd:=2,fr:=1,tq:=1}:Sel) s (ofR s).1 ({data:=#[]}) hof1 hD (by omega) (fun _=>hx.tb1) hx.ho1 hx.hS1 hx.e1) X0))],.r [(2,X (Xc1 496 (z91 baseD o1 hx.ap1 hx.hd1 hx.z1) X0))],.r [(3,X (Xc1 576 (y2C baseD ({nd:=2,fr:=5,tq:=5}:Sel) t (ofR t).1 ({data:=#[]}) hof2 hD (by omega) (fun _=>hx.tb2) hx.ho2 hx.hS2 hx.e2) X0))],.r [(2,X (Xc1 664 (z91 baseD o2 hx.ap2 hx.hd2 hx.z2) X0))],.r [(3,X (Xc1 744 (y7D baseD d1 d2 R hx.mg) X0))],.r [(4,Xv 1 (!false) X0),(5,X (Xk' false)),(8,Xv 1 (!(false||false)) X0),(9,X (Xk' (false||false))),(12,Xv 1 (!((false||false)||false)) X0),(13,X (Xk' ((false||false)||false))),(16,Xv 1 (!(((false||false)||false)||false)) X0),(17,X (Xk' (((false||false)||false)||false)))]] ((((false||false)||false)||false)||false) (fun h19=> ?_) (fun h19=> ?_)
    ·
     exfalso
     simp at h19
    ·
     have e1:((((([]:List Conf).length:Int)==0)&&seq (txS n.flow) ((((({data:=#[97]}:ByteArray)++s)++({data:=#[98,99,10,100]}:ByteArray))++t)++({data:=#[10]}:ByteArray))):Bool)=true:=by
      rw[hx.str];simp[z0q]
     exact .finE [.r [(1,X (Xc1 968 (y7u (({nodes:=R}:Doc)) hx.dR hx.hn hx.hn2) X0))],.r [(1,X (Xl confT ([]:List Conf))),(5,Xv 1 ((([]:List Conf).length:Int)==0) X0),(6,Xv 1 ((([]:List Conf).length:Int)==0) (Xc0 (y9E n.flow hok (by omega)) X0)),(8,Xv 1 ((([]:List Conf).length:Int)==0) (Xc ((((({data:=#[97]}:ByteArray)).size+(s).size:Nat):Int)<=IntKind.i64.max)) (fun hg=>by(try simp only[beq_iff_eq,beq_eq_false_iff_ne,ne_eq] at hg);exact(by have b1:({data:=#[97]}:ByteArray).size=1:=rfl;have b2:({data:=#[98,99,10,100]}:ByteArray).size=4:=rfl;have b3:({data:=#[10]}:ByteArray).size=1:=rfl;(try simp only[ByteArray.size_append]);show _<=(9223372036854775807:Int);omega))),(9,Xv 1 ((([]:List Conf).length:Int)==0) (Xc (((((({data:=#[97]}:ByteArray)++s)).size+(({data:=#[98,99,10,100]}:ByteArray)).size:Nat):Int)<=IntKind.i64.max)) (fun hg=>by(try simp only[beq_iff_eq,beq_eq_false_iff_ne,ne_eq] at hg);exact(by have b1:({data:=#[97]}:ByteArray).size=1:=rfl;have b2:({data:=#[98,99,10,100]}:ByteArray).size=4:=rfl;have b3:({data:=#[10]}:ByteArray).size=1:=rfl;(try simp only[ByteArray.size_append]);show _<=(9223372036854775807:Int);omega))),(11,Xv 2 ((([]:List Conf).length:Int)==0) (Xc ((((((({data:=#[97]}:ByteArray)++s)++({data:=#[98,99,10,100]}:ByteArray))).size+(t).size:Nat):Int)<=IntKind.i64.max)) (fun hg=>by(try simp only[beq_iff_eq,beq_eq_false_iff_ne,ne_eq] at hg);exact(by have b1:({data:=#[97]}:ByteArray).size=1:=rfl;have b2:({data:=#[98,99,10,100]}:ByteArray).size=4:=rfl;have b3:({data:=#[10]}:ByteArray).size=1:=rfl;(try simp only[ByteArray.size_append]);show _<=(9223372036854775807:Int);omega))),(12,Xv 1 ((([]:List Conf).length:Int)==0) (Xc (((((((({data:=#[97]}:ByteArray)++s)++({data:=#[98,99,10,100]}:ByteArray))++t)).size+(({data:=#[10]}:ByteArray)).size:Nat):Int)<=IntKind.i64.max)) (fun hg=>by(try simp only[beq_iff_eq,beq_eq_false_iff_ne,ne_eq] at hg);exact(by have b1:({data:=#[97]}:ByteArray).size=1:=rfl;have b2:({data:=#[98,99,10,100]}:ByteArray).size=4:=rfl;have b3:({data:=#[10]}:ByteArray).size=1:=rfl;(try simp only[ByteArray.size_append]);show _<=(9223372036854775807:Int);omega))),(13,Xv 2 ((([]:List Conf).length:Int)==0) X0),(14,X (Xk ((([]:List Conf).length:Int)==0)))]] [] (fun z0:Bool=>(VB z0,[])) _ _ e1.symm
theorem y7F(s t:ByteArray)(hs:s.size<=1000000000)(ht:t.size<=1000000000):FC Tryz.prog 3 [VS s,VS t] (app emp []) (VB true) (app emp []):=y7E s t hs ht
end Go.Ch
end
section
namespace Go.Proofs.YtnlggoddkiiblaaGreatDoor.frame
open Go Go.Proofs
def chs(l:List Nat):List Char:=l.map Char.ofNat
def w1:List Char:=chs [104,97,114,110,101,115,115]
def w2:List Char:=chs [53,54,102,48,99,51,50,99,49,53,52,48,54,48,98,97,48,48,51,54,100,101,52,102,101,102,57,101,52,50,101,50,99,102,98,56,52,54,101,97,100,51,49,50,56,51,57,100,98,48,98,50,54,98,52,54,102,52,57,54,52,101,100,52]
def w3:List Char:=chs [99,117,116]
def sp:Char:=Char.ofNat 32
theorem ws_sp(r:List Char):wordsSigns (sp::r)=[]::wordsSigns r:=rfl
theorem ws_c(c:Char)(r:List Char)(h:c≠sp):wordsSigns (c::r)=match wordsSigns r with
 |w::ws=>(c::w)::ws
 | []=>[[c]]:=by
 rw[wordsSigns.eq_def]
 split
 ·rename_i e;cases e
 ·rename_i e;simp only[List.cons.injEq] at e;exact absurd e.1 h
 ·rename_i e;simp only[List.cons.injEq] at e;obtain⟨rfl,rfl⟩:=e;rfl
theorem y2E:∀(a:List Char),(a.all fun c=>c !=sp)=true->∀r,wordsSigns (a++sp::r)=a::wordsSigns r
 | [],_,r=>ws_sp r
 |c::a,h,r=>by
  simp only[List.all_cons,Bool.and_eq_true,bne_iff_ne] at h
  rw[List.cons_append,ws_c _ _ h.1,y2E a h.2 r]
theorem tl(l:List Char):(String.ofList l).toList=l:=String.toList_ofList
theorem k1:("harness" :String).toList=w1:=tl w1
theorem k2:("cut" :String).toList=w3:=tl w3
theorem k3:("gc" :String).toList=chs [103,99]:=tl (chs [103,99])
theorem k4:("spec" :String).toList=chs [115,112,101,99]:=tl (chs [115,112,101,99])
theorem k5:("carried" :String).toList=chs [99,97,114,114,105,101,100]:=tl (chs [99,97,114,114,105,101,100])
theorem lifts(r:List (List Char)):stripLifts liftWords (w3::r)=([],w3::r):=by
 unfold liftWords
 simp only[stripLifts]
 have key:∀l:List Nat,(w3==chs l)=false->∀(s:String),s=String.ofList (chs l)->(w3==s.toList)=false:=fun l h s e=>by rw[e,tl];exact h
 rw[if_neg (by rw[key [102,105,110,97,108,115] (by kernel_rfl) "finals" rfl];decide)]
 rw[if_neg (by rw[key [114,101,102,108,101,99,116,114,111,119,115] (by kernel_rfl) "reflectrows" rfl];decide)]
 rw[if_neg (by rw[key [108,101,97,110,114,111,119,115] (by kernel_rfl) "leanrows" rfl];decide)]
 rw[if_neg (by rw[key [111,110,101,98,117,105,108,100] (by kernel_rfl) "onebuild" rfl];decide)]
 rw[if_neg (by rw[key [112,117,98,108,105,99,115,117,109,115] (by kernel_rfl) "publicsums" rfl];decide)]
 rw[if_neg (by rw[key [101,113,103,117,97,114,100] (by kernel_rfl) "eqguard" rfl];decide)]
 rw[if_neg (by rw[key [111,119,110,117,110,115,97,102,101] (by kernel_rfl) "ownunsafe" rfl];decide)]
 rw[if_neg (by rw[key [108,105,98,98,101,115,105,100,101] (by kernel_rfl) "libbeside" rfl];decide)]
 rw[if_neg (by rw[key [111,119,110,98,101,115,105,100,101] (by kernel_rfl) "ownbeside" rfl];decide)]
 rw[if_neg (by rw[key [114,101,102,108,98,101,115,105,100,101] (by kernel_rfl) "reflbeside" rfl];decide)]
 rw[if_neg (by rw[key [97,108,105,97,115,101,115] (by kernel_rfl) "aliases" rfl];decide)]
 rw[if_neg (by rw[key [97,102,116,101,114,105,110,105,116] (by kernel_rfl) "afterinit" rfl];decide)]
 rw[if_neg (by rw[key [99,114,99,112,108,97,105,110] (by kernel_rfl) "crcplain" rfl];decide)]
 rw[if_neg (by rw[key [114,111,97,100,117,110,115,97,102,101] (by kernel_rfl) "roadunsafe" rfl];decide)]
 rw[if_neg (by rw[key [102,109,116,104,97,110,100,111,110] (by kernel_rfl) "fmthandon" rfl];decide)]
theorem words{P:Program}{rest:List Char}(h:P.initOrder.toList=w1++sp::(w2++sp::(w3++sp::rest))):behindMainWord (wordsSigns P.initOrder.toList)=w3::wordsSigns rest:=by
 rw[h,y2E w1 (by kernel_rfl),y2E w2 (by kernel_rfl),y2E w3 (by kernel_rfl)]
 unfold behindMainWord
 rw[k1]
 exact if_pos (by kernel_rfl)
theorem may{P:Program}{rest:List Char}(h:P.initOrder.toList=w1++sp::(w2++sp::(w3++sp::rest)))(hl:P.laysLater=false)(hb:P.bearsReflect=false)(hd:P.doorFits []=true):P.mayEnter=true:=by
 unfold Program.mayEnter
 rw[words h]
 simp only[lifts,k2,k3,k4,k5,hl,hb,hd]
 have h1:(w3==chs [103,99])=false:=by kernel_rfl
 have h2:(w3==chs [115,112,101,99])=false:=by kernel_rfl
 have h3:(w3==chs [99,97,114,114,105,101,100])=false:=by kernel_rfl
 rw[h1,h2,h3]
 simp
theorem fin{P:Program}{rest:List Char}(h:P.initOrder.toList=w1++sp::(w2++sp::(w3++sp::rest))):P.liftsFinal=false:=by
 unfold Program.liftsFinal Program.headLifts
 rw[words h]
 simp only[lifts,k2,k5]
 have h3:(w3==chs [99,97,114,114,105,101,100])=false:=by kernel_rfl
 simp[h3]
theorem mk{P:Program}{rest:List Char}(h:P.initOrder.toList=w1++sp::(w2++sp::(w3++sp::rest))):P.make=some .cut:=by
 unfold Program.make
 rw[words h]
 simp only[k2,k3,k4,k5]
 have h1:(w3==chs [103,99])=false:=by kernel_rfl
 have h2:(w3==chs [115,112,101,99])=false:=by kernel_rfl
 rw[h1,h2]
 simp
theorem head:Tryz.pinned.checked.prog.initOrder=String.ofList (w1++sp::(w2++sp::(w3++sp::chs [97,116,32,99,104,97,110,99,101,114,121,47,99,104,97,110,99,101,114,121,107,101,101,112,49,46,77,101,114,103,101,80,97,114,97,103,114,97,112,104,115]))):=by kernel_rfl
set_option maxRecDepth 100000 in
theorem headL:Tryz.pinned.checked.prog.initOrder.toList=w1++sp::(w2++sp::(w3++sp::chs [97,116,32,99,104,97,110,99,101,114,121,47,99,104,97,110,99,101,114,121,107,101,101,112,49,46,77,101,114,103,101,80,97,114,97,103,114,97,112,104,115])):=by rw[head,tl]
theorem later:Tryz.pinned.checked.prog.laysLater=false:=by kernel_rfl
theorem refl:Tryz.pinned.checked.prog.bearsReflect=false:=by kernel_rfl
theorem door:Tryz.pinned.checked.prog.doorFits []=true:=by kernel_rfl
theorem mayEnter:Tryz.pinned.checked.prog.mayEnter=true:=may headL later refl door
theorem made:Tryz.pinned.checked.prog.make=some .cut:=mk headL
theorem laid:laidOutB Tryz.pinned.checked.prog=true:=by kernel_rfl
theorem rowed:mapsRowed Tryz.pinned.checked.prog=true:=by kernel_rfl
theorem noStops:Tryz.pinned.checked.prog.stops=[]:=by kernel_rfl
theorem noKnobs:Tryz.pinned.checked.prog.stopKnobs=[]:=by kernel_rfl
theorem heard:Tryz.pinned.checked.prog.stopsHeard=true:=by kernel_rfl
theorem keys:Tryz.pinned.checked.prog.plainKeys=true:=by kernel_rfl
theorem liftsNo:Tryz.pinned.checked.prog.liftsFinal=false:=fin headL
end Go.Proofs.YtnlggoddkiiblaaGreatDoor.frame
end
