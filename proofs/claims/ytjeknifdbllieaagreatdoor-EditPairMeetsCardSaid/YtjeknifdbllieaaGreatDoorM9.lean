/- Parts of the proof: EdSel2, EdSel3, EdType, EdObj, EdGrd, EdFmt, EdFmt2, EdCmd, EdOf, EdCmd2, NodeIns, SortKit, NodeInsF, EdOne, EdOne2, EdOne3, EdOne4, EdApp, EdFirst, EdProbe, EdGrown, EdStart, EdChanges, EditGd, EditLaw43, EdLaw43, Frame, TryzShelf2. -/
import Derived.Test.YtjeknifdbllieaaGreatDoorM8
import Derived.Laws.Cover1
import Derived.WalkMore
import Derived.Handy
import Derived.StillTailTactics
import Derived.Shelf.RegionOpenPlain
import Derived.Shelf.Spec.SlicesInsertGrow
import Derived.Shelf.SlSortCmp.WholeK
import Derived.JoinedOf
import Derived.Ground.Names2Prog
set_option linter.unusedVariables false
set_option linter.unusedSimpArgs false
section
set_option maxRecDepth 100000
set_option maxHeartbeats 4000000
open Go Go.Proofs Go.Ab
namespace Go.Ch
theorem x4b(p:Pl)(k:Int)(hb:PlB p)(hk:0<=k/\k<=1000000000):FC Tryz.prog 65 [.ptr 0 0,VI k] (app emp [(0,.box [VI p.node.id,VI p.node.kind,VL 2 z0a p.node.attrs,VL 3 z0c p.node.flow,VI p.node.grid.rows,VI p.node.grid.cols,VL 5 z0k p.node.grid.cells,VL 4 z0t p.node.grid.merges,VL 8 z0R p.node.draw,VL 1 z0B p.shown,VS p.author])]) (VL 2 z0a (z6f p k)) (app emp [(0,.box [VI p.node.id,VI p.node.kind,VL 2 z0a p.node.attrs,VL 3 z0c p.node.flow,VI p.node.grid.rows,VI p.node.grid.cols,VL 5 z0k p.node.grid.cells,VL 4 z0t p.node.grid.merges,VL 8 z0R p.node.draw,VL 1 z0B p.shown,VS p.author])]):=by
 refine .go Tryz.f65 ?_
 have b1:=z9m hb k
 have b2:=z9m hb (k- 1)
 refine .bp [.r [],.r [(2,X (Xn (k- 1))),(3,X (Xc4 [(0,0)] (z4F p (k- 1) (by assumption)) X0)),(6,X (Xc4 [(0,0)] (z4F p k (by assumption)) X0))],.r [],.r []] ((((z0h p (k- 1))).char)==10) (fun h3=> ?_) (fun h3=> ?_)
 ·
  refine .bp [.r [],.r [],.r []] ((((z0h p k)).char) !=10) (fun h6=> ?_) (fun h6=> ?_)
  ·
   refine .loop (α:=Nat×(List Attr)) [.r [(2,X (Xl z0a (((z0h p k)).attrs)))],.le (.nR 8 2)] 226 (fun(i,o)=>([(1,VI k),(5,.ptr 65 0),(6,.ptr 73 0),(8,.row 225 o.length),(29,VL 2 z0a (((z0h p k)).attrs)),(30,VI ((((z0h p k)).attrs).length:Int)),(31,VI (i:Int))],[(0,.box [VI p.node.id,VI p.node.kind,VL 2 z0a p.node.attrs,VL 3 z0c p.node.flow,VI p.node.grid.rows,VI p.node.grid.cols,VL 5 z0k p.node.grid.cells,VL 4 z0t p.node.grid.merges,VL 8 z0R p.node.draw,VL 1 z0B p.shown,VS p.author]),(65,.box [VI (((z0h p (k- 1))).char),VI (((z0h p (k- 1))).ref),VL 2 z0a (((z0h p (k- 1))).attrs)]),(73,.box [VI (((z0h p k)).char),VI (((z0h p k)).ref),VL 2 z0a (((z0h p k)).attrs)]),(225,OR 2 z0a o)])) (fun(i,o)=>i<=((((z0h p k)).attrs)).length/\o=(((((z0h p k)).attrs)).take i).filter (fun a=>x2G a.name)) (fun(i,o)=>((((z0h p k)).attrs)).length-i) (0,[]) ?_ ?_
   ·
    exact⟨by omega,rfl⟩
   rintro⟨i,o⟩ I8 ih8
   try dsimp only at I8
   have ol:o.length<=i:=by rw[I8.2];exact qP (zT ..) (by rw[qB];omega)
   refine .bp [.r []] (decide ((i:Int)< ((((z0h p k)).attrs).length:Int))) (fun h8=> ?_) (fun h8=> ?_)
   ·
    refine .bp [.r [(0,X (Xi z0a (((z0h p k)).attrs) (i:Int)))],.r [(2,X (Xc0 (y0E ((((((z0h p k)).attrs).getD i default)).name)) X0))]] (x2G ((((((z0h p k)).attrs).getD i default)).name)) (fun h10=> ?_) (fun h10=> ?_)
    ·
     refine .back [.r [(3,X (z0Y z0a [(((((z0h p k)).attrs).getD i default))] (Xap 2 z0a 225 o [(((((z0h p k)).attrs).getD i default))])))],.r [(0,X (Xn ((i:Int)+1)))]] [(0,0),(65,65),(73,73),(225,225)] (ih8 ((i+1),(o++[(((((z0h p k)).attrs).getD i default))])) ?_ ?_)
     ·
      refine⟨by omega,?_⟩
      rw[I8.2,qz (by omega),zG]
      first|rw[z5A (by omega) h10]|rw[z5B (by omega) h10,qQ]
     ·
      ((try dsimp only);omega)
    ·
     refine .back [.r [(0,X (Xn ((i:Int)+1)))]] [(0,0),(65,65),(73,73),(225,225)] (ih8 ((i+1),o) ?_ ?_)
     ·
      refine⟨by omega,?_⟩
      rw[I8.2,qz (by omega),zG]
      first|rw[z5A (by omega) h10]|rw[z5B (by omega) h10,qQ]
     ·
      ((try dsimp only);omega)
   ·
    have hB:=z8s p k
    simp only[h3,h6,if_true,if_false,ne_eq,not_true_eq_false,not_false_eq_true,ite_true,ite_false,reduceIte] at hB
    refine .loop (α:=(List Attr)×Nat) [.r [(2,X (Xl z0a (((z0h p (k- 1))).attrs)))],.le (.fr 8 [(o.length:Nat)=(List.map z0a o).length] ⟨lm,trivial⟩)] 266 (fun(q,j)=>([(1,VI k),(6,.ptr 73 0),(8,VL 2 z0a q),(44,VL 2 z0a (((z0h p (k- 1))).attrs)),(45,VI ((((z0h p (k- 1))).attrs).length:Int)),(46,VI (j:Int))],[(0,.box [VI p.node.id,VI p.node.kind,VL 2 z0a p.node.attrs,VL 3 z0c p.node.flow,VI p.node.grid.rows,VI p.node.grid.cols,VL 5 z0k p.node.grid.cells,VL 4 z0t p.node.grid.merges,VL 8 z0R p.node.draw,VL 1 z0B p.shown,VS p.author]),(73,.box [VI (((z0h p k)).char),VI (((z0h p k)).ref),VL 2 z0a (((z0h p k)).attrs)])])) (fun(q,j)=>j<=(z0h p (k- 1)).attrs.length/\q=y97 (z0h p k) k (x3L p k) ((z0h p (k- 1)).attrs.take j)/\q.length<=1048576+j) (fun(q,j)=>(z0h p (k- 1)).attrs.length-j) (o,0) ?_ ?_
    ·
     first|exact absurd h6 h3|exact⟨by omega,by rw[hB];first| (rw[I8.2,qp (by omega)];rfl)|rfl,by first|omega|simp⟩
    rintro⟨q,j⟩ I14 ih14
    try dsimp only at I14
    refine .bp [.r []] (decide ((j:Int)< ((((z0h p (k- 1))).attrs).length:Int))) (fun h14=> ?_) (fun h14=> ?_)
    ·
     refine .bp [.r [(0,X (Xi z0a (((z0h p (k- 1))).attrs) (j:Int)))],.r [(2,X (Xc0 (z4m ((((((z0h p (k- 1))).attrs).getD j default)).name)) X0)),(5,Xv 1 (z3y ((((((z0h p (k- 1))).attrs).getD j default)).name)) X0),(6,X (Xk (z3y ((((((z0h p (k- 1))).attrs).getD j default)).name)))),(9,Xv 1 ((z3y ((((((z0h p (k- 1))).attrs).getD j default)).name))&&decide (k>0)) X0),(11,Xv 1 ((z3y ((((((z0h p (k- 1))).attrs).getD j default)).name))&&decide (k>0)) X0),(12,Xv 2 ((z3y ((((((z0h p (k- 1))).attrs).getD j default)).name))&&decide (k>0)) (Xc0 (z7P (((z0h p k)).attrs) ((((((z0h p (k- 1))).attrs).getD j default)).name)) X0)),(14,Xv 1 ((z3y ((((((z0h p (k- 1))).attrs).getD j default)).name))&&decide (k>0)) X0),(15,Xv 2 ((z3y ((((((z0h p (k- 1))).attrs).getD j default)).name))&&decide (k>0)) X0),(16,X (Xk ((z3y ((((((z0h p (k- 1))).attrs).getD j default)).name))&&decide (k>0))))]] (((z3y ((((((z0h p (k- 1))).attrs).getD j default)).name))&&decide (k>0))&&seq (z19 (((z0h p k)).attrs) ((((((z0h p (k- 1))).attrs).getD j default)).name) 0) ((((((z0h p (k- 1))).attrs).getD j default)).val)) (fun h16=> ?_) (fun h16=> ?_)
     ·
      refine .back [.r [(3,X (Xc1 466 (z81 q [(((((z0h p (k- 1))).attrs).getD j default))] (by simp only[qi,zg];omega)) (z0Y z0a [(((((z0h p (k- 1))).attrs).getD j default))] X0)))],.r [(0,X (Xn ((j:Int)+1)))]] [(0,0),(73,73)] (ih14 ((fm z2e q [(((((z0h p (k- 1))).attrs).getD j default))]),(j+1)) ?_ ?_)
      ·
       first
       |exact⟨by omega,by rw[z1b (by omega),if_pos (z7W h16),<-I14.2.1],qP (z2j ..) (by simp;omega)⟩
       |exact⟨by omega,by rw[z1b (by omega),if_neg (z7X h16)];exact I14.2.1,by omega⟩
      ·
       ((try dsimp only);omega)
     ·
      refine .back [.r [(0,X (Xn ((j:Int)+1)))]] [(0,0),(73,73)] (ih14 (q,(j+1)) ?_ ?_)
      ·
       first
       |exact⟨by omega,by rw[z1b (by omega),if_pos (z7W h16),<-I14.2.1],qP (z2j ..) (by simp;omega)⟩
       |exact⟨by omega,by rw[z1b (by omega),if_neg (z7X h16)];exact I14.2.1,by omega⟩
      ·
       ((try dsimp only);omega)
    ·
     have e1:((z6f p k):List Attr)=q:=by
      rw[I14.2.1,qp (by omega)];rfl
     exact .finE [.r []] [(0,0)] (fun z0:List Attr=>(VL 2 z0a z0,[(0,.box [VI p.node.id,VI p.node.kind,VL 2 z0a p.node.attrs,VL 3 z0c p.node.flow,VI p.node.grid.rows,VI p.node.grid.cols,VL 5 z0k p.node.grid.cells,VL 4 z0t p.node.grid.merges,VL 8 z0R p.node.draw,VL 1 z0B p.shown,VS p.author])])) _ _ e1
  ·
   have hB:=z8s p k
   simp only[h3,h6,if_true,if_false,ne_eq,not_true_eq_false,not_false_eq_true,ite_true,ite_false,reduceIte] at hB
   refine .loop (α:=(List Attr)×Nat) [.r [(2,X (Xl z0a (((z0h p (k- 1))).attrs)))],.le (.nL 8 2)] 225 (fun(q,j)=>([(1,VI k),(6,.ptr 73 0),(8,VL 2 z0a q),(44,VL 2 z0a (((z0h p (k- 1))).attrs)),(45,VI ((((z0h p (k- 1))).attrs).length:Int)),(46,VI (j:Int))],[(0,.box [VI p.node.id,VI p.node.kind,VL 2 z0a p.node.attrs,VL 3 z0c p.node.flow,VI p.node.grid.rows,VI p.node.grid.cols,VL 5 z0k p.node.grid.cells,VL 4 z0t p.node.grid.merges,VL 8 z0R p.node.draw,VL 1 z0B p.shown,VS p.author]),(73,.box [VI (((z0h p k)).char),VI (((z0h p k)).ref),VL 2 z0a (((z0h p k)).attrs)])])) (fun(q,j)=>j<=(z0h p (k- 1)).attrs.length/\q=y97 (z0h p k) k (x3L p k) ((z0h p (k- 1)).attrs.take j)/\q.length<=1048576+j) (fun(q,j)=>(z0h p (k- 1)).attrs.length-j) ([],0) ?_ ?_
   ·
    first|exact absurd h6 h3|exact⟨by omega,by rw[hB];first| (rw[I8.2,qp (by omega)];rfl)|rfl,by first|omega|simp⟩
   rintro⟨q,j⟩ I14 ih14
   try dsimp only at I14
   refine .bp [.r []] (decide ((j:Int)< ((((z0h p (k- 1))).attrs).length:Int))) (fun h14=> ?_) (fun h14=> ?_)
   ·
    refine .bp [.r [(0,X (Xi z0a (((z0h p (k- 1))).attrs) (j:Int)))],.r [(2,X (Xc0 (z4m ((((((z0h p (k- 1))).attrs).getD j default)).name)) X0)),(5,Xv 1 (z3y ((((((z0h p (k- 1))).attrs).getD j default)).name)) X0),(6,X (Xk (z3y ((((((z0h p (k- 1))).attrs).getD j default)).name)))),(9,Xv 1 ((z3y ((((((z0h p (k- 1))).attrs).getD j default)).name))&&decide (k>0)) X0),(11,Xv 1 ((z3y ((((((z0h p (k- 1))).attrs).getD j default)).name))&&decide (k>0)) X0),(12,Xv 2 ((z3y ((((((z0h p (k- 1))).attrs).getD j default)).name))&&decide (k>0)) (Xc0 (z7P (((z0h p k)).attrs) ((((((z0h p (k- 1))).attrs).getD j default)).name)) X0)),(14,Xv 1 ((z3y ((((((z0h p (k- 1))).attrs).getD j default)).name))&&decide (k>0)) X0),(15,Xv 2 ((z3y ((((((z0h p (k- 1))).attrs).getD j default)).name))&&decide (k>0)) X0),(16,X (Xk ((z3y ((((((z0h p (k- 1))).attrs).getD j default)).name))&&decide (k>0))))]] (((z3y ((((((z0h p (k- 1))).attrs).getD j default)).name))&&decide (k>0))&&seq (z19 (((z0h p k)).attrs) ((((((z0h p (k- 1))).attrs).getD j default)).name) 0) ((((((z0h p (k- 1))).attrs).getD j default)).val)) (fun h16=> ?_) (fun h16=> ?_)
    ·
     refine .back [.r [(3,X (Xc1 425 (z81 q [(((((z0h p (k- 1))).attrs).getD j default))] (by simp only[qi,zg];omega)) (z0Y z0a [(((((z0h p (k- 1))).attrs).getD j default))] X0)))],.r [(0,X (Xn ((j:Int)+1)))]] [(0,0),(73,73)] (ih14 ((fm z2e q [(((((z0h p (k- 1))).attrs).getD j default))]),(j+1)) ?_ ?_)
     ·
      first
      |exact⟨by omega,by rw[z1b (by omega),if_pos (z7W h16),<-I14.2.1],qP (z2j ..) (by simp;omega)⟩
      |exact⟨by omega,by rw[z1b (by omega),if_neg (z7X h16)];exact I14.2.1,by omega⟩
     ·
      ((try dsimp only);omega)
    ·
     refine .back [.r [(0,X (Xn ((j:Int)+1)))]] [(0,0),(73,73)] (ih14 (q,(j+1)) ?_ ?_)
     ·
      first
      |exact⟨by omega,by rw[z1b (by omega),if_pos (z7W h16),<-I14.2.1],qP (z2j ..) (by simp;omega)⟩
      |exact⟨by omega,by rw[z1b (by omega),if_neg (z7X h16)];exact I14.2.1,by omega⟩
     ·
      ((try dsimp only);omega)
   ·
    have e2:((z6f p k):List Attr)=q:=by
     rw[I14.2.1,qp (by omega)];rfl
    exact .finE [.r []] [(0,0)] (fun z0:List Attr=>(VL 2 z0a z0,[(0,.box [VI p.node.id,VI p.node.kind,VL 2 z0a p.node.attrs,VL 3 z0c p.node.flow,VI p.node.grid.rows,VI p.node.grid.cols,VL 5 z0k p.node.grid.cells,VL 4 z0t p.node.grid.merges,VL 8 z0R p.node.draw,VL 1 z0B p.shown,VS p.author])])) _ _ e2
 ·
  refine .bp [.r [],.r []] ((((z0h p (k- 1))).char) !=10) (fun h6=> ?_) (fun h6=> ?_)
  ·
   refine .loop (α:=Nat×(List Attr)) [.r [(2,X (Xl z0a (((z0h p (k- 1))).attrs)))],.le (.nR 8 2)] 210 (fun(i,o)=>([(1,VI k),(5,.ptr 65 0),(6,.ptr 73 0),(8,.row 209 o.length),(29,VL 2 z0a (((z0h p (k- 1))).attrs)),(30,VI ((((z0h p (k- 1))).attrs).length:Int)),(31,VI (i:Int))],[(0,.box [VI p.node.id,VI p.node.kind,VL 2 z0a p.node.attrs,VL 3 z0c p.node.flow,VI p.node.grid.rows,VI p.node.grid.cols,VL 5 z0k p.node.grid.cells,VL 4 z0t p.node.grid.merges,VL 8 z0R p.node.draw,VL 1 z0B p.shown,VS p.author]),(65,.box [VI (((z0h p (k- 1))).char),VI (((z0h p (k- 1))).ref),VL 2 z0a (((z0h p (k- 1))).attrs)]),(73,.box [VI (((z0h p k)).char),VI (((z0h p k)).ref),VL 2 z0a (((z0h p k)).attrs)]),(209,OR 2 z0a o)])) (fun(i,o)=>i<=((((z0h p (k- 1))).attrs)).length/\o=(((((z0h p (k- 1))).attrs)).take i).filter (fun a=>x2G a.name)) (fun(i,o)=>((((z0h p (k- 1))).attrs)).length-i) (0,[]) ?_ ?_
   ·
    exact⟨by omega,rfl⟩
   rintro⟨i,o⟩ I8 ih8
   try dsimp only at I8
   have ol:o.length<=i:=by rw[I8.2];exact qP (zT ..) (by rw[qB];omega)
   refine .bp [.r []] (decide ((i:Int)< ((((z0h p (k- 1))).attrs).length:Int))) (fun h8=> ?_) (fun h8=> ?_)
   ·
    refine .bp [.r [(0,X (Xi z0a (((z0h p (k- 1))).attrs) (i:Int)))],.r [(2,X (Xc0 (y0E ((((((z0h p (k- 1))).attrs).getD i default)).name)) X0))]] (x2G ((((((z0h p (k- 1))).attrs).getD i default)).name)) (fun h10=> ?_) (fun h10=> ?_)
    ·
     refine .back [.r [(3,X (z0Y z0a [(((((z0h p (k- 1))).attrs).getD i default))] (Xap 2 z0a 209 o [(((((z0h p (k- 1))).attrs).getD i default))])))],.r [(0,X (Xn ((i:Int)+1)))]] [(0,0),(65,65),(73,73),(209,209)] (ih8 ((i+1),(o++[(((((z0h p (k- 1))).attrs).getD i default))])) ?_ ?_)
     ·
      refine⟨by omega,?_⟩
      rw[I8.2,qz (by omega),zG]
      first|rw[z5A (by omega) h10]|rw[z5B (by omega) h10,qQ]
     ·
      ((try dsimp only);omega)
    ·
     refine .back [.r [(0,X (Xn ((i:Int)+1)))]] [(0,0),(65,65),(73,73),(209,209)] (ih8 ((i+1),o) ?_ ?_)
     ·
      refine⟨by omega,?_⟩
      rw[I8.2,qz (by omega),zG]
      first|rw[z5A (by omega) h10]|rw[z5B (by omega) h10,qQ]
     ·
      ((try dsimp only);omega)
   ·
    have hB:=z8s p k
    simp only[h3,h6,if_true,if_false,ne_eq,not_true_eq_false,not_false_eq_true,ite_true,ite_false,reduceIte] at hB
    refine .loop (α:=(List Attr)×Nat) [.r [(2,X (Xl z0a (((z0h p (k- 1))).attrs)))],.le (.fr 8 [(o.length:Nat)=(List.map z0a o).length] ⟨lm,trivial⟩)] 250 (fun(q,j)=>([(1,VI k),(6,.ptr 73 0),(8,VL 2 z0a q),(44,VL 2 z0a (((z0h p (k- 1))).attrs)),(45,VI ((((z0h p (k- 1))).attrs).length:Int)),(46,VI (j:Int))],[(0,.box [VI p.node.id,VI p.node.kind,VL 2 z0a p.node.attrs,VL 3 z0c p.node.flow,VI p.node.grid.rows,VI p.node.grid.cols,VL 5 z0k p.node.grid.cells,VL 4 z0t p.node.grid.merges,VL 8 z0R p.node.draw,VL 1 z0B p.shown,VS p.author]),(73,.box [VI (((z0h p k)).char),VI (((z0h p k)).ref),VL 2 z0a (((z0h p k)).attrs)])])) (fun(q,j)=>j<=(z0h p (k- 1)).attrs.length/\q=y97 (z0h p k) k (x3L p k) ((z0h p (k- 1)).attrs.take j)/\q.length<=1048576+j) (fun(q,j)=>(z0h p (k- 1)).attrs.length-j) (o,0) ?_ ?_
    ·
     first|exact absurd h6 h3|exact⟨by omega,by rw[hB];first| (rw[I8.2,qp (by omega)];rfl)|rfl,by first|omega|simp⟩
    rintro⟨q,j⟩ I14 ih14
    try dsimp only at I14
    refine .bp [.r []] (decide ((j:Int)< ((((z0h p (k- 1))).attrs).length:Int))) (fun h14=> ?_) (fun h14=> ?_)
    ·
     refine .bp [.r [(0,X (Xi z0a (((z0h p (k- 1))).attrs) (j:Int)))],.r [(2,X (Xc0 (z4m ((((((z0h p (k- 1))).attrs).getD j default)).name)) X0)),(5,Xv 1 (z3y ((((((z0h p (k- 1))).attrs).getD j default)).name)) X0),(6,X (Xk (z3y ((((((z0h p (k- 1))).attrs).getD j default)).name)))),(9,Xv 1 ((z3y ((((((z0h p (k- 1))).attrs).getD j default)).name))&&decide (k>0)) X0),(11,Xv 1 ((z3y ((((((z0h p (k- 1))).attrs).getD j default)).name))&&decide (k>0)) X0),(12,Xv 2 ((z3y ((((((z0h p (k- 1))).attrs).getD j default)).name))&&decide (k>0)) (Xc0 (z7P (((z0h p k)).attrs) ((((((z0h p (k- 1))).attrs).getD j default)).name)) X0)),(14,Xv 1 ((z3y ((((((z0h p (k- 1))).attrs).getD j default)).name))&&decide (k>0)) X0),(15,Xv 2 ((z3y ((((((z0h p (k- 1))).attrs).getD j default)).name))&&decide (k>0)) X0),(16,X (Xk ((z3y ((((((z0h p (k- 1))).attrs).getD j default)).name))&&decide (k>0))))]] (((z3y ((((((z0h p (k- 1))).attrs).getD j default)).name))&&decide (k>0))&&seq (z19 (((z0h p k)).attrs) ((((((z0h p (k- 1))).attrs).getD j default)).name) 0) ((((((z0h p (k- 1))).attrs).getD j default)).val)) (fun h16=> ?_) (fun h16=> ?_)
     ·
      refine .back [.r [(3,X (Xc1 450 (z81 q [(((((z0h p (k- 1))).attrs).getD j default))] (by simp only[qi,zg];omega)) (z0Y z0a [(((((z0h p (k- 1))).attrs).getD j default))] X0)))],.r [(0,X (Xn ((j:Int)+1)))]] [(0,0),(73,73)] (ih14 ((fm z2e q [(((((z0h p (k- 1))).attrs).getD j default))]),(j+1)) ?_ ?_)
      ·
       first
       |exact⟨by omega,by rw[z1b (by omega),if_pos (z7W h16),<-I14.2.1],qP (z2j ..) (by simp;omega)⟩
       |exact⟨by omega,by rw[z1b (by omega),if_neg (z7X h16)];exact I14.2.1,by omega⟩
      ·
       ((try dsimp only);omega)
     ·
      refine .back [.r [(0,X (Xn ((j:Int)+1)))]] [(0,0),(73,73)] (ih14 (q,(j+1)) ?_ ?_)
      ·
       first
       |exact⟨by omega,by rw[z1b (by omega),if_pos (z7W h16),<-I14.2.1],qP (z2j ..) (by simp;omega)⟩
       |exact⟨by omega,by rw[z1b (by omega),if_neg (z7X h16)];exact I14.2.1,by omega⟩
      ·
       ((try dsimp only);omega)
    ·
     have e3:((z6f p k):List Attr)=q:=by
      rw[I14.2.1,qp (by omega)];rfl
     exact .finE [.r []] [(0,0)] (fun z0:List Attr=>(VL 2 z0a z0,[(0,.box [VI p.node.id,VI p.node.kind,VL 2 z0a p.node.attrs,VL 3 z0c p.node.flow,VI p.node.grid.rows,VI p.node.grid.cols,VL 5 z0k p.node.grid.cells,VL 4 z0t p.node.grid.merges,VL 8 z0R p.node.draw,VL 1 z0B p.shown,VS p.author])])) _ _ e3
  ·
   have hB:=z8s p k
   simp only[h3,h6,if_true,if_false,ne_eq,not_true_eq_false,not_false_eq_true,ite_true,ite_false,reduceIte] at hB
   refine .loop (α:=(List Attr)×Nat) [.r [(2,X (Xl z0a (((z0h p (k- 1))).attrs)))],.le (.nL 8 2)] 209 (fun(q,j)=>([(1,VI k),(6,.ptr 73 0),(8,VL 2 z0a q),(44,VL 2 z0a (((z0h p (k- 1))).attrs)),(45,VI ((((z0h p (k- 1))).attrs).length:Int)),(46,VI (j:Int))],[(0,.box [VI p.node.id,VI p.node.kind,VL 2 z0a p.node.attrs,VL 3 z0c p.node.flow,VI p.node.grid.rows,VI p.node.grid.cols,VL 5 z0k p.node.grid.cells,VL 4 z0t p.node.grid.merges,VL 8 z0R p.node.draw,VL 1 z0B p.shown,VS p.author]),(73,.box [VI (((z0h p k)).char),VI (((z0h p k)).ref),VL 2 z0a (((z0h p k)).attrs)])])) (fun(q,j)=>j<=(z0h p (k- 1)).attrs.length/\q=y97 (z0h p k) k (x3L p k) ((z0h p (k- 1)).attrs.take j)/\q.length<=1048576+j) (fun(q,j)=>(z0h p (k- 1)).attrs.length-j) ([],0) ?_ ?_
   ·
    first|exact absurd h6 h3|exact⟨by omega,by rw[hB];first| (rw[I8.2,qp (by omega)];rfl)|rfl,by first|omega|simp⟩
   rintro⟨q,j⟩ I14 ih14
   try dsimp only at I14
   refine .bp [.r []] (decide ((j:Int)< ((((z0h p (k- 1))).attrs).length:Int))) (fun h14=> ?_) (fun h14=> ?_)
   ·
    refine .bp [.r [(0,X (Xi z0a (((z0h p (k- 1))).attrs) (j:Int)))],.r [(2,X (Xc0 (z4m ((((((z0h p (k- 1))).attrs).getD j default)).name)) X0)),(5,Xv 1 (z3y ((((((z0h p (k- 1))).attrs).getD j default)).name)) X0),(6,X (Xk (z3y ((((((z0h p (k- 1))).attrs).getD j default)).name)))),(9,Xv 1 ((z3y ((((((z0h p (k- 1))).attrs).getD j default)).name))&&decide (k>0)) X0),(11,Xv 1 ((z3y ((((((z0h p (k- 1))).attrs).getD j default)).name))&&decide (k>0)) X0),(12,Xv 2 ((z3y ((((((z0h p (k- 1))).attrs).getD j default)).name))&&decide (k>0)) (Xc0 (z7P (((z0h p k)).attrs) ((((((z0h p (k- 1))).attrs).getD j default)).name)) X0)),(14,Xv 1 ((z3y ((((((z0h p (k- 1))).attrs).getD j default)).name))&&decide (k>0)) X0),(15,Xv 2 ((z3y ((((((z0h p (k- 1))).attrs).getD j default)).name))&&decide (k>0)) X0),(16,X (Xk ((z3y ((((((z0h p (k- 1))).attrs).getD j default)).name))&&decide (k>0))))]] (((z3y ((((((z0h p (k- 1))).attrs).getD j default)).name))&&decide (k>0))&&seq (z19 (((z0h p k)).attrs) ((((((z0h p (k- 1))).attrs).getD j default)).name) 0) ((((((z0h p (k- 1))).attrs).getD j default)).val)) (fun h16=> ?_) (fun h16=> ?_)
    ·
     refine .back [.r [(3,X (Xc1 409 (z81 q [(((((z0h p (k- 1))).attrs).getD j default))] (by simp only[qi,zg];omega)) (z0Y z0a [(((((z0h p (k- 1))).attrs).getD j default))] X0)))],.r [(0,X (Xn ((j:Int)+1)))]] [(0,0),(73,73)] (ih14 ((fm z2e q [(((((z0h p (k- 1))).attrs).getD j default))]),(j+1)) ?_ ?_)
     ·
      first
      |exact⟨by omega,by rw[z1b (by omega),if_pos (z7W h16),<-I14.2.1],qP (z2j ..) (by simp;omega)⟩
      |exact⟨by omega,by rw[z1b (by omega),if_neg (z7X h16)];exact I14.2.1,by omega⟩
     ·
      ((try dsimp only);omega)
    ·
     refine .back [.r [(0,X (Xn ((j:Int)+1)))]] [(0,0),(73,73)] (ih14 (q,(j+1)) ?_ ?_)
     ·
      first
      |exact⟨by omega,by rw[z1b (by omega),if_pos (z7W h16),<-I14.2.1],qP (z2j ..) (by simp;omega)⟩
      |exact⟨by omega,by rw[z1b (by omega),if_neg (z7X h16)];exact I14.2.1,by omega⟩
     ·
      ((try dsimp only);omega)
   ·
    have e4:((z6f p k):List Attr)=q:=by
     rw[I14.2.1,qp (by omega)];rfl
    exact .finE [.r []] [(0,0)] (fun z0:List Attr=>(VL 2 z0a z0,[(0,.box [VI p.node.id,VI p.node.kind,VL 2 z0a p.node.attrs,VL 3 z0c p.node.flow,VI p.node.grid.rows,VI p.node.grid.cols,VL 5 z0k p.node.grid.cells,VL 4 z0t p.node.grid.merges,VL 8 z0R p.node.draw,VL 1 z0B p.shown,VS p.author])])) _ _ e4
theorem x06(p:Pl)(k:Nat)(hb:PlB p)(hk:k<=1000000000):FC Tryz.prog 66 [.ptr 0 0,VI (k:Int)] (app emp [(0,.box [VI p.node.id,VI p.node.kind,VL 2 z0a p.node.attrs,VL 3 z0c p.node.flow,VI p.node.grid.rows,VI p.node.grid.cols,VL 5 z0k p.node.grid.cells,VL 4 z0t p.node.grid.merges,VL 8 z0R p.node.draw,VL 1 z0B p.shown,VS p.author])]) (VL 2 z0a (x1z p k)) (app emp [(0,.box [VI p.node.id,VI p.node.kind,VL 2 z0a p.node.attrs,VL 3 z0c p.node.flow,VI p.node.grid.rows,VI p.node.grid.cols,VL 5 z0k p.node.grid.cells,VL 4 z0t p.node.grid.merges,VL 8 z0R p.node.draw,VL 1 z0B p.shown,VS p.author])]):=by
 refine .go Tryz.f66 ?_
 have hsl:=hb.sl
 refine .loop (α:=Nat) [.r []] 9 (fun m=>([(0,.ptr 0 0),(1,VI (m:Int))],[(0,.box [VI p.node.id,VI p.node.kind,VL 2 z0a p.node.attrs,VL 3 z0c p.node.flow,VI p.node.grid.rows,VI p.node.grid.cols,VL 5 z0k p.node.grid.cells,VL 4 z0t p.node.grid.merges,VL 8 z0R p.node.draw,VL 1 z0B p.shown,VS p.author])])) (fun m=>y3l p k=y3l p m/\m<=k+p.shown.length) (fun m=>p.shown.length-m) (k:Nat) ?_ ?_
 ·
  exact⟨rfl,by omega⟩
 rintro m I1 ih1
 try dsimp only at I1
 refine .bp [.r [(2,X (Xc4 [(0,0)] (z4F p (m:Int) (by assumption)) X0))]] ((((z0h p (m:Int))).char) !=10) (fun h1=> ?_) (fun h1=> ?_)
 ·
  obtain⟨g1,g2⟩:=y99 h1
  refine .back [.r [(1,X (Xn ((m:Int)+1)))]] [(0,0)] (ih1 ((m+1):Nat) ?_ ?_)
  ·
   exact⟨I1.1.trans g2,by omega⟩
  ·
   ((try dsimp only);omega)
 ·
  have g3:=I1.1.trans (x0a h1)
  have bm:=z9m hb (m:Int)
  refine .loop (α:=Nat×(List Attr)) [.r [],.r [(2,X (Xc4 [(0,0)] (z4F p (m:Int) (by assumption)) X0)),(4,X (Xl z0a (((z0h p (m:Int))).attrs)))],.le (.nR 5 2)] 106 (fun(i,o)=>([(5,.row 105 o.length),(18,VL 2 z0a (((z0h p (m:Int))).attrs)),(19,VI ((((z0h p (m:Int))).attrs).length:Int)),(20,VI (i:Int))],[(0,.box [VI p.node.id,VI p.node.kind,VL 2 z0a p.node.attrs,VL 3 z0c p.node.flow,VI p.node.grid.rows,VI p.node.grid.cols,VL 5 z0k p.node.grid.cells,VL 4 z0t p.node.grid.merges,VL 8 z0R p.node.draw,VL 1 z0B p.shown,VS p.author]),(105,OR 2 z0a o)])) (fun(i,o)=>i<=(z0h p m).attrs.length/\o=((z0h p m).attrs.take i).filter x6j) (fun(i,o)=>(z0h p m).attrs.length-i) (0,[]) ?_ ?_
  ·
   exact⟨by omega,rfl⟩
  rintro⟨i,o⟩ I5 ih5
  try dsimp only at I5
  have ol:o.length<=i:=by rw[I5.2];exact qP (zT ..) (by rw[qB];omega)
  refine .bp [.r []] (decide ((i:Int)< ((((z0h p (m:Int))).attrs).length:Int))) (fun h5=> ?_) (fun h5=> ?_)
  ·
   refine .bp [.r [(0,X (Xi z0a (((z0h p (m:Int))).attrs) (i:Int)))],.r [(3,X (Xc0 (x05 [{data:=#[97,100,100]},{data:=#[99,117,116]},{data:=#[104,105,100,100,101,110]},{data:=#[108,111,99,107]},{data:=#[115,101,99,116,105,111,110]},{data:=#[98,114,101,97,107]},{data:=#[115,116,97,114,116]}] ((((((z0h p (m:Int))).attrs).getD i default)).name)) (z0Y z82 [{data:=#[97,100,100]},{data:=#[99,117,116]},{data:=#[104,105,100,100,101,110]},{data:=#[108,111,99,107]},{data:=#[115,101,99,116,105,111,110]},{data:=#[98,114,101,97,107]},{data:=#[115,116,97,114,116]}] X0))),(7,Xv 1 (!(([{data:=#[97,100,100]},{data:=#[99,117,116]},{data:=#[104,105,100,100,101,110]},{data:=#[108,111,99,107]},{data:=#[115,101,99,116,105,111,110]},{data:=#[98,114,101,97,107]},{data:=#[115,116,97,114,116]}]).any (fun y=>seq ((((((z0h p (m:Int))).attrs).getD i default)).name) y))) X0),(8,Xv 1 (!(([{data:=#[97,100,100]},{data:=#[99,117,116]},{data:=#[104,105,100,100,101,110]},{data:=#[108,111,99,107]},{data:=#[115,101,99,116,105,111,110]},{data:=#[98,114,101,97,107]},{data:=#[115,116,97,114,116]}]).any (fun y=>seq ((((((z0h p (m:Int))).attrs).getD i default)).name) y))) (Xc0 (z4m ((((((z0h p (m:Int))).attrs).getD i default)).name)) X0)),(9,Xv 1 (!(([{data:=#[97,100,100]},{data:=#[99,117,116]},{data:=#[104,105,100,100,101,110]},{data:=#[108,111,99,107]},{data:=#[115,101,99,116,105,111,110]},{data:=#[98,114,101,97,107]},{data:=#[115,116,97,114,116]}]).any (fun y=>seq ((((((z0h p (m:Int))).attrs).getD i default)).name) y))) X0),(10,X (Xk (!(([{data:=#[97,100,100]},{data:=#[99,117,116]},{data:=#[104,105,100,100,101,110]},{data:=#[108,111,99,107]},{data:=#[115,101,99,116,105,111,110]},{data:=#[98,114,101,97,107]},{data:=#[115,116,97,114,116]}]).any (fun y=>seq ((((((z0h p (m:Int))).attrs).getD i default)).name) y)))))]] (!(([{data:=#[97,100,100]},{data:=#[99,117,116]},{data:=#[104,105,100,100,101,110]},{data:=#[108,111,99,107]},{data:=#[115,101,99,116,105,111,110]},{data:=#[98,114,101,97,107]},{data:=#[115,116,97,114,116]}]).any (fun y=>seq ((((((z0h p (m:Int))).attrs).getD i default)).name) y))&& !(z3y ((((((z0h p (m:Int))).attrs).getD i default)).name))) (fun h7=> ?_) (fun h7=> ?_)
   ·
    refine .back [.r [(3,X (z0Y z0a [(((((z0h p (m:Int))).attrs).getD i default))] (Xap 2 z0a 105 o [(((((z0h p (m:Int))).attrs).getD i default))])))],.r [(0,X (Xn ((i:Int)+1)))]] [(0,0),(105,105)] (ih5 ((i+1),(o++[(((((z0h p (m:Int))).attrs).getD i default))])) ?_ ?_)
    ·
     refine⟨by omega,?_⟩
     rw[I5.2,qz (by omega),zG]
     first|rw[z5A (by omega) (x3M h7)]|rw[z5B (by omega) (x3N h7),qQ]
    ·
     ((try dsimp only);omega)
   ·
    refine .back [.r [(0,X (Xn ((i:Int)+1)))]] [(0,0),(105,105)] (ih5 ((i+1),o) ?_ ?_)
    ·
     refine⟨by omega,?_⟩
     rw[I5.2,qz (by omega),zG]
     first|rw[z5A (by omega) (x3M h7)]|rw[z5B (by omega) (x3N h7),qQ]
    ·
     ((try dsimp only);omega)
  ·
   have e1:((x1z p k):List Attr)=o:=by
    rw[I5.2,qp (by omega)];unfold x1z;rw[g3]
   exact .finE [.r [],.le (.fr 4 [(o.length:Nat)=(List.map z0a o).length] ⟨lm,trivial⟩)] [(0,0)] (fun z0:List Attr=>(VL 2 z0a z0,[(0,.box [VI p.node.id,VI p.node.kind,VL 2 z0a p.node.attrs,VL 3 z0c p.node.flow,VI p.node.grid.rows,VI p.node.grid.cols,VL 5 z0k p.node.grid.cells,VL 4 z0t p.node.grid.merges,VL 8 z0R p.node.draw,VL 1 z0B p.shown,VS p.author])])) _ _ e1
theorem x07(p:Pl)(s:Sel)(es:List Elem)(hb:PlB p)(hs:StpB p s es):FC Tryz.prog 67 [.ptr 0 0,.t (z5f s),VL 3 z0c es] (app emp [(0,.box [VI p.node.id,VI p.node.kind,VL 2 z0a p.node.attrs,VL 3 z0c p.node.flow,VI p.node.grid.rows,VI p.node.grid.cols,VL 5 z0k p.node.grid.cells,VL 4 z0t p.node.grid.merges,VL 8 z0R p.node.draw,VL 1 z0B p.shown,VS p.author])]) (.tup [VL 19 z0F [opF s.nd (y1u p s es)],.t (z5f (x1B s es)),VI 0]) (app emp [(0,.box [VI p.node.id,VI p.node.kind,VL 2 z0a p.node.attrs,VL 3 z0c p.node.flow,VI p.node.grid.rows,VI p.node.grid.cols,VL 5 z0k p.node.grid.cells,VL 4 z0t p.node.grid.merges,VL 8 z0R p.node.draw,VL 1 z0B p.shown,VS p.author])]):=by
 refine .go Tryz.f67 ?_
 refine .len 2 (fun hl2=> ?_)
 obtain⟨s1,q1,q2,v1,v2,v3,d1,d2,d3,m1,m2,m3⟩:=hs
 simp only[y8j,x1A] at v1 v2 v3 d1 d2 d3 m1 m2 m3
 have hf:p.node.flow.length<=10000000:=by(have:=hb.len;omega)
 have hsh:=hb.sl
 have hpl:∀x∈(p.shown.take s.tq.toNat).drop s.fr.toNat,0<=x/\x< (p.node.flow.length:Int):=fun x hx=>hb.ok x (qE (qC hx))
 have hpl2:∀x∈p.shown,0<=x/\x<=1000000000:=fun x hx=>by(have:=hb.ok x hx;omega)
 have hgp:=y1v hb s1
 have e1:([opF s.nd (y1u p s es)]:List EOp)=[({kind:=2,node:=s.nd,nw:=({id:=0,kind:=0,attrs:=[],flow:=[],grid:=({rows:=0,cols:=0,cells:=[],merges:=[]}:Grid),draw:=[]}:Node),attrs:=[],steps:=(z5e (z7w p.node.flow ((p.shown.take (Int.toNat s.tq)).drop (Int.toNat s.fr)) p.author) (z00 (y0o (p.node.flow).length (z7V p.shown s.fr) es p.author) (z7w p.node.flow ((p.shown.take (Int.toNat s.tq)).drop (Int.toNat s.fr)) p.author))),grid:=({rows:=[],cols:=[],cells:=[],split:=[],merge:=[]}:GEd),draw:=[]}:EOp)]:=by
  rfl
 have e2:((x1B s es):Sel)=({nd:=s.nd,fr:=(s.fr+(es.length:Int)),tq:=(s.fr+(es.length:Int))}:Sel):=by
  rfl
 exact .finVE [.r [],.r [],.r [(9,X (Xsb z0B 1 p.shown s.fr s.tq)),(14,X (Xc1 193 (y3G p.node.flow ((p.shown.take (Int.toNat s.tq)).drop (Int.toNat s.fr)) p.author (by omega) (by assumption)) X0))],.r [(6,X (Xc0 (x01 p.shown s.fr (by omega) (by assumption)) X0))],.r [(7,X (Xc1 329 (y61 p.node.flow (z7V p.shown s.fr) es p.author (by omega) (by omega) (by omega) (by assumption)) X0))],.r [(2,X (Xc1 361 (y1Z (y0o (p.node.flow).length (z7V p.shown s.fr) es p.author) (z7w p.node.flow ((p.shown.take (Int.toNat s.tq)).drop (Int.toNat s.fr)) p.author) (by assumption) (by assumption) (by assumption) (by assumption) (by omega) (by omega)) X0))],.r [],.f,.r [(2,X (Xc1 457 (y6l (z7w p.node.flow ((p.shown.take (Int.toNat s.tq)).drop (Int.toNat s.fr)) p.author) (z00 (y0o (p.node.flow).length (z7V p.shown s.fr) es p.author) (z7w p.node.flow ((p.shown.take (Int.toNat s.tq)).drop (Int.toNat s.fr)) p.author)) (by assumption) (by assumption) (by assumption) (by assumption) (by omega)) X0))],.r [],.f,.r [(3,X (Xl z0c es)),(4,X (Xn (s.fr+(es.length:Int))))],.r [(3,X (Xf [(4,2),(5,3),(8,5),(9,4),(10,8),(11,2),(13,2),(14,2),(15,5),(16,4),(17,4),(18,8)]))],.le (.fr 6 [(1:Nat)=(List.map z0F [({kind:=2,node:=s.nd,nw:=({id:=0,kind:=0,attrs:=[],flow:=[],grid:=({rows:=0,cols:=0,cells:=[],merges:=[]}:Grid),draw:=[]}:Node),attrs:=[],steps:=(z5e (z7w p.node.flow ((p.shown.take (Int.toNat s.tq)).drop (Int.toNat s.fr)) p.author) (z00 (y0o (p.node.flow).length (z7V p.shown s.fr) es p.author) (z7w p.node.flow ((p.shown.take (Int.toNat s.tq)).drop (Int.toNat s.fr)) p.author))),grid:=({rows:=[],cols:=[],cells:=[],split:=[],merge:=[]}:GEd),draw:=[]}:EOp)]).length] ⟨lm,trivial⟩)] [] [(0,0)] (fun((z0,z1):(List EOp)×Sel)=>(.tup [VL 19 z0F z0,.t (z5f z1),VI 0],[(0,.box [VI p.node.id,VI p.node.kind,VL 2 z0a p.node.attrs,VL 3 z0c p.node.flow,VI p.node.grid.rows,VI p.node.grid.cols,VL 5 z0k p.node.grid.cells,VL 4 z0t p.node.grid.merges,VL 8 z0R p.node.draw,VL 1 z0B p.shown,VS p.author])])) _ _ (pr e1 e2)
theorem x5R(p:Pl)(k:Int)(hb:PlB p)(hk:0<=k/\k<=1000000000):FC Tryz.prog 66 [.ptr 0 0,VI k] (app emp [(0,.box [VI p.node.id,VI p.node.kind,VL 2 z0a p.node.attrs,VL 3 z0c p.node.flow,VI p.node.grid.rows,VI p.node.grid.cols,VL 5 z0k p.node.grid.cells,VL 4 z0t p.node.grid.merges,VL 8 z0R p.node.draw,VL 1 z0B p.shown,VS p.author])]) (VL 2 z0a (x1z p k.toNat)) (app emp [(0,.box [VI p.node.id,VI p.node.kind,VL 2 z0a p.node.attrs,VL 3 z0c p.node.flow,VI p.node.grid.rows,VI p.node.grid.cols,VL 5 z0k p.node.grid.cells,VL 4 z0t p.node.grid.merges,VL 8 z0R p.node.draw,VL 1 z0B p.shown,VS p.author])]):=by
 have h:=x06 p k.toNat hb (by omega)
 rw[zY hk.1] at h
 exact h
def x9A(t:ByteArray)(cs:List Int):Prop:=∀l:List Attr,z1B false l 0=0->l.length<=10000000->FC Tryz.prog 64 [VS t,VL 2 z0a l] (app emp []) (.tup [.row 0 (cs.map (mkE l)).length,VI 0]) (app emp [(0,OR 3 z0c (cs.map (mkE l)))])
theorem x08(d:Doc)(s:Sel)(t:ByteArray)(cs:List Int)(au:ByteArray)(hof:x9A t cs)(hb:DocL d)(ht:t.size<=20000)(hx:atE d s au=0->TypB d s cs au):FC Tryz.prog 28 [.t (z20 d),.t (z5f s),VS t,VS au] (app emp []) (.tup [VL 19 z0F (z3r d s cs au),.t (z5f (z9n d s cs au)),VI (atE d s au)]) (app emp []):=by
 refine .go Tryz.f28 ?_
 refine .bp [.r [],.r [(3,X (Xc1 64 (x3e d s au (by assumption)) X0))],.r []] ((atE d s au) !=0) (fun h2=> ?_) (fun h2=> ?_)
 ·
  have T:=x62 (cs:=cs) h2
  have e1:((z3r d s cs au):List EOp)=[]:=by
   exact T.1
  have e2:((z9n d s cs au):Sel)=({nd:=0,fr:=0,tq:=0}:Sel):=by
   exact T.2
  exact .finVE [.r [],.le (.nL 8 19)] [] [] (fun((z0,z1):(List EOp)×Sel)=>(.tup [VL 19 z0F z0,.t (z5f z1),VI (atE d s au)],[])) _ _ (pr e1 e2)
 ·
  refine .bp [.r []] (decide ((t.size:Int)> 20000)) (fun h4=> ?_) (fun h4=> ?_)
  ·
   exfalso
   omega
  ·
   obtain⟨tp,tc,tl,tr,ts⟩:=hx h2
   have htl:=tp.sl
   have hcl:(List.map (mkE (z6f (atP d s au) s.fr)) cs).length<=1048576:=by(have:=ts.e1;unfold z7x at this;simpa using this)
   refine .loop (α:=Nat×(List Elem)) [.r [(3,X (Xc4 [(0,96)] (x4b ((atP d s au)) s.fr (by assumption) (by omega)) X0)),(4,X (Xc1 192 (hof (z6f ((atP d s au)) s.fr) (by assumption) (by omega)) X0))],.r [],.f,.r []] 280 (fun(i,o)=>([(5,.ptr 8 0),(9,.ptr 24 0),(11,.ptr 96 0),(13,.row 192 o.length),(43,VI ((List.map (mkE (z6f ((atP d s au)) s.fr)) cs).length:Int)),(44,VI (i:Int))],[(8,.box [VI s.nd,VI s.fr,VI s.tq]),(24,.box [VI 0,VI 0,VI 0]),(96,.box [VI ((((atP d s au)).node).id),VI ((((atP d s au)).node).kind),VL 2 z0a ((((atP d s au)).node).attrs),VL 3 z0c ((((atP d s au)).node).flow),VI (((((atP d s au)).node).grid).rows),VI (((((atP d s au)).node).grid).cols),VL 5 z0k (((((atP d s au)).node).grid).cells),VL 4 z0t (((((atP d s au)).node).grid).merges),VL 8 z0R ((((atP d s au)).node).draw),VL 1 z0B (((atP d s au)).shown),VS (((atP d s au)).author)]),(192,OR 3 z0c o)])) (fun(i,o)=>i<=(cs.map (mkE (z6f (atP d s au) s.fr))).length/\o=((cs.map (mkE (z6f (atP d s au) s.fr))).take i).map (x5d (atP d s au) s)++(cs.map (mkE (z6f (atP d s au) s.fr))).drop i) (fun(i,o)=>(cs.map (mkE (z6f (atP d s au) s.fr))).length-i) (0,(List.map (mkE (z6f ((atP d s au)) s.fr)) cs)) ?_ ?_
   ·
    exact⟨by omega,by simp⟩
   rintro⟨i,o⟩ I10 ih10
   try dsimp only at I10
   have ol:o.length=(cs.map (mkE (z6f (atP d s au) s.fr))).length:=by rw[I10.2];simp;omega
   refine .bp [.r []] (decide ((i:Int)< ((List.map (mkE (z6f ((atP d s au)) s.fr)) cs).length:Int))) (fun h10=> ?_) (fun h10=> ?_)
   ·
    have hog:o.getD i default=(cs.map (mkE (z6f (atP d s au) s.fr))).getD i default:=by rw[I10.2];exact y96 (by omega)
    refine .bp [.r [],.r [(2,X (Xp z0c o (i:Int))),(4,X (Xe z0c o i))]] ((((o.getD i default)).char)==10) (fun h12=> ?_) (fun h12=> ?_)
    ·
     refine .back [.r [(4,X (Xc4 [(0,96)] (x5R ((atP d s au)) s.tq (by assumption) (by omega)) X0)),(5,X (Xp z0c o (i:Int))),(7,X (Xs 3 z0c 192 o i ({char:=((o.getD i default)).char,ref:=((o.getD i default)).ref,attrs:=(x1z ((atP d s au)) (s.tq).toNat)}:Elem)))],.r [(0,X (Xn ((i:Int)+1)))],.le (.eq 13 (.row 192 o.length) (.row 192 ((o.set i ({char:=((o.getD i default)).char,ref:=((o.getD i default)).ref,attrs:=(x1z ((atP d s au)) (s.tq).toNat)}:Elem)).length)) (.of_eq (by simp only[zn])))] [(8,8),(24,24),(96,96),(192,192)] (ih10 ((i+1),(o.set i ({char:=((o.getD i default)).char,ref:=((o.getD i default)).ref,attrs:=(x1z ((atP d s au)) (s.tq).toNat)}:Elem))) ?_ ?_)
     ·
      refine⟨by omega,?_⟩
      rw[<-x64 h12,hog,<-y3k (by omega),<-I10.2]
     ·
      ((try dsimp only);omega)
    ·
     refine .back [.r [(0,X (Xn ((i:Int)+1)))]] [(8,8),(24,24),(96,96),(192,192)] (ih10 ((i+1),o) ?_ ?_)
     ·
      refine⟨by omega,?_⟩
      rw[<-x0b (by omega) (x65 (by rw[<-hog];exact h12)),<-I10.2]
     ·
      ((try dsimp only);omega)
   ·
    have ho:o=z7x (atP d s au) s cs:=by rw[I10.2,qp (by omega),qM (by omega),qQ];rfl
    rw[<-ho] at ts
    have T:=x63 (cs:=cs) h2
    have e3:((z3r d s cs au):List EOp)=[opF (s).nd (y1u ((atP d s au)) s o)]:=by
     rw[T.1,ho]
    have e4:((z9n d s cs au):Sel)=((x1B s o)):=by
     rw[T.2,ho]
    have e5:((atE d s au):Int)=0:=by
     exact h2
    exact .finVE [.le (.fr 13 [(o.length:Nat)=(List.map z0c o).length] ⟨lm,trivial⟩),.r [(2,X (Xc4 [(0,96)] (x07 ((atP d s au)) s o (by assumption) (by assumption)) X0))]] [] [] (fun((z0,z1,z2):(List EOp)×Sel×Int)=>(.tup [VL 19 z0F z0,.t (z5f z1),VI z2],[])) _ _ (pr e3 (pr e4 e5))
theorem y77(p:Pl)(s:Sel)(es:List Elem)(hb:PlB p)(hs:StpB p s es):FC Tryz.prog 67 [.ptr 0 0,.t (z5f s),.row 1 es.length] (app emp [(0,.box [VI p.node.id,VI p.node.kind,VL 2 z0a p.node.attrs,VL 3 z0c p.node.flow,VI p.node.grid.rows,VI p.node.grid.cols,VL 5 z0k p.node.grid.cells,VL 4 z0t p.node.grid.merges,VL 8 z0R p.node.draw,VL 1 z0B p.shown,VS p.author]),(1,OR 3 z0c es)]) (.tup [VL 19 z0F [opF s.nd (y1u p s es)],.t (z5f (x1B s es)),VI 0]) (app emp [(0,.box [VI p.node.id,VI p.node.kind,VL 2 z0a p.node.attrs,VL 3 z0c p.node.flow,VI p.node.grid.rows,VI p.node.grid.cols,VL 5 z0k p.node.grid.cells,VL 4 z0t p.node.grid.merges,VL 8 z0R p.node.draw,VL 1 z0B p.shown,VS p.author]),(1,OF 3 z0c es)]):=by
 refine .go Tryz.f67 ?_
 obtain⟨s1,q1,q2,v1,v2,v3,d1,d2,d3,m1,m2,m3⟩:=hs
 simp only[y8j,x1A] at v1 v2 v3 d1 d2 d3 m1 m2 m3
 have hf:p.node.flow.length<=10000000:=by(have:=hb.len;omega)
 have hsh:=hb.sl
 have hpl:∀x∈(p.shown.take s.tq.toNat).drop s.fr.toNat,0<=x/\x< (p.node.flow.length:Int):=fun x hx=>hb.ok x (qE (qC hx))
 have hpl2:∀x∈p.shown,0<=x/\x<=1000000000:=fun x hx=>by(have:=hb.ok x hx;omega)
 have hgp:=y1v hb s1
 have e1:([opF s.nd (y1u p s es)]:List EOp)=[({kind:=2,node:=s.nd,nw:=({id:=0,kind:=0,attrs:=[],flow:=[],grid:=({rows:=0,cols:=0,cells:=[],merges:=[]}:Grid),draw:=[]}:Node),attrs:=[],steps:=(z5e (z7w p.node.flow ((p.shown.take (Int.toNat s.tq)).drop (Int.toNat s.fr)) p.author) (z00 (y0o (p.node.flow).length (z7V p.shown s.fr) es p.author) (z7w p.node.flow ((p.shown.take (Int.toNat s.tq)).drop (Int.toNat s.fr)) p.author))),grid:=({rows:=[],cols:=[],cells:=[],split:=[],merge:=[]}:GEd),draw:=[]}:EOp)]:=by
  rfl
 have e2:((x1B s es):Sel)=({nd:=s.nd,fr:=(s.fr+(es.length:Int)),tq:=(s.fr+(es.length:Int))}:Sel):=by
  rfl
 exact .finVE [.r [],.r [],.r [(9,X (Xsb z0B 1 p.shown s.fr s.tq)),(14,X (Xc1 194 (y3G p.node.flow ((p.shown.take (Int.toNat s.tq)).drop (Int.toNat s.fr)) p.author (by omega) (by assumption)) X0))],.r [(6,X (Xc0 (x01 p.shown s.fr (by omega) (by assumption)) X0))],.r [(7,X (Xc1 330 (y61 p.node.flow (z7V p.shown s.fr) es p.author (by omega) (by omega) (by omega) (by assumption)) (z0Y z0c es X0)))],.r [(2,X (Xc1 362 (y1Z (y0o (p.node.flow).length (z7V p.shown s.fr) es p.author) (z7w p.node.flow ((p.shown.take (Int.toNat s.tq)).drop (Int.toNat s.fr)) p.author) (by assumption) (by assumption) (by assumption) (by assumption) (by omega) (by omega)) X0))],.r [],.f,.r [(2,X (Xc1 458 (y6l (z7w p.node.flow ((p.shown.take (Int.toNat s.tq)).drop (Int.toNat s.fr)) p.author) (z00 (y0o (p.node.flow).length (z7V p.shown s.fr) es p.author) (z7w p.node.flow ((p.shown.take (Int.toNat s.tq)).drop (Int.toNat s.fr)) p.author)) (by assumption) (by assumption) (by assumption) (by assumption) (by omega)) X0))],.r [],.f,.r [(4,X (Xn (s.fr+(es.length:Int))))],.r [(3,X (Xf [(4,2),(5,3),(8,5),(9,4),(10,8),(11,2),(13,2),(14,2),(15,5),(16,4),(17,4),(18,8)]))],.le (.fr 6 [(1:Nat)=(List.map z0F [({kind:=2,node:=s.nd,nw:=({id:=0,kind:=0,attrs:=[],flow:=[],grid:=({rows:=0,cols:=0,cells:=[],merges:=[]}:Grid),draw:=[]}:Node),attrs:=[],steps:=(z5e (z7w p.node.flow ((p.shown.take (Int.toNat s.tq)).drop (Int.toNat s.fr)) p.author) (z00 (y0o (p.node.flow).length (z7V p.shown s.fr) es p.author) (z7w p.node.flow ((p.shown.take (Int.toNat s.tq)).drop (Int.toNat s.fr)) p.author))),grid:=({rows:=[],cols:=[],cells:=[],split:=[],merge:=[]}:GEd),draw:=[]}:EOp)]).length] ⟨lm,trivial⟩)] [] [(0,0),(1,1)] (fun((z0,z1):(List EOp)×Sel)=>(.tup [VL 19 z0F z0,.t (z5f z1),VI 0],[(0,.box [VI p.node.id,VI p.node.kind,VL 2 z0a p.node.attrs,VL 3 z0c p.node.flow,VI p.node.grid.rows,VI p.node.grid.cols,VL 5 z0k p.node.grid.cells,VL 4 z0t p.node.grid.merges,VL 8 z0R p.node.draw,VL 1 z0B p.shown,VS p.author]),(1,OF 3 z0c es)])) _ _ (pr e1 e2)
theorem x5S(k:Int):FC Tryz.prog 137 [VI k] (app emp []) (VI (k/65536)) (app emp []):=by
 refine .go Tryz.f137 ?_
 exact .fin [.r [],.r [(1,X (Xsh IntKind.i64 16 (k.fdiv (2^(min (16:Int).toNat IntKind.i64.bits))) (k/65536)) ⟨by decide,x8L⟩)]] []
theorem x09(d:Doc)(site:Int)(hb:DocL d):FC Tryz.prog 77 [.t (z20 d),VI site] (app emp []) (.tup [VI (z04 d site),VI (z1w d site)]) (app emp []):=by
 refine .go Tryz.f77 ?_
 have hl:=hb.len
 refine .bp [.r [],.r [(1,X (Xc0 (z5y d (by assumption)) X0))],.r []] ((z1N d) !=0) (fun h2=> ?_) (fun h2=> ?_)
 ·
  have T:=x66 (site:=site) h2
  have e1:((z04 d site):Int)=0:=by
   exact T.1
  have e2:((z1w d site):Int)=(z1N d):=by
   exact T.2
  exact .finE [.r []] [] (fun((z0,z1):Int×Int)=>(.tup [VI z0,VI z1],[])) _ _ (pr e1 e2)
 ·
  refine .bp [.r [(4,Xv 1 (!(decide (site<0))) X0),(5,X (Xk' (decide (site<0))))]] (decide (site<0)||decide (site>1000)) (fun h4=> ?_) (fun h4=> ?_)
  ·
   have T:=x67 (by omega) h4
   have e3:((z04 d site):Int)=0:=by
    exact T.1
   have e4:((z1w d site):Int)=2:=by
    exact T.2
   exact .finE [.r []] [] (fun((z0,z1):Int×Int)=>(.tup [VI z0,VI z1],[])) _ _ (pr e3 e4)
  ·
   have hid:=y9K (d:=d) (by omega)
   refine .loop (α:=Int×Nat) [.r [(1,X (Xsh IntKind.i64 16 (IntKind.i64.wrap (site*2^(min (16:Int).toNat IntKind.i64.bits))) (site*65536)) ⟨by decide,x8M (by omega)⟩)],.r [(2,X (Xl z0i d.nodes))]] 168 (fun(x,i)=>([(1,VI site),(7,VI x),(24,VL 9 z0i d.nodes),(25,VI (d.nodes.length:Int)),(26,VI (i:Int))],[])) (fun(x,i)=>i<=d.nodes.length/\x=z9K d.nodes site i/\0<=x/\x<=1073741824) (fun(x,i)=>d.nodes.length-i) ((site*65536),0) ?_ ?_
   ·
    exact⟨by omega,rfl,by omega,by omega⟩
   rintro⟨x,i⟩ I8 ih8
   try dsimp only at I8
   refine .bp [.r []] (decide ((i:Int)< (d.nodes.length:Int))) (fun h8=> ?_) (fun h8=> ?_)
   ·
    have hx:=hid _ (z4d (l:=d.nodes) (i:=i) (by omega))
    refine .bp [.r [(0,X (Xi z0i d.nodes (i:Int)))],.r [(2,X (Xc0 (x5S (((d.nodes.getD i default)).id)) X0))]] (((((d.nodes.getD i default)).id)/65536)==site) (fun h10=> ?_) (fun h10=> ?_)
    ·
     refine .back [.r [],.r [(0,X (Xn ((i:Int)+1)))]] [] (ih8 (((d.nodes.getD i default)).id,(i+1)) ?_ ?_)
     ·
      exact⟨by omega,by rw[z9p (by omega),if_pos h10],by omega,by omega⟩
     ·
      ((try dsimp only);omega)
    ·
     refine .back [.r [(0,X (Xn ((i:Int)+1)))]] [] (ih8 (x,(i+1)) ?_ ?_)
     ·
      exact⟨by omega,by rw[z9p (by omega),if_neg h10];exact I8.2.1,I8.2.2⟩
     ·
      ((try dsimp only);omega)
   ·
    have hx2:x=z9K d.nodes site d.nodes.length:=by rw[I8.2.1,show i=d.nodes.length by omega]
    refine .bp [.r [(1,X (x9H IntKind.i64 (x6m IntKind.i64 x 65535) (x%65536)) (x8N (by omega)))]] ((x%65536)==65535) (fun h13=> ?_) (fun h13=> ?_)
    ·
     have T:=x0e (by omega) h4 (hx2▸h13)
     have e5:((z04 d site):Int)=0:=by
      exact T.1
     have e6:((z1w d site):Int)=18:=by
      exact T.2
     exact .finE [.r []] [] (fun((z0,z1):Int×Int)=>(.tup [VI z0,VI z1],[])) _ _ (pr e5 e6)
    ·
     have T:=x0f (by omega) h4 (hx2▸h13)
     rw[<-hx2] at T
     have e7:((z04 d site):Int)=(x+1):=by
      exact T.1
     have e8:((z1w d site):Int)=0:=by
      exact T.2
     exact .finE [.r [(1,X (Xn (x+1)))]] [] (fun((z0,z1):Int×Int)=>(.tup [VI z0,VI z1],[])) _ _ (pr e7 e8)
theorem z7b(d:Doc)(s:Sel)(n:Node)(site:Int)(au:ByteArray)(hb:DocL d)(hn:n.grid.merges=[]/\y4w n.grid.cells)(hx:atE d s au=0->z1w d site=0->ObjB d s n site au):FC Tryz.prog 73 [.t (z20 d),.t (z5f s),.t (z0i n),VI site,VS au] (app emp []) (.tup [VL 19 z0F (z4T d s n site au),.t (z5f (z8a d s n site au)),VI (z5g d s n site au)]) (app emp []):=by
 refine .go Tryz.f73 ?_
 refine .bp [.r [],.r [(3,X (Xc1 72 (x3e d s au (by assumption)) X0))],.r []] ((atE d s au) !=0) (fun h2=> ?_) (fun h2=> ?_)
 ·
  have T:=x5f (n:=n) (site:=site) h2
  have e1:((z4T d s n site au):List EOp)=[]:=by
   exact T.1
  have e2:((z8a d s n site au):Sel)=({nd:=0,fr:=0,tq:=0}:Sel):=by
   exact T.2.1
  have e3:((z5g d s n site au):Int)=(atE d s au):=by
   exact T.2.2
  exact .finVE [.r [],.le (.nL 10 19)] [] [] (fun((z0,z1,z2):(List EOp)×Sel×Int)=>(.tup [VL 19 z0F z0,.t (z5f z1),VI z2],[])) _ _ (pr e1 (pr e2 e3))
 ·
  refine .bp [.r [(5,X (Xc0 (y5Y ((((atP d s au)).node).kind) n.kind) X0))]] (!(z06 ((((atP d s au)).node).kind) n.kind)) (fun h4=> ?_) (fun h4=> ?_)
  ·
   have T:=x8O (site:=site) h2 h4
   have e4:((z4T d s n site au):List EOp)=[]:=by
    exact T.1
   have e5:((z8a d s n site au):Sel)=({nd:=0,fr:=0,tq:=0}:Sel):=by
    exact T.2.1
   have e6:((z5g d s n site au):Int)=8:=by
    exact T.2.2
   exact .finVE [.r [],.le (.nL 10 19)] [] [] (fun((z0,z1,z2):(List EOp)×Sel×Int)=>(.tup [VL 19 z0F z0,.t (z5f z1),VI z2],[])) _ _ (pr e4 (pr e5 e6))
  ·
   refine .bp [.r [(2,X (Xc0 (x09 d site (by assumption)) X0))],.r []] ((z1w d site) !=0) (fun h7=> ?_) (fun h7=> ?_)
   ·
    have T:=x8P h2 h4 h7
    have e7:((z4T d s n site au):List EOp)=[]:=by
     exact T.1
    have e8:((z8a d s n site au):Sel)=({nd:=0,fr:=0,tq:=0}:Sel):=by
     exact T.2.1
    have e9:((z5g d s n site au):Int)=(z1w d site):=by
     exact T.2.2
    exact .finVE [.r [],.le (.nL 10 19)] [] [] (fun((z0,z1,z2):(List EOp)×Sel×Int)=>(.tup [VL 19 z0F z0,.t (z5f z1),VI z2],[])) _ _ (pr e7 (pr e8 e9))
   ·
    obtain⟨o1,o2,o3⟩:=hx h2 h7
    refine .bp [.r [],.r [(1,X (Xc0 (z9b ({id:=(z04 d site),kind:=n.kind,attrs:=n.attrs,flow:=n.flow,grid:=n.grid,draw:=n.draw}:Node) (by assumption)) X0))],.r []] ((z0X ({id:=(z04 d site),kind:=n.kind,attrs:=n.attrs,flow:=n.flow,grid:=n.grid,draw:=n.draw}:Node)) !=0) (fun h11=> ?_) (fun h11=> ?_)
    ·
     have T:=x8Q h2 h4 h7 h11
     have e10:((z4T d s n site au):List EOp)=[]:=by
      exact T.1
     have e11:((z8a d s n site au):Sel)=({nd:=0,fr:=0,tq:=0}:Sel):=by
      exact T.2.1
     have e12:((z5g d s n site au):Int)=(z0X ({id:=(z04 d site),kind:=n.kind,attrs:=n.attrs,flow:=n.flow,grid:=n.grid,draw:=n.draw}:Node)):=by
      exact T.2.2
     exact .finVE [.r [],.le (.nL 10 19)] [] [] (fun((z0,z1,z2):(List EOp)×Sel×Int)=>(.tup [VL 19 z0F z0,.t (z5f z1),VI z2],[])) _ _ (pr e10 (pr e11 e12))
    ·
     have T:=x8R h2 h4 h7 h11
     have e13:((z4T d s n site au):List EOp)=([({kind:=0,node:=0,nw:=({id:=(z04 d site),kind:=n.kind,attrs:=n.attrs,flow:=n.flow,grid:=n.grid,draw:=n.draw}:Node),attrs:=[],steps:=[],grid:=({rows:=[],cols:=[],cells:=[],split:=[],merge:=[]}:GEd),draw:=[]}:EOp)]++[opF (s).nd (y1u ((atP d s au)) s [({char:=0,ref:=(z04 d site),attrs:=(z6f ((atP d s au)) s.fr)}:Elem)])]):=by
      exact T.1
     have e14:((z8a d s n site au):Sel)=((x1B s [({char:=0,ref:=(z04 d site),attrs:=(z6f ((atP d s au)) s.fr)}:Elem)])):=by
      exact T.2.1
     have e15:((z5g d s n site au):Int)=0:=by
      exact T.2.2
     exact .finVE [.r [(4,X (Xc4 [(0,104)] (x4b ((atP d s au)) s.fr (by assumption) (by omega)) X0)),(7,X (Xc3 400 [(0,104),(1,392)] (y77 ((atP d s au)) s [({char:=0,ref:=(z04 d site),attrs:=(z6f ((atP d s au)) s.fr)}:Elem)] (by assumption) (by assumption)) X0))],.r [],.f,.r [(1,X (Xf [(11,2),(12,4),(13,2),(14,2),(15,5),(16,4),(17,4),(18,8)])),(4,X (x7K 19 z0F 504 [({kind:=0,node:=0,nw:=({id:=(z04 d site),kind:=n.kind,attrs:=n.attrs,flow:=n.flow,grid:=n.grid,draw:=n.draw}:Node),attrs:=[],steps:=[],grid:=({rows:=[],cols:=[],cells:=[],split:=[],merge:=[]}:GEd),draw:=[]}:EOp)] [opF (s).nd (y1u ((atP d s au)) s [({char:=0,ref:=(z04 d site),attrs:=(z6f ((atP d s au)) s.fr)}:Elem)])]))],.le (.fr 10 [((([({kind:=0,node:=0,nw:=({id:=(z04 d site),kind:=n.kind,attrs:=n.attrs,flow:=n.flow,grid:=n.grid,draw:=n.draw}:Node),attrs:=[],steps:=[],grid:=({rows:=[],cols:=[],cells:=[],split:=[],merge:=[]}:GEd),draw:=[]}:EOp)]++[opF (s).nd (y1u ((atP d s au)) s [({char:=0,ref:=(z04 d site),attrs:=(z6f ((atP d s au)) s.fr)}:Elem)])]).length):Nat)=(List.map z0F ([({kind:=0,node:=0,nw:=({id:=(z04 d site),kind:=n.kind,attrs:=n.attrs,flow:=n.flow,grid:=n.grid,draw:=n.draw}:Node),attrs:=[],steps:=[],grid:=({rows:=[],cols:=[],cells:=[],split:=[],merge:=[]}:GEd),draw:=[]}:EOp)]++[opF (s).nd (y1u ((atP d s au)) s [({char:=0,ref:=(z04 d site),attrs:=(z6f ((atP d s au)) s.fr)}:Elem)])])).length] ⟨lm,trivial⟩)] [] [] (fun((z0,z1,z2):(List EOp)×Sel×Int)=>(.tup [VL 19 z0F z0,.t (z5f z1),VI z2],[])) _ _ (pr e13 (pr e14 e15))
theorem x5T(d:Doc)(s:Sel)(r c:Int)(site:Int)(au:ByteArray)(hr:1<=r/\r<=1000/\1<=c/\c<=1000)(hb:DocL d)(hx:atE d s au=0->z1w d site=0->ObjB d s (y1y r c) site au):FC Tryz.prog 32 [.t (z20 d),.t (z5f s),VI r,VI c,VI site,VS au] (app emp []) (.tup [VL 19 z0F (z4T d s (y1y r c) site au),.t (z5f (z8a d s (y1y r c) site au)),VI (z5g d s (y1y r c) site au)]) (app emp []):=by
 refine .go Tryz.f32 ?_
 have hn:(y1y r c).grid.merges=[]/\y4w (y1y r c).grid.cells:=⟨rfl,fun x h=>by cases h⟩
 refine .bp [.r [],.r [(4,Xv 1 (!(decide (r<1))) X0),(5,X (Xk' (decide (r<1)))),(8,Xv 1 (!(decide (r<1)||decide (r>1000))) X0),(9,X (Xk' (decide (r<1)||decide (r>1000)))),(12,Xv 1 (!((decide (r<1)||decide (r>1000))||decide (c<1))) X0),(13,X (Xk' ((decide (r<1)||decide (r>1000))||decide (c<1))))]] (((decide (r<1)||decide (r>1000))||decide (c<1))||decide (c>1000)) (fun h1=> ?_) (fun h1=> ?_)
 ·
  exfalso
  omega
 ·
  have e1:((z4T d s (y1y r c) site au):List EOp)=(z4T d s ({id:=0,kind:=2,attrs:=[],flow:=[],grid:=({rows:=r,cols:=c,cells:=[],merges:=[]}:Grid),draw:=[]}:Node) site au):=by
   rfl
  have e2:((z8a d s (y1y r c) site au):Sel)=((z8a d s ({id:=0,kind:=2,attrs:=[],flow:=[],grid:=({rows:=r,cols:=c,cells:=[],merges:=[]}:Grid),draw:=[]}:Node) site au)):=by
   rfl
  have e3:((z5g d s (y1y r c) site au):Int)=(z5g d s ({id:=0,kind:=2,attrs:=[],flow:=[],grid:=({rows:=r,cols:=c,cells:=[],merges:=[]}:Grid),draw:=[]}:Node) site au):=by
   rfl
  exact .finVE [.r [(4,X (Xf [(2,5),(3,4)])),(5,X (Xf [(2,2),(3,3),(8,8)])),(8,X (Xc1 216 (z7b d s ({id:=0,kind:=2,attrs:=[],flow:=[],grid:=({rows:=r,cols:=c,cells:=[],merges:=[]}:Grid),draw:=[]}:Node) site au (by assumption) (by assumption) (by assumption)) X0))]] [] [] (fun((z0,z1,z2):(List EOp)×Sel×Int)=>(.tup [VL 19 z0F z0,.t (z5f z1),VI z2],[])) _ _ (pr e1 (pr e2 e3))
theorem x5U(d:Doc)(s:Sel)(e:Bool)(site:Int)(au:ByteArray)(hb:DocL d)(hx:atE d s au=0->z1w d site=0->ObjB d s (z9q e) site au):FC Tryz.prog 33 [.t (z20 d),.t (z5f s),VB e,VI site,VS au] (app emp []) (.tup [VL 19 z0F (z4T d s (z9q e) site au),.t (z5f (z8a d s (z9q e) site au)),VI (z5g d s (z9q e) site au)]) (app emp []):=by
 refine .go Tryz.f33 ?_
 have hn:(z9q e).grid.merges=[]/\y4w (z9q e).grid.cells:=⟨rfl,fun x h=>by cases h⟩
 refine .bp [.r [],.r [],.r []] e (fun h2=> ?_) (fun h2=> ?_)
 ·
  rw[h2] at hx hn
  have e1:((z4T d s (z9q e) site au):List EOp)=(z4T d s ({id:=0,kind:=4,attrs:=[({name:={data:=#[107,105,110,100]},val:={data:=#[101,110,100]}}:Attr)],flow:=[({char:=10,ref:=0,attrs:=[]}:Elem)],grid:=({rows:=0,cols:=0,cells:=[],merges:=[]}:Grid),draw:=[]}:Node) site au):=by
   rw[h2];rfl
  have e2:((z8a d s (z9q e) site au):Sel)=((z8a d s ({id:=0,kind:=4,attrs:=[({name:={data:=#[107,105,110,100]},val:={data:=#[101,110,100]}}:Attr)],flow:=[({char:=10,ref:=0,attrs:=[]}:Elem)],grid:=({rows:=0,cols:=0,cells:=[],merges:=[]}:Grid),draw:=[]}:Node) site au)):=by
   rw[h2];rfl
  have e3:((z5g d s (z9q e) site au):Int)=(z5g d s ({id:=0,kind:=4,attrs:=[({name:={data:=#[107,105,110,100]},val:={data:=#[101,110,100]}}:Attr)],flow:=[({char:=10,ref:=0,attrs:=[]}:Elem)],grid:=({rows:=0,cols:=0,cells:=[],merges:=[]}:Grid),draw:=[]}:Node) site au):=by
   rw[h2];rfl
  exact .finVE [.r [],.r [(5,X (Xf [(2,2)])),(7,X (Xf [(6,5),(7,4),(8,8)])),(10,X (Xc1 144 (z7b d s ({id:=0,kind:=4,attrs:=[({name:={data:=#[107,105,110,100]},val:={data:=#[101,110,100]}}:Attr)],flow:=[({char:=10,ref:=0,attrs:=[]}:Elem)],grid:=({rows:=0,cols:=0,cells:=[],merges:=[]}:Grid),draw:=[]}:Node) site au (by assumption) (by assumption) (by assumption)) (z0Y z0a [({name:={data:=#[107,105,110,100]},val:={data:=#[101,110,100]}}:Attr)] (z0Y z0c [({char:=10,ref:=0,attrs:=[]}:Elem)] X0))))]] [] [] (fun((z0,z1,z2):(List EOp)×Sel×Int)=>(.tup [VL 19 z0F z0,.t (z5f z1),VI z2],[])) _ _ (pr e1 (pr e2 e3))
 ·
  rw[h2] at hx hn
  have e4:((z4T d s (z9q e) site au):List EOp)=(z4T d s ({id:=0,kind:=4,attrs:=[({name:={data:=#[107,105,110,100]},val:={data:=#[102,111,111,116]}}:Attr)],flow:=[({char:=10,ref:=0,attrs:=[]}:Elem)],grid:=({rows:=0,cols:=0,cells:=[],merges:=[]}:Grid),draw:=[]}:Node) site au):=by
   rw[h2];rfl
  have e5:((z8a d s (z9q e) site au):Sel)=((z8a d s ({id:=0,kind:=4,attrs:=[({name:={data:=#[107,105,110,100]},val:={data:=#[102,111,111,116]}}:Attr)],flow:=[({char:=10,ref:=0,attrs:=[]}:Elem)],grid:=({rows:=0,cols:=0,cells:=[],merges:=[]}:Grid),draw:=[]}:Node) site au)):=by
   rw[h2];rfl
  have e6:((z5g d s (z9q e) site au):Int)=(z5g d s ({id:=0,kind:=4,attrs:=[({name:={data:=#[107,105,110,100]},val:={data:=#[102,111,111,116]}}:Attr)],flow:=[({char:=10,ref:=0,attrs:=[]}:Elem)],grid:=({rows:=0,cols:=0,cells:=[],merges:=[]}:Grid),draw:=[]}:Node) site au):=by
   rw[h2];rfl
  exact .finVE [.r [(5,X (Xf [(2,2)])),(7,X (Xf [(6,5),(7,4),(8,8)])),(10,X (Xc1 136 (z7b d s ({id:=0,kind:=4,attrs:=[({name:={data:=#[107,105,110,100]},val:={data:=#[102,111,111,116]}}:Attr)],flow:=[({char:=10,ref:=0,attrs:=[]}:Elem)],grid:=({rows:=0,cols:=0,cells:=[],merges:=[]}:Grid),draw:=[]}:Node) site au (by assumption) (by assumption) (by assumption)) (z0Y z0a [({name:={data:=#[107,105,110,100]},val:={data:=#[102,111,111,116]}}:Attr)] (z0Y z0c [({char:=10,ref:=0,attrs:=[]}:Elem)] X0))))]] [] [] (fun((z0,z1,z2):(List EOp)×Sel×Int)=>(.tup [VL 19 z0F z0,.t (z5f z1),VI z2],[])) _ _ (pr e4 (pr e5 e6))
theorem x5V(d:Doc)(s:Sel)(l:List Attr)(site:Int)(au:ByteArray)(hc:z1B false l 0=0)(hl:l.length<=1048576)(hb:DocL d)(hx:atE d s au=0->z1w d site=0->ObjB d s (y1z l) site au):FC Tryz.prog 34 [.t (z20 d),.t (z5f s),VL 2 z0a l,VI site,VS au] (app emp []) (.tup [VL 19 z0F (z4T d s (y1z l) site au),.t (z5f (z8a d s (y1z l) site au)),VI (z5g d s (y1z l) site au)]) (app emp []):=by
 refine .go Tryz.f34 ?_
 refine .len 2 (fun hl2=> ?_)
 have hn:(y1z l).grid.merges=[]/\y4w (y1z l).grid.cells:=⟨rfl,fun x h=>by cases h⟩
 refine .bp [.r [],.r [(1,X (Xc0 (z39 l) X0))],.r []] ((z1B false l 0) !=0) (fun h2=> ?_) (fun h2=> ?_)
 ·
  exfalso
  omega
 ·
  have e1:((z4T d s (y1z l) site au):List EOp)=(z4T d s ({id:=0,kind:=5,attrs:=l,flow:=[],grid:=({rows:=0,cols:=0,cells:=[],merges:=[]}:Grid),draw:=[]}:Node) site au):=by
   rfl
  have e2:((z8a d s (y1z l) site au):Sel)=((z8a d s ({id:=0,kind:=5,attrs:=l,flow:=[],grid:=({rows:=0,cols:=0,cells:=[],merges:=[]}:Grid),draw:=[]}:Node) site au)):=by
   rfl
  have e3:((z5g d s (y1z l) site au):Int)=(z5g d s ({id:=0,kind:=5,attrs:=l,flow:=[],grid:=({rows:=0,cols:=0,cells:=[],merges:=[]}:Grid),draw:=[]}:Node) site au):=by
   rfl
  exact .finVE [.r [(3,X (Xan z0a 104 l)),(4,X (Xf [(3,3),(6,5),(7,4),(8,8)])),(7,X (Xc1 136 (z7b d s ({id:=0,kind:=5,attrs:=l,flow:=[],grid:=({rows:=0,cols:=0,cells:=[],merges:=[]}:Grid),draw:=[]}:Node) site au (by assumption) (by assumption) (by assumption)) (z0Y z0a l X0)))]] [] [] (fun((z0,z1,z2):(List EOp)×Sel×Int)=>(.tup [VL 19 z0F z0,.t (z5f z1),VI z2],[])) _ _ (pr e1 (pr e2 e3))
theorem y10(d:Doc)(k:Int)(hb:DocL d):FC Tryz.prog 75 [.t (z20 d),VI k] (app emp []) (.tup [.t (z0i (z1n d k)),VI (z23 d k)]) (app emp []):=by
 refine .go Tryz.f75 ?_
 have hdb:=hb.toDocB
 have hl:=hb.len
 refine .bp [.r [],.r [(1,X (Xc0 (z5y d (by assumption)) X0))],.r []] ((z1N d) !=0) (fun h2=> ?_) (fun h2=> ?_)
 ·
  have T:=x8S (k:=k) h2
  have e1:((z1n d k):Node)=({id:=0,kind:=0,attrs:=[],flow:=[],grid:=({rows:=0,cols:=0,cells:=[],merges:=[]}:Grid),draw:=[]}:Node):=by
   exact T.1
  have e2:((z23 d k):Int)=(z1N d):=by
   exact T.2
  exact .finVE [.r [(0,X (Xf [(2,2),(3,3),(6,5),(7,4),(8,8)]))]] [] [] (fun((z0,z1):Node×Int)=>(.tup [.t (z0i z0),VI z1],[])) _ _ (pr e1 e2)
 ·
  have hs:=z8n (d:=d) (by omega)
  refine .bp [.r [(2,X (Xc0 (z8r d k (by assumption) (by assumption)) X0))],.r []] (decide ((ixN (d).nodes k)< 0)) (fun h5=> ?_) (fun h5=> ?_)
  ·
   have T:=x8T (by omega) (y55.1 h5)
   have e3:((z1n d k):Node)=({id:=0,kind:=0,attrs:=[],flow:=[],grid:=({rows:=0,cols:=0,cells:=[],merges:=[]}:Grid),draw:=[]}:Node):=by
    exact T.1
   have e4:((z23 d k):Int)=7:=by
    exact T.2
   exact .finVE [.r [(0,X (Xf [(2,2),(3,3),(6,5),(7,4),(8,8)]))]] [] [] (fun((z0,z1):Node×Int)=>(.tup [.t (z0i z0),VI z1],[])) _ _ (pr e3 e4)
  ·
   have hh:=y54.1 h5
   have hlt:=(z1m.1 hh).1
   refine .bp [.le (.eq 7 (VI (ixN (d).nodes k)) (VI (z0x d.nodes k:Int)) (.of_eq (by rw[y4A hh]))),.r [(3,X (Xi z0i d.nodes (z0x d.nodes k:Int))),(6,X (Xc0 (y1l (((d.nodes.getD (z0x d.nodes k) default)).kind)) X0))]] (!(z3W (((d.nodes.getD (z0x d.nodes k) default)).kind))) (fun h7=> ?_) (fun h7=> ?_)
   ·
    have T:=x8U (by omega) hh h7
    have e5:((z1n d k):Node)=({id:=0,kind:=0,attrs:=[],flow:=[],grid:=({rows:=0,cols:=0,cells:=[],merges:=[]}:Grid),draw:=[]}:Node):=by
     exact T.1
    have e6:((z23 d k):Int)=8:=by
     exact T.2
    exact .finVE [.r [(0,X (Xf [(2,2),(3,3),(6,5),(7,4),(8,8)]))]] [] [] (fun((z0,z1):Node×Int)=>(.tup [.t (z0i z0),VI z1],[])) _ _ (pr e5 e6)
   ·
    have T:=x8V (by omega) hh h7
    have e7:((z1n d k):Node)=((d.nodes.getD (z0x d.nodes k) default)):=by
     exact T.1
    have e8:((z23 d k):Int)=0:=by
     exact T.2
    exact .finVE [.r [(3,X (Xi z0i d.nodes (z0x d.nodes k:Int)))]] [] [] (fun((z0,z1):Node×Int)=>(.tup [.t (z0i z0),VI z1],[])) _ _ (pr e7 e8)
theorem y62(l:List AxStep)(k n:Int)(hl:l.length<=1000):FC Tryz.prog 135 [VI k,VI n,.ptr 0 0] (app emp [(0,.box [.row 1 l.length]),(1,OR 2 z0P l)]) (.tup []) (app emp [(0,.box [.row 1 ((l++z3t k n).length)]),(1,OR 2 z0P (l++z3t k n))]):=by
 refine .go Tryz.f135 ?_
 refine .bp [.r []] (decide (n>0)) (fun h0=> ?_) (fun h0=> ?_)
 ·
  have e1:((l++z3t k n).length:Nat)=(l++[({kind:=k,n:=n}:AxStep)]).length:=by
   unfold z3t;rw[if_pos (by omega)]
  have e2:((l++z3t k n):List AxStep)=(l++[({kind:=k,n:=n}:AxStep)]):=by
   unfold z3t;rw[if_pos (by omega)]
  exact .finE [.r [(5,X (z0Y z0P [({kind:=k,n:=n}:AxStep)] (Xap 2 z0P 1 l [({kind:=k,n:=n}:AxStep)])))]] [(0,0),(1,1)] (fun((z0,z1):Nat×(List AxStep))=>(.tup [],[(0,.box [.row 1 z0]),(1,OR 2 z0P z1)])) _ _ (pr e1 e2)
 ·
  have e3:((l++z3t k n).length:Nat)=l.length:=by
   unfold z3t;rw[if_neg (by omega),qQ]
  have e4:((l++z3t k n):List AxStep)=l:=by
   unfold z3t;rw[if_neg (by omega),qQ]
  exact .finE [] [(0,0),(1,1)] (fun((z0,z1):Nat×(List AxStep))=>(.tup [],[(0,.box [.row 1 z0]),(1,OR 2 z0P z1)])) _ _ (pr e3 e4)
theorem y63(m a n:Int)(hm:0<=m/\m<=2147483647)(ha: -1000000<=a/\a<=2147483647)(hn: -1000000<=n/\n<=2147483647):FC Tryz.prog 76 [VI m,VI a,VI n] (app emp []) (.tup [VL 2 z0P (y0q m a n),VI (z8u m a n)]) (app emp []):=by
 refine .go Tryz.f76 ?_
 have w1:=z4D 0 a
 have w2:=z4D 1 n
 have w3:=z4D 2 (0-n)
 refine .bp [.r [],.r [(4,Xv 1 (!(decide (n< (-2147483647)))) X0),(5,X (Xk' (decide (n< (-2147483647))))),(8,Xv 1 (!(decide (n< (-2147483647))|| (n==0))) X0),(9,X (Xk' (decide (n< (-2147483647))|| (n==0)))),(13,Xv 2 (!((decide (n< (-2147483647))|| (n==0))||decide (a<0))) X0),(14,X (Xk' ((decide (n< (-2147483647))|| (n==0))||decide (a<0)))),(17,Xv 1 (!(((decide (n< (-2147483647))|| (n==0))||decide (a<0))||decide (a>m))) X0),(18,Xv 1 (!(((decide (n< (-2147483647))|| (n==0))||decide (a<0))||decide (a>m))) X0),(20,Xv 1 ((!(((decide (n< (-2147483647))|| (n==0))||decide (a<0))||decide (a>m)))&&(decide (n<0))) (Xn (0-n))),(23,Xv 2 ((!(((decide (n< (-2147483647))|| (n==0))||decide (a<0))||decide (a>m)))&&(decide (n<0))) (Xn (m-a))),(24,Xv 2 ((!(((decide (n< (-2147483647))|| (n==0))||decide (a<0))||decide (a>m)))&&(decide (n<0))) X0),(25,Xka (!(((decide (n< (-2147483647))|| (n==0))||decide (a<0))||decide (a>m))) (decide (n<0))),(26,X (Xk' (((decide (n< (-2147483647))|| (n==0))||decide (a<0))||decide (a>m))))]] ((((decide (n< (-2147483647))|| (n==0))||decide (a<0))||decide (a>m))|| (decide (n<0)&&decide ((0-n)>(m-a)))) (fun h1=> ?_) (fun h1=> ?_)
 ·
  have T:=x8W (m:=m) (a:=a) (n:=n) (by omega)
  have e1:((y0q m a n):List AxStep)=[]:=by
   exact T.1
  have e2:((z8u m a n):Int)=2:=by
   exact T.2
  exact .finE [.r [],.le (.nL 6 2)] [] (fun((z0,z1):(List AxStep)×Int)=>(.tup [VL 2 z0P z0,VI z1],[])) _ _ (pr e1 e2)
 ·
  refine .bp [.r []] (decide (n>1000)) (fun h3=> ?_) (fun h3=> ?_)
  ·
   have T:=x8X (m:=m) (a:=a) (n:=n) (by omega) h3
   have e3:((y0q m a n):List AxStep)=[]:=by
    exact T.1
   have e4:((z8u m a n):Int)=3:=by
    exact T.2
   exact .finE [.r [],.le (.nL 6 2)] [] (fun((z0,z1):(List AxStep)×Int)=>(.tup [VL 2 z0P z0,VI z1],[])) _ _ (pr e3 e4)
  ·
   have T:=x8Y (m:=m) (a:=a) (n:=n) (by omega) h3
   have e5:((y0q m a n):List AxStep)=(((([]++z3t 0 a)++z3t 1 n)++z3t 2 (0-n))++z3t 0 ((m-a)- (max 0 (0-n)))):=by
    exact T.1
   have e6:((z8u m a n):Int)=(z13 (((([]++z3t 0 a)++z3t 1 n)++z3t 2 (0-n))++z3t 0 ((m-a)- (max 0 (0-n))))):=by
    exact T.2
   exact .finE [.r [],.r [],.le (.nB 248 0 2),.r [(2,X (Xc3 289 [(0,248),(1,272)] (y62 [] 0 a (by first|omega| (simp only[qf,zg];omega))) X0))],.r [(2,X (Xc3 313 [(0,248),(1,272)] (y62 ([]++z3t 0 a) 1 n (by first|omega| (simp only[qf,zg];omega))) X0))],.r [(2,X (Xn (0-n))),(3,X (Xc3 345 [(0,248),(1,272)] (y62 (([]++z3t 0 a)++z3t 1 n) 2 (0-n) (by first|omega| (simp only[qf,zg];omega))) X0))],.r [(3,X (Xn (m-a))),(5,X (Xn (0-n))),(6,X (x7W 0 (0-n))),(7,X (Xn ((m-a)- (max 0 (0-n))))),(8,X (Xc3 417 [(0,248),(1,272)] (y62 ((([]++z3t 0 a)++z3t 1 n)++z3t 2 (0-n)) 0 ((m-a)- (max 0 (0-n))) (by first|omega| (simp only[qf,zg];omega))) X0))],.r [(2,X (Xc0 (z4b (((([]++z3t 0 a)++z3t 1 n)++z3t 2 (0-n))++z3t 0 ((m-a)- (max 0 (0-n))))) (z0Y z0P (((([]++z3t 0 a)++z3t 1 n)++z3t 2 (0-n))++z3t 0 ((m-a)- (max 0 (0-n)))) X0)))],.le (.fr 6 [(((((([]++z3t 0 a)++z3t 1 n)++z3t 2 (0-n))++z3t 0 ((m-a)- (max 0 (0-n)))).length):Nat)=(List.map z0P (((([]++z3t 0 a)++z3t 1 n)++z3t 2 (0-n))++z3t 0 ((m-a)- (max 0 (0-n))))).length] ⟨lm,trivial⟩)] [] (fun((z0,z1):(List AxStep)×Int)=>(.tup [VL 2 z0P z0,VI z1],[])) _ _ (pr e5 e6)
theorem x5W(d:Doc)(k a n:Int)(hb:DocL d)(ha: -1000000<=a/\a<=2147483647)(hn: -1000000<=n/\n<=2147483647):FC Tryz.prog 35 [.t (z20 d),VI k,VI a,VI n] (app emp []) (.tup [VL 19 z0F (y8m d k a n),VI (y6w d k a n)]) (app emp []):=by
 refine .go Tryz.f35 ?_
 refine .bp [.r [],.r [(2,X (Xc1 40 (y10 d k (by assumption)) X0))],.r []] ((z23 d k) !=0) (fun h2=> ?_) (fun h2=> ?_)
 ·
  have T:=x8Z (a:=a) (n:=n) h2
  have e1:((y8m d k a n):List EOp)=[]:=by
   exact T.1
  have e2:((y6w d k a n):Int)=(z23 d k):=by
   exact T.2
  exact .finE [.r [],.le (.nL 8 19)] [] (fun((z0,z1):(List EOp)×Int)=>(.tup [VL 19 z0F z0,VI z1],[])) _ _ (pr e1 e2)
 ·
  have hg:=y6v h2
  refine .bp [.r [(5,X (Xc1 152 (y63 ((((z1n d k)).grid).rows) a n (by omega) (by omega) (by omega)) X0))],.r []] ((z8u ((((z1n d k)).grid).rows) a n) !=0) (fun h5=> ?_) (fun h5=> ?_)
  ·
   have T:=x80 h2 h5
   have e3:((y8m d k a n):List EOp)=[]:=by
    exact T.1
   have e4:((y6w d k a n):Int)=(z8u ((((z1n d k)).grid).rows) a n):=by
    exact T.2
   exact .finE [.r [],.le (.nL 8 19)] [] (fun((z0,z1):(List EOp)×Int)=>(.tup [VL 19 z0F z0,VI z1],[])) _ _ (pr e3 e4)
  ·
   have T:=x81 h2 h5
   have e5:((y8m d k a n):List EOp)=[({kind:=3,node:=k,nw:=({id:=0,kind:=0,attrs:=[],flow:=[],grid:=({rows:=0,cols:=0,cells:=[],merges:=[]}:Grid),draw:=[]}:Node),attrs:=[],steps:=[],grid:=({rows:=(y0q ((((z1n d k)).grid).rows) a n),cols:=[],cells:=[],split:=[],merge:=[]}:GEd),draw:=[]}:EOp)]:=by
    exact T.1
   have e6:((y6w d k a n):Int)=0:=by
    exact T.2
   exact .finE [.r [(2,X (Xf [(1,2),(2,5),(3,4),(4,4)])),(3,X (Xf [(4,2),(5,3),(8,5),(9,4),(10,8),(11,2),(12,4),(18,8)]))],.le (.fr 8 [(1:Nat)=(List.map z0F [({kind:=3,node:=k,nw:=({id:=0,kind:=0,attrs:=[],flow:=[],grid:=({rows:=0,cols:=0,cells:=[],merges:=[]}:Grid),draw:=[]}:Node),attrs:=[],steps:=[],grid:=({rows:=(y0q ((((z1n d k)).grid).rows) a n),cols:=[],cells:=[],split:=[],merge:=[]}:GEd),draw:=[]}:EOp)]).length] ⟨lm,trivial⟩)] [] (fun((z0,z1):(List EOp)×Int)=>(.tup [VL 19 z0F z0,VI z1],[])) _ _ (pr e5 e6)
theorem y78(d:Doc)(k a n:Int)(hb:DocL d)(ha: -1000000<=a/\a<=2147483647)(hn: -1000000<=n/\n<=2147483647):FC Tryz.prog 36 [.t (z20 d),VI k,VI a,VI n] (app emp []) (.tup [VL 19 z0F (y8n d k a n),VI (y6x d k a n)]) (app emp []):=by
 refine .go Tryz.f36 ?_
 refine .bp [.r [],.r [(2,X (Xc1 40 (y10 d k (by assumption)) X0))],.r []] ((z23 d k) !=0) (fun h2=> ?_) (fun h2=> ?_)
 ·
  have T:=x82 (a:=a) (n:=n) h2
  have e1:((y8n d k a n):List EOp)=[]:=by
   exact T.1
  have e2:((y6x d k a n):Int)=(z23 d k):=by
   exact T.2
  exact .finE [.r [],.le (.nL 8 19)] [] (fun((z0,z1):(List EOp)×Int)=>(.tup [VL 19 z0F z0,VI z1],[])) _ _ (pr e1 e2)
 ·
  have hg:=y6v h2
  refine .bp [.r [(5,X (Xc1 152 (y63 ((((z1n d k)).grid).cols) a n (by omega) (by omega) (by omega)) X0))],.r []] ((z8u ((((z1n d k)).grid).cols) a n) !=0) (fun h5=> ?_) (fun h5=> ?_)
  ·
   have T:=x83 h2 h5
   have e3:((y8n d k a n):List EOp)=[]:=by
    exact T.1
   have e4:((y6x d k a n):Int)=(z8u ((((z1n d k)).grid).cols) a n):=by
    exact T.2
   exact .finE [.r [],.le (.nL 8 19)] [] (fun((z0,z1):(List EOp)×Int)=>(.tup [VL 19 z0F z0,VI z1],[])) _ _ (pr e3 e4)
  ·
   have T:=x84 h2 h5
   have e5:((y8n d k a n):List EOp)=[({kind:=3,node:=k,nw:=({id:=0,kind:=0,attrs:=[],flow:=[],grid:=({rows:=0,cols:=0,cells:=[],merges:=[]}:Grid),draw:=[]}:Node),attrs:=[],steps:=[],grid:=({rows:=[],cols:=(y0q ((((z1n d k)).grid).cols) a n),cells:=[],split:=[],merge:=[]}:GEd),draw:=[]}:EOp)]:=by
    exact T.1
   have e6:((y6x d k a n):Int)=0:=by
    exact T.2
   exact .finE [.r [(2,X (Xf [(0,2),(2,5),(3,4),(4,4)])),(3,X (Xf [(4,2),(5,3),(8,5),(9,4),(10,8),(11,2),(12,4),(18,8)]))],.le (.fr 8 [(1:Nat)=(List.map z0F [({kind:=3,node:=k,nw:=({id:=0,kind:=0,attrs:=[],flow:=[],grid:=({rows:=0,cols:=0,cells:=[],merges:=[]}:Grid),draw:=[]}:Node),attrs:=[],steps:=[],grid:=({rows:=[],cols:=(y0q ((((z1n d k)).grid).cols) a n),cells:=[],split:=[],merge:=[]}:GEd),draw:=[]}:EOp)]).length] ⟨lm,trivial⟩)] [] (fun((z0,z1):(List EOp)×Int)=>(.tup [VL 19 z0F z0,VI z1],[])) _ _ (pr e5 e6)
theorem x5X(d:Doc)(k r c site:Int)(hb:DocL d):FC Tryz.prog 37 [.t (z20 d),VI k,VI r,VI c,VI site] (app emp []) (.tup [VL 19 z0F (z9r d k r c site),VI (y3m d k r c site),VI (z7e d k r c site)]) (app emp []):=by
 refine .go Tryz.f37 ?_
 have htl:=x2K hb k
 refine .bp [.r [],.r [(2,X (Xc1 48 (y10 d k (by assumption)) X0))],.r []] ((z23 d k) !=0) (fun h2=> ?_) (fun h2=> ?_)
 ·
  have T:=x86 (r:=r) (c:=c) (site:=site) h2
  have e1:((z9r d k r c site):List EOp)=[]:=by
   exact T.1
  have e2:((y3m d k r c site):Int)=0:=by
   exact T.2.1
  have e3:((z7e d k r c site):Int)=(z23 d k):=by
   exact T.2.2
  exact .finE [.r [],.le (.nL 10 19)] [] (fun((z0,z1,z2):(List EOp)×Int×Int)=>(.tup [VL 19 z0F z0,VI z1,VI z2],[])) _ _ (pr e1 (pr e2 e3))
 ·
  refine .bp [.r []] ((((z1n d k)).kind) !=2) (fun h4=> ?_) (fun h4=> ?_)
  ·
   have T:=x87 (r:=r) (c:=c) (site:=site) h2 h4
   have e4:((z9r d k r c site):List EOp)=[]:=by
    exact T.1
   have e5:((y3m d k r c site):Int)=0:=by
    exact T.2.1
   have e6:((z7e d k r c site):Int)=8:=by
    exact T.2.2
   exact .finE [.r [],.le (.nL 10 19)] [] (fun((z0,z1,z2):(List EOp)×Int×Int)=>(.tup [VL 19 z0F z0,VI z1,VI z2],[])) _ _ (pr e4 (pr e5 e6))
  ·
   refine .bp [.r [(5,Xv 1 (!(decide (r<0))) X0),(6,Xv 1 (!(decide (r<0))) X0),(7,Xv 2 (!(decide (r<0))) X0),(8,X (Xk' (decide (r<0)))),(11,Xv 1 (!(decide (r<0)||decide (r>=((((z1n d k)).grid).rows)))) X0),(12,X (Xk' (decide (r<0)||decide (r>=((((z1n d k)).grid).rows))))),(16,Xv 1 (!((decide (r<0)||decide (r>=((((z1n d k)).grid).rows)))||decide (c<0))) X0),(17,Xv 1 (!((decide (r<0)||decide (r>=((((z1n d k)).grid).rows)))||decide (c<0))) X0),(18,Xv 2 (!((decide (r<0)||decide (r>=((((z1n d k)).grid).rows)))||decide (c<0))) X0),(19,X (Xk' ((decide (r<0)||decide (r>=((((z1n d k)).grid).rows)))||decide (c<0))))]] (((decide (r<0)||decide (r>=((((z1n d k)).grid).rows)))||decide (c<0))||decide (c>=((((z1n d k)).grid).cols))) (fun h6=> ?_) (fun h6=> ?_)
   ·
    have T:=x88 (site:=site) h2 h4 h6
    have e7:((z9r d k r c site):List EOp)=[]:=by
     exact T.1
    have e8:((y3m d k r c site):Int)=0:=by
     exact T.2.1
    have e9:((z7e d k r c site):Int)=2:=by
     exact T.2.2
    exact .finE [.r [],.le (.nL 10 19)] [] (fun((z0,z1,z2):(List EOp)×Int×Int)=>(.tup [VL 19 z0F z0,VI z1,VI z2],[])) _ _ (pr e7 (pr e8 e9))
   ·
    refine .loop (α:=Nat) [.r [(3,X (Xl z0k ((((z1n d k)).grid).cells)))]] 344 (fun i=>([(1,VI k),(2,VI r),(3,VI c),(4,VI site),(5,.ptr 0 0),(52,VL 5 z0k ((((z1n d k)).grid).cells)),(53,VI (((((z1n d k)).grid).cells).length:Int)),(54,VI (i:Int))],[(0,.box [VL 9 z0i d.nodes])])) (fun i=>i<=(z1n d k).grid.cells.length/\z4P (fun x:Cell=>x.row==r&&x.col==c) (z1n d k).grid.cells 0=z4P (fun x:Cell=>x.row==r&&x.col==c) (z1n d k).grid.cells i) (fun i=>(z1n d k).grid.cells.length-i) (0:Nat) ?_ ?_
    ·
     exact⟨by omega,rfl⟩
    rintro i I9 ih9
    try dsimp only at I9
    refine .bp [.r []] (decide ((i:Int)< (((((z1n d k)).grid).cells).length:Int))) (fun h9=> ?_) (fun h9=> ?_)
    ·
     refine .bp [.r [(0,X (Xi z0k ((((z1n d k)).grid).cells) (i:Int)))],.r [(6,Xv 1 ((((((((z1n d k)).grid).cells).getD i default)).row)==r) X0),(8,Xv 2 ((((((((z1n d k)).grid).cells).getD i default)).row)==r) X0),(9,X (Xk ((((((((z1n d k)).grid).cells).getD i default)).row)==r)))]] (((((((((z1n d k)).grid).cells).getD i default)).row)==r)&&((((((((z1n d k)).grid).cells).getD i default)).col)==c)) (fun h11=> ?_) (fun h11=> ?_)
     ·
      have T:=x89 (site:=site) h2 h4 h6 (I9.2.trans (x5i (by omega) (by simpa[-List.getD_eq_getElem?_getD] using h11)))
      have e10:((z9r d k r c site):List EOp)=[]:=by
       exact T.1
      have e11:((y3m d k r c site):Int)=((((((z1n d k)).grid).cells).getD i default)).ref:=by
       exact T.2.1
      have e12:((z7e d k r c site):Int)=0:=by
       exact T.2.2
      exact .finE [.r [],.le (.nL 10 19)] [] (fun((z0,z1,z2):(List EOp)×Int×Int)=>(.tup [VL 19 z0F z0,VI z1,VI z2],[])) _ _ (pr e10 (pr e11 e12))
     ·
      refine .back [.r [(0,X (Xn ((i:Int)+1)))]] [(0,0)] (ih9 ((i+1):Nat) ?_ ?_)
      ·
       exact⟨by omega,I9.2.trans (x2L (by omega) (by simpa[-List.getD_eq_getElem?_getD,Classical.or_iff_not_imp_left] using h11))⟩
      ·
       ((try dsimp only);omega)
    ·
     have hno:=I9.2.trans (x5j (by omega))
     refine .bp [.r [(2,X (Xc0 (x09 d site (by assumption)) X0))],.r []] ((z1w d site) !=0) (fun h15=> ?_) (fun h15=> ?_)
     ·
      have T:=x9a h2 h4 h6 hno h15
      have e13:((z9r d k r c site):List EOp)=[]:=by
       exact T.1
      have e14:((y3m d k r c site):Int)=0:=by
       exact T.2.1
      have e15:((z7e d k r c site):Int)=(z1w d site):=by
       exact T.2.2
      exact .finE [.r [],.le (.nL 10 19)] [] (fun((z0,z1,z2):(List EOp)×Int×Int)=>(.tup [VL 19 z0F z0,VI z1,VI z2],[])) _ _ (pr e13 (pr e14 e15))
     ·
      have T:=x9b h2 h4 h6 hno h15
      have e16:((z9r d k r c site):List EOp)=[({kind:=0,node:=0,nw:=({id:=(z04 d site),kind:=3,attrs:=[],flow:=[({char:=10,ref:=0,attrs:=[]}:Elem)],grid:=({rows:=0,cols:=0,cells:=[],merges:=[]}:Grid),draw:=[]}:Node),attrs:=[],steps:=[],grid:=({rows:=[],cols:=[],cells:=[],split:=[],merge:=[]}:GEd),draw:=[]}:EOp),({kind:=3,node:=k,nw:=({id:=0,kind:=0,attrs:=[],flow:=[],grid:=({rows:=0,cols:=0,cells:=[],merges:=[]}:Grid),draw:=[]}:Node),attrs:=[],steps:=[],grid:=({rows:=[],cols:=[],cells:=[({row:=r,col:=c,text:={data:=#[]},ref:=(z04 d site),attrs:=[]}:Cell)],split:=[],merge:=[]}:GEd),draw:=[]}:EOp)]:=by
       exact T.1
      have e17:((y3m d k r c site):Int)=(z04 d site):=by
       exact T.2.1
      have e18:((z7e d k r c site):Int)=0:=by
       exact T.2.2
      exact .finE [.r [(1,X (Xf [(2,2)])),(3,X (Xf [(2,2),(6,5),(7,4),(8,8)])),(4,X (Xf [(11,2),(12,4),(13,2),(14,2),(15,5),(16,4),(17,4),(18,8)])),(9,X (Xf [(4,2)])),(11,X (Xf [(0,2),(1,2),(3,4),(4,4)])),(12,X (Xf [(4,2),(5,3),(8,5),(9,4),(10,8),(11,2),(12,4),(18,8)])),(13,X (z0Y z0c [({char:=10,ref:=0,attrs:=[]}:Elem)] (z0Y z0k [({row:=r,col:=c,text:={data:=#[]},ref:=(z04 d site),attrs:=[]}:Cell)] X0)))],.le (.fr 10 [(2:Nat)=(List.map z0F [({kind:=0,node:=0,nw:=({id:=(z04 d site),kind:=3,attrs:=[],flow:=[({char:=10,ref:=0,attrs:=[]}:Elem)],grid:=({rows:=0,cols:=0,cells:=[],merges:=[]}:Grid),draw:=[]}:Node),attrs:=[],steps:=[],grid:=({rows:=[],cols:=[],cells:=[],split:=[],merge:=[]}:GEd),draw:=[]}:EOp),({kind:=3,node:=k,nw:=({id:=0,kind:=0,attrs:=[],flow:=[],grid:=({rows:=0,cols:=0,cells:=[],merges:=[]}:Grid),draw:=[]}:Node),attrs:=[],steps:=[],grid:=({rows:=[],cols:=[],cells:=[({row:=r,col:=c,text:={data:=#[]},ref:=(z04 d site),attrs:=[]}:Cell)],split:=[],merge:=[]}:GEd),draw:=[]}:EOp)]).length] ⟨lm,trivial⟩)] [] (fun((z0,z1,z2):(List EOp)×Int×Int)=>(.tup [VL 19 z0F z0,VI z1,VI z2],[])) _ _ (pr e16 (pr e17 e18))
theorem x5Y(p:Pl)(s:Sel)(k:Int)(hb:PlB p):FC Tryz.prog 70 [VI k,.ptr 1 0,.ptr 0 0] (app emp [(0,.box [VI p.node.id,VI p.node.kind,VL 2 z0a p.node.attrs,VL 3 z0c p.node.flow,VI p.node.grid.rows,VI p.node.grid.cols,VL 5 z0k p.node.grid.cells,VL 4 z0t p.node.grid.merges,VL 8 z0R p.node.draw,VL 1 z0B p.shown,VS p.author]),(1,.box [VI s.nd,VI s.fr,VI s.tq])]) (VB (y7P p s k)) (app emp [(0,.box [VI p.node.id,VI p.node.kind,VL 2 z0a p.node.attrs,VL 3 z0c p.node.flow,VI p.node.grid.rows,VI p.node.grid.cols,VL 5 z0k p.node.grid.cells,VL 4 z0t p.node.grid.merges,VL 8 z0R p.node.draw,VL 1 z0B p.shown,VS p.author]),(1,.box [VI s.nd,VI s.fr,VI s.tq])]):=by
 refine .go Tryz.f70 ?_
 have e1:((y7P p s k):Bool)=((decide (k>=s.fr)&&decide (k<s.tq))&&((((z0h p k)).char) !=10)):=by
  rfl
 exact .finE [.r [],.r [(7,Xv 1 (decide (k>=s.fr)) X0),(8,Xv 2 (decide (k>=s.fr)) X0),(9,X (Xk (decide (k>=s.fr)))),(12,Xv 1 (decide (k>=s.fr)&&decide (k<s.tq)) (Xc4 [(0,0)] (z4F p k (by assumption)) X0)),(13,Xv 1 (decide (k>=s.fr)&&decide (k<s.tq)) X0),(14,Xv 1 (decide (k>=s.fr)&&decide (k<s.tq)) X0),(15,X (Xk (decide (k>=s.fr)&&decide (k<s.tq))))]] [(0,0),(1,1)] (fun z0:Bool=>(VB z0,[(0,.box [VI p.node.id,VI p.node.kind,VL 2 z0a p.node.attrs,VL 3 z0c p.node.flow,VI p.node.grid.rows,VI p.node.grid.cols,VL 5 z0k p.node.grid.cells,VL 4 z0t p.node.grid.merges,VL 8 z0R p.node.draw,VL 1 z0B p.shown,VS p.author]),(1,.box [VI s.nd,VI s.fr,VI s.tq])])) _ _ e1
theorem y79(p:Pl)(s:Sel)(c:List Attr)(hb:PlB p)(hc:c.length<=1048576):FC Tryz.prog 69 [.ptr 0 0,VL 2 z0a c,.fn 70 [.ptr 1 0,.ptr 0 0]] (app emp [(0,.box [VI p.node.id,VI p.node.kind,VL 2 z0a p.node.attrs,VL 3 z0c p.node.flow,VI p.node.grid.rows,VI p.node.grid.cols,VL 5 z0k p.node.grid.cells,VL 4 z0t p.node.grid.merges,VL 8 z0R p.node.draw,VL 1 z0B p.shown,VS p.author]),(1,.box [VI s.nd,VI s.fr,VI s.tq])]) (VL 19 z0F [opF p.node.id (y4I c (z9J (y7P p s) p.shown p.node.flow.length p.shown.length) p.node.flow.length)]) (app emp [(0,.box [VI p.node.id,VI p.node.kind,VL 2 z0a p.node.attrs,VL 3 z0c p.node.flow,VI p.node.grid.rows,VI p.node.grid.cols,VL 5 z0k p.node.grid.cells,VL 4 z0t p.node.grid.merges,VL 8 z0R p.node.draw,VL 1 z0B p.shown,VS p.author]),(1,.box [VI s.nd,VI s.fr,VI s.tq])]):=by
 refine .go Tryz.f69 ?_
 refine .len 1 (fun hl1=> ?_)
 obtain⟨dn,el⟩:=x0c c (z9J (y7P p s) p.shown p.node.flow.length p.shown.length) p.node.flow.length hc
 have hbl:=hb.len
 have hbs:=hb.sl
 refine .loop (α:=Nat×(List Bool)) [.r [],.r [(5,X (Xl z0c p.node.flow)),(6,X (Xmk 1 z3R 58 (p.node.flow.length:Int) (p.node.flow.length:Int) false))],.r [(4,X (Xl z0B p.shown))]] 122 (fun(k,f)=>([(0,.ptr 0 0),(1,VL 2 z0a c),(2,.fn 70 [.ptr 1 0,.ptr 0 0]),(7,.row 58 p.node.flow.length),(25,VL 1 z0B p.shown),(26,VI (p.shown.length:Int)),(27,VI (k:Int))],[(0,.box [VI p.node.id,VI p.node.kind,VL 2 z0a p.node.attrs,VL 3 z0c p.node.flow,VI p.node.grid.rows,VI p.node.grid.cols,VL 5 z0k p.node.grid.cells,VL 4 z0t p.node.grid.merges,VL 8 z0R p.node.draw,VL 1 z0B p.shown,VS p.author]),(1,.box [VI s.nd,VI s.fr,VI s.tq]),(58,OR 1 z3R f)])) (fun(k,f)=>k<=p.shown.length/\f=z9J (y7P p s) p.shown p.node.flow.length k) (fun(k,f)=>p.shown.length-k) (0,(List.replicate p.node.flow.length false)) ?_ ?_
 ·
  exact⟨by omega,rfl⟩
 rintro⟨k,f⟩ I3 ih3
 try dsimp only at I3
 have fl:f.length=p.node.flow.length:=by rw[I3.2,y1w]
 refine .bp [.r []] (decide ((k:Int)< (p.shown.length:Int))) (fun h3=> ?_) (fun h3=> ?_)
 ·
  have hpk:=hb.ok _ (z0j (l:=p.shown) (i:=k) (by omega))
  refine .back [.r [(1,X (Xi z0B p.shown (k:Int)))],.r [(4,X (Xc4 [(0,0),(1,1)] (x5Y p s (k:Int) (by assumption)) X0)),(5,X (Xpn p.node.flow.length z3R f (p.shown.getD k default))),(6,X (Xsn p.node.flow.length 1 z3R 58 f (Int.toNat (p.shown.getD k default)) (y7P p s (k:Int))))],.r [(0,X (Xn ((k:Int)+1)))]] [(0,0),(1,1),(58,58)] (ih3 ((k+1),(f.set (Int.toNat (p.shown.getD k default)) (y7P p s (k:Int)))) ?_ ?_)
  ·
   exact⟨by omega,by rw[I3.2,z9o]⟩
  ·
   ((try dsimp only);omega)
 ·
  have hf2:f=(z9J (y7P p s) p.shown p.node.flow.length p.shown.length):=by rw[I3.2,show k=p.shown.length by omega]
  refine .loop (α:=Nat×(List DStep)) [.r [],.r [(5,X (Xl z0c p.node.flow))],.le (.nR 10 4)] 195 (fun(i,o)=>([(0,.ptr 0 0),(1,VL 2 z0a c),(7,.row 58 p.node.flow.length),(10,.row 194 o.length),(44,VI (p.node.flow.length:Int)),(45,VI (i:Int))],[(0,.box [VI p.node.id,VI p.node.kind,VL 2 z0a p.node.attrs,VL 3 z0c p.node.flow,VI p.node.grid.rows,VI p.node.grid.cols,VL 5 z0k p.node.grid.cells,VL 4 z0t p.node.grid.merges,VL 8 z0R p.node.draw,VL 1 z0B p.shown,VS p.author]),(1,.box [VI s.nd,VI s.fr,VI s.tq]),(58,OR 1 z3R f),(194,OR 4 z0d o)])) (fun(i,o)=>i<=p.node.flow.length/\o=y4H c f i) (fun(i,o)=>p.node.flow.length-i) (0,[]) ?_ ?_
  ·
   exact⟨by omega,rfl⟩
  rintro⟨i,o⟩ I9 ih9
  try dsimp only at I9
  have ol2:o.length=i:=by rw[I9.2];exact y6t c f i
  refine .bp [.r []] (decide ((i:Int)< (p.node.flow.length:Int))) (fun h9=> ?_) (fun h9=> ?_)
  ·
   refine .bp [.r [],.r [(0,X (Xf [(2,2),(3,3)]))],.r [(2,X (Xpn p.node.flow.length z3R f (i:Int))),(3,X (Xen p.node.flow.length z3R f i))]] (f.getD i default) (fun h12=> ?_) (fun h12=> ?_)
   ·
    refine .back [.r [],.r [(3,X (z0Y z0d [({kind:=0,n:=1,attrs:=c,elems:=[]}:DStep)] (Xap 4 z0d 194 o [({kind:=0,n:=1,attrs:=c,elems:=[]}:DStep)])))],.r [(0,X (Xn ((i:Int)+1)))]] [(0,0),(1,1),(58,58),(194,194)] (ih9 ((i+1),(o++[({kind:=0,n:=1,attrs:=c,elems:=[]}:DStep)])) ?_ ?_)
    ·
     exact⟨by omega,by rw[I9.2,z65,x3O h12]⟩
    ·
     ((try dsimp only);omega)
   ·
    refine .back [.r [(3,X (z0Y z0d [({kind:=0,n:=1,attrs:=[],elems:=[]}:DStep)] (Xap 4 z0d 194 o [({kind:=0,n:=1,attrs:=[],elems:=[]}:DStep)])))],.r [(0,X (Xn ((i:Int)+1)))]] [(0,0),(1,1),(58,58),(194,194)] (ih9 ((i+1),(o++[({kind:=0,n:=1,attrs:=[],elems:=[]}:DStep)])) ?_ ?_)
    ·
     exact⟨by omega,by rw[I9.2,z65,x3P h12]⟩
    ·
     ((try dsimp only);omega)
  ·
   have ho:o=y4H c (z9J (y7P p s) p.shown p.node.flow.length p.shown.length) p.node.flow.length:=by rw[I9.2,show i=p.node.flow.length by omega,hf2]
   rw[<-ho] at dn el
   have e1:([opF p.node.id (y4I c (z9J (y7P p s) p.shown p.node.flow.length p.shown.length) p.node.flow.length)]:List EOp)=[({kind:=2,node:=p.node.id,nw:=({id:=0,kind:=0,attrs:=[],flow:=[],grid:=({rows:=0,cols:=0,cells:=[],merges:=[]}:Grid),draw:=[]}:Node),attrs:=[],steps:=(z2Q o),grid:=({rows:=[],cols:=[],cells:=[],split:=[],merge:=[]}:GEd),draw:=[]}:EOp)]:=by
    rw[ho];rfl
   exact .finE [.r [(1,X (Xc1 211 (z8A o (by assumption) (by omega) (by omega)) (z0Y z0d o X0)))],.r [(6,X (Xf [(4,2),(5,3),(8,5),(9,4),(10,8),(11,2),(13,2),(14,2),(15,5),(16,4),(17,4),(18,8)]))],.le (.fr 6 [(1:Nat)=(List.map z0F [({kind:=2,node:=p.node.id,nw:=({id:=0,kind:=0,attrs:=[],flow:=[],grid:=({rows:=0,cols:=0,cells:=[],merges:=[]}:Grid),draw:=[]}:Node),attrs:=[],steps:=(z2Q o),grid:=({rows:=[],cols:=[],cells:=[],split:=[],merge:=[]}:GEd),draw:=[]}:EOp)]).length] ⟨lm,trivial⟩)] [(0,0),(1,1)] (fun z0:List EOp=>(VL 19 z0F z0,[(0,.box [VI p.node.id,VI p.node.kind,VL 2 z0a p.node.attrs,VL 3 z0c p.node.flow,VI p.node.grid.rows,VI p.node.grid.cols,VL 5 z0k p.node.grid.cells,VL 4 z0t p.node.grid.merges,VL 8 z0R p.node.draw,VL 1 z0B p.shown,VS p.author]),(1,.box [VI s.nd,VI s.fr,VI s.tq])])) _ _ e1
theorem x1a(d:Doc)(s:Sel)(c:List Attr)(hb:DocL d)(hc:c.length<=1048576)(hx:atE d s {data:=#[]}=0->PlB (atP d s {data:=#[]})):FC Tryz.prog 30 [.t (z20 d),.t (z5f s),VL 2 z0a c] (app emp []) (.tup [VL 19 z0F (y8k d s c),VI (z8t d s c)]) (app emp []):=by
 refine .go Tryz.f30 ?_
 refine .len 2 (fun hl2=> ?_)
 refine .bp [.r [],.r [(2,X (Xc1 48 (x3e d s ({data:=#[]}) (by assumption)) X0))],.r []] ((atE d s ({data:=#[]})) !=0) (fun h2=> ?_) (fun h2=> ?_)
 ·
  have T:=x8F (c:=c) h2
  have e1:((y8k d s c):List EOp)=[]:=by
   exact T.1
  have e2:((z8t d s c):Int)=(atE d s ({data:=#[]})):=by
   exact T.2
  exact .finE [.r [],.le (.nL 6 19)] [] (fun((z0,z1):(List EOp)×Int)=>(.tup [VL 19 z0F z0,VI z1],[])) _ _ (pr e1 e2)
 ·
  refine .bp [.r [(1,X (Xc0 (z03 c) X0))],.r []] ((z1B true c 0) !=0) (fun h5=> ?_) (fun h5=> ?_)
  ·
   have T:=x8G h2 h5
   have e3:((y8k d s c):List EOp)=[]:=by
    exact T.1
   have e4:((z8t d s c):Int)=(z1B true c 0):=by
    exact T.2
   exact .finE [.r [],.le (.nL 6 19)] [] (fun((z0,z1):(List EOp)×Int)=>(.tup [VL 19 z0F z0,VI z1],[])) _ _ (pr e3 e4)
  ·
   have hp:=hx h2
   have T:=x8H h2 h5
   have e5:((y8k d s c):List EOp)=[opF (((atP d s ({data:=#[]})))).node.id (y4I c (z9J (y7P ((atP d s ({data:=#[]}))) s) (((atP d s ({data:=#[]})))).shown (((atP d s ({data:=#[]})))).node.flow.length (((atP d s ({data:=#[]})))).shown.length) (((atP d s ({data:=#[]})))).node.flow.length)]:=by
    exact T.1
   have e6:((z8t d s c):Int)=0:=by
    exact T.2
   exact .finE [.r [(2,X (Xc4 [(0,80),(1,8)] (y79 ((atP d s ({data:=#[]}))) s c (by assumption) (by omega)) X0))]] [] (fun((z0,z1):(List EOp)×Int)=>(.tup [VL 19 z0F z0,VI z1],[])) _ _ (pr e5 e6)
theorem x5Z(p:Pl)(s:Sel)(m:Int)(k:Int)(hb:PlB p):FC Tryz.prog 72 [VI k,.ptr 1 0,.ptr 2 0,.ptr 0 0] (app emp [(0,.box [VI p.node.id,VI p.node.kind,VL 2 z0a p.node.attrs,VL 3 z0c p.node.flow,VI p.node.grid.rows,VI p.node.grid.cols,VL 5 z0k p.node.grid.cells,VL 4 z0t p.node.grid.merges,VL 8 z0R p.node.draw,VL 1 z0B p.shown,VS p.author]),(1,.box [VI s.nd,VI s.fr,VI s.tq]),(2,.box [VI m])]) (VB (y7Q p s m k)) (app emp [(0,.box [VI p.node.id,VI p.node.kind,VL 2 z0a p.node.attrs,VL 3 z0c p.node.flow,VI p.node.grid.rows,VI p.node.grid.cols,VL 5 z0k p.node.grid.cells,VL 4 z0t p.node.grid.merges,VL 8 z0R p.node.draw,VL 1 z0B p.shown,VS p.author]),(1,.box [VI s.nd,VI s.fr,VI s.tq]),(2,.box [VI m])]):=by
 refine .go Tryz.f72 ?_
 have e1:((y7Q p s m k):Bool)=((decide (k>=s.fr)&&decide (k<=m))&&((((z0h p k)).char)==10)):=by
  rfl
 exact .finE [.r [],.r [(7,Xv 2 (decide (k>=s.fr)) X0),(8,X (Xk (decide (k>=s.fr)))),(11,Xv 1 (decide (k>=s.fr)&&decide (k<=m)) (Xc4 [(0,0)] (z4F p k (by assumption)) X0)),(12,Xv 1 (decide (k>=s.fr)&&decide (k<=m)) X0),(13,Xv 1 (decide (k>=s.fr)&&decide (k<=m)) X0),(14,X (Xk (decide (k>=s.fr)&&decide (k<=m))))]] [(0,0),(1,1),(2,2)] (fun z0:Bool=>(VB z0,[(0,.box [VI p.node.id,VI p.node.kind,VL 2 z0a p.node.attrs,VL 3 z0c p.node.flow,VI p.node.grid.rows,VI p.node.grid.cols,VL 5 z0k p.node.grid.cells,VL 4 z0t p.node.grid.merges,VL 8 z0R p.node.draw,VL 1 z0B p.shown,VS p.author]),(1,.box [VI s.nd,VI s.fr,VI s.tq]),(2,.box [VI m])])) _ _ e1
theorem y8a(p:Pl)(s:Sel)(m:Int)(c:List Attr)(hb:PlB p)(hc:c.length<=1048576):FC Tryz.prog 69 [.ptr 0 0,VL 2 z0a c,.fn 72 [.ptr 1 0,.ptr 2 0,.ptr 0 0]] (app emp [(0,.box [VI p.node.id,VI p.node.kind,VL 2 z0a p.node.attrs,VL 3 z0c p.node.flow,VI p.node.grid.rows,VI p.node.grid.cols,VL 5 z0k p.node.grid.cells,VL 4 z0t p.node.grid.merges,VL 8 z0R p.node.draw,VL 1 z0B p.shown,VS p.author]),(1,.box [VI s.nd,VI s.fr,VI s.tq]),(2,.box [VI m])]) (VL 19 z0F [opF p.node.id (y4I c (z9J (y7Q p s m) p.shown p.node.flow.length p.shown.length) p.node.flow.length)]) (app emp [(0,.box [VI p.node.id,VI p.node.kind,VL 2 z0a p.node.attrs,VL 3 z0c p.node.flow,VI p.node.grid.rows,VI p.node.grid.cols,VL 5 z0k p.node.grid.cells,VL 4 z0t p.node.grid.merges,VL 8 z0R p.node.draw,VL 1 z0B p.shown,VS p.author]),(1,.box [VI s.nd,VI s.fr,VI s.tq]),(2,.box [VI m])]):=by
 refine .go Tryz.f69 ?_
 refine .len 1 (fun hl1=> ?_)
 obtain⟨dn,el⟩:=x0c c (z9J (y7Q p s m) p.shown p.node.flow.length p.shown.length) p.node.flow.length hc
 have hbl:=hb.len
 have hbs:=hb.sl
 refine .loop (α:=Nat×(List Bool)) [.r [],.r [(5,X (Xl z0c p.node.flow)),(6,X (Xmk 1 z3R 59 (p.node.flow.length:Int) (p.node.flow.length:Int) false))],.r [(4,X (Xl z0B p.shown))]] 123 (fun(k,f)=>([(0,.ptr 0 0),(1,VL 2 z0a c),(2,.fn 72 [.ptr 1 0,.ptr 2 0,.ptr 0 0]),(7,.row 59 p.node.flow.length),(25,VL 1 z0B p.shown),(26,VI (p.shown.length:Int)),(27,VI (k:Int))],[(0,.box [VI p.node.id,VI p.node.kind,VL 2 z0a p.node.attrs,VL 3 z0c p.node.flow,VI p.node.grid.rows,VI p.node.grid.cols,VL 5 z0k p.node.grid.cells,VL 4 z0t p.node.grid.merges,VL 8 z0R p.node.draw,VL 1 z0B p.shown,VS p.author]),(1,.box [VI s.nd,VI s.fr,VI s.tq]),(2,.box [VI m]),(59,OR 1 z3R f)])) (fun(k,f)=>k<=p.shown.length/\f=z9J (y7Q p s m) p.shown p.node.flow.length k) (fun(k,f)=>p.shown.length-k) (0,(List.replicate p.node.flow.length false)) ?_ ?_
 ·
  exact⟨by omega,rfl⟩
 rintro⟨k,f⟩ I3 ih3
 try dsimp only at I3
 have fl:f.length=p.node.flow.length:=by rw[I3.2,y1w]
 refine .bp [.r []] (decide ((k:Int)< (p.shown.length:Int))) (fun h3=> ?_) (fun h3=> ?_)
 ·
  have hpk:=hb.ok _ (z0j (l:=p.shown) (i:=k) (by omega))
  refine .back [.r [(1,X (Xi z0B p.shown (k:Int)))],.r [(4,X (Xc4 [(0,0),(1,1),(2,2)] (x5Z p s m (k:Int) (by assumption)) X0)),(5,X (Xpn p.node.flow.length z3R f (p.shown.getD k default))),(6,X (Xsn p.node.flow.length 1 z3R 59 f (Int.toNat (p.shown.getD k default)) (y7Q p s m (k:Int))))],.r [(0,X (Xn ((k:Int)+1)))]] [(0,0),(1,1),(2,2),(59,59)] (ih3 ((k+1),(f.set (Int.toNat (p.shown.getD k default)) (y7Q p s m (k:Int)))) ?_ ?_)
  ·
   exact⟨by omega,by rw[I3.2,z9o]⟩
  ·
   ((try dsimp only);omega)
 ·
  have hf2:f=(z9J (y7Q p s m) p.shown p.node.flow.length p.shown.length):=by rw[I3.2,show k=p.shown.length by omega]
  refine .loop (α:=Nat×(List DStep)) [.r [],.r [(5,X (Xl z0c p.node.flow))],.le (.nR 10 4)] 196 (fun(i,o)=>([(0,.ptr 0 0),(1,VL 2 z0a c),(7,.row 59 p.node.flow.length),(10,.row 195 o.length),(44,VI (p.node.flow.length:Int)),(45,VI (i:Int))],[(0,.box [VI p.node.id,VI p.node.kind,VL 2 z0a p.node.attrs,VL 3 z0c p.node.flow,VI p.node.grid.rows,VI p.node.grid.cols,VL 5 z0k p.node.grid.cells,VL 4 z0t p.node.grid.merges,VL 8 z0R p.node.draw,VL 1 z0B p.shown,VS p.author]),(1,.box [VI s.nd,VI s.fr,VI s.tq]),(2,.box [VI m]),(59,OR 1 z3R f),(195,OR 4 z0d o)])) (fun(i,o)=>i<=p.node.flow.length/\o=y4H c f i) (fun(i,o)=>p.node.flow.length-i) (0,[]) ?_ ?_
  ·
   exact⟨by omega,rfl⟩
  rintro⟨i,o⟩ I9 ih9
  try dsimp only at I9
  have ol2:o.length=i:=by rw[I9.2];exact y6t c f i
  refine .bp [.r []] (decide ((i:Int)< (p.node.flow.length:Int))) (fun h9=> ?_) (fun h9=> ?_)
  ·
   refine .bp [.r [],.r [(0,X (Xf [(2,2),(3,3)]))],.r [(2,X (Xpn p.node.flow.length z3R f (i:Int))),(3,X (Xen p.node.flow.length z3R f i))]] (f.getD i default) (fun h12=> ?_) (fun h12=> ?_)
   ·
    refine .back [.r [],.r [(3,X (z0Y z0d [({kind:=0,n:=1,attrs:=c,elems:=[]}:DStep)] (Xap 4 z0d 195 o [({kind:=0,n:=1,attrs:=c,elems:=[]}:DStep)])))],.r [(0,X (Xn ((i:Int)+1)))]] [(0,0),(1,1),(2,2),(59,59),(195,195)] (ih9 ((i+1),(o++[({kind:=0,n:=1,attrs:=c,elems:=[]}:DStep)])) ?_ ?_)
    ·
     exact⟨by omega,by rw[I9.2,z65,x3O h12]⟩
    ·
     ((try dsimp only);omega)
   ·
    refine .back [.r [(3,X (z0Y z0d [({kind:=0,n:=1,attrs:=[],elems:=[]}:DStep)] (Xap 4 z0d 195 o [({kind:=0,n:=1,attrs:=[],elems:=[]}:DStep)])))],.r [(0,X (Xn ((i:Int)+1)))]] [(0,0),(1,1),(2,2),(59,59),(195,195)] (ih9 ((i+1),(o++[({kind:=0,n:=1,attrs:=[],elems:=[]}:DStep)])) ?_ ?_)
    ·
     exact⟨by omega,by rw[I9.2,z65,x3P h12]⟩
    ·
     ((try dsimp only);omega)
  ·
   have ho:o=y4H c (z9J (y7Q p s m) p.shown p.node.flow.length p.shown.length) p.node.flow.length:=by rw[I9.2,show i=p.node.flow.length by omega,hf2]
   rw[<-ho] at dn el
   have e1:([opF p.node.id (y4I c (z9J (y7Q p s m) p.shown p.node.flow.length p.shown.length) p.node.flow.length)]:List EOp)=[({kind:=2,node:=p.node.id,nw:=({id:=0,kind:=0,attrs:=[],flow:=[],grid:=({rows:=0,cols:=0,cells:=[],merges:=[]}:Grid),draw:=[]}:Node),attrs:=[],steps:=(z2Q o),grid:=({rows:=[],cols:=[],cells:=[],split:=[],merge:=[]}:GEd),draw:=[]}:EOp)]:=by
    rw[ho];rfl
   exact .finE [.r [(1,X (Xc1 212 (z8A o (by assumption) (by omega) (by omega)) (z0Y z0d o X0)))],.r [(6,X (Xf [(4,2),(5,3),(8,5),(9,4),(10,8),(11,2),(13,2),(14,2),(15,5),(16,4),(17,4),(18,8)]))],.le (.fr 6 [(1:Nat)=(List.map z0F [({kind:=2,node:=p.node.id,nw:=({id:=0,kind:=0,attrs:=[],flow:=[],grid:=({rows:=0,cols:=0,cells:=[],merges:=[]}:Grid),draw:=[]}:Node),attrs:=[],steps:=(z2Q o),grid:=({rows:=[],cols:=[],cells:=[],split:=[],merge:=[]}:GEd),draw:=[]}:EOp)]).length] ⟨lm,trivial⟩)] [(0,0),(1,1),(2,2)] (fun z0:List EOp=>(VL 19 z0F z0,[(0,.box [VI p.node.id,VI p.node.kind,VL 2 z0a p.node.attrs,VL 3 z0c p.node.flow,VI p.node.grid.rows,VI p.node.grid.cols,VL 5 z0k p.node.grid.cells,VL 4 z0t p.node.grid.merges,VL 8 z0R p.node.draw,VL 1 z0B p.shown,VS p.author]),(1,.box [VI s.nd,VI s.fr,VI s.tq]),(2,.box [VI m])])) _ _ e1
theorem y8b(d:Doc)(s:Sel)(c:List Attr)(hb:DocL d)(hc:c.length<=1048576)(hx:atE d s {data:=#[]}=0->PlB (atP d s {data:=#[]})/\0<=s.fr/\s.fr<=s.tq/\s.tq<=1000000000):FC Tryz.prog 31 [.t (z20 d),.t (z5f s),VL 2 z0a c] (app emp []) (.tup [VL 19 z0F (y8l d s c),VI (z8t d s c)]) (app emp []):=by
 refine .go Tryz.f31 ?_
 refine .len 2 (fun hl2=> ?_)
 refine .bp [.r [],.r [(2,X (Xc1 48 (x3e d s ({data:=#[]}) (by assumption)) X0))],.r []] ((atE d s ({data:=#[]})) !=0) (fun h2=> ?_) (fun h2=> ?_)
 ·
  have T:=x8I (c:=c) h2
  have e1:((y8l d s c):List EOp)=[]:=by
   exact T.1
  have e2:((z8t d s c):Int)=(atE d s ({data:=#[]})):=by
   exact T.2
  exact .finE [.r [],.le (.nL 6 19)] [] (fun((z0,z1):(List EOp)×Int)=>(.tup [VL 19 z0F z0,VI z1],[])) _ _ (pr e1 e2)
 ·
  refine .bp [.r [(1,X (Xc0 (z03 c) X0))],.r []] ((z1B true c 0) !=0) (fun h5=> ?_) (fun h5=> ?_)
  ·
   have T:=x8J h2 h5
   have e3:((y8l d s c):List EOp)=[]:=by
    exact T.1
   have e4:((z8t d s c):Int)=(z1B true c 0):=by
    exact T.2
   exact .finE [.r [],.le (.nL 6 19)] [] (fun((z0,z1):(List EOp)×Int)=>(.tup [VL 19 z0F z0,VI z1],[])) _ _ (pr e3 e4)
  ·
   obtain⟨hp,q1,q2,q3⟩:=hx h2
   have hps:=hp.sl
   refine .loop (α:=Int) [.r [(4,X (Xn (s.tq- 1))),(5,X (x7W s.fr (s.tq- 1)))]] 224 (fun o208c0=>([(2,VL 2 z0a c),(4,.ptr 8 0),(8,.ptr 80 0),(11,.ptr 208 0)],[(8,.box [VI s.nd,VI s.fr,VI s.tq]),(80,.box [VI ((((atP d s ({data:=#[]}))).node).id),VI ((((atP d s ({data:=#[]}))).node).kind),VL 2 z0a ((((atP d s ({data:=#[]}))).node).attrs),VL 3 z0c ((((atP d s ({data:=#[]}))).node).flow),VI (((((atP d s ({data:=#[]}))).node).grid).rows),VI (((((atP d s ({data:=#[]}))).node).grid).cols),VL 5 z0k (((((atP d s ({data:=#[]}))).node).grid).cells),VL 4 z0t (((((atP d s ({data:=#[]}))).node).grid).merges),VL 8 z0R ((((atP d s ({data:=#[]}))).node).draw),VL 1 z0B (((atP d s ({data:=#[]}))).shown),VS (((atP d s ({data:=#[]}))).author)]),(208,.box [VI o208c0])])) (fun o208c0=>y3l (atP d s {data:=#[]}) (max s.fr (s.tq- 1)).toNat=y3l (atP d s {data:=#[]}) o208c0.toNat/\0<=o208c0/\o208c0<=s.tq+(atP d s {data:=#[]}).shown.length) (fun o208c0=>(atP d s {data:=#[]}).shown.length-o208c0.toNat) ((max s.fr (s.tq- 1)):Int) ?_ ?_
   ·
    exact⟨rfl,by omega,by omega⟩
   rintro o208c0 I8 ih8
   try dsimp only at I8
   refine .bp [.r [(1,X (Xc4 [(0,80)] (z4F ((atP d s ({data:=#[]}))) o208c0 (by assumption)) X0))]] ((((z0h ((atP d s ({data:=#[]}))) o208c0)).char) !=10) (fun h8=> ?_) (fun h8=> ?_)
   ·
    obtain⟨g1,g2⟩:=x2H I8.2.1 h8
    refine .back [.r [(1,X (Xn (o208c0+1)))]] [(8,8),(80,80),(208,208)] (ih8 ((o208c0+1):Int) ?_ ?_)
    ·
     exact⟨I8.1.trans g2,by omega,by omega⟩
    ·
     ((try dsimp only);omega)
   ·
    have g3:=x2I I8.2.1 h8
    have T:=x8K h2 h5 (show((y3l (atP d s {data:=#[]}) (max s.fr (s.tq- 1)).toNat:Nat):Int)=o208c0 by rw[I8.1,g3];omega)
    have e5:((y8l d s c):List EOp)=[opF (((atP d s ({data:=#[]})))).node.id (y4I c (z9J (y7Q ((atP d s ({data:=#[]}))) s o208c0) (((atP d s ({data:=#[]})))).shown (((atP d s ({data:=#[]})))).node.flow.length (((atP d s ({data:=#[]})))).shown.length) (((atP d s ({data:=#[]})))).node.flow.length)]:=by
     exact T.1
    have e6:((z8t d s c):Int)=0:=by
     exact T.2
    exact .finE [.r [(2,X (Xc4 [(0,80),(1,8),(2,208)] (y8a ((atP d s ({data:=#[]}))) s o208c0 c (by assumption) (by omega)) X0))]] [] (fun((z0,z1):(List EOp)×Int)=>(.tup [VL 19 z0F z0,VI z1],[])) _ _ (pr e5 e6)
theorem z0L(x lo hi:Int)(hl: -1000000000000<=lo/\lo<=hi/\hi<=1000000000000):FC Tryz.prog 27 [VI x,VI lo,VI hi] (app emp []) (VI (z0e x lo hi)) (app emp []):=by
 refine .go Tryz.f27 ?_
 have e1:((z0e x lo hi):Int)=(lo+(((x.tmod ((hi-lo)+1))+((hi-lo)+1)).tmod ((hi-lo)+1))):=by
  rfl
 exact .finE [.r [],.r [(2,X (Xn (hi-lo))),(3,X (Xn ((hi-lo)+1)))],.r [(3,X (Xc ((((hi-lo)+1):Int)≠0))),(5,X (Xn ((x.tmod ((hi-lo)+1))+((hi-lo)+1))) (by have h1:=x0j x (n:=hi-lo+1) (by omega);omega)),(7,X (Xc ((((hi-lo)+1):Int)≠0))),(8,X (Xn (lo+(((x.tmod ((hi-lo)+1))+((hi-lo)+1)).tmod ((hi-lo)+1)))) (by have h1:=z0w x (lo:=lo) (hi:=hi) (by omega);unfold z0e at h1;omega))]] [] (fun z0:Int=>(VI z0,[])) _ _ e1
theorem x50(l:List Attr)(n:ByteArray):FC Tryz.prog 61 [VL 2 z0a l,VS n] (app emp []) (VS (z19 l n 0)) (app emp []):=by
 refine .go Tryz.f61 ?_
 refine .len 0 (fun hl0=> ?_)
 refine .loop (α:=Nat) [.r [],.r [(1,X (Xl z0a l))]] 32 (fun i=>([(0,VL 2 z0a l),(1,VS n),(7,VI (l.length:Int)),(8,VI (i:Int))],[])) (fun i=>i<=l.length/\z19 l n 0=z19 l n i) (fun i=>l.length-i) (0:Nat) ?_ ?_
 ·
  exact⟨by omega,rfl⟩
 rintro i I2 ih2
 try dsimp only at I2
 refine .bp [.r []] (decide ((i:Int)< (l.length:Int))) (fun h2=> ?_) (fun h2=> ?_)
 ·
  refine .bp [.r [],.r [(2,X (Xi z0a l (i:Int)))]] (seq (((l.getD i default)).name) n) (fun h4=> ?_) (fun h4=> ?_)
  ·
   have e1:((z19 l n 0):ByteArray)=((l.getD i default)).val:=by
    rw[I2.2,z19,if_pos (by omega),if_pos (z0M.1 h4)]
   exact .finE [.r [(2,X (Xi z0a l (i:Int)))]] [] (fun z0:ByteArray=>(VS z0,[])) _ _ e1
  ·
   refine .back [.r [(0,X (Xn ((i:Int)+1)))]] [] (ih2 ((i+1):Nat) ?_ ?_)
   ·
    refine⟨by omega,?_⟩;rw[I2.2,z19,if_pos (by omega),if_neg (z1V.1 h4)]
   ·
    ((try dsimp only);omega)
 ·
  have e2:((z19 l n 0):ByteArray)={data:=#[]}:=by
   rw[I2.2,z19,if_neg (by omega)]
  exact .finE [.r []] [] (fun z0:ByteArray=>(VS z0,[])) _ _ e2
theorem x4c(l:List Attr)(n:ByteArray):FC Tryz.prog 62 [VL 2 z0a l,VS n] (app emp []) (VB (y4G l n)) (app emp []):=by
 refine .go Tryz.f62 ?_
 refine .len 0 (fun hl0=> ?_)
 refine .loop (α:=Nat) [.r [],.r [(1,X (Xl z0a l))]] 32 (fun i=>([(0,VL 2 z0a l),(1,VS n),(7,VI (l.length:Int)),(8,VI (i:Int))],[])) (fun i=>i<=l.length/\y4G l n=y4G (l.drop i) n) (fun i=>l.length-i) (0:Nat) ?_ ?_
 ·
  exact⟨by omega,rfl⟩
 rintro i I2 ih2
 try dsimp only at I2
 refine .bp [.r []] (decide ((i:Int)< (l.length:Int))) (fun h2=> ?_) (fun h2=> ?_)
 ·
  have hs:=x48 (l:=l) (i:=i) (by omega) n
  refine .bp [.r [],.r [(2,X (Xi z0a l (i:Int)))]] (seq (((l.getD i default)).name) n) (fun h4=> ?_) (fun h4=> ?_)
  ·
   have e1:((y4G l n):Bool)=true:=by
    first| (rw[I2.2,hs,h4,Bool.true_or])| (rw[I2.2,qM (by omega)];rfl)
   exact .finE [.r []] [] (fun z0:Bool=>(VB z0,[])) _ _ e1
  ·
   refine .back [.r [(0,X (Xn ((i:Int)+1)))]] [] (ih2 ((i+1):Nat) ?_ ?_)
   ·
    refine⟨by omega,?_⟩
    rw[I2.2,hs,h4,Bool.false_or]
   ·
    ((try dsimp only);omega)
 ·
  have e2:((y4G l n):Bool)=false:=by
   first| (rw[I2.2,hs,h4,Bool.true_or])| (rw[I2.2,qM (by omega)];rfl)
  exact .finE [.r []] [] (fun z0:Bool=>(VB z0,[])) _ _ e2
theorem x1b(f:List Elem)(hn:f.length<=1048576):FC Tryz.prog 26 [VL 3 z0c f,VI 0] (app emp []) (VL 1 z0B (y7U f f.length)) (app emp []):=by
 refine .go Tryz.f26 ?_
 refine .len 0 (fun hl0=> ?_)
 refine .loop (α:=Nat×(List Int)) [.r [],.r [],.r [(1,X (Xl z0c f))],.le (.nR 5 1)] 41 (fun(i,o)=>([(0,VL 3 z0c f),(1,VI 0),(5,.row 40 o.length),(10,VI (f.length:Int)),(11,VI (i:Int))],[(40,OR 1 z0B o)])) (fun(i,o)=>i<=f.length/\o=y7U f i) (fun(i,o)=>f.length-i) (0,[]) ?_ ?_
 ·
  exact⟨by omega,rfl⟩
 rintro⟨i,o⟩ I3 ih3
 try dsimp only at I3
 have ol:o.length<=i:=by rw[I3.2];exact y1B f i
 refine .bp [.r []] (decide ((i:Int)< (f.length:Int))) (fun h3=> ?_) (fun h3=> ?_)
 ·
  refine .bp [.r [],.r [(2,X (Xi z0c f (i:Int)))],.r [(1,X (Xc0 (x50 (((f.getD i default)).attrs) ({data:=#[104,105,100,100,101,110]})) X0))],.r [(4,Xv 1 true (Xc0 (x4c (((f.getD i default)).attrs) ({data:=#[99,117,116]})) X0)),(5,X (Xk true)),(8,Xv 1 (!(true&&(y4G (((f.getD i default)).attrs) ({data:=#[99,117,116]})))) X0),(9,Xv 1 (!(true&&(y4G (((f.getD i default)).attrs) ({data:=#[99,117,116]})))) X0),(11,Xv 1 ((!(true&&(y4G (((f.getD i default)).attrs) ({data:=#[99,117,116]}))))&&false) (Xc0 (x4c (((f.getD i default)).attrs) ({data:=#[97,100,100]})) X0)),(12,Xka (!(true&&(y4G (((f.getD i default)).attrs) ({data:=#[99,117,116]})))) false),(13,X (Xk' (true&&(y4G (((f.getD i default)).attrs) ({data:=#[99,117,116]})))))]] ((true&&(y4G (((f.getD i default)).attrs) ({data:=#[99,117,116]})))|| (false&&(y4G (((f.getD i default)).attrs) ({data:=#[97,100,100]})))) (fun h7=> ?_) (fun h7=> ?_)
  ·
   refine .bp [.r [],.r [(4,Xv 1 (!false) (Xl z0c f)),(5,Xv 1 (!false) (Xn ((f.length:Int)- 1))),(6,Xv 2 (!false) X0),(7,Xv 1 (!false) X0),(10,Xv 2 ((!false)&&((i:Int)==((f.length:Int)- 1))) (Xi z0c f (i:Int))),(11,Xv 1 ((!false)&&((i:Int)==((f.length:Int)- 1))) X0),(12,Xv 1 ((!false)&&((i:Int)==((f.length:Int)- 1))) X0),(13,Xv 1 ((!false)&&((i:Int)==((f.length:Int)- 1))) X0),(14,Xka (!false) ((i:Int)==((f.length:Int)- 1))),(15,X (Xk' false))]] (false|| (((i:Int)==((f.length:Int)- 1))&&((((f.getD i default)).char)==10))) (fun h9=> ?_) (fun h9=> ?_)
   ·
    refine .back [.r [(3,X (z0Y z0B [(i:Int)] (Xap 1 z0B 40 o [(i:Int)])))],.r [(0,X (Xn ((i:Int)+1)))]] [(40,40)] (ih3 ((i+1),(o++[(i:Int)])) ?_ ?_)
    ·
     refine⟨by omega,?_⟩
     rw[I3.2,z66]
     simp[-List.getD_eq_getElem?_getD] at h7 h9
     unfold x5o z9I x6i onB
     simp_all[-List.getD_eq_getElem?_getD]
     all_goals omega
    ·
     ((try dsimp only);omega)
   ·
    refine .back [.r [(0,X (Xn ((i:Int)+1)))]] [(40,40)] (ih3 ((i+1),o) ?_ ?_)
    ·
     refine⟨by omega,?_⟩
     rw[I3.2,z66]
     simp[-List.getD_eq_getElem?_getD] at h7 h9
     unfold x5o z9I x6i onB
     simp_all[-List.getD_eq_getElem?_getD]
     all_goals omega
    ·
     ((try dsimp only);omega)
  ·
   refine .bp [.r [(4,Xv 1 (!(!(seq (z19 (((f.getD i default)).attrs) ({data:=#[104,105,100,100,101,110]}) 0) ({data:=#[111,110]})))) (Xl z0c f)),(5,Xv 1 (!(!(seq (z19 (((f.getD i default)).attrs) ({data:=#[104,105,100,100,101,110]}) 0) ({data:=#[111,110]})))) (Xn ((f.length:Int)- 1))),(6,Xv 2 (!(!(seq (z19 (((f.getD i default)).attrs) ({data:=#[104,105,100,100,101,110]}) 0) ({data:=#[111,110]})))) X0),(7,Xv 1 (!(!(seq (z19 (((f.getD i default)).attrs) ({data:=#[104,105,100,100,101,110]}) 0) ({data:=#[111,110]})))) X0),(10,Xv 2 ((!(!(seq (z19 (((f.getD i default)).attrs) ({data:=#[104,105,100,100,101,110]}) 0) ({data:=#[111,110]}))))&&((i:Int)==((f.length:Int)- 1))) (Xi z0c f (i:Int))),(11,Xv 1 ((!(!(seq (z19 (((f.getD i default)).attrs) ({data:=#[104,105,100,100,101,110]}) 0) ({data:=#[111,110]}))))&&((i:Int)==((f.length:Int)- 1))) X0),(12,Xv 1 ((!(!(seq (z19 (((f.getD i default)).attrs) ({data:=#[104,105,100,100,101,110]}) 0) ({data:=#[111,110]}))))&&((i:Int)==((f.length:Int)- 1))) X0),(13,Xv 1 ((!(!(seq (z19 (((f.getD i default)).attrs) ({data:=#[104,105,100,100,101,110]}) 0) ({data:=#[111,110]}))))&&((i:Int)==((f.length:Int)- 1))) X0),(14,Xka (!(!(seq (z19 (((f.getD i default)).attrs) ({data:=#[104,105,100,100,101,110]}) 0) ({data:=#[111,110]})))) ((i:Int)==((f.length:Int)- 1))),(15,X (Xk' (!(seq (z19 (((f.getD i default)).attrs) ({data:=#[104,105,100,100,101,110]}) 0) ({data:=#[111,110]})))))]] (!(seq (z19 (((f.getD i default)).attrs) ({data:=#[104,105,100,100,101,110]}) 0) ({data:=#[111,110]}))|| (((i:Int)==((f.length:Int)- 1))&&((((f.getD i default)).char)==10))) (fun h9=> ?_) (fun h9=> ?_)
   ·
    refine .back [.r [(3,X (z0Y z0B [(i:Int)] (Xap 1 z0B 40 o [(i:Int)])))],.r [(0,X (Xn ((i:Int)+1)))]] [(40,40)] (ih3 ((i+1),(o++[(i:Int)])) ?_ ?_)
    ·
     refine⟨by omega,?_⟩
     rw[I3.2,z66]
     simp[-List.getD_eq_getElem?_getD] at h7 h9
     unfold x5o z9I x6i onB
     simp_all[-List.getD_eq_getElem?_getD]
     all_goals omega
    ·
     ((try dsimp only);omega)
   ·
    refine .back [.r [(0,X (Xn ((i:Int)+1)))]] [(40,40)] (ih3 ((i+1),o) ?_ ?_)
    ·
     refine⟨by omega,?_⟩
     rw[I3.2,z66]
     simp[-List.getD_eq_getElem?_getD] at h7 h9
     unfold x5o z9I x6i onB
     simp_all[-List.getD_eq_getElem?_getD]
     all_goals omega
    ·
     ((try dsimp only);omega)
 ·
  have e1:((y7U f f.length):List Int)=o:=by
   rw[I3.2,show i=f.length by omega]
  exact .finE [.r [],.le (.fr 4 [(o.length:Nat)=(List.map z0B o).length] ⟨lm,trivial⟩)] [] (fun z0:List Int=>(VL 1 z0B z0,[])) _ _ e1
theorem x1c(d:Doc)(k:Int)(hb:DocL d):FC Tryz.prog 25 [.t (z20 d),VI k] (app emp []) (.tup [.t (z0i (z1L d k)),VB (y1C d k)]) (app emp []):=by
 refine .go Tryz.f25 ?_
 have hl:=hb.len
 refine .loop (α:=Nat) [.r [],.r [(2,X (Xl z0i d.nodes))]] 56 (fun i=>([(1,VI k),(4,.ptr 8 0),(9,VL 9 z0i d.nodes),(10,VI (d.nodes.length:Int)),(11,VI (i:Int))],[(8,.box [VI 0,VI 0,VN,VN,VI 0,VI 0,VN,VN,VN])])) (fun i=>i<=d.nodes.length/\z2h d.nodes k 0=z2h d.nodes k i) (fun i=>d.nodes.length-i) (0:Nat) ?_ ?_
 ·
  exact⟨by omega,rfl⟩
 rintro i I2 ih2
 try dsimp only at I2
 refine .bp [.r []] (decide ((i:Int)< (d.nodes.length:Int))) (fun h2=> ?_) (fun h2=> ?_)
 ·
  have hx:=hb.all _ (z4d (l:=d.nodes) (i:=i) (by omega))
  refine .bp [.r [(0,X (Xi z0i d.nodes (i:Int)))],.r []] ((((d.nodes.getD i default)).id)==k) (fun h4=> ?_) (fun h4=> ?_)
  ·
   have T:=x5p (I2.2.trans (by rw[z2h,if_pos (by omega),if_pos (by omega)]))
   have e1:((z1L d k):Node)=(((d.nodes.getD i default))):=by
    exact T.1
   have e2:((y1C d k):Bool)=true:=by
    exact T.2
   exact .finVE [.r [(1,X (Xc1 136 (z6Z ((d.nodes.getD i default)) (by assumption)) X0))]] [] [] (fun((z0,z1):Node×Bool)=>(.tup [.t (z0i z0),VB z1],[])) _ _ (pr e1 e2)
  ·
   refine .back [.r [(0,X (Xn ((i:Int)+1)))]] [(8,8)] (ih2 ((i+1):Nat) ?_ ?_)
   ·
    exact⟨by omega,by rw[I2.2,z2h,if_pos (by omega),if_neg (by omega)]⟩
   ·
    ((try dsimp only);omega)
 ·
  have T:=x5q (I2.2.trans (by rw[z2h,if_neg (by omega)]))
  have e3:((z1L d k):Node)=({id:=0,kind:=0,attrs:=[],flow:=[],grid:=({rows:=0,cols:=0,cells:=[],merges:=[]}:Grid),draw:=[]}:Node):=by
   exact T.1
  have e4:((y1C d k):Bool)=false:=by
   exact T.2
  exact .finVE [.r [(0,X (Xf [(2,2),(3,3),(6,5),(7,4),(8,8)]))]] [] [] (fun((z0,z1):Node×Bool)=>(.tup [.t (z0i z0),VB z1],[])) _ _ (pr e3 e4)
theorem x3f(n:Node)(hn:n.draw.length<=1048576):FC Tryz.prog 38 [.t (z0i n)] (app emp []) (VI (z6h n)) (app emp []):=by
 refine .go Tryz.f38 ?_
 refine .bp [.r [],.r [(2,X (Xl z0R n.draw))],.r []] (decide ((n.draw.length:Int)> 0)) (fun h2=> ?_) (fun h2=> ?_)
 ·
  have e1:((z6h n):Int)=((n.draw.getD (n.draw.length- 1) default)).clock:=by
   unfold z6h;rw[if_pos (by omega)]
  exact .finE [.r [(3,X (Xn ((n.draw.length:Int)- 1))),(4,X (Xi' z0R n.draw ((n.draw.length:Int)- 1) (n.draw.length- 1)))]] [] (fun z0:Int=>(VI z0,[])) _ _ e1
 ·
  have e2:((z6h n):Int)=0:=by
   unfold z6h;rw[if_neg (by omega)]
  exact .finE [.r []] [] (fun z0:Int=>(VI z0,[])) _ _ e2
theorem z9E(d:Doc)(k:Int)(ks:List Int)(hd:d.nodes.length<=1048576)(hk:ks.length<=16):FC Tryz.prog 24 [.t (z20 d),VI k,VL 1 z0B ks] (app emp []) (VI (z2d d k ks)) (app emp []):=by
 refine .go Tryz.f24 ?_
 refine .len 2 (fun hl2=> ?_)
 refine .loop (α:=Nat×(List Int)) [.r [],.r [],.r [(2,X (Xl z0i d.nodes))],.le (.nR 7 1)] 57 (fun(i,o)=>([(1,VI k),(2,VL 1 z0B ks),(7,.row 56 o.length),(13,VL 9 z0i d.nodes),(14,VI (d.nodes.length:Int)),(15,VI (i:Int))],[(56,OR 1 z0B o)])) (fun(i,o)=>i<=d.nodes.length/\o=z7y (d.nodes.take i) ks) (fun(i,o)=>d.nodes.length-i) (0,[]) ?_ ?_
 ·
  exact⟨by omega,rfl⟩
 rintro⟨i,o⟩ I3 ih3
 try dsimp only at I3
 have ol:=x0l (d.nodes.take i) ks
 rw[<-I3.2] at ol
 have ob:o.length<=1048576*16:=qP ol (Nat.mul_le_mul (by(rw[qB];omega)) hk)
 refine .bp [.r []] (decide ((i:Int)< (d.nodes.length:Int))) (fun h3=> ?_) (fun h3=> ?_)
 ·
  refine .loop (α:=Nat×(List Int)) [.r [(0,X (Xi z0i d.nodes (i:Int)))],.r [(1,X (Xl z0B ks))]] 121 (fun(j,q)=>([(1,VI k),(2,VL 1 z0B ks),(7,.row 56 q.length),(9,.ptr 81 0),(13,VL 9 z0i d.nodes),(14,VI (d.nodes.length:Int)),(15,VI (i:Int)),(19,VL 1 z0B ks),(20,VI (ks.length:Int)),(21,VI (j:Int))],[(56,OR 1 z0B q),(81,.box [VI (((d.nodes.getD i default)).id),VI (((d.nodes.getD i default)).kind),VL 2 z0a (((d.nodes.getD i default)).attrs),VL 3 z0c (((d.nodes.getD i default)).flow),VI ((((d.nodes.getD i default)).grid).rows),VI ((((d.nodes.getD i default)).grid).cols),VL 5 z0k ((((d.nodes.getD i default)).grid).cells),VL 4 z0t ((((d.nodes.getD i default)).grid).merges),VL 8 z0R (((d.nodes.getD i default)).draw)])])) (fun(j,q)=>j<=ks.length/\q=z7y (d.nodes.take i) ks++z7j (d.nodes.getD i default) (ks.take j)) (fun(j,q)=>ks.length-j) (0,o) ?_ ?_
  ·
   exact⟨by omega,by rw[I3.2];simp[z7j]⟩
  rintro⟨j,q⟩ I6 ih6
  try dsimp only at I6
  have ql:=y3n (d.nodes.getD i default) (ks.take j)
  have qo:=congrArg List.length I6.2
  rw[qf,<-I3.2] at qo
  rw[qB] at ql
  refine .bp [.r []] (decide ((j:Int)< (ks.length:Int))) (fun h6=> ?_) (fun h6=> ?_)
  ·
   refine .bp [.r [(0,X (Xi z0B ks (j:Int)))],.r []] ((((d.nodes.getD i default)).kind)==(ks.getD j default)) (fun h8=> ?_) (fun h8=> ?_)
   ·
    refine .back [.r [(4,X (z0Y z0B [((d.nodes.getD i default)).id] (Xap 1 z0B 56 q [((d.nodes.getD i default)).id])))],.r [(0,X (Xn ((j:Int)+1)))]] [(56,56),(81,81)] (ih6 ((j+1),(q++[((d.nodes.getD i default)).id])) ?_ ?_)
    ·
     refine⟨by omega,?_⟩
     rw[I6.2,y0r (by omega)]
     first|rw[if_pos h8,qO]|rw[if_neg h8,qQ]
    ·
     ((try dsimp only);omega)
   ·
    refine .back [.r [(0,X (Xn ((j:Int)+1)))]] [(56,56),(81,81)] (ih6 ((j+1),q) ?_ ?_)
    ·
     refine⟨by omega,?_⟩
     rw[I6.2,y0r (by omega)]
     first|rw[if_pos h8,qO]|rw[if_neg h8,qQ]
    ·
     ((try dsimp only);omega)
  ·
   refine .back [.r [(0,X (Xn ((i:Int)+1)))]] [(56,56)] (ih3 ((i+1),q) ?_ ?_)
   ·
    refine⟨by omega,?_⟩
    rw[I6.2,show ks.take j=ks from qp (by omega),y7V (by omega)]
   ·
    ((try dsimp only);omega)
 ·
  have ho:o=z7y d.nodes ks:=by rw[I3.2,qp (by omega)]
  refine .bp [.r []] ((o.length:Int)==0) (fun h12=> ?_) (fun h12=> ?_)
  ·
   have e1:((z2d d k ks):Int)=0:=by
    unfold z2d;rw[<-ho,if_pos (by omega)]
   exact .finE [.r []] [] (fun z0:Int=>(VI z0,[])) _ _ e1
  ·
   have hw:=z0w k (lo:=0) (hi:=(o.length:Int)- 1) (by omega)
   have e2:((z2d d k ks):Int)=(o.getD (Int.toNat (z0e k 0 ((o.length:Int)- 1))) default):=by
    unfold z2d;rw[<-ho,if_neg (by omega)]
   exact .finE [.r [(4,X (Xn ((o.length:Int)- 1))),(5,X (Xc0 (z0L k 0 ((o.length:Int)- 1) (by omega)) X0)),(6,X (Xp z0B o (z0e k 0 ((o.length:Int)- 1)))),(7,X (Xe z0B o (Int.toNat (z0e k 0 ((o.length:Int)- 1)))))]] [] (fun z0:Int=>(VI z0,[])) _ _ e2
theorem x1d(s:ByteArray)(h:0<s.size/\byt s 0<128):FC Tryz.prog 123 [VS s] (app emp []) (.tup [.t (.sc (.int .i32 (byt s 0:Int))),VI 1]) (app emp []):=by
 refine .go Tryz.f123 ?_
 have hz:seq s {data:=#[]}=false:=by rw[z4J,decide_eq_false (by omega)]
 have h2:=h.2
 unfold byt at h2
 refine .bp [.r [],.r [(4,Xv 1 (!(seq s ({data:=#[]}))) (Xb s 0)),(5,Xv 1 (!(seq s ({data:=#[]}))) X0),(6,X (Xk (!(seq s ({data:=#[]})))))]] (!(seq s ({data:=#[]}))&&decide (((((s[0]?).getD 0).toNat:Nat):Int)< 128)) (fun h1=> ?_) (fun h1=> ?_)
 ·
  have e1:((byt s 0:Int):Int)=((((s[0]?).getD 0).toNat:Nat):Int):=by
   rfl
  exact .finE [.r [(1,X (Xb s 0)),(2,X (Xcv IntKind.i32 ((((s[0]?).getD 0).toNat:Nat):Int)) (x12 (by omega)))]] [] (fun z0:Int=>(.tup [.t (.sc (.int .i32 z0)),VI 1],[])) _ _ e1
 ·
  exfalso
  rcases h1 with q|q;(rw[hz] at q;cases q);omega
theorem x1e(s:ByteArray)(l:List Attr)(hs:y8o s)(hl:z1B false l 0=0)(hn:s.size<=1000000000)(hk:l.length<=1000000000):FC Tryz.prog 64 [VS s,VL 2 z0a l] (app emp []) (.tup [.row 0 ((x0h s l s.size).length),VI 0]) (app emp [(0,OR 3 z0c (x0h s l s.size))]):=by
 refine .go Tryz.f64 ?_
 refine .len 1 (fun hl1=> ?_)
 refine .bp [.r [],.r [(1,X (Xc0 (z39 l) X0))],.r []] ((z1B false l 0) !=0) (fun h2=> ?_) (fun h2=> ?_)
 ·
  exfalso
  omega
 ·
  refine .loop (α:=ByteArray×(List Elem)) [.r [],.le (.nR 7 3)] 65 (fun(u,o)=>([(0,VS u),(1,VL 2 z0a l),(7,.row 64 o.length)],[(64,OR 3 z0c o)])) (fun(u,o)=>o.length<=s.size/\u=s.extract o.length s.size/\o=x0h s l o.length) (fun(u,o)=>s.size-o.length) (s,[]) ?_ ?_
  ·
   exact⟨by simp,(x5m s).symm,rfl⟩
  rintro⟨u,o⟩ I5 ih5
  try dsimp only at I5
  have us:u.size=s.size-o.length:=by rw[I5.2.1,y1A]
  refine .bp [.r []] (!(seq u ({data:=#[]}))) (fun h5=> ?_) (fun h5=> ?_)
  ·
   rw[z4J,decide_eq_false_iff_not] at h5
   have hb:=hs o.length (by omega)
   have hu:byt u 0=byt s o.length:=by rw[I5.2.1,x5k (by omega)]
   have h0:0<u.size/\byt u 0<128:=⟨by omega,by omega⟩
   refine .bp [.r [(1,X (Xc0 (x1d u (by assumption)) X0))],.r [(4,Xv 1 ((byt u 0:Int)==65533) X0),(5,X (Xk ((byt u 0:Int)==65533)))]] (((byt u 0:Int)==65533)||false) (fun h7=> ?_) (fun h7=> ?_)
   ·
    exfalso
    rcases h7 with q|q
    ·omega
    ·cases q
   ·
    refine .bp [.r [(1,X (Xn (byt u 0:Int))),(2,X (Xc0 (y9p (byt u 0:Int)) X0))]] (!(decide (z4v (byt u 0:Int)))) (fun h9=> ?_) (fun h9=> ?_)
    ·
     exfalso
     unfold z4v at h9;omega
    ·
     refine .back [.r [(2,X (Xn (byt u 0:Int))),(4,X (Xan z0a 249 l)),(6,X (z0Y z0a l X0)),(7,X (z0Y z0c [({char:=(byt u 0:Int),ref:=0,attrs:=l}:Elem)] (Xap 3 z0c 64 o [({char:=(byt u 0:Int),ref:=0,attrs:=l}:Elem)])))],.r [(2,X (Xa (Xc ((0:Int)<=1)) (Xa (Xc ((1:Int)<=(u.size:Int))) (Xc (((u.size:Int):Int)<=(u.size:Int))))))]] [(64,64)] (ih5 ((u.extract ((1:Int)).toNat (((u.size:Int):Int)).toNat),(o++[({char:=(byt u 0:Int),ref:=0,attrs:=l}:Elem)])) ?_ ?_)
     ·
      simp only[qf,qi,zg]
      refine⟨by omega,?_,?_⟩
      ·show u.extract 1 u.size=_
       rw[I5.2.1];exact x5l
      ·rw[zo,x0i,<-I5.2.2,hu]
     ·
      simp only[qf,qi,zg];omega
  ·
   rw[z4J,decide_eq_true_eq] at h5
   have hfin:x0h s l s.size=o:=by rw[show s.size=o.length by omega];exact I5.2.2.symm
   have e1:((x0h s l s.size):List Elem)=o:=by
    rw[hfin]
   have e2:((x0h s l s.size).length:Nat)=o.length:=by
    rw[hfin]
   exact .finE [.r []] [(64,0)] (fun((z0,z1):(List Elem)×Nat)=>(.tup [.row 0 z1,VI 0],[(0,OR 3 z0c z0)])) _ _ (pr e1 e2)
theorem x7s(t:ByteArray)(h:y8o t)(hn:t.size<=1000000):x9A t (z6g t):=fun l h1 h2=>by
 have h:=x1e t l h h1 (by omega) (by omega)
 rw[x2O] at h
 exact h
theorem x3g(d:Doc)(s:Sel)(au:ByteArray)(hb:DocL d)(hx:atE d s au=0->TypB d s (z6g {data:=#[]}) au):FC Tryz.prog 29 [.t (z20 d),.t (z5f s),VS au] (app emp []) (.tup [VL 19 z0F (z3r d s (z6g {data:=#[]}) au),.t (z5f (z9n d s (z6g {data:=#[]}) au)),VI (atE d s au)]) (app emp []):=by
 refine .go Tryz.f29 ?_
 have hof:=x7s {data:=#[]} y6y (by decide)
 have ht:({data:=#[]}:ByteArray).size<=20000:=by decide
 have e1:((z9n d s (z6g {data:=#[]}) au):Sel)=((z9n d s (z6g {data:=#[]}) au)):=by
  (first|omega|with_reducible exact fun h=>h| (intro hq;rw[hq];done)| (intro hq;rw[hq];rfl)| (simp only[qk];done)| (simp only[qk];omega)| (simp;omega)| (simp;done))
 exact .finVE [.r [],.r [(3,X (Xc1 64 (x08 d s ({data:=#[]}) (z6g {data:=#[]}) au (by assumption) (by assumption) (by assumption) (by assumption)) X0))]] [] [] (fun z0:Sel=>(.tup [VL 19 z0F (z3r d s (z6g {data:=#[]}) au),.t (z5f z0),VI (atE d s au)],[])) _ _ e1
theorem z8B(d:Doc)(s:Sel)(t au:ByteArray)(hb:DocL d)(ht:y8o t)(hn:t.size<=20000)(hx:atE d s au=0->TypB d s (z6g t) au):FC Tryz.prog 28 [.t (z20 d),.t (z5f s),VS t,VS au] (app emp []) (.tup [VL 19 z0F (z3r d s (z6g t) au),.t (z5f (z9n d s (z6g t) au)),VI (atE d s au)]) (app emp []):=
 x08 d s t (z6g t) au (x7s t ht (by omega)) hb hn hx
theorem y0F(d:Doc)(site a b c:Int)(hb:DocL d)(hx:CmdB d site b c):FC Tryz.prog 15 [.t (z20 d),VI site,VI a,VI b,VI c] (app emp []) (VL 19 z0F (z1x d site a b c)) (app emp []):=by
 refine .go Tryz.f15 ?_
 have hl:=hb.len
 have hfl:=y3o hb (z4n d b)
 have hdr:=x0n hb (z2d d b [10,8])
 have hsr:=y1B (z1L d (z4n d b)).flow (z1L d (z4n d b)).flow.length
 have hmo:=y4M hb b
 have hfr:=x0o hb b c
 refine .bp [.r [],.r [(2,X (Xc ((7:Int)≠0))),(4,X (Xc0 (z9E d (IntKind.i64.wrap (b.tdiv 7)) [1,3,4,12] (by omega) (by first|omega|simp)) (z0Y z0B [1,3,4,12] X0)))],.le (.eq 11 (VI (z2d d (IntKind.i64.wrap (b.tdiv 7)) [1,3,4,12])) (VI (z4n d b)) (.of_eq rfl)),.r [(2,X (Xc1 80 (x1c d (z4n d b) (by assumption)) X0))],.r [(2,X (Xc1 152 (x1b (((z1L d (z4n d b))).flow) (by omega)) X0)),(3,X (Xl z0B (y7U (((z1L d (z4n d b))).flow) ((((z1L d (z4n d b))).flow)).length))),(4,X (Xn (((y7U (((z1L d (z4n d b))).flow) ((((z1L d (z4n d b))).flow)).length).length:Int)- 1))),(5,X (x7W 0 (((y7U (((z1L d (z4n d b))).flow) ((((z1L d (z4n d b))).flow)).length).length:Int)- 1)))],.le (.eq 14 (VI (max 0 (((y7U (((z1L d (z4n d b))).flow) ((((z1L d (z4n d b))).flow)).length).length:Int)- 1))) (VI (y7W d b)) (.of_eq rfl)),.r [(1,X (Xc ((5:Int)≠0))),(3,X (Xc0 (z0L (IntKind.i64.wrap (c.tdiv 5)) 0 (y7W d b) (by omega)) X0))],.le (.eq 15 (VI (z0e (IntKind.i64.wrap (c.tdiv 5)) 0 (y7W d b))) (VI (z4U d b c)) (.of_eq rfl)),.r [(3,X (Xc ((11:Int)≠0))),(7,X (Xn ((z4U d b c)+4))),(8,X (y8h (y7W d b) ((z4U d b c)+4))),(9,X (Xc0 (z0L (IntKind.i64.wrap (c.tdiv 11)) (z4U d b c) (min (y7W d b) ((z4U d b c)+4)) (by omega)) X0))],.r [],.le (.eb 320 2 (VI (z0e (IntKind.i64.wrap (c.tdiv 11)) (z4U d b c) (min (y7W d b) ((z4U d b c)+4)))) (VI (z7Y d b c)) rfl),.r [(1,X (Xc0 (z0L a 0 13 (by omega)) X0))],.r []] ((z0e a 0 13)==0) (fun h12=> ?_) (fun h12=> ?_)
 ·
  have w0:=z0w b (lo:=0) (hi:=4) (by decide)
  have ha:=z67 (Int.toNat (z0e b 0 4))
  have hn:=y1D (Int.toNat (z0e b 0 4))
  have ht:=hx.ty (x1D.getD (Int.toNat (z0e b 0 4)) default) {data:=#[]} (by assumption) (by assumption)
  have e1:((z1x d site a b c):List EOp)=(z3r d ({nd:=(z4n d b),fr:=(z4U d b c),tq:=(z7Y d b c)}:Sel) (z6g ([{data:=#[120]},{data:=#[121,122]},{data:=#[10]},{data:=#[119,32,118]},{data:=#[98]}].getD (Int.toNat (z0e b 0 4)) default)) ({data:=#[]})):=by
   unfold z1x;((repeat' split)<;>first|rfl|omega| (simp_all;done)| (simp_all;omega))
  exact .finE [.le (.eq 88 (VB ((z0e a 0 13)==0)) (VB true) (.of_eq (by simp[h12]))),.t,.r [(4,X (Xc0 (z0L b 0 4 (by omega)) X0)),(5,X (Xp z82 [{data:=#[120]},{data:=#[121,122]},{data:=#[10]},{data:=#[119,32,118]},{data:=#[98]}] (z0e b 0 4))),(6,X (Xe z82 [{data:=#[120]},{data:=#[121,122]},{data:=#[10]},{data:=#[119,32,118]},{data:=#[98]}] (Int.toNat (z0e b 0 4)))),(7,X (Xc1 432 (z8B d ({nd:=(z4n d b),fr:=(z4U d b c),tq:=(z7Y d b c)}:Sel) ([{data:=#[120]},{data:=#[121,122]},{data:=#[10]},{data:=#[119,32,118]},{data:=#[98]}].getD (Int.toNat (z0e b 0 4)) default) ({data:=#[]}) (by assumption) (by assumption) (by assumption) (by assumption)) X0))],.r []] [] (fun z0:List EOp=>(VL 19 z0F z0,[])) _ _ e1
 ·
  refine .bp [.le (.eq 88 (VB ((z0e a 0 13)==0)) (VB false) (.of_eq (by simp[h12]))),.r []] ((z0e a 0 13)==1) (fun h13=> ?_) (fun h13=> ?_)
  ·
   have w0:=z0w b (lo:=0) (hi:=4) (by decide)
   have ha:=z67 (Int.toNat (z0e b 0 4))
   have hn:=y1D (Int.toNat (z0e b 0 4))
   have ht:=hx.ty (x1D.getD (Int.toNat (z0e b 0 4)) default) {data:=#[]} (by assumption) (by assumption)
   have e2:((z1x d site a b c):List EOp)=(z3r d ({nd:=(z4n d b),fr:=(z4U d b c),tq:=(z7Y d b c)}:Sel) (z6g ([{data:=#[120]},{data:=#[121,122]},{data:=#[10]},{data:=#[119,32,118]},{data:=#[98]}].getD (Int.toNat (z0e b 0 4)) default)) ({data:=#[]})):=by
    unfold z1x;((repeat' split)<;>first|rfl|omega| (simp_all;done)| (simp_all;omega))
   exact .finE [.le (.eq 88 (VB ((z0e a 0 13)==1)) (VB true) (.of_eq (by simp[h13]))),.t,.r [(4,X (Xc0 (z0L b 0 4 (by omega)) X0)),(5,X (Xp z82 [{data:=#[120]},{data:=#[121,122]},{data:=#[10]},{data:=#[119,32,118]},{data:=#[98]}] (z0e b 0 4))),(6,X (Xe z82 [{data:=#[120]},{data:=#[121,122]},{data:=#[10]},{data:=#[119,32,118]},{data:=#[98]}] (Int.toNat (z0e b 0 4)))),(7,X (Xc1 448 (z8B d ({nd:=(z4n d b),fr:=(z4U d b c),tq:=(z7Y d b c)}:Sel) ([{data:=#[120]},{data:=#[121,122]},{data:=#[10]},{data:=#[119,32,118]},{data:=#[98]}].getD (Int.toNat (z0e b 0 4)) default) ({data:=#[]}) (by assumption) (by assumption) (by assumption) (by assumption)) X0))],.r []] [] (fun z0:List EOp=>(VL 19 z0F z0,[])) _ _ e2
  ·
   refine .bp [.le (.eq 88 (VB ((z0e a 0 13)==1)) (VB false) (.of_eq (by simp[h13]))),.r []] ((z0e a 0 13)==2) (fun h14=> ?_) (fun h14=> ?_)
   ·
    have w0:=z0w b (lo:=0) (hi:=4) (by decide)
    have ha:=z67 (Int.toNat (z0e b 0 4))
    have hn:=y1D (Int.toNat (z0e b 0 4))
    have ht:=hx.ty (x1D.getD (Int.toNat (z0e b 0 4)) default) {data:=#[]} (by assumption) (by assumption)
    have e3:((z1x d site a b c):List EOp)=(z3r d ({nd:=(z4n d b),fr:=(z4U d b c),tq:=(z7Y d b c)}:Sel) (z6g ([{data:=#[120]},{data:=#[121,122]},{data:=#[10]},{data:=#[119,32,118]},{data:=#[98]}].getD (Int.toNat (z0e b 0 4)) default)) ({data:=#[]})):=by
     unfold z1x;((repeat' split)<;>first|rfl|omega| (simp_all;done)| (simp_all;omega))
    exact .finE [.le (.eq 88 (VB ((z0e a 0 13)==2)) (VB true) (.of_eq (by simp[h14]))),.r [(4,X (Xc0 (z0L b 0 4 (by omega)) X0)),(5,X (Xp z82 [{data:=#[120]},{data:=#[121,122]},{data:=#[10]},{data:=#[119,32,118]},{data:=#[98]}] (z0e b 0 4))),(6,X (Xe z82 [{data:=#[120]},{data:=#[121,122]},{data:=#[10]},{data:=#[119,32,118]},{data:=#[98]}] (Int.toNat (z0e b 0 4)))),(7,X (Xc1 464 (z8B d ({nd:=(z4n d b),fr:=(z4U d b c),tq:=(z7Y d b c)}:Sel) ([{data:=#[120]},{data:=#[121,122]},{data:=#[10]},{data:=#[119,32,118]},{data:=#[98]}].getD (Int.toNat (z0e b 0 4)) default) ({data:=#[]}) (by assumption) (by assumption) (by assumption) (by assumption)) X0))],.r []] [] (fun z0:List EOp=>(VL 19 z0F z0,[])) _ _ e3
   ·
    refine .bp [.le (.eq 88 (VB ((z0e a 0 13)==2)) (VB false) (.of_eq (by simp[h14]))),.r []] ((z0e a 0 13)==3) (fun h16=> ?_) (fun h16=> ?_)
    ·
     have ht:=hx.ty {data:=#[]} {data:=#[]} y6y (by decide)
     have e4:((z1x d site a b c):List EOp)=(z3r d ({nd:=(z4n d b),fr:=(z4U d b c),tq:=(z7Y d b c)}:Sel) (z6g {data:=#[]}) ({data:=#[]})):=by
      unfold z1x;((repeat' split)<;>first|rfl|omega| (simp_all;done)| (simp_all;omega))
     exact .finE [.r [(2,X (Xc1 440 (x3g d ({nd:=(z4n d b),fr:=(z4U d b c),tq:=(z7Y d b c)}:Sel) ({data:=#[]}) (by assumption) (by assumption)) X0))],.r []] [] (fun z0:List EOp=>(VL 19 z0F z0,[])) _ _ e4
    ·
     refine .bp [.r []] ((z0e a 0 13)==4) (fun h18=> ?_) (fun h18=> ?_)
     ·
      have ha:=x5r
      have hn:({data:=#[116]}:ByteArray).size<=20000:=by decide
      have ht:=hx.ty {data:=#[116]} {data:=#[97,110,110]} ha hn
      have e5:((z1x d site a b c):List EOp)=(z3r d ({nd:=(z4n d b),fr:=(z4U d b c),tq:=(z7Y d b c)}:Sel) (z6g ({data:=#[116]})) ({data:=#[97,110,110]})):=by
       unfold z1x;((repeat' split)<;>first|rfl|omega| (simp_all;done)| (simp_all;omega))
      exact .finE [.r [(2,X (Xc1 456 (z8B d ({nd:=(z4n d b),fr:=(z4U d b c),tq:=(z7Y d b c)}:Sel) ({data:=#[116]}) ({data:=#[97,110,110]}) (by assumption) (by assumption) (by assumption) (by assumption)) X0))],.r []] [] (fun z0:List EOp=>(VL 19 z0F z0,[])) _ _ e5
     ·
      refine .bp [.r []] ((z0e a 0 13)==5) (fun h20=> ?_) (fun h20=> ?_)
      ·
       have w0:=z0w b (lo:=0) (hi:=2) (by decide)
       have w1:=z0w (IntKind.i64.wrap (a.tdiv 14)) (lo:=0) (hi:=2) (by decide)
       have hf:=hx.fm
       have e6:((z1x d site a b c):List EOp)=(y8k d ({nd:=(z4n d b),fr:=(z4U d b c),tq:=(z7Y d b c)}:Sel) [({name:=([{data:=#[98,111,108,100]},{data:=#[115,105,122,101]},{data:=#[109,97,114,107,46,109]}].getD (Int.toNat (z0e b 0 2)) default),val:=([{data:=#[]},{data:=#[111,110]},{data:=#[52,48]}].getD (Int.toNat (z0e (IntKind.i64.wrap (a.tdiv 14)) 0 2)) default)}:Attr)]):=by
        unfold z1x;((repeat' split)<;>first|rfl|omega| (simp_all;done)| (simp_all;omega))
       exact .finE [.r [(4,X (Xc0 (z0L b 0 2 (by omega)) X0)),(5,X (Xp z82 [{data:=#[98,111,108,100]},{data:=#[115,105,122,101]},{data:=#[109,97,114,107,46,109]}] (z0e b 0 2))),(6,X (Xe z82 [{data:=#[98,111,108,100]},{data:=#[115,105,122,101]},{data:=#[109,97,114,107,46,109]}] (Int.toNat (z0e b 0 2)))),(9,X (Xc ((14:Int)≠0))),(10,X (Xc0 (z0L (IntKind.i64.wrap (a.tdiv 14)) 0 2 (by omega)) X0)),(11,X (Xp z82 [{data:=#[]},{data:=#[111,110]},{data:=#[52,48]}] (z0e (IntKind.i64.wrap (a.tdiv 14)) 0 2))),(12,X (Xe z82 [{data:=#[]},{data:=#[111,110]},{data:=#[52,48]}] (Int.toNat (z0e (IntKind.i64.wrap (a.tdiv 14)) 0 2)))),(15,X (Xc1 576 (x1a d ({nd:=(z4n d b),fr:=(z4U d b c),tq:=(z7Y d b c)}:Sel) [({name:=([{data:=#[98,111,108,100]},{data:=#[115,105,122,101]},{data:=#[109,97,114,107,46,109]}].getD (Int.toNat (z0e b 0 2)) default),val:=([{data:=#[]},{data:=#[111,110]},{data:=#[52,48]}].getD (Int.toNat (z0e (IntKind.i64.wrap (a.tdiv 14)) 0 2)) default)}:Attr)] (by assumption) (by first|omega|simp) (by assumption)) (z0Y z0a [({name:=([{data:=#[98,111,108,100]},{data:=#[115,105,122,101]},{data:=#[109,97,114,107,46,109]}].getD (Int.toNat (z0e b 0 2)) default),val:=([{data:=#[]},{data:=#[111,110]},{data:=#[52,48]}].getD (Int.toNat (z0e (IntKind.i64.wrap (a.tdiv 14)) 0 2)) default)}:Attr)] X0)))],.r []] [] (fun z0:List EOp=>(VL 19 z0F z0,[])) _ _ e6
      ·
       refine .bp [.r []] ((z0e a 0 13)==6) (fun h22=> ?_) (fun h22=> ?_)
       ·
        have w0:=z0w b (lo:=0) (hi:=2) (by decide)
        have w1:=z0w (IntKind.i64.wrap (a.tdiv 14)) (lo:=0) (hi:=2) (by decide)
        have hf:=hx.pa
        have e7:((z1x d site a b c):List EOp)=(y8l d ({nd:=(z4n d b),fr:=(z4U d b c),tq:=(z7Y d b c)}:Sel) [({name:=([{data:=#[104,101,97,100]},{data:=#[108,105,115,116]},{data:=#[97,108,105,103,110]}].getD (Int.toNat (z0e b 0 2)) default),val:=([{data:=#[49]},{data:=#[50]},{data:=#[]}].getD (Int.toNat (z0e (IntKind.i64.wrap (a.tdiv 14)) 0 2)) default)}:Attr)]):=by
         unfold z1x;((repeat' split)<;>first|rfl|omega| (simp_all;done)| (simp_all;omega))
        exact .finE [.r [(4,X (Xc0 (z0L b 0 2 (by omega)) X0)),(5,X (Xp z82 [{data:=#[104,101,97,100]},{data:=#[108,105,115,116]},{data:=#[97,108,105,103,110]}] (z0e b 0 2))),(6,X (Xe z82 [{data:=#[104,101,97,100]},{data:=#[108,105,115,116]},{data:=#[97,108,105,103,110]}] (Int.toNat (z0e b 0 2)))),(9,X (Xc ((14:Int)≠0))),(10,X (Xc0 (z0L (IntKind.i64.wrap (a.tdiv 14)) 0 2 (by omega)) X0)),(11,X (Xp z82 [{data:=#[49]},{data:=#[50]},{data:=#[]}] (z0e (IntKind.i64.wrap (a.tdiv 14)) 0 2))),(12,X (Xe z82 [{data:=#[49]},{data:=#[50]},{data:=#[]}] (Int.toNat (z0e (IntKind.i64.wrap (a.tdiv 14)) 0 2)))),(15,X (Xc1 592 (y8b d ({nd:=(z4n d b),fr:=(z4U d b c),tq:=(z7Y d b c)}:Sel) [({name:=([{data:=#[104,101,97,100]},{data:=#[108,105,115,116]},{data:=#[97,108,105,103,110]}].getD (Int.toNat (z0e b 0 2)) default),val:=([{data:=#[49]},{data:=#[50]},{data:=#[]}].getD (Int.toNat (z0e (IntKind.i64.wrap (a.tdiv 14)) 0 2)) default)}:Attr)] (by assumption) (by first|omega|simp) (by assumption)) (z0Y z0a [({name:=([{data:=#[104,101,97,100]},{data:=#[108,105,115,116]},{data:=#[97,108,105,103,110]}].getD (Int.toNat (z0e b 0 2)) default),val:=([{data:=#[49]},{data:=#[50]},{data:=#[]}].getD (Int.toNat (z0e (IntKind.i64.wrap (a.tdiv 14)) 0 2)) default)}:Attr)] X0)))],.r []] [] (fun z0:List EOp=>(VL 19 z0F z0,[])) _ _ e7
       ·
        refine .bp [.r []] ((z0e a 0 13)==7) (fun h24=> ?_) (fun h24=> ?_)
        ·
         have w1:=z0w b (lo:=1) (hi:=3) (by decide)
         have w2:=z0w (IntKind.i64.wrap (a.tdiv 14)) (lo:=1) (hi:=3) (by decide)
         have ho:=hx.ob (y1y (z0e b 1 3) (z0e (IntKind.i64.wrap (a.tdiv 14)) 1 3))
         have e8:((z1x d site a b c):List EOp)=(z4T d ({nd:=(z4n d b),fr:=(z4U d b c),tq:=(z7Y d b c)}:Sel) (y1y (z0e b 1 3) (z0e (IntKind.i64.wrap (a.tdiv 14)) 1 3)) site ({data:=#[]})):=by
          unfold z1x;((repeat' split)<;>first|rfl|omega| (simp_all;done)| (simp_all;omega))
         exact .finE [.r [(3,X (Xc0 (z0L b 1 3 (by omega)) X0)),(5,X (Xc ((14:Int)≠0))),(6,X (Xc0 (z0L (IntKind.i64.wrap (a.tdiv 14)) 1 3 (by omega)) X0)),(8,X (Xc1 552 (x5T d ({nd:=(z4n d b),fr:=(z4U d b c),tq:=(z7Y d b c)}:Sel) (z0e b 1 3) (z0e (IntKind.i64.wrap (a.tdiv 14)) 1 3) site ({data:=#[]}) (by omega) (by assumption) (by assumption)) X0))],.r []] [] (fun z0:List EOp=>(VL 19 z0F z0,[])) _ _ e8
        ·
         refine .bp [.r []] ((z0e a 0 13)==8) (fun h26=> ?_) (fun h26=> ?_)
         ·
          have ho:=hx.ob (z9q (b.tmod 2==0))
          have e9:((z1x d site a b c):List EOp)=(z4T d ({nd:=(z4n d b),fr:=(z4U d b c),tq:=(z7Y d b c)}:Sel) (z9q ((b.tmod 2)==0)) site ({data:=#[]})):=by
           unfold z1x;((repeat' split)<;>first|rfl|omega| (simp_all;done)| (simp_all;omega))
          exact .finE [.r [(3,X (Xc ((2:Int)≠0))),(6,X (Xc1 552 (x5U d ({nd:=(z4n d b),fr:=(z4U d b c),tq:=(z7Y d b c)}:Sel) ((b.tmod 2)==0) site ({data:=#[]}) (by assumption) (by assumption)) X0))],.r []] [] (fun z0:List EOp=>(VL 19 z0F z0,[])) _ _ e9
         ·
          refine .bp [.r []] ((z0e a 0 13)==9) (fun h28=> ?_) (fun h28=> ?_)
          ·
           have hc:=x0m
           have ho:=hx.ob (y1z x7O)
           have e10:((z1x d site a b c):List EOp)=(z4T d ({nd:=(z4n d b),fr:=(z4U d b c),tq:=(z7Y d b c)}:Sel) (y1z [({name:={data:=#[107,105,110,100]},val:={data:=#[115,101,113]}}:Attr)]) site ({data:=#[]})):=by
            unfold z1x;((repeat' split)<;>first|rfl|omega| (simp_all;done)| (simp_all;omega))
           exact .finE [.r [(5,X (Xc1 560 (x5V d ({nd:=(z4n d b),fr:=(z4U d b c),tq:=(z7Y d b c)}:Sel) [({name:={data:=#[107,105,110,100]},val:={data:=#[115,101,113]}}:Attr)] site ({data:=#[]}) (by assumption) (by first|omega|simp) (by assumption) (by assumption)) (z0Y z0a [({name:={data:=#[107,105,110,100]},val:={data:=#[115,101,113]}}:Attr)] X0)))],.r []] [] (fun z0:List EOp=>(VL 19 z0F z0,[])) _ _ e10
          ·
           refine .bp [.r []] ((z0e a 0 13)==10) (fun h30=> ?_) (fun h30=> ?_)
           ·
            have w0:=z0w (IntKind.i64.wrap (a.tdiv 14)) (lo:=0) (hi:=2) (by decide)
            have w1:=z0w c (lo:=0) (hi:=2) (by decide)
            have w2:=y6z (Int.toNat (z0e (IntKind.i64.wrap (a.tdiv 14)) 0 2))
            have e11:((z1x d site a b c):List EOp)=(y8m d (z2d d b [2,6]) (z0e c 0 2) ([1,2,-1].getD (Int.toNat (z0e (IntKind.i64.wrap (a.tdiv 14)) 0 2)) default)):=by
             unfold z1x;((repeat' split)<;>first|rfl|omega| (simp_all;done)| (simp_all;omega))
            exact .finE [.r [(4,X (Xc0 (z9E d b [2,6] (by omega) (by first|omega|simp)) (z0Y z0B [2,6] X0))),(6,X (Xc0 (z0L c 0 2 (by omega)) X0)),(9,X (Xc ((14:Int)≠0))),(10,X (Xc0 (z0L (IntKind.i64.wrap (a.tdiv 14)) 0 2 (by omega)) X0)),(11,X (Xp z0B [1,2,-1] (z0e (IntKind.i64.wrap (a.tdiv 14)) 0 2))),(12,X (Xe z0B [1,2,-1] (Int.toNat (z0e (IntKind.i64.wrap (a.tdiv 14)) 0 2)))),(13,X (Xc1 640 (x5W d (z2d d b [2,6]) (z0e c 0 2) ([1,2,-1].getD (Int.toNat (z0e (IntKind.i64.wrap (a.tdiv 14)) 0 2)) default) (by assumption) (by omega) (by omega)) X0))],.r []] [] (fun z0:List EOp=>(VL 19 z0F z0,[])) _ _ e11
           ·
            refine .bp [.r []] ((z0e a 0 13)==11) (fun h32=> ?_) (fun h32=> ?_)
            ·
             have w0:=z0w (IntKind.i64.wrap (a.tdiv 14)) (lo:=0) (hi:=2) (by decide)
             have w1:=z0w c (lo:=0) (hi:=2) (by decide)
             have w2:=y6z (Int.toNat (z0e (IntKind.i64.wrap (a.tdiv 14)) 0 2))
             have e12:((z1x d site a b c):List EOp)=(y8n d (z2d d b [2,6]) (z0e c 0 2) ([1,2,-1].getD (Int.toNat (z0e (IntKind.i64.wrap (a.tdiv 14)) 0 2)) default)):=by
              unfold z1x;((repeat' split)<;>first|rfl|omega| (simp_all;done)| (simp_all;omega))
             exact .finE [.r [(4,X (Xc0 (z9E d b [2,6] (by omega) (by first|omega|simp)) (z0Y z0B [2,6] X0))),(6,X (Xc0 (z0L c 0 2 (by omega)) X0)),(9,X (Xc ((14:Int)≠0))),(10,X (Xc0 (z0L (IntKind.i64.wrap (a.tdiv 14)) 0 2 (by omega)) X0)),(11,X (Xp z0B [1,2,-1] (z0e (IntKind.i64.wrap (a.tdiv 14)) 0 2))),(12,X (Xe z0B [1,2,-1] (Int.toNat (z0e (IntKind.i64.wrap (a.tdiv 14)) 0 2)))),(13,X (Xc1 656 (y78 d (z2d d b [2,6]) (z0e c 0 2) ([1,2,-1].getD (Int.toNat (z0e (IntKind.i64.wrap (a.tdiv 14)) 0 2)) default) (by assumption) (by omega) (by omega)) X0))],.r []] [] (fun z0:List EOp=>(VL 19 z0F z0,[])) _ _ e12
            ·
             refine .bp [.r []] ((z0e a 0 13)==12) (fun h34=> ?_) (fun h34=> ?_)
             ·
              have e13:((z1x d site a b c):List EOp)=(z9r d (z2d d b [2]) (z0e c 0 2) (z0e (IntKind.i64.wrap (a.tdiv 14)) 0 2) site):=by
               unfold z1x;((repeat' split)<;>first|rfl|omega| (simp_all;done)| (simp_all;omega))
              exact .finE [.r [(4,X (Xc0 (z9E d b [2] (by omega) (by first|omega|simp)) (z0Y z0B [2] X0))),(6,X (Xc0 (z0L c 0 2 (by omega)) X0)),(8,X (Xc ((14:Int)≠0))),(9,X (Xc0 (z0L (IntKind.i64.wrap (a.tdiv 14)) 0 2 (by omega)) X0)),(11,X (Xc1 656 (x5X d (z2d d b [2]) (z0e c 0 2) (z0e (IntKind.i64.wrap (a.tdiv 14)) 0 2) site (by assumption)) X0))],.r []] [] (fun z0:List EOp=>(VL 19 z0F z0,[])) _ _ e13
             ·
              refine .bp [.r [(4,X (Xc0 (z9E d b [10,8] (by omega) (by first|omega|simp)) (z0Y z0B [10,8] X0))),(5,X (Xc1 608 (x1c d (z2d d b [10,8]) (by assumption)) X0))],.r []] (y1C d (z2d d b [10,8])) (fun h9=> ?_) (fun h9=> ?_)
              ·
               have w0:=z0w (IntKind.i64.wrap (a.tdiv 14)) (lo:=(-1)) (hi:=3) (by decide)
               have w1:=z0w c (lo:=1) (hi:=3) (by decide)
               have w2:=z0w c (lo:=0) (hi:=2) (by decide)
               have hlc:=hx.lc
               have e14:((z1x d site a b c):List EOp)=[({kind:=4,node:=((z1L d (z2d d b [10,8]))).id,nw:=({id:=0,kind:=0,attrs:=[],flow:=[],grid:=({rows:=0,cols:=0,cells:=[],merges:=[]}:Grid),draw:=[]}:Node),attrs:=[],steps:=[],grid:=({rows:=[],cols:=[],cells:=[],split:=[],merge:=[]}:GEd),draw:=[({clock:=(1+(z6h ((z1L d (z2d d b [10,8]))))),site:=site,kind:=0,itm:=(z0e c 1 3),prt:=(z0e (IntKind.i64.wrap (a.tdiv 14)) (-1) 3),plc:={data:=#[98]},nm:={data:=#[]},vl:={data:=#[]}}:DOp)]}:EOp)]:=by
                unfold z1x;((repeat' split)<;>first|rfl|omega| (simp_all;done)| (simp_all;omega))
               exact .finE [.r [(3,X (Xc0 (x3f ((z1L d (z2d d b [10,8]))) (by assumption)) X0)),(4,X (Xn (1+(z6h ((z1L d (z2d d b [10,8]))))))),(7,X (Xc0 (z0L c 1 3 (by omega)) X0)),(9,X (Xc ((14:Int)≠0))),(10,X (Xc0 (z0L (IntKind.i64.wrap (a.tdiv 14)) (-1) 3 (by omega)) X0)),(13,X (Xf [(4,2),(5,3),(8,5),(9,4),(10,8),(11,2),(12,4),(13,2),(14,2),(15,5),(16,4),(17,4)])),(14,X (z0Y z0R [({clock:=(1+(z6h ((z1L d (z2d d b [10,8]))))),site:=site,kind:=0,itm:=(z0e c 1 3),prt:=(z0e (IntKind.i64.wrap (a.tdiv 14)) (-1) 3),plc:={data:=#[98]},nm:={data:=#[]},vl:={data:=#[]}}:DOp)] X0))],.r [],.le (.fr 10 [(1:Nat)=(List.map z0F [({kind:=4,node:=((z1L d (z2d d b [10,8]))).id,nw:=({id:=0,kind:=0,attrs:=[],flow:=[],grid:=({rows:=0,cols:=0,cells:=[],merges:=[]}:Grid),draw:=[]}:Node),attrs:=[],steps:=[],grid:=({rows:=[],cols:=[],cells:=[],split:=[],merge:=[]}:GEd),draw:=[({clock:=(1+(z6h ((z1L d (z2d d b [10,8]))))),site:=site,kind:=0,itm:=(z0e c 1 3),prt:=(z0e (IntKind.i64.wrap (a.tdiv 14)) (-1) 3),plc:={data:=#[98]},nm:={data:=#[]},vl:={data:=#[]}}:DOp)]}:EOp)]).length] ⟨lm,trivial⟩)] [] (fun z0:List EOp=>(VL 19 z0F z0,[])) _ _ e14
              ·
               have w2:=z0w c (lo:=0) (hi:=2) (by decide)
               have e15:((z1x d site a b c):List EOp)=[({kind:=1,node:=1,nw:=({id:=0,kind:=0,attrs:=[],flow:=[],grid:=({rows:=0,cols:=0,cells:=[],merges:=[]}:Grid),draw:=[]}:Node),attrs:=[({name:={data:=#[116,105,116,108,101]},val:=([{data:=#[]},{data:=#[112]},{data:=#[113]}].getD (Int.toNat (z0e c 0 2)) default)}:Attr)],steps:=[],grid:=({rows:=[],cols:=[],cells:=[],split:=[],merge:=[]}:GEd),draw:=[]}:EOp)]:=by
                unfold z1x;((repeat' split)<;>first|rfl|omega| (simp_all;done)| (simp_all;omega))
               exact .finE [.r [(2,X (Xc0 (z0L c 0 2 (by omega)) X0)),(3,X (Xp z82 [{data:=#[]},{data:=#[112]},{data:=#[113]}] (z0e c 0 2))),(4,X (Xe z82 [{data:=#[]},{data:=#[112]},{data:=#[113]}] (Int.toNat (z0e c 0 2)))),(7,X (Xf [(4,2),(5,3),(8,5),(9,4),(10,8),(12,4),(13,2),(14,2),(15,5),(16,4),(17,4),(18,8)])),(8,X (z0Y z0a [({name:={data:=#[116,105,116,108,101]},val:=([{data:=#[]},{data:=#[112]},{data:=#[113]}].getD (Int.toNat (z0e c 0 2)) default)}:Attr)] X0))],.r [],.le (.fr 10 [(1:Nat)=(List.map z0F [({kind:=1,node:=1,nw:=({id:=0,kind:=0,attrs:=[],flow:=[],grid:=({rows:=0,cols:=0,cells:=[],merges:=[]}:Grid),draw:=[]}:Node),attrs:=[({name:={data:=#[116,105,116,108,101]},val:=([{data:=#[]},{data:=#[112]},{data:=#[113]}].getD (Int.toNat (z0e c 0 2)) default)}:Attr)],steps:=[],grid:=({rows:=[],cols:=[],cells:=[],split:=[],merge:=[]}:GEd),draw:=[]}:EOp)]).length] ⟨lm,trivial⟩)] [] (fun z0:List EOp=>(VL 19 z0F z0,[])) _ _ e15
end Go.Ch
end
section
namespace Go.Ab
open Go Go.Proofs Go.RowKit Go.Shelf Go.Lib
theorem z5H{P:Program}(k:Nat)(w:World)(dT sT ty elem:TypeId)(b o dLen dCap:Nat)(a:Addr)(sLen sCap:Nat)(cs:List Value)
 (hu:P.underlying dT=some (.slice elem)) (hs:∀w,(Go.sizeOf elem).run P w= .ok k w) (hn:cs.length=Nat.min sLen dLen*k)
 (hsrc:∀j v,cs[j]? =some v->w.cell? (a.add j)=some v) (hc:∀j,j<cs.length->(w.cell? ⟨b,o+j,none⟩).isSome=true) (hf:∀j,j<cs.length->w.frozen? ⟨b,o+j,none⟩=false) (h1:∀v∈cs,v.oneCell'=true):
 (Builtin.copy_ #[dT,sT] ty #[.slice (some ⟨b,o,none⟩) dLen dCap,.slice (some a) sLen sCap]).run P w= .ok (goInt (Nat.min sLen dLen)) (w.setCells b o cs):=by
 have hl:=run_loadCells_list (P:=P) w a cs hsrc
 have hst:=run_storeCells_cells (P:=P) b o cs 0 w (by simpa using hc) (by simpa using hf) h1
 simp[Builtin.copy_,run_underlying hu,Builtin.lenOf,Builtin.firstCells,hs,<-hn,hl,hst]
set_option maxHeartbeats 4000000 in
set_option maxRecDepth 100000 in
theorem y3K(b n c i vb vc:Nat)(cs vs:List Value)(w:World)(hi:i<n)(hroom:n+1<=c)(hc63:c<=9223372036854775807)(hvb:vb≠b)
 (hcl:cs.length=n*9) (hvl:vs.length=9)
 (hcs:∀j v,cs[j]? =some v->w.cell? ⟨b,j,none⟩=some v) (hsp:∀j,j< (n+1)*9->(w.cell? ⟨b,j,none⟩).isSome=true) (hfz:∀j,j< (n+1)*9->w.frozen? ⟨b,j,none⟩=false)
 (hvs:∀j v,vs[j]? =some v->w.cell? ⟨vb,j,none⟩=some v) (h1c:∀v∈cs,v.oneCell'=true) (h1v:∀v∈vs,v.oneCell'=true)
 (tA tB:TypeId) (kA kB:Nat) (hsa:w.shape? vb=some (tA,kA)) (hsb:w.shape? b=some (tB,kB)) (hkB:kB≠0) (hfa:w.frozen? ⟨vb,0,none⟩=false) (hfe:w.frozen? ⟨vb,kA,none⟩=false):
 Calls Tryz.prog 103 #[.slice (some ⟨b,0,none⟩) n c,.int .i64 i,.slice (some ⟨vb,0,none⟩) 1 vc] w fun e w'=>
  e= .returned (.slice (some ⟨b,0,none⟩) (n+1) c)/\w'=(w.drew.setCells b ((i+1)*9) (cs.drop (i*9))).setCells b (i*9) vs:=by
 have hz2:¬((i:Int)=(n:Int)):=by omega
 have hov:∀lb cb,(callFunc 168 #[.slice (some ⟨vb,0,none⟩) 1 vc,.slice (some ⟨b,(i+1)*9,none⟩) lb cb]).run Tryz.prog w= .ok (.value (.bool false)) w:=fun lb cb=>by
  rw[run_callFunc_extern Tryz.func168 (by kernel_rfl) (by kernel_rfl) (by kernel_rfl) (e:=Extern.SlicesOverlaps.overlaps #[24,24] #[4]) (by kernel_rfl),
   Lib.run_overlaps_apart w 24 4 48 Tryz.underlying24 9 Tryz.sizeOf48 ⟨vb,0,none⟩ ⟨b,(i+1)*9,none⟩ 1 vc lb cb hvb tA tB kA kB hsa hsb hkB hfa hfe]
  rfl
 have hdl:(cs.drop (i*9)).length=(n-i)*9:=by rw[qR,hcl];omega
 have hw1:IntKind.i64.wrap ((i:Int)+1)=(i:Int)+1:=by rw[IntKind.wrap_i64];omega
 have hb1:(0:Int)<=(i:Int)+1:=by omega
 have hin:i<=n:=by omega
 have htn:((i:Int)+1).toNat=i+1:=by omega
 have hb2:¬(c=i+1):=by omega
 have hb3:(i:Int)<=(n:Int)+1:=by omega
 have hb4:¬(c=i):=by omega
 have hcp1:∀ty dc sc,(Builtin.copy_ #[24,24] ty #[.slice (some ⟨b,(i+1)*9,none⟩) (n-i) dc,.slice (some ⟨b,i*9,none⟩) (n+1-i) sc]).run Tryz.prog w.drew= .ok (goInt (Nat.min (n+1-i) (n-i))) (w.drew.setCells b ((i+1)*9) (cs.drop (i*9))):=fun ty dc sc=>
  z5H 9 w.drew _ _ ty 48 b ((i+1)*9) (n-i) dc ⟨b,i*9,none⟩ (n+1-i) sc (cs.drop (i*9)) Tryz.underlying24 Tryz.sizeOf48 (by rw[hdl];simp only[Nat.min_def];split<;>omega)
   (fun j v hj=>by rw[Addr.add_lit];exact hcs (i*9+j) v (by rwa [qL] at hj))
   (fun j hj=>hsp _ (by rw[hdl] at hj;omega)) (fun j hj=>hfz _ (by rw[hdl] at hj;omega)) (fun v hv=>h1c v (qC hv))
 obtain⟨W1,hW1⟩:∃W1,W1=w.drew.setCells b ((i+1)*9) (cs.drop (i*9)):=⟨_,rfl⟩
 have hsp1:∀k,k< (n+1)*9->(W1.cell? ⟨b,k,none⟩).isSome=true:=fun k hk=>by
  rw[hW1]
  exact isSome_setCells b (cs.drop (i*9)) ((i+1)*9) w.drew (fun j hj=>hsp _ (by rw[hdl] at hj;omega)) k (hsp k hk)
 have hcp2:∀(W:World),(∀x,W.cell? x=W1.cell? x)->(∀x,W.frozen? x=W1.frozen? x)->∀ty dc,(Builtin.copy_ #[24,24] ty #[.slice (some ⟨b,i*9,none⟩) (n+1-i) dc,.slice (some ⟨vb,0,none⟩) 1 vc]).run Tryz.prog W= .ok (goInt (Nat.min 1 (n+1-i))) (W.setCells b (i*9) vs):=fun W hWc hWf ty dc=>
  z5H 9 W _ _ ty 48 b (i*9) (n+1-i) dc ⟨vb,0,none⟩ 1 vc vs Tryz.underlying24 Tryz.sizeOf48 (by rw[hvl];simp only[Nat.min_def];split<;>omega)
   (fun j v hj=>by
    rw[Addr.add_lit,hWc,hW1,World.cell?_setCells_out b _ _ _ _ (fun h _=>absurd h hvb)]
    rw[zo];exact hvs j v hj)
   (fun j hj=>by rw[hWc];exact hsp1 _ (by rw[hvl] at hj;omega)) (fun j hj=>by rw[hWf,hW1,World.frozen?_setCells];exact hfz _ (by rw[hvl] at hj;omega)) h1v
 rw[<-hW1] at hcp1
 have mixed:Tryz.prog.follows .mixedOrders=true:=by kernel_rfl
 go_enter Tryz.func103,Tryz.ntmps103
 go_wp2_with (simp only[hov])
 go_region_law_o (refine step_copy_runI rfl _ _ 24 24 rfl _ _ (by simp[Act.eval,Act.put]) (by simp[Act.eval,Act.put]) (hcp1 _ _ _) ?_)
 go_wp2_with (at_builtin;refine wpList_copy_runI _ rfl _ _ 24 24 rfl _ _ rfl rfl (hcp2 _ (fun _=>rfl) (fun _=>rfl) _ _) ?_)
 go_ret
 first|exact⟨rfl,rfl⟩|exact⟨rfl,by rw[hW1]⟩
def z5N:Value:= .agg #[.int .i64 0,.int .i64 0,.slice none 0 0,.slice none 0 0,.int .i64 0,.int .i64 0,.slice none 0 0,.slice none 0 0,.slice none 0 0]
theorem x1f:(Tryz.prog.info? 48).map (fun i=>(i.zero,i.size,i.bytes))=some (some z5N,9,152):=by kernel_rfl
set_option maxHeartbeats 4000000 in
set_option maxRecDepth 100000 in
theorem y41(b n c i vb vc:Nat)(cs vs:List Value)(w:World)(hi:i<n)(hnc:n<=c)(hroom:c<n+1)(hbig:(n+1)*152<=140737488355328)
 (hcl:cs.length=n*9) (hvl:vs.length=9)
 (hcs:∀j v,cs[j]? =some v->w.cell? ⟨b,j,none⟩=some v)
 (hvs:∀j v,vs[j]? =some v->w.cell? ⟨vb,j,none⟩=some v) (h1c:∀v∈cs,v.oneCell'=true) (h1v:∀v∈vs,v.oneCell'=true):
 Calls Tryz.prog 103 #[.slice (some ⟨b,0,none⟩) n c,.int .i64 i,.slice (some ⟨vb,0,none⟩) 1 vc] w fun e w'=>
  e= .returned (.slice (some ⟨w.heap.size,0,none⟩) (n+1) (grownCap w (n+1) c 48))/\
  w'=(((w.alloc (.cells ((cs.take (i*9)).toArray++Builtin.zeroCells z5N.cells (n+1-i)++Builtin.zeroCells z5N.cells (grownCap w (n+1) c 48- (n+1))) 48)).drew.setCells w.heap.size (i*9) vs).drew).setCells w.heap.size ((i+1)*9) (cs.drop (i*9)):=by
 have mixed:Tryz.prog.follows .mixedOrders=true:=by kernel_rfl
 obtain⟨i0,hi0,hz0,hzs,hzb⟩:=info_parts x1f
 have hz2:¬((i:Int)=(n:Int)):=by omega
 have hz3:(c:Int)< (n:Int)+1:=by omega
 have hbw:b<w.heap.size:=block_lt_of_cell (hcs 0 _ (qb (by omega)))
 have hvw:vb<w.heap.size:=block_lt_of_cell (hvs 0 _ (qb (by omega)))
 have hkk:(n:Int)+1- (i:Int)=((n+1-i:Nat):Int):=by omega
 have hik:i+(n+1-i)=n+1:=by omega
 have hold:(Builtin.firstCells i0.size i (.slice (some ⟨b,0,none⟩) i c)).run Tryz.prog w.drew= .ok (cs.take (i*9)).toArray w.drew:=by
  rw[hzs]
  exact run_firstCells_some w.drew 9 i ⟨b,0,none⟩ i c (cs.take (i*9)) (by rw[qB];omega) (fun j v hj=>by
   rw[Addr.add_lit]
   rw[qx] at hj
   split at hj
   ·rw[zo];exact hcs j v hj
   ·cases hj)
 have hrz:∀ty,(Builtin.append_ #[24,3] ty #[.slice (some ⟨b,0,none⟩) i c,.int .i64 ((n:Int)+1- (i:Int))]).run Tryz.prog w=
  .ok (.slice (some ⟨w.heap.size,0,none⟩) (n+1) (grownCap w (n+1) c 48)) (w.drew.alloc (.cells ((cs.take (i*9)).toArray++Builtin.zeroCells z5N.cells (n+1-i)++Builtin.zeroCells z5N.cells (grownCap w (n+1) c 48- (n+1))) 48)):=fun ty=>by
  have h:=Lib.run_append_grow_zeros w 24 3 ty 48 i0 _ .i64 .i64 Tryz.underlying24 Tryz.underlying3 hi0 hz0 (some ⟨b,0,none⟩) i c (cs.take (i*9)) hold (n+1-i) (by omega) (by omega) (by omega) (by omega) (by rw[hzb];omega) (by rw[hzb,hik];exact growslice_fits hroom hbig)
  rw[hik] at h
  rw[hkk]
  exact h
 obtain⟨G,hG⟩:∃G,G=grownCap w (n+1) c 48:=⟨_,rfl⟩
 obtain⟨ROW,hROW⟩:∃ROW:Array Value,ROW=(cs.take (i*9)).toArray++Builtin.zeroCells z5N.cells (n+1-i)++Builtin.zeroCells z5N.cells (G- (n+1)):=⟨_,rfl⟩
 rw[<-hG] at hrz|-
 rw[<-hROW] at hrz|-
 have hzc:∀k,(Builtin.zeroCells z5N.cells k).size=k*9:=fun k=>by simp[Builtin.zeroCells,z5N,Value.cells]
 have hRl:(n+1)*9<=ROW.size:=by
  rw[hROW,Array.size_append,Array.size_append,hzc,hzc,zE,qB,hcl]
  omega
 obtain⟨W1,hW1⟩:∃W1,W1=w.drew.alloc (.cells ROW 48):=⟨_,rfl⟩
 rw[<-hW1] at hrz
 have hN:∀j,j< (n+1)*9->(W1.cell? ⟨w.heap.size,j,none⟩).isSome=true:=fun j hj=>by
  rw[hW1,World.cell?_alloc_at (w:=w.drew) ROW _ w.heap.size j rfl,zt (by omega)];rfl
 have hNf:∀j,W1.frozen? ⟨w.heap.size,j,none⟩=false:=fun j=>by rw[hW1];exact World.frozen?_alloc_at (w:=w.drew) ROW _ w.heap.size j rfl
 have hOb:∀j v,w.cell? ⟨b,j,none⟩=some v->W1.cell? ⟨b,j,none⟩=some v:=fun j v h=>by rw[hW1,World.cell?_alloc_past (w:=w.drew) _ b j hbw];exact h
 have hOv:∀j v,w.cell? ⟨vb,j,none⟩=some v->W1.cell? ⟨vb,j,none⟩=some v:=fun j v h=>by rw[hW1,World.cell?_alloc_past (w:=w.drew) _ vb j hvw];exact h
 have hcpA:∀(W:World),(∀x,W.cell? x=W1.cell? x)->(∀x,W.frozen? x=W1.frozen? x)->∀ty dc,(Builtin.copy_ #[24,24] ty #[.slice (some ⟨w.heap.size,i*9,none⟩) (n+1-i) dc,.slice (some ⟨vb,0,none⟩) 1 vc]).run Tryz.prog W= .ok (goInt (Nat.min 1 (n+1-i))) (W.setCells w.heap.size (i*9) vs):=fun W hWc hWf ty dc=>
  z5H 9 W _ _ ty 48 w.heap.size (i*9) (n+1-i) dc ⟨vb,0,none⟩ 1 vc vs Tryz.underlying24 Tryz.sizeOf48 (by rw[hvl];simp only[Nat.min_def];split<;>omega)
   (fun j v hj=>by rw[Addr.add_lit,hWc,zo];exact hOv _ v (hvs j v hj))
   (fun j hj=>by rw[hWc];exact hN _ (by rw[hvl] at hj;omega)) (fun j hj=>by rw[hWf];exact hNf _) h1v
 have hGn:n+1<=G:=by rw[hG];exact grownCap_ge w _ _ _
 have hG63:G<=9223372036854775807:=by
  have:=grownCap_le_maxLen w (n+1) c 48 (by unfold maxLen;omega)
  rw[<-hG] at this
  unfold maxLen at this
  omega
 have hGi:¬(G=i):=by omega
 have hGim:¬(G=i+1):=by omega
 have hci:¬(c=i):=by omega
 have hbN:b≠w.heap.size:=by omega
 have hdl:(cs.drop (i*9)).length=(n-i)*9:=by rw[qR,hcl];omega
 have hcpB:∀(W:World),(∀x,W.cell? x=(W1.setCells w.heap.size (i*9) vs).cell? x)->(∀x,W.frozen? x=(W1.setCells w.heap.size (i*9) vs).frozen? x)->∀ty dc sc,(Builtin.copy_ #[24,24] ty #[.slice (some ⟨w.heap.size,(i+1)*9,none⟩) (n-i) dc,.slice (some ⟨b,i*9,none⟩) (n-i) sc]).run Tryz.prog W= .ok (goInt (Nat.min (n-i) (n-i))) (W.setCells w.heap.size ((i+1)*9) (cs.drop (i*9))):=fun W hWc hWf ty dc sc=>
  z5H 9 W _ _ ty 48 w.heap.size ((i+1)*9) (n-i) dc ⟨b,i*9,none⟩ (n-i) sc (cs.drop (i*9)) Tryz.underlying24 Tryz.sizeOf48 (by rw[hdl];simp only[Nat.min_def];split<;>omega)
   (fun j v hj=>by
    rw[Addr.add_lit,hWc,World.cell?_setCells_out _ _ _ _ _ (fun h _=>absurd h hbN)]
    exact hOb _ v (hcs (i*9+j) v (by rwa [qL] at hj)))
   (fun j hj=>by rw[hWc];exact isSome_setCells _ _ _ _ (fun t ht=>hN _ (by rw[hvl] at ht;omega)) _ (hN _ (by rw[hdl] at hj;omega)))
   (fun j hj=>by rw[hWf,World.frozen?_setCells];exact hNf _) (fun v hv=>h1c v (qC hv))
 subst hW1
 have hE1:∀x,((w.alloc (.cells ROW 48)).drew).cell? x=(w.drew.alloc (.cells ROW 48)).cell? x:=fun x=>rfl
 have hE2:∀x,((w.alloc (.cells ROW 48)).drew).frozen? x=(w.drew.alloc (.cells ROW 48)).frozen? x:=fun x=>rfl
 have hF1:∀x,(((w.alloc (.cells ROW 48)).drew.setCells w.heap.size (i*9) vs).drew).cell? x=((w.drew.alloc (.cells ROW 48)).setCells w.heap.size (i*9) vs).cell? x:=fun x=>rfl
 have hF2:∀x,(((w.alloc (.cells ROW 48)).drew.setCells w.heap.size (i*9) vs).drew).frozen? x=((w.drew.alloc (.cells ROW 48)).setCells w.heap.size (i*9) vs).frozen? x:=fun x=>rfl
 have hw1:IntKind.i64.wrap ((i:Int)+1)=(i:Int)+1:=by rw[IntKind.wrap_i64];omega
 have hb1:(0:Int)<=(i:Int)+1:=by omega
 have hin:i<=n:=by omega
 have htn:((i:Int)+1).toNat=i+1:=by omega
 have hb3:(i:Int)<=(n:Int):=by omega
 clear hkk hik hold hROW hG hRl
 go_enter Tryz.func103,Tryz.ntmps103
 go_wp2_with (first
  | (at_builtin;refine Lib.wpList_append_run _ rfl _ _ _ _ rfl _ _ rfl rfl _ _ (hrz _) ?_)
  | (at_builtin;refine wpList_copy_runI _ rfl _ _ 24 24 rfl _ _ rfl rfl (hcpA _ hE1 hE2 _ _) ?_)
  | (at_builtin;refine wpList_copy_runI _ rfl _ _ 24 24 rfl _ _ rfl rfl (hcpB _ (fun _=>rfl) (fun _=>rfl) _ _ _) ?_))
 go_region_law_o (refine step_copy_runI rfl _ _ 24 24 rfl (.slice (some ⟨w.heap.size,(i+1)*9,none⟩) (n-i) (G- (i+1))) (.slice (some ⟨b,i*9,none⟩) (n-i) (c-i)) (by simp[Act.eval,Act.put]) (by simp[Act.eval,Act.put]) (hcpB _ hF1 hF2 3 (G- (i+1)) (c-i)) ?_)
 go_wp2
 go_ret
 exact⟨rfl,rfl⟩
end Go.Ab
end
section
namespace Go.Ch
open Go Go.Proofs Go.Ab Go.RowKit Go.Shelf Go.Sort

end Go.Ch
end
section
set_option maxRecDepth 100000
namespace Go.Ch
open Go Go.Proofs Go.Ab Go.RowKit
theorem y11{P:Program}{w:World}{g o:Nat}{cur:Array Value}{e:TypeId}{vs:List Value}(hg:w.heap[g]? =some (.cells cur e (0,0)))(hl:o+vs.length<=cur.size)(h1:∀v∈vs,v.oneCell'=true):
 w.setCells g o vs=w.setRow g (cur.toList.take o++vs++cur.toList.drop (o+vs.length)).toArray:=by
 have a:=run_storeCells_at P g o e vs 0 cur w hg (by simpa using hl) h1
 have b:=run_storeCells_cells (P:=P) g o vs 0 w (fun j hj=>by
  unfold World.cell?;simp only[hg,Nat.add_zero];rw[zt (by omega)];rfl) (fun j hj=>by
  unfold World.frozen?;simp only[hg];simp) h1
 rw[a] at b
 simp only[Nat.add_zero] at b
 injection b with _ b
 exact b.symm
theorem z4G(w:World)(g:Nat)(cs:Array Value):(w.setRow g cs).heap.size=w.heap.size:=by unfold World.setRow;simp
section
variable {P:Program} {S:z0m} {m:Ab.Place} {w:World} {F:Fen P}
theorem x1g(hS:SRel F S m w){id:Nat}{o o':Ob}(hid:S id=some o)(hlt:o.len<o'.len)(hsh:o.same o')(hlv:o.live=true)(cap:Nat){w':World}(hos:w'.os=w.os)(htape:w'.tape=w.tape)(hout:w'.output=w.output)
 (hsz:w'.heap.size=w.heap.size+1) (hold:∀c,c<w.heap.size->w'.heap[c]? =w.heap[c]?)
 (ho':FrameExt F S m w (upd S id o') (place m id (some w.heap.size,cap)) w'->z7Z (upd S id o') (place m id (some w.heap.size,cap)) w' (okB F (upd S id o') (place m id (some w.heap.size,cap)) w') o' (some w.heap.size,cap) []):
 SRel F (upd S id o') (place m id (some w.heap.size,cap)) w'/\FrameExt F S m w (upd S id o') (place m id (some w.heap.size,cap)) w':=by
 have hF:FrameExt F S m w (upd S id o') (place m id (some w.heap.size,cap)) w':=by
  refine⟨hos,htape,hout,by omega,fun b hb _=>hold b hb,fun i oi hi=> ?_,fun i oi hi hn=> ?_⟩
  ·by_cases e:i=id
   ·subst e
    rw[hid] at hi;cases hi
    exact⟨o',z0n _ _ _,by omega,fun e=>by omega,fun h=>(by rw[hlv] at h;cases h),fun b hb=> .inr (.inl (by rw[z0v] at hb;simp at hb;omega)),hsh⟩
   ·exact⟨oi,by rw[z0l e];exact hi,Nat.le_refl _,fun _=>z01 e,fun h=>h,fun b hb=> .inl ((z0o e).1 hb),oi.same_refl⟩
  ·by_cases e:i=id
   ·subst e;rw[hid] at hn;cases hn
   ·rw[z0l e] at hi;rw[hi] at hn;cases hn
 refine⟨⟨fun i oi hi=> ?_,fun i j oi oj c hi hj h1 h2=> ?_,fun i oi c hi hm hFb=> ?_,fun i oi c hi hm=> ?_,fun c hc=>Nat.lt_of_lt_of_le (hS.low c hc) hF.size,hS.held hF⟩,hF⟩
 ·by_cases e:i=id
  ·subst e
   rw[z0n] at hi;cases hi
   rw[z0E,z2l];exact ho' hF
  ·rw[z0l e] at hi
   rw[z01 e,z2m e]
   exact(hS.objs i oi hi).persist hF (fun b hm=>hold b (hS.lt i oi b hi hm))
 ·by_cases e:i=id
  ·by_cases e':j=id
   ·rw[e,e']
   ·subst e
    rw[z0v] at h1
    rw[z0o e'] at h2
    rw[z0l e'] at hj
    have:=hS.lt j oj c hj h2
    simp at h1;omega
  ·by_cases e':j=id
   ·subst e'
    rw[z0v] at h2
    rw[z0o e] at h1
    rw[z0l e] at hi
    have:=hS.lt i oi c hi h1
    simp at h2;omega
   ·rw[z0o e] at h1
    rw[z0o e'] at h2
    rw[z0l e] at hi
    rw[z0l e'] at hj
    exact hS.inj i j oi oj c hi hj h1 h2
 ·by_cases e:i=id
  ·subst e
   rw[z0v] at hm
   have:=hS.low c hFb
   simp at hm;omega
  ·rw[z0l e] at hi
   rw[z0o e] at hm
   exact hS.avoid i oi c hi hm hFb
 ·by_cases e:i=id
  ·subst e
   rw[z0v] at hm
   simp at hm;omega
  ·rw[z0l e] at hi
   rw[z0o e] at hm
   have:=hS.lt i oi c hi hm;omega
end
theorem x1h{w:World}{ok:Nat->Prop}{k i:Nat}{xs:List Tree}{x:Tree}{cs vs rest:List Value}(ha:∀y∈xs,Elt k y)(hx:Elt k x)(hi:i<=xs.length)(hcl:cs.length=xs.length*k)(hvl:vs.length=k)
 (hr:∀(j:Nat) (T:Tree) (u:Value),(z1y xs)[j]? =some T->cs[j]? =some u->TRep w ok T u) (hv:∀(j:Nat) (T:Tree) (u:Value),(z1y [x])[j]? =some T->vs[j]? =some u->TRep w ok T u)
 (j:Nat) (T:Tree) (u:Value) (hT:(z1y (xs.take i++x::xs.drop i))[j]? =some T) (hu:(cs.take (i*k)++(vs++cs.drop (i*k))++rest)[j]? =some u):TRep w ok T u:=by
 have hx1:∀y∈[x],Elt k y:=fun y hy=>by rw[List.mem_singleton] at hy;subst hy;exact hx
 have hle:i*k<=xs.length*k:=Nat.mul_le_mul_right k hi
 refine z3g (xs:=xs.take i) (ys:=x::xs.drop i) (fun y hy=>ha y (List.mem_of_mem_take hy)) (n:=i) (by rw[List.length_take];omega) (by rw[List.length_take,hcl];omega) (fun j T u h1 h2=> ?_) (fun j T u h1 h2=> ?_) (fun y hy=> ?_) (by rw[List.length_append,List.length_drop,List.length_cons,List.length_drop,hcl,hvl,Nat.add_mul,Nat.sub_mul];omega) j T u hT hu
 ·rw[z4Z ha,List.getElem?_take] at h1
  rw[List.getElem?_take] at h2
  split at h1
  ·rename_i z;rw[if_pos z] at h2;exact hr j T u h1 h2
  ·cases h1
 ·have h1':(z1y ([x]++xs.drop i))[j]? =some T:=h1
  refine z3g (xs:=[x]) (ys:=xs.drop i) (olds:=vs) (news:=cs.drop (i*k)) (rest:=[]) hx1 (n:=1) rfl (by rw[hvl];omega) hv (fun j T u h1 h2=> ?_) (fun y hy=>ha y (List.mem_of_mem_drop hy)) (by rw[List.length_drop,List.length_drop,hcl,<-Nat.sub_mul]) j T u h1' (by rw[List.append_nil];exact h2)
  rw[y2h ha,List.getElem?_drop] at h1
  rw[List.getElem?_drop] at h2
  exact hr _ T u h1 h2
 ·rcases List.mem_cons.1 hy with rfl|hy
  ·exact hx
  ·exact ha y (List.mem_of_mem_drop hy)
theorem y64{l:List Node}:∀x∈l.map z0i,Elt 9 x:=fun x hx=>by
 obtain⟨r,_,rfl⟩:=List.mem_map.1 hx
 exact⟨rfl,fun T hT=>by
  simp only[z0i,Tree.cells,List.mem_cons,List.not_mem_nil,or_false] at hT
  rcases hT with rfl|rfl|rfl|rfl|rfl|rfl|rfl|rfl|rfl<;>rfl⟩
theorem y8c{α:Type}{us cs vs:List α}{i n:Nat}(hcs:cs=us.take (n*9))(hvs:vs.length=9)(hi:i<n)(hu:(n+1)*9<=us.length):
 ((us.take ((i+1)*9)++cs.drop (i*9)++us.drop ((i+1)*9+(cs.drop (i*9)).length)).take (i*9)++vs++(us.take ((i+1)*9)++cs.drop (i*9)++us.drop ((i+1)*9+(cs.drop (i*9)).length)).drop (i*9+vs.length))=
  cs.take (i*9)++(vs++cs.drop (i*9))++us.drop ((i+1)*9+(cs.drop (i*9)).length):=by
 have t1:(us.take ((i+1)*9)).length=(i+1)*9:=by rw[List.length_take];omega
 rw[List.append_assoc (us.take ((i+1)*9)),List.take_append_of_le_length (by omega),List.take_take,Nat.min_eq_left (by omega),List.drop_append_of_le_length (by omega),hvs,show i*9+9=(i+1)*9 by omega]
 rw[show(us.take ((i+1)*9)).drop ((i+1)*9)=[] from List.drop_eq_nil_of_le (by omega),List.nil_append]
 have e:us.take (i*9)=cs.take (i*9):=by rw[hcs,List.take_take,Nat.min_eq_left (by omega)]
 rw[e]
 simp only[List.append_assoc]
theorem x1i{α:Type}{R cs vs:List α}{i n:Nat}(hcs:cs.length=n*9)(hR:R.take (i*9)=cs.take (i*9))(hvs:vs.length=9)(hi:i<n)(hu:(n+1)*9<=R.length):
 ((R.take (i*9)++vs++R.drop (i*9+vs.length)).take ((i+1)*9)++cs.drop (i*9)++(R.take (i*9)++vs++R.drop (i*9+vs.length)).drop ((i+1)*9+(cs.drop (i*9)).length))=
  cs.take (i*9)++(vs++cs.drop (i*9))++(R.take (i*9)++vs++R.drop (i*9+vs.length)).drop ((i+1)*9+(cs.drop (i*9)).length):=by
 have t1:(R.take (i*9)++vs).length=(i+1)*9:=by rw[List.length_append,List.length_take,hvs];omega
 rw[List.take_append_of_le_length (by omega),List.take_of_length_le (by omega),hR]
 simp only[List.append_assoc]
theorem z4H(k:Nat):(Builtin.zeroCells z5N.cells k).size=k*9/\∀v∈(Builtin.zeroCells z5N.cells k).toList,v.oneCell'=true:=by
 refine⟨by simp[Builtin.zeroCells,z5N,Value.cells],fun v hv=> ?_⟩
 have h9:z5N.cells.size=9:=rfl
 have key:∀i,i<9->(z5N.cells[i]!).oneCell'=true:=by decide
 simp[Builtin.zeroCells] at hv
 obtain⟨w,_,h⟩:=hv
 rw[<-h,h9]
 exact key _ (Nat.mod_lt _ (by decide))
theorem x1j(l:List Node)(n:Node)(i:Nat)(hi:i<l.length)(hl:l.length<=1048576):
 FC Tryz.prog 103 [.row 0 l.length,VI (i:Int),.row 1 1] (app emp [(0,.row 9 false (l.map z0i)),(1,.row 9 false [z0i n])]) (.row 0 (l.take i++n::l.drop i).length) (app emp [(0,.row 9 false ((l.take i++n::l.drop i).map z0i)),(1,.row 9 true [z0i n])]):=by
 intro F m w xs hS hlen hv
 match xs,hlen with
 | [x0,x1,x2],_=>
 have v0:=hv 0 _ _ rfl rfl
 have v1:=hv 1 _ _ rfl rfl
 have v2:=hv 2 _ _ rfl rfl
 have v1:=VRel.sc_inv v1
 subst v1
 have hs0:app emp [(0,Ob.row 9 false (l.map z0i)),(1,.row 9 false [z0i n])] 0=some (.row 9 false (l.map z0i)):=rfl
 have hs1:app emp [(0,Ob.row 9 false (l.map z0i)),(1,.row 9 false [z0i n])] 1=some (.row 9 false [z0i n]):=rfl
 obtain⟨a1,a2,a3,a4,a5⟩:=hS.objs 0 _ hs0
 obtain⟨c1,c2,c3,c4,c5⟩:=hS.objs 1 _ hs1
 cases v0 with
 |rowG _ _ L hs'=>rw[hs0] at hs';cases hs'
 |row _ _ k' fz' xs' L hs' hn' hu'=>
 rw[hs0] at hs';cases hs'
 cases v2 with
 |rowG _ _ L hs'=>rw[hs1] at hs';cases hs'
 |row _ _ k2 fz2 xs2 L2 hs2' hn2' hu2'=>
 rw[hs1] at hs2';cases hs2'
 have hL:=hu' (by simp)
 have hL2:=hu2' rfl
 rw[hL] at a3 a4 a5
 rw[hL2] at c3 c4 c5
 rw[List.length_map] at a3
 have c3:1<=L2.2:=c3
 rcases a5 with⟨q1,q2⟩| ⟨b,us,e,h1,h2,h3,h4,h5⟩
 ·rw[q2] at a3;omega
 rcases c5 with⟨q1,q2⟩| ⟨vb,us2,e2,g1,g2,g3,g4,g5⟩
 ·rw[q2] at c3;omega
 obtain⟨L1,cap⟩:=L
 obtain⟨L3,vc⟩:=L2
 simp only at h1 g1 a3 a4 h3 c3 c4 g3
 subst h1 g1
 have hvb:vb≠b:=fun z=>by
  subst z
  have:=hS.inj 0 1 _ _ vb hs0 hs1 (.inl (by rw[hL])) (.inl (by rw[hL2]))
  cases this
 have hb:b<w.heap.size:=(Array.getElem?_eq_some_iff.1 h2).1
 have hvw:vb<w.heap.size:=(Array.getElem?_eq_some_iff.1 g2).1
 have hul:us.toList.length=us.size:=Array.length_toList
 have hul2:us2.toList.length=us2.size:=Array.length_toList
 have hcs9:(us.toList.take (l.length*9)).length=l.length*9:=by rw[List.length_take,hul];omega
 have hvs9:(us2.toList.take 9).length=9:=by rw[List.length_take,hul2];omega
 have hcell:∀(c:Nat) (A:Array Value) (e:TypeId) (o:Nat),w.heap[c]? =some (.cells A e (0,0))->w.cell? ⟨c,o,none⟩=A[o]? :=fun c A e o h=>by
  unfold World.cell?;simp only[h];rfl
 have hfro:∀(c:Nat) (A:Array Value) (e:TypeId) (o:Nat),w.heap[c]? =some (.cells A e (0,0))->w.frozen? ⟨c,o,none⟩=false:=fun c A e o h=>by
  unfold World.frozen?;simp only[h];simp
 have hcs:∀j v,(us.toList.take (l.length*9))[j]? =some v->w.cell? ⟨b,j,none⟩=some v:=fun j v hj=>by
  rw[List.getElem?_take] at hj
  split at hj
  ·rw[hcell b us e j h2];simpa using hj
  ·cases hj
 have hvs:∀j v,(us2.toList.take 9)[j]? =some v->w.cell? ⟨vb,j,none⟩=some v:=fun j v hj=>by
  rw[List.getElem?_take] at hj
  split at hj
  ·rw[hcell vb us2 e2 j g2];simpa using hj
  ·cases hj
 have h1c:∀v∈us.toList.take (l.length*9),v.oneCell'=true:=fun v hv=>by
  obtain⟨j,hj⟩:=List.getElem?_of_mem (List.mem_of_mem_take hv)
  exact h4 j v (by simpa using hj)
 have h1v:∀v∈us2.toList.take 9,v.oneCell'=true:=fun v hv=>by
  obtain⟨j,hj⟩:=List.getElem?_of_mem (List.mem_of_mem_take hv)
  exact g4 j v (by simpa using hj)
 have hr:∀(j:Nat) (T:Tree) (u:Value),(z1y (l.map z0i))[j]? =some T->(us.toList.take (l.length*9))[j]? =some u->TRep w (okB F _ m w) T u:=fun j T u hT hu=>by
  rw[List.getElem?_take] at hu
  split at hu
  ·exact h5 j T u hT (by simpa using hu)
  ·cases hu
 have hrv:∀(j:Nat) (T:Tree) (u:Value),(z1y [z0i n])[j]? =some T->(us2.toList.take 9)[j]? =some u->TRep w (okB F _ m w) T u:=fun j T u hT hu=>by
  rw[List.getElem?_take] at hu
  split at hu
  ·exact g5 j T u hT (by simpa using hu)
  ·cases hu
 have hnl:(l.take i++n::l.drop i).length=l.length+1:=by rw[List.length_append,List.length_cons,List.length_take,List.length_drop];omega
 have hmap:(l.take i++n::l.drop i).map z0i=(l.map z0i).take i++z0i n::(l.map z0i).drop i:=by rw[List.map_append,List.map_cons,List.map_take,List.map_drop]
 have hnE:Elt 9 (z0i n):=y64 (l:=[n]) _ (by simp)
 generalize hcsD:us.toList.take (l.length*9)=cs at*
 generalize hvsD:us2.toList.take 9=vs at*
 have cells:∀{S':z0m} {m':Ab.Place} {w':World},FrameExt F (app emp [(0,Ob.row 9 false (l.map z0i)),(1,.row 9 false [z0i n])]) m w S' m' w'->∀(rest:List Value) (j:Nat) (T:Tree) (u:Value),(z1y ((l.take i++n::l.drop i).map z0i))[j]? =some T->
  (cs.take (i*9)++(vs++cs.drop (i*9))++rest)[j]? =some u->TRep w' (okB F S' m' w') T u:=fun hF rest j T u hT hu=>by
  rw[hmap] at hT
  exact hF.tree (x1h (k:=9) a2 hnE (by rw[List.length_map];omega) (by rw[List.length_map];exact hcs9) hvs9 hr hrv j T u hT hu)
 have elts:∀x∈(l.take i++n::l.drop i).map z0i,Elt 9 x:=y64
 have fin:∀{m':Ab.Place} {w':World},SRel F (upd (app emp [(0,Ob.row 9 false (l.map z0i)),(1,.row 9 false [z0i n])]) 0 (.row 9 false ((l.take i++n::l.drop i).map z0i))) m' w'->
  FrameExt F (app emp [(0,Ob.row 9 false (l.map z0i)),(1,.row 9 false [z0i n])]) m w (upd (app emp [(0,Ob.row 9 false (l.map z0i)),(1,.row 9 false [z0i n])]) 0 (.row 9 false ((l.take i++n::l.drop i).map z0i))) m' w'->
  ∃m2,SRel F (app emp [(0,.row 9 false ((l.take i++n::l.drop i).map z0i)),(1,.row 9 true [z0i n])]) m2 w'/\FrameExt F (app emp [(0,Ob.row 9 false (l.map z0i)),(1,.row 9 false [z0i n])]) m w (app emp [(0,.row 9 false ((l.take i++n::l.drop i).map z0i)),(1,.row 9 true [z0i n])]) m2 w'/\m2 0=m' 0:=fun r1 r2=>by
  obtain⟨f1,f2⟩:=Ab.freeze r1 (id:=1) (k:=9) (fz:=false) (xs:=[z0i n]) rfl
  have e:upd (upd (app emp [(0,Ob.row 9 false (l.map z0i)),(1,.row 9 false [z0i n])]) 0 (.row 9 false ((l.take i++n::l.drop i).map z0i))) 1 (.row 9 true [z0i n])=app emp [(0,.row 9 false ((l.take i++n::l.drop i).map z0i)),(1,.row 9 true [z0i n])]:=by
   funext j
   match j with
   |0=>rfl
   |1=>rfl
   |j+2=>rfl
  rw[e] at f1 f2
  exact⟨_,f1,FrameExt.trans hS r2 f2,rfl⟩
 have ea:([z0J (some b,cap) l.length,Value.int .i64 i,z0J (some vb,vc) 1].toArray:Array Value)=#[Value.slice (some ⟨b,0,none⟩) l.length cap,.int .i64 i,.slice (some ⟨vb,0,none⟩) 1 vc]:=by simp[z0J]
 rw[ea]
 by_cases hroom:l.length+1<=cap
 ·have key:=y3K b l.length cap i vb vc cs vs w hi hroom (by unfold maxLen at a4;omega) hvb hcs9 hvs9 hcs (fun j hj=>by rw[hcell b us e j h2,Array.getElem?_eq_getElem (by omega)];rfl) (fun j _=>hfro b us e j h2) hvs h1c h1v
   e2 e us2.size us.size (by unfold World.shape?;rw[g2]) (by unfold World.shape?;rw[h2]) (by omega) (hfro vb us2 e2 0 g2) (hfro vb us2 e2 _ g2)
  refine key.mono ?_
  rintro ee w' ⟨rfl,rfl⟩
  have d2:w.drew.heap[b]? =some (.cells us e (0,0)):=h2
  have hdl:(cs.drop (i*9)).length=(l.length-i)*9:=by rw[List.length_drop,hcs9];omega
  have s1:=y11 (P:=Tryz.prog) (vs:=cs.drop (i*9)) (o:=(i+1)*9) d2 (by rw[hdl];omega) (fun v hv=>h1c v (List.mem_of_mem_drop hv))
  have r1:=setRow_heap w.drew b us (us.toList.take ((i+1)*9)++cs.drop (i*9)++us.toList.drop ((i+1)*9+(cs.drop (i*9)).length)).toArray e (0,0) d2
  rw[<-s1] at r1
  have hA:(us.toList.take ((i+1)*9)++cs.drop (i*9)++us.toList.drop ((i+1)*9+(cs.drop (i*9)).length)).toArray.size=us.size:=by
   simp only[List.size_toArray,List.length_append,List.length_take,List.length_drop,hul,hcs9];omega
  have s2:=y11 (P:=Tryz.prog) (vs:=vs) (o:=i*9) r1 (by rw[hA,hvs9];omega) h1v
  have r2:=setRow_heap _ b _ ((us.toList.take ((i+1)*9)++cs.drop (i*9)++us.toList.drop ((i+1)*9+(cs.drop (i*9)).length)).toArray.toList.take (i*9)++vs++(us.toList.take ((i+1)*9)++cs.drop (i*9)++us.toList.drop ((i+1)*9+(cs.drop (i*9)).length)).toArray.toList.drop (i*9+vs.length)).toArray e (0,0) r1
  rw[<-s2] at r2
  have hw':(w.drew.setCells b ((i+1)*9) (cs.drop (i*9))).setCells b (i*9) vs=((w.drew.setRow b (us.toList.take ((i+1)*9)++cs.drop (i*9)++us.toList.drop ((i+1)*9+(cs.drop (i*9)).length)).toArray).setRow b
   ((us.toList.take ((i+1)*9)++cs.drop (i*9)++us.toList.drop ((i+1)*9+(cs.drop (i*9)).length)).toArray.toList.take (i*9)++vs++(us.toList.take ((i+1)*9)++cs.drop (i*9)++us.toList.drop ((i+1)*9+(cs.drop (i*9)).length)).toArray.toList.drop (i*9+vs.length)).toArray):=by rw[s2,s1]
  have hsh:=y8c (vs:=vs) hcsD.symm hvs9 hi (by omega)
  simp only[List.toList_toArray] at r2 hw'
  rw[hsh] at r2 hw'
  have hsz:(cs.take (i*9)++(vs++cs.drop (i*9))++us.toList.drop ((i+1)*9+(cs.drop (i*9)).length)).length=us.size:=by
   simp only[List.length_append,List.length_take,List.length_drop,hul,hcs9,hvs9];omega
  have r:=z09 (o':= .row 9 false ((l.take i++n::l.drop i).map z0i)) hS hs0 rfl (by rw[hL]) (w':=(w.drew.setCells b ((i+1)*9) (cs.drop (i*9))).setCells b (i*9) vs) (by rw[hw'];rfl) (by rw[hw'];rfl) (by rw[hw'];rfl)
   (by rw[hw',z4G,z4G];rfl) (fun c hc=>by rw[hw',setRow_other _ _ _ _ hc,setRow_other _ _ _ _ hc];rfl) (by simp only[Ob.len,List.length_map,hnl];omega) (by simp[Ob.same]) (fun hF=>by
    rw[hL]
    refine⟨a1,elts,by rw[List.length_map,hnl];exact hroom,a4,.inr ⟨b,_,e,rfl,r2,by rw[List.size_toArray,hsz];exact h3,fun j u hu=> ?_,fun j T u hT hu=>cells hF _ j T u hT (by simpa using hu)⟩⟩
    have hm:=List.mem_of_getElem? (show(cs.take (i*9)++(vs++cs.drop (i*9))++us.toList.drop ((i+1)*9+(cs.drop (i*9)).length))[j]? =some u by simpa using hu)
    rcases List.mem_append.1 hm with hm|hm
    ·rcases List.mem_append.1 hm with hm|hm
     ·exact h1c u (List.mem_of_mem_take hm)
     ·rcases List.mem_append.1 hm with hm|hm
      ·exact h1v u hm
      ·exact h1c u (List.mem_of_mem_drop hm)
    ·obtain⟨q,hq⟩:=List.getElem?_of_mem (List.mem_of_mem_drop hm)
     exact h4 q u (by simpa using hq))
  obtain⟨m2,f1,f2,f3⟩:=fin r.1 r.2
  refine⟨_,m2,rfl,f1,f2,?_⟩
  rw[hnl]
  exact .row 0 (l.length+1) 9 false _ (some b,cap) rfl (by rw[List.length_map,hnl];exact Nat.le_refl _) (fun _=>by rw[f3,hL])
 ·have key:=y41 b l.length cap i vb vc cs vs w hi a3 (by omega) (by omega) hcs9 hvs9 hcs hvs h1c h1v
  refine key.mono ?_
  rintro ee w' ⟨rfl,rfl⟩
  generalize hG:grownCap w (l.length+1) cap 48=G
  have hGn:l.length+1<=G:=by rw[<-hG];exact grownCap_ge w _ _ _
  have hGm:G<=maxLen:=by rw[<-hG];exact grownCap_le_maxLen w (l.length+1) cap 48 (by unfold maxLen;omega)
  generalize hR:(cs.take (i*9)).toArray++Builtin.zeroCells z5N.cells (l.length+1-i)++Builtin.zeroCells z5N.cells (G- (l.length+1))=R
  have hRs:R.size=G*9:=by
   rw[<-hR,Array.size_append,Array.size_append,(z4H _).1,(z4H _).1,List.size_toArray,List.length_take,hcs9];omega
  have hRt:R.toList.take (i*9)=cs.take (i*9):=by
   rw[<-hR];simp only[Array.toList_append]
   rw[List.append_assoc,List.take_append_of_le_length (by rw[List.length_take,hcs9];omega),List.take_take,Nat.min_self]
  have hR1:∀v∈R.toList,v.oneCell'=true:=fun v hv=>by
   rw[<-hR] at hv
   simp only[Array.toList_append,List.mem_append,List.toList_toArray] at hv
   rcases hv with(hv|hv)|hv
   ·exact h1c v (List.mem_of_mem_take hv)
   ·exact(z4H _).2 v hv
   ·exact(z4H _).2 v hv
  have hRl:R.toList.length=R.size:=Array.length_toList
  have d2:(w.alloc (.cells R 48)).drew.heap[w.heap.size]? =some (.cells R 48 (0,0)):=Ab.alloc_new w _
  have hdl:(cs.drop (i*9)).length=(l.length-i)*9:=by rw[List.length_drop,hcs9];omega
  have s1:=y11 (P:=Tryz.prog) (vs:=vs) (o:=i*9) d2 (by rw[hvs9];omega) h1v
  have r1:=setRow_heap (w.alloc (.cells R 48)).drew w.heap.size R (R.toList.take (i*9)++vs++R.toList.drop (i*9+vs.length)).toArray 48 (0,0) d2
  rw[<-s1] at r1
  have hA:(R.toList.take (i*9)++vs++R.toList.drop (i*9+vs.length)).toArray.size=R.size:=by
   simp only[List.size_toArray,List.length_append,List.length_take,List.length_drop,hRl,hvs9];omega
  have r1':((w.alloc (.cells R 48)).drew.setCells w.heap.size (i*9) vs).drew.heap[w.heap.size]? =_:=r1
  have s2:=y11 (P:=Tryz.prog) (vs:=cs.drop (i*9)) (o:=(i+1)*9) r1' (by rw[hA,hdl];omega) (fun v hv=>h1c v (List.mem_of_mem_drop hv))
  have r2:=setRow_heap _ w.heap.size _ ((R.toList.take (i*9)++vs++R.toList.drop (i*9+vs.length)).toArray.toList.take ((i+1)*9)++cs.drop (i*9)++(R.toList.take (i*9)++vs++R.toList.drop (i*9+vs.length)).toArray.toList.drop ((i+1)*9+(cs.drop (i*9)).length)).toArray 48 (0,0) r1'
  rw[<-s2] at r2
  have hgl:=x1i (R:=R.toList) (vs:=vs) hcs9 hRt hvs9 hi (by omega)
  have hw':=s2
  rw[s1] at hw'
  simp only[List.toList_toArray] at r2 hw'
  rw[hgl] at r2 hw'
  generalize hrest:(R.toList.take (i*9)++vs++R.toList.drop (i*9+vs.length)).drop ((i+1)*9+(cs.drop (i*9)).length)=rest at r2 hw'
  have hrl:rest.length=G*9- (l.length+1)*9:=by
   rw[<-hrest];simp only[List.length_append,List.length_take,List.length_drop,hRl,hvs9,hcs9];omega
  have hsz:(cs.take (i*9)++(vs++cs.drop (i*9))++rest).length=G*9:=by
   simp only[List.length_append,List.length_take,List.length_drop,hcs9,hvs9,hrl];omega
  have hcW:∀c,c<w.heap.size->(((w.alloc (.cells R 48)).drew.setCells w.heap.size (i*9) vs).drew.setCells w.heap.size ((i+1)*9) (cs.drop (i*9))).heap[c]? =w.heap[c]? :=fun c hc=>by
   rw[s2,setRow_other _ _ _ _ (by omega)]
   show((w.alloc (.cells R 48)).drew.setCells w.heap.size (i*9) vs).heap[c]? =_
   rw[s1,setRow_other _ _ _ _ (by omega)]
   exact Ab.alloc_old w _ c hc
  have hszW:(((w.alloc (.cells R 48)).drew.setCells w.heap.size (i*9) vs).drew.setCells w.heap.size ((i+1)*9) (cs.drop (i*9))).heap.size=w.heap.size+1:=by
   rw[s2,z4G]
   show((w.alloc (.cells R 48)).drew.setCells w.heap.size (i*9) vs).heap.size=_
   rw[s1,z4G]
   show(w.alloc (.cells R 48)).heap.size=_
   simp
  have key3:∀{α:Type} (f:World->α),(∀w:World,f w.drew=f w)->(∀(w:World) g A,f (w.setRow g A)=f w)->f (((w.alloc (.cells R 48)).drew.setCells w.heap.size (i*9) vs).drew.setCells w.heap.size ((i+1)*9) (cs.drop (i*9)))=f (w.alloc (.cells R 48)):=fun f f1 f2=>by
   rw[s2,f2,f1,s1,f2,f1]
  have r:=x1g (o':= .row 9 false ((l.take i++n::l.drop i).map z0i)) hS hs0 (by simp only[Ob.len,List.length_map,hnl];omega) (by simp[Ob.same]) rfl G (key3 (·.os) (fun _=>rfl) (fun _ _ _=>rfl)) (key3 (·.tape) (fun _=>rfl) (fun _ _ _=>rfl)) (key3 (·.output) (fun _=>rfl) (fun _ _ _=>rfl)) hszW hcW
   (fun hF=>by
    refine⟨a1,elts,by rw[List.length_map,hnl];exact hGn,hGm,.inr ⟨_,_,48,rfl,r2,by rw[List.size_toArray,hsz],fun j u hu=> ?_,fun j T u hT hu=>cells hF rest j T u hT (by simpa using hu)⟩⟩
    have hm:=List.mem_of_getElem? (show(cs.take (i*9)++(vs++cs.drop (i*9))++rest)[j]? =some u by simpa using hu)
    rcases List.mem_append.1 hm with hm|hm
    ·rcases List.mem_append.1 hm with hm|hm
     ·exact h1c u (List.mem_of_mem_take hm)
     ·rcases List.mem_append.1 hm with hm|hm
      ·exact h1v u hm
      ·exact h1c u (List.mem_of_mem_drop hm)
    ·rw[<-hrest] at hm
     have hm:=List.mem_of_mem_drop hm
     rcases List.mem_append.1 hm with hm|hm
     ·rcases List.mem_append.1 hm with hm|hm
      ·exact hR1 u (List.mem_of_mem_take hm)
      ·exact h1v u hm
     ·exact hR1 u (List.mem_of_mem_drop hm))
  obtain⟨m2,f1,f2,f3⟩:=fin r.1 r.2
  refine⟨_,m2,rfl,f1,f2,?_⟩
  rw[hnl]
  exact .row 0 (l.length+1) 9 false _ (some w.heap.size,G) rfl (by rw[List.length_map,hnl];exact Nat.le_refl _) (fun _=>by rw[f3,z0E])
end Go.Ch
end
section
set_option maxRecDepth 100000
set_option maxHeartbeats 4000000
open Go Go.Proofs Go.Ab
namespace Go.Ch
theorem y42(l:List DStep)(hd:DN 400000000000 l)(hv:z1g l):FC Tryz.prog 106 [VL 4 z0d l] (app emp []) (.tup [VI (z1Q l),VI (z2c l),VI 0]) (app emp []):=by
 refine .go Tryz.f106 ?_
 refine .len 0 (fun hl0=> ?_)
 have hc:=z1r.2 hv
 refine .bp [.r [],.r [(1,X (Xc0 (z2O l (by assumption)) X0))],.r []] ((z1u l) !=0) (fun h2=> ?_) (fun h2=> ?_)
 ·
  exfalso
  omega
 ·
  exact .fin [.r [(1,X (Xc0 (z61 l (by assumption)) X0))],.r []] []
theorem x3h(l:List DStep):FC Tryz.prog 107 [VL 4 z0d l] (app emp []) (VB (z6Y l)) (app emp []):=by
 refine .go Tryz.f107 ?_
 refine .len 0 (fun hl0=> ?_)
 have e1:((z6Y l):Bool)=(decide ((l.length:Int)> 0)&&((((l.getD (l.length- 1) default)).kind)==0)):=by
  rfl
 exact .finE [.r [],.r [(1,X (Xl z0d l)),(6,Xv 1 (decide ((l.length:Int)> 0)) (Xl z0d l)),(7,Xv 1 (decide ((l.length:Int)> 0)) (Xn ((l.length:Int)- 1))),(8,Xv 2 (decide ((l.length:Int)> 0)) (Xi' z0d l ((l.length:Int)- 1) (l.length- 1))),(9,Xv 1 (decide ((l.length:Int)> 0)) X0),(10,Xv 1 (decide ((l.length:Int)> 0)) X0),(11,Xv 1 (decide ((l.length:Int)> 0)) X0),(12,X (Xk (decide ((l.length:Int)> 0))))]] [] (fun z0:Bool=>(VB z0,[])) _ _ e1
theorem x1k(l:List Node)(n:Node)(j:Nat)(hl:l.length<=1048576)(hj:j=l.length):FC Tryz.prog 103 [.row 0 l.length,VI (j:Int),.row 1 1] (app emp [(0,OR 9 z0i l),(1,OR 9 z0i [n])]) (.row 0 ((l++[n]).length)) (app emp [(0,OR 9 z0i (l++[n])),(1,OF 9 z0i [n])]):=by
 refine .go Tryz.f103 ?_
 refine .bp [.r [],.r [(2,X (Xtl z0i l.length l (j:Int)))],.r [],.r [],.f,.r [],.r []] ((j:Int)==(l.length:Int)) (fun h6=> ?_) (fun h6=> ?_)
 ·
  exact .fin [.r [(2,X (z0Y z0i [n] (x7K 9 z0i 0 l [n])))],.le (.fz 1)] [(0,0),(1,1)]
 ·
  exfalso
  omega
theorem x51(l:List Node)(n:Node)(j:Nat)(hl:l.length<=1048576)(hj:j<=l.length):FC Tryz.prog 103 [.row 0 l.length,VI (j:Int),.row 1 1] (app emp [(0,.row 9 false (l.map z0i)),(1,.row 9 false [z0i n])]) (.row 0 (l.take j++n::l.drop j).length) (app emp [(0,.row 9 false ((l.take j++n::l.drop j).map z0i)),(1,.row 9 true [z0i n])]):=by
 by_cases e:j=l.length
 ·have h:=x1k l n j hl e
  have q:l.take j++n::l.drop j=l++[n]:=by rw[e,List.take_length,List.drop_length]
  rw[q];exact h
 ·exact x1j l n j (by omega) hl
theorem y8d(l:List Node)(n:Node)(hl:l.length<=1048575)(hs:z1i l)(hb:NodeB n):FC Tryz.prog 48 [.ptr 0 0,.t (z0i n)] (app emp [(0,.box [.row 1 l.length]),(1,OR 9 z0i l)]) (VI (y0i l n)) (app emp [(0,.box [.row 1 ((z9R l n).length)]),(1,OR 9 z0i (z9R l n))]):=by
 refine .go Tryz.f48 ?_
 have hl1:l.length<=1048576:=by omega
 refine .bp [.r [],.r [(5,X (Xc0 (z8r ({nodes:=l}:Doc) n.id (by assumption) (by assumption)) (z0Y z0i l X0)))]] (decide ((ixN (({nodes:=l}:Doc)).nodes n.id)>=0)) (fun h1=> ?_) (fun h1=> ?_)
 ·
  have T:=x2s (l:=l) (n:=n) (y54.1 h1)
  have e1:((z9R l n).length:Nat)=l.length:=by
   rw[T.1]
  have e2:((z9R l n):List Node)=l:=by
   exact T.1
  have e3:((y0i l n):Int)=6:=by
   exact T.2
  exact .finE [.r []] [(0,0),(1,1)] (fun((z0,z1,z2):Nat×(List Node)×Int)=>(VI z2,[(0,.box [.row 1 z0]),(1,OR 9 z0i z1)])) _ _ (pr e1 (pr e2 e3))
 ·
  have hh:z14 l n.id=false:=y55.1 h1
  refine .bp [.r [(6,X (Xc1 122 (y22 n (by assumption)) X0)),(7,X (Xc0 (z6X ({nodes:=l}:Doc) n.kind (z2x n) (by assumption) (by assumption)) (z0Y z0i l X0)))],.r []] ((z1c (({nodes:=l}:Doc)).nodes n.kind (z2x n) 0) !=0) (fun h4=> ?_) (fun h4=> ?_)
  ·
   have T:=x8e hh h4
   have e4:((z9R l n).length:Nat)=l.length:=by
    rw[T.1]
   have e5:((z9R l n):List Node)=l:=by
    exact T.1
   have e6:((y0i l n):Int)=(z1c (({nodes:=l}:Doc)).nodes n.kind (z2x n) 0):=by
    exact T.2
   exact .finE [.r []] [(0,0),(1,1)] (fun((z0,z1,z2):Nat×(List Node)×Int)=>(VI z2,[(0,.box [.row 1 z0]),(1,OR 9 z0i z1)])) _ _ (pr e4 (pr e5 e6))
  ·
   obtain⟨s1,s2,s3⟩:=z2w l n.id
   refine .loop (α:=Nat) [.r []] 170 (fun i=>([(0,.ptr 0 0),(3,.ptr 2 0),(6,VI (i:Int))],[(0,.box [.row 1 l.length]),(1,OR 9 z0i l),(2,.box [VI n.id,VI n.kind,VL 2 z0a n.attrs,VL 3 z0c n.flow,VI n.grid.rows,VI n.grid.cols,VL 5 z0k n.grid.cells,VL 4 z0t n.grid.merges,VL 8 z0R n.draw])])) (fun i=>i<=z0x l n.id) (fun i=>l.length-i) (0:Nat) ?_ ?_
   ·
    exact qS _
   rintro i I7 ih7
   try dsimp only at I7
   refine .bp [.r [(9,Xv 1 (decide ((i:Int)< (l.length:Int))) X0),(10,Xv 1 (decide ((i:Int)< (l.length:Int))) X0),(11,Xv 1 (decide ((i:Int)< (l.length:Int))) X0),(13,Xv 2 (decide ((i:Int)< (l.length:Int))) (Xp z0i l (i:Int))),(14,Xv 1 (decide ((i:Int)< (l.length:Int))) X0),(15,Xv 1 (decide ((i:Int)< (l.length:Int))) (Xe z0i l i)),(17,Xv 1 (decide ((i:Int)< (l.length:Int))) X0),(18,Xv 2 (decide ((i:Int)< (l.length:Int))) X0),(19,X (Xk (decide ((i:Int)< (l.length:Int)))))]] (decide ((i:Int)< (l.length:Int))&&decide ((((l.getD i default)).id)< n.id)) (fun h7=> ?_) (fun h7=> ?_)
   ·
    refine .back [.r [(1,X (Xn ((i:Int)+1)))]] [(0,0),(1,1),(2,2)] (ih7 ((i+1):Nat) ?_ ?_)
    ·
     exact y9C hs (by omega) h7.2
    ·
     ((try dsimp only);omega)
   ·
    have hi:i=z0x l n.id:=by(apply qc;intro q;have:=s2 i (by omega);rcases h7 with h|h<;>omega)
    have T:=x8g hh h4
    rw[<-hi] at T
    have e7:((z9R l n).length:Nat)=((l).take i++n::(l).drop i).length:=by
     rw[T.1]
    have e8:((z9R l n):List Node)=((l).take i++n::(l).drop i):=by
     exact T.1
    have e9:((y0i l n):Int)=0:=by
     exact T.2
    exact .finE [.r [(7,X (Xc1 386 (z6Z n (by assumption)) X0)),(9,X (Xc3 402 [(0,1),(1,394)] (x51 l n i (by omega) (by omega)) X0))],.r []] [(0,0),(1,1)] (fun((z0,z1,z2):Nat×(List Node)×Int)=>(VI z2,[(0,.box [.row 1 z0]),(1,OR 9 z0i z1)])) _ _ (pr e7 (pr e8 e9))
theorem x1l(l:List Node)(i:Nat)(s:List DStep)(hi:i<l.length)(hb:FlB l i s):FC Tryz.prog 51 [.ptr 0 0,.eptr 1 l.length i 0,VL 4 z0d s] (app emp [(0,.box [.row 1 l.length]),(1,OR 9 z0i l)]) (VI (z1v l (l.getD i default) s)) (app emp [(0,.box [.row 1 ((z15 l i s).length)]),(1,OR 9 z0i (z15 l i s))]):=by
 refine .go Tryz.f51 ?_
 refine .len 2 (fun hl2=> ?_)
 obtain⟨hl1,hs,hd,hv,hf⟩:=hb
 refine .bp [.r [],.r [(3,X (Xe z0i l i)),(4,X (Xc0 (z8l (((l.getD i default)).kind)) X0))],.r [(4,Xv 1 (!(z1o (((l.getD i default)).kind))) X0),(5,Xv 1 (!(z1o (((l.getD i default)).kind))) X0),(6,Xv 1 (!(z1o (((l.getD i default)).kind))) (Xe z0i l i)),(7,Xv 1 (!(z1o (((l.getD i default)).kind))) (Xc0 (y5U (((l.getD i default)).kind)) X0)),(8,Xv 1 (!(z1o (((l.getD i default)).kind))) X0),(9,X (Xk (!(z1o (((l.getD i default)).kind)))))]] (!(z1o (((l.getD i default)).kind))&& !(z3V (((l.getD i default)).kind))) (fun h2=> ?_) (fun h2=> ?_)
 ·
  have T:=y29 (i:=i) (x9M (s:=s) h2) (by decide)
  have e1:((z15 l i s).length:Nat)=l.length:=by
   rw[T.1]
  have e2:((z15 l i s):List Node)=l:=by
   exact T.1
  have e3:((z1v l (l.getD i default) s):Int)=8:=by
   exact T.2
  exact .finE [.r []] [(0,0),(1,1)] (fun((z0,z1,z2):Nat×(List Node)×Int)=>(VI z2,[(0,.box [.row 1 z0]),(1,OR 9 z0i z1)])) _ _ (pr e1 (pr e2 e3))
 ·
  refine .bp [.r [(1,X (Xc0 (y42 s (by assumption) (by assumption)) X0))],.r [(4,X (Xe z0i l i)),(5,X (Xl z0c (((l.getD i default)).flow)))]] ((z1Q s) !=((((l.getD i default)).flow).length:Int)) (fun h5=> ?_) (fun h5=> ?_)
  ·
   have T:=y29 (i:=i) (x9N h2 h5) (by decide)
   have e4:((z15 l i s).length:Nat)=l.length:=by
    rw[T.1]
   have e5:((z15 l i s):List Node)=l:=by
    exact T.1
   have e6:((z1v l (l.getD i default) s):Int)=14:=by
    exact T.2
   exact .finE [.r []] [(0,0),(1,1)] (fun((z0,z1,z2):Nat×(List Node)×Int)=>(VI z2,[(0,.box [.row 1 z0]),(1,OR 9 z0i z1)])) _ _ (pr e4 (pr e5 e6))
  ·
   refine .bp [.r [(3,Xv 1 (z1o (((l.getD i default)).kind)) (Xc0 (x3h s) X0)),(4,Xv 1 (z1o (((l.getD i default)).kind)) X0),(5,X (Xk (z1o (((l.getD i default)).kind))))]] ((z1o (((l.getD i default)).kind))&& !(z6Y s)) (fun h7=> ?_) (fun h7=> ?_)
   ·
    have T:=y29 (i:=i) (x9O h2 h5 h7) (by decide)
    have e7:((z15 l i s).length:Nat)=l.length:=by
     rw[T.1]
    have e8:((z15 l i s):List Node)=l:=by
     exact T.1
    have e9:((z1v l (l.getD i default) s):Int)=4:=by
     exact T.2
    exact .finE [.r []] [(0,0),(1,1)] (fun((z0,z1,z2):Nat×(List Node)×Int)=>(VI z2,[(0,.box [.row 1 z0]),(1,OR 9 z0i z1)])) _ _ (pr e7 (pr e8 e9))
   ·
    have F:=x9P (l:=l) h2 h5 h7
    refine .loop (α:=Nat) [.r [(1,X (Xl z0d s))]] 338 (fun a=>([(0,.ptr 0 0),(1,.eptr 1 l.length i 0),(2,VL 4 z0d s),(7,VB (z1o (((l.getD i default)).kind))),(50,VL 4 z0d s),(51,VI (s.length:Int)),(52,VI (a:Int))],[(0,.box [.row 1 l.length]),(1,OR 9 z0i l)])) (fun a=>a<=s.length/\y7G l (l.getD i default).kind s=y7G l (l.getD i default).kind (s.drop a)) (fun a=>s.length-a) (0:Nat) ?_ ?_
    ·
     exact⟨by omega,rfl⟩
    rintro a I10 ih10
    try dsimp only at I10
    refine .bp [.r []] (decide ((a:Int)< (s.length:Int))) (fun h10=> ?_) (fun h10=> ?_)
    ·
     have hd1:=(hd _ (z0j (l:=s) (i:=a) (by omega))).1
     refine .loop (α:=Nat) [.r [(0,X (Xi z0d s (a:Int)))],.r [(2,X (Xl z0c (((s.getD a default)).elems)))]] 410 (fun b=>([(0,.ptr 0 0),(1,.eptr 1 l.length i 0),(2,VL 4 z0d s),(7,VB (z1o (((l.getD i default)).kind))),(50,VL 4 z0d s),(51,VI (s.length:Int)),(52,VI (a:Int)),(57,VL 3 z0c (((s.getD a default)).elems)),(58,VI ((((s.getD a default)).elems).length:Int)),(59,VI (b:Int))],[(0,.box [.row 1 l.length]),(1,OR 9 z0i l)])) (fun b=>b<=(s.getD a default).elems.length/\y7G l (l.getD i default).kind s=if z2z (y3P l (l.getD i default).kind) ((s.getD a default).elems.drop b)≠0 then z2z (y3P l (l.getD i default).kind) ((s.getD a default).elems.drop b) else y7G l (l.getD i default).kind (s.drop (a+1))) (fun b=>(s.getD a default).elems.length-b) (0:Nat) ?_ ?_
     ·
      exact⟨by omega,by rw[I10.2];exact z4f _ (by omega)⟩
     rintro b I13 ih13
     try dsimp only at I13
     refine .bp [.r []] (decide ((b:Int)< ((((s.getD a default)).elems).length:Int))) (fun h13=> ?_) (fun h13=> ?_)
     ·
      refine .bp [.r [(0,X (Xi z0c (((s.getD a default)).elems) (b:Int)))],.r [(5,Xv 1 (((((((s.getD a default)).elems).getD b default)).ref)==0) X0),(6,X (Xk (((((((s.getD a default)).elems).getD b default)).ref)==0)))]] ((((((((s.getD a default)).elems).getD b default)).ref)==0)&& !(z1o (((l.getD i default)).kind))) (fun h15=> ?_) (fun h15=> ?_)
      ·
       have hx:y3P l (l.getD i default).kind ((s.getD a default).elems.getD b default)=8:=x6K h15
       have T:=y29 (i:=i) (k:=8) (F.trans (I13.2.trans (by rw[z4f _ (by omega),hx];rfl))) (by decide)
       have e10:((z15 l i s).length:Nat)=l.length:=by
        rw[T.1]
       have e11:((z15 l i s):List Node)=l:=by
        exact T.1
       have e12:((z1v l (l.getD i default) s):Int)=8:=by
        exact T.2
       exact .finE [.r []] [(0,0),(1,1)] (fun((z0,z1,z2):Nat×(List Node)×Int)=>(VI z2,[(0,.box [.row 1 z0]),(1,OR 9 z0i z1)])) _ _ (pr e10 (pr e11 e12))
      ·
       refine .bp [.r [(6,X (Xe z0i l i)),(9,X (Xc1 578 (z88 [(((((s.getD a default)).elems).getD b default))] (by first|omega|simp)) (z0Y z0c [(((((s.getD a default)).elems).getD b default))] X0))),(10,X (Xc0 (z6X ({nodes:=l}:Doc) (((l.getD i default)).kind) (z2N [(((((s.getD a default)).elems).getD b default))]) (by assumption) (by assumption)) (z0Y z0i l (z0Y z0B (z2N [(((((s.getD a default)).elems).getD b default))]) X0))))],.r []] ((z1c (({nodes:=l}:Doc)).nodes (((l.getD i default)).kind) (z2N [(((((s.getD a default)).elems).getD b default))]) 0) !=0) (fun h18=> ?_) (fun h18=> ?_)
       ·
        have hx:y3P l (l.getD i default).kind ((s.getD a default).elems.getD b default)=z1c l (l.getD i default).kind (z2N [((s.getD a default).elems.getD b default)]) 0:=x3G h15
        have T:=y29 (i:=i) (F.trans (I13.2.trans (by rw[z4f _ (by omega),hx,if_pos h18,if_pos h18]))) h18
        have e13:((z15 l i s).length:Nat)=l.length:=by
         rw[T.1]
        have e14:((z15 l i s):List Node)=l:=by
         exact T.1
        have e15:((z1v l (l.getD i default) s):Int)=(z1c (({nodes:=l}:Doc)).nodes (((l.getD i default)).kind) (z2N [(((((s.getD a default)).elems).getD b default))]) 0):=by
         exact T.2
        exact .finE [.r []] [(0,0),(1,1)] (fun((z0,z1,z2):Nat×(List Node)×Int)=>(VI z2,[(0,.box [.row 1 z0]),(1,OR 9 z0i z1)])) _ _ (pr e13 (pr e14 e15))
       ·
        refine .back [.r [(0,X (Xn ((b:Int)+1)))]] [(0,0),(1,1)] (ih13 ((b+1):Nat) ?_ ?_)
        ·
         have hx:y3P l (l.getD i default).kind ((s.getD a default).elems.getD b default)=0:=(x3G h15).trans h18
         exact⟨by omega,I13.2.trans (by rw[z4f _ (by omega),hx];rfl)⟩
        ·
         ((try dsimp only);omega)
     ·
      refine .back [.r [(0,X (Xn ((a:Int)+1)))]] [(0,0),(1,1)] (ih10 ((a+1):Nat) ?_ ?_)
      ·
       exact⟨by omega,I13.2.trans (by rw[z7u _ (by omega)];rfl)⟩
      ·
       ((try dsimp only);omega)
    ·
     have T:=x8h (i:=i) (F.trans (I10.2.trans (z7u _ (by omega))))
     have e16:((z15 l i s).length:Nat)=l.length:=by
      rw[T.1];exact zn ..
     have e17:((z15 l i s):List Node)=(l.set i ({id:=((l.getD i default)).id,kind:=((l.getD i default)).kind,attrs:=((l.getD i default)).attrs,flow:=(z4Q (((l.getD i default)).flow) s),grid:=(((l.getD i default)).grid),draw:=((l.getD i default)).draw}:Node)):=by
      exact T.1
     have e18:((z1v l (l.getD i default) s):Int)=0:=by
      exact T.2
     exact .finE [.r [(4,X (Xe z0i l i)),(6,X (Xc1 394 (x40 (((l.getD i default)).flow) s (by assumption) (by assumption) (by assumption) (by omega)) X0)),(9,X (Xs 9 z0i 1 l i ({id:=((l.getD i default)).id,kind:=((l.getD i default)).kind,attrs:=((l.getD i default)).attrs,flow:=(z4Q (((l.getD i default)).flow) s),grid:=(((l.getD i default)).grid),draw:=((l.getD i default)).draw}:Node)))],.r []] [(0,0),(1,1)] (fun((z0,z1,z2):Nat×(List Node)×Int)=>(VI z2,[(0,.box [.row 1 z0]),(1,OR 9 z0i z1)])) _ _ (pr e16 (pr e17 e18))
theorem x1m(l:List Node)(i:Nat)(g:GEd)(hi:i<l.length)(hb:GrB l i g):FC Tryz.prog 52 [.ptr 0 0,.eptr 1 l.length i 0,.t (x2d g)] (app emp [(0,.box [.row 1 l.length]),(1,OR 9 z0i l)]) (VI (z1F l (l.getD i default) g)) (app emp [(0,.box [.row 1 ((z2r l i g).length)]),(1,OR 9 z0i (z2r l i g))]):=by
 refine .go Tryz.f52 ?_
 obtain⟨hl1,hs,hg,hm,hx,l1,l2,a1,a2,hk⟩:=hb
 refine .bp [.r [],.r [(3,X (Xe z0i l i)),(4,X (Xc0 (y1l (((l.getD i default)).kind)) X0))]] (!(z3W (((l.getD i default)).kind))) (fun h1=> ?_) (fun h1=> ?_)
 ·
  have T:=y57 (i:=i) (x9Q (g:=g) h1) (by decide)
  have e1:((z2r l i g).length:Nat)=l.length:=by
   rw[T.1]
  have e2:((z2r l i g):List Node)=l:=by
   exact T.1
  have e3:((z1F l (l.getD i default) g):Int)=8:=by
   exact T.2
  exact .finE [.r []] [(0,0),(1,1)] (fun((z0,z1,z2):Nat×(List Node)×Int)=>(VI z2,[(0,.box [.row 1 z0]),(1,OR 9 z0i z1)])) _ _ (pr e1 (pr e2 e3))
 ·
  refine .bp [.r [(3,X (Xe z0i l i)),(6,X (Xc0 (y23 (((l.getD i default)).kind) g.cells) X0))],.r []] ((z2V (((l.getD i default)).kind) g.cells 0) !=0) (fun h4=> ?_) (fun h4=> ?_)
  ·
   have T:=y57 (i:=i) (x9R h1 h4) h4
   have e4:((z2r l i g).length:Nat)=l.length:=by
    rw[T.1]
   have e5:((z2r l i g):List Node)=l:=by
    exact T.1
   have e6:((z1F l (l.getD i default) g):Int)=(z2V (((l.getD i default)).kind) g.cells 0):=by
    exact T.2
   exact .finE [.r []] [(0,0),(1,1)] (fun((z0,z1,z2):Nat×(List Node)×Int)=>(VI z2,[(0,.box [.row 1 z0]),(1,OR 9 z0i z1)])) _ _ (pr e4 (pr e5 e6))
  ·
   refine .bp [.r [(3,X (Xe z0i l i)),(5,X (Xc0 (x6E (((l.getD i default)).grid) g (by assumption) (by assumption) (by assumption)) X0))],.r []] ((z1Z (((l.getD i default)).grid) g) !=0) (fun h7=> ?_) (fun h7=> ?_)
   ·
    have T:=y57 (i:=i) (x9S h1 h4 h7) h7
    have e7:((z2r l i g).length:Nat)=l.length:=by
     rw[T.1]
    have e8:((z2r l i g):List Node)=l:=by
     exact T.1
    have e9:((z1F l (l.getD i default) g):Int)=(z1Z (((l.getD i default)).grid) g):=by
     exact T.2
    exact .finE [.r []] [(0,0),(1,1)] (fun((z0,z1,z2):Nat×(List Node)×Int)=>(VI z2,[(0,.box [.row 1 z0]),(1,OR 9 z0i z1)])) _ _ (pr e7 (pr e8 e9))
   ·
    have F:=x9T (l:=l) h1 h4 h7
    have hr:=RawT.of h7 hm hg l1 l2 a1 a2
    refine .loop (α:=Nat) [.r [(2,X (Xl z0k g.cells))]] 250 (fun b=>([(0,.ptr 0 0),(1,.eptr 1 l.length i 0),(5,.ptr 2 0),(43,VL 5 z0k g.cells),(44,VI (g.cells.length:Int)),(45,VI (b:Int))],[(0,.box [.row 1 l.length]),(1,OR 9 z0i l),(2,.box [VL 2 z0P g.rows,VL 2 z0P g.cols,VL 5 z0k g.cells,VL 4 z0t g.split,VL 4 z0t g.merge])])) (fun b=>b<=g.cells.length/\z2z (x1x l (l.getD i default).kind) g.cells=z2z (x1x l (l.getD i default).kind) (g.cells.drop b)) (fun b=>g.cells.length-b) (0:Nat) ?_ ?_
    ·
     exact⟨by omega,rfl⟩
    rintro b I10 ih10
    try dsimp only at I10
    refine .bp [.r []] (decide ((b:Int)< (g.cells.length:Int))) (fun h10=> ?_) (fun h10=> ?_)
    ·
     refine .bp [.r [(0,X (Xi z0k g.cells (b:Int)))],.r []] ((((g.cells.getD b default)).ref)==0) (fun h12=> ?_) (fun h12=> ?_)
     ·
      refine .back [.r [(0,X (Xn ((b:Int)+1)))]] [(0,0),(1,1),(2,2)] (ih10 ((b+1):Nat) ?_ ?_)
      ·
       exact⟨by omega,I10.2.trans (y59 _ (by omega) (by first|exact x3H h12|exact(y58 h12).trans h14))⟩
      ·
       ((try dsimp only);omega)
     ·
      refine .bp [.r [(6,X (Xe z0i l i)),(10,X (Xc0 (z6X ({nodes:=l}:Doc) (((l.getD i default)).kind) [((g.cells.getD b default)).ref] (by assumption) (by assumption)) (z0Y z0i l (z0Y z0B [((g.cells.getD b default)).ref] X0))))],.r []] ((z1c (({nodes:=l}:Doc)).nodes (((l.getD i default)).kind) [((g.cells.getD b default)).ref] 0) !=0) (fun h14=> ?_) (fun h14=> ?_)
      ·
       have hx:x1x l (l.getD i default).kind (g.cells.getD b default)=z1c l (l.getD i default).kind [(g.cells.getD b default).ref] 0:=y58 h12
       have T:=y57 (i:=i) (F.trans (I10.2.trans (by rw[z4f _ (by omega),hx,if_pos h14]))) h14
       have e10:((z2r l i g).length:Nat)=l.length:=by
        rw[T.1]
       have e11:((z2r l i g):List Node)=l:=by
        exact T.1
       have e12:((z1F l (l.getD i default) g):Int)=(z1c (({nodes:=l}:Doc)).nodes (((l.getD i default)).kind) [((g.cells.getD b default)).ref] 0):=by
        exact T.2
       exact .finE [.r []] [(0,0),(1,1)] (fun((z0,z1,z2):Nat×(List Node)×Int)=>(VI z2,[(0,.box [.row 1 z0]),(1,OR 9 z0i z1)])) _ _ (pr e10 (pr e11 e12))
      ·
       refine .back [.r [(0,X (Xn ((b:Int)+1)))]] [(0,0),(1,1),(2,2)] (ih10 ((b+1):Nat) ?_ ?_)
       ·
        exact⟨by omega,I10.2.trans (y59 _ (by omega) (by first|exact x3H h12|exact(y58 h12).trans h14))⟩
       ·
        ((try dsimp only);omega)
    ·
     refine .bp [.r [(3,X (Xe z0i l i))]] ((((l.getD i default)).kind)==2) (fun h17=> ?_) (fun h17=> ?_)
     ·
      have T:=x8i (i:=i) (F.trans (I10.2.trans (z7u _ (by omega))))
      have e13:((z2r l i g).length:Nat)=l.length:=by
       rw[T.1];exact zn ..
      have e14:((z2r l i g):List Node)=(l.set i ({id:=((l.getD i default)).id,kind:=((l.getD i default)).kind,attrs:=((l.getD i default)).attrs,flow:=((l.getD i default)).flow,grid:=((y9y (((l.getD i default)).grid) g)),draw:=((l.getD i default)).draw}:Node)):=by
       exact T.1
      have e15:((z1F l (l.getD i default) g):Int)=0:=by
       exact T.2
      exact .finE [.r [(4,X (Xe z0i l i)),(6,X (Xc1 346 (x4Q (((l.getD i default)).grid) g (by assumption)) X0)),(9,X (Xs 9 z0i 1 l i ({id:=((l.getD i default)).id,kind:=((l.getD i default)).kind,attrs:=((l.getD i default)).attrs,flow:=((l.getD i default)).flow,grid:=((y9y (((l.getD i default)).grid) g)),draw:=((l.getD i default)).draw}:Node)))],.r []] [(0,0),(1,1)] (fun((z0,z1,z2):Nat×(List Node)×Int)=>(VI z2,[(0,.box [.row 1 z0]),(1,OR 9 z0i z1)])) _ _ (pr e13 (pr e14 e15))
     ·
      exfalso
      exact x6L h1 hk h17
theorem x52(l:List Node)(o:EOp)(hb:OneB l o):FC Tryz.prog 21 [.ptr 0 0,.t (z0F o)] (app emp [(0,.box [.row 1 l.length]),(1,OR 9 z0i l)]) (VI (z1p l o)) (app emp [(0,.box [.row 1 ((z0W l o).length)]),(1,OR 9 z0i (z0W l o))]):=by
 refine .go Tryz.f21 ?_
 obtain⟨hl1,hl2,hs⟩:=hb.base
 refine .bp [.r [],.r []] (o.kind==0) (fun h1=> ?_) (fun h1=> ?_)
 ·
  have n1:=hb.nw
  have T:=y7I (l:=l) h1
  have e1:((z0W l o).length:Nat)=(z9R l o.nw).length:=by
   rw[T.1]
  have e2:((z0W l o):List Node)=(z9R l o.nw):=by
   exact T.1
  have e3:((z1p l o):Int)=(y0i l o.nw):=by
   exact T.2
  exact .finE [.r [(3,X (Xc3 66 [(0,0),(1,1)] (y8d l o.nw (by omega) (by assumption) (by assumption)) X0))]] [(0,0),(1,1)] (fun((z0,z1,z2):Nat×(List Node)×Int)=>(VI z2,[(0,.box [.row 1 z0]),(1,OR 9 z0i z1)])) _ _ (pr e1 (pr e2 e3))
 ·
  refine .bp [.r [(5,X (Xc0 (z8r ({nodes:=l}:Doc) o.node (by assumption) (by assumption)) (z0Y z0i l X0)))],.r []] (decide ((ixN (({nodes:=l}:Doc)).nodes o.node)< 0)) (fun h4=> ?_) (fun h4=> ?_)
  ·
   have T:=x6M h1 (y55.1 h4)
   have e4:((z0W l o).length:Nat)=l.length:=by
    rw[T.1]
   have e5:((z0W l o):List Node)=l:=by
    exact T.1
   have e6:((z1p l o):Int)=7:=by
    exact T.2
   exact .finE [.r []] [(0,0),(1,1)] (fun((z0,z1,z2):Nat×(List Node)×Int)=>(VI z2,[(0,.box [.row 1 z0]),(1,OR 9 z0i z1)])) _ _ (pr e4 (pr e5 e6))
  ·
   have hh:=y54.1 h4
   have hlt:=(z1m.1 hh).1
   have hbn:=hb.nd hh
   refine .bp [.le (.eq 5 (VI (ixN (({nodes:=l}:Doc)).nodes o.node)) (VI ((z0x l o.node):Int)) (.of_eq (by rw[y4A hh]))),.r [(5,X (Xp z0i l ((z0x l o.node):Int)))],.r [],.r []] (o.kind==1) (fun h8=> ?_) (fun h8=> ?_)
   ·
    have T:=x6N hh h8
    have e7:((z0W l o).length:Nat)=l.length:=by
     rw[T.1];exact zn ..
    have e8:((z0W l o):List Node)=(l.set (z0x l o.node) ({id:=((l.getD (z0x l o.node) default)).id,kind:=((l.getD (z0x l o.node) default)).kind,attrs:=(fm z2e (((l.getD (z0x l o.node) default)).attrs) o.attrs),flow:=((l.getD (z0x l o.node) default)).flow,grid:=(((l.getD (z0x l o.node) default)).grid),draw:=((l.getD (z0x l o.node) default)).draw}:Node)):=by
     exact T.1
    have e9:((z1p l o):Int)=0:=by
     exact T.2
    exact .finE [.r [(4,X (Xe z0i l (z0x l o.node))),(7,X (Xc1 258 (z81 (((l.getD (z0x l o.node) default)).attrs) o.attrs (by omega)) X0)),(10,X (Xs 9 z0i 1 l (z0x l o.node) ({id:=((l.getD (z0x l o.node) default)).id,kind:=((l.getD (z0x l o.node) default)).kind,attrs:=(fm z2e (((l.getD (z0x l o.node) default)).attrs) o.attrs),flow:=((l.getD (z0x l o.node) default)).flow,grid:=(((l.getD (z0x l o.node) default)).grid),draw:=((l.getD (z0x l o.node) default)).draw}:Node)))],.r []] [(0,0),(1,1)] (fun((z0,z1,z2):Nat×(List Node)×Int)=>(VI z2,[(0,.box [.row 1 z0]),(1,OR 9 z0i z1)])) _ _ (pr e7 (pr e8 e9))
   ·
    refine .bp [.r []] (o.kind==2) (fun h11=> ?_) (fun h11=> ?_)
    ·
     have T:=x2t (l:=l) hh h11
     have hfl:=hb.fl hh h11
     have e10:((z0W l o).length:Nat)=(z15 l (z0x l o.node) o.steps).length:=by
      rw[T.1]
     have e11:((z0W l o):List Node)=(z15 l (z0x l o.node) o.steps):=by
      exact T.1
     have e12:((z1p l o):Int)=(z1v l ((l).getD (z0x l o.node) default) o.steps):=by
      exact T.2
     exact .finE [.r [(4,X (Xc3 250 [(0,0),(1,1)] (x1l l (z0x l o.node) o.steps (by assumption) (by assumption)) X0))]] [(0,0),(1,1)] (fun((z0,z1,z2):Nat×(List Node)×Int)=>(VI z2,[(0,.box [.row 1 z0]),(1,OR 9 z0i z1)])) _ _ (pr e10 (pr e11 e12))
    ·
     refine .bp [.r []] (o.kind==3) (fun h13=> ?_) (fun h13=> ?_)
     ·
      have T:=x6O (l:=l) hh h13
      have hgr:=hb.gr hh h13
      have e13:((z0W l o).length:Nat)=(z2r l (z0x l o.node) o.grid).length:=by
       rw[T.1]
      have e14:((z0W l o):List Node)=(z2r l (z0x l o.node) o.grid):=by
       exact T.1
      have e15:((z1p l o):Int)=(z1F l ((l).getD (z0x l o.node) default) o.grid):=by
       exact T.2
      exact .finE [.r [(4,X (Xc3 266 [(0,0),(1,1)] (x1m l (z0x l o.node) o.grid (by assumption) (by assumption)) X0))]] [(0,0),(1,1)] (fun((z0,z1,z2):Nat×(List Node)×Int)=>(VI z2,[(0,.box [.row 1 z0]),(1,OR 9 z0i z1)])) _ _ (pr e13 (pr e14 e15))
     ·
      have hkk:=hb.kd h1 h8 h11 h13
      refine .bp [.r [(3,X (Xe z0i l (z0x l o.node))),(4,X (Xc0 (y5V (((l.getD (z0x l o.node) default)).kind)) X0))]] (!(y0c (((l.getD (z0x l o.node) default)).kind))) (fun h15=> ?_) (fun h15=> ?_)
      ·
       have T:=x8j hh hkk h15
       have e16:((z0W l o).length:Nat)=l.length:=by
        rw[T.1]
       have e17:((z0W l o):List Node)=l:=by
        exact T.1
       have e18:((z1p l o):Int)=8:=by
        exact T.2
       exact .finE [.r []] [(0,0),(1,1)] (fun((z0,z1,z2):Nat×(List Node)×Int)=>(VI z2,[(0,.box [.row 1 z0]),(1,OR 9 z0i z1)])) _ _ (pr e16 (pr e17 e18))
      ·
       have hdr:=hb.dr hh hkk
       refine .bp [.r [(3,X (Xe z0i l (z0x l o.node))),(6,X (Xc1 330 (x2h (((l.getD (z0x l o.node) default)).draw) o.draw (by first|omega| (simp;omega))) X0))],.r []] ((if(z0p (((l.getD (z0x l o.node) default)).draw) o.draw).isSome then(0:Int) else 6)==0) (fun h18=> ?_) (fun h18=> ?_)
       ·
        have T:=x6P (l:=l) hh hkk h15
        have e19:((z0W l o).length:Nat)=l.length:=by
         rw[T.1 h18];exact zn ..
        have e20:((z0W l o):List Node)=(l.set (z0x l o.node) ({id:=((l.getD (z0x l o.node) default)).id,kind:=((l.getD (z0x l o.node) default)).kind,attrs:=((l.getD (z0x l o.node) default)).attrs,flow:=((l.getD (z0x l o.node) default)).flow,grid:=(((l.getD (z0x l o.node) default)).grid),draw:=((z0p (((l.getD (z0x l o.node) default)).draw) o.draw).getD [])}:Node)):=by
         exact T.1 h18
        have e21:((z1p l o):Int)=(if(z0p (((l.getD (z0x l o.node) default)).draw) o.draw).isSome then(0:Int) else 6):=by
         exact T.2.2
        exact .finE [.r [(4,X (Xs 9 z0i 1 l (z0x l o.node) ({id:=((l.getD (z0x l o.node) default)).id,kind:=((l.getD (z0x l o.node) default)).kind,attrs:=((l.getD (z0x l o.node) default)).attrs,flow:=((l.getD (z0x l o.node) default)).flow,grid:=(((l.getD (z0x l o.node) default)).grid),draw:=((z0p (((l.getD (z0x l o.node) default)).draw) o.draw).getD [])}:Node)))],.r []] [(0,0),(1,1)] (fun((z0,z1,z2):Nat×(List Node)×Int)=>(VI z2,[(0,.box [.row 1 z0]),(1,OR 9 z0i z1)])) _ _ (pr e19 (pr e20 e21))
       ·
        have T:=x6P (l:=l) hh hkk h15
        have e22:((z0W l o).length:Nat)=l.length:=by
         rw[T.2.1 h18]
        have e23:((z0W l o):List Node)=l:=by
         exact T.2.1 h18
        have e24:((z1p l o):Int)=(if(z0p (((l.getD (z0x l o.node) default)).draw) o.draw).isSome then(0:Int) else 6):=by
         exact T.2.2
        exact .finE [.r []] [(0,0),(1,1)] (fun((z0,z1,z2):Nat×(List Node)×Int)=>(VI z2,[(0,.box [.row 1 z0]),(1,OR 9 z0i z1)])) _ _ (pr e22 (pr e23 e24))
theorem z8C(d:Doc)(c:List EOp)(hb:AppB d c):FC Tryz.prog 8 [.t (z20 d),VL 19 z0F c] (app emp []) (.tup [.t (z20 (z4S d c)),VI (z3s d c)]) (app emp []):=by
 refine .go Tryz.f8 ?_
 refine .len 1 (fun hl1=> ?_)
 obtain⟨hd,ho,hr⟩:=hb
 have hdb:=hd.toDocB
 refine .bp [.r [],.r [(1,X (Xc0 (z5y d (by assumption)) X0))],.r []] ((z1N d) !=0) (fun h2=> ?_) (fun h2=> ?_)
 ·
  have T:=x6R (c:=c) h2
  have e1:((z4S d c):Doc)=({nodes:=[]}:Doc):=by
   exact T.1
  have e2:((z3s d c):Int)=(z1N d):=by
   exact T.2
  exact .finVE [.r [(0,X (Xf [(0,9)]))]] [] [] (fun((z0,z1):Doc×Int)=>(.tup [.t (z20 z0),VI z1],[])) _ _ (pr e1 e2)
 ·
  refine .bp [.r [(1,X (Xc0 (z9h c (by assumption)) X0))],.r []] ((z1R c 0) !=0) (fun h5=> ?_) (fun h5=> ?_)
  ·
   have T:=x6S (d:=d) (by omega) h5
   have e3:((z4S d c):Doc)=({nodes:=[]}:Doc):=by
    exact T.1
   have e4:((z3s d c):Int)=(z1R c 0):=by
    exact T.2
   exact .finVE [.r [(0,X (Xf [(0,9)]))]] [] [] (fun((z0,z1):Doc×Int)=>(.tup [.t (z20 z0),VI z1],[])) _ _ (pr e3 e4)
  ·
   refine .loop (α:=Nat×(List Node)) [.r [(1,X (Xc1 112 (y9L d (by assumption)) X0))],.r [(1,X (Xl z0F c))]] 160 (fun(i,o)=>([(4,.ptr 8 0),(8,.ptr 120 0),(26,VL 19 z0F c),(27,VI (c.length:Int)),(28,VI (i:Int))],[(8,.box [VN]),(113,OR 9 z0i o),(120,.box [.row 113 o.length])])) (fun(i,o)=>i<=c.length/\x6Q o (c.drop i)/\z3X d.nodes c=z3X o (c.drop i)/\z3e d.nodes c=z3e o (c.drop i)) (fun(i,o)=>c.length-i) (0,(d).nodes) ?_ ?_
   ·
    exact⟨by omega,hr (by omega) (by omega),rfl,rfl⟩
   rintro⟨i,o⟩ I9 ih9
   try dsimp only at I9
   refine .bp [.r []] (decide ((i:Int)< (c.length:Int))) (fun h9=> ?_) (fun h9=> ?_)
   ·
    obtain⟨q1,q2,q3,q4⟩:=I9
    rw[z5x (by omega)] at q2 q3 q4
    have hone:=q2.1
    refine .bp [.r [(0,X (Xi z0F c (i:Int)))],.r [(1,X (Xc3 208 [(0,120),(1,113)] (x52 o ((c.getD i default)) (by assumption)) X0))],.r []] ((z1p o ((c.getD i default))) !=0) (fun h12=> ?_) (fun h12=> ?_)
    ·
     have T:=x8k (d:=d) (c:=c) (by omega) (by omega) (q3.trans (by rw[z3X,if_pos h12])) h12
     have e5:((z4S d c):Doc)=({nodes:=[]}:Doc):=by
      exact T.1
     have e6:((z3s d c):Int)=(z1p o ((c.getD i default))):=by
      exact T.2
     exact .finVE [.r [(0,X (Xf [(0,9)]))]] [] [] (fun((z0,z1):Doc×Int)=>(.tup [.t (z20 z0),VI z1],[])) _ _ (pr e5 e6)
    ·
     refine .back [.r [(0,X (Xn ((i:Int)+1)))]] [(8,8),(113,113),(120,120)] (ih9 ((i+1),(z0W o ((c.getD i default)))) ?_ ?_)
     ·
      rw[z3X,if_neg (by omega)] at q3
      exact⟨by omega,q2.2 h12,q3,q4⟩
     ·
      ((try dsimp only);omega)
   ·
    have T:=x4Z (d:=d) (c:=c) (by omega) (by omega) (I9.2.2.1.trans (by rw[qM (by omega)];try rfl)) (I9.2.2.2.trans (by rw[qM (by omega)];try rfl))
    have e7:((z4S d c):Doc)=({nodes:=o}:Doc):=by
     exact T.1
    have e8:((z3s d c):Int)=0:=by
     exact T.2
    exact .finVE [.r []] [.fR 0 [(o.length:Nat)=(List.map z0i o).length] ⟨lm,trivial⟩] [] (fun((z0,z1):Doc×Int)=>(.tup [.t (z20 z0),VI z1],[])) _ _ (pr e7 e8)
theorem y65:FC Tryz.prog 10 [] (app emp []) (.t (z20 z0D)) (app emp []):=by
 refine .go Tryz.f10 ?_
 have e1:(z0D:Doc)=({nodes:=[({id:=1,kind:=0,attrs:=[],flow:=[({char:=0,ref:=2,attrs:=[]}:Elem)],grid:=({rows:=0,cols:=0,cells:=[],merges:=[]}:Grid),draw:=[]}:Node),({id:=2,kind:=1,attrs:=[],flow:=[({char:=10,ref:=0,attrs:=[]}:Elem)],grid:=({rows:=0,cols:=0,cells:=[],merges:=[]}:Grid),draw:=[]}:Node)]}:Doc):=by
  rfl
 exact .finVE [.r [],.r [(0,X (Xf [(2,2)])),(2,X (Xf [(2,2),(6,5),(7,4),(8,8)])),(3,X (Xf [(2,2)])),(5,X (Xf [(2,2),(6,5),(7,4),(8,8)])),(6,X (z0Y z0c [({char:=0,ref:=2,attrs:=[]}:Elem)] (z0Y z0c [({char:=10,ref:=0,attrs:=[]}:Elem)] X0)))]] [.fR 0 [(2:Nat)=(List.map z0i [({id:=1,kind:=0,attrs:=[],flow:=[({char:=0,ref:=2,attrs:=[]}:Elem)],grid:=({rows:=0,cols:=0,cells:=[],merges:=[]}:Grid),draw:=[]}:Node),({id:=2,kind:=1,attrs:=[],flow:=[({char:=10,ref:=0,attrs:=[]}:Elem)],grid:=({rows:=0,cols:=0,cells:=[],merges:=[]}:Grid),draw:=[]}:Node)]).length] ⟨lm,trivial⟩] [] (fun z0:Doc=>(.t (z20 z0),[])) _ _ e1
theorem x1n:FC Tryz.prog 10 [] (app emp []) (.agg [.bsl 1 2]) (app emp [(0,.box [.bsl 1 2]),(1,.box [VI 1,VI 0,VL 2 z0a [],.row 2 1,VI 0,VI 0,VL 5 z0k [],VL 4 z0t [],VL 8 z0R [],VI 2,VI 1,VL 2 z0a [],.row 3 1,VI 0,VI 0,VL 5 z0k [],VL 4 z0t [],VL 8 z0R []]),(2,OR 3 z0c [({char:=0,ref:=2,attrs:=[]}:Elem)]),(3,OR 3 z0c [({char:=10,ref:=0,attrs:=[]}:Elem)])]):=by
 refine .go Tryz.f10 ?_
 exact .fin [.r [],.r [(0,X (Xf [(2,2)])),(2,X (Xf [(2,2),(6,5),(7,4),(8,8)])),(3,X (Xf [(2,2)])),(5,X (Xf [(2,2),(6,5),(7,4),(8,8)])),(6,X x9G)]] [(0,0),(56,1),(16,2),(40,3)]
theorem x53:FC Tryz.prog 60 [.t (.agg [TI 1,TI 0,Ab.TB true]),.ptr 0 0,.ptr 1 0] (app emp [(0,.box [VI 2]),(1,.box [VB false])]) (VB true) (app emp [(0,.box [VI 2]),(1,.box [VB false])]):=by
 refine .go Tryz.f60 ?_
 exact .fin [.r [],.r [],.f,.r []] [(0,0),(1,1)]
theorem x54:FC Tryz.prog 60 [.t (.agg [TI 2,TI 1,Ab.TB true]),.ptr 0 0,.ptr 1 0] (app emp [(0,.box [VI 2]),(1,.box [VB false])]) (VB false) (app emp [(0,.box [VI 2]),(1,.box [VB true])]):=by
 refine .go Tryz.f60 ?_
 exact .fin [.r [],.r [],.t,.r [],.r []] [(0,0),(1,1)]
theorem x9j:FC Tryz.prog 118 [.t (.agg [TI 2,TI 1,Ab.TB true]),.ptr 0 0,.ptr 1 0,.ptr 2 0,.ptr 3 0] (app emp [(0,.box [.hdl 4]),(1,.box [.fn 60 [.ptr 5 0,.ptr 6 0]]),(2,.box [VL 9 z0i z0D.nodes]),(3,.box [.fn 118 [.ptr 0 0,.ptr 1 0,.ptr 2 0,.ptr 3 0]]),(4,.mp (List.map onM [1]) none),(5,.box [VI 2]),(6,.box [VB false])]) (VB false) (app emp [(0,.box [.hdl 4]),(1,.box [.fn 60 [.ptr 5 0,.ptr 6 0]]),(2,.box [VL 9 z0i z0D.nodes]),(3,.box [.fn 118 [.ptr 0 0,.ptr 1 0,.ptr 2 0,.ptr 3 0]]),(4,.mp (List.map onM [1,2]) none),(5,.box [VI 2]),(6,.box [VB true])]):=by
 refine .go Tryz.f118 ?_
 exact .fin [.r [],.r [(3,X (Xm0 (List.map onM [1]) 2) (by kernel_rfl))],.f,.r [(3,X (Xmu onM [1] [1,2] 2 4 (.im (Ab.TB true))) (by kernel_rfl))],.r [(2,X (Xc3 103 [(0,5),(1,6)] x54 X0))],.t,.r []] [(0,0),(1,1),(2,2),(3,3),(4,4),(5,5),(6,6)]
theorem x9k:FC Tryz.prog 118 [.t (.agg [TI 1,TI 0,Ab.TB true]),.ptr 0 0,.ptr 1 0,.ptr 2 0,.ptr 3 0] (app emp [(0,.box [.hdl 4]),(1,.box [.fn 60 [.ptr 5 0,.ptr 6 0]]),(2,.box [VL 9 z0i z0D.nodes]),(3,.box [.fn 118 [.ptr 0 0,.ptr 1 0,.ptr 2 0,.ptr 3 0]]),(4,.mp (List.map onM []) none),(5,.box [VI 2]),(6,.box [VB false])]) (VB false) (app emp [(0,.box [.hdl 4]),(1,.box [.fn 60 [.ptr 5 0,.ptr 6 0]]),(2,.box [VL 9 z0i z0D.nodes]),(3,.box [.fn 118 [.ptr 0 0,.ptr 1 0,.ptr 2 0,.ptr 3 0]]),(4,.mp (List.map onM [1,2]) none),(5,.box [VI 2]),(6,.box [VB true])]):=by
 refine .go Tryz.f118 ?_
 have hs:=z8n y1F
 have hl:z0D.nodes.length<=1048576:=by decide
 refine .bp [.r [],.r [(3,X (Xm0 (List.map onM []) 1) (by kernel_rfl))],.f,.r [(3,X (Xmu onM [] [1] 1 4 (.im (Ab.TB true))) (by kernel_rfl))],.r [(2,X (Xc3 103 [(0,5),(1,6)] x53 X0))],.f,.r [(3,X (Xc0 (y1n z0D 1 (by assumption) (by assumption)) X0))],.le (.eq 7 (VI (z0x (z0D).nodes 1:Int)) (VI 0) (.of_eq (by kernel_rfl))),.r [(3,X (Xi z0i z0D.nodes 0) ⟨(by first|omega| (simp;omega)| (simp;done)|assumption),(by decide)⟩)],.r [(2,X (Xc1 263 (z88 (((z0D.nodes.getD 0 default)).flow) (by decide)) X0))],.u,.r []] (decide (0< ((z2N (((z0D.nodes.getD 0 default)).flow)).length:Int))) (fun h9=> ?_) (fun h9=> ?_)
 ·
  exact .fin [.r [(0,X (Xp z0B (z2N (((z0D.nodes.getD 0 default)).flow)) 0)),(1,X (Xe z0B (z2N (((z0D.nodes.getD 0 default)).flow)) 0))],.le (.eq 11 (VI ((z2N (((z0D.nodes.getD 0 default)).flow)).getD 0 default)) (VI 2) (.of_eq (by kernel_rfl))),.r [(7,X (Xc3 375 [(0,0),(1,1),(2,2),(3,3),(4,4),(5,5),(6,6)] x9j X0))],.t,.r []] [(0,0),(1,1),(2,2),(3,3),(4,4),(5,5),(6,6)]
 ·
  exfalso
  exact absurd h9 (by decide)
theorem x3i:FC Tryz.prog 59 [.t (z20 z0D),.fn 60 [.ptr 0 0,.ptr 1 0]] (app emp [(0,.box [VI 2]),(1,.box [VB false])]) (.tup []) (app emp [(0,.box [VI 2]),(1,.box [VB true])]):=by
 refine .go Tryz.f59 ?_
 exact .fin [.r [],.r [],.r [],.r [],.r [(2,X (Xc3 82 [(0,26),(1,10),(2,2),(3,42),(4,18),(5,0),(6,1)] x9k X0))]] [(0,0),(1,1)]
theorem y8e:FC Tryz.prog 23 [.t (z20 z0D),VI 2] (app emp []) (VB true) (app emp []):=by
 refine .go Tryz.f23 ?_
 have hb:=y4N
 refine .bp [.r [],.r [],.r [(1,X (Xc0 (z5y z0D (by assumption)) X0))]] ((z1N z0D) !=0) (fun h2=> ?_) (fun h2=> ?_)
 ·
  exfalso
  exact h2 y1F
 ·
  exact .fin [.r [(2,X (Xc3 80 [(0,8),(1,24)] x3i X0))],.r []] []
theorem x55:FC Tryz.prog 12 [] (app emp []) (VB true) (app emp []):=by
 refine .go Tryz.f12 ?_
 have hb:=y4N
 have e1:(((((z1N z0D)==0)&&((z0D.nodes.length:Int)==2))||false):Bool)=true:=by
  rw[y1F];rfl
 exact .finE [.r [],.r [(0,X (Xc1 8 y65 X0))],.r [(1,X (Xc0 (z5y z0D (by assumption)) X0)),(5,Xv 1 ((z1N z0D)==0) X0),(6,Xv 1 ((z1N z0D)==0) (Xl z0i z0D.nodes)),(7,Xv 1 ((z1N z0D)==0) X0),(8,X (Xk ((z1N z0D)==0))),(11,Xv 1 (((z1N z0D)==0)&&((z0D.nodes.length:Int)==2)) (Xc0 y8e X0)),(12,X (Xk (((z1N z0D)==0)&&((z0D.nodes.length:Int)==2))))]] [] (fun z0:Bool=>(VB z0,[])) _ _ e1.symm
theorem x7t(s:ByteArray):FC Tryz.prog 11 [VS s] (app emp []) (VL 2 z0a (onA s)) (app emp []):=by
 refine .go Tryz.f11 ?_
 have e1:((onA s):List Attr)=[({name:=s,val:={data:=#[111,110]}}:Attr)]:=by
  rfl
 exact .finE [.r [],.r [],.le (.fr 2 [(1:Nat)=(List.map z0a [({name:=s,val:={data:=#[111,110]}}:Attr)]).length] ⟨lm,trivial⟩)] [] (fun z0:List Attr=>(VL 2 z0a z0,[])) _ _ e1
theorem x3j:FC Tryz.prog 4 [] (app emp []) (VB true) (app emp []):=by
 refine .go Tryz.f4 ?_
 have hp:=x7c
 have e1:((((true&&((z3s z0D [({kind:=1,node:=2,nw:=({id:=0,kind:=0,attrs:=[],flow:=[],grid:=({rows:=0,cols:=0,cells:=[],merges:=[]}:Grid),draw:=[]}:Node),attrs:=(onA ({data:=#[116,105,116,108,101]})),steps:=[],grid:=({rows:=[],cols:=[],cells:=[],split:=[],merge:=[]}:GEd),draw:=[]}:EOp)])==0))&&(((((z4S z0D [({kind:=1,node:=2,nw:=({id:=0,kind:=0,attrs:=[],flow:=[],grid:=({rows:=0,cols:=0,cells:=[],merges:=[]}:Grid),draw:=[]}:Node),attrs:=(onA ({data:=#[116,105,116,108,101]})),steps:=[],grid:=({rows:=[],cols:=[],cells:=[],split:=[],merge:=[]}:GEd),draw:=[]}:EOp)])).nodes).length:Int)==2))&&((((((((z4S z0D [({kind:=1,node:=2,nw:=({id:=0,kind:=0,attrs:=[],flow:=[],grid:=({rows:=0,cols:=0,cells:=[],merges:=[]}:Grid),draw:=[]}:Node),attrs:=(onA ({data:=#[116,105,116,108,101]})),steps:=[],grid:=({rows:=[],cols:=[],cells:=[],split:=[],merge:=[]}:GEd),draw:=[]}:EOp)])).nodes).getD 1 default)).attrs).length:Int)==1)):Bool)=true:=by
  exact(by decide+kernel)
 exact .finE [.r [],.r [(0,X (Xc1 8 y65 X0)),(1,X (Xc1 16 (x7t ({data:=#[116,105,116,108,101]})) X0)),(2,X (Xf [(4,2),(5,3),(8,5),(9,4),(10,8),(12,4),(13,2),(14,2),(15,5),(16,4),(17,4),(18,8)])),(4,X (Xc1 40 (z8C z0D [({kind:=1,node:=2,nw:=({id:=0,kind:=0,attrs:=[],flow:=[],grid:=({rows:=0,cols:=0,cells:=[],merges:=[]}:Grid),draw:=[]}:Node),attrs:=(onA ({data:=#[116,105,116,108,101]})),steps:=[],grid:=({rows:=[],cols:=[],cells:=[],split:=[],merge:=[]}:GEd),draw:=[]}:EOp)] hp) (z0Y z0F [({kind:=1,node:=2,nw:=({id:=0,kind:=0,attrs:=[],flow:=[],grid:=({rows:=0,cols:=0,cells:=[],merges:=[]}:Grid),draw:=[]}:Node),attrs:=(onA ({data:=#[116,105,116,108,101]})),steps:=[],grid:=({rows:=[],cols:=[],cells:=[],split:=[],merge:=[]}:GEd),draw:=[]}:EOp)] X0)))],.r [(0,X (Xc0 x55 X0)),(3,Xv 1 true X0),(4,X (Xk true)),(7,Xv 1 (true&&((z3s z0D [({kind:=1,node:=2,nw:=({id:=0,kind:=0,attrs:=[],flow:=[],grid:=({rows:=0,cols:=0,cells:=[],merges:=[]}:Grid),draw:=[]}:Node),attrs:=(onA ({data:=#[116,105,116,108,101]})),steps:=[],grid:=({rows:=[],cols:=[],cells:=[],split:=[],merge:=[]}:GEd),draw:=[]}:EOp)])==0)) X0),(8,Xv 1 (true&&((z3s z0D [({kind:=1,node:=2,nw:=({id:=0,kind:=0,attrs:=[],flow:=[],grid:=({rows:=0,cols:=0,cells:=[],merges:=[]}:Grid),draw:=[]}:Node),attrs:=(onA ({data:=#[116,105,116,108,101]})),steps:=[],grid:=({rows:=[],cols:=[],cells:=[],split:=[],merge:=[]}:GEd),draw:=[]}:EOp)])==0)) (Xl z0i (((z4S z0D [({kind:=1,node:=2,nw:=({id:=0,kind:=0,attrs:=[],flow:=[],grid:=({rows:=0,cols:=0,cells:=[],merges:=[]}:Grid),draw:=[]}:Node),attrs:=(onA ({data:=#[116,105,116,108,101]})),steps:=[],grid:=({rows:=[],cols:=[],cells:=[],split:=[],merge:=[]}:GEd),draw:=[]}:EOp)])).nodes))),(9,Xv 1 (true&&((z3s z0D [({kind:=1,node:=2,nw:=({id:=0,kind:=0,attrs:=[],flow:=[],grid:=({rows:=0,cols:=0,cells:=[],merges:=[]}:Grid),draw:=[]}:Node),attrs:=(onA ({data:=#[116,105,116,108,101]})),steps:=[],grid:=({rows:=[],cols:=[],cells:=[],split:=[],merge:=[]}:GEd),draw:=[]}:EOp)])==0)) X0),(10,X (Xk (true&&((z3s z0D [({kind:=1,node:=2,nw:=({id:=0,kind:=0,attrs:=[],flow:=[],grid:=({rows:=0,cols:=0,cells:=[],merges:=[]}:Grid),draw:=[]}:Node),attrs:=(onA ({data:=#[116,105,116,108,101]})),steps:=[],grid:=({rows:=[],cols:=[],cells:=[],split:=[],merge:=[]}:GEd),draw:=[]}:EOp)])==0)))),(13,Xv 1 ((true&&((z3s z0D [({kind:=1,node:=2,nw:=({id:=0,kind:=0,attrs:=[],flow:=[],grid:=({rows:=0,cols:=0,cells:=[],merges:=[]}:Grid),draw:=[]}:Node),attrs:=(onA ({data:=#[116,105,116,108,101]})),steps:=[],grid:=({rows:=[],cols:=[],cells:=[],split:=[],merge:=[]}:GEd),draw:=[]}:EOp)])==0))&&(((((z4S z0D [({kind:=1,node:=2,nw:=({id:=0,kind:=0,attrs:=[],flow:=[],grid:=({rows:=0,cols:=0,cells:=[],merges:=[]}:Grid),draw:=[]}:Node),attrs:=(onA ({data:=#[116,105,116,108,101]})),steps:=[],grid:=({rows:=[],cols:=[],cells:=[],split:=[],merge:=[]}:GEd),draw:=[]}:EOp)])).nodes).length:Int)==2)) X0),(14,Xv 1 ((true&&((z3s z0D [({kind:=1,node:=2,nw:=({id:=0,kind:=0,attrs:=[],flow:=[],grid:=({rows:=0,cols:=0,cells:=[],merges:=[]}:Grid),draw:=[]}:Node),attrs:=(onA ({data:=#[116,105,116,108,101]})),steps:=[],grid:=({rows:=[],cols:=[],cells:=[],split:=[],merge:=[]}:GEd),draw:=[]}:EOp)])==0))&&(((((z4S z0D [({kind:=1,node:=2,nw:=({id:=0,kind:=0,attrs:=[],flow:=[],grid:=({rows:=0,cols:=0,cells:=[],merges:=[]}:Grid),draw:=[]}:Node),attrs:=(onA ({data:=#[116,105,116,108,101]})),steps:=[],grid:=({rows:=[],cols:=[],cells:=[],split:=[],merge:=[]}:GEd),draw:=[]}:EOp)])).nodes).length:Int)==2)) (Xi z0i (((z4S z0D [({kind:=1,node:=2,nw:=({id:=0,kind:=0,attrs:=[],flow:=[],grid:=({rows:=0,cols:=0,cells:=[],merges:=[]}:Grid),draw:=[]}:Node),attrs:=(onA ({data:=#[116,105,116,108,101]})),steps:=[],grid:=({rows:=[],cols:=[],cells:=[],split:=[],merge:=[]}:GEd),draw:=[]}:EOp)])).nodes) 1)),(15,Xv 1 ((true&&((z3s z0D [({kind:=1,node:=2,nw:=({id:=0,kind:=0,attrs:=[],flow:=[],grid:=({rows:=0,cols:=0,cells:=[],merges:=[]}:Grid),draw:=[]}:Node),attrs:=(onA ({data:=#[116,105,116,108,101]})),steps:=[],grid:=({rows:=[],cols:=[],cells:=[],split:=[],merge:=[]}:GEd),draw:=[]}:EOp)])==0))&&(((((z4S z0D [({kind:=1,node:=2,nw:=({id:=0,kind:=0,attrs:=[],flow:=[],grid:=({rows:=0,cols:=0,cells:=[],merges:=[]}:Grid),draw:=[]}:Node),attrs:=(onA ({data:=#[116,105,116,108,101]})),steps:=[],grid:=({rows:=[],cols:=[],cells:=[],split:=[],merge:=[]}:GEd),draw:=[]}:EOp)])).nodes).length:Int)==2)) X0),(16,Xv 1 ((true&&((z3s z0D [({kind:=1,node:=2,nw:=({id:=0,kind:=0,attrs:=[],flow:=[],grid:=({rows:=0,cols:=0,cells:=[],merges:=[]}:Grid),draw:=[]}:Node),attrs:=(onA ({data:=#[116,105,116,108,101]})),steps:=[],grid:=({rows:=[],cols:=[],cells:=[],split:=[],merge:=[]}:GEd),draw:=[]}:EOp)])==0))&&(((((z4S z0D [({kind:=1,node:=2,nw:=({id:=0,kind:=0,attrs:=[],flow:=[],grid:=({rows:=0,cols:=0,cells:=[],merges:=[]}:Grid),draw:=[]}:Node),attrs:=(onA ({data:=#[116,105,116,108,101]})),steps:=[],grid:=({rows:=[],cols:=[],cells:=[],split:=[],merge:=[]}:GEd),draw:=[]}:EOp)])).nodes).length:Int)==2)) X0),(17,Xv 1 ((true&&((z3s z0D [({kind:=1,node:=2,nw:=({id:=0,kind:=0,attrs:=[],flow:=[],grid:=({rows:=0,cols:=0,cells:=[],merges:=[]}:Grid),draw:=[]}:Node),attrs:=(onA ({data:=#[116,105,116,108,101]})),steps:=[],grid:=({rows:=[],cols:=[],cells:=[],split:=[],merge:=[]}:GEd),draw:=[]}:EOp)])==0))&&(((((z4S z0D [({kind:=1,node:=2,nw:=({id:=0,kind:=0,attrs:=[],flow:=[],grid:=({rows:=0,cols:=0,cells:=[],merges:=[]}:Grid),draw:=[]}:Node),attrs:=(onA ({data:=#[116,105,116,108,101]})),steps:=[],grid:=({rows:=[],cols:=[],cells:=[],split:=[],merge:=[]}:GEd),draw:=[]}:EOp)])).nodes).length:Int)==2)) (Xl z0a ((((((z4S z0D [({kind:=1,node:=2,nw:=({id:=0,kind:=0,attrs:=[],flow:=[],grid:=({rows:=0,cols:=0,cells:=[],merges:=[]}:Grid),draw:=[]}:Node),attrs:=(onA ({data:=#[116,105,116,108,101]})),steps:=[],grid:=({rows:=[],cols:=[],cells:=[],split:=[],merge:=[]}:GEd),draw:=[]}:EOp)])).nodes).getD 1 default)).attrs))),(18,Xv 1 ((true&&((z3s z0D [({kind:=1,node:=2,nw:=({id:=0,kind:=0,attrs:=[],flow:=[],grid:=({rows:=0,cols:=0,cells:=[],merges:=[]}:Grid),draw:=[]}:Node),attrs:=(onA ({data:=#[116,105,116,108,101]})),steps:=[],grid:=({rows:=[],cols:=[],cells:=[],split:=[],merge:=[]}:GEd),draw:=[]}:EOp)])==0))&&(((((z4S z0D [({kind:=1,node:=2,nw:=({id:=0,kind:=0,attrs:=[],flow:=[],grid:=({rows:=0,cols:=0,cells:=[],merges:=[]}:Grid),draw:=[]}:Node),attrs:=(onA ({data:=#[116,105,116,108,101]})),steps:=[],grid:=({rows:=[],cols:=[],cells:=[],split:=[],merge:=[]}:GEd),draw:=[]}:EOp)])).nodes).length:Int)==2)) X0),(19,X (Xk ((true&&((z3s z0D [({kind:=1,node:=2,nw:=({id:=0,kind:=0,attrs:=[],flow:=[],grid:=({rows:=0,cols:=0,cells:=[],merges:=[]}:Grid),draw:=[]}:Node),attrs:=(onA ({data:=#[116,105,116,108,101]})),steps:=[],grid:=({rows:=[],cols:=[],cells:=[],split:=[],merge:=[]}:GEd),draw:=[]}:EOp)])==0))&&(((((z4S z0D [({kind:=1,node:=2,nw:=({id:=0,kind:=0,attrs:=[],flow:=[],grid:=({rows:=0,cols:=0,cells:=[],merges:=[]}:Grid),draw:=[]}:Node),attrs:=(onA ({data:=#[116,105,116,108,101]})),steps:=[],grid:=({rows:=[],cols:=[],cells:=[],split:=[],merge:=[]}:GEd),draw:=[]}:EOp)])).nodes).length:Int)==2))))]] [] (fun z0:Bool=>(VB z0,[])) _ _ e1.symm
theorem x3k(d:Doc)(site:Int)(raw:List Int)(G:Nat->Doc->Prop)(hI:GInv site G)(hg:G 0 d):FC Tryz.prog 14 [.t (z20 d),VI site,VL 1 z0B raw] (app emp []) (.t (z20 (z2R site raw d 0))) (app emp []):=by
 refine .go Tryz.f14 ?_
 refine .len 2 (fun hl2=> ?_)
 refine .loop (α:=Nat×(List Node)) [.r [],.r []] 24 (fun(k,o0c0)=>([(1,VI site),(2,VL 1 z0B raw),(3,.ptr 0 0),(6,.ptr 8 0),(7,VI (k:Int))],[(0,.box [VL 9 z0i o0c0]),(8,.box [VN])])) (fun(k,o0c0)=>k<=38/\z2R site raw d 0=z2R site raw ⟨o0c0⟩ k/\G k ⟨o0c0⟩) (fun(k,o0c0)=>raw.length-k) (0,d.nodes) ?_ ?_
 ·
  exact⟨by omega,rfl,hg⟩
 rintro⟨k,o0c0⟩ I2 ih2
 try dsimp only at I2
 refine .bp [.r [(1,X (Xn ((k:Int)+2))),(3,X (Xl z0B raw)),(7,Xv 1 (decide (((k:Int)+2)< (raw.length:Int))) X0),(8,X (Xk (decide (((k:Int)+2)< (raw.length:Int)))))]] (decide (((k:Int)+2)< (raw.length:Int))&&decide ((k:Int)< 36)) (fun h2=> ?_) (fun h2=> ?_)
 ·
  have hD:=hI.doc I2.2.2
  have hC:=hI.cmd (raw.getD (k+1) default) (raw.getD (k+2) default) I2.2.2
  have hA:=hI.app (raw.getD k default) (raw.getD (k+1) default) (raw.getD (k+2) default) I2.2.2
  refine .bp [.r [(5,X (Xi z0B raw (k:Int))),(9,X (Xn ((k:Int)+1))),(10,X (Xi z0B raw ((k:Int)+1))),(14,X (Xn ((k:Int)+2))),(15,X (Xi z0B raw ((k:Int)+2))),(17,X (Xc1 232 (y0F ({nodes:=o0c0}:Doc) site (raw.getD k default) (raw.getD (k+1) default) (raw.getD (k+2) default) (by assumption) (by assumption)) X0)),(18,X (Xc1 240 (z8C ({nodes:=o0c0}:Doc) (z1x ({nodes:=o0c0}:Doc) site (raw.getD k default) (raw.getD (k+1) default) (raw.getD (k+2) default)) (by assumption)) X0))],.r []] ((z3s ({nodes:=o0c0}:Doc) (z1x ({nodes:=o0c0}:Doc) site (raw.getD k default) (raw.getD (k+1) default) (raw.getD (k+2) default)))==0) (fun h5=> ?_) (fun h5=> ?_)
  ·
   have hgo:=y1H (site:=site) (d:=⟨o0c0⟩) (show k+2<raw.length/\k<36 by omega)
   have hst:=hI.step (raw.getD k default) (raw.getD (k+1) default) (raw.getD (k+2) default) (show k<55 by omega) I2.2.2
   refine .back [.r [],.r [(1,X (Xn ((k:Int)+3)))]] [(0,0),(8,8)] (ih2 ((k+3),((z4S ({nodes:=o0c0}:Doc) (z1x ({nodes:=o0c0}:Doc) site (raw.getD k default) (raw.getD (k+1) default) (raw.getD (k+2) default)))).nodes) ?_ ?_)
   ·
    first| (rw[y1G h5] at hgo hst;exact⟨by omega,I2.2.1.trans hgo,hst⟩)| (rw[y4O h5] at hgo hst;exact⟨by omega,I2.2.1.trans hgo,hst⟩)
   ·
    ((try dsimp only);omega)
  ·
   have hgo:=y1H (site:=site) (d:=⟨o0c0⟩) (show k+2<raw.length/\k<36 by omega)
   have hst:=hI.step (raw.getD k default) (raw.getD (k+1) default) (raw.getD (k+2) default) (show k<55 by omega) I2.2.2
   refine .back [.r [(1,X (Xn ((k:Int)+3)))]] [(0,0),(8,8)] (ih2 ((k+3),o0c0) ?_ ?_)
   ·
    first| (rw[y1G h5] at hgo hst;exact⟨by omega,I2.2.1.trans hgo,hst⟩)| (rw[y4O h5] at hgo hst;exact⟨by omega,I2.2.1.trans hgo,hst⟩)
   ·
    ((try dsimp only);omega)
 ·
  have e1:((z2R site raw d 0):Doc)=({nodes:=o0c0}:Doc):=by
   exact I2.2.1.trans (y3p (by omega))
  exact .finVE [.r []] [] [] (fun z0:Doc=>(.t (z20 z0),[])) _ _ e1
theorem y43(s:ByteArray)(hs:s.size<=1000000000):FC Tryz.prog 13 [VS s] (app emp []) (.row 0 ((z60 s).length)) (app emp [(0,OR 3 z0c (z60 s))]):=by
 refine .go Tryz.f13 ?_
 refine .loop (α:=Nat×(List Elem)) [.r [],.r [],.r [],.le (.nR 3 3)] 41 (fun(i,o)=>([(0,VS s),(3,.row 40 o.length),(6,VI (s.size:Int)),(7,VI (i:Int))],[(40,OR 3 z0c o)])) (fun(i,o)=>i<=s.size/\o=(List.range i).map (ltr s)) (fun(i,o)=>s.size-i) (0,[]) ?_ ?_
 ·
  exact⟨by omega,rfl⟩
 rintro⟨i,o⟩ I3 ih3
 try dsimp only at I3
 have ol:o.length=i:=by rw[I3.2];simp
 refine .bp [.r []] (decide ((i:Int)< (s.size:Int))) (fun h3=> ?_) (fun h3=> ?_)
 ·
  refine .back [.r [],.r [(3,X (Xb s (i:Int))),(4,X (Xn ((((s[i]?).getD 0).toNat:Nat):Int)) (by have:=UInt8.toNat_lt ((s[i]?).getD 0);omega)),(5,X (Xf [(2,2)])),(7,X (z0Y z0c [({char:=((((s[i]?).getD 0).toNat:Nat):Int),ref:=0,attrs:=[]}:Elem)] (Xap 3 z0c 40 o [({char:=((((s[i]?).getD 0).toNat:Nat):Int),ref:=0,attrs:=[]}:Elem)])))],.r [(0,X (Xn ((i:Int)+1)))]] [(40,40)] (ih3 ((i+1),(o++[({char:=((((s[i]?).getD 0).toNat:Nat):Int),ref:=0,attrs:=[]}:Elem)])) ?_ ?_)
  ·
   refine⟨by omega,?_⟩
   rw[I3.2,zQ,zj]
   rfl
  ·
   ((try dsimp only);omega)
 ·
  have e1:((z60 s):List Elem)=o:=by
   first| (rw[I3.2,show i=s.size by omega];done)| (rw[I3.2,show i=s.size by omega];rfl)
  have e2:((z60 s).length:Nat)=o.length:=by
   first| (rw[I3.2,show i=s.size by omega];done)| (rw[I3.2,show i=s.size by omega];rfl)
  exact .finE [.r []] [(40,0)] (fun((z0,z1):(List Elem)×Nat)=>(.row 0 z1,[(0,OR 3 z0c z0)])) _ _ (pr e1 e2)
theorem x7u:FC Tryz.prog 13 [VS {data:=#[97,98,99]}] (app emp []) (.row 0 3) (app emp [(0,OR 3 z0c [({char:=97,ref:=0,attrs:=[]}:Elem),({char:=98,ref:=0,attrs:=[]}:Elem),({char:=99,ref:=0,attrs:=[]}:Elem)])]):=by
 have h:=y43 {data:=#[97,98,99]} (by decide)
 have e:z60 {data:=#[97,98,99]}=[({char:=97,ref:=0,attrs:=[]}:Elem),({char:=98,ref:=0,attrs:=[]}:Elem),({char:=99,ref:=0,attrs:=[]}:Elem)]:=by kernel_rfl
 rw[e] at h
 exact h
theorem x3l(raw:List Int)(G:Nat->Doc->Prop)(hI:GInv 0 G)(hg:G 0 z8b):FC Tryz.prog 5 [VL 1 z0B raw] (app emp []) (.t (z20 (z2R 0 raw z8b 0))) (app emp []):=by
 refine .go Tryz.f5 ?_
 refine .len 0 (fun hl0=> ?_)
 have e1:((z2R 0 raw z8b 0):Doc)=((z2R 0 raw ({nodes:=([({id:=1,kind:=0,attrs:=[],flow:=([({char:=0,ref:=2,attrs:=[]}:Elem)]++[({char:=0,ref:=3,attrs:=[]}:Elem)]),grid:=({rows:=0,cols:=0,cells:=[],merges:=[]}:Grid),draw:=[]}:Node),({id:=2,kind:=1,attrs:=[],flow:=([({char:=97,ref:=0,attrs:=[]}:Elem),({char:=98,ref:=0,attrs:=[]}:Elem),({char:=99,ref:=0,attrs:=[]}:Elem)]++[({char:=10,ref:=0,attrs:=[]}:Elem),({char:=100,ref:=0,attrs:=[]}:Elem),({char:=10,ref:=0,attrs:=[]}:Elem)]),grid:=({rows:=0,cols:=0,cells:=[],merges:=[]}:Grid),draw:=[]}:Node)]++[({id:=3,kind:=10,attrs:=[],flow:=[],grid:=({rows:=0,cols:=0,cells:=[],merges:=[]}:Grid),draw:=[]}:Node)])}:Doc) 0)):=by
  rfl
 exact .finVE [.r [],.r [(0,X (Xc1 8 x1n X0))],.r [(4,X (Xa (Xc ((0:Int)<=0)) (Xc ((0:Int)< ((2:Nat):Int)))) ⟨by decide,by decide⟩),(7,X (Xf [(2,2)])),(9,X (z0Y z0c [({char:=0,ref:=3,attrs:=[]}:Elem)] (Xap 3 z0c 10 [({char:=0,ref:=2,attrs:=[]}:Elem)] [({char:=0,ref:=3,attrs:=[]}:Elem)]))),(10,X (Xa (Xc ((0:Int)<=0)) (Xc ((0:Int)< ((2:Nat):Int)))) ⟨by decide,by decide⟩)],.r [(2,X (Xc1 152 x7u X0)),(3,X (Xf [(2,2)])),(4,X (Xf [(2,2)])),(5,X (Xf [(2,2)])),(7,X (z0Y z0c [({char:=10,ref:=0,attrs:=[]}:Elem),({char:=100,ref:=0,attrs:=[]}:Elem),({char:=10,ref:=0,attrs:=[]}:Elem)] (Xap 3 z0c 152 [({char:=97,ref:=0,attrs:=[]}:Elem),({char:=98,ref:=0,attrs:=[]}:Elem),({char:=99,ref:=0,attrs:=[]}:Elem)] [({char:=10,ref:=0,attrs:=[]}:Elem),({char:=100,ref:=0,attrs:=[]}:Elem),({char:=10,ref:=0,attrs:=[]}:Elem)]))),(8,X (Xa (Xc ((0:Int)<=1)) (Xc ((1:Int)< ((2:Nat):Int)))) ⟨by decide,by decide⟩)],.le (.cb 16 0 true 9 [((([({char:=0,ref:=2,attrs:=[]}:Elem)]++[({char:=0,ref:=3,attrs:=[]}:Elem)]).length):Nat)=(List.map z0c ([({char:=0,ref:=2,attrs:=[]}:Elem)]++[({char:=0,ref:=3,attrs:=[]}:Elem)])).length,((([({char:=97,ref:=0,attrs:=[]}:Elem),({char:=98,ref:=0,attrs:=[]}:Elem),({char:=99,ref:=0,attrs:=[]}:Elem)]++[({char:=10,ref:=0,attrs:=[]}:Elem),({char:=100,ref:=0,attrs:=[]}:Elem),({char:=10,ref:=0,attrs:=[]}:Elem)]).length):Nat)=(List.map z0c ([({char:=97,ref:=0,attrs:=[]}:Elem),({char:=98,ref:=0,attrs:=[]}:Elem),({char:=99,ref:=0,attrs:=[]}:Elem)]++[({char:=10,ref:=0,attrs:=[]}:Elem),({char:=100,ref:=0,attrs:=[]}:Elem),({char:=10,ref:=0,attrs:=[]}:Elem)])).length] ⟨lm,lm,trivial⟩),.r [(2,X (Xf [(2,2),(3,3),(6,5),(7,4),(8,8)])),(4,X (z0Y z0i [({id:=3,kind:=10,attrs:=[],flow:=[],grid:=({rows:=0,cols:=0,cells:=[],merges:=[]}:Grid),draw:=[]}:Node)] (x7K 9 z0i 224 [({id:=1,kind:=0,attrs:=[],flow:=([({char:=0,ref:=2,attrs:=[]}:Elem)]++[({char:=0,ref:=3,attrs:=[]}:Elem)]),grid:=({rows:=0,cols:=0,cells:=[],merges:=[]}:Grid),draw:=[]}:Node),({id:=2,kind:=1,attrs:=[],flow:=([({char:=97,ref:=0,attrs:=[]}:Elem),({char:=98,ref:=0,attrs:=[]}:Elem),({char:=99,ref:=0,attrs:=[]}:Elem)]++[({char:=10,ref:=0,attrs:=[]}:Elem),({char:=100,ref:=0,attrs:=[]}:Elem),({char:=10,ref:=0,attrs:=[]}:Elem)]),grid:=({rows:=0,cols:=0,cells:=[],merges:=[]}:Grid),draw:=[]}:Node)] [({id:=3,kind:=10,attrs:=[],flow:=[],grid:=({rows:=0,cols:=0,cells:=[],merges:=[]}:Grid),draw:=[]}:Node)])))],.r [(2,X (Xc1 297 (x3k ({nodes:=([({id:=1,kind:=0,attrs:=[],flow:=([({char:=0,ref:=2,attrs:=[]}:Elem)]++[({char:=0,ref:=3,attrs:=[]}:Elem)]),grid:=({rows:=0,cols:=0,cells:=[],merges:=[]}:Grid),draw:=[]}:Node),({id:=2,kind:=1,attrs:=[],flow:=([({char:=97,ref:=0,attrs:=[]}:Elem),({char:=98,ref:=0,attrs:=[]}:Elem),({char:=99,ref:=0,attrs:=[]}:Elem)]++[({char:=10,ref:=0,attrs:=[]}:Elem),({char:=100,ref:=0,attrs:=[]}:Elem),({char:=10,ref:=0,attrs:=[]}:Elem)]),grid:=({rows:=0,cols:=0,cells:=[],merges:=[]}:Grid),draw:=[]}:Node)]++[({id:=3,kind:=10,attrs:=[],flow:=[],grid:=({rows:=0,cols:=0,cells:=[],merges:=[]}:Grid),draw:=[]}:Node)])}:Doc) 0 raw G hI (by exact hg)) (z0Y z0i ([({id:=1,kind:=0,attrs:=[],flow:=([({char:=0,ref:=2,attrs:=[]}:Elem)]++[({char:=0,ref:=3,attrs:=[]}:Elem)]),grid:=({rows:=0,cols:=0,cells:=[],merges:=[]}:Grid),draw:=[]}:Node),({id:=2,kind:=1,attrs:=[],flow:=([({char:=97,ref:=0,attrs:=[]}:Elem),({char:=98,ref:=0,attrs:=[]}:Elem),({char:=99,ref:=0,attrs:=[]}:Elem)]++[({char:=10,ref:=0,attrs:=[]}:Elem),({char:=100,ref:=0,attrs:=[]}:Elem),({char:=10,ref:=0,attrs:=[]}:Elem)]),grid:=({rows:=0,cols:=0,cells:=[],merges:=[]}:Grid),draw:=[]}:Node)]++[({id:=3,kind:=10,attrs:=[],flow:=[],grid:=({rows:=0,cols:=0,cells:=[],merges:=[]}:Grid),draw:=[]}:Node)]) X0)))]] [] [] (fun z0:Doc=>(.t (z20 z0),[])) _ _ e1
theorem y8f(d:Doc)(site:Int)(raw:List Int)(g:Bool)(k0:Nat)(G:Nat->Doc->Prop)(hI:GInv site G)(hk:k0<=38)(hg:G k0 d):FC Tryz.prog 6 [.t (z20 d),VI site,VL 1 z0B raw,VB g] (app emp []) (.tup [VL 19 z0F ((z6i site g raw [] d 0).1),.t (z20 ((z6i site g raw [] d 0).2))]) (app emp []):=by
 refine .go Tryz.f6 ?_
 refine .len 2 (fun hl2=> ?_)
 refine .loop (α:=Nat×(List Node)×(List EOp)) [.r [],.r [],.r [],.le (.nR 10 19)] 41 (fun(k,o0c0,c)=>([(1,VI site),(2,VL 1 z0B raw),(3,VB g),(4,.ptr 0 0),(9,.ptr 16 0),(10,.row 40 c.length),(11,VI (k:Int))],[(0,.box [VL 9 z0i o0c0]),(16,.box [VN]),(40,OR 19 z0F c)])) (fun(k,o0c0,c)=>k<=17/\z6i site g raw [] d 0=z6i site g raw c ⟨o0c0⟩ k/\G (k0+k) ⟨o0c0⟩/\c.length<=k) (fun(k,o0c0,c)=>raw.length-k) (0,d.nodes,[]) ?_ ?_
 ·
  exact⟨by omega,rfl,hg,by simp⟩
 rintro⟨k,o0c0,c⟩ I3 ih3
 try dsimp only at I3
 refine .bp [.r [(1,X (Xn ((k:Int)+2))),(3,X (Xl z0B raw)),(7,Xv 1 (decide (((k:Int)+2)< (raw.length:Int))) X0),(8,X (Xk (decide (((k:Int)+2)< (raw.length:Int)))))]] (decide (((k:Int)+2)< (raw.length:Int))&&decide ((k:Int)< 15)) (fun h3=> ?_) (fun h3=> ?_)
 ·
  have hD:=hI.doc I3.2.2.1
  have hC:=hI.cmd (raw.getD (k+1) default) (raw.getD (k+2) default) I3.2.2.1
  have hA:=hI.app (raw.getD k default) (raw.getD (k+1) default) (raw.getD (k+2) default) I3.2.2.1
  have hL:=y6A ⟨o0c0⟩ site (raw.getD k default) (raw.getD (k+1) default) (raw.getD (k+2) default)
  refine .loop (α:=Bool×Nat) [.r [(4,X (Xi z0B raw (k:Int))),(8,X (Xn ((k:Int)+1))),(9,X (Xi z0B raw ((k:Int)+1))),(13,X (Xn ((k:Int)+2))),(14,X (Xi z0B raw ((k:Int)+2))),(16,X (Xc1 241 (y0F ({nodes:=o0c0}:Doc) site (raw.getD k default) (raw.getD (k+1) default) (raw.getD (k+2) default) (by assumption) (by assumption)) X0))],.r [],.r [(1,X (Xl z0F (z1x ({nodes:=o0c0}:Doc) site (raw.getD k default) (raw.getD (k+1) default) (raw.getD (k+2) default))))]] 289 (fun(s,j)=>([(1,VI site),(2,VL 1 z0B raw),(3,VB g),(4,.ptr 0 0),(9,.ptr 16 0),(10,.row 40 c.length),(11,VI (k:Int)),(12,VL 19 z0F (z1x ({nodes:=o0c0}:Doc) site (raw.getD k default) (raw.getD (k+1) default) (raw.getD (k+2) default))),(13,VB s),(46,VL 19 z0F (z1x ({nodes:=o0c0}:Doc) site (raw.getD k default) (raw.getD (k+1) default) (raw.getD (k+2) default))),(47,VI ((z1x ({nodes:=o0c0}:Doc) site (raw.getD k default) (raw.getD (k+1) default) (raw.getD (k+2) default)).length:Int)),(48,VI (j:Int))],[(0,.box [VL 9 z0i o0c0]),(16,.box [VN]),(40,OR 19 z0F c)])) (fun(s,j)=>j<=(z1x ⟨o0c0⟩ site (raw.getD k default) (raw.getD (k+1) default) (raw.getD (k+2) default)).length/\s=x3R g (z1x ⟨o0c0⟩ site (raw.getD k default) (raw.getD (k+1) default) (raw.getD (k+2) default)) j) (fun(s,j)=>(z1x ⟨o0c0⟩ site (raw.getD k default) (raw.getD (k+1) default) (raw.getD (k+2) default)).length-j) (false,0) ?_ ?_
  ·
   exact⟨by omega,rfl⟩
  rintro⟨s,j⟩ I8 ih8
  try dsimp only at I8
  refine .bp [.r []] (decide ((j:Int)< ((z1x ({nodes:=o0c0}:Doc) site (raw.getD k default) (raw.getD (k+1) default) (raw.getD (k+2) default)).length:Int))) (fun h8=> ?_) (fun h8=> ?_)
  ·
   refine .back [.r [(0,X (Xi z0F (z1x ({nodes:=o0c0}:Doc) site (raw.getD k default) (raw.getD (k+1) default) (raw.getD (k+2) default)) (j:Int)))],.r [(3,Xv 1 (!s) X0),(4,Xv 1 (!s) X0),(5,Xv 1 (!s) X0),(7,Xv 1 ((!s)&&(((((z1x ({nodes:=o0c0}:Doc) site (raw.getD k default) (raw.getD (k+1) default) (raw.getD (k+2) default)).getD j default)).kind)==3)) X0),(8,Xka (!s) (((((z1x ({nodes:=o0c0}:Doc) site (raw.getD k default) (raw.getD (k+1) default) (raw.getD (k+2) default)).getD j default)).kind)==3)),(9,X (Xk' s))],.r [(0,X (Xn ((j:Int)+1)))]] [(0,0),(16,16),(40,40)] (ih8 ((s|| ((((((z1x ({nodes:=o0c0}:Doc) site (raw.getD k default) (raw.getD (k+1) default) (raw.getD (k+2) default)).getD j default)).kind)==3)&& !g)),(j+1)) ?_ ?_)
   ·
    refine⟨by omega,?_⟩
    rw[x2P (by omega),<-I8.2]
    try(cases s<;>simp)
   ·
    ((try dsimp only);omega)
  ·
   have hs:s=x3R g (z1x ⟨o0c0⟩ site (raw.getD k default) (raw.getD (k+1) default) (raw.getD (k+2) default)) (z1x ⟨o0c0⟩ site (raw.getD k default) (raw.getD (k+1) default) (raw.getD (k+2) default)).length:=by rw[I8.2,show j=(z1x ⟨o0c0⟩ site (raw.getD k default) (raw.getD (k+1) default) (raw.getD (k+2) default)).length by omega]
   refine .bp [.r [(2,X (Xc1 313 (z8C ({nodes:=o0c0}:Doc) (z1x ({nodes:=o0c0}:Doc) site (raw.getD k default) (raw.getD (k+1) default) (raw.getD (k+2) default)) (by assumption)) X0))],.r [(4,Xv 1 ((z3s ({nodes:=o0c0}:Doc) (z1x ({nodes:=o0c0}:Doc) site (raw.getD k default) (raw.getD (k+1) default) (raw.getD (k+2) default)))==0) X0),(5,X (Xk ((z3s ({nodes:=o0c0}:Doc) (z1x ({nodes:=o0c0}:Doc) site (raw.getD k default) (raw.getD (k+1) default) (raw.getD (k+2) default)))==0)))]] (((z3s ({nodes:=o0c0}:Doc) (z1x ({nodes:=o0c0}:Doc) site (raw.getD k default) (raw.getD (k+1) default) (raw.getD (k+2) default)))==0)&& !s) (fun h13=> ?_) (fun h13=> ?_)
   ·
    have hst:=hI.step (raw.getD k default) (raw.getD (k+1) default) (raw.getD (k+2) default) (show k0+k<55 by omega) I3.2.2.1
    have hr:k+2<raw.length/\k<15:=by omega
    refine .back [.r [],.r [(2,X (x7K 19 z0F 40 c (z1x ({nodes:=o0c0}:Doc) site (raw.getD k default) (raw.getD (k+1) default) (raw.getD (k+2) default))))],.r [(1,X (Xn ((k:Int)+3)))]] [(0,0),(16,16),(40,40)] (ih3 ((k+3),((z4S ({nodes:=o0c0}:Doc) (z1x ({nodes:=o0c0}:Doc) site (raw.getD k default) (raw.getD (k+1) default) (raw.getD (k+2) default)))).nodes,(c++(z1x ({nodes:=o0c0}:Doc) site (raw.getD k default) (raw.getD (k+1) default) (raw.getD (k+2) default)))) ?_ ?_)
    ·
     rw[y1G h13.1] at hst
     exact⟨by omega,I3.2.1.trans (x5s hr (x9c h13.1 (hs.symm.trans h13.2))),hst,by rw[qf];omega⟩
    ·
     ((try dsimp only);omega)
   ·
    have hst:=hI.step (raw.getD k default) (raw.getD (k+1) default) (raw.getD (k+2) default) (show k0+k<55 by omega) I3.2.2.1
    have hr:k+2<raw.length/\k<15:=by omega
    refine .back [.r [(1,X (Xn ((k:Int)+3)))]] [(0,0),(16,16),(40,40)] (ih3 ((k+3),o0c0,c) ?_ ?_)
    ·
     exact⟨by omega,I3.2.1.trans (x5t hr (x9d (h13.imp id hs.symm.trans))),hI.more (show k0+k<55 by omega) I3.2.2.1,by omega⟩
    ·
     ((try dsimp only);omega)
 ·
  have e1:((z6i site g raw [] d 0).1:List EOp)=c:=by
   rw[I3.2.1,y1I (by omega)]
  have e2:((z6i site g raw [] d 0).2:Doc)=({nodes:=o0c0}:Doc):=by
   rw[I3.2.1,y1I (by omega)]
  exact .finVE [.r [],.le (.fr 8 [(c.length:Nat)=(List.map z0F c).length] ⟨lm,trivial⟩)] [] [] (fun((z0,z1):(List EOp)×Doc)=>(.tup [VL 19 z0F z0,.t (z20 z1)],[])) _ _ (pr e1 e2)
end Go.Ch
end
section
namespace Go.Ch
open Go Go.Ab
variable {U:US}
theorem y44(p q:List DU):z2U (z0r p q)<=z2U p+z2U q:=by
 induction p,q using z0r.induct with
 |case7 p hne=>rw[show z0r p []=p by unfold z0r;split<;>simp_all];omega
 |case8 q h1 h2=>rw[show z0r [] q=[] by unfold z0r;split<;>simp_all];simp[z2U]
 |case2 p e q hne ih=>
  rw[z0r]
  rotate_left
  ·exact hne
  simp only[z2U] at*;omega
 |_=>rw[z0r];simp only[z2U] at*;omega
theorem x1o(hU:UB U){p:Pl}{s:Sel}{es:List Elem}(hp:PlB p)(hf:p.node.flow.length<=1048576)(hn:∀x∈p.node.flow,RU U x)(ha:AuB U p.author)
 (hs:0<=s.fr/\s.fr<=s.tq/\s.tq< (p.shown.length:Int)) (hl:es.length<=1048576) (he:∀x∈es,RU U x):∃us,DU_ U (y1u p s es) us/\z2U us<=es.length:=by
 have hg:=y1v hp hs
 obtain⟨_,T⟩:=x0v hU.len (n:=p.node.flow.length) (k:=z7V p.shown s.fr) (es:=es) (au:=p.author) hg (by omega) (by omega) (x3T hU ha) he
 obtain⟨_,E⟩:=x0x hU.len (f:=p.node.flow) (pl:=(p.shown.take s.tq.toNat).drop s.fr.toNat) (au:=p.author) (by omega) (x3U hU ha)
 have tf:=z6k (n:=p.node.flow.length) (k:=(z7V p.shown s.fr).toNat) (es:=es) (au:=p.author) (by omega)
 have ef:=z6l p.node.flow ((p.shown.take s.tq.toNat).drop s.fr.toNat) p.author p.node.flow.length
 have tl:=T.lens
 have el:=E.lens
 obtain⟨P,p1,p2⟩:=y3s hU.len T E (by omega) (by omega)
 obtain⟨J,j1,j2⟩:=y6F hU.len E P p1.symm
 refine⟨_,J,?_⟩
 have a1:=y44 (exD (z7w p.node.flow ((p.shown.take s.tq.toNat).drop s.fr.toNat) p.author)) (exD (z00 (y0o p.node.flow.length (z7V p.shown s.fr) es p.author) (z7w p.node.flow ((p.shown.take s.tq.toNat).drop s.fr.toNat) p.author)))
 have a2:=z6j E.sw
 have a3:=z6j P.sw
 have a4:=(y6U (exD (y0o p.node.flow.length (z7V p.shown s.fr) es p.author)) (exD (z7w p.node.flow ((p.shown.take s.tq.toNat).drop s.fr.toNat) p.author))).1.1
 have a5:=z6j T.sw
 omega
theorem z5n{o:EOp}(h:z2y o=0)(hk:o.kind≠0):1<=o.node/\o.node<=1073741824:=by
 unfold z2y at h
 split at h
 ·cases h
 split at h
 ·cases h
 (try rw[if_neg hk] at h)
 split at h
 ·cases h
 ·omega
def GdC(U:US)(s:Int)(c:List EOp):Prop:=∀o∈c,z2y o=0->o.kind=3\/Gd U s o
theorem GdC.nil{s:Int}:GdC U s []:=fun o ho=>by cases ho
theorem GdC.one{s:Int}{o:EOp}(h:z2y o=0->o.kind=3\/Gd U s o):GdC U s [o]:=fun x hx=>by rw[qA] at hx;subst hx;exact h
theorem GdC.two{s:Int}{o p:EOp}(h:z2y o=0->o.kind=3\/Gd U s o)(h2:z2y p=0->p.kind=3\/Gd U s p):GdC U s [o,p]:=fun x hx=>by
 simp only[qg,qX,or_false] at hx
 rcases hx with rfl|rfl
 ·exact h
 ·exact h2
theorem y3L{s:Int}{k:Nat}{d:Doc}(hs:1<=s/\s<=1000)(h:PP U s k d.nodes)(h0:z1w d s=0):s*65536<=z04 d s/\z04 d s< (s+1)*65536:=by
 obtain⟨_,_,n3,_⟩:=z9x (by omega) h h0
 refine⟨?_,n3⟩
 have hd:=h.doc
 have hb:z9K d.nodes s d.nodes.length%65536≠65535:=by
  intro q
  rw[(x0e hd (by omega) q).2] at h0;cases h0
 have e:z04 d s=z9K d.nodes s d.nodes.length+1:=(x0f hd (by omega) hb).1
 obtain⟨a,b⟩:=y1Q d.nodes s d.nodes.length
 rcases a with a| ⟨n,hn,q1,q2⟩<;>omega
theorem y45(hU:UB U){s:Int}{k:Nat}{d:Doc}(h:PP U s k d.nodes)(hk:k<=57){S:Sel}{t au:ByteArray}(hz:au≠zzB)(ht:y8o t)(hl:t.size<=12):GdC U s (z3r d S (z6g t) au):=by
 unfold z3r
 split
 ·exact .nil
 ·rename_i q
  have h0:atE d S au=0:=qc q
  obtain⟨p1,p2,p3,p4,p5⟩:=z2G hU h (by omega) (hU.no hz) h0
  obtain⟨us,hd,ha⟩:=x1o hU p1 p2 p3 p4 p5 (es:=z7x (atP d S au) S (z6g t)) (by rw[z5j,z69];omega) (y1K p1 p3 (y1R ht))
  rw[z5j,z69] at ha
  exact .one fun e=> .inr (.F _ _ us (z5n e (show(2:Int)≠0 by decide)) hd (by omega))
def x99:DU->Bool
 | .A _=>true
 |_=>false
theorem x7v{us:List DU}(h:∀u∈us,x99 u=false):z2U us=0:=by
 induction us with
 |nil=>rfl
 |cons u us ih=>
  have h1:=h u (by simp)
  have h2:=ih fun v hv=>h v (by simp[hv])
  cases u with
  |A e=>cases h1
  |K c=>exact h2
  |C=>exact h2
theorem x7w(hU:UB U){s:Int}{k:Nat}{d:Doc}(h:PP U s k d.nodes)(hk:k<=57){S:Sel}{c:List Attr}(hn:NmZ U c)(w:Int->Bool)(h0:z8t d S c=0):GdC U s (x1C (atP d S {data:=#[]}) c w):=by
 have h1:atE d S {data:=#[]}=0:=by
  apply qc;intro q
  rw[y6u q] at h0;exact q h0
 have h2:z1B true c 0=0:=by rw[y0p h1] at h0;exact h0
 obtain⟨p1,p2,p3,p4,p5⟩:=z2G hU h (by omega) (hU.no (by decide)) h1
 have r:=y4U hU (f:=z9J w (atP d S {data:=#[]}).shown (atP d S {data:=#[]}).node.flow.length (atP d S {data:=#[]}).shown.length) (n:=(atP d S {data:=#[]}).node.flow.length) (y73 (z1z.1 h2) hn) (by omega)
 refine .one fun e=> .inr (.F _ _ _ (z5n e (show(2:Int)≠0 by decide)) r.1 ?_)
 rw[x7v]
 ·omega
 ·intro u hu
  obtain⟨i,_,rfl⟩:=qI.1 hu
  unfold y1x;split<;>rfl
theorem x1p(hU:UB U){s:Int}(hs:1<=s/\s<=1000){k:Nat}{d:Doc}(h:PP U s k d.nodes)(hk:k<=57){S:Sel}{n:Node}{au:ByteArray}(hau:au≠zzB)(hg:NG U n)(hz:NZ 10 n):GdC U s (z4T d S n s au):=by
 unfold z4T
 split
 ·exact .nil
 ·rename_i q
  have h0:z5g d S n s au=0:=qc q
  have h1:atE d S au=0:=by
   apply qc;intro z
   rw[(x5f z).2.2] at h0;exact z h0
  have h2:z1w d s=0:=by
   unfold z5g at h0
   rw[if_neg (fun z=>z h1)] at h0
   split at h0
   ·cases h0
   ·split at h0
    ·rename_i z;exact absurd h0 z
    ·rename_i z;exact qc z
  obtain⟨p1,p2,p3,p4,p5⟩:=z2G hU h (by omega) (hU.no hau) h1
  obtain⟨n1,n2,n3,n4⟩:=z9x (by omega) h h2
  obtain⟨us,hd,ha⟩:=x1o hU p1 p2 p3 p4 p5 (es:=y4J d S s au) (by simp[y4J]) (fun x hx=>by
   rw[show x=⟨0,z04 d s,z6f (atP d S au) S.fr⟩ by simpa[y4J] using hx]
   exact y6O (by omega) (z9t p1 p3 _))
  have e3:(y4J d S s au).length=1:=rfl
  exact .two (fun e=> .inr (.N _ ⟨hg.at1,hg.fl,hg.mg,hg.ce,hg.dr,hg.kd⟩ ⟨hz.fl,hz.ce,hz.dr⟩ (x0F e) (y3L hs h h2))) (fun e=> .inr (.F _ _ us (z5n e (show(2:Int)≠0 by decide)) hd (by omega)))
theorem x1q{s:Int}(i:Int)(g:GEd):GdC U s [opG i g]:= .one fun _=> .inl rfl
theorem x56(hU:UB U){s:Int}(hs:1<=s/\s<=1000){k:Nat}{d:Doc}(h:PP U s k d.nodes)(hk:k<=57)(i r c:Int):GdC U s (z9r d i r c s):=by
 unfold z9r
 split
 ·exact .nil
 ·rename_i q
  have h0:z7e d i r c s=0:=qc fun z=>q (.inl z)
  have hi:¬0<=x2M d i r c:=fun z=>q (.inr z)
  have h2:z1w d s=0:=by
   unfold z7e at h0
   split at h0
   ·rename_i z;exact absurd h0 z
   split at h0
   ·cases h0
   split at h0
   ·cases h0
   first|exact h0|rwa [if_neg hi] at h0
  exact .two (fun e=> .inr (.N _ ⟨VU.nil,fun x hx=>by rw[show x=⟨10,0,[]⟩ by simpa[x0g] using hx];exact y6G,rfl,(fun x hx=>by cases hx),(fun x hx=>by cases hx),by simp[x0g]⟩ ⟨by simp[x0g],by simp[x0g],by simp[x0g]⟩ (x0F e) (y3L hs h h2))) (fun _=> .inl rfl)
theorem z1J{Q:List EOp->Prop}{p:Prop}[Decidable p]{x y:List EOp}(hx:p->Q x)(hy:¬p->Q y):Q (if p then x else y):=by
 split
 ·rename_i h;exact hx h
 ·rename_i h;exact hy h
theorem x7x(hN:UN U){s:Int}(hs:1<=s/\s<=1000){k:Nat}{d:Doc}(h:PP U s k d.nodes)(hk:k<=57)(a b c:Int):GdC U s (z1x d s a b c):=by
 have hU:=hN.toUB
 have fmt:∀(S:Sel) (cs:List Attr) (w:Int->Bool),NmZ U cs->GdC U s (if z8t d S cs≠0 then[] else x1C (atP d S {data:=#[]}) cs w):=fun S cs w hc=>
  z1J (fun _=> .nil) (fun q=>x7w hU h hk hc w (qc q))
 unfold z1x
 refine z1J (fun _=>y45 hU h hk (by decide) (z67 _) (y0z _)) (fun _=>z1J (fun _=>y45 hU h hk (by decide) y6y (by decide)) (fun _=>z1J (fun _=>y45 hU h hk (by decide) x5r (by decide)) (fun _=>
  z1J (fun _=>fmt _ _ _ (z3I hU ?_ ?_)) (fun _=>z1J (fun _=>fmt _ _ _ (z3I hU ?_ ?_)) (fun _=>
  z1J (fun _=>x1p hU hs h hk (by decide) (x30 _ _) (y1S (by simp[y1y]) (by simp[y1y]) (by simp[y1y]))) (fun _=>z1J (fun _=>x1p hU hs h hk (by decide) (x32 hN _) (y1S (by simp[z9q]) (by simp[z9q]) (by simp[z9q]))) (fun _=>z1J (fun _=>x1p hU hs h hk (by decide) (x31 hN) (y1S (by simp[y1z]) (by simp[y1z]) (by simp[y1z]))) (fun _=>
  z1J (fun _=>z1J (fun _=> .nil) (fun _=>x1q _ _)) (fun _=>z1J (fun _=>z1J (fun _=> .nil) (fun _=>x1q _ _)) (fun _=>
  z1J (fun _=>x56 hU hs h hk _ _ _) (fun _=>z1J (fun _=> ?_) (fun _=> ?_))))))))))))
 ·exact x2X hN.bo hN.si hN.ma (z0w _ (by decide))
 ·exact y0A (by decide) (by decide) (by decide) (z0w _ (by decide))
 ·exact x2X hN.he hN.li hN.al (z0w _ (by decide))
 ·exact y0A (by decide) (by decide) (by decide) (z0w _ (by decide))
 ·refine .one fun e=> .inr (.D _ _ (z5n e (show(4:Int)≠0 by decide)) (x3Z e) (fun o ho=> ?_) (fun o ho=> ?_) (by simp))
  ·rw[qA] at ho;subst ho
   exact⟨(by decide:({data:=#[98]}:ByteArray).size<=100),(by decide:mtB.size<=100),(by decide:mtB.size<=100)⟩
  ·rw[qA] at ho;subst ho;rfl
 ·exact .one fun e=> .inr (.A _ _ (z5n e (show(1:Int)≠0 by decide)) (y73 (z1z.1 (x3Y e)) (z3I hN.toUB hN.ti (y0A (by decide) (by decide) (by decide) (z0w _ (by decide))))))
theorem y8g{site:Int}{d:Doc}{a b c:Int}(h:okC site false d a b c=true):∀o∈z1x d site a b c,o.kind=3->False:=fun o ho hk=>by
 unfold okC at h
 rw[qm] at h
 have h2:=h.2
 unfold x3R at h2
 rw[List.take_length,ze,List.any_eq_false] at h2
 have:=h2 o ho
 rw[hk] at this
 exact this rfl
theorem x4d(hN:UN U){s:Int}(hs:1<=s/\s<=1000){raw:List Int}:∀(m:Nat) {k0 k:Nat} {c:List EOp} {d:Doc},raw.length-k=m->k0<=38->k<=17->GK U s (k0+k) d->(∀o∈c,Gd U s o)->∀o∈(z6i s false raw c d k).1,Gd U s o:=by
 intro m
 induction m using Nat.strongRecOn with
 |_ m ih=>
  intro k0 k c d hm hk h17 hg hc
  by_cases h:k+2<raw.length/\k<15
  ·by_cases h2:okC s false d (raw.getD k default) (raw.getD (k+1) default) (raw.getD (k+2) default)=true
   ·rw[x5s h h2]
    have h2':=h2
    unfold okC at h2'
    rw[qm,decide_eq_true_eq] at h2'
    have h0:=h2'.1
    obtain⟨r1,r2⟩:=x0L hN (by omega) hg h0
    obtain⟨e1,e2,e3,e4⟩:=y1T h0
    refine ih _ (by omega) (k0:=k0) rfl hk (by omega) ⟨by omega,r2⟩ (fun o ho=> ?_)
    rcases qj.1 ho with q|q
    ·exact hc o q
    ·refine(x7x hN hs hg.2 hg.1 _ _ _ o q (z4y.1 e2 o q)).resolve_left (fun z=> ?_)
     exact y8g h2 o q z
   ·rw[x5t h h2]
    exact ih _ (by omega) (k0:=k0) rfl hk (by omega) ⟨by omega,hg.2.mono (by omega)⟩ hc
  ·rw[y1I h];exact hc
end Go.Ch
end
section
namespace Go.Ch
open Go Go.Ab
variable {U:US} {s:Int}
theorem x7y{n:Int}{c:List Attr}(hn:1<=n/\n<=1073741824)(hc:z1B true c 0=0):z2y (opA n c)=0:=by
 unfold z2y
 rw[if_neg (by show¬((1:Int)< 0\/4< (1:Int));decide)]
 have hu:y8i (opA n c)=false:=by
  unfold y8i opA
  simp only[show((1:Int)==0)=false from rfl,show((1:Int) !=0)=true from rfl,show((1:Int) !=1)=false from rfl,show((1:Int) !=2)=true from rfl,show((1:Int) !=3)=true from rfl,show((1:Int) !=4)=true from rfl,Bool.false_and,Bool.true_and,Bool.false_or]
  rw[show z0Z ⟨0,0,[],[],⟨0,0,[],[]⟩,[]⟩=true by decide+kernel,show x6I ⟨[],[],[],[],[]⟩=false by decide+kernel]
  rfl
 rw[if_neg (by rw[hu];decide),if_neg (show¬(opA n c).kind=0 from(by decide:¬(1:Int)=0)),if_neg (by show¬(n<1\/1073741824<n);omega),if_pos (show(opA n c).kind=1 from rfl)]
 exact hc
theorem x7z{n:Int}{c:List DOp}(hn:1<=n/\n<=1073741824)(hc:z2E c 0=0):z2y (opD n c)=0:=by
 unfold z2y
 rw[if_neg (by show¬((4:Int)< 0\/4< (4:Int));decide)]
 have hu:y8i (opD n c)=false:=by
  unfold y8i opD
  simp only[show((4:Int)==0)=false from rfl,show((4:Int) !=0)=true from rfl,show((4:Int) !=1)=true from rfl,show((4:Int) !=2)=true from rfl,show((4:Int) !=3)=true from rfl,show((4:Int) !=4)=false from rfl,Bool.false_and,Bool.true_and,Bool.false_or]
  rw[show z0Z ⟨0,0,[],[],⟨0,0,[],[]⟩,[]⟩=true by decide+kernel,show x6I ⟨[],[],[],[],[]⟩=false by decide+kernel]
  rfl
 rw[if_neg (by rw[hu];decide),if_neg (show¬(opD n c).kind=0 from(by decide:¬(4:Int)=0)),if_neg (by show¬(n<1\/1073741824<n);omega),if_neg (show¬(opD n c).kind=1 from(by decide:¬(4:Int)=1)),if_neg (show¬(opD n c).kind=2 from(by decide:¬(4:Int)=2)),if_neg (show¬(opD n c).kind=3 from(by decide:¬(4:Int)=3))]
 exact hc
theorem x7A{n:Node}(hn:z0X n=0):z2y (opN n)=0:=by
 unfold z2y
 rw[if_neg (by show¬((0:Int)< 0\/4< (0:Int));decide)]
 have hu:y8i (opN n)=false:=by
  unfold y8i opN
  simp only[show((0:Int)==0)=true from rfl,show((0:Int) !=0)=false from rfl,show((0:Int) !=1)=true from rfl,show((0:Int) !=2)=true from rfl,show((0:Int) !=3)=true from rfl,show((0:Int) !=4)=true from rfl,Bool.false_and,Bool.true_and,Bool.false_or]
  rw[show x6I ⟨[],[],[],[],[]⟩=false by decide+kernel]
  rfl
 rw[if_neg (by rw[hu];decide),if_pos (show(opN n).kind=0 from rfl)]
 exact hn
theorem y12(hU:UB U){o:EOp}(h:Gd U s o):z2y o=0/\OpL o:=by
 cases h with
 |N n hg hz hv hi=>exact⟨x7A hv,x5A hU hg hz (by decide)⟩
 |A k c hk hc=>exact⟨x7y hk (z1z.2 hc.g),x7h (by have:=hc.len hU.len;omega)⟩
 |F k st us hk hd ha=>exact⟨x7o hk hd,x2W hU hd⟩
 |D k c hk hc hz hs hl=>exact⟨x7z hk hc,x7i (by omega)⟩
theorem x1r(hU:UB U):∀(c:List EOp) {l:List Node} {m:Nat},GP U m l->10<=m->m+12*c.length<=90000->l.length+c.length<=1000000->(∀o∈c,Gd U s o)->x6Q l c
 | [],l,m,_,_,_,_,_=>trivial
 |o::c,l,m,h,hm,hb,hl,hg=>by
  simp only[qi] at hb hl
  have g0:=hg o (by simp)
  obtain⟨e0,l0⟩:=y12 hU g0
  refine⟨⟨by omega,h.vd.srt,e0,l0,fun n hn=>⟨(h.nd n hn).1.b hU (h.nd n hn).2 (by omega),(h.nd n hn).1.lite,(h.nd n hn).1.kd⟩⟩,fun h0=> ?_⟩
  obtain⟨k1,k2⟩:=y1W h hm g0 h0
  exact x1r hU c k1 (by omega) (by omega) (by omega) (fun x hx=>hg x (by simp[hx]))
theorem x4e(hU:UB U){d:Doc}{m:Nat}{c:List EOp}{l2:List Node}(h:GP U m d.nodes)(hm:10<=m)(hb:m+12*c.length<=3000)(hl:d.nodes.length<=90)(hlc:c.length<=1000)(hg:∀o∈c,Gd U s o)(h0:z3X d.nodes c=0)(h2:z3e d.nodes c=l2):
 AppB d c/\z3s d c=0/\z4S d c=⟨l2⟩:=by
 have hv:z1R c 0=0:=z4y.2 fun o ho=>(y12 hU (hg o ho)).1
 have hd:z1N d=0:=y4Q.2 h.vd
 have r:=x4Z hd hv h0 h2
 exact⟨⟨x0y hU (m:=m) (q:=100) (by omega) (by omega) (by omega) h.nd,fun o ho=>(y12 hU (hg o ho)).2,fun _ _=>x1r hU c h hm (by omega) (by omega) hg⟩,r.2,r.1⟩
theorem x4f{s:Int}:∀(c:List EOp) {l:List Node} {m:Nat},GP U m l->10<=m->(∀o∈c,Gd U s o)->z3X l c=0->GP U (m+12*c.length) (z3e l c)/\(z3e l c).length<=l.length+c.length
 | [],l,m,h,_,_,_=>⟨by simpa[z3e] using h,by simp[z3e]⟩
 |o::c,l,m,h,hm,hg,h0=>by
  obtain⟨a,b⟩:=z7a.1 h0
  obtain⟨k1,k2⟩:=y1W h hm (hg o (by simp)) a
  obtain⟨i1,i2⟩:=x4f c k1 (by omega) (fun x hx=>hg x (by simp[hx])) b
  refine⟨?_,?_⟩
  ·rw[qi,show m+12*(c.length+1)=m+12+12*c.length by omega];exact i1
  ·rw[qi]
   show(z3e (z0W l o) c).length<=_
   omega
def UE3:US:=⟨UC++[],[]⟩
structure Ok43(U:US)(raw p q:List Int)(d:Doc)(a b:List EOp)(da db d2:Doc)(x y:List EOp):Prop where
 hd:z2R 0 raw z8b 0=d
 ha:(z6i 1 false p [] d 0).1=a
 ha2:(z6i 1 false p [] d 0).2=da
 hb:(z6i 2 false q [] d 0).1=b
 hb2:(z6i 2 false q [] d 0).2=db
 doc:DocL d
 la:a.length<=17
 lb:b.length<=17
 oa:∀o∈a,CpB o
 ob:∀o∈b,CpB o
 ea:z1R a 0=0
 eb:z1R b 0=0
 mt:x6k U 1 2 a b
 ox:∀o∈x,CpB o
 oy:∀o∈y,CpB o
 hx:(z5M a b).1=x
 hy:(z5M a b).2=y
 apA:AppB da y
 eA:z3s da y=0
 dA:z4S da y=d2
 apB:AppB db x
 eB:z3s db x=0
 dB:z4S db x=d2
 l2:d2.nodes.length<=1048576
theorem x7B{k:Nat}{d:Doc}(h:GK U 0 k d):GK U 2 k d:=⟨h.1,h.2.gp,h.2.len,fun n hn=>by have:=h.2.id n hn;omega⟩
theorem w0a(raw p q:List Int):∃d a b da db d2 x y k0,Ok43 UE3 raw p q d a b da db d2 x y/\k0<=38/\GK UE3 1 k0 d/\GK UE3 2 k0 d:=by
 have hN:UN UE3:=x34 [] (by simp) [] (fun v hv=>by cases hv)
 have hU:=hN.toUB
 have hI:GInv 0 (GK UE3 0):=y1U hN rfl (s:=0) (by omega)
 obtain⟨k0,hk,h0⟩:=hI.grown (raw:=raw) _ rfl (by omega) (x0M hN)
 generalize hd:z2R 0 raw z8b 0=d at h0
 have h1:=x7n h0
 have h2:=x7B h0
 have start:∀{s:Int},GK UE3 s k0 d->CI UE3 s d.nodes [] d:=fun h=>⟨h.2.mono (by have:=h.1;omega),rfl,rfl,fun o ho=>by cases ho⟩
 obtain⟨ci1,cl1,pp1⟩:=x35 hN (s:=1) (by omega) (g:=false) (raw:=p) (l:=d.nodes) hk _ (k:=0) (c:=[]) rfl (by omega) (qn _) h1 (start h1)
 obtain⟨ci2,cl2,pp2⟩:=x35 hN (s:=2) (by omega) (g:=false) (raw:=q) (l:=d.nodes) hk _ (k:=0) (c:=[]) rfl (by omega) (qn _) h2 (start h2)
 have g1:=x4d hN (s:=1) (by omega) (raw:=p) _ (k0:=k0) (k:=0) (c:=[]) (d:=d) rfl hk (by omega) h1 (fun o ho=>by cases ho)
 have g2:=x4d hN (s:=2) (by omega) (raw:=q) _ (k0:=k0) (k:=0) (c:=[]) (d:=d) rfl hk (by omega) h2 (fun o ho=>by cases ho)
 generalize ha:(z6i 1 false p [] d 0).1=a at ci1 cl1 g1
 generalize ha2:(z6i 1 false p [] d 0).2=da at ci1 pp1
 generalize hb:(z6i 2 false q [] d 0).1=b at ci2 cl2 g2
 generalize hb2:(z6i 2 false q [] d 0).2=db at ci2 pp2
 have gp0:GP UE3 238 d.nodes:=h0.2.gp.mono (by have:=h0.1;omega)
 obtain⟨m1,m2,⟨m3,m4⟩,m5,m6,m7,m8⟩:=x38 hU (s:=1) (t:=2) (by decide) a gp0 (by omega) (by omega) g1 g2 ci1.e ci2.e
 rw[ci1.l] at m6 m8
 rw[ci2.l] at m7 m8
 have gpa:GP UE3 238 da.nodes:=pp1.gp.mono (by omega)
 have gpb:GP UE3 238 db.nodes:=pp2.gp.mono (by omega)
 have la:=pp1.len
 have lb:=pp2.len
 obtain⟨a1,a2,a3⟩:=x4e hU gpa (by omega) (by omega) (by omega) (by omega) m2 m6 rfl
 obtain⟨b1,b2,b3⟩:=x4e hU gpb (by omega) (by omega) (by omega) (by omega) m1 m7 m8.symm
 have lr:=(x4f _ gpa (by omega) m2 m6).2
 refine⟨d,a,b,da,db,⟨z3e da.nodes (z5M a b).2⟩,_,_,k0,⟨hd,ha,ha2,hb,hb2,hI.doc h0,cl1,cl2,fun o ho=>x27 hU (g1 o ho) (y12 hU (g1 o ho)).2,fun o ho=>x27 hU (g2 o ho) (y12 hU (g2 o ho)).2,z4y.2 fun o ho=>(y12 hU (g1 o ho)).1,z4y.2 fun o ho=>(y12 hU (g2 o ho)).1,m5,fun o ho=>x27 hU (m1 o ho) (y12 hU (m1 o ho)).2,fun o ho=>x27 hU (m2 o ho) (y12 hU (m2 o ho)).2,rfl,rfl,a1,a2,a3,b1,b2,b3,?_⟩,hk,h1,h2⟩
 show(z3e da.nodes (z5M a b).2).length<=_
 omega
end Go.Ch
end
section
set_option maxRecDepth 100000
set_option maxHeartbeats 4000000
open Go Go.Proofs Go.Ab
namespace Go.Ch
theorem x1s(raw:List Int)(G:Nat->Doc->Prop)(hI:GInv 0 G)(hg:G 0 z8b){d:Doc}(h:z2R 0 raw z8b 0=d):FC Tryz.prog 5 [VL 1 z0B raw] (app emp []) (.t (z20 d)) (app emp []):=h▸x3l raw G hI hg
theorem z9F(d:Doc)(site:Int)(raw:List Int)(k0:Nat)(G:Nat->Doc->Prop)(hI:GInv site G)(hk:k0<=38)(hg:G k0 d){c:List EOp}{d2:Doc}(h1:(z6i site false raw [] d 0).1=c)(h2:(z6i site false raw [] d 0).2=d2):FC Tryz.prog 6 [.t (z20 d),VI site,VL 1 z0B raw,VB false] (app emp []) (.tup [VL 19 z0F c,.t (z20 d2)]) (app emp []):=by
 have h:=y8f d site raw false k0 G hI hk hg
 rw[h1,h2] at h;exact h
theorem y3M(d:Doc)(c:List EOp)(hb:AppB d c){d2:Doc}(h:z4S d c=d2)(h0:z3s d c=0):FC Tryz.prog 8 [.t (z20 d),VL 19 z0F c] (app emp []) (.tup [.t (z20 d2),VI 0]) (app emp []):=by
 have:=z8C d c hb
 rw[h,h0] at this;exact this
theorem x3m(raw p q:List Int)(d:Doc)(a b:List EOp)(da db d2:Doc)(x y:List EOp)(k0:Nat)(G G1 G2:Nat->Doc->Prop)(hI:GInv 0 G)(hg:G 0 z8b)(hI1:GInv 1 G1)(hI2:GInv 2 G2)(hk:k0<=38)(hg1:G1 k0 d)(hg2:G2 k0 d)(hU:UB UE3)(hx:Ok43 UE3 raw p q d a b da db d2 x y):FC Tryz.prog 3 [VL 1 z0B raw,VL 1 z0B p,VL 1 z0B q] (app emp []) (VB true) (app emp []):=by
 refine .go Tryz.f3 ?_
 refine .len 0 (fun hl0=> ?_)
 refine .len 1 (fun hl1=> ?_)
 refine .len 2 (fun hl2=> ?_)
 have hD:=hx.doc
 have l2:=hx.l2
 have la:=hx.la
 have lb:=hx.lb
 have e1:((((true||false)||false)||false):Bool)=true:=by
  rfl
 exact .finE [.r [],.r [(0,X (Xc0 x3j X0))],.f,.r [(1,X (Xc1 32 (x1s raw G hI hg hx.hd) X0))],.r [(2,X (Xc1 72 (z9F d 1 p k0 G1 hI1 hk hg1 hx.ha hx.ha2) X0))],.r [(2,X (Xc1 144 (z9F d 2 q k0 G2 hI2 hk hg2 hx.hb hx.hb2) X0))],.r [(2,X (Xc1 216 (x3b UE3 1 2 a b x y hU (by omega) (by omega) hx.ea hx.eb hx.oa hx.ob hx.mt hx.hx hx.hy hx.ox hx.oy) X0))],.r [(2,X (Xc1 296 (y3M da y hx.apA hx.dA hx.eA) X0))],.r [(2,X (Xc1 368 (y3M db x hx.apB hx.dB hx.eB) X0))],.r [(4,Xv 1 true X0),(5,X (Xk true)),(8,Xv 1 (true||false) X0),(9,X (Xk (true||false))),(13,Xv 2 ((true||false)||false) (Xc0 (x3d d2 d2 rfl (by assumption)) X0)),(14,X (Xk ((true||false)||false)))]] [] (fun z0:Bool=>(VB z0,[])) _ _ e1.symm
theorem x3n(raw p q:List Int):FC Tryz.prog 3 [VL 1 z0B raw,VL 1 z0B p,VL 1 z0B q] (app emp []) (VB true) (app emp []):=by
 have hN:UN UE3:=x34 [] (by simp) [] (fun v hv=>by cases hv)
 have hI:=y1U hN rfl (s:=0) (by omega)
 have hI1:=y1U hN rfl (s:=1) (by omega)
 have hI2:=y1U hN rfl (s:=2) (by omega)
 obtain⟨d,a,b,da,db,d2,x,y,k0,hx,hk,h1,h2⟩:=w0a raw p q
 exact x3m raw p q d a b da db d2 x y k0 _ _ _ hI (x0M hN) hI1 hI2 hk h1 h2 hN.toUB hx
end Go.Ch
end
section
namespace Go.Proofs.YtjeknifdbllieaaGreatDoor.frame
open Go Go.Proofs
def chs(l:List Nat):List Char:=l.map Char.ofNat
def w1:List Char:=chs [104,97,114,110,101,115,115]
def w2:List Char:=chs [101,97,101,98,54,100,102,52,51,54,97,98,56,53,101,50,56,97,55,48,98,99,48,51,53,50,56,52,50,56,49,100,49,49,50,54,54,52,101,53,51,97,57,55,101,56,101,55,102,57,97,56,98,48,51,56,99,99,99,56,51,50,57,99]
def w3:List Char:=chs [99,117,116]
def sp:Char:=Char.ofNat 32
theorem x9l(r:List Char):wordsSigns (sp::r)=[]::wordsSigns r:=rfl
theorem w0b(c:Char)(r:List Char)(h:c≠sp):wordsSigns (c::r)=match wordsSigns r with
 |w::ws=>(c::w)::ws
 | []=>[[c]]:=by
 rw[wordsSigns.eq_def]
 split
 ·rename_i e;cases e
 ·rename_i e;simp only[List.cons.injEq] at e;exact absurd e.1 h
 ·rename_i e;simp only[List.cons.injEq] at e;obtain⟨rfl,rfl⟩:=e;rfl
theorem y66:∀(a:List Char),(a.all fun c=>c !=sp)=true->∀r,wordsSigns (a++sp::r)=a::wordsSigns r
 | [],_,r=>x9l r
 |c::a,h,r=>by
  simp only[List.all_cons,Bool.and_eq_true,bne_iff_ne] at h
  rw[List.cons_append,w0b _ _ h.1,y66 a h.2 r]
theorem tl(l:List Char):(String.ofList l).toList=l:=String.toList_ofList
theorem k1:("harness" :String).toList=w1:=tl w1
theorem k2:("cut" :String).toList=w3:=tl w3
theorem k3:("gc" :String).toList=chs [103,99]:=tl (chs [103,99])
theorem k4:("spec" :String).toList=chs [115,112,101,99]:=tl (chs [115,112,101,99])
theorem k5:("carried" :String).toList=chs [99,97,114,114,105,101,100]:=tl (chs [99,97,114,114,105,101,100])
theorem x7C(r:List (List Char)):stripLifts liftWords (w3::r)=([],w3::r):=by
 unfold liftWords
 simp only[stripLifts]
 have key:∀l:List Nat,(w3==chs l)=false->∀(s:String),s=String.ofList (chs l)->(w3==s.toList)=false:=fun l h s e=>by rw[e,tl];exact h
 rw[if_neg (by rw[key [102,105,110,97,108,115] (by kernel_rfl) "finals" rfl];decide)]
 rw[if_neg (by rw[key [114,101,102,108,101,99,116,114,111,119,115] (by kernel_rfl) "reflectrows" rfl];decide)]
 rw[if_neg (by rw[key [108,101,97,110,114,111,119,115] (by kernel_rfl) "leanrows" rfl];decide)]
 rw[if_neg (by rw[key [111,110,101,98,117,105,108,100] (by kernel_rfl) "onebuild" rfl];decide)]
 rw[if_neg (by rw[key [112,117,98,108,105,99,115,117,109,115] (by kernel_rfl) "publicsums" rfl];decide)]
 rw[if_neg (by rw[key [101,113,103,117,97,114,100] (by kernel_rfl) "eqguard" rfl];decide)]
 rw[if_neg (by rw[key [111,119,110,117,110,115,97,102,101] (by kernel_rfl) "ownunsafe" rfl];decide)]
 rw[if_neg (by rw[key [108,105,98,98,101,115,105,100,101] (by kernel_rfl) "libbeside" rfl];decide)]
 rw[if_neg (by rw[key [111,119,110,98,101,115,105,100,101] (by kernel_rfl) "ownbeside" rfl];decide)]
 rw[if_neg (by rw[key [114,101,102,108,98,101,115,105,100,101] (by kernel_rfl) "reflbeside" rfl];decide)]
 rw[if_neg (by rw[key [97,108,105,97,115,101,115] (by kernel_rfl) "aliases" rfl];decide)]
 rw[if_neg (by rw[key [97,102,116,101,114,105,110,105,116] (by kernel_rfl) "afterinit" rfl];decide)]
 rw[if_neg (by rw[key [99,114,99,112,108,97,105,110] (by kernel_rfl) "crcplain" rfl];decide)]
 rw[if_neg (by rw[key [114,111,97,100,117,110,115,97,102,101] (by kernel_rfl) "roadunsafe" rfl];decide)]
 rw[if_neg (by rw[key [102,109,116,104,97,110,100,111,110] (by kernel_rfl) "fmthandon" rfl];decide)]
theorem x3o{P:Program}{rest:List Char}(h:P.initOrder.toList=w1++sp::(w2++sp::(w3++sp::rest))):behindMainWord (wordsSigns P.initOrder.toList)=w3::wordsSigns rest:=by
 rw[h,y66 w1 (by kernel_rfl),y66 w2 (by kernel_rfl),y66 w3 (by kernel_rfl)]
 unfold behindMainWord
 rw[k1]
 exact if_pos (by kernel_rfl)
theorem may{P:Program}{rest:List Char}(h:P.initOrder.toList=w1++sp::(w2++sp::(w3++sp::rest)))(hl:P.laysLater=false)(hb:P.bearsReflect=false)(hd:P.doorFits []=true):P.mayEnter=true:=by
 unfold Program.mayEnter
 rw[x3o h]
 simp only[x7C,k2,k3,k4,k5,hl,hb,hd]
 have h1:(w3==chs [103,99])=false:=by kernel_rfl
 have h2:(w3==chs [115,112,101,99])=false:=by kernel_rfl
 have h3:(w3==chs [99,97,114,114,105,101,100])=false:=by kernel_rfl
 rw[h1,h2,h3]
 simp
theorem fin{P:Program}{rest:List Char}(h:P.initOrder.toList=w1++sp::(w2++sp::(w3++sp::rest))):P.liftsFinal=false:=by
 unfold Program.liftsFinal Program.headLifts
 rw[x3o h]
 simp only[x7C,k2,k5]
 have h3:(w3==chs [99,97,114,114,105,101,100])=false:=by kernel_rfl
 simp[h3]
theorem mk{P:Program}{rest:List Char}(h:P.initOrder.toList=w1++sp::(w2++sp::(w3++sp::rest))):P.make=some .cut:=by
 unfold Program.make
 rw[x3o h]
 simp only[k2,k3,k4,k5]
 have h1:(w3==chs [103,99])=false:=by kernel_rfl
 have h2:(w3==chs [115,112,101,99])=false:=by kernel_rfl
 rw[h1,h2]
 simp
theorem head:Tryz.pinned.checked.prog.initOrder=String.ofList (w1++sp::(w2++sp::(w3++sp::chs [97,116,32,99,104,97,110,99,101,114,121,47,99,104,97,110,99,101,114,121,107,101,101,112,49,46,69,100,105,116,80,97,105,114,77,101,101,116,115]))):=by kernel_rfl
set_option maxRecDepth 100000 in
theorem x57:Tryz.pinned.checked.prog.initOrder.toList=w1++sp::(w2++sp::(w3++sp::chs [97,116,32,99,104,97,110,99,101,114,121,47,99,104,97,110,99,101,114,121,107,101,101,112,49,46,69,100,105,116,80,97,105,114,77,101,101,116,115])):=by rw[head,tl]
theorem later:Tryz.pinned.checked.prog.laysLater=false:=by kernel_rfl
theorem refl:Tryz.pinned.checked.prog.bearsReflect=false:=by kernel_rfl
theorem w0c:Tryz.pinned.checked.prog.doorFits []=true:=by kernel_rfl
theorem mayEnter:Tryz.pinned.checked.prog.mayEnter=true:=may x57 later refl w0c
theorem made:Tryz.pinned.checked.prog.make=some .cut:=mk x57
theorem laid:laidOutB Tryz.pinned.checked.prog=true:=by kernel_rfl
theorem rowed:mapsRowed Tryz.pinned.checked.prog=true:=by kernel_rfl
theorem noStops:Tryz.pinned.checked.prog.stops=[]:=by kernel_rfl
theorem noKnobs:Tryz.pinned.checked.prog.stopKnobs=[]:=by kernel_rfl
theorem heard:Tryz.pinned.checked.prog.stopsHeard=true:=by kernel_rfl
theorem keys:Tryz.pinned.checked.prog.plainKeys=true:=by kernel_rfl
theorem liftsNo:Tryz.pinned.checked.prog.liftsFinal=false:=fin x57
end Go.Proofs.YtjeknifdbllieaaGreatDoor.frame
end
section
namespace Go.Proofs
open Go.Shelf
def Tryz.lays260_ren:Go.Shelf.Ren:=⟨fun|260=>193|n=>n,fun|9=>9|21=>21|3=>3|4=>4|5=>5|119=>314|0=>0|46=>212|139=>317|138=>316|n=>n,fun|3=>0|4=>1|n=>n⟩
theorem Tryz.lays260:Go.Proofs.Lays.n260 Tryz.prog Tryz.lays260_ren:={
 mixed:=by kernel_rfl
 f260:=Tryz.func193.trans (congrArg some (by kernel_rfl))
 t0:=Tryz.underlying0
 a0:=Tryz.isAgg0
 z0:=Tryz.sizeOf0
 v0:=Tryz.zeroValue0
 t3:=Tryz.underlying3
 a3:=Tryz.isAgg3
 z3:=Tryz.sizeOf3
 v3:=Tryz.zeroValue3
 t4:=Tryz.underlying4
 a4:=Tryz.isAgg4
 z4:=Tryz.sizeOf4
 v4:=Tryz.zeroValue4
 t5:=Tryz.underlying5
 a5:=Tryz.isAgg5
 z5:=Tryz.sizeOf5
 v5:=Tryz.zeroValue5
 t9:=Tryz.underlying9
 a9:=Tryz.isAgg9
 z9:=Tryz.sizeOf9
 v9:=Tryz.zeroValue9
 t21:=Tryz.underlying21
 a21:=Tryz.isAgg21
 z21:=Tryz.sizeOf21
 v21:=Tryz.zeroValue21
 t46:=Tryz.underlying212
 a46:=Tryz.isAgg212
 z46:=Tryz.sizeOf212
 v46:=Tryz.zeroValue212
 t119:=Tryz.underlying314
 a119:=Tryz.isAgg314
 z119:=Tryz.sizeOf314
 t138:=Tryz.underlying316
 a138:=Tryz.isAgg316
 z138:=Tryz.sizeOf316
 v138:=Tryz.zeroValue316
 t139:=Tryz.underlying317
 a139:=Tryz.isAgg317
 z139:=Tryz.sizeOf317
 v139:=Tryz.zeroValue317
 g3:=by kernel_rfl
 g4:=by kernel_rfl}
end Go.Proofs
end
