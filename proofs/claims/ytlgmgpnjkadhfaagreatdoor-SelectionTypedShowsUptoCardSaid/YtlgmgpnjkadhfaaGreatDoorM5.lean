/- Parts of the proof: EdObj, EdGrd, EdFmt, EdFmt2, DoorPlain, EditAsc, EditCmd, EdCmd, EdOf, EdCmd2, EdOne, EdOne2, EdOne3, EdOne4, EdApp, EditFirst, EdFirst, EdProbe, EdGrown, EdStart, EditOf, EditText, EdUtf, EditBack, TryzShelf2, SelTab, EdOfG, EditUnit, EditStp, EditTyp, EditValid, EditGrid, EditKeep, EditOps. -/
import Derived.Test.YtlgmgpnjkadhfaaGreatDoorM1
import Derived.Test.YtlgmgpnjkadhfaaGreatDoorM2
import Derived.Test.YtlgmgpnjkadhfaaGreatDoorM3
import Derived.Test.YtlgmgpnjkadhfaaGreatDoorM4
import Derived.Ground.Names2Prog
import Derived.Shelf.Unicode.DecodeAny
import Derived.Test.YtlgmgpnjkadhfaaGreatDoorProg
set_option linter.unusedVariables false
set_option linter.unusedSimpArgs false
section
set_option maxRecDepth 100000
set_option maxHeartbeats 4000000
open Go Go.Proofs Go.Ab
namespace Go.Ch
theorem y2n(p:Pl)(s:Sel)(es:List Elem)(hb:PlB p)(hs:StpB p s es):FC Tryz.prog 33 [.ptr 0 0,.t (selT s),.row 1 es.length] (app emp [(0,.box [VI p.node.id,VI p.node.kind,VL 2 attrT p.node.attrs,VL 3 elemT p.node.flow,VI p.node.grid.rows,VI p.node.grid.cols,VL 5 cellT p.node.grid.cells,VL 4 rectT p.node.grid.merges,VL 8 dopT p.node.draw,VL 1 intT p.shown,VS p.author]),(1,OR 3 elemT es)]) (.tup [VL 19 eopT [opF s.nd (stpP p s es)],.t (selT (selP s es)),VI 0]) (app emp [(0,.box [VI p.node.id,VI p.node.kind,VL 2 attrT p.node.attrs,VL 3 elemT p.node.flow,VI p.node.grid.rows,VI p.node.grid.cols,VL 5 cellT p.node.grid.cells,VL 4 rectT p.node.grid.merges,VL 8 dopT p.node.draw,VL 1 intT p.shown,VS p.author]),(1,OF 3 elemT es)]):=by
 refine .go Tryz.f33 ?_
 obtain⟨s1,q1,q2,v1,v2,v3,d1,d2,d3,m1,m2,m3⟩:=hs
 simp only[ersP,typP] at v1 v2 v3 d1 d2 d3 m1 m2 m3
 have hf:p.node.flow.length<=10000000:=by(have:=hb.len;omega)
 have hsh:=hb.sl
 have hpl:∀x∈(p.shown.take s.tq.toNat).drop s.fr.toNat,0<=x/\x< (p.node.flow.length:Int):=fun x hx=>hb.ok x (qA (qJ hx))
 have hpl2:∀x∈p.shown,0<=x/\x<=1000000000:=fun x hx=>by(have:=hb.ok x hx;omega)
 have hgp:=z9X hb s1
 have e1:([opF s.nd (stpP p s es)]:List EOp)=[({kind:=2,node:=s.nd,nw:=({id:=0,kind:=0,attrs:=[],flow:=[],grid:=({rows:=0,cols:=0,cells:=[],merges:=[]}:Grid),draw:=[]}:Node),attrs:=[],steps:=(joinD (ersD p.node.flow ((p.shown.take (Int.toNat s.tq)).drop (Int.toNat s.fr)) p.author) (z0X (typD (p.node.flow).length (gapP p.shown s.fr) es p.author) (ersD p.node.flow ((p.shown.take (Int.toNat s.tq)).drop (Int.toNat s.fr)) p.author))),grid:=({rows:=[],cols:=[],cells:=[],split:=[],merge:=[]}:GEd),draw:=[]}:EOp)]:=by
  rfl
 have e2:((selP s es):Sel)=({nd:=s.nd,fr:=(s.fr+(es.length:Int)),tq:=(s.fr+(es.length:Int))}:Sel):=by
  rfl
 exact .finVE [.r [],.r [],.r [(9,X (Xsb intT 1 p.shown s.fr s.tq)),(14,X (Xc1 194 (z85 p.node.flow ((p.shown.take (Int.toNat s.tq)).drop (Int.toNat s.fr)) p.author (by omega) (by assumption)) X0))],.r [(6,X (Xc0 (y4r p.shown s.fr (by omega) (by assumption)) X0))],.r [(7,X (Xc1 330 (y1u p.node.flow (gapP p.shown s.fr) es p.author (by omega) (by omega) (by omega) (by assumption)) (rowC elemT es X0)))],.r [(2,X (Xc1 362 (y1t (typD (p.node.flow).length (gapP p.shown s.fr) es p.author) (ersD p.node.flow ((p.shown.take (Int.toNat s.tq)).drop (Int.toNat s.fr)) p.author) (by assumption) (by assumption) (by assumption) (by assumption) (by omega) (by omega)) X0))],.r [],.f,.r [(2,X (Xc1 458 (y1m (ersD p.node.flow ((p.shown.take (Int.toNat s.tq)).drop (Int.toNat s.fr)) p.author) (z0X (typD (p.node.flow).length (gapP p.shown s.fr) es p.author) (ersD p.node.flow ((p.shown.take (Int.toNat s.tq)).drop (Int.toNat s.fr)) p.author)) (by assumption) (by assumption) (by assumption) (by assumption) (by omega)) X0))],.r [],.f,.r [(4,X (Xn (s.fr+(es.length:Int))))],.r [(3,X (Xf [(4,2),(5,3),(8,5),(9,4),(10,8),(11,2),(13,2),(14,2),(15,5),(16,4),(17,4),(18,8)]))],.le (.fr 6 [(1:Nat)=(List.map eopT [({kind:=2,node:=s.nd,nw:=({id:=0,kind:=0,attrs:=[],flow:=[],grid:=({rows:=0,cols:=0,cells:=[],merges:=[]}:Grid),draw:=[]}:Node),attrs:=[],steps:=(joinD (ersD p.node.flow ((p.shown.take (Int.toNat s.tq)).drop (Int.toNat s.fr)) p.author) (z0X (typD (p.node.flow).length (gapP p.shown s.fr) es p.author) (ersD p.node.flow ((p.shown.take (Int.toNat s.tq)).drop (Int.toNat s.fr)) p.author))),grid:=({rows:=[],cols:=[],cells:=[],split:=[],merge:=[]}:GEd),draw:=[]}:EOp)]).length] ⟨lm,trivial⟩)] [] [(0,0),(1,1)] (fun((z0,z1):(List EOp)×Sel)=>(.tup [VL 19 eopT z0,.t (selT z1),VI 0],[(0,.box [VI p.node.id,VI p.node.kind,VL 2 attrT p.node.attrs,VL 3 elemT p.node.flow,VI p.node.grid.rows,VI p.node.grid.cols,VL 5 cellT p.node.grid.cells,VL 4 rectT p.node.grid.merges,VL 8 dopT p.node.draw,VL 1 intT p.shown,VS p.author]),(1,OF 3 elemT es)])) _ _ (pr e1 e2)
theorem y79(k:Int):FC Tryz.prog 191 [VI k] (app emp []) (VI (k/65536)) (app emp []):=by
 refine .go Tryz.f191 ?_
 exact .fin [.r [],.r [(1,X (Xsh IntKind.i64 16 (k.fdiv (2^(min (16:Int).toNat IntKind.i64.bits))) (k/65536)) ⟨by decide,shr16⟩)]] []
theorem y4w(d:Doc)(site:Int)(hb:DocL d):FC Tryz.prog 149 [.t (docT d),VI site] (app emp []) (.tup [VI (nextN d site),VI (nextE d site)]) (app emp []):=by
 refine .go Tryz.f149 ?_
 have hl:=hb.len
 refine .bp [.r [],.r [(1,X (Xc0 (z3f d (by assumption)) X0))],.r []] ((docE d) !=0) (fun h2=> ?_) (fun h2=> ?_)
 ·
  have T:=y9i (site:=site) h2
  have e1:((nextN d site):Int)=0:=by
   exact T.1
  have e2:((nextE d site):Int)=(docE d):=by
   exact T.2
  exact .finE [.r []] [] (fun((z0,z1):Int×Int)=>(.tup [VI z0,VI z1],[])) _ _ (pr e1 e2)
 ·
  refine .bp [.r [(4,Xv 1 (!(decide (site<0))) X0),(5,X (Xk' (decide (site<0))))]] (decide (site<0)||decide (site>1000)) (fun h4=> ?_) (fun h4=> ?_)
  ·
   have T:=y9j (by omega) h4
   have e3:((nextN d site):Int)=0:=by
    exact T.1
   have e4:((nextE d site):Int)=2:=by
    exact T.2
   exact .finE [.r []] [] (fun((z0,z1):Int×Int)=>(.tup [VI z0,VI z1],[])) _ _ (pr e3 e4)
  ·
   have hid:=y3W (d:=d) (by omega)
   refine .loop (α:=Int×Nat) [.r [(1,X (Xsh IntKind.i64 16 (IntKind.i64.wrap (site*2^(min (16:Int).toNat IntKind.i64.bits))) (site*65536)) ⟨by decide,shl16 (by omega)⟩)],.r [(2,X (Xl nodeT d.nodes))]] 168 (fun(x,i)=>([(1,VI site),(7,VI x),(24,VL 9 nodeT d.nodes),(25,VI (d.nodes.length:Int)),(26,VI (i:Int))],[])) (fun(x,i)=>i<=d.nodes.length/\x=nxtF d.nodes site i/\0<=x/\x<=1073741824) (fun(x,i)=>d.nodes.length-i) ((site*65536),0) ?_ ?_
   ·
    exact⟨by omega,rfl,by omega,by omega⟩
   rintro⟨x,i⟩ I8 ih8
   try dsimp only at I8
   refine .bp [.r []] (decide ((i:Int)< (d.nodes.length:Int))) (fun h8=> ?_) (fun h8=> ?_)
   ·
    have hx:=hid _ (z2v (l:=d.nodes) (i:=i) (by omega))
    refine .bp [.r [(0,X (Xi nodeT d.nodes (i:Int)))],.r [(2,X (Xc0 (y79 (((d.nodes.getD i default)).id)) X0))]] (((((d.nodes.getD i default)).id)/65536)==site) (fun h10=> ?_) (fun h10=> ?_)
    ·
     refine .back [.r [],.r [(0,X (Xn ((i:Int)+1)))]] [] (ih8 (((d.nodes.getD i default)).id,(i+1)) ?_ ?_)
     ·
      exact⟨by omega,by rw[z6f (by omega),if_pos h10],by omega,by omega⟩
     ·
      ((try dsimp only);omega)
    ·
     refine .back [.r [(0,X (Xn ((i:Int)+1)))]] [] (ih8 (x,(i+1)) ?_ ?_)
     ·
      exact⟨by omega,by rw[z6f (by omega),if_neg h10];exact I8.2.1,I8.2.2⟩
     ·
      ((try dsimp only);omega)
   ·
    have hx2:x=nxtF d.nodes site d.nodes.length:=by rw[I8.2.1,show i=d.nodes.length by omega]
    refine .bp [.r [(1,X (Xbit IntKind.i64 (andI IntKind.i64 x 65535) (x%65536)) (and16 (by omega)))]] ((x%65536)==65535) (fun h13=> ?_) (fun h13=> ?_)
    ·
     have T:=y7c (by omega) h4 (hx2▸h13)
     have e5:((nextN d site):Int)=0:=by
      exact T.1
     have e6:((nextE d site):Int)=18:=by
      exact T.2
     exact .finE [.r []] [] (fun((z0,z1):Int×Int)=>(.tup [VI z0,VI z1],[])) _ _ (pr e5 e6)
    ·
     have T:=y7d (by omega) h4 (hx2▸h13)
     rw[<-hx2] at T
     have e7:((nextN d site):Int)=(x+1):=by
      exact T.1
     have e8:((nextE d site):Int)=0:=by
      exact T.2
     exact .finE [.r [(1,X (Xn (x+1)))]] [] (fun((z0,z1):Int×Int)=>(.tup [VI z0,VI z1],[])) _ _ (pr e7 e8)
theorem z4d(d:Doc)(s:Sel)(n:Node)(site:Int)(au:ByteArray)(hb:DocL d)(hn:n.grid.merges=[]/\NoTx n.grid.cells)(hx:atE d s au=0->nextE d site=0->ObjB d s n site au):FC Tryz.prog 146 [.t (docT d),.t (selT s),.t (nodeT n),VI site,VS au] (app emp []) (.tup [VL 19 eopT (objO d s n site au),.t (selT (objS d s n site au)),VI (objE d s n site au)]) (app emp []):=by
 refine .go Tryz.f146 ?_
 refine .bp [.r [],.r [(3,X (Xc1 72 (fc_at d s au (by assumption)) X0))],.r []] ((atE d s au) !=0) (fun h2=> ?_) (fun h2=> ?_)
 ·
  have T:=obj_1 (n:=n) (site:=site) h2
  have e1:((objO d s n site au):List EOp)=[]:=by
   exact T.1
  have e2:((objS d s n site au):Sel)=({nd:=0,fr:=0,tq:=0}:Sel):=by
   exact T.2.1
  have e3:((objE d s n site au):Int)=(atE d s au):=by
   exact T.2.2
  exact .finVE [.r [],.le (.nL 10 19)] [] [] (fun((z0,z1,z2):(List EOp)×Sel×Int)=>(.tup [VL 19 eopT z0,.t (selT z1),VI z2],[])) _ _ (pr e1 (pr e2 e3))
 ·
  refine .bp [.r [(5,X (Xc0 (y04 ((((atP d s au)).node).kind) n.kind) X0))]] (!(permB ((((atP d s au)).node).kind) n.kind)) (fun h4=> ?_) (fun h4=> ?_)
  ·
   have T:=obj_2 (site:=site) h2 h4
   have e4:((objO d s n site au):List EOp)=[]:=by
    exact T.1
   have e5:((objS d s n site au):Sel)=({nd:=0,fr:=0,tq:=0}:Sel):=by
    exact T.2.1
   have e6:((objE d s n site au):Int)=8:=by
    exact T.2.2
   exact .finVE [.r [],.le (.nL 10 19)] [] [] (fun((z0,z1,z2):(List EOp)×Sel×Int)=>(.tup [VL 19 eopT z0,.t (selT z1),VI z2],[])) _ _ (pr e4 (pr e5 e6))
  ·
   refine .bp [.r [(2,X (Xc0 (y4w d site (by assumption)) X0))],.r []] ((nextE d site) !=0) (fun h7=> ?_) (fun h7=> ?_)
   ·
    have T:=obj_3 h2 h4 h7
    have e7:((objO d s n site au):List EOp)=[]:=by
     exact T.1
    have e8:((objS d s n site au):Sel)=({nd:=0,fr:=0,tq:=0}:Sel):=by
     exact T.2.1
    have e9:((objE d s n site au):Int)=(nextE d site):=by
     exact T.2.2
    exact .finVE [.r [],.le (.nL 10 19)] [] [] (fun((z0,z1,z2):(List EOp)×Sel×Int)=>(.tup [VL 19 eopT z0,.t (selT z1),VI z2],[])) _ _ (pr e7 (pr e8 e9))
   ·
    obtain⟨o1,o2,o3⟩:=hx h2 h7
    refine .bp [.r [],.r [(1,X (Xc0 (z53 ({id:=(nextN d site),kind:=n.kind,attrs:=n.attrs,flow:=n.flow,grid:=n.grid,draw:=n.draw}:Node) (by assumption)) X0))],.r []] ((nodeE ({id:=(nextN d site),kind:=n.kind,attrs:=n.attrs,flow:=n.flow,grid:=n.grid,draw:=n.draw}:Node)) !=0) (fun h11=> ?_) (fun h11=> ?_)
    ·
     have T:=obj_4 h2 h4 h7 h11
     have e10:((objO d s n site au):List EOp)=[]:=by
      exact T.1
     have e11:((objS d s n site au):Sel)=({nd:=0,fr:=0,tq:=0}:Sel):=by
      exact T.2.1
     have e12:((objE d s n site au):Int)=(nodeE ({id:=(nextN d site),kind:=n.kind,attrs:=n.attrs,flow:=n.flow,grid:=n.grid,draw:=n.draw}:Node)):=by
      exact T.2.2
     exact .finVE [.r [],.le (.nL 10 19)] [] [] (fun((z0,z1,z2):(List EOp)×Sel×Int)=>(.tup [VL 19 eopT z0,.t (selT z1),VI z2],[])) _ _ (pr e10 (pr e11 e12))
    ·
     have T:=obj_5 h2 h4 h7 h11
     have e13:((objO d s n site au):List EOp)=([({kind:=0,node:=0,nw:=({id:=(nextN d site),kind:=n.kind,attrs:=n.attrs,flow:=n.flow,grid:=n.grid,draw:=n.draw}:Node),attrs:=[],steps:=[],grid:=({rows:=[],cols:=[],cells:=[],split:=[],merge:=[]}:GEd),draw:=[]}:EOp)]++[opF (s).nd (stpP ((atP d s au)) s [({char:=0,ref:=(nextN d site),attrs:=(inhP ((atP d s au)) s.fr)}:Elem)])]):=by
      exact T.1
     have e14:((objS d s n site au):Sel)=((selP s [({char:=0,ref:=(nextN d site),attrs:=(inhP ((atP d s au)) s.fr)}:Elem)])):=by
      exact T.2.1
     have e15:((objE d s n site au):Int)=0:=by
      exact T.2.2
     exact .finVE [.r [(4,X (Xc4 [(0,104)] (y7a ((atP d s au)) s.fr (by assumption) (by omega)) X0)),(7,X (Xc3 400 [(0,104),(1,392)] (y2n ((atP d s au)) s [({char:=0,ref:=(nextN d site),attrs:=(inhP ((atP d s au)) s.fr)}:Elem)] (by assumption) (by assumption)) X0))],.r [],.f,.r [(1,X (Xf [(11,2),(12,4),(13,2),(14,2),(15,5),(16,4),(17,4),(18,8)])),(4,X (XapB 19 eopT 504 [({kind:=0,node:=0,nw:=({id:=(nextN d site),kind:=n.kind,attrs:=n.attrs,flow:=n.flow,grid:=n.grid,draw:=n.draw}:Node),attrs:=[],steps:=[],grid:=({rows:=[],cols:=[],cells:=[],split:=[],merge:=[]}:GEd),draw:=[]}:EOp)] [opF (s).nd (stpP ((atP d s au)) s [({char:=0,ref:=(nextN d site),attrs:=(inhP ((atP d s au)) s.fr)}:Elem)])]))],.le (.fr 10 [((([({kind:=0,node:=0,nw:=({id:=(nextN d site),kind:=n.kind,attrs:=n.attrs,flow:=n.flow,grid:=n.grid,draw:=n.draw}:Node),attrs:=[],steps:=[],grid:=({rows:=[],cols:=[],cells:=[],split:=[],merge:=[]}:GEd),draw:=[]}:EOp)]++[opF (s).nd (stpP ((atP d s au)) s [({char:=0,ref:=(nextN d site),attrs:=(inhP ((atP d s au)) s.fr)}:Elem)])]).length):Nat)=(List.map eopT ([({kind:=0,node:=0,nw:=({id:=(nextN d site),kind:=n.kind,attrs:=n.attrs,flow:=n.flow,grid:=n.grid,draw:=n.draw}:Node),attrs:=[],steps:=[],grid:=({rows:=[],cols:=[],cells:=[],split:=[],merge:=[]}:GEd),draw:=[]}:EOp)]++[opF (s).nd (stpP ((atP d s au)) s [({char:=0,ref:=(nextN d site),attrs:=(inhP ((atP d s au)) s.fr)}:Elem)])])).length] ⟨lm,trivial⟩)] [] [] (fun((z0,z1,z2):(List EOp)×Sel×Int)=>(.tup [VL 19 eopT z0,.t (selT z1),VI z2],[])) _ _ (pr e13 (pr e14 e15))
theorem y8a(d:Doc)(s:Sel)(r c:Int)(site:Int)(au:ByteArray)(hr:1<=r/\r<=1000/\1<=c/\c<=1000)(hb:DocL d)(hx:atE d s au=0->nextE d site=0->ObjB d s (tblN r c) site au):FC Tryz.prog 96 [.t (docT d),.t (selT s),VI r,VI c,VI site,VS au] (app emp []) (.tup [VL 19 eopT (objO d s (tblN r c) site au),.t (selT (objS d s (tblN r c) site au)),VI (objE d s (tblN r c) site au)]) (app emp []):=by
 refine .go Tryz.f96 ?_
 have hn:(tblN r c).grid.merges=[]/\NoTx (tblN r c).grid.cells:=⟨rfl,fun x h=>by cases h⟩
 refine .bp [.r [],.r [(4,Xv 1 (!(decide (r<1))) X0),(5,X (Xk' (decide (r<1)))),(8,Xv 1 (!(decide (r<1)||decide (r>1000))) X0),(9,X (Xk' (decide (r<1)||decide (r>1000)))),(12,Xv 1 (!((decide (r<1)||decide (r>1000))||decide (c<1))) X0),(13,X (Xk' ((decide (r<1)||decide (r>1000))||decide (c<1))))]] (((decide (r<1)||decide (r>1000))||decide (c<1))||decide (c>1000)) (fun h1=> ?_) (fun h1=> ?_)
 ·
  exfalso
  omega
 ·
  have e1:((objO d s (tblN r c) site au):List EOp)=(objO d s ({id:=0,kind:=2,attrs:=[],flow:=[],grid:=({rows:=r,cols:=c,cells:=[],merges:=[]}:Grid),draw:=[]}:Node) site au):=by
   rfl
  have e2:((objS d s (tblN r c) site au):Sel)=((objS d s ({id:=0,kind:=2,attrs:=[],flow:=[],grid:=({rows:=r,cols:=c,cells:=[],merges:=[]}:Grid),draw:=[]}:Node) site au)):=by
   rfl
  have e3:((objE d s (tblN r c) site au):Int)=(objE d s ({id:=0,kind:=2,attrs:=[],flow:=[],grid:=({rows:=r,cols:=c,cells:=[],merges:=[]}:Grid),draw:=[]}:Node) site au):=by
   rfl
  exact .finVE [.r [(4,X (Xf [(2,5),(3,4)])),(5,X (Xf [(2,2),(3,3),(8,8)])),(8,X (Xc1 216 (z4d d s ({id:=0,kind:=2,attrs:=[],flow:=[],grid:=({rows:=r,cols:=c,cells:=[],merges:=[]}:Grid),draw:=[]}:Node) site au (by assumption) (by assumption) (by assumption)) X0))]] [] [] (fun((z0,z1,z2):(List EOp)×Sel×Int)=>(.tup [VL 19 eopT z0,.t (selT z1),VI z2],[])) _ _ (pr e1 (pr e2 e3))
theorem y8b(d:Doc)(s:Sel)(e:Bool)(site:Int)(au:ByteArray)(hb:DocL d)(hx:atE d s au=0->nextE d site=0->ObjB d s (notN e) site au):FC Tryz.prog 97 [.t (docT d),.t (selT s),VB e,VI site,VS au] (app emp []) (.tup [VL 19 eopT (objO d s (notN e) site au),.t (selT (objS d s (notN e) site au)),VI (objE d s (notN e) site au)]) (app emp []):=by
 refine .go Tryz.f97 ?_
 have hn:(notN e).grid.merges=[]/\NoTx (notN e).grid.cells:=⟨rfl,fun x h=>by cases h⟩
 refine .bp [.r [],.r [],.r []] e (fun h2=> ?_) (fun h2=> ?_)
 ·
  rw[h2] at hx hn
  have e1:((objO d s (notN e) site au):List EOp)=(objO d s ({id:=0,kind:=4,attrs:=[({name:={data:=#[107,105,110,100]},val:={data:=#[101,110,100]}}:Attr)],flow:=[({char:=10,ref:=0,attrs:=[]}:Elem)],grid:=({rows:=0,cols:=0,cells:=[],merges:=[]}:Grid),draw:=[]}:Node) site au):=by
   rw[h2];rfl
  have e2:((objS d s (notN e) site au):Sel)=((objS d s ({id:=0,kind:=4,attrs:=[({name:={data:=#[107,105,110,100]},val:={data:=#[101,110,100]}}:Attr)],flow:=[({char:=10,ref:=0,attrs:=[]}:Elem)],grid:=({rows:=0,cols:=0,cells:=[],merges:=[]}:Grid),draw:=[]}:Node) site au)):=by
   rw[h2];rfl
  have e3:((objE d s (notN e) site au):Int)=(objE d s ({id:=0,kind:=4,attrs:=[({name:={data:=#[107,105,110,100]},val:={data:=#[101,110,100]}}:Attr)],flow:=[({char:=10,ref:=0,attrs:=[]}:Elem)],grid:=({rows:=0,cols:=0,cells:=[],merges:=[]}:Grid),draw:=[]}:Node) site au):=by
   rw[h2];rfl
  exact .finVE [.r [],.r [(5,X (Xf [(2,2)])),(7,X (Xf [(6,5),(7,4),(8,8)])),(10,X (Xc1 144 (z4d d s ({id:=0,kind:=4,attrs:=[({name:={data:=#[107,105,110,100]},val:={data:=#[101,110,100]}}:Attr)],flow:=[({char:=10,ref:=0,attrs:=[]}:Elem)],grid:=({rows:=0,cols:=0,cells:=[],merges:=[]}:Grid),draw:=[]}:Node) site au (by assumption) (by assumption) (by assumption)) (rowC attrT [({name:={data:=#[107,105,110,100]},val:={data:=#[101,110,100]}}:Attr)] (rowC elemT [({char:=10,ref:=0,attrs:=[]}:Elem)] X0))))]] [] [] (fun((z0,z1,z2):(List EOp)×Sel×Int)=>(.tup [VL 19 eopT z0,.t (selT z1),VI z2],[])) _ _ (pr e1 (pr e2 e3))
 ·
  rw[h2] at hx hn
  have e4:((objO d s (notN e) site au):List EOp)=(objO d s ({id:=0,kind:=4,attrs:=[({name:={data:=#[107,105,110,100]},val:={data:=#[102,111,111,116]}}:Attr)],flow:=[({char:=10,ref:=0,attrs:=[]}:Elem)],grid:=({rows:=0,cols:=0,cells:=[],merges:=[]}:Grid),draw:=[]}:Node) site au):=by
   rw[h2];rfl
  have e5:((objS d s (notN e) site au):Sel)=((objS d s ({id:=0,kind:=4,attrs:=[({name:={data:=#[107,105,110,100]},val:={data:=#[102,111,111,116]}}:Attr)],flow:=[({char:=10,ref:=0,attrs:=[]}:Elem)],grid:=({rows:=0,cols:=0,cells:=[],merges:=[]}:Grid),draw:=[]}:Node) site au)):=by
   rw[h2];rfl
  have e6:((objE d s (notN e) site au):Int)=(objE d s ({id:=0,kind:=4,attrs:=[({name:={data:=#[107,105,110,100]},val:={data:=#[102,111,111,116]}}:Attr)],flow:=[({char:=10,ref:=0,attrs:=[]}:Elem)],grid:=({rows:=0,cols:=0,cells:=[],merges:=[]}:Grid),draw:=[]}:Node) site au):=by
   rw[h2];rfl
  exact .finVE [.r [(5,X (Xf [(2,2)])),(7,X (Xf [(6,5),(7,4),(8,8)])),(10,X (Xc1 136 (z4d d s ({id:=0,kind:=4,attrs:=[({name:={data:=#[107,105,110,100]},val:={data:=#[102,111,111,116]}}:Attr)],flow:=[({char:=10,ref:=0,attrs:=[]}:Elem)],grid:=({rows:=0,cols:=0,cells:=[],merges:=[]}:Grid),draw:=[]}:Node) site au (by assumption) (by assumption) (by assumption)) (rowC attrT [({name:={data:=#[107,105,110,100]},val:={data:=#[102,111,111,116]}}:Attr)] (rowC elemT [({char:=10,ref:=0,attrs:=[]}:Elem)] X0))))]] [] [] (fun((z0,z1,z2):(List EOp)×Sel×Int)=>(.tup [VL 19 eopT z0,.t (selT z1),VI z2],[])) _ _ (pr e4 (pr e5 e6))
theorem y8c(d:Doc)(s:Sel)(l:List Attr)(site:Int)(au:ByteArray)(hc:chkA false l 0=0)(hl:l.length<=1048576)(hb:DocL d)(hx:atE d s au=0->nextE d site=0->ObjB d s (fldN l) site au):FC Tryz.prog 98 [.t (docT d),.t (selT s),VL 2 attrT l,VI site,VS au] (app emp []) (.tup [VL 19 eopT (objO d s (fldN l) site au),.t (selT (objS d s (fldN l) site au)),VI (objE d s (fldN l) site au)]) (app emp []):=by
 refine .go Tryz.f98 ?_
 refine .len 2 (fun hl2=> ?_)
 have hn:(fldN l).grid.merges=[]/\NoTx (fldN l).grid.cells:=⟨rfl,fun x h=>by cases h⟩
 refine .bp [.r [],.r [(1,X (Xc0 (z1Z l) X0))],.r []] ((chkA false l 0) !=0) (fun h2=> ?_) (fun h2=> ?_)
 ·
  exfalso
  omega
 ·
  have e1:((objO d s (fldN l) site au):List EOp)=(objO d s ({id:=0,kind:=5,attrs:=l,flow:=[],grid:=({rows:=0,cols:=0,cells:=[],merges:=[]}:Grid),draw:=[]}:Node) site au):=by
   rfl
  have e2:((objS d s (fldN l) site au):Sel)=((objS d s ({id:=0,kind:=5,attrs:=l,flow:=[],grid:=({rows:=0,cols:=0,cells:=[],merges:=[]}:Grid),draw:=[]}:Node) site au)):=by
   rfl
  have e3:((objE d s (fldN l) site au):Int)=(objE d s ({id:=0,kind:=5,attrs:=l,flow:=[],grid:=({rows:=0,cols:=0,cells:=[],merges:=[]}:Grid),draw:=[]}:Node) site au):=by
   rfl
  exact .finVE [.r [(3,X (Xan attrT 104 l)),(4,X (Xf [(3,3),(6,5),(7,4),(8,8)])),(7,X (Xc1 136 (z4d d s ({id:=0,kind:=5,attrs:=l,flow:=[],grid:=({rows:=0,cols:=0,cells:=[],merges:=[]}:Grid),draw:=[]}:Node) site au (by assumption) (by assumption) (by assumption)) (rowC attrT l X0)))]] [] [] (fun((z0,z1,z2):(List EOp)×Sel×Int)=>(.tup [VL 19 eopT z0,.t (selT z1),VI z2],[])) _ _ (pr e1 (pr e2 e3))
theorem z7Q(d:Doc)(k:Int)(hb:DocL d):FC Tryz.prog 147 [.t (docT d),VI k] (app emp []) (.tup [.t (nodeT (tabN d k)),VI (tabE d k)]) (app emp []):=by
 refine .go Tryz.f147 ?_
 have hdb:=hb.toDocB
 have hl:=hb.len
 refine .bp [.r [],.r [(1,X (Xc0 (z3f d (by assumption)) X0))],.r []] ((docE d) !=0) (fun h2=> ?_) (fun h2=> ?_)
 ·
  have T:=tab_1 (k:=k) h2
  have e1:((tabN d k):Node)=({id:=0,kind:=0,attrs:=[],flow:=[],grid:=({rows:=0,cols:=0,cells:=[],merges:=[]}:Grid),draw:=[]}:Node):=by
   exact T.1
  have e2:((tabE d k):Int)=(docE d):=by
   exact T.2
  exact .finVE [.r [(0,X (Xf [(2,2),(3,3),(6,5),(7,4),(8,8)]))]] [] [] (fun((z0,z1):Node×Int)=>(.tup [.t (nodeT z0),VI z1],[])) _ _ (pr e1 e2)
 ·
  have hs:=z5f (d:=d) (by omega)
  refine .bp [.r [(2,X (Xc0 (z5i d k (by assumption) (by assumption)) X0))],.r []] (decide ((ixN (d).nodes k)< 0)) (fun h5=> ?_) (fun h5=> ?_)
  ·
   have T:=tab_2 (by omega) (y09.1 h5)
   have e3:((tabN d k):Node)=({id:=0,kind:=0,attrs:=[],flow:=[],grid:=({rows:=0,cols:=0,cells:=[],merges:=[]}:Grid),draw:=[]}:Node):=by
    exact T.1
   have e4:((tabE d k):Int)=7:=by
    exact T.2
   exact .finVE [.r [(0,X (Xf [(2,2),(3,3),(6,5),(7,4),(8,8)]))]] [] [] (fun((z0,z1):Node×Int)=>(.tup [.t (nodeT z0),VI z1],[])) _ _ (pr e3 e4)
  ·
   have hh:=y08.1 h5
   have hlt:=(z06.1 hh).1
   refine .bp [.le (.eq 7 (VI (ixN (d).nodes k)) (VI (lobN d.nodes k:Int)) (.of_eq (by rw[z9S hh]))),.r [(3,X (Xi nodeT d.nodes (lobN d.nodes k:Int))),(6,X (Xc0 (z7H (((d.nodes.getD (lobN d.nodes k) default)).kind)) X0))]] (!(hasG (((d.nodes.getD (lobN d.nodes k) default)).kind))) (fun h7=> ?_) (fun h7=> ?_)
   ·
    have T:=tab_3 (by omega) hh h7
    have e5:((tabN d k):Node)=({id:=0,kind:=0,attrs:=[],flow:=[],grid:=({rows:=0,cols:=0,cells:=[],merges:=[]}:Grid),draw:=[]}:Node):=by
     exact T.1
    have e6:((tabE d k):Int)=8:=by
     exact T.2
    exact .finVE [.r [(0,X (Xf [(2,2),(3,3),(6,5),(7,4),(8,8)]))]] [] [] (fun((z0,z1):Node×Int)=>(.tup [.t (nodeT z0),VI z1],[])) _ _ (pr e5 e6)
   ·
    have T:=tab_4 (by omega) hh h7
    have e7:((tabN d k):Node)=((d.nodes.getD (lobN d.nodes k) default)):=by
     exact T.1
    have e8:((tabE d k):Int)=0:=by
     exact T.2
    exact .finVE [.r [(3,X (Xi nodeT d.nodes (lobN d.nodes k:Int)))]] [] [] (fun((z0,z1):Node×Int)=>(.tup [.t (nodeT z0),VI z1],[])) _ _ (pr e7 e8)
theorem y1w(l:List AxStep)(k n:Int)(hl:l.length<=1000):FC Tryz.prog 190 [VI k,VI n,.ptr 0 0] (app emp [(0,.box [.row 1 l.length]),(1,OR 2 stepT l)]) (.tup []) (app emp [(0,.box [.row 1 ((l++addS k n).length)]),(1,OR 2 stepT (l++addS k n))]):=by
 refine .go Tryz.f190 ?_
 refine .bp [.r []] (decide (n>0)) (fun h0=> ?_) (fun h0=> ?_)
 ·
  have e1:((l++addS k n).length:Nat)=(l++[({kind:=k,n:=n}:AxStep)]).length:=by
   unfold addS;rw[if_pos (by omega)]
  have e2:((l++addS k n):List AxStep)=(l++[({kind:=k,n:=n}:AxStep)]):=by
   unfold addS;rw[if_pos (by omega)]
  exact .finE [.r [(5,X (rowC stepT [({kind:=k,n:=n}:AxStep)] (Xap 2 stepT 1 l [({kind:=k,n:=n}:AxStep)])))]] [(0,0),(1,1)] (fun((z0,z1):Nat×(List AxStep))=>(.tup [],[(0,.box [.row 1 z0]),(1,OR 2 stepT z1)])) _ _ (pr e1 e2)
 ·
  have e3:((l++addS k n).length:Nat)=l.length:=by
   unfold addS;rw[if_neg (by omega),qM]
  have e4:((l++addS k n):List AxStep)=l:=by
   unfold addS;rw[if_neg (by omega),qM]
  exact .finE [] [(0,0),(1,1)] (fun((z0,z1):Nat×(List AxStep))=>(.tup [],[(0,.box [.row 1 z0]),(1,OR 2 stepT z1)])) _ _ (pr e3 e4)
theorem y1x(m a n:Int)(hm:0<=m/\m<=2147483647)(ha: -1000000<=a/\a<=2147483647)(hn: -1000000<=n/\n<=2147483647):FC Tryz.prog 148 [VI m,VI a,VI n] (app emp []) (.tup [VL 2 stepT (shfL m a n),VI (shfE m a n)]) (app emp []):=by
 refine .go Tryz.f148 ?_
 have w1:=z2O 0 a
 have w2:=z2O 1 n
 have w3:=z2O 2 (0-n)
 refine .bp [.r [],.r [(4,Xv 1 (!(decide (n< (-2147483647)))) X0),(5,X (Xk' (decide (n< (-2147483647))))),(8,Xv 1 (!(decide (n< (-2147483647))|| (n==0))) X0),(9,X (Xk' (decide (n< (-2147483647))|| (n==0)))),(13,Xv 2 (!((decide (n< (-2147483647))|| (n==0))||decide (a<0))) X0),(14,X (Xk' ((decide (n< (-2147483647))|| (n==0))||decide (a<0)))),(17,Xv 1 (!(((decide (n< (-2147483647))|| (n==0))||decide (a<0))||decide (a>m))) X0),(18,Xv 1 (!(((decide (n< (-2147483647))|| (n==0))||decide (a<0))||decide (a>m))) X0),(20,Xv 1 ((!(((decide (n< (-2147483647))|| (n==0))||decide (a<0))||decide (a>m)))&&(decide (n<0))) (Xn (0-n))),(23,Xv 2 ((!(((decide (n< (-2147483647))|| (n==0))||decide (a<0))||decide (a>m)))&&(decide (n<0))) (Xn (m-a))),(24,Xv 2 ((!(((decide (n< (-2147483647))|| (n==0))||decide (a<0))||decide (a>m)))&&(decide (n<0))) X0),(25,Xka (!(((decide (n< (-2147483647))|| (n==0))||decide (a<0))||decide (a>m))) (decide (n<0))),(26,X (Xk' (((decide (n< (-2147483647))|| (n==0))||decide (a<0))||decide (a>m))))]] ((((decide (n< (-2147483647))|| (n==0))||decide (a<0))||decide (a>m))|| (decide (n<0)&&decide ((0-n)>(m-a)))) (fun h1=> ?_) (fun h1=> ?_)
 ·
  have T:=shf_1 (m:=m) (a:=a) (n:=n) (by omega)
  have e1:((shfL m a n):List AxStep)=[]:=by
   exact T.1
  have e2:((shfE m a n):Int)=2:=by
   exact T.2
  exact .finE [.r [],.le (.nL 6 2)] [] (fun((z0,z1):(List AxStep)×Int)=>(.tup [VL 2 stepT z0,VI z1],[])) _ _ (pr e1 e2)
 ·
  refine .bp [.r []] (decide (n>1000)) (fun h3=> ?_) (fun h3=> ?_)
  ·
   have T:=shf_2 (m:=m) (a:=a) (n:=n) (by omega) h3
   have e3:((shfL m a n):List AxStep)=[]:=by
    exact T.1
   have e4:((shfE m a n):Int)=3:=by
    exact T.2
   exact .finE [.r [],.le (.nL 6 2)] [] (fun((z0,z1):(List AxStep)×Int)=>(.tup [VL 2 stepT z0,VI z1],[])) _ _ (pr e3 e4)
  ·
   have T:=shf_3 (m:=m) (a:=a) (n:=n) (by omega) h3
   have e5:((shfL m a n):List AxStep)=(((([]++addS 0 a)++addS 1 n)++addS 2 (0-n))++addS 0 ((m-a)- (max 0 (0-n)))):=by
    exact T.1
   have e6:((shfE m a n):Int)=(z1k (((([]++addS 0 a)++addS 1 n)++addS 2 (0-n))++addS 0 ((m-a)- (max 0 (0-n))))):=by
    exact T.2
   exact .finE [.r [],.r [],.le (.nB 248 0 2),.r [(2,X (Xc3 289 [(0,248),(1,272)] (y1w [] 0 a (by first|omega| (simp only[qf,zd];omega))) X0))],.r [(2,X (Xc3 313 [(0,248),(1,272)] (y1w ([]++addS 0 a) 1 n (by first|omega| (simp only[qf,zd];omega))) X0))],.r [(2,X (Xn (0-n))),(3,X (Xc3 345 [(0,248),(1,272)] (y1w (([]++addS 0 a)++addS 1 n) 2 (0-n) (by first|omega| (simp only[qf,zd];omega))) X0))],.r [(3,X (Xn (m-a))),(5,X (Xn (0-n))),(6,X (Xmax 0 (0-n))),(7,X (Xn ((m-a)- (max 0 (0-n))))),(8,X (Xc3 417 [(0,248),(1,272)] (y1w ((([]++addS 0 a)++addS 1 n)++addS 2 (0-n)) 0 ((m-a)- (max 0 (0-n))) (by first|omega| (simp only[qf,zd];omega))) X0))],.r [(2,X (Xc0 (z2u (((([]++addS 0 a)++addS 1 n)++addS 2 (0-n))++addS 0 ((m-a)- (max 0 (0-n))))) (rowC stepT (((([]++addS 0 a)++addS 1 n)++addS 2 (0-n))++addS 0 ((m-a)- (max 0 (0-n)))) X0)))],.le (.fr 6 [(((((([]++addS 0 a)++addS 1 n)++addS 2 (0-n))++addS 0 ((m-a)- (max 0 (0-n)))).length):Nat)=(List.map stepT (((([]++addS 0 a)++addS 1 n)++addS 2 (0-n))++addS 0 ((m-a)- (max 0 (0-n))))).length] ⟨lm,trivial⟩)] [] (fun((z0,z1):(List AxStep)×Int)=>(.tup [VL 2 stepT z0,VI z1],[])) _ _ (pr e5 e6)
theorem y8d(d:Doc)(k a n:Int)(hb:DocL d)(ha: -1000000<=a/\a<=2147483647)(hn: -1000000<=n/\n<=2147483647):FC Tryz.prog 99 [.t (docT d),VI k,VI a,VI n] (app emp []) (.tup [VL 19 eopT (rshO d k a n),VI (rshE d k a n)]) (app emp []):=by
 refine .go Tryz.f99 ?_
 refine .bp [.r [],.r [(2,X (Xc1 40 (z7Q d k (by assumption)) X0))],.r []] ((tabE d k) !=0) (fun h2=> ?_) (fun h2=> ?_)
 ·
  have T:=rsh_1 (a:=a) (n:=n) h2
  have e1:((rshO d k a n):List EOp)=[]:=by
   exact T.1
  have e2:((rshE d k a n):Int)=(tabE d k):=by
   exact T.2
  exact .finE [.r [],.le (.nL 8 19)] [] (fun((z0,z1):(List EOp)×Int)=>(.tup [VL 19 eopT z0,VI z1],[])) _ _ (pr e1 e2)
 ·
  have hg:=y1v h2
  refine .bp [.r [(5,X (Xc1 152 (y1x ((((tabN d k)).grid).rows) a n (by omega) (by omega) (by omega)) X0))],.r []] ((shfE ((((tabN d k)).grid).rows) a n) !=0) (fun h5=> ?_) (fun h5=> ?_)
  ·
   have T:=rsh_2 h2 h5
   have e3:((rshO d k a n):List EOp)=[]:=by
    exact T.1
   have e4:((rshE d k a n):Int)=(shfE ((((tabN d k)).grid).rows) a n):=by
    exact T.2
   exact .finE [.r [],.le (.nL 8 19)] [] (fun((z0,z1):(List EOp)×Int)=>(.tup [VL 19 eopT z0,VI z1],[])) _ _ (pr e3 e4)
  ·
   have T:=rsh_3 h2 h5
   have e5:((rshO d k a n):List EOp)=[({kind:=3,node:=k,nw:=({id:=0,kind:=0,attrs:=[],flow:=[],grid:=({rows:=0,cols:=0,cells:=[],merges:=[]}:Grid),draw:=[]}:Node),attrs:=[],steps:=[],grid:=({rows:=(shfL ((((tabN d k)).grid).rows) a n),cols:=[],cells:=[],split:=[],merge:=[]}:GEd),draw:=[]}:EOp)]:=by
    exact T.1
   have e6:((rshE d k a n):Int)=0:=by
    exact T.2
   exact .finE [.r [(2,X (Xf [(1,2),(2,5),(3,4),(4,4)])),(3,X (Xf [(4,2),(5,3),(8,5),(9,4),(10,8),(11,2),(12,4),(18,8)]))],.le (.fr 8 [(1:Nat)=(List.map eopT [({kind:=3,node:=k,nw:=({id:=0,kind:=0,attrs:=[],flow:=[],grid:=({rows:=0,cols:=0,cells:=[],merges:=[]}:Grid),draw:=[]}:Node),attrs:=[],steps:=[],grid:=({rows:=(shfL ((((tabN d k)).grid).rows) a n),cols:=[],cells:=[],split:=[],merge:=[]}:GEd),draw:=[]}:EOp)]).length] ⟨lm,trivial⟩)] [] (fun((z0,z1):(List EOp)×Int)=>(.tup [VL 19 eopT z0,VI z1],[])) _ _ (pr e5 e6)
theorem y2o(d:Doc)(k a n:Int)(hb:DocL d)(ha: -1000000<=a/\a<=2147483647)(hn: -1000000<=n/\n<=2147483647):FC Tryz.prog 100 [.t (docT d),VI k,VI a,VI n] (app emp []) (.tup [VL 19 eopT (cshO d k a n),VI (cshE d k a n)]) (app emp []):=by
 refine .go Tryz.f100 ?_
 refine .bp [.r [],.r [(2,X (Xc1 40 (z7Q d k (by assumption)) X0))],.r []] ((tabE d k) !=0) (fun h2=> ?_) (fun h2=> ?_)
 ·
  have T:=csh_1 (a:=a) (n:=n) h2
  have e1:((cshO d k a n):List EOp)=[]:=by
   exact T.1
  have e2:((cshE d k a n):Int)=(tabE d k):=by
   exact T.2
  exact .finE [.r [],.le (.nL 8 19)] [] (fun((z0,z1):(List EOp)×Int)=>(.tup [VL 19 eopT z0,VI z1],[])) _ _ (pr e1 e2)
 ·
  have hg:=y1v h2
  refine .bp [.r [(5,X (Xc1 152 (y1x ((((tabN d k)).grid).cols) a n (by omega) (by omega) (by omega)) X0))],.r []] ((shfE ((((tabN d k)).grid).cols) a n) !=0) (fun h5=> ?_) (fun h5=> ?_)
  ·
   have T:=csh_2 h2 h5
   have e3:((cshO d k a n):List EOp)=[]:=by
    exact T.1
   have e4:((cshE d k a n):Int)=(shfE ((((tabN d k)).grid).cols) a n):=by
    exact T.2
   exact .finE [.r [],.le (.nL 8 19)] [] (fun((z0,z1):(List EOp)×Int)=>(.tup [VL 19 eopT z0,VI z1],[])) _ _ (pr e3 e4)
  ·
   have T:=csh_3 h2 h5
   have e5:((cshO d k a n):List EOp)=[({kind:=3,node:=k,nw:=({id:=0,kind:=0,attrs:=[],flow:=[],grid:=({rows:=0,cols:=0,cells:=[],merges:=[]}:Grid),draw:=[]}:Node),attrs:=[],steps:=[],grid:=({rows:=[],cols:=(shfL ((((tabN d k)).grid).cols) a n),cells:=[],split:=[],merge:=[]}:GEd),draw:=[]}:EOp)]:=by
    exact T.1
   have e6:((cshE d k a n):Int)=0:=by
    exact T.2
   exact .finE [.r [(2,X (Xf [(0,2),(2,5),(3,4),(4,4)])),(3,X (Xf [(4,2),(5,3),(8,5),(9,4),(10,8),(11,2),(12,4),(18,8)]))],.le (.fr 8 [(1:Nat)=(List.map eopT [({kind:=3,node:=k,nw:=({id:=0,kind:=0,attrs:=[],flow:=[],grid:=({rows:=0,cols:=0,cells:=[],merges:=[]}:Grid),draw:=[]}:Node),attrs:=[],steps:=[],grid:=({rows:=[],cols:=(shfL ((((tabN d k)).grid).cols) a n),cells:=[],split:=[],merge:=[]}:GEd),draw:=[]}:EOp)]).length] ⟨lm,trivial⟩)] [] (fun((z0,z1):(List EOp)×Int)=>(.tup [VL 19 eopT z0,VI z1],[])) _ _ (pr e5 e6)
theorem y8e(d:Doc)(k r c site:Int)(hb:DocL d):FC Tryz.prog 101 [.t (docT d),VI k,VI r,VI c,VI site] (app emp []) (.tup [VL 19 eopT (celO d k r c site),VI (celR d k r c site),VI (celE d k r c site)]) (app emp []):=by
 refine .go Tryz.f101 ?_
 have htl:=y6o hb k
 refine .bp [.r [],.r [(2,X (Xc1 48 (z7Q d k (by assumption)) X0))],.r []] ((tabE d k) !=0) (fun h2=> ?_) (fun h2=> ?_)
 ·
  have T:=cel_1 (r:=r) (c:=c) (site:=site) h2
  have e1:((celO d k r c site):List EOp)=[]:=by
   exact T.1
  have e2:((celR d k r c site):Int)=0:=by
   exact T.2.1
  have e3:((celE d k r c site):Int)=(tabE d k):=by
   exact T.2.2
  exact .finE [.r [],.le (.nL 10 19)] [] (fun((z0,z1,z2):(List EOp)×Int×Int)=>(.tup [VL 19 eopT z0,VI z1,VI z2],[])) _ _ (pr e1 (pr e2 e3))
 ·
  refine .bp [.r []] ((((tabN d k)).kind) !=2) (fun h4=> ?_) (fun h4=> ?_)
  ·
   have T:=cel_2 (r:=r) (c:=c) (site:=site) h2 h4
   have e4:((celO d k r c site):List EOp)=[]:=by
    exact T.1
   have e5:((celR d k r c site):Int)=0:=by
    exact T.2.1
   have e6:((celE d k r c site):Int)=8:=by
    exact T.2.2
   exact .finE [.r [],.le (.nL 10 19)] [] (fun((z0,z1,z2):(List EOp)×Int×Int)=>(.tup [VL 19 eopT z0,VI z1,VI z2],[])) _ _ (pr e4 (pr e5 e6))
  ·
   refine .bp [.r [(5,Xv 1 (!(decide (r<0))) X0),(6,Xv 1 (!(decide (r<0))) X0),(7,Xv 2 (!(decide (r<0))) X0),(8,X (Xk' (decide (r<0)))),(11,Xv 1 (!(decide (r<0)||decide (r>=((((tabN d k)).grid).rows)))) X0),(12,X (Xk' (decide (r<0)||decide (r>=((((tabN d k)).grid).rows))))),(16,Xv 1 (!((decide (r<0)||decide (r>=((((tabN d k)).grid).rows)))||decide (c<0))) X0),(17,Xv 1 (!((decide (r<0)||decide (r>=((((tabN d k)).grid).rows)))||decide (c<0))) X0),(18,Xv 2 (!((decide (r<0)||decide (r>=((((tabN d k)).grid).rows)))||decide (c<0))) X0),(19,X (Xk' ((decide (r<0)||decide (r>=((((tabN d k)).grid).rows)))||decide (c<0))))]] (((decide (r<0)||decide (r>=((((tabN d k)).grid).rows)))||decide (c<0))||decide (c>=((((tabN d k)).grid).cols))) (fun h6=> ?_) (fun h6=> ?_)
   ·
    have T:=cel_3 (site:=site) h2 h4 h6
    have e7:((celO d k r c site):List EOp)=[]:=by
     exact T.1
    have e8:((celR d k r c site):Int)=0:=by
     exact T.2.1
    have e9:((celE d k r c site):Int)=2:=by
     exact T.2.2
    exact .finE [.r [],.le (.nL 10 19)] [] (fun((z0,z1,z2):(List EOp)×Int×Int)=>(.tup [VL 19 eopT z0,VI z1,VI z2],[])) _ _ (pr e7 (pr e8 e9))
   ·
    refine .loop (α:=Nat) [.r [(3,X (Xl cellT ((((tabN d k)).grid).cells)))]] 344 (fun i=>([(1,VI k),(2,VI r),(3,VI c),(4,VI site),(5,.ptr 0 0),(52,VL 5 cellT ((((tabN d k)).grid).cells)),(53,VI (((((tabN d k)).grid).cells).length:Int)),(54,VI (i:Int))],[(0,.box [VL 9 nodeT d.nodes])])) (fun i=>i<=(tabN d k).grid.cells.length/\idxF (fun x:Cell=>x.row==r&&x.col==c) (tabN d k).grid.cells 0=idxF (fun x:Cell=>x.row==r&&x.col==c) (tabN d k).grid.cells i) (fun i=>(tabN d k).grid.cells.length-i) (0:Nat) ?_ ?_
    ·
     exact⟨by omega,rfl⟩
    rintro i I9 ih9
    try dsimp only at I9
    refine .bp [.r []] (decide ((i:Int)< (((((tabN d k)).grid).cells).length:Int))) (fun h9=> ?_) (fun h9=> ?_)
    ·
     refine .bp [.r [(0,X (Xi cellT ((((tabN d k)).grid).cells) (i:Int)))],.r [(6,Xv 1 ((((((((tabN d k)).grid).cells).getD i default)).row)==r) X0),(8,Xv 2 ((((((((tabN d k)).grid).cells).getD i default)).row)==r) X0),(9,X (Xk ((((((((tabN d k)).grid).cells).getD i default)).row)==r)))]] (((((((((tabN d k)).grid).cells).getD i default)).row)==r)&&((((((((tabN d k)).grid).cells).getD i default)).col)==c)) (fun h11=> ?_) (fun h11=> ?_)
     ·
      have T:=cel_4 (site:=site) h2 h4 h6 (I9.2.trans (y77 (by omega) (by simpa[-List.getD_eq_getElem?_getD] using h11)))
      have e10:((celO d k r c site):List EOp)=[]:=by
       exact T.1
      have e11:((celR d k r c site):Int)=((((((tabN d k)).grid).cells).getD i default)).ref:=by
       exact T.2.1
      have e12:((celE d k r c site):Int)=0:=by
       exact T.2.2
      exact .finE [.r [],.le (.nL 10 19)] [] (fun((z0,z1,z2):(List EOp)×Int×Int)=>(.tup [VL 19 eopT z0,VI z1,VI z2],[])) _ _ (pr e10 (pr e11 e12))
     ·
      refine .back [.r [(0,X (Xn ((i:Int)+1)))]] [(0,0)] (ih9 ((i+1):Nat) ?_ ?_)
      ·
       exact⟨by omega,I9.2.trans (y6p (by omega) (by simpa[-List.getD_eq_getElem?_getD,Classical.or_iff_not_imp_left] using h11))⟩
      ·
       ((try dsimp only);omega)
    ·
     have hno:=I9.2.trans (y78 (by omega))
     refine .bp [.r [(2,X (Xc0 (y4w d site (by assumption)) X0))],.r []] ((nextE d site) !=0) (fun h15=> ?_) (fun h15=> ?_)
     ·
      have T:=cel_5 h2 h4 h6 hno h15
      have e13:((celO d k r c site):List EOp)=[]:=by
       exact T.1
      have e14:((celR d k r c site):Int)=0:=by
       exact T.2.1
      have e15:((celE d k r c site):Int)=(nextE d site):=by
       exact T.2.2
      exact .finE [.r [],.le (.nL 10 19)] [] (fun((z0,z1,z2):(List EOp)×Int×Int)=>(.tup [VL 19 eopT z0,VI z1,VI z2],[])) _ _ (pr e13 (pr e14 e15))
     ·
      have T:=cel_6 h2 h4 h6 hno h15
      have e16:((celO d k r c site):List EOp)=[({kind:=0,node:=0,nw:=({id:=(nextN d site),kind:=3,attrs:=[],flow:=[({char:=10,ref:=0,attrs:=[]}:Elem)],grid:=({rows:=0,cols:=0,cells:=[],merges:=[]}:Grid),draw:=[]}:Node),attrs:=[],steps:=[],grid:=({rows:=[],cols:=[],cells:=[],split:=[],merge:=[]}:GEd),draw:=[]}:EOp),({kind:=3,node:=k,nw:=({id:=0,kind:=0,attrs:=[],flow:=[],grid:=({rows:=0,cols:=0,cells:=[],merges:=[]}:Grid),draw:=[]}:Node),attrs:=[],steps:=[],grid:=({rows:=[],cols:=[],cells:=[({row:=r,col:=c,text:={data:=#[]},ref:=(nextN d site),attrs:=[]}:Cell)],split:=[],merge:=[]}:GEd),draw:=[]}:EOp)]:=by
       exact T.1
      have e17:((celR d k r c site):Int)=(nextN d site):=by
       exact T.2.1
      have e18:((celE d k r c site):Int)=0:=by
       exact T.2.2
      exact .finE [.r [(1,X (Xf [(2,2)])),(3,X (Xf [(2,2),(6,5),(7,4),(8,8)])),(4,X (Xf [(11,2),(12,4),(13,2),(14,2),(15,5),(16,4),(17,4),(18,8)])),(9,X (Xf [(4,2)])),(11,X (Xf [(0,2),(1,2),(3,4),(4,4)])),(12,X (Xf [(4,2),(5,3),(8,5),(9,4),(10,8),(11,2),(12,4),(18,8)])),(13,X (rowC elemT [({char:=10,ref:=0,attrs:=[]}:Elem)] (rowC cellT [({row:=r,col:=c,text:={data:=#[]},ref:=(nextN d site),attrs:=[]}:Cell)] X0)))],.le (.fr 10 [(2:Nat)=(List.map eopT [({kind:=0,node:=0,nw:=({id:=(nextN d site),kind:=3,attrs:=[],flow:=[({char:=10,ref:=0,attrs:=[]}:Elem)],grid:=({rows:=0,cols:=0,cells:=[],merges:=[]}:Grid),draw:=[]}:Node),attrs:=[],steps:=[],grid:=({rows:=[],cols:=[],cells:=[],split:=[],merge:=[]}:GEd),draw:=[]}:EOp),({kind:=3,node:=k,nw:=({id:=0,kind:=0,attrs:=[],flow:=[],grid:=({rows:=0,cols:=0,cells:=[],merges:=[]}:Grid),draw:=[]}:Node),attrs:=[],steps:=[],grid:=({rows:=[],cols:=[],cells:=[({row:=r,col:=c,text:={data:=#[]},ref:=(nextN d site),attrs:=[]}:Cell)],split:=[],merge:=[]}:GEd),draw:=[]}:EOp)]).length] ⟨lm,trivial⟩)] [] (fun((z0,z1,z2):(List EOp)×Int×Int)=>(.tup [VL 19 eopT z0,VI z1,VI z2],[])) _ _ (pr e16 (pr e17 e18))
theorem y8f(p:Pl)(s:Sel)(k:Int)(hb:PlB p):FC Tryz.prog 42 [VI k,.ptr 1 0,.ptr 0 0] (app emp [(0,.box [VI p.node.id,VI p.node.kind,VL 2 attrT p.node.attrs,VL 3 elemT p.node.flow,VI p.node.grid.rows,VI p.node.grid.cols,VL 5 cellT p.node.grid.cells,VL 4 rectT p.node.grid.merges,VL 8 dopT p.node.draw,VL 1 intT p.shown,VS p.author]),(1,.box [VI s.nd,VI s.fr,VI s.tq])]) (VB (fmtW p s k)) (app emp [(0,.box [VI p.node.id,VI p.node.kind,VL 2 attrT p.node.attrs,VL 3 elemT p.node.flow,VI p.node.grid.rows,VI p.node.grid.cols,VL 5 cellT p.node.grid.cells,VL 4 rectT p.node.grid.merges,VL 8 dopT p.node.draw,VL 1 intT p.shown,VS p.author]),(1,.box [VI s.nd,VI s.fr,VI s.tq])]):=by
 refine .go Tryz.f42 ?_
 have e1:((fmtW p s k):Bool)=((decide (k>=s.fr)&&decide (k<s.tq))&&((((elemP p k)).char) !=10)):=by
  rfl
 exact .finE [.r [],.r [(7,Xv 1 (decide (k>=s.fr)) X0),(8,Xv 2 (decide (k>=s.fr)) X0),(9,X (Xk (decide (k>=s.fr)))),(12,Xv 1 (decide (k>=s.fr)&&decide (k<s.tq)) (Xc4 [(0,0)] (z2N p k (by assumption)) X0)),(13,Xv 1 (decide (k>=s.fr)&&decide (k<s.tq)) X0),(14,Xv 1 (decide (k>=s.fr)&&decide (k<s.tq)) X0),(15,X (Xk (decide (k>=s.fr)&&decide (k<s.tq))))]] [(0,0),(1,1)] (fun z0:Bool=>(VB z0,[(0,.box [VI p.node.id,VI p.node.kind,VL 2 attrT p.node.attrs,VL 3 elemT p.node.flow,VI p.node.grid.rows,VI p.node.grid.cols,VL 5 cellT p.node.grid.cells,VL 4 rectT p.node.grid.merges,VL 8 dopT p.node.draw,VL 1 intT p.shown,VS p.author]),(1,.box [VI s.nd,VI s.fr,VI s.tq])])) _ _ e1
theorem y2p(p:Pl)(s:Sel)(c:List Attr)(hb:PlB p)(hc:c.length<=1048576):FC Tryz.prog 41 [.ptr 0 0,VL 2 attrT c,.fn 42 [.ptr 1 0,.ptr 0 0]] (app emp [(0,.box [VI p.node.id,VI p.node.kind,VL 2 attrT p.node.attrs,VL 3 elemT p.node.flow,VI p.node.grid.rows,VI p.node.grid.cols,VL 5 cellT p.node.grid.cells,VL 4 rectT p.node.grid.merges,VL 8 dopT p.node.draw,VL 1 intT p.shown,VS p.author]),(1,.box [VI s.nd,VI s.fr,VI s.tq])]) (VL 19 eopT [opF p.node.id (rstD c (rstF (fmtW p s) p.shown p.node.flow.length p.shown.length) p.node.flow.length)]) (app emp [(0,.box [VI p.node.id,VI p.node.kind,VL 2 attrT p.node.attrs,VL 3 elemT p.node.flow,VI p.node.grid.rows,VI p.node.grid.cols,VL 5 cellT p.node.grid.cells,VL 4 rectT p.node.grid.merges,VL 8 dopT p.node.draw,VL 1 intT p.shown,VS p.author]),(1,.box [VI s.nd,VI s.fr,VI s.tq])]):=by
 refine .go Tryz.f41 ?_
 refine .len 1 (fun hl1=> ?_)
 obtain⟨dn,el⟩:=y4m c (rstF (fmtW p s) p.shown p.node.flow.length p.shown.length) p.node.flow.length hc
 have hbl:=hb.len
 have hbs:=hb.sl
 refine .loop (α:=Nat×(List Bool)) [.r [],.r [(5,X (Xl elemT p.node.flow)),(6,X (Xmk 1 boolT 58 (p.node.flow.length:Int) (p.node.flow.length:Int) false))],.r [(4,X (Xl intT p.shown))]] 122 (fun(k,f)=>([(0,.ptr 0 0),(1,VL 2 attrT c),(2,.fn 42 [.ptr 1 0,.ptr 0 0]),(7,.row 58 p.node.flow.length),(25,VL 1 intT p.shown),(26,VI (p.shown.length:Int)),(27,VI (k:Int))],[(0,.box [VI p.node.id,VI p.node.kind,VL 2 attrT p.node.attrs,VL 3 elemT p.node.flow,VI p.node.grid.rows,VI p.node.grid.cols,VL 5 cellT p.node.grid.cells,VL 4 rectT p.node.grid.merges,VL 8 dopT p.node.draw,VL 1 intT p.shown,VS p.author]),(1,.box [VI s.nd,VI s.fr,VI s.tq]),(58,OR 1 boolT f)])) (fun(k,f)=>k<=p.shown.length/\f=rstF (fmtW p s) p.shown p.node.flow.length k) (fun(k,f)=>p.shown.length-k) (0,(List.replicate p.node.flow.length false)) ?_ ?_
 ·
  exact⟨by omega,rfl⟩
 rintro⟨k,f⟩ I3 ih3
 try dsimp only at I3
 have fl:f.length=p.node.flow.length:=by rw[I3.2,z7P]
 refine .bp [.r []] (decide ((k:Int)< (p.shown.length:Int))) (fun h3=> ?_) (fun h3=> ?_)
 ·
  have hpk:=hb.ok _ (z0h (l:=p.shown) (i:=k) (by omega))
  refine .back [.r [(1,X (Xi intT p.shown (k:Int)))],.r [(4,X (Xc4 [(0,0),(1,1)] (y8f p s (k:Int) (by assumption)) X0)),(5,X (Xpn p.node.flow.length boolT f (p.shown.getD k default))),(6,X (Xsn p.node.flow.length 1 boolT 58 f (Int.toNat (p.shown.getD k default)) (fmtW p s (k:Int))))],.r [(0,X (Xn ((k:Int)+1)))]] [(0,0),(1,1),(58,58)] (ih3 ((k+1),(f.set (Int.toNat (p.shown.getD k default)) (fmtW p s (k:Int)))) ?_ ?_)
  ·
   exact⟨by omega,by rw[I3.2,z6e]⟩
  ·
   ((try dsimp only);omega)
 ·
  have hf2:f=(rstF (fmtW p s) p.shown p.node.flow.length p.shown.length):=by rw[I3.2,show k=p.shown.length by omega]
  refine .loop (α:=Nat×(List DStep)) [.r [],.r [(5,X (Xl elemT p.node.flow))],.le (.nR 10 4)] 195 (fun(i,o)=>([(0,.ptr 0 0),(1,VL 2 attrT c),(7,.row 58 p.node.flow.length),(10,.row 194 o.length),(44,VI (p.node.flow.length:Int)),(45,VI (i:Int))],[(0,.box [VI p.node.id,VI p.node.kind,VL 2 attrT p.node.attrs,VL 3 elemT p.node.flow,VI p.node.grid.rows,VI p.node.grid.cols,VL 5 cellT p.node.grid.cells,VL 4 rectT p.node.grid.merges,VL 8 dopT p.node.draw,VL 1 intT p.shown,VS p.author]),(1,.box [VI s.nd,VI s.fr,VI s.tq]),(58,OR 1 boolT f),(194,OR 4 z0d o)])) (fun(i,o)=>i<=p.node.flow.length/\o=rstS c f i) (fun(i,o)=>p.node.flow.length-i) (0,[]) ?_ ?_
  ·
   exact⟨by omega,rfl⟩
  rintro⟨i,o⟩ I9 ih9
  try dsimp only at I9
  have ol2:o.length=i:=by rw[I9.2];exact y1s c f i
  refine .bp [.r []] (decide ((i:Int)< (p.node.flow.length:Int))) (fun h9=> ?_) (fun h9=> ?_)
  ·
   refine .bp [.r [],.r [(0,X (Xf [(2,2),(3,3)]))],.r [(2,X (Xpn p.node.flow.length boolT f (i:Int))),(3,X (Xen p.node.flow.length boolT f i))]] (f.getD i default) (fun h12=> ?_) (fun h12=> ?_)
   ·
    refine .back [.r [],.r [(3,X (rowC z0d [({kind:=0,n:=1,attrs:=c,elems:=[]}:DStep)] (Xap 4 z0d 194 o [({kind:=0,n:=1,attrs:=c,elems:=[]}:DStep)])))],.r [(0,X (Xn ((i:Int)+1)))]] [(0,0),(1,1),(58,58),(194,194)] (ih9 ((i+1),(o++[({kind:=0,n:=1,attrs:=c,elems:=[]}:DStep)])) ?_ ?_)
    ·
     exact⟨by omega,by rw[I9.2,z4c,y68 h12]⟩
    ·
     ((try dsimp only);omega)
   ·
    refine .back [.r [(3,X (rowC z0d [({kind:=0,n:=1,attrs:=[],elems:=[]}:DStep)] (Xap 4 z0d 194 o [({kind:=0,n:=1,attrs:=[],elems:=[]}:DStep)])))],.r [(0,X (Xn ((i:Int)+1)))]] [(0,0),(1,1),(58,58),(194,194)] (ih9 ((i+1),(o++[({kind:=0,n:=1,attrs:=[],elems:=[]}:DStep)])) ?_ ?_)
    ·
     exact⟨by omega,by rw[I9.2,z4c,y69 h12]⟩
    ·
     ((try dsimp only);omega)
  ·
   have ho:o=rstS c (rstF (fmtW p s) p.shown p.node.flow.length p.shown.length) p.node.flow.length:=by rw[I9.2,show i=p.node.flow.length by omega,hf2]
   rw[<-ho] at dn el
   have e1:([opF p.node.id (rstD c (rstF (fmtW p s) p.shown p.node.flow.length p.shown.length) p.node.flow.length)]:List EOp)=[({kind:=2,node:=p.node.id,nw:=({id:=0,kind:=0,attrs:=[],flow:=[],grid:=({rows:=0,cols:=0,cells:=[],merges:=[]}:Grid),draw:=[]}:Node),attrs:=[],steps:=(tidyL o),grid:=({rows:=[],cols:=[],cells:=[],split:=[],merge:=[]}:GEd),draw:=[]}:EOp)]:=by
    rw[ho];rfl
   exact .finE [.r [(1,X (Xc1 211 (z5k o (by assumption) (by omega) (by omega)) (rowC z0d o X0)))],.r [(6,X (Xf [(4,2),(5,3),(8,5),(9,4),(10,8),(11,2),(13,2),(14,2),(15,5),(16,4),(17,4),(18,8)]))],.le (.fr 6 [(1:Nat)=(List.map eopT [({kind:=2,node:=p.node.id,nw:=({id:=0,kind:=0,attrs:=[],flow:=[],grid:=({rows:=0,cols:=0,cells:=[],merges:=[]}:Grid),draw:=[]}:Node),attrs:=[],steps:=(tidyL o),grid:=({rows:=[],cols:=[],cells:=[],split:=[],merge:=[]}:GEd),draw:=[]}:EOp)]).length] ⟨lm,trivial⟩)] [(0,0),(1,1)] (fun z0:List EOp=>(VL 19 eopT z0,[(0,.box [VI p.node.id,VI p.node.kind,VL 2 attrT p.node.attrs,VL 3 elemT p.node.flow,VI p.node.grid.rows,VI p.node.grid.cols,VL 5 cellT p.node.grid.cells,VL 4 rectT p.node.grid.merges,VL 8 dopT p.node.draw,VL 1 intT p.shown,VS p.author]),(1,.box [VI s.nd,VI s.fr,VI s.tq])])) _ _ e1
theorem y4x(d:Doc)(s:Sel)(c:List Attr)(hb:DocL d)(hc:c.length<=1048576)(hx:atE d s {data:=#[]}=0->PlB (atP d s {data:=#[]})):FC Tryz.prog 17 [.t (docT d),.t (selT s),VL 2 attrT c] (app emp []) (.tup [VL 19 eopT (fmtO d s c),VI (fmtE d s c)]) (app emp []):=by
 refine .go Tryz.f17 ?_
 refine .len 2 (fun hl2=> ?_)
 refine .bp [.r [],.r [(2,X (Xc1 48 (fc_at d s ({data:=#[]}) (by assumption)) X0))],.r []] ((atE d s ({data:=#[]})) !=0) (fun h2=> ?_) (fun h2=> ?_)
 ·
  have T:=fmt_1 (c:=c) h2
  have e1:((fmtO d s c):List EOp)=[]:=by
   exact T.1
  have e2:((fmtE d s c):Int)=(atE d s ({data:=#[]})):=by
   exact T.2
  exact .finE [.r [],.le (.nL 6 19)] [] (fun((z0,z1):(List EOp)×Int)=>(.tup [VL 19 eopT z0,VI z1],[])) _ _ (pr e1 e2)
 ·
  refine .bp [.r [(1,X (Xc0 (z01 c) X0))],.r []] ((chkA true c 0) !=0) (fun h5=> ?_) (fun h5=> ?_)
  ·
   have T:=fmt_2 h2 h5
   have e3:((fmtO d s c):List EOp)=[]:=by
    exact T.1
   have e4:((fmtE d s c):Int)=(chkA true c 0):=by
    exact T.2
   exact .finE [.r [],.le (.nL 6 19)] [] (fun((z0,z1):(List EOp)×Int)=>(.tup [VL 19 eopT z0,VI z1],[])) _ _ (pr e3 e4)
  ·
   have hp:=hx h2
   have T:=fmt_3 h2 h5
   have e5:((fmtO d s c):List EOp)=[opF (((atP d s ({data:=#[]})))).node.id (rstD c (rstF (fmtW ((atP d s ({data:=#[]}))) s) (((atP d s ({data:=#[]})))).shown (((atP d s ({data:=#[]})))).node.flow.length (((atP d s ({data:=#[]})))).shown.length) (((atP d s ({data:=#[]})))).node.flow.length)]:=by
    exact T.1
   have e6:((fmtE d s c):Int)=0:=by
    exact T.2
   exact .finE [.r [(2,X (Xc4 [(0,80),(1,8)] (y2p ((atP d s ({data:=#[]}))) s c (by assumption) (by omega)) X0))]] [] (fun((z0,z1):(List EOp)×Int)=>(.tup [VL 19 eopT z0,VI z1],[])) _ _ (pr e5 e6)
theorem y8g(p:Pl)(s:Sel)(m:Int)(k:Int)(hb:PlB p):FC Tryz.prog 145 [VI k,.ptr 1 0,.ptr 2 0,.ptr 0 0] (app emp [(0,.box [VI p.node.id,VI p.node.kind,VL 2 attrT p.node.attrs,VL 3 elemT p.node.flow,VI p.node.grid.rows,VI p.node.grid.cols,VL 5 cellT p.node.grid.cells,VL 4 rectT p.node.grid.merges,VL 8 dopT p.node.draw,VL 1 intT p.shown,VS p.author]),(1,.box [VI s.nd,VI s.fr,VI s.tq]),(2,.box [VI m])]) (VB (parW p s m k)) (app emp [(0,.box [VI p.node.id,VI p.node.kind,VL 2 attrT p.node.attrs,VL 3 elemT p.node.flow,VI p.node.grid.rows,VI p.node.grid.cols,VL 5 cellT p.node.grid.cells,VL 4 rectT p.node.grid.merges,VL 8 dopT p.node.draw,VL 1 intT p.shown,VS p.author]),(1,.box [VI s.nd,VI s.fr,VI s.tq]),(2,.box [VI m])]):=by
 refine .go Tryz.f145 ?_
 have e1:((parW p s m k):Bool)=((decide (k>=s.fr)&&decide (k<=m))&&((((elemP p k)).char)==10)):=by
  rfl
 exact .finE [.r [],.r [(7,Xv 2 (decide (k>=s.fr)) X0),(8,X (Xk (decide (k>=s.fr)))),(11,Xv 1 (decide (k>=s.fr)&&decide (k<=m)) (Xc4 [(0,0)] (z2N p k (by assumption)) X0)),(12,Xv 1 (decide (k>=s.fr)&&decide (k<=m)) X0),(13,Xv 1 (decide (k>=s.fr)&&decide (k<=m)) X0),(14,X (Xk (decide (k>=s.fr)&&decide (k<=m))))]] [(0,0),(1,1),(2,2)] (fun z0:Bool=>(VB z0,[(0,.box [VI p.node.id,VI p.node.kind,VL 2 attrT p.node.attrs,VL 3 elemT p.node.flow,VI p.node.grid.rows,VI p.node.grid.cols,VL 5 cellT p.node.grid.cells,VL 4 rectT p.node.grid.merges,VL 8 dopT p.node.draw,VL 1 intT p.shown,VS p.author]),(1,.box [VI s.nd,VI s.fr,VI s.tq]),(2,.box [VI m])])) _ _ e1
theorem y2q(p:Pl)(s:Sel)(m:Int)(c:List Attr)(hb:PlB p)(hc:c.length<=1048576):FC Tryz.prog 41 [.ptr 0 0,VL 2 attrT c,.fn 145 [.ptr 1 0,.ptr 2 0,.ptr 0 0]] (app emp [(0,.box [VI p.node.id,VI p.node.kind,VL 2 attrT p.node.attrs,VL 3 elemT p.node.flow,VI p.node.grid.rows,VI p.node.grid.cols,VL 5 cellT p.node.grid.cells,VL 4 rectT p.node.grid.merges,VL 8 dopT p.node.draw,VL 1 intT p.shown,VS p.author]),(1,.box [VI s.nd,VI s.fr,VI s.tq]),(2,.box [VI m])]) (VL 19 eopT [opF p.node.id (rstD c (rstF (parW p s m) p.shown p.node.flow.length p.shown.length) p.node.flow.length)]) (app emp [(0,.box [VI p.node.id,VI p.node.kind,VL 2 attrT p.node.attrs,VL 3 elemT p.node.flow,VI p.node.grid.rows,VI p.node.grid.cols,VL 5 cellT p.node.grid.cells,VL 4 rectT p.node.grid.merges,VL 8 dopT p.node.draw,VL 1 intT p.shown,VS p.author]),(1,.box [VI s.nd,VI s.fr,VI s.tq]),(2,.box [VI m])]):=by
 refine .go Tryz.f41 ?_
 refine .len 1 (fun hl1=> ?_)
 obtain⟨dn,el⟩:=y4m c (rstF (parW p s m) p.shown p.node.flow.length p.shown.length) p.node.flow.length hc
 have hbl:=hb.len
 have hbs:=hb.sl
 refine .loop (α:=Nat×(List Bool)) [.r [],.r [(5,X (Xl elemT p.node.flow)),(6,X (Xmk 1 boolT 59 (p.node.flow.length:Int) (p.node.flow.length:Int) false))],.r [(4,X (Xl intT p.shown))]] 123 (fun(k,f)=>([(0,.ptr 0 0),(1,VL 2 attrT c),(2,.fn 145 [.ptr 1 0,.ptr 2 0,.ptr 0 0]),(7,.row 59 p.node.flow.length),(25,VL 1 intT p.shown),(26,VI (p.shown.length:Int)),(27,VI (k:Int))],[(0,.box [VI p.node.id,VI p.node.kind,VL 2 attrT p.node.attrs,VL 3 elemT p.node.flow,VI p.node.grid.rows,VI p.node.grid.cols,VL 5 cellT p.node.grid.cells,VL 4 rectT p.node.grid.merges,VL 8 dopT p.node.draw,VL 1 intT p.shown,VS p.author]),(1,.box [VI s.nd,VI s.fr,VI s.tq]),(2,.box [VI m]),(59,OR 1 boolT f)])) (fun(k,f)=>k<=p.shown.length/\f=rstF (parW p s m) p.shown p.node.flow.length k) (fun(k,f)=>p.shown.length-k) (0,(List.replicate p.node.flow.length false)) ?_ ?_
 ·
  exact⟨by omega,rfl⟩
 rintro⟨k,f⟩ I3 ih3
 try dsimp only at I3
 have fl:f.length=p.node.flow.length:=by rw[I3.2,z7P]
 refine .bp [.r []] (decide ((k:Int)< (p.shown.length:Int))) (fun h3=> ?_) (fun h3=> ?_)
 ·
  have hpk:=hb.ok _ (z0h (l:=p.shown) (i:=k) (by omega))
  refine .back [.r [(1,X (Xi intT p.shown (k:Int)))],.r [(4,X (Xc4 [(0,0),(1,1),(2,2)] (y8g p s m (k:Int) (by assumption)) X0)),(5,X (Xpn p.node.flow.length boolT f (p.shown.getD k default))),(6,X (Xsn p.node.flow.length 1 boolT 59 f (Int.toNat (p.shown.getD k default)) (parW p s m (k:Int))))],.r [(0,X (Xn ((k:Int)+1)))]] [(0,0),(1,1),(2,2),(59,59)] (ih3 ((k+1),(f.set (Int.toNat (p.shown.getD k default)) (parW p s m (k:Int)))) ?_ ?_)
  ·
   exact⟨by omega,by rw[I3.2,z6e]⟩
  ·
   ((try dsimp only);omega)
 ·
  have hf2:f=(rstF (parW p s m) p.shown p.node.flow.length p.shown.length):=by rw[I3.2,show k=p.shown.length by omega]
  refine .loop (α:=Nat×(List DStep)) [.r [],.r [(5,X (Xl elemT p.node.flow))],.le (.nR 10 4)] 196 (fun(i,o)=>([(0,.ptr 0 0),(1,VL 2 attrT c),(7,.row 59 p.node.flow.length),(10,.row 195 o.length),(44,VI (p.node.flow.length:Int)),(45,VI (i:Int))],[(0,.box [VI p.node.id,VI p.node.kind,VL 2 attrT p.node.attrs,VL 3 elemT p.node.flow,VI p.node.grid.rows,VI p.node.grid.cols,VL 5 cellT p.node.grid.cells,VL 4 rectT p.node.grid.merges,VL 8 dopT p.node.draw,VL 1 intT p.shown,VS p.author]),(1,.box [VI s.nd,VI s.fr,VI s.tq]),(2,.box [VI m]),(59,OR 1 boolT f),(195,OR 4 z0d o)])) (fun(i,o)=>i<=p.node.flow.length/\o=rstS c f i) (fun(i,o)=>p.node.flow.length-i) (0,[]) ?_ ?_
  ·
   exact⟨by omega,rfl⟩
  rintro⟨i,o⟩ I9 ih9
  try dsimp only at I9
  have ol2:o.length=i:=by rw[I9.2];exact y1s c f i
  refine .bp [.r []] (decide ((i:Int)< (p.node.flow.length:Int))) (fun h9=> ?_) (fun h9=> ?_)
  ·
   refine .bp [.r [],.r [(0,X (Xf [(2,2),(3,3)]))],.r [(2,X (Xpn p.node.flow.length boolT f (i:Int))),(3,X (Xen p.node.flow.length boolT f i))]] (f.getD i default) (fun h12=> ?_) (fun h12=> ?_)
   ·
    refine .back [.r [],.r [(3,X (rowC z0d [({kind:=0,n:=1,attrs:=c,elems:=[]}:DStep)] (Xap 4 z0d 195 o [({kind:=0,n:=1,attrs:=c,elems:=[]}:DStep)])))],.r [(0,X (Xn ((i:Int)+1)))]] [(0,0),(1,1),(2,2),(59,59),(195,195)] (ih9 ((i+1),(o++[({kind:=0,n:=1,attrs:=c,elems:=[]}:DStep)])) ?_ ?_)
    ·
     exact⟨by omega,by rw[I9.2,z4c,y68 h12]⟩
    ·
     ((try dsimp only);omega)
   ·
    refine .back [.r [(3,X (rowC z0d [({kind:=0,n:=1,attrs:=[],elems:=[]}:DStep)] (Xap 4 z0d 195 o [({kind:=0,n:=1,attrs:=[],elems:=[]}:DStep)])))],.r [(0,X (Xn ((i:Int)+1)))]] [(0,0),(1,1),(2,2),(59,59),(195,195)] (ih9 ((i+1),(o++[({kind:=0,n:=1,attrs:=[],elems:=[]}:DStep)])) ?_ ?_)
    ·
     exact⟨by omega,by rw[I9.2,z4c,y69 h12]⟩
    ·
     ((try dsimp only);omega)
  ·
   have ho:o=rstS c (rstF (parW p s m) p.shown p.node.flow.length p.shown.length) p.node.flow.length:=by rw[I9.2,show i=p.node.flow.length by omega,hf2]
   rw[<-ho] at dn el
   have e1:([opF p.node.id (rstD c (rstF (parW p s m) p.shown p.node.flow.length p.shown.length) p.node.flow.length)]:List EOp)=[({kind:=2,node:=p.node.id,nw:=({id:=0,kind:=0,attrs:=[],flow:=[],grid:=({rows:=0,cols:=0,cells:=[],merges:=[]}:Grid),draw:=[]}:Node),attrs:=[],steps:=(tidyL o),grid:=({rows:=[],cols:=[],cells:=[],split:=[],merge:=[]}:GEd),draw:=[]}:EOp)]:=by
    rw[ho];rfl
   exact .finE [.r [(1,X (Xc1 212 (z5k o (by assumption) (by omega) (by omega)) (rowC z0d o X0)))],.r [(6,X (Xf [(4,2),(5,3),(8,5),(9,4),(10,8),(11,2),(13,2),(14,2),(15,5),(16,4),(17,4),(18,8)]))],.le (.fr 6 [(1:Nat)=(List.map eopT [({kind:=2,node:=p.node.id,nw:=({id:=0,kind:=0,attrs:=[],flow:=[],grid:=({rows:=0,cols:=0,cells:=[],merges:=[]}:Grid),draw:=[]}:Node),attrs:=[],steps:=(tidyL o),grid:=({rows:=[],cols:=[],cells:=[],split:=[],merge:=[]}:GEd),draw:=[]}:EOp)]).length] ⟨lm,trivial⟩)] [(0,0),(1,1),(2,2)] (fun z0:List EOp=>(VL 19 eopT z0,[(0,.box [VI p.node.id,VI p.node.kind,VL 2 attrT p.node.attrs,VL 3 elemT p.node.flow,VI p.node.grid.rows,VI p.node.grid.cols,VL 5 cellT p.node.grid.cells,VL 4 rectT p.node.grid.merges,VL 8 dopT p.node.draw,VL 1 intT p.shown,VS p.author]),(1,.box [VI s.nd,VI s.fr,VI s.tq]),(2,.box [VI m])])) _ _ e1
theorem y2r(d:Doc)(s:Sel)(c:List Attr)(hb:DocL d)(hc:c.length<=1048576)(hx:atE d s {data:=#[]}=0->PlB (atP d s {data:=#[]})/\0<=s.fr/\s.fr<=s.tq/\s.tq<=1000000000):FC Tryz.prog 95 [.t (docT d),.t (selT s),VL 2 attrT c] (app emp []) (.tup [VL 19 eopT (parO d s c),VI (fmtE d s c)]) (app emp []):=by
 refine .go Tryz.f95 ?_
 refine .len 2 (fun hl2=> ?_)
 refine .bp [.r [],.r [(2,X (Xc1 48 (fc_at d s ({data:=#[]}) (by assumption)) X0))],.r []] ((atE d s ({data:=#[]})) !=0) (fun h2=> ?_) (fun h2=> ?_)
 ·
  have T:=par_1 (c:=c) h2
  have e1:((parO d s c):List EOp)=[]:=by
   exact T.1
  have e2:((fmtE d s c):Int)=(atE d s ({data:=#[]})):=by
   exact T.2
  exact .finE [.r [],.le (.nL 6 19)] [] (fun((z0,z1):(List EOp)×Int)=>(.tup [VL 19 eopT z0,VI z1],[])) _ _ (pr e1 e2)
 ·
  refine .bp [.r [(1,X (Xc0 (z01 c) X0))],.r []] ((chkA true c 0) !=0) (fun h5=> ?_) (fun h5=> ?_)
  ·
   have T:=par_2 h2 h5
   have e3:((parO d s c):List EOp)=[]:=by
    exact T.1
   have e4:((fmtE d s c):Int)=(chkA true c 0):=by
    exact T.2
   exact .finE [.r [],.le (.nL 6 19)] [] (fun((z0,z1):(List EOp)×Int)=>(.tup [VL 19 eopT z0,VI z1],[])) _ _ (pr e3 e4)
  ·
   obtain⟨hp,q1,q2,q3⟩:=hx h2
   have hps:=hp.sl
   refine .loop (α:=Int) [.r [(4,X (Xn (s.tq- 1))),(5,X (Xmax s.fr (s.tq- 1)))]] 224 (fun o208c0=>([(2,VL 2 attrT c),(4,.ptr 8 0),(8,.ptr 80 0),(11,.ptr 208 0)],[(8,.box [VI s.nd,VI s.fr,VI s.tq]),(80,.box [VI ((((atP d s ({data:=#[]}))).node).id),VI ((((atP d s ({data:=#[]}))).node).kind),VL 2 attrT ((((atP d s ({data:=#[]}))).node).attrs),VL 3 elemT ((((atP d s ({data:=#[]}))).node).flow),VI (((((atP d s ({data:=#[]}))).node).grid).rows),VI (((((atP d s ({data:=#[]}))).node).grid).cols),VL 5 cellT (((((atP d s ({data:=#[]}))).node).grid).cells),VL 4 rectT (((((atP d s ({data:=#[]}))).node).grid).merges),VL 8 dopT ((((atP d s ({data:=#[]}))).node).draw),VL 1 intT (((atP d s ({data:=#[]}))).shown),VS (((atP d s ({data:=#[]}))).author)]),(208,.box [VI o208c0])])) (fun o208c0=>endK (atP d s {data:=#[]}) (max s.fr (s.tq- 1)).toNat=endK (atP d s {data:=#[]}) o208c0.toNat/\0<=o208c0/\o208c0<=s.tq+(atP d s {data:=#[]}).shown.length) (fun o208c0=>(atP d s {data:=#[]}).shown.length-o208c0.toNat) ((max s.fr (s.tq- 1)):Int) ?_ ?_
   ·
    exact⟨rfl,by omega,by omega⟩
   rintro o208c0 I8 ih8
   try dsimp only at I8
   refine .bp [.r [(1,X (Xc4 [(0,80)] (z2N ((atP d s ({data:=#[]}))) o208c0 (by assumption)) X0))]] ((((elemP ((atP d s ({data:=#[]}))) o208c0)).char) !=10) (fun h8=> ?_) (fun h8=> ?_)
   ·
    obtain⟨g1,g2⟩:=y6l I8.2.1 h8
    refine .back [.r [(1,X (Xn (o208c0+1)))]] [(8,8),(80,80),(208,208)] (ih8 ((o208c0+1):Int) ?_ ?_)
    ·
     exact⟨I8.1.trans g2,by omega,by omega⟩
    ·
     ((try dsimp only);omega)
   ·
    have g3:=y6m I8.2.1 h8
    have T:=par_3 h2 h5 (show((endK (atP d s {data:=#[]}) (max s.fr (s.tq- 1)).toNat:Nat):Int)=o208c0 by rw[I8.1,g3];omega)
    have e5:((parO d s c):List EOp)=[opF (((atP d s ({data:=#[]})))).node.id (rstD c (rstF (parW ((atP d s ({data:=#[]}))) s o208c0) (((atP d s ({data:=#[]})))).shown (((atP d s ({data:=#[]})))).node.flow.length (((atP d s ({data:=#[]})))).shown.length) (((atP d s ({data:=#[]})))).node.flow.length)]:=by
     exact T.1
    have e6:((fmtE d s c):Int)=0:=by
     exact T.2
    exact .finE [.r [(2,X (Xc4 [(0,80),(1,8),(2,208)] (y2q ((atP d s ({data:=#[]}))) s o208c0 c (by assumption) (by omega)) X0))]] [] (fun((z0,z1):(List EOp)×Int)=>(.tup [VL 19 eopT z0,VI z1],[])) _ _ (pr e5 e6)
end Go.Ch
end
section
namespace Go.Ch
open Go Go.Ab
def ascE(s:ByteArray)(l:List Attr)(i:Nat):Elem:=⟨(byt s i:Int),0,l⟩
def ascL(s:ByteArray)(l:List Attr)(n:Nat):List Elem:=(List.range n).map (ascE s l)
theorem y4y(s:ByteArray)(l:List Attr)(n:Nat):ascL s l (n+1)=ascL s l n++[⟨(byt s n:Int),0,l⟩]:=by
 unfold ascL;rw[zG,qX];rfl
theorem z5l(s:ByteArray)(n:Nat):(s.extract n s.size).size=s.size-n:=by simp[zV]
theorem y8h{s:ByteArray}{n:Nat}(h:n<s.size):byt (s.extract n s.size) 0=byt s n:=by
 unfold byt
 have h1:0< (s.extract n s.size).size:=by rw[z5l];omega
 rw[getElem?_pos s n h,getElem?_pos (s.extract n s.size) 0 h1]
 simp[ByteArray.getElem_extract]
theorem y8i{s:ByteArray}{n:Nat}:(s.extract n s.size).extract 1 (s.extract n s.size).size=s.extract (n+1) s.size:=by
 rw[z5l]
 apply ByteArray.ext
 simp only[ByteArray.data_extract,Array.extract_extract]
 congr 1
 omega
theorem y4z(s:ByteArray):s.extract 0 s.size=s:=by simp
def AscN(s:ByteArray):Prop:=∀i,i<s.size->(32<=byt s i/\byt s i<127)\/byt s i=10
def ascC(s:ByteArray):List Int:=(List.range s.size).map fun i=>(byt s i:Int)
theorem y6q(s:ByteArray)(l:List Attr):ascL s l s.size=(ascC s).map (mkE l):=by
 unfold ascL ascC;rw[jb];rfl
def ascK(s:ByteArray):Bool:=(List.range s.size).all fun i=>(decide (32<=byt s i)&&decide (byt s i<127))||byt s i==10
theorem z9Z{s:ByteArray}(h:ascK s=true):AscN s:=by
 intro i hi
 have:=qQ.1 h i (zL.2 hi)
 simp only[qF,qm,decide_eq_true_eq,beq_iff_eq] at this
 exact this
theorem y4A:AscN {data:=#[]}:=z9Z (by decide+kernel)
def shwB(f:List Elem)(i:Nat):Bool:=
 (bif hasA (f.getD i default).attrs cutB then false else !(seq (getA (f.getD i default).attrs hidB 0) onB))|| (decide ((i:Int)=(f.length:Int)- 1)&&((f.getD i default).char==10))
def shwR(f:List Elem)(i:Nat):List Int:=((List.range i).filter (shwB f)).map fun i:Nat=>(i:Int)
theorem z4e(f:List Elem)(i:Nat):shwR f (i+1)=shwR f i++(if shwB f i=true then[(i:Int)] else[]):=by
 unfold shwR
 rw[zG,zf,qX]
 congr 1
 by_cases h:shwB f i=true
 ·rw[if_pos h];simp[h]
 ·rw[if_neg h];simp at h;simp[h]
theorem z5m(f:List Elem)(i:Nat):(shwR f i).length<=i:=by
 unfold shwR;rw[qk];exact qD (zF ..) (by simp)
def nodeF(d:Doc)(k:Int):Node:=if findD d.nodes k 0<0 then zeroN else d.nodes.getD (findD d.nodes k 0).toNat default
def nodeH(d:Doc)(k:Int):Bool:=decide (0<=findD d.nodes k 0)
theorem z90{d:Doc}{k:Int}{i:Nat}(h:findD d.nodes k 0=(i:Int)):nodeF d k=d.nodes.getD i default/\nodeH d k=true:=by
 unfold nodeF nodeH;rw[h,if_neg (by omega),decide_eq_true (by omega)];exact⟨rfl,rfl⟩
theorem y8j{d:Doc}{k:Int}(h:findD d.nodes k 0= -1):nodeF d k=zeroN/\nodeH d k=false:=by
 unfold nodeF nodeH;rw[h,if_pos (by omega),decide_eq_false (by omega)];exact⟨rfl,rfl⟩
def lastC(n:Node):Int:=if 0<n.draw.length then(n.draw.getD (n.draw.length- 1) default).clock else 0
def pickK(n:Node)(ks:List Int):List Int:=(ks.filter fun x=>n.kind==x).map fun _=>n.id
def pickL(l:List Node)(ks:List Int):List Int:=l.flatMap fun n=>pickK n ks
def pickP(d:Doc)(k:Int)(ks:List Int):Int:=if(pickL d.nodes ks).length=0 then 0 else(pickL d.nodes ks).getD (z0c k 0 (((pickL d.nodes ks).length:Int)- 1)).toNat default
theorem z86(n:Node)(ks:List Int):(pickK n ks).length<=ks.length:=by
 unfold pickK;rw[qk];exact zF ..
theorem y4B(l:List Node)(ks:List Int):(pickL l ks).length<=l.length*ks.length:=by
 induction l with
 |nil=>simp[pickL]
 |cons n l ih=>
  have:=z86 n ks
  have e:pickL (n::l) ks=pickK n ks++pickL l ks:=rfl
  rw[e,qf,qi,zl,Nat.one_mul];omega
theorem z6V{n:Node}{ks:List Int}{j:Nat}(h:j<ks.length):pickK n (ks.take (j+1))=pickK n (ks.take j)++(if n.kind=ks.getD j default then[n.id] else[]):=by
 have e:ks.getD j default=ks[j]:=by rw[qc,qa h];rfl
 unfold pickK
 rw[qr h,zf,qX,e]
 congr 1
 by_cases q:n.kind=ks[j]
 ·rw[if_pos q];simp[q]
 ·rw[if_neg q];simp[q]
theorem y2s{l:List Node}{ks:List Int}{i:Nat}(h:i<l.length):pickL (l.take (i+1)) ks=pickL (l.take i) ks++pickK (l.getD i default) ks:=by
 have e:l.getD i default=l[i]:=by rw[qc,qa h];rfl
 unfold pickL
 rw[qr h,List.flatMap_append,e];simp
def cmdI(d:Doc)(b:Int):Int:=pickP d (IntKind.i64.wrap (b.tdiv 7)) [1,3,4,12]
def cmdM(d:Doc)(b:Int):Int:=max 0 (((shwR (nodeF d (cmdI d b)).flow (nodeF d (cmdI d b)).flow.length).length:Int)- 1)
def cmdF(d:Doc)(b c:Int):Int:=z0c (IntKind.i64.wrap (c.tdiv 5)) 0 (cmdM d b)
def cmdT(d:Doc)(b c:Int):Int:=z0c (IntKind.i64.wrap (c.tdiv 11)) (cmdF d b c) (min (cmdM d b) (cmdF d b c+4))
abbrev txt5:List ByteArray:=[{data:=#[120]},{data:=#[121,122]},{data:=#[10]},{data:=#[119,32,118]},{data:=#[98]}]
theorem z5n{α:Type}[Inhabited α]{P:α->Prop}{l:List α}(h:∀x∈l,P x)(h0:P default)(k:Nat):P (l.getD k default):=by
 by_cases q:k<l.length
 ·exact h _ (z0h q)
 ·rw[qc,zO (by omega)];exact h0
theorem z4f(k:Nat):AscN (txt5.getD k default):=by
 refine z5n (P:=AscN) (fun t ht=>z9Z ?_) (fun i hi=>absurd hi (Nat.not_lt_zero _)) k
 simp only[txt5,qj,qS,or_false] at ht
 rcases ht with rfl|rfl|rfl|rfl|rfl<;>decide+kernel
theorem z7R(k:Nat):(txt5.getD k default).size<=20000:=by
 refine z5n (P:=fun t:ByteArray=>t.size<=20000) (fun t ht=> ?_) (by decide) k
 simp only[txt5,qj,qS,or_false] at ht
 rcases ht with rfl|rfl|rfl|rfl|rfl<;>decide
theorem asc_t:AscN {data:=#[116]}:=z9Z (by decide+kernel)
theorem y1y(k:Nat): -1000000<=([1,2,-1]:List Int).getD k default/\([1,2,-1]:List Int).getD k default<=2147483647:=by
 refine z5n (P:=fun x:Int=> -1000000<=x/\x<=2147483647) (fun t ht=> ?_) (by decide) k
 simp only[qj,qS,or_false] at ht
 rcases ht with rfl|rfl|rfl<;>decide
abbrev seqA:List Attr:=[{name:={data:=#[107,105,110,100]},val:={data:=#[115,101,113]}}]
theorem y4C:chkA false seqA 0=0:=by decide+kernel
theorem z87{d:Doc}(h:DocL d)(k:Int):(nodeF d k).flow.length<=1048576:=by
 unfold nodeF;split
 ·simp[zeroN]
 ·by_cases q:(findD d.nodes k 0).toNat<d.nodes.length
  ·exact(h.all _ (z0h q)).fl2
  ·rw[qc,zO (by omega)];simp[default,instInhabitedNode]
theorem y4D{d:Doc}(h:DocL d)(k:Int):(nodeF d k).draw.length<=1048576:=by
 unfold nodeF;split
 ·simp[zeroN]
 ·by_cases q:(findD d.nodes k 0).toNat<d.nodes.length
  ·exact(h.all _ (z0h q)).dr1
  ·rw[qc,zO (by omega)];simp[default,instInhabitedNode]
theorem z91{d:Doc}(h:DocL d)(b:Int):0<=cmdM d b/\cmdM d b<=1048576:=by
 have h1:=z87 h (cmdI d b)
 have h2:=z5m (nodeF d (cmdI d b)).flow (nodeF d (cmdI d b)).flow.length
 unfold cmdM;omega
theorem y4E{d:Doc}(h:DocL d)(b c:Int):0<=cmdF d b c/\cmdF d b c<=cmdM d b:=z0m _ (z91 h b).1
abbrev cmdS(d:Doc)(b c:Int):Sel:={nd:=cmdI d b,fr:=cmdF d b c,tq:=cmdT d b c}
structure CmdB(d:Doc)(site b c:Int):Prop where
 ty:∀t au:ByteArray,AscN t->t.size<=20000->atE d (cmdS d b c) au=0->TypB d (cmdS d b c) (ascC t) au
 fm:atE d (cmdS d b c) {data:=#[]}=0->PlB (atP d (cmdS d b c) {data:=#[]})
 pa:atE d (cmdS d b c) {data:=#[]}=0->PlB (atP d (cmdS d b c) {data:=#[]})/\0<=cmdF d b c/\cmdF d b c<=cmdT d b c/\cmdT d b c<=1000000000
 ob:∀n:Node,atE d (cmdS d b c) {data:=#[]}=0->nextE d site=0->ObjB d (cmdS d b c) n site {data:=#[]}
 lc: -1<=lastC (nodeF d (pickP d b [10,8]))/\lastC (nodeF d (pickP d b [10,8]))<=1000000000000
def opA(k:Int)(l:List Attr):EOp:=⟨1,k,⟨0,0,[],[],⟨0,0,[],[]⟩,[]⟩,l,[],⟨[],[],[],[],[]⟩,[]⟩
def opD(k:Int)(l:List DOp):EOp:=⟨4,k,⟨0,0,[],[],⟨0,0,[],[]⟩,[]⟩,[],[],⟨[],[],[],[],[]⟩,l⟩
def cmdP(d:Doc)(site a b c:Int):List EOp:=
 if z0c a 0 13=0\/z0c a 0 13=1\/z0c a 0 13=2 then typeO d (cmdS d b c) (ascC (txt5.getD (Int.toNat (z0c b 0 4)) default)) {data:=#[]}
 else if z0c a 0 13=3 then typeO d (cmdS d b c) (ascC {data:=#[]}) {data:=#[]}
 else if z0c a 0 13=4 then typeO d (cmdS d b c) (ascC {data:=#[116]}) {data:=#[97,110,110]}
 else if z0c a 0 13=5 then fmtO d (cmdS d b c) [{name:=[{data:=#[98,111,108,100]},{data:=#[115,105,122,101]},{data:=#[109,97,114,107,46,109]}].getD (Int.toNat (z0c b 0 2)) default,val:=[{data:=#[]},{data:=#[111,110]},{data:=#[52,48]}].getD (Int.toNat (z0c (IntKind.i64.wrap (a.tdiv 14)) 0 2)) default}]
 else if z0c a 0 13=6 then parO d (cmdS d b c) [{name:=[{data:=#[104,101,97,100]},{data:=#[108,105,115,116]},{data:=#[97,108,105,103,110]}].getD (Int.toNat (z0c b 0 2)) default,val:=[{data:=#[49]},{data:=#[50]},{data:=#[]}].getD (Int.toNat (z0c (IntKind.i64.wrap (a.tdiv 14)) 0 2)) default}]
 else if z0c a 0 13=7 then objO d (cmdS d b c) (tblN (z0c b 1 3) (z0c (IntKind.i64.wrap (a.tdiv 14)) 1 3)) site {data:=#[]}
 else if z0c a 0 13=8 then objO d (cmdS d b c) (notN (b.tmod 2==0)) site {data:=#[]}
 else if z0c a 0 13=9 then objO d (cmdS d b c) (fldN seqA) site {data:=#[]}
 else if z0c a 0 13=10 then rshO d (pickP d b [2,6]) (z0c c 0 2) ([1,2,-1].getD (Int.toNat (z0c (IntKind.i64.wrap (a.tdiv 14)) 0 2)) default)
 else if z0c a 0 13=11 then cshO d (pickP d b [2,6]) (z0c c 0 2) ([1,2,-1].getD (Int.toNat (z0c (IntKind.i64.wrap (a.tdiv 14)) 0 2)) default)
 else if z0c a 0 13=12 then celO d (pickP d b [2]) (z0c c 0 2) (z0c (IntKind.i64.wrap (a.tdiv 14)) 0 2) site
 else if nodeH d (pickP d b [10,8])=true then
  [opD (nodeF d (pickP d b [10,8])).id [{clock:=1+lastC (nodeF d (pickP d b [10,8])),site:=site,kind:=0,itm:=z0c c 1 3,prt:=z0c (IntKind.i64.wrap (a.tdiv 14)) (-1) 3,plc:={data:=#[98]},nm:={data:=#[]},vl:={data:=#[]}}]]
 else[opA 1 [{name:={data:=#[116,105,116,108,101]},val:=[{data:=#[]},{data:=#[112]},{data:=#[113]}].getD (Int.toNat (z0c c 0 2)) default}]]
end Go.Ch
end
section
set_option maxRecDepth 100000
set_option maxHeartbeats 4000000
open Go Go.Proofs Go.Ab
namespace Go.Ch
theorem z0x(x lo hi:Int)(hl: -1000000000000<=lo/\lo<=hi/\hi<=1000000000000):FC Tryz.prog 10 [VI x,VI lo,VI hi] (app emp []) (VI (z0c x lo hi)) (app emp []):=by
 refine .go Tryz.f10 ?_
 have e1:((z0c x lo hi):Int)=(lo+(((x.tmod ((hi-lo)+1))+((hi-lo)+1)).tmod ((hi-lo)+1))):=by
  rfl
 exact .finE [.r [],.r [(2,X (Xn (hi-lo))),(3,X (Xn ((hi-lo)+1)))],.r [(3,X (Xc ((((hi-lo)+1):Int)≠0))),(5,X (Xn ((x.tmod ((hi-lo)+1))+((hi-lo)+1))) (by have h1:=y3Y x (n:=hi-lo+1) (by omega);omega)),(7,X (Xc ((((hi-lo)+1):Int)≠0))),(8,X (Xn (lo+(((x.tmod ((hi-lo)+1))+((hi-lo)+1)).tmod ((hi-lo)+1)))) (by have h1:=z0m x (lo:=lo) (hi:=hi) (by omega);unfold z0c at h1;omega))]] [] (fun z0:Int=>(VI z0,[])) _ _ e1
theorem y8k(l:List Attr)(n:ByteArray):FC Tryz.prog 18 [VL 2 attrT l,VS n] (app emp []) (VS (getA l n 0)) (app emp []):=by
 refine .go Tryz.f18 ?_
 refine .len 0 (fun hl0=> ?_)
 refine .loop (α:=Nat) [.r [],.r [(1,X (Xl attrT l))]] 32 (fun i=>([(0,VL 2 attrT l),(1,VS n),(7,VI (l.length:Int)),(8,VI (i:Int))],[])) (fun i=>i<=l.length/\getA l n 0=getA l n i) (fun i=>l.length-i) (0:Nat) ?_ ?_
 ·
  exact⟨by omega,rfl⟩
 rintro i I2 ih2
 try dsimp only at I2
 refine .bp [.r []] (decide ((i:Int)< (l.length:Int))) (fun h2=> ?_) (fun h2=> ?_)
 ·
  refine .bp [.r [],.r [(2,X (Xi attrT l (i:Int)))]] (seq (((l.getD i default)).name) n) (fun h4=> ?_) (fun h4=> ?_)
  ·
   have e1:((getA l n 0):ByteArray)=((l.getD i default)).val:=by
    rw[I2.2,getA,if_pos (by omega),if_pos (z0u.1 h4)]
   exact .finE [.r [(2,X (Xi attrT l (i:Int)))]] [] (fun z0:ByteArray=>(VS z0,[])) _ _ e1
  ·
   refine .back [.r [(0,X (Xn ((i:Int)+1)))]] [] (ih2 ((i+1):Nat) ?_ ?_)
   ·
    refine⟨by omega,?_⟩;rw[I2.2,getA,if_pos (by omega),if_neg (z1a.1 h4)]
   ·
    ((try dsimp only);omega)
 ·
  have e2:((getA l n 0):ByteArray)={data:=#[]}:=by
   rw[I2.2,getA,if_neg (by omega)]
  exact .finE [.r []] [] (fun z0:ByteArray=>(VS z0,[])) _ _ e2
theorem y7e(l:List Attr)(n:ByteArray):FC Tryz.prog 39 [VL 2 attrT l,VS n] (app emp []) (VB (hasA l n)) (app emp []):=by
 refine .go Tryz.f39 ?_
 refine .len 0 (fun hl0=> ?_)
 refine .loop (α:=Nat) [.r [],.r [(1,X (Xl attrT l))]] 32 (fun i=>([(0,VL 2 attrT l),(1,VS n),(7,VI (l.length:Int)),(8,VI (i:Int))],[])) (fun i=>i<=l.length/\hasA l n=hasA (l.drop i) n) (fun i=>l.length-i) (0:Nat) ?_ ?_
 ·
  exact⟨by omega,rfl⟩
 rintro i I2 ih2
 try dsimp only at I2
 refine .bp [.r []] (decide ((i:Int)< (l.length:Int))) (fun h2=> ?_) (fun h2=> ?_)
 ·
  have hs:=y72 (l:=l) (i:=i) (by omega) n
  refine .bp [.r [],.r [(2,X (Xi attrT l (i:Int)))]] (seq (((l.getD i default)).name) n) (fun h4=> ?_) (fun h4=> ?_)
  ·
   have e1:((hasA l n):Bool)=true:=by
    first| (rw[I2.2,hs,h4,Bool.true_or])| (rw[I2.2,qP (by omega)];rfl)
   exact .finE [.r []] [] (fun z0:Bool=>(VB z0,[])) _ _ e1
  ·
   refine .back [.r [(0,X (Xn ((i:Int)+1)))]] [] (ih2 ((i+1):Nat) ?_ ?_)
   ·
    refine⟨by omega,?_⟩
    rw[I2.2,hs,h4,Bool.false_or]
   ·
    ((try dsimp only);omega)
 ·
  have e2:((hasA l n):Bool)=false:=by
   first| (rw[I2.2,hs,h4,Bool.true_or])| (rw[I2.2,qP (by omega)];rfl)
  exact .finE [.r []] [] (fun z0:Bool=>(VB z0,[])) _ _ e2
theorem z88(f:List Elem)(hn:f.length<=1048576):FC Tryz.prog 15 [VL 3 elemT f,VI 0] (app emp []) (VL 1 intT (shwR f f.length)) (app emp []):=by
 refine .go Tryz.f15 ?_
 refine .len 0 (fun hl0=> ?_)
 refine .loop (α:=Nat×(List Int)) [.r [],.r [],.r [(1,X (Xl elemT f))],.le (.nR 5 1)] 41 (fun(i,o)=>([(0,VL 3 elemT f),(1,VI 0),(5,.row 40 o.length),(10,VI (f.length:Int)),(11,VI (i:Int))],[(40,OR 1 intT o)])) (fun(i,o)=>i<=f.length/\o=shwR f i) (fun(i,o)=>f.length-i) (0,[]) ?_ ?_
 ·
  exact⟨by omega,rfl⟩
 rintro⟨i,o⟩ I3 ih3
 try dsimp only at I3
 have ol:o.length<=i:=by rw[I3.2];exact z5m f i
 refine .bp [.r []] (decide ((i:Int)< (f.length:Int))) (fun h3=> ?_) (fun h3=> ?_)
 ·
  refine .bp [.r [],.r [(2,X (Xi elemT f (i:Int)))],.r [(1,X (Xc0 (y8k (((f.getD i default)).attrs) ({data:=#[104,105,100,100,101,110]})) X0))],.r [(4,Xv 1 true (Xc0 (y7e (((f.getD i default)).attrs) ({data:=#[99,117,116]})) X0)),(5,X (Xk true)),(8,Xv 1 (!(true&&(hasA (((f.getD i default)).attrs) ({data:=#[99,117,116]})))) X0),(9,Xv 1 (!(true&&(hasA (((f.getD i default)).attrs) ({data:=#[99,117,116]})))) X0),(11,Xv 1 ((!(true&&(hasA (((f.getD i default)).attrs) ({data:=#[99,117,116]}))))&&false) (Xc0 (y7e (((f.getD i default)).attrs) ({data:=#[97,100,100]})) X0)),(12,Xka (!(true&&(hasA (((f.getD i default)).attrs) ({data:=#[99,117,116]})))) false),(13,X (Xk' (true&&(hasA (((f.getD i default)).attrs) ({data:=#[99,117,116]})))))]] ((true&&(hasA (((f.getD i default)).attrs) ({data:=#[99,117,116]})))|| (false&&(hasA (((f.getD i default)).attrs) ({data:=#[97,100,100]})))) (fun h7=> ?_) (fun h7=> ?_)
  ·
   refine .bp [.r [],.r [(4,Xv 1 (!false) (Xl elemT f)),(5,Xv 1 (!false) (Xn ((f.length:Int)- 1))),(6,Xv 2 (!false) X0),(7,Xv 1 (!false) X0),(10,Xv 2 ((!false)&&((i:Int)==((f.length:Int)- 1))) (Xi elemT f (i:Int))),(11,Xv 1 ((!false)&&((i:Int)==((f.length:Int)- 1))) X0),(12,Xv 1 ((!false)&&((i:Int)==((f.length:Int)- 1))) X0),(13,Xv 1 ((!false)&&((i:Int)==((f.length:Int)- 1))) X0),(14,Xka (!false) ((i:Int)==((f.length:Int)- 1))),(15,X (Xk' false))]] (false|| (((i:Int)==((f.length:Int)- 1))&&((((f.getD i default)).char)==10))) (fun h9=> ?_) (fun h9=> ?_)
   ·
    refine .back [.r [(3,X (rowC intT [(i:Int)] (Xap 1 intT 40 o [(i:Int)])))],.r [(0,X (Xn ((i:Int)+1)))]] [(40,40)] (ih3 ((i+1),(o++[(i:Int)])) ?_ ?_)
    ·
     refine⟨by omega,?_⟩
     rw[I3.2,z4e]
     simp[-List.getD_eq_getElem?_getD] at h7 h9
     unfold shwB cutB hidB onB
     simp_all[-List.getD_eq_getElem?_getD]
     all_goals omega
    ·
     ((try dsimp only);omega)
   ·
    refine .back [.r [(0,X (Xn ((i:Int)+1)))]] [(40,40)] (ih3 ((i+1),o) ?_ ?_)
    ·
     refine⟨by omega,?_⟩
     rw[I3.2,z4e]
     simp[-List.getD_eq_getElem?_getD] at h7 h9
     unfold shwB cutB hidB onB
     simp_all[-List.getD_eq_getElem?_getD]
     all_goals omega
    ·
     ((try dsimp only);omega)
  ·
   refine .bp [.r [(4,Xv 1 (!(!(seq (getA (((f.getD i default)).attrs) ({data:=#[104,105,100,100,101,110]}) 0) ({data:=#[111,110]})))) (Xl elemT f)),(5,Xv 1 (!(!(seq (getA (((f.getD i default)).attrs) ({data:=#[104,105,100,100,101,110]}) 0) ({data:=#[111,110]})))) (Xn ((f.length:Int)- 1))),(6,Xv 2 (!(!(seq (getA (((f.getD i default)).attrs) ({data:=#[104,105,100,100,101,110]}) 0) ({data:=#[111,110]})))) X0),(7,Xv 1 (!(!(seq (getA (((f.getD i default)).attrs) ({data:=#[104,105,100,100,101,110]}) 0) ({data:=#[111,110]})))) X0),(10,Xv 2 ((!(!(seq (getA (((f.getD i default)).attrs) ({data:=#[104,105,100,100,101,110]}) 0) ({data:=#[111,110]}))))&&((i:Int)==((f.length:Int)- 1))) (Xi elemT f (i:Int))),(11,Xv 1 ((!(!(seq (getA (((f.getD i default)).attrs) ({data:=#[104,105,100,100,101,110]}) 0) ({data:=#[111,110]}))))&&((i:Int)==((f.length:Int)- 1))) X0),(12,Xv 1 ((!(!(seq (getA (((f.getD i default)).attrs) ({data:=#[104,105,100,100,101,110]}) 0) ({data:=#[111,110]}))))&&((i:Int)==((f.length:Int)- 1))) X0),(13,Xv 1 ((!(!(seq (getA (((f.getD i default)).attrs) ({data:=#[104,105,100,100,101,110]}) 0) ({data:=#[111,110]}))))&&((i:Int)==((f.length:Int)- 1))) X0),(14,Xka (!(!(seq (getA (((f.getD i default)).attrs) ({data:=#[104,105,100,100,101,110]}) 0) ({data:=#[111,110]})))) ((i:Int)==((f.length:Int)- 1))),(15,X (Xk' (!(seq (getA (((f.getD i default)).attrs) ({data:=#[104,105,100,100,101,110]}) 0) ({data:=#[111,110]})))))]] (!(seq (getA (((f.getD i default)).attrs) ({data:=#[104,105,100,100,101,110]}) 0) ({data:=#[111,110]}))|| (((i:Int)==((f.length:Int)- 1))&&((((f.getD i default)).char)==10))) (fun h9=> ?_) (fun h9=> ?_)
   ·
    refine .back [.r [(3,X (rowC intT [(i:Int)] (Xap 1 intT 40 o [(i:Int)])))],.r [(0,X (Xn ((i:Int)+1)))]] [(40,40)] (ih3 ((i+1),(o++[(i:Int)])) ?_ ?_)
    ·
     refine⟨by omega,?_⟩
     rw[I3.2,z4e]
     simp[-List.getD_eq_getElem?_getD] at h7 h9
     unfold shwB cutB hidB onB
     simp_all[-List.getD_eq_getElem?_getD]
     all_goals omega
    ·
     ((try dsimp only);omega)
   ·
    refine .back [.r [(0,X (Xn ((i:Int)+1)))]] [(40,40)] (ih3 ((i+1),o) ?_ ?_)
    ·
     refine⟨by omega,?_⟩
     rw[I3.2,z4e]
     simp[-List.getD_eq_getElem?_getD] at h7 h9
     unfold shwB cutB hidB onB
     simp_all[-List.getD_eq_getElem?_getD]
     all_goals omega
    ·
     ((try dsimp only);omega)
 ·
  have e1:((shwR f f.length):List Int)=o:=by
   rw[I3.2,show i=f.length by omega]
  exact .finE [.r [],.le (.fr 4 [(o.length:Nat)=(List.map intT o).length] ⟨lm,trivial⟩)] [] (fun z0:List Int=>(VL 1 intT z0,[])) _ _ e1
theorem z92(d:Doc)(k:Int)(hb:DocL d):FC Tryz.prog 8 [.t (docT d),VI k] (app emp []) (.tup [.t (nodeT (nodeF d k)),VB (nodeH d k)]) (app emp []):=by
 refine .go Tryz.f8 ?_
 have hl:=hb.len
 refine .loop (α:=Nat) [.r [],.r [(2,X (Xl nodeT d.nodes))]] 56 (fun i=>([(1,VI k),(4,.ptr 8 0),(9,VL 9 nodeT d.nodes),(10,VI (d.nodes.length:Int)),(11,VI (i:Int))],[(8,.box [VI 0,VI 0,VN,VN,VI 0,VI 0,VN,VN,VN])])) (fun i=>i<=d.nodes.length/\findD d.nodes k 0=findD d.nodes k i) (fun i=>d.nodes.length-i) (0:Nat) ?_ ?_
 ·
  exact⟨by omega,rfl⟩
 rintro i I2 ih2
 try dsimp only at I2
 refine .bp [.r []] (decide ((i:Int)< (d.nodes.length:Int))) (fun h2=> ?_) (fun h2=> ?_)
 ·
  have hx:=hb.all _ (z2v (l:=d.nodes) (i:=i) (by omega))
  refine .bp [.r [(0,X (Xi nodeT d.nodes (i:Int)))],.r []] ((((d.nodes.getD i default)).id)==k) (fun h4=> ?_) (fun h4=> ?_)
  ·
   have T:=z90 (I2.2.trans (by rw[findD,if_pos (by omega),if_pos (by omega)]))
   have e1:((nodeF d k):Node)=(((d.nodes.getD i default))):=by
    exact T.1
   have e2:((nodeH d k):Bool)=true:=by
    exact T.2
   exact .finVE [.r [(1,X (Xc1 136 (z7M ((d.nodes.getD i default)) (by assumption)) X0))]] [] [] (fun((z0,z1):Node×Bool)=>(.tup [.t (nodeT z0),VB z1],[])) _ _ (pr e1 e2)
  ·
   refine .back [.r [(0,X (Xn ((i:Int)+1)))]] [(8,8)] (ih2 ((i+1):Nat) ?_ ?_)
   ·
    exact⟨by omega,by rw[I2.2,findD,if_pos (by omega),if_neg (by omega)]⟩
   ·
    ((try dsimp only);omega)
 ·
  have T:=y8j (I2.2.trans (by rw[findD,if_neg (by omega)]))
  have e3:((nodeF d k):Node)=({id:=0,kind:=0,attrs:=[],flow:=[],grid:=({rows:=0,cols:=0,cells:=[],merges:=[]}:Grid),draw:=[]}:Node):=by
   exact T.1
  have e4:((nodeH d k):Bool)=false:=by
   exact T.2
  exact .finVE [.r [(0,X (Xf [(2,2),(3,3),(6,5),(7,4),(8,8)]))]] [] [] (fun((z0,z1):Node×Bool)=>(.tup [.t (nodeT z0),VB z1],[])) _ _ (pr e3 e4)
theorem y6r(n:Node)(hn:n.draw.length<=1048576):FC Tryz.prog 102 [.t (nodeT n)] (app emp []) (VI (lastC n)) (app emp []):=by
 refine .go Tryz.f102 ?_
 refine .bp [.r [],.r [(2,X (Xl dopT n.draw))],.r []] (decide ((n.draw.length:Int)> 0)) (fun h2=> ?_) (fun h2=> ?_)
 ·
  have e1:((lastC n):Int)=((n.draw.getD (n.draw.length- 1) default)).clock:=by
   unfold lastC;rw[if_pos (by omega)]
  exact .finE [.r [(3,X (Xn ((n.draw.length:Int)- 1))),(4,X (Xi' dopT n.draw ((n.draw.length:Int)- 1) (n.draw.length- 1)))]] [] (fun z0:Int=>(VI z0,[])) _ _ e1
 ·
  have e2:((lastC n):Int)=0:=by
   unfold lastC;rw[if_neg (by omega)]
  exact .finE [.r []] [] (fun z0:Int=>(VI z0,[])) _ _ e2
theorem z6g(d:Doc)(k:Int)(ks:List Int)(hd:d.nodes.length<=1048576)(hk:ks.length<=16):FC Tryz.prog 93 [.t (docT d),VI k,VL 1 intT ks] (app emp []) (VI (pickP d k ks)) (app emp []):=by
 refine .go Tryz.f93 ?_
 refine .len 2 (fun hl2=> ?_)
 refine .loop (α:=Nat×(List Int)) [.r [],.r [],.r [(2,X (Xl nodeT d.nodes))],.le (.nR 7 1)] 57 (fun(i,o)=>([(1,VI k),(2,VL 1 intT ks),(7,.row 56 o.length),(13,VL 9 nodeT d.nodes),(14,VI (d.nodes.length:Int)),(15,VI (i:Int))],[(56,OR 1 intT o)])) (fun(i,o)=>i<=d.nodes.length/\o=pickL (d.nodes.take i) ks) (fun(i,o)=>d.nodes.length-i) (0,[]) ?_ ?_
 ·
  exact⟨by omega,rfl⟩
 rintro⟨i,o⟩ I3 ih3
 try dsimp only at I3
 have ol:=y4B (d.nodes.take i) ks
 rw[<-I3.2] at ol
 have ob:o.length<=1048576*16:=qD ol (Nat.mul_le_mul (by(rw[qO];omega)) hk)
 refine .bp [.r []] (decide ((i:Int)< (d.nodes.length:Int))) (fun h3=> ?_) (fun h3=> ?_)
 ·
  refine .loop (α:=Nat×(List Int)) [.r [(0,X (Xi nodeT d.nodes (i:Int)))],.r [(1,X (Xl intT ks))]] 121 (fun(j,q)=>([(1,VI k),(2,VL 1 intT ks),(7,.row 56 q.length),(9,.ptr 81 0),(13,VL 9 nodeT d.nodes),(14,VI (d.nodes.length:Int)),(15,VI (i:Int)),(19,VL 1 intT ks),(20,VI (ks.length:Int)),(21,VI (j:Int))],[(56,OR 1 intT q),(81,.box [VI (((d.nodes.getD i default)).id),VI (((d.nodes.getD i default)).kind),VL 2 attrT (((d.nodes.getD i default)).attrs),VL 3 elemT (((d.nodes.getD i default)).flow),VI ((((d.nodes.getD i default)).grid).rows),VI ((((d.nodes.getD i default)).grid).cols),VL 5 cellT ((((d.nodes.getD i default)).grid).cells),VL 4 rectT ((((d.nodes.getD i default)).grid).merges),VL 8 dopT (((d.nodes.getD i default)).draw)])])) (fun(j,q)=>j<=ks.length/\q=pickL (d.nodes.take i) ks++pickK (d.nodes.getD i default) (ks.take j)) (fun(j,q)=>ks.length-j) (0,o) ?_ ?_
  ·
   exact⟨by omega,by rw[I3.2];simp[pickK]⟩
  rintro⟨j,q⟩ I6 ih6
  try dsimp only at I6
  have ql:=z86 (d.nodes.getD i default) (ks.take j)
  have qo:=congrArg List.length I6.2
  rw[qf,<-I3.2] at qo
  rw[qO] at ql
  refine .bp [.r []] (decide ((j:Int)< (ks.length:Int))) (fun h6=> ?_) (fun h6=> ?_)
  ·
   refine .bp [.r [(0,X (Xi intT ks (j:Int)))],.r []] ((((d.nodes.getD i default)).kind)==(ks.getD j default)) (fun h8=> ?_) (fun h8=> ?_)
   ·
    refine .back [.r [(4,X (rowC intT [((d.nodes.getD i default)).id] (Xap 1 intT 56 q [((d.nodes.getD i default)).id])))],.r [(0,X (Xn ((j:Int)+1)))]] [(56,56),(81,81)] (ih6 ((j+1),(q++[((d.nodes.getD i default)).id])) ?_ ?_)
    ·
     refine⟨by omega,?_⟩
     rw[I6.2,z6V (by omega)]
     first|rw[if_pos h8,qR]|rw[if_neg h8,qM]
    ·
     ((try dsimp only);omega)
   ·
    refine .back [.r [(0,X (Xn ((j:Int)+1)))]] [(56,56),(81,81)] (ih6 ((j+1),q) ?_ ?_)
    ·
     refine⟨by omega,?_⟩
     rw[I6.2,z6V (by omega)]
     first|rw[if_pos h8,qR]|rw[if_neg h8,qM]
    ·
     ((try dsimp only);omega)
  ·
   refine .back [.r [(0,X (Xn ((i:Int)+1)))]] [(56,56)] (ih3 ((i+1),q) ?_ ?_)
   ·
    refine⟨by omega,?_⟩
    rw[I6.2,show ks.take j=ks from qn (by omega),y2s (by omega)]
   ·
    ((try dsimp only);omega)
 ·
  have ho:o=pickL d.nodes ks:=by rw[I3.2,qn (by omega)]
  refine .bp [.r []] ((o.length:Int)==0) (fun h12=> ?_) (fun h12=> ?_)
  ·
   have e1:((pickP d k ks):Int)=0:=by
    unfold pickP;rw[<-ho,if_pos (by omega)]
   exact .finE [.r []] [] (fun z0:Int=>(VI z0,[])) _ _ e1
  ·
   have hw:=z0m k (lo:=0) (hi:=(o.length:Int)- 1) (by omega)
   have e2:((pickP d k ks):Int)=(o.getD (Int.toNat (z0c k 0 ((o.length:Int)- 1))) default):=by
    unfold pickP;rw[<-ho,if_neg (by omega)]
   exact .finE [.r [(4,X (Xn ((o.length:Int)- 1))),(5,X (Xc0 (z0x k 0 ((o.length:Int)- 1) (by omega)) X0)),(6,X (Xp intT o (z0c k 0 ((o.length:Int)- 1)))),(7,X (Xe intT o (Int.toNat (z0c k 0 ((o.length:Int)- 1)))))]] [] (fun z0:Int=>(VI z0,[])) _ _ e2
theorem y4F(s:ByteArray)(h:0<s.size/\byt s 0<128):FC Tryz.prog 27 [VS s] (app emp []) (.tup [.t (.sc (.int .i32 (byt s 0:Int))),VI 1]) (app emp []):=by
 refine .go Tryz.f27 ?_
 have hz:seq s {data:=#[]}=false:=by rw[z2d,decide_eq_false (by omega)]
 have h2:=h.2
 unfold byt at h2
 refine .bp [.r [],.r [(4,Xv 1 (!(seq s ({data:=#[]}))) (Xb s 0)),(5,Xv 1 (!(seq s ({data:=#[]}))) X0),(6,X (Xk (!(seq s ({data:=#[]})))))]] (!(seq s ({data:=#[]}))&&decide (((((s[0]?).getD 0).toNat:Nat):Int)< 128)) (fun h1=> ?_) (fun h1=> ?_)
 ·
  have e1:((byt s 0:Int):Int)=((((s[0]?).getD 0).toNat:Nat):Int):=by
   rfl
  exact .finE [.r [(1,X (Xb s 0)),(2,X (Xcv IntKind.i32 ((((s[0]?).getD 0).toNat:Nat):Int)) (z7s (by omega)))]] [] (fun z0:Int=>(.tup [.t (.sc (.int .i32 z0)),VI 1],[])) _ _ e1
 ·
  exfalso
  rcases h1 with q|q;(rw[hz] at q;cases q);omega
theorem y4G(s:ByteArray)(l:List Attr)(hs:AscN s)(hl:chkA false l 0=0)(hn:s.size<=1000000000)(hk:l.length<=1000000000):FC Tryz.prog 30 [VS s,VL 2 attrT l] (app emp []) (.tup [.row 0 ((ascL s l s.size).length),VI 0]) (app emp [(0,OR 3 elemT (ascL s l s.size))]):=by
 refine .go Tryz.f30 ?_
 refine .len 1 (fun hl1=> ?_)
 refine .bp [.r [],.r [(1,X (Xc0 (z1Z l) X0))],.r []] ((chkA false l 0) !=0) (fun h2=> ?_) (fun h2=> ?_)
 ·
  exfalso
  omega
 ·
  refine .loop (α:=ByteArray×(List Elem)) [.r [],.le (.nR 7 3)] 65 (fun(u,o)=>([(0,VS u),(1,VL 2 attrT l),(7,.row 64 o.length)],[(64,OR 3 elemT o)])) (fun(u,o)=>o.length<=s.size/\u=s.extract o.length s.size/\o=ascL s l o.length) (fun(u,o)=>s.size-o.length) (s,[]) ?_ ?_
  ·
   exact⟨by simp,(y4z s).symm,rfl⟩
  rintro⟨u,o⟩ I5 ih5
  try dsimp only at I5
  have us:u.size=s.size-o.length:=by rw[I5.2.1,z5l]
  refine .bp [.r []] (!(seq u ({data:=#[]}))) (fun h5=> ?_) (fun h5=> ?_)
  ·
   rw[z2d,decide_eq_false_iff_not] at h5
   have hb:=hs o.length (by omega)
   have hu:byt u 0=byt s o.length:=by rw[I5.2.1,y8h (by omega)]
   have h0:0<u.size/\byt u 0<128:=⟨by omega,by omega⟩
   refine .bp [.r [(1,X (Xc0 (y4F u (by assumption)) X0))],.r [(4,Xv 1 ((byt u 0:Int)==65533) X0),(5,X (Xk ((byt u 0:Int)==65533)))]] (((byt u 0:Int)==65533)||false) (fun h7=> ?_) (fun h7=> ?_)
   ·
    exfalso
    rcases h7 with q|q
    ·omega
    ·cases q
   ·
    refine .bp [.r [(1,X (Xn (byt u 0:Int))),(2,X (Xc0 (z9N (byt u 0:Int)) X0))]] (!(decide (CharP (byt u 0:Int)))) (fun h9=> ?_) (fun h9=> ?_)
    ·
     exfalso
     unfold CharP at h9;omega
    ·
     refine .back [.r [(2,X (Xn (byt u 0:Int))),(4,X (Xan attrT 249 l)),(6,X (rowC attrT l X0)),(7,X (rowC elemT [({char:=(byt u 0:Int),ref:=0,attrs:=l}:Elem)] (Xap 3 elemT 64 o [({char:=(byt u 0:Int),ref:=0,attrs:=l}:Elem)])))],.r [(2,X (Xa (Xc ((0:Int)<=1)) (Xa (Xc ((1:Int)<=(u.size:Int))) (Xc (((u.size:Int):Int)<=(u.size:Int))))))]] [(64,64)] (ih5 ((u.extract ((1:Int)).toNat (((u.size:Int):Int)).toNat),(o++[({char:=(byt u 0:Int),ref:=0,attrs:=l}:Elem)])) ?_ ?_)
     ·
      simp only[qf,qi,zd]
      refine⟨by omega,?_,?_⟩
      ·show u.extract 1 u.size=_
       rw[I5.2.1];exact y8i
      ·rw[zB,y4y,<-I5.2.2,hu]
     ·
      simp only[qf,qi,zd];omega
  ·
   rw[z2d,decide_eq_true_eq] at h5
   have hfin:ascL s l s.size=o:=by rw[show s.size=o.length by omega];exact I5.2.2.symm
   have e1:((ascL s l s.size):List Elem)=o:=by
    rw[hfin]
   have e2:((ascL s l s.size).length:Nat)=o.length:=by
    rw[hfin]
   exact .finE [.r []] [(64,0)] (fun((z0,z1):(List Elem)×Nat)=>(.tup [.row 0 z1,VI 0],[(0,OR 3 elemT z0)])) _ _ (pr e1 e2)
theorem ofAsc(t:ByteArray)(h:AscN t)(hn:t.size<=1000000):OfFC t (ascC t):=fun l h1 h2=>by
 have h:=y4G t l h h1 (by omega) (by omega)
 rw[y6q] at h
 exact h
theorem y6s(d:Doc)(s:Sel)(au:ByteArray)(hb:DocL d)(hx:atE d s au=0->TypB d s (ascC {data:=#[]}) au):FC Tryz.prog 94 [.t (docT d),.t (selT s),VS au] (app emp []) (.tup [VL 19 eopT (typeO d s (ascC {data:=#[]}) au),.t (selT (typeS d s (ascC {data:=#[]}) au)),VI (atE d s au)]) (app emp []):=by
 refine .go Tryz.f94 ?_
 have hof:=ofAsc {data:=#[]} y4A (by decide)
 have ht:({data:=#[]}:ByteArray).size<=20000:=by decide
 have e1:((typeS d s (ascC {data:=#[]}) au):Sel)=((typeS d s (ascC {data:=#[]}) au)):=by
  (first|omega|with_reducible exact fun h=>h| (intro hq;rw[hq];done)| (intro hq;rw[hq];rfl)| (simp only[qk];done)| (simp only[qk];omega)| (simp;omega)| (simp;done))
 exact .finVE [.r [],.r [(3,X (Xc1 64 (z9Y d s ({data:=#[]}) (ascC {data:=#[]}) au (by assumption) (by assumption) (by assumption) (by assumption)) X0))]] [] [] (fun z0:Sel=>(.tup [VL 19 eopT (typeO d s (ascC {data:=#[]}) au),.t (selT z0),VI (atE d s au)],[])) _ _ e1
theorem z4g(d:Doc)(s:Sel)(t au:ByteArray)(hb:DocL d)(ht:AscN t)(hn:t.size<=20000)(hx:atE d s au=0->TypB d s (ascC t) au):FC Tryz.prog 12 [.t (docT d),.t (selT s),VS t,VS au] (app emp []) (.tup [VL 19 eopT (typeO d s (ascC t) au),.t (selT (typeS d s (ascC t) au)),VI (atE d s au)]) (app emp []):=
 z9Y d s t (ascC t) au (ofAsc t ht (by omega)) hb hn hx
theorem y2t(d:Doc)(site a b c:Int)(hb:DocL d)(hx:CmdB d site b c):FC Tryz.prog 54 [.t (docT d),VI site,VI a,VI b,VI c] (app emp []) (VL 19 eopT (cmdP d site a b c)) (app emp []):=by
 refine .go Tryz.f54 ?_
 have hl:=hb.len
 have hfl:=z87 hb (cmdI d b)
 have hdr:=y4D hb (pickP d b [10,8])
 have hsr:=z5m (nodeF d (cmdI d b)).flow (nodeF d (cmdI d b)).flow.length
 have hmo:=z91 hb b
 have hfr:=y4E hb b c
 refine .bp [.r [],.r [(2,X (Xc ((7:Int)≠0))),(4,X (Xc0 (z6g d (IntKind.i64.wrap (b.tdiv 7)) [1,3,4,12] (by omega) (by first|omega|simp)) (rowC intT [1,3,4,12] X0)))],.le (.eq 11 (VI (pickP d (IntKind.i64.wrap (b.tdiv 7)) [1,3,4,12])) (VI (cmdI d b)) (.of_eq rfl)),.r [(2,X (Xc1 80 (z92 d (cmdI d b) (by assumption)) X0))],.r [(2,X (Xc1 152 (z88 (((nodeF d (cmdI d b))).flow) (by omega)) X0)),(3,X (Xl intT (shwR (((nodeF d (cmdI d b))).flow) ((((nodeF d (cmdI d b))).flow)).length))),(4,X (Xn (((shwR (((nodeF d (cmdI d b))).flow) ((((nodeF d (cmdI d b))).flow)).length).length:Int)- 1))),(5,X (Xmax 0 (((shwR (((nodeF d (cmdI d b))).flow) ((((nodeF d (cmdI d b))).flow)).length).length:Int)- 1)))],.le (.eq 14 (VI (max 0 (((shwR (((nodeF d (cmdI d b))).flow) ((((nodeF d (cmdI d b))).flow)).length).length:Int)- 1))) (VI (cmdM d b)) (.of_eq rfl)),.r [(1,X (Xc ((5:Int)≠0))),(3,X (Xc0 (z0x (IntKind.i64.wrap (c.tdiv 5)) 0 (cmdM d b) (by omega)) X0))],.le (.eq 15 (VI (z0c (IntKind.i64.wrap (c.tdiv 5)) 0 (cmdM d b))) (VI (cmdF d b c)) (.of_eq rfl)),.r [(3,X (Xc ((11:Int)≠0))),(7,X (Xn ((cmdF d b c)+4))),(8,X (Xmin (cmdM d b) ((cmdF d b c)+4))),(9,X (Xc0 (z0x (IntKind.i64.wrap (c.tdiv 11)) (cmdF d b c) (min (cmdM d b) ((cmdF d b c)+4)) (by omega)) X0))],.r [],.le (.eb 320 2 (VI (z0c (IntKind.i64.wrap (c.tdiv 11)) (cmdF d b c) (min (cmdM d b) ((cmdF d b c)+4)))) (VI (cmdT d b c)) rfl),.r [(1,X (Xc0 (z0x a 0 13 (by omega)) X0))],.r []] ((z0c a 0 13)==0) (fun h12=> ?_) (fun h12=> ?_)
 ·
  have w0:=z0m b (lo:=0) (hi:=4) (by decide)
  have ha:=z4f (Int.toNat (z0c b 0 4))
  have hn:=z7R (Int.toNat (z0c b 0 4))
  have ht:=hx.ty (txt5.getD (Int.toNat (z0c b 0 4)) default) {data:=#[]} (by assumption) (by assumption)
  have e1:((cmdP d site a b c):List EOp)=(typeO d ({nd:=(cmdI d b),fr:=(cmdF d b c),tq:=(cmdT d b c)}:Sel) (ascC ([{data:=#[120]},{data:=#[121,122]},{data:=#[10]},{data:=#[119,32,118]},{data:=#[98]}].getD (Int.toNat (z0c b 0 4)) default)) ({data:=#[]})):=by
   unfold cmdP;((repeat' split)<;>first|rfl|omega| (simp_all;done)| (simp_all;omega))
  exact .finE [.le (.eq 88 (VB ((z0c a 0 13)==0)) (VB true) (.of_eq (by simp[h12]))),.t,.r [(4,X (Xc0 (z0x b 0 4 (by omega)) X0)),(5,X (Xp strT [{data:=#[120]},{data:=#[121,122]},{data:=#[10]},{data:=#[119,32,118]},{data:=#[98]}] (z0c b 0 4))),(6,X (Xe strT [{data:=#[120]},{data:=#[121,122]},{data:=#[10]},{data:=#[119,32,118]},{data:=#[98]}] (Int.toNat (z0c b 0 4)))),(7,X (Xc1 432 (z4g d ({nd:=(cmdI d b),fr:=(cmdF d b c),tq:=(cmdT d b c)}:Sel) ([{data:=#[120]},{data:=#[121,122]},{data:=#[10]},{data:=#[119,32,118]},{data:=#[98]}].getD (Int.toNat (z0c b 0 4)) default) ({data:=#[]}) (by assumption) (by assumption) (by assumption) (by assumption)) X0))],.r []] [] (fun z0:List EOp=>(VL 19 eopT z0,[])) _ _ e1
 ·
  refine .bp [.le (.eq 88 (VB ((z0c a 0 13)==0)) (VB false) (.of_eq (by simp[h12]))),.r []] ((z0c a 0 13)==1) (fun h13=> ?_) (fun h13=> ?_)
  ·
   have w0:=z0m b (lo:=0) (hi:=4) (by decide)
   have ha:=z4f (Int.toNat (z0c b 0 4))
   have hn:=z7R (Int.toNat (z0c b 0 4))
   have ht:=hx.ty (txt5.getD (Int.toNat (z0c b 0 4)) default) {data:=#[]} (by assumption) (by assumption)
   have e2:((cmdP d site a b c):List EOp)=(typeO d ({nd:=(cmdI d b),fr:=(cmdF d b c),tq:=(cmdT d b c)}:Sel) (ascC ([{data:=#[120]},{data:=#[121,122]},{data:=#[10]},{data:=#[119,32,118]},{data:=#[98]}].getD (Int.toNat (z0c b 0 4)) default)) ({data:=#[]})):=by
    unfold cmdP;((repeat' split)<;>first|rfl|omega| (simp_all;done)| (simp_all;omega))
   exact .finE [.le (.eq 88 (VB ((z0c a 0 13)==1)) (VB true) (.of_eq (by simp[h13]))),.t,.r [(4,X (Xc0 (z0x b 0 4 (by omega)) X0)),(5,X (Xp strT [{data:=#[120]},{data:=#[121,122]},{data:=#[10]},{data:=#[119,32,118]},{data:=#[98]}] (z0c b 0 4))),(6,X (Xe strT [{data:=#[120]},{data:=#[121,122]},{data:=#[10]},{data:=#[119,32,118]},{data:=#[98]}] (Int.toNat (z0c b 0 4)))),(7,X (Xc1 448 (z4g d ({nd:=(cmdI d b),fr:=(cmdF d b c),tq:=(cmdT d b c)}:Sel) ([{data:=#[120]},{data:=#[121,122]},{data:=#[10]},{data:=#[119,32,118]},{data:=#[98]}].getD (Int.toNat (z0c b 0 4)) default) ({data:=#[]}) (by assumption) (by assumption) (by assumption) (by assumption)) X0))],.r []] [] (fun z0:List EOp=>(VL 19 eopT z0,[])) _ _ e2
  ·
   refine .bp [.le (.eq 88 (VB ((z0c a 0 13)==1)) (VB false) (.of_eq (by simp[h13]))),.r []] ((z0c a 0 13)==2) (fun h14=> ?_) (fun h14=> ?_)
   ·
    have w0:=z0m b (lo:=0) (hi:=4) (by decide)
    have ha:=z4f (Int.toNat (z0c b 0 4))
    have hn:=z7R (Int.toNat (z0c b 0 4))
    have ht:=hx.ty (txt5.getD (Int.toNat (z0c b 0 4)) default) {data:=#[]} (by assumption) (by assumption)
    have e3:((cmdP d site a b c):List EOp)=(typeO d ({nd:=(cmdI d b),fr:=(cmdF d b c),tq:=(cmdT d b c)}:Sel) (ascC ([{data:=#[120]},{data:=#[121,122]},{data:=#[10]},{data:=#[119,32,118]},{data:=#[98]}].getD (Int.toNat (z0c b 0 4)) default)) ({data:=#[]})):=by
     unfold cmdP;((repeat' split)<;>first|rfl|omega| (simp_all;done)| (simp_all;omega))
    exact .finE [.le (.eq 88 (VB ((z0c a 0 13)==2)) (VB true) (.of_eq (by simp[h14]))),.r [(4,X (Xc0 (z0x b 0 4 (by omega)) X0)),(5,X (Xp strT [{data:=#[120]},{data:=#[121,122]},{data:=#[10]},{data:=#[119,32,118]},{data:=#[98]}] (z0c b 0 4))),(6,X (Xe strT [{data:=#[120]},{data:=#[121,122]},{data:=#[10]},{data:=#[119,32,118]},{data:=#[98]}] (Int.toNat (z0c b 0 4)))),(7,X (Xc1 464 (z4g d ({nd:=(cmdI d b),fr:=(cmdF d b c),tq:=(cmdT d b c)}:Sel) ([{data:=#[120]},{data:=#[121,122]},{data:=#[10]},{data:=#[119,32,118]},{data:=#[98]}].getD (Int.toNat (z0c b 0 4)) default) ({data:=#[]}) (by assumption) (by assumption) (by assumption) (by assumption)) X0))],.r []] [] (fun z0:List EOp=>(VL 19 eopT z0,[])) _ _ e3
   ·
    refine .bp [.le (.eq 88 (VB ((z0c a 0 13)==2)) (VB false) (.of_eq (by simp[h14]))),.r []] ((z0c a 0 13)==3) (fun h16=> ?_) (fun h16=> ?_)
    ·
     have ht:=hx.ty {data:=#[]} {data:=#[]} y4A (by decide)
     have e4:((cmdP d site a b c):List EOp)=(typeO d ({nd:=(cmdI d b),fr:=(cmdF d b c),tq:=(cmdT d b c)}:Sel) (ascC {data:=#[]}) ({data:=#[]})):=by
      unfold cmdP;((repeat' split)<;>first|rfl|omega| (simp_all;done)| (simp_all;omega))
     exact .finE [.r [(2,X (Xc1 440 (y6s d ({nd:=(cmdI d b),fr:=(cmdF d b c),tq:=(cmdT d b c)}:Sel) ({data:=#[]}) (by assumption) (by assumption)) X0))],.r []] [] (fun z0:List EOp=>(VL 19 eopT z0,[])) _ _ e4
    ·
     refine .bp [.r []] ((z0c a 0 13)==4) (fun h18=> ?_) (fun h18=> ?_)
     ·
      have ha:=asc_t
      have hn:({data:=#[116]}:ByteArray).size<=20000:=by decide
      have ht:=hx.ty {data:=#[116]} {data:=#[97,110,110]} ha hn
      have e5:((cmdP d site a b c):List EOp)=(typeO d ({nd:=(cmdI d b),fr:=(cmdF d b c),tq:=(cmdT d b c)}:Sel) (ascC ({data:=#[116]})) ({data:=#[97,110,110]})):=by
       unfold cmdP;((repeat' split)<;>first|rfl|omega| (simp_all;done)| (simp_all;omega))
      exact .finE [.r [(2,X (Xc1 456 (z4g d ({nd:=(cmdI d b),fr:=(cmdF d b c),tq:=(cmdT d b c)}:Sel) ({data:=#[116]}) ({data:=#[97,110,110]}) (by assumption) (by assumption) (by assumption) (by assumption)) X0))],.r []] [] (fun z0:List EOp=>(VL 19 eopT z0,[])) _ _ e5
     ·
      refine .bp [.r []] ((z0c a 0 13)==5) (fun h20=> ?_) (fun h20=> ?_)
      ·
       have w0:=z0m b (lo:=0) (hi:=2) (by decide)
       have w1:=z0m (IntKind.i64.wrap (a.tdiv 14)) (lo:=0) (hi:=2) (by decide)
       have hf:=hx.fm
       have e6:((cmdP d site a b c):List EOp)=(fmtO d ({nd:=(cmdI d b),fr:=(cmdF d b c),tq:=(cmdT d b c)}:Sel) [({name:=([{data:=#[98,111,108,100]},{data:=#[115,105,122,101]},{data:=#[109,97,114,107,46,109]}].getD (Int.toNat (z0c b 0 2)) default),val:=([{data:=#[]},{data:=#[111,110]},{data:=#[52,48]}].getD (Int.toNat (z0c (IntKind.i64.wrap (a.tdiv 14)) 0 2)) default)}:Attr)]):=by
        unfold cmdP;((repeat' split)<;>first|rfl|omega| (simp_all;done)| (simp_all;omega))
       exact .finE [.r [(4,X (Xc0 (z0x b 0 2 (by omega)) X0)),(5,X (Xp strT [{data:=#[98,111,108,100]},{data:=#[115,105,122,101]},{data:=#[109,97,114,107,46,109]}] (z0c b 0 2))),(6,X (Xe strT [{data:=#[98,111,108,100]},{data:=#[115,105,122,101]},{data:=#[109,97,114,107,46,109]}] (Int.toNat (z0c b 0 2)))),(9,X (Xc ((14:Int)≠0))),(10,X (Xc0 (z0x (IntKind.i64.wrap (a.tdiv 14)) 0 2 (by omega)) X0)),(11,X (Xp strT [{data:=#[]},{data:=#[111,110]},{data:=#[52,48]}] (z0c (IntKind.i64.wrap (a.tdiv 14)) 0 2))),(12,X (Xe strT [{data:=#[]},{data:=#[111,110]},{data:=#[52,48]}] (Int.toNat (z0c (IntKind.i64.wrap (a.tdiv 14)) 0 2)))),(15,X (Xc1 576 (y4x d ({nd:=(cmdI d b),fr:=(cmdF d b c),tq:=(cmdT d b c)}:Sel) [({name:=([{data:=#[98,111,108,100]},{data:=#[115,105,122,101]},{data:=#[109,97,114,107,46,109]}].getD (Int.toNat (z0c b 0 2)) default),val:=([{data:=#[]},{data:=#[111,110]},{data:=#[52,48]}].getD (Int.toNat (z0c (IntKind.i64.wrap (a.tdiv 14)) 0 2)) default)}:Attr)] (by assumption) (by first|omega|simp) (by assumption)) (rowC attrT [({name:=([{data:=#[98,111,108,100]},{data:=#[115,105,122,101]},{data:=#[109,97,114,107,46,109]}].getD (Int.toNat (z0c b 0 2)) default),val:=([{data:=#[]},{data:=#[111,110]},{data:=#[52,48]}].getD (Int.toNat (z0c (IntKind.i64.wrap (a.tdiv 14)) 0 2)) default)}:Attr)] X0)))],.r []] [] (fun z0:List EOp=>(VL 19 eopT z0,[])) _ _ e6
      ·
       refine .bp [.r []] ((z0c a 0 13)==6) (fun h22=> ?_) (fun h22=> ?_)
       ·
        have w0:=z0m b (lo:=0) (hi:=2) (by decide)
        have w1:=z0m (IntKind.i64.wrap (a.tdiv 14)) (lo:=0) (hi:=2) (by decide)
        have hf:=hx.pa
        have e7:((cmdP d site a b c):List EOp)=(parO d ({nd:=(cmdI d b),fr:=(cmdF d b c),tq:=(cmdT d b c)}:Sel) [({name:=([{data:=#[104,101,97,100]},{data:=#[108,105,115,116]},{data:=#[97,108,105,103,110]}].getD (Int.toNat (z0c b 0 2)) default),val:=([{data:=#[49]},{data:=#[50]},{data:=#[]}].getD (Int.toNat (z0c (IntKind.i64.wrap (a.tdiv 14)) 0 2)) default)}:Attr)]):=by
         unfold cmdP;((repeat' split)<;>first|rfl|omega| (simp_all;done)| (simp_all;omega))
        exact .finE [.r [(4,X (Xc0 (z0x b 0 2 (by omega)) X0)),(5,X (Xp strT [{data:=#[104,101,97,100]},{data:=#[108,105,115,116]},{data:=#[97,108,105,103,110]}] (z0c b 0 2))),(6,X (Xe strT [{data:=#[104,101,97,100]},{data:=#[108,105,115,116]},{data:=#[97,108,105,103,110]}] (Int.toNat (z0c b 0 2)))),(9,X (Xc ((14:Int)≠0))),(10,X (Xc0 (z0x (IntKind.i64.wrap (a.tdiv 14)) 0 2 (by omega)) X0)),(11,X (Xp strT [{data:=#[49]},{data:=#[50]},{data:=#[]}] (z0c (IntKind.i64.wrap (a.tdiv 14)) 0 2))),(12,X (Xe strT [{data:=#[49]},{data:=#[50]},{data:=#[]}] (Int.toNat (z0c (IntKind.i64.wrap (a.tdiv 14)) 0 2)))),(15,X (Xc1 592 (y2r d ({nd:=(cmdI d b),fr:=(cmdF d b c),tq:=(cmdT d b c)}:Sel) [({name:=([{data:=#[104,101,97,100]},{data:=#[108,105,115,116]},{data:=#[97,108,105,103,110]}].getD (Int.toNat (z0c b 0 2)) default),val:=([{data:=#[49]},{data:=#[50]},{data:=#[]}].getD (Int.toNat (z0c (IntKind.i64.wrap (a.tdiv 14)) 0 2)) default)}:Attr)] (by assumption) (by first|omega|simp) (by assumption)) (rowC attrT [({name:=([{data:=#[104,101,97,100]},{data:=#[108,105,115,116]},{data:=#[97,108,105,103,110]}].getD (Int.toNat (z0c b 0 2)) default),val:=([{data:=#[49]},{data:=#[50]},{data:=#[]}].getD (Int.toNat (z0c (IntKind.i64.wrap (a.tdiv 14)) 0 2)) default)}:Attr)] X0)))],.r []] [] (fun z0:List EOp=>(VL 19 eopT z0,[])) _ _ e7
       ·
        refine .bp [.r []] ((z0c a 0 13)==7) (fun h24=> ?_) (fun h24=> ?_)
        ·
         have w1:=z0m b (lo:=1) (hi:=3) (by decide)
         have w2:=z0m (IntKind.i64.wrap (a.tdiv 14)) (lo:=1) (hi:=3) (by decide)
         have ho:=hx.ob (tblN (z0c b 1 3) (z0c (IntKind.i64.wrap (a.tdiv 14)) 1 3))
         have e8:((cmdP d site a b c):List EOp)=(objO d ({nd:=(cmdI d b),fr:=(cmdF d b c),tq:=(cmdT d b c)}:Sel) (tblN (z0c b 1 3) (z0c (IntKind.i64.wrap (a.tdiv 14)) 1 3)) site ({data:=#[]})):=by
          unfold cmdP;((repeat' split)<;>first|rfl|omega| (simp_all;done)| (simp_all;omega))
         exact .finE [.r [(3,X (Xc0 (z0x b 1 3 (by omega)) X0)),(5,X (Xc ((14:Int)≠0))),(6,X (Xc0 (z0x (IntKind.i64.wrap (a.tdiv 14)) 1 3 (by omega)) X0)),(8,X (Xc1 552 (y8a d ({nd:=(cmdI d b),fr:=(cmdF d b c),tq:=(cmdT d b c)}:Sel) (z0c b 1 3) (z0c (IntKind.i64.wrap (a.tdiv 14)) 1 3) site ({data:=#[]}) (by omega) (by assumption) (by assumption)) X0))],.r []] [] (fun z0:List EOp=>(VL 19 eopT z0,[])) _ _ e8
        ·
         refine .bp [.r []] ((z0c a 0 13)==8) (fun h26=> ?_) (fun h26=> ?_)
         ·
          have ho:=hx.ob (notN (b.tmod 2==0))
          have e9:((cmdP d site a b c):List EOp)=(objO d ({nd:=(cmdI d b),fr:=(cmdF d b c),tq:=(cmdT d b c)}:Sel) (notN ((b.tmod 2)==0)) site ({data:=#[]})):=by
           unfold cmdP;((repeat' split)<;>first|rfl|omega| (simp_all;done)| (simp_all;omega))
          exact .finE [.r [(3,X (Xc ((2:Int)≠0))),(6,X (Xc1 552 (y8b d ({nd:=(cmdI d b),fr:=(cmdF d b c),tq:=(cmdT d b c)}:Sel) ((b.tmod 2)==0) site ({data:=#[]}) (by assumption) (by assumption)) X0))],.r []] [] (fun z0:List EOp=>(VL 19 eopT z0,[])) _ _ e9
         ·
          refine .bp [.r []] ((z0c a 0 13)==9) (fun h28=> ?_) (fun h28=> ?_)
          ·
           have hc:=y4C
           have ho:=hx.ob (fldN seqA)
           have e10:((cmdP d site a b c):List EOp)=(objO d ({nd:=(cmdI d b),fr:=(cmdF d b c),tq:=(cmdT d b c)}:Sel) (fldN [({name:={data:=#[107,105,110,100]},val:={data:=#[115,101,113]}}:Attr)]) site ({data:=#[]})):=by
            unfold cmdP;((repeat' split)<;>first|rfl|omega| (simp_all;done)| (simp_all;omega))
           exact .finE [.r [(5,X (Xc1 560 (y8c d ({nd:=(cmdI d b),fr:=(cmdF d b c),tq:=(cmdT d b c)}:Sel) [({name:={data:=#[107,105,110,100]},val:={data:=#[115,101,113]}}:Attr)] site ({data:=#[]}) (by assumption) (by first|omega|simp) (by assumption) (by assumption)) (rowC attrT [({name:={data:=#[107,105,110,100]},val:={data:=#[115,101,113]}}:Attr)] X0)))],.r []] [] (fun z0:List EOp=>(VL 19 eopT z0,[])) _ _ e10
          ·
           refine .bp [.r []] ((z0c a 0 13)==10) (fun h30=> ?_) (fun h30=> ?_)
           ·
            have w0:=z0m (IntKind.i64.wrap (a.tdiv 14)) (lo:=0) (hi:=2) (by decide)
            have w1:=z0m c (lo:=0) (hi:=2) (by decide)
            have w2:=y1y (Int.toNat (z0c (IntKind.i64.wrap (a.tdiv 14)) 0 2))
            have e11:((cmdP d site a b c):List EOp)=(rshO d (pickP d b [2,6]) (z0c c 0 2) ([1,2,-1].getD (Int.toNat (z0c (IntKind.i64.wrap (a.tdiv 14)) 0 2)) default)):=by
             unfold cmdP;((repeat' split)<;>first|rfl|omega| (simp_all;done)| (simp_all;omega))
            exact .finE [.r [(4,X (Xc0 (z6g d b [2,6] (by omega) (by first|omega|simp)) (rowC intT [2,6] X0))),(6,X (Xc0 (z0x c 0 2 (by omega)) X0)),(9,X (Xc ((14:Int)≠0))),(10,X (Xc0 (z0x (IntKind.i64.wrap (a.tdiv 14)) 0 2 (by omega)) X0)),(11,X (Xp intT [1,2,-1] (z0c (IntKind.i64.wrap (a.tdiv 14)) 0 2))),(12,X (Xe intT [1,2,-1] (Int.toNat (z0c (IntKind.i64.wrap (a.tdiv 14)) 0 2)))),(13,X (Xc1 640 (y8d d (pickP d b [2,6]) (z0c c 0 2) ([1,2,-1].getD (Int.toNat (z0c (IntKind.i64.wrap (a.tdiv 14)) 0 2)) default) (by assumption) (by omega) (by omega)) X0))],.r []] [] (fun z0:List EOp=>(VL 19 eopT z0,[])) _ _ e11
           ·
            refine .bp [.r []] ((z0c a 0 13)==11) (fun h32=> ?_) (fun h32=> ?_)
            ·
             have w0:=z0m (IntKind.i64.wrap (a.tdiv 14)) (lo:=0) (hi:=2) (by decide)
             have w1:=z0m c (lo:=0) (hi:=2) (by decide)
             have w2:=y1y (Int.toNat (z0c (IntKind.i64.wrap (a.tdiv 14)) 0 2))
             have e12:((cmdP d site a b c):List EOp)=(cshO d (pickP d b [2,6]) (z0c c 0 2) ([1,2,-1].getD (Int.toNat (z0c (IntKind.i64.wrap (a.tdiv 14)) 0 2)) default)):=by
              unfold cmdP;((repeat' split)<;>first|rfl|omega| (simp_all;done)| (simp_all;omega))
             exact .finE [.r [(4,X (Xc0 (z6g d b [2,6] (by omega) (by first|omega|simp)) (rowC intT [2,6] X0))),(6,X (Xc0 (z0x c 0 2 (by omega)) X0)),(9,X (Xc ((14:Int)≠0))),(10,X (Xc0 (z0x (IntKind.i64.wrap (a.tdiv 14)) 0 2 (by omega)) X0)),(11,X (Xp intT [1,2,-1] (z0c (IntKind.i64.wrap (a.tdiv 14)) 0 2))),(12,X (Xe intT [1,2,-1] (Int.toNat (z0c (IntKind.i64.wrap (a.tdiv 14)) 0 2)))),(13,X (Xc1 656 (y2o d (pickP d b [2,6]) (z0c c 0 2) ([1,2,-1].getD (Int.toNat (z0c (IntKind.i64.wrap (a.tdiv 14)) 0 2)) default) (by assumption) (by omega) (by omega)) X0))],.r []] [] (fun z0:List EOp=>(VL 19 eopT z0,[])) _ _ e12
            ·
             refine .bp [.r []] ((z0c a 0 13)==12) (fun h34=> ?_) (fun h34=> ?_)
             ·
              have e13:((cmdP d site a b c):List EOp)=(celO d (pickP d b [2]) (z0c c 0 2) (z0c (IntKind.i64.wrap (a.tdiv 14)) 0 2) site):=by
               unfold cmdP;((repeat' split)<;>first|rfl|omega| (simp_all;done)| (simp_all;omega))
              exact .finE [.r [(4,X (Xc0 (z6g d b [2] (by omega) (by first|omega|simp)) (rowC intT [2] X0))),(6,X (Xc0 (z0x c 0 2 (by omega)) X0)),(8,X (Xc ((14:Int)≠0))),(9,X (Xc0 (z0x (IntKind.i64.wrap (a.tdiv 14)) 0 2 (by omega)) X0)),(11,X (Xc1 656 (y8e d (pickP d b [2]) (z0c c 0 2) (z0c (IntKind.i64.wrap (a.tdiv 14)) 0 2) site (by assumption)) X0))],.r []] [] (fun z0:List EOp=>(VL 19 eopT z0,[])) _ _ e13
             ·
              refine .bp [.r [(4,X (Xc0 (z6g d b [10,8] (by omega) (by first|omega|simp)) (rowC intT [10,8] X0))),(5,X (Xc1 608 (z92 d (pickP d b [10,8]) (by assumption)) X0))],.r []] (nodeH d (pickP d b [10,8])) (fun h9=> ?_) (fun h9=> ?_)
              ·
               have w0:=z0m (IntKind.i64.wrap (a.tdiv 14)) (lo:=(-1)) (hi:=3) (by decide)
               have w1:=z0m c (lo:=1) (hi:=3) (by decide)
               have w2:=z0m c (lo:=0) (hi:=2) (by decide)
               have hlc:=hx.lc
               have e14:((cmdP d site a b c):List EOp)=[({kind:=4,node:=((nodeF d (pickP d b [10,8]))).id,nw:=({id:=0,kind:=0,attrs:=[],flow:=[],grid:=({rows:=0,cols:=0,cells:=[],merges:=[]}:Grid),draw:=[]}:Node),attrs:=[],steps:=[],grid:=({rows:=[],cols:=[],cells:=[],split:=[],merge:=[]}:GEd),draw:=[({clock:=(1+(lastC ((nodeF d (pickP d b [10,8]))))),site:=site,kind:=0,itm:=(z0c c 1 3),prt:=(z0c (IntKind.i64.wrap (a.tdiv 14)) (-1) 3),plc:={data:=#[98]},nm:={data:=#[]},vl:={data:=#[]}}:DOp)]}:EOp)]:=by
                unfold cmdP;((repeat' split)<;>first|rfl|omega| (simp_all;done)| (simp_all;omega))
               exact .finE [.r [(3,X (Xc0 (y6r ((nodeF d (pickP d b [10,8]))) (by assumption)) X0)),(4,X (Xn (1+(lastC ((nodeF d (pickP d b [10,8]))))))),(7,X (Xc0 (z0x c 1 3 (by omega)) X0)),(9,X (Xc ((14:Int)≠0))),(10,X (Xc0 (z0x (IntKind.i64.wrap (a.tdiv 14)) (-1) 3 (by omega)) X0)),(13,X (Xf [(4,2),(5,3),(8,5),(9,4),(10,8),(11,2),(12,4),(13,2),(14,2),(15,5),(16,4),(17,4)])),(14,X (rowC dopT [({clock:=(1+(lastC ((nodeF d (pickP d b [10,8]))))),site:=site,kind:=0,itm:=(z0c c 1 3),prt:=(z0c (IntKind.i64.wrap (a.tdiv 14)) (-1) 3),plc:={data:=#[98]},nm:={data:=#[]},vl:={data:=#[]}}:DOp)] X0))],.r [],.le (.fr 10 [(1:Nat)=(List.map eopT [({kind:=4,node:=((nodeF d (pickP d b [10,8]))).id,nw:=({id:=0,kind:=0,attrs:=[],flow:=[],grid:=({rows:=0,cols:=0,cells:=[],merges:=[]}:Grid),draw:=[]}:Node),attrs:=[],steps:=[],grid:=({rows:=[],cols:=[],cells:=[],split:=[],merge:=[]}:GEd),draw:=[({clock:=(1+(lastC ((nodeF d (pickP d b [10,8]))))),site:=site,kind:=0,itm:=(z0c c 1 3),prt:=(z0c (IntKind.i64.wrap (a.tdiv 14)) (-1) 3),plc:={data:=#[98]},nm:={data:=#[]},vl:={data:=#[]}}:DOp)]}:EOp)]).length] ⟨lm,trivial⟩)] [] (fun z0:List EOp=>(VL 19 eopT z0,[])) _ _ e14
              ·
               have w2:=z0m c (lo:=0) (hi:=2) (by decide)
               have e15:((cmdP d site a b c):List EOp)=[({kind:=1,node:=1,nw:=({id:=0,kind:=0,attrs:=[],flow:=[],grid:=({rows:=0,cols:=0,cells:=[],merges:=[]}:Grid),draw:=[]}:Node),attrs:=[({name:={data:=#[116,105,116,108,101]},val:=([{data:=#[]},{data:=#[112]},{data:=#[113]}].getD (Int.toNat (z0c c 0 2)) default)}:Attr)],steps:=[],grid:=({rows:=[],cols:=[],cells:=[],split:=[],merge:=[]}:GEd),draw:=[]}:EOp)]:=by
                unfold cmdP;((repeat' split)<;>first|rfl|omega| (simp_all;done)| (simp_all;omega))
               exact .finE [.r [(2,X (Xc0 (z0x c 0 2 (by omega)) X0)),(3,X (Xp strT [{data:=#[]},{data:=#[112]},{data:=#[113]}] (z0c c 0 2))),(4,X (Xe strT [{data:=#[]},{data:=#[112]},{data:=#[113]}] (Int.toNat (z0c c 0 2)))),(7,X (Xf [(4,2),(5,3),(8,5),(9,4),(10,8),(12,4),(13,2),(14,2),(15,5),(16,4),(17,4),(18,8)])),(8,X (rowC attrT [({name:={data:=#[116,105,116,108,101]},val:=([{data:=#[]},{data:=#[112]},{data:=#[113]}].getD (Int.toNat (z0c c 0 2)) default)}:Attr)] X0))],.r [],.le (.fr 10 [(1:Nat)=(List.map eopT [({kind:=1,node:=1,nw:=({id:=0,kind:=0,attrs:=[],flow:=[],grid:=({rows:=0,cols:=0,cells:=[],merges:=[]}:Grid),draw:=[]}:Node),attrs:=[({name:={data:=#[116,105,116,108,101]},val:=([{data:=#[]},{data:=#[112]},{data:=#[113]}].getD (Int.toNat (z0c c 0 2)) default)}:Attr)],steps:=[],grid:=({rows:=[],cols:=[],cells:=[],split:=[],merge:=[]}:GEd),draw:=[]}:EOp)]).length] ⟨lm,trivial⟩)] [] (fun z0:List EOp=>(VL 19 eopT z0,[])) _ _ e15
theorem z93(l:List DStep)(hd:DN 400000000000 l)(hv:z0U l):FC Tryz.prog 128 [VL 4 z0d l] (app emp []) (.tup [VI (oldD l),VI (newD l),VI 0]) (app emp []):=by
 refine .go Tryz.f128 ?_
 refine .len 0 (fun hl0=> ?_)
 have hc:=z0Q.2 hv
 refine .bp [.r [],.r [(1,X (Xc0 (z1H l (by assumption)) X0))],.r []] ((z0T l) !=0) (fun h2=> ?_) (fun h2=> ?_)
 ·
  exfalso
  omega
 ·
  exact .fin [.r [(1,X (Xc0 (z38 l (by assumption)) X0))],.r []] []
theorem y6t(l:List DStep):FC Tryz.prog 129 [VL 4 z0d l] (app emp []) (VB (endsD l)) (app emp []):=by
 refine .go Tryz.f129 ?_
 refine .len 0 (fun hl0=> ?_)
 have e1:((endsD l):Bool)=(decide ((l.length:Int)> 0)&&((((l.getD (l.length- 1) default)).kind)==0)):=by
  rfl
 exact .finE [.r [],.r [(1,X (Xl z0d l)),(6,Xv 1 (decide ((l.length:Int)> 0)) (Xl z0d l)),(7,Xv 1 (decide ((l.length:Int)> 0)) (Xn ((l.length:Int)- 1))),(8,Xv 2 (decide ((l.length:Int)> 0)) (Xi' z0d l ((l.length:Int)- 1) (l.length- 1))),(9,Xv 1 (decide ((l.length:Int)> 0)) X0),(10,Xv 1 (decide ((l.length:Int)> 0)) X0),(11,Xv 1 (decide ((l.length:Int)> 0)) X0),(12,X (Xk (decide ((l.length:Int)> 0))))]] [] (fun z0:Bool=>(VB z0,[])) _ _ e1
theorem y4H(l:List Node)(n:Node)(j:Nat)(hl:l.length<=1048576)(hj:j=l.length):FC Tryz.prog 127 [.row 0 l.length,VI (j:Int),.row 1 1] (app emp [(0,OR 9 nodeT l),(1,OR 9 nodeT [n])]) (.row 0 ((l++[n]).length)) (app emp [(0,OR 9 nodeT (l++[n])),(1,OF 9 nodeT [n])]):=by
 refine .go Tryz.f127 ?_
 refine .bp [.r [],.r [(2,X (Xtl nodeT l.length l (j:Int)))],.r [],.r [],.f,.r [],.r []] ((j:Int)==(l.length:Int)) (fun h6=> ?_) (fun h6=> ?_)
 ·
  exact .fin [.r [(2,X (rowC nodeT [n] (XapB 9 nodeT 0 l [n])))],.le (.fz 1)] [(0,0),(1,1)]
 ·
  exfalso
  omega
theorem y2u(l:List Node)(n:Node)(hl:l.length<=1048575)(hs:SortN l)(hb:NodeB n)(hlast:hasN l n.id=false->lobN l n.id=l.length):FC Tryz.prog 76 [.ptr 0 0,.t (nodeT n)] (app emp [(0,.box [.row 1 l.length]),(1,OR 9 nodeT l)]) (VI (adnE l n)) (app emp [(0,.box [.row 1 ((insR l n).length)]),(1,OR 9 nodeT (insR l n))]):=by
 refine .go Tryz.f76 ?_
 have hl1:l.length<=1048576:=by omega
 refine .bp [.r [],.r [(5,X (Xc0 (z5i ({nodes:=l}:Doc) n.id (by assumption) (by assumption)) (rowC nodeT l X0)))]] (decide ((ixN (({nodes:=l}:Doc)).nodes n.id)>=0)) (fun h1=> ?_) (fun h1=> ?_)
 ·
  have T:=ins_1 (l:=l) (n:=n) (y08.1 h1)
  have e1:((insR l n).length:Nat)=l.length:=by
   rw[T.1]
  have e2:((insR l n):List Node)=l:=by
   exact T.1
  have e3:((adnE l n):Int)=6:=by
   exact T.2
  exact .finE [.r []] [(0,0),(1,1)] (fun((z0,z1,z2):Nat×(List Node)×Int)=>(VI z2,[(0,.box [.row 1 z0]),(1,OR 9 nodeT z1)])) _ _ (pr e1 (pr e2 e3))
 ·
  have hh:hasN l n.id=false:=y09.1 h1
  refine .bp [.r [(6,X (Xc1 122 (z8O n (by assumption)) X0)),(7,X (Xc0 (z35 ({nodes:=l}:Doc) n.kind (refsN n) (by assumption) (by assumption)) (rowC nodeT l X0)))],.r []] ((refsE (({nodes:=l}:Doc)).nodes n.kind (refsN n) 0) !=0) (fun h4=> ?_) (fun h4=> ?_)
  ·
   have T:=ins_2 hh h4
   have e4:((insR l n).length:Nat)=l.length:=by
    rw[T.1]
   have e5:((insR l n):List Node)=l:=by
    exact T.1
   have e6:((adnE l n):Int)=(refsE (({nodes:=l}:Doc)).nodes n.kind (refsN n) 0):=by
    exact T.2
   exact .finE [.r []] [(0,0),(1,1)] (fun((z0,z1,z2):Nat×(List Node)×Int)=>(VI z2,[(0,.box [.row 1 z0]),(1,OR 9 nodeT z1)])) _ _ (pr e4 (pr e5 e6))
  ·
   obtain⟨s1,s2,s3⟩:=z1L l n.id
   have hlo:=hlast hh
   refine .loop (α:=Nat) [.r []] 170 (fun i=>([(0,.ptr 0 0),(3,.ptr 2 0),(6,VI (i:Int))],[(0,.box [.row 1 l.length]),(1,OR 9 nodeT l),(2,.box [VI n.id,VI n.kind,VL 2 attrT n.attrs,VL 3 elemT n.flow,VI n.grid.rows,VI n.grid.cols,VL 5 cellT n.grid.cells,VL 4 rectT n.grid.merges,VL 8 dopT n.draw])])) (fun i=>i<=lobN l n.id) (fun i=>l.length-i) (0:Nat) ?_ ?_
   ·
    exact qU _
   rintro i I7 ih7
   try dsimp only at I7
   refine .bp [.r [(9,Xv 1 (decide ((i:Int)< (l.length:Int))) X0),(10,Xv 1 (decide ((i:Int)< (l.length:Int))) X0),(11,Xv 1 (decide ((i:Int)< (l.length:Int))) X0),(13,Xv 2 (decide ((i:Int)< (l.length:Int))) (Xp nodeT l (i:Int))),(14,Xv 1 (decide ((i:Int)< (l.length:Int))) X0),(15,Xv 1 (decide ((i:Int)< (l.length:Int))) (Xe nodeT l i)),(17,Xv 1 (decide ((i:Int)< (l.length:Int))) X0),(18,Xv 2 (decide ((i:Int)< (l.length:Int))) X0),(19,X (Xk (decide ((i:Int)< (l.length:Int)))))]] (decide ((i:Int)< (l.length:Int))&&decide ((((l.getD i default)).id)< n.id)) (fun h7=> ?_) (fun h7=> ?_)
   ·
    refine .back [.r [(1,X (Xn ((i:Int)+1)))]] [(0,0),(1,1),(2,2)] (ih7 ((i+1):Nat) ?_ ?_)
    ·
     exact y3P hs (by omega) h7.2
    ·
     ((try dsimp only);omega)
   ·
    have hi:i=l.length:=by(apply qd;intro q;have:=s2 i (by omega);rcases h7 with h|h<;>omega)
    have T:=ins_3 hh h4 hlo
    have e7:((insR l n).length:Nat)=(l++[n]).length:=by
     rw[T.1]
    have e8:((insR l n):List Node)=(l++[n]):=by
     exact T.1
    have e9:((adnE l n):Int)=0:=by
     exact T.2
    exact .finE [.r [(7,X (Xc1 386 (z7M n (by assumption)) X0)),(9,X (Xc3 402 [(0,1),(1,394)] (y4H l n i (by omega) (by omega)) X0))],.r []] [(0,0),(1,1)] (fun((z0,z1,z2):Nat×(List Node)×Int)=>(VI z2,[(0,.box [.row 1 z0]),(1,OR 9 nodeT z1)])) _ _ (pr e7 (pr e8 e9))
theorem y4I(l:List Node)(i:Nat)(s:List DStep)(hi:i<l.length)(hb:FlB l i s):FC Tryz.prog 77 [.ptr 0 0,.eptr 1 l.length i 0,VL 4 z0d s] (app emp [(0,.box [.row 1 l.length]),(1,OR 9 nodeT l)]) (VI (z0V l (l.getD i default) s)) (app emp [(0,.box [.row 1 ((z1l l i s).length)]),(1,OR 9 nodeT (z1l l i s))]):=by
 refine .go Tryz.f77 ?_
 refine .len 2 (fun hl2=> ?_)
 obtain⟨hl1,hs,hd,hv,hf⟩:=hb
 refine .bp [.r [],.r [(3,X (Xe nodeT l i)),(4,X (Xc0 (z5d (((l.getD i default)).kind)) X0))],.r [(4,Xv 1 (!(hasT (((l.getD i default)).kind))) X0),(5,Xv 1 (!(hasT (((l.getD i default)).kind))) X0),(6,Xv 1 (!(hasT (((l.getD i default)).kind))) (Xe nodeT l i)),(7,Xv 1 (!(hasT (((l.getD i default)).kind))) (Xc0 (y00 (((l.getD i default)).kind)) X0)),(8,Xv 1 (!(hasT (((l.getD i default)).kind))) X0),(9,X (Xk (!(hasT (((l.getD i default)).kind)))))]] (!(hasT (((l.getD i default)).kind))&& !(hasL (((l.getD i default)).kind))) (fun h2=> ?_) (fun h2=> ?_)
 ·
  have T:=z8S (i:=i) (fl_1 (s:=s) h2) (by decide)
  have e1:((z1l l i s).length:Nat)=l.length:=by
   rw[T.1]
  have e2:((z1l l i s):List Node)=l:=by
   exact T.1
  have e3:((z0V l (l.getD i default) s):Int)=8:=by
   exact T.2
  exact .finE [.r []] [(0,0),(1,1)] (fun((z0,z1,z2):Nat×(List Node)×Int)=>(VI z2,[(0,.box [.row 1 z0]),(1,OR 9 nodeT z1)])) _ _ (pr e1 (pr e2 e3))
 ·
  refine .bp [.r [(1,X (Xc0 (z93 s (by assumption) (by assumption)) X0))],.r [(4,X (Xe nodeT l i)),(5,X (Xl elemT (((l.getD i default)).flow)))]] ((oldD s) !=((((l.getD i default)).flow).length:Int)) (fun h5=> ?_) (fun h5=> ?_)
  ·
   have T:=z8S (i:=i) (fl_2 h2 h5) (by decide)
   have e4:((z1l l i s).length:Nat)=l.length:=by
    rw[T.1]
   have e5:((z1l l i s):List Node)=l:=by
    exact T.1
   have e6:((z0V l (l.getD i default) s):Int)=14:=by
    exact T.2
   exact .finE [.r []] [(0,0),(1,1)] (fun((z0,z1,z2):Nat×(List Node)×Int)=>(VI z2,[(0,.box [.row 1 z0]),(1,OR 9 nodeT z1)])) _ _ (pr e4 (pr e5 e6))
  ·
   refine .bp [.r [(3,Xv 1 (hasT (((l.getD i default)).kind)) (Xc0 (y6t s) X0)),(4,Xv 1 (hasT (((l.getD i default)).kind)) X0),(5,X (Xk (hasT (((l.getD i default)).kind))))]] ((hasT (((l.getD i default)).kind))&& !(endsD s)) (fun h7=> ?_) (fun h7=> ?_)
   ·
    have T:=z8S (i:=i) (fl_3 h2 h5 h7) (by decide)
    have e7:((z1l l i s).length:Nat)=l.length:=by
     rw[T.1]
    have e8:((z1l l i s):List Node)=l:=by
     exact T.1
    have e9:((z0V l (l.getD i default) s):Int)=4:=by
     exact T.2
    exact .finE [.r []] [(0,0),(1,1)] (fun((z0,z1,z2):Nat×(List Node)×Int)=>(VI z2,[(0,.box [.row 1 z0]),(1,OR 9 nodeT z1)])) _ _ (pr e7 (pr e8 e9))
   ·
    have F:=fl_4 (l:=l) h2 h5 h7
    refine .loop (α:=Nat) [.r [(1,X (Xl z0d s))]] 338 (fun a=>([(0,.ptr 0 0),(1,.eptr 1 l.length i 0),(2,VL 4 z0d s),(7,VB (hasT (((l.getD i default)).kind))),(50,VL 4 z0d s),(51,VI (s.length:Int)),(52,VI (a:Int))],[(0,.box [.row 1 l.length]),(1,OR 9 nodeT l)])) (fun a=>a<=s.length/\addsE l (l.getD i default).kind s=addsE l (l.getD i default).kind (s.drop a)) (fun a=>s.length-a) (0:Nat) ?_ ?_
    ·
     exact⟨by omega,rfl⟩
    rintro a I10 ih10
    try dsimp only at I10
    refine .bp [.r []] (decide ((a:Int)< (s.length:Int))) (fun h10=> ?_) (fun h10=> ?_)
    ·
     have hd1:=(hd _ (z0h (l:=s) (i:=a) (by omega))).1
     refine .loop (α:=Nat) [.r [(0,X (Xi z0d s (a:Int)))],.r [(2,X (Xl elemT (((s.getD a default)).elems)))]] 410 (fun b=>([(0,.ptr 0 0),(1,.eptr 1 l.length i 0),(2,VL 4 z0d s),(7,VB (hasT (((l.getD i default)).kind))),(50,VL 4 z0d s),(51,VI (s.length:Int)),(52,VI (a:Int)),(57,VL 3 elemT (((s.getD a default)).elems)),(58,VI ((((s.getD a default)).elems).length:Int)),(59,VI (b:Int))],[(0,.box [.row 1 l.length]),(1,OR 9 nodeT l)])) (fun b=>b<=(s.getD a default).elems.length/\addsE l (l.getD i default).kind s=if z1A (newE l (l.getD i default).kind) ((s.getD a default).elems.drop b)≠0 then z1A (newE l (l.getD i default).kind) ((s.getD a default).elems.drop b) else addsE l (l.getD i default).kind (s.drop (a+1))) (fun b=>(s.getD a default).elems.length-b) (0:Nat) ?_ ?_
     ·
      exact⟨by omega,by rw[I10.2];exact z2y _ (by omega)⟩
     rintro b I13 ih13
     try dsimp only at I13
     refine .bp [.r []] (decide ((b:Int)< ((((s.getD a default)).elems).length:Int))) (fun h13=> ?_) (fun h13=> ?_)
     ·
      refine .bp [.r [(0,X (Xi elemT (((s.getD a default)).elems) (b:Int)))],.r [(5,Xv 1 (((((((s.getD a default)).elems).getD b default)).ref)==0) X0),(6,X (Xk (((((((s.getD a default)).elems).getD b default)).ref)==0)))]] ((((((((s.getD a default)).elems).getD b default)).ref)==0)&& !(hasT (((l.getD i default)).kind))) (fun h15=> ?_) (fun h15=> ?_)
      ·
       have hx:newE l (l.getD i default).kind ((s.getD a default).elems.getD b default)=8:=y88 h15
       have T:=z8S (i:=i) (k:=8) (F.trans (I13.2.trans (by rw[z2y _ (by omega),hx];rfl))) (by decide)
       have e10:((z1l l i s).length:Nat)=l.length:=by
        rw[T.1]
       have e11:((z1l l i s):List Node)=l:=by
        exact T.1
       have e12:((z0V l (l.getD i default) s):Int)=8:=by
        exact T.2
       exact .finE [.r []] [(0,0),(1,1)] (fun((z0,z1,z2):Nat×(List Node)×Int)=>(VI z2,[(0,.box [.row 1 z0]),(1,OR 9 nodeT z1)])) _ _ (pr e10 (pr e11 e12))
      ·
       refine .bp [.r [(6,X (Xe nodeT l i)),(9,X (Xc1 578 (z50 [(((((s.getD a default)).elems).getD b default))] (by first|omega|simp)) (rowC elemT [(((((s.getD a default)).elems).getD b default))] X0))),(10,X (Xc0 (z35 ({nodes:=l}:Doc) (((l.getD i default)).kind) (refsF [(((((s.getD a default)).elems).getD b default))]) (by assumption) (by assumption)) (rowC nodeT l (rowC intT (refsF [(((((s.getD a default)).elems).getD b default))]) X0))))],.r []] ((refsE (({nodes:=l}:Doc)).nodes (((l.getD i default)).kind) (refsF [(((((s.getD a default)).elems).getD b default))]) 0) !=0) (fun h18=> ?_) (fun h18=> ?_)
       ·
        have hx:newE l (l.getD i default).kind ((s.getD a default).elems.getD b default)=refsE l (l.getD i default).kind (refsF [((s.getD a default).elems.getD b default)]) 0:=y61 h15
        have T:=z8S (i:=i) (F.trans (I13.2.trans (by rw[z2y _ (by omega),hx,if_pos h18,if_pos h18]))) h18
        have e13:((z1l l i s).length:Nat)=l.length:=by
         rw[T.1]
        have e14:((z1l l i s):List Node)=l:=by
         exact T.1
        have e15:((z0V l (l.getD i default) s):Int)=(refsE (({nodes:=l}:Doc)).nodes (((l.getD i default)).kind) (refsF [(((((s.getD a default)).elems).getD b default))]) 0):=by
         exact T.2
        exact .finE [.r []] [(0,0),(1,1)] (fun((z0,z1,z2):Nat×(List Node)×Int)=>(VI z2,[(0,.box [.row 1 z0]),(1,OR 9 nodeT z1)])) _ _ (pr e13 (pr e14 e15))
       ·
        refine .back [.r [(0,X (Xn ((b:Int)+1)))]] [(0,0),(1,1)] (ih13 ((b+1):Nat) ?_ ?_)
        ·
         have hx:newE l (l.getD i default).kind ((s.getD a default).elems.getD b default)=0:=(y61 h15).trans h18
         exact⟨by omega,I13.2.trans (by rw[z2y _ (by omega),hx];rfl)⟩
        ·
         ((try dsimp only);omega)
     ·
      refine .back [.r [(0,X (Xn ((a:Int)+1)))]] [(0,0),(1,1)] (ih10 ((a+1):Nat) ?_ ?_)
      ·
       exact⟨by omega,I13.2.trans (by rw[z4C _ (by omega)];rfl)⟩
      ·
       ((try dsimp only);omega)
    ·
     have T:=fl_ok (i:=i) (F.trans (I10.2.trans (z4C _ (by omega))))
     have e16:((z1l l i s).length:Nat)=l.length:=by
      rw[T.1];exact zp ..
     have e17:((z1l l i s):List Node)=(l.set i ({id:=((l.getD i default)).id,kind:=((l.getD i default)).kind,attrs:=((l.getD i default)).attrs,flow:=(rawD (((l.getD i default)).flow) s),grid:=(((l.getD i default)).grid),draw:=((l.getD i default)).draw}:Node)):=by
      exact T.1
     have e18:((z0V l (l.getD i default) s):Int)=0:=by
      exact T.2
     exact .finE [.r [(4,X (Xe nodeT l i)),(6,X (Xc1 394 (y7V (((l.getD i default)).flow) s (by assumption) (by assumption) (by assumption) (by omega)) X0)),(9,X (Xs 9 nodeT 1 l i ({id:=((l.getD i default)).id,kind:=((l.getD i default)).kind,attrs:=((l.getD i default)).attrs,flow:=(rawD (((l.getD i default)).flow) s),grid:=(((l.getD i default)).grid),draw:=((l.getD i default)).draw}:Node)))],.r []] [(0,0),(1,1)] (fun((z0,z1,z2):Nat×(List Node)×Int)=>(VI z2,[(0,.box [.row 1 z0]),(1,OR 9 nodeT z1)])) _ _ (pr e16 (pr e17 e18))
theorem y4J(l:List Node)(i:Nat)(g:GEd)(hi:i<l.length)(hb:GrB l i g):FC Tryz.prog 78 [.ptr 0 0,.eptr 1 l.length i 0,.t (gedT g)] (app emp [(0,.box [.row 1 l.length]),(1,OR 9 nodeT l)]) (VI (z02 l (l.getD i default) g)) (app emp [(0,.box [.row 1 ((z1w l i g).length)]),(1,OR 9 nodeT (z1w l i g))]):=by
 refine .go Tryz.f78 ?_
 obtain⟨hl1,hs,hg,hm,hx,l1,l2,a1,a2,hk⟩:=hb
 refine .bp [.r [],.r [(3,X (Xe nodeT l i)),(4,X (Xc0 (z7H (((l.getD i default)).kind)) X0))]] (!(hasG (((l.getD i default)).kind))) (fun h1=> ?_) (fun h1=> ?_)
 ·
  have T:=y1a (i:=i) (gr_1 (g:=g) h1) (by decide)
  have e1:((z1w l i g).length:Nat)=l.length:=by
   rw[T.1]
  have e2:((z1w l i g):List Node)=l:=by
   exact T.1
  have e3:((z02 l (l.getD i default) g):Int)=8:=by
   exact T.2
  exact .finE [.r []] [(0,0),(1,1)] (fun((z0,z1,z2):Nat×(List Node)×Int)=>(VI z2,[(0,.box [.row 1 z0]),(1,OR 9 nodeT z1)])) _ _ (pr e1 (pr e2 e3))
 ·
  refine .bp [.r [(3,X (Xe nodeT l i)),(6,X (Xc0 (z8P (((l.getD i default)).kind) g.cells) X0))],.r []] ((cellK (((l.getD i default)).kind) g.cells 0) !=0) (fun h4=> ?_) (fun h4=> ?_)
  ·
   have T:=y1a (i:=i) (gr_2 h1 h4) h4
   have e4:((z1w l i g).length:Nat)=l.length:=by
    rw[T.1]
   have e5:((z1w l i g):List Node)=l:=by
    exact T.1
   have e6:((z02 l (l.getD i default) g):Int)=(cellK (((l.getD i default)).kind) g.cells 0):=by
    exact T.2
   exact .finE [.r []] [(0,0),(1,1)] (fun((z0,z1,z2):Nat×(List Node)×Int)=>(VI z2,[(0,.box [.row 1 z0]),(1,OR 9 nodeT z1)])) _ _ (pr e4 (pr e5 e6))
  ·
   refine .bp [.r [(3,X (Xe nodeT l i)),(5,X (Xc0 (y85 (((l.getD i default)).grid) g (by assumption) (by assumption) (by assumption)) X0))],.r []] ((fitsE (((l.getD i default)).grid) g) !=0) (fun h7=> ?_) (fun h7=> ?_)
   ·
    have T:=y1a (i:=i) (gr_3 h1 h4 h7) h7
    have e7:((z1w l i g).length:Nat)=l.length:=by
     rw[T.1]
    have e8:((z1w l i g):List Node)=l:=by
     exact T.1
    have e9:((z02 l (l.getD i default) g):Int)=(fitsE (((l.getD i default)).grid) g):=by
     exact T.2
    exact .finE [.r []] [(0,0),(1,1)] (fun((z0,z1,z2):Nat×(List Node)×Int)=>(VI z2,[(0,.box [.row 1 z0]),(1,OR 9 nodeT z1)])) _ _ (pr e7 (pr e8 e9))
   ·
    have F:=gr_4 (l:=l) h1 h4 h7
    have hr:=RawT.of h7 hm hg l1 l2 a1 a2
    refine .loop (α:=Nat) [.r [(2,X (Xl cellT g.cells))]] 250 (fun b=>([(0,.ptr 0 0),(1,.eptr 1 l.length i 0),(5,.ptr 2 0),(43,VL 5 cellT g.cells),(44,VI (g.cells.length:Int)),(45,VI (b:Int))],[(0,.box [.row 1 l.length]),(1,OR 9 nodeT l),(2,.box [VL 2 stepT g.rows,VL 2 stepT g.cols,VL 5 cellT g.cells,VL 4 rectT g.split,VL 4 rectT g.merge])])) (fun b=>b<=g.cells.length/\z1A (newC l (l.getD i default).kind) g.cells=z1A (newC l (l.getD i default).kind) (g.cells.drop b)) (fun b=>g.cells.length-b) (0:Nat) ?_ ?_
    ·
     exact⟨by omega,rfl⟩
    rintro b I10 ih10
    try dsimp only at I10
    refine .bp [.r []] (decide ((b:Int)< (g.cells.length:Int))) (fun h10=> ?_) (fun h10=> ?_)
    ·
     refine .bp [.r [(0,X (Xi cellT g.cells (b:Int)))],.r []] ((((g.cells.getD b default)).ref)==0) (fun h12=> ?_) (fun h12=> ?_)
     ·
      refine .back [.r [(0,X (Xn ((b:Int)+1)))]] [(0,0),(1,1),(2,2)] (ih10 ((b+1):Nat) ?_ ?_)
      ·
       exact⟨by omega,I10.2.trans (y1c _ (by omega) (by first|exact y62 h12|exact(y1b h12).trans h14))⟩
      ·
       ((try dsimp only);omega)
     ·
      refine .bp [.r [(6,X (Xe nodeT l i)),(10,X (Xc0 (z35 ({nodes:=l}:Doc) (((l.getD i default)).kind) [((g.cells.getD b default)).ref] (by assumption) (by assumption)) (rowC nodeT l (rowC intT [((g.cells.getD b default)).ref] X0))))],.r []] ((refsE (({nodes:=l}:Doc)).nodes (((l.getD i default)).kind) [((g.cells.getD b default)).ref] 0) !=0) (fun h14=> ?_) (fun h14=> ?_)
      ·
       have hx:newC l (l.getD i default).kind (g.cells.getD b default)=refsE l (l.getD i default).kind [(g.cells.getD b default).ref] 0:=y1b h12
       have T:=y1a (i:=i) (F.trans (I10.2.trans (by rw[z2y _ (by omega),hx,if_pos h14]))) h14
       have e10:((z1w l i g).length:Nat)=l.length:=by
        rw[T.1]
       have e11:((z1w l i g):List Node)=l:=by
        exact T.1
       have e12:((z02 l (l.getD i default) g):Int)=(refsE (({nodes:=l}:Doc)).nodes (((l.getD i default)).kind) [((g.cells.getD b default)).ref] 0):=by
        exact T.2
       exact .finE [.r []] [(0,0),(1,1)] (fun((z0,z1,z2):Nat×(List Node)×Int)=>(VI z2,[(0,.box [.row 1 z0]),(1,OR 9 nodeT z1)])) _ _ (pr e10 (pr e11 e12))
      ·
       refine .back [.r [(0,X (Xn ((b:Int)+1)))]] [(0,0),(1,1),(2,2)] (ih10 ((b+1):Nat) ?_ ?_)
       ·
        exact⟨by omega,I10.2.trans (y1c _ (by omega) (by first|exact y62 h12|exact(y1b h12).trans h14))⟩
       ·
        ((try dsimp only);omega)
    ·
     refine .bp [.r [(3,X (Xe nodeT l i))]] ((((l.getD i default)).kind)==2) (fun h17=> ?_) (fun h17=> ?_)
     ·
      have T:=gr_ok (i:=i) (F.trans (I10.2.trans (z4C _ (by omega))))
      have e13:((z1w l i g).length:Nat)=l.length:=by
       rw[T.1];exact zp ..
      have e14:((z1w l i g):List Node)=(l.set i ({id:=((l.getD i default)).id,kind:=((l.getD i default)).kind,attrs:=((l.getD i default)).attrs,flow:=((l.getD i default)).flow,grid:=((rawT (((l.getD i default)).grid) g)),draw:=((l.getD i default)).draw}:Node)):=by
       exact T.1
      have e15:((z02 l (l.getD i default) g):Int)=0:=by
       exact T.2
      exact .finE [.r [(4,X (Xe nodeT l i)),(6,X (Xc1 346 (y7Q (((l.getD i default)).grid) g (by assumption)) X0)),(9,X (Xs 9 nodeT 1 l i ({id:=((l.getD i default)).id,kind:=((l.getD i default)).kind,attrs:=((l.getD i default)).attrs,flow:=((l.getD i default)).flow,grid:=((rawT (((l.getD i default)).grid) g)),draw:=((l.getD i default)).draw}:Node)))],.r []] [(0,0),(1,1)] (fun((z0,z1,z2):Nat×(List Node)×Int)=>(VI z2,[(0,.box [.row 1 z0]),(1,OR 9 nodeT z1)])) _ _ (pr e13 (pr e14 e15))
     ·
      exfalso
      exact y89 h1 hk h17
theorem y8l(l:List Node)(o:EOp)(hb:OneB l o):FC Tryz.prog 37 [.ptr 0 0,.t (eopT o)] (app emp [(0,.box [.row 1 l.length]),(1,OR 9 nodeT l)]) (VI (oneE l o)) (app emp [(0,.box [.row 1 ((oneL l o).length)]),(1,OR 9 nodeT (oneL l o))]):=by
 refine .go Tryz.f37 ?_
 obtain⟨hl1,hl2,hs⟩:=hb.base
 refine .bp [.r [],.r []] (o.kind==0) (fun h1=> ?_) (fun h1=> ?_)
 ·
  obtain⟨n1,n2⟩:=hb.nw h1
  have T:=one_0 (l:=l) h1
  have e1:((oneL l o).length:Nat)=(insR l o.nw).length:=by
   rw[T.1]
  have e2:((oneL l o):List Node)=(insR l o.nw):=by
   exact T.1
  have e3:((oneE l o):Int)=(adnE l o.nw):=by
   exact T.2
  exact .finE [.r [(3,X (Xc3 66 [(0,0),(1,1)] (y2u l o.nw (by omega) (by assumption) (by assumption) (by assumption)) X0))]] [(0,0),(1,1)] (fun((z0,z1,z2):Nat×(List Node)×Int)=>(VI z2,[(0,.box [.row 1 z0]),(1,OR 9 nodeT z1)])) _ _ (pr e1 (pr e2 e3))
 ·
  refine .bp [.r [(5,X (Xc0 (z5i ({nodes:=l}:Doc) o.node (by assumption) (by assumption)) (rowC nodeT l X0)))],.r []] (decide ((ixN (({nodes:=l}:Doc)).nodes o.node)< 0)) (fun h4=> ?_) (fun h4=> ?_)
  ·
   have T:=one_1 h1 (y09.1 h4)
   have e4:((oneL l o).length:Nat)=l.length:=by
    rw[T.1]
   have e5:((oneL l o):List Node)=l:=by
    exact T.1
   have e6:((oneE l o):Int)=7:=by
    exact T.2
   exact .finE [.r []] [(0,0),(1,1)] (fun((z0,z1,z2):Nat×(List Node)×Int)=>(VI z2,[(0,.box [.row 1 z0]),(1,OR 9 nodeT z1)])) _ _ (pr e4 (pr e5 e6))
  ·
   have hh:=y08.1 h4
   have hlt:=(z06.1 hh).1
   have hbn:=hb.nd hh
   refine .bp [.le (.eq 5 (VI (ixN (({nodes:=l}:Doc)).nodes o.node)) (VI ((lobN l o.node):Int)) (.of_eq (by rw[z9S hh]))),.r [(5,X (Xp nodeT l ((lobN l o.node):Int)))],.r [],.r []] (o.kind==1) (fun h8=> ?_) (fun h8=> ?_)
   ·
    have T:=one_2 hh h8
    have e7:((oneL l o).length:Nat)=l.length:=by
     rw[T.1];exact zp ..
    have e8:((oneL l o):List Node)=(l.set (lobN l o.node) ({id:=((l.getD (lobN l o.node) default)).id,kind:=((l.getD (lobN l o.node) default)).kind,attrs:=(fm rawG (((l.getD (lobN l o.node) default)).attrs) o.attrs),flow:=((l.getD (lobN l o.node) default)).flow,grid:=(((l.getD (lobN l o.node) default)).grid),draw:=((l.getD (lobN l o.node) default)).draw}:Node)):=by
     exact T.1
    have e9:((oneE l o):Int)=0:=by
     exact T.2
    exact .finE [.r [(4,X (Xe nodeT l (lobN l o.node))),(7,X (Xc1 258 (z5U (((l.getD (lobN l o.node) default)).attrs) o.attrs (by omega)) X0)),(10,X (Xs 9 nodeT 1 l (lobN l o.node) ({id:=((l.getD (lobN l o.node) default)).id,kind:=((l.getD (lobN l o.node) default)).kind,attrs:=(fm rawG (((l.getD (lobN l o.node) default)).attrs) o.attrs),flow:=((l.getD (lobN l o.node) default)).flow,grid:=(((l.getD (lobN l o.node) default)).grid),draw:=((l.getD (lobN l o.node) default)).draw}:Node)))],.r []] [(0,0),(1,1)] (fun((z0,z1,z2):Nat×(List Node)×Int)=>(VI z2,[(0,.box [.row 1 z0]),(1,OR 9 nodeT z1)])) _ _ (pr e7 (pr e8 e9))
   ·
    refine .bp [.r []] (o.kind==2) (fun h11=> ?_) (fun h11=> ?_)
    ·
     have T:=one_3 (l:=l) hh h11
     have hfl:=hb.fl hh h11
     have e10:((oneL l o).length:Nat)=(z1l l (lobN l o.node) o.steps).length:=by
      rw[T.1]
     have e11:((oneL l o):List Node)=(z1l l (lobN l o.node) o.steps):=by
      exact T.1
     have e12:((oneE l o):Int)=(z0V l ((l).getD (lobN l o.node) default) o.steps):=by
      exact T.2
     exact .finE [.r [(4,X (Xc3 250 [(0,0),(1,1)] (y4I l (lobN l o.node) o.steps (by assumption) (by assumption)) X0))]] [(0,0),(1,1)] (fun((z0,z1,z2):Nat×(List Node)×Int)=>(VI z2,[(0,.box [.row 1 z0]),(1,OR 9 nodeT z1)])) _ _ (pr e10 (pr e11 e12))
    ·
     refine .bp [.r []] (o.kind==3) (fun h13=> ?_) (fun h13=> ?_)
     ·
      have T:=one_4 (l:=l) hh h13
      have hgr:=hb.gr hh h13
      have e13:((oneL l o).length:Nat)=(z1w l (lobN l o.node) o.grid).length:=by
       rw[T.1]
      have e14:((oneL l o):List Node)=(z1w l (lobN l o.node) o.grid):=by
       exact T.1
      have e15:((oneE l o):Int)=(z02 l ((l).getD (lobN l o.node) default) o.grid):=by
       exact T.2
      exact .finE [.r [(4,X (Xc3 266 [(0,0),(1,1)] (y4J l (lobN l o.node) o.grid (by assumption) (by assumption)) X0))]] [(0,0),(1,1)] (fun((z0,z1,z2):Nat×(List Node)×Int)=>(VI z2,[(0,.box [.row 1 z0]),(1,OR 9 nodeT z1)])) _ _ (pr e13 (pr e14 e15))
     ·
      have hkk:=hb.kd h1 h8 h11 h13
      refine .bp [.r [(3,X (Xe nodeT l (lobN l o.node))),(4,X (Xc0 (y01 (((l.getD (lobN l o.node) default)).kind)) X0))]] (!(hasD (((l.getD (lobN l o.node) default)).kind))) (fun h15=> ?_) (fun h15=> ?_)
      ·
       have T:=one_5 hh hkk h15
       have e16:((oneL l o).length:Nat)=l.length:=by
        rw[T.1]
       have e17:((oneL l o):List Node)=l:=by
        exact T.1
       have e18:((oneE l o):Int)=8:=by
        exact T.2
       exact .finE [.r []] [(0,0),(1,1)] (fun((z0,z1,z2):Nat×(List Node)×Int)=>(VI z2,[(0,.box [.row 1 z0]),(1,OR 9 nodeT z1)])) _ _ (pr e16 (pr e17 e18))
      ·
       have hdr:=hb.dr hh hkk
       refine .bp [.r [(3,X (Xe nodeT l (lobN l o.node))),(6,X (Xc1 330 (y5W (((l.getD (lobN l o.node) default)).draw) o.draw (by first|omega| (simp;omega))) X0))],.r []] ((if(z0w (((l.getD (lobN l o.node) default)).draw) o.draw).isSome then(0:Int) else 6)==0) (fun h18=> ?_) (fun h18=> ?_)
       ·
        have T:=one_6 (l:=l) hh hkk h15
        have e19:((oneL l o).length:Nat)=l.length:=by
         rw[T.1 h18];exact zp ..
        have e20:((oneL l o):List Node)=(l.set (lobN l o.node) ({id:=((l.getD (lobN l o.node) default)).id,kind:=((l.getD (lobN l o.node) default)).kind,attrs:=((l.getD (lobN l o.node) default)).attrs,flow:=((l.getD (lobN l o.node) default)).flow,grid:=(((l.getD (lobN l o.node) default)).grid),draw:=((z0w (((l.getD (lobN l o.node) default)).draw) o.draw).getD [])}:Node)):=by
         exact T.1 h18
        have e21:((oneE l o):Int)=(if(z0w (((l.getD (lobN l o.node) default)).draw) o.draw).isSome then(0:Int) else 6):=by
         exact T.2.2
        exact .finE [.r [(4,X (Xs 9 nodeT 1 l (lobN l o.node) ({id:=((l.getD (lobN l o.node) default)).id,kind:=((l.getD (lobN l o.node) default)).kind,attrs:=((l.getD (lobN l o.node) default)).attrs,flow:=((l.getD (lobN l o.node) default)).flow,grid:=(((l.getD (lobN l o.node) default)).grid),draw:=((z0w (((l.getD (lobN l o.node) default)).draw) o.draw).getD [])}:Node)))],.r []] [(0,0),(1,1)] (fun((z0,z1,z2):Nat×(List Node)×Int)=>(VI z2,[(0,.box [.row 1 z0]),(1,OR 9 nodeT z1)])) _ _ (pr e19 (pr e20 e21))
       ·
        have T:=one_6 (l:=l) hh hkk h15
        have e22:((oneL l o).length:Nat)=l.length:=by
         rw[T.2.1 h18]
        have e23:((oneL l o):List Node)=l:=by
         exact T.2.1 h18
        have e24:((oneE l o):Int)=(if(z0w (((l.getD (lobN l o.node) default)).draw) o.draw).isSome then(0:Int) else 6):=by
         exact T.2.2
        exact .finE [.r []] [(0,0),(1,1)] (fun((z0,z1,z2):Nat×(List Node)×Int)=>(VI z2,[(0,.box [.row 1 z0]),(1,OR 9 nodeT z1)])) _ _ (pr e22 (pr e23 e24))
theorem z5o(d:Doc)(c:List EOp)(hb:AppB d c):FC Tryz.prog 13 [.t (docT d),VL 19 eopT c] (app emp []) (.tup [.t (docT (appD d c)),VI (appE d c)]) (app emp []):=by
 refine .go Tryz.f13 ?_
 refine .len 1 (fun hl1=> ?_)
 obtain⟨hd,ho,hr⟩:=hb
 have hdb:=hd.toDocB
 refine .bp [.r [],.r [(1,X (Xc0 (z3f d (by assumption)) X0))],.r []] ((docE d) !=0) (fun h2=> ?_) (fun h2=> ?_)
 ·
  have T:=app_1 (c:=c) h2
  have e1:((appD d c):Doc)=({nodes:=[]}:Doc):=by
   exact T.1
  have e2:((appE d c):Int)=(docE d):=by
   exact T.2
  exact .finVE [.r [(0,X (Xf [(0,9)]))]] [] [] (fun((z0,z1):Doc×Int)=>(.tup [.t (docT z0),VI z1],[])) _ _ (pr e1 e2)
 ·
  refine .bp [.r [(1,X (Xc0 (y4b c (by assumption)) X0))],.r []] ((eopsE c 0) !=0) (fun h5=> ?_) (fun h5=> ?_)
  ·
   have T:=app_2 (d:=d) (by omega) h5
   have e3:((appD d c):Doc)=({nodes:=[]}:Doc):=by
    exact T.1
   have e4:((appE d c):Int)=(eopsE c 0):=by
    exact T.2
   exact .finVE [.r [(0,X (Xf [(0,9)]))]] [] [] (fun((z0,z1):Doc×Int)=>(.tup [.t (docT z0),VI z1],[])) _ _ (pr e3 e4)
  ·
   refine .loop (α:=Nat×(List Node)) [.r [(1,X (Xc1 112 (y3X d (by assumption)) X0))],.r [(1,X (Xl eopT c))]] 160 (fun(i,o)=>([(4,.ptr 8 0),(8,.ptr 120 0),(26,VL 19 eopT c),(27,VI (c.length:Int)),(28,VI (i:Int))],[(8,.box [VN]),(113,OR 9 nodeT o),(120,.box [.row 113 o.length])])) (fun(i,o)=>i<=c.length/\RunB o (c.drop i)/\runE d.nodes c=runE o (c.drop i)/\runL d.nodes c=runL o (c.drop i)) (fun(i,o)=>c.length-i) (0,(d).nodes) ?_ ?_
   ·
    exact⟨by omega,hr (by omega) (by omega),rfl,rfl⟩
   rintro⟨i,o⟩ I9 ih9
   try dsimp only at I9
   refine .bp [.r []] (decide ((i:Int)< (c.length:Int))) (fun h9=> ?_) (fun h9=> ?_)
   ·
    obtain⟨q1,q2,q3,q4⟩:=I9
    rw[z3e (by omega)] at q2 q3 q4
    have hone:=q2.1
    refine .bp [.r [(0,X (Xi eopT c (i:Int)))],.r [(1,X (Xc3 208 [(0,120),(1,113)] (y8l o ((c.getD i default)) (by assumption)) X0))],.r []] ((oneE o ((c.getD i default))) !=0) (fun h12=> ?_) (fun h12=> ?_)
    ·
     have T:=app_3 (d:=d) (c:=c) (by omega) (by omega) (q3.trans (by rw[runE,if_pos h12])) h12
     have e5:((appD d c):Doc)=({nodes:=[]}:Doc):=by
      exact T.1
     have e6:((appE d c):Int)=(oneE o ((c.getD i default))):=by
      exact T.2
     exact .finVE [.r [(0,X (Xf [(0,9)]))]] [] [] (fun((z0,z1):Doc×Int)=>(.tup [.t (docT z0),VI z1],[])) _ _ (pr e5 e6)
    ·
     refine .back [.r [(0,X (Xn ((i:Int)+1)))]] [(8,8),(113,113),(120,120)] (ih9 ((i+1),(oneL o ((c.getD i default)))) ?_ ?_)
     ·
      rw[runE,if_neg (by omega)] at q3
      exact⟨by omega,q2.2 h12,q3,q4⟩
     ·
      ((try dsimp only);omega)
   ·
    have T:=app_4 (d:=d) (c:=c) (by omega) (by omega) (I9.2.2.1.trans (by rw[qP (by omega)];try rfl)) (I9.2.2.2.trans (by rw[qP (by omega)];try rfl))
    have e7:((appD d c):Doc)=({nodes:=o}:Doc):=by
     exact T.1
    have e8:((appE d c):Int)=0:=by
     exact T.2
    exact .finVE [.r []] [.fR 0 [(o.length:Nat)=(List.map nodeT o).length] ⟨lm,trivial⟩] [] (fun((z0,z1):Doc×Int)=>(.tup [.t (docT z0),VI z1],[])) _ _ (pr e7 e8)
end Go.Ch
end
section
namespace Go.Ch
open Go Go.Ab
def z0e:Doc:=⟨[⟨1,0,[],[⟨0,2,[]⟩],⟨0,0,[],[]⟩,[]⟩,⟨2,1,[],[⟨10,0,[]⟩],⟨0,0,[],[]⟩,[]⟩]⟩
def baseD:Doc:=⟨[⟨1,0,[],[⟨0,2,[]⟩,⟨0,3,[]⟩],⟨0,0,[],[]⟩,[]⟩,⟨2,1,[],[⟨97,0,[]⟩,⟨98,0,[]⟩,⟨99,0,[]⟩,⟨10,0,[]⟩,⟨100,0,[]⟩,⟨10,0,[]⟩],⟨0,0,[],[]⟩,[]⟩,⟨3,10,[],[],⟨0,0,[],[]⟩,[]⟩]⟩
def node1:Node:=⟨1,0,[],[⟨0,2,[]⟩],⟨0,0,[],[]⟩,[]⟩
def node2:Node:=⟨2,1,[],[⟨10,0,[]⟩],⟨0,0,[],[]⟩,[]⟩
theorem z6h:docE z0e=0:=by decide+kernel
theorem z6i:DocL z0e:=by
 have hx:∀n∈z0e.nodes,n=node1\/n=node2:=fun n hn=>by
  have hn:n∈[node1,node2]:=hn
  simpa using hn
 refine⟨⟨by decide,fun n hn=> ?_,by decide⟩,fun n hn=> ?_⟩
 ·rcases hx n hn with rfl|rfl
  ·refine⟨(fun a h=>by cases h),by decide,fun x h=> ?_,by decide,fun x h=> ?_,(fun c h=>by cases h),by decide,(fun c h=>by cases h),by decide,by decide,(fun o h=>by cases h)⟩
   ·rw[show x=⟨0,2,[]⟩ by simpa[node1] using h];exact(fun a h=>by cases h)
   ·rw[show x=⟨0,2,[]⟩ by simpa[node1] using h];decide
  ·refine⟨(fun a h=>by cases h),by decide,fun x h=> ?_,by decide,fun x h=> ?_,(fun c h=>by cases h),by decide,(fun c h=>by cases h),by decide,by decide,(fun o h=>by cases h)⟩
   ·rw[show x=⟨10,0,[]⟩ by simpa[node2] using h];exact(fun a h=>by cases h)
   ·rw[show x=⟨10,0,[]⟩ by simpa[node2] using h];decide
 ·rcases hx n hn with rfl|rfl<;>exact⟨rfl,(fun c h=>by cases h)⟩
structure Vis where
 id:Int
 parent:Int
 vis:Bool
instance:Inhabited Vis:=⟨⟨0,0,false⟩⟩
def onM(k:Int):Int×MV:=(k,.im (Ab.TB true))
def onA(s:ByteArray):List Attr:=[⟨s,{data:=#[111,110]}⟩]
def probE:List EOp:=[opA 2 (onA {data:=#[116,105,116,108,101]})]
theorem y9k:AppB z0e probE:=by
 have hl:=z6i
 have ho:OpL (opA 2 (onA {data:=#[116,105,116,108,101]})):=by
  refine⟨⟨by decide,by decide,by decide,by decide,by decide⟩,⟨(fun a h=>by cases h),by decide,(fun x h=>by cases h),by decide,(fun x h=>by cases h),(fun c h=>by cases h),by decide,(fun c h=>by cases h),by decide,by decide,(fun o h=>by cases h)⟩,⟨rfl,(fun c h=>by cases h)⟩,by decide,(fun s h=>by cases h),⟨rfl,rfl,(fun c h=>by cases h),by decide⟩,(fun c h=>by cases h),by decide⟩
 refine⟨hl,fun o h=> ?_,fun h1 h2=>⟨⟨by decide,z5f z6h,by decide+kernel,ho,fun n hn=>⟨hl.all n hn,hl.lite n hn,?_⟩,fun h=>absurd h (by decide)⟩,fun _=>trivial⟩⟩
 ·rw[show o=opA 2 (onA {data:=#[116,105,116,108,101]}) by simpa[probE] using h];exact ho
 ·have hn:n∈[node1,node2]:=hn
  simp only[qj,qS,or_false] at hn
  rcases hn with rfl|rfl<;>decide
def stepG(site:Int)(d:Doc)(a b c:Int):Doc:=if appE d (cmdP d site a b c)=0 then appD d (cmdP d site a b c) else d
theorem z6j{site:Int}{d:Doc}{a b c:Int}(h:appE d (cmdP d site a b c)=0):stepG site d a b c=appD d (cmdP d site a b c):=if_pos h
theorem z6k{site:Int}{d:Doc}{a b c:Int}(h:¬appE d (cmdP d site a b c)=0):stepG site d a b c=d:=if_neg h
def z1y(site:Int)(raw:List Int)(d:Doc)(k:Nat):Doc:=
 if k+2<raw.length/\k<36 then z1y site raw (stepG site d (raw.getD k default) (raw.getD (k+1) default) (raw.getD (k+2) default)) (k+3) else d
termination_by raw.length-k
theorem z5p{site:Int}{raw:List Int}{d:Doc}{k:Nat}(h:k+2<raw.length/\k<36):z1y site raw d k=z1y site raw (stepG site d (raw.getD k default) (raw.getD (k+1) default) (raw.getD (k+2) default)) (k+3):=by
 rw[z1y,if_pos h]
theorem z6l{site:Int}{raw:List Int}{d:Doc}{k:Nat}(h:¬(k+2<raw.length/\k<36)):z1y site raw d k=d:=by rw[z1y,if_neg h]
structure GInv(site:Int)(G:Nat->Doc->Prop):Prop where
 doc:∀{k d},G k d->DocL d
 cmd:∀{k d} (b c:Int),G k d->CmdB d site b c
 app:∀{k d} (a b c:Int),G k d->AppB d (cmdP d site a b c)
 step:∀{k d} (a b c:Int),k<55->G k d->G (k+3) (stepG site d a b c)
 more:∀{k d},k<55->G k d->G (k+3) d
end Go.Ch
end
section
set_option maxRecDepth 100000
set_option maxHeartbeats 4000000
open Go Go.Proofs Go.Ab
namespace Go.Ch
theorem z5q:FC Tryz.prog 21 [] (app emp []) (.t (docT z0e)) (app emp []):=by
 refine .go Tryz.f21 ?_
 have e1:(z0e:Doc)=({nodes:=[({id:=1,kind:=0,attrs:=[],flow:=[({char:=0,ref:=2,attrs:=[]}:Elem)],grid:=({rows:=0,cols:=0,cells:=[],merges:=[]}:Grid),draw:=[]}:Node),({id:=2,kind:=1,attrs:=[],flow:=[({char:=10,ref:=0,attrs:=[]}:Elem)],grid:=({rows:=0,cols:=0,cells:=[],merges:=[]}:Grid),draw:=[]}:Node)]}:Doc):=by
  rfl
 exact .finVE [.r [],.r [(0,X (Xf [(2,2)])),(2,X (Xf [(2,2),(6,5),(7,4),(8,8)])),(3,X (Xf [(2,2)])),(5,X (Xf [(2,2),(6,5),(7,4),(8,8)])),(6,X (rowC elemT [({char:=0,ref:=2,attrs:=[]}:Elem)] (rowC elemT [({char:=10,ref:=0,attrs:=[]}:Elem)] X0)))]] [.fR 0 [(2:Nat)=(List.map nodeT [({id:=1,kind:=0,attrs:=[],flow:=[({char:=0,ref:=2,attrs:=[]}:Elem)],grid:=({rows:=0,cols:=0,cells:=[],merges:=[]}:Grid),draw:=[]}:Node),({id:=2,kind:=1,attrs:=[],flow:=[({char:=10,ref:=0,attrs:=[]}:Elem)],grid:=({rows:=0,cols:=0,cells:=[],merges:=[]}:Grid),draw:=[]}:Node)]).length] ⟨lm,trivial⟩] [] (fun z0:Doc=>(.t (docT z0),[])) _ _ e1
theorem y4K:FC Tryz.prog 21 [] (app emp []) (.agg [.bsl 1 2]) (app emp [(0,.box [.bsl 1 2]),(1,.box [VI 1,VI 0,VL 2 attrT [],.row 2 1,VI 0,VI 0,VL 5 cellT [],VL 4 rectT [],VL 8 dopT [],VI 2,VI 1,VL 2 attrT [],.row 3 1,VI 0,VI 0,VL 5 cellT [],VL 4 rectT [],VL 8 dopT []]),(2,OR 3 elemT [({char:=0,ref:=2,attrs:=[]}:Elem)]),(3,OR 3 elemT [({char:=10,ref:=0,attrs:=[]}:Elem)])]):=by
 refine .go Tryz.f21 ?_
 exact .fin [.r [],.r [(0,X (Xf [(2,2)])),(2,X (Xf [(2,2),(6,5),(7,4),(8,8)])),(3,X (Xf [(2,2)])),(5,X (Xf [(2,2),(6,5),(7,4),(8,8)])),(6,X Xbsl)]] [(0,0),(56,1),(16,2),(40,3)]
theorem y8m:FC Tryz.prog 144 [.t (.agg [TI 1,TI 0,Ab.TB true]),.ptr 0 0,.ptr 1 0] (app emp [(0,.box [VI 2]),(1,.box [VB false])]) (VB true) (app emp [(0,.box [VI 2]),(1,.box [VB false])]):=by
 refine .go Tryz.f144 ?_
 exact .fin [.r [],.r [],.f,.r []] [(0,0),(1,1)]
theorem y8n:FC Tryz.prog 144 [.t (.agg [TI 2,TI 1,Ab.TB true]),.ptr 0 0,.ptr 1 0] (app emp [(0,.box [VI 2]),(1,.box [VB false])]) (VB false) (app emp [(0,.box [VI 2]),(1,.box [VB true])]):=by
 refine .go Tryz.f144 ?_
 exact .fin [.r [],.r [],.t,.r [],.r []] [(0,0),(1,1)]
theorem fc_w2:FC Tryz.prog 187 [.t (.agg [TI 2,TI 1,Ab.TB true]),.ptr 0 0,.ptr 1 0,.ptr 2 0,.ptr 3 0] (app emp [(0,.box [.hdl 4]),(1,.box [.fn 144 [.ptr 5 0,.ptr 6 0]]),(2,.box [VL 9 nodeT z0e.nodes]),(3,.box [.fn 187 [.ptr 0 0,.ptr 1 0,.ptr 2 0,.ptr 3 0]]),(4,.mp (List.map onM [1]) none),(5,.box [VI 2]),(6,.box [VB false])]) (VB false) (app emp [(0,.box [.hdl 4]),(1,.box [.fn 144 [.ptr 5 0,.ptr 6 0]]),(2,.box [VL 9 nodeT z0e.nodes]),(3,.box [.fn 187 [.ptr 0 0,.ptr 1 0,.ptr 2 0,.ptr 3 0]]),(4,.mp (List.map onM [1,2]) none),(5,.box [VI 2]),(6,.box [VB true])]):=by
 refine .go Tryz.f187 ?_
 exact .fin [.r [],.r [(3,X (Xm0 (List.map onM [1]) 2) (by kernel_rfl))],.f,.r [(3,X (Xmu onM [1] [1,2] 2 4 (.im (Ab.TB true))) (by kernel_rfl))],.r [(2,X (Xc3 103 [(0,5),(1,6)] y8n X0))],.t,.r []] [(0,0),(1,1),(2,2),(3,3),(4,4),(5,5),(6,6)]
theorem fc_w1:FC Tryz.prog 187 [.t (.agg [TI 1,TI 0,Ab.TB true]),.ptr 0 0,.ptr 1 0,.ptr 2 0,.ptr 3 0] (app emp [(0,.box [.hdl 4]),(1,.box [.fn 144 [.ptr 5 0,.ptr 6 0]]),(2,.box [VL 9 nodeT z0e.nodes]),(3,.box [.fn 187 [.ptr 0 0,.ptr 1 0,.ptr 2 0,.ptr 3 0]]),(4,.mp (List.map onM []) none),(5,.box [VI 2]),(6,.box [VB false])]) (VB false) (app emp [(0,.box [.hdl 4]),(1,.box [.fn 144 [.ptr 5 0,.ptr 6 0]]),(2,.box [VL 9 nodeT z0e.nodes]),(3,.box [.fn 187 [.ptr 0 0,.ptr 1 0,.ptr 2 0,.ptr 3 0]]),(4,.mp (List.map onM [1,2]) none),(5,.box [VI 2]),(6,.box [VB true])]):=by
 refine .go Tryz.f187 ?_
 have hs:=z5f z6h
 have hl:z0e.nodes.length<=1048576:=by decide
 refine .bp [.r [],.r [(3,X (Xm0 (List.map onM []) 1) (by kernel_rfl))],.f,.r [(3,X (Xmu onM [] [1] 1 4 (.im (Ab.TB true))) (by kernel_rfl))],.r [(2,X (Xc3 103 [(0,5),(1,6)] y8m X0))],.f,.r [(3,X (Xc0 (z7J z0e 1 (by assumption) (by assumption)) X0))],.le (.eq 7 (VI (lobN (z0e).nodes 1:Int)) (VI 0) (.of_eq (by kernel_rfl))),.r [(3,X (Xi nodeT z0e.nodes 0) ⟨(by first|omega| (simp;omega)| (simp;done)|assumption),(by decide)⟩)],.r [(2,X (Xc1 263 (z50 (((z0e.nodes.getD 0 default)).flow) (by decide)) X0))],.u,.r []] (decide (0< ((refsF (((z0e.nodes.getD 0 default)).flow)).length:Int))) (fun h9=> ?_) (fun h9=> ?_)
 ·
  exact .fin [.r [(0,X (Xp intT (refsF (((z0e.nodes.getD 0 default)).flow)) 0)),(1,X (Xe intT (refsF (((z0e.nodes.getD 0 default)).flow)) 0))],.le (.eq 11 (VI ((refsF (((z0e.nodes.getD 0 default)).flow)).getD 0 default)) (VI 2) (.of_eq (by kernel_rfl))),.r [(7,X (Xc3 375 [(0,0),(1,1),(2,2),(3,3),(4,4),(5,5),(6,6)] fc_w2 X0))],.t,.r []] [(0,0),(1,1),(2,2),(3,3),(4,4),(5,5),(6,6)]
 ·
  exfalso
  exact absurd h9 (by decide)
theorem y6u:FC Tryz.prog 143 [.t (docT z0e),.fn 144 [.ptr 0 0,.ptr 1 0]] (app emp [(0,.box [VI 2]),(1,.box [VB false])]) (.tup []) (app emp [(0,.box [VI 2]),(1,.box [VB true])]):=by
 refine .go Tryz.f143 ?_
 exact .fin [.r [],.r [],.r [],.r [],.r [(2,X (Xc3 82 [(0,26),(1,10),(2,2),(3,42),(4,18),(5,0),(6,1)] fc_w1 X0))]] [(0,0),(1,1)]
theorem y2v:FC Tryz.prog 92 [.t (docT z0e),VI 2] (app emp []) (VB true) (app emp []):=by
 refine .go Tryz.f92 ?_
 have hb:=z6i
 refine .bp [.r [],.r [],.r [(1,X (Xc0 (z3f z0e (by assumption)) X0))]] ((docE z0e) !=0) (fun h2=> ?_) (fun h2=> ?_)
 ·
  exfalso
  exact h2 z6h
 ·
  exact .fin [.r [(2,X (Xc3 80 [(0,8),(1,24)] y6u X0))],.r []] []
theorem y8o:FC Tryz.prog 53 [] (app emp []) (VB true) (app emp []):=by
 refine .go Tryz.f53 ?_
 have hb:=z6i
 have e1:(((((docE z0e)==0)&&((z0e.nodes.length:Int)==2))||false):Bool)=true:=by
  rw[z6h];rfl
 exact .finE [.r [],.r [(0,X (Xc1 8 z5q X0))],.r [(1,X (Xc0 (z3f z0e (by assumption)) X0)),(5,Xv 1 ((docE z0e)==0) X0),(6,Xv 1 ((docE z0e)==0) (Xl nodeT z0e.nodes)),(7,Xv 1 ((docE z0e)==0) X0),(8,X (Xk ((docE z0e)==0))),(11,Xv 1 (((docE z0e)==0)&&((z0e.nodes.length:Int)==2)) (Xc0 y2v X0)),(12,X (Xk (((docE z0e)==0)&&((z0e.nodes.length:Int)==2))))]] [] (fun z0:Bool=>(VB z0,[])) _ _ e1.symm
theorem y9l(s:ByteArray):FC Tryz.prog 52 [VS s] (app emp []) (VL 2 attrT (onA s)) (app emp []):=by
 refine .go Tryz.f52 ?_
 have e1:((onA s):List Attr)=[({name:=s,val:={data:=#[111,110]}}:Attr)]:=by
  rfl
 exact .finE [.r [],.r [],.le (.fr 2 [(1:Nat)=(List.map attrT [({name:=s,val:={data:=#[111,110]}}:Attr)]).length] ⟨lm,trivial⟩)] [] (fun z0:List Attr=>(VL 2 attrT z0,[])) _ _ e1
theorem y6v:FC Tryz.prog 22 [] (app emp []) (VB true) (app emp []):=by
 refine .go Tryz.f22 ?_
 have hp:=y9k
 have e1:((((true&&((appE z0e [({kind:=1,node:=2,nw:=({id:=0,kind:=0,attrs:=[],flow:=[],grid:=({rows:=0,cols:=0,cells:=[],merges:=[]}:Grid),draw:=[]}:Node),attrs:=(onA ({data:=#[116,105,116,108,101]})),steps:=[],grid:=({rows:=[],cols:=[],cells:=[],split:=[],merge:=[]}:GEd),draw:=[]}:EOp)])==0))&&(((((appD z0e [({kind:=1,node:=2,nw:=({id:=0,kind:=0,attrs:=[],flow:=[],grid:=({rows:=0,cols:=0,cells:=[],merges:=[]}:Grid),draw:=[]}:Node),attrs:=(onA ({data:=#[116,105,116,108,101]})),steps:=[],grid:=({rows:=[],cols:=[],cells:=[],split:=[],merge:=[]}:GEd),draw:=[]}:EOp)])).nodes).length:Int)==2))&&((((((((appD z0e [({kind:=1,node:=2,nw:=({id:=0,kind:=0,attrs:=[],flow:=[],grid:=({rows:=0,cols:=0,cells:=[],merges:=[]}:Grid),draw:=[]}:Node),attrs:=(onA ({data:=#[116,105,116,108,101]})),steps:=[],grid:=({rows:=[],cols:=[],cells:=[],split:=[],merge:=[]}:GEd),draw:=[]}:EOp)])).nodes).getD 1 default)).attrs).length:Int)==1)):Bool)=true:=by
  exact(by decide+kernel)
 exact .finE [.r [],.r [(0,X (Xc1 8 z5q X0)),(1,X (Xc1 16 (y9l ({data:=#[116,105,116,108,101]})) X0)),(2,X (Xf [(4,2),(5,3),(8,5),(9,4),(10,8),(12,4),(13,2),(14,2),(15,5),(16,4),(17,4),(18,8)])),(4,X (Xc1 40 (z5o z0e [({kind:=1,node:=2,nw:=({id:=0,kind:=0,attrs:=[],flow:=[],grid:=({rows:=0,cols:=0,cells:=[],merges:=[]}:Grid),draw:=[]}:Node),attrs:=(onA ({data:=#[116,105,116,108,101]})),steps:=[],grid:=({rows:=[],cols:=[],cells:=[],split:=[],merge:=[]}:GEd),draw:=[]}:EOp)] hp) (rowC eopT [({kind:=1,node:=2,nw:=({id:=0,kind:=0,attrs:=[],flow:=[],grid:=({rows:=0,cols:=0,cells:=[],merges:=[]}:Grid),draw:=[]}:Node),attrs:=(onA ({data:=#[116,105,116,108,101]})),steps:=[],grid:=({rows:=[],cols:=[],cells:=[],split:=[],merge:=[]}:GEd),draw:=[]}:EOp)] X0)))],.r [(0,X (Xc0 y8o X0)),(3,Xv 1 true X0),(4,X (Xk true)),(7,Xv 1 (true&&((appE z0e [({kind:=1,node:=2,nw:=({id:=0,kind:=0,attrs:=[],flow:=[],grid:=({rows:=0,cols:=0,cells:=[],merges:=[]}:Grid),draw:=[]}:Node),attrs:=(onA ({data:=#[116,105,116,108,101]})),steps:=[],grid:=({rows:=[],cols:=[],cells:=[],split:=[],merge:=[]}:GEd),draw:=[]}:EOp)])==0)) X0),(8,Xv 1 (true&&((appE z0e [({kind:=1,node:=2,nw:=({id:=0,kind:=0,attrs:=[],flow:=[],grid:=({rows:=0,cols:=0,cells:=[],merges:=[]}:Grid),draw:=[]}:Node),attrs:=(onA ({data:=#[116,105,116,108,101]})),steps:=[],grid:=({rows:=[],cols:=[],cells:=[],split:=[],merge:=[]}:GEd),draw:=[]}:EOp)])==0)) (Xl nodeT (((appD z0e [({kind:=1,node:=2,nw:=({id:=0,kind:=0,attrs:=[],flow:=[],grid:=({rows:=0,cols:=0,cells:=[],merges:=[]}:Grid),draw:=[]}:Node),attrs:=(onA ({data:=#[116,105,116,108,101]})),steps:=[],grid:=({rows:=[],cols:=[],cells:=[],split:=[],merge:=[]}:GEd),draw:=[]}:EOp)])).nodes))),(9,Xv 1 (true&&((appE z0e [({kind:=1,node:=2,nw:=({id:=0,kind:=0,attrs:=[],flow:=[],grid:=({rows:=0,cols:=0,cells:=[],merges:=[]}:Grid),draw:=[]}:Node),attrs:=(onA ({data:=#[116,105,116,108,101]})),steps:=[],grid:=({rows:=[],cols:=[],cells:=[],split:=[],merge:=[]}:GEd),draw:=[]}:EOp)])==0)) X0),(10,X (Xk (true&&((appE z0e [({kind:=1,node:=2,nw:=({id:=0,kind:=0,attrs:=[],flow:=[],grid:=({rows:=0,cols:=0,cells:=[],merges:=[]}:Grid),draw:=[]}:Node),attrs:=(onA ({data:=#[116,105,116,108,101]})),steps:=[],grid:=({rows:=[],cols:=[],cells:=[],split:=[],merge:=[]}:GEd),draw:=[]}:EOp)])==0)))),(13,Xv 1 ((true&&((appE z0e [({kind:=1,node:=2,nw:=({id:=0,kind:=0,attrs:=[],flow:=[],grid:=({rows:=0,cols:=0,cells:=[],merges:=[]}:Grid),draw:=[]}:Node),attrs:=(onA ({data:=#[116,105,116,108,101]})),steps:=[],grid:=({rows:=[],cols:=[],cells:=[],split:=[],merge:=[]}:GEd),draw:=[]}:EOp)])==0))&&(((((appD z0e [({kind:=1,node:=2,nw:=({id:=0,kind:=0,attrs:=[],flow:=[],grid:=({rows:=0,cols:=0,cells:=[],merges:=[]}:Grid),draw:=[]}:Node),attrs:=(onA ({data:=#[116,105,116,108,101]})),steps:=[],grid:=({rows:=[],cols:=[],cells:=[],split:=[],merge:=[]}:GEd),draw:=[]}:EOp)])).nodes).length:Int)==2)) X0),(14,Xv 1 ((true&&((appE z0e [({kind:=1,node:=2,nw:=({id:=0,kind:=0,attrs:=[],flow:=[],grid:=({rows:=0,cols:=0,cells:=[],merges:=[]}:Grid),draw:=[]}:Node),attrs:=(onA ({data:=#[116,105,116,108,101]})),steps:=[],grid:=({rows:=[],cols:=[],cells:=[],split:=[],merge:=[]}:GEd),draw:=[]}:EOp)])==0))&&(((((appD z0e [({kind:=1,node:=2,nw:=({id:=0,kind:=0,attrs:=[],flow:=[],grid:=({rows:=0,cols:=0,cells:=[],merges:=[]}:Grid),draw:=[]}:Node),attrs:=(onA ({data:=#[116,105,116,108,101]})),steps:=[],grid:=({rows:=[],cols:=[],cells:=[],split:=[],merge:=[]}:GEd),draw:=[]}:EOp)])).nodes).length:Int)==2)) (Xi nodeT (((appD z0e [({kind:=1,node:=2,nw:=({id:=0,kind:=0,attrs:=[],flow:=[],grid:=({rows:=0,cols:=0,cells:=[],merges:=[]}:Grid),draw:=[]}:Node),attrs:=(onA ({data:=#[116,105,116,108,101]})),steps:=[],grid:=({rows:=[],cols:=[],cells:=[],split:=[],merge:=[]}:GEd),draw:=[]}:EOp)])).nodes) 1)),(15,Xv 1 ((true&&((appE z0e [({kind:=1,node:=2,nw:=({id:=0,kind:=0,attrs:=[],flow:=[],grid:=({rows:=0,cols:=0,cells:=[],merges:=[]}:Grid),draw:=[]}:Node),attrs:=(onA ({data:=#[116,105,116,108,101]})),steps:=[],grid:=({rows:=[],cols:=[],cells:=[],split:=[],merge:=[]}:GEd),draw:=[]}:EOp)])==0))&&(((((appD z0e [({kind:=1,node:=2,nw:=({id:=0,kind:=0,attrs:=[],flow:=[],grid:=({rows:=0,cols:=0,cells:=[],merges:=[]}:Grid),draw:=[]}:Node),attrs:=(onA ({data:=#[116,105,116,108,101]})),steps:=[],grid:=({rows:=[],cols:=[],cells:=[],split:=[],merge:=[]}:GEd),draw:=[]}:EOp)])).nodes).length:Int)==2)) X0),(16,Xv 1 ((true&&((appE z0e [({kind:=1,node:=2,nw:=({id:=0,kind:=0,attrs:=[],flow:=[],grid:=({rows:=0,cols:=0,cells:=[],merges:=[]}:Grid),draw:=[]}:Node),attrs:=(onA ({data:=#[116,105,116,108,101]})),steps:=[],grid:=({rows:=[],cols:=[],cells:=[],split:=[],merge:=[]}:GEd),draw:=[]}:EOp)])==0))&&(((((appD z0e [({kind:=1,node:=2,nw:=({id:=0,kind:=0,attrs:=[],flow:=[],grid:=({rows:=0,cols:=0,cells:=[],merges:=[]}:Grid),draw:=[]}:Node),attrs:=(onA ({data:=#[116,105,116,108,101]})),steps:=[],grid:=({rows:=[],cols:=[],cells:=[],split:=[],merge:=[]}:GEd),draw:=[]}:EOp)])).nodes).length:Int)==2)) X0),(17,Xv 1 ((true&&((appE z0e [({kind:=1,node:=2,nw:=({id:=0,kind:=0,attrs:=[],flow:=[],grid:=({rows:=0,cols:=0,cells:=[],merges:=[]}:Grid),draw:=[]}:Node),attrs:=(onA ({data:=#[116,105,116,108,101]})),steps:=[],grid:=({rows:=[],cols:=[],cells:=[],split:=[],merge:=[]}:GEd),draw:=[]}:EOp)])==0))&&(((((appD z0e [({kind:=1,node:=2,nw:=({id:=0,kind:=0,attrs:=[],flow:=[],grid:=({rows:=0,cols:=0,cells:=[],merges:=[]}:Grid),draw:=[]}:Node),attrs:=(onA ({data:=#[116,105,116,108,101]})),steps:=[],grid:=({rows:=[],cols:=[],cells:=[],split:=[],merge:=[]}:GEd),draw:=[]}:EOp)])).nodes).length:Int)==2)) (Xl attrT ((((((appD z0e [({kind:=1,node:=2,nw:=({id:=0,kind:=0,attrs:=[],flow:=[],grid:=({rows:=0,cols:=0,cells:=[],merges:=[]}:Grid),draw:=[]}:Node),attrs:=(onA ({data:=#[116,105,116,108,101]})),steps:=[],grid:=({rows:=[],cols:=[],cells:=[],split:=[],merge:=[]}:GEd),draw:=[]}:EOp)])).nodes).getD 1 default)).attrs))),(18,Xv 1 ((true&&((appE z0e [({kind:=1,node:=2,nw:=({id:=0,kind:=0,attrs:=[],flow:=[],grid:=({rows:=0,cols:=0,cells:=[],merges:=[]}:Grid),draw:=[]}:Node),attrs:=(onA ({data:=#[116,105,116,108,101]})),steps:=[],grid:=({rows:=[],cols:=[],cells:=[],split:=[],merge:=[]}:GEd),draw:=[]}:EOp)])==0))&&(((((appD z0e [({kind:=1,node:=2,nw:=({id:=0,kind:=0,attrs:=[],flow:=[],grid:=({rows:=0,cols:=0,cells:=[],merges:=[]}:Grid),draw:=[]}:Node),attrs:=(onA ({data:=#[116,105,116,108,101]})),steps:=[],grid:=({rows:=[],cols:=[],cells:=[],split:=[],merge:=[]}:GEd),draw:=[]}:EOp)])).nodes).length:Int)==2)) X0),(19,X (Xk ((true&&((appE z0e [({kind:=1,node:=2,nw:=({id:=0,kind:=0,attrs:=[],flow:=[],grid:=({rows:=0,cols:=0,cells:=[],merges:=[]}:Grid),draw:=[]}:Node),attrs:=(onA ({data:=#[116,105,116,108,101]})),steps:=[],grid:=({rows:=[],cols:=[],cells:=[],split:=[],merge:=[]}:GEd),draw:=[]}:EOp)])==0))&&(((((appD z0e [({kind:=1,node:=2,nw:=({id:=0,kind:=0,attrs:=[],flow:=[],grid:=({rows:=0,cols:=0,cells:=[],merges:=[]}:Grid),draw:=[]}:Node),attrs:=(onA ({data:=#[116,105,116,108,101]})),steps:=[],grid:=({rows:=[],cols:=[],cells:=[],split:=[],merge:=[]}:GEd),draw:=[]}:EOp)])).nodes).length:Int)==2))))]] [] (fun z0:Bool=>(VB z0,[])) _ _ e1.symm
theorem y6w(d:Doc)(site:Int)(raw:List Int)(G:Nat->Doc->Prop)(hI:GInv site G)(hg:G 0 d):FC Tryz.prog 24 [.t (docT d),VI site,VL 1 intT raw] (app emp []) (.t (docT (z1y site raw d 0))) (app emp []):=by
 refine .go Tryz.f24 ?_
 refine .len 2 (fun hl2=> ?_)
 refine .loop (α:=Nat×(List Node)) [.r [],.r []] 24 (fun(k,o0c0)=>([(1,VI site),(2,VL 1 intT raw),(3,.ptr 0 0),(6,.ptr 8 0),(7,VI (k:Int))],[(0,.box [VL 9 nodeT o0c0]),(8,.box [VN])])) (fun(k,o0c0)=>k<=38/\z1y site raw d 0=z1y site raw ⟨o0c0⟩ k/\G k ⟨o0c0⟩) (fun(k,o0c0)=>raw.length-k) (0,d.nodes) ?_ ?_
 ·
  exact⟨by omega,rfl,hg⟩
 rintro⟨k,o0c0⟩ I2 ih2
 try dsimp only at I2
 refine .bp [.r [(1,X (Xn ((k:Int)+2))),(3,X (Xl intT raw)),(7,Xv 1 (decide (((k:Int)+2)< (raw.length:Int))) X0),(8,X (Xk (decide (((k:Int)+2)< (raw.length:Int)))))]] (decide (((k:Int)+2)< (raw.length:Int))&&decide ((k:Int)< 36)) (fun h2=> ?_) (fun h2=> ?_)
 ·
  have hD:=hI.doc I2.2.2
  have hC:=hI.cmd (raw.getD (k+1) default) (raw.getD (k+2) default) I2.2.2
  have hA:=hI.app (raw.getD k default) (raw.getD (k+1) default) (raw.getD (k+2) default) I2.2.2
  refine .bp [.r [(5,X (Xi intT raw (k:Int))),(9,X (Xn ((k:Int)+1))),(10,X (Xi intT raw ((k:Int)+1))),(14,X (Xn ((k:Int)+2))),(15,X (Xi intT raw ((k:Int)+2))),(17,X (Xc1 232 (y2t ({nodes:=o0c0}:Doc) site (raw.getD k default) (raw.getD (k+1) default) (raw.getD (k+2) default) (by assumption) (by assumption)) X0)),(18,X (Xc1 240 (z5o ({nodes:=o0c0}:Doc) (cmdP ({nodes:=o0c0}:Doc) site (raw.getD k default) (raw.getD (k+1) default) (raw.getD (k+2) default)) (by assumption)) X0))],.r []] ((appE ({nodes:=o0c0}:Doc) (cmdP ({nodes:=o0c0}:Doc) site (raw.getD k default) (raw.getD (k+1) default) (raw.getD (k+2) default)))==0) (fun h5=> ?_) (fun h5=> ?_)
  ·
   have hgo:=z5p (site:=site) (d:=⟨o0c0⟩) (show k+2<raw.length/\k<36 by omega)
   have hst:=hI.step (raw.getD k default) (raw.getD (k+1) default) (raw.getD (k+2) default) (show k<55 by omega) I2.2.2
   refine .back [.r [],.r [(1,X (Xn ((k:Int)+3)))]] [(0,0),(8,8)] (ih2 ((k+3),((appD ({nodes:=o0c0}:Doc) (cmdP ({nodes:=o0c0}:Doc) site (raw.getD k default) (raw.getD (k+1) default) (raw.getD (k+2) default)))).nodes) ?_ ?_)
   ·
    first| (rw[z6j h5] at hgo hst;exact⟨by omega,I2.2.1.trans hgo,hst⟩)| (rw[z6k h5] at hgo hst;exact⟨by omega,I2.2.1.trans hgo,hst⟩)
   ·
    ((try dsimp only);omega)
  ·
   have hgo:=z5p (site:=site) (d:=⟨o0c0⟩) (show k+2<raw.length/\k<36 by omega)
   have hst:=hI.step (raw.getD k default) (raw.getD (k+1) default) (raw.getD (k+2) default) (show k<55 by omega) I2.2.2
   refine .back [.r [(1,X (Xn ((k:Int)+3)))]] [(0,0),(8,8)] (ih2 ((k+3),o0c0) ?_ ?_)
   ·
    first| (rw[z6j h5] at hgo hst;exact⟨by omega,I2.2.1.trans hgo,hst⟩)| (rw[z6k h5] at hgo hst;exact⟨by omega,I2.2.1.trans hgo,hst⟩)
   ·
    ((try dsimp only);omega)
 ·
  have e1:((z1y site raw d 0):Doc)=({nodes:=o0c0}:Doc):=by
   exact I2.2.1.trans (z6l (by omega))
  exact .finVE [.r []] [] [] (fun z0:Doc=>(.t (docT z0),[])) _ _ e1
theorem z94(s:ByteArray)(hs:s.size<=1000000000):FC Tryz.prog 23 [VS s] (app emp []) (.row 0 ((z37 s).length)) (app emp [(0,OR 3 elemT (z37 s))]):=by
 refine .go Tryz.f23 ?_
 refine .loop (α:=Nat×(List Elem)) [.r [],.r [],.r [],.le (.nR 3 3)] 41 (fun(i,o)=>([(0,VS s),(3,.row 40 o.length),(6,VI (s.size:Int)),(7,VI (i:Int))],[(40,OR 3 elemT o)])) (fun(i,o)=>i<=s.size/\o=(List.range i).map (ltr s)) (fun(i,o)=>s.size-i) (0,[]) ?_ ?_
 ·
  exact⟨by omega,rfl⟩
 rintro⟨i,o⟩ I3 ih3
 try dsimp only at I3
 have ol:o.length=i:=by rw[I3.2];simp
 refine .bp [.r []] (decide ((i:Int)< (s.size:Int))) (fun h3=> ?_) (fun h3=> ?_)
 ·
  refine .back [.r [],.r [(3,X (Xb s (i:Int))),(4,X (Xn ((((s[i]?).getD 0).toNat:Nat):Int)) (by have:=UInt8.toNat_lt ((s[i]?).getD 0);omega)),(5,X (Xf [(2,2)])),(7,X (rowC elemT [({char:=((((s[i]?).getD 0).toNat:Nat):Int),ref:=0,attrs:=[]}:Elem)] (Xap 3 elemT 40 o [({char:=((((s[i]?).getD 0).toNat:Nat):Int),ref:=0,attrs:=[]}:Elem)])))],.r [(0,X (Xn ((i:Int)+1)))]] [(40,40)] (ih3 ((i+1),(o++[({char:=((((s[i]?).getD 0).toNat:Nat):Int),ref:=0,attrs:=[]}:Elem)])) ?_ ?_)
  ·
   refine⟨by omega,?_⟩
   rw[I3.2,zG,qX]
   rfl
  ·
   ((try dsimp only);omega)
 ·
  have e1:((z37 s):List Elem)=o:=by
   first| (rw[I3.2,show i=s.size by omega];done)| (rw[I3.2,show i=s.size by omega];rfl)
  have e2:((z37 s).length:Nat)=o.length:=by
   first| (rw[I3.2,show i=s.size by omega];done)| (rw[I3.2,show i=s.size by omega];rfl)
  exact .finE [.r []] [(40,0)] (fun((z0,z1):(List Elem)×Nat)=>(.row 0 z1,[(0,OR 3 elemT z0)])) _ _ (pr e1 e2)
theorem y9m:FC Tryz.prog 23 [VS {data:=#[97,98,99]}] (app emp []) (.row 0 3) (app emp [(0,OR 3 elemT [({char:=97,ref:=0,attrs:=[]}:Elem),({char:=98,ref:=0,attrs:=[]}:Elem),({char:=99,ref:=0,attrs:=[]}:Elem)])]):=by
 have h:=z94 {data:=#[97,98,99]} (by decide)
 have e:z37 {data:=#[97,98,99]}=[({char:=97,ref:=0,attrs:=[]}:Elem),({char:=98,ref:=0,attrs:=[]}:Elem),({char:=99,ref:=0,attrs:=[]}:Elem)]:=by kernel_rfl
 rw[e] at h
 exact h
theorem y6x(raw:List Int)(G:Nat->Doc->Prop)(hI:GInv 0 G)(hg:G 0 baseD):FC Tryz.prog 7 [VL 1 intT raw] (app emp []) (.t (docT (z1y 0 raw baseD 0))) (app emp []):=by
 refine .go Tryz.f7 ?_
 refine .len 0 (fun hl0=> ?_)
 have e1:((z1y 0 raw baseD 0):Doc)=((z1y 0 raw ({nodes:=([({id:=1,kind:=0,attrs:=[],flow:=([({char:=0,ref:=2,attrs:=[]}:Elem)]++[({char:=0,ref:=3,attrs:=[]}:Elem)]),grid:=({rows:=0,cols:=0,cells:=[],merges:=[]}:Grid),draw:=[]}:Node),({id:=2,kind:=1,attrs:=[],flow:=([({char:=97,ref:=0,attrs:=[]}:Elem),({char:=98,ref:=0,attrs:=[]}:Elem),({char:=99,ref:=0,attrs:=[]}:Elem)]++[({char:=10,ref:=0,attrs:=[]}:Elem),({char:=100,ref:=0,attrs:=[]}:Elem),({char:=10,ref:=0,attrs:=[]}:Elem)]),grid:=({rows:=0,cols:=0,cells:=[],merges:=[]}:Grid),draw:=[]}:Node)]++[({id:=3,kind:=10,attrs:=[],flow:=[],grid:=({rows:=0,cols:=0,cells:=[],merges:=[]}:Grid),draw:=[]}:Node)])}:Doc) 0)):=by
  rfl
 exact .finVE [.r [],.r [(0,X (Xc1 8 y4K X0))],.r [(4,X (Xa (Xc ((0:Int)<=0)) (Xc ((0:Int)< ((2:Nat):Int)))) ⟨by decide,by decide⟩),(7,X (Xf [(2,2)])),(9,X (rowC elemT [({char:=0,ref:=3,attrs:=[]}:Elem)] (Xap 3 elemT 10 [({char:=0,ref:=2,attrs:=[]}:Elem)] [({char:=0,ref:=3,attrs:=[]}:Elem)]))),(10,X (Xa (Xc ((0:Int)<=0)) (Xc ((0:Int)< ((2:Nat):Int)))) ⟨by decide,by decide⟩)],.r [(2,X (Xc1 152 y9m X0)),(3,X (Xf [(2,2)])),(4,X (Xf [(2,2)])),(5,X (Xf [(2,2)])),(7,X (rowC elemT [({char:=10,ref:=0,attrs:=[]}:Elem),({char:=100,ref:=0,attrs:=[]}:Elem),({char:=10,ref:=0,attrs:=[]}:Elem)] (Xap 3 elemT 152 [({char:=97,ref:=0,attrs:=[]}:Elem),({char:=98,ref:=0,attrs:=[]}:Elem),({char:=99,ref:=0,attrs:=[]}:Elem)] [({char:=10,ref:=0,attrs:=[]}:Elem),({char:=100,ref:=0,attrs:=[]}:Elem),({char:=10,ref:=0,attrs:=[]}:Elem)]))),(8,X (Xa (Xc ((0:Int)<=1)) (Xc ((1:Int)< ((2:Nat):Int)))) ⟨by decide,by decide⟩)],.le (.cb 16 0 true 9 [((([({char:=0,ref:=2,attrs:=[]}:Elem)]++[({char:=0,ref:=3,attrs:=[]}:Elem)]).length):Nat)=(List.map elemT ([({char:=0,ref:=2,attrs:=[]}:Elem)]++[({char:=0,ref:=3,attrs:=[]}:Elem)])).length,((([({char:=97,ref:=0,attrs:=[]}:Elem),({char:=98,ref:=0,attrs:=[]}:Elem),({char:=99,ref:=0,attrs:=[]}:Elem)]++[({char:=10,ref:=0,attrs:=[]}:Elem),({char:=100,ref:=0,attrs:=[]}:Elem),({char:=10,ref:=0,attrs:=[]}:Elem)]).length):Nat)=(List.map elemT ([({char:=97,ref:=0,attrs:=[]}:Elem),({char:=98,ref:=0,attrs:=[]}:Elem),({char:=99,ref:=0,attrs:=[]}:Elem)]++[({char:=10,ref:=0,attrs:=[]}:Elem),({char:=100,ref:=0,attrs:=[]}:Elem),({char:=10,ref:=0,attrs:=[]}:Elem)])).length] ⟨lm,lm,trivial⟩),.r [(2,X (Xf [(2,2),(3,3),(6,5),(7,4),(8,8)])),(4,X (rowC nodeT [({id:=3,kind:=10,attrs:=[],flow:=[],grid:=({rows:=0,cols:=0,cells:=[],merges:=[]}:Grid),draw:=[]}:Node)] (XapB 9 nodeT 224 [({id:=1,kind:=0,attrs:=[],flow:=([({char:=0,ref:=2,attrs:=[]}:Elem)]++[({char:=0,ref:=3,attrs:=[]}:Elem)]),grid:=({rows:=0,cols:=0,cells:=[],merges:=[]}:Grid),draw:=[]}:Node),({id:=2,kind:=1,attrs:=[],flow:=([({char:=97,ref:=0,attrs:=[]}:Elem),({char:=98,ref:=0,attrs:=[]}:Elem),({char:=99,ref:=0,attrs:=[]}:Elem)]++[({char:=10,ref:=0,attrs:=[]}:Elem),({char:=100,ref:=0,attrs:=[]}:Elem),({char:=10,ref:=0,attrs:=[]}:Elem)]),grid:=({rows:=0,cols:=0,cells:=[],merges:=[]}:Grid),draw:=[]}:Node)] [({id:=3,kind:=10,attrs:=[],flow:=[],grid:=({rows:=0,cols:=0,cells:=[],merges:=[]}:Grid),draw:=[]}:Node)])))],.r [(2,X (Xc1 297 (y6w ({nodes:=([({id:=1,kind:=0,attrs:=[],flow:=([({char:=0,ref:=2,attrs:=[]}:Elem)]++[({char:=0,ref:=3,attrs:=[]}:Elem)]),grid:=({rows:=0,cols:=0,cells:=[],merges:=[]}:Grid),draw:=[]}:Node),({id:=2,kind:=1,attrs:=[],flow:=([({char:=97,ref:=0,attrs:=[]}:Elem),({char:=98,ref:=0,attrs:=[]}:Elem),({char:=99,ref:=0,attrs:=[]}:Elem)]++[({char:=10,ref:=0,attrs:=[]}:Elem),({char:=100,ref:=0,attrs:=[]}:Elem),({char:=10,ref:=0,attrs:=[]}:Elem)]),grid:=({rows:=0,cols:=0,cells:=[],merges:=[]}:Grid),draw:=[]}:Node)]++[({id:=3,kind:=10,attrs:=[],flow:=[],grid:=({rows:=0,cols:=0,cells:=[],merges:=[]}:Grid),draw:=[]}:Node)])}:Doc) 0 raw G hI (by exact hg)) (rowC nodeT ([({id:=1,kind:=0,attrs:=[],flow:=([({char:=0,ref:=2,attrs:=[]}:Elem)]++[({char:=0,ref:=3,attrs:=[]}:Elem)]),grid:=({rows:=0,cols:=0,cells:=[],merges:=[]}:Grid),draw:=[]}:Node),({id:=2,kind:=1,attrs:=[],flow:=([({char:=97,ref:=0,attrs:=[]}:Elem),({char:=98,ref:=0,attrs:=[]}:Elem),({char:=99,ref:=0,attrs:=[]}:Elem)]++[({char:=10,ref:=0,attrs:=[]}:Elem),({char:=100,ref:=0,attrs:=[]}:Elem),({char:=10,ref:=0,attrs:=[]}:Elem)]),grid:=({rows:=0,cols:=0,cells:=[],merges:=[]}:Grid),draw:=[]}:Node)]++[({id:=3,kind:=10,attrs:=[],flow:=[],grid:=({rows:=0,cols:=0,cells:=[],merges:=[]}:Grid),draw:=[]}:Node)]) X0)))]] [] [] (fun z0:Doc=>(.t (docT z0),[])) _ _ e1
end Go.Ch
end
section
namespace Go.Ch
open Go Go.Ab
def ofR(u:ByteArray):List Int×Int:=
 if h:0<u.size then
  if decR u=65533/\decW u=1 then([],10)
  else if¬CharP (decR u) then([],2)
  else(decR u::(ofR (u.extract (decW u) u.size)).1,(ofR (u.extract (decW u) u.size)).2)
 else([],0)
termination_by u.size
decreasing_by
 all_goals
  have:=z4z h
  rw[zV]
  omega
structure OfI(s:ByteArray)(l:List Attr)(u:ByteArray)(o:List Elem):Prop where
 size:o.length+u.size<=s.size
 chars:o++(ofR u).1.map (mkE l)=(ofR s).1.map (mkE l)
 err:(ofR u).2=(ofR s).2
theorem OfI.start(s:ByteArray)(l:List Attr):OfI s l s []:=⟨by simp,rfl,rfl⟩
theorem y4L{u:ByteArray}(h:¬0<u.size):ofR u=([],0):=by rw[ofR,dif_neg h]
theorem z95{u:ByteArray}(h:0<u.size)(h1:decR u=65533/\decW u=1):ofR u=([],10):=by rw[ofR,dif_pos h,if_pos h1]
theorem y4M{u:ByteArray}(h:0<u.size)(h1:¬(decR u=65533/\decW u=1))(h2:¬CharP (decR u)):ofR u=([],2):=by rw[ofR,dif_pos h,if_neg h1,if_pos h2]
theorem y7f{u:ByteArray}(h:0<u.size)(h1:¬(decR u=65533/\decW u=1))(h2:CharP (decR u)):ofR u=(decR u::(ofR (u.extract (decW u) u.size)).1,(ofR (u.extract (decW u) u.size)).2):=by
 conv=>lhs;rw[ofR]
 rw[dif_pos h,if_neg h1,if_neg (fun q=>q h2)]
theorem OfI.next{s:ByteArray}{l:List Attr}{u:ByteArray}{o:List Elem}(hI:OfI s l u o)(h:0<u.size)(h1:¬(decR u=65533/\decW u=1))(h2:CharP (decR u)):
 OfI s l (u.extract (decW u) u.size) (o++[mkE l (decR u)]):=by
 have hw:=z4z h
 have hg:=y7f h h1 h2
 have hc:=hI.chars
 have he:=hI.err
 rw[hg] at hc he
 refine⟨?_,?_,he⟩
 ·have:=hI.size
  rw[zV,qf,zN];omega
 ·rw[qR];exact hc
def ofL(s:ByteArray)(l:List Attr):List Elem:=if(ofR s).2=0 then(ofR s).1.map (mkE l) else[]
theorem y4N{s:ByteArray}{l:List Attr}(h:(ofR s).2≠0):ofL s l=[]:=by unfold ofL;rw[if_neg h]
theorem OfI.done{s:ByteArray}{l:List Attr}{u:ByteArray}{o:List Elem}(hI:OfI s l u o)(h:u.size=0):ofL s l=o/\(ofR s).2=0:=by
 have hc:=hI.chars
 have he:=hI.err
 rw[y4L (by omega)] at hc he
 simp only[zR,qM] at hc
 have he:(ofR s).2=0:=he.symm
 exact⟨by unfold ofL;rw[if_pos he,hc],he⟩
def runeE(x:Elem):Int:=if x.ref=0 then x.char else 65532
def txB(f:List Elem):List Int:=f.flatMap fun x=>Lib.encodeRuneZ (runeE x)
def strB(l:List Int):ByteArray:=⟨(l.map fun z=>UInt8.ofNat z.toNat).toArray⟩
theorem y4O{l:List Int}(h:∀z∈l,0<=z/\z<256):l=intsB (strB l):=by
 unfold intsB strB
 simp only[jb]
 conv=>lhs;rw[<-List.map_id l]
 apply zD
 intro x hx
 have:=h x hx
 simp only[Function.comp,id]
 rw[UInt8.toNat_ofNat']
 omega
def z43(r:Int):Prop:=0<=r/\r<=1114111/\¬(55296<=r/\r<=57343)
theorem y4P{x:Elem}(h:elemE x=0):z43 (runeE x):=by
 unfold elemE at h
 unfold z43 runeE
 split at h
 ·omega
 ·rename_i h1
  split
  ·rename_i hr
   split at h
   ·omega
   ·rename_i h2
    have:CharP x.char:=qd fun q=>h2 (.inl ⟨hr,q⟩)
    unfold CharP at this
    omega
  ·omega
theorem y7g{r:Int}(h:z43 r):(Lib.encodeRuneZ r).length<=4/\∀z∈Lib.encodeRuneZ r,0<=z/\z<256:=by
 obtain⟨h0,h1,h2⟩:=h
 by_cases a:r<=127
 ·rw[Lib.encodeRuneZ_one h0 a];exact⟨by simp,fun z hz=>by simp only[qj,qS,or_false] at hz;omega⟩
 ·by_cases b:r<=2047
  ·rw[Lib.encodeRuneZ_two (by omega) b];exact⟨by simp,fun z hz=>by simp only[qj,qS,or_false] at hz;omega⟩
  ·by_cases c:r<=65535
   ·rw[Lib.encodeRuneZ_three (by omega)];exact⟨by simp,fun z hz=>by simp only[qj,qS,or_false] at hz;omega⟩
   ·rw[Lib.encodeRuneZ_four (by omega) h1];exact⟨by simp,fun z hz=>by simp only[qj,qS,or_false] at hz;omega⟩
theorem y9n{f:List Elem}(h:∀x∈f,z43 (runeE x)):∀z∈txB f,0<=z/\z<256:=fun z hz=>by
 obtain⟨x,hx,hz⟩:=List.mem_flatMap.1 hz
 exact(y7g (h x hx)).2 z hz
theorem z96:∀(f:List Elem),(∀x∈f,z43 (runeE x))->(txB f).length<=4*f.length
 | [],_=>qt _
 |x::f,h=>by
  have:=z96 f (fun y hy=>h y (by simp[hy]))
  have:=(y7g (h x (by simp))).1
  unfold txB at*
  simp only[List.flatMap_cons,qf,qi]
  omega
theorem y1z(f:List Elem)(x:Elem):txB (f++[x])=txB f++Lib.encodeRuneZ (runeE x):=by unfold txB;simp
def txS(f:List Elem):ByteArray:=strB (txB f)
end Go.Ch
end
section
set_option maxRecDepth 100000
set_option maxHeartbeats 4000000
open Go Go.Proofs Go.Ab
namespace Go.Ch
theorem z89(l:List Int)(r:Int)(h:128<=r/\r<=1114111/\¬(55296<=r/\r<=57343))(hl:l.length<=100000000000):FC Tryz.prog 81 [.row 0 l.length,.t (.sc (.int .i32 r))] (app emp [(0,OR 1 byteT l)]) (.row 0 ((l++(Lib.encodeRuneZ r)).length)) (app emp [(0,OR 1 byteT (l++(Lib.encodeRuneZ r)))]):=by
 refine .go Tryz.f81 ?_
 refine .bp [.r [],.r [(1,X (Xcv IntKind.u32 r) (y0L (by omega)))],.r []] (decide (r<=2047)) (fun h3=> ?_) (fun h3=> ?_)
 ·
  have e1:((l++(Lib.encodeRuneZ r)):List Int)=(l++[(192+r/64),(128+r%64)]):=by
   first| (exfalso;omega)|rw[Lib.encodeRuneZ_two (by omega) (by omega)]|rw[Lib.encodeRuneZ_three (by omega)]|rw[Lib.encodeRuneZ_four (by omega) (by omega)]
  have e2:((l++(Lib.encodeRuneZ r)).length:Nat)=(l++[(192+r/64),(128+r%64)]).length:=by
   first| (exfalso;omega)|rw[Lib.encodeRuneZ_two (by omega) (by omega)]|rw[Lib.encodeRuneZ_three (by omega)]|rw[Lib.encodeRuneZ_four (by omega) (by omega)]
  exact .finE [.r [(2,X (Xsh IntKind.i32 6 (r.fdiv (2^(min (6:Int).toNat IntKind.i32.bits))) (r/64)) ⟨by decide,shr6⟩),(3,X (Xbit IntKind.u8 (IntKind.u8.wrap (r/64)) (r/64)) (by rw[u8mod];omega)),(4,X (Xbit IntKind.u8 (orI IntKind.u8 192 (r/64)) (192+r/64)) (or192 (by omega))),(6,X (Xbit IntKind.u8 (IntKind.u8.wrap r) (r%256)) u8mod),(7,X (Xbit IntKind.u8 (andI IntKind.u8 (r%256) 63) (r%64)) (by rw[and63 (by omega)];omega)),(8,X (Xbit IntKind.u8 (orI IntKind.u8 128 (r%64)) (128+r%64)) (or128 (by omega))),(10,X (rowC byteT [(192+r/64),(128+r%64)] (Xap 1 byteT 0 l [(192+r/64),(128+r%64)])))]] [(0,0)] (fun((z0,z1):(List Int)×Nat)=>(.row 0 z1,[(0,OR 1 byteT z0)])) _ _ (pr e1 e2)
 ·
  refine .bp [.r []] (decide (r<55296)) (fun h5=> ?_) (fun h5=> ?_)
  ·
   refine .bp [] (decide (r<55296)) (fun h5=> ?_) (fun h5=> ?_)
   ·
    have e3:((l++(Lib.encodeRuneZ r)):List Int)=(l++[(224+r/4096),(128+r/64%64),(128+r%64)]):=by
     first| (exfalso;omega)|rw[Lib.encodeRuneZ_two (by omega) (by omega)]|rw[Lib.encodeRuneZ_three (by omega)]|rw[Lib.encodeRuneZ_four (by omega) (by omega)]
    have e4:((l++(Lib.encodeRuneZ r)).length:Nat)=(l++[(224+r/4096),(128+r/64%64),(128+r%64)]).length:=by
     first| (exfalso;omega)|rw[Lib.encodeRuneZ_two (by omega) (by omega)]|rw[Lib.encodeRuneZ_three (by omega)]|rw[Lib.encodeRuneZ_four (by omega) (by omega)]
    exact .finE [.r [(2,X (Xsh IntKind.i32 12 (r.fdiv (2^(min (12:Int).toNat IntKind.i32.bits))) (r/4096)) ⟨by decide,shr12⟩),(3,X (Xbit IntKind.u8 (IntKind.u8.wrap (r/4096)) (r/4096)) (by rw[u8mod];omega)),(4,X (Xbit IntKind.u8 (orI IntKind.u8 224 (r/4096)) (224+r/4096)) (or224 (by omega))),(6,X (Xsh IntKind.i32 6 (r.fdiv (2^(min (6:Int).toNat IntKind.i32.bits))) (r/64)) ⟨by decide,shr6⟩),(7,X (Xbit IntKind.u8 (IntKind.u8.wrap (r/64)) (r/64%256)) u8mod),(8,X (Xbit IntKind.u8 (andI IntKind.u8 (r/64%256) 63) (r/64%64)) (by rw[and63 (by omega)];omega)),(9,X (Xbit IntKind.u8 (orI IntKind.u8 128 (r/64%64)) (128+r/64%64)) (or128 (by omega))),(11,X (Xbit IntKind.u8 (IntKind.u8.wrap r) (r%256)) u8mod),(12,X (Xbit IntKind.u8 (andI IntKind.u8 (r%256) 63) (r%64)) (by rw[and63 (by omega)];omega)),(13,X (Xbit IntKind.u8 (orI IntKind.u8 128 (r%64)) (128+r%64)) (or128 (by omega))),(15,X (rowC byteT [(224+r/4096),(128+r/64%64),(128+r%64)] (Xap 1 byteT 0 l [(224+r/4096),(128+r/64%64),(128+r%64)])))]] [(0,0)] (fun((z0,z1):(List Int)×Nat)=>(.row 0 z1,[(0,OR 1 byteT z0)])) _ _ (pr e3 e4)
   ·
    refine .bp [.r [(4,Xv 1 (decide (r>65535)) X0),(5,X (Xk (decide (r>65535))))]] (decide (r>65535)&&decide (r<=1114111)) (fun h8=> ?_) (fun h8=> ?_)
    ·
     have e5:((l++(Lib.encodeRuneZ r)):List Int)=(l++[(240+r/262144),(128+r/4096%64),(128+r/64%64),(128+r%64)]):=by
      first| (exfalso;omega)|rw[Lib.encodeRuneZ_two (by omega) (by omega)]|rw[Lib.encodeRuneZ_three (by omega)]|rw[Lib.encodeRuneZ_four (by omega) (by omega)]
     have e6:((l++(Lib.encodeRuneZ r)).length:Nat)=(l++[(240+r/262144),(128+r/4096%64),(128+r/64%64),(128+r%64)]).length:=by
      first| (exfalso;omega)|rw[Lib.encodeRuneZ_two (by omega) (by omega)]|rw[Lib.encodeRuneZ_three (by omega)]|rw[Lib.encodeRuneZ_four (by omega) (by omega)]
     exact .finE [.r [(2,X (Xsh IntKind.i32 18 (r.fdiv (2^(min (18:Int).toNat IntKind.i32.bits))) (r/262144)) ⟨by decide,shr18⟩),(3,X (Xbit IntKind.u8 (IntKind.u8.wrap (r/262144)) (r/262144)) (by rw[u8mod];omega)),(4,X (Xbit IntKind.u8 (orI IntKind.u8 240 (r/262144)) (240+r/262144)) (or240 (by omega))),(6,X (Xsh IntKind.i32 12 (r.fdiv (2^(min (12:Int).toNat IntKind.i32.bits))) (r/4096)) ⟨by decide,shr12⟩),(7,X (Xbit IntKind.u8 (IntKind.u8.wrap (r/4096)) (r/4096%256)) u8mod),(8,X (Xbit IntKind.u8 (andI IntKind.u8 (r/4096%256) 63) (r/4096%64)) (by rw[and63 (by omega)];omega)),(9,X (Xbit IntKind.u8 (orI IntKind.u8 128 (r/4096%64)) (128+r/4096%64)) (or128 (by omega))),(11,X (Xsh IntKind.i32 6 (r.fdiv (2^(min (6:Int).toNat IntKind.i32.bits))) (r/64)) ⟨by decide,shr6⟩),(12,X (Xbit IntKind.u8 (IntKind.u8.wrap (r/64)) (r/64%256)) u8mod),(13,X (Xbit IntKind.u8 (andI IntKind.u8 (r/64%256) 63) (r/64%64)) (by rw[and63 (by omega)];omega)),(14,X (Xbit IntKind.u8 (orI IntKind.u8 128 (r/64%64)) (128+r/64%64)) (or128 (by omega))),(16,X (Xbit IntKind.u8 (IntKind.u8.wrap r) (r%256)) u8mod),(17,X (Xbit IntKind.u8 (andI IntKind.u8 (r%256) 63) (r%64)) (by rw[and63 (by omega)];omega)),(18,X (Xbit IntKind.u8 (orI IntKind.u8 128 (r%64)) (128+r%64)) (or128 (by omega))),(20,X (rowC byteT [(240+r/262144),(128+r/4096%64),(128+r/64%64),(128+r%64)] (Xap 1 byteT 0 l [(240+r/262144),(128+r/4096%64),(128+r/64%64),(128+r%64)])))]] [(0,0)] (fun((z0,z1):(List Int)×Nat)=>(.row 0 z1,[(0,OR 1 byteT z0)])) _ _ (pr e5 e6)
    ·
     exfalso
     omega
  ·
   refine .bp [.r [(4,Xv 1 (decide (57343<r)) X0),(5,X (Xk (decide (57343<r))))]] (decide (57343<r)&&decide (r<=65535)) (fun h6=> ?_) (fun h6=> ?_)
   ·
    have e7:((l++(Lib.encodeRuneZ r)):List Int)=(l++[(224+r/4096),(128+r/64%64),(128+r%64)]):=by
     first| (exfalso;omega)|rw[Lib.encodeRuneZ_two (by omega) (by omega)]|rw[Lib.encodeRuneZ_three (by omega)]|rw[Lib.encodeRuneZ_four (by omega) (by omega)]
    have e8:((l++(Lib.encodeRuneZ r)).length:Nat)=(l++[(224+r/4096),(128+r/64%64),(128+r%64)]).length:=by
     first| (exfalso;omega)|rw[Lib.encodeRuneZ_two (by omega) (by omega)]|rw[Lib.encodeRuneZ_three (by omega)]|rw[Lib.encodeRuneZ_four (by omega) (by omega)]
    exact .finE [.r [(2,X (Xsh IntKind.i32 12 (r.fdiv (2^(min (12:Int).toNat IntKind.i32.bits))) (r/4096)) ⟨by decide,shr12⟩),(3,X (Xbit IntKind.u8 (IntKind.u8.wrap (r/4096)) (r/4096)) (by rw[u8mod];omega)),(4,X (Xbit IntKind.u8 (orI IntKind.u8 224 (r/4096)) (224+r/4096)) (or224 (by omega))),(6,X (Xsh IntKind.i32 6 (r.fdiv (2^(min (6:Int).toNat IntKind.i32.bits))) (r/64)) ⟨by decide,shr6⟩),(7,X (Xbit IntKind.u8 (IntKind.u8.wrap (r/64)) (r/64%256)) u8mod),(8,X (Xbit IntKind.u8 (andI IntKind.u8 (r/64%256) 63) (r/64%64)) (by rw[and63 (by omega)];omega)),(9,X (Xbit IntKind.u8 (orI IntKind.u8 128 (r/64%64)) (128+r/64%64)) (or128 (by omega))),(11,X (Xbit IntKind.u8 (IntKind.u8.wrap r) (r%256)) u8mod),(12,X (Xbit IntKind.u8 (andI IntKind.u8 (r%256) 63) (r%64)) (by rw[and63 (by omega)];omega)),(13,X (Xbit IntKind.u8 (orI IntKind.u8 128 (r%64)) (128+r%64)) (or128 (by omega))),(15,X (rowC byteT [(224+r/4096),(128+r/64%64),(128+r%64)] (Xap 1 byteT 0 l [(224+r/4096),(128+r/64%64),(128+r%64)])))]] [(0,0)] (fun((z0,z1):(List Int)×Nat)=>(.row 0 z1,[(0,OR 1 byteT z0)])) _ _ (pr e7 e8)
   ·
    refine .bp [.r [(4,Xv 1 (decide (r>65535)) X0),(5,X (Xk (decide (r>65535))))]] (decide (r>65535)&&decide (r<=1114111)) (fun h8=> ?_) (fun h8=> ?_)
    ·
     have e9:((l++(Lib.encodeRuneZ r)):List Int)=(l++[(240+r/262144),(128+r/4096%64),(128+r/64%64),(128+r%64)]):=by
      first| (exfalso;omega)|rw[Lib.encodeRuneZ_two (by omega) (by omega)]|rw[Lib.encodeRuneZ_three (by omega)]|rw[Lib.encodeRuneZ_four (by omega) (by omega)]
     have e10:((l++(Lib.encodeRuneZ r)).length:Nat)=(l++[(240+r/262144),(128+r/4096%64),(128+r/64%64),(128+r%64)]).length:=by
      first| (exfalso;omega)|rw[Lib.encodeRuneZ_two (by omega) (by omega)]|rw[Lib.encodeRuneZ_three (by omega)]|rw[Lib.encodeRuneZ_four (by omega) (by omega)]
     exact .finE [.r [(2,X (Xsh IntKind.i32 18 (r.fdiv (2^(min (18:Int).toNat IntKind.i32.bits))) (r/262144)) ⟨by decide,shr18⟩),(3,X (Xbit IntKind.u8 (IntKind.u8.wrap (r/262144)) (r/262144)) (by rw[u8mod];omega)),(4,X (Xbit IntKind.u8 (orI IntKind.u8 240 (r/262144)) (240+r/262144)) (or240 (by omega))),(6,X (Xsh IntKind.i32 12 (r.fdiv (2^(min (12:Int).toNat IntKind.i32.bits))) (r/4096)) ⟨by decide,shr12⟩),(7,X (Xbit IntKind.u8 (IntKind.u8.wrap (r/4096)) (r/4096%256)) u8mod),(8,X (Xbit IntKind.u8 (andI IntKind.u8 (r/4096%256) 63) (r/4096%64)) (by rw[and63 (by omega)];omega)),(9,X (Xbit IntKind.u8 (orI IntKind.u8 128 (r/4096%64)) (128+r/4096%64)) (or128 (by omega))),(11,X (Xsh IntKind.i32 6 (r.fdiv (2^(min (6:Int).toNat IntKind.i32.bits))) (r/64)) ⟨by decide,shr6⟩),(12,X (Xbit IntKind.u8 (IntKind.u8.wrap (r/64)) (r/64%256)) u8mod),(13,X (Xbit IntKind.u8 (andI IntKind.u8 (r/64%256) 63) (r/64%64)) (by rw[and63 (by omega)];omega)),(14,X (Xbit IntKind.u8 (orI IntKind.u8 128 (r/64%64)) (128+r/64%64)) (or128 (by omega))),(16,X (Xbit IntKind.u8 (IntKind.u8.wrap r) (r%256)) u8mod),(17,X (Xbit IntKind.u8 (andI IntKind.u8 (r%256) 63) (r%64)) (by rw[and63 (by omega)];omega)),(18,X (Xbit IntKind.u8 (orI IntKind.u8 128 (r%64)) (128+r%64)) (or128 (by omega))),(20,X (rowC byteT [(240+r/262144),(128+r/4096%64),(128+r/64%64),(128+r%64)] (Xap 1 byteT 0 l [(240+r/262144),(128+r/4096%64),(128+r/64%64),(128+r%64)])))]] [(0,0)] (fun((z0,z1):(List Int)×Nat)=>(.row 0 z1,[(0,OR 1 byteT z0)])) _ _ (pr e9 e10)
    ·
     exfalso
     omega
theorem z3m(l:List Int)(r:Int)(h:(0<=r/\r<=1114111/\¬(55296<=r/\r<=57343)))(hl:l.length<=100000000000):FC Tryz.prog 38 [.row 0 l.length,.t (.sc (.int .i32 r))] (app emp [(0,OR 1 byteT l)]) (.row 0 ((l++(Lib.encodeRuneZ r)).length)) (app emp [(0,OR 1 byteT (l++(Lib.encodeRuneZ r)))]):=by
 refine .go Tryz.f38 ?_
 refine .bp [.r [],.r [(1,X (Xcv IntKind.u32 r) (y0L (by omega)))]] (decide (r<=127)) (fun h1=> ?_) (fun h1=> ?_)
 ·
  have e1:((l++(Lib.encodeRuneZ r)):List Int)=(l++[r]):=by
   first|rw[Lib.encodeRuneZ_one (by omega) (by omega)]|rfl
  have e2:((l++(Lib.encodeRuneZ r)).length:Nat)=(l++[r]).length:=by
   first|rw[Lib.encodeRuneZ_one (by omega) (by omega)]|rfl
  exact .finE [.r [(2,X (Xcv IntKind.u8 r) (y7D (by omega))),(4,X (rowC byteT [r] (Xap 1 byteT 0 l [r])))]] [(0,0)] (fun((z0,z1):(List Int)×Nat)=>(.row 0 z1,[(0,OR 1 byteT z0)])) _ _ (pr e1 e2)
 ·
  exact .fin [.r [(2,X (Xc3 49 [(0,0)] (z89 l r (by omega) (by omega)) X0))]] [(0,0)]
theorem z4D(f:List Elem)(hp:∀x∈f,elemE x=0)(hn:f.length<=1000000000):FC Tryz.prog 14 [VL 3 elemT f,VI 65532] (app emp []) (VS (txS f)) (app emp []):=by
 refine .go Tryz.f14 ?_
 refine .len 0 (fun hl0=> ?_)
 have hr:∀x∈f,z43 (runeE x):=fun x hx=>y4P (hp x hx)
 refine .loop (α:=Nat×(List Int)) [.r [],.r [],.r [(1,X (Xl elemT f))],.le (.nR 5 1)] 41 (fun(i,b)=>([(0,VL 3 elemT f),(1,VI 65532),(5,.row 40 b.length),(9,VI (f.length:Int)),(10,VI (i:Int))],[(40,OR 1 byteT b)])) (fun(i,b)=>i<=f.length/\b=txB (f.take i)) (fun(i,b)=>f.length-i) (0,[]) ?_ ?_
 ·
  exact⟨by omega,rfl⟩
 rintro⟨i,b⟩ I3 ih3
 try dsimp only at I3
 have bl:b.length<=4*i:=by rw[I3.2];have:=z96 (f.take i) (fun x hx=>hr x (qA hx));rw[qO] at this;omega
 refine .bp [.r []] (decide ((i:Int)< (f.length:Int))) (fun h3=> ?_) (fun h3=> ?_)
 ·
  refine .bp [.r [],.r [(2,X (Xi elemT f (i:Int)))],.r [(2,X (Xi elemT f (i:Int)))]] ((((f.getD i default)).ref) !=0) (fun h6=> ?_) (fun h6=> ?_)
  ·
   have hx:=hr _ (z11 (l:=f) (k:=i) (by omega))
   unfold z43 at hx
   have hre:runeE (f.getD i default)=(if(f.getD i default).ref=0 then(f.getD i default).char else 65532):=rfl
   first| (have hrr:runeE (f.getD i default)=(f.getD i default).char:=by rw[hre,if_pos (by omega)])| (have hrr:runeE (f.getD i default)=65532:=by rw[hre,if_neg (by omega)])
   rw[hrr] at hx
   refine .back [.r [],.r [],.t,.r [(2,X (Xcv IntKind.i32 65532) (z7s (by omega))),(3,X (Xc3 217 [(0,40)] (z3m b 65532 (by omega) (by omega)) X0))],.r [(0,X (Xn ((i:Int)+1)))]] [(40,40)] (ih3 ((i+1),(b++(Lib.encodeRuneZ 65532))) ?_ ?_)
   ·
    refine⟨by omega,?_⟩
    rw[qr (show i<f.length by omega),y1z,<-I3.2]
    have hq:f.getD i default=f[i]:=by simp[List.getD,qa (show i<f.length by omega)]
    rw[<-hq,hrr]
   ·
    ((try dsimp only);omega)
  ·
   have hx:=hr _ (z11 (l:=f) (k:=i) (by omega))
   unfold z43 at hx
   have hre:runeE (f.getD i default)=(if(f.getD i default).ref=0 then(f.getD i default).char else 65532):=rfl
   first| (have hrr:runeE (f.getD i default)=(f.getD i default).char:=by rw[hre,if_pos (by omega)])| (have hrr:runeE (f.getD i default)=65532:=by rw[hre,if_neg (by omega)])
   rw[hrr] at hx
   refine .bp [.r []] (decide ((((f.getD i default)).char)>=0)) (fun h8=> ?_) (fun h8=> ?_)
   ·
    refine .back [.r [(2,X (Xcv IntKind.i32 (((f.getD i default)).char)) (z7s (by omega))),(3,X (Xc3 201 [(0,40)] (z3m b (((f.getD i default)).char) (by omega) (by omega)) X0))],.r [(0,X (Xn ((i:Int)+1)))]] [(40,40)] (ih3 ((i+1),(b++(Lib.encodeRuneZ (((f.getD i default)).char)))) ?_ ?_)
    ·
     refine⟨by omega,?_⟩
     rw[qr (show i<f.length by omega),y1z,<-I3.2]
     have hq:f.getD i default=f[i]:=by simp[List.getD,qa (show i<f.length by omega)]
     rw[<-hq,hrr]
    ·
     ((try dsimp only);omega)
   ·
    exfalso
    omega
 ·
  have hb:b=intsB (txS f):=by rw[I3.2,qn (by omega)];exact y4O (y9n hr)
  exact .fin [.r [(1,X (Xstr b.length b (txS f)) ⟨rfl,hb⟩)]] []
end Go.Ch
end
section
namespace Go.Ch
open Go Go.Ab
theorem y8p (L : List UInt8) (h0 : 0 < L.length) (h : ¬ ((Lib.decodeN L.length (L.getD 0 0).toNat (L.getD 1 0).toNat (L.getD 2 0).toNat (L.getD 3 0).toNat).1 = 65533 /\ (Lib.decodeN L.length (L.getD 0 0).toNat (L.getD 1 0).toNat (L.getD 2 0).toNat (L.getD 3 0).toNat).2 = 1)) :
    Lib.encodeRuneZ ((Lib.decodeN L.length (L.getD 0 0).toNat (L.getD 1 0).toNat (L.getD 2 0).toNat (L.getD 3 0).toNat).1 : Int) = (L.map fun b => (b.toNat : Int)).take (Lib.decodeN L.length (L.getD 0 0).toNat (L.getD 1 0).toNat (L.getD 2 0).toNat (L.getD 3 0).toNat).2 := by
  have key : ∀ (n : Nat) (a b c d : UInt8) (r : List Int), (n = 1 \/ n = 2 \/ n = 3 \/ 4 <= n) ->
      ¬ ((Lib.decodeN n a.toNat b.toNat c.toNat d.toNat).1 = 65533 /\ (Lib.decodeN n a.toNat b.toNat c.toNat d.toNat).2 = 1) ->
      (Lib.encodeRuneZ ((Lib.decodeN n a.toNat b.toNat c.toNat d.toNat).1 : Int) = [(a.toNat : Int), b.toNat, c.toNat, d.toNat].take (Lib.decodeN n a.toNat b.toNat c.toNat d.toNat).2) /\ (Lib.decodeN n a.toNat b.toNat c.toNat d.toNat).2 <= n := by
    intro n a b c d r hn hh
    have ha := UInt8.toNat_lt a
    have hb := UInt8.toNat_lt b
    have hc := UInt8.toNat_lt c
    have hd := UInt8.toNat_lt d
    generalize a.toNat = a at *
    generalize b.toNat = b at *
    generalize c.toNat = c at *
    generalize d.toNat = d at *
    unfold Lib.decodeN at hh |-
    split at hh
    · rename_i q
      rw [if_pos q]
      refine ⟨?_, by simp only; omega⟩
      simp only
      rw [Lib.encodeRuneZ_one (by omega) (by omega)]; rfl
    · rename_i q
      rw [if_neg q]
      split at hh
      · rename_i q2
        rw [if_pos q2]
        split at hh
        · rename_i q3
          rw [if_pos q3]
          refine ⟨?_, by simp only; omega⟩
          simp only
          rw [Lib.encodeRuneZ_two (by omega) (by omega)]
          simp only [List.take_succ_cons, List.take_zero, List.cons.injEq, and_true]
          omega
        · exact absurd ⟨rfl, rfl⟩ hh
      · rename_i q2
        rw [if_neg q2]
        split at hh
        · rename_i q3
          rw [if_pos q3]
          split at hh
          · rename_i q4
            rw [if_pos q4]
            refine ⟨?_, by simp only; omega⟩
            simp only
            rw [Lib.encodeRuneZ_three (by omega)]
            simp only [List.take_succ_cons, List.take_zero, List.cons.injEq, and_true]
            omega
          · exact absurd ⟨rfl, rfl⟩ hh
        · rename_i q3
          rw [if_neg q3]
          split at hh
          · rename_i q4
            rw [if_pos q4]
            split at hh
            · rename_i q5
              rw [if_pos q5]
              refine ⟨?_, by simp only; omega⟩
              simp only
              rw [Lib.encodeRuneZ_four (by omega) (by omega)]
              simp only [List.take_succ_cons, List.take_zero, List.cons.injEq, and_true]
              omega
            · exact absurd ⟨rfl, rfl⟩ hh
          · exact absurd ⟨rfl, rfl⟩ hh
  have hk := key L.length (L.getD 0 0) (L.getD 1 0) (L.getD 2 0) (L.getD 3 0) [] (by omega) h
  rw [hk.1]
  have hw := hk.2
  have h1 := Lib.decodeN_ge1 L.length (L.getD 0 0).toNat (L.getD 1 0).toNat (L.getD 2 0).toNat (L.getD 3 0).toNat
  have h4 : (Lib.decodeN L.length (L.getD 0 0).toNat (L.getD 1 0).toNat (L.getD 2 0).toNat (L.getD 3 0).toNat).2 <= 4 := by
    clear h hk hw h1
    unfold Lib.decodeN
    repeat' split
    all_goals simp
  generalize (Lib.decodeN L.length (L.getD 0 0).toNat (L.getD 1 0).toNat (L.getD 2 0).toNat (L.getD 3 0).toNat).2 = w at *
  have hw4 : w = 1 \/ w = 2 \/ w = 3 \/ w = 4 := by omega
  match L, h0 with
  | [a], _ => have : w = 1 := by simp only [zN] at hw; omega
              subst this; rfl
  | [a, b], _ => rcases hw4 with rfl | rfl | rfl | rfl
                 · rfl
                 · rfl
                 · simp at hw
                 · simp at hw
  | [a, b, c], _ => rcases hw4 with rfl | rfl | rfl | rfl
                    · rfl
                    · rfl
                    · rfl
                    · simp at hw
  | a :: b :: c :: d :: r, _ => rcases hw4 with rfl | rfl | rfl | rfl <;> rfl
theorem y4Q{u:ByteArray}(h:0<u.size)(h1:¬(decR u=65533/\decW u=1)):Lib.encodeRuneZ (decR u)=(intsB u).take (decW u):=by
 have hl:u.data.toList.length=u.size:=by rw[Array.length_toList];rfl
 have hd:Lib.decodeGo u=Lib.decodeN u.data.toList.length (u.data.toList.getD 0 0).toNat (u.data.toList.getD 1 0).toNat (u.data.toList.getD 2 0).toNat (u.data.toList.getD 3 0).toNat:=by
  unfold Lib.decodeGo
  rw[if_neg (by omega),Lib.decode_N];rfl
 unfold decR decW intsB at*
 rw[hd] at h1|-
 exact y8p u.data.toList (by omega) (fun q=>h1 ⟨by omega,q.2⟩)
theorem y2w(u:ByteArray)(w:Nat)(hw:w<=u.size):intsB u=(intsB u).take w++intsB (u.extract w u.size):=by
 have hl:u.data.toList.length=u.size:=by rw[Array.length_toList];rfl
 have e:(u.extract w u.size).data.toList=u.data.toList.drop w:=by
  rw[ByteArray.data_extract,Array.toList_extract,List.extract_eq_take_drop,<-hl]
  rw[qn (by rw[zi];omega)]
 unfold intsB
 rw[e,<-List.map_take,<-List.map_append,zE]
theorem y4R:∀(n:Nat) (u:ByteArray),u.size=n->(∀c∈(ofR u).1,CharP c)/\(ofR u).1.length<=u.size/\((ofR u).2=0->(ofR u).1.flatMap Lib.encodeRuneZ=intsB u):=by
 intro n
 induction n using Nat.strongRecOn with
 |_ n ih=>
  intro u hu
  by_cases h:0<u.size
  ·by_cases h1:decR u=65533/\decW u=1
   ·rw[z95 h h1];exact⟨fun c hc=>(by cases hc),qU _,fun q=>(by cases q)⟩
   ·by_cases h2:CharP (decR u)
    ·have hw:=z4z h
     have hs:(u.extract (decW u) u.size).size=u.size-decW u:=by rw[zV];omega
     obtain⟨i1,i2,i3⟩:=ih (u.size-decW u) (by omega) (u.extract (decW u) u.size) hs
     rw[y7f h h1 h2]
     refine⟨fun c hc=> ?_,by simp only[qi];omega,fun q=> ?_⟩
     ·rcases qj.1 hc with rfl|hc
      ·exact h2
      ·exact i1 c hc
     ·rw[List.flatMap_cons,i3 q,y4Q h h1,<-y2w u _ hw.2]
    ·rw[y4M h h1 h2];exact⟨fun c hc=>(by cases hc),qU _,fun q=>(by cases q)⟩
  ·rw[y4L h]
   refine⟨fun c hc=>(by cases hc),qU _,fun _=> ?_⟩
   have:u.data.toList=[]:=je.1 (by rw[Array.length_toList];have:u.data.size=u.size:=rfl;omega)
   unfold intsB;rw[this];rfl
end Go.Ch
end
section
namespace Go.Proofs
open Go.Shelf
def Tryz.lays260_ren:Go.Shelf.Ren:=⟨fun|260=>57|n=>n,fun|9=>9|21=>21|3=>3|4=>4|5=>5|119=>160|0=>0|46=>146|139=>163|138=>162|n=>n,fun|3=>0|4=>1|n=>n⟩
theorem Tryz.lays260:Go.Proofs.Lays.n260 Tryz.prog Tryz.lays260_ren:={
 mixed:=by kernel_rfl
 f260:=Tryz.func57.trans (congrArg some (by kernel_rfl))
 t0:=Tryz.underlying0
 a0:=Tryz.isAgg0
 z0:=Tryz.sizeOf0
 v0:=Tryz.zeroValue0
 t3:=Tryz.underlying3
 a3:=Tryz.isAgg3
 z3:=Tryz.sizeOf3
 v3:=Tryz.zeroValue3
 t4:=Tryz.underlying4
 a4:=Tryz.isAgg4
 z4:=Tryz.sizeOf4
 v4:=Tryz.zeroValue4
 t5:=Tryz.underlying5
 a5:=Tryz.isAgg5
 z5:=Tryz.sizeOf5
 v5:=Tryz.zeroValue5
 t9:=Tryz.underlying9
 a9:=Tryz.isAgg9
 z9:=Tryz.sizeOf9
 v9:=Tryz.zeroValue9
 t21:=Tryz.underlying21
 a21:=Tryz.isAgg21
 z21:=Tryz.sizeOf21
 v21:=Tryz.zeroValue21
 t46:=Tryz.underlying146
 a46:=Tryz.isAgg146
 z46:=Tryz.sizeOf146
 v46:=Tryz.zeroValue146
 t119:=Tryz.underlying160
 a119:=Tryz.isAgg160
 z119:=Tryz.sizeOf160
 t138:=Tryz.underlying162
 a138:=Tryz.isAgg162
 z138:=Tryz.sizeOf162
 v138:=Tryz.zeroValue162
 t139:=Tryz.underlying163
 a139:=Tryz.isAgg163
 z139:=Tryz.sizeOf163
 v139:=Tryz.zeroValue163
 g3:=by kernel_rfl
 g4:=by kernel_rfl}
def Tryz.lays197_ren:Go.Shelf.Ren:=⟨fun|197=>27|260=>57|n=>n,fun|9=>9|21=>21|3=>3|4=>4|5=>5|105=>71|119=>160|0=>0|46=>146|139=>163|138=>162|n=>n,fun|3=>0|4=>1|n=>n⟩
theorem Tryz.lays197:Go.Proofs.Lays.n197 Tryz.prog Tryz.lays197_ren:={
 mixed:=by kernel_rfl
 f197:=Tryz.func27.trans (congrArg some (by kernel_rfl))
 f260:=Tryz.func57.trans (congrArg some (by kernel_rfl))
 t0:=Tryz.underlying0
 a0:=Tryz.isAgg0
 z0:=Tryz.sizeOf0
 v0:=Tryz.zeroValue0
 t3:=Tryz.underlying3
 a3:=Tryz.isAgg3
 z3:=Tryz.sizeOf3
 v3:=Tryz.zeroValue3
 t4:=Tryz.underlying4
 a4:=Tryz.isAgg4
 z4:=Tryz.sizeOf4
 v4:=Tryz.zeroValue4
 t5:=Tryz.underlying5
 a5:=Tryz.isAgg5
 z5:=Tryz.sizeOf5
 v5:=Tryz.zeroValue5
 t9:=Tryz.underlying9
 a9:=Tryz.isAgg9
 z9:=Tryz.sizeOf9
 v9:=Tryz.zeroValue9
 t21:=Tryz.underlying21
 a21:=Tryz.isAgg21
 z21:=Tryz.sizeOf21
 v21:=Tryz.zeroValue21
 t46:=Tryz.underlying146
 a46:=Tryz.isAgg146
 z46:=Tryz.sizeOf146
 v46:=Tryz.zeroValue146
 t105:=Tryz.underlying71
 a105:=Tryz.isAgg71
 z105:=Tryz.sizeOf71
 v105:=Tryz.zeroValue71
 t119:=Tryz.underlying160
 a119:=Tryz.isAgg160
 z119:=Tryz.sizeOf160
 t138:=Tryz.underlying162
 a138:=Tryz.isAgg162
 z138:=Tryz.sizeOf162
 v138:=Tryz.zeroValue162
 t139:=Tryz.underlying163
 a139:=Tryz.isAgg163
 z139:=Tryz.sizeOf163
 v139:=Tryz.zeroValue163
 g3:=by kernel_rfl
 g4:=by kernel_rfl}
open Go.RowKit Go.Lib in
theorem Tryz.utf8_DecodeRuneInString(s:ByteArray)(w:World)(hT:Lib.Utf8Tabs 0 1 w):
 Calls Tryz.prog 27 #[.string s] w fun e w'=>e= .returned (.tuple #[.int .i32 (Lib.decodeGo s).1,.int .i64 (Lib.decodeGo s).2])/\Below w.heap.size w w':=Any.utf8_DecodeRuneInString Tryz.lays197 s w hT
end Go.Proofs
end
section
set_option maxRecDepth 100000
set_option maxHeartbeats 4000000
open Go Go.Proofs Go.Ab
namespace Go.Ch
theorem y4S(s:ByteArray):FC Tryz.prog 27 [VS s] (app emp []) (.tup [.t (.sc (.int .i32 (decR s))),VI (decW s:Int)]) (app emp []):=by
 refine FC.ofTab (us:=[.string s]) (v:= .tuple #[.int .i32 (Lib.decodeGo s).1,.int .i64 (Lib.decodeGo s).2]) (fun st m w ok xs hl hv=> ?_) (fun st m w ok=> ?_) (fun w hT=> ?_)
 ·match xs,hl with
  | [x],_=>
   have:=VRel.sc_inv (hv 0 _ _ rfl rfl)
   rw[this]
 ·refine .tup _ [.int .i32 (Lib.decodeGo s).1,.int .i64 (Lib.decodeGo s).2] rfl (fun i v u h1 h2=> ?_)
  match i with
  |0=>cases h1;cases h2;exact .t _ _ (.sc _ rfl)
  |1=>cases h1;cases h2;exact .t _ _ (.sc _ rfl)
  |i+2=>cases h1
 ·exact Go.Proofs.Tryz.utf8_DecodeRuneInString s w (hT.utf 0 1 (by kernel_rfl) (by kernel_rfl))
theorem fc_of(s:ByteArray)(l:List Attr)(hn:s.size<=1000000000)(hk:l.length<=1000000000)(hl:chkA false l 0=0)(hz:(ofR s).2=0):FC Tryz.prog 30 [VS s,VL 2 attrT l] (app emp []) (.tup [.row 0 ((ofL s l).length),VI 0]) (app emp [(0,OR 3 elemT (ofL s l))]):=by
 refine .go Tryz.f30 ?_
 refine .len 1 (fun hl1=> ?_)
 refine .bp [.r [],.r [(1,X (Xc0 (z1Z l) X0))],.r []] ((chkA false l 0) !=0) (fun h2=> ?_) (fun h2=> ?_)
 ·
  exfalso
  omega
 ·
  refine .loop (α:=ByteArray×(List Elem)) [.r [],.le (.nR 7 3)] 65 (fun(u,o)=>([(0,VS u),(1,VL 2 attrT l),(7,.row 64 o.length)],[(64,OR 3 elemT o)])) (fun(u,o)=>OfI s l u o) (fun(u,o)=>u.size) (s,[]) ?_ ?_
  ·
   exact OfI.start s l
  rintro⟨u,o⟩ I5 ih5
  replace I5:OfI s l u o:=I5
  have ol:=I5.size
  have oe:=I5.err
  refine .bp [.r []] (!(seq u ({data:=#[]}))) (fun h5=> ?_) (fun h5=> ?_)
  ·
   rw[z2d,decide_eq_false_iff_not] at h5
   have hw:=z4z (u:=u) (by omega)
   have hr:=y3G u
   refine .bp [.r [(1,X (Xc0 (y4S u) X0))],.r [(4,Xv 1 ((decR u)==65533) X0),(5,X (Xk ((decR u)==65533)))]] (((decR u)==65533)&&((decW u:Int)==1)) (fun h7=> ?_) (fun h7=> ?_)
   ·
    exfalso
    have hb:=z95 (u:=u) (by omega) ⟨h7.1,by omega⟩
    rw[hb] at oe
    have oe2:(ofR s).2=10:=oe.symm
    omega
   ·
    have hnb:¬(decR u=65533/\decW u=1):=fun q=>by rcases h7 with h|h;(exact h q.1);(apply h;omega)
    refine .bp [.r [(1,X (Xn (decR u))),(2,X (Xc0 (z9N (decR u)) X0))]] (!(decide (CharP (decR u)))) (fun h9=> ?_) (fun h9=> ?_)
    ·
     exfalso
     have hb:=y4M (u:=u) (by omega) hnb h9
     rw[hb] at oe
     have oe2:(ofR s).2=2:=oe.symm
     omega
    ·
     refine .back [.r [(2,X (Xn (decR u))),(4,X (Xan attrT 249 l)),(6,X (rowC attrT l X0)),(7,X (rowC elemT [({char:=(decR u),ref:=0,attrs:=l}:Elem)] (Xap 3 elemT 64 o [({char:=(decR u),ref:=0,attrs:=l}:Elem)])))],.r [(2,X (Xa (Xc ((0:Int)<=(decW u:Int))) (Xa (Xc (((decW u:Int):Int)<=(u.size:Int))) (Xc (((u.size:Int):Int)<=(u.size:Int))))))]] [(64,64)] (ih5 ((u.extract (((decW u:Int):Int)).toNat (((u.size:Int):Int)).toNat),(o++[({char:=(decR u),ref:=0,attrs:=l}:Elem)])) ?_ ?_)
     ·
      exact I5.next (by omega) hnb h9
     ·
      show(u.extract (decW u) u.size).size<u.size
      rw[zV];omega
  ·
   rw[z2d,decide_eq_true_eq] at h5
   obtain⟨oz,oe2⟩:=I5.done h5
   have e1:((ofL s l):List Elem)=o:=by
    rw[oz]
   have e2:((ofL s l).length:Nat)=o.length:=by
    rw[oz]
   exact .finE [.r []] [(64,0)] (fun((z0,z1):(List Elem)×Nat)=>(.tup [.row 0 z1,VI 0],[(0,OR 3 elemT z0)])) _ _ (pr e1 e2)
theorem ofAny(t:ByteArray)(h:(ofR t).2=0)(hn:t.size<=1000000):OfFC t (ofR t).1:=fun l h1 h2=>by
 have:=fc_of t l (by omega) (by omega) h1 h
 rw[show ofL t l=(ofR t).1.map (mkE l) by unfold ofL;rw[if_pos h]] at this
 exact this
theorem y4T(s:ByteArray)(hn:s.size<=1000000000):FC Tryz.prog 11 [VS s,VN] (app emp []) (.tup [VL 3 elemT (ofL s []),VI ((ofR s).2)]) (app emp []):=by
 refine .go Tryz.f11 ?_
 have hz0:Szd ([]:List Attr):=fun a h=>by cases h
 refine .bp [.r [],.r [(1,X (Xc0 (.nil 0 2 (z7w [] false (by assumption))) X0))],.r []] ((errA false [] 0) !=0) (fun h2=> ?_) (fun h2=> ?_)
 ·
  exfalso
  exact h2 (by rw[errA,if_neg (by simp)])
 ·
  refine .loop (α:=Nat×(List Elem)) [.r [],.r [],.le (.nR 7 3)] 73 (fun(i,o)=>([(0,VS s),(1,VN),(7,.row 72 o.length),(8,VI (i:Int))],[(72,OR 3 elemT o)])) (fun(i,o)=>OfI s [] (s.extract i s.size) o/\i<=s.size) (fun(i,o)=>s.size-i) (0,[]) ?_ ?_
  ·
   exact⟨by rw[y4z];exact OfI.start s [],qU _⟩
  rintro⟨i,o⟩ I6 ih6
  try dsimp only at I6
  have ol:=I6.1.size
  have oe:=I6.1.err
  have ux:=z5l s i
  refine .bp [.r []] (decide ((i:Int)< (s.size:Int))) (fun h6=> ?_) (fun h6=> ?_)
  ·
   have hw:=z4z (u:=(s.extract i s.size)) (by omega)
   have hr:=y3G (s.extract i s.size)
   refine .bp [.r [(2,X (Xa (Xc ((0:Int)<=(i:Int))) (Xa (Xc (((i:Int):Int)<=(s.size:Int))) (Xc (((s.size:Int):Int)<=(s.size:Int)))))),(3,X (Xc0 (y4S (s.extract (((i:Int):Int)).toNat (((s.size:Int):Int)).toNat)) X0))],.le (.eq 9 (.t (.sc (.int .i32 (decR (s.extract (((i:Int):Int)).toNat (((s.size:Int):Int)).toNat))))) (.t (.sc (.int .i32 (decR (s.extract i s.size))))) (.of_eq (by simp only[Int.toNat_natCast]))),.le (.eq 10 (VI (decW (s.extract (((i:Int):Int)).toNat (((s.size:Int):Int)).toNat):Int)) (VI (decW (s.extract i s.size):Int)) (.of_eq (by simp only[Int.toNat_natCast]))),.r [(4,Xv 1 ((decR (s.extract i s.size))==65533) X0),(5,X (Xk ((decR (s.extract i s.size))==65533)))]] (((decR (s.extract i s.size))==65533)&&decide ((decW (s.extract i s.size):Int)< 2)) (fun h8=> ?_) (fun h8=> ?_)
   ·
    have hb:=z95 (u:=(s.extract i s.size)) (by omega) ⟨h8.1,by omega⟩
    rw[hb] at oe
    have oe2:(ofR s).2=10:=oe.symm
    have oz:ofL s []=[]:=y4N (by rw[oe2];decide)
    have e1:((ofL s []):List Elem)=[]:=by
     first|exact oz|exact oe2|skip
    have e2:((ofR s).2:Int)=10:=by
     first|exact oz|exact oe2|skip
    exact .finE [.r [],.le (.nL 4 3)] [] (fun((z0,z1):(List Elem)×Int)=>(.tup [VL 3 elemT z0,VI z1],[])) _ _ (pr e1 e2)
   ·
    have hnb:¬(decR (s.extract i s.size)=65533/\decW (s.extract i s.size)=1):=fun q=>by rcases h8 with h|h;(exact h q.1);(have:=q.2;omega)
    refine .bp [.r [(1,X (Xn (decR (s.extract i s.size)))),(2,X (Xc0 (y5V (decR (s.extract i s.size))) X0))]] (!(decide (CharP (decR (s.extract i s.size))))) (fun h10=> ?_) (fun h10=> ?_)
    ·
     have hb:=y4M (u:=(s.extract i s.size)) (by omega) hnb h10
     rw[hb] at oe
     have oe2:(ofR s).2=2:=oe.symm
     have oz:ofL s []=[]:=y4N (by rw[oe2];decide)
     have e3:((ofL s []):List Elem)=[]:=by
      first|exact oz|exact oe2|skip
     have e4:((ofR s).2:Int)=2:=by
      first|exact oz|exact oe2|skip
     exact .finE [.r [],.le (.nL 4 3)] [] (fun((z0,z1):(List Elem)×Int)=>(.tup [VL 3 elemT z0,VI z1],[])) _ _ (pr e3 e4)
    ·
     refine .back [.r [(2,X (Xn (decR (s.extract i s.size)))),(4,X (Xf [(2,2)])),(6,X (rowC elemT [({char:=(decR (s.extract i s.size)),ref:=0,attrs:=[]}:Elem)] (Xap 3 elemT 72 o [({char:=(decR (s.extract i s.size)),ref:=0,attrs:=[]}:Elem)])))],.r [(2,X (Xn ((i:Int)+(decW (s.extract i s.size):Int))))]] [(72,72)] (ih6 ((Int.toNat ((i:Int)+(decW (s.extract i s.size):Int))),(o++[({char:=(decR (s.extract i s.size)),ref:=0,attrs:=[]}:Elem)])) ?_ ?_)
     ·
      have hx:=I6.1.next (by omega) hnb h10
      have e:((s.extract i s.size).extract (decW (s.extract i s.size)) (s.extract i s.size).size)=s.extract (i+decW (s.extract i s.size)) s.size:=by
       rw[ux];apply ByteArray.ext;simp only[ByteArray.data_extract,Array.extract_extract];congr 1;omega
      rw[e] at hx
      exact⟨hx,by omega⟩
     ·
      ((try dsimp only);omega)
  ·
   obtain⟨oz,oe2⟩:=I6.1.done (by omega)
   have e5:((ofL s []):List Elem)=o:=by
    first|exact oz|exact oe2|skip
   have e6:((ofR s).2:Int)=0:=by
    first|exact oz|exact oe2|skip
   exact .finE [.r [],.le (.fr 4 [(o.length:Nat)=(List.map elemT o).length] ⟨lm,trivial⟩)] [] (fun((z0,z1):(List Elem)×Int)=>(.tup [VL 3 elemT z0,VI z1],[])) _ _ (pr e5 e6)
end Go.Ch
end
section
namespace Go.Ch
open Go Go.Ab
structure US where
 nm:List ByteArray
 no:List ByteArray
instance:Membership ByteArray US:=⟨fun U s=>s∈U.nm⟩
def US.length(U:US):Nat:=U.nm.length
def NU(U:US)(s:ByteArray):Prop:=NPg s/\s∈U
def VW(U:US)(s:ByteArray):Prop:=VPg s/\s∉U.no
def VU(U:US)(e:Bool)(l:List Attr):Prop:=V (NU U) (VW U) e l
variable {U:US}
theorem nu_mt:¬NU U mt:=fun h=>np_mt h.1
theorem VU.g{e:Bool}{l:List Attr}(h:VU U e l):VG e l:=⟨h.1,fun a ha=>⟨(h.2 a ha).1.1,Or.imp (fun q:VW U a.val=>q.1) (fun q=>q) (h.2 a ha).2⟩⟩
theorem VU.nil{e:Bool}:VU U e []:=⟨z55.1,fun a h=>by cases h⟩
theorem VU.sub{e:Bool}{l:List Attr}(h:VU U false l):VU U e l:=⟨h.1,fun a ha=>⟨(h.2 a ha).1,.inl ((h.2 a ha).2.resolve_right (fun q=>by cases q.1))⟩⟩
theorem y1A:∀{l:List Attr} {U:List ByteArray},z2c l->(∀a∈l,a.name∈U)->l.length<=U.length
 | [],U,_,_=>qU _
 |a::l,U,hs,hu=>by
  have:=y1A (l:=l) (U:=U.filter fun s=> !(seq s a.name)) hs.2 (fun b hb=>by
   have h1:=hs.1 b hb
   rw[zt]
   exact⟨hu b (by simp[hb]),by rw[z1a.2 (Ne.symm (z1K h1))];rfl⟩)
  have h2:=(List.length_filter_lt_length_iff_exists (l:=U) (p:=fun s=> !(seq s a.name))).2 ⟨a.name,hu a (by simp),by rw[z0u.2 rfl];decide⟩
  simp only[qi];omega
theorem VU.len{e:Bool}{l:List Attr}(h:VU U e l)(hU:U.length<=100):l.length<=100:=qD (y1A h.1 (fun a ha=>(h.2 a ha).1.2)) hU
def RU(U:US)(x:Elem):Prop:=elemE x=0/\VU U false x.attrs
def UU(U:US):DU->Prop
 | .K c=>VU U true c
 | .A e=>RU U e
 | .C=>True
theorem y6y{x:Elem}{l:List Attr}(h:elemE x=0)(hl:VG false l):elemE ⟨x.char,x.ref,l⟩=0:=by
 unfold elemE at h|-
 split at h
 ·cases h
 ·rename_i h1
  split at h
  ·cases h
  ·rename_i h2
   rw[if_neg h1,if_neg h2];exact z05.2 hl
theorem RU.chg{x:Elem}{c:List Attr}(h:RU U x)(hc:VU U true c):RU U (chgE c x):=by
 have:=raw_V nu_mt h.2 hc
 exact⟨y6y h.1 (VU.g this),this⟩
theorem UU.s(hU:U.length<=100){u:DU}(h:UU U u):UnitS u:=by
 cases u with
 |K c=>exact⟨VU.g h,VU.len h hU⟩
 |A e=>exact⟨h.1,VU.len h.2 hU⟩
 |C=>trivial
theorem all_cons{α:Type}{P:α->Prop}{x:α}{l:List α}(h:P x)(k:∀u∈l,P u):∀u∈x::l,P u:=fun u hu=>by
 rcases qj.1 hu with rfl|hu
 ·exact h
 ·exact k u hu
theorem z0v{α:Type}{P:α->Prop}{x:α}{l:List α}(h:∀u∈x::l,P u):∀u∈l,P u:=fun u hu=>h u (qB _ hu)
theorem y2x(p q:List DU)(hp:∀u∈p,UU U u)(hq:∀u∈q,UU U u):∀u∈z0g p q,UU U u:=by
 induction p,q using z0g.induct with
 |case1 q p ih=>rw[z0g];exact all_cons trivial (ih (z0v hp) hq)
 |case2 p e q hne ih=>
  rw[z0g]
  rotate_left
  ·exact hne
  exact all_cons (hq (.A e) (by simp)) (ih hp (z0v hq))
 |case3 c p d q ih=>rw[z0g];exact all_cons (bot_V nu_mt (hp (.K c) (by simp)) (hq (.K d) (by simp))) (ih (z0v hp) (z0v hq))
 |case4 c p q ih=>rw[z0g];exact all_cons trivial (ih (z0v hp) (z0v hq))
 |case5 e p d q ih=>rw[z0g];exact all_cons (RU.chg (hp (.A e) (by simp)) (hq (.K d) (by simp))) (ih (z0v hp) (z0v hq))
 |case6 e p q ih=>rw[z0g];exact ih (z0v hp) (z0v hq)
 |case7 p hne=>rw[show z0g p []=p by unfold z0g;split<;>simp_all];exact hp
 |case8 q h1 h2=>rw[show z0g [] q=[] by unfold z0g;split<;>simp_all];intro u hu;cases hu
def addN:List DU->Nat
 | []=>0
 | .A _::us=>addN us+1
 |_::us=>addN us
theorem y2y(p q:List DU)(hp:∀u∈p,UU U u)(hq:∀u∈q,UU U u):∀u∈(z0b p q).1,UU U u:=by
 have h0:UU U (.K []):=VU.nil
 induction p,q using z0b.induct with
 |case1 e p q ih=>rw[z0b];exact all_cons (hp (.A e) (by simp)) (ih (z0v hp) hq)
 |case2 e q ih=>rw[z0b];exact all_cons h0 (ih hp (z0v hq))
 |case3 c p e q ih=>rw[z0b];exact all_cons h0 (ih hp (z0v hq))
 |case4 p e q ih=>rw[z0b];exact all_cons h0 (ih hp (z0v hq))
 |case5 c p d q ih=>rw[z0b];exact all_cons (wio_V nu_mt (hp (.K c) (by simp)) (hq (.K d) (by simp))) (ih (z0v hp) (z0v hq))
 |case6 c p q ih=>rw[z0b];exact ih (z0v hp) (z0v hq)
 |case7 p d q ih=>rw[z0b];exact all_cons trivial (ih (z0v hp) (z0v hq))
 |case8 p q ih=>rw[z0b];exact ih (z0v hp) (z0v hq)
 |case9 p hne=>rw[show z0b p []=([],[]) by unfold z0b;split<;>simp_all];intro u hu;cases hu
 |case10 q h1 h2=>rw[show z0b [] q=([],[]) by unfold z0b;split<;>simp_all];intro u hu;cases hu
theorem y2z(p q:List DU):newN (z0b p q).1<=newN q+addN p:=by
 induction p,q using z0b.induct with
 |case9 p hne=>rw[show z0b p []=([],[]) by unfold z0b;split<;>simp_all];simp[newN]
 |case10 q h1 h2=>rw[show z0b [] q=([],[]) by unfold z0b;split<;>simp_all];simp[newN]
 |_=>rw[z0b];simp only[newN,addN] at*;omega
theorem z1D:∀(us:List DU) (f:List Elem),(∀u∈us,UU U u)->(∀x∈f,RU U x)->∀x∈z0i us f,RU U x
 | [],f,_,_=>fun x h=>by cases h
 | .A e::us,f,hu,hf=>by rw[z0i];exact all_cons (hu (.A e) (by simp)) (z1D us f (z0v hu) hf)
 | .K c::us,y::f,hu,hf=>by rw[z0i];exact all_cons (RU.chg (hf y (by simp)) (hu (.K c) (by simp))) (z1D us f (z0v hu) (z0v hf))
 | .C::us,y::f,hu,hf=>by rw[z0i];exact z1D us f (z0v hu) (z0v hf)
 | .K c::us,[],hu,hf=>by rw[z0i];exact z1D us [] (z0v hu) hf
 | .C::us,[],hu,hf=>by rw[z0i];exact z1D us [] (z0v hu) hf
structure DU_(U:US)(l:List DStep)(us:List DU):Prop where
 v:z0U l
 sw:DSw (exD l) us
 all:∀u∈us,UU U u
theorem DU_.dn(hU:U.length<=100){l:List DStep}{us:List DU}(h:DU_ U l us):DN 100000000000 l:=dn_of h.v h.sw (fun u hu=>UU.s hU (h.all u hu))
theorem DU_.ex{l:List DStep}{us:List DU}(h:DU_ U l us):∀u∈exD l,UU U u:=fun u hu=>h.all u ((z57 h.sw u).1 hu)
theorem DU_.done(hU:U.length<=100){us:List DU}(hu:∀u∈us,UU U u)(h1:oldN us<=2147483647)(h2:newN us<=2147483647):DU_ U (doneD us) us:=by
 obtain⟨a,b,_⟩:=z3g (fun u h=>(UU.s hU (hu u h)).ok) h1 h2
 exact⟨a,b,hu⟩
end Go.Ch
end
section
namespace Go.Ch
open Go Go.Ab
variable {U:US}
theorem y1B(a b:List DU):addN (a++b)=addN a+addN b:=by
 induction a with
 |nil=>simp[addN]
 |cons u a ih=>cases u<;>simp only[qg,addN,ih]<;>omega
theorem y8q(e:List Elem):addN (e.map .A)=e.length:=by
 induction e with
 |nil=>rfl
 |cons x e ih=>simp only[qV,addN,ih,qi]
theorem y8r(n:Nat)(c:List Attr):addN (List.replicate n (.K c))=0:=by
 induction n with
 |zero=>rfl
 |succ n ih=>rw[qE];exact ih
theorem y8s{u v:List DU}(h:DSw u v):addN u=addN v:=by
 induction h with
 |refl u=>rfl
 |cons x h ih=>cases x<;>simp only[addN,ih]
 |swap e u=>simp only[addN]
 |symm h ih=>exact ih.symm
 |trans h k i j=>exact i.trans j
theorem y9o{w:DWr}{s:DStep}(h:(s.kind=0/\0<=s.n)\/s.kind=1):tdW w s=foldD w (exS s):=by
 unfold tdW exS
 rcases h with⟨k,n⟩|k
 ·rw[if_pos k,if_neg (show¬s.kind=1 by omega),if_neg (show¬s.kind=2 by omega)]
  by_cases h0:s.n=0
  ·rw[if_pos h0,h0];rfl
  ·rw[if_neg h0]
   obtain⟨m,hm⟩:∃m,s.n.toNat=m+1:=⟨s.n.toNat- 1,by omega⟩
   have:=z7N s.attrs [] m w
   rw[qM] at this
   rw[hm,this,show((m+1:Nat):Int)=s.n by omega];rfl
 ·rw[if_neg (by omega),if_pos k,if_pos k]
  have:=y1g s.elems [] w
  rw[qM] at this
  rw[this];rfl
theorem z9a:∀(a b:List DU) (w:DWr),foldD w (a++b)=foldD (foldD w a) b
 | [],b,w=>rfl
 |u::a,b,w=>z9a a b (putU w u)
theorem y1C:∀(d:List DStep) (w:DWr),(∀s∈d,((s.kind=0/\0<=s.n)\/s.kind=1)/\lenE s=0)->tidyG w d=if z0T (z0a (foldD w (exD d)))=0 then(z0a (foldD w (exD d)),0) else([],3)
 | [],w,_=>by rw[tidyG,exD,foldD]
 |s::d,w,h=>by
  obtain⟨h1,h2⟩:=h s (by simp)
  rw[y2l h2 (fun q=>by unfold tdBad at q;omega),y1C d _ (fun t ht=>h t (by simp[ht])),exD,z9a,y9o h1]
theorem y8t{d:List DStep}(h:∀s∈d,((s.kind=0/\0<=s.n)\/s.kind=1)/\lenE s=0)(hu:∀u∈exD d,z03 u)(h1:oldN (exD d)<=2147483647)(h2:newN (exD d)<=2147483647):tidyL d=doneD (exD d):=by
 have hv:=(z3g hu h1 h2).1
 unfold tidyL
 rw[y1C d _ h,if_pos (show z0T (z0a (foldD ⟨[],[],0⟩ (exD d)))=0 from z0Q.2 hv)];rfl
theorem z9b{n:Int}{c:List Attr}(h:0<=n/\n<=2147483647)(hc:VG true c):lenE ⟨0,n,c,[]⟩=0:=by
 by_cases h0:n=0
 ·subst h0
  unfold lenE
  have e:stepD ⟨0,0,c,[]⟩=2:=by unfold stepD;simp
  rw[if_pos (.inr ⟨(by decide:(0:Int)≠1),rfl,e⟩)];exact z05.2 hc
 ·exact z59 (z0I.2 (.inr ⟨.inl rfl,rfl,fun q=>absurd (show(0:Int)=2 from q) (by decide),(by show(1:Int)<=n;omega),h.2,hc⟩))
theorem y4U{es:List Elem}(h:∀x∈es,elemE x=0):lenE ⟨1,0,[],es⟩=0:=by
 cases es with
 |nil=>
  unfold lenE
  have e:stepD ⟨1,0,[],[]⟩=11:=by unfold stepD;simp
  rw[if_pos (.inl ⟨rfl,rfl,e⟩)];exact z05.2 z55
 |cons x l=>exact z59 (z0I.2 (.inl ⟨rfl,rfl,rfl,by simp,h⟩))
def typUs(n:Nat)(k:Nat)(es:List Elem)(au:ByteArray):List DU:=List.replicate k (.K [])++((es.map (typE au)).map .A++List.replicate (n-k) (.K []))
theorem y1D{n:Nat}{k:Int}{es:List Elem}{au:ByteArray}(hk:0<=k/\k<=n):exD (typS n k es au)=typUs n k.toNat es au:=by
 unfold typS typUs
 simp only[exD,exS]
 rw[if_neg (by decide),if_neg (by decide),if_pos trivial,if_neg (by decide),if_neg (by decide),qM,show((n:Int)- k).toNat=n-k.toNat by omega]
theorem z2P{n k:Nat}{es:List Elem}{au:ByteArray}(hk:k<=n):oldN (typUs n k es au)=n/\newN (typUs n k es au)=n+es.length/\addN (typUs n k es au)=es.length:=by
 unfold typUs
 have a:=z2i (es.map (typE au))
 have b:=z1p k []
 have c:=z1p (n-k) []
 simp only[z0E,z1o,y1B,y8q,y8r,a.1,a.2,b.1,b.2,c.1,c.2,qk]
 omega
theorem y4V{au:ByteArray}{x:Elem}(ha:VU U true [⟨addB,au⟩,⟨cutB,mtB⟩])(hx:RU U x):RU U (typE au x):=RU.chg hx ha
theorem y4W{n k:Nat}{es:List Elem}{au:ByteArray}(ha:VU U true [⟨addB,au⟩,⟨cutB,mtB⟩])(he:∀x∈es,RU U x):∀u∈typUs n k es au,UU U u:=by
 intro u hu
 unfold typUs at hu
 rcases qp.1 hu with hu|hu
 ·rw[zn hu];exact VU.nil
 ·rcases qp.1 hu with hu|hu
  ·obtain⟨y,hy,rfl⟩:=qC.1 hu
   obtain⟨x,hx,rfl⟩:=qC.1 hy
   exact y4V ha (he x hx)
  ·rw[zn hu];exact VU.nil
theorem y4X(hU:U.length<=100){n:Nat}{k:Int}{es:List Elem}{au:ByteArray}(hk:0<=k/\k<=n)(hn:n<=100000000)(hl:es.length<=100000000)(ha:VU U true [⟨addB,au⟩,⟨cutB,mtB⟩])(he:∀x∈es,RU U x):
 typD n k es au=doneD (typUs n k.toNat es au)/\DU_ U (typD n k es au) (typUs n k.toNat es au):=by
 have hf:=z2P (n:=n) (k:=k.toNat) (es:=es) (au:=au) (by omega)
 have hall:=y4W (n:=n) (k:=k.toNat) ha he
 have e:typD n k es au=doneD (typUs n k.toNat es au):=by
  unfold typD
  rw[y8t (d:=typS n k es au) (fun s hs=> ?_) (by rw[y1D hk];exact fun u hu=>(UU.s hU (hall u hu)).ok) (by rw[y1D hk];omega) (by rw[y1D hk];omega),y1D hk]
  unfold typS at hs
  simp only[qj,qS,or_false] at hs
  rcases hs with rfl|rfl|rfl
  ·exact⟨.inl ⟨rfl,hk.1⟩,z9b (by omega) z55⟩
  ·refine⟨.inr rfl,y4U (fun x hx=> ?_)⟩
   obtain⟨y,hy,rfl⟩:=qC.1 hx
   exact(y4V ha (he y hy)).1
  ·exact⟨.inl ⟨rfl,(by show(0:Int)<=(n:Int)- k;omega)⟩,z9b (by omega) z55⟩
 exact⟨e,by rw[e];exact .done hU hall (by omega) (by omega)⟩
theorem z14(f:List Elem)(pl:List Int)(au:ByteArray)(n:Nat):oldN (ersUs f pl au n)=n/\newN (ersUs f pl au n)<=n/\addN (ersUs f pl au n)=0:=by
 unfold ersUs
 induction n with
 |zero=>exact⟨rfl,qt _,rfl⟩
 |succ n ih=>
  rw[zG,qX,z0E,z1o,y1B,qV,zR]
  obtain⟨a,b,c⟩:=ih
  rw[a,c]
  have:oldN [ersU f pl au n]=1/\newN [ersU f pl au n]<=1/\addN [ersU f pl au n]=0:=by unfold ersU;repeat' split<;>simp[oldN,newN,addN]
  omega
theorem y4Y{f:List Elem}{pl:List Int}{au:ByteArray}(ha:seq au mtB=false->VU U true [⟨cutB,au⟩])(n:Nat):∀u∈ersUs f pl au n,UU U u:=by
 intro u hu
 unfold ersUs at hu
 obtain⟨i,_,rfl⟩:=qC.1 hu
 unfold ersU
 split
 ·split
  ·trivial
  ·rename_i h
   exact ha (by simp only[qF,not_or,zK] at h;exact h.1)
 ·exact VU.nil
theorem y4Z(hU:U.length<=100){f:List Elem}{pl:List Int}{au:ByteArray}(hn:f.length<=100000000)(ha:seq au mtB=false->VU U true [⟨cutB,au⟩]):
 ersD f pl au=doneD (ersUs f pl au f.length)/\DU_ U (ersD f pl au) (ersUs f pl au f.length):=by
 have hf:=z14 f pl au f.length
 have hall:=y4Y (f:=f) (pl:=pl) ha f.length
 have hlen:(ersUs f pl au f.length).length=f.length:=by simp[ersUs]
 have e:ersD f pl au=doneD (ersUs f pl au f.length):=(z6T (fun u hu=>(UU.s hU (hall u hu)).ok) (by omega)).1
 exact⟨e,by rw[e];exact .done hU hall (by omega) (by omega)⟩
theorem DU_.lens{l:List DStep}{us:List DU}(h:DU_ U l us):oldD l=oldN us/\newD l=newN us:=by
 have a:=z4Y h.v
 have b:=y07 h.sw
 omega
theorem z9c(hU:U.length<=100){a b:List DStep}{us vs:List DU}(ha:DU_ U a us)(hb:DU_ U b vs)(hm:oldN us=oldN vs)(hs:newN us+newN vs<=2147483647):
 DU_ U (z0X a b) (z0b (exD a) (exD b)).1/\oldD (z0X a b)=newD b/\newD (z0X a b)<=newD b+addN us:=by
 obtain⟨a1,a2⟩:=ha.lens
 obtain⟨b1,b2⟩:=hb.lens
 have P:=z6S ha.v hb.v (ha.dn hU) (hb.dn hU) (by omega) (by omega)
 have hn:=y2z (exD a) (exD b)
 have hd:DU_ U (z0X a b) (z0b (exD a) (exD b)).1:=⟨P.2.2.2.1,P.2.2.2.2.2.1,y2y _ _ ha.ex hb.ex⟩
 have l1:=hd.lens
 have l2:=z4Y hb.v
 have l3:=y8s ha.sw
 exact⟨hd,P.2.2.2.2.2.2.2.1,by omega⟩
theorem y1E(hU:U.length<=100){a b:List DStep}{us vs:List DU}(ha:DU_ U a us)(hb:DU_ U b vs)(hm:newD a=oldD b):
 DU_ U (joinD a b) (z0g (exD a) (exD b))/\oldD (joinD a b)=oldD a/\newD (joinD a b)=newD b:=by
 have P:=z6R ha.v hb.v (ha.dn hU) (hb.dn hU) hm
 exact⟨⟨P.2.2.2.2.1,P.2.2.2.2.2.1,y2x _ _ ha.ex hb.ex⟩,P.2.2.2.2.2.2.1,P.2.2.2.2.2.2.2⟩
end Go.Ch
end
section
namespace Go.Ch
open Go Go.Ab
def zzB:ByteArray:={data:=#[122,122]}
structure UB(U:US):Prop where
 len:U.length<=100
 z:∀v∈U.no,v=zzB
 ad:addB∈U
 ct:cutB∈U
structure NG(U:US)(n:Node):Prop where
 at1:VU U false n.attrs
 fl:∀x∈n.flow,RU U x
 mg:n.grid.merges=[]
 ce:∀c∈n.grid.cells,c.attrs=[]/\c.text.size=0
 dr:∀o∈n.draw,o.plc.size<=100/\o.nm.size<=100/\o.vl.size<=100
 kd:n.kind≠6
structure NZ(m:Nat)(n:Node):Prop where
 fl:n.flow.length<=m
 ce:n.grid.cells.length<=m
 dr:n.draw.length<=m
variable {U:US}
theorem y7h{e:Bool}{l:List Attr}(h:VG e l):Szd l:=fun a ha=>by
 obtain⟨h1,h2⟩:=h.2 a ha
 have n1:z1f a.name=true:=h1
 unfold z1f at n1
 rw[qm,decide_eq_true_eq] at n1
 refine⟨by omega,?_⟩
 rcases h2 with h2|h2
 ·have n2:valGo a.val=true:=h2
  unfold valGo at n2
  rw[qm,decide_eq_true_eq] at n2
  omega
 ·rw[h2.2];decide
theorem NG.b(hU:UB U){n:Node}{m:Nat}(h:NG U n)(hz:NZ m n)(hm:m<=1048576):NodeB n:=
 ⟨y7h h.at1.g,by have:=h.at1.len hU.len;omega,fun x hx=>y7h (h.fl x hx).2.g,qD hz.fl hm,fun x hx=>by have:=(h.fl x hx).2.len hU.len;omega,
  fun c hc=>⟨by rw[(h.ce c hc).2];decide,by rw[(h.ce c hc).1];exact(fun a ha=>by cases ha)⟩,qD hz.ce hm,fun c hc=>by rw[(h.ce c hc).1];decide,by rw[h.mg];decide,qD hz.dr hm,fun o ho=>by have:=h.dr o ho;omega⟩
theorem NG.lite{n:Node}(h:NG U n):n.grid.merges=[]/\NoTx n.grid.cells:=⟨h.mg,fun c hc=>(h.ce c hc).2⟩
theorem z6W{m:Nat}:∀{l:List Node},(∀n∈l,NZ m n)->lensN l<=l.length*(3*m)
 | [],_=>by simp[lensN]
 |n::l,h=>by
  have:=z6W (l:=l) (fun x hx=>h x (by simp[hx]))
  have hn:=h n (by simp)
  have e:lensN (n::l)=lenN n+lensN l:=by simp[lensN]
  rw[e,qi,zl,Nat.one_mul]
  have h1:=hn.fl
  have h2:=hn.ce
  have h3:=hn.dr
  unfold lenN;omega
theorem y40(hU:UB U){d:Doc}{m q:Nat}(hm:m<=3000)(hq:q<=100)(hl:d.nodes.length<=q)(h:∀n∈d.nodes,NG U n/\NZ m n):DocL d:=by
 refine⟨⟨by omega,fun n hn=>(h n hn).1.b hU (h n hn).2 (by omega),?_⟩,fun n hn=>(h n hn).1.lite⟩
 have h1:=z6W (fun n hn=>(h n hn).2)
 have h2:d.nodes.length*(3*m)<=100*9000:=Nat.mul_le_mul (by omega) (by omega)
 omega
theorem V.filt{NP VP:ByteArray->Prop}{e:Bool}{p:Attr->Bool}:∀{l:List Attr},V NP VP e l->V NP VP e (l.filter p)
 | [],h=>h
 |a::l,h=>by
  have ih:=V.filt (p:=p) (l:=l) ⟨h.1.2,fun b hb=>h.2 b (by simp[hb])⟩
  rw[jg]
  split
  ·exact⟨⟨fun b hb=>h.1.1 b ((zt.1 hb).1),ih.1⟩,fun b hb=>by
    rcases qj.1 hb with rfl|hb
    ·exact h.2 b (by simp)
    ·exact ih.2 b hb⟩
  ·exact ih
theorem VU.one{l:List Attr}(h:VU U false l){a:Attr}(ha:a∈l):VU U true [a]:=
 ⟨⟨(fun b hb=>by cases hb),trivial⟩,fun b hb=>by
  rw[qy] at hb;subst hb
  exact(VU.sub (e:=true) h).2 b ha⟩
theorem y1F:RU U ⟨10,0,[]⟩:=⟨by decide+kernel,VU.nil⟩
theorem y8u{d:Doc}{s:Sel}{au:ByteArray}(h:atE d s au=0):docE d=0/\hasN d.nodes s.nd=true/\hasT (ndN d.nodes s.nd).kind=true/\(0<=s.fr/\s.fr<=s.tq/\s.tq< ((shwN (ndN d.nodes s.nd)).length:Int))/\(seq au mtB=true\/valGo au=true)/\atP d s au=⟨ndN d.nodes s.nd,shwN (ndN d.nodes s.nd),au⟩:=by
 have e:atP d s au=⟨ndN d.nodes s.nd,shwN (ndN d.nodes s.nd),au⟩:=by unfold atP;rw[h,if_neg (fun q=>q rfl)]
 unfold atE at h
 split at h
 ·rename_i q;exact absurd h q
 rename_i h1
 split at h
 ·cases h
 rename_i h2
 split at h
 ·cases h
 rename_i h3
 split at h
 ·cases h
 rename_i h4
 split at h
 ·cases h
 rename_i h5
 refine⟨qd h1,by simpa using h2,by simpa using h3,by omega,?_,e⟩
 apply qd;intro q
 rw[not_or,zK,zK] at q
 exact h5 q
theorem z7S{f:List Elem}{mode x:Int}{n:Nat}(h:x∈plcL f mode n):0<=x/\x<n:=by
 unfold plcL plcN at h
 obtain⟨i,hi,rfl⟩:=qC.1 h
 have:=zL.1 ((zt.1 hi).1)
 omega
theorem y9p(hU:UB U){n:Node}{au:ByteArray}(hn:NG U n)(hz:n.flow.length<=1048576):PlB ⟨n,shwN n,au⟩:=
 ⟨hz,fun x hx=>z7S hx,qD (y1p ..) hz,fun x hx=>by have:=(hn.fl x hx).2.len hU.len;omega⟩
theorem z4h{p:Pl}(hp:PlB p)(hn:∀x∈p.node.flow,RU U x)(k:Int):RU U (elemP p k):=by
 unfold elemP
 split
 ·exact y1F
 ·rename_i q
  have h1:k.toNat<p.shown.length:=by omega
  have h2:=hp.ok _ (z0h h1)
  exact hn _ (z0h (by omega))
theorem y41{r:Elem}{k:Int}:∀{l o:List Attr},VU U false o->(∀a∈l,VU U true [a])->VU U false (inhO r k o l)
 | [],o,ho,_=>ho
 |a::l,o,ho,hl=>by
  show VU U false (inhO r k (if inhG r k a=true then fm rawG o [a] else o) l)
  refine y41 ?_ (fun b hb=>hl b (by simp[hb]))
  split
  ·exact raw_V nu_mt ho (hl a (by simp))
  ·exact ho
theorem z4E{p:Pl}(hp:PlB p)(hn:∀x∈p.node.flow,RU U x)(k:Int):VU U false (inhP p k):=by
 unfold inhP
 have h1:=z4h hp hn (k- 1)
 refine y41 ?_ (fun a ha=>h1.2.one ha)
 unfold inhB
 split
 ·refine V.filt ?_
  unfold inhF;split
  ·exact(z4h hp hn k).2
  ·exact h1.2
 ·exact VU.nil
theorem y8v{p:Pl}(hp:PlB p)(hn:∀x∈p.node.flow,RU U x)(k:Nat):VU U false (endP p k):=V.filt (z4h hp hn _).2
theorem z97{c:Int}{l:List Attr}(hc:CharP c)(h0:c≠0)(hl:VU U false l):RU U ⟨c,0,l⟩:=by
 refine⟨?_,hl⟩
 rw[z3u (x:=⟨c,0,l⟩) (fun q=>h0 (q.2 rfl)) (.inr hc) (.inl rfl)]
 exact z05.2 hl.g
theorem z5r{p:Pl}(hp:PlB p)(hn:∀x∈p.node.flow,RU U x){s:Sel}{cs:List Int}(hc:∀c∈cs,CharP c/\c≠0):∀x∈typEl p s cs,RU U x:=by
 intro x hx
 unfold typEl at hx
 obtain⟨y,hy,rfl⟩:=qC.1 hx
 obtain⟨c,hc',rfl⟩:=qC.1 hy
 obtain⟨q1,q2⟩:=hc c hc'
 unfold typX mkE
 split
 ·exact z97 q1 q2 (y8v hp hn _)
 ·exact z97 q1 q2 (z4E hp hn _)
def AuB(U:US)(au:ByteArray):Prop:=(seq au mtB=true\/valGo au=true)/\au∉U.no
theorem UB.no(hU:UB U){v:ByteArray}(h:v≠zzB):v∉U.no:=fun q=>h (hU.z v q)
theorem y42(hU:UB U){au:ByteArray}(ha:AuB U au):VU U true [⟨addB,au⟩,⟨cutB,mtB⟩]:=by
 refine⟨⟨fun b hb=> ?_,⟨(fun b hb=>by cases hb),trivial⟩⟩,fun b hb=> ?_⟩
 ·rw[qy] at hb;subst hb;exact(by decide+kernel:slt addB cutB=true)
 ·simp only[qj,qS,or_false] at hb
  rcases hb with rfl|rfl
  ·refine⟨⟨(by decide+kernel:z1f addB=true),hU.ad⟩,?_⟩
   rcases ha.1 with h|h
   ·exact .inr ⟨rfl,z0u.1 h⟩
   ·exact .inl ⟨h,ha.2⟩
  ·exact⟨⟨(by decide+kernel:z1f cutB=true),hU.ct⟩,.inr ⟨rfl,rfl⟩⟩
theorem y7i(hU:UB U){au:ByteArray}(ha:AuB U au)(h0:seq au mtB=false):VU U true [⟨cutB,au⟩]:=by
 have hv:valGo au=true:=ha.1.resolve_left (by rw[h0];decide)
 refine⟨⟨(fun b hb=>by cases hb),trivial⟩,fun b hb=> ?_⟩
 rw[qy] at hb;subst hb
 exact⟨⟨(by decide+kernel:z1f cutB=true),hU.ct⟩,.inl ⟨hv,ha.2⟩⟩
theorem z6m(hU:UB U){p:Pl}{s:Sel}{es:List Elem}(hp:PlB p)(hf:p.node.flow.length<=1048576)(hn:∀x∈p.node.flow,RU U x)(ha:AuB U p.author)
 (hs:0<=s.fr/\s.fr<=s.tq/\s.tq< (p.shown.length:Int)) (hl:es.length<=1048576) (he:∀x∈es,RU U x):
 StpB p s es/\(∃us,DU_ U (stpP p s es) us)/\oldD (stpP p s es)=(p.node.flow.length:Int)/\newD (stpP p s es)<=p.node.flow.length+es.length:=by
 have hg:=z9X hp hs
 obtain⟨_,T⟩:=y4X hU.len (n:=p.node.flow.length) (k:=gapP p.shown s.fr) (es:=es) (au:=p.author) hg (by omega) (by omega) (y42 hU ha) he
 obtain⟨_,E⟩:=y4Z hU.len (f:=p.node.flow) (pl:=(p.shown.take s.tq.toNat).drop s.fr.toNat) (au:=p.author) (by omega) (y7i hU ha)
 have tf:=z2P (n:=p.node.flow.length) (k:=(gapP p.shown s.fr).toNat) (es:=es) (au:=p.author) (by omega)
 have ef:=z14 p.node.flow ((p.shown.take s.tq.toNat).drop s.fr.toNat) p.author p.node.flow.length
 have tl:=T.lens
 have el:=E.lens
 obtain⟨P,p1,p2⟩:=z9c hU.len T E (by omega) (by omega)
 obtain⟨J,j1,j2⟩:=y1E hU.len E P p1.symm
 refine⟨⟨hs,hl,fun x hx=>by have:=(he x hx).2.len hU.len;omega,E.v,T.v,P.v,E.dn hU.len,T.dn hU.len,P.dn hU.len,?_,p1.symm,?_⟩,⟨_,J⟩,?_,?_⟩
 ·show oldD (typD _ _ _ _)=oldD (ersD _ _ _);omega
 ·show newD (typD _ _ _ _)+newD (ersD _ _ _)<=2147483647;omega
 ·refine(show oldD (stpP p s es)=oldD (ersD p.node.flow ((p.shown.take s.tq.toNat).drop s.fr.toNat) p.author) from j1).trans ?_
  omega
 ·refine Int.le_trans (Int.le_of_eq (show newD (stpP p s es)=newD (z0X (typD p.node.flow.length (gapP p.shown s.fr) es p.author) (ersD p.node.flow ((p.shown.take s.tq.toNat).drop s.fr.toNat) p.author)) from j2)) ?_
  omega
end Go.Ch
end
section
namespace Go.Ch
open Go Go.Ab
structure VD(l:List Node):Prop where
 ne:0<l.length
 one:(l.getD 0 default).id=1
 srt:SortN l
 node:∀n∈l,nodeE n=0
 refs:∀n∈l,∀r∈refsN n,∃m∈l,m.id=r/\permB n.kind m.kind=true
theorem z7T{l:List Node}(hs:SortN l){i j:Nat}(hi:i<l.length)(hj:j<l.length)(h:(l.getD i default).id=(l.getD j default).id):i=j:=by
 rcases Nat.lt_trichotomy i j with q|q|q
 ·have:=hs i j q hj;omega
 ·exact q
 ·have:=hs j i q hi;omega
theorem z9d{l:List Node}(hs:SortN l){k:Int}{rs:List Int}:∀(n i:Nat),rs.length-i=n->(refsE l k rs i=0↔∀j,i<=j->j<rs.length->∃m∈l,m.id=rs.getD j default/\permB k m.kind=true)
 |0,i,h=>by rw[refsE,if_neg (by omega)];exact⟨fun _ j h1 h2=>by omega,fun _=>rfl⟩
 |n+1,i,h=>by
  have hi:i<rs.length:=by omega
  have hm:rs.length- (i+1)=n:=by omega
  have key:(0<=findD l (rs.getD i default) 0/\permB k (l.getD (findD l (rs.getD i default) 0).toNat default).kind=true)↔∃m∈l,m.id=rs.getD i default/\permB k m.kind=true:=by
   rcases z2w l (rs.getD i default) _ 0 rfl with⟨a,b⟩| ⟨j,a,b,c,d⟩
   ·rw[a]
    refine⟨fun q=>absurd q.1 (by decide),?_⟩
    rintro⟨m,hm,h1,h2⟩
    obtain⟨x,hx,rfl⟩:=z0D hm
    exact absurd h1 (b x (qU _) hx)
   ·rw[a]
    refine⟨fun q=>⟨l.getD j default,z0h c,d,by simpa using q.2⟩,?_⟩
    rintro⟨m,hm,h1,h2⟩
    obtain⟨x,hx,rfl⟩:=z0D hm
    have:=z7T hs hx c (h1.trans d.symm)
    subst this
    exact⟨by omega,by simpa using h2⟩
  rw[refsE,if_pos hi]
  by_cases h1:findD l (rs.getD i default) 0<0
  ·rw[if_pos h1]
   exact⟨fun q=>(by cases q),fun q=>absurd ((key.2 (q i (qt _) hi)).1) (by omega)⟩
  ·rw[if_neg h1]
   by_cases h2:permB k (l.getD (findD l (rs.getD i default) 0).toNat default).kind=false
   ·rw[if_pos h2]
    refine⟨fun q=>(by cases q),fun q=> ?_⟩
    have:=(key.2 (q i (qt _) hi)).2
    rw[h2] at this;cases this
   ·rw[if_neg h2,z9d hs n (i+1) hm]
    refine⟨fun q j j1 j2=> ?_,fun q j j1 j2=>q j (by omega) j2⟩
    by_cases e:j=i
    ·subst e;exact key.1 ⟨by omega,by simpa using h2⟩
    ·exact q j (by omega) j2
theorem z4i{l:List Node}(hs:SortN l){k:Int}{rs:List Int}:refsE l k rs 0=0↔∀r∈rs,∃m∈l,m.id=r/\permB k m.kind=true:=by
 rw[z9d hs _ 0 rfl]
 refine⟨fun h r hr=> ?_,fun h j _ hj=>h _ (z0h hj)⟩
 obtain⟨j,hj,rfl⟩:=z0D hr
 exact h j (qU _) hj
theorem z3A{l:List Node}:∀(n i:Nat),l.length-i=n->(z0S l i=0↔∀j,i<=j->j<l.length->refsE l (l.getD j default).kind (refsN (l.getD j default)) 0=0)
 |0,i,h=>by rw[z0S,if_neg (by omega)];exact⟨fun _ j h1 h2=>by omega,fun _=>rfl⟩
 |n+1,i,h=>by
  have hi:i<l.length:=by omega
  rw[z0S,if_pos hi]
  by_cases h1:refsE l (l.getD i default).kind (refsN (l.getD i default)) 0≠0
  ·rw[if_pos h1];exact⟨fun q=>absurd q h1,fun q=>absurd (q i (qt _) hi) h1⟩
  ·rw[if_neg h1,z3A n (i+1) (by omega)]
   refine⟨fun q j j1 j2=> ?_,fun q j j1 j2=>q j (by omega) j2⟩
   by_cases e:j=i
   ·subst e;exact qd h1
   ·exact q j (by omega) j2
theorem z6X{l:List Node}:∀(n i:Nat),l.length-i=n->(∀j,i<=j->j<l.length->nodeE (l.getD j default)=0/\¬((j=0/\(l.getD 0 default).id≠1)\/(0<j/\(l.getD j default).id<=(l.getD (j- 1) default).id)))->z1b l i=0
 |0,i,h,_=>by rw[z1b,if_neg (by omega)]
 |n+1,i,h,q=>by
  obtain⟨a,b⟩:=q i (qt _) (by omega)
  rw[z1b,if_pos (by omega),if_neg (fun z=>z a),if_neg b]
  exact z6X n (i+1) (by omega) (fun j j1 j2=>q j (by omega) j2)
theorem z98{d:Doc}:docE d=0↔VD d.nodes:=by
 constructor
 ·intro h
  have hn:=z52 h
  have hs:=z9R hn
  have h0:0<d.nodes.length:=by
   apply qd;intro q
   rw[z6L (by omega)] at h;cases h
  refine⟨h0,((z2x _ 0 rfl hn).2 0 (qt _) h0).1 rfl,hs,y1d h,fun n hn' r hr=> ?_⟩
  have ha:z0S d.nodes 0=0:=by
   unfold docE at h
   rw[if_neg (by omega),if_neg (fun q=>q hn)] at h;exact h
  obtain⟨j,hj,rfl⟩:=z0D hn'
  exact(z4i hs).1 ((z3A _ 0 rfl).1 ha j (qU _) hj) r hr
 ·intro h
  have hn:z1b d.nodes 0=0:=z6X _ 0 rfl (fun j _ hj=>⟨h.node _ (z0h hj),by
   rintro(⟨rfl,q⟩| ⟨q1,q2⟩)
   ·exact q h.one
   ·have:=h.srt (j- 1) j (by omega) hj;omega⟩)
  have ha:z0S d.nodes 0=0:=(z3A _ 0 rfl).2 (fun j _ hj=>(z4i h.srt).2 (h.refs _ (z0h hj)))
  unfold docE
  rw[if_neg (by have:=h.ne;omega),if_neg (fun q=>q hn),ha]
theorem y1G{α:Type}[Inhabited α]{l:List α}{i j:Nat}{x:α}(hi:i<l.length):(l.set i x).getD j default=if i=j then x else l.getD j default:=by
 rw[qc,zq]
 split
 ·rename_i h;subst h;simp[hi]
 ·rw[qc]
theorem y2A{α:Type}[Inhabited α]{l:List α}{i:Nat}{x y:α}(hi:i<l.length)(h:y∈l):y∈l.set i x\/y=l.getD i default:=by
 obtain⟨j,hj,rfl⟩:=z0D h
 by_cases e:i=j
 ·subst e;exact .inr rfl
 ·have:(l.set i x).getD j default=l.getD j default:=by rw[y1G hi,if_neg e]
  rw[<-this];exact .inl (z0h (by simpa using hj))
theorem VD.set{l:List Node}(h:VD l){i:Nat}(hi:i<l.length){n:Node}(hid:n.id=(l.getD i default).id)(hk:n.kind=(l.getD i default).kind)(hn:nodeE n=0)(hr:∀r∈refsN n,∃m∈l,m.id=r/\permB n.kind m.kind=true):VD (l.set i n):=by
 have hids:∀j,((l.set i n).getD j default).id=(l.getD j default).id:=fun j=>by
  rw[y1G hi];split
  ·rename_i e;subst e;exact hid
  ·rfl
 have key:∀(k r:Int),(∃m∈l,m.id=r/\permB k m.kind=true)->∃m∈l.set i n,m.id=r/\permB k m.kind=true:=by
  rintro k r ⟨m,hm,h1,h2⟩
  rcases y2A (x:=n) hi hm with q|rfl
  ·exact⟨m,q,h1,h2⟩
  ·exact⟨n,ze.2 ⟨i,by simpa using hi,by simp⟩,hid.trans h1,by rw[hk];exact h2⟩
 refine⟨by simpa using h.ne,(hids 0).trans h.one,fun p q hpq hq=>by rw[hids,hids];exact h.srt p q hpq (by simpa using hq),fun m hm=> ?_,fun m hm r hr'=> ?_⟩
 ·rcases za hm with q|rfl
  ·exact h.node m q
  ·exact hn
 ·rcases za hm with q|rfl
  ·exact key _ _ (h.refs m q r hr')
  ·exact key _ _ (hr r hr')
theorem VD.add{l:List Node}(h:VD l){n:Node}(hl:∀m∈l,m.id<n.id)(hn:nodeE n=0)(hr:∀r∈refsN n,∃m∈l,m.id=r/\permB n.kind m.kind=true):VD (l++[n]):=by
 have h0:=h.ne
 have hg:∀j,j<l.length->(l++[n]).getD j default=l.getD j default:=fun j hj=>by
  rw[qc,qx hj,qc]
 have hz:(l++[n]).getD l.length default=n:=by rw[qc];simp
 refine⟨by simp,(congrArg Node.id (hg 0 h0)).trans h.one,fun p q hpq hq=> ?_,fun m hm=> ?_,fun m hm r hr'=> ?_⟩
 ·rw[qf,zN] at hq
  by_cases e:q=l.length
  ·subst e;rw[hz,hg p hpq];exact hl _ (z0h hpq)
  ·rw[hg p (by omega),hg q (by omega)];exact h.srt p q hpq (by omega)
 ·rcases qp.1 hm with q|q
  ·exact h.node m q
  ·rw[qy] at q;subst q;exact hn
 ·have:∃m'∈l,m'.id=r/\permB m.kind m'.kind=true:=by
   rcases qp.1 hm with q|q
   ·exact h.refs m q r hr'
   ·rw[qy] at q;subst q;exact hr r hr'
  obtain⟨x,hx,a,b⟩:=this
  exact⟨x,zQ _ hx,a,b⟩
theorem VD.has{l:List Node}(h:VD l){k:Int}:hasN l k=true↔∃n∈l,n.id=k:=by
 rw[z06]
 constructor
 ·rintro⟨a,b⟩;exact⟨_,z0h a,b⟩
 ·rintro⟨n,hn,rfl⟩
  obtain⟨j,hj,rfl⟩:=z0D hn
  obtain⟨s1,s2,s3⟩:=z1L l (l.getD j default).id
  have h1:lobN l (l.getD j default).id<=j:=z9Q (by omega)
  by_cases e:lobN l (l.getD j default).id=j
  ·rw[e];exact⟨hj,rfl⟩
  ·have:=h.srt _ j (show lobN l (l.getD j default).id<j by omega) hj
   exact absurd this (s3 (by omega))
theorem z1Q{n:Node}(h:nodeE n=0):(1<=n.id/\n.id<=1073741824)/\(0<=n.kind/\n.kind<=12/\(n.id=1↔n.kind=0))/\VG false n.attrs/\
 ((0<n.flow.length->hasT n.kind=true\/hasL n.kind=true)/\(zeroG n.grid=false->hasG n.kind=true)/\(0<n.draw.length->hasD n.kind=true))/\
 ((hasT n.kind=true\/hasL n.kind=true)->flowZ (hasT n.kind) n.flow=0)/\(hasG n.kind=true->gridE n.grid=0/\cellK n.kind n.grid.cells 0=0)/\(hasD n.kind=true->drawE n.draw 0=0):=by
 unfold nodeE at h
 split at h
 ·cases h
 rename_i h1
 split at h
 ·cases h
 rename_i h2
 split at h
 ·rename_i q;exact absurd h q
 rename_i h3
 split at h
 ·cases h
 rename_i h4
 have h3:=z05.1 (qd h3)
 refine⟨by omega,by omega,h3,⟨fun q=> ?_,fun q=> ?_,fun q=> ?_⟩,?_⟩
 ·apply qd;intro z
  rw[not_or,zK,zK] at z
  exact h4 (.inl ⟨q,z.1,z.2⟩)
 ·apply qd;intro z
  exact h4 (.inr (.inl ⟨q,by simpa using z⟩))
 ·apply qd;intro z
  exact h4 (.inr (.inr ⟨q,by simpa using z⟩))
 ·have kinds:∀k:Int,(hasT k=true\/hasL k=true->hasG k=false/\hasD k=false)/\(hasG k=true->hasD k=false):=fun k=>by
   unfold hasT hasL hasG hasD
   simp only[qF,beq_iff_eq,zJ,beq_eq_false_iff_ne]
   omega
  obtain⟨k1,k2⟩:=kinds n.kind
  split at h
  ·rename_i q
   obtain⟨z1,z2⟩:=k1 q
   exact⟨fun _=>h,(fun z=>by rw[z1] at z;cases z),(fun z=>by rw[z2] at z;cases z)⟩
  ·rename_i q
   split at h
   ·rename_i g
    have z2:=k2 g
    refine⟨fun z=>absurd z q,fun _=> ?_,(fun z=>by rw[z2] at z;cases z)⟩
    split at h
    ·rename_i z;exact absurd h z
    ·rename_i z;exact⟨qd z,h⟩
   ·rename_i g
    exact⟨fun z=>absurd z q,fun z=>absurd z g,fun _=>h⟩
theorem z7U{n:Node}(h1:1<=n.id/\n.id<=1073741824)(h2:0<=n.kind/\n.kind<=12/\(n.id=1↔n.kind=0))(h3:VG false n.attrs)
 (h4:(0<n.flow.length->hasT n.kind=true\/hasL n.kind=true)/\(zeroG n.grid=false->hasG n.kind=true)/\(0<n.draw.length->hasD n.kind=true))
 (h5:(hasT n.kind=true\/hasL n.kind=true)->flowZ (hasT n.kind) n.flow=0) (h6:hasG n.kind=true->gridE n.grid=0/\cellK n.kind n.grid.cells 0=0) (h7:drawE n.draw 0=0\/hasT n.kind=true\/hasL n.kind=true\/hasG n.kind=true):nodeE n=0:=by
 unfold nodeE
 rw[if_neg (by omega),if_neg (by omega),if_neg (fun q=>q (z05.2 h3)),if_neg]
 ·split
  ·rename_i q;exact h5 q
  ·rename_i q
   split
   ·rename_i g
    obtain⟨z1,z2⟩:=h6 g
    rw[if_neg (fun z=>z z1),z2]
   ·rename_i g
    rcases h7 with h7|h7|h7|h7
    ·exact h7
    ·exact absurd (.inl h7) q
    ·exact absurd (.inr h7) q
    ·exact absurd h7 g
 ·rintro(⟨a,b,c⟩| ⟨a,b⟩| ⟨a,b⟩)
  ·rcases h4.1 a with q|q
   ·rw[b] at q;cases q
   ·rw[c] at q;cases q
  ·have:=h4.2.1 a;rw[b] at this;cases this
  ·have:=h4.2.2 a;rw[b] at this;cases this
def Asc:List Cell->Prop
 | []=>True
 |c::l=>(∀x∈l,ordC c x<0)/\Asc l
theorem z4F{a b c:Cell}(h1:ordC a b<0)(h2:ordC b c<0):ordC a c<0:=by
 rw[z7C] at*;omega
theorem z7V{a b c:Cell}(h1:ordC a b<=0)(h2:ordC b c<0):ordC a c<0:=by
 have:¬0<ordC a b:=by omega
 rw[z7C] at*
 rw[z5c] at h1
 repeat' split at h1
 all_goals omega
theorem y43{a b:Cell}:0<ordC a b↔ordC b a<0:=by
 rw[z7C,z5c];repeat' split
 all_goals omega
def SortC(l:List Cell):Prop:=∀p q,p<q->q<l.length->ordC (l.getD p default) (l.getD q default)< 0
theorem y1H:∀{l:List Cell},Asc l->SortC l
 | [],_,p,q,h1,h2=>by simp at h2
 |c::l,⟨h,k⟩,p,q,h1,h2=>by
  cases q with
  |zero=>omega
  |succ q=>
   cases p with
   |zero=>exact h _ (z0h (by simpa using h2))
   |succ p=>exact y1H k p q (by omega) (by simpa using h2)
theorem z6Y{l:List Cell}{m n:Int}{o:Bool}:∀(k i:Nat),l.length-i=k->
 (z0F l m n o i=0↔∀j,i<=j->j<l.length->cellE (l.getD j default) m n o=0/\(0<j->ordC (l.getD (j- 1) default) (l.getD j default)< 0))
 |0,i,h=>by
  rw[z0F,if_neg (by omega)]
  exact⟨fun _ j h1 h2=>by omega,fun _=>rfl⟩
 |k+1,i,h=>by
  have ih:=z6Y (l:=l) (m:=m) (n:=n) (o:=o) k (i+1) (by omega)
  rw[z0F,if_pos (by omega)]
  by_cases c1:cellE (l.getD i default) m n o=0
  ·rw[if_neg (fun q=>q c1)]
   by_cases c2:0<i/\0<=ordC (l.getD (i- 1) default) (l.getD i default)
   ·rw[if_pos c2]
    refine⟨fun q=>(by cases q),fun q=> ?_⟩
    have:=(q i (qt _) (by omega)).2 c2.1
    omega
   ·rw[if_neg c2,ih]
    refine⟨fun q j h1 h2=> ?_,fun q j h1 h2=>q j (by omega) h2⟩
    by_cases e:i=j
    ·subst e;exact⟨c1,fun h0=>by omega⟩
    ·exact q j (by omega) h2
  ·rw[if_pos c1]
   exact⟨fun q=>absurd q c1,fun q=>(q i (qt _) (by omega)).1⟩
theorem y44:∀{l:List Cell},(∀j,0<j->j<l.length->ordC (l.getD (j- 1) default) (l.getD j default)< 0)->Asc l
 | [],_=>trivial
 | [c],_=>⟨fun x hx=>(by cases hx),trivial⟩
 |c::d::l,h=>by
  have h1:ordC c d<0:=h 1 (by decide) (by simp)
  have ih:=y44 (l:=d::l) (fun j h0 hj=>by
   have:=h (j+1) (by omega) (by simp only[qi] at hj|-;omega)
   obtain⟨j,rfl⟩:∃q,j=q+1:=⟨j- 1,by omega⟩
   exact this)
  refine⟨fun x hx=> ?_,ih⟩
  rcases qj.1 hx with rfl|hx
  ·exact h1
  ·exact z4F h1 (ih.1 x hx)
theorem z4G{l:List Cell}{m n:Int}{o:Bool}:z0F l m n o 0=0↔(∀c∈l,cellE c m n o=0)/\Asc l:=by
 rw[z6Y _ 0 rfl]
 constructor
 ·intro h
  refine⟨fun c hc=> ?_,y44 (fun j h0 hj=>(h j (qU _) hj).2 h0)⟩
  obtain⟨j,hj,rfl⟩:=z0D hc
  exact(h j (qU _) hj).1
 ·rintro⟨h1,h2⟩ j _ hj
  exact⟨h1 _ (z0h hj),fun h0=>y1H h2 (j- 1) j (by omega) hj⟩
theorem z4j{c:Cell}{m n:Int}{o:Bool}:cellE c m n o=0↔(0<=c.row/\c.row<m/\0<=c.col/\c.col<n)/\(0<=c.ref/\c.ref<=1073741824)/\textG c.text=true/\chkA false c.attrs 0=0/\(o=false->z09 c=false):=by
 unfold cellE
 by_cases c1:c.row<0\/m<=c.row\/c.col<0\/n<=c.col
 ·rw[if_pos c1];exact⟨fun q=>(by cases q),fun q=>by omega⟩
 ·rw[if_neg c1]
  by_cases c2:c.ref<0\/1073741824<c.ref
  ·rw[if_pos c2];exact⟨fun q=>(by cases q),fun q=>by omega⟩
  ·rw[if_neg c2]
   by_cases c3:textG c.text=false
   ·rw[if_pos c3];exact⟨fun q=>(by cases q),fun q=>by rw[q.2.2.1] at c3;cases c3⟩
   ·rw[if_neg c3]
    by_cases c4:chkA false c.attrs 0=0
    ·rw[if_neg (fun q=>q c4)]
     by_cases c5:z09 c=true/\o=false
     ·rw[if_pos c5];exact⟨fun q=>(by cases q),fun q=>by have:=q.2.2.2.2 c5.2;rw[c5.1] at this;cases this⟩
     ·rw[if_neg c5]
      refine⟨fun _=>⟨by omega,by omega,by simpa using c3,c4,fun ho=> ?_⟩,fun _=>rfl⟩
      cases he:z09 c with
      |false=>rfl
      |true=>exact absurd ⟨he,ho⟩ c5
    ·rw[if_pos c4];exact⟨fun q=>absurd q c4,fun q=>q.2.2.2.1⟩
theorem z3B:∀(ns l:List Cell) (y:Cell),y∈putL ns l->(y∈ns/\z09 y=false)\/y∈l
 | [],l,y,h=> .inr h
 |c::ns,[],y,h=>by
  rw[putL,putC] at h
  rcases qp.1 h with h|h
  ·cases he:z09 c with
   |true=>rw[he,if_pos rfl] at h;cases h
   |false=>rw[he,if_neg (by decide)] at h;rw[qy.1 h];exact .inl ⟨by simp,he⟩
  ·rcases z3B ns [] y h with⟨h1,h2⟩|h
   ·exact .inl ⟨by simp[h1],h2⟩
   ·exact .inr h
 |c::ns,x::l,y,h=>by
  have ih:=z3B (c::ns) l y
  rw[putL] at ih
  rw[putL,putC] at h
  split at h
  ·rcases qj.1 h with rfl|h
   ·exact .inr (by simp)
   ·rcases ih h with h|h
    ·exact .inl h
    ·exact .inr (by simp[h])
  ·have hcase:∀(r:List Cell),(∀z∈r,z∈x::l)->y∈(if z09 c=true then[] else[c])++putL ns r->(∀z,z∈putL ns r->(z∈ns/\z09 z=false)\/z∈r)->(y∈c::ns/\z09 y=false)\/y∈x::l:=fun r hr h hi=>by
    rcases qp.1 h with h|h
    ·cases he:z09 c with
     |true=>rw[he,if_pos rfl] at h;cases h
     |false=>rw[he,if_neg (by decide)] at h;rw[qy.1 h];exact .inl ⟨by simp,he⟩
    ·rcases hi y h with⟨h1,h2⟩|h
     ·exact .inl ⟨by simp[h1],h2⟩
     ·exact .inr (hr y h)
   split at h
   ·exact hcase l (fun z hz=>by simp[hz]) h (fun z=>z3B ns l z)
   ·exact hcase (x::l) (fun z hz=>hz) h (fun z=>z3B ns (x::l) z)
termination_by ns l=>ns.length+l.length
theorem z7W{c:Cell}{ns r:List Cell}(hns:∀y∈ns,ordC c y<0)(hr:∀y∈r,ordC c y<0)(h:Asc (putL ns r)):Asc ((if z09 c=true then[] else[c])++putL ns r):=by
 cases he:z09 c with
 |true=>rw[if_pos rfl];exact h
 |false=>
  rw[if_neg (by decide)]
  refine⟨fun y hy=> ?_,h⟩
  rcases z3B ns r y hy with⟨h1,_⟩|h1
  ·exact hns y h1
  ·exact hr y h1
theorem z6n:∀(ns l:List Cell),Asc ns->Asc l->Asc (putL ns l)
 | [],l,_,h=>h
 |c::ns,[],h1,h2=>by
  rw[putL,putC]
  exact z7W h1.1 (fun y hy=>by cases hy) (z6n ns [] h1.2 trivial)
 |c::ns,x::l,h1,h2=>by
  rw[putL,putC]
  by_cases o1:ordC x c<0
  ·rw[if_pos o1]
   have ih:=z6n (c::ns) l h1 h2.2
   rw[putL] at ih
   refine⟨fun y hy=> ?_,ih⟩
   rcases z3B (c::ns) l y hy with⟨h,_⟩|h
   ·rcases qj.1 h with rfl|h
    ·exact o1
    ·exact z4F o1 (h1.1 y h)
   ·exact h2.1 y h
  ·rw[if_neg o1]
   by_cases o2:ordC x c=0
   ·rw[if_pos o2]
    have e:=y3I.1 o2
    exact z7W h1.1 (fun y hy=>z7V (by rw[y3I.2 ⟨e.1.symm,e.2.symm⟩];decide) (h2.1 y hy)) (z6n ns l h1.2 h2.2)
   ·rw[if_neg o2]
    have hcx:ordC c x<0:=y43.1 (by omega)
    exact z7W h1.1 (fun y hy=>by
     rcases qj.1 hy with rfl|hy
     ·exact hcx
     ·exact z4F hcx (h2.1 y hy)) (z6n ns (x::l) h1.2 h2)
termination_by ns l=>ns.length+l.length
theorem y2B{l:List AxStep}(hl:Form l){p q:Int}(h0:0<=p)(h:p<q)(hp:0<=z0q l p 0 0)(hq:0<=z0q l q 0 0):z0q l p 0 0<z0q l q 0 0:=by
 have h1:=z31 hl p q 0 0 h0 h hp
 have h2:=y0R hl q 0 0 0 (zy _)
 have h3:=z30 hl q 0 0 (by omega) hq
 omega
theorem y1I{a:List AxStep}{p q:Int}(hp:PIn a p)(hq:PIn a q)(h:p<q)(h1:¬(0<a.length/\mvR a p<0))(h2:¬(0<a.length/\mvR a q<0)):mvR a p<mvR a q:=by
 unfold mvR at*
 by_cases c:0<a.length
 ·simp only[if_pos c] at*
  obtain⟨v,p0,_⟩:=hp c
  exact y2B v.1 p0 h (by omega) (by omega)
 ·simp only[if_neg c] at*;exact h
theorem z5s{rows cols:List AxStep}{c d:Cell}(h:mvC rows cols c=some d):¬(0<rows.length/\mvR rows c.row<0)/\¬(0<cols.length/\mvR cols c.col<0)/\d={c with row:=mvR rows c.row,col:=mvR cols c.col}:=by
 unfold mvC at h
 split at h
 ·cases h
 ·rename_i h1
  split at h
  ·cases h
  ·rename_i h2
   exact⟨h1,h2,by cases h;rfl⟩
theorem y45{rows cols:List AxStep}:∀{l:List Cell},Asc l->(∀c∈l,PIn rows c.row)->(∀c∈l,PIn cols c.col)->Asc (movL l rows cols)
 | [],_,_,_=>trivial
 |c::l,h,hr,hc=>by
  have ih:=y45 (l:=l) h.2 (fun x hx=>hr x (by simp[hx])) (fun x hx=>hc x (by simp[hx]))
  unfold movL at*
  rw[List.filterMap_cons]
  cases hm:mvC rows cols c with
  |none=>exact ih
  |some d=>
   refine⟨fun y hy=> ?_,ih⟩
   obtain⟨x,hx,hxy⟩:=List.mem_filterMap.1 hy
   obtain⟨a1,a2,rfl⟩:=z5s hm
   obtain⟨b1,b2,rfl⟩:=z5s hxy
   have ho:=h.1 x hx
   rw[z7C] at ho|-
   rcases ho with ho| ⟨e,ho⟩
   ·exact .inl (y1I (hr c (by simp)) (hr x (by simp[hx])) ho a1 b1)
   ·refine .inr ⟨by show mvR rows c.row=mvR rows x.row;rw[e],y1I (hc c (by simp)) (hc x (by simp[hx])) ho a2 b2⟩
theorem z5t:∀{l:List AxStep} (hl:Form l) (p fr tq:Int),fr<=p->0<=z0q l p fr tq->z0q l p fr tq<tq+newU (ex l)
 | [],_,p,fr,tq,h,h0=>by simp[z0q] at h0
 |s::l,hl,p,fr,tq,h,h0=>by
  have hn:=hl.head.2.2
  have hk:=kinds hl.head
  have e:(newU (ex (s::l)):Int)=(if s.kind=2 then 0 else s.n)+newU (ex l):=by
   rw[ex,z9O,zU (by omega)]
  rw[e]
  rw[z0q] at h0|-
  by_cases k1:s.kind=1
  ·rw[if_pos k1] at h0|-
   rw[if_neg (show¬s.kind=2 by omega)]
   have:=z5t hl.tail p fr (tq+s.n) h h0
   omega
  ·rw[if_neg k1] at h0|-
   by_cases k0:s.kind=0
   ·rw[if_pos k0] at h0|-
    rw[if_neg (show¬s.kind=2 by omega)]
    by_cases c:p<fr+s.n
    ·rw[if_pos c] at h0|-
     have:(0:Int)<=newU (ex l):=by omega
     omega
    ·rw[if_neg c] at h0|-
     have:=z5t hl.tail p (fr+s.n) (tq+s.n) (by omega) h0
     omega
   ·rw[if_neg k0] at h0|-
    by_cases c:p<fr+s.n
    ·rw[if_pos c] at h0;omega
    ·rw[if_neg c] at h0|-
     rw[if_pos (show s.kind=2 by omega)]
     have:=z5t hl.tail p (fr+s.n) tq (by omega) h0
     omega
theorem y7j{a:List AxStep}{p m:Int}(hp:PIn a p)(h0:0<=p/\p<m)(hn:¬(0<a.length/\mvR a p<0)):0<=mvR a p/\mvR a p<nwS m a:=by
 unfold mvR at hn|-
 unfold nwS newI
 by_cases c:0<a.length
 ·rw[if_pos c] at hn|-
  rw[if_pos c]
  obtain⟨v,p0,_⟩:=hp c
  have h1:0<=z0q a p 0 0:=by
   refine qd fun q=>hn ⟨c,by omega⟩
  have:=z5t v.1 p 0 0 p0 h1
  omega
 ·rw[if_neg c,if_neg c];exact h0
theorem y6z{rows cols:List AxStep}{c d:Cell}{m n:Int}(hr:PIn rows c.row)(hc:PIn cols c.col)(h:cellE c m n false=0)(hd:mvC rows cols c=some d):cellE d (nwS m rows) (nwS n cols) false=0:=by
 obtain⟨a1,a2,rfl⟩:=z5s hd
 obtain⟨h1,h2,h3,h4,h5⟩:=z4j.1 h
 have b1:=y7j (m:=m) hr ⟨h1.1,h1.2.1⟩ a1
 have b2:=y7j (m:=n) hc ⟨h1.2.2.1,h1.2.2.2⟩ a2
 exact z4j.2 ⟨⟨b1.1,b1.2,b2.1,b2.2⟩,h2,h3,h4,h5⟩
theorem z6Z{g:Grid}(hm:g.merges=[]):gridE g=0↔(0<=g.rows/\g.rows<=2147483647/\0<=g.cols/\g.cols<=2147483647)/\z0F g.cells g.rows g.cols false 0=0:=by
 have h0:mergE g.merges g.rows g.cols 0=0:=by rw[hm,mergE,if_neg (by decide)]
 unfold gridE
 by_cases c1:g.rows<0\/2147483647<g.rows\/g.cols<0\/2147483647<g.cols
 ·rw[if_pos c1];exact⟨fun q=>(by cases q),fun q=>by omega⟩
 ·rw[if_neg c1]
  by_cases c2:z0F g.cells g.rows g.cols false 0=0
  ·rw[if_neg (fun q=>q c2),h0];exact⟨fun _=>⟨by omega,c2⟩,fun _=>rfl⟩
  ·rw[if_pos c2];exact⟨fun q=>absurd q c2,fun q=>q.2⟩
theorem y2C{x:Grid}{e:GEd}(h:fitsE x e=0):gridE x=0/\EdOk e/\FitOk x e:=by
 unfold fitsE at h
 split at h
 ·rename_i q;exact absurd h q
 rename_i q
 split at h
 ·rename_i q;exact absurd h q
 rename_i q2
 exact⟨qd q,y0V (qd q2),y3L h⟩
theorem y1J{x:Grid}{e:GEd}{c:Cell}(h:c∈(rawT x e).cells):(c∈e.cells/\z09 c=false)\/∃c0∈x.cells,mvC e.rows e.cols c0=some c:=by
 rcases z3B _ _ c h with h|h
 ·exact .inl h
 ·obtain⟨c0,hc0,hm⟩:=List.mem_filterMap.1 h
  exact .inr ⟨c0,hc0,hm⟩
theorem y2D{x:Grid}{e:GEd}(hm:x.merges=[])(h:fitsE x e=0)(hr:RawT x e):gridE (rawT x e)=0:=by
 obtain⟨hg,he,hf⟩:=y2C h
 obtain⟨g1,g2⟩:=(z6Z hm).1 hg
 have b1:=y6Z (n:=x.rows) he.okr (by omega)
 have b2:=y6Z (n:=x.cols) he.okc (by omega)
 obtain⟨a1,a2⟩:=z4G.1 g2
 obtain⟨c1,c2⟩:=z4G.1 he.cells
 refine(z6Z rfl).2 ⟨⟨b1.1,b1.2,b2.1,b2.2⟩,z4G.2 ⟨fun c hc=> ?_,z6n _ _ c2 (y45 a2 hr.p1 hr.p2)⟩⟩
 rcases y1J hc with⟨h,he'⟩| ⟨c0,hc0,hmv⟩
 ·obtain⟨q1,q2,q3,q4,_⟩:=z4j.1 (c1 c h)
  have:=hf.cells c h
  exact z4j.2 ⟨⟨q1.1,this.1,q1.2.2.1,this.2⟩,q2,q3,q4,fun _=>he'⟩
 ·exact y6z (hr.p1 c0 hc0) (hr.p2 c0 hc0) (a1 c0 hc0) hmv
theorem z9e{k:Int}{l:List Cell}(hk:k≠6)(h:∀c∈l,c.attrs=[]/\c.text.size=0):∀(n i:Nat),l.length-i=n->cellK k l i=0
 |0,i,hn=>by rw[cellK,if_neg (by omega)]
 |n+1,i,hn=>by
  have hc:=h _ (z0h (l:=l) (i:=i) (by omega))
  rw[cellK,if_pos (by omega),if_neg]
  ·exact z9e hk h n (i+1) (by omega)
  ·rintro(⟨_,q|q⟩| ⟨q,_⟩)
   ·rw[z2d,decide_eq_false_iff_not] at q;omega
   ·rw[hc.1] at q;exact absurd q (by decide)
   ·exact hk q
end Go.Ch
end
section
namespace Go.Ch
open Go Go.Ab
variable {U:US}
theorem z9f{t:Bool}{f:List Elem}:∀(n i:Nat),f.length-i=n->(flowX t f i=0↔∀j,i<=j->j<f.length->elemE (f.getD j default)=0/\(t=false->(f.getD j default).ref≠0))
 |0,i,h=>by rw[flowX,if_neg (by omega)];exact⟨fun _ j h1 h2=>by omega,fun _=>rfl⟩
 |n+1,i,h=>by
  have hi:i<f.length:=by omega
  have hm:f.length- (i+1)=n:=by omega
  by_cases h1:elemE (f.getD i default)≠0
  ·rw[z8K hi h1];exact⟨fun q=>absurd q h1,fun q=>absurd (q i (qt _) hi).1 h1⟩
  ·have h1':elemE (f.getD i default)=0:=qd h1
   by_cases h2:t=false/\(f.getD i default).ref=0
   ·rw[z6J hi h1' h2];exact⟨fun q=>(by cases q),fun q=>absurd h2.2 ((q i (qt _) hi).2 h2.1)⟩
   ·have h2':t=true\/(f.getD i default).ref≠0:=by
     cases t with
     |true=>exact .inl rfl
     |false=>exact .inr (fun q=>h2 ⟨rfl,q⟩)
    rw[z6K hi h1' h2',z9f n (i+1) hm]
    refine⟨fun q j j1 j2=> ?_,fun q j j1 j2=>q j (by omega) j2⟩
    by_cases e:j=i
    ·subst e;exact⟨h1',fun z z2=>h2 ⟨z,z2⟩⟩
    ·exact q j (by omega) j2
theorem z6o{t:Bool}{f:List Elem}:flowZ t f=0↔(∀x∈f,elemE x=0/\(t=false->x.ref≠0))/\(t=true->0<f.length/\(f.getD (f.length- 1) default).char=10):=by
 have hx:flowX t f 0=0↔∀x∈f,elemE x=0/\(t=false->x.ref≠0):=by
  rw[z9f _ 0 rfl]
  refine⟨fun h x hx=> ?_,fun h j _ hj=>h _ (z0h hj)⟩
  obtain⟨j,hj,rfl⟩:=z0D hx
  exact h j (qU _) hj
 by_cases h1:flowX t f 0=0
 ·rw[z5Z h1]
  constructor
  ·intro h
   refine⟨hx.1 h1,fun ht=> ?_⟩
   split at h
   ·cases h
   ·rename_i q
    constructor
    ·apply qd;intro z;exact q ⟨ht,.inl (by omega)⟩
    ·apply qd;intro z;exact q ⟨ht,.inr z⟩
  ·rintro⟨_,h⟩
   rw[if_neg]
   rintro⟨a,b⟩
   have:=h a
   rcases b with b|b
   ·omega
   ·exact b this.2
 ·rw[z5Y rfl h1]
  exact⟨fun h=>absurd h h1,fun h=>absurd (hx.2 h.1) h1⟩
theorem z1R:∀(us:List DU) (f:List Elem) (x:Elem),x∈z0i us f->DU.A x∈us\/∃y∈f,x.char=y.char/\x.ref=y.ref
 | [],f,x,h=>by cases h
 | .A e::us,f,x,h=>by
  rw[z0i] at h
  rcases qj.1 h with rfl|h
  ·exact .inl (by simp)
  ·exact(z1R us f x h).imp (fun q=>by simp[q]) id
 | .K c::us,y::f,x,h=>by
  rw[z0i] at h
  rcases qj.1 h with rfl|h
  ·exact .inr ⟨y,by simp,rfl,rfl⟩
  ·exact(z1R us f x h).imp (fun q=>by simp[q]) (fun⟨z,hz,q⟩=>⟨z,by simp[hz],q⟩)
 | .C::us,y::f,x,h=>by
  rw[z0i] at h
  exact(z1R us f x h).imp (fun q=>by simp[q]) (fun⟨z,hz,q⟩=>⟨z,by simp[hz],q⟩)
 | .K c::us,[],x,h=>by rw[z0i] at h;exact(z1R us [] x h).imp (fun q=>by simp[q]) id
 | .C::us,[],x,h=>by rw[z0i] at h;exact(z1R us [] x h).imp (fun q=>by simp[q]) id
theorem exD_A{e:Elem}:∀{s:List DStep},DU.A e∈exD s->∃t∈s,e∈t.elems
 | [],h=>by cases h
 |t::s,h=>by
  rw[exD] at h
  rcases qp.1 h with h|h
  ·refine⟨t,by simp,?_⟩
   unfold exS at h
   split at h
   ·simpa using h
   ·split at h
    ·have:=zn h;cases this
    ·have:=zn h;cases this
  ·obtain⟨a,b,c⟩:=exD_A h
   exact⟨a,by simp[b],c⟩
theorem z1z:∀(u v:List DU) (l r:List Elem),oldN u=l.length->z0i (u++v) (l++r)=z0i u l++z0i v r
 | [],v,l,r,h=>by
  have:l=[]:=qL (by simpa[oldN] using h.symm)
  subst this;rfl
 | .A e::u,v,l,r,h=>by rw[qg,z0i,z0i,z1z u v l r (by simpa[oldN] using h)];rfl
 | .K c::u,v,[],r,h=>by simp[oldN] at h
 | .C::u,v,[],r,h=>by simp[oldN] at h
 | .K c::u,v,x::l,r,h=>by rw[qg,qg,z0i,z0i,z1z u v l r (by simpa[oldN] using h)];rfl
 | .C::u,v,x::l,r,h=>by rw[qg,qg,z0i,z0i,z1z u v l r (by simpa[oldN] using h)]
theorem z4k{α:Type}[Inhabited α]{a b:List α}(h:0<b.length):(a++b).getD ((a++b).length- 1) default=b.getD (b.length- 1) default:=by
 rw[qf,qc,qI (by omega),qc,show a.length+b.length- 1-a.length=b.length- 1 by omega]
theorem y6A{f:List Elem}{s:List DStep}(hv:z0U s)(hl:oldD s=(f.length:Int))(he:endsD s=true):0< (rawD f s).length/\((rawD f s).getD ((rawD f s).length- 1) default).char=(f.getD (f.length- 1) default).char:=by
 unfold endsD at he
 rw[qm,decide_eq_true_eq,beq_iff_eq] at he
 obtain⟨h0,hk⟩:=he
 have hne:s≠[]:=fun e=>by rw[e] at h0;exact absurd h0 (by decide)
 obtain⟨t,ht⟩:∃t,s=s.dropLast++[t]:=⟨s.getLast hne,(List.dropLast_concat_getLast hne).symm⟩
 generalize s.dropLast=i at ht
 subst ht
 have hg:(i++[t]).getD ((i++[t]).length- 1) default=t:=by rw[z4k (by simp)];rfl
 rw[hg] at hk
 have ho:=hv.1.all t (by simp)
 have hn:1<=t.n/\t.elems=[]:=by
  rcases ho with⟨k,_⟩| ⟨_,e,_,n,_⟩
  ·omega
  ·exact⟨n,e⟩
 have hL:=z4Y hv
 have ex:exD (i++[t])=exD i++List.replicate t.n.toNat (.K t.attrs):=by
  rw[z3x];congr 1
  simp only[exD,qM]
  unfold exS
  rw[if_neg (by omega),if_neg (by omega)]
 have ho2:oldN (exD i)+t.n.toNat=f.length:=by
  have:=hL.1
  rw[ex,z0E,(z1p _ _).1] at this
  omega
 have hs:z0i (exD (i++[t])) f=z0i (exD i) (f.take (oldN (exD i)))++(f.drop (oldN (exD i))).map (chgE t.attrs):=by
  conv=>lhs;rw[<-List.take_append_drop (oldN (exD i)) f]
  rw[ex,z1z _ _ _ _ (by rw[qO];omega)]
  congr 1
  have:=z27 t.n.toNat t.attrs [] (f.drop (oldN (exD i)))
  rw[qM] at this
  rw[this,qn (by rw[zi];omega)]
  simp[z0i]
 have hdl:(f.drop (oldN (exD i))).length=t.n.toNat:=by rw[zi];omega
 unfold rawD
 rw[hs]
 refine⟨by rw[qf,qk,hdl];omega,?_⟩
 rw[z4k (by rw[qk,hdl];omega),qk,hdl]
 have e1:((f.drop (oldN (exD i))).map (chgE t.attrs)).getD (t.n.toNat- 1) default=chgE t.attrs (f.getD (f.length- 1) default):=by
  rw[qc,q9,qT,show oldN (exD i)+(t.n.toNat- 1)=f.length- 1 by omega,qa (show f.length- 1<f.length by omega),qc,qa (show f.length- 1<f.length by omega)]
  rfl
 rw[e1];rfl
theorem z99{l:List Node}{n:Node}{s:List DStep}(h:z0V l n s=0):(hasT n.kind=true\/hasL n.kind=true)/\oldD s=(n.flow.length:Int)/\(hasT n.kind=true->endsD s=true)/\∀t∈s,∀x∈t.elems,newE l n.kind x=0:=by
 unfold z0V at h
 split at h
 ·cases h
 rename_i h1
 split at h
 ·cases h
 rename_i h2
 split at h
 ·cases h
 rename_i h3
 refine⟨?_,qd h2,fun ht=> ?_,fun t ht x hx=>z3y (z3y h t ht) x hx⟩
 ·apply qd;intro q
  rw[not_or,zK,zK] at q
  exact h1 q
 ·apply qd;intro q
  exact h3 ⟨ht,by simpa using q⟩
theorem z60{l:List Node}(hs:SortN l){k:Int}{x:Elem}(h:newE l k x=0):(hasT k=false->x.ref≠0)/\(x.ref≠0->∃m∈l,m.id=x.ref/\permB k m.kind=true):=by
 unfold newE at h
 split at h
 ·cases h
 rename_i h1
 refine⟨fun q z=>h1 ⟨z,q⟩,fun q=>(z4i hs).1 h x.ref ?_⟩
 unfold refsF;simp[q]
theorem z61{l:List DOp}{i:Nat}(h:i<l.length):l.getD i default=l[i]:=by simp[List.getD,qa h]
theorem y1K{l:List DOp}:∀(d i:Nat),l.length-i=d->(drawE l i=0↔(∀j,i<=j->j<l.length->opE (l.getD j default)=0)/\∀j,i<=j->0<j->j<l.length->ltO (l.getD (j- 1) default) (l.getD j default))
 |0,i,h=>by rw[drawE,if_neg (by omega)];exact⟨fun _=>⟨fun j _ _=>by omega,fun j _ _ _=>by omega⟩,fun _=>rfl⟩
 |d+1,i,h=>by
  have hm:l.length- (i+1)=d:=by omega
  rw[drawE,if_pos (by omega)]
  by_cases h1:opE (l.getD i default)=0
  ·rw[if_neg (fun hh=>hh h1)]
   by_cases h2:0<i/\¬ltO (l.getD (i- 1) default) (l.getD i default)
   ·rw[if_pos h2]
    exact⟨fun h=>(by cases h),fun h=>absurd (h.2 i (qt _) h2.1 (by omega)) h2.2⟩
   ·rw[if_neg h2,y1K d (i+1) hm]
    refine⟨fun⟨a,b⟩=>⟨fun j hj hl=> ?_,fun j hj h0 hl=> ?_⟩,fun⟨a,b⟩=>⟨fun j hj hl=>a j (by omega) hl,fun j hj h0 hl=>b j (by omega) h0 hl⟩⟩
    ·by_cases e:j=i
     ·rw[e];exact h1
     ·exact a j (by omega) hl
    ·by_cases e:j=i
     ·subst e;exact qd (fun hh=>h2 ⟨h0,hh⟩)
     ·exact b j (by omega) h0 hl
  ·rw[if_pos h1]
   exact⟨fun h=>absurd h h1,fun h=>h.1 i (qt _) (by omega)⟩
theorem z7X{l:List DOp}:drawE l 0=0↔(∀o∈l,opE o=0)/\l.Pairwise ltO:=by
 rw[y1K _ 0 rfl]
 constructor
 ·rintro⟨a,b⟩
  refine⟨fun o ho=> ?_,List.pairwise_iff_getElem.2 fun i j hi hj hij=> ?_⟩
  ·obtain⟨j,hj,rfl⟩:=z0D ho;exact a j (qU _) hj
  ·obtain⟨d,rfl⟩:∃d,j=i+1+d:=⟨j-i- 1,by omega⟩
   clear hij
   induction d with
   |zero=>have:=b (i+1) (qU _) (by omega) hj;rwa [show i+1- 1=i by omega,z61 hi,z61 hj] at this
   |succ d ih=>
    have h1:=ih (by omega)
    have h2:=b (i+1+(d+1)) (qU _) (by omega) hj
    rw[show i+1+(d+1)- 1=i+1+d by omega,z61 (by omega),z61 hj] at h2
    exact z5V h1 h2
 ·rintro⟨a,b⟩
  refine⟨fun j _ hj=>a _ (z0h hj),fun j _ h0 hj=> ?_⟩
  rw[z61 (by omega),z61 hj]
  exact List.pairwise_iff_getElem.1 b (j- 1) j _ _ (by omega)
theorem y6B(x y:List DOp):∀z,z0w x y=some z->x.Pairwise ltO->y.Pairwise ltO->(∀o∈z,o∈x\/o∈y)/\z.Pairwise ltO/\z.length<=x.length+y.length:=by
 induction x,y using z0w.induct with
 |case1=>intro z h hx hy;rw[z0w] at h;cases h;exact⟨(fun o ho=>by cases ho),List.Pairwise.nil,qt _⟩
 |case2 a l ih=>
  intro z h hx hy
  rw[z0w,qe] at h
  obtain⟨w,hw,rfl⟩:=h
  obtain⟨h1,h2,h3⟩:=ih w hw (qY.1 hx).2 hy
  refine⟨fun o ho=> ?_,qY.2 ⟨fun b hb=>(qY.1 hx).1 b ((h1 b hb).resolve_right (fun q=>by cases q)),h2⟩,by simp at h3|-;omega⟩
  rcases qj.1 ho with rfl|ho
  ·exact .inl (by simp)
  ·exact(h1 o ho).imp (fun q=>by simp[q]) id
 |case3 b r ih=>
  intro z h hx hy
  rw[z0w,qe] at h
  obtain⟨w,hw,rfl⟩:=h
  obtain⟨h1,h2,h3⟩:=ih w hw hx (qY.1 hy).2
  refine⟨fun o ho=> ?_,qY.2 ⟨fun c hc=>(qY.1 hy).1 c ((h1 c hc).resolve_left (fun q=>by cases q)),h2⟩,by simp at h3|-;omega⟩
  rcases qj.1 ho with rfl|ho
  ·exact .inr (by simp)
  ·exact(h1 o ho).imp id (fun q=>by simp[q])
 |case4 a l b r hab ih=>
  intro z h hx hy
  rw[z0w,if_pos hab,qe] at h
  obtain⟨w,hw,rfl⟩:=h
  obtain⟨h1,h2,h3⟩:=ih w hw (qY.1 hx).2 hy
  refine⟨fun o ho=> ?_,qY.2 ⟨fun c hc=> ?_,h2⟩,by simp at h3|-;omega⟩
  ·rcases qj.1 ho with rfl|ho
   ·exact .inl (by simp)
   ·exact(h1 o ho).imp (fun q=>by simp[q]) id
  ·rcases h1 c hc with q|q
   ·exact(qY.1 hx).1 c q
   ·rcases qj.1 q with rfl|q
    ·exact hab
    ·exact z5V hab ((qY.1 hy).1 c q)
 |case5 a l b r hab hba ih=>
  intro z h hx hy
  rw[z0w,if_neg hab,if_pos hba,qe] at h
  obtain⟨w,hw,rfl⟩:=h
  obtain⟨h1,h2,h3⟩:=ih w hw hx (qY.1 hy).2
  refine⟨fun o ho=> ?_,qY.2 ⟨fun c hc=> ?_,h2⟩,by simp at h3|-;omega⟩
  ·rcases qj.1 ho with rfl|ho
   ·exact .inr (by simp)
   ·exact(h1 o ho).imp id (fun q=>by simp[q])
  ·rcases h1 c hc with q|q
   ·rcases qj.1 q with rfl|q
    ·exact hba
    ·exact z5V hba ((qY.1 hx).1 c q)
   ·exact(qY.1 hy).1 c q
 |case6 l b r hab hba ih=>
  intro z h hx hy
  rw[z0w,if_neg hab,if_neg hba,if_pos rfl,qe] at h
  obtain⟨w,hw,rfl⟩:=h
  obtain⟨h1,h2,h3⟩:=ih w hw (qY.1 hx).2 (qY.1 hy).2
  refine⟨fun o ho=> ?_,qY.2 ⟨fun c hc=> ?_,h2⟩,by simp at h3|-;omega⟩
  ·rcases qj.1 ho with rfl|ho
   ·exact .inl (by simp)
   ·exact(h1 o ho).imp (fun q=>by simp[q]) (fun q=>by simp[q])
  ·rcases h1 c hc with q|q
   ·exact(qY.1 hx).1 c q
   ·exact(qY.1 hy).1 c q
 |case7 a l b r hab hba hne=>intro z h;rw[z0w,if_neg hab,if_neg hba,if_neg hne] at h;cases h
end Go.Ch
end
section
namespace Go.Ch
open Go Go.Ab
variable {U:US}
structure GP(U:US)(m:Nat)(l:List Node):Prop where
 vd:VD l
 nd:∀n∈l,NG U n/\NZ m n
theorem NZ.mono{m k:Nat}{n:Node}(h:NZ m n)(hm:m<=k):NZ k n:=⟨qD h.fl hm,qD h.ce hm,qD h.dr hm⟩
theorem GP.mono{m k:Nat}{l:List Node}(h:GP U m l)(hm:m<=k):GP U k l:=⟨h.vd,fun n hn=>⟨(h.nd n hn).1,(h.nd n hn).2.mono hm⟩⟩
theorem GP.set{l:List Node}{m k:Nat}(h:GP U m l)(hm:m<=k){i:Nat}(hi:i<l.length){n:Node}(hid:n.id=(l.getD i default).id)(hk:n.kind=(l.getD i default).kind)(hn:nodeE n=0)(hr:∀r∈refsN n,∃m∈l,m.id=r/\permB n.kind m.kind=true)(hg:NG U n)(hz:NZ k n):GP U k (l.set i n):=by
 refine⟨h.vd.set hi hid hk hn hr,fun x hx=> ?_⟩
 rcases za hx with q|rfl
 ·exact⟨(h.nd x q).1,(h.nd x q).2.mono hm⟩
 ·exact⟨hg,hz⟩
theorem z4l{l:List Node}{o:EOp}(hk:o.kind≠0)(h0:oneE l o=0):hasN l o.node=true/\lobN l o.node<l.length/\oneL l o=l.set (lobN l o.node) (oneN (l.getD (lobN l o.node) default) o):=by
 have hh:hasN l o.node=true:=by
  apply qd;intro q
  have:=(one_1 hk (by simpa using q)).2
  omega
 exact⟨hh,(z06.1 hh).1,one_s hk h0⟩
theorem y8w{l:List Node}{o:EOp}(hk:o.kind≠0)(h0:oneE l o=0):(oneL l o).length=l.length/\∀x∈oneL l o,∃n∈l,x.id=n.id:=by
 obtain⟨h1,h2,h3⟩:=z4l hk h0
 rw[h3]
 refine⟨zp ..,fun x hx=> ?_⟩
 rcases za hx with q|rfl
 ·exact⟨x,q,rfl⟩
 ·refine⟨_,z0h h2,?_⟩
  unfold oneN;repeat' split
  all_goals rfl
theorem z4H{n:Node}(h:nodeE n=0):drawE n.draw 0=0:=by
 obtain⟨p1,p2,p3,p4,p5,p6,p7⟩:=z1Q h
 by_cases q:hasD n.kind=true
 ·exact p7 q
 ·have:¬0<n.draw.length:=fun z=>q (p4.2.2 z)
  rw[drawE,if_neg this]
theorem keepA{l:List Node}{m:Nat}(h:GP U m l){k:Int}{c:List Attr}(hc:VU U true c)(h0:oneE l (opA k c)=0):GP U m (oneL l (opA k c)):=by
 obtain⟨h1,h2,h3⟩:=z4l (o:=opA k c) (show(1:Int)≠0 by decide) h0
 have h3:oneL l (opA k c)=l.set (lobN l k) {(l.getD (lobN l k) default) with attrs:=fm rawG (l.getD (lobN l k) default).attrs c}:=h3
 rw[h3]
 have h2:lobN l k<l.length:=h2
 have hm:=z0h h2
 obtain⟨g,z⟩:=h.nd _ hm
 have hv:=raw_V nu_mt g.at1 hc
 have hn:=h.vd.node _ hm
 have hdr:=z4H hn
 obtain⟨p1,p2,p3,p4,p5,p6,p7⟩:=z1Q hn
 exact h.set (qt _) h2 rfl rfl (z7U p1 p2 (VU.g hv) p4 p5 p6 (.inl hdr)) (fun r hr=>h.vd.refs _ hm r hr) ⟨hv,g.fl,g.mg,g.ce,g.dr,g.kd⟩ ⟨z.fl,z.ce,z.dr⟩
theorem z9g{f:List Elem}{r:Int}:r∈refsF f↔∃x∈f,x.ref=r/\r≠0:=by
 unfold refsF
 rw[List.mem_filterMap]
 constructor
 ·rintro⟨x,hx,h⟩
  split at h
  ·rename_i q;cases h;exact⟨x,hx,rfl,q⟩
  ·cases h
 ·rintro⟨x,hx,rfl,h⟩
  exact⟨x,hx,by rw[if_pos h]⟩
theorem z9h{f:List Cell}{r:Int}:r∈refsC f↔∃x∈f,x.ref=r/\r≠0:=by
 unfold refsC
 rw[List.mem_filterMap]
 constructor
 ·rintro⟨x,hx,h⟩
  split at h
  ·rename_i q;cases h;exact⟨x,hx,rfl,q⟩
  ·cases h
 ·rintro⟨x,hx,rfl,h⟩
  exact⟨x,hx,by rw[if_pos h]⟩
theorem keepF{l:List Node}{m q:Nat}(h:GP U m l){k:Int}{s:List DStep}{us:List DU}(hd:DU_ U s us)(hq:newD s<=oldD s+q)(h0:oneE l (opF k s)=0):GP U (m+q) (oneL l (opF k s)):=by
 obtain⟨h1,h2,h3⟩:=z4l (o:=opF k s) (show(2:Int)≠0 by decide) h0
 have h3:oneL l (opF k s)=l.set (lobN l k) {(l.getD (lobN l k) default) with flow:=rawD (l.getD (lobN l k) default).flow s}:=h3
 rw[h3]
 have h2:lobN l k<l.length:=h2
 have hm:=z0h h2
 have hf:z0V l (l.getD (lobN l k) default) s=0:=(one_3 (o:=opF k s) h1 rfl).2.symm.trans h0
 obtain⟨g,z⟩:=h.nd _ hm
 have hn:=h.vd.node _ hm
 have hdr:=z4H hn
 obtain⟨p1,p2,p3,p4,p5,p6,p7⟩:=z1Q hn
 obtain⟨f1,f2,f3,f4⟩:=z99 hf
 have hlen:=z4Y hd.v
 have hall:∀x∈rawD (l.getD (lobN l k) default).flow s,RU U x:=z1D _ _ hd.ex g.fl
 have hl:(rawD (l.getD (lobN l k) default).flow s).length=newN (exD s):=z2A _ _ (by omega)
 have hsrc:∀x∈rawD (l.getD (lobN l k) default).flow s,newE l (l.getD (lobN l k) default).kind x=0\/∃y∈(l.getD (lobN l k) default).flow,x.char=y.char/\x.ref=y.ref:=fun x hx=>by
  rcases z1R _ _ x hx with q|q
  ·obtain⟨t,ht,hx'⟩:=exD_A q
   exact .inl (f4 t ht x hx')
  ·exact .inr q
 have hz:=z6o.1 (p5 f1)
 refine h.set (zP _ _) h2 rfl rfl (z7U p1 p2 p3 ⟨fun _=>f1,p4.2.1,p4.2.2⟩ (fun _=>z6o.2 ⟨fun x hx=>⟨(hall x hx).1,fun ht=> ?_⟩,fun ht=> ?_⟩) p6 (.inl hdr)) (fun r hr=> ?_) ⟨g.at1,hall,g.mg,g.ce,g.dr,g.kd⟩ ⟨?_,qD z.ce (zP _ _),qD z.dr (zP _ _)⟩
 ·rcases hsrc x hx with q| ⟨y,hy,_,e⟩
  ·exact(z60 h.vd.srt q).1 ht
  ·rw[e];exact(hz.1 y hy).2 ht
 ·have a:=hz.2 ht
  have b:=y6A hd.v f2 (f3 ht)
  exact⟨b.1,b.2.trans a.2⟩
 ·rcases qp.1 hr with hr|hr
  ·obtain⟨x,hx,rfl,hx0⟩:=z9g.1 hr
   rcases hsrc x hx with q| ⟨y,hy,_,e⟩
   ·exact(z60 h.vd.srt q).2 hx0
   ·exact h.vd.refs _ hm x.ref (zQ _ (z9g.2 ⟨y,hy,e.symm,hx0⟩))
  ·exact h.vd.refs _ hm r (List.mem_append_right _ hr)
 ·have:=z.fl
  show(rawD (l.getD (lobN l k) default).flow s).length<=m+q
  omega
theorem y0a{l:List Node}{n:Node}{g:GEd}(h:z02 l n g=0):hasG n.kind=true/\cellK n.kind g.cells 0=0/\fitsE n.grid g=0/\∀c∈g.cells,newC l n.kind c=0:=by
 unfold z02 at h
 split at h
 ·cases h
 rename_i h1
 split at h
 ·rename_i q;exact absurd h q
 rename_i h2
 split at h
 ·rename_i q;exact absurd h q
 rename_i h3
 exact⟨by simpa using h1,qd h2,qd h3,z3y h⟩
theorem y46(c:Cell){k:List Cell->List Cell}{q:Nat}(hk:∀l,(k l).length<=l.length+q):∀(l:List Cell),(putC c k l).length<=l.length+(q+1)
 | []=>by
  have:=hk []
  unfold putC;split<;>simp at this|- <;>omega
 |x::l=>by
  have h1:=y46 c hk l
  have h2:=hk l
  have h3:=hk (x::l)
  unfold putC
  repeat' split
  all_goals simp only[qi,qf,zd] at* <;>omega
theorem y7k:∀(a b:List Cell),(putL a b).length<=b.length+a.length
 | [],b=>by simp[putL]
 |c::a,b=>y46 c (fun l=>y7k a l) b
theorem y8x(a b:List Cell):(putL a b).length<=a.length+b.length:=by have:=y7k a b;omega
theorem keepG{l:List Node}{m:Nat}(h:GP U m l){k:Int}{g:GEd}(hl:LiteE g)(hc:∀c∈g.cells,c.attrs=[]/\c.text.size=0)(hm1:m<=100000)(h0:oneE l (opG k g)=0):GP U (m+g.cells.length) (oneL l (opG k g)):=by
 obtain⟨h1,h2,h3⟩:=z4l (o:=opG k g) (show(3:Int)≠0 by decide) h0
 have h3:oneL l (opG k g)=l.set (lobN l k) {(l.getD (lobN l k) default) with grid:=rawT (l.getD (lobN l k) default).grid g}:=h3
 rw[h3]
 have h2:lobN l k<l.length:=h2
 have hm:=z0h h2
 have hf:z02 l (l.getD (lobN l k) default) g=0:=(one_4 (o:=opG k g) h1 rfl).2.symm.trans h0
 obtain⟨gd,z⟩:=h.nd _ hm
 have hn:=h.vd.node _ hm
 have hdr:=z4H hn
 obtain⟨p1,p2,p3,p4,p5,p6,p7⟩:=z1Q hn
 obtain⟨f1,f2,f3,f4⟩:=y0a hf
 have zc:=z.ce
 have hr:RawT (l.getD (lobN l k) default).grid g:=RawT.of f3 gd.mg hl (by omega) hl.ln (fun c hc'=>by rw[(gd.ce c hc').1];decide) (fun c hc'=>by rw[(hc c hc').1];decide)
 have hcell:∀c∈(rawT (l.getD (lobN l k) default).grid g).cells,(c.attrs=[]/\c.text.size=0)/\(c.ref≠0->∃x∈l,x.id=c.ref/\permB (l.getD (lobN l k) default).kind x.kind=true):=fun c hc'=>by
  rcases y1J hc' with⟨q,_⟩| ⟨c0,q,hmv⟩
  ·refine⟨hc c q,fun hc0=> ?_⟩
   have:=f4 c q
   rw[y1b hc0] at this
   exact(z4i h.vd.srt).1 this c.ref (by simp)
  ·obtain⟨_,_,rfl⟩:=z5s hmv
   exact⟨gd.ce c0 q,fun hc0=>h.vd.refs _ hm c0.ref (List.mem_append_right _ (z9h.2 ⟨c0,q,rfl,hc0⟩))⟩
 refine h.set (zP _ _) h2 rfl rfl (z7U p1 p2 p3 ⟨p4.1,fun _=>f1,p4.2.2⟩ p5 (fun _=>⟨y2D gd.mg f3 hr,z9e gd.kd (fun c hc'=>(hcell c hc').1) _ 0 rfl⟩) (.inl hdr)) (fun r hr'=> ?_) ⟨gd.at1,gd.fl,rfl,fun c hc'=>(hcell c hc').1,gd.dr,gd.kd⟩ ⟨qD z.fl (zP _ _),?_,qD z.dr (zP _ _)⟩
 ·rcases qp.1 hr' with q|q
  ·exact h.vd.refs _ hm r (zQ _ q)
  ·obtain⟨c,hc',rfl,hc0⟩:=z9h.1 q
   exact(hcell c hc').2 hc0
 ·have a:=y8x g.cells (movL (l.getD (lobN l k) default).grid.cells g.rows g.cols)
  have b:=z7z (l.getD (lobN l k) default).grid.cells g.rows g.cols
  show(putL g.cells (movL (l.getD (lobN l k) default).grid.cells g.rows g.cols)).length<=_
  omega
theorem y9q{l:List Node}{m:Nat}(h:GP U m l){k:Int}{c:List DOp}(hs:∀o∈c,o.plc.size<=100/\o.nm.size<=100/\o.vl.size<=100)(hc:drawE c 0=0)(h0:oneE l (opD k c)=0):GP U (m+c.length) (oneL l (opD k c)):=by
 obtain⟨h1,h2,h3⟩:=z4l (o:=opD k c) (show(4:Int)≠0 by decide) h0
 have h3:oneL l (opD k c)=l.set (lobN l k) {(l.getD (lobN l k) default) with draw:=(z0w (l.getD (lobN l k) default).draw c).getD []}:=h3
 rw[h3]
 have h2:lobN l k<l.length:=h2
 have hm:=z0h h2
 have hd:z6O (l.getD (lobN l k) default) c=0:=(one_d (o:=opD k c) h1 rfl).symm.trans h0
 unfold z6O at hd
 split at hd
 ·cases hd
 rename_i hd1
 split at hd
 rotate_left
 ·cases hd
 rename_i hd2
 obtain⟨w,hw⟩:=zu.1 hd2
 obtain⟨g,z⟩:=h.nd _ hm
 have hn:=h.vd.node _ hm
 have hdr:=z4H hn
 obtain⟨p1,p2,p3,p4,p5,p6,p7⟩:=z1Q hn
 have a:=z7X.1 (z4H hn)
 have b:=z7X.1 hc
 obtain⟨u1,u2,u3⟩:=y6B _ _ w hw a.2 b.2
 rw[hw]
 have hz:=z.dr
 refine h.set (zP _ _) h2 rfl rfl (z7U p1 p2 p3 ⟨p4.1,p4.2.1,fun _=>by simpa using hd1⟩ p5 p6 (.inl (z7X.2 ⟨fun o ho=> ?_,u2⟩))) (fun r hr=>h.vd.refs _ hm r hr) ⟨g.at1,g.fl,g.mg,g.ce,fun o ho=> ?_,g.kd⟩ ⟨qD z.fl (zP _ _),qD z.ce (zP _ _),(by show w.length<=_;omega)⟩
 ·exact(u1 o ho).elim (a.1 o) (b.1 o)
 ·exact(u1 o ho).elim (g.dr o) (hs o)
theorem keepN{l:List Node}{m:Nat}(h:GP U m l){n:Node}(hg:NG U n)(hz:NZ m n)(hv:nodeE n=0)(hl:∀x∈l,x.id<n.id)(h0:oneE l (opN n)=0):oneL l (opN n)=l++[n]/\GP U m (l++[n]):=by
 have ha:adnE l n=0:=(one_0 (o:=opN n) rfl).2.symm.trans h0
 have hn:hasN l n.id=false:=by
  cases q:hasN l n.id with
  |false=>rfl
  |true=>rw[(ins_1 (l:=l) (n:=n) q).2] at ha;cases ha
 have hr:refsE l n.kind (refsN n) 0=0:=(ins_f hn).symm.trans ha
 have hlo:lobN l n.id=l.length:=by
  obtain⟨s1,s2,s3⟩:=z1L l n.id
  apply qd;intro q
  exact s3 (by omega) (hl _ (z0h (by omega)))
 refine⟨(one_0 (o:=opN n) rfl).1.trans (ins_3 hn hr hlo).1,h.vd.add hl hv ((z4i h.vd.srt).1 hr),fun x hx=> ?_⟩
 rcases qp.1 hx with q|q
 ·exact h.nd x q
 ·rw[qy] at q;subst q;exact⟨hg,hz⟩
end Go.Ch
end
