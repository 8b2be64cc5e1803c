/- Parts of the proof: EdFmt, EdFmt2, DoorPlain, EditAsc, EditCmd, EdCmd, EdOf, EdCmd2, EdOne, EdOne2, EdOne3, EdOne4, EdApp, EditFirst, EdFirst, EdProbe, EdGrown, EdStart, EditOf, EditText, EdUtf. -/
import Derived.Test.YtlgmgpnjkadhfaaGreatDoorM1
import Derived.Test.YtlgmgpnjkadhfaaGreatDoorM2
import Derived.Test.YtlgmgpnjkadhfaaGreatDoorM3
import Derived.Test.YtlgmgpnjkadhfaaGreatDoorM4
import Derived.Test.YtlgmgpnjkadhfaaGreatDoorM5
import Derived.Test.YtlgmgpnjkadhfaaGreatDoorM6
import Derived.Test.YtlgmgpnjkadhfaaGreatDoorM7
import Derived.Test.YtlgmgpnjkadhfaaGreatDoorM8
section
set_option linter.unusedVariables false
set_option linter.unusedSimpArgs false
set_option maxRecDepth 100000
set_option maxHeartbeats 4000000
open Go Go.Proofs Go.Ab
namespace Go.Ch
theorem y7G(p:Pl)(s:Sel)(k:Int)(hb:PlB p):FC Tryz.prog 42 [VI k,.ptr 1 0,.ptr 0 0] (app emp [(0,.box [VI p.node.id,VI p.node.kind,VL 2 attrT p.node.attrs,VL 3 elemT p.node.flow,VI p.node.grid.rows,VI p.node.grid.cols,VL 5 cellT p.node.grid.cells,VL 4 rectT p.node.grid.merges,VL 8 dopT p.node.draw,VL 1 intT p.shown,VS p.author]),(1,.box [VI s.nd,VI s.fr,VI s.tq])]) (VB (fmtW p s k)) (app emp [(0,.box [VI p.node.id,VI p.node.kind,VL 2 attrT p.node.attrs,VL 3 elemT p.node.flow,VI p.node.grid.rows,VI p.node.grid.cols,VL 5 cellT p.node.grid.cells,VL 4 rectT p.node.grid.merges,VL 8 dopT p.node.draw,VL 1 intT p.shown,VS p.author]),(1,.box [VI s.nd,VI s.fr,VI s.tq])]):=by
 refine .go Tryz.f42 ?_
 have e1:((fmtW p s k):Bool)=((decide (k≥s.fr)&&decide (k<s.tq))&&((((elemP p k)).char) !=10)):=by
  rfl
 exact .finE [.r [],.r [(7,Xv 1 (decide (k≥s.fr)) X0),(8,Xv 2 (decide (k≥s.fr)) X0),(9,X (Xk (decide (k≥s.fr)))),(12,Xv 1 (decide (k≥s.fr)&&decide (k<s.tq)) (Xc4 [(0,0)] (z2Q p k (by assumption)) X0)),(13,Xv 1 (decide (k≥s.fr)&&decide (k<s.tq)) X0),(14,Xv 1 (decide (k≥s.fr)&&decide (k<s.tq)) X0),(15,X (Xk (decide (k≥s.fr)&&decide (k<s.tq))))]] [(0,0),(1,1)] (fun z0:Bool=>(VB z0,[(0,.box [VI p.node.id,VI p.node.kind,VL 2 attrT p.node.attrs,VL 3 elemT p.node.flow,VI p.node.grid.rows,VI p.node.grid.cols,VL 5 cellT p.node.grid.cells,VL 4 rectT p.node.grid.merges,VL 8 dopT p.node.draw,VL 1 intT p.shown,VS p.author]),(1,.box [VI s.nd,VI s.fr,VI s.tq])])) _ _ e1
theorem y2o(p:Pl)(s:Sel)(c:List Attr)(hb:PlB p)(hc:c.length≤1048576):FC Tryz.prog 41 [.ptr 0 0,VL 2 attrT c,.fn 42 [.ptr 1 0,.ptr 0 0]] (app emp [(0,.box [VI p.node.id,VI p.node.kind,VL 2 attrT p.node.attrs,VL 3 elemT p.node.flow,VI p.node.grid.rows,VI p.node.grid.cols,VL 5 cellT p.node.grid.cells,VL 4 rectT p.node.grid.merges,VL 8 dopT p.node.draw,VL 1 intT p.shown,VS p.author]),(1,.box [VI s.nd,VI s.fr,VI s.tq])]) (VL 19 eopT [opF p.node.id (rstD c (rstF (fmtW p s) p.shown p.node.flow.length p.shown.length) p.node.flow.length)]) (app emp [(0,.box [VI p.node.id,VI p.node.kind,VL 2 attrT p.node.attrs,VL 3 elemT p.node.flow,VI p.node.grid.rows,VI p.node.grid.cols,VL 5 cellT p.node.grid.cells,VL 4 rectT p.node.grid.merges,VL 8 dopT p.node.draw,VL 1 intT p.shown,VS p.author]),(1,.box [VI s.nd,VI s.fr,VI s.tq])]):=by
 refine .go Tryz.f41 ?_
 refine .len 1 (fun hl1=> ?_)
 obtain⟨dn,el⟩:=y4b c (rstF (fmtW p s) p.shown p.node.flow.length p.shown.length) p.node.flow.length hc
 have hbl:=hb.len
 have hbs:=hb.sl
 refine .loop (α:=Nat×(List Bool)) [.r [],.r [(5,X (Xl elemT p.node.flow)),(6,X (Xmk 1 boolT 58 (p.node.flow.length:Int) (p.node.flow.length:Int) false))],.r [(4,X (Xl intT p.shown))]] 122 (fun(k,f)=>([(0,.ptr 0 0),(1,VL 2 attrT c),(2,.fn 42 [.ptr 1 0,.ptr 0 0]),(7,.row 58 p.node.flow.length),(25,VL 1 intT p.shown),(26,VI (p.shown.length:Int)),(27,VI (k:Int))],[(0,.box [VI p.node.id,VI p.node.kind,VL 2 attrT p.node.attrs,VL 3 elemT p.node.flow,VI p.node.grid.rows,VI p.node.grid.cols,VL 5 cellT p.node.grid.cells,VL 4 rectT p.node.grid.merges,VL 8 dopT p.node.draw,VL 1 intT p.shown,VS p.author]),(1,.box [VI s.nd,VI s.fr,VI s.tq]),(58,OR 1 boolT f)])) (fun(k,f)=>k≤p.shown.length∧f=rstF (fmtW p s) p.shown p.node.flow.length k) (fun(k,f)=>p.shown.length-k) (0,(List.replicate p.node.flow.length false)) ?_ ?_
 ·
  exact⟨by omega,rfl⟩
 rintro⟨k,f⟩ I3 ih3
 try dsimp only at I3
 have fl:f.length=p.node.flow.length:=by rw[I3.2,z5m]
 refine .bp [.r []] (decide ((k:Int)< (p.shown.length:Int))) (fun h3=> ?_) (fun h3=> ?_)
 ·
  have hpk:=hb.ok _ (z0g (l:=p.shown) (i:=k) (by omega))
  refine .back [.r [(1,X (Xi intT p.shown (k:Int)))],.r [(4,X (Xc4 [(0,0),(1,1)] (y7G p s (k:Int) (by assumption)) X0)),(5,X (Xpn p.node.flow.length boolT f (p.shown.getD k default))),(6,X (Xsn p.node.flow.length 1 boolT 58 f (Int.toNat (p.shown.getD k default)) (fmtW p s (k:Int))))],.r [(0,X (Xn ((k:Int)+1)))]] [(0,0),(1,1),(58,58)] (ih3 ((k+1),(f.set (Int.toNat (p.shown.getD k default)) (fmtW p s (k:Int)))) ?_ ?_)
  ·
   exact⟨by omega,by rw[I3.2,z4g]⟩
  ·
   ((try dsimp only);omega)
 ·
  have hf2:f=(rstF (fmtW p s) p.shown p.node.flow.length p.shown.length):=by rw[I3.2,show k=p.shown.length by omega]
  refine .loop (α:=Nat×(List DStep)) [.r [],.r [(5,X (Xl elemT p.node.flow))],.le (.nR 10 4)] 195 (fun(i,o)=>([(0,.ptr 0 0),(1,VL 2 attrT c),(7,.row 58 p.node.flow.length),(10,.row 194 o.length),(44,VI (p.node.flow.length:Int)),(45,VI (i:Int))],[(0,.box [VI p.node.id,VI p.node.kind,VL 2 attrT p.node.attrs,VL 3 elemT p.node.flow,VI p.node.grid.rows,VI p.node.grid.cols,VL 5 cellT p.node.grid.cells,VL 4 rectT p.node.grid.merges,VL 8 dopT p.node.draw,VL 1 intT p.shown,VS p.author]),(1,.box [VI s.nd,VI s.fr,VI s.tq]),(58,OR 1 boolT f),(194,OR 4 z0c o)])) (fun(i,o)=>i≤p.node.flow.length∧o=rstS c f i) (fun(i,o)=>p.node.flow.length-i) (0,[]) ?_ ?_
  ·
   exact⟨by omega,rfl⟩
  rintro⟨i,o⟩ I9 ih9
  try dsimp only at I9
  have ol2:o.length=i:=by rw[I9.2];exact y1w c f i
  refine .bp [.r []] (decide ((i:Int)< (p.node.flow.length:Int))) (fun h9=> ?_) (fun h9=> ?_)
  ·
   refine .bp [.r [],.r [(0,X (Xf [(2,2),(3,3)]))],.r [(2,X (Xpn p.node.flow.length boolT f (i:Int))),(3,X (Xen p.node.flow.length boolT f i))]] (f.getD i default) (fun h12=> ?_) (fun h12=> ?_)
   ·
    refine .back [.r [],.r [(3,X (rowC z0c [({kind:=0,n:=1,attrs:=c,elems:=[]}:DStep)] (Xap 4 z0c 194 o [({kind:=0,n:=1,attrs:=c,elems:=[]}:DStep)])))],.r [(0,X (Xn ((i:Int)+1)))]] [(0,0),(1,1),(58,58),(194,194)] (ih9 ((i+1),(o++[({kind:=0,n:=1,attrs:=c,elems:=[]}:DStep)])) ?_ ?_)
    ·
     exact⟨by omega,by rw[I9.2,z4h,y6y h12]⟩
    ·
     ((try dsimp only);omega)
   ·
    refine .back [.r [(3,X (rowC z0c [({kind:=0,n:=1,attrs:=[],elems:=[]}:DStep)] (Xap 4 z0c 194 o [({kind:=0,n:=1,attrs:=[],elems:=[]}:DStep)])))],.r [(0,X (Xn ((i:Int)+1)))]] [(0,0),(1,1),(58,58),(194,194)] (ih9 ((i+1),(o++[({kind:=0,n:=1,attrs:=[],elems:=[]}:DStep)])) ?_ ?_)
    ·
     exact⟨by omega,by rw[I9.2,z4h,y6z h12]⟩
    ·
     ((try dsimp only);omega)
  ·
   have ho:o=rstS c (rstF (fmtW p s) p.shown p.node.flow.length p.shown.length) p.node.flow.length:=by rw[I9.2,show i=p.node.flow.length by omega,hf2]
   rw[←ho] at dn el
   have e1:([opF p.node.id (rstD c (rstF (fmtW p s) p.shown p.node.flow.length p.shown.length) p.node.flow.length)]:List EOp)=[({kind:=2,node:=p.node.id,nw:=({id:=0,kind:=0,attrs:=[],flow:=[],grid:=({rows:=0,cols:=0,cells:=[],merges:=[]}:Grid),draw:=[]}:Node),attrs:=[],steps:=(tidyL o),grid:=({rows:=[],cols:=[],cells:=[],split:=[],merge:=[]}:GEd),draw:=[]}:EOp)]:=by
    rw[ho];rfl
   exact .finE [.r [(1,X (Xc1 211 (z5n o (by assumption) (by omega) (by omega)) (rowC z0c o X0)))],.r [(6,X (Xf [(4,2),(5,3),(8,5),(9,4),(10,8),(11,2),(13,2),(14,2),(15,5),(16,4),(17,4),(18,8)]))],.le (.fr 6 [(1:Nat)=(List.map eopT [({kind:=2,node:=p.node.id,nw:=({id:=0,kind:=0,attrs:=[],flow:=[],grid:=({rows:=0,cols:=0,cells:=[],merges:=[]}:Grid),draw:=[]}:Node),attrs:=[],steps:=(tidyL o),grid:=({rows:=[],cols:=[],cells:=[],split:=[],merge:=[]}:GEd),draw:=[]}:EOp)]).length] ⟨lm,trivial⟩)] [(0,0),(1,1)] (fun z0:List EOp=>(VL 19 eopT z0,[(0,.box [VI p.node.id,VI p.node.kind,VL 2 attrT p.node.attrs,VL 3 elemT p.node.flow,VI p.node.grid.rows,VI p.node.grid.cols,VL 5 cellT p.node.grid.cells,VL 4 rectT p.node.grid.merges,VL 8 dopT p.node.draw,VL 1 intT p.shown,VS p.author]),(1,.box [VI s.nd,VI s.fr,VI s.tq])])) _ _ e1
theorem z9a(d:Doc)(s:Sel)(c:List Attr)(hb:DocL d)(hc:c.length≤1048576)(hx:atE d s {data:=#[]}=0→PlB (atP d s {data:=#[]})):FC Tryz.prog 17 [.t (docT d),.t (selT s),VL 2 attrT c] (app emp []) (.tup [VL 19 eopT (fmtO d s c),VI (fmtE d s c)]) (app emp []):=by
 refine .go Tryz.f17 ?_
 refine .len 2 (fun hl2=> ?_)
 refine .bp [.r [],.r [(2,X (Xc1 48 (fc_at d s ({data:=#[]}) (by assumption)) X0))],.r []] ((atE d s ({data:=#[]})) !=0) (fun h2=> ?_) (fun h2=> ?_)
 ·
  have T:=fmt_1 (c:=c) h2
  have e1:((fmtO d s c):List EOp)=[]:=by
   exact T.1
  have e2:((fmtE d s c):Int)=(atE d s ({data:=#[]})):=by
   exact T.2
  exact .finE [.r [],.le (.nL 6 19)] [] (fun((z0,z1):(List EOp)×Int)=>(.tup [VL 19 eopT z0,VI z1],[])) _ _ (pr e1 e2)
 ·
  refine .bp [.r [(1,X (Xc0 (z04 c) X0))],.r []] ((chkA true c 0) !=0) (fun h5=> ?_) (fun h5=> ?_)
  ·
   have T:=fmt_2 h2 h5
   have e3:((fmtO d s c):List EOp)=[]:=by
    exact T.1
   have e4:((fmtE d s c):Int)=(chkA true c 0):=by
    exact T.2
   exact .finE [.r [],.le (.nL 6 19)] [] (fun((z0,z1):(List EOp)×Int)=>(.tup [VL 19 eopT z0,VI z1],[])) _ _ (pr e3 e4)
  ·
   have hp:=hx h2
   have T:=fmt_3 h2 h5
   have e5:((fmtO d s c):List EOp)=[opF (((atP d s ({data:=#[]})))).node.id (rstD c (rstF (fmtW ((atP d s ({data:=#[]}))) s) (((atP d s ({data:=#[]})))).shown (((atP d s ({data:=#[]})))).node.flow.length (((atP d s ({data:=#[]})))).shown.length) (((atP d s ({data:=#[]})))).node.flow.length)]:=by
    exact T.1
   have e6:((fmtE d s c):Int)=0:=by
    exact T.2
   exact .finE [.r [(2,X (Xc4 [(0,80),(1,8)] (y2o ((atP d s ({data:=#[]}))) s c (by assumption) (by omega)) X0))]] [] (fun((z0,z1):(List EOp)×Int)=>(.tup [VL 19 eopT z0,VI z1],[])) _ _ (pr e5 e6)
end Go.Ch
end
section
set_option linter.unusedVariables false
set_option linter.unusedSimpArgs false
set_option maxRecDepth 100000
set_option maxHeartbeats 4000000
open Go Go.Proofs Go.Ab
namespace Go.Ch
theorem y7H(p:Pl)(s:Sel)(m:Int)(k:Int)(hb:PlB p):FC Tryz.prog 145 [VI k,.ptr 1 0,.ptr 2 0,.ptr 0 0] (app emp [(0,.box [VI p.node.id,VI p.node.kind,VL 2 attrT p.node.attrs,VL 3 elemT p.node.flow,VI p.node.grid.rows,VI p.node.grid.cols,VL 5 cellT p.node.grid.cells,VL 4 rectT p.node.grid.merges,VL 8 dopT p.node.draw,VL 1 intT p.shown,VS p.author]),(1,.box [VI s.nd,VI s.fr,VI s.tq]),(2,.box [VI m])]) (VB (parW p s m k)) (app emp [(0,.box [VI p.node.id,VI p.node.kind,VL 2 attrT p.node.attrs,VL 3 elemT p.node.flow,VI p.node.grid.rows,VI p.node.grid.cols,VL 5 cellT p.node.grid.cells,VL 4 rectT p.node.grid.merges,VL 8 dopT p.node.draw,VL 1 intT p.shown,VS p.author]),(1,.box [VI s.nd,VI s.fr,VI s.tq]),(2,.box [VI m])]):=by
 refine .go Tryz.f145 ?_
 have e1:((parW p s m k):Bool)=((decide (k≥s.fr)&&decide (k≤m))&&((((elemP p k)).char)==10)):=by
  rfl
 exact .finE [.r [],.r [(7,Xv 2 (decide (k≥s.fr)) X0),(8,X (Xk (decide (k≥s.fr)))),(11,Xv 1 (decide (k≥s.fr)&&decide (k≤m)) (Xc4 [(0,0)] (z2Q p k (by assumption)) X0)),(12,Xv 1 (decide (k≥s.fr)&&decide (k≤m)) X0),(13,Xv 1 (decide (k≥s.fr)&&decide (k≤m)) X0),(14,X (Xk (decide (k≥s.fr)&&decide (k≤m))))]] [(0,0),(1,1),(2,2)] (fun z0:Bool=>(VB z0,[(0,.box [VI p.node.id,VI p.node.kind,VL 2 attrT p.node.attrs,VL 3 elemT p.node.flow,VI p.node.grid.rows,VI p.node.grid.cols,VL 5 cellT p.node.grid.cells,VL 4 rectT p.node.grid.merges,VL 8 dopT p.node.draw,VL 1 intT p.shown,VS p.author]),(1,.box [VI s.nd,VI s.fr,VI s.tq]),(2,.box [VI m])])) _ _ e1
theorem y2p(p:Pl)(s:Sel)(m:Int)(c:List Attr)(hb:PlB p)(hc:c.length≤1048576):FC Tryz.prog 41 [.ptr 0 0,VL 2 attrT c,.fn 145 [.ptr 1 0,.ptr 2 0,.ptr 0 0]] (app emp [(0,.box [VI p.node.id,VI p.node.kind,VL 2 attrT p.node.attrs,VL 3 elemT p.node.flow,VI p.node.grid.rows,VI p.node.grid.cols,VL 5 cellT p.node.grid.cells,VL 4 rectT p.node.grid.merges,VL 8 dopT p.node.draw,VL 1 intT p.shown,VS p.author]),(1,.box [VI s.nd,VI s.fr,VI s.tq]),(2,.box [VI m])]) (VL 19 eopT [opF p.node.id (rstD c (rstF (parW p s m) p.shown p.node.flow.length p.shown.length) p.node.flow.length)]) (app emp [(0,.box [VI p.node.id,VI p.node.kind,VL 2 attrT p.node.attrs,VL 3 elemT p.node.flow,VI p.node.grid.rows,VI p.node.grid.cols,VL 5 cellT p.node.grid.cells,VL 4 rectT p.node.grid.merges,VL 8 dopT p.node.draw,VL 1 intT p.shown,VS p.author]),(1,.box [VI s.nd,VI s.fr,VI s.tq]),(2,.box [VI m])]):=by
 refine .go Tryz.f41 ?_
 refine .len 1 (fun hl1=> ?_)
 obtain⟨dn,el⟩:=y4b c (rstF (parW p s m) p.shown p.node.flow.length p.shown.length) p.node.flow.length hc
 have hbl:=hb.len
 have hbs:=hb.sl
 refine .loop (α:=Nat×(List Bool)) [.r [],.r [(5,X (Xl elemT p.node.flow)),(6,X (Xmk 1 boolT 59 (p.node.flow.length:Int) (p.node.flow.length:Int) false))],.r [(4,X (Xl intT p.shown))]] 123 (fun(k,f)=>([(0,.ptr 0 0),(1,VL 2 attrT c),(2,.fn 145 [.ptr 1 0,.ptr 2 0,.ptr 0 0]),(7,.row 59 p.node.flow.length),(25,VL 1 intT p.shown),(26,VI (p.shown.length:Int)),(27,VI (k:Int))],[(0,.box [VI p.node.id,VI p.node.kind,VL 2 attrT p.node.attrs,VL 3 elemT p.node.flow,VI p.node.grid.rows,VI p.node.grid.cols,VL 5 cellT p.node.grid.cells,VL 4 rectT p.node.grid.merges,VL 8 dopT p.node.draw,VL 1 intT p.shown,VS p.author]),(1,.box [VI s.nd,VI s.fr,VI s.tq]),(2,.box [VI m]),(59,OR 1 boolT f)])) (fun(k,f)=>k≤p.shown.length∧f=rstF (parW p s m) p.shown p.node.flow.length k) (fun(k,f)=>p.shown.length-k) (0,(List.replicate p.node.flow.length false)) ?_ ?_
 ·
  exact⟨by omega,rfl⟩
 rintro⟨k,f⟩ I3 ih3
 try dsimp only at I3
 have fl:f.length=p.node.flow.length:=by rw[I3.2,z5m]
 refine .bp [.r []] (decide ((k:Int)< (p.shown.length:Int))) (fun h3=> ?_) (fun h3=> ?_)
 ·
  have hpk:=hb.ok _ (z0g (l:=p.shown) (i:=k) (by omega))
  refine .back [.r [(1,X (Xi intT p.shown (k:Int)))],.r [(4,X (Xc4 [(0,0),(1,1),(2,2)] (y7H p s m (k:Int) (by assumption)) X0)),(5,X (Xpn p.node.flow.length boolT f (p.shown.getD k default))),(6,X (Xsn p.node.flow.length 1 boolT 59 f (Int.toNat (p.shown.getD k default)) (parW p s m (k:Int))))],.r [(0,X (Xn ((k:Int)+1)))]] [(0,0),(1,1),(2,2),(59,59)] (ih3 ((k+1),(f.set (Int.toNat (p.shown.getD k default)) (parW p s m (k:Int)))) ?_ ?_)
  ·
   exact⟨by omega,by rw[I3.2,z4g]⟩
  ·
   ((try dsimp only);omega)
 ·
  have hf2:f=(rstF (parW p s m) p.shown p.node.flow.length p.shown.length):=by rw[I3.2,show k=p.shown.length by omega]
  refine .loop (α:=Nat×(List DStep)) [.r [],.r [(5,X (Xl elemT p.node.flow))],.le (.nR 10 4)] 196 (fun(i,o)=>([(0,.ptr 0 0),(1,VL 2 attrT c),(7,.row 59 p.node.flow.length),(10,.row 195 o.length),(44,VI (p.node.flow.length:Int)),(45,VI (i:Int))],[(0,.box [VI p.node.id,VI p.node.kind,VL 2 attrT p.node.attrs,VL 3 elemT p.node.flow,VI p.node.grid.rows,VI p.node.grid.cols,VL 5 cellT p.node.grid.cells,VL 4 rectT p.node.grid.merges,VL 8 dopT p.node.draw,VL 1 intT p.shown,VS p.author]),(1,.box [VI s.nd,VI s.fr,VI s.tq]),(2,.box [VI m]),(59,OR 1 boolT f),(195,OR 4 z0c o)])) (fun(i,o)=>i≤p.node.flow.length∧o=rstS c f i) (fun(i,o)=>p.node.flow.length-i) (0,[]) ?_ ?_
  ·
   exact⟨by omega,rfl⟩
  rintro⟨i,o⟩ I9 ih9
  try dsimp only at I9
  have ol2:o.length=i:=by rw[I9.2];exact y1w c f i
  refine .bp [.r []] (decide ((i:Int)< (p.node.flow.length:Int))) (fun h9=> ?_) (fun h9=> ?_)
  ·
   refine .bp [.r [],.r [(0,X (Xf [(2,2),(3,3)]))],.r [(2,X (Xpn p.node.flow.length boolT f (i:Int))),(3,X (Xen p.node.flow.length boolT f i))]] (f.getD i default) (fun h12=> ?_) (fun h12=> ?_)
   ·
    refine .back [.r [],.r [(3,X (rowC z0c [({kind:=0,n:=1,attrs:=c,elems:=[]}:DStep)] (Xap 4 z0c 195 o [({kind:=0,n:=1,attrs:=c,elems:=[]}:DStep)])))],.r [(0,X (Xn ((i:Int)+1)))]] [(0,0),(1,1),(2,2),(59,59),(195,195)] (ih9 ((i+1),(o++[({kind:=0,n:=1,attrs:=c,elems:=[]}:DStep)])) ?_ ?_)
    ·
     exact⟨by omega,by rw[I9.2,z4h,y6y h12]⟩
    ·
     ((try dsimp only);omega)
   ·
    refine .back [.r [(3,X (rowC z0c [({kind:=0,n:=1,attrs:=[],elems:=[]}:DStep)] (Xap 4 z0c 195 o [({kind:=0,n:=1,attrs:=[],elems:=[]}:DStep)])))],.r [(0,X (Xn ((i:Int)+1)))]] [(0,0),(1,1),(2,2),(59,59),(195,195)] (ih9 ((i+1),(o++[({kind:=0,n:=1,attrs:=[],elems:=[]}:DStep)])) ?_ ?_)
    ·
     exact⟨by omega,by rw[I9.2,z4h,y6z h12]⟩
    ·
     ((try dsimp only);omega)
  ·
   have ho:o=rstS c (rstF (parW p s m) p.shown p.node.flow.length p.shown.length) p.node.flow.length:=by rw[I9.2,show i=p.node.flow.length by omega,hf2]
   rw[←ho] at dn el
   have e1:([opF p.node.id (rstD c (rstF (parW p s m) p.shown p.node.flow.length p.shown.length) p.node.flow.length)]:List EOp)=[({kind:=2,node:=p.node.id,nw:=({id:=0,kind:=0,attrs:=[],flow:=[],grid:=({rows:=0,cols:=0,cells:=[],merges:=[]}:Grid),draw:=[]}:Node),attrs:=[],steps:=(tidyL o),grid:=({rows:=[],cols:=[],cells:=[],split:=[],merge:=[]}:GEd),draw:=[]}:EOp)]:=by
    rw[ho];rfl
   exact .finE [.r [(1,X (Xc1 212 (z5n o (by assumption) (by omega) (by omega)) (rowC z0c o X0)))],.r [(6,X (Xf [(4,2),(5,3),(8,5),(9,4),(10,8),(11,2),(13,2),(14,2),(15,5),(16,4),(17,4),(18,8)]))],.le (.fr 6 [(1:Nat)=(List.map eopT [({kind:=2,node:=p.node.id,nw:=({id:=0,kind:=0,attrs:=[],flow:=[],grid:=({rows:=0,cols:=0,cells:=[],merges:=[]}:Grid),draw:=[]}:Node),attrs:=[],steps:=(tidyL o),grid:=({rows:=[],cols:=[],cells:=[],split:=[],merge:=[]}:GEd),draw:=[]}:EOp)]).length] ⟨lm,trivial⟩)] [(0,0),(1,1),(2,2)] (fun z0:List EOp=>(VL 19 eopT z0,[(0,.box [VI p.node.id,VI p.node.kind,VL 2 attrT p.node.attrs,VL 3 elemT p.node.flow,VI p.node.grid.rows,VI p.node.grid.cols,VL 5 cellT p.node.grid.cells,VL 4 rectT p.node.grid.merges,VL 8 dopT p.node.draw,VL 1 intT p.shown,VS p.author]),(1,.box [VI s.nd,VI s.fr,VI s.tq]),(2,.box [VI m])])) _ _ e1
theorem y2q(d:Doc)(s:Sel)(c:List Attr)(hb:DocL d)(hc:c.length≤1048576)(hx:atE d s {data:=#[]}=0→PlB (atP d s {data:=#[]})∧0≤s.fr∧s.fr≤s.tq∧s.tq≤1000000000):FC Tryz.prog 95 [.t (docT d),.t (selT s),VL 2 attrT c] (app emp []) (.tup [VL 19 eopT (parO d s c),VI (fmtE d s c)]) (app emp []):=by
 refine .go Tryz.f95 ?_
 refine .len 2 (fun hl2=> ?_)
 refine .bp [.r [],.r [(2,X (Xc1 48 (fc_at d s ({data:=#[]}) (by assumption)) X0))],.r []] ((atE d s ({data:=#[]})) !=0) (fun h2=> ?_) (fun h2=> ?_)
 ·
  have T:=par_1 (c:=c) h2
  have e1:((parO d s c):List EOp)=[]:=by
   exact T.1
  have e2:((fmtE d s c):Int)=(atE d s ({data:=#[]})):=by
   exact T.2
  exact .finE [.r [],.le (.nL 6 19)] [] (fun((z0,z1):(List EOp)×Int)=>(.tup [VL 19 eopT z0,VI z1],[])) _ _ (pr e1 e2)
 ·
  refine .bp [.r [(1,X (Xc0 (z04 c) X0))],.r []] ((chkA true c 0) !=0) (fun h5=> ?_) (fun h5=> ?_)
  ·
   have T:=par_2 h2 h5
   have e3:((parO d s c):List EOp)=[]:=by
    exact T.1
   have e4:((fmtE d s c):Int)=(chkA true c 0):=by
    exact T.2
   exact .finE [.r [],.le (.nL 6 19)] [] (fun((z0,z1):(List EOp)×Int)=>(.tup [VL 19 eopT z0,VI z1],[])) _ _ (pr e3 e4)
  ·
   obtain⟨hp,q1,q2,q3⟩:=hx h2
   have hps:=hp.sl
   refine .loop (α:=Int) [.r [(4,X (Xn (s.tq- 1))),(5,X (Xmax s.fr (s.tq- 1)))]] 224 (fun o208c0=>([(2,VL 2 attrT c),(4,.ptr 8 0),(8,.ptr 80 0),(11,.ptr 208 0)],[(8,.box [VI s.nd,VI s.fr,VI s.tq]),(80,.box [VI ((((atP d s ({data:=#[]}))).node).id),VI ((((atP d s ({data:=#[]}))).node).kind),VL 2 attrT ((((atP d s ({data:=#[]}))).node).attrs),VL 3 elemT ((((atP d s ({data:=#[]}))).node).flow),VI (((((atP d s ({data:=#[]}))).node).grid).rows),VI (((((atP d s ({data:=#[]}))).node).grid).cols),VL 5 cellT (((((atP d s ({data:=#[]}))).node).grid).cells),VL 4 rectT (((((atP d s ({data:=#[]}))).node).grid).merges),VL 8 dopT ((((atP d s ({data:=#[]}))).node).draw),VL 1 intT (((atP d s ({data:=#[]}))).shown),VS (((atP d s ({data:=#[]}))).author)]),(208,.box [VI o208c0])])) (fun o208c0=>endK (atP d s {data:=#[]}) (max s.fr (s.tq- 1)).toNat=endK (atP d s {data:=#[]}) o208c0.toNat∧0≤o208c0∧o208c0≤s.tq+(atP d s {data:=#[]}).shown.length) (fun o208c0=>(atP d s {data:=#[]}).shown.length-o208c0.toNat) ((max s.fr (s.tq- 1)):Int) ?_ ?_
   ·
    exact⟨rfl,by omega,by omega⟩
   rintro o208c0 I8 ih8
   try dsimp only at I8
   refine .bp [.r [(1,X (Xc4 [(0,80)] (z2Q ((atP d s ({data:=#[]}))) o208c0 (by assumption)) X0))]] ((((elemP ((atP d s ({data:=#[]}))) o208c0)).char) !=10) (fun h8=> ?_) (fun h8=> ?_)
   ·
    obtain⟨g1,g2⟩:=y5N I8.2.1 h8
    refine .back [.r [(1,X (Xn (o208c0+1)))]] [(8,8),(80,80),(208,208)] (ih8 ((o208c0+1):Int) ?_ ?_)
    ·
     exact⟨I8.1.trans g2,by omega,by omega⟩
    ·
     ((try dsimp only);omega)
   ·
    have g3:=y5O I8.2.1 h8
    have T:=par_3 h2 h5 (show((endK (atP d s {data:=#[]}) (max s.fr (s.tq- 1)).toNat:Nat):Int)=o208c0 by rw[I8.1,g3];omega)
    have e5:((parO d s c):List EOp)=[opF (((atP d s ({data:=#[]})))).node.id (rstD c (rstF (parW ((atP d s ({data:=#[]}))) s o208c0) (((atP d s ({data:=#[]})))).shown (((atP d s ({data:=#[]})))).node.flow.length (((atP d s ({data:=#[]})))).shown.length) (((atP d s ({data:=#[]})))).node.flow.length)]:=by
     exact T.1
    have e6:((fmtE d s c):Int)=0:=by
     exact T.2
    exact .finE [.r [(2,X (Xc4 [(0,80),(1,8),(2,208)] (y2p ((atP d s ({data:=#[]}))) s o208c0 c (by assumption) (by omega)) X0))]] [] (fun((z0,z1):(List EOp)×Int)=>(.tup [VL 19 eopT z0,VI z1],[])) _ _ (pr e5 e6)
end Go.Ch
end
section
set_option linter.unusedVariables false
set_option linter.unusedSimpArgs false
namespace Go.Ch
open Go Go.Ab
def ascE(s:ByteArray)(l:List Attr)(i:Nat):Elem:=⟨(byt s i:Int),0,l⟩
def ascL(s:ByteArray)(l:List Attr)(n:Nat):List Elem:=(List.range n).map (ascE s l)
theorem y4n(s:ByteArray)(l:List Attr)(n:Nat):ascL s l (n+1)=ascL s l n++[⟨(byt s n:Int),0,l⟩]:=by
 unfold ascL;rw[List.range_succ,List.map_append];rfl
theorem z7Q(s:ByteArray)(n:Nat):(s.extract n s.size).size=s.size-n:=by simp[ByteArray.size_extract]
theorem y7I{s:ByteArray}{n:Nat}(h:n<s.size):byt (s.extract n s.size) 0=byt s n:=by
 unfold byt
 have h1:0< (s.extract n s.size).size:=by rw[z7Q];omega
 rw[getElem?_pos s n h,getElem?_pos (s.extract n s.size) 0 h1]
 simp[ByteArray.getElem_extract]
theorem y7J{s:ByteArray}{n:Nat}:(s.extract n s.size).extract 1 (s.extract n s.size).size=s.extract (n+1) s.size:=by
 rw[z7Q]
 apply ByteArray.ext
 simp only[ByteArray.data_extract,Array.extract_extract]
 congr 1
 omega
theorem y7K(s:ByteArray):s.extract 0 s.size=s:=by simp
end Go.Ch
end
section
set_option linter.unusedVariables false
namespace Go.Ch
open Go Go.Ab
def AscN(s:ByteArray):Prop:=∀i,i<s.size→(32≤byt s i∧byt s i<127)∨byt s i=10
def ascC(s:ByteArray):List Int:=(List.range s.size).map fun i=>(byt s i:Int)
theorem y5S(s:ByteArray)(l:List Attr):ascL s l s.size=(ascC s).map (mkE l):=by
 unfold ascL ascC;rw[List.map_map];rfl
def ascK(s:ByteArray):Bool:=(List.range s.size).all fun i=>(decide (32≤byt s i)&&decide (byt s i<127))||byt s i==10
theorem z93{s:ByteArray}(h:ascK s=true):AscN s:=by
 intro i hi
 have:=List.all_eq_true.1 h i (List.mem_range.2 hi)
 simp only[Bool.or_eq_true,Bool.and_eq_true,decide_eq_true_eq,beq_iff_eq] at this
 exact this
theorem y4o:AscN {data:=#[]}:=z93 (by decide+kernel)
end Go.Ch
end
section
set_option linter.unusedVariables false
set_option linter.unusedSimpArgs false
namespace Go.Ch
open Go Go.Ab
def shwB(f:List Elem)(i:Nat):Bool:=
 (bif hasA (f.getD i default).attrs cutB then false else !(seq (getA (f.getD i default).attrs hidB 0) onB))|| (decide ((i:Int)=(f.length:Int)- 1)&&((f.getD i default).char==10))
def shwR(f:List Elem)(i:Nat):List Int:=((List.range i).filter (shwB f)).map fun i:Nat=>(i:Int)
theorem z4j(f:List Elem)(i:Nat):shwR f (i+1)=shwR f i++(if shwB f i=true then[(i:Int)] else[]):=by
 unfold shwR
 rw[List.range_succ,List.filter_append,List.map_append]
 congr 1
 by_cases h:shwB f i=true
 ·rw[if_pos h];simp[h]
 ·rw[if_neg h];simp at h;simp[h]
theorem z5o(f:List Elem)(i:Nat):(shwR f i).length≤i:=by
 unfold shwR;rw[List.length_map];exact Nat.le_trans (List.length_filter_le ..) (by simp)
def nodeF(d:Doc)(k:Int):Node:=if findD d.nodes k 0<0 then zeroN else d.nodes.getD (findD d.nodes k 0).toNat default
def nodeH(d:Doc)(k:Int):Bool:=decide (0≤findD d.nodes k 0)
theorem z94{d:Doc}{k:Int}{i:Nat}(h:findD d.nodes k 0=(i:Int)):nodeF d k=d.nodes.getD i default∧nodeH d k=true:=by
 unfold nodeF nodeH;rw[h,if_neg (by omega),decide_eq_true (by omega)];exact⟨rfl,rfl⟩
theorem y7L{d:Doc}{k:Int}(h:findD d.nodes k 0= -1):nodeF d k=zeroN∧nodeH d k=false:=by
 unfold nodeF nodeH;rw[h,if_pos (by omega),decide_eq_false (by omega)];exact⟨rfl,rfl⟩
def lastC(n:Node):Int:=if 0<n.draw.length then(n.draw.getD (n.draw.length- 1) default).clock else 0
def pickK(n:Node)(ks:List Int):List Int:=(ks.filter fun x=>n.kind==x).map fun _=>n.id
def pickL(l:List Node)(ks:List Int):List Int:=l.flatMap fun n=>pickK n ks
def pickP(d:Doc)(k:Int)(ks:List Int):Int:=if(pickL d.nodes ks).length=0 then 0 else(pickL d.nodes ks).getD (z0b k 0 (((pickL d.nodes ks).length:Int)- 1)).toNat default
theorem z9b(n:Node)(ks:List Int):(pickK n ks).length≤ks.length:=by
 unfold pickK;rw[List.length_map];exact List.length_filter_le ..
theorem y4p(l:List Node)(ks:List Int):(pickL l ks).length≤l.length*ks.length:=by
 induction l with
 |nil=>simp[pickL]
 |cons n l ih=>
  have:=z9b n ks
  have e:pickL (n::l) ks=pickK n ks++pickL l ks:=rfl
  rw[e,List.length_append,List.length_cons,Nat.add_mul,Nat.one_mul];omega
theorem z6W{n:Node}{ks:List Int}{j:Nat}(h:j<ks.length):pickK n (ks.take (j+1))=pickK n (ks.take j)++(if n.kind=ks.getD j default then[n.id] else[]):=by
 have e:ks.getD j default=ks[j]:=by rw[List.getD_eq_getElem?_getD,List.getElem?_eq_getElem h];rfl
 unfold pickK
 rw[List.take_succ_eq_append_getElem h,List.filter_append,List.map_append,e]
 congr 1
 by_cases q:n.kind=ks[j]
 ·rw[if_pos q];simp[q]
 ·rw[if_neg q];simp[q]
theorem y2r{l:List Node}{ks:List Int}{i:Nat}(h:i<l.length):pickL (l.take (i+1)) ks=pickL (l.take i) ks++pickK (l.getD i default) ks:=by
 have e:l.getD i default=l[i]:=by rw[List.getD_eq_getElem?_getD,List.getElem?_eq_getElem h];rfl
 unfold pickL
 rw[List.take_succ_eq_append_getElem h,List.flatMap_append,e];simp
def cmdI(d:Doc)(b:Int):Int:=pickP d (IntKind.i64.wrap (b.tdiv 7)) [1,3,4,12]
def cmdM(d:Doc)(b:Int):Int:=max 0 (((shwR (nodeF d (cmdI d b)).flow (nodeF d (cmdI d b)).flow.length).length:Int)- 1)
def cmdF(d:Doc)(b c:Int):Int:=z0b (IntKind.i64.wrap (c.tdiv 5)) 0 (cmdM d b)
def cmdT(d:Doc)(b c:Int):Int:=z0b (IntKind.i64.wrap (c.tdiv 11)) (cmdF d b c) (min (cmdM d b) (cmdF d b c+4))
abbrev txt5:List ByteArray:=[{data:=#[120]},{data:=#[121,122]},{data:=#[10]},{data:=#[119,32,118]},{data:=#[98]}]
theorem z5p{α:Type}[Inhabited α]{P:α→Prop}{l:List α}(h:∀x∈l,P x)(h0:P default)(k:Nat):P (l.getD k default):=by
 by_cases q:k<l.length
 ·exact h _ (z0g q)
 ·rw[List.getD_eq_getElem?_getD,List.getElem?_eq_none (by omega)];exact h0
theorem z4k(k:Nat):AscN (txt5.getD k default):=by
 refine z5p (P:=AscN) (fun t ht=>z93 ?_) (fun i hi=>absurd hi (Nat.not_lt_zero _)) k
 simp only[txt5,List.mem_cons,List.not_mem_nil,or_false] at ht
 rcases ht with rfl|rfl|rfl|rfl|rfl<;>decide+kernel
theorem z7R(k:Nat):(txt5.getD k default).size≤20000:=by
 refine z5p (P:=fun t:ByteArray=>t.size≤20000) (fun t ht=> ?_) (by decide) k
 simp only[txt5,List.mem_cons,List.not_mem_nil,or_false] at ht
 rcases ht with rfl|rfl|rfl|rfl|rfl<;>decide
theorem asc_t:AscN {data:=#[116]}:=z93 (by decide+kernel)
theorem y1C(k:Nat): -1000000≤([1,2,-1]:List Int).getD k default∧([1,2,-1]:List Int).getD k default≤2147483647:=by
 refine z5p (P:=fun x:Int=> -1000000≤x∧x≤2147483647) (fun t ht=> ?_) (by decide) k
 simp only[List.mem_cons,List.not_mem_nil,or_false] at ht
 rcases ht with rfl|rfl|rfl<;>decide
abbrev seqA:List Attr:=[{name:={data:=#[107,105,110,100]},val:={data:=#[115,101,113]}}]
theorem y4q:chkA false seqA 0=0:=by decide+kernel
theorem z9c{d:Doc}(h:DocL d)(k:Int):(nodeF d k).flow.length≤1048576:=by
 unfold nodeF;split
 ·simp[zeroN]
 ·by_cases q:(findD d.nodes k 0).toNat<d.nodes.length
  ·exact(h.all _ (z0g q)).fl2
  ·rw[List.getD_eq_getElem?_getD,List.getElem?_eq_none (by omega)];simp[default,instInhabitedNode]
theorem y4r{d:Doc}(h:DocL d)(k:Int):(nodeF d k).draw.length≤1048576:=by
 unfold nodeF;split
 ·simp[zeroN]
 ·by_cases q:(findD d.nodes k 0).toNat<d.nodes.length
  ·exact(h.all _ (z0g q)).dr1
  ·rw[List.getD_eq_getElem?_getD,List.getElem?_eq_none (by omega)];simp[default,instInhabitedNode]
theorem z95{d:Doc}(h:DocL d)(b:Int):0≤cmdM d b∧cmdM d b≤1048576:=by
 have h1:=z9c h (cmdI d b)
 have h2:=z5o (nodeF d (cmdI d b)).flow (nodeF d (cmdI d b)).flow.length
 unfold cmdM;omega
theorem y4s{d:Doc}(h:DocL d)(b c:Int):0≤cmdF d b c∧cmdF d b c≤cmdM d b:=z0n _ (z95 h b).1
abbrev cmdS(d:Doc)(b c:Int):Sel:={nd:=cmdI d b,fr:=cmdF d b c,tq:=cmdT d b c}
structure CmdB(d:Doc)(site b c:Int):Prop where
 ty:∀t au:ByteArray,AscN t→t.size≤20000→atE d (cmdS d b c) au=0→TypB d (cmdS d b c) (ascC t) au
 fm:atE d (cmdS d b c) {data:=#[]}=0→PlB (atP d (cmdS d b c) {data:=#[]})
 pa:atE d (cmdS d b c) {data:=#[]}=0→PlB (atP d (cmdS d b c) {data:=#[]})∧0≤cmdF d b c∧cmdF d b c≤cmdT d b c∧cmdT d b c≤1000000000
 ob:∀n:Node,atE d (cmdS d b c) {data:=#[]}=0→nextE d site=0→ObjB d (cmdS d b c) n site {data:=#[]}
 lc: -1≤lastC (nodeF d (pickP d b [10,8]))∧lastC (nodeF d (pickP d b [10,8]))≤1000000000000
def opA(k:Int)(l:List Attr):EOp:=⟨1,k,⟨0,0,[],[],⟨0,0,[],[]⟩,[]⟩,l,[],⟨[],[],[],[],[]⟩,[]⟩
def opD(k:Int)(l:List DOp):EOp:=⟨4,k,⟨0,0,[],[],⟨0,0,[],[]⟩,[]⟩,[],[],⟨[],[],[],[],[]⟩,l⟩
def cmdP(d:Doc)(site a b c:Int):List EOp:=
 if z0b a 0 13=0∨z0b a 0 13=1∨z0b a 0 13=2 then typeO d (cmdS d b c) (ascC (txt5.getD (Int.toNat (z0b b 0 4)) default)) {data:=#[]}
 else if z0b a 0 13=3 then typeO d (cmdS d b c) (ascC {data:=#[]}) {data:=#[]}
 else if z0b a 0 13=4 then typeO d (cmdS d b c) (ascC {data:=#[116]}) {data:=#[97,110,110]}
 else if z0b a 0 13=5 then fmtO d (cmdS d b c) [{name:=[{data:=#[98,111,108,100]},{data:=#[115,105,122,101]},{data:=#[109,97,114,107,46,109]}].getD (Int.toNat (z0b b 0 2)) default,val:=[{data:=#[]},{data:=#[111,110]},{data:=#[52,48]}].getD (Int.toNat (z0b (IntKind.i64.wrap (a.tdiv 14)) 0 2)) default}]
 else if z0b a 0 13=6 then parO d (cmdS d b c) [{name:=[{data:=#[104,101,97,100]},{data:=#[108,105,115,116]},{data:=#[97,108,105,103,110]}].getD (Int.toNat (z0b b 0 2)) default,val:=[{data:=#[49]},{data:=#[50]},{data:=#[]}].getD (Int.toNat (z0b (IntKind.i64.wrap (a.tdiv 14)) 0 2)) default}]
 else if z0b a 0 13=7 then objO d (cmdS d b c) (tblN (z0b b 1 3) (z0b (IntKind.i64.wrap (a.tdiv 14)) 1 3)) site {data:=#[]}
 else if z0b a 0 13=8 then objO d (cmdS d b c) (notN (b.tmod 2==0)) site {data:=#[]}
 else if z0b a 0 13=9 then objO d (cmdS d b c) (fldN seqA) site {data:=#[]}
 else if z0b a 0 13=10 then rshO d (pickP d b [2,6]) (z0b c 0 2) ([1,2,-1].getD (Int.toNat (z0b (IntKind.i64.wrap (a.tdiv 14)) 0 2)) default)
 else if z0b a 0 13=11 then cshO d (pickP d b [2,6]) (z0b c 0 2) ([1,2,-1].getD (Int.toNat (z0b (IntKind.i64.wrap (a.tdiv 14)) 0 2)) default)
 else if z0b a 0 13=12 then celO d (pickP d b [2]) (z0b c 0 2) (z0b (IntKind.i64.wrap (a.tdiv 14)) 0 2) site
 else if nodeH d (pickP d b [10,8])=true then
  [opD (nodeF d (pickP d b [10,8])).id [{clock:=1+lastC (nodeF d (pickP d b [10,8])),site:=site,kind:=0,itm:=z0b c 1 3,prt:=z0b (IntKind.i64.wrap (a.tdiv 14)) (-1) 3,plc:={data:=#[98]},nm:={data:=#[]},vl:={data:=#[]}}]]
 else[opA 1 [{name:={data:=#[116,105,116,108,101]},val:=[{data:=#[]},{data:=#[112]},{data:=#[113]}].getD (Int.toNat (z0b c 0 2)) default}]]
end Go.Ch
end
section
set_option linter.unusedVariables false
set_option linter.unusedSimpArgs false
set_option maxRecDepth 100000
set_option maxHeartbeats 4000000
open Go Go.Proofs Go.Ab
namespace Go.Ch
theorem z0y(x lo hi:Int)(hl: -1000000000000≤lo∧lo≤hi∧hi≤1000000000000):FC Tryz.prog 10 [VI x,VI lo,VI hi] (app emp []) (VI (z0b x lo hi)) (app emp []):=by
 refine .go Tryz.f10 ?_
 have e1:((z0b x lo hi):Int)=(lo+(((x.tmod ((hi-lo)+1))+((hi-lo)+1)).tmod ((hi-lo)+1))):=by
  rfl
 exact .finE [.r [],.r [(2,X (Xn (hi-lo))),(3,X (Xn ((hi-lo)+1)))],.r [(3,X (Xc ((((hi-lo)+1):Int)≠0))),(5,X (Xn ((x.tmod ((hi-lo)+1))+((hi-lo)+1))) (by have h1:=y3N x (n:=hi-lo+1) (by omega);omega)),(7,X (Xc ((((hi-lo)+1):Int)≠0))),(8,X (Xn (lo+(((x.tmod ((hi-lo)+1))+((hi-lo)+1)).tmod ((hi-lo)+1)))) (by have h1:=z0n x (lo:=lo) (hi:=hi) (by omega);unfold z0b at h1;omega))]] [] (fun z0:Int=>(VI z0,[])) _ _ e1
theorem z96(l:List Attr)(n:ByteArray):FC Tryz.prog 18 [VL 2 attrT l,VS n] (app emp []) (VS (getA l n 0)) (app emp []):=by
 refine .go Tryz.f18 ?_
 refine .len 0 (fun hl0=> ?_)
 refine .loop (α:=Nat) [.r [],.r [(1,X (Xl attrT l))]] 32 (fun i=>([(0,VL 2 attrT l),(1,VS n),(7,VI (l.length:Int)),(8,VI (i:Int))],[])) (fun i=>i≤l.length∧getA l n 0=getA l n i) (fun i=>l.length-i) (0:Nat) ?_ ?_
 ·
  exact⟨by omega,rfl⟩
 rintro i I2 ih2
 try dsimp only at I2
 refine .bp [.r []] (decide ((i:Int)< (l.length:Int))) (fun h2=> ?_) (fun h2=> ?_)
 ·
  refine .bp [.r [],.r [(2,X (Xi attrT l (i:Int)))]] (seq (((l.getD i default)).name) n) (fun h4=> ?_) (fun h4=> ?_)
  ·
   have e1:((getA l n 0):ByteArray)=((l.getD i default)).val:=by
    rw[I2.2,getA,if_pos (by omega),if_pos (z0x.1 h4)]
   exact .finE [.r [(2,X (Xi attrT l (i:Int)))]] [] (fun z0:ByteArray=>(VS z0,[])) _ _ e1
  ·
   refine .back [.r [(0,X (Xn ((i:Int)+1)))]] [] (ih2 ((i+1):Nat) ?_ ?_)
   ·
    refine⟨by omega,?_⟩;rw[I2.2,getA,if_pos (by omega),if_neg (z05.1 h4)]
   ·
    ((try dsimp only);omega)
 ·
  have e2:((getA l n 0):ByteArray)={data:=#[]}:=by
   rw[I2.2,getA,if_neg (by omega)]
  exact .finE [.r []] [] (fun z0:ByteArray=>(VS z0,[])) _ _ e2
theorem y6E(l:List Attr)(n:ByteArray):FC Tryz.prog 39 [VL 2 attrT l,VS n] (app emp []) (VB (hasA l n)) (app emp []):=by
 refine .go Tryz.f39 ?_
 refine .len 0 (fun hl0=> ?_)
 refine .loop (α:=Nat) [.r [],.r [(1,X (Xl attrT l))]] 32 (fun i=>([(0,VL 2 attrT l),(1,VS n),(7,VI (l.length:Int)),(8,VI (i:Int))],[])) (fun i=>i≤l.length∧hasA l n=hasA (l.drop i) n) (fun i=>l.length-i) (0:Nat) ?_ ?_
 ·
  exact⟨by omega,rfl⟩
 rintro i I2 ih2
 try dsimp only at I2
 refine .bp [.r []] (decide ((i:Int)< (l.length:Int))) (fun h2=> ?_) (fun h2=> ?_)
 ·
  have hs:=y7t (l:=l) (i:=i) (by omega) n
  refine .bp [.r [],.r [(2,X (Xi attrT l (i:Int)))]] (seq (((l.getD i default)).name) n) (fun h4=> ?_) (fun h4=> ?_)
  ·
   have e1:((hasA l n):Bool)=true:=by
    first| (rw[I2.2,hs,h4,Bool.true_or])| (rw[I2.2,List.drop_eq_nil_of_le (by omega)];rfl)
   exact .finE [.r []] [] (fun z0:Bool=>(VB z0,[])) _ _ e1
  ·
   refine .back [.r [(0,X (Xn ((i:Int)+1)))]] [] (ih2 ((i+1):Nat) ?_ ?_)
   ·
    refine⟨by omega,?_⟩
    rw[I2.2,hs,h4,Bool.false_or]
   ·
    ((try dsimp only);omega)
 ·
  have e2:((hasA l n):Bool)=false:=by
   first| (rw[I2.2,hs,h4,Bool.true_or])| (rw[I2.2,List.drop_eq_nil_of_le (by omega)];rfl)
  exact .finE [.r []] [] (fun z0:Bool=>(VB z0,[])) _ _ e2
theorem z9d(f:List Elem)(hn:f.length≤1048576):FC Tryz.prog 15 [VL 3 elemT f,VI 0] (app emp []) (VL 1 intT (shwR f f.length)) (app emp []):=by
 refine .go Tryz.f15 ?_
 refine .len 0 (fun hl0=> ?_)
 refine .loop (α:=Nat×(List Int)) [.r [],.r [],.r [(1,X (Xl elemT f))],.le (.nR 5 1)] 41 (fun(i,o)=>([(0,VL 3 elemT f),(1,VI 0),(5,.row 40 o.length),(10,VI (f.length:Int)),(11,VI (i:Int))],[(40,OR 1 intT o)])) (fun(i,o)=>i≤f.length∧o=shwR f i) (fun(i,o)=>f.length-i) (0,[]) ?_ ?_
 ·
  exact⟨by omega,rfl⟩
 rintro⟨i,o⟩ I3 ih3
 try dsimp only at I3
 have ol:o.length≤i:=by rw[I3.2];exact z5o f i
 refine .bp [.r []] (decide ((i:Int)< (f.length:Int))) (fun h3=> ?_) (fun h3=> ?_)
 ·
  refine .bp [.r [],.r [(2,X (Xi elemT f (i:Int)))],.r [(1,X (Xc0 (z96 (((f.getD i default)).attrs) ({data:=#[104,105,100,100,101,110]})) X0))],.r [(4,Xv 1 true (Xc0 (y6E (((f.getD i default)).attrs) ({data:=#[99,117,116]})) X0)),(5,X (Xk true)),(8,Xv 1 (!(true&&(hasA (((f.getD i default)).attrs) ({data:=#[99,117,116]})))) X0),(9,Xv 1 (!(true&&(hasA (((f.getD i default)).attrs) ({data:=#[99,117,116]})))) X0),(11,Xv 1 ((!(true&&(hasA (((f.getD i default)).attrs) ({data:=#[99,117,116]}))))&&false) (Xc0 (y6E (((f.getD i default)).attrs) ({data:=#[97,100,100]})) X0)),(12,Xka (!(true&&(hasA (((f.getD i default)).attrs) ({data:=#[99,117,116]})))) false),(13,X (Xk' (true&&(hasA (((f.getD i default)).attrs) ({data:=#[99,117,116]})))))]] ((true&&(hasA (((f.getD i default)).attrs) ({data:=#[99,117,116]})))|| (false&&(hasA (((f.getD i default)).attrs) ({data:=#[97,100,100]})))) (fun h7=> ?_) (fun h7=> ?_)
  ·
   refine .bp [.r [],.r [(4,Xv 1 (!false) (Xl elemT f)),(5,Xv 1 (!false) (Xn ((f.length:Int)- 1))),(6,Xv 2 (!false) X0),(7,Xv 1 (!false) X0),(10,Xv 2 ((!false)&&((i:Int)==((f.length:Int)- 1))) (Xi elemT f (i:Int))),(11,Xv 1 ((!false)&&((i:Int)==((f.length:Int)- 1))) X0),(12,Xv 1 ((!false)&&((i:Int)==((f.length:Int)- 1))) X0),(13,Xv 1 ((!false)&&((i:Int)==((f.length:Int)- 1))) X0),(14,Xka (!false) ((i:Int)==((f.length:Int)- 1))),(15,X (Xk' false))]] (false|| (((i:Int)==((f.length:Int)- 1))&&((((f.getD i default)).char)==10))) (fun h9=> ?_) (fun h9=> ?_)
   ·
    refine .back [.r [(3,X (rowC intT [(i:Int)] (Xap 1 intT 40 o [(i:Int)])))],.r [(0,X (Xn ((i:Int)+1)))]] [(40,40)] (ih3 ((i+1),(o++[(i:Int)])) ?_ ?_)
    ·
     refine⟨by omega,?_⟩
     rw[I3.2,z4j]
     simp[-List.getD_eq_getElem?_getD] at h7 h9
     unfold shwB cutB hidB onB
     simp_all[-List.getD_eq_getElem?_getD]
     all_goals omega
    ·
     ((try dsimp only);omega)
   ·
    refine .back [.r [(0,X (Xn ((i:Int)+1)))]] [(40,40)] (ih3 ((i+1),o) ?_ ?_)
    ·
     refine⟨by omega,?_⟩
     rw[I3.2,z4j]
     simp[-List.getD_eq_getElem?_getD] at h7 h9
     unfold shwB cutB hidB onB
     simp_all[-List.getD_eq_getElem?_getD]
     all_goals omega
    ·
     ((try dsimp only);omega)
  ·
   refine .bp [.r [(4,Xv 1 (!(!(seq (getA (((f.getD i default)).attrs) ({data:=#[104,105,100,100,101,110]}) 0) ({data:=#[111,110]})))) (Xl elemT f)),(5,Xv 1 (!(!(seq (getA (((f.getD i default)).attrs) ({data:=#[104,105,100,100,101,110]}) 0) ({data:=#[111,110]})))) (Xn ((f.length:Int)- 1))),(6,Xv 2 (!(!(seq (getA (((f.getD i default)).attrs) ({data:=#[104,105,100,100,101,110]}) 0) ({data:=#[111,110]})))) X0),(7,Xv 1 (!(!(seq (getA (((f.getD i default)).attrs) ({data:=#[104,105,100,100,101,110]}) 0) ({data:=#[111,110]})))) X0),(10,Xv 2 ((!(!(seq (getA (((f.getD i default)).attrs) ({data:=#[104,105,100,100,101,110]}) 0) ({data:=#[111,110]}))))&&((i:Int)==((f.length:Int)- 1))) (Xi elemT f (i:Int))),(11,Xv 1 ((!(!(seq (getA (((f.getD i default)).attrs) ({data:=#[104,105,100,100,101,110]}) 0) ({data:=#[111,110]}))))&&((i:Int)==((f.length:Int)- 1))) X0),(12,Xv 1 ((!(!(seq (getA (((f.getD i default)).attrs) ({data:=#[104,105,100,100,101,110]}) 0) ({data:=#[111,110]}))))&&((i:Int)==((f.length:Int)- 1))) X0),(13,Xv 1 ((!(!(seq (getA (((f.getD i default)).attrs) ({data:=#[104,105,100,100,101,110]}) 0) ({data:=#[111,110]}))))&&((i:Int)==((f.length:Int)- 1))) X0),(14,Xka (!(!(seq (getA (((f.getD i default)).attrs) ({data:=#[104,105,100,100,101,110]}) 0) ({data:=#[111,110]})))) ((i:Int)==((f.length:Int)- 1))),(15,X (Xk' (!(seq (getA (((f.getD i default)).attrs) ({data:=#[104,105,100,100,101,110]}) 0) ({data:=#[111,110]})))))]] (!(seq (getA (((f.getD i default)).attrs) ({data:=#[104,105,100,100,101,110]}) 0) ({data:=#[111,110]}))|| (((i:Int)==((f.length:Int)- 1))&&((((f.getD i default)).char)==10))) (fun h9=> ?_) (fun h9=> ?_)
   ·
    refine .back [.r [(3,X (rowC intT [(i:Int)] (Xap 1 intT 40 o [(i:Int)])))],.r [(0,X (Xn ((i:Int)+1)))]] [(40,40)] (ih3 ((i+1),(o++[(i:Int)])) ?_ ?_)
    ·
     refine⟨by omega,?_⟩
     rw[I3.2,z4j]
     simp[-List.getD_eq_getElem?_getD] at h7 h9
     unfold shwB cutB hidB onB
     simp_all[-List.getD_eq_getElem?_getD]
     all_goals omega
    ·
     ((try dsimp only);omega)
   ·
    refine .back [.r [(0,X (Xn ((i:Int)+1)))]] [(40,40)] (ih3 ((i+1),o) ?_ ?_)
    ·
     refine⟨by omega,?_⟩
     rw[I3.2,z4j]
     simp[-List.getD_eq_getElem?_getD] at h7 h9
     unfold shwB cutB hidB onB
     simp_all[-List.getD_eq_getElem?_getD]
     all_goals omega
    ·
     ((try dsimp only);omega)
 ·
  have e1:((shwR f f.length):List Int)=o:=by
   rw[I3.2,show i=f.length by omega]
  exact .finE [.r [],.le (.fr 4 [(o.length:Nat)=(List.map intT o).length] ⟨lm,trivial⟩)] [] (fun z0:List Int=>(VL 1 intT z0,[])) _ _ e1
theorem z97(d:Doc)(k:Int)(hb:DocL d):FC Tryz.prog 8 [.t (docT d),VI k] (app emp []) (.tup [.t (nodeT (nodeF d k)),VB (nodeH d k)]) (app emp []):=by
 refine .go Tryz.f8 ?_
 have hl:=hb.len
 refine .loop (α:=Nat) [.r [],.r [(2,X (Xl nodeT d.nodes))]] 56 (fun i=>([(1,VI k),(4,.ptr 8 0),(9,VL 9 nodeT d.nodes),(10,VI (d.nodes.length:Int)),(11,VI (i:Int))],[(8,.box [VI 0,VI 0,VN,VN,VI 0,VI 0,VN,VN,VN])])) (fun i=>i≤d.nodes.length∧findD d.nodes k 0=findD d.nodes k i) (fun i=>d.nodes.length-i) (0:Nat) ?_ ?_
 ·
  exact⟨by omega,rfl⟩
 rintro i I2 ih2
 try dsimp only at I2
 refine .bp [.r []] (decide ((i:Int)< (d.nodes.length:Int))) (fun h2=> ?_) (fun h2=> ?_)
 ·
  have hx:=hb.all _ (z2z (l:=d.nodes) (i:=i) (by omega))
  refine .bp [.r [(0,X (Xi nodeT d.nodes (i:Int)))],.r []] ((((d.nodes.getD i default)).id)==k) (fun h4=> ?_) (fun h4=> ?_)
  ·
   have T:=z94 (I2.2.trans (by rw[findD,if_pos (by omega),if_pos (by omega)]))
   have e1:((nodeF d k):Node)=(((d.nodes.getD i default))):=by
    exact T.1
   have e2:((nodeH d k):Bool)=true:=by
    exact T.2
   exact .finVE [.r [(1,X (Xc1 136 (z7M ((d.nodes.getD i default)) (by assumption)) X0))]] [] [] (fun((z0,z1):Node×Bool)=>(.tup [.t (nodeT z0),VB z1],[])) _ _ (pr e1 e2)
  ·
   refine .back [.r [(0,X (Xn ((i:Int)+1)))]] [(8,8)] (ih2 ((i+1):Nat) ?_ ?_)
   ·
    exact⟨by omega,by rw[I2.2,findD,if_pos (by omega),if_neg (by omega)]⟩
   ·
    ((try dsimp only);omega)
 ·
  have T:=y7L (I2.2.trans (by rw[findD,if_neg (by omega)]))
  have e3:((nodeF d k):Node)=({id:=0,kind:=0,attrs:=[],flow:=[],grid:=({rows:=0,cols:=0,cells:=[],merges:=[]}:Grid),draw:=[]}:Node):=by
   exact T.1
  have e4:((nodeH d k):Bool)=false:=by
   exact T.2
  exact .finVE [.r [(0,X (Xf [(2,2),(3,3),(6,5),(7,4),(8,8)]))]] [] [] (fun((z0,z1):Node×Bool)=>(.tup [.t (nodeT z0),VB z1],[])) _ _ (pr e3 e4)
theorem y5T(n:Node)(hn:n.draw.length≤1048576):FC Tryz.prog 102 [.t (nodeT n)] (app emp []) (VI (lastC n)) (app emp []):=by
 refine .go Tryz.f102 ?_
 refine .bp [.r [],.r [(2,X (Xl dopT n.draw))],.r []] (decide ((n.draw.length:Int)> 0)) (fun h2=> ?_) (fun h2=> ?_)
 ·
  have e1:((lastC n):Int)=((n.draw.getD (n.draw.length- 1) default)).clock:=by
   unfold lastC;rw[if_pos (by omega)]
  exact .finE [.r [(3,X (Xn ((n.draw.length:Int)- 1))),(4,X (Xi' dopT n.draw ((n.draw.length:Int)- 1) (n.draw.length- 1)))]] [] (fun z0:Int=>(VI z0,[])) _ _ e1
 ·
  have e2:((lastC n):Int)=0:=by
   unfold lastC;rw[if_neg (by omega)]
  exact .finE [.r []] [] (fun z0:Int=>(VI z0,[])) _ _ e2
theorem z6d(d:Doc)(k:Int)(ks:List Int)(hd:d.nodes.length≤1048576)(hk:ks.length≤16):FC Tryz.prog 93 [.t (docT d),VI k,VL 1 intT ks] (app emp []) (VI (pickP d k ks)) (app emp []):=by
 refine .go Tryz.f93 ?_
 refine .len 2 (fun hl2=> ?_)
 refine .loop (α:=Nat×(List Int)) [.r [],.r [],.r [(2,X (Xl nodeT d.nodes))],.le (.nR 7 1)] 57 (fun(i,o)=>([(1,VI k),(2,VL 1 intT ks),(7,.row 56 o.length),(13,VL 9 nodeT d.nodes),(14,VI (d.nodes.length:Int)),(15,VI (i:Int))],[(56,OR 1 intT o)])) (fun(i,o)=>i≤d.nodes.length∧o=pickL (d.nodes.take i) ks) (fun(i,o)=>d.nodes.length-i) (0,[]) ?_ ?_
 ·
  exact⟨by omega,rfl⟩
 rintro⟨i,o⟩ I3 ih3
 try dsimp only at I3
 have ol:=y4p (d.nodes.take i) ks
 rw[←I3.2] at ol
 have ob:o.length≤1048576*16:=Nat.le_trans ol (Nat.mul_le_mul (by(rw[List.length_take];omega)) hk)
 refine .bp [.r []] (decide ((i:Int)< (d.nodes.length:Int))) (fun h3=> ?_) (fun h3=> ?_)
 ·
  refine .loop (α:=Nat×(List Int)) [.r [(0,X (Xi nodeT d.nodes (i:Int)))],.r [(1,X (Xl intT ks))]] 121 (fun(j,q)=>([(1,VI k),(2,VL 1 intT ks),(7,.row 56 q.length),(9,.ptr 81 0),(13,VL 9 nodeT d.nodes),(14,VI (d.nodes.length:Int)),(15,VI (i:Int)),(19,VL 1 intT ks),(20,VI (ks.length:Int)),(21,VI (j:Int))],[(56,OR 1 intT q),(81,.box [VI (((d.nodes.getD i default)).id),VI (((d.nodes.getD i default)).kind),VL 2 attrT (((d.nodes.getD i default)).attrs),VL 3 elemT (((d.nodes.getD i default)).flow),VI ((((d.nodes.getD i default)).grid).rows),VI ((((d.nodes.getD i default)).grid).cols),VL 5 cellT ((((d.nodes.getD i default)).grid).cells),VL 4 rectT ((((d.nodes.getD i default)).grid).merges),VL 8 dopT (((d.nodes.getD i default)).draw)])])) (fun(j,q)=>j≤ks.length∧q=pickL (d.nodes.take i) ks++pickK (d.nodes.getD i default) (ks.take j)) (fun(j,q)=>ks.length-j) (0,o) ?_ ?_
  ·
   exact⟨by omega,by rw[I3.2];simp[pickK]⟩
  rintro⟨j,q⟩ I6 ih6
  try dsimp only at I6
  have ql:=z9b (d.nodes.getD i default) (ks.take j)
  have qo:=congrArg List.length I6.2
  rw[List.length_append,←I3.2] at qo
  rw[List.length_take] at ql
  refine .bp [.r []] (decide ((j:Int)< (ks.length:Int))) (fun h6=> ?_) (fun h6=> ?_)
  ·
   refine .bp [.r [(0,X (Xi intT ks (j:Int)))],.r []] ((((d.nodes.getD i default)).kind)==(ks.getD j default)) (fun h8=> ?_) (fun h8=> ?_)
   ·
    refine .back [.r [(4,X (rowC intT [((d.nodes.getD i default)).id] (Xap 1 intT 56 q [((d.nodes.getD i default)).id])))],.r [(0,X (Xn ((j:Int)+1)))]] [(56,56),(81,81)] (ih6 ((j+1),(q++[((d.nodes.getD i default)).id])) ?_ ?_)
    ·
     refine⟨by omega,?_⟩
     rw[I6.2,z6W (by omega)]
     first|rw[if_pos h8,List.append_assoc]|rw[if_neg h8,List.append_nil]
    ·
     ((try dsimp only);omega)
   ·
    refine .back [.r [(0,X (Xn ((j:Int)+1)))]] [(56,56),(81,81)] (ih6 ((j+1),q) ?_ ?_)
    ·
     refine⟨by omega,?_⟩
     rw[I6.2,z6W (by omega)]
     first|rw[if_pos h8,List.append_assoc]|rw[if_neg h8,List.append_nil]
    ·
     ((try dsimp only);omega)
  ·
   refine .back [.r [(0,X (Xn ((i:Int)+1)))]] [(56,56)] (ih3 ((i+1),q) ?_ ?_)
   ·
    refine⟨by omega,?_⟩
    rw[I6.2,show ks.take j=ks from List.take_of_length_le (by omega),y2r (by omega)]
   ·
    ((try dsimp only);omega)
 ·
  have ho:o=pickL d.nodes ks:=by rw[I3.2,List.take_of_length_le (by omega)]
  refine .bp [.r []] ((o.length:Int)==0) (fun h12=> ?_) (fun h12=> ?_)
  ·
   have e1:((pickP d k ks):Int)=0:=by
    unfold pickP;rw[←ho,if_pos (by omega)]
   exact .finE [.r []] [] (fun z0:Int=>(VI z0,[])) _ _ e1
  ·
   have hw:=z0n k (lo:=0) (hi:=(o.length:Int)- 1) (by omega)
   have e2:((pickP d k ks):Int)=(o.getD (Int.toNat (z0b k 0 ((o.length:Int)- 1))) default):=by
    unfold pickP;rw[←ho,if_neg (by omega)]
   exact .finE [.r [(4,X (Xn ((o.length:Int)- 1))),(5,X (Xc0 (z0y k 0 ((o.length:Int)- 1) (by omega)) X0)),(6,X (Xp intT o (z0b k 0 ((o.length:Int)- 1)))),(7,X (Xe intT o (Int.toNat (z0b k 0 ((o.length:Int)- 1)))))]] [] (fun z0:Int=>(VI z0,[])) _ _ e2
end Go.Ch
end
section
set_option linter.unusedVariables false
set_option linter.unusedSimpArgs false
set_option maxRecDepth 100000
set_option maxHeartbeats 4000000
open Go Go.Proofs Go.Ab
namespace Go.Ch
theorem y4t(s:ByteArray)(h:0<s.size∧byt s 0<128):FC Tryz.prog 27 [VS s] (app emp []) (.tup [.t (.sc (.int .i32 (byt s 0:Int))),VI 1]) (app emp []):=by
 refine .go Tryz.f27 ?_
 have hz:seq s {data:=#[]}=false:=by rw[z2T,decide_eq_false (by omega)]
 have h2:=h.2
 unfold byt at h2
 refine .bp [.r [],.r [(4,Xv 1 (!(seq s ({data:=#[]}))) (Xb s 0)),(5,Xv 1 (!(seq s ({data:=#[]}))) X0),(6,X (Xk (!(seq s ({data:=#[]})))))]] (!(seq s ({data:=#[]}))&&decide (((((s[0]?).getD 0).toNat:Nat):Int)< 128)) (fun h1=> ?_) (fun h1=> ?_)
 ·
  have e1:((byt s 0:Int):Int)=((((s[0]?).getD 0).toNat:Nat):Int):=by
   rfl
  exact .finE [.r [(1,X (Xb s 0)),(2,X (Xcv IntKind.i32 ((((s[0]?).getD 0).toNat:Nat):Int)) (z7v (by omega)))]] [] (fun z0:Int=>(.tup [.t (.sc (.int .i32 z0)),VI 1],[])) _ _ e1
 ·
  exfalso
  rcases h1 with q|q;(rw[hz] at q;cases q);omega
theorem y4u(s:ByteArray)(l:List Attr)(hs:AscN s)(hl:chkA false l 0=0)(hn:s.size≤1000000000)(hk:l.length≤1000000000):FC Tryz.prog 30 [VS s,VL 2 attrT l] (app emp []) (.tup [.row 0 ((ascL s l s.size).length),VI 0]) (app emp [(0,OR 3 elemT (ascL s l s.size))]):=by
 refine .go Tryz.f30 ?_
 refine .len 1 (fun hl1=> ?_)
 refine .bp [.r [],.r [(1,X (Xc0 (z2x l) X0))],.r []] ((chkA false l 0) !=0) (fun h2=> ?_) (fun h2=> ?_)
 ·
  exfalso
  omega
 ·
  refine .loop (α:=ByteArray×(List Elem)) [.r [],.le (.nR 7 3)] 65 (fun(u,o)=>([(0,VS u),(1,VL 2 attrT l),(7,.row 64 o.length)],[(64,OR 3 elemT o)])) (fun(u,o)=>o.length≤s.size∧u=s.extract o.length s.size∧o=ascL s l o.length) (fun(u,o)=>s.size-o.length) (s,[]) ?_ ?_
  ·
   exact⟨by simp,(y7K s).symm,rfl⟩
  rintro⟨u,o⟩ I5 ih5
  try dsimp only at I5
  have us:u.size=s.size-o.length:=by rw[I5.2.1,z7Q]
  refine .bp [.r []] (!(seq u ({data:=#[]}))) (fun h5=> ?_) (fun h5=> ?_)
  ·
   rw[z2T,decide_eq_false_iff_not] at h5
   have hb:=hs o.length (by omega)
   have hu:byt u 0=byt s o.length:=by rw[I5.2.1,y7I (by omega)]
   have h0:0<u.size∧byt u 0<128:=⟨by omega,by omega⟩
   refine .bp [.r [(1,X (Xc0 (y4t u (by assumption)) X0))],.r [(4,Xv 1 ((byt u 0:Int)==65533) X0),(5,X (Xk ((byt u 0:Int)==65533)))]] (((byt u 0:Int)==65533)||false) (fun h7=> ?_) (fun h7=> ?_)
   ·
    exfalso
    rcases h7 with q|q
    ·omega
    ·cases q
   ·
    refine .bp [.r [(1,X (Xn (byt u 0:Int))),(2,X (Xc0 (y3s (byt u 0:Int)) X0))]] (!(decide (CharP (byt u 0:Int)))) (fun h9=> ?_) (fun h9=> ?_)
    ·
     exfalso
     unfold CharP at h9;omega
    ·
     refine .back [.r [(2,X (Xn (byt u 0:Int))),(4,X (Xan attrT 249 l)),(6,X (rowC attrT l X0)),(7,X (rowC elemT [({char:=(byt u 0:Int),ref:=0,attrs:=l}:Elem)] (Xap 3 elemT 64 o [({char:=(byt u 0:Int),ref:=0,attrs:=l}:Elem)])))],.r [(2,X (Xa (Xc ((0:Int)≤1)) (Xa (Xc ((1:Int)≤(u.size:Int))) (Xc (((u.size:Int):Int)≤(u.size:Int))))))]] [(64,64)] (ih5 ((u.extract ((1:Int)).toNat (((u.size:Int):Int)).toNat),(o++[({char:=(byt u 0:Int),ref:=0,attrs:=l}:Elem)])) ?_ ?_)
     ·
      simp only[List.length_append,List.length_cons,List.length_nil]
      refine⟨by omega,?_,?_⟩
      ·show u.extract 1 u.size=_
       rw[I5.2.1];exact y7J
      ·rw[Nat.zero_add,y4n,←I5.2.2,hu]
     ·
      simp only[List.length_append,List.length_cons,List.length_nil];omega
  ·
   rw[z2T,decide_eq_true_eq] at h5
   have hfin:ascL s l s.size=o:=by rw[show s.size=o.length by omega];exact I5.2.2.symm
   have e1:((ascL s l s.size):List Elem)=o:=by
    rw[hfin]
   have e2:((ascL s l s.size).length:Nat)=o.length:=by
    rw[hfin]
   exact .finE [.r []] [(64,0)] (fun((z0,z1):(List Elem)×Nat)=>(.tup [.row 0 z1,VI 0],[(0,OR 3 elemT z0)])) _ _ (pr e1 e2)
theorem ofAsc(t:ByteArray)(h:AscN t)(hn:t.size≤1000000):OfFC t (ascC t):=fun l h1 h2=>by
 have h:=y4u t l h h1 (by omega) (by omega)
 rw[y5S] at h
 exact h
end Go.Ch
end
section
set_option linter.unusedVariables false
set_option linter.unusedSimpArgs false
set_option maxRecDepth 100000
set_option maxHeartbeats 4000000
open Go Go.Proofs Go.Ab
namespace Go.Ch
theorem y5U(d:Doc)(s:Sel)(au:ByteArray)(hb:DocL d)(hx:atE d s au=0→TypB d s (ascC {data:=#[]}) au):FC Tryz.prog 94 [.t (docT d),.t (selT s),VS au] (app emp []) (.tup [VL 19 eopT (typeO d s (ascC {data:=#[]}) au),.t (selT (typeS d s (ascC {data:=#[]}) au)),VI (atE d s au)]) (app emp []):=by
 refine .go Tryz.f94 ?_
 have hof:=ofAsc {data:=#[]} y4o (by decide)
 have ht:({data:=#[]}:ByteArray).size≤20000:=by decide
 have e1:((typeS d s (ascC {data:=#[]}) au):Sel)=((typeS d s (ascC {data:=#[]}) au)):=by
  (first|omega|with_reducible exact fun h=>h| (intro hq;rw[hq];done)| (intro hq;rw[hq];rfl)| (simp only[List.length_map];done)| (simp only[List.length_map];omega)| (simp;omega)| (simp;done))
 exact .finVE [.r [],.r [(3,X (Xc1 64 (y4k d s ({data:=#[]}) (ascC {data:=#[]}) au (by assumption) (by assumption) (by assumption) (by assumption)) X0))]] [] [] (fun z0:Sel=>(.tup [VL 19 eopT (typeO d s (ascC {data:=#[]}) au),.t (selT z0),VI (atE d s au)],[])) _ _ e1
theorem z4l(d:Doc)(s:Sel)(t au:ByteArray)(hb:DocL d)(ht:AscN t)(hn:t.size≤20000)(hx:atE d s au=0→TypB d s (ascC t) au):FC Tryz.prog 12 [.t (docT d),.t (selT s),VS t,VS au] (app emp []) (.tup [VL 19 eopT (typeO d s (ascC t) au),.t (selT (typeS d s (ascC t) au)),VI (atE d s au)]) (app emp []):=
 y4k d s t (ascC t) au (ofAsc t ht (by omega)) hb hn hx
theorem y2s(d:Doc)(site a b c:Int)(hb:DocL d)(hx:CmdB d site b c):FC Tryz.prog 54 [.t (docT d),VI site,VI a,VI b,VI c] (app emp []) (VL 19 eopT (cmdP d site a b c)) (app emp []):=by
 refine .go Tryz.f54 ?_
 have hl:=hb.len
 have hfl:=z9c hb (cmdI d b)
 have hdr:=y4r hb (pickP d b [10,8])
 have hsr:=z5o (nodeF d (cmdI d b)).flow (nodeF d (cmdI d b)).flow.length
 have hmo:=z95 hb b
 have hfr:=y4s hb b c
 refine .bp [.r [],.r [(2,X (Xc ((7:Int)≠0))),(4,X (Xc0 (z6d d (IntKind.i64.wrap (b.tdiv 7)) [1,3,4,12] (by omega) (by first|omega|simp)) (rowC intT [1,3,4,12] X0)))],.le (.eq 11 (VI (pickP d (IntKind.i64.wrap (b.tdiv 7)) [1,3,4,12])) (VI (cmdI d b)) (.of_eq rfl)),.r [(2,X (Xc1 80 (z97 d (cmdI d b) (by assumption)) X0))],.r [(2,X (Xc1 152 (z9d (((nodeF d (cmdI d b))).flow) (by omega)) X0)),(3,X (Xl intT (shwR (((nodeF d (cmdI d b))).flow) ((((nodeF d (cmdI d b))).flow)).length))),(4,X (Xn (((shwR (((nodeF d (cmdI d b))).flow) ((((nodeF d (cmdI d b))).flow)).length).length:Int)- 1))),(5,X (Xmax 0 (((shwR (((nodeF d (cmdI d b))).flow) ((((nodeF d (cmdI d b))).flow)).length).length:Int)- 1)))],.le (.eq 14 (VI (max 0 (((shwR (((nodeF d (cmdI d b))).flow) ((((nodeF d (cmdI d b))).flow)).length).length:Int)- 1))) (VI (cmdM d b)) (.of_eq rfl)),.r [(1,X (Xc ((5:Int)≠0))),(3,X (Xc0 (z0y (IntKind.i64.wrap (c.tdiv 5)) 0 (cmdM d b) (by omega)) X0))],.le (.eq 15 (VI (z0b (IntKind.i64.wrap (c.tdiv 5)) 0 (cmdM d b))) (VI (cmdF d b c)) (.of_eq rfl)),.r [(3,X (Xc ((11:Int)≠0))),(7,X (Xn ((cmdF d b c)+4))),(8,X (Xmin (cmdM d b) ((cmdF d b c)+4))),(9,X (Xc0 (z0y (IntKind.i64.wrap (c.tdiv 11)) (cmdF d b c) (min (cmdM d b) ((cmdF d b c)+4)) (by omega)) X0))],.r [],.le (.eb 320 2 (VI (z0b (IntKind.i64.wrap (c.tdiv 11)) (cmdF d b c) (min (cmdM d b) ((cmdF d b c)+4)))) (VI (cmdT d b c)) rfl),.r [(1,X (Xc0 (z0y a 0 13 (by omega)) X0))],.r []] ((z0b a 0 13)==0) (fun h12=> ?_) (fun h12=> ?_)
 ·
  have w0:=z0n b (lo:=0) (hi:=4) (by decide)
  have ha:=z4k (Int.toNat (z0b b 0 4))
  have hn:=z7R (Int.toNat (z0b b 0 4))
  have ht:=hx.ty (txt5.getD (Int.toNat (z0b b 0 4)) default) {data:=#[]} (by assumption) (by assumption)
  have e1:((cmdP d site a b c):List EOp)=(typeO d ({nd:=(cmdI d b),fr:=(cmdF d b c),tq:=(cmdT d b c)}:Sel) (ascC ([{data:=#[120]},{data:=#[121,122]},{data:=#[10]},{data:=#[119,32,118]},{data:=#[98]}].getD (Int.toNat (z0b b 0 4)) default)) ({data:=#[]})):=by
   unfold cmdP;((repeat' split)<;>first|rfl|omega| (simp_all;done)| (simp_all;omega))
  exact .finE [.le (.eq 88 (VB ((z0b a 0 13)==0)) (VB true) (.of_eq (by simp[h12]))),.t,.r [(4,X (Xc0 (z0y b 0 4 (by omega)) X0)),(5,X (Xp strT [{data:=#[120]},{data:=#[121,122]},{data:=#[10]},{data:=#[119,32,118]},{data:=#[98]}] (z0b b 0 4))),(6,X (Xe strT [{data:=#[120]},{data:=#[121,122]},{data:=#[10]},{data:=#[119,32,118]},{data:=#[98]}] (Int.toNat (z0b b 0 4)))),(7,X (Xc1 432 (z4l d ({nd:=(cmdI d b),fr:=(cmdF d b c),tq:=(cmdT d b c)}:Sel) ([{data:=#[120]},{data:=#[121,122]},{data:=#[10]},{data:=#[119,32,118]},{data:=#[98]}].getD (Int.toNat (z0b b 0 4)) default) ({data:=#[]}) (by assumption) (by assumption) (by assumption) (by assumption)) X0))],.r []] [] (fun z0:List EOp=>(VL 19 eopT z0,[])) _ _ e1
 ·
  refine .bp [.le (.eq 88 (VB ((z0b a 0 13)==0)) (VB false) (.of_eq (by simp[h12]))),.r []] ((z0b a 0 13)==1) (fun h13=> ?_) (fun h13=> ?_)
  ·
   have w0:=z0n b (lo:=0) (hi:=4) (by decide)
   have ha:=z4k (Int.toNat (z0b b 0 4))
   have hn:=z7R (Int.toNat (z0b b 0 4))
   have ht:=hx.ty (txt5.getD (Int.toNat (z0b b 0 4)) default) {data:=#[]} (by assumption) (by assumption)
   have e2:((cmdP d site a b c):List EOp)=(typeO d ({nd:=(cmdI d b),fr:=(cmdF d b c),tq:=(cmdT d b c)}:Sel) (ascC ([{data:=#[120]},{data:=#[121,122]},{data:=#[10]},{data:=#[119,32,118]},{data:=#[98]}].getD (Int.toNat (z0b b 0 4)) default)) ({data:=#[]})):=by
    unfold cmdP;((repeat' split)<;>first|rfl|omega| (simp_all;done)| (simp_all;omega))
   exact .finE [.le (.eq 88 (VB ((z0b a 0 13)==1)) (VB true) (.of_eq (by simp[h13]))),.t,.r [(4,X (Xc0 (z0y b 0 4 (by omega)) X0)),(5,X (Xp strT [{data:=#[120]},{data:=#[121,122]},{data:=#[10]},{data:=#[119,32,118]},{data:=#[98]}] (z0b b 0 4))),(6,X (Xe strT [{data:=#[120]},{data:=#[121,122]},{data:=#[10]},{data:=#[119,32,118]},{data:=#[98]}] (Int.toNat (z0b b 0 4)))),(7,X (Xc1 448 (z4l d ({nd:=(cmdI d b),fr:=(cmdF d b c),tq:=(cmdT d b c)}:Sel) ([{data:=#[120]},{data:=#[121,122]},{data:=#[10]},{data:=#[119,32,118]},{data:=#[98]}].getD (Int.toNat (z0b b 0 4)) default) ({data:=#[]}) (by assumption) (by assumption) (by assumption) (by assumption)) X0))],.r []] [] (fun z0:List EOp=>(VL 19 eopT z0,[])) _ _ e2
  ·
   refine .bp [.le (.eq 88 (VB ((z0b a 0 13)==1)) (VB false) (.of_eq (by simp[h13]))),.r []] ((z0b a 0 13)==2) (fun h14=> ?_) (fun h14=> ?_)
   ·
    have w0:=z0n b (lo:=0) (hi:=4) (by decide)
    have ha:=z4k (Int.toNat (z0b b 0 4))
    have hn:=z7R (Int.toNat (z0b b 0 4))
    have ht:=hx.ty (txt5.getD (Int.toNat (z0b b 0 4)) default) {data:=#[]} (by assumption) (by assumption)
    have e3:((cmdP d site a b c):List EOp)=(typeO d ({nd:=(cmdI d b),fr:=(cmdF d b c),tq:=(cmdT d b c)}:Sel) (ascC ([{data:=#[120]},{data:=#[121,122]},{data:=#[10]},{data:=#[119,32,118]},{data:=#[98]}].getD (Int.toNat (z0b b 0 4)) default)) ({data:=#[]})):=by
     unfold cmdP;((repeat' split)<;>first|rfl|omega| (simp_all;done)| (simp_all;omega))
    exact .finE [.le (.eq 88 (VB ((z0b a 0 13)==2)) (VB true) (.of_eq (by simp[h14]))),.r [(4,X (Xc0 (z0y b 0 4 (by omega)) X0)),(5,X (Xp strT [{data:=#[120]},{data:=#[121,122]},{data:=#[10]},{data:=#[119,32,118]},{data:=#[98]}] (z0b b 0 4))),(6,X (Xe strT [{data:=#[120]},{data:=#[121,122]},{data:=#[10]},{data:=#[119,32,118]},{data:=#[98]}] (Int.toNat (z0b b 0 4)))),(7,X (Xc1 464 (z4l d ({nd:=(cmdI d b),fr:=(cmdF d b c),tq:=(cmdT d b c)}:Sel) ([{data:=#[120]},{data:=#[121,122]},{data:=#[10]},{data:=#[119,32,118]},{data:=#[98]}].getD (Int.toNat (z0b b 0 4)) default) ({data:=#[]}) (by assumption) (by assumption) (by assumption) (by assumption)) X0))],.r []] [] (fun z0:List EOp=>(VL 19 eopT z0,[])) _ _ e3
   ·
    refine .bp [.le (.eq 88 (VB ((z0b a 0 13)==2)) (VB false) (.of_eq (by simp[h14]))),.r []] ((z0b a 0 13)==3) (fun h16=> ?_) (fun h16=> ?_)
    ·
     have ht:=hx.ty {data:=#[]} {data:=#[]} y4o (by decide)
     have e4:((cmdP d site a b c):List EOp)=(typeO d ({nd:=(cmdI d b),fr:=(cmdF d b c),tq:=(cmdT d b c)}:Sel) (ascC {data:=#[]}) ({data:=#[]})):=by
      unfold cmdP;((repeat' split)<;>first|rfl|omega| (simp_all;done)| (simp_all;omega))
     exact .finE [.r [(2,X (Xc1 440 (y5U d ({nd:=(cmdI d b),fr:=(cmdF d b c),tq:=(cmdT d b c)}:Sel) ({data:=#[]}) (by assumption) (by assumption)) X0))],.r []] [] (fun z0:List EOp=>(VL 19 eopT z0,[])) _ _ e4
    ·
     refine .bp [.r []] ((z0b a 0 13)==4) (fun h18=> ?_) (fun h18=> ?_)
     ·
      have ha:=asc_t
      have hn:({data:=#[116]}:ByteArray).size≤20000:=by decide
      have ht:=hx.ty {data:=#[116]} {data:=#[97,110,110]} ha hn
      have e5:((cmdP d site a b c):List EOp)=(typeO d ({nd:=(cmdI d b),fr:=(cmdF d b c),tq:=(cmdT d b c)}:Sel) (ascC ({data:=#[116]})) ({data:=#[97,110,110]})):=by
       unfold cmdP;((repeat' split)<;>first|rfl|omega| (simp_all;done)| (simp_all;omega))
      exact .finE [.r [(2,X (Xc1 456 (z4l d ({nd:=(cmdI d b),fr:=(cmdF d b c),tq:=(cmdT d b c)}:Sel) ({data:=#[116]}) ({data:=#[97,110,110]}) (by assumption) (by assumption) (by assumption) (by assumption)) X0))],.r []] [] (fun z0:List EOp=>(VL 19 eopT z0,[])) _ _ e5
     ·
      refine .bp [.r []] ((z0b a 0 13)==5) (fun h20=> ?_) (fun h20=> ?_)
      ·
       have w0:=z0n b (lo:=0) (hi:=2) (by decide)
       have w1:=z0n (IntKind.i64.wrap (a.tdiv 14)) (lo:=0) (hi:=2) (by decide)
       have hf:=hx.fm
       have e6:((cmdP d site a b c):List EOp)=(fmtO d ({nd:=(cmdI d b),fr:=(cmdF d b c),tq:=(cmdT d b c)}:Sel) [({name:=([{data:=#[98,111,108,100]},{data:=#[115,105,122,101]},{data:=#[109,97,114,107,46,109]}].getD (Int.toNat (z0b b 0 2)) default),val:=([{data:=#[]},{data:=#[111,110]},{data:=#[52,48]}].getD (Int.toNat (z0b (IntKind.i64.wrap (a.tdiv 14)) 0 2)) default)}:Attr)]):=by
        unfold cmdP;((repeat' split)<;>first|rfl|omega| (simp_all;done)| (simp_all;omega))
       exact .finE [.r [(4,X (Xc0 (z0y b 0 2 (by omega)) X0)),(5,X (Xp strT [{data:=#[98,111,108,100]},{data:=#[115,105,122,101]},{data:=#[109,97,114,107,46,109]}] (z0b b 0 2))),(6,X (Xe strT [{data:=#[98,111,108,100]},{data:=#[115,105,122,101]},{data:=#[109,97,114,107,46,109]}] (Int.toNat (z0b b 0 2)))),(9,X (Xc ((14:Int)≠0))),(10,X (Xc0 (z0y (IntKind.i64.wrap (a.tdiv 14)) 0 2 (by omega)) X0)),(11,X (Xp strT [{data:=#[]},{data:=#[111,110]},{data:=#[52,48]}] (z0b (IntKind.i64.wrap (a.tdiv 14)) 0 2))),(12,X (Xe strT [{data:=#[]},{data:=#[111,110]},{data:=#[52,48]}] (Int.toNat (z0b (IntKind.i64.wrap (a.tdiv 14)) 0 2)))),(15,X (Xc1 576 (z9a d ({nd:=(cmdI d b),fr:=(cmdF d b c),tq:=(cmdT d b c)}:Sel) [({name:=([{data:=#[98,111,108,100]},{data:=#[115,105,122,101]},{data:=#[109,97,114,107,46,109]}].getD (Int.toNat (z0b b 0 2)) default),val:=([{data:=#[]},{data:=#[111,110]},{data:=#[52,48]}].getD (Int.toNat (z0b (IntKind.i64.wrap (a.tdiv 14)) 0 2)) default)}:Attr)] (by assumption) (by first|omega|simp) (by assumption)) (rowC attrT [({name:=([{data:=#[98,111,108,100]},{data:=#[115,105,122,101]},{data:=#[109,97,114,107,46,109]}].getD (Int.toNat (z0b b 0 2)) default),val:=([{data:=#[]},{data:=#[111,110]},{data:=#[52,48]}].getD (Int.toNat (z0b (IntKind.i64.wrap (a.tdiv 14)) 0 2)) default)}:Attr)] X0)))],.r []] [] (fun z0:List EOp=>(VL 19 eopT z0,[])) _ _ e6
      ·
       refine .bp [.r []] ((z0b a 0 13)==6) (fun h22=> ?_) (fun h22=> ?_)
       ·
        have w0:=z0n b (lo:=0) (hi:=2) (by decide)
        have w1:=z0n (IntKind.i64.wrap (a.tdiv 14)) (lo:=0) (hi:=2) (by decide)
        have hf:=hx.pa
        have e7:((cmdP d site a b c):List EOp)=(parO d ({nd:=(cmdI d b),fr:=(cmdF d b c),tq:=(cmdT d b c)}:Sel) [({name:=([{data:=#[104,101,97,100]},{data:=#[108,105,115,116]},{data:=#[97,108,105,103,110]}].getD (Int.toNat (z0b b 0 2)) default),val:=([{data:=#[49]},{data:=#[50]},{data:=#[]}].getD (Int.toNat (z0b (IntKind.i64.wrap (a.tdiv 14)) 0 2)) default)}:Attr)]):=by
         unfold cmdP;((repeat' split)<;>first|rfl|omega| (simp_all;done)| (simp_all;omega))
        exact .finE [.r [(4,X (Xc0 (z0y b 0 2 (by omega)) X0)),(5,X (Xp strT [{data:=#[104,101,97,100]},{data:=#[108,105,115,116]},{data:=#[97,108,105,103,110]}] (z0b b 0 2))),(6,X (Xe strT [{data:=#[104,101,97,100]},{data:=#[108,105,115,116]},{data:=#[97,108,105,103,110]}] (Int.toNat (z0b b 0 2)))),(9,X (Xc ((14:Int)≠0))),(10,X (Xc0 (z0y (IntKind.i64.wrap (a.tdiv 14)) 0 2 (by omega)) X0)),(11,X (Xp strT [{data:=#[49]},{data:=#[50]},{data:=#[]}] (z0b (IntKind.i64.wrap (a.tdiv 14)) 0 2))),(12,X (Xe strT [{data:=#[49]},{data:=#[50]},{data:=#[]}] (Int.toNat (z0b (IntKind.i64.wrap (a.tdiv 14)) 0 2)))),(15,X (Xc1 592 (y2q d ({nd:=(cmdI d b),fr:=(cmdF d b c),tq:=(cmdT d b c)}:Sel) [({name:=([{data:=#[104,101,97,100]},{data:=#[108,105,115,116]},{data:=#[97,108,105,103,110]}].getD (Int.toNat (z0b b 0 2)) default),val:=([{data:=#[49]},{data:=#[50]},{data:=#[]}].getD (Int.toNat (z0b (IntKind.i64.wrap (a.tdiv 14)) 0 2)) default)}:Attr)] (by assumption) (by first|omega|simp) (by assumption)) (rowC attrT [({name:=([{data:=#[104,101,97,100]},{data:=#[108,105,115,116]},{data:=#[97,108,105,103,110]}].getD (Int.toNat (z0b b 0 2)) default),val:=([{data:=#[49]},{data:=#[50]},{data:=#[]}].getD (Int.toNat (z0b (IntKind.i64.wrap (a.tdiv 14)) 0 2)) default)}:Attr)] X0)))],.r []] [] (fun z0:List EOp=>(VL 19 eopT z0,[])) _ _ e7
       ·
        refine .bp [.r []] ((z0b a 0 13)==7) (fun h24=> ?_) (fun h24=> ?_)
        ·
         have w1:=z0n b (lo:=1) (hi:=3) (by decide)
         have w2:=z0n (IntKind.i64.wrap (a.tdiv 14)) (lo:=1) (hi:=3) (by decide)
         have ho:=hx.ob (tblN (z0b b 1 3) (z0b (IntKind.i64.wrap (a.tdiv 14)) 1 3))
         have e8:((cmdP d site a b c):List EOp)=(objO d ({nd:=(cmdI d b),fr:=(cmdF d b c),tq:=(cmdT d b c)}:Sel) (tblN (z0b b 1 3) (z0b (IntKind.i64.wrap (a.tdiv 14)) 1 3)) site ({data:=#[]})):=by
          unfold cmdP;((repeat' split)<;>first|rfl|omega| (simp_all;done)| (simp_all;omega))
         exact .finE [.r [(3,X (Xc0 (z0y b 1 3 (by omega)) X0)),(5,X (Xc ((14:Int)≠0))),(6,X (Xc0 (z0y (IntKind.i64.wrap (a.tdiv 14)) 1 3 (by omega)) X0)),(8,X (Xc1 552 (y7B d ({nd:=(cmdI d b),fr:=(cmdF d b c),tq:=(cmdT d b c)}:Sel) (z0b b 1 3) (z0b (IntKind.i64.wrap (a.tdiv 14)) 1 3) site ({data:=#[]}) (by omega) (by assumption) (by assumption)) X0))],.r []] [] (fun z0:List EOp=>(VL 19 eopT z0,[])) _ _ e8
        ·
         refine .bp [.r []] ((z0b a 0 13)==8) (fun h26=> ?_) (fun h26=> ?_)
         ·
          have ho:=hx.ob (notN (b.tmod 2==0))
          have e9:((cmdP d site a b c):List EOp)=(objO d ({nd:=(cmdI d b),fr:=(cmdF d b c),tq:=(cmdT d b c)}:Sel) (notN ((b.tmod 2)==0)) site ({data:=#[]})):=by
           unfold cmdP;((repeat' split)<;>first|rfl|omega| (simp_all;done)| (simp_all;omega))
          exact .finE [.r [(3,X (Xc ((2:Int)≠0))),(6,X (Xc1 552 (y7C d ({nd:=(cmdI d b),fr:=(cmdF d b c),tq:=(cmdT d b c)}:Sel) ((b.tmod 2)==0) site ({data:=#[]}) (by assumption) (by assumption)) X0))],.r []] [] (fun z0:List EOp=>(VL 19 eopT z0,[])) _ _ e9
         ·
          refine .bp [.r []] ((z0b a 0 13)==9) (fun h28=> ?_) (fun h28=> ?_)
          ·
           have hc:=y4q
           have ho:=hx.ob (fldN seqA)
           have e10:((cmdP d site a b c):List EOp)=(objO d ({nd:=(cmdI d b),fr:=(cmdF d b c),tq:=(cmdT d b c)}:Sel) (fldN [({name:={data:=#[107,105,110,100]},val:={data:=#[115,101,113]}}:Attr)]) site ({data:=#[]})):=by
            unfold cmdP;((repeat' split)<;>first|rfl|omega| (simp_all;done)| (simp_all;omega))
           exact .finE [.r [(5,X (Xc1 560 (y7D d ({nd:=(cmdI d b),fr:=(cmdF d b c),tq:=(cmdT d b c)}:Sel) [({name:={data:=#[107,105,110,100]},val:={data:=#[115,101,113]}}:Attr)] site ({data:=#[]}) (by assumption) (by first|omega|simp) (by assumption) (by assumption)) (rowC attrT [({name:={data:=#[107,105,110,100]},val:={data:=#[115,101,113]}}:Attr)] X0)))],.r []] [] (fun z0:List EOp=>(VL 19 eopT z0,[])) _ _ e10
          ·
           refine .bp [.r []] ((z0b a 0 13)==10) (fun h30=> ?_) (fun h30=> ?_)
           ·
            have w0:=z0n (IntKind.i64.wrap (a.tdiv 14)) (lo:=0) (hi:=2) (by decide)
            have w1:=z0n c (lo:=0) (hi:=2) (by decide)
            have w2:=y1C (Int.toNat (z0b (IntKind.i64.wrap (a.tdiv 14)) 0 2))
            have e11:((cmdP d site a b c):List EOp)=(rshO d (pickP d b [2,6]) (z0b c 0 2) ([1,2,-1].getD (Int.toNat (z0b (IntKind.i64.wrap (a.tdiv 14)) 0 2)) default)):=by
             unfold cmdP;((repeat' split)<;>first|rfl|omega| (simp_all;done)| (simp_all;omega))
            exact .finE [.r [(4,X (Xc0 (z6d d b [2,6] (by omega) (by first|omega|simp)) (rowC intT [2,6] X0))),(6,X (Xc0 (z0y c 0 2 (by omega)) X0)),(9,X (Xc ((14:Int)≠0))),(10,X (Xc0 (z0y (IntKind.i64.wrap (a.tdiv 14)) 0 2 (by omega)) X0)),(11,X (Xp intT [1,2,-1] (z0b (IntKind.i64.wrap (a.tdiv 14)) 0 2))),(12,X (Xe intT [1,2,-1] (Int.toNat (z0b (IntKind.i64.wrap (a.tdiv 14)) 0 2)))),(13,X (Xc1 640 (y7E d (pickP d b [2,6]) (z0b c 0 2) ([1,2,-1].getD (Int.toNat (z0b (IntKind.i64.wrap (a.tdiv 14)) 0 2)) default) (by assumption) (by omega) (by omega)) X0))],.r []] [] (fun z0:List EOp=>(VL 19 eopT z0,[])) _ _ e11
           ·
            refine .bp [.r []] ((z0b a 0 13)==11) (fun h32=> ?_) (fun h32=> ?_)
            ·
             have w0:=z0n (IntKind.i64.wrap (a.tdiv 14)) (lo:=0) (hi:=2) (by decide)
             have w1:=z0n c (lo:=0) (hi:=2) (by decide)
             have w2:=y1C (Int.toNat (z0b (IntKind.i64.wrap (a.tdiv 14)) 0 2))
             have e12:((cmdP d site a b c):List EOp)=(cshO d (pickP d b [2,6]) (z0b c 0 2) ([1,2,-1].getD (Int.toNat (z0b (IntKind.i64.wrap (a.tdiv 14)) 0 2)) default)):=by
              unfold cmdP;((repeat' split)<;>first|rfl|omega| (simp_all;done)| (simp_all;omega))
             exact .finE [.r [(4,X (Xc0 (z6d d b [2,6] (by omega) (by first|omega|simp)) (rowC intT [2,6] X0))),(6,X (Xc0 (z0y c 0 2 (by omega)) X0)),(9,X (Xc ((14:Int)≠0))),(10,X (Xc0 (z0y (IntKind.i64.wrap (a.tdiv 14)) 0 2 (by omega)) X0)),(11,X (Xp intT [1,2,-1] (z0b (IntKind.i64.wrap (a.tdiv 14)) 0 2))),(12,X (Xe intT [1,2,-1] (Int.toNat (z0b (IntKind.i64.wrap (a.tdiv 14)) 0 2)))),(13,X (Xc1 656 (y2n d (pickP d b [2,6]) (z0b c 0 2) ([1,2,-1].getD (Int.toNat (z0b (IntKind.i64.wrap (a.tdiv 14)) 0 2)) default) (by assumption) (by omega) (by omega)) X0))],.r []] [] (fun z0:List EOp=>(VL 19 eopT z0,[])) _ _ e12
            ·
             refine .bp [.r []] ((z0b a 0 13)==12) (fun h34=> ?_) (fun h34=> ?_)
             ·
              have e13:((cmdP d site a b c):List EOp)=(celO d (pickP d b [2]) (z0b c 0 2) (z0b (IntKind.i64.wrap (a.tdiv 14)) 0 2) site):=by
               unfold cmdP;((repeat' split)<;>first|rfl|omega| (simp_all;done)| (simp_all;omega))
              exact .finE [.r [(4,X (Xc0 (z6d d b [2] (by omega) (by first|omega|simp)) (rowC intT [2] X0))),(6,X (Xc0 (z0y c 0 2 (by omega)) X0)),(8,X (Xc ((14:Int)≠0))),(9,X (Xc0 (z0y (IntKind.i64.wrap (a.tdiv 14)) 0 2 (by omega)) X0)),(11,X (Xc1 656 (y7F d (pickP d b [2]) (z0b c 0 2) (z0b (IntKind.i64.wrap (a.tdiv 14)) 0 2) site (by assumption)) X0))],.r []] [] (fun z0:List EOp=>(VL 19 eopT z0,[])) _ _ e13
             ·
              refine .bp [.r [(4,X (Xc0 (z6d d b [10,8] (by omega) (by first|omega|simp)) (rowC intT [10,8] X0))),(5,X (Xc1 608 (z97 d (pickP d b [10,8]) (by assumption)) X0))],.r []] (nodeH d (pickP d b [10,8])) (fun h9=> ?_) (fun h9=> ?_)
              ·
               have w0:=z0n (IntKind.i64.wrap (a.tdiv 14)) (lo:=(-1)) (hi:=3) (by decide)
               have w1:=z0n c (lo:=1) (hi:=3) (by decide)
               have w2:=z0n c (lo:=0) (hi:=2) (by decide)
               have hlc:=hx.lc
               have e14:((cmdP d site a b c):List EOp)=[({kind:=4,node:=((nodeF d (pickP d b [10,8]))).id,nw:=({id:=0,kind:=0,attrs:=[],flow:=[],grid:=({rows:=0,cols:=0,cells:=[],merges:=[]}:Grid),draw:=[]}:Node),attrs:=[],steps:=[],grid:=({rows:=[],cols:=[],cells:=[],split:=[],merge:=[]}:GEd),draw:=[({clock:=(1+(lastC ((nodeF d (pickP d b [10,8]))))),site:=site,kind:=0,itm:=(z0b c 1 3),prt:=(z0b (IntKind.i64.wrap (a.tdiv 14)) (-1) 3),plc:={data:=#[98]},nm:={data:=#[]},vl:={data:=#[]}}:DOp)]}:EOp)]:=by
                unfold cmdP;((repeat' split)<;>first|rfl|omega| (simp_all;done)| (simp_all;omega))
               exact .finE [.r [(3,X (Xc0 (y5T ((nodeF d (pickP d b [10,8]))) (by assumption)) X0)),(4,X (Xn (1+(lastC ((nodeF d (pickP d b [10,8]))))))),(7,X (Xc0 (z0y c 1 3 (by omega)) X0)),(9,X (Xc ((14:Int)≠0))),(10,X (Xc0 (z0y (IntKind.i64.wrap (a.tdiv 14)) (-1) 3 (by omega)) X0)),(13,X (Xf [(4,2),(5,3),(8,5),(9,4),(10,8),(11,2),(12,4),(13,2),(14,2),(15,5),(16,4),(17,4)])),(14,X (rowC dopT [({clock:=(1+(lastC ((nodeF d (pickP d b [10,8]))))),site:=site,kind:=0,itm:=(z0b c 1 3),prt:=(z0b (IntKind.i64.wrap (a.tdiv 14)) (-1) 3),plc:={data:=#[98]},nm:={data:=#[]},vl:={data:=#[]}}:DOp)] X0))],.r [],.le (.fr 10 [(1:Nat)=(List.map eopT [({kind:=4,node:=((nodeF d (pickP d b [10,8]))).id,nw:=({id:=0,kind:=0,attrs:=[],flow:=[],grid:=({rows:=0,cols:=0,cells:=[],merges:=[]}:Grid),draw:=[]}:Node),attrs:=[],steps:=[],grid:=({rows:=[],cols:=[],cells:=[],split:=[],merge:=[]}:GEd),draw:=[({clock:=(1+(lastC ((nodeF d (pickP d b [10,8]))))),site:=site,kind:=0,itm:=(z0b c 1 3),prt:=(z0b (IntKind.i64.wrap (a.tdiv 14)) (-1) 3),plc:={data:=#[98]},nm:={data:=#[]},vl:={data:=#[]}}:DOp)]}:EOp)]).length] ⟨lm,trivial⟩)] [] (fun z0:List EOp=>(VL 19 eopT z0,[])) _ _ e14
              ·
               have w2:=z0n c (lo:=0) (hi:=2) (by decide)
               have e15:((cmdP d site a b c):List EOp)=[({kind:=1,node:=1,nw:=({id:=0,kind:=0,attrs:=[],flow:=[],grid:=({rows:=0,cols:=0,cells:=[],merges:=[]}:Grid),draw:=[]}:Node),attrs:=[({name:={data:=#[116,105,116,108,101]},val:=([{data:=#[]},{data:=#[112]},{data:=#[113]}].getD (Int.toNat (z0b c 0 2)) default)}:Attr)],steps:=[],grid:=({rows:=[],cols:=[],cells:=[],split:=[],merge:=[]}:GEd),draw:=[]}:EOp)]:=by
                unfold cmdP;((repeat' split)<;>first|rfl|omega| (simp_all;done)| (simp_all;omega))
               exact .finE [.r [(2,X (Xc0 (z0y c 0 2 (by omega)) X0)),(3,X (Xp strT [{data:=#[]},{data:=#[112]},{data:=#[113]}] (z0b c 0 2))),(4,X (Xe strT [{data:=#[]},{data:=#[112]},{data:=#[113]}] (Int.toNat (z0b c 0 2)))),(7,X (Xf [(4,2),(5,3),(8,5),(9,4),(10,8),(12,4),(13,2),(14,2),(15,5),(16,4),(17,4),(18,8)])),(8,X (rowC attrT [({name:={data:=#[116,105,116,108,101]},val:=([{data:=#[]},{data:=#[112]},{data:=#[113]}].getD (Int.toNat (z0b c 0 2)) default)}:Attr)] X0))],.r [],.le (.fr 10 [(1:Nat)=(List.map eopT [({kind:=1,node:=1,nw:=({id:=0,kind:=0,attrs:=[],flow:=[],grid:=({rows:=0,cols:=0,cells:=[],merges:=[]}:Grid),draw:=[]}:Node),attrs:=[({name:={data:=#[116,105,116,108,101]},val:=([{data:=#[]},{data:=#[112]},{data:=#[113]}].getD (Int.toNat (z0b c 0 2)) default)}:Attr)],steps:=[],grid:=({rows:=[],cols:=[],cells:=[],split:=[],merge:=[]}:GEd),draw:=[]}:EOp)]).length] ⟨lm,trivial⟩)] [] (fun z0:List EOp=>(VL 19 eopT z0,[])) _ _ e15
end Go.Ch
end
section
set_option linter.unusedVariables false
set_option linter.unusedSimpArgs false
set_option maxRecDepth 100000
set_option maxHeartbeats 4000000
open Go Go.Proofs Go.Ab
namespace Go.Ch
theorem z98(l:List DStep)(hd:DN 400000000000 l)(hv:z0W l):FC Tryz.prog 128 [VL 4 z0c l] (app emp []) (.tup [VI (oldD l),VI (newD l),VI 0]) (app emp []):=by
 refine .go Tryz.f128 ?_
 refine .len 0 (fun hl0=> ?_)
 have hc:=z0S.2 hv
 refine .bp [.r [],.r [(1,X (Xc0 (z1N l (by assumption)) X0))],.r []] ((z0V l) !=0) (fun h2=> ?_) (fun h2=> ?_)
 ·
  exfalso
  omega
 ·
  exact .fin [.r [(1,X (Xc0 (z4b l (by assumption)) X0))],.r []] []
theorem y5V(l:List DStep):FC Tryz.prog 129 [VL 4 z0c l] (app emp []) (VB (endsD l)) (app emp []):=by
 refine .go Tryz.f129 ?_
 refine .len 0 (fun hl0=> ?_)
 have e1:((endsD l):Bool)=(decide ((l.length:Int)> 0)&&((((l.getD (l.length- 1) default)).kind)==0)):=by
  rfl
 exact .finE [.r [],.r [(1,X (Xl z0c l)),(6,Xv 1 (decide ((l.length:Int)> 0)) (Xl z0c l)),(7,Xv 1 (decide ((l.length:Int)> 0)) (Xn ((l.length:Int)- 1))),(8,Xv 2 (decide ((l.length:Int)> 0)) (Xi' z0c l ((l.length:Int)- 1) (l.length- 1))),(9,Xv 1 (decide ((l.length:Int)> 0)) X0),(10,Xv 1 (decide ((l.length:Int)> 0)) X0),(11,Xv 1 (decide ((l.length:Int)> 0)) X0),(12,X (Xk (decide ((l.length:Int)> 0))))]] [] (fun z0:Bool=>(VB z0,[])) _ _ e1
theorem y4v(l:List Node)(n:Node)(j:Nat)(hl:l.length≤1048576)(hj:j=l.length):FC Tryz.prog 127 [.row 0 l.length,VI (j:Int),.row 1 1] (app emp [(0,OR 9 nodeT l),(1,OR 9 nodeT [n])]) (.row 0 ((l++[n]).length)) (app emp [(0,OR 9 nodeT (l++[n])),(1,OF 9 nodeT [n])]):=by
 refine .go Tryz.f127 ?_
 refine .bp [.r [],.r [(2,X (Xtl nodeT l.length l (j:Int)))],.r [],.r [],.f,.r [],.r []] ((j:Int)==(l.length:Int)) (fun h6=> ?_) (fun h6=> ?_)
 ·
  exact .fin [.r [(2,X (rowC nodeT [n] (XapB 9 nodeT 0 l [n])))],.le (.fz 1)] [(0,0),(1,1)]
 ·
  exfalso
  omega
theorem y2t(l:List Node)(n:Node)(hl:l.length≤1048575)(hs:SortN l)(hb:NodeB n)(hlast:hasN l n.id=false→lobN l n.id=l.length):FC Tryz.prog 76 [.ptr 0 0,.t (nodeT n)] (app emp [(0,.box [.row 1 l.length]),(1,OR 9 nodeT l)]) (VI (adnE l n)) (app emp [(0,.box [.row 1 ((insR l n).length)]),(1,OR 9 nodeT (insR l n))]):=by
 refine .go Tryz.f76 ?_
 have hl1:l.length≤1048576:=by omega
 refine .bp [.r [],.r [(5,X (Xc0 (z5k ({nodes:=l}:Doc) n.id (by assumption) (by assumption)) (rowC nodeT l X0)))]] (decide ((ixN (({nodes:=l}:Doc)).nodes n.id)≥0)) (fun h1=> ?_) (fun h1=> ?_)
 ·
  have T:=ins_1 (l:=l) (n:=n) (y1c.1 h1)
  have e1:((insR l n).length:Nat)=l.length:=by
   rw[T.1]
  have e2:((insR l n):List Node)=l:=by
   exact T.1
  have e3:((adnE l n):Int)=6:=by
   exact T.2
  exact .finE [.r []] [(0,0),(1,1)] (fun((z0,z1,z2):Nat×(List Node)×Int)=>(VI z2,[(0,.box [.row 1 z0]),(1,OR 9 nodeT z1)])) _ _ (pr e1 (pr e2 e3))
 ·
  have hh:hasN l n.id=false:=y1d.1 h1
  refine .bp [.r [(6,X (Xc1 122 (z8T n (by assumption)) X0)),(7,X (Xc0 (z39 ({nodes:=l}:Doc) n.kind (refsN n) (by assumption) (by assumption)) (rowC nodeT l X0)))],.r []] ((refsE (({nodes:=l}:Doc)).nodes n.kind (refsN n) 0) !=0) (fun h4=> ?_) (fun h4=> ?_)
  ·
   have T:=ins_2 hh h4
   have e4:((insR l n).length:Nat)=l.length:=by
    rw[T.1]
   have e5:((insR l n):List Node)=l:=by
    exact T.1
   have e6:((adnE l n):Int)=(refsE (({nodes:=l}:Doc)).nodes n.kind (refsN n) 0):=by
    exact T.2
   exact .finE [.r []] [(0,0),(1,1)] (fun((z0,z1,z2):Nat×(List Node)×Int)=>(VI z2,[(0,.box [.row 1 z0]),(1,OR 9 nodeT z1)])) _ _ (pr e4 (pr e5 e6))
  ·
   obtain⟨s1,s2,s3⟩:=z1R l n.id
   have hlo:=hlast hh
   refine .loop (α:=Nat) [.r []] 170 (fun i=>([(0,.ptr 0 0),(3,.ptr 2 0),(6,VI (i:Int))],[(0,.box [.row 1 l.length]),(1,OR 9 nodeT l),(2,.box [VI n.id,VI n.kind,VL 2 attrT n.attrs,VL 3 elemT n.flow,VI n.grid.rows,VI n.grid.cols,VL 5 cellT n.grid.cells,VL 4 rectT n.grid.merges,VL 8 dopT n.draw])])) (fun i=>i≤lobN l n.id) (fun i=>l.length-i) (0:Nat) ?_ ?_
   ·
    exact Nat.zero_le _
   rintro i I7 ih7
   try dsimp only at I7
   refine .bp [.r [(9,Xv 1 (decide ((i:Int)< (l.length:Int))) X0),(10,Xv 1 (decide ((i:Int)< (l.length:Int))) X0),(11,Xv 1 (decide ((i:Int)< (l.length:Int))) X0),(13,Xv 2 (decide ((i:Int)< (l.length:Int))) (Xp nodeT l (i:Int))),(14,Xv 1 (decide ((i:Int)< (l.length:Int))) X0),(15,Xv 1 (decide ((i:Int)< (l.length:Int))) (Xe nodeT l i)),(17,Xv 1 (decide ((i:Int)< (l.length:Int))) X0),(18,Xv 2 (decide ((i:Int)< (l.length:Int))) X0),(19,X (Xk (decide ((i:Int)< (l.length:Int)))))]] (decide ((i:Int)< (l.length:Int))&&decide ((((l.getD i default)).id)< n.id)) (fun h7=> ?_) (fun h7=> ?_)
   ·
    refine .back [.r [(1,X (Xn ((i:Int)+1)))]] [(0,0),(1,1),(2,2)] (ih7 ((i+1):Nat) ?_ ?_)
    ·
     exact y3D hs (by omega) h7.2
    ·
     ((try dsimp only);omega)
   ·
    have hi:i=l.length:=by(apply Classical.byContradiction;intro q;have:=s2 i (by omega);rcases h7 with h|h<;>omega)
    have T:=ins_3 hh h4 hlo
    have e7:((insR l n).length:Nat)=(l++[n]).length:=by
     rw[T.1]
    have e8:((insR l n):List Node)=(l++[n]):=by
     exact T.1
    have e9:((adnE l n):Int)=0:=by
     exact T.2
    exact .finE [.r [(7,X (Xc1 386 (z7M n (by assumption)) X0)),(9,X (Xc3 402 [(0,1),(1,394)] (y4v l n i (by omega) (by omega)) X0))],.r []] [(0,0),(1,1)] (fun((z0,z1,z2):Nat×(List Node)×Int)=>(VI z2,[(0,.box [.row 1 z0]),(1,OR 9 nodeT z1)])) _ _ (pr e7 (pr e8 e9))
end Go.Ch
end
section
set_option linter.unusedVariables false
set_option linter.unusedSimpArgs false
set_option maxRecDepth 100000
set_option maxHeartbeats 4000000
open Go Go.Proofs Go.Ab
namespace Go.Ch
theorem y4w(l:List Node)(i:Nat)(s:List DStep)(hi:i<l.length)(hb:FlB l i s):FC Tryz.prog 77 [.ptr 0 0,.eptr 1 l.length i 0,VL 4 z0c s] (app emp [(0,.box [.row 1 l.length]),(1,OR 9 nodeT l)]) (VI (z0X l (l.getD i default) s)) (app emp [(0,.box [.row 1 ((z1m l i s).length)]),(1,OR 9 nodeT (z1m l i s))]):=by
 refine .go Tryz.f77 ?_
 refine .len 2 (fun hl2=> ?_)
 obtain⟨hl1,hs,hd,hv,hf⟩:=hb
 refine .bp [.r [],.r [(3,X (Xe nodeT l i)),(4,X (Xc0 (z5e (((l.getD i default)).kind)) X0))],.r [(4,Xv 1 (!(hasT (((l.getD i default)).kind))) X0),(5,Xv 1 (!(hasT (((l.getD i default)).kind))) X0),(6,Xv 1 (!(hasT (((l.getD i default)).kind))) (Xe nodeT l i)),(7,Xv 1 (!(hasT (((l.getD i default)).kind))) (Xc0 (y04 (((l.getD i default)).kind)) X0)),(8,Xv 1 (!(hasT (((l.getD i default)).kind))) X0),(9,X (Xk (!(hasT (((l.getD i default)).kind)))))]] (!(hasT (((l.getD i default)).kind))&& !(hasL (((l.getD i default)).kind))) (fun h2=> ?_) (fun h2=> ?_)
 ·
  have T:=z8X (i:=i) (fl_1 (s:=s) h2) (by decide)
  have e1:((z1m l i s).length:Nat)=l.length:=by
   rw[T.1]
  have e2:((z1m l i s):List Node)=l:=by
   exact T.1
  have e3:((z0X l (l.getD i default) s):Int)=8:=by
   exact T.2
  exact .finE [.r []] [(0,0),(1,1)] (fun((z0,z1,z2):Nat×(List Node)×Int)=>(VI z2,[(0,.box [.row 1 z0]),(1,OR 9 nodeT z1)])) _ _ (pr e1 (pr e2 e3))
 ·
  refine .bp [.r [(1,X (Xc0 (z98 s (by assumption) (by assumption)) X0))],.r [(4,X (Xe nodeT l i)),(5,X (Xl elemT (((l.getD i default)).flow)))]] ((oldD s) !=((((l.getD i default)).flow).length:Int)) (fun h5=> ?_) (fun h5=> ?_)
  ·
   have T:=z8X (i:=i) (fl_2 h2 h5) (by decide)
   have e4:((z1m l i s).length:Nat)=l.length:=by
    rw[T.1]
   have e5:((z1m l i s):List Node)=l:=by
    exact T.1
   have e6:((z0X l (l.getD i default) s):Int)=14:=by
    exact T.2
   exact .finE [.r []] [(0,0),(1,1)] (fun((z0,z1,z2):Nat×(List Node)×Int)=>(VI z2,[(0,.box [.row 1 z0]),(1,OR 9 nodeT z1)])) _ _ (pr e4 (pr e5 e6))
  ·
   refine .bp [.r [(3,Xv 1 (hasT (((l.getD i default)).kind)) (Xc0 (y5V s) X0)),(4,Xv 1 (hasT (((l.getD i default)).kind)) X0),(5,X (Xk (hasT (((l.getD i default)).kind))))]] ((hasT (((l.getD i default)).kind))&& !(endsD s)) (fun h7=> ?_) (fun h7=> ?_)
   ·
    have T:=z8X (i:=i) (fl_3 h2 h5 h7) (by decide)
    have e7:((z1m l i s).length:Nat)=l.length:=by
     rw[T.1]
    have e8:((z1m l i s):List Node)=l:=by
     exact T.1
    have e9:((z0X l (l.getD i default) s):Int)=4:=by
     exact T.2
    exact .finE [.r []] [(0,0),(1,1)] (fun((z0,z1,z2):Nat×(List Node)×Int)=>(VI z2,[(0,.box [.row 1 z0]),(1,OR 9 nodeT z1)])) _ _ (pr e7 (pr e8 e9))
   ·
    have F:=fl_4 (l:=l) h2 h5 h7
    refine .loop (α:=Nat) [.r [(1,X (Xl z0c s))]] 338 (fun a=>([(0,.ptr 0 0),(1,.eptr 1 l.length i 0),(2,VL 4 z0c s),(7,VB (hasT (((l.getD i default)).kind))),(50,VL 4 z0c s),(51,VI (s.length:Int)),(52,VI (a:Int))],[(0,.box [.row 1 l.length]),(1,OR 9 nodeT l)])) (fun a=>a≤s.length∧addsE l (l.getD i default).kind s=addsE l (l.getD i default).kind (s.drop a)) (fun a=>s.length-a) (0:Nat) ?_ ?_
    ·
     exact⟨by omega,rfl⟩
    rintro a I10 ih10
    try dsimp only at I10
    refine .bp [.r []] (decide ((a:Int)< (s.length:Int))) (fun h10=> ?_) (fun h10=> ?_)
    ·
     have hd1:=(hd _ (z0g (l:=s) (i:=a) (by omega))).1
     refine .loop (α:=Nat) [.r [(0,X (Xi z0c s (a:Int)))],.r [(2,X (Xl elemT (((s.getD a default)).elems)))]] 410 (fun b=>([(0,.ptr 0 0),(1,.eptr 1 l.length i 0),(2,VL 4 z0c s),(7,VB (hasT (((l.getD i default)).kind))),(50,VL 4 z0c s),(51,VI (s.length:Int)),(52,VI (a:Int)),(57,VL 3 elemT (((s.getD a default)).elems)),(58,VI ((((s.getD a default)).elems).length:Int)),(59,VI (b:Int))],[(0,.box [.row 1 l.length]),(1,OR 9 nodeT l)])) (fun b=>b≤(s.getD a default).elems.length∧addsE l (l.getD i default).kind s=if z1B (newE l (l.getD i default).kind) ((s.getD a default).elems.drop b)≠0 then z1B (newE l (l.getD i default).kind) ((s.getD a default).elems.drop b) else addsE l (l.getD i default).kind (s.drop (a+1))) (fun b=>(s.getD a default).elems.length-b) (0:Nat) ?_ ?_
     ·
      exact⟨by omega,by rw[I10.2];exact z2C _ (by omega)⟩
     rintro b I13 ih13
     try dsimp only at I13
     refine .bp [.r []] (decide ((b:Int)< ((((s.getD a default)).elems).length:Int))) (fun h13=> ?_) (fun h13=> ?_)
     ·
      refine .bp [.r [(0,X (Xi elemT (((s.getD a default)).elems) (b:Int)))],.r [(5,Xv 1 (((((((s.getD a default)).elems).getD b default)).ref)==0) X0),(6,X (Xk (((((((s.getD a default)).elems).getD b default)).ref)==0)))]] ((((((((s.getD a default)).elems).getD b default)).ref)==0)&& !(hasT (((l.getD i default)).kind))) (fun h15=> ?_) (fun h15=> ?_)
      ·
       have hx:newE l (l.getD i default).kind ((s.getD a default).elems.getD b default)=8:=y8u h15
       have T:=z8X (i:=i) (k:=8) (F.trans (I13.2.trans (by rw[z2C _ (by omega),hx];rfl))) (by decide)
       have e10:((z1m l i s).length:Nat)=l.length:=by
        rw[T.1]
       have e11:((z1m l i s):List Node)=l:=by
        exact T.1
       have e12:((z0X l (l.getD i default) s):Int)=8:=by
        exact T.2
       exact .finE [.r []] [(0,0),(1,1)] (fun((z0,z1,z2):Nat×(List Node)×Int)=>(VI z2,[(0,.box [.row 1 z0]),(1,OR 9 nodeT z1)])) _ _ (pr e10 (pr e11 e12))
      ·
       refine .bp [.r [(6,X (Xe nodeT l i)),(9,X (Xc1 578 (z5Z [(((((s.getD a default)).elems).getD b default))] (by first|omega|simp)) (rowC elemT [(((((s.getD a default)).elems).getD b default))] X0))),(10,X (Xc0 (z39 ({nodes:=l}:Doc) (((l.getD i default)).kind) (refsF [(((((s.getD a default)).elems).getD b default))]) (by assumption) (by assumption)) (rowC nodeT l (rowC intT (refsF [(((((s.getD a default)).elems).getD b default))]) X0))))],.r []] ((refsE (({nodes:=l}:Doc)).nodes (((l.getD i default)).kind) (refsF [(((((s.getD a default)).elems).getD b default))]) 0) !=0) (fun h18=> ?_) (fun h18=> ?_)
       ·
        have hx:newE l (l.getD i default).kind ((s.getD a default).elems.getD b default)=refsE l (l.getD i default).kind (refsF [((s.getD a default).elems.getD b default)]) 0:=y6q h15
        have T:=z8X (i:=i) (F.trans (I13.2.trans (by rw[z2C _ (by omega),hx,if_pos h18,if_pos h18]))) h18
        have e13:((z1m l i s).length:Nat)=l.length:=by
         rw[T.1]
        have e14:((z1m l i s):List Node)=l:=by
         exact T.1
        have e15:((z0X l (l.getD i default) s):Int)=(refsE (({nodes:=l}:Doc)).nodes (((l.getD i default)).kind) (refsF [(((((s.getD a default)).elems).getD b default))]) 0):=by
         exact T.2
        exact .finE [.r []] [(0,0),(1,1)] (fun((z0,z1,z2):Nat×(List Node)×Int)=>(VI z2,[(0,.box [.row 1 z0]),(1,OR 9 nodeT z1)])) _ _ (pr e13 (pr e14 e15))
       ·
        refine .back [.r [(0,X (Xn ((b:Int)+1)))]] [(0,0),(1,1)] (ih13 ((b+1):Nat) ?_ ?_)
        ·
         have hx:newE l (l.getD i default).kind ((s.getD a default).elems.getD b default)=0:=(y6q h15).trans h18
         exact⟨by omega,I13.2.trans (by rw[z2C _ (by omega),hx];rfl)⟩
        ·
         ((try dsimp only);omega)
     ·
      refine .back [.r [(0,X (Xn ((a:Int)+1)))]] [(0,0),(1,1)] (ih10 ((a+1):Nat) ?_ ?_)
      ·
       exact⟨by omega,I13.2.trans (by rw[z4D _ (by omega)];rfl)⟩
      ·
       ((try dsimp only);omega)
    ·
     have T:=fl_ok (i:=i) (F.trans (I10.2.trans (z4D _ (by omega))))
     have e16:((z1m l i s).length:Nat)=l.length:=by
      rw[T.1];exact List.length_set ..
     have e17:((z1m l i s):List Node)=(l.set i ({id:=((l.getD i default)).id,kind:=((l.getD i default)).kind,attrs:=((l.getD i default)).attrs,flow:=(rawD (((l.getD i default)).flow) s),grid:=(((l.getD i default)).grid),draw:=((l.getD i default)).draw}:Node)):=by
      exact T.1
     have e18:((z0X l (l.getD i default) s):Int)=0:=by
      exact T.2
     exact .finE [.r [(4,X (Xe nodeT l i)),(6,X (Xc1 394 (y7m (((l.getD i default)).flow) s (by assumption) (by assumption) (by assumption) (by omega)) X0)),(9,X (Xs 9 nodeT 1 l i ({id:=((l.getD i default)).id,kind:=((l.getD i default)).kind,attrs:=((l.getD i default)).attrs,flow:=(rawD (((l.getD i default)).flow) s),grid:=(((l.getD i default)).grid),draw:=((l.getD i default)).draw}:Node)))],.r []] [(0,0),(1,1)] (fun((z0,z1,z2):Nat×(List Node)×Int)=>(VI z2,[(0,.box [.row 1 z0]),(1,OR 9 nodeT z1)])) _ _ (pr e16 (pr e17 e18))
end Go.Ch
end
section
set_option linter.unusedVariables false
set_option linter.unusedSimpArgs false
set_option maxRecDepth 100000
set_option maxHeartbeats 4000000
open Go Go.Proofs Go.Ab
namespace Go.Ch
theorem y4x(l:List Node)(i:Nat)(g:GEd)(hi:i<l.length)(hb:GrB l i g):FC Tryz.prog 78 [.ptr 0 0,.eptr 1 l.length i 0,.t (gedT g)] (app emp [(0,.box [.row 1 l.length]),(1,OR 9 nodeT l)]) (VI (z06 l (l.getD i default) g)) (app emp [(0,.box [.row 1 ((z1w l i g).length)]),(1,OR 9 nodeT (z1w l i g))]):=by
 refine .go Tryz.f78 ?_
 obtain⟨hl1,hs,hg,hm,hx,l1,l2,a1,a2,hk⟩:=hb
 refine .bp [.r [],.r [(3,X (Xe nodeT l i)),(4,X (Xc0 (z7I (((l.getD i default)).kind)) X0))]] (!(hasG (((l.getD i default)).kind))) (fun h1=> ?_) (fun h1=> ?_)
 ·
  have T:=y1e (i:=i) (gr_1 (g:=g) h1) (by decide)
  have e1:((z1w l i g).length:Nat)=l.length:=by
   rw[T.1]
  have e2:((z1w l i g):List Node)=l:=by
   exact T.1
  have e3:((z06 l (l.getD i default) g):Int)=8:=by
   exact T.2
  exact .finE [.r []] [(0,0),(1,1)] (fun((z0,z1,z2):Nat×(List Node)×Int)=>(VI z2,[(0,.box [.row 1 z0]),(1,OR 9 nodeT z1)])) _ _ (pr e1 (pr e2 e3))
 ·
  refine .bp [.r [(3,X (Xe nodeT l i)),(6,X (Xc0 (z8U (((l.getD i default)).kind) g.cells) X0))],.r []] ((cellK (((l.getD i default)).kind) g.cells 0) !=0) (fun h4=> ?_) (fun h4=> ?_)
  ·
   have T:=y1e (i:=i) (gr_2 h1 h4) h4
   have e4:((z1w l i g).length:Nat)=l.length:=by
    rw[T.1]
   have e5:((z1w l i g):List Node)=l:=by
    exact T.1
   have e6:((z06 l (l.getD i default) g):Int)=(cellK (((l.getD i default)).kind) g.cells 0):=by
    exact T.2
   exact .finE [.r []] [(0,0),(1,1)] (fun((z0,z1,z2):Nat×(List Node)×Int)=>(VI z2,[(0,.box [.row 1 z0]),(1,OR 9 nodeT z1)])) _ _ (pr e4 (pr e5 e6))
  ·
   refine .bp [.r [(3,X (Xe nodeT l i)),(5,X (Xc0 (y8r (((l.getD i default)).grid) g (by assumption) (by assumption) (by assumption)) X0))],.r []] ((fitsE (((l.getD i default)).grid) g) !=0) (fun h7=> ?_) (fun h7=> ?_)
   ·
    have T:=y1e (i:=i) (gr_3 h1 h4 h7) h7
    have e7:((z1w l i g).length:Nat)=l.length:=by
     rw[T.1]
    have e8:((z1w l i g):List Node)=l:=by
     exact T.1
    have e9:((z06 l (l.getD i default) g):Int)=(fitsE (((l.getD i default)).grid) g):=by
     exact T.2
    exact .finE [.r []] [(0,0),(1,1)] (fun((z0,z1,z2):Nat×(List Node)×Int)=>(VI z2,[(0,.box [.row 1 z0]),(1,OR 9 nodeT z1)])) _ _ (pr e7 (pr e8 e9))
   ·
    have F:=gr_4 (l:=l) h1 h4 h7
    have hr:=RawT.of h7 hm hg l1 l2 a1 a2
    refine .loop (α:=Nat) [.r [(2,X (Xl cellT g.cells))]] 250 (fun b=>([(0,.ptr 0 0),(1,.eptr 1 l.length i 0),(5,.ptr 2 0),(43,VL 5 cellT g.cells),(44,VI (g.cells.length:Int)),(45,VI (b:Int))],[(0,.box [.row 1 l.length]),(1,OR 9 nodeT l),(2,.box [VL 2 stepT g.rows,VL 2 stepT g.cols,VL 5 cellT g.cells,VL 4 rectT g.split,VL 4 rectT g.merge])])) (fun b=>b≤g.cells.length∧z1B (newC l (l.getD i default).kind) g.cells=z1B (newC l (l.getD i default).kind) (g.cells.drop b)) (fun b=>g.cells.length-b) (0:Nat) ?_ ?_
    ·
     exact⟨by omega,rfl⟩
    rintro b I10 ih10
    try dsimp only at I10
    refine .bp [.r []] (decide ((b:Int)< (g.cells.length:Int))) (fun h10=> ?_) (fun h10=> ?_)
    ·
     refine .bp [.r [(0,X (Xi cellT g.cells (b:Int)))],.r []] ((((g.cells.getD b default)).ref)==0) (fun h12=> ?_) (fun h12=> ?_)
     ·
      refine .back [.r [(0,X (Xn ((b:Int)+1)))]] [(0,0),(1,1),(2,2)] (ih10 ((b+1):Nat) ?_ ?_)
      ·
       exact⟨by omega,I10.2.trans (y1g _ (by omega) (by first|exact y6r h12|exact(y1f h12).trans h14))⟩
      ·
       ((try dsimp only);omega)
     ·
      refine .bp [.r [(6,X (Xe nodeT l i)),(10,X (Xc0 (z39 ({nodes:=l}:Doc) (((l.getD i default)).kind) [((g.cells.getD b default)).ref] (by assumption) (by assumption)) (rowC nodeT l (rowC intT [((g.cells.getD b default)).ref] X0))))],.r []] ((refsE (({nodes:=l}:Doc)).nodes (((l.getD i default)).kind) [((g.cells.getD b default)).ref] 0) !=0) (fun h14=> ?_) (fun h14=> ?_)
      ·
       have hx:newC l (l.getD i default).kind (g.cells.getD b default)=refsE l (l.getD i default).kind [(g.cells.getD b default).ref] 0:=y1f h12
       have T:=y1e (i:=i) (F.trans (I10.2.trans (by rw[z2C _ (by omega),hx,if_pos h14]))) h14
       have e10:((z1w l i g).length:Nat)=l.length:=by
        rw[T.1]
       have e11:((z1w l i g):List Node)=l:=by
        exact T.1
       have e12:((z06 l (l.getD i default) g):Int)=(refsE (({nodes:=l}:Doc)).nodes (((l.getD i default)).kind) [((g.cells.getD b default)).ref] 0):=by
        exact T.2
       exact .finE [.r []] [(0,0),(1,1)] (fun((z0,z1,z2):Nat×(List Node)×Int)=>(VI z2,[(0,.box [.row 1 z0]),(1,OR 9 nodeT z1)])) _ _ (pr e10 (pr e11 e12))
      ·
       refine .back [.r [(0,X (Xn ((b:Int)+1)))]] [(0,0),(1,1),(2,2)] (ih10 ((b+1):Nat) ?_ ?_)
       ·
        exact⟨by omega,I10.2.trans (y1g _ (by omega) (by first|exact y6r h12|exact(y1f h12).trans h14))⟩
       ·
        ((try dsimp only);omega)
    ·
     refine .bp [.r [(3,X (Xe nodeT l i))]] ((((l.getD i default)).kind)==2) (fun h17=> ?_) (fun h17=> ?_)
     ·
      have T:=gr_ok (i:=i) (F.trans (I10.2.trans (z4D _ (by omega))))
      have e13:((z1w l i g).length:Nat)=l.length:=by
       rw[T.1];exact List.length_set ..
      have e14:((z1w l i g):List Node)=(l.set i ({id:=((l.getD i default)).id,kind:=((l.getD i default)).kind,attrs:=((l.getD i default)).attrs,flow:=((l.getD i default)).flow,grid:=((rawT (((l.getD i default)).grid) g)),draw:=((l.getD i default)).draw}:Node)):=by
       exact T.1
      have e15:((z06 l (l.getD i default) g):Int)=0:=by
       exact T.2
      exact .finE [.r [(4,X (Xe nodeT l i)),(6,X (Xc1 346 (y7h (((l.getD i default)).grid) g (by assumption)) X0)),(9,X (Xs 9 nodeT 1 l i ({id:=((l.getD i default)).id,kind:=((l.getD i default)).kind,attrs:=((l.getD i default)).attrs,flow:=((l.getD i default)).flow,grid:=((rawT (((l.getD i default)).grid) g)),draw:=((l.getD i default)).draw}:Node)))],.r []] [(0,0),(1,1)] (fun((z0,z1,z2):Nat×(List Node)×Int)=>(VI z2,[(0,.box [.row 1 z0]),(1,OR 9 nodeT z1)])) _ _ (pr e13 (pr e14 e15))
     ·
      exfalso
      exact y8v h1 hk h17
end Go.Ch
end
section
set_option linter.unusedVariables false
set_option linter.unusedSimpArgs false
set_option maxRecDepth 100000
set_option maxHeartbeats 4000000
open Go Go.Proofs Go.Ab
namespace Go.Ch
theorem y7M(l:List Node)(o:EOp)(hb:OneB l o):FC Tryz.prog 37 [.ptr 0 0,.t (eopT o)] (app emp [(0,.box [.row 1 l.length]),(1,OR 9 nodeT l)]) (VI (oneE l o)) (app emp [(0,.box [.row 1 ((oneL l o).length)]),(1,OR 9 nodeT (oneL l o))]):=by
 refine .go Tryz.f37 ?_
 obtain⟨hl1,hl2,hs⟩:=hb.base
 refine .bp [.r [],.r []] (o.kind==0) (fun h1=> ?_) (fun h1=> ?_)
 ·
  obtain⟨n1,n2⟩:=hb.nw h1
  have T:=one_0 (l:=l) h1
  have e1:((oneL l o).length:Nat)=(insR l o.nw).length:=by
   rw[T.1]
  have e2:((oneL l o):List Node)=(insR l o.nw):=by
   exact T.1
  have e3:((oneE l o):Int)=(adnE l o.nw):=by
   exact T.2
  exact .finE [.r [(3,X (Xc3 66 [(0,0),(1,1)] (y2t l o.nw (by omega) (by assumption) (by assumption) (by assumption)) X0))]] [(0,0),(1,1)] (fun((z0,z1,z2):Nat×(List Node)×Int)=>(VI z2,[(0,.box [.row 1 z0]),(1,OR 9 nodeT z1)])) _ _ (pr e1 (pr e2 e3))
 ·
  refine .bp [.r [(5,X (Xc0 (z5k ({nodes:=l}:Doc) o.node (by assumption) (by assumption)) (rowC nodeT l X0)))],.r []] (decide ((ixN (({nodes:=l}:Doc)).nodes o.node)< 0)) (fun h4=> ?_) (fun h4=> ?_)
  ·
   have T:=one_1 h1 (y1d.1 h4)
   have e4:((oneL l o).length:Nat)=l.length:=by
    rw[T.1]
   have e5:((oneL l o):List Node)=l:=by
    exact T.1
   have e6:((oneE l o):Int)=7:=by
    exact T.2
   exact .finE [.r []] [(0,0),(1,1)] (fun((z0,z1,z2):Nat×(List Node)×Int)=>(VI z2,[(0,.box [.row 1 z0]),(1,OR 9 nodeT z1)])) _ _ (pr e4 (pr e5 e6))
  ·
   have hh:=y1c.1 h4
   have hlt:=(z08.1 hh).1
   have hbn:=hb.nd hh
   refine .bp [.le (.eq 5 (VI (ixN (({nodes:=l}:Doc)).nodes o.node)) (VI ((lobN l o.node):Int)) (.of_eq (by rw[z9V hh]))),.r [(5,X (Xp nodeT l ((lobN l o.node):Int)))],.r [],.r []] (o.kind==1) (fun h8=> ?_) (fun h8=> ?_)
   ·
    have T:=one_2 hh h8
    have e7:((oneL l o).length:Nat)=l.length:=by
     rw[T.1];exact List.length_set ..
    have e8:((oneL l o):List Node)=(l.set (lobN l o.node) ({id:=((l.getD (lobN l o.node) default)).id,kind:=((l.getD (lobN l o.node) default)).kind,attrs:=(fm rawG (((l.getD (lobN l o.node) default)).attrs) o.attrs),flow:=((l.getD (lobN l o.node) default)).flow,grid:=(((l.getD (lobN l o.node) default)).grid),draw:=((l.getD (lobN l o.node) default)).draw}:Node)):=by
     exact T.1
    have e9:((oneE l o):Int)=0:=by
     exact T.2
    exact .finE [.r [(4,X (Xe nodeT l (lobN l o.node))),(7,X (Xc1 258 (z5S (((l.getD (lobN l o.node) default)).attrs) o.attrs (by omega)) X0)),(10,X (Xs 9 nodeT 1 l (lobN l o.node) ({id:=((l.getD (lobN l o.node) default)).id,kind:=((l.getD (lobN l o.node) default)).kind,attrs:=(fm rawG (((l.getD (lobN l o.node) default)).attrs) o.attrs),flow:=((l.getD (lobN l o.node) default)).flow,grid:=(((l.getD (lobN l o.node) default)).grid),draw:=((l.getD (lobN l o.node) default)).draw}:Node)))],.r []] [(0,0),(1,1)] (fun((z0,z1,z2):Nat×(List Node)×Int)=>(VI z2,[(0,.box [.row 1 z0]),(1,OR 9 nodeT z1)])) _ _ (pr e7 (pr e8 e9))
   ·
    refine .bp [.r []] (o.kind==2) (fun h11=> ?_) (fun h11=> ?_)
    ·
     have T:=one_3 (l:=l) hh h11
     have hfl:=hb.fl hh h11
     have e10:((oneL l o).length:Nat)=(z1m l (lobN l o.node) o.steps).length:=by
      rw[T.1]
     have e11:((oneL l o):List Node)=(z1m l (lobN l o.node) o.steps):=by
      exact T.1
     have e12:((oneE l o):Int)=(z0X l ((l).getD (lobN l o.node) default) o.steps):=by
      exact T.2
     exact .finE [.r [(4,X (Xc3 250 [(0,0),(1,1)] (y4w l (lobN l o.node) o.steps (by assumption) (by assumption)) X0))]] [(0,0),(1,1)] (fun((z0,z1,z2):Nat×(List Node)×Int)=>(VI z2,[(0,.box [.row 1 z0]),(1,OR 9 nodeT z1)])) _ _ (pr e10 (pr e11 e12))
    ·
     refine .bp [.r []] (o.kind==3) (fun h13=> ?_) (fun h13=> ?_)
     ·
      have T:=one_4 (l:=l) hh h13
      have hgr:=hb.gr hh h13
      have e13:((oneL l o).length:Nat)=(z1w l (lobN l o.node) o.grid).length:=by
       rw[T.1]
      have e14:((oneL l o):List Node)=(z1w l (lobN l o.node) o.grid):=by
       exact T.1
      have e15:((oneE l o):Int)=(z06 l ((l).getD (lobN l o.node) default) o.grid):=by
       exact T.2
      exact .finE [.r [(4,X (Xc3 266 [(0,0),(1,1)] (y4x l (lobN l o.node) o.grid (by assumption) (by assumption)) X0))]] [(0,0),(1,1)] (fun((z0,z1,z2):Nat×(List Node)×Int)=>(VI z2,[(0,.box [.row 1 z0]),(1,OR 9 nodeT z1)])) _ _ (pr e13 (pr e14 e15))
     ·
      have hkk:=hb.kd h1 h8 h11 h13
      refine .bp [.r [(3,X (Xe nodeT l (lobN l o.node))),(4,X (Xc0 (y05 (((l.getD (lobN l o.node) default)).kind)) X0))]] (!(hasD (((l.getD (lobN l o.node) default)).kind))) (fun h15=> ?_) (fun h15=> ?_)
      ·
       have T:=one_5 hh hkk h15
       have e16:((oneL l o).length:Nat)=l.length:=by
        rw[T.1]
       have e17:((oneL l o):List Node)=l:=by
        exact T.1
       have e18:((oneE l o):Int)=8:=by
        exact T.2
       exact .finE [.r []] [(0,0),(1,1)] (fun((z0,z1,z2):Nat×(List Node)×Int)=>(VI z2,[(0,.box [.row 1 z0]),(1,OR 9 nodeT z1)])) _ _ (pr e16 (pr e17 e18))
      ·
       have hdr:=hb.dr hh hkk
       refine .bp [.r [(3,X (Xe nodeT l (lobN l o.node))),(6,X (Xc1 330 (y5o (((l.getD (lobN l o.node) default)).draw) o.draw (by first|omega| (simp;omega))) X0))],.r []] ((if(z0w (((l.getD (lobN l o.node) default)).draw) o.draw).isSome then(0:Int) else 6)==0) (fun h18=> ?_) (fun h18=> ?_)
       ·
        have T:=one_6 (l:=l) hh hkk h15
        have e19:((oneL l o).length:Nat)=l.length:=by
         rw[T.1 h18];exact List.length_set ..
        have e20:((oneL l o):List Node)=(l.set (lobN l o.node) ({id:=((l.getD (lobN l o.node) default)).id,kind:=((l.getD (lobN l o.node) default)).kind,attrs:=((l.getD (lobN l o.node) default)).attrs,flow:=((l.getD (lobN l o.node) default)).flow,grid:=(((l.getD (lobN l o.node) default)).grid),draw:=((z0w (((l.getD (lobN l o.node) default)).draw) o.draw).getD [])}:Node)):=by
         exact T.1 h18
        have e21:((oneE l o):Int)=(if(z0w (((l.getD (lobN l o.node) default)).draw) o.draw).isSome then(0:Int) else 6):=by
         exact T.2.2
        exact .finE [.r [(4,X (Xs 9 nodeT 1 l (lobN l o.node) ({id:=((l.getD (lobN l o.node) default)).id,kind:=((l.getD (lobN l o.node) default)).kind,attrs:=((l.getD (lobN l o.node) default)).attrs,flow:=((l.getD (lobN l o.node) default)).flow,grid:=(((l.getD (lobN l o.node) default)).grid),draw:=((z0w (((l.getD (lobN l o.node) default)).draw) o.draw).getD [])}:Node)))],.r []] [(0,0),(1,1)] (fun((z0,z1,z2):Nat×(List Node)×Int)=>(VI z2,[(0,.box [.row 1 z0]),(1,OR 9 nodeT z1)])) _ _ (pr e19 (pr e20 e21))
       ·
        have T:=one_6 (l:=l) hh hkk h15
        have e22:((oneL l o).length:Nat)=l.length:=by
         rw[T.2.1 h18]
        have e23:((oneL l o):List Node)=l:=by
         exact T.2.1 h18
        have e24:((oneE l o):Int)=(if(z0w (((l.getD (lobN l o.node) default)).draw) o.draw).isSome then(0:Int) else 6):=by
         exact T.2.2
        exact .finE [.r []] [(0,0),(1,1)] (fun((z0,z1,z2):Nat×(List Node)×Int)=>(VI z2,[(0,.box [.row 1 z0]),(1,OR 9 nodeT z1)])) _ _ (pr e22 (pr e23 e24))
end Go.Ch
end
section
set_option linter.unusedVariables false
set_option linter.unusedSimpArgs false
set_option maxRecDepth 100000
set_option maxHeartbeats 4000000
open Go Go.Proofs Go.Ab
namespace Go.Ch
theorem z5q(d:Doc)(c:List EOp)(hb:AppB d c):FC Tryz.prog 13 [.t (docT d),VL 19 eopT c] (app emp []) (.tup [.t (docT (appD d c)),VI (appE d c)]) (app emp []):=by
 refine .go Tryz.f13 ?_
 refine .len 1 (fun hl1=> ?_)
 obtain⟨hd,ho,hr⟩:=hb
 have hdb:=hd.toDocB
 refine .bp [.r [],.r [(1,X (Xc0 (z3k d (by assumption)) X0))],.r []] ((docE d) !=0) (fun h2=> ?_) (fun h2=> ?_)
 ·
  have T:=app_1 (c:=c) h2
  have e1:((appD d c):Doc)=({nodes:=[]}:Doc):=by
   exact T.1
  have e2:((appE d c):Int)=(docE d):=by
   exact T.2
  exact .finVE [.r [(0,X (Xf [(0,9)]))]] [] [] (fun((z0,z1):Doc×Int)=>(.tup [.t (docT z0),VI z1],[])) _ _ (pr e1 e2)
 ·
  refine .bp [.r [(1,X (Xc0 (y3Z c (by assumption)) X0))],.r []] ((eopsE c 0) !=0) (fun h5=> ?_) (fun h5=> ?_)
  ·
   have T:=app_2 (d:=d) (by omega) h5
   have e3:((appD d c):Doc)=({nodes:=[]}:Doc):=by
    exact T.1
   have e4:((appE d c):Int)=(eopsE c 0):=by
    exact T.2
   exact .finVE [.r [(0,X (Xf [(0,9)]))]] [] [] (fun((z0,z1):Doc×Int)=>(.tup [.t (docT z0),VI z1],[])) _ _ (pr e3 e4)
  ·
   refine .loop (α:=Nat×(List Node)) [.r [(1,X (Xc1 112 (y3M d (by assumption)) X0))],.r [(1,X (Xl eopT c))]] 160 (fun(i,o)=>([(4,.ptr 8 0),(8,.ptr 120 0),(26,VL 19 eopT c),(27,VI (c.length:Int)),(28,VI (i:Int))],[(8,.box [VN]),(113,OR 9 nodeT o),(120,.box [.row 113 o.length])])) (fun(i,o)=>i≤c.length∧RunB o (c.drop i)∧runE d.nodes c=runE o (c.drop i)∧runL d.nodes c=runL o (c.drop i)) (fun(i,o)=>c.length-i) (0,(d).nodes) ?_ ?_
   ·
    exact⟨by omega,hr (by omega) (by omega),rfl,rfl⟩
   rintro⟨i,o⟩ I9 ih9
   try dsimp only at I9
   refine .bp [.r []] (decide ((i:Int)< (c.length:Int))) (fun h9=> ?_) (fun h9=> ?_)
   ·
    obtain⟨q1,q2,q3,q4⟩:=I9
    rw[z3j (by omega)] at q2 q3 q4
    have hone:=q2.1
    refine .bp [.r [(0,X (Xi eopT c (i:Int)))],.r [(1,X (Xc3 208 [(0,120),(1,113)] (y7M o ((c.getD i default)) (by assumption)) X0))],.r []] ((oneE o ((c.getD i default))) !=0) (fun h12=> ?_) (fun h12=> ?_)
    ·
     have T:=app_3 (d:=d) (c:=c) (by omega) (by omega) (q3.trans (by rw[runE,if_pos h12])) h12
     have e5:((appD d c):Doc)=({nodes:=[]}:Doc):=by
      exact T.1
     have e6:((appE d c):Int)=(oneE o ((c.getD i default))):=by
      exact T.2
     exact .finVE [.r [(0,X (Xf [(0,9)]))]] [] [] (fun((z0,z1):Doc×Int)=>(.tup [.t (docT z0),VI z1],[])) _ _ (pr e5 e6)
    ·
     refine .back [.r [(0,X (Xn ((i:Int)+1)))]] [(8,8),(113,113),(120,120)] (ih9 ((i+1),(oneL o ((c.getD i default)))) ?_ ?_)
     ·
      rw[runE,if_neg (by omega)] at q3
      exact⟨by omega,q2.2 h12,q3,q4⟩
     ·
      ((try dsimp only);omega)
   ·
    have T:=app_4 (d:=d) (c:=c) (by omega) (by omega) (I9.2.2.1.trans (by rw[List.drop_eq_nil_of_le (by omega)];try rfl)) (I9.2.2.2.trans (by rw[List.drop_eq_nil_of_le (by omega)];try rfl))
    have e7:((appD d c):Doc)=({nodes:=o}:Doc):=by
     exact T.1
    have e8:((appE d c):Int)=0:=by
     exact T.2
    exact .finVE [.r []] [.fR 0 [(o.length:Nat)=(List.map nodeT o).length] ⟨lm,trivial⟩] [] (fun((z0,z1):Doc×Int)=>(.tup [.t (docT z0),VI z1],[])) _ _ (pr e7 e8)
end Go.Ch
end
section
set_option linter.unusedVariables false
namespace Go.Ch
open Go Go.Ab
def z0e:Doc:=⟨[⟨1,0,[],[⟨0,2,[]⟩],⟨0,0,[],[]⟩,[]⟩,⟨2,1,[],[⟨10,0,[]⟩],⟨0,0,[],[]⟩,[]⟩]⟩
def baseD:Doc:=⟨[⟨1,0,[],[⟨0,2,[]⟩,⟨0,3,[]⟩],⟨0,0,[],[]⟩,[]⟩,⟨2,1,[],[⟨97,0,[]⟩,⟨98,0,[]⟩,⟨99,0,[]⟩,⟨10,0,[]⟩,⟨100,0,[]⟩,⟨10,0,[]⟩],⟨0,0,[],[]⟩,[]⟩,⟨3,10,[],[],⟨0,0,[],[]⟩,[]⟩]⟩
def node1:Node:=⟨1,0,[],[⟨0,2,[]⟩],⟨0,0,[],[]⟩,[]⟩
def node2:Node:=⟨2,1,[],[⟨10,0,[]⟩],⟨0,0,[],[]⟩,[]⟩
theorem z6e:docE z0e=0:=by decide+kernel
theorem z6f:DocL z0e:=by
 have hx:∀n∈z0e.nodes,n=node1∨n=node2:=fun n hn=>by
  have hn:n∈[node1,node2]:=hn
  simpa using hn
 refine⟨⟨by decide,fun n hn=> ?_,by decide⟩,fun n hn=> ?_⟩
 ·rcases hx n hn with rfl|rfl
  ·refine⟨(fun a h=>by cases h),by decide,fun x h=> ?_,by decide,fun x h=> ?_,(fun c h=>by cases h),by decide,(fun c h=>by cases h),by decide,by decide,(fun o h=>by cases h)⟩
   ·rw[show x=⟨0,2,[]⟩ by simpa[node1] using h];exact(fun a h=>by cases h)
   ·rw[show x=⟨0,2,[]⟩ by simpa[node1] using h];decide
  ·refine⟨(fun a h=>by cases h),by decide,fun x h=> ?_,by decide,fun x h=> ?_,(fun c h=>by cases h),by decide,(fun c h=>by cases h),by decide,by decide,(fun o h=>by cases h)⟩
   ·rw[show x=⟨10,0,[]⟩ by simpa[node2] using h];exact(fun a h=>by cases h)
   ·rw[show x=⟨10,0,[]⟩ by simpa[node2] using h];decide
 ·rcases hx n hn with rfl|rfl<;>exact⟨rfl,(fun c h=>by cases h)⟩
structure Vis where
 id:Int
 parent:Int
 vis:Bool
instance:Inhabited Vis:=⟨⟨0,0,false⟩⟩
def onM(k:Int):Int×MV:=(k,.im (Ab.TB true))
def onA(s:ByteArray):List Attr:=[⟨s,{data:=#[111,110]}⟩]
def probE:List EOp:=[opA 2 (onA {data:=#[116,105,116,108,101]})]
theorem y8G:AppB z0e probE:=by
 have hl:=z6f
 have ho:OpL (opA 2 (onA {data:=#[116,105,116,108,101]})):=by
  refine⟨⟨by decide,by decide,by decide,by decide,by decide⟩,⟨(fun a h=>by cases h),by decide,(fun x h=>by cases h),by decide,(fun x h=>by cases h),(fun c h=>by cases h),by decide,(fun c h=>by cases h),by decide,by decide,(fun o h=>by cases h)⟩,⟨rfl,(fun c h=>by cases h)⟩,by decide,(fun s h=>by cases h),⟨rfl,rfl,(fun c h=>by cases h),by decide⟩,(fun c h=>by cases h),by decide⟩
 refine⟨hl,fun o h=> ?_,fun h1 h2=>⟨⟨by decide,z5h z6e,by decide+kernel,ho,fun n hn=>⟨hl.all n hn,hl.lite n hn,?_⟩,fun h=>absurd h (by decide)⟩,fun _=>trivial⟩⟩
 ·rw[show o=opA 2 (onA {data:=#[116,105,116,108,101]}) by simpa[probE] using h];exact ho
 ·have hn:n∈[node1,node2]:=hn
  simp only[List.mem_cons,List.not_mem_nil,or_false] at hn
  rcases hn with rfl|rfl<;>decide
def stepG(site:Int)(d:Doc)(a b c:Int):Doc:=if appE d (cmdP d site a b c)=0 then appD d (cmdP d site a b c) else d
theorem z6g{site:Int}{d:Doc}{a b c:Int}(h:appE d (cmdP d site a b c)=0):stepG site d a b c=appD d (cmdP d site a b c):=if_pos h
theorem z6h{site:Int}{d:Doc}{a b c:Int}(h:¬appE d (cmdP d site a b c)=0):stepG site d a b c=d:=if_neg h
def z1x(site:Int)(raw:List Int)(d:Doc)(k:Nat):Doc:=
 if k+2<raw.length∧k<36 then z1x site raw (stepG site d (raw.getD k default) (raw.getD (k+1) default) (raw.getD (k+2) default)) (k+3) else d
termination_by raw.length-k
theorem z5r{site:Int}{raw:List Int}{d:Doc}{k:Nat}(h:k+2<raw.length∧k<36):z1x site raw d k=z1x site raw (stepG site d (raw.getD k default) (raw.getD (k+1) default) (raw.getD (k+2) default)) (k+3):=by
 rw[z1x,if_pos h]
theorem z6i{site:Int}{raw:List Int}{d:Doc}{k:Nat}(h:¬(k+2<raw.length∧k<36)):z1x site raw d k=d:=by rw[z1x,if_neg h]
structure GInv(site:Int)(G:Nat→Doc→Prop):Prop where
 doc:∀{k d},G k d→DocL d
 cmd:∀{k d} (b c:Int),G k d→CmdB d site b c
 app:∀{k d} (a b c:Int),G k d→AppB d (cmdP d site a b c)
 step:∀{k d} (a b c:Int),k<55→G k d→G (k+3) (stepG site d a b c)
 more:∀{k d},k<55→G k d→G (k+3) d
end Go.Ch
end
section
set_option linter.unusedVariables false
set_option linter.unusedSimpArgs false
set_option maxRecDepth 100000
set_option maxHeartbeats 4000000
open Go Go.Proofs Go.Ab
namespace Go.Ch
theorem z5s:FC Tryz.prog 21 [] (app emp []) (.t (docT z0e)) (app emp []):=by
 refine .go Tryz.f21 ?_
 have e1:(z0e:Doc)=({nodes:=[({id:=1,kind:=0,attrs:=[],flow:=[({char:=0,ref:=2,attrs:=[]}:Elem)],grid:=({rows:=0,cols:=0,cells:=[],merges:=[]}:Grid),draw:=[]}:Node),({id:=2,kind:=1,attrs:=[],flow:=[({char:=10,ref:=0,attrs:=[]}:Elem)],grid:=({rows:=0,cols:=0,cells:=[],merges:=[]}:Grid),draw:=[]}:Node)]}:Doc):=by
  rfl
 exact .finVE [.r [],.r [(0,X (Xf [(2,2)])),(2,X (Xf [(2,2),(6,5),(7,4),(8,8)])),(3,X (Xf [(2,2)])),(5,X (Xf [(2,2),(6,5),(7,4),(8,8)])),(6,X (rowC elemT [({char:=0,ref:=2,attrs:=[]}:Elem)] (rowC elemT [({char:=10,ref:=0,attrs:=[]}:Elem)] X0)))]] [.fR 0 [(2:Nat)=(List.map nodeT [({id:=1,kind:=0,attrs:=[],flow:=[({char:=0,ref:=2,attrs:=[]}:Elem)],grid:=({rows:=0,cols:=0,cells:=[],merges:=[]}:Grid),draw:=[]}:Node),({id:=2,kind:=1,attrs:=[],flow:=[({char:=10,ref:=0,attrs:=[]}:Elem)],grid:=({rows:=0,cols:=0,cells:=[],merges:=[]}:Grid),draw:=[]}:Node)]).length] ⟨lm,trivial⟩] [] (fun z0:Doc=>(.t (docT z0),[])) _ _ e1
theorem y4y:FC Tryz.prog 21 [] (app emp []) (.agg [.bsl 1 2]) (app emp [(0,.box [.bsl 1 2]),(1,.box [VI 1,VI 0,VL 2 attrT [],.row 2 1,VI 0,VI 0,VL 5 cellT [],VL 4 rectT [],VL 8 dopT [],VI 2,VI 1,VL 2 attrT [],.row 3 1,VI 0,VI 0,VL 5 cellT [],VL 4 rectT [],VL 8 dopT []]),(2,OR 3 elemT [({char:=0,ref:=2,attrs:=[]}:Elem)]),(3,OR 3 elemT [({char:=10,ref:=0,attrs:=[]}:Elem)])]):=by
 refine .go Tryz.f21 ?_
 exact .fin [.r [],.r [(0,X (Xf [(2,2)])),(2,X (Xf [(2,2),(6,5),(7,4),(8,8)])),(3,X (Xf [(2,2)])),(5,X (Xf [(2,2),(6,5),(7,4),(8,8)])),(6,X Xbsl)]] [(0,0),(56,1),(16,2),(40,3)]
theorem y7N:FC Tryz.prog 144 [.t (.agg [TI 1,TI 0,Ab.TB true]),.ptr 0 0,.ptr 1 0] (app emp [(0,.box [VI 2]),(1,.box [VB false])]) (VB true) (app emp [(0,.box [VI 2]),(1,.box [VB false])]):=by
 refine .go Tryz.f144 ?_
 exact .fin [.r [],.r [],.f,.r []] [(0,0),(1,1)]
theorem y7O:FC Tryz.prog 144 [.t (.agg [TI 2,TI 1,Ab.TB true]),.ptr 0 0,.ptr 1 0] (app emp [(0,.box [VI 2]),(1,.box [VB false])]) (VB false) (app emp [(0,.box [VI 2]),(1,.box [VB true])]):=by
 refine .go Tryz.f144 ?_
 exact .fin [.r [],.r [],.t,.r [],.r []] [(0,0),(1,1)]
theorem fc_w2:FC Tryz.prog 187 [.t (.agg [TI 2,TI 1,Ab.TB true]),.ptr 0 0,.ptr 1 0,.ptr 2 0,.ptr 3 0] (app emp [(0,.box [.hdl 4]),(1,.box [.fn 144 [.ptr 5 0,.ptr 6 0]]),(2,.box [VL 9 nodeT z0e.nodes]),(3,.box [.fn 187 [.ptr 0 0,.ptr 1 0,.ptr 2 0,.ptr 3 0]]),(4,.mp (List.map onM [1]) none),(5,.box [VI 2]),(6,.box [VB false])]) (VB false) (app emp [(0,.box [.hdl 4]),(1,.box [.fn 144 [.ptr 5 0,.ptr 6 0]]),(2,.box [VL 9 nodeT z0e.nodes]),(3,.box [.fn 187 [.ptr 0 0,.ptr 1 0,.ptr 2 0,.ptr 3 0]]),(4,.mp (List.map onM [1,2]) none),(5,.box [VI 2]),(6,.box [VB true])]):=by
 refine .go Tryz.f187 ?_
 exact .fin [.r [],.r [(3,X (Xm0 (List.map onM [1]) 2) (by kernel_rfl))],.f,.r [(3,X (Xmu onM [1] [1,2] 2 4 (.im (Ab.TB true))) (by kernel_rfl))],.r [(2,X (Xc3 103 [(0,5),(1,6)] y7O X0))],.t,.r []] [(0,0),(1,1),(2,2),(3,3),(4,4),(5,5),(6,6)]
theorem fc_w1:FC Tryz.prog 187 [.t (.agg [TI 1,TI 0,Ab.TB true]),.ptr 0 0,.ptr 1 0,.ptr 2 0,.ptr 3 0] (app emp [(0,.box [.hdl 4]),(1,.box [.fn 144 [.ptr 5 0,.ptr 6 0]]),(2,.box [VL 9 nodeT z0e.nodes]),(3,.box [.fn 187 [.ptr 0 0,.ptr 1 0,.ptr 2 0,.ptr 3 0]]),(4,.mp (List.map onM []) none),(5,.box [VI 2]),(6,.box [VB false])]) (VB false) (app emp [(0,.box [.hdl 4]),(1,.box [.fn 144 [.ptr 5 0,.ptr 6 0]]),(2,.box [VL 9 nodeT z0e.nodes]),(3,.box [.fn 187 [.ptr 0 0,.ptr 1 0,.ptr 2 0,.ptr 3 0]]),(4,.mp (List.map onM [1,2]) none),(5,.box [VI 2]),(6,.box [VB true])]):=by
 refine .go Tryz.f187 ?_
 have hs:=z5h z6e
 have hl:z0e.nodes.length≤1048576:=by decide
 refine .bp [.r [],.r [(3,X (Xm0 (List.map onM []) 1) (by kernel_rfl))],.f,.r [(3,X (Xmu onM [] [1] 1 4 (.im (Ab.TB true))) (by kernel_rfl))],.r [(2,X (Xc3 103 [(0,5),(1,6)] y7N X0))],.f,.r [(3,X (Xc0 (z7K z0e 1 (by assumption) (by assumption)) X0))],.le (.eq 7 (VI (lobN (z0e).nodes 1:Int)) (VI 0) (.of_eq (by kernel_rfl))),.r [(3,X (Xi nodeT z0e.nodes 0) ⟨(by first|omega| (simp;omega)| (simp;done)|assumption),(by decide)⟩)],.r [(2,X (Xc1 263 (z5Z (((z0e.nodes.getD 0 default)).flow) (by decide)) X0))],.u,.r []] (decide (0< ((refsF (((z0e.nodes.getD 0 default)).flow)).length:Int))) (fun h9=> ?_) (fun h9=> ?_)
 ·
  exact .fin [.r [(0,X (Xp intT (refsF (((z0e.nodes.getD 0 default)).flow)) 0)),(1,X (Xe intT (refsF (((z0e.nodes.getD 0 default)).flow)) 0))],.le (.eq 11 (VI ((refsF (((z0e.nodes.getD 0 default)).flow)).getD 0 default)) (VI 2) (.of_eq (by kernel_rfl))),.r [(7,X (Xc3 375 [(0,0),(1,1),(2,2),(3,3),(4,4),(5,5),(6,6)] fc_w2 X0))],.t,.r []] [(0,0),(1,1),(2,2),(3,3),(4,4),(5,5),(6,6)]
 ·
  exfalso
  exact absurd h9 (by decide)
theorem y5W:FC Tryz.prog 143 [.t (docT z0e),.fn 144 [.ptr 0 0,.ptr 1 0]] (app emp [(0,.box [VI 2]),(1,.box [VB false])]) (.tup []) (app emp [(0,.box [VI 2]),(1,.box [VB true])]):=by
 refine .go Tryz.f143 ?_
 exact .fin [.r [],.r [],.r [],.r [],.r [(2,X (Xc3 82 [(0,26),(1,10),(2,2),(3,42),(4,18),(5,0),(6,1)] fc_w1 X0))]] [(0,0),(1,1)]
theorem y2u:FC Tryz.prog 92 [.t (docT z0e),VI 2] (app emp []) (VB true) (app emp []):=by
 refine .go Tryz.f92 ?_
 have hb:=z6f
 refine .bp [.r [],.r [],.r [(1,X (Xc0 (z3k z0e (by assumption)) X0))]] ((docE z0e) !=0) (fun h2=> ?_) (fun h2=> ?_)
 ·
  exfalso
  exact h2 z6e
 ·
  exact .fin [.r [(2,X (Xc3 80 [(0,8),(1,24)] y5W X0))],.r []] []
end Go.Ch
end
section
set_option linter.unusedVariables false
set_option linter.unusedSimpArgs false
set_option maxRecDepth 100000
set_option maxHeartbeats 4000000
open Go Go.Proofs Go.Ab
namespace Go.Ch
theorem y7P:FC Tryz.prog 53 [] (app emp []) (VB true) (app emp []):=by
 refine .go Tryz.f53 ?_
 have hb:=z6f
 have e1:(((((docE z0e)==0)&&((z0e.nodes.length:Int)==2))||false):Bool)=true:=by
  rw[z6e];rfl
 exact .finE [.r [],.r [(0,X (Xc1 8 z5s X0))],.r [(1,X (Xc0 (z3k z0e (by assumption)) X0)),(5,Xv 1 ((docE z0e)==0) X0),(6,Xv 1 ((docE z0e)==0) (Xl nodeT z0e.nodes)),(7,Xv 1 ((docE z0e)==0) X0),(8,X (Xk ((docE z0e)==0))),(11,Xv 1 (((docE z0e)==0)&&((z0e.nodes.length:Int)==2)) (Xc0 y2u X0)),(12,X (Xk (((docE z0e)==0)&&((z0e.nodes.length:Int)==2))))]] [] (fun z0:Bool=>(VB z0,[])) _ _ e1.symm
theorem y8H(s:ByteArray):FC Tryz.prog 52 [VS s] (app emp []) (VL 2 attrT (onA s)) (app emp []):=by
 refine .go Tryz.f52 ?_
 have e1:((onA s):List Attr)=[({name:=s,val:={data:=#[111,110]}}:Attr)]:=by
  rfl
 exact .finE [.r [],.r [],.le (.fr 2 [(1:Nat)=(List.map attrT [({name:=s,val:={data:=#[111,110]}}:Attr)]).length] ⟨lm,trivial⟩)] [] (fun z0:List Attr=>(VL 2 attrT z0,[])) _ _ e1
theorem y5X:FC Tryz.prog 22 [] (app emp []) (VB true) (app emp []):=by
 refine .go Tryz.f22 ?_
 have hp:=y8G
 have e1:((((true&&((appE z0e [({kind:=1,node:=2,nw:=({id:=0,kind:=0,attrs:=[],flow:=[],grid:=({rows:=0,cols:=0,cells:=[],merges:=[]}:Grid),draw:=[]}:Node),attrs:=(onA ({data:=#[116,105,116,108,101]})),steps:=[],grid:=({rows:=[],cols:=[],cells:=[],split:=[],merge:=[]}:GEd),draw:=[]}:EOp)])==0))&&(((((appD z0e [({kind:=1,node:=2,nw:=({id:=0,kind:=0,attrs:=[],flow:=[],grid:=({rows:=0,cols:=0,cells:=[],merges:=[]}:Grid),draw:=[]}:Node),attrs:=(onA ({data:=#[116,105,116,108,101]})),steps:=[],grid:=({rows:=[],cols:=[],cells:=[],split:=[],merge:=[]}:GEd),draw:=[]}:EOp)])).nodes).length:Int)==2))&&((((((((appD z0e [({kind:=1,node:=2,nw:=({id:=0,kind:=0,attrs:=[],flow:=[],grid:=({rows:=0,cols:=0,cells:=[],merges:=[]}:Grid),draw:=[]}:Node),attrs:=(onA ({data:=#[116,105,116,108,101]})),steps:=[],grid:=({rows:=[],cols:=[],cells:=[],split:=[],merge:=[]}:GEd),draw:=[]}:EOp)])).nodes).getD 1 default)).attrs).length:Int)==1)):Bool)=true:=by
  exact(by decide+kernel)
 exact .finE [.r [],.r [(0,X (Xc1 8 z5s X0)),(1,X (Xc1 16 (y8H ({data:=#[116,105,116,108,101]})) X0)),(2,X (Xf [(4,2),(5,3),(8,5),(9,4),(10,8),(12,4),(13,2),(14,2),(15,5),(16,4),(17,4),(18,8)])),(4,X (Xc1 40 (z5q z0e [({kind:=1,node:=2,nw:=({id:=0,kind:=0,attrs:=[],flow:=[],grid:=({rows:=0,cols:=0,cells:=[],merges:=[]}:Grid),draw:=[]}:Node),attrs:=(onA ({data:=#[116,105,116,108,101]})),steps:=[],grid:=({rows:=[],cols:=[],cells:=[],split:=[],merge:=[]}:GEd),draw:=[]}:EOp)] hp) (rowC eopT [({kind:=1,node:=2,nw:=({id:=0,kind:=0,attrs:=[],flow:=[],grid:=({rows:=0,cols:=0,cells:=[],merges:=[]}:Grid),draw:=[]}:Node),attrs:=(onA ({data:=#[116,105,116,108,101]})),steps:=[],grid:=({rows:=[],cols:=[],cells:=[],split:=[],merge:=[]}:GEd),draw:=[]}:EOp)] X0)))],.r [(0,X (Xc0 y7P X0)),(3,Xv 1 true X0),(4,X (Xk true)),(7,Xv 1 (true&&((appE z0e [({kind:=1,node:=2,nw:=({id:=0,kind:=0,attrs:=[],flow:=[],grid:=({rows:=0,cols:=0,cells:=[],merges:=[]}:Grid),draw:=[]}:Node),attrs:=(onA ({data:=#[116,105,116,108,101]})),steps:=[],grid:=({rows:=[],cols:=[],cells:=[],split:=[],merge:=[]}:GEd),draw:=[]}:EOp)])==0)) X0),(8,Xv 1 (true&&((appE z0e [({kind:=1,node:=2,nw:=({id:=0,kind:=0,attrs:=[],flow:=[],grid:=({rows:=0,cols:=0,cells:=[],merges:=[]}:Grid),draw:=[]}:Node),attrs:=(onA ({data:=#[116,105,116,108,101]})),steps:=[],grid:=({rows:=[],cols:=[],cells:=[],split:=[],merge:=[]}:GEd),draw:=[]}:EOp)])==0)) (Xl nodeT (((appD z0e [({kind:=1,node:=2,nw:=({id:=0,kind:=0,attrs:=[],flow:=[],grid:=({rows:=0,cols:=0,cells:=[],merges:=[]}:Grid),draw:=[]}:Node),attrs:=(onA ({data:=#[116,105,116,108,101]})),steps:=[],grid:=({rows:=[],cols:=[],cells:=[],split:=[],merge:=[]}:GEd),draw:=[]}:EOp)])).nodes))),(9,Xv 1 (true&&((appE z0e [({kind:=1,node:=2,nw:=({id:=0,kind:=0,attrs:=[],flow:=[],grid:=({rows:=0,cols:=0,cells:=[],merges:=[]}:Grid),draw:=[]}:Node),attrs:=(onA ({data:=#[116,105,116,108,101]})),steps:=[],grid:=({rows:=[],cols:=[],cells:=[],split:=[],merge:=[]}:GEd),draw:=[]}:EOp)])==0)) X0),(10,X (Xk (true&&((appE z0e [({kind:=1,node:=2,nw:=({id:=0,kind:=0,attrs:=[],flow:=[],grid:=({rows:=0,cols:=0,cells:=[],merges:=[]}:Grid),draw:=[]}:Node),attrs:=(onA ({data:=#[116,105,116,108,101]})),steps:=[],grid:=({rows:=[],cols:=[],cells:=[],split:=[],merge:=[]}:GEd),draw:=[]}:EOp)])==0)))),(13,Xv 1 ((true&&((appE z0e [({kind:=1,node:=2,nw:=({id:=0,kind:=0,attrs:=[],flow:=[],grid:=({rows:=0,cols:=0,cells:=[],merges:=[]}:Grid),draw:=[]}:Node),attrs:=(onA ({data:=#[116,105,116,108,101]})),steps:=[],grid:=({rows:=[],cols:=[],cells:=[],split:=[],merge:=[]}:GEd),draw:=[]}:EOp)])==0))&&(((((appD z0e [({kind:=1,node:=2,nw:=({id:=0,kind:=0,attrs:=[],flow:=[],grid:=({rows:=0,cols:=0,cells:=[],merges:=[]}:Grid),draw:=[]}:Node),attrs:=(onA ({data:=#[116,105,116,108,101]})),steps:=[],grid:=({rows:=[],cols:=[],cells:=[],split:=[],merge:=[]}:GEd),draw:=[]}:EOp)])).nodes).length:Int)==2)) X0),(14,Xv 1 ((true&&((appE z0e [({kind:=1,node:=2,nw:=({id:=0,kind:=0,attrs:=[],flow:=[],grid:=({rows:=0,cols:=0,cells:=[],merges:=[]}:Grid),draw:=[]}:Node),attrs:=(onA ({data:=#[116,105,116,108,101]})),steps:=[],grid:=({rows:=[],cols:=[],cells:=[],split:=[],merge:=[]}:GEd),draw:=[]}:EOp)])==0))&&(((((appD z0e [({kind:=1,node:=2,nw:=({id:=0,kind:=0,attrs:=[],flow:=[],grid:=({rows:=0,cols:=0,cells:=[],merges:=[]}:Grid),draw:=[]}:Node),attrs:=(onA ({data:=#[116,105,116,108,101]})),steps:=[],grid:=({rows:=[],cols:=[],cells:=[],split:=[],merge:=[]}:GEd),draw:=[]}:EOp)])).nodes).length:Int)==2)) (Xi nodeT (((appD z0e [({kind:=1,node:=2,nw:=({id:=0,kind:=0,attrs:=[],flow:=[],grid:=({rows:=0,cols:=0,cells:=[],merges:=[]}:Grid),draw:=[]}:Node),attrs:=(onA ({data:=#[116,105,116,108,101]})),steps:=[],grid:=({rows:=[],cols:=[],cells:=[],split:=[],merge:=[]}:GEd),draw:=[]}:EOp)])).nodes) 1)),(15,Xv 1 ((true&&((appE z0e [({kind:=1,node:=2,nw:=({id:=0,kind:=0,attrs:=[],flow:=[],grid:=({rows:=0,cols:=0,cells:=[],merges:=[]}:Grid),draw:=[]}:Node),attrs:=(onA ({data:=#[116,105,116,108,101]})),steps:=[],grid:=({rows:=[],cols:=[],cells:=[],split:=[],merge:=[]}:GEd),draw:=[]}:EOp)])==0))&&(((((appD z0e [({kind:=1,node:=2,nw:=({id:=0,kind:=0,attrs:=[],flow:=[],grid:=({rows:=0,cols:=0,cells:=[],merges:=[]}:Grid),draw:=[]}:Node),attrs:=(onA ({data:=#[116,105,116,108,101]})),steps:=[],grid:=({rows:=[],cols:=[],cells:=[],split:=[],merge:=[]}:GEd),draw:=[]}:EOp)])).nodes).length:Int)==2)) X0),(16,Xv 1 ((true&&((appE z0e [({kind:=1,node:=2,nw:=({id:=0,kind:=0,attrs:=[],flow:=[],grid:=({rows:=0,cols:=0,cells:=[],merges:=[]}:Grid),draw:=[]}:Node),attrs:=(onA ({data:=#[116,105,116,108,101]})),steps:=[],grid:=({rows:=[],cols:=[],cells:=[],split:=[],merge:=[]}:GEd),draw:=[]}:EOp)])==0))&&(((((appD z0e [({kind:=1,node:=2,nw:=({id:=0,kind:=0,attrs:=[],flow:=[],grid:=({rows:=0,cols:=0,cells:=[],merges:=[]}:Grid),draw:=[]}:Node),attrs:=(onA ({data:=#[116,105,116,108,101]})),steps:=[],grid:=({rows:=[],cols:=[],cells:=[],split:=[],merge:=[]}:GEd),draw:=[]}:EOp)])).nodes).length:Int)==2)) X0),(17,Xv 1 ((true&&((appE z0e [({kind:=1,node:=2,nw:=({id:=0,kind:=0,attrs:=[],flow:=[],grid:=({rows:=0,cols:=0,cells:=[],merges:=[]}:Grid),draw:=[]}:Node),attrs:=(onA ({data:=#[116,105,116,108,101]})),steps:=[],grid:=({rows:=[],cols:=[],cells:=[],split:=[],merge:=[]}:GEd),draw:=[]}:EOp)])==0))&&(((((appD z0e [({kind:=1,node:=2,nw:=({id:=0,kind:=0,attrs:=[],flow:=[],grid:=({rows:=0,cols:=0,cells:=[],merges:=[]}:Grid),draw:=[]}:Node),attrs:=(onA ({data:=#[116,105,116,108,101]})),steps:=[],grid:=({rows:=[],cols:=[],cells:=[],split:=[],merge:=[]}:GEd),draw:=[]}:EOp)])).nodes).length:Int)==2)) (Xl attrT ((((((appD z0e [({kind:=1,node:=2,nw:=({id:=0,kind:=0,attrs:=[],flow:=[],grid:=({rows:=0,cols:=0,cells:=[],merges:=[]}:Grid),draw:=[]}:Node),attrs:=(onA ({data:=#[116,105,116,108,101]})),steps:=[],grid:=({rows:=[],cols:=[],cells:=[],split:=[],merge:=[]}:GEd),draw:=[]}:EOp)])).nodes).getD 1 default)).attrs))),(18,Xv 1 ((true&&((appE z0e [({kind:=1,node:=2,nw:=({id:=0,kind:=0,attrs:=[],flow:=[],grid:=({rows:=0,cols:=0,cells:=[],merges:=[]}:Grid),draw:=[]}:Node),attrs:=(onA ({data:=#[116,105,116,108,101]})),steps:=[],grid:=({rows:=[],cols:=[],cells:=[],split:=[],merge:=[]}:GEd),draw:=[]}:EOp)])==0))&&(((((appD z0e [({kind:=1,node:=2,nw:=({id:=0,kind:=0,attrs:=[],flow:=[],grid:=({rows:=0,cols:=0,cells:=[],merges:=[]}:Grid),draw:=[]}:Node),attrs:=(onA ({data:=#[116,105,116,108,101]})),steps:=[],grid:=({rows:=[],cols:=[],cells:=[],split:=[],merge:=[]}:GEd),draw:=[]}:EOp)])).nodes).length:Int)==2)) X0),(19,X (Xk ((true&&((appE z0e [({kind:=1,node:=2,nw:=({id:=0,kind:=0,attrs:=[],flow:=[],grid:=({rows:=0,cols:=0,cells:=[],merges:=[]}:Grid),draw:=[]}:Node),attrs:=(onA ({data:=#[116,105,116,108,101]})),steps:=[],grid:=({rows:=[],cols:=[],cells:=[],split:=[],merge:=[]}:GEd),draw:=[]}:EOp)])==0))&&(((((appD z0e [({kind:=1,node:=2,nw:=({id:=0,kind:=0,attrs:=[],flow:=[],grid:=({rows:=0,cols:=0,cells:=[],merges:=[]}:Grid),draw:=[]}:Node),attrs:=(onA ({data:=#[116,105,116,108,101]})),steps:=[],grid:=({rows:=[],cols:=[],cells:=[],split:=[],merge:=[]}:GEd),draw:=[]}:EOp)])).nodes).length:Int)==2))))]] [] (fun z0:Bool=>(VB z0,[])) _ _ e1.symm
end Go.Ch
end
section
set_option linter.unusedVariables false
set_option linter.unusedSimpArgs false
set_option maxRecDepth 100000
set_option maxHeartbeats 4000000
open Go Go.Proofs Go.Ab
namespace Go.Ch
theorem y5Y(d:Doc)(site:Int)(raw:List Int)(G:Nat→Doc→Prop)(hI:GInv site G)(hg:G 0 d):FC Tryz.prog 24 [.t (docT d),VI site,VL 1 intT raw] (app emp []) (.t (docT (z1x site raw d 0))) (app emp []):=by
 refine .go Tryz.f24 ?_
 refine .len 2 (fun hl2=> ?_)
 refine .loop (α:=Nat×(List Node)) [.r [],.r []] 24 (fun(k,o0c0)=>([(1,VI site),(2,VL 1 intT raw),(3,.ptr 0 0),(6,.ptr 8 0),(7,VI (k:Int))],[(0,.box [VL 9 nodeT o0c0]),(8,.box [VN])])) (fun(k,o0c0)=>k≤38∧z1x site raw d 0=z1x site raw ⟨o0c0⟩ k∧G k ⟨o0c0⟩) (fun(k,o0c0)=>raw.length-k) (0,d.nodes) ?_ ?_
 ·
  exact⟨by omega,rfl,hg⟩
 rintro⟨k,o0c0⟩ I2 ih2
 try dsimp only at I2
 refine .bp [.r [(1,X (Xn ((k:Int)+2))),(3,X (Xl intT raw)),(7,Xv 1 (decide (((k:Int)+2)< (raw.length:Int))) X0),(8,X (Xk (decide (((k:Int)+2)< (raw.length:Int)))))]] (decide (((k:Int)+2)< (raw.length:Int))&&decide ((k:Int)< 36)) (fun h2=> ?_) (fun h2=> ?_)
 ·
  have hD:=hI.doc I2.2.2
  have hC:=hI.cmd (raw.getD (k+1) default) (raw.getD (k+2) default) I2.2.2
  have hA:=hI.app (raw.getD k default) (raw.getD (k+1) default) (raw.getD (k+2) default) I2.2.2
  refine .bp [.r [(5,X (Xi intT raw (k:Int))),(9,X (Xn ((k:Int)+1))),(10,X (Xi intT raw ((k:Int)+1))),(14,X (Xn ((k:Int)+2))),(15,X (Xi intT raw ((k:Int)+2))),(17,X (Xc1 232 (y2s ({nodes:=o0c0}:Doc) site (raw.getD k default) (raw.getD (k+1) default) (raw.getD (k+2) default) (by assumption) (by assumption)) X0)),(18,X (Xc1 240 (z5q ({nodes:=o0c0}:Doc) (cmdP ({nodes:=o0c0}:Doc) site (raw.getD k default) (raw.getD (k+1) default) (raw.getD (k+2) default)) (by assumption)) X0))],.r []] ((appE ({nodes:=o0c0}:Doc) (cmdP ({nodes:=o0c0}:Doc) site (raw.getD k default) (raw.getD (k+1) default) (raw.getD (k+2) default)))==0) (fun h5=> ?_) (fun h5=> ?_)
  ·
   have hgo:=z5r (site:=site) (d:=⟨o0c0⟩) (show k+2<raw.length∧k<36 by omega)
   have hst:=hI.step (raw.getD k default) (raw.getD (k+1) default) (raw.getD (k+2) default) (show k<55 by omega) I2.2.2
   refine .back [.r [],.r [(1,X (Xn ((k:Int)+3)))]] [(0,0),(8,8)] (ih2 ((k+3),((appD ({nodes:=o0c0}:Doc) (cmdP ({nodes:=o0c0}:Doc) site (raw.getD k default) (raw.getD (k+1) default) (raw.getD (k+2) default)))).nodes) ?_ ?_)
   ·
    first| (rw[z6g h5] at hgo hst;exact⟨by omega,I2.2.1.trans hgo,hst⟩)| (rw[z6h h5] at hgo hst;exact⟨by omega,I2.2.1.trans hgo,hst⟩)
   ·
    ((try dsimp only);omega)
  ·
   have hgo:=z5r (site:=site) (d:=⟨o0c0⟩) (show k+2<raw.length∧k<36 by omega)
   have hst:=hI.step (raw.getD k default) (raw.getD (k+1) default) (raw.getD (k+2) default) (show k<55 by omega) I2.2.2
   refine .back [.r [(1,X (Xn ((k:Int)+3)))]] [(0,0),(8,8)] (ih2 ((k+3),o0c0) ?_ ?_)
   ·
    first| (rw[z6g h5] at hgo hst;exact⟨by omega,I2.2.1.trans hgo,hst⟩)| (rw[z6h h5] at hgo hst;exact⟨by omega,I2.2.1.trans hgo,hst⟩)
   ·
    ((try dsimp only);omega)
 ·
  have e1:((z1x site raw d 0):Doc)=({nodes:=o0c0}:Doc):=by
   exact I2.2.1.trans (z6i (by omega))
  exact .finVE [.r []] [] [] (fun z0:Doc=>(.t (docT z0),[])) _ _ e1
end Go.Ch
end
section
set_option linter.unusedVariables false
set_option linter.unusedSimpArgs false
set_option maxRecDepth 100000
set_option maxHeartbeats 4000000
open Go Go.Proofs Go.Ab
namespace Go.Ch
theorem z99(s:ByteArray)(hs:s.size≤1000000000):FC Tryz.prog 23 [VS s] (app emp []) (.row 0 ((z4a s).length)) (app emp [(0,OR 3 elemT (z4a s))]):=by
 refine .go Tryz.f23 ?_
 refine .loop (α:=Nat×(List Elem)) [.r [],.r [],.r [],.le (.nR 3 3)] 41 (fun(i,o)=>([(0,VS s),(3,.row 40 o.length),(6,VI (s.size:Int)),(7,VI (i:Int))],[(40,OR 3 elemT o)])) (fun(i,o)=>i≤s.size∧o=(List.range i).map (ltr s)) (fun(i,o)=>s.size-i) (0,[]) ?_ ?_
 ·
  exact⟨by omega,rfl⟩
 rintro⟨i,o⟩ I3 ih3
 try dsimp only at I3
 have ol:o.length=i:=by rw[I3.2];simp
 refine .bp [.r []] (decide ((i:Int)< (s.size:Int))) (fun h3=> ?_) (fun h3=> ?_)
 ·
  refine .back [.r [],.r [(3,X (Xb s (i:Int))),(4,X (Xn ((((s[i]?).getD 0).toNat:Nat):Int)) (by have:=UInt8.toNat_lt ((s[i]?).getD 0);omega)),(5,X (Xf [(2,2)])),(7,X (rowC elemT [({char:=((((s[i]?).getD 0).toNat:Nat):Int),ref:=0,attrs:=[]}:Elem)] (Xap 3 elemT 40 o [({char:=((((s[i]?).getD 0).toNat:Nat):Int),ref:=0,attrs:=[]}:Elem)])))],.r [(0,X (Xn ((i:Int)+1)))]] [(40,40)] (ih3 ((i+1),(o++[({char:=((((s[i]?).getD 0).toNat:Nat):Int),ref:=0,attrs:=[]}:Elem)])) ?_ ?_)
  ·
   refine⟨by omega,?_⟩
   rw[I3.2,List.range_succ,List.map_append]
   rfl
  ·
   ((try dsimp only);omega)
 ·
  have e1:((z4a s):List Elem)=o:=by
   first| (rw[I3.2,show i=s.size by omega];done)| (rw[I3.2,show i=s.size by omega];rfl)
  have e2:((z4a s).length:Nat)=o.length:=by
   first| (rw[I3.2,show i=s.size by omega];done)| (rw[I3.2,show i=s.size by omega];rfl)
  exact .finE [.r []] [(40,0)] (fun((z0,z1):(List Elem)×Nat)=>(.row 0 z1,[(0,OR 3 elemT z0)])) _ _ (pr e1 e2)
theorem y8I:FC Tryz.prog 23 [VS {data:=#[97,98,99]}] (app emp []) (.row 0 3) (app emp [(0,OR 3 elemT [({char:=97,ref:=0,attrs:=[]}:Elem),({char:=98,ref:=0,attrs:=[]}:Elem),({char:=99,ref:=0,attrs:=[]}:Elem)])]):=by
 have h:=z99 {data:=#[97,98,99]} (by decide)
 have e:z4a {data:=#[97,98,99]}=[({char:=97,ref:=0,attrs:=[]}:Elem),({char:=98,ref:=0,attrs:=[]}:Elem),({char:=99,ref:=0,attrs:=[]}:Elem)]:=by kernel_rfl
 rw[e] at h
 exact h
theorem y5Z(raw:List Int)(G:Nat→Doc→Prop)(hI:GInv 0 G)(hg:G 0 baseD):FC Tryz.prog 7 [VL 1 intT raw] (app emp []) (.t (docT (z1x 0 raw baseD 0))) (app emp []):=by
 refine .go Tryz.f7 ?_
 refine .len 0 (fun hl0=> ?_)
 have e1:((z1x 0 raw baseD 0):Doc)=((z1x 0 raw ({nodes:=([({id:=1,kind:=0,attrs:=[],flow:=([({char:=0,ref:=2,attrs:=[]}:Elem)]++[({char:=0,ref:=3,attrs:=[]}:Elem)]),grid:=({rows:=0,cols:=0,cells:=[],merges:=[]}:Grid),draw:=[]}:Node),({id:=2,kind:=1,attrs:=[],flow:=([({char:=97,ref:=0,attrs:=[]}:Elem),({char:=98,ref:=0,attrs:=[]}:Elem),({char:=99,ref:=0,attrs:=[]}:Elem)]++[({char:=10,ref:=0,attrs:=[]}:Elem),({char:=100,ref:=0,attrs:=[]}:Elem),({char:=10,ref:=0,attrs:=[]}:Elem)]),grid:=({rows:=0,cols:=0,cells:=[],merges:=[]}:Grid),draw:=[]}:Node)]++[({id:=3,kind:=10,attrs:=[],flow:=[],grid:=({rows:=0,cols:=0,cells:=[],merges:=[]}:Grid),draw:=[]}:Node)])}:Doc) 0)):=by
  rfl
 exact .finVE [.r [],.r [(0,X (Xc1 8 y4y X0))],.r [(4,X (Xa (Xc ((0:Int)≤0)) (Xc ((0:Int)< ((2:Nat):Int)))) ⟨by decide,by decide⟩),(7,X (Xf [(2,2)])),(9,X (rowC elemT [({char:=0,ref:=3,attrs:=[]}:Elem)] (Xap 3 elemT 10 [({char:=0,ref:=2,attrs:=[]}:Elem)] [({char:=0,ref:=3,attrs:=[]}:Elem)]))),(10,X (Xa (Xc ((0:Int)≤0)) (Xc ((0:Int)< ((2:Nat):Int)))) ⟨by decide,by decide⟩)],.r [(2,X (Xc1 152 y8I X0)),(3,X (Xf [(2,2)])),(4,X (Xf [(2,2)])),(5,X (Xf [(2,2)])),(7,X (rowC elemT [({char:=10,ref:=0,attrs:=[]}:Elem),({char:=100,ref:=0,attrs:=[]}:Elem),({char:=10,ref:=0,attrs:=[]}:Elem)] (Xap 3 elemT 152 [({char:=97,ref:=0,attrs:=[]}:Elem),({char:=98,ref:=0,attrs:=[]}:Elem),({char:=99,ref:=0,attrs:=[]}:Elem)] [({char:=10,ref:=0,attrs:=[]}:Elem),({char:=100,ref:=0,attrs:=[]}:Elem),({char:=10,ref:=0,attrs:=[]}:Elem)]))),(8,X (Xa (Xc ((0:Int)≤1)) (Xc ((1:Int)< ((2:Nat):Int)))) ⟨by decide,by decide⟩)],.le (.cb 16 0 true 9 [((([({char:=0,ref:=2,attrs:=[]}:Elem)]++[({char:=0,ref:=3,attrs:=[]}:Elem)]).length):Nat)=(List.map elemT ([({char:=0,ref:=2,attrs:=[]}:Elem)]++[({char:=0,ref:=3,attrs:=[]}:Elem)])).length,((([({char:=97,ref:=0,attrs:=[]}:Elem),({char:=98,ref:=0,attrs:=[]}:Elem),({char:=99,ref:=0,attrs:=[]}:Elem)]++[({char:=10,ref:=0,attrs:=[]}:Elem),({char:=100,ref:=0,attrs:=[]}:Elem),({char:=10,ref:=0,attrs:=[]}:Elem)]).length):Nat)=(List.map elemT ([({char:=97,ref:=0,attrs:=[]}:Elem),({char:=98,ref:=0,attrs:=[]}:Elem),({char:=99,ref:=0,attrs:=[]}:Elem)]++[({char:=10,ref:=0,attrs:=[]}:Elem),({char:=100,ref:=0,attrs:=[]}:Elem),({char:=10,ref:=0,attrs:=[]}:Elem)])).length] ⟨lm,lm,trivial⟩),.r [(2,X (Xf [(2,2),(3,3),(6,5),(7,4),(8,8)])),(4,X (rowC nodeT [({id:=3,kind:=10,attrs:=[],flow:=[],grid:=({rows:=0,cols:=0,cells:=[],merges:=[]}:Grid),draw:=[]}:Node)] (XapB 9 nodeT 224 [({id:=1,kind:=0,attrs:=[],flow:=([({char:=0,ref:=2,attrs:=[]}:Elem)]++[({char:=0,ref:=3,attrs:=[]}:Elem)]),grid:=({rows:=0,cols:=0,cells:=[],merges:=[]}:Grid),draw:=[]}:Node),({id:=2,kind:=1,attrs:=[],flow:=([({char:=97,ref:=0,attrs:=[]}:Elem),({char:=98,ref:=0,attrs:=[]}:Elem),({char:=99,ref:=0,attrs:=[]}:Elem)]++[({char:=10,ref:=0,attrs:=[]}:Elem),({char:=100,ref:=0,attrs:=[]}:Elem),({char:=10,ref:=0,attrs:=[]}:Elem)]),grid:=({rows:=0,cols:=0,cells:=[],merges:=[]}:Grid),draw:=[]}:Node)] [({id:=3,kind:=10,attrs:=[],flow:=[],grid:=({rows:=0,cols:=0,cells:=[],merges:=[]}:Grid),draw:=[]}:Node)])))],.r [(2,X (Xc1 297 (y5Y ({nodes:=([({id:=1,kind:=0,attrs:=[],flow:=([({char:=0,ref:=2,attrs:=[]}:Elem)]++[({char:=0,ref:=3,attrs:=[]}:Elem)]),grid:=({rows:=0,cols:=0,cells:=[],merges:=[]}:Grid),draw:=[]}:Node),({id:=2,kind:=1,attrs:=[],flow:=([({char:=97,ref:=0,attrs:=[]}:Elem),({char:=98,ref:=0,attrs:=[]}:Elem),({char:=99,ref:=0,attrs:=[]}:Elem)]++[({char:=10,ref:=0,attrs:=[]}:Elem),({char:=100,ref:=0,attrs:=[]}:Elem),({char:=10,ref:=0,attrs:=[]}:Elem)]),grid:=({rows:=0,cols:=0,cells:=[],merges:=[]}:Grid),draw:=[]}:Node)]++[({id:=3,kind:=10,attrs:=[],flow:=[],grid:=({rows:=0,cols:=0,cells:=[],merges:=[]}:Grid),draw:=[]}:Node)])}:Doc) 0 raw G hI (by exact hg)) (rowC nodeT ([({id:=1,kind:=0,attrs:=[],flow:=([({char:=0,ref:=2,attrs:=[]}:Elem)]++[({char:=0,ref:=3,attrs:=[]}:Elem)]),grid:=({rows:=0,cols:=0,cells:=[],merges:=[]}:Grid),draw:=[]}:Node),({id:=2,kind:=1,attrs:=[],flow:=([({char:=97,ref:=0,attrs:=[]}:Elem),({char:=98,ref:=0,attrs:=[]}:Elem),({char:=99,ref:=0,attrs:=[]}:Elem)]++[({char:=10,ref:=0,attrs:=[]}:Elem),({char:=100,ref:=0,attrs:=[]}:Elem),({char:=10,ref:=0,attrs:=[]}:Elem)]),grid:=({rows:=0,cols:=0,cells:=[],merges:=[]}:Grid),draw:=[]}:Node)]++[({id:=3,kind:=10,attrs:=[],flow:=[],grid:=({rows:=0,cols:=0,cells:=[],merges:=[]}:Grid),draw:=[]}:Node)]) X0)))]] [] [] (fun z0:Doc=>(.t (docT z0),[])) _ _ e1
end Go.Ch
end
section
set_option linter.unusedVariables false
set_option linter.unusedSimpArgs false
namespace Go.Ch
open Go Go.Ab
end Go.Ch
end
section
set_option linter.unusedVariables false
set_option linter.unusedSimpArgs false
namespace Go.Ch
open Go Go.Ab
def runeE(x:Elem):Int:=if x.ref=0 then x.char else 65532
def txB(f:List Elem):List Int:=f.flatMap fun x=>Lib.encodeRuneZ (runeE x)
def strB(l:List Int):ByteArray:=⟨(l.map fun z=>UInt8.ofNat z.toNat).toArray⟩
theorem y4z{l:List Int}(h:∀z∈l,0≤z∧z<256):l=intsB (strB l):=by
 unfold intsB strB
 simp only[List.map_map]
 conv=>lhs;rw[←List.map_id l]
 apply List.map_congr_left
 intro x hx
 have:=h x hx
 simp only[Function.comp,id]
 rw[UInt8.toNat_ofNat']
 omega
def z42(r:Int):Prop:=0≤r∧r≤1114111∧¬(55296≤r∧r≤57343)
theorem y7Q{x:Elem}(h:elemE x=0):z42 (runeE x):=by
 unfold elemE at h
 unfold z42 runeE
 split at h
 ·omega
 ·rename_i h1
  split
  ·rename_i hr
   split at h
   ·omega
   ·rename_i h2
    have:CharP x.char:=Classical.byContradiction fun q=>h2 (.inl ⟨hr,q⟩)
    unfold CharP at this
    omega
  ·omega
theorem y6F{r:Int}(h:z42 r):(Lib.encodeRuneZ r).length≤4∧∀z∈Lib.encodeRuneZ r,0≤z∧z<256:=by
 obtain⟨h0,h1,h2⟩:=h
 by_cases a:r≤127
 ·rw[Lib.encodeRuneZ_one h0 a];exact⟨by simp,fun z hz=>by simp only[List.mem_cons,List.not_mem_nil,or_false] at hz;omega⟩
 ·by_cases b:r≤2047
  ·rw[Lib.encodeRuneZ_two (by omega) b];exact⟨by simp,fun z hz=>by simp only[List.mem_cons,List.not_mem_nil,or_false] at hz;omega⟩
  ·by_cases c:r≤65535
   ·rw[Lib.encodeRuneZ_three (by omega)];exact⟨by simp,fun z hz=>by simp only[List.mem_cons,List.not_mem_nil,or_false] at hz;omega⟩
   ·rw[Lib.encodeRuneZ_four (by omega) h1];exact⟨by simp,fun z hz=>by simp only[List.mem_cons,List.not_mem_nil,or_false] at hz;omega⟩
theorem y8J{f:List Elem}(h:∀x∈f,z42 (runeE x)):∀z∈txB f,0≤z∧z<256:=fun z hz=>by
 obtain⟨x,hx,hz⟩:=List.mem_flatMap.1 hz
 exact(y6F (h x hx)).2 z hz
theorem y4A:∀(f:List Elem),(∀x∈f,z42 (runeE x))→(txB f).length≤4*f.length
 | [],_=>Nat.le_refl _
 |x::f,h=>by
  have:=y4A f (fun y hy=>h y (by simp[hy]))
  have:=(y6F (h x (by simp))).1
  unfold txB at*
  simp only[List.flatMap_cons,List.length_append,List.length_cons]
  omega
theorem y1D(f:List Elem)(x:Elem):txB (f++[x])=txB f++Lib.encodeRuneZ (runeE x):=by unfold txB;simp
def txS(f:List Elem):ByteArray:=strB (txB f)
end Go.Ch
end
section
set_option linter.unusedVariables false
set_option linter.unusedSimpArgs false
set_option maxRecDepth 100000
set_option maxHeartbeats 4000000
open Go Go.Proofs Go.Ab
namespace Go.Ch
theorem z9e(l:List Int)(r:Int)(h:128≤r∧r≤1114111∧¬(55296≤r∧r≤57343))(hl:l.length≤100000000000):FC Tryz.prog 81 [.row 0 l.length,.t (.sc (.int .i32 r))] (app emp [(0,OR 1 byteT l)]) (.row 0 ((l++(Lib.encodeRuneZ r)).length)) (app emp [(0,OR 1 byteT (l++(Lib.encodeRuneZ r)))]):=by
 refine .go Tryz.f81 ?_
 refine .bp [.r [],.r [(1,X (Xcv IntKind.u32 r) (y0P (by omega)))],.r []] (decide (r≤2047)) (fun h3=> ?_) (fun h3=> ?_)
 ·
  have e1:((l++(Lib.encodeRuneZ r)):List Int)=(l++[(192+r/64),(128+r%64)]):=by
   first| (exfalso;omega)|rw[Lib.encodeRuneZ_two (by omega) (by omega)]|rw[Lib.encodeRuneZ_three (by omega)]|rw[Lib.encodeRuneZ_four (by omega) (by omega)]
  have e2:((l++(Lib.encodeRuneZ r)).length:Nat)=(l++[(192+r/64),(128+r%64)]).length:=by
   first| (exfalso;omega)|rw[Lib.encodeRuneZ_two (by omega) (by omega)]|rw[Lib.encodeRuneZ_three (by omega)]|rw[Lib.encodeRuneZ_four (by omega) (by omega)]
  exact .finE [.r [(2,X (Xsh IntKind.i32 6 (r.fdiv (2^(min (6:Int).toNat IntKind.i32.bits))) (r/64)) ⟨by decide,shr6⟩),(3,X (Xbit IntKind.u8 (IntKind.u8.wrap (r/64)) (r/64)) (by rw[u8mod];omega)),(4,X (Xbit IntKind.u8 (orI IntKind.u8 192 (r/64)) (192+r/64)) (or192 (by omega))),(6,X (Xbit IntKind.u8 (IntKind.u8.wrap r) (r%256)) u8mod),(7,X (Xbit IntKind.u8 (andI IntKind.u8 (r%256) 63) (r%64)) (by rw[and63 (by omega)];omega)),(8,X (Xbit IntKind.u8 (orI IntKind.u8 128 (r%64)) (128+r%64)) (or128 (by omega))),(10,X (rowC byteT [(192+r/64),(128+r%64)] (Xap 1 byteT 0 l [(192+r/64),(128+r%64)])))]] [(0,0)] (fun((z0,z1):(List Int)×Nat)=>(.row 0 z1,[(0,OR 1 byteT z0)])) _ _ (pr e1 e2)
 ·
  refine .bp [.r []] (decide (r<55296)) (fun h5=> ?_) (fun h5=> ?_)
  ·
   refine .bp [] (decide (r<55296)) (fun h5=> ?_) (fun h5=> ?_)
   ·
    have e3:((l++(Lib.encodeRuneZ r)):List Int)=(l++[(224+r/4096),(128+r/64%64),(128+r%64)]):=by
     first| (exfalso;omega)|rw[Lib.encodeRuneZ_two (by omega) (by omega)]|rw[Lib.encodeRuneZ_three (by omega)]|rw[Lib.encodeRuneZ_four (by omega) (by omega)]
    have e4:((l++(Lib.encodeRuneZ r)).length:Nat)=(l++[(224+r/4096),(128+r/64%64),(128+r%64)]).length:=by
     first| (exfalso;omega)|rw[Lib.encodeRuneZ_two (by omega) (by omega)]|rw[Lib.encodeRuneZ_three (by omega)]|rw[Lib.encodeRuneZ_four (by omega) (by omega)]
    exact .finE [.r [(2,X (Xsh IntKind.i32 12 (r.fdiv (2^(min (12:Int).toNat IntKind.i32.bits))) (r/4096)) ⟨by decide,shr12⟩),(3,X (Xbit IntKind.u8 (IntKind.u8.wrap (r/4096)) (r/4096)) (by rw[u8mod];omega)),(4,X (Xbit IntKind.u8 (orI IntKind.u8 224 (r/4096)) (224+r/4096)) (or224 (by omega))),(6,X (Xsh IntKind.i32 6 (r.fdiv (2^(min (6:Int).toNat IntKind.i32.bits))) (r/64)) ⟨by decide,shr6⟩),(7,X (Xbit IntKind.u8 (IntKind.u8.wrap (r/64)) (r/64%256)) u8mod),(8,X (Xbit IntKind.u8 (andI IntKind.u8 (r/64%256) 63) (r/64%64)) (by rw[and63 (by omega)];omega)),(9,X (Xbit IntKind.u8 (orI IntKind.u8 128 (r/64%64)) (128+r/64%64)) (or128 (by omega))),(11,X (Xbit IntKind.u8 (IntKind.u8.wrap r) (r%256)) u8mod),(12,X (Xbit IntKind.u8 (andI IntKind.u8 (r%256) 63) (r%64)) (by rw[and63 (by omega)];omega)),(13,X (Xbit IntKind.u8 (orI IntKind.u8 128 (r%64)) (128+r%64)) (or128 (by omega))),(15,X (rowC byteT [(224+r/4096),(128+r/64%64),(128+r%64)] (Xap 1 byteT 0 l [(224+r/4096),(128+r/64%64),(128+r%64)])))]] [(0,0)] (fun((z0,z1):(List Int)×Nat)=>(.row 0 z1,[(0,OR 1 byteT z0)])) _ _ (pr e3 e4)
   ·
    refine .bp [.r [(4,Xv 1 (decide (r>65535)) X0),(5,X (Xk (decide (r>65535))))]] (decide (r>65535)&&decide (r≤1114111)) (fun h8=> ?_) (fun h8=> ?_)
    ·
     have e5:((l++(Lib.encodeRuneZ r)):List Int)=(l++[(240+r/262144),(128+r/4096%64),(128+r/64%64),(128+r%64)]):=by
      first| (exfalso;omega)|rw[Lib.encodeRuneZ_two (by omega) (by omega)]|rw[Lib.encodeRuneZ_three (by omega)]|rw[Lib.encodeRuneZ_four (by omega) (by omega)]
     have e6:((l++(Lib.encodeRuneZ r)).length:Nat)=(l++[(240+r/262144),(128+r/4096%64),(128+r/64%64),(128+r%64)]).length:=by
      first| (exfalso;omega)|rw[Lib.encodeRuneZ_two (by omega) (by omega)]|rw[Lib.encodeRuneZ_three (by omega)]|rw[Lib.encodeRuneZ_four (by omega) (by omega)]
     exact .finE [.r [(2,X (Xsh IntKind.i32 18 (r.fdiv (2^(min (18:Int).toNat IntKind.i32.bits))) (r/262144)) ⟨by decide,shr18⟩),(3,X (Xbit IntKind.u8 (IntKind.u8.wrap (r/262144)) (r/262144)) (by rw[u8mod];omega)),(4,X (Xbit IntKind.u8 (orI IntKind.u8 240 (r/262144)) (240+r/262144)) (or240 (by omega))),(6,X (Xsh IntKind.i32 12 (r.fdiv (2^(min (12:Int).toNat IntKind.i32.bits))) (r/4096)) ⟨by decide,shr12⟩),(7,X (Xbit IntKind.u8 (IntKind.u8.wrap (r/4096)) (r/4096%256)) u8mod),(8,X (Xbit IntKind.u8 (andI IntKind.u8 (r/4096%256) 63) (r/4096%64)) (by rw[and63 (by omega)];omega)),(9,X (Xbit IntKind.u8 (orI IntKind.u8 128 (r/4096%64)) (128+r/4096%64)) (or128 (by omega))),(11,X (Xsh IntKind.i32 6 (r.fdiv (2^(min (6:Int).toNat IntKind.i32.bits))) (r/64)) ⟨by decide,shr6⟩),(12,X (Xbit IntKind.u8 (IntKind.u8.wrap (r/64)) (r/64%256)) u8mod),(13,X (Xbit IntKind.u8 (andI IntKind.u8 (r/64%256) 63) (r/64%64)) (by rw[and63 (by omega)];omega)),(14,X (Xbit IntKind.u8 (orI IntKind.u8 128 (r/64%64)) (128+r/64%64)) (or128 (by omega))),(16,X (Xbit IntKind.u8 (IntKind.u8.wrap r) (r%256)) u8mod),(17,X (Xbit IntKind.u8 (andI IntKind.u8 (r%256) 63) (r%64)) (by rw[and63 (by omega)];omega)),(18,X (Xbit IntKind.u8 (orI IntKind.u8 128 (r%64)) (128+r%64)) (or128 (by omega))),(20,X (rowC byteT [(240+r/262144),(128+r/4096%64),(128+r/64%64),(128+r%64)] (Xap 1 byteT 0 l [(240+r/262144),(128+r/4096%64),(128+r/64%64),(128+r%64)])))]] [(0,0)] (fun((z0,z1):(List Int)×Nat)=>(.row 0 z1,[(0,OR 1 byteT z0)])) _ _ (pr e5 e6)
    ·
     exfalso
     omega
  ·
   refine .bp [.r [(4,Xv 1 (decide (57343<r)) X0),(5,X (Xk (decide (57343<r))))]] (decide (57343<r)&&decide (r≤65535)) (fun h6=> ?_) (fun h6=> ?_)
   ·
    have e7:((l++(Lib.encodeRuneZ r)):List Int)=(l++[(224+r/4096),(128+r/64%64),(128+r%64)]):=by
     first| (exfalso;omega)|rw[Lib.encodeRuneZ_two (by omega) (by omega)]|rw[Lib.encodeRuneZ_three (by omega)]|rw[Lib.encodeRuneZ_four (by omega) (by omega)]
    have e8:((l++(Lib.encodeRuneZ r)).length:Nat)=(l++[(224+r/4096),(128+r/64%64),(128+r%64)]).length:=by
     first| (exfalso;omega)|rw[Lib.encodeRuneZ_two (by omega) (by omega)]|rw[Lib.encodeRuneZ_three (by omega)]|rw[Lib.encodeRuneZ_four (by omega) (by omega)]
    exact .finE [.r [(2,X (Xsh IntKind.i32 12 (r.fdiv (2^(min (12:Int).toNat IntKind.i32.bits))) (r/4096)) ⟨by decide,shr12⟩),(3,X (Xbit IntKind.u8 (IntKind.u8.wrap (r/4096)) (r/4096)) (by rw[u8mod];omega)),(4,X (Xbit IntKind.u8 (orI IntKind.u8 224 (r/4096)) (224+r/4096)) (or224 (by omega))),(6,X (Xsh IntKind.i32 6 (r.fdiv (2^(min (6:Int).toNat IntKind.i32.bits))) (r/64)) ⟨by decide,shr6⟩),(7,X (Xbit IntKind.u8 (IntKind.u8.wrap (r/64)) (r/64%256)) u8mod),(8,X (Xbit IntKind.u8 (andI IntKind.u8 (r/64%256) 63) (r/64%64)) (by rw[and63 (by omega)];omega)),(9,X (Xbit IntKind.u8 (orI IntKind.u8 128 (r/64%64)) (128+r/64%64)) (or128 (by omega))),(11,X (Xbit IntKind.u8 (IntKind.u8.wrap r) (r%256)) u8mod),(12,X (Xbit IntKind.u8 (andI IntKind.u8 (r%256) 63) (r%64)) (by rw[and63 (by omega)];omega)),(13,X (Xbit IntKind.u8 (orI IntKind.u8 128 (r%64)) (128+r%64)) (or128 (by omega))),(15,X (rowC byteT [(224+r/4096),(128+r/64%64),(128+r%64)] (Xap 1 byteT 0 l [(224+r/4096),(128+r/64%64),(128+r%64)])))]] [(0,0)] (fun((z0,z1):(List Int)×Nat)=>(.row 0 z1,[(0,OR 1 byteT z0)])) _ _ (pr e7 e8)
   ·
    refine .bp [.r [(4,Xv 1 (decide (r>65535)) X0),(5,X (Xk (decide (r>65535))))]] (decide (r>65535)&&decide (r≤1114111)) (fun h8=> ?_) (fun h8=> ?_)
    ·
     have e9:((l++(Lib.encodeRuneZ r)):List Int)=(l++[(240+r/262144),(128+r/4096%64),(128+r/64%64),(128+r%64)]):=by
      first| (exfalso;omega)|rw[Lib.encodeRuneZ_two (by omega) (by omega)]|rw[Lib.encodeRuneZ_three (by omega)]|rw[Lib.encodeRuneZ_four (by omega) (by omega)]
     have e10:((l++(Lib.encodeRuneZ r)).length:Nat)=(l++[(240+r/262144),(128+r/4096%64),(128+r/64%64),(128+r%64)]).length:=by
      first| (exfalso;omega)|rw[Lib.encodeRuneZ_two (by omega) (by omega)]|rw[Lib.encodeRuneZ_three (by omega)]|rw[Lib.encodeRuneZ_four (by omega) (by omega)]
     exact .finE [.r [(2,X (Xsh IntKind.i32 18 (r.fdiv (2^(min (18:Int).toNat IntKind.i32.bits))) (r/262144)) ⟨by decide,shr18⟩),(3,X (Xbit IntKind.u8 (IntKind.u8.wrap (r/262144)) (r/262144)) (by rw[u8mod];omega)),(4,X (Xbit IntKind.u8 (orI IntKind.u8 240 (r/262144)) (240+r/262144)) (or240 (by omega))),(6,X (Xsh IntKind.i32 12 (r.fdiv (2^(min (12:Int).toNat IntKind.i32.bits))) (r/4096)) ⟨by decide,shr12⟩),(7,X (Xbit IntKind.u8 (IntKind.u8.wrap (r/4096)) (r/4096%256)) u8mod),(8,X (Xbit IntKind.u8 (andI IntKind.u8 (r/4096%256) 63) (r/4096%64)) (by rw[and63 (by omega)];omega)),(9,X (Xbit IntKind.u8 (orI IntKind.u8 128 (r/4096%64)) (128+r/4096%64)) (or128 (by omega))),(11,X (Xsh IntKind.i32 6 (r.fdiv (2^(min (6:Int).toNat IntKind.i32.bits))) (r/64)) ⟨by decide,shr6⟩),(12,X (Xbit IntKind.u8 (IntKind.u8.wrap (r/64)) (r/64%256)) u8mod),(13,X (Xbit IntKind.u8 (andI IntKind.u8 (r/64%256) 63) (r/64%64)) (by rw[and63 (by omega)];omega)),(14,X (Xbit IntKind.u8 (orI IntKind.u8 128 (r/64%64)) (128+r/64%64)) (or128 (by omega))),(16,X (Xbit IntKind.u8 (IntKind.u8.wrap r) (r%256)) u8mod),(17,X (Xbit IntKind.u8 (andI IntKind.u8 (r%256) 63) (r%64)) (by rw[and63 (by omega)];omega)),(18,X (Xbit IntKind.u8 (orI IntKind.u8 128 (r%64)) (128+r%64)) (or128 (by omega))),(20,X (rowC byteT [(240+r/262144),(128+r/4096%64),(128+r/64%64),(128+r%64)] (Xap 1 byteT 0 l [(240+r/262144),(128+r/4096%64),(128+r/64%64),(128+r%64)])))]] [(0,0)] (fun((z0,z1):(List Int)×Nat)=>(.row 0 z1,[(0,OR 1 byteT z0)])) _ _ (pr e9 e10)
    ·
     exfalso
     omega
theorem z3t(l:List Int)(r:Int)(h:(0≤r∧r≤1114111∧¬(55296≤r∧r≤57343)))(hl:l.length≤100000000000):FC Tryz.prog 38 [.row 0 l.length,.t (.sc (.int .i32 r))] (app emp [(0,OR 1 byteT l)]) (.row 0 ((l++(Lib.encodeRuneZ r)).length)) (app emp [(0,OR 1 byteT (l++(Lib.encodeRuneZ r)))]):=by
 refine .go Tryz.f38 ?_
 refine .bp [.r [],.r [(1,X (Xcv IntKind.u32 r) (y0P (by omega)))]] (decide (r≤127)) (fun h1=> ?_) (fun h1=> ?_)
 ·
  have e1:((l++(Lib.encodeRuneZ r)):List Int)=(l++[r]):=by
   first|rw[Lib.encodeRuneZ_one (by omega) (by omega)]|rfl
  have e2:((l++(Lib.encodeRuneZ r)).length:Nat)=(l++[r]).length:=by
   first|rw[Lib.encodeRuneZ_one (by omega) (by omega)]|rfl
  exact .finE [.r [(2,X (Xcv IntKind.u8 r) (y63 (by omega))),(4,X (rowC byteT [r] (Xap 1 byteT 0 l [r])))]] [(0,0)] (fun((z0,z1):(List Int)×Nat)=>(.row 0 z1,[(0,OR 1 byteT z0)])) _ _ (pr e1 e2)
 ·
  exact .fin [.r [(2,X (Xc3 49 [(0,0)] (z9e l r (by omega) (by omega)) X0))]] [(0,0)]
theorem z7S(f:List Elem)(hp:∀x∈f,elemE x=0)(hn:f.length≤1000000000):FC Tryz.prog 14 [VL 3 elemT f,VI 65532] (app emp []) (VS (txS f)) (app emp []):=by
 refine .go Tryz.f14 ?_
 refine .len 0 (fun hl0=> ?_)
 have hr:∀x∈f,z42 (runeE x):=fun x hx=>y7Q (hp x hx)
 refine .loop (α:=Nat×(List Int)) [.r [],.r [],.r [(1,X (Xl elemT f))],.le (.nR 5 1)] 41 (fun(i,b)=>([(0,VL 3 elemT f),(1,VI 65532),(5,.row 40 b.length),(9,VI (f.length:Int)),(10,VI (i:Int))],[(40,OR 1 byteT b)])) (fun(i,b)=>i≤f.length∧b=txB (f.take i)) (fun(i,b)=>f.length-i) (0,[]) ?_ ?_
 ·
  exact⟨by omega,rfl⟩
 rintro⟨i,b⟩ I3 ih3
 try dsimp only at I3
 have bl:b.length≤4*i:=by rw[I3.2];have:=y4A (f.take i) (fun x hx=>hr x (List.mem_of_mem_take hx));rw[List.length_take] at this;omega
 refine .bp [.r []] (decide ((i:Int)< (f.length:Int))) (fun h3=> ?_) (fun h3=> ?_)
 ·
  refine .bp [.r [],.r [(2,X (Xi elemT f (i:Int)))],.r [(2,X (Xi elemT f (i:Int)))]] ((((f.getD i default)).ref) !=0) (fun h6=> ?_) (fun h6=> ?_)
  ·
   have hx:=hr _ (z18 (l:=f) (k:=i) (by omega))
   unfold z42 at hx
   have hre:runeE (f.getD i default)=(if(f.getD i default).ref=0 then(f.getD i default).char else 65532):=rfl
   first| (have hrr:runeE (f.getD i default)=(f.getD i default).char:=by rw[hre,if_pos (by omega)])| (have hrr:runeE (f.getD i default)=65532:=by rw[hre,if_neg (by omega)])
   rw[hrr] at hx
   refine .back [.r [],.r [],.t,.r [(2,X (Xcv IntKind.i32 65532) (z7v (by omega))),(3,X (Xc3 217 [(0,40)] (z3t b 65532 (by omega) (by omega)) X0))],.r [(0,X (Xn ((i:Int)+1)))]] [(40,40)] (ih3 ((i+1),(b++(Lib.encodeRuneZ 65532))) ?_ ?_)
   ·
    refine⟨by omega,?_⟩
    rw[List.take_succ_eq_append_getElem (show i<f.length by omega),y1D,←I3.2]
    have hq:f.getD i default=f[i]:=by simp[List.getD,List.getElem?_eq_getElem (show i<f.length by omega)]
    rw[←hq,hrr]
   ·
    ((try dsimp only);omega)
  ·
   have hx:=hr _ (z18 (l:=f) (k:=i) (by omega))
   unfold z42 at hx
   have hre:runeE (f.getD i default)=(if(f.getD i default).ref=0 then(f.getD i default).char else 65532):=rfl
   first| (have hrr:runeE (f.getD i default)=(f.getD i default).char:=by rw[hre,if_pos (by omega)])| (have hrr:runeE (f.getD i default)=65532:=by rw[hre,if_neg (by omega)])
   rw[hrr] at hx
   refine .bp [.r []] (decide ((((f.getD i default)).char)≥0)) (fun h8=> ?_) (fun h8=> ?_)
   ·
    refine .back [.r [(2,X (Xcv IntKind.i32 (((f.getD i default)).char)) (z7v (by omega))),(3,X (Xc3 201 [(0,40)] (z3t b (((f.getD i default)).char) (by omega) (by omega)) X0))],.r [(0,X (Xn ((i:Int)+1)))]] [(40,40)] (ih3 ((i+1),(b++(Lib.encodeRuneZ (((f.getD i default)).char)))) ?_ ?_)
    ·
     refine⟨by omega,?_⟩
     rw[List.take_succ_eq_append_getElem (show i<f.length by omega),y1D,←I3.2]
     have hq:f.getD i default=f[i]:=by simp[List.getD,List.getElem?_eq_getElem (show i<f.length by omega)]
     rw[←hq,hrr]
    ·
     ((try dsimp only);omega)
   ·
    exfalso
    omega
 ·
  have hb:b=intsB (txS f):=by rw[I3.2,List.take_of_length_le (by omega)];exact y4z (y8J hr)
  exact .fin [.r [(1,X (Xstr b.length b (txS f)) ⟨rfl,hb⟩)]] []
end Go.Ch
end
