/- Parts of the proof: ChGrid9, GridDoc, DocPlain, ChDoc, ChDoc2, DocFind, ChDoc3, ChDoc4, ChDoc5, ChDoc6, ChDoc7, DeltaPlain, EditPlain, ChDoc8, DocCopy, ChDoc9, ChFlow2, ChDelta, ChDelta2, ChDelta3, DeltaWrite, ChDelta4, DeltaFold, DeltaUndo, DeltaAct, ChDelta7, ChAxis, DeltaChange, DeltaLaws, DeltaJoin, DeltaPair, ChDelta9, ChDelta10, DeltaRead, DeltaRuns, DeltaJD, DeltaJF, ChDelta11, EdCheck, EdCheck2, UndoCopy, EdPair, DeltaPD, DeltaTidy, DeltaTB, DeltaTL, TidyU, UndoPlain, EditTrk, EditSel, EditObj, DoorPlain, EditAsc, EditSame, EditCmd, EditFirst, EditUnit, EditStp, EditTyp, EditValid, EditGrid, EditKeep, GridTwo, EditOps, EditRun, EditGrow, EditAll, EditShow, UndoDocs, UndoLaw, AbPack, AbPack2, AbPack3, AbRange, AbRg, AbDeep, AbPin. -/
import Derived.Test.YtfihplmfjihpeaaGreatDoorM6
import Derived.RangeFuncNested
section
set_option linter.unusedVariables false
set_option linter.unusedSimpArgs false
set_option maxRecDepth 100000
set_option maxHeartbeats 4000000
open Go Go.Proofs Go.Ab
namespace Go.Ch
theorem fc_bl64:FC Tryz.prog 192 [.t (.sc (.int .u64 0))] (app emp []) (VI 0) (app emp []):=by
 refine .go Tryz.f192 ?_
 have e1:((0+(((((({data:=#[0,1,2,2,3,3,3,3,4,4,4,4,4,4,4,4,5,5,5,5,5,5,5,5,5,5,5,5,5,5,5,5,6,6,6,6,6,6,6,6,6,6,6,6,6,6,6,6,6,6,6,6,6,6,6,6,6,6,6,6,6,6,6,6,7,7,7,7,7,7,7,7,7,7,7,7,7,7,7,7,7,7,7,7,7,7,7,7,7,7,7,7,7,7,7,7,7,7,7,7,7,7,7,7,7,7,7,7,7,7,7,7,7,7,7,7,7,7,7,7,7,7,7,7,7,7,7,7,8,8,8,8,8,8,8,8,8,8,8,8,8,8,8,8,8,8,8,8,8,8,8,8,8,8,8,8,8,8,8,8,8,8,8,8,8,8,8,8,8,8,8,8,8,8,8,8,8,8,8,8,8,8,8,8,8,8,8,8,8,8,8,8,8,8,8,8,8,8,8,8,8,8,8,8,8,8,8,8,8,8,8,8,8,8,8,8,8,8,8,8,8,8,8,8,8,8,8,8,8,8,8,8,8,8,8,8,8,8,8,8,8,8,8,8,8,8,8,8,8,8,8,8,8,8,8,8]}):ByteArray)[(Int.toNat (IntKind.u8.wrap 0))]?).getD 0).toNat:Nat):Int)):Int)=0:=by
  decide+kernel
 exact .finE [.r [],.r [],.f,.r [],.f,.r [],.f,.r [(3,X (Xb (({data:=#[0,1,2,2,3,3,3,3,4,4,4,4,4,4,4,4,5,5,5,5,5,5,5,5,5,5,5,5,5,5,5,5,6,6,6,6,6,6,6,6,6,6,6,6,6,6,6,6,6,6,6,6,6,6,6,6,6,6,6,6,6,6,6,6,7,7,7,7,7,7,7,7,7,7,7,7,7,7,7,7,7,7,7,7,7,7,7,7,7,7,7,7,7,7,7,7,7,7,7,7,7,7,7,7,7,7,7,7,7,7,7,7,7,7,7,7,7,7,7,7,7,7,7,7,7,7,7,7,8,8,8,8,8,8,8,8,8,8,8,8,8,8,8,8,8,8,8,8,8,8,8,8,8,8,8,8,8,8,8,8,8,8,8,8,8,8,8,8,8,8,8,8,8,8,8,8,8,8,8,8,8,8,8,8,8,8,8,8,8,8,8,8,8,8,8,8,8,8,8,8,8,8,8,8,8,8,8,8,8,8,8,8,8,8,8,8,8,8,8,8,8,8,8,8,8,8,8,8,8,8,8,8,8,8,8,8,8,8,8,8,8,8,8,8,8,8,8,8,8,8,8,8,8,8,8,8]}):ByteArray) (IntKind.u8.wrap 0)) ⟨(by decide),(by decide+kernel)⟩),(4,X (Xn (((((({data:=#[0,1,2,2,3,3,3,3,4,4,4,4,4,4,4,4,5,5,5,5,5,5,5,5,5,5,5,5,5,5,5,5,6,6,6,6,6,6,6,6,6,6,6,6,6,6,6,6,6,6,6,6,6,6,6,6,6,6,6,6,6,6,6,6,7,7,7,7,7,7,7,7,7,7,7,7,7,7,7,7,7,7,7,7,7,7,7,7,7,7,7,7,7,7,7,7,7,7,7,7,7,7,7,7,7,7,7,7,7,7,7,7,7,7,7,7,7,7,7,7,7,7,7,7,7,7,7,7,8,8,8,8,8,8,8,8,8,8,8,8,8,8,8,8,8,8,8,8,8,8,8,8,8,8,8,8,8,8,8,8,8,8,8,8,8,8,8,8,8,8,8,8,8,8,8,8,8,8,8,8,8,8,8,8,8,8,8,8,8,8,8,8,8,8,8,8,8,8,8,8,8,8,8,8,8,8,8,8,8,8,8,8,8,8,8,8,8,8,8,8,8,8,8,8,8,8,8,8,8,8,8,8,8,8,8,8,8,8,8,8,8,8,8,8,8,8,8,8,8,8,8,8,8,8,8,8]}):ByteArray)[(Int.toNat (IntKind.u8.wrap 0))]?).getD 0).toNat:Nat):Int)) (by decide+kernel)),(5,X (Xn (0+(((((({data:=#[0,1,2,2,3,3,3,3,4,4,4,4,4,4,4,4,5,5,5,5,5,5,5,5,5,5,5,5,5,5,5,5,6,6,6,6,6,6,6,6,6,6,6,6,6,6,6,6,6,6,6,6,6,6,6,6,6,6,6,6,6,6,6,6,7,7,7,7,7,7,7,7,7,7,7,7,7,7,7,7,7,7,7,7,7,7,7,7,7,7,7,7,7,7,7,7,7,7,7,7,7,7,7,7,7,7,7,7,7,7,7,7,7,7,7,7,7,7,7,7,7,7,7,7,7,7,7,7,8,8,8,8,8,8,8,8,8,8,8,8,8,8,8,8,8,8,8,8,8,8,8,8,8,8,8,8,8,8,8,8,8,8,8,8,8,8,8,8,8,8,8,8,8,8,8,8,8,8,8,8,8,8,8,8,8,8,8,8,8,8,8,8,8,8,8,8,8,8,8,8,8,8,8,8,8,8,8,8,8,8,8,8,8,8,8,8,8,8,8,8,8,8,8,8,8,8,8,8,8,8,8,8,8,8,8,8,8,8,8,8,8,8,8,8,8,8,8,8,8,8,8,8,8,8,8,8]}):ByteArray)[(Int.toNat (IntKind.u8.wrap 0))]?).getD 0).toNat:Nat):Int))) (by decide+kernel))]] [] (fun z0:Int=>(VI z0,[])) _ _ e1.symm
theorem fc_bl:FC Tryz.prog 149 [.t (.sc (.int .u64 0))] (app emp []) (VI 0) (app emp []):=by
 refine .go Tryz.f149 ?_
 exact .fin [.r [],.f,.r [(1,X (Xc0 fc_bl64 X0))]] []
theorem fc_insQ0:FC Tryz.prog 206 [VL 4 rectT ([]:List Rect),VI 0,VI 0,.fn 133 []] (app emp []) (.tup []) (app emp []):=by
 refine .go Tryz.f206 ?_
 refine .len 0 (fun hl0=> ?_)
 refine .loop (α:=Int) [.r []] 24 (fun v8=>([(0,VL 4 rectT ([]:List Rect)),(1,VI 0),(2,VI 0),(3,.fn 133 []),(8,VI v8)],[])) (fun v8=>0≤v8) (fun v8=>0) (1:Int) ?_ ?_
 ·
  decide
 rintro v8 I1 ih1
 try dsimp only at I1
 refine .bp [.r []] (decide (v8<0)) (fun h1=> ?_) (fun h1=> ?_)
 ·
  exfalso
  omega
 ·
  exact .fin [] []
theorem fc_pdqQ0:FC Tryz.prog 170 [VL 4 rectT ([]:List Rect),VI 0,VI 0,VI 0,.fn 133 []] (app emp []) (.tup []) (app emp []):=by
 refine .go Tryz.f170 ?_
 refine .len 0 (fun hl0=> ?_)
 exact .fin [.r [],.r [],.u,.r [],.r [],.t,.r [(4,X (Xc0 fc_insQ0 X0))]] []
theorem fc_sortQ0:FC Tryz.prog 132 [VL 4 rectT ([]:List Rect),.fn 133 []] (app emp []) (.tup []) (app emp []):=by
 refine .go Tryz.f132 ?_
 refine .len 0 (fun hl0=> ?_)
 exact .fin [.r [(1,X (Xl rectT ([]:List Rect)))],.le (.eq 4 (VI (([]:List Rect).length:Int)) (VI 0) (.of_eq rfl)),.r [(3,X (Xcv IntKind.u64 0) (by decide)),(4,X (Xc0 fc_bl X0)),(6,X (Xc0 fc_pdqQ0 X0))]] []
theorem fc_graw(x:Grid)(e:GEd)(hi:RawT x e):FC Tryz.prog 87 [.t (gridT x),.t (gedT e)] (app emp []) (.t (gridT (rawT x e))) (app emp []):=by
 refine .go Tryz.f87 ?_
 obtain⟨vr,vk,l1,l2,a1,a2,p1,p2,hq,hm⟩:=hi
 have hml:=movL_len x.cells e.rows e.cols
 refine .loop (α:=Nat) [.r [],.r [(4,X (Xc0 (fc_axsize x.rows e.rows (by assumption)) X0))],.r [(4,X (Xc0 (fc_axsize x.cols e.cols (by assumption)) X0))],.r [(8,X (Xc1 248 (fc_moved x.cells e.rows e.cols (by omega) (by assumption) (by assumption) (by assumption)) X0)),(11,X (Xc1 272 (fc_gput (movL x.cells e.rows e.cols) e.cells (by omega) (by omega) (by assumption)) X0)),(12,X (Xf [(3,4)]))],.r [(2,X (Xl rectT x.merges))]] 336 (fun i=>([(3,.ptr 8 0),(4,.ptr 16 0),(9,.ptr 288 0),(46,VL 4 rectT x.merges),(47,VI (x.merges.length:Int)),(48,VI (i:Int))],[(8,.box [VL 2 stepT e.rows,VL 2 stepT e.cols,VL 5 cellT e.cells,VL 4 rectT e.split,VL 4 rectT e.merge]),(16,.box [VI 0,VI 0,VN,VN]),(288,.box [VI (if 0< (e.rows).length then newI e.rows else x.rows),VI (if 0< (e.cols).length then newI e.cols else x.cols),VL 5 cellT (putL e.cells (movL x.cells e.rows e.cols)),VL 4 rectT []])])) (fun i=>i=0) (fun i=>0) (0:Nat) ?_ ?_
 ·
  rfl
 rintro i I5 ih5
 try dsimp only at I5
 refine .bp [.r []] (decide ((i:Int)< (x.merges.length:Int))) (fun h5=> ?_) (fun h5=> ?_)
 ·
  exfalso
  omega
 ·
  refine .loop (α:=Nat) [.r [(2,X (Xl rectT e.merge))]] 376 (fun j=>([(4,.ptr 16 0),(9,.ptr 288 0),(77,VL 4 rectT e.merge),(78,VI (e.merge.length:Int)),(79,VI (j:Int))],[(16,.box [VI 0,VI 0,VN,VN]),(288,.box [VI (if 0< (e.rows).length then newI e.rows else x.rows),VI (if 0< (e.cols).length then newI e.cols else x.cols),VL 5 cellT (putL e.cells (movL x.cells e.rows e.cols)),VL 4 rectT []])])) (fun j=>j=0) (fun j=>0) (0:Nat) ?_ ?_
  ·
   rfl
  rintro j I12 ih12
  try dsimp only at I12
  refine .bp [.r []] (decide ((j:Int)< (e.merge.length:Int))) (fun h12=> ?_) (fun h12=> ?_)
  ·
   exfalso
   omega
  ·
   have e1:((rawT x e):Grid)=({rows:=(if 0< (e.rows).length then newI e.rows else x.rows),cols:=(if 0< (e.cols).length then newI e.cols else x.cols),cells:=(putL e.cells (movL x.cells e.rows e.cols)),merges:=[]}:Grid):=by
    rfl
   exact .finVE [.r [(2,X (Xc0 fc_sortQ0 X0))],.r []] [] [] (fun z0:Grid=>(.t (gridT z0),[])) _ _ e1
end Go.Ch
end
section

end
section
set_option linter.unusedVariables false
namespace Go.Ch
open Go Go.Ab
structure Node where
 id:Int
 kind:Int
 attrs:List Attr
 flow:List Elem
 grid:Grid
 draw:List DOp
instance:Inhabited Node:=⟨⟨0,0,[],[],default,[]⟩⟩
def nodeT(n:Node):Tree:= .agg [TI n.id,TI n.kind,.lst 2 (n.attrs.map attrT),.lst 3 (n.flow.map elemT),TI n.grid.rows,TI n.grid.cols,.lst 5 (n.grid.cells.map cellT),.lst 4 (n.grid.merges.map rectT),.lst 8 (n.draw.map dopT)]
structure Doc where
 nodes:List Node
instance:Inhabited Doc:=⟨⟨[]⟩⟩
def docT(d:Doc):Tree:= .agg [.lst 9 (d.nodes.map nodeT)]
def hasT(k:Int):Bool:=((k==1||k==3)||k==4)||k==12
def hasL(k:Int):Bool:=k==0||k==7
def hasG(k:Int):Bool:=k==2||k==6
def hasD(k:Int):Bool:=(k==8||k==9)||k==10
def zeroG(g:Grid):Bool:=((g.rows==0&&g.cols==0)&&(g.cells.length:Int)==0)&&(g.merges.length:Int)==0
def permB(p k:Int):Bool:=
 if k=1∨k=6∨k=7∨k=11∨k=12 then p==0
 else if k=10 then(p==0||p==1)||p==3
 else if k=2 then p==1
 else if k=4 then p==1||p==3
 else if k=5 then hasT p
 else if k=3 then p==2
 else if k=8∨k=9 then p==7
 else false
def flowX(t:Bool)(f:List Elem)(i:Nat):Int:=
 if i<f.length then
  (if elemE (f.getD i default)≠0 then elemE (f.getD i default) else if t=false∧(f.getD i default).ref=0 then 8 else flowX t f (i+1))
 else 0
termination_by f.length-i
def flowZ(t:Bool)(f:List Elem):Int:=
 if flowX t f 0≠0 then flowX t f 0 else if t=true∧(f.length=0∨(f.getD (f.length- 1) default).char≠10) then 11 else 0
theorem flowX_bad{t:Bool}{f:List Elem}{i:Nat}(h:i<f.length)(he:elemE (f.getD i default)≠0):flowX t f i=elemE (f.getD i default):=by rw[flowX,if_pos h,if_pos he]
theorem flowX_kind{t:Bool}{f:List Elem}{i:Nat}(h:i<f.length)(he:elemE (f.getD i default)=0)(hk:t=false∧(f.getD i default).ref=0):flowX t f i=8:=by rw[flowX,if_pos h,if_neg (fun q=>q he),if_pos hk]
theorem flowX_next{t:Bool}{f:List Elem}{i:Nat}(h:i<f.length)(he:elemE (f.getD i default)=0)(hk:t=true∨(f.getD i default).ref≠0):flowX t f i=flowX t f (i+1):=by
 rw[flowX,if_pos h,if_neg (fun q=>q he),if_neg]
 rintro⟨a,b⟩;rcases hk with q|q
 ·rw[a] at q;cases q
 ·exact q b
theorem flowX_end{t:Bool}{f:List Elem}{i:Nat}(h:¬i<f.length):flowX t f i=0:=by rw[flowX,if_neg h]
theorem flowZ_bad{t:Bool}{f:List Elem}{e:Int}(h:flowX t f 0=e)(he:e≠0):flowZ t f=e:=by unfold flowZ;rw[h,if_pos he]
theorem flowZ_end{t:Bool}{f:List Elem}(h:flowX t f 0=0):flowZ t f=if t=true∧(f.length=0∨(f.getD (f.length- 1) default).char≠10) then 11 else 0:=by unfold flowZ;rw[h,if_neg (fun q=>q rfl)]
def cellK(k:Int)(l:List Cell)(i:Nat):Int:=
 if i<l.length then
  (if(k=2∧(seq (l.getD i default).text {data:=#[]}=false∨0< (l.getD i default).attrs.length))∨(k=6∧(l.getD i default).ref≠0) then 4 else cellK k l (i+1))
 else 0
termination_by l.length-i
def nodeE(n:Node):Int:=
 if n.id<1∨1073741824<n.id then 2
 else if n.kind<0∨12<n.kind∨(n.id=1∧n.kind≠0)∨(n.id≠1∧n.kind=0) then 8
 else if chkA false n.attrs 0≠0 then chkA false n.attrs 0
 else if(0<n.flow.length∧hasT n.kind=false∧hasL n.kind=false)∨(zeroG n.grid=false∧hasG n.kind=false)∨(0<n.draw.length∧hasD n.kind=false) then 4
 else if hasT n.kind=true∨hasL n.kind=true then flowZ (hasT n.kind) n.flow
 else if hasG n.kind=true then(if gridE n.grid≠0 then gridE n.grid else cellK n.kind n.grid.cells 0)
 else drawE n.draw 0
def findD(l:List Node)(k:Int)(i:Nat):Int:=if i<l.length then(if(l.getD i default).id=k then(i:Int) else findD l k (i+1)) else-1
termination_by l.length-i
def refsF(f:List Elem):List Int:=f.filterMap fun x=>if x.ref≠0 then some x.ref else none
def refsC(l:List Cell):List Int:=l.filterMap fun x=>if x.ref≠0 then some x.ref else none
def refsN(n:Node):List Int:=refsF n.flow++refsC n.grid.cells
def refsE(l:List Node)(k:Int)(rs:List Int)(i:Nat):Int:=
 if i<rs.length then
  (if findD l (rs.getD i default) 0<0 then 7
   else if permB k (l.getD (findD l (rs.getD i default) 0).toNat default).kind=false then 8
   else refsE l k rs (i+1))
 else 0
termination_by rs.length-i
def nodesE(l:List Node)(i:Nat):Int:=
 if i<l.length then
  (if nodeE (l.getD i default)≠0 then nodeE (l.getD i default)
   else if(i=0∧(l.getD 0 default).id≠1)∨(0<i∧(l.getD i default).id≤(l.getD (i- 1) default).id) then 5
   else nodesE l (i+1))
 else 0
termination_by l.length-i
def allRefsE(l:List Node)(i:Nat):Int:=
 if i<l.length then
  (if refsE l (l.getD i default).kind (refsN (l.getD i default)) 0≠0 then refsE l (l.getD i default).kind (refsN (l.getD i default)) 0 else allRefsE l (i+1))
 else 0
termination_by l.length-i
def docE(d:Doc):Int:=
 if d.nodes.length=0 then 11
 else if nodesE d.nodes 0≠0 then nodesE d.nodes 0
 else allRefsE d.nodes 0
theorem nodesE_bad{l:List Node}{i:Nat}(h:i<l.length)(he:nodeE (l.getD i default)≠0):nodesE l i=nodeE (l.getD i default):=by rw[nodesE,if_pos h,if_pos he]
theorem nodesE_ord{l:List Node}{i:Nat}(h:i<l.length)(he:nodeE (l.getD i default)=0)(ho:(i=0∧(l.getD 0 default).id≠1)∨(0<i∧(l.getD i default).id≤(l.getD (i- 1) default).id)):nodesE l i=5:=by rw[nodesE,if_pos h,if_neg (fun q=>q he),if_pos ho]
theorem nodesE_next{l:List Node}{i:Nat}(h:i<l.length)(he:nodeE (l.getD i default)=0)(ho:¬((i=0∧(l.getD 0 default).id≠1)∨(0<i∧(l.getD i default).id≤(l.getD (i- 1) default).id))):nodesE l i=nodesE l (i+1):=by rw[nodesE,if_pos h,if_neg (fun q=>q he),if_neg ho]
theorem nodesE_end{l:List Node}{i:Nat}(h:¬i<l.length):nodesE l i=0:=by rw[nodesE,if_neg h]
theorem allR_bad{l:List Node}{i:Nat}(h:i<l.length)(he:refsE l (l.getD i default).kind (refsN (l.getD i default)) 0≠0):allRefsE l i=refsE l (l.getD i default).kind (refsN (l.getD i default)) 0:=by rw[allRefsE,if_pos h,if_pos he]
theorem allR_next{l:List Node}{i:Nat}(h:i<l.length)(he:refsE l (l.getD i default).kind (refsN (l.getD i default)) 0=0):allRefsE l i=allRefsE l (i+1):=by rw[allRefsE,if_pos h,if_neg (fun q=>q he)]
theorem allR_end{l:List Node}{i:Nat}(h:¬i<l.length):allRefsE l i=0:=by rw[allRefsE,if_neg h]
theorem docE_short{d:Doc}(h:d.nodes.length=0):docE d=11:=by unfold docE;rw[if_pos h]
theorem docE_node{d:Doc}(h:¬d.nodes.length=0){e:Int}(he:nodesE d.nodes 0=e)(hn:e≠0):docE d=e:=by unfold docE;rw[if_neg h,he,if_pos hn]
theorem docE_refs{d:Doc}(h:¬d.nodes.length=0){e:Int}(he:nodesE d.nodes 0=0)(hr:allRefsE d.nodes 0=e):docE d=e:=by unfold docE;rw[if_neg h,he,if_neg (fun q=>q rfl),hr]
theorem refsE_none{l:List Node}{k:Int}{rs:List Int}{i:Nat}(h:i<rs.length)(he:findD l (rs.getD i default) 0<0):refsE l k rs i=7:=by rw[refsE,if_pos h,if_pos he]
theorem refsE_kind{l:List Node}{k:Int}{rs:List Int}{i:Nat}(h:i<rs.length)(he:0≤findD l (rs.getD i default) 0)(hp:permB k (l.getD (findD l (rs.getD i default) 0).toNat default).kind=false):refsE l k rs i=8:=by rw[refsE,if_pos h,if_neg (by omega),if_pos hp]
theorem refsE_next{l:List Node}{k:Int}{rs:List Int}{i:Nat}(h:i<rs.length)(he:0≤findD l (rs.getD i default) 0)(hp:permB k (l.getD (findD l (rs.getD i default) 0).toNat default).kind=true):refsE l k rs i=refsE l k rs (i+1):=by rw[refsE,if_pos h,if_neg (by omega),if_neg (by rw[hp];decide)]
theorem refsE_end{l:List Node}{k:Int}{rs:List Int}{i:Nat}(h:¬i<rs.length):refsE l k rs i=0:=by rw[refsE,if_neg h]
structure NodeB(n:Node):Prop where
 at1:Szd n.attrs
 at2:n.attrs.length≤1048576
 fl1:SzE n.flow
 fl2:n.flow.length≤1048576
 fl3:∀x∈n.flow,x.attrs.length≤1048576
 ce1:SzC n.grid.cells
 ce2:n.grid.cells.length≤1048576
 ce3:∀c∈n.grid.cells,c.attrs.length≤1048576
 me:n.grid.merges.length≤1048576
 dr1:n.draw.length≤1048576
 dr2:∀o∈n.draw,o.plc.size≤1048576∧o.nm.size≤1048576∧o.vl.size≤1048576
def lenN(n:Node):Nat:=n.flow.length+n.grid.cells.length+n.draw.length
def lensN(l:List Node):Nat:=(l.map lenN).sum
structure DocB(d:Doc):Prop where
 len:d.nodes.length≤1048576
 all:∀n∈d.nodes,NodeB n
 sum:lensN d.nodes≤1048576
theorem getDN_mem{l:List Node}{i:Nat}(h:i<l.length):l.getD i default∈l:=getDX_mem h
theorem filM_succ{α β:Type}[Inhabited α]{l:List α}{i:Nat}(g:α→Option β)(h:i<l.length):(l.take (i+1)).filterMap g=(l.take i).filterMap g++(g (l.getD i default)).toList:=by
 have e:l.getD i default=l[i]:=by rw[List.getD_eq_getElem?_getD,List.getElem?_eq_getElem h];rfl
 rw[List.take_succ_eq_append_getElem h,List.filterMap_append,e]
 congr 1
end Go.Ch
end
section
set_option linter.unusedVariables false
set_option linter.unusedSimpArgs false
set_option maxRecDepth 100000
set_option maxHeartbeats 4000000
open Go Go.Proofs Go.Ab
namespace Go.Ch
theorem fc_Texts(k:Int):FC Tryz.prog 66 [VI k] (app emp []) (VB (hasT k)) (app emp []):=by
 refine .go Tryz.f66 ?_
 have e1:((hasT k):Bool)=((((k==1)|| (k==3))|| (k==4))|| (k==12)):=by
  rfl
 exact .finE [.r [],.r [(4,Xv 1 (!(k==1)) X0),(5,X (Xk' (k==1))),(8,Xv 1 (!((k==1)|| (k==3))) X0),(9,X (Xk' ((k==1)|| (k==3)))),(12,Xv 1 (!(((k==1)|| (k==3))|| (k==4))) X0),(13,X (Xk' (((k==1)|| (k==3))|| (k==4))))]] [] (fun z0:Bool=>(VB z0,[])) _ _ e1
theorem fc_Lists(k:Int):FC Tryz.prog 67 [VI k] (app emp []) (VB (hasL k)) (app emp []):=by
 refine .go Tryz.f67 ?_
 have e1:((hasL k):Bool)=((k==0)|| (k==7)):=by
  rfl
 exact .finE [.r [],.r [(4,Xv 1 (!(k==0)) X0),(5,X (Xk' (k==0)))]] [] (fun z0:Bool=>(VB z0,[])) _ _ e1
theorem fc_Grids(k:Int):FC Tryz.prog 68 [VI k] (app emp []) (VB (hasG k)) (app emp []):=by
 refine .go Tryz.f68 ?_
 have e1:((hasG k):Bool)=((k==2)|| (k==6)):=by
  rfl
 exact .finE [.r [],.r [(4,Xv 1 (!(k==2)) X0),(5,X (Xk' (k==2)))]] [] (fun z0:Bool=>(VB z0,[])) _ _ e1
theorem fc_Draws(k:Int):FC Tryz.prog 43 [VI k] (app emp []) (VB (hasD k)) (app emp []):=by
 refine .go Tryz.f43 ?_
 have e1:((hasD k):Bool)=(((k==8)|| (k==9))|| (k==10)):=by
  rfl
 exact .finE [.r [],.r [(4,Xv 1 (!(k==8)) X0),(5,X (Xk' (k==8))),(8,Xv 1 (!((k==8)|| (k==9))) X0),(9,X (Xk' ((k==8)|| (k==9))))]] [] (fun z0:Bool=>(VB z0,[])) _ _ e1
end Go.Ch
end
section
set_option linter.unusedVariables false
set_option linter.unusedSimpArgs false
set_option maxRecDepth 100000
set_option maxHeartbeats 4000000
open Go Go.Proofs Go.Ab
namespace Go.Ch
theorem fc_flowCheckX(f:List Elem)(t:Bool):FC Tryz.prog 70 [VL 3 elemT f,VB t] (app emp []) (VI (flowZ t f)) (app emp []):=by
 refine .go Tryz.f70 ?_
 refine .len 0 (fun hl0=> ?_)
 refine .loop (α:=Nat) [.r [],.r [(1,X (Xl elemT f))]] 32 (fun i=>([(0,VL 3 elemT f),(1,VB t),(8,VL 3 elemT f),(9,VI (f.length:Int)),(10,VI (i:Int))],[])) (fun i=>i≤f.length∧flowX t f 0=flowX t f i) (fun i=>f.length-i) (0:Nat) ?_ ?_
 ·
  exact⟨by omega,rfl⟩
 rintro i I2 ih2
 try dsimp only at I2
 refine .bp [.r []] (decide ((i:Int)< (f.length:Int))) (fun h2=> ?_) (fun h2=> ?_)
 ·
  refine .bp [.r [(0,X (Xi elemT f (i:Int)))],.r [(1,X (Xc0 (fc_elem ((f.getD i default))) X0))],.r []] ((elemE ((f.getD i default))) !=0) (fun h5=> ?_) (fun h5=> ?_)
  ·
   have e1:((flowZ t f):Int)=(elemE ((f.getD i default))):=by
    exact flowZ_bad (I2.2.trans (flowX_bad (by omega) (by omega))) (by omega)
   exact .finE [.r []] [] (fun z0:Int=>(VI z0,[])) _ _ e1
  ·
   refine .bp [.r [(4,Xv 1 (!t) X0),(5,Xv 1 (!t) X0),(6,X (Xk (!t)))]] (!t&&((((f.getD i default)).ref)==0)) (fun h7=> ?_) (fun h7=> ?_)
   ·
    have e2:((flowZ t f):Int)=8:=by
     exact flowZ_bad (I2.2.trans (flowX_kind (by omega) (by omega) h7)) (by decide)
    exact .finE [.r []] [] (fun z0:Int=>(VI z0,[])) _ _ e2
   ·
    refine .back [.r [(0,X (Xn ((i:Int)+1)))]] [] (ih2 ((i+1):Nat) ?_ ?_)
    ·
     exact⟨by omega,I2.2.trans (flowX_next (by omega) (by omega) h7)⟩
    ·
     ((try dsimp only);omega)
 ·
  refine .bp [.r [(3,Xv 1 t (Xl elemT f)),(4,Xv 1 t X0),(5,Xv 1 t X0),(8,Xv 1 (t&& !((f.length:Int)==0)) (Xl elemT f)),(9,Xv 1 (t&& !((f.length:Int)==0)) (Xn ((f.length:Int)- 1))),(10,Xv 2 (t&& !((f.length:Int)==0)) (Xi' elemT f ((f.length:Int)- 1) (f.length- 1)) (fun hg=>by(try simp only[Bool.not_eq_true',Bool.not_eq_false',Bool.and_eq_true,Bool.and_eq_false_iff,beq_iff_eq,beq_eq_false_iff_ne,ne_eq] at hg);exact⟨(by omega),(by omega)⟩)),(11,Xv 1 (t&& !((f.length:Int)==0)) X0),(12,Xv 1 (t&& !((f.length:Int)==0)) X0),(13,Xv 1 (t&& !((f.length:Int)==0)) X0),(14,Xko t ((f.length:Int)==0)),(15,X (Xk t))]] (t&&(((f.length:Int)==0)|| ((((f.getD (f.length- 1) default)).char) !=10))) (fun h10=> ?_) (fun h10=> ?_)
  ·
   have e3:((flowZ t f):Int)=11:=by
    rw[flowZ_end (I2.2.trans (flowX_end (by omega))),if_pos (by refine⟨h10.1,?_⟩;rcases h10.2 with h|h;(left;omega);(right;exact h))]
   exact .finE [.r []] [] (fun z0:Int=>(VI z0,[])) _ _ e3
  ·
   have e4:((flowZ t f):Int)=0:=by
    rw[flowZ_end (I2.2.trans (flowX_end (by omega))),if_neg (by rintro⟨q1,q2⟩;rcases h10 with h|h;(rw[q1] at h;cases h);(rcases q2 with q|q;(omega);(exact q h.2)))]
   exact .finE [.r []] [] (fun z0:Int=>(VI z0,[])) _ _ e4
end Go.Ch
end
section
set_option linter.unusedVariables false
namespace Go.Ch
open Go Go.Ab
def SortN(l:List Node):Prop:=∀p q,p<q→q<l.length→(l.getD p default).id< (l.getD q default).id
def cmpN9(n:Node)(k:Int):Int:=if n.id<k then-1 else if n.id>k then 1 else 0
def lobN(l:List Node)(k:Int):Nat:=(l.takeWhile (fun n=>decide (n.id<k))).length
theorem lobN_all:∀(l:List Node) (k:Int),lobN l k≤l.length∧(∀i,i<lobN l k→(l.getD i default).id<k)∧(lobN l k<l.length→¬(l.getD (lobN l k) default).id<k)
 | [],k=>⟨Nat.zero_le _,fun i hi=>absurd hi (by simp[lobN]),fun h=>absurd h (by simp[lobN])⟩
 |c::l,k=>by
  obtain⟨h1,h2,h3⟩:=lobN_all l k
  by_cases hc:c.id<k
  ·have e:lobN (c::l) k=lobN l k+1:=by unfold lobN;rw[List.takeWhile_cons,if_pos (decide_eq_true hc)];rfl
   rw[e]
   refine⟨by simp;omega,fun i hi=> ?_,fun h=> ?_⟩
   ·cases i with
    |zero=>exact hc
    |succ i=>exact h2 i (by omega)
   ·exact h3 (by simpa using h)
  ·have e:lobN (c::l) k=0:=by unfold lobN;rw[List.takeWhile_cons,if_neg (by simpa using hc)];rfl
   rw[e]
   exact⟨Nat.zero_le _,fun i hi=>absurd hi (by omega),fun _=>hc⟩
theorem lobN_lt{l:List Node}{k:Int}{m:Nat}(hs:SortN l)(hm:m<l.length)(h:(l.getD m default).id<k):m<lobN l k:=by
 obtain⟨h1,h2,h3⟩:=lobN_all l k
 apply Classical.byContradiction;intro q
 have h4:=h3 (by omega)
 by_cases e:lobN l k=m
 ·rw[e] at h4;exact h4 h
 ·have h5:=hs (lobN l k) m (by omega) hm
  omega
theorem lobN_ge{l:List Node}{k:Int}{m:Nat}(h:¬(l.getD m default).id<k):lobN l k≤m:=by
 obtain⟨h1,h2,h3⟩:=lobN_all l k
 apply Classical.byContradiction;intro q
 exact h (h2 m (by omega))
def hasN(l:List Node)(k:Int):Bool:=decide ((lobN l k:Int)< (l.length:Int))&&(cmpN9 (l.getD (lobN l k) default) k==0)
theorem cmpN9_lt{n:Node}{k:Int}:cmpN9 n k<0↔n.id<k:=by unfold cmpN9;split<;>(try split)<;>omega
theorem cmpN9_eq{n:Node}{k:Int}:cmpN9 n k=0↔n.id=k:=by unfold cmpN9;split<;>(try split)<;>omega
theorem hasN_iff{l:List Node}{k:Int}:hasN l k=true↔lobN l k<l.length∧(l.getD (lobN l k) default).id=k:=by
 unfold hasN;rw[Bool.and_eq_true,decide_eq_true_eq,beq_iff_eq,cmpN9_eq];omega
theorem findD_all(l:List Node)(k:Int):∀(n i:Nat),l.length-i=n→(findD l k i= -1∧∀j,i≤j→j<l.length→(l.getD j default).id≠k)∨∃j:Nat,findD l k i=j∧i≤j∧j<l.length∧(l.getD j default).id=k
 |0,i,h=>by rw[findD,if_neg (by omega)];exact .inl ⟨rfl,fun j h1 h2=>by omega⟩
 |n+1,i,h=>by
  have hi:i<l.length:=by omega
  rw[findD,if_pos hi]
  by_cases e:(l.getD i default).id=k
  ·rw[if_pos e];exact .inr ⟨i,rfl,Nat.le_refl _,hi,e⟩
  ·rw[if_neg e]
   rcases findD_all l k n (i+1) (by omega) with⟨a,b⟩| ⟨j,a,b,c,d⟩
   ·refine .inl ⟨a,fun j h1 h2=> ?_⟩
    by_cases q:j=i
    ·subst q;exact e
    ·exact b j (by omega) h2
   ·exact .inr ⟨j,a,by omega,c,d⟩
theorem find_yes{l:List Node}{k:Int}(hs:SortN l)(h:hasN l k=true):findD l k 0=(lobN l k:Int):=by
 obtain⟨h1,h2⟩:=hasN_iff.1 h
 rcases findD_all l k _ 0 rfl with⟨a,b⟩| ⟨j,a,b,c,d⟩
 ·exact absurd h2 (b _ (Nat.zero_le _) h1)
 ·rw[a]
  rcases Nat.lt_trichotomy j (lobN l k) with q|q|q
  ·have:=hs j _ q h1;omega
  ·rw[q]
  ·have:=hs _ j q c;omega
theorem find_no{l:List Node}{k:Int}(hs:SortN l)(h:hasN l k=false):findD l k 0<0:=by
 rcases findD_all l k _ 0 rfl with⟨a,b⟩| ⟨j,a,b,c,d⟩
 ·rw[a];decide
 ·exfalso
  have h1:=lobN_ge (l:=l) (k:=k) (m:=j) (by omega)
  obtain⟨s1,s2,s3⟩:=lobN_all l k
  have h2:lobN l k=j:=by
   apply Classical.byContradiction;intro q
   have:=hs (lobN l k) j (by omega) c
   exact s3 (by omega) (by omega)
  have:hasN l k=true:=hasN_iff.2 ⟨by omega,by rw[h2];exact d⟩
  rw[h] at this;cases this
theorem nodesE_all{l:List Node}:∀(n i:Nat),l.length-i=n→nodesE l i=0→(∀j,i≤j→j<l.length→nodeE (l.getD j default)=0)∧(∀j,i≤j→j<l.length→(j=0→(l.getD 0 default).id=1)∧(0<j→(l.getD (j- 1) default).id< (l.getD j default).id))
 |0,i,h,_=>⟨fun j h1 h2=>by omega,fun j h1 h2=>by omega⟩
 |n+1,i,h,he=>by
  have hi:i<l.length:=by omega
  rw[nodesE,if_pos hi] at he
  by_cases h1:nodeE (l.getD i default)≠0
  ·rw[if_pos h1] at he;exact absurd he h1
  ·rw[if_neg h1] at he
   split at he
   ·cases he
   ·rename_i h2
    obtain⟨a,b⟩:=nodesE_all n (i+1) (by omega) he
    refine⟨fun j q1 q2=> ?_,fun j q1 q2=> ?_⟩
    ·by_cases q:j=i
     ·subst q;exact Classical.byContradiction h1
     ·exact a j (by omega) q2
    ·by_cases q:j=i
     ·subst q
      exact⟨fun q3=>by omega,fun q3=>by omega⟩
     ·exact b j (by omega) q2
theorem sort_of{l:List Node}(h:nodesE l 0=0):SortN l:=by
 have h2:=(nodesE_all _ 0 rfl h).2
 have key:∀d p,p+d+1<l.length→(l.getD p default).id< (l.getD (p+d+1) default).id:=by
  intro d
  induction d with
  |zero=>intro p hp;have:=(h2 (p+1) (Nat.zero_le _) hp).2 (by omega);rwa [show p+1- 1=p by omega] at this
  |succ d ih=>
   intro p hp
   have h3:=ih p (by omega)
   have h4:=(h2 (p+(d+1)+1) (Nat.zero_le _) hp).2 (by omega)
   rw[show p+(d+1)+1- 1=p+d+1 by omega] at h4
   omega
 intro p q hpq hq
 have:=key (q-p- 1) p (by omega)
 rwa [show p+(q-p- 1)+1=q by omega] at this
end Go.Ch
end
section
set_option linter.unusedVariables false
set_option linter.unusedSimpArgs false
set_option maxRecDepth 100000
set_option maxHeartbeats 4000000
open Go Go.Proofs Go.Ab
namespace Go.Ch
end Go.Ch
end
section
set_option linter.unusedVariables false
set_option linter.unusedSimpArgs false
set_option maxRecDepth 100000
set_option maxHeartbeats 4000000
open Go Go.Proofs Go.Ab
namespace Go.Ch
end Go.Ch
end
section
set_option linter.unusedVariables false
set_option linter.unusedSimpArgs false
set_option maxRecDepth 100000
set_option maxHeartbeats 4000000
open Go Go.Proofs Go.Ab
namespace Go.Ch
end Go.Ch
end
section
set_option linter.unusedVariables false
set_option linter.unusedSimpArgs false
set_option maxRecDepth 100000
set_option maxHeartbeats 4000000
open Go Go.Proofs Go.Ab
namespace Go.Ch
theorem fc_find1(n:Node)(k:Int):FC Tryz.prog 116 [.t (nodeT n),VI k] (app emp []) (VI (cmpN9 n k)) (app emp []):=by
 refine .go Tryz.f116 ?_
 refine .bp [.r [],.r []] (decide (n.id<k)) (fun h1=> ?_) (fun h1=> ?_)
 ·
  have e1:((cmpN9 n k):Int)= -1:=by
   unfold cmpN9;((repeat' split)<;>first|rfl|omega| (simp_all;done)| (simp_all;omega))
  exact .finE [.r []] [] (fun z0:Int=>(VI z0,[])) _ _ e1
 ·
  refine .bp [.r []] (decide (n.id>k)) (fun h3=> ?_) (fun h3=> ?_)
  ·
   have e2:((cmpN9 n k):Int)=1:=by
    unfold cmpN9;((repeat' split)<;>first|rfl|omega| (simp_all;done)| (simp_all;omega))
   exact .finE [.r []] [] (fun z0:Int=>(VI z0,[])) _ _ e2
  ·
   have e3:((cmpN9 n k):Int)=0:=by
    unfold cmpN9;((repeat' split)<;>first|rfl|omega| (simp_all;done)| (simp_all;omega))
   exact .finE [.r []] [] (fun z0:Int=>(VI z0,[])) _ _ e3
theorem fc_bsN(l:List Node)(k:Int)(hn:l.length≤1048576)(hs:SortN l):FC Tryz.prog 115 [VL 9 nodeT l,VI k,.fn 116 []] (app emp []) (.tup [VI (lobN l k:Int),VB (hasN l k)]) (app emp []):=by
 refine .go Tryz.f115 ?_
 refine .len 0 (fun hl0=> ?_)
 obtain⟨s1,s2,s3⟩:=lobN_all l k
 refine .loop (α:=Nat×Nat) [.r [],.r [(1,X (Xl nodeT l))],.r []] 64 (fun(i,j)=>([(0,VL 9 nodeT l),(1,VI k),(2,.fn 116 []),(8,VI (l.length:Int)),(9,VI (i:Int)),(10,VI (j:Int))],[])) (fun(i,j)=>i≤lobN l k∧lobN l k≤j∧j≤l.length) (fun(i,j)=>j-i) (0,l.length) ?_ ?_
 ·
  exact⟨by omega,by omega,by omega⟩
 rintro⟨i,j⟩ I3 ih3
 try dsimp only at I3
 refine .bp [.r []] (decide ((i:Int)< (j:Int))) (fun h3=> ?_) (fun h3=> ?_)
 ·
  obtain⟨m,hm⟩:∃m:Nat,((i:Int)+(j:Int))/2=(m:Int):=⟨(i+j)/2,by omega⟩
  refine .bp [.r [(2,X (Xn ((i:Int)+(j:Int)))),(3,X (Xcv IntKind.u64 ((i:Int)+(j:Int))) (by simp[IntKind.wrap,IntKind.bits,IntKind.signed];omega)),(4,X (Xsh IntKind.u64 1 (((i:Int)+(j:Int)).fdiv (2^(min (1:Int).toNat IntKind.u64.bits))) (((i:Int)+(j:Int))/2)) ⟨by decide,(by rw[Int.fdiv_eq_ediv_of_nonneg _ (by decide)];rfl)⟩),(5,X (Xn (((i:Int)+(j:Int))/2)))],.le (.eq 11 (VI (((i:Int)+(j:Int))/2)) (VI (m:Int)) (.of_eq (by rw[←hm]))),.r [(3,X (Xi nodeT l (m:Int))),(6,X (Xc0 (fc_find1 ((l.getD m default)) k) X0))]] (decide ((cmpN9 ((l.getD m default)) k)< 0)) (fun h5=> ?_) (fun h5=> ?_)
  ·
   refine .back [.r [(1,X (Xn ((m:Int)+1)))]] [] (ih3 ((m+1),j) ?_ ?_)
   ·
    have:=lobN_lt hs (m:=m) (by omega) (cmpN9_lt.1 h5)
    exact⟨by omega,by omega,by omega⟩
   ·
    ((try dsimp only);omega)
  ·
   refine .back [.r []] [] (ih3 (i,m) ?_ ?_)
   ·
    have:=lobN_ge (l:=l) (k:=k) (m:=m) (fun q=>by have:=cmpN9_lt.2 q;omega)
    exact⟨by omega,by omega,by omega⟩
   ·
    ((try dsimp only);omega)
 ·
  have hi:i=lobN l k:=by omega
  have e1:((lobN l k:Int):Int)=(i:Int):=by
   first|omega| (unfold hasN;rw[←hi])
  have e2:((hasN l k):Bool)=(decide ((i:Int)< (l.length:Int))&&((cmpN9 ((l.getD i default)) k)==0)):=by
   first|omega| (unfold hasN;rw[←hi])
  exact .finE [.r [(8,Xv 2 (decide ((i:Int)< (l.length:Int))) (Xi nodeT l (i:Int))),(9,Xv 1 (decide ((i:Int)< (l.length:Int))) X0),(11,Xv 3 (decide ((i:Int)< (l.length:Int))) (Xc0 (fc_find1 ((l.getD i default)) k) X0)),(12,Xv 1 (decide ((i:Int)< (l.length:Int))) X0),(13,X (Xk (decide ((i:Int)< (l.length:Int)))))]] [] (fun((z0,z1):Int×Bool)=>(.tup [VI z0,VB z1],[])) _ _ (pr e1 e2)
theorem fc_findN(d:Doc)(k:Int)(hn:d.nodes.length≤1048576)(hs:SortN d.nodes):FC Tryz.prog 74 [.t (docT d),VI k] (app emp []) (.tup [VI (lobN d.nodes k:Int),VB (hasN d.nodes k)]) (app emp []):=by
 refine .go Tryz.f74 ?_
 exact .fin [.r [],.r [(3,X (Xc0 (fc_bsN d.nodes k (by omega) (by assumption)) X0))]] []
theorem fc_refsFl(f:List Elem)(hn:f.length≤1048576):FC Tryz.prog 76 [VL 3 elemT f] (app emp []) (.row 0 ((refsF f).length)) (app emp [(0,OR 1 intT (refsF f))]):=by
 refine .go Tryz.f76 ?_
 refine .len 0 (fun hl0=> ?_)
 refine .loop (α:=Nat×(List Int)) [.r [],.r [],.r [(1,X (Xl elemT f))],.le (.nR 3 1)] 41 (fun(i,o)=>([(3,.row 40 o.length),(6,VL 3 elemT f),(7,VI (f.length:Int)),(8,VI (i:Int))],[(40,OR 1 intT o)])) (fun(i,o)=>i≤f.length∧o=refsF (f.take i)) (fun(i,o)=>f.length-i) (0,[]) ?_ ?_
 ·
  exact⟨by omega,rfl⟩
 rintro⟨i,o⟩ I3 ih3
 try dsimp only at I3
 have ol:o.length≤i:=by rw[I3.2];unfold refsF;exact Nat.le_trans (List.length_filterMap_le _ _) (by rw[List.length_take];omega)
 refine .bp [.r []] (decide ((i:Int)< (f.length:Int))) (fun h3=> ?_) (fun h3=> ?_)
 ·
  refine .bp [.r [(0,X (Xi elemT f (i:Int)))],.r []] ((((f.getD i default)).ref) !=0) (fun h5=> ?_) (fun h5=> ?_)
  ·
   refine .back [.r [(4,X (rowC intT [((f.getD i default)).ref] (Xap 1 intT 40 o [((f.getD i default)).ref])))],.r [(0,X (Xn ((i:Int)+1)))]] [(40,40)] (ih3 ((i+1),(o++[((f.getD i default)).ref])) ?_ ?_)
   ·
    refine⟨by omega,?_⟩
    rw[I3.2];unfold refsF;rw[filM_succ _ (by omega)]
    first| (rw[if_pos (by omega)];rfl)| (rw[if_neg (by omega)];simp)
   ·
    ((try dsimp only);omega)
  ·
   refine .back [.r [(0,X (Xn ((i:Int)+1)))]] [(40,40)] (ih3 ((i+1),o) ?_ ?_)
   ·
    refine⟨by omega,?_⟩
    rw[I3.2];unfold refsF;rw[filM_succ _ (by omega)]
    first| (rw[if_pos (by omega)];rfl)| (rw[if_neg (by omega)];simp)
   ·
    ((try dsimp only);omega)
 ·
  have e1:((refsF f):List Int)=o:=by
   rw[I3.2,List.take_of_length_le (by omega)]
  have e2:((refsF f).length:Nat)=o.length:=by
   rw[I3.2,List.take_of_length_le (by omega)]
  exact .finE [.r []] [(40,0)] (fun((z0,z1):(List Int)×Nat)=>(.row 0 z1,[(0,OR 1 intT z0)])) _ _ (pr e1 e2)
theorem fc_refsNd(n:Node)(hb:NodeB n):FC Tryz.prog 35 [.t (nodeT n)] (app emp []) (VL 1 intT (refsN n)) (app emp []):=by
 refine .go Tryz.f35 ?_
 have b1:=hb.fl2
 have b2:=hb.ce2
 have b3:(refsF n.flow).length≤n.flow.length:=List.length_filterMap_le _ _
 refine .loop (α:=Nat×(List Int)) [.r [],.r [(2,X (Xc1 32 (fc_refsFl n.flow (by first|omega|simp)) X0))],.r [(3,X (Xl cellT n.grid.cells))]] 88 (fun(j,p)=>([(3,.row 32 p.length),(11,VL 5 cellT n.grid.cells),(12,VI (n.grid.cells.length:Int)),(13,VI (j:Int))],[(32,OR 1 intT p)])) (fun(j,p)=>j≤n.grid.cells.length∧p=refsF n.flow++refsC (n.grid.cells.take j)) (fun(j,p)=>n.grid.cells.length-j) (0,(refsF n.flow)) ?_ ?_
 ·
  exact⟨by omega,by simp[refsC]⟩
 rintro⟨j,p⟩ I3 ih3
 try dsimp only at I3
 have ol2:p.length≤n.flow.length+j:=by rw[I3.2,List.length_append];unfold refsC;have q2:=List.length_filterMap_le (fun x:Cell=>if x.ref≠0 then some x.ref else none) (n.grid.cells.take j);rw[List.length_take] at q2;omega
 refine .bp [.r []] (decide ((j:Int)< (n.grid.cells.length:Int))) (fun h3=> ?_) (fun h3=> ?_)
 ·
  refine .bp [.r [(0,X (Xi cellT n.grid.cells (j:Int)))],.r []] ((((n.grid.cells.getD j default)).ref) !=0) (fun h5=> ?_) (fun h5=> ?_)
  ·
   refine .back [.r [(4,X (rowC intT [((n.grid.cells.getD j default)).ref] (Xap 1 intT 32 p [((n.grid.cells.getD j default)).ref])))],.r [(0,X (Xn ((j:Int)+1)))]] [(32,32)] (ih3 ((j+1),(p++[((n.grid.cells.getD j default)).ref])) ?_ ?_)
   ·
    refine⟨by omega,?_⟩
    rw[I3.2];unfold refsC;rw[filM_succ _ (by omega),←List.append_assoc]
    first| (rw[if_pos (by omega)];rfl)| (rw[if_neg (by omega)];simp)
   ·
    ((try dsimp only);omega)
  ·
   refine .back [.r [(0,X (Xn ((j:Int)+1)))]] [(32,32)] (ih3 ((j+1),p) ?_ ?_)
   ·
    refine⟨by omega,?_⟩
    rw[I3.2];unfold refsC;rw[filM_succ _ (by omega),←List.append_assoc]
    first| (rw[if_pos (by omega)];rfl)| (rw[if_neg (by omega)];simp)
   ·
    ((try dsimp only);omega)
 ·
  have e1:((refsN n):List Int)=p:=by
   rw[I3.2,List.take_of_length_le (by omega)];rfl
  exact .finE [.r [],.le (.fr 2 [(p.length:Nat)=(List.map intT p).length] ⟨lm,trivial⟩)] [] (fun z0:List Int=>(VL 1 intT z0,[])) _ _ e1
end Go.Ch
end
section
set_option linter.unusedVariables false
set_option linter.unusedSimpArgs false
set_option maxRecDepth 100000
set_option maxHeartbeats 4000000
open Go Go.Proofs Go.Ab
namespace Go.Ch
theorem fc_idxI(l:List Int)(x:Int):FC Tryz.prog 162 [VL 1 intT l,VI x] (app emp []) (VI (idxF (fun y=>x==y) l 0)) (app emp []):=by
 refine .go Tryz.f162 ?_
 refine .len 0 (fun hl0=> ?_)
 refine .loop (α:=Nat) [.r [],.r [(1,X (Xl intT l))]] 32 (fun i=>([(0,VL 1 intT l),(1,VI x),(7,VI (l.length:Int)),(8,VI (i:Int))],[])) (fun i=>i≤l.length∧idxF (fun y=>x==y) l 0=idxF (fun y=>x==y) l i) (fun i=>l.length-i) (0:Nat) ?_ ?_
 ·
  exact⟨by omega,rfl⟩
 rintro i I2 ih2
 try dsimp only at I2
 refine .bp [.r []] (decide ((i:Int)< (l.length:Int))) (fun h2=> ?_) (fun h2=> ?_)
 ·
  refine .bp [.r [],.r [(3,X (Xi intT l (i:Int)))]] (x==(l.getD i default)) (fun h4=> ?_) (fun h4=> ?_)
  ·
   have e1:((idxF (fun y=>x==y) l 0):Int)=(i:Int):=by
    rw[I2.2,idxF,if_pos (by omega),if_pos (by simpa using h4)]
   exact .finE [.r []] [] (fun z0:Int=>(VI z0,[])) _ _ e1
  ·
   refine .back [.r [(0,X (Xn ((i:Int)+1)))]] [] (ih2 ((i+1):Nat) ?_ ?_)
   ·
    exact⟨by omega,by rw[I2.2,idxF,if_pos (by omega),if_neg (by simpa using h4)]⟩
   ·
    ((try dsimp only);omega)
 ·
  have e2:((idxF (fun y=>x==y) l 0):Int)= -1:=by
   rw[I2.2,idxF,if_neg (by omega)]
  exact .finE [.r []] [] (fun z0:Int=>(VI z0,[])) _ _ e2
theorem fc_hasI(l:List Int)(x:Int):FC Tryz.prog 117 [VL 1 intT l,VI x] (app emp []) (VB (l.any (fun y=>x==y))) (app emp []):=by
 refine .go Tryz.f117 ?_
 refine .len 0 (fun hl0=> ?_)
 have e1:((l.any (fun y=>x==y)):Bool)=decide ((idxF (fun y=>x==y) l 0)≥0):=by
  rw[Bool.eq_iff_iff];simp only[decide_eq_true_eq,ge_iff_le];rw[idxF_any]
 exact .finE [.r [],.r [(2,X (Xc0 (fc_idxI l x) X0))]] [] (fun z0:Bool=>(VB z0,[])) _ _ e1
theorem fc_permN(p k:Int):FC Tryz.prog 75 [VI p,VI k] (app emp []) (VB (permB p k)) (app emp []):=by
 refine .go Tryz.f75 ?_
 refine .bp [.r [],.r [],.r [],.r []] (p==0) (fun h3=> ?_) (fun h3=> ?_)
 ·
  have e1:((permB p k):Bool)=(([1,6,7,10,11,12]).any (fun y=>k==y)):=by
   rw[Bool.eq_iff_iff];unfold permB hasT;simp only[List.any_cons,List.any_nil,Bool.or_false,Bool.or_eq_true,beq_iff_eq,Bool.false_eq_true,false_iff,iff_false];(repeat' split)<;>(try simp only[Bool.or_eq_true,beq_iff_eq,Bool.false_eq_true,false_iff])<;>first|omega| (simp;done)
  exact .finE [.r [],.r [(2,X (Xc0 (fc_hasI [1,6,7,10,11,12] k) (rowC intT [1,6,7,10,11,12] X0)))]] [] (fun z0:Bool=>(VB z0,[])) _ _ e1
 ·
  refine .bp [.r []] (p==1) (fun h5=> ?_) (fun h5=> ?_)
  ·
   have e2:((permB p k):Bool)=(([2,4,5,10]).any (fun y=>k==y)):=by
    rw[Bool.eq_iff_iff];unfold permB hasT;simp only[List.any_cons,List.any_nil,Bool.or_false,Bool.or_eq_true,beq_iff_eq,Bool.false_eq_true,false_iff,iff_false];(repeat' split)<;>(try simp only[Bool.or_eq_true,beq_iff_eq,Bool.false_eq_true,false_iff])<;>first|omega| (simp;done)
   exact .finE [.r [],.r [(2,X (Xc0 (fc_hasI [2,4,5,10] k) (rowC intT [2,4,5,10] X0)))]] [] (fun z0:Bool=>(VB z0,[])) _ _ e2
  ·
   refine .bp [.r []] (p==3) (fun h7=> ?_) (fun h7=> ?_)
   ·
    have e3:((permB p k):Bool)=(([4,5,10]).any (fun y=>k==y)):=by
     rw[Bool.eq_iff_iff];unfold permB hasT;simp only[List.any_cons,List.any_nil,Bool.or_false,Bool.or_eq_true,beq_iff_eq,Bool.false_eq_true,false_iff,iff_false];(repeat' split)<;>(try simp only[Bool.or_eq_true,beq_iff_eq,Bool.false_eq_true,false_iff])<;>first|omega| (simp;done)
    exact .finE [.r [],.r [(2,X (Xc0 (fc_hasI [4,5,10] k) (rowC intT [4,5,10] X0)))]] [] (fun z0:Bool=>(VB z0,[])) _ _ e3
   ·
    refine .bp [.r []] (p==4) (fun h9=> ?_) (fun h9=> ?_)
    ·
     refine .bp [] (p==4) (fun h9=> ?_) (fun h9=> ?_)
     ·
      have e4:((permB p k):Bool)=(([5]).any (fun y=>k==y)):=by
       rw[Bool.eq_iff_iff];unfold permB hasT;simp only[List.any_cons,List.any_nil,Bool.or_false,Bool.or_eq_true,beq_iff_eq,Bool.false_eq_true,false_iff,iff_false];(repeat' split)<;>(try simp only[Bool.or_eq_true,beq_iff_eq,Bool.false_eq_true,false_iff])<;>first|omega| (simp;done)
      exact .finE [.r [],.r [(2,X (Xc0 (fc_hasI [5] k) (rowC intT [5] X0)))]] [] (fun z0:Bool=>(VB z0,[])) _ _ e4
     ·
      refine .bp [.r []] (p==2) (fun h12=> ?_) (fun h12=> ?_)
      ·
       have e5:((permB p k):Bool)=(([3]).any (fun y=>k==y)):=by
        rw[Bool.eq_iff_iff];unfold permB hasT;simp only[List.any_cons,List.any_nil,Bool.or_false,Bool.or_eq_true,beq_iff_eq,Bool.false_eq_true,false_iff,iff_false];(repeat' split)<;>(try simp only[Bool.or_eq_true,beq_iff_eq,Bool.false_eq_true,false_iff])<;>first|omega| (simp;done)
       exact .finE [.r [],.r [(2,X (Xc0 (fc_hasI [3] k) (rowC intT [3] X0)))]] [] (fun z0:Bool=>(VB z0,[])) _ _ e5
      ·
       refine .bp [.r []] (p==7) (fun h14=> ?_) (fun h14=> ?_)
       ·
        have e6:((permB p k):Bool)=(([8,9]).any (fun y=>k==y)):=by
         rw[Bool.eq_iff_iff];unfold permB hasT;simp only[List.any_cons,List.any_nil,Bool.or_false,Bool.or_eq_true,beq_iff_eq,Bool.false_eq_true,false_iff,iff_false];(repeat' split)<;>(try simp only[Bool.or_eq_true,beq_iff_eq,Bool.false_eq_true,false_iff])<;>first|omega| (simp;done)
        exact .finE [.r [],.r [(2,X (Xc0 (fc_hasI [8,9] k) (rowC intT [8,9] X0)))]] [] (fun z0:Bool=>(VB z0,[])) _ _ e6
       ·
        have e7:((permB p k):Bool)=(([]).any (fun y=>k==y)):=by
         rw[Bool.eq_iff_iff];unfold permB hasT;simp only[List.any_cons,List.any_nil,Bool.or_false,Bool.or_eq_true,beq_iff_eq,Bool.false_eq_true,false_iff,iff_false];(repeat' split)<;>(try simp only[Bool.or_eq_true,beq_iff_eq,Bool.false_eq_true,false_iff])<;>first|omega| (simp;done)
        exact .finE [.r [(2,X (Xc0 (.nil 0 1 (fc_hasI [] k)) X0))]] [] (fun z0:Bool=>(VB z0,[])) _ _ e7
    ·
     refine .bp [.r []] (p==12) (fun h10=> ?_) (fun h10=> ?_)
     ·
      have e8:((permB p k):Bool)=(([5]).any (fun y=>k==y)):=by
       rw[Bool.eq_iff_iff];unfold permB hasT;simp only[List.any_cons,List.any_nil,Bool.or_false,Bool.or_eq_true,beq_iff_eq,Bool.false_eq_true,false_iff,iff_false];(repeat' split)<;>(try simp only[Bool.or_eq_true,beq_iff_eq,Bool.false_eq_true,false_iff])<;>first|omega| (simp;done)
      exact .finE [.r [],.r [(2,X (Xc0 (fc_hasI [5] k) (rowC intT [5] X0)))]] [] (fun z0:Bool=>(VB z0,[])) _ _ e8
     ·
      refine .bp [.r []] (p==2) (fun h12=> ?_) (fun h12=> ?_)
      ·
       have e9:((permB p k):Bool)=(([3]).any (fun y=>k==y)):=by
        rw[Bool.eq_iff_iff];unfold permB hasT;simp only[List.any_cons,List.any_nil,Bool.or_false,Bool.or_eq_true,beq_iff_eq,Bool.false_eq_true,false_iff,iff_false];(repeat' split)<;>(try simp only[Bool.or_eq_true,beq_iff_eq,Bool.false_eq_true,false_iff])<;>first|omega| (simp;done)
       exact .finE [.r [],.r [(2,X (Xc0 (fc_hasI [3] k) (rowC intT [3] X0)))]] [] (fun z0:Bool=>(VB z0,[])) _ _ e9
      ·
       refine .bp [.r []] (p==7) (fun h14=> ?_) (fun h14=> ?_)
       ·
        have e10:((permB p k):Bool)=(([8,9]).any (fun y=>k==y)):=by
         rw[Bool.eq_iff_iff];unfold permB hasT;simp only[List.any_cons,List.any_nil,Bool.or_false,Bool.or_eq_true,beq_iff_eq,Bool.false_eq_true,false_iff,iff_false];(repeat' split)<;>(try simp only[Bool.or_eq_true,beq_iff_eq,Bool.false_eq_true,false_iff])<;>first|omega| (simp;done)
        exact .finE [.r [],.r [(2,X (Xc0 (fc_hasI [8,9] k) (rowC intT [8,9] X0)))]] [] (fun z0:Bool=>(VB z0,[])) _ _ e10
       ·
        have e11:((permB p k):Bool)=(([]).any (fun y=>k==y)):=by
         rw[Bool.eq_iff_iff];unfold permB hasT;simp only[List.any_cons,List.any_nil,Bool.or_false,Bool.or_eq_true,beq_iff_eq,Bool.false_eq_true,false_iff,iff_false];(repeat' split)<;>(try simp only[Bool.or_eq_true,beq_iff_eq,Bool.false_eq_true,false_iff])<;>first|omega| (simp;done)
        exact .finE [.r [(2,X (Xc0 (.nil 0 1 (fc_hasI [] k)) X0))]] [] (fun z0:Bool=>(VB z0,[])) _ _ e11
theorem fc_refsCk(d:Doc)(k:Int)(rs:List Int)(hl:d.nodes.length≤1048576)(hs:SortN d.nodes):FC Tryz.prog 34 [.t (docT d),VI k,VL 1 intT rs] (app emp []) (VI (refsE d.nodes k rs 0)) (app emp []):=by
 refine .go Tryz.f34 ?_
 refine .len 2 (fun hl2=> ?_)
 refine .loop (α:=Nat) [.r [],.r [(1,X (Xl intT rs))]] 40 (fun i=>([(1,VI k),(3,.ptr 0 0),(11,VL 1 intT rs),(12,VI (rs.length:Int)),(13,VI (i:Int))],[(0,.box [VL 9 nodeT d.nodes])])) (fun i=>i≤rs.length∧refsE d.nodes k rs 0=refsE d.nodes k rs i) (fun i=>rs.length-i) (0:Nat) ?_ ?_
 ·
  exact⟨by omega,rfl⟩
 rintro i I2 ih2
 try dsimp only at I2
 refine .bp [.r []] (decide ((i:Int)< (rs.length:Int))) (fun h2=> ?_) (fun h2=> ?_)
 ·
  refine .bp [.r [(0,X (Xi intT rs (i:Int)))],.r [(2,X (Xc0 (fc_findN d (rs.getD i default) (by assumption) (by assumption)) X0))],.r []] (!(hasN (d).nodes (rs.getD i default))) (fun h5=> ?_) (fun h5=> ?_)
  ·
   have e1:((refsE d.nodes k rs 0):Int)=7:=by
    exact I2.2.trans (refsE_none (by omega) (find_no hs h5))
   exact .finE [.r []] [] (fun z0:Int=>(VI z0,[])) _ _ e1
  ·
   obtain⟨q1,q2⟩:=hasN_iff.1 h5
   have hf:=find_yes hs h5
   refine .bp [.r [(4,X (Xi nodeT d.nodes (lobN (d).nodes (rs.getD i default):Int))),(7,X (Xc0 (fc_permN k (((d.nodes.getD (lobN (d).nodes (rs.getD i default)) default)).kind)) X0))]] (!(permB k (((d.nodes.getD (lobN (d).nodes (rs.getD i default)) default)).kind))) (fun h7=> ?_) (fun h7=> ?_)
   ·
    have e2:((refsE d.nodes k rs 0):Int)=8:=by
     exact I2.2.trans (refsE_kind (by omega) (by omega) (by rw[hf];exact h7))
    exact .finE [.r []] [] (fun z0:Int=>(VI z0,[])) _ _ e2
   ·
    refine .back [.r [(0,X (Xn ((i:Int)+1)))]] [(0,0)] (ih2 ((i+1):Nat) ?_ ?_)
    ·
     exact⟨by omega,I2.2.trans (refsE_next (by omega) (by omega) (by rw[hf];exact h7))⟩
    ·
     ((try dsimp only);omega)
 ·
  have e3:((refsE d.nodes k rs 0):Int)=0:=by
   exact I2.2.trans (refsE_end (by omega))
  exact .finE [.r []] [] (fun z0:Int=>(VI z0,[])) _ _ e3
theorem fc_cellCk(k:Int)(l:List Cell):FC Tryz.prog 72 [VI k,VL 5 cellT l] (app emp []) (VI (cellK k l 0)) (app emp []):=by
 refine .go Tryz.f72 ?_
 refine .len 1 (fun hl1=> ?_)
 refine .loop (α:=Nat) [.r [],.r [(1,X (Xl cellT l))]] 32 (fun i=>([(0,VI k),(7,VL 5 cellT l),(8,VI (l.length:Int)),(9,VI (i:Int))],[])) (fun i=>i≤l.length∧cellK k l 0=cellK k l i) (fun i=>l.length-i) (0:Nat) ?_ ?_
 ·
  exact⟨by omega,rfl⟩
 rintro i I2 ih2
 try dsimp only at I2
 refine .bp [.r []] (decide ((i:Int)< (l.length:Int))) (fun h2=> ?_) (fun h2=> ?_)
 ·
  refine .bp [.r [(0,X (Xi cellT l (i:Int)))],.r [(4,Xv 1 (k==2) X0),(5,Xv 1 (k==2) X0),(6,Xv 1 (k==2) X0),(8,Xv 1 ((k==2)&& !(!(seq (((l.getD i default)).text) ({data:=#[]})))) X0),(9,Xv 1 ((k==2)&& !(!(seq (((l.getD i default)).text) ({data:=#[]})))) (Xl attrT (((l.getD i default)).attrs))),(10,Xv 1 ((k==2)&& !(!(seq (((l.getD i default)).text) ({data:=#[]})))) X0),(11,Xko (k==2) (!(seq (((l.getD i default)).text) ({data:=#[]})))),(12,X (Xk (k==2))),(15,Xv 1 (!((k==2)&&(!(seq (((l.getD i default)).text) ({data:=#[]}))||decide (((((l.getD i default)).attrs).length:Int)> 0)))) X0),(16,Xv 1 (!((k==2)&&(!(seq (((l.getD i default)).text) ({data:=#[]}))||decide (((((l.getD i default)).attrs).length:Int)> 0)))) X0),(18,Xv 1 ((!((k==2)&&(!(seq (((l.getD i default)).text) ({data:=#[]}))||decide (((((l.getD i default)).attrs).length:Int)> 0))))&&(k==6)) X0),(19,Xv 1 ((!((k==2)&&(!(seq (((l.getD i default)).text) ({data:=#[]}))||decide (((((l.getD i default)).attrs).length:Int)> 0))))&&(k==6)) X0),(20,Xka (!((k==2)&&(!(seq (((l.getD i default)).text) ({data:=#[]}))||decide (((((l.getD i default)).attrs).length:Int)> 0)))) (k==6)),(21,X (Xk' ((k==2)&&(!(seq (((l.getD i default)).text) ({data:=#[]}))||decide (((((l.getD i default)).attrs).length:Int)> 0)))))]] (((k==2)&&(!(seq (((l.getD i default)).text) ({data:=#[]}))||decide (((((l.getD i default)).attrs).length:Int)> 0)))|| ((k==6)&&((((l.getD i default)).ref) !=0))) (fun h4=> ?_) (fun h4=> ?_)
  ·
   have e1:((cellK k l 0):Int)=4:=by
    rw[I2.2,cellK,if_pos (by omega),if_pos]
    exact h4.imp (fun q=>⟨q.1,q.2.imp id (fun z=>by omega)⟩) id
   exact .finE [.r []] [] (fun z0:Int=>(VI z0,[])) _ _ e1
  ·
   refine .back [.r [(0,X (Xn ((i:Int)+1)))]] [] (ih2 ((i+1):Nat) ?_ ?_)
   ·
    refine⟨by omega,?_⟩
    rw[I2.2,cellK,if_pos (by omega),if_neg]
    rintro(⟨a,b|b⟩| ⟨a,b⟩)
    ·rcases h4.1 with q|q
     ·exact q a
     ·rw[q.1] at b;cases b
    ·rcases h4.1 with q|q
     ·exact q a
     ·omega
    ·rcases h4.2 with q|q
     ·exact q a
     ·exact b q
   ·
    ((try dsimp only);omega)
 ·
  have e2:((cellK k l 0):Int)=0:=by
   rw[I2.2,cellK,if_neg (by omega)]
  exact .finE [.r []] [] (fun z0:Int=>(VI z0,[])) _ _ e2
theorem fc_eqR0(l:List Rect):FC Tryz.prog 105 [VL 4 rectT l,VN] (app emp []) (VB ((l.length:Int)==0)) (app emp []):=by
 refine .go Tryz.f105 ?_
 refine .len 0 (fun hl0=> ?_)
 refine .bp [.r [],.r [(1,X (Xl rectT l))]] ((l.length:Int) !=0) (fun h1=> ?_) (fun h1=> ?_)
 ·
  have e1:(((l.length:Int)==0):Bool)=false:=by
   rw[beq_eq_false_iff_ne];exact h1
  exact .finE [.r []] [] (fun z0:Bool=>(VB z0,[])) _ _ e1
 ·
  refine .loop (α:=Nat) [.r [(1,X (Xl rectT l))]] 72 (fun i=>([(0,VL 4 rectT l),(1,VN),(12,VI (l.length:Int)),(13,VI (i:Int))],[])) (fun i=>i=0) (fun i=>0) (0:Nat) ?_ ?_
  ·
   rfl
  rintro i I4 ih4
  try dsimp only at I4
  refine .bp [.r []] (decide ((i:Int)< (l.length:Int))) (fun h4=> ?_) (fun h4=> ?_)
  ·
   exfalso
   omega
  ·
   have e2:(((l.length:Int)==0):Bool)=true:=by
    rw[beq_iff_eq];exact h1
   exact .finE [.r []] [] (fun z0:Bool=>(VB z0,[])) _ _ e2
theorem fc_eqC0(l:List Cell):FC Tryz.prog 106 [VL 5 cellT l,VN,.fn 107 []] (app emp []) (VB ((l.length:Int)==0)) (app emp []):=by
 refine .go Tryz.f106 ?_
 refine .len 0 (fun hl0=> ?_)
 refine .bp [.r [],.r [(1,X (Xl cellT l))]] ((l.length:Int) !=0) (fun h1=> ?_) (fun h1=> ?_)
 ·
  have e1:(((l.length:Int)==0):Bool)=false:=by
   rw[beq_eq_false_iff_ne];exact h1
  exact .finE [.r []] [] (fun z0:Bool=>(VB z0,[])) _ _ e1
 ·
  refine .loop (α:=Nat) [.r [(1,X (Xl cellT l))]] 72 (fun i=>([(1,VN),(2,.fn 107 []),(15,VL 5 cellT l),(16,VI (l.length:Int)),(17,VI (i:Int))],[])) (fun i=>i=0) (fun i=>0) (0:Nat) ?_ ?_
  ·
   rfl
  rintro i I4 ih4
  try dsimp only at I4
  refine .bp [.r []] (decide ((i:Int)< (l.length:Int))) (fun h4=> ?_) (fun h4=> ?_)
  ·
   exfalso
   omega
  ·
   have e2:(((l.length:Int)==0):Bool)=true:=by
    rw[beq_iff_eq];exact h1
   exact .finE [.r []] [] (fun z0:Bool=>(VB z0,[])) _ _ e2
end Go.Ch
end
section
set_option linter.unusedVariables false
set_option linter.unusedSimpArgs false
namespace Go.Ch
open Go Go.Ab
structure DStep where
 kind:Int
 n:Int
 attrs:List Attr
 elems:List Elem
instance:Inhabited DStep:=⟨⟨0,0,[],[]⟩⟩
def dstepT(s:DStep):Tree:= .agg [.sc (.int .i64 s.kind),.sc (.int .i64 s.n),.lst 2 (s.attrs.map attrT),.lst 3 (s.elems.map elemT)]
def AN(n:Nat)(l:List Elem):Prop:=∀x∈l,x.attrs.length≤n
def stepD(s:DStep):Int:=
 if s.kind=1 then(if s.n≠0∨0<s.attrs.length then 4 else if s.elems.length=0 then 11 else partE s.elems 0)
 else if s.kind=0∨s.kind=2 then
  (if 0<s.elems.length∨(s.kind=2∧0<s.attrs.length) then 4 else if s.n<1∨2147483647<s.n then 2 else chkA true s.attrs 0)
 else 8
def szD(s:DStep):Int:=if s.kind=1 then(s.elems.length:Int) else s.n
def DOk(s:DStep):Prop:=
 (s.kind=1∧s.n=0∧s.attrs=[]∧s.elems≠[]∧∀x∈s.elems,elemE x=0)∨
 ((s.kind=0∨s.kind=2)∧s.elems=[]∧(s.kind=2→s.attrs=[])∧1≤s.n∧s.n≤2147483647∧VG true s.attrs)
theorem len0{α:Type}{l:List α}:¬0<l.length↔l=[]:=by
 rw[Nat.not_lt,Nat.le_zero,List.length_eq_zero_iff]
theorem step_iff{s:DStep}:stepD s=0↔DOk s:=by
 unfold stepD DOk
 by_cases k1:s.kind=1
 ·rw[if_pos k1]
  by_cases c1:s.n≠0∨0<s.attrs.length
  ·rw[if_pos c1]
   constructor
   ·intro h;omega
   ·rintro(⟨_,h1,h2,_⟩| ⟨h,_⟩)
    ·rw[h2] at c1;simp at c1;omega
    ·omega
  rw[if_neg c1]
  by_cases c2:s.elems.length=0
  ·rw[if_pos c2]
   constructor
   ·intro h;omega
   ·rintro(⟨_,_,_,h,_⟩| ⟨h,_⟩)
    ·exact absurd (List.length_eq_zero_iff.1 c2) h
    ·omega
  rw[if_neg c2,part_iff]
  have ha:s.attrs=[]:=len0.1 (by omega)
  constructor
  ·intro h
   exact .inl ⟨k1,by omega,ha,fun e=>c2 (by rw[e];rfl),h⟩
  ·rintro(⟨_,_,_,_,h⟩| ⟨h,_⟩)
   ·exact h
   ·omega
 rw[if_neg k1]
 by_cases k2:s.kind=0∨s.kind=2
 ·rw[if_pos k2]
  by_cases c1:0<s.elems.length∨(s.kind=2∧0<s.attrs.length)
  ·rw[if_pos c1]
   constructor
   ·intro h;omega
   ·rintro(⟨h,_⟩| ⟨_,h1,h2,_⟩)
    ·omega
    ·rcases c1 with c| ⟨c,d⟩
     ·rw[h1] at c;simp at c
     ·rw[h2 c] at d;simp at d
  rw[if_neg c1]
  by_cases c2:s.n<1∨2147483647<s.n
  ·rw[if_pos c2]
   constructor
   ·intro h;omega
   ·rintro(⟨h,_⟩| ⟨_,_,_,h1,h2,_⟩)<;>omega
  rw[if_neg c2,chk_iff]
  constructor
  ·intro h
   exact .inr ⟨k2,len0.1 (by omega),fun h2=>len0.1 (by omega),by omega,by omega,h⟩
  ·rintro(⟨h,_⟩| ⟨_,_,_,_,_,h⟩)
   ·omega
   ·exact h
 ·rw[if_neg k2]
  constructor
  ·intro h;omega
  ·rintro(⟨h,_⟩| ⟨h,_⟩)
   ·omega
   ·exact absurd h k2
theorem stepD_sz{s:DStep}(h:stepD s=0):(s.kind=0∨s.kind=1∨s.kind=2)∧0≤s.n∧s.n≤2147483647∧1≤szD s∧szD s≤max 2147483647 s.elems.length:=by
 unfold szD
 rcases step_iff.1 h with⟨k,n,a,e,_⟩| ⟨k,_,_,n1,n2,_⟩
 ·have:0<s.elems.length:=List.length_pos_iff.2 e
  rw[if_pos k];omega
 ·rw[if_neg (by omega)];omega
def adjD(w x:DStep):Bool:=((w.kind==x.kind)&&((x.kind !=0)||sameL w.attrs x.attrs))|| ((w.kind==2)&&(x.kind==1))
theorem adjD_yes{w x:DStep}:adjD w x=true↔(w.kind=x.kind∧(¬x.kind=0∨sameL w.attrs x.attrs=true))∨(w.kind=2∧x.kind=1):=by
 unfold adjD;simp
theorem adjD_no{w x:DStep}(h:(¬w.kind=x.kind∨(x.kind=0∧sameL w.attrs x.attrs=false))∧(¬w.kind=2∨¬x.kind=1)):¬adjD w x=true:=by
 rw[adjD_yes]
 rintro(⟨a,b⟩| ⟨a,b⟩)
 ·rcases h.1 with c| ⟨c,d⟩
  ·exact c a
  ·rcases b with b|b
   ·exact b c
   ·rw[d] at b;cases b
 ·rcases h.2 with c|c
  ·exact c a
  ·exact c b
def DN(n:Nat)(l:List DStep):Prop:=∀s∈l,s.elems.length≤n∧s.attrs.length≤n∧AN n s.elems
theorem DN.at_{n:Nat}{l:List DStep}(h:DN n l){k:Nat}(hk:k<l.length):(l.getD k default).elems.length≤n∧(l.getD k default).attrs.length≤n∧AN n (l.getD k default).elems:=by
 refine h _ ?_
 rw[show l.getD k default=l[k] by simp[List.getD,List.getElem?_eq_getElem hk]]
 exact List.getElem_mem hk
def chkD(l:List DStep)(i:Nat)(b a:Int):Int:=
 if i<l.length then
  if stepD (l.getD i default)≠0 then stepD (l.getD i default)
  else if 0<i∧adjD (l.getD (i- 1) default) (l.getD i default)=true then 5
  else chkD l (i+1) (if(l.getD i default).kind≠1 then min (b+(l.getD i default).n) 2147483648 else b) (if(l.getD i default).kind≠2 then min (a+szD (l.getD i default)) 2147483648 else a)
 else if 2147483647<b∨2147483647<a then 3 else 0
termination_by l.length-i
def checkD(l:List DStep):Int:=chkD l 0 0 0
def oS(s:DStep):Int:=if s.kind=1 then 0 else s.n
def nS(s:DStep):Int:=if s.kind=2 then 0 else szD s
def oldD:List DStep→Int
 | []=>0
 |s::l=>oS s+oldD l
def newD:List DStep→Int
 | []=>0
 |s::l=>nS s+newD l
def DForm:List DStep→Prop
 | []=>True
 | [s]=>DOk s
 |s::t::l=>DOk s∧adjD s t=false∧DForm (t::l)
def DFormAt(l:List DStep)(i:Nat):Prop:=∀k,i≤k→k<l.length→DOk (l.getD k default)∧(0<k→adjD (l.getD (k- 1) default) (l.getD k default)=false)
theorem dropD{α:Type}[Inhabited α]{l:List α}{i:Nat}(h:i<l.length):l.drop i=l.getD i default::l.drop (i+1):=by
 rw[List.drop_eq_getElem_cons h];simp[List.getD,List.getElem?_eq_getElem h]
theorem oS_nn{s:DStep}(h:DOk s):0≤oS s∧0≤nS s:=by
 have:=stepD_sz (step_iff.2 h)
 unfold oS nS
 constructor<;>split<;>omega
theorem atD_drop{l:List DStep}{i:Nat}(h:DFormAt l i):∀s∈l.drop i,DOk s:=by
 intro s hs
 obtain⟨k,hk,e⟩:=List.mem_iff_getElem.1 hs
 rw[List.length_drop] at hk
 have:=(h (i+k) (by omega) (by omega)).1
 rw[List.getElem_drop] at e
 rw[←e]
 simpa[List.getD,List.getElem?_eq_getElem (show i+k<l.length by omega)] using this
theorem sums_nn:∀{l:List DStep},(∀s∈l,DOk s)→0≤oldD l∧0≤newD l
 | [],_=>⟨Int.le_refl _,Int.le_refl _⟩
 |s::l,h=>by
  have h1:=oS_nn (h s (by simp))
  have h2:=sums_nn (l:=l) (fun t ht=>h t (by simp[ht]))
  simp only[oldD,newD];omega
theorem chkD_all(l:List DStep):∀(m i:Nat) (b a:Int),l.length-i=m→0≤b→0≤a→b≤2147483648→a≤2147483648→
 (chkD l i b a=0↔DFormAt l i∧b+oldD (l.drop i)≤2147483647∧a+newD (l.drop i)≤2147483647)
 |0,i,b,a,h,hb,ha,hb2,ha2=>by
  rw[chkD,if_neg (by omega),List.drop_eq_nil_of_le (by omega)]
  simp only[oldD,newD]
  split
  ·constructor
   ·intro h;omega
   ·rintro⟨_,h1,h2⟩;omega
  ·exact⟨fun _=>⟨fun k h1 h2=>by omega,by omega,by omega⟩,fun _=>rfl⟩
 |m+1,i,b,a,h,hb,ha,hb2,ha2=>by
  have hi:i<l.length:=by omega
  rw[chkD,if_pos hi]
  have step:DFormAt l i↔(DOk (l.getD i default)∧(0<i→adjD (l.getD (i- 1) default) (l.getD i default)=false))∧DFormAt l (i+1):=by
   constructor
   ·exact fun h=>⟨h i (Nat.le_refl _) hi,fun k h1 h2=>h k (by omega) h2⟩
   ·rintro⟨h1,h2⟩ k h3 h4
    by_cases e:k=i
    ·subst e;exact h1
    ·exact h2 k (by omega) h4
  rw[step,dropD hi]
  simp only[oldD,newD]
  have ih:=fun b' a'=>chkD_all l m (i+1) b' a' (by omega)
  have nn:=fun f:DFormAt l (i+1)=>sums_nn (atD_drop f)
  generalize l.getD i default=x at*
  generalize l.getD (i- 1) default=y at*
  by_cases c1:stepD x≠0
  ·rw[if_pos c1];constructor
   ·intro h;exact absurd h c1
   ·rintro⟨⟨⟨h,_⟩,_⟩,_⟩;exact absurd (step_iff.2 h) c1
  rw[if_neg c1]
  have hs:=step_iff.1 (by omega:stepD x=0)
  have hz:=stepD_sz (by omega:stepD x=0)
  by_cases c3:0<i∧adjD y x=true
  ·rw[if_pos c3];constructor
   ·intro h;omega
   ·rintro⟨⟨⟨_,h⟩,_⟩,_⟩
    have:=h c3.1
    rw[c3.2] at this;cases this
  rw[if_neg c3,ih _ _ (by split<;>omega) (by split<;>omega) (by split<;>omega) (by split<;>omega)]
  unfold oS nS
  constructor
  ·rintro⟨f,h1,h2⟩
   obtain⟨n0,n1⟩:=nn f
   refine⟨⟨⟨hs,fun h0=> ?_⟩,f⟩,?_,?_⟩
   ·cases e:adjD y x
    ·rfl
    ·exact absurd ⟨h0,e⟩ c3
   ·by_cases k1:x.kind=1
    ·rw[if_pos k1];rw[if_neg (by omega)] at h1;omega
    ·rw[if_neg k1];rw[if_pos k1] at h1;omega
   ·by_cases k1:x.kind=2
    ·rw[if_pos k1];rw[if_neg (by omega)] at h2;omega
    ·rw[if_neg k1];rw[if_pos k1] at h2;omega
  ·rintro⟨⟨_,f⟩,h1,h2⟩
   obtain⟨n0,n1⟩:=nn f
   refine⟨f,?_,?_⟩
   ·by_cases k1:x.kind=1
    ·rw[if_pos k1] at h1;rw[if_neg (by omega)];omega
    ·rw[if_neg k1] at h1;rw[if_pos k1];omega
   ·by_cases k1:x.kind=2
    ·rw[if_pos k1] at h2;rw[if_neg (by omega)];omega
    ·rw[if_neg k1] at h2;rw[if_pos k1];omega
theorem dform_of_at:∀{l:List DStep},DFormAt l 0→DForm l
 | [],_=>trivial
 | [s],h=>(h 0 (Nat.le_refl _) (by simp)).1
 |s::t::l,h=>by
  refine⟨(h 0 (Nat.le_refl _) (by simp)).1,(h 1 (by omega) (by simp)).2 (by omega),dform_of_at (fun k h1 h2=> ?_)⟩
  have h2':k+1< (s::t::l).length:=by simp at h2⊢;omega
  have:=h (k+1) (by omega) h2'
  simp only[List.getD_cons_succ] at this
  refine⟨this.1,fun h0=> ?_⟩
  have e:=this.2 (by omega)
  rw[show k+1- 1=(k- 1)+1 by omega,List.getD_cons_succ] at e
  exact e
theorem at_of_dform:∀{l:List DStep},DForm l→DFormAt l 0
 | [],_=>fun k h1 h2=>by simp at h2
 | [s],h=>fun k h1 h2=>by
  have:k=0:=by simp at h2;omega
  subst this
  exact⟨h,fun h0=>by omega⟩
 |s::t::l,h=>fun k h1 h2=>by
  obtain⟨a,b,c⟩:=h
  rcases k with _|k
  ·exact⟨a,fun h0=>by omega⟩
  ·have:=at_of_dform c k (Nat.zero_le _) (by simp at h2⊢;omega)
   rw[List.getD_cons_succ]
   refine⟨this.1,fun _=> ?_⟩
   rcases k with _|k
   ·exact b
   ·rw[Nat.add_sub_cancel,List.getD_cons_succ]
    have e:=this.2 (by omega)
    rw[Nat.add_sub_cancel] at e
    exact e
def DValid(l:List DStep):Prop:=DForm l∧oldD l≤2147483647∧newD l≤2147483647
theorem checkD_iff{l:List DStep}:checkD l=0↔DValid l:=by
 unfold checkD DValid
 rw[chkD_all l _ 0 0 0 rfl (Int.le_refl _) (Int.le_refl _) (by decide) (by decide)]
 simp only[List.drop_zero,Int.zero_add]
 exact⟨fun h=>⟨dform_of_at h.1,h.2⟩,fun h=>⟨at_of_dform h.1,h.2⟩⟩
theorem DForm.all{l:List DStep}(h:DForm l):∀s∈l,DOk s:=by
 have:=atD_drop (at_of_dform h)
 simpa using this
theorem dlens_step{l:List DStep}{i:Nat}(h:i<l.length)(hf:DForm l):oldD (l.drop i)=(if(l.getD i default).kind=1 then 0 else(l.getD i default).n)+oldD (l.drop (i+1))∧
 newD (l.drop i)=(if(l.getD i default).kind=2 then 0 else szD (l.getD i default))+newD (l.drop (i+1))∧DOk (l.getD i default)∧0≤oldD (l.drop (i+1))∧0≤newD (l.drop (i+1))∧0≤(l.getD i default).n∧1≤szD (l.getD i default)∧((l.getD i default).kind=0∨(l.getD i default).kind=1∨(l.getD i default).kind=2):=by
 have h1:=((at_of_dform hf) i (Nat.zero_le _) h).1
 have h2:=stepD_sz (step_iff.2 h1)
 have h3:=sums_nn (l:=l.drop (i+1)) (fun s hs=>hf.all s (List.mem_of_mem_drop hs))
 rw[dropD h]
 exact⟨rfl,rfl,h1,h3.1,h3.2,h2.2.1,h2.2.2.2.1,h2.1⟩
theorem dend{l:List DStep}{i:Nat}(h:l.length≤i):oldD (l.drop i)=0∧newD (l.drop i)=0:=by rw[List.drop_eq_nil_of_le h];exact⟨rfl,rfl⟩
def adjR(w x:DStep):Prop:=if x.kind=1 then w.kind≠0 else if x.kind=2 then w.kind=2 else w.kind=0∧sameL w.attrs x.attrs=true
instance (w x:DStep):Decidable (adjR w x):=by unfold adjR;infer_instance
inductive DU where
 |K (c:List Attr)
 |A (e:Elem)
 |C
def exS(s:DStep):List DU:=if s.kind=1 then s.elems.map .A else if s.kind=2 then List.replicate s.n.toNat .C else List.replicate s.n.toNat (.K s.attrs)
def exD:List DStep→List DU
 | []=>[]
 |s::l=>exS s++exD l
theorem exD_app(a b:List DStep):exD (a++b)=exD a++exD b:=by
 induction a with
 |nil=>rfl
 |cons s a ih=>simp[exD,ih]
def chgE(c:List Attr)(x:Elem):Elem:=⟨x.char,x.ref,fm rawG x.attrs c⟩
def applyU:List DU→List Elem→List Elem
 | [],_=>[]
 | .A e::u,l=>e::applyU u l
 | .K c::u,x::l=>chgE c x::applyU u l
 | .C::u,_::l=>applyU u l
 | .K _::u,[]=>applyU u []
 | .C::u,[]=>applyU u []
def oldN:List DU→Nat
 | []=>0
 | .A _::u=>oldN u
 |_::u=>oldN u+1
def newN:List DU→Nat
 | []=>0
 | .C::u=>newN u
 |_::u=>newN u+1
inductive DSw:List DU→List DU→Prop
 |refl (u:List DU):DSw u u
 |cons (x:DU) {u v:List DU} (h:DSw u v):DSw (x::u) (x::v)
 |swap (e:Elem) (u:List DU):DSw (.A e:: .C::u) (.C:: .A e::u)
 |symm {u v:List DU} (h:DSw u v):DSw v u
 |trans {u v w:List DU} (h:DSw u v) (k:DSw v w):DSw u w
theorem DSw.left(w:List DU){u v:List DU}(h:DSw u v):DSw (w++u) (w++v):=by
 induction w with
 |nil=>exact h
 |cons x w ih=>exact .cons x ih
theorem DSw.right(w:List DU){u v:List DU}(h:DSw u v):DSw (u++w) (v++w):=by
 induction h with
 |refl u=>exact .refl _
 |cons x _ ih=>exact .cons x ih
 |swap e u=>exact .swap e _
 |symm _ ih=>exact .symm ih
 |trans _ _ a b=>exact .trans a b
theorem sw_applyU{u v:List DU}(h:DSw u v):∀l,applyU u l=applyU v l:=by
 induction h with
 |refl u=>exact fun _=>rfl
 |cons x _ ih=>
  intro l
  cases x<;>cases l<;>simp[applyU,ih]
 |swap e u=>intro l;cases l<;>simp[applyU]
 |symm _ ih=>exact fun l=>(ih l).symm
 |trans _ _ a b=>exact fun l=>(a l).trans (b l)
theorem dsw_lens{u v:List DU}(h:DSw u v):oldN u=oldN v∧newN u=newN v:=by
 induction h with
 |refl u=>exact⟨rfl,rfl⟩
 |cons x _ ih=>cases x<;>simp[oldN,newN,ih.1,ih.2]
 |swap e u=>exact⟨rfl,rfl⟩
 |symm _ ih=>exact⟨ih.1.symm,ih.2.symm⟩
 |trans _ _ a b=>exact⟨a.1.trans b.1,a.2.trans b.2⟩
theorem dsw_C_As(e:List Elem)(u:List DU):DSw (.C::(e.map .A++u)) (e.map .A++ .C::u):=by
 induction e with
 |nil=>exact .refl _
 |cons x e ih=>exact .trans (.symm (.swap x _)) (.cons _ ih)
theorem dsw_Cs_As(c:Nat)(e:List Elem)(u:List DU):DSw (List.replicate c .C++(e.map .A++u)) (e.map .A++(List.replicate c .C++u)):=by
 induction c with
 |zero=>exact .refl _
 |succ c ih=>exact .trans (.cons _ ih) (dsw_C_As e _)
theorem applyU_As(e:List Elem)(u:List DU)(l:List Elem):applyU (e.map .A++u) l=e++applyU u l:=by
 induction e with
 |nil=>rfl
 |cons x e ih=>simp[applyU,ih]
theorem applyU_Ks(n:Nat)(c:List Attr)(u:List DU):∀l:List Elem,applyU (List.replicate n (.K c)++u) l=(l.take n).map (chgE c)++applyU u (l.drop n):=by
 induction n with
 |zero=>intro l;simp
 |succ n ih=>
  intro l
  cases l with
  |nil=>have:=ih [];simpa[applyU,List.replicate_succ] using this
  |cons x l=>simp[applyU,List.replicate_succ,ih]
theorem applyU_Cs(n:Nat)(u:List DU):∀l:List Elem,applyU (List.replicate n .C++u) l=applyU u (l.drop n):=by
 induction n with
 |zero=>intro l;simp
 |succ n ih=>
  intro l
  cases l with
  |nil=>have:=ih [];simpa[applyU,List.replicate_succ] using this
  |cons x l=>simp[applyU,List.replicate_succ,ih]
def rawD(l:List Elem)(d:List DStep):List Elem:=applyU (exD d) l
theorem raw_at{d:List DStep}{i:Nat}(h:i<d.length)(l:List Elem):applyU (exD (d.drop i)) l=
 if(d.getD i default).kind=1 then(d.getD i default).elems++applyU (exD (d.drop (i+1))) l
 else if(d.getD i default).kind=2 then applyU (exD (d.drop (i+1))) (l.drop (d.getD i default).n.toNat)
 else(l.take (d.getD i default).n.toNat).map (chgE (d.getD i default).attrs)++applyU (exD (d.drop (i+1))) (l.drop (d.getD i default).n.toNat):=by
 rw[dropD h,exD]
 unfold exS
 split
 ·rw[applyU_As]
 ·split
  ·rw[applyU_Cs]
  ·rw[applyU_Ks]
end Go.Ch
end
section
set_option linter.unusedVariables false
set_option linter.unusedSimpArgs false
namespace Go.Ch
open Go Go.Ab
structure EOp where
 kind:Int
 node:Int
 nw:Node
 attrs:List Attr
 steps:List DStep
 grid:GEd
 draw:List DOp
instance:Inhabited EOp:=⟨⟨0,0,default,[],[],default,[]⟩⟩
def eopT(o:EOp):Tree:= .agg [TI o.kind,TI o.node,TI o.nw.id,TI o.nw.kind,.lst 2 (o.nw.attrs.map attrT),.lst 3 (o.nw.flow.map elemT),TI o.nw.grid.rows,TI o.nw.grid.cols,.lst 5 (o.nw.grid.cells.map cellT),.lst 4 (o.nw.grid.merges.map rectT),.lst 8 (o.nw.draw.map dopT),
 .lst 2 (o.attrs.map attrT),.lst 4 (o.steps.map dstepT),.lst 2 (o.grid.rows.map stepT),.lst 2 (o.grid.cols.map stepT),.lst 5 (o.grid.cells.map cellT),.lst 4 (o.grid.split.map rectT),.lst 4 (o.grid.merge.map rectT),.lst 8 (o.draw.map dopT)]
def zeroNd(n:Node):Bool:=((((n.id==0&&n.kind==0)&&sameL n.attrs [])&&((n.flow.length:Int)==0))&&zeroG n.grid)&&((n.draw.length:Int)==0)
def anyG(g:GEd):Bool:=decide ((g.rows.length:Int)+(g.cols.length:Int)+(g.cells.length:Int)+(g.split.length:Int)+(g.merge.length:Int)> 0)
def unuO(o:EOp):Bool:=
 (o.kind==0&&o.node !=0)|| (o.kind !=0&& !(zeroNd o.nw))|| (o.kind !=1&&decide ((o.attrs.length:Int)> 0))|| (o.kind !=2&&decide ((o.steps.length:Int)> 0))|| (o.kind !=3&&anyG o.grid)|| (o.kind !=4&&decide ((o.draw.length:Int)> 0))
def eopE(o:EOp):Int:=
 if o.kind<0∨4<o.kind then 8
 else if unuO o=true then 4
 else if o.kind=0 then nodeE o.nw
 else if o.node<1∨1073741824<o.node then 2
 else if o.kind=1 then chkA true o.attrs 0
 else if o.kind=2 then checkD o.steps
 else if o.kind=3 then edE o.grid
 else drawE o.draw 0
def eopsE(c:List EOp)(i:Nat):Int:=if i<c.length then(if eopE (c.getD i default)≠0 then eopE (c.getD i default) else eopsE c (i+1)) else 0
termination_by c.length-i
theorem eopsE_bad{c:List EOp}{i:Nat}(h:i<c.length)(he:eopE (c.getD i default)≠0):eopsE c i=eopE (c.getD i default):=by rw[eopsE,if_pos h,if_pos he]
theorem eopsE_next{c:List EOp}{i:Nat}(h:i<c.length)(he:eopE (c.getD i default)=0):eopsE c i=eopsE c (i+1):=by rw[eopsE,if_pos h,if_neg (fun q=>q he)]
theorem eopsE_end{c:List EOp}{i:Nat}(h:¬i<c.length):eopsE c i=0:=by rw[eopsE,if_neg h]
def firstE{α:Type}(f:α→Int):List α→Int
 | []=>0
 |x::l=>if f x≠0 then f x else firstE f l
theorem firstE_at{α:Type}[Inhabited α](f:α→Int){l:List α}{i:Nat}(h:i<l.length):firstE f (l.drop i)=if f (l.getD i default)≠0 then f (l.getD i default) else firstE f (l.drop (i+1)):=by
 rw[show l.drop i=l.getD i default::l.drop (i+1) from by rw[List.drop_eq_getElem_cons h];simp[List.getD,List.getElem?_eq_getElem h]];rfl
theorem firstE_end{α:Type}(f:α→Int){l:List α}{i:Nat}(h:l.length≤i):firstE f (l.drop i)=0:=by rw[List.drop_eq_nil_of_le h];rfl
theorem firstE_all{α:Type}{f:α→Int}{l:List α}(h:∀x∈l,f x=0):firstE f l=0:=by
 induction l with
 |nil=>rfl
 |cons y l ih=>rw[firstE,if_neg (fun q=>q (h y List.mem_cons_self))];exact ih (fun x hx=>h x (List.mem_cons_of_mem _ hx))
def newE(l:List Node)(k:Int)(x:Elem):Int:=if x.ref=0∧hasT k=false then 8 else refsE l k (refsF [x]) 0
def addsE(l:List Node)(k:Int)(s:List DStep):Int:=firstE (fun t:DStep=>firstE (newE l k) t.elems) s
def endsD(s:List DStep):Bool:=decide ((s.length:Int)> 0)&&((s.getD (s.length- 1) default).kind==0)
def flowsE(l:List Node)(n:Node)(s:List DStep):Int:=
 if hasT n.kind=false∧hasL n.kind=false then 8
 else if oldD s≠(n.flow.length:Int) then 14
 else if hasT n.kind=true∧endsD s=false then 4
 else addsE l n.kind s
def newC(l:List Node)(k:Int)(c:Cell):Int:=if c.ref=0 then 0 else refsE l k [c.ref] 0
def gridsE(l:List Node)(n:Node)(g:GEd):Int:=
 if hasG n.kind=false then 8
 else if cellK n.kind g.cells 0≠0 then cellK n.kind g.cells 0
 else if fitsE n.grid g≠0 then fitsE n.grid g
 else firstE (newC l n.kind) g.cells
def insN(l:List Node)(n:Node):List Node:=l.take (lobN l n.id)++n::l.drop (lobN l n.id)
def adnE(l:List Node)(n:Node):Int:=if hasN l n.id=true then 6 else refsE l n.kind (refsN n) 0
def drawsE(n:Node)(c:List DOp):Int:=if hasD n.kind=false then 8 else if(unionO n.draw c).isSome then 0 else 6
def oneE(l:List Node)(o:EOp):Int:=
 if o.kind=0 then adnE l o.nw
 else if hasN l o.node=false then 7
 else if o.kind=1 then 0
 else if o.kind=2 then flowsE l (l.getD (lobN l o.node) default) o.steps
 else if o.kind=3 then gridsE l (l.getD (lobN l o.node) default) o.grid
 else drawsE (l.getD (lobN l o.node) default) o.draw
def oneN(n:Node)(o:EOp):Node:=
 if o.kind=1 then {n with attrs:=fm rawG n.attrs o.attrs}
 else if o.kind=2 then {n with flow:=rawD n.flow o.steps}
 else if o.kind=3 then {n with grid:=rawT n.grid o.grid}
 else {n with draw:=(unionO n.draw o.draw).getD []}
def oneL(l:List Node)(o:EOp):List Node:=
 if oneE l o≠0 then l else if o.kind=0 then insN l o.nw else l.set (lobN l o.node) (oneN (l.getD (lobN l o.node) default) o)
def runE:List Node→List EOp→Int
 |_,[]=>0
 |l,o::c=>if oneE l o≠0 then oneE l o else runE (oneL l o) c
def runL:List Node→List EOp→List Node
 |l,[]=>l
 |l,o::c=>runL (oneL l o) c
def appE(d:Doc)(c:List EOp):Int:=if docE d≠0 then docE d else if eopsE c 0≠0 then eopsE c 0 else runE d.nodes c
def appD(d:Doc)(c:List EOp):Doc:=if appE d c≠0 then⟨[]⟩ else⟨runL d.nodes c⟩
theorem eopsE_all{c:List EOp}:∀(n i:Nat),c.length-i=n→(eopsE c i=0↔∀j,i≤j→j<c.length→eopE (c.getD j default)=0)
 |0,i,h=>by rw[eopsE,if_neg (by omega)];exact⟨fun _ j h1 h2=>by omega,fun _=>rfl⟩
 |n+1,i,h=>by
  have hi:i<c.length:=by omega
  rw[eopsE,if_pos hi]
  by_cases q:eopE (c.getD i default)≠0
  ·rw[if_pos q];exact⟨fun e=>absurd e q,fun e=>absurd (e i (Nat.le_refl _) hi) q⟩
  ·rw[if_neg q,eopsE_all n (i+1) (by omega)]
   refine⟨fun e j h1 h2=> ?_,fun e j h1 h2=>e j (by omega) h2⟩
   by_cases z:j=i
   ·subst z;exact Classical.byContradiction q
   ·exact e j (by omega) h2
theorem eops_iff{c:List EOp}:eopsE c 0=0↔∀o∈c,eopE o=0:=by
 rw[eopsE_all _ 0 rfl]
 constructor
 ·intro h o ho
  obtain⟨j,hj,rfl⟩:∃j,j<c.length∧c.getD j default=o:=by
   obtain⟨j,hj,e⟩:=List.getElem_of_mem ho
   exact⟨j,hj,by simp[List.getD,hj,e]⟩
  exact h j (Nat.zero_le _) hj
 ·intro h j _ hj
  exact h _ (getDX_mem hj)
def ixN(l:List Node)(k:Int):Int:=if hasN l k=true then(lobN l k:Int) else-1
theorem ixN_has{l:List Node}{k:Int}(h:hasN l k=true):ixN l k=(lobN l k:Int):=by unfold ixN;rw[if_pos h]
theorem ixN_ge{l:List Node}{k:Int}:0≤ixN l k↔hasN l k=true:=by
 unfold ixN;split
 ·rename_i h;exact⟨fun _=>h,fun _=>by omega⟩
 ·rename_i h;exact⟨fun q=>by omega,fun q=>absurd q h⟩
theorem ixN_lt{l:List Node}{k:Int}:ixN l k<0↔hasN l k=false:=by
 unfold ixN;split
 ·rename_i h;rw[h];exact⟨fun q=>by omega,fun q=>by cases q⟩
 ·rename_i h;exact⟨fun _=>by simpa using h,fun _=>by omega⟩
structure EopL(o:EOp):Prop where
 a:o.grid.rows.length≤1048576
 b:o.grid.cols.length≤1048576
 c:o.grid.cells.length≤1048576
 d:o.grid.split.length≤1048576
 e:o.grid.merge.length≤1048576
structure OpL(o:EOp):Prop where
 len:EopL o
 nb:NodeB o.nw
 nl:o.nw.grid.merges=[]∧NoTx o.nw.grid.cells
 at1:o.attrs.length≤1048576
 dn:DN 400000000000 o.steps
 gl:LiteE o.grid
 ga:∀c∈o.grid.cells,c.attrs.length≤1048576
 dr:o.draw.length≤1048576
structure DocL(d:Doc):Prop extends DocB d where
 lite:∀n∈d.nodes,n.grid.merges=[]∧NoTx n.grid.cells
def insR(l:List Node)(n:Node):List Node:=if adnE l n≠0 then l else insN l n
theorem ins_e{l:List Node}{n:Node}{k:Int}(h:adnE l n=k)(hk:k≠0):insR l n=l∧adnE l n=k:=by
 unfold insR;rw[h,if_pos hk];exact⟨rfl,rfl⟩
theorem ins_1{l:List Node}{n:Node}(h:hasN l n.id=true):insR l n=l∧adnE l n=6:=ins_e (by unfold adnE;rw[if_pos h]) (by decide)
theorem ins_f{l:List Node}{n:Node}(h:hasN l n.id=false):adnE l n=refsE l n.kind (refsN n) 0:=by unfold adnE;rw[if_neg (by rw[h];decide)]
theorem ins_2{l:List Node}{n:Node}(h:hasN l n.id=false)(h2:refsE l n.kind (refsN n) 0≠0):insR l n=l∧adnE l n=refsE l n.kind (refsN n) 0:=ins_e (ins_f h) h2
theorem ins_G{l:List Node}{n:Node}(h:hasN l n.id=false)(h2:refsE l n.kind (refsN n) 0=0):insR l n=l.take (lobN l n.id)++n::l.drop (lobN l n.id)∧adnE l n=0:=by
 have e:=(ins_f h).trans h2
 unfold insR
 rw[e,if_neg (fun q=>q rfl)]
 exact⟨rfl,rfl⟩
def flowsR(l:List Node)(i:Nat)(s:List DStep):List Node:=
 if flowsE l (l.getD i default) s≠0 then l else l.set i {(l.getD i default) with flow:=rawD (l.getD i default).flow s}
structure FlB(l:List Node)(i:Nat)(s:List DStep):Prop where
 len:l.length≤1048576
 sort:SortN l
 dn:DN 400000000000 s
 dv:DValid s
 an:AN 400000000000 (l.getD i default).flow
theorem fl_err{l:List Node}{i:Nat}{s:List DStep}{k:Int}(h:flowsE l (l.getD i default) s=k)(hk:k≠0):flowsR l i s=l∧flowsE l (l.getD i default) s=k:=by
 unfold flowsR;rw[h,if_pos hk];exact⟨rfl,rfl⟩
theorem fl_ok{l:List Node}{i:Nat}{s:List DStep}(h:flowsE l (l.getD i default) s=0):flowsR l i s=l.set i {(l.getD i default) with flow:=rawD (l.getD i default).flow s}∧flowsE l (l.getD i default) s=0:=by
 unfold flowsR;rw[h,if_neg (fun q=>q rfl)];exact⟨rfl,rfl⟩
theorem fl_1{l:List Node}{n:Node}{s:List DStep}(h:hasT n.kind=false∧hasL n.kind=false):flowsE l n s=8:=by unfold flowsE;rw[if_pos h]
theorem no_and{a b:Bool}(h:a=true∨b=true):¬(a=false∧b=false):=by rintro⟨rfl,rfl⟩;rcases h with h|h<;>cases h
theorem fl_2{l:List Node}{n:Node}{s:List DStep}(h:hasT n.kind=true∨hasL n.kind=true)(h2:oldD s≠(n.flow.length:Int)):flowsE l n s=14:=by unfold flowsE;rw[if_neg (no_and h),if_pos h2]
theorem fl_3{l:List Node}{n:Node}{s:List DStep}(h:hasT n.kind=true∨hasL n.kind=true)(h2:oldD s=(n.flow.length:Int))(h3:hasT n.kind=true∧endsD s=false):flowsE l n s=4:=by
 unfold flowsE;rw[if_neg (no_and h),if_neg (fun q=>q h2),if_pos h3]
theorem fl_4{l:List Node}{n:Node}{s:List DStep}(h:hasT n.kind=true∨hasL n.kind=true)(h2:oldD s=(n.flow.length:Int))(h3:hasT n.kind=false∨endsD s=true):flowsE l n s=addsE l n.kind s:=by
 unfold flowsE;rw[if_neg (no_and h),if_neg (fun q=>q h2),if_neg]
 rintro⟨a,b⟩;rcases h3 with q|q
 ·rw[a] at q;cases q
 ·rw[b] at q;cases q
theorem newE_8{l:List Node}{k:Int}{x:Elem}(h:x.ref=0∧hasT k=false):newE l k x=8:=by unfold newE;rw[if_pos h]
theorem newE_r{l:List Node}{k:Int}{x:Elem}(h:x.ref≠0∨hasT k=true):newE l k x=refsE l k (refsF [x]) 0:=by
 unfold newE;rw[if_neg]
 rintro⟨a,b⟩;rcases h with q|q
 ·exact q a
 ·rw[b] at q;cases q
def gridsR(l:List Node)(i:Nat)(g:GEd):List Node:=
 if gridsE l (l.getD i default) g≠0 then l else l.set i {(l.getD i default) with grid:=rawT (l.getD i default).grid g}
structure GrB(l:List Node)(i:Nat)(g:GEd):Prop where
 len:l.length≤1048576
 sort:SortN l
 gl:LiteE g
 m:(l.getD i default).grid.merges=[]
 tx:NoTx (l.getD i default).grid.cells
 l1:(l.getD i default).grid.cells.length≤1048576
 l2:g.cells.length≤1048576
 a1:∀c∈(l.getD i default).grid.cells,c.attrs.length≤1048576
 a2:∀c∈g.cells,c.attrs.length≤1048576
 k:(l.getD i default).kind≠6
theorem gr_err{l:List Node}{i:Nat}{s:GEd}{k:Int}(h:gridsE l (l.getD i default) s=k)(hk:k≠0):gridsR l i s=l∧gridsE l (l.getD i default) s=k:=by
 unfold gridsR;rw[h,if_pos hk];exact⟨rfl,rfl⟩
theorem gr_ok{l:List Node}{i:Nat}{s:GEd}(h:gridsE l (l.getD i default) s=0):gridsR l i s=l.set i {(l.getD i default) with grid:=rawT (l.getD i default).grid s}∧gridsE l (l.getD i default) s=0:=by
 unfold gridsR;rw[h,if_neg (fun q=>q rfl)];exact⟨rfl,rfl⟩
theorem gr_1{l:List Node}{n:Node}{g:GEd}(h:hasG n.kind=false):gridsE l n g=8:=by unfold gridsE;rw[if_pos h]
theorem gr_2{l:List Node}{n:Node}{g:GEd}(h:hasG n.kind=true)(h2:cellK n.kind g.cells 0≠0):gridsE l n g=cellK n.kind g.cells 0:=by unfold gridsE;rw[if_neg (by rw[h];decide),if_pos h2]
theorem gr_3{l:List Node}{n:Node}{g:GEd}(h:hasG n.kind=true)(h2:cellK n.kind g.cells 0=0)(h3:fitsE n.grid g≠0):gridsE l n g=fitsE n.grid g:=by
 unfold gridsE;rw[if_neg (by rw[h];decide),if_neg (fun q=>q h2),if_pos h3]
theorem gr_4{l:List Node}{n:Node}{g:GEd}(h:hasG n.kind=true)(h2:cellK n.kind g.cells 0=0)(h3:fitsE n.grid g=0):gridsE l n g=firstE (newC l n.kind) g.cells:=by
 unfold gridsE;rw[if_neg (by rw[h];decide),if_neg (fun q=>q h2),if_neg (fun q=>q h3)]
theorem newC_r{l:List Node}{k:Int}{c:Cell}(h:c.ref≠0):newC l k c=refsE l k [c.ref] 0:=by unfold newC;rw[if_neg h]
theorem newC_0{l:List Node}{k:Int}{c:Cell}(h:c.ref=0):newC l k c=0:=by unfold newC;rw[if_pos h]
theorem firstE_0{α:Type}[Inhabited α](f:α→Int){l:List α}{i:Nat}(h:i<l.length)(h0:f (l.getD i default)=0):firstE f (l.drop i)=firstE f (l.drop (i+1)):=by rw[firstE_at f h,if_neg (fun q=>q h0)]
theorem hasG_2{k:Int}(h:hasG k=true)(h6:k≠6)(h2:k≠2):False:=by
 unfold hasG at h;rw[Bool.or_eq_true,beq_iff_eq,beq_iff_eq] at h;omega
structure OneB(l:List Node)(o:EOp):Prop where
 len:l.length≤1048575
 sort:SortN l
 ok:eopE o=0
 op:OpL o
 all:∀n∈l,NodeB n∧(n.grid.merges=[]∧NoTx n.grid.cells)∧n.kind≠6
theorem OneB.base{l:List Node}{o:EOp}(h:OneB l o):l.length≤1048575∧l.length≤1048576∧SortN l:=⟨h.len,by have:=h.len;omega,h.sort⟩
theorem OneB.nw{l:List Node}{o:EOp}(h:OneB l o):NodeB o.nw:=h.op.nb
theorem OneB.nd{l:List Node}{o:EOp}(h:OneB l o)(hh:hasN l o.node=true):(l.getD (lobN l o.node) default).attrs.length≤1048576∧o.attrs.length≤1048576:=
 ⟨(h.all _ (getDX_mem (hasN_iff.1 hh).1)).1.at2,h.op.at1⟩
theorem OneB.fl{l:List Node}{o:EOp}(h:OneB l o)(hh:hasN l o.node=true)(hk:o.kind=2):FlB l (lobN l o.node) o.steps:=by
 have hn:=h.all _ (getDX_mem (hasN_iff.1 hh).1)
 have he:=h.ok
 unfold eopE at he
 refine⟨h.base.2.1,h.sort,h.op.dn,checkD_iff.1 ?_,fun x hx=>by have:=hn.1.fl3 x hx;omega⟩
 split at he
 ·cases he
 ·split at he
  ·cases he
  ·have k0:¬o.kind=0:=by omega
   have k1:¬o.kind=1:=by omega
   rw[if_neg k0] at he
   split at he
   ·cases he
   ·first|exact he| (rw[if_neg k1,if_pos hk] at he;exact he)
theorem OneB.gr{l:List Node}{o:EOp}(h:OneB l o)(hh:hasN l o.node=true)(hk:o.kind=3):GrB l (lobN l o.node) o.grid:=by
 have hn:=h.all _ (getDX_mem (hasN_iff.1 hh).1)
 exact⟨h.base.2.1,h.sort,h.op.gl,hn.2.1.1,hn.2.1.2,hn.1.ce2,h.op.len.c,hn.1.ce3,h.op.ga,hn.2.2⟩
theorem OneB.kd{l:List Node}{o:EOp}(h:OneB l o)(h0:o.kind≠0)(h1:o.kind≠1)(h2:o.kind≠2)(h3:o.kind≠3):o.kind=4:=by
 have he:=h.ok
 unfold eopE at he
 split at he
 ·cases he
 ·omega
theorem OneB.dr{l:List Node}{o:EOp}(h:OneB l o)(hh:hasN l o.node=true)(hk:o.kind=4):(l.getD (lobN l o.node) default).draw.length≤1048576∧o.draw.length≤1048576:=
 ⟨(h.all _ (getDX_mem (hasN_iff.1 hh).1)).1.dr1,h.op.dr⟩
theorem one_0{l:List Node}{o:EOp}(h:o.kind=0):oneL l o=insR l o.nw∧oneE l o=adnE l o.nw:=by
 have e:oneE l o=adnE l o.nw:=by unfold oneE;rw[if_pos h]
 refine⟨?_,e⟩
 unfold oneL insR;rw[e,if_pos h]
theorem one_e{l:List Node}{o:EOp}{k:Int}(h:oneE l o=k)(hk:k≠0):oneL l o=l∧oneE l o=k:=by
 unfold oneL;rw[h,if_pos hk];exact⟨rfl,rfl⟩
theorem one_1{l:List Node}{o:EOp}(h:o.kind≠0)(h2:hasN l o.node=false):oneL l o=l∧oneE l o=7:=one_e (by unfold oneE;rw[if_neg h,if_pos h2]) (by decide)
theorem one_s{l:List Node}{o:EOp}(h:o.kind≠0)(h0:oneE l o=0):oneL l o=l.set (lobN l o.node) (oneN (l.getD (lobN l o.node) default) o):=by
 unfold oneL;rw[h0,if_neg (fun q=>q rfl),if_neg h]
theorem one_2{l:List Node}{o:EOp}(h:hasN l o.node=true)(hk:o.kind=1):oneL l o=l.set (lobN l o.node) {(l.getD (lobN l o.node) default) with attrs:=fm rawG (l.getD (lobN l o.node) default).attrs o.attrs}∧oneE l o=0:=by
 have e:oneE l o=0:=by unfold oneE;rw[if_neg (by omega),if_neg (by rw[h];decide),if_pos hk]
 refine⟨(one_s (by omega) e).trans ?_,e⟩
 unfold oneN;rw[if_pos hk]
theorem one_3{l:List Node}{o:EOp}(h:hasN l o.node=true)(hk:o.kind=2):oneL l o=flowsR l (lobN l o.node) o.steps∧oneE l o=flowsE l (l.getD (lobN l o.node) default) o.steps:=by
 have e:oneE l o=flowsE l (l.getD (lobN l o.node) default) o.steps:=by unfold oneE;rw[if_neg (by omega),if_neg (by rw[h];decide),if_neg (by omega),if_pos hk]
 refine⟨?_,e⟩
 unfold oneL flowsR oneN;rw[e,if_neg (show¬o.kind=0 by omega),if_neg (show¬o.kind=1 by omega),if_pos hk]
theorem one_4{l:List Node}{o:EOp}(h:hasN l o.node=true)(hk:o.kind=3):oneL l o=gridsR l (lobN l o.node) o.grid∧oneE l o=gridsE l (l.getD (lobN l o.node) default) o.grid:=by
 have e:oneE l o=gridsE l (l.getD (lobN l o.node) default) o.grid:=by unfold oneE;rw[if_neg (by omega),if_neg (by rw[h];decide),if_neg (by omega),if_neg (by omega),if_pos hk]
 refine⟨?_,e⟩
 unfold oneL gridsR oneN;rw[e,if_neg (show¬o.kind=0 by omega),if_neg (show¬o.kind=1 by omega),if_neg (show¬o.kind=2 by omega),if_pos hk]
theorem one_d{l:List Node}{o:EOp}(h:hasN l o.node=true)(hk:o.kind=4):oneE l o=drawsE (l.getD (lobN l o.node) default) o.draw:=by
 unfold oneE;rw[if_neg (by omega),if_neg (by rw[h];decide),if_neg (by omega),if_neg (by omega),if_neg (by omega)]
theorem one_5{l:List Node}{o:EOp}(h:hasN l o.node=true)(hk:o.kind=4)(hd:hasD (l.getD (lobN l o.node) default).kind=false):oneL l o=l∧oneE l o=8:=
 one_e ((one_d h hk).trans (by unfold drawsE;rw[if_pos hd])) (by decide)
theorem one_6{l:List Node}{o:EOp}(h:hasN l o.node=true)(hk:o.kind=4)(hd:hasD (l.getD (lobN l o.node) default).kind=true):
 ((if(unionO (l.getD (lobN l o.node) default).draw o.draw).isSome then(0:Int) else 6)=0→oneL l o=l.set (lobN l o.node) {(l.getD (lobN l o.node) default) with draw:=(unionO (l.getD (lobN l o.node) default).draw o.draw).getD []})∧
 ((if(unionO (l.getD (lobN l o.node) default).draw o.draw).isSome then(0:Int) else 6)≠0→oneL l o=l)∧oneE l o=(if(unionO (l.getD (lobN l o.node) default).draw o.draw).isSome then(0:Int) else 6):=by
 have e:oneE l o=(if(unionO (l.getD (lobN l o.node) default).draw o.draw).isSome then(0:Int) else 6):=(one_d h hk).trans (by unfold drawsE;rw[if_neg (by rw[hd];decide)])
 refine⟨fun h0=>(one_s (by omega) (e.trans h0)).trans ?_,fun h0=>(one_e e h0).1,e⟩
 unfold oneN;rw[if_neg (show¬o.kind=1 by omega),if_neg (show¬o.kind=2 by omega),if_neg (show¬o.kind=3 by omega)]
def RunB:List Node→List EOp→Prop
 |_,[]=>True
 |l,o::c=>OneB l o∧(oneE l o=0→RunB (oneL l o) c)
structure AppB(d:Doc)(c:List EOp):Prop where
 doc:DocL d
 ops:∀o∈c,OpL o
 run:docE d=0→eopsE c 0=0→RunB d.nodes c
theorem app_e{d:Doc}{c:List EOp}{k:Int}(h:appE d c=k)(hk:k≠0):appD d c=⟨[]⟩∧appE d c=k:=by
 unfold appD;rw[h,if_pos hk];exact⟨rfl,rfl⟩
theorem app_1{d:Doc}{c:List EOp}(h:docE d≠0):appD d c=⟨[]⟩∧appE d c=docE d:=app_e (by unfold appE;rw[if_pos h]) h
theorem app_2{d:Doc}{c:List EOp}(h:docE d=0)(h2:eopsE c 0≠0):appD d c=⟨[]⟩∧appE d c=eopsE c 0:=app_e (by unfold appE;rw[if_neg (fun q=>q h),if_pos h2]) h2
theorem app_r{d:Doc}{c:List EOp}(h:docE d=0)(h2:eopsE c 0=0):appE d c=runE d.nodes c:=by unfold appE;rw[if_neg (fun q=>q h),if_neg (fun q=>q h2)]
theorem app_3{d:Doc}{c:List EOp}{k:Int}(h:docE d=0)(h2:eopsE c 0=0)(h3:runE d.nodes c=k)(hk:k≠0):appD d c=⟨[]⟩∧appE d c=k:=app_e ((app_r h h2).trans h3) hk
theorem app_4{d:Doc}{c:List EOp}{l:List Node}(h:docE d=0)(h2:eopsE c 0=0)(h3:runE d.nodes c=0)(h4:runL d.nodes c=l):appD d c=⟨l⟩∧appE d c=0:=by
 have e:=(app_r h h2).trans h3
 unfold appD;rw[e,if_neg (fun q=>q rfl),h4];exact⟨rfl,rfl⟩
theorem doc_nodes{d:Doc}(h:docE d=0):nodesE d.nodes 0=0:=by
 unfold docE at h
 split at h
 ·cases h
 ·split at h
  ·rename_i q;exact absurd h q
  ·rename_i q;exact Classical.byContradiction q
theorem sort_doc{d:Doc}(h:docE d=0):SortN d.nodes:=sort_of (doc_nodes h)
theorem node_doc{d:Doc}(h:docE d=0):∀n∈d.nodes,nodeE n=0:=by
 intro n hn
 obtain⟨j,hj,rfl⟩:=mem_getDX hn
 exact(nodesE_all _ 0 rfl (doc_nodes h)).1 j (Nat.zero_le _) hj
end Go.Ch
end
section
set_option linter.unusedVariables false
set_option linter.unusedSimpArgs false
set_option maxRecDepth 100000
set_option maxHeartbeats 4000000
open Go Go.Proofs Go.Ab
namespace Go.Ch
theorem fc_sameG0(x:Grid):FC Tryz.prog 69 [.t (gridT x),.t (.agg [TI 0,TI 0,TN,TN])] (app emp []) (VB (zeroG x)) (app emp []):=by
 refine .go Tryz.f69 ?_
 have e1:((zeroG x):Bool)=((((x.rows==0)&&(x.cols==0))&&(((x.merges).length:Int)==0))&&(((x.cells).length:Int)==0)):=by
  unfold zeroG;rw[Bool.eq_iff_iff];simp only[Bool.and_eq_true];constructor<;>(rintro⟨⟨⟨a,b⟩,c⟩,d⟩;exact⟨⟨⟨a,b⟩,d⟩,c⟩)
 exact .finE [.r [],.r [(7,Xv 1 (x.rows==0) X0),(9,Xv 1 (x.rows==0) X0),(10,Xv 2 (x.rows==0) X0),(11,X (Xk (x.rows==0))),(14,Xv 1 ((x.rows==0)&&(x.cols==0)) X0),(16,Xv 1 ((x.rows==0)&&(x.cols==0)) X0),(17,Xv 2 ((x.rows==0)&&(x.cols==0)) (Xc0 (fc_eqR0 x.merges) X0)),(18,X (Xk ((x.rows==0)&&(x.cols==0)))),(21,Xv 1 (((x.rows==0)&&(x.cols==0))&&(((x.merges).length:Int)==0)) X0),(23,Xv 1 (((x.rows==0)&&(x.cols==0))&&(((x.merges).length:Int)==0)) X0),(24,Xv 2 (((x.rows==0)&&(x.cols==0))&&(((x.merges).length:Int)==0)) (Xc0 (fc_eqC0 x.cells) X0)),(25,X (Xk (((x.rows==0)&&(x.cols==0))&&(((x.merges).length:Int)==0))))]] [] (fun z0:Bool=>(VB z0,[])) _ _ e1
theorem fc_nodeCk(n:Node)(hm:n.grid.merges=[]∧NoTx n.grid.cells):FC Tryz.prog 33 [.t (nodeT n)] (app emp []) (VI (nodeE n)) (app emp []):=by
 refine .go Tryz.f33 ?_
 obtain⟨hm1,hm2⟩:=hm
 refine .bp [.r [],.r [(5,Xv 1 (!(decide (n.id<1))) X0),(6,Xv 1 (!(decide (n.id<1))) X0),(7,X (Xk' (decide (n.id<1))))]] (decide (n.id<1)||decide (n.id>1073741824)) (fun h1=> ?_) (fun h1=> ?_)
 ·
  have e1:((nodeE n):Int)=2:=by
   (try rw[errA_eq false n.attrs _ 0 rfl] at*)
   unfold nodeE
   (repeat' split)<;>first|rfl|omega| (exfalso;omega)| (simp_all;done)| (exfalso;simp_all;done)| (exfalso;simp_all;omega)|grind
  exact .finE [.r []] [] (fun z0:Int=>(VI z0,[])) _ _ e1
 ·
  refine .bp [.r [(5,Xv 1 (!(decide (n.kind<0))) X0),(6,Xv 1 (!(decide (n.kind<0))) X0),(7,X (Xk' (decide (n.kind<0)))),(10,Xv 1 (!(decide (n.kind<0)||decide (n.kind≥13))) X0),(11,Xv 1 (!(decide (n.kind<0)||decide (n.kind≥13))) X0),(13,Xv 1 (!(decide (n.kind<0)||decide (n.kind≥13))) X0),(14,Xv 1 (!(decide (n.kind<0)||decide (n.kind≥13))) X0),(15,Xv 2 (!(decide (n.kind<0)||decide (n.kind≥13))) X0),(16,X (Xk' (decide (n.kind<0)||decide (n.kind≥13))))]] ((decide (n.kind<0)||decide (n.kind≥13))|| !((n.id==1)==(n.kind==0))) (fun h3=> ?_) (fun h3=> ?_)
  ·
   have e2:((nodeE n):Int)=8:=by
    (try rw[errA_eq false n.attrs _ 0 rfl] at*)
    unfold nodeE
    (repeat' split)<;>first|rfl|omega| (exfalso;omega)| (simp_all;done)| (exfalso;simp_all;done)| (exfalso;simp_all;omega)|grind
   exact .finE [.r []] [] (fun z0:Int=>(VI z0,[])) _ _ e2
  ·
   refine .bp [.r [(2,X (Xc0 (fc_acheck n.attrs) X0))],.r []] ((chkA false n.attrs 0) !=0) (fun h6=> ?_) (fun h6=> ?_)
   ·
    have e3:((nodeE n):Int)=(chkA false n.attrs 0):=by
     (try rw[errA_eq false n.attrs _ 0 rfl] at*)
     unfold nodeE
     (repeat' split)<;>first|rfl|omega| (exfalso;omega)| (simp_all;done)| (exfalso;simp_all;done)| (exfalso;simp_all;omega)|grind
    exact .finE [.r []] [] (fun z0:Int=>(VI z0,[])) _ _ e3
   ·
    refine .bp [.r [(2,X (Xc0 (fc_Texts n.kind) X0)),(5,Xv 1 (!(hasT n.kind)) X0),(6,Xv 1 (!(hasT n.kind)) (Xc0 (fc_Lists n.kind) X0)),(7,X (Xk' (hasT n.kind))),(10,X (Xc0 (fc_Grids n.kind) X0))],.r [(4,Xv 1 (!((hasT n.kind)|| (hasL n.kind))) X0),(5,Xv 1 (!((hasT n.kind)|| (hasL n.kind))) (Xl elemT n.flow)),(6,Xv 1 (!((hasT n.kind)|| (hasL n.kind))) X0),(7,X (Xk (!((hasT n.kind)|| (hasL n.kind))))),(10,Xv 1 (!(!((hasT n.kind)|| (hasL n.kind))&&decide ((n.flow.length:Int)> 0))) X0),(11,Xv 1 (!(!((hasT n.kind)|| (hasL n.kind))&&decide ((n.flow.length:Int)> 0))) X0),(13,Xv 1 ((!(!((hasT n.kind)|| (hasL n.kind))&&decide ((n.flow.length:Int)> 0)))&&(!(hasG n.kind))) X0),(15,Xv 2 ((!(!((hasT n.kind)|| (hasL n.kind))&&decide ((n.flow.length:Int)> 0)))&&(!(hasG n.kind))) (Xc0 (fc_sameG0 n.grid) X0)),(16,Xv 1 ((!(!((hasT n.kind)|| (hasL n.kind))&&decide ((n.flow.length:Int)> 0)))&&(!(hasG n.kind))) X0),(17,Xka (!(!((hasT n.kind)|| (hasL n.kind))&&decide ((n.flow.length:Int)> 0))) (!(hasG n.kind))),(18,X (Xk' (!((hasT n.kind)|| (hasL n.kind))&&decide ((n.flow.length:Int)> 0)))),(21,Xv 1 (!((!((hasT n.kind)|| (hasL n.kind))&&decide ((n.flow.length:Int)> 0))|| (!(hasG n.kind)&& !(zeroG n.grid)))) X0),(22,Xv 1 (!((!((hasT n.kind)|| (hasL n.kind))&&decide ((n.flow.length:Int)> 0))|| (!(hasG n.kind)&& !(zeroG n.grid)))) (Xc0 (fc_Draws n.kind) X0)),(23,Xv 1 (!((!((hasT n.kind)|| (hasL n.kind))&&decide ((n.flow.length:Int)> 0))|| (!(hasG n.kind)&& !(zeroG n.grid)))) X0),(24,Xv 1 (!((!((hasT n.kind)|| (hasL n.kind))&&decide ((n.flow.length:Int)> 0))|| (!(hasG n.kind)&& !(zeroG n.grid)))) X0),(26,Xv 1 ((!((!((hasT n.kind)|| (hasL n.kind))&&decide ((n.flow.length:Int)> 0))|| (!(hasG n.kind)&& !(zeroG n.grid))))&&(!(hasD n.kind))) X0),(27,Xv 1 ((!((!((hasT n.kind)|| (hasL n.kind))&&decide ((n.flow.length:Int)> 0))|| (!(hasG n.kind)&& !(zeroG n.grid))))&&(!(hasD n.kind))) (Xl dopT n.draw)),(28,Xv 1 ((!((!((hasT n.kind)|| (hasL n.kind))&&decide ((n.flow.length:Int)> 0))|| (!(hasG n.kind)&& !(zeroG n.grid))))&&(!(hasD n.kind))) X0),(29,Xka (!((!((hasT n.kind)|| (hasL n.kind))&&decide ((n.flow.length:Int)> 0))|| (!(hasG n.kind)&& !(zeroG n.grid)))) (!(hasD n.kind))),(30,X (Xk' ((!((hasT n.kind)|| (hasL n.kind))&&decide ((n.flow.length:Int)> 0))|| (!(hasG n.kind)&& !(zeroG n.grid)))))]] (((!((hasT n.kind)|| (hasL n.kind))&&decide ((n.flow.length:Int)> 0))|| (!(hasG n.kind)&& !(zeroG n.grid)))|| (!(hasD n.kind)&&decide ((n.draw.length:Int)> 0))) (fun h9=> ?_) (fun h9=> ?_)
    ·
     have e4:((nodeE n):Int)=4:=by
      (try rw[errA_eq false n.attrs _ 0 rfl] at*)
      unfold nodeE
      (repeat' split)<;>first|rfl|omega| (exfalso;omega)| (simp_all;done)| (exfalso;simp_all;done)| (exfalso;simp_all;omega)|grind
     exact .finE [.r []] [] (fun z0:Int=>(VI z0,[])) _ _ e4
    ·
     refine .bp [.r []] ((hasT n.kind)|| (hasL n.kind)) (fun h11=> ?_) (fun h11=> ?_)
     ·
      have e5:((nodeE n):Int)=(flowZ (hasT n.kind) n.flow):=by
       (try rw[errA_eq false n.attrs _ 0 rfl] at*)
       unfold nodeE
       (repeat' split)<;>first|rfl|omega| (exfalso;omega)| (simp_all;done)| (exfalso;simp_all;done)| (exfalso;simp_all;omega)|grind
      exact .finE [.r [(4,X (Xc0 (fc_Texts n.kind) X0)),(5,X (Xc0 (fc_flowCheckX n.flow (hasT n.kind)) X0))]] [] (fun z0:Int=>(VI z0,[])) _ _ e5
     ·
      refine .bp [.r []] (hasG n.kind) (fun h13=> ?_) (fun h13=> ?_)
      ·
       refine .bp [.r [(2,X (Xc0 (fc_gcheck n.grid (by assumption) (by assumption)) X0))],.r []] ((gridE n.grid) !=0) (fun h15=> ?_) (fun h15=> ?_)
       ·
        have e6:((nodeE n):Int)=(gridE n.grid):=by
         (try rw[errA_eq false n.attrs _ 0 rfl] at*)
         unfold nodeE
         (repeat' split)<;>first|rfl|omega| (exfalso;omega)| (simp_all;done)| (exfalso;simp_all;done)| (exfalso;simp_all;omega)|grind
        exact .finE [.r []] [] (fun z0:Int=>(VI z0,[])) _ _ e6
       ·
        have e7:((nodeE n):Int)=(cellK n.kind n.grid.cells 0):=by
         (try rw[errA_eq false n.attrs _ 0 rfl] at*)
         unfold nodeE
         (repeat' split)<;>first|rfl|omega| (exfalso;omega)| (simp_all;done)| (exfalso;simp_all;done)| (exfalso;simp_all;omega)|grind
        exact .finE [.r [(5,X (Xc0 (fc_cellCk n.kind n.grid.cells) X0))]] [] (fun z0:Int=>(VI z0,[])) _ _ e7
      ·
       have e8:((nodeE n):Int)=(drawE n.draw 0):=by
        (try rw[errA_eq false n.attrs _ 0 rfl] at*)
        unfold nodeE
        (repeat' split)<;>first|rfl|omega| (exfalso;omega)| (simp_all;done)| (exfalso;simp_all;done)| (exfalso;simp_all;omega)|grind
       exact .finE [.r [(2,X (Xc0 (fc_dcheck n.draw) X0))]] [] (fun z0:Int=>(VI z0,[])) _ _ e8
theorem fc_docCk(d:Doc)(hb:DocL d):FC Tryz.prog 18 [.t (docT d)] (app emp []) (VI (docE d)) (app emp []):=by
 refine .go Tryz.f18 ?_
 have hl:=hb.len
 refine .bp [.r [],.r [(2,X (Xl nodeT d.nodes))]] ((d.nodes.length:Int)==0) (fun h1=> ?_) (fun h1=> ?_)
 ·
  have e1:((docE d):Int)=11:=by
   exact docE_short (by omega)
  exact .finE [.r []] [] (fun z0:Int=>(VI z0,[])) _ _ e1
 ·
  refine .loop (α:=Nat) [.r [(2,X (Xl nodeT d.nodes))]] 80 (fun i=>([(1,.ptr 0 0),(14,VL 9 nodeT d.nodes),(15,VI (d.nodes.length:Int)),(16,VI (i:Int))],[(0,.box [VL 9 nodeT d.nodes])])) (fun i=>i≤d.nodes.length∧nodesE d.nodes 0=nodesE d.nodes i) (fun i=>d.nodes.length-i) (0:Nat) ?_ ?_
  ·
   exact⟨by omega,rfl⟩
  rintro i I4 ih4
  try dsimp only at I4
  refine .bp [.r []] (decide ((i:Int)< (d.nodes.length:Int))) (fun h4=> ?_) (fun h4=> ?_)
  ·
   have hn:=hb.lite _ (getDN_mem (l:=d.nodes) (i:=i) (by omega))
   refine .bp [.r [(1,X (Xi nodeT d.nodes (i:Int)))],.r [(1,X (Xc0 (fc_nodeCk ((d.nodes.getD i default)) (by assumption)) X0))],.r []] ((nodeE ((d.nodes.getD i default))) !=0) (fun h7=> ?_) (fun h7=> ?_)
   ·
    have e2:((docE d):Int)=(nodeE ((d.nodes.getD i default))):=by
     exact docE_node (by omega) (I4.2.trans (nodesE_bad (by omega) h7)) h7
    exact .finE [.r []] [] (fun z0:Int=>(VI z0,[])) _ _ e2
   ·
    refine .bp [.r [(4,Xv 1 ((i:Int)==0) X0),(5,Xv 1 ((i:Int)==0) X0),(6,X (Xk ((i:Int)==0))),(9,Xv 1 (!(((i:Int)==0)&&((((d.nodes.getD i default)).id) !=1))) X0),(10,Xv 1 (!(((i:Int)==0)&&((((d.nodes.getD i default)).id) !=1))) X0),(12,Xv 1 ((!(((i:Int)==0)&&((((d.nodes.getD i default)).id) !=1)))&&(decide ((i:Int)> 0))) X0),(14,Xv 1 ((!(((i:Int)==0)&&((((d.nodes.getD i default)).id) !=1)))&&(decide ((i:Int)> 0))) X0),(16,Xv 1 ((!(((i:Int)==0)&&((((d.nodes.getD i default)).id) !=1)))&&(decide ((i:Int)> 0))) (Xn ((i:Int)- 1))),(17,Xv 2 ((!(((i:Int)==0)&&((((d.nodes.getD i default)).id) !=1)))&&(decide ((i:Int)> 0))) (Xi' nodeT d.nodes ((i:Int)- 1) (i- 1))),(18,Xv 1 ((!(((i:Int)==0)&&((((d.nodes.getD i default)).id) !=1)))&&(decide ((i:Int)> 0))) X0),(19,Xv 1 ((!(((i:Int)==0)&&((((d.nodes.getD i default)).id) !=1)))&&(decide ((i:Int)> 0))) X0),(20,Xv 2 ((!(((i:Int)==0)&&((((d.nodes.getD i default)).id) !=1)))&&(decide ((i:Int)> 0))) X0),(21,Xka (!(((i:Int)==0)&&((((d.nodes.getD i default)).id) !=1))) (decide ((i:Int)> 0))),(22,X (Xk' (((i:Int)==0)&&((((d.nodes.getD i default)).id) !=1))))]] ((((i:Int)==0)&&((((d.nodes.getD i default)).id) !=1))|| (decide ((i:Int)> 0)&&decide ((((d.nodes.getD i default)).id)≤(((d.nodes.getD (i- 1) default)).id)))) (fun h9=> ?_) (fun h9=> ?_)
    ·
     have e3:((docE d):Int)=5:=by
      exact docE_node (by omega) (I4.2.trans (nodesE_ord (by omega) h7 (by rcases h9 with q|q;(left;obtain⟨q1,q2⟩:=q;have q3:i=0:=(by omega);subst q3;exact⟨rfl,q2⟩);(right;omega)))) (by decide)
     exact .finE [.r []] [] (fun z0:Int=>(VI z0,[])) _ _ e3
    ·
     refine .back [.r [(0,X (Xn ((i:Int)+1)))]] [(0,0)] (ih4 ((i+1):Nat) ?_ ?_)
     ·
      exact⟨by omega,I4.2.trans (nodesE_next (by omega) h7 (by rintro(⟨q1,q2⟩|q);(subst q1;rcases h9.1 with q|q;(exact q rfl);(exact q2 q));(rcases h9.2 with q3|q3<;>omega)))⟩
     ·
      ((try dsimp only);omega)
  ·
   refine .loop (α:=Nat) [.r [(2,X (Xl nodeT d.nodes))]] 120 (fun j=>([(1,.ptr 0 0),(51,VL 9 nodeT d.nodes),(52,VI (d.nodes.length:Int)),(53,VI (j:Int))],[(0,.box [VL 9 nodeT d.nodes])])) (fun j=>j≤d.nodes.length∧allRefsE d.nodes 0=allRefsE d.nodes j) (fun j=>d.nodes.length-j) (0:Nat) ?_ ?_
   ·
    exact⟨by omega,rfl⟩
   rintro j I13 ih13
   try dsimp only at I13
   refine .bp [.r []] (decide ((j:Int)< (d.nodes.length:Int))) (fun h13=> ?_) (fun h13=> ?_)
   ·
    have hn:=hb.all _ (getDN_mem (l:=d.nodes) (i:=j) (by omega))
    have hs:=sort_of (I4.2.trans (nodesE_end (by omega)))
    refine .bp [.r [(0,X (Xi nodeT d.nodes (j:Int)))],.r [(4,X (Xc1 192 (fc_refsNd ((d.nodes.getD j default)) (by assumption)) X0)),(5,X (Xc0 (fc_refsCk d (((d.nodes.getD j default)).kind) (refsN ((d.nodes.getD j default))) (by assumption) (by assumption)) X0))],.r []] ((refsE (d).nodes (((d.nodes.getD j default)).kind) (refsN ((d.nodes.getD j default))) 0) !=0) (fun h16=> ?_) (fun h16=> ?_)
    ·
     have e4:((docE d):Int)=(refsE (d).nodes (((d.nodes.getD j default)).kind) (refsN ((d.nodes.getD j default))) 0):=by
      exact docE_refs (by omega) (I4.2.trans (nodesE_end (by omega))) (I13.2.trans (allR_bad (by omega) h16))
     exact .finE [.r []] [] (fun z0:Int=>(VI z0,[])) _ _ e4
    ·
     refine .back [.r [(0,X (Xn ((j:Int)+1)))]] [(0,0)] (ih13 ((j+1):Nat) ?_ ?_)
     ·
      exact⟨by omega,I13.2.trans (allR_next (by omega) h16)⟩
     ·
      ((try dsimp only);omega)
   ·
    have e5:((docE d):Int)=0:=by
     exact docE_refs (by omega) (I4.2.trans (nodesE_end (by omega))) (I13.2.trans (allR_end (by omega)))
    exact .finE [.r []] [] (fun z0:Int=>(VI z0,[])) _ _ e5
end Go.Ch
end
section
namespace Go.Ch
open Go Go.Ab
theorem set_fill{α:Type}[Inhabited α]{l:List α}{i n:Nat}{z x:α}(hn:n=l.length)(hi:i<n)(hx:x=l.getD i default):(l.take i++List.replicate (n-i) z).set i x=l.take (i+1)++List.replicate (n- (i+1)) z:=by
 subst hn
 have h1:(l.take i).length=i:=by simp;omega
 rw[List.set_append,if_neg (by omega),h1,Nat.sub_self,show l.length-i=(l.length- (i+1))+1 by omega,List.replicate_succ,List.set_cons_zero,List.take_succ_eq_append_getElem hi,hx,List.append_assoc]
 simp only[List.getD,List.getElem?_eq_getElem hi,Option.getD_some]
 rfl
theorem set_same{α:Type}[Inhabited α]{l:List α}{i:Nat}{x:α}(hx:x=l.getD i default):l.set i x=l:=by
 subst hx
 by_cases h:i<l.length
 ·rw[List.getD_eq_getElem?_getD,List.getElem?_eq_getElem h];simp
 ·rw[List.set_eq_of_length_le (by omega)]
end Go.Ch
end
section
set_option linter.unusedVariables false
set_option linter.unusedSimpArgs false
set_option maxRecDepth 100000
set_option maxHeartbeats 4000000
open Go Go.Proofs Go.Ab
namespace Go.Ch
theorem fc_copyF(l:List Elem)(hn:l.length≤1048576)(hs:∀x∈l,x.attrs.length≤1048576):FC Tryz.prog 31 [VL 3 elemT l] (app emp []) (VL 3 elemT l) (app emp []):=by
 refine .go Tryz.f31 ?_
 refine .len 0 (fun hl0=> ?_)
 refine .loop (α:=Nat×(List Elem)) [.r [],.r [(1,X (Xl elemT l)),(2,X (Xmz 3 elemT 24 (l.length:Int) (l.length:Int) ({char:=0,ref:=0,attrs:=[]}:Elem) [TI 0,TI 0,TN] ⟨.inl rfl,⟨.inl rfl,⟨tw_nil (by decide),trivial⟩⟩⟩))],.r [(1,X (Xl elemT l))]] 64 (fun(i,o)=>([(3,.row 24 l.length),(9,VL 3 elemT l),(10,VI (l.length:Int)),(11,VI (i:Int))],[(24,OR 3 elemT o)])) (fun(i,o)=>i≤l.length∧o=l.take i++List.replicate (l.length-i) ({char:=0,ref:=0,attrs:=[]}:Elem)) (fun(i,o)=>l.length-i) (0,(List.replicate l.length ({char:=0,ref:=0,attrs:=[]}:Elem))) ?_ ?_
 ·
  exact⟨by omega,by simp⟩
 rintro⟨i,o⟩ I3 ih3
 try dsimp only at I3
 have ol:o.length=l.length:=by rw[I3.2];simp;omega
 refine .bp [.r []] (decide ((i:Int)< (l.length:Int))) (fun h3=> ?_) (fun h3=> ?_)
 ·
  have hx:=hs _ (getDE_mem (l:=l) (k:=i) (by omega))
  refine .back [.r [(1,X (Xi elemT l (i:Int)))],.r [(8,X (Xan attrT 184 (((l.getD i default)).attrs))),(10,X (Xpn l.length elemT o (i:Int))),(11,X (rowC attrT (((l.getD i default)).attrs) (Xsn l.length 3 elemT 24 o i ((l.getD i default)) [(184,OF 2 attrT (((l.getD i default)).attrs))])))],.r [(0,X (Xn ((i:Int)+1)))]] [(24,24)] (ih3 ((i+1),(o.set i ((l.getD i default)))) ?_ ?_)
  ·
   refine⟨by omega,?_⟩
   rw[I3.2]
   exact set_fill rfl (by omega) rfl
  ·
   ((try dsimp only);omega)
 ·
  have e1:(l:List Elem)=o:=by
   rw[I3.2,List.take_of_length_le (by omega),show l.length-i=0 by omega];simp
  exact .finE [.r [],.le (.fr 2 [(l.length:Nat)=(List.map elemT o).length] ⟨lm,trivial⟩)] [] (fun z0:List Elem=>(VL 3 elemT z0,[])) _ _ e1
theorem fc_copyN(n:Node)(hb:NodeB n):FC Tryz.prog 37 [.t (nodeT n)] (app emp []) (.t (nodeT n)) (app emp []):=by
 refine .go Tryz.f37 ?_
 have b1:=hb.at2
 have b2:=hb.fl2
 have b3:=hb.fl3
 have b4:=hb.ce2
 have b5:=hb.me
 have b6:=hb.dr1
 refine .loop (α:=Nat×(List Cell)) [.r [],.r [(2,X (Xan attrT 32 n.attrs))],.r [(2,X (Xc1 72 (fc_copyF n.flow (by assumption) (by assumption)) X0))],.r [(2,X (Xan dopT 112 n.draw))],.r [],.r [(2,X (Xan rectT 184 n.grid.merges))],.r [(2,X (Xan cellT 224 n.grid.cells))],.r []] 280 (fun(i,o)=>([(1,.ptr 0 0),(2,.ptr 8 0),(3,.ptr 152 0),(29,.row 224 o.length),(30,VI (n.grid.cells.length:Int)),(31,VI (i:Int))],[(0,.box [VI n.id,VI n.kind,.row 32 n.attrs.length,VL 3 elemT n.flow,VI n.grid.rows,VI n.grid.cols,VL 5 cellT n.grid.cells,VL 4 rectT n.grid.merges,.row 112 n.draw.length]),(8,.box [VI 0,VI 0,VN,VN,VI 0,VI 0,VN,VN,VN]),(32,OR 2 attrT n.attrs),(112,OR 8 dopT n.draw),(152,.box [VI n.grid.rows,VI n.grid.cols,.row 224 o.length,.row 184 n.grid.merges.length]),(184,OR 4 rectT n.grid.merges),(224,OR 5 cellT o)])) (fun(i,o)=>i≤n.grid.cells.length∧o=n.grid.cells) (fun(i,o)=>n.grid.cells.length-i) (0,n.grid.cells) ?_ ?_
 ·
  exact⟨by omega,rfl⟩
 rintro⟨i,o⟩ I8 ih8
 try dsimp only at I8
 have ol:o.length=n.grid.cells.length:=by rw[I8.2]
 refine .bp [.r []] (decide ((i:Int)< (n.grid.cells.length:Int))) (fun h8=> ?_) (fun h8=> ?_)
 ·
  have hc:=hb.ce3 (o.getD i default) (by rw[I8.2];exact getDX_mem (by omega))
  refine .back [.r [(1,X (Xp cellT o (i:Int))),(2,X (Xe cellT o i))],.r [(5,X (Xan attrT 376 (((o.getD i default)).attrs))),(6,X (Xp cellT o (i:Int))),(8,X (rowC attrT (((o.getD i default)).attrs) (Xs 5 cellT 224 o i ((o.getD i default)) [(376,OF 2 attrT (((o.getD i default)).attrs))])))],.r [(0,X (Xn ((i:Int)+1)))],.le (.eq 29 (.row 224 o.length) (.row 224 ((o.set i ((o.getD i default))).length)) (.of_eq (by simp only[List.length_set]))),.le (.eb 152 2 (.row 224 o.length) (.row 224 ((o.set i ((o.getD i default))).length)) (by simp only[List.length_set]))] [(0,0),(8,8),(32,32),(112,112),(152,152),(184,184),(224,224)] (ih8 ((i+1),(o.set i ((o.getD i default)))) ?_ ?_)
  ·
   refine⟨by omega,?_⟩
   rw[I8.2];exact set_same rfl
  ·
   ((try dsimp only);omega)
 ·
  have e1:(n:Node)=({id:=n.id,kind:=n.kind,attrs:=n.attrs,flow:=n.flow,grid:=({rows:=n.grid.rows,cols:=n.grid.cols,cells:=o,merges:=n.grid.merges}:Grid),draw:=n.draw}:Node):=by
   rw[I8.2]
  exact .finVE [.r [],.r []] [.fR 0 [(n.attrs.length:Nat)=(List.map attrT n.attrs).length,(o.length:Nat)=(List.map cellT o).length,(n.grid.merges.length:Nat)=(List.map rectT n.grid.merges).length,(n.draw.length:Nat)=(List.map dopT n.draw).length] ⟨lm,lm,lm,lm,trivial⟩] [] (fun z0:Node=>(.t (nodeT z0),[])) _ _ e1
theorem fc_copyDR(d:Doc)(hb:DocB d):FC Tryz.prog 20 [.t (docT d)] (app emp []) (.agg [.row 1 d.nodes.length]) (app emp [(0,.box [.row 1 d.nodes.length]),(1,OR 9 nodeT d.nodes)]):=by
 refine .go Tryz.f20 ?_
 have hl:=hb.len
 refine .loop (α:=Nat×(List Node)) [.r [],.r [(2,X (Xl nodeT d.nodes)),(3,X (Xmz 9 nodeT 40 (d.nodes.length:Int) (d.nodes.length:Int) ({id:=0,kind:=0,attrs:=[],flow:=[],grid:=({rows:=0,cols:=0,cells:=[],merges:=[]}:Grid),draw:=[]}:Node) [TI 0,TI 0,TN,TN,TI 0,TI 0,TN,TN,TN] ⟨.inl rfl,⟨.inl rfl,⟨tw_nil (by decide),⟨tw_nil (by decide),⟨.inl rfl,⟨.inl rfl,⟨tw_nil (by decide),⟨tw_nil (by decide),⟨tw_nil (by decide),trivial⟩⟩⟩⟩⟩⟩⟩⟩⟩))],.r [(2,X (Xl nodeT d.nodes))],.le (.eb 56 0 (.row 40 d.nodes.length) (.row 40 ((List.replicate d.nodes.length ({id:=0,kind:=0,attrs:=[],flow:=[],grid:=({rows:=0,cols:=0,cells:=[],merges:=[]}:Grid),draw:=[]}:Node)).length)) (by simp only[List.length_replicate]))] 104 (fun(i,o)=>([(2,.ptr 8 0),(3,.ptr 56 0),(12,VL 9 nodeT d.nodes),(13,VI (d.nodes.length:Int)),(14,VI (i:Int))],[(8,.box [VN]),(40,OR 9 nodeT o),(56,.box [.row 40 o.length])])) (fun(i,o)=>i≤d.nodes.length∧o=d.nodes.take i++List.replicate (d.nodes.length-i) ({id:=0,kind:=0,attrs:=[],flow:=[],grid:=({rows:=0,cols:=0,cells:=[],merges:=[]}:Grid),draw:=[]}:Node)) (fun(i,o)=>d.nodes.length-i) (0,(List.replicate d.nodes.length ({id:=0,kind:=0,attrs:=[],flow:=[],grid:=({rows:=0,cols:=0,cells:=[],merges:=[]}:Grid),draw:=[]}:Node))) ?_ ?_
 ·
  exact⟨by omega,by simp⟩
 rintro⟨i,o⟩ I3 ih3
 try dsimp only at I3
 have ol:o.length=d.nodes.length:=by rw[I3.2];simp;omega
 refine .bp [.r []] (decide ((i:Int)< (d.nodes.length:Int))) (fun h3=> ?_) (fun h3=> ?_)
 ·
  have hx:=hb.all _ (getDN_mem (l:=d.nodes) (i:=i) (by omega))
  refine .back [.r [(1,X (Xi nodeT d.nodes (i:Int)))],.r [(4,X (Xc1 192 (fc_copyN ((d.nodes.getD i default)) (by assumption)) X0)),(5,X (Xp nodeT o (i:Int))),(6,X (Xs 9 nodeT 40 o i (((d.nodes.getD i default)))))],.r [(0,X (Xn ((i:Int)+1)))],.le (.eb 56 0 (.row 40 o.length) (.row 40 ((o.set i (((d.nodes.getD i default)))).length)) (by simp only[List.length_set]))] [(8,8),(40,40),(56,56)] (ih3 ((i+1),(o.set i (((d.nodes.getD i default))))) ?_ ?_)
  ·
   refine⟨by omega,?_⟩
   rw[I3.2]
   exact set_fill rfl (by omega) rfl
  ·
   ((try dsimp only);omega)
 ·
  have e1:(d.nodes.length:Nat)=o.length:=by
   first|omega| (rw[I3.2,List.take_of_length_le (by omega),show d.nodes.length-i=0 by omega];simp)
  have e2:(d.nodes:List Node)=o:=by
   first|omega| (rw[I3.2,List.take_of_length_le (by omega),show d.nodes.length-i=0 by omega];simp)
  exact .finE [.r []] [(8,0),(40,1)] (fun((z0,z1):Nat×(List Node))=>(.agg [.row 1 z0],[(0,.box [.row 1 z0]),(1,OR 9 nodeT z1)])) _ _ (pr e1 e2)
end Go.Ch
end
section
set_option linter.unusedVariables false
set_option linter.unusedSimpArgs false
set_option maxRecDepth 100000
set_option maxHeartbeats 4000000
open Go Go.Proofs Go.Ab
namespace Go.Ch
theorem set_filq{α:Type}[Inhabited α]{l:List α}{i n:Nat}{z x:α}(hn:n=l.length)(hi:i<n)(hx:x=l.getD i default):(l.take i++List.replicate (n-i) z).set i x=l.take (i+1)++List.replicate (n- (i+1)) z:=by
 subst hn
 have h1:(l.take i).length=i:=by simp;omega
 rw[List.set_append,if_neg (by omega),h1,Nat.sub_self,show l.length-i=(l.length- (i+1))+1 by omega,List.replicate_succ,List.set_cons_zero,List.take_succ_eq_append_getElem hi,hx,List.append_assoc]
 simp only[List.getD,List.getElem?_eq_getElem hi,Option.getD_some]
 rfl
theorem fc_copy(l:List Elem)(hn:l.length≤1000000000000)(hs:AN 400000000000 l):FC Tryz.prog 31 [VL 3 elemT l] (app emp []) (VL 3 elemT l) (app emp []):=by
 refine .go Tryz.f31 ?_
 refine .len 0 (fun hl0=> ?_)
 refine .loop (α:=Nat×(List Elem)) [.r [],.r [(1,X (Xl elemT l)),(2,X (Xmz 3 elemT 24 (l.length:Int) (l.length:Int) ({char:=0,ref:=0,attrs:=[]}:Elem) [TI 0,TI 0,TN] ⟨.inl rfl,⟨.inl rfl,⟨tw_nil (by decide),trivial⟩⟩⟩))],.r [(1,X (Xl elemT l))]] 64 (fun(i,o)=>([(3,.row 24 l.length),(9,VL 3 elemT l),(10,VI (l.length:Int)),(11,VI (i:Int))],[(24,OR 3 elemT o)])) (fun(i,o)=>i≤l.length∧o=l.take i++List.replicate (l.length-i) ({char:=0,ref:=0,attrs:=[]}:Elem)) (fun(i,o)=>l.length-i) (0,(List.replicate l.length ({char:=0,ref:=0,attrs:=[]}:Elem))) ?_ ?_
 ·
  exact⟨by omega,by simp⟩
 rintro⟨i,o⟩ I3 ih3
 try dsimp only at I3
 have ol:o.length=l.length:=by rw[I3.2];simp;omega
 refine .bp [.r []] (decide ((i:Int)< (l.length:Int))) (fun h3=> ?_) (fun h3=> ?_)
 ·
  have hx:=hs _ (getDE_mem (l:=l) (k:=i) (by omega))
  refine .back [.r [(1,X (Xi elemT l (i:Int)))],.r [(8,X (Xan attrT 184 (((l.getD i default)).attrs))),(10,X (Xpn l.length elemT o (i:Int))),(11,X (rowC attrT (((l.getD i default)).attrs) (Xsn l.length 3 elemT 24 o i ((l.getD i default)) [(184,OF 2 attrT (((l.getD i default)).attrs))])))],.r [(0,X (Xn ((i:Int)+1)))]] [(24,24)] (ih3 ((i+1),(o.set i ((l.getD i default)))) ?_ ?_)
  ·
   refine⟨by omega,?_⟩
   rw[I3.2]
   exact set_filq rfl (by omega) rfl
  ·
   ((try dsimp only);omega)
 ·
  have e1:(l:List Elem)=o:=by
   rw[I3.2,List.take_of_length_le (by omega),show l.length-i=0 by omega];simp
  exact .finE [.r [],.le (.fr 2 [(l.length:Nat)=(List.map elemT o).length] ⟨lm,trivial⟩)] [] (fun z0:List Elem=>(VL 3 elemT z0,[])) _ _ e1
theorem map_fill{l:List Elem}{i:Nat}{z:Elem}{f:Elem→Elem}(hi:i<l.length){y:Elem}(hy:y=f (l.getD i default)):((l.take i).map f++List.replicate (l.length-i) z).set i y=(l.take (i+1)).map f++List.replicate (l.length- (i+1)) z:=by
 have h1:((l.take i).map f).length=i:=by simp;omega
 rw[List.set_append,if_neg (by omega),h1,Nat.sub_self,show l.length-i=(l.length- (i+1))+1 by omega,List.replicate_succ,List.set_cons_zero,List.take_succ_eq_append_getElem hi,hy,List.map_append,List.append_assoc]
 simp only[List.getD,List.getElem?_eq_getElem hi,Option.getD_some]
 rfl
theorem fc_changed(l:List Elem)(c:List Attr)(hn:l.length≤1000000000000)(hs:∀x∈l,x.attrs.length+c.length<1099511627776):FC Tryz.prog 123 [VL 3 elemT l,VL 2 attrT c] (app emp []) (VL 3 elemT (List.map (chgE c) l)) (app emp []):=by
 refine .go Tryz.f123 ?_
 refine .len 0 (fun hl0=> ?_)
 refine .len 1 (fun hl1=> ?_)
 refine .loop (α:=Nat×(List Elem)) [.r [],.r [(1,X (Xl elemT l)),(2,X (Xmz 3 elemT 24 (l.length:Int) (l.length:Int) ({char:=0,ref:=0,attrs:=[]}:Elem) [TI 0,TI 0,TN] ⟨.inl rfl,⟨.inl rfl,⟨tw_nil (by decide),trivial⟩⟩⟩))],.r [(1,X (Xl elemT l))]] 64 (fun(i,o)=>([(1,VL 2 attrT c),(5,.row 24 l.length),(11,VL 3 elemT l),(12,VI (l.length:Int)),(13,VI (i:Int))],[(24,OR 3 elemT o)])) (fun(i,o)=>i≤l.length∧o=(l.take i).map (chgE c)++List.replicate (l.length-i) ({char:=0,ref:=0,attrs:=[]}:Elem)) (fun(i,o)=>l.length-i) (0,(List.replicate l.length ({char:=0,ref:=0,attrs:=[]}:Elem))) ?_ ?_
 ·
  exact⟨by omega,by simp⟩
 rintro⟨i,o⟩ I3 ih3
 try dsimp only at I3
 have ol:o.length=l.length:=by rw[I3.2];simp;omega
 refine .bp [.r []] (decide ((i:Int)< (l.length:Int))) (fun h3=> ?_) (fun h3=> ?_)
 ·
  have hx:=hs _ (getDE_mem (l:=l) (k:=i) (by omega))
  refine .back [.r [(1,X (Xi elemT l (i:Int)))],.r [(3,X (Xc1 144 (fc_raw (((l.getD i default)).attrs) c (by omega)) X0))],.r [(3,X (Xpn l.length elemT o (i:Int))),(4,X (Xsn l.length 3 elemT 24 o i ({char:=((l.getD i default)).char,ref:=((l.getD i default)).ref,attrs:=(fm rawG (((l.getD i default)).attrs) c)}:Elem)))],.r [(0,X (Xn ((i:Int)+1)))]] [(24,24)] (ih3 ((i+1),(o.set i ({char:=((l.getD i default)).char,ref:=((l.getD i default)).ref,attrs:=(fm rawG (((l.getD i default)).attrs) c)}:Elem))) ?_ ?_)
  ·
   refine⟨by omega,?_⟩
   rw[I3.2]
   exact map_fill (by omega) rfl
  ·
   ((try dsimp only);omega)
 ·
  have e1:((List.map (chgE c) l):List Elem)=o:=by
   rw[I3.2,List.take_of_length_le (by omega),show l.length-i=0 by omega];simp
  exact .finE [.r [],.le (.fr 4 [(l.length:Nat)=(List.map elemT o).length] ⟨lm,trivial⟩)] [] (fun z0:List Elem=>(VL 3 elemT z0,[])) _ _ e1
end Go.Ch
end
section
set_option linter.unusedVariables false
set_option linter.unusedSimpArgs false
set_option maxRecDepth 100000
set_option maxHeartbeats 4000000
open Go Go.Proofs Go.Ab
namespace Go.Ch
theorem fc_step(x:DStep):FC Tryz.prog 64 [.t (dstepT x)] (app emp []) (VI (stepD x)) (app emp []):=by
 refine .go Tryz.f64 ?_
 refine .bp [.r [],.r [],.r []] (x.kind==0) (fun h2=> ?_) (fun h2=> ?_)
 ·
  refine .bp [] (x.kind==0) (fun h2=> ?_) (fun h2=> ?_)
  ·
   refine .bp [.r [(2,X (Xl elemT x.elems)),(6,Xv 1 (!(decide ((x.elems.length:Int)> 0))) X0),(7,Xv 1 (!(decide ((x.elems.length:Int)> 0))) X0),(8,Xv 1 (!(decide ((x.elems.length:Int)> 0))) X0),(10,Xv 1 ((!(decide ((x.elems.length:Int)> 0)))&&(x.kind==2)) X0),(11,Xv 1 ((!(decide ((x.elems.length:Int)> 0)))&&(x.kind==2)) (Xl attrT x.attrs)),(12,Xv 1 ((!(decide ((x.elems.length:Int)> 0)))&&(x.kind==2)) X0),(13,Xka (!(decide ((x.elems.length:Int)> 0))) (x.kind==2)),(14,X (Xk' (decide ((x.elems.length:Int)> 0))))]] (decide ((x.elems.length:Int)> 0)|| ((x.kind==2)&&decide ((x.attrs.length:Int)> 0))) (fun h4=> ?_) (fun h4=> ?_)
   ·
    have e1:((stepD x):Int)=4:=by
     unfold stepD;((repeat' split)<;>first|rfl|omega| (simp_all;done)| (simp_all;omega))
    exact .finE [.r []] [] (fun z0:Int=>(VI z0,[])) _ _ e1
   ·
    refine .bp [.r [(5,Xv 1 (!(decide (x.n<1))) X0),(6,Xv 1 (!(decide (x.n<1))) X0),(7,X (Xk' (decide (x.n<1))))]] (decide (x.n<1)||decide (x.n>2147483647)) (fun h6=> ?_) (fun h6=> ?_)
    ·
     have e2:((stepD x):Int)=2:=by
      unfold stepD;((repeat' split)<;>first|rfl|omega| (simp_all;done)| (simp_all;omega))
     exact .finE [.r []] [] (fun z0:Int=>(VI z0,[])) _ _ e2
    ·
     have e3:((stepD x):Int)=(chkA true x.attrs 0):=by
      unfold stepD;((repeat' split)<;>first|rfl|omega| (simp_all;done)| (simp_all;omega))
     exact .finE [.r [(2,X (Xc0 (fc_acheckChange x.attrs) X0))]] [] (fun z0:Int=>(VI z0,[])) _ _ e3
  ·
   refine .bp [.r []] (x.kind==1) (fun h9=> ?_) (fun h9=> ?_)
   ·
    refine .bp [.r [(5,Xv 1 (!(x.n !=0)) X0),(6,Xv 1 (!(x.n !=0)) (Xl attrT x.attrs)),(7,Xv 1 (!(x.n !=0)) X0),(8,X (Xk' (x.n !=0)))]] ((x.n !=0)||decide ((x.attrs.length:Int)> 0)) (fun h10=> ?_) (fun h10=> ?_)
    ·
     have e4:((stepD x):Int)=4:=by
      unfold stepD;((repeat' split)<;>first|rfl|omega| (simp_all;done)| (simp_all;omega))
     exact .finE [.r []] [] (fun z0:Int=>(VI z0,[])) _ _ e4
    ·
     refine .bp [.r [(2,X (Xl elemT x.elems))]] ((x.elems.length:Int)==0) (fun h12=> ?_) (fun h12=> ?_)
     ·
      have e5:((stepD x):Int)=11:=by
       unfold stepD;((repeat' split)<;>first|rfl|omega| (simp_all;done)| (simp_all;omega))
      exact .finE [.r []] [] (fun z0:Int=>(VI z0,[])) _ _ e5
     ·
      have e6:((stepD x):Int)=(partE x.elems 0):=by
       unfold stepD;((repeat' split)<;>first|rfl|omega| (simp_all;done)| (simp_all;omega))
      exact .finE [.r [(2,X (Xc0 (fc_checkPart x.elems) X0))]] [] (fun z0:Int=>(VI z0,[])) _ _ e6
   ·
    have e7:((stepD x):Int)=8:=by
     unfold stepD;((repeat' split)<;>first|rfl|omega| (simp_all;done)| (simp_all;omega))
    exact .finE [.r []] [] (fun z0:Int=>(VI z0,[])) _ _ e7
 ·
  refine .bp [.r []] (x.kind==2) (fun h3=> ?_) (fun h3=> ?_)
  ·
   refine .bp [.r [(2,X (Xl elemT x.elems)),(6,Xv 1 (!(decide ((x.elems.length:Int)> 0))) X0),(7,Xv 1 (!(decide ((x.elems.length:Int)> 0))) X0),(8,Xv 1 (!(decide ((x.elems.length:Int)> 0))) X0),(10,Xv 1 ((!(decide ((x.elems.length:Int)> 0)))&&(x.kind==2)) X0),(11,Xv 1 ((!(decide ((x.elems.length:Int)> 0)))&&(x.kind==2)) (Xl attrT x.attrs)),(12,Xv 1 ((!(decide ((x.elems.length:Int)> 0)))&&(x.kind==2)) X0),(13,Xka (!(decide ((x.elems.length:Int)> 0))) (x.kind==2)),(14,X (Xk' (decide ((x.elems.length:Int)> 0))))]] (decide ((x.elems.length:Int)> 0)|| ((x.kind==2)&&decide ((x.attrs.length:Int)> 0))) (fun h4=> ?_) (fun h4=> ?_)
   ·
    have e8:((stepD x):Int)=4:=by
     unfold stepD;((repeat' split)<;>first|rfl|omega| (simp_all;done)| (simp_all;omega))
    exact .finE [.r []] [] (fun z0:Int=>(VI z0,[])) _ _ e8
   ·
    refine .bp [.r [(5,Xv 1 (!(decide (x.n<1))) X0),(6,Xv 1 (!(decide (x.n<1))) X0),(7,X (Xk' (decide (x.n<1))))]] (decide (x.n<1)||decide (x.n>2147483647)) (fun h6=> ?_) (fun h6=> ?_)
    ·
     have e9:((stepD x):Int)=2:=by
      unfold stepD;((repeat' split)<;>first|rfl|omega| (simp_all;done)| (simp_all;omega))
     exact .finE [.r []] [] (fun z0:Int=>(VI z0,[])) _ _ e9
    ·
     have e10:((stepD x):Int)=(chkA true x.attrs 0):=by
      unfold stepD;((repeat' split)<;>first|rfl|omega| (simp_all;done)| (simp_all;omega))
     exact .finE [.r [(2,X (Xc0 (fc_acheckChange x.attrs) X0))]] [] (fun z0:Int=>(VI z0,[])) _ _ e10
  ·
   refine .bp [.r []] (x.kind==1) (fun h9=> ?_) (fun h9=> ?_)
   ·
    refine .bp [.r [(5,Xv 1 (!(x.n !=0)) X0),(6,Xv 1 (!(x.n !=0)) (Xl attrT x.attrs)),(7,Xv 1 (!(x.n !=0)) X0),(8,X (Xk' (x.n !=0)))]] ((x.n !=0)||decide ((x.attrs.length:Int)> 0)) (fun h10=> ?_) (fun h10=> ?_)
    ·
     have e11:((stepD x):Int)=4:=by
      unfold stepD;((repeat' split)<;>first|rfl|omega| (simp_all;done)| (simp_all;omega))
     exact .finE [.r []] [] (fun z0:Int=>(VI z0,[])) _ _ e11
    ·
     refine .bp [.r [(2,X (Xl elemT x.elems))]] ((x.elems.length:Int)==0) (fun h12=> ?_) (fun h12=> ?_)
     ·
      have e12:((stepD x):Int)=11:=by
       unfold stepD;((repeat' split)<;>first|rfl|omega| (simp_all;done)| (simp_all;omega))
      exact .finE [.r []] [] (fun z0:Int=>(VI z0,[])) _ _ e12
     ·
      have e13:((stepD x):Int)=(partE x.elems 0):=by
       unfold stepD;((repeat' split)<;>first|rfl|omega| (simp_all;done)| (simp_all;omega))
      exact .finE [.r [(2,X (Xc0 (fc_checkPart x.elems) X0))]] [] (fun z0:Int=>(VI z0,[])) _ _ e13
   ·
    have e14:((stepD x):Int)=8:=by
     unfold stepD;((repeat' split)<;>first|rfl|omega| (simp_all;done)| (simp_all;omega))
    exact .finE [.r []] [] (fun z0:Int=>(VI z0,[])) _ _ e14
theorem fc_size(x:DStep):FC Tryz.prog 65 [.t (dstepT x)] (app emp []) (VI (szD x)) (app emp []):=by
 refine .go Tryz.f65 ?_
 refine .bp [.r [],.r []] (x.kind==1) (fun h1=> ?_) (fun h1=> ?_)
 ·
  have e1:((szD x):Int)=(x.elems.length:Int):=by
   unfold szD;((repeat' split)<;>first|rfl|omega| (simp_all;done)| (simp_all;omega))
  exact .finE [.r [(2,X (Xl elemT x.elems))]] [] (fun z0:Int=>(VI z0,[])) _ _ e1
 ·
  have e2:((szD x):Int)=x.n:=by
   unfold szD;((repeat' split)<;>first|rfl|omega| (simp_all;done)| (simp_all;omega))
  exact .finE [.r []] [] (fun z0:Int=>(VI z0,[])) _ _ e2
theorem fc_dCheck(l:List DStep)(hd:DN 400000000000 l):FC Tryz.prog 32 [VL 4 dstepT l] (app emp []) (VI (checkD l)) (app emp []):=by
 refine .go Tryz.f32 ?_
 refine .len 0 (fun hl0=> ?_)
 refine .loop (α:=Int×Int×Nat) [.r [],.r [],.r [(1,X (Xl dstepT l))]] 48 (fun(b,a,i)=>([(0,VL 4 dstepT l),(3,VI b),(4,VI a),(9,VL 4 dstepT l),(10,VI (l.length:Int)),(11,VI (i:Int))],[])) (fun(b,a,i)=>i≤l.length∧0≤b∧b≤2147483648∧0≤a∧a≤2147483648∧checkD l=chkD l i b a) (fun(b,a,i)=>l.length-i) (0,0,0) ?_ ?_
 ·
  exact⟨by omega,by decide,by decide,by decide,by decide,rfl⟩
 rintro⟨b,a,i⟩ I3 ih3
 try dsimp only at I3
 refine .bp [.r []] (decide ((i:Int)< (l.length:Int))) (fun h3=> ?_) (fun h3=> ?_)
 ·
  refine .bp [.r [(1,X (Xi dstepT l (i:Int)))],.r [(1,X (Xc0 (fc_step ((l.getD i default))) X0))],.r []] ((stepD ((l.getD i default))) !=0) (fun h6=> ?_) (fun h6=> ?_)
  ·
   have e1:((checkD l):Int)=(stepD ((l.getD i default))):=by
    rw[I3.2.2.2.2.2,chkD];((repeat' split)<;>first|rfl|omega| (simp_all;done)| (simp_all;omega))
   exact .finE [.r []] [] (fun z0:Int=>(VI z0,[])) _ _ e1
  ·
   have hz:=stepD_sz (s:=l.getD i default) (by omega)
   obtain⟨hx,_,_⟩:=hd.at_ (k:=i) (by omega)
   refine .bp [.r []] (decide ((i:Int)> 0)) (fun h8=> ?_) (fun h8=> ?_)
   ·
    refine .bp [.r [(2,X (Xn ((i:Int)- 1))),(3,X (Xi' dstepT l ((i:Int)- 1) (i- 1)))],.r [(7,Xv 1 ((((l.getD (i- 1) default)).kind)==(((l.getD i default)).kind)) X0),(8,Xv 1 ((((l.getD (i- 1) default)).kind)==(((l.getD i default)).kind)) X0),(9,Xv 1 ((((l.getD (i- 1) default)).kind)==(((l.getD i default)).kind)) X0),(11,Xv 1 (((((l.getD (i- 1) default)).kind)==(((l.getD i default)).kind))&& !((((l.getD i default)).kind) !=0)) X0),(13,Xv 1 (((((l.getD (i- 1) default)).kind)==(((l.getD i default)).kind))&& !((((l.getD i default)).kind) !=0)) X0),(14,Xv 2 (((((l.getD (i- 1) default)).kind)==(((l.getD i default)).kind))&& !((((l.getD i default)).kind) !=0)) (Xc0 (fc_attrSame (((l.getD (i- 1) default)).attrs) (((l.getD i default)).attrs)) X0)),(15,Xko ((((l.getD (i- 1) default)).kind)==(((l.getD i default)).kind)) ((((l.getD i default)).kind) !=0)),(16,X (Xk ((((l.getD (i- 1) default)).kind)==(((l.getD i default)).kind)))),(19,Xv 1 (!(((((l.getD (i- 1) default)).kind)==(((l.getD i default)).kind))&&(((((l.getD i default)).kind) !=0)|| (sameL (((l.getD (i- 1) default)).attrs) (((l.getD i default)).attrs))))) X0),(20,Xv 1 (!(((((l.getD (i- 1) default)).kind)==(((l.getD i default)).kind))&&(((((l.getD i default)).kind) !=0)|| (sameL (((l.getD (i- 1) default)).attrs) (((l.getD i default)).attrs))))) X0),(21,Xv 1 (!(((((l.getD (i- 1) default)).kind)==(((l.getD i default)).kind))&&(((((l.getD i default)).kind) !=0)|| (sameL (((l.getD (i- 1) default)).attrs) (((l.getD i default)).attrs))))) X0),(23,Xv 1 ((!(((((l.getD (i- 1) default)).kind)==(((l.getD i default)).kind))&&(((((l.getD i default)).kind) !=0)|| (sameL (((l.getD (i- 1) default)).attrs) (((l.getD i default)).attrs)))))&&((((l.getD (i- 1) default)).kind)==2)) X0),(24,Xv 1 ((!(((((l.getD (i- 1) default)).kind)==(((l.getD i default)).kind))&&(((((l.getD i default)).kind) !=0)|| (sameL (((l.getD (i- 1) default)).attrs) (((l.getD i default)).attrs)))))&&((((l.getD (i- 1) default)).kind)==2)) X0),(25,Xka (!(((((l.getD (i- 1) default)).kind)==(((l.getD i default)).kind))&&(((((l.getD i default)).kind) !=0)|| (sameL (((l.getD (i- 1) default)).attrs) (((l.getD i default)).attrs))))) ((((l.getD (i- 1) default)).kind)==2)),(26,X (Xk' (((((l.getD (i- 1) default)).kind)==(((l.getD i default)).kind))&&(((((l.getD i default)).kind) !=0)|| (sameL (((l.getD (i- 1) default)).attrs) (((l.getD i default)).attrs))))))]] ((((((l.getD (i- 1) default)).kind)==(((l.getD i default)).kind))&&(((((l.getD i default)).kind) !=0)|| (sameL (((l.getD (i- 1) default)).attrs) (((l.getD i default)).attrs))))|| (((((l.getD (i- 1) default)).kind)==2)&&((((l.getD i default)).kind)==1))) (fun h10=> ?_) (fun h10=> ?_)
    ·
     have e2:((checkD l):Int)=5:=by
      rw[I3.2.2.2.2.2,chkD,if_pos (by omega),if_neg (by omega),if_pos ⟨by omega,adjD_yes.2 h10⟩]
     exact .finE [.r []] [] (fun z0:Int=>(VI z0,[])) _ _ e2
    ·
     refine .bp [.r []] ((((l.getD i default)).kind) !=1) (fun h12=> ?_) (fun h12=> ?_)
     ·
      refine .bp [.r [(3,X (Xn (b+(((l.getD i default)).n)))),(4,X (Xmin (b+(((l.getD i default)).n)) 2147483648))],.r []] ((((l.getD i default)).kind) !=2) (fun h14=> ?_) (fun h14=> ?_)
      ·
       refine .at 528 [(80,80)] ([(0,VL 4 dstepT l),(3,VI (min (b+(((l.getD i default)).n)) 2147483648)),(4,VI a),(6,.ptr 80 0),(9,VL 4 dstepT l),(10,VI (l.length:Int)),(11,VI (i:Int)),(65,VB ((((l.getD i default)).kind) !=2))],[(80,.box [VI (((l.getD i default)).kind),VI (((l.getD i default)).n),VL 2 attrT (((l.getD i default)).attrs),VL 3 elemT (((l.getD i default)).elems)])]) ?_
       refine .back [.r [(2,X (Xc0 (fc_size ((l.getD i default))) X0)),(3,X (Xn (a+(szD ((l.getD i default)))))),(4,X (Xmin (a+(szD ((l.getD i default)))) 2147483648))],.r [(0,X (Xn ((i:Int)+1)))]] [] (ih3 ((min (b+(((l.getD i default)).n)) 2147483648),(min (a+(szD ((l.getD i default)))) 2147483648),(i+1)) ?_ ?_)
       ·
        refine⟨by omega,by omega,by omega,by omega,by omega,?_⟩
        rw[I3.2.2.2.2.2,chkD,if_pos (by omega),if_neg (by omega),if_neg (by first|omega|exact fun hh=>adjD_no h10 hh.2)]
        ((repeat' split)<;>first|rfl|omega| (simp_all;done)| (simp_all;omega))
       ·
        ((try dsimp only);omega)
      ·
       refine .at 528 [(80,80)] ([(0,VL 4 dstepT l),(3,VI (min (b+(((l.getD i default)).n)) 2147483648)),(4,VI a),(6,.ptr 80 0),(9,VL 4 dstepT l),(10,VI (l.length:Int)),(11,VI (i:Int)),(65,VB ((((l.getD i default)).kind) !=2))],[(80,.box [VI (((l.getD i default)).kind),VI (((l.getD i default)).n),VL 2 attrT (((l.getD i default)).attrs),VL 3 elemT (((l.getD i default)).elems)])]) ?_
       refine .back [.r [(0,X (Xn ((i:Int)+1)))]] [] (ih3 ((min (b+(((l.getD i default)).n)) 2147483648),a,(i+1)) ?_ ?_)
       ·
        refine⟨by omega,by omega,by omega,by omega,by omega,?_⟩
        rw[I3.2.2.2.2.2,chkD,if_pos (by omega),if_neg (by omega),if_neg (by first|omega|exact fun hh=>adjD_no h10 hh.2)]
        ((repeat' split)<;>first|rfl|omega| (simp_all;done)| (simp_all;omega))
       ·
        ((try dsimp only);omega)
     ·
      refine .bp [.r []] ((((l.getD i default)).kind) !=2) (fun h14=> ?_) (fun h14=> ?_)
      ·
       refine .at 480 [(80,80)] ([(0,VL 4 dstepT l),(3,VI b),(4,VI a),(6,.ptr 80 0),(9,VL 4 dstepT l),(10,VI (l.length:Int)),(11,VI (i:Int)),(65,VB ((((l.getD i default)).kind) !=2))],[(80,.box [VI (((l.getD i default)).kind),VI (((l.getD i default)).n),VL 2 attrT (((l.getD i default)).attrs),VL 3 elemT (((l.getD i default)).elems)])]) ?_
       refine .back [.r [(2,X (Xc0 (fc_size ((l.getD i default))) X0)),(3,X (Xn (a+(szD ((l.getD i default)))))),(4,X (Xmin (a+(szD ((l.getD i default)))) 2147483648))],.r [(0,X (Xn ((i:Int)+1)))]] [] (ih3 (b,(min (a+(szD ((l.getD i default)))) 2147483648),(i+1)) ?_ ?_)
       ·
        refine⟨by omega,by omega,by omega,by omega,by omega,?_⟩
        rw[I3.2.2.2.2.2,chkD,if_pos (by omega),if_neg (by omega),if_neg (by first|omega|exact fun hh=>adjD_no h10 hh.2)]
        ((repeat' split)<;>first|rfl|omega| (simp_all;done)| (simp_all;omega))
       ·
        ((try dsimp only);omega)
      ·
       refine .at 480 [(80,80)] ([(0,VL 4 dstepT l),(3,VI b),(4,VI a),(6,.ptr 80 0),(9,VL 4 dstepT l),(10,VI (l.length:Int)),(11,VI (i:Int)),(65,VB ((((l.getD i default)).kind) !=2))],[(80,.box [VI (((l.getD i default)).kind),VI (((l.getD i default)).n),VL 2 attrT (((l.getD i default)).attrs),VL 3 elemT (((l.getD i default)).elems)])]) ?_
       refine .back [.r [(0,X (Xn ((i:Int)+1)))]] [] (ih3 (b,a,(i+1)) ?_ ?_)
       ·
        refine⟨by omega,by omega,by omega,by omega,by omega,?_⟩
        rw[I3.2.2.2.2.2,chkD,if_pos (by omega),if_neg (by omega),if_neg (by first|omega|exact fun hh=>adjD_no h10 hh.2)]
        ((repeat' split)<;>first|rfl|omega| (simp_all;done)| (simp_all;omega))
       ·
        ((try dsimp only);omega)
   ·
    refine .bp [.r []] ((((l.getD i default)).kind) !=1) (fun h12=> ?_) (fun h12=> ?_)
    ·
     refine .bp [.r [(3,X (Xn (b+(((l.getD i default)).n)))),(4,X (Xmin (b+(((l.getD i default)).n)) 2147483648))],.r []] ((((l.getD i default)).kind) !=2) (fun h14=> ?_) (fun h14=> ?_)
     ·
      refine .back [.r [(2,X (Xc0 (fc_size ((l.getD i default))) X0)),(3,X (Xn (a+(szD ((l.getD i default)))))),(4,X (Xmin (a+(szD ((l.getD i default)))) 2147483648))],.r [(0,X (Xn ((i:Int)+1)))]] [] (ih3 ((min (b+(((l.getD i default)).n)) 2147483648),(min (a+(szD ((l.getD i default)))) 2147483648),(i+1)) ?_ ?_)
      ·
       refine⟨by omega,by omega,by omega,by omega,by omega,?_⟩
       rw[I3.2.2.2.2.2,chkD,if_pos (by omega),if_neg (by omega),if_neg (by first|omega|exact fun hh=>adjD_no h10 hh.2)]
       ((repeat' split)<;>first|rfl|omega| (simp_all;done)| (simp_all;omega))
      ·
       ((try dsimp only);omega)
     ·
      refine .back [.r [(0,X (Xn ((i:Int)+1)))]] [] (ih3 ((min (b+(((l.getD i default)).n)) 2147483648),a,(i+1)) ?_ ?_)
      ·
       refine⟨by omega,by omega,by omega,by omega,by omega,?_⟩
       rw[I3.2.2.2.2.2,chkD,if_pos (by omega),if_neg (by omega),if_neg (by first|omega|exact fun hh=>adjD_no h10 hh.2)]
       ((repeat' split)<;>first|rfl|omega| (simp_all;done)| (simp_all;omega))
      ·
       ((try dsimp only);omega)
    ·
     refine .bp [.r []] ((((l.getD i default)).kind) !=2) (fun h14=> ?_) (fun h14=> ?_)
     ·
      refine .back [.r [(2,X (Xc0 (fc_size ((l.getD i default))) X0)),(3,X (Xn (a+(szD ((l.getD i default)))))),(4,X (Xmin (a+(szD ((l.getD i default)))) 2147483648))],.r [(0,X (Xn ((i:Int)+1)))]] [] (ih3 (b,(min (a+(szD ((l.getD i default)))) 2147483648),(i+1)) ?_ ?_)
      ·
       refine⟨by omega,by omega,by omega,by omega,by omega,?_⟩
       rw[I3.2.2.2.2.2,chkD,if_pos (by omega),if_neg (by omega),if_neg (by first|omega|exact fun hh=>adjD_no h10 hh.2)]
       ((repeat' split)<;>first|rfl|omega| (simp_all;done)| (simp_all;omega))
      ·
       ((try dsimp only);omega)
     ·
      refine .back [.r [(0,X (Xn ((i:Int)+1)))]] [] (ih3 (b,a,(i+1)) ?_ ?_)
      ·
       refine⟨by omega,by omega,by omega,by omega,by omega,?_⟩
       rw[I3.2.2.2.2.2,chkD,if_pos (by omega),if_neg (by omega),if_neg (by first|omega|exact fun hh=>adjD_no h10 hh.2)]
       ((repeat' split)<;>first|rfl|omega| (simp_all;done)| (simp_all;omega))
      ·
       ((try dsimp only);omega)
 ·
  refine .bp [.r [(4,Xv 1 (!(decide (b>2147483647))) X0),(5,X (Xk' (decide (b>2147483647))))]] (decide (b>2147483647)||decide (a>2147483647)) (fun h17=> ?_) (fun h17=> ?_)
  ·
   have e3:((checkD l):Int)=3:=by
    rw[I3.2.2.2.2.2,chkD];((repeat' split)<;>first|rfl|omega| (simp_all;done)| (simp_all;omega))
   exact .finE [.r []] [] (fun z0:Int=>(VI z0,[])) _ _ e3
  ·
   have e4:((checkD l):Int)=0:=by
    rw[I3.2.2.2.2.2,chkD];((repeat' split)<;>first|rfl|omega| (simp_all;done)| (simp_all;omega))
   exact .finE [.r []] [] (fun z0:Int=>(VI z0,[])) _ _ e4
theorem fc_dLens(l:List DStep)(hv:DValid l):FC Tryz.prog 122 [VL 4 dstepT l] (app emp []) (.tup [VI (oldD l),VI (newD l)]) (app emp []):=by
 refine .go Tryz.f122 ?_
 refine .len 0 (fun hl0=> ?_)
 refine .loop (α:=Int×Int×Nat) [.r [],.r [],.r [(1,X (Xl dstepT l))]] 56 (fun(b,a,i)=>([(4,VI b),(5,VI a),(8,VL 4 dstepT l),(9,VI (l.length:Int)),(10,VI (i:Int))],[])) (fun(b,a,i)=>i≤l.length∧0≤b∧0≤a∧oldD l=b+oldD (l.drop i)∧newD l=a+newD (l.drop i)) (fun(b,a,i)=>l.length-i) (0,0,0) ?_ ?_
 ·
  exact⟨by omega,by decide,by decide,by simp,by simp⟩
 rintro⟨b,a,i⟩ I3 ih3
 try dsimp only at I3
 have hv1:=hv.2.1
 have hv2:=hv.2.2
 refine .bp [.r []] (decide ((i:Int)< (l.length:Int))) (fun h3=> ?_) (fun h3=> ?_)
 ·
  have hst:=dlens_step (l:=l) (i:=i) (by omega) hv.1
  refine .bp [.r [(0,X (Xi dstepT l (i:Int)))],.r []] ((((l.getD i default)).kind) !=1) (fun h5=> ?_) (fun h5=> ?_)
  ·
   have s1:=hst.1
   rw[if_neg (by omega)] at s1
   refine .bp [.r [(3,X (Xn (b+(((l.getD i default)).n))))],.r []] ((((l.getD i default)).kind) !=2) (fun h7=> ?_) (fun h7=> ?_)
   ·
    have s2:=hst.2.1
    rw[if_neg (by omega)] at s2
    refine .back [.r [(2,X (Xc0 (fc_size ((l.getD i default))) X0)),(3,X (Xn (a+(szD ((l.getD i default))))))],.r [(0,X (Xn ((i:Int)+1)))]] [] (ih3 ((b+(((l.getD i default)).n)),(a+(szD ((l.getD i default)))),(i+1)) ?_ ?_)
    ·
     obtain⟨s1,s2,s3,s4,s5,s6,s7,s8⟩:=hst
     first|rw[if_pos (by omega)] at s1|rw[if_neg (by omega)] at s1
     first|rw[if_pos (by omega)] at s2|rw[if_neg (by omega)] at s2
     refine⟨by omega,by omega,by omega,by omega,by omega⟩
    ·
     ((try dsimp only);omega)
   ·
    refine .back [.r [(0,X (Xn ((i:Int)+1)))]] [] (ih3 ((b+(((l.getD i default)).n)),a,(i+1)) ?_ ?_)
    ·
     obtain⟨s1,s2,s3,s4,s5,s6,s7,s8⟩:=hst
     first|rw[if_pos (by omega)] at s1|rw[if_neg (by omega)] at s1
     first|rw[if_pos (by omega)] at s2|rw[if_neg (by omega)] at s2
     refine⟨by omega,by omega,by omega,by omega,by omega⟩
    ·
     ((try dsimp only);omega)
  ·
   refine .bp [.r []] ((((l.getD i default)).kind) !=2) (fun h7=> ?_) (fun h7=> ?_)
   ·
    have s2:=hst.2.1
    rw[if_neg (by omega)] at s2
    refine .back [.r [(2,X (Xc0 (fc_size ((l.getD i default))) X0)),(3,X (Xn (a+(szD ((l.getD i default))))))],.r [(0,X (Xn ((i:Int)+1)))]] [] (ih3 (b,(a+(szD ((l.getD i default)))),(i+1)) ?_ ?_)
    ·
     obtain⟨s1,s2,s3,s4,s5,s6,s7,s8⟩:=hst
     first|rw[if_pos (by omega)] at s1|rw[if_neg (by omega)] at s1
     first|rw[if_pos (by omega)] at s2|rw[if_neg (by omega)] at s2
     refine⟨by omega,by omega,by omega,by omega,by omega⟩
    ·
     ((try dsimp only);omega)
   ·
    refine .back [.r [(0,X (Xn ((i:Int)+1)))]] [] (ih3 (b,a,(i+1)) ?_ ?_)
    ·
     obtain⟨s1,s2,s3,s4,s5,s6,s7,s8⟩:=hst
     first|rw[if_pos (by omega)] at s1|rw[if_neg (by omega)] at s1
     first|rw[if_pos (by omega)] at s2|rw[if_neg (by omega)] at s2
     refine⟨by omega,by omega,by omega,by omega,by omega⟩
    ·
     ((try dsimp only);omega)
 ·
  have e1:((oldD l):Int)=b:=by
   have hE:=dend (l:=l) (i:=i) (by omega)
   omega
  have e2:((newD l):Int)=a:=by
   have hE:=dend (l:=l) (i:=i) (by omega)
   omega
  exact .finE [.r []] [] (fun((z0,z1):Int×Int)=>(.tup [VI z0,VI z1],[])) _ _ (pr e1 e2)
end Go.Ch
end
section
set_option linter.unusedVariables false
set_option linter.unusedSimpArgs false
set_option maxRecDepth 100000
set_option maxHeartbeats 4000000
open Go Go.Proofs Go.Ab
namespace Go.Ch
theorem fc_dRaw(f:List Elem)(l:List DStep)(hv:DValid l)(hd:DN 400000000000 l)(ha:AN 400000000000 f)(hlen:oldD l=f.length):FC Tryz.prog 85 [VL 3 elemT f,VL 4 dstepT l] (app emp []) (VL 3 elemT (rawD f l)) (app emp []):=by
 refine .go Tryz.f85 ?_
 refine .len 0 (fun hl0=> ?_)
 refine .len 1 (fun hl1=> ?_)
 refine .loop (α:=(List Elem)×Nat×(List Elem)) [.r [],.r [],.r [(1,X (Xl dstepT l))],.le (.nR 5 3)] 41 (fun(r,i,o)=>([(0,VL 3 elemT r),(5,.row 40 o.length),(8,VL 4 dstepT l),(9,VI (l.length:Int)),(10,VI (i:Int))],[(40,OR 3 elemT o)])) (fun(r,i,o)=>i≤l.length∧AN 400000000000 r∧oldD (l.drop i)=r.length∧o.length+newD (l.drop i)=newD l∧rawD f l=o++applyU (exD (l.drop i)) r) (fun(r,i,o)=>l.length-i) (f,0,[]) ?_ ?_
 ·
  exact⟨by omega,ha,by simpa using hlen,by simp,by simp[rawD]⟩
 rintro⟨r,i,o⟩ I3 ih3
 try dsimp only at I3
 have hv1:=hv.2.1
 have hv2:=hv.2.2
 refine .bp [.r []] (decide ((i:Int)< (l.length:Int))) (fun h3=> ?_) (fun h3=> ?_)
 ·
  have hst:=dlens_step (l:=l) (i:=i) (by omega) hv.1
  obtain⟨hx,hx2,hx3⟩:=hd.at_ (k:=i) (by omega)
  have hr:=raw_at (d:=l) (i:=i) (by omega) r
  refine .bp [.r [(0,X (Xi dstepT l (i:Int)))],.r [],.r []] ((((l.getD i default)).kind)==0) (fun h7=> ?_) (fun h7=> ?_)
  ·
   obtain⟨s1,s2,s3,s4,s5,s6,s7,s8⟩:=hst
   rw[if_neg (by omega)] at s1 s2
   have hz:szD (l.getD i default)=(l.getD i default).n:=by unfold szD;rw[if_neg (by omega)]
   have hl8:(r.take (l.getD i default).n.toNat).length=(l.getD i default).n.toNat:=by rw[List.length_take];omega
   have hs8:∀x∈r.take (l.getD i default).n.toNat,x.attrs.length+(l.getD i default).attrs.length<1099511627776:=fun x hx=>by have:=I3.2.1 x (List.mem_of_mem_take hx);omega
   refine .back [.r [(4,X (Xst elemT 3 r (((l.getD i default)).n))),(7,X (Xc1 169 (fc_changed (r.take (Int.toNat (((l.getD i default)).n))) (((l.getD i default)).attrs) (by omega) (by assumption)) X0)),(8,X (Xap 3 elemT 40 o (List.map (chgE (((l.getD i default)).attrs)) (r.take (Int.toNat (((l.getD i default)).n))))))],.r [(3,X (Xsd elemT 3 r (((l.getD i default)).n)))],.r [(0,X (Xn ((i:Int)+1)))]] [(40,40)] (ih3 ((r.drop (Int.toNat (((l.getD i default)).n))),(i+1),(o++(List.map (chgE (((l.getD i default)).attrs)) (r.take (Int.toNat (((l.getD i default)).n)))))) ?_ ?_)
   ·
    refine⟨by omega,fun x hx=>I3.2.1 x (List.mem_of_mem_drop hx),by(rw[List.length_drop];omega),by(simp only[List.length_append,List.length_map];omega),?_⟩
    rw[I3.2.2.2.2,hr,if_neg (by omega),if_neg (by omega),List.append_assoc]
   ·
    show l.length- (i+1)< l.length-i;omega
  ·
   refine .bp [.r []] ((((l.getD i default)).kind)==1) (fun h10=> ?_) (fun h10=> ?_)
   ·
    obtain⟨s1,s2,s3,s4,s5,s6,s7,s8⟩:=hst
    rw[if_pos (by omega)] at s1
    rw[if_neg (by omega)] at s2
    have hz:szD (l.getD i default)=(l.getD i default).elems.length:=by unfold szD;rw[if_pos (by omega)]
    refine .back [.r [(3,X (Xc1 153 (fc_copy (((l.getD i default)).elems) (by omega) (by assumption)) X0)),(4,X (Xap 3 elemT 40 o (((l.getD i default)).elems)))],.r [(0,X (Xn ((i:Int)+1)))]] [(40,40)] (ih3 (r,(i+1),(o++(((l.getD i default)).elems))) ?_ ?_)
    ·
     refine⟨by omega,I3.2.1,by omega,by(simp only[List.length_append];omega),?_⟩
     rw[I3.2.2.2.2,hr,if_pos (by omega),List.append_assoc]
    ·
     show l.length- (i+1)< l.length-i;omega
   ·
    obtain⟨s1,s2,s3,s4,s5,s6,s7,s8⟩:=hst
    rw[if_neg (by omega)] at s1
    rw[if_pos (by omega)] at s2
    refine .back [.r [(3,X (Xsd elemT 3 r (((l.getD i default)).n)))],.r [(0,X (Xn ((i:Int)+1)))]] [(40,40)] (ih3 ((r.drop (Int.toNat (((l.getD i default)).n))),(i+1),o) ?_ ?_)
    ·
     refine⟨by omega,fun x hx=>I3.2.1 x (List.mem_of_mem_drop hx),by(rw[List.length_drop];omega),by omega,?_⟩
     rw[I3.2.2.2.2,hr,if_neg (by omega),if_pos (by omega)]
    ·
     show l.length- (i+1)< l.length-i;omega
 ·
  have e1:((rawD f l):List Elem)=o:=by
   rw[I3.2.2.2.2,List.drop_eq_nil_of_le (by omega)];simp[exD,applyU]
  exact .finE [.r [],.le (.fr 4 [(o.length:Nat)=(List.map elemT o).length] ⟨lm,trivial⟩)] [] (fun z0:List Elem=>(VL 3 elemT z0,[])) _ _ e1
end Go.Ch
end
section
set_option linter.unusedVariables false
set_option linter.unusedSimpArgs false
set_option maxRecDepth 100000
set_option maxHeartbeats 4000000
open Go Go.Proofs Go.Ab
namespace Go.Ch
end Go.Ch
end
section
set_option linter.unusedVariables false
set_option linter.unusedSimpArgs false
namespace Go.Ch
open Go Go.Ab
structure DWr where
 out:List DStep
 add:List Elem
 cut:Int
def flushD(w:DWr):List DStep:=w.out++(if 0<w.add.length then[⟨1,0,[],w.add⟩] else[])++(if 0<w.cut then[⟨2,w.cut,[],[]⟩] else[])
def keepD(l:List DStep)(n:Int)(c:List Attr):List DStep:=
 if 0<l.length∧(l.getD (l.length- 1) default).kind=0∧sameL (l.getD (l.length- 1) default).attrs c=true then
  l.set (l.length- 1) ⟨(l.getD (l.length- 1) default).kind,(l.getD (l.length- 1) default).n+n,(l.getD (l.length- 1) default).attrs,(l.getD (l.length- 1) default).elems⟩
 else l++[⟨0,n,c,[]⟩]
theorem flushD_len(w:DWr):(flushD w).length≤w.out.length+2:=by
 unfold flushD;simp only[List.length_append];split<;>split<;>simp
theorem keepD_len(l:List DStep)(n:Int)(c:List Attr):(keepD l n c).length≤l.length+1:=by
 unfold keepD;split<;>simp
def DOkW(s:DStep):Prop:=
 (s.kind=1∧s.n=0∧s.attrs=[]∧s.elems≠[]∧∀x∈s.elems,elemE x=0)∨
 ((s.kind=0∨s.kind=2)∧s.elems=[]∧(s.kind=2→s.attrs=[])∧1≤s.n∧VG true s.attrs)
def AdjOk:List DStep→Prop
 | []=>True
 | [_]=>True
 |s::t::l=>adjD s t=false∧AdjOk (t::l)
theorem adj_snoc:∀{l:List DStep} {s:DStep},AdjOk l→(∀t,l.getLast? =some t→adjD t s=false)→AdjOk (l++[s])
 | [],s,_,_=>trivial
 | [x],s,_,h=>⟨h x rfl,trivial⟩
 |x::y::l,s,hf,h=>⟨hf.1,adj_snoc (l:=y::l) hf.2 (fun t ht=>h t (by simpa[List.getLast?_cons_cons] using ht))⟩
theorem adjD_eq'{w x x':DStep}(k:x'.kind=x.kind)(a:x'.attrs=x.attrs):adjD w x'=adjD w x:=by unfold adjD;rw[k,a]
theorem adj_last:∀{l:List DStep} {s s':DStep},AdjOk (l++[s])→s'.kind=s.kind→s'.attrs=s.attrs→AdjOk (l++[s'])
 | [],s,s',_,_,_=>trivial
 | [x],s,s',h,k,a=>⟨by rw[adjD_eq' k a];exact h.1,trivial⟩
 |x::y::l,s,s',h,k,a=>⟨h.1,adj_last (l:=y::l) h.2 k a⟩
theorem dform_of:∀{l:List DStep},(∀s∈l,DOk s)→AdjOk l→DForm l
 | [],_,_=>trivial
 | [s],h,_=>h s (by simp)
 |s::t::l,h,k=>⟨h s (by simp),k.1,dform_of (fun x hx=>h x (by simp at hx⊢;exact .inr hx)) k.2⟩
theorem okW{s:DStep}(h:DOk s):DOkW s:=by
 rcases h with h| ⟨a,b,c,d,e,f⟩
 ·exact .inl h
 ·exact .inr ⟨a,b,c,d,f⟩
theorem oSW{s:DStep}(h:DOkW s):0≤oS s∧0≤nS s∧(s.kind≠1→oS s=s.n)∧0≤s.n:=by
 unfold oS nS szD
 rcases h with⟨k,n,a,e,_⟩| ⟨k,_,_,n1,_⟩
 ·have:0<s.elems.length:=List.length_pos_iff.2 e
  rw[if_pos k,if_neg (by omega),if_pos k]
  exact⟨Int.le_refl _,by omega,fun q=>absurd k q,by omega⟩
 ·have k1:¬s.kind=1:=by omega
  simp only[if_neg k1]
  refine⟨by omega,by(split<;>omega),fun _=>trivial,by omega⟩
theorem sumsW:∀{l:List DStep},(∀s∈l,DOkW s)→0≤oldD l∧0≤newD l∧∀s∈l,s.kind≠1→s.n≤oldD l
 | [],_=>⟨Int.le_refl _,Int.le_refl _,fun s hs=>by cases hs⟩
 |s::l,h=>by
  have h1:=oSW (h s (by simp))
  have h2:=sumsW (l:=l) (fun t ht=>h t (by simp[ht]))
  simp only[oldD,newD]
  refine⟨by omega,by omega,fun t ht k=> ?_⟩
  rcases List.mem_cons.1 ht with rfl|ht
  ·have:=h1.2.2.1 k;omega
  ·have:=h2.2.2 t ht k;omega
theorem valid_of{l:List DStep}(h:∀s∈l,DOkW s)(ha:AdjOk l)(h1:oldD l≤2147483647)(h2:newD l≤2147483647):DValid l:=by
 refine⟨dform_of (fun s hs=> ?_) ha,h1,h2⟩
 rcases h s hs with q| ⟨a,b,c,d,e⟩
 ·exact .inl q
 ·have:=(sumsW h).2.2 s hs (by omega)
  exact .inr ⟨a,b,c,d,by omega,e⟩
theorem oldN_app(u v:List DU):oldN (u++v)=oldN u+oldN v:=by
 induction u with
 |nil=>simp[oldN]
 |cons x u ih=>cases x<;>simp[oldN,ih]<;>omega
theorem newN_app(u v:List DU):newN (u++v)=newN u+newN v:=by
 induction u with
 |nil=>simp[newN]
 |cons x u ih=>cases x<;>simp[newN,ih]<;>omega
theorem lens_As(e:List Elem):oldN (e.map .A)=0∧newN (e.map .A)=e.length:=by
 induction e with
 |nil=>exact⟨rfl,rfl⟩
 |cons x e ih=>simp[oldN,newN,ih]
theorem lens_Cs(n:Nat):oldN (List.replicate n .C)=n∧newN (List.replicate n .C)=0:=by
 induction n with
 |zero=>exact⟨rfl,rfl⟩
 |succ n ih=>simp[List.replicate_succ,oldN,newN,ih]
theorem lens_Ks(n:Nat)(c:List Attr):oldN (List.replicate n (.K c))=n∧newN (List.replicate n (.K c))=n:=by
 induction n with
 |zero=>exact⟨rfl,rfl⟩
 |succ n ih=>simp[List.replicate_succ,oldN,newN,ih]
theorem lens_S{s:DStep}(h:DOkW s):(oldN (exS s):Int)=oS s∧(newN (exS s):Int)=nS s:=by
 unfold exS oS nS szD
 rcases h with⟨k,n,a,e,_⟩| ⟨k,_,_,n1,_⟩
 ·rw[if_pos k,if_pos k,if_neg (by omega),if_pos k,(lens_As _).1,(lens_As _).2];exact⟨rfl,rfl⟩
 ·have k1:¬s.kind=1:=by omega
  by_cases k2:s.kind=2
  ·simp only[if_neg k1,if_pos k2]
   rw[(lens_Cs _).1,(lens_Cs _).2];omega
  ·simp only[if_neg k1,if_neg k2]
   rw[(lens_Ks _ _).1,(lens_Ks _ _).2];omega
theorem lens_D:∀{l:List DStep},(∀s∈l,DOkW s)→(oldN (exD l):Int)=oldD l∧(newN (exD l):Int)=newD l
 | [],_=>⟨rfl,rfl⟩
 |s::l,h=>by
  have h1:=lens_S (h s (by simp))
  have h2:=lens_D (l:=l) (fun t ht=>h t (by simp[ht]))
  simp only[exD,oldD,newD]
  rw[oldN_app,newN_app]
  omega
def exDW(w:DWr):List DU:=exD w.out++(w.add.map .A++List.replicate w.cut.toNat .C)
structure GoodD(w:DWr):Prop where
 ok:∀s∈w.out,DOkW s
 adj:AdjOk w.out
 last:∀t,w.out.getLast? =some t→t.kind=0
 add:∀x∈w.add,elemE x=0
 cut:0≤w.cut
theorem goodD0:GoodD ⟨[],[],0⟩:=⟨fun s h=>(by cases h),trivial,fun t h=>(by cases h),fun x h=>(by cases h),Int.le_refl _⟩
theorem flushD_ex{w:DWr}(h:GoodD w):exD (flushD w)=exDW w:=by
 have h2:=h.cut
 unfold flushD exDW
 rw[exD_app,exD_app,List.append_assoc]
 congr 2
 ·split
  ·simp[exD,exS]
  ·rw[show w.add=[] from len0.1 (by omega)];rfl
 ·split
  ·simp[exD,exS]
  ·rw[show w.cut.toNat=0 by omega];rfl
theorem adj_1{t s:DStep}(h:t.kind≠s.kind)(h2:¬(t.kind=2∧s.kind=1)):adjD t s=false:=by
 cases e:adjD t s
 ·rfl
 ·rcases adjD_yes.1 e with⟨a,_⟩|a
  ·exact absurd a h
  ·exact absurd a h2
theorem vg_nil:VG true []:=(chk_iff (e:=true) (l:=[])).1 (by rw[chkA];rfl)
theorem flushD_ok{w:DWr}(h:GoodD w):(∀s∈flushD w,DOkW s)∧AdjOk (flushD w):=by
 have h2:=h.cut
 have o1:0<w.add.length→DOkW ⟨1,0,[],w.add⟩:=fun q=> .inl ⟨rfl,rfl,rfl,List.length_pos_iff.1 q,h.add⟩
 have o2:0<w.cut→DOkW ⟨2,w.cut,[],[]⟩:=fun q=> .inr ⟨.inr rfl,rfl,fun _=>rfl,q,vg_nil⟩
 refine⟨fun s hs=> ?_,?_⟩
 ·unfold flushD at hs
  simp only[List.mem_append] at hs
  rcases hs with(hs|hs)|hs
  ·exact h.ok s hs
  ·split at hs
   ·rename_i q;rw[List.mem_singleton] at hs;subst hs;exact o1 q
   ·cases hs
  ·split at hs
   ·rename_i q;rw[List.mem_singleton] at hs;subst hs;exact o2 q
   ·cases hs
 ·unfold flushD
  by_cases ha:0<w.add.length
  ·rw[if_pos ha]
   have f1:AdjOk (w.out++[⟨1,0,[],w.add⟩]):=adj_snoc h.adj (fun t ht=>by
    have:=h.last t ht
    exact adj_1 (by simp only;omega) (by omega))
   by_cases hc:0<w.cut
   ·rw[if_pos hc]
    refine adj_snoc f1 (fun t ht=> ?_)
    rw[List.getLast?_concat] at ht
    cases ht
    exact adj_1 (by show(1:Int)≠2;decide) (by show¬((1:Int)=2∧(2:Int)=1);decide)
   ·rw[if_neg hc,List.append_nil];exact f1
  ·rw[if_neg ha,List.append_nil]
   by_cases hc:0<w.cut
   ·rw[if_pos hc]
    refine adj_snoc h.adj (fun t ht=> ?_)
    have:=h.last t ht
    exact adj_1 (by simp only;omega) (by omega)
   ·rw[if_neg hc,List.append_nil];exact h.adj
theorem lastD{l:List DStep}(h:0<l.length):l=l.take (l.length- 1)++[l.getD (l.length- 1) default]:=by
 conv=>lhs;rw[←List.take_append_drop (l.length- 1) l]
 congr 1
 rw[List.drop_eq_getElem_cons (by omega),List.drop_eq_nil_of_le (by omega)]
 simp[List.getD,List.getElem?_eq_getElem (show l.length- 1<l.length by omega)]
theorem lastD_mem{l:List DStep}(h:0<l.length):l.getD (l.length- 1) default∈l:=by
 rw[show l.getD (l.length- 1) default=l[l.length- 1] by simp[List.getD,List.getElem?_eq_getElem (show l.length- 1<l.length by omega)]]
 exact List.getElem_mem _
theorem setD{l:List DStep}(h:0<l.length)(s:DStep):l.set (l.length- 1) s=l.take (l.length- 1)++[s]:=by
 rw[List.set_eq_take_append_cons_drop,if_pos (by omega),List.drop_eq_nil_of_le (by omega)]
theorem keepD_ok{l:List DStep}{n:Int}{c:List Attr}(ho:∀s∈l,DOkW s)(hf:AdjOk l)(hn:1≤n)(hc:VG true c):
 (∀s∈keepD l n c,DOkW s)∧AdjOk (keepD l n c)∧(∀t,(keepD l n c).getLast? =some t→t.kind=0)∧exD (keepD l n c)=exD l++List.replicate n.toNat (.K c):=by
 unfold keepD
 split
 ·rename_i hc
  obtain⟨h0,hk,ha⟩:=hc
  rw[sameL_eq] at ha
  generalize hx:l.getD (l.length- 1) default=x at hk ha⊢
  have hl:=lastD h0
  rw[hx] at hl
  rw[setD h0]
  have hox:DOkW x:=ho x (by rw[hl];simp)
  have hx2:x.elems=[]∧1≤x.n∧VG true x.attrs:=by
   rcases hox with⟨k,_⟩| ⟨_,a,_,b,d⟩
   ·omega
   ·exact⟨a,b,d⟩
  refine⟨fun s hs=> ?_,adj_last (s:=x) (by rw[←hl];exact hf) rfl rfl,fun t ht=> ?_,?_⟩
  ·rw[List.mem_append] at hs
   rcases hs with hs|hs
   ·exact ho s (List.mem_of_mem_take hs)
   ·rw[List.mem_singleton] at hs;subst hs
    exact .inr ⟨.inl hk,hx2.1,fun q=>by simp only at q;omega,by simp only;omega,hx2.2.2⟩
  ·rw[List.getLast?_concat] at ht;cases ht;exact hk
  ·conv=>rhs;rw[hl]
   rw[exD_app,exD_app,List.append_assoc]
   congr 1
   simp only[exD,List.append_nil,exS]
   rw[if_neg (by omega),if_neg (by omega),if_neg (by omega),if_neg (by omega),ha,show(x.n+n).toNat=x.n.toNat+n.toNat by omega]
   exact List.replicate_append_replicate.symm
 ·rename_i hq
  refine⟨fun s hs=> ?_,adj_snoc hf (fun t ht=> ?_),fun t ht=> ?_,by rw[exD_app];simp[exD,exS]⟩
  ·rw[List.mem_append] at hs
   rcases hs with hs|hs
   ·exact ho s hs
   ·rw[List.mem_singleton] at hs;subst hs
    exact .inr ⟨.inl rfl,rfl,fun q=>(by cases q),hn,hc⟩
  ·have h0:0<l.length:=by
    rcases l with _| ⟨y,l⟩
    ·cases ht
    ·simp
   have hl:l.getLast? =some (l.getD (l.length- 1) default):=by
    conv=>lhs;rw[lastD h0]
    rw[List.getLast?_concat]
   rw[hl] at ht
   cases ht
   cases e:adjD (l.getD (l.length- 1) default) ⟨0,n,c,[]⟩
   ·rfl
   ·rcases adjD_yes.1 e with⟨a,b|b⟩| ⟨_,b⟩
    ·exact absurd rfl b
    ·exact absurd ⟨h0,a,b⟩ hq
    ·cases b
  ·rw[List.getLast?_concat] at ht;cases ht;rfl
theorem GoodD.keep{w:DWr}{n:Int}{c:List Attr}(h:GoodD w)(hn:1≤n)(hc:VG true c):
 GoodD ⟨keepD (flushD w) n c,[],0⟩∧exDW ⟨keepD (flushD w) n c,[],0⟩=exDW w++List.replicate n.toNat (.K c):=by
 obtain⟨q1,q2,q3,q4⟩:=keepD_ok (flushD_ok h).1 (flushD_ok h).2 hn hc
 refine⟨⟨q1,q2,q3,fun x hx=>(by cases hx),Int.le_refl _⟩,?_⟩
 rw[←flushD_ex h,←q4]
 simp[exDW]
theorem GoodD.elems{w:DWr}{e:List Elem}(h:GoodD w)(he:∀x∈e,elemE x=0):
 GoodD ⟨w.out,w.add++e,w.cut⟩∧DSw (exDW ⟨w.out,w.add++e,w.cut⟩) (exDW w++e.map .A):=by
 refine⟨⟨h.ok,h.adj,h.last,fun x hx=> ?_,h.cut⟩,?_⟩
 ·rcases List.mem_append.1 hx with hx|hx
  ·exact h.add x hx
  ·exact he x hx
 ·unfold exDW
  simp only[List.map_append,List.append_assoc]
  refine .left _ (.left _ ?_)
  have:=dsw_Cs_As w.cut.toNat e []
  simp only[List.append_nil] at this
  exact .symm this
theorem GoodD.cuts{w:DWr}{n:Int}(h:GoodD w)(hn:0≤n):
 GoodD ⟨w.out,w.add,w.cut+n⟩∧exDW ⟨w.out,w.add,w.cut+n⟩=exDW w++List.replicate n.toNat .C:=by
 have h2:=h.cut
 refine⟨⟨h.ok,h.adj,h.last,h.add,by simp only;omega⟩,?_⟩
 unfold exDW
 simp only[List.append_assoc]
 rw[show(w.cut+n).toNat=w.cut.toNat+n.toNat by omega,←List.replicate_append_replicate]
theorem GoodD.valid{w:DWr}{u:List DU}(h:GoodD w)(hs:DSw (exDW w) u)(h1:oldN u≤2147483647)(h2:newN u≤2147483647):
 DValid (flushD w)∧DSw (exD (flushD w)) u∧oldD (flushD w)=oldN u∧newD (flushD w)=newN u:=by
 have hk:=flushD_ok h
 have he:=flushD_ex h
 have hl:=dsw_lens hs
 have hd:=lens_D hk.1
 rw[he] at hd
 refine⟨valid_of hk.1 hk.2 (by omega) (by omega),by rw[he];exact hs,by omega,by omega⟩
end Go.Ch
end
section
set_option linter.unusedVariables false
set_option linter.unusedSimpArgs false
set_option maxRecDepth 100000
set_option maxHeartbeats 4000000
open Go Go.Proofs Go.Ab
namespace Go.Ch
theorem fc_dFlush(o:List DStep)(a:List Elem)(c:Int)(ho:o.length≤100000000000):FC Tryz.prog 29 [.ptr 0 0] (app emp [(0,.box [.row 1 o.length,.row 2 a.length,VI c]),(1,OR 4 dstepT o),(2,OR 3 elemT a)]) (.tup []) (app emp [(0,.box [.row 1 ((flushD ⟨o,a,c⟩).length),.row 3 0,VI 0]),(1,OR 4 dstepT (flushD ⟨o,a,c⟩)),(2,OF 3 elemT a),(3,OR 3 elemT [])]):=by
 refine .go Tryz.f29 ?_
 refine .bp [.r []] (decide ((a.length:Int)> 0)) (fun h0=> ?_) (fun h0=> ?_)
 ·
  refine .bp [.r [(9,X (Xf [(2,2)])),(10,X (rowC elemT a X0)),(11,X (rowC dstepT [({kind:=1,n:=0,attrs:=[],elems:=a}:DStep)] (Xap 4 dstepT 1 o [({kind:=1,n:=0,attrs:=[],elems:=a}:DStep)])))],.r []] (decide (c>0)) (fun h2=> ?_) (fun h2=> ?_)
  ·
   have e1:((flushD ⟨o,a,c⟩).length:Nat)=((o++[({kind:=1,n:=0,attrs:=[],elems:=a}:DStep)])++[({kind:=2,n:=c,attrs:=[],elems:=[]}:DStep)]).length:=by
    unfold flushD;simp only;(repeat (first|rw[if_pos (by omega)]|rw[if_neg (by omega)]));try simp
   have e2:((flushD ⟨o,a,c⟩):List DStep)=((o++[({kind:=1,n:=0,attrs:=[],elems:=a}:DStep)])++[({kind:=2,n:=c,attrs:=[],elems:=[]}:DStep)]):=by
    unfold flushD;simp only;(repeat (first|rw[if_pos (by omega)]|rw[if_neg (by omega)]));try simp
   exact .finE [.r [(9,X (Xf [(2,2),(3,3)])),(11,X (rowC dstepT [({kind:=2,n:=c,attrs:=[],elems:=[]}:DStep)] (Xap 4 dstepT 1 (o++[({kind:=1,n:=0,attrs:=[],elems:=a}:DStep)]) [({kind:=2,n:=c,attrs:=[],elems:=[]}:DStep)])))],.r [],.le (.nB 0 1 3)] [(0,0),(1,1),(2,2),(395,3)] (fun((z0,z1):Nat×(List DStep))=>(.tup [],[(0,.box [.row 1 z0,.row 3 0,VI 0]),(1,OR 4 dstepT z1),(2,OF 3 elemT a),(3,OR 3 elemT [])])) _ _ (pr e1 e2)
  ·
   have e3:((flushD ⟨o,a,c⟩).length:Nat)=(o++[({kind:=1,n:=0,attrs:=[],elems:=a}:DStep)]).length:=by
    unfold flushD;simp only;(repeat (first|rw[if_pos (by omega)]|rw[if_neg (by omega)]));try simp
   have e4:((flushD ⟨o,a,c⟩):List DStep)=(o++[({kind:=1,n:=0,attrs:=[],elems:=a}:DStep)]):=by
    unfold flushD;simp only;(repeat (first|rw[if_pos (by omega)]|rw[if_neg (by omega)]));try simp
   exact .finE [.r [],.le (.nB 0 1 3)] [(0,0),(1,1),(2,2),(275,3)] (fun((z0,z1):Nat×(List DStep))=>(.tup [],[(0,.box [.row 1 z0,.row 3 0,VI 0]),(1,OR 4 dstepT z1),(2,OF 3 elemT a),(3,OR 3 elemT [])])) _ _ (pr e3 e4)
 ·
  refine .bp [.r []] (decide (c>0)) (fun h2=> ?_) (fun h2=> ?_)
  ·
   have e5:((flushD ⟨o,a,c⟩).length:Nat)=(o++[({kind:=2,n:=c,attrs:=[],elems:=[]}:DStep)]).length:=by
    unfold flushD;simp only;(repeat (first|rw[if_pos (by omega)]|rw[if_neg (by omega)]));try simp
   have e6:((flushD ⟨o,a,c⟩):List DStep)=(o++[({kind:=2,n:=c,attrs:=[],elems:=[]}:DStep)]):=by
    unfold flushD;simp only;(repeat (first|rw[if_pos (by omega)]|rw[if_neg (by omega)]));try simp
   exact .finE [.r [(9,X (Xf [(2,2),(3,3)])),(11,X (rowC dstepT [({kind:=2,n:=c,attrs:=[],elems:=[]}:DStep)] (Xap 4 dstepT 1 o [({kind:=2,n:=c,attrs:=[],elems:=[]}:DStep)])))],.r [],.le (.nB 0 1 3),.le (.fz 2)] [(0,0),(1,1),(2,2),(275,3)] (fun((z0,z1):Nat×(List DStep))=>(.tup [],[(0,.box [.row 1 z0,.row 3 0,VI 0]),(1,OR 4 dstepT z1),(2,OF 3 elemT a),(3,OR 3 elemT [])])) _ _ (pr e5 e6)
  ·
   have e7:((flushD ⟨o,a,c⟩).length:Nat)=o.length:=by
    unfold flushD;simp only;(repeat (first|rw[if_pos (by omega)]|rw[if_neg (by omega)]));try simp
   have e8:((flushD ⟨o,a,c⟩):List DStep)=o:=by
    unfold flushD;simp only;(repeat (first|rw[if_pos (by omega)]|rw[if_neg (by omega)]));try simp
   exact .finE [.r [],.le (.nB 0 1 3),.le (.fz 2)] [(0,0),(1,1),(2,2),(155,3)] (fun((z0,z1):Nat×(List DStep))=>(.tup [],[(0,.box [.row 1 z0,.row 3 0,VI 0]),(1,OR 4 dstepT z1),(2,OF 3 elemT a),(3,OR 3 elemT [])])) _ _ (pr e7 e8)
theorem fc_dElems(o:List DStep)(a:List Elem)(c:Int)(e:List Elem)(hs:AN 400000000000 e)(ho:a.length+e.length≤100000000000):FC Tryz.prog 16 [.ptr 0 0,VL 3 elemT e] (app emp [(0,.box [.row 1 o.length,.row 2 a.length,VI c]),(1,OR 4 dstepT o),(2,OR 3 elemT a)]) (.tup []) (app emp [(0,.box [.row 1 o.length,.row 2 ((a++e).length),VI c]),(1,OR 4 dstepT o),(2,OR 3 elemT (a++e))]):=by
 refine .go Tryz.f16 ?_
 refine .len 1 (fun hl1=> ?_)
 exact .fin [.r [(6,X (Xc1 51 (fc_copy e (by omega) (by assumption)) X0)),(7,X (Xap 3 elemT 2 a e))]] [(0,0),(1,1),(2,2)]
theorem kbd{l:List DStep}(h:∀s∈l,0≤s.n∧s.n≤10000000000):∀s∈l,0≤s.n∧s.n≤1000000000000000000:=fun s hs=>by have:=h s hs;omega
theorem fc_dKeep(o:List DStep)(a:List Elem)(c:Int)(n:Int)(l:List Attr)(ho:o.length≤100000000000)(hl:l.length≤400000000000)(hn:1≤n∧n≤100000000000)(hk:∀s∈flushD ⟨o,a,c⟩,0≤s.n∧s.n≤1000000000000000000):FC Tryz.prog 15 [.ptr 0 0,VI n,VL 2 attrT l] (app emp [(0,.box [.row 1 o.length,.row 2 a.length,VI c]),(1,OR 4 dstepT o),(2,OR 3 elemT a)]) (.tup []) (app emp [(0,.box [.row 1 ((keepD (flushD ⟨o,a,c⟩) n l).length),.row 3 0,VI 0]),(1,OR 4 dstepT (keepD (flushD ⟨o,a,c⟩) n l)),(2,OF 3 elemT a),(3,OR 3 elemT [])]):=by
 refine .go Tryz.f15 ?_
 refine .len 2 (fun hl2=> ?_)
 have hfl:=flushD_len ⟨o,a,c⟩
 simp only at hfl
 refine .bp [.r []] (n==0) (fun h0=> ?_) (fun h0=> ?_)
 ·
  exfalso
  omega
 ·
  have hlast:=fun h:0< (flushD ⟨o,a,c⟩).length=>hk _ (lastD_mem h)
  refine .bp [.r [(1,X (Xc3 27 [(0,0),(1,1),(2,2)] (fc_dFlush o a c (by omega)) X0))],.r [(5,X (Xn (((flushD ⟨o,a,c⟩).length:Int)- 1)))],.r [(4,Xv 1 (decide ((((flushD ⟨o,a,c⟩).length:Int)- 1)≥0)) X0),(5,Xv 1 (decide ((((flushD ⟨o,a,c⟩).length:Int)- 1)≥0)) X0),(6,Xv 1 (decide ((((flushD ⟨o,a,c⟩).length:Int)- 1)≥0)) X0),(8,Xv 2 (decide ((((flushD ⟨o,a,c⟩).length:Int)- 1)≥0)) (Xp' dstepT 1 (flushD ⟨o,a,c⟩) (((flushD ⟨o,a,c⟩).length:Int)- 1) (((flushD ⟨o,a,c⟩).length)- 1))),(9,Xv 1 (decide ((((flushD ⟨o,a,c⟩).length:Int)- 1)≥0)) X0),(10,Xv 1 (decide ((((flushD ⟨o,a,c⟩).length:Int)- 1)≥0)) (Xe dstepT (flushD ⟨o,a,c⟩) (((flushD ⟨o,a,c⟩).length)- 1))),(11,Xv 1 (decide ((((flushD ⟨o,a,c⟩).length:Int)- 1)≥0)) X0),(12,X (Xk (decide ((((flushD ⟨o,a,c⟩).length:Int)- 1)≥0)))),(15,Xv 1 (decide ((((flushD ⟨o,a,c⟩).length:Int)- 1)≥0)&&(((((flushD ⟨o,a,c⟩).getD (((flushD ⟨o,a,c⟩).length)- 1) default)).kind)==0)) X0),(16,Xv 1 (decide ((((flushD ⟨o,a,c⟩).length:Int)- 1)≥0)&&(((((flushD ⟨o,a,c⟩).getD (((flushD ⟨o,a,c⟩).length)- 1) default)).kind)==0)) X0),(17,Xv 1 (decide ((((flushD ⟨o,a,c⟩).length:Int)- 1)≥0)&&(((((flushD ⟨o,a,c⟩).getD (((flushD ⟨o,a,c⟩).length)- 1) default)).kind)==0)) X0),(19,Xv 2 (decide ((((flushD ⟨o,a,c⟩).length:Int)- 1)≥0)&&(((((flushD ⟨o,a,c⟩).getD (((flushD ⟨o,a,c⟩).length)- 1) default)).kind)==0)) (Xp' dstepT 1 (flushD ⟨o,a,c⟩) (((flushD ⟨o,a,c⟩).length:Int)- 1) (((flushD ⟨o,a,c⟩).length)- 1))),(20,Xv 1 (decide ((((flushD ⟨o,a,c⟩).length:Int)- 1)≥0)&&(((((flushD ⟨o,a,c⟩).getD (((flushD ⟨o,a,c⟩).length)- 1) default)).kind)==0)) X0),(21,Xv 1 (decide ((((flushD ⟨o,a,c⟩).length:Int)- 1)≥0)&&(((((flushD ⟨o,a,c⟩).getD (((flushD ⟨o,a,c⟩).length)- 1) default)).kind)==0)) (Xe dstepT (flushD ⟨o,a,c⟩) (((flushD ⟨o,a,c⟩).length)- 1))),(23,Xv 2 (decide ((((flushD ⟨o,a,c⟩).length:Int)- 1)≥0)&&(((((flushD ⟨o,a,c⟩).getD (((flushD ⟨o,a,c⟩).length)- 1) default)).kind)==0)) (Xc0 (fc_attrSame ((((flushD ⟨o,a,c⟩).getD (((flushD ⟨o,a,c⟩).length)- 1) default)).attrs) l) X0)),(24,X (Xk (decide ((((flushD ⟨o,a,c⟩).length:Int)- 1)≥0)&&(((((flushD ⟨o,a,c⟩).getD (((flushD ⟨o,a,c⟩).length)- 1) default)).kind)==0))))]] ((decide ((((flushD ⟨o,a,c⟩).length:Int)- 1)≥0)&&(((((flushD ⟨o,a,c⟩).getD (((flushD ⟨o,a,c⟩).length)- 1) default)).kind)==0))&&(sameL ((((flushD ⟨o,a,c⟩).getD (((flushD ⟨o,a,c⟩).length)- 1) default)).attrs) l)) (fun h3=> ?_) (fun h3=> ?_)
  ·
   have e1:((keepD (flushD ⟨o,a,c⟩) n l).length:Nat)=(flushD ⟨o,a,c⟩).length:=by
    unfold keepD;((repeat' split)<;>first|rfl|omega| (simp_all;done)| (simp_all;omega))
   have e2:((keepD (flushD ⟨o,a,c⟩) n l):List DStep)=((flushD ⟨o,a,c⟩).set (((flushD ⟨o,a,c⟩).length)- 1) ({kind:=(((flushD ⟨o,a,c⟩).getD (((flushD ⟨o,a,c⟩).length)- 1) default)).kind,n:=(((((flushD ⟨o,a,c⟩).getD (((flushD ⟨o,a,c⟩).length)- 1) default)).n)+n),attrs:=(((flushD ⟨o,a,c⟩).getD (((flushD ⟨o,a,c⟩).length)- 1) default)).attrs,elems:=(((flushD ⟨o,a,c⟩).getD (((flushD ⟨o,a,c⟩).length)- 1) default)).elems}:DStep)):=by
    unfold keepD;((repeat' split)<;>first|rfl|omega| (simp_all;done)| (simp_all;omega))
   exact .finE [.r [(5,X (Xp' dstepT 1 (flushD ⟨o,a,c⟩) (((flushD ⟨o,a,c⟩).length:Int)- 1) (((flushD ⟨o,a,c⟩).length)- 1))),(7,X (Xe dstepT (flushD ⟨o,a,c⟩) (((flushD ⟨o,a,c⟩).length)- 1))),(9,X (Xn (((((flushD ⟨o,a,c⟩).getD (((flushD ⟨o,a,c⟩).length)- 1) default)).n)+n))),(10,X (Xp' dstepT 1 (flushD ⟨o,a,c⟩) (((flushD ⟨o,a,c⟩).length:Int)- 1) (((flushD ⟨o,a,c⟩).length)- 1))),(12,X (Xs 4 dstepT 1 (flushD ⟨o,a,c⟩) (((flushD ⟨o,a,c⟩).length)- 1) ({kind:=(((flushD ⟨o,a,c⟩).getD (((flushD ⟨o,a,c⟩).length)- 1) default)).kind,n:=(((((flushD ⟨o,a,c⟩).getD (((flushD ⟨o,a,c⟩).length)- 1) default)).n)+n),attrs:=(((flushD ⟨o,a,c⟩).getD (((flushD ⟨o,a,c⟩).length)- 1) default)).attrs,elems:=(((flushD ⟨o,a,c⟩).getD (((flushD ⟨o,a,c⟩).length)- 1) default)).elems}:DStep)))]] [(0,0),(1,1),(2,2),(27,3)] (fun((z0,z1):Nat×(List DStep))=>(.tup [],[(0,.box [.row 1 z0,.row 3 0,VI 0]),(1,OR 4 dstepT z1),(2,OF 3 elemT a),(3,OR 3 elemT [])])) _ _ (pr e1 e2)
  ·
   have e3:((keepD (flushD ⟨o,a,c⟩) n l).length:Nat)=((flushD ⟨o,a,c⟩)++[({kind:=0,n:=n,attrs:=l,elems:=[]}:DStep)]).length:=by
    unfold keepD;((repeat' split)<;>first|rfl|omega| (simp_all;done)| (simp_all;omega))
   have e4:((keepD (flushD ⟨o,a,c⟩) n l):List DStep)=((flushD ⟨o,a,c⟩)++[({kind:=0,n:=n,attrs:=l,elems:=[]}:DStep)]):=by
    unfold keepD;((repeat' split)<;>first|rfl|omega| (simp_all;done)| (simp_all;omega))
   exact .finE [.r [(7,X (Xan attrT 347 l)),(8,X (Xf [(3,3)])),(9,X (rowC attrT l X0)),(10,X (rowC dstepT [({kind:=0,n:=n,attrs:=l,elems:=[]}:DStep)] (Xap 4 dstepT 1 (flushD ⟨o,a,c⟩) [({kind:=0,n:=n,attrs:=l,elems:=[]}:DStep)])))]] [(0,0),(1,1),(2,2),(27,3)] (fun((z0,z1):Nat×(List DStep))=>(.tup [],[(0,.box [.row 1 z0,.row 3 0,VI 0]),(1,OR 4 dstepT z1),(2,OF 3 elemT a),(3,OR 3 elemT [])])) _ _ (pr e3 e4)
theorem fc_dDone(o:List DStep)(a:List Elem)(c:Int)(ho:o.length≤100000000000)(hc:checkD (flushD ⟨o,a,c⟩)=0)(hd:DN 400000000000 (flushD ⟨o,a,c⟩)):FC Tryz.prog 17 [.ptr 0 0] (app emp [(0,.box [.row 1 o.length,.row 2 a.length,VI c]),(1,OR 4 dstepT o),(2,OR 3 elemT a)]) (.tup [.row 1 ((flushD ⟨o,a,c⟩).length),VI 0]) (app emp [(0,.box [.row 1 ((flushD ⟨o,a,c⟩).length),.row 3 0,VI 0]),(1,OR 4 dstepT (flushD ⟨o,a,c⟩)),(2,OF 3 elemT a),(3,OR 3 elemT [])]):=by
 refine .go Tryz.f17 ?_
 refine .bp [.r [],.r [(1,X (Xc3 27 [(0,0),(1,1),(2,2)] (fc_dFlush o a c (by omega)) X0))],.r [(4,X (Xc0 (fc_dCheck (flushD ⟨o,a,c⟩) (by assumption)) (rowC dstepT (flushD ⟨o,a,c⟩) X0)))]] ((checkD (flushD ⟨o,a,c⟩)) !=0) (fun h2=> ?_) (fun h2=> ?_)
 ·
  exfalso
  omega
 ·
  exact .fin [.r []] [(0,0),(1,1),(2,2),(27,3)]
end Go.Ch
end
section
set_option linter.unusedVariables false
set_option linter.unusedSimpArgs false
namespace Go.Ch
open Go Go.Ab
def putU(w:DWr):DU→DWr
 | .K c=>⟨keepD (flushD w) 1 c,[],0⟩
 | .A e=>⟨w.out,w.add++[e],w.cut⟩
 | .C=>⟨w.out,w.add,w.cut+1⟩
def foldD(w:DWr):List DU→DWr
 | []=>w
 |u::us=>foldD (putU w u) us
theorem foldD_As(e:List Elem)(us:List DU):∀w:DWr,foldD w (e.map .A++us)=foldD ⟨w.out,w.add++e,w.cut⟩ us:=by
 induction e with
 |nil=>intro w;simp
 |cons x e ih=>intro w;simp only[List.map_cons,List.cons_append,foldD,putU];rw[ih];simp
theorem foldD_Cs(n:Nat)(us:List DU):∀w:DWr,foldD w (List.replicate n .C++us)=foldD ⟨w.out,w.add,w.cut+n⟩ us:=by
 induction n with
 |zero=>intro w;simp
 |succ n ih=>intro w;simp only[List.replicate_succ,List.cons_append,foldD,putU];rw[ih];simp only;rw[show w.cut+1+(n:Int)=w.cut+((n+1:Nat):Int) by omega]
theorem flushD_nil(l:List DStep):flushD ⟨l,[],0⟩=l:=by simp[flushD]
theorem keepD_keepD{l:List DStep}{m n:Int}{c:List Attr}:keepD (keepD l m c) n c=keepD l (m+n) c:=by
 unfold keepD
 by_cases h:0<l.length∧(l.getD (l.length- 1) default).kind=0∧sameL (l.getD (l.length- 1) default).attrs c=true
 ·rw[if_pos h,if_pos h,setD h.1,setD h.1]
  generalize l.getD (l.length- 1) default=x at*
  have e:∀y:DStep,(List.take (l.length- 1) l++[y]).getD ((List.take (l.length- 1) l++[y]).length- 1) default=y:=fun y=>by simp
  rw[e,if_pos ⟨by simp,h.2.1,h.2.2⟩,setD (by simp)]
  have t:∀y:DStep,(List.take (l.length- 1) l++[y]).take ((List.take (l.length- 1) l++[y]).length- 1)=List.take (l.length- 1) l:=fun y=>by simp
  rw[t,Int.add_assoc]
 ·rw[if_neg h,if_neg h]
  have e:∀y:DStep,(l++[y]).getD ((l++[y]).length- 1) default=y:=fun y=>by simp
  rw[e,if_pos ⟨by simp,rfl,sameL_self c⟩,setD (by simp)]
  simp
theorem foldD_Ks(c:List Attr)(us:List DU):∀(n:Nat) (w:DWr),foldD w (List.replicate (n+1) (.K c)++us)=foldD ⟨keepD (flushD w) ((n+1:Nat):Int) c,[],0⟩ us
 |0,w=>by simp[foldD,putU]
 |n+1,w=>by
  rw[List.replicate_succ,List.cons_append,foldD,foldD_Ks c us n]
  simp only[putU]
  rw[flushD_nil,keepD_keepD,show(1:Int)+((n+1:Nat):Int)=((n+1+1:Nat):Int) by omega]
def UnitOk:DU→Prop
 | .K c=>VG true c∧c.length≤400000000000
 | .A e=>elemE e=0∧e.attrs.length≤400000000000
 | .C=>True
structure WBd(w:DWr):Prop where
 out:DN 400000000000 w.out
 add:AN 400000000000 w.add
theorem WBd.flush{w:DWr}(h:WBd w)(hl:w.add.length≤400000000000):DN 400000000000 (flushD w):=by
 intro s hs
 unfold flushD at hs
 simp only[List.mem_append] at hs
 rcases hs with(hs|hs)|hs
 ·exact h.out s hs
 ·split at hs
  ·rw[List.mem_singleton] at hs;subst hs;exact⟨hl,by simp,h.add⟩
  ·cases hs
 ·split at hs
  ·rw[List.mem_singleton] at hs;subst hs;exact⟨by simp,by simp,fun x hx=>by cases hx⟩
  ·cases hs
theorem WBd.keep{w:DWr}{n:Int}{c:List Attr}(h:WBd w)(hl:w.add.length≤400000000000)(hc:c.length≤400000000000):WBd ⟨keepD (flushD w) n c,[],0⟩:=by
 have hf:=h.flush hl
 refine⟨fun s hs=> ?_,fun x hx=>by cases hx⟩
 simp only at hs
 unfold keepD at hs
 split at hs
 ·rename_i q
  rw[setD q.1,List.mem_append] at hs
  rcases hs with hs|hs
  ·exact hf s (List.mem_of_mem_take hs)
  ·rw[List.mem_singleton] at hs;subst hs
   have:=hf _ (lastD_mem q.1)
   exact this
 ·rw[List.mem_append] at hs
  rcases hs with hs|hs
  ·exact hf s hs
  ·rw[List.mem_singleton] at hs;subst hs;exact⟨by simp,hc,fun x hx=>by cases hx⟩
theorem exS_len{s:DStep}(h:DOkW s):1≤(exS s).length∧(s.kind≠1→s.n≤(exS s).length)∧0≤s.n∧(s.kind=1→s.n=0):=by
 unfold exS
 rcases h with⟨k,n,a,e,_⟩| ⟨k,_,_,n1,_⟩
 ·rw[if_pos k,List.length_map]
  have:0<s.elems.length:=List.length_pos_iff.2 e
  exact⟨this,fun q=>absurd k q,by omega,fun _=>n⟩
 ·have k1:¬s.kind=1:=by omega
  rw[if_neg k1]
  refine⟨?_,fun _=> ?_,by omega,fun q=>absurd q k1⟩<;>split<;>simp<;>omega
theorem exD_len:∀{l:List DStep},(∀s∈l,DOkW s)→l.length≤(exD l).length∧∀s∈l,0≤s.n∧s.n≤((exD l).length:Int)
 | [],_=>⟨Nat.le_refl _,fun s hs=>by cases hs⟩
 |s::l,h=>by
  have h1:=exS_len (h s (by simp))
  have h2:=exD_len (l:=l) (fun t ht=>h t (by simp[ht]))
  simp only[exD,List.length_append,List.length_cons]
  refine⟨by omega,fun t ht=> ?_⟩
  rcases List.mem_cons.1 ht with rfl|ht
  ·refine⟨h1.2.2.1,?_⟩
   by_cases k:t.kind=1
   ·have:=h1.2.2.2 k;omega
   ·have:=h1.2.1 k;omega
  ·have:=h2.2 t ht;omega
structure DI(w:DWr)(us:List DU)(T:Nat)(G:DWr):Prop where
 good:GoodD w
 wb:WBd w
 units:∀u∈us,UnitOk u
 len:(exDW w).length+us.length=T
 small:T≤8589934592
 eq:foldD w us=G
variable {w G:DWr} {us:List DU} {T:Nat}
theorem DI.bd(h:DI w us T G):w.out.length≤T∧w.add.length≤T∧0≤w.cut∧w.cut≤T∧us.length≤T∧T≤8589934592∧w.add.length+us.length≤T∧w.cut+us.length≤T:=by
 have h1:=(exD_len h.good.ok).1
 have h2:=h.good.cut
 have h3:=h.len
 have h4:=h.small
 unfold exDW at h3
 simp only[List.length_append,List.length_replicate,List.length_map] at h3
 omega
theorem DI.fl(h:DI w us T G):(∀s∈flushD w,0≤s.n∧s.n≤10000000000)∧DN 400000000000 (flushD w):=by
 have hb:=h.bd
 refine⟨fun s hs=> ?_,h.wb.flush (by omega)⟩
 have h1:=(exD_len (flushD_ok h.good).1).2 s hs
 rw[flushD_ex h.good] at h1
 have h3:=h.len
 omega
theorem DI.keep{n:Nat}{c:List Attr}(h:DI w (List.replicate (n+1) (.K c)++us) T G):DI ⟨keepD (flushD w) ((n+1:Nat):Int) c,[],0⟩ us T G:=by
 have hu:=h.units (.K c) (by rw[List.replicate_succ];simp)
 have hb:=h.bd
 obtain⟨g1,g2⟩:=h.good.keep (n:=((n+1:Nat):Int)) (by omega) hu.1
 refine⟨g1,h.wb.keep (by omega) hu.2,fun u hu=>h.units u (by simp[hu]),?_,h.small,?_⟩
 ·have h3:=h.len
  rw[g2]
  simp only[List.length_append,List.length_replicate] at h3⊢
  omega
 ·rw[←h.eq,foldD_Ks]
theorem dsw_len{u v:List DU}(h:DSw u v):u.length=v.length:=by
 induction h with
 |refl u=>rfl
 |cons x _ ih=>simp[ih]
 |swap e u=>rfl
 |symm _ ih=>exact ih.symm
 |trans _ _ a b=>exact a.trans b
theorem DI.elems{e:List Elem}(h:DI w (e.map .A++us) T G):DI ⟨w.out,w.add++e,w.cut⟩ us T G:=by
 have hu:∀x∈e,UnitOk (.A x):=fun x hx=>h.units (.A x) (by simp[hx])
 obtain⟨g1,g2⟩:=h.good.elems (e:=e) (fun x hx=>(hu x hx).1)
 refine⟨g1,⟨h.wb.out,fun x hx=> ?_⟩,fun u hu=>h.units u (by simp[hu]),?_,h.small,?_⟩
 ·rcases List.mem_append.1 hx with hx|hx
  ·exact h.wb.add x hx
  ·exact(hu x hx).2
 ·have h3:=h.len
  rw[dsw_len g2]
  simp only[List.length_append,List.length_map] at h3⊢
  omega
 ·rw[←h.eq,foldD_As]
theorem DI.cuts{n:Nat}(h:DI w (List.replicate n .C++us) T G):DI ⟨w.out,w.add,w.cut+n⟩ us T G:=by
 obtain⟨g1,g2⟩:=h.good.cuts (n:=(n:Int)) (by omega)
 refine⟨g1,⟨h.wb.out,h.wb.add⟩,fun u hu=>h.units u (by simp[hu]),?_,h.small,?_⟩
 ·have h3:=h.len
  rw[g2]
  simp only[List.length_append,List.length_replicate] at h3⊢
  omega
 ·rw[←h.eq,foldD_Cs]
theorem DI.done(h:DI w [] T G):w=G:=h.eq
def doneD(us:List DU):List DStep:=flushD (foldD ⟨[],[],0⟩ us)
theorem DI.start(h:∀u∈us,UnitOk u)(hs:us.length≤8589934592):DI ⟨[],[],0⟩ us us.length (foldD ⟨[],[],0⟩ us):=
 ⟨goodD0,⟨fun s h=>(by cases h),fun x h=>(by cases h)⟩,h,by simp[exDW,exD],hs,rfl⟩
theorem foldD_ok:∀(us:List DU) (w:DWr),GoodD w→(∀u∈us,UnitOk u)→GoodD (foldD w us)∧DSw (exDW (foldD w us)) (exDW w++us)
 | [],w,h,_=>⟨h,by simp only[foldD,List.append_nil];exact .refl _⟩
 |u::us,w,h,hu=>by
  have h0:=hu u (by simp)
  have hp:GoodD (putU w u)∧DSw (exDW (putU w u)) (exDW w++[u]):=by
   cases u with
   |K c=>
    obtain⟨g1,g2⟩:=h.keep (n:=1) (by decide) h0.1
    exact⟨g1,by simp only[putU];rw[g2];exact .refl _⟩
   |A e=>
    obtain⟨g1,g2⟩:=h.elems (e:=[e]) (fun x hx=>by rw[List.mem_singleton] at hx;subst hx;exact h0.1)
    exact⟨g1,g2⟩
   |C=>
    obtain⟨g1,g2⟩:=h.cuts (n:=1) (by decide)
    exact⟨g1,by simp only[putU];rw[g2];exact .refl _⟩
  obtain⟨q1,q2⟩:=foldD_ok us (putU w u) hp.1 (fun v hv=>hu v (by simp[hv]))
  refine⟨q1,.trans q2 ?_⟩
  have:=hp.2.right us
  simpa using this
theorem doneD_ok(h:∀u∈us,UnitOk u)(h1:oldN us≤2147483647)(h2:newN us≤2147483647):
 DValid (doneD us)∧DSw (exD (doneD us)) us∧oldD (doneD us)=oldN us∧newD (doneD us)=newN us:=by
 obtain⟨q1,q2⟩:=foldD_ok us ⟨[],[],0⟩ goodD0 h
 exact q1.valid (by simpa[exDW,exD] using q2) h1 h2
theorem len_sum(us:List DU):us.length≤oldN us+newN us:=by
 induction us with
 |nil=>simp[oldN]
 |cons u us ih=>cases u<;>simp[oldN,newN]<;>omega
end Go.Ch
end
section
set_option linter.unusedVariables false
set_option linter.unusedSimpArgs false
namespace Go.Ch
open Go Go.Ab
theorem fm_len'(g:Attr→Attr→Option Attr)(a b:List Attr):(fm g a b).length≤a.length+b.length:=by
 unfold fm
 exact Nat.le_trans (List.length_filterMap_le _ _) (bothL_len a b)
variable {w G:DWr} {us:List DU} {T:Nat}
theorem DN.mono{m n:Nat}{l:List DStep}(h:DN m l)(hm:m≤n):DN n l:=fun s hs=>⟨Nat.le_trans (h s hs).1 hm,Nat.le_trans (h s hs).2.1 hm,fun x hx=>Nat.le_trans ((h s hs).2.2 x hx) hm⟩
end Go.Ch
end
section
set_option linter.unusedVariables false
set_option linter.unusedSimpArgs false
namespace Go.Ch
open Go Go.Ab
def boolT(b:Bool):Tree:= .sc (.bool b)
structure Act where
 ins:List (List Elem)
 cut:List Bool
 set:List (List Attr)
variable {w G:DWr} {us:List DU} {T:Nat}
end Go.Ch
end
section

end
section

end
section
set_option linter.unusedVariables false
set_option linter.unusedSimpArgs false
namespace Go.Ch
open Go Go.Ab
def UnitS:DU→Prop
 | .K c=>VG true c∧c.length≤100
 | .A e=>elemE e=0∧e.attrs.length≤100
 | .C=>True
theorem UnitS.ok{u:DU}(h:UnitS u):UnitOk u:=by
 cases u with
 |K c=>exact⟨h.1,by have:=h.2;omega⟩
 |A e=>exact⟨h.1,by have:=h.2;omega⟩
 |C=>trivial
theorem getD_mem'{α:Type}[Inhabited α]{l:List α}{k:Nat}(h:k<l.length):l.getD k default∈l:=by
 rw[show l.getD k default=l[k] by simp[List.getD,List.getElem?_eq_getElem h]]
 exact List.getElem_mem h
theorem dsw_mem{u v:List DU}(h:DSw u v):∀x,x∈u↔x∈v:=by
 induction h with
 |refl u=>exact fun x=>Iff.rfl
 |cons y _ ih=>intro x;simp[ih x]
 |swap e u=>intro x;simp only[List.mem_cons];constructor<;>rintro(h|h|h)<;>simp[h]
 |symm _ ih=>exact fun x=>(ih x).symm
 |trans _ _ a b=>exact fun x=>(a x).trans (b x)
theorem exD_mem{l:List DStep}{s:DStep}(h:s∈l){u:DU}(hu:u∈exS s):u∈exD l:=by
 induction l with
 |nil=>cases h
 |cons t l ih=>
  simp only[exD,List.mem_append]
  rcases List.mem_cons.1 h with rfl|h
  ·exact .inl hu
  ·exact .inr (ih h)
theorem newD_mem:∀{l:List DStep},(∀s∈l,DOk s)→∀s∈l,nS s≤newD l
 | [],_,s,h=>by cases h
 |t::l,h,s,hs=>by
  have h1:=oS_nn (h t (by simp))
  have h2:=sums_nn (l:=l) (fun t ht=>h t (by simp[ht]))
  simp only[newD]
  rcases List.mem_cons.1 hs with rfl|hs
  ·omega
  ·have:=newD_mem (l:=l) (fun t ht=>h t (by simp[ht])) s hs;omega
theorem dn_of{l:List DStep}{us:List DU}(hv:DValid l)(hs:DSw (exD l) us)(hu:∀u∈us,UnitS u):DN 100000000000 l:=by
 intro s hs'
 have ho:=hv.1.all s hs'
 have hn:=newD_mem hv.1.all s hs'
 have v2:=hv.2.2
 have hm:=fun u hu'=>hu u ((dsw_mem hs u).1 (exD_mem hs' (u:=u) hu'))
 unfold exS at hm
 unfold nS szD at hn
 rcases ho with⟨k,n,a,e,q⟩| ⟨k,a,b,n1,n2,v⟩
 ·rw[if_neg (by omega),if_pos k] at hn
  rw[if_pos k] at hm
  refine⟨by omega,by rw[a];simp,fun x hx=> ?_⟩
  have:=(hm (.A x) (List.mem_map.2 ⟨x,hx,rfl⟩)).2
  omega
 ·rw[if_neg (by omega)] at hm
  refine⟨by rw[a];simp,?_,fun x hx=>by rw[a] at hx;cases hx⟩
  by_cases k2:s.kind=2
  ·rw[b k2];simp
  ·rw[if_neg k2] at hm
   have:=(hm (.K s.attrs) (by rw[List.mem_replicate];exact⟨by omega,rfl⟩)).2
   omega
end Go.Ch
end
section
set_option linter.unusedVariables false
set_option linter.unusedSimpArgs false
namespace Go.Ch
open Go Go.Ab
variable {w G:DWr} {us:List DU} {T:Nat}
end Go.Ch
end
section
set_option linter.unusedVariables false
set_option linter.unusedSimpArgs false
namespace Go.Ch
open Go Go.Ab
end Go.Ch
end
section
set_option linter.unusedVariables false
set_option linter.unusedSimpArgs false
namespace Go.Ch
open Go Go.Ab
theorem raw_nil:∀l:List Attr,fm rawG l []=l
 | []=>by simp[fm,bothL]
 |x::l=>by
  have ih:=raw_nil l
  unfold fm at ih⊢
  rw[bothL,fm_cons,ih]
  have:rawG x default=some x:=by unfold rawG;rw[if_pos (show(default:Attr).name=mt from rfl)]
  rw[this];rfl
theorem chgE_nil(x:Elem):chgE [] x=x:=by unfold chgE;rw[raw_nil]
end Go.Ch
namespace Go.Ch
open Go Go.Ab
end Go.Ch
end
section
set_option linter.unusedVariables false
set_option linter.unusedSimpArgs false
set_option maxRecDepth 100000
set_option maxHeartbeats 4000000
open Go Go.Proofs Go.Ab
namespace Go.Ch
end Go.Ch
end
section
set_option linter.unusedVariables false
set_option linter.unusedSimpArgs false
set_option maxRecDepth 100000
set_option maxHeartbeats 4000000
open Go Go.Proofs Go.Ab
namespace Go.Ch
end Go.Ch
end
section
set_option linter.unusedVariables false
set_option linter.unusedSimpArgs false
namespace Go.Ch
open Go Go.Ab
end Go.Ch
end
section
set_option linter.unusedVariables false
set_option linter.unusedSimpArgs false
namespace Go.Ch
open Go Go.Ab
end Go.Ch
end
section
set_option linter.unusedVariables false
set_option linter.unusedSimpArgs false
namespace Go.Ch
open Go Go.Ab
section
variable {w:DWr} {ps qs:List DStep} {pu qu:Int} {T:Nat} {G:DWr}
end
end Go.Ch
end
section
set_option linter.unusedVariables false
set_option linter.unusedSimpArgs false
namespace Go.Ch
open Go Go.Ab
theorem lens_V{l:List DStep}(h:DValid l):(oldN (exD l):Int)=oldD l∧(newN (exD l):Int)=newD l:=lens_D (fun s hs=>okW (h.1.all s hs))
variable {w:DWr} {ps qs:List DStep} {pu qu:Int} {T:Nat} {G:DWr}
end Go.Ch
end
section
set_option linter.unusedVariables false
set_option linter.unusedSimpArgs false
set_option maxRecDepth 100000
set_option maxHeartbeats 4000000
open Go Go.Proofs Go.Ab
namespace Go.Ch
end Go.Ch
end
section
set_option linter.unusedVariables false
set_option linter.unusedSimpArgs false
set_option maxRecDepth 100000
set_option maxHeartbeats 4000000
open Go Go.Proofs Go.Ab
namespace Go.Ch
theorem fc_index(d:Doc)(k:Int)(hn:d.nodes.length≤1048576)(hs:SortN d.nodes):FC Tryz.prog 39 [.t (docT d),VI k] (app emp []) (VI (ixN d.nodes k)) (app emp []):=by
 refine .go Tryz.f39 ?_
 refine .bp [.r [],.r [(2,X (Xc0 (fc_findN d k (by assumption) (by assumption)) X0))],.r []] (hasN (d).nodes k) (fun h2=> ?_) (fun h2=> ?_)
 ·
  have e1:((ixN d.nodes k):Int)=(lobN (d).nodes k:Int):=by
   unfold ixN;rw[if_pos h2]
  exact .finE [.r []] [] (fun z0:Int=>(VI z0,[])) _ _ e1
 ·
  have e2:((ixN d.nodes k):Int)= -1:=by
   unfold ixN;rw[if_neg (by rw[h2];decide)]
  exact .finE [.r []] [] (fun z0:Int=>(VI z0,[])) _ _ e2
theorem fc_sameF0(l:List Elem):FC Tryz.prog 51 [VL 3 elemT l,VN] (app emp []) (VB ((l.length:Int)==0)) (app emp []):=by
 refine .go Tryz.f51 ?_
 refine .len 0 (fun hl0=> ?_)
 refine .bp [.r [],.r [(1,X (Xl elemT l))]] ((l.length:Int) !=0) (fun h1=> ?_) (fun h1=> ?_)
 ·
  have e1:(((l.length:Int)==0):Bool)=false:=by
   rw[beq_eq_false_iff_ne];exact h1
  exact .finE [.r []] [] (fun z0:Bool=>(VB z0,[])) _ _ e1
 ·
  refine .loop (α:=Nat) [.r [(1,X (Xl elemT l))]] 72 (fun i=>([(1,VN),(13,VL 3 elemT l),(14,VI (l.length:Int)),(15,VI (i:Int))],[])) (fun i=>i=0) (fun i=>0) (0:Nat) ?_ ?_
  ·
   rfl
  rintro i I4 ih4
  try dsimp only at I4
  refine .bp [.r []] (decide ((i:Int)< (l.length:Int))) (fun h4=> ?_) (fun h4=> ?_)
  ·
   exfalso
   omega
  ·
   have e2:(((l.length:Int)==0):Bool)=true:=by
    rw[beq_iff_eq];exact h1
   exact .finE [.r []] [] (fun z0:Bool=>(VB z0,[])) _ _ e2
theorem fc_eqO0(l:List DOp):FC Tryz.prog 163 [VL 8 dopT l,VN] (app emp []) (VB ((l.length:Int)==0)) (app emp []):=by
 refine .go Tryz.f163 ?_
 refine .len 0 (fun hl0=> ?_)
 refine .bp [.r [],.r [(1,X (Xl dopT l))]] ((l.length:Int) !=0) (fun h1=> ?_) (fun h1=> ?_)
 ·
  have e1:(((l.length:Int)==0):Bool)=false:=by
   rw[beq_eq_false_iff_ne];exact h1
  exact .finE [.r []] [] (fun z0:Bool=>(VB z0,[])) _ _ e1
 ·
  refine .loop (α:=Nat) [.r [(1,X (Xl dopT l))]] 72 (fun i=>([(0,VL 8 dopT l),(1,VN),(12,VI (l.length:Int)),(13,VI (i:Int))],[])) (fun i=>i=0) (fun i=>0) (0:Nat) ?_ ?_
  ·
   rfl
  rintro i I4 ih4
  try dsimp only at I4
  refine .bp [.r []] (decide ((i:Int)< (l.length:Int))) (fun h4=> ?_) (fun h4=> ?_)
  ·
   exfalso
   omega
  ·
   have e2:(((l.length:Int)==0):Bool)=true:=by
    rw[beq_iff_eq];exact h1
   exact .finE [.r []] [] (fun z0:Bool=>(VB z0,[])) _ _ e2
theorem fc_sameN0(n:Node):FC Tryz.prog 118 [.t (nodeT n),.t (.agg [TI 0,TI 0,TN,TN,TI 0,TI 0,TN,TN,TN])] (app emp []) (VB (zeroNd n)) (app emp []):=by
 refine .go Tryz.f118 ?_
 have e1:((zeroNd n):Bool)=((((((n.id==0)&&(n.kind==0))&&(sameL n.attrs []))&&(((n.flow).length:Int)==0))&&(zeroG n.grid))&&(((n.draw).length:Int)==0)):=by
  rfl
 exact .finE [.r [],.r [(7,Xv 1 (n.id==0) X0),(9,Xv 1 (n.id==0) X0),(10,Xv 2 (n.id==0) X0),(11,X (Xk (n.id==0))),(14,Xv 1 ((n.id==0)&&(n.kind==0)) X0),(16,Xv 1 ((n.id==0)&&(n.kind==0)) X0),(17,Xv 2 ((n.id==0)&&(n.kind==0)) (Xc0 (.nil 1 2 (fc_attrSame n.attrs [])) X0)),(18,X (Xk ((n.id==0)&&(n.kind==0)))),(21,Xv 1 (((n.id==0)&&(n.kind==0))&&(sameL n.attrs [])) X0),(23,Xv 1 (((n.id==0)&&(n.kind==0))&&(sameL n.attrs [])) X0),(24,Xv 2 (((n.id==0)&&(n.kind==0))&&(sameL n.attrs [])) (Xc0 (fc_sameF0 n.flow) X0)),(25,X (Xk (((n.id==0)&&(n.kind==0))&&(sameL n.attrs [])))),(28,Xv 1 ((((n.id==0)&&(n.kind==0))&&(sameL n.attrs []))&&(((n.flow).length:Int)==0)) X0),(30,Xv 1 ((((n.id==0)&&(n.kind==0))&&(sameL n.attrs []))&&(((n.flow).length:Int)==0)) X0),(31,Xv 2 ((((n.id==0)&&(n.kind==0))&&(sameL n.attrs []))&&(((n.flow).length:Int)==0)) (Xc0 (fc_sameG0 n.grid) X0)),(32,X (Xk ((((n.id==0)&&(n.kind==0))&&(sameL n.attrs []))&&(((n.flow).length:Int)==0)))),(35,Xv 1 (((((n.id==0)&&(n.kind==0))&&(sameL n.attrs []))&&(((n.flow).length:Int)==0))&&(zeroG n.grid)) X0),(37,Xv 1 (((((n.id==0)&&(n.kind==0))&&(sameL n.attrs []))&&(((n.flow).length:Int)==0))&&(zeroG n.grid)) X0),(38,Xv 2 (((((n.id==0)&&(n.kind==0))&&(sameL n.attrs []))&&(((n.flow).length:Int)==0))&&(zeroG n.grid)) (Xc0 (fc_eqO0 n.draw) X0)),(39,X (Xk (((((n.id==0)&&(n.kind==0))&&(sameL n.attrs []))&&(((n.flow).length:Int)==0))&&(zeroG n.grid))))]] [] (fun z0:Bool=>(VB z0,[])) _ _ e1
theorem fc_unused(o:EOp)(hl:EopL o):FC Tryz.prog 77 [.t (eopT o)] (app emp []) (VB (unuO o)) (app emp []):=by
 refine .go Tryz.f77 ?_
 obtain⟨l1,l2,l3,l4,l5⟩:=hl
 have e1:((unuO o):Bool)=(((((((o.kind==0)&&(o.node !=0))|| ((o.kind !=0)&& !(zeroNd o.nw)))|| ((o.kind !=1)&&decide ((o.attrs.length:Int)> 0)))|| ((o.kind !=2)&&decide ((o.steps.length:Int)> 0)))|| ((o.kind !=3)&&decide ((((((o.grid.rows.length:Int)+(o.grid.cols.length:Int))+(o.grid.cells.length:Int))+(o.grid.split.length:Int))+(o.grid.merge.length:Int))> 0)))|| ((o.kind !=4)&&decide ((o.draw.length:Int)> 0))):=by
  rfl
 exact .finE [.r [],.r [],.r [(2,X (Xl stepT o.grid.rows)),(5,X (Xl stepT o.grid.cols)),(6,X (Xn ((o.grid.rows.length:Int)+(o.grid.cols.length:Int)))),(9,X (Xl cellT o.grid.cells)),(10,X (Xn (((o.grid.rows.length:Int)+(o.grid.cols.length:Int))+(o.grid.cells.length:Int)))),(13,X (Xl rectT o.grid.split)),(14,X (Xn ((((o.grid.rows.length:Int)+(o.grid.cols.length:Int))+(o.grid.cells.length:Int))+(o.grid.split.length:Int)))),(17,X (Xl rectT o.grid.merge)),(18,X (Xn (((((o.grid.rows.length:Int)+(o.grid.cols.length:Int))+(o.grid.cells.length:Int))+(o.grid.split.length:Int))+(o.grid.merge.length:Int))))],.r [(5,Xv 1 (o.kind==0) X0),(6,Xv 1 (o.kind==0) X0),(7,X (Xk (o.kind==0))),(10,Xv 1 (!((o.kind==0)&&(o.node !=0))) X0),(11,Xv 1 (!((o.kind==0)&&(o.node !=0))) X0),(12,Xv 1 (!((o.kind==0)&&(o.node !=0))) X0),(14,Xv 1 ((!((o.kind==0)&&(o.node !=0)))&&(o.kind !=0)) X0),(16,Xv 2 ((!((o.kind==0)&&(o.node !=0)))&&(o.kind !=0)) (Xc0 (fc_sameN0 o.nw) X0)),(17,Xv 1 ((!((o.kind==0)&&(o.node !=0)))&&(o.kind !=0)) X0),(18,Xka (!((o.kind==0)&&(o.node !=0))) (o.kind !=0)),(19,X (Xk' ((o.kind==0)&&(o.node !=0)))),(22,Xv 1 (!(((o.kind==0)&&(o.node !=0))|| ((o.kind !=0)&& !(zeroNd o.nw)))) X0),(23,Xv 1 (!(((o.kind==0)&&(o.node !=0))|| ((o.kind !=0)&& !(zeroNd o.nw)))) X0),(24,Xv 1 (!(((o.kind==0)&&(o.node !=0))|| ((o.kind !=0)&& !(zeroNd o.nw)))) X0),(26,Xv 1 ((!(((o.kind==0)&&(o.node !=0))|| ((o.kind !=0)&& !(zeroNd o.nw))))&&(o.kind !=1)) X0),(27,Xv 1 ((!(((o.kind==0)&&(o.node !=0))|| ((o.kind !=0)&& !(zeroNd o.nw))))&&(o.kind !=1)) (Xl attrT o.attrs)),(28,Xv 1 ((!(((o.kind==0)&&(o.node !=0))|| ((o.kind !=0)&& !(zeroNd o.nw))))&&(o.kind !=1)) X0),(29,Xka (!(((o.kind==0)&&(o.node !=0))|| ((o.kind !=0)&& !(zeroNd o.nw)))) (o.kind !=1)),(30,X (Xk' (((o.kind==0)&&(o.node !=0))|| ((o.kind !=0)&& !(zeroNd o.nw))))),(33,Xv 1 (!((((o.kind==0)&&(o.node !=0))|| ((o.kind !=0)&& !(zeroNd o.nw)))|| ((o.kind !=1)&&decide ((o.attrs.length:Int)> 0)))) X0),(34,Xv 1 (!((((o.kind==0)&&(o.node !=0))|| ((o.kind !=0)&& !(zeroNd o.nw)))|| ((o.kind !=1)&&decide ((o.attrs.length:Int)> 0)))) X0),(35,Xv 1 (!((((o.kind==0)&&(o.node !=0))|| ((o.kind !=0)&& !(zeroNd o.nw)))|| ((o.kind !=1)&&decide ((o.attrs.length:Int)> 0)))) X0),(37,Xv 1 ((!((((o.kind==0)&&(o.node !=0))|| ((o.kind !=0)&& !(zeroNd o.nw)))|| ((o.kind !=1)&&decide ((o.attrs.length:Int)> 0))))&&(o.kind !=2)) X0),(38,Xv 1 ((!((((o.kind==0)&&(o.node !=0))|| ((o.kind !=0)&& !(zeroNd o.nw)))|| ((o.kind !=1)&&decide ((o.attrs.length:Int)> 0))))&&(o.kind !=2)) (Xl dstepT o.steps)),(39,Xv 1 ((!((((o.kind==0)&&(o.node !=0))|| ((o.kind !=0)&& !(zeroNd o.nw)))|| ((o.kind !=1)&&decide ((o.attrs.length:Int)> 0))))&&(o.kind !=2)) X0),(40,Xka (!((((o.kind==0)&&(o.node !=0))|| ((o.kind !=0)&& !(zeroNd o.nw)))|| ((o.kind !=1)&&decide ((o.attrs.length:Int)> 0)))) (o.kind !=2)),(41,X (Xk' ((((o.kind==0)&&(o.node !=0))|| ((o.kind !=0)&& !(zeroNd o.nw)))|| ((o.kind !=1)&&decide ((o.attrs.length:Int)> 0))))),(44,Xv 1 (!(((((o.kind==0)&&(o.node !=0))|| ((o.kind !=0)&& !(zeroNd o.nw)))|| ((o.kind !=1)&&decide ((o.attrs.length:Int)> 0)))|| ((o.kind !=2)&&decide ((o.steps.length:Int)> 0)))) X0),(45,Xv 1 (!(((((o.kind==0)&&(o.node !=0))|| ((o.kind !=0)&& !(zeroNd o.nw)))|| ((o.kind !=1)&&decide ((o.attrs.length:Int)> 0)))|| ((o.kind !=2)&&decide ((o.steps.length:Int)> 0)))) X0),(46,Xv 1 (!(((((o.kind==0)&&(o.node !=0))|| ((o.kind !=0)&& !(zeroNd o.nw)))|| ((o.kind !=1)&&decide ((o.attrs.length:Int)> 0)))|| ((o.kind !=2)&&decide ((o.steps.length:Int)> 0)))) X0),(48,Xka (!(((((o.kind==0)&&(o.node !=0))|| ((o.kind !=0)&& !(zeroNd o.nw)))|| ((o.kind !=1)&&decide ((o.attrs.length:Int)> 0)))|| ((o.kind !=2)&&decide ((o.steps.length:Int)> 0)))) (o.kind !=3)),(49,X (Xk' (((((o.kind==0)&&(o.node !=0))|| ((o.kind !=0)&& !(zeroNd o.nw)))|| ((o.kind !=1)&&decide ((o.attrs.length:Int)> 0)))|| ((o.kind !=2)&&decide ((o.steps.length:Int)> 0))))),(52,Xv 1 (!((((((o.kind==0)&&(o.node !=0))|| ((o.kind !=0)&& !(zeroNd o.nw)))|| ((o.kind !=1)&&decide ((o.attrs.length:Int)> 0)))|| ((o.kind !=2)&&decide ((o.steps.length:Int)> 0)))|| ((o.kind !=3)&&decide ((((((o.grid.rows.length:Int)+(o.grid.cols.length:Int))+(o.grid.cells.length:Int))+(o.grid.split.length:Int))+(o.grid.merge.length:Int))> 0)))) X0),(53,Xv 1 (!((((((o.kind==0)&&(o.node !=0))|| ((o.kind !=0)&& !(zeroNd o.nw)))|| ((o.kind !=1)&&decide ((o.attrs.length:Int)> 0)))|| ((o.kind !=2)&&decide ((o.steps.length:Int)> 0)))|| ((o.kind !=3)&&decide ((((((o.grid.rows.length:Int)+(o.grid.cols.length:Int))+(o.grid.cells.length:Int))+(o.grid.split.length:Int))+(o.grid.merge.length:Int))> 0)))) X0),(54,Xv 1 (!((((((o.kind==0)&&(o.node !=0))|| ((o.kind !=0)&& !(zeroNd o.nw)))|| ((o.kind !=1)&&decide ((o.attrs.length:Int)> 0)))|| ((o.kind !=2)&&decide ((o.steps.length:Int)> 0)))|| ((o.kind !=3)&&decide ((((((o.grid.rows.length:Int)+(o.grid.cols.length:Int))+(o.grid.cells.length:Int))+(o.grid.split.length:Int))+(o.grid.merge.length:Int))> 0)))) X0),(56,Xv 1 ((!((((((o.kind==0)&&(o.node !=0))|| ((o.kind !=0)&& !(zeroNd o.nw)))|| ((o.kind !=1)&&decide ((o.attrs.length:Int)> 0)))|| ((o.kind !=2)&&decide ((o.steps.length:Int)> 0)))|| ((o.kind !=3)&&decide ((((((o.grid.rows.length:Int)+(o.grid.cols.length:Int))+(o.grid.cells.length:Int))+(o.grid.split.length:Int))+(o.grid.merge.length:Int))> 0))))&&(o.kind !=4)) X0),(57,Xv 1 ((!((((((o.kind==0)&&(o.node !=0))|| ((o.kind !=0)&& !(zeroNd o.nw)))|| ((o.kind !=1)&&decide ((o.attrs.length:Int)> 0)))|| ((o.kind !=2)&&decide ((o.steps.length:Int)> 0)))|| ((o.kind !=3)&&decide ((((((o.grid.rows.length:Int)+(o.grid.cols.length:Int))+(o.grid.cells.length:Int))+(o.grid.split.length:Int))+(o.grid.merge.length:Int))> 0))))&&(o.kind !=4)) (Xl dopT o.draw)),(58,Xv 1 ((!((((((o.kind==0)&&(o.node !=0))|| ((o.kind !=0)&& !(zeroNd o.nw)))|| ((o.kind !=1)&&decide ((o.attrs.length:Int)> 0)))|| ((o.kind !=2)&&decide ((o.steps.length:Int)> 0)))|| ((o.kind !=3)&&decide ((((((o.grid.rows.length:Int)+(o.grid.cols.length:Int))+(o.grid.cells.length:Int))+(o.grid.split.length:Int))+(o.grid.merge.length:Int))> 0))))&&(o.kind !=4)) X0),(59,Xka (!((((((o.kind==0)&&(o.node !=0))|| ((o.kind !=0)&& !(zeroNd o.nw)))|| ((o.kind !=1)&&decide ((o.attrs.length:Int)> 0)))|| ((o.kind !=2)&&decide ((o.steps.length:Int)> 0)))|| ((o.kind !=3)&&decide ((((((o.grid.rows.length:Int)+(o.grid.cols.length:Int))+(o.grid.cells.length:Int))+(o.grid.split.length:Int))+(o.grid.merge.length:Int))> 0)))) (o.kind !=4)),(60,X (Xk' ((((((o.kind==0)&&(o.node !=0))|| ((o.kind !=0)&& !(zeroNd o.nw)))|| ((o.kind !=1)&&decide ((o.attrs.length:Int)> 0)))|| ((o.kind !=2)&&decide ((o.steps.length:Int)> 0)))|| ((o.kind !=3)&&decide ((((((o.grid.rows.length:Int)+(o.grid.cols.length:Int))+(o.grid.cells.length:Int))+(o.grid.split.length:Int))+(o.grid.merge.length:Int))> 0)))))]] [] (fun z0:Bool=>(VB z0,[])) _ _ e1
end Go.Ch
end
section
set_option linter.unusedVariables false
set_option linter.unusedSimpArgs false
set_option maxRecDepth 100000
set_option maxHeartbeats 4000000
open Go Go.Proofs Go.Ab
namespace Go.Ch
theorem fc_checkOp(o:EOp)(ho:OpL o):FC Tryz.prog 36 [.t (eopT o)] (app emp []) (VI (eopE o)) (app emp []):=by
 refine .go Tryz.f36 ?_
 have k1:=ho.len
 have k2:=ho.nl
 have k3:=ho.dn
 have k4:=ho.gl
 refine .bp [.r [],.r [(5,Xv 1 (!(decide (o.kind<0))) X0),(6,Xv 1 (!(decide (o.kind<0))) X0),(7,X (Xk' (decide (o.kind<0))))]] (decide (o.kind<0)||decide (o.kind>4)) (fun h1=> ?_) (fun h1=> ?_)
 ·
  have e1:((eopE o):Int)=8:=by
   unfold eopE;((repeat' split)<;>first|rfl|omega| (simp_all;done)| (simp_all;omega))
  exact .finE [.r []] [] (fun z0:Int=>(VI z0,[])) _ _ e1
 ·
  refine .bp [.r [(1,X (Xc0 (fc_unused o (by assumption)) X0))]] (unuO o) (fun h3=> ?_) (fun h3=> ?_)
  ·
   have e2:((eopE o):Int)=4:=by
    unfold eopE;((repeat' split)<;>first|rfl|omega| (simp_all;done)| (simp_all;omega))
   exact .finE [.r []] [] (fun z0:Int=>(VI z0,[])) _ _ e2
  ·
   refine .bp [.r []] (o.kind==0) (fun h5=> ?_) (fun h5=> ?_)
   ·
    have e3:((eopE o):Int)=(nodeE o.nw):=by
     unfold eopE;((repeat' split)<;>first|rfl|omega| (simp_all;done)| (simp_all;omega))
    exact .finE [.r [(2,X (Xc0 (fc_nodeCk o.nw (by assumption)) X0))]] [] (fun z0:Int=>(VI z0,[])) _ _ e3
   ·
    refine .bp [.r [(5,Xv 1 (!(decide (o.node<1))) X0),(6,Xv 1 (!(decide (o.node<1))) X0),(7,X (Xk' (decide (o.node<1))))]] (decide (o.node<1)||decide (o.node>1073741824)) (fun h7=> ?_) (fun h7=> ?_)
    ·
     have e4:((eopE o):Int)=2:=by
      unfold eopE;((repeat' split)<;>first|rfl|omega| (simp_all;done)| (simp_all;omega))
     exact .finE [.r []] [] (fun z0:Int=>(VI z0,[])) _ _ e4
    ·
     refine .bp [.r []] (o.kind==1) (fun h9=> ?_) (fun h9=> ?_)
     ·
      have e5:((eopE o):Int)=(chkA true o.attrs 0):=by
       unfold eopE;((repeat' split)<;>first|rfl|omega| (simp_all;done)| (simp_all;omega))
      exact .finE [.r [(2,X (Xc0 (fc_acheckChange o.attrs) X0))]] [] (fun z0:Int=>(VI z0,[])) _ _ e5
     ·
      refine .bp [.r []] (o.kind==2) (fun h11=> ?_) (fun h11=> ?_)
      ·
       have e6:((eopE o):Int)=(checkD o.steps):=by
        unfold eopE;((repeat' split)<;>first|rfl|omega| (simp_all;done)| (simp_all;omega))
       exact .finE [.r [(2,X (Xc0 (fc_dCheck o.steps (by assumption)) X0))]] [] (fun z0:Int=>(VI z0,[])) _ _ e6
      ·
       refine .bp [.r []] (o.kind==3) (fun h13=> ?_) (fun h13=> ?_)
       ·
        have e7:((eopE o):Int)=(edE o.grid):=by
         unfold eopE;((repeat' split)<;>first|rfl|omega| (simp_all;done)| (simp_all;omega))
        exact .finE [.r [(2,X (Xc0 (fc_checkEdit o.grid (by assumption)) X0))]] [] (fun z0:Int=>(VI z0,[])) _ _ e7
       ·
        have e8:((eopE o):Int)=(drawE o.draw 0):=by
         unfold eopE;((repeat' split)<;>first|rfl|omega| (simp_all;done)| (simp_all;omega))
        exact .finE [.r [(2,X (Xc0 (fc_dcheck o.draw) X0))]] [] (fun z0:Int=>(VI z0,[])) _ _ e8
theorem fc_eCheck(c:List EOp)(hc:∀o∈c,OpL o):FC Tryz.prog 19 [VL 19 eopT c] (app emp []) (VI (eopsE c 0)) (app emp []):=by
 refine .go Tryz.f19 ?_
 refine .len 0 (fun hl0=> ?_)
 refine .loop (α:=Nat) [.r [],.r [(1,X (Xl eopT c))]] 32 (fun i=>([(6,VL 19 eopT c),(7,VI (c.length:Int)),(8,VI (i:Int))],[])) (fun i=>i≤c.length∧eopsE c 0=eopsE c i) (fun i=>c.length-i) (0:Nat) ?_ ?_
 ·
  exact⟨by omega,rfl⟩
 rintro i I2 ih2
 try dsimp only at I2
 refine .bp [.r []] (decide ((i:Int)< (c.length:Int))) (fun h2=> ?_) (fun h2=> ?_)
 ·
  have ho:=hc _ (getDX_mem (l:=c) (i:=i) (by omega))
  refine .bp [.r [(0,X (Xi eopT c (i:Int)))],.r [(1,X (Xc0 (fc_checkOp ((c.getD i default)) (by assumption)) X0))],.r []] ((eopE ((c.getD i default))) !=0) (fun h5=> ?_) (fun h5=> ?_)
  ·
   have e1:((eopsE c 0):Int)=(eopE ((c.getD i default))):=by
    exact I2.2.trans (eopsE_bad (by omega) h5)
   exact .finE [.r []] [] (fun z0:Int=>(VI z0,[])) _ _ e1
  ·
   refine .back [.r [(0,X (Xn ((i:Int)+1)))]] [] (ih2 ((i+1):Nat) ?_ ?_)
   ·
    exact⟨by omega,I2.2.trans (eopsE_next (by omega) h5)⟩
   ·
    ((try dsimp only);omega)
 ·
  have e2:((eopsE c 0):Int)=0:=by
   exact I2.2.trans (eopsE_end (by omega))
  exact .finE [.r []] [] (fun z0:Int=>(VI z0,[])) _ _ e2
end Go.Ch
end
section
namespace Go.Ch
open Go Go.Ab
structure CpB(o:EOp):Prop where
 op:OpL o
 st:o.steps.length≤4294967294
 dn:DN 1048576 o.steps
 gn:NodeB ⟨0,0,[],[],⟨0,0,o.grid.cells,[]⟩,[]⟩
end Go.Ch
end
section
set_option linter.unusedVariables false
set_option linter.unusedSimpArgs false
set_option maxRecDepth 100000
set_option maxHeartbeats 4000000
open Go Go.Proofs Go.Ab
namespace Go.Ch
theorem fc_copyOp(o:EOp)(hb:CpB o):FC Tryz.prog 61 [.t (eopT o)] (app emp []) (.t (eopT o)) (app emp []):=by
 refine .go Tryz.f61 ?_
 have hN:=hb.op.nb
 have hG:=hb.gn
 have c1:=hb.op.at1
 have c2:=hb.op.dr
 have c3:=hb.st
 have c4:=hb.op.len.a
 have c5:=hb.op.len.b
 have c6:=hb.op.len.d
 have c7:=hb.op.len.e
 refine .loop (α:=Nat×(List DStep)) [.r [],.r [(2,X (Xc1 32 (fc_copyN o.nw (by assumption)) X0))],.r [(2,X (Xan attrT 72 o.attrs))],.r [(2,X (Xan dopT 112 o.draw))],.r [(2,X (Xan dstepT 152 o.steps))],.r []] 208 (fun(i,q)=>([(1,.ptr 0 0),(2,.ptr 8 0),(23,.row 152 q.length),(24,VI (o.steps.length:Int)),(25,VI (i:Int))],[(0,.box [VI o.kind,VI o.node,VI o.nw.id,VI o.nw.kind,VL 2 attrT o.nw.attrs,VL 3 elemT o.nw.flow,VI o.nw.grid.rows,VI o.nw.grid.cols,VL 5 cellT o.nw.grid.cells,VL 4 rectT o.nw.grid.merges,VL 8 dopT o.nw.draw,.row 72 o.attrs.length,.row 152 o.steps.length,VL 2 stepT o.grid.rows,VL 2 stepT o.grid.cols,VL 5 cellT o.grid.cells,VL 4 rectT o.grid.split,VL 4 rectT o.grid.merge,.row 112 o.draw.length]),(8,.box [VI 0,VI 0,VI 0,VI 0,VN,VN,VI 0,VI 0,VN,VN,VN,VN,VN,VN,VN,VN,VN,VN,VN]),(72,OR 2 attrT o.attrs),(112,OR 8 dopT o.draw),(152,OR 4 dstepT q)])) (fun(i,q)=>i≤o.steps.length∧q=o.steps) (fun(i,q)=>o.steps.length-i) (0,o.steps) ?_ ?_
 ·
  exact⟨by omega,rfl⟩
 rintro⟨i,q⟩ I6 ih6
 try dsimp only at I6
 have ql:q.length=o.steps.length:=by rw[I6.2]
 refine .bp [.r []] (decide ((i:Int)< (o.steps.length:Int))) (fun h6=> ?_) (fun h6=> ?_)
 ·
  have hs:=hb.dn (o.steps.getD i default) (getDX_mem (l:=o.steps) (i:=i) (by omega))
  rw[←I6.2] at hs
  have hs1:=hs.1
  have hs2:=hs.2.1
  have hs3:=hs.2.2
  refine .back [.r [(1,X (Xp dstepT q (i:Int))),(2,X (Xe dstepT q i))],.r [(5,X (Xan attrT 304 (((q.getD i default)).attrs))),(6,X (Xpn o.steps.length dstepT q (i:Int))),(8,X (rowC attrT (((q.getD i default)).attrs) (Xsn o.steps.length 4 dstepT 152 q i ((q.getD i default)) [(304,OF 2 attrT (((q.getD i default)).attrs))])))],.r [(5,X (Xc1 376 (fc_copyF (((q.getD i default)).elems) (by assumption) (by assumption)) X0)),(6,X (Xpn o.steps.length dstepT (q.set i ((q.getD i default))) (i:Int))),(8,X (Xsn o.steps.length 4 dstepT 152 (q.set i ((q.getD i default))) i ({kind:=(((q.set i ((q.getD i default))).getD i default)).kind,n:=(((q.set i ((q.getD i default))).getD i default)).n,attrs:=(((q.set i ((q.getD i default))).getD i default)).attrs,elems:=(((q.getD i default)).elems)}:DStep)))],.r [(0,X (Xn ((i:Int)+1)))],.le (.eq 23 (.row 152 q.length) (.row 152 (((q.set i ((q.getD i default))).set i ({kind:=(((q.set i ((q.getD i default))).getD i default)).kind,n:=(((q.set i ((q.getD i default))).getD i default)).n,attrs:=(((q.set i ((q.getD i default))).getD i default)).attrs,elems:=(((q.getD i default)).elems)}:DStep)).length)) (.of_eq (by simp only[List.length_set])))] [(0,0),(8,8),(72,72),(112,112),(152,152)] (ih6 ((i+1),((q.set i ((q.getD i default))).set i ({kind:=(((q.set i ((q.getD i default))).getD i default)).kind,n:=(((q.set i ((q.getD i default))).getD i default)).n,attrs:=(((q.set i ((q.getD i default))).getD i default)).attrs,elems:=(((q.getD i default)).elems)}:DStep))) ?_ ?_)
  ·
   have e1:q.set i (q.getD i default)=q:=set_same rfl
   exact⟨by omega,by simp only[e1];rw[←I6.2]⟩
  ·
   ((try dsimp only);omega)
 ·
  have e1:(o:EOp)=({kind:=o.kind,node:=o.node,nw:=o.nw,attrs:=o.attrs,steps:=q,grid:=({rows:=o.grid.rows,cols:=o.grid.cols,cells:=((({id:=0,kind:=0,attrs:=[],flow:=[],grid:=({rows:=0,cols:=0,cells:=o.grid.cells,merges:=[]}:Grid),draw:=[]}:Node)).grid).cells,split:=o.grid.split,merge:=o.grid.merge}:GEd),draw:=o.draw}:EOp):=by
   rw[I6.2]
  exact .finVE [.r [],.r [(2,X (Xan stepT 264 o.grid.rows)),(5,X (Xan stepT 288 o.grid.cols))],.r [(2,X (Xan rectT 344 o.grid.split)),(5,X (Xan rectT 368 o.grid.merge))],.r [(2,X (Xf [(3,4)])),(3,X (Xf [(2,2),(3,3),(8,8)])),(4,X (Xc1 440 (fc_copyN ({id:=0,kind:=0,attrs:=[],flow:=[],grid:=({rows:=0,cols:=0,cells:=o.grid.cells,merges:=[]}:Grid),draw:=[]}:Node) (by assumption)) X0))],.r [],.r []] [.fR 0 [(o.attrs.length:Nat)=(List.map attrT o.attrs).length,(o.steps.length:Nat)=(List.map dstepT q).length,(o.grid.rows.length:Nat)=(List.map stepT o.grid.rows).length,(o.grid.cols.length:Nat)=(List.map stepT o.grid.cols).length,(o.grid.split.length:Nat)=(List.map rectT o.grid.split).length,(o.grid.merge.length:Nat)=(List.map rectT o.grid.merge).length,(o.draw.length:Nat)=(List.map dopT o.draw).length] ⟨lm,lm,lm,lm,lm,lm,lm,trivial⟩] [] (fun z0:EOp=>(.t (eopT z0),[])) _ _ e1
theorem fc_ecopy(c:List EOp)(hl:c.length≤1048576)(hc:∀o∈c,CpB o):FC Tryz.prog 27 [VL 19 eopT c] (app emp []) (VL 19 eopT c) (app emp []):=by
 refine .go Tryz.f27 ?_
 refine .len 0 (fun hl0=> ?_)
 refine .loop (α:=Nat×(List EOp)) [.r [],.r [(1,X (Xl eopT c)),(2,X (XmzB 19 eopT 24 (c.length:Int) (c.length:Int) ({kind:=0,node:=0,nw:=({id:=0,kind:=0,attrs:=[],flow:=[],grid:=({rows:=0,cols:=0,cells:=[],merges:=[]}:Grid),draw:=[]}:Node),attrs:=[],steps:=[],grid:=({rows:=[],cols:=[],cells:=[],split:=[],merge:=[]}:GEd),draw:=[]}:EOp) [TI 0,TI 0,TI 0,TI 0,TN,TN,TI 0,TI 0,TN,TN,TN,TN,TN,TN,TN,TN,TN,TN,TN] ⟨.inl rfl,⟨.inl rfl,⟨.inl rfl,⟨.inl rfl,⟨tw_nil (by decide),⟨tw_nil (by decide),⟨.inl rfl,⟨.inl rfl,⟨tw_nil (by decide),⟨tw_nil (by decide),⟨tw_nil (by decide),⟨tw_nil (by decide),⟨tw_nil (by decide),⟨tw_nil (by decide),⟨tw_nil (by decide),⟨tw_nil (by decide),⟨tw_nil (by decide),⟨tw_nil (by decide),⟨tw_nil (by decide),trivial⟩⟩⟩⟩⟩⟩⟩⟩⟩⟩⟩⟩⟩⟩⟩⟩⟩⟩⟩))],.r [(1,X (Xl eopT c))]] 64 (fun(i,q)=>([(3,.row 24 c.length),(9,VL 19 eopT c),(10,VI (c.length:Int)),(11,VI (i:Int))],[(24,OR 19 eopT q)])) (fun(i,q)=>i≤c.length∧q=c.take i++List.replicate (c.length-i) ({kind:=0,node:=0,nw:=({id:=0,kind:=0,attrs:=[],flow:=[],grid:=({rows:=0,cols:=0,cells:=[],merges:=[]}:Grid),draw:=[]}:Node),attrs:=[],steps:=[],grid:=({rows:=[],cols:=[],cells:=[],split:=[],merge:=[]}:GEd),draw:=[]}:EOp)) (fun(i,q)=>c.length-i) (0,(List.replicate c.length ({kind:=0,node:=0,nw:=({id:=0,kind:=0,attrs:=[],flow:=[],grid:=({rows:=0,cols:=0,cells:=[],merges:=[]}:Grid),draw:=[]}:Node),attrs:=[],steps:=[],grid:=({rows:=[],cols:=[],cells:=[],split:=[],merge:=[]}:GEd),draw:=[]}:EOp))) ?_ ?_
 ·
  exact⟨by omega,by simp⟩
 rintro⟨i,q⟩ I3 ih3
 try dsimp only at I3
 have ql:q.length=c.length:=by rw[I3.2];simp;omega
 refine .bp [.r []] (decide ((i:Int)< (c.length:Int))) (fun h3=> ?_) (fun h3=> ?_)
 ·
  have ho:=hc (c.getD i default) (getDX_mem (by omega))
  refine .back [.r [(1,X (Xi eopT c (i:Int)))],.r [(3,X (Xc1 144 (fc_copyOp ((c.getD i default)) (by assumption)) X0)),(4,X (Xpn c.length eopT q (i:Int))),(5,X (Xsn c.length 19 eopT 24 q i (((c.getD i default)))))],.r [(0,X (Xn ((i:Int)+1)))]] [(24,24)] (ih3 ((i+1),(q.set i (((c.getD i default))))) ?_ ?_)
  ·
   refine⟨by omega,?_⟩
   rw[I3.2]
   exact set_fill rfl (by omega) rfl
  ·
   ((try dsimp only);omega)
 ·
  have e1:(c:List EOp)=q:=by
   first|omega| (rw[I3.2,List.take_of_length_le (by omega),show c.length-i=0 by omega];simp)
  exact .finE [.r [],.le (.fr 2 [(c.length:Nat)=(List.map eopT q).length] ⟨lm,trivial⟩)] [] (fun z0:List EOp=>(VL 19 eopT z0,[])) _ _ e1
end Go.Ch
end
section
set_option linter.unusedVariables false
set_option linter.unusedSimpArgs false
namespace Go.Ch
open Go Go.Ab
section
variable {wx wy:DWr} {ps qs:List DStep} {pu qu:Int} {T U:Nat} {G H:DWr}
end
end Go.Ch
end
section
set_option linter.unusedVariables false
set_option linter.unusedSimpArgs false
namespace Go.Ch
open Go Go.Ab
def lenE(s:DStep):Int:=if(s.kind=1∧s.elems.length=0∧stepD s=11)∨(s.kind≠1∧s.n=0∧stepD s=2) then chkA true s.attrs 0 else stepD s
def tdW(w:DWr)(s:DStep):DWr:=
 if s.kind=0 then(if s.n=0 then w else⟨keepD (flushD w) s.n s.attrs,[],0⟩) else if s.kind=1 then⟨w.out,w.add++s.elems,w.cut⟩ else⟨w.out,w.add,w.cut+s.n⟩
def tdBad(w:DWr)(s:DStep):Prop:=s.kind≠0∧s.kind≠1∧2147483647<w.cut+s.n
instance (w:DWr) (s:DStep):Decidable (tdBad w s):=by unfold tdBad;infer_instance
def tidyG(w:DWr):List DStep→List DStep×Int
 | []=>if checkD (flushD w)=0 then(flushD w,0) else([],3)
 |s::l=>if lenE s≠0 then([],lenE s) else if tdBad w s then([],3) else tidyG (tdW w s) l
def tidyL(d:List DStep):List DStep:=(tidyG ⟨[],[],0⟩ d).1
def tidyE(d:List DStep):Int:=(tidyG ⟨[],[],0⟩ d).2
theorem lenE_ok{s:DStep}(h:lenE s=0):(s.kind=0∨s.kind=1∨s.kind=2)∧0≤s.n∧s.n≤2147483647:=by
 unfold lenE at h
 split at h
 ·rename_i hc
  rcases hc with⟨k,e,q⟩| ⟨k,n0,q⟩
  ·unfold stepD at q
   rw[if_pos k] at q
   split at q
   ·cases q
   ·rename_i hh;exact⟨.inr (.inl k),by omega,by omega⟩
  ·unfold stepD at q
   rw[if_neg k] at q
   split at q
   ·rename_i hk;exact⟨by omega,by omega,by omega⟩
   ·cases q
 ·obtain⟨a,b,c,_⟩:=stepD_sz h;exact⟨a,b,c⟩
theorem keep_all{P:List Attr→Prop}{R:Elem→Prop}{l:List DStep}{n:Int}{c:List Attr}(h:∀s∈l,P s.attrs∧∀x∈s.elems,R x)(hc:P c):∀s∈keepD l n c,P s.attrs∧∀x∈s.elems,R x:=by
 unfold keepD
 split
 ·rename_i hl
  intro s hs
  rcases List.mem_or_eq_of_mem_set hs with hs|rfl
  ·exact h s hs
  ·exact h (l.getD (l.length- 1) default) (getD_mem' (by omega))
 ·intro s hs
  rcases List.mem_append.1 hs with hs|hs
  ·exact h s hs
  ·rw[List.mem_singleton] at hs;subst hs;exact⟨hc,fun x hx=>by cases hx⟩
theorem flush_all{P:List Attr→Prop}{R:Elem→Prop}{w:DWr}(h0:P [])(h:∀s∈w.out,P s.attrs∧∀x∈s.elems,R x)(ha:∀x∈w.add,R x):∀s∈flushD w,P s.attrs∧∀x∈s.elems,R x:=by
 unfold flushD
 intro s hs
 rcases List.mem_append.1 hs with hs|hs
 ·rcases List.mem_append.1 hs with hs|hs
  ·exact h s hs
  ·split at hs
   ·rw[List.mem_singleton] at hs;subst hs;exact⟨h0,ha⟩
   ·cases hs
 ·split at hs
  ·rw[List.mem_singleton] at hs;subst hs;exact⟨h0,fun x hx=>by cases hx⟩
  ·cases hs
theorem tdW_all{P:List Attr→Prop}{R:Elem→Prop}{w:DWr}{s:DStep}(h0:P [])(h:∀s∈w.out,P s.attrs∧∀x∈s.elems,R x)(ha:∀x∈w.add,R x)(hs:P s.attrs∧∀x∈s.elems,R x):
 (∀t∈(tdW w s).out,P t.attrs∧∀x∈t.elems,R x)∧∀x∈(tdW w s).add,R x:=by
 unfold tdW
 split
 ·split
  ·exact⟨h,ha⟩
  ·exact⟨keep_all (flush_all h0 h ha) hs.1,fun x hx=>by cases hx⟩
 ·split
  ·exact⟨h,fun x hx=>by rcases List.mem_append.1 hx with hx|hx;exact ha x hx;exact hs.2 x hx⟩
  ·exact⟨h,ha⟩
theorem lenE_step{s:DStep}(h:stepD s=0):lenE s=0:=by
 unfold lenE
 rw[if_neg]
 ·exact h
 ·rintro(⟨_,_,q⟩| ⟨_,_,q⟩)<;>rw[h] at q<;>cases q
end Go.Ch
end
section
set_option linter.unusedVariables false
set_option linter.unusedSimpArgs false
namespace Go.Ch
open Go Go.Ab
def elS:List DStep→Nat
 | []=>0
 |s::l=>s.elems.length+elS l
theorem elS_app(p q:List DStep):elS (p++q)=elS p+elS q:=by
 induction p with
 |nil=>simp[elS]
 |cons s p ih=>simp only[List.cons_append,elS,ih];omega
theorem elS_take{d:List DStep}{i:Nat}(h:i<d.length):elS (d.take (i+1))=elS (d.take i)+(d.getD i default).elems.length∧elS (d.take (i+1))≤elS d:=by
 constructor
 ·rw[List.take_succ_eq_append_getElem h,elS_app,show d.getD i default=d[i] by simp[List.getD,List.getElem?_eq_getElem h]];simp[elS]
 ·conv=>rhs;rw[←List.take_append_drop (i+1) d,elS_app]
  omega
structure TB(d:List DStep)(i:Nat)(w:DWr):Prop where
 out:w.out.length≤3*i
 add:w.add.length≤elS (d.take i)
 cut:0≤w.cut∧w.cut≤2147483647
 n:∀s∈w.out,0≤s.n∧s.n≤2147483647*((i:Int)+1)
 dn:∀s∈w.out,s.attrs.length≤100000000000∧∀x∈s.elems,x.attrs.length≤100000000000
 an:∀x∈w.add,x.attrs.length≤100000000000
 el:∀s∈w.out,s.elems.length≤elS (d.take i)
theorem TB.start(d:List DStep):TB d 0 ⟨[],[],0⟩:=⟨by simp,by simp,⟨by simp,by simp⟩,fun s h=>absurd h List.not_mem_nil,fun s h=>absurd h List.not_mem_nil,fun s h=>absurd h List.not_mem_nil,fun s h=>absurd h List.not_mem_nil⟩
theorem flush_n{w:DWr}{B:Int}(hB:2147483647≤B)(hc:0≤w.cut∧w.cut≤2147483647)(h:∀s∈w.out,0≤s.n∧s.n≤B):∀s∈flushD w,0≤s.n∧s.n≤B:=by
 unfold flushD
 intro s hs
 rcases List.mem_append.1 hs with hs|hs
 ·rcases List.mem_append.1 hs with hs|hs
  ·exact h s hs
  ·split at hs
   ·rw[List.mem_singleton] at hs;subst hs;simp only;omega
   ·cases hs
 ·split at hs
  ·rw[List.mem_singleton] at hs;subst hs;simp only;omega
  ·cases hs
theorem flush_el{w:DWr}{B:Nat}(ha:w.add.length≤B)(h:∀s∈w.out,s.elems.length≤B):∀s∈flushD w,s.elems.length≤B:=by
 unfold flushD
 intro s hs
 rcases List.mem_append.1 hs with hs|hs
 ·rcases List.mem_append.1 hs with hs|hs
  ·exact h s hs
  ·split at hs
   ·rw[List.mem_singleton] at hs;subst hs;exact ha
   ·cases hs
 ·split at hs
  ·rw[List.mem_singleton] at hs;subst hs;simp
  ·cases hs
theorem keep_n{l:List DStep}{B B' n:Int}{c:List Attr}(h:∀s∈l,0≤s.n∧s.n≤B)(h1:0≤n)(h2:B+n≤B')(h3:0≤B):∀s∈keepD l n c,0≤s.n∧s.n≤B':=by
 unfold keepD
 split
 ·intro s hs
  rcases List.mem_or_eq_of_mem_set hs with hs|rfl
  ·have:=h s hs;omega
  ·have:=h (l.getD (l.length- 1) default) (getD_mem' (by omega))
   simp only;omega
 ·intro s hs
  rcases List.mem_append.1 hs with hs|hs
  ·have:=h s hs;omega
  ·rw[List.mem_singleton] at hs;subst hs;simp only;omega
theorem keep_el{l:List DStep}{B:Nat}{n:Int}{c:List Attr}(h:∀s∈l,s.elems.length≤B):∀s∈keepD l n c,s.elems.length≤B:=by
 unfold keepD
 split
 ·intro s hs
  rcases List.mem_or_eq_of_mem_set hs with hs|rfl
  ·exact h s hs
  ·exact h (l.getD (l.length- 1) default) (getD_mem' (by omega))
 ·intro s hs
  rcases List.mem_append.1 hs with hs|hs
  ·exact h s hs
  ·rw[List.mem_singleton] at hs;subst hs;simp
theorem TB.flush{d:List DStep}{i:Nat}{w:DWr}(h:TB d i w)(hi:i≤100000000)(he:elS d≤100000000000)(hd:elS (d.take i)≤elS d):
 (∀s∈flushD w,0≤s.n∧s.n≤1000000000000000000)∧DN 400000000000 (flushD w):=by
 refine⟨flush_n (by decide) h.cut (fun s hs=>by have:=h.n s hs;omega),fun s hs=> ?_⟩
 have h1:=flush_all (P:=fun l=>l.length≤100000000000) (R:=fun x=>x.attrs.length≤100000000000) (by simp) h.dn h.an s hs
 have h2:=flush_el h.add h.el s hs
 exact⟨by omega,by have:=h1.1;omega,fun x hx=>by have:=h1.2 x hx;omega⟩
theorem TB.next{d:List DStep}{i:Nat}{w:DWr}(h:TB d i w)(hi:i<d.length)(hd:DN 100000000000 d)(hl:lenE (d.getD i default)=0)(hb:¬tdBad w (d.getD i default)):TB d (i+1) (tdW w (d.getD i default)):=by
 obtain⟨k,n0,n1⟩:=lenE_ok hl
 obtain⟨e1,_⟩:=elS_take hi
 obtain⟨b1,b2,b3⟩:=hd _ (getD_mem' hi)
 generalize d.getD i default=s at*
 have ha:=tdW_all (P:=fun l=>l.length≤100000000000) (R:=fun x=>x.attrs.length≤100000000000) (w:=w) (s:=s) (by simp) h.dn h.an ⟨b2,b3⟩
 have hn:=h.n
 have hc:=h.cut
 have ho:=h.out
 have hadd:=h.add
 refine⟨?_,?_,?_,?_,ha.1,ha.2,?_⟩
 ·unfold tdW
  split
  ·split
   ·omega
   ·have:=keepD_len (flushD w) s.n s.attrs
    have:=flushD_len w
    simp only;omega
  ·split<;>simp only<;>omega
 ·unfold tdW
  split
  ·split
   ·omega
   ·simp
  ·split
   ·simp only[List.length_append];omega
   ·simp only;omega
 ·unfold tdW
  split
  ·split
   ·exact hc
   ·exact⟨Int.le_refl 0,(by decide:(0:Int)≤2147483647)⟩
  ·split
   ·exact hc
   ·rename_i k0 k1
    unfold tdBad at hb
    simp only
    omega
 ·have up:∀t∈w.out,0≤t.n∧t.n≤2147483647*(((i+1:Nat):Int)+1):=fun t ht=>by have:=hn t ht;omega
  unfold tdW
  split
  ·split
   ·exact up
   ·exact keep_n (flush_n (by omega) hc hn) (B':=2147483647*(((i+1:Nat):Int)+1)) (by omega) (by omega) (by omega)
  ·split
   ·exact up
   ·exact up
 ·have up:∀t∈w.out,t.elems.length≤elS (d.take (i+1)):=fun t ht=>by have:=h.el t ht;omega
  unfold tdW
  split
  ·split
   ·exact up
   ·exact keep_el (flush_el (by omega) up)
  ·split
   ·exact up
   ·exact up
end Go.Ch
namespace Go.Ch
open Go Go.Ab
theorem tidyG_at{d:List DStep}{i:Nat}(h:i<d.length)(w:DWr):tidyG w (d.drop i)=if lenE (d.getD i default)≠0 then([],lenE (d.getD i default)) else if tdBad w (d.getD i default) then([],3) else tidyG (tdW w (d.getD i default)) (d.drop (i+1)):=by
 rw[dropD h,tidyG]
theorem tidyG_end{d:List DStep}{i:Nat}(h:d.length≤i)(w:DWr):tidyG w (d.drop i)=if checkD (flushD w)=0 then(flushD w,0) else([],3):=by
 rw[List.drop_eq_nil_of_le h,tidyG]
end Go.Ch
end
section
set_option linter.unusedVariables false
set_option linter.unusedSimpArgs false
namespace Go.Ch
open Go Go.Ab
theorem elS_le:∀{l:List DStep},(∀s∈l,s.elems.length≤1)→elS l≤l.length
 | [],_=>Nat.le_refl _
 |s::l,h=>by
  have h1:=h s (by simp)
  have h2:=elS_le (l:=l) (fun t ht=>h t (by simp[ht]))
  simp only[elS,List.length_cons];omega
end Go.Ch
end
section
set_option linter.unusedVariables false
set_option linter.unusedSimpArgs false
namespace Go.Ch
open Go Go.Ab
def stepU:DU→DStep
 | .K c=>⟨0,1,c,[]⟩
 | .A e=>⟨1,0,[],[e]⟩
 | .C=>⟨2,1,[],[]⟩
theorem stepU_ok{u:DU}(h:UnitOk u):DOk (stepU u):=by
 cases u with
 |K c=>exact .inr ⟨.inl rfl,rfl,fun h=>absurd (show(0:Int)=2 from h) (by decide),Int.le_refl 1,(by decide:(1:Int)≤2147483647),h.1⟩
 |A e=>exact .inl ⟨rfl,rfl,rfl,by simp[stepU],fun x hx=>by rw[show x=e by simpa[stepU] using hx];exact h.1⟩
 |C=>exact .inr ⟨.inr rfl,rfl,fun _=>rfl,Int.le_refl 1,(by decide:(1:Int)≤2147483647),vg_nil⟩
theorem tdW_U(w:DWr)(u:DU):tdW w (stepU u)=putU w u:=by
 cases u<;>simp[tdW,stepU,putU]
theorem putU_cut{w:DWr}(h:0≤w.cut)(u:DU):0≤(putU w u).cut∧(putU w u).cut≤w.cut+1:=by
 cases u<;>simp only[putU]<;>omega
theorem tidyG_U:∀(us:List DU) (w:DWr),(∀u∈us,UnitOk u)→0≤w.cut→w.cut+us.length≤2147483647→tidyG w (us.map stepU)=if checkD (flushD (foldD w us))=0 then(flushD (foldD w us),0) else([],3)
 | [],w,_,_,_=>by rw[List.map_nil,tidyG,foldD]
 |u::us,w,hu,h0,hl=>by
  simp only[List.length_cons] at hl
  have hc:=putU_cut h0 u
  rw[List.map_cons,tidyG,if_neg (by rw[lenE_step (step_iff.2 (stepU_ok (hu u (by simp))))];decide),if_neg,tdW_U,tidyG_U us _ (fun v hv=>hu v (by simp[hv])) hc.1 (by omega),foldD]
  rintro⟨k0,k1,hb⟩
  have hn:(stepU u).n≤1:=by cases u<;>simp[stepU]
  omega
theorem tidy_units{us:List DU}(hu:∀u∈us,UnitOk u)(hl:us.length≤2147483647):tidyL (us.map stepU)=doneD us∧tidyE (us.map stepU)=0:=by
 have h1:oldN us≤us.length∧newN us≤us.length:=by
  clear hu hl
  induction us with
  |nil=>exact⟨Nat.le_refl _,Nat.le_refl _⟩
  |cons u us ih=>cases u<;>simp only[oldN,newN,List.length_cons]<;>omega
 have hd:=doneD_ok hu (by omega) (by omega)
 have:=tidyG_U us ⟨[],[],0⟩ hu (Int.le_refl _) (by simp only;omega)
 rw[if_pos (show checkD (flushD (foldD ⟨[],[],0⟩ us))=0 from checkD_iff.2 hd.1)] at this
 unfold tidyL tidyE
 rw[this]
 exact⟨rfl,rfl⟩
end Go.Ch
end
section
set_option linter.unusedVariables false
namespace Go.Ch
open Go Go.Ab
structure SetE where
 en:Int
 ch:List Attr
instance:Inhabited SetE:=⟨⟨0,[]⟩⟩
structure Itm where
 el:Elem
 ad:Int
 cu:List Int
 se:List SetE
 nw:Bool
instance:Inhabited Itm:=⟨⟨default,0,[],[],false⟩⟩
def nowF(I:List Itm):List Elem:=(I.filter Itm.nw).map Itm.el
theorem nowF_app(a b:List Itm):nowF (a++b)=nowF a++nowF b:=by unfold nowF;rw[List.filter_append,List.map_append]
theorem nowF_nil:nowF []=[]:=rfl
theorem nowF_t{x:Itm}{l:List Itm}(h:x.nw=true):nowF (x::l)=x.el::nowF l:=by unfold nowF;rw[List.filter_cons,if_pos h];rfl
theorem nowF_f{x:Itm}{l:List Itm}(h:x.nw=false):nowF (x::l)=nowF l:=by unfold nowF;rw[List.filter_cons,if_neg (by rw[h];decide)]
def nxN:List Itm→Nat
 | []=>0
 |x::l=>if x.nw=true then 1 else nxN l+1
def nwI(e:Int)(x:Elem):Itm:=⟨x,e,[],[],true⟩
def ctI(e:Int)(x:Itm):Itm:=⟨x.el,x.ad,x.cu++[e],x.se,false⟩
def stU(e:Int)(s:List Itm×List Itm):DU→List Itm×List Itm
 | .A x=>(s.1++[nwI e x],s.2)
 | .K _=>(s.1++s.2.take (nxN s.2),s.2.drop (nxN s.2))
 | .C=>(s.1++(s.2.take (nxN s.2- 1)++[ctI e (s.2.getD (nxN s.2- 1) default)]),s.2.drop (nxN s.2))
def plU(e:Int)(us:List DU)(s:List Itm×List Itm):List Itm×List Itm:=us.foldl (stU e) s
theorem plU_app(e:Int)(a b:List DU)(s:List Itm×List Itm):plU e (a++b) s=plU e b (plU e a s):=List.foldl_append
def plI(e:Int)(us:List DU)(I:List Itm):List Itm:=(plU e us ([],I)).1++(plU e us ([],I)).2
theorem nx_split:∀{r:List Itm},nowF r≠[]→∃p x q,r=p++x::q∧nowF p=[]∧x.nw=true∧nxN r=p.length+1
 | [],h=>absurd rfl h
 |x::l,h=>by
  by_cases hx:x.nw=true
  ·exact⟨[],x,l,rfl,rfl,hx,by rw[nxN,if_pos hx];rfl⟩
  ·have hf:x.nw=false:=by simpa using hx
   rw[nowF_f hf] at h
   obtain⟨p,y,q,h1,h2,h3,h4⟩:=nx_split h
   refine⟨x::p,y,q,by rw[h1];rfl,by rw[nowF_f hf];exact h2,h3,by rw[nxN,if_neg hx,h4];rfl⟩
theorem nx_len{r:List Itm}(h:nowF r≠[]):0<nxN r∧nxN r≤r.length∧(r.getD (nxN r- 1) default).nw=true:=by
 obtain⟨p,x,q,rfl,h1,h2,h3⟩:=nx_split h
 rw[h3]
 refine⟨by omega,by simp,?_⟩
 rw[Nat.add_sub_cancel,List.getD_eq_getElem?_getD,List.getElem?_append_right (Nat.le_refl _)]
 simpa using h2
theorem nx_before{r:List Itm}{j:Nat}(h:nowF r≠[])(hj:j+1<nxN r):(r.getD j default).nw=false:=by
 obtain⟨p,x,q,rfl,h1,h2,h3⟩:=nx_split h
 rw[h3] at hj
 rw[List.getD_eq_getElem?_getD,List.getElem?_append_left (by omega),List.getElem?_eq_getElem (by omega)]
 show p[j].nw=false
 cases hh:p[j].nw with
 |false=>rfl
 |true=>
  have:p[j]∈p.filter Itm.nw:=List.mem_filter.2 ⟨List.getElem_mem _,hh⟩
  unfold nowF at h1
  rw[List.map_eq_nil_iff.1 h1] at this;cases this
theorem nx_at{p q:List Itm}{x:Itm}(hp:nowF p=[])(hx:x.nw=true):nxN (p++x::q)=p.length+1:=by
 induction p with
 |nil=>rw[List.nil_append,nxN,if_pos hx];rfl
 |cons y p ih=>
  have hy:y.nw=false:=by
   cases hh:y.nw
   ·rfl
   ·rw[nowF_t hh] at hp;cases hp
  rw[nowF_f hy] at hp
  rw[List.cons_append,nxN,if_neg (by rw[hy];decide),ih hp];rfl
theorem st_K{e:Int}{o p q:List Itm}{x:Itm}{c:List Attr}(hp:nowF p=[])(hx:x.nw=true):stU e (o,p++x::q) (.K c)=(o++(p++[x]),q):=by
 have h:=nx_at (q:=q) hp hx
 have e1:(p++x::q).take (p.length+1)=p++[x]:=by rw[show p++x::q=(p++[x])++q by simp,List.take_left' (by simp)]
 have e2:(p++x::q).drop (p.length+1)=q:=by rw[show p++x::q=(p++[x])++q by simp,List.drop_left' (by simp)]
 simp only[stU,h,e1,e2]
theorem st_C{e:Int}{o p q:List Itm}{x:Itm}(hp:nowF p=[])(hx:x.nw=true):stU e (o,p++x::q) .C=(o++(p++[ctI e x]),q):=by
 have h:=nx_at (q:=q) hp hx
 have e1:(p++x::q).take p.length=p:=by simp
 have e2:(p++x::q).drop (p.length+1)=q:=by rw[show p++x::q=(p++[x])++q by simp,List.drop_left' (by simp)]
 have e3:(p++x::q).getD p.length default=x:=by simp[List.getD_eq_getElem?_getD]
 simp only[stU,h,Nat.add_sub_cancel,e1,e2,e3]
theorem cut_nw(e:Int)(x:Itm):(ctI e x).nw=false:=rfl
def BareU:List DU→Prop
 | []=>True
 | .K c::u=>c=[]∧BareU u
 |_::u=>BareU u
theorem pl_now{e:Int}:∀{us:List DU} {o r:List Itm},BareU us→oldN us=(nowF r).length→nowF (plU e us (o,r)).1=nowF o++applyU us (nowF r)∧nowF (plU e us (o,r)).2=[]
 | [],o,r,_,h=>by
  have:nowF r=[]:=List.eq_nil_of_length_eq_zero h.symm
  exact⟨by rw[this];exact(List.append_nil _).symm,this⟩
 | .A x::us,o,r,hb,h=>by
  obtain⟨h1,h2⟩:=pl_now (e:=e) (us:=us) (o:=o++[nwI e x]) (r:=r) hb h
  refine⟨?_,h2⟩
  show nowF (plU e us (o++[nwI e x],r)).1=_
  rw[h1,nowF_app,show nowF [nwI e x]=[x] from rfl,List.append_assoc];rfl
 | .K c::us,o,r,hb,h=>by
  have hne:nowF r≠[]:=fun q=>by rw[q] at h;simp[oldN] at h
  obtain⟨p,x,q,rfl,hp,hx,-⟩:=nx_split hne
  have hn:nowF (p++x::q)=x.el::nowF q:=by rw[nowF_app,hp,nowF_t hx];rfl
  rw[hn] at h⊢
  have hs:plU e (.K c::us) (o,p++x::q)=plU e us (o++(p++[x]),q):=by show plU e us (stU e _ _)=_;rw[st_K hp hx]
  rw[hs]
  obtain⟨h1,h2⟩:=pl_now (e:=e) (us:=us) (o:=o++(p++[x])) (r:=q) hb.2 (by simpa[oldN] using h)
  refine⟨?_,h2⟩
  rw[h1,nowF_app,nowF_app,hp,nowF_t hx,hb.1,applyU,chgE_nil]
  simp[nowF_nil]
 | .C::us,o,r,hb,h=>by
  have hne:nowF r≠[]:=fun q=>by rw[q] at h;simp[oldN] at h
  obtain⟨p,x,q,rfl,hp,hx,-⟩:=nx_split hne
  have hn:nowF (p++x::q)=x.el::nowF q:=by rw[nowF_app,hp,nowF_t hx];rfl
  rw[hn] at h⊢
  have hs:plU e (.C::us) (o,p++x::q)=plU e us (o++(p++[ctI e x]),q):=by show plU e us (stU e _ _)=_;rw[st_C hp hx]
  rw[hs]
  obtain⟨h1,h2⟩:=pl_now (e:=e) (us:=us) (o:=o++(p++[ctI e x])) (r:=q) hb (by simpa[oldN] using h)
  refine⟨?_,h2⟩
  rw[h1,nowF_app,nowF_app,hp,nowF_f (cut_nw e x),applyU]
  simp[nowF_nil]
theorem pl_nowI{e:Int}{us:List DU}{I:List Itm}(hb:BareU us)(h:oldN us=(nowF I).length):nowF (plI e us I)=applyU us (nowF I):=by
 obtain⟨h1,h2⟩:=pl_now (e:=e) (o:=[]) hb h
 unfold plI
 rw[nowF_app,h1,h2];simp[nowF_nil]
theorem pl_all{e:Int}{P:Itm→Prop}(hc:∀x,P x→x.nw=true→P (ctI e x)):∀{us:List DU} {o r:List Itm},oldN us=(nowF r).length→(∀x,DU.A x∈us→P (nwI e x))→(∀x∈o,P x)→(∀x∈r,P x)→(∀x∈(plU e us (o,r)).1,P x)∧∀x∈(plU e us (o,r)).2,P x
 | [],o,r,_,_,ho,hr=>⟨ho,hr⟩
 | .A x::us,o,r,h,hn,ho,hr=>pl_all hc (us:=us) (o:=o++[nwI e x]) h (fun y hy=>hn y (List.mem_cons_of_mem _ hy)) (fun y hy=>by
  rcases List.mem_append.1 hy with q|q
  ·exact ho y q
  ·rw[List.mem_singleton] at q;subst q;exact hn x List.mem_cons_self) hr
 | .K c::us,o,r,h,hn,ho,hr=>by
  have hne:nowF r≠[]:=fun q=>by rw[q] at h;simp[oldN] at h
  obtain⟨p,x,q,rfl,hp,hx,-⟩:=nx_split hne
  have hl:nowF (p++x::q)=x.el::nowF q:=by rw[nowF_app,hp,nowF_t hx];rfl
  rw[hl] at h
  have hs:plU e (.K c::us) (o,p++x::q)=plU e us (o++(p++[x]),q):=by show plU e us (stU e _ _)=_;rw[st_K hp hx]
  rw[hs]
  refine pl_all hc (by simpa[oldN] using h) (fun y hy=>hn y (List.mem_cons_of_mem _ hy)) (fun y hy=> ?_) (fun y hy=>hr y (by simp[hy]))
  rcases List.mem_append.1 hy with q1|q1
  ·exact ho y q1
  ·refine hr y ?_
   rcases List.mem_append.1 q1 with q2|q2
   ·simp[q2]
   ·rw[List.mem_singleton] at q2;simp[q2]
 | .C::us,o,r,h,hn,ho,hr=>by
  have hne:nowF r≠[]:=fun q=>by rw[q] at h;simp[oldN] at h
  obtain⟨p,x,q,rfl,hp,hx,-⟩:=nx_split hne
  have hl:nowF (p++x::q)=x.el::nowF q:=by rw[nowF_app,hp,nowF_t hx];rfl
  rw[hl] at h
  have hs:plU e (.C::us) (o,p++x::q)=plU e us (o++(p++[ctI e x]),q):=by show plU e us (stU e _ _)=_;rw[st_C hp hx]
  rw[hs]
  refine pl_all hc (by simpa[oldN] using h) (fun y hy=>hn y (List.mem_cons_of_mem _ hy)) (fun y hy=> ?_) (fun y hy=>hr y (by simp[hy]))
  rcases List.mem_append.1 hy with q1|q1
  ·exact ho y q1
  ·rcases List.mem_append.1 q1 with q2|q2
   ·exact hr y (by simp[q2])
   ·rw[List.mem_singleton] at q2;subst q2
    exact hc x (hr x (by simp)) hx
theorem pl_allI{e:Int}{P:Itm→Prop}{us:List DU}{I:List Itm}(hc:∀x,P x→x.nw=true→P (ctI e x))(h:oldN us=(nowF I).length)(hn:∀x,DU.A x∈us→P (nwI e x))(hI:∀x∈I,P x):∀x∈plI e us I,P x:=by
 obtain⟨h1,h2⟩:=pl_all hc h hn (o:=[]) (fun x hx=>by cases hx) hI
 intro x hx
 rcases List.mem_append.1 hx with q|q
 ·exact h1 x q
 ·exact h2 x q
def endsK:List DU→Prop
 | []=>False
 | [.K _]=>True
 | [_]=>False
 |_::u=>endsK u
theorem endsK_pos:∀{us:List DU},endsK us→1≤oldN us
 | [.K _],_=>by simp[oldN]
 | .A _::v::us,h=>by have:=endsK_pos (us:=v::us) h;simpa[oldN] using this
 | .K _::v::us,h=>by simp[oldN]
 | .C::v::us,h=>by simp[oldN]
theorem endsK_cons{u v:DU}{us:List DU}(h:endsK (u::v::us)):endsK (v::us):=by cases u<;>exact h
theorem pl_last{e:Int}{z:Itm}(hz:z.nw=true):∀{us:List DU} {o J:List Itm},endsK us→oldN us=(nowF (J++[z])).length→∃J',(plU e us (o,J++[z]))=(J'++[z],[])
 | [.K c],o,J,_,h=>by
  have hJ:nowF J=[]:=by
   rw[nowF_app,nowF_t hz] at h
   simp[oldN,nowF_nil] at h
   exact h
  refine⟨o++J,?_⟩
  show stU e (o,J++z::[]) (.K c)=_
  rw[st_K hJ hz,List.append_assoc]
 | .A x::v::us,o,J,hk,h=>pl_last hz (us:=v::us) (o:=o++[nwI e x]) (endsK_cons hk) h
 | .K c::v::us,o,J,hk,h=>by
  have h1:=endsK_pos (endsK_cons hk)
  have h2:oldN (v::us)+1=(nowF (J++[z])).length:=h
  rw[nowF_app,nowF_t hz] at h2
  simp only[nowF_nil,List.length_append,List.length_singleton] at h2
  have hne:nowF J≠[]:=fun q=>by rw[q] at h2;simp only[List.length_nil] at h2;omega
  obtain⟨p,x,q,rfl,hp,hx,-⟩:=nx_split hne
  have hs:plU e (.K c::v::us) (o,(p++x::q)++[z])=plU e (v::us) (o++(p++[x]),q++[z]):=by
   show plU e (v::us) (stU e _ _)=_
   rw[List.append_assoc,List.cons_append,st_K hp hx]
  rw[hs]
  refine pl_last hz (endsK_cons hk) ?_
  rw[nowF_app,hp,nowF_t hx] at h2
  rw[nowF_app,nowF_t hz]
  simp only[nowF_nil,List.nil_append,List.length_cons,List.length_append,List.length_nil] at h2⊢
  omega
 | .C::v::us,o,J,hk,h=>by
  have h1:=endsK_pos (endsK_cons hk)
  have h2:oldN (v::us)+1=(nowF (J++[z])).length:=h
  rw[nowF_app,nowF_t hz] at h2
  simp only[nowF_nil,List.length_append,List.length_singleton] at h2
  have hne:nowF J≠[]:=fun q=>by rw[q] at h2;simp only[List.length_nil] at h2;omega
  obtain⟨p,x,q,rfl,hp,hx,-⟩:=nx_split hne
  have hs:plU e (.C::v::us) (o,(p++x::q)++[z])=plU e (v::us) (o++(p++[ctI e x]),q++[z]):=by
   show plU e (v::us) (stU e _ _)=_
   rw[List.append_assoc,List.cons_append,st_C hp hx]
  rw[hs]
  refine pl_last hz (endsK_cons hk) ?_
  rw[nowF_app,hp,nowF_t hx] at h2
  rw[nowF_app,nowF_t hz]
  simp only[nowF_nil,List.nil_append,List.length_cons,List.length_append,List.length_nil] at h2⊢
  omega
theorem pl_lastI{e:Int}{z:Itm}(hz:z.nw=true){us:List DU}{J:List Itm}(hk:endsK us)(h:oldN us=(nowF (J++[z])).length):∃J',plI e us (J++[z])=J'++[z]:=by
 obtain⟨J',h1⟩:=pl_last (e:=e) (o:=[]) hz hk h
 exact⟨J',by unfold plI;rw[h1];simp⟩
def aN:List DU→Nat
 | []=>0
 | .A _::u=>aN u+1
 |_::u=>aN u
theorem aN_app(u v:List DU):aN (u++v)=aN u+aN v:=by
 induction u with
 |nil=>simp[aN]
 |cons x u ih=>cases x<;>simp only[List.cons_append,aN,ih]<;>omega
theorem pl_len{e:Int}:∀{us:List DU} {o r:List Itm},oldN us=(nowF r).length→(plU e us (o,r)).1.length+(plU e us (o,r)).2.length=o.length+r.length+aN us
 | [],o,r,_=>rfl
 | .A x::us,o,r,h=>by
  have:=pl_len (e:=e) (us:=us) (o:=o++[nwI e x]) (r:=r) h
  rw[List.length_append,List.length_singleton] at this
  show(plU e us (o++[nwI e x],r)).1.length+(plU e us (o++[nwI e x],r)).2.length=_
  rw[this,aN];omega
 | .K c::us,o,r,h=>by
  have hne:nowF r≠[]:=fun q=>by rw[q] at h;simp[oldN] at h
  obtain⟨p,x,q,rfl,hp,hx,-⟩:=nx_split hne
  have hn:nowF (p++x::q)=x.el::nowF q:=by rw[nowF_app,hp,nowF_t hx];rfl
  rw[hn] at h
  have hs:plU e (.K c::us) (o,p++x::q)=plU e us (o++(p++[x]),q):=by show plU e us (stU e _ _)=_;rw[st_K hp hx]
  rw[hs,pl_len (by simpa[oldN] using h)]
  simp only[List.length_append,List.length_cons,List.length_nil,aN];omega
 | .C::us,o,r,h=>by
  have hne:nowF r≠[]:=fun q=>by rw[q] at h;simp[oldN] at h
  obtain⟨p,x,q,rfl,hp,hx,-⟩:=nx_split hne
  have hn:nowF (p++x::q)=x.el::nowF q:=by rw[nowF_app,hp,nowF_t hx];rfl
  rw[hn] at h
  have hs:plU e (.C::us) (o,p++x::q)=plU e us (o++(p++[ctI e x]),q):=by show plU e us (stU e _ _)=_;rw[st_C hp hx]
  rw[hs,pl_len (by simpa[oldN] using h)]
  simp only[List.length_append,List.length_cons,List.length_nil,aN];omega
def isI(e:Int)(x:Itm):Bool:=decide (x.ad≠e)&&x.cu.all fun k=>k==e
def toF(e:Int)(I:List Itm):List Elem:=(I.filter (isI e)).map Itm.el
def unI(e:Int)(x:Itm):List DU:=
 if x.nw=true∧isI e x=true then[.K []] else if x.nw=true then[.C] else if isI e x=true then[.A x.el] else[]
def unL(e:Int)(I:List Itm):List DU:=I.flatMap (unI e)
theorem unL_cons(e:Int)(x:Itm)(I:List Itm):unL e (x::I)=unI e x++unL e I:=rfl
theorem un_apply(e:Int):∀I:List Itm,applyU (unL e I) (nowF I)=toF e I∧oldN (unL e I)=(nowF I).length∧(unL e I).length≤I.length
 | []=>⟨rfl,rfl,Nat.le_refl _⟩
 |x::I=>by
  obtain⟨h1,h2,h3⟩:=un_apply e I
  have ht:∀{b:Bool},isI e x=b→toF e (x::I)=(if b=true then[x.el] else[])++toF e I:=fun {b} hb=>by
   unfold toF
   rw[List.filter_cons,hb]
   cases b<;>rfl
  rw[unL_cons]
  cases hn:x.nw<;>cases hi:isI e x
  ·rw[show unI e x=[] by unfold unI;rw[hn,hi];rfl,nowF_f hn,ht hi]
   exact⟨h1,h2,by simp only[List.length_cons,List.nil_append];omega⟩
  ·rw[show unI e x=[.A x.el] by unfold unI;rw[hn,hi];rfl,nowF_f hn,ht hi]
   refine⟨?_,h2,by simp only[List.length_cons,List.cons_append,List.nil_append];omega⟩
   show x.el::applyU (unL e I) (nowF I)=_
   rw[h1];rfl
  ·rw[show unI e x=[.C] by unfold unI;rw[hn,hi];rfl,nowF_t hn,ht hi]
   refine⟨h1,by show oldN (unL e I)+1=_;rw[h2];rfl,by simp only[List.length_cons,List.cons_append,List.nil_append];omega⟩
  ·rw[show unI e x=[.K []] by unfold unI;rw[hn,hi];rfl,nowF_t hn,ht hi]
   refine⟨?_,by show oldN (unL e I)+1=_;rw[h2];rfl,by simp only[List.length_cons,List.cons_append,List.nil_append];omega⟩
   show chgE [] x.el::applyU (unL e I) (nowF I)=_
   rw[chgE_nil,h1];rfl
def ItmNw(x:Itm):Prop:=x.nw=true↔x.cu=[]
theorem now_sub{e:Int}:∀{I:List Itm},(∀x∈I,ItmNw x)→∀{p:Elem→Bool},(∀x∈I,p x.el=decide (x.ad≠e))→((nowF I).filter p).Sublist (toF e I)
 | [],_,_,_=>List.Sublist.refl _
 |x::I,h,p,hp=>by
  have ih:=now_sub (e:=e) (I:=I) (fun y hy=>h y (List.mem_cons_of_mem _ hy)) (p:=p) (fun y hy=>hp y (List.mem_cons_of_mem _ hy))
  have hx:=h x List.mem_cons_self
  have hpx:=hp x List.mem_cons_self
  have ht:toF e (x::I)=(if isI e x=true then[x.el] else[])++toF e I:=by
   unfold toF
   rw[List.filter_cons]
   cases isI e x<;>rfl
  rw[ht]
  cases hn:x.nw
  ·rw[nowF_f hn];exact ih.trans (List.sublist_append_right _ _)
  ·rw[nowF_t hn,List.filter_cons,hpx]
   by_cases q:x.ad≠e
   ·rw[if_pos (by simpa using q),if_pos (by unfold isI;rw[hx.1 hn];simpa using q)]
    exact ih.cons_cons _
   ·rw[if_neg (by simpa using q)];exact ih.trans (List.sublist_append_right _ _)
theorem toF_mem{e:Int}{I:List Itm}{x:Elem}(h:x∈toF e I):∃y∈I,y.el=x∧y.ad≠e:=by
 unfold toF at h
 obtain⟨y,hy,rfl⟩:=List.mem_map.1 h
 obtain⟨h1,h2⟩:=List.mem_filter.1 hy
 unfold isI at h2
 rw[Bool.and_eq_true,decide_eq_true_eq] at h2
 exact⟨y,h1,rfl,h2.1⟩
theorem sub_hit{α:Type}[DecidableEq α]{c:α}{l:List α}{L:List α}{at_:Nat}(h:(c::l).Sublist (L.drop at_))(hat:at_<L.length)(hc:L[at_]=c):l.Sublist (L.drop (at_+1)):=by
 rw[List.drop_eq_getElem_cons hat,hc] at h
 cases h with
 |cons _ h=>exact(List.sublist_cons_self c l).trans h
 |cons_cons _ h=>exact h
theorem sub_miss{α:Type}[DecidableEq α]{c:α}{l:List α}{L:List α}{at_:Nat}(h:(c::l).Sublist (L.drop at_))(hat:at_<L.length)(hc:L[at_]≠c):(c::l).Sublist (L.drop (at_+1)):=by
 rw[List.drop_eq_getElem_cons hat] at h
 cases h with
 |cons _ h=>exact h
 |cons_cons _ h=>exact absurd rfl hc
theorem sub_end{α:Type}{c:α}{l:List α}{L:List α}{at_:Nat}(h:(c::l).Sublist (L.drop at_)):at_<L.length:=by
 have:=h.length_le
 simp only[List.length_cons,List.length_drop] at this
 omega
end Go.Ch
end
section
set_option linter.unusedVariables false
set_option linter.unusedSimpArgs false
namespace Go.Ch
open Go Go.Ab
def cutB:ByteArray:={data:=#[99,117,116]}
def addB:ByteArray:={data:=#[97,100,100]}
end Go.Ch
end
section
set_option linter.unusedVariables false
set_option linter.unusedSimpArgs false
namespace Go.Ch
open Go Go.Ab
structure Pl where
 node:Node
 shown:List Int
 author:ByteArray
instance:Inhabited Pl:=⟨⟨default,[],{data:=#[]}⟩⟩
structure Sel where
 nd:Int
 fr:Int
 tq:Int
instance:Inhabited Sel:=⟨⟨0,0,0⟩⟩
def ndN(l:List Node)(k:Int):Node:=l.getD (lobN l k) default
def opF(n:Int)(s:List DStep):EOp:=⟨2,n,⟨0,0,[],[],⟨0,0,[],[]⟩,[]⟩,[],s,⟨[],[],[],[],[]⟩,[]⟩
end Go.Ch
end
section
set_option linter.unusedVariables false
set_option linter.unusedSimpArgs false
namespace Go.Ch
open Go Go.Ab
def kindB:ByteArray:={data:=#[107,105,110,100]}
end Go.Ch
end
section
set_option linter.unusedVariables false
set_option linter.unusedSimpArgs false
namespace Go.Ch
open Go Go.Ab
end Go.Ch
end
section
set_option linter.unusedVariables false
namespace Go.Ch
open Go Go.Ab
end Go.Ch
end
section
set_option linter.unusedVariables false
namespace Go.Ch
open Go Go.Ab
def withinI(x lo hi:Int):Int:=lo+((x.tmod (hi-lo+1))+(hi-lo+1)).tmod (hi-lo+1)
theorem tmod_bd(x:Int){n:Int}(hn:0<n): -n<x.tmod n∧x.tmod n<n:=by
 have h1:=Int.tmod_lt_of_pos x hn
 have h2: -n<x.tmod n:=by
  rcases Int.le_total 0 x with h|h
  ·have:=Int.tmod_nonneg n h;omega
  ·have h3:=Int.tmod_lt_of_pos (-x) hn
   rw[Int.neg_tmod] at h3;omega
 exact⟨h2,h1⟩
theorem withinI_bd(x:Int){lo hi:Int}(h:lo≤hi):lo≤withinI x lo hi∧withinI x lo hi≤hi:=by
 unfold withinI
 have h1:=tmod_bd x (n:=hi-lo+1) (by omega)
 have h2:=Int.tmod_nonneg (hi-lo+1) (a:=(x.tmod (hi-lo+1))+(hi-lo+1)) (by omega)
 have h3:=Int.tmod_lt_of_pos ((x.tmod (hi-lo+1))+(hi-lo+1)) (b:=hi-lo+1) (by omega)
 omega
end Go.Ch
end
section
set_option linter.unusedVariables false
set_option linter.unusedSimpArgs false
namespace Go.Ch
open Go Go.Ab
def pickK(n:Node)(ks:List Int):List Int:=(ks.filter fun x=>n.kind==x).map fun _=>n.id
def opA(k:Int)(l:List Attr):EOp:=⟨1,k,⟨0,0,[],[],⟨0,0,[],[]⟩,[]⟩,l,[],⟨[],[],[],[],[]⟩,[]⟩
end Go.Ch
end
section
set_option linter.unusedVariables false
namespace Go.Ch
open Go Go.Ab
def firstD:Doc:=⟨[⟨1,0,[],[⟨0,2,[]⟩],⟨0,0,[],[]⟩,[]⟩,⟨2,1,[],[⟨10,0,[]⟩],⟨0,0,[],[]⟩,[]⟩]⟩
def node1:Node:=⟨1,0,[],[⟨0,2,[]⟩],⟨0,0,[],[]⟩,[]⟩
def node2:Node:=⟨2,1,[],[⟨10,0,[]⟩],⟨0,0,[],[]⟩,[]⟩
theorem first_e:docE firstD=0:=by decide+kernel
theorem first_l:DocL firstD:=by
 have hx:∀n∈firstD.nodes,n=node1∨n=node2:=fun n hn=>by
  have hn:n∈[node1,node2]:=hn
  simpa using hn
 refine⟨⟨by decide,fun n hn=> ?_,by decide⟩,fun n hn=> ?_⟩
 ·rcases hx n hn with rfl|rfl
  ·refine⟨(fun a h=>by cases h),by decide,fun x h=> ?_,by decide,fun x h=> ?_,(fun c h=>by cases h),by decide,(fun c h=>by cases h),by decide,by decide,(fun o h=>by cases h)⟩
   ·rw[show x=⟨0,2,[]⟩ by simpa[node1] using h];exact(fun a h=>by cases h)
   ·rw[show x=⟨0,2,[]⟩ by simpa[node1] using h];decide
  ·refine⟨(fun a h=>by cases h),by decide,fun x h=> ?_,by decide,fun x h=> ?_,(fun c h=>by cases h),by decide,(fun c h=>by cases h),by decide,by decide,(fun o h=>by cases h)⟩
   ·rw[show x=⟨10,0,[]⟩ by simpa[node2] using h];exact(fun a h=>by cases h)
   ·rw[show x=⟨10,0,[]⟩ by simpa[node2] using h];decide
 ·rcases hx n hn with rfl|rfl<;>exact⟨rfl,(fun c h=>by cases h)⟩
structure Vis where
 id:Int
 parent:Int
 vis:Bool
instance:Inhabited Vis:=⟨⟨0,0,false⟩⟩
def onM(k:Int):Int×MV:=(k,.im (Ab.TB true))
def onA(s:ByteArray):List Attr:=[⟨s,{data:=#[111,110]}⟩]
def probE:List EOp:=[opA 2 (onA {data:=#[116,105,116,108,101]})]
theorem prob_b:AppB firstD probE:=by
 have hl:=first_l
 have ho:OpL (opA 2 (onA {data:=#[116,105,116,108,101]})):=by
  refine⟨⟨by decide,by decide,by decide,by decide,by decide⟩,⟨(fun a h=>by cases h),by decide,(fun x h=>by cases h),by decide,(fun x h=>by cases h),(fun c h=>by cases h),by decide,(fun c h=>by cases h),by decide,by decide,(fun o h=>by cases h)⟩,⟨rfl,(fun c h=>by cases h)⟩,by decide,(fun s h=>by cases h),⟨rfl,rfl,(fun c h=>by cases h),by decide⟩,(fun c h=>by cases h),by decide⟩
 refine⟨hl,fun o h=> ?_,fun h1 h2=>⟨⟨by decide,sort_doc first_e,by decide+kernel,ho,fun n hn=>⟨hl.all n hn,hl.lite n hn,?_⟩⟩,fun _=>trivial⟩⟩
 ·rw[show o=opA 2 (onA {data:=#[116,105,116,108,101]}) by simpa[probE] using h];exact ho
 ·have hn:n∈[node1,node2]:=hn
  simp only[List.mem_cons,List.not_mem_nil,or_false] at hn
  rcases hn with rfl|rfl<;>decide
theorem prob_e:appE firstD probE=0:=by decide+kernel
end Go.Ch
end
section
set_option linter.unusedVariables false
set_option linter.unusedSimpArgs false
namespace Go.Ch
open Go Go.Ab
structure US where
 nm:List ByteArray
 no:List ByteArray
instance:Membership ByteArray US:=⟨fun U s=>s∈U.nm⟩
def US.length(U:US):Nat:=U.nm.length
def NU(U:US)(s:ByteArray):Prop:=NPg s∧s∈U
def VW(U:US)(s:ByteArray):Prop:=VPg s∧s∉U.no
def VU(U:US)(e:Bool)(l:List Attr):Prop:=V (NU U) (VW U) e l
variable {U:US}
theorem VU.g{e:Bool}{l:List Attr}(h:VU U e l):VG e l:=⟨h.1,fun a ha=>⟨(h.2 a ha).1.1,Or.imp (fun q:VW U a.val=>q.1) (fun q=>q) (h.2 a ha).2⟩⟩
theorem VU.nil{e:Bool}:VU U e []:=⟨vg_nil.1,fun a h=>by cases h⟩
theorem names_le:∀{l:List Attr} {U:List ByteArray},Sorted l→(∀a∈l,a.name∈U)→l.length≤U.length
 | [],U,_,_=>Nat.zero_le _
 |a::l,U,hs,hu=>by
  have:=names_le (l:=l) (U:=U.filter fun s=> !(seq s a.name)) hs.2 (fun b hb=>by
   have h1:=hs.1 b hb
   rw[List.mem_filter]
   exact⟨hu b (by simp[hb]),by rw[seq_no.2 (Ne.symm (slt_ne h1))];rfl⟩)
  have h2:=(List.length_filter_lt_length_iff_exists (l:=U) (p:=fun s=> !(seq s a.name))).2 ⟨a.name,hu a (by simp),by rw[seq_iff.2 rfl];decide⟩
  simp only[List.length_cons];omega
theorem VU.len{e:Bool}{l:List Attr}(h:VU U e l)(hU:U.length≤100):l.length≤100:=Nat.le_trans (names_le h.1 (fun a ha=>(h.2 a ha).1.2)) hU
def RU(U:US)(x:Elem):Prop:=elemE x=0∧VU U false x.attrs
def UU(U:US):DU→Prop
 | .K c=>VU U true c
 | .A e=>RU U e
 | .C=>True
theorem UU.s(hU:U.length≤100){u:DU}(h:UU U u):UnitS u:=by
 cases u with
 |K c=>exact⟨VU.g h,VU.len h hU⟩
 |A e=>exact⟨h.1,VU.len h.2 hU⟩
 |C=>trivial
structure DU_(U:US)(l:List DStep)(us:List DU):Prop where
 v:DValid l
 sw:DSw (exD l) us
 all:∀u∈us,UU U u
theorem DU_.dn(hU:U.length≤100){l:List DStep}{us:List DU}(h:DU_ U l us):DN 100000000000 l:=dn_of h.v h.sw (fun u hu=>UU.s hU (h.all u hu))
theorem DU_.ex{l:List DStep}{us:List DU}(h:DU_ U l us):∀u∈exD l,UU U u:=fun u hu=>h.all u ((dsw_mem h.sw u).1 hu)
theorem DU_.done(hU:U.length≤100){us:List DU}(hu:∀u∈us,UU U u)(h1:oldN us≤2147483647)(h2:newN us≤2147483647):DU_ U (doneD us) us:=by
 obtain⟨a,b,_⟩:=doneD_ok (fun u h=>(UU.s hU (hu u h)).ok) h1 h2
 exact⟨a,b,hu⟩
end Go.Ch
end
section
set_option linter.unusedVariables false
set_option linter.unusedSimpArgs false
namespace Go.Ch
open Go Go.Ab
variable {U:US}
theorem DU_.lens{l:List DStep}{us:List DU}(h:DU_ U l us):oldD l=oldN us∧newD l=newN us:=by
 have a:=lens_V h.v
 have b:=dsw_lens h.sw
 omega
end Go.Ch
end
section
set_option linter.unusedVariables false
set_option linter.unusedSimpArgs false
namespace Go.Ch
open Go Go.Ab
def zzB:ByteArray:={data:=#[122,122]}
structure UB(U:US):Prop where
 len:U.length≤100
 z:∀v∈U.no,v=zzB
 ad:addB∈U
 ct:cutB∈U
structure NG(U:US)(n:Node):Prop where
 at1:VU U false n.attrs
 fl:∀x∈n.flow,RU U x
 mg:n.grid.merges=[]
 ce:∀c∈n.grid.cells,c.attrs=[]∧c.text.size=0
 dr:∀o∈n.draw,o.plc.size≤100∧o.nm.size≤100∧o.vl.size≤100
 kd:n.kind≠6
structure NZ(m:Nat)(n:Node):Prop where
 fl:n.flow.length≤m
 ce:n.grid.cells.length≤m
 dr:n.draw.length≤m
 ro:n.grid.rows≤m
 co:n.grid.cols≤m
variable {U:US}
theorem vg_szd{e:Bool}{l:List Attr}(h:VG e l):Szd l:=fun a ha=>by
 obtain⟨h1,h2⟩:=h.2 a ha
 have n1:nameGo a.name=true:=h1
 unfold nameGo at n1
 rw[Bool.and_eq_true,decide_eq_true_eq] at n1
 refine⟨by omega,?_⟩
 rcases h2 with h2|h2
 ·have n2:valGo a.val=true:=h2
  unfold valGo at n2
  rw[Bool.and_eq_true,decide_eq_true_eq] at n2
  omega
 ·rw[h2.2];decide
theorem NG.b(hU:UB U){n:Node}{m:Nat}(h:NG U n)(hz:NZ m n)(hm:m≤1048576):NodeB n:=
 ⟨vg_szd h.at1.g,by have:=h.at1.len hU.len;omega,fun x hx=>vg_szd (h.fl x hx).2.g,Nat.le_trans hz.fl hm,fun x hx=>by have:=(h.fl x hx).2.len hU.len;omega,
  fun c hc=>⟨by rw[(h.ce c hc).2];decide,by rw[(h.ce c hc).1];exact(fun a ha=>by cases ha)⟩,Nat.le_trans hz.ce hm,fun c hc=>by rw[(h.ce c hc).1];decide,by rw[h.mg];decide,Nat.le_trans hz.dr hm,fun o ho=>by have:=h.dr o ho;omega⟩
theorem NG.lite{n:Node}(h:NG U n):n.grid.merges=[]∧NoTx n.grid.cells:=⟨h.mg,fun c hc=>(h.ce c hc).2⟩
theorem lens_le_of{m:Nat}:∀{l:List Node},(∀n∈l,NZ m n)→lensN l≤l.length*(3*m)
 | [],_=>by simp[lensN]
 |n::l,h=>by
  have:=lens_le_of (l:=l) (fun x hx=>h x (by simp[hx]))
  have hn:=h n (by simp)
  have e:lensN (n::l)=lenN n+lensN l:=by simp[lensN]
  rw[e,List.length_cons,Nat.add_mul,Nat.one_mul]
  have h1:=hn.fl
  have h2:=hn.ce
  have h3:=hn.dr
  unfold lenN;omega
theorem docL_of(hU:UB U){d:Doc}{m q:Nat}(hm:m≤3000)(hq:q≤100)(hl:d.nodes.length≤q)(h:∀n∈d.nodes,NG U n∧NZ m n):DocL d:=by
 refine⟨⟨by omega,fun n hn=>(h n hn).1.b hU (h n hn).2 (by omega),?_⟩,fun n hn=>(h n hn).1.lite⟩
 have h1:=lens_le_of (fun n hn=>(h n hn).2)
 have h2:d.nodes.length*(3*m)≤100*9000:=Nat.mul_le_mul (by omega) (by omega)
 omega
theorem char_ru{c:Int}{l:List Attr}(hc:CharP c)(h0:c≠0)(hl:VU U false l):RU U ⟨c,0,l⟩:=by
 refine⟨?_,hl⟩
 rw[elemE_c (x:=⟨c,0,l⟩) (fun q=>h0 (q.2 rfl)) (.inr hc) (.inl rfl)]
 exact chk_iff.2 hl.g
end Go.Ch
end
section
set_option linter.unusedVariables false
set_option linter.unusedSimpArgs false
namespace Go.Ch
open Go Go.Ab
structure VD(l:List Node):Prop where
 ne:0<l.length
 one:(l.getD 0 default).id=1
 srt:SortN l
 node:∀n∈l,nodeE n=0
 refs:∀n∈l,∀r∈refsN n,∃m∈l,m.id=r∧permB n.kind m.kind=true
theorem sort_eq{l:List Node}(hs:SortN l){i j:Nat}(hi:i<l.length)(hj:j<l.length)(h:(l.getD i default).id=(l.getD j default).id):i=j:=by
 rcases Nat.lt_trichotomy i j with q|q|q
 ·have:=hs i j q hj;omega
 ·exact q
 ·have:=hs j i q hi;omega
theorem refsE_all{l:List Node}(hs:SortN l){k:Int}{rs:List Int}:∀(n i:Nat),rs.length-i=n→(refsE l k rs i=0↔∀j,i≤j→j<rs.length→∃m∈l,m.id=rs.getD j default∧permB k m.kind=true)
 |0,i,h=>by rw[refsE,if_neg (by omega)];exact⟨fun _ j h1 h2=>by omega,fun _=>rfl⟩
 |n+1,i,h=>by
  have hi:i<rs.length:=by omega
  have hm:rs.length- (i+1)=n:=by omega
  have key:(0≤findD l (rs.getD i default) 0∧permB k (l.getD (findD l (rs.getD i default) 0).toNat default).kind=true)↔∃m∈l,m.id=rs.getD i default∧permB k m.kind=true:=by
   rcases findD_all l (rs.getD i default) _ 0 rfl with⟨a,b⟩| ⟨j,a,b,c,d⟩
   ·rw[a]
    refine⟨fun q=>absurd q.1 (by decide),?_⟩
    rintro⟨m,hm,h1,h2⟩
    obtain⟨x,hx,rfl⟩:=mem_getDX hm
    exact absurd h1 (b x (Nat.zero_le _) hx)
   ·rw[a]
    refine⟨fun q=>⟨l.getD j default,getDX_mem c,d,by simpa using q.2⟩,?_⟩
    rintro⟨m,hm,h1,h2⟩
    obtain⟨x,hx,rfl⟩:=mem_getDX hm
    have:=sort_eq hs hx c (h1.trans d.symm)
    subst this
    exact⟨by omega,by simpa using h2⟩
  rw[refsE,if_pos hi]
  by_cases h1:findD l (rs.getD i default) 0<0
  ·rw[if_pos h1]
   exact⟨fun q=>(by cases q),fun q=>absurd ((key.2 (q i (Nat.le_refl _) hi)).1) (by omega)⟩
  ·rw[if_neg h1]
   by_cases h2:permB k (l.getD (findD l (rs.getD i default) 0).toNat default).kind=false
   ·rw[if_pos h2]
    refine⟨fun q=>(by cases q),fun q=> ?_⟩
    have:=(key.2 (q i (Nat.le_refl _) hi)).2
    rw[h2] at this;cases this
   ·rw[if_neg h2,refsE_all hs n (i+1) hm]
    refine⟨fun q j j1 j2=> ?_,fun q j j1 j2=>q j (by omega) j2⟩
    by_cases e:j=i
    ·subst e;exact key.1 ⟨by omega,by simpa using h2⟩
    ·exact q j (by omega) j2
theorem refs_iff{l:List Node}(hs:SortN l){k:Int}{rs:List Int}:refsE l k rs 0=0↔∀r∈rs,∃m∈l,m.id=r∧permB k m.kind=true:=by
 rw[refsE_all hs _ 0 rfl]
 refine⟨fun h r hr=> ?_,fun h j _ hj=>h _ (getDX_mem hj)⟩
 obtain⟨j,hj,rfl⟩:=mem_getDX hr
 exact h j (Nat.zero_le _) hj
theorem allRefs_iff{l:List Node}:∀(n i:Nat),l.length-i=n→(allRefsE l i=0↔∀j,i≤j→j<l.length→refsE l (l.getD j default).kind (refsN (l.getD j default)) 0=0)
 |0,i,h=>by rw[allRefsE,if_neg (by omega)];exact⟨fun _ j h1 h2=>by omega,fun _=>rfl⟩
 |n+1,i,h=>by
  have hi:i<l.length:=by omega
  rw[allRefsE,if_pos hi]
  by_cases h1:refsE l (l.getD i default).kind (refsN (l.getD i default)) 0≠0
  ·rw[if_pos h1];exact⟨fun q=>absurd q h1,fun q=>absurd (q i (Nat.le_refl _) hi) h1⟩
  ·rw[if_neg h1,allRefs_iff n (i+1) (by omega)]
   refine⟨fun q j j1 j2=> ?_,fun q j j1 j2=>q j (by omega) j2⟩
   by_cases e:j=i
   ·subst e;exact Classical.byContradiction h1
   ·exact q j (by omega) j2
theorem nodes_zero{l:List Node}:∀(n i:Nat),l.length-i=n→(∀j,i≤j→j<l.length→nodeE (l.getD j default)=0∧¬((j=0∧(l.getD 0 default).id≠1)∨(0<j∧(l.getD j default).id≤(l.getD (j- 1) default).id)))→nodesE l i=0
 |0,i,h,_=>by rw[nodesE,if_neg (by omega)]
 |n+1,i,h,q=>by
  obtain⟨a,b⟩:=q i (Nat.le_refl _) (by omega)
  rw[nodesE,if_pos (by omega),if_neg (fun z=>z a),if_neg b]
  exact nodes_zero n (i+1) (by omega) (fun j j1 j2=>q j (by omega) j2)
theorem doc_iff{d:Doc}:docE d=0↔VD d.nodes:=by
 constructor
 ·intro h
  have hn:=doc_nodes h
  have hs:=sort_of hn
  have h0:0<d.nodes.length:=by
   apply Classical.byContradiction;intro q
   rw[docE_short (by omega)] at h;cases h
  refine⟨h0,((nodesE_all _ 0 rfl hn).2 0 (Nat.le_refl _) h0).1 rfl,hs,node_doc h,fun n hn' r hr=> ?_⟩
  have ha:allRefsE d.nodes 0=0:=by
   unfold docE at h
   rw[if_neg (by omega),if_neg (fun q=>q hn)] at h;exact h
  obtain⟨j,hj,rfl⟩:=mem_getDX hn'
  exact(refs_iff hs).1 ((allRefs_iff _ 0 rfl).1 ha j (Nat.zero_le _) hj) r hr
 ·intro h
  have hn:nodesE d.nodes 0=0:=nodes_zero _ 0 rfl (fun j _ hj=>⟨h.node _ (getDX_mem hj),by
   rintro(⟨rfl,q⟩| ⟨q1,q2⟩)
   ·exact q h.one
   ·have:=h.srt (j- 1) j (by omega) hj;omega⟩)
  have ha:allRefsE d.nodes 0=0:=(allRefs_iff _ 0 rfl).2 (fun j _ hj=>(refs_iff h.srt).2 (h.refs _ (getDX_mem hj)))
  unfold docE
  rw[if_neg (by have:=h.ne;omega),if_neg (fun q=>q hn),ha]
theorem getD_set{α:Type}[Inhabited α]{l:List α}{i j:Nat}{x:α}(hi:i<l.length):(l.set i x).getD j default=if i=j then x else l.getD j default:=by
 rw[List.getD_eq_getElem?_getD,List.getElem?_set]
 split
 ·rename_i h;subst h;simp[hi]
 ·rw[List.getD_eq_getElem?_getD]
theorem mem_set_of{α:Type}[Inhabited α]{l:List α}{i:Nat}{x y:α}(hi:i<l.length)(h:y∈l):y∈l.set i x∨y=l.getD i default:=by
 obtain⟨j,hj,rfl⟩:=mem_getDX h
 by_cases e:i=j
 ·subst e;exact .inr rfl
 ·have:(l.set i x).getD j default=l.getD j default:=by rw[getD_set hi,if_neg e]
  rw[←this];exact .inl (getDX_mem (by simpa using hj))
theorem VD.set{l:List Node}(h:VD l){i:Nat}(hi:i<l.length){n:Node}(hid:n.id=(l.getD i default).id)(hk:n.kind=(l.getD i default).kind)(hn:nodeE n=0)(hr:∀r∈refsN n,∃m∈l,m.id=r∧permB n.kind m.kind=true):VD (l.set i n):=by
 have hids:∀j,((l.set i n).getD j default).id=(l.getD j default).id:=fun j=>by
  rw[getD_set hi];split
  ·rename_i e;subst e;exact hid
  ·rfl
 have key:∀(k r:Int),(∃m∈l,m.id=r∧permB k m.kind=true)→∃m∈l.set i n,m.id=r∧permB k m.kind=true:=by
  rintro k r ⟨m,hm,h1,h2⟩
  rcases mem_set_of (x:=n) hi hm with q|rfl
  ·exact⟨m,q,h1,h2⟩
  ·exact⟨n,List.mem_iff_getElem.2 ⟨i,by simpa using hi,by simp⟩,hid.trans h1,by rw[hk];exact h2⟩
 refine⟨by simpa using h.ne,(hids 0).trans h.one,fun p q hpq hq=>by rw[hids,hids];exact h.srt p q hpq (by simpa using hq),fun m hm=> ?_,fun m hm r hr'=> ?_⟩
 ·rcases List.mem_or_eq_of_mem_set hm with q|rfl
  ·exact h.node m q
  ·exact hn
 ·rcases List.mem_or_eq_of_mem_set hm with q|rfl
  ·exact key _ _ (h.refs m q r hr')
  ·exact key _ _ (hr r hr')
theorem VD.has{l:List Node}(h:VD l){k:Int}:hasN l k=true↔∃n∈l,n.id=k:=by
 rw[hasN_iff]
 constructor
 ·rintro⟨a,b⟩;exact⟨_,getDX_mem a,b⟩
 ·rintro⟨n,hn,rfl⟩
  obtain⟨j,hj,rfl⟩:=mem_getDX hn
  obtain⟨s1,s2,s3⟩:=lobN_all l (l.getD j default).id
  have h1:lobN l (l.getD j default).id≤j:=lobN_ge (by omega)
  by_cases e:lobN l (l.getD j default).id=j
  ·rw[e];exact⟨hj,rfl⟩
  ·have:=h.srt _ j (show lobN l (l.getD j default).id<j by omega) hj
   exact absurd this (s3 (by omega))
theorem node_of{n:Node}(h1:1≤n.id∧n.id≤1073741824)(h2:0≤n.kind∧n.kind≤12∧(n.id=1↔n.kind=0))(h3:VG false n.attrs)
 (h4:(0<n.flow.length→hasT n.kind=true∨hasL n.kind=true)∧(zeroG n.grid=false→hasG n.kind=true)∧(0<n.draw.length→hasD n.kind=true))
 (h5:(hasT n.kind=true∨hasL n.kind=true)→flowZ (hasT n.kind) n.flow=0) (h6:hasG n.kind=true→gridE n.grid=0∧cellK n.kind n.grid.cells 0=0) (h7:drawE n.draw 0=0∨hasT n.kind=true∨hasL n.kind=true∨hasG n.kind=true):nodeE n=0:=by
 unfold nodeE
 rw[if_neg (by omega),if_neg (by omega),if_neg (fun q=>q (chk_iff.2 h3)),if_neg]
 ·split
  ·rename_i q;exact h5 q
  ·rename_i q
   split
   ·rename_i g
    obtain⟨z1,z2⟩:=h6 g
    rw[if_neg (fun z=>z z1),z2]
   ·rename_i g
    rcases h7 with h7|h7|h7|h7
    ·exact h7
    ·exact absurd (.inl h7) q
    ·exact absurd (.inr h7) q
    ·exact absurd h7 g
 ·rintro(⟨a,b,c⟩| ⟨a,b⟩| ⟨a,b⟩)
  ·rcases h4.1 a with q|q
   ·rw[b] at q;cases q
   ·rw[c] at q;cases q
  ·have:=h4.2.1 a;rw[b] at this;cases this
  ·have:=h4.2.2 a;rw[b] at this;cases this
end Go.Ch
end
section
set_option linter.unusedVariables false
set_option linter.unusedSimpArgs false
namespace Go.Ch
open Go Go.Ab
end Go.Ch
end
section
set_option linter.unusedVariables false
set_option linter.unusedSimpArgs false
namespace Go.Ch
open Go Go.Ab
variable {U:US}
theorem flowX_iff{t:Bool}{f:List Elem}:∀(n i:Nat),f.length-i=n→(flowX t f i=0↔∀j,i≤j→j<f.length→elemE (f.getD j default)=0∧(t=false→(f.getD j default).ref≠0))
 |0,i,h=>by rw[flowX,if_neg (by omega)];exact⟨fun _ j h1 h2=>by omega,fun _=>rfl⟩
 |n+1,i,h=>by
  have hi:i<f.length:=by omega
  have hm:f.length- (i+1)=n:=by omega
  by_cases h1:elemE (f.getD i default)≠0
  ·rw[flowX_bad hi h1];exact⟨fun q=>absurd q h1,fun q=>absurd (q i (Nat.le_refl _) hi).1 h1⟩
  ·have h1':elemE (f.getD i default)=0:=Classical.byContradiction h1
   by_cases h2:t=false∧(f.getD i default).ref=0
   ·rw[flowX_kind hi h1' h2];exact⟨fun q=>(by cases q),fun q=>absurd h2.2 ((q i (Nat.le_refl _) hi).2 h2.1)⟩
   ·have h2':t=true∨(f.getD i default).ref≠0:=by
     cases t with
     |true=>exact .inl rfl
     |false=>exact .inr (fun q=>h2 ⟨rfl,q⟩)
    rw[flowX_next hi h1' h2',flowX_iff n (i+1) hm]
    refine⟨fun q j j1 j2=> ?_,fun q j j1 j2=>q j (by omega) j2⟩
    by_cases e:j=i
    ·subst e;exact⟨h1',fun z z2=>h2 ⟨z,z2⟩⟩
    ·exact q j (by omega) j2
theorem flowZ_iff{t:Bool}{f:List Elem}:flowZ t f=0↔(∀x∈f,elemE x=0∧(t=false→x.ref≠0))∧(t=true→0<f.length∧(f.getD (f.length- 1) default).char=10):=by
 have hx:flowX t f 0=0↔∀x∈f,elemE x=0∧(t=false→x.ref≠0):=by
  rw[flowX_iff _ 0 rfl]
  refine⟨fun h x hx=> ?_,fun h j _ hj=>h _ (getDX_mem hj)⟩
  obtain⟨j,hj,rfl⟩:=mem_getDX hx
  exact h j (Nat.zero_le _) hj
 by_cases h1:flowX t f 0=0
 ·rw[flowZ_end h1]
  constructor
  ·intro h
   refine⟨hx.1 h1,fun ht=> ?_⟩
   split at h
   ·cases h
   ·rename_i q
    constructor
    ·apply Classical.byContradiction;intro z;exact q ⟨ht,.inl (by omega)⟩
    ·apply Classical.byContradiction;intro z;exact q ⟨ht,.inr z⟩
  ·rintro⟨_,h⟩
   rw[if_neg]
   rintro⟨a,b⟩
   have:=h a
   rcases b with b|b
   ·omega
   ·exact b this.2
 ·rw[flowZ_bad rfl h1]
  exact⟨fun h=>absurd h h1,fun h=>absurd (hx.2 h.1) h1⟩
theorem last_get{α:Type}[Inhabited α]{a b:List α}(h:0<b.length):(a++b).getD ((a++b).length- 1) default=b.getD (b.length- 1) default:=by
 rw[List.length_append,List.getD_eq_getElem?_getD,List.getElem?_append_right (by omega),List.getD_eq_getElem?_getD,show a.length+b.length- 1-a.length=b.length- 1 by omega]
end Go.Ch
end
section
set_option linter.unusedVariables false
set_option linter.unusedSimpArgs false
namespace Go.Ch
open Go Go.Ab
end Go.Ch
end
section
set_option linter.unusedVariables false
set_option linter.unusedSimpArgs false
namespace Go.Ch
open Go Go.Ab
variable {U:US}
structure GP(U:US)(m:Nat)(l:List Node):Prop where
 vd:VD l
 nd:∀n∈l,NG U n∧NZ m n
theorem NZ.mono{m k:Nat}{n:Node}(h:NZ m n)(hm:m≤k):NZ k n:=⟨Nat.le_trans h.fl hm,Nat.le_trans h.ce hm,Nat.le_trans h.dr hm,by have:=h.ro;omega,by have:=h.co;omega⟩
end Go.Ch
end
section
set_option linter.unusedVariables false
set_option linter.unusedSimpArgs false
namespace Go.Ch
open Go Go.Ab
variable {U:US}
structure PP(U:US)(s:Int)(k:Nat)(l:List Node):Prop where
 gp:GP U (10+4*k) l
 len:l.length≤3+k
 id:∀n∈l,n.id< (s+1)*65536∧(n.id<4+k∨65536≤n.id)
theorem PP.docL(hU:UB U){s:Int}{k:Nat}{d:Doc}(h:PP U s k d.nodes)(hk:k≤60):DocL d:=docL_of hU (m:=10+4*k) (q:=63) (by omega) (by omega) (by have:=h.len;omega) h.gp.nd
theorem PP.doc{s:Int}{k:Nat}{d:Doc}(h:PP U s k d.nodes):docE d=0:=doc_iff.2 h.gp.vd
theorem oneB_of(hU:UB U){s:Int}{k:Nat}{l:List Node}{o:EOp}(h:PP U s k l)(hk:k≤60)(hok:eopE o=0)(hop:OpL o)(hl:o.kind=0→∀x∈l,x.id<o.nw.id):OneB l o:=
 ⟨by have:=h.len;omega,h.gp.vd.srt,hok,hop,fun n hn=>⟨(h.gp.nd n hn).1.b hU (h.gp.nd n hn).2 (by omega),(h.gp.nd n hn).1.lite,(h.gp.nd n hn).1.kd⟩⟩
theorem nodeB_0:NodeB ⟨0,0,[],[],⟨0,0,[],[]⟩,[]⟩:=
 ⟨(fun a h=>by cases h),by decide,(fun x h=>by cases h),by decide,(fun x h=>by cases h),(fun c h=>by cases h),by decide,(fun c h=>by cases h),by decide,by decide,(fun o h=>by cases h)⟩
theorem lite_0:LiteE ⟨[],[],[],[],[]⟩:=⟨rfl,rfl,(fun c h=>by cases h),by decide⟩
theorem eopL_0{k n:Int}{w:Node}{a:List Attr}{s:List DStep}{c:List DOp}:EopL ⟨k,n,w,a,s,⟨[],[],[],[],[]⟩,c⟩:=⟨Nat.zero_le _,Nat.zero_le _,Nat.zero_le _,Nat.zero_le _,Nat.zero_le _⟩
theorem opL_F(hU:UB U){k:Int}{s:List DStep}{us:List DU}(hd:DU_ U s us):OpL (opF k s):=
 ⟨eopL_0,nodeB_0,⟨rfl,(fun c h=>by cases h)⟩,Nat.zero_le _,(hd.dn hU.len).mono (by omega),lite_0,(fun c h=>by cases h),Nat.zero_le _⟩
end Go.Ch
end
section
set_option linter.unusedVariables false
set_option linter.unusedSimpArgs false
namespace Go.Ch
open Go Go.Ab
variable {U:US}
structure UN(U:US):Prop extends UB U where
 ti:({data:=#[116,105,116,108,101]}:ByteArray)∈U
 bo:({data:=#[98,111,108,100]}:ByteArray)∈U
 si:({data:=#[115,105,122,101]}:ByteArray)∈U
 ma:({data:=#[109,97,114,107,46,109]}:ByteArray)∈U
 he:({data:=#[104,101,97,100]}:ByteArray)∈U
 li:({data:=#[108,105,115,116]}:ByteArray)∈U
 al:({data:=#[97,108,105,103,110]}:ByteArray)∈U
 ki:kindB∈U
theorem ref_ru{r:Int}{l:List Attr}(h:1≤r∧r≤1073741824)(hl:VU U false l):RU U ⟨0,r,l⟩:=by
 refine⟨?_,hl⟩
 rw[elemE_c (x:=⟨0,r,l⟩) (fun q=>by have:=q.1 rfl;simp only at this;omega) (.inl (by simp only;omega)) (.inr h)]
 exact chk_iff.2 hl.g
theorem nz_of{n:Node}(h1:n.flow.length≤10)(h2:n.grid.cells.length≤10)(h3:n.draw.length≤10)(h4:n.grid.rows≤10∧n.grid.cols≤10:=by exact⟨(by decide:(0:Int)≤10),(by decide:(0:Int)≤10)⟩):NZ 10 n:=⟨h1,h2,h3,h4.1,h4.2⟩
end Go.Ch
end
section
set_option linter.unusedVariables false
set_option linter.unusedSimpArgs false
namespace Go.Ch
open Go Go.Ab
def UC:List ByteArray:=[addB,cutB,{data:=#[116,105,116,108,101]},{data:=#[98,111,108,100]},{data:=#[115,105,122,101]},{data:=#[109,97,114,107,46,109]},{data:=#[104,101,97,100]},{data:=#[108,105,115,116]},{data:=#[97,108,105,103,110]},kindB]
theorem un_app(V:List ByteArray)(hV:V.length≤90)(Z:List ByteArray)(hZ:∀v∈Z,v=zzB):UN ⟨UC++V,Z⟩:=by
 have h:∀x∈UC,x∈(⟨UC++V,Z⟩:US):=fun x hx=>List.mem_append_left _ hx
 exact⟨⟨by show(UC++V).length≤100;rw[List.length_append];have:UC.length=10:=rfl;omega,hZ,h _ (by simp[UC]),h _ (by simp[UC])⟩,h _ (by simp[UC]),h _ (by simp[UC]),h _ (by simp[UC]),h _ (by simp[UC]),h _ (by simp[UC]),h _ (by simp[UC]),h _ (by simp[UC]),h _ (by simp[UC])⟩
variable {U:US}
end Go.Ch
end
section
set_option linter.unusedVariables false
set_option linter.unusedSimpArgs false
namespace Go.Ch
open Go Go.Ab
variable {U:US}
def TX(l:List Node):Prop:=∃n∈l,n.id=2∧n.kind=1
structure DX(U:US)(d:Doc):Prop where
 pp:PP U 0 38 d.nodes
 tx:TX d.nodes
variable {d:Doc}
theorem DX.nd(h:DX U d):hasN d.nodes 2=true∧lobN d.nodes 2<d.nodes.length∧(ndN d.nodes 2).id=2∧(ndN d.nodes 2).kind=1∧ndN d.nodes 2∈d.nodes:=by
 obtain⟨n,hn,h1,h2⟩:=h.tx
 have hh:hasN d.nodes 2=true:=h.pp.gp.vd.has.2 ⟨n,hn,h1⟩
 obtain⟨a,b⟩:=hasN_iff.1 hh
 obtain⟨j,hj,rfl⟩:=mem_getDX hn
 have e:=sort_eq h.pp.gp.vd.srt a hj (b.trans h1.symm)
 refine⟨hh,a,b,?_,getDX_mem a⟩
 unfold ndN;rw[e];exact h2
def lastK(us:List DU):Bool:=match us.getLast? with
 |some (.K _)=>true
 |_=>false
theorem lastK_cons(x y:DU)(u:List DU):lastK (x::y::u)=lastK (y::u):=by
 unfold lastK;rw[List.getLast?_cons_cons]
theorem dsw_lastK{u v:List DU}(h:DSw u v):lastK u=lastK v:=by
 induction h with
 |refl u=>rfl
 |cons x h ih=>
  have hl:=dsw_len h
  rename_i u v
  cases u with
  |nil=>cases v with
   |nil=>rfl
   |cons y v=>simp at hl
  |cons y u=>cases v with
   |nil=>simp at hl
   |cons z v=>rw[lastK_cons,lastK_cons];exact ih
 |swap e u=>cases u with
  |nil=>rfl
  |cons y u=>rw[lastK_cons,lastK_cons,lastK_cons,lastK_cons]
 |symm h ih=>exact ih.symm
 |trans h k ih1 ih2=>exact ih1.trans ih2
theorem lastK_app(u:List DU){v:List DU}(h:v≠[]):lastK (u++v)=lastK v:=by
 unfold lastK
 rw[List.getLast?_append]
 cases hv:v.getLast? with
 |none=>exact absurd (List.getLast?_eq_none_iff.1 hv) h
 |some x=>rfl
theorem ends_of{s:List DStep}(hv:DValid s)(h:lastK (exD s)=true):endsD s=true:=by
 have hne:s≠[]:=fun e=>by rw[e] at h;exact absurd h (by decide)
 obtain⟨t,ht⟩:∃t,s=s.dropLast++[t]:=⟨s.getLast hne,(List.dropLast_concat_getLast hne).symm⟩
 generalize s.dropLast=i at ht
 subst ht
 have hg:(i++[t]).getD ((i++[t]).length- 1) default=t:=by rw[last_get (by simp)];rfl
 have hk:t.kind=0:=by
  apply Classical.byContradiction;intro q
  have ho:=hv.1.all t (by simp)
  rw[exD_app,show exD [t]=exS t by simp[exD]] at h
  unfold exS at h
  by_cases q1:t.kind=1
  ·rw[if_pos q1] at h
   have he:t.elems≠[]:=by
    rcases ho with⟨_,_,_,q,_⟩| ⟨q,_⟩
    ·exact q
    ·omega
   rw[lastK_app _ (by simpa using he)] at h
   unfold lastK at h
   rw[List.getLast?_map] at h
   cases hl:t.elems.getLast? with
   |none=>exact he (List.getLast?_eq_none_iff.1 hl)
   |some x=>rw[hl] at h;simp at h
  ·have q2:t.kind=2:=by
    rcases ho with⟨k,_⟩| ⟨k,_⟩
    ·omega
    ·omega
   have hn:1≤t.n:=by
    rcases ho with⟨k,_⟩| ⟨_,e,_,n,_⟩
    ·omega
    ·exact n
   rw[if_neg q1,if_pos q2] at h
   rw[lastK_app _ (by intro z;have:=congrArg List.length z;simp at this;omega)] at h
   unfold lastK at h
   rw[List.getLast?_replicate,if_neg (by omega)] at h
   cases h
 unfold endsD
 rw[hg,hk]
 simp
theorem exD_mem_A{s:List DStep}{t:DStep}{x:Elem}(ht:t∈s)(hk:t.kind=1)(hx:x∈t.elems):DU.A x∈exD s:=by
 induction s with
 |nil=>cases ht
 |cons y s ih=>
  rw[exD]
  rcases List.mem_cons.1 ht with rfl|q
  ·refine List.mem_append_left _ ?_
   unfold exS;rw[if_pos hk];exact List.mem_map.2 ⟨x,hx,rfl⟩
  ·exact List.mem_append_right _ (ih q)
theorem opF_ok{U:US}{n:Int}{s:List DStep}{us:List DU}(hn:1≤n∧n≤1073741824)(hd:DU_ U s us):eopE (opF n s)=0:=by
 unfold eopE
 rw[if_neg (by show¬((2:Int)< 0∨4< (2:Int));decide)]
 have hu:unuO (opF n s)=false:=by
  unfold unuO opF
  simp only[show((2:Int)==0)=false from rfl,show((2:Int) !=0)=true from rfl,show((2:Int) !=1)=true from rfl,show((2:Int) !=2)=false from rfl,show((2:Int) !=3)=true from rfl,show((2:Int) !=4)=true from rfl,Bool.false_and,Bool.true_and,Bool.false_or]
  rw[show zeroNd ⟨0,0,[],[],⟨0,0,[],[]⟩,[]⟩=true by decide+kernel,show anyG ⟨[],[],[],[],[]⟩=false by decide+kernel]
  rfl
 rw[if_neg (by rw[hu];decide),if_neg (show¬(opF n s).kind=0 from(by decide:¬(2:Int)=0)),if_neg (by show¬(n<1∨1073741824<n);omega),if_neg (show¬(opF n s).kind=1 from(by decide:¬(2:Int)=1)),if_pos (show(opF n s).kind=2 from rfl)]
 exact checkD_iff.2 hd.v
def putF(d:Doc)(f:List Elem):Doc:=⟨d.nodes.set (lobN d.nodes 2) {(ndN d.nodes 2) with flow:=f}⟩
theorem DX.op(h:DX U d){U':US}(hU:UB U')(hp:PP U' 0 38 d.nodes){s:List DStep}{us:List DU}(hd:DU_ U' s us)(ho:oldN us=(ndN d.nodes 2).flow.length)(hk:lastK us=true)(ha:∀t∈s,∀x∈t.elems,x.ref=0):
 AppB d [opF 2 s]∧appE d [opF 2 s]=0∧appD d [opF 2 s]=putF d (applyU us (ndN d.nodes 2).flow):=by
 obtain⟨h1,h2,h3,h4,h5⟩:=h.nd
 have e0:eopE (opF 2 s)=0:=opF_ok (by decide) hd
 have hO:=opL_F hU (k:=2) hd
 have hb:=oneB_of hU hp (by omega) e0 hO (fun q=>absurd q (show¬(2:Int)=0 by decide))
 have hl:=hd.lens
 have hT:hasT (ndN d.nodes 2).kind=true:=by rw[h4];decide
 have hf:flowsE d.nodes (ndN d.nodes 2) s=0:=by
  unfold flowsE
  rw[if_neg (by rw[hT];simp),if_neg (by omega),if_neg (by rw[ends_of hd.v (by rw[dsw_lastK hd.sw];exact hk)];simp)]
  refine firstE_all fun t ht=>firstE_all fun x hx=> ?_
  have hr:=ha t ht x hx
  unfold newE
  rw[if_neg (by rw[hT];simp)]
  have:refsF [x]=[]:=by unfold refsF;simp[hr]
  rw[this,refsE,if_neg (by simp)]
 have e1:oneE d.nodes (opF 2 s)=0:=(one_3 (o:=opF 2 s) h1 rfl).2.trans hf
 have e2:=one_s (o:=opF 2 s) (show(2:Int)≠0 by decide) e1
 have hv:eopsE [opF 2 s] 0=0:=eops_iff.2 fun o ho=>by rw[List.mem_singleton] at ho;subst ho;exact e0
 have hr:runE d.nodes [opF 2 s]=0:=by rw[runE,if_neg (fun q=>q e1)];rfl
 have hb2:AppB d [opF 2 s]:=⟨hp.docL hU (by omega),fun o ho=>by rw[List.mem_singleton] at ho;subst ho;exact hO,fun _ _=>⟨hb,fun _=>trivial⟩⟩
 have h4':=app_4 h.pp.doc hv hr (rfl:runL d.nodes [opF 2 s]=_)
 refine⟨hb2,h4'.2,?_⟩
 rw[h4'.1]
 show(⟨oneL d.nodes (opF 2 s)⟩:Doc)=_
 rw[e2]
 have:rawD (ndN d.nodes 2).flow s=applyU us (ndN d.nodes 2).flow:=sw_applyU hd.sw _
 unfold putF
 rw[←this]
 rfl
end Go.Ch
end
section
set_option linter.unusedVariables false
set_option linter.unusedSimpArgs false
namespace Go.Ch
open Go Go.Ab
def ndT(f:List Elem):Node:=⟨2,1,[],f,⟨0,0,[],[]⟩,[]⟩
def dF(f:List Elem):Doc:=⟨[⟨1,0,[],[⟨0,2,[]⟩],⟨0,0,[],[]⟩,[]⟩,ndT f]⟩
def pE(c:Int):Elem:=⟨c,0,[]⟩
abbrev U0:US:=⟨UC++[],[]⟩
theorem un0:UN U0:=un_app [] (by simp) [] (fun v hv=>by cases hv)
theorem pE_ru{c:Int}(h:CharP c)(h0:c≠0):RU U0 (pE c):=char_ru h h0 VU.nil
structure FU(f:List Elem):Prop where
 ru:∀x∈f,RU U0 x
 rf:∀x∈f,x.ref=0
 pos:0<f.length
 len:f.length≤100
 last:(f.getD (f.length- 1) default).char=10
theorem refs_T{f:List Elem}(h:∀x∈f,x.ref=0):refsN (ndT f)=[]:=by
 have:refsF f=[]:=List.filterMap_eq_nil_iff.2 fun x hx=>by rw[if_neg (fun q=>q (h x hx))]
 show refsF f++refsC []=[]
 rw[this];rfl
theorem ndT_ok{f:List Elem}(h:FU f):nodeE (ndT f)=0∧NG U0 (ndT f)∧NZ 162 (ndT f):=by
 refine⟨node_of (n:=ndT f) ⟨(by decide:(1:Int)≤2),(by decide:(2:Int)≤1073741824)⟩ ⟨(by decide:(0:Int)≤1),(by decide:(1:Int)≤12),by show(2:Int)=1↔(1:Int)=0;omega⟩ (VU.nil (U:=U0) (e:=false)).g ⟨fun _=> .inl (show hasT 1=true by decide),fun q=> ?_,fun q=> ?_⟩ (fun _=> ?_) (fun q=> ?_) (.inr (.inl (show hasT 1=true by decide))),
  ⟨VU.nil,h.ru,rfl,(fun x q=>by cases q),(fun x q=>by cases q),(by decide:(1:Int)≠6)⟩,⟨by have:=h.len;show f.length≤162;omega,Nat.zero_le _,Nat.zero_le _,(by decide:(0:Int)≤162),(by decide:(0:Int)≤162)⟩⟩
 ·exact absurd (show zeroG ⟨0,0,[],[]⟩=false from q) (by decide+kernel)
 ·exact absurd (show 0< ([]:List DOp).length from q) (by decide)
 ·exact flowZ_iff.2 ⟨fun x hx=>⟨(h.ru x hx).1,fun q=>absurd (show hasT 1=false from q) (by decide)⟩,fun _=>⟨h.pos,h.last⟩⟩
 ·exact absurd (show hasG 1=true from q) (by decide)
theorem first_vd:VD firstD.nodes:=doc_iff.1 first_e
theorem dF_vd{f:List Elem}(h:FU f):VD (dF f).nodes:=by
 have:=first_vd.set (i:=1) (by decide) (n:=ndT f) rfl rfl (ndT_ok h).1 (fun r hr=>by rw[refs_T h.rf] at hr;cases hr)
 exact this
theorem root_ng:NG U0 ⟨1,0,[],[⟨0,2,[]⟩],⟨0,0,[],[]⟩,[]⟩∧NZ 162 ⟨1,0,[],[⟨0,2,[]⟩],⟨0,0,[],[]⟩,[]⟩:=
 ⟨⟨VU.nil,fun x hx=>by rw[List.mem_singleton] at hx;subst hx;exact ref_ru (by omega) VU.nil,rfl,(fun x h=>by cases h),(fun x h=>by cases h),(by decide:(0:Int)≠6)⟩,(nz_of (by simp) (by simp) (by simp)).mono (by decide)⟩
theorem dF_dx{f:List Elem}(h:FU f):DX U0 (dF f):=by
 refine⟨⟨⟨dF_vd h,fun n hn=> ?_⟩,by show 2≤3+38;omega,fun n hn=> ?_⟩,⟨ndT f,by simp[dF],rfl,rfl⟩⟩
 ·rcases List.mem_cons.1 hn with rfl|hn
  ·exact root_ng
  ·rw[List.mem_singleton] at hn;subst hn;exact(ndT_ok h).2
 ·rcases List.mem_cons.1 hn with rfl|hn
  ·show(1:Int)< (0+1)*65536∧((1:Int)< 4+38∨65536≤(1:Int));omega
  ·rw[List.mem_singleton] at hn;subst hn
   show(2:Int)< (0+1)*65536∧((2:Int)< 4+38∨65536≤(2:Int));omega
theorem dF_e{f:List Elem}(h:FU f):docE (dF f)=0:=(dF_dx h).pp.doc
theorem dF_L{f:List Elem}(h:FU f):DocL (dF f):=(dF_dx h).pp.docL un0.toUB (by omega)
theorem dF_lob(f:List Elem):lobN (dF f).nodes 2=1:=by
 obtain⟨s1,s2,s3⟩:=lobN_all (dF f).nodes 2
 have e:lobN (dF f).nodes 2=lobN (dF []).nodes 2:=by
  unfold lobN
  simp[dF,ndT]
 rw[e];decide+kernel
theorem dF_nd(f:List Elem):ndN (dF f).nodes 2=ndT f:=by unfold ndN;rw[dF_lob];rfl
theorem putF_dF(f g:List Elem):putF (dF f) g=dF g:=by unfold putF;rw[dF_lob,dF_nd];rfl
theorem dF_op{f:List Elem}(h:FU f){s:List DStep}{us:List DU}(hd:DU_ U0 s us)(ho:oldN us=f.length)(hk:lastK us=true)(ha:∀x,DU.A x∈us→x.ref=0):
 AppB (dF f) [opF 2 s]∧appE (dF f) [opF 2 s]=0∧appD (dF f) [opF 2 s]=dF (applyU us f):=by
 have hx:=dF_dx h
 have hn:(ndN (dF f).nodes 2).flow=f:=by rw[dF_nd];rfl
 have r:=hx.op un0.toUB hx.pp hd (by rw[hn];exact ho) hk (fun t ht x hx=> ?_)
 ·rw[hn,putF_dF] at r;exact r
 ·have hv:=hd.v
  by_cases q:t.kind=1
  ·exact ha x ((dsw_mem hd.sw _).1 (exD_mem_A ht q hx))
  ·have ho:=hv.1.all t ht
   rcases ho with⟨k,_⟩| ⟨_,e,_⟩
   ·exact absurd k q
   ·have:t.elems=[]:=by first|exact e|simpa using e
    rw[this] at hx;cases hx
def chr9(j:Int):Int:=if j%2=1 then 64+j else 96+j
def toL(k:Nat)(p:Int)(n:Nat):Nat×Nat:=
 let a:=(withinI p 0 ((n:Int)- 1)).toNat
 (a,if k%3=2∧a+1<n then a+1 else a)
def usL(k:Nat)(p:Int)(n:Nat):List DU:=
 List.replicate (toL k p n).1 (.K [])++(([pE (chr9 ((k:Int)+1))]:List Elem).map .A++(List.replicate ((toL k p n).2- (toL k p n).1) .C++List.replicate (n- (toL k p n).2) (.K [])))
def stL(k:Nat)(p:Int)(n:Nat):List DStep:=doneD (usL k p n)
def z9I:Itm:=⟨pE 10,0,[],[],true⟩
def itL(ps:List Int):Nat→List Itm
 |0=>[z9I]
 |k+1=>plI ((k:Int)+1) (exD (stL k (ps.getD k default) (nowF (itL ps k)).length)) (itL ps k)
def fwL(ps:List Int)(k:Nat):List Elem:=nowF (itL ps k)
def stK(ps:List Int)(k:Nat):List DStep:=stL k (ps.getD k default) (fwL ps k).length
structure IL(k:Nat)(I:List Itm):Prop where
 nw:∀x∈I,ItmNw x
 el:∀x∈I,x.el=pE (if x.ad=0 then 10 else chr9 x.ad)
 ad:∀x∈I,0≤x.ad∧x.ad≤k
 cu:∀x∈I,∀j∈x.cu,1≤j∧j≤(k:Int)
 se:∀x∈I,x.se=[]
 last:∃J,I=J++[z9I]
 len:I.length≤k+1
theorem nowF_len(I:List Itm):(nowF I).length≤I.length:=by
 unfold nowF;rw[List.length_map];exact List.length_filter_le _ _
theorem chr9_ok{j:Int}(h:1≤j∧j≤10):CharP (chr9 j)∧chr9 j≠0∧chr9 j≠10:=by
 unfold chr9 CharP
 split<;>omega
theorem IL.fu{k:Nat}{I:List Itm}(h:IL k I)(hk:k≤10):FU (nowF I):=by
 obtain⟨J,rfl⟩:=h.last
 have hx:∀x∈nowF (J++[z9I]),∃y∈J++[z9I],y.el=x:=fun x hx=>by
  unfold nowF at hx
  obtain⟨y,hy,rfl⟩:=List.mem_map.1 hx
  exact⟨y,(List.mem_filter.1 hy).1,rfl⟩
 have he:∀y∈J++[z9I],RU U0 y.el∧y.el.ref=0:=fun y hy=>by
  rw[h.el y hy]
  refine⟨?_,rfl⟩
  split
  ·exact pE_ru (by unfold CharP;omega) (by decide)
  ·rename_i q
   have:=h.ad y hy
   obtain⟨c1,c2,_⟩:=chr9_ok (j:=y.ad) (by omega)
   exact pE_ru c1 c2
 have hn:nowF (J++[z9I])=nowF J++[pE 10]:=by rw[nowF_app];rfl
 have hl:=nowF_len (J++[z9I])
 have:=h.len
 refine⟨fun x q=> ?_,fun x q=> ?_,by rw[hn];simp,by omega,?_⟩
 ·obtain⟨y,hy,rfl⟩:=hx x q;exact(he y hy).1
 ·obtain⟨y,hy,rfl⟩:=hx x q;exact(he y hy).2
 ·rw[hn,List.length_append,List.length_singleton,Nat.add_sub_cancel,List.getD_eq_getElem?_getD,List.getElem?_append_right (Nat.le_refl _)]
  simp[pE]
theorem il_0(ps:List Int):IL 0 (itL ps 0):=by
 have hx:∀x∈itL ps 0,x=z9I:=fun x hx=>by simpa[itL] using hx
 refine⟨fun x q=> ?_,fun x q=> ?_,fun x q=> ?_,fun x q=> ?_,fun x q=> ?_,⟨[],rfl⟩,by simp[itL]⟩<;>rw[hx x q]
 ·simp[ItmNw,z9I]
 ·rfl
 ·simp[z9I]
 ·simp[z9I]
 ·rfl
structure UsOk(k:Nat)(us:List DU)(n:Nat):Prop where
 old:oldN us=n
 all:∀u∈us,UU U0 u
 bare:BareU us
 ends:endsK us
 a:∀x,DU.A x∈us→x=pE (chr9 ((k:Int)+1))
 na:aN us=1
 len:us.length≤n+1
theorem bare_iff:∀{us:List DU},BareU us↔∀c,DU.K c∈us→c=[]
 | []=>by simp[BareU]
 | .K c::us=>by
  rw[BareU,bare_iff]
  constructor
  ·rintro⟨h1,h2⟩ c' hc
   rcases List.mem_cons.1 hc with q|q
   ·cases q;exact h1
   ·exact h2 c' q
  ·exact fun h=>⟨h c List.mem_cons_self,fun c' hc=>h c' (List.mem_cons_of_mem _ hc)⟩
 | .A x::us=>by
  rw[show BareU (.A x::us)=BareU us from rfl,bare_iff]
  exact⟨fun h c hc=>h c ((List.mem_cons.1 hc).resolve_left (fun q=>by cases q)),fun h c hc=>h c (List.mem_cons_of_mem _ hc)⟩
 | .C::us=>by
  rw[show BareU (.C::us)=BareU us from rfl,bare_iff]
  exact⟨fun h c hc=>h c ((List.mem_cons.1 hc).resolve_left (fun q=>by cases q)),fun h c hc=>h c (List.mem_cons_of_mem _ hc)⟩
theorem ends_iff:∀{us:List DU},endsK us↔lastK us=true
 | []=>by simp[endsK,lastK]
 | [.K c]=>by simp[endsK,lastK]
 | [.A x]=>by simp[endsK,lastK]
 | [.C]=>by simp[endsK,lastK]
 |u::v::us=>by
  rw[lastK_cons,←ends_iff]
  cases u<;>exact Iff.rfl
theorem toL_ok{k:Nat}{p:Int}{n:Nat}(hn:0<n):(toL k p n).1≤(toL k p n).2∧(toL k p n).2≤(toL k p n).1+1∧(toL k p n).2<n:=by
 have h:=withinI_bd p (lo:=0) (hi:=(n:Int)- 1) (by omega)
 unfold toL
 simp only
 generalize hw:(withinI p 0 ((n:Int)- 1)).toNat=a
 have:a<n:=by omega
 split<;>rename_i q<;>(try simp only)<;>omega
theorem us_ok{k:Nat}(hk:k<10){p:Int}{n:Nat}(hn:0<n):UsOk k (usL k p n) n:=by
 obtain⟨h1,h2,h3⟩:=toL_ok (k:=k) (p:=p) hn
 generalize hab:toL k p n=ab at h1 h2 h3
 obtain⟨a,b⟩:=ab
 simp only at h1 h2 h3
 have e:usL k p n=List.replicate a (.K [])++(([pE (chr9 ((k:Int)+1))]:List Elem).map .A++(List.replicate (b-a) .C++List.replicate (n-b) (.K []))):=by unfold usL;rw[hab]
 have hm:∀u∈usL k p n,u= .K []∨u= .A (pE (chr9 ((k:Int)+1)))∨u= .C:=fun u hu=>by
  rw[e] at hu
  simp only[List.mem_append,List.mem_replicate,List.mem_map,List.mem_singleton] at hu
  rcases hu with⟨_,rfl⟩| ⟨x,rfl,rfl⟩| ⟨_,rfl⟩| ⟨_,rfl⟩<;>simp
 refine⟨?_,fun u hu=> ?_,bare_iff.2 fun c hc=> ?_,ends_iff.2 ?_,fun x hx=> ?_,?_,?_⟩
 ·rw[e,oldN_app,oldN_app,oldN_app,(lens_Ks a []).1,(lens_As _).1,(lens_Cs _).1,(lens_Ks _ []).1];omega
 ·rcases hm u hu with rfl|rfl|rfl
  ·exact VU.nil
  ·obtain⟨c1,c2,_⟩:=chr9_ok (j:=(k:Int)+1) (by omega)
   exact pE_ru c1 c2
  ·trivial
 ·rcases hm _ hc with q|q|q
  ·cases q;rfl
  ·cases q
  ·cases q
 ·rw[e,lastK_app _ (by simp),lastK_app _ (by intro q;have:=congrArg List.length q;simp at this;omega),lastK_app _ (by intro q;have:=congrArg List.length q;simp at this;omega)]
  unfold lastK
  rw[List.getLast?_replicate,if_neg (by omega)]
 ·rcases hm _ hx with q|q|q
  ·cases q
  ·cases q;rfl
  ·cases q
 ·have z:∀n,aN (List.replicate n (.K []))=0∧aN (List.replicate n .C)=0:=fun n=>by
   induction n with
   |zero=>exact⟨rfl,rfl⟩
   |succ n ih=>rw[List.replicate_succ,List.replicate_succ];exact ih
  rw[e,aN_app,aN_app,aN_app,(z _).1,(z _).2,(z _).1];rfl
 ·rw[e]
  simp only[List.length_append,List.length_replicate,List.length_map,List.length_singleton];omega
theorem st_du{k:Nat}(hk:k<10){p:Int}{n:Nat}(hn:0<n∧n≤100):DU_ U0 (stL k p n) (usL k p n):=by
 have h:=us_ok hk (p:=p) hn.1
 have hl:=len_sum (usL k p n)
 refine DU_.done un0.len h.all (by rw[h.old];omega) ?_
 have:newN (usL k p n)≤(usL k p n).length:=by
  have key:∀us:List DU,newN us≤us.length:=fun us=>by
   induction us with
   |nil=>exact Nat.le_refl _
   |cons u us ih=>cases u<;>simp only[newN,List.length_cons]<;>omega
  exact key _
 have:=h.len
 omega
theorem sw_olN{u v:List DU}(h:DSw u v):oldN u=oldN v:=by
 induction h with
 |refl u=>rfl
 |cons x h ih=>cases x<;>simp only[oldN]<;>omega
 |swap e u=>rfl
 |symm h ih=>exact ih.symm
 |trans h k ih1 ih2=>exact ih1.trans ih2
theorem sw_aN{u v:List DU}(h:DSw u v):aN u=aN v:=by
 induction h with
 |refl u=>rfl
 |cons x h ih=>cases x<;>simp only[aN]<;>omega
 |swap e u=>rfl
 |symm h ih=>exact ih.symm
 |trans h k ih1 ih2=>exact ih1.trans ih2
theorem il_next{ps:List Int}{k:Nat}(hk:k<10)(h:IL k (itL ps k)):IL (k+1) (itL ps (k+1))∧nowF (itL ps (k+1))=applyU (exD (stK ps k)) (nowF (itL ps k)):=by
 have hf:=h.fu (by omega)
 have hn:0< (nowF (itL ps k)).length∧(nowF (itL ps k)).length≤100:=⟨hf.pos,hf.len⟩
 have hu:=us_ok hk (p:=ps.getD k default) hn.1
 have hd:=st_du hk (p:=ps.getD k default) hn
 have hsw:=hd.sw
 have e:itL ps (k+1)=plI ((k:Int)+1) (exD (stK ps k)) (itL ps k):=rfl
 have ho:oldN (exD (stK ps k))=(nowF (itL ps k)).length:=(sw_olN hsw).trans hu.old
 have hb:BareU (exD (stK ps k)):=bare_iff.2 fun c hc=>bare_iff.1 hu.bare c ((dsw_mem hsw _).1 hc)
 have hk2:endsK (exD (stK ps k)):=ends_iff.2 (by rw[show exD (stK ps k)=exD (stL k (ps.getD k default) (nowF (itL ps k)).length) from rfl,dsw_lastK hsw];exact ends_iff.1 hu.ends)
 have hA:∀x,DU.A x∈exD (stK ps k)→x=pE (chr9 ((k:Int)+1)):=fun x hx=>hu.a x ((dsw_mem hsw _).1 hx)
 have al:∀{P:Itm→Prop},(∀x,P x→x.nw=true→P (ctI ((k:Int)+1) x))→P (nwI ((k:Int)+1) (pE (chr9 ((k:Int)+1))))→(∀x∈itL ps k,P x)→∀x∈itL ps (k+1),P x:=fun {P} h1 h2 h3=>by
  rw[e];exact pl_allI h1 ho (fun x hx=>by rw[hA x hx];exact h2) h3
 refine⟨⟨al (P:=ItmNw) (fun x hx hn=> ?_) ?_ h.nw,al (P:=fun x=>x.el=pE (if x.ad=0 then 10 else chr9 x.ad)) (fun x hx _=>hx) ?_ h.el,al (P:=fun x=>0≤x.ad∧x.ad≤((k+1:Nat):Int)) (fun x hx _=>hx) ?_ (fun x hx=>by have:=h.ad x hx;omega),
  al (P:=fun x=> ∀j∈x.cu,1≤j∧j≤((k+1:Nat):Int)) (fun x hx _ j hj=> ?_) (fun j hj=>by cases hj) (fun x hx j hj=>by have:=h.cu x hx j hj;omega),al (P:=fun x=>x.se=[]) (fun x hx _=>hx) rfl h.se,?_,?_⟩,?_⟩
 ·simp[ItmNw,ctI]
 ·simp[ItmNw,nwI]
 ·show pE _=pE (if(k:Int)+1=0 then 10 else chr9 ((k:Int)+1))
  rw[if_neg (by omega)]
 ·show 0≤(k:Int)+1∧(k:Int)+1≤_;omega
 ·rcases List.mem_append.1 hj with q|q
  ·exact hx j q
  ·rw[List.mem_singleton] at q;omega
 ·obtain⟨J,hJ⟩:=h.last
  rw[e,hJ]
  rw[hJ] at ho
  exact pl_lastI rfl hk2 ho
 ·have:=pl_len (e:=(k:Int)+1) (o:=[]) ho
  have ha:aN (exD (stK ps k))=1:=(sw_aN hsw).trans hu.na
  rw[ha] at this
  have hl:=h.len
  rw[e]
  unfold plI
  rw[List.length_append,this]
  simp only[List.length_nil];omega
 ·rw[e];exact pl_nowI hb ho
theorem il_all(ps:List Int):∀k,k≤10→IL k (itL ps k)
 |0,_=>il_0 ps
 |k+1,h=>(il_next (by omega) (il_all ps k (by omega))).1
theorem fw_fu(ps:List Int){k:Nat}(h:k≤10):FU (fwL ps k):=(il_all ps k h).fu h
theorem entry_ok(ps:List Int){k:Nat}(h:k<10):DU_ U0 (stK ps k) (usL k (ps.getD k default) (fwL ps k).length)∧AppB (dF (fwL ps k)) [opF 2 (stK ps k)]∧appE (dF (fwL ps k)) [opF 2 (stK ps k)]=0∧appD (dF (fwL ps k)) [opF 2 (stK ps k)]=dF (fwL ps (k+1)):=by
 have hf:=fw_fu ps (k:=k) (by omega)
 have hu:=us_ok h (p:=ps.getD k default) hf.pos
 have hd:=st_du h (p:=ps.getD k default) (n:=(fwL ps k).length) ⟨hf.pos,hf.len⟩
 obtain⟨r1,r2,r3⟩:=dF_op hf hd hu.old (ends_iff.1 hu.ends) (fun x hx=>by rw[hu.a x hx];rfl)
 refine⟨hd,r1,r2,r3.trans ?_⟩
 rw[show fwL ps (k+1)=nowF (itL ps (k+1)) from rfl,(il_next h (il_all ps k (by omega))).2]
 rw[show exD (stK ps k)=exD (stL k (ps.getD k default) (fwL ps k).length) from rfl]
 show dF (applyU _ (fwL ps k))=dF (rawD (fwL ps k) _)
 rw[show rawD (fwL ps k) (stL k (ps.getD k default) (fwL ps k).length)=applyU (usL k (ps.getD k default) (fwL ps k).length) (fwL ps k) from sw_applyU hd.sw _]
end Go.Ch
end
section
set_option linter.unusedVariables false
set_option linter.unusedSimpArgs false
namespace Go.Ch
open Go Go.Ab
def plainD(d:List DStep):Bool:=d.all fun s=>s.kind==0&&s.attrs.length==0
theorem plain_ex:∀{d:List DStep},plainD d=true→∀u∈exD d,u= .K []
 | [],_=>fun u h=>by cases h
 |s::d,h=>fun u hu=>by
  simp only[plainD,List.all_cons,Bool.and_eq_true,beq_iff_eq] at h
  rw[exD] at hu
  rcases List.mem_append.1 hu with q|q
  ·unfold exS at q
   rw[if_neg (by omega),if_neg (by omega)] at q
   rw[(List.mem_replicate.1 q).2,List.eq_nil_of_length_eq_zero h.1.2]
  ·exact plain_ex (d:=d) h.2 u q
theorem keep_id:∀{us:List DU} {f:List Elem},(∀u∈us,u= .K [])→oldN us=f.length→applyU us f=f
 | [],[],_,_=>rfl
 | [],x::f,_,h=>by simp[oldN] at h
 |u::us,f,h,hl=>by
  have hu:=h u List.mem_cons_self
  subst hu
  cases f with
  |nil=>simp[oldN] at hl
  |cons x f=>
   show chgE [] x::applyU us f=_
   rw[chgE_nil,keep_id (fun v hv=>h v (List.mem_cons_of_mem _ hv)) (by simpa[oldN] using hl)]
def undS(e:Int)(I:List Itm):List DStep:=doneD (unL e I)
def undO(e:Int)(I:List Itm):List EOp:=if plainD (undS e I)=true then[] else[opF 2 (undS e I)]
theorem app_nil{d:Doc}(h:docE d=0)(hL:DocL d):AppB d []∧appE d []=0∧appD d []=d:=by
 have h4:=app_4 (d:=d) (c:=[]) h (eops_iff.2 (fun o ho=>by cases ho)) rfl (rfl:runL d.nodes []=_)
 exact⟨⟨hL,(fun o ho=>by cases ho),fun _ _=>trivial⟩,h4.2,h4.1⟩
theorem IL.tq{k:Nat}{I:List Itm}(h:IL k I)(hk:k≤10){e:Int}(he:1≤e):
 (∀u∈unL e I,UU U0 u)∧endsK (unL e I)∧(∀x,DU.A x∈unL e I→x.ref=0)∧FU (toF e I):=by
 have hru:∀y∈I,RU U0 y.el∧y.el.ref=0:=fun y hy=>by
  rw[h.el y hy]
  refine⟨?_,rfl⟩
  split
  ·exact pE_ru (by unfold CharP;omega) (by decide)
  ·rename_i q
   have:=h.ad y hy
   obtain⟨c1,c2,_⟩:=chr9_ok (j:=y.ad) (by omega)
   exact pE_ru c1 c2
 have hm:∀u∈unL e I,u= .K []∨u= .C∨∃y∈I,u= .A y.el:=fun u hu=>by
  unfold unL at hu
  obtain⟨y,hy,hu⟩:=List.mem_flatMap.1 hu
  unfold unI at hu
  split at hu
  ·simp only[List.mem_singleton] at hu;exact .inl hu
  ·split at hu
   ·simp only[List.mem_singleton] at hu;exact .inr (.inl hu)
   ·split at hu
    ·simp only[List.mem_singleton] at hu;exact .inr (.inr ⟨y,hy,hu⟩)
    ·cases hu
 obtain⟨J,hJ⟩:=h.last
 have hz:isI e z9I=true:=by unfold isI z9I;simp;omega
 have hun:unL e I=unL e J++[.K []]:=by
  rw[hJ];unfold unL
  rw[List.flatMap_append]
  congr 1
  simp only[List.flatMap_cons,List.flatMap_nil,List.append_nil]
  unfold unI
  rw[if_pos ⟨rfl,hz⟩]
 have htf:toF e I=toF e J++[pE 10]:=by
  rw[hJ];unfold toF
  rw[List.filter_append,List.map_append]
  congr 1
  rw[List.filter_cons,if_pos hz];rfl
 have hmem:∀x∈toF e I,RU U0 x∧x.ref=0:=fun x hx=>by
  obtain⟨y,hy,rfl,_⟩:=toF_mem hx
  exact hru y hy
 refine⟨fun u hu=> ?_,ends_iff.2 ?_,fun x hx=> ?_,⟨fun x hx=>(hmem x hx).1,fun x hx=>(hmem x hx).2,by rw[htf];simp,?_,?_⟩⟩
 ·rcases hm u hu with rfl|rfl| ⟨y,hy,rfl⟩
  ·exact VU.nil
  ·trivial
  ·exact(hru y hy).1
 ·rw[hun,lastK_app _ (by simp)];rfl
 ·rcases hm _ hx with q|q| ⟨y,hy,q⟩
  ·cases q
  ·cases q
  ·cases q;exact(hru y hy).2
 ·have:=h.len
  have h2:(toF e I).length≤I.length:=by unfold toF;rw[List.length_map];exact List.length_filter_le _ _
  omega
 ·rw[htf,List.length_append,List.length_singleton,Nat.add_sub_cancel,List.getD_eq_getElem?_getD,List.getElem?_append_right (Nat.le_refl _)]
  simp[pE]
theorem und_ok{k:Nat}{I:List Itm}(h:IL k I)(hk:k≤10){e:Int}(he:1≤e):
 DU_ U0 (undS e I) (unL e I)∧AppB (dF (nowF I)) (undO e I)∧appE (dF (nowF I)) (undO e I)=0∧appD (dF (nowF I)) (undO e I)=dF (toF e I):=by
 obtain⟨t1,t2,t3,t4⟩:=h.tq hk he
 obtain⟨a1,a2,a3⟩:=un_apply e I
 have hf:=h.fu hk
 have hl:=h.len
 have hn:=nowF_len I
 have hnew:newN (unL e I)≤(unL e I).length:=by
  have key:∀us:List DU,newN us≤us.length:=fun us=>by
   induction us with
   |nil=>exact Nat.le_refl _
   |cons u us ih=>cases u<;>simp only[newN,List.length_cons]<;>omega
  exact key _
 have hd:DU_ U0 (undS e I) (unL e I):=DU_.done un0.len t1 (by omega) (by omega)
 refine⟨hd,?_⟩
 unfold undO
 split
 ·rename_i q
  have hid:toF e I=nowF I:=by
   rw[←a1,←sw_applyU hd.sw]
   exact keep_id (plain_ex q) ((sw_olN hd.sw).trans a2)
  rw[hid]
  exact app_nil (dF_e hf) (dF_L hf)
 ·obtain⟨r1,r2,r3⟩:=dF_op hf hd a2 (ends_iff.1 t2) t3
  exact⟨r1,r2,by rw[r3,a1]⟩
def eC(e c:Int):Bool:=c==65+e- 1||c==97+e- 1
theorem ec_iff{k:Nat}{I:List Itm}(h:IL k I)(hk:k≤10){e:Int}(he:1≤e∧e≤10){x:Itm}(hx:x∈I):eC e x.el.char=decide (x.ad=e):=by
 have ha:=h.ad x hx
 rw[h.el x hx]
 show eC e (if x.ad=0 then 10 else chr9 x.ad)=_
 unfold eC
 by_cases q:x.ad=e
 ·rw[decide_eq_true q,if_neg (by omega),Bool.or_eq_true,beq_iff_eq,beq_iff_eq]
  unfold chr9
  split<;>omega
 ·rw[decide_eq_false q,Bool.or_eq_false_iff,beq_eq_false_iff_ne,beq_eq_false_iff_ne]
  split
  ·omega
  ·unfold chr9
   split<;>omega
theorem stay_sub{k:Nat}{I:List Itm}(h:IL k I)(hk:k≤10){e:Int}(he:1≤e∧e≤10):(((nowF I).filter fun x=> !(eC e x.char)).map Elem.char).Sublist ((toF e I).map Elem.char):=
 (now_sub h.nw (fun x hx=>by rw[ec_iff h hk he hx];by_cases q:x.ad=e<;>simp[q])).map _
theorem stay_none{k:Nat}{I:List Itm}(h:IL k I)(hk:k≤10){e:Int}(he:1≤e∧e≤10){x:Elem}(hx:x∈toF e I):eC e x.char=false:=by
 obtain⟨y,hy,rfl,hn⟩:=toF_mem hx
 rw[ec_iff h hk he hy,decide_eq_false hn]
end Go.Ch
end
section
set_option linter.unusedVariables false
namespace Go.Ab
variable {P:Program}
structure Pk(P:Program) where
 F:Fen P
 w0:World
 g0:List Nat
 gC:List Nat
 X:Nat→Prop
 hX:∀b,X b→b∈g0
 St:List (List Tree)→Store
 S0:Store
 m0:Place
 va:Nat→AVal
 vu:Nat→Value
 E:List (List Tree)→World→Prop
 hE:∀pre w w',E pre w→(∀b∈g0,w'.heap[b]? =w.heap[b]?)→E pre w'
 sD:∀b o,F.says b o→b<w0.heap.size∧b∉g0∧b∉gC
 low:∀b,F b→b<w0.heap.size
 rnd:Option Nat
variable {k:Pk P} {g:List Nat} {z:Nat} {st:Store} {m:Place} {w w':World} {b:Nat}
end Go.Ab
end
section
set_option linter.unusedVariables false
namespace Go.Ab
variable {P:Program}
variable {F:Fen P} {S SR SC:Store} {m:Place} {wb w0:World} {g0 gC:List Nat} {X:Nat→Prop}
variable {k:Pk P} {pre0:List (List Tree)}
end Go.Ab
end
section
set_option linter.unusedVariables false
namespace Go.Ab
variable {P:Program}
end Go.Ab
end
section
set_option linter.unusedVariables false
namespace Go.Ab
variable {P:Program}
variable {n:Nat} {l0:List (Nat×Ob)} {Q:Exit→St→Prop}
end Go.Ab
end
section
set_option linter.unusedVariables false
namespace Go.Ab
variable {P:Program} {n:Nat} {l0:List (Nat×Ob)} {Q:Exit→St→Prop}
end Go.Ab
end
section
set_option linter.unusedVariables false
namespace Go.Ab
variable {P:Program} {n:Nat} {l0:List (Nat×Ob)} {Q:Exit→St→Prop}
structure V9 where
 a:Value
 b:Value
 c:Value
 d:Value
 e:Value
 f:Value
 g:Value
 h:Value
 i:Value
instance:Inhabited V9:=⟨⟨undef,undef,undef,undef,undef,undef,undef,undef,undef⟩⟩
theorem Weak.nilL{k:Nat}(hk:0<k):Weak VN (.t (.lst k [])):=fun st m w ok u h=>by
 have:=VRel.sc_inv h
 subst this
 exact .t _ _ (.lst k [] none 0 [] hk (fun x hx=>by cases hx) (Nat.le_refl _) (Nat.zero_le _) (fun h=>absurd rfl h) (by simp) (fun j T u h=>by simp[flat] at h))
def isRun:Ctl→Bool
 | .run _=>true
 | .out _=>false
end Go.Ab
end
section
set_option linter.unusedVariables false
namespace Go.Ab
variable {P:Program} {n:Nat} {l0:List (Nat×Ob)} {Q:Exit→St→Prop}
abbrev TP(b:Nat):Tree:= .sc (.pointer (some ⟨b,0,none⟩))
theorem SimC.pin{c:Cfg}(p t:Nat)(es:List (Nat×List Tree))(r:Nat)(cs:List AVal)(es':Nat→List (Nat×List Tree))(T:Nat→List Tree)(he:∀b,es++[(b,T b)]=es' b)
 (k:∀b,b∉es.map (·.1)→SimC P n l0 Q ⟨c.ctl,c.K,⟨(t,.t (TP b))::c.s.sl,upd c.s.st p (.pool (es' b) (some (b,r))),c.s.nx⟩⟩)
 (hp:c.s.st p=some (.pool es none):=by kernel_rfl) (hg:get c.s.sl t= .ptr r 0:=by kernel_rfl) (hr:c.s.st r=some (.box cs):=by kernel_rfl) (hc:isRun c.ctl=true:=by kernel_rfl):SimC P n l0 Q c:=by
 refine⟨fun hm hQ=> ?_⟩
 obtain⟨ctl,K,s⟩:=c
 cases ctl with
 |out e=>cases hc
 |run code=>
 show Sim P n l0 code s (wrapK P n l0 K Q)
 intro F m0 w0 m a w h0 h1 h2
 have hS:=h1.srel
 have hv:=h1.slots t
 rw[hg] at hv
 generalize hu:a.tmps.getD t undef=u at hv
 cases hv with
 |ptrG _ _ _ hs=>rw[hr] at hs;cases hs
 |ptr _ _ cs' b hs hm'=>
 obtain⟨hnb,k1,k2⟩:=pool_pin hS (T b) hp hr hm'
 rw[he b] at k1 k2
 refine(k b hnb).run hm hQ F m0 w0 m a w h0 ⟨fun t'=> ?_,h1.size,h1.defers.ext k2,k1,fun id hid=> ?_⟩ (h2.trans h0 k2)
 ·simp only[get]
  by_cases e:t=t'
  ·subst e
   simp only[Nat.beq_refl,cond_true]
   rw[hu]
   exact .t _ _ (.sc _ rfl)
  ·rw[beq_ne e,cond_false]
   exact k2.val (h1.slots t')
 ·show upd s.st p _ id=none
  rw[upd_ne (fun e=>by subst e;have:=h1.fresh id hid;rw[this] at hp;cases hp)]
  exact h1.fresh id hid
end Go.Ab
end
