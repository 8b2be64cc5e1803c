/- Parts of the proof: ChGrid9, GridDoc, DocPlain, ChDoc, ChDoc2, DocFind, ChDoc3, ChDoc4, ChDoc5, ChDoc6, ChDoc7, DeltaPlain, EditPlain, ChDoc8, DocCopy, ChDoc9, EditSame, EdSame, EdCopy, ChFlow2, ChDelta, ChDelta2, ChDelta3, DeltaWrite. -/
import Derived.Test.YtlgmgpnjkadhfaaGreatDoorM1
import Derived.Test.YtlgmgpnjkadhfaaGreatDoorM2
import Derived.Test.YtlgmgpnjkadhfaaGreatDoorM3
import Derived.Test.YtlgmgpnjkadhfaaGreatDoorM4
import Derived.Test.YtlgmgpnjkadhfaaGreatDoorM5
section
set_option linter.unusedVariables false
set_option linter.unusedSimpArgs false
set_option maxRecDepth 100000
set_option maxHeartbeats 4000000
open Go Go.Proofs Go.Ab
namespace Go.Ch
theorem y7g:FC Tryz.prog 229 [.t (.sc (.int .u64 0))] (app emp []) (VI 0) (app emp []):=by
 refine .go Tryz.f229 ?_
 have e1:((0+(((((({data:=#[0,1,2,2,3,3,3,3,4,4,4,4,4,4,4,4,5,5,5,5,5,5,5,5,5,5,5,5,5,5,5,5,6,6,6,6,6,6,6,6,6,6,6,6,6,6,6,6,6,6,6,6,6,6,6,6,6,6,6,6,6,6,6,6,7,7,7,7,7,7,7,7,7,7,7,7,7,7,7,7,7,7,7,7,7,7,7,7,7,7,7,7,7,7,7,7,7,7,7,7,7,7,7,7,7,7,7,7,7,7,7,7,7,7,7,7,7,7,7,7,7,7,7,7,7,7,7,7,8,8,8,8,8,8,8,8,8,8,8,8,8,8,8,8,8,8,8,8,8,8,8,8,8,8,8,8,8,8,8,8,8,8,8,8,8,8,8,8,8,8,8,8,8,8,8,8,8,8,8,8,8,8,8,8,8,8,8,8,8,8,8,8,8,8,8,8,8,8,8,8,8,8,8,8,8,8,8,8,8,8,8,8,8,8,8,8,8,8,8,8,8,8,8,8,8,8,8,8,8,8,8,8,8,8,8,8,8,8,8,8,8,8,8,8,8,8,8,8,8,8,8,8,8,8,8,8]}):ByteArray)[(Int.toNat (IntKind.u8.wrap 0))]?).getD 0).toNat:Nat):Int)):Int)=0:=by
  decide+kernel
 exact .finE [.r [],.r [],.f,.r [],.f,.r [],.f,.r [(3,X (Xb (({data:=#[0,1,2,2,3,3,3,3,4,4,4,4,4,4,4,4,5,5,5,5,5,5,5,5,5,5,5,5,5,5,5,5,6,6,6,6,6,6,6,6,6,6,6,6,6,6,6,6,6,6,6,6,6,6,6,6,6,6,6,6,6,6,6,6,7,7,7,7,7,7,7,7,7,7,7,7,7,7,7,7,7,7,7,7,7,7,7,7,7,7,7,7,7,7,7,7,7,7,7,7,7,7,7,7,7,7,7,7,7,7,7,7,7,7,7,7,7,7,7,7,7,7,7,7,7,7,7,7,8,8,8,8,8,8,8,8,8,8,8,8,8,8,8,8,8,8,8,8,8,8,8,8,8,8,8,8,8,8,8,8,8,8,8,8,8,8,8,8,8,8,8,8,8,8,8,8,8,8,8,8,8,8,8,8,8,8,8,8,8,8,8,8,8,8,8,8,8,8,8,8,8,8,8,8,8,8,8,8,8,8,8,8,8,8,8,8,8,8,8,8,8,8,8,8,8,8,8,8,8,8,8,8,8,8,8,8,8,8,8,8,8,8,8,8,8,8,8,8,8,8,8,8,8,8,8,8]}):ByteArray) (IntKind.u8.wrap 0)) ⟨(by decide),(by decide+kernel)⟩),(4,X (Xn (((((({data:=#[0,1,2,2,3,3,3,3,4,4,4,4,4,4,4,4,5,5,5,5,5,5,5,5,5,5,5,5,5,5,5,5,6,6,6,6,6,6,6,6,6,6,6,6,6,6,6,6,6,6,6,6,6,6,6,6,6,6,6,6,6,6,6,6,7,7,7,7,7,7,7,7,7,7,7,7,7,7,7,7,7,7,7,7,7,7,7,7,7,7,7,7,7,7,7,7,7,7,7,7,7,7,7,7,7,7,7,7,7,7,7,7,7,7,7,7,7,7,7,7,7,7,7,7,7,7,7,7,8,8,8,8,8,8,8,8,8,8,8,8,8,8,8,8,8,8,8,8,8,8,8,8,8,8,8,8,8,8,8,8,8,8,8,8,8,8,8,8,8,8,8,8,8,8,8,8,8,8,8,8,8,8,8,8,8,8,8,8,8,8,8,8,8,8,8,8,8,8,8,8,8,8,8,8,8,8,8,8,8,8,8,8,8,8,8,8,8,8,8,8,8,8,8,8,8,8,8,8,8,8,8,8,8,8,8,8,8,8,8,8,8,8,8,8,8,8,8,8,8,8,8,8,8,8,8,8]}):ByteArray)[(Int.toNat (IntKind.u8.wrap 0))]?).getD 0).toNat:Nat):Int)) (by decide+kernel)),(5,X (Xn (0+(((((({data:=#[0,1,2,2,3,3,3,3,4,4,4,4,4,4,4,4,5,5,5,5,5,5,5,5,5,5,5,5,5,5,5,5,6,6,6,6,6,6,6,6,6,6,6,6,6,6,6,6,6,6,6,6,6,6,6,6,6,6,6,6,6,6,6,6,7,7,7,7,7,7,7,7,7,7,7,7,7,7,7,7,7,7,7,7,7,7,7,7,7,7,7,7,7,7,7,7,7,7,7,7,7,7,7,7,7,7,7,7,7,7,7,7,7,7,7,7,7,7,7,7,7,7,7,7,7,7,7,7,8,8,8,8,8,8,8,8,8,8,8,8,8,8,8,8,8,8,8,8,8,8,8,8,8,8,8,8,8,8,8,8,8,8,8,8,8,8,8,8,8,8,8,8,8,8,8,8,8,8,8,8,8,8,8,8,8,8,8,8,8,8,8,8,8,8,8,8,8,8,8,8,8,8,8,8,8,8,8,8,8,8,8,8,8,8,8,8,8,8,8,8,8,8,8,8,8,8,8,8,8,8,8,8,8,8,8,8,8,8,8,8,8,8,8,8,8,8,8,8,8,8,8,8,8,8,8,8]}):ByteArray)[(Int.toNat (IntKind.u8.wrap 0))]?).getD 0).toNat:Nat):Int))) (by decide+kernel))]] [] (fun z0:Int=>(VI z0,[])) _ _ e1.symm
theorem fc_bl:FC Tryz.prog 207 [.t (.sc (.int .u64 0))] (app emp []) (VI 0) (app emp []):=by
 refine .go Tryz.f207 ?_
 exact .fin [.r [],.f,.r [(1,X (Xc0 y7g X0))]] []
theorem y5s:FC Tryz.prog 220 [VL 4 rectT ([]:List Rect),VI 0,VI 0,.fn 177 []] (app emp []) (.tup []) (app emp []):=by
 refine .go Tryz.f220 ?_
 refine .len 0 (fun hl0=> ?_)
 refine .loop (α:=Int) [.r []] 24 (fun v8=>([(0,VL 4 rectT ([]:List Rect)),(1,VI 0),(2,VI 0),(3,.fn 177 []),(8,VI v8)],[])) (fun v8=>0≤v8) (fun v8=>0) (1:Int) ?_ ?_
 ·
  decide
 rintro v8 I1 ih1
 try dsimp only at I1
 refine .bp [.r []] (decide (v8<0)) (fun h1=> ?_) (fun h1=> ?_)
 ·
  exfalso
  omega
 ·
  exact .fin [] []
theorem y5t:FC Tryz.prog 206 [VL 4 rectT ([]:List Rect),VI 0,VI 0,VI 0,.fn 177 []] (app emp []) (.tup []) (app emp []):=by
 refine .go Tryz.f206 ?_
 refine .len 0 (fun hl0=> ?_)
 exact .fin [.r [],.r [],.u,.r [],.r [],.t,.r [(4,X (Xc0 y5s X0))]] []
theorem y3A:FC Tryz.prog 176 [VL 4 rectT ([]:List Rect),.fn 177 []] (app emp []) (.tup []) (app emp []):=by
 refine .go Tryz.f176 ?_
 refine .len 0 (fun hl0=> ?_)
 exact .fin [.r [(1,X (Xl rectT ([]:List Rect)))],.le (.eq 4 (VI (([]:List Rect).length:Int)) (VI 0) (.of_eq rfl)),.r [(3,X (Xcv IntKind.u64 0) (by decide)),(4,X (Xc0 fc_bl X0)),(6,X (Xc0 y5t X0))]] []
theorem y7h(x:Grid)(e:GEd)(hi:RawT x e):FC Tryz.prog 132 [.t (gridT x),.t (gedT e)] (app emp []) (.t (gridT (rawT x e))) (app emp []):=by
 refine .go Tryz.f132 ?_
 obtain⟨vr,vk,l1,l2,a1,a2,p1,p2,hq,hm⟩:=hi
 have hml:=z7A x.cells e.rows e.cols
 refine .loop (α:=Nat) [.r [],.r [(4,X (Xc0 (z37 x.rows e.rows (by assumption)) X0))],.r [(4,X (Xc0 (z37 x.cols e.cols (by assumption)) X0))],.r [(8,X (Xc1 248 (y5r x.cells e.rows e.cols (by omega) (by assumption) (by assumption) (by assumption)) X0)),(11,X (Xc1 272 (y7e (movL x.cells e.rows e.cols) e.cells (by omega) (by omega) (by assumption)) X0)),(12,X (Xf [(3,4)]))],.r [(2,X (Xl rectT x.merges))]] 336 (fun i=>([(3,.ptr 8 0),(4,.ptr 16 0),(9,.ptr 288 0),(46,VL 4 rectT x.merges),(47,VI (x.merges.length:Int)),(48,VI (i:Int))],[(8,.box [VL 2 stepT e.rows,VL 2 stepT e.cols,VL 5 cellT e.cells,VL 4 rectT e.split,VL 4 rectT e.merge]),(16,.box [VI 0,VI 0,VN,VN]),(288,.box [VI (if 0< (e.rows).length then newI e.rows else x.rows),VI (if 0< (e.cols).length then newI e.cols else x.cols),VL 5 cellT (putL e.cells (movL x.cells e.rows e.cols)),VL 4 rectT []])])) (fun i=>i=0) (fun i=>0) (0:Nat) ?_ ?_
 ·
  rfl
 rintro i I5 ih5
 try dsimp only at I5
 refine .bp [.r []] (decide ((i:Int)< (x.merges.length:Int))) (fun h5=> ?_) (fun h5=> ?_)
 ·
  exfalso
  omega
 ·
  refine .loop (α:=Nat) [.r [(2,X (Xl rectT e.merge))]] 376 (fun j=>([(4,.ptr 16 0),(9,.ptr 288 0),(77,VL 4 rectT e.merge),(78,VI (e.merge.length:Int)),(79,VI (j:Int))],[(16,.box [VI 0,VI 0,VN,VN]),(288,.box [VI (if 0< (e.rows).length then newI e.rows else x.rows),VI (if 0< (e.cols).length then newI e.cols else x.cols),VL 5 cellT (putL e.cells (movL x.cells e.rows e.cols)),VL 4 rectT []])])) (fun j=>j=0) (fun j=>0) (0:Nat) ?_ ?_
  ·
   rfl
  rintro j I12 ih12
  try dsimp only at I12
  refine .bp [.r []] (decide ((j:Int)< (e.merge.length:Int))) (fun h12=> ?_) (fun h12=> ?_)
  ·
   exfalso
   omega
  ·
   have e1:((rawT x e):Grid)=({rows:=(if 0< (e.rows).length then newI e.rows else x.rows),cols:=(if 0< (e.cols).length then newI e.cols else x.cols),cells:=(putL e.cells (movL x.cells e.rows e.cols)),merges:=[]}:Grid):=by
    rfl
   exact .finVE [.r [(2,X (Xc0 y3A X0))],.r []] [] [] (fun z0:Grid=>(.t (gridT z0),[])) _ _ e1
end Go.Ch
end
section

end
section
set_option linter.unusedVariables false
namespace Go.Ch
open Go Go.Ab
structure Node where
 id:Int
 kind:Int
 attrs:List Attr
 flow:List Elem
 grid:Grid
 draw:List DOp
instance:Inhabited Node:=⟨⟨0,0,[],[],default,[]⟩⟩
def nodeT(n:Node):Tree:= .agg [TI n.id,TI n.kind,.lst 2 (n.attrs.map attrT),.lst 3 (n.flow.map elemT),TI n.grid.rows,TI n.grid.cols,.lst 5 (n.grid.cells.map cellT),.lst 4 (n.grid.merges.map rectT),.lst 8 (n.draw.map dopT)]
structure Doc where
 nodes:List Node
instance:Inhabited Doc:=⟨⟨[]⟩⟩
def docT(d:Doc):Tree:= .agg [.lst 9 (d.nodes.map nodeT)]
def hasT(k:Int):Bool:=((k==1||k==3)||k==4)||k==12
def hasL(k:Int):Bool:=k==0||k==7
def hasG(k:Int):Bool:=k==2||k==6
def hasD(k:Int):Bool:=(k==8||k==9)||k==10
def zeroG(g:Grid):Bool:=((g.rows==0&&g.cols==0)&&(g.cells.length:Int)==0)&&(g.merges.length:Int)==0
def permB(p k:Int):Bool:=
 if k=1∨k=6∨k=7∨k=11∨k=12 then p==0
 else if k=10 then(p==0||p==1)||p==3
 else if k=2 then p==1
 else if k=4 then p==1||p==3
 else if k=5 then hasT p
 else if k=3 then p==2
 else if k=8∨k=9 then p==7
 else false
def flowX(t:Bool)(f:List Elem)(i:Nat):Int:=
 if i<f.length then
  (if elemE (f.getD i default)≠0 then elemE (f.getD i default) else if t=false∧(f.getD i default).ref=0 then 8 else flowX t f (i+1))
 else 0
termination_by f.length-i
def flowZ(t:Bool)(f:List Elem):Int:=
 if flowX t f 0≠0 then flowX t f 0 else if t=true∧(f.length=0∨(f.getD (f.length- 1) default).char≠10) then 11 else 0
theorem z8P{t:Bool}{f:List Elem}{i:Nat}(h:i<f.length)(he:elemE (f.getD i default)≠0):flowX t f i=elemE (f.getD i default):=by rw[flowX,if_pos h,if_pos he]
theorem z6K{t:Bool}{f:List Elem}{i:Nat}(h:i<f.length)(he:elemE (f.getD i default)=0)(hk:t=false∧(f.getD i default).ref=0):flowX t f i=8:=by rw[flowX,if_pos h,if_neg (fun q=>q he),if_pos hk]
theorem z6L{t:Bool}{f:List Elem}{i:Nat}(h:i<f.length)(he:elemE (f.getD i default)=0)(hk:t=true∨(f.getD i default).ref≠0):flowX t f i=flowX t f (i+1):=by
 rw[flowX,if_pos h,if_neg (fun q=>q he),if_neg]
 rintro⟨a,b⟩;rcases hk with q|q
 ·rw[a] at q;cases q
 ·exact q b
theorem z8Q{t:Bool}{f:List Elem}{i:Nat}(h:¬i<f.length):flowX t f i=0:=by rw[flowX,if_neg h]
theorem z5X{t:Bool}{f:List Elem}{e:Int}(h:flowX t f 0=e)(he:e≠0):flowZ t f=e:=by unfold flowZ;rw[h,if_pos he]
theorem z5Y{t:Bool}{f:List Elem}(h:flowX t f 0=0):flowZ t f=if t=true∧(f.length=0∨(f.getD (f.length- 1) default).char≠10) then 11 else 0:=by unfold flowZ;rw[h,if_neg (fun q=>q rfl)]
def cellK(k:Int)(l:List Cell)(i:Nat):Int:=
 if i<l.length then
  (if(k=2∧(seq (l.getD i default).text {data:=#[]}=false∨0< (l.getD i default).attrs.length))∨(k=6∧(l.getD i default).ref≠0) then 4 else cellK k l (i+1))
 else 0
termination_by l.length-i
def nodeE(n:Node):Int:=
 if n.id<1∨1073741824<n.id then 2
 else if n.kind<0∨12<n.kind∨(n.id=1∧n.kind≠0)∨(n.id≠1∧n.kind=0) then 8
 else if chkA false n.attrs 0≠0 then chkA false n.attrs 0
 else if(0<n.flow.length∧hasT n.kind=false∧hasL n.kind=false)∨(zeroG n.grid=false∧hasG n.kind=false)∨(0<n.draw.length∧hasD n.kind=false) then 4
 else if hasT n.kind=true∨hasL n.kind=true then flowZ (hasT n.kind) n.flow
 else if hasG n.kind=true then(if gridE n.grid≠0 then gridE n.grid else cellK n.kind n.grid.cells 0)
 else drawE n.draw 0
def findD(l:List Node)(k:Int)(i:Nat):Int:=if i<l.length then(if(l.getD i default).id=k then(i:Int) else findD l k (i+1)) else-1
termination_by l.length-i
def refsF(f:List Elem):List Int:=f.filterMap fun x=>if x.ref≠0 then some x.ref else none
def refsC(l:List Cell):List Int:=l.filterMap fun x=>if x.ref≠0 then some x.ref else none
def refsN(n:Node):List Int:=refsF n.flow++refsC n.grid.cells
def refsE(l:List Node)(k:Int)(rs:List Int)(i:Nat):Int:=
 if i<rs.length then
  (if findD l (rs.getD i default) 0<0 then 7
   else if permB k (l.getD (findD l (rs.getD i default) 0).toNat default).kind=false then 8
   else refsE l k rs (i+1))
 else 0
termination_by rs.length-i
def z1e(l:List Node)(i:Nat):Int:=
 if i<l.length then
  (if nodeE (l.getD i default)≠0 then nodeE (l.getD i default)
   else if(i=0∧(l.getD 0 default).id≠1)∨(0<i∧(l.getD i default).id≤(l.getD (i- 1) default).id) then 5
   else z1e l (i+1))
 else 0
termination_by l.length-i
def z0U(l:List Node)(i:Nat):Int:=
 if i<l.length then
  (if refsE l (l.getD i default).kind (refsN (l.getD i default)) 0≠0 then refsE l (l.getD i default).kind (refsN (l.getD i default)) 0 else z0U l (i+1))
 else 0
termination_by l.length-i
def docE(d:Doc):Int:=
 if d.nodes.length=0 then 11
 else if z1e d.nodes 0≠0 then z1e d.nodes 0
 else z0U d.nodes 0
theorem y2b{l:List Node}{i:Nat}(h:i<l.length)(he:nodeE (l.getD i default)≠0):z1e l i=nodeE (l.getD i default):=by rw[z1e,if_pos h,if_pos he]
theorem y2c{l:List Node}{i:Nat}(h:i<l.length)(he:nodeE (l.getD i default)=0)(ho:(i=0∧(l.getD 0 default).id≠1)∨(0<i∧(l.getD i default).id≤(l.getD (i- 1) default).id)):z1e l i=5:=by rw[z1e,if_pos h,if_neg (fun q=>q he),if_pos ho]
theorem z9S{l:List Node}{i:Nat}(h:i<l.length)(he:nodeE (l.getD i default)=0)(ho:¬((i=0∧(l.getD 0 default).id≠1)∨(0<i∧(l.getD i default).id≤(l.getD (i- 1) default).id))):z1e l i=z1e l (i+1):=by rw[z1e,if_pos h,if_neg (fun q=>q he),if_neg ho]
theorem z4C{l:List Node}{i:Nat}(h:¬i<l.length):z1e l i=0:=by rw[z1e,if_neg h]
theorem y5u{l:List Node}{i:Nat}(h:i<l.length)(he:refsE l (l.getD i default).kind (refsN (l.getD i default)) 0≠0):z0U l i=refsE l (l.getD i default).kind (refsN (l.getD i default)) 0:=by rw[z0U,if_pos h,if_pos he]
theorem y3B{l:List Node}{i:Nat}(h:i<l.length)(he:refsE l (l.getD i default).kind (refsN (l.getD i default)) 0=0):z0U l i=z0U l (i+1):=by rw[z0U,if_pos h,if_neg (fun q=>q he)]
theorem y5v{l:List Node}{i:Nat}(h:¬i<l.length):z0U l i=0:=by rw[z0U,if_neg h]
theorem z6M{d:Doc}(h:d.nodes.length=0):docE d=11:=by unfold docE;rw[if_pos h]
theorem z8R{d:Doc}(h:¬d.nodes.length=0){e:Int}(he:z1e d.nodes 0=e)(hn:e≠0):docE d=e:=by unfold docE;rw[if_neg h,he,if_pos hn]
theorem z8S{d:Doc}(h:¬d.nodes.length=0){e:Int}(he:z1e d.nodes 0=0)(hr:z0U d.nodes 0=e):docE d=e:=by unfold docE;rw[if_neg h,he,if_neg (fun q=>q rfl),hr]
theorem y2d{l:List Node}{k:Int}{rs:List Int}{i:Nat}(h:i<rs.length)(he:findD l (rs.getD i default) 0<0):refsE l k rs i=7:=by rw[refsE,if_pos h,if_pos he]
theorem y2e{l:List Node}{k:Int}{rs:List Int}{i:Nat}(h:i<rs.length)(he:0≤findD l (rs.getD i default) 0)(hp:permB k (l.getD (findD l (rs.getD i default) 0).toNat default).kind=false):refsE l k rs i=8:=by rw[refsE,if_pos h,if_neg (by omega),if_pos hp]
theorem y2f{l:List Node}{k:Int}{rs:List Int}{i:Nat}(h:i<rs.length)(he:0≤findD l (rs.getD i default) 0)(hp:permB k (l.getD (findD l (rs.getD i default) 0).toNat default).kind=true):refsE l k rs i=refsE l k rs (i+1):=by rw[refsE,if_pos h,if_neg (by omega),if_neg (by rw[hp];decide)]
theorem y3C{l:List Node}{k:Int}{rs:List Int}{i:Nat}(h:¬i<rs.length):refsE l k rs i=0:=by rw[refsE,if_neg h]
structure NodeB(n:Node):Prop where
 at1:Szd n.attrs
 at2:n.attrs.length≤1048576
 fl1:SzE n.flow
 fl2:n.flow.length≤1048576
 fl3:∀x∈n.flow,x.attrs.length≤1048576
 ce1:SzC n.grid.cells
 ce2:n.grid.cells.length≤1048576
 ce3:∀c∈n.grid.cells,c.attrs.length≤1048576
 me:n.grid.merges.length≤1048576
 dr1:n.draw.length≤1048576
 dr2:∀o∈n.draw,o.plc.size≤1048576∧o.nm.size≤1048576∧o.vl.size≤1048576
def lenN(n:Node):Nat:=n.flow.length+n.grid.cells.length+n.draw.length
def lensN(l:List Node):Nat:=(l.map lenN).sum
structure DocB(d:Doc):Prop where
 len:d.nodes.length≤1048576
 all:∀n∈d.nodes,NodeB n
 sum:lensN d.nodes≤1048576
theorem z2z{l:List Node}{i:Nat}(h:i<l.length):l.getD i default∈l:=z0g h
theorem z38{α β:Type}[Inhabited α]{l:List α}{i:Nat}(g:α→Option β)(h:i<l.length):(l.take (i+1)).filterMap g=(l.take i).filterMap g++(g (l.getD i default)).toList:=by
 have e:l.getD i default=l[i]:=by rw[List.getD_eq_getElem?_getD,List.getElem?_eq_getElem h];rfl
 rw[List.take_succ_eq_append_getElem h,List.filterMap_append,e]
 congr 1
end Go.Ch
end
section
set_option linter.unusedVariables false
set_option linter.unusedSimpArgs false
set_option maxRecDepth 100000
set_option maxHeartbeats 4000000
open Go Go.Proofs Go.Ab
namespace Go.Ch
theorem z5e(k:Int):FC Tryz.prog 59 [VI k] (app emp []) (VB (hasT k)) (app emp []):=by
 refine .go Tryz.f59 ?_
 have e1:((hasT k):Bool)=((((k==1)|| (k==3))|| (k==4))|| (k==12)):=by
  rfl
 exact .finE [.r [],.r [(4,Xv 1 (!(k==1)) X0),(5,X (Xk' (k==1))),(8,Xv 1 (!((k==1)|| (k==3))) X0),(9,X (Xk' ((k==1)|| (k==3)))),(12,Xv 1 (!(((k==1)|| (k==3))|| (k==4))) X0),(13,X (Xk' (((k==1)|| (k==3))|| (k==4))))]] [] (fun z0:Bool=>(VB z0,[])) _ _ e1
theorem y04(k:Int):FC Tryz.prog 116 [VI k] (app emp []) (VB (hasL k)) (app emp []):=by
 refine .go Tryz.f116 ?_
 have e1:((hasL k):Bool)=((k==0)|| (k==7)):=by
  rfl
 exact .finE [.r [],.r [(4,Xv 1 (!(k==0)) X0),(5,X (Xk' (k==0)))]] [] (fun z0:Bool=>(VB z0,[])) _ _ e1
theorem z7I(k:Int):FC Tryz.prog 117 [VI k] (app emp []) (VB (hasG k)) (app emp []):=by
 refine .go Tryz.f117 ?_
 have e1:((hasG k):Bool)=((k==2)|| (k==6)):=by
  rfl
 exact .finE [.r [],.r [(4,Xv 1 (!(k==2)) X0),(5,X (Xk' (k==2)))]] [] (fun z0:Bool=>(VB z0,[])) _ _ e1
theorem y05(k:Int):FC Tryz.prog 79 [VI k] (app emp []) (VB (hasD k)) (app emp []):=by
 refine .go Tryz.f79 ?_
 have e1:((hasD k):Bool)=(((k==8)|| (k==9))|| (k==10)):=by
  rfl
 exact .finE [.r [],.r [(4,Xv 1 (!(k==8)) X0),(5,X (Xk' (k==8))),(8,Xv 1 (!((k==8)|| (k==9))) X0),(9,X (Xk' ((k==8)|| (k==9))))]] [] (fun z0:Bool=>(VB z0,[])) _ _ e1
end Go.Ch
end
section
set_option linter.unusedVariables false
set_option linter.unusedSimpArgs false
set_option maxRecDepth 100000
set_option maxHeartbeats 4000000
open Go Go.Proofs Go.Ab
namespace Go.Ch
theorem z7J(f:List Elem)(t:Bool):FC Tryz.prog 119 [VL 3 elemT f,VB t] (app emp []) (VI (flowZ t f)) (app emp []):=by
 refine .go Tryz.f119 ?_
 refine .len 0 (fun hl0=> ?_)
 refine .loop (α:=Nat) [.r [],.r [(1,X (Xl elemT f))]] 32 (fun i=>([(0,VL 3 elemT f),(1,VB t),(8,VL 3 elemT f),(9,VI (f.length:Int)),(10,VI (i:Int))],[])) (fun i=>i≤f.length∧flowX t f 0=flowX t f i) (fun i=>f.length-i) (0:Nat) ?_ ?_
 ·
  exact⟨by omega,rfl⟩
 rintro i I2 ih2
 try dsimp only at I2
 refine .bp [.r []] (decide ((i:Int)< (f.length:Int))) (fun h2=> ?_) (fun h2=> ?_)
 ·
  refine .bp [.r [(0,X (Xi elemT f (i:Int)))],.r [(1,X (Xc0 (y3t ((f.getD i default))) X0))],.r []] ((elemE ((f.getD i default))) !=0) (fun h5=> ?_) (fun h5=> ?_)
  ·
   have e1:((flowZ t f):Int)=(elemE ((f.getD i default))):=by
    exact z5X (I2.2.trans (z8P (by omega) (by omega))) (by omega)
   exact .finE [.r []] [] (fun z0:Int=>(VI z0,[])) _ _ e1
  ·
   refine .bp [.r [(4,Xv 1 (!t) X0),(5,Xv 1 (!t) X0),(6,X (Xk (!t)))]] (!t&&((((f.getD i default)).ref)==0)) (fun h7=> ?_) (fun h7=> ?_)
   ·
    have e2:((flowZ t f):Int)=8:=by
     exact z5X (I2.2.trans (z6K (by omega) (by omega) h7)) (by decide)
    exact .finE [.r []] [] (fun z0:Int=>(VI z0,[])) _ _ e2
   ·
    refine .back [.r [(0,X (Xn ((i:Int)+1)))]] [] (ih2 ((i+1):Nat) ?_ ?_)
    ·
     exact⟨by omega,I2.2.trans (z6L (by omega) (by omega) h7)⟩
    ·
     ((try dsimp only);omega)
 ·
  refine .bp [.r [(3,Xv 1 t (Xl elemT f)),(4,Xv 1 t X0),(5,Xv 1 t X0),(8,Xv 1 (t&& !((f.length:Int)==0)) (Xl elemT f)),(9,Xv 1 (t&& !((f.length:Int)==0)) (Xn ((f.length:Int)- 1))),(10,Xv 2 (t&& !((f.length:Int)==0)) (Xi' elemT f ((f.length:Int)- 1) (f.length- 1)) (fun hg=>by(try simp only[Bool.not_eq_true',Bool.not_eq_false',Bool.and_eq_true,Bool.and_eq_false_iff,beq_iff_eq,beq_eq_false_iff_ne,ne_eq] at hg);exact⟨(by omega),(by omega)⟩)),(11,Xv 1 (t&& !((f.length:Int)==0)) X0),(12,Xv 1 (t&& !((f.length:Int)==0)) X0),(13,Xv 1 (t&& !((f.length:Int)==0)) X0),(14,Xko t ((f.length:Int)==0)),(15,X (Xk t))]] (t&&(((f.length:Int)==0)|| ((((f.getD (f.length- 1) default)).char) !=10))) (fun h10=> ?_) (fun h10=> ?_)
  ·
   have e3:((flowZ t f):Int)=11:=by
    rw[z5Y (I2.2.trans (z8Q (by omega))),if_pos (by refine⟨h10.1,?_⟩;rcases h10.2 with h|h;(left;omega);(right;exact h))]
   exact .finE [.r []] [] (fun z0:Int=>(VI z0,[])) _ _ e3
  ·
   have e4:((flowZ t f):Int)=0:=by
    rw[z5Y (I2.2.trans (z8Q (by omega))),if_neg (by rintro⟨q1,q2⟩;rcases h10 with h|h;(rw[q1] at h;cases h);(rcases q2 with q|q;(omega);(exact q h.2)))]
   exact .finE [.r []] [] (fun z0:Int=>(VI z0,[])) _ _ e4
end Go.Ch
end
section
set_option linter.unusedVariables false
namespace Go.Ch
open Go Go.Ab
def SortN(l:List Node):Prop:=∀p q,p<q→q<l.length→(l.getD p default).id< (l.getD q default).id
def cmpN9(n:Node)(k:Int):Int:=if n.id<k then-1 else if n.id>k then 1 else 0
def lobN(l:List Node)(k:Int):Nat:=(l.takeWhile (fun n=>decide (n.id<k))).length
theorem z1R:∀(l:List Node) (k:Int),lobN l k≤l.length∧(∀i,i<lobN l k→(l.getD i default).id<k)∧(lobN l k<l.length→¬(l.getD (lobN l k) default).id<k)
 | [],k=>⟨Nat.zero_le _,fun i hi=>absurd hi (by simp[lobN]),fun h=>absurd h (by simp[lobN])⟩
 |c::l,k=>by
  obtain⟨h1,h2,h3⟩:=z1R l k
  by_cases hc:c.id<k
  ·have e:lobN (c::l) k=lobN l k+1:=by unfold lobN;rw[List.takeWhile_cons,if_pos (decide_eq_true hc)];rfl
   rw[e]
   refine⟨by simp;omega,fun i hi=> ?_,fun h=> ?_⟩
   ·cases i with
    |zero=>exact hc
    |succ i=>exact h2 i (by omega)
   ·exact h3 (by simpa using h)
  ·have e:lobN (c::l) k=0:=by unfold lobN;rw[List.takeWhile_cons,if_neg (by simpa using hc)];rfl
   rw[e]
   exact⟨Nat.zero_le _,fun i hi=>absurd hi (by omega),fun _=>hc⟩
theorem y3D{l:List Node}{k:Int}{m:Nat}(hs:SortN l)(hm:m<l.length)(h:(l.getD m default).id<k):m<lobN l k:=by
 obtain⟨h1,h2,h3⟩:=z1R l k
 apply Classical.byContradiction;intro q
 have h4:=h3 (by omega)
 by_cases e:lobN l k=m
 ·rw[e] at h4;exact h4 h
 ·have h5:=hs (lobN l k) m (by omega) hm
  omega
theorem z9T{l:List Node}{k:Int}{m:Nat}(h:¬(l.getD m default).id<k):lobN l k≤m:=by
 obtain⟨h1,h2,h3⟩:=z1R l k
 apply Classical.byContradiction;intro q
 exact h (h2 m (by omega))
def hasN(l:List Node)(k:Int):Bool:=decide ((lobN l k:Int)< (l.length:Int))&&(cmpN9 (l.getD (lobN l k) default) k==0)
theorem y06{n:Node}{k:Int}:cmpN9 n k<0↔n.id<k:=by unfold cmpN9;split<;>(try split)<;>omega
theorem y5w{n:Node}{k:Int}:cmpN9 n k=0↔n.id=k:=by unfold cmpN9;split<;>(try split)<;>omega
theorem z08{l:List Node}{k:Int}:hasN l k=true↔lobN l k<l.length∧(l.getD (lobN l k) default).id=k:=by
 unfold hasN;rw[Bool.and_eq_true,decide_eq_true_eq,beq_iff_eq,y5w];omega
theorem z2A(l:List Node)(k:Int):∀(n i:Nat),l.length-i=n→(findD l k i= -1∧∀j,i≤j→j<l.length→(l.getD j default).id≠k)∨∃j:Nat,findD l k i=j∧i≤j∧j<l.length∧(l.getD j default).id=k
 |0,i,h=>by rw[findD,if_neg (by omega)];exact .inl ⟨rfl,fun j h1 h2=>by omega⟩
 |n+1,i,h=>by
  have hi:i<l.length:=by omega
  rw[findD,if_pos hi]
  by_cases e:(l.getD i default).id=k
  ·rw[if_pos e];exact .inr ⟨i,rfl,Nat.le_refl _,hi,e⟩
  ·rw[if_neg e]
   rcases z2A l k n (i+1) (by omega) with⟨a,b⟩| ⟨j,a,b,c,d⟩
   ·refine .inl ⟨a,fun j h1 h2=> ?_⟩
    by_cases q:j=i
    ·subst q;exact e
    ·exact b j (by omega) h2
   ·exact .inr ⟨j,a,by omega,c,d⟩
theorem y5x{l:List Node}{k:Int}(hs:SortN l)(h:hasN l k=true):findD l k 0=(lobN l k:Int):=by
 obtain⟨h1,h2⟩:=z08.1 h
 rcases z2A l k _ 0 rfl with⟨a,b⟩| ⟨j,a,b,c,d⟩
 ·exact absurd h2 (b _ (Nat.zero_le _) h1)
 ·rw[a]
  rcases Nat.lt_trichotomy j (lobN l k) with q|q|q
  ·have:=hs j _ q h1;omega
  ·rw[q]
  ·have:=hs _ j q c;omega
theorem y7i{l:List Node}{k:Int}(hs:SortN l)(h:hasN l k=false):findD l k 0<0:=by
 rcases z2A l k _ 0 rfl with⟨a,b⟩| ⟨j,a,b,c,d⟩
 ·rw[a];decide
 ·exfalso
  have h1:=z9T (l:=l) (k:=k) (m:=j) (by omega)
  obtain⟨s1,s2,s3⟩:=z1R l k
  have h2:lobN l k=j:=by
   apply Classical.byContradiction;intro q
   have:=hs (lobN l k) j (by omega) c
   exact s3 (by omega) (by omega)
  have:hasN l k=true:=z08.2 ⟨by omega,by rw[h2];exact d⟩
  rw[h] at this;cases this
theorem z2B{l:List Node}:∀(n i:Nat),l.length-i=n→z1e l i=0→(∀j,i≤j→j<l.length→nodeE (l.getD j default)=0)∧(∀j,i≤j→j<l.length→(j=0→(l.getD 0 default).id=1)∧(0<j→(l.getD (j- 1) default).id< (l.getD j default).id))
 |0,i,h,_=>⟨fun j h1 h2=>by omega,fun j h1 h2=>by omega⟩
 |n+1,i,h,he=>by
  have hi:i<l.length:=by omega
  rw[z1e,if_pos hi] at he
  by_cases h1:nodeE (l.getD i default)≠0
  ·rw[if_pos h1] at he;exact absurd he h1
  ·rw[if_neg h1] at he
   split at he
   ·cases he
   ·rename_i h2
    obtain⟨a,b⟩:=z2B n (i+1) (by omega) he
    refine⟨fun j q1 q2=> ?_,fun j q1 q2=> ?_⟩
    ·by_cases q:j=i
     ·subst q;exact Classical.byContradiction h1
     ·exact a j (by omega) q2
    ·by_cases q:j=i
     ·subst q
      exact⟨fun q3=>by omega,fun q3=>by omega⟩
     ·exact b j (by omega) q2
theorem z9U{l:List Node}(h:z1e l 0=0):SortN l:=by
 have h2:=(z2B _ 0 rfl h).2
 have key:∀d p,p+d+1<l.length→(l.getD p default).id< (l.getD (p+d+1) default).id:=by
  intro d
  induction d with
  |zero=>intro p hp;have:=(h2 (p+1) (Nat.zero_le _) hp).2 (by omega);rwa [show p+1- 1=p by omega] at this
  |succ d ih=>
   intro p hp
   have h3:=ih p (by omega)
   have h4:=(h2 (p+(d+1)+1) (Nat.zero_le _) hp).2 (by omega)
   rw[show p+(d+1)+1- 1=p+d+1 by omega] at h4
   omega
 intro p q hpq hq
 have:=key (q-p- 1) p (by omega)
 rwa [show p+(q-p- 1)+1=q by omega] at this
end Go.Ch
end
section
set_option linter.unusedVariables false
set_option linter.unusedSimpArgs false
set_option maxRecDepth 100000
set_option maxHeartbeats 4000000
open Go Go.Proofs Go.Ab
namespace Go.Ch
end Go.Ch
end
section
set_option linter.unusedVariables false
set_option linter.unusedSimpArgs false
set_option maxRecDepth 100000
set_option maxHeartbeats 4000000
open Go Go.Proofs Go.Ab
namespace Go.Ch
end Go.Ch
end
section
set_option linter.unusedVariables false
set_option linter.unusedSimpArgs false
set_option maxRecDepth 100000
set_option maxHeartbeats 4000000
open Go Go.Proofs Go.Ab
namespace Go.Ch
end Go.Ch
end
section
set_option linter.unusedVariables false
set_option linter.unusedSimpArgs false
set_option maxRecDepth 100000
set_option maxHeartbeats 4000000
open Go Go.Proofs Go.Ab
namespace Go.Ch
theorem y07(n:Node)(k:Int):FC Tryz.prog 141 [.t (nodeT n),VI k] (app emp []) (VI (cmpN9 n k)) (app emp []):=by
 refine .go Tryz.f141 ?_
 refine .bp [.r [],.r []] (decide (n.id<k)) (fun h1=> ?_) (fun h1=> ?_)
 ·
  have e1:((cmpN9 n k):Int)= -1:=by
   unfold cmpN9;((repeat' split)<;>first|rfl|omega| (simp_all;done)| (simp_all;omega))
  exact .finE [.r []] [] (fun z0:Int=>(VI z0,[])) _ _ e1
 ·
  refine .bp [.r []] (decide (n.id>k)) (fun h3=> ?_) (fun h3=> ?_)
  ·
   have e2:((cmpN9 n k):Int)=1:=by
    unfold cmpN9;((repeat' split)<;>first|rfl|omega| (simp_all;done)| (simp_all;omega))
   exact .finE [.r []] [] (fun z0:Int=>(VI z0,[])) _ _ e2
  ·
   have e3:((cmpN9 n k):Int)=0:=by
    unfold cmpN9;((repeat' split)<;>first|rfl|omega| (simp_all;done)| (simp_all;omega))
   exact .finE [.r []] [] (fun z0:Int=>(VI z0,[])) _ _ e3
theorem y8s(l:List Node)(k:Int)(hn:l.length≤1048576)(hs:SortN l):FC Tryz.prog 140 [VL 9 nodeT l,VI k,.fn 141 []] (app emp []) (.tup [VI (lobN l k:Int),VB (hasN l k)]) (app emp []):=by
 refine .go Tryz.f140 ?_
 refine .len 0 (fun hl0=> ?_)
 obtain⟨s1,s2,s3⟩:=z1R l k
 refine .loop (α:=Nat×Nat) [.r [],.r [(1,X (Xl nodeT l))],.r []] 64 (fun(i,j)=>([(0,VL 9 nodeT l),(1,VI k),(2,.fn 141 []),(8,VI (l.length:Int)),(9,VI (i:Int)),(10,VI (j:Int))],[])) (fun(i,j)=>i≤lobN l k∧lobN l k≤j∧j≤l.length) (fun(i,j)=>j-i) (0,l.length) ?_ ?_
 ·
  exact⟨by omega,by omega,by omega⟩
 rintro⟨i,j⟩ I3 ih3
 try dsimp only at I3
 refine .bp [.r []] (decide ((i:Int)< (j:Int))) (fun h3=> ?_) (fun h3=> ?_)
 ·
  obtain⟨m,hm⟩:∃m:Nat,((i:Int)+(j:Int))/2=(m:Int):=⟨(i+j)/2,by omega⟩
  refine .bp [.r [(2,X (Xn ((i:Int)+(j:Int)))),(3,X (Xcv IntKind.u64 ((i:Int)+(j:Int))) (by simp[IntKind.wrap,IntKind.bits,IntKind.signed];omega)),(4,X (Xsh IntKind.u64 1 (((i:Int)+(j:Int)).fdiv (2^(min (1:Int).toNat IntKind.u64.bits))) (((i:Int)+(j:Int))/2)) ⟨by decide,(by rw[Int.fdiv_eq_ediv_of_nonneg _ (by decide)];rfl)⟩),(5,X (Xn (((i:Int)+(j:Int))/2)))],.le (.eq 11 (VI (((i:Int)+(j:Int))/2)) (VI (m:Int)) (.of_eq (by rw[←hm]))),.r [(3,X (Xi nodeT l (m:Int))),(6,X (Xc0 (y07 ((l.getD m default)) k) X0))]] (decide ((cmpN9 ((l.getD m default)) k)< 0)) (fun h5=> ?_) (fun h5=> ?_)
  ·
   refine .back [.r [(1,X (Xn ((m:Int)+1)))]] [] (ih3 ((m+1),j) ?_ ?_)
   ·
    have:=y3D hs (m:=m) (by omega) (y06.1 h5)
    exact⟨by omega,by omega,by omega⟩
   ·
    ((try dsimp only);omega)
  ·
   refine .back [.r []] [] (ih3 (i,m) ?_ ?_)
   ·
    have:=z9T (l:=l) (k:=k) (m:=m) (fun q=>by have:=y06.2 q;omega)
    exact⟨by omega,by omega,by omega⟩
   ·
    ((try dsimp only);omega)
 ·
  have hi:i=lobN l k:=by omega
  have e1:((lobN l k:Int):Int)=(i:Int):=by
   first|omega| (unfold hasN;rw[←hi])
  have e2:((hasN l k):Bool)=(decide ((i:Int)< (l.length:Int))&&((cmpN9 ((l.getD i default)) k)==0)):=by
   first|omega| (unfold hasN;rw[←hi])
  exact .finE [.r [(8,Xv 2 (decide ((i:Int)< (l.length:Int))) (Xi nodeT l (i:Int))),(9,Xv 1 (decide ((i:Int)< (l.length:Int))) X0),(11,Xv 3 (decide ((i:Int)< (l.length:Int))) (Xc0 (y07 ((l.getD i default)) k) X0)),(12,Xv 1 (decide ((i:Int)< (l.length:Int))) X0),(13,X (Xk (decide ((i:Int)< (l.length:Int)))))]] [] (fun((z0,z1):Int×Bool)=>(.tup [VI z0,VB z1],[])) _ _ (pr e1 e2)
theorem z7K(d:Doc)(k:Int)(hn:d.nodes.length≤1048576)(hs:SortN d.nodes):FC Tryz.prog 89 [.t (docT d),VI k] (app emp []) (.tup [VI (lobN d.nodes k:Int),VB (hasN d.nodes k)]) (app emp []):=by
 refine .go Tryz.f89 ?_
 exact .fin [.r [],.r [(3,X (Xc0 (y8s d.nodes k (by omega) (by assumption)) X0))]] []
theorem z5Z(f:List Elem)(hn:f.length≤1048576):FC Tryz.prog 124 [VL 3 elemT f] (app emp []) (.row 0 ((refsF f).length)) (app emp [(0,OR 1 intT (refsF f))]):=by
 refine .go Tryz.f124 ?_
 refine .len 0 (fun hl0=> ?_)
 refine .loop (α:=Nat×(List Int)) [.r [],.r [],.r [(1,X (Xl elemT f))],.le (.nR 3 1)] 41 (fun(i,o)=>([(3,.row 40 o.length),(6,VL 3 elemT f),(7,VI (f.length:Int)),(8,VI (i:Int))],[(40,OR 1 intT o)])) (fun(i,o)=>i≤f.length∧o=refsF (f.take i)) (fun(i,o)=>f.length-i) (0,[]) ?_ ?_
 ·
  exact⟨by omega,rfl⟩
 rintro⟨i,o⟩ I3 ih3
 try dsimp only at I3
 have ol:o.length≤i:=by rw[I3.2];unfold refsF;exact Nat.le_trans (List.length_filterMap_le _ _) (by rw[List.length_take];omega)
 refine .bp [.r []] (decide ((i:Int)< (f.length:Int))) (fun h3=> ?_) (fun h3=> ?_)
 ·
  refine .bp [.r [(0,X (Xi elemT f (i:Int)))],.r []] ((((f.getD i default)).ref) !=0) (fun h5=> ?_) (fun h5=> ?_)
  ·
   refine .back [.r [(4,X (rowC intT [((f.getD i default)).ref] (Xap 1 intT 40 o [((f.getD i default)).ref])))],.r [(0,X (Xn ((i:Int)+1)))]] [(40,40)] (ih3 ((i+1),(o++[((f.getD i default)).ref])) ?_ ?_)
   ·
    refine⟨by omega,?_⟩
    rw[I3.2];unfold refsF;rw[z38 _ (by omega)]
    first| (rw[if_pos (by omega)];rfl)| (rw[if_neg (by omega)];simp)
   ·
    ((try dsimp only);omega)
  ·
   refine .back [.r [(0,X (Xn ((i:Int)+1)))]] [(40,40)] (ih3 ((i+1),o) ?_ ?_)
   ·
    refine⟨by omega,?_⟩
    rw[I3.2];unfold refsF;rw[z38 _ (by omega)]
    first| (rw[if_pos (by omega)];rfl)| (rw[if_neg (by omega)];simp)
   ·
    ((try dsimp only);omega)
 ·
  have e1:((refsF f):List Int)=o:=by
   rw[I3.2,List.take_of_length_le (by omega)]
  have e2:((refsF f).length:Nat)=o.length:=by
   rw[I3.2,List.take_of_length_le (by omega)]
  exact .finE [.r []] [(40,0)] (fun((z0,z1):(List Int)×Nat)=>(.row 0 z1,[(0,OR 1 intT z0)])) _ _ (pr e1 e2)
theorem z8T(n:Node)(hb:NodeB n):FC Tryz.prog 74 [.t (nodeT n)] (app emp []) (VL 1 intT (refsN n)) (app emp []):=by
 refine .go Tryz.f74 ?_
 have b1:=hb.fl2
 have b2:=hb.ce2
 have b3:(refsF n.flow).length≤n.flow.length:=List.length_filterMap_le _ _
 refine .loop (α:=Nat×(List Int)) [.r [],.r [(2,X (Xc1 32 (z5Z n.flow (by first|omega|simp)) X0))],.r [(3,X (Xl cellT n.grid.cells))]] 88 (fun(j,p)=>([(3,.row 32 p.length),(11,VL 5 cellT n.grid.cells),(12,VI (n.grid.cells.length:Int)),(13,VI (j:Int))],[(32,OR 1 intT p)])) (fun(j,p)=>j≤n.grid.cells.length∧p=refsF n.flow++refsC (n.grid.cells.take j)) (fun(j,p)=>n.grid.cells.length-j) (0,(refsF n.flow)) ?_ ?_
 ·
  exact⟨by omega,by simp[refsC]⟩
 rintro⟨j,p⟩ I3 ih3
 try dsimp only at I3
 have ol2:p.length≤n.flow.length+j:=by rw[I3.2,List.length_append];unfold refsC;have q2:=List.length_filterMap_le (fun x:Cell=>if x.ref≠0 then some x.ref else none) (n.grid.cells.take j);rw[List.length_take] at q2;omega
 refine .bp [.r []] (decide ((j:Int)< (n.grid.cells.length:Int))) (fun h3=> ?_) (fun h3=> ?_)
 ·
  refine .bp [.r [(0,X (Xi cellT n.grid.cells (j:Int)))],.r []] ((((n.grid.cells.getD j default)).ref) !=0) (fun h5=> ?_) (fun h5=> ?_)
  ·
   refine .back [.r [(4,X (rowC intT [((n.grid.cells.getD j default)).ref] (Xap 1 intT 32 p [((n.grid.cells.getD j default)).ref])))],.r [(0,X (Xn ((j:Int)+1)))]] [(32,32)] (ih3 ((j+1),(p++[((n.grid.cells.getD j default)).ref])) ?_ ?_)
   ·
    refine⟨by omega,?_⟩
    rw[I3.2];unfold refsC;rw[z38 _ (by omega),←List.append_assoc]
    first| (rw[if_pos (by omega)];rfl)| (rw[if_neg (by omega)];simp)
   ·
    ((try dsimp only);omega)
  ·
   refine .back [.r [(0,X (Xn ((j:Int)+1)))]] [(32,32)] (ih3 ((j+1),p) ?_ ?_)
   ·
    refine⟨by omega,?_⟩
    rw[I3.2];unfold refsC;rw[z38 _ (by omega),←List.append_assoc]
    first| (rw[if_pos (by omega)];rfl)| (rw[if_neg (by omega)];simp)
   ·
    ((try dsimp only);omega)
 ·
  have e1:((refsN n):List Int)=p:=by
   rw[I3.2,List.take_of_length_le (by omega)];rfl
  exact .finE [.r [],.le (.fr 2 [(p.length:Nat)=(List.map intT p).length] ⟨lm,trivial⟩)] [] (fun z0:List Int=>(VL 1 intT z0,[])) _ _ e1
end Go.Ch
end
section
set_option linter.unusedVariables false
set_option linter.unusedSimpArgs false
set_option maxRecDepth 100000
set_option maxHeartbeats 4000000
open Go Go.Proofs Go.Ab
namespace Go.Ch
theorem y7j(l:List Int)(x:Int):FC Tryz.prog 197 [VL 1 intT l,VI x] (app emp []) (VI (idxF (fun y=>x==y) l 0)) (app emp []):=by
 refine .go Tryz.f197 ?_
 refine .len 0 (fun hl0=> ?_)
 refine .loop (α:=Nat) [.r [],.r [(1,X (Xl intT l))]] 32 (fun i=>([(0,VL 1 intT l),(1,VI x),(7,VI (l.length:Int)),(8,VI (i:Int))],[])) (fun i=>i≤l.length∧idxF (fun y=>x==y) l 0=idxF (fun y=>x==y) l i) (fun i=>l.length-i) (0:Nat) ?_ ?_
 ·
  exact⟨by omega,rfl⟩
 rintro i I2 ih2
 try dsimp only at I2
 refine .bp [.r []] (decide ((i:Int)< (l.length:Int))) (fun h2=> ?_) (fun h2=> ?_)
 ·
  refine .bp [.r [],.r [(3,X (Xi intT l (i:Int)))]] (x==(l.getD i default)) (fun h4=> ?_) (fun h4=> ?_)
  ·
   have e1:((idxF (fun y=>x==y) l 0):Int)=(i:Int):=by
    rw[I2.2,idxF,if_pos (by omega),if_pos (by simpa using h4)]
   exact .finE [.r []] [] (fun z0:Int=>(VI z0,[])) _ _ e1
  ·
   refine .back [.r [(0,X (Xn ((i:Int)+1)))]] [] (ih2 ((i+1):Nat) ?_ ?_)
   ·
    exact⟨by omega,by rw[I2.2,idxF,if_pos (by omega),if_neg (by simpa using h4)]⟩
   ·
    ((try dsimp only);omega)
 ·
  have e2:((idxF (fun y=>x==y) l 0):Int)= -1:=by
   rw[I2.2,idxF,if_neg (by omega)]
  exact .finE [.r []] [] (fun z0:Int=>(VI z0,[])) _ _ e2
theorem z2a(l:List Int)(x:Int):FC Tryz.prog 164 [VL 1 intT l,VI x] (app emp []) (VB (l.any (fun y=>x==y))) (app emp []):=by
 refine .go Tryz.f164 ?_
 refine .len 0 (fun hl0=> ?_)
 have e1:((l.any (fun y=>x==y)):Bool)=decide ((idxF (fun y=>x==y) l 0)≥0):=by
  rw[Bool.eq_iff_iff];simp only[decide_eq_true_eq,ge_iff_le];rw[y0X]
 exact .finE [.r [],.r [(2,X (Xc0 (y7j l x) X0))]] [] (fun z0:Bool=>(VB z0,[])) _ _ e1
theorem y08(p k:Int):FC Tryz.prog 123 [VI p,VI k] (app emp []) (VB (permB p k)) (app emp []):=by
 refine .go Tryz.f123 ?_
 refine .bp [.r [],.r [],.r [],.r []] (p==0) (fun h3=> ?_) (fun h3=> ?_)
 ·
  have e1:((permB p k):Bool)=(([1,6,7,10,11,12]).any (fun y=>k==y)):=by
   rw[Bool.eq_iff_iff];unfold permB hasT;simp only[List.any_cons,List.any_nil,Bool.or_false,Bool.or_eq_true,beq_iff_eq,Bool.false_eq_true,false_iff,iff_false];(repeat' split)<;>(try simp only[Bool.or_eq_true,beq_iff_eq,Bool.false_eq_true,false_iff])<;>first|omega| (simp;done)
  exact .finE [.r [],.r [(2,X (Xc0 (z2a [1,6,7,10,11,12] k) (rowC intT [1,6,7,10,11,12] X0)))]] [] (fun z0:Bool=>(VB z0,[])) _ _ e1
 ·
  refine .bp [.r []] (p==1) (fun h5=> ?_) (fun h5=> ?_)
  ·
   have e2:((permB p k):Bool)=(([2,4,5,10]).any (fun y=>k==y)):=by
    rw[Bool.eq_iff_iff];unfold permB hasT;simp only[List.any_cons,List.any_nil,Bool.or_false,Bool.or_eq_true,beq_iff_eq,Bool.false_eq_true,false_iff,iff_false];(repeat' split)<;>(try simp only[Bool.or_eq_true,beq_iff_eq,Bool.false_eq_true,false_iff])<;>first|omega| (simp;done)
   exact .finE [.r [],.r [(2,X (Xc0 (z2a [2,4,5,10] k) (rowC intT [2,4,5,10] X0)))]] [] (fun z0:Bool=>(VB z0,[])) _ _ e2
  ·
   refine .bp [.r []] (p==3) (fun h7=> ?_) (fun h7=> ?_)
   ·
    have e3:((permB p k):Bool)=(([4,5,10]).any (fun y=>k==y)):=by
     rw[Bool.eq_iff_iff];unfold permB hasT;simp only[List.any_cons,List.any_nil,Bool.or_false,Bool.or_eq_true,beq_iff_eq,Bool.false_eq_true,false_iff,iff_false];(repeat' split)<;>(try simp only[Bool.or_eq_true,beq_iff_eq,Bool.false_eq_true,false_iff])<;>first|omega| (simp;done)
    exact .finE [.r [],.r [(2,X (Xc0 (z2a [4,5,10] k) (rowC intT [4,5,10] X0)))]] [] (fun z0:Bool=>(VB z0,[])) _ _ e3
   ·
    refine .bp [.r []] (p==4) (fun h9=> ?_) (fun h9=> ?_)
    ·
     refine .bp [] (p==4) (fun h9=> ?_) (fun h9=> ?_)
     ·
      have e4:((permB p k):Bool)=(([5]).any (fun y=>k==y)):=by
       rw[Bool.eq_iff_iff];unfold permB hasT;simp only[List.any_cons,List.any_nil,Bool.or_false,Bool.or_eq_true,beq_iff_eq,Bool.false_eq_true,false_iff,iff_false];(repeat' split)<;>(try simp only[Bool.or_eq_true,beq_iff_eq,Bool.false_eq_true,false_iff])<;>first|omega| (simp;done)
      exact .finE [.r [],.r [(2,X (Xc0 (z2a [5] k) (rowC intT [5] X0)))]] [] (fun z0:Bool=>(VB z0,[])) _ _ e4
     ·
      refine .bp [.r []] (p==2) (fun h12=> ?_) (fun h12=> ?_)
      ·
       have e5:((permB p k):Bool)=(([3]).any (fun y=>k==y)):=by
        rw[Bool.eq_iff_iff];unfold permB hasT;simp only[List.any_cons,List.any_nil,Bool.or_false,Bool.or_eq_true,beq_iff_eq,Bool.false_eq_true,false_iff,iff_false];(repeat' split)<;>(try simp only[Bool.or_eq_true,beq_iff_eq,Bool.false_eq_true,false_iff])<;>first|omega| (simp;done)
       exact .finE [.r [],.r [(2,X (Xc0 (z2a [3] k) (rowC intT [3] X0)))]] [] (fun z0:Bool=>(VB z0,[])) _ _ e5
      ·
       refine .bp [.r []] (p==7) (fun h14=> ?_) (fun h14=> ?_)
       ·
        have e6:((permB p k):Bool)=(([8,9]).any (fun y=>k==y)):=by
         rw[Bool.eq_iff_iff];unfold permB hasT;simp only[List.any_cons,List.any_nil,Bool.or_false,Bool.or_eq_true,beq_iff_eq,Bool.false_eq_true,false_iff,iff_false];(repeat' split)<;>(try simp only[Bool.or_eq_true,beq_iff_eq,Bool.false_eq_true,false_iff])<;>first|omega| (simp;done)
        exact .finE [.r [],.r [(2,X (Xc0 (z2a [8,9] k) (rowC intT [8,9] X0)))]] [] (fun z0:Bool=>(VB z0,[])) _ _ e6
       ·
        have e7:((permB p k):Bool)=(([]).any (fun y=>k==y)):=by
         rw[Bool.eq_iff_iff];unfold permB hasT;simp only[List.any_cons,List.any_nil,Bool.or_false,Bool.or_eq_true,beq_iff_eq,Bool.false_eq_true,false_iff,iff_false];(repeat' split)<;>(try simp only[Bool.or_eq_true,beq_iff_eq,Bool.false_eq_true,false_iff])<;>first|omega| (simp;done)
        exact .finE [.r [(2,X (Xc0 (.nil 0 1 (z2a [] k)) X0))]] [] (fun z0:Bool=>(VB z0,[])) _ _ e7
    ·
     refine .bp [.r []] (p==12) (fun h10=> ?_) (fun h10=> ?_)
     ·
      have e8:((permB p k):Bool)=(([5]).any (fun y=>k==y)):=by
       rw[Bool.eq_iff_iff];unfold permB hasT;simp only[List.any_cons,List.any_nil,Bool.or_false,Bool.or_eq_true,beq_iff_eq,Bool.false_eq_true,false_iff,iff_false];(repeat' split)<;>(try simp only[Bool.or_eq_true,beq_iff_eq,Bool.false_eq_true,false_iff])<;>first|omega| (simp;done)
      exact .finE [.r [],.r [(2,X (Xc0 (z2a [5] k) (rowC intT [5] X0)))]] [] (fun z0:Bool=>(VB z0,[])) _ _ e8
     ·
      refine .bp [.r []] (p==2) (fun h12=> ?_) (fun h12=> ?_)
      ·
       have e9:((permB p k):Bool)=(([3]).any (fun y=>k==y)):=by
        rw[Bool.eq_iff_iff];unfold permB hasT;simp only[List.any_cons,List.any_nil,Bool.or_false,Bool.or_eq_true,beq_iff_eq,Bool.false_eq_true,false_iff,iff_false];(repeat' split)<;>(try simp only[Bool.or_eq_true,beq_iff_eq,Bool.false_eq_true,false_iff])<;>first|omega| (simp;done)
       exact .finE [.r [],.r [(2,X (Xc0 (z2a [3] k) (rowC intT [3] X0)))]] [] (fun z0:Bool=>(VB z0,[])) _ _ e9
      ·
       refine .bp [.r []] (p==7) (fun h14=> ?_) (fun h14=> ?_)
       ·
        have e10:((permB p k):Bool)=(([8,9]).any (fun y=>k==y)):=by
         rw[Bool.eq_iff_iff];unfold permB hasT;simp only[List.any_cons,List.any_nil,Bool.or_false,Bool.or_eq_true,beq_iff_eq,Bool.false_eq_true,false_iff,iff_false];(repeat' split)<;>(try simp only[Bool.or_eq_true,beq_iff_eq,Bool.false_eq_true,false_iff])<;>first|omega| (simp;done)
        exact .finE [.r [],.r [(2,X (Xc0 (z2a [8,9] k) (rowC intT [8,9] X0)))]] [] (fun z0:Bool=>(VB z0,[])) _ _ e10
       ·
        have e11:((permB p k):Bool)=(([]).any (fun y=>k==y)):=by
         rw[Bool.eq_iff_iff];unfold permB hasT;simp only[List.any_cons,List.any_nil,Bool.or_false,Bool.or_eq_true,beq_iff_eq,Bool.false_eq_true,false_iff,iff_false];(repeat' split)<;>(try simp only[Bool.or_eq_true,beq_iff_eq,Bool.false_eq_true,false_iff])<;>first|omega| (simp;done)
        exact .finE [.r [(2,X (Xc0 (.nil 0 1 (z2a [] k)) X0))]] [] (fun z0:Bool=>(VB z0,[])) _ _ e11
theorem z39(d:Doc)(k:Int)(rs:List Int)(hl:d.nodes.length≤1048576)(hs:SortN d.nodes):FC Tryz.prog 73 [.t (docT d),VI k,VL 1 intT rs] (app emp []) (VI (refsE d.nodes k rs 0)) (app emp []):=by
 refine .go Tryz.f73 ?_
 refine .len 2 (fun hl2=> ?_)
 refine .loop (α:=Nat) [.r [],.r [(1,X (Xl intT rs))]] 40 (fun i=>([(1,VI k),(3,.ptr 0 0),(11,VL 1 intT rs),(12,VI (rs.length:Int)),(13,VI (i:Int))],[(0,.box [VL 9 nodeT d.nodes])])) (fun i=>i≤rs.length∧refsE d.nodes k rs 0=refsE d.nodes k rs i) (fun i=>rs.length-i) (0:Nat) ?_ ?_
 ·
  exact⟨by omega,rfl⟩
 rintro i I2 ih2
 try dsimp only at I2
 refine .bp [.r []] (decide ((i:Int)< (rs.length:Int))) (fun h2=> ?_) (fun h2=> ?_)
 ·
  refine .bp [.r [(0,X (Xi intT rs (i:Int)))],.r [(2,X (Xc0 (z7K d (rs.getD i default) (by assumption) (by assumption)) X0))],.r []] (!(hasN (d).nodes (rs.getD i default))) (fun h5=> ?_) (fun h5=> ?_)
  ·
   have e1:((refsE d.nodes k rs 0):Int)=7:=by
    exact I2.2.trans (y2d (by omega) (y7i hs h5))
   exact .finE [.r []] [] (fun z0:Int=>(VI z0,[])) _ _ e1
  ·
   obtain⟨q1,q2⟩:=z08.1 h5
   have hf:=y5x hs h5
   refine .bp [.r [(4,X (Xi nodeT d.nodes (lobN (d).nodes (rs.getD i default):Int))),(7,X (Xc0 (y08 k (((d.nodes.getD (lobN (d).nodes (rs.getD i default)) default)).kind)) X0))]] (!(permB k (((d.nodes.getD (lobN (d).nodes (rs.getD i default)) default)).kind))) (fun h7=> ?_) (fun h7=> ?_)
   ·
    have e2:((refsE d.nodes k rs 0):Int)=8:=by
     exact I2.2.trans (y2e (by omega) (by omega) (by rw[hf];exact h7))
    exact .finE [.r []] [] (fun z0:Int=>(VI z0,[])) _ _ e2
   ·
    refine .back [.r [(0,X (Xn ((i:Int)+1)))]] [(0,0)] (ih2 ((i+1):Nat) ?_ ?_)
    ·
     exact⟨by omega,I2.2.trans (y2f (by omega) (by omega) (by rw[hf];exact h7))⟩
    ·
     ((try dsimp only);omega)
 ·
  have e3:((refsE d.nodes k rs 0):Int)=0:=by
   exact I2.2.trans (y3C (by omega))
  exact .finE [.r []] [] (fun z0:Int=>(VI z0,[])) _ _ e3
theorem z8U(k:Int)(l:List Cell):FC Tryz.prog 121 [VI k,VL 5 cellT l] (app emp []) (VI (cellK k l 0)) (app emp []):=by
 refine .go Tryz.f121 ?_
 refine .len 1 (fun hl1=> ?_)
 refine .loop (α:=Nat) [.r [],.r [(1,X (Xl cellT l))]] 32 (fun i=>([(0,VI k),(7,VL 5 cellT l),(8,VI (l.length:Int)),(9,VI (i:Int))],[])) (fun i=>i≤l.length∧cellK k l 0=cellK k l i) (fun i=>l.length-i) (0:Nat) ?_ ?_
 ·
  exact⟨by omega,rfl⟩
 rintro i I2 ih2
 try dsimp only at I2
 refine .bp [.r []] (decide ((i:Int)< (l.length:Int))) (fun h2=> ?_) (fun h2=> ?_)
 ·
  refine .bp [.r [(0,X (Xi cellT l (i:Int)))],.r [(4,Xv 1 (k==2) X0),(5,Xv 1 (k==2) X0),(6,Xv 1 (k==2) X0),(8,Xv 1 ((k==2)&& !(!(seq (((l.getD i default)).text) ({data:=#[]})))) X0),(9,Xv 1 ((k==2)&& !(!(seq (((l.getD i default)).text) ({data:=#[]})))) (Xl attrT (((l.getD i default)).attrs))),(10,Xv 1 ((k==2)&& !(!(seq (((l.getD i default)).text) ({data:=#[]})))) X0),(11,Xko (k==2) (!(seq (((l.getD i default)).text) ({data:=#[]})))),(12,X (Xk (k==2))),(15,Xv 1 (!((k==2)&&(!(seq (((l.getD i default)).text) ({data:=#[]}))||decide (((((l.getD i default)).attrs).length:Int)> 0)))) X0),(16,Xv 1 (!((k==2)&&(!(seq (((l.getD i default)).text) ({data:=#[]}))||decide (((((l.getD i default)).attrs).length:Int)> 0)))) X0),(18,Xv 1 ((!((k==2)&&(!(seq (((l.getD i default)).text) ({data:=#[]}))||decide (((((l.getD i default)).attrs).length:Int)> 0))))&&(k==6)) X0),(19,Xv 1 ((!((k==2)&&(!(seq (((l.getD i default)).text) ({data:=#[]}))||decide (((((l.getD i default)).attrs).length:Int)> 0))))&&(k==6)) X0),(20,Xka (!((k==2)&&(!(seq (((l.getD i default)).text) ({data:=#[]}))||decide (((((l.getD i default)).attrs).length:Int)> 0)))) (k==6)),(21,X (Xk' ((k==2)&&(!(seq (((l.getD i default)).text) ({data:=#[]}))||decide (((((l.getD i default)).attrs).length:Int)> 0)))))]] (((k==2)&&(!(seq (((l.getD i default)).text) ({data:=#[]}))||decide (((((l.getD i default)).attrs).length:Int)> 0)))|| ((k==6)&&((((l.getD i default)).ref) !=0))) (fun h4=> ?_) (fun h4=> ?_)
  ·
   have e1:((cellK k l 0):Int)=4:=by
    rw[I2.2,cellK,if_pos (by omega),if_pos]
    exact h4.imp (fun q=>⟨q.1,q.2.imp id (fun z=>by omega)⟩) id
   exact .finE [.r []] [] (fun z0:Int=>(VI z0,[])) _ _ e1
  ·
   refine .back [.r [(0,X (Xn ((i:Int)+1)))]] [] (ih2 ((i+1):Nat) ?_ ?_)
   ·
    refine⟨by omega,?_⟩
    rw[I2.2,cellK,if_pos (by omega),if_neg]
    rintro(⟨a,b|b⟩| ⟨a,b⟩)
    ·rcases h4.1 with q|q
     ·exact q a
     ·rw[q.1] at b;cases b
    ·rcases h4.1 with q|q
     ·exact q a
     ·omega
    ·rcases h4.2 with q|q
     ·exact q a
     ·exact b q
   ·
    ((try dsimp only);omega)
 ·
  have e2:((cellK k l 0):Int)=0:=by
   rw[I2.2,cellK,if_neg (by omega)]
  exact .finE [.r []] [] (fun z0:Int=>(VI z0,[])) _ _ e2
theorem y7k(l:List Rect):FC Tryz.prog 153 [VL 4 rectT l,VN] (app emp []) (VB ((l.length:Int)==0)) (app emp []):=by
 refine .go Tryz.f153 ?_
 refine .len 0 (fun hl0=> ?_)
 refine .bp [.r [],.r [(1,X (Xl rectT l))]] ((l.length:Int) !=0) (fun h1=> ?_) (fun h1=> ?_)
 ·
  have e1:(((l.length:Int)==0):Bool)=false:=by
   rw[beq_eq_false_iff_ne];exact h1
  exact .finE [.r []] [] (fun z0:Bool=>(VB z0,[])) _ _ e1
 ·
  refine .loop (α:=Nat) [.r [(1,X (Xl rectT l))]] 72 (fun i=>([(0,VL 4 rectT l),(1,VN),(12,VI (l.length:Int)),(13,VI (i:Int))],[])) (fun i=>i=0) (fun i=>0) (0:Nat) ?_ ?_
  ·
   rfl
  rintro i I4 ih4
  try dsimp only at I4
  refine .bp [.r []] (decide ((i:Int)< (l.length:Int))) (fun h4=> ?_) (fun h4=> ?_)
  ·
   exfalso
   omega
  ·
   have e2:(((l.length:Int)==0):Bool)=true:=by
    rw[beq_iff_eq];exact h1
   exact .finE [.r []] [] (fun z0:Bool=>(VB z0,[])) _ _ e2
theorem y7l(l:List Cell):FC Tryz.prog 154 [VL 5 cellT l,VN,.fn 155 []] (app emp []) (VB ((l.length:Int)==0)) (app emp []):=by
 refine .go Tryz.f154 ?_
 refine .len 0 (fun hl0=> ?_)
 refine .bp [.r [],.r [(1,X (Xl cellT l))]] ((l.length:Int) !=0) (fun h1=> ?_) (fun h1=> ?_)
 ·
  have e1:(((l.length:Int)==0):Bool)=false:=by
   rw[beq_eq_false_iff_ne];exact h1
  exact .finE [.r []] [] (fun z0:Bool=>(VB z0,[])) _ _ e1
 ·
  refine .loop (α:=Nat) [.r [(1,X (Xl cellT l))]] 72 (fun i=>([(1,VN),(2,.fn 155 []),(15,VL 5 cellT l),(16,VI (l.length:Int)),(17,VI (i:Int))],[])) (fun i=>i=0) (fun i=>0) (0:Nat) ?_ ?_
  ·
   rfl
  rintro i I4 ih4
  try dsimp only at I4
  refine .bp [.r []] (decide ((i:Int)< (l.length:Int))) (fun h4=> ?_) (fun h4=> ?_)
  ·
   exfalso
   omega
  ·
   have e2:(((l.length:Int)==0):Bool)=true:=by
    rw[beq_iff_eq];exact h1
   exact .finE [.r []] [] (fun z0:Bool=>(VB z0,[])) _ _ e2
end Go.Ch
end
section
set_option linter.unusedVariables false
set_option linter.unusedSimpArgs false
namespace Go.Ch
open Go Go.Ab
structure DStep where
 kind:Int
 n:Int
 attrs:List Attr
 elems:List Elem
instance:Inhabited DStep:=⟨⟨0,0,[],[]⟩⟩
def z0c(s:DStep):Tree:= .agg [.sc (.int .i64 s.kind),.sc (.int .i64 s.n),.lst 2 (s.attrs.map attrT),.lst 3 (s.elems.map elemT)]
def AN(n:Nat)(l:List Elem):Prop:=∀x∈l,x.attrs.length≤n
def stepD(s:DStep):Int:=
 if s.kind=1 then(if s.n≠0∨0<s.attrs.length then 4 else if s.elems.length=0 then 11 else partE s.elems 0)
 else if s.kind=0∨s.kind=2 then
  (if 0<s.elems.length∨(s.kind=2∧0<s.attrs.length) then 4 else if s.n<1∨2147483647<s.n then 2 else chkA true s.attrs 0)
 else 8
def szD(s:DStep):Int:=if s.kind=1 then(s.elems.length:Int) else s.n
def DOk(s:DStep):Prop:=
 (s.kind=1∧s.n=0∧s.attrs=[]∧s.elems≠[]∧∀x∈s.elems,elemE x=0)∨
 ((s.kind=0∨s.kind=2)∧s.elems=[]∧(s.kind=2→s.attrs=[])∧1≤s.n∧s.n≤2147483647∧VG true s.attrs)
theorem len0{α:Type}{l:List α}:¬0<l.length↔l=[]:=by
 rw[Nat.not_lt,Nat.le_zero,List.length_eq_zero_iff]
theorem z0K{s:DStep}:stepD s=0↔DOk s:=by
 unfold stepD DOk
 by_cases k1:s.kind=1
 ·rw[if_pos k1]
  by_cases c1:s.n≠0∨0<s.attrs.length
  ·rw[if_pos c1]
   constructor
   ·intro h;omega
   ·rintro(⟨_,h1,h2,_⟩| ⟨h,_⟩)
    ·rw[h2] at c1;simp at c1;omega
    ·omega
  rw[if_neg c1]
  by_cases c2:s.elems.length=0
  ·rw[if_pos c2]
   constructor
   ·intro h;omega
   ·rintro(⟨_,_,_,h,_⟩| ⟨h,_⟩)
    ·exact absurd (List.length_eq_zero_iff.1 c2) h
    ·omega
  rw[if_neg c2,y5n]
  have ha:s.attrs=[]:=len0.1 (by omega)
  constructor
  ·intro h
   exact .inl ⟨k1,by omega,ha,fun e=>c2 (by rw[e];rfl),h⟩
  ·rintro(⟨_,_,_,_,h⟩| ⟨h,_⟩)
   ·exact h
   ·omega
 rw[if_neg k1]
 by_cases k2:s.kind=0∨s.kind=2
 ·rw[if_pos k2]
  by_cases c1:0<s.elems.length∨(s.kind=2∧0<s.attrs.length)
  ·rw[if_pos c1]
   constructor
   ·intro h;omega
   ·rintro(⟨h,_⟩| ⟨_,h1,h2,_⟩)
    ·omega
    ·rcases c1 with c| ⟨c,d⟩
     ·rw[h1] at c;simp at c
     ·rw[h2 c] at d;simp at d
  rw[if_neg c1]
  by_cases c2:s.n<1∨2147483647<s.n
  ·rw[if_pos c2]
   constructor
   ·intro h;omega
   ·rintro(⟨h,_⟩| ⟨_,_,_,h1,h2,_⟩)<;>omega
  rw[if_neg c2,z0Q]
  constructor
  ·intro h
   exact .inr ⟨k2,len0.1 (by omega),fun h2=>len0.1 (by omega),by omega,by omega,h⟩
  ·rintro(⟨h,_⟩| ⟨_,_,_,_,_,h⟩)
   ·omega
   ·exact h
 ·rw[if_neg k2]
  constructor
  ·intro h;omega
  ·rintro(⟨h,_⟩| ⟨h,_⟩)
   ·omega
   ·exact absurd h k2
theorem z01{s:DStep}(h:stepD s=0):(s.kind=0∨s.kind=1∨s.kind=2)∧0≤s.n∧s.n≤2147483647∧1≤szD s∧szD s≤max 2147483647 s.elems.length:=by
 unfold szD
 rcases z0K.1 h with⟨k,n,a,e,_⟩| ⟨k,_,_,n1,n2,_⟩
 ·have:0<s.elems.length:=List.length_pos_iff.2 e
  rw[if_pos k];omega
 ·rw[if_neg (by omega)];omega
def adjD(w x:DStep):Bool:=((w.kind==x.kind)&&((x.kind !=0)||sameL w.attrs x.attrs))|| ((w.kind==2)&&(x.kind==1))
theorem z5f{w x:DStep}:adjD w x=true↔(w.kind=x.kind∧(¬x.kind=0∨sameL w.attrs x.attrs=true))∨(w.kind=2∧x.kind=1):=by
 unfold adjD;simp
theorem z28{w x:DStep}(h:(¬w.kind=x.kind∨(x.kind=0∧sameL w.attrs x.attrs=false))∧(¬w.kind=2∨¬x.kind=1)):¬adjD w x=true:=by
 rw[z5f]
 rintro(⟨a,b⟩| ⟨a,b⟩)
 ·rcases h.1 with c| ⟨c,d⟩
  ·exact c a
  ·rcases b with b|b
   ·exact b c
   ·rw[d] at b;cases b
 ·rcases h.2 with c|c
  ·exact c a
  ·exact c b
def DN(n:Nat)(l:List DStep):Prop:=∀s∈l,s.elems.length≤n∧s.attrs.length≤n∧AN n s.elems
theorem DN.at_{n:Nat}{l:List DStep}(h:DN n l){k:Nat}(hk:k<l.length):(l.getD k default).elems.length≤n∧(l.getD k default).attrs.length≤n∧AN n (l.getD k default).elems:=by
 refine h _ ?_
 rw[show l.getD k default=l[k] by simp[List.getD,List.getElem?_eq_getElem hk]]
 exact List.getElem_mem hk
def chkD(l:List DStep)(i:Nat)(b a:Int):Int:=
 if i<l.length then
  if stepD (l.getD i default)≠0 then stepD (l.getD i default)
  else if 0<i∧adjD (l.getD (i- 1) default) (l.getD i default)=true then 5
  else chkD l (i+1) (if(l.getD i default).kind≠1 then min (b+(l.getD i default).n) 2147483648 else b) (if(l.getD i default).kind≠2 then min (a+szD (l.getD i default)) 2147483648 else a)
 else if 2147483647<b∨2147483647<a then 3 else 0
termination_by l.length-i
def z0V(l:List DStep):Int:=chkD l 0 0 0
def oS(s:DStep):Int:=if s.kind=1 then 0 else s.n
def nS(s:DStep):Int:=if s.kind=2 then 0 else szD s
def oldD:List DStep→Int
 | []=>0
 |s::l=>oS s+oldD l
def newD:List DStep→Int
 | []=>0
 |s::l=>nS s+newD l
def DForm:List DStep→Prop
 | []=>True
 | [s]=>DOk s
 |s::t::l=>DOk s∧adjD s t=false∧DForm (t::l)
def z3D(l:List DStep)(i:Nat):Prop:=∀k,i≤k→k<l.length→DOk (l.getD k default)∧(0<k→adjD (l.getD (k- 1) default) (l.getD k default)=false)
theorem dropD{α:Type}[Inhabited α]{l:List α}{i:Nat}(h:i<l.length):l.drop i=l.getD i default::l.drop (i+1):=by
 rw[List.drop_eq_getElem_cons h];simp[List.getD,List.getElem?_eq_getElem h]
theorem oS_nn{s:DStep}(h:DOk s):0≤oS s∧0≤nS s:=by
 have:=z01 (z0K.2 h)
 unfold oS nS
 constructor<;>split<;>omega
theorem y09{l:List DStep}{i:Nat}(h:z3D l i):∀s∈l.drop i,DOk s:=by
 intro s hs
 obtain⟨k,hk,e⟩:=List.mem_iff_getElem.1 hs
 rw[List.length_drop] at hk
 have:=(h (i+k) (by omega) (by omega)).1
 rw[List.getElem_drop] at e
 rw[←e]
 simpa[List.getD,List.getElem?_eq_getElem (show i+k<l.length by omega)] using this
theorem z7L:∀{l:List DStep},(∀s∈l,DOk s)→0≤oldD l∧0≤newD l
 | [],_=>⟨Int.le_refl _,Int.le_refl _⟩
 |s::l,h=>by
  have h1:=oS_nn (h s (by simp))
  have h2:=z7L (l:=l) (fun t ht=>h t (by simp[ht]))
  simp only[oldD,newD];omega
theorem y1a(l:List DStep):∀(m i:Nat) (b a:Int),l.length-i=m→0≤b→0≤a→b≤2147483648→a≤2147483648→
 (chkD l i b a=0↔z3D l i∧b+oldD (l.drop i)≤2147483647∧a+newD (l.drop i)≤2147483647)
 |0,i,b,a,h,hb,ha,hb2,ha2=>by
  rw[chkD,if_neg (by omega),List.drop_eq_nil_of_le (by omega)]
  simp only[oldD,newD]
  split
  ·constructor
   ·intro h;omega
   ·rintro⟨_,h1,h2⟩;omega
  ·exact⟨fun _=>⟨fun k h1 h2=>by omega,by omega,by omega⟩,fun _=>rfl⟩
 |m+1,i,b,a,h,hb,ha,hb2,ha2=>by
  have hi:i<l.length:=by omega
  rw[chkD,if_pos hi]
  have step:z3D l i↔(DOk (l.getD i default)∧(0<i→adjD (l.getD (i- 1) default) (l.getD i default)=false))∧z3D l (i+1):=by
   constructor
   ·exact fun h=>⟨h i (Nat.le_refl _) hi,fun k h1 h2=>h k (by omega) h2⟩
   ·rintro⟨h1,h2⟩ k h3 h4
    by_cases e:k=i
    ·subst e;exact h1
    ·exact h2 k (by omega) h4
  rw[step,dropD hi]
  simp only[oldD,newD]
  have ih:=fun b' a'=>y1a l m (i+1) b' a' (by omega)
  have nn:=fun f:z3D l (i+1)=>z7L (y09 f)
  generalize l.getD i default=x at*
  generalize l.getD (i- 1) default=y at*
  by_cases c1:stepD x≠0
  ·rw[if_pos c1];constructor
   ·intro h;exact absurd h c1
   ·rintro⟨⟨⟨h,_⟩,_⟩,_⟩;exact absurd (z0K.2 h) c1
  rw[if_neg c1]
  have hs:=z0K.1 (by omega:stepD x=0)
  have hz:=z01 (by omega:stepD x=0)
  by_cases c3:0<i∧adjD y x=true
  ·rw[if_pos c3];constructor
   ·intro h;omega
   ·rintro⟨⟨⟨_,h⟩,_⟩,_⟩
    have:=h c3.1
    rw[c3.2] at this;cases this
  rw[if_neg c3,ih _ _ (by split<;>omega) (by split<;>omega) (by split<;>omega) (by split<;>omega)]
  unfold oS nS
  constructor
  ·rintro⟨f,h1,h2⟩
   obtain⟨n0,n1⟩:=nn f
   refine⟨⟨⟨hs,fun h0=> ?_⟩,f⟩,?_,?_⟩
   ·cases e:adjD y x
    ·rfl
    ·exact absurd ⟨h0,e⟩ c3
   ·by_cases k1:x.kind=1
    ·rw[if_pos k1];rw[if_neg (by omega)] at h1;omega
    ·rw[if_neg k1];rw[if_pos k1] at h1;omega
   ·by_cases k1:x.kind=2
    ·rw[if_pos k1];rw[if_neg (by omega)] at h2;omega
    ·rw[if_neg k1];rw[if_pos k1] at h2;omega
  ·rintro⟨⟨_,f⟩,h1,h2⟩
   obtain⟨n0,n1⟩:=nn f
   refine⟨f,?_,?_⟩
   ·by_cases k1:x.kind=1
    ·rw[if_pos k1] at h1;rw[if_neg (by omega)];omega
    ·rw[if_neg k1] at h1;rw[if_pos k1];omega
   ·by_cases k1:x.kind=2
    ·rw[if_pos k1] at h2;rw[if_neg (by omega)];omega
    ·rw[if_neg k1] at h2;rw[if_pos k1];omega
theorem z50:∀{l:List DStep},z3D l 0→DForm l
 | [],_=>trivial
 | [s],h=>(h 0 (Nat.le_refl _) (by simp)).1
 |s::t::l,h=>by
  refine⟨(h 0 (Nat.le_refl _) (by simp)).1,(h 1 (by omega) (by simp)).2 (by omega),z50 (fun k h1 h2=> ?_)⟩
  have h2':k+1< (s::t::l).length:=by simp at h2⊢;omega
  have:=h (k+1) (by omega) h2'
  simp only[List.getD_cons_succ] at this
  refine⟨this.1,fun h0=> ?_⟩
  have e:=this.2 (by omega)
  rw[show k+1- 1=(k- 1)+1 by omega,List.getD_cons_succ] at e
  exact e
theorem z2M:∀{l:List DStep},DForm l→z3D l 0
 | [],_=>fun k h1 h2=>by simp at h2
 | [s],h=>fun k h1 h2=>by
  have:k=0:=by simp at h2;omega
  subst this
  exact⟨h,fun h0=>by omega⟩
 |s::t::l,h=>fun k h1 h2=>by
  obtain⟨a,b,c⟩:=h
  rcases k with _|k
  ·exact⟨a,fun h0=>by omega⟩
  ·have:=z2M c k (Nat.zero_le _) (by simp at h2⊢;omega)
   rw[List.getD_cons_succ]
   refine⟨this.1,fun _=> ?_⟩
   rcases k with _|k
   ·exact b
   ·rw[Nat.add_sub_cancel,List.getD_cons_succ]
    have e:=this.2 (by omega)
    rw[Nat.add_sub_cancel] at e
    exact e
def z0W(l:List DStep):Prop:=DForm l∧oldD l≤2147483647∧newD l≤2147483647
theorem z0S{l:List DStep}:z0V l=0↔z0W l:=by
 unfold z0V z0W
 rw[y1a l _ 0 0 0 rfl (Int.le_refl _) (Int.le_refl _) (by decide) (by decide)]
 simp only[List.drop_zero,Int.zero_add]
 exact⟨fun h=>⟨z50 h.1,h.2⟩,fun h=>⟨z2M h.1,h.2⟩⟩
theorem DForm.all{l:List DStep}(h:DForm l):∀s∈l,DOk s:=by
 have:=y09 (z2M h)
 simpa using this
theorem z6N{l:List DStep}{i:Nat}(h:i<l.length)(hf:DForm l):oldD (l.drop i)=(if(l.getD i default).kind=1 then 0 else(l.getD i default).n)+oldD (l.drop (i+1))∧
 newD (l.drop i)=(if(l.getD i default).kind=2 then 0 else szD (l.getD i default))+newD (l.drop (i+1))∧DOk (l.getD i default)∧0≤oldD (l.drop (i+1))∧0≤newD (l.drop (i+1))∧0≤(l.getD i default).n∧1≤szD (l.getD i default)∧((l.getD i default).kind=0∨(l.getD i default).kind=1∨(l.getD i default).kind=2):=by
 have h1:=((z2M hf) i (Nat.zero_le _) h).1
 have h2:=z01 (z0K.2 h1)
 have h3:=z7L (l:=l.drop (i+1)) (fun s hs=>hf.all s (List.mem_of_mem_drop hs))
 rw[dropD h]
 exact⟨rfl,rfl,h1,h3.1,h3.2,h2.2.1,h2.2.2.2.1,h2.1⟩
theorem dend{l:List DStep}{i:Nat}(h:l.length≤i):oldD (l.drop i)=0∧newD (l.drop i)=0:=by rw[List.drop_eq_nil_of_le h];exact⟨rfl,rfl⟩
def adjR(w x:DStep):Prop:=if x.kind=1 then w.kind≠0 else if x.kind=2 then w.kind=2 else w.kind=0∧sameL w.attrs x.attrs=true
instance (w x:DStep):Decidable (adjR w x):=by unfold adjR;infer_instance
inductive DU where
 |K (c:List Attr)
 |A (e:Elem)
 |C
def exS(s:DStep):List DU:=if s.kind=1 then s.elems.map .A else if s.kind=2 then List.replicate s.n.toNat .C else List.replicate s.n.toNat (.K s.attrs)
def exD:List DStep→List DU
 | []=>[]
 |s::l=>exS s++exD l
theorem z3E(a b:List DStep):exD (a++b)=exD a++exD b:=by
 induction a with
 |nil=>rfl
 |cons s a ih=>simp[exD,ih]
def chgE(c:List Attr)(x:Elem):Elem:=⟨x.char,x.ref,fm rawG x.attrs c⟩
def z0j:List DU→List Elem→List Elem
 | [],_=>[]
 | .A e::u,l=>e::z0j u l
 | .K c::u,x::l=>chgE c x::z0j u l
 | .C::u,_::l=>z0j u l
 | .K _::u,[]=>z0j u []
 | .C::u,[]=>z0j u []
def oldN:List DU→Nat
 | []=>0
 | .A _::u=>oldN u
 |_::u=>oldN u+1
def newN:List DU→Nat
 | []=>0
 | .C::u=>newN u
 |_::u=>newN u+1
def UOk:List DU→Prop
 | []=>True
 | .K c::u=>VG true c∧UOk u
 |_::u=>UOk u
inductive DSw:List DU→List DU→Prop
 |refl (u:List DU):DSw u u
 |cons (x:DU) {u v:List DU} (h:DSw u v):DSw (x::u) (x::v)
 |swap (e:Elem) (u:List DU):DSw (.A e:: .C::u) (.C:: .A e::u)
 |symm {u v:List DU} (h:DSw u v):DSw v u
 |trans {u v w:List DU} (h:DSw u v) (k:DSw v w):DSw u w
theorem DSw.left(w:List DU){u v:List DU}(h:DSw u v):DSw (w++u) (w++v):=by
 induction w with
 |nil=>exact h
 |cons x w ih=>exact .cons x ih
theorem DSw.right(w:List DU){u v:List DU}(h:DSw u v):DSw (u++w) (v++w):=by
 induction h with
 |refl u=>exact .refl _
 |cons x _ ih=>exact .cons x ih
 |swap e u=>exact .swap e _
 |symm _ ih=>exact .symm ih
 |trans _ _ a b=>exact .trans a b
theorem y3E{u v:List DU}(h:DSw u v):∀l,z0j u l=z0j v l:=by
 induction h with
 |refl u=>exact fun _=>rfl
 |cons x _ ih=>
  intro l
  cases x<;>cases l<;>simp[z0j,ih]
 |swap e u=>intro l;cases l<;>simp[z0j]
 |symm _ ih=>exact fun l=>(ih l).symm
 |trans _ _ a b=>exact fun l=>(a l).trans (b l)
theorem y1b{u v:List DU}(h:DSw u v):oldN u=oldN v∧newN u=newN v:=by
 induction h with
 |refl u=>exact⟨rfl,rfl⟩
 |cons x _ ih=>cases x<;>simp[oldN,newN,ih.1,ih.2]
 |swap e u=>exact⟨rfl,rfl⟩
 |symm _ ih=>exact⟨ih.1.symm,ih.2.symm⟩
 |trans _ _ a b=>exact⟨a.1.trans b.1,a.2.trans b.2⟩
theorem y5y(e:List Elem)(u:List DU):DSw (.C::(e.map .A++u)) (e.map .A++ .C::u):=by
 induction e with
 |nil=>exact .refl _
 |cons x e ih=>exact .trans (.symm (.swap x _)) (.cons _ ih)
theorem y3F(c:Nat)(e:List Elem)(u:List DU):DSw (List.replicate c .C++(e.map .A++u)) (e.map .A++(List.replicate c .C++u)):=by
 induction c with
 |zero=>exact .refl _
 |succ c ih=>exact .trans (.cons _ ih) (y5y e _)
theorem y3G(e:List Elem)(u:List DU)(l:List Elem):z0j (e.map .A++u) l=e++z0j u l:=by
 induction e with
 |nil=>rfl
 |cons x e ih=>simp[z0j,ih]
theorem z8V(n:Nat)(c:List Attr)(u:List DU):∀l:List Elem,z0j (List.replicate n (.K c)++u) l=(l.take n).map (chgE c)++z0j u (l.drop n):=by
 induction n with
 |zero=>intro l;simp
 |succ n ih=>
  intro l
  cases l with
  |nil=>have:=ih [];simpa[z0j,List.replicate_succ] using this
  |cons x l=>simp[z0j,List.replicate_succ,ih]
theorem y3H(n:Nat)(u:List DU):∀l:List Elem,z0j (List.replicate n .C++u) l=z0j u (l.drop n):=by
 induction n with
 |zero=>intro l;simp
 |succ n ih=>
  intro l
  cases l with
  |nil=>have:=ih [];simpa[z0j,List.replicate_succ] using this
  |cons x l=>simp[z0j,List.replicate_succ,ih]
def rawD(l:List Elem)(d:List DStep):List Elem:=z0j (exD d) l
theorem y8t{d:List DStep}{i:Nat}(h:i<d.length)(l:List Elem):z0j (exD (d.drop i)) l=
 if(d.getD i default).kind=1 then(d.getD i default).elems++z0j (exD (d.drop (i+1))) l
 else if(d.getD i default).kind=2 then z0j (exD (d.drop (i+1))) (l.drop (d.getD i default).n.toNat)
 else(l.take (d.getD i default).n.toNat).map (chgE (d.getD i default).attrs)++z0j (exD (d.drop (i+1))) (l.drop (d.getD i default).n.toNat):=by
 rw[dropD h,exD]
 unfold exS
 split
 ·rw[y3G]
 ·split
  ·rw[y3H]
  ·rw[z8V]
end Go.Ch
end
section
set_option linter.unusedVariables false
set_option linter.unusedSimpArgs false
namespace Go.Ch
open Go Go.Ab
structure EOp where
 kind:Int
 node:Int
 nw:Node
 attrs:List Attr
 steps:List DStep
 grid:GEd
 draw:List DOp
instance:Inhabited EOp:=⟨⟨0,0,default,[],[],default,[]⟩⟩
def eopT(o:EOp):Tree:= .agg [TI o.kind,TI o.node,TI o.nw.id,TI o.nw.kind,.lst 2 (o.nw.attrs.map attrT),.lst 3 (o.nw.flow.map elemT),TI o.nw.grid.rows,TI o.nw.grid.cols,.lst 5 (o.nw.grid.cells.map cellT),.lst 4 (o.nw.grid.merges.map rectT),.lst 8 (o.nw.draw.map dopT),
 .lst 2 (o.attrs.map attrT),.lst 4 (o.steps.map z0c),.lst 2 (o.grid.rows.map stepT),.lst 2 (o.grid.cols.map stepT),.lst 5 (o.grid.cells.map cellT),.lst 4 (o.grid.split.map rectT),.lst 4 (o.grid.merge.map rectT),.lst 8 (o.draw.map dopT)]
def z0G(n:Node):Bool:=((((n.id==0&&n.kind==0)&&sameL n.attrs [])&&((n.flow.length:Int)==0))&&zeroG n.grid)&&((n.draw.length:Int)==0)
def anyG(g:GEd):Bool:=decide ((g.rows.length:Int)+(g.cols.length:Int)+(g.cells.length:Int)+(g.split.length:Int)+(g.merge.length:Int)> 0)
def unuO(o:EOp):Bool:=
 (o.kind==0&&o.node !=0)|| (o.kind !=0&& !(z0G o.nw))|| (o.kind !=1&&decide ((o.attrs.length:Int)> 0))|| (o.kind !=2&&decide ((o.steps.length:Int)> 0))|| (o.kind !=3&&anyG o.grid)|| (o.kind !=4&&decide ((o.draw.length:Int)> 0))
def eopE(o:EOp):Int:=
 if o.kind<0∨4<o.kind then 8
 else if unuO o=true then 4
 else if o.kind=0 then nodeE o.nw
 else if o.node<1∨1073741824<o.node then 2
 else if o.kind=1 then chkA true o.attrs 0
 else if o.kind=2 then z0V o.steps
 else if o.kind=3 then edE o.grid
 else drawE o.draw 0
def eopsE(c:List EOp)(i:Nat):Int:=if i<c.length then(if eopE (c.getD i default)≠0 then eopE (c.getD i default) else eopsE c (i+1)) else 0
termination_by c.length-i
theorem y3I{c:List EOp}{i:Nat}(h:i<c.length)(he:eopE (c.getD i default)≠0):eopsE c i=eopE (c.getD i default):=by rw[eopsE,if_pos h,if_pos he]
theorem y2g{c:List EOp}{i:Nat}(h:i<c.length)(he:eopE (c.getD i default)=0):eopsE c i=eopsE c (i+1):=by rw[eopsE,if_pos h,if_neg (fun q=>q he)]
theorem y3J{c:List EOp}{i:Nat}(h:¬i<c.length):eopsE c i=0:=by rw[eopsE,if_neg h]
def z1B{α:Type}(f:α→Int):List α→Int
 | []=>0
 |x::l=>if f x≠0 then f x else z1B f l
theorem z2C{α:Type}[Inhabited α](f:α→Int){l:List α}{i:Nat}(h:i<l.length):z1B f (l.drop i)=if f (l.getD i default)≠0 then f (l.getD i default) else z1B f (l.drop (i+1)):=by
 rw[show l.drop i=l.getD i default::l.drop (i+1) from by rw[List.drop_eq_getElem_cons h];simp[List.getD,List.getElem?_eq_getElem h]];rfl
theorem z4D{α:Type}(f:α→Int){l:List α}{i:Nat}(h:l.length≤i):z1B f (l.drop i)=0:=by rw[List.drop_eq_nil_of_le h];rfl
theorem z3F{α:Type}{f:α→Int}{l:List α}(h:z1B f l=0):∀x∈l,f x=0:=by
 induction l with
 |nil=>intro x hx;cases hx
 |cons y l ih=>
  rw[z1B] at h
  split at h
  ·rename_i q;exact absurd h q
  ·rename_i q
   intro x hx
   rcases List.mem_cons.1 hx with rfl|hx
   ·exact Classical.byContradiction q
   ·exact ih h x hx
theorem z6O{α:Type}{f:α→Int}{l:List α}(h:∀x∈l,f x=0):z1B f l=0:=by
 induction l with
 |nil=>rfl
 |cons y l ih=>rw[z1B,if_neg (fun q=>q (h y List.mem_cons_self))];exact ih (fun x hx=>h x (List.mem_cons_of_mem _ hx))
def newE(l:List Node)(k:Int)(x:Elem):Int:=if x.ref=0∧hasT k=false then 8 else refsE l k (refsF [x]) 0
def addsE(l:List Node)(k:Int)(s:List DStep):Int:=z1B (fun t:DStep=>z1B (newE l k) t.elems) s
def endsD(s:List DStep):Bool:=decide ((s.length:Int)> 0)&&((s.getD (s.length- 1) default).kind==0)
def z0X(l:List Node)(n:Node)(s:List DStep):Int:=
 if hasT n.kind=false∧hasL n.kind=false then 8
 else if oldD s≠(n.flow.length:Int) then 14
 else if hasT n.kind=true∧endsD s=false then 4
 else addsE l n.kind s
def newC(l:List Node)(k:Int)(c:Cell):Int:=if c.ref=0 then 0 else refsE l k [c.ref] 0
def z06(l:List Node)(n:Node)(g:GEd):Int:=
 if hasG n.kind=false then 8
 else if cellK n.kind g.cells 0≠0 then cellK n.kind g.cells 0
 else if fitsE n.grid g≠0 then fitsE n.grid g
 else z1B (newC l n.kind) g.cells
def insN(l:List Node)(n:Node):List Node:=l.take (lobN l n.id)++n::l.drop (lobN l n.id)
def adnE(l:List Node)(n:Node):Int:=if hasN l n.id=true then 6 else refsE l n.kind (refsN n) 0
def z6P(n:Node)(c:List DOp):Int:=if hasD n.kind=false then 8 else if(z0w n.draw c).isSome then 0 else 6
def oneE(l:List Node)(o:EOp):Int:=
 if o.kind=0 then adnE l o.nw
 else if hasN l o.node=false then 7
 else if o.kind=1 then 0
 else if o.kind=2 then z0X l (l.getD (lobN l o.node) default) o.steps
 else if o.kind=3 then z06 l (l.getD (lobN l o.node) default) o.grid
 else z6P (l.getD (lobN l o.node) default) o.draw
def oneN(n:Node)(o:EOp):Node:=
 if o.kind=1 then {n with attrs:=fm rawG n.attrs o.attrs}
 else if o.kind=2 then {n with flow:=rawD n.flow o.steps}
 else if o.kind=3 then {n with grid:=rawT n.grid o.grid}
 else {n with draw:=(z0w n.draw o.draw).getD []}
def oneL(l:List Node)(o:EOp):List Node:=
 if oneE l o≠0 then l else if o.kind=0 then insN l o.nw else l.set (lobN l o.node) (oneN (l.getD (lobN l o.node) default) o)
def runE:List Node→List EOp→Int
 |_,[]=>0
 |l,o::c=>if oneE l o≠0 then oneE l o else runE (oneL l o) c
def runL:List Node→List EOp→List Node
 |l,[]=>l
 |l,o::c=>runL (oneL l o) c
def appE(d:Doc)(c:List EOp):Int:=if docE d≠0 then docE d else if eopsE c 0≠0 then eopsE c 0 else runE d.nodes c
def appD(d:Doc)(c:List EOp):Doc:=if appE d c≠0 then⟨[]⟩ else⟨runL d.nodes c⟩
theorem z8W{c:List EOp}:∀(n i:Nat),c.length-i=n→(eopsE c i=0↔∀j,i≤j→j<c.length→eopE (c.getD j default)=0)
 |0,i,h=>by rw[eopsE,if_neg (by omega)];exact⟨fun _ j h1 h2=>by omega,fun _=>rfl⟩
 |n+1,i,h=>by
  have hi:i<c.length:=by omega
  rw[eopsE,if_pos hi]
  by_cases q:eopE (c.getD i default)≠0
  ·rw[if_pos q];exact⟨fun e=>absurd e q,fun e=>absurd (e i (Nat.le_refl _) hi) q⟩
  ·rw[if_neg q,z8W n (i+1) (by omega)]
   refine⟨fun e j h1 h2=> ?_,fun e j h1 h2=>e j (by omega) h2⟩
   by_cases z:j=i
   ·subst z;exact Classical.byContradiction q
   ·exact e j (by omega) h2
theorem z5g{c:List EOp}:eopsE c 0=0↔∀o∈c,eopE o=0:=by
 rw[z8W _ 0 rfl]
 constructor
 ·intro h o ho
  obtain⟨j,hj,rfl⟩:∃j,j<c.length∧c.getD j default=o:=by
   obtain⟨j,hj,e⟩:=List.getElem_of_mem ho
   exact⟨j,hj,by simp[List.getD,hj,e]⟩
  exact h j (Nat.zero_le _) hj
 ·intro h j _ hj
  exact h _ (z0g hj)
def ixN(l:List Node)(k:Int):Int:=if hasN l k=true then(lobN l k:Int) else-1
theorem z9V{l:List Node}{k:Int}(h:hasN l k=true):ixN l k=(lobN l k:Int):=by unfold ixN;rw[if_pos h]
theorem y1c{l:List Node}{k:Int}:0≤ixN l k↔hasN l k=true:=by
 unfold ixN;split
 ·rename_i h;exact⟨fun _=>h,fun _=>by omega⟩
 ·rename_i h;exact⟨fun q=>by omega,fun q=>absurd q h⟩
theorem y1d{l:List Node}{k:Int}:ixN l k<0↔hasN l k=false:=by
 unfold ixN;split
 ·rename_i h;rw[h];exact⟨fun q=>by omega,fun q=>by cases q⟩
 ·rename_i h;exact⟨fun _=>by simpa using h,fun _=>by omega⟩
structure EopL(o:EOp):Prop where
 a:o.grid.rows.length≤1048576
 b:o.grid.cols.length≤1048576
 c:o.grid.cells.length≤1048576
 d:o.grid.split.length≤1048576
 e:o.grid.merge.length≤1048576
structure OpL(o:EOp):Prop where
 len:EopL o
 nb:NodeB o.nw
 nl:o.nw.grid.merges=[]∧NoTx o.nw.grid.cells
 at1:o.attrs.length≤1048576
 dn:DN 400000000000 o.steps
 gl:LiteE o.grid
 ga:∀c∈o.grid.cells,c.attrs.length≤1048576
 dr:o.draw.length≤1048576
structure DocL(d:Doc):Prop extends DocB d where
 lite:∀n∈d.nodes,n.grid.merges=[]∧NoTx n.grid.cells
def insR(l:List Node)(n:Node):List Node:=if adnE l n≠0 then l else insN l n
theorem ins_e{l:List Node}{n:Node}{k:Int}(h:adnE l n=k)(hk:k≠0):insR l n=l∧adnE l n=k:=by
 unfold insR;rw[h,if_pos hk];exact⟨rfl,rfl⟩
theorem ins_1{l:List Node}{n:Node}(h:hasN l n.id=true):insR l n=l∧adnE l n=6:=ins_e (by unfold adnE;rw[if_pos h]) (by decide)
theorem ins_f{l:List Node}{n:Node}(h:hasN l n.id=false):adnE l n=refsE l n.kind (refsN n) 0:=by unfold adnE;rw[if_neg (by rw[h];decide)]
theorem ins_2{l:List Node}{n:Node}(h:hasN l n.id=false)(h2:refsE l n.kind (refsN n) 0≠0):insR l n=l∧adnE l n=refsE l n.kind (refsN n) 0:=ins_e (ins_f h) h2
theorem ins_3{l:List Node}{n:Node}(h:hasN l n.id=false)(h2:refsE l n.kind (refsN n) 0=0)(h3:lobN l n.id=l.length):insR l n=l++[n]∧adnE l n=0:=by
 have e:=(ins_f h).trans h2
 unfold insR insN
 rw[e,if_neg (fun q=>q rfl),h3,List.take_length,List.drop_length]
 exact⟨rfl,rfl⟩
def z1m(l:List Node)(i:Nat)(s:List DStep):List Node:=
 if z0X l (l.getD i default) s≠0 then l else l.set i {(l.getD i default) with flow:=rawD (l.getD i default).flow s}
structure FlB(l:List Node)(i:Nat)(s:List DStep):Prop where
 len:l.length≤1048576
 sort:SortN l
 dn:DN 400000000000 s
 dv:z0W s
 an:AN 400000000000 (l.getD i default).flow
theorem z8X{l:List Node}{i:Nat}{s:List DStep}{k:Int}(h:z0X l (l.getD i default) s=k)(hk:k≠0):z1m l i s=l∧z0X l (l.getD i default) s=k:=by
 unfold z1m;rw[h,if_pos hk];exact⟨rfl,rfl⟩
theorem fl_ok{l:List Node}{i:Nat}{s:List DStep}(h:z0X l (l.getD i default) s=0):z1m l i s=l.set i {(l.getD i default) with flow:=rawD (l.getD i default).flow s}∧z0X l (l.getD i default) s=0:=by
 unfold z1m;rw[h,if_neg (fun q=>q rfl)];exact⟨rfl,rfl⟩
theorem fl_1{l:List Node}{n:Node}{s:List DStep}(h:hasT n.kind=false∧hasL n.kind=false):z0X l n s=8:=by unfold z0X;rw[if_pos h]
theorem y3K{a b:Bool}(h:a=true∨b=true):¬(a=false∧b=false):=by rintro⟨rfl,rfl⟩;rcases h with h|h<;>cases h
theorem fl_2{l:List Node}{n:Node}{s:List DStep}(h:hasT n.kind=true∨hasL n.kind=true)(h2:oldD s≠(n.flow.length:Int)):z0X l n s=14:=by unfold z0X;rw[if_neg (y3K h),if_pos h2]
theorem fl_3{l:List Node}{n:Node}{s:List DStep}(h:hasT n.kind=true∨hasL n.kind=true)(h2:oldD s=(n.flow.length:Int))(h3:hasT n.kind=true∧endsD s=false):z0X l n s=4:=by
 unfold z0X;rw[if_neg (y3K h),if_neg (fun q=>q h2),if_pos h3]
theorem fl_4{l:List Node}{n:Node}{s:List DStep}(h:hasT n.kind=true∨hasL n.kind=true)(h2:oldD s=(n.flow.length:Int))(h3:hasT n.kind=false∨endsD s=true):z0X l n s=addsE l n.kind s:=by
 unfold z0X;rw[if_neg (y3K h),if_neg (fun q=>q h2),if_neg]
 rintro⟨a,b⟩;rcases h3 with q|q
 ·rw[a] at q;cases q
 ·rw[b] at q;cases q
theorem y8u{l:List Node}{k:Int}{x:Elem}(h:x.ref=0∧hasT k=false):newE l k x=8:=by unfold newE;rw[if_pos h]
theorem y6q{l:List Node}{k:Int}{x:Elem}(h:x.ref≠0∨hasT k=true):newE l k x=refsE l k (refsF [x]) 0:=by
 unfold newE;rw[if_neg]
 rintro⟨a,b⟩;rcases h with q|q
 ·exact q a
 ·rw[b] at q;cases q
def z1w(l:List Node)(i:Nat)(g:GEd):List Node:=
 if z06 l (l.getD i default) g≠0 then l else l.set i {(l.getD i default) with grid:=rawT (l.getD i default).grid g}
structure GrB(l:List Node)(i:Nat)(g:GEd):Prop where
 len:l.length≤1048576
 sort:SortN l
 gl:LiteE g
 m:(l.getD i default).grid.merges=[]
 tx:NoTx (l.getD i default).grid.cells
 l1:(l.getD i default).grid.cells.length≤1048576
 l2:g.cells.length≤1048576
 a1:∀c∈(l.getD i default).grid.cells,c.attrs.length≤1048576
 a2:∀c∈g.cells,c.attrs.length≤1048576
 k:(l.getD i default).kind≠6
theorem y1e{l:List Node}{i:Nat}{s:GEd}{k:Int}(h:z06 l (l.getD i default) s=k)(hk:k≠0):z1w l i s=l∧z06 l (l.getD i default) s=k:=by
 unfold z1w;rw[h,if_pos hk];exact⟨rfl,rfl⟩
theorem gr_ok{l:List Node}{i:Nat}{s:GEd}(h:z06 l (l.getD i default) s=0):z1w l i s=l.set i {(l.getD i default) with grid:=rawT (l.getD i default).grid s}∧z06 l (l.getD i default) s=0:=by
 unfold z1w;rw[h,if_neg (fun q=>q rfl)];exact⟨rfl,rfl⟩
theorem gr_1{l:List Node}{n:Node}{g:GEd}(h:hasG n.kind=false):z06 l n g=8:=by unfold z06;rw[if_pos h]
theorem gr_2{l:List Node}{n:Node}{g:GEd}(h:hasG n.kind=true)(h2:cellK n.kind g.cells 0≠0):z06 l n g=cellK n.kind g.cells 0:=by unfold z06;rw[if_neg (by rw[h];decide),if_pos h2]
theorem gr_3{l:List Node}{n:Node}{g:GEd}(h:hasG n.kind=true)(h2:cellK n.kind g.cells 0=0)(h3:fitsE n.grid g≠0):z06 l n g=fitsE n.grid g:=by
 unfold z06;rw[if_neg (by rw[h];decide),if_neg (fun q=>q h2),if_pos h3]
theorem gr_4{l:List Node}{n:Node}{g:GEd}(h:hasG n.kind=true)(h2:cellK n.kind g.cells 0=0)(h3:fitsE n.grid g=0):z06 l n g=z1B (newC l n.kind) g.cells:=by
 unfold z06;rw[if_neg (by rw[h];decide),if_neg (fun q=>q h2),if_neg (fun q=>q h3)]
theorem y1f{l:List Node}{k:Int}{c:Cell}(h:c.ref≠0):newC l k c=refsE l k [c.ref] 0:=by unfold newC;rw[if_neg h]
theorem y6r{l:List Node}{k:Int}{c:Cell}(h:c.ref=0):newC l k c=0:=by unfold newC;rw[if_pos h]
theorem y1g{α:Type}[Inhabited α](f:α→Int){l:List α}{i:Nat}(h:i<l.length)(h0:f (l.getD i default)=0):z1B f (l.drop i)=z1B f (l.drop (i+1)):=by rw[z2C f h,if_neg (fun q=>q h0)]
theorem y8v{k:Int}(h:hasG k=true)(h6:k≠6)(h2:k≠2):False:=by
 unfold hasG at h;rw[Bool.or_eq_true,beq_iff_eq,beq_iff_eq] at h;omega
structure OneB(l:List Node)(o:EOp):Prop where
 len:l.length≤1048575
 sort:SortN l
 ok:eopE o=0
 op:OpL o
 all:∀n∈l,NodeB n∧(n.grid.merges=[]∧NoTx n.grid.cells)∧n.kind≠6
 last:o.kind=0→hasN l o.nw.id=false→lobN l o.nw.id=l.length
theorem OneB.base{l:List Node}{o:EOp}(h:OneB l o):l.length≤1048575∧l.length≤1048576∧SortN l:=⟨h.len,by have:=h.len;omega,h.sort⟩
theorem OneB.nw{l:List Node}{o:EOp}(h:OneB l o)(hk:o.kind=0):NodeB o.nw∧(hasN l o.nw.id=false→lobN l o.nw.id=l.length):=⟨h.op.nb,h.last hk⟩
theorem OneB.nd{l:List Node}{o:EOp}(h:OneB l o)(hh:hasN l o.node=true):(l.getD (lobN l o.node) default).attrs.length≤1048576∧o.attrs.length≤1048576:=
 ⟨(h.all _ (z0g (z08.1 hh).1)).1.at2,h.op.at1⟩
theorem OneB.fl{l:List Node}{o:EOp}(h:OneB l o)(hh:hasN l o.node=true)(hk:o.kind=2):FlB l (lobN l o.node) o.steps:=by
 have hn:=h.all _ (z0g (z08.1 hh).1)
 have he:=h.ok
 unfold eopE at he
 refine⟨h.base.2.1,h.sort,h.op.dn,z0S.1 ?_,fun x hx=>by have:=hn.1.fl3 x hx;omega⟩
 split at he
 ·cases he
 ·split at he
  ·cases he
  ·have k0:¬o.kind=0:=by omega
   have k1:¬o.kind=1:=by omega
   rw[if_neg k0] at he
   split at he
   ·cases he
   ·first|exact he| (rw[if_neg k1,if_pos hk] at he;exact he)
theorem OneB.gr{l:List Node}{o:EOp}(h:OneB l o)(hh:hasN l o.node=true)(hk:o.kind=3):GrB l (lobN l o.node) o.grid:=by
 have hn:=h.all _ (z0g (z08.1 hh).1)
 exact⟨h.base.2.1,h.sort,h.op.gl,hn.2.1.1,hn.2.1.2,hn.1.ce2,h.op.len.c,hn.1.ce3,h.op.ga,hn.2.2⟩
theorem OneB.kd{l:List Node}{o:EOp}(h:OneB l o)(h0:o.kind≠0)(h1:o.kind≠1)(h2:o.kind≠2)(h3:o.kind≠3):o.kind=4:=by
 have he:=h.ok
 unfold eopE at he
 split at he
 ·cases he
 ·omega
theorem OneB.dr{l:List Node}{o:EOp}(h:OneB l o)(hh:hasN l o.node=true)(hk:o.kind=4):(l.getD (lobN l o.node) default).draw.length≤1048576∧o.draw.length≤1048576:=
 ⟨(h.all _ (z0g (z08.1 hh).1)).1.dr1,h.op.dr⟩
theorem one_0{l:List Node}{o:EOp}(h:o.kind=0):oneL l o=insR l o.nw∧oneE l o=adnE l o.nw:=by
 have e:oneE l o=adnE l o.nw:=by unfold oneE;rw[if_pos h]
 refine⟨?_,e⟩
 unfold oneL insR;rw[e,if_pos h]
theorem one_e{l:List Node}{o:EOp}{k:Int}(h:oneE l o=k)(hk:k≠0):oneL l o=l∧oneE l o=k:=by
 unfold oneL;rw[h,if_pos hk];exact⟨rfl,rfl⟩
theorem one_1{l:List Node}{o:EOp}(h:o.kind≠0)(h2:hasN l o.node=false):oneL l o=l∧oneE l o=7:=one_e (by unfold oneE;rw[if_neg h,if_pos h2]) (by decide)
theorem one_s{l:List Node}{o:EOp}(h:o.kind≠0)(h0:oneE l o=0):oneL l o=l.set (lobN l o.node) (oneN (l.getD (lobN l o.node) default) o):=by
 unfold oneL;rw[h0,if_neg (fun q=>q rfl),if_neg h]
theorem one_2{l:List Node}{o:EOp}(h:hasN l o.node=true)(hk:o.kind=1):oneL l o=l.set (lobN l o.node) {(l.getD (lobN l o.node) default) with attrs:=fm rawG (l.getD (lobN l o.node) default).attrs o.attrs}∧oneE l o=0:=by
 have e:oneE l o=0:=by unfold oneE;rw[if_neg (by omega),if_neg (by rw[h];decide),if_pos hk]
 refine⟨(one_s (by omega) e).trans ?_,e⟩
 unfold oneN;rw[if_pos hk]
theorem one_3{l:List Node}{o:EOp}(h:hasN l o.node=true)(hk:o.kind=2):oneL l o=z1m l (lobN l o.node) o.steps∧oneE l o=z0X l (l.getD (lobN l o.node) default) o.steps:=by
 have e:oneE l o=z0X l (l.getD (lobN l o.node) default) o.steps:=by unfold oneE;rw[if_neg (by omega),if_neg (by rw[h];decide),if_neg (by omega),if_pos hk]
 refine⟨?_,e⟩
 unfold oneL z1m oneN;rw[e,if_neg (show¬o.kind=0 by omega),if_neg (show¬o.kind=1 by omega),if_pos hk]
theorem one_4{l:List Node}{o:EOp}(h:hasN l o.node=true)(hk:o.kind=3):oneL l o=z1w l (lobN l o.node) o.grid∧oneE l o=z06 l (l.getD (lobN l o.node) default) o.grid:=by
 have e:oneE l o=z06 l (l.getD (lobN l o.node) default) o.grid:=by unfold oneE;rw[if_neg (by omega),if_neg (by rw[h];decide),if_neg (by omega),if_neg (by omega),if_pos hk]
 refine⟨?_,e⟩
 unfold oneL z1w oneN;rw[e,if_neg (show¬o.kind=0 by omega),if_neg (show¬o.kind=1 by omega),if_neg (show¬o.kind=2 by omega),if_pos hk]
theorem one_d{l:List Node}{o:EOp}(h:hasN l o.node=true)(hk:o.kind=4):oneE l o=z6P (l.getD (lobN l o.node) default) o.draw:=by
 unfold oneE;rw[if_neg (by omega),if_neg (by rw[h];decide),if_neg (by omega),if_neg (by omega),if_neg (by omega)]
theorem one_5{l:List Node}{o:EOp}(h:hasN l o.node=true)(hk:o.kind=4)(hd:hasD (l.getD (lobN l o.node) default).kind=false):oneL l o=l∧oneE l o=8:=
 one_e ((one_d h hk).trans (by unfold z6P;rw[if_pos hd])) (by decide)
theorem one_6{l:List Node}{o:EOp}(h:hasN l o.node=true)(hk:o.kind=4)(hd:hasD (l.getD (lobN l o.node) default).kind=true):
 ((if(z0w (l.getD (lobN l o.node) default).draw o.draw).isSome then(0:Int) else 6)=0→oneL l o=l.set (lobN l o.node) {(l.getD (lobN l o.node) default) with draw:=(z0w (l.getD (lobN l o.node) default).draw o.draw).getD []})∧
 ((if(z0w (l.getD (lobN l o.node) default).draw o.draw).isSome then(0:Int) else 6)≠0→oneL l o=l)∧oneE l o=(if(z0w (l.getD (lobN l o.node) default).draw o.draw).isSome then(0:Int) else 6):=by
 have e:oneE l o=(if(z0w (l.getD (lobN l o.node) default).draw o.draw).isSome then(0:Int) else 6):=(one_d h hk).trans (by unfold z6P;rw[if_neg (by rw[hd];decide)])
 refine⟨fun h0=>(one_s (by omega) (e.trans h0)).trans ?_,fun h0=>(one_e e h0).1,e⟩
 unfold oneN;rw[if_neg (show¬o.kind=1 by omega),if_neg (show¬o.kind=2 by omega),if_neg (show¬o.kind=3 by omega)]
def RunB:List Node→List EOp→Prop
 |_,[]=>True
 |l,o::c=>OneB l o∧(oneE l o=0→RunB (oneL l o) c)
structure AppB(d:Doc)(c:List EOp):Prop where
 doc:DocL d
 ops:∀o∈c,OpL o
 run:docE d=0→eopsE c 0=0→RunB d.nodes c
theorem app_e{d:Doc}{c:List EOp}{k:Int}(h:appE d c=k)(hk:k≠0):appD d c=⟨[]⟩∧appE d c=k:=by
 unfold appD;rw[h,if_pos hk];exact⟨rfl,rfl⟩
theorem app_1{d:Doc}{c:List EOp}(h:docE d≠0):appD d c=⟨[]⟩∧appE d c=docE d:=app_e (by unfold appE;rw[if_pos h]) h
theorem app_2{d:Doc}{c:List EOp}(h:docE d=0)(h2:eopsE c 0≠0):appD d c=⟨[]⟩∧appE d c=eopsE c 0:=app_e (by unfold appE;rw[if_neg (fun q=>q h),if_pos h2]) h2
theorem app_r{d:Doc}{c:List EOp}(h:docE d=0)(h2:eopsE c 0=0):appE d c=runE d.nodes c:=by unfold appE;rw[if_neg (fun q=>q h),if_neg (fun q=>q h2)]
theorem app_3{d:Doc}{c:List EOp}{k:Int}(h:docE d=0)(h2:eopsE c 0=0)(h3:runE d.nodes c=k)(hk:k≠0):appD d c=⟨[]⟩∧appE d c=k:=app_e ((app_r h h2).trans h3) hk
theorem app_4{d:Doc}{c:List EOp}{l:List Node}(h:docE d=0)(h2:eopsE c 0=0)(h3:runE d.nodes c=0)(h4:runL d.nodes c=l):appD d c=⟨l⟩∧appE d c=0:=by
 have e:=(app_r h h2).trans h3
 unfold appD;rw[e,if_neg (fun q=>q rfl),h4];exact⟨rfl,rfl⟩
theorem z51{d:Doc}(h:docE d=0):z1e d.nodes 0=0:=by
 unfold docE at h
 split at h
 ·cases h
 ·split at h
  ·rename_i q;exact absurd h q
  ·rename_i q;exact Classical.byContradiction q
theorem z5h{d:Doc}(h:docE d=0):SortN d.nodes:=z9U (z51 h)
theorem y1h{d:Doc}(h:docE d=0):∀n∈d.nodes,nodeE n=0:=by
 intro n hn
 obtain⟨j,hj,rfl⟩:=z0C hn
 exact(z2B _ 0 rfl (z51 h)).1 j (Nat.zero_le _) hj
theorem y3L{d:Doc}(h:docE d=0):∀n∈d.nodes,1≤n.id∧n.id≤1073741824:=by
 intro n hn
 have:=y1h h n hn
 unfold nodeE at this
 split at this
 ·cases this
 ·omega
end Go.Ch
end
section
set_option linter.unusedVariables false
set_option linter.unusedSimpArgs false
set_option maxRecDepth 100000
set_option maxHeartbeats 4000000
open Go Go.Proofs Go.Ab
namespace Go.Ch
theorem z8Y(x:Grid):FC Tryz.prog 118 [.t (gridT x),.t (.agg [TI 0,TI 0,TN,TN])] (app emp []) (VB (zeroG x)) (app emp []):=by
 refine .go Tryz.f118 ?_
 have e1:((zeroG x):Bool)=((((x.rows==0)&&(x.cols==0))&&(((x.merges).length:Int)==0))&&(((x.cells).length:Int)==0)):=by
  unfold zeroG;rw[Bool.eq_iff_iff];simp only[Bool.and_eq_true];constructor<;>(rintro⟨⟨⟨a,b⟩,c⟩,d⟩;exact⟨⟨⟨a,b⟩,d⟩,c⟩)
 exact .finE [.r [],.r [(7,Xv 1 (x.rows==0) X0),(9,Xv 1 (x.rows==0) X0),(10,Xv 2 (x.rows==0) X0),(11,X (Xk (x.rows==0))),(14,Xv 1 ((x.rows==0)&&(x.cols==0)) X0),(16,Xv 1 ((x.rows==0)&&(x.cols==0)) X0),(17,Xv 2 ((x.rows==0)&&(x.cols==0)) (Xc0 (y7k x.merges) X0)),(18,X (Xk ((x.rows==0)&&(x.cols==0)))),(21,Xv 1 (((x.rows==0)&&(x.cols==0))&&(((x.merges).length:Int)==0)) X0),(23,Xv 1 (((x.rows==0)&&(x.cols==0))&&(((x.merges).length:Int)==0)) X0),(24,Xv 2 (((x.rows==0)&&(x.cols==0))&&(((x.merges).length:Int)==0)) (Xc0 (y7l x.cells) X0)),(25,X (Xk (((x.rows==0)&&(x.cols==0))&&(((x.merges).length:Int)==0))))]] [] (fun z0:Bool=>(VB z0,[])) _ _ e1
theorem z52(n:Node)(hm:n.grid.merges=[]∧NoTx n.grid.cells):FC Tryz.prog 72 [.t (nodeT n)] (app emp []) (VI (nodeE n)) (app emp []):=by
 refine .go Tryz.f72 ?_
 obtain⟨hm1,hm2⟩:=hm
 refine .bp [.r [],.r [(5,Xv 1 (!(decide (n.id<1))) X0),(6,Xv 1 (!(decide (n.id<1))) X0),(7,X (Xk' (decide (n.id<1))))]] (decide (n.id<1)||decide (n.id>1073741824)) (fun h1=> ?_) (fun h1=> ?_)
 ·
  have e1:((nodeE n):Int)=2:=by
   (try rw[z2L false n.attrs _ 0 rfl] at*)
   unfold nodeE
   (repeat' split)<;>first|rfl|omega| (exfalso;omega)| (simp_all;done)| (exfalso;simp_all;done)| (exfalso;simp_all;omega)|grind
  exact .finE [.r []] [] (fun z0:Int=>(VI z0,[])) _ _ e1
 ·
  refine .bp [.r [(5,Xv 1 (!(decide (n.kind<0))) X0),(6,Xv 1 (!(decide (n.kind<0))) X0),(7,X (Xk' (decide (n.kind<0)))),(10,Xv 1 (!(decide (n.kind<0)||decide (n.kind≥13))) X0),(11,Xv 1 (!(decide (n.kind<0)||decide (n.kind≥13))) X0),(13,Xv 1 (!(decide (n.kind<0)||decide (n.kind≥13))) X0),(14,Xv 1 (!(decide (n.kind<0)||decide (n.kind≥13))) X0),(15,Xv 2 (!(decide (n.kind<0)||decide (n.kind≥13))) X0),(16,X (Xk' (decide (n.kind<0)||decide (n.kind≥13))))]] ((decide (n.kind<0)||decide (n.kind≥13))|| !((n.id==1)==(n.kind==0))) (fun h3=> ?_) (fun h3=> ?_)
  ·
   have e2:((nodeE n):Int)=8:=by
    (try rw[z2L false n.attrs _ 0 rfl] at*)
    unfold nodeE
    (repeat' split)<;>first|rfl|omega| (exfalso;omega)| (simp_all;done)| (exfalso;simp_all;done)| (exfalso;simp_all;omega)|grind
   exact .finE [.r []] [] (fun z0:Int=>(VI z0,[])) _ _ e2
  ·
   refine .bp [.r [(2,X (Xc0 (z2x n.attrs) X0))],.r []] ((chkA false n.attrs 0) !=0) (fun h6=> ?_) (fun h6=> ?_)
   ·
    have e3:((nodeE n):Int)=(chkA false n.attrs 0):=by
     (try rw[z2L false n.attrs _ 0 rfl] at*)
     unfold nodeE
     (repeat' split)<;>first|rfl|omega| (exfalso;omega)| (simp_all;done)| (exfalso;simp_all;done)| (exfalso;simp_all;omega)|grind
    exact .finE [.r []] [] (fun z0:Int=>(VI z0,[])) _ _ e3
   ·
    refine .bp [.r [(2,X (Xc0 (z5e n.kind) X0)),(5,Xv 1 (!(hasT n.kind)) X0),(6,Xv 1 (!(hasT n.kind)) (Xc0 (y04 n.kind) X0)),(7,X (Xk' (hasT n.kind))),(10,X (Xc0 (z7I n.kind) X0))],.r [(4,Xv 1 (!((hasT n.kind)|| (hasL n.kind))) X0),(5,Xv 1 (!((hasT n.kind)|| (hasL n.kind))) (Xl elemT n.flow)),(6,Xv 1 (!((hasT n.kind)|| (hasL n.kind))) X0),(7,X (Xk (!((hasT n.kind)|| (hasL n.kind))))),(10,Xv 1 (!(!((hasT n.kind)|| (hasL n.kind))&&decide ((n.flow.length:Int)> 0))) X0),(11,Xv 1 (!(!((hasT n.kind)|| (hasL n.kind))&&decide ((n.flow.length:Int)> 0))) X0),(13,Xv 1 ((!(!((hasT n.kind)|| (hasL n.kind))&&decide ((n.flow.length:Int)> 0)))&&(!(hasG n.kind))) X0),(15,Xv 2 ((!(!((hasT n.kind)|| (hasL n.kind))&&decide ((n.flow.length:Int)> 0)))&&(!(hasG n.kind))) (Xc0 (z8Y n.grid) X0)),(16,Xv 1 ((!(!((hasT n.kind)|| (hasL n.kind))&&decide ((n.flow.length:Int)> 0)))&&(!(hasG n.kind))) X0),(17,Xka (!(!((hasT n.kind)|| (hasL n.kind))&&decide ((n.flow.length:Int)> 0))) (!(hasG n.kind))),(18,X (Xk' (!((hasT n.kind)|| (hasL n.kind))&&decide ((n.flow.length:Int)> 0)))),(21,Xv 1 (!((!((hasT n.kind)|| (hasL n.kind))&&decide ((n.flow.length:Int)> 0))|| (!(hasG n.kind)&& !(zeroG n.grid)))) X0),(22,Xv 1 (!((!((hasT n.kind)|| (hasL n.kind))&&decide ((n.flow.length:Int)> 0))|| (!(hasG n.kind)&& !(zeroG n.grid)))) (Xc0 (y05 n.kind) X0)),(23,Xv 1 (!((!((hasT n.kind)|| (hasL n.kind))&&decide ((n.flow.length:Int)> 0))|| (!(hasG n.kind)&& !(zeroG n.grid)))) X0),(24,Xv 1 (!((!((hasT n.kind)|| (hasL n.kind))&&decide ((n.flow.length:Int)> 0))|| (!(hasG n.kind)&& !(zeroG n.grid)))) X0),(26,Xv 1 ((!((!((hasT n.kind)|| (hasL n.kind))&&decide ((n.flow.length:Int)> 0))|| (!(hasG n.kind)&& !(zeroG n.grid))))&&(!(hasD n.kind))) X0),(27,Xv 1 ((!((!((hasT n.kind)|| (hasL n.kind))&&decide ((n.flow.length:Int)> 0))|| (!(hasG n.kind)&& !(zeroG n.grid))))&&(!(hasD n.kind))) (Xl dopT n.draw)),(28,Xv 1 ((!((!((hasT n.kind)|| (hasL n.kind))&&decide ((n.flow.length:Int)> 0))|| (!(hasG n.kind)&& !(zeroG n.grid))))&&(!(hasD n.kind))) X0),(29,Xka (!((!((hasT n.kind)|| (hasL n.kind))&&decide ((n.flow.length:Int)> 0))|| (!(hasG n.kind)&& !(zeroG n.grid)))) (!(hasD n.kind))),(30,X (Xk' ((!((hasT n.kind)|| (hasL n.kind))&&decide ((n.flow.length:Int)> 0))|| (!(hasG n.kind)&& !(zeroG n.grid)))))]] (((!((hasT n.kind)|| (hasL n.kind))&&decide ((n.flow.length:Int)> 0))|| (!(hasG n.kind)&& !(zeroG n.grid)))|| (!(hasD n.kind)&&decide ((n.draw.length:Int)> 0))) (fun h9=> ?_) (fun h9=> ?_)
    ·
     have e4:((nodeE n):Int)=4:=by
      (try rw[z2L false n.attrs _ 0 rfl] at*)
      unfold nodeE
      (repeat' split)<;>first|rfl|omega| (exfalso;omega)| (simp_all;done)| (exfalso;simp_all;done)| (exfalso;simp_all;omega)|grind
     exact .finE [.r []] [] (fun z0:Int=>(VI z0,[])) _ _ e4
    ·
     refine .bp [.r []] ((hasT n.kind)|| (hasL n.kind)) (fun h11=> ?_) (fun h11=> ?_)
     ·
      have e5:((nodeE n):Int)=(flowZ (hasT n.kind) n.flow):=by
       (try rw[z2L false n.attrs _ 0 rfl] at*)
       unfold nodeE
       (repeat' split)<;>first|rfl|omega| (exfalso;omega)| (simp_all;done)| (exfalso;simp_all;done)| (exfalso;simp_all;omega)|grind
      exact .finE [.r [(4,X (Xc0 (z5e n.kind) X0)),(5,X (Xc0 (z7J n.flow (hasT n.kind)) X0))]] [] (fun z0:Int=>(VI z0,[])) _ _ e5
     ·
      refine .bp [.r []] (hasG n.kind) (fun h13=> ?_) (fun h13=> ?_)
      ·
       refine .bp [.r [(2,X (Xc0 (z8O n.grid (by assumption) (by assumption)) X0))],.r []] ((gridE n.grid) !=0) (fun h15=> ?_) (fun h15=> ?_)
       ·
        have e6:((nodeE n):Int)=(gridE n.grid):=by
         (try rw[z2L false n.attrs _ 0 rfl] at*)
         unfold nodeE
         (repeat' split)<;>first|rfl|omega| (exfalso;omega)| (simp_all;done)| (exfalso;simp_all;done)| (exfalso;simp_all;omega)|grind
        exact .finE [.r []] [] (fun z0:Int=>(VI z0,[])) _ _ e6
       ·
        have e7:((nodeE n):Int)=(cellK n.kind n.grid.cells 0):=by
         (try rw[z2L false n.attrs _ 0 rfl] at*)
         unfold nodeE
         (repeat' split)<;>first|rfl|omega| (exfalso;omega)| (simp_all;done)| (exfalso;simp_all;done)| (exfalso;simp_all;omega)|grind
        exact .finE [.r [(5,X (Xc0 (z8U n.kind n.grid.cells) X0))]] [] (fun z0:Int=>(VI z0,[])) _ _ e7
      ·
       have e8:((nodeE n):Int)=(drawE n.draw 0):=by
        (try rw[z2L false n.attrs _ 0 rfl] at*)
        unfold nodeE
        (repeat' split)<;>first|rfl|omega| (exfalso;omega)| (simp_all;done)| (exfalso;simp_all;done)| (exfalso;simp_all;omega)|grind
       exact .finE [.r [(2,X (Xc0 (z8N n.draw) X0))]] [] (fun z0:Int=>(VI z0,[])) _ _ e8
theorem z3k(d:Doc)(hb:DocL d):FC Tryz.prog 34 [.t (docT d)] (app emp []) (VI (docE d)) (app emp []):=by
 refine .go Tryz.f34 ?_
 have hl:=hb.len
 refine .bp [.r [],.r [(2,X (Xl nodeT d.nodes))]] ((d.nodes.length:Int)==0) (fun h1=> ?_) (fun h1=> ?_)
 ·
  have e1:((docE d):Int)=11:=by
   exact z6M (by omega)
  exact .finE [.r []] [] (fun z0:Int=>(VI z0,[])) _ _ e1
 ·
  refine .loop (α:=Nat) [.r [(2,X (Xl nodeT d.nodes))]] 80 (fun i=>([(1,.ptr 0 0),(14,VL 9 nodeT d.nodes),(15,VI (d.nodes.length:Int)),(16,VI (i:Int))],[(0,.box [VL 9 nodeT d.nodes])])) (fun i=>i≤d.nodes.length∧z1e d.nodes 0=z1e d.nodes i) (fun i=>d.nodes.length-i) (0:Nat) ?_ ?_
  ·
   exact⟨by omega,rfl⟩
  rintro i I4 ih4
  try dsimp only at I4
  refine .bp [.r []] (decide ((i:Int)< (d.nodes.length:Int))) (fun h4=> ?_) (fun h4=> ?_)
  ·
   have hn:=hb.lite _ (z2z (l:=d.nodes) (i:=i) (by omega))
   refine .bp [.r [(1,X (Xi nodeT d.nodes (i:Int)))],.r [(1,X (Xc0 (z52 ((d.nodes.getD i default)) (by assumption)) X0))],.r []] ((nodeE ((d.nodes.getD i default))) !=0) (fun h7=> ?_) (fun h7=> ?_)
   ·
    have e2:((docE d):Int)=(nodeE ((d.nodes.getD i default))):=by
     exact z8R (by omega) (I4.2.trans (y2b (by omega) h7)) h7
    exact .finE [.r []] [] (fun z0:Int=>(VI z0,[])) _ _ e2
   ·
    refine .bp [.r [(4,Xv 1 ((i:Int)==0) X0),(5,Xv 1 ((i:Int)==0) X0),(6,X (Xk ((i:Int)==0))),(9,Xv 1 (!(((i:Int)==0)&&((((d.nodes.getD i default)).id) !=1))) X0),(10,Xv 1 (!(((i:Int)==0)&&((((d.nodes.getD i default)).id) !=1))) X0),(12,Xv 1 ((!(((i:Int)==0)&&((((d.nodes.getD i default)).id) !=1)))&&(decide ((i:Int)> 0))) X0),(14,Xv 1 ((!(((i:Int)==0)&&((((d.nodes.getD i default)).id) !=1)))&&(decide ((i:Int)> 0))) X0),(16,Xv 1 ((!(((i:Int)==0)&&((((d.nodes.getD i default)).id) !=1)))&&(decide ((i:Int)> 0))) (Xn ((i:Int)- 1))),(17,Xv 2 ((!(((i:Int)==0)&&((((d.nodes.getD i default)).id) !=1)))&&(decide ((i:Int)> 0))) (Xi' nodeT d.nodes ((i:Int)- 1) (i- 1))),(18,Xv 1 ((!(((i:Int)==0)&&((((d.nodes.getD i default)).id) !=1)))&&(decide ((i:Int)> 0))) X0),(19,Xv 1 ((!(((i:Int)==0)&&((((d.nodes.getD i default)).id) !=1)))&&(decide ((i:Int)> 0))) X0),(20,Xv 2 ((!(((i:Int)==0)&&((((d.nodes.getD i default)).id) !=1)))&&(decide ((i:Int)> 0))) X0),(21,Xka (!(((i:Int)==0)&&((((d.nodes.getD i default)).id) !=1))) (decide ((i:Int)> 0))),(22,X (Xk' (((i:Int)==0)&&((((d.nodes.getD i default)).id) !=1))))]] ((((i:Int)==0)&&((((d.nodes.getD i default)).id) !=1))|| (decide ((i:Int)> 0)&&decide ((((d.nodes.getD i default)).id)≤(((d.nodes.getD (i- 1) default)).id)))) (fun h9=> ?_) (fun h9=> ?_)
    ·
     have e3:((docE d):Int)=5:=by
      exact z8R (by omega) (I4.2.trans (y2c (by omega) h7 (by rcases h9 with q|q;(left;obtain⟨q1,q2⟩:=q;have q3:i=0:=(by omega);subst q3;exact⟨rfl,q2⟩);(right;omega)))) (by decide)
     exact .finE [.r []] [] (fun z0:Int=>(VI z0,[])) _ _ e3
    ·
     refine .back [.r [(0,X (Xn ((i:Int)+1)))]] [(0,0)] (ih4 ((i+1):Nat) ?_ ?_)
     ·
      exact⟨by omega,I4.2.trans (z9S (by omega) h7 (by rintro(⟨q1,q2⟩|q);(subst q1;rcases h9.1 with q|q;(exact q rfl);(exact q2 q));(rcases h9.2 with q3|q3<;>omega)))⟩
     ·
      ((try dsimp only);omega)
  ·
   refine .loop (α:=Nat) [.r [(2,X (Xl nodeT d.nodes))]] 120 (fun j=>([(1,.ptr 0 0),(51,VL 9 nodeT d.nodes),(52,VI (d.nodes.length:Int)),(53,VI (j:Int))],[(0,.box [VL 9 nodeT d.nodes])])) (fun j=>j≤d.nodes.length∧z0U d.nodes 0=z0U d.nodes j) (fun j=>d.nodes.length-j) (0:Nat) ?_ ?_
   ·
    exact⟨by omega,rfl⟩
   rintro j I13 ih13
   try dsimp only at I13
   refine .bp [.r []] (decide ((j:Int)< (d.nodes.length:Int))) (fun h13=> ?_) (fun h13=> ?_)
   ·
    have hn:=hb.all _ (z2z (l:=d.nodes) (i:=j) (by omega))
    have hs:=z9U (I4.2.trans (z4C (by omega)))
    refine .bp [.r [(0,X (Xi nodeT d.nodes (j:Int)))],.r [(4,X (Xc1 192 (z8T ((d.nodes.getD j default)) (by assumption)) X0)),(5,X (Xc0 (z39 d (((d.nodes.getD j default)).kind) (refsN ((d.nodes.getD j default))) (by assumption) (by assumption)) X0))],.r []] ((refsE (d).nodes (((d.nodes.getD j default)).kind) (refsN ((d.nodes.getD j default))) 0) !=0) (fun h16=> ?_) (fun h16=> ?_)
    ·
     have e4:((docE d):Int)=(refsE (d).nodes (((d.nodes.getD j default)).kind) (refsN ((d.nodes.getD j default))) 0):=by
      exact z8S (by omega) (I4.2.trans (z4C (by omega))) (I13.2.trans (y5u (by omega) h16))
     exact .finE [.r []] [] (fun z0:Int=>(VI z0,[])) _ _ e4
    ·
     refine .back [.r [(0,X (Xn ((j:Int)+1)))]] [(0,0)] (ih13 ((j+1):Nat) ?_ ?_)
     ·
      exact⟨by omega,I13.2.trans (y3B (by omega) h16)⟩
     ·
      ((try dsimp only);omega)
   ·
    have e5:((docE d):Int)=0:=by
     exact z8S (by omega) (I4.2.trans (z4C (by omega))) (I13.2.trans (y5v (by omega)))
    exact .finE [.r []] [] (fun z0:Int=>(VI z0,[])) _ _ e5
end Go.Ch
end
section
namespace Go.Ch
open Go Go.Ab
theorem y1i{α:Type}[Inhabited α]{l:List α}{i n:Nat}{z x:α}(hn:n=l.length)(hi:i<n)(hx:x=l.getD i default):(l.take i++List.replicate (n-i) z).set i x=l.take (i+1)++List.replicate (n- (i+1)) z:=by
 subst hn
 have h1:(l.take i).length=i:=by simp;omega
 rw[List.set_append,if_neg (by omega),h1,Nat.sub_self,show l.length-i=(l.length- (i+1))+1 by omega,List.replicate_succ,List.set_cons_zero,List.take_succ_eq_append_getElem hi,hx,List.append_assoc]
 simp only[List.getD,List.getElem?_eq_getElem hi,Option.getD_some]
 rfl
theorem y5z{α:Type}[Inhabited α]{l:List α}{i:Nat}{x:α}(hx:x=l.getD i default):l.set i x=l:=by
 subst hx
 by_cases h:i<l.length
 ·rw[List.getD_eq_getElem?_getD,List.getElem?_eq_getElem h];simp
 ·rw[List.set_eq_of_length_le (by omega)]
end Go.Ch
end
section
set_option linter.unusedVariables false
set_option linter.unusedSimpArgs false
set_option maxRecDepth 100000
set_option maxHeartbeats 4000000
open Go Go.Proofs Go.Ab
namespace Go.Ch
theorem y5A(l:List Elem)(hn:l.length≤1048576)(hs:∀x∈l,x.attrs.length≤1048576):FC Tryz.prog 55 [VL 3 elemT l] (app emp []) (VL 3 elemT l) (app emp []):=by
 refine .go Tryz.f55 ?_
 refine .len 0 (fun hl0=> ?_)
 refine .loop (α:=Nat×(List Elem)) [.r [],.r [(1,X (Xl elemT l)),(2,X (Xmz 3 elemT 24 (l.length:Int) (l.length:Int) ({char:=0,ref:=0,attrs:=[]}:Elem) [TI 0,TI 0,TN] ⟨.inl rfl,⟨.inl rfl,⟨z3X (by decide),trivial⟩⟩⟩))],.r [(1,X (Xl elemT l))]] 64 (fun(i,o)=>([(3,.row 24 l.length),(9,VL 3 elemT l),(10,VI (l.length:Int)),(11,VI (i:Int))],[(24,OR 3 elemT o)])) (fun(i,o)=>i≤l.length∧o=l.take i++List.replicate (l.length-i) ({char:=0,ref:=0,attrs:=[]}:Elem)) (fun(i,o)=>l.length-i) (0,(List.replicate l.length ({char:=0,ref:=0,attrs:=[]}:Elem))) ?_ ?_
 ·
  exact⟨by omega,by simp⟩
 rintro⟨i,o⟩ I3 ih3
 try dsimp only at I3
 have ol:o.length=l.length:=by rw[I3.2];simp;omega
 refine .bp [.r []] (decide ((i:Int)< (l.length:Int))) (fun h3=> ?_) (fun h3=> ?_)
 ·
  have hx:=hs _ (z18 (l:=l) (k:=i) (by omega))
  refine .back [.r [(1,X (Xi elemT l (i:Int)))],.r [(8,X (Xan attrT 184 (((l.getD i default)).attrs))),(10,X (Xpn l.length elemT o (i:Int))),(11,X (rowC attrT (((l.getD i default)).attrs) (Xsn l.length 3 elemT 24 o i ((l.getD i default)) [(184,OF 2 attrT (((l.getD i default)).attrs))])))],.r [(0,X (Xn ((i:Int)+1)))]] [(24,24)] (ih3 ((i+1),(o.set i ((l.getD i default)))) ?_ ?_)
  ·
   refine⟨by omega,?_⟩
   rw[I3.2]
   exact y1i rfl (by omega) rfl
  ·
   ((try dsimp only);omega)
 ·
  have e1:(l:List Elem)=o:=by
   rw[I3.2,List.take_of_length_le (by omega),show l.length-i=0 by omega];simp
  exact .finE [.r [],.le (.fr 2 [(l.length:Nat)=(List.map elemT o).length] ⟨lm,trivial⟩)] [] (fun z0:List Elem=>(VL 3 elemT z0,[])) _ _ e1
theorem z7M(n:Node)(hb:NodeB n):FC Tryz.prog 25 [.t (nodeT n)] (app emp []) (.t (nodeT n)) (app emp []):=by
 refine .go Tryz.f25 ?_
 have b1:=hb.at2
 have b2:=hb.fl2
 have b3:=hb.fl3
 have b4:=hb.ce2
 have b5:=hb.me
 have b6:=hb.dr1
 refine .loop (α:=Nat×(List Cell)) [.r [],.r [(2,X (Xan attrT 32 n.attrs))],.r [(2,X (Xc1 72 (y5A n.flow (by assumption) (by assumption)) X0))],.r [(2,X (Xan dopT 112 n.draw))],.r [],.r [(2,X (Xan rectT 184 n.grid.merges))],.r [(2,X (Xan cellT 224 n.grid.cells))],.r []] 280 (fun(i,o)=>([(1,.ptr 0 0),(2,.ptr 8 0),(3,.ptr 152 0),(29,.row 224 o.length),(30,VI (n.grid.cells.length:Int)),(31,VI (i:Int))],[(0,.box [VI n.id,VI n.kind,.row 32 n.attrs.length,VL 3 elemT n.flow,VI n.grid.rows,VI n.grid.cols,VL 5 cellT n.grid.cells,VL 4 rectT n.grid.merges,.row 112 n.draw.length]),(8,.box [VI 0,VI 0,VN,VN,VI 0,VI 0,VN,VN,VN]),(32,OR 2 attrT n.attrs),(112,OR 8 dopT n.draw),(152,.box [VI n.grid.rows,VI n.grid.cols,.row 224 o.length,.row 184 n.grid.merges.length]),(184,OR 4 rectT n.grid.merges),(224,OR 5 cellT o)])) (fun(i,o)=>i≤n.grid.cells.length∧o=n.grid.cells) (fun(i,o)=>n.grid.cells.length-i) (0,n.grid.cells) ?_ ?_
 ·
  exact⟨by omega,rfl⟩
 rintro⟨i,o⟩ I8 ih8
 try dsimp only at I8
 have ol:o.length=n.grid.cells.length:=by rw[I8.2]
 refine .bp [.r []] (decide ((i:Int)< (n.grid.cells.length:Int))) (fun h8=> ?_) (fun h8=> ?_)
 ·
  have hc:=hb.ce3 (o.getD i default) (by rw[I8.2];exact z0g (by omega))
  refine .back [.r [(1,X (Xp cellT o (i:Int))),(2,X (Xe cellT o i))],.r [(5,X (Xan attrT 376 (((o.getD i default)).attrs))),(6,X (Xp cellT o (i:Int))),(8,X (rowC attrT (((o.getD i default)).attrs) (Xs 5 cellT 224 o i ((o.getD i default)) [(376,OF 2 attrT (((o.getD i default)).attrs))])))],.r [(0,X (Xn ((i:Int)+1)))],.le (.eq 29 (.row 224 o.length) (.row 224 ((o.set i ((o.getD i default))).length)) (.of_eq (by simp only[List.length_set]))),.le (.eb 152 2 (.row 224 o.length) (.row 224 ((o.set i ((o.getD i default))).length)) (by simp only[List.length_set]))] [(0,0),(8,8),(32,32),(112,112),(152,152),(184,184),(224,224)] (ih8 ((i+1),(o.set i ((o.getD i default)))) ?_ ?_)
  ·
   refine⟨by omega,?_⟩
   rw[I8.2];exact y5z rfl
  ·
   ((try dsimp only);omega)
 ·
  have e1:(n:Node)=({id:=n.id,kind:=n.kind,attrs:=n.attrs,flow:=n.flow,grid:=({rows:=n.grid.rows,cols:=n.grid.cols,cells:=o,merges:=n.grid.merges}:Grid),draw:=n.draw}:Node):=by
   rw[I8.2]
  exact .finVE [.r [],.r []] [.fR 0 [(n.attrs.length:Nat)=(List.map attrT n.attrs).length,(o.length:Nat)=(List.map cellT o).length,(n.grid.merges.length:Nat)=(List.map rectT n.grid.merges).length,(n.draw.length:Nat)=(List.map dopT n.draw).length] ⟨lm,lm,lm,lm,trivial⟩] [] (fun z0:Node=>(.t (nodeT z0),[])) _ _ e1
theorem y3M(d:Doc)(hb:DocB d):FC Tryz.prog 36 [.t (docT d)] (app emp []) (.agg [.row 1 d.nodes.length]) (app emp [(0,.box [.row 1 d.nodes.length]),(1,OR 9 nodeT d.nodes)]):=by
 refine .go Tryz.f36 ?_
 have hl:=hb.len
 refine .loop (α:=Nat×(List Node)) [.r [],.r [(2,X (Xl nodeT d.nodes)),(3,X (Xmz 9 nodeT 40 (d.nodes.length:Int) (d.nodes.length:Int) ({id:=0,kind:=0,attrs:=[],flow:=[],grid:=({rows:=0,cols:=0,cells:=[],merges:=[]}:Grid),draw:=[]}:Node) [TI 0,TI 0,TN,TN,TI 0,TI 0,TN,TN,TN] ⟨.inl rfl,⟨.inl rfl,⟨z3X (by decide),⟨z3X (by decide),⟨.inl rfl,⟨.inl rfl,⟨z3X (by decide),⟨z3X (by decide),⟨z3X (by decide),trivial⟩⟩⟩⟩⟩⟩⟩⟩⟩))],.r [(2,X (Xl nodeT d.nodes))],.le (.eb 56 0 (.row 40 d.nodes.length) (.row 40 ((List.replicate d.nodes.length ({id:=0,kind:=0,attrs:=[],flow:=[],grid:=({rows:=0,cols:=0,cells:=[],merges:=[]}:Grid),draw:=[]}:Node)).length)) (by simp only[List.length_replicate]))] 104 (fun(i,o)=>([(2,.ptr 8 0),(3,.ptr 56 0),(12,VL 9 nodeT d.nodes),(13,VI (d.nodes.length:Int)),(14,VI (i:Int))],[(8,.box [VN]),(40,OR 9 nodeT o),(56,.box [.row 40 o.length])])) (fun(i,o)=>i≤d.nodes.length∧o=d.nodes.take i++List.replicate (d.nodes.length-i) ({id:=0,kind:=0,attrs:=[],flow:=[],grid:=({rows:=0,cols:=0,cells:=[],merges:=[]}:Grid),draw:=[]}:Node)) (fun(i,o)=>d.nodes.length-i) (0,(List.replicate d.nodes.length ({id:=0,kind:=0,attrs:=[],flow:=[],grid:=({rows:=0,cols:=0,cells:=[],merges:=[]}:Grid),draw:=[]}:Node))) ?_ ?_
 ·
  exact⟨by omega,by simp⟩
 rintro⟨i,o⟩ I3 ih3
 try dsimp only at I3
 have ol:o.length=d.nodes.length:=by rw[I3.2];simp;omega
 refine .bp [.r []] (decide ((i:Int)< (d.nodes.length:Int))) (fun h3=> ?_) (fun h3=> ?_)
 ·
  have hx:=hb.all _ (z2z (l:=d.nodes) (i:=i) (by omega))
  refine .back [.r [(1,X (Xi nodeT d.nodes (i:Int)))],.r [(4,X (Xc1 192 (z7M ((d.nodes.getD i default)) (by assumption)) X0)),(5,X (Xp nodeT o (i:Int))),(6,X (Xs 9 nodeT 40 o i (((d.nodes.getD i default)))))],.r [(0,X (Xn ((i:Int)+1)))],.le (.eb 56 0 (.row 40 o.length) (.row 40 ((o.set i (((d.nodes.getD i default)))).length)) (by simp only[List.length_set]))] [(8,8),(40,40),(56,56)] (ih3 ((i+1),(o.set i (((d.nodes.getD i default))))) ?_ ?_)
  ·
   refine⟨by omega,?_⟩
   rw[I3.2]
   exact y1i rfl (by omega) rfl
  ·
   ((try dsimp only);omega)
 ·
  have e1:(d.nodes.length:Nat)=o.length:=by
   first|omega| (rw[I3.2,List.take_of_length_le (by omega),show d.nodes.length-i=0 by omega];simp)
  have e2:(d.nodes:List Node)=o:=by
   first|omega| (rw[I3.2,List.take_of_length_le (by omega),show d.nodes.length-i=0 by omega];simp)
  exact .finE [.r []] [(8,0),(40,1)] (fun((z0,z1):Nat×(List Node))=>(.agg [.row 1 z0],[(0,.box [.row 1 z0]),(1,OR 9 nodeT z1)])) _ _ (pr e1 e2)
end Go.Ch
end
section
set_option linter.unusedVariables false
namespace Go.Ch
open Go Go.Ab
def z0b(x lo hi:Int):Int:=lo+((x.tmod (hi-lo+1))+(hi-lo+1)).tmod (hi-lo+1)
theorem y3N(x:Int){n:Int}(hn:0<n): -n<x.tmod n∧x.tmod n<n:=by
 have h1:=Int.tmod_lt_of_pos x hn
 have h2: -n<x.tmod n:=by
  rcases Int.le_total 0 x with h|h
  ·have:=Int.tmod_nonneg n h;omega
  ·have h3:=Int.tmod_lt_of_pos (-x) hn
   rw[Int.neg_tmod] at h3;omega
 exact⟨h2,h1⟩
theorem z0n(x:Int){lo hi:Int}(h:lo≤hi):lo≤z0b x lo hi∧z0b x lo hi≤hi:=by
 unfold z0b
 have h1:=y3N x (n:=hi-lo+1) (by omega)
 have h2:=Int.tmod_nonneg (hi-lo+1) (a:=(x.tmod (hi-lo+1))+(hi-lo+1)) (by omega)
 have h3:=Int.tmod_lt_of_pos ((x.tmod (hi-lo+1))+(hi-lo+1)) (b:=hi-lo+1) (by omega)
 omega
end Go.Ch
end
section
set_option linter.unusedVariables false
set_option linter.unusedSimpArgs false
set_option maxRecDepth 100000
set_option maxHeartbeats 4000000
open Go Go.Proofs Go.Ab
namespace Go.Ch
end Go.Ch
end
section
set_option linter.unusedVariables false
set_option linter.unusedSimpArgs false
set_option maxRecDepth 100000
set_option maxHeartbeats 4000000
open Go Go.Proofs Go.Ab
namespace Go.Ch
end Go.Ch
end
section
set_option linter.unusedVariables false
set_option linter.unusedSimpArgs false
set_option maxRecDepth 100000
set_option maxHeartbeats 4000000
open Go Go.Proofs Go.Ab
namespace Go.Ch
theorem z8Z{α:Type}[Inhabited α]{l:List α}{i n:Nat}{z x:α}(hn:n=l.length)(hi:i<n)(hx:x=l.getD i default):(l.take i++List.replicate (n-i) z).set i x=l.take (i+1)++List.replicate (n- (i+1)) z:=by
 subst hn
 have h1:(l.take i).length=i:=by simp;omega
 rw[List.set_append,if_neg (by omega),h1,Nat.sub_self,show l.length-i=(l.length- (i+1))+1 by omega,List.replicate_succ,List.set_cons_zero,List.take_succ_eq_append_getElem hi,hx,List.append_assoc]
 simp only[List.getD,List.getElem?_eq_getElem hi,Option.getD_some]
 rfl
theorem y3O(l:List Elem)(hn:l.length≤1000000000000)(hs:AN 400000000000 l):FC Tryz.prog 55 [VL 3 elemT l] (app emp []) (VL 3 elemT l) (app emp []):=by
 refine .go Tryz.f55 ?_
 refine .len 0 (fun hl0=> ?_)
 refine .loop (α:=Nat×(List Elem)) [.r [],.r [(1,X (Xl elemT l)),(2,X (Xmz 3 elemT 24 (l.length:Int) (l.length:Int) ({char:=0,ref:=0,attrs:=[]}:Elem) [TI 0,TI 0,TN] ⟨.inl rfl,⟨.inl rfl,⟨z3X (by decide),trivial⟩⟩⟩))],.r [(1,X (Xl elemT l))]] 64 (fun(i,o)=>([(3,.row 24 l.length),(9,VL 3 elemT l),(10,VI (l.length:Int)),(11,VI (i:Int))],[(24,OR 3 elemT o)])) (fun(i,o)=>i≤l.length∧o=l.take i++List.replicate (l.length-i) ({char:=0,ref:=0,attrs:=[]}:Elem)) (fun(i,o)=>l.length-i) (0,(List.replicate l.length ({char:=0,ref:=0,attrs:=[]}:Elem))) ?_ ?_
 ·
  exact⟨by omega,by simp⟩
 rintro⟨i,o⟩ I3 ih3
 try dsimp only at I3
 have ol:o.length=l.length:=by rw[I3.2];simp;omega
 refine .bp [.r []] (decide ((i:Int)< (l.length:Int))) (fun h3=> ?_) (fun h3=> ?_)
 ·
  have hx:=hs _ (z18 (l:=l) (k:=i) (by omega))
  refine .back [.r [(1,X (Xi elemT l (i:Int)))],.r [(8,X (Xan attrT 184 (((l.getD i default)).attrs))),(10,X (Xpn l.length elemT o (i:Int))),(11,X (rowC attrT (((l.getD i default)).attrs) (Xsn l.length 3 elemT 24 o i ((l.getD i default)) [(184,OF 2 attrT (((l.getD i default)).attrs))])))],.r [(0,X (Xn ((i:Int)+1)))]] [(24,24)] (ih3 ((i+1),(o.set i ((l.getD i default)))) ?_ ?_)
  ·
   refine⟨by omega,?_⟩
   rw[I3.2]
   exact z8Z rfl (by omega) rfl
  ·
   ((try dsimp only);omega)
 ·
  have e1:(l:List Elem)=o:=by
   rw[I3.2,List.take_of_length_le (by omega),show l.length-i=0 by omega];simp
  exact .finE [.r [],.le (.fr 2 [(l.length:Nat)=(List.map elemT o).length] ⟨lm,trivial⟩)] [] (fun z0:List Elem=>(VL 3 elemT z0,[])) _ _ e1
theorem y5B{l:List Elem}{i:Nat}{z:Elem}{f:Elem→Elem}(hi:i<l.length){y:Elem}(hy:y=f (l.getD i default)):((l.take i).map f++List.replicate (l.length-i) z).set i y=(l.take (i+1)).map f++List.replicate (l.length- (i+1)) z:=by
 have h1:((l.take i).map f).length=i:=by simp;omega
 rw[List.set_append,if_neg (by omega),h1,Nat.sub_self,show l.length-i=(l.length- (i+1))+1 by omega,List.replicate_succ,List.set_cons_zero,List.take_succ_eq_append_getElem hi,hy,List.map_append,List.append_assoc]
 simp only[List.getD,List.getElem?_eq_getElem hi,Option.getD_some]
 rfl
theorem z6Q(l:List Elem)(c:List Attr)(hn:l.length≤1000000000000)(hs:∀x∈l,x.attrs.length+c.length<1099511627776):FC Tryz.prog 115 [VL 3 elemT l,VL 2 attrT c] (app emp []) (VL 3 elemT (List.map (chgE c) l)) (app emp []):=by
 refine .go Tryz.f115 ?_
 refine .len 0 (fun hl0=> ?_)
 refine .len 1 (fun hl1=> ?_)
 refine .loop (α:=Nat×(List Elem)) [.r [],.r [(1,X (Xl elemT l)),(2,X (Xmz 3 elemT 24 (l.length:Int) (l.length:Int) ({char:=0,ref:=0,attrs:=[]}:Elem) [TI 0,TI 0,TN] ⟨.inl rfl,⟨.inl rfl,⟨z3X (by decide),trivial⟩⟩⟩))],.r [(1,X (Xl elemT l))]] 64 (fun(i,o)=>([(1,VL 2 attrT c),(5,.row 24 l.length),(11,VL 3 elemT l),(12,VI (l.length:Int)),(13,VI (i:Int))],[(24,OR 3 elemT o)])) (fun(i,o)=>i≤l.length∧o=(l.take i).map (chgE c)++List.replicate (l.length-i) ({char:=0,ref:=0,attrs:=[]}:Elem)) (fun(i,o)=>l.length-i) (0,(List.replicate l.length ({char:=0,ref:=0,attrs:=[]}:Elem))) ?_ ?_
 ·
  exact⟨by omega,by simp⟩
 rintro⟨i,o⟩ I3 ih3
 try dsimp only at I3
 have ol:o.length=l.length:=by rw[I3.2];simp;omega
 refine .bp [.r []] (decide ((i:Int)< (l.length:Int))) (fun h3=> ?_) (fun h3=> ?_)
 ·
  have hx:=hs _ (z18 (l:=l) (k:=i) (by omega))
  refine .back [.r [(1,X (Xi elemT l (i:Int)))],.r [(3,X (Xc1 144 (z5S (((l.getD i default)).attrs) c (by omega)) X0))],.r [(3,X (Xpn l.length elemT o (i:Int))),(4,X (Xsn l.length 3 elemT 24 o i ({char:=((l.getD i default)).char,ref:=((l.getD i default)).ref,attrs:=(fm rawG (((l.getD i default)).attrs) c)}:Elem)))],.r [(0,X (Xn ((i:Int)+1)))]] [(24,24)] (ih3 ((i+1),(o.set i ({char:=((l.getD i default)).char,ref:=((l.getD i default)).ref,attrs:=(fm rawG (((l.getD i default)).attrs) c)}:Elem))) ?_ ?_)
  ·
   refine⟨by omega,?_⟩
   rw[I3.2]
   exact y5B (by omega) rfl
  ·
   ((try dsimp only);omega)
 ·
  have e1:((List.map (chgE c) l):List Elem)=o:=by
   rw[I3.2,List.take_of_length_le (by omega),show l.length-i=0 by omega];simp
  exact .finE [.r [],.le (.fr 4 [(l.length:Nat)=(List.map elemT o).length] ⟨lm,trivial⟩)] [] (fun z0:List Elem=>(VL 3 elemT z0,[])) _ _ e1
def ltr(s:ByteArray)(i:Nat):Elem:=⟨(byt s i:Int),0,[]⟩
def z4a(s:ByteArray):List Elem:=(List.range s.size).map (ltr s)
end Go.Ch
end
section
set_option linter.unusedVariables false
set_option linter.unusedSimpArgs false
set_option maxRecDepth 100000
set_option maxHeartbeats 4000000
open Go Go.Proofs Go.Ab
namespace Go.Ch
theorem y3P(x:DStep):FC Tryz.prog 138 [.t (z0c x)] (app emp []) (VI (stepD x)) (app emp []):=by
 refine .go Tryz.f138 ?_
 refine .bp [.r [],.r [],.r []] (x.kind==0) (fun h2=> ?_) (fun h2=> ?_)
 ·
  refine .bp [] (x.kind==0) (fun h2=> ?_) (fun h2=> ?_)
  ·
   refine .bp [.r [(2,X (Xl elemT x.elems)),(6,Xv 1 (!(decide ((x.elems.length:Int)> 0))) X0),(7,Xv 1 (!(decide ((x.elems.length:Int)> 0))) X0),(8,Xv 1 (!(decide ((x.elems.length:Int)> 0))) X0),(10,Xv 1 ((!(decide ((x.elems.length:Int)> 0)))&&(x.kind==2)) X0),(11,Xv 1 ((!(decide ((x.elems.length:Int)> 0)))&&(x.kind==2)) (Xl attrT x.attrs)),(12,Xv 1 ((!(decide ((x.elems.length:Int)> 0)))&&(x.kind==2)) X0),(13,Xka (!(decide ((x.elems.length:Int)> 0))) (x.kind==2)),(14,X (Xk' (decide ((x.elems.length:Int)> 0))))]] (decide ((x.elems.length:Int)> 0)|| ((x.kind==2)&&decide ((x.attrs.length:Int)> 0))) (fun h4=> ?_) (fun h4=> ?_)
   ·
    have e1:((stepD x):Int)=4:=by
     unfold stepD;((repeat' split)<;>first|rfl|omega| (simp_all;done)| (simp_all;omega))
    exact .finE [.r []] [] (fun z0:Int=>(VI z0,[])) _ _ e1
   ·
    refine .bp [.r [(5,Xv 1 (!(decide (x.n<1))) X0),(6,Xv 1 (!(decide (x.n<1))) X0),(7,X (Xk' (decide (x.n<1))))]] (decide (x.n<1)||decide (x.n>2147483647)) (fun h6=> ?_) (fun h6=> ?_)
    ·
     have e2:((stepD x):Int)=2:=by
      unfold stepD;((repeat' split)<;>first|rfl|omega| (simp_all;done)| (simp_all;omega))
     exact .finE [.r []] [] (fun z0:Int=>(VI z0,[])) _ _ e2
    ·
     have e3:((stepD x):Int)=(chkA true x.attrs 0):=by
      unfold stepD;((repeat' split)<;>first|rfl|omega| (simp_all;done)| (simp_all;omega))
     exact .finE [.r [(2,X (Xc0 (z04 x.attrs) X0))]] [] (fun z0:Int=>(VI z0,[])) _ _ e3
  ·
   refine .bp [.r []] (x.kind==1) (fun h9=> ?_) (fun h9=> ?_)
   ·
    refine .bp [.r [(5,Xv 1 (!(x.n !=0)) X0),(6,Xv 1 (!(x.n !=0)) (Xl attrT x.attrs)),(7,Xv 1 (!(x.n !=0)) X0),(8,X (Xk' (x.n !=0)))]] ((x.n !=0)||decide ((x.attrs.length:Int)> 0)) (fun h10=> ?_) (fun h10=> ?_)
    ·
     have e4:((stepD x):Int)=4:=by
      unfold stepD;((repeat' split)<;>first|rfl|omega| (simp_all;done)| (simp_all;omega))
     exact .finE [.r []] [] (fun z0:Int=>(VI z0,[])) _ _ e4
    ·
     refine .bp [.r [(2,X (Xl elemT x.elems))]] ((x.elems.length:Int)==0) (fun h12=> ?_) (fun h12=> ?_)
     ·
      have e5:((stepD x):Int)=11:=by
       unfold stepD;((repeat' split)<;>first|rfl|omega| (simp_all;done)| (simp_all;omega))
      exact .finE [.r []] [] (fun z0:Int=>(VI z0,[])) _ _ e5
     ·
      have e6:((stepD x):Int)=(partE x.elems 0):=by
       unfold stepD;((repeat' split)<;>first|rfl|omega| (simp_all;done)| (simp_all;omega))
      exact .finE [.r [(2,X (Xc0 (z4V x.elems) X0))]] [] (fun z0:Int=>(VI z0,[])) _ _ e6
   ·
    have e7:((stepD x):Int)=8:=by
     unfold stepD;((repeat' split)<;>first|rfl|omega| (simp_all;done)| (simp_all;omega))
    exact .finE [.r []] [] (fun z0:Int=>(VI z0,[])) _ _ e7
 ·
  refine .bp [.r []] (x.kind==2) (fun h3=> ?_) (fun h3=> ?_)
  ·
   refine .bp [.r [(2,X (Xl elemT x.elems)),(6,Xv 1 (!(decide ((x.elems.length:Int)> 0))) X0),(7,Xv 1 (!(decide ((x.elems.length:Int)> 0))) X0),(8,Xv 1 (!(decide ((x.elems.length:Int)> 0))) X0),(10,Xv 1 ((!(decide ((x.elems.length:Int)> 0)))&&(x.kind==2)) X0),(11,Xv 1 ((!(decide ((x.elems.length:Int)> 0)))&&(x.kind==2)) (Xl attrT x.attrs)),(12,Xv 1 ((!(decide ((x.elems.length:Int)> 0)))&&(x.kind==2)) X0),(13,Xka (!(decide ((x.elems.length:Int)> 0))) (x.kind==2)),(14,X (Xk' (decide ((x.elems.length:Int)> 0))))]] (decide ((x.elems.length:Int)> 0)|| ((x.kind==2)&&decide ((x.attrs.length:Int)> 0))) (fun h4=> ?_) (fun h4=> ?_)
   ·
    have e8:((stepD x):Int)=4:=by
     unfold stepD;((repeat' split)<;>first|rfl|omega| (simp_all;done)| (simp_all;omega))
    exact .finE [.r []] [] (fun z0:Int=>(VI z0,[])) _ _ e8
   ·
    refine .bp [.r [(5,Xv 1 (!(decide (x.n<1))) X0),(6,Xv 1 (!(decide (x.n<1))) X0),(7,X (Xk' (decide (x.n<1))))]] (decide (x.n<1)||decide (x.n>2147483647)) (fun h6=> ?_) (fun h6=> ?_)
    ·
     have e9:((stepD x):Int)=2:=by
      unfold stepD;((repeat' split)<;>first|rfl|omega| (simp_all;done)| (simp_all;omega))
     exact .finE [.r []] [] (fun z0:Int=>(VI z0,[])) _ _ e9
    ·
     have e10:((stepD x):Int)=(chkA true x.attrs 0):=by
      unfold stepD;((repeat' split)<;>first|rfl|omega| (simp_all;done)| (simp_all;omega))
     exact .finE [.r [(2,X (Xc0 (z04 x.attrs) X0))]] [] (fun z0:Int=>(VI z0,[])) _ _ e10
  ·
   refine .bp [.r []] (x.kind==1) (fun h9=> ?_) (fun h9=> ?_)
   ·
    refine .bp [.r [(5,Xv 1 (!(x.n !=0)) X0),(6,Xv 1 (!(x.n !=0)) (Xl attrT x.attrs)),(7,Xv 1 (!(x.n !=0)) X0),(8,X (Xk' (x.n !=0)))]] ((x.n !=0)||decide ((x.attrs.length:Int)> 0)) (fun h10=> ?_) (fun h10=> ?_)
    ·
     have e11:((stepD x):Int)=4:=by
      unfold stepD;((repeat' split)<;>first|rfl|omega| (simp_all;done)| (simp_all;omega))
     exact .finE [.r []] [] (fun z0:Int=>(VI z0,[])) _ _ e11
    ·
     refine .bp [.r [(2,X (Xl elemT x.elems))]] ((x.elems.length:Int)==0) (fun h12=> ?_) (fun h12=> ?_)
     ·
      have e12:((stepD x):Int)=11:=by
       unfold stepD;((repeat' split)<;>first|rfl|omega| (simp_all;done)| (simp_all;omega))
      exact .finE [.r []] [] (fun z0:Int=>(VI z0,[])) _ _ e12
     ·
      have e13:((stepD x):Int)=(partE x.elems 0):=by
       unfold stepD;((repeat' split)<;>first|rfl|omega| (simp_all;done)| (simp_all;omega))
      exact .finE [.r [(2,X (Xc0 (z4V x.elems) X0))]] [] (fun z0:Int=>(VI z0,[])) _ _ e13
   ·
    have e14:((stepD x):Int)=8:=by
     unfold stepD;((repeat' split)<;>first|rfl|omega| (simp_all;done)| (simp_all;omega))
    exact .finE [.r []] [] (fun z0:Int=>(VI z0,[])) _ _ e14
theorem z2N(x:DStep):FC Tryz.prog 85 [.t (z0c x)] (app emp []) (VI (szD x)) (app emp []):=by
 refine .go Tryz.f85 ?_
 refine .bp [.r [],.r []] (x.kind==1) (fun h1=> ?_) (fun h1=> ?_)
 ·
  have e1:((szD x):Int)=(x.elems.length:Int):=by
   unfold szD;((repeat' split)<;>first|rfl|omega| (simp_all;done)| (simp_all;omega))
  exact .finE [.r [(2,X (Xl elemT x.elems))]] [] (fun z0:Int=>(VI z0,[])) _ _ e1
 ·
  have e2:((szD x):Int)=x.n:=by
   unfold szD;((repeat' split)<;>first|rfl|omega| (simp_all;done)| (simp_all;omega))
  exact .finE [.r []] [] (fun z0:Int=>(VI z0,[])) _ _ e2
theorem z1N(l:List DStep)(hd:DN 400000000000 l):FC Tryz.prog 84 [VL 4 z0c l] (app emp []) (VI (z0V l)) (app emp []):=by
 refine .go Tryz.f84 ?_
 refine .len 0 (fun hl0=> ?_)
 refine .loop (α:=Int×Int×Nat) [.r [],.r [],.r [(1,X (Xl z0c l))]] 48 (fun(b,a,i)=>([(0,VL 4 z0c l),(3,VI b),(4,VI a),(9,VL 4 z0c l),(10,VI (l.length:Int)),(11,VI (i:Int))],[])) (fun(b,a,i)=>i≤l.length∧0≤b∧b≤2147483648∧0≤a∧a≤2147483648∧z0V l=chkD l i b a) (fun(b,a,i)=>l.length-i) (0,0,0) ?_ ?_
 ·
  exact⟨by omega,by decide,by decide,by decide,by decide,rfl⟩
 rintro⟨b,a,i⟩ I3 ih3
 try dsimp only at I3
 refine .bp [.r []] (decide ((i:Int)< (l.length:Int))) (fun h3=> ?_) (fun h3=> ?_)
 ·
  refine .bp [.r [(1,X (Xi z0c l (i:Int)))],.r [(1,X (Xc0 (y3P ((l.getD i default))) X0))],.r []] ((stepD ((l.getD i default))) !=0) (fun h6=> ?_) (fun h6=> ?_)
  ·
   have e1:((z0V l):Int)=(stepD ((l.getD i default))):=by
    rw[I3.2.2.2.2.2,chkD];((repeat' split)<;>first|rfl|omega| (simp_all;done)| (simp_all;omega))
   exact .finE [.r []] [] (fun z0:Int=>(VI z0,[])) _ _ e1
  ·
   have hz:=z01 (s:=l.getD i default) (by omega)
   obtain⟨hx,_,_⟩:=hd.at_ (k:=i) (by omega)
   refine .bp [.r []] (decide ((i:Int)> 0)) (fun h8=> ?_) (fun h8=> ?_)
   ·
    refine .bp [.r [(2,X (Xn ((i:Int)- 1))),(3,X (Xi' z0c l ((i:Int)- 1) (i- 1)))],.r [(7,Xv 1 ((((l.getD (i- 1) default)).kind)==(((l.getD i default)).kind)) X0),(8,Xv 1 ((((l.getD (i- 1) default)).kind)==(((l.getD i default)).kind)) X0),(9,Xv 1 ((((l.getD (i- 1) default)).kind)==(((l.getD i default)).kind)) X0),(11,Xv 1 (((((l.getD (i- 1) default)).kind)==(((l.getD i default)).kind))&& !((((l.getD i default)).kind) !=0)) X0),(13,Xv 1 (((((l.getD (i- 1) default)).kind)==(((l.getD i default)).kind))&& !((((l.getD i default)).kind) !=0)) X0),(14,Xv 2 (((((l.getD (i- 1) default)).kind)==(((l.getD i default)).kind))&& !((((l.getD i default)).kind) !=0)) (Xc0 (z3C (((l.getD (i- 1) default)).attrs) (((l.getD i default)).attrs)) X0)),(15,Xko ((((l.getD (i- 1) default)).kind)==(((l.getD i default)).kind)) ((((l.getD i default)).kind) !=0)),(16,X (Xk ((((l.getD (i- 1) default)).kind)==(((l.getD i default)).kind)))),(19,Xv 1 (!(((((l.getD (i- 1) default)).kind)==(((l.getD i default)).kind))&&(((((l.getD i default)).kind) !=0)|| (sameL (((l.getD (i- 1) default)).attrs) (((l.getD i default)).attrs))))) X0),(20,Xv 1 (!(((((l.getD (i- 1) default)).kind)==(((l.getD i default)).kind))&&(((((l.getD i default)).kind) !=0)|| (sameL (((l.getD (i- 1) default)).attrs) (((l.getD i default)).attrs))))) X0),(21,Xv 1 (!(((((l.getD (i- 1) default)).kind)==(((l.getD i default)).kind))&&(((((l.getD i default)).kind) !=0)|| (sameL (((l.getD (i- 1) default)).attrs) (((l.getD i default)).attrs))))) X0),(23,Xv 1 ((!(((((l.getD (i- 1) default)).kind)==(((l.getD i default)).kind))&&(((((l.getD i default)).kind) !=0)|| (sameL (((l.getD (i- 1) default)).attrs) (((l.getD i default)).attrs)))))&&((((l.getD (i- 1) default)).kind)==2)) X0),(24,Xv 1 ((!(((((l.getD (i- 1) default)).kind)==(((l.getD i default)).kind))&&(((((l.getD i default)).kind) !=0)|| (sameL (((l.getD (i- 1) default)).attrs) (((l.getD i default)).attrs)))))&&((((l.getD (i- 1) default)).kind)==2)) X0),(25,Xka (!(((((l.getD (i- 1) default)).kind)==(((l.getD i default)).kind))&&(((((l.getD i default)).kind) !=0)|| (sameL (((l.getD (i- 1) default)).attrs) (((l.getD i default)).attrs))))) ((((l.getD (i- 1) default)).kind)==2)),(26,X (Xk' (((((l.getD (i- 1) default)).kind)==(((l.getD i default)).kind))&&(((((l.getD i default)).kind) !=0)|| (sameL (((l.getD (i- 1) default)).attrs) (((l.getD i default)).attrs))))))]] ((((((l.getD (i- 1) default)).kind)==(((l.getD i default)).kind))&&(((((l.getD i default)).kind) !=0)|| (sameL (((l.getD (i- 1) default)).attrs) (((l.getD i default)).attrs))))|| (((((l.getD (i- 1) default)).kind)==2)&&((((l.getD i default)).kind)==1))) (fun h10=> ?_) (fun h10=> ?_)
    ·
     have e2:((z0V l):Int)=5:=by
      rw[I3.2.2.2.2.2,chkD,if_pos (by omega),if_neg (by omega),if_pos ⟨by omega,z5f.2 h10⟩]
     exact .finE [.r []] [] (fun z0:Int=>(VI z0,[])) _ _ e2
    ·
     refine .bp [.r []] ((((l.getD i default)).kind) !=1) (fun h12=> ?_) (fun h12=> ?_)
     ·
      refine .bp [.r [(3,X (Xn (b+(((l.getD i default)).n)))),(4,X (Xmin (b+(((l.getD i default)).n)) 2147483648))],.r []] ((((l.getD i default)).kind) !=2) (fun h14=> ?_) (fun h14=> ?_)
      ·
       refine .at 528 [(80,80)] ([(0,VL 4 z0c l),(3,VI (min (b+(((l.getD i default)).n)) 2147483648)),(4,VI a),(6,.ptr 80 0),(9,VL 4 z0c l),(10,VI (l.length:Int)),(11,VI (i:Int)),(65,VB ((((l.getD i default)).kind) !=2))],[(80,.box [VI (((l.getD i default)).kind),VI (((l.getD i default)).n),VL 2 attrT (((l.getD i default)).attrs),VL 3 elemT (((l.getD i default)).elems)])]) ?_
       refine .back [.r [(2,X (Xc0 (z2N ((l.getD i default))) X0)),(3,X (Xn (a+(szD ((l.getD i default)))))),(4,X (Xmin (a+(szD ((l.getD i default)))) 2147483648))],.r [(0,X (Xn ((i:Int)+1)))]] [] (ih3 ((min (b+(((l.getD i default)).n)) 2147483648),(min (a+(szD ((l.getD i default)))) 2147483648),(i+1)) ?_ ?_)
       ·
        refine⟨by omega,by omega,by omega,by omega,by omega,?_⟩
        rw[I3.2.2.2.2.2,chkD,if_pos (by omega),if_neg (by omega),if_neg (by first|omega|exact fun hh=>z28 h10 hh.2)]
        ((repeat' split)<;>first|rfl|omega| (simp_all;done)| (simp_all;omega))
       ·
        ((try dsimp only);omega)
      ·
       refine .at 528 [(80,80)] ([(0,VL 4 z0c l),(3,VI (min (b+(((l.getD i default)).n)) 2147483648)),(4,VI a),(6,.ptr 80 0),(9,VL 4 z0c l),(10,VI (l.length:Int)),(11,VI (i:Int)),(65,VB ((((l.getD i default)).kind) !=2))],[(80,.box [VI (((l.getD i default)).kind),VI (((l.getD i default)).n),VL 2 attrT (((l.getD i default)).attrs),VL 3 elemT (((l.getD i default)).elems)])]) ?_
       refine .back [.r [(0,X (Xn ((i:Int)+1)))]] [] (ih3 ((min (b+(((l.getD i default)).n)) 2147483648),a,(i+1)) ?_ ?_)
       ·
        refine⟨by omega,by omega,by omega,by omega,by omega,?_⟩
        rw[I3.2.2.2.2.2,chkD,if_pos (by omega),if_neg (by omega),if_neg (by first|omega|exact fun hh=>z28 h10 hh.2)]
        ((repeat' split)<;>first|rfl|omega| (simp_all;done)| (simp_all;omega))
       ·
        ((try dsimp only);omega)
     ·
      refine .bp [.r []] ((((l.getD i default)).kind) !=2) (fun h14=> ?_) (fun h14=> ?_)
      ·
       refine .at 480 [(80,80)] ([(0,VL 4 z0c l),(3,VI b),(4,VI a),(6,.ptr 80 0),(9,VL 4 z0c l),(10,VI (l.length:Int)),(11,VI (i:Int)),(65,VB ((((l.getD i default)).kind) !=2))],[(80,.box [VI (((l.getD i default)).kind),VI (((l.getD i default)).n),VL 2 attrT (((l.getD i default)).attrs),VL 3 elemT (((l.getD i default)).elems)])]) ?_
       refine .back [.r [(2,X (Xc0 (z2N ((l.getD i default))) X0)),(3,X (Xn (a+(szD ((l.getD i default)))))),(4,X (Xmin (a+(szD ((l.getD i default)))) 2147483648))],.r [(0,X (Xn ((i:Int)+1)))]] [] (ih3 (b,(min (a+(szD ((l.getD i default)))) 2147483648),(i+1)) ?_ ?_)
       ·
        refine⟨by omega,by omega,by omega,by omega,by omega,?_⟩
        rw[I3.2.2.2.2.2,chkD,if_pos (by omega),if_neg (by omega),if_neg (by first|omega|exact fun hh=>z28 h10 hh.2)]
        ((repeat' split)<;>first|rfl|omega| (simp_all;done)| (simp_all;omega))
       ·
        ((try dsimp only);omega)
      ·
       refine .at 480 [(80,80)] ([(0,VL 4 z0c l),(3,VI b),(4,VI a),(6,.ptr 80 0),(9,VL 4 z0c l),(10,VI (l.length:Int)),(11,VI (i:Int)),(65,VB ((((l.getD i default)).kind) !=2))],[(80,.box [VI (((l.getD i default)).kind),VI (((l.getD i default)).n),VL 2 attrT (((l.getD i default)).attrs),VL 3 elemT (((l.getD i default)).elems)])]) ?_
       refine .back [.r [(0,X (Xn ((i:Int)+1)))]] [] (ih3 (b,a,(i+1)) ?_ ?_)
       ·
        refine⟨by omega,by omega,by omega,by omega,by omega,?_⟩
        rw[I3.2.2.2.2.2,chkD,if_pos (by omega),if_neg (by omega),if_neg (by first|omega|exact fun hh=>z28 h10 hh.2)]
        ((repeat' split)<;>first|rfl|omega| (simp_all;done)| (simp_all;omega))
       ·
        ((try dsimp only);omega)
   ·
    refine .bp [.r []] ((((l.getD i default)).kind) !=1) (fun h12=> ?_) (fun h12=> ?_)
    ·
     refine .bp [.r [(3,X (Xn (b+(((l.getD i default)).n)))),(4,X (Xmin (b+(((l.getD i default)).n)) 2147483648))],.r []] ((((l.getD i default)).kind) !=2) (fun h14=> ?_) (fun h14=> ?_)
     ·
      refine .back [.r [(2,X (Xc0 (z2N ((l.getD i default))) X0)),(3,X (Xn (a+(szD ((l.getD i default)))))),(4,X (Xmin (a+(szD ((l.getD i default)))) 2147483648))],.r [(0,X (Xn ((i:Int)+1)))]] [] (ih3 ((min (b+(((l.getD i default)).n)) 2147483648),(min (a+(szD ((l.getD i default)))) 2147483648),(i+1)) ?_ ?_)
      ·
       refine⟨by omega,by omega,by omega,by omega,by omega,?_⟩
       rw[I3.2.2.2.2.2,chkD,if_pos (by omega),if_neg (by omega),if_neg (by first|omega|exact fun hh=>z28 h10 hh.2)]
       ((repeat' split)<;>first|rfl|omega| (simp_all;done)| (simp_all;omega))
      ·
       ((try dsimp only);omega)
     ·
      refine .back [.r [(0,X (Xn ((i:Int)+1)))]] [] (ih3 ((min (b+(((l.getD i default)).n)) 2147483648),a,(i+1)) ?_ ?_)
      ·
       refine⟨by omega,by omega,by omega,by omega,by omega,?_⟩
       rw[I3.2.2.2.2.2,chkD,if_pos (by omega),if_neg (by omega),if_neg (by first|omega|exact fun hh=>z28 h10 hh.2)]
       ((repeat' split)<;>first|rfl|omega| (simp_all;done)| (simp_all;omega))
      ·
       ((try dsimp only);omega)
    ·
     refine .bp [.r []] ((((l.getD i default)).kind) !=2) (fun h14=> ?_) (fun h14=> ?_)
     ·
      refine .back [.r [(2,X (Xc0 (z2N ((l.getD i default))) X0)),(3,X (Xn (a+(szD ((l.getD i default)))))),(4,X (Xmin (a+(szD ((l.getD i default)))) 2147483648))],.r [(0,X (Xn ((i:Int)+1)))]] [] (ih3 (b,(min (a+(szD ((l.getD i default)))) 2147483648),(i+1)) ?_ ?_)
      ·
       refine⟨by omega,by omega,by omega,by omega,by omega,?_⟩
       rw[I3.2.2.2.2.2,chkD,if_pos (by omega),if_neg (by omega),if_neg (by first|omega|exact fun hh=>z28 h10 hh.2)]
       ((repeat' split)<;>first|rfl|omega| (simp_all;done)| (simp_all;omega))
      ·
       ((try dsimp only);omega)
     ·
      refine .back [.r [(0,X (Xn ((i:Int)+1)))]] [] (ih3 (b,a,(i+1)) ?_ ?_)
      ·
       refine⟨by omega,by omega,by omega,by omega,by omega,?_⟩
       rw[I3.2.2.2.2.2,chkD,if_pos (by omega),if_neg (by omega),if_neg (by first|omega|exact fun hh=>z28 h10 hh.2)]
       ((repeat' split)<;>first|rfl|omega| (simp_all;done)| (simp_all;omega))
      ·
       ((try dsimp only);omega)
 ·
  refine .bp [.r [(4,Xv 1 (!(decide (b>2147483647))) X0),(5,X (Xk' (decide (b>2147483647))))]] (decide (b>2147483647)||decide (a>2147483647)) (fun h17=> ?_) (fun h17=> ?_)
  ·
   have e3:((z0V l):Int)=3:=by
    rw[I3.2.2.2.2.2,chkD];((repeat' split)<;>first|rfl|omega| (simp_all;done)| (simp_all;omega))
   exact .finE [.r []] [] (fun z0:Int=>(VI z0,[])) _ _ e3
  ·
   have e4:((z0V l):Int)=0:=by
    rw[I3.2.2.2.2.2,chkD];((repeat' split)<;>first|rfl|omega| (simp_all;done)| (simp_all;omega))
   exact .finE [.r []] [] (fun z0:Int=>(VI z0,[])) _ _ e4
theorem z4b(l:List DStep)(hv:z0W l):FC Tryz.prog 106 [VL 4 z0c l] (app emp []) (.tup [VI (oldD l),VI (newD l)]) (app emp []):=by
 refine .go Tryz.f106 ?_
 refine .len 0 (fun hl0=> ?_)
 refine .loop (α:=Int×Int×Nat) [.r [],.r [],.r [(1,X (Xl z0c l))]] 56 (fun(b,a,i)=>([(4,VI b),(5,VI a),(8,VL 4 z0c l),(9,VI (l.length:Int)),(10,VI (i:Int))],[])) (fun(b,a,i)=>i≤l.length∧0≤b∧0≤a∧oldD l=b+oldD (l.drop i)∧newD l=a+newD (l.drop i)) (fun(b,a,i)=>l.length-i) (0,0,0) ?_ ?_
 ·
  exact⟨by omega,by decide,by decide,by simp,by simp⟩
 rintro⟨b,a,i⟩ I3 ih3
 try dsimp only at I3
 have hv1:=hv.2.1
 have hv2:=hv.2.2
 refine .bp [.r []] (decide ((i:Int)< (l.length:Int))) (fun h3=> ?_) (fun h3=> ?_)
 ·
  have hst:=z6N (l:=l) (i:=i) (by omega) hv.1
  refine .bp [.r [(0,X (Xi z0c l (i:Int)))],.r []] ((((l.getD i default)).kind) !=1) (fun h5=> ?_) (fun h5=> ?_)
  ·
   have s1:=hst.1
   rw[if_neg (by omega)] at s1
   refine .bp [.r [(3,X (Xn (b+(((l.getD i default)).n))))],.r []] ((((l.getD i default)).kind) !=2) (fun h7=> ?_) (fun h7=> ?_)
   ·
    have s2:=hst.2.1
    rw[if_neg (by omega)] at s2
    refine .back [.r [(2,X (Xc0 (z2N ((l.getD i default))) X0)),(3,X (Xn (a+(szD ((l.getD i default))))))],.r [(0,X (Xn ((i:Int)+1)))]] [] (ih3 ((b+(((l.getD i default)).n)),(a+(szD ((l.getD i default)))),(i+1)) ?_ ?_)
    ·
     obtain⟨s1,s2,s3,s4,s5,s6,s7,s8⟩:=hst
     first|rw[if_pos (by omega)] at s1|rw[if_neg (by omega)] at s1
     first|rw[if_pos (by omega)] at s2|rw[if_neg (by omega)] at s2
     refine⟨by omega,by omega,by omega,by omega,by omega⟩
    ·
     ((try dsimp only);omega)
   ·
    refine .back [.r [(0,X (Xn ((i:Int)+1)))]] [] (ih3 ((b+(((l.getD i default)).n)),a,(i+1)) ?_ ?_)
    ·
     obtain⟨s1,s2,s3,s4,s5,s6,s7,s8⟩:=hst
     first|rw[if_pos (by omega)] at s1|rw[if_neg (by omega)] at s1
     first|rw[if_pos (by omega)] at s2|rw[if_neg (by omega)] at s2
     refine⟨by omega,by omega,by omega,by omega,by omega⟩
    ·
     ((try dsimp only);omega)
  ·
   refine .bp [.r []] ((((l.getD i default)).kind) !=2) (fun h7=> ?_) (fun h7=> ?_)
   ·
    have s2:=hst.2.1
    rw[if_neg (by omega)] at s2
    refine .back [.r [(2,X (Xc0 (z2N ((l.getD i default))) X0)),(3,X (Xn (a+(szD ((l.getD i default))))))],.r [(0,X (Xn ((i:Int)+1)))]] [] (ih3 (b,(a+(szD ((l.getD i default)))),(i+1)) ?_ ?_)
    ·
     obtain⟨s1,s2,s3,s4,s5,s6,s7,s8⟩:=hst
     first|rw[if_pos (by omega)] at s1|rw[if_neg (by omega)] at s1
     first|rw[if_pos (by omega)] at s2|rw[if_neg (by omega)] at s2
     refine⟨by omega,by omega,by omega,by omega,by omega⟩
    ·
     ((try dsimp only);omega)
   ·
    refine .back [.r [(0,X (Xn ((i:Int)+1)))]] [] (ih3 (b,a,(i+1)) ?_ ?_)
    ·
     obtain⟨s1,s2,s3,s4,s5,s6,s7,s8⟩:=hst
     first|rw[if_pos (by omega)] at s1|rw[if_neg (by omega)] at s1
     first|rw[if_pos (by omega)] at s2|rw[if_neg (by omega)] at s2
     refine⟨by omega,by omega,by omega,by omega,by omega⟩
    ·
     ((try dsimp only);omega)
 ·
  have e1:((oldD l):Int)=b:=by
   have hE:=dend (l:=l) (i:=i) (by omega)
   omega
  have e2:((newD l):Int)=a:=by
   have hE:=dend (l:=l) (i:=i) (by omega)
   omega
  exact .finE [.r []] [] (fun((z0,z1):Int×Int)=>(.tup [VI z0,VI z1],[])) _ _ (pr e1 e2)
end Go.Ch
end
section
set_option linter.unusedVariables false
set_option linter.unusedSimpArgs false
set_option maxRecDepth 100000
set_option maxHeartbeats 4000000
open Go Go.Proofs Go.Ab
namespace Go.Ch
theorem y7m(f:List Elem)(l:List DStep)(hv:z0W l)(hd:DN 400000000000 l)(ha:AN 400000000000 f)(hlen:oldD l=f.length):FC Tryz.prog 130 [VL 3 elemT f,VL 4 z0c l] (app emp []) (VL 3 elemT (rawD f l)) (app emp []):=by
 refine .go Tryz.f130 ?_
 refine .len 0 (fun hl0=> ?_)
 refine .len 1 (fun hl1=> ?_)
 refine .loop (α:=(List Elem)×Nat×(List Elem)) [.r [],.r [],.r [(1,X (Xl z0c l))],.le (.nR 5 3)] 41 (fun(r,i,o)=>([(0,VL 3 elemT r),(5,.row 40 o.length),(8,VL 4 z0c l),(9,VI (l.length:Int)),(10,VI (i:Int))],[(40,OR 3 elemT o)])) (fun(r,i,o)=>i≤l.length∧AN 400000000000 r∧oldD (l.drop i)=r.length∧o.length+newD (l.drop i)=newD l∧rawD f l=o++z0j (exD (l.drop i)) r) (fun(r,i,o)=>l.length-i) (f,0,[]) ?_ ?_
 ·
  exact⟨by omega,ha,by simpa using hlen,by simp,by simp[rawD]⟩
 rintro⟨r,i,o⟩ I3 ih3
 try dsimp only at I3
 have hv1:=hv.2.1
 have hv2:=hv.2.2
 refine .bp [.r []] (decide ((i:Int)< (l.length:Int))) (fun h3=> ?_) (fun h3=> ?_)
 ·
  have hst:=z6N (l:=l) (i:=i) (by omega) hv.1
  obtain⟨hx,hx2,hx3⟩:=hd.at_ (k:=i) (by omega)
  have hr:=y8t (d:=l) (i:=i) (by omega) r
  refine .bp [.r [(0,X (Xi z0c l (i:Int)))],.r [],.r []] ((((l.getD i default)).kind)==0) (fun h7=> ?_) (fun h7=> ?_)
  ·
   obtain⟨s1,s2,s3,s4,s5,s6,s7,s8⟩:=hst
   rw[if_neg (by omega)] at s1 s2
   have hz:szD (l.getD i default)=(l.getD i default).n:=by unfold szD;rw[if_neg (by omega)]
   have hl8:(r.take (l.getD i default).n.toNat).length=(l.getD i default).n.toNat:=by rw[List.length_take];omega
   have hs8:∀x∈r.take (l.getD i default).n.toNat,x.attrs.length+(l.getD i default).attrs.length<1099511627776:=fun x hx=>by have:=I3.2.1 x (List.mem_of_mem_take hx);omega
   refine .back [.r [(4,X (Xst elemT 3 r (((l.getD i default)).n))),(7,X (Xc1 169 (z6Q (r.take (Int.toNat (((l.getD i default)).n))) (((l.getD i default)).attrs) (by omega) (by assumption)) X0)),(8,X (Xap 3 elemT 40 o (List.map (chgE (((l.getD i default)).attrs)) (r.take (Int.toNat (((l.getD i default)).n))))))],.r [(3,X (Xsd elemT 3 r (((l.getD i default)).n)))],.r [(0,X (Xn ((i:Int)+1)))]] [(40,40)] (ih3 ((r.drop (Int.toNat (((l.getD i default)).n))),(i+1),(o++(List.map (chgE (((l.getD i default)).attrs)) (r.take (Int.toNat (((l.getD i default)).n)))))) ?_ ?_)
   ·
    refine⟨by omega,fun x hx=>I3.2.1 x (List.mem_of_mem_drop hx),by(rw[List.length_drop];omega),by(simp only[List.length_append,List.length_map];omega),?_⟩
    rw[I3.2.2.2.2,hr,if_neg (by omega),if_neg (by omega),List.append_assoc]
   ·
    show l.length- (i+1)< l.length-i;omega
  ·
   refine .bp [.r []] ((((l.getD i default)).kind)==1) (fun h10=> ?_) (fun h10=> ?_)
   ·
    obtain⟨s1,s2,s3,s4,s5,s6,s7,s8⟩:=hst
    rw[if_pos (by omega)] at s1
    rw[if_neg (by omega)] at s2
    have hz:szD (l.getD i default)=(l.getD i default).elems.length:=by unfold szD;rw[if_pos (by omega)]
    refine .back [.r [(3,X (Xc1 153 (y3O (((l.getD i default)).elems) (by omega) (by assumption)) X0)),(4,X (Xap 3 elemT 40 o (((l.getD i default)).elems)))],.r [(0,X (Xn ((i:Int)+1)))]] [(40,40)] (ih3 (r,(i+1),(o++(((l.getD i default)).elems))) ?_ ?_)
    ·
     refine⟨by omega,I3.2.1,by omega,by(simp only[List.length_append];omega),?_⟩
     rw[I3.2.2.2.2,hr,if_pos (by omega),List.append_assoc]
    ·
     show l.length- (i+1)< l.length-i;omega
   ·
    obtain⟨s1,s2,s3,s4,s5,s6,s7,s8⟩:=hst
    rw[if_neg (by omega)] at s1
    rw[if_pos (by omega)] at s2
    refine .back [.r [(3,X (Xsd elemT 3 r (((l.getD i default)).n)))],.r [(0,X (Xn ((i:Int)+1)))]] [(40,40)] (ih3 ((r.drop (Int.toNat (((l.getD i default)).n))),(i+1),o) ?_ ?_)
    ·
     refine⟨by omega,fun x hx=>I3.2.1 x (List.mem_of_mem_drop hx),by(rw[List.length_drop];omega),by omega,?_⟩
     rw[I3.2.2.2.2,hr,if_neg (by omega),if_pos (by omega)]
    ·
     show l.length- (i+1)< l.length-i;omega
 ·
  have e1:((rawD f l):List Elem)=o:=by
   rw[I3.2.2.2.2,List.drop_eq_nil_of_le (by omega)];simp[exD,z0j]
  exact .finE [.r [],.le (.fr 4 [(o.length:Nat)=(List.map elemT o).length] ⟨lm,trivial⟩)] [] (fun z0:List Elem=>(VL 3 elemT z0,[])) _ _ e1
end Go.Ch
end
section
set_option linter.unusedVariables false
set_option linter.unusedSimpArgs false
set_option maxRecDepth 100000
set_option maxHeartbeats 4000000
open Go Go.Proofs Go.Ab
namespace Go.Ch
end Go.Ch
end
section
set_option linter.unusedVariables false
set_option linter.unusedSimpArgs false
namespace Go.Ch
open Go Go.Ab
structure DWr where
 out:List DStep
 add:List Elem
 cut:Int
def z0a(w:DWr):List DStep:=w.out++(if 0<w.add.length then[⟨1,0,[],w.add⟩] else[])++(if 0<w.cut then[⟨2,w.cut,[],[]⟩] else[])
def keepD(l:List DStep)(n:Int)(c:List Attr):List DStep:=
 if 0<l.length∧(l.getD (l.length- 1) default).kind=0∧sameL (l.getD (l.length- 1) default).attrs c=true then
  l.set (l.length- 1) ⟨(l.getD (l.length- 1) default).kind,(l.getD (l.length- 1) default).n+n,(l.getD (l.length- 1) default).attrs,(l.getD (l.length- 1) default).elems⟩
 else l++[⟨0,n,c,[]⟩]
theorem z6R(w:DWr):(z0a w).length≤w.out.length+2:=by
 unfold z0a;simp only[List.length_append];split<;>split<;>simp
theorem y3Q(l:List DStep)(n:Int)(c:List Attr):(keepD l n c).length≤l.length+1:=by
 unfold keepD;split<;>simp
def DOkW(s:DStep):Prop:=
 (s.kind=1∧s.n=0∧s.attrs=[]∧s.elems≠[]∧∀x∈s.elems,elemE x=0)∨
 ((s.kind=0∨s.kind=2)∧s.elems=[]∧(s.kind=2→s.attrs=[])∧1≤s.n∧VG true s.attrs)
def AdjOk:List DStep→Prop
 | []=>True
 | [_]=>True
 |s::t::l=>adjD s t=false∧AdjOk (t::l)
theorem z4c:∀{l:List DStep} {s:DStep},AdjOk l→(∀t,l.getLast? =some t→adjD t s=false)→AdjOk (l++[s])
 | [],s,_,_=>trivial
 | [x],s,_,h=>⟨h x rfl,trivial⟩
 |x::y::l,s,hf,h=>⟨hf.1,z4c (l:=y::l) hf.2 (fun t ht=>h t (by simpa[List.getLast?_cons_cons] using ht))⟩
theorem y5C{w x x':DStep}(k:x'.kind=x.kind)(a:x'.attrs=x.attrs):adjD w x'=adjD w x:=by unfold adjD;rw[k,a]
theorem y1j:∀{l:List DStep} {s s':DStep},AdjOk (l++[s])→s'.kind=s.kind→s'.attrs=s.attrs→AdjOk (l++[s'])
 | [],s,s',_,_,_=>trivial
 | [x],s,s',h,k,a=>⟨by rw[y5C k a];exact h.1,trivial⟩
 |x::y::l,s,s',h,k,a=>⟨h.1,y1j (l:=y::l) h.2 k a⟩
theorem y1k:∀{l:List DStep},(∀s∈l,DOk s)→AdjOk l→DForm l
 | [],_,_=>trivial
 | [s],h,_=>h s (by simp)
 |s::t::l,h,k=>⟨h s (by simp),k.1,y1k (fun x hx=>h x (by simp at hx⊢;exact .inr hx)) k.2⟩
theorem okW{s:DStep}(h:DOk s):DOkW s:=by
 rcases h with h| ⟨a,b,c,d,e,f⟩
 ·exact .inl h
 ·exact .inr ⟨a,b,c,d,f⟩
theorem oSW{s:DStep}(h:DOkW s):0≤oS s∧0≤nS s∧(s.kind≠1→oS s=s.n)∧0≤s.n:=by
 unfold oS nS szD
 rcases h with⟨k,n,a,e,_⟩| ⟨k,_,_,n1,_⟩
 ·have:0<s.elems.length:=List.length_pos_iff.2 e
  rw[if_pos k,if_neg (by omega),if_pos k]
  exact⟨Int.le_refl _,by omega,fun q=>absurd k q,by omega⟩
 ·have k1:¬s.kind=1:=by omega
  simp only[if_neg k1]
  refine⟨by omega,by(split<;>omega),fun _=>trivial,by omega⟩
theorem sumsW:∀{l:List DStep},(∀s∈l,DOkW s)→0≤oldD l∧0≤newD l∧∀s∈l,s.kind≠1→s.n≤oldD l
 | [],_=>⟨Int.le_refl _,Int.le_refl _,fun s hs=>by cases hs⟩
 |s::l,h=>by
  have h1:=oSW (h s (by simp))
  have h2:=sumsW (l:=l) (fun t ht=>h t (by simp[ht]))
  simp only[oldD,newD]
  refine⟨by omega,by omega,fun t ht k=> ?_⟩
  rcases List.mem_cons.1 ht with rfl|ht
  ·have:=h1.2.2.1 k;omega
  ·have:=h2.2.2 t ht k;omega
theorem y5D{l:List DStep}(h:∀s∈l,DOkW s)(ha:AdjOk l)(h1:oldD l≤2147483647)(h2:newD l≤2147483647):z0W l:=by
 refine⟨y1k (fun s hs=> ?_) ha,h1,h2⟩
 rcases h s hs with q| ⟨a,b,c,d,e⟩
 ·exact .inl q
 ·have:=(sumsW h).2.2 s hs (by omega)
  exact .inr ⟨a,b,c,d,by omega,e⟩
theorem z0E(u v:List DU):oldN (u++v)=oldN u+oldN v:=by
 induction u with
 |nil=>simp[oldN]
 |cons x u ih=>cases x<;>simp[oldN,ih]<;>omega
theorem z1o(u v:List DU):newN (u++v)=newN u+newN v:=by
 induction u with
 |nil=>simp[newN]
 |cons x u ih=>cases x<;>simp[newN,ih]<;>omega
theorem z2j(e:List Elem):oldN (e.map .A)=0∧newN (e.map .A)=e.length:=by
 induction e with
 |nil=>exact⟨rfl,rfl⟩
 |cons x e ih=>simp[oldN,newN,ih]
theorem z2k(n:Nat):oldN (List.replicate n .C)=n∧newN (List.replicate n .C)=0:=by
 induction n with
 |zero=>exact⟨rfl,rfl⟩
 |succ n ih=>simp[List.replicate_succ,oldN,newN,ih]
theorem z1p(n:Nat)(c:List Attr):oldN (List.replicate n (.K c))=n∧newN (List.replicate n (.K c))=n:=by
 induction n with
 |zero=>exact⟨rfl,rfl⟩
 |succ n ih=>simp[List.replicate_succ,oldN,newN,ih]
theorem y8w{s:DStep}(h:DOkW s):(oldN (exS s):Int)=oS s∧(newN (exS s):Int)=nS s:=by
 unfold exS oS nS szD
 rcases h with⟨k,n,a,e,_⟩| ⟨k,_,_,n1,_⟩
 ·rw[if_pos k,if_pos k,if_neg (by omega),if_pos k,(z2j _).1,(z2j _).2];exact⟨rfl,rfl⟩
 ·have k1:¬s.kind=1:=by omega
  by_cases k2:s.kind=2
  ·simp only[if_neg k1,if_pos k2]
   rw[(z2k _).1,(z2k _).2];omega
  ·simp only[if_neg k1,if_neg k2]
   rw[(z1p _ _).1,(z1p _ _).2];omega
theorem y3R:∀{l:List DStep},(∀s∈l,DOkW s)→(oldN (exD l):Int)=oldD l∧(newN (exD l):Int)=newD l
 | [],_=>⟨rfl,rfl⟩
 |s::l,h=>by
  have h1:=y8w (h s (by simp))
  have h2:=y3R (l:=l) (fun t ht=>h t (by simp[ht]))
  simp only[exD,oldD,newD]
  rw[z0E,z1o]
  omega
def exDW(w:DWr):List DU:=exD w.out++(w.add.map .A++List.replicate w.cut.toNat .C)
structure GoodD(w:DWr):Prop where
 ok:∀s∈w.out,DOkW s
 adj:AdjOk w.out
 last:∀t,w.out.getLast? =some t→t.kind=0
 add:∀x∈w.add,elemE x=0
 cut:0≤w.cut
theorem y6s:GoodD ⟨[],[],0⟩:=⟨fun s h=>(by cases h),trivial,fun t h=>(by cases h),fun x h=>(by cases h),Int.le_refl _⟩
theorem z53{w:DWr}(h:GoodD w):exD (z0a w)=exDW w:=by
 have h2:=h.cut
 unfold z0a exDW
 rw[z3E,z3E,List.append_assoc]
 congr 2
 ·split
  ·simp[exD,exS]
  ·rw[show w.add=[] from len0.1 (by omega)];rfl
 ·split
  ·simp[exD,exS]
  ·rw[show w.cut.toNat=0 by omega];rfl
theorem adj_1{t s:DStep}(h:t.kind≠s.kind)(h2:¬(t.kind=2∧s.kind=1)):adjD t s=false:=by
 cases e:adjD t s
 ·rfl
 ·rcases z5f.1 e with⟨a,_⟩|a
  ·exact absurd a h
  ·exact absurd a h2
theorem z54:VG true []:=(z0Q (e:=true) (l:=[])).1 (by rw[chkA];rfl)
theorem z4d{w:DWr}(h:GoodD w):(∀s∈z0a w,DOkW s)∧AdjOk (z0a w):=by
 have h2:=h.cut
 have o1:0<w.add.length→DOkW ⟨1,0,[],w.add⟩:=fun q=> .inl ⟨rfl,rfl,rfl,List.length_pos_iff.1 q,h.add⟩
 have o2:0<w.cut→DOkW ⟨2,w.cut,[],[]⟩:=fun q=> .inr ⟨.inr rfl,rfl,fun _=>rfl,q,z54⟩
 refine⟨fun s hs=> ?_,?_⟩
 ·unfold z0a at hs
  simp only[List.mem_append] at hs
  rcases hs with(hs|hs)|hs
  ·exact h.ok s hs
  ·split at hs
   ·rename_i q;rw[List.mem_singleton] at hs;subst hs;exact o1 q
   ·cases hs
  ·split at hs
   ·rename_i q;rw[List.mem_singleton] at hs;subst hs;exact o2 q
   ·cases hs
 ·unfold z0a
  by_cases ha:0<w.add.length
  ·rw[if_pos ha]
   have f1:AdjOk (w.out++[⟨1,0,[],w.add⟩]):=z4c h.adj (fun t ht=>by
    have:=h.last t ht
    exact adj_1 (by simp only;omega) (by omega))
   by_cases hc:0<w.cut
   ·rw[if_pos hc]
    refine z4c f1 (fun t ht=> ?_)
    rw[List.getLast?_concat] at ht
    cases ht
    exact adj_1 (by show(1:Int)≠2;decide) (by show¬((1:Int)=2∧(2:Int)=1);decide)
   ·rw[if_neg hc,List.append_nil];exact f1
  ·rw[if_neg ha,List.append_nil]
   by_cases hc:0<w.cut
   ·rw[if_pos hc]
    refine z4c h.adj (fun t ht=> ?_)
    have:=h.last t ht
    exact adj_1 (by simp only;omega) (by omega)
   ·rw[if_neg hc,List.append_nil];exact h.adj
theorem lastD{l:List DStep}(h:0<l.length):l=l.take (l.length- 1)++[l.getD (l.length- 1) default]:=by
 conv=>lhs;rw[←List.take_append_drop (l.length- 1) l]
 congr 1
 rw[List.drop_eq_getElem_cons (by omega),List.drop_eq_nil_of_le (by omega)]
 simp[List.getD,List.getElem?_eq_getElem (show l.length- 1<l.length by omega)]
theorem z80{l:List DStep}(h:0<l.length):l.getD (l.length- 1) default∈l:=by
 rw[show l.getD (l.length- 1) default=l[l.length- 1] by simp[List.getD,List.getElem?_eq_getElem (show l.length- 1<l.length by omega)]]
 exact List.getElem_mem _
theorem setD{l:List DStep}(h:0<l.length)(s:DStep):l.set (l.length- 1) s=l.take (l.length- 1)++[s]:=by
 rw[List.set_eq_take_append_cons_drop,if_pos (by omega),List.drop_eq_nil_of_le (by omega)]
theorem y5E{l:List DStep}{n:Int}{c:List Attr}(ho:∀s∈l,DOkW s)(hf:AdjOk l)(hn:1≤n)(hc:VG true c):
 (∀s∈keepD l n c,DOkW s)∧AdjOk (keepD l n c)∧(∀t,(keepD l n c).getLast? =some t→t.kind=0)∧exD (keepD l n c)=exD l++List.replicate n.toNat (.K c):=by
 unfold keepD
 split
 ·rename_i hc
  obtain⟨h0,hk,ha⟩:=hc
  rw[y5m] at ha
  generalize hx:l.getD (l.length- 1) default=x at hk ha⊢
  have hl:=lastD h0
  rw[hx] at hl
  rw[setD h0]
  have hox:DOkW x:=ho x (by rw[hl];simp)
  have hx2:x.elems=[]∧1≤x.n∧VG true x.attrs:=by
   rcases hox with⟨k,_⟩| ⟨_,a,_,b,d⟩
   ·omega
   ·exact⟨a,b,d⟩
  refine⟨fun s hs=> ?_,y1j (s:=x) (by rw[←hl];exact hf) rfl rfl,fun t ht=> ?_,?_⟩
  ·rw[List.mem_append] at hs
   rcases hs with hs|hs
   ·exact ho s (List.mem_of_mem_take hs)
   ·rw[List.mem_singleton] at hs;subst hs
    exact .inr ⟨.inl hk,hx2.1,fun q=>by simp only at q;omega,by simp only;omega,hx2.2.2⟩
  ·rw[List.getLast?_concat] at ht;cases ht;exact hk
  ·conv=>rhs;rw[hl]
   rw[z3E,z3E,List.append_assoc]
   congr 1
   simp only[exD,List.append_nil,exS]
   rw[if_neg (by omega),if_neg (by omega),if_neg (by omega),if_neg (by omega),ha,show(x.n+n).toNat=x.n.toNat+n.toNat by omega]
   exact List.replicate_append_replicate.symm
 ·rename_i hq
  refine⟨fun s hs=> ?_,z4c hf (fun t ht=> ?_),fun t ht=> ?_,by rw[z3E];simp[exD,exS]⟩
  ·rw[List.mem_append] at hs
   rcases hs with hs|hs
   ·exact ho s hs
   ·rw[List.mem_singleton] at hs;subst hs
    exact .inr ⟨.inl rfl,rfl,fun q=>(by cases q),hn,hc⟩
  ·have h0:0<l.length:=by
    rcases l with _| ⟨y,l⟩
    ·cases ht
    ·simp
   have hl:l.getLast? =some (l.getD (l.length- 1) default):=by
    conv=>lhs;rw[lastD h0]
    rw[List.getLast?_concat]
   rw[hl] at ht
   cases ht
   cases e:adjD (l.getD (l.length- 1) default) ⟨0,n,c,[]⟩
   ·rfl
   ·rcases z5f.1 e with⟨a,b|b⟩| ⟨_,b⟩
    ·exact absurd rfl b
    ·exact absurd ⟨h0,a,b⟩ hq
    ·cases b
  ·rw[List.getLast?_concat] at ht;cases ht;rfl
theorem GoodD.keep{w:DWr}{n:Int}{c:List Attr}(h:GoodD w)(hn:1≤n)(hc:VG true c):
 GoodD ⟨keepD (z0a w) n c,[],0⟩∧exDW ⟨keepD (z0a w) n c,[],0⟩=exDW w++List.replicate n.toNat (.K c):=by
 obtain⟨q1,q2,q3,q4⟩:=y5E (z4d h).1 (z4d h).2 hn hc
 refine⟨⟨q1,q2,q3,fun x hx=>(by cases hx),Int.le_refl _⟩,?_⟩
 rw[←z53 h,←q4]
 simp[exDW]
theorem GoodD.elems{w:DWr}{e:List Elem}(h:GoodD w)(he:∀x∈e,elemE x=0):
 GoodD ⟨w.out,w.add++e,w.cut⟩∧DSw (exDW ⟨w.out,w.add++e,w.cut⟩) (exDW w++e.map .A):=by
 refine⟨⟨h.ok,h.adj,h.last,fun x hx=> ?_,h.cut⟩,?_⟩
 ·rcases List.mem_append.1 hx with hx|hx
  ·exact h.add x hx
  ·exact he x hx
 ·unfold exDW
  simp only[List.map_append,List.append_assoc]
  refine .left _ (.left _ ?_)
  have:=y3F w.cut.toNat e []
  simp only[List.append_nil] at this
  exact .symm this
theorem GoodD.cuts{w:DWr}{n:Int}(h:GoodD w)(hn:0≤n):
 GoodD ⟨w.out,w.add,w.cut+n⟩∧exDW ⟨w.out,w.add,w.cut+n⟩=exDW w++List.replicate n.toNat .C:=by
 have h2:=h.cut
 refine⟨⟨h.ok,h.adj,h.last,h.add,by simp only;omega⟩,?_⟩
 unfold exDW
 simp only[List.append_assoc]
 rw[show(w.cut+n).toNat=w.cut.toNat+n.toNat by omega,←List.replicate_append_replicate]
theorem GoodD.valid{w:DWr}{u:List DU}(h:GoodD w)(hs:DSw (exDW w) u)(h1:oldN u≤2147483647)(h2:newN u≤2147483647):
 z0W (z0a w)∧DSw (exD (z0a w)) u∧oldD (z0a w)=oldN u∧newD (z0a w)=newN u:=by
 have hk:=z4d h
 have he:=z53 h
 have hl:=y1b hs
 have hd:=y3R hk.1
 rw[he] at hd
 refine⟨y5D hk.1 hk.2 (by omega) (by omega),by rw[he];exact hs,by omega,by omega⟩
end Go.Ch
end
