/- Parts of the proof: ChGrid9, GridDoc, DocPlain, ChDoc, ChDoc2, DocFind, ChDoc3, ChDoc4, ChDoc5, ChDoc6, ChDoc7, DeltaPlain, EditPlain, ChDoc8, DocCopy, ChDoc9, ChFlow2, ChDelta, ChDelta2, ChDelta3, DeltaWrite, ChDelta4, DeltaFold, DeltaUndo, DeltaAct, ChDelta7, ChAxis, DeltaChange, DeltaLaws, DeltaJoin, DeltaPair, ChDelta9, ChDelta10, DeltaRead, DeltaRuns, DeltaJD, DeltaJF, ChDelta11, EdCheck, EdCheck2, DeltaPD, DeltaTidy, DeltaTB, DeltaTL, TidyU, EditTrk, EditSel. -/
import Derived.Test.YtjeknifdbllieaaGreatDoorM6
set_option linter.unusedVariables false
set_option linter.unusedSimpArgs false
section
set_option maxRecDepth 100000
set_option maxHeartbeats 4000000
open Go Go.Proofs Go.Ab
namespace Go.Ch
theorem x4P:FC Tryz.prog 263 [.t (.sc (.int .u64 0))] (app emp []) (VI 0) (app emp []):=by
 refine .go Tryz.f263 ?_
 have e1:((0+(((((({data:=#[0,1,2,2,3,3,3,3,4,4,4,4,4,4,4,4,5,5,5,5,5,5,5,5,5,5,5,5,5,5,5,5,6,6,6,6,6,6,6,6,6,6,6,6,6,6,6,6,6,6,6,6,6,6,6,6,6,6,6,6,6,6,6,6,7,7,7,7,7,7,7,7,7,7,7,7,7,7,7,7,7,7,7,7,7,7,7,7,7,7,7,7,7,7,7,7,7,7,7,7,7,7,7,7,7,7,7,7,7,7,7,7,7,7,7,7,7,7,7,7,7,7,7,7,7,7,7,7,8,8,8,8,8,8,8,8,8,8,8,8,8,8,8,8,8,8,8,8,8,8,8,8,8,8,8,8,8,8,8,8,8,8,8,8,8,8,8,8,8,8,8,8,8,8,8,8,8,8,8,8,8,8,8,8,8,8,8,8,8,8,8,8,8,8,8,8,8,8,8,8,8,8,8,8,8,8,8,8,8,8,8,8,8,8,8,8,8,8,8,8,8,8,8,8,8,8,8,8,8,8,8,8,8,8,8,8,8,8,8,8,8,8,8,8,8,8,8,8,8,8,8,8,8,8,8,8]}):ByteArray)[(Int.toNat (IntKind.u8.wrap 0))]?).getD 0).toNat:Nat):Int)):Int)=0:=by
  decide+kernel
 exact .finE [.r [],.r [],.f,.r [],.f,.r [],.f,.r [(3,X (Xb (({data:=#[0,1,2,2,3,3,3,3,4,4,4,4,4,4,4,4,5,5,5,5,5,5,5,5,5,5,5,5,5,5,5,5,6,6,6,6,6,6,6,6,6,6,6,6,6,6,6,6,6,6,6,6,6,6,6,6,6,6,6,6,6,6,6,6,7,7,7,7,7,7,7,7,7,7,7,7,7,7,7,7,7,7,7,7,7,7,7,7,7,7,7,7,7,7,7,7,7,7,7,7,7,7,7,7,7,7,7,7,7,7,7,7,7,7,7,7,7,7,7,7,7,7,7,7,7,7,7,7,8,8,8,8,8,8,8,8,8,8,8,8,8,8,8,8,8,8,8,8,8,8,8,8,8,8,8,8,8,8,8,8,8,8,8,8,8,8,8,8,8,8,8,8,8,8,8,8,8,8,8,8,8,8,8,8,8,8,8,8,8,8,8,8,8,8,8,8,8,8,8,8,8,8,8,8,8,8,8,8,8,8,8,8,8,8,8,8,8,8,8,8,8,8,8,8,8,8,8,8,8,8,8,8,8,8,8,8,8,8,8,8,8,8,8,8,8,8,8,8,8,8,8,8,8,8,8,8]}):ByteArray) (IntKind.u8.wrap 0)) ⟨(by decide),(by decide+kernel)⟩),(4,X (Xn (((((({data:=#[0,1,2,2,3,3,3,3,4,4,4,4,4,4,4,4,5,5,5,5,5,5,5,5,5,5,5,5,5,5,5,5,6,6,6,6,6,6,6,6,6,6,6,6,6,6,6,6,6,6,6,6,6,6,6,6,6,6,6,6,6,6,6,6,7,7,7,7,7,7,7,7,7,7,7,7,7,7,7,7,7,7,7,7,7,7,7,7,7,7,7,7,7,7,7,7,7,7,7,7,7,7,7,7,7,7,7,7,7,7,7,7,7,7,7,7,7,7,7,7,7,7,7,7,7,7,7,7,8,8,8,8,8,8,8,8,8,8,8,8,8,8,8,8,8,8,8,8,8,8,8,8,8,8,8,8,8,8,8,8,8,8,8,8,8,8,8,8,8,8,8,8,8,8,8,8,8,8,8,8,8,8,8,8,8,8,8,8,8,8,8,8,8,8,8,8,8,8,8,8,8,8,8,8,8,8,8,8,8,8,8,8,8,8,8,8,8,8,8,8,8,8,8,8,8,8,8,8,8,8,8,8,8,8,8,8,8,8,8,8,8,8,8,8,8,8,8,8,8,8,8,8,8,8,8,8]}):ByteArray)[(Int.toNat (IntKind.u8.wrap 0))]?).getD 0).toNat:Nat):Int)) (by decide+kernel)),(5,X (Xn (0+(((((({data:=#[0,1,2,2,3,3,3,3,4,4,4,4,4,4,4,4,5,5,5,5,5,5,5,5,5,5,5,5,5,5,5,5,6,6,6,6,6,6,6,6,6,6,6,6,6,6,6,6,6,6,6,6,6,6,6,6,6,6,6,6,6,6,6,6,7,7,7,7,7,7,7,7,7,7,7,7,7,7,7,7,7,7,7,7,7,7,7,7,7,7,7,7,7,7,7,7,7,7,7,7,7,7,7,7,7,7,7,7,7,7,7,7,7,7,7,7,7,7,7,7,7,7,7,7,7,7,7,7,8,8,8,8,8,8,8,8,8,8,8,8,8,8,8,8,8,8,8,8,8,8,8,8,8,8,8,8,8,8,8,8,8,8,8,8,8,8,8,8,8,8,8,8,8,8,8,8,8,8,8,8,8,8,8,8,8,8,8,8,8,8,8,8,8,8,8,8,8,8,8,8,8,8,8,8,8,8,8,8,8,8,8,8,8,8,8,8,8,8,8,8,8,8,8,8,8,8,8,8,8,8,8,8,8,8,8,8,8,8,8,8,8,8,8,8,8,8,8,8,8,8,8,8,8,8,8,8]}):ByteArray)[(Int.toNat (IntKind.u8.wrap 0))]?).getD 0).toNat:Nat):Int))) (by decide+kernel))]] [] (fun z0:Int=>(VI z0,[])) _ _ e1.symm
theorem x8c:FC Tryz.prog 223 [.t (.sc (.int .u64 0))] (app emp []) (VI 0) (app emp []):=by
 refine .go Tryz.f223 ?_
 exact .fin [.r [],.f,.r [(1,X (Xc0 x4P X0))]] []
theorem x2l:FC Tryz.prog 254 [VL 4 z0t ([]:List Rect),VI 0,VI 0,.fn 179 []] (app emp []) (.tup []) (app emp []):=by
 refine .go Tryz.f254 ?_
 refine .len 0 (fun hl0=> ?_)
 refine .loop (α:=Int) [.r []] 24 (fun v8=>([(0,VL 4 z0t ([]:List Rect)),(1,VI 0),(2,VI 0),(3,.fn 179 []),(8,VI v8)],[])) (fun v8=>0<=v8) (fun v8=>0) (1:Int) ?_ ?_
 ·
  decide
 rintro v8 I1 ih1
 try dsimp only at I1
 refine .bp [.r []] (decide (v8<0)) (fun h1=> ?_) (fun h1=> ?_)
 ·
  exfalso
  omega
 ·
  exact .fin [] []
theorem x2m:FC Tryz.prog 222 [VL 4 z0t ([]:List Rect),VI 0,VI 0,VI 0,.fn 179 []] (app emp []) (.tup []) (app emp []):=by
 refine .go Tryz.f222 ?_
 refine .len 0 (fun hl0=> ?_)
 exact .fin [.r [],.r [],.u,.r [],.r [],.t,.r [(4,X (Xc0 x2l X0))]] []
theorem y9z:FC Tryz.prog 178 [VL 4 z0t ([]:List Rect),.fn 179 []] (app emp []) (.tup []) (app emp []):=by
 refine .go Tryz.f178 ?_
 refine .len 0 (fun hl0=> ?_)
 exact .fin [.r [(1,X (Xl z0t ([]:List Rect)))],.le (.eq 4 (VI (([]:List Rect).length:Int)) (VI 0) (.of_eq rfl)),.r [(3,X (Xcv IntKind.u64 0) (by decide)),(4,X (Xc0 x8c X0)),(6,X (Xc0 x2m X0))]] []
theorem x4Q(x:Grid)(e:GEd)(hi:RawT x e):FC Tryz.prog 110 [.t (y1b x),.t (x2d e)] (app emp []) (.t (y1b (y9y x e))) (app emp []):=by
 refine .go Tryz.f110 ?_
 obtain⟨vr,vk,l1,l2,a1,a2,p1,p2,hq,hm⟩:=hi
 have hml:=y1c x.cells e.rows e.cols
 refine .loop (α:=Nat) [.r [],.r [(4,X (Xc0 (z6S x.rows e.rows (by assumption)) X0))],.r [(4,X (Xc0 (z6S x.cols e.cols (by assumption)) X0))],.r [(8,X (Xc1 248 (x2k x.cells e.rows e.cols (by omega) (by assumption) (by assumption) (by assumption)) X0)),(11,X (Xc1 272 (x4N (y3O x.cells e.rows e.cols) e.cells (by omega) (by omega) (by assumption)) X0)),(12,X (Xf [(3,4)]))],.r [(2,X (Xl z0t x.merges))]] 336 (fun i=>([(3,.ptr 8 0),(4,.ptr 16 0),(9,.ptr 288 0),(46,VL 4 z0t x.merges),(47,VI (x.merges.length:Int)),(48,VI (i:Int))],[(8,.box [VL 2 z0P e.rows,VL 2 z0P e.cols,VL 5 z0k e.cells,VL 4 z0t e.split,VL 4 z0t e.merge]),(16,.box [VI 0,VI 0,VN,VN]),(288,.box [VI (if 0< (e.rows).length then z2M e.rows else x.rows),VI (if 0< (e.cols).length then z2M e.cols else x.cols),VL 5 z0k (z6P e.cells (y3O x.cells e.rows e.cols)),VL 4 z0t []])])) (fun i=>i=0) (fun i=>0) (0:Nat) ?_ ?_
 ·
  rfl
 rintro i I5 ih5
 try dsimp only at I5
 refine .bp [.r []] (decide ((i:Int)< (x.merges.length:Int))) (fun h5=> ?_) (fun h5=> ?_)
 ·
  exfalso
  omega
 ·
  refine .loop (α:=Nat) [.r [(2,X (Xl z0t e.merge))]] 376 (fun j=>([(4,.ptr 16 0),(9,.ptr 288 0),(77,VL 4 z0t e.merge),(78,VI (e.merge.length:Int)),(79,VI (j:Int))],[(16,.box [VI 0,VI 0,VN,VN]),(288,.box [VI (if 0< (e.rows).length then z2M e.rows else x.rows),VI (if 0< (e.cols).length then z2M e.cols else x.cols),VL 5 z0k (z6P e.cells (y3O x.cells e.rows e.cols)),VL 4 z0t []])])) (fun j=>j=0) (fun j=>0) (0:Nat) ?_ ?_
  ·
   rfl
  rintro j I12 ih12
  try dsimp only at I12
  refine .bp [.r []] (decide ((j:Int)< (e.merge.length:Int))) (fun h12=> ?_) (fun h12=> ?_)
  ·
   exfalso
   omega
  ·
   have e1:((y9y x e):Grid)=({rows:=(if 0< (e.rows).length then z2M e.rows else x.rows),cols:=(if 0< (e.cols).length then z2M e.cols else x.cols),cells:=(z6P e.cells (y3O x.cells e.rows e.cols)),merges:=[]}:Grid):=by
    rfl
   exact .finVE [.r [(2,X (Xc0 y9z X0))],.r []] [] [] (fun z0:Grid=>(.t (y1b z0),[])) _ _ e1
end Go.Ch
end
section

end
section
namespace Go.Ch
open Go Go.Ab
structure Node where
 id:Int
 kind:Int
 attrs:List Attr
 flow:List Elem
 grid:Grid
 draw:List DOp
instance:Inhabited Node:=⟨⟨0,0,[],[],default,[]⟩⟩
def z0i(n:Node):Tree:= .agg [TI n.id,TI n.kind,.lst 2 (n.attrs.map z0a),.lst 3 (n.flow.map z0c),TI n.grid.rows,TI n.grid.cols,.lst 5 (n.grid.cells.map z0k),.lst 4 (n.grid.merges.map z0t),.lst 8 (n.draw.map z0R)]
structure Doc where
 nodes:List Node
instance:Inhabited Doc:=⟨⟨[]⟩⟩
def z20(d:Doc):Tree:= .agg [.lst 9 (d.nodes.map z0i)]
def z1o(k:Int):Bool:=((k==1||k==3)||k==4)||k==12
def z3V(k:Int):Bool:=k==0||k==7
def z3W(k:Int):Bool:=k==2||k==6
def y0c(k:Int):Bool:=(k==8||k==9)||k==10
def z3x(g:Grid):Bool:=((g.rows==0&&g.cols==0)&&(g.cells.length:Int)==0)&&(g.merges.length:Int)==0
def z06(p k:Int):Bool:=
 if k=1\/k=6\/k=7\/k=11\/k=12 then p==0
 else if k=10 then(p==0||p==1)||p==3
 else if k=2 then p==1
 else if k=4 then p==1||p==3
 else if k=5 then z1o p
 else if k=3 then p==2
 else if k=8\/k=9 then p==7
 else false
def z4c(t:Bool)(f:List Elem)(i:Nat):Int:=
 if i<f.length then
  (if z05 (f.getD i default)≠0 then z05 (f.getD i default) else if t=false/\(f.getD i default).ref=0 then 8 else z4c t f (i+1))
 else 0
termination_by f.length-i
def z6T(t:Bool)(f:List Elem):Int:=
 if z4c t f 0≠0 then z4c t f 0 else if t=true/\(f.length=0\/(f.getD (f.length- 1) default).char≠10) then 11 else 0
theorem y2X{t:Bool}{f:List Elem}{i:Nat}(h:i<f.length)(he:z05 (f.getD i default)≠0):z4c t f i=z05 (f.getD i default):=by rw[z4c,if_pos h,if_pos he]
theorem y0d{t:Bool}{f:List Elem}{i:Nat}(h:i<f.length)(he:z05 (f.getD i default)=0)(hk:t=false/\(f.getD i default).ref=0):z4c t f i=8:=by rw[z4c,if_pos h,if_neg (fun q=>q he),if_pos hk]
theorem y0e{t:Bool}{f:List Elem}{i:Nat}(h:i<f.length)(he:z05 (f.getD i default)=0)(hk:t=true\/(f.getD i default).ref≠0):z4c t f i=z4c t f (i+1):=by
 rw[z4c,if_pos h,if_neg (fun q=>q he),if_neg]
 rintro⟨a,b⟩;rcases hk with q|q
 ·rw[a] at q;cases q
 ·exact q b
theorem y2Y{t:Bool}{f:List Elem}{i:Nat}(h:¬i<f.length):z4c t f i=0:=by rw[z4c,if_neg h]
theorem z86{t:Bool}{f:List Elem}{e:Int}(h:z4c t f 0=e)(he:e≠0):z6T t f=e:=by unfold z6T;rw[h,if_pos he]
theorem z87{t:Bool}{f:List Elem}(h:z4c t f 0=0):z6T t f=if t=true/\(f.length=0\/(f.getD (f.length- 1) default).char≠10) then 11 else 0:=by unfold z6T;rw[h,if_neg (fun q=>q rfl)]
def z2V(k:Int)(l:List Cell)(i:Nat):Int:=
 if i<l.length then
  (if(k=2/\(seq (l.getD i default).text {data:=#[]}=false\/0< (l.getD i default).attrs.length))\/(k=6/\(l.getD i default).ref≠0) then 4 else z2V k l (i+1))
 else 0
termination_by l.length-i
def z0X(n:Node):Int:=
 if n.id<1\/1073741824<n.id then 2
 else if n.kind<0\/12<n.kind\/(n.id=1/\n.kind≠0)\/(n.id≠1/\n.kind=0) then 8
 else if z1B false n.attrs 0≠0 then z1B false n.attrs 0
 else if(0<n.flow.length/\z1o n.kind=false/\z3V n.kind=false)\/(z3x n.grid=false/\z3W n.kind=false)\/(0<n.draw.length/\y0c n.kind=false) then 4
 else if z1o n.kind=true\/z3V n.kind=true then z6T (z1o n.kind) n.flow
 else if z3W n.kind=true then(if z18 n.grid≠0 then z18 n.grid else z2V n.kind n.grid.cells 0)
 else z2E n.draw 0
def z2h(l:List Node)(k:Int)(i:Nat):Int:=if i<l.length then(if(l.getD i default).id=k then(i:Int) else z2h l k (i+1)) else-1
termination_by l.length-i
def z2N(f:List Elem):List Int:=f.filterMap fun x=>if x.ref≠0 then some x.ref else none
def y2Z(l:List Cell):List Int:=l.filterMap fun x=>if x.ref≠0 then some x.ref else none
def z2x(n:Node):List Int:=z2N n.flow++y2Z n.grid.cells
def z1c(l:List Node)(k:Int)(rs:List Int)(i:Nat):Int:=
 if i<rs.length then
  (if z2h l (rs.getD i default) 0<0 then 7
   else if z06 k (l.getD (z2h l (rs.getD i default) 0).toNat default).kind=false then 8
   else z1c l k rs (i+1))
 else 0
termination_by rs.length-i
def z1P(l:List Node)(i:Nat):Int:=
 if i<l.length then
  (if z0X (l.getD i default)≠0 then z0X (l.getD i default)
   else if(i=0/\(l.getD 0 default).id≠1)\/(0<i/\(l.getD i default).id<=(l.getD (i- 1) default).id) then 5
   else z1P l (i+1))
 else 0
termination_by l.length-i
def z1t(l:List Node)(i:Nat):Int:=
 if i<l.length then
  (if z1c l (l.getD i default).kind (z2x (l.getD i default)) 0≠0 then z1c l (l.getD i default).kind (z2x (l.getD i default)) 0 else z1t l (i+1))
 else 0
termination_by l.length-i
def z1N(d:Doc):Int:=
 if d.nodes.length=0 then 11
 else if z1P d.nodes 0≠0 then z1P d.nodes 0
 else z1t d.nodes 0
theorem y7z{l:List Node}{i:Nat}(h:i<l.length)(he:z0X (l.getD i default)≠0):z1P l i=z0X (l.getD i default):=by rw[z1P,if_pos h,if_pos he]
theorem y7A{l:List Node}{i:Nat}(h:i<l.length)(he:z0X (l.getD i default)=0)(ho:(i=0/\(l.getD 0 default).id≠1)\/(0<i/\(l.getD i default).id<=(l.getD (i- 1) default).id)):z1P l i=5:=by rw[z1P,if_pos h,if_neg (fun q=>q he),if_pos ho]
theorem y4x{l:List Node}{i:Nat}(h:i<l.length)(he:z0X (l.getD i default)=0)(ho:¬((i=0/\(l.getD 0 default).id≠1)\/(0<i/\(l.getD i default).id<=(l.getD (i- 1) default).id))):z1P l i=z1P l (i+1):=by rw[z1P,if_pos h,if_neg (fun q=>q he),if_neg ho]
theorem z7t{l:List Node}{i:Nat}(h:¬i<l.length):z1P l i=0:=by rw[z1P,if_neg h]
theorem x2n{l:List Node}{i:Nat}(h:i<l.length)(he:z1c l (l.getD i default).kind (z2x (l.getD i default)) 0≠0):z1t l i=z1c l (l.getD i default).kind (z2x (l.getD i default)) 0:=by rw[z1t,if_pos h,if_pos he]
theorem y9A{l:List Node}{i:Nat}(h:i<l.length)(he:z1c l (l.getD i default).kind (z2x (l.getD i default)) 0=0):z1t l i=z1t l (i+1):=by rw[z1t,if_pos h,if_neg (fun q=>q he)]
theorem x2o{l:List Node}{i:Nat}(h:¬i<l.length):z1t l i=0:=by rw[z1t,if_neg h]
theorem y0f{d:Doc}(h:d.nodes.length=0):z1N d=11:=by unfold z1N;rw[if_pos h]
theorem y20{d:Doc}(h:¬d.nodes.length=0){e:Int}(he:z1P d.nodes 0=e)(hn:e≠0):z1N d=e:=by unfold z1N;rw[if_neg h,he,if_pos hn]
theorem y21{d:Doc}(h:¬d.nodes.length=0){e:Int}(he:z1P d.nodes 0=0)(hr:z1t d.nodes 0=e):z1N d=e:=by unfold z1N;rw[if_neg h,he,if_neg (fun q=>q rfl),hr]
theorem y7B{l:List Node}{k:Int}{rs:List Int}{i:Nat}(h:i<rs.length)(he:z2h l (rs.getD i default) 0<0):z1c l k rs i=7:=by rw[z1c,if_pos h,if_pos he]
theorem y7C{l:List Node}{k:Int}{rs:List Int}{i:Nat}(h:i<rs.length)(he:0<=z2h l (rs.getD i default) 0)(hp:z06 k (l.getD (z2h l (rs.getD i default) 0).toNat default).kind=false):z1c l k rs i=8:=by rw[z1c,if_pos h,if_neg (by omega),if_pos hp]
theorem y7D{l:List Node}{k:Int}{rs:List Int}{i:Nat}(h:i<rs.length)(he:0<=z2h l (rs.getD i default) 0)(hp:z06 k (l.getD (z2h l (rs.getD i default) 0).toNat default).kind=true):z1c l k rs i=z1c l k rs (i+1):=by rw[z1c,if_pos h,if_neg (by omega),if_neg (by rw[hp];decide)]
theorem y9B{l:List Node}{k:Int}{rs:List Int}{i:Nat}(h:¬i<rs.length):z1c l k rs i=0:=by rw[z1c,if_neg h]
structure NodeB(n:Node):Prop where
 at1:Szd n.attrs
 at2:n.attrs.length<=1048576
 fl1:SzE n.flow
 fl2:n.flow.length<=1048576
 fl3:∀x∈n.flow,x.attrs.length<=1048576
 ce1:SzC n.grid.cells
 ce2:n.grid.cells.length<=1048576
 ce3:∀c∈n.grid.cells,c.attrs.length<=1048576
 me:n.grid.merges.length<=1048576
 dr1:n.draw.length<=1048576
 dr2:∀o∈n.draw,o.plc.size<=1048576/\o.nm.size<=1048576/\o.vl.size<=1048576
def x8d(n:Node):Nat:=n.flow.length+n.grid.cells.length+n.draw.length
def y7E(l:List Node):Nat:=(l.map x8d).sum
structure DocB(d:Doc):Prop where
 len:d.nodes.length<=1048576
 all:∀n∈d.nodes,NodeB n
 sum:y7E d.nodes<=1048576
theorem z4d{l:List Node}{i:Nat}(h:i<l.length):l.getD i default∈l:=z0j h
theorem z6U{α β:Type}[Inhabited α]{l:List α}{i:Nat}(g:α->Option β)(h:i<l.length):(l.take (i+1)).filterMap g=(l.take i).filterMap g++(g (l.getD i default)).toList:=by
 have e:l.getD i default=l[i]:=by rw[qe,qb h];rfl
 rw[qz h,List.filterMap_append,e]
 congr 1
end Go.Ch
end
section
set_option maxRecDepth 100000
set_option maxHeartbeats 4000000
open Go Go.Proofs Go.Ab
namespace Go.Ch
theorem z8l(k:Int):FC Tryz.prog 93 [VI k] (app emp []) (VB (z1o k)) (app emp []):=by
 refine .go Tryz.f93 ?_
 have e1:((z1o k):Bool)=((((k==1)|| (k==3))|| (k==4))|| (k==12)):=by
  rfl
 exact .finE [.r [],.r [(4,Xv 1 (!(k==1)) X0),(5,X (Xk' (k==1))),(8,Xv 1 (!((k==1)|| (k==3))) X0),(9,X (Xk' ((k==1)|| (k==3)))),(12,Xv 1 (!(((k==1)|| (k==3))|| (k==4))) X0),(13,X (Xk' (((k==1)|| (k==3))|| (k==4))))]] [] (fun z0:Bool=>(VB z0,[])) _ _ e1
theorem y5U(k:Int):FC Tryz.prog 94 [VI k] (app emp []) (VB (z3V k)) (app emp []):=by
 refine .go Tryz.f94 ?_
 have e1:((z3V k):Bool)=((k==0)|| (k==7)):=by
  rfl
 exact .finE [.r [],.r [(4,Xv 1 (!(k==0)) X0),(5,X (Xk' (k==0)))]] [] (fun z0:Bool=>(VB z0,[])) _ _ e1
theorem y1l(k:Int):FC Tryz.prog 95 [VI k] (app emp []) (VB (z3W k)) (app emp []):=by
 refine .go Tryz.f95 ?_
 have e1:((z3W k):Bool)=((k==2)|| (k==6)):=by
  rfl
 exact .finE [.r [],.r [(4,Xv 1 (!(k==2)) X0),(5,X (Xk' (k==2)))]] [] (fun z0:Bool=>(VB z0,[])) _ _ e1
theorem y5V(k:Int):FC Tryz.prog 53 [VI k] (app emp []) (VB (y0c k)) (app emp []):=by
 refine .go Tryz.f53 ?_
 have e1:((y0c k):Bool)=(((k==8)|| (k==9))|| (k==10)):=by
  rfl
 exact .finE [.r [],.r [(4,Xv 1 (!(k==8)) X0),(5,X (Xk' (k==8))),(8,Xv 1 (!((k==8)|| (k==9))) X0),(9,X (Xk' ((k==8)|| (k==9))))]] [] (fun z0:Bool=>(VB z0,[])) _ _ e1
theorem y1m(f:List Elem)(t:Bool):FC Tryz.prog 97 [VL 3 z0c f,VB t] (app emp []) (VI (z6T t f)) (app emp []):=by
 refine .go Tryz.f97 ?_
 refine .len 0 (fun hl0=> ?_)
 refine .loop (α:=Nat) [.r [],.r [(1,X (Xl z0c f))]] 32 (fun i=>([(0,VL 3 z0c f),(1,VB t),(8,VL 3 z0c f),(9,VI (f.length:Int)),(10,VI (i:Int))],[])) (fun i=>i<=f.length/\z4c t f 0=z4c t f i) (fun i=>f.length-i) (0:Nat) ?_ ?_
 ·
  exact⟨by omega,rfl⟩
 rintro i I2 ih2
 try dsimp only at I2
 refine .bp [.r []] (decide ((i:Int)< (f.length:Int))) (fun h2=> ?_) (fun h2=> ?_)
 ·
  refine .bp [.r [(0,X (Xi z0c f (i:Int)))],.r [(1,X (Xc0 (y9q ((f.getD i default))) X0))],.r []] ((z05 ((f.getD i default))) !=0) (fun h5=> ?_) (fun h5=> ?_)
  ·
   have e1:((z6T t f):Int)=(z05 ((f.getD i default))):=by
    exact z86 (I2.2.trans (y2X (by omega) (by omega))) (by omega)
   exact .finE [.r []] [] (fun z0:Int=>(VI z0,[])) _ _ e1
  ·
   refine .bp [.r [(4,Xv 1 (!t) X0),(5,Xv 1 (!t) X0),(6,X (Xk (!t)))]] (!t&&((((f.getD i default)).ref)==0)) (fun h7=> ?_) (fun h7=> ?_)
   ·
    have e2:((z6T t f):Int)=8:=by
     exact z86 (I2.2.trans (y0d (by omega) (by omega) h7)) (by decide)
    exact .finE [.r []] [] (fun z0:Int=>(VI z0,[])) _ _ e2
   ·
    refine .back [.r [(0,X (Xn ((i:Int)+1)))]] [] (ih2 ((i+1):Nat) ?_ ?_)
    ·
     exact⟨by omega,I2.2.trans (y0e (by omega) (by omega) h7)⟩
    ·
     ((try dsimp only);omega)
 ·
  refine .bp [.r [(3,Xv 1 t (Xl z0c f)),(4,Xv 1 t X0),(5,Xv 1 t X0),(8,Xv 1 (t&& !((f.length:Int)==0)) (Xl z0c f)),(9,Xv 1 (t&& !((f.length:Int)==0)) (Xn ((f.length:Int)- 1))),(10,Xv 2 (t&& !((f.length:Int)==0)) (Xi' z0c f ((f.length:Int)- 1) (f.length- 1)) (fun hg=>by(try simp only[ze,zw,qm,Bool.and_eq_false_iff,beq_iff_eq,beq_eq_false_iff_ne,ne_eq] at hg);exact⟨(by omega),(by omega)⟩)),(11,Xv 1 (t&& !((f.length:Int)==0)) X0),(12,Xv 1 (t&& !((f.length:Int)==0)) X0),(13,Xv 1 (t&& !((f.length:Int)==0)) X0),(14,Xko t ((f.length:Int)==0)),(15,X (Xk t))]] (t&&(((f.length:Int)==0)|| ((((f.getD (f.length- 1) default)).char) !=10))) (fun h10=> ?_) (fun h10=> ?_)
  ·
   have e3:((z6T t f):Int)=11:=by
    rw[z87 (I2.2.trans (y2Y (by omega))),if_pos (by refine⟨h10.1,?_⟩;rcases h10.2 with h|h;(left;omega);(right;exact h))]
   exact .finE [.r []] [] (fun z0:Int=>(VI z0,[])) _ _ e3
  ·
   have e4:((z6T t f):Int)=0:=by
    rw[z87 (I2.2.trans (y2Y (by omega))),if_neg (by rintro⟨q1,q2⟩;rcases h10 with h|h;(rw[q1] at h;cases h);(rcases q2 with q|q;(omega);(exact q h.2)))]
   exact .finE [.r []] [] (fun z0:Int=>(VI z0,[])) _ _ e4
end Go.Ch
end
section
namespace Go.Ch
open Go Go.Ab
def z1i(l:List Node):Prop:=∀p q,p<q->q<l.length->(l.getD p default).id< (l.getD q default).id
def z6V(n:Node)(k:Int):Int:=if n.id<k then-1 else if n.id>k then 1 else 0
def z0x(l:List Node)(k:Int):Nat:=(l.takeWhile (fun n=>decide (n.id<k))).length
theorem z2w:∀(l:List Node) (k:Int),z0x l k<=l.length/\(∀i,i<z0x l k->(l.getD i default).id<k)/\(z0x l k<l.length->¬(l.getD (z0x l k) default).id<k)
 | [],k=>⟨qS _,fun i hi=>absurd hi (by simp[z0x]),fun h=>absurd h (by simp[z0x])⟩
 |c::l,k=>by
  obtain⟨h1,h2,h3⟩:=z2w l k
  by_cases hc:c.id<k
  ·have e:z0x (c::l) k=z0x l k+1:=by unfold z0x;rw[List.takeWhile_cons,if_pos (decide_eq_true hc)];rfl
   rw[e]
   refine⟨by simp;omega,fun i hi=> ?_,fun h=> ?_⟩
   ·cases i with
    |zero=>exact hc
    |succ i=>exact h2 i (by omega)
   ·exact h3 (by simpa using h)
  ·have e:z0x (c::l) k=0:=by unfold z0x;rw[List.takeWhile_cons,if_neg (by simpa using hc)];rfl
   rw[e]
   exact⟨qS _,fun i hi=>absurd hi (by omega),fun _=>hc⟩
theorem y9C{l:List Node}{k:Int}{m:Nat}(hs:z1i l)(hm:m<l.length)(h:(l.getD m default).id<k):m<z0x l k:=by
 obtain⟨h1,h2,h3⟩:=z2w l k
 apply qc;intro q
 have h4:=h3 (by omega)
 by_cases e:z0x l k=m
 ·rw[e] at h4;exact h4 h
 ·have h5:=hs (z0x l k) m (by omega) hm
  omega
theorem y4y{l:List Node}{k:Int}{m:Nat}(h:¬(l.getD m default).id<k):z0x l k<=m:=by
 obtain⟨h1,h2,h3⟩:=z2w l k
 apply qc;intro q
 exact h (h2 m (by omega))
def z14(l:List Node)(k:Int):Bool:=decide ((z0x l k:Int)< (l.length:Int))&&(z6V (l.getD (z0x l k) default) k==0)
theorem y5W{n:Node}{k:Int}:z6V n k<0↔n.id<k:=by unfold z6V;split<;>(try split)<;>omega
theorem x2p{n:Node}{k:Int}:z6V n k=0↔n.id=k:=by unfold z6V;split<;>(try split)<;>omega
theorem z1m{l:List Node}{k:Int}:z14 l k=true↔z0x l k<l.length/\(l.getD (z0x l k) default).id=k:=by
 unfold z14;rw[qm,decide_eq_true_eq,beq_iff_eq,x2p];omega
theorem z6W(l:List Node)(k:Int):∀(n i:Nat),l.length-i=n->(z2h l k i= -1/\∀j,i<=j->j<l.length->(l.getD j default).id≠k)\/∃j:Nat,z2h l k i=j/\i<=j/\j<l.length/\(l.getD j default).id=k
 |0,i,h=>by rw[z2h,if_neg (by omega)];exact .inl ⟨rfl,fun j h1 h2=>by omega⟩
 |n+1,i,h=>by
  have hi:i<l.length:=by omega
  rw[z2h,if_pos hi]
  by_cases e:(l.getD i default).id=k
  ·rw[if_pos e];exact .inr ⟨i,rfl,qn _,hi,e⟩
  ·rw[if_neg e]
   rcases z6W l k n (i+1) (by omega) with⟨a,b⟩| ⟨j,a,b,c,d⟩
   ·refine .inl ⟨a,fun j h1 h2=> ?_⟩
    by_cases q:j=i
    ·subst q;exact e
    ·exact b j (by omega) h2
   ·exact .inr ⟨j,a,by omega,c,d⟩
theorem x2q{l:List Node}{k:Int}(hs:z1i l)(h:z14 l k=true):z2h l k 0=(z0x l k:Int):=by
 obtain⟨h1,h2⟩:=z1m.1 h
 rcases z6W l k _ 0 rfl with⟨a,b⟩| ⟨j,a,b,c,d⟩
 ·exact absurd h2 (b _ (qS _) h1)
 ·rw[a]
  rcases Nat.lt_trichotomy j (z0x l k) with q|q|q
  ·have:=hs j _ q h1;omega
  ·rw[q]
  ·have:=hs _ j q c;omega
theorem x4R{l:List Node}{k:Int}(hs:z1i l)(h:z14 l k=false):z2h l k 0<0:=by
 rcases z6W l k _ 0 rfl with⟨a,b⟩| ⟨j,a,b,c,d⟩
 ·rw[a];decide
 ·exfalso
  have h1:=y4y (l:=l) (k:=k) (m:=j) (by omega)
  obtain⟨s1,s2,s3⟩:=z2w l k
  have h2:z0x l k=j:=by
   apply qc;intro q
   have:=hs (z0x l k) j (by omega) c
   exact s3 (by omega) (by omega)
  have:z14 l k=true:=z1m.2 ⟨by omega,by rw[h2];exact d⟩
  rw[h] at this;cases this
theorem z4e{l:List Node}:∀(n i:Nat),l.length-i=n->z1P l i=0->(∀j,i<=j->j<l.length->z0X (l.getD j default)=0)/\(∀j,i<=j->j<l.length->(j=0->(l.getD 0 default).id=1)/\(0<j->(l.getD (j- 1) default).id< (l.getD j default).id))
 |0,i,h,_=>⟨fun j h1 h2=>by omega,fun j h1 h2=>by omega⟩
 |n+1,i,h,he=>by
  have hi:i<l.length:=by omega
  rw[z1P,if_pos hi] at he
  by_cases h1:z0X (l.getD i default)≠0
  ·rw[if_pos h1] at he;exact absurd he h1
  ·rw[if_neg h1] at he
   split at he
   ·cases he
   ·rename_i h2
    obtain⟨a,b⟩:=z4e n (i+1) (by omega) he
    refine⟨fun j q1 q2=> ?_,fun j q1 q2=> ?_⟩
    ·by_cases q:j=i
     ·subst q;exact qc h1
     ·exact a j (by omega) q2
    ·by_cases q:j=i
     ·subst q
      exact⟨fun q3=>by omega,fun q3=>by omega⟩
     ·exact b j (by omega) q2
theorem y4z{l:List Node}(h:z1P l 0=0):z1i l:=by
 have h2:=(z4e _ 0 rfl h).2
 have key:∀d p,p+d+1<l.length->(l.getD p default).id< (l.getD (p+d+1) default).id:=by
  intro d
  induction d with
  |zero=>intro p hp;have:=(h2 (p+1) (qS _) hp).2 (by omega);rwa [show p+1- 1=p by omega] at this
  |succ d ih=>
   intro p hp
   have h3:=ih p (by omega)
   have h4:=(h2 (p+(d+1)+1) (qS _) hp).2 (by omega)
   rw[show p+(d+1)+1- 1=p+d+1 by omega] at h4
   omega
 intro p q hpq hq
 have:=key (q-p- 1) p (by omega)
 rwa [show p+(q-p- 1)+1=q by omega] at this
end Go.Ch
end
section
set_option maxRecDepth 100000
set_option maxHeartbeats 4000000
open Go Go.Proofs Go.Ab
namespace Go.Ch



theorem y5X(n:Node)(k:Int):FC Tryz.prog 166 [.t (z0i n),VI k] (app emp []) (VI (z6V n k)) (app emp []):=by
 refine .go Tryz.f166 ?_
 refine .bp [.r [],.r []] (decide (n.id<k)) (fun h1=> ?_) (fun h1=> ?_)
 ·
  have e1:((z6V n k):Int)= -1:=by
   unfold z6V;((repeat' split)<;>first|rfl|omega| (simp_all;done)| (simp_all;omega))
  exact .finE [.r []] [] (fun z0:Int=>(VI z0,[])) _ _ e1
 ·
  refine .bp [.r []] (decide (n.id>k)) (fun h3=> ?_) (fun h3=> ?_)
  ·
   have e2:((z6V n k):Int)=1:=by
    unfold z6V;((repeat' split)<;>first|rfl|omega| (simp_all;done)| (simp_all;omega))
   exact .finE [.r []] [] (fun z0:Int=>(VI z0,[])) _ _ e2
  ·
   have e3:((z6V n k):Int)=0:=by
    unfold z6V;((repeat' split)<;>first|rfl|omega| (simp_all;done)| (simp_all;omega))
   exact .finE [.r []] [] (fun z0:Int=>(VI z0,[])) _ _ e3
theorem x6F(l:List Node)(k:Int)(hn:l.length<=1048576)(hs:z1i l):FC Tryz.prog 165 [VL 9 z0i l,VI k,.fn 166 []] (app emp []) (.tup [VI (z0x l k:Int),VB (z14 l k)]) (app emp []):=by
 refine .go Tryz.f165 ?_
 refine .len 0 (fun hl0=> ?_)
 obtain⟨s1,s2,s3⟩:=z2w l k
 refine .loop (α:=Nat×Nat) [.r [],.r [(1,X (Xl z0i l))],.r []] 64 (fun(i,j)=>([(0,VL 9 z0i l),(1,VI k),(2,.fn 166 []),(8,VI (l.length:Int)),(9,VI (i:Int)),(10,VI (j:Int))],[])) (fun(i,j)=>i<=z0x l k/\z0x l k<=j/\j<=l.length) (fun(i,j)=>j-i) (0,l.length) ?_ ?_
 ·
  exact⟨by omega,by omega,by omega⟩
 rintro⟨i,j⟩ I3 ih3
 try dsimp only at I3
 refine .bp [.r []] (decide ((i:Int)< (j:Int))) (fun h3=> ?_) (fun h3=> ?_)
 ·
  obtain⟨m,hm⟩:∃m:Nat,((i:Int)+(j:Int))/2=(m:Int):=⟨(i+j)/2,by omega⟩
  refine .bp [.r [(2,X (Xn ((i:Int)+(j:Int)))),(3,X (Xcv IntKind.u64 ((i:Int)+(j:Int))) (by simp[IntKind.wrap,IntKind.bits,IntKind.signed];omega)),(4,X (Xsh IntKind.u64 1 (((i:Int)+(j:Int)).fdiv (2^(min (1:Int).toNat IntKind.u64.bits))) (((i:Int)+(j:Int))/2)) ⟨by decide,(by rw[Int.fdiv_eq_ediv_of_nonneg _ (by decide)];rfl)⟩),(5,X (Xn (((i:Int)+(j:Int))/2)))],.le (.eq 11 (VI (((i:Int)+(j:Int))/2)) (VI (m:Int)) (.of_eq (by rw[<-hm]))),.r [(3,X (Xi z0i l (m:Int))),(6,X (Xc0 (y5X ((l.getD m default)) k) X0))]] (decide ((z6V ((l.getD m default)) k)< 0)) (fun h5=> ?_) (fun h5=> ?_)
  ·
   refine .back [.r [(1,X (Xn ((m:Int)+1)))]] [] (ih3 ((m+1),j) ?_ ?_)
   ·
    have:=y9C hs (m:=m) (by omega) (y5W.1 h5)
    exact⟨by omega,by omega,by omega⟩
   ·
    ((try dsimp only);omega)
  ·
   refine .back [.r []] [] (ih3 (i,m) ?_ ?_)
   ·
    have:=y4y (l:=l) (k:=k) (m:=m) (fun q=>by have:=y5W.2 q;omega)
    exact⟨by omega,by omega,by omega⟩
   ·
    ((try dsimp only);omega)
 ·
  have hi:i=z0x l k:=by omega
  have e1:((z0x l k:Int):Int)=(i:Int):=by
   first|omega| (unfold z14;rw[<-hi])
  have e2:((z14 l k):Bool)=(decide ((i:Int)< (l.length:Int))&&((z6V ((l.getD i default)) k)==0)):=by
   first|omega| (unfold z14;rw[<-hi])
  exact .finE [.r [(8,Xv 2 (decide ((i:Int)< (l.length:Int))) (Xi z0i l (i:Int))),(9,Xv 1 (decide ((i:Int)< (l.length:Int))) X0),(11,Xv 3 (decide ((i:Int)< (l.length:Int))) (Xc0 (y5X ((l.getD i default)) k) X0)),(12,Xv 1 (decide ((i:Int)< (l.length:Int))) X0),(13,X (Xk (decide ((i:Int)< (l.length:Int)))))]] [] (fun((z0,z1):Int×Bool)=>(.tup [VI z0,VB z1],[])) _ _ (pr e1 e2)
theorem y1n(d:Doc)(k:Int)(hn:d.nodes.length<=1048576)(hs:z1i d.nodes):FC Tryz.prog 100 [.t (z20 d),VI k] (app emp []) (.tup [VI (z0x d.nodes k:Int),VB (z14 d.nodes k)]) (app emp []):=by
 refine .go Tryz.f100 ?_
 exact .fin [.r [],.r [(3,X (Xc0 (x6F d.nodes k (by omega) (by assumption)) X0))]] []
theorem z88(f:List Elem)(hn:f.length<=1048576):FC Tryz.prog 102 [VL 3 z0c f] (app emp []) (.row 0 ((z2N f).length)) (app emp [(0,OR 1 z0B (z2N f))]):=by
 refine .go Tryz.f102 ?_
 refine .len 0 (fun hl0=> ?_)
 refine .loop (α:=Nat×(List Int)) [.r [],.r [],.r [(1,X (Xl z0c f))],.le (.nR 3 1)] 41 (fun(i,o)=>([(3,.row 40 o.length),(6,VL 3 z0c f),(7,VI (f.length:Int)),(8,VI (i:Int))],[(40,OR 1 z0B o)])) (fun(i,o)=>i<=f.length/\o=z2N (f.take i)) (fun(i,o)=>f.length-i) (0,[]) ?_ ?_
 ·
  exact⟨by omega,rfl⟩
 rintro⟨i,o⟩ I3 ih3
 try dsimp only at I3
 have ol:o.length<=i:=by rw[I3.2];unfold z2N;exact qP (zV _ _) (by rw[qB];omega)
 refine .bp [.r []] (decide ((i:Int)< (f.length:Int))) (fun h3=> ?_) (fun h3=> ?_)
 ·
  refine .bp [.r [(0,X (Xi z0c f (i:Int)))],.r []] ((((f.getD i default)).ref) !=0) (fun h5=> ?_) (fun h5=> ?_)
  ·
   refine .back [.r [(4,X (z0Y z0B [((f.getD i default)).ref] (Xap 1 z0B 40 o [((f.getD i default)).ref])))],.r [(0,X (Xn ((i:Int)+1)))]] [(40,40)] (ih3 ((i+1),(o++[((f.getD i default)).ref])) ?_ ?_)
   ·
    refine⟨by omega,?_⟩
    rw[I3.2];unfold z2N;rw[z6U _ (by omega)]
    first| (rw[if_pos (by omega)];rfl)| (rw[if_neg (by omega)];simp)
   ·
    ((try dsimp only);omega)
  ·
   refine .back [.r [(0,X (Xn ((i:Int)+1)))]] [(40,40)] (ih3 ((i+1),o) ?_ ?_)
   ·
    refine⟨by omega,?_⟩
    rw[I3.2];unfold z2N;rw[z6U _ (by omega)]
    first| (rw[if_pos (by omega)];rfl)| (rw[if_neg (by omega)];simp)
   ·
    ((try dsimp only);omega)
 ·
  have e1:((z2N f):List Int)=o:=by
   rw[I3.2,qp (by omega)]
  have e2:((z2N f).length:Nat)=o.length:=by
   rw[I3.2,qp (by omega)]
  exact .finE [.r []] [(40,0)] (fun((z0,z1):(List Int)×Nat)=>(.row 0 z1,[(0,OR 1 z0B z0)])) _ _ (pr e1 e2)
theorem y22(n:Node)(hb:NodeB n):FC Tryz.prog 46 [.t (z0i n)] (app emp []) (VL 1 z0B (z2x n)) (app emp []):=by
 refine .go Tryz.f46 ?_
 have b1:=hb.fl2
 have b2:=hb.ce2
 have b3:(z2N n.flow).length<=n.flow.length:=zV _ _
 refine .loop (α:=Nat×(List Int)) [.r [],.r [(2,X (Xc1 32 (z88 n.flow (by first|omega|simp)) X0))],.r [(3,X (Xl z0k n.grid.cells))]] 88 (fun(j,p)=>([(3,.row 32 p.length),(11,VL 5 z0k n.grid.cells),(12,VI (n.grid.cells.length:Int)),(13,VI (j:Int))],[(32,OR 1 z0B p)])) (fun(j,p)=>j<=n.grid.cells.length/\p=z2N n.flow++y2Z (n.grid.cells.take j)) (fun(j,p)=>n.grid.cells.length-j) (0,(z2N n.flow)) ?_ ?_
 ·
  exact⟨by omega,by simp[y2Z]⟩
 rintro⟨j,p⟩ I3 ih3
 try dsimp only at I3
 have ol2:p.length<=n.flow.length+j:=by rw[I3.2,qf];unfold y2Z;have q2:=zV (fun x:Cell=>if x.ref≠0 then some x.ref else none) (n.grid.cells.take j);rw[qB] at q2;omega
 refine .bp [.r []] (decide ((j:Int)< (n.grid.cells.length:Int))) (fun h3=> ?_) (fun h3=> ?_)
 ·
  refine .bp [.r [(0,X (Xi z0k n.grid.cells (j:Int)))],.r []] ((((n.grid.cells.getD j default)).ref) !=0) (fun h5=> ?_) (fun h5=> ?_)
  ·
   refine .back [.r [(4,X (z0Y z0B [((n.grid.cells.getD j default)).ref] (Xap 1 z0B 32 p [((n.grid.cells.getD j default)).ref])))],.r [(0,X (Xn ((j:Int)+1)))]] [(32,32)] (ih3 ((j+1),(p++[((n.grid.cells.getD j default)).ref])) ?_ ?_)
   ·
    refine⟨by omega,?_⟩
    rw[I3.2];unfold y2Z;rw[z6U _ (by omega),<-List.append_assoc]
    first| (rw[if_pos (by omega)];rfl)| (rw[if_neg (by omega)];simp)
   ·
    ((try dsimp only);omega)
  ·
   refine .back [.r [(0,X (Xn ((j:Int)+1)))]] [(32,32)] (ih3 ((j+1),p) ?_ ?_)
   ·
    refine⟨by omega,?_⟩
    rw[I3.2];unfold y2Z;rw[z6U _ (by omega),<-List.append_assoc]
    first| (rw[if_pos (by omega)];rfl)| (rw[if_neg (by omega)];simp)
   ·
    ((try dsimp only);omega)
 ·
  have e1:((z2x n):List Int)=p:=by
   rw[I3.2,qp (by omega)];rfl
  exact .finE [.r [],.le (.fr 2 [(p.length:Nat)=(List.map z0B p).length] ⟨lm,trivial⟩)] [] (fun z0:List Int=>(VL 1 z0B z0,[])) _ _ e1
theorem x4S(l:List Int)(x:Int):FC Tryz.prog 218 [VL 1 z0B l,VI x] (app emp []) (VI (z4P (fun y=>x==y) l 0)) (app emp []):=by
 refine .go Tryz.f218 ?_
 refine .len 0 (fun hl0=> ?_)
 refine .loop (α:=Nat) [.r [],.r [(1,X (Xl z0B l))]] 32 (fun i=>([(0,VL 1 z0B l),(1,VI x),(7,VI (l.length:Int)),(8,VI (i:Int))],[])) (fun i=>i<=l.length/\z4P (fun y=>x==y) l 0=z4P (fun y=>x==y) l i) (fun i=>l.length-i) (0:Nat) ?_ ?_
 ·
  exact⟨by omega,rfl⟩
 rintro i I2 ih2
 try dsimp only at I2
 refine .bp [.r []] (decide ((i:Int)< (l.length:Int))) (fun h2=> ?_) (fun h2=> ?_)
 ·
  refine .bp [.r [],.r [(3,X (Xi z0B l (i:Int)))]] (x==(l.getD i default)) (fun h4=> ?_) (fun h4=> ?_)
  ·
   have e1:((z4P (fun y=>x==y) l 0):Int)=(i:Int):=by
    rw[I2.2,z4P,if_pos (by omega),if_pos (by simpa using h4)]
   exact .finE [.r []] [] (fun z0:Int=>(VI z0,[])) _ _ e1
  ·
   refine .back [.r [(0,X (Xn ((i:Int)+1)))]] [] (ih2 ((i+1):Nat) ?_ ?_)
   ·
    exact⟨by omega,by rw[I2.2,z4P,if_pos (by omega),if_neg (by simpa using h4)]⟩
   ·
    ((try dsimp only);omega)
 ·
  have e2:((z4P (fun y=>x==y) l 0):Int)= -1:=by
   rw[I2.2,z4P,if_neg (by omega)]
  exact .finE [.r []] [] (fun z0:Int=>(VI z0,[])) _ _ e2
theorem z3q(l:List Int)(x:Int):FC Tryz.prog 167 [VL 1 z0B l,VI x] (app emp []) (VB (l.any (fun y=>x==y))) (app emp []):=by
 refine .go Tryz.f167 ?_
 refine .len 0 (fun hl0=> ?_)
 have e1:((l.any (fun y=>x==y)):Bool)=decide ((z4P (fun y=>x==y) l 0)>=0):=by
  rw[zl];simp only[decide_eq_true_eq,ge_iff_le];rw[y5L]
 exact .finE [.r [],.r [(2,X (Xc0 (x4S l x) X0))]] [] (fun z0:Bool=>(VB z0,[])) _ _ e1
theorem y5Y(p k:Int):FC Tryz.prog 101 [VI p,VI k] (app emp []) (VB (z06 p k)) (app emp []):=by
 refine .go Tryz.f101 ?_
 refine .bp [.r [],.r [],.r [],.r []] (p==0) (fun h3=> ?_) (fun h3=> ?_)
 ·
  have e1:((z06 p k):Bool)=(([1,6,7,10,11,12]).any (fun y=>k==y)):=by
   rw[zl];unfold z06 z1o;simp only[zH,zP,zI,qH,beq_iff_eq,qW,false_iff,iff_false];(repeat' split)<;>(try simp only[qH,beq_iff_eq,qW,false_iff])<;>first|omega| (simp;done)
  exact .finE [.r [],.r [(2,X (Xc0 (z3q [1,6,7,10,11,12] k) (z0Y z0B [1,6,7,10,11,12] X0)))]] [] (fun z0:Bool=>(VB z0,[])) _ _ e1
 ·
  refine .bp [.r []] (p==1) (fun h5=> ?_) (fun h5=> ?_)
  ·
   have e2:((z06 p k):Bool)=(([2,4,5,10]).any (fun y=>k==y)):=by
    rw[zl];unfold z06 z1o;simp only[zH,zP,zI,qH,beq_iff_eq,qW,false_iff,iff_false];(repeat' split)<;>(try simp only[qH,beq_iff_eq,qW,false_iff])<;>first|omega| (simp;done)
   exact .finE [.r [],.r [(2,X (Xc0 (z3q [2,4,5,10] k) (z0Y z0B [2,4,5,10] X0)))]] [] (fun z0:Bool=>(VB z0,[])) _ _ e2
  ·
   refine .bp [.r []] (p==3) (fun h7=> ?_) (fun h7=> ?_)
   ·
    have e3:((z06 p k):Bool)=(([4,5,10]).any (fun y=>k==y)):=by
     rw[zl];unfold z06 z1o;simp only[zH,zP,zI,qH,beq_iff_eq,qW,false_iff,iff_false];(repeat' split)<;>(try simp only[qH,beq_iff_eq,qW,false_iff])<;>first|omega| (simp;done)
    exact .finE [.r [],.r [(2,X (Xc0 (z3q [4,5,10] k) (z0Y z0B [4,5,10] X0)))]] [] (fun z0:Bool=>(VB z0,[])) _ _ e3
   ·
    refine .bp [.r []] (p==4) (fun h9=> ?_) (fun h9=> ?_)
    ·
     refine .bp [] (p==4) (fun h9=> ?_) (fun h9=> ?_)
     ·
      have e4:((z06 p k):Bool)=(([5]).any (fun y=>k==y)):=by
       rw[zl];unfold z06 z1o;simp only[zH,zP,zI,qH,beq_iff_eq,qW,false_iff,iff_false];(repeat' split)<;>(try simp only[qH,beq_iff_eq,qW,false_iff])<;>first|omega| (simp;done)
      exact .finE [.r [],.r [(2,X (Xc0 (z3q [5] k) (z0Y z0B [5] X0)))]] [] (fun z0:Bool=>(VB z0,[])) _ _ e4
     ·
      refine .bp [.r []] (p==2) (fun h12=> ?_) (fun h12=> ?_)
      ·
       have e5:((z06 p k):Bool)=(([3]).any (fun y=>k==y)):=by
        rw[zl];unfold z06 z1o;simp only[zH,zP,zI,qH,beq_iff_eq,qW,false_iff,iff_false];(repeat' split)<;>(try simp only[qH,beq_iff_eq,qW,false_iff])<;>first|omega| (simp;done)
       exact .finE [.r [],.r [(2,X (Xc0 (z3q [3] k) (z0Y z0B [3] X0)))]] [] (fun z0:Bool=>(VB z0,[])) _ _ e5
      ·
       refine .bp [.r []] (p==7) (fun h14=> ?_) (fun h14=> ?_)
       ·
        have e6:((z06 p k):Bool)=(([8,9]).any (fun y=>k==y)):=by
         rw[zl];unfold z06 z1o;simp only[zH,zP,zI,qH,beq_iff_eq,qW,false_iff,iff_false];(repeat' split)<;>(try simp only[qH,beq_iff_eq,qW,false_iff])<;>first|omega| (simp;done)
        exact .finE [.r [],.r [(2,X (Xc0 (z3q [8,9] k) (z0Y z0B [8,9] X0)))]] [] (fun z0:Bool=>(VB z0,[])) _ _ e6
       ·
        have e7:((z06 p k):Bool)=(([]).any (fun y=>k==y)):=by
         rw[zl];unfold z06 z1o;simp only[zH,zP,zI,qH,beq_iff_eq,qW,false_iff,iff_false];(repeat' split)<;>(try simp only[qH,beq_iff_eq,qW,false_iff])<;>first|omega| (simp;done)
        exact .finE [.r [(2,X (Xc0 (.nil 0 1 (z3q [] k)) X0))]] [] (fun z0:Bool=>(VB z0,[])) _ _ e7
    ·
     refine .bp [.r []] (p==12) (fun h10=> ?_) (fun h10=> ?_)
     ·
      have e8:((z06 p k):Bool)=(([5]).any (fun y=>k==y)):=by
       rw[zl];unfold z06 z1o;simp only[zH,zP,zI,qH,beq_iff_eq,qW,false_iff,iff_false];(repeat' split)<;>(try simp only[qH,beq_iff_eq,qW,false_iff])<;>first|omega| (simp;done)
      exact .finE [.r [],.r [(2,X (Xc0 (z3q [5] k) (z0Y z0B [5] X0)))]] [] (fun z0:Bool=>(VB z0,[])) _ _ e8
     ·
      refine .bp [.r []] (p==2) (fun h12=> ?_) (fun h12=> ?_)
      ·
       have e9:((z06 p k):Bool)=(([3]).any (fun y=>k==y)):=by
        rw[zl];unfold z06 z1o;simp only[zH,zP,zI,qH,beq_iff_eq,qW,false_iff,iff_false];(repeat' split)<;>(try simp only[qH,beq_iff_eq,qW,false_iff])<;>first|omega| (simp;done)
       exact .finE [.r [],.r [(2,X (Xc0 (z3q [3] k) (z0Y z0B [3] X0)))]] [] (fun z0:Bool=>(VB z0,[])) _ _ e9
      ·
       refine .bp [.r []] (p==7) (fun h14=> ?_) (fun h14=> ?_)
       ·
        have e10:((z06 p k):Bool)=(([8,9]).any (fun y=>k==y)):=by
         rw[zl];unfold z06 z1o;simp only[zH,zP,zI,qH,beq_iff_eq,qW,false_iff,iff_false];(repeat' split)<;>(try simp only[qH,beq_iff_eq,qW,false_iff])<;>first|omega| (simp;done)
        exact .finE [.r [],.r [(2,X (Xc0 (z3q [8,9] k) (z0Y z0B [8,9] X0)))]] [] (fun z0:Bool=>(VB z0,[])) _ _ e10
       ·
        have e11:((z06 p k):Bool)=(([]).any (fun y=>k==y)):=by
         rw[zl];unfold z06 z1o;simp only[zH,zP,zI,qH,beq_iff_eq,qW,false_iff,iff_false];(repeat' split)<;>(try simp only[qH,beq_iff_eq,qW,false_iff])<;>first|omega| (simp;done)
        exact .finE [.r [(2,X (Xc0 (.nil 0 1 (z3q [] k)) X0))]] [] (fun z0:Bool=>(VB z0,[])) _ _ e11
theorem z6X(d:Doc)(k:Int)(rs:List Int)(hl:d.nodes.length<=1048576)(hs:z1i d.nodes):FC Tryz.prog 45 [.t (z20 d),VI k,VL 1 z0B rs] (app emp []) (VI (z1c d.nodes k rs 0)) (app emp []):=by
 refine .go Tryz.f45 ?_
 refine .len 2 (fun hl2=> ?_)
 refine .loop (α:=Nat) [.r [],.r [(1,X (Xl z0B rs))]] 40 (fun i=>([(1,VI k),(3,.ptr 0 0),(11,VL 1 z0B rs),(12,VI (rs.length:Int)),(13,VI (i:Int))],[(0,.box [VL 9 z0i d.nodes])])) (fun i=>i<=rs.length/\z1c d.nodes k rs 0=z1c d.nodes k rs i) (fun i=>rs.length-i) (0:Nat) ?_ ?_
 ·
  exact⟨by omega,rfl⟩
 rintro i I2 ih2
 try dsimp only at I2
 refine .bp [.r []] (decide ((i:Int)< (rs.length:Int))) (fun h2=> ?_) (fun h2=> ?_)
 ·
  refine .bp [.r [(0,X (Xi z0B rs (i:Int)))],.r [(2,X (Xc0 (y1n d (rs.getD i default) (by assumption) (by assumption)) X0))],.r []] (!(z14 (d).nodes (rs.getD i default))) (fun h5=> ?_) (fun h5=> ?_)
  ·
   have e1:((z1c d.nodes k rs 0):Int)=7:=by
    exact I2.2.trans (y7B (by omega) (x4R hs h5))
   exact .finE [.r []] [] (fun z0:Int=>(VI z0,[])) _ _ e1
  ·
   obtain⟨q1,q2⟩:=z1m.1 h5
   have hf:=x2q hs h5
   refine .bp [.r [(4,X (Xi z0i d.nodes (z0x (d).nodes (rs.getD i default):Int))),(7,X (Xc0 (y5Y k (((d.nodes.getD (z0x (d).nodes (rs.getD i default)) default)).kind)) X0))]] (!(z06 k (((d.nodes.getD (z0x (d).nodes (rs.getD i default)) default)).kind))) (fun h7=> ?_) (fun h7=> ?_)
   ·
    have e2:((z1c d.nodes k rs 0):Int)=8:=by
     exact I2.2.trans (y7C (by omega) (by omega) (by rw[hf];exact h7))
    exact .finE [.r []] [] (fun z0:Int=>(VI z0,[])) _ _ e2
   ·
    refine .back [.r [(0,X (Xn ((i:Int)+1)))]] [(0,0)] (ih2 ((i+1):Nat) ?_ ?_)
    ·
     exact⟨by omega,I2.2.trans (y7D (by omega) (by omega) (by rw[hf];exact h7))⟩
    ·
     ((try dsimp only);omega)
 ·
  have e3:((z1c d.nodes k rs 0):Int)=0:=by
   exact I2.2.trans (y9B (by omega))
  exact .finE [.r []] [] (fun z0:Int=>(VI z0,[])) _ _ e3
theorem y23(k:Int)(l:List Cell):FC Tryz.prog 99 [VI k,VL 5 z0k l] (app emp []) (VI (z2V k l 0)) (app emp []):=by
 refine .go Tryz.f99 ?_
 refine .len 1 (fun hl1=> ?_)
 refine .loop (α:=Nat) [.r [],.r [(1,X (Xl z0k l))]] 32 (fun i=>([(0,VI k),(7,VL 5 z0k l),(8,VI (l.length:Int)),(9,VI (i:Int))],[])) (fun i=>i<=l.length/\z2V k l 0=z2V k l i) (fun i=>l.length-i) (0:Nat) ?_ ?_
 ·
  exact⟨by omega,rfl⟩
 rintro i I2 ih2
 try dsimp only at I2
 refine .bp [.r []] (decide ((i:Int)< (l.length:Int))) (fun h2=> ?_) (fun h2=> ?_)
 ·
  refine .bp [.r [(0,X (Xi z0k l (i:Int)))],.r [(4,Xv 1 (k==2) X0),(5,Xv 1 (k==2) X0),(6,Xv 1 (k==2) X0),(8,Xv 1 ((k==2)&& !(!(seq (((l.getD i default)).text) ({data:=#[]})))) X0),(9,Xv 1 ((k==2)&& !(!(seq (((l.getD i default)).text) ({data:=#[]})))) (Xl z0a (((l.getD i default)).attrs))),(10,Xv 1 ((k==2)&& !(!(seq (((l.getD i default)).text) ({data:=#[]})))) X0),(11,Xko (k==2) (!(seq (((l.getD i default)).text) ({data:=#[]})))),(12,X (Xk (k==2))),(15,Xv 1 (!((k==2)&&(!(seq (((l.getD i default)).text) ({data:=#[]}))||decide (((((l.getD i default)).attrs).length:Int)> 0)))) X0),(16,Xv 1 (!((k==2)&&(!(seq (((l.getD i default)).text) ({data:=#[]}))||decide (((((l.getD i default)).attrs).length:Int)> 0)))) X0),(18,Xv 1 ((!((k==2)&&(!(seq (((l.getD i default)).text) ({data:=#[]}))||decide (((((l.getD i default)).attrs).length:Int)> 0))))&&(k==6)) X0),(19,Xv 1 ((!((k==2)&&(!(seq (((l.getD i default)).text) ({data:=#[]}))||decide (((((l.getD i default)).attrs).length:Int)> 0))))&&(k==6)) X0),(20,Xka (!((k==2)&&(!(seq (((l.getD i default)).text) ({data:=#[]}))||decide (((((l.getD i default)).attrs).length:Int)> 0)))) (k==6)),(21,X (Xk' ((k==2)&&(!(seq (((l.getD i default)).text) ({data:=#[]}))||decide (((((l.getD i default)).attrs).length:Int)> 0)))))]] (((k==2)&&(!(seq (((l.getD i default)).text) ({data:=#[]}))||decide (((((l.getD i default)).attrs).length:Int)> 0)))|| ((k==6)&&((((l.getD i default)).ref) !=0))) (fun h4=> ?_) (fun h4=> ?_)
  ·
   have e1:((z2V k l 0):Int)=4:=by
    rw[I2.2,z2V,if_pos (by omega),if_pos]
    exact h4.imp (fun q=>⟨q.1,q.2.imp id (fun z=>by omega)⟩) id
   exact .finE [.r []] [] (fun z0:Int=>(VI z0,[])) _ _ e1
  ·
   refine .back [.r [(0,X (Xn ((i:Int)+1)))]] [] (ih2 ((i+1):Nat) ?_ ?_)
   ·
    refine⟨by omega,?_⟩
    rw[I2.2,z2V,if_pos (by omega),if_neg]
    rintro(⟨a,b|b⟩| ⟨a,b⟩)
    ·rcases h4.1 with q|q
     ·exact q a
     ·rw[q.1] at b;cases b
    ·rcases h4.1 with q|q
     ·exact q a
     ·omega
    ·rcases h4.2 with q|q
     ·exact q a
     ·exact b q
   ·
    ((try dsimp only);omega)
 ·
  have e2:((z2V k l 0):Int)=0:=by
   rw[I2.2,z2V,if_neg (by omega)]
  exact .finE [.r []] [] (fun z0:Int=>(VI z0,[])) _ _ e2
theorem x4T(l:List Rect):FC Tryz.prog 157 [VL 4 z0t l,VN] (app emp []) (VB ((l.length:Int)==0)) (app emp []):=by
 refine .go Tryz.f157 ?_
 refine .len 0 (fun hl0=> ?_)
 refine .bp [.r [],.r [(1,X (Xl z0t l))]] ((l.length:Int) !=0) (fun h1=> ?_) (fun h1=> ?_)
 ·
  have e1:(((l.length:Int)==0):Bool)=false:=by
   rw[beq_eq_false_iff_ne];exact h1
  exact .finE [.r []] [] (fun z0:Bool=>(VB z0,[])) _ _ e1
 ·
  refine .loop (α:=Nat) [.r [(1,X (Xl z0t l))]] 72 (fun i=>([(0,VL 4 z0t l),(1,VN),(12,VI (l.length:Int)),(13,VI (i:Int))],[])) (fun i=>i=0) (fun i=>0) (0:Nat) ?_ ?_
  ·
   rfl
  rintro i I4 ih4
  try dsimp only at I4
  refine .bp [.r []] (decide ((i:Int)< (l.length:Int))) (fun h4=> ?_) (fun h4=> ?_)
  ·
   exfalso
   omega
  ·
   have e2:(((l.length:Int)==0):Bool)=true:=by
    rw[beq_iff_eq];exact h1
   exact .finE [.r []] [] (fun z0:Bool=>(VB z0,[])) _ _ e2
theorem x4U(l:List Cell):FC Tryz.prog 158 [VL 5 z0k l,VN,.fn 159 []] (app emp []) (VB ((l.length:Int)==0)) (app emp []):=by
 refine .go Tryz.f158 ?_
 refine .len 0 (fun hl0=> ?_)
 refine .bp [.r [],.r [(1,X (Xl z0k l))]] ((l.length:Int) !=0) (fun h1=> ?_) (fun h1=> ?_)
 ·
  have e1:(((l.length:Int)==0):Bool)=false:=by
   rw[beq_eq_false_iff_ne];exact h1
  exact .finE [.r []] [] (fun z0:Bool=>(VB z0,[])) _ _ e1
 ·
  refine .loop (α:=Nat) [.r [(1,X (Xl z0k l))]] 72 (fun i=>([(1,VN),(2,.fn 159 []),(15,VL 5 z0k l),(16,VI (l.length:Int)),(17,VI (i:Int))],[])) (fun i=>i=0) (fun i=>0) (0:Nat) ?_ ?_
  ·
   rfl
  rintro i I4 ih4
  try dsimp only at I4
  refine .bp [.r []] (decide ((i:Int)< (l.length:Int))) (fun h4=> ?_) (fun h4=> ?_)
  ·
   exfalso
   omega
  ·
   have e2:(((l.length:Int)==0):Bool)=true:=by
    rw[beq_iff_eq];exact h1
   exact .finE [.r []] [] (fun z0:Bool=>(VB z0,[])) _ _ e2
end Go.Ch
end
section
namespace Go.Ch
open Go Go.Ab
structure DStep where
 kind:Int
 n:Int
 attrs:List Attr
 elems:List Elem
instance:Inhabited DStep:=⟨⟨0,0,[],[]⟩⟩
def z0d(s:DStep):Tree:= .agg [.sc (.int .i64 s.kind),.sc (.int .i64 s.n),.lst 2 (s.attrs.map z0a),.lst 3 (s.elems.map z0c)]
def AN(n:Nat)(l:List Elem):Prop:=∀x∈l,x.attrs.length<=n
def z0Q(s:DStep):Int:=
 if s.kind=1 then(if s.n≠0\/0<s.attrs.length then 4 else if s.elems.length=0 then 11 else z5J s.elems 0)
 else if s.kind=0\/s.kind=2 then
  (if 0<s.elems.length\/(s.kind=2/\0<s.attrs.length) then 4 else if s.n<1\/2147483647<s.n then 2 else z1B true s.attrs 0)
 else 8
def szD(s:DStep):Int:=if s.kind=1 then(s.elems.length:Int) else s.n
def DOk(s:DStep):Prop:=
 (s.kind=1/\s.n=0/\s.attrs=[]/\s.elems≠[]/\∀x∈s.elems,z05 x=0)\/
 ((s.kind=0\/s.kind=2)/\s.elems=[]/\(s.kind=2->s.attrs=[])/\1<=s.n/\s.n<=2147483647/\VG true s.attrs)
theorem x6g{α:Type}{l:List α}:¬0<l.length↔l=[]:=by
 rw[Nat.not_lt,Nat.le_zero,List.length_eq_zero_iff]
theorem z1d{s:DStep}:z0Q s=0↔DOk s:=by
 unfold z0Q DOk
 by_cases k1:s.kind=1
 ·rw[if_pos k1]
  by_cases c1:s.n≠0\/0<s.attrs.length
  ·rw[if_pos c1]
   constructor
   ·intro h;omega
   ·rintro(⟨_,h1,h2,_⟩| ⟨h,_⟩)
    ·rw[h2] at c1;simp at c1;omega
    ·omega
  rw[if_neg c1]
  by_cases c2:s.elems.length=0
  ·rw[if_pos c2]
   constructor
   ·intro h;omega
   ·rintro(⟨_,_,_,h,_⟩| ⟨h,_⟩)
    ·exact absurd (List.length_eq_zero_iff.1 c2) h
    ·omega
  rw[if_neg c2,x2b]
  have ha:s.attrs=[]:=x6g.1 (by omega)
  constructor
  ·intro h
   exact .inl ⟨k1,by omega,ha,fun e=>c2 (by rw[e];rfl),h⟩
  ·rintro(⟨_,_,_,_,h⟩| ⟨h,_⟩)
   ·exact h
   ·omega
 rw[if_neg k1]
 by_cases k2:s.kind=0\/s.kind=2
 ·rw[if_pos k2]
  by_cases c1:0<s.elems.length\/(s.kind=2/\0<s.attrs.length)
  ·rw[if_pos c1]
   constructor
   ·intro h;omega
   ·rintro(⟨h,_⟩| ⟨_,h1,h2,_⟩)
    ·omega
    ·rcases c1 with c| ⟨c,d⟩
     ·rw[h1] at c;simp at c
     ·rw[h2 c] at d;simp at d
  rw[if_neg c1]
  by_cases c2:s.n<1\/2147483647<s.n
  ·rw[if_pos c2]
   constructor
   ·intro h;omega
   ·rintro(⟨h,_⟩| ⟨_,_,_,h1,h2,_⟩)<;>omega
  rw[if_neg c2,z1z]
  constructor
  ·intro h
   exact .inr ⟨k2,x6g.1 (by omega),fun h2=>x6g.1 (by omega),by omega,by omega,h⟩
  ·rintro(⟨h,_⟩| ⟨_,_,_,_,_,h⟩)
   ·omega
   ·exact h
 ·rw[if_neg k2]
  constructor
  ·intro h;omega
  ·rintro(⟨h,_⟩| ⟨h,_⟩)
   ·omega
   ·exact absurd h k2
theorem z1D{s:DStep}(h:z0Q s=0):(s.kind=0\/s.kind=1\/s.kind=2)/\0<=s.n/\s.n<=2147483647/\1<=szD s/\szD s<=max 2147483647 s.elems.length:=by
 unfold szD
 rcases z1d.1 h with⟨k,n,a,e,_⟩| ⟨k,_,_,n1,n2,_⟩
 ·have:0<s.elems.length:=zR.2 e
  rw[if_pos k];omega
 ·rw[if_neg (by omega)];omega
def y24(w x:DStep):Bool:=((w.kind==x.kind)&&((x.kind !=0)||z0O w.attrs x.attrs))|| ((w.kind==2)&&(x.kind==1))
theorem z8m{w x:DStep}:y24 w x=true↔(w.kind=x.kind/\(¬x.kind=0\/z0O w.attrs x.attrs=true))\/(w.kind=2/\x.kind=1):=by
 unfold y24;simp
theorem z5c{w x:DStep}(h:(¬w.kind=x.kind\/(x.kind=0/\z0O w.attrs x.attrs=false))/\(¬w.kind=2\/¬x.kind=1)):¬y24 w x=true:=by
 rw[z8m]
 rintro(⟨a,b⟩| ⟨a,b⟩)
 ·rcases h.1 with c| ⟨c,d⟩
  ·exact c a
  ·rcases b with b|b
   ·exact b c
   ·rw[d] at b;cases b
 ·rcases h.2 with c|c
  ·exact c a
  ·exact c b
def DN(n:Nat)(l:List DStep):Prop:=∀s∈l,s.elems.length<=n/\s.attrs.length<=n/\AN n s.elems
theorem DN.at_{n:Nat}{l:List DStep}(h:DN n l){k:Nat}(hk:k<l.length):(l.getD k default).elems.length<=n/\(l.getD k default).attrs.length<=n/\AN n (l.getD k default).elems:=by
 refine h _ ?_
 rw[show l.getD k default=l[k] by simp[List.getD,qb hk]]
 exact zA hk
def y16(l:List DStep)(i:Nat)(b a:Int):Int:=
 if i<l.length then
  if z0Q (l.getD i default)≠0 then z0Q (l.getD i default)
  else if 0<i/\y24 (l.getD (i- 1) default) (l.getD i default)=true then 5
  else y16 l (i+1) (if(l.getD i default).kind≠1 then min (b+(l.getD i default).n) 2147483648 else b) (if(l.getD i default).kind≠2 then min (a+szD (l.getD i default)) 2147483648 else a)
 else if 2147483647<b\/2147483647<a then 3 else 0
termination_by l.length-i
def z1u(l:List DStep):Int:=y16 l 0 0 0
def oS(s:DStep):Int:=if s.kind=1 then 0 else s.n
def nS(s:DStep):Int:=if s.kind=2 then 0 else szD s
def z1Q:List DStep->Int
 | []=>0
 |s::l=>oS s+z1Q l
def z2c:List DStep->Int
 | []=>0
 |s::l=>nS s+z2c l
def y25:List DStep->Prop
 | []=>True
 | [s]=>DOk s
 |s::t::l=>DOk s/\y24 s t=false/\y25 (t::l)
def z6a(l:List DStep)(i:Nat):Prop:=∀k,i<=k->k<l.length->DOk (l.getD k default)/\(0<k->y24 (l.getD (k- 1) default) (l.getD k default)=false)
theorem y9D{α:Type}[Inhabited α]{l:List α}{i:Nat}(h:i<l.length):l.drop i=l.getD i default::l.drop (i+1):=by
 rw[zi h];simp[List.getD,qb h]
theorem x6G{s:DStep}(h:DOk s):0<=oS s/\0<=nS s:=by
 have:=z1D (z1d.2 h)
 unfold oS nS
 constructor<;>split<;>omega
theorem y5Z{l:List DStep}{i:Nat}(h:z6a l i):∀s∈l.drop i,DOk s:=by
 intro s hs
 obtain⟨k,hk,e⟩:=zd.1 hs
 rw[qR] at hk
 have:=(h (i+k) (by omega) (by omega)).1
 rw[List.getElem_drop] at e
 rw[<-e]
 simpa[List.getD,qb (show i+k<l.length by omega)] using this
theorem y1o:∀{l:List DStep},(∀s∈l,DOk s)->0<=z1Q l/\0<=z2c l
 | [],_=>⟨zz _,zz _⟩
 |s::l,h=>by
  have h1:=x6G (h s (by simp))
  have h2:=y1o (l:=l) (fun t ht=>h t (by simp[ht]))
  simp only[z1Q,z2c];omega
theorem y50(l:List DStep):∀(m i:Nat) (b a:Int),l.length-i=m->0<=b->0<=a->b<=2147483648->a<=2147483648->
 (y16 l i b a=0↔z6a l i/\b+z1Q (l.drop i)<=2147483647/\a+z2c (l.drop i)<=2147483647)
 |0,i,b,a,h,hb,ha,hb2,ha2=>by
  rw[y16,if_neg (by omega),qM (by omega)]
  simp only[z1Q,z2c]
  split
  ·constructor
   ·intro h;omega
   ·rintro⟨_,h1,h2⟩;omega
  ·exact⟨fun _=>⟨fun k h1 h2=>by omega,by omega,by omega⟩,fun _=>rfl⟩
 |m+1,i,b,a,h,hb,ha,hb2,ha2=>by
  have hi:i<l.length:=by omega
  rw[y16,if_pos hi]
  have step:z6a l i↔(DOk (l.getD i default)/\(0<i->y24 (l.getD (i- 1) default) (l.getD i default)=false))/\z6a l (i+1):=by
   constructor
   ·exact fun h=>⟨h i (qn _) hi,fun k h1 h2=>h k (by omega) h2⟩
   ·rintro⟨h1,h2⟩ k h3 h4
    by_cases e:k=i
    ·subst e;exact h1
    ·exact h2 k (by omega) h4
  rw[step,y9D hi]
  simp only[z1Q,z2c]
  have ih:=fun b' a'=>y50 l m (i+1) b' a' (by omega)
  have nn:=fun f:z6a l (i+1)=>y1o (y5Z f)
  generalize l.getD i default=x at*
  generalize l.getD (i- 1) default=y at*
  by_cases c1:z0Q x≠0
  ·rw[if_pos c1];constructor
   ·intro h;exact absurd h c1
   ·rintro⟨⟨⟨h,_⟩,_⟩,_⟩;exact absurd (z1d.2 h) c1
  rw[if_neg c1]
  have hs:=z1d.1 (by omega:z0Q x=0)
  have hz:=z1D (by omega:z0Q x=0)
  by_cases c3:0<i/\y24 y x=true
  ·rw[if_pos c3];constructor
   ·intro h;omega
   ·rintro⟨⟨⟨_,h⟩,_⟩,_⟩
    have:=h c3.1
    rw[c3.2] at this;cases this
  rw[if_neg c3,ih _ _ (by split<;>omega) (by split<;>omega) (by split<;>omega) (by split<;>omega)]
  unfold oS nS
  constructor
  ·rintro⟨f,h1,h2⟩
   obtain⟨n0,n1⟩:=nn f
   refine⟨⟨⟨hs,fun h0=> ?_⟩,f⟩,?_,?_⟩
   ·cases e:y24 y x
    ·rfl
    ·exact absurd ⟨h0,e⟩ c3
   ·by_cases k1:x.kind=1
    ·rw[if_pos k1];rw[if_neg (by omega)] at h1;omega
    ·rw[if_neg k1];rw[if_pos k1] at h1;omega
   ·by_cases k1:x.kind=2
    ·rw[if_pos k1];rw[if_neg (by omega)] at h2;omega
    ·rw[if_neg k1];rw[if_pos k1] at h2;omega
  ·rintro⟨⟨_,f⟩,h1,h2⟩
   obtain⟨n0,n1⟩:=nn f
   refine⟨f,?_,?_⟩
   ·by_cases k1:x.kind=1
    ·rw[if_pos k1] at h1;rw[if_neg (by omega)];omega
    ·rw[if_neg k1] at h1;rw[if_pos k1];omega
   ·by_cases k1:x.kind=2
    ·rw[if_pos k1] at h2;rw[if_neg (by omega)];omega
    ·rw[if_neg k1] at h2;rw[if_pos k1];omega
theorem z89:∀{l:List DStep},z6a l 0->y25 l
 | [],_=>trivial
 | [s],h=>(h 0 (qn _) (by simp)).1
 |s::t::l,h=>by
  refine⟨(h 0 (qn _) (by simp)).1,(h 1 (by omega) (by simp)).2 (by omega),z89 (fun k h1 h2=> ?_)⟩
  have h2':k+1< (s::t::l).length:=by simp at h2|-;omega
  have:=h (k+1) (by omega) h2'
  simp only[List.getD_cons_succ] at this
  refine⟨this.1,fun h0=> ?_⟩
  have e:=this.2 (by omega)
  rw[show k+1- 1=(k- 1)+1 by omega,List.getD_cons_succ] at e
  exact e
theorem z4x:∀{l:List DStep},y25 l->z6a l 0
 | [],_=>fun k h1 h2=>by simp at h2
 | [s],h=>fun k h1 h2=>by
  have:k=0:=by simp at h2;omega
  subst this
  exact⟨h,fun h0=>by omega⟩
 |s::t::l,h=>fun k h1 h2=>by
  obtain⟨a,b,c⟩:=h
  rcases k with _|k
  ·exact⟨a,fun h0=>by omega⟩
  ·have:=z4x c k (qS _) (by simp at h2|-;omega)
   rw[List.getD_cons_succ]
   refine⟨this.1,fun _=> ?_⟩
   rcases k with _|k
   ·exact b
   ·rw[Nat.add_sub_cancel,List.getD_cons_succ]
    have e:=this.2 (by omega)
    rw[Nat.add_sub_cancel] at e
    exact e
def z1g(l:List DStep):Prop:=y25 l/\z1Q l<=2147483647/\z2c l<=2147483647
theorem z1r{l:List DStep}:z1u l=0↔z1g l:=by
 unfold z1u z1g
 rw[y50 l _ 0 0 0 rfl (zz _) (zz _) (by decide) (by decide)]
 simp only[List.drop_zero,Int.zero_add]
 exact⟨fun h=>⟨z89 h.1,h.2⟩,fun h=>⟨z4x h.1,h.2⟩⟩
theorem y25.all{l:List DStep}(h:y25 l):∀s∈l,DOk s:=by
 have:=y5Z (z4x h)
 simpa using this
theorem y0g{l:List DStep}{i:Nat}(h:i<l.length)(hf:y25 l):z1Q (l.drop i)=(if(l.getD i default).kind=1 then 0 else(l.getD i default).n)+z1Q (l.drop (i+1))/\
 z2c (l.drop i)=(if(l.getD i default).kind=2 then 0 else szD (l.getD i default))+z2c (l.drop (i+1))/\DOk (l.getD i default)/\0<=z1Q (l.drop (i+1))/\0<=z2c (l.drop (i+1))/\0<=(l.getD i default).n/\1<=szD (l.getD i default)/\((l.getD i default).kind=0\/(l.getD i default).kind=1\/(l.getD i default).kind=2):=by
 have h1:=((z4x hf) i (qS _) h).1
 have h2:=z1D (z1d.2 h1)
 have h3:=y1o (l:=l.drop (i+1)) (fun s hs=>hf.all s (qC hs))
 rw[y9D h]
 exact⟨rfl,rfl,h1,h3.1,h3.2,h2.2.1,h2.2.2.2.1,h2.1⟩
theorem x9v{l:List DStep}{i:Nat}(h:l.length<=i):z1Q (l.drop i)=0/\z2c (l.drop i)=0:=by rw[qM h];exact⟨rfl,rfl⟩
def x9w(w x:DStep):Prop:=if x.kind=1 then w.kind≠0 else if x.kind=2 then w.kind=2 else w.kind=0/\z0O w.attrs x.attrs=true
instance (w x:DStep):Decidable (x9w w x):=by unfold x9w;infer_instance
inductive DU where
 |K (c:List Attr)
 |A (e:Elem)
 |C
def exS(s:DStep):List DU:=if s.kind=1 then s.elems.map .A else if s.kind=2 then List.replicate s.n.toNat .C else List.replicate s.n.toNat (.K s.attrs)
def exD:List DStep->List DU
 | []=>[]
 |s::l=>exS s++exD l
theorem z5d(a b:List DStep):exD (a++b)=exD a++exD b:=by
 induction a with
 |nil=>rfl
 |cons s a ih=>simp[exD,ih]
def z7d(c:List Attr)(x:Elem):Elem:=⟨x.char,x.ref,fm z2e x.attrs c⟩
def z0s:List DU->List Elem->List Elem
 | [],_=>[]
 | .A e::u,l=>e::z0s u l
 | .K c::u,x::l=>z7d c x::z0s u l
 | .C::u,_::l=>z0s u l
 | .K _::u,[]=>z0s u []
 | .C::u,[]=>z0s u []
def z0I:List DU->Nat
 | []=>0
 | .A _::u=>z0I u
 |_::u=>z0I u+1
def z07:List DU->Nat
 | []=>0
 | .C::u=>z07 u
 |_::u=>z07 u+1
def UOk:List DU->Prop
 | []=>True
 | .K c::u=>VG true c/\UOk u
 |_::u=>UOk u
inductive DSw:List DU->List DU->Prop
 |refl (u:List DU):DSw u u
 |cons (x:DU) {u v:List DU} (h:DSw u v):DSw (x::u) (x::v)
 |swap (e:Elem) (u:List DU):DSw (.A e:: .C::u) (.C:: .A e::u)
 |symm {u v:List DU} (h:DSw u v):DSw v u
 |trans {u v w:List DU} (h:DSw u v) (k:DSw v w):DSw u w
theorem DSw.left(w:List DU){u v:List DU}(h:DSw u v):DSw (w++u) (w++v):=by
 induction w with
 |nil=>exact h
 |cons x w ih=>exact .cons x ih
theorem DSw.right(w:List DU){u v:List DU}(h:DSw u v):DSw (u++w) (v++w):=by
 induction h with
 |refl u=>exact .refl _
 |cons x _ ih=>exact .cons x ih
 |swap e u=>exact .swap e _
 |symm _ ih=>exact .symm ih
 |trans _ _ a b=>exact .trans a b
theorem y26{u v:List DU}(h:DSw u v):∀l,z0s u l=z0s v l:=by
 induction h with
 |refl u=>exact fun _=>rfl
 |cons x _ ih=>
  intro l
  cases x<;>cases l<;>simp[z0s,ih]
 |swap e u=>intro l;cases l<;>simp[z0s]
 |symm _ ih=>exact fun l=>(ih l).symm
 |trans _ _ a b=>exact fun l=>(a l).trans (b l)
theorem y51{u v:List DU}(h:DSw u v):z0I u=z0I v/\z07 u=z07 v:=by
 induction h with
 |refl u=>exact⟨rfl,rfl⟩
 |cons x _ ih=>cases x<;>simp[z0I,z07,ih.1,ih.2]
 |swap e u=>exact⟨rfl,rfl⟩
 |symm _ ih=>exact⟨ih.1.symm,ih.2.symm⟩
 |trans _ _ a b=>exact⟨a.1.trans b.1,a.2.trans b.2⟩
theorem x2r(e:List Elem)(u:List DU):DSw (.C::(e.map .A++u)) (e.map .A++ .C::u):=by
 induction e with
 |nil=>exact .refl _
 |cons x e ih=>exact .trans (.symm (.swap x _)) (.cons _ ih)
theorem y9E(c:Nat)(e:List Elem)(u:List DU):DSw (List.replicate c .C++(e.map .A++u)) (e.map .A++(List.replicate c .C++u)):=by
 induction c with
 |zero=>exact .refl _
 |succ c ih=>exact .trans (.cons _ ih) (x2r e _)
theorem y9F(e:List Elem)(u:List DU)(l:List Elem):z0s (e.map .A++u) l=e++z0s u l:=by
 induction e with
 |nil=>rfl
 |cons x e ih=>simp[z0s,ih]
theorem y27(n:Nat)(c:List Attr)(u:List DU):∀l:List Elem,z0s (List.replicate n (.K c)++u) l=(l.take n).map (z7d c)++z0s u (l.drop n):=by
 induction n with
 |zero=>intro l;simp
 |succ n ih=>
  intro l
  cases l with
  |nil=>have:=ih [];simpa[z0s,qK] using this
  |cons x l=>simp[z0s,qK,ih]
theorem y9G(n:Nat)(u:List DU):∀l:List Elem,z0s (List.replicate n .C++u) l=z0s u (l.drop n):=by
 induction n with
 |zero=>intro l;simp
 |succ n ih=>
  intro l
  cases l with
  |nil=>have:=ih [];simpa[z0s,qK] using this
  |cons x l=>simp[z0s,qK,ih]
def z4Q(l:List Elem)(d:List DStep):List Elem:=z0s (exD d) l
theorem x6H{d:List DStep}{i:Nat}(h:i<d.length)(l:List Elem):z0s (exD (d.drop i)) l=
 if(d.getD i default).kind=1 then(d.getD i default).elems++z0s (exD (d.drop (i+1))) l
 else if(d.getD i default).kind=2 then z0s (exD (d.drop (i+1))) (l.drop (d.getD i default).n.toNat)
 else(l.take (d.getD i default).n.toNat).map (z7d (d.getD i default).attrs)++z0s (exD (d.drop (i+1))) (l.drop (d.getD i default).n.toNat):=by
 rw[y9D h,exD]
 unfold exS
 split
 ·rw[y9F]
 ·split
  ·rw[y9G]
  ·rw[y27]
structure EOp where
 kind:Int
 node:Int
 nw:Node
 attrs:List Attr
 steps:List DStep
 grid:GEd
 draw:List DOp
instance:Inhabited EOp:=⟨⟨0,0,default,[],[],default,[]⟩⟩
def z0F(o:EOp):Tree:= .agg [TI o.kind,TI o.node,TI o.nw.id,TI o.nw.kind,.lst 2 (o.nw.attrs.map z0a),.lst 3 (o.nw.flow.map z0c),TI o.nw.grid.rows,TI o.nw.grid.cols,.lst 5 (o.nw.grid.cells.map z0k),.lst 4 (o.nw.grid.merges.map z0t),.lst 8 (o.nw.draw.map z0R),
 .lst 2 (o.attrs.map z0a),.lst 4 (o.steps.map z0d),.lst 2 (o.grid.rows.map z0P),.lst 2 (o.grid.cols.map z0P),.lst 5 (o.grid.cells.map z0k),.lst 4 (o.grid.split.map z0t),.lst 4 (o.grid.merge.map z0t),.lst 8 (o.draw.map z0R)]
def z0Z(n:Node):Bool:=((((n.id==0&&n.kind==0)&&z0O n.attrs [])&&((n.flow.length:Int)==0))&&z3x n.grid)&&((n.draw.length:Int)==0)
def x6I(g:GEd):Bool:=decide ((g.rows.length:Int)+(g.cols.length:Int)+(g.cells.length:Int)+(g.split.length:Int)+(g.merge.length:Int)> 0)
def y8i(o:EOp):Bool:=
 (o.kind==0&&o.node !=0)|| (o.kind !=0&& !(z0Z o.nw))|| (o.kind !=1&&decide ((o.attrs.length:Int)> 0))|| (o.kind !=2&&decide ((o.steps.length:Int)> 0))|| (o.kind !=3&&x6I o.grid)|| (o.kind !=4&&decide ((o.draw.length:Int)> 0))
def z2y(o:EOp):Int:=
 if o.kind<0\/4<o.kind then 8
 else if y8i o=true then 4
 else if o.kind=0 then z0X o.nw
 else if o.node<1\/1073741824<o.node then 2
 else if o.kind=1 then z1B true o.attrs 0
 else if o.kind=2 then z1u o.steps
 else if o.kind=3 then edE o.grid
 else z2E o.draw 0
def z1R(c:List EOp)(i:Nat):Int:=if i<c.length then(if z2y (c.getD i default)≠0 then z2y (c.getD i default) else z1R c (i+1)) else 0
termination_by c.length-i
theorem y9H{c:List EOp}{i:Nat}(h:i<c.length)(he:z2y (c.getD i default)≠0):z1R c i=z2y (c.getD i default):=by rw[z1R,if_pos h,if_pos he]
theorem y7F{c:List EOp}{i:Nat}(h:i<c.length)(he:z2y (c.getD i default)=0):z1R c i=z1R c (i+1):=by rw[z1R,if_pos h,if_neg (fun q=>q he)]
theorem y9I{c:List EOp}{i:Nat}(h:¬i<c.length):z1R c i=0:=by rw[z1R,if_neg h]
def z2z{α:Type}(f:α->Int):List α->Int
 | []=>0
 |x::l=>if f x≠0 then f x else z2z f l
theorem z4f{α:Type}[Inhabited α](f:α->Int){l:List α}{i:Nat}(h:i<l.length):z2z f (l.drop i)=if f (l.getD i default)≠0 then f (l.getD i default) else z2z f (l.drop (i+1)):=by
 rw[show l.drop i=l.getD i default::l.drop (i+1) from by rw[zi h];simp[List.getD,qb h]];rfl
theorem z7u{α:Type}(f:α->Int){l:List α}{i:Nat}(h:l.length<=i):z2z f (l.drop i)=0:=by rw[qM h];rfl
theorem z6b{α:Type}{f:α->Int}{l:List α}(h:z2z f l=0):∀x∈l,f x=0:=by
 induction l with
 |nil=>intro x hx;cases hx
 |cons y l ih=>
  rw[z2z] at h
  split at h
  ·rename_i q;exact absurd h q
  ·rename_i q
   intro x hx
   rcases qg.1 hx with rfl|hx
   ·exact qc q
   ·exact ih h x hx
theorem y0h{α:Type}{f:α->Int}{l:List α}(h:∀x∈l,f x=0):z2z f l=0:=by
 induction l with
 |nil=>rfl
 |cons y l ih=>rw[z2z,if_neg (fun q=>q (h y zF))];exact ih (fun x hx=>h x (qU _ hx))
def y3P(l:List Node)(k:Int)(x:Elem):Int:=if x.ref=0/\z1o k=false then 8 else z1c l k (z2N [x]) 0
def y7G(l:List Node)(k:Int)(s:List DStep):Int:=z2z (fun t:DStep=>z2z (y3P l k) t.elems) s
def z6Y(s:List DStep):Bool:=decide ((s.length:Int)> 0)&&((s.getD (s.length- 1) default).kind==0)
def z1v(l:List Node)(n:Node)(s:List DStep):Int:=
 if z1o n.kind=false/\z3V n.kind=false then 8
 else if z1Q s≠(n.flow.length:Int) then 14
 else if z1o n.kind=true/\z6Y s=false then 4
 else y7G l n.kind s
def x1x(l:List Node)(k:Int)(c:Cell):Int:=if c.ref=0 then 0 else z1c l k [c.ref] 0
def z1F(l:List Node)(n:Node)(g:GEd):Int:=
 if z3W n.kind=false then 8
 else if z2V n.kind g.cells 0≠0 then z2V n.kind g.cells 0
 else if z1Z n.grid g≠0 then z1Z n.grid g
 else z2z (x1x l n.kind) g.cells
def y3Q(l:List Node)(n:Node):List Node:=l.take (z0x l n.id)++n::l.drop (z0x l n.id)
def y0i(l:List Node)(n:Node):Int:=if z14 l n.id=true then 6 else z1c l n.kind (z2x n) 0
def z7T(n:Node)(c:List DOp):Int:=if y0c n.kind=false then 8 else if(z0p n.draw c).isSome then 0 else 6
def z1p(l:List Node)(o:EOp):Int:=
 if o.kind=0 then y0i l o.nw
 else if z14 l o.node=false then 7
 else if o.kind=1 then 0
 else if o.kind=2 then z1v l (l.getD (z0x l o.node) default) o.steps
 else if o.kind=3 then z1F l (l.getD (z0x l o.node) default) o.grid
 else z7T (l.getD (z0x l o.node) default) o.draw
def z4L(n:Node)(o:EOp):Node:=
 if o.kind=1 then {n with attrs:=fm z2e n.attrs o.attrs}
 else if o.kind=2 then {n with flow:=z4Q n.flow o.steps}
 else if o.kind=3 then {n with grid:=y9y n.grid o.grid}
 else {n with draw:=(z0p n.draw o.draw).getD []}
def z0W(l:List Node)(o:EOp):List Node:=
 if z1p l o≠0 then l else if o.kind=0 then y3Q l o.nw else l.set (z0x l o.node) (z4L (l.getD (z0x l o.node) default) o)
def z3X:List Node->List EOp->Int
 |_,[]=>0
 |l,o::c=>if z1p l o≠0 then z1p l o else z3X (z0W l o) c
def z3e:List Node->List EOp->List Node
 |l,[]=>l
 |l,o::c=>z3e (z0W l o) c
def z3s(d:Doc)(c:List EOp):Int:=if z1N d≠0 then z1N d else if z1R c 0≠0 then z1R c 0 else z3X d.nodes c
def z4S(d:Doc)(c:List EOp):Doc:=if z3s d c≠0 then⟨[]⟩ else⟨z3e d.nodes c⟩
theorem y52:∀(a b:List EOp) (l:List Node),z3X l (a++b)=if z3X l a≠0 then z3X l a else z3X (z3e l a) b
 | [],b,l=>by simp[z3X,z3e]
 |o::a,b,l=>by
  rw[qy]
  by_cases h:z1p l o≠0
  ·have e1:z3X l (o::(a++b))=z1p l o:=by rw[z3X,if_pos h]
   have e2:z3X l (o::a)=z1p l o:=by rw[z3X,if_pos h]
   rw[e1,e2,if_pos h]
  ·have e1:z3X l (o::(a++b))=z3X (z0W l o) (a++b):=by rw[z3X,if_neg h]
   have e2:z3X l (o::a)=z3X (z0W l o) a:=by rw[z3X,if_neg h]
   rw[e1,e2,y52 a b,z3e]
theorem y53:∀(a b:List EOp) (l:List Node),z3e l (a++b)=z3e (z3e l a) b
 | [],b,l=>rfl
 |o::a,b,l=>y53 a b _
theorem y28{c:List EOp}:∀(n i:Nat),c.length-i=n->(z1R c i=0↔∀j,i<=j->j<c.length->z2y (c.getD j default)=0)
 |0,i,h=>by rw[z1R,if_neg (by omega)];exact⟨fun _ j h1 h2=>by omega,fun _=>rfl⟩
 |n+1,i,h=>by
  have hi:i<c.length:=by omega
  rw[z1R,if_pos hi]
  by_cases q:z2y (c.getD i default)≠0
  ·rw[if_pos q];exact⟨fun e=>absurd e q,fun e=>absurd (e i (qn _) hi) q⟩
  ·rw[if_neg q,y28 n (i+1) (by omega)]
   refine⟨fun e j h1 h2=> ?_,fun e j h1 h2=>e j (by omega) h2⟩
   by_cases z:j=i
   ·subst z;exact qc q
   ·exact e j (by omega) h2
theorem z4y{c:List EOp}:z1R c 0=0↔∀o∈c,z2y o=0:=by
 rw[y28 _ 0 rfl]
 constructor
 ·intro h o ho
  obtain⟨j,hj,rfl⟩:∃j,j<c.length/\c.getD j default=o:=by
   obtain⟨j,hj,e⟩:=zS ho
   exact⟨j,hj,by simp[List.getD,hj,e]⟩
  exact h j (qS _) hj
 ·intro h j _ hj
  exact h _ (z0j hj)
def ixN(l:List Node)(k:Int):Int:=if z14 l k=true then(z0x l k:Int) else-1
theorem y4A{l:List Node}{k:Int}(h:z14 l k=true):ixN l k=(z0x l k:Int):=by unfold ixN;rw[if_pos h]
theorem y54{l:List Node}{k:Int}:0<=ixN l k↔z14 l k=true:=by
 unfold ixN;split
 ·rename_i h;exact⟨fun _=>h,fun _=>by omega⟩
 ·rename_i h;exact⟨fun q=>by omega,fun q=>absurd q h⟩
theorem y55{l:List Node}{k:Int}:ixN l k<0↔z14 l k=false:=by
 unfold ixN;split
 ·rename_i h;rw[h];exact⟨fun q=>by omega,fun q=>by cases q⟩
 ·rename_i h;exact⟨fun _=>by simpa using h,fun _=>by omega⟩
structure EopL(o:EOp):Prop where
 a:o.grid.rows.length<=1048576
 b:o.grid.cols.length<=1048576
 c:o.grid.cells.length<=1048576
 d:o.grid.split.length<=1048576
 e:o.grid.merge.length<=1048576
structure OpL(o:EOp):Prop where
 len:EopL o
 nb:NodeB o.nw
 nl:o.nw.grid.merges=[]/\y4w o.nw.grid.cells
 at1:o.attrs.length<=1048576
 dn:DN 400000000000 o.steps
 gl:LiteE o.grid
 ga:∀c∈o.grid.cells,c.attrs.length<=1048576
 dr:o.draw.length<=1048576
structure DocL(d:Doc):Prop extends DocB d where
 lite:∀n∈d.nodes,n.grid.merges=[]/\y4w n.grid.cells
def z9R(l:List Node)(n:Node):List Node:=if y0i l n≠0 then l else y3Q l n
theorem x6J{l:List Node}{n:Node}{k:Int}(h:y0i l n=k)(hk:k≠0):z9R l n=l/\y0i l n=k:=by
 unfold z9R;rw[h,if_pos hk];exact⟨rfl,rfl⟩
theorem x2s{l:List Node}{n:Node}(h:z14 l n.id=true):z9R l n=l/\y0i l n=6:=x6J (by unfold y0i;rw[if_pos h]) (by decide)
theorem y7H{l:List Node}{n:Node}(h:z14 l n.id=false):y0i l n=z1c l n.kind (z2x n) 0:=by unfold y0i;rw[if_neg (by rw[h];decide)]
theorem x8e{l:List Node}{n:Node}(h:z14 l n.id=false)(h2:z1c l n.kind (z2x n) 0≠0):z9R l n=l/\y0i l n=z1c l n.kind (z2x n) 0:=x6J (y7H h) h2
theorem x8f{l:List Node}{n:Node}(h:z14 l n.id=false)(h2:z1c l n.kind (z2x n) 0=0)(h3:z0x l n.id=l.length):z9R l n=l++[n]/\y0i l n=0:=by
 have e:=(y7H h).trans h2
 unfold z9R y3Q
 rw[e,if_neg (fun q=>q rfl),h3,List.take_length,List.drop_length]
 exact⟨rfl,rfl⟩
theorem x8g{l:List Node}{n:Node}(h:z14 l n.id=false)(h2:z1c l n.kind (z2x n) 0=0):z9R l n=l.take (z0x l n.id)++n::l.drop (z0x l n.id)/\y0i l n=0:=by
 have e:=(y7H h).trans h2
 unfold z9R
 rw[e,if_neg (fun q=>q rfl)]
 exact⟨rfl,rfl⟩
def z15(l:List Node)(i:Nat)(s:List DStep):List Node:=
 if z1v l (l.getD i default) s≠0 then l else l.set i {(l.getD i default) with flow:=z4Q (l.getD i default).flow s}
structure FlB(l:List Node)(i:Nat)(s:List DStep):Prop where
 len:l.length<=1048576
 sort:z1i l
 dn:DN 400000000000 s
 dv:z1g s
 an:AN 400000000000 (l.getD i default).flow
theorem y29{l:List Node}{i:Nat}{s:List DStep}{k:Int}(h:z1v l (l.getD i default) s=k)(hk:k≠0):z15 l i s=l/\z1v l (l.getD i default) s=k:=by
 unfold z15;rw[h,if_pos hk];exact⟨rfl,rfl⟩
theorem x8h{l:List Node}{i:Nat}{s:List DStep}(h:z1v l (l.getD i default) s=0):z15 l i s=l.set i {(l.getD i default) with flow:=z4Q (l.getD i default).flow s}/\z1v l (l.getD i default) s=0:=by
 unfold z15;rw[h,if_neg (fun q=>q rfl)];exact⟨rfl,rfl⟩
theorem x9M{l:List Node}{n:Node}{s:List DStep}(h:z1o n.kind=false/\z3V n.kind=false):z1v l n s=8:=by unfold z1v;rw[if_pos h]
theorem y56{a b:Bool}(h:a=true\/b=true):¬(a=false/\b=false):=by rintro⟨rfl,rfl⟩;rcases h with h|h<;>cases h
theorem x9N{l:List Node}{n:Node}{s:List DStep}(h:z1o n.kind=true\/z3V n.kind=true)(h2:z1Q s≠(n.flow.length:Int)):z1v l n s=14:=by unfold z1v;rw[if_neg (y56 h),if_pos h2]
theorem x9O{l:List Node}{n:Node}{s:List DStep}(h:z1o n.kind=true\/z3V n.kind=true)(h2:z1Q s=(n.flow.length:Int))(h3:z1o n.kind=true/\z6Y s=false):z1v l n s=4:=by
 unfold z1v;rw[if_neg (y56 h),if_neg (fun q=>q h2),if_pos h3]
theorem x9P{l:List Node}{n:Node}{s:List DStep}(h:z1o n.kind=true\/z3V n.kind=true)(h2:z1Q s=(n.flow.length:Int))(h3:z1o n.kind=false\/z6Y s=true):z1v l n s=y7G l n.kind s:=by
 unfold z1v;rw[if_neg (y56 h),if_neg (fun q=>q h2),if_neg]
 rintro⟨a,b⟩;rcases h3 with q|q
 ·rw[a] at q;cases q
 ·rw[b] at q;cases q
theorem x6K{l:List Node}{k:Int}{x:Elem}(h:x.ref=0/\z1o k=false):y3P l k x=8:=by unfold y3P;rw[if_pos h]
theorem x3G{l:List Node}{k:Int}{x:Elem}(h:x.ref≠0\/z1o k=true):y3P l k x=z1c l k (z2N [x]) 0:=by
 unfold y3P;rw[if_neg]
 rintro⟨a,b⟩;rcases h with q|q
 ·exact q a
 ·rw[b] at q;cases q
def z2r(l:List Node)(i:Nat)(g:GEd):List Node:=
 if z1F l (l.getD i default) g≠0 then l else l.set i {(l.getD i default) with grid:=y9y (l.getD i default).grid g}
structure GrB(l:List Node)(i:Nat)(g:GEd):Prop where
 len:l.length<=1048576
 sort:z1i l
 gl:LiteE g
 m:(l.getD i default).grid.merges=[]
 tx:y4w (l.getD i default).grid.cells
 l1:(l.getD i default).grid.cells.length<=1048576
 l2:g.cells.length<=1048576
 a1:∀c∈(l.getD i default).grid.cells,c.attrs.length<=1048576
 a2:∀c∈g.cells,c.attrs.length<=1048576
 k:(l.getD i default).kind≠6
theorem y57{l:List Node}{i:Nat}{s:GEd}{k:Int}(h:z1F l (l.getD i default) s=k)(hk:k≠0):z2r l i s=l/\z1F l (l.getD i default) s=k:=by
 unfold z2r;rw[h,if_pos hk];exact⟨rfl,rfl⟩
theorem x8i{l:List Node}{i:Nat}{s:GEd}(h:z1F l (l.getD i default) s=0):z2r l i s=l.set i {(l.getD i default) with grid:=y9y (l.getD i default).grid s}/\z1F l (l.getD i default) s=0:=by
 unfold z2r;rw[h,if_neg (fun q=>q rfl)];exact⟨rfl,rfl⟩
theorem x9Q{l:List Node}{n:Node}{g:GEd}(h:z3W n.kind=false):z1F l n g=8:=by unfold z1F;rw[if_pos h]
theorem x9R{l:List Node}{n:Node}{g:GEd}(h:z3W n.kind=true)(h2:z2V n.kind g.cells 0≠0):z1F l n g=z2V n.kind g.cells 0:=by unfold z1F;rw[if_neg (by rw[h];decide),if_pos h2]
theorem x9S{l:List Node}{n:Node}{g:GEd}(h:z3W n.kind=true)(h2:z2V n.kind g.cells 0=0)(h3:z1Z n.grid g≠0):z1F l n g=z1Z n.grid g:=by
 unfold z1F;rw[if_neg (by rw[h];decide),if_neg (fun q=>q h2),if_pos h3]
theorem x9T{l:List Node}{n:Node}{g:GEd}(h:z3W n.kind=true)(h2:z2V n.kind g.cells 0=0)(h3:z1Z n.grid g=0):z1F l n g=z2z (x1x l n.kind) g.cells:=by
 unfold z1F;rw[if_neg (by rw[h];decide),if_neg (fun q=>q h2),if_neg (fun q=>q h3)]
theorem y58{l:List Node}{k:Int}{c:Cell}(h:c.ref≠0):x1x l k c=z1c l k [c.ref] 0:=by unfold x1x;rw[if_neg h]
theorem x3H{l:List Node}{k:Int}{c:Cell}(h:c.ref=0):x1x l k c=0:=by unfold x1x;rw[if_pos h]
theorem y59{α:Type}[Inhabited α](f:α->Int){l:List α}{i:Nat}(h:i<l.length)(h0:f (l.getD i default)=0):z2z f (l.drop i)=z2z f (l.drop (i+1)):=by rw[z4f f h,if_neg (fun q=>q h0)]
theorem x6L{k:Int}(h:z3W k=true)(h6:k≠6)(h2:k≠2):False:=by
 unfold z3W at h;rw[qH,beq_iff_eq,beq_iff_eq] at h;omega
structure OneB(l:List Node)(o:EOp):Prop where
 len:l.length<=1048575
 sort:z1i l
 ok:z2y o=0
 op:OpL o
 all:∀n∈l,NodeB n/\(n.grid.merges=[]/\y4w n.grid.cells)/\n.kind≠6
theorem OneB.base{l:List Node}{o:EOp}(h:OneB l o):l.length<=1048575/\l.length<=1048576/\z1i l:=⟨h.len,by have:=h.len;omega,h.sort⟩
theorem OneB.nw{l:List Node}{o:EOp}(h:OneB l o):NodeB o.nw:=h.op.nb
theorem OneB.nd{l:List Node}{o:EOp}(h:OneB l o)(hh:z14 l o.node=true):(l.getD (z0x l o.node) default).attrs.length<=1048576/\o.attrs.length<=1048576:=
 ⟨(h.all _ (z0j (z1m.1 hh).1)).1.at2,h.op.at1⟩
theorem OneB.fl{l:List Node}{o:EOp}(h:OneB l o)(hh:z14 l o.node=true)(hk:o.kind=2):FlB l (z0x l o.node) o.steps:=by
 have hn:=h.all _ (z0j (z1m.1 hh).1)
 have he:=h.ok
 unfold z2y at he
 refine⟨h.base.2.1,h.sort,h.op.dn,z1r.1 ?_,fun x hx=>by have:=hn.1.fl3 x hx;omega⟩
 split at he
 ·cases he
 ·split at he
  ·cases he
  ·have k0:¬o.kind=0:=by omega
   have k1:¬o.kind=1:=by omega
   rw[if_neg k0] at he
   split at he
   ·cases he
   ·first|exact he| (rw[if_neg k1,if_pos hk] at he;exact he)
theorem OneB.gr{l:List Node}{o:EOp}(h:OneB l o)(hh:z14 l o.node=true)(hk:o.kind=3):GrB l (z0x l o.node) o.grid:=by
 have hn:=h.all _ (z0j (z1m.1 hh).1)
 exact⟨h.base.2.1,h.sort,h.op.gl,hn.2.1.1,hn.2.1.2,hn.1.ce2,h.op.len.c,hn.1.ce3,h.op.ga,hn.2.2⟩
theorem OneB.kd{l:List Node}{o:EOp}(h:OneB l o)(h0:o.kind≠0)(h1:o.kind≠1)(h2:o.kind≠2)(h3:o.kind≠3):o.kind=4:=by
 have he:=h.ok
 unfold z2y at he
 split at he
 ·cases he
 ·omega
theorem OneB.dr{l:List Node}{o:EOp}(h:OneB l o)(hh:z14 l o.node=true)(hk:o.kind=4):(l.getD (z0x l o.node) default).draw.length<=1048576/\o.draw.length<=1048576:=
 ⟨(h.all _ (z0j (z1m.1 hh).1)).1.dr1,h.op.dr⟩
theorem y7I{l:List Node}{o:EOp}(h:o.kind=0):z0W l o=z9R l o.nw/\z1p l o=y0i l o.nw:=by
 have e:z1p l o=y0i l o.nw:=by unfold z1p;rw[if_pos h]
 refine⟨?_,e⟩
 unfold z0W z9R;rw[e,if_pos h]
theorem x4V{l:List Node}{o:EOp}{k:Int}(h:z1p l o=k)(hk:k≠0):z0W l o=l/\z1p l o=k:=by
 unfold z0W;rw[h,if_pos hk];exact⟨rfl,rfl⟩
theorem x6M{l:List Node}{o:EOp}(h:o.kind≠0)(h2:z14 l o.node=false):z0W l o=l/\z1p l o=7:=x4V (by unfold z1p;rw[if_neg h,if_pos h2]) (by decide)
theorem x4W{l:List Node}{o:EOp}(h:o.kind≠0)(h0:z1p l o=0):z0W l o=l.set (z0x l o.node) (z4L (l.getD (z0x l o.node) default) o):=by
 unfold z0W;rw[h0,if_neg (fun q=>q rfl),if_neg h]
theorem x6N{l:List Node}{o:EOp}(h:z14 l o.node=true)(hk:o.kind=1):z0W l o=l.set (z0x l o.node) {(l.getD (z0x l o.node) default) with attrs:=fm z2e (l.getD (z0x l o.node) default).attrs o.attrs}/\z1p l o=0:=by
 have e:z1p l o=0:=by unfold z1p;rw[if_neg (by omega),if_neg (by rw[h];decide),if_pos hk]
 refine⟨(x4W (by omega) e).trans ?_,e⟩
 unfold z4L;rw[if_pos hk]
theorem x2t{l:List Node}{o:EOp}(h:z14 l o.node=true)(hk:o.kind=2):z0W l o=z15 l (z0x l o.node) o.steps/\z1p l o=z1v l (l.getD (z0x l o.node) default) o.steps:=by
 have e:z1p l o=z1v l (l.getD (z0x l o.node) default) o.steps:=by unfold z1p;rw[if_neg (by omega),if_neg (by rw[h];decide),if_neg (by omega),if_pos hk]
 refine⟨?_,e⟩
 unfold z0W z15 z4L;rw[e,if_neg (show¬o.kind=0 by omega),if_neg (show¬o.kind=1 by omega),if_pos hk]
theorem x6O{l:List Node}{o:EOp}(h:z14 l o.node=true)(hk:o.kind=3):z0W l o=z2r l (z0x l o.node) o.grid/\z1p l o=z1F l (l.getD (z0x l o.node) default) o.grid:=by
 have e:z1p l o=z1F l (l.getD (z0x l o.node) default) o.grid:=by unfold z1p;rw[if_neg (by omega),if_neg (by rw[h];decide),if_neg (by omega),if_neg (by omega),if_pos hk]
 refine⟨?_,e⟩
 unfold z0W z2r z4L;rw[e,if_neg (show¬o.kind=0 by omega),if_neg (show¬o.kind=1 by omega),if_neg (show¬o.kind=2 by omega),if_pos hk]
theorem y9J{l:List Node}{o:EOp}(h:z14 l o.node=true)(hk:o.kind=4):z1p l o=z7T (l.getD (z0x l o.node) default) o.draw:=by
 unfold z1p;rw[if_neg (by omega),if_neg (by rw[h];decide),if_neg (by omega),if_neg (by omega),if_neg (by omega)]
theorem x8j{l:List Node}{o:EOp}(h:z14 l o.node=true)(hk:o.kind=4)(hd:y0c (l.getD (z0x l o.node) default).kind=false):z0W l o=l/\z1p l o=8:=
 x4V ((y9J h hk).trans (by unfold z7T;rw[if_pos hd])) (by decide)
theorem x6P{l:List Node}{o:EOp}(h:z14 l o.node=true)(hk:o.kind=4)(hd:y0c (l.getD (z0x l o.node) default).kind=true):
 ((if(z0p (l.getD (z0x l o.node) default).draw o.draw).isSome then(0:Int) else 6)=0->z0W l o=l.set (z0x l o.node) {(l.getD (z0x l o.node) default) with draw:=(z0p (l.getD (z0x l o.node) default).draw o.draw).getD []})/\
 ((if(z0p (l.getD (z0x l o.node) default).draw o.draw).isSome then(0:Int) else 6)≠0->z0W l o=l)/\z1p l o=(if(z0p (l.getD (z0x l o.node) default).draw o.draw).isSome then(0:Int) else 6):=by
 have e:z1p l o=(if(z0p (l.getD (z0x l o.node) default).draw o.draw).isSome then(0:Int) else 6):=(y9J h hk).trans (by unfold z7T;rw[if_neg (by rw[hd];decide)])
 refine⟨fun h0=>(x4W (by omega) (e.trans h0)).trans ?_,fun h0=>(x4V e h0).1,e⟩
 unfold z4L;rw[if_neg (show¬o.kind=1 by omega),if_neg (show¬o.kind=2 by omega),if_neg (show¬o.kind=3 by omega)]
def x6Q:List Node->List EOp->Prop
 |_,[]=>True
 |l,o::c=>OneB l o/\(z1p l o=0->x6Q (z0W l o) c)
structure AppB(d:Doc)(c:List EOp):Prop where
 doc:DocL d
 ops:∀o∈c,OpL o
 run:z1N d=0->z1R c 0=0->x6Q d.nodes c
theorem x4X{d:Doc}{c:List EOp}{k:Int}(h:z3s d c=k)(hk:k≠0):z4S d c=⟨[]⟩/\z3s d c=k:=by
 unfold z4S;rw[h,if_pos hk];exact⟨rfl,rfl⟩
theorem x6R{d:Doc}{c:List EOp}(h:z1N d≠0):z4S d c=⟨[]⟩/\z3s d c=z1N d:=x4X (by unfold z3s;rw[if_pos h]) h
theorem x6S{d:Doc}{c:List EOp}(h:z1N d=0)(h2:z1R c 0≠0):z4S d c=⟨[]⟩/\z3s d c=z1R c 0:=x4X (by unfold z3s;rw[if_neg (fun q=>q h),if_pos h2]) h2
theorem x4Y{d:Doc}{c:List EOp}(h:z1N d=0)(h2:z1R c 0=0):z3s d c=z3X d.nodes c:=by unfold z3s;rw[if_neg (fun q=>q h),if_neg (fun q=>q h2)]
theorem x8k{d:Doc}{c:List EOp}{k:Int}(h:z1N d=0)(h2:z1R c 0=0)(h3:z3X d.nodes c=k)(hk:k≠0):z4S d c=⟨[]⟩/\z3s d c=k:=x4X ((x4Y h h2).trans h3) hk
theorem x4Z{d:Doc}{c:List EOp}{l:List Node}(h:z1N d=0)(h2:z1R c 0=0)(h3:z3X d.nodes c=0)(h4:z3e d.nodes c=l):z4S d c=⟨l⟩/\z3s d c=0:=by
 have e:=(x4Y h h2).trans h3
 unfold z4S;rw[e,if_neg (fun q=>q rfl),h4];exact⟨rfl,rfl⟩
theorem z9a{d:Doc}(h:z1N d=0):z1P d.nodes 0=0:=by
 unfold z1N at h
 split at h
 ·cases h
 ·split at h
  ·rename_i q;exact absurd h q
  ·rename_i q;exact qc q
theorem z8n{d:Doc}(h:z1N d=0):z1i d.nodes:=y4z (z9a h)
theorem y6a{d:Doc}(h:z1N d=0):∀n∈d.nodes,z0X n=0:=by
 intro n hn
 obtain⟨j,hj,rfl⟩:=z0T hn
 exact(z4e _ 0 rfl (z9a h)).1 j (qS _) hj
theorem y9K{d:Doc}(h:z1N d=0):∀n∈d.nodes,1<=n.id/\n.id<=1073741824:=by
 intro n hn
 have:=y6a h n hn
 unfold z0X at this
 split at this
 ·cases this
 ·omega
end Go.Ch
end
section
set_option maxRecDepth 100000
set_option maxHeartbeats 4000000
open Go Go.Proofs Go.Ab
namespace Go.Ch
theorem y3a(x:Grid):FC Tryz.prog 96 [.t (y1b x),.t (.agg [TI 0,TI 0,TN,TN])] (app emp []) (VB (z3x x)) (app emp []):=by
 refine .go Tryz.f96 ?_
 have e1:((z3x x):Bool)=((((x.rows==0)&&(x.cols==0))&&(((x.merges).length:Int)==0))&&(((x.cells).length:Int)==0)):=by
  unfold z3x;rw[zl];simp only[qm];constructor<;>(rintro⟨⟨⟨a,b⟩,c⟩,d⟩;exact⟨⟨⟨a,b⟩,d⟩,c⟩)
 exact .finE [.r [],.r [(7,Xv 1 (x.rows==0) X0),(9,Xv 1 (x.rows==0) X0),(10,Xv 2 (x.rows==0) X0),(11,X (Xk (x.rows==0))),(14,Xv 1 ((x.rows==0)&&(x.cols==0)) X0),(16,Xv 1 ((x.rows==0)&&(x.cols==0)) X0),(17,Xv 2 ((x.rows==0)&&(x.cols==0)) (Xc0 (x4T x.merges) X0)),(18,X (Xk ((x.rows==0)&&(x.cols==0)))),(21,Xv 1 (((x.rows==0)&&(x.cols==0))&&(((x.merges).length:Int)==0)) X0),(23,Xv 1 (((x.rows==0)&&(x.cols==0))&&(((x.merges).length:Int)==0)) X0),(24,Xv 2 (((x.rows==0)&&(x.cols==0))&&(((x.merges).length:Int)==0)) (Xc0 (x4U x.cells) X0)),(25,X (Xk (((x.rows==0)&&(x.cols==0))&&(((x.merges).length:Int)==0))))]] [] (fun z0:Bool=>(VB z0,[])) _ _ e1
theorem z9b(n:Node)(hm:n.grid.merges=[]/\y4w n.grid.cells):FC Tryz.prog 44 [.t (z0i n)] (app emp []) (VI (z0X n)) (app emp []):=by
 refine .go Tryz.f44 ?_
 obtain⟨hm1,hm2⟩:=hm
 refine .bp [.r [],.r [(5,Xv 1 (!(decide (n.id<1))) X0),(6,Xv 1 (!(decide (n.id<1))) X0),(7,X (Xk' (decide (n.id<1))))]] (decide (n.id<1)||decide (n.id>1073741824)) (fun h1=> ?_) (fun h1=> ?_)
 ·
  have e1:((z0X n):Int)=2:=by
   (try rw[z4u false n.attrs _ 0 rfl] at*)
   unfold z0X
   (repeat' split)<;>first|rfl|omega| (exfalso;omega)| (simp_all;done)| (exfalso;simp_all;done)| (exfalso;simp_all;omega)|grind
  exact .finE [.r []] [] (fun z0:Int=>(VI z0,[])) _ _ e1
 ·
  refine .bp [.r [(5,Xv 1 (!(decide (n.kind<0))) X0),(6,Xv 1 (!(decide (n.kind<0))) X0),(7,X (Xk' (decide (n.kind<0)))),(10,Xv 1 (!(decide (n.kind<0)||decide (n.kind>=13))) X0),(11,Xv 1 (!(decide (n.kind<0)||decide (n.kind>=13))) X0),(13,Xv 1 (!(decide (n.kind<0)||decide (n.kind>=13))) X0),(14,Xv 1 (!(decide (n.kind<0)||decide (n.kind>=13))) X0),(15,Xv 2 (!(decide (n.kind<0)||decide (n.kind>=13))) X0),(16,X (Xk' (decide (n.kind<0)||decide (n.kind>=13))))]] ((decide (n.kind<0)||decide (n.kind>=13))|| !((n.id==1)==(n.kind==0))) (fun h3=> ?_) (fun h3=> ?_)
  ·
   have e2:((z0X n):Int)=8:=by
    (try rw[z4u false n.attrs _ 0 rfl] at*)
    unfold z0X
    (repeat' split)<;>first|rfl|omega| (exfalso;omega)| (simp_all;done)| (exfalso;simp_all;done)| (exfalso;simp_all;omega)|grind
   exact .finE [.r []] [] (fun z0:Int=>(VI z0,[])) _ _ e2
  ·
   refine .bp [.r [(2,X (Xc0 (z39 n.attrs) X0))],.r []] ((z1B false n.attrs 0) !=0) (fun h6=> ?_) (fun h6=> ?_)
   ·
    have e3:((z0X n):Int)=(z1B false n.attrs 0):=by
     (try rw[z4u false n.attrs _ 0 rfl] at*)
     unfold z0X
     (repeat' split)<;>first|rfl|omega| (exfalso;omega)| (simp_all;done)| (exfalso;simp_all;done)| (exfalso;simp_all;omega)|grind
    exact .finE [.r []] [] (fun z0:Int=>(VI z0,[])) _ _ e3
   ·
    refine .bp [.r [(2,X (Xc0 (z8l n.kind) X0)),(5,Xv 1 (!(z1o n.kind)) X0),(6,Xv 1 (!(z1o n.kind)) (Xc0 (y5U n.kind) X0)),(7,X (Xk' (z1o n.kind))),(10,X (Xc0 (y1l n.kind) X0))],.r [(4,Xv 1 (!((z1o n.kind)|| (z3V n.kind))) X0),(5,Xv 1 (!((z1o n.kind)|| (z3V n.kind))) (Xl z0c n.flow)),(6,Xv 1 (!((z1o n.kind)|| (z3V n.kind))) X0),(7,X (Xk (!((z1o n.kind)|| (z3V n.kind))))),(10,Xv 1 (!(!((z1o n.kind)|| (z3V n.kind))&&decide ((n.flow.length:Int)> 0))) X0),(11,Xv 1 (!(!((z1o n.kind)|| (z3V n.kind))&&decide ((n.flow.length:Int)> 0))) X0),(13,Xv 1 ((!(!((z1o n.kind)|| (z3V n.kind))&&decide ((n.flow.length:Int)> 0)))&&(!(z3W n.kind))) X0),(15,Xv 2 ((!(!((z1o n.kind)|| (z3V n.kind))&&decide ((n.flow.length:Int)> 0)))&&(!(z3W n.kind))) (Xc0 (y3a n.grid) X0)),(16,Xv 1 ((!(!((z1o n.kind)|| (z3V n.kind))&&decide ((n.flow.length:Int)> 0)))&&(!(z3W n.kind))) X0),(17,Xka (!(!((z1o n.kind)|| (z3V n.kind))&&decide ((n.flow.length:Int)> 0))) (!(z3W n.kind))),(18,X (Xk' (!((z1o n.kind)|| (z3V n.kind))&&decide ((n.flow.length:Int)> 0)))),(21,Xv 1 (!((!((z1o n.kind)|| (z3V n.kind))&&decide ((n.flow.length:Int)> 0))|| (!(z3W n.kind)&& !(z3x n.grid)))) X0),(22,Xv 1 (!((!((z1o n.kind)|| (z3V n.kind))&&decide ((n.flow.length:Int)> 0))|| (!(z3W n.kind)&& !(z3x n.grid)))) (Xc0 (y5V n.kind) X0)),(23,Xv 1 (!((!((z1o n.kind)|| (z3V n.kind))&&decide ((n.flow.length:Int)> 0))|| (!(z3W n.kind)&& !(z3x n.grid)))) X0),(24,Xv 1 (!((!((z1o n.kind)|| (z3V n.kind))&&decide ((n.flow.length:Int)> 0))|| (!(z3W n.kind)&& !(z3x n.grid)))) X0),(26,Xv 1 ((!((!((z1o n.kind)|| (z3V n.kind))&&decide ((n.flow.length:Int)> 0))|| (!(z3W n.kind)&& !(z3x n.grid))))&&(!(y0c n.kind))) X0),(27,Xv 1 ((!((!((z1o n.kind)|| (z3V n.kind))&&decide ((n.flow.length:Int)> 0))|| (!(z3W n.kind)&& !(z3x n.grid))))&&(!(y0c n.kind))) (Xl z0R n.draw)),(28,Xv 1 ((!((!((z1o n.kind)|| (z3V n.kind))&&decide ((n.flow.length:Int)> 0))|| (!(z3W n.kind)&& !(z3x n.grid))))&&(!(y0c n.kind))) X0),(29,Xka (!((!((z1o n.kind)|| (z3V n.kind))&&decide ((n.flow.length:Int)> 0))|| (!(z3W n.kind)&& !(z3x n.grid)))) (!(y0c n.kind))),(30,X (Xk' ((!((z1o n.kind)|| (z3V n.kind))&&decide ((n.flow.length:Int)> 0))|| (!(z3W n.kind)&& !(z3x n.grid)))))]] (((!((z1o n.kind)|| (z3V n.kind))&&decide ((n.flow.length:Int)> 0))|| (!(z3W n.kind)&& !(z3x n.grid)))|| (!(y0c n.kind)&&decide ((n.draw.length:Int)> 0))) (fun h9=> ?_) (fun h9=> ?_)
    ·
     have e4:((z0X n):Int)=4:=by
      (try rw[z4u false n.attrs _ 0 rfl] at*)
      unfold z0X
      (repeat' split)<;>first|rfl|omega| (exfalso;omega)| (simp_all;done)| (exfalso;simp_all;done)| (exfalso;simp_all;omega)|grind
     exact .finE [.r []] [] (fun z0:Int=>(VI z0,[])) _ _ e4
    ·
     refine .bp [.r []] ((z1o n.kind)|| (z3V n.kind)) (fun h11=> ?_) (fun h11=> ?_)
     ·
      have e5:((z0X n):Int)=(z6T (z1o n.kind) n.flow):=by
       (try rw[z4u false n.attrs _ 0 rfl] at*)
       unfold z0X
       (repeat' split)<;>first|rfl|omega| (exfalso;omega)| (simp_all;done)| (exfalso;simp_all;done)| (exfalso;simp_all;omega)|grind
      exact .finE [.r [(4,X (Xc0 (z8l n.kind) X0)),(5,X (Xc0 (y1m n.flow (z1o n.kind)) X0))]] [] (fun z0:Int=>(VI z0,[])) _ _ e5
     ·
      refine .bp [.r []] (z3W n.kind) (fun h13=> ?_) (fun h13=> ?_)
      ·
       refine .bp [.r [(2,X (Xc0 (y2W n.grid (by assumption) (by assumption)) X0))],.r []] ((z18 n.grid) !=0) (fun h15=> ?_) (fun h15=> ?_)
       ·
        have e6:((z0X n):Int)=(z18 n.grid):=by
         (try rw[z4u false n.attrs _ 0 rfl] at*)
         unfold z0X
         (repeat' split)<;>first|rfl|omega| (exfalso;omega)| (simp_all;done)| (exfalso;simp_all;done)| (exfalso;simp_all;omega)|grind
        exact .finE [.r []] [] (fun z0:Int=>(VI z0,[])) _ _ e6
       ·
        have e7:((z0X n):Int)=(z2V n.kind n.grid.cells 0):=by
         (try rw[z4u false n.attrs _ 0 rfl] at*)
         unfold z0X
         (repeat' split)<;>first|rfl|omega| (exfalso;omega)| (simp_all;done)| (exfalso;simp_all;done)| (exfalso;simp_all;omega)|grind
        exact .finE [.r [(5,X (Xc0 (y23 n.kind n.grid.cells) X0))]] [] (fun z0:Int=>(VI z0,[])) _ _ e7
      ·
       have e8:((z0X n):Int)=(z2E n.draw 0):=by
        (try rw[z4u false n.attrs _ 0 rfl] at*)
        unfold z0X
        (repeat' split)<;>first|rfl|omega| (exfalso;omega)| (simp_all;done)| (exfalso;simp_all;done)| (exfalso;simp_all;omega)|grind
       exact .finE [.r [(2,X (Xc0 (y2V n.draw) X0))]] [] (fun z0:Int=>(VI z0,[])) _ _ e8
theorem z5y(d:Doc)(hb:DocL d):FC Tryz.prog 19 [.t (z20 d)] (app emp []) (VI (z1N d)) (app emp []):=by
 refine .go Tryz.f19 ?_
 have hl:=hb.len
 refine .bp [.r [],.r [(2,X (Xl z0i d.nodes))]] ((d.nodes.length:Int)==0) (fun h1=> ?_) (fun h1=> ?_)
 ·
  have e1:((z1N d):Int)=11:=by
   exact y0f (by omega)
  exact .finE [.r []] [] (fun z0:Int=>(VI z0,[])) _ _ e1
 ·
  refine .loop (α:=Nat) [.r [(2,X (Xl z0i d.nodes))]] 80 (fun i=>([(1,.ptr 0 0),(14,VL 9 z0i d.nodes),(15,VI (d.nodes.length:Int)),(16,VI (i:Int))],[(0,.box [VL 9 z0i d.nodes])])) (fun i=>i<=d.nodes.length/\z1P d.nodes 0=z1P d.nodes i) (fun i=>d.nodes.length-i) (0:Nat) ?_ ?_
  ·
   exact⟨by omega,rfl⟩
  rintro i I4 ih4
  try dsimp only at I4
  refine .bp [.r []] (decide ((i:Int)< (d.nodes.length:Int))) (fun h4=> ?_) (fun h4=> ?_)
  ·
   have hn:=hb.lite _ (z4d (l:=d.nodes) (i:=i) (by omega))
   refine .bp [.r [(1,X (Xi z0i d.nodes (i:Int)))],.r [(1,X (Xc0 (z9b ((d.nodes.getD i default)) (by assumption)) X0))],.r []] ((z0X ((d.nodes.getD i default))) !=0) (fun h7=> ?_) (fun h7=> ?_)
   ·
    have e2:((z1N d):Int)=(z0X ((d.nodes.getD i default))):=by
     exact y20 (by omega) (I4.2.trans (y7z (by omega) h7)) h7
    exact .finE [.r []] [] (fun z0:Int=>(VI z0,[])) _ _ e2
   ·
    refine .bp [.r [(4,Xv 1 ((i:Int)==0) X0),(5,Xv 1 ((i:Int)==0) X0),(6,X (Xk ((i:Int)==0))),(9,Xv 1 (!(((i:Int)==0)&&((((d.nodes.getD i default)).id) !=1))) X0),(10,Xv 1 (!(((i:Int)==0)&&((((d.nodes.getD i default)).id) !=1))) X0),(12,Xv 1 ((!(((i:Int)==0)&&((((d.nodes.getD i default)).id) !=1)))&&(decide ((i:Int)> 0))) X0),(14,Xv 1 ((!(((i:Int)==0)&&((((d.nodes.getD i default)).id) !=1)))&&(decide ((i:Int)> 0))) X0),(16,Xv 1 ((!(((i:Int)==0)&&((((d.nodes.getD i default)).id) !=1)))&&(decide ((i:Int)> 0))) (Xn ((i:Int)- 1))),(17,Xv 2 ((!(((i:Int)==0)&&((((d.nodes.getD i default)).id) !=1)))&&(decide ((i:Int)> 0))) (Xi' z0i d.nodes ((i:Int)- 1) (i- 1))),(18,Xv 1 ((!(((i:Int)==0)&&((((d.nodes.getD i default)).id) !=1)))&&(decide ((i:Int)> 0))) X0),(19,Xv 1 ((!(((i:Int)==0)&&((((d.nodes.getD i default)).id) !=1)))&&(decide ((i:Int)> 0))) X0),(20,Xv 2 ((!(((i:Int)==0)&&((((d.nodes.getD i default)).id) !=1)))&&(decide ((i:Int)> 0))) X0),(21,Xka (!(((i:Int)==0)&&((((d.nodes.getD i default)).id) !=1))) (decide ((i:Int)> 0))),(22,X (Xk' (((i:Int)==0)&&((((d.nodes.getD i default)).id) !=1))))]] ((((i:Int)==0)&&((((d.nodes.getD i default)).id) !=1))|| (decide ((i:Int)> 0)&&decide ((((d.nodes.getD i default)).id)<=(((d.nodes.getD (i- 1) default)).id)))) (fun h9=> ?_) (fun h9=> ?_)
    ·
     have e3:((z1N d):Int)=5:=by
      exact y20 (by omega) (I4.2.trans (y7A (by omega) h7 (by rcases h9 with q|q;(left;obtain⟨q1,q2⟩:=q;have q3:i=0:=(by omega);subst q3;exact⟨rfl,q2⟩);(right;omega)))) (by decide)
     exact .finE [.r []] [] (fun z0:Int=>(VI z0,[])) _ _ e3
    ·
     refine .back [.r [(0,X (Xn ((i:Int)+1)))]] [(0,0)] (ih4 ((i+1):Nat) ?_ ?_)
     ·
      exact⟨by omega,I4.2.trans (y4x (by omega) h7 (by rintro(⟨q1,q2⟩|q);(subst q1;rcases h9.1 with q|q;(exact q rfl);(exact q2 q));(rcases h9.2 with q3|q3<;>omega)))⟩
     ·
      ((try dsimp only);omega)
  ·
   refine .loop (α:=Nat) [.r [(2,X (Xl z0i d.nodes))]] 120 (fun j=>([(1,.ptr 0 0),(51,VL 9 z0i d.nodes),(52,VI (d.nodes.length:Int)),(53,VI (j:Int))],[(0,.box [VL 9 z0i d.nodes])])) (fun j=>j<=d.nodes.length/\z1t d.nodes 0=z1t d.nodes j) (fun j=>d.nodes.length-j) (0:Nat) ?_ ?_
   ·
    exact⟨by omega,rfl⟩
   rintro j I13 ih13
   try dsimp only at I13
   refine .bp [.r []] (decide ((j:Int)< (d.nodes.length:Int))) (fun h13=> ?_) (fun h13=> ?_)
   ·
    have hn:=hb.all _ (z4d (l:=d.nodes) (i:=j) (by omega))
    have hs:=y4z (I4.2.trans (z7t (by omega)))
    refine .bp [.r [(0,X (Xi z0i d.nodes (j:Int)))],.r [(4,X (Xc1 192 (y22 ((d.nodes.getD j default)) (by assumption)) X0)),(5,X (Xc0 (z6X d (((d.nodes.getD j default)).kind) (z2x ((d.nodes.getD j default))) (by assumption) (by assumption)) X0))],.r []] ((z1c (d).nodes (((d.nodes.getD j default)).kind) (z2x ((d.nodes.getD j default))) 0) !=0) (fun h16=> ?_) (fun h16=> ?_)
    ·
     have e4:((z1N d):Int)=(z1c (d).nodes (((d.nodes.getD j default)).kind) (z2x ((d.nodes.getD j default))) 0):=by
      exact y21 (by omega) (I4.2.trans (z7t (by omega))) (I13.2.trans (x2n (by omega) h16))
     exact .finE [.r []] [] (fun z0:Int=>(VI z0,[])) _ _ e4
    ·
     refine .back [.r [(0,X (Xn ((j:Int)+1)))]] [(0,0)] (ih13 ((j+1):Nat) ?_ ?_)
     ·
      exact⟨by omega,I13.2.trans (y9A (by omega) h16)⟩
     ·
      ((try dsimp only);omega)
   ·
    have e5:((z1N d):Int)=0:=by
     exact y21 (by omega) (I4.2.trans (z7t (by omega))) (I13.2.trans (x2o (by omega)))
    exact .finE [.r []] [] (fun z0:Int=>(VI z0,[])) _ _ e5
end Go.Ch
end
section
namespace Go.Ch
open Go Go.Ab
theorem z4z{α:Type}[Inhabited α]{l:List α}{i n:Nat}{z x:α}(hn:n=l.length)(hi:i<n)(hx:x=l.getD i default):(l.take i++List.replicate (n-i) z).set i x=l.take (i+1)++List.replicate (n- (i+1)) z:=by
 subst hn
 have h1:(l.take i).length=i:=by simp;omega
 rw[List.set_append,if_neg (by omega),h1,Nat.sub_self,show l.length-i=(l.length- (i+1))+1 by omega,qK,List.set_cons_zero,qz hi,hx,qO]
 simp only[List.getD,qb hi,zC]
 rfl
theorem y1p{α:Type}[Inhabited α]{l:List α}{i:Nat}{x:α}(hx:x=l.getD i default):l.set i x=l:=by
 subst hx
 by_cases h:i<l.length
 ·rw[qe,qb h];simp
 ·rw[List.set_eq_of_length_le (by omega)]
end Go.Ch
end
section
set_option maxRecDepth 100000
set_option maxHeartbeats 4000000
open Go Go.Proofs Go.Ab
namespace Go.Ch
theorem y6b(l:List Elem)(hn:l.length<=1048576)(hs:∀x∈l,x.attrs.length<=1048576):FC Tryz.prog 82 [VL 3 z0c l] (app emp []) (VL 3 z0c l) (app emp []):=by
 refine .go Tryz.f82 ?_
 refine .len 0 (fun hl0=> ?_)
 refine .loop (α:=Nat×(List Elem)) [.r [],.r [(1,X (Xl z0c l)),(2,X (Xmz 3 z0c 24 (l.length:Int) (l.length:Int) ({char:=0,ref:=0,attrs:=[]}:Elem) [TI 0,TI 0,TN] ⟨.inl rfl,⟨.inl rfl,⟨z02 (by decide),trivial⟩⟩⟩))],.r [(1,X (Xl z0c l))]] 64 (fun(i,o)=>([(3,.row 24 l.length),(9,VL 3 z0c l),(10,VI (l.length:Int)),(11,VI (i:Int))],[(24,OR 3 z0c o)])) (fun(i,o)=>i<=l.length/\o=l.take i++List.replicate (l.length-i) ({char:=0,ref:=0,attrs:=[]}:Elem)) (fun(i,o)=>l.length-i) (0,(List.replicate l.length ({char:=0,ref:=0,attrs:=[]}:Elem))) ?_ ?_
 ·
  exact⟨by omega,by simp⟩
 rintro⟨i,o⟩ I3 ih3
 try dsimp only at I3
 have ol:o.length=l.length:=by rw[I3.2];simp;omega
 refine .bp [.r []] (decide ((i:Int)< (l.length:Int))) (fun h3=> ?_) (fun h3=> ?_)
 ·
  have hx:=hs _ (z49 (l:=l) (k:=i) (by omega))
  refine .back [.r [(1,X (Xi z0c l (i:Int)))],.r [(8,X (Xan z0a 184 (((l.getD i default)).attrs))),(10,X (Xpn l.length z0c o (i:Int))),(11,X (z0Y z0a (((l.getD i default)).attrs) (Xsn l.length 3 z0c 24 o i ((l.getD i default)) [(184,OF 2 z0a (((l.getD i default)).attrs))])))],.r [(0,X (Xn ((i:Int)+1)))]] [(24,24)] (ih3 ((i+1),(o.set i ((l.getD i default)))) ?_ ?_)
  ·
   refine⟨by omega,?_⟩
   rw[I3.2]
   exact z4z rfl (by omega) rfl
  ·
   ((try dsimp only);omega)
 ·
  have e1:(l:List Elem)=o:=by
   rw[I3.2,qp (by omega),show l.length-i=0 by omega];simp
  exact .finE [.r [],.le (.fr 2 [(l.length:Nat)=(List.map z0c o).length] ⟨lm,trivial⟩)] [] (fun z0:List Elem=>(VL 3 z0c z0,[])) _ _ e1
theorem z6Z(n:Node)(hb:NodeB n):FC Tryz.prog 47 [.t (z0i n)] (app emp []) (.t (z0i n)) (app emp []):=by
 refine .go Tryz.f47 ?_
 have b1:=hb.at2
 have b2:=hb.fl2
 have b3:=hb.fl3
 have b4:=hb.ce2
 have b5:=hb.me
 have b6:=hb.dr1
 refine .loop (α:=Nat×(List Cell)) [.r [],.r [(2,X (Xan z0a 32 n.attrs))],.r [(2,X (Xc1 72 (y6b n.flow (by assumption) (by assumption)) X0))],.r [(2,X (Xan z0R 112 n.draw))],.r [],.r [(2,X (Xan z0t 184 n.grid.merges))],.r [(2,X (Xan z0k 224 n.grid.cells))],.r []] 280 (fun(i,o)=>([(1,.ptr 0 0),(2,.ptr 8 0),(3,.ptr 152 0),(29,.row 224 o.length),(30,VI (n.grid.cells.length:Int)),(31,VI (i:Int))],[(0,.box [VI n.id,VI n.kind,.row 32 n.attrs.length,VL 3 z0c n.flow,VI n.grid.rows,VI n.grid.cols,VL 5 z0k n.grid.cells,VL 4 z0t n.grid.merges,.row 112 n.draw.length]),(8,.box [VI 0,VI 0,VN,VN,VI 0,VI 0,VN,VN,VN]),(32,OR 2 z0a n.attrs),(112,OR 8 z0R n.draw),(152,.box [VI n.grid.rows,VI n.grid.cols,.row 224 o.length,.row 184 n.grid.merges.length]),(184,OR 4 z0t n.grid.merges),(224,OR 5 z0k o)])) (fun(i,o)=>i<=n.grid.cells.length/\o=n.grid.cells) (fun(i,o)=>n.grid.cells.length-i) (0,n.grid.cells) ?_ ?_
 ·
  exact⟨by omega,rfl⟩
 rintro⟨i,o⟩ I8 ih8
 try dsimp only at I8
 have ol:o.length=n.grid.cells.length:=by rw[I8.2]
 refine .bp [.r []] (decide ((i:Int)< (n.grid.cells.length:Int))) (fun h8=> ?_) (fun h8=> ?_)
 ·
  have hc:=hb.ce3 (o.getD i default) (by rw[I8.2];exact z0j (by omega))
  refine .back [.r [(1,X (Xp z0k o (i:Int))),(2,X (Xe z0k o i))],.r [(5,X (Xan z0a 376 (((o.getD i default)).attrs))),(6,X (Xp z0k o (i:Int))),(8,X (z0Y z0a (((o.getD i default)).attrs) (Xs 5 z0k 224 o i ((o.getD i default)) [(376,OF 2 z0a (((o.getD i default)).attrs))])))],.r [(0,X (Xn ((i:Int)+1)))],.le (.eq 29 (.row 224 o.length) (.row 224 ((o.set i ((o.getD i default))).length)) (.of_eq (by simp only[zn]))),.le (.eb 152 2 (.row 224 o.length) (.row 224 ((o.set i ((o.getD i default))).length)) (by simp only[zn]))] [(0,0),(8,8),(32,32),(112,112),(152,152),(184,184),(224,224)] (ih8 ((i+1),(o.set i ((o.getD i default)))) ?_ ?_)
  ·
   refine⟨by omega,?_⟩
   rw[I8.2];exact y1p rfl
  ·
   ((try dsimp only);omega)
 ·
  have e1:(n:Node)=({id:=n.id,kind:=n.kind,attrs:=n.attrs,flow:=n.flow,grid:=({rows:=n.grid.rows,cols:=n.grid.cols,cells:=o,merges:=n.grid.merges}:Grid),draw:=n.draw}:Node):=by
   rw[I8.2]
  exact .finVE [.r [],.r []] [.fR 0 [(n.attrs.length:Nat)=(List.map z0a n.attrs).length,(o.length:Nat)=(List.map z0k o).length,(n.grid.merges.length:Nat)=(List.map z0t n.grid.merges).length,(n.draw.length:Nat)=(List.map z0R n.draw).length] ⟨lm,lm,lm,lm,trivial⟩] [] (fun z0:Node=>(.t (z0i z0),[])) _ _ e1
theorem y9L(d:Doc)(hb:DocB d):FC Tryz.prog 20 [.t (z20 d)] (app emp []) (.agg [.row 1 d.nodes.length]) (app emp [(0,.box [.row 1 d.nodes.length]),(1,OR 9 z0i d.nodes)]):=by
 refine .go Tryz.f20 ?_
 have hl:=hb.len
 refine .loop (α:=Nat×(List Node)) [.r [],.r [(2,X (Xl z0i d.nodes)),(3,X (Xmz 9 z0i 40 (d.nodes.length:Int) (d.nodes.length:Int) ({id:=0,kind:=0,attrs:=[],flow:=[],grid:=({rows:=0,cols:=0,cells:=[],merges:=[]}:Grid),draw:=[]}:Node) [TI 0,TI 0,TN,TN,TI 0,TI 0,TN,TN,TN] ⟨.inl rfl,⟨.inl rfl,⟨z02 (by decide),⟨z02 (by decide),⟨.inl rfl,⟨.inl rfl,⟨z02 (by decide),⟨z02 (by decide),⟨z02 (by decide),trivial⟩⟩⟩⟩⟩⟩⟩⟩⟩))],.r [(2,X (Xl z0i d.nodes))],.le (.eb 56 0 (.row 40 d.nodes.length) (.row 40 ((List.replicate d.nodes.length ({id:=0,kind:=0,attrs:=[],flow:=[],grid:=({rows:=0,cols:=0,cells:=[],merges:=[]}:Grid),draw:=[]}:Node)).length)) (by simp only[zx]))] 104 (fun(i,o)=>([(2,.ptr 8 0),(3,.ptr 56 0),(12,VL 9 z0i d.nodes),(13,VI (d.nodes.length:Int)),(14,VI (i:Int))],[(8,.box [VN]),(40,OR 9 z0i o),(56,.box [.row 40 o.length])])) (fun(i,o)=>i<=d.nodes.length/\o=d.nodes.take i++List.replicate (d.nodes.length-i) ({id:=0,kind:=0,attrs:=[],flow:=[],grid:=({rows:=0,cols:=0,cells:=[],merges:=[]}:Grid),draw:=[]}:Node)) (fun(i,o)=>d.nodes.length-i) (0,(List.replicate d.nodes.length ({id:=0,kind:=0,attrs:=[],flow:=[],grid:=({rows:=0,cols:=0,cells:=[],merges:=[]}:Grid),draw:=[]}:Node))) ?_ ?_
 ·
  exact⟨by omega,by simp⟩
 rintro⟨i,o⟩ I3 ih3
 try dsimp only at I3
 have ol:o.length=d.nodes.length:=by rw[I3.2];simp;omega
 refine .bp [.r []] (decide ((i:Int)< (d.nodes.length:Int))) (fun h3=> ?_) (fun h3=> ?_)
 ·
  have hx:=hb.all _ (z4d (l:=d.nodes) (i:=i) (by omega))
  refine .back [.r [(1,X (Xi z0i d.nodes (i:Int)))],.r [(4,X (Xc1 192 (z6Z ((d.nodes.getD i default)) (by assumption)) X0)),(5,X (Xp z0i o (i:Int))),(6,X (Xs 9 z0i 40 o i (((d.nodes.getD i default)))))],.r [(0,X (Xn ((i:Int)+1)))],.le (.eb 56 0 (.row 40 o.length) (.row 40 ((o.set i (((d.nodes.getD i default)))).length)) (by simp only[zn]))] [(8,8),(40,40),(56,56)] (ih3 ((i+1),(o.set i (((d.nodes.getD i default))))) ?_ ?_)
  ·
   refine⟨by omega,?_⟩
   rw[I3.2]
   exact z4z rfl (by omega) rfl
  ·
   ((try dsimp only);omega)
 ·
  have e1:(d.nodes.length:Nat)=o.length:=by
   first|omega| (rw[I3.2,qp (by omega),show d.nodes.length-i=0 by omega];simp)
  have e2:(d.nodes:List Node)=o:=by
   first|omega| (rw[I3.2,qp (by omega),show d.nodes.length-i=0 by omega];simp)
  exact .finE [.r []] [(8,0),(40,1)] (fun((z0,z1):Nat×(List Node))=>(.agg [.row 1 z0],[(0,.box [.row 1 z0]),(1,OR 9 z0i z1)])) _ _ (pr e1 e2)
theorem y9M(l:List Elem)(hn:l.length<=1000000000000)(hs:AN 400000000000 l):FC Tryz.prog 82 [VL 3 z0c l] (app emp []) (VL 3 z0c l) (app emp []):=by
 refine .go Tryz.f82 ?_
 refine .len 0 (fun hl0=> ?_)
 refine .loop (α:=Nat×(List Elem)) [.r [],.r [(1,X (Xl z0c l)),(2,X (Xmz 3 z0c 24 (l.length:Int) (l.length:Int) ({char:=0,ref:=0,attrs:=[]}:Elem) [TI 0,TI 0,TN] ⟨.inl rfl,⟨.inl rfl,⟨z02 (by decide),trivial⟩⟩⟩))],.r [(1,X (Xl z0c l))]] 64 (fun(i,o)=>([(3,.row 24 l.length),(9,VL 3 z0c l),(10,VI (l.length:Int)),(11,VI (i:Int))],[(24,OR 3 z0c o)])) (fun(i,o)=>i<=l.length/\o=l.take i++List.replicate (l.length-i) ({char:=0,ref:=0,attrs:=[]}:Elem)) (fun(i,o)=>l.length-i) (0,(List.replicate l.length ({char:=0,ref:=0,attrs:=[]}:Elem))) ?_ ?_
 ·
  exact⟨by omega,by simp⟩
 rintro⟨i,o⟩ I3 ih3
 try dsimp only at I3
 have ol:o.length=l.length:=by rw[I3.2];simp;omega
 refine .bp [.r []] (decide ((i:Int)< (l.length:Int))) (fun h3=> ?_) (fun h3=> ?_)
 ·
  have hx:=hs _ (z49 (l:=l) (k:=i) (by omega))
  refine .back [.r [(1,X (Xi z0c l (i:Int)))],.r [(8,X (Xan z0a 184 (((l.getD i default)).attrs))),(10,X (Xpn l.length z0c o (i:Int))),(11,X (z0Y z0a (((l.getD i default)).attrs) (Xsn l.length 3 z0c 24 o i ((l.getD i default)) [(184,OF 2 z0a (((l.getD i default)).attrs))])))],.r [(0,X (Xn ((i:Int)+1)))]] [(24,24)] (ih3 ((i+1),(o.set i ((l.getD i default)))) ?_ ?_)
  ·
   refine⟨by omega,?_⟩
   rw[I3.2]
   exact z4z rfl (by omega) rfl
  ·
   ((try dsimp only);omega)
 ·
  have e1:(l:List Elem)=o:=by
   rw[I3.2,qp (by omega),show l.length-i=0 by omega];simp
  exact .finE [.r [],.le (.fr 2 [(l.length:Nat)=(List.map z0c o).length] ⟨lm,trivial⟩)] [] (fun z0:List Elem=>(VL 3 z0c z0,[])) _ _ e1
theorem x2u{l:List Elem}{i:Nat}{z:Elem}{f:Elem->Elem}(hi:i<l.length){y:Elem}(hy:y=f (l.getD i default)):((l.take i).map f++List.replicate (l.length-i) z).set i y=(l.take (i+1)).map f++List.replicate (l.length- (i+1)) z:=by
 have h1:((l.take i).map f).length=i:=by simp;omega
 rw[List.set_append,if_neg (by omega),h1,Nat.sub_self,show l.length-i=(l.length- (i+1))+1 by omega,qK,List.set_cons_zero,qz hi,hy,zj,qO]
 simp only[List.getD,qb hi,zC]
 rfl
theorem y0j(l:List Elem)(c:List Attr)(hn:l.length<=1000000000000)(hs:∀x∈l,x.attrs.length+c.length<1099511627776):FC Tryz.prog 170 [VL 3 z0c l,VL 2 z0a c] (app emp []) (VL 3 z0c (List.map (z7d c) l)) (app emp []):=by
 refine .go Tryz.f170 ?_
 refine .len 0 (fun hl0=> ?_)
 refine .len 1 (fun hl1=> ?_)
 refine .loop (α:=Nat×(List Elem)) [.r [],.r [(1,X (Xl z0c l)),(2,X (Xmz 3 z0c 24 (l.length:Int) (l.length:Int) ({char:=0,ref:=0,attrs:=[]}:Elem) [TI 0,TI 0,TN] ⟨.inl rfl,⟨.inl rfl,⟨z02 (by decide),trivial⟩⟩⟩))],.r [(1,X (Xl z0c l))]] 64 (fun(i,o)=>([(1,VL 2 z0a c),(5,.row 24 l.length),(11,VL 3 z0c l),(12,VI (l.length:Int)),(13,VI (i:Int))],[(24,OR 3 z0c o)])) (fun(i,o)=>i<=l.length/\o=(l.take i).map (z7d c)++List.replicate (l.length-i) ({char:=0,ref:=0,attrs:=[]}:Elem)) (fun(i,o)=>l.length-i) (0,(List.replicate l.length ({char:=0,ref:=0,attrs:=[]}:Elem))) ?_ ?_
 ·
  exact⟨by omega,by simp⟩
 rintro⟨i,o⟩ I3 ih3
 try dsimp only at I3
 have ol:o.length=l.length:=by rw[I3.2];simp;omega
 refine .bp [.r []] (decide ((i:Int)< (l.length:Int))) (fun h3=> ?_) (fun h3=> ?_)
 ·
  have hx:=hs _ (z49 (l:=l) (k:=i) (by omega))
  refine .back [.r [(1,X (Xi z0c l (i:Int)))],.r [(3,X (Xc1 144 (z81 (((l.getD i default)).attrs) c (by omega)) X0))],.r [(3,X (Xpn l.length z0c o (i:Int))),(4,X (Xsn l.length 3 z0c 24 o i ({char:=((l.getD i default)).char,ref:=((l.getD i default)).ref,attrs:=(fm z2e (((l.getD i default)).attrs) c)}:Elem)))],.r [(0,X (Xn ((i:Int)+1)))]] [(24,24)] (ih3 ((i+1),(o.set i ({char:=((l.getD i default)).char,ref:=((l.getD i default)).ref,attrs:=(fm z2e (((l.getD i default)).attrs) c)}:Elem))) ?_ ?_)
  ·
   refine⟨by omega,?_⟩
   rw[I3.2]
   exact x2u (by omega) rfl
  ·
   ((try dsimp only);omega)
 ·
  have e1:((List.map (z7d c) l):List Elem)=o:=by
   rw[I3.2,qp (by omega),show l.length-i=0 by omega];simp
  exact .finE [.r [],.le (.fr 4 [(l.length:Nat)=(List.map z0c o).length] ⟨lm,trivial⟩)] [] (fun z0:List Elem=>(VL 3 z0c z0,[])) _ _ e1
def ltr(s:ByteArray)(i:Nat):Elem:=⟨(byt s i:Int),0,[]⟩
def z60(s:ByteArray):List Elem:=(List.range s.size).map (ltr s)
theorem y9N(x:DStep):FC Tryz.prog 139 [.t (z0d x)] (app emp []) (VI (z0Q x)) (app emp []):=by
 refine .go Tryz.f139 ?_
 refine .bp [.r [],.r [],.r []] (x.kind==0) (fun h2=> ?_) (fun h2=> ?_)
 ·
  refine .bp [] (x.kind==0) (fun h2=> ?_) (fun h2=> ?_)
  ·
   refine .bp [.r [(2,X (Xl z0c x.elems)),(6,Xv 1 (!(decide ((x.elems.length:Int)> 0))) X0),(7,Xv 1 (!(decide ((x.elems.length:Int)> 0))) X0),(8,Xv 1 (!(decide ((x.elems.length:Int)> 0))) X0),(10,Xv 1 ((!(decide ((x.elems.length:Int)> 0)))&&(x.kind==2)) X0),(11,Xv 1 ((!(decide ((x.elems.length:Int)> 0)))&&(x.kind==2)) (Xl z0a x.attrs)),(12,Xv 1 ((!(decide ((x.elems.length:Int)> 0)))&&(x.kind==2)) X0),(13,Xka (!(decide ((x.elems.length:Int)> 0))) (x.kind==2)),(14,X (Xk' (decide ((x.elems.length:Int)> 0))))]] (decide ((x.elems.length:Int)> 0)|| ((x.kind==2)&&decide ((x.attrs.length:Int)> 0))) (fun h4=> ?_) (fun h4=> ?_)
   ·
    have e1:((z0Q x):Int)=4:=by
     unfold z0Q;((repeat' split)<;>first|rfl|omega| (simp_all;done)| (simp_all;omega))
    exact .finE [.r []] [] (fun z0:Int=>(VI z0,[])) _ _ e1
   ·
    refine .bp [.r [(5,Xv 1 (!(decide (x.n<1))) X0),(6,Xv 1 (!(decide (x.n<1))) X0),(7,X (Xk' (decide (x.n<1))))]] (decide (x.n<1)||decide (x.n>2147483647)) (fun h6=> ?_) (fun h6=> ?_)
    ·
     have e2:((z0Q x):Int)=2:=by
      unfold z0Q;((repeat' split)<;>first|rfl|omega| (simp_all;done)| (simp_all;omega))
     exact .finE [.r []] [] (fun z0:Int=>(VI z0,[])) _ _ e2
    ·
     have e3:((z0Q x):Int)=(z1B true x.attrs 0):=by
      unfold z0Q;((repeat' split)<;>first|rfl|omega| (simp_all;done)| (simp_all;omega))
     exact .finE [.r [(2,X (Xc0 (z03 x.attrs) X0))]] [] (fun z0:Int=>(VI z0,[])) _ _ e3
  ·
   refine .bp [.r []] (x.kind==1) (fun h9=> ?_) (fun h9=> ?_)
   ·
    refine .bp [.r [(5,Xv 1 (!(x.n !=0)) X0),(6,Xv 1 (!(x.n !=0)) (Xl z0a x.attrs)),(7,Xv 1 (!(x.n !=0)) X0),(8,X (Xk' (x.n !=0)))]] ((x.n !=0)||decide ((x.attrs.length:Int)> 0)) (fun h10=> ?_) (fun h10=> ?_)
    ·
     have e4:((z0Q x):Int)=4:=by
      unfold z0Q;((repeat' split)<;>first|rfl|omega| (simp_all;done)| (simp_all;omega))
     exact .finE [.r []] [] (fun z0:Int=>(VI z0,[])) _ _ e4
    ·
     refine .bp [.r [(2,X (Xl z0c x.elems))]] ((x.elems.length:Int)==0) (fun h12=> ?_) (fun h12=> ?_)
     ·
      have e5:((z0Q x):Int)=11:=by
       unfold z0Q;((repeat' split)<;>first|rfl|omega| (simp_all;done)| (simp_all;omega))
      exact .finE [.r []] [] (fun z0:Int=>(VI z0,[])) _ _ e5
     ·
      have e6:((z0Q x):Int)=(z5J x.elems 0):=by
       unfold z0Q;((repeat' split)<;>first|rfl|omega| (simp_all;done)| (simp_all;omega))
      exact .finE [.r [(2,X (Xc0 (z7R x.elems) X0))]] [] (fun z0:Int=>(VI z0,[])) _ _ e6
   ·
    have e7:((z0Q x):Int)=8:=by
     unfold z0Q;((repeat' split)<;>first|rfl|omega| (simp_all;done)| (simp_all;omega))
    exact .finE [.r []] [] (fun z0:Int=>(VI z0,[])) _ _ e7
 ·
  refine .bp [.r []] (x.kind==2) (fun h3=> ?_) (fun h3=> ?_)
  ·
   refine .bp [.r [(2,X (Xl z0c x.elems)),(6,Xv 1 (!(decide ((x.elems.length:Int)> 0))) X0),(7,Xv 1 (!(decide ((x.elems.length:Int)> 0))) X0),(8,Xv 1 (!(decide ((x.elems.length:Int)> 0))) X0),(10,Xv 1 ((!(decide ((x.elems.length:Int)> 0)))&&(x.kind==2)) X0),(11,Xv 1 ((!(decide ((x.elems.length:Int)> 0)))&&(x.kind==2)) (Xl z0a x.attrs)),(12,Xv 1 ((!(decide ((x.elems.length:Int)> 0)))&&(x.kind==2)) X0),(13,Xka (!(decide ((x.elems.length:Int)> 0))) (x.kind==2)),(14,X (Xk' (decide ((x.elems.length:Int)> 0))))]] (decide ((x.elems.length:Int)> 0)|| ((x.kind==2)&&decide ((x.attrs.length:Int)> 0))) (fun h4=> ?_) (fun h4=> ?_)
   ·
    have e8:((z0Q x):Int)=4:=by
     unfold z0Q;((repeat' split)<;>first|rfl|omega| (simp_all;done)| (simp_all;omega))
    exact .finE [.r []] [] (fun z0:Int=>(VI z0,[])) _ _ e8
   ·
    refine .bp [.r [(5,Xv 1 (!(decide (x.n<1))) X0),(6,Xv 1 (!(decide (x.n<1))) X0),(7,X (Xk' (decide (x.n<1))))]] (decide (x.n<1)||decide (x.n>2147483647)) (fun h6=> ?_) (fun h6=> ?_)
    ·
     have e9:((z0Q x):Int)=2:=by
      unfold z0Q;((repeat' split)<;>first|rfl|omega| (simp_all;done)| (simp_all;omega))
     exact .finE [.r []] [] (fun z0:Int=>(VI z0,[])) _ _ e9
    ·
     have e10:((z0Q x):Int)=(z1B true x.attrs 0):=by
      unfold z0Q;((repeat' split)<;>first|rfl|omega| (simp_all;done)| (simp_all;omega))
     exact .finE [.r [(2,X (Xc0 (z03 x.attrs) X0))]] [] (fun z0:Int=>(VI z0,[])) _ _ e10
  ·
   refine .bp [.r []] (x.kind==1) (fun h9=> ?_) (fun h9=> ?_)
   ·
    refine .bp [.r [(5,Xv 1 (!(x.n !=0)) X0),(6,Xv 1 (!(x.n !=0)) (Xl z0a x.attrs)),(7,Xv 1 (!(x.n !=0)) X0),(8,X (Xk' (x.n !=0)))]] ((x.n !=0)||decide ((x.attrs.length:Int)> 0)) (fun h10=> ?_) (fun h10=> ?_)
    ·
     have e11:((z0Q x):Int)=4:=by
      unfold z0Q;((repeat' split)<;>first|rfl|omega| (simp_all;done)| (simp_all;omega))
     exact .finE [.r []] [] (fun z0:Int=>(VI z0,[])) _ _ e11
    ·
     refine .bp [.r [(2,X (Xl z0c x.elems))]] ((x.elems.length:Int)==0) (fun h12=> ?_) (fun h12=> ?_)
     ·
      have e12:((z0Q x):Int)=11:=by
       unfold z0Q;((repeat' split)<;>first|rfl|omega| (simp_all;done)| (simp_all;omega))
      exact .finE [.r []] [] (fun z0:Int=>(VI z0,[])) _ _ e12
     ·
      have e13:((z0Q x):Int)=(z5J x.elems 0):=by
       unfold z0Q;((repeat' split)<;>first|rfl|omega| (simp_all;done)| (simp_all;omega))
      exact .finE [.r [(2,X (Xc0 (z7R x.elems) X0))]] [] (fun z0:Int=>(VI z0,[])) _ _ e13
   ·
    have e14:((z0Q x):Int)=8:=by
     unfold z0Q;((repeat' split)<;>first|rfl|omega| (simp_all;done)| (simp_all;omega))
    exact .finE [.r []] [] (fun z0:Int=>(VI z0,[])) _ _ e14
theorem z4A(x:DStep):FC Tryz.prog 141 [.t (z0d x)] (app emp []) (VI (szD x)) (app emp []):=by
 refine .go Tryz.f141 ?_
 refine .bp [.r [],.r []] (x.kind==1) (fun h1=> ?_) (fun h1=> ?_)
 ·
  have e1:((szD x):Int)=(x.elems.length:Int):=by
   unfold szD;((repeat' split)<;>first|rfl|omega| (simp_all;done)| (simp_all;omega))
  exact .finE [.r [(2,X (Xl z0c x.elems))]] [] (fun z0:Int=>(VI z0,[])) _ _ e1
 ·
  have e2:((szD x):Int)=x.n:=by
   unfold szD;((repeat' split)<;>first|rfl|omega| (simp_all;done)| (simp_all;omega))
  exact .finE [.r []] [] (fun z0:Int=>(VI z0,[])) _ _ e2
theorem z2O(l:List DStep)(hd:DN 400000000000 l):FC Tryz.prog 79 [VL 4 z0d l] (app emp []) (VI (z1u l)) (app emp []):=by
 refine .go Tryz.f79 ?_
 refine .len 0 (fun hl0=> ?_)
 refine .loop (α:=Int×Int×Nat) [.r [],.r [],.r [(1,X (Xl z0d l))]] 48 (fun(b,a,i)=>([(0,VL 4 z0d l),(3,VI b),(4,VI a),(9,VL 4 z0d l),(10,VI (l.length:Int)),(11,VI (i:Int))],[])) (fun(b,a,i)=>i<=l.length/\0<=b/\b<=2147483648/\0<=a/\a<=2147483648/\z1u l=y16 l i b a) (fun(b,a,i)=>l.length-i) (0,0,0) ?_ ?_
 ·
  exact⟨by omega,by decide,by decide,by decide,by decide,rfl⟩
 rintro⟨b,a,i⟩ I3 ih3
 try dsimp only at I3
 refine .bp [.r []] (decide ((i:Int)< (l.length:Int))) (fun h3=> ?_) (fun h3=> ?_)
 ·
  refine .bp [.r [(1,X (Xi z0d l (i:Int)))],.r [(1,X (Xc0 (y9N ((l.getD i default))) X0))],.r []] ((z0Q ((l.getD i default))) !=0) (fun h6=> ?_) (fun h6=> ?_)
  ·
   have e1:((z1u l):Int)=(z0Q ((l.getD i default))):=by
    rw[I3.2.2.2.2.2,y16];((repeat' split)<;>first|rfl|omega| (simp_all;done)| (simp_all;omega))
   exact .finE [.r []] [] (fun z0:Int=>(VI z0,[])) _ _ e1
  ·
   have hz:=z1D (s:=l.getD i default) (by omega)
   obtain⟨hx,_,_⟩:=hd.at_ (k:=i) (by omega)
   refine .bp [.r []] (decide ((i:Int)> 0)) (fun h8=> ?_) (fun h8=> ?_)
   ·
    refine .bp [.r [(2,X (Xn ((i:Int)- 1))),(3,X (Xi' z0d l ((i:Int)- 1) (i- 1)))],.r [(7,Xv 1 ((((l.getD (i- 1) default)).kind)==(((l.getD i default)).kind)) X0),(8,Xv 1 ((((l.getD (i- 1) default)).kind)==(((l.getD i default)).kind)) X0),(9,Xv 1 ((((l.getD (i- 1) default)).kind)==(((l.getD i default)).kind)) X0),(11,Xv 1 (((((l.getD (i- 1) default)).kind)==(((l.getD i default)).kind))&& !((((l.getD i default)).kind) !=0)) X0),(13,Xv 1 (((((l.getD (i- 1) default)).kind)==(((l.getD i default)).kind))&& !((((l.getD i default)).kind) !=0)) X0),(14,Xv 2 (((((l.getD (i- 1) default)).kind)==(((l.getD i default)).kind))&& !((((l.getD i default)).kind) !=0)) (Xc0 (z59 (((l.getD (i- 1) default)).attrs) (((l.getD i default)).attrs)) X0)),(15,Xko ((((l.getD (i- 1) default)).kind)==(((l.getD i default)).kind)) ((((l.getD i default)).kind) !=0)),(16,X (Xk ((((l.getD (i- 1) default)).kind)==(((l.getD i default)).kind)))),(19,Xv 1 (!(((((l.getD (i- 1) default)).kind)==(((l.getD i default)).kind))&&(((((l.getD i default)).kind) !=0)|| (z0O (((l.getD (i- 1) default)).attrs) (((l.getD i default)).attrs))))) X0),(20,Xv 1 (!(((((l.getD (i- 1) default)).kind)==(((l.getD i default)).kind))&&(((((l.getD i default)).kind) !=0)|| (z0O (((l.getD (i- 1) default)).attrs) (((l.getD i default)).attrs))))) X0),(21,Xv 1 (!(((((l.getD (i- 1) default)).kind)==(((l.getD i default)).kind))&&(((((l.getD i default)).kind) !=0)|| (z0O (((l.getD (i- 1) default)).attrs) (((l.getD i default)).attrs))))) X0),(23,Xv 1 ((!(((((l.getD (i- 1) default)).kind)==(((l.getD i default)).kind))&&(((((l.getD i default)).kind) !=0)|| (z0O (((l.getD (i- 1) default)).attrs) (((l.getD i default)).attrs)))))&&((((l.getD (i- 1) default)).kind)==2)) X0),(24,Xv 1 ((!(((((l.getD (i- 1) default)).kind)==(((l.getD i default)).kind))&&(((((l.getD i default)).kind) !=0)|| (z0O (((l.getD (i- 1) default)).attrs) (((l.getD i default)).attrs)))))&&((((l.getD (i- 1) default)).kind)==2)) X0),(25,Xka (!(((((l.getD (i- 1) default)).kind)==(((l.getD i default)).kind))&&(((((l.getD i default)).kind) !=0)|| (z0O (((l.getD (i- 1) default)).attrs) (((l.getD i default)).attrs))))) ((((l.getD (i- 1) default)).kind)==2)),(26,X (Xk' (((((l.getD (i- 1) default)).kind)==(((l.getD i default)).kind))&&(((((l.getD i default)).kind) !=0)|| (z0O (((l.getD (i- 1) default)).attrs) (((l.getD i default)).attrs))))))]] ((((((l.getD (i- 1) default)).kind)==(((l.getD i default)).kind))&&(((((l.getD i default)).kind) !=0)|| (z0O (((l.getD (i- 1) default)).attrs) (((l.getD i default)).attrs))))|| (((((l.getD (i- 1) default)).kind)==2)&&((((l.getD i default)).kind)==1))) (fun h10=> ?_) (fun h10=> ?_)
    ·
     have e2:((z1u l):Int)=5:=by
      rw[I3.2.2.2.2.2,y16,if_pos (by omega),if_neg (by omega),if_pos ⟨by omega,z8m.2 h10⟩]
     exact .finE [.r []] [] (fun z0:Int=>(VI z0,[])) _ _ e2
    ·
     refine .bp [.r []] ((((l.getD i default)).kind) !=1) (fun h12=> ?_) (fun h12=> ?_)
     ·
      refine .bp [.r [(3,X (Xn (b+(((l.getD i default)).n)))),(4,X (y8h (b+(((l.getD i default)).n)) 2147483648))],.r []] ((((l.getD i default)).kind) !=2) (fun h14=> ?_) (fun h14=> ?_)
      ·
       refine .at 528 [(80,80)] ([(0,VL 4 z0d l),(3,VI (min (b+(((l.getD i default)).n)) 2147483648)),(4,VI a),(6,.ptr 80 0),(9,VL 4 z0d l),(10,VI (l.length:Int)),(11,VI (i:Int)),(65,VB ((((l.getD i default)).kind) !=2))],[(80,.box [VI (((l.getD i default)).kind),VI (((l.getD i default)).n),VL 2 z0a (((l.getD i default)).attrs),VL 3 z0c (((l.getD i default)).elems)])]) ?_
       refine .back [.r [(2,X (Xc0 (z4A ((l.getD i default))) X0)),(3,X (Xn (a+(szD ((l.getD i default)))))),(4,X (y8h (a+(szD ((l.getD i default)))) 2147483648))],.r [(0,X (Xn ((i:Int)+1)))]] [] (ih3 ((min (b+(((l.getD i default)).n)) 2147483648),(min (a+(szD ((l.getD i default)))) 2147483648),(i+1)) ?_ ?_)
       ·
        refine⟨by omega,by omega,by omega,by omega,by omega,?_⟩
        rw[I3.2.2.2.2.2,y16,if_pos (by omega),if_neg (by omega),if_neg (by first|omega|exact fun hh=>z5c h10 hh.2)]
        ((repeat' split)<;>first|rfl|omega| (simp_all;done)| (simp_all;omega))
       ·
        ((try dsimp only);omega)
      ·
       refine .at 528 [(80,80)] ([(0,VL 4 z0d l),(3,VI (min (b+(((l.getD i default)).n)) 2147483648)),(4,VI a),(6,.ptr 80 0),(9,VL 4 z0d l),(10,VI (l.length:Int)),(11,VI (i:Int)),(65,VB ((((l.getD i default)).kind) !=2))],[(80,.box [VI (((l.getD i default)).kind),VI (((l.getD i default)).n),VL 2 z0a (((l.getD i default)).attrs),VL 3 z0c (((l.getD i default)).elems)])]) ?_
       refine .back [.r [(0,X (Xn ((i:Int)+1)))]] [] (ih3 ((min (b+(((l.getD i default)).n)) 2147483648),a,(i+1)) ?_ ?_)
       ·
        refine⟨by omega,by omega,by omega,by omega,by omega,?_⟩
        rw[I3.2.2.2.2.2,y16,if_pos (by omega),if_neg (by omega),if_neg (by first|omega|exact fun hh=>z5c h10 hh.2)]
        ((repeat' split)<;>first|rfl|omega| (simp_all;done)| (simp_all;omega))
       ·
        ((try dsimp only);omega)
     ·
      refine .bp [.r []] ((((l.getD i default)).kind) !=2) (fun h14=> ?_) (fun h14=> ?_)
      ·
       refine .at 480 [(80,80)] ([(0,VL 4 z0d l),(3,VI b),(4,VI a),(6,.ptr 80 0),(9,VL 4 z0d l),(10,VI (l.length:Int)),(11,VI (i:Int)),(65,VB ((((l.getD i default)).kind) !=2))],[(80,.box [VI (((l.getD i default)).kind),VI (((l.getD i default)).n),VL 2 z0a (((l.getD i default)).attrs),VL 3 z0c (((l.getD i default)).elems)])]) ?_
       refine .back [.r [(2,X (Xc0 (z4A ((l.getD i default))) X0)),(3,X (Xn (a+(szD ((l.getD i default)))))),(4,X (y8h (a+(szD ((l.getD i default)))) 2147483648))],.r [(0,X (Xn ((i:Int)+1)))]] [] (ih3 (b,(min (a+(szD ((l.getD i default)))) 2147483648),(i+1)) ?_ ?_)
       ·
        refine⟨by omega,by omega,by omega,by omega,by omega,?_⟩
        rw[I3.2.2.2.2.2,y16,if_pos (by omega),if_neg (by omega),if_neg (by first|omega|exact fun hh=>z5c h10 hh.2)]
        ((repeat' split)<;>first|rfl|omega| (simp_all;done)| (simp_all;omega))
       ·
        ((try dsimp only);omega)
      ·
       refine .at 480 [(80,80)] ([(0,VL 4 z0d l),(3,VI b),(4,VI a),(6,.ptr 80 0),(9,VL 4 z0d l),(10,VI (l.length:Int)),(11,VI (i:Int)),(65,VB ((((l.getD i default)).kind) !=2))],[(80,.box [VI (((l.getD i default)).kind),VI (((l.getD i default)).n),VL 2 z0a (((l.getD i default)).attrs),VL 3 z0c (((l.getD i default)).elems)])]) ?_
       refine .back [.r [(0,X (Xn ((i:Int)+1)))]] [] (ih3 (b,a,(i+1)) ?_ ?_)
       ·
        refine⟨by omega,by omega,by omega,by omega,by omega,?_⟩
        rw[I3.2.2.2.2.2,y16,if_pos (by omega),if_neg (by omega),if_neg (by first|omega|exact fun hh=>z5c h10 hh.2)]
        ((repeat' split)<;>first|rfl|omega| (simp_all;done)| (simp_all;omega))
       ·
        ((try dsimp only);omega)
   ·
    refine .bp [.r []] ((((l.getD i default)).kind) !=1) (fun h12=> ?_) (fun h12=> ?_)
    ·
     refine .bp [.r [(3,X (Xn (b+(((l.getD i default)).n)))),(4,X (y8h (b+(((l.getD i default)).n)) 2147483648))],.r []] ((((l.getD i default)).kind) !=2) (fun h14=> ?_) (fun h14=> ?_)
     ·
      refine .back [.r [(2,X (Xc0 (z4A ((l.getD i default))) X0)),(3,X (Xn (a+(szD ((l.getD i default)))))),(4,X (y8h (a+(szD ((l.getD i default)))) 2147483648))],.r [(0,X (Xn ((i:Int)+1)))]] [] (ih3 ((min (b+(((l.getD i default)).n)) 2147483648),(min (a+(szD ((l.getD i default)))) 2147483648),(i+1)) ?_ ?_)
      ·
       refine⟨by omega,by omega,by omega,by omega,by omega,?_⟩
       rw[I3.2.2.2.2.2,y16,if_pos (by omega),if_neg (by omega),if_neg (by first|omega|exact fun hh=>z5c h10 hh.2)]
       ((repeat' split)<;>first|rfl|omega| (simp_all;done)| (simp_all;omega))
      ·
       ((try dsimp only);omega)
     ·
      refine .back [.r [(0,X (Xn ((i:Int)+1)))]] [] (ih3 ((min (b+(((l.getD i default)).n)) 2147483648),a,(i+1)) ?_ ?_)
      ·
       refine⟨by omega,by omega,by omega,by omega,by omega,?_⟩
       rw[I3.2.2.2.2.2,y16,if_pos (by omega),if_neg (by omega),if_neg (by first|omega|exact fun hh=>z5c h10 hh.2)]
       ((repeat' split)<;>first|rfl|omega| (simp_all;done)| (simp_all;omega))
      ·
       ((try dsimp only);omega)
    ·
     refine .bp [.r []] ((((l.getD i default)).kind) !=2) (fun h14=> ?_) (fun h14=> ?_)
     ·
      refine .back [.r [(2,X (Xc0 (z4A ((l.getD i default))) X0)),(3,X (Xn (a+(szD ((l.getD i default)))))),(4,X (y8h (a+(szD ((l.getD i default)))) 2147483648))],.r [(0,X (Xn ((i:Int)+1)))]] [] (ih3 (b,(min (a+(szD ((l.getD i default)))) 2147483648),(i+1)) ?_ ?_)
      ·
       refine⟨by omega,by omega,by omega,by omega,by omega,?_⟩
       rw[I3.2.2.2.2.2,y16,if_pos (by omega),if_neg (by omega),if_neg (by first|omega|exact fun hh=>z5c h10 hh.2)]
       ((repeat' split)<;>first|rfl|omega| (simp_all;done)| (simp_all;omega))
      ·
       ((try dsimp only);omega)
     ·
      refine .back [.r [(0,X (Xn ((i:Int)+1)))]] [] (ih3 (b,a,(i+1)) ?_ ?_)
      ·
       refine⟨by omega,by omega,by omega,by omega,by omega,?_⟩
       rw[I3.2.2.2.2.2,y16,if_pos (by omega),if_neg (by omega),if_neg (by first|omega|exact fun hh=>z5c h10 hh.2)]
       ((repeat' split)<;>first|rfl|omega| (simp_all;done)| (simp_all;omega))
      ·
       ((try dsimp only);omega)
 ·
  refine .bp [.r [(4,Xv 1 (!(decide (b>2147483647))) X0),(5,X (Xk' (decide (b>2147483647))))]] (decide (b>2147483647)||decide (a>2147483647)) (fun h17=> ?_) (fun h17=> ?_)
  ·
   have e3:((z1u l):Int)=3:=by
    rw[I3.2.2.2.2.2,y16];((repeat' split)<;>first|rfl|omega| (simp_all;done)| (simp_all;omega))
   exact .finE [.r []] [] (fun z0:Int=>(VI z0,[])) _ _ e3
  ·
   have e4:((z1u l):Int)=0:=by
    rw[I3.2.2.2.2.2,y16];((repeat' split)<;>first|rfl|omega| (simp_all;done)| (simp_all;omega))
   exact .finE [.r []] [] (fun z0:Int=>(VI z0,[])) _ _ e4
theorem z61(l:List DStep)(hv:z1g l):FC Tryz.prog 84 [VL 4 z0d l] (app emp []) (.tup [VI (z1Q l),VI (z2c l)]) (app emp []):=by
 refine .go Tryz.f84 ?_
 refine .len 0 (fun hl0=> ?_)
 refine .loop (α:=Int×Int×Nat) [.r [],.r [],.r [(1,X (Xl z0d l))]] 56 (fun(b,a,i)=>([(4,VI b),(5,VI a),(8,VL 4 z0d l),(9,VI (l.length:Int)),(10,VI (i:Int))],[])) (fun(b,a,i)=>i<=l.length/\0<=b/\0<=a/\z1Q l=b+z1Q (l.drop i)/\z2c l=a+z2c (l.drop i)) (fun(b,a,i)=>l.length-i) (0,0,0) ?_ ?_
 ·
  exact⟨by omega,by decide,by decide,by simp,by simp⟩
 rintro⟨b,a,i⟩ I3 ih3
 try dsimp only at I3
 have hv1:=hv.2.1
 have hv2:=hv.2.2
 refine .bp [.r []] (decide ((i:Int)< (l.length:Int))) (fun h3=> ?_) (fun h3=> ?_)
 ·
  have hst:=y0g (l:=l) (i:=i) (by omega) hv.1
  refine .bp [.r [(0,X (Xi z0d l (i:Int)))],.r []] ((((l.getD i default)).kind) !=1) (fun h5=> ?_) (fun h5=> ?_)
  ·
   have s1:=hst.1
   rw[if_neg (by omega)] at s1
   refine .bp [.r [(3,X (Xn (b+(((l.getD i default)).n))))],.r []] ((((l.getD i default)).kind) !=2) (fun h7=> ?_) (fun h7=> ?_)
   ·
    have s2:=hst.2.1
    rw[if_neg (by omega)] at s2
    refine .back [.r [(2,X (Xc0 (z4A ((l.getD i default))) X0)),(3,X (Xn (a+(szD ((l.getD i default))))))],.r [(0,X (Xn ((i:Int)+1)))]] [] (ih3 ((b+(((l.getD i default)).n)),(a+(szD ((l.getD i default)))),(i+1)) ?_ ?_)
    ·
     obtain⟨s1,s2,s3,s4,s5,s6,s7,s8⟩:=hst
     first|rw[if_pos (by omega)] at s1|rw[if_neg (by omega)] at s1
     first|rw[if_pos (by omega)] at s2|rw[if_neg (by omega)] at s2
     refine⟨by omega,by omega,by omega,by omega,by omega⟩
    ·
     ((try dsimp only);omega)
   ·
    refine .back [.r [(0,X (Xn ((i:Int)+1)))]] [] (ih3 ((b+(((l.getD i default)).n)),a,(i+1)) ?_ ?_)
    ·
     obtain⟨s1,s2,s3,s4,s5,s6,s7,s8⟩:=hst
     first|rw[if_pos (by omega)] at s1|rw[if_neg (by omega)] at s1
     first|rw[if_pos (by omega)] at s2|rw[if_neg (by omega)] at s2
     refine⟨by omega,by omega,by omega,by omega,by omega⟩
    ·
     ((try dsimp only);omega)
  ·
   refine .bp [.r []] ((((l.getD i default)).kind) !=2) (fun h7=> ?_) (fun h7=> ?_)
   ·
    have s2:=hst.2.1
    rw[if_neg (by omega)] at s2
    refine .back [.r [(2,X (Xc0 (z4A ((l.getD i default))) X0)),(3,X (Xn (a+(szD ((l.getD i default))))))],.r [(0,X (Xn ((i:Int)+1)))]] [] (ih3 (b,(a+(szD ((l.getD i default)))),(i+1)) ?_ ?_)
    ·
     obtain⟨s1,s2,s3,s4,s5,s6,s7,s8⟩:=hst
     first|rw[if_pos (by omega)] at s1|rw[if_neg (by omega)] at s1
     first|rw[if_pos (by omega)] at s2|rw[if_neg (by omega)] at s2
     refine⟨by omega,by omega,by omega,by omega,by omega⟩
    ·
     ((try dsimp only);omega)
   ·
    refine .back [.r [(0,X (Xn ((i:Int)+1)))]] [] (ih3 (b,a,(i+1)) ?_ ?_)
    ·
     obtain⟨s1,s2,s3,s4,s5,s6,s7,s8⟩:=hst
     first|rw[if_pos (by omega)] at s1|rw[if_neg (by omega)] at s1
     first|rw[if_pos (by omega)] at s2|rw[if_neg (by omega)] at s2
     refine⟨by omega,by omega,by omega,by omega,by omega⟩
    ·
     ((try dsimp only);omega)
 ·
  have e1:((z1Q l):Int)=b:=by
   have hE:=x9v (l:=l) (i:=i) (by omega)
   omega
  have e2:((z2c l):Int)=a:=by
   have hE:=x9v (l:=l) (i:=i) (by omega)
   omega
  exact .finE [.r []] [] (fun((z0,z1):Int×Int)=>(.tup [VI z0,VI z1],[])) _ _ (pr e1 e2)
theorem x40(f:List Elem)(l:List DStep)(hv:z1g l)(hd:DN 400000000000 l)(ha:AN 400000000000 f)(hlen:z1Q l=f.length):FC Tryz.prog 108 [VL 3 z0c f,VL 4 z0d l] (app emp []) (VL 3 z0c (z4Q f l)) (app emp []):=by
 refine .go Tryz.f108 ?_
 refine .len 0 (fun hl0=> ?_)
 refine .len 1 (fun hl1=> ?_)
 refine .loop (α:=(List Elem)×Nat×(List Elem)) [.r [],.r [],.r [(1,X (Xl z0d l))],.le (.nR 5 3)] 41 (fun(r,i,o)=>([(0,VL 3 z0c r),(5,.row 40 o.length),(8,VL 4 z0d l),(9,VI (l.length:Int)),(10,VI (i:Int))],[(40,OR 3 z0c o)])) (fun(r,i,o)=>i<=l.length/\AN 400000000000 r/\z1Q (l.drop i)=r.length/\o.length+z2c (l.drop i)=z2c l/\z4Q f l=o++z0s (exD (l.drop i)) r) (fun(r,i,o)=>l.length-i) (f,0,[]) ?_ ?_
 ·
  exact⟨by omega,ha,by simpa using hlen,by simp,by simp[z4Q]⟩
 rintro⟨r,i,o⟩ I3 ih3
 try dsimp only at I3
 have hv1:=hv.2.1
 have hv2:=hv.2.2
 refine .bp [.r []] (decide ((i:Int)< (l.length:Int))) (fun h3=> ?_) (fun h3=> ?_)
 ·
  have hst:=y0g (l:=l) (i:=i) (by omega) hv.1
  obtain⟨hx,hx2,hx3⟩:=hd.at_ (k:=i) (by omega)
  have hr:=x6H (d:=l) (i:=i) (by omega) r
  refine .bp [.r [(0,X (Xi z0d l (i:Int)))],.r [],.r []] ((((l.getD i default)).kind)==0) (fun h7=> ?_) (fun h7=> ?_)
  ·
   obtain⟨s1,s2,s3,s4,s5,s6,s7,s8⟩:=hst
   rw[if_neg (by omega)] at s1 s2
   have hz:szD (l.getD i default)=(l.getD i default).n:=by unfold szD;rw[if_neg (by omega)]
   have hl8:(r.take (l.getD i default).n.toNat).length=(l.getD i default).n.toNat:=by rw[qB];omega
   have hs8:∀x∈r.take (l.getD i default).n.toNat,x.attrs.length+(l.getD i default).attrs.length<1099511627776:=fun x hx=>by have:=I3.2.1 x (qE hx);omega
   refine .back [.r [(4,X (Xst z0c 3 r (((l.getD i default)).n))),(7,X (Xc1 169 (y0j (r.take (Int.toNat (((l.getD i default)).n))) (((l.getD i default)).attrs) (by omega) (by assumption)) X0)),(8,X (Xap 3 z0c 40 o (List.map (z7d (((l.getD i default)).attrs)) (r.take (Int.toNat (((l.getD i default)).n))))))],.r [(3,X (Xsd z0c 3 r (((l.getD i default)).n)))],.r [(0,X (Xn ((i:Int)+1)))]] [(40,40)] (ih3 ((r.drop (Int.toNat (((l.getD i default)).n))),(i+1),(o++(List.map (z7d (((l.getD i default)).attrs)) (r.take (Int.toNat (((l.getD i default)).n)))))) ?_ ?_)
   ·
    refine⟨by omega,fun x hx=>I3.2.1 x (qC hx),by(rw[qR];omega),by(simp only[qf,qk];omega),?_⟩
    rw[I3.2.2.2.2,hr,if_neg (by omega),if_neg (by omega),qO]
   ·
    show l.length- (i+1)< l.length-i;omega
  ·
   refine .bp [.r []] ((((l.getD i default)).kind)==1) (fun h10=> ?_) (fun h10=> ?_)
   ·
    obtain⟨s1,s2,s3,s4,s5,s6,s7,s8⟩:=hst
    rw[if_pos (by omega)] at s1
    rw[if_neg (by omega)] at s2
    have hz:szD (l.getD i default)=(l.getD i default).elems.length:=by unfold szD;rw[if_pos (by omega)]
    refine .back [.r [(3,X (Xc1 153 (y9M (((l.getD i default)).elems) (by omega) (by assumption)) X0)),(4,X (Xap 3 z0c 40 o (((l.getD i default)).elems)))],.r [(0,X (Xn ((i:Int)+1)))]] [(40,40)] (ih3 (r,(i+1),(o++(((l.getD i default)).elems))) ?_ ?_)
    ·
     refine⟨by omega,I3.2.1,by omega,by(simp only[qf];omega),?_⟩
     rw[I3.2.2.2.2,hr,if_pos (by omega),qO]
    ·
     show l.length- (i+1)< l.length-i;omega
   ·
    obtain⟨s1,s2,s3,s4,s5,s6,s7,s8⟩:=hst
    rw[if_neg (by omega)] at s1
    rw[if_pos (by omega)] at s2
    refine .back [.r [(3,X (Xsd z0c 3 r (((l.getD i default)).n)))],.r [(0,X (Xn ((i:Int)+1)))]] [(40,40)] (ih3 ((r.drop (Int.toNat (((l.getD i default)).n))),(i+1),o) ?_ ?_)
    ·
     refine⟨by omega,fun x hx=>I3.2.1 x (qC hx),by(rw[qR];omega),by omega,?_⟩
     rw[I3.2.2.2.2,hr,if_neg (by omega),if_pos (by omega)]
    ·
     show l.length- (i+1)< l.length-i;omega
 ·
  have e1:((z4Q f l):List Elem)=o:=by
   rw[I3.2.2.2.2,qM (by omega)];simp[exD,z0s]
  exact .finE [.r [],.le (.fr 4 [(o.length:Nat)=(List.map z0c o).length] ⟨lm,trivial⟩)] [] (fun z0:List Elem=>(VL 3 z0c z0,[])) _ _ e1

end Go.Ch
end
section
namespace Go.Ch
open Go Go.Ab
structure DWr where
 out:List DStep
 add:List Elem
 cut:Int
def z0b(w:DWr):List DStep:=w.out++(if 0<w.add.length then[⟨1,0,[],w.add⟩] else[])++(if 0<w.cut then[⟨2,w.cut,[],[]⟩] else[])
def z1a(l:List DStep)(n:Int)(c:List Attr):List DStep:=
 if 0<l.length/\(l.getD (l.length- 1) default).kind=0/\z0O (l.getD (l.length- 1) default).attrs c=true then
  l.set (l.length- 1) ⟨(l.getD (l.length- 1) default).kind,(l.getD (l.length- 1) default).n+n,(l.getD (l.length- 1) default).attrs,(l.getD (l.length- 1) default).elems⟩
 else l++[⟨0,n,c,[]⟩]
theorem y0k(w:DWr):(z0b w).length<=w.out.length+2:=by
 unfold z0b;simp only[qf];split<;>split<;>simp
theorem y9O(l:List DStep)(n:Int)(c:List Attr):(z1a l n c).length<=l.length+1:=by
 unfold z1a;split<;>simp
def y4B(s:DStep):Prop:=
 (s.kind=1/\s.n=0/\s.attrs=[]/\s.elems≠[]/\∀x∈s.elems,z05 x=0)\/
 ((s.kind=0\/s.kind=2)/\s.elems=[]/\(s.kind=2->s.attrs=[])/\1<=s.n/\VG true s.attrs)
def z79:List DStep->Prop
 | []=>True
 | [_]=>True
 |s::t::l=>y24 s t=false/\z79 (t::l)
theorem z62:∀{l:List DStep} {s:DStep},z79 l->(∀t,l.getLast? =some t->y24 t s=false)->z79 (l++[s])
 | [],s,_,_=>trivial
 | [x],s,_,h=>⟨h x rfl,trivial⟩
 |x::y::l,s,hf,h=>⟨hf.1,z62 (l:=y::l) hf.2 (fun t ht=>h t (by simpa[List.getLast?_cons_cons] using ht))⟩
theorem x2v{w x x':DStep}(k:x'.kind=x.kind)(a:x'.attrs=x.attrs):y24 w x'=y24 w x:=by unfold y24;rw[k,a]
theorem y6c:∀{l:List DStep} {s s':DStep},z79 (l++[s])->s'.kind=s.kind->s'.attrs=s.attrs->z79 (l++[s'])
 | [],s,s',_,_,_=>trivial
 | [x],s,s',h,k,a=>⟨by rw[x2v k a];exact h.1,trivial⟩
 |x::y::l,s,s',h,k,a=>⟨h.1,y6c (l:=y::l) h.2 k a⟩
theorem y6d:∀{l:List DStep},(∀s∈l,DOk s)->z79 l->y25 l
 | [],_,_=>trivial
 | [s],h,_=>h s (by simp)
 |s::t::l,h,k=>⟨h s (by simp),k.1,y6d (fun x hx=>h x (by simp at hx|-;exact .inr hx)) k.2⟩
theorem okW{s:DStep}(h:DOk s):y4B s:=by
 rcases h with h| ⟨a,b,c,d,e,f⟩
 ·exact .inl h
 ·exact .inr ⟨a,b,c,d,f⟩
theorem oSW{s:DStep}(h:y4B s):0<=oS s/\0<=nS s/\(s.kind≠1->oS s=s.n)/\0<=s.n:=by
 unfold oS nS szD
 rcases h with⟨k,n,a,e,_⟩| ⟨k,_,_,n1,_⟩
 ·have:0<s.elems.length:=zR.2 e
  rw[if_pos k,if_neg (by omega),if_pos k]
  exact⟨zz _,by omega,fun q=>absurd k q,by omega⟩
 ·have k1:¬s.kind=1:=by omega
  simp only[if_neg k1]
  refine⟨by omega,by(split<;>omega),fun _=>trivial,by omega⟩
theorem x6T:∀{l:List DStep},(∀s∈l,y4B s)->0<=z1Q l/\0<=z2c l/\∀s∈l,s.kind≠1->s.n<=z1Q l
 | [],_=>⟨zz _,zz _,fun s hs=>by cases hs⟩
 |s::l,h=>by
  have h1:=oSW (h s (by simp))
  have h2:=x6T (l:=l) (fun t ht=>h t (by simp[ht]))
  simp only[z1Q,z2c]
  refine⟨by omega,by omega,fun t ht k=> ?_⟩
  rcases qg.1 ht with rfl|ht
  ·have:=h1.2.2.1 k;omega
  ·have:=h2.2.2 t ht k;omega
theorem x2w{l:List DStep}(h:∀s∈l,y4B s)(ha:z79 l)(h1:z1Q l<=2147483647)(h2:z2c l<=2147483647):z1g l:=by
 refine⟨y6d (fun s hs=> ?_) ha,h1,h2⟩
 rcases h s hs with q| ⟨a,b,c,d,e⟩
 ·exact .inl q
 ·have:=(x6T h).2.2 s hs (by omega)
  exact .inr ⟨a,b,c,d,by omega,e⟩
theorem z0U(u v:List DU):z0I (u++v)=z0I u+z0I v:=by
 induction u with
 |nil=>simp[z0I]
 |cons x u ih=>cases x<;>simp[z0I,ih]<;>omega
theorem z2f(u v:List DU):z07 (u++v)=z07 u+z07 v:=by
 induction u with
 |nil=>simp[z07]
 |cons x u ih=>cases x<;>simp[z07,ih]<;>omega
theorem z3P(e:List Elem):z0I (e.map .A)=0/\z07 (e.map .A)=e.length:=by
 induction e with
 |nil=>exact⟨rfl,rfl⟩
 |cons x e ih=>simp[z0I,z07,ih]
theorem z3Q(n:Nat):z0I (List.replicate n .C)=n/\z07 (List.replicate n .C)=0:=by
 induction n with
 |zero=>exact⟨rfl,rfl⟩
 |succ n ih=>simp[qK,z0I,z07,ih]
theorem z2i(n:Nat)(c:List Attr):z0I (List.replicate n (.K c))=n/\z07 (List.replicate n (.K c))=n:=by
 induction n with
 |zero=>exact⟨rfl,rfl⟩
 |succ n ih=>simp[qK,z0I,z07,ih]
theorem x6U{s:DStep}(h:y4B s):(z0I (exS s):Int)=oS s/\(z07 (exS s):Int)=nS s:=by
 unfold exS oS nS szD
 rcases h with⟨k,n,a,e,_⟩| ⟨k,_,_,n1,_⟩
 ·rw[if_pos k,if_pos k,if_neg (by omega),if_pos k,(z3P _).1,(z3P _).2];exact⟨rfl,rfl⟩
 ·have k1:¬s.kind=1:=by omega
  by_cases k2:s.kind=2
  ·simp only[if_neg k1,if_pos k2]
   rw[(z3Q _).1,(z3Q _).2];omega
  ·simp only[if_neg k1,if_neg k2]
   rw[(z2i _ _).1,(z2i _ _).2];omega
theorem y9P:∀{l:List DStep},(∀s∈l,y4B s)->(z0I (exD l):Int)=z1Q l/\(z07 (exD l):Int)=z2c l
 | [],_=>⟨rfl,rfl⟩
 |s::l,h=>by
  have h1:=x6U (h s (by simp))
  have h2:=y9P (l:=l) (fun t ht=>h t (by simp[ht]))
  simp only[exD,z1Q,z2c]
  rw[z0U,z2f]
  omega
def y0l(w:DWr):List DU:=exD w.out++(w.add.map .A++List.replicate w.cut.toNat .C)
structure GoodD(w:DWr):Prop where
 ok:∀s∈w.out,y4B s
 adj:z79 w.out
 last:∀t,w.out.getLast? =some t->t.kind=0
 add:∀x∈w.add,z05 x=0
 cut:0<=w.cut
theorem x3I:GoodD ⟨[],[],0⟩:=⟨fun s h=>(by cases h),trivial,fun t h=>(by cases h),fun x h=>(by cases h),zz _⟩
theorem z9c{w:DWr}(h:GoodD w):exD (z0b w)=y0l w:=by
 have h2:=h.cut
 unfold z0b y0l
 rw[z5d,z5d,qO]
 congr 2
 ·split
  ·simp[exD,exS]
  ·rw[show w.add=[] from x6g.1 (by omega)];rfl
 ·split
  ·simp[exD,exS]
  ·rw[show w.cut.toNat=0 by omega];rfl
theorem x41{t s:DStep}(h:t.kind≠s.kind)(h2:¬(t.kind=2/\s.kind=1)):y24 t s=false:=by
 cases e:y24 t s
 ·rfl
 ·rcases z8m.1 e with⟨a,_⟩|a
  ·exact absurd a h
  ·exact absurd a h2
theorem z9d:VG true []:=(z1z (e:=true) (l:=[])).1 (by rw[z1B];rfl)
theorem z63{w:DWr}(h:GoodD w):(∀s∈z0b w,y4B s)/\z79 (z0b w):=by
 have h2:=h.cut
 have o1:0<w.add.length->y4B ⟨1,0,[],w.add⟩:=fun q=> .inl ⟨rfl,rfl,rfl,zR.1 q,h.add⟩
 have o2:0<w.cut->y4B ⟨2,w.cut,[],[]⟩:=fun q=> .inr ⟨.inr rfl,rfl,fun _=>rfl,q,z9d⟩
 refine⟨fun s hs=> ?_,?_⟩
 ·unfold z0b at hs
  simp only[qj] at hs
  rcases hs with(hs|hs)|hs
  ·exact h.ok s hs
  ·split at hs
   ·rename_i q;rw[qA] at hs;subst hs;exact o1 q
   ·cases hs
  ·split at hs
   ·rename_i q;rw[qA] at hs;subst hs;exact o2 q
   ·cases hs
 ·unfold z0b
  by_cases ha:0<w.add.length
  ·rw[if_pos ha]
   have f1:z79 (w.out++[⟨1,0,[],w.add⟩]):=z62 h.adj (fun t ht=>by
    have:=h.last t ht
    exact x41 (by simp only;omega) (by omega))
   by_cases hc:0<w.cut
   ·rw[if_pos hc]
    refine z62 f1 (fun t ht=> ?_)
    rw[List.getLast?_concat] at ht
    cases ht
    exact x41 (by show(1:Int)≠2;decide) (by show¬((1:Int)=2/\(2:Int)=1);decide)
   ·rw[if_neg hc,qQ];exact f1
  ·rw[if_neg ha,qQ]
   by_cases hc:0<w.cut
   ·rw[if_pos hc]
    refine z62 h.adj (fun t ht=> ?_)
    have:=h.last t ht
    exact x41 (by simp only;omega) (by omega)
   ·rw[if_neg hc,qQ];exact h.adj
theorem x6V{l:List DStep}(h:0<l.length):l=l.take (l.length- 1)++[l.getD (l.length- 1) default]:=by
 conv=>lhs;rw[<-List.take_append_drop (l.length- 1) l]
 congr 1
 rw[zi (by omega),qM (by omega)]
 simp[List.getD,qb (show l.length- 1<l.length by omega)]
theorem y3b{l:List DStep}(h:0<l.length):l.getD (l.length- 1) default∈l:=by
 rw[show l.getD (l.length- 1) default=l[l.length- 1] by simp[List.getD,qb (show l.length- 1<l.length by omega)]]
 exact zA _
theorem x6h{l:List DStep}(h:0<l.length)(s:DStep):l.set (l.length- 1) s=l.take (l.length- 1)++[s]:=by
 rw[List.set_eq_take_append_cons_drop,if_pos (by omega),qM (by omega)]
theorem x2x{l:List DStep}{n:Int}{c:List Attr}(ho:∀s∈l,y4B s)(hf:z79 l)(hn:1<=n)(hc:VG true c):
 (∀s∈z1a l n c,y4B s)/\z79 (z1a l n c)/\(∀t,(z1a l n c).getLast? =some t->t.kind=0)/\exD (z1a l n c)=exD l++List.replicate n.toNat (.K c):=by
 unfold z1a
 split
 ·rename_i hc
  obtain⟨h0,hk,ha⟩:=hc
  rw[x2a] at ha
  generalize hx:l.getD (l.length- 1) default=x at hk ha|-
  have hl:=x6V h0
  rw[hx] at hl
  rw[x6h h0]
  have hox:y4B x:=ho x (by rw[hl];simp)
  have hx2:x.elems=[]/\1<=x.n/\VG true x.attrs:=by
   rcases hox with⟨k,_⟩| ⟨_,a,_,b,d⟩
   ·omega
   ·exact⟨a,b,d⟩
  refine⟨fun s hs=> ?_,y6c (s:=x) (by rw[<-hl];exact hf) rfl rfl,fun t ht=> ?_,?_⟩
  ·rw[qj] at hs
   rcases hs with hs|hs
   ·exact ho s (qE hs)
   ·rw[qA] at hs;subst hs
    exact .inr ⟨.inl hk,hx2.1,fun q=>by simp only at q;omega,by simp only;omega,hx2.2.2⟩
  ·rw[List.getLast?_concat] at ht;cases ht;exact hk
  ·conv=>rhs;rw[hl]
   rw[z5d,z5d,qO]
   congr 1
   simp only[exD,qQ,exS]
   rw[if_neg (by omega),if_neg (by omega),if_neg (by omega),if_neg (by omega),ha,show(x.n+n).toNat=x.n.toNat+n.toNat by omega]
   exact List.replicate_append_replicate.symm
 ·rename_i hq
  refine⟨fun s hs=> ?_,z62 hf (fun t ht=> ?_),fun t ht=> ?_,by rw[z5d];simp[exD,exS]⟩
  ·rw[qj] at hs
   rcases hs with hs|hs
   ·exact ho s hs
   ·rw[qA] at hs;subst hs
    exact .inr ⟨.inl rfl,rfl,fun q=>(by cases q),hn,hc⟩
  ·have h0:0<l.length:=by
    rcases l with _| ⟨y,l⟩
    ·cases ht
    ·simp
   have hl:l.getLast? =some (l.getD (l.length- 1) default):=by
    conv=>lhs;rw[x6V h0]
    rw[List.getLast?_concat]
   rw[hl] at ht
   cases ht
   cases e:y24 (l.getD (l.length- 1) default) ⟨0,n,c,[]⟩
   ·rfl
   ·rcases z8m.1 e with⟨a,b|b⟩| ⟨_,b⟩
    ·exact absurd rfl b
    ·exact absurd ⟨h0,a,b⟩ hq
    ·cases b
  ·rw[List.getLast?_concat] at ht;cases ht;rfl
theorem GoodD.keep{w:DWr}{n:Int}{c:List Attr}(h:GoodD w)(hn:1<=n)(hc:VG true c):
 GoodD ⟨z1a (z0b w) n c,[],0⟩/\y0l ⟨z1a (z0b w) n c,[],0⟩=y0l w++List.replicate n.toNat (.K c):=by
 obtain⟨q1,q2,q3,q4⟩:=x2x (z63 h).1 (z63 h).2 hn hc
 refine⟨⟨q1,q2,q3,fun x hx=>(by cases hx),zz _⟩,?_⟩
 rw[<-z9c h,<-q4]
 simp[y0l]
theorem GoodD.elems{w:DWr}{e:List Elem}(h:GoodD w)(he:∀x∈e,z05 x=0):
 GoodD ⟨w.out,w.add++e,w.cut⟩/\DSw (y0l ⟨w.out,w.add++e,w.cut⟩) (y0l w++e.map .A):=by
 refine⟨⟨h.ok,h.adj,h.last,fun x hx=> ?_,h.cut⟩,?_⟩
 ·rcases qj.1 hx with hx|hx
  ·exact h.add x hx
  ·exact he x hx
 ·unfold y0l
  simp only[zj,qO]
  refine .left _ (.left _ ?_)
  have:=y9E w.cut.toNat e []
  simp only[qQ] at this
  exact .symm this
theorem GoodD.cuts{w:DWr}{n:Int}(h:GoodD w)(hn:0<=n):
 GoodD ⟨w.out,w.add,w.cut+n⟩/\y0l ⟨w.out,w.add,w.cut+n⟩=y0l w++List.replicate n.toNat .C:=by
 have h2:=h.cut
 refine⟨⟨h.ok,h.adj,h.last,h.add,by simp only;omega⟩,?_⟩
 unfold y0l
 simp only[qO]
 rw[show(w.cut+n).toNat=w.cut.toNat+n.toNat by omega,<-List.replicate_append_replicate]
theorem GoodD.valid{w:DWr}{u:List DU}(h:GoodD w)(hs:DSw (y0l w) u)(h1:z0I u<=2147483647)(h2:z07 u<=2147483647):
 z1g (z0b w)/\DSw (exD (z0b w)) u/\z1Q (z0b w)=z0I u/\z2c (z0b w)=z07 u:=by
 have hk:=z63 h
 have he:=z9c h
 have hl:=y51 hs
 have hd:=y9P hk.1
 rw[he] at hd
 refine⟨x2w hk.1 hk.2 (by omega) (by omega),by rw[he];exact hs,by omega,by omega⟩
end Go.Ch
end
section
set_option maxRecDepth 100000
set_option maxHeartbeats 4000000
open Go Go.Proofs Go.Ab
namespace Go.Ch
theorem z9e(o:List DStep)(a:List Elem)(c:Int)(ho:o.length<=100000000000):FC Tryz.prog 146 [.ptr 0 0] (app emp [(0,.box [.row 1 o.length,.row 2 a.length,VI c]),(1,OR 4 z0d o),(2,OR 3 z0c a)]) (.tup []) (app emp [(0,.box [.row 1 ((z0b ⟨o,a,c⟩).length),.row 3 0,VI 0]),(1,OR 4 z0d (z0b ⟨o,a,c⟩)),(2,OF 3 z0c a),(3,OR 3 z0c [])]):=by
 refine .go Tryz.f146 ?_
 refine .bp [.r []] (decide ((a.length:Int)> 0)) (fun h0=> ?_) (fun h0=> ?_)
 ·
  refine .bp [.r [(9,X (Xf [(2,2)])),(10,X (z0Y z0c a X0)),(11,X (z0Y z0d [({kind:=1,n:=0,attrs:=[],elems:=a}:DStep)] (Xap 4 z0d 1 o [({kind:=1,n:=0,attrs:=[],elems:=a}:DStep)])))],.r []] (decide (c>0)) (fun h2=> ?_) (fun h2=> ?_)
  ·
   have e1:((z0b ⟨o,a,c⟩).length:Nat)=((o++[({kind:=1,n:=0,attrs:=[],elems:=a}:DStep)])++[({kind:=2,n:=c,attrs:=[],elems:=[]}:DStep)]).length:=by
    unfold z0b;simp only;(repeat (first|rw[if_pos (by omega)]|rw[if_neg (by omega)]));try simp
   have e2:((z0b ⟨o,a,c⟩):List DStep)=((o++[({kind:=1,n:=0,attrs:=[],elems:=a}:DStep)])++[({kind:=2,n:=c,attrs:=[],elems:=[]}:DStep)]):=by
    unfold z0b;simp only;(repeat (first|rw[if_pos (by omega)]|rw[if_neg (by omega)]));try simp
   exact .finE [.r [(9,X (Xf [(2,2),(3,3)])),(11,X (z0Y z0d [({kind:=2,n:=c,attrs:=[],elems:=[]}:DStep)] (Xap 4 z0d 1 (o++[({kind:=1,n:=0,attrs:=[],elems:=a}:DStep)]) [({kind:=2,n:=c,attrs:=[],elems:=[]}:DStep)])))],.r [],.le (.nB 0 1 3)] [(0,0),(1,1),(2,2),(395,3)] (fun((z0,z1):Nat×(List DStep))=>(.tup [],[(0,.box [.row 1 z0,.row 3 0,VI 0]),(1,OR 4 z0d z1),(2,OF 3 z0c a),(3,OR 3 z0c [])])) _ _ (pr e1 e2)
  ·
   have e3:((z0b ⟨o,a,c⟩).length:Nat)=(o++[({kind:=1,n:=0,attrs:=[],elems:=a}:DStep)]).length:=by
    unfold z0b;simp only;(repeat (first|rw[if_pos (by omega)]|rw[if_neg (by omega)]));try simp
   have e4:((z0b ⟨o,a,c⟩):List DStep)=(o++[({kind:=1,n:=0,attrs:=[],elems:=a}:DStep)]):=by
    unfold z0b;simp only;(repeat (first|rw[if_pos (by omega)]|rw[if_neg (by omega)]));try simp
   exact .finE [.r [],.le (.nB 0 1 3)] [(0,0),(1,1),(2,2),(275,3)] (fun((z0,z1):Nat×(List DStep))=>(.tup [],[(0,.box [.row 1 z0,.row 3 0,VI 0]),(1,OR 4 z0d z1),(2,OF 3 z0c a),(3,OR 3 z0c [])])) _ _ (pr e3 e4)
 ·
  refine .bp [.r []] (decide (c>0)) (fun h2=> ?_) (fun h2=> ?_)
  ·
   have e5:((z0b ⟨o,a,c⟩).length:Nat)=(o++[({kind:=2,n:=c,attrs:=[],elems:=[]}:DStep)]).length:=by
    unfold z0b;simp only;(repeat (first|rw[if_pos (by omega)]|rw[if_neg (by omega)]));try simp
   have e6:((z0b ⟨o,a,c⟩):List DStep)=(o++[({kind:=2,n:=c,attrs:=[],elems:=[]}:DStep)]):=by
    unfold z0b;simp only;(repeat (first|rw[if_pos (by omega)]|rw[if_neg (by omega)]));try simp
   exact .finE [.r [(9,X (Xf [(2,2),(3,3)])),(11,X (z0Y z0d [({kind:=2,n:=c,attrs:=[],elems:=[]}:DStep)] (Xap 4 z0d 1 o [({kind:=2,n:=c,attrs:=[],elems:=[]}:DStep)])))],.r [],.le (.nB 0 1 3),.le (.fz 2)] [(0,0),(1,1),(2,2),(275,3)] (fun((z0,z1):Nat×(List DStep))=>(.tup [],[(0,.box [.row 1 z0,.row 3 0,VI 0]),(1,OR 4 z0d z1),(2,OF 3 z0c a),(3,OR 3 z0c [])])) _ _ (pr e5 e6)
  ·
   have e7:((z0b ⟨o,a,c⟩).length:Nat)=o.length:=by
    unfold z0b;simp only;(repeat (first|rw[if_pos (by omega)]|rw[if_neg (by omega)]));try simp
   have e8:((z0b ⟨o,a,c⟩):List DStep)=o:=by
    unfold z0b;simp only;(repeat (first|rw[if_pos (by omega)]|rw[if_neg (by omega)]));try simp
   exact .finE [.r [],.le (.nB 0 1 3),.le (.fz 2)] [(0,0),(1,1),(2,2),(155,3)] (fun((z0,z1):Nat×(List DStep))=>(.tup [],[(0,.box [.row 1 z0,.row 3 0,VI 0]),(1,OR 4 z0d z1),(2,OF 3 z0c a),(3,OR 3 z0c [])])) _ _ (pr e7 e8)
theorem z4g(o:List DStep)(a:List Elem)(c:Int)(e:List Elem)(hs:AN 400000000000 e)(ho:a.length+e.length<=100000000000):FC Tryz.prog 88 [.ptr 0 0,VL 3 z0c e] (app emp [(0,.box [.row 1 o.length,.row 2 a.length,VI c]),(1,OR 4 z0d o),(2,OR 3 z0c a)]) (.tup []) (app emp [(0,.box [.row 1 o.length,.row 2 ((a++e).length),VI c]),(1,OR 4 z0d o),(2,OR 3 z0c (a++e))]):=by
 refine .go Tryz.f88 ?_
 refine .len 1 (fun hl1=> ?_)
 exact .fin [.r [(6,X (Xc1 51 (y9M e (by omega) (by assumption)) X0)),(7,X (Xap 3 z0c 2 a e))]] [(0,0),(1,1),(2,2)]
theorem kbd{l:List DStep}(h:∀s∈l,0<=s.n/\s.n<=10000000000):∀s∈l,0<=s.n/\s.n<=1000000000000000000:=fun s hs=>by have:=h s hs;omega
theorem z4B(o:List DStep)(a:List Elem)(c:Int)(n:Int)(l:List Attr)(ho:o.length<=100000000000)(hl:l.length<=400000000000)(hn:1<=n/\n<=100000000000)(hk:∀s∈z0b ⟨o,a,c⟩,0<=s.n/\s.n<=1000000000000000000):FC Tryz.prog 89 [.ptr 0 0,VI n,VL 2 z0a l] (app emp [(0,.box [.row 1 o.length,.row 2 a.length,VI c]),(1,OR 4 z0d o),(2,OR 3 z0c a)]) (.tup []) (app emp [(0,.box [.row 1 ((z1a (z0b ⟨o,a,c⟩) n l).length),.row 3 0,VI 0]),(1,OR 4 z0d (z1a (z0b ⟨o,a,c⟩) n l)),(2,OF 3 z0c a),(3,OR 3 z0c [])]):=by
 refine .go Tryz.f89 ?_
 refine .len 2 (fun hl2=> ?_)
 have hfl:=y0k ⟨o,a,c⟩
 simp only at hfl
 refine .bp [.r []] (n==0) (fun h0=> ?_) (fun h0=> ?_)
 ·
  exfalso
  omega
 ·
  have hlast:=fun h:0< (z0b ⟨o,a,c⟩).length=>hk _ (y3b h)
  refine .bp [.r [(1,X (Xc3 27 [(0,0),(1,1),(2,2)] (z9e o a c (by omega)) X0))],.r [(5,X (Xn (((z0b ⟨o,a,c⟩).length:Int)- 1)))],.r [(4,Xv 1 (decide ((((z0b ⟨o,a,c⟩).length:Int)- 1)>=0)) X0),(5,Xv 1 (decide ((((z0b ⟨o,a,c⟩).length:Int)- 1)>=0)) X0),(6,Xv 1 (decide ((((z0b ⟨o,a,c⟩).length:Int)- 1)>=0)) X0),(8,Xv 2 (decide ((((z0b ⟨o,a,c⟩).length:Int)- 1)>=0)) (Xp' z0d 1 (z0b ⟨o,a,c⟩) (((z0b ⟨o,a,c⟩).length:Int)- 1) (((z0b ⟨o,a,c⟩).length)- 1))),(9,Xv 1 (decide ((((z0b ⟨o,a,c⟩).length:Int)- 1)>=0)) X0),(10,Xv 1 (decide ((((z0b ⟨o,a,c⟩).length:Int)- 1)>=0)) (Xe z0d (z0b ⟨o,a,c⟩) (((z0b ⟨o,a,c⟩).length)- 1))),(11,Xv 1 (decide ((((z0b ⟨o,a,c⟩).length:Int)- 1)>=0)) X0),(12,X (Xk (decide ((((z0b ⟨o,a,c⟩).length:Int)- 1)>=0)))),(15,Xv 1 (decide ((((z0b ⟨o,a,c⟩).length:Int)- 1)>=0)&&(((((z0b ⟨o,a,c⟩).getD (((z0b ⟨o,a,c⟩).length)- 1) default)).kind)==0)) X0),(16,Xv 1 (decide ((((z0b ⟨o,a,c⟩).length:Int)- 1)>=0)&&(((((z0b ⟨o,a,c⟩).getD (((z0b ⟨o,a,c⟩).length)- 1) default)).kind)==0)) X0),(17,Xv 1 (decide ((((z0b ⟨o,a,c⟩).length:Int)- 1)>=0)&&(((((z0b ⟨o,a,c⟩).getD (((z0b ⟨o,a,c⟩).length)- 1) default)).kind)==0)) X0),(19,Xv 2 (decide ((((z0b ⟨o,a,c⟩).length:Int)- 1)>=0)&&(((((z0b ⟨o,a,c⟩).getD (((z0b ⟨o,a,c⟩).length)- 1) default)).kind)==0)) (Xp' z0d 1 (z0b ⟨o,a,c⟩) (((z0b ⟨o,a,c⟩).length:Int)- 1) (((z0b ⟨o,a,c⟩).length)- 1))),(20,Xv 1 (decide ((((z0b ⟨o,a,c⟩).length:Int)- 1)>=0)&&(((((z0b ⟨o,a,c⟩).getD (((z0b ⟨o,a,c⟩).length)- 1) default)).kind)==0)) X0),(21,Xv 1 (decide ((((z0b ⟨o,a,c⟩).length:Int)- 1)>=0)&&(((((z0b ⟨o,a,c⟩).getD (((z0b ⟨o,a,c⟩).length)- 1) default)).kind)==0)) (Xe z0d (z0b ⟨o,a,c⟩) (((z0b ⟨o,a,c⟩).length)- 1))),(23,Xv 2 (decide ((((z0b ⟨o,a,c⟩).length:Int)- 1)>=0)&&(((((z0b ⟨o,a,c⟩).getD (((z0b ⟨o,a,c⟩).length)- 1) default)).kind)==0)) (Xc0 (z59 ((((z0b ⟨o,a,c⟩).getD (((z0b ⟨o,a,c⟩).length)- 1) default)).attrs) l) X0)),(24,X (Xk (decide ((((z0b ⟨o,a,c⟩).length:Int)- 1)>=0)&&(((((z0b ⟨o,a,c⟩).getD (((z0b ⟨o,a,c⟩).length)- 1) default)).kind)==0))))]] ((decide ((((z0b ⟨o,a,c⟩).length:Int)- 1)>=0)&&(((((z0b ⟨o,a,c⟩).getD (((z0b ⟨o,a,c⟩).length)- 1) default)).kind)==0))&&(z0O ((((z0b ⟨o,a,c⟩).getD (((z0b ⟨o,a,c⟩).length)- 1) default)).attrs) l)) (fun h3=> ?_) (fun h3=> ?_)
  ·
   have e1:((z1a (z0b ⟨o,a,c⟩) n l).length:Nat)=(z0b ⟨o,a,c⟩).length:=by
    unfold z1a;((repeat' split)<;>first|rfl|omega| (simp_all;done)| (simp_all;omega))
   have e2:((z1a (z0b ⟨o,a,c⟩) n l):List DStep)=((z0b ⟨o,a,c⟩).set (((z0b ⟨o,a,c⟩).length)- 1) ({kind:=(((z0b ⟨o,a,c⟩).getD (((z0b ⟨o,a,c⟩).length)- 1) default)).kind,n:=(((((z0b ⟨o,a,c⟩).getD (((z0b ⟨o,a,c⟩).length)- 1) default)).n)+n),attrs:=(((z0b ⟨o,a,c⟩).getD (((z0b ⟨o,a,c⟩).length)- 1) default)).attrs,elems:=(((z0b ⟨o,a,c⟩).getD (((z0b ⟨o,a,c⟩).length)- 1) default)).elems}:DStep)):=by
    unfold z1a;((repeat' split)<;>first|rfl|omega| (simp_all;done)| (simp_all;omega))
   exact .finE [.r [(5,X (Xp' z0d 1 (z0b ⟨o,a,c⟩) (((z0b ⟨o,a,c⟩).length:Int)- 1) (((z0b ⟨o,a,c⟩).length)- 1))),(7,X (Xe z0d (z0b ⟨o,a,c⟩) (((z0b ⟨o,a,c⟩).length)- 1))),(9,X (Xn (((((z0b ⟨o,a,c⟩).getD (((z0b ⟨o,a,c⟩).length)- 1) default)).n)+n))),(10,X (Xp' z0d 1 (z0b ⟨o,a,c⟩) (((z0b ⟨o,a,c⟩).length:Int)- 1) (((z0b ⟨o,a,c⟩).length)- 1))),(12,X (Xs 4 z0d 1 (z0b ⟨o,a,c⟩) (((z0b ⟨o,a,c⟩).length)- 1) ({kind:=(((z0b ⟨o,a,c⟩).getD (((z0b ⟨o,a,c⟩).length)- 1) default)).kind,n:=(((((z0b ⟨o,a,c⟩).getD (((z0b ⟨o,a,c⟩).length)- 1) default)).n)+n),attrs:=(((z0b ⟨o,a,c⟩).getD (((z0b ⟨o,a,c⟩).length)- 1) default)).attrs,elems:=(((z0b ⟨o,a,c⟩).getD (((z0b ⟨o,a,c⟩).length)- 1) default)).elems}:DStep)))]] [(0,0),(1,1),(2,2),(27,3)] (fun((z0,z1):Nat×(List DStep))=>(.tup [],[(0,.box [.row 1 z0,.row 3 0,VI 0]),(1,OR 4 z0d z1),(2,OF 3 z0c a),(3,OR 3 z0c [])])) _ _ (pr e1 e2)
  ·
   have e3:((z1a (z0b ⟨o,a,c⟩) n l).length:Nat)=((z0b ⟨o,a,c⟩)++[({kind:=0,n:=n,attrs:=l,elems:=[]}:DStep)]).length:=by
    unfold z1a;((repeat' split)<;>first|rfl|omega| (simp_all;done)| (simp_all;omega))
   have e4:((z1a (z0b ⟨o,a,c⟩) n l):List DStep)=((z0b ⟨o,a,c⟩)++[({kind:=0,n:=n,attrs:=l,elems:=[]}:DStep)]):=by
    unfold z1a;((repeat' split)<;>first|rfl|omega| (simp_all;done)| (simp_all;omega))
   exact .finE [.r [(7,X (Xan z0a 347 l)),(8,X (Xf [(3,3)])),(9,X (z0Y z0a l X0)),(10,X (z0Y z0d [({kind:=0,n:=n,attrs:=l,elems:=[]}:DStep)] (Xap 4 z0d 1 (z0b ⟨o,a,c⟩) [({kind:=0,n:=n,attrs:=l,elems:=[]}:DStep)])))]] [(0,0),(1,1),(2,2),(27,3)] (fun((z0,z1):Nat×(List DStep))=>(.tup [],[(0,.box [.row 1 z0,.row 3 0,VI 0]),(1,OR 4 z0d z1),(2,OF 3 z0c a),(3,OR 3 z0c [])])) _ _ (pr e3 e4)
theorem z8o(o:List DStep)(a:List Elem)(c:Int)(ho:o.length<=100000000000)(hc:z1u (z0b ⟨o,a,c⟩)=0)(hd:DN 400000000000 (z0b ⟨o,a,c⟩)):FC Tryz.prog 90 [.ptr 0 0] (app emp [(0,.box [.row 1 o.length,.row 2 a.length,VI c]),(1,OR 4 z0d o),(2,OR 3 z0c a)]) (.tup [.row 1 ((z0b ⟨o,a,c⟩).length),VI 0]) (app emp [(0,.box [.row 1 ((z0b ⟨o,a,c⟩).length),.row 3 0,VI 0]),(1,OR 4 z0d (z0b ⟨o,a,c⟩)),(2,OF 3 z0c a),(3,OR 3 z0c [])]):=by
 refine .go Tryz.f90 ?_
 refine .bp [.r [],.r [(1,X (Xc3 27 [(0,0),(1,1),(2,2)] (z9e o a c (by omega)) X0))],.r [(4,X (Xc0 (z2O (z0b ⟨o,a,c⟩) (by assumption)) (z0Y z0d (z0b ⟨o,a,c⟩) X0)))]] ((z1u (z0b ⟨o,a,c⟩)) !=0) (fun h2=> ?_) (fun h2=> ?_)
 ·
  exfalso
  omega
 ·
  exact .fin [.r []] [(0,0),(1,1),(2,2),(27,3)]
end Go.Ch
end
section
namespace Go.Ch
open Go Go.Ab
def y3R(w:DWr):DU->DWr
 | .K c=>⟨z1a (z0b w) 1 c,[],0⟩
 | .A e=>⟨w.out,w.add++[e],w.cut⟩
 | .C=>⟨w.out,w.add,w.cut+1⟩
def z1S(w:DWr):List DU->DWr
 | []=>w
 |u::us=>z1S (y3R w u) us
theorem y6e(e:List Elem)(us:List DU):∀w:DWr,z1S w (e.map .A++us)=z1S ⟨w.out,w.add++e,w.cut⟩ us:=by
 induction e with
 |nil=>intro w;simp
 |cons x e ih=>intro w;simp only[qZ,qy,z1S,y3R];rw[ih];simp
theorem x2y(n:Nat)(us:List DU):∀w:DWr,z1S w (List.replicate n .C++us)=z1S ⟨w.out,w.add,w.cut+n⟩ us:=by
 induction n with
 |zero=>intro w;simp
 |succ n ih=>intro w;simp only[qK,qy,z1S,y3R];rw[ih];simp only;rw[show w.cut+1+(n:Int)=w.cut+((n+1:Nat):Int) by omega]
theorem y7J(l:List DStep):z0b ⟨l,[],0⟩=l:=by simp[z0b]
theorem y4C{l:List DStep}{m n:Int}{c:List Attr}:z1a (z1a l m c) n c=z1a l (m+n) c:=by
 unfold z1a
 by_cases h:0<l.length/\(l.getD (l.length- 1) default).kind=0/\z0O (l.getD (l.length- 1) default).attrs c=true
 ·rw[if_pos h,if_pos h,x6h h.1,x6h h.1]
  generalize l.getD (l.length- 1) default=x at*
  have e:∀y:DStep,(List.take (l.length- 1) l++[y]).getD ((List.take (l.length- 1) l++[y]).length- 1) default=y:=fun y=>by simp
  rw[e,if_pos ⟨by simp,h.2.1,h.2.2⟩,x6h (by simp)]
  have t:∀y:DStep,(List.take (l.length- 1) l++[y]).take ((List.take (l.length- 1) l++[y]).length- 1)=List.take (l.length- 1) l:=fun y=>by simp
  rw[t,Int.add_assoc]
 ·rw[if_neg h,if_neg h]
  have e:∀y:DStep,(l++[y]).getD ((l++[y]).length- 1) default=y:=fun y=>by simp
  rw[e,if_pos ⟨by simp,rfl,z4a c⟩,x6h (by simp)]
  simp
theorem y1q(c:List Attr)(us:List DU):∀(n:Nat) (w:DWr),z1S w (List.replicate (n+1) (.K c)++us)=z1S ⟨z1a (z0b w) ((n+1:Nat):Int) c,[],0⟩ us
 |0,w=>by simp[z1S,y3R]
 |n+1,w=>by
  rw[qK,qy,z1S,y1q c us n]
  simp only[y3R]
  rw[y7J,y4C,show(1:Int)+((n+1:Nat):Int)=((n+1+1:Nat):Int) by omega]
def z1G:DU->Prop
 | .K c=>VG true c/\c.length<=400000000000
 | .A e=>z05 e=0/\e.attrs.length<=400000000000
 | .C=>True
structure WBd(w:DWr):Prop where
 out:DN 400000000000 w.out
 add:AN 400000000000 w.add
theorem WBd.flush{w:DWr}(h:WBd w)(hl:w.add.length<=400000000000):DN 400000000000 (z0b w):=by
 intro s hs
 unfold z0b at hs
 simp only[qj] at hs
 rcases hs with(hs|hs)|hs
 ·exact h.out s hs
 ·split at hs
  ·rw[qA] at hs;subst hs;exact⟨hl,by simp,h.add⟩
  ·cases hs
 ·split at hs
  ·rw[qA] at hs;subst hs;exact⟨by simp,by simp,fun x hx=>by cases hx⟩
  ·cases hs
theorem WBd.keep{w:DWr}{n:Int}{c:List Attr}(h:WBd w)(hl:w.add.length<=400000000000)(hc:c.length<=400000000000):WBd ⟨z1a (z0b w) n c,[],0⟩:=by
 have hf:=h.flush hl
 refine⟨fun s hs=> ?_,fun x hx=>by cases hx⟩
 simp only at hs
 unfold z1a at hs
 split at hs
 ·rename_i q
  rw[x6h q.1,qj] at hs
  rcases hs with hs|hs
  ·exact hf s (qE hs)
  ·rw[qA] at hs;subst hs
   have:=hf _ (y3b q.1)
   exact this
 ·rw[qj] at hs
  rcases hs with hs|hs
  ·exact hf s hs
  ·rw[qA] at hs;subst hs;exact⟨by simp,hc,fun x hx=>by cases hx⟩
theorem x42{s:DStep}(h:y4B s):1<=(exS s).length/\(s.kind≠1->s.n<=(exS s).length)/\0<=s.n/\(s.kind=1->s.n=0):=by
 unfold exS
 rcases h with⟨k,n,a,e,_⟩| ⟨k,_,_,n1,_⟩
 ·rw[if_pos k,qk]
  have:0<s.elems.length:=zR.2 e
  exact⟨this,fun q=>absurd k q,by omega,fun _=>n⟩
 ·have k1:¬s.kind=1:=by omega
  rw[if_neg k1]
  refine⟨?_,fun _=> ?_,by omega,fun q=>absurd q k1⟩<;>split<;>simp<;>omega
theorem y4D:∀{l:List DStep},(∀s∈l,y4B s)->l.length<=(exD l).length/\∀s∈l,0<=s.n/\s.n<=((exD l).length:Int)
 | [],_=>⟨qn _,fun s hs=>by cases hs⟩
 |s::l,h=>by
  have h1:=x42 (h s (by simp))
  have h2:=y4D (l:=l) (fun t ht=>h t (by simp[ht]))
  simp only[exD,qf,qi]
  refine⟨by omega,fun t ht=> ?_⟩
  rcases qg.1 ht with rfl|ht
  ·refine⟨h1.2.2.1,?_⟩
   by_cases k:t.kind=1
   ·have:=h1.2.2.2 k;omega
   ·have:=h1.2.1 k;omega
  ·have:=h2.2 t ht;omega
structure DI(w:DWr)(us:List DU)(T:Nat)(G:DWr):Prop where
 good:GoodD w
 wb:WBd w
 units:∀u∈us,z1G u
 len:(y0l w).length+us.length=T
 small:T<=8589934592
 eq:z1S w us=G
variable {w G:DWr} {us:List DU} {T:Nat}
theorem DI.bd(h:DI w us T G):w.out.length<=T/\w.add.length<=T/\0<=w.cut/\w.cut<=T/\us.length<=T/\T<=8589934592/\w.add.length+us.length<=T/\w.cut+us.length<=T:=by
 have h1:=(y4D h.good.ok).1
 have h2:=h.good.cut
 have h3:=h.len
 have h4:=h.small
 unfold y0l at h3
 simp only[qf,zx,qk] at h3
 omega
theorem DI.fl(h:DI w us T G):(∀s∈z0b w,0<=s.n/\s.n<=10000000000)/\DN 400000000000 (z0b w):=by
 have hb:=h.bd
 refine⟨fun s hs=> ?_,h.wb.flush (by omega)⟩
 have h1:=(y4D (z63 h.good).1).2 s hs
 rw[z9c h.good] at h1
 have h3:=h.len
 omega
theorem DI.keep{n:Nat}{c:List Attr}(h:DI w (List.replicate (n+1) (.K c)++us) T G):DI ⟨z1a (z0b w) ((n+1:Nat):Int) c,[],0⟩ us T G:=by
 have hu:=h.units (.K c) (by rw[qK];simp)
 have hb:=h.bd
 obtain⟨g1,g2⟩:=h.good.keep (n:=((n+1:Nat):Int)) (by omega) hu.1
 refine⟨g1,h.wb.keep (by omega) hu.2,fun u hu=>h.units u (by simp[hu]),?_,h.small,?_⟩
 ·have h3:=h.len
  rw[g2]
  simp only[qf,zx] at h3|-
  omega
 ·rw[<-h.eq,y1q]
theorem y9Q{u v:List DU}(h:DSw u v):u.length=v.length:=by
 induction h with
 |refl u=>rfl
 |cons x _ ih=>simp[ih]
 |swap e u=>rfl
 |symm _ ih=>exact ih.symm
 |trans _ _ a b=>exact a.trans b
theorem DI.elems{e:List Elem}(h:DI w (e.map .A++us) T G):DI ⟨w.out,w.add++e,w.cut⟩ us T G:=by
 have hu:∀x∈e,z1G (.A x):=fun x hx=>h.units (.A x) (by simp[hx])
 obtain⟨g1,g2⟩:=h.good.elems (e:=e) (fun x hx=>(hu x hx).1)
 refine⟨g1,⟨h.wb.out,fun x hx=> ?_⟩,fun u hu=>h.units u (by simp[hu]),?_,h.small,?_⟩
 ·rcases qj.1 hx with hx|hx
  ·exact h.wb.add x hx
  ·exact(hu x hx).2
 ·have h3:=h.len
  rw[y9Q g2]
  simp only[qf,qk] at h3|-
  omega
 ·rw[<-h.eq,y6e]
theorem DI.cuts{n:Nat}(h:DI w (List.replicate n .C++us) T G):DI ⟨w.out,w.add,w.cut+n⟩ us T G:=by
 obtain⟨g1,g2⟩:=h.good.cuts (n:=(n:Int)) (by omega)
 refine⟨g1,⟨h.wb.out,h.wb.add⟩,fun u hu=>h.units u (by simp[hu]),?_,h.small,?_⟩
 ·have h3:=h.len
  rw[g2]
  simp only[qf,zx] at h3|-
  omega
 ·rw[<-h.eq,x2y]
theorem DI.done(h:DI w [] T G):w=G:=h.eq
def z5K(us:List DU):List DStep:=z0b (z1S ⟨[],[],0⟩ us)
theorem DI.start(h:∀u∈us,z1G u)(hs:us.length<=8589934592):DI ⟨[],[],0⟩ us us.length (z1S ⟨[],[],0⟩ us):=
 ⟨x3I,⟨fun s h=>(by cases h),fun x h=>(by cases h)⟩,h,by simp[y0l,exD],hs,rfl⟩
theorem y6f:∀(us:List DU) (w:DWr),GoodD w->(∀u∈us,z1G u)->GoodD (z1S w us)/\DSw (y0l (z1S w us)) (y0l w++us)
 | [],w,h,_=>⟨h,by simp only[z1S,qQ];exact .refl _⟩
 |u::us,w,h,hu=>by
  have h0:=hu u (by simp)
  have hp:GoodD (y3R w u)/\DSw (y0l (y3R w u)) (y0l w++[u]):=by
   cases u with
   |K c=>
    obtain⟨g1,g2⟩:=h.keep (n:=1) (by decide) h0.1
    exact⟨g1,by simp only[y3R];rw[g2];exact .refl _⟩
   |A e=>
    obtain⟨g1,g2⟩:=h.elems (e:=[e]) (fun x hx=>by rw[qA] at hx;subst hx;exact h0.1)
    exact⟨g1,g2⟩
   |C=>
    obtain⟨g1,g2⟩:=h.cuts (n:=1) (by decide)
    exact⟨g1,by simp only[y3R];rw[g2];exact .refl _⟩
  obtain⟨q1,q2⟩:=y6f us (y3R w u) hp.1 (fun v hv=>hu v (by simp[hv]))
  refine⟨q1,.trans q2 ?_⟩
  have:=hp.2.right us
  simpa using this
theorem z5z(h:∀u∈us,z1G u)(h1:z0I us<=2147483647)(h2:z07 us<=2147483647):
 z1g (z5K us)/\DSw (exD (z5K us)) us/\z1Q (z5K us)=z0I us/\z2c (z5K us)=z07 us:=by
 obtain⟨q1,q2⟩:=y6f us ⟨[],[],0⟩ x3I h
 exact q1.valid (by simpa[y0l,exD] using q2) h1 h2
theorem y4E(us:List DU):us.length<=z0I us+z07 us:=by
 induction us with
 |nil=>simp[z0I]
 |cons u us ih=>cases u<;>simp[z0I,z07]<;>omega
end Go.Ch
end
section
namespace Go.Ch
open Go Go.Ab
theorem z2j(g:Attr->Attr->Option Attr)(a b:List Attr):(fm g a b).length<=a.length+b.length:=by
 unfold fm
 exact qP (zV _ _) (y9k a b)
def KOk(us:List DU):Prop:=(∀c,DU.K c∈us->VG true c/\c.length<=100000000000)/\(∀e,DU.A e∈us->z05 e=0/\e.attrs.length<=100000000000)
def EOk(r:List Elem):Prop:=∀x∈r,z05 x=0/\x.attrs.length<=100000000000
theorem KOk.tail{u:DU}{us:List DU}(h:KOk (u::us)):KOk us:=⟨fun c hc=>h.1 c (by simp[hc]),fun e he=>h.2 e (by simp[he])⟩
theorem EOk.tail{x:Elem}{r:List Elem}(h:EOk (x::r)):EOk r:=fun y hy=>h y (by simp[hy])
theorem z29:∀(us:List DU) (r:List Elem),z0I us=r.length->(z0s us r).length=z07 us
 | [],r,h=>by simp[z0s,z07]
 | .A e::us,r,h=>by
  have:=z29 us r (by simpa[z0I] using h)
  simp[z0s,z07,this]
 | .K c::us,[],h=>by simp[z0I] at h
 | .C::us,[],h=>by simp[z0I] at h
 | .K c::us,x::r,h=>by
  have:=z29 us r (by simpa[z0I] using h)
  simp[z0s,z07,this]
 | .C::us,x::r,h=>by
  have:=z29 us r (by simpa[z0I] using h)
  simp[z0s,z07,this]
theorem x43{x:Elem}{c:List Attr}(h:z05 x=0)(hc:VG true c):z05 (z7d c x)=0:=by
 have v:=y2I y7r (x4J h) hc
 unfold z05 at h|-
 unfold z7d
 simp only
 split at h
 ·omega
 ·rename_i q1
  rw[if_neg q1]
  split at h
  ·omega
  ·rename_i q2
   rw[if_neg q2]
   exact z1z.2 v
theorem y3c{l:List DStep}(h:∀s∈l,DOk s)(hd:DN 100000000000 l):KOk (exD l):=by
 induction l with
 |nil=>exact⟨fun c hc=>by simp[exD] at hc,fun c hc=>by simp[exD] at hc⟩
 |cons s l ih=>
  obtain⟨i1,i2⟩:=ih (fun t ht=>h t (by simp[ht])) (fun t ht=>hd t (by simp[ht]))
  have hs:=h s (by simp)
  obtain⟨b1,b2,b3⟩:=hd s (by simp)
  refine⟨fun c hc=> ?_,fun e he=> ?_⟩
  ·simp only[exD,qj] at hc
   rcases hc with hc|hc
   ·unfold exS at hc
    rcases hs with⟨k,_⟩| ⟨k,_,_,_,_,v⟩
    ·rw[if_pos k] at hc;simp at hc
    ·rw[if_neg (by omega)] at hc
     split at hc
     ·simp[zL] at hc
     ·have:=zM hc
      cases this
      exact⟨v,b2⟩
   ·exact i1 c hc
  ·simp only[exD,qj] at he
   rcases he with he|he
   ·unfold exS at he
    rcases hs with⟨k,_,_,_,q⟩| ⟨k,_⟩
    ·rw[if_pos k,qI] at he
     obtain⟨x,hx,e1⟩:=he
     cases e1
     exact⟨q _ hx,b3 _ hx⟩
    ·rw[if_neg (by omega)] at he
     split at he
     ·simp[zL] at he
     ·simp[zL] at he
   ·exact i2 e he
theorem y6g{us:List DU}(h:KOk us):UOk us:=by
 induction us with
 |nil=>trivial
 |cons u us ih=>
  cases u with
  |K c=>exact⟨(h.1 c (by simp)).1,ih h.tail⟩
  |A e=>exact ih h.tail
  |C=>exact ih h.tail
variable {w G:DWr} {us:List DU} {T:Nat}
theorem DN.mono{m n:Nat}{l:List DStep}(h:DN m l)(hm:m<=n):DN n l:=fun s hs=>⟨qP (h s hs).1 hm,qP (h s hs).2.1 hm,fun x hx=>qP ((h s hs).2.2 x hx) hm⟩
end Go.Ch
end
section
namespace Go.Ch
open Go Go.Ab
def z3R(b:Bool):Tree:= .sc (.bool b)
structure Act where
 ins:List (List Elem)
 cut:List Bool
 set:List (List Attr)
variable {w G:DWr} {us:List DU} {T:Nat}
theorem DI.keep1{c:List Attr}(h:DI w (.K c::us) T G):DI ⟨z1a (z0b w) 1 c,[],0⟩ us T G:=DI.keep (n:=0) h
theorem DI.cut1(h:DI w (.C::us) T G):DI ⟨w.out,w.add,w.cut+1⟩ us T G:=DI.cuts (n:=1) h
end Go.Ch
end
section

end
section

end
section
namespace Go.Ch
open Go Go.Ab
def onB:ByteArray:={data:=#[111,110]}
def x2z:DU->Prop
 | .K c=>VG true c/\c.length<=100
 | .A e=>z05 e=0/\e.attrs.length<=100
 | .C=>True
theorem x2z.ok{u:DU}(h:x2z u):z1G u:=by
 cases u with
 |K c=>exact⟨h.1,by have:=h.2;omega⟩
 |A e=>exact⟨h.1,by have:=h.2;omega⟩
 |C=>trivial
theorem z0K{α:Type}[Inhabited α]{l:List α}{k:Nat}(h:k<l.length):l.getD k default∈l:=by
 rw[show l.getD k default=l[k] by simp[List.getD,qb h]]
 exact zA h
theorem y1r{u v:List DU}(h:DSw u v):∀x,x∈u↔x∈v:=by
 induction h with
 |refl u=>exact fun x=>Iff.rfl
 |cons y _ ih=>intro x;simp[ih x]
 |swap e u=>intro x;simp only[qg];constructor<;>rintro(h|h|h)<;>simp[h]
 |symm _ ih=>exact fun x=>(ih x).symm
 |trans _ _ a b=>exact fun x=>(a x).trans (b x)
theorem y9R{l:List DStep}{s:DStep}(h:s∈l){u:DU}(hu:u∈exS s):u∈exD l:=by
 induction l with
 |nil=>cases h
 |cons t l ih=>
  simp only[exD,qj]
  rcases qg.1 h with rfl|h
  ·exact .inl hu
  ·exact .inr (ih h)
theorem y6h:∀{l:List DStep},(∀s∈l,DOk s)->∀s∈l,nS s<=z2c l
 | [],_,s,h=>by cases h
 |t::l,h,s,hs=>by
  have h1:=x6G (h t (by simp))
  have h2:=y1o (l:=l) (fun t ht=>h t (by simp[ht]))
  simp only[z2c]
  rcases qg.1 hs with rfl|hs
  ·omega
  ·have:=y6h (l:=l) (fun t ht=>h t (by simp[ht])) s hs;omega
theorem x8l{l:List DStep}{us:List DU}(hv:z1g l)(hs:DSw (exD l) us)(hu:∀u∈us,x2z u):DN 100000000000 l:=by
 intro s hs'
 have ho:=hv.1.all s hs'
 have hn:=y6h hv.1.all s hs'
 have v2:=hv.2.2
 have hm:=fun u hu'=>hu u ((y1r hs u).1 (y9R hs' (u:=u) hu'))
 unfold exS at hm
 unfold nS szD at hn
 rcases ho with⟨k,n,a,e,q⟩| ⟨k,a,b,n1,n2,v⟩
 ·rw[if_neg (by omega),if_pos k] at hn
  rw[if_pos k] at hm
  refine⟨by omega,by rw[a];simp,fun x hx=> ?_⟩
  have:=(hm (.A x) (qI.2 ⟨x,hx,rfl⟩)).2
  omega
 ·rw[if_neg (by omega)] at hm
  refine⟨by rw[a];simp,?_,fun x hx=>by rw[a] at hx;cases hx⟩
  by_cases k2:s.kind=2
  ·rw[b k2];simp
  ·rw[if_neg k2] at hm
   have:=(hm (.K s.attrs) (by rw[zL];exact⟨by omega,rfl⟩)).2
   omega
end Go.Ch
end
section
namespace Go.Ch
open Go Go.Ab
variable {w G:DWr} {us:List DU} {T:Nat}
theorem DI.all:∀{us:List DU} {w:DWr},DI w us T G->DI G [] T G
 | [],w,h=>by have:=h.done;subst this;exact h
 | .K c::us,w,h=>DI.all h.keep1
 | .A e::us,w,h=>DI.all (DI.elems (e:=[e]) h)
 | .C::us,w,h=>DI.all h.cut1
theorem y6i(hu:∀u∈us,z1G u)(hs:us.length<=8589934592):DN 400000000000 (z5K us):=(DI.start hu hs).all.fl.2
end Go.Ch
end
section
namespace Go.Ch
open Go Go.Ab
def z0r:List DU->List DU->List DU
 | .C::p,q=> .C::z0r p q
 |p,.A e::q=> .A e::z0r p q
 | .K c::p,.K d::q=> .K (fm z7p c d)::z0r p q
 | .K _::p,.C::q=> .C::z0r p q
 | .A e::p,.K d::q=> .A (z7d d e)::z0r p q
 | .A _::p,.C::q=>z0r p q
 |p,[]=>p
 | [],_=>[]
termination_by p q=>p.length+q.length
end Go.Ch
end
section
namespace Go.Ch
open Go Go.Ab
theorem y9S:∀l:List Attr,fm z2e l []=l
 | []=>by simp[fm,z2g]
 |x::l=>by
  have ih:=y9S l
  unfold fm at ih|-
  rw[z2g,z3m,ih]
  have:z2e x default=some x:=by unfold z2e;rw[if_pos (show(default:Attr).name=mt from rfl)]
  rw[this];rfl
theorem z8p(x:Elem):z7d [] x=x:=by unfold z7d;rw[y9S]
def z0f:List DU->List DU->List DU×List DU
 | .A e::p,q=>(.A e::(z0f p q).1,.K []::(z0f p q).2)
 | [],.A e::q=>(.K []::(z0f [] q).1,.A e::(z0f [] q).2)
 | .K c::p,.A e::q=>(.K []::(z0f (.K c::p) q).1,.A e::(z0f (.K c::p) q).2)
 | .C::p,.A e::q=>(.K []::(z0f (.C::p) q).1,.A e::(z0f (.C::p) q).2)
 | .K c::p,.K d::q=>(.K (fm z3N c d)::(z0f p q).1,.K d::(z0f p q).2)
 | .K _::p,.C::q=>((z0f p q).1,.C::(z0f p q).2)
 | .C::p,.K _::q=>(.C::(z0f p q).1,(z0f p q).2)
 | .C::p,.C::q=>z0f p q
 |_,[]=>([],[])
 | [],_=>([],[])
termination_by p q=>p.length+q.length
theorem y9T{x:Elem}{c d:List Attr}(hx:VG false x.attrs)(hc:VG true c)(hd:VG true d):z7d d (z7d c x)=z7d (fm z3N c d) (z7d d x):=by
 unfold z7d
 simp only
 rw[z98 y7r hx hc hd]
theorem z1h:∀(n:Nat) (p q:List DU) (l:List Elem),p.length+q.length<=n->z0I p=l.length->z0I q=l.length->UOk p->UOk q->(∀x∈l,VG false x.attrs)->
 z0s (z0f p q).2 (z0s p l)=z0s (z0f p q).1 (z0s q l)/\
 z0I (z0f p q).2=z07 p/\z0I (z0f p q).1=z07 q/\z07 (z0f p q).1=z07 (z0f p q).2
 |n,.A e::p,q,l,hn,ho,hm,hp,hq,hl=>by
  simp only[qi] at hn
  obtain⟨n,rfl⟩:∃k,n=k+1:=⟨n- 1,by omega⟩
  obtain⟨i1,i2,i3,i4⟩:=z1h n p q l (by omega) (by simpa[z0I] using ho) hm hp hq hl
  rw[z0f]
  simp only[z0s,z8p,z0I,z07]
  exact⟨by rw[i1],by omega,by omega,by omega⟩
 |n,[],.A e::q,l,hn,ho,hm,hp,hq,hl=>by
  simp only[qi] at hn
  obtain⟨n,rfl⟩:∃k,n=k+1:=⟨n- 1,by omega⟩
  obtain⟨i1,i2,i3,i4⟩:=z1h n [] q l (by simp only[zg] at hn|-;omega) ho (by simpa[z0I] using hm) hp hq hl
  rw[z0f]
  simp only[z0s,z8p,z0I,z07] at i1 i2 i3 i4|-
  exact⟨by rw[i1],by omega,by omega,by omega⟩
 |n,.K c::p,.A e::q,l,hn,ho,hm,hp,hq,hl=>by
  simp only[qi] at hn
  obtain⟨n,rfl⟩:∃k,n=k+1:=⟨n- 1,by omega⟩
  obtain⟨i1,i2,i3,i4⟩:=z1h n (.K c::p) q l (by simp only[qi];omega) ho (by simpa[z0I] using hm) hp hq hl
  rw[z0f]
  rw[show z0s (.A e::q) l=e::z0s q l by simp[z0s]]
  rw[z0s,z0s,i1,z8p]
  exact⟨rfl,i2,by simp only[z0I,z07];omega,by simp only[z07];omega⟩
 |n,.C::p,.A e::q,l,hn,ho,hm,hp,hq,hl=>by
  simp only[qi] at hn
  obtain⟨n,rfl⟩:∃k,n=k+1:=⟨n- 1,by omega⟩
  obtain⟨i1,i2,i3,i4⟩:=z1h n (.C::p) q l (by simp only[qi];omega) ho (by simpa[z0I] using hm) hp hq hl
  rw[z0f]
  rw[show z0s (.A e::q) l=e::z0s q l by simp[z0s]]
  rw[z0s,z0s,i1,z8p]
  exact⟨rfl,i2,by simp only[z0I,z07];omega,by simp only[z07];omega⟩
 |n,.K c::p,.K d::q,[],hn,ho,hm,hp,hq,hl=>by simp[z0I] at ho
 |n,.K c::p,.K d::q,x::l,hn,ho,hm,hp,hq,hl=>by
  simp only[qi] at hn
  obtain⟨n,rfl⟩:∃k,n=k+1:=⟨n- 1,by omega⟩
  obtain⟨i1,i2,i3,i4⟩:=z1h n p q l (by omega) (by simpa[z0I] using ho) (by simpa[z0I] using hm) hp.2 hq.2 (fun y hy=>hl y (by simp[hy]))
  rw[z0f]
  simp only[z0s,z0I,z07]
  exact⟨by rw[i1,y9T (hl x (by simp)) hp.1 hq.1],by omega,by omega,by omega⟩
 |n,.K c::p,.C::q,[],hn,ho,hm,hp,hq,hl=>by simp[z0I] at ho
 |n,.K c::p,.C::q,x::l,hn,ho,hm,hp,hq,hl=>by
  simp only[qi] at hn
  obtain⟨n,rfl⟩:∃k,n=k+1:=⟨n- 1,by omega⟩
  obtain⟨i1,i2,i3,i4⟩:=z1h n p q l (by omega) (by simpa[z0I] using ho) (by simpa[z0I] using hm) hp.2 hq (fun y hy=>hl y (by simp[hy]))
  rw[z0f]
  simp only[z0s,z0I,z07]
  exact⟨i1,by omega,by omega,by omega⟩
 |n,.C::p,.K d::q,[],hn,ho,hm,hp,hq,hl=>by simp[z0I] at ho
 |n,.C::p,.K d::q,x::l,hn,ho,hm,hp,hq,hl=>by
  simp only[qi] at hn
  obtain⟨n,rfl⟩:∃k,n=k+1:=⟨n- 1,by omega⟩
  obtain⟨i1,i2,i3,i4⟩:=z1h n p q l (by omega) (by simpa[z0I] using ho) (by simpa[z0I] using hm) hp hq.2 (fun y hy=>hl y (by simp[hy]))
  rw[z0f]
  simp only[z0s,z0I,z07]
  exact⟨i1,by omega,by omega,by omega⟩
 |n,.C::p,.C::q,[],hn,ho,hm,hp,hq,hl=>by simp[z0I] at ho
 |n,.C::p,.C::q,x::l,hn,ho,hm,hp,hq,hl=>by
  simp only[qi] at hn
  obtain⟨n,rfl⟩:∃k,n=k+1:=⟨n- 1,by omega⟩
  obtain⟨i1,i2,i3,i4⟩:=z1h n p q l (by omega) (by simpa[z0I] using ho) (by simpa[z0I] using hm) hp hq (fun y hy=>hl y (by simp[hy]))
  rw[z0f]
  simp only[z0s,z0I,z07]
  exact⟨i1,by omega,by omega,by omega⟩
 |n,[],[],l,hn,ho,hm,hp,hq,hl=>by simp[z0f,z0s,z0I,z07]
 |n,[],.K d::q,l,hn,ho,hm,hp,hq,hl=>by simp only[z0I] at ho hm;omega
 |n,[],.C::q,l,hn,ho,hm,hp,hq,hl=>by simp only[z0I] at ho hm;omega
 |n,.K c::p,[],l,hn,ho,hm,hp,hq,hl=>by simp only[z0I] at ho hm;omega
 |n,.C::p,[],l,hn,ho,hm,hp,hq,hl=>by simp only[z0I] at ho hm;omega
theorem z1H:∀(n:Nat) (p q:List DU),p.length+q.length<=n->z07 p=z0I q->z0I (z0r p q)=z0I p/\z07 (z0r p q)=z07 q
 |n,.C::p,q,hn,hm=>by
  simp only[qi] at hn
  obtain⟨n,rfl⟩:∃k,n=k+1:=⟨n- 1,by omega⟩
  have i:=z1H n p q (by omega) (by simpa[z07] using hm)
  rw[z0r];simp only[z0I,z07];omega
 |n,[],.A e::q,hn,hm=>by
  simp only[qi] at hn
  obtain⟨n,rfl⟩:∃k,n=k+1:=⟨n- 1,by omega⟩
  have i:=z1H n [] q (by simp only[zg] at hn|-;omega) (by simpa[z0I] using hm)
  rw[z0r]
  ·simp only[z0I,z07] at i|-;omega
  ·intro p hp;cases hp
 |n,.A a::p,.A e::q,hn,hm=>by
  simp only[qi] at hn
  obtain⟨n,rfl⟩:∃k,n=k+1:=⟨n- 1,by omega⟩
  have i:=z1H n (.A a::p) q (by simp only[qi];omega) (by simpa[z0I] using hm)
  rw[z0r]
  ·simp only[z0I,z07] at i|-;omega
  ·intro p hp;cases hp
 |n,.K c::p,.A e::q,hn,hm=>by
  simp only[qi] at hn
  obtain⟨n,rfl⟩:∃k,n=k+1:=⟨n- 1,by omega⟩
  have i:=z1H n (.K c::p) q (by simp only[qi];omega) (by simpa[z0I] using hm)
  rw[z0r]
  ·simp only[z0I,z07] at i|-;omega
  ·intro p hp;cases hp
 |n,.K c::p,.K d::q,hn,hm=>by
  simp only[qi] at hn
  obtain⟨n,rfl⟩:∃k,n=k+1:=⟨n- 1,by omega⟩
  have i:=z1H n p q (by omega) (by simpa[z07,z0I] using hm)
  rw[z0r];simp only[z0I,z07];omega
 |n,.K c::p,.C::q,hn,hm=>by
  simp only[qi] at hn
  obtain⟨n,rfl⟩:∃k,n=k+1:=⟨n- 1,by omega⟩
  have i:=z1H n p q (by omega) (by simpa[z07,z0I] using hm)
  rw[z0r];simp only[z0I,z07];omega
 |n,.A a::p,.K d::q,hn,hm=>by
  simp only[qi] at hn
  obtain⟨n,rfl⟩:∃k,n=k+1:=⟨n- 1,by omega⟩
  have i:=z1H n p q (by omega) (by simpa[z07,z0I] using hm)
  rw[z0r];simp only[z0I,z07];omega
 |n,.A a::p,.C::q,hn,hm=>by
  simp only[qi] at hn
  obtain⟨n,rfl⟩:∃k,n=k+1:=⟨n- 1,by omega⟩
  have i:=z1H n p q (by omega) (by simpa[z07,z0I] using hm)
  rw[z0r];simp only[z0I,z07];omega
 |n,[],[],hn,hm=>by simp[z0r,z0I,z07]
 |n,[],.K d::q,hn,hm=>by simp[z0I,z07] at hm
 |n,[],.C::q,hn,hm=>by simp[z0I,z07] at hm
 |n,.K c::p,[],hn,hm=>by simp[z0I,z07] at hm
 |n,.A c::p,[],hn,hm=>by simp[z0I,z07] at hm
end Go.Ch
namespace Go.Ch
open Go Go.Ab
def z2W(l:List DStep):Int:=if l.length=0 then-1 else(l.getD 0 default).kind
end Go.Ch
end
section
set_option maxRecDepth 100000
set_option maxHeartbeats 4000000
open Go Go.Proofs Go.Ab
namespace Go.Ch
theorem z3G(l:List DStep)(u:Int):FC Tryz.prog 85 [.ptr 0 0] (app emp [(0,.box [VL 4 z0d l,VI u])]) (VI (z2W l)) (app emp [(0,.box [VL 4 z0d l,VI u])]):=by
 refine .go Tryz.f85 ?_
 refine .bp [.r [],.r [(4,X (Xl z0d l))]] ((l.length:Int)==0) (fun h1=> ?_) (fun h1=> ?_)
 ·
  have e1:((z2W l):Int)= -1:=by
   unfold z2W;((repeat' split)<;>first|rfl|omega| (simp_all;done)| (simp_all;omega))
  exact .finE [.r []] [(0,0)] (fun z0:Int=>(VI z0,[(0,.box [VL 4 z0d l,VI u])])) _ _ e1
 ·
  have e2:((z2W l):Int)=((l.getD 0 default)).kind:=by
   unfold z2W;((repeat' split)<;>first|rfl|omega| (simp_all;done)| (simp_all;omega))
  exact .finE [.r [(4,X (Xi z0d l 0))]] [(0,0)] (fun z0:Int=>(VI z0,[(0,.box [VL 4 z0d l,VI u])])) _ _ e2
theorem z3H(l:List DStep)(u:Int)(h0:0<l.length)(hb: -9223372036854775808<=szD (l.getD 0 default)- u/\szD (l.getD 0 default)- u<=9223372036854775807):FC Tryz.prog 87 [.ptr 0 0] (app emp [(0,.box [VL 4 z0d l,VI u])]) (VI (szD (l.getD 0 default)- u)) (app emp [(0,.box [VL 4 z0d l,VI u])]):=by
 refine .go Tryz.f87 ?_
 have e1:((szD (l.getD 0 default)- u):Int)=((szD ((l.getD 0 default)))- u):=by
  (first|omega|with_reducible exact fun h=>h| (intro hq;rw[hq];done)| (intro hq;rw[hq];rfl)| (simp only[qk];done)| (simp only[qk];omega)| (simp;omega)| (simp;done))
 exact .finE [.r [],.r [(4,X (Xi z0d l 0)),(6,X (Xc0 (z4A ((l.getD 0 default))) X0)),(11,X (Xn ((szD ((l.getD 0 default)))- u)))]] [(0,0)] (fun z0:Int=>(VI z0,[(0,.box [VL 4 z0d l,VI u])])) _ _ e1
def tkE(l:List DStep)(u n:Int):DStep:=if(l.getD 0 default).kind=1 then⟨(l.getD 0 default).kind,(l.getD 0 default).n,(l.getD 0 default).attrs,((l.getD 0 default).elems.take (u+n).toNat).drop u.toNat⟩ else⟨(l.getD 0 default).kind,n,(l.getD 0 default).attrs,(l.getD 0 default).elems⟩
def tkL(l:List DStep)(u n:Int):List DStep:=if u+n=szD (l.getD 0 default) then l.drop 1 else l
def tkN(l:List DStep)(u n:Int):Int:=if u+n=szD (l.getD 0 default) then 0 else u+n
theorem x2A(l:List DStep)(u n:Int)(h0:0<l.length)(hu:0<=u/\0<=n/\u+n<=szD (l.getD 0 default)/\u+n<=9223372036854775807):FC Tryz.prog 86 [.ptr 0 0,VI n] (app emp [(0,.box [VL 4 z0d l,VI u])]) (.t (z0d (tkE l u n))) (app emp [(0,.box [VL 4 z0d (tkL l u n),VI (tkN l u n)]),(1,.box [VI ((tkE l u n).kind),VI ((tkE l u n).n),VL 2 z0a ((tkE l u n).attrs),VL 3 z0c ((tkE l u n).elems)])]):=by
 refine .go Tryz.f86 ?_
 refine .bp [.r [],.r [(4,X (Xi z0d l 0))],.r []] ((((l.getD 0 default)).kind)==1) (fun h2=> ?_) (fun h2=> ?_)
 ·
  have hsz:szD (l.getD 0 default)=(l.getD 0 default).elems.length:=by unfold szD;rw[if_pos (by omega)]
  refine .bp [.r [(11,X (Xn (u+n))),(12,X (Xsb z0c 3 (((l.getD 0 default)).elems) u (u+n)))],.r [(5,X (Xn (u+n)))],.r [(8,X (Xi z0d l 0)),(10,X (Xc0 (z4A ((l.getD 0 default))) X0))]] ((u+n)==(szD ((l.getD 0 default)))) (fun h6=> ?_) (fun h6=> ?_)
  ·
   have e1:((tkL l u n):List DStep)=(l.drop 1):=by
    simp only[tkE,tkL,tkN];((repeat' split)<;>first|rfl|omega| (simp_all;done)| (simp_all;omega))
   have e2:((tkN l u n):Int)=0:=by
    simp only[tkE,tkL,tkN];((repeat' split)<;>first|rfl|omega| (simp_all;done)| (simp_all;omega))
   have e3:((tkE l u n).kind:Int)=((l.getD 0 default)).kind:=by
    simp only[tkE,tkL,tkN];((repeat' split)<;>first|rfl|omega| (simp_all;done)| (simp_all;omega))
   have e4:((tkE l u n).n:Int)=((l.getD 0 default)).n:=by
    simp only[tkE,tkL,tkN];((repeat' split)<;>first|rfl|omega| (simp_all;done)| (simp_all;omega))
   have e5:((tkE l u n).attrs:List Attr)=((l.getD 0 default)).attrs:=by
    simp only[tkE,tkL,tkN];((repeat' split)<;>first|rfl|omega| (simp_all;done)| (simp_all;omega))
   have e6:((tkE l u n).elems:List Elem)=(((((l.getD 0 default)).elems).take (Int.toNat (u+n))).drop (Int.toNat u)):=by
    simp only[tkE,tkL,tkN];((repeat' split)<;>first|rfl|omega| (simp_all;done)| (simp_all;omega))
   have e7:((tkE l u n):DStep)=({kind:=((l.getD 0 default)).kind,n:=((l.getD 0 default)).n,attrs:=((l.getD 0 default)).attrs,elems:=(((((l.getD 0 default)).elems).take (Int.toNat (u+n))).drop (Int.toNat u))}:DStep):=by
    simp only[tkE,tkL,tkN];((repeat' split)<;>first|rfl|omega| (simp_all;done)| (simp_all;omega))
   exact .finE [.r [(6,X (Xsd z0d 4 l 1))],.r []] [(0,0),(1,1)] (fun((z0,z1,z2,z3,z4,z5,z6):(List DStep)×Int×Int×Int×(List Attr)×(List Elem)×DStep)=>(.t (z0d z6),[(0,.box [VL 4 z0d z0,VI z1]),(1,.box [VI z2,VI z3,VL 2 z0a z4,VL 3 z0c z5])])) _ _ (pr e1 (pr e2 (pr e3 (pr e4 (pr e5 (pr e6 e7))))))
  ·
   have e8:((tkL l u n):List DStep)=l:=by
    simp only[tkE,tkL,tkN];((repeat' split)<;>first|rfl|omega| (simp_all;done)| (simp_all;omega))
   have e9:((tkN l u n):Int)=(u+n):=by
    simp only[tkE,tkL,tkN];((repeat' split)<;>first|rfl|omega| (simp_all;done)| (simp_all;omega))
   have e10:((tkE l u n).kind:Int)=((l.getD 0 default)).kind:=by
    simp only[tkE,tkL,tkN];((repeat' split)<;>first|rfl|omega| (simp_all;done)| (simp_all;omega))
   have e11:((tkE l u n).n:Int)=((l.getD 0 default)).n:=by
    simp only[tkE,tkL,tkN];((repeat' split)<;>first|rfl|omega| (simp_all;done)| (simp_all;omega))
   have e12:((tkE l u n).attrs:List Attr)=((l.getD 0 default)).attrs:=by
    simp only[tkE,tkL,tkN];((repeat' split)<;>first|rfl|omega| (simp_all;done)| (simp_all;omega))
   have e13:((tkE l u n).elems:List Elem)=(((((l.getD 0 default)).elems).take (Int.toNat (u+n))).drop (Int.toNat u)):=by
    simp only[tkE,tkL,tkN];((repeat' split)<;>first|rfl|omega| (simp_all;done)| (simp_all;omega))
   have e14:((tkE l u n):DStep)=({kind:=((l.getD 0 default)).kind,n:=((l.getD 0 default)).n,attrs:=((l.getD 0 default)).attrs,elems:=(((((l.getD 0 default)).elems).take (Int.toNat (u+n))).drop (Int.toNat u))}:DStep):=by
    simp only[tkE,tkL,tkN];((repeat' split)<;>first|rfl|omega| (simp_all;done)| (simp_all;omega))
   exact .finE [.r []] [(0,0),(1,1)] (fun((z0,z1,z2,z3,z4,z5,z6):(List DStep)×Int×Int×Int×(List Attr)×(List Elem)×DStep)=>(.t (z0d z6),[(0,.box [VL 4 z0d z0,VI z1]),(1,.box [VI z2,VI z3,VL 2 z0a z4,VL 3 z0c z5])])) _ _ (pr e8 (pr e9 (pr e10 (pr e11 (pr e12 (pr e13 e14))))))
 ·
  refine .bp [.r [],.r [(5,X (Xn (u+n)))],.r [(8,X (Xi z0d l 0)),(10,X (Xc0 (z4A ((l.getD 0 default))) X0))]] ((u+n)==(szD ((l.getD 0 default)))) (fun h6=> ?_) (fun h6=> ?_)
  ·
   have e15:((tkL l u n):List DStep)=(l.drop 1):=by
    simp only[tkE,tkL,tkN];((repeat' split)<;>first|rfl|omega| (simp_all;done)| (simp_all;omega))
   have e16:((tkN l u n):Int)=0:=by
    simp only[tkE,tkL,tkN];((repeat' split)<;>first|rfl|omega| (simp_all;done)| (simp_all;omega))
   have e17:((tkE l u n).kind:Int)=((l.getD 0 default)).kind:=by
    simp only[tkE,tkL,tkN];((repeat' split)<;>first|rfl|omega| (simp_all;done)| (simp_all;omega))
   have e18:((tkE l u n).n:Int)=n:=by
    simp only[tkE,tkL,tkN];((repeat' split)<;>first|rfl|omega| (simp_all;done)| (simp_all;omega))
   have e19:((tkE l u n).attrs:List Attr)=((l.getD 0 default)).attrs:=by
    simp only[tkE,tkL,tkN];((repeat' split)<;>first|rfl|omega| (simp_all;done)| (simp_all;omega))
   have e20:((tkE l u n).elems:List Elem)=((l.getD 0 default)).elems:=by
    simp only[tkE,tkL,tkN];((repeat' split)<;>first|rfl|omega| (simp_all;done)| (simp_all;omega))
   have e21:((tkE l u n):DStep)=({kind:=((l.getD 0 default)).kind,n:=n,attrs:=((l.getD 0 default)).attrs,elems:=((l.getD 0 default)).elems}:DStep):=by
    simp only[tkE,tkL,tkN];((repeat' split)<;>first|rfl|omega| (simp_all;done)| (simp_all;omega))
   exact .finE [.r [(6,X (Xsd z0d 4 l 1))],.r []] [(0,0),(1,1)] (fun((z0,z1,z2,z3,z4,z5,z6):(List DStep)×Int×Int×Int×(List Attr)×(List Elem)×DStep)=>(.t (z0d z6),[(0,.box [VL 4 z0d z0,VI z1]),(1,.box [VI z2,VI z3,VL 2 z0a z4,VL 3 z0c z5])])) _ _ (pr e15 (pr e16 (pr e17 (pr e18 (pr e19 (pr e20 e21))))))
  ·
   have e22:((tkL l u n):List DStep)=l:=by
    simp only[tkE,tkL,tkN];((repeat' split)<;>first|rfl|omega| (simp_all;done)| (simp_all;omega))
   have e23:((tkN l u n):Int)=(u+n):=by
    simp only[tkE,tkL,tkN];((repeat' split)<;>first|rfl|omega| (simp_all;done)| (simp_all;omega))
   have e24:((tkE l u n).kind:Int)=((l.getD 0 default)).kind:=by
    simp only[tkE,tkL,tkN];((repeat' split)<;>first|rfl|omega| (simp_all;done)| (simp_all;omega))
   have e25:((tkE l u n).n:Int)=n:=by
    simp only[tkE,tkL,tkN];((repeat' split)<;>first|rfl|omega| (simp_all;done)| (simp_all;omega))
   have e26:((tkE l u n).attrs:List Attr)=((l.getD 0 default)).attrs:=by
    simp only[tkE,tkL,tkN];((repeat' split)<;>first|rfl|omega| (simp_all;done)| (simp_all;omega))
   have e27:((tkE l u n).elems:List Elem)=((l.getD 0 default)).elems:=by
    simp only[tkE,tkL,tkN];((repeat' split)<;>first|rfl|omega| (simp_all;done)| (simp_all;omega))
   have e28:((tkE l u n):DStep)=({kind:=((l.getD 0 default)).kind,n:=n,attrs:=((l.getD 0 default)).attrs,elems:=((l.getD 0 default)).elems}:DStep):=by
    simp only[tkE,tkL,tkN];((repeat' split)<;>first|rfl|omega| (simp_all;done)| (simp_all;omega))
   exact .finE [.r []] [(0,0),(1,1)] (fun((z0,z1,z2,z3,z4,z5,z6):(List DStep)×Int×Int×Int×(List Attr)×(List Elem)×DStep)=>(.t (z0d z6),[(0,.box [VL 4 z0d z0,VI z1]),(1,.box [VI z2,VI z3,VL 2 z0a z4,VL 3 z0c z5])])) _ _ (pr e22 (pr e23 (pr e24 (pr e25 (pr e26 (pr e27 e28))))))
end Go.Ch
end
section
namespace Go.Ch
open Go Go.Ab
def ruD(l:List DStep)(u:Int):List DU:=(exD l).drop u.toNat
structure GoodRD(l:List DStep)(u:Int):Prop where
 ok:∀s∈l,DOk s
 pos:0<=u
 lt:0<l.length->u<szD (l.getD 0 default)
 nil:l.length=0->u=0
theorem y9U{s:DStep}(h:DOk s):((exS s).length:Int)=szD s:=by
 unfold exS szD
 rcases h with⟨k,_⟩| ⟨k,_,_,n1,_⟩
 ·rw[if_pos k,if_pos k,qk]
 ·have k1:¬s.kind=1:=by omega
  rw[if_neg k1,if_neg k1]
  split<;>rw[zx]<;>omega
theorem y9V(l:List DStep):ruD l 0=exD l:=rfl
theorem z3S{l:List DStep}{u:Int}(h:l.length=0):ruD l u=[]:=by
 rw[List.length_eq_zero_iff.1 h];unfold ruD;simp[exD]
theorem z9f{l:List DStep}{u n:Int}(ho:DOk (l.getD 0 default))(hu:0<=u)(hn:0<=n)(hl:u+n<=szD (l.getD 0 default)):
 (exS (l.getD 0 default)).drop u.toNat=exS (tkE l u n)++(exS (l.getD 0 default)).drop (u+n).toNat:=by
 unfold tkE
 generalize l.getD 0 default=s at*
 have hz:(u+n).toNat=u.toNat+n.toNat:=by omega
 unfold szD at hl
 by_cases k1:s.kind=1
 ·rw[if_pos k1] at hl|-
  unfold exS
  simp only[if_pos k1]
  rw[<-List.map_drop,<-List.map_drop,<-List.map_append]
  congr 1
  conv=>lhs;rw[<-List.take_append_drop (u+n).toNat s.elems]
  rw[zO (by rw[qB];omega)]
 ·rw[if_neg k1] at hl|-
  unfold exS
  simp only[if_neg k1]
  split
  ·rw[List.drop_replicate,List.drop_replicate,List.replicate_append_replicate];congr 1;omega
  ·rw[List.drop_replicate,List.drop_replicate,List.replicate_append_replicate];congr 1;omega
theorem z4M{l:List DStep}{u n:Int}(h:GoodRD l u)(h0:0<l.length)(hn:0<=n)(hl:u+n<=szD (l.getD 0 default)):
 GoodRD (tkL l u n) (tkN l u n)/\ruD l u=exS (tkE l u n)++ruD (tkL l u n) (tkN l u n):=by
 have ho:DOk (l.getD 0 default):=h.ok _ (z0K h0)
 have hz:=y9U ho
 have hp:=h.pos
 have hs:=z9f ho hp hn hl
 have hd:=y9D (l:=l) (i:=0) h0
 rw[List.drop_zero] at hd
 have he:exD l=exS (l.getD 0 default)++exD (l.drop 1):=by conv=>lhs;rw[hd,exD]
 have hlt:=h.lt h0
 unfold tkL tkN
 by_cases e:u+n=szD (l.getD 0 default)
 ·rw[if_pos e,if_pos e]
  refine⟨⟨fun s hs=>h.ok s (qC hs),zz _,fun h1=> ?_,fun _=>rfl⟩,?_⟩
  ·have:=z1D (z1d.2 (h.ok _ (qC (z0K h1))))
   omega
  ·rw[y9V]
   unfold ruD
   rw[he,zO (by omega),hs,qM (show(exS (l.getD 0 default)).length<=(u+n).toNat by omega),qQ]
 ·rw[if_neg e,if_neg e]
  refine⟨⟨h.ok,by omega,fun _=>by omega,fun h1=>by omega⟩,?_⟩
  unfold ruD
  rw[he,zO (by omega),zO (by omega),hs,qO]
theorem x9U(n:Nat)(p q:List DU):z0r (List.replicate n .C++p) q=List.replicate n .C++z0r p q:=by
 induction n with
 |zero=>rfl
 |succ n ih=>rw[qK,qy,z0r,ih,qy]
def x8m:List DU->Prop
 | .C::_=>False
 |_=>True
theorem x8n{p:List DU}(hp:x8m p)(e:Elem)(q:List DU):z0r p (.A e::q)= .A e::z0r p q:=by
 rw[z0r]
 intro p' h
 subst h
 exact hp
theorem x9V(e:List Elem){p:List DU}(hp:x8m p)(q:List DU):z0r p (e.map .A++q)=e.map .A++z0r p q:=by
 induction e with
 |nil=>rfl
 |cons x e ih=>rw[qZ,qy,x8n hp,ih,qy]
theorem x8o(n:Nat)(c d:List Attr)(p q:List DU):z0r (List.replicate n (.K c)++p) (List.replicate n (.K d)++q)=List.replicate n (.K (fm z7p c d))++z0r p q:=by
 induction n with
 |zero=>rfl
 |succ n ih=>rw[qK,qK,qK,qy,qy,z0r,ih,qy]
theorem x8p(n:Nat)(c:List Attr)(p q:List DU):z0r (List.replicate n (.K c)++p) (List.replicate n .C++q)=List.replicate n .C++z0r p q:=by
 induction n with
 |zero=>rfl
 |succ n ih=>rw[qK,qK,qy,qy,z0r,ih,qy]
theorem x8q(e:List Elem)(d:List Attr)(p q:List DU):z0r (e.map .A++p) (List.replicate e.length (.K d)++q)=(e.map (z7d d)).map .A++z0r p q:=by
 induction e with
 |nil=>rfl
 |cons x e ih=>rw[qZ,qi,qK,qy,qy,z0r,ih];rfl
theorem x8r(e:List Elem)(p q:List DU):z0r (e.map .A++p) (List.replicate e.length .C++q)=z0r p q:=by
 induction e with
 |nil=>rfl
 |cons x e ih=>rw[qZ,qi,qK,qy,qy,z0r,ih]
end Go.Ch
end
section
namespace Go.Ch
open Go Go.Ab
structure JD(w:DWr)(ps:List DStep)(pu:Int)(qs:List DStep)(qu:Int)(T:Nat)(G:DWr):Prop where
 gp:GoodRD ps pu
 gq:GoodRD qs qu
 dp:DN 100000000000 ps
 dq:DN 100000000000 qs
 eq:z07 (ruD ps pu)=z0I (ruD qs qu)
 di:DI w (z0r (ruD ps pu) (ruD qs qu)) T G
def jmD(ps:List DStep)(pu:Int)(qs:List DStep)(qu:Int):Nat:=(ruD ps pu).length+(ruD qs qu).length
theorem z4h{m:Nat}{l:List DStep}{u n:Int}(h:DN m l):DN m (tkL l u n):=by
 unfold tkL;split
 ·exact fun s hs=>h s (qC hs)
 ·exact h
theorem y1s{l:List DStep}{u n:Int}(k:(l.getD 0 default).kind=2):exS (tkE l u n)=List.replicate n.toNat .C:=by
 unfold tkE
 rw[if_neg (by omega)]
 unfold exS
 simp only
 rw[if_neg (by omega),if_pos k]
theorem y3d{l:List DStep}{u n:Int}(k:(l.getD 0 default).kind=1):exS (tkE l u n)=(tkE l u n).elems.map .A:=by
 unfold tkE
 rw[if_pos k]
 unfold exS
 simp only
 rw[if_pos k]
theorem z9g{l:List DStep}{u n:Int}(k:(l.getD 0 default).kind=0):exS (tkE l u n)=List.replicate n.toNat (.K (l.getD 0 default).attrs):=by
 unfold tkE
 rw[if_neg (by omega)]
 unfold exS
 simp only
 rw[if_neg (by omega),if_neg (by omega)]
section
variable {w:DWr} {ps qs:List DStep} {pu qu:Int} {T:Nat} {G:DWr}
theorem JD.cut(h:JD w ps pu qs qu T G)(h0:0<ps.length)(hk:(ps.getD 0 default).kind=2){n:Int}(hn:n=szD (ps.getD 0 default)- pu):
 JD ⟨w.out,w.add,w.cut+n⟩ (tkL ps pu n) (tkN ps pu n) qs qu T G/\jmD (tkL ps pu n) (tkN ps pu n) qs qu<jmD ps pu qs qu:=by
 have hl:=h.gp.lt h0
 obtain⟨g,e⟩:=z4M (n:=n) h.gp h0 (by omega) (by omega)
 rw[y1s hk] at e
 have hd:=h.di
 have he:=h.eq
 rw[e,x9U] at hd
 rw[e,z2f,(z3Q _).2] at he
 have hd2:=hd.cuts
 rw[show((n.toNat:Nat):Int)=n by omega] at hd2
 refine⟨⟨g,h.gq,z4h h.dp,h.dq,by omega,hd2⟩,?_⟩
 unfold jmD
 rw[e,List.length_append,List.length_replicate]
 omega
theorem x9W{l:List DStep}{u:Int}(h:GoodRD l u)(hk:0<l.length->(l.getD 0 default).kind≠2):x8m (ruD l u):=by
 by_cases h0:0<l.length
 ·have hl:=h.lt h0
  have hp:=h.pos
  have k2:=hk h0
  obtain⟨g,e⟩:=z4M (n:=1) h h0 (by decide) (by omega)
  have hs:=(z1D (z1d.2 (h.ok _ (z0K h0)))).1
  rcases hs with k|k|k
  ·rw[e,z9g k];trivial
  ·rw[e,y3d k]
   have hem:(tkE l u 1).elems.length=1:=by
    unfold tkE
    rw[if_pos k]
    simp only[List.length_drop,List.length_take]
    have:szD (l.getD 0 default)=(l.getD 0 default).elems.length:=by unfold szD;rw[if_pos k]
    omega
   generalize(tkE l u 1).elems=z at hem
   cases z with
   |nil=>simp at hem
   |cons x r=>trivial
  ·exact absurd k k2
 ·rw[z3S (by omega)];trivial
theorem JD.add(h:JD w ps pu qs qu T G)(hp:0<ps.length->(ps.getD 0 default).kind≠2)(h0:0<qs.length)(hk:(qs.getD 0 default).kind=1){n:Int}(hn:n=szD (qs.getD 0 default)- qu):
 JD ⟨w.out,w.add++(tkE qs qu n).elems,w.cut⟩ ps pu (tkL qs qu n) (tkN qs qu n) T G:=by
 have hl:=h.gq.lt h0
 obtain⟨g,e⟩:=z4M (n:=n) h.gq h0 (by omega) (by omega)
 rw[y3d hk] at e
 have hd:=h.di
 have he:=h.eq
 rw[e,x9V _ (x9W h.gp hp)] at hd
 rw[e,z0U,(z3P _).1] at he
 exact⟨h.gp,g,h.dp,z4h h.dq,by omega,hd.elems⟩
theorem z6c{l:List DStep}{u n:Int}(k:(l.getD 0 default).kind=1)(hu:0<=u)(hn:0<=n)(hl:u+n<=szD (l.getD 0 default)):(tkE l u n).elems.length=n.toNat:=by
 unfold tkE
 rw[if_pos k]
 simp only[List.length_drop,List.length_take]
 have:szD (l.getD 0 default)=(l.getD 0 default).elems.length:=by unfold szD;rw[if_pos k]
 omega
theorem JD.both(h:JD w ps pu qs qu T G)(a:0<ps.length)(b:0<qs.length)(kp:(ps.getD 0 default).kind≠2)(kq:(qs.getD 0 default).kind≠1){n:Int}(hn:n=min (szD (ps.getD 0 default)- pu) (szD (qs.getD 0 default)- qu)):
 (((ps.getD 0 default).kind=0/\(qs.getD 0 default).kind=0->JD ⟨z1a (z0b w) n (fm z7p (ps.getD 0 default).attrs (qs.getD 0 default).attrs),[],0⟩ (tkL ps pu n) (tkN ps pu n) (tkL qs qu n) (tkN qs qu n) T G)/\
 ((ps.getD 0 default).kind=0/\(qs.getD 0 default).kind=2->JD ⟨w.out,w.add,w.cut+n⟩ (tkL ps pu n) (tkN ps pu n) (tkL qs qu n) (tkN qs qu n) T G)/\
 ((ps.getD 0 default).kind=1/\(qs.getD 0 default).kind=0->JD ⟨w.out,w.add++(tkE ps pu n).elems.map (z7d (qs.getD 0 default).attrs),w.cut⟩ (tkL ps pu n) (tkN ps pu n) (tkL qs qu n) (tkN qs qu n) T G)/\
 ((ps.getD 0 default).kind=1/\(qs.getD 0 default).kind=2->JD w (tkL ps pu n) (tkN ps pu n) (tkL qs qu n) (tkN qs qu n) T G))/\
 jmD (tkL ps pu n) (tkN ps pu n) (tkL qs qu n) (tkN qs qu n)< jmD ps pu qs qu:=by
 have l1:=h.gp.lt a
 have l2:=h.gq.lt b
 have p1:=h.gp.pos
 have p2:=h.gq.pos
 obtain⟨g1,e1⟩:=z4M (n:=n) h.gp a (by omega) (by omega)
 obtain⟨g2,e2⟩:=z4M (n:=n) h.gq b (by omega) (by omega)
 have hd:=h.di
 have he:=h.eq
 have k1:=(z1D (z1d.2 (h.gp.ok _ (z0K a)))).1
 have k2:=(z1D (z1d.2 (h.gq.ok _ (z0K b)))).1
 refine⟨⟨fun k=> ?_,fun k=> ?_,fun k=> ?_,fun k=> ?_⟩,?_⟩
 ·rw[e1,e2,z9g k.1,z9g k.2] at hd he
  rw[x8o,show n.toNat=(n.toNat- 1)+1 by omega] at hd
  rw[z2f,z0U,(z2i _ _).1,(z2i _ _).2] at he
  have hd2:=hd.keep
  rw[show(((n.toNat- 1+1:Nat)):Int)=n by omega] at hd2
  exact⟨g1,g2,z4h h.dp,z4h h.dq,by omega,hd2⟩
 ·rw[e1,e2,z9g k.1,y1s k.2] at hd he
  rw[x8p] at hd
  rw[z2f,z0U,(z3Q _).1,(z2i _ _).2] at he
  have hd2:=hd.cuts
  rw[show((n.toNat:Nat):Int)=n by omega] at hd2
  exact⟨g1,g2,z4h h.dp,z4h h.dq,by omega,hd2⟩
 ·have hz:=z6c (n:=n) k.1 p1 (by omega) (by omega)
  rw[e1,e2,y3d k.1,z9g k.2] at hd he
  rw[z2f,z0U,(z2i _ _).1,(z3P _).2] at he
  rw[<-hz,x8q] at hd
  exact⟨g1,g2,z4h h.dp,z4h h.dq,by omega,hd.elems⟩
 ·have hz:=z6c (n:=n) k.1 p1 (by omega) (by omega)
  rw[e1,e2,y3d k.1,y1s k.2] at hd he
  rw[z2f,z0U,(z3Q _).1,(z3P _).2] at he
  rw[<-hz,x8r] at hd
  exact⟨g1,g2,z4h h.dp,z4h h.dq,by omega,hd⟩
 ·have hs:=y9U (h.gp.ok _ (z0K a))
  have hl:=congrArg List.length (z9f (n:=n) (h.gp.ok _ (z0K a)) p1 (by omega) (by omega))
  simp only[List.length_append,List.length_drop] at hl
  unfold jmD
  rw[e1,e2,List.length_append,List.length_append]
  omega
end
end Go.Ch
end
section
namespace Go.Ch
open Go Go.Ab
theorem y3e(p q:List DU)(hp:KOk p)(hq:KOk q):∀u∈z0r p q,z1G u:=by
 have okA:∀e:Elem,z05 e=0/\e.attrs.length<=100000000000->z1G (.A e):=fun e h=>⟨h.1,by omega⟩
 have okK:∀c:List Attr,VG true c/\c.length<=100000000000->z1G (.K c):=fun e h=>⟨h.1,by omega⟩
 have okU:∀us:List DU,KOk us->∀u∈us,z1G u:=fun us h u hu=>by
  cases u with
  |K c=>exact okK c (h.1 c hu)
  |A e=>exact okA e (h.2 e hu)
  |C=>trivial
 induction p,q using z0r.induct with
 |case1 q p ih=>
  rw[z0r]
  intro u hu
  rcases qg.1 hu with rfl|hu
  ·trivial
  ·exact ih hp.tail hq u hu
 |case2 p e q hne ih=>
  rw[z0r]
  rotate_left
  ·exact hne
  intro u hu
  rcases qg.1 hu with rfl|hu
  ·exact okA _ (hq.2 e (by simp))
  ·exact ih hp hq.tail u hu
 |case3 c p d q ih=>
  rw[z0r]
  intro u hu
  rcases qg.1 hu with rfl|hu
  ·have h1:=hp.1 c (by simp)
   have h2:=hq.1 d (by simp)
   have:=z2j z7p c d
   exact⟨x6v y7r h1.1 h2.1,by omega⟩
  ·exact ih hp.tail hq.tail u hu
 |case4 c p q ih=>
  rw[z0r]
  intro u hu
  rcases qg.1 hu with rfl|hu
  ·trivial
  ·exact ih hp.tail hq.tail u hu
 |case5 e p d q ih=>
  rw[z0r]
  intro u hu
  rcases qg.1 hu with rfl|hu
  ·have h1:=hp.2 e (by simp)
   have h2:=hq.1 d (by simp)
   have:=z2j z2e e.attrs d
   refine⟨x43 h1.1 h2.1,?_⟩
   show(fm z2e e.attrs d).length<=_
   omega
  ·exact ih hp.tail hq.tail u hu
 |case6 e p q ih=>
  rw[z0r]
  exact ih hp.tail hq.tail
 |case7 p hne=>
  rw[show z0r p []=p by unfold z0r;split<;>simp_all]
  exact okU _ hp
 |case8 q h1 h2=>
  rw[show z0r [] q=[] by unfold z0r;split<;>simp_all]
  intro u hu;cases hu
def z5e(a b:List DStep):List DStep:=z5K (z0r (exD a) (exD b))
theorem y1t{l:List DStep}(h:z1g l):GoodRD l 0:=⟨h.1.all,zz _,fun h0=>by have:=z1D (z1d.2 (h.1.all _ (z0K h0)));omega,fun _=>rfl⟩
theorem z5U{l:List DStep}(h:z1g l):(z0I (exD l):Int)=z1Q l/\(z07 (exD l):Int)=z2c l:=y9P (fun s hs=>okW (h.1.all s hs))
theorem y0m{a b:List DStep}(va:z1g a)(vb:z1g b)(da:DN 100000000000 a)(db:DN 100000000000 b)(hm:z2c a=z1Q b):
 (∀u∈z0r (exD a) (exD b),z1G u)/\(z0I (z0r (exD a) (exD b)):Int)=z1Q a/\(z07 (z0r (exD a) (exD b)):Int)=z2c b/\
 JD ⟨[],[],0⟩ a 0 b 0 (z0r (exD a) (exD b)).length (z1S ⟨[],[],0⟩ (z0r (exD a) (exD b)))/\z1g (z5e a b)/\DSw (exD (z5e a b)) (z0r (exD a) (exD b))/\
 z1Q (z5e a b)=z1Q a/\z2c (z5e a b)=z2c b:=by
 have hu:=y3e _ _ (y3c va.1.all da) (y3c vb.1.all db)
 have la:=z5U va
 have lb:=z5U vb
 have hl:=z1H _ (exD a) (exD b) (qn _) (by omega)
 have hs:=y4E (z0r (exD a) (exD b))
 have a1:=va.2.1
 have b1:=vb.2.2
 obtain⟨d1,d2,d3,d4⟩:=z5z hu (by omega) (by omega)
 exact⟨hu,by omega,by omega,⟨y1t va,y1t vb,da,db,by rw[y9V,y9V];omega,by rw[y9V,y9V];exact DI.start hu (by omega)⟩,d1,d2,by unfold z5e;omega,by unfold z5e;omega⟩
theorem y6j{l:List DStep}{u:Int}(h:GoodRD l u)(h0:0<l.length):((l.getD 0 default).kind≠1->1<=z0I (ruD l u))/\((l.getD 0 default).kind≠2->1<=z07 (ruD l u)):=by
 have hl:=h.lt h0
 have hp:=h.pos
 obtain⟨g,e⟩:=z4M (n:=1) h h0 (by decide) (by omega)
 have hs:=(z1D (z1d.2 (h.ok _ (z0K h0)))).1
 rcases hs with k|k|k
 ·rw[e,z9g k,z0U,z2f,(z2i _ _).1,(z2i _ _).2];constructor<;>intro _<;>omega
 ·have hz:=z6c (n:=1) k hp (by omega) (by omega)
  rw[e,y3d k,z0U,z2f,(z3P _).1,(z3P _).2,hz];constructor<;>intro _<;>omega
 ·rw[e,y1s k,z0U,z2f,(z3Q _).1,(z3Q _).2];constructor<;>intro _<;>omega
variable {w:DWr} {ps qs:List DStep} {pu qu:Int} {T:Nat} {G:DWr}
theorem JD.two(h:JD w ps pu qs qu T G)(h0:0<ps.length\/0<qs.length)(hp:0<ps.length->(ps.getD 0 default).kind≠2)(hq:0<qs.length->(qs.getD 0 default).kind≠1):0<ps.length/\0<qs.length:=by
 have he:=h.eq
 rcases Nat.eq_zero_or_pos ps.length with a|a
 ·rcases Nat.eq_zero_or_pos qs.length with b|b
  ·omega
  ·have:=(y6j h.gq b).1 (hq b)
   rw[z3S a] at he
   simp only[z07] at he
   omega
 ·rcases Nat.eq_zero_or_pos qs.length with b|b
  ·have:=(y6j h.gp a).2 (hp a)
   rw[z3S b] at he
   simp only[z0I] at he
   omega
  ·exact⟨a,b⟩
theorem JD.done(h:JD w ps pu qs qu T G)(a:ps.length=0)(b:qs.length=0):w=G:=by
 have:=h.di
 rw[z3S a,z3S b] at this
 exact DI.done (by simpa[z0r] using this)
theorem JD.add2(h:JD w ps pu qs qu T G)(hp:0<ps.length->(ps.getD 0 default).kind≠2)(h0:0<qs.length)(hk:(qs.getD 0 default).kind=1){n:Int}(hn:n=szD (qs.getD 0 default)- qu):
 jmD ps pu (tkL qs qu n) (tkN qs qu n)< jmD ps pu qs qu:=by
 have hl:=h.gq.lt h0
 obtain⟨g,e⟩:=z4M (n:=n) h.gq h0 (by omega) (by omega)
 have hz:=z6c (n:=n) hk h.gq.pos (by omega) (by omega)
 rw[y3d hk] at e
 unfold jmD
 rw[e,qf,qk,hz]
 omega
theorem z4C{l:List DStep}{u:Int}(h:GoodRD l u):(z2W l= -1/\l.length=0)\/(z2W l=(l.getD 0 default).kind/\0<l.length/\(z2W l=0\/z2W l=1\/z2W l=2)):=by
 unfold z2W
 split
 ·rename_i h0;exact .inl ⟨rfl,h0⟩
 ·rename_i h0
  have h0':0<l.length:=by omega
  have hs:=(z1D (z1d.2 (h.ok _ (z0K h0')))).1
  exact .inr ⟨rfl,by omega,hs⟩
theorem k01{l:List DStep}{u:Int}(h:GoodRD l u)(h0:0<l.length)(k:(l.getD 0 default).kind≠2):(l.getD 0 default).kind=0\/(l.getD 0 default).kind=1:=by
 have:=(z1D (z1d.2 (h.ok _ (z0K h0)))).1
 omega
theorem k02{l:List DStep}{u:Int}(h:GoodRD l u)(h0:0<l.length)(k:(l.getD 0 default).kind≠1):(l.getD 0 default).kind=0\/(l.getD 0 default).kind=2:=by
 have:=(z1D (z1d.2 (h.ok _ (z0K h0)))).1
 omega
theorem z7U{l:List DStep}{u:Int}(h:GoodRD l u)(hd:DN 100000000000 l)(h0:0<l.length):0<=u/\u<szD (l.getD 0 default)/\szD (l.getD 0 default)<=100000000000/\
 (l.getD 0 default).attrs.length<=100000000000/\(l.getD 0 default).elems.length<=100000000000/\AN 100000000000 (l.getD 0 default).elems:=by
 have hs:=z1D (z1d.2 (h.ok _ (z0K h0)))
 obtain⟨b1,b2,b3⟩:=hd _ (z0K h0)
 have hl:=h.lt h0
 exact⟨h.pos,hl,by omega,b2,b1,b3⟩
theorem x6W{l:List DStep}{u:Int}(h:GoodRD l u)(h0:0<l.length)(k:(l.getD 0 default).kind≠1):szD (l.getD 0 default)<=2147483647:=by
 have hs:=z1D (z1d.2 (h.ok _ (z0K h0)))
 have:szD (l.getD 0 default)=(l.getD 0 default).n:=by unfold szD;rw[if_neg k]
 omega
theorem z8q(l:List DStep)(u n:Int):(tkE l u n).kind=(l.getD 0 default).kind:=by unfold tkE;split<;>rfl
theorem z64(l:List DStep)(u n:Int):(tkE l u n).attrs=(l.getD 0 default).attrs:=by unfold tkE;split<;>rfl
theorem x8s{l:List DStep}{u n:Int}(h:(l.getD 0 default).kind≠1):(tkE l u n).n=n:=by unfold tkE;rw[if_neg h]
theorem y6k{l:List DStep}{u n:Int}{m:Nat}(h:AN m (l.getD 0 default).elems):AN m (tkE l u n).elems:=by
 unfold tkE
 split
 ·exact fun x hx=>h x (qE (qC hx))
 ·exact h
theorem x44{m k:Nat}{l:List Elem}(h:AN m l)(hm:m<=k):AN k l:=fun x hx=>qP (h x hx) hm
theorem x6X{m k:Nat}{l:List Elem}{c:List Attr}(h:AN m l)(hm:m+c.length<=k):AN k (l.map (z7d c)):=fun x hx=>by
 obtain⟨y,hy,rfl⟩:=qI.1 hx
 have h1:=h y hy
 have:=z2j z2e y.attrs c
 show(fm z2e y.attrs c).length<=k
 omega
end Go.Ch
end
section
set_option maxRecDepth 100000
set_option maxHeartbeats 4000000
open Go Go.Proofs Go.Ab
namespace Go.Ch
theorem z2P(l:List DStep)(u n:Int)(s:DStep)(hs:tkE l u n=s)(h0:0<l.length)(hu:0<=u/\0<=n/\u+n<=szD (l.getD 0 default)/\u+n<=9223372036854775807):
 FC Tryz.prog 86 [.ptr 0 0,VI n] (app emp [(0,.box [VL 4 z0d l,VI u])]) (.t (z0d s)) (app emp [(0,.box [VL 4 z0d (tkL l u n),VI (tkN l u n)]),(1,.box [VI s.kind,VI s.n,VL 2 z0a s.attrs,VL 3 z0c s.elems])]):=hs▸x2A l u n h0 hu
theorem y6l(a b:List DStep)(va:z1g a)(vb:z1g b)(da:DN 100000000000 a)(db:DN 100000000000 b)(hm:z2c a=z1Q b):FC Tryz.prog 132 [VL 4 z0d a,VL 4 z0d b] (app emp []) (.tup [VL 4 z0d (z5e a b),VI 0]) (app emp []):=by
 refine .go Tryz.f132 ?_
 refine .len 0 (fun hl0=> ?_)
 refine .len 1 (fun hl1=> ?_)
 have ca:=z1r.2 va
 have cb:=z1r.2 vb
 have da4:=da.mono (n:=400000000000) (by decide)
 have db4:=db.mono (n:=400000000000) (by decide)
 obtain⟨_,_,_,st,vj,_⟩:=y0m va vb da db hm
 have cj:=z1r.2 vj
 refine .bp [.r [],.r [(1,X (Xc0 (z2O a (by assumption)) X0))],.r []] ((z1u a) !=0) (fun h2=> ?_) (fun h2=> ?_)
 ·
  exfalso
  omega
 ·
  refine .bp [.r [(1,X (Xc0 (z2O b (by assumption)) X0))],.r []] ((z1u b) !=0) (fun h5=> ?_) (fun h5=> ?_)
  ·
   exfalso
   omega
  ·
   refine .bp [.r [(1,X (Xc0 (z61 a (by assumption)) X0))],.r [(1,X (Xc0 (z61 b (by assumption)) X0))],.r []] ((z1Q b) !=(z2c a)) (fun h9=> ?_) (fun h9=> ?_)
   ·
    exfalso
    omega
   ·
    refine .loop (α:=Int×(List DStep)×(List Elem)×(List DStep)×Int×(List DStep)×Int) [.r [],.le (.nB 232 0 4),.le (.nB 232 1 3),.r []] 306 (fun(y,o,x,ps,pu,qs,qu)=>([(12,.ptr 232 0),(13,.ptr 258 0),(14,.ptr 282 0)],[(232,.box [.row 240 o.length,.row 241 x.length,VI y]),(240,OR 4 z0d o),(241,OR 3 z0c x),(258,.box [VL 4 z0d ps,VI pu]),(282,.box [VL 4 z0d qs,VI qu])])) (fun(y,o,x,ps,pu,qs,qu)=>JD ⟨o,x,y⟩ ps pu qs qu (z0r (exD a) (exD b)).length (z1S ⟨[],[],0⟩ (z0r (exD a) (exD b)))) (fun(y,o,x,ps,pu,qs,qu)=>jmD ps pu qs qu) (0,[],[],a,0,b,0) ?_ ?_
    ·
     exact st
    rintro⟨y,o,x,ps,pu,qs,qu⟩ I13 ih13
    try dsimp only at I13
    have kp:=z4C I13.gp
    have kq:=z4C I13.gq
    have hb:=I13.di.bd
    simp only at hb
    have hf:=I13.di.fl.1
    refine .bp [.r [(1,X (Xc4 [(0,258)] (z3G ps pu) X0)),(5,Xv 1 (!(decide ((z2W ps)>=0))) (Xc4 [(0,282)] (z3G qs qu) X0)),(6,Xv 1 (!(decide ((z2W ps)>=0))) X0),(7,X (Xk' (decide ((z2W ps)>=0))))]] (decide ((z2W ps)>=0)||decide ((z2W qs)>=0)) (fun h13=> ?_) (fun h13=> ?_)
    ·
     refine .bp [.r [(1,X (Xc4 [(0,258)] (z3G ps pu) X0))]] ((z2W ps)==2) (fun h14=> ?_) (fun h14=> ?_)
     ·
      have lp0:0<ps.length:=by omega
      have k1:(ps.getD 0 default).kind=2:=by omega
      clear kp kq
      have sp:=z7U I13.gp I13.dp lp0
      obtain⟨s,hs⟩:∃z,tkE ps pu (szD (ps.getD 0 default)- pu)=z:=⟨_,rfl⟩
      have hn:s.n=szD (ps.getD 0 default)- pu:=by rw[<-hs];exact x8s (by omega)
      have hC:=JD.cut I13 lp0 k1 rfl
      refine .back [.r [(4,X (Xc4 [(0,258)] (z3H ps pu (by omega) (by omega)) X0)),(5,X (Xc3 442 [(0,258)] (z2P ps pu (szD (ps.getD 0 default)- pu) s hs (by omega) (by omega)) X0)),(7,X (Xn (y+s.n)))]] [(232,232),(240,240),(241,241),(258,258),(282,282)] (ih13 ((y+s.n),o,x,(tkL ps pu (szD (ps.getD 0 default)- pu)),(tkN ps pu (szD (ps.getD 0 default)- pu)),qs,qu) ?_ ?_)
      ·
       rw[hn];exact hC.1
      ·
       exact hC.2
     ·
      refine .bp [.r [(1,X (Xc4 [(0,282)] (z3G qs qu) X0))]] ((z2W qs)==1) (fun h16=> ?_) (fun h16=> ?_)
      ·
       have lq0:0<qs.length:=by omega
       have k2:(qs.getD 0 default).kind=1:=by omega
       have k1:0<ps.length->(ps.getD 0 default).kind≠2:=fun h=>by omega
       clear kp kq
       have sq:=z7U I13.gq I13.dq lq0
       obtain⟨s,hs⟩:∃z,tkE qs qu (szD (qs.getD 0 default)- qu)=z:=⟨_,rfl⟩
       have hA:=JD.add I13 k1 lq0 k2 rfl
       have hA2:=JD.add2 I13 k1 lq0 k2 rfl
       have hAn:=x44 (y6k (u:=qu) (n:=szD (qs.getD 0 default)- qu) sq.2.2.2.2.2) (k:=400000000000) (by decide)
       rw[hs] at hA hAn
       have hAb:=hA.di.bd
       simp only[qf] at hAb
       refine .back [.r [(2,X (Xc4 [(0,282)] (z3H qs qu (by omega) (by omega)) X0)),(3,X (Xc3 458 [(0,282)] (z2P qs qu (szD (qs.getD 0 default)- qu) s hs (by omega) (by omega)) X0)),(5,X (Xc3 474 [(0,232),(1,240),(2,241)] (z4g o x y s.elems (by assumption) (by omega)) X0))]] [(232,232),(240,240),(241,241),(258,258),(282,282)] (ih13 (y,o,(x++s.elems),ps,pu,(tkL qs qu (szD (qs.getD 0 default)- qu)),(tkN qs qu (szD (qs.getD 0 default)- qu))) ?_ ?_)
       ·
        exact hA
       ·
        exact hA2
      ·
       obtain⟨lp0,lq0⟩:=JD.two I13 (by omega) (fun h=>by omega) (fun h=>by omega)
       have k1:(ps.getD 0 default).kind≠2:=by omega
       have k3:(qs.getD 0 default).kind≠1:=by omega
       have sk:=fun _:Unit=>k01 I13.gp lp0 k1
       have tk:=fun _:Unit=>k02 I13.gq lq0 k3
       have hB1:=fun n=>JD.both (n:=n) I13 lp0 lq0 k1 k3
       clear kp kq h13 h14 h16 k1 k3
       have sp:=z7U I13.gp I13.dp lp0
       have sq:=z7U I13.gq I13.dq lq0
       obtain⟨m,hmm⟩:∃z,min (szD (ps.getD 0 default)- pu) (szD (qs.getD 0 default)- qu)=z:=⟨_,rfl⟩
       have hB:=hB1 m hmm.symm
       have m1:1<=m/\m<=szD (ps.getD 0 default)- pu/\m<=szD (qs.getD 0 default)- qu/\m<=100000000000:=by omega
       have m2:pu+m<=szD (ps.getD 0 default)/\qu+m<=szD (qs.getD 0 default):=by omega
       obtain⟨s,hs⟩:∃z,tkE ps pu m=z:=⟨_,rfl⟩
       obtain⟨t,ht⟩:∃z,tkE qs qu m=z:=⟨_,rfl⟩
       have ek1:=z8q ps pu m
       have ek2:=z8q qs qu m
       have ea1:=z64 ps pu m
       have ea2:=z64 qs qu m
       have hE0:=y6k (u:=pu) (n:=m) sp.2.2.2.2.2
       rw[hs] at ek1 ea1 hE0
       rw[ht] at ek2 ea2
       have al:s.attrs.length<=100000000000/\t.attrs.length<=100000000000:=by rw[ea1,ea2];omega
       rw[hs,<-ea1,<-ea2,<-ek1,<-ek2] at hB
       rw[<-ek1] at sk
       rw[<-ek2] at tk
       clear hB1
       refine .bp [.r [(1,X (Xc4 [(0,258)] (z3H ps pu (by omega) (by omega)) X0)),(3,X (Xc4 [(0,282)] (z3H qs qu (by omega) (by omega)) X0)),(4,X (y8h (szD (ps.getD 0 default)- pu) (szD (qs.getD 0 default)- qu)))],.le (.eq 15 (VI (min (szD (ps.getD 0 default)- pu) (szD (qs.getD 0 default)- qu))) (VI m) (.of_eq (by rw[hmm]))),.r [(2,X (Xc3 498 [(0,258)] (z2P ps pu m s hs (by omega) (by omega)) X0)),(5,X (Xc3 522 [(0,282)] (z2P qs qu m t ht (by omega) (by omega)) X0))],.r [(5,Xv 1 (s.kind==0) X0),(6,Xv 1 (s.kind==0) X0),(7,X (Xk (s.kind==0)))]] ((s.kind==0)&&(t.kind==0)) (fun h20=> ?_) (fun h20=> ?_)
       ·
        have fl:=z2j z7p s.attrs t.attrs
        have mk:=x6W I13.gp lp0 (by rw[<-ek1,h20.1];decide)
        refine .back [.r [(5,X (Xc1 674 (x17 s.attrs t.attrs (by omega)) X0)),(6,X (Xc3 682 [(0,232),(1,240),(2,241)] (z4B o x y m (fm z7p s.attrs t.attrs) (by omega) (by first|omega|simp) (by omega) (by first|assumption|exact kbd (by assumption))) X0))]] [(232,232),(240,240),(682,241),(258,258),(282,282)] (ih13 (0,(z1a (z0b ⟨o,x,y⟩) m (fm z7p s.attrs t.attrs)),[],(tkL ps pu m),(tkN ps pu m),(tkL qs qu m),(tkN qs qu m)) ?_ ?_)
        ·
         exact hB.1.1 h20
        ·
         exact hB.2
       ·
        refine .bp [.r []] (s.kind==0) (fun h22=> ?_) (fun h22=> ?_)
        ·
         refine .back [.r [(3,X (Xn (y+m)))]] [(232,232),(240,240),(241,241),(258,258),(282,282)] (ih13 ((y+m),o,x,(tkL ps pu m),(tkN ps pu m),(tkL qs qu m),(tkN qs qu m)) ?_ ?_)
         ·
          exact hB.1.2.1 ⟨h22,(tk ()).resolve_left (h20.resolve_left (fun h=>h h22))⟩
         ·
          exact hB.2
        ·
         refine .bp [.r []] (t.kind==0) (fun h24=> ?_) (fun h24=> ?_)
         ·
          refine .at 698 [(232,232),(240,240),(241,241),(258,258),(282,282),(530,530),(538,538)] ([(12,.ptr 232 0),(13,.ptr 258 0),(14,.ptr 282 0),(16,.ptr 530 0),(17,.ptr 538 0),(114,VB (t.kind==0))],[(232,.box [.row 240 o.length,.row 241 x.length,VI y]),(240,OR 4 z0d o),(241,OR 3 z0c x),(258,.box [VL 4 z0d (tkL ps pu m),VI (tkN ps pu m)]),(282,.box [VL 4 z0d (tkL qs qu m),VI (tkN qs qu m)]),(530,.box [VI s.kind,VI s.n,VL 2 z0a s.attrs,VL 3 z0c s.elems]),(538,.box [VI t.kind,VI t.n,VL 2 z0a t.attrs,VL 3 z0c t.elems])]) ?_
          have hE1:∀x∈s.elems,x.attrs.length+t.attrs.length<1099511627776:=fun x hx=>by have:=hE0 x hx;omega
          have hE2:=x6X hE0 (c:=t.attrs) (k:=400000000000) (by omega)
          have hE4:(List.map (z7d t.attrs) s.elems).length=s.elems.length:=qk _
          have s1:=(sk ()).resolve_left h22
          have hE3:s.elems.length=m.toNat:=by rw[<-hs];exact z6c (by rw[<-ek1];exact s1) sp.1 (by omega) m2.1
          have hA:=hB.1.2.2.1 ⟨s1,h24⟩
          have hAb:=hA.di.bd
          simp only[qf,qk] at hAb
          clear h20 h22
          refine .back [.r [(4,X (Xc1 730 (y0j s.elems t.attrs (by omega) (by assumption)) X0)),(5,X (Xc3 738 [(0,232),(1,240),(2,241)] (z4g o x y (List.map (z7d t.attrs) s.elems) (by assumption) (by omega)) X0))]] [(232,232),(240,240),(241,241),(258,258),(282,282)] (ih13 (y,o,(x++(List.map (z7d t.attrs) s.elems)),(tkL ps pu m),(tkN ps pu m),(tkL qs qu m),(tkN qs qu m)) ?_ ?_)
          ·
           exact hA
          ·
           exact hB.2
         ·
          refine .at 698 [(232,232),(240,240),(241,241),(258,258),(282,282),(530,530),(538,538)] ([(12,.ptr 232 0),(13,.ptr 258 0),(14,.ptr 282 0),(16,.ptr 530 0),(17,.ptr 538 0),(114,VB (t.kind==0))],[(232,.box [.row 240 o.length,.row 241 x.length,VI y]),(240,OR 4 z0d o),(241,OR 3 z0c x),(258,.box [VL 4 z0d (tkL ps pu m),VI (tkN ps pu m)]),(282,.box [VL 4 z0d (tkL qs qu m),VI (tkN qs qu m)]),(530,.box [VI s.kind,VI s.n,VL 2 z0a s.attrs,VL 3 z0c s.elems]),(538,.box [VI t.kind,VI t.n,VL 2 z0a t.attrs,VL 3 z0c t.elems])]) ?_
          refine .back [] [(232,232),(240,240),(241,241),(258,258),(282,282)] (ih13 (y,o,x,(tkL ps pu m),(tkN ps pu m),(tkL qs qu m),(tkN qs qu m)) ?_ ?_)
          ·
           exact hB.1.2.2.2 ⟨(sk ()).resolve_left h22,(tk ()).resolve_left h24⟩
          ·
           exact hB.2
    ·
     have hG:=JD.done I13 (by omega) (by omega)
     have hfx:z0b ⟨o,x,y⟩=z5e a b:=by rw[hG];rfl
     have hcd:z1u (z0b ⟨o,x,y⟩)=0:=by rw[hfx];exact cj
     have hfl2:=I13.di.fl.2
     have e1:((z5e a b):List DStep)=(z0b ⟨o,x,y⟩):=by
      rw[hfx]
     exact .finE [.r [(0,X (Xc3 370 [(0,232),(1,240),(2,241)] (z8o o x y (by omega) (by assumption) (by assumption)) X0))],.le (.fr 4 [(((z0b ⟨o,x,y⟩).length):Nat)=(List.map z0d (z0b ⟨o,x,y⟩)).length] ⟨lm,trivial⟩)] [] (fun z0:List DStep=>(.tup [VL 4 z0d z0,VI 0],[])) _ _ e1
theorem z8r(d:Doc)(k:Int)(hn:d.nodes.length<=1048576)(hs:z1i d.nodes):FC Tryz.prog 49 [.t (z20 d),VI k] (app emp []) (VI (ixN d.nodes k)) (app emp []):=by
 refine .go Tryz.f49 ?_
 refine .bp [.r [],.r [(2,X (Xc0 (y1n d k (by assumption) (by assumption)) X0))],.r []] (z14 (d).nodes k) (fun h2=> ?_) (fun h2=> ?_)
 ·
  have e1:((ixN d.nodes k):Int)=(z0x (d).nodes k:Int):=by
   unfold ixN;rw[if_pos h2]
  exact .finE [.r []] [] (fun z0:Int=>(VI z0,[])) _ _ e1
 ·
  have e2:((ixN d.nodes k):Int)= -1:=by
   unfold ixN;rw[if_neg (by rw[h2];decide)]
  exact .finE [.r []] [] (fun z0:Int=>(VI z0,[])) _ _ e2
theorem y9W(l:List Elem):FC Tryz.prog 197 [VL 3 z0c l,VN] (app emp []) (VB ((l.length:Int)==0)) (app emp []):=by
 refine .go Tryz.f197 ?_
 refine .len 0 (fun hl0=> ?_)
 refine .bp [.r [],.r [(1,X (Xl z0c l))]] ((l.length:Int) !=0) (fun h1=> ?_) (fun h1=> ?_)
 ·
  have e1:(((l.length:Int)==0):Bool)=false:=by
   rw[beq_eq_false_iff_ne];exact h1
  exact .finE [.r []] [] (fun z0:Bool=>(VB z0,[])) _ _ e1
 ·
  refine .loop (α:=Nat) [.r [(1,X (Xl z0c l))]] 72 (fun i=>([(1,VN),(13,VL 3 z0c l),(14,VI (l.length:Int)),(15,VI (i:Int))],[])) (fun i=>i=0) (fun i=>0) (0:Nat) ?_ ?_
  ·
   rfl
  rintro i I4 ih4
  try dsimp only at I4
  refine .bp [.r []] (decide ((i:Int)< (l.length:Int))) (fun h4=> ?_) (fun h4=> ?_)
  ·
   exfalso
   omega
  ·
   have e2:(((l.length:Int)==0):Bool)=true:=by
    rw[beq_iff_eq];exact h1
   exact .finE [.r []] [] (fun z0:Bool=>(VB z0,[])) _ _ e2
theorem x45(l:List DOp):FC Tryz.prog 198 [VL 8 z0R l,VN] (app emp []) (VB ((l.length:Int)==0)) (app emp []):=by
 refine .go Tryz.f198 ?_
 refine .len 0 (fun hl0=> ?_)
 refine .bp [.r [],.r [(1,X (Xl z0R l))]] ((l.length:Int) !=0) (fun h1=> ?_) (fun h1=> ?_)
 ·
  have e1:(((l.length:Int)==0):Bool)=false:=by
   rw[beq_eq_false_iff_ne];exact h1
  exact .finE [.r []] [] (fun z0:Bool=>(VB z0,[])) _ _ e1
 ·
  refine .loop (α:=Nat) [.r [(1,X (Xl z0R l))]] 72 (fun i=>([(0,VL 8 z0R l),(1,VN),(12,VI (l.length:Int)),(13,VI (i:Int))],[])) (fun i=>i=0) (fun i=>0) (0:Nat) ?_ ?_
  ·
   rfl
  rintro i I4 ih4
  try dsimp only at I4
  refine .bp [.r []] (decide ((i:Int)< (l.length:Int))) (fun h4=> ?_) (fun h4=> ?_)
  ·
   exfalso
   omega
  ·
   have e2:(((l.length:Int)==0):Bool)=true:=by
    rw[beq_iff_eq];exact h1
   exact .finE [.r []] [] (fun z0:Bool=>(VB z0,[])) _ _ e2
theorem y9X(n:Node):FC Tryz.prog 138 [.t (z0i n),.t (.agg [TI 0,TI 0,TN,TN,TI 0,TI 0,TN,TN,TN])] (app emp []) (VB (z0Z n)) (app emp []):=by
 refine .go Tryz.f138 ?_
 have e1:((z0Z n):Bool)=((((((n.id==0)&&(n.kind==0))&&(z0O n.attrs []))&&(((n.flow).length:Int)==0))&&(z3x n.grid))&&(((n.draw).length:Int)==0)):=by
  rfl
 exact .finE [.r [],.r [(7,Xv 1 (n.id==0) X0),(9,Xv 1 (n.id==0) X0),(10,Xv 2 (n.id==0) X0),(11,X (Xk (n.id==0))),(14,Xv 1 ((n.id==0)&&(n.kind==0)) X0),(16,Xv 1 ((n.id==0)&&(n.kind==0)) X0),(17,Xv 2 ((n.id==0)&&(n.kind==0)) (Xc0 (.nil 1 2 (z59 n.attrs [])) X0)),(18,X (Xk ((n.id==0)&&(n.kind==0)))),(21,Xv 1 (((n.id==0)&&(n.kind==0))&&(z0O n.attrs [])) X0),(23,Xv 1 (((n.id==0)&&(n.kind==0))&&(z0O n.attrs [])) X0),(24,Xv 2 (((n.id==0)&&(n.kind==0))&&(z0O n.attrs [])) (Xc0 (y9W n.flow) X0)),(25,X (Xk (((n.id==0)&&(n.kind==0))&&(z0O n.attrs [])))),(28,Xv 1 ((((n.id==0)&&(n.kind==0))&&(z0O n.attrs []))&&(((n.flow).length:Int)==0)) X0),(30,Xv 1 ((((n.id==0)&&(n.kind==0))&&(z0O n.attrs []))&&(((n.flow).length:Int)==0)) X0),(31,Xv 2 ((((n.id==0)&&(n.kind==0))&&(z0O n.attrs []))&&(((n.flow).length:Int)==0)) (Xc0 (y3a n.grid) X0)),(32,X (Xk ((((n.id==0)&&(n.kind==0))&&(z0O n.attrs []))&&(((n.flow).length:Int)==0)))),(35,Xv 1 (((((n.id==0)&&(n.kind==0))&&(z0O n.attrs []))&&(((n.flow).length:Int)==0))&&(z3x n.grid)) X0),(37,Xv 1 (((((n.id==0)&&(n.kind==0))&&(z0O n.attrs []))&&(((n.flow).length:Int)==0))&&(z3x n.grid)) X0),(38,Xv 2 (((((n.id==0)&&(n.kind==0))&&(z0O n.attrs []))&&(((n.flow).length:Int)==0))&&(z3x n.grid)) (Xc0 (x45 n.draw) X0)),(39,X (Xk (((((n.id==0)&&(n.kind==0))&&(z0O n.attrs []))&&(((n.flow).length:Int)==0))&&(z3x n.grid))))]] [] (fun z0:Bool=>(VB z0,[])) _ _ e1
theorem y9Y(o:EOp)(hl:EopL o):FC Tryz.prog 78 [.t (z0F o)] (app emp []) (VB (y8i o)) (app emp []):=by
 refine .go Tryz.f78 ?_
 obtain⟨l1,l2,l3,l4,l5⟩:=hl
 have e1:((y8i o):Bool)=(((((((o.kind==0)&&(o.node !=0))|| ((o.kind !=0)&& !(z0Z o.nw)))|| ((o.kind !=1)&&decide ((o.attrs.length:Int)> 0)))|| ((o.kind !=2)&&decide ((o.steps.length:Int)> 0)))|| ((o.kind !=3)&&decide ((((((o.grid.rows.length:Int)+(o.grid.cols.length:Int))+(o.grid.cells.length:Int))+(o.grid.split.length:Int))+(o.grid.merge.length:Int))> 0)))|| ((o.kind !=4)&&decide ((o.draw.length:Int)> 0))):=by
  rfl
 exact .finE [.r [],.r [],.r [(2,X (Xl z0P o.grid.rows)),(5,X (Xl z0P o.grid.cols)),(6,X (Xn ((o.grid.rows.length:Int)+(o.grid.cols.length:Int)))),(9,X (Xl z0k o.grid.cells)),(10,X (Xn (((o.grid.rows.length:Int)+(o.grid.cols.length:Int))+(o.grid.cells.length:Int)))),(13,X (Xl z0t o.grid.split)),(14,X (Xn ((((o.grid.rows.length:Int)+(o.grid.cols.length:Int))+(o.grid.cells.length:Int))+(o.grid.split.length:Int)))),(17,X (Xl z0t o.grid.merge)),(18,X (Xn (((((o.grid.rows.length:Int)+(o.grid.cols.length:Int))+(o.grid.cells.length:Int))+(o.grid.split.length:Int))+(o.grid.merge.length:Int))))],.r [(5,Xv 1 (o.kind==0) X0),(6,Xv 1 (o.kind==0) X0),(7,X (Xk (o.kind==0))),(10,Xv 1 (!((o.kind==0)&&(o.node !=0))) X0),(11,Xv 1 (!((o.kind==0)&&(o.node !=0))) X0),(12,Xv 1 (!((o.kind==0)&&(o.node !=0))) X0),(14,Xv 1 ((!((o.kind==0)&&(o.node !=0)))&&(o.kind !=0)) X0),(16,Xv 2 ((!((o.kind==0)&&(o.node !=0)))&&(o.kind !=0)) (Xc0 (y9X o.nw) X0)),(17,Xv 1 ((!((o.kind==0)&&(o.node !=0)))&&(o.kind !=0)) X0),(18,Xka (!((o.kind==0)&&(o.node !=0))) (o.kind !=0)),(19,X (Xk' ((o.kind==0)&&(o.node !=0)))),(22,Xv 1 (!(((o.kind==0)&&(o.node !=0))|| ((o.kind !=0)&& !(z0Z o.nw)))) X0),(23,Xv 1 (!(((o.kind==0)&&(o.node !=0))|| ((o.kind !=0)&& !(z0Z o.nw)))) X0),(24,Xv 1 (!(((o.kind==0)&&(o.node !=0))|| ((o.kind !=0)&& !(z0Z o.nw)))) X0),(26,Xv 1 ((!(((o.kind==0)&&(o.node !=0))|| ((o.kind !=0)&& !(z0Z o.nw))))&&(o.kind !=1)) X0),(27,Xv 1 ((!(((o.kind==0)&&(o.node !=0))|| ((o.kind !=0)&& !(z0Z o.nw))))&&(o.kind !=1)) (Xl z0a o.attrs)),(28,Xv 1 ((!(((o.kind==0)&&(o.node !=0))|| ((o.kind !=0)&& !(z0Z o.nw))))&&(o.kind !=1)) X0),(29,Xka (!(((o.kind==0)&&(o.node !=0))|| ((o.kind !=0)&& !(z0Z o.nw)))) (o.kind !=1)),(30,X (Xk' (((o.kind==0)&&(o.node !=0))|| ((o.kind !=0)&& !(z0Z o.nw))))),(33,Xv 1 (!((((o.kind==0)&&(o.node !=0))|| ((o.kind !=0)&& !(z0Z o.nw)))|| ((o.kind !=1)&&decide ((o.attrs.length:Int)> 0)))) X0),(34,Xv 1 (!((((o.kind==0)&&(o.node !=0))|| ((o.kind !=0)&& !(z0Z o.nw)))|| ((o.kind !=1)&&decide ((o.attrs.length:Int)> 0)))) X0),(35,Xv 1 (!((((o.kind==0)&&(o.node !=0))|| ((o.kind !=0)&& !(z0Z o.nw)))|| ((o.kind !=1)&&decide ((o.attrs.length:Int)> 0)))) X0),(37,Xv 1 ((!((((o.kind==0)&&(o.node !=0))|| ((o.kind !=0)&& !(z0Z o.nw)))|| ((o.kind !=1)&&decide ((o.attrs.length:Int)> 0))))&&(o.kind !=2)) X0),(38,Xv 1 ((!((((o.kind==0)&&(o.node !=0))|| ((o.kind !=0)&& !(z0Z o.nw)))|| ((o.kind !=1)&&decide ((o.attrs.length:Int)> 0))))&&(o.kind !=2)) (Xl z0d o.steps)),(39,Xv 1 ((!((((o.kind==0)&&(o.node !=0))|| ((o.kind !=0)&& !(z0Z o.nw)))|| ((o.kind !=1)&&decide ((o.attrs.length:Int)> 0))))&&(o.kind !=2)) X0),(40,Xka (!((((o.kind==0)&&(o.node !=0))|| ((o.kind !=0)&& !(z0Z o.nw)))|| ((o.kind !=1)&&decide ((o.attrs.length:Int)> 0)))) (o.kind !=2)),(41,X (Xk' ((((o.kind==0)&&(o.node !=0))|| ((o.kind !=0)&& !(z0Z o.nw)))|| ((o.kind !=1)&&decide ((o.attrs.length:Int)> 0))))),(44,Xv 1 (!(((((o.kind==0)&&(o.node !=0))|| ((o.kind !=0)&& !(z0Z o.nw)))|| ((o.kind !=1)&&decide ((o.attrs.length:Int)> 0)))|| ((o.kind !=2)&&decide ((o.steps.length:Int)> 0)))) X0),(45,Xv 1 (!(((((o.kind==0)&&(o.node !=0))|| ((o.kind !=0)&& !(z0Z o.nw)))|| ((o.kind !=1)&&decide ((o.attrs.length:Int)> 0)))|| ((o.kind !=2)&&decide ((o.steps.length:Int)> 0)))) X0),(46,Xv 1 (!(((((o.kind==0)&&(o.node !=0))|| ((o.kind !=0)&& !(z0Z o.nw)))|| ((o.kind !=1)&&decide ((o.attrs.length:Int)> 0)))|| ((o.kind !=2)&&decide ((o.steps.length:Int)> 0)))) X0),(48,Xka (!(((((o.kind==0)&&(o.node !=0))|| ((o.kind !=0)&& !(z0Z o.nw)))|| ((o.kind !=1)&&decide ((o.attrs.length:Int)> 0)))|| ((o.kind !=2)&&decide ((o.steps.length:Int)> 0)))) (o.kind !=3)),(49,X (Xk' (((((o.kind==0)&&(o.node !=0))|| ((o.kind !=0)&& !(z0Z o.nw)))|| ((o.kind !=1)&&decide ((o.attrs.length:Int)> 0)))|| ((o.kind !=2)&&decide ((o.steps.length:Int)> 0))))),(52,Xv 1 (!((((((o.kind==0)&&(o.node !=0))|| ((o.kind !=0)&& !(z0Z o.nw)))|| ((o.kind !=1)&&decide ((o.attrs.length:Int)> 0)))|| ((o.kind !=2)&&decide ((o.steps.length:Int)> 0)))|| ((o.kind !=3)&&decide ((((((o.grid.rows.length:Int)+(o.grid.cols.length:Int))+(o.grid.cells.length:Int))+(o.grid.split.length:Int))+(o.grid.merge.length:Int))> 0)))) X0),(53,Xv 1 (!((((((o.kind==0)&&(o.node !=0))|| ((o.kind !=0)&& !(z0Z o.nw)))|| ((o.kind !=1)&&decide ((o.attrs.length:Int)> 0)))|| ((o.kind !=2)&&decide ((o.steps.length:Int)> 0)))|| ((o.kind !=3)&&decide ((((((o.grid.rows.length:Int)+(o.grid.cols.length:Int))+(o.grid.cells.length:Int))+(o.grid.split.length:Int))+(o.grid.merge.length:Int))> 0)))) X0),(54,Xv 1 (!((((((o.kind==0)&&(o.node !=0))|| ((o.kind !=0)&& !(z0Z o.nw)))|| ((o.kind !=1)&&decide ((o.attrs.length:Int)> 0)))|| ((o.kind !=2)&&decide ((o.steps.length:Int)> 0)))|| ((o.kind !=3)&&decide ((((((o.grid.rows.length:Int)+(o.grid.cols.length:Int))+(o.grid.cells.length:Int))+(o.grid.split.length:Int))+(o.grid.merge.length:Int))> 0)))) X0),(56,Xv 1 ((!((((((o.kind==0)&&(o.node !=0))|| ((o.kind !=0)&& !(z0Z o.nw)))|| ((o.kind !=1)&&decide ((o.attrs.length:Int)> 0)))|| ((o.kind !=2)&&decide ((o.steps.length:Int)> 0)))|| ((o.kind !=3)&&decide ((((((o.grid.rows.length:Int)+(o.grid.cols.length:Int))+(o.grid.cells.length:Int))+(o.grid.split.length:Int))+(o.grid.merge.length:Int))> 0))))&&(o.kind !=4)) X0),(57,Xv 1 ((!((((((o.kind==0)&&(o.node !=0))|| ((o.kind !=0)&& !(z0Z o.nw)))|| ((o.kind !=1)&&decide ((o.attrs.length:Int)> 0)))|| ((o.kind !=2)&&decide ((o.steps.length:Int)> 0)))|| ((o.kind !=3)&&decide ((((((o.grid.rows.length:Int)+(o.grid.cols.length:Int))+(o.grid.cells.length:Int))+(o.grid.split.length:Int))+(o.grid.merge.length:Int))> 0))))&&(o.kind !=4)) (Xl z0R o.draw)),(58,Xv 1 ((!((((((o.kind==0)&&(o.node !=0))|| ((o.kind !=0)&& !(z0Z o.nw)))|| ((o.kind !=1)&&decide ((o.attrs.length:Int)> 0)))|| ((o.kind !=2)&&decide ((o.steps.length:Int)> 0)))|| ((o.kind !=3)&&decide ((((((o.grid.rows.length:Int)+(o.grid.cols.length:Int))+(o.grid.cells.length:Int))+(o.grid.split.length:Int))+(o.grid.merge.length:Int))> 0))))&&(o.kind !=4)) X0),(59,Xka (!((((((o.kind==0)&&(o.node !=0))|| ((o.kind !=0)&& !(z0Z o.nw)))|| ((o.kind !=1)&&decide ((o.attrs.length:Int)> 0)))|| ((o.kind !=2)&&decide ((o.steps.length:Int)> 0)))|| ((o.kind !=3)&&decide ((((((o.grid.rows.length:Int)+(o.grid.cols.length:Int))+(o.grid.cells.length:Int))+(o.grid.split.length:Int))+(o.grid.merge.length:Int))> 0)))) (o.kind !=4)),(60,X (Xk' ((((((o.kind==0)&&(o.node !=0))|| ((o.kind !=0)&& !(z0Z o.nw)))|| ((o.kind !=1)&&decide ((o.attrs.length:Int)> 0)))|| ((o.kind !=2)&&decide ((o.steps.length:Int)> 0)))|| ((o.kind !=3)&&decide ((((((o.grid.rows.length:Int)+(o.grid.cols.length:Int))+(o.grid.cells.length:Int))+(o.grid.split.length:Int))+(o.grid.merge.length:Int))> 0)))))]] [] (fun z0:Bool=>(VB z0,[])) _ _ e1
theorem y7K(o:EOp)(ho:OpL o):FC Tryz.prog 39 [.t (z0F o)] (app emp []) (VI (z2y o)) (app emp []):=by
 refine .go Tryz.f39 ?_
 have k1:=ho.len
 have k2:=ho.nl
 have k3:=ho.dn
 have k4:=ho.gl
 refine .bp [.r [],.r [(5,Xv 1 (!(decide (o.kind<0))) X0),(6,Xv 1 (!(decide (o.kind<0))) X0),(7,X (Xk' (decide (o.kind<0))))]] (decide (o.kind<0)||decide (o.kind>4)) (fun h1=> ?_) (fun h1=> ?_)
 ·
  have e1:((z2y o):Int)=8:=by
   unfold z2y;((repeat' split)<;>first|rfl|omega| (simp_all;done)| (simp_all;omega))
  exact .finE [.r []] [] (fun z0:Int=>(VI z0,[])) _ _ e1
 ·
  refine .bp [.r [(1,X (Xc0 (y9Y o (by assumption)) X0))]] (y8i o) (fun h3=> ?_) (fun h3=> ?_)
  ·
   have e2:((z2y o):Int)=4:=by
    unfold z2y;((repeat' split)<;>first|rfl|omega| (simp_all;done)| (simp_all;omega))
   exact .finE [.r []] [] (fun z0:Int=>(VI z0,[])) _ _ e2
  ·
   refine .bp [.r []] (o.kind==0) (fun h5=> ?_) (fun h5=> ?_)
   ·
    have e3:((z2y o):Int)=(z0X o.nw):=by
     unfold z2y;((repeat' split)<;>first|rfl|omega| (simp_all;done)| (simp_all;omega))
    exact .finE [.r [(2,X (Xc0 (z9b o.nw (by assumption)) X0))]] [] (fun z0:Int=>(VI z0,[])) _ _ e3
   ·
    refine .bp [.r [(5,Xv 1 (!(decide (o.node<1))) X0),(6,Xv 1 (!(decide (o.node<1))) X0),(7,X (Xk' (decide (o.node<1))))]] (decide (o.node<1)||decide (o.node>1073741824)) (fun h7=> ?_) (fun h7=> ?_)
    ·
     have e4:((z2y o):Int)=2:=by
      unfold z2y;((repeat' split)<;>first|rfl|omega| (simp_all;done)| (simp_all;omega))
     exact .finE [.r []] [] (fun z0:Int=>(VI z0,[])) _ _ e4
    ·
     refine .bp [.r []] (o.kind==1) (fun h9=> ?_) (fun h9=> ?_)
     ·
      have e5:((z2y o):Int)=(z1B true o.attrs 0):=by
       unfold z2y;((repeat' split)<;>first|rfl|omega| (simp_all;done)| (simp_all;omega))
      exact .finE [.r [(2,X (Xc0 (z03 o.attrs) X0))]] [] (fun z0:Int=>(VI z0,[])) _ _ e5
     ·
      refine .bp [.r []] (o.kind==2) (fun h11=> ?_) (fun h11=> ?_)
      ·
       have e6:((z2y o):Int)=(z1u o.steps):=by
        unfold z2y;((repeat' split)<;>first|rfl|omega| (simp_all;done)| (simp_all;omega))
       exact .finE [.r [(2,X (Xc0 (z2O o.steps (by assumption)) X0))]] [] (fun z0:Int=>(VI z0,[])) _ _ e6
      ·
       refine .bp [.r []] (o.kind==3) (fun h13=> ?_) (fun h13=> ?_)
       ·
        have e7:((z2y o):Int)=(edE o.grid):=by
         unfold z2y;((repeat' split)<;>first|rfl|omega| (simp_all;done)| (simp_all;omega))
        exact .finE [.r [(2,X (Xc0 (z7S o.grid (by assumption)) X0))]] [] (fun z0:Int=>(VI z0,[])) _ _ e7
       ·
        have e8:((z2y o):Int)=(z2E o.draw 0):=by
         unfold z2y;((repeat' split)<;>first|rfl|omega| (simp_all;done)| (simp_all;omega))
        exact .finE [.r [(2,X (Xc0 (y2V o.draw) X0))]] [] (fun z0:Int=>(VI z0,[])) _ _ e8
theorem z9h(c:List EOp)(hc:∀o∈c,OpL o):FC Tryz.prog 16 [VL 19 z0F c] (app emp []) (VI (z1R c 0)) (app emp []):=by
 refine .go Tryz.f16 ?_
 refine .len 0 (fun hl0=> ?_)
 refine .loop (α:=Nat) [.r [],.r [(1,X (Xl z0F c))]] 32 (fun i=>([(6,VL 19 z0F c),(7,VI (c.length:Int)),(8,VI (i:Int))],[])) (fun i=>i<=c.length/\z1R c 0=z1R c i) (fun i=>c.length-i) (0:Nat) ?_ ?_
 ·
  exact⟨by omega,rfl⟩
 rintro i I2 ih2
 try dsimp only at I2
 refine .bp [.r []] (decide ((i:Int)< (c.length:Int))) (fun h2=> ?_) (fun h2=> ?_)
 ·
  have ho:=hc _ (z0j (l:=c) (i:=i) (by omega))
  refine .bp [.r [(0,X (Xi z0F c (i:Int)))],.r [(1,X (Xc0 (y7K ((c.getD i default)) (by assumption)) X0))],.r []] ((z2y ((c.getD i default))) !=0) (fun h5=> ?_) (fun h5=> ?_)
  ·
   have e1:((z1R c 0):Int)=(z2y ((c.getD i default))):=by
    exact I2.2.trans (y9H (by omega) h5)
   exact .finE [.r []] [] (fun z0:Int=>(VI z0,[])) _ _ e1
  ·
   refine .back [.r [(0,X (Xn ((i:Int)+1)))]] [] (ih2 ((i+1):Nat) ?_ ?_)
   ·
    exact⟨by omega,I2.2.trans (y7F (by omega) h5)⟩
   ·
    ((try dsimp only);omega)
 ·
  have e2:((z1R c 0):Int)=0:=by
   exact I2.2.trans (y9I (by omega))
  exact .finE [.r []] [] (fun z0:Int=>(VI z0,[])) _ _ e2
end Go.Ch
end
section
namespace Go.Ch
open Go Go.Ab
def x8t:List DU->Prop
 | .A _::_=>False
 |_=>True
theorem x8u(e:Elem)(p q:List DU):z0f (.A e::p) q=(.A e::(z0f p q).1,.K []::(z0f p q).2):=by rw[z0f]
theorem x6Y{p:List DU}(hp:x8t p)(e:Elem)(q:List DU):z0f p (.A e::q)=(.K []::(z0f p q).1,.A e::(z0f p q).2):=by
 cases p with
 |nil=>rw[z0f]
 |cons u p=>
  cases u with
  |A x=>exact hp.elim
  |K c=>rw[z0f]
  |C=>rw[z0f]
theorem x9X(e:List Elem)(p q:List DU):z0f (e.map .A++p) q=(e.map .A++(z0f p q).1,List.replicate e.length (.K [])++(z0f p q).2):=by
 induction e with
 |nil=>rfl
 |cons x e ih=>rw[qZ,qy,x8u,ih];rfl
theorem x8v(e:List Elem){p:List DU}(hp:x8t p)(q:List DU):z0f p (e.map .A++q)=(List.replicate e.length (.K [])++(z0f p q).1,e.map .A++(z0f p q).2):=by
 induction e with
 |nil=>rfl
 |cons x e ih=>rw[qZ,qy,x6Y hp,ih];rfl
theorem x8w(n:Nat)(c d:List Attr)(p q:List DU):z0f (List.replicate n (.K c)++p) (List.replicate n (.K d)++q)=(List.replicate n (.K (fm z3N c d))++(z0f p q).1,List.replicate n (.K d)++(z0f p q).2):=by
 induction n with
 |zero=>rfl
 |succ n ih=>rw[qK,qK,qK,qy,qy,z0f,ih];rfl
theorem x8x(n:Nat)(c:List Attr)(p q:List DU):z0f (List.replicate n (.K c)++p) (List.replicate n .C++q)=((z0f p q).1,List.replicate n .C++(z0f p q).2):=by
 induction n with
 |zero=>rfl
 |succ n ih=>rw[qK,qK,qy,qy,z0f,ih];rfl
theorem x8y(n:Nat)(c:List Attr)(p q:List DU):z0f (List.replicate n .C++p) (List.replicate n (.K c)++q)=(List.replicate n .C++(z0f p q).1,(z0f p q).2):=by
 induction n with
 |zero=>rfl
 |succ n ih=>rw[qK,qK,qy,qy,z0f,ih];rfl
theorem x8z(n:Nat)(p q:List DU):z0f (List.replicate n .C++p) (List.replicate n .C++q)=z0f p q:=by
 induction n with
 |zero=>rfl
 |succ n ih=>rw[qK,qy,qy,z0f,ih]
theorem y3f(p q:List DU)(hp:KOk p)(hq:KOk q):(∀u∈(z0f p q).1,z1G u)/\(∀u∈(z0f p q).2,z1G u):=by
 have okA:∀e:Elem,z05 e=0/\e.attrs.length<=100000000000->z1G (.A e):=fun e h=>⟨h.1,by omega⟩
 have okK:∀c:List Attr,VG true c/\c.length<=100000000000->z1G (.K c):=fun e h=>⟨h.1,by omega⟩
 have ok0:z1G (.K []):=⟨z9d,by simp⟩
 have cons:∀(x:DU) (l:List DU),z1G x->(∀u∈l,z1G u)->∀u∈x::l,z1G u:=fun x l h k u hu=>by
  rcases qg.1 hu with rfl|hu
  ·exact h
  ·exact k u hu
 induction p,q using z0f.induct with
 |case1 e p q ih=>rw[z0f];have i:=ih hp.tail hq;exact⟨cons _ _ (okA e (hp.2 e (by simp))) i.1,cons _ _ ok0 i.2⟩
 |case2 e q ih=>rw[z0f];have i:=ih hp hq.tail;exact⟨cons _ _ ok0 i.1,cons _ _ (okA e (hq.2 e (by simp))) i.2⟩
 |case3 c p e q ih=>rw[z0f];have i:=ih hp hq.tail;exact⟨cons _ _ ok0 i.1,cons _ _ (okA e (hq.2 e (by simp))) i.2⟩
 |case4 p e q ih=>rw[z0f];have i:=ih hp hq.tail;exact⟨cons _ _ ok0 i.1,cons _ _ (okA e (hq.2 e (by simp))) i.2⟩
 |case5 c p d q ih=>
  rw[z0f]
  have i:=ih hp.tail hq.tail
  have h1:=hp.1 c (by simp)
  have h2:=hq.1 d (by simp)
  have:=z2j z3N c d
  exact⟨cons _ _ ⟨x15 y7r h1.1 h2.1,by omega⟩ i.1,cons _ _ (okK d h2) i.2⟩
 |case6 c p q ih=>rw[z0f];have i:=ih hp.tail hq.tail;exact⟨i.1,cons _ _ trivial i.2⟩
 |case7 p d q ih=>rw[z0f];have i:=ih hp.tail hq.tail;exact⟨cons _ _ trivial i.1,i.2⟩
 |case8 p q ih=>rw[z0f];exact ih hp.tail hq.tail
 |case9 p hne=>
  rw[show z0f p []=([],[]) by unfold z0f;split<;>simp_all]
  exact⟨fun u hu=>absurd hu (qX),fun u hu=>absurd hu (qX)⟩
 |case10 q h1 h2=>
  rw[show z0f [] q=([],[]) by unfold z0f;split<;>simp_all]
  exact⟨fun u hu=>absurd hu (qX),fun u hu=>absurd hu (qX)⟩
theorem y7L(p q:List DU):z07 (z0f p q).1<=z07 p+z07 q/\z07 (z0f p q).2<=z07 p+z07 q:=by
 induction p,q using z0f.induct with
 |case9 p hne=>
  rw[show z0f p []=([],[]) by unfold z0f;split<;>simp_all]
  simp[z07]
 |case10 q h1 h2=>
  rw[show z0f [] q=([],[]) by unfold z0f;split<;>simp_all]
  simp[z07]
 |_=>rw[z0f];simp only[z07] at*;omega
def z00(a b:List DStep):List DStep:=z5K (z0f (exD a) (exD b)).1
def z2s(a b:List DStep):List DStep:=z5K (z0f (exD a) (exD b)).2
structure PD(wx wy:DWr)(ps:List DStep)(pu:Int)(qs:List DStep)(qu:Int)(T U:Nat)(G H:DWr):Prop where
 gp:GoodRD ps pu
 gq:GoodRD qs qu
 dp:DN 100000000000 ps
 dq:DN 100000000000 qs
 eq:z0I (ruD ps pu)=z0I (ruD qs qu)
 dx:DI wx (z0f (ruD ps pu) (ruD qs qu)).1 T G
 dy:DI wy (z0f (ruD ps pu) (ruD qs qu)).2 U H
theorem x9Y{l:List DStep}{u:Int}(h:GoodRD l u)(hk:0<l.length->(l.getD 0 default).kind≠1):x8t (ruD l u):=by
 by_cases h0:0<l.length
 ·have hl:=h.lt h0
  obtain⟨g,e⟩:=z4M (n:=1) h h0 (by decide) (by omega)
  rcases k02 h h0 (hk h0) with k|k
  ·rw[e,z9g k];trivial
  ·rw[e,y1s k];trivial
 ·rw[z3S (by omega)];trivial
section
variable {wx wy:DWr} {ps qs:List DStep} {pu qu:Int} {T U:Nat} {G H:DWr}
theorem PD.addP(h:PD wx wy ps pu qs qu T U G H)(h0:0<ps.length)(hk:(ps.getD 0 default).kind=1){n:Int}(hn:n=szD (ps.getD 0 default)- pu):
 PD ⟨wx.out,wx.add++(tkE ps pu n).elems,wx.cut⟩ ⟨z1a (z0b wy) ((tkE ps pu n).elems.length:Int) [],[],0⟩ (tkL ps pu n) (tkN ps pu n) qs qu T U G H/\
 jmD (tkL ps pu n) (tkN ps pu n) qs qu<jmD ps pu qs qu/\((tkE ps pu n).elems.length:Int)=n:=by
 have hl:=h.gp.lt h0
 obtain⟨g,e⟩:=z4M (n:=n) h.gp h0 (by omega) (by omega)
 have hz:=z6c (n:=n) hk h.gp.pos (by omega) (by omega)
 rw[y3d hk] at e
 have hx:=h.dx
 have hy:=h.dy
 have he:=h.eq
 rw[e,x9X] at hx hy
 rw[e,z0U,(z3P _).1] at he
 obtain⟨k,hk2⟩:∃k,(tkE ps pu n).elems.length=k+1:=⟨(tkE ps pu n).elems.length- 1,by omega⟩
 refine⟨⟨g,h.gq,z4h h.dp,h.dq,by omega,hx.elems,?_⟩,?_,by omega⟩
 ·rw[hk2] at hy|-
  exact hy.keep
 ·unfold jmD
  rw[e,List.length_append,List.length_map,hz]
  omega
theorem PD.addQ(h:PD wx wy ps pu qs qu T U G H)(hp:0<ps.length->(ps.getD 0 default).kind≠1)(h0:0<qs.length)(hk:(qs.getD 0 default).kind=1){n:Int}(hn:n=szD (qs.getD 0 default)- qu):
 PD ⟨z1a (z0b wx) ((tkE qs qu n).elems.length:Int) [],[],0⟩ ⟨wy.out,wy.add++(tkE qs qu n).elems,wy.cut⟩ ps pu (tkL qs qu n) (tkN qs qu n) T U G H/\
 jmD ps pu (tkL qs qu n) (tkN qs qu n)< jmD ps pu qs qu/\((tkE qs qu n).elems.length:Int)=n:=by
 have hl:=h.gq.lt h0
 obtain⟨g,e⟩:=z4M (n:=n) h.gq h0 (by omega) (by omega)
 have hz:=z6c (n:=n) hk h.gq.pos (by omega) (by omega)
 rw[y3d hk] at e
 have hx:=h.dx
 have hy:=h.dy
 have he:=h.eq
 rw[e,x8v _ (x9Y h.gp hp)] at hx hy
 rw[e,z0U,(z3P _).1] at he
 obtain⟨k,hk2⟩:∃k,(tkE qs qu n).elems.length=k+1:=⟨(tkE qs qu n).elems.length- 1,by omega⟩
 refine⟨⟨h.gp,g,h.dp,z4h h.dq,by omega,?_,hy.elems⟩,?_,by omega⟩
 ·rw[hk2] at hx|-
  exact hx.keep
 ·unfold jmD
  rw[e,List.length_append,List.length_map,hz]
  omega
theorem PD.both(h:PD wx wy ps pu qs qu T U G H)(a:0<ps.length)(b:0<qs.length)(kp:(ps.getD 0 default).kind≠1)(kq:(qs.getD 0 default).kind≠1){n:Int}(hn:n=min (szD (ps.getD 0 default)- pu) (szD (qs.getD 0 default)- qu)):
 (((ps.getD 0 default).kind=0/\(qs.getD 0 default).kind=0->PD ⟨z1a (z0b wx) n (fm z3N (ps.getD 0 default).attrs (qs.getD 0 default).attrs),[],0⟩ ⟨z1a (z0b wy) n (qs.getD 0 default).attrs,[],0⟩ (tkL ps pu n) (tkN ps pu n) (tkL qs qu n) (tkN qs qu n) T U G H)/\
 ((ps.getD 0 default).kind=0/\(qs.getD 0 default).kind=2->PD wx ⟨wy.out,wy.add,wy.cut+n⟩ (tkL ps pu n) (tkN ps pu n) (tkL qs qu n) (tkN qs qu n) T U G H)/\
 ((ps.getD 0 default).kind=2/\(qs.getD 0 default).kind=0->PD ⟨wx.out,wx.add,wx.cut+n⟩ wy (tkL ps pu n) (tkN ps pu n) (tkL qs qu n) (tkN qs qu n) T U G H)/\
 ((ps.getD 0 default).kind=2/\(qs.getD 0 default).kind=2->PD wx wy (tkL ps pu n) (tkN ps pu n) (tkL qs qu n) (tkN qs qu n) T U G H))/\
 jmD (tkL ps pu n) (tkN ps pu n) (tkL qs qu n) (tkN qs qu n)< jmD ps pu qs qu:=by
 have l1:=h.gp.lt a
 have l2:=h.gq.lt b
 have p1:=h.gp.pos
 have p2:=h.gq.pos
 obtain⟨g1,e1⟩:=z4M (n:=n) h.gp a (by omega) (by omega)
 obtain⟨g2,e2⟩:=z4M (n:=n) h.gq b (by omega) (by omega)
 have hx:=h.dx
 have hy:=h.dy
 have he:=h.eq
 refine⟨⟨fun k=> ?_,fun k=> ?_,fun k=> ?_,fun k=> ?_⟩,?_⟩
 ·rw[e1,e2,z9g k.1,z9g k.2] at hx hy he
  rw[x8w,show n.toNat=(n.toNat- 1)+1 by omega] at hx hy
  rw[z0U,z0U,(z2i _ _).1,(z2i _ _).1] at he
  have hx2:=hx.keep
  have hy2:=hy.keep
  rw[show(((n.toNat- 1+1:Nat)):Int)=n by omega] at hx2 hy2
  exact⟨g1,g2,z4h h.dp,z4h h.dq,by omega,hx2,hy2⟩
 ·rw[e1,e2,z9g k.1,y1s k.2] at hx hy he
  rw[x8x] at hx hy
  rw[z0U,z0U,(z3Q _).1,(z2i _ _).1] at he
  have hy2:=hy.cuts
  rw[show((n.toNat:Nat):Int)=n by omega] at hy2
  exact⟨g1,g2,z4h h.dp,z4h h.dq,by omega,hx,hy2⟩
 ·rw[e1,e2,y1s k.1,z9g k.2] at hx hy he
  rw[x8y] at hx hy
  rw[z0U,z0U,(z3Q _).1,(z2i _ _).1] at he
  have hx2:=hx.cuts
  rw[show((n.toNat:Nat):Int)=n by omega] at hx2
  exact⟨g1,g2,z4h h.dp,z4h h.dq,by omega,hx2,hy⟩
 ·rw[e1,e2,y1s k.1,y1s k.2] at hx hy he
  rw[x8z] at hx hy
  rw[z0U,z0U,(z3Q _).1] at he
  exact⟨g1,g2,z4h h.dp,z4h h.dq,by omega,hx,hy⟩
 ·have hs:=y9U (h.gp.ok _ (z0K a))
  have hl:=congrArg List.length (z9f (n:=n) (h.gp.ok _ (z0K a)) p1 (by omega) (by omega))
  simp only[List.length_append,List.length_drop] at hl
  unfold jmD
  rw[e1,e2,List.length_append,List.length_append]
  omega
theorem PD.two(h:PD wx wy ps pu qs qu T U G H)(h0:0<ps.length\/0<qs.length)(hp:0<ps.length->(ps.getD 0 default).kind≠1)(hq:0<qs.length->(qs.getD 0 default).kind≠1):0<ps.length/\0<qs.length:=by
 have he:=h.eq
 rcases Nat.eq_zero_or_pos ps.length with a|a
 ·rcases Nat.eq_zero_or_pos qs.length with b|b
  ·omega
  ·have:=(y6j h.gq b).1 (hq b)
   rw[z3S a] at he
   simp only[z0I] at he
   omega
 ·rcases Nat.eq_zero_or_pos qs.length with b|b
  ·have:=(y6j h.gp a).1 (hp a)
   rw[z3S b] at he
   simp only[z0I] at he
   omega
  ·exact⟨a,b⟩
theorem PD.done(h:PD wx wy ps pu qs qu T U G H)(a:ps.length=0)(b:qs.length=0):wx=G/\wy=H:=by
 have hx:=h.dx
 have hy:=h.dy
 rw[z3S a,z3S b] at hx hy
 exact⟨DI.done (by simpa[z0f] using hx),DI.done (by simpa[z0f] using hy)⟩
end
theorem z7v{a b:List DStep}(va:z1g a)(vb:z1g b)(da:DN 100000000000 a)(db:DN 100000000000 b)(hm:z1Q a=z1Q b)(hs:z2c a+z2c b<=2147483647):
 (∀u∈(z0f (exD a) (exD b)).1,z1G u)/\(∀u∈(z0f (exD a) (exD b)).2,z1G u)/\
 PD ⟨[],[],0⟩ ⟨[],[],0⟩ a 0 b 0 (z0f (exD a) (exD b)).1.length (z0f (exD a) (exD b)).2.length (z1S ⟨[],[],0⟩ (z0f (exD a) (exD b)).1) (z1S ⟨[],[],0⟩ (z0f (exD a) (exD b)).2)/\
 z1g (z00 a b)/\z1g (z2s a b)/\DSw (exD (z00 a b)) (z0f (exD a) (exD b)).1/\DSw (exD (z2s a b)) (z0f (exD a) (exD b)).2/\
 z1Q (z00 a b)=z2c b/\z1Q (z2s a b)=z2c a/\DN 400000000000 (z00 a b)/\DN 400000000000 (z2s a b):=by
 obtain⟨hu,hv⟩:=y3f _ _ (y3c va.1.all da) (y3c vb.1.all db)
 have la:=z5U va
 have lb:=z5U vb
 have o:∃l:List Elem,l.length=z0I (exD a)/\∀x∈l,VG false x.attrs:=⟨List.replicate (z0I (exD a)) ⟨0,0,[]⟩,by simp,fun x hx=>by rw[List.eq_of_mem_replicate hx];exact(z1z (e:=false) (l:=[])).1 (by rw[z1B];rfl)⟩
 obtain⟨l,hl1,hl2⟩:=o
 obtain⟨_,m2,m1,_⟩:=z1h _ (exD a) (exD b) l (Nat.le_refl _) hl1.symm (by omega) (y6g (y3c va.1.all da)) (y6g (y3c vb.1.all db)) hl2
 have nn:=y7L (exD a) (exD b)
 have s1:=y4E (z0f (exD a) (exD b)).1
 have s2:=y4E (z0f (exD a) (exD b)).2
 have a1:=va.2.2
 have b1:=vb.2.2
 obtain⟨d1,d2,d3,d4⟩:=z5z hu (by omega) (by omega)
 obtain⟨e1,e2,e3,e4⟩:=z5z hv (by omega) (by omega)
 exact⟨hu,hv,⟨y1t va,y1t vb,da,db,by rw[y9V,y9V];omega,by rw[y9V,y9V];exact DI.start hu (by omega),by rw[y9V,y9V];exact DI.start hv (by omega)⟩,d1,e1,d2,e2,by unfold z00;omega,by unfold z2s;omega,
  y6i hu (by omega),y6i hv (by omega)⟩
end Go.Ch
end
section
namespace Go.Ch
open Go Go.Ab
def z9H(s:DStep):Int:=if(s.kind=1/\s.elems.length=0/\z0Q s=11)\/(s.kind≠1/\s.n=0/\z0Q s=2) then z1B true s.attrs 0 else z0Q s
def tdW(w:DWr)(s:DStep):DWr:=
 if s.kind=0 then(if s.n=0 then w else⟨z1a (z0b w) s.n s.attrs,[],0⟩) else if s.kind=1 then⟨w.out,w.add++s.elems,w.cut⟩ else⟨w.out,w.add,w.cut+s.n⟩
def z5L(w:DWr)(s:DStep):Prop:=s.kind≠0/\s.kind≠1/\2147483647<w.cut+s.n
instance (w:DWr) (s:DStep):Decidable (z5L w s):=by unfold z5L;infer_instance
def z4R(w:DWr):List DStep->List DStep×Int
 | []=>if z1u (z0b w)=0 then(z0b w,0) else([],3)
 |s::l=>if z9H s≠0 then([],z9H s) else if z5L w s then([],3) else z4R (tdW w s) l
def z2Q(d:List DStep):List DStep:=(z4R ⟨[],[],0⟩ d).1
def z6d(d:List DStep):Int:=(z4R ⟨[],[],0⟩ d).2
theorem y4F{s:DStep}(h:z9H s=0):(s.kind=0\/s.kind=1\/s.kind=2)/\0<=s.n/\s.n<=2147483647:=by
 unfold z9H at h
 split at h
 ·rename_i hc
  rcases hc with⟨k,e,q⟩| ⟨k,n0,q⟩
  ·unfold z0Q at q
   rw[if_pos k] at q
   split at q
   ·cases q
   ·rename_i hh;exact⟨.inr (.inl k),by omega,by omega⟩
  ·unfold z0Q at q
   rw[if_neg k] at q
   split at q
   ·rename_i hk;exact⟨by omega,by omega,by omega⟩
   ·cases q
 ·obtain⟨a,b,c,_⟩:=z1D h;exact⟨a,b,c⟩
theorem x2B{P:List Attr->Prop}{R:Elem->Prop}{l:List DStep}{n:Int}{c:List Attr}(h:∀s∈l,P s.attrs/\∀x∈s.elems,R x)(hc:P c):∀s∈z1a l n c,P s.attrs/\∀x∈s.elems,R x:=by
 unfold z1a
 split
 ·rename_i hl
  intro s hs
  rcases zh hs with hs|rfl
  ·exact h s hs
  ·exact h (l.getD (l.length- 1) default) (z0K (by omega))
 ·intro s hs
  rcases qj.1 hs with hs|hs
  ·exact h s hs
  ·rw[qA] at hs;subst hs;exact⟨hc,fun x hx=>by cases hx⟩
theorem y3g{P:List Attr->Prop}{R:Elem->Prop}{w:DWr}(h0:P [])(h:∀s∈w.out,P s.attrs/\∀x∈s.elems,R x)(ha:∀x∈w.add,R x):∀s∈z0b w,P s.attrs/\∀x∈s.elems,R x:=by
 unfold z0b
 intro s hs
 rcases qj.1 hs with hs|hs
 ·rcases qj.1 hs with hs|hs
  ·exact h s hs
  ·split at hs
   ·rw[qA] at hs;subst hs;exact⟨h0,ha⟩
   ·cases hs
 ·split at hs
  ·rw[qA] at hs;subst hs;exact⟨h0,fun x hx=>by cases hx⟩
  ·cases hs
theorem x46{P:List Attr->Prop}{R:Elem->Prop}{w:DWr}{s:DStep}(h0:P [])(h:∀s∈w.out,P s.attrs/\∀x∈s.elems,R x)(ha:∀x∈w.add,R x)(hs:P s.attrs/\∀x∈s.elems,R x):
 (∀t∈(tdW w s).out,P t.attrs/\∀x∈t.elems,R x)/\∀x∈(tdW w s).add,R x:=by
 unfold tdW
 split
 ·split
  ·exact⟨h,ha⟩
  ·exact⟨x2B (y3g h0 h ha) hs.1,fun x hx=>by cases hx⟩
 ·split
  ·exact⟨h,fun x hx=>by rcases qj.1 hx with hx|hx;exact ha x hx;exact hs.2 x hx⟩
  ·exact⟨h,ha⟩
theorem z9i{s:DStep}(h:z0Q s=0):z9H s=0:=by
 unfold z9H
 rw[if_neg]
 ·exact h
 ·rintro(⟨_,_,q⟩| ⟨_,_,q⟩)<;>rw[h] at q<;>cases q
theorem y7M{w:DWr}{s:DStep}{l:List DStep}(h:z9H s=0)(hb:¬z5L w s):z4R w (s::l)=z4R (tdW w s) l:=by
 conv=>lhs;unfold z4R
 rw[if_neg (by rw[h];decide),if_neg hb]
end Go.Ch
end
section
namespace Go.Ch
open Go Go.Ab
def elS:List DStep->Nat
 | []=>0
 |s::l=>s.elems.length+elS l
theorem y9Z(p q:List DStep):elS (p++q)=elS p+elS q:=by
 induction p with
 |nil=>simp[elS]
 |cons s p ih=>simp only[qy,elS,ih];omega
theorem y6m{d:List DStep}{i:Nat}(h:i<d.length):elS (d.take (i+1))=elS (d.take i)+(d.getD i default).elems.length/\elS (d.take (i+1))<=elS d:=by
 constructor
 ·rw[qz h,y9Z,show d.getD i default=d[i] by simp[List.getD,qb h]];simp[elS]
 ·conv=>rhs;rw[<-List.take_append_drop (i+1) d,y9Z]
  omega
structure TB(d:List DStep)(i:Nat)(w:DWr):Prop where
 out:w.out.length<=3*i
 add:w.add.length<=elS (d.take i)
 cut:0<=w.cut/\w.cut<=2147483647
 n:∀s∈w.out,0<=s.n/\s.n<=2147483647*((i:Int)+1)
 dn:∀s∈w.out,s.attrs.length<=100000000000/\∀x∈s.elems,x.attrs.length<=100000000000
 an:∀x∈w.add,x.attrs.length<=100000000000
 el:∀s∈w.out,s.elems.length<=elS (d.take i)
theorem TB.start(d:List DStep):TB d 0 ⟨[],[],0⟩:=⟨by simp,by simp,⟨by simp,by simp⟩,fun s h=>absurd h qX,fun s h=>absurd h qX,fun s h=>absurd h qX,fun s h=>absurd h qX⟩
theorem y90{w:DWr}{B:Int}(hB:2147483647<=B)(hc:0<=w.cut/\w.cut<=2147483647)(h:∀s∈w.out,0<=s.n/\s.n<=B):∀s∈z0b w,0<=s.n/\s.n<=B:=by
 unfold z0b
 intro s hs
 rcases qj.1 hs with hs|hs
 ·rcases qj.1 hs with hs|hs
  ·exact h s hs
  ·split at hs
   ·rw[qA] at hs;subst hs;simp only;omega
   ·cases hs
 ·split at hs
  ·rw[qA] at hs;subst hs;simp only;omega
  ·cases hs
theorem y6n{w:DWr}{B:Nat}(ha:w.add.length<=B)(h:∀s∈w.out,s.elems.length<=B):∀s∈z0b w,s.elems.length<=B:=by
 unfold z0b
 intro s hs
 rcases qj.1 hs with hs|hs
 ·rcases qj.1 hs with hs|hs
  ·exact h s hs
  ·split at hs
   ·rw[qA] at hs;subst hs;exact ha
   ·cases hs
 ·split at hs
  ·rw[qA] at hs;subst hs;simp
  ·cases hs
theorem x6Z{l:List DStep}{B B' n:Int}{c:List Attr}(h:∀s∈l,0<=s.n/\s.n<=B)(h1:0<=n)(h2:B+n<=B')(h3:0<=B):∀s∈z1a l n c,0<=s.n/\s.n<=B':=by
 unfold z1a
 split
 ·intro s hs
  rcases zh hs with hs|rfl
  ·have:=h s hs;omega
  ·have:=h (l.getD (l.length- 1) default) (z0K (by omega))
   simp only;omega
 ·intro s hs
  rcases qj.1 hs with hs|hs
  ·have:=h s hs;omega
  ·rw[qA] at hs;subst hs;simp only;omega
theorem x47{l:List DStep}{B:Nat}{n:Int}{c:List Attr}(h:∀s∈l,s.elems.length<=B):∀s∈z1a l n c,s.elems.length<=B:=by
 unfold z1a
 split
 ·intro s hs
  rcases zh hs with hs|rfl
  ·exact h s hs
  ·exact h (l.getD (l.length- 1) default) (z0K (by omega))
 ·intro s hs
  rcases qj.1 hs with hs|hs
  ·exact h s hs
  ·rw[qA] at hs;subst hs;simp
theorem TB.flush{d:List DStep}{i:Nat}{w:DWr}(h:TB d i w)(hi:i<=100000000)(he:elS d<=100000000000)(hd:elS (d.take i)<=elS d):
 (∀s∈z0b w,0<=s.n/\s.n<=1000000000000000000)/\DN 400000000000 (z0b w):=by
 refine⟨y90 (by decide) h.cut (fun s hs=>by have:=h.n s hs;omega),fun s hs=> ?_⟩
 have h1:=y3g (P:=fun l=>l.length<=100000000000) (R:=fun x=>x.attrs.length<=100000000000) (by simp) h.dn h.an s hs
 have h2:=y6n h.add h.el s hs
 exact⟨by omega,by have:=h1.1;omega,fun x hx=>by have:=h1.2 x hx;omega⟩
theorem TB.next{d:List DStep}{i:Nat}{w:DWr}(h:TB d i w)(hi:i<d.length)(hd:DN 100000000000 d)(hl:z9H (d.getD i default)=0)(hb:¬z5L w (d.getD i default)):TB d (i+1) (tdW w (d.getD i default)):=by
 obtain⟨k,n0,n1⟩:=y4F hl
 obtain⟨e1,_⟩:=y6m hi
 obtain⟨b1,b2,b3⟩:=hd _ (z0K hi)
 generalize d.getD i default=s at*
 have ha:=x46 (P:=fun l=>l.length<=100000000000) (R:=fun x=>x.attrs.length<=100000000000) (w:=w) (s:=s) (by simp) h.dn h.an ⟨b2,b3⟩
 have hn:=h.n
 have hc:=h.cut
 have ho:=h.out
 have hadd:=h.add
 refine⟨?_,?_,?_,?_,ha.1,ha.2,?_⟩
 ·unfold tdW
  split
  ·split
   ·omega
   ·have:=y9O (z0b w) s.n s.attrs
    have:=y0k w
    simp only;omega
  ·split<;>simp only<;>omega
 ·unfold tdW
  split
  ·split
   ·omega
   ·simp
  ·split
   ·simp only[qf];omega
   ·simp only;omega
 ·unfold tdW
  split
  ·split
   ·exact hc
   ·exact⟨zz 0,(by decide:(0:Int)<=2147483647)⟩
  ·split
   ·exact hc
   ·rename_i k0 k1
    unfold z5L at hb
    simp only
    omega
 ·have up:∀t∈w.out,0<=t.n/\t.n<=2147483647*(((i+1:Nat):Int)+1):=fun t ht=>by have:=hn t ht;omega
  unfold tdW
  split
  ·split
   ·exact up
   ·exact x6Z (y90 (by omega) hc hn) (B':=2147483647*(((i+1:Nat):Int)+1)) (by omega) (by omega) (by omega)
  ·split
   ·exact up
   ·exact up
 ·have up:∀t∈w.out,t.elems.length<=elS (d.take (i+1)):=fun t ht=>by have:=h.el t ht;omega
  unfold tdW
  split
  ·split
   ·exact up
   ·exact x47 (y6n (by omega) up)
  ·split
   ·exact up
   ·exact up
end Go.Ch
namespace Go.Ch
open Go Go.Ab
theorem x2C{d:List DStep}{i:Nat}(h:i<d.length)(w:DWr):z4R w (d.drop i)=if z9H (d.getD i default)≠0 then([],z9H (d.getD i default)) else if z5L w (d.getD i default) then([],3) else z4R (tdW w (d.getD i default)) (d.drop (i+1)):=by
 rw[y9D h,z4R]
theorem y3h{d:List DStep}{i:Nat}(h:d.length<=i)(w:DWr):z4R w (d.drop i)=if z1u (z0b w)=0 then(z0b w,0) else([],3):=by
 rw[qM h,z4R]
end Go.Ch
end
section
namespace Go.Ch
open Go Go.Ab

def z4i:DU->DStep
 | .K c=>⟨0,1,c,[]⟩
 | .A e=>⟨1,0,[],[e]⟩
 | .C=>⟨2,1,[],[]⟩
theorem x2D{u:DU}(h:z1G u):DOk (z4i u):=by
 cases u with
 |K c=>exact .inr ⟨.inl rfl,rfl,fun h=>absurd (show(0:Int)=2 from h) (by decide),zz 1,(by decide:(1:Int)<=2147483647),h.1⟩
 |A e=>exact .inl ⟨rfl,rfl,rfl,by simp[z4i],fun x hx=>by rw[show x=e by simpa[z4i] using hx];exact h.1⟩
 |C=>exact .inr ⟨.inr rfl,rfl,fun _=>rfl,zz 1,(by decide:(1:Int)<=2147483647),z9d⟩
theorem x8A(w:DWr)(u:DU):tdW w (z4i u)=y3R w u:=by
 cases u<;>simp[tdW,z4i,y3R]
theorem x2E{w:DWr}(h:0<=w.cut)(u:DU):0<=(y3R w u).cut/\(y3R w u).cut<=w.cut+1:=by
 cases u<;>simp only[y3R]<;>omega
theorem y91:∀(us:List DU) (w:DWr),(∀u∈us,z1G u)->0<=w.cut->w.cut+us.length<=2147483647->z4R w (us.map z4i)=if z1u (z0b (z1S w us))=0 then(z0b (z1S w us),0) else([],3)
 | [],w,_,_,_=>by rw[zW,z4R,z1S]
 |u::us,w,hu,h0,hl=>by
  simp only[qi] at hl
  have hc:=x2E h0 u
  rw[qZ,z4R,if_neg (by rw[z9i (z1d.2 (x2D (hu u (by simp))))];decide),if_neg,x8A,y91 us _ (fun v hv=>hu v (by simp[hv])) hc.1 (by omega),z1S]
  rintro⟨k0,k1,hb⟩
  have hn:(z4i u).n<=1:=by cases u<;>simp[z4i]
  omega
theorem y0n{us:List DU}(hu:∀u∈us,z1G u)(hl:us.length<=2147483647):z2Q (us.map z4i)=z5K us/\z6d (us.map z4i)=0:=by
 have h1:z0I us<=us.length/\z07 us<=us.length:=by
  clear hu hl
  induction us with
  |nil=>exact⟨qn _,qn _⟩
  |cons u us ih=>cases u<;>simp only[z0I,z07,qi]<;>omega
 have hd:=z5z hu (by omega) (by omega)
 have:=y91 us ⟨[],[],0⟩ hu (zz _) (by simp only;omega)
 rw[if_pos (show z1u (z0b (z1S ⟨[],[],0⟩ us))=0 from z1r.2 hd.1)] at this
 unfold z2Q z6d
 rw[this]
 exact⟨rfl,rfl⟩
def z9I:ByteArray:={data:=#[99,117,116]}
def y6o:ByteArray:={data:=#[97,100,100]}
def x6i:ByteArray:={data:=#[104,105,100,100,101,110]}
def y4G(l:List Attr)(n:ByteArray):Bool:=l.any fun a=>seq a.name n
def x9x(l:List Attr)(n:ByteArray):Bool:=!(seq (z19 l n 0) {data:=#[]})
theorem x48{l:List Attr}{i:Nat}(h:i<l.length)(n:ByteArray):y4G (l.drop i) n=(seq (l.getD i default).name n||y4G (l.drop (i+1)) n):=by
 have e:l.drop i=l.getD i default::l.drop (i+1):=by
  rw[zi h];simp[List.getD,qb h]
 rw[e];rfl
def y6p(x:Elem)(mode:Int):Bool:=(seq (z19 x.attrs x6i 0) onB|| ((mode==0)&&x9x x.attrs z9I))|| ((mode==1)&&x9x x.attrs y6o)
def x3J(f:List Elem)(mode:Int)(i:Nat):Bool:=!(y6p (f.getD i default) mode)|| (decide ((i:Int)=(f.length:Int)- 1)&&decide ((f.getD i default).char=10))
def x7M(f:List Elem)(mode:Int)(i:Nat):List Nat:=(List.range i).filter (x3J f mode)
def y3i(f:List Elem)(mode:Int)(i:Nat):List Int:=(x7M f mode i).map fun i:Nat=>(i:Int)
theorem y3j(f:List Elem)(mode:Int)(i:Nat):y3i f mode (i+1)=y3i f mode i++(if x3J f mode i=true then[(i:Int)] else[]):=by
 unfold y3i x7M
 rw[zQ,zG,zj,List.filter_cons]
 cases x3J f mode i<;>simp
theorem y6q(f:List Elem)(mode:Int)(i:Nat):(y3i f mode i).length<=i:=by
 unfold y3i x7M
 rw[qk]
 have:=zT (x3J f mode) (List.range i)
 rw[List.length_range] at this;exact this
theorem y92{f:List Elem}{mode:Int}{i:Nat}(h:y6p (f.getD i default) mode=false\/(i:Int)=(f.length:Int)- 1/\(f.getD i default).char=10):x3J f mode i=true:=by
 unfold x3J
 rcases h with h| ⟨h,k⟩
 ·rw[h];rfl
 ·rw[decide_eq_true h,decide_eq_true k];simp
theorem x3K{f:List Elem}{mode:Int}{i:Nat}(h:y6p (f.getD i default) mode=true/\(¬(i:Int)=(f.length:Int)- 1\/¬(f.getD i default).char=10)):x3J f mode i=false:=by
 unfold x3J
 rw[h.1]
 rcases h.2 with k|k
 ·rw[decide_eq_false k];simp
 ·rw[decide_eq_false k];simp
def mtB:ByteArray:={data:=#[]}
def z7V(pl:List Int)(k:Int):Int:=if k=0 then 0 else pl.getD (k- 1).toNat default+1
def z9j(pl:List Int)(n:Nat):List Bool:=(List.range n).map fun i:Nat=>pl.any (fun p=>p==(i:Int))
def y6r(f:List Elem)(pl:List Int)(au:ByteArray)(i:Nat):DU:=
 if pl.any (fun p=>p==(i:Int))=true then(if(seq au mtB||seq (z19 (f.getD i default).attrs y6o 0) au)=true then .C else .K [⟨z9I,au⟩]) else .K []
def z6e(f:List Elem)(pl:List Int)(au:ByteArray)(n:Nat):List DU:=(List.range n).map (y6r f pl au)
def y7N(f:List Elem)(pl:List Int)(au:ByteArray)(n:Nat):List DStep:=(z6e f pl au n).map z4i
def z7w(f:List Elem)(pl:List Int)(au:ByteArray):List DStep:=z2Q (y7N f pl au f.length)
def x49(au:ByteArray)(x:Elem):Elem:={x with attrs:=fm z2e x.attrs [⟨y6o,au⟩,⟨z9I,mtB⟩]}
def y93(n:Nat)(k:Int)(es:List Elem)(au:ByteArray):List DStep:=[⟨0,k,[],[]⟩,⟨1,0,[],es.map (x49 au)⟩,⟨0,(n:Int)- k,[],[]⟩]
def y0o(n:Nat)(k:Int)(es:List Elem)(au:ByteArray):List DStep:=z2Q (y93 n k es au)
theorem y94(pl:List Int)(n:Nat):(z9j pl n).length=n:=by simp[z9j]
theorem y95(n:Nat):z9j [] n=List.replicate n false:=by
 unfold z9j
 apply List.ext_getElem (by simp)
 intro i h1 h2
 simp
theorem y7O{pl:List Int}{k n:Nat}(h:k<pl.length)(hp:0<=pl.getD k default/\pl.getD k default< (n:Int)):(z9j (pl.take k) n).set (pl.getD k default).toNat true=z9j (pl.take (k+1)) n:=by
 have e:pl.getD k default=pl[k]:=by rw[qe,qb h];rfl
 unfold z9j
 apply List.ext_getElem (by simp)
 intro i h1 h2
 simp only[List.getElem_set,List.getElem_map,List.getElem_range]
 rw[qz h,List.any_append,zH,zP,zI,<-e]
 by_cases q:(pl.getD k default).toNat=i
 ·rw[if_pos q]
  have:(pl.getD k default==(i:Int))=true:=by rw[beq_iff_eq];omega
  rw[this,Bool.or_true]
 ·rw[if_neg q]
  have:(pl.getD k default==(i:Int))=false:=by rw[beq_eq_false_iff_ne];omega
  rw[this,zI]
theorem z9k(f:List Elem)(pl:List Int)(au:ByteArray)(i:Nat):y7N f pl au (i+1)=y7N f pl au i++[z4i (y6r f pl au i)]:=by
 unfold y7N z6e
 rw[zQ,zj,zj];rfl
theorem y6s(f:List Elem)(pl:List Int)(au:ByteArray)(i:Nat):(y7N f pl au i).length=i:=by simp[y7N,z6e]
theorem x2F{pl:List Int}{n i:Nat}(h:i<n):(z9j pl n).getD i default=pl.any (fun p=>p==(i:Int)):=by
 unfold z9j
 rw[qe,qY,List.getElem?_range h];rfl
theorem x5a(f:List Elem)(pl:List Int)(au:ByteArray)(n:Nat):DN 100000000000 (y7N f pl au n)/\elS (y7N f pl au n)=0:=by
 have hx:∀s∈y7N f pl au n,s.elems=[]/\s.attrs.length<=1:=by
  intro s hs
  unfold y7N z6e at hs
  obtain⟨u,hu,rfl⟩:=qI.1 hs
  obtain⟨i,hi,rfl⟩:=qI.1 hu
  unfold y6r
  split
  ·split
   ·exact⟨rfl,by decide⟩
   ·exact⟨rfl,qn 1⟩
  ·exact⟨rfl,by decide⟩
 refine⟨fun s hs=> ?_,?_⟩
 ·obtain⟨h1,h2⟩:=hx s hs
  refine⟨by rw[h1];simp,by omega,?_⟩
  rw[h1];intro x hx;cases hx
 ·generalize y7N f pl au n=l at hx
  induction l with
  |nil=>rfl
  |cons s l ih=>
   rw[elS,(hx s zF).1,ih (fun t ht=>hx t (qU _ ht))];rfl
theorem x8B{f:List Elem}{pl:List Int}{au:ByteArray}{i:Nat}(h:pl.any (fun p=>p==(i:Int))=false):z4i (y6r f pl au i)={kind:=0,n:=1,attrs:=[],elems:=[]}:=by
 unfold y6r;rw[if_neg (by rw[h];decide)];rfl
theorem x8C{f:List Elem}{pl:List Int}{au:ByteArray}{i:Nat}(h:pl.any (fun p=>p==(i:Int))=true)(h2:seq au {data:=#[]}=true\/seq (z19 (f.getD i default).attrs {data:=#[97,100,100]} 0) au=true):z4i (y6r f pl au i)={kind:=2,n:=1,attrs:=[],elems:=[]}:=by
 unfold y6r;rw[if_pos h,if_pos (by rw[qH];exact h2)];rfl
theorem x8D{f:List Elem}{pl:List Int}{au:ByteArray}{i:Nat}(h:pl.any (fun p=>p==(i:Int))=true)(h2:seq au {data:=#[]}=false/\seq (z19 (f.getD i default).attrs {data:=#[97,100,100]} 0) au=false):z4i (y6r f pl au i)={kind:=0,n:=1,attrs:=[{name:={data:=#[99,117,116]},val:=au}],elems:=[]}:=by
 unfold y6r;rw[if_pos h,if_neg]
 ·rfl
 ·rw[qH];rintro(q|q)
  ·rw[show seq au mtB=seq au {data:=#[]} from rfl,h2.1] at q;cases q
  ·rw[show y6o=({data:=#[97,100,100]}:ByteArray) from rfl,h2.2] at q;cases q
theorem y96{α:Type}[Inhabited α]{g:α->α}{l:List α}{i:Nat}(h:i<l.length):((l.take i).map g++l.drop i).getD i default=l.getD i default:=by
 rw[qe,qG (by simp;omega)]
 simp only[qk,qB,Nat.min_eq_left (Nat.le_of_lt h),Nat.sub_self]
 rw[qL,qe];rfl
theorem y3k{α:Type}[Inhabited α]{g:α->α}{l:List α}{i:Nat}(h:i<l.length):((l.take i).map g++l.drop i).set i (g (l.getD i default))=(l.take (i+1)).map g++l.drop (i+1):=by
 have e:l.getD i default=l[i]:=by rw[qe,qb h];rfl
 rw[qz h,zj,qO,List.set_append_right _ _ (by simp;omega)]
 congr 1
 simp only[qk,qB,Nat.min_eq_left (Nat.le_of_lt h),Nat.sub_self]
 rw[z5x h,List.set_cons_zero,e];rfl
theorem x5b(n:Nat)(k:Int)(es:List Elem)(au:ByteArray)(he:es.length<=1048576)(ha:∀x∈es,x.attrs.length<=1048576):DN 100000000000 (y93 n k es au)/\elS (y93 n k es au)<=1048576:=by
 refine⟨fun s hs=> ?_,by simp[y93,elS];omega⟩
 unfold y93 at hs
 simp only[qg,qX,or_false] at hs
 rcases hs with rfl|rfl|rfl
 ·exact⟨by simp,by simp,fun x hx=>by cases hx⟩
 ·refine⟨by simp;omega,by simp,fun x hx=> ?_⟩
  obtain⟨y,hy,rfl⟩:=qI.1 hx
  have h1:=ha y hy
  have h2:=z2j z2e y.attrs [⟨y6o,au⟩,⟨z9I,mtB⟩]
  show(fm z2e y.attrs [⟨y6o,au⟩,⟨z9I,mtB⟩]).length<=_
  simp at h2;omega
 ·exact⟨by simp,by simp,fun x hx=>by cases hx⟩
theorem x60{n:Nat}{k:Int}{es o:List Elem}{au:ByteArray}(ho:o=es.map (x49 au))(dn:DN 100000000000 (y93 n k es au))(el:elS (y93 n k es au)<=1048576):
 DN 100000000000 [{kind:=0,n:=k,attrs:=[],elems:=[]},{kind:=1,n:=0,attrs:=[],elems:=o},{kind:=0,n:=(n:Int)- k,attrs:=[],elems:=[]}]/\[({kind:=0,n:=k,attrs:=[],elems:=[]}:DStep),{kind:=1,n:=0,attrs:=[],elems:=o},{kind:=0,n:=(n:Int)- k,attrs:=[],elems:=[]}].length<=100000000/\
 elS [{kind:=0,n:=k,attrs:=[],elems:=[]},{kind:=1,n:=0,attrs:=[],elems:=o},{kind:=0,n:=(n:Int)- k,attrs:=[],elems:=[]}]<=10000000000:=by
 subst ho
 exact⟨dn,by simp,qP el (by decide)⟩
structure Pl where
 node:Node
 shown:List Int
 author:ByteArray
instance:Inhabited Pl:=⟨⟨default,[],{data:=#[]}⟩⟩
def plT(p:Pl):Tree:= .agg [TI p.node.id,TI p.node.kind,.lst 2 (p.node.attrs.map z0a),.lst 3 (p.node.flow.map z0c),TI p.node.grid.rows,TI p.node.grid.cols,.lst 5 (p.node.grid.cells.map z0k),.lst 4 (p.node.grid.merges.map z0t),.lst 8 (p.node.draw.map z0R),.lst 1 (p.shown.map z0B),TS p.author]
structure Sel where
 nd:Int
 fr:Int
 tq:Int
instance:Inhabited Sel:=⟨⟨0,0,0⟩⟩
def z5f(s:Sel):Tree:= .agg [TI s.nd,TI s.fr,TI s.tq]
def ndN(l:List Node)(k:Int):Node:=l.getD (z0x l k) default
def x1y(n:Node):List Int:=y3i n.flow 0 n.flow.length
def atE(d:Doc)(s:Sel)(au:ByteArray):Int:=
 if z1N d≠0 then z1N d
 else if z14 d.nodes s.nd=false then 7
 else if z1o (ndN d.nodes s.nd).kind=false then 8
 else if s.fr<0\/s.tq<s.fr\/((x1y (ndN d.nodes s.nd)).length:Int)<=s.tq then 2
 else if seq au {data:=#[]}=false/\z17 au=false then 23 else 0
def z9l:Pl:=⟨⟨0,0,[],[],⟨0,0,[],[]⟩,[]⟩,[],{data:=#[]}⟩
def atP(d:Doc)(s:Sel)(au:ByteArray):Pl:=if atE d s au≠0 then z9l else⟨ndN d.nodes s.nd,x1y (ndN d.nodes s.nd),au⟩
theorem x61{d:Doc}{s:Sel}{au:ByteArray}{k:Int}(h:atE d s au=k)(hk:k≠0):atP d s au=z9l/\atE d s au=k:=by
 unfold atP;rw[h,if_pos hk];exact⟨rfl,rfl⟩
theorem x9Z{d:Doc}{s:Sel}{au:ByteArray}(h:z1N d≠0):atP d s au=z9l/\atE d s au=z1N d:=x61 (by unfold atE;rw[if_pos h]) h
theorem x90{d:Doc}{s:Sel}{au:ByteArray}(h:z1N d=0)(h2:z14 d.nodes s.nd=false):atP d s au=z9l/\atE d s au=7:=x61 (by unfold atE;rw[if_neg (fun q=>q h),if_pos h2]) (by decide)
theorem x91{d:Doc}{s:Sel}{au:ByteArray}(h:z1N d=0)(h2:z14 d.nodes s.nd=true)(h3:z1o (d.nodes.getD (z0x d.nodes s.nd) default).kind=false):atP d s au=z9l/\atE d s au=8:=
 x61 (by unfold atE;rw[if_neg (fun q=>q h),if_neg (by rw[h2];decide),if_pos (show z1o (ndN d.nodes s.nd).kind=false from h3)]) (by decide)
theorem x92{d:Doc}{s:Sel}{au:ByteArray}(h:z1N d=0)(h2:z14 d.nodes s.nd=true)(h3:z1o (d.nodes.getD (z0x d.nodes s.nd) default).kind=true)
 (h4:(s.fr<0\/s.tq<s.fr)\/((y3i (d.nodes.getD (z0x d.nodes s.nd) default).flow 0 (d.nodes.getD (z0x d.nodes s.nd) default).flow.length).length:Int)<=s.tq):atP d s au=z9l/\atE d s au=2:=
 x61 (by unfold atE;rw[if_neg (fun q=>q h),if_neg (by rw[h2];decide),if_neg (by unfold ndN;rw[h3];decide),if_pos (by unfold x1y ndN;omega)]) (by decide)
theorem x93{d:Doc}{s:Sel}{au:ByteArray}(h:z1N d=0)(h2:z14 d.nodes s.nd=true)(h3:z1o (d.nodes.getD (z0x d.nodes s.nd) default).kind=true)
 (h4:(0<=s.fr/\s.fr<=s.tq)/\s.tq< ((y3i (d.nodes.getD (z0x d.nodes s.nd) default).flow 0 (d.nodes.getD (z0x d.nodes s.nd) default).flow.length).length:Int)) (h5:seq au {data:=#[]}=false/\z17 au=false):atP d s au=z9l/\atE d s au=23:=
 x61 (by unfold atE;rw[if_neg (fun q=>q h),if_neg (by rw[h2];decide),if_neg (by unfold ndN;rw[h3];decide),if_neg (by unfold x1y ndN;omega),if_pos h5]) (by decide)
theorem x94{d:Doc}{s:Sel}{au:ByteArray}(h:z1N d=0)(h2:z14 d.nodes s.nd=true)(h3:z1o (d.nodes.getD (z0x d.nodes s.nd) default).kind=true)
 (h4:(0<=s.fr/\s.fr<=s.tq)/\s.tq< ((y3i (d.nodes.getD (z0x d.nodes s.nd) default).flow 0 (d.nodes.getD (z0x d.nodes s.nd) default).flow.length).length:Int)) (h5:seq au {data:=#[]}=true\/z17 au=true):atP d s au=⟨ndN d.nodes s.nd,x1y (ndN d.nodes s.nd),au⟩/\atE d s au=0:=by
 have e:atE d s au=0:=by
  unfold atE;rw[if_neg (fun q=>q h),if_neg (by rw[h2];decide),if_neg (by unfold ndN;rw[h3];decide),if_neg (by unfold x1y ndN;omega),if_neg]
  rintro⟨a,b⟩;rcases h5 with q|q
  ·rw[a] at q;cases q
  ·rw[b] at q;cases q
 unfold atP;rw[e,if_neg (fun q=>q rfl)];exact⟨rfl,rfl⟩
def z0h(p:Pl)(k:Int):Elem:=if k<0\/(p.shown.length:Int)<=k then⟨10,0,[]⟩ else p.node.flow.getD (p.shown.getD k.toNat default).toNat default
structure PlB(p:Pl):Prop where
 len:p.node.flow.length<=1048576
 ok:∀x∈p.shown,0<=x/\x< (p.node.flow.length:Int)
 sl:p.shown.length<=1048576
 at1:∀x∈p.node.flow,x.attrs.length<=1048576
theorem z9m{p:Pl}(h:PlB p)(k:Int):(z0h p k).attrs.length<=1048576:=by
 unfold z0h;split
 ·simp
 ·rename_i q
  have hx:=h.ok _ (z0j (l:=p.shown) (i:=k.toNat) (by omega))
  exact h.at1 _ (z0j (by omega))
def x95:List ByteArray:=[{data:=#[98,111,108,100]},{data:=#[105,116,97,108,105,99]},{data:=#[117,110,100,101,114]},{data:=#[115,116,114,105,107,101]},{data:=#[102,105,120,101,100]},{data:=#[114,97,105,115,101]},{data:=#[115,105,122,101]},{data:=#[99,111,108,111,117,114]},{data:=#[108,97,110,103]},{data:=#[115,116,121,108,101]}]
def x2G(n:ByteArray):Bool:=x95.any fun y=>seq n y
def z3y(n:ByteArray):Bool:=
 (((seq n {data:=#[108,105,110,107]}||seq n {data:=#[108,111,99,107]})|| (decide ((n.size:Int)> 7)&&seq (n.extract 0 7) {data:=#[114,101,109,97,114,107,46]}))|| (decide ((n.size:Int)> 5)&&seq (n.extract 0 5) {data:=#[109,97,114,107,46]}))
def x7N(p:Pl)(k:Int):Elem:=if(z0h p (k- 1)).char=10 then z0h p k else z0h p (k- 1)
def x5c(r:Elem)(k:Int)(a:Attr):Bool:=(z3y a.name&&decide (k>0))&&seq (z19 r.attrs a.name 0) a.val
def y97(r:Elem)(k:Int)(o:List Attr)(l:List Attr):List Attr:=l.foldl (fun o a=>if x5c r k a=true then fm z2e o [a] else o) o
def x3L(p:Pl)(k:Int):List Attr:=if(x7N p k).char≠10 then(x7N p k).attrs.filter (fun a=>x2G a.name) else[]
def z6f(p:Pl)(k:Int):List Attr:=y97 (z0h p k) k (x3L p k) (z0h p (k- 1)).attrs
theorem z8s(p:Pl)(k:Int):x3L p k=if(z0h p (k- 1)).char=10 then(if(z0h p k).char≠10 then(z0h p k).attrs.filter (fun a=>x2G a.name) else[]) else(if(z0h p (k- 1)).char≠10 then(z0h p (k- 1)).attrs.filter (fun a=>x2G a.name) else[]):=by
 unfold x3L x7N
 by_cases h:(z0h p (k- 1)).char=10
 ·rw[if_pos h,if_pos h]
 ·rw[if_neg h,if_neg h]
theorem z5A{α:Type}[Inhabited α]{f:α->Bool}{l:List α}{i:Nat}(h:i<l.length)(h1:f (l.getD i default)=true):List.filter f [l[i]]=[l.getD i default]:=by
 have e:l.getD i default=l[i]:=by rw[qe,qb h];rfl
 rw[e] at h1|-;simp[h1]
theorem z5B{α:Type}[Inhabited α]{f:α->Bool}{l:List α}{i:Nat}(h:i<l.length)(h1:f (l.getD i default)=false):List.filter f [l[i]]=[]:=by
 have e:l.getD i default=l[i]:=by rw[qe,qb h];rfl
 rw[e] at h1;simp[h1]
theorem z1b{r:Elem}{k:Int}{o l:List Attr}{j:Nat}(h:j<l.length):y97 r k o (l.take (j+1))=if x5c r k (l.getD j default)=true then fm z2e (y97 r k o (l.take j)) [l.getD j default] else y97 r k o (l.take j):=by
 have e:l.getD j default=l[j]:=by rw[qe,qb h];rfl
 unfold y97
 rw[qz h,List.foldl_append,e];rfl
theorem z7W{r:Elem}{k:Int}{a:Attr}(h:(z3y a.name=true/\0<k)/\seq (z19 r.attrs a.name 0) a.val=true):x5c r k a=true:=by
 unfold x5c;rw[h.1.1,h.2,decide_eq_true (show k>0 from h.1.2)];rfl
theorem z7X{r:Elem}{k:Int}{a:Attr}(h:(z3y a.name=false\/k<=0)\/seq (z19 r.attrs a.name 0) a.val=false):¬x5c r k a=true:=by
 unfold x5c;rw[qm,qm,decide_eq_true_eq]
 rintro⟨⟨a,b⟩,c⟩
 rcases h with(h|h)|h
 ·rw[a] at h;cases h
 ·omega
 ·rw[c] at h;cases h
theorem y98{p:Pl}{k:Int}(h:(p.shown.length:Int)<=k):(z0h p k).char=10:=by unfold z0h;rw[if_pos (.inr h)]
def y3l(p:Pl)(k:Nat):Nat:=if h:k<p.shown.length/\(z0h p k).char≠10 then y3l p (k+1) else k
termination_by p.shown.length-k
theorem y99{p:Pl}{k:Nat}(h:(z0h p k).char≠10):k<p.shown.length/\y3l p k=y3l p (k+1):=by
 have hl:k<p.shown.length:=qc fun q=>h (y98 (by omega))
 refine⟨hl,?_⟩
 conv=>lhs;rw[y3l]
 rw[dif_pos ⟨hl,h⟩]
theorem x0a{p:Pl}{k:Nat}(h:(z0h p k).char=10):y3l p k=k:=by rw[y3l,dif_neg (fun q=>q.2 h)]
def x8E:List ByteArray:=[{data:=#[97,100,100]},{data:=#[99,117,116]},{data:=#[104,105,100,100,101,110]},{data:=#[108,111,99,107]},{data:=#[115,101,99,116,105,111,110]},{data:=#[98,114,101,97,107]},{data:=#[115,116,97,114,116]}]
def x6j(a:Attr):Bool:=!(x8E.any fun y=>seq a.name y)&& !(z3y a.name)
def x1z(p:Pl)(k:Nat):List Attr:=(z0h p (y3l p k)).attrs.filter x6j
def opF(n:Int)(s:List DStep):EOp:=⟨2,n,⟨0,0,[],[],⟨0,0,[],[]⟩,[]⟩,[],s,⟨[],[],[],[],[]⟩,[]⟩
def y8j(p:Pl)(s:Sel):List DStep:=z7w p.node.flow ((p.shown.take s.tq.toNat).drop s.fr.toNat) p.author
def x1A(p:Pl)(s:Sel)(es:List Elem):List DStep:=y0o p.node.flow.length (z7V p.shown s.fr) es p.author
def y1u(p:Pl)(s:Sel)(es:List Elem):List DStep:=z5e (y8j p s) (z00 (x1A p s es) (y8j p s))
def x1B(s:Sel)(es:List Elem):Sel:=⟨s.nd,s.fr+es.length,s.fr+es.length⟩
structure StpB(p:Pl)(s:Sel)(es:List Elem):Prop where
 s1:0<=s.fr/\s.fr<=s.tq/\s.tq< (p.shown.length:Int)
 e1:es.length<=1048576
 e2:∀x∈es,x.attrs.length<=1048576
 v1:z1g (y8j p s)
 v2:z1g (x1A p s es)
 v3:z1g (z00 (x1A p s es) (y8j p s))
 d1:DN 100000000000 (y8j p s)
 d2:DN 100000000000 (x1A p s es)
 d3:DN 100000000000 (z00 (x1A p s es) (y8j p s))
 m1:z1Q (x1A p s es)=z1Q (y8j p s)
 m2:z2c (y8j p s)=z1Q (z00 (x1A p s es) (y8j p s))
 m3:z2c (x1A p s es)+z2c (y8j p s)<=2147483647
theorem y1v{p:Pl}{s:Sel}(h:PlB p)(h2:0<=s.fr/\s.fr<=s.tq/\s.tq< (p.shown.length:Int)):0<=z7V p.shown s.fr/\z7V p.shown s.fr<=(p.node.flow.length:Int):=by
 unfold z7V;split
 ·omega
 ·have:=h.ok _ (z0j (l:=p.shown) (i:=(s.fr- 1).toNat) (by omega));omega
def mkE(l:List Attr)(c:Int):Elem:=⟨c,0,l⟩
def x5d(p:Pl)(s:Sel)(x:Elem):Elem:=if x.char=10 then {x with attrs:=x1z p s.tq.toNat} else x
def z7x(p:Pl)(s:Sel)(cs:List Int):List Elem:=(cs.map (mkE (z6f p s.fr))).map (x5d p s)
def z3r(d:Doc)(s:Sel)(cs:List Int)(au:ByteArray):List EOp:=if atE d s au≠0 then[] else[opF s.nd (y1u (atP d s au) s (z7x (atP d s au) s cs))]
def z9n(d:Doc)(s:Sel)(cs:List Int)(au:ByteArray):Sel:=if atE d s au≠0 then⟨0,0,0⟩ else x1B s (z7x (atP d s au) s cs)
structure TypB(d:Doc)(s:Sel)(cs:List Int)(au:ByteArray):Prop where
 p:PlB (atP d s au)
 c:z1B false (z6f (atP d s au) s.fr) 0=0
 l:(z6f (atP d s au) s.fr).length<=10000000
 r:0<=s.fr/\s.fr<=s.tq/\s.tq< ((atP d s au).shown.length:Int)
 s:StpB (atP d s au) s (z7x (atP d s au) s cs)
theorem x62{d:Doc}{s:Sel}{cs:List Int}{au:ByteArray}(h:atE d s au≠0):z3r d s cs au=[]/\z9n d s cs au=⟨0,0,0⟩:=by
 unfold z3r z9n;rw[if_pos h,if_pos h];exact⟨rfl,rfl⟩
theorem x63{d:Doc}{s:Sel}{cs:List Int}{au:ByteArray}(h:atE d s au=0):z3r d s cs au=[opF s.nd (y1u (atP d s au) s (z7x (atP d s au) s cs))]/\z9n d s cs au=x1B s (z7x (atP d s au) s cs):=by
 unfold z3r z9n;rw[if_neg (fun q=>q h),if_neg (fun q=>q h)];exact⟨rfl,rfl⟩
theorem x64{p:Pl}{s:Sel}{x:Elem}(h:x.char=10):x5d p s x={char:=x.char,ref:=x.ref,attrs:=x1z p s.tq.toNat}:=by unfold x5d;rw[if_pos h]
theorem x65{p:Pl}{s:Sel}{x:Elem}(h:x.char≠10):x5d p s x=x:=by unfold x5d;rw[if_neg h]
theorem x0b{α:Type}[Inhabited α]{g:α->α}{l:List α}{i:Nat}(h:i<l.length)(h2:g (l.getD i default)=l.getD i default):(l.take i).map g++l.drop i=(l.take (i+1)).map g++l.drop (i+1):=by
 have e:l.getD i default=l[i]:=by rw[qe,qb h];rfl
 rw[qz h,zj,qO,z5x h]
 rw[e] at h2|-
 simp[h2]
theorem x3M{a:Attr}(h:x8E.any (fun y=>seq a.name y)=false/\z3y a.name=false):x6j a=true:=by unfold x6j;rw[h.1,h.2];rfl
theorem x3N{a:Attr}(h:x8E.any (fun y=>seq a.name y)=true\/z3y a.name=true):x6j a=false:=by
 unfold x6j;rcases h with h|h<;>rw[h]
 ·rfl
 ·simp
theorem x2H{p:Pl}{k:Int}(h0:0<=k)(h:(z0h p k).char≠10):k< (p.shown.length:Int)/\y3l p k.toNat=y3l p (k+1).toNat:=by
 have e:((k.toNat:Nat):Int)=k:=zY h0
 have:=y99 (p:=p) (k:=k.toNat) (by rw[e];exact h)
 exact⟨by omega,by rw[this.2];congr 1;omega⟩
theorem x2I{p:Pl}{k:Int}(h0:0<=k)(h:(z0h p k).char=10):y3l p k.toNat=k.toNat:=x0a (by rw[zY h0];exact h)
def y7P(p:Pl)(s:Sel)(k:Int):Bool:=(decide (k>=s.fr)&&decide (k<s.tq))&&((z0h p k).char !=10)
def y7Q(p:Pl)(s:Sel)(m:Int)(k:Int):Bool:=(decide (k>=s.fr)&&decide (k<=m))&&((z0h p k).char==10)
def z9J(w:Int->Bool)(sh:List Int)(n m:Nat):List Bool:=(List.range m).foldl (fun b k=>b.set (Int.toNat (sh.getD k default)) (w (k:Int))) (List.replicate n false)
theorem z9o(w:Int->Bool)(sh:List Int)(n m:Nat):z9J w sh n (m+1)=(z9J w sh n m).set (Int.toNat (sh.getD m default)) (w (m:Int)):=by
 unfold z9J;rw[zQ,List.foldl_append];rfl
theorem y1w(w:Int->Bool)(sh:List Int)(n:Nat):∀m,(z9J w sh n m).length=n
 |0=>by simp[z9J]
 |m+1=>by rw[z9o,zn,y1w w sh n m]
def y1x(c:List Attr)(f:List Bool)(i:Nat):DU:=if f.getD i default=true then .K c else .K []
def y4H(c:List Attr)(f:List Bool)(n:Nat):List DStep:=((List.range n).map (y1x c f)).map z4i
def y4I(c:List Attr)(f:List Bool)(n:Nat):List DStep:=z2Q (y4H c f n)
theorem z65(c:List Attr)(f:List Bool)(i:Nat):y4H c f (i+1)=y4H c f i++[z4i (y1x c f i)]:=by
 unfold y4H;rw[zQ,zj,zj];rfl
theorem y6t(c:List Attr)(f:List Bool)(i:Nat):(y4H c f i).length=i:=by simp[y4H]
theorem x3O{c:List Attr}{f:List Bool}{i:Nat}(h:f.getD i default=true):z4i (y1x c f i)={kind:=0,n:=1,attrs:=c,elems:=[]}:=by unfold y1x;rw[if_pos h];rfl
theorem x3P{c:List Attr}{f:List Bool}{i:Nat}(h:f.getD i default=false):z4i (y1x c f i)={kind:=0,n:=1,attrs:=[],elems:=[]}:=by unfold y1x;rw[if_neg (by rw[h];decide)];rfl
theorem x0c(c:List Attr)(f:List Bool)(n:Nat)(hc:c.length<=1048576):DN 100000000000 (y4H c f n)/\elS (y4H c f n)=0:=by
 have hx:∀s∈y4H c f n,s.elems=[]/\s.attrs.length<=1048576:=by
  intro s hs
  unfold y4H at hs
  obtain⟨u,hu,rfl⟩:=qI.1 hs
  obtain⟨i,hi,rfl⟩:=qI.1 hu
  unfold y1x
  split
  ·exact⟨rfl,hc⟩
  ·exact⟨rfl,by simp[z4i]⟩
 refine⟨fun s hs=> ?_,?_⟩
 ·obtain⟨h1,h2⟩:=hx s hs
  refine⟨by rw[h1];simp,by omega,?_⟩
  rw[h1];intro x hx;cases hx
 ·generalize y4H c f n=l at hx
  induction l with
  |nil=>rfl
  |cons s l ih=>
   rw[elS,(hx s zF).1,ih (fun t ht=>hx t (qU _ ht))];rfl
def z8t(d:Doc)(s:Sel)(c:List Attr):Int:=if atE d s {data:=#[]}≠0 then atE d s {data:=#[]} else z1B true c 0
def x1C(p:Pl)(c:List Attr)(w:Int->Bool):List EOp:=[opF p.node.id (y4I c (z9J w p.shown p.node.flow.length p.shown.length) p.node.flow.length)]
def y8k(d:Doc)(s:Sel)(c:List Attr):List EOp:=if z8t d s c≠0 then[] else x1C (atP d s {data:=#[]}) c (y7P (atP d s {data:=#[]}) s)
def y8l(d:Doc)(s:Sel)(c:List Attr):List EOp:=
 if z8t d s c≠0 then[] else x1C (atP d s {data:=#[]}) c (y7Q (atP d s {data:=#[]}) s ((y3l (atP d s {data:=#[]}) (max s.fr (s.tq- 1)).toNat:Nat):Int))
theorem y6u{d:Doc}{s:Sel}{c:List Attr}(h:atE d s {data:=#[]}≠0):z8t d s c=atE d s {data:=#[]}:=by unfold z8t;rw[if_pos h]
theorem y0p{d:Doc}{s:Sel}{c:List Attr}(h:atE d s {data:=#[]}=0):z8t d s c=z1B true c 0:=by unfold z8t;rw[if_neg (fun q=>q h)]
theorem x8F{d:Doc}{s:Sel}{c:List Attr}(h:atE d s {data:=#[]}≠0):y8k d s c=[]/\z8t d s c=atE d s {data:=#[]}:=by
 have e:=y6u (c:=c) h
 unfold y8k;rw[e,if_pos h];exact⟨rfl,rfl⟩
theorem x8G{d:Doc}{s:Sel}{c:List Attr}(h:atE d s {data:=#[]}=0)(h2:z1B true c 0≠0):y8k d s c=[]/\z8t d s c=z1B true c 0:=by
 have e:=y0p (c:=c) h
 unfold y8k;rw[e,if_pos h2];exact⟨rfl,rfl⟩
theorem x8H{d:Doc}{s:Sel}{c:List Attr}(h:atE d s {data:=#[]}=0)(h2:z1B true c 0=0):y8k d s c=x1C (atP d s {data:=#[]}) c (y7P (atP d s {data:=#[]}) s)/\z8t d s c=0:=by
 have e:=(y0p (c:=c) h).trans h2
 unfold y8k;rw[e,if_neg (fun q=>q rfl)];exact⟨rfl,rfl⟩
theorem x8I{d:Doc}{s:Sel}{c:List Attr}(h:atE d s {data:=#[]}≠0):y8l d s c=[]/\z8t d s c=atE d s {data:=#[]}:=by
 have e:=y6u (c:=c) h
 unfold y8l;rw[e,if_pos h];exact⟨rfl,rfl⟩
theorem x8J{d:Doc}{s:Sel}{c:List Attr}(h:atE d s {data:=#[]}=0)(h2:z1B true c 0≠0):y8l d s c=[]/\z8t d s c=z1B true c 0:=by
 have e:=y0p (c:=c) h
 unfold y8l;rw[e,if_pos h2];exact⟨rfl,rfl⟩
theorem x8K{d:Doc}{s:Sel}{c:List Attr}{m:Int}(h:atE d s {data:=#[]}=0)(h2:z1B true c 0=0)(hm:((y3l (atP d s {data:=#[]}) (max s.fr (s.tq- 1)).toNat:Nat):Int)=m):y8l d s c=x1C (atP d s {data:=#[]}) c (y7Q (atP d s {data:=#[]}) s m)/\z8t d s c=0:=by
 have e:=(y0p (c:=c) h).trans h2
 unfold y8l;rw[e,if_neg (fun q=>q rfl),hm];exact⟨rfl,rfl⟩
end Go.Ch
end
