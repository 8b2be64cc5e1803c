/- Parts of the proof: EdSame, EdCopy, ChFlow2, ChDelta, ChDelta2, ChDelta3, DeltaWrite, ChDelta4, DeltaFold, DeltaUndo, DeltaAct, ChDelta7, ChAxis, DeltaChange, DeltaLaws, DeltaJoin, DeltaPair, ChDelta9, ChDelta10, DeltaRead, DeltaRuns, DeltaJD, DeltaJF, ChDelta11, EdCheck. -/
import Derived.Test.YtojjoigepejggaaGreatDoorM1
import Derived.Test.YtojjoigepejggaaGreatDoorM2
import Derived.Test.YtojjoigepejggaaGreatDoorM3
import Derived.Test.YtojjoigepejggaaGreatDoorM4
import Derived.Test.YtojjoigepejggaaGreatDoorM5
import Derived.Test.YtojjoigepejggaaGreatDoorM6
section
set_option linter.unusedVariables false
set_option linter.unusedSimpArgs false
set_option maxRecDepth 100000
set_option maxHeartbeats 4000000
open Go Go.Proofs Go.Ab
namespace Go.Ch
theorem fc_sameCellR(a b:Cell):FC Tryz.prog 164 [.t (cellT a),.t (cellT b)] (app emp []) (VB (sameC a b)) (app emp []):=by
 refine .go Tryz.f164 ?_
 have e1:((sameC a b):Bool)=(((((a.row==b.row)&&(a.col==b.col))&&seq a.text b.text)&&(a.ref==b.ref))&&(sameL a.attrs b.attrs)):=by
  rfl
 exact .finE [.r [],.r [(7,Xv 1 (a.row==b.row) X0),(9,Xv 1 (a.row==b.row) X0),(10,Xv 2 (a.row==b.row) X0),(11,X (Xk (a.row==b.row))),(14,Xv 1 ((a.row==b.row)&&(a.col==b.col)) X0),(16,Xv 1 ((a.row==b.row)&&(a.col==b.col)) X0),(17,Xv 2 ((a.row==b.row)&&(a.col==b.col)) X0),(18,X (Xk ((a.row==b.row)&&(a.col==b.col)))),(21,Xv 1 (((a.row==b.row)&&(a.col==b.col))&&seq a.text b.text) X0),(23,Xv 1 (((a.row==b.row)&&(a.col==b.col))&&seq a.text b.text) X0),(24,Xv 2 (((a.row==b.row)&&(a.col==b.col))&&seq a.text b.text) X0),(25,X (Xk (((a.row==b.row)&&(a.col==b.col))&&seq a.text b.text))),(28,Xv 1 ((((a.row==b.row)&&(a.col==b.col))&&seq a.text b.text)&&(a.ref==b.ref)) X0),(30,Xv 1 ((((a.row==b.row)&&(a.col==b.col))&&seq a.text b.text)&&(a.ref==b.ref)) X0),(31,Xv 2 ((((a.row==b.row)&&(a.col==b.col))&&seq a.text b.text)&&(a.ref==b.ref)) (Xc0 (fc_sameAttrs a.attrs b.attrs) X0)),(32,X (Xk ((((a.row==b.row)&&(a.col==b.col))&&seq a.text b.text)&&(a.ref==b.ref))))]] [] (fun z0:Bool=>(VB z0,[])) _ _ e1
theorem fc_sameCells(a b:List Cell):FC Tryz.prog 101 [VL 5 cellT a,VL 5 cellT b] (app emp []) (VB (sameCs a b)) (app emp []):=by
 refine .go Tryz.f101 ?_
 refine .len 0 (fun hl0=> ?_)
 refine .len 1 (fun hl1=> ?_)
 refine .bp [.r [],.r [(1,X (Xl cellT a)),(3,X (Xl cellT b))]] ((a.length:Int) !=(b.length:Int)) (fun h1=> ?_) (fun h1=> ?_)
 ·
  have e1:((sameCs a b):Bool)=false:=by
   unfold sameCs;rw[if_neg (by omega)]
  exact .finE [.r []] [] (fun z0:Bool=>(VB z0,[])) _ _ e1
 ·
  refine .loop (α:=Nat) [.r [(1,X (Xl cellT a))]] 72 (fun i=>([(0,VL 5 cellT a),(1,VL 5 cellT b),(12,VI (a.length:Int)),(13,VI (i:Int))],[])) (fun i=>i≤a.length∧sameCells a b 0=sameCells a b i) (fun i=>a.length-i) (0:Nat) ?_ ?_
  ·
   exact⟨by omega,rfl⟩
  rintro i I4 ih4
  try dsimp only at I4
  refine .bp [.r []] (decide ((i:Int)< (a.length:Int))) (fun h4=> ?_) (fun h4=> ?_)
  ·
   refine .bp [.r [],.r [(2,X (Xi cellT a (i:Int))),(6,X (Xi cellT b (i:Int))),(8,X (Xc0 (fc_sameCellR ((a.getD i default)) ((b.getD i default))) X0))]] (!(sameC ((a.getD i default)) ((b.getD i default)))) (fun h6=> ?_) (fun h6=> ?_)
   ·
    have e2:((sameCs a b):Bool)=false:=by
     unfold sameCs;rw[if_pos (by omega),I4.2,sameCells,if_pos (by omega),if_neg]
     rw[h6];decide
    exact .finE [.r []] [] (fun z0:Bool=>(VB z0,[])) _ _ e2
   ·
    refine .back [.r [(0,X (Xn ((i:Int)+1)))]] [] (ih4 ((i+1):Nat) ?_ ?_)
    ·
     refine⟨by omega,?_⟩
     rw[I4.2,sameCells,if_pos (by omega),if_pos]
     exact h6
    ·
     ((try dsimp only);omega)
  ·
   have e3:((sameCs a b):Bool)=true:=by
    unfold sameCs;rw[if_pos (by omega),I4.2,sameCells,if_neg (by omega)]
   exact .finE [.r []] [] (fun z0:Bool=>(VB z0,[])) _ _ e3
theorem fc_sameRects(a b:List Rect):FC Tryz.prog 102 [VL 4 rectT a,VL 4 rectT b] (app emp []) (VB (sameQs a b)) (app emp []):=by
 refine .go Tryz.f102 ?_
 refine .len 0 (fun hl0=> ?_)
 refine .len 1 (fun hl1=> ?_)
 refine .bp [.r [],.r [(1,X (Xl rectT a)),(3,X (Xl rectT b))]] ((a.length:Int) !=(b.length:Int)) (fun h1=> ?_) (fun h1=> ?_)
 ·
  have e1:((sameQs a b):Bool)=false:=by
   unfold sameQs;rw[if_neg (by omega)]
  exact .finE [.r []] [] (fun z0:Bool=>(VB z0,[])) _ _ e1
 ·
  refine .loop (α:=Nat) [.r [(1,X (Xl rectT a))]] 72 (fun i=>([(0,VL 4 rectT a),(1,VL 4 rectT b),(12,VI (a.length:Int)),(13,VI (i:Int))],[])) (fun i=>i≤a.length∧sameRects a b 0=sameRects a b i) (fun i=>a.length-i) (0:Nat) ?_ ?_
  ·
   exact⟨by omega,rfl⟩
  rintro i I4 ih4
  try dsimp only at I4
  refine .bp [.r []] (decide ((i:Int)< (a.length:Int))) (fun h4=> ?_) (fun h4=> ?_)
  ·
   refine .bp [.r [],.r [(2,X (Xi rectT a (i:Int))),(6,X (Xi rectT b (i:Int)))]] (!((((a.getD i default)).row)==(((b.getD i default)).row)&&((((a.getD i default)).col)==(((b.getD i default)).col)&&((((a.getD i default)).h)==(((b.getD i default)).h)&&((((a.getD i default)).w)==(((b.getD i default)).w)&&true))))) (fun h6=> ?_) (fun h6=> ?_)
   ·
    have e2:((sameQs a b):Bool)=false:=by
     unfold sameQs;rw[if_pos (by omega),I4.2,sameRects,if_pos (by omega),if_neg]
     intro e;rw[e] at h6;simp at h6
    exact .finE [.r []] [] (fun z0:Bool=>(VB z0,[])) _ _ e2
   ·
    refine .back [.r [(0,X (Xn ((i:Int)+1)))]] [] (ih4 ((i+1):Nat) ?_ ?_)
    ·
     refine⟨by omega,?_⟩
     rw[I4.2,sameRects,if_pos (by omega),if_pos]
     refine rect_ext ?_ ?_ ?_ ?_<;>omega
    ·
     ((try dsimp only);omega)
  ·
   have e3:((sameQs a b):Bool)=true:=by
    unfold sameQs;rw[if_pos (by omega),I4.2,sameRects,if_neg (by omega)]
   exact .finE [.r []] [] (fun z0:Bool=>(VB z0,[])) _ _ e3
theorem fc_sameGrid(a b:Grid):FC Tryz.prog 52 [.t (gridT a),.t (gridT b)] (app emp []) (VB (sameG a b)) (app emp []):=by
 refine .go Tryz.f52 ?_
 have e1:((sameG a b):Bool)=((((a.rows==b.rows)&&(a.cols==b.cols))&&(sameCs a.cells b.cells))&&(sameQs a.merges b.merges)):=by
  rfl
 exact .finE [.r [],.r [(7,Xv 1 (a.rows==b.rows) X0),(9,Xv 1 (a.rows==b.rows) X0),(10,Xv 2 (a.rows==b.rows) X0),(11,X (Xk (a.rows==b.rows))),(14,Xv 1 ((a.rows==b.rows)&&(a.cols==b.cols)) X0),(16,Xv 1 ((a.rows==b.rows)&&(a.cols==b.cols)) X0),(17,Xv 2 ((a.rows==b.rows)&&(a.cols==b.cols)) (Xc0 (fc_sameCells a.cells b.cells) X0)),(18,X (Xk ((a.rows==b.rows)&&(a.cols==b.cols)))),(21,Xv 1 (((a.rows==b.rows)&&(a.cols==b.cols))&&(sameCs a.cells b.cells)) X0),(23,Xv 1 (((a.rows==b.rows)&&(a.cols==b.cols))&&(sameCs a.cells b.cells)) X0),(24,Xv 2 (((a.rows==b.rows)&&(a.cols==b.cols))&&(sameCs a.cells b.cells)) (Xc0 (fc_sameRects a.merges b.merges) X0)),(25,X (Xk (((a.rows==b.rows)&&(a.cols==b.cols))&&(sameCs a.cells b.cells))))]] [] (fun z0:Bool=>(VB z0,[])) _ _ e1
theorem fc_sameOs(a b:List DOp):FC Tryz.prog 53 [VL 8 dopT a,VL 8 dopT b] (app emp []) (VB (sameOs a b)) (app emp []):=by
 refine .go Tryz.f53 ?_
 refine .len 0 (fun hl0=> ?_)
 refine .len 1 (fun hl1=> ?_)
 refine .bp [.r [],.r [(1,X (Xl dopT a)),(3,X (Xl dopT b))]] ((a.length:Int) !=(b.length:Int)) (fun h1=> ?_) (fun h1=> ?_)
 ·
  have e1:((sameOs a b):Bool)=false:=by
   unfold sameOs;rw[decide_eq_false (by omega)];rfl
  exact .finE [.r []] [] (fun z0:Bool=>(VB z0,[])) _ _ e1
 ·
  refine .loop (α:=Nat) [.r [(1,X (Xl dopT a))]] 72 (fun i=>([(0,VL 8 dopT a),(1,VL 8 dopT b),(12,VI (a.length:Int)),(13,VI (i:Int))],[])) (fun i=>i≤a.length∧sameOF a b 0=sameOF a b i) (fun i=>a.length-i) (0:Nat) ?_ ?_
  ·
   exact⟨by omega,rfl⟩
  rintro i I4 ih4
  try dsimp only at I4
  refine .bp [.r []] (decide ((i:Int)< (a.length:Int))) (fun h4=> ?_) (fun h4=> ?_)
  ·
   refine .bp [.r [],.r [(2,X (Xi dopT a (i:Int))),(6,X (Xi dopT b (i:Int)))]] (!((((a.getD i default)).clock)==(((b.getD i default)).clock)&&((((a.getD i default)).site)==(((b.getD i default)).site)&&((((a.getD i default)).kind)==(((b.getD i default)).kind)&&((((a.getD i default)).itm)==(((b.getD i default)).itm)&&((((a.getD i default)).prt)==(((b.getD i default)).prt)&&(seq (((a.getD i default)).plc) (((b.getD i default)).plc)&&(seq (((a.getD i default)).nm) (((b.getD i default)).nm)&&(seq (((a.getD i default)).vl) (((b.getD i default)).vl)&&true))))))))) (fun h6=> ?_) (fun h6=> ?_)
   ·
    have e2:((sameOs a b):Bool)=false:=by
     unfold sameOs;rw[I4.2,sameOF,if_pos (by omega),if_neg (fun e=>by(have s0:∀s,seq s s=true:=fun s=>seq_iff.2 rfl);rw[e] at h6;simp[s0] at h6)];simp
    exact .finE [.r []] [] (fun z0:Bool=>(VB z0,[])) _ _ e2
   ·
    refine .back [.r [(0,X (Xn ((i:Int)+1)))]] [] (ih4 ((i+1):Nat) ?_ ?_)
    ·
     refine⟨by omega,?_⟩;rw[I4.2,sameOF,if_pos (by omega),if_pos (by obtain⟨q1,q2,q3,q4,q5,q6,q7,q8,-⟩:=h6;rw[seq_iff] at q6 q7 q8;exact dop_ext q1 q2 q3 q4 q5 q6 q7 q8)]
    ·
     ((try dsimp only);omega)
  ·
   have e3:((sameOs a b):Bool)=true:=by
    unfold sameOs;rw[I4.2,sameOF,if_neg (by omega),decide_eq_true (by omega)];rfl
   exact .finE [.r []] [] (fun z0:Bool=>(VB z0,[])) _ _ e3
theorem fc_sameN(a b:Node):FC Tryz.prog 22 [.t (nodeT a),.t (nodeT b)] (app emp []) (VB (sameN a b)) (app emp []):=by
 refine .go Tryz.f22 ?_
 have e1:((sameN a b):Bool)=((((((a.id==b.id)&&(a.kind==b.kind))&&(sameL a.attrs b.attrs))&&(sameF a.flow b.flow))&&(sameG a.grid b.grid))&&(sameOs a.draw b.draw)):=by
  rfl
 exact .finE [.r [],.r [(7,Xv 1 (a.id==b.id) X0),(9,Xv 1 (a.id==b.id) X0),(10,Xv 2 (a.id==b.id) X0),(11,X (Xk (a.id==b.id))),(14,Xv 1 ((a.id==b.id)&&(a.kind==b.kind)) X0),(16,Xv 1 ((a.id==b.id)&&(a.kind==b.kind)) X0),(17,Xv 2 ((a.id==b.id)&&(a.kind==b.kind)) (Xc0 (fc_sameAttrs a.attrs b.attrs) X0)),(18,X (Xk ((a.id==b.id)&&(a.kind==b.kind)))),(21,Xv 1 (((a.id==b.id)&&(a.kind==b.kind))&&(sameL a.attrs b.attrs)) X0),(23,Xv 1 (((a.id==b.id)&&(a.kind==b.kind))&&(sameL a.attrs b.attrs)) X0),(24,Xv 2 (((a.id==b.id)&&(a.kind==b.kind))&&(sameL a.attrs b.attrs)) (Xc0 (fc_sameFlow a.flow b.flow) X0)),(25,X (Xk (((a.id==b.id)&&(a.kind==b.kind))&&(sameL a.attrs b.attrs)))),(28,Xv 1 ((((a.id==b.id)&&(a.kind==b.kind))&&(sameL a.attrs b.attrs))&&(sameF a.flow b.flow)) X0),(30,Xv 1 ((((a.id==b.id)&&(a.kind==b.kind))&&(sameL a.attrs b.attrs))&&(sameF a.flow b.flow)) X0),(31,Xv 2 ((((a.id==b.id)&&(a.kind==b.kind))&&(sameL a.attrs b.attrs))&&(sameF a.flow b.flow)) (Xc0 (fc_sameGrid a.grid b.grid) X0)),(32,X (Xk ((((a.id==b.id)&&(a.kind==b.kind))&&(sameL a.attrs b.attrs))&&(sameF a.flow b.flow)))),(35,Xv 1 (((((a.id==b.id)&&(a.kind==b.kind))&&(sameL a.attrs b.attrs))&&(sameF a.flow b.flow))&&(sameG a.grid b.grid)) X0),(37,Xv 1 (((((a.id==b.id)&&(a.kind==b.kind))&&(sameL a.attrs b.attrs))&&(sameF a.flow b.flow))&&(sameG a.grid b.grid)) X0),(38,Xv 2 (((((a.id==b.id)&&(a.kind==b.kind))&&(sameL a.attrs b.attrs))&&(sameF a.flow b.flow))&&(sameG a.grid b.grid)) (Xc0 (fc_sameOs a.draw b.draw) X0)),(39,X (Xk (((((a.id==b.id)&&(a.kind==b.kind))&&(sameL a.attrs b.attrs))&&(sameF a.flow b.flow))&&(sameG a.grid b.grid))))]] [] (fun z0:Bool=>(VB z0,[])) _ _ e1
theorem fc_sameD0(a:Doc)(hl:a.nodes.length≤1048576):FC Tryz.prog 10 [.t (docT a),.t (docT a)] (app emp []) (VB true) (app emp []):=by
 refine .go Tryz.f10 ?_
 refine .bp [.r [],.r [(2,X (Xl nodeT a.nodes)),(5,X (Xl nodeT a.nodes))]] ((a.nodes.length:Int) !=(a.nodes.length:Int)) (fun h1=> ?_) (fun h1=> ?_)
 ·
  exfalso
  omega
 ·
  refine .loop (α:=Nat) [.r [(2,X (Xl nodeT a.nodes))]] 112 (fun i=>([(2,.ptr 0 0),(3,.ptr 8 0),(15,VI (a.nodes.length:Int)),(16,VI (i:Int))],[(0,.box [VL 9 nodeT a.nodes]),(8,.box [VL 9 nodeT a.nodes])])) (fun i=>i≤a.nodes.length) (fun i=>a.nodes.length-i) (0:Nat) ?_ ?_
  ·
   exact Nat.zero_le _
  rintro i I4 ih4
  try dsimp only at I4
  refine .bp [.r []] (decide ((i:Int)< (a.nodes.length:Int))) (fun h4=> ?_) (fun h4=> ?_)
  ·
   refine .bp [.r [],.r [(3,X (Xi nodeT a.nodes (i:Int))),(8,X (Xi nodeT a.nodes (i:Int))),(10,X (Xc0 (fc_sameN ((a.nodes.getD i default)) ((a.nodes.getD i default))) X0))]] (!(sameN ((a.nodes.getD i default)) ((a.nodes.getD i default)))) (fun h6=> ?_) (fun h6=> ?_)
   ·
    exfalso
    rw[sameN_refl] at h6;cases h6
   ·
    refine .back [.r [(0,X (Xn ((i:Int)+1)))]] [(0,0),(8,8)] (ih4 ((i+1):Nat) ?_ ?_)
    ·
     omega
    ·
     ((try dsimp only);omega)
  ·
   exact .fin [.r []] []
theorem fc_sameD(a b:Doc)(h:a=b)(hl:a.nodes.length≤1048576):FC Tryz.prog 10 [.t (docT a),.t (docT b)] (app emp []) (VB true) (app emp []):=h▸fc_sameD0 a hl
end Go.Ch
end
section
set_option linter.unusedVariables false
set_option linter.unusedSimpArgs false
set_option maxRecDepth 100000
set_option maxHeartbeats 4000000
open Go Go.Proofs Go.Ab
namespace Go.Ch
theorem fc_cd1(l:List Attr)(hl:l.length≤1048576):FC Tryz.prog 17 [VL 2 attrT l] (app emp []) (VL 2 attrT l) (app emp []):=by
 refine .go Tryz.f17 ?_
 refine .len 0 (fun hl0=> ?_)
 have e1:(l:List Attr)=([]++l):=by
  exact(List.nil_append _).symm
 exact .finE [.r [],.r [(2,X (Xap 2 attrT 8 [] l))],.le (.fr 2 [((([]++l).length):Nat)=(List.map attrT ([]++l)).length] ⟨lm,trivial⟩)] [] (fun z0:List Attr=>(VL 2 attrT z0,[])) _ _ e1
theorem copy_take{α:Type}[Inhabited α]{l:List α}{i:Nat}{x:α}(h:i<l.length)(hx:x=l.getD i default):l.take i++[x]=l.take (i+1):=by
 rw[List.take_succ_eq_append_getElem h,hx,List.getD_eq_getElem?_getD,List.getElem?_eq_getElem h];rfl
theorem fc_copyDoc(d:Doc)(hb:DocB d):FC Tryz.prog 7 [.t (docT d)] (app emp []) (.t (docT d)) (app emp []):=by
 refine .go Tryz.f7 ?_
 have hl:=hb.len
 refine .loop (α:=Nat×(List Node)) [.r [],.r [],.r [],.le (.nB 16 0 9),.r [(2,X (Xl nodeT d.nodes))]] 65 (fun(i,o)=>([(1,.ptr 0 0),(2,.ptr 8 0),(3,.ptr 16 0),(4,.fn 17 []),(11,VI (d.nodes.length:Int)),(12,VI (i:Int))],[(0,.box [VL 9 nodeT d.nodes]),(8,.box [VN]),(16,.box [.row 32 o.length]),(32,OR 9 nodeT o)])) (fun(i,o)=>i≤d.nodes.length∧o=d.nodes.take i) (fun(i,o)=>d.nodes.length-i) (0,[]) ?_ ?_
 ·
  exact⟨by omega,rfl⟩
 rintro⟨i,o⟩ I4 ih4
 try dsimp only at I4
 have ol:o.length=i:=by rw[I4.2,List.length_take];omega
 refine .bp [.r []] (decide ((i:Int)< (d.nodes.length:Int))) (fun h4=> ?_) (fun h4=> ?_)
 ·
  have hx:=hb.all _ (getDN_mem (l:=d.nodes) (i:=i) (by omega))
  have x1:=hx.at2
  have x2:=hx.fl2
  have x3:=hx.fl3
  have x4:=hx.ce2
  have x5:=hx.ce3
  have x6:=hx.me
  have x7:=hx.dr1
  refine .loop (α:=Nat×(List Elem)) [.r [],.r [(3,X (Xi nodeT d.nodes (i:Int)))],.r [(3,X (Xc1 169 (fc_cd1 (((d.nodes.getD i default)).attrs) (by omega)) X0))],.r [(3,X (Xap 3 elemT 193 [] (((d.nodes.getD i default)).flow)))],.r []] 273 (fun(j,f)=>([(1,.ptr 0 0),(2,.ptr 8 0),(3,.ptr 16 0),(4,.fn 17 []),(6,.ptr 129 0),(11,VI (d.nodes.length:Int)),(12,VI (i:Int)),(32,VI (([]++(((d.nodes.getD i default)).flow)).length:Int)),(33,VI (j:Int))],[(0,.box [VL 9 nodeT d.nodes]),(8,.box [VN]),(16,.box [.row 32 o.length]),(32,OR 9 nodeT o),(129,.box [VI (((d.nodes.getD i default)).id),VI (((d.nodes.getD i default)).kind),VL 2 attrT (((d.nodes.getD i default)).attrs),.row 193 f.length,VI ((((d.nodes.getD i default)).grid).rows),VI ((((d.nodes.getD i default)).grid).cols),VL 5 cellT ((((d.nodes.getD i default)).grid).cells),VL 4 rectT ((((d.nodes.getD i default)).grid).merges),VL 8 dopT (((d.nodes.getD i default)).draw)]),(193,OR 3 elemT f)])) (fun(j,f)=>j≤(d.nodes.getD i default).flow.length∧f=(d.nodes.getD i default).flow) (fun(j,f)=>(d.nodes.getD i default).flow.length-j) (0,([]++(((d.nodes.getD i default)).flow))) ?_ ?_
  ·
   exact⟨by omega,by simp⟩
  rintro⟨j,f⟩ I10 ih10
  try dsimp only at I10
  have fl:f.length=(d.nodes.getD i default).flow.length:=by rw[I10.2]
  refine .bp [.r []] (decide ((j:Int)< (([]++(((d.nodes.getD i default)).flow)).length:Int))) (fun h10=> ?_) (fun h10=> ?_)
  ·
   simp only[List.nil_append] at h10
   have hfa:=x3 (f.getD j default) (by rw[I10.2];exact getDX_mem (by omega))
   refine .back [.r [],.r [(7,X (Xp elemT f (j:Int))),(9,X (Xe elemT f j)),(10,X (Xc1 377 (fc_cd1 (((f.getD j default)).attrs) (by omega)) X0)),(11,X (Xp elemT f (j:Int))),(13,X (Xs 3 elemT 193 f j ((f.getD j default))))],.r [(0,X (Xn ((j:Int)+1)))],.le (.eb 129 3 (.row 193 f.length) (.row 193 ((f.set j ((f.getD j default))).length)) (by simp only[List.length_set]))] [(0,0),(8,8),(16,16),(32,32),(129,129),(193,193)] (ih10 ((j+1),(f.set j ((f.getD j default)))) ?_ ?_)
   ·
    exact⟨by omega,by rw[I10.2];exact set_same rfl⟩
   ·
    ((try dsimp only);omega)
  ·
   simp only[List.nil_append] at h10
   refine .loop (α:=Nat×(List Cell)) [.r [(4,X (Xap 5 cellT 281 [] ((((d.nodes.getD i default)).grid).cells)))],.r []] 385 (fun(m,q)=>([(1,.ptr 0 0),(2,.ptr 8 0),(3,.ptr 16 0),(4,.fn 17 []),(6,.ptr 129 0),(11,VI (d.nodes.length:Int)),(12,VI (i:Int)),(60,VI (([]++((((d.nodes.getD i default)).grid).cells)).length:Int)),(61,VI (m:Int))],[(0,.box [VL 9 nodeT d.nodes]),(8,.box [VN]),(16,.box [.row 32 o.length]),(32,OR 9 nodeT o),(129,.box [VI (((d.nodes.getD i default)).id),VI (((d.nodes.getD i default)).kind),VL 2 attrT (((d.nodes.getD i default)).attrs),.row 193 f.length,VI ((((d.nodes.getD i default)).grid).rows),VI ((((d.nodes.getD i default)).grid).cols),.row 281 q.length,VL 4 rectT ((((d.nodes.getD i default)).grid).merges),VL 8 dopT (((d.nodes.getD i default)).draw)]),(193,OR 3 elemT f),(281,OR 5 cellT q)])) (fun(m,q)=>m≤(d.nodes.getD i default).grid.cells.length∧q=(d.nodes.getD i default).grid.cells) (fun(m,q)=>(d.nodes.getD i default).grid.cells.length-m) (0,([]++((((d.nodes.getD i default)).grid).cells))) ?_ ?_
   ·
    exact⟨by omega,by simp⟩
   rintro⟨m,q⟩ I16 ih16
   try dsimp only at I16
   have ql:q.length=(d.nodes.getD i default).grid.cells.length:=by rw[I16.2]
   refine .bp [.r []] (decide ((m:Int)< (([]++((((d.nodes.getD i default)).grid).cells)).length:Int))) (fun h16=> ?_) (fun h16=> ?_)
   ·
    simp only[List.nil_append] at h16
    have hga:=x5 (q.getD m default) (by rw[I16.2];exact getDX_mem (by omega))
    refine .back [.r [],.r [(9,X (Xp cellT q (m:Int))),(11,X (Xe cellT q m)),(12,X (Xc1 505 (fc_cd1 (((q.getD m default)).attrs) (by omega)) X0)),(13,X (Xp cellT q (m:Int))),(15,X (Xs 5 cellT 281 q m ((q.getD m default))))],.r [(0,X (Xn ((m:Int)+1)))],.le (.eb 129 6 (.row 281 q.length) (.row 281 ((q.set m ((q.getD m default))).length)) (by simp only[List.length_set]))] [(0,0),(8,8),(16,16),(32,32),(129,129),(193,193),(281,281)] (ih16 ((m+1),(q.set m ((q.getD m default)))) ?_ ?_)
    ·
     exact⟨by omega,by rw[I16.2];exact set_same rfl⟩
    ·
     ((try dsimp only);omega)
   ·
    refine .back [.r [(4,X (Xap 4 rectT 393 [] ((((d.nodes.getD i default)).grid).merges)))],.r [(3,X (Xap 8 dopT 457 [] (((d.nodes.getD i default)).draw)))],.r [(3,X (rowC elemT f (rowC cellT q (rowC rectT ([]++((((d.nodes.getD i default)).grid).merges)) (rowC dopT ([]++(((d.nodes.getD i default)).draw)) X0))))),(4,X (rowC nodeT [({id:=((d.nodes.getD i default)).id,kind:=((d.nodes.getD i default)).kind,attrs:=(((d.nodes.getD i default)).attrs),flow:=f,grid:=({rows:=(((d.nodes.getD i default)).grid).rows,cols:=(((d.nodes.getD i default)).grid).cols,cells:=q,merges:=([]++((((d.nodes.getD i default)).grid).merges))}:Grid),draw:=([]++(((d.nodes.getD i default)).draw))}:Node)] (XapB 9 nodeT 32 o [({id:=((d.nodes.getD i default)).id,kind:=((d.nodes.getD i default)).kind,attrs:=(((d.nodes.getD i default)).attrs),flow:=f,grid:=({rows:=(((d.nodes.getD i default)).grid).rows,cols:=(((d.nodes.getD i default)).grid).cols,cells:=q,merges:=([]++((((d.nodes.getD i default)).grid).merges))}:Grid),draw:=([]++(((d.nodes.getD i default)).draw))}:Node)])))],.r [(0,X (Xn ((i:Int)+1)))]] [(0,0),(8,8),(16,16),(32,32)] (ih4 ((i+1),(o++[({id:=((d.nodes.getD i default)).id,kind:=((d.nodes.getD i default)).kind,attrs:=(((d.nodes.getD i default)).attrs),flow:=f,grid:=({rows:=(((d.nodes.getD i default)).grid).rows,cols:=(((d.nodes.getD i default)).grid).cols,cells:=q,merges:=([]++((((d.nodes.getD i default)).grid).merges))}:Grid),draw:=([]++(((d.nodes.getD i default)).draw))}:Node)])) ?_ ?_)
    ·
     exact⟨by omega,by rw[I4.2];exact copy_take (by omega) (by rw[I10.2,I16.2];rfl)⟩
    ·
     ((try dsimp only);omega)
 ·
  have e1:(d:Doc)=({nodes:=o}:Doc):=by
   exact congrArg Doc.mk (by rw[I4.2,List.take_of_length_le (by omega)])
  exact .finVE [.r []] [.fR 0 [(o.length:Nat)=(List.map nodeT o).length] ⟨lm,trivial⟩] [] (fun z0:Doc=>(.t (docT z0),[])) _ _ e1
end Go.Ch
end
section
set_option linter.unusedVariables false
set_option linter.unusedSimpArgs false
set_option maxRecDepth 100000
set_option maxHeartbeats 4000000
open Go Go.Proofs Go.Ab
namespace Go.Ch
theorem set_fillF{α:Type}[Inhabited α]{l:List α}{i n:Nat}{z x:α}(hn:n=l.length)(hi:i<n)(hx:x=l.getD i default):(l.take i++List.replicate (n-i) z).set i x=l.take (i+1)++List.replicate (n- (i+1)) z:=by
 subst hn
 have h1:(l.take i).length=i:=by simp;omega
 rw[List.set_append,if_neg (by omega),h1,Nat.sub_self,show l.length-i=(l.length- (i+1))+1 by omega,List.replicate_succ,List.set_cons_zero,List.take_succ_eq_append_getElem hi,hx,List.append_assoc]
 simp only[List.getD,List.getElem?_eq_getElem hi,Option.getD_some]
 rfl
theorem fc_copy(l:List Elem)(hn:l.length≤1000000000000)(hs:AN 400000000000 l):FC Tryz.prog 87 [VL 3 elemT l] (app emp []) (VL 3 elemT l) (app emp []):=by
 refine .go Tryz.f87 ?_
 refine .len 0 (fun hl0=> ?_)
 refine .loop (α:=Nat×(List Elem)) [.r [],.r [(1,X (Xl elemT l)),(2,X (Xmz 3 elemT 24 (l.length:Int) (l.length:Int) ({char:=0,ref:=0,attrs:=[]}:Elem) [TI 0,TI 0,TN] ⟨.inl rfl,⟨.inl rfl,⟨tw_nil (by decide),trivial⟩⟩⟩))],.r [(1,X (Xl elemT l))]] 64 (fun(i,o)=>([(3,.row 24 l.length),(9,VL 3 elemT l),(10,VI (l.length:Int)),(11,VI (i:Int))],[(24,OR 3 elemT o)])) (fun(i,o)=>i≤l.length∧o=l.take i++List.replicate (l.length-i) ({char:=0,ref:=0,attrs:=[]}:Elem)) (fun(i,o)=>l.length-i) (0,(List.replicate l.length ({char:=0,ref:=0,attrs:=[]}:Elem))) ?_ ?_
 ·
  exact⟨by omega,by simp⟩
 rintro⟨i,o⟩ I3 ih3
 try dsimp only at I3
 have ol:o.length=l.length:=by rw[I3.2];simp;omega
 refine .bp [.r []] (decide ((i:Int)< (l.length:Int))) (fun h3=> ?_) (fun h3=> ?_)
 ·
  have hx:=hs _ (getDE_mem (l:=l) (k:=i) (by omega))
  refine .back [.r [(1,X (Xi elemT l (i:Int)))],.r [(8,X (Xan attrT 184 (((l.getD i default)).attrs))),(10,X (Xpn l.length elemT o (i:Int))),(11,X (rowC attrT (((l.getD i default)).attrs) (Xsn l.length 3 elemT 24 o i ((l.getD i default)) [(184,OF 2 attrT (((l.getD i default)).attrs))])))],.r [(0,X (Xn ((i:Int)+1)))]] [(24,24)] (ih3 ((i+1),(o.set i ((l.getD i default)))) ?_ ?_)
  ·
   refine⟨by omega,?_⟩
   rw[I3.2]
   exact set_fillF rfl (by omega) rfl
  ·
   ((try dsimp only);omega)
 ·
  have e1:(l:List Elem)=o:=by
   rw[I3.2,List.take_of_length_le (by omega),show l.length-i=0 by omega];simp
  exact .finE [.r [],.le (.fr 2 [(l.length:Nat)=(List.map elemT o).length] ⟨lm,trivial⟩)] [] (fun z0:List Elem=>(VL 3 elemT z0,[])) _ _ e1
theorem map_fill{l:List Elem}{i:Nat}{z:Elem}{f:Elem→Elem}(hi:i<l.length){y:Elem}(hy:y=f (l.getD i default)):((l.take i).map f++List.replicate (l.length-i) z).set i y=(l.take (i+1)).map f++List.replicate (l.length- (i+1)) z:=by
 have h1:((l.take i).map f).length=i:=by simp;omega
 rw[List.set_append,if_neg (by omega),h1,Nat.sub_self,show l.length-i=(l.length- (i+1))+1 by omega,List.replicate_succ,List.set_cons_zero,List.take_succ_eq_append_getElem hi,hy,List.map_append,List.append_assoc]
 simp only[List.getD,List.getElem?_eq_getElem hi,Option.getD_some]
 rfl
theorem fc_changed(l:List Elem)(c:List Attr)(hn:l.length≤1000000000000)(hs:∀x∈l,x.attrs.length+c.length<1099511627776):FC Tryz.prog 145 [VL 3 elemT l,VL 2 attrT c] (app emp []) (VL 3 elemT (List.map (chgE c) l)) (app emp []):=by
 refine .go Tryz.f145 ?_
 refine .len 0 (fun hl0=> ?_)
 refine .len 1 (fun hl1=> ?_)
 refine .loop (α:=Nat×(List Elem)) [.r [],.r [(1,X (Xl elemT l)),(2,X (Xmz 3 elemT 24 (l.length:Int) (l.length:Int) ({char:=0,ref:=0,attrs:=[]}:Elem) [TI 0,TI 0,TN] ⟨.inl rfl,⟨.inl rfl,⟨tw_nil (by decide),trivial⟩⟩⟩))],.r [(1,X (Xl elemT l))]] 64 (fun(i,o)=>([(1,VL 2 attrT c),(5,.row 24 l.length),(11,VL 3 elemT l),(12,VI (l.length:Int)),(13,VI (i:Int))],[(24,OR 3 elemT o)])) (fun(i,o)=>i≤l.length∧o=(l.take i).map (chgE c)++List.replicate (l.length-i) ({char:=0,ref:=0,attrs:=[]}:Elem)) (fun(i,o)=>l.length-i) (0,(List.replicate l.length ({char:=0,ref:=0,attrs:=[]}:Elem))) ?_ ?_
 ·
  exact⟨by omega,by simp⟩
 rintro⟨i,o⟩ I3 ih3
 try dsimp only at I3
 have ol:o.length=l.length:=by rw[I3.2];simp;omega
 refine .bp [.r []] (decide ((i:Int)< (l.length:Int))) (fun h3=> ?_) (fun h3=> ?_)
 ·
  have hx:=hs _ (getDE_mem (l:=l) (k:=i) (by omega))
  refine .back [.r [(1,X (Xi elemT l (i:Int)))],.r [(3,X (Xc1 144 (fc_raw (((l.getD i default)).attrs) c (by omega)) X0))],.r [(3,X (Xpn l.length elemT o (i:Int))),(4,X (Xsn l.length 3 elemT 24 o i ({char:=((l.getD i default)).char,ref:=((l.getD i default)).ref,attrs:=(fm rawG (((l.getD i default)).attrs) c)}:Elem)))],.r [(0,X (Xn ((i:Int)+1)))]] [(24,24)] (ih3 ((i+1),(o.set i ({char:=((l.getD i default)).char,ref:=((l.getD i default)).ref,attrs:=(fm rawG (((l.getD i default)).attrs) c)}:Elem))) ?_ ?_)
  ·
   refine⟨by omega,?_⟩
   rw[I3.2]
   exact map_fill (by omega) rfl
  ·
   ((try dsimp only);omega)
 ·
  have e1:((List.map (chgE c) l):List Elem)=o:=by
   rw[I3.2,List.take_of_length_le (by omega),show l.length-i=0 by omega];simp
  exact .finE [.r [],.le (.fr 4 [(l.length:Nat)=(List.map elemT o).length] ⟨lm,trivial⟩)] [] (fun z0:List Elem=>(VL 3 elemT z0,[])) _ _ e1
def ltr(s:ByteArray)(i:Nat):Elem:=⟨(byt s i:Int),0,[]⟩
def lettersL(s:ByteArray):List Elem:=(List.range s.size).map (ltr s)
end Go.Ch
end
section
set_option linter.unusedVariables false
set_option linter.unusedSimpArgs false
set_option maxRecDepth 100000
set_option maxHeartbeats 4000000
open Go Go.Proofs Go.Ab
namespace Go.Ch
theorem fc_step(x:DStep):FC Tryz.prog 139 [.t (dstepT x)] (app emp []) (VI (stepD x)) (app emp []):=by
 refine .go Tryz.f139 ?_
 refine .bp [.r [],.r [],.r []] (x.kind==0) (fun h2=> ?_) (fun h2=> ?_)
 ·
  refine .bp [] (x.kind==0) (fun h2=> ?_) (fun h2=> ?_)
  ·
   refine .bp [.r [(2,X (Xl elemT x.elems)),(6,Xv 1 (!(decide ((x.elems.length:Int)> 0))) X0),(7,Xv 1 (!(decide ((x.elems.length:Int)> 0))) X0),(8,Xv 1 (!(decide ((x.elems.length:Int)> 0))) X0),(10,Xv 1 ((!(decide ((x.elems.length:Int)> 0)))&&(x.kind==2)) X0),(11,Xv 1 ((!(decide ((x.elems.length:Int)> 0)))&&(x.kind==2)) (Xl attrT x.attrs)),(12,Xv 1 ((!(decide ((x.elems.length:Int)> 0)))&&(x.kind==2)) X0),(13,Xka (!(decide ((x.elems.length:Int)> 0))) (x.kind==2)),(14,X (Xk' (decide ((x.elems.length:Int)> 0))))]] (decide ((x.elems.length:Int)> 0)|| ((x.kind==2)&&decide ((x.attrs.length:Int)> 0))) (fun h4=> ?_) (fun h4=> ?_)
   ·
    have e1:((stepD x):Int)=4:=by
     unfold stepD;((repeat' split)<;>first|rfl|omega| (simp_all;done)| (simp_all;omega))
    exact .finE [.r []] [] (fun z0:Int=>(VI z0,[])) _ _ e1
   ·
    refine .bp [.r [(5,Xv 1 (!(decide (x.n<1))) X0),(6,Xv 1 (!(decide (x.n<1))) X0),(7,X (Xk' (decide (x.n<1))))]] (decide (x.n<1)||decide (x.n>2147483647)) (fun h6=> ?_) (fun h6=> ?_)
    ·
     have e2:((stepD x):Int)=2:=by
      unfold stepD;((repeat' split)<;>first|rfl|omega| (simp_all;done)| (simp_all;omega))
     exact .finE [.r []] [] (fun z0:Int=>(VI z0,[])) _ _ e2
    ·
     have e3:((stepD x):Int)=(chkA true x.attrs 0):=by
      unfold stepD;((repeat' split)<;>first|rfl|omega| (simp_all;done)| (simp_all;omega))
     exact .finE [.r [(2,X (Xc0 (fc_acheckChange x.attrs) X0))]] [] (fun z0:Int=>(VI z0,[])) _ _ e3
  ·
   refine .bp [.r []] (x.kind==1) (fun h9=> ?_) (fun h9=> ?_)
   ·
    refine .bp [.r [(5,Xv 1 (!(x.n !=0)) X0),(6,Xv 1 (!(x.n !=0)) (Xl attrT x.attrs)),(7,Xv 1 (!(x.n !=0)) X0),(8,X (Xk' (x.n !=0)))]] ((x.n !=0)||decide ((x.attrs.length:Int)> 0)) (fun h10=> ?_) (fun h10=> ?_)
    ·
     have e4:((stepD x):Int)=4:=by
      unfold stepD;((repeat' split)<;>first|rfl|omega| (simp_all;done)| (simp_all;omega))
     exact .finE [.r []] [] (fun z0:Int=>(VI z0,[])) _ _ e4
    ·
     refine .bp [.r [(2,X (Xl elemT x.elems))]] ((x.elems.length:Int)==0) (fun h12=> ?_) (fun h12=> ?_)
     ·
      have e5:((stepD x):Int)=11:=by
       unfold stepD;((repeat' split)<;>first|rfl|omega| (simp_all;done)| (simp_all;omega))
      exact .finE [.r []] [] (fun z0:Int=>(VI z0,[])) _ _ e5
     ·
      have e6:((stepD x):Int)=(partE x.elems 0):=by
       unfold stepD;((repeat' split)<;>first|rfl|omega| (simp_all;done)| (simp_all;omega))
      exact .finE [.r [(2,X (Xc0 (fc_checkPart x.elems) X0))]] [] (fun z0:Int=>(VI z0,[])) _ _ e6
   ·
    have e7:((stepD x):Int)=8:=by
     unfold stepD;((repeat' split)<;>first|rfl|omega| (simp_all;done)| (simp_all;omega))
    exact .finE [.r []] [] (fun z0:Int=>(VI z0,[])) _ _ e7
 ·
  refine .bp [.r []] (x.kind==2) (fun h3=> ?_) (fun h3=> ?_)
  ·
   refine .bp [.r [(2,X (Xl elemT x.elems)),(6,Xv 1 (!(decide ((x.elems.length:Int)> 0))) X0),(7,Xv 1 (!(decide ((x.elems.length:Int)> 0))) X0),(8,Xv 1 (!(decide ((x.elems.length:Int)> 0))) X0),(10,Xv 1 ((!(decide ((x.elems.length:Int)> 0)))&&(x.kind==2)) X0),(11,Xv 1 ((!(decide ((x.elems.length:Int)> 0)))&&(x.kind==2)) (Xl attrT x.attrs)),(12,Xv 1 ((!(decide ((x.elems.length:Int)> 0)))&&(x.kind==2)) X0),(13,Xka (!(decide ((x.elems.length:Int)> 0))) (x.kind==2)),(14,X (Xk' (decide ((x.elems.length:Int)> 0))))]] (decide ((x.elems.length:Int)> 0)|| ((x.kind==2)&&decide ((x.attrs.length:Int)> 0))) (fun h4=> ?_) (fun h4=> ?_)
   ·
    have e8:((stepD x):Int)=4:=by
     unfold stepD;((repeat' split)<;>first|rfl|omega| (simp_all;done)| (simp_all;omega))
    exact .finE [.r []] [] (fun z0:Int=>(VI z0,[])) _ _ e8
   ·
    refine .bp [.r [(5,Xv 1 (!(decide (x.n<1))) X0),(6,Xv 1 (!(decide (x.n<1))) X0),(7,X (Xk' (decide (x.n<1))))]] (decide (x.n<1)||decide (x.n>2147483647)) (fun h6=> ?_) (fun h6=> ?_)
    ·
     have e9:((stepD x):Int)=2:=by
      unfold stepD;((repeat' split)<;>first|rfl|omega| (simp_all;done)| (simp_all;omega))
     exact .finE [.r []] [] (fun z0:Int=>(VI z0,[])) _ _ e9
    ·
     have e10:((stepD x):Int)=(chkA true x.attrs 0):=by
      unfold stepD;((repeat' split)<;>first|rfl|omega| (simp_all;done)| (simp_all;omega))
     exact .finE [.r [(2,X (Xc0 (fc_acheckChange x.attrs) X0))]] [] (fun z0:Int=>(VI z0,[])) _ _ e10
  ·
   refine .bp [.r []] (x.kind==1) (fun h9=> ?_) (fun h9=> ?_)
   ·
    refine .bp [.r [(5,Xv 1 (!(x.n !=0)) X0),(6,Xv 1 (!(x.n !=0)) (Xl attrT x.attrs)),(7,Xv 1 (!(x.n !=0)) X0),(8,X (Xk' (x.n !=0)))]] ((x.n !=0)||decide ((x.attrs.length:Int)> 0)) (fun h10=> ?_) (fun h10=> ?_)
    ·
     have e11:((stepD x):Int)=4:=by
      unfold stepD;((repeat' split)<;>first|rfl|omega| (simp_all;done)| (simp_all;omega))
     exact .finE [.r []] [] (fun z0:Int=>(VI z0,[])) _ _ e11
    ·
     refine .bp [.r [(2,X (Xl elemT x.elems))]] ((x.elems.length:Int)==0) (fun h12=> ?_) (fun h12=> ?_)
     ·
      have e12:((stepD x):Int)=11:=by
       unfold stepD;((repeat' split)<;>first|rfl|omega| (simp_all;done)| (simp_all;omega))
      exact .finE [.r []] [] (fun z0:Int=>(VI z0,[])) _ _ e12
     ·
      have e13:((stepD x):Int)=(partE x.elems 0):=by
       unfold stepD;((repeat' split)<;>first|rfl|omega| (simp_all;done)| (simp_all;omega))
      exact .finE [.r [(2,X (Xc0 (fc_checkPart x.elems) X0))]] [] (fun z0:Int=>(VI z0,[])) _ _ e13
   ·
    have e14:((stepD x):Int)=8:=by
     unfold stepD;((repeat' split)<;>first|rfl|omega| (simp_all;done)| (simp_all;omega))
    exact .finE [.r []] [] (fun z0:Int=>(VI z0,[])) _ _ e14
theorem fc_size(x:DStep):FC Tryz.prog 141 [.t (dstepT x)] (app emp []) (VI (szD x)) (app emp []):=by
 refine .go Tryz.f141 ?_
 refine .bp [.r [],.r []] (x.kind==1) (fun h1=> ?_) (fun h1=> ?_)
 ·
  have e1:((szD x):Int)=(x.elems.length:Int):=by
   unfold szD;((repeat' split)<;>first|rfl|omega| (simp_all;done)| (simp_all;omega))
  exact .finE [.r [(2,X (Xl elemT x.elems))]] [] (fun z0:Int=>(VI z0,[])) _ _ e1
 ·
  have e2:((szD x):Int)=x.n:=by
   unfold szD;((repeat' split)<;>first|rfl|omega| (simp_all;done)| (simp_all;omega))
  exact .finE [.r []] [] (fun z0:Int=>(VI z0,[])) _ _ e2
theorem fc_dCheck(l:List DStep)(hd:DN 400000000000 l):FC Tryz.prog 85 [VL 4 dstepT l] (app emp []) (VI (checkD l)) (app emp []):=by
 refine .go Tryz.f85 ?_
 refine .len 0 (fun hl0=> ?_)
 refine .loop (α:=Int×Int×Nat) [.r [],.r [],.r [(1,X (Xl dstepT l))]] 48 (fun(b,a,i)=>([(0,VL 4 dstepT l),(3,VI b),(4,VI a),(9,VL 4 dstepT l),(10,VI (l.length:Int)),(11,VI (i:Int))],[])) (fun(b,a,i)=>i≤l.length∧0≤b∧b≤2147483648∧0≤a∧a≤2147483648∧checkD l=chkD l i b a) (fun(b,a,i)=>l.length-i) (0,0,0) ?_ ?_
 ·
  exact⟨by omega,by decide,by decide,by decide,by decide,rfl⟩
 rintro⟨b,a,i⟩ I3 ih3
 try dsimp only at I3
 refine .bp [.r []] (decide ((i:Int)< (l.length:Int))) (fun h3=> ?_) (fun h3=> ?_)
 ·
  refine .bp [.r [(1,X (Xi dstepT l (i:Int)))],.r [(1,X (Xc0 (fc_step ((l.getD i default))) X0))],.r []] ((stepD ((l.getD i default))) !=0) (fun h6=> ?_) (fun h6=> ?_)
  ·
   have e1:((checkD l):Int)=(stepD ((l.getD i default))):=by
    rw[I3.2.2.2.2.2,chkD];((repeat' split)<;>first|rfl|omega| (simp_all;done)| (simp_all;omega))
   exact .finE [.r []] [] (fun z0:Int=>(VI z0,[])) _ _ e1
  ·
   have hz:=stepD_sz (s:=l.getD i default) (by omega)
   obtain⟨hx,_,_⟩:=hd.at_ (k:=i) (by omega)
   refine .bp [.r []] (decide ((i:Int)> 0)) (fun h8=> ?_) (fun h8=> ?_)
   ·
    refine .bp [.r [(2,X (Xn ((i:Int)- 1))),(3,X (Xi' dstepT l ((i:Int)- 1) (i- 1)))],.r [(7,Xv 1 ((((l.getD (i- 1) default)).kind)==(((l.getD i default)).kind)) X0),(8,Xv 1 ((((l.getD (i- 1) default)).kind)==(((l.getD i default)).kind)) X0),(9,Xv 1 ((((l.getD (i- 1) default)).kind)==(((l.getD i default)).kind)) X0),(11,Xv 1 (((((l.getD (i- 1) default)).kind)==(((l.getD i default)).kind))&& !((((l.getD i default)).kind) !=0)) X0),(13,Xv 1 (((((l.getD (i- 1) default)).kind)==(((l.getD i default)).kind))&& !((((l.getD i default)).kind) !=0)) X0),(14,Xv 2 (((((l.getD (i- 1) default)).kind)==(((l.getD i default)).kind))&& !((((l.getD i default)).kind) !=0)) (Xc0 (fc_attrSame (((l.getD (i- 1) default)).attrs) (((l.getD i default)).attrs)) X0)),(15,Xko ((((l.getD (i- 1) default)).kind)==(((l.getD i default)).kind)) ((((l.getD i default)).kind) !=0)),(16,X (Xk ((((l.getD (i- 1) default)).kind)==(((l.getD i default)).kind)))),(19,Xv 1 (!(((((l.getD (i- 1) default)).kind)==(((l.getD i default)).kind))&&(((((l.getD i default)).kind) !=0)|| (sameL (((l.getD (i- 1) default)).attrs) (((l.getD i default)).attrs))))) X0),(20,Xv 1 (!(((((l.getD (i- 1) default)).kind)==(((l.getD i default)).kind))&&(((((l.getD i default)).kind) !=0)|| (sameL (((l.getD (i- 1) default)).attrs) (((l.getD i default)).attrs))))) X0),(21,Xv 1 (!(((((l.getD (i- 1) default)).kind)==(((l.getD i default)).kind))&&(((((l.getD i default)).kind) !=0)|| (sameL (((l.getD (i- 1) default)).attrs) (((l.getD i default)).attrs))))) X0),(23,Xv 1 ((!(((((l.getD (i- 1) default)).kind)==(((l.getD i default)).kind))&&(((((l.getD i default)).kind) !=0)|| (sameL (((l.getD (i- 1) default)).attrs) (((l.getD i default)).attrs)))))&&((((l.getD (i- 1) default)).kind)==2)) X0),(24,Xv 1 ((!(((((l.getD (i- 1) default)).kind)==(((l.getD i default)).kind))&&(((((l.getD i default)).kind) !=0)|| (sameL (((l.getD (i- 1) default)).attrs) (((l.getD i default)).attrs)))))&&((((l.getD (i- 1) default)).kind)==2)) X0),(25,Xka (!(((((l.getD (i- 1) default)).kind)==(((l.getD i default)).kind))&&(((((l.getD i default)).kind) !=0)|| (sameL (((l.getD (i- 1) default)).attrs) (((l.getD i default)).attrs))))) ((((l.getD (i- 1) default)).kind)==2)),(26,X (Xk' (((((l.getD (i- 1) default)).kind)==(((l.getD i default)).kind))&&(((((l.getD i default)).kind) !=0)|| (sameL (((l.getD (i- 1) default)).attrs) (((l.getD i default)).attrs))))))]] ((((((l.getD (i- 1) default)).kind)==(((l.getD i default)).kind))&&(((((l.getD i default)).kind) !=0)|| (sameL (((l.getD (i- 1) default)).attrs) (((l.getD i default)).attrs))))|| (((((l.getD (i- 1) default)).kind)==2)&&((((l.getD i default)).kind)==1))) (fun h10=> ?_) (fun h10=> ?_)
    ·
     have e2:((checkD l):Int)=5:=by
      rw[I3.2.2.2.2.2,chkD,if_pos (by omega),if_neg (by omega),if_pos ⟨by omega,adjD_yes.2 h10⟩]
     exact .finE [.r []] [] (fun z0:Int=>(VI z0,[])) _ _ e2
    ·
     refine .bp [.r []] ((((l.getD i default)).kind) !=1) (fun h12=> ?_) (fun h12=> ?_)
     ·
      refine .bp [.r [(3,X (Xn (b+(((l.getD i default)).n)))),(4,X (Xmin (b+(((l.getD i default)).n)) 2147483648))],.r []] ((((l.getD i default)).kind) !=2) (fun h14=> ?_) (fun h14=> ?_)
      ·
       refine .at 528 [(80,80)] ([(0,VL 4 dstepT l),(3,VI (min (b+(((l.getD i default)).n)) 2147483648)),(4,VI a),(6,.ptr 80 0),(9,VL 4 dstepT l),(10,VI (l.length:Int)),(11,VI (i:Int)),(65,VB ((((l.getD i default)).kind) !=2))],[(80,.box [VI (((l.getD i default)).kind),VI (((l.getD i default)).n),VL 2 attrT (((l.getD i default)).attrs),VL 3 elemT (((l.getD i default)).elems)])]) ?_
       refine .back [.r [(2,X (Xc0 (fc_size ((l.getD i default))) X0)),(3,X (Xn (a+(szD ((l.getD i default)))))),(4,X (Xmin (a+(szD ((l.getD i default)))) 2147483648))],.r [(0,X (Xn ((i:Int)+1)))]] [] (ih3 ((min (b+(((l.getD i default)).n)) 2147483648),(min (a+(szD ((l.getD i default)))) 2147483648),(i+1)) ?_ ?_)
       ·
        refine⟨by omega,by omega,by omega,by omega,by omega,?_⟩
        rw[I3.2.2.2.2.2,chkD,if_pos (by omega),if_neg (by omega),if_neg (by first|omega|exact fun hh=>adjD_no h10 hh.2)]
        ((repeat' split)<;>first|rfl|omega| (simp_all;done)| (simp_all;omega))
       ·
        ((try dsimp only);omega)
      ·
       refine .at 528 [(80,80)] ([(0,VL 4 dstepT l),(3,VI (min (b+(((l.getD i default)).n)) 2147483648)),(4,VI a),(6,.ptr 80 0),(9,VL 4 dstepT l),(10,VI (l.length:Int)),(11,VI (i:Int)),(65,VB ((((l.getD i default)).kind) !=2))],[(80,.box [VI (((l.getD i default)).kind),VI (((l.getD i default)).n),VL 2 attrT (((l.getD i default)).attrs),VL 3 elemT (((l.getD i default)).elems)])]) ?_
       refine .back [.r [(0,X (Xn ((i:Int)+1)))]] [] (ih3 ((min (b+(((l.getD i default)).n)) 2147483648),a,(i+1)) ?_ ?_)
       ·
        refine⟨by omega,by omega,by omega,by omega,by omega,?_⟩
        rw[I3.2.2.2.2.2,chkD,if_pos (by omega),if_neg (by omega),if_neg (by first|omega|exact fun hh=>adjD_no h10 hh.2)]
        ((repeat' split)<;>first|rfl|omega| (simp_all;done)| (simp_all;omega))
       ·
        ((try dsimp only);omega)
     ·
      refine .bp [.r []] ((((l.getD i default)).kind) !=2) (fun h14=> ?_) (fun h14=> ?_)
      ·
       refine .at 480 [(80,80)] ([(0,VL 4 dstepT l),(3,VI b),(4,VI a),(6,.ptr 80 0),(9,VL 4 dstepT l),(10,VI (l.length:Int)),(11,VI (i:Int)),(65,VB ((((l.getD i default)).kind) !=2))],[(80,.box [VI (((l.getD i default)).kind),VI (((l.getD i default)).n),VL 2 attrT (((l.getD i default)).attrs),VL 3 elemT (((l.getD i default)).elems)])]) ?_
       refine .back [.r [(2,X (Xc0 (fc_size ((l.getD i default))) X0)),(3,X (Xn (a+(szD ((l.getD i default)))))),(4,X (Xmin (a+(szD ((l.getD i default)))) 2147483648))],.r [(0,X (Xn ((i:Int)+1)))]] [] (ih3 (b,(min (a+(szD ((l.getD i default)))) 2147483648),(i+1)) ?_ ?_)
       ·
        refine⟨by omega,by omega,by omega,by omega,by omega,?_⟩
        rw[I3.2.2.2.2.2,chkD,if_pos (by omega),if_neg (by omega),if_neg (by first|omega|exact fun hh=>adjD_no h10 hh.2)]
        ((repeat' split)<;>first|rfl|omega| (simp_all;done)| (simp_all;omega))
       ·
        ((try dsimp only);omega)
      ·
       refine .at 480 [(80,80)] ([(0,VL 4 dstepT l),(3,VI b),(4,VI a),(6,.ptr 80 0),(9,VL 4 dstepT l),(10,VI (l.length:Int)),(11,VI (i:Int)),(65,VB ((((l.getD i default)).kind) !=2))],[(80,.box [VI (((l.getD i default)).kind),VI (((l.getD i default)).n),VL 2 attrT (((l.getD i default)).attrs),VL 3 elemT (((l.getD i default)).elems)])]) ?_
       refine .back [.r [(0,X (Xn ((i:Int)+1)))]] [] (ih3 (b,a,(i+1)) ?_ ?_)
       ·
        refine⟨by omega,by omega,by omega,by omega,by omega,?_⟩
        rw[I3.2.2.2.2.2,chkD,if_pos (by omega),if_neg (by omega),if_neg (by first|omega|exact fun hh=>adjD_no h10 hh.2)]
        ((repeat' split)<;>first|rfl|omega| (simp_all;done)| (simp_all;omega))
       ·
        ((try dsimp only);omega)
   ·
    refine .bp [.r []] ((((l.getD i default)).kind) !=1) (fun h12=> ?_) (fun h12=> ?_)
    ·
     refine .bp [.r [(3,X (Xn (b+(((l.getD i default)).n)))),(4,X (Xmin (b+(((l.getD i default)).n)) 2147483648))],.r []] ((((l.getD i default)).kind) !=2) (fun h14=> ?_) (fun h14=> ?_)
     ·
      refine .back [.r [(2,X (Xc0 (fc_size ((l.getD i default))) X0)),(3,X (Xn (a+(szD ((l.getD i default)))))),(4,X (Xmin (a+(szD ((l.getD i default)))) 2147483648))],.r [(0,X (Xn ((i:Int)+1)))]] [] (ih3 ((min (b+(((l.getD i default)).n)) 2147483648),(min (a+(szD ((l.getD i default)))) 2147483648),(i+1)) ?_ ?_)
      ·
       refine⟨by omega,by omega,by omega,by omega,by omega,?_⟩
       rw[I3.2.2.2.2.2,chkD,if_pos (by omega),if_neg (by omega),if_neg (by first|omega|exact fun hh=>adjD_no h10 hh.2)]
       ((repeat' split)<;>first|rfl|omega| (simp_all;done)| (simp_all;omega))
      ·
       ((try dsimp only);omega)
     ·
      refine .back [.r [(0,X (Xn ((i:Int)+1)))]] [] (ih3 ((min (b+(((l.getD i default)).n)) 2147483648),a,(i+1)) ?_ ?_)
      ·
       refine⟨by omega,by omega,by omega,by omega,by omega,?_⟩
       rw[I3.2.2.2.2.2,chkD,if_pos (by omega),if_neg (by omega),if_neg (by first|omega|exact fun hh=>adjD_no h10 hh.2)]
       ((repeat' split)<;>first|rfl|omega| (simp_all;done)| (simp_all;omega))
      ·
       ((try dsimp only);omega)
    ·
     refine .bp [.r []] ((((l.getD i default)).kind) !=2) (fun h14=> ?_) (fun h14=> ?_)
     ·
      refine .back [.r [(2,X (Xc0 (fc_size ((l.getD i default))) X0)),(3,X (Xn (a+(szD ((l.getD i default)))))),(4,X (Xmin (a+(szD ((l.getD i default)))) 2147483648))],.r [(0,X (Xn ((i:Int)+1)))]] [] (ih3 (b,(min (a+(szD ((l.getD i default)))) 2147483648),(i+1)) ?_ ?_)
      ·
       refine⟨by omega,by omega,by omega,by omega,by omega,?_⟩
       rw[I3.2.2.2.2.2,chkD,if_pos (by omega),if_neg (by omega),if_neg (by first|omega|exact fun hh=>adjD_no h10 hh.2)]
       ((repeat' split)<;>first|rfl|omega| (simp_all;done)| (simp_all;omega))
      ·
       ((try dsimp only);omega)
     ·
      refine .back [.r [(0,X (Xn ((i:Int)+1)))]] [] (ih3 (b,a,(i+1)) ?_ ?_)
      ·
       refine⟨by omega,by omega,by omega,by omega,by omega,?_⟩
       rw[I3.2.2.2.2.2,chkD,if_pos (by omega),if_neg (by omega),if_neg (by first|omega|exact fun hh=>adjD_no h10 hh.2)]
       ((repeat' split)<;>first|rfl|omega| (simp_all;done)| (simp_all;omega))
      ·
       ((try dsimp only);omega)
 ·
  refine .bp [.r [(4,Xv 1 (!(decide (b>2147483647))) X0),(5,X (Xk' (decide (b>2147483647))))]] (decide (b>2147483647)||decide (a>2147483647)) (fun h17=> ?_) (fun h17=> ?_)
  ·
   have e3:((checkD l):Int)=3:=by
    rw[I3.2.2.2.2.2,chkD];((repeat' split)<;>first|rfl|omega| (simp_all;done)| (simp_all;omega))
   exact .finE [.r []] [] (fun z0:Int=>(VI z0,[])) _ _ e3
  ·
   have e4:((checkD l):Int)=0:=by
    rw[I3.2.2.2.2.2,chkD];((repeat' split)<;>first|rfl|omega| (simp_all;done)| (simp_all;omega))
   exact .finE [.r []] [] (fun z0:Int=>(VI z0,[])) _ _ e4
theorem fc_dLens(l:List DStep)(hv:DValid l):FC Tryz.prog 144 [VL 4 dstepT l] (app emp []) (.tup [VI (oldD l),VI (newD l)]) (app emp []):=by
 refine .go Tryz.f144 ?_
 refine .len 0 (fun hl0=> ?_)
 refine .loop (α:=Int×Int×Nat) [.r [],.r [],.r [(1,X (Xl dstepT l))]] 56 (fun(b,a,i)=>([(4,VI b),(5,VI a),(8,VL 4 dstepT l),(9,VI (l.length:Int)),(10,VI (i:Int))],[])) (fun(b,a,i)=>i≤l.length∧0≤b∧0≤a∧oldD l=b+oldD (l.drop i)∧newD l=a+newD (l.drop i)) (fun(b,a,i)=>l.length-i) (0,0,0) ?_ ?_
 ·
  exact⟨by omega,by decide,by decide,by simp,by simp⟩
 rintro⟨b,a,i⟩ I3 ih3
 try dsimp only at I3
 have hv1:=hv.2.1
 have hv2:=hv.2.2
 refine .bp [.r []] (decide ((i:Int)< (l.length:Int))) (fun h3=> ?_) (fun h3=> ?_)
 ·
  have hst:=dlens_step (l:=l) (i:=i) (by omega) hv.1
  refine .bp [.r [(0,X (Xi dstepT l (i:Int)))],.r []] ((((l.getD i default)).kind) !=1) (fun h5=> ?_) (fun h5=> ?_)
  ·
   have s1:=hst.1
   rw[if_neg (by omega)] at s1
   refine .bp [.r [(3,X (Xn (b+(((l.getD i default)).n))))],.r []] ((((l.getD i default)).kind) !=2) (fun h7=> ?_) (fun h7=> ?_)
   ·
    have s2:=hst.2.1
    rw[if_neg (by omega)] at s2
    refine .back [.r [(2,X (Xc0 (fc_size ((l.getD i default))) X0)),(3,X (Xn (a+(szD ((l.getD i default))))))],.r [(0,X (Xn ((i:Int)+1)))]] [] (ih3 ((b+(((l.getD i default)).n)),(a+(szD ((l.getD i default)))),(i+1)) ?_ ?_)
    ·
     obtain⟨s1,s2,s3,s4,s5,s6,s7,s8⟩:=hst
     first|rw[if_pos (by omega)] at s1|rw[if_neg (by omega)] at s1
     first|rw[if_pos (by omega)] at s2|rw[if_neg (by omega)] at s2
     refine⟨by omega,by omega,by omega,by omega,by omega⟩
    ·
     ((try dsimp only);omega)
   ·
    refine .back [.r [(0,X (Xn ((i:Int)+1)))]] [] (ih3 ((b+(((l.getD i default)).n)),a,(i+1)) ?_ ?_)
    ·
     obtain⟨s1,s2,s3,s4,s5,s6,s7,s8⟩:=hst
     first|rw[if_pos (by omega)] at s1|rw[if_neg (by omega)] at s1
     first|rw[if_pos (by omega)] at s2|rw[if_neg (by omega)] at s2
     refine⟨by omega,by omega,by omega,by omega,by omega⟩
    ·
     ((try dsimp only);omega)
  ·
   refine .bp [.r []] ((((l.getD i default)).kind) !=2) (fun h7=> ?_) (fun h7=> ?_)
   ·
    have s2:=hst.2.1
    rw[if_neg (by omega)] at s2
    refine .back [.r [(2,X (Xc0 (fc_size ((l.getD i default))) X0)),(3,X (Xn (a+(szD ((l.getD i default))))))],.r [(0,X (Xn ((i:Int)+1)))]] [] (ih3 (b,(a+(szD ((l.getD i default)))),(i+1)) ?_ ?_)
    ·
     obtain⟨s1,s2,s3,s4,s5,s6,s7,s8⟩:=hst
     first|rw[if_pos (by omega)] at s1|rw[if_neg (by omega)] at s1
     first|rw[if_pos (by omega)] at s2|rw[if_neg (by omega)] at s2
     refine⟨by omega,by omega,by omega,by omega,by omega⟩
    ·
     ((try dsimp only);omega)
   ·
    refine .back [.r [(0,X (Xn ((i:Int)+1)))]] [] (ih3 (b,a,(i+1)) ?_ ?_)
    ·
     obtain⟨s1,s2,s3,s4,s5,s6,s7,s8⟩:=hst
     first|rw[if_pos (by omega)] at s1|rw[if_neg (by omega)] at s1
     first|rw[if_pos (by omega)] at s2|rw[if_neg (by omega)] at s2
     refine⟨by omega,by omega,by omega,by omega,by omega⟩
    ·
     ((try dsimp only);omega)
 ·
  have e1:((oldD l):Int)=b:=by
   have hE:=dend (l:=l) (i:=i) (by omega)
   omega
  have e2:((newD l):Int)=a:=by
   have hE:=dend (l:=l) (i:=i) (by omega)
   omega
  exact .finE [.r []] [] (fun((z0,z1):Int×Int)=>(.tup [VI z0,VI z1],[])) _ _ (pr e1 e2)
end Go.Ch
end
section
set_option linter.unusedVariables false
set_option linter.unusedSimpArgs false
set_option maxRecDepth 100000
set_option maxHeartbeats 4000000
open Go Go.Proofs Go.Ab
namespace Go.Ch
theorem fc_dRaw(f:List Elem)(l:List DStep)(hv:DValid l)(hd:DN 400000000000 l)(ha:AN 400000000000 f)(hlen:oldD l=f.length):FC Tryz.prog 93 [VL 3 elemT f,VL 4 dstepT l] (app emp []) (VL 3 elemT (rawD f l)) (app emp []):=by
 refine .go Tryz.f93 ?_
 refine .len 0 (fun hl0=> ?_)
 refine .len 1 (fun hl1=> ?_)
 refine .loop (α:=(List Elem)×Nat×(List Elem)) [.r [],.r [],.r [(1,X (Xl dstepT l))],.le (.nR 5 3)] 41 (fun(r,i,o)=>([(0,VL 3 elemT r),(5,.row 40 o.length),(8,VL 4 dstepT l),(9,VI (l.length:Int)),(10,VI (i:Int))],[(40,OR 3 elemT o)])) (fun(r,i,o)=>i≤l.length∧AN 400000000000 r∧oldD (l.drop i)=r.length∧o.length+newD (l.drop i)=newD l∧rawD f l=o++applyU (exD (l.drop i)) r) (fun(r,i,o)=>l.length-i) (f,0,[]) ?_ ?_
 ·
  exact⟨by omega,ha,by simpa using hlen,by simp,by simp[rawD]⟩
 rintro⟨r,i,o⟩ I3 ih3
 try dsimp only at I3
 have hv1:=hv.2.1
 have hv2:=hv.2.2
 refine .bp [.r []] (decide ((i:Int)< (l.length:Int))) (fun h3=> ?_) (fun h3=> ?_)
 ·
  have hst:=dlens_step (l:=l) (i:=i) (by omega) hv.1
  obtain⟨hx,hx2,hx3⟩:=hd.at_ (k:=i) (by omega)
  have hr:=raw_at (d:=l) (i:=i) (by omega) r
  refine .bp [.r [(0,X (Xi dstepT l (i:Int)))],.r [],.r []] ((((l.getD i default)).kind)==0) (fun h7=> ?_) (fun h7=> ?_)
  ·
   obtain⟨s1,s2,s3,s4,s5,s6,s7,s8⟩:=hst
   rw[if_neg (by omega)] at s1 s2
   have hz:szD (l.getD i default)=(l.getD i default).n:=by unfold szD;rw[if_neg (by omega)]
   have hl8:(r.take (l.getD i default).n.toNat).length=(l.getD i default).n.toNat:=by rw[List.length_take];omega
   have hs8:∀x∈r.take (l.getD i default).n.toNat,x.attrs.length+(l.getD i default).attrs.length<1099511627776:=fun x hx=>by have:=I3.2.1 x (List.mem_of_mem_take hx);omega
   refine .back [.r [(4,X (Xst elemT 3 r (((l.getD i default)).n))),(7,X (Xc1 169 (fc_changed (r.take (Int.toNat (((l.getD i default)).n))) (((l.getD i default)).attrs) (by omega) (by assumption)) X0)),(8,X (Xap 3 elemT 40 o (List.map (chgE (((l.getD i default)).attrs)) (r.take (Int.toNat (((l.getD i default)).n))))))],.r [(3,X (Xsd elemT 3 r (((l.getD i default)).n)))],.r [(0,X (Xn ((i:Int)+1)))]] [(40,40)] (ih3 ((r.drop (Int.toNat (((l.getD i default)).n))),(i+1),(o++(List.map (chgE (((l.getD i default)).attrs)) (r.take (Int.toNat (((l.getD i default)).n)))))) ?_ ?_)
   ·
    refine⟨by omega,fun x hx=>I3.2.1 x (List.mem_of_mem_drop hx),by(rw[List.length_drop];omega),by(simp only[List.length_append,List.length_map];omega),?_⟩
    rw[I3.2.2.2.2,hr,if_neg (by omega),if_neg (by omega),List.append_assoc]
   ·
    show l.length- (i+1)< l.length-i;omega
  ·
   refine .bp [.r []] ((((l.getD i default)).kind)==1) (fun h10=> ?_) (fun h10=> ?_)
   ·
    obtain⟨s1,s2,s3,s4,s5,s6,s7,s8⟩:=hst
    rw[if_pos (by omega)] at s1
    rw[if_neg (by omega)] at s2
    have hz:szD (l.getD i default)=(l.getD i default).elems.length:=by unfold szD;rw[if_pos (by omega)]
    refine .back [.r [(3,X (Xc1 153 (fc_copy (((l.getD i default)).elems) (by omega) (by assumption)) X0)),(4,X (Xap 3 elemT 40 o (((l.getD i default)).elems)))],.r [(0,X (Xn ((i:Int)+1)))]] [(40,40)] (ih3 (r,(i+1),(o++(((l.getD i default)).elems))) ?_ ?_)
    ·
     refine⟨by omega,I3.2.1,by omega,by(simp only[List.length_append];omega),?_⟩
     rw[I3.2.2.2.2,hr,if_pos (by omega),List.append_assoc]
    ·
     show l.length- (i+1)< l.length-i;omega
   ·
    obtain⟨s1,s2,s3,s4,s5,s6,s7,s8⟩:=hst
    rw[if_neg (by omega)] at s1
    rw[if_pos (by omega)] at s2
    refine .back [.r [(3,X (Xsd elemT 3 r (((l.getD i default)).n)))],.r [(0,X (Xn ((i:Int)+1)))]] [(40,40)] (ih3 ((r.drop (Int.toNat (((l.getD i default)).n))),(i+1),o) ?_ ?_)
    ·
     refine⟨by omega,fun x hx=>I3.2.1 x (List.mem_of_mem_drop hx),by(rw[List.length_drop];omega),by omega,?_⟩
     rw[I3.2.2.2.2,hr,if_neg (by omega),if_pos (by omega)]
    ·
     show l.length- (i+1)< l.length-i;omega
 ·
  have e1:((rawD f l):List Elem)=o:=by
   rw[I3.2.2.2.2,List.drop_eq_nil_of_le (by omega)];simp[exD,applyU]
  exact .finE [.r [],.le (.fr 4 [(o.length:Nat)=(List.map elemT o).length] ⟨lm,trivial⟩)] [] (fun z0:List Elem=>(VL 3 elemT z0,[])) _ _ e1
end Go.Ch
end
section
set_option linter.unusedVariables false
set_option linter.unusedSimpArgs false
set_option maxRecDepth 100000
set_option maxHeartbeats 4000000
open Go Go.Proofs Go.Ab
namespace Go.Ch
end Go.Ch
end
section
set_option linter.unusedVariables false
set_option linter.unusedSimpArgs false
namespace Go.Ch
open Go Go.Ab
structure DWr where
 out:List DStep
 add:List Elem
 cut:Int
def flushD(w:DWr):List DStep:=w.out++(if 0<w.add.length then[⟨1,0,[],w.add⟩] else[])++(if 0<w.cut then[⟨2,w.cut,[],[]⟩] else[])
def keepD(l:List DStep)(n:Int)(c:List Attr):List DStep:=
 if 0<l.length∧(l.getD (l.length- 1) default).kind=0∧sameL (l.getD (l.length- 1) default).attrs c=true then
  l.set (l.length- 1) ⟨(l.getD (l.length- 1) default).kind,(l.getD (l.length- 1) default).n+n,(l.getD (l.length- 1) default).attrs,(l.getD (l.length- 1) default).elems⟩
 else l++[⟨0,n,c,[]⟩]
theorem flushD_len(w:DWr):(flushD w).length≤w.out.length+2:=by
 unfold flushD;simp only[List.length_append];split<;>split<;>simp
theorem keepD_len(l:List DStep)(n:Int)(c:List Attr):(keepD l n c).length≤l.length+1:=by
 unfold keepD;split<;>simp
def DOkW(s:DStep):Prop:=
 (s.kind=1∧s.n=0∧s.attrs=[]∧s.elems≠[]∧∀x∈s.elems,elemE x=0)∨
 ((s.kind=0∨s.kind=2)∧s.elems=[]∧(s.kind=2→s.attrs=[])∧1≤s.n∧VG true s.attrs)
def AdjOk:List DStep→Prop
 | []=>True
 | [_]=>True
 |s::t::l=>adjD s t=false∧AdjOk (t::l)
theorem adj_snoc:∀{l:List DStep} {s:DStep},AdjOk l→(∀t,l.getLast? =some t→adjD t s=false)→AdjOk (l++[s])
 | [],s,_,_=>trivial
 | [x],s,_,h=>⟨h x rfl,trivial⟩
 |x::y::l,s,hf,h=>⟨hf.1,adj_snoc (l:=y::l) hf.2 (fun t ht=>h t (by simpa[List.getLast?_cons_cons] using ht))⟩
theorem adjD_eq'{w x x':DStep}(k:x'.kind=x.kind)(a:x'.attrs=x.attrs):adjD w x'=adjD w x:=by unfold adjD;rw[k,a]
theorem adj_last:∀{l:List DStep} {s s':DStep},AdjOk (l++[s])→s'.kind=s.kind→s'.attrs=s.attrs→AdjOk (l++[s'])
 | [],s,s',_,_,_=>trivial
 | [x],s,s',h,k,a=>⟨by rw[adjD_eq' k a];exact h.1,trivial⟩
 |x::y::l,s,s',h,k,a=>⟨h.1,adj_last (l:=y::l) h.2 k a⟩
theorem dform_of:∀{l:List DStep},(∀s∈l,DOk s)→AdjOk l→DForm l
 | [],_,_=>trivial
 | [s],h,_=>h s (by simp)
 |s::t::l,h,k=>⟨h s (by simp),k.1,dform_of (fun x hx=>h x (by simp at hx⊢;exact .inr hx)) k.2⟩
theorem okW{s:DStep}(h:DOk s):DOkW s:=by
 rcases h with h| ⟨a,b,c,d,e,f⟩
 ·exact .inl h
 ·exact .inr ⟨a,b,c,d,f⟩
theorem oSW{s:DStep}(h:DOkW s):0≤oS s∧0≤nS s∧(s.kind≠1→oS s=s.n)∧0≤s.n:=by
 unfold oS nS szD
 rcases h with⟨k,n,a,e,_⟩| ⟨k,_,_,n1,_⟩
 ·have:0<s.elems.length:=List.length_pos_iff.2 e
  rw[if_pos k,if_neg (by omega),if_pos k]
  exact⟨Int.le_refl _,by omega,fun q=>absurd k q,by omega⟩
 ·have k1:¬s.kind=1:=by omega
  simp only[if_neg k1]
  refine⟨by omega,by(split<;>omega),fun _=>trivial,by omega⟩
theorem sumsW:∀{l:List DStep},(∀s∈l,DOkW s)→0≤oldD l∧0≤newD l∧∀s∈l,s.kind≠1→s.n≤oldD l
 | [],_=>⟨Int.le_refl _,Int.le_refl _,fun s hs=>by cases hs⟩
 |s::l,h=>by
  have h1:=oSW (h s (by simp))
  have h2:=sumsW (l:=l) (fun t ht=>h t (by simp[ht]))
  simp only[oldD,newD]
  refine⟨by omega,by omega,fun t ht k=> ?_⟩
  rcases List.mem_cons.1 ht with rfl|ht
  ·have:=h1.2.2.1 k;omega
  ·have:=h2.2.2 t ht k;omega
theorem valid_of{l:List DStep}(h:∀s∈l,DOkW s)(ha:AdjOk l)(h1:oldD l≤2147483647)(h2:newD l≤2147483647):DValid l:=by
 refine⟨dform_of (fun s hs=> ?_) ha,h1,h2⟩
 rcases h s hs with q| ⟨a,b,c,d,e⟩
 ·exact .inl q
 ·have:=(sumsW h).2.2 s hs (by omega)
  exact .inr ⟨a,b,c,d,by omega,e⟩
theorem oldN_app(u v:List DU):oldN (u++v)=oldN u+oldN v:=by
 induction u with
 |nil=>simp[oldN]
 |cons x u ih=>cases x<;>simp[oldN,ih]<;>omega
theorem newN_app(u v:List DU):newN (u++v)=newN u+newN v:=by
 induction u with
 |nil=>simp[newN]
 |cons x u ih=>cases x<;>simp[newN,ih]<;>omega
theorem lens_As(e:List Elem):oldN (e.map .A)=0∧newN (e.map .A)=e.length:=by
 induction e with
 |nil=>exact⟨rfl,rfl⟩
 |cons x e ih=>simp[oldN,newN,ih]
theorem lens_Cs(n:Nat):oldN (List.replicate n .C)=n∧newN (List.replicate n .C)=0:=by
 induction n with
 |zero=>exact⟨rfl,rfl⟩
 |succ n ih=>simp[List.replicate_succ,oldN,newN,ih]
theorem lens_Ks(n:Nat)(c:List Attr):oldN (List.replicate n (.K c))=n∧newN (List.replicate n (.K c))=n:=by
 induction n with
 |zero=>exact⟨rfl,rfl⟩
 |succ n ih=>simp[List.replicate_succ,oldN,newN,ih]
theorem lens_S{s:DStep}(h:DOkW s):(oldN (exS s):Int)=oS s∧(newN (exS s):Int)=nS s:=by
 unfold exS oS nS szD
 rcases h with⟨k,n,a,e,_⟩| ⟨k,_,_,n1,_⟩
 ·rw[if_pos k,if_pos k,if_neg (by omega),if_pos k,(lens_As _).1,(lens_As _).2];exact⟨rfl,rfl⟩
 ·have k1:¬s.kind=1:=by omega
  by_cases k2:s.kind=2
  ·simp only[if_neg k1,if_pos k2]
   rw[(lens_Cs _).1,(lens_Cs _).2];omega
  ·simp only[if_neg k1,if_neg k2]
   rw[(lens_Ks _ _).1,(lens_Ks _ _).2];omega
theorem lens_D:∀{l:List DStep},(∀s∈l,DOkW s)→(oldN (exD l):Int)=oldD l∧(newN (exD l):Int)=newD l
 | [],_=>⟨rfl,rfl⟩
 |s::l,h=>by
  have h1:=lens_S (h s (by simp))
  have h2:=lens_D (l:=l) (fun t ht=>h t (by simp[ht]))
  simp only[exD,oldD,newD]
  rw[oldN_app,newN_app]
  omega
def exDW(w:DWr):List DU:=exD w.out++(w.add.map .A++List.replicate w.cut.toNat .C)
structure GoodD(w:DWr):Prop where
 ok:∀s∈w.out,DOkW s
 adj:AdjOk w.out
 last:∀t,w.out.getLast? =some t→t.kind=0
 add:∀x∈w.add,elemE x=0
 cut:0≤w.cut
theorem goodD0:GoodD ⟨[],[],0⟩:=⟨fun s h=>(by cases h),trivial,fun t h=>(by cases h),fun x h=>(by cases h),Int.le_refl _⟩
theorem flushD_ex{w:DWr}(h:GoodD w):exD (flushD w)=exDW w:=by
 have h2:=h.cut
 unfold flushD exDW
 rw[exD_app,exD_app,List.append_assoc]
 congr 2
 ·split
  ·simp[exD,exS]
  ·rw[show w.add=[] from len0.1 (by omega)];rfl
 ·split
  ·simp[exD,exS]
  ·rw[show w.cut.toNat=0 by omega];rfl
theorem adj_1{t s:DStep}(h:t.kind≠s.kind)(h2:¬(t.kind=2∧s.kind=1)):adjD t s=false:=by
 cases e:adjD t s
 ·rfl
 ·rcases adjD_yes.1 e with⟨a,_⟩|a
  ·exact absurd a h
  ·exact absurd a h2
theorem vg_nil:VG true []:=(chk_iff (e:=true) (l:=[])).1 (by rw[chkA];rfl)
theorem flushD_ok{w:DWr}(h:GoodD w):(∀s∈flushD w,DOkW s)∧AdjOk (flushD w):=by
 have h2:=h.cut
 have o1:0<w.add.length→DOkW ⟨1,0,[],w.add⟩:=fun q=> .inl ⟨rfl,rfl,rfl,List.length_pos_iff.1 q,h.add⟩
 have o2:0<w.cut→DOkW ⟨2,w.cut,[],[]⟩:=fun q=> .inr ⟨.inr rfl,rfl,fun _=>rfl,q,vg_nil⟩
 refine⟨fun s hs=> ?_,?_⟩
 ·unfold flushD at hs
  simp only[List.mem_append] at hs
  rcases hs with(hs|hs)|hs
  ·exact h.ok s hs
  ·split at hs
   ·rename_i q;rw[List.mem_singleton] at hs;subst hs;exact o1 q
   ·cases hs
  ·split at hs
   ·rename_i q;rw[List.mem_singleton] at hs;subst hs;exact o2 q
   ·cases hs
 ·unfold flushD
  by_cases ha:0<w.add.length
  ·rw[if_pos ha]
   have f1:AdjOk (w.out++[⟨1,0,[],w.add⟩]):=adj_snoc h.adj (fun t ht=>by
    have:=h.last t ht
    exact adj_1 (by simp only;omega) (by omega))
   by_cases hc:0<w.cut
   ·rw[if_pos hc]
    refine adj_snoc f1 (fun t ht=> ?_)
    rw[List.getLast?_concat] at ht
    cases ht
    exact adj_1 (by show(1:Int)≠2;decide) (by show¬((1:Int)=2∧(2:Int)=1);decide)
   ·rw[if_neg hc,List.append_nil];exact f1
  ·rw[if_neg ha,List.append_nil]
   by_cases hc:0<w.cut
   ·rw[if_pos hc]
    refine adj_snoc h.adj (fun t ht=> ?_)
    have:=h.last t ht
    exact adj_1 (by simp only;omega) (by omega)
   ·rw[if_neg hc,List.append_nil];exact h.adj
theorem lastD{l:List DStep}(h:0<l.length):l=l.take (l.length- 1)++[l.getD (l.length- 1) default]:=by
 conv=>lhs;rw[←List.take_append_drop (l.length- 1) l]
 congr 1
 rw[List.drop_eq_getElem_cons (by omega),List.drop_eq_nil_of_le (by omega)]
 simp[List.getD,List.getElem?_eq_getElem (show l.length- 1<l.length by omega)]
theorem lastD_mem{l:List DStep}(h:0<l.length):l.getD (l.length- 1) default∈l:=by
 rw[show l.getD (l.length- 1) default=l[l.length- 1] by simp[List.getD,List.getElem?_eq_getElem (show l.length- 1<l.length by omega)]]
 exact List.getElem_mem _
theorem setD{l:List DStep}(h:0<l.length)(s:DStep):l.set (l.length- 1) s=l.take (l.length- 1)++[s]:=by
 rw[List.set_eq_take_append_cons_drop,if_pos (by omega),List.drop_eq_nil_of_le (by omega)]
theorem keepD_ok{l:List DStep}{n:Int}{c:List Attr}(ho:∀s∈l,DOkW s)(hf:AdjOk l)(hn:1≤n)(hc:VG true c):
 (∀s∈keepD l n c,DOkW s)∧AdjOk (keepD l n c)∧(∀t,(keepD l n c).getLast? =some t→t.kind=0)∧exD (keepD l n c)=exD l++List.replicate n.toNat (.K c):=by
 unfold keepD
 split
 ·rename_i hc
  obtain⟨h0,hk,ha⟩:=hc
  rw[sameL_eq] at ha
  generalize hx:l.getD (l.length- 1) default=x at hk ha⊢
  have hl:=lastD h0
  rw[hx] at hl
  rw[setD h0]
  have hox:DOkW x:=ho x (by rw[hl];simp)
  have hx2:x.elems=[]∧1≤x.n∧VG true x.attrs:=by
   rcases hox with⟨k,_⟩| ⟨_,a,_,b,d⟩
   ·omega
   ·exact⟨a,b,d⟩
  refine⟨fun s hs=> ?_,adj_last (s:=x) (by rw[←hl];exact hf) rfl rfl,fun t ht=> ?_,?_⟩
  ·rw[List.mem_append] at hs
   rcases hs with hs|hs
   ·exact ho s (List.mem_of_mem_take hs)
   ·rw[List.mem_singleton] at hs;subst hs
    exact .inr ⟨.inl hk,hx2.1,fun q=>by simp only at q;omega,by simp only;omega,hx2.2.2⟩
  ·rw[List.getLast?_concat] at ht;cases ht;exact hk
  ·conv=>rhs;rw[hl]
   rw[exD_app,exD_app,List.append_assoc]
   congr 1
   simp only[exD,List.append_nil,exS]
   rw[if_neg (by omega),if_neg (by omega),if_neg (by omega),if_neg (by omega),ha,show(x.n+n).toNat=x.n.toNat+n.toNat by omega]
   exact List.replicate_append_replicate.symm
 ·rename_i hq
  refine⟨fun s hs=> ?_,adj_snoc hf (fun t ht=> ?_),fun t ht=> ?_,by rw[exD_app];simp[exD,exS]⟩
  ·rw[List.mem_append] at hs
   rcases hs with hs|hs
   ·exact ho s hs
   ·rw[List.mem_singleton] at hs;subst hs
    exact .inr ⟨.inl rfl,rfl,fun q=>(by cases q),hn,hc⟩
  ·have h0:0<l.length:=by
    rcases l with _| ⟨y,l⟩
    ·cases ht
    ·simp
   have hl:l.getLast? =some (l.getD (l.length- 1) default):=by
    conv=>lhs;rw[lastD h0]
    rw[List.getLast?_concat]
   rw[hl] at ht
   cases ht
   cases e:adjD (l.getD (l.length- 1) default) ⟨0,n,c,[]⟩
   ·rfl
   ·rcases adjD_yes.1 e with⟨a,b|b⟩| ⟨_,b⟩
    ·exact absurd rfl b
    ·exact absurd ⟨h0,a,b⟩ hq
    ·cases b
  ·rw[List.getLast?_concat] at ht;cases ht;rfl
theorem GoodD.keep{w:DWr}{n:Int}{c:List Attr}(h:GoodD w)(hn:1≤n)(hc:VG true c):
 GoodD ⟨keepD (flushD w) n c,[],0⟩∧exDW ⟨keepD (flushD w) n c,[],0⟩=exDW w++List.replicate n.toNat (.K c):=by
 obtain⟨q1,q2,q3,q4⟩:=keepD_ok (flushD_ok h).1 (flushD_ok h).2 hn hc
 refine⟨⟨q1,q2,q3,fun x hx=>(by cases hx),Int.le_refl _⟩,?_⟩
 rw[←flushD_ex h,←q4]
 simp[exDW]
theorem GoodD.elems{w:DWr}{e:List Elem}(h:GoodD w)(he:∀x∈e,elemE x=0):
 GoodD ⟨w.out,w.add++e,w.cut⟩∧DSw (exDW ⟨w.out,w.add++e,w.cut⟩) (exDW w++e.map .A):=by
 refine⟨⟨h.ok,h.adj,h.last,fun x hx=> ?_,h.cut⟩,?_⟩
 ·rcases List.mem_append.1 hx with hx|hx
  ·exact h.add x hx
  ·exact he x hx
 ·unfold exDW
  simp only[List.map_append,List.append_assoc]
  refine .left _ (.left _ ?_)
  have:=dsw_Cs_As w.cut.toNat e []
  simp only[List.append_nil] at this
  exact .symm this
theorem GoodD.cuts{w:DWr}{n:Int}(h:GoodD w)(hn:0≤n):
 GoodD ⟨w.out,w.add,w.cut+n⟩∧exDW ⟨w.out,w.add,w.cut+n⟩=exDW w++List.replicate n.toNat .C:=by
 have h2:=h.cut
 refine⟨⟨h.ok,h.adj,h.last,h.add,by simp only;omega⟩,?_⟩
 unfold exDW
 simp only[List.append_assoc]
 rw[show(w.cut+n).toNat=w.cut.toNat+n.toNat by omega,←List.replicate_append_replicate]
theorem GoodD.valid{w:DWr}{u:List DU}(h:GoodD w)(hs:DSw (exDW w) u)(h1:oldN u≤2147483647)(h2:newN u≤2147483647):
 DValid (flushD w)∧DSw (exD (flushD w)) u∧oldD (flushD w)=oldN u∧newD (flushD w)=newN u:=by
 have hk:=flushD_ok h
 have he:=flushD_ex h
 have hl:=dsw_lens hs
 have hd:=lens_D hk.1
 rw[he] at hd
 refine⟨valid_of hk.1 hk.2 (by omega) (by omega),by rw[he];exact hs,by omega,by omega⟩
end Go.Ch
end
section
set_option linter.unusedVariables false
set_option linter.unusedSimpArgs false
set_option maxRecDepth 100000
set_option maxHeartbeats 4000000
open Go Go.Proofs Go.Ab
namespace Go.Ch
theorem fc_dFlush(o:List DStep)(a:List Elem)(c:Int)(ho:o.length≤100000000000):FC Tryz.prog 214 [.ptr 0 0] (app emp [(0,.box [.row 1 o.length,.row 2 a.length,VI c]),(1,OR 4 dstepT o),(2,OR 3 elemT a)]) (.tup []) (app emp [(0,.box [.row 1 ((flushD ⟨o,a,c⟩).length),.row 3 0,VI 0]),(1,OR 4 dstepT (flushD ⟨o,a,c⟩)),(2,OF 3 elemT a),(3,OR 3 elemT [])]):=by
 refine .go Tryz.f214 ?_
 refine .bp [.r []] (decide ((a.length:Int)> 0)) (fun h0=> ?_) (fun h0=> ?_)
 ·
  refine .bp [.r [(9,X (Xf [(2,2)])),(10,X (rowC elemT a X0)),(11,X (rowC dstepT [({kind:=1,n:=0,attrs:=[],elems:=a}:DStep)] (Xap 4 dstepT 1 o [({kind:=1,n:=0,attrs:=[],elems:=a}:DStep)])))],.r []] (decide (c>0)) (fun h2=> ?_) (fun h2=> ?_)
  ·
   have e1:((flushD ⟨o,a,c⟩).length:Nat)=((o++[({kind:=1,n:=0,attrs:=[],elems:=a}:DStep)])++[({kind:=2,n:=c,attrs:=[],elems:=[]}:DStep)]).length:=by
    unfold flushD;simp only;(repeat (first|rw[if_pos (by omega)]|rw[if_neg (by omega)]));try simp
   have e2:((flushD ⟨o,a,c⟩):List DStep)=((o++[({kind:=1,n:=0,attrs:=[],elems:=a}:DStep)])++[({kind:=2,n:=c,attrs:=[],elems:=[]}:DStep)]):=by
    unfold flushD;simp only;(repeat (first|rw[if_pos (by omega)]|rw[if_neg (by omega)]));try simp
   exact .finE [.r [(9,X (Xf [(2,2),(3,3)])),(11,X (rowC dstepT [({kind:=2,n:=c,attrs:=[],elems:=[]}:DStep)] (Xap 4 dstepT 1 (o++[({kind:=1,n:=0,attrs:=[],elems:=a}:DStep)]) [({kind:=2,n:=c,attrs:=[],elems:=[]}:DStep)])))],.r [],.le (.nB 0 1 3)] [(0,0),(1,1),(2,2),(395,3)] (fun((z0,z1):Nat×(List DStep))=>(.tup [],[(0,.box [.row 1 z0,.row 3 0,VI 0]),(1,OR 4 dstepT z1),(2,OF 3 elemT a),(3,OR 3 elemT [])])) _ _ (pr e1 e2)
  ·
   have e3:((flushD ⟨o,a,c⟩).length:Nat)=(o++[({kind:=1,n:=0,attrs:=[],elems:=a}:DStep)]).length:=by
    unfold flushD;simp only;(repeat (first|rw[if_pos (by omega)]|rw[if_neg (by omega)]));try simp
   have e4:((flushD ⟨o,a,c⟩):List DStep)=(o++[({kind:=1,n:=0,attrs:=[],elems:=a}:DStep)]):=by
    unfold flushD;simp only;(repeat (first|rw[if_pos (by omega)]|rw[if_neg (by omega)]));try simp
   exact .finE [.r [],.le (.nB 0 1 3)] [(0,0),(1,1),(2,2),(275,3)] (fun((z0,z1):Nat×(List DStep))=>(.tup [],[(0,.box [.row 1 z0,.row 3 0,VI 0]),(1,OR 4 dstepT z1),(2,OF 3 elemT a),(3,OR 3 elemT [])])) _ _ (pr e3 e4)
 ·
  refine .bp [.r []] (decide (c>0)) (fun h2=> ?_) (fun h2=> ?_)
  ·
   have e5:((flushD ⟨o,a,c⟩).length:Nat)=(o++[({kind:=2,n:=c,attrs:=[],elems:=[]}:DStep)]).length:=by
    unfold flushD;simp only;(repeat (first|rw[if_pos (by omega)]|rw[if_neg (by omega)]));try simp
   have e6:((flushD ⟨o,a,c⟩):List DStep)=(o++[({kind:=2,n:=c,attrs:=[],elems:=[]}:DStep)]):=by
    unfold flushD;simp only;(repeat (first|rw[if_pos (by omega)]|rw[if_neg (by omega)]));try simp
   exact .finE [.r [(9,X (Xf [(2,2),(3,3)])),(11,X (rowC dstepT [({kind:=2,n:=c,attrs:=[],elems:=[]}:DStep)] (Xap 4 dstepT 1 o [({kind:=2,n:=c,attrs:=[],elems:=[]}:DStep)])))],.r [],.le (.nB 0 1 3),.le (.fz 2)] [(0,0),(1,1),(2,2),(275,3)] (fun((z0,z1):Nat×(List DStep))=>(.tup [],[(0,.box [.row 1 z0,.row 3 0,VI 0]),(1,OR 4 dstepT z1),(2,OF 3 elemT a),(3,OR 3 elemT [])])) _ _ (pr e5 e6)
  ·
   have e7:((flushD ⟨o,a,c⟩).length:Nat)=o.length:=by
    unfold flushD;simp only;(repeat (first|rw[if_pos (by omega)]|rw[if_neg (by omega)]));try simp
   have e8:((flushD ⟨o,a,c⟩):List DStep)=o:=by
    unfold flushD;simp only;(repeat (first|rw[if_pos (by omega)]|rw[if_neg (by omega)]));try simp
   exact .finE [.r [],.le (.nB 0 1 3),.le (.fz 2)] [(0,0),(1,1),(2,2),(155,3)] (fun((z0,z1):Nat×(List DStep))=>(.tup [],[(0,.box [.row 1 z0,.row 3 0,VI 0]),(1,OR 4 dstepT z1),(2,OF 3 elemT a),(3,OR 3 elemT [])])) _ _ (pr e7 e8)
theorem fc_dElems(o:List DStep)(a:List Elem)(c:Int)(e:List Elem)(hs:AN 400000000000 e)(ho:a.length+e.length≤100000000000):FC Tryz.prog 175 [.ptr 0 0,VL 3 elemT e] (app emp [(0,.box [.row 1 o.length,.row 2 a.length,VI c]),(1,OR 4 dstepT o),(2,OR 3 elemT a)]) (.tup []) (app emp [(0,.box [.row 1 o.length,.row 2 ((a++e).length),VI c]),(1,OR 4 dstepT o),(2,OR 3 elemT (a++e))]):=by
 refine .go Tryz.f175 ?_
 refine .len 1 (fun hl1=> ?_)
 exact .fin [.r [(6,X (Xc1 51 (fc_copy e (by omega) (by assumption)) X0)),(7,X (Xap 3 elemT 2 a e))]] [(0,0),(1,1),(2,2)]
theorem kbd{l:List DStep}(h:∀s∈l,0≤s.n∧s.n≤10000000000):∀s∈l,0≤s.n∧s.n≤1000000000000000000:=fun s hs=>by have:=h s hs;omega
theorem fc_dKeep(o:List DStep)(a:List Elem)(c:Int)(n:Int)(l:List Attr)(ho:o.length≤100000000000)(hl:l.length≤400000000000)(hn:1≤n∧n≤100000000000)(hk:∀s∈flushD ⟨o,a,c⟩,0≤s.n∧s.n≤1000000000000000000):FC Tryz.prog 176 [.ptr 0 0,VI n,VL 2 attrT l] (app emp [(0,.box [.row 1 o.length,.row 2 a.length,VI c]),(1,OR 4 dstepT o),(2,OR 3 elemT a)]) (.tup []) (app emp [(0,.box [.row 1 ((keepD (flushD ⟨o,a,c⟩) n l).length),.row 3 0,VI 0]),(1,OR 4 dstepT (keepD (flushD ⟨o,a,c⟩) n l)),(2,OF 3 elemT a),(3,OR 3 elemT [])]):=by
 refine .go Tryz.f176 ?_
 refine .len 2 (fun hl2=> ?_)
 have hfl:=flushD_len ⟨o,a,c⟩
 simp only at hfl
 refine .bp [.r []] (n==0) (fun h0=> ?_) (fun h0=> ?_)
 ·
  exfalso
  omega
 ·
  have hlast:=fun h:0< (flushD ⟨o,a,c⟩).length=>hk _ (lastD_mem h)
  refine .bp [.r [(1,X (Xc3 27 [(0,0),(1,1),(2,2)] (fc_dFlush o a c (by omega)) X0))],.r [(5,X (Xn (((flushD ⟨o,a,c⟩).length:Int)- 1)))],.r [(4,Xv 1 (decide ((((flushD ⟨o,a,c⟩).length:Int)- 1)≥0)) X0),(5,Xv 1 (decide ((((flushD ⟨o,a,c⟩).length:Int)- 1)≥0)) X0),(6,Xv 1 (decide ((((flushD ⟨o,a,c⟩).length:Int)- 1)≥0)) X0),(8,Xv 2 (decide ((((flushD ⟨o,a,c⟩).length:Int)- 1)≥0)) (Xp' dstepT 1 (flushD ⟨o,a,c⟩) (((flushD ⟨o,a,c⟩).length:Int)- 1) (((flushD ⟨o,a,c⟩).length)- 1))),(9,Xv 1 (decide ((((flushD ⟨o,a,c⟩).length:Int)- 1)≥0)) X0),(10,Xv 1 (decide ((((flushD ⟨o,a,c⟩).length:Int)- 1)≥0)) (Xe dstepT (flushD ⟨o,a,c⟩) (((flushD ⟨o,a,c⟩).length)- 1))),(11,Xv 1 (decide ((((flushD ⟨o,a,c⟩).length:Int)- 1)≥0)) X0),(12,X (Xk (decide ((((flushD ⟨o,a,c⟩).length:Int)- 1)≥0)))),(15,Xv 1 (decide ((((flushD ⟨o,a,c⟩).length:Int)- 1)≥0)&&(((((flushD ⟨o,a,c⟩).getD (((flushD ⟨o,a,c⟩).length)- 1) default)).kind)==0)) X0),(16,Xv 1 (decide ((((flushD ⟨o,a,c⟩).length:Int)- 1)≥0)&&(((((flushD ⟨o,a,c⟩).getD (((flushD ⟨o,a,c⟩).length)- 1) default)).kind)==0)) X0),(17,Xv 1 (decide ((((flushD ⟨o,a,c⟩).length:Int)- 1)≥0)&&(((((flushD ⟨o,a,c⟩).getD (((flushD ⟨o,a,c⟩).length)- 1) default)).kind)==0)) X0),(19,Xv 2 (decide ((((flushD ⟨o,a,c⟩).length:Int)- 1)≥0)&&(((((flushD ⟨o,a,c⟩).getD (((flushD ⟨o,a,c⟩).length)- 1) default)).kind)==0)) (Xp' dstepT 1 (flushD ⟨o,a,c⟩) (((flushD ⟨o,a,c⟩).length:Int)- 1) (((flushD ⟨o,a,c⟩).length)- 1))),(20,Xv 1 (decide ((((flushD ⟨o,a,c⟩).length:Int)- 1)≥0)&&(((((flushD ⟨o,a,c⟩).getD (((flushD ⟨o,a,c⟩).length)- 1) default)).kind)==0)) X0),(21,Xv 1 (decide ((((flushD ⟨o,a,c⟩).length:Int)- 1)≥0)&&(((((flushD ⟨o,a,c⟩).getD (((flushD ⟨o,a,c⟩).length)- 1) default)).kind)==0)) (Xe dstepT (flushD ⟨o,a,c⟩) (((flushD ⟨o,a,c⟩).length)- 1))),(23,Xv 2 (decide ((((flushD ⟨o,a,c⟩).length:Int)- 1)≥0)&&(((((flushD ⟨o,a,c⟩).getD (((flushD ⟨o,a,c⟩).length)- 1) default)).kind)==0)) (Xc0 (fc_attrSame ((((flushD ⟨o,a,c⟩).getD (((flushD ⟨o,a,c⟩).length)- 1) default)).attrs) l) X0)),(24,X (Xk (decide ((((flushD ⟨o,a,c⟩).length:Int)- 1)≥0)&&(((((flushD ⟨o,a,c⟩).getD (((flushD ⟨o,a,c⟩).length)- 1) default)).kind)==0))))]] ((decide ((((flushD ⟨o,a,c⟩).length:Int)- 1)≥0)&&(((((flushD ⟨o,a,c⟩).getD (((flushD ⟨o,a,c⟩).length)- 1) default)).kind)==0))&&(sameL ((((flushD ⟨o,a,c⟩).getD (((flushD ⟨o,a,c⟩).length)- 1) default)).attrs) l)) (fun h3=> ?_) (fun h3=> ?_)
  ·
   have e1:((keepD (flushD ⟨o,a,c⟩) n l).length:Nat)=(flushD ⟨o,a,c⟩).length:=by
    unfold keepD;((repeat' split)<;>first|rfl|omega| (simp_all;done)| (simp_all;omega))
   have e2:((keepD (flushD ⟨o,a,c⟩) n l):List DStep)=((flushD ⟨o,a,c⟩).set (((flushD ⟨o,a,c⟩).length)- 1) ({kind:=(((flushD ⟨o,a,c⟩).getD (((flushD ⟨o,a,c⟩).length)- 1) default)).kind,n:=(((((flushD ⟨o,a,c⟩).getD (((flushD ⟨o,a,c⟩).length)- 1) default)).n)+n),attrs:=(((flushD ⟨o,a,c⟩).getD (((flushD ⟨o,a,c⟩).length)- 1) default)).attrs,elems:=(((flushD ⟨o,a,c⟩).getD (((flushD ⟨o,a,c⟩).length)- 1) default)).elems}:DStep)):=by
    unfold keepD;((repeat' split)<;>first|rfl|omega| (simp_all;done)| (simp_all;omega))
   exact .finE [.r [(5,X (Xp' dstepT 1 (flushD ⟨o,a,c⟩) (((flushD ⟨o,a,c⟩).length:Int)- 1) (((flushD ⟨o,a,c⟩).length)- 1))),(7,X (Xe dstepT (flushD ⟨o,a,c⟩) (((flushD ⟨o,a,c⟩).length)- 1))),(9,X (Xn (((((flushD ⟨o,a,c⟩).getD (((flushD ⟨o,a,c⟩).length)- 1) default)).n)+n))),(10,X (Xp' dstepT 1 (flushD ⟨o,a,c⟩) (((flushD ⟨o,a,c⟩).length:Int)- 1) (((flushD ⟨o,a,c⟩).length)- 1))),(12,X (Xs 4 dstepT 1 (flushD ⟨o,a,c⟩) (((flushD ⟨o,a,c⟩).length)- 1) ({kind:=(((flushD ⟨o,a,c⟩).getD (((flushD ⟨o,a,c⟩).length)- 1) default)).kind,n:=(((((flushD ⟨o,a,c⟩).getD (((flushD ⟨o,a,c⟩).length)- 1) default)).n)+n),attrs:=(((flushD ⟨o,a,c⟩).getD (((flushD ⟨o,a,c⟩).length)- 1) default)).attrs,elems:=(((flushD ⟨o,a,c⟩).getD (((flushD ⟨o,a,c⟩).length)- 1) default)).elems}:DStep)))]] [(0,0),(1,1),(2,2),(27,3)] (fun((z0,z1):Nat×(List DStep))=>(.tup [],[(0,.box [.row 1 z0,.row 3 0,VI 0]),(1,OR 4 dstepT z1),(2,OF 3 elemT a),(3,OR 3 elemT [])])) _ _ (pr e1 e2)
  ·
   have e3:((keepD (flushD ⟨o,a,c⟩) n l).length:Nat)=((flushD ⟨o,a,c⟩)++[({kind:=0,n:=n,attrs:=l,elems:=[]}:DStep)]).length:=by
    unfold keepD;((repeat' split)<;>first|rfl|omega| (simp_all;done)| (simp_all;omega))
   have e4:((keepD (flushD ⟨o,a,c⟩) n l):List DStep)=((flushD ⟨o,a,c⟩)++[({kind:=0,n:=n,attrs:=l,elems:=[]}:DStep)]):=by
    unfold keepD;((repeat' split)<;>first|rfl|omega| (simp_all;done)| (simp_all;omega))
   exact .finE [.r [(7,X (Xan attrT 347 l)),(8,X (Xf [(3,3)])),(9,X (rowC attrT l X0)),(10,X (rowC dstepT [({kind:=0,n:=n,attrs:=l,elems:=[]}:DStep)] (Xap 4 dstepT 1 (flushD ⟨o,a,c⟩) [({kind:=0,n:=n,attrs:=l,elems:=[]}:DStep)])))]] [(0,0),(1,1),(2,2),(27,3)] (fun((z0,z1):Nat×(List DStep))=>(.tup [],[(0,.box [.row 1 z0,.row 3 0,VI 0]),(1,OR 4 dstepT z1),(2,OF 3 elemT a),(3,OR 3 elemT [])])) _ _ (pr e3 e4)
theorem fc_dDone(o:List DStep)(a:List Elem)(c:Int)(ho:o.length≤100000000000)(hc:checkD (flushD ⟨o,a,c⟩)=0)(hd:DN 400000000000 (flushD ⟨o,a,c⟩)):FC Tryz.prog 178 [.ptr 0 0] (app emp [(0,.box [.row 1 o.length,.row 2 a.length,VI c]),(1,OR 4 dstepT o),(2,OR 3 elemT a)]) (.tup [.row 1 ((flushD ⟨o,a,c⟩).length),VI 0]) (app emp [(0,.box [.row 1 ((flushD ⟨o,a,c⟩).length),.row 3 0,VI 0]),(1,OR 4 dstepT (flushD ⟨o,a,c⟩)),(2,OF 3 elemT a),(3,OR 3 elemT [])]):=by
 refine .go Tryz.f178 ?_
 refine .bp [.r [],.r [(1,X (Xc3 27 [(0,0),(1,1),(2,2)] (fc_dFlush o a c (by omega)) X0))],.r [(4,X (Xc0 (fc_dCheck (flushD ⟨o,a,c⟩) (by assumption)) (rowC dstepT (flushD ⟨o,a,c⟩) X0)))]] ((checkD (flushD ⟨o,a,c⟩)) !=0) (fun h2=> ?_) (fun h2=> ?_)
 ·
  exfalso
  omega
 ·
  exact .fin [.r []] [(0,0),(1,1),(2,2),(27,3)]
end Go.Ch
end
section
set_option linter.unusedVariables false
set_option linter.unusedSimpArgs false
namespace Go.Ch
open Go Go.Ab
def putU(w:DWr):DU→DWr
 | .K c=>⟨keepD (flushD w) 1 c,[],0⟩
 | .A e=>⟨w.out,w.add++[e],w.cut⟩
 | .C=>⟨w.out,w.add,w.cut+1⟩
def foldD(w:DWr):List DU→DWr
 | []=>w
 |u::us=>foldD (putU w u) us
theorem foldD_As(e:List Elem)(us:List DU):∀w:DWr,foldD w (e.map .A++us)=foldD ⟨w.out,w.add++e,w.cut⟩ us:=by
 induction e with
 |nil=>intro w;simp
 |cons x e ih=>intro w;simp only[List.map_cons,List.cons_append,foldD,putU];rw[ih];simp
theorem foldD_Cs(n:Nat)(us:List DU):∀w:DWr,foldD w (List.replicate n .C++us)=foldD ⟨w.out,w.add,w.cut+n⟩ us:=by
 induction n with
 |zero=>intro w;simp
 |succ n ih=>intro w;simp only[List.replicate_succ,List.cons_append,foldD,putU];rw[ih];simp only;rw[show w.cut+1+(n:Int)=w.cut+((n+1:Nat):Int) by omega]
theorem flushD_nil(l:List DStep):flushD ⟨l,[],0⟩=l:=by simp[flushD]
theorem keepD_keepD{l:List DStep}{m n:Int}{c:List Attr}:keepD (keepD l m c) n c=keepD l (m+n) c:=by
 unfold keepD
 by_cases h:0<l.length∧(l.getD (l.length- 1) default).kind=0∧sameL (l.getD (l.length- 1) default).attrs c=true
 ·rw[if_pos h,if_pos h,setD h.1,setD h.1]
  generalize l.getD (l.length- 1) default=x at*
  have e:∀y:DStep,(List.take (l.length- 1) l++[y]).getD ((List.take (l.length- 1) l++[y]).length- 1) default=y:=fun y=>by simp
  rw[e,if_pos ⟨by simp,h.2.1,h.2.2⟩,setD (by simp)]
  have t:∀y:DStep,(List.take (l.length- 1) l++[y]).take ((List.take (l.length- 1) l++[y]).length- 1)=List.take (l.length- 1) l:=fun y=>by simp
  rw[t,Int.add_assoc]
 ·rw[if_neg h,if_neg h]
  have e:∀y:DStep,(l++[y]).getD ((l++[y]).length- 1) default=y:=fun y=>by simp
  rw[e,if_pos ⟨by simp,rfl,sameL_self c⟩,setD (by simp)]
  simp
theorem foldD_Ks(c:List Attr)(us:List DU):∀(n:Nat) (w:DWr),foldD w (List.replicate (n+1) (.K c)++us)=foldD ⟨keepD (flushD w) ((n+1:Nat):Int) c,[],0⟩ us
 |0,w=>by simp[foldD,putU]
 |n+1,w=>by
  rw[List.replicate_succ,List.cons_append,foldD,foldD_Ks c us n]
  simp only[putU]
  rw[flushD_nil,keepD_keepD,show(1:Int)+((n+1:Nat):Int)=((n+1+1:Nat):Int) by omega]
def UnitOk:DU→Prop
 | .K c=>VG true c∧c.length≤400000000000
 | .A e=>elemE e=0∧e.attrs.length≤400000000000
 | .C=>True
structure WBd(w:DWr):Prop where
 out:DN 400000000000 w.out
 add:AN 400000000000 w.add
theorem WBd.flush{w:DWr}(h:WBd w)(hl:w.add.length≤400000000000):DN 400000000000 (flushD w):=by
 intro s hs
 unfold flushD at hs
 simp only[List.mem_append] at hs
 rcases hs with(hs|hs)|hs
 ·exact h.out s hs
 ·split at hs
  ·rw[List.mem_singleton] at hs;subst hs;exact⟨hl,by simp,h.add⟩
  ·cases hs
 ·split at hs
  ·rw[List.mem_singleton] at hs;subst hs;exact⟨by simp,by simp,fun x hx=>by cases hx⟩
  ·cases hs
theorem WBd.keep{w:DWr}{n:Int}{c:List Attr}(h:WBd w)(hl:w.add.length≤400000000000)(hc:c.length≤400000000000):WBd ⟨keepD (flushD w) n c,[],0⟩:=by
 have hf:=h.flush hl
 refine⟨fun s hs=> ?_,fun x hx=>by cases hx⟩
 simp only at hs
 unfold keepD at hs
 split at hs
 ·rename_i q
  rw[setD q.1,List.mem_append] at hs
  rcases hs with hs|hs
  ·exact hf s (List.mem_of_mem_take hs)
  ·rw[List.mem_singleton] at hs;subst hs
   have:=hf _ (lastD_mem q.1)
   exact this
 ·rw[List.mem_append] at hs
  rcases hs with hs|hs
  ·exact hf s hs
  ·rw[List.mem_singleton] at hs;subst hs;exact⟨by simp,hc,fun x hx=>by cases hx⟩
theorem exS_len{s:DStep}(h:DOkW s):1≤(exS s).length∧(s.kind≠1→s.n≤(exS s).length)∧0≤s.n∧(s.kind=1→s.n=0):=by
 unfold exS
 rcases h with⟨k,n,a,e,_⟩| ⟨k,_,_,n1,_⟩
 ·rw[if_pos k,List.length_map]
  have:0<s.elems.length:=List.length_pos_iff.2 e
  exact⟨this,fun q=>absurd k q,by omega,fun _=>n⟩
 ·have k1:¬s.kind=1:=by omega
  rw[if_neg k1]
  refine⟨?_,fun _=> ?_,by omega,fun q=>absurd q k1⟩<;>split<;>simp<;>omega
theorem exD_len:∀{l:List DStep},(∀s∈l,DOkW s)→l.length≤(exD l).length∧∀s∈l,0≤s.n∧s.n≤((exD l).length:Int)
 | [],_=>⟨Nat.le_refl _,fun s hs=>by cases hs⟩
 |s::l,h=>by
  have h1:=exS_len (h s (by simp))
  have h2:=exD_len (l:=l) (fun t ht=>h t (by simp[ht]))
  simp only[exD,List.length_append,List.length_cons]
  refine⟨by omega,fun t ht=> ?_⟩
  rcases List.mem_cons.1 ht with rfl|ht
  ·refine⟨h1.2.2.1,?_⟩
   by_cases k:t.kind=1
   ·have:=h1.2.2.2 k;omega
   ·have:=h1.2.1 k;omega
  ·have:=h2.2 t ht;omega
structure DI(w:DWr)(us:List DU)(T:Nat)(G:DWr):Prop where
 good:GoodD w
 wb:WBd w
 units:∀u∈us,UnitOk u
 len:(exDW w).length+us.length=T
 small:T≤8589934592
 eq:foldD w us=G
variable {w G:DWr} {us:List DU} {T:Nat}
theorem DI.bd(h:DI w us T G):w.out.length≤T∧w.add.length≤T∧0≤w.cut∧w.cut≤T∧us.length≤T∧T≤8589934592∧w.add.length+us.length≤T∧w.cut+us.length≤T:=by
 have h1:=(exD_len h.good.ok).1
 have h2:=h.good.cut
 have h3:=h.len
 have h4:=h.small
 unfold exDW at h3
 simp only[List.length_append,List.length_replicate,List.length_map] at h3
 omega
theorem DI.fl(h:DI w us T G):(∀s∈flushD w,0≤s.n∧s.n≤10000000000)∧DN 400000000000 (flushD w):=by
 have hb:=h.bd
 refine⟨fun s hs=> ?_,h.wb.flush (by omega)⟩
 have h1:=(exD_len (flushD_ok h.good).1).2 s hs
 rw[flushD_ex h.good] at h1
 have h3:=h.len
 omega
theorem DI.keep{n:Nat}{c:List Attr}(h:DI w (List.replicate (n+1) (.K c)++us) T G):DI ⟨keepD (flushD w) ((n+1:Nat):Int) c,[],0⟩ us T G:=by
 have hu:=h.units (.K c) (by rw[List.replicate_succ];simp)
 have hb:=h.bd
 obtain⟨g1,g2⟩:=h.good.keep (n:=((n+1:Nat):Int)) (by omega) hu.1
 refine⟨g1,h.wb.keep (by omega) hu.2,fun u hu=>h.units u (by simp[hu]),?_,h.small,?_⟩
 ·have h3:=h.len
  rw[g2]
  simp only[List.length_append,List.length_replicate] at h3⊢
  omega
 ·rw[←h.eq,foldD_Ks]
theorem dsw_len{u v:List DU}(h:DSw u v):u.length=v.length:=by
 induction h with
 |refl u=>rfl
 |cons x _ ih=>simp[ih]
 |swap e u=>rfl
 |symm _ ih=>exact ih.symm
 |trans _ _ a b=>exact a.trans b
theorem DI.elems{e:List Elem}(h:DI w (e.map .A++us) T G):DI ⟨w.out,w.add++e,w.cut⟩ us T G:=by
 have hu:∀x∈e,UnitOk (.A x):=fun x hx=>h.units (.A x) (by simp[hx])
 obtain⟨g1,g2⟩:=h.good.elems (e:=e) (fun x hx=>(hu x hx).1)
 refine⟨g1,⟨h.wb.out,fun x hx=> ?_⟩,fun u hu=>h.units u (by simp[hu]),?_,h.small,?_⟩
 ·rcases List.mem_append.1 hx with hx|hx
  ·exact h.wb.add x hx
  ·exact(hu x hx).2
 ·have h3:=h.len
  rw[dsw_len g2]
  simp only[List.length_append,List.length_map] at h3⊢
  omega
 ·rw[←h.eq,foldD_As]
theorem DI.cuts{n:Nat}(h:DI w (List.replicate n .C++us) T G):DI ⟨w.out,w.add,w.cut+n⟩ us T G:=by
 obtain⟨g1,g2⟩:=h.good.cuts (n:=(n:Int)) (by omega)
 refine⟨g1,⟨h.wb.out,h.wb.add⟩,fun u hu=>h.units u (by simp[hu]),?_,h.small,?_⟩
 ·have h3:=h.len
  rw[g2]
  simp only[List.length_append,List.length_replicate] at h3⊢
  omega
 ·rw[←h.eq,foldD_Cs]
theorem DI.done(h:DI w [] T G):w=G:=h.eq
def doneD(us:List DU):List DStep:=flushD (foldD ⟨[],[],0⟩ us)
theorem DI.start(h:∀u∈us,UnitOk u)(hs:us.length≤8589934592):DI ⟨[],[],0⟩ us us.length (foldD ⟨[],[],0⟩ us):=
 ⟨goodD0,⟨fun s h=>(by cases h),fun x h=>(by cases h)⟩,h,by simp[exDW,exD],hs,rfl⟩
theorem foldD_ok:∀(us:List DU) (w:DWr),GoodD w→(∀u∈us,UnitOk u)→GoodD (foldD w us)∧DSw (exDW (foldD w us)) (exDW w++us)
 | [],w,h,_=>⟨h,by simp only[foldD,List.append_nil];exact .refl _⟩
 |u::us,w,h,hu=>by
  have h0:=hu u (by simp)
  have hp:GoodD (putU w u)∧DSw (exDW (putU w u)) (exDW w++[u]):=by
   cases u with
   |K c=>
    obtain⟨g1,g2⟩:=h.keep (n:=1) (by decide) h0.1
    exact⟨g1,by simp only[putU];rw[g2];exact .refl _⟩
   |A e=>
    obtain⟨g1,g2⟩:=h.elems (e:=[e]) (fun x hx=>by rw[List.mem_singleton] at hx;subst hx;exact h0.1)
    exact⟨g1,g2⟩
   |C=>
    obtain⟨g1,g2⟩:=h.cuts (n:=1) (by decide)
    exact⟨g1,by simp only[putU];rw[g2];exact .refl _⟩
  obtain⟨q1,q2⟩:=foldD_ok us (putU w u) hp.1 (fun v hv=>hu v (by simp[hv]))
  refine⟨q1,.trans q2 ?_⟩
  have:=hp.2.right us
  simpa using this
theorem doneD_ok(h:∀u∈us,UnitOk u)(h1:oldN us≤2147483647)(h2:newN us≤2147483647):
 DValid (doneD us)∧DSw (exD (doneD us)) us∧oldD (doneD us)=oldN us∧newD (doneD us)=newN us:=by
 obtain⟨q1,q2⟩:=foldD_ok us ⟨[],[],0⟩ goodD0 h
 exact q1.valid (by simpa[exDW,exD] using q2) h1 h2
theorem len_sum(us:List DU):us.length≤oldN us+newN us:=by
 induction us with
 |nil=>simp[oldN]
 |cons u us ih=>cases u<;>simp[oldN,newN]<;>omega
end Go.Ch
end
section
set_option linter.unusedVariables false
set_option linter.unusedSimpArgs false
namespace Go.Ch
open Go Go.Ab
theorem fm_len'(g:Attr→Attr→Option Attr)(a b:List Attr):(fm g a b).length≤a.length+b.length:=by
 unfold fm
 exact Nat.le_trans (List.length_filterMap_le _ _) (bothL_len a b)
def KOk(us:List DU):Prop:=(∀c,DU.K c∈us→VG true c∧c.length≤100000000000)∧(∀e,DU.A e∈us→elemE e=0∧e.attrs.length≤100000000000)
def EOk(r:List Elem):Prop:=∀x∈r,elemE x=0∧x.attrs.length≤100000000000
theorem KOk.tail{u:DU}{us:List DU}(h:KOk (u::us)):KOk us:=⟨fun c hc=>h.1 c (by simp[hc]),fun e he=>h.2 e (by simp[he])⟩
theorem EOk.tail{x:Elem}{r:List Elem}(h:EOk (x::r)):EOk r:=fun y hy=>h y (by simp[hy])
theorem applyU_len:∀(us:List DU) (r:List Elem),oldN us=r.length→(applyU us r).length=newN us
 | [],r,h=>by simp[applyU,newN]
 | .A e::us,r,h=>by
  have:=applyU_len us r (by simpa[oldN] using h)
  simp[applyU,newN,this]
 | .K c::us,[],h=>by simp[oldN] at h
 | .C::us,[],h=>by simp[oldN] at h
 | .K c::us,x::r,h=>by
  have:=applyU_len us r (by simpa[oldN] using h)
  simp[applyU,newN,this]
 | .C::us,x::r,h=>by
  have:=applyU_len us r (by simpa[oldN] using h)
  simp[applyU,newN,this]
theorem chgE_ok{x:Elem}{c:List Attr}(h:elemE x=0)(hc:VG true c):elemE (chgE c x)=0:=by
 have v:=raw_V np_mt (elem_ok h) hc
 unfold elemE at h⊢
 unfold chgE
 simp only
 split at h
 ·omega
 ·rename_i q1
  rw[if_neg q1]
  split at h
  ·omega
  ·rename_i q2
   rw[if_neg q2]
   exact chk_iff.2 v
theorem exD_K{l:List DStep}(h:∀s∈l,DOk s)(hd:DN 100000000000 l):KOk (exD l):=by
 induction l with
 |nil=>exact⟨fun c hc=>by simp[exD] at hc,fun c hc=>by simp[exD] at hc⟩
 |cons s l ih=>
  obtain⟨i1,i2⟩:=ih (fun t ht=>h t (by simp[ht])) (fun t ht=>hd t (by simp[ht]))
  have hs:=h s (by simp)
  obtain⟨b1,b2,b3⟩:=hd s (by simp)
  refine⟨fun c hc=> ?_,fun e he=> ?_⟩
  ·simp only[exD,List.mem_append] at hc
   rcases hc with hc|hc
   ·unfold exS at hc
    rcases hs with⟨k,_⟩| ⟨k,_,_,_,_,v⟩
    ·rw[if_pos k] at hc;simp at hc
    ·rw[if_neg (by omega)] at hc
     split at hc
     ·simp[List.mem_replicate] at hc
     ·have:=List.eq_of_mem_replicate hc
      cases this
      exact⟨v,b2⟩
   ·exact i1 c hc
  ·simp only[exD,List.mem_append] at he
   rcases he with he|he
   ·unfold exS at he
    rcases hs with⟨k,_,_,_,q⟩| ⟨k,_⟩
    ·rw[if_pos k,List.mem_map] at he
     obtain⟨x,hx,e1⟩:=he
     cases e1
     exact⟨q _ hx,b3 _ hx⟩
    ·rw[if_neg (by omega)] at he
     split at he
     ·simp[List.mem_replicate] at he
     ·simp[List.mem_replicate] at he
   ·exact i2 e he
theorem okU_of{us:List DU}(h:KOk us):UOk us:=by
 induction us with
 |nil=>trivial
 |cons u us ih=>
  cases u with
  |K c=>exact⟨(h.1 c (by simp)).1,ih h.tail⟩
  |A e=>exact ih h.tail
  |C=>exact ih h.tail
variable {w G:DWr} {us:List DU} {T:Nat}
theorem DN.mono{m n:Nat}{l:List DStep}(h:DN m l)(hm:m≤n):DN n l:=fun s hs=>⟨Nat.le_trans (h s hs).1 hm,Nat.le_trans (h s hs).2.1 hm,fun x hx=>Nat.le_trans ((h s hs).2.2 x hx) hm⟩
end Go.Ch
end
section
set_option linter.unusedVariables false
set_option linter.unusedSimpArgs false
namespace Go.Ch
open Go Go.Ab
def boolT(b:Bool):Tree:= .sc (.bool b)
structure Act where
 ins:List (List Elem)
 cut:List Bool
 set:List (List Attr)
variable {w G:DWr} {us:List DU} {T:Nat}
theorem DI.keep1{c:List Attr}(h:DI w (.K c::us) T G):DI ⟨keepD (flushD w) 1 c,[],0⟩ us T G:=DI.keep (n:=0) h
theorem DI.cut1(h:DI w (.C::us) T G):DI ⟨w.out,w.add,w.cut+1⟩ us T G:=DI.cuts (n:=1) h
end Go.Ch
end
section

end
section

end
section
set_option linter.unusedVariables false
set_option linter.unusedSimpArgs false
namespace Go.Ch
open Go Go.Ab
def onB:ByteArray:={data:=#[111,110]}
def UnitS:DU→Prop
 | .K c=>VG true c∧c.length≤100
 | .A e=>elemE e=0∧e.attrs.length≤100
 | .C=>True
theorem UnitS.ok{u:DU}(h:UnitS u):UnitOk u:=by
 cases u with
 |K c=>exact⟨h.1,by have:=h.2;omega⟩
 |A e=>exact⟨h.1,by have:=h.2;omega⟩
 |C=>trivial
theorem getD_mem'{α:Type}[Inhabited α]{l:List α}{k:Nat}(h:k<l.length):l.getD k default∈l:=by
 rw[show l.getD k default=l[k] by simp[List.getD,List.getElem?_eq_getElem h]]
 exact List.getElem_mem h
theorem dsw_mem{u v:List DU}(h:DSw u v):∀x,x∈u↔x∈v:=by
 induction h with
 |refl u=>exact fun x=>Iff.rfl
 |cons y _ ih=>intro x;simp[ih x]
 |swap e u=>intro x;simp only[List.mem_cons];constructor<;>rintro(h|h|h)<;>simp[h]
 |symm _ ih=>exact fun x=>(ih x).symm
 |trans _ _ a b=>exact fun x=>(a x).trans (b x)
theorem exD_mem{l:List DStep}{s:DStep}(h:s∈l){u:DU}(hu:u∈exS s):u∈exD l:=by
 induction l with
 |nil=>cases h
 |cons t l ih=>
  simp only[exD,List.mem_append]
  rcases List.mem_cons.1 h with rfl|h
  ·exact .inl hu
  ·exact .inr (ih h)
theorem newD_mem:∀{l:List DStep},(∀s∈l,DOk s)→∀s∈l,nS s≤newD l
 | [],_,s,h=>by cases h
 |t::l,h,s,hs=>by
  have h1:=oS_nn (h t (by simp))
  have h2:=sums_nn (l:=l) (fun t ht=>h t (by simp[ht]))
  simp only[newD]
  rcases List.mem_cons.1 hs with rfl|hs
  ·omega
  ·have:=newD_mem (l:=l) (fun t ht=>h t (by simp[ht])) s hs;omega
theorem dn_of{l:List DStep}{us:List DU}(hv:DValid l)(hs:DSw (exD l) us)(hu:∀u∈us,UnitS u):DN 100000000000 l:=by
 intro s hs'
 have ho:=hv.1.all s hs'
 have hn:=newD_mem hv.1.all s hs'
 have v2:=hv.2.2
 have hm:=fun u hu'=>hu u ((dsw_mem hs u).1 (exD_mem hs' (u:=u) hu'))
 unfold exS at hm
 unfold nS szD at hn
 rcases ho with⟨k,n,a,e,q⟩| ⟨k,a,b,n1,n2,v⟩
 ·rw[if_neg (by omega),if_pos k] at hn
  rw[if_pos k] at hm
  refine⟨by omega,by rw[a];simp,fun x hx=> ?_⟩
  have:=(hm (.A x) (List.mem_map.2 ⟨x,hx,rfl⟩)).2
  omega
 ·rw[if_neg (by omega)] at hm
  refine⟨by rw[a];simp,?_,fun x hx=>by rw[a] at hx;cases hx⟩
  by_cases k2:s.kind=2
  ·rw[b k2];simp
  ·rw[if_neg k2] at hm
   have:=(hm (.K s.attrs) (by rw[List.mem_replicate];exact⟨by omega,rfl⟩)).2
   omega
end Go.Ch
end
section
set_option linter.unusedVariables false
set_option linter.unusedSimpArgs false
namespace Go.Ch
open Go Go.Ab
variable {w G:DWr} {us:List DU} {T:Nat}
theorem DI.all:∀{us:List DU} {w:DWr},DI w us T G→DI G [] T G
 | [],w,h=>by have:=h.done;subst this;exact h
 | .K c::us,w,h=>DI.all h.keep1
 | .A e::us,w,h=>DI.all (DI.elems (e:=[e]) h)
 | .C::us,w,h=>DI.all h.cut1
theorem doneD_dn(hu:∀u∈us,UnitOk u)(hs:us.length≤8589934592):DN 400000000000 (doneD us):=(DI.start hu hs).all.fl.2
end Go.Ch
end
section
set_option linter.unusedVariables false
set_option linter.unusedSimpArgs false
namespace Go.Ch
open Go Go.Ab
def joinDU:List DU→List DU→List DU
 | .C::p,q=> .C::joinDU p q
 |p,.A e::q=> .A e::joinDU p q
 | .K c::p,.K d::q=> .K (fm botG c d)::joinDU p q
 | .K _::p,.C::q=> .C::joinDU p q
 | .A e::p,.K d::q=> .A (chgE d e)::joinDU p q
 | .A _::p,.C::q=>joinDU p q
 |p,[]=>p
 | [],_=>[]
termination_by p q=>p.length+q.length
end Go.Ch
end
section
set_option linter.unusedVariables false
set_option linter.unusedSimpArgs false
namespace Go.Ch
open Go Go.Ab
theorem raw_nil:∀l:List Attr,fm rawG l []=l
 | []=>by simp[fm,bothL]
 |x::l=>by
  have ih:=raw_nil l
  unfold fm at ih⊢
  rw[bothL,fm_cons,ih]
  have:rawG x default=some x:=by unfold rawG;rw[if_pos (show(default:Attr).name=mt from rfl)]
  rw[this];rfl
theorem chgE_nil(x:Elem):chgE [] x=x:=by unfold chgE;rw[raw_nil]
def pairDU:List DU→List DU→List DU×List DU
 | .A e::p,q=>(.A e::(pairDU p q).1,.K []::(pairDU p q).2)
 | [],.A e::q=>(.K []::(pairDU [] q).1,.A e::(pairDU [] q).2)
 | .K c::p,.A e::q=>(.K []::(pairDU (.K c::p) q).1,.A e::(pairDU (.K c::p) q).2)
 | .C::p,.A e::q=>(.K []::(pairDU (.C::p) q).1,.A e::(pairDU (.C::p) q).2)
 | .K c::p,.K d::q=>(.K (fm wioG c d)::(pairDU p q).1,.K d::(pairDU p q).2)
 | .K _::p,.C::q=>((pairDU p q).1,.C::(pairDU p q).2)
 | .C::p,.K _::q=>(.C::(pairDU p q).1,(pairDU p q).2)
 | .C::p,.C::q=>pairDU p q
 |_,[]=>([],[])
 | [],_=>([],[])
termination_by p q=>p.length+q.length
theorem chgE_pair{x:Elem}{c d:List Attr}(hx:VG false x.attrs)(hc:VG true c)(hd:VG true d):chgE d (chgE c x)=chgE (fm wioG c d) (chgE d x):=by
 unfold chgE
 simp only
 rw[pair_meets np_mt hx hc hd]
theorem pairDU_meets:∀(n:Nat) (p q:List DU) (l:List Elem),p.length+q.length≤n→oldN p=l.length→oldN q=l.length→UOk p→UOk q→(∀x∈l,VG false x.attrs)→
 applyU (pairDU p q).2 (applyU p l)=applyU (pairDU p q).1 (applyU q l)∧
 oldN (pairDU p q).2=newN p∧oldN (pairDU p q).1=newN q∧newN (pairDU p q).1=newN (pairDU p q).2
 |n,.A e::p,q,l,hn,ho,hm,hp,hq,hl=>by
  simp only[List.length_cons] at hn
  obtain⟨n,rfl⟩:∃k,n=k+1:=⟨n- 1,by omega⟩
  obtain⟨i1,i2,i3,i4⟩:=pairDU_meets n p q l (by omega) (by simpa[oldN] using ho) hm hp hq hl
  rw[pairDU]
  simp only[applyU,chgE_nil,oldN,newN]
  exact⟨by rw[i1],by omega,by omega,by omega⟩
 |n,[],.A e::q,l,hn,ho,hm,hp,hq,hl=>by
  simp only[List.length_cons] at hn
  obtain⟨n,rfl⟩:∃k,n=k+1:=⟨n- 1,by omega⟩
  obtain⟨i1,i2,i3,i4⟩:=pairDU_meets n [] q l (by simp only[List.length_nil] at hn⊢;omega) ho (by simpa[oldN] using hm) hp hq hl
  rw[pairDU]
  simp only[applyU,chgE_nil,oldN,newN] at i1 i2 i3 i4⊢
  exact⟨by rw[i1],by omega,by omega,by omega⟩
 |n,.K c::p,.A e::q,l,hn,ho,hm,hp,hq,hl=>by
  simp only[List.length_cons] at hn
  obtain⟨n,rfl⟩:∃k,n=k+1:=⟨n- 1,by omega⟩
  obtain⟨i1,i2,i3,i4⟩:=pairDU_meets n (.K c::p) q l (by simp only[List.length_cons];omega) ho (by simpa[oldN] using hm) hp hq hl
  rw[pairDU]
  rw[show applyU (.A e::q) l=e::applyU q l by simp[applyU]]
  rw[applyU,applyU,i1,chgE_nil]
  exact⟨rfl,i2,by simp only[oldN,newN];omega,by simp only[newN];omega⟩
 |n,.C::p,.A e::q,l,hn,ho,hm,hp,hq,hl=>by
  simp only[List.length_cons] at hn
  obtain⟨n,rfl⟩:∃k,n=k+1:=⟨n- 1,by omega⟩
  obtain⟨i1,i2,i3,i4⟩:=pairDU_meets n (.C::p) q l (by simp only[List.length_cons];omega) ho (by simpa[oldN] using hm) hp hq hl
  rw[pairDU]
  rw[show applyU (.A e::q) l=e::applyU q l by simp[applyU]]
  rw[applyU,applyU,i1,chgE_nil]
  exact⟨rfl,i2,by simp only[oldN,newN];omega,by simp only[newN];omega⟩
 |n,.K c::p,.K d::q,[],hn,ho,hm,hp,hq,hl=>by simp[oldN] at ho
 |n,.K c::p,.K d::q,x::l,hn,ho,hm,hp,hq,hl=>by
  simp only[List.length_cons] at hn
  obtain⟨n,rfl⟩:∃k,n=k+1:=⟨n- 1,by omega⟩
  obtain⟨i1,i2,i3,i4⟩:=pairDU_meets n p q l (by omega) (by simpa[oldN] using ho) (by simpa[oldN] using hm) hp.2 hq.2 (fun y hy=>hl y (by simp[hy]))
  rw[pairDU]
  simp only[applyU,oldN,newN]
  exact⟨by rw[i1,chgE_pair (hl x (by simp)) hp.1 hq.1],by omega,by omega,by omega⟩
 |n,.K c::p,.C::q,[],hn,ho,hm,hp,hq,hl=>by simp[oldN] at ho
 |n,.K c::p,.C::q,x::l,hn,ho,hm,hp,hq,hl=>by
  simp only[List.length_cons] at hn
  obtain⟨n,rfl⟩:∃k,n=k+1:=⟨n- 1,by omega⟩
  obtain⟨i1,i2,i3,i4⟩:=pairDU_meets n p q l (by omega) (by simpa[oldN] using ho) (by simpa[oldN] using hm) hp.2 hq (fun y hy=>hl y (by simp[hy]))
  rw[pairDU]
  simp only[applyU,oldN,newN]
  exact⟨i1,by omega,by omega,by omega⟩
 |n,.C::p,.K d::q,[],hn,ho,hm,hp,hq,hl=>by simp[oldN] at ho
 |n,.C::p,.K d::q,x::l,hn,ho,hm,hp,hq,hl=>by
  simp only[List.length_cons] at hn
  obtain⟨n,rfl⟩:∃k,n=k+1:=⟨n- 1,by omega⟩
  obtain⟨i1,i2,i3,i4⟩:=pairDU_meets n p q l (by omega) (by simpa[oldN] using ho) (by simpa[oldN] using hm) hp hq.2 (fun y hy=>hl y (by simp[hy]))
  rw[pairDU]
  simp only[applyU,oldN,newN]
  exact⟨i1,by omega,by omega,by omega⟩
 |n,.C::p,.C::q,[],hn,ho,hm,hp,hq,hl=>by simp[oldN] at ho
 |n,.C::p,.C::q,x::l,hn,ho,hm,hp,hq,hl=>by
  simp only[List.length_cons] at hn
  obtain⟨n,rfl⟩:∃k,n=k+1:=⟨n- 1,by omega⟩
  obtain⟨i1,i2,i3,i4⟩:=pairDU_meets n p q l (by omega) (by simpa[oldN] using ho) (by simpa[oldN] using hm) hp hq (fun y hy=>hl y (by simp[hy]))
  rw[pairDU]
  simp only[applyU,oldN,newN]
  exact⟨i1,by omega,by omega,by omega⟩
 |n,[],[],l,hn,ho,hm,hp,hq,hl=>by simp[pairDU,applyU,oldN,newN]
 |n,[],.K d::q,l,hn,ho,hm,hp,hq,hl=>by simp only[oldN] at ho hm;omega
 |n,[],.C::q,l,hn,ho,hm,hp,hq,hl=>by simp only[oldN] at ho hm;omega
 |n,.K c::p,[],l,hn,ho,hm,hp,hq,hl=>by simp only[oldN] at ho hm;omega
 |n,.C::p,[],l,hn,ho,hm,hp,hq,hl=>by simp only[oldN] at ho hm;omega
theorem joinDU_lens:∀(n:Nat) (p q:List DU),p.length+q.length≤n→newN p=oldN q→oldN (joinDU p q)=oldN p∧newN (joinDU p q)=newN q
 |n,.C::p,q,hn,hm=>by
  simp only[List.length_cons] at hn
  obtain⟨n,rfl⟩:∃k,n=k+1:=⟨n- 1,by omega⟩
  have i:=joinDU_lens n p q (by omega) (by simpa[newN] using hm)
  rw[joinDU];simp only[oldN,newN];omega
 |n,[],.A e::q,hn,hm=>by
  simp only[List.length_cons] at hn
  obtain⟨n,rfl⟩:∃k,n=k+1:=⟨n- 1,by omega⟩
  have i:=joinDU_lens n [] q (by simp only[List.length_nil] at hn⊢;omega) (by simpa[oldN] using hm)
  rw[joinDU]
  ·simp only[oldN,newN] at i⊢;omega
  ·intro p hp;cases hp
 |n,.A a::p,.A e::q,hn,hm=>by
  simp only[List.length_cons] at hn
  obtain⟨n,rfl⟩:∃k,n=k+1:=⟨n- 1,by omega⟩
  have i:=joinDU_lens n (.A a::p) q (by simp only[List.length_cons];omega) (by simpa[oldN] using hm)
  rw[joinDU]
  ·simp only[oldN,newN] at i⊢;omega
  ·intro p hp;cases hp
 |n,.K c::p,.A e::q,hn,hm=>by
  simp only[List.length_cons] at hn
  obtain⟨n,rfl⟩:∃k,n=k+1:=⟨n- 1,by omega⟩
  have i:=joinDU_lens n (.K c::p) q (by simp only[List.length_cons];omega) (by simpa[oldN] using hm)
  rw[joinDU]
  ·simp only[oldN,newN] at i⊢;omega
  ·intro p hp;cases hp
 |n,.K c::p,.K d::q,hn,hm=>by
  simp only[List.length_cons] at hn
  obtain⟨n,rfl⟩:∃k,n=k+1:=⟨n- 1,by omega⟩
  have i:=joinDU_lens n p q (by omega) (by simpa[newN,oldN] using hm)
  rw[joinDU];simp only[oldN,newN];omega
 |n,.K c::p,.C::q,hn,hm=>by
  simp only[List.length_cons] at hn
  obtain⟨n,rfl⟩:∃k,n=k+1:=⟨n- 1,by omega⟩
  have i:=joinDU_lens n p q (by omega) (by simpa[newN,oldN] using hm)
  rw[joinDU];simp only[oldN,newN];omega
 |n,.A a::p,.K d::q,hn,hm=>by
  simp only[List.length_cons] at hn
  obtain⟨n,rfl⟩:∃k,n=k+1:=⟨n- 1,by omega⟩
  have i:=joinDU_lens n p q (by omega) (by simpa[newN,oldN] using hm)
  rw[joinDU];simp only[oldN,newN];omega
 |n,.A a::p,.C::q,hn,hm=>by
  simp only[List.length_cons] at hn
  obtain⟨n,rfl⟩:∃k,n=k+1:=⟨n- 1,by omega⟩
  have i:=joinDU_lens n p q (by omega) (by simpa[newN,oldN] using hm)
  rw[joinDU];simp only[oldN,newN];omega
 |n,[],[],hn,hm=>by simp[joinDU,oldN,newN]
 |n,[],.K d::q,hn,hm=>by simp[oldN,newN] at hm
 |n,[],.C::q,hn,hm=>by simp[oldN,newN] at hm
 |n,.K c::p,[],hn,hm=>by simp[oldN,newN] at hm
 |n,.A c::p,[],hn,hm=>by simp[oldN,newN] at hm
end Go.Ch
namespace Go.Ch
open Go Go.Ab
def kindD(l:List DStep):Int:=if l.length=0 then-1 else(l.getD 0 default).kind
end Go.Ch
end
section
set_option linter.unusedVariables false
set_option linter.unusedSimpArgs false
set_option maxRecDepth 100000
set_option maxHeartbeats 4000000
open Go Go.Proofs Go.Ab
namespace Go.Ch
theorem fc_dKind(l:List DStep)(u:Int):FC Tryz.prog 172 [.ptr 0 0] (app emp [(0,.box [VL 4 dstepT l,VI u])]) (VI (kindD l)) (app emp [(0,.box [VL 4 dstepT l,VI u])]):=by
 refine .go Tryz.f172 ?_
 refine .bp [.r [],.r [(4,X (Xl dstepT l))]] ((l.length:Int)==0) (fun h1=> ?_) (fun h1=> ?_)
 ·
  have e1:((kindD l):Int)= -1:=by
   unfold kindD;((repeat' split)<;>first|rfl|omega| (simp_all;done)| (simp_all;omega))
  exact .finE [.r []] [(0,0)] (fun z0:Int=>(VI z0,[(0,.box [VL 4 dstepT l,VI u])])) _ _ e1
 ·
  have e2:((kindD l):Int)=((l.getD 0 default)).kind:=by
   unfold kindD;((repeat' split)<;>first|rfl|omega| (simp_all;done)| (simp_all;omega))
  exact .finE [.r [(4,X (Xi dstepT l 0))]] [(0,0)] (fun z0:Int=>(VI z0,[(0,.box [VL 4 dstepT l,VI u])])) _ _ e2
theorem fc_dLeft(l:List DStep)(u:Int)(h0:0<l.length)(hb: -9223372036854775808≤szD (l.getD 0 default)- u∧szD (l.getD 0 default)- u≤9223372036854775807):FC Tryz.prog 174 [.ptr 0 0] (app emp [(0,.box [VL 4 dstepT l,VI u])]) (VI (szD (l.getD 0 default)- u)) (app emp [(0,.box [VL 4 dstepT l,VI u])]):=by
 refine .go Tryz.f174 ?_
 have e1:((szD (l.getD 0 default)- u):Int)=((szD ((l.getD 0 default)))- u):=by
  (first|omega|with_reducible exact fun h=>h| (intro hq;rw[hq];done)| (intro hq;rw[hq];rfl)| (simp only[List.length_map];done)| (simp only[List.length_map];omega)| (simp;omega)| (simp;done))
 exact .finE [.r [],.r [(4,X (Xi dstepT l 0)),(6,X (Xc0 (fc_size ((l.getD 0 default))) X0)),(11,X (Xn ((szD ((l.getD 0 default)))- u)))]] [(0,0)] (fun z0:Int=>(VI z0,[(0,.box [VL 4 dstepT l,VI u])])) _ _ e1
end Go.Ch
end
section
set_option linter.unusedVariables false
set_option linter.unusedSimpArgs false
set_option maxRecDepth 100000
set_option maxHeartbeats 4000000
open Go Go.Proofs Go.Ab
namespace Go.Ch
def tkE(l:List DStep)(u n:Int):DStep:=if(l.getD 0 default).kind=1 then⟨(l.getD 0 default).kind,(l.getD 0 default).n,(l.getD 0 default).attrs,((l.getD 0 default).elems.take (u+n).toNat).drop u.toNat⟩ else⟨(l.getD 0 default).kind,n,(l.getD 0 default).attrs,(l.getD 0 default).elems⟩
def tkL(l:List DStep)(u n:Int):List DStep:=if u+n=szD (l.getD 0 default) then l.drop 1 else l
def tkN(l:List DStep)(u n:Int):Int:=if u+n=szD (l.getD 0 default) then 0 else u+n
theorem fc_dTake(l:List DStep)(u n:Int)(h0:0<l.length)(hu:0≤u∧0≤n∧u+n≤szD (l.getD 0 default)∧u+n≤9223372036854775807):FC Tryz.prog 173 [.ptr 0 0,VI n] (app emp [(0,.box [VL 4 dstepT l,VI u])]) (.t (dstepT (tkE l u n))) (app emp [(0,.box [VL 4 dstepT (tkL l u n),VI (tkN l u n)]),(1,.box [VI ((tkE l u n).kind),VI ((tkE l u n).n),VL 2 attrT ((tkE l u n).attrs),VL 3 elemT ((tkE l u n).elems)])]):=by
 refine .go Tryz.f173 ?_
 refine .bp [.r [],.r [(4,X (Xi dstepT l 0))],.r []] ((((l.getD 0 default)).kind)==1) (fun h2=> ?_) (fun h2=> ?_)
 ·
  have hsz:szD (l.getD 0 default)=(l.getD 0 default).elems.length:=by unfold szD;rw[if_pos (by omega)]
  refine .bp [.r [(11,X (Xn (u+n))),(12,X (Xsb elemT 3 (((l.getD 0 default)).elems) u (u+n)))],.r [(5,X (Xn (u+n)))],.r [(8,X (Xi dstepT l 0)),(10,X (Xc0 (fc_size ((l.getD 0 default))) X0))]] ((u+n)==(szD ((l.getD 0 default)))) (fun h6=> ?_) (fun h6=> ?_)
  ·
   have e1:((tkL l u n):List DStep)=(l.drop 1):=by
    simp only[tkE,tkL,tkN];((repeat' split)<;>first|rfl|omega| (simp_all;done)| (simp_all;omega))
   have e2:((tkN l u n):Int)=0:=by
    simp only[tkE,tkL,tkN];((repeat' split)<;>first|rfl|omega| (simp_all;done)| (simp_all;omega))
   have e3:((tkE l u n).kind:Int)=((l.getD 0 default)).kind:=by
    simp only[tkE,tkL,tkN];((repeat' split)<;>first|rfl|omega| (simp_all;done)| (simp_all;omega))
   have e4:((tkE l u n).n:Int)=((l.getD 0 default)).n:=by
    simp only[tkE,tkL,tkN];((repeat' split)<;>first|rfl|omega| (simp_all;done)| (simp_all;omega))
   have e5:((tkE l u n).attrs:List Attr)=((l.getD 0 default)).attrs:=by
    simp only[tkE,tkL,tkN];((repeat' split)<;>first|rfl|omega| (simp_all;done)| (simp_all;omega))
   have e6:((tkE l u n).elems:List Elem)=(((((l.getD 0 default)).elems).take (Int.toNat (u+n))).drop (Int.toNat u)):=by
    simp only[tkE,tkL,tkN];((repeat' split)<;>first|rfl|omega| (simp_all;done)| (simp_all;omega))
   have e7:((tkE l u n):DStep)=({kind:=((l.getD 0 default)).kind,n:=((l.getD 0 default)).n,attrs:=((l.getD 0 default)).attrs,elems:=(((((l.getD 0 default)).elems).take (Int.toNat (u+n))).drop (Int.toNat u))}:DStep):=by
    simp only[tkE,tkL,tkN];((repeat' split)<;>first|rfl|omega| (simp_all;done)| (simp_all;omega))
   exact .finE [.r [(6,X (Xsd dstepT 4 l 1))],.r []] [(0,0),(1,1)] (fun((z0,z1,z2,z3,z4,z5,z6):(List DStep)×Int×Int×Int×(List Attr)×(List Elem)×DStep)=>(.t (dstepT z6),[(0,.box [VL 4 dstepT z0,VI z1]),(1,.box [VI z2,VI z3,VL 2 attrT z4,VL 3 elemT z5])])) _ _ (pr e1 (pr e2 (pr e3 (pr e4 (pr e5 (pr e6 e7))))))
  ·
   have e8:((tkL l u n):List DStep)=l:=by
    simp only[tkE,tkL,tkN];((repeat' split)<;>first|rfl|omega| (simp_all;done)| (simp_all;omega))
   have e9:((tkN l u n):Int)=(u+n):=by
    simp only[tkE,tkL,tkN];((repeat' split)<;>first|rfl|omega| (simp_all;done)| (simp_all;omega))
   have e10:((tkE l u n).kind:Int)=((l.getD 0 default)).kind:=by
    simp only[tkE,tkL,tkN];((repeat' split)<;>first|rfl|omega| (simp_all;done)| (simp_all;omega))
   have e11:((tkE l u n).n:Int)=((l.getD 0 default)).n:=by
    simp only[tkE,tkL,tkN];((repeat' split)<;>first|rfl|omega| (simp_all;done)| (simp_all;omega))
   have e12:((tkE l u n).attrs:List Attr)=((l.getD 0 default)).attrs:=by
    simp only[tkE,tkL,tkN];((repeat' split)<;>first|rfl|omega| (simp_all;done)| (simp_all;omega))
   have e13:((tkE l u n).elems:List Elem)=(((((l.getD 0 default)).elems).take (Int.toNat (u+n))).drop (Int.toNat u)):=by
    simp only[tkE,tkL,tkN];((repeat' split)<;>first|rfl|omega| (simp_all;done)| (simp_all;omega))
   have e14:((tkE l u n):DStep)=({kind:=((l.getD 0 default)).kind,n:=((l.getD 0 default)).n,attrs:=((l.getD 0 default)).attrs,elems:=(((((l.getD 0 default)).elems).take (Int.toNat (u+n))).drop (Int.toNat u))}:DStep):=by
    simp only[tkE,tkL,tkN];((repeat' split)<;>first|rfl|omega| (simp_all;done)| (simp_all;omega))
   exact .finE [.r []] [(0,0),(1,1)] (fun((z0,z1,z2,z3,z4,z5,z6):(List DStep)×Int×Int×Int×(List Attr)×(List Elem)×DStep)=>(.t (dstepT z6),[(0,.box [VL 4 dstepT z0,VI z1]),(1,.box [VI z2,VI z3,VL 2 attrT z4,VL 3 elemT z5])])) _ _ (pr e8 (pr e9 (pr e10 (pr e11 (pr e12 (pr e13 e14))))))
 ·
  refine .bp [.r [],.r [(5,X (Xn (u+n)))],.r [(8,X (Xi dstepT l 0)),(10,X (Xc0 (fc_size ((l.getD 0 default))) X0))]] ((u+n)==(szD ((l.getD 0 default)))) (fun h6=> ?_) (fun h6=> ?_)
  ·
   have e15:((tkL l u n):List DStep)=(l.drop 1):=by
    simp only[tkE,tkL,tkN];((repeat' split)<;>first|rfl|omega| (simp_all;done)| (simp_all;omega))
   have e16:((tkN l u n):Int)=0:=by
    simp only[tkE,tkL,tkN];((repeat' split)<;>first|rfl|omega| (simp_all;done)| (simp_all;omega))
   have e17:((tkE l u n).kind:Int)=((l.getD 0 default)).kind:=by
    simp only[tkE,tkL,tkN];((repeat' split)<;>first|rfl|omega| (simp_all;done)| (simp_all;omega))
   have e18:((tkE l u n).n:Int)=n:=by
    simp only[tkE,tkL,tkN];((repeat' split)<;>first|rfl|omega| (simp_all;done)| (simp_all;omega))
   have e19:((tkE l u n).attrs:List Attr)=((l.getD 0 default)).attrs:=by
    simp only[tkE,tkL,tkN];((repeat' split)<;>first|rfl|omega| (simp_all;done)| (simp_all;omega))
   have e20:((tkE l u n).elems:List Elem)=((l.getD 0 default)).elems:=by
    simp only[tkE,tkL,tkN];((repeat' split)<;>first|rfl|omega| (simp_all;done)| (simp_all;omega))
   have e21:((tkE l u n):DStep)=({kind:=((l.getD 0 default)).kind,n:=n,attrs:=((l.getD 0 default)).attrs,elems:=((l.getD 0 default)).elems}:DStep):=by
    simp only[tkE,tkL,tkN];((repeat' split)<;>first|rfl|omega| (simp_all;done)| (simp_all;omega))
   exact .finE [.r [(6,X (Xsd dstepT 4 l 1))],.r []] [(0,0),(1,1)] (fun((z0,z1,z2,z3,z4,z5,z6):(List DStep)×Int×Int×Int×(List Attr)×(List Elem)×DStep)=>(.t (dstepT z6),[(0,.box [VL 4 dstepT z0,VI z1]),(1,.box [VI z2,VI z3,VL 2 attrT z4,VL 3 elemT z5])])) _ _ (pr e15 (pr e16 (pr e17 (pr e18 (pr e19 (pr e20 e21))))))
  ·
   have e22:((tkL l u n):List DStep)=l:=by
    simp only[tkE,tkL,tkN];((repeat' split)<;>first|rfl|omega| (simp_all;done)| (simp_all;omega))
   have e23:((tkN l u n):Int)=(u+n):=by
    simp only[tkE,tkL,tkN];((repeat' split)<;>first|rfl|omega| (simp_all;done)| (simp_all;omega))
   have e24:((tkE l u n).kind:Int)=((l.getD 0 default)).kind:=by
    simp only[tkE,tkL,tkN];((repeat' split)<;>first|rfl|omega| (simp_all;done)| (simp_all;omega))
   have e25:((tkE l u n).n:Int)=n:=by
    simp only[tkE,tkL,tkN];((repeat' split)<;>first|rfl|omega| (simp_all;done)| (simp_all;omega))
   have e26:((tkE l u n).attrs:List Attr)=((l.getD 0 default)).attrs:=by
    simp only[tkE,tkL,tkN];((repeat' split)<;>first|rfl|omega| (simp_all;done)| (simp_all;omega))
   have e27:((tkE l u n).elems:List Elem)=((l.getD 0 default)).elems:=by
    simp only[tkE,tkL,tkN];((repeat' split)<;>first|rfl|omega| (simp_all;done)| (simp_all;omega))
   have e28:((tkE l u n):DStep)=({kind:=((l.getD 0 default)).kind,n:=n,attrs:=((l.getD 0 default)).attrs,elems:=((l.getD 0 default)).elems}:DStep):=by
    simp only[tkE,tkL,tkN];((repeat' split)<;>first|rfl|omega| (simp_all;done)| (simp_all;omega))
   exact .finE [.r []] [(0,0),(1,1)] (fun((z0,z1,z2,z3,z4,z5,z6):(List DStep)×Int×Int×Int×(List Attr)×(List Elem)×DStep)=>(.t (dstepT z6),[(0,.box [VL 4 dstepT z0,VI z1]),(1,.box [VI z2,VI z3,VL 2 attrT z4,VL 3 elemT z5])])) _ _ (pr e22 (pr e23 (pr e24 (pr e25 (pr e26 (pr e27 e28))))))
end Go.Ch
end
section
set_option linter.unusedVariables false
set_option linter.unusedSimpArgs false
namespace Go.Ch
open Go Go.Ab
def ruD(l:List DStep)(u:Int):List DU:=(exD l).drop u.toNat
structure GoodRD(l:List DStep)(u:Int):Prop where
 ok:∀s∈l,DOk s
 pos:0≤u
 lt:0<l.length→u<szD (l.getD 0 default)
 nil:l.length=0→u=0
theorem exS_sz{s:DStep}(h:DOk s):((exS s).length:Int)=szD s:=by
 unfold exS szD
 rcases h with⟨k,_⟩| ⟨k,_,_,n1,_⟩
 ·rw[if_pos k,if_pos k,List.length_map]
 ·have k1:¬s.kind=1:=by omega
  rw[if_neg k1,if_neg k1]
  split<;>rw[List.length_replicate]<;>omega
theorem ruD0(l:List DStep):ruD l 0=exD l:=rfl
theorem ruD_nil{l:List DStep}{u:Int}(h:l.length=0):ruD l u=[]:=by
 rw[List.length_eq_zero_iff.1 h];unfold ruD;simp[exD]
theorem tkE_split{l:List DStep}{u n:Int}(ho:DOk (l.getD 0 default))(hu:0≤u)(hn:0≤n)(hl:u+n≤szD (l.getD 0 default)):
 (exS (l.getD 0 default)).drop u.toNat=exS (tkE l u n)++(exS (l.getD 0 default)).drop (u+n).toNat:=by
 unfold tkE
 generalize l.getD 0 default=s at*
 have hz:(u+n).toNat=u.toNat+n.toNat:=by omega
 unfold szD at hl
 by_cases k1:s.kind=1
 ·rw[if_pos k1] at hl⊢
  unfold exS
  simp only[if_pos k1]
  rw[←List.map_drop,←List.map_drop,←List.map_append]
  congr 1
  conv=>lhs;rw[←List.take_append_drop (u+n).toNat s.elems]
  rw[List.drop_append_of_le_length (by rw[List.length_take];omega)]
 ·rw[if_neg k1] at hl⊢
  unfold exS
  simp only[if_neg k1]
  split
  ·rw[List.drop_replicate,List.drop_replicate,List.replicate_append_replicate];congr 1;omega
  ·rw[List.drop_replicate,List.drop_replicate,List.replicate_append_replicate];congr 1;omega
theorem tkD_ok{l:List DStep}{u n:Int}(h:GoodRD l u)(h0:0<l.length)(hn:0≤n)(hl:u+n≤szD (l.getD 0 default)):
 GoodRD (tkL l u n) (tkN l u n)∧ruD l u=exS (tkE l u n)++ruD (tkL l u n) (tkN l u n):=by
 have ho:DOk (l.getD 0 default):=h.ok _ (getD_mem' h0)
 have hz:=exS_sz ho
 have hp:=h.pos
 have hs:=tkE_split ho hp hn hl
 have hd:=dropD (l:=l) (i:=0) h0
 rw[List.drop_zero] at hd
 have he:exD l=exS (l.getD 0 default)++exD (l.drop 1):=by conv=>lhs;rw[hd,exD]
 have hlt:=h.lt h0
 unfold tkL tkN
 by_cases e:u+n=szD (l.getD 0 default)
 ·rw[if_pos e,if_pos e]
  refine⟨⟨fun s hs=>h.ok s (List.mem_of_mem_drop hs),Int.le_refl _,fun h1=> ?_,fun _=>rfl⟩,?_⟩
  ·have:=stepD_sz (step_iff.2 (h.ok _ (List.mem_of_mem_drop (getD_mem' h1))))
   omega
  ·rw[ruD0]
   unfold ruD
   rw[he,List.drop_append_of_le_length (by omega),hs,List.drop_eq_nil_of_le (show(exS (l.getD 0 default)).length≤(u+n).toNat by omega),List.append_nil]
 ·rw[if_neg e,if_neg e]
  refine⟨⟨h.ok,by omega,fun _=>by omega,fun h1=>by omega⟩,?_⟩
  unfold ruD
  rw[he,List.drop_append_of_le_length (by omega),List.drop_append_of_le_length (by omega),hs,List.append_assoc]
end Go.Ch
end
section
set_option linter.unusedVariables false
set_option linter.unusedSimpArgs false
namespace Go.Ch
open Go Go.Ab
theorem jd_C(n:Nat)(p q:List DU):joinDU (List.replicate n .C++p) q=List.replicate n .C++joinDU p q:=by
 induction n with
 |zero=>rfl
 |succ n ih=>rw[List.replicate_succ,List.cons_append,joinDU,ih,List.cons_append]
def NoCD:List DU→Prop
 | .C::_=>False
 |_=>True
theorem jd_A1{p:List DU}(hp:NoCD p)(e:Elem)(q:List DU):joinDU p (.A e::q)= .A e::joinDU p q:=by
 rw[joinDU]
 intro p' h
 subst h
 exact hp
theorem jd_A(e:List Elem){p:List DU}(hp:NoCD p)(q:List DU):joinDU p (e.map .A++q)=e.map .A++joinDU p q:=by
 induction e with
 |nil=>rfl
 |cons x e ih=>rw[List.map_cons,List.cons_append,jd_A1 hp,ih,List.cons_append]
theorem jd_KK(n:Nat)(c d:List Attr)(p q:List DU):joinDU (List.replicate n (.K c)++p) (List.replicate n (.K d)++q)=List.replicate n (.K (fm botG c d))++joinDU p q:=by
 induction n with
 |zero=>rfl
 |succ n ih=>rw[List.replicate_succ,List.replicate_succ,List.replicate_succ,List.cons_append,List.cons_append,joinDU,ih,List.cons_append]
theorem jd_KC(n:Nat)(c:List Attr)(p q:List DU):joinDU (List.replicate n (.K c)++p) (List.replicate n .C++q)=List.replicate n .C++joinDU p q:=by
 induction n with
 |zero=>rfl
 |succ n ih=>rw[List.replicate_succ,List.replicate_succ,List.cons_append,List.cons_append,joinDU,ih,List.cons_append]
theorem jd_AK(e:List Elem)(d:List Attr)(p q:List DU):joinDU (e.map .A++p) (List.replicate e.length (.K d)++q)=(e.map (chgE d)).map .A++joinDU p q:=by
 induction e with
 |nil=>rfl
 |cons x e ih=>rw[List.map_cons,List.length_cons,List.replicate_succ,List.cons_append,List.cons_append,joinDU,ih];rfl
theorem jd_AC(e:List Elem)(p q:List DU):joinDU (e.map .A++p) (List.replicate e.length .C++q)=joinDU p q:=by
 induction e with
 |nil=>rfl
 |cons x e ih=>rw[List.map_cons,List.length_cons,List.replicate_succ,List.cons_append,List.cons_append,joinDU,ih]
end Go.Ch
end
section
set_option linter.unusedVariables false
set_option linter.unusedSimpArgs false
namespace Go.Ch
open Go Go.Ab
structure JD(w:DWr)(ps:List DStep)(pu:Int)(qs:List DStep)(qu:Int)(T:Nat)(G:DWr):Prop where
 gp:GoodRD ps pu
 gq:GoodRD qs qu
 dp:DN 100000000000 ps
 dq:DN 100000000000 qs
 eq:newN (ruD ps pu)=oldN (ruD qs qu)
 di:DI w (joinDU (ruD ps pu) (ruD qs qu)) T G
def jmD(ps:List DStep)(pu:Int)(qs:List DStep)(qu:Int):Nat:=(ruD ps pu).length+(ruD qs qu).length
theorem dn_tk{m:Nat}{l:List DStep}{u n:Int}(h:DN m l):DN m (tkL l u n):=by
 unfold tkL;split
 ·exact fun s hs=>h s (List.mem_of_mem_drop hs)
 ·exact h
theorem exS_C{l:List DStep}{u n:Int}(k:(l.getD 0 default).kind=2):exS (tkE l u n)=List.replicate n.toNat .C:=by
 unfold tkE
 rw[if_neg (by omega)]
 unfold exS
 simp only
 rw[if_neg (by omega),if_pos k]
theorem exS_A{l:List DStep}{u n:Int}(k:(l.getD 0 default).kind=1):exS (tkE l u n)=(tkE l u n).elems.map .A:=by
 unfold tkE
 rw[if_pos k]
 unfold exS
 simp only
 rw[if_pos k]
theorem exS_K{l:List DStep}{u n:Int}(k:(l.getD 0 default).kind=0):exS (tkE l u n)=List.replicate n.toNat (.K (l.getD 0 default).attrs):=by
 unfold tkE
 rw[if_neg (by omega)]
 unfold exS
 simp only
 rw[if_neg (by omega),if_neg (by omega)]
section
variable {w:DWr} {ps qs:List DStep} {pu qu:Int} {T:Nat} {G:DWr}
theorem JD.cut(h:JD w ps pu qs qu T G)(h0:0<ps.length)(hk:(ps.getD 0 default).kind=2){n:Int}(hn:n=szD (ps.getD 0 default)- pu):
 JD ⟨w.out,w.add,w.cut+n⟩ (tkL ps pu n) (tkN ps pu n) qs qu T G∧jmD (tkL ps pu n) (tkN ps pu n) qs qu<jmD ps pu qs qu:=by
 have hl:=h.gp.lt h0
 obtain⟨g,e⟩:=tkD_ok (n:=n) h.gp h0 (by omega) (by omega)
 rw[exS_C hk] at e
 have hd:=h.di
 have he:=h.eq
 rw[e,jd_C] at hd
 rw[e,newN_app,(lens_Cs _).2] at he
 have hd2:=hd.cuts
 rw[show((n.toNat:Nat):Int)=n by omega] at hd2
 refine⟨⟨g,h.gq,dn_tk h.dp,h.dq,by omega,hd2⟩,?_⟩
 unfold jmD
 rw[e,List.length_append,List.length_replicate]
 omega
theorem noCD{l:List DStep}{u:Int}(h:GoodRD l u)(hk:0<l.length→(l.getD 0 default).kind≠2):NoCD (ruD l u):=by
 by_cases h0:0<l.length
 ·have hl:=h.lt h0
  have hp:=h.pos
  have k2:=hk h0
  obtain⟨g,e⟩:=tkD_ok (n:=1) h h0 (by decide) (by omega)
  have hs:=(stepD_sz (step_iff.2 (h.ok _ (getD_mem' h0)))).1
  rcases hs with k|k|k
  ·rw[e,exS_K k];trivial
  ·rw[e,exS_A k]
   have hem:(tkE l u 1).elems.length=1:=by
    unfold tkE
    rw[if_pos k]
    simp only[List.length_drop,List.length_take]
    have:szD (l.getD 0 default)=(l.getD 0 default).elems.length:=by unfold szD;rw[if_pos k]
    omega
   generalize(tkE l u 1).elems=z at hem
   cases z with
   |nil=>simp at hem
   |cons x r=>trivial
  ·exact absurd k k2
 ·rw[ruD_nil (by omega)];trivial
theorem JD.add(h:JD w ps pu qs qu T G)(hp:0<ps.length→(ps.getD 0 default).kind≠2)(h0:0<qs.length)(hk:(qs.getD 0 default).kind=1){n:Int}(hn:n=szD (qs.getD 0 default)- qu):
 JD ⟨w.out,w.add++(tkE qs qu n).elems,w.cut⟩ ps pu (tkL qs qu n) (tkN qs qu n) T G:=by
 have hl:=h.gq.lt h0
 obtain⟨g,e⟩:=tkD_ok (n:=n) h.gq h0 (by omega) (by omega)
 rw[exS_A hk] at e
 have hd:=h.di
 have he:=h.eq
 rw[e,jd_A _ (noCD h.gp hp)] at hd
 rw[e,oldN_app,(lens_As _).1] at he
 exact⟨h.gp,g,h.dp,dn_tk h.dq,by omega,hd.elems⟩
theorem tkE_len{l:List DStep}{u n:Int}(k:(l.getD 0 default).kind=1)(hu:0≤u)(hn:0≤n)(hl:u+n≤szD (l.getD 0 default)):(tkE l u n).elems.length=n.toNat:=by
 unfold tkE
 rw[if_pos k]
 simp only[List.length_drop,List.length_take]
 have:szD (l.getD 0 default)=(l.getD 0 default).elems.length:=by unfold szD;rw[if_pos k]
 omega
theorem JD.both(h:JD w ps pu qs qu T G)(a:0<ps.length)(b:0<qs.length)(kp:(ps.getD 0 default).kind≠2)(kq:(qs.getD 0 default).kind≠1){n:Int}(hn:n=min (szD (ps.getD 0 default)- pu) (szD (qs.getD 0 default)- qu)):
 (((ps.getD 0 default).kind=0∧(qs.getD 0 default).kind=0→JD ⟨keepD (flushD w) n (fm botG (ps.getD 0 default).attrs (qs.getD 0 default).attrs),[],0⟩ (tkL ps pu n) (tkN ps pu n) (tkL qs qu n) (tkN qs qu n) T G)∧
 ((ps.getD 0 default).kind=0∧(qs.getD 0 default).kind=2→JD ⟨w.out,w.add,w.cut+n⟩ (tkL ps pu n) (tkN ps pu n) (tkL qs qu n) (tkN qs qu n) T G)∧
 ((ps.getD 0 default).kind=1∧(qs.getD 0 default).kind=0→JD ⟨w.out,w.add++(tkE ps pu n).elems.map (chgE (qs.getD 0 default).attrs),w.cut⟩ (tkL ps pu n) (tkN ps pu n) (tkL qs qu n) (tkN qs qu n) T G)∧
 ((ps.getD 0 default).kind=1∧(qs.getD 0 default).kind=2→JD w (tkL ps pu n) (tkN ps pu n) (tkL qs qu n) (tkN qs qu n) T G))∧
 jmD (tkL ps pu n) (tkN ps pu n) (tkL qs qu n) (tkN qs qu n)< jmD ps pu qs qu:=by
 have l1:=h.gp.lt a
 have l2:=h.gq.lt b
 have p1:=h.gp.pos
 have p2:=h.gq.pos
 obtain⟨g1,e1⟩:=tkD_ok (n:=n) h.gp a (by omega) (by omega)
 obtain⟨g2,e2⟩:=tkD_ok (n:=n) h.gq b (by omega) (by omega)
 have hd:=h.di
 have he:=h.eq
 have k1:=(stepD_sz (step_iff.2 (h.gp.ok _ (getD_mem' a)))).1
 have k2:=(stepD_sz (step_iff.2 (h.gq.ok _ (getD_mem' b)))).1
 refine⟨⟨fun k=> ?_,fun k=> ?_,fun k=> ?_,fun k=> ?_⟩,?_⟩
 ·rw[e1,e2,exS_K k.1,exS_K k.2] at hd he
  rw[jd_KK,show n.toNat=(n.toNat- 1)+1 by omega] at hd
  rw[newN_app,oldN_app,(lens_Ks _ _).1,(lens_Ks _ _).2] at he
  have hd2:=hd.keep
  rw[show(((n.toNat- 1+1:Nat)):Int)=n by omega] at hd2
  exact⟨g1,g2,dn_tk h.dp,dn_tk h.dq,by omega,hd2⟩
 ·rw[e1,e2,exS_K k.1,exS_C k.2] at hd he
  rw[jd_KC] at hd
  rw[newN_app,oldN_app,(lens_Cs _).1,(lens_Ks _ _).2] at he
  have hd2:=hd.cuts
  rw[show((n.toNat:Nat):Int)=n by omega] at hd2
  exact⟨g1,g2,dn_tk h.dp,dn_tk h.dq,by omega,hd2⟩
 ·have hz:=tkE_len (n:=n) k.1 p1 (by omega) (by omega)
  rw[e1,e2,exS_A k.1,exS_K k.2] at hd he
  rw[newN_app,oldN_app,(lens_Ks _ _).1,(lens_As _).2] at he
  rw[←hz,jd_AK] at hd
  exact⟨g1,g2,dn_tk h.dp,dn_tk h.dq,by omega,hd.elems⟩
 ·have hz:=tkE_len (n:=n) k.1 p1 (by omega) (by omega)
  rw[e1,e2,exS_A k.1,exS_C k.2] at hd he
  rw[newN_app,oldN_app,(lens_Cs _).1,(lens_As _).2] at he
  rw[←hz,jd_AC] at hd
  exact⟨g1,g2,dn_tk h.dp,dn_tk h.dq,by omega,hd⟩
 ·have hs:=exS_sz (h.gp.ok _ (getD_mem' a))
  have hl:=congrArg List.length (tkE_split (n:=n) (h.gp.ok _ (getD_mem' a)) p1 (by omega) (by omega))
  simp only[List.length_append,List.length_drop] at hl
  unfold jmD
  rw[e1,e2,List.length_append,List.length_append]
  omega
end
end Go.Ch
end
section
set_option linter.unusedVariables false
set_option linter.unusedSimpArgs false
namespace Go.Ch
open Go Go.Ab
theorem joinDU_units(p q:List DU)(hp:KOk p)(hq:KOk q):∀u∈joinDU p q,UnitOk u:=by
 have okA:∀e:Elem,elemE e=0∧e.attrs.length≤100000000000→UnitOk (.A e):=fun e h=>⟨h.1,by omega⟩
 have okK:∀c:List Attr,VG true c∧c.length≤100000000000→UnitOk (.K c):=fun e h=>⟨h.1,by omega⟩
 have okU:∀us:List DU,KOk us→∀u∈us,UnitOk u:=fun us h u hu=>by
  cases u with
  |K c=>exact okK c (h.1 c hu)
  |A e=>exact okA e (h.2 e hu)
  |C=>trivial
 induction p,q using joinDU.induct with
 |case1 q p ih=>
  rw[joinDU]
  intro u hu
  rcases List.mem_cons.1 hu with rfl|hu
  ·trivial
  ·exact ih hp.tail hq u hu
 |case2 p e q hne ih=>
  rw[joinDU]
  rotate_left
  ·exact hne
  intro u hu
  rcases List.mem_cons.1 hu with rfl|hu
  ·exact okA _ (hq.2 e (by simp))
  ·exact ih hp hq.tail u hu
 |case3 c p d q ih=>
  rw[joinDU]
  intro u hu
  rcases List.mem_cons.1 hu with rfl|hu
  ·have h1:=hp.1 c (by simp)
   have h2:=hq.1 d (by simp)
   have:=fm_len' botG c d
   exact⟨bot_V np_mt h1.1 h2.1,by omega⟩
  ·exact ih hp.tail hq.tail u hu
 |case4 c p q ih=>
  rw[joinDU]
  intro u hu
  rcases List.mem_cons.1 hu with rfl|hu
  ·trivial
  ·exact ih hp.tail hq.tail u hu
 |case5 e p d q ih=>
  rw[joinDU]
  intro u hu
  rcases List.mem_cons.1 hu with rfl|hu
  ·have h1:=hp.2 e (by simp)
   have h2:=hq.1 d (by simp)
   have:=fm_len' rawG e.attrs d
   refine⟨chgE_ok h1.1 h2.1,?_⟩
   show(fm rawG e.attrs d).length≤_
   omega
  ·exact ih hp.tail hq.tail u hu
 |case6 e p q ih=>
  rw[joinDU]
  exact ih hp.tail hq.tail
 |case7 p hne=>
  rw[show joinDU p []=p by unfold joinDU;split<;>simp_all]
  exact okU _ hp
 |case8 q h1 h2=>
  rw[show joinDU [] q=[] by unfold joinDU;split<;>simp_all]
  intro u hu;cases hu
def joinD(a b:List DStep):List DStep:=doneD (joinDU (exD a) (exD b))
theorem goodRD0{l:List DStep}(h:DValid l):GoodRD l 0:=⟨h.1.all,Int.le_refl _,fun h0=>by have:=stepD_sz (step_iff.2 (h.1.all _ (getD_mem' h0)));omega,fun _=>rfl⟩
theorem lens_V{l:List DStep}(h:DValid l):(oldN (exD l):Int)=oldD l∧(newN (exD l):Int)=newD l:=lens_D (fun s hs=>okW (h.1.all s hs))
theorem join_start{a b:List DStep}(va:DValid a)(vb:DValid b)(da:DN 100000000000 a)(db:DN 100000000000 b)(hm:newD a=oldD b):
 (∀u∈joinDU (exD a) (exD b),UnitOk u)∧(oldN (joinDU (exD a) (exD b)):Int)=oldD a∧(newN (joinDU (exD a) (exD b)):Int)=newD b∧
 JD ⟨[],[],0⟩ a 0 b 0 (joinDU (exD a) (exD b)).length (foldD ⟨[],[],0⟩ (joinDU (exD a) (exD b)))∧DValid (joinD a b)∧DSw (exD (joinD a b)) (joinDU (exD a) (exD b))∧
 oldD (joinD a b)=oldD a∧newD (joinD a b)=newD b:=by
 have hu:=joinDU_units _ _ (exD_K va.1.all da) (exD_K vb.1.all db)
 have la:=lens_V va
 have lb:=lens_V vb
 have hl:=joinDU_lens _ (exD a) (exD b) (Nat.le_refl _) (by omega)
 have hs:=len_sum (joinDU (exD a) (exD b))
 have a1:=va.2.1
 have b1:=vb.2.2
 obtain⟨d1,d2,d3,d4⟩:=doneD_ok hu (by omega) (by omega)
 exact⟨hu,by omega,by omega,⟨goodRD0 va,goodRD0 vb,da,db,by rw[ruD0,ruD0];omega,by rw[ruD0,ruD0];exact DI.start hu (by omega)⟩,d1,d2,by unfold joinD;omega,by unfold joinD;omega⟩
theorem rd_one{l:List DStep}{u:Int}(h:GoodRD l u)(h0:0<l.length):((l.getD 0 default).kind≠1→1≤oldN (ruD l u))∧((l.getD 0 default).kind≠2→1≤newN (ruD l u)):=by
 have hl:=h.lt h0
 have hp:=h.pos
 obtain⟨g,e⟩:=tkD_ok (n:=1) h h0 (by decide) (by omega)
 have hs:=(stepD_sz (step_iff.2 (h.ok _ (getD_mem' h0)))).1
 rcases hs with k|k|k
 ·rw[e,exS_K k,oldN_app,newN_app,(lens_Ks _ _).1,(lens_Ks _ _).2];constructor<;>intro _<;>omega
 ·have hz:=tkE_len (n:=1) k hp (by omega) (by omega)
  rw[e,exS_A k,oldN_app,newN_app,(lens_As _).1,(lens_As _).2,hz];constructor<;>intro _<;>omega
 ·rw[e,exS_C k,oldN_app,newN_app,(lens_Cs _).1,(lens_Cs _).2];constructor<;>intro _<;>omega
variable {w:DWr} {ps qs:List DStep} {pu qu:Int} {T:Nat} {G:DWr}
theorem JD.two(h:JD w ps pu qs qu T G)(h0:0<ps.length∨0<qs.length)(hp:0<ps.length→(ps.getD 0 default).kind≠2)(hq:0<qs.length→(qs.getD 0 default).kind≠1):0<ps.length∧0<qs.length:=by
 have he:=h.eq
 rcases Nat.eq_zero_or_pos ps.length with a|a
 ·rcases Nat.eq_zero_or_pos qs.length with b|b
  ·omega
  ·have:=(rd_one h.gq b).1 (hq b)
   rw[ruD_nil a] at he
   simp only[newN] at he
   omega
 ·rcases Nat.eq_zero_or_pos qs.length with b|b
  ·have:=(rd_one h.gp a).2 (hp a)
   rw[ruD_nil b] at he
   simp only[oldN] at he
   omega
  ·exact⟨a,b⟩
theorem JD.done(h:JD w ps pu qs qu T G)(a:ps.length=0)(b:qs.length=0):w=G:=by
 have:=h.di
 rw[ruD_nil a,ruD_nil b] at this
 exact DI.done (by simpa[joinDU] using this)
theorem JD.add2(h:JD w ps pu qs qu T G)(hp:0<ps.length→(ps.getD 0 default).kind≠2)(h0:0<qs.length)(hk:(qs.getD 0 default).kind=1){n:Int}(hn:n=szD (qs.getD 0 default)- qu):
 jmD ps pu (tkL qs qu n) (tkN qs qu n)< jmD ps pu qs qu:=by
 have hl:=h.gq.lt h0
 obtain⟨g,e⟩:=tkD_ok (n:=n) h.gq h0 (by omega) (by omega)
 have hz:=tkE_len (n:=n) hk h.gq.pos (by omega) (by omega)
 rw[exS_A hk] at e
 unfold jmD
 rw[e,List.length_append,List.length_map,hz]
 omega
theorem kindD_cases{l:List DStep}{u:Int}(h:GoodRD l u):(kindD l= -1∧l.length=0)∨(kindD l=(l.getD 0 default).kind∧0<l.length∧(kindD l=0∨kindD l=1∨kindD l=2)):=by
 unfold kindD
 split
 ·rename_i h0;exact .inl ⟨rfl,h0⟩
 ·rename_i h0
  have h0':0<l.length:=by omega
  have hs:=(stepD_sz (step_iff.2 (h.ok _ (getD_mem' h0')))).1
  exact .inr ⟨rfl,by omega,hs⟩
theorem k01{l:List DStep}{u:Int}(h:GoodRD l u)(h0:0<l.length)(k:(l.getD 0 default).kind≠2):(l.getD 0 default).kind=0∨(l.getD 0 default).kind=1:=by
 have:=(stepD_sz (step_iff.2 (h.ok _ (getD_mem' h0)))).1
 omega
theorem k02{l:List DStep}{u:Int}(h:GoodRD l u)(h0:0<l.length)(k:(l.getD 0 default).kind≠1):(l.getD 0 default).kind=0∨(l.getD 0 default).kind=2:=by
 have:=(stepD_sz (step_iff.2 (h.ok _ (getD_mem' h0)))).1
 omega
theorem szD_bd{l:List DStep}{u:Int}(h:GoodRD l u)(hd:DN 100000000000 l)(h0:0<l.length):0≤u∧u<szD (l.getD 0 default)∧szD (l.getD 0 default)≤100000000000∧
 (l.getD 0 default).attrs.length≤100000000000∧(l.getD 0 default).elems.length≤100000000000∧AN 100000000000 (l.getD 0 default).elems:=by
 have hs:=stepD_sz (step_iff.2 (h.ok _ (getD_mem' h0)))
 obtain⟨b1,b2,b3⟩:=hd _ (getD_mem' h0)
 have hl:=h.lt h0
 exact⟨h.pos,hl,by omega,b2,b1,b3⟩
theorem szD_k{l:List DStep}{u:Int}(h:GoodRD l u)(h0:0<l.length)(k:(l.getD 0 default).kind≠1):szD (l.getD 0 default)≤2147483647:=by
 have hs:=stepD_sz (step_iff.2 (h.ok _ (getD_mem' h0)))
 have:szD (l.getD 0 default)=(l.getD 0 default).n:=by unfold szD;rw[if_neg k]
 omega
theorem tkE_kind(l:List DStep)(u n:Int):(tkE l u n).kind=(l.getD 0 default).kind:=by unfold tkE;split<;>rfl
theorem tkE_attrs(l:List DStep)(u n:Int):(tkE l u n).attrs=(l.getD 0 default).attrs:=by unfold tkE;split<;>rfl
theorem tkE_n{l:List DStep}{u n:Int}(h:(l.getD 0 default).kind≠1):(tkE l u n).n=n:=by unfold tkE;rw[if_neg h]
theorem tkE_an{l:List DStep}{u n:Int}{m:Nat}(h:AN m (l.getD 0 default).elems):AN m (tkE l u n).elems:=by
 unfold tkE
 split
 ·exact fun x hx=>h x (List.mem_of_mem_take (List.mem_of_mem_drop hx))
 ·exact h
theorem an_up{m k:Nat}{l:List Elem}(h:AN m l)(hm:m≤k):AN k l:=fun x hx=>Nat.le_trans (h x hx) hm
theorem an_chg{m k:Nat}{l:List Elem}{c:List Attr}(h:AN m l)(hm:m+c.length≤k):AN k (l.map (chgE c)):=fun x hx=>by
 obtain⟨y,hy,rfl⟩:=List.mem_map.1 hx
 have h1:=h y hy
 have:=fm_len' rawG y.attrs c
 show(fm rawG y.attrs c).length≤k
 omega
end Go.Ch
end
section
set_option linter.unusedVariables false
set_option linter.unusedSimpArgs false
set_option maxRecDepth 100000
set_option maxHeartbeats 4000000
open Go Go.Proofs Go.Ab
namespace Go.Ch
theorem fc_dTake2(l:List DStep)(u n:Int)(s:DStep)(hs:tkE l u n=s)(h0:0<l.length)(hu:0≤u∧0≤n∧u+n≤szD (l.getD 0 default)∧u+n≤9223372036854775807):
 FC Tryz.prog 173 [.ptr 0 0,VI n] (app emp [(0,.box [VL 4 dstepT l,VI u])]) (.t (dstepT s)) (app emp [(0,.box [VL 4 dstepT (tkL l u n),VI (tkN l u n)]),(1,.box [VI s.kind,VI s.n,VL 2 attrT s.attrs,VL 3 elemT s.elems])]):=hs▸fc_dTake l u n h0 hu
theorem fc_dJoin(a b:List DStep)(va:DValid a)(vb:DValid b)(da:DN 100000000000 a)(db:DN 100000000000 b)(hm:newD a=oldD b):FC Tryz.prog 118 [VL 4 dstepT a,VL 4 dstepT b] (app emp []) (.tup [VL 4 dstepT (joinD a b),VI 0]) (app emp []):=by
 refine .go Tryz.f118 ?_
 refine .len 0 (fun hl0=> ?_)
 refine .len 1 (fun hl1=> ?_)
 have ca:=checkD_iff.2 va
 have cb:=checkD_iff.2 vb
 have da4:=da.mono (n:=400000000000) (by decide)
 have db4:=db.mono (n:=400000000000) (by decide)
 obtain⟨_,_,_,st,vj,_⟩:=join_start va vb da db hm
 have cj:=checkD_iff.2 vj
 refine .bp [.r [],.r [(1,X (Xc0 (fc_dCheck a (by assumption)) X0))],.r []] ((checkD a) !=0) (fun h2=> ?_) (fun h2=> ?_)
 ·
  exfalso
  omega
 ·
  refine .bp [.r [(1,X (Xc0 (fc_dCheck b (by assumption)) X0))],.r []] ((checkD b) !=0) (fun h5=> ?_) (fun h5=> ?_)
  ·
   exfalso
   omega
  ·
   refine .bp [.r [(1,X (Xc0 (fc_dLens a (by assumption)) X0))],.r [(1,X (Xc0 (fc_dLens b (by assumption)) X0))],.r []] ((oldD b) !=(newD a)) (fun h9=> ?_) (fun h9=> ?_)
   ·
    exfalso
    omega
   ·
    refine .loop (α:=Int×(List DStep)×(List Elem)×(List DStep)×Int×(List DStep)×Int) [.r [],.le (.nB 232 0 4),.le (.nB 232 1 3),.r []] 306 (fun(y,o,x,ps,pu,qs,qu)=>([(12,.ptr 232 0),(13,.ptr 258 0),(14,.ptr 282 0)],[(232,.box [.row 240 o.length,.row 241 x.length,VI y]),(240,OR 4 dstepT o),(241,OR 3 elemT x),(258,.box [VL 4 dstepT ps,VI pu]),(282,.box [VL 4 dstepT qs,VI qu])])) (fun(y,o,x,ps,pu,qs,qu)=>JD ⟨o,x,y⟩ ps pu qs qu (joinDU (exD a) (exD b)).length (foldD ⟨[],[],0⟩ (joinDU (exD a) (exD b)))) (fun(y,o,x,ps,pu,qs,qu)=>jmD ps pu qs qu) (0,[],[],a,0,b,0) ?_ ?_
    ·
     exact st
    rintro⟨y,o,x,ps,pu,qs,qu⟩ I13 ih13
    try dsimp only at I13
    have kp:=kindD_cases I13.gp
    have kq:=kindD_cases I13.gq
    have hb:=I13.di.bd
    simp only at hb
    have hf:=I13.di.fl.1
    refine .bp [.r [(1,X (Xc4 [(0,258)] (fc_dKind ps pu) X0)),(5,Xv 1 (!(decide ((kindD ps)≥0))) (Xc4 [(0,282)] (fc_dKind qs qu) X0)),(6,Xv 1 (!(decide ((kindD ps)≥0))) X0),(7,X (Xk' (decide ((kindD ps)≥0))))]] (decide ((kindD ps)≥0)||decide ((kindD qs)≥0)) (fun h13=> ?_) (fun h13=> ?_)
    ·
     refine .bp [.r [(1,X (Xc4 [(0,258)] (fc_dKind ps pu) X0))]] ((kindD ps)==2) (fun h14=> ?_) (fun h14=> ?_)
     ·
      have lp0:0<ps.length:=by omega
      have k1:(ps.getD 0 default).kind=2:=by omega
      clear kp kq
      have sp:=szD_bd I13.gp I13.dp lp0
      obtain⟨s,hs⟩:∃z,tkE ps pu (szD (ps.getD 0 default)- pu)=z:=⟨_,rfl⟩
      have hn:s.n=szD (ps.getD 0 default)- pu:=by rw[←hs];exact tkE_n (by omega)
      have hC:=JD.cut I13 lp0 k1 rfl
      refine .back [.r [(4,X (Xc4 [(0,258)] (fc_dLeft ps pu (by omega) (by omega)) X0)),(5,X (Xc3 442 [(0,258)] (fc_dTake2 ps pu (szD (ps.getD 0 default)- pu) s hs (by omega) (by omega)) X0)),(7,X (Xn (y+s.n)))]] [(232,232),(240,240),(241,241),(258,258),(282,282)] (ih13 ((y+s.n),o,x,(tkL ps pu (szD (ps.getD 0 default)- pu)),(tkN ps pu (szD (ps.getD 0 default)- pu)),qs,qu) ?_ ?_)
      ·
       rw[hn];exact hC.1
      ·
       exact hC.2
     ·
      refine .bp [.r [(1,X (Xc4 [(0,282)] (fc_dKind qs qu) X0))]] ((kindD qs)==1) (fun h16=> ?_) (fun h16=> ?_)
      ·
       have lq0:0<qs.length:=by omega
       have k2:(qs.getD 0 default).kind=1:=by omega
       have k1:0<ps.length→(ps.getD 0 default).kind≠2:=fun h=>by omega
       clear kp kq
       have sq:=szD_bd I13.gq I13.dq lq0
       obtain⟨s,hs⟩:∃z,tkE qs qu (szD (qs.getD 0 default)- qu)=z:=⟨_,rfl⟩
       have hA:=JD.add I13 k1 lq0 k2 rfl
       have hA2:=JD.add2 I13 k1 lq0 k2 rfl
       have hAn:=an_up (tkE_an (u:=qu) (n:=szD (qs.getD 0 default)- qu) sq.2.2.2.2.2) (k:=400000000000) (by decide)
       rw[hs] at hA hAn
       have hAb:=hA.di.bd
       simp only[List.length_append] at hAb
       refine .back [.r [(2,X (Xc4 [(0,282)] (fc_dLeft qs qu (by omega) (by omega)) X0)),(3,X (Xc3 458 [(0,282)] (fc_dTake2 qs qu (szD (qs.getD 0 default)- qu) s hs (by omega) (by omega)) X0)),(5,X (Xc3 474 [(0,232),(1,240),(2,241)] (fc_dElems o x y s.elems (by assumption) (by omega)) X0))]] [(232,232),(240,240),(241,241),(258,258),(282,282)] (ih13 (y,o,(x++s.elems),ps,pu,(tkL qs qu (szD (qs.getD 0 default)- qu)),(tkN qs qu (szD (qs.getD 0 default)- qu))) ?_ ?_)
       ·
        exact hA
       ·
        exact hA2
      ·
       obtain⟨lp0,lq0⟩:=JD.two I13 (by omega) (fun h=>by omega) (fun h=>by omega)
       have k1:(ps.getD 0 default).kind≠2:=by omega
       have k3:(qs.getD 0 default).kind≠1:=by omega
       have sk:=fun _:Unit=>k01 I13.gp lp0 k1
       have tk:=fun _:Unit=>k02 I13.gq lq0 k3
       have hB1:=fun n=>JD.both (n:=n) I13 lp0 lq0 k1 k3
       clear kp kq h13 h14 h16 k1 k3
       have sp:=szD_bd I13.gp I13.dp lp0
       have sq:=szD_bd I13.gq I13.dq lq0
       obtain⟨m,hmm⟩:∃z,min (szD (ps.getD 0 default)- pu) (szD (qs.getD 0 default)- qu)=z:=⟨_,rfl⟩
       have hB:=hB1 m hmm.symm
       have m1:1≤m∧m≤szD (ps.getD 0 default)- pu∧m≤szD (qs.getD 0 default)- qu∧m≤100000000000:=by omega
       have m2:pu+m≤szD (ps.getD 0 default)∧qu+m≤szD (qs.getD 0 default):=by omega
       obtain⟨s,hs⟩:∃z,tkE ps pu m=z:=⟨_,rfl⟩
       obtain⟨t,ht⟩:∃z,tkE qs qu m=z:=⟨_,rfl⟩
       have ek1:=tkE_kind ps pu m
       have ek2:=tkE_kind qs qu m
       have ea1:=tkE_attrs ps pu m
       have ea2:=tkE_attrs qs qu m
       have hE0:=tkE_an (u:=pu) (n:=m) sp.2.2.2.2.2
       rw[hs] at ek1 ea1 hE0
       rw[ht] at ek2 ea2
       have al:s.attrs.length≤100000000000∧t.attrs.length≤100000000000:=by rw[ea1,ea2];omega
       rw[hs,←ea1,←ea2,←ek1,←ek2] at hB
       rw[←ek1] at sk
       rw[←ek2] at tk
       clear hB1
       refine .bp [.r [(1,X (Xc4 [(0,258)] (fc_dLeft ps pu (by omega) (by omega)) X0)),(3,X (Xc4 [(0,282)] (fc_dLeft qs qu (by omega) (by omega)) X0)),(4,X (Xmin (szD (ps.getD 0 default)- pu) (szD (qs.getD 0 default)- qu)))],.le (.eq 15 (VI (min (szD (ps.getD 0 default)- pu) (szD (qs.getD 0 default)- qu))) (VI m) (.of_eq (by rw[hmm]))),.r [(2,X (Xc3 498 [(0,258)] (fc_dTake2 ps pu m s hs (by omega) (by omega)) X0)),(5,X (Xc3 522 [(0,282)] (fc_dTake2 qs qu m t ht (by omega) (by omega)) X0))],.r [(5,Xv 1 (s.kind==0) X0),(6,Xv 1 (s.kind==0) X0),(7,X (Xk (s.kind==0)))]] ((s.kind==0)&&(t.kind==0)) (fun h20=> ?_) (fun h20=> ?_)
       ·
        have fl:=fm_len' botG s.attrs t.attrs
        have mk:=szD_k I13.gp lp0 (by rw[←ek1,h20.1];decide)
        refine .back [.r [(5,X (Xc1 674 (fc_bothA s.attrs t.attrs (by omega)) X0)),(6,X (Xc3 682 [(0,232),(1,240),(2,241)] (fc_dKeep o x y m (fm botG s.attrs t.attrs) (by omega) (by first|omega|simp) (by omega) (by first|assumption|exact kbd (by assumption))) X0))]] [(232,232),(240,240),(682,241),(258,258),(282,282)] (ih13 (0,(keepD (flushD ⟨o,x,y⟩) m (fm botG s.attrs t.attrs)),[],(tkL ps pu m),(tkN ps pu m),(tkL qs qu m),(tkN qs qu m)) ?_ ?_)
        ·
         exact hB.1.1 h20
        ·
         exact hB.2
       ·
        refine .bp [.r []] (s.kind==0) (fun h22=> ?_) (fun h22=> ?_)
        ·
         refine .back [.r [(3,X (Xn (y+m)))]] [(232,232),(240,240),(241,241),(258,258),(282,282)] (ih13 ((y+m),o,x,(tkL ps pu m),(tkN ps pu m),(tkL qs qu m),(tkN qs qu m)) ?_ ?_)
         ·
          exact hB.1.2.1 ⟨h22,(tk ()).resolve_left (h20.resolve_left (fun h=>h h22))⟩
         ·
          exact hB.2
        ·
         refine .bp [.r []] (t.kind==0) (fun h24=> ?_) (fun h24=> ?_)
         ·
          refine .at 698 [(232,232),(240,240),(241,241),(258,258),(282,282),(530,530),(538,538)] ([(12,.ptr 232 0),(13,.ptr 258 0),(14,.ptr 282 0),(16,.ptr 530 0),(17,.ptr 538 0),(114,VB (t.kind==0))],[(232,.box [.row 240 o.length,.row 241 x.length,VI y]),(240,OR 4 dstepT o),(241,OR 3 elemT x),(258,.box [VL 4 dstepT (tkL ps pu m),VI (tkN ps pu m)]),(282,.box [VL 4 dstepT (tkL qs qu m),VI (tkN qs qu m)]),(530,.box [VI s.kind,VI s.n,VL 2 attrT s.attrs,VL 3 elemT s.elems]),(538,.box [VI t.kind,VI t.n,VL 2 attrT t.attrs,VL 3 elemT t.elems])]) ?_
          have hE1:∀x∈s.elems,x.attrs.length+t.attrs.length<1099511627776:=fun x hx=>by have:=hE0 x hx;omega
          have hE2:=an_chg hE0 (c:=t.attrs) (k:=400000000000) (by omega)
          have hE4:(List.map (chgE t.attrs) s.elems).length=s.elems.length:=List.length_map _
          have s1:=(sk ()).resolve_left h22
          have hE3:s.elems.length=m.toNat:=by rw[←hs];exact tkE_len (by rw[←ek1];exact s1) sp.1 (by omega) m2.1
          have hA:=hB.1.2.2.1 ⟨s1,h24⟩
          have hAb:=hA.di.bd
          simp only[List.length_append,List.length_map] at hAb
          clear h20 h22
          refine .back [.r [(4,X (Xc1 730 (fc_changed s.elems t.attrs (by omega) (by assumption)) X0)),(5,X (Xc3 738 [(0,232),(1,240),(2,241)] (fc_dElems o x y (List.map (chgE t.attrs) s.elems) (by assumption) (by omega)) X0))]] [(232,232),(240,240),(241,241),(258,258),(282,282)] (ih13 (y,o,(x++(List.map (chgE t.attrs) s.elems)),(tkL ps pu m),(tkN ps pu m),(tkL qs qu m),(tkN qs qu m)) ?_ ?_)
          ·
           exact hA
          ·
           exact hB.2
         ·
          refine .at 698 [(232,232),(240,240),(241,241),(258,258),(282,282),(530,530),(538,538)] ([(12,.ptr 232 0),(13,.ptr 258 0),(14,.ptr 282 0),(16,.ptr 530 0),(17,.ptr 538 0),(114,VB (t.kind==0))],[(232,.box [.row 240 o.length,.row 241 x.length,VI y]),(240,OR 4 dstepT o),(241,OR 3 elemT x),(258,.box [VL 4 dstepT (tkL ps pu m),VI (tkN ps pu m)]),(282,.box [VL 4 dstepT (tkL qs qu m),VI (tkN qs qu m)]),(530,.box [VI s.kind,VI s.n,VL 2 attrT s.attrs,VL 3 elemT s.elems]),(538,.box [VI t.kind,VI t.n,VL 2 attrT t.attrs,VL 3 elemT t.elems])]) ?_
          refine .back [] [(232,232),(240,240),(241,241),(258,258),(282,282)] (ih13 (y,o,x,(tkL ps pu m),(tkN ps pu m),(tkL qs qu m),(tkN qs qu m)) ?_ ?_)
          ·
           exact hB.1.2.2.2 ⟨(sk ()).resolve_left h22,(tk ()).resolve_left h24⟩
          ·
           exact hB.2
    ·
     have hG:=JD.done I13 (by omega) (by omega)
     have hfx:flushD ⟨o,x,y⟩=joinD a b:=by rw[hG];rfl
     have hcd:checkD (flushD ⟨o,x,y⟩)=0:=by rw[hfx];exact cj
     have hfl2:=I13.di.fl.2
     have e1:((joinD a b):List DStep)=(flushD ⟨o,x,y⟩):=by
      rw[hfx]
     exact .finE [.r [(0,X (Xc3 370 [(0,232),(1,240),(2,241)] (fc_dDone o x y (by omega) (by assumption) (by assumption)) X0))],.le (.fr 4 [(((flushD ⟨o,x,y⟩).length):Nat)=(List.map dstepT (flushD ⟨o,x,y⟩)).length] ⟨lm,trivial⟩)] [] (fun z0:List DStep=>(.tup [VL 4 dstepT z0,VI 0],[])) _ _ e1
end Go.Ch
end
section
set_option linter.unusedVariables false
set_option linter.unusedSimpArgs false
set_option maxRecDepth 100000
set_option maxHeartbeats 4000000
open Go Go.Proofs Go.Ab
namespace Go.Ch
theorem fc_index(d:Doc)(k:Int)(hn:d.nodes.length≤1048576)(hs:SortN d.nodes):FC Tryz.prog 44 [.t (docT d),VI k] (app emp []) (VI (ixN d.nodes k)) (app emp []):=by
 refine .go Tryz.f44 ?_
 refine .bp [.r [],.r [(2,X (Xc0 (fc_findN d k (by assumption) (by assumption)) X0))],.r []] (hasN (d).nodes k) (fun h2=> ?_) (fun h2=> ?_)
 ·
  have e1:((ixN d.nodes k):Int)=(lobN (d).nodes k:Int):=by
   unfold ixN;rw[if_pos h2]
  exact .finE [.r []] [] (fun z0:Int=>(VI z0,[])) _ _ e1
 ·
  have e2:((ixN d.nodes k):Int)= -1:=by
   unfold ixN;rw[if_neg (by rw[h2];decide)]
  exact .finE [.r []] [] (fun z0:Int=>(VI z0,[])) _ _ e2
theorem fc_sameF0(l:List Elem):FC Tryz.prog 187 [VL 3 elemT l,VN] (app emp []) (VB ((l.length:Int)==0)) (app emp []):=by
 refine .go Tryz.f187 ?_
 refine .len 0 (fun hl0=> ?_)
 refine .bp [.r [],.r [(1,X (Xl elemT l))]] ((l.length:Int) !=0) (fun h1=> ?_) (fun h1=> ?_)
 ·
  have e1:(((l.length:Int)==0):Bool)=false:=by
   rw[beq_eq_false_iff_ne];exact h1
  exact .finE [.r []] [] (fun z0:Bool=>(VB z0,[])) _ _ e1
 ·
  refine .loop (α:=Nat) [.r [(1,X (Xl elemT l))]] 72 (fun i=>([(1,VN),(13,VL 3 elemT l),(14,VI (l.length:Int)),(15,VI (i:Int))],[])) (fun i=>i=0) (fun i=>0) (0:Nat) ?_ ?_
  ·
   rfl
  rintro i I4 ih4
  try dsimp only at I4
  refine .bp [.r []] (decide ((i:Int)< (l.length:Int))) (fun h4=> ?_) (fun h4=> ?_)
  ·
   exfalso
   omega
  ·
   have e2:(((l.length:Int)==0):Bool)=true:=by
    rw[beq_iff_eq];exact h1
   exact .finE [.r []] [] (fun z0:Bool=>(VB z0,[])) _ _ e2
theorem fc_eqO0(l:List DOp):FC Tryz.prog 188 [VL 8 dopT l,VN] (app emp []) (VB ((l.length:Int)==0)) (app emp []):=by
 refine .go Tryz.f188 ?_
 refine .len 0 (fun hl0=> ?_)
 refine .bp [.r [],.r [(1,X (Xl dopT l))]] ((l.length:Int) !=0) (fun h1=> ?_) (fun h1=> ?_)
 ·
  have e1:(((l.length:Int)==0):Bool)=false:=by
   rw[beq_eq_false_iff_ne];exact h1
  exact .finE [.r []] [] (fun z0:Bool=>(VB z0,[])) _ _ e1
 ·
  refine .loop (α:=Nat) [.r [(1,X (Xl dopT l))]] 72 (fun i=>([(0,VL 8 dopT l),(1,VN),(12,VI (l.length:Int)),(13,VI (i:Int))],[])) (fun i=>i=0) (fun i=>0) (0:Nat) ?_ ?_
  ·
   rfl
  rintro i I4 ih4
  try dsimp only at I4
  refine .bp [.r []] (decide ((i:Int)< (l.length:Int))) (fun h4=> ?_) (fun h4=> ?_)
  ·
   exfalso
   omega
  ·
   have e2:(((l.length:Int)==0):Bool)=true:=by
    rw[beq_iff_eq];exact h1
   exact .finE [.r []] [] (fun z0:Bool=>(VB z0,[])) _ _ e2
theorem fc_sameN0(n:Node):FC Tryz.prog 138 [.t (nodeT n),.t (.agg [TI 0,TI 0,TN,TN,TI 0,TI 0,TN,TN,TN])] (app emp []) (VB (zeroNd n)) (app emp []):=by
 refine .go Tryz.f138 ?_
 have e1:((zeroNd n):Bool)=((((((n.id==0)&&(n.kind==0))&&(sameL n.attrs []))&&(((n.flow).length:Int)==0))&&(zeroG n.grid))&&(((n.draw).length:Int)==0)):=by
  rfl
 exact .finE [.r [],.r [(7,Xv 1 (n.id==0) X0),(9,Xv 1 (n.id==0) X0),(10,Xv 2 (n.id==0) X0),(11,X (Xk (n.id==0))),(14,Xv 1 ((n.id==0)&&(n.kind==0)) X0),(16,Xv 1 ((n.id==0)&&(n.kind==0)) X0),(17,Xv 2 ((n.id==0)&&(n.kind==0)) (Xc0 (.nil 1 2 (fc_attrSame n.attrs [])) X0)),(18,X (Xk ((n.id==0)&&(n.kind==0)))),(21,Xv 1 (((n.id==0)&&(n.kind==0))&&(sameL n.attrs [])) X0),(23,Xv 1 (((n.id==0)&&(n.kind==0))&&(sameL n.attrs [])) X0),(24,Xv 2 (((n.id==0)&&(n.kind==0))&&(sameL n.attrs [])) (Xc0 (fc_sameF0 n.flow) X0)),(25,X (Xk (((n.id==0)&&(n.kind==0))&&(sameL n.attrs [])))),(28,Xv 1 ((((n.id==0)&&(n.kind==0))&&(sameL n.attrs []))&&(((n.flow).length:Int)==0)) X0),(30,Xv 1 ((((n.id==0)&&(n.kind==0))&&(sameL n.attrs []))&&(((n.flow).length:Int)==0)) X0),(31,Xv 2 ((((n.id==0)&&(n.kind==0))&&(sameL n.attrs []))&&(((n.flow).length:Int)==0)) (Xc0 (fc_sameG0 n.grid) X0)),(32,X (Xk ((((n.id==0)&&(n.kind==0))&&(sameL n.attrs []))&&(((n.flow).length:Int)==0)))),(35,Xv 1 (((((n.id==0)&&(n.kind==0))&&(sameL n.attrs []))&&(((n.flow).length:Int)==0))&&(zeroG n.grid)) X0),(37,Xv 1 (((((n.id==0)&&(n.kind==0))&&(sameL n.attrs []))&&(((n.flow).length:Int)==0))&&(zeroG n.grid)) X0),(38,Xv 2 (((((n.id==0)&&(n.kind==0))&&(sameL n.attrs []))&&(((n.flow).length:Int)==0))&&(zeroG n.grid)) (Xc0 (fc_eqO0 n.draw) X0)),(39,X (Xk (((((n.id==0)&&(n.kind==0))&&(sameL n.attrs []))&&(((n.flow).length:Int)==0))&&(zeroG n.grid))))]] [] (fun z0:Bool=>(VB z0,[])) _ _ e1
theorem fc_unused(o:EOp)(hl:EopL o):FC Tryz.prog 84 [.t (eopT o)] (app emp []) (VB (unuO o)) (app emp []):=by
 refine .go Tryz.f84 ?_
 obtain⟨l1,l2,l3,l4,l5⟩:=hl
 have e1:((unuO o):Bool)=(((((((o.kind==0)&&(o.node !=0))|| ((o.kind !=0)&& !(zeroNd o.nw)))|| ((o.kind !=1)&&decide ((o.attrs.length:Int)> 0)))|| ((o.kind !=2)&&decide ((o.steps.length:Int)> 0)))|| ((o.kind !=3)&&decide ((((((o.grid.rows.length:Int)+(o.grid.cols.length:Int))+(o.grid.cells.length:Int))+(o.grid.split.length:Int))+(o.grid.merge.length:Int))> 0)))|| ((o.kind !=4)&&decide ((o.draw.length:Int)> 0))):=by
  rfl
 exact .finE [.r [],.r [],.r [(2,X (Xl stepT o.grid.rows)),(5,X (Xl stepT o.grid.cols)),(6,X (Xn ((o.grid.rows.length:Int)+(o.grid.cols.length:Int)))),(9,X (Xl cellT o.grid.cells)),(10,X (Xn (((o.grid.rows.length:Int)+(o.grid.cols.length:Int))+(o.grid.cells.length:Int)))),(13,X (Xl rectT o.grid.split)),(14,X (Xn ((((o.grid.rows.length:Int)+(o.grid.cols.length:Int))+(o.grid.cells.length:Int))+(o.grid.split.length:Int)))),(17,X (Xl rectT o.grid.merge)),(18,X (Xn (((((o.grid.rows.length:Int)+(o.grid.cols.length:Int))+(o.grid.cells.length:Int))+(o.grid.split.length:Int))+(o.grid.merge.length:Int))))],.r [(5,Xv 1 (o.kind==0) X0),(6,Xv 1 (o.kind==0) X0),(7,X (Xk (o.kind==0))),(10,Xv 1 (!((o.kind==0)&&(o.node !=0))) X0),(11,Xv 1 (!((o.kind==0)&&(o.node !=0))) X0),(12,Xv 1 (!((o.kind==0)&&(o.node !=0))) X0),(14,Xv 1 ((!((o.kind==0)&&(o.node !=0)))&&(o.kind !=0)) X0),(16,Xv 2 ((!((o.kind==0)&&(o.node !=0)))&&(o.kind !=0)) (Xc0 (fc_sameN0 o.nw) X0)),(17,Xv 1 ((!((o.kind==0)&&(o.node !=0)))&&(o.kind !=0)) X0),(18,Xka (!((o.kind==0)&&(o.node !=0))) (o.kind !=0)),(19,X (Xk' ((o.kind==0)&&(o.node !=0)))),(22,Xv 1 (!(((o.kind==0)&&(o.node !=0))|| ((o.kind !=0)&& !(zeroNd o.nw)))) X0),(23,Xv 1 (!(((o.kind==0)&&(o.node !=0))|| ((o.kind !=0)&& !(zeroNd o.nw)))) X0),(24,Xv 1 (!(((o.kind==0)&&(o.node !=0))|| ((o.kind !=0)&& !(zeroNd o.nw)))) X0),(26,Xv 1 ((!(((o.kind==0)&&(o.node !=0))|| ((o.kind !=0)&& !(zeroNd o.nw))))&&(o.kind !=1)) X0),(27,Xv 1 ((!(((o.kind==0)&&(o.node !=0))|| ((o.kind !=0)&& !(zeroNd o.nw))))&&(o.kind !=1)) (Xl attrT o.attrs)),(28,Xv 1 ((!(((o.kind==0)&&(o.node !=0))|| ((o.kind !=0)&& !(zeroNd o.nw))))&&(o.kind !=1)) X0),(29,Xka (!(((o.kind==0)&&(o.node !=0))|| ((o.kind !=0)&& !(zeroNd o.nw)))) (o.kind !=1)),(30,X (Xk' (((o.kind==0)&&(o.node !=0))|| ((o.kind !=0)&& !(zeroNd o.nw))))),(33,Xv 1 (!((((o.kind==0)&&(o.node !=0))|| ((o.kind !=0)&& !(zeroNd o.nw)))|| ((o.kind !=1)&&decide ((o.attrs.length:Int)> 0)))) X0),(34,Xv 1 (!((((o.kind==0)&&(o.node !=0))|| ((o.kind !=0)&& !(zeroNd o.nw)))|| ((o.kind !=1)&&decide ((o.attrs.length:Int)> 0)))) X0),(35,Xv 1 (!((((o.kind==0)&&(o.node !=0))|| ((o.kind !=0)&& !(zeroNd o.nw)))|| ((o.kind !=1)&&decide ((o.attrs.length:Int)> 0)))) X0),(37,Xv 1 ((!((((o.kind==0)&&(o.node !=0))|| ((o.kind !=0)&& !(zeroNd o.nw)))|| ((o.kind !=1)&&decide ((o.attrs.length:Int)> 0))))&&(o.kind !=2)) X0),(38,Xv 1 ((!((((o.kind==0)&&(o.node !=0))|| ((o.kind !=0)&& !(zeroNd o.nw)))|| ((o.kind !=1)&&decide ((o.attrs.length:Int)> 0))))&&(o.kind !=2)) (Xl dstepT o.steps)),(39,Xv 1 ((!((((o.kind==0)&&(o.node !=0))|| ((o.kind !=0)&& !(zeroNd o.nw)))|| ((o.kind !=1)&&decide ((o.attrs.length:Int)> 0))))&&(o.kind !=2)) X0),(40,Xka (!((((o.kind==0)&&(o.node !=0))|| ((o.kind !=0)&& !(zeroNd o.nw)))|| ((o.kind !=1)&&decide ((o.attrs.length:Int)> 0)))) (o.kind !=2)),(41,X (Xk' ((((o.kind==0)&&(o.node !=0))|| ((o.kind !=0)&& !(zeroNd o.nw)))|| ((o.kind !=1)&&decide ((o.attrs.length:Int)> 0))))),(44,Xv 1 (!(((((o.kind==0)&&(o.node !=0))|| ((o.kind !=0)&& !(zeroNd o.nw)))|| ((o.kind !=1)&&decide ((o.attrs.length:Int)> 0)))|| ((o.kind !=2)&&decide ((o.steps.length:Int)> 0)))) X0),(45,Xv 1 (!(((((o.kind==0)&&(o.node !=0))|| ((o.kind !=0)&& !(zeroNd o.nw)))|| ((o.kind !=1)&&decide ((o.attrs.length:Int)> 0)))|| ((o.kind !=2)&&decide ((o.steps.length:Int)> 0)))) X0),(46,Xv 1 (!(((((o.kind==0)&&(o.node !=0))|| ((o.kind !=0)&& !(zeroNd o.nw)))|| ((o.kind !=1)&&decide ((o.attrs.length:Int)> 0)))|| ((o.kind !=2)&&decide ((o.steps.length:Int)> 0)))) X0),(48,Xka (!(((((o.kind==0)&&(o.node !=0))|| ((o.kind !=0)&& !(zeroNd o.nw)))|| ((o.kind !=1)&&decide ((o.attrs.length:Int)> 0)))|| ((o.kind !=2)&&decide ((o.steps.length:Int)> 0)))) (o.kind !=3)),(49,X (Xk' (((((o.kind==0)&&(o.node !=0))|| ((o.kind !=0)&& !(zeroNd o.nw)))|| ((o.kind !=1)&&decide ((o.attrs.length:Int)> 0)))|| ((o.kind !=2)&&decide ((o.steps.length:Int)> 0))))),(52,Xv 1 (!((((((o.kind==0)&&(o.node !=0))|| ((o.kind !=0)&& !(zeroNd o.nw)))|| ((o.kind !=1)&&decide ((o.attrs.length:Int)> 0)))|| ((o.kind !=2)&&decide ((o.steps.length:Int)> 0)))|| ((o.kind !=3)&&decide ((((((o.grid.rows.length:Int)+(o.grid.cols.length:Int))+(o.grid.cells.length:Int))+(o.grid.split.length:Int))+(o.grid.merge.length:Int))> 0)))) X0),(53,Xv 1 (!((((((o.kind==0)&&(o.node !=0))|| ((o.kind !=0)&& !(zeroNd o.nw)))|| ((o.kind !=1)&&decide ((o.attrs.length:Int)> 0)))|| ((o.kind !=2)&&decide ((o.steps.length:Int)> 0)))|| ((o.kind !=3)&&decide ((((((o.grid.rows.length:Int)+(o.grid.cols.length:Int))+(o.grid.cells.length:Int))+(o.grid.split.length:Int))+(o.grid.merge.length:Int))> 0)))) X0),(54,Xv 1 (!((((((o.kind==0)&&(o.node !=0))|| ((o.kind !=0)&& !(zeroNd o.nw)))|| ((o.kind !=1)&&decide ((o.attrs.length:Int)> 0)))|| ((o.kind !=2)&&decide ((o.steps.length:Int)> 0)))|| ((o.kind !=3)&&decide ((((((o.grid.rows.length:Int)+(o.grid.cols.length:Int))+(o.grid.cells.length:Int))+(o.grid.split.length:Int))+(o.grid.merge.length:Int))> 0)))) X0),(56,Xv 1 ((!((((((o.kind==0)&&(o.node !=0))|| ((o.kind !=0)&& !(zeroNd o.nw)))|| ((o.kind !=1)&&decide ((o.attrs.length:Int)> 0)))|| ((o.kind !=2)&&decide ((o.steps.length:Int)> 0)))|| ((o.kind !=3)&&decide ((((((o.grid.rows.length:Int)+(o.grid.cols.length:Int))+(o.grid.cells.length:Int))+(o.grid.split.length:Int))+(o.grid.merge.length:Int))> 0))))&&(o.kind !=4)) X0),(57,Xv 1 ((!((((((o.kind==0)&&(o.node !=0))|| ((o.kind !=0)&& !(zeroNd o.nw)))|| ((o.kind !=1)&&decide ((o.attrs.length:Int)> 0)))|| ((o.kind !=2)&&decide ((o.steps.length:Int)> 0)))|| ((o.kind !=3)&&decide ((((((o.grid.rows.length:Int)+(o.grid.cols.length:Int))+(o.grid.cells.length:Int))+(o.grid.split.length:Int))+(o.grid.merge.length:Int))> 0))))&&(o.kind !=4)) (Xl dopT o.draw)),(58,Xv 1 ((!((((((o.kind==0)&&(o.node !=0))|| ((o.kind !=0)&& !(zeroNd o.nw)))|| ((o.kind !=1)&&decide ((o.attrs.length:Int)> 0)))|| ((o.kind !=2)&&decide ((o.steps.length:Int)> 0)))|| ((o.kind !=3)&&decide ((((((o.grid.rows.length:Int)+(o.grid.cols.length:Int))+(o.grid.cells.length:Int))+(o.grid.split.length:Int))+(o.grid.merge.length:Int))> 0))))&&(o.kind !=4)) X0),(59,Xka (!((((((o.kind==0)&&(o.node !=0))|| ((o.kind !=0)&& !(zeroNd o.nw)))|| ((o.kind !=1)&&decide ((o.attrs.length:Int)> 0)))|| ((o.kind !=2)&&decide ((o.steps.length:Int)> 0)))|| ((o.kind !=3)&&decide ((((((o.grid.rows.length:Int)+(o.grid.cols.length:Int))+(o.grid.cells.length:Int))+(o.grid.split.length:Int))+(o.grid.merge.length:Int))> 0)))) (o.kind !=4)),(60,X (Xk' ((((((o.kind==0)&&(o.node !=0))|| ((o.kind !=0)&& !(zeroNd o.nw)))|| ((o.kind !=1)&&decide ((o.attrs.length:Int)> 0)))|| ((o.kind !=2)&&decide ((o.steps.length:Int)> 0)))|| ((o.kind !=3)&&decide ((((((o.grid.rows.length:Int)+(o.grid.cols.length:Int))+(o.grid.cells.length:Int))+(o.grid.split.length:Int))+(o.grid.merge.length:Int))> 0)))))]] [] (fun z0:Bool=>(VB z0,[])) _ _ e1
end Go.Ch
end
