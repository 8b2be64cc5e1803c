/- Parts of the proof: EdOne3, EdOne4, EdApp, EditFirst, EdFirst, EdProbe, EdGrown, EdStart, EdChanges, EditUnit, EditStp, EditTyp, EditValid, EditGrid, EditKeep, EditOps, EditRun. -/
import Derived.Test.YtojjoigepejggaaGreatDoorM1
import Derived.Test.YtojjoigepejggaaGreatDoorM2
import Derived.Test.YtojjoigepejggaaGreatDoorM3
import Derived.Test.YtojjoigepejggaaGreatDoorM4
import Derived.Test.YtojjoigepejggaaGreatDoorM5
import Derived.Test.YtojjoigepejggaaGreatDoorM6
import Derived.Test.YtojjoigepejggaaGreatDoorM7
import Derived.Test.YtojjoigepejggaaGreatDoorM8
import Derived.Test.YtojjoigepejggaaGreatDoorM9
section
set_option linter.unusedVariables false
set_option linter.unusedSimpArgs false
set_option maxRecDepth 100000
set_option maxHeartbeats 4000000
open Go Go.Proofs Go.Ab
namespace Go.Ch
theorem fc_egrids(l:List Node)(i:Nat)(g:GEd)(hi:i<l.length)(hb:GrB l i g):FC Tryz.prog 47 [.ptr 0 0,.eptr 1 l.length i 0,.t (gedT g)] (app emp [(0,.box [.row 1 l.length]),(1,OR 9 nodeT l)]) (VI (gridsE l (l.getD i default) g)) (app emp [(0,.box [.row 1 ((gridsR l i g).length)]),(1,OR 9 nodeT (gridsR l i g))]):=by
 refine .go Tryz.f47 ?_
 obtain⟨hl1,hs,hg,hm,hx,l1,l2,a1,a2,hk⟩:=hb
 refine .bp [.r [],.r [(3,X (Xe nodeT l i)),(4,X (Xc0 (fc_Grids (((l.getD i default)).kind)) X0))]] (!(hasG (((l.getD i default)).kind))) (fun h1=> ?_) (fun h1=> ?_)
 ·
  have T:=gr_err (i:=i) (gr_1 (g:=g) h1) (by decide)
  have e1:((gridsR l i g).length:Nat)=l.length:=by
   rw[T.1]
  have e2:((gridsR l i g):List Node)=l:=by
   exact T.1
  have e3:((gridsE l (l.getD i default) g):Int)=8:=by
   exact T.2
  exact .finE [.r []] [(0,0),(1,1)] (fun((z0,z1,z2):Nat×(List Node)×Int)=>(VI z2,[(0,.box [.row 1 z0]),(1,OR 9 nodeT z1)])) _ _ (pr e1 (pr e2 e3))
 ·
  refine .bp [.r [(3,X (Xe nodeT l i)),(6,X (Xc0 (fc_cellCk (((l.getD i default)).kind) g.cells) X0))],.r []] ((cellK (((l.getD i default)).kind) g.cells 0) !=0) (fun h4=> ?_) (fun h4=> ?_)
  ·
   have T:=gr_err (i:=i) (gr_2 h1 h4) h4
   have e4:((gridsR l i g).length:Nat)=l.length:=by
    rw[T.1]
   have e5:((gridsR l i g):List Node)=l:=by
    exact T.1
   have e6:((gridsE l (l.getD i default) g):Int)=(cellK (((l.getD i default)).kind) g.cells 0):=by
    exact T.2
   exact .finE [.r []] [(0,0),(1,1)] (fun((z0,z1,z2):Nat×(List Node)×Int)=>(VI z2,[(0,.box [.row 1 z0]),(1,OR 9 nodeT z1)])) _ _ (pr e4 (pr e5 e6))
  ·
   refine .bp [.r [(3,X (Xe nodeT l i)),(5,X (Xc0 (fc_fit (((l.getD i default)).grid) g (by assumption) (by assumption) (by assumption)) X0))],.r []] ((fitsE (((l.getD i default)).grid) g) !=0) (fun h7=> ?_) (fun h7=> ?_)
   ·
    have T:=gr_err (i:=i) (gr_3 h1 h4 h7) h7
    have e7:((gridsR l i g).length:Nat)=l.length:=by
     rw[T.1]
    have e8:((gridsR l i g):List Node)=l:=by
     exact T.1
    have e9:((gridsE l (l.getD i default) g):Int)=(fitsE (((l.getD i default)).grid) g):=by
     exact T.2
    exact .finE [.r []] [(0,0),(1,1)] (fun((z0,z1,z2):Nat×(List Node)×Int)=>(VI z2,[(0,.box [.row 1 z0]),(1,OR 9 nodeT z1)])) _ _ (pr e7 (pr e8 e9))
   ·
    have F:=gr_4 (l:=l) h1 h4 h7
    have hr:=RawT.of h7 hm hg l1 l2 a1 a2
    refine .loop (α:=Nat) [.r [(2,X (Xl cellT g.cells))]] 250 (fun b=>([(0,.ptr 0 0),(1,.eptr 1 l.length i 0),(5,.ptr 2 0),(43,VL 5 cellT g.cells),(44,VI (g.cells.length:Int)),(45,VI (b:Int))],[(0,.box [.row 1 l.length]),(1,OR 9 nodeT l),(2,.box [VL 2 stepT g.rows,VL 2 stepT g.cols,VL 5 cellT g.cells,VL 4 rectT g.split,VL 4 rectT g.merge])])) (fun b=>b≤g.cells.length∧firstE (newC l (l.getD i default).kind) g.cells=firstE (newC l (l.getD i default).kind) (g.cells.drop b)) (fun b=>g.cells.length-b) (0:Nat) ?_ ?_
    ·
     exact⟨by omega,rfl⟩
    rintro b I10 ih10
    try dsimp only at I10
    refine .bp [.r []] (decide ((b:Int)< (g.cells.length:Int))) (fun h10=> ?_) (fun h10=> ?_)
    ·
     refine .bp [.r [(0,X (Xi cellT g.cells (b:Int)))],.r []] ((((g.cells.getD b default)).ref)==0) (fun h12=> ?_) (fun h12=> ?_)
     ·
      refine .back [.r [(0,X (Xn ((b:Int)+1)))]] [(0,0),(1,1),(2,2)] (ih10 ((b+1):Nat) ?_ ?_)
      ·
       exact⟨by omega,I10.2.trans (firstE_0 _ (by omega) (by first|exact newC_0 h12|exact(newC_r h12).trans h14))⟩
      ·
       ((try dsimp only);omega)
     ·
      refine .bp [.r [(6,X (Xe nodeT l i)),(10,X (Xc0 (fc_refsCk ({nodes:=l}:Doc) (((l.getD i default)).kind) [((g.cells.getD b default)).ref] (by assumption) (by assumption)) (rowC nodeT l (rowC intT [((g.cells.getD b default)).ref] X0))))],.r []] ((refsE (({nodes:=l}:Doc)).nodes (((l.getD i default)).kind) [((g.cells.getD b default)).ref] 0) !=0) (fun h14=> ?_) (fun h14=> ?_)
      ·
       have hx:newC l (l.getD i default).kind (g.cells.getD b default)=refsE l (l.getD i default).kind [(g.cells.getD b default).ref] 0:=newC_r h12
       have T:=gr_err (i:=i) (F.trans (I10.2.trans (by rw[firstE_at _ (by omega),hx,if_pos h14]))) h14
       have e10:((gridsR l i g).length:Nat)=l.length:=by
        rw[T.1]
       have e11:((gridsR l i g):List Node)=l:=by
        exact T.1
       have e12:((gridsE l (l.getD i default) g):Int)=(refsE (({nodes:=l}:Doc)).nodes (((l.getD i default)).kind) [((g.cells.getD b default)).ref] 0):=by
        exact T.2
       exact .finE [.r []] [(0,0),(1,1)] (fun((z0,z1,z2):Nat×(List Node)×Int)=>(VI z2,[(0,.box [.row 1 z0]),(1,OR 9 nodeT z1)])) _ _ (pr e10 (pr e11 e12))
      ·
       refine .back [.r [(0,X (Xn ((b:Int)+1)))]] [(0,0),(1,1),(2,2)] (ih10 ((b+1):Nat) ?_ ?_)
       ·
        exact⟨by omega,I10.2.trans (firstE_0 _ (by omega) (by first|exact newC_0 h12|exact(newC_r h12).trans h14))⟩
       ·
        ((try dsimp only);omega)
    ·
     refine .bp [.r [(3,X (Xe nodeT l i))]] ((((l.getD i default)).kind)==2) (fun h17=> ?_) (fun h17=> ?_)
     ·
      have T:=gr_ok (i:=i) (F.trans (I10.2.trans (firstE_end _ (by omega))))
      have e13:((gridsR l i g).length:Nat)=l.length:=by
       rw[T.1];exact List.length_set ..
      have e14:((gridsR l i g):List Node)=(l.set i ({id:=((l.getD i default)).id,kind:=((l.getD i default)).kind,attrs:=((l.getD i default)).attrs,flow:=((l.getD i default)).flow,grid:=((rawT (((l.getD i default)).grid) g)),draw:=((l.getD i default)).draw}:Node)):=by
       exact T.1
      have e15:((gridsE l (l.getD i default) g):Int)=0:=by
       exact T.2
      exact .finE [.r [(4,X (Xe nodeT l i)),(6,X (Xc1 346 (fc_graw (((l.getD i default)).grid) g (by assumption)) X0)),(9,X (Xs 9 nodeT 1 l i ({id:=((l.getD i default)).id,kind:=((l.getD i default)).kind,attrs:=((l.getD i default)).attrs,flow:=((l.getD i default)).flow,grid:=((rawT (((l.getD i default)).grid) g)),draw:=((l.getD i default)).draw}:Node)))],.r []] [(0,0),(1,1)] (fun((z0,z1,z2):Nat×(List Node)×Int)=>(VI z2,[(0,.box [.row 1 z0]),(1,OR 9 nodeT z1)])) _ _ (pr e13 (pr e14 e15))
     ·
      exfalso
      exact hasG_2 h1 hk h17
end Go.Ch
end
section
set_option linter.unusedVariables false
set_option linter.unusedSimpArgs false
set_option maxRecDepth 100000
set_option maxHeartbeats 4000000
open Go Go.Proofs Go.Ab
namespace Go.Ch
theorem fc_eone(l:List Node)(o:EOp)(hb:OneB l o):FC Tryz.prog 21 [.ptr 0 0,.t (eopT o)] (app emp [(0,.box [.row 1 l.length]),(1,OR 9 nodeT l)]) (VI (oneE l o)) (app emp [(0,.box [.row 1 ((oneL l o).length)]),(1,OR 9 nodeT (oneL l o))]):=by
 refine .go Tryz.f21 ?_
 obtain⟨hl1,hl2,hs⟩:=hb.base
 refine .bp [.r [],.r []] (o.kind==0) (fun h1=> ?_) (fun h1=> ?_)
 ·
  obtain⟨n1,n2⟩:=hb.nw h1
  have T:=one_0 (l:=l) h1
  have e1:((oneL l o).length:Nat)=(insR l o.nw).length:=by
   rw[T.1]
  have e2:((oneL l o):List Node)=(insR l o.nw):=by
   exact T.1
  have e3:((oneE l o):Int)=(adnE l o.nw):=by
   exact T.2
  exact .finE [.r [(3,X (Xc3 66 [(0,0),(1,1)] (fc_einsert l o.nw (by omega) (by assumption) (by assumption) (by assumption)) X0))]] [(0,0),(1,1)] (fun((z0,z1,z2):Nat×(List Node)×Int)=>(VI z2,[(0,.box [.row 1 z0]),(1,OR 9 nodeT z1)])) _ _ (pr e1 (pr e2 e3))
 ·
  refine .bp [.r [(5,X (Xc0 (fc_index ({nodes:=l}:Doc) o.node (by assumption) (by assumption)) (rowC nodeT l X0)))],.r []] (decide ((ixN (({nodes:=l}:Doc)).nodes o.node)< 0)) (fun h4=> ?_) (fun h4=> ?_)
  ·
   have T:=one_1 h1 (ixN_lt.1 h4)
   have e4:((oneL l o).length:Nat)=l.length:=by
    rw[T.1]
   have e5:((oneL l o):List Node)=l:=by
    exact T.1
   have e6:((oneE l o):Int)=7:=by
    exact T.2
   exact .finE [.r []] [(0,0),(1,1)] (fun((z0,z1,z2):Nat×(List Node)×Int)=>(VI z2,[(0,.box [.row 1 z0]),(1,OR 9 nodeT z1)])) _ _ (pr e4 (pr e5 e6))
  ·
   have hh:=ixN_ge.1 h4
   have hlt:=(hasN_iff.1 hh).1
   have hbn:=hb.nd hh
   refine .bp [.le (.eq 5 (VI (ixN (({nodes:=l}:Doc)).nodes o.node)) (VI ((lobN l o.node):Int)) (.of_eq (by rw[ixN_has hh]))),.r [(5,X (Xp nodeT l ((lobN l o.node):Int)))],.r [],.r []] (o.kind==1) (fun h8=> ?_) (fun h8=> ?_)
   ·
    have T:=one_2 hh h8
    have e7:((oneL l o).length:Nat)=l.length:=by
     rw[T.1];exact List.length_set ..
    have e8:((oneL l o):List Node)=(l.set (lobN l o.node) ({id:=((l.getD (lobN l o.node) default)).id,kind:=((l.getD (lobN l o.node) default)).kind,attrs:=(fm rawG (((l.getD (lobN l o.node) default)).attrs) o.attrs),flow:=((l.getD (lobN l o.node) default)).flow,grid:=(((l.getD (lobN l o.node) default)).grid),draw:=((l.getD (lobN l o.node) default)).draw}:Node)):=by
     exact T.1
    have e9:((oneE l o):Int)=0:=by
     exact T.2
    exact .finE [.r [(4,X (Xe nodeT l (lobN l o.node))),(7,X (Xc1 258 (fc_raw (((l.getD (lobN l o.node) default)).attrs) o.attrs (by omega)) X0)),(10,X (Xs 9 nodeT 1 l (lobN l o.node) ({id:=((l.getD (lobN l o.node) default)).id,kind:=((l.getD (lobN l o.node) default)).kind,attrs:=(fm rawG (((l.getD (lobN l o.node) default)).attrs) o.attrs),flow:=((l.getD (lobN l o.node) default)).flow,grid:=(((l.getD (lobN l o.node) default)).grid),draw:=((l.getD (lobN l o.node) default)).draw}:Node)))],.r []] [(0,0),(1,1)] (fun((z0,z1,z2):Nat×(List Node)×Int)=>(VI z2,[(0,.box [.row 1 z0]),(1,OR 9 nodeT z1)])) _ _ (pr e7 (pr e8 e9))
   ·
    refine .bp [.r []] (o.kind==2) (fun h11=> ?_) (fun h11=> ?_)
    ·
     have T:=one_3 (l:=l) hh h11
     have hfl:=hb.fl hh h11
     have e10:((oneL l o).length:Nat)=(flowsR l (lobN l o.node) o.steps).length:=by
      rw[T.1]
     have e11:((oneL l o):List Node)=(flowsR l (lobN l o.node) o.steps):=by
      exact T.1
     have e12:((oneE l o):Int)=(flowsE l ((l).getD (lobN l o.node) default) o.steps):=by
      exact T.2
     exact .finE [.r [(4,X (Xc3 250 [(0,0),(1,1)] (fc_eflows l (lobN l o.node) o.steps (by assumption) (by assumption)) X0))]] [(0,0),(1,1)] (fun((z0,z1,z2):Nat×(List Node)×Int)=>(VI z2,[(0,.box [.row 1 z0]),(1,OR 9 nodeT z1)])) _ _ (pr e10 (pr e11 e12))
    ·
     refine .bp [.r []] (o.kind==3) (fun h13=> ?_) (fun h13=> ?_)
     ·
      have T:=one_4 (l:=l) hh h13
      have hgr:=hb.gr hh h13
      have e13:((oneL l o).length:Nat)=(gridsR l (lobN l o.node) o.grid).length:=by
       rw[T.1]
      have e14:((oneL l o):List Node)=(gridsR l (lobN l o.node) o.grid):=by
       exact T.1
      have e15:((oneE l o):Int)=(gridsE l ((l).getD (lobN l o.node) default) o.grid):=by
       exact T.2
      exact .finE [.r [(4,X (Xc3 266 [(0,0),(1,1)] (fc_egrids l (lobN l o.node) o.grid (by assumption) (by assumption)) X0))]] [(0,0),(1,1)] (fun((z0,z1,z2):Nat×(List Node)×Int)=>(VI z2,[(0,.box [.row 1 z0]),(1,OR 9 nodeT z1)])) _ _ (pr e13 (pr e14 e15))
     ·
      have hkk:=hb.kd h1 h8 h11 h13
      refine .bp [.r [(3,X (Xe nodeT l (lobN l o.node))),(4,X (Xc0 (fc_Draws (((l.getD (lobN l o.node) default)).kind)) X0))]] (!(hasD (((l.getD (lobN l o.node) default)).kind))) (fun h15=> ?_) (fun h15=> ?_)
      ·
       have T:=one_5 hh hkk h15
       have e16:((oneL l o).length:Nat)=l.length:=by
        rw[T.1]
       have e17:((oneL l o):List Node)=l:=by
        exact T.1
       have e18:((oneE l o):Int)=8:=by
        exact T.2
       exact .finE [.r []] [(0,0),(1,1)] (fun((z0,z1,z2):Nat×(List Node)×Int)=>(VI z2,[(0,.box [.row 1 z0]),(1,OR 9 nodeT z1)])) _ _ (pr e16 (pr e17 e18))
      ·
       have hdr:=hb.dr hh hkk
       refine .bp [.r [(3,X (Xe nodeT l (lobN l o.node))),(6,X (Xc1 330 (fc_dboth (((l.getD (lobN l o.node) default)).draw) o.draw (by first|omega| (simp;omega))) X0))],.r []] ((if(unionO (((l.getD (lobN l o.node) default)).draw) o.draw).isSome then(0:Int) else 6)==0) (fun h18=> ?_) (fun h18=> ?_)
       ·
        have T:=one_6 (l:=l) hh hkk h15
        have e19:((oneL l o).length:Nat)=l.length:=by
         rw[T.1 h18];exact List.length_set ..
        have e20:((oneL l o):List Node)=(l.set (lobN l o.node) ({id:=((l.getD (lobN l o.node) default)).id,kind:=((l.getD (lobN l o.node) default)).kind,attrs:=((l.getD (lobN l o.node) default)).attrs,flow:=((l.getD (lobN l o.node) default)).flow,grid:=(((l.getD (lobN l o.node) default)).grid),draw:=((unionO (((l.getD (lobN l o.node) default)).draw) o.draw).getD [])}:Node)):=by
         exact T.1 h18
        have e21:((oneE l o):Int)=(if(unionO (((l.getD (lobN l o.node) default)).draw) o.draw).isSome then(0:Int) else 6):=by
         exact T.2.2
        exact .finE [.r [(4,X (Xs 9 nodeT 1 l (lobN l o.node) ({id:=((l.getD (lobN l o.node) default)).id,kind:=((l.getD (lobN l o.node) default)).kind,attrs:=((l.getD (lobN l o.node) default)).attrs,flow:=((l.getD (lobN l o.node) default)).flow,grid:=(((l.getD (lobN l o.node) default)).grid),draw:=((unionO (((l.getD (lobN l o.node) default)).draw) o.draw).getD [])}:Node)))],.r []] [(0,0),(1,1)] (fun((z0,z1,z2):Nat×(List Node)×Int)=>(VI z2,[(0,.box [.row 1 z0]),(1,OR 9 nodeT z1)])) _ _ (pr e19 (pr e20 e21))
       ·
        have T:=one_6 (l:=l) hh hkk h15
        have e22:((oneL l o).length:Nat)=l.length:=by
         rw[T.2.1 h18]
        have e23:((oneL l o):List Node)=l:=by
         exact T.2.1 h18
        have e24:((oneE l o):Int)=(if(unionO (((l.getD (lobN l o.node) default)).draw) o.draw).isSome then(0:Int) else 6):=by
         exact T.2.2
        exact .finE [.r []] [(0,0),(1,1)] (fun((z0,z1,z2):Nat×(List Node)×Int)=>(VI z2,[(0,.box [.row 1 z0]),(1,OR 9 nodeT z1)])) _ _ (pr e22 (pr e23 e24))
end Go.Ch
end
section
set_option linter.unusedVariables false
set_option linter.unusedSimpArgs false
set_option maxRecDepth 100000
set_option maxHeartbeats 4000000
open Go Go.Proofs Go.Ab
namespace Go.Ch
theorem fc_apply(d:Doc)(c:List EOp)(hb:AppB d c):FC Tryz.prog 9 [.t (docT d),VL 19 eopT c] (app emp []) (.tup [.t (docT (appD d c)),VI (appE d c)]) (app emp []):=by
 refine .go Tryz.f9 ?_
 refine .len 1 (fun hl1=> ?_)
 obtain⟨hd,ho,hr⟩:=hb
 have hdb:=hd.toDocB
 refine .bp [.r [],.r [(1,X (Xc0 (fc_docCk d (by assumption)) X0))],.r []] ((docE d) !=0) (fun h2=> ?_) (fun h2=> ?_)
 ·
  have T:=app_1 (c:=c) h2
  have e1:((appD d c):Doc)=({nodes:=[]}:Doc):=by
   exact T.1
  have e2:((appE d c):Int)=(docE d):=by
   exact T.2
  exact .finVE [.r [(0,X (Xf [(0,9)]))]] [] [] (fun((z0,z1):Doc×Int)=>(.tup [.t (docT z0),VI z1],[])) _ _ (pr e1 e2)
 ·
  refine .bp [.r [(1,X (Xc0 (fc_eCheck c (by assumption)) X0))],.r []] ((eopsE c 0) !=0) (fun h5=> ?_) (fun h5=> ?_)
  ·
   have T:=app_2 (d:=d) (by omega) h5
   have e3:((appD d c):Doc)=({nodes:=[]}:Doc):=by
    exact T.1
   have e4:((appE d c):Int)=(eopsE c 0):=by
    exact T.2
   exact .finVE [.r [(0,X (Xf [(0,9)]))]] [] [] (fun((z0,z1):Doc×Int)=>(.tup [.t (docT z0),VI z1],[])) _ _ (pr e3 e4)
  ·
   refine .loop (α:=Nat×(List Node)) [.r [(1,X (Xc1 112 (fc_copyDR d (by assumption)) X0))],.r [(1,X (Xl eopT c))]] 160 (fun(i,o)=>([(4,.ptr 8 0),(8,.ptr 120 0),(26,VL 19 eopT c),(27,VI (c.length:Int)),(28,VI (i:Int))],[(8,.box [VN]),(113,OR 9 nodeT o),(120,.box [.row 113 o.length])])) (fun(i,o)=>i≤c.length∧RunB o (c.drop i)∧runE d.nodes c=runE o (c.drop i)∧runL d.nodes c=runL o (c.drop i)) (fun(i,o)=>c.length-i) (0,(d).nodes) ?_ ?_
   ·
    exact⟨by omega,hr (by omega) (by omega),rfl,rfl⟩
   rintro⟨i,o⟩ I9 ih9
   try dsimp only at I9
   refine .bp [.r []] (decide ((i:Int)< (c.length:Int))) (fun h9=> ?_) (fun h9=> ?_)
   ·
    obtain⟨q1,q2,q3,q4⟩:=I9
    rw[drop_succD (by omega)] at q2 q3 q4
    have hone:=q2.1
    refine .bp [.r [(0,X (Xi eopT c (i:Int)))],.r [(1,X (Xc3 208 [(0,120),(1,113)] (fc_eone o ((c.getD i default)) (by assumption)) X0))],.r []] ((oneE o ((c.getD i default))) !=0) (fun h12=> ?_) (fun h12=> ?_)
    ·
     have T:=app_3 (d:=d) (c:=c) (by omega) (by omega) (q3.trans (by rw[runE,if_pos h12])) h12
     have e5:((appD d c):Doc)=({nodes:=[]}:Doc):=by
      exact T.1
     have e6:((appE d c):Int)=(oneE o ((c.getD i default))):=by
      exact T.2
     exact .finVE [.r [(0,X (Xf [(0,9)]))]] [] [] (fun((z0,z1):Doc×Int)=>(.tup [.t (docT z0),VI z1],[])) _ _ (pr e5 e6)
    ·
     refine .back [.r [(0,X (Xn ((i:Int)+1)))]] [(8,8),(113,113),(120,120)] (ih9 ((i+1),(oneL o ((c.getD i default)))) ?_ ?_)
     ·
      rw[runE,if_neg (by omega)] at q3
      exact⟨by omega,q2.2 h12,q3,q4⟩
     ·
      ((try dsimp only);omega)
   ·
    have T:=app_4 (d:=d) (c:=c) (by omega) (by omega) (I9.2.2.1.trans (by rw[List.drop_eq_nil_of_le (by omega)];try rfl)) (I9.2.2.2.trans (by rw[List.drop_eq_nil_of_le (by omega)];try rfl))
    have e7:((appD d c):Doc)=({nodes:=o}:Doc):=by
     exact T.1
    have e8:((appE d c):Int)=0:=by
     exact T.2
    exact .finVE [.r []] [.fR 0 [(o.length:Nat)=(List.map nodeT o).length] ⟨lm,trivial⟩] [] (fun((z0,z1):Doc×Int)=>(.tup [.t (docT z0),VI z1],[])) _ _ (pr e7 e8)
end Go.Ch
end
section
set_option linter.unusedVariables false
namespace Go.Ch
open Go Go.Ab
def firstD:Doc:=⟨[⟨1,0,[],[⟨0,2,[]⟩],⟨0,0,[],[]⟩,[]⟩,⟨2,1,[],[⟨10,0,[]⟩],⟨0,0,[],[]⟩,[]⟩]⟩
def baseD:Doc:=⟨[⟨1,0,[],[⟨0,2,[]⟩,⟨0,3,[]⟩],⟨0,0,[],[]⟩,[]⟩,⟨2,1,[],[⟨97,0,[]⟩,⟨98,0,[]⟩,⟨99,0,[]⟩,⟨10,0,[]⟩,⟨100,0,[]⟩,⟨10,0,[]⟩],⟨0,0,[],[]⟩,[]⟩,⟨3,10,[],[],⟨0,0,[],[]⟩,[]⟩]⟩
def node1:Node:=⟨1,0,[],[⟨0,2,[]⟩],⟨0,0,[],[]⟩,[]⟩
def node2:Node:=⟨2,1,[],[⟨10,0,[]⟩],⟨0,0,[],[]⟩,[]⟩
theorem first_e:docE firstD=0:=by decide+kernel
theorem first_l:DocL firstD:=by
 have hx:∀n∈firstD.nodes,n=node1∨n=node2:=fun n hn=>by
  have hn:n∈[node1,node2]:=hn
  simpa using hn
 refine⟨⟨by decide,fun n hn=> ?_,by decide⟩,fun n hn=> ?_⟩
 ·rcases hx n hn with rfl|rfl
  ·refine⟨(fun a h=>by cases h),by decide,fun x h=> ?_,by decide,fun x h=> ?_,(fun c h=>by cases h),by decide,(fun c h=>by cases h),by decide,by decide,(fun o h=>by cases h)⟩
   ·rw[show x=⟨0,2,[]⟩ by simpa[node1] using h];exact(fun a h=>by cases h)
   ·rw[show x=⟨0,2,[]⟩ by simpa[node1] using h];decide
  ·refine⟨(fun a h=>by cases h),by decide,fun x h=> ?_,by decide,fun x h=> ?_,(fun c h=>by cases h),by decide,(fun c h=>by cases h),by decide,by decide,(fun o h=>by cases h)⟩
   ·rw[show x=⟨10,0,[]⟩ by simpa[node2] using h];exact(fun a h=>by cases h)
   ·rw[show x=⟨10,0,[]⟩ by simpa[node2] using h];decide
 ·rcases hx n hn with rfl|rfl<;>exact⟨rfl,(fun c h=>by cases h)⟩
structure Vis where
 id:Int
 parent:Int
 vis:Bool
instance:Inhabited Vis:=⟨⟨0,0,false⟩⟩
def onM(k:Int):Int×MV:=(k,.im (Ab.TB true))
def onA(s:ByteArray):List Attr:=[⟨s,{data:=#[111,110]}⟩]
def probE:List EOp:=[opA 2 (onA {data:=#[116,105,116,108,101]})]
theorem prob_b:AppB firstD probE:=by
 have hl:=first_l
 have ho:OpL (opA 2 (onA {data:=#[116,105,116,108,101]})):=by
  refine⟨⟨by decide,by decide,by decide,by decide,by decide⟩,⟨(fun a h=>by cases h),by decide,(fun x h=>by cases h),by decide,(fun x h=>by cases h),(fun c h=>by cases h),by decide,(fun c h=>by cases h),by decide,by decide,(fun o h=>by cases h)⟩,⟨rfl,(fun c h=>by cases h)⟩,by decide,(fun s h=>by cases h),⟨rfl,rfl,(fun c h=>by cases h),by decide⟩,(fun c h=>by cases h),by decide⟩
 refine⟨hl,fun o h=> ?_,fun h1 h2=>⟨⟨by decide,sort_doc first_e,by decide+kernel,ho,fun n hn=>⟨hl.all n hn,hl.lite n hn,?_⟩,fun h=>absurd h (by decide)⟩,fun _=>trivial⟩⟩
 ·rw[show o=opA 2 (onA {data:=#[116,105,116,108,101]}) by simpa[probE] using h];exact ho
 ·have hn:n∈[node1,node2]:=hn
  simp only[List.mem_cons,List.not_mem_nil,or_false] at hn
  rcases hn with rfl|rfl<;>decide
def stepG(site:Int)(d:Doc)(a b c:Int):Doc:=if appE d (cmdP d site a b c)=0 then appD d (cmdP d site a b c) else d
theorem stepG_y{site:Int}{d:Doc}{a b c:Int}(h:appE d (cmdP d site a b c)=0):stepG site d a b c=appD d (cmdP d site a b c):=if_pos h
theorem stepG_n{site:Int}{d:Doc}{a b c:Int}(h:¬appE d (cmdP d site a b c)=0):stepG site d a b c=d:=if_neg h
def grownD(site:Int)(raw:List Int)(d:Doc)(k:Nat):Doc:=
 if k+2<raw.length∧k<36 then grownD site raw (stepG site d (raw.getD k default) (raw.getD (k+1) default) (raw.getD (k+2) default)) (k+3) else d
termination_by raw.length-k
theorem grown_go{site:Int}{raw:List Int}{d:Doc}{k:Nat}(h:k+2<raw.length∧k<36):grownD site raw d k=grownD site raw (stepG site d (raw.getD k default) (raw.getD (k+1) default) (raw.getD (k+2) default)) (k+3):=by
 rw[grownD,if_pos h]
theorem grown_end{site:Int}{raw:List Int}{d:Doc}{k:Nat}(h:¬(k+2<raw.length∧k<36)):grownD site raw d k=d:=by rw[grownD,if_neg h]
structure GInv(site:Int)(G:Nat→Doc→Prop):Prop where
 doc:∀{k d},G k d→DocL d
 cmd:∀{k d} (b c:Int),G k d→CmdB d site b c
 app:∀{k d} (a b c:Int),G k d→AppB d (cmdP d site a b c)
 step:∀{k d} (a b c:Int),k<55→G k d→G (k+3) (stepG site d a b c)
 more:∀{k d},k<55→G k d→G (k+3) d
theorem GInv.grown{site:Int}{G:Nat→Doc→Prop}(hI:GInv site G){raw:List Int}:∀(m:Nat) {k:Nat} {d:Doc},raw.length-k=m→k<39→G k d→∃k',k'≤38∧G k' (grownD site raw d k):=by
 intro m
 induction m using Nat.strongRecOn with
 |_ m ih=>
  intro k d hm hk hg
  by_cases h:k+2<raw.length∧k<36
  ·rw[grown_go h]
   exact ih _ (by omega) rfl (by omega) (hI.step _ _ _ (by omega) hg)
  ·rw[grown_end h];exact⟨k,by omega,hg⟩
def skpB(g:Bool)(x:List EOp)(n:Nat):Bool:=(x.take n).any fun o=>(o.kind==3)&& !g
theorem skp_succ{g:Bool}{x:List EOp}{n:Nat}(h:n<x.length):skpB g x (n+1)=(skpB g x n|| (((x.getD n default).kind==3)&& !g)):=by
 have e:x.getD n default=x[n]:=by rw[List.getD_eq_getElem?_getD,List.getElem?_eq_getElem h];rfl
 unfold skpB
 rw[List.take_succ_eq_append_getElem h,List.any_append,e];simp
def okC(site:Int)(g:Bool)(d:Doc)(a b c:Int):Bool:=decide (appE d (cmdP d site a b c)=0)&& !skpB g (cmdP d site a b c) (cmdP d site a b c).length
theorem okC_y{site:Int}{g:Bool}{d:Doc}{a b c:Int}(h:appE d (cmdP d site a b c)=0)(h2:skpB g (cmdP d site a b c) (cmdP d site a b c).length=false):okC site g d a b c=true:=by unfold okC;rw[h2,decide_eq_true h];rfl
theorem okC_n{site:Int}{g:Bool}{d:Doc}{a b c:Int}(h:¬appE d (cmdP d site a b c)=0∨skpB g (cmdP d site a b c) (cmdP d site a b c).length=true):¬okC site g d a b c=true:=by
 unfold okC;rcases h with h|h
 ·rw[decide_eq_false h];simp
 ·rw[h];simp
def chgD(site:Int)(g:Bool)(raw:List Int)(c:List EOp)(d:Doc)(k:Nat):List EOp×Doc:=
 if k+2<raw.length∧k<15 then
  (if okC site g d (raw.getD k default) (raw.getD (k+1) default) (raw.getD (k+2) default)=true then
   chgD site g raw (c++cmdP d site (raw.getD k default) (raw.getD (k+1) default) (raw.getD (k+2) default)) (appD d (cmdP d site (raw.getD k default) (raw.getD (k+1) default) (raw.getD (k+2) default))) (k+3)
  else chgD site g raw c d (k+3))
 else(c,d)
termination_by raw.length-k
theorem chg_y{site:Int}{g:Bool}{raw:List Int}{c:List EOp}{d:Doc}{k:Nat}(h:k+2<raw.length∧k<15)(h2:okC site g d (raw.getD k default) (raw.getD (k+1) default) (raw.getD (k+2) default)=true):
 chgD site g raw c d k=chgD site g raw (c++cmdP d site (raw.getD k default) (raw.getD (k+1) default) (raw.getD (k+2) default)) (appD d (cmdP d site (raw.getD k default) (raw.getD (k+1) default) (raw.getD (k+2) default))) (k+3):=by rw[chgD,if_pos h,if_pos h2]
theorem chg_n{site:Int}{g:Bool}{raw:List Int}{c:List EOp}{d:Doc}{k:Nat}(h:k+2<raw.length∧k<15)(h2:¬okC site g d (raw.getD k default) (raw.getD (k+1) default) (raw.getD (k+2) default)=true):
 chgD site g raw c d k=chgD site g raw c d (k+3):=by rw[chgD,if_pos h,if_neg h2]
theorem chg_end{site:Int}{g:Bool}{raw:List Int}{c:List EOp}{d:Doc}{k:Nat}(h:¬(k+2<raw.length∧k<15)):chgD site g raw c d k=(c,d):=by rw[chgD,if_neg h]
theorem ite_len{p:Prop}[Decidable p]{x y:List EOp}(hx:x.length≤2)(hy:y.length≤2):(if p then x else y).length≤2:=by split<;>assumption
theorem cmdP_len(d:Doc)(site a b c:Int):(cmdP d site a b c).length≤2:=by
 have h0:([]:List EOp).length≤2:=by decide
 have h1:∀(s:Sel) (cs:List Int) (au:ByteArray),(typeO d s cs au).length≤2:=fun s cs au=>ite_len h0 (by simp)
 have h2:∀(s:Sel) (n:Node) (au:ByteArray),(objO d s n site au).length≤2:=fun s n au=>ite_len h0 (by simp)
 unfold cmdP
 refine ite_len (h1 _ _ _) (ite_len (h1 _ _ _) (ite_len (h1 _ _ _) (ite_len (ite_len h0 (by simp[fmtL])) (ite_len (ite_len h0 (by simp[fmtL])) (ite_len (h2 _ _ _) (ite_len (h2 _ _ _) (ite_len (h2 _ _ _) (ite_len (ite_len h0 (by simp)) (ite_len (ite_len h0 (by simp)) (ite_len (ite_len h0 (by simp[celL])) (ite_len (by simp) (by simp))))))))))))
def badL(c:List EOp)(n:Nat):List EOp:=(([]++c.take n)++[opA 999 []])++c.drop n
end Go.Ch
end
section
set_option linter.unusedVariables false
set_option linter.unusedSimpArgs false
set_option maxRecDepth 100000
set_option maxHeartbeats 4000000
open Go Go.Proofs Go.Ab
namespace Go.Ch
theorem fc_first:FC Tryz.prog 11 [] (app emp []) (.t (docT firstD)) (app emp []):=by
 refine .go Tryz.f11 ?_
 have e1:(firstD:Doc)=({nodes:=[({id:=1,kind:=0,attrs:=[],flow:=[({char:=0,ref:=2,attrs:=[]}:Elem)],grid:=({rows:=0,cols:=0,cells:=[],merges:=[]}:Grid),draw:=[]}:Node),({id:=2,kind:=1,attrs:=[],flow:=[({char:=10,ref:=0,attrs:=[]}:Elem)],grid:=({rows:=0,cols:=0,cells:=[],merges:=[]}:Grid),draw:=[]}:Node)]}:Doc):=by
  rfl
 exact .finVE [.r [],.r [(0,X (Xf [(2,2)])),(2,X (Xf [(2,2),(6,5),(7,4),(8,8)])),(3,X (Xf [(2,2)])),(5,X (Xf [(2,2),(6,5),(7,4),(8,8)])),(6,X (rowC elemT [({char:=0,ref:=2,attrs:=[]}:Elem)] (rowC elemT [({char:=10,ref:=0,attrs:=[]}:Elem)] X0)))]] [.fR 0 [(2:Nat)=(List.map nodeT [({id:=1,kind:=0,attrs:=[],flow:=[({char:=0,ref:=2,attrs:=[]}:Elem)],grid:=({rows:=0,cols:=0,cells:=[],merges:=[]}:Grid),draw:=[]}:Node),({id:=2,kind:=1,attrs:=[],flow:=[({char:=10,ref:=0,attrs:=[]}:Elem)],grid:=({rows:=0,cols:=0,cells:=[],merges:=[]}:Grid),draw:=[]}:Node)]).length] ⟨lm,trivial⟩] [] (fun z0:Doc=>(.t (docT z0),[])) _ _ e1
theorem fc_firstB:FC Tryz.prog 11 [] (app emp []) (.agg [.bsl 1 2]) (app emp [(0,.box [.bsl 1 2]),(1,.box [VI 1,VI 0,VL 2 attrT [],.row 2 1,VI 0,VI 0,VL 5 cellT [],VL 4 rectT [],VL 8 dopT [],VI 2,VI 1,VL 2 attrT [],.row 3 1,VI 0,VI 0,VL 5 cellT [],VL 4 rectT [],VL 8 dopT []]),(2,OR 3 elemT [({char:=0,ref:=2,attrs:=[]}:Elem)]),(3,OR 3 elemT [({char:=10,ref:=0,attrs:=[]}:Elem)])]):=by
 refine .go Tryz.f11 ?_
 exact .fin [.r [],.r [(0,X (Xf [(2,2)])),(2,X (Xf [(2,2),(6,5),(7,4),(8,8)])),(3,X (Xf [(2,2)])),(5,X (Xf [(2,2),(6,5),(7,4),(8,8)])),(6,X Xbsl)]] [(0,0),(56,1),(16,2),(40,3)]
theorem fc_vis1:FC Tryz.prog 55 [.t (.agg [TI 1,TI 0,Ab.TB true]),.ptr 0 0,.ptr 1 0] (app emp [(0,.box [VI 2]),(1,.box [VB false])]) (VB true) (app emp [(0,.box [VI 2]),(1,.box [VB false])]):=by
 refine .go Tryz.f55 ?_
 exact .fin [.r [],.r [],.f,.r []] [(0,0),(1,1)]
theorem fc_vis2:FC Tryz.prog 55 [.t (.agg [TI 2,TI 1,Ab.TB true]),.ptr 0 0,.ptr 1 0] (app emp [(0,.box [VI 2]),(1,.box [VB false])]) (VB false) (app emp [(0,.box [VI 2]),(1,.box [VB true])]):=by
 refine .go Tryz.f55 ?_
 exact .fin [.r [],.r [],.t,.r [],.r []] [(0,0),(1,1)]
theorem fc_w2:FC Tryz.prog 103 [.t (.agg [TI 2,TI 1,Ab.TB true]),.ptr 0 0,.ptr 1 0,.ptr 2 0,.ptr 3 0] (app emp [(0,.box [.hdl 4]),(1,.box [.fn 55 [.ptr 5 0,.ptr 6 0]]),(2,.box [VL 9 nodeT firstD.nodes]),(3,.box [.fn 103 [.ptr 0 0,.ptr 1 0,.ptr 2 0,.ptr 3 0]]),(4,.mp (List.map onM [1]) none),(5,.box [VI 2]),(6,.box [VB false])]) (VB false) (app emp [(0,.box [.hdl 4]),(1,.box [.fn 55 [.ptr 5 0,.ptr 6 0]]),(2,.box [VL 9 nodeT firstD.nodes]),(3,.box [.fn 103 [.ptr 0 0,.ptr 1 0,.ptr 2 0,.ptr 3 0]]),(4,.mp (List.map onM [1,2]) none),(5,.box [VI 2]),(6,.box [VB true])]):=by
 refine .go Tryz.f103 ?_
 exact .fin [.r [],.r [(3,X (Xm0 (List.map onM [1]) 2) (by kernel_rfl))],.f,.r [(3,X (Xmu onM [1] [1,2] 2 4 (.im (Ab.TB true))) (by kernel_rfl))],.r [(2,X (Xc3 103 [(0,5),(1,6)] fc_vis2 X0))],.t,.r []] [(0,0),(1,1),(2,2),(3,3),(4,4),(5,5),(6,6)]
theorem fc_w1:FC Tryz.prog 103 [.t (.agg [TI 1,TI 0,Ab.TB true]),.ptr 0 0,.ptr 1 0,.ptr 2 0,.ptr 3 0] (app emp [(0,.box [.hdl 4]),(1,.box [.fn 55 [.ptr 5 0,.ptr 6 0]]),(2,.box [VL 9 nodeT firstD.nodes]),(3,.box [.fn 103 [.ptr 0 0,.ptr 1 0,.ptr 2 0,.ptr 3 0]]),(4,.mp (List.map onM []) none),(5,.box [VI 2]),(6,.box [VB false])]) (VB false) (app emp [(0,.box [.hdl 4]),(1,.box [.fn 55 [.ptr 5 0,.ptr 6 0]]),(2,.box [VL 9 nodeT firstD.nodes]),(3,.box [.fn 103 [.ptr 0 0,.ptr 1 0,.ptr 2 0,.ptr 3 0]]),(4,.mp (List.map onM [1,2]) none),(5,.box [VI 2]),(6,.box [VB true])]):=by
 refine .go Tryz.f103 ?_
 have hs:=sort_doc first_e
 have hl:firstD.nodes.length≤1048576:=by decide
 refine .bp [.r [],.r [(3,X (Xm0 (List.map onM []) 1) (by kernel_rfl))],.f,.r [(3,X (Xmu onM [] [1] 1 4 (.im (Ab.TB true))) (by kernel_rfl))],.r [(2,X (Xc3 103 [(0,5),(1,6)] fc_vis1 X0))],.f,.r [(3,X (Xc0 (fc_findN firstD 1 (by assumption) (by assumption)) X0))],.le (.eq 7 (VI (lobN (firstD).nodes 1:Int)) (VI 0) (.of_eq (by kernel_rfl))),.r [(3,X (Xi nodeT firstD.nodes 0) ⟨(by first|omega| (simp;omega)| (simp;done)|assumption),(by decide)⟩)],.r [(2,X (Xc1 263 (fc_refsFl (((firstD.nodes.getD 0 default)).flow) (by decide)) X0))],.u,.r []] (decide (0< ((refsF (((firstD.nodes.getD 0 default)).flow)).length:Int))) (fun h9=> ?_) (fun h9=> ?_)
 ·
  exact .fin [.r [(0,X (Xp intT (refsF (((firstD.nodes.getD 0 default)).flow)) 0)),(1,X (Xe intT (refsF (((firstD.nodes.getD 0 default)).flow)) 0))],.le (.eq 11 (VI ((refsF (((firstD.nodes.getD 0 default)).flow)).getD 0 default)) (VI 2) (.of_eq (by kernel_rfl))),.r [(7,X (Xc3 375 [(0,0),(1,1),(2,2),(3,3),(4,4),(5,5),(6,6)] fc_w2 X0))],.t,.r []] [(0,0),(1,1),(2,2),(3,3),(4,4),(5,5),(6,6)]
 ·
  exfalso
  exact absurd h9 (by decide)
theorem fc_walkF:FC Tryz.prog 54 [.t (docT firstD),.fn 55 [.ptr 0 0,.ptr 1 0]] (app emp [(0,.box [VI 2]),(1,.box [VB false])]) (.tup []) (app emp [(0,.box [VI 2]),(1,.box [VB true])]):=by
 refine .go Tryz.f54 ?_
 exact .fin [.r [],.r [],.r [],.r [],.r [(2,X (Xc3 82 [(0,26),(1,10),(2,2),(3,42),(4,18),(5,0),(6,1)] fc_w1 X0))]] [(0,0),(1,1)]
theorem fc_visible:FC Tryz.prog 23 [.t (docT firstD),VI 2] (app emp []) (VB true) (app emp []):=by
 refine .go Tryz.f23 ?_
 have hb:=first_l
 refine .bp [.r [],.r [],.r [(1,X (Xc0 (fc_docCk firstD (by assumption)) X0))]] ((docE firstD) !=0) (fun h2=> ?_) (fun h2=> ?_)
 ·
  exfalso
  exact h2 first_e
 ·
  exact .fin [.r [(2,X (Xc3 80 [(0,8),(1,24)] fc_walkF X0))],.r []] []
end Go.Ch
end
section
set_option linter.unusedVariables false
set_option linter.unusedSimpArgs false
set_option maxRecDepth 100000
set_option maxHeartbeats 4000000
open Go Go.Proofs Go.Ab
namespace Go.Ch
theorem fc_docs:FC Tryz.prog 13 [] (app emp []) (VB true) (app emp []):=by
 refine .go Tryz.f13 ?_
 have hb:=first_l
 have e1:(((((docE firstD)==0)&&((firstD.nodes.length:Int)==2))||false):Bool)=true:=by
  rw[first_e];rfl
 exact .finE [.r [],.r [(0,X (Xc1 8 fc_first X0))],.r [(1,X (Xc0 (fc_docCk firstD (by assumption)) X0)),(5,Xv 1 ((docE firstD)==0) X0),(6,Xv 1 ((docE firstD)==0) (Xl nodeT firstD.nodes)),(7,Xv 1 ((docE firstD)==0) X0),(8,X (Xk ((docE firstD)==0))),(11,Xv 1 (((docE firstD)==0)&&((firstD.nodes.length:Int)==2)) (Xc0 fc_visible X0)),(12,X (Xk (((docE firstD)==0)&&((firstD.nodes.length:Int)==2))))]] [] (fun z0:Bool=>(VB z0,[])) _ _ e1.symm
theorem fc_onA(s:ByteArray):FC Tryz.prog 12 [VS s] (app emp []) (VL 2 attrT (onA s)) (app emp []):=by
 refine .go Tryz.f12 ?_
 have e1:((onA s):List Attr)=[({name:=s,val:={data:=#[111,110]}}:Attr)]:=by
  rfl
 exact .finE [.r [],.r [],.le (.fr 2 [(1:Nat)=(List.map attrT [({name:=s,val:={data:=#[111,110]}}:Attr)]).length] ⟨lm,trivial⟩)] [] (fun z0:List Attr=>(VL 2 attrT z0,[])) _ _ e1
theorem fc_edits:FC Tryz.prog 4 [] (app emp []) (VB true) (app emp []):=by
 refine .go Tryz.f4 ?_
 have hp:=prob_b
 have e1:((((true&&((appE firstD [({kind:=1,node:=2,nw:=({id:=0,kind:=0,attrs:=[],flow:=[],grid:=({rows:=0,cols:=0,cells:=[],merges:=[]}:Grid),draw:=[]}:Node),attrs:=(onA ({data:=#[116,105,116,108,101]})),steps:=[],grid:=({rows:=[],cols:=[],cells:=[],split:=[],merge:=[]}:GEd),draw:=[]}:EOp)])==0))&&(((((appD firstD [({kind:=1,node:=2,nw:=({id:=0,kind:=0,attrs:=[],flow:=[],grid:=({rows:=0,cols:=0,cells:=[],merges:=[]}:Grid),draw:=[]}:Node),attrs:=(onA ({data:=#[116,105,116,108,101]})),steps:=[],grid:=({rows:=[],cols:=[],cells:=[],split:=[],merge:=[]}:GEd),draw:=[]}:EOp)])).nodes).length:Int)==2))&&((((((((appD firstD [({kind:=1,node:=2,nw:=({id:=0,kind:=0,attrs:=[],flow:=[],grid:=({rows:=0,cols:=0,cells:=[],merges:=[]}:Grid),draw:=[]}:Node),attrs:=(onA ({data:=#[116,105,116,108,101]})),steps:=[],grid:=({rows:=[],cols:=[],cells:=[],split:=[],merge:=[]}:GEd),draw:=[]}:EOp)])).nodes).getD 1 default)).attrs).length:Int)==1)):Bool)=true:=by
  exact(by decide+kernel)
 exact .finE [.r [],.r [(0,X (Xc1 8 fc_first X0)),(1,X (Xc1 16 (fc_onA ({data:=#[116,105,116,108,101]})) X0)),(2,X (Xf [(4,2),(5,3),(8,5),(9,4),(10,8),(12,4),(13,2),(14,2),(15,5),(16,4),(17,4),(18,8)])),(4,X (Xc1 40 (fc_apply firstD [({kind:=1,node:=2,nw:=({id:=0,kind:=0,attrs:=[],flow:=[],grid:=({rows:=0,cols:=0,cells:=[],merges:=[]}:Grid),draw:=[]}:Node),attrs:=(onA ({data:=#[116,105,116,108,101]})),steps:=[],grid:=({rows:=[],cols:=[],cells:=[],split:=[],merge:=[]}:GEd),draw:=[]}:EOp)] hp) (rowC eopT [({kind:=1,node:=2,nw:=({id:=0,kind:=0,attrs:=[],flow:=[],grid:=({rows:=0,cols:=0,cells:=[],merges:=[]}:Grid),draw:=[]}:Node),attrs:=(onA ({data:=#[116,105,116,108,101]})),steps:=[],grid:=({rows:=[],cols:=[],cells:=[],split:=[],merge:=[]}:GEd),draw:=[]}:EOp)] X0)))],.r [(0,X (Xc0 fc_docs X0)),(3,Xv 1 true X0),(4,X (Xk true)),(7,Xv 1 (true&&((appE firstD [({kind:=1,node:=2,nw:=({id:=0,kind:=0,attrs:=[],flow:=[],grid:=({rows:=0,cols:=0,cells:=[],merges:=[]}:Grid),draw:=[]}:Node),attrs:=(onA ({data:=#[116,105,116,108,101]})),steps:=[],grid:=({rows:=[],cols:=[],cells:=[],split:=[],merge:=[]}:GEd),draw:=[]}:EOp)])==0)) X0),(8,Xv 1 (true&&((appE firstD [({kind:=1,node:=2,nw:=({id:=0,kind:=0,attrs:=[],flow:=[],grid:=({rows:=0,cols:=0,cells:=[],merges:=[]}:Grid),draw:=[]}:Node),attrs:=(onA ({data:=#[116,105,116,108,101]})),steps:=[],grid:=({rows:=[],cols:=[],cells:=[],split:=[],merge:=[]}:GEd),draw:=[]}:EOp)])==0)) (Xl nodeT (((appD firstD [({kind:=1,node:=2,nw:=({id:=0,kind:=0,attrs:=[],flow:=[],grid:=({rows:=0,cols:=0,cells:=[],merges:=[]}:Grid),draw:=[]}:Node),attrs:=(onA ({data:=#[116,105,116,108,101]})),steps:=[],grid:=({rows:=[],cols:=[],cells:=[],split:=[],merge:=[]}:GEd),draw:=[]}:EOp)])).nodes))),(9,Xv 1 (true&&((appE firstD [({kind:=1,node:=2,nw:=({id:=0,kind:=0,attrs:=[],flow:=[],grid:=({rows:=0,cols:=0,cells:=[],merges:=[]}:Grid),draw:=[]}:Node),attrs:=(onA ({data:=#[116,105,116,108,101]})),steps:=[],grid:=({rows:=[],cols:=[],cells:=[],split:=[],merge:=[]}:GEd),draw:=[]}:EOp)])==0)) X0),(10,X (Xk (true&&((appE firstD [({kind:=1,node:=2,nw:=({id:=0,kind:=0,attrs:=[],flow:=[],grid:=({rows:=0,cols:=0,cells:=[],merges:=[]}:Grid),draw:=[]}:Node),attrs:=(onA ({data:=#[116,105,116,108,101]})),steps:=[],grid:=({rows:=[],cols:=[],cells:=[],split:=[],merge:=[]}:GEd),draw:=[]}:EOp)])==0)))),(13,Xv 1 ((true&&((appE firstD [({kind:=1,node:=2,nw:=({id:=0,kind:=0,attrs:=[],flow:=[],grid:=({rows:=0,cols:=0,cells:=[],merges:=[]}:Grid),draw:=[]}:Node),attrs:=(onA ({data:=#[116,105,116,108,101]})),steps:=[],grid:=({rows:=[],cols:=[],cells:=[],split:=[],merge:=[]}:GEd),draw:=[]}:EOp)])==0))&&(((((appD firstD [({kind:=1,node:=2,nw:=({id:=0,kind:=0,attrs:=[],flow:=[],grid:=({rows:=0,cols:=0,cells:=[],merges:=[]}:Grid),draw:=[]}:Node),attrs:=(onA ({data:=#[116,105,116,108,101]})),steps:=[],grid:=({rows:=[],cols:=[],cells:=[],split:=[],merge:=[]}:GEd),draw:=[]}:EOp)])).nodes).length:Int)==2)) X0),(14,Xv 1 ((true&&((appE firstD [({kind:=1,node:=2,nw:=({id:=0,kind:=0,attrs:=[],flow:=[],grid:=({rows:=0,cols:=0,cells:=[],merges:=[]}:Grid),draw:=[]}:Node),attrs:=(onA ({data:=#[116,105,116,108,101]})),steps:=[],grid:=({rows:=[],cols:=[],cells:=[],split:=[],merge:=[]}:GEd),draw:=[]}:EOp)])==0))&&(((((appD firstD [({kind:=1,node:=2,nw:=({id:=0,kind:=0,attrs:=[],flow:=[],grid:=({rows:=0,cols:=0,cells:=[],merges:=[]}:Grid),draw:=[]}:Node),attrs:=(onA ({data:=#[116,105,116,108,101]})),steps:=[],grid:=({rows:=[],cols:=[],cells:=[],split:=[],merge:=[]}:GEd),draw:=[]}:EOp)])).nodes).length:Int)==2)) (Xi nodeT (((appD firstD [({kind:=1,node:=2,nw:=({id:=0,kind:=0,attrs:=[],flow:=[],grid:=({rows:=0,cols:=0,cells:=[],merges:=[]}:Grid),draw:=[]}:Node),attrs:=(onA ({data:=#[116,105,116,108,101]})),steps:=[],grid:=({rows:=[],cols:=[],cells:=[],split:=[],merge:=[]}:GEd),draw:=[]}:EOp)])).nodes) 1)),(15,Xv 1 ((true&&((appE firstD [({kind:=1,node:=2,nw:=({id:=0,kind:=0,attrs:=[],flow:=[],grid:=({rows:=0,cols:=0,cells:=[],merges:=[]}:Grid),draw:=[]}:Node),attrs:=(onA ({data:=#[116,105,116,108,101]})),steps:=[],grid:=({rows:=[],cols:=[],cells:=[],split:=[],merge:=[]}:GEd),draw:=[]}:EOp)])==0))&&(((((appD firstD [({kind:=1,node:=2,nw:=({id:=0,kind:=0,attrs:=[],flow:=[],grid:=({rows:=0,cols:=0,cells:=[],merges:=[]}:Grid),draw:=[]}:Node),attrs:=(onA ({data:=#[116,105,116,108,101]})),steps:=[],grid:=({rows:=[],cols:=[],cells:=[],split:=[],merge:=[]}:GEd),draw:=[]}:EOp)])).nodes).length:Int)==2)) X0),(16,Xv 1 ((true&&((appE firstD [({kind:=1,node:=2,nw:=({id:=0,kind:=0,attrs:=[],flow:=[],grid:=({rows:=0,cols:=0,cells:=[],merges:=[]}:Grid),draw:=[]}:Node),attrs:=(onA ({data:=#[116,105,116,108,101]})),steps:=[],grid:=({rows:=[],cols:=[],cells:=[],split:=[],merge:=[]}:GEd),draw:=[]}:EOp)])==0))&&(((((appD firstD [({kind:=1,node:=2,nw:=({id:=0,kind:=0,attrs:=[],flow:=[],grid:=({rows:=0,cols:=0,cells:=[],merges:=[]}:Grid),draw:=[]}:Node),attrs:=(onA ({data:=#[116,105,116,108,101]})),steps:=[],grid:=({rows:=[],cols:=[],cells:=[],split:=[],merge:=[]}:GEd),draw:=[]}:EOp)])).nodes).length:Int)==2)) X0),(17,Xv 1 ((true&&((appE firstD [({kind:=1,node:=2,nw:=({id:=0,kind:=0,attrs:=[],flow:=[],grid:=({rows:=0,cols:=0,cells:=[],merges:=[]}:Grid),draw:=[]}:Node),attrs:=(onA ({data:=#[116,105,116,108,101]})),steps:=[],grid:=({rows:=[],cols:=[],cells:=[],split:=[],merge:=[]}:GEd),draw:=[]}:EOp)])==0))&&(((((appD firstD [({kind:=1,node:=2,nw:=({id:=0,kind:=0,attrs:=[],flow:=[],grid:=({rows:=0,cols:=0,cells:=[],merges:=[]}:Grid),draw:=[]}:Node),attrs:=(onA ({data:=#[116,105,116,108,101]})),steps:=[],grid:=({rows:=[],cols:=[],cells:=[],split:=[],merge:=[]}:GEd),draw:=[]}:EOp)])).nodes).length:Int)==2)) (Xl attrT ((((((appD firstD [({kind:=1,node:=2,nw:=({id:=0,kind:=0,attrs:=[],flow:=[],grid:=({rows:=0,cols:=0,cells:=[],merges:=[]}:Grid),draw:=[]}:Node),attrs:=(onA ({data:=#[116,105,116,108,101]})),steps:=[],grid:=({rows:=[],cols:=[],cells:=[],split:=[],merge:=[]}:GEd),draw:=[]}:EOp)])).nodes).getD 1 default)).attrs))),(18,Xv 1 ((true&&((appE firstD [({kind:=1,node:=2,nw:=({id:=0,kind:=0,attrs:=[],flow:=[],grid:=({rows:=0,cols:=0,cells:=[],merges:=[]}:Grid),draw:=[]}:Node),attrs:=(onA ({data:=#[116,105,116,108,101]})),steps:=[],grid:=({rows:=[],cols:=[],cells:=[],split:=[],merge:=[]}:GEd),draw:=[]}:EOp)])==0))&&(((((appD firstD [({kind:=1,node:=2,nw:=({id:=0,kind:=0,attrs:=[],flow:=[],grid:=({rows:=0,cols:=0,cells:=[],merges:=[]}:Grid),draw:=[]}:Node),attrs:=(onA ({data:=#[116,105,116,108,101]})),steps:=[],grid:=({rows:=[],cols:=[],cells:=[],split:=[],merge:=[]}:GEd),draw:=[]}:EOp)])).nodes).length:Int)==2)) X0),(19,X (Xk ((true&&((appE firstD [({kind:=1,node:=2,nw:=({id:=0,kind:=0,attrs:=[],flow:=[],grid:=({rows:=0,cols:=0,cells:=[],merges:=[]}:Grid),draw:=[]}:Node),attrs:=(onA ({data:=#[116,105,116,108,101]})),steps:=[],grid:=({rows:=[],cols:=[],cells:=[],split:=[],merge:=[]}:GEd),draw:=[]}:EOp)])==0))&&(((((appD firstD [({kind:=1,node:=2,nw:=({id:=0,kind:=0,attrs:=[],flow:=[],grid:=({rows:=0,cols:=0,cells:=[],merges:=[]}:Grid),draw:=[]}:Node),attrs:=(onA ({data:=#[116,105,116,108,101]})),steps:=[],grid:=({rows:=[],cols:=[],cells:=[],split:=[],merge:=[]}:GEd),draw:=[]}:EOp)])).nodes).length:Int)==2))))]] [] (fun z0:Bool=>(VB z0,[])) _ _ e1.symm
end Go.Ch
end
section
set_option linter.unusedVariables false
set_option linter.unusedSimpArgs false
set_option maxRecDepth 100000
set_option maxHeartbeats 4000000
open Go Go.Proofs Go.Ab
namespace Go.Ch
theorem fc_grown(d:Doc)(site:Int)(raw:List Int)(G:Nat→Doc→Prop)(hI:GInv site G)(hg:G 0 d):FC Tryz.prog 15 [.t (docT d),VI site,VL 1 intT raw] (app emp []) (.t (docT (grownD site raw d 0))) (app emp []):=by
 refine .go Tryz.f15 ?_
 refine .len 2 (fun hl2=> ?_)
 refine .loop (α:=Nat×(List Node)) [.r [],.r []] 24 (fun(k,o0c0)=>([(1,VI site),(2,VL 1 intT raw),(3,.ptr 0 0),(6,.ptr 8 0),(7,VI (k:Int))],[(0,.box [VL 9 nodeT o0c0]),(8,.box [VN])])) (fun(k,o0c0)=>k≤38∧grownD site raw d 0=grownD site raw ⟨o0c0⟩ k∧G k ⟨o0c0⟩) (fun(k,o0c0)=>raw.length-k) (0,d.nodes) ?_ ?_
 ·
  exact⟨by omega,rfl,hg⟩
 rintro⟨k,o0c0⟩ I2 ih2
 try dsimp only at I2
 refine .bp [.r [(1,X (Xn ((k:Int)+2))),(3,X (Xl intT raw)),(7,Xv 1 (decide (((k:Int)+2)< (raw.length:Int))) X0),(8,X (Xk (decide (((k:Int)+2)< (raw.length:Int)))))]] (decide (((k:Int)+2)< (raw.length:Int))&&decide ((k:Int)< 36)) (fun h2=> ?_) (fun h2=> ?_)
 ·
  have hD:=hI.doc I2.2.2
  have hC:=hI.cmd (raw.getD (k+1) default) (raw.getD (k+2) default) I2.2.2
  have hA:=hI.app (raw.getD k default) (raw.getD (k+1) default) (raw.getD (k+2) default) I2.2.2
  refine .bp [.r [(5,X (Xi intT raw (k:Int))),(9,X (Xn ((k:Int)+1))),(10,X (Xi intT raw ((k:Int)+1))),(14,X (Xn ((k:Int)+2))),(15,X (Xi intT raw ((k:Int)+2))),(17,X (Xc1 232 (fc_command ({nodes:=o0c0}:Doc) site (raw.getD k default) (raw.getD (k+1) default) (raw.getD (k+2) default) (by assumption) (by assumption)) X0)),(18,X (Xc1 240 (fc_apply ({nodes:=o0c0}:Doc) (cmdP ({nodes:=o0c0}:Doc) site (raw.getD k default) (raw.getD (k+1) default) (raw.getD (k+2) default)) (by assumption)) X0))],.r []] ((appE ({nodes:=o0c0}:Doc) (cmdP ({nodes:=o0c0}:Doc) site (raw.getD k default) (raw.getD (k+1) default) (raw.getD (k+2) default)))==0) (fun h5=> ?_) (fun h5=> ?_)
  ·
   have hgo:=grown_go (site:=site) (d:=⟨o0c0⟩) (show k+2<raw.length∧k<36 by omega)
   have hst:=hI.step (raw.getD k default) (raw.getD (k+1) default) (raw.getD (k+2) default) (show k<55 by omega) I2.2.2
   refine .back [.r [],.r [(1,X (Xn ((k:Int)+3)))]] [(0,0),(8,8)] (ih2 ((k+3),((appD ({nodes:=o0c0}:Doc) (cmdP ({nodes:=o0c0}:Doc) site (raw.getD k default) (raw.getD (k+1) default) (raw.getD (k+2) default)))).nodes) ?_ ?_)
   ·
    first| (rw[stepG_y h5] at hgo hst;exact⟨by omega,I2.2.1.trans hgo,hst⟩)| (rw[stepG_n h5] at hgo hst;exact⟨by omega,I2.2.1.trans hgo,hst⟩)
   ·
    ((try dsimp only);omega)
  ·
   have hgo:=grown_go (site:=site) (d:=⟨o0c0⟩) (show k+2<raw.length∧k<36 by omega)
   have hst:=hI.step (raw.getD k default) (raw.getD (k+1) default) (raw.getD (k+2) default) (show k<55 by omega) I2.2.2
   refine .back [.r [(1,X (Xn ((k:Int)+3)))]] [(0,0),(8,8)] (ih2 ((k+3),o0c0) ?_ ?_)
   ·
    first| (rw[stepG_y h5] at hgo hst;exact⟨by omega,I2.2.1.trans hgo,hst⟩)| (rw[stepG_n h5] at hgo hst;exact⟨by omega,I2.2.1.trans hgo,hst⟩)
   ·
    ((try dsimp only);omega)
 ·
  have e1:((grownD site raw d 0):Doc)=({nodes:=o0c0}:Doc):=by
   exact I2.2.1.trans (grown_end (by omega))
  exact .finVE [.r []] [] [] (fun z0:Doc=>(.t (docT z0),[])) _ _ e1
end Go.Ch
end
section
set_option linter.unusedVariables false
set_option linter.unusedSimpArgs false
set_option maxRecDepth 100000
set_option maxHeartbeats 4000000
open Go Go.Proofs Go.Ab
namespace Go.Ch
theorem fc_lettersR(s:ByteArray)(hs:s.size≤1000000000):FC Tryz.prog 14 [VS s] (app emp []) (.row 0 ((lettersL s).length)) (app emp [(0,OR 3 elemT (lettersL s))]):=by
 refine .go Tryz.f14 ?_
 refine .loop (α:=Nat×(List Elem)) [.r [],.r [],.r [],.le (.nR 3 3)] 41 (fun(i,o)=>([(0,VS s),(3,.row 40 o.length),(6,VI (s.size:Int)),(7,VI (i:Int))],[(40,OR 3 elemT o)])) (fun(i,o)=>i≤s.size∧o=(List.range i).map (ltr s)) (fun(i,o)=>s.size-i) (0,[]) ?_ ?_
 ·
  exact⟨by omega,rfl⟩
 rintro⟨i,o⟩ I3 ih3
 try dsimp only at I3
 have ol:o.length=i:=by rw[I3.2];simp
 refine .bp [.r []] (decide ((i:Int)< (s.size:Int))) (fun h3=> ?_) (fun h3=> ?_)
 ·
  refine .back [.r [],.r [(3,X (Xb s (i:Int))),(4,X (Xn ((((s[i]?).getD 0).toNat:Nat):Int)) (by have:=UInt8.toNat_lt ((s[i]?).getD 0);omega)),(5,X (Xf [(2,2)])),(7,X (rowC elemT [({char:=((((s[i]?).getD 0).toNat:Nat):Int),ref:=0,attrs:=[]}:Elem)] (Xap 3 elemT 40 o [({char:=((((s[i]?).getD 0).toNat:Nat):Int),ref:=0,attrs:=[]}:Elem)])))],.r [(0,X (Xn ((i:Int)+1)))]] [(40,40)] (ih3 ((i+1),(o++[({char:=((((s[i]?).getD 0).toNat:Nat):Int),ref:=0,attrs:=[]}:Elem)])) ?_ ?_)
  ·
   refine⟨by omega,?_⟩
   rw[I3.2,List.range_succ,List.map_append]
   rfl
  ·
   ((try dsimp only);omega)
 ·
  have e1:((lettersL s):List Elem)=o:=by
   first| (rw[I3.2,show i=s.size by omega];done)| (rw[I3.2,show i=s.size by omega];rfl)
  have e2:((lettersL s).length:Nat)=o.length:=by
   first| (rw[I3.2,show i=s.size by omega];done)| (rw[I3.2,show i=s.size by omega];rfl)
  exact .finE [.r []] [(40,0)] (fun((z0,z1):(List Elem)×Nat)=>(.row 0 z1,[(0,OR 3 elemT z0)])) _ _ (pr e1 e2)
theorem fc_abc:FC Tryz.prog 14 [VS {data:=#[97,98,99]}] (app emp []) (.row 0 3) (app emp [(0,OR 3 elemT [({char:=97,ref:=0,attrs:=[]}:Elem),({char:=98,ref:=0,attrs:=[]}:Elem),({char:=99,ref:=0,attrs:=[]}:Elem)])]):=by
 have h:=fc_lettersR {data:=#[97,98,99]} (by decide)
 have e:lettersL {data:=#[97,98,99]}=[({char:=97,ref:=0,attrs:=[]}:Elem),({char:=98,ref:=0,attrs:=[]}:Elem),({char:=99,ref:=0,attrs:=[]}:Elem)]:=by kernel_rfl
 rw[e] at h
 exact h
theorem fc_start(raw:List Int)(G:Nat→Doc→Prop)(hI:GInv 0 G)(hg:G 0 baseD):FC Tryz.prog 5 [VL 1 intT raw] (app emp []) (.t (docT (grownD 0 raw baseD 0))) (app emp []):=by
 refine .go Tryz.f5 ?_
 refine .len 0 (fun hl0=> ?_)
 have e1:((grownD 0 raw baseD 0):Doc)=((grownD 0 raw ({nodes:=([({id:=1,kind:=0,attrs:=[],flow:=([({char:=0,ref:=2,attrs:=[]}:Elem)]++[({char:=0,ref:=3,attrs:=[]}:Elem)]),grid:=({rows:=0,cols:=0,cells:=[],merges:=[]}:Grid),draw:=[]}:Node),({id:=2,kind:=1,attrs:=[],flow:=([({char:=97,ref:=0,attrs:=[]}:Elem),({char:=98,ref:=0,attrs:=[]}:Elem),({char:=99,ref:=0,attrs:=[]}:Elem)]++[({char:=10,ref:=0,attrs:=[]}:Elem),({char:=100,ref:=0,attrs:=[]}:Elem),({char:=10,ref:=0,attrs:=[]}:Elem)]),grid:=({rows:=0,cols:=0,cells:=[],merges:=[]}:Grid),draw:=[]}:Node)]++[({id:=3,kind:=10,attrs:=[],flow:=[],grid:=({rows:=0,cols:=0,cells:=[],merges:=[]}:Grid),draw:=[]}:Node)])}:Doc) 0)):=by
  rfl
 exact .finVE [.r [],.r [(0,X (Xc1 8 fc_firstB X0))],.r [(4,X (Xa (Xc ((0:Int)≤0)) (Xc ((0:Int)< ((2:Nat):Int)))) ⟨by decide,by decide⟩),(7,X (Xf [(2,2)])),(9,X (rowC elemT [({char:=0,ref:=3,attrs:=[]}:Elem)] (Xap 3 elemT 10 [({char:=0,ref:=2,attrs:=[]}:Elem)] [({char:=0,ref:=3,attrs:=[]}:Elem)]))),(10,X (Xa (Xc ((0:Int)≤0)) (Xc ((0:Int)< ((2:Nat):Int)))) ⟨by decide,by decide⟩)],.r [(2,X (Xc1 152 fc_abc X0)),(3,X (Xf [(2,2)])),(4,X (Xf [(2,2)])),(5,X (Xf [(2,2)])),(7,X (rowC elemT [({char:=10,ref:=0,attrs:=[]}:Elem),({char:=100,ref:=0,attrs:=[]}:Elem),({char:=10,ref:=0,attrs:=[]}:Elem)] (Xap 3 elemT 152 [({char:=97,ref:=0,attrs:=[]}:Elem),({char:=98,ref:=0,attrs:=[]}:Elem),({char:=99,ref:=0,attrs:=[]}:Elem)] [({char:=10,ref:=0,attrs:=[]}:Elem),({char:=100,ref:=0,attrs:=[]}:Elem),({char:=10,ref:=0,attrs:=[]}:Elem)]))),(8,X (Xa (Xc ((0:Int)≤1)) (Xc ((1:Int)< ((2:Nat):Int)))) ⟨by decide,by decide⟩)],.le (.cb 16 0 true 9 [((([({char:=0,ref:=2,attrs:=[]}:Elem)]++[({char:=0,ref:=3,attrs:=[]}:Elem)]).length):Nat)=(List.map elemT ([({char:=0,ref:=2,attrs:=[]}:Elem)]++[({char:=0,ref:=3,attrs:=[]}:Elem)])).length,((([({char:=97,ref:=0,attrs:=[]}:Elem),({char:=98,ref:=0,attrs:=[]}:Elem),({char:=99,ref:=0,attrs:=[]}:Elem)]++[({char:=10,ref:=0,attrs:=[]}:Elem),({char:=100,ref:=0,attrs:=[]}:Elem),({char:=10,ref:=0,attrs:=[]}:Elem)]).length):Nat)=(List.map elemT ([({char:=97,ref:=0,attrs:=[]}:Elem),({char:=98,ref:=0,attrs:=[]}:Elem),({char:=99,ref:=0,attrs:=[]}:Elem)]++[({char:=10,ref:=0,attrs:=[]}:Elem),({char:=100,ref:=0,attrs:=[]}:Elem),({char:=10,ref:=0,attrs:=[]}:Elem)])).length] ⟨lm,lm,trivial⟩),.r [(2,X (Xf [(2,2),(3,3),(6,5),(7,4),(8,8)])),(4,X (rowC nodeT [({id:=3,kind:=10,attrs:=[],flow:=[],grid:=({rows:=0,cols:=0,cells:=[],merges:=[]}:Grid),draw:=[]}:Node)] (XapB 9 nodeT 224 [({id:=1,kind:=0,attrs:=[],flow:=([({char:=0,ref:=2,attrs:=[]}:Elem)]++[({char:=0,ref:=3,attrs:=[]}:Elem)]),grid:=({rows:=0,cols:=0,cells:=[],merges:=[]}:Grid),draw:=[]}:Node),({id:=2,kind:=1,attrs:=[],flow:=([({char:=97,ref:=0,attrs:=[]}:Elem),({char:=98,ref:=0,attrs:=[]}:Elem),({char:=99,ref:=0,attrs:=[]}:Elem)]++[({char:=10,ref:=0,attrs:=[]}:Elem),({char:=100,ref:=0,attrs:=[]}:Elem),({char:=10,ref:=0,attrs:=[]}:Elem)]),grid:=({rows:=0,cols:=0,cells:=[],merges:=[]}:Grid),draw:=[]}:Node)] [({id:=3,kind:=10,attrs:=[],flow:=[],grid:=({rows:=0,cols:=0,cells:=[],merges:=[]}:Grid),draw:=[]}:Node)])))],.r [(2,X (Xc1 297 (fc_grown ({nodes:=([({id:=1,kind:=0,attrs:=[],flow:=([({char:=0,ref:=2,attrs:=[]}:Elem)]++[({char:=0,ref:=3,attrs:=[]}:Elem)]),grid:=({rows:=0,cols:=0,cells:=[],merges:=[]}:Grid),draw:=[]}:Node),({id:=2,kind:=1,attrs:=[],flow:=([({char:=97,ref:=0,attrs:=[]}:Elem),({char:=98,ref:=0,attrs:=[]}:Elem),({char:=99,ref:=0,attrs:=[]}:Elem)]++[({char:=10,ref:=0,attrs:=[]}:Elem),({char:=100,ref:=0,attrs:=[]}:Elem),({char:=10,ref:=0,attrs:=[]}:Elem)]),grid:=({rows:=0,cols:=0,cells:=[],merges:=[]}:Grid),draw:=[]}:Node)]++[({id:=3,kind:=10,attrs:=[],flow:=[],grid:=({rows:=0,cols:=0,cells:=[],merges:=[]}:Grid),draw:=[]}:Node)])}:Doc) 0 raw G hI (by exact hg)) (rowC nodeT ([({id:=1,kind:=0,attrs:=[],flow:=([({char:=0,ref:=2,attrs:=[]}:Elem)]++[({char:=0,ref:=3,attrs:=[]}:Elem)]),grid:=({rows:=0,cols:=0,cells:=[],merges:=[]}:Grid),draw:=[]}:Node),({id:=2,kind:=1,attrs:=[],flow:=([({char:=97,ref:=0,attrs:=[]}:Elem),({char:=98,ref:=0,attrs:=[]}:Elem),({char:=99,ref:=0,attrs:=[]}:Elem)]++[({char:=10,ref:=0,attrs:=[]}:Elem),({char:=100,ref:=0,attrs:=[]}:Elem),({char:=10,ref:=0,attrs:=[]}:Elem)]),grid:=({rows:=0,cols:=0,cells:=[],merges:=[]}:Grid),draw:=[]}:Node)]++[({id:=3,kind:=10,attrs:=[],flow:=[],grid:=({rows:=0,cols:=0,cells:=[],merges:=[]}:Grid),draw:=[]}:Node)]) X0)))]] [] [] (fun z0:Doc=>(.t (docT z0),[])) _ _ e1
end Go.Ch
end
section
set_option linter.unusedVariables false
set_option linter.unusedSimpArgs false
set_option maxRecDepth 100000
set_option maxHeartbeats 4000000
open Go Go.Proofs Go.Ab
namespace Go.Ch
theorem fc_changes(d:Doc)(site:Int)(raw:List Int)(g:Bool)(k0:Nat)(G:Nat→Doc→Prop)(hI:GInv site G)(hk:k0≤38)(hg:G k0 d):FC Tryz.prog 6 [.t (docT d),VI site,VL 1 intT raw,VB g] (app emp []) (.tup [VL 19 eopT ((chgD site g raw [] d 0).1),.t (docT ((chgD site g raw [] d 0).2))]) (app emp []):=by
 refine .go Tryz.f6 ?_
 refine .len 2 (fun hl2=> ?_)
 refine .loop (α:=Nat×(List Node)×(List EOp)) [.r [],.r [],.r [],.le (.nR 10 19)] 41 (fun(k,o0c0,c)=>([(1,VI site),(2,VL 1 intT raw),(3,VB g),(4,.ptr 0 0),(9,.ptr 16 0),(10,.row 40 c.length),(11,VI (k:Int))],[(0,.box [VL 9 nodeT o0c0]),(16,.box [VN]),(40,OR 19 eopT c)])) (fun(k,o0c0,c)=>k≤17∧chgD site g raw [] d 0=chgD site g raw c ⟨o0c0⟩ k∧G (k0+k) ⟨o0c0⟩∧c.length≤k) (fun(k,o0c0,c)=>raw.length-k) (0,d.nodes,[]) ?_ ?_
 ·
  exact⟨by omega,rfl,hg,by simp⟩
 rintro⟨k,o0c0,c⟩ I3 ih3
 try dsimp only at I3
 refine .bp [.r [(1,X (Xn ((k:Int)+2))),(3,X (Xl intT raw)),(7,Xv 1 (decide (((k:Int)+2)< (raw.length:Int))) X0),(8,X (Xk (decide (((k:Int)+2)< (raw.length:Int)))))]] (decide (((k:Int)+2)< (raw.length:Int))&&decide ((k:Int)< 15)) (fun h3=> ?_) (fun h3=> ?_)
 ·
  have hD:=hI.doc I3.2.2.1
  have hC:=hI.cmd (raw.getD (k+1) default) (raw.getD (k+2) default) I3.2.2.1
  have hA:=hI.app (raw.getD k default) (raw.getD (k+1) default) (raw.getD (k+2) default) I3.2.2.1
  have hL:=cmdP_len ⟨o0c0⟩ site (raw.getD k default) (raw.getD (k+1) default) (raw.getD (k+2) default)
  refine .loop (α:=Bool×Nat) [.r [(4,X (Xi intT raw (k:Int))),(8,X (Xn ((k:Int)+1))),(9,X (Xi intT raw ((k:Int)+1))),(13,X (Xn ((k:Int)+2))),(14,X (Xi intT raw ((k:Int)+2))),(16,X (Xc1 241 (fc_command ({nodes:=o0c0}:Doc) site (raw.getD k default) (raw.getD (k+1) default) (raw.getD (k+2) default) (by assumption) (by assumption)) X0))],.r [],.r [(1,X (Xl eopT (cmdP ({nodes:=o0c0}:Doc) site (raw.getD k default) (raw.getD (k+1) default) (raw.getD (k+2) default))))]] 289 (fun(s,j)=>([(1,VI site),(2,VL 1 intT raw),(3,VB g),(4,.ptr 0 0),(9,.ptr 16 0),(10,.row 40 c.length),(11,VI (k:Int)),(12,VL 19 eopT (cmdP ({nodes:=o0c0}:Doc) site (raw.getD k default) (raw.getD (k+1) default) (raw.getD (k+2) default))),(13,VB s),(46,VL 19 eopT (cmdP ({nodes:=o0c0}:Doc) site (raw.getD k default) (raw.getD (k+1) default) (raw.getD (k+2) default))),(47,VI ((cmdP ({nodes:=o0c0}:Doc) site (raw.getD k default) (raw.getD (k+1) default) (raw.getD (k+2) default)).length:Int)),(48,VI (j:Int))],[(0,.box [VL 9 nodeT o0c0]),(16,.box [VN]),(40,OR 19 eopT c)])) (fun(s,j)=>j≤(cmdP ⟨o0c0⟩ site (raw.getD k default) (raw.getD (k+1) default) (raw.getD (k+2) default)).length∧s=skpB g (cmdP ⟨o0c0⟩ site (raw.getD k default) (raw.getD (k+1) default) (raw.getD (k+2) default)) j) (fun(s,j)=>(cmdP ⟨o0c0⟩ site (raw.getD k default) (raw.getD (k+1) default) (raw.getD (k+2) default)).length-j) (false,0) ?_ ?_
  ·
   exact⟨by omega,rfl⟩
  rintro⟨s,j⟩ I8 ih8
  try dsimp only at I8
  refine .bp [.r []] (decide ((j:Int)< ((cmdP ({nodes:=o0c0}:Doc) site (raw.getD k default) (raw.getD (k+1) default) (raw.getD (k+2) default)).length:Int))) (fun h8=> ?_) (fun h8=> ?_)
  ·
   refine .back [.r [(0,X (Xi eopT (cmdP ({nodes:=o0c0}:Doc) site (raw.getD k default) (raw.getD (k+1) default) (raw.getD (k+2) default)) (j:Int)))],.r [(3,Xv 1 (!s) X0),(4,Xv 1 (!s) X0),(5,Xv 1 (!s) X0),(7,Xv 1 ((!s)&&(((((cmdP ({nodes:=o0c0}:Doc) site (raw.getD k default) (raw.getD (k+1) default) (raw.getD (k+2) default)).getD j default)).kind)==3)) X0),(8,Xka (!s) (((((cmdP ({nodes:=o0c0}:Doc) site (raw.getD k default) (raw.getD (k+1) default) (raw.getD (k+2) default)).getD j default)).kind)==3)),(9,X (Xk' s))],.r [(0,X (Xn ((j:Int)+1)))]] [(0,0),(16,16),(40,40)] (ih8 ((s|| ((((((cmdP ({nodes:=o0c0}:Doc) site (raw.getD k default) (raw.getD (k+1) default) (raw.getD (k+2) default)).getD j default)).kind)==3)&& !g)),(j+1)) ?_ ?_)
   ·
    refine⟨by omega,?_⟩
    rw[skp_succ (by omega),←I8.2]
    try(cases s<;>simp)
   ·
    ((try dsimp only);omega)
  ·
   have hs:s=skpB g (cmdP ⟨o0c0⟩ site (raw.getD k default) (raw.getD (k+1) default) (raw.getD (k+2) default)) (cmdP ⟨o0c0⟩ site (raw.getD k default) (raw.getD (k+1) default) (raw.getD (k+2) default)).length:=by rw[I8.2,show j=(cmdP ⟨o0c0⟩ site (raw.getD k default) (raw.getD (k+1) default) (raw.getD (k+2) default)).length by omega]
   refine .bp [.r [(2,X (Xc1 313 (fc_apply ({nodes:=o0c0}:Doc) (cmdP ({nodes:=o0c0}:Doc) site (raw.getD k default) (raw.getD (k+1) default) (raw.getD (k+2) default)) (by assumption)) X0))],.r [(4,Xv 1 ((appE ({nodes:=o0c0}:Doc) (cmdP ({nodes:=o0c0}:Doc) site (raw.getD k default) (raw.getD (k+1) default) (raw.getD (k+2) default)))==0) X0),(5,X (Xk ((appE ({nodes:=o0c0}:Doc) (cmdP ({nodes:=o0c0}:Doc) site (raw.getD k default) (raw.getD (k+1) default) (raw.getD (k+2) default)))==0)))]] (((appE ({nodes:=o0c0}:Doc) (cmdP ({nodes:=o0c0}:Doc) site (raw.getD k default) (raw.getD (k+1) default) (raw.getD (k+2) default)))==0)&& !s) (fun h13=> ?_) (fun h13=> ?_)
   ·
    have hst:=hI.step (raw.getD k default) (raw.getD (k+1) default) (raw.getD (k+2) default) (show k0+k<55 by omega) I3.2.2.1
    have hr:k+2<raw.length∧k<15:=by omega
    refine .back [.r [],.r [(2,X (XapB 19 eopT 40 c (cmdP ({nodes:=o0c0}:Doc) site (raw.getD k default) (raw.getD (k+1) default) (raw.getD (k+2) default))))],.r [(1,X (Xn ((k:Int)+3)))]] [(0,0),(16,16),(40,40)] (ih3 ((k+3),((appD ({nodes:=o0c0}:Doc) (cmdP ({nodes:=o0c0}:Doc) site (raw.getD k default) (raw.getD (k+1) default) (raw.getD (k+2) default)))).nodes,(c++(cmdP ({nodes:=o0c0}:Doc) site (raw.getD k default) (raw.getD (k+1) default) (raw.getD (k+2) default)))) ?_ ?_)
    ·
     rw[stepG_y h13.1] at hst
     exact⟨by omega,I3.2.1.trans (chg_y hr (okC_y h13.1 (hs.symm.trans h13.2))),hst,by rw[List.length_append];omega⟩
    ·
     ((try dsimp only);omega)
   ·
    have hst:=hI.step (raw.getD k default) (raw.getD (k+1) default) (raw.getD (k+2) default) (show k0+k<55 by omega) I3.2.2.1
    have hr:k+2<raw.length∧k<15:=by omega
    refine .back [.r [(1,X (Xn ((k:Int)+3)))]] [(0,0),(16,16),(40,40)] (ih3 ((k+3),o0c0,c) ?_ ?_)
    ·
     exact⟨by omega,I3.2.1.trans (chg_n hr (okC_n (h13.imp id hs.symm.trans))),hI.more (show k0+k<55 by omega) I3.2.2.1,by omega⟩
    ·
     ((try dsimp only);omega)
 ·
  have e1:((chgD site g raw [] d 0).1:List EOp)=c:=by
   rw[I3.2.1,chg_end (by omega)]
  have e2:((chgD site g raw [] d 0).2:Doc)=({nodes:=o0c0}:Doc):=by
   rw[I3.2.1,chg_end (by omega)]
  exact .finVE [.r [],.le (.fr 8 [(c.length:Nat)=(List.map eopT c).length] ⟨lm,trivial⟩)] [] [] (fun((z0,z1):(List EOp)×Doc)=>(.tup [VL 19 eopT z0,.t (docT z1)],[])) _ _ (pr e1 e2)
end Go.Ch
end
section
set_option linter.unusedVariables false
set_option linter.unusedSimpArgs false
namespace Go.Ch
open Go Go.Ab
def NU(U:List ByteArray)(s:ByteArray):Prop:=NPg s∧s∈U
def VU(U:List ByteArray)(e:Bool)(l:List Attr):Prop:=V (NU U) VPg e l
variable {U:List ByteArray}
theorem nu_mt:¬NU U mt:=fun h=>np_mt h.1
theorem VU.g{e:Bool}{l:List Attr}(h:VU U e l):VG e l:=⟨h.1,fun a ha=>⟨(h.2 a ha).1.1,(h.2 a ha).2⟩⟩
theorem VU.nil{e:Bool}:VU U e []:=⟨vg_nil.1,fun a h=>by cases h⟩
theorem VU.sub{e:Bool}{l:List Attr}(h:VU U false l):VU U e l:=⟨h.1,fun a ha=>⟨(h.2 a ha).1,.inl ((h.2 a ha).2.resolve_right (fun q=>by cases q.1))⟩⟩
theorem names_le:∀{l:List Attr} {U:List ByteArray},Sorted l→(∀a∈l,a.name∈U)→l.length≤U.length
 | [],U,_,_=>Nat.zero_le _
 |a::l,U,hs,hu=>by
  have:=names_le (l:=l) (U:=U.filter fun s=> !(seq s a.name)) hs.2 (fun b hb=>by
   have h1:=hs.1 b hb
   rw[List.mem_filter]
   exact⟨hu b (by simp[hb]),by rw[seq_no.2 (Ne.symm (slt_ne h1))];rfl⟩)
  have h2:=(List.length_filter_lt_length_iff_exists (l:=U) (p:=fun s=> !(seq s a.name))).2 ⟨a.name,hu a (by simp),by rw[seq_iff.2 rfl];decide⟩
  simp only[List.length_cons];omega
theorem VU.len{e:Bool}{l:List Attr}(h:VU U e l)(hU:U.length≤100):l.length≤100:=Nat.le_trans (names_le h.1 (fun a ha=>(h.2 a ha).1.2)) hU
def RU(U:List ByteArray)(x:Elem):Prop:=elemE x=0∧VU U false x.attrs
def UU(U:List ByteArray):DU→Prop
 | .K c=>VU U true c
 | .A e=>RU U e
 | .C=>True
theorem elem_chg{x:Elem}{l:List Attr}(h:elemE x=0)(hl:VG false l):elemE ⟨x.char,x.ref,l⟩=0:=by
 unfold elemE at h⊢
 split at h
 ·cases h
 ·rename_i h1
  split at h
  ·cases h
  ·rename_i h2
   rw[if_neg h1,if_neg h2];exact chk_iff.2 hl
theorem RU.chg{x:Elem}{c:List Attr}(h:RU U x)(hc:VU U true c):RU U (chgE c x):=by
 have:=raw_V nu_mt h.2 hc
 exact⟨elem_chg h.1 (VU.g this),this⟩
theorem UU.s(hU:U.length≤100){u:DU}(h:UU U u):UnitS u:=by
 cases u with
 |K c=>exact⟨VU.g h,VU.len h hU⟩
 |A e=>exact⟨h.1,VU.len h.2 hU⟩
 |C=>trivial
theorem all_cons{α:Type}{P:α→Prop}{x:α}{l:List α}(h:P x)(k:∀u∈l,P u):∀u∈x::l,P u:=fun u hu=>by
 rcases List.mem_cons.1 hu with rfl|hu
 ·exact h
 ·exact k u hu
theorem all_tail{α:Type}{P:α→Prop}{x:α}{l:List α}(h:∀u∈x::l,P u):∀u∈l,P u:=fun u hu=>h u (List.mem_cons_of_mem _ hu)
theorem joinDU_all(p q:List DU)(hp:∀u∈p,UU U u)(hq:∀u∈q,UU U u):∀u∈joinDU p q,UU U u:=by
 induction p,q using joinDU.induct with
 |case1 q p ih=>rw[joinDU];exact all_cons trivial (ih (all_tail hp) hq)
 |case2 p e q hne ih=>
  rw[joinDU]
  rotate_left
  ·exact hne
  exact all_cons (hq (.A e) (by simp)) (ih hp (all_tail hq))
 |case3 c p d q ih=>rw[joinDU];exact all_cons (bot_V nu_mt (hp (.K c) (by simp)) (hq (.K d) (by simp))) (ih (all_tail hp) (all_tail hq))
 |case4 c p q ih=>rw[joinDU];exact all_cons trivial (ih (all_tail hp) (all_tail hq))
 |case5 e p d q ih=>rw[joinDU];exact all_cons (RU.chg (hp (.A e) (by simp)) (hq (.K d) (by simp))) (ih (all_tail hp) (all_tail hq))
 |case6 e p q ih=>rw[joinDU];exact ih (all_tail hp) (all_tail hq)
 |case7 p hne=>rw[show joinDU p []=p by unfold joinDU;split<;>simp_all];exact hp
 |case8 q h1 h2=>rw[show joinDU [] q=[] by unfold joinDU;split<;>simp_all];intro u hu;cases hu
def addN:List DU→Nat
 | []=>0
 | .A _::us=>addN us+1
 |_::us=>addN us
theorem pairDU_all(p q:List DU)(hp:∀u∈p,UU U u)(hq:∀u∈q,UU U u):∀u∈(pairDU p q).1,UU U u:=by
 have h0:UU U (.K []):=VU.nil
 induction p,q using pairDU.induct with
 |case1 e p q ih=>rw[pairDU];exact all_cons (hp (.A e) (by simp)) (ih (all_tail hp) hq)
 |case2 e q ih=>rw[pairDU];exact all_cons h0 (ih hp (all_tail hq))
 |case3 c p e q ih=>rw[pairDU];exact all_cons h0 (ih hp (all_tail hq))
 |case4 p e q ih=>rw[pairDU];exact all_cons h0 (ih hp (all_tail hq))
 |case5 c p d q ih=>rw[pairDU];exact all_cons (wio_V nu_mt (hp (.K c) (by simp)) (hq (.K d) (by simp))) (ih (all_tail hp) (all_tail hq))
 |case6 c p q ih=>rw[pairDU];exact ih (all_tail hp) (all_tail hq)
 |case7 p d q ih=>rw[pairDU];exact all_cons trivial (ih (all_tail hp) (all_tail hq))
 |case8 p q ih=>rw[pairDU];exact ih (all_tail hp) (all_tail hq)
 |case9 p hne=>rw[show pairDU p []=([],[]) by unfold pairDU;split<;>simp_all];intro u hu;cases hu
 |case10 q h1 h2=>rw[show pairDU [] q=([],[]) by unfold pairDU;split<;>simp_all];intro u hu;cases hu
theorem pairDU_add(p q:List DU):newN (pairDU p q).1≤newN q+addN p:=by
 induction p,q using pairDU.induct with
 |case9 p hne=>rw[show pairDU p []=([],[]) by unfold pairDU;split<;>simp_all];simp[newN]
 |case10 q h1 h2=>rw[show pairDU [] q=([],[]) by unfold pairDU;split<;>simp_all];simp[newN]
 |_=>rw[pairDU];simp only[newN,addN] at*;omega
theorem applyU_all:∀(us:List DU) (f:List Elem),(∀u∈us,UU U u)→(∀x∈f,RU U x)→∀x∈applyU us f,RU U x
 | [],f,_,_=>fun x h=>by cases h
 | .A e::us,f,hu,hf=>by rw[applyU];exact all_cons (hu (.A e) (by simp)) (applyU_all us f (all_tail hu) hf)
 | .K c::us,y::f,hu,hf=>by rw[applyU];exact all_cons (RU.chg (hf y (by simp)) (hu (.K c) (by simp))) (applyU_all us f (all_tail hu) (all_tail hf))
 | .C::us,y::f,hu,hf=>by rw[applyU];exact applyU_all us f (all_tail hu) (all_tail hf)
 | .K c::us,[],hu,hf=>by rw[applyU];exact applyU_all us [] (all_tail hu) hf
 | .C::us,[],hu,hf=>by rw[applyU];exact applyU_all us [] (all_tail hu) hf
structure DU_(U:List ByteArray)(l:List DStep)(us:List DU):Prop where
 v:DValid l
 sw:DSw (exD l) us
 all:∀u∈us,UU U u
theorem DU_.dn(hU:U.length≤100){l:List DStep}{us:List DU}(h:DU_ U l us):DN 100000000000 l:=dn_of h.v h.sw (fun u hu=>UU.s hU (h.all u hu))
theorem DU_.ex{l:List DStep}{us:List DU}(h:DU_ U l us):∀u∈exD l,UU U u:=fun u hu=>h.all u ((dsw_mem h.sw u).1 hu)
theorem DU_.done(hU:U.length≤100){us:List DU}(hu:∀u∈us,UU U u)(h1:oldN us≤2147483647)(h2:newN us≤2147483647):DU_ U (doneD us) us:=by
 obtain⟨a,b,_⟩:=doneD_ok (fun u h=>(UU.s hU (hu u h)).ok) h1 h2
 exact⟨a,b,hu⟩
end Go.Ch
end
section
set_option linter.unusedVariables false
set_option linter.unusedSimpArgs false
namespace Go.Ch
open Go Go.Ab
variable {U:List ByteArray}
theorem addN_app(a b:List DU):addN (a++b)=addN a+addN b:=by
 induction a with
 |nil=>simp[addN]
 |cons u a ih=>cases u<;>simp only[List.cons_append,addN,ih]<;>omega
theorem addN_As(e:List Elem):addN (e.map .A)=e.length:=by
 induction e with
 |nil=>rfl
 |cons x e ih=>simp only[List.map_cons,addN,ih,List.length_cons]
theorem addN_Ks(n:Nat)(c:List Attr):addN (List.replicate n (.K c))=0:=by
 induction n with
 |zero=>rfl
 |succ n ih=>rw[List.replicate_succ];exact ih
theorem sw_addN{u v:List DU}(h:DSw u v):addN u=addN v:=by
 induction h with
 |refl u=>rfl
 |cons x h ih=>cases x<;>simp only[addN,ih]
 |swap e u=>simp only[addN]
 |symm h ih=>exact ih.symm
 |trans h k i j=>exact i.trans j
theorem tdW_ex{w:DWr}{s:DStep}(h:(s.kind=0∧0≤s.n)∨s.kind=1):tdW w s=foldD w (exS s):=by
 unfold tdW exS
 rcases h with⟨k,n⟩|k
 ·rw[if_pos k,if_neg (show¬s.kind=1 by omega),if_neg (show¬s.kind=2 by omega)]
  by_cases h0:s.n=0
  ·rw[if_pos h0,h0];rfl
  ·rw[if_neg h0]
   obtain⟨m,hm⟩:∃m,s.n.toNat=m+1:=⟨s.n.toNat- 1,by omega⟩
   have:=foldD_Ks s.attrs [] m w
   rw[List.append_nil] at this
   rw[hm,this,show((m+1:Nat):Int)=s.n by omega];rfl
 ·rw[if_neg (by omega),if_pos k,if_pos k]
  have:=foldD_As s.elems [] w
  rw[List.append_nil] at this
  rw[this];rfl
theorem foldD_app:∀(a b:List DU) (w:DWr),foldD w (a++b)=foldD (foldD w a) b
 | [],b,w=>rfl
 |u::a,b,w=>foldD_app a b (putU w u)
theorem tidyG_ex:∀(d:List DStep) (w:DWr),(∀s∈d,((s.kind=0∧0≤s.n)∨s.kind=1)∧lenE s=0)→tidyG w d=if checkD (flushD (foldD w (exD d)))=0 then(flushD (foldD w (exD d)),0) else([],3)
 | [],w,_=>by rw[tidyG,exD,foldD]
 |s::d,w,h=>by
  obtain⟨h1,h2⟩:=h s (by simp)
  rw[tidyG_cons h2 (fun q=>by unfold tdBad at q;omega),tidyG_ex d _ (fun t ht=>h t (by simp[ht])),exD,foldD_app,tdW_ex h1]
theorem tidy_ex{d:List DStep}(h:∀s∈d,((s.kind=0∧0≤s.n)∨s.kind=1)∧lenE s=0)(hu:∀u∈exD d,UnitOk u)(h1:oldN (exD d)≤2147483647)(h2:newN (exD d)≤2147483647):tidyL d=doneD (exD d):=by
 have hv:=(doneD_ok hu h1 h2).1
 unfold tidyL
 rw[tidyG_ex d _ h,if_pos (show checkD (flushD (foldD ⟨[],[],0⟩ (exD d)))=0 from checkD_iff.2 hv)];rfl
theorem lenE_keep{n:Int}{c:List Attr}(h:0≤n∧n≤2147483647)(hc:VG true c):lenE ⟨0,n,c,[]⟩=0:=by
 by_cases h0:n=0
 ·subst h0
  unfold lenE
  have e:stepD ⟨0,0,c,[]⟩=2:=by unfold stepD;simp
  rw[if_pos (.inr ⟨(by decide:(0:Int)≠1),rfl,e⟩)];exact chk_iff.2 hc
 ·exact lenE_step (step_iff.2 (.inr ⟨.inl rfl,rfl,fun q=>absurd (show(0:Int)=2 from q) (by decide),(by show(1:Int)≤n;omega),h.2,hc⟩))
theorem lenE_adds{es:List Elem}(h:∀x∈es,elemE x=0):lenE ⟨1,0,[],es⟩=0:=by
 cases es with
 |nil=>
  unfold lenE
  have e:stepD ⟨1,0,[],[]⟩=11:=by unfold stepD;simp
  rw[if_pos (.inl ⟨rfl,rfl,e⟩)];exact chk_iff.2 vg_nil
 |cons x l=>exact lenE_step (step_iff.2 (.inl ⟨rfl,rfl,rfl,by simp,h⟩))
def typUs(n:Nat)(k:Nat)(es:List Elem)(au:ByteArray):List DU:=List.replicate k (.K [])++((es.map (typE au)).map .A++List.replicate (n-k) (.K []))
theorem typ_ex{n:Nat}{k:Int}{es:List Elem}{au:ByteArray}(hk:0≤k∧k≤n):exD (typS n k es au)=typUs n k.toNat es au:=by
 unfold typS typUs
 simp only[exD,exS]
 rw[if_neg (by decide),if_neg (by decide),if_pos trivial,if_neg (by decide),if_neg (by decide),List.append_nil,show((n:Int)- k).toNat=n-k.toNat by omega]
theorem typUs_facts{n k:Nat}{es:List Elem}{au:ByteArray}(hk:k≤n):oldN (typUs n k es au)=n∧newN (typUs n k es au)=n+es.length∧addN (typUs n k es au)=es.length:=by
 unfold typUs
 have a:=lens_As (es.map (typE au))
 have b:=lens_Ks k []
 have c:=lens_Ks (n-k) []
 simp only[oldN_app,newN_app,addN_app,addN_As,addN_Ks,a.1,a.2,b.1,b.2,c.1,c.2,List.length_map]
 omega
theorem typE_ok{au:ByteArray}{x:Elem}(ha:VU U true [⟨addB,au⟩,⟨cutB,mtB⟩])(hx:RU U x):RU U (typE au x):=RU.chg hx ha
theorem typUs_all{n k:Nat}{es:List Elem}{au:ByteArray}(ha:VU U true [⟨addB,au⟩,⟨cutB,mtB⟩])(he:∀x∈es,RU U x):∀u∈typUs n k es au,UU U u:=by
 intro u hu
 unfold typUs at hu
 rcases List.mem_append.1 hu with hu|hu
 ·rw[List.eq_of_mem_replicate hu];exact VU.nil
 ·rcases List.mem_append.1 hu with hu|hu
  ·obtain⟨y,hy,rfl⟩:=List.mem_map.1 hu
   obtain⟨x,hx,rfl⟩:=List.mem_map.1 hy
   exact typE_ok ha (he x hx)
  ·rw[List.eq_of_mem_replicate hu];exact VU.nil
theorem typD_ok(hU:U.length≤100){n:Nat}{k:Int}{es:List Elem}{au:ByteArray}(hk:0≤k∧k≤n)(hn:n≤100000000)(hl:es.length≤100000000)(ha:VU U true [⟨addB,au⟩,⟨cutB,mtB⟩])(he:∀x∈es,RU U x):
 typD n k es au=doneD (typUs n k.toNat es au)∧DU_ U (typD n k es au) (typUs n k.toNat es au):=by
 have hf:=typUs_facts (n:=n) (k:=k.toNat) (es:=es) (au:=au) (by omega)
 have hall:=typUs_all (n:=n) (k:=k.toNat) ha he
 have e:typD n k es au=doneD (typUs n k.toNat es au):=by
  unfold typD
  rw[tidy_ex (d:=typS n k es au) (fun s hs=> ?_) (by rw[typ_ex hk];exact fun u hu=>(UU.s hU (hall u hu)).ok) (by rw[typ_ex hk];omega) (by rw[typ_ex hk];omega),typ_ex hk]
  unfold typS at hs
  simp only[List.mem_cons,List.not_mem_nil,or_false] at hs
  rcases hs with rfl|rfl|rfl
  ·exact⟨.inl ⟨rfl,hk.1⟩,lenE_keep (by omega) vg_nil⟩
  ·refine⟨.inr rfl,lenE_adds (fun x hx=> ?_)⟩
   obtain⟨y,hy,rfl⟩:=List.mem_map.1 hx
   exact(typE_ok ha (he y hy)).1
  ·exact⟨.inl ⟨rfl,(by show(0:Int)≤(n:Int)- k;omega)⟩,lenE_keep (by omega) vg_nil⟩
 exact⟨e,by rw[e];exact .done hU hall (by omega) (by omega)⟩
theorem ersUs_facts(f:List Elem)(pl:List Int)(au:ByteArray)(n:Nat):oldN (ersUs f pl au n)=n∧newN (ersUs f pl au n)≤n∧addN (ersUs f pl au n)=0:=by
 unfold ersUs
 induction n with
 |zero=>exact⟨rfl,Nat.le_refl _,rfl⟩
 |succ n ih=>
  rw[List.range_succ,List.map_append,oldN_app,newN_app,addN_app,List.map_cons,List.map_nil]
  obtain⟨a,b,c⟩:=ih
  rw[a,c]
  have:oldN [ersU f pl au n]=1∧newN [ersU f pl au n]≤1∧addN [ersU f pl au n]=0:=by unfold ersU;repeat' split<;>simp[oldN,newN,addN]
  omega
theorem ersUs_all{f:List Elem}{pl:List Int}{au:ByteArray}(ha:seq au mtB=false→VU U true [⟨cutB,au⟩])(n:Nat):∀u∈ersUs f pl au n,UU U u:=by
 intro u hu
 unfold ersUs at hu
 obtain⟨i,_,rfl⟩:=List.mem_map.1 hu
 unfold ersU
 split
 ·split
  ·trivial
  ·rename_i h
   exact ha (by simp only[Bool.or_eq_true,not_or,Bool.not_eq_true] at h;exact h.1)
 ·exact VU.nil
theorem ersD_ok(hU:U.length≤100){f:List Elem}{pl:List Int}{au:ByteArray}(hn:f.length≤100000000)(ha:seq au mtB=false→VU U true [⟨cutB,au⟩]):
 ersD f pl au=doneD (ersUs f pl au f.length)∧DU_ U (ersD f pl au) (ersUs f pl au f.length):=by
 have hf:=ersUs_facts f pl au f.length
 have hall:=ersUs_all (f:=f) (pl:=pl) ha f.length
 have hlen:(ersUs f pl au f.length).length=f.length:=by simp[ersUs]
 have e:ersD f pl au=doneD (ersUs f pl au f.length):=(tidy_units (fun u hu=>(UU.s hU (hall u hu)).ok) (by omega)).1
 exact⟨e,by rw[e];exact .done hU hall (by omega) (by omega)⟩
theorem DU_.lens{l:List DStep}{us:List DU}(h:DU_ U l us):oldD l=oldN us∧newD l=newN us:=by
 have a:=lens_V h.v
 have b:=dsw_lens h.sw
 omega
theorem pairD1_ok(hU:U.length≤100){a b:List DStep}{us vs:List DU}(ha:DU_ U a us)(hb:DU_ U b vs)(hm:oldN us=oldN vs)(hs:newN us+newN vs≤2147483647):
 DU_ U (pairD1 a b) (pairDU (exD a) (exD b)).1∧oldD (pairD1 a b)=newD b∧newD (pairD1 a b)≤newD b+addN us:=by
 obtain⟨a1,a2⟩:=ha.lens
 obtain⟨b1,b2⟩:=hb.lens
 have P:=pair_start ha.v hb.v (ha.dn hU) (hb.dn hU) (by omega) (by omega)
 have hn:=pairDU_add (exD a) (exD b)
 have hd:DU_ U (pairD1 a b) (pairDU (exD a) (exD b)).1:=⟨P.2.2.2.1,P.2.2.2.2.2.1,pairDU_all _ _ ha.ex hb.ex⟩
 have l1:=hd.lens
 have l2:=lens_V hb.v
 have l3:=sw_addN ha.sw
 exact⟨hd,P.2.2.2.2.2.2.2.1,by omega⟩
theorem joinD_ok(hU:U.length≤100){a b:List DStep}{us vs:List DU}(ha:DU_ U a us)(hb:DU_ U b vs)(hm:newD a=oldD b):
 DU_ U (joinD a b) (joinDU (exD a) (exD b))∧oldD (joinD a b)=oldD a∧newD (joinD a b)=newD b:=by
 have P:=join_start ha.v hb.v (ha.dn hU) (hb.dn hU) hm
 exact⟨⟨P.2.2.2.2.1,P.2.2.2.2.2.1,joinDU_all _ _ ha.ex hb.ex⟩,P.2.2.2.2.2.2.1,P.2.2.2.2.2.2.2⟩
end Go.Ch
end
section
set_option linter.unusedVariables false
set_option linter.unusedSimpArgs false
namespace Go.Ch
open Go Go.Ab
structure UB(U:List ByteArray):Prop where
 len:U.length≤100
 ad:addB∈U
 ct:cutB∈U
structure NG(U:List ByteArray)(n:Node):Prop where
 at1:VU U false n.attrs
 fl:∀x∈n.flow,RU U x
 mg:n.grid.merges=[]
 ce:∀c∈n.grid.cells,c.attrs=[]∧c.text.size=0
 dr:∀o∈n.draw,o.plc.size≤100∧o.nm.size≤100∧o.vl.size≤100
 kd:n.kind≠6
structure NZ(m:Nat)(n:Node):Prop where
 fl:n.flow.length≤m
 ce:n.grid.cells.length≤m
 dr:n.draw.length≤m
variable {U:List ByteArray}
theorem vg_szd{e:Bool}{l:List Attr}(h:VG e l):Szd l:=fun a ha=>by
 obtain⟨h1,h2⟩:=h.2 a ha
 have n1:nameGo a.name=true:=h1
 unfold nameGo at n1
 rw[Bool.and_eq_true,decide_eq_true_eq] at n1
 refine⟨by omega,?_⟩
 rcases h2 with h2|h2
 ·have n2:valGo a.val=true:=h2
  unfold valGo at n2
  rw[Bool.and_eq_true,decide_eq_true_eq] at n2
  omega
 ·rw[h2.2];decide
theorem NG.b(hU:UB U){n:Node}{m:Nat}(h:NG U n)(hz:NZ m n)(hm:m≤1048576):NodeB n:=
 ⟨vg_szd h.at1.g,by have:=h.at1.len hU.len;omega,fun x hx=>vg_szd (h.fl x hx).2.g,Nat.le_trans hz.fl hm,fun x hx=>by have:=(h.fl x hx).2.len hU.len;omega,
  fun c hc=>⟨by rw[(h.ce c hc).2];decide,by rw[(h.ce c hc).1];exact(fun a ha=>by cases ha)⟩,Nat.le_trans hz.ce hm,fun c hc=>by rw[(h.ce c hc).1];decide,by rw[h.mg];decide,Nat.le_trans hz.dr hm,fun o ho=>by have:=h.dr o ho;omega⟩
theorem NG.lite{n:Node}(h:NG U n):n.grid.merges=[]∧NoTx n.grid.cells:=⟨h.mg,fun c hc=>(h.ce c hc).2⟩
theorem lens_le_of{m:Nat}:∀{l:List Node},(∀n∈l,NZ m n)→lensN l≤l.length*(3*m)
 | [],_=>by simp[lensN]
 |n::l,h=>by
  have:=lens_le_of (l:=l) (fun x hx=>h x (by simp[hx]))
  have hn:=h n (by simp)
  have e:lensN (n::l)=lenN n+lensN l:=by simp[lensN]
  rw[e,List.length_cons,Nat.add_mul,Nat.one_mul]
  have h1:=hn.fl
  have h2:=hn.ce
  have h3:=hn.dr
  unfold lenN;omega
theorem docL_of(hU:UB U){d:Doc}{m q:Nat}(hm:m≤3000)(hq:q≤100)(hl:d.nodes.length≤q)(h:∀n∈d.nodes,NG U n∧NZ m n):DocL d:=by
 refine⟨⟨by omega,fun n hn=>(h n hn).1.b hU (h n hn).2 (by omega),?_⟩,fun n hn=>(h n hn).1.lite⟩
 have h1:=lens_le_of (fun n hn=>(h n hn).2)
 have h2:d.nodes.length*(3*m)≤100*9000:=Nat.mul_le_mul (by omega) (by omega)
 omega
theorem V.filt{NP VP:ByteArray→Prop}{e:Bool}{p:Attr→Bool}:∀{l:List Attr},V NP VP e l→V NP VP e (l.filter p)
 | [],h=>h
 |a::l,h=>by
  have ih:=V.filt (p:=p) (l:=l) ⟨h.1.2,fun b hb=>h.2 b (by simp[hb])⟩
  rw[List.filter_cons]
  split
  ·exact⟨⟨fun b hb=>h.1.1 b ((List.mem_filter.1 hb).1),ih.1⟩,fun b hb=>by
    rcases List.mem_cons.1 hb with rfl|hb
    ·exact h.2 b (by simp)
    ·exact ih.2 b hb⟩
  ·exact ih
theorem VU.one{l:List Attr}(h:VU U false l){a:Attr}(ha:a∈l):VU U true [a]:=
 ⟨⟨(fun b hb=>by cases hb),trivial⟩,fun b hb=>by
  rw[List.mem_singleton] at hb;subst hb
  exact(VU.sub (e:=true) h).2 b ha⟩
theorem ru_end:RU U ⟨10,0,[]⟩:=⟨by decide+kernel,VU.nil⟩
theorem at_node{d:Doc}{s:Sel}{au:ByteArray}(h:atE d s au=0):docE d=0∧hasN d.nodes s.nd=true∧hasT (ndN d.nodes s.nd).kind=true∧(0≤s.fr∧s.fr≤s.tq∧s.tq< ((shwN (ndN d.nodes s.nd)).length:Int))∧(seq au mtB=true∨valGo au=true)∧atP d s au=⟨ndN d.nodes s.nd,shwN (ndN d.nodes s.nd),au⟩:=by
 have e:atP d s au=⟨ndN d.nodes s.nd,shwN (ndN d.nodes s.nd),au⟩:=by unfold atP;rw[h,if_neg (fun q=>q rfl)]
 unfold atE at h
 split at h
 ·rename_i q;exact absurd h q
 rename_i h1
 split at h
 ·cases h
 rename_i h2
 split at h
 ·cases h
 rename_i h3
 split at h
 ·cases h
 rename_i h4
 split at h
 ·cases h
 rename_i h5
 refine⟨Classical.byContradiction h1,by simpa using h2,by simpa using h3,by omega,?_,e⟩
 apply Classical.byContradiction;intro q
 rw[not_or,Bool.not_eq_true,Bool.not_eq_true] at q
 exact h5 q
theorem plcL_mem{f:List Elem}{mode x:Int}{n:Nat}(h:x∈plcL f mode n):0≤x∧x<n:=by
 unfold plcL plcN at h
 obtain⟨i,hi,rfl⟩:=List.mem_map.1 h
 have:=List.mem_range.1 ((List.mem_filter.1 hi).1)
 omega
theorem plB_of(hU:UB U){n:Node}{au:ByteArray}(hn:NG U n)(hz:n.flow.length≤1048576):PlB ⟨n,shwN n,au⟩:=
 ⟨hz,fun x hx=>plcL_mem hx,Nat.le_trans (plcL_len ..) hz,fun x hx=>by have:=(hn.fl x hx).2.len hU.len;omega⟩
theorem elemP_ru{p:Pl}(hp:PlB p)(hn:∀x∈p.node.flow,RU U x)(k:Int):RU U (elemP p k):=by
 unfold elemP
 split
 ·exact ru_end
 ·rename_i q
  have h1:k.toNat<p.shown.length:=by omega
  have h2:=hp.ok _ (getDX_mem h1)
  exact hn _ (getDX_mem (by omega))
theorem inhO_ok{r:Elem}{k:Int}:∀{l o:List Attr},VU U false o→(∀a∈l,VU U true [a])→VU U false (inhO r k o l)
 | [],o,ho,_=>ho
 |a::l,o,ho,hl=>by
  show VU U false (inhO r k (if inhG r k a=true then fm rawG o [a] else o) l)
  refine inhO_ok ?_ (fun b hb=>hl b (by simp[hb]))
  split
  ·exact raw_V nu_mt ho (hl a (by simp))
  ·exact ho
theorem inhP_ok{p:Pl}(hp:PlB p)(hn:∀x∈p.node.flow,RU U x)(k:Int):VU U false (inhP p k):=by
 unfold inhP
 have h1:=elemP_ru hp hn (k- 1)
 refine inhO_ok ?_ (fun a ha=>h1.2.one ha)
 unfold inhB
 split
 ·refine V.filt ?_
  unfold inhF;split
  ·exact(elemP_ru hp hn k).2
  ·exact h1.2
 ·exact VU.nil
theorem endP_ok{p:Pl}(hp:PlB p)(hn:∀x∈p.node.flow,RU U x)(k:Nat):VU U false (endP p k):=V.filt (elemP_ru hp hn _).2
theorem char_ru{c:Int}{l:List Attr}(hc:CharP c)(h0:c≠0)(hl:VU U false l):RU U ⟨c,0,l⟩:=by
 refine⟨?_,hl⟩
 rw[elemE_c (x:=⟨c,0,l⟩) (fun q=>h0 (q.2 rfl)) (.inr hc) (.inl rfl)]
 exact chk_iff.2 hl.g
theorem typEl_ok{p:Pl}(hp:PlB p)(hn:∀x∈p.node.flow,RU U x){s:Sel}{cs:List Int}(hc:∀c∈cs,CharP c∧c≠0):∀x∈typEl p s cs,RU U x:=by
 intro x hx
 unfold typEl at hx
 obtain⟨y,hy,rfl⟩:=List.mem_map.1 hx
 obtain⟨c,hc',rfl⟩:=List.mem_map.1 hy
 obtain⟨q1,q2⟩:=hc c hc'
 unfold typX mkE
 split
 ·exact char_ru q1 q2 (endP_ok hp hn _)
 ·exact char_ru q1 q2 (inhP_ok hp hn _)
theorem au_add(hU:UB U){au:ByteArray}(ha:seq au mtB=true∨valGo au=true):VU U true [⟨addB,au⟩,⟨cutB,mtB⟩]:=by
 refine⟨⟨fun b hb=> ?_,⟨(fun b hb=>by cases hb),trivial⟩⟩,fun b hb=> ?_⟩
 ·rw[List.mem_singleton] at hb;subst hb;exact(by decide+kernel:slt addB cutB=true)
 ·simp only[List.mem_cons,List.not_mem_nil,or_false] at hb
  rcases hb with rfl|rfl
  ·refine⟨⟨(by decide+kernel:nameGo addB=true),hU.ad⟩,?_⟩
   rcases ha with h|h
   ·exact .inr ⟨rfl,seq_iff.1 h⟩
   ·exact .inl h
  ·exact⟨⟨(by decide+kernel:nameGo cutB=true),hU.ct⟩,.inr ⟨rfl,rfl⟩⟩
theorem au_cut(hU:UB U){au:ByteArray}(ha:seq au mtB=true∨valGo au=true)(h0:seq au mtB=false):VU U true [⟨cutB,au⟩]:=by
 have hv:valGo au=true:=ha.resolve_left (by rw[h0];decide)
 refine⟨⟨(fun b hb=>by cases hb),trivial⟩,fun b hb=> ?_⟩
 rw[List.mem_singleton] at hb;subst hb
 exact⟨⟨(by decide+kernel:nameGo cutB=true),hU.ct⟩,.inl hv⟩
theorem stp_ok(hU:UB U){p:Pl}{s:Sel}{es:List Elem}(hp:PlB p)(hf:p.node.flow.length≤1048576)(hn:∀x∈p.node.flow,RU U x)(ha:seq p.author mtB=true∨valGo p.author=true)
 (hs:0≤s.fr∧s.fr≤s.tq∧s.tq< (p.shown.length:Int)) (hl:es.length≤1048576) (he:∀x∈es,RU U x):
 StpB p s es∧(∃us,DU_ U (stpP p s es) us)∧oldD (stpP p s es)=(p.node.flow.length:Int)∧newD (stpP p s es)≤p.node.flow.length+es.length:=by
 have hg:=gapP_bd hp hs
 obtain⟨_,T⟩:=typD_ok hU.len (n:=p.node.flow.length) (k:=gapP p.shown s.fr) (es:=es) (au:=p.author) hg (by omega) (by omega) (au_add hU ha) he
 obtain⟨_,E⟩:=ersD_ok hU.len (f:=p.node.flow) (pl:=(p.shown.take s.tq.toNat).drop s.fr.toNat) (au:=p.author) (by omega) (au_cut hU ha)
 have tf:=typUs_facts (n:=p.node.flow.length) (k:=(gapP p.shown s.fr).toNat) (es:=es) (au:=p.author) (by omega)
 have ef:=ersUs_facts p.node.flow ((p.shown.take s.tq.toNat).drop s.fr.toNat) p.author p.node.flow.length
 have tl:=T.lens
 have el:=E.lens
 obtain⟨P,p1,p2⟩:=pairD1_ok hU.len T E (by omega) (by omega)
 obtain⟨J,j1,j2⟩:=joinD_ok hU.len E P p1.symm
 refine⟨⟨hs,hl,fun x hx=>by have:=(he x hx).2.len hU.len;omega,E.v,T.v,P.v,E.dn hU.len,T.dn hU.len,P.dn hU.len,?_,p1.symm,?_⟩,⟨_,J⟩,?_,?_⟩
 ·show oldD (typD _ _ _ _)=oldD (ersD _ _ _);omega
 ·show newD (typD _ _ _ _)+newD (ersD _ _ _)≤2147483647;omega
 ·refine(show oldD (stpP p s es)=oldD (ersD p.node.flow ((p.shown.take s.tq.toNat).drop s.fr.toNat) p.author) from j1).trans ?_
  omega
 ·refine Int.le_trans (Int.le_of_eq (show newD (stpP p s es)=newD (pairD1 (typD p.node.flow.length (gapP p.shown s.fr) es p.author) (ersD p.node.flow ((p.shown.take s.tq.toNat).drop s.fr.toNat) p.author)) from j2)) ?_
  omega
end Go.Ch
end
section
set_option linter.unusedVariables false
set_option linter.unusedSimpArgs false
namespace Go.Ch
open Go Go.Ab
structure VD(l:List Node):Prop where
 ne:0<l.length
 one:(l.getD 0 default).id=1
 srt:SortN l
 node:∀n∈l,nodeE n=0
 refs:∀n∈l,∀r∈refsN n,∃m∈l,m.id=r∧permB n.kind m.kind=true
theorem sort_eq{l:List Node}(hs:SortN l){i j:Nat}(hi:i<l.length)(hj:j<l.length)(h:(l.getD i default).id=(l.getD j default).id):i=j:=by
 rcases Nat.lt_trichotomy i j with q|q|q
 ·have:=hs i j q hj;omega
 ·exact q
 ·have:=hs j i q hi;omega
theorem refsE_all{l:List Node}(hs:SortN l){k:Int}{rs:List Int}:∀(n i:Nat),rs.length-i=n→(refsE l k rs i=0↔∀j,i≤j→j<rs.length→∃m∈l,m.id=rs.getD j default∧permB k m.kind=true)
 |0,i,h=>by rw[refsE,if_neg (by omega)];exact⟨fun _ j h1 h2=>by omega,fun _=>rfl⟩
 |n+1,i,h=>by
  have hi:i<rs.length:=by omega
  have hm:rs.length- (i+1)=n:=by omega
  have key:(0≤findD l (rs.getD i default) 0∧permB k (l.getD (findD l (rs.getD i default) 0).toNat default).kind=true)↔∃m∈l,m.id=rs.getD i default∧permB k m.kind=true:=by
   rcases findD_all l (rs.getD i default) _ 0 rfl with⟨a,b⟩| ⟨j,a,b,c,d⟩
   ·rw[a]
    refine⟨fun q=>absurd q.1 (by decide),?_⟩
    rintro⟨m,hm,h1,h2⟩
    obtain⟨x,hx,rfl⟩:=mem_getDX hm
    exact absurd h1 (b x (Nat.zero_le _) hx)
   ·rw[a]
    refine⟨fun q=>⟨l.getD j default,getDX_mem c,d,by simpa using q.2⟩,?_⟩
    rintro⟨m,hm,h1,h2⟩
    obtain⟨x,hx,rfl⟩:=mem_getDX hm
    have:=sort_eq hs hx c (h1.trans d.symm)
    subst this
    exact⟨by omega,by simpa using h2⟩
  rw[refsE,if_pos hi]
  by_cases h1:findD l (rs.getD i default) 0<0
  ·rw[if_pos h1]
   exact⟨fun q=>(by cases q),fun q=>absurd ((key.2 (q i (Nat.le_refl _) hi)).1) (by omega)⟩
  ·rw[if_neg h1]
   by_cases h2:permB k (l.getD (findD l (rs.getD i default) 0).toNat default).kind=false
   ·rw[if_pos h2]
    refine⟨fun q=>(by cases q),fun q=> ?_⟩
    have:=(key.2 (q i (Nat.le_refl _) hi)).2
    rw[h2] at this;cases this
   ·rw[if_neg h2,refsE_all hs n (i+1) hm]
    refine⟨fun q j j1 j2=> ?_,fun q j j1 j2=>q j (by omega) j2⟩
    by_cases e:j=i
    ·subst e;exact key.1 ⟨by omega,by simpa using h2⟩
    ·exact q j (by omega) j2
theorem refs_iff{l:List Node}(hs:SortN l){k:Int}{rs:List Int}:refsE l k rs 0=0↔∀r∈rs,∃m∈l,m.id=r∧permB k m.kind=true:=by
 rw[refsE_all hs _ 0 rfl]
 refine⟨fun h r hr=> ?_,fun h j _ hj=>h _ (getDX_mem hj)⟩
 obtain⟨j,hj,rfl⟩:=mem_getDX hr
 exact h j (Nat.zero_le _) hj
theorem allRefs_iff{l:List Node}:∀(n i:Nat),l.length-i=n→(allRefsE l i=0↔∀j,i≤j→j<l.length→refsE l (l.getD j default).kind (refsN (l.getD j default)) 0=0)
 |0,i,h=>by rw[allRefsE,if_neg (by omega)];exact⟨fun _ j h1 h2=>by omega,fun _=>rfl⟩
 |n+1,i,h=>by
  have hi:i<l.length:=by omega
  rw[allRefsE,if_pos hi]
  by_cases h1:refsE l (l.getD i default).kind (refsN (l.getD i default)) 0≠0
  ·rw[if_pos h1];exact⟨fun q=>absurd q h1,fun q=>absurd (q i (Nat.le_refl _) hi) h1⟩
  ·rw[if_neg h1,allRefs_iff n (i+1) (by omega)]
   refine⟨fun q j j1 j2=> ?_,fun q j j1 j2=>q j (by omega) j2⟩
   by_cases e:j=i
   ·subst e;exact Classical.byContradiction h1
   ·exact q j (by omega) j2
theorem nodes_zero{l:List Node}:∀(n i:Nat),l.length-i=n→(∀j,i≤j→j<l.length→nodeE (l.getD j default)=0∧¬((j=0∧(l.getD 0 default).id≠1)∨(0<j∧(l.getD j default).id≤(l.getD (j- 1) default).id)))→nodesE l i=0
 |0,i,h,_=>by rw[nodesE,if_neg (by omega)]
 |n+1,i,h,q=>by
  obtain⟨a,b⟩:=q i (Nat.le_refl _) (by omega)
  rw[nodesE,if_pos (by omega),if_neg (fun z=>z a),if_neg b]
  exact nodes_zero n (i+1) (by omega) (fun j j1 j2=>q j (by omega) j2)
theorem doc_iff{d:Doc}:docE d=0↔VD d.nodes:=by
 constructor
 ·intro h
  have hn:=doc_nodes h
  have hs:=sort_of hn
  have h0:0<d.nodes.length:=by
   apply Classical.byContradiction;intro q
   rw[docE_short (by omega)] at h;cases h
  refine⟨h0,((nodesE_all _ 0 rfl hn).2 0 (Nat.le_refl _) h0).1 rfl,hs,node_doc h,fun n hn' r hr=> ?_⟩
  have ha:allRefsE d.nodes 0=0:=by
   unfold docE at h
   rw[if_neg (by omega),if_neg (fun q=>q hn)] at h;exact h
  obtain⟨j,hj,rfl⟩:=mem_getDX hn'
  exact(refs_iff hs).1 ((allRefs_iff _ 0 rfl).1 ha j (Nat.zero_le _) hj) r hr
 ·intro h
  have hn:nodesE d.nodes 0=0:=nodes_zero _ 0 rfl (fun j _ hj=>⟨h.node _ (getDX_mem hj),by
   rintro(⟨rfl,q⟩| ⟨q1,q2⟩)
   ·exact q h.one
   ·have:=h.srt (j- 1) j (by omega) hj;omega⟩)
  have ha:allRefsE d.nodes 0=0:=(allRefs_iff _ 0 rfl).2 (fun j _ hj=>(refs_iff h.srt).2 (h.refs _ (getDX_mem hj)))
  unfold docE
  rw[if_neg (by have:=h.ne;omega),if_neg (fun q=>q hn),ha]
theorem getD_set{α:Type}[Inhabited α]{l:List α}{i j:Nat}{x:α}(hi:i<l.length):(l.set i x).getD j default=if i=j then x else l.getD j default:=by
 rw[List.getD_eq_getElem?_getD,List.getElem?_set]
 split
 ·rename_i h;subst h;simp[hi]
 ·rw[List.getD_eq_getElem?_getD]
theorem mem_set_of{α:Type}[Inhabited α]{l:List α}{i:Nat}{x y:α}(hi:i<l.length)(h:y∈l):y∈l.set i x∨y=l.getD i default:=by
 obtain⟨j,hj,rfl⟩:=mem_getDX h
 by_cases e:i=j
 ·subst e;exact .inr rfl
 ·have:(l.set i x).getD j default=l.getD j default:=by rw[getD_set hi,if_neg e]
  rw[←this];exact .inl (getDX_mem (by simpa using hj))
theorem VD.set{l:List Node}(h:VD l){i:Nat}(hi:i<l.length){n:Node}(hid:n.id=(l.getD i default).id)(hk:n.kind=(l.getD i default).kind)(hn:nodeE n=0)(hr:∀r∈refsN n,∃m∈l,m.id=r∧permB n.kind m.kind=true):VD (l.set i n):=by
 have hids:∀j,((l.set i n).getD j default).id=(l.getD j default).id:=fun j=>by
  rw[getD_set hi];split
  ·rename_i e;subst e;exact hid
  ·rfl
 have key:∀(k r:Int),(∃m∈l,m.id=r∧permB k m.kind=true)→∃m∈l.set i n,m.id=r∧permB k m.kind=true:=by
  rintro k r ⟨m,hm,h1,h2⟩
  rcases mem_set_of (x:=n) hi hm with q|rfl
  ·exact⟨m,q,h1,h2⟩
  ·exact⟨n,List.mem_iff_getElem.2 ⟨i,by simpa using hi,by simp⟩,hid.trans h1,by rw[hk];exact h2⟩
 refine⟨by simpa using h.ne,(hids 0).trans h.one,fun p q hpq hq=>by rw[hids,hids];exact h.srt p q hpq (by simpa using hq),fun m hm=> ?_,fun m hm r hr'=> ?_⟩
 ·rcases List.mem_or_eq_of_mem_set hm with q|rfl
  ·exact h.node m q
  ·exact hn
 ·rcases List.mem_or_eq_of_mem_set hm with q|rfl
  ·exact key _ _ (h.refs m q r hr')
  ·exact key _ _ (hr r hr')
theorem VD.add{l:List Node}(h:VD l){n:Node}(hl:∀m∈l,m.id<n.id)(hn:nodeE n=0)(hr:∀r∈refsN n,∃m∈l,m.id=r∧permB n.kind m.kind=true):VD (l++[n]):=by
 have h0:=h.ne
 have hg:∀j,j<l.length→(l++[n]).getD j default=l.getD j default:=fun j hj=>by
  rw[List.getD_eq_getElem?_getD,List.getElem?_append_left hj,List.getD_eq_getElem?_getD]
 have hz:(l++[n]).getD l.length default=n:=by rw[List.getD_eq_getElem?_getD];simp
 refine⟨by simp,(congrArg Node.id (hg 0 h0)).trans h.one,fun p q hpq hq=> ?_,fun m hm=> ?_,fun m hm r hr'=> ?_⟩
 ·rw[List.length_append,List.length_singleton] at hq
  by_cases e:q=l.length
  ·subst e;rw[hz,hg p hpq];exact hl _ (getDX_mem hpq)
  ·rw[hg p (by omega),hg q (by omega)];exact h.srt p q hpq (by omega)
 ·rcases List.mem_append.1 hm with q|q
  ·exact h.node m q
  ·rw[List.mem_singleton] at q;subst q;exact hn
 ·have:∃m'∈l,m'.id=r∧permB m.kind m'.kind=true:=by
   rcases List.mem_append.1 hm with q|q
   ·exact h.refs m q r hr'
   ·rw[List.mem_singleton] at q;subst q;exact hr r hr'
  obtain⟨x,hx,a,b⟩:=this
  exact⟨x,List.mem_append_left _ hx,a,b⟩
theorem VD.has{l:List Node}(h:VD l){k:Int}:hasN l k=true↔∃n∈l,n.id=k:=by
 rw[hasN_iff]
 constructor
 ·rintro⟨a,b⟩;exact⟨_,getDX_mem a,b⟩
 ·rintro⟨n,hn,rfl⟩
  obtain⟨j,hj,rfl⟩:=mem_getDX hn
  obtain⟨s1,s2,s3⟩:=lobN_all l (l.getD j default).id
  have h1:lobN l (l.getD j default).id≤j:=lobN_ge (by omega)
  by_cases e:lobN l (l.getD j default).id=j
  ·rw[e];exact⟨hj,rfl⟩
  ·have:=h.srt _ j (show lobN l (l.getD j default).id<j by omega) hj
   exact absurd this (s3 (by omega))
theorem node_parts{n:Node}(h:nodeE n=0):(1≤n.id∧n.id≤1073741824)∧(0≤n.kind∧n.kind≤12∧(n.id=1↔n.kind=0))∧VG false n.attrs∧
 ((0<n.flow.length→hasT n.kind=true∨hasL n.kind=true)∧(zeroG n.grid=false→hasG n.kind=true)∧(0<n.draw.length→hasD n.kind=true))∧
 ((hasT n.kind=true∨hasL n.kind=true)→flowZ (hasT n.kind) n.flow=0)∧(hasG n.kind=true→gridE n.grid=0∧cellK n.kind n.grid.cells 0=0)∧(hasD n.kind=true→drawE n.draw 0=0):=by
 unfold nodeE at h
 split at h
 ·cases h
 rename_i h1
 split at h
 ·cases h
 rename_i h2
 split at h
 ·rename_i q;exact absurd h q
 rename_i h3
 split at h
 ·cases h
 rename_i h4
 have h3:=chk_iff.1 (Classical.byContradiction h3)
 refine⟨by omega,by omega,h3,⟨fun q=> ?_,fun q=> ?_,fun q=> ?_⟩,?_⟩
 ·apply Classical.byContradiction;intro z
  rw[not_or,Bool.not_eq_true,Bool.not_eq_true] at z
  exact h4 (.inl ⟨q,z.1,z.2⟩)
 ·apply Classical.byContradiction;intro z
  exact h4 (.inr (.inl ⟨q,by simpa using z⟩))
 ·apply Classical.byContradiction;intro z
  exact h4 (.inr (.inr ⟨q,by simpa using z⟩))
 ·have kinds:∀k:Int,(hasT k=true∨hasL k=true→hasG k=false∧hasD k=false)∧(hasG k=true→hasD k=false):=fun k=>by
   unfold hasT hasL hasG hasD
   simp only[Bool.or_eq_true,beq_iff_eq,Bool.or_eq_false_iff,beq_eq_false_iff_ne]
   omega
  obtain⟨k1,k2⟩:=kinds n.kind
  split at h
  ·rename_i q
   obtain⟨z1,z2⟩:=k1 q
   exact⟨fun _=>h,(fun z=>by rw[z1] at z;cases z),(fun z=>by rw[z2] at z;cases z)⟩
  ·rename_i q
   split at h
   ·rename_i g
    have z2:=k2 g
    refine⟨fun z=>absurd z q,fun _=> ?_,(fun z=>by rw[z2] at z;cases z)⟩
    split at h
    ·rename_i z;exact absurd h z
    ·rename_i z;exact⟨Classical.byContradiction z,h⟩
   ·rename_i g
    exact⟨fun z=>absurd z q,fun z=>absurd z g,fun _=>h⟩
theorem node_of{n:Node}(h1:1≤n.id∧n.id≤1073741824)(h2:0≤n.kind∧n.kind≤12∧(n.id=1↔n.kind=0))(h3:VG false n.attrs)
 (h4:(0<n.flow.length→hasT n.kind=true∨hasL n.kind=true)∧(zeroG n.grid=false→hasG n.kind=true)∧(0<n.draw.length→hasD n.kind=true))
 (h5:(hasT n.kind=true∨hasL n.kind=true)→flowZ (hasT n.kind) n.flow=0) (h6:hasG n.kind=true→gridE n.grid=0∧cellK n.kind n.grid.cells 0=0) (h7:drawE n.draw 0=0∨hasT n.kind=true∨hasL n.kind=true∨hasG n.kind=true):nodeE n=0:=by
 unfold nodeE
 rw[if_neg (by omega),if_neg (by omega),if_neg (fun q=>q (chk_iff.2 h3)),if_neg]
 ·split
  ·rename_i q;exact h5 q
  ·rename_i q
   split
   ·rename_i g
    obtain⟨z1,z2⟩:=h6 g
    rw[if_neg (fun z=>z z1),z2]
   ·rename_i g
    rcases h7 with h7|h7|h7|h7
    ·exact h7
    ·exact absurd (.inl h7) q
    ·exact absurd (.inr h7) q
    ·exact absurd h7 g
 ·rintro(⟨a,b,c⟩| ⟨a,b⟩| ⟨a,b⟩)
  ·rcases h4.1 a with q|q
   ·rw[b] at q;cases q
   ·rw[c] at q;cases q
  ·have:=h4.2.1 a;rw[b] at this;cases this
  ·have:=h4.2.2 a;rw[b] at this;cases this
end Go.Ch
end
section
set_option linter.unusedVariables false
set_option linter.unusedSimpArgs false
namespace Go.Ch
open Go Go.Ab
def Asc:List Cell→Prop
 | []=>True
 |c::l=>(∀x∈l,ordC c x<0)∧Asc l
theorem ordC_trans{a b c:Cell}(h1:ordC a b<0)(h2:ordC b c<0):ordC a c<0:=by
 rw[ordC_lt] at*;omega
theorem ordC_le_trans{a b c:Cell}(h1:ordC a b≤0)(h2:ordC b c<0):ordC a c<0:=by
 have:¬0<ordC a b:=by omega
 rw[ordC_lt] at*
 rw[ordC_def] at h1
 repeat' split at h1
 all_goals omega
theorem ordC_flip{a b:Cell}:0<ordC a b↔ordC b a<0:=by
 rw[ordC_lt,ordC_def];repeat' split
 all_goals omega
def SortC(l:List Cell):Prop:=∀p q,p<q→q<l.length→ordC (l.getD p default) (l.getD q default)< 0
theorem asc_sort:∀{l:List Cell},Asc l→SortC l
 | [],_,p,q,h1,h2=>by simp at h2
 |c::l,⟨h,k⟩,p,q,h1,h2=>by
  cases q with
  |zero=>omega
  |succ q=>
   cases p with
   |zero=>exact h _ (getDX_mem (by simpa using h2))
   |succ p=>exact asc_sort k p q (by omega) (by simpa using h2)
theorem cellsE_all{l:List Cell}{m n:Int}{o:Bool}:∀(k i:Nat),l.length-i=k→
 (cellsE l m n o i=0↔∀j,i≤j→j<l.length→cellE (l.getD j default) m n o=0∧(0<j→ordC (l.getD (j- 1) default) (l.getD j default)< 0))
 |0,i,h=>by
  rw[cellsE,if_neg (by omega)]
  exact⟨fun _ j h1 h2=>by omega,fun _=>rfl⟩
 |k+1,i,h=>by
  have ih:=cellsE_all (l:=l) (m:=m) (n:=n) (o:=o) k (i+1) (by omega)
  rw[cellsE,if_pos (by omega)]
  by_cases c1:cellE (l.getD i default) m n o=0
  ·rw[if_neg (fun q=>q c1)]
   by_cases c2:0<i∧0≤ordC (l.getD (i- 1) default) (l.getD i default)
   ·rw[if_pos c2]
    refine⟨fun q=>(by cases q),fun q=> ?_⟩
    have:=(q i (Nat.le_refl _) (by omega)).2 c2.1
    omega
   ·rw[if_neg c2,ih]
    refine⟨fun q j h1 h2=> ?_,fun q j h1 h2=>q j (by omega) h2⟩
    by_cases e:i=j
    ·subst e;exact⟨c1,fun h0=>by omega⟩
    ·exact q j (by omega) h2
  ·rw[if_pos c1]
   exact⟨fun q=>absurd q c1,fun q=>(q i (Nat.le_refl _) (by omega)).1⟩
theorem asc_adj:∀{l:List Cell},(∀j,0<j→j<l.length→ordC (l.getD (j- 1) default) (l.getD j default)< 0)→Asc l
 | [],_=>trivial
 | [c],_=>⟨fun x hx=>(by cases hx),trivial⟩
 |c::d::l,h=>by
  have h1:ordC c d<0:=h 1 (by decide) (by simp)
  have ih:=asc_adj (l:=d::l) (fun j h0 hj=>by
   have:=h (j+1) (by omega) (by simp only[List.length_cons] at hj⊢;omega)
   obtain⟨j,rfl⟩:∃q,j=q+1:=⟨j- 1,by omega⟩
   exact this)
  refine⟨fun x hx=> ?_,ih⟩
  rcases List.mem_cons.1 hx with rfl|hx
  ·exact h1
  ·exact ordC_trans h1 (ih.1 x hx)
theorem cellsE_iff{l:List Cell}{m n:Int}{o:Bool}:cellsE l m n o 0=0↔(∀c∈l,cellE c m n o=0)∧Asc l:=by
 rw[cellsE_all _ 0 rfl]
 constructor
 ·intro h
  refine⟨fun c hc=> ?_,asc_adj (fun j h0 hj=>(h j (Nat.zero_le _) hj).2 h0)⟩
  obtain⟨j,hj,rfl⟩:=mem_getDX hc
  exact(h j (Nat.zero_le _) hj).1
 ·rintro⟨h1,h2⟩ j _ hj
  exact⟨h1 _ (getDX_mem hj),fun h0=>asc_sort h2 (j- 1) j (by omega) hj⟩
theorem cellE_iff{c:Cell}{m n:Int}{o:Bool}:cellE c m n o=0↔(0≤c.row∧c.row<m∧0≤c.col∧c.col<n)∧(0≤c.ref∧c.ref≤1073741824)∧textG c.text=true∧chkA false c.attrs 0=0∧(o=false→emptyC c=false):=by
 unfold cellE
 by_cases c1:c.row<0∨m≤c.row∨c.col<0∨n≤c.col
 ·rw[if_pos c1];exact⟨fun q=>(by cases q),fun q=>by omega⟩
 ·rw[if_neg c1]
  by_cases c2:c.ref<0∨1073741824<c.ref
  ·rw[if_pos c2];exact⟨fun q=>(by cases q),fun q=>by omega⟩
  ·rw[if_neg c2]
   by_cases c3:textG c.text=false
   ·rw[if_pos c3];exact⟨fun q=>(by cases q),fun q=>by rw[q.2.2.1] at c3;cases c3⟩
   ·rw[if_neg c3]
    by_cases c4:chkA false c.attrs 0=0
    ·rw[if_neg (fun q=>q c4)]
     by_cases c5:emptyC c=true∧o=false
     ·rw[if_pos c5];exact⟨fun q=>(by cases q),fun q=>by have:=q.2.2.2.2 c5.2;rw[c5.1] at this;cases this⟩
     ·rw[if_neg c5]
      refine⟨fun _=>⟨by omega,by omega,by simpa using c3,c4,fun ho=> ?_⟩,fun _=>rfl⟩
      cases he:emptyC c with
      |false=>rfl
      |true=>exact absurd ⟨he,ho⟩ c5
    ·rw[if_pos c4];exact⟨fun q=>absurd q c4,fun q=>q.2.2.2.1⟩
theorem put_mem:∀(ns l:List Cell) (y:Cell),y∈putL ns l→(y∈ns∧emptyC y=false)∨y∈l
 | [],l,y,h=> .inr h
 |c::ns,[],y,h=>by
  rw[putL,putC] at h
  rcases List.mem_append.1 h with h|h
  ·cases he:emptyC c with
   |true=>rw[he,if_pos rfl] at h;cases h
   |false=>rw[he,if_neg (by decide)] at h;rw[List.mem_singleton.1 h];exact .inl ⟨by simp,he⟩
  ·rcases put_mem ns [] y h with⟨h1,h2⟩|h
   ·exact .inl ⟨by simp[h1],h2⟩
   ·exact .inr h
 |c::ns,x::l,y,h=>by
  have ih:=put_mem (c::ns) l y
  rw[putL] at ih
  rw[putL,putC] at h
  split at h
  ·rcases List.mem_cons.1 h with rfl|h
   ·exact .inr (by simp)
   ·rcases ih h with h|h
    ·exact .inl h
    ·exact .inr (by simp[h])
  ·have hcase:∀(r:List Cell),(∀z∈r,z∈x::l)→y∈(if emptyC c=true then[] else[c])++putL ns r→(∀z,z∈putL ns r→(z∈ns∧emptyC z=false)∨z∈r)→(y∈c::ns∧emptyC y=false)∨y∈x::l:=fun r hr h hi=>by
    rcases List.mem_append.1 h with h|h
    ·cases he:emptyC c with
     |true=>rw[he,if_pos rfl] at h;cases h
     |false=>rw[he,if_neg (by decide)] at h;rw[List.mem_singleton.1 h];exact .inl ⟨by simp,he⟩
    ·rcases hi y h with⟨h1,h2⟩|h
     ·exact .inl ⟨by simp[h1],h2⟩
     ·exact .inr (hr y h)
   split at h
   ·exact hcase l (fun z hz=>by simp[hz]) h (fun z=>put_mem ns l z)
   ·exact hcase (x::l) (fun z hz=>hz) h (fun z=>put_mem ns (x::l) z)
termination_by ns l=>ns.length+l.length
theorem putC_asc{c:Cell}{ns r:List Cell}(hns:∀y∈ns,ordC c y<0)(hr:∀y∈r,ordC c y<0)(h:Asc (putL ns r)):Asc ((if emptyC c=true then[] else[c])++putL ns r):=by
 cases he:emptyC c with
 |true=>rw[if_pos rfl];exact h
 |false=>
  rw[if_neg (by decide)]
  refine⟨fun y hy=> ?_,h⟩
  rcases put_mem ns r y hy with⟨h1,_⟩|h1
  ·exact hns y h1
  ·exact hr y h1
theorem put_asc:∀(ns l:List Cell),Asc ns→Asc l→Asc (putL ns l)
 | [],l,_,h=>h
 |c::ns,[],h1,h2=>by
  rw[putL,putC]
  exact putC_asc h1.1 (fun y hy=>by cases hy) (put_asc ns [] h1.2 trivial)
 |c::ns,x::l,h1,h2=>by
  rw[putL,putC]
  by_cases o1:ordC x c<0
  ·rw[if_pos o1]
   have ih:=put_asc (c::ns) l h1 h2.2
   rw[putL] at ih
   refine⟨fun y hy=> ?_,ih⟩
   rcases put_mem (c::ns) l y hy with⟨h,_⟩|h
   ·rcases List.mem_cons.1 h with rfl|h
    ·exact o1
    ·exact ordC_trans o1 (h1.1 y h)
   ·exact h2.1 y h
  ·rw[if_neg o1]
   by_cases o2:ordC x c=0
   ·rw[if_pos o2]
    have e:=ordC_eq.1 o2
    exact putC_asc h1.1 (fun y hy=>ordC_le_trans (by rw[ordC_eq.2 ⟨e.1.symm,e.2.symm⟩];decide) (h2.1 y hy)) (put_asc ns l h1.2 h2.2)
   ·rw[if_neg o2]
    have hcx:ordC c x<0:=ordC_flip.1 (by omega)
    exact putC_asc h1.1 (fun y hy=>by
     rcases List.mem_cons.1 hy with rfl|hy
     ·exact hcx
     ·exact ordC_trans hcx (h2.1 y hy)) (put_asc ns (x::l) h1.2 h2)
termination_by ns l=>ns.length+l.length
theorem place_mono{l:List AxStep}(hl:Form l){p q:Int}(h0:0≤p)(h:p<q)(hp:0≤placeS l p 0 0)(hq:0≤placeS l q 0 0):placeS l p 0 0<placeS l q 0 0:=by
 have h1:=place_gap hl p q 0 0 h0 h hp
 have h2:=gap_mono hl q 0 0 0 (Int.le_refl _)
 have h3:=gap_place hl q 0 0 (by omega) hq
 omega
theorem mvR_mono{a:List AxStep}{p q:Int}(hp:PIn a p)(hq:PIn a q)(h:p<q)(h1:¬(0<a.length∧mvR a p<0))(h2:¬(0<a.length∧mvR a q<0)):mvR a p<mvR a q:=by
 unfold mvR at*
 by_cases c:0<a.length
 ·simp only[if_pos c] at*
  obtain⟨v,p0,_⟩:=hp c
  exact place_mono v.1 p0 h (by omega) (by omega)
 ·simp only[if_neg c] at*;exact h
theorem mvC_some{rows cols:List AxStep}{c d:Cell}(h:mvC rows cols c=some d):¬(0<rows.length∧mvR rows c.row<0)∧¬(0<cols.length∧mvR cols c.col<0)∧d={c with row:=mvR rows c.row,col:=mvR cols c.col}:=by
 unfold mvC at h
 split at h
 ·cases h
 ·rename_i h1
  split at h
  ·cases h
  ·rename_i h2
   exact⟨h1,h2,by cases h;rfl⟩
theorem mov_asc{rows cols:List AxStep}:∀{l:List Cell},Asc l→(∀c∈l,PIn rows c.row)→(∀c∈l,PIn cols c.col)→Asc (movL l rows cols)
 | [],_,_,_=>trivial
 |c::l,h,hr,hc=>by
  have ih:=mov_asc (l:=l) h.2 (fun x hx=>hr x (by simp[hx])) (fun x hx=>hc x (by simp[hx]))
  unfold movL at*
  rw[List.filterMap_cons]
  cases hm:mvC rows cols c with
  |none=>exact ih
  |some d=>
   refine⟨fun y hy=> ?_,ih⟩
   obtain⟨x,hx,hxy⟩:=List.mem_filterMap.1 hy
   obtain⟨a1,a2,rfl⟩:=mvC_some hm
   obtain⟨b1,b2,rfl⟩:=mvC_some hxy
   have ho:=h.1 x hx
   rw[ordC_lt] at ho⊢
   rcases ho with ho| ⟨e,ho⟩
   ·exact .inl (mvR_mono (hr c (by simp)) (hr x (by simp[hx])) ho a1 b1)
   ·refine .inr ⟨by show mvR rows c.row=mvR rows x.row;rw[e],mvR_mono (hc c (by simp)) (hc x (by simp[hx])) ho a2 b2⟩
theorem place_lt:∀{l:List AxStep} (hl:Form l) (p fr tq:Int),fr≤p→0≤placeS l p fr tq→placeS l p fr tq<tq+newU (ex l)
 | [],_,p,fr,tq,h,h0=>by simp[placeS] at h0
 |s::l,hl,p,fr,tq,h,h0=>by
  have hn:=hl.head.2.2
  have hk:=kinds hl.head
  have e:(newU (ex (s::l)):Int)=(if s.kind=2 then 0 else s.n)+newU (ex l):=by
   rw[ex,new_rep,Int.toNat_of_nonneg (by omega)]
  rw[e]
  rw[placeS] at h0⊢
  by_cases k1:s.kind=1
  ·rw[if_pos k1] at h0⊢
   rw[if_neg (show¬s.kind=2 by omega)]
   have:=place_lt hl.tail p fr (tq+s.n) h h0
   omega
  ·rw[if_neg k1] at h0⊢
   by_cases k0:s.kind=0
   ·rw[if_pos k0] at h0⊢
    rw[if_neg (show¬s.kind=2 by omega)]
    by_cases c:p<fr+s.n
    ·rw[if_pos c] at h0⊢
     have:(0:Int)≤newU (ex l):=by omega
     omega
    ·rw[if_neg c] at h0⊢
     have:=place_lt hl.tail p (fr+s.n) (tq+s.n) (by omega) h0
     omega
   ·rw[if_neg k0] at h0⊢
    by_cases c:p<fr+s.n
    ·rw[if_pos c] at h0;omega
    ·rw[if_neg c] at h0⊢
     rw[if_pos (show s.kind=2 by omega)]
     have:=place_lt hl.tail p (fr+s.n) tq (by omega) h0
     omega
theorem mvR_in{a:List AxStep}{p m:Int}(hp:PIn a p)(h0:0≤p∧p<m)(hn:¬(0<a.length∧mvR a p<0)):0≤mvR a p∧mvR a p<nwS m a:=by
 unfold mvR at hn⊢
 unfold nwS newI
 by_cases c:0<a.length
 ·rw[if_pos c] at hn⊢
  rw[if_pos c]
  obtain⟨v,p0,_⟩:=hp c
  have h1:0≤placeS a p 0 0:=by
   refine Classical.byContradiction fun q=>hn ⟨c,by omega⟩
  have:=place_lt v.1 p 0 0 p0 h1
  omega
 ·rw[if_neg c,if_neg c];exact h0
theorem mov_cell{rows cols:List AxStep}{c d:Cell}{m n:Int}(hr:PIn rows c.row)(hc:PIn cols c.col)(h:cellE c m n false=0)(hd:mvC rows cols c=some d):cellE d (nwS m rows) (nwS n cols) false=0:=by
 obtain⟨a1,a2,rfl⟩:=mvC_some hd
 obtain⟨h1,h2,h3,h4,h5⟩:=cellE_iff.1 h
 have b1:=mvR_in (m:=m) hr ⟨h1.1,h1.2.1⟩ a1
 have b2:=mvR_in (m:=n) hc ⟨h1.2.2.1,h1.2.2.2⟩ a2
 exact cellE_iff.2 ⟨⟨b1.1,b1.2,b2.1,b2.2⟩,h2,h3,h4,h5⟩
theorem gridE_iff0{g:Grid}(hm:g.merges=[]):gridE g=0↔(0≤g.rows∧g.rows≤2147483647∧0≤g.cols∧g.cols≤2147483647)∧cellsE g.cells g.rows g.cols false 0=0:=by
 have h0:mergE g.merges g.rows g.cols 0=0:=by rw[hm,mergE,if_neg (by decide)]
 unfold gridE
 by_cases c1:g.rows<0∨2147483647<g.rows∨g.cols<0∨2147483647<g.cols
 ·rw[if_pos c1];exact⟨fun q=>(by cases q),fun q=>by omega⟩
 ·rw[if_neg c1]
  by_cases c2:cellsE g.cells g.rows g.cols false 0=0
  ·rw[if_neg (fun q=>q c2),h0];exact⟨fun _=>⟨by omega,c2⟩,fun _=>rfl⟩
  ·rw[if_pos c2];exact⟨fun q=>absurd q c2,fun q=>q.2⟩
theorem fits_parts{x:Grid}{e:GEd}(h:fitsE x e=0):gridE x=0∧EdOk e∧FitOk x e:=by
 unfold fitsE at h
 split at h
 ·rename_i q;exact absurd h q
 rename_i q
 split at h
 ·rename_i q;exact absurd h q
 rename_i q2
 exact⟨Classical.byContradiction q,edE_ok (Classical.byContradiction q2),fitE_ok h⟩
theorem rawT_mem{x:Grid}{e:GEd}{c:Cell}(h:c∈(rawT x e).cells):(c∈e.cells∧emptyC c=false)∨∃c0∈x.cells,mvC e.rows e.cols c0=some c:=by
 rcases put_mem _ _ c h with h|h
 ·exact .inl h
 ·obtain⟨c0,hc0,hm⟩:=List.mem_filterMap.1 h
  exact .inr ⟨c0,hc0,hm⟩
theorem rawT_valid{x:Grid}{e:GEd}(hm:x.merges=[])(h:fitsE x e=0)(hr:RawT x e):gridE (rawT x e)=0:=by
 obtain⟨hg,he,hf⟩:=fits_parts h
 obtain⟨g1,g2⟩:=(gridE_iff0 hm).1 hg
 have b1:=nwS_bd (n:=x.rows) he.okr (by omega)
 have b2:=nwS_bd (n:=x.cols) he.okc (by omega)
 obtain⟨a1,a2⟩:=cellsE_iff.1 g2
 obtain⟨c1,c2⟩:=cellsE_iff.1 he.cells
 refine(gridE_iff0 rfl).2 ⟨⟨b1.1,b1.2,b2.1,b2.2⟩,cellsE_iff.2 ⟨fun c hc=> ?_,put_asc _ _ c2 (mov_asc a2 hr.p1 hr.p2)⟩⟩
 rcases rawT_mem hc with⟨h,he'⟩| ⟨c0,hc0,hmv⟩
 ·obtain⟨q1,q2,q3,q4,_⟩:=cellE_iff.1 (c1 c h)
  have:=hf.cells c h
  exact cellE_iff.2 ⟨⟨q1.1,this.1,q1.2.2.1,this.2⟩,q2,q3,q4,fun _=>he'⟩
 ·exact mov_cell (hr.p1 c0 hc0) (hr.p2 c0 hc0) (a1 c0 hc0) hmv
theorem cellK_iff{k:Int}{l:List Cell}(hk:k≠6)(h:∀c∈l,c.attrs=[]∧c.text.size=0):∀(n i:Nat),l.length-i=n→cellK k l i=0
 |0,i,hn=>by rw[cellK,if_neg (by omega)]
 |n+1,i,hn=>by
  have hc:=h _ (getDX_mem (l:=l) (i:=i) (by omega))
  rw[cellK,if_pos (by omega),if_neg]
  ·exact cellK_iff hk h n (i+1) (by omega)
  ·rintro(⟨_,q|q⟩| ⟨q,_⟩)
   ·rw[seq_mt,decide_eq_false_iff_not] at q;omega
   ·rw[hc.1] at q;exact absurd q (by decide)
   ·exact hk q
end Go.Ch
end
section
set_option linter.unusedVariables false
set_option linter.unusedSimpArgs false
namespace Go.Ch
open Go Go.Ab
variable {U:List ByteArray}
theorem flowX_iff{t:Bool}{f:List Elem}:∀(n i:Nat),f.length-i=n→(flowX t f i=0↔∀j,i≤j→j<f.length→elemE (f.getD j default)=0∧(t=false→(f.getD j default).ref≠0))
 |0,i,h=>by rw[flowX,if_neg (by omega)];exact⟨fun _ j h1 h2=>by omega,fun _=>rfl⟩
 |n+1,i,h=>by
  have hi:i<f.length:=by omega
  have hm:f.length- (i+1)=n:=by omega
  by_cases h1:elemE (f.getD i default)≠0
  ·rw[flowX_bad hi h1];exact⟨fun q=>absurd q h1,fun q=>absurd (q i (Nat.le_refl _) hi).1 h1⟩
  ·have h1':elemE (f.getD i default)=0:=Classical.byContradiction h1
   by_cases h2:t=false∧(f.getD i default).ref=0
   ·rw[flowX_kind hi h1' h2];exact⟨fun q=>(by cases q),fun q=>absurd h2.2 ((q i (Nat.le_refl _) hi).2 h2.1)⟩
   ·have h2':t=true∨(f.getD i default).ref≠0:=by
     cases t with
     |true=>exact .inl rfl
     |false=>exact .inr (fun q=>h2 ⟨rfl,q⟩)
    rw[flowX_next hi h1' h2',flowX_iff n (i+1) hm]
    refine⟨fun q j j1 j2=> ?_,fun q j j1 j2=>q j (by omega) j2⟩
    by_cases e:j=i
    ·subst e;exact⟨h1',fun z z2=>h2 ⟨z,z2⟩⟩
    ·exact q j (by omega) j2
theorem flowZ_iff{t:Bool}{f:List Elem}:flowZ t f=0↔(∀x∈f,elemE x=0∧(t=false→x.ref≠0))∧(t=true→0<f.length∧(f.getD (f.length- 1) default).char=10):=by
 have hx:flowX t f 0=0↔∀x∈f,elemE x=0∧(t=false→x.ref≠0):=by
  rw[flowX_iff _ 0 rfl]
  refine⟨fun h x hx=> ?_,fun h j _ hj=>h _ (getDX_mem hj)⟩
  obtain⟨j,hj,rfl⟩:=mem_getDX hx
  exact h j (Nat.zero_le _) hj
 by_cases h1:flowX t f 0=0
 ·rw[flowZ_end h1]
  constructor
  ·intro h
   refine⟨hx.1 h1,fun ht=> ?_⟩
   split at h
   ·cases h
   ·rename_i q
    constructor
    ·apply Classical.byContradiction;intro z;exact q ⟨ht,.inl (by omega)⟩
    ·apply Classical.byContradiction;intro z;exact q ⟨ht,.inr z⟩
  ·rintro⟨_,h⟩
   rw[if_neg]
   rintro⟨a,b⟩
   have:=h a
   rcases b with b|b
   ·omega
   ·exact b this.2
 ·rw[flowZ_bad rfl h1]
  exact⟨fun h=>absurd h h1,fun h=>absurd (hx.2 h.1) h1⟩
theorem applyU_mem:∀(us:List DU) (f:List Elem) (x:Elem),x∈applyU us f→DU.A x∈us∨∃y∈f,x.char=y.char∧x.ref=y.ref
 | [],f,x,h=>by cases h
 | .A e::us,f,x,h=>by
  rw[applyU] at h
  rcases List.mem_cons.1 h with rfl|h
  ·exact .inl (by simp)
  ·exact(applyU_mem us f x h).imp (fun q=>by simp[q]) id
 | .K c::us,y::f,x,h=>by
  rw[applyU] at h
  rcases List.mem_cons.1 h with rfl|h
  ·exact .inr ⟨y,by simp,rfl,rfl⟩
  ·exact(applyU_mem us f x h).imp (fun q=>by simp[q]) (fun⟨z,hz,q⟩=>⟨z,by simp[hz],q⟩)
 | .C::us,y::f,x,h=>by
  rw[applyU] at h
  exact(applyU_mem us f x h).imp (fun q=>by simp[q]) (fun⟨z,hz,q⟩=>⟨z,by simp[hz],q⟩)
 | .K c::us,[],x,h=>by rw[applyU] at h;exact(applyU_mem us [] x h).imp (fun q=>by simp[q]) id
 | .C::us,[],x,h=>by rw[applyU] at h;exact(applyU_mem us [] x h).imp (fun q=>by simp[q]) id
theorem exD_A{e:Elem}:∀{s:List DStep},DU.A e∈exD s→∃t∈s,e∈t.elems
 | [],h=>by cases h
 |t::s,h=>by
  rw[exD] at h
  rcases List.mem_append.1 h with h|h
  ·refine⟨t,by simp,?_⟩
   unfold exS at h
   split at h
   ·simpa using h
   ·split at h
    ·have:=List.eq_of_mem_replicate h;cases this
    ·have:=List.eq_of_mem_replicate h;cases this
  ·obtain⟨a,b,c⟩:=exD_A h
   exact⟨a,by simp[b],c⟩
theorem applyU_split':∀(u v:List DU) (l r:List Elem),oldN u=l.length→applyU (u++v) (l++r)=applyU u l++applyU v r
 | [],v,l,r,h=>by
  have:l=[]:=List.eq_nil_of_length_eq_zero (by simpa[oldN] using h.symm)
  subst this;rfl
 | .A e::u,v,l,r,h=>by rw[List.cons_append,applyU,applyU,applyU_split' u v l r (by simpa[oldN] using h)];rfl
 | .K c::u,v,[],r,h=>by simp[oldN] at h
 | .C::u,v,[],r,h=>by simp[oldN] at h
 | .K c::u,v,x::l,r,h=>by rw[List.cons_append,List.cons_append,applyU,applyU,applyU_split' u v l r (by simpa[oldN] using h)];rfl
 | .C::u,v,x::l,r,h=>by rw[List.cons_append,List.cons_append,applyU,applyU,applyU_split' u v l r (by simpa[oldN] using h)]
theorem last_get{α:Type}[Inhabited α]{a b:List α}(h:0<b.length):(a++b).getD ((a++b).length- 1) default=b.getD (b.length- 1) default:=by
 rw[List.length_append,List.getD_eq_getElem?_getD,List.getElem?_append_right (by omega),List.getD_eq_getElem?_getD,show a.length+b.length- 1-a.length=b.length- 1 by omega]
theorem raw_last{f:List Elem}{s:List DStep}(hv:DValid s)(hl:oldD s=(f.length:Int))(he:endsD s=true):0< (rawD f s).length∧((rawD f s).getD ((rawD f s).length- 1) default).char=(f.getD (f.length- 1) default).char:=by
 unfold endsD at he
 rw[Bool.and_eq_true,decide_eq_true_eq,beq_iff_eq] at he
 obtain⟨h0,hk⟩:=he
 have hne:s≠[]:=fun e=>by rw[e] at h0;exact absurd h0 (by decide)
 obtain⟨t,ht⟩:∃t,s=s.dropLast++[t]:=⟨s.getLast hne,(List.dropLast_concat_getLast hne).symm⟩
 generalize s.dropLast=i at ht
 subst ht
 have hg:(i++[t]).getD ((i++[t]).length- 1) default=t:=by rw[last_get (by simp)];rfl
 rw[hg] at hk
 have ho:=hv.1.all t (by simp)
 have hn:1≤t.n∧t.elems=[]:=by
  rcases ho with⟨k,_⟩| ⟨_,e,_,n,_⟩
  ·omega
  ·exact⟨n,e⟩
 have hL:=lens_V hv
 have ex:exD (i++[t])=exD i++List.replicate t.n.toNat (.K t.attrs):=by
  rw[exD_app];congr 1
  simp only[exD,List.append_nil]
  unfold exS
  rw[if_neg (by omega),if_neg (by omega)]
 have ho2:oldN (exD i)+t.n.toNat=f.length:=by
  have:=hL.1
  rw[ex,oldN_app,(lens_Ks _ _).1] at this
  omega
 have hs:applyU (exD (i++[t])) f=applyU (exD i) (f.take (oldN (exD i)))++(f.drop (oldN (exD i))).map (chgE t.attrs):=by
  conv=>lhs;rw[←List.take_append_drop (oldN (exD i)) f]
  rw[ex,applyU_split' _ _ _ _ (by rw[List.length_take];omega)]
  congr 1
  have:=applyU_Ks t.n.toNat t.attrs [] (f.drop (oldN (exD i)))
  rw[List.append_nil] at this
  rw[this,List.take_of_length_le (by rw[List.length_drop];omega)]
  simp[applyU]
 have hdl:(f.drop (oldN (exD i))).length=t.n.toNat:=by rw[List.length_drop];omega
 unfold rawD
 rw[hs]
 refine⟨by rw[List.length_append,List.length_map,hdl];omega,?_⟩
 rw[last_get (by rw[List.length_map,hdl];omega),List.length_map,hdl]
 have e1:((f.drop (oldN (exD i))).map (chgE t.attrs)).getD (t.n.toNat- 1) default=chgE t.attrs (f.getD (f.length- 1) default):=by
  rw[List.getD_eq_getElem?_getD,List.getElem?_map,List.getElem?_drop,show oldN (exD i)+(t.n.toNat- 1)=f.length- 1 by omega,List.getElem?_eq_getElem (show f.length- 1<f.length by omega),List.getD_eq_getElem?_getD,List.getElem?_eq_getElem (show f.length- 1<f.length by omega)]
  rfl
 rw[e1];rfl
theorem flows_parts{l:List Node}{n:Node}{s:List DStep}(h:flowsE l n s=0):(hasT n.kind=true∨hasL n.kind=true)∧oldD s=(n.flow.length:Int)∧(hasT n.kind=true→endsD s=true)∧∀t∈s,∀x∈t.elems,newE l n.kind x=0:=by
 unfold flowsE at h
 split at h
 ·cases h
 rename_i h1
 split at h
 ·cases h
 rename_i h2
 split at h
 ·cases h
 rename_i h3
 refine⟨?_,Classical.byContradiction h2,fun ht=> ?_,fun t ht x hx=>firstE_zero (firstE_zero h t ht) x hx⟩
 ·apply Classical.byContradiction;intro q
  rw[not_or,Bool.not_eq_true,Bool.not_eq_true] at q
  exact h1 q
 ·apply Classical.byContradiction;intro q
  exact h3 ⟨ht,by simpa using q⟩
theorem newE_parts{l:List Node}(hs:SortN l){k:Int}{x:Elem}(h:newE l k x=0):(hasT k=false→x.ref≠0)∧(x.ref≠0→∃m∈l,m.id=x.ref∧permB k m.kind=true):=by
 unfold newE at h
 split at h
 ·cases h
 rename_i h1
 refine⟨fun q z=>h1 ⟨z,q⟩,fun q=>(refs_iff hs).1 h x.ref ?_⟩
 unfold refsF;simp[q]
theorem getDO'{l:List DOp}{i:Nat}(h:i<l.length):l.getD i default=l[i]:=by simp[List.getD,List.getElem?_eq_getElem h]
theorem draw_all{l:List DOp}:∀(d i:Nat),l.length-i=d→(drawE l i=0↔(∀j,i≤j→j<l.length→opE (l.getD j default)=0)∧∀j,i≤j→0<j→j<l.length→ltO (l.getD (j- 1) default) (l.getD j default))
 |0,i,h=>by rw[drawE,if_neg (by omega)];exact⟨fun _=>⟨fun j _ _=>by omega,fun j _ _ _=>by omega⟩,fun _=>rfl⟩
 |d+1,i,h=>by
  have hm:l.length- (i+1)=d:=by omega
  rw[drawE,if_pos (by omega)]
  by_cases h1:opE (l.getD i default)=0
  ·rw[if_neg (fun hh=>hh h1)]
   by_cases h2:0<i∧¬ltO (l.getD (i- 1) default) (l.getD i default)
   ·rw[if_pos h2]
    exact⟨fun h=>(by cases h),fun h=>absurd (h.2 i (Nat.le_refl _) h2.1 (by omega)) h2.2⟩
   ·rw[if_neg h2,draw_all d (i+1) hm]
    refine⟨fun⟨a,b⟩=>⟨fun j hj hl=> ?_,fun j hj h0 hl=> ?_⟩,fun⟨a,b⟩=>⟨fun j hj hl=>a j (by omega) hl,fun j hj h0 hl=>b j (by omega) h0 hl⟩⟩
    ·by_cases e:j=i
     ·rw[e];exact h1
     ·exact a j (by omega) hl
    ·by_cases e:j=i
     ·subst e;exact Classical.byContradiction (fun hh=>h2 ⟨h0,hh⟩)
     ·exact b j (by omega) h0 hl
  ·rw[if_pos h1]
   exact⟨fun h=>absurd h h1,fun h=>h.1 i (Nat.le_refl _) (by omega)⟩
theorem draw_ok{l:List DOp}:drawE l 0=0↔(∀o∈l,opE o=0)∧l.Pairwise ltO:=by
 rw[draw_all _ 0 rfl]
 constructor
 ·rintro⟨a,b⟩
  refine⟨fun o ho=> ?_,List.pairwise_iff_getElem.2 fun i j hi hj hij=> ?_⟩
  ·obtain⟨j,hj,rfl⟩:=mem_getDX ho;exact a j (Nat.zero_le _) hj
  ·obtain⟨d,rfl⟩:∃d,j=i+1+d:=⟨j-i- 1,by omega⟩
   clear hij
   induction d with
   |zero=>have:=b (i+1) (Nat.zero_le _) (by omega) hj;rwa [show i+1- 1=i by omega,getDO' hi,getDO' hj] at this
   |succ d ih=>
    have h1:=ih (by omega)
    have h2:=b (i+1+(d+1)) (Nat.zero_le _) (by omega) hj
    rw[show i+1+(d+1)- 1=i+1+d by omega,getDO' (by omega),getDO' hj] at h2
    exact ltO_trans h1 h2
 ·rintro⟨a,b⟩
  refine⟨fun j _ hj=>a _ (getDX_mem hj),fun j _ h0 hj=> ?_⟩
  rw[getDO' (by omega),getDO' hj]
  exact List.pairwise_iff_getElem.1 b (j- 1) j _ _ (by omega)
theorem union_ok(x y:List DOp):∀z,unionO x y=some z→x.Pairwise ltO→y.Pairwise ltO→(∀o∈z,o∈x∨o∈y)∧z.Pairwise ltO∧z.length≤x.length+y.length:=by
 induction x,y using unionO.induct with
 |case1=>intro z h hx hy;rw[unionO] at h;cases h;exact⟨(fun o ho=>by cases ho),List.Pairwise.nil,Nat.le_refl _⟩
 |case2 a l ih=>
  intro z h hx hy
  rw[unionO,Option.map_eq_some_iff] at h
  obtain⟨w,hw,rfl⟩:=h
  obtain⟨h1,h2,h3⟩:=ih w hw (List.pairwise_cons.1 hx).2 hy
  refine⟨fun o ho=> ?_,List.pairwise_cons.2 ⟨fun b hb=>(List.pairwise_cons.1 hx).1 b ((h1 b hb).resolve_right (fun q=>by cases q)),h2⟩,by simp at h3⊢;omega⟩
  rcases List.mem_cons.1 ho with rfl|ho
  ·exact .inl (by simp)
  ·exact(h1 o ho).imp (fun q=>by simp[q]) id
 |case3 b r ih=>
  intro z h hx hy
  rw[unionO,Option.map_eq_some_iff] at h
  obtain⟨w,hw,rfl⟩:=h
  obtain⟨h1,h2,h3⟩:=ih w hw hx (List.pairwise_cons.1 hy).2
  refine⟨fun o ho=> ?_,List.pairwise_cons.2 ⟨fun c hc=>(List.pairwise_cons.1 hy).1 c ((h1 c hc).resolve_left (fun q=>by cases q)),h2⟩,by simp at h3⊢;omega⟩
  rcases List.mem_cons.1 ho with rfl|ho
  ·exact .inr (by simp)
  ·exact(h1 o ho).imp id (fun q=>by simp[q])
 |case4 a l b r hab ih=>
  intro z h hx hy
  rw[unionO,if_pos hab,Option.map_eq_some_iff] at h
  obtain⟨w,hw,rfl⟩:=h
  obtain⟨h1,h2,h3⟩:=ih w hw (List.pairwise_cons.1 hx).2 hy
  refine⟨fun o ho=> ?_,List.pairwise_cons.2 ⟨fun c hc=> ?_,h2⟩,by simp at h3⊢;omega⟩
  ·rcases List.mem_cons.1 ho with rfl|ho
   ·exact .inl (by simp)
   ·exact(h1 o ho).imp (fun q=>by simp[q]) id
  ·rcases h1 c hc with q|q
   ·exact(List.pairwise_cons.1 hx).1 c q
   ·rcases List.mem_cons.1 q with rfl|q
    ·exact hab
    ·exact ltO_trans hab ((List.pairwise_cons.1 hy).1 c q)
 |case5 a l b r hab hba ih=>
  intro z h hx hy
  rw[unionO,if_neg hab,if_pos hba,Option.map_eq_some_iff] at h
  obtain⟨w,hw,rfl⟩:=h
  obtain⟨h1,h2,h3⟩:=ih w hw hx (List.pairwise_cons.1 hy).2
  refine⟨fun o ho=> ?_,List.pairwise_cons.2 ⟨fun c hc=> ?_,h2⟩,by simp at h3⊢;omega⟩
  ·rcases List.mem_cons.1 ho with rfl|ho
   ·exact .inr (by simp)
   ·exact(h1 o ho).imp id (fun q=>by simp[q])
  ·rcases h1 c hc with q|q
   ·rcases List.mem_cons.1 q with rfl|q
    ·exact hba
    ·exact ltO_trans hba ((List.pairwise_cons.1 hx).1 c q)
   ·exact(List.pairwise_cons.1 hy).1 c q
 |case6 l b r hab hba ih=>
  intro z h hx hy
  rw[unionO,if_neg hab,if_neg hba,if_pos rfl,Option.map_eq_some_iff] at h
  obtain⟨w,hw,rfl⟩:=h
  obtain⟨h1,h2,h3⟩:=ih w hw (List.pairwise_cons.1 hx).2 (List.pairwise_cons.1 hy).2
  refine⟨fun o ho=> ?_,List.pairwise_cons.2 ⟨fun c hc=> ?_,h2⟩,by simp at h3⊢;omega⟩
  ·rcases List.mem_cons.1 ho with rfl|ho
   ·exact .inl (by simp)
   ·exact(h1 o ho).imp (fun q=>by simp[q]) (fun q=>by simp[q])
  ·rcases h1 c hc with q|q
   ·exact(List.pairwise_cons.1 hx).1 c q
   ·exact(List.pairwise_cons.1 hy).1 c q
 |case7 a l b r hab hba hne=>intro z h;rw[unionO,if_neg hab,if_neg hba,if_neg hne] at h;cases h
end Go.Ch
end
section
set_option linter.unusedVariables false
set_option linter.unusedSimpArgs false
namespace Go.Ch
open Go Go.Ab
variable {U:List ByteArray}
structure GP(U:List ByteArray)(m:Nat)(l:List Node):Prop where
 vd:VD l
 nd:∀n∈l,NG U n∧NZ m n
theorem NZ.mono{m k:Nat}{n:Node}(h:NZ m n)(hm:m≤k):NZ k n:=⟨Nat.le_trans h.fl hm,Nat.le_trans h.ce hm,Nat.le_trans h.dr hm⟩
theorem GP.mono{m k:Nat}{l:List Node}(h:GP U m l)(hm:m≤k):GP U k l:=⟨h.vd,fun n hn=>⟨(h.nd n hn).1,(h.nd n hn).2.mono hm⟩⟩
theorem GP.set{l:List Node}{m k:Nat}(h:GP U m l)(hm:m≤k){i:Nat}(hi:i<l.length){n:Node}(hid:n.id=(l.getD i default).id)(hk:n.kind=(l.getD i default).kind)(hn:nodeE n=0)(hr:∀r∈refsN n,∃m∈l,m.id=r∧permB n.kind m.kind=true)(hg:NG U n)(hz:NZ k n):GP U k (l.set i n):=by
 refine⟨h.vd.set hi hid hk hn hr,fun x hx=> ?_⟩
 rcases List.mem_or_eq_of_mem_set hx with q|rfl
 ·exact⟨(h.nd x q).1,(h.nd x q).2.mono hm⟩
 ·exact⟨hg,hz⟩
theorem one_node{l:List Node}{o:EOp}(hk:o.kind≠0)(h0:oneE l o=0):hasN l o.node=true∧lobN l o.node<l.length∧oneL l o=l.set (lobN l o.node) (oneN (l.getD (lobN l o.node) default) o):=by
 have hh:hasN l o.node=true:=by
  apply Classical.byContradiction;intro q
  have:=(one_1 hk (by simpa using q)).2
  omega
 exact⟨hh,(hasN_iff.1 hh).1,one_s hk h0⟩
theorem one_ids{l:List Node}{o:EOp}(hk:o.kind≠0)(h0:oneE l o=0):(oneL l o).length=l.length∧∀x∈oneL l o,∃n∈l,x.id=n.id:=by
 obtain⟨h1,h2,h3⟩:=one_node hk h0
 rw[h3]
 refine⟨List.length_set ..,fun x hx=> ?_⟩
 rcases List.mem_or_eq_of_mem_set hx with q|rfl
 ·exact⟨x,q,rfl⟩
 ·refine⟨_,getDX_mem h2,?_⟩
  unfold oneN;repeat' split
  all_goals rfl
theorem no_draw{n:Node}(h:nodeE n=0):drawE n.draw 0=0:=by
 obtain⟨p1,p2,p3,p4,p5,p6,p7⟩:=node_parts h
 by_cases q:hasD n.kind=true
 ·exact p7 q
 ·have:¬0<n.draw.length:=fun z=>q (p4.2.2 z)
  rw[drawE,if_neg this]
theorem keepA{l:List Node}{m:Nat}(h:GP U m l){k:Int}{c:List Attr}(hc:VU U true c)(h0:oneE l (opA k c)=0):GP U m (oneL l (opA k c)):=by
 obtain⟨h1,h2,h3⟩:=one_node (o:=opA k c) (show(1:Int)≠0 by decide) h0
 have h3:oneL l (opA k c)=l.set (lobN l k) {(l.getD (lobN l k) default) with attrs:=fm rawG (l.getD (lobN l k) default).attrs c}:=h3
 rw[h3]
 have h2:lobN l k<l.length:=h2
 have hm:=getDX_mem h2
 obtain⟨g,z⟩:=h.nd _ hm
 have hv:=raw_V nu_mt g.at1 hc
 have hn:=h.vd.node _ hm
 have hdr:=no_draw hn
 obtain⟨p1,p2,p3,p4,p5,p6,p7⟩:=node_parts hn
 exact h.set (Nat.le_refl _) h2 rfl rfl (node_of p1 p2 (VU.g hv) p4 p5 p6 (.inl hdr)) (fun r hr=>h.vd.refs _ hm r hr) ⟨hv,g.fl,g.mg,g.ce,g.dr,g.kd⟩ ⟨z.fl,z.ce,z.dr⟩
theorem refsF_mem{f:List Elem}{r:Int}:r∈refsF f↔∃x∈f,x.ref=r∧r≠0:=by
 unfold refsF
 rw[List.mem_filterMap]
 constructor
 ·rintro⟨x,hx,h⟩
  split at h
  ·rename_i q;cases h;exact⟨x,hx,rfl,q⟩
  ·cases h
 ·rintro⟨x,hx,rfl,h⟩
  exact⟨x,hx,by rw[if_pos h]⟩
theorem refsC_mem{f:List Cell}{r:Int}:r∈refsC f↔∃x∈f,x.ref=r∧r≠0:=by
 unfold refsC
 rw[List.mem_filterMap]
 constructor
 ·rintro⟨x,hx,h⟩
  split at h
  ·rename_i q;cases h;exact⟨x,hx,rfl,q⟩
  ·cases h
 ·rintro⟨x,hx,rfl,h⟩
  exact⟨x,hx,by rw[if_pos h]⟩
theorem keepF{l:List Node}{m q:Nat}(h:GP U m l){k:Int}{s:List DStep}{us:List DU}(hd:DU_ U s us)(hq:newD s≤oldD s+q)(h0:oneE l (opF k s)=0):GP U (m+q) (oneL l (opF k s)):=by
 obtain⟨h1,h2,h3⟩:=one_node (o:=opF k s) (show(2:Int)≠0 by decide) h0
 have h3:oneL l (opF k s)=l.set (lobN l k) {(l.getD (lobN l k) default) with flow:=rawD (l.getD (lobN l k) default).flow s}:=h3
 rw[h3]
 have h2:lobN l k<l.length:=h2
 have hm:=getDX_mem h2
 have hf:flowsE l (l.getD (lobN l k) default) s=0:=(one_3 (o:=opF k s) h1 rfl).2.symm.trans h0
 obtain⟨g,z⟩:=h.nd _ hm
 have hn:=h.vd.node _ hm
 have hdr:=no_draw hn
 obtain⟨p1,p2,p3,p4,p5,p6,p7⟩:=node_parts hn
 obtain⟨f1,f2,f3,f4⟩:=flows_parts hf
 have hlen:=lens_V hd.v
 have hall:∀x∈rawD (l.getD (lobN l k) default).flow s,RU U x:=applyU_all _ _ hd.ex g.fl
 have hl:(rawD (l.getD (lobN l k) default).flow s).length=newN (exD s):=applyU_len _ _ (by omega)
 have hsrc:∀x∈rawD (l.getD (lobN l k) default).flow s,newE l (l.getD (lobN l k) default).kind x=0∨∃y∈(l.getD (lobN l k) default).flow,x.char=y.char∧x.ref=y.ref:=fun x hx=>by
  rcases applyU_mem _ _ x hx with q|q
  ·obtain⟨t,ht,hx'⟩:=exD_A q
   exact .inl (f4 t ht x hx')
  ·exact .inr q
 have hz:=flowZ_iff.1 (p5 f1)
 refine h.set (Nat.le_add_right _ _) h2 rfl rfl (node_of p1 p2 p3 ⟨fun _=>f1,p4.2.1,p4.2.2⟩ (fun _=>flowZ_iff.2 ⟨fun x hx=>⟨(hall x hx).1,fun ht=> ?_⟩,fun ht=> ?_⟩) p6 (.inl hdr)) (fun r hr=> ?_) ⟨g.at1,hall,g.mg,g.ce,g.dr,g.kd⟩ ⟨?_,Nat.le_trans z.ce (Nat.le_add_right _ _),Nat.le_trans z.dr (Nat.le_add_right _ _)⟩
 ·rcases hsrc x hx with q| ⟨y,hy,_,e⟩
  ·exact(newE_parts h.vd.srt q).1 ht
  ·rw[e];exact(hz.1 y hy).2 ht
 ·have a:=hz.2 ht
  have b:=raw_last hd.v f2 (f3 ht)
  exact⟨b.1,b.2.trans a.2⟩
 ·rcases List.mem_append.1 hr with hr|hr
  ·obtain⟨x,hx,rfl,hx0⟩:=refsF_mem.1 hr
   rcases hsrc x hx with q| ⟨y,hy,_,e⟩
   ·exact(newE_parts h.vd.srt q).2 hx0
   ·exact h.vd.refs _ hm x.ref (List.mem_append_left _ (refsF_mem.2 ⟨y,hy,e.symm,hx0⟩))
  ·exact h.vd.refs _ hm r (List.mem_append_right _ hr)
 ·have:=z.fl
  show(rawD (l.getD (lobN l k) default).flow s).length≤m+q
  omega
theorem grids_parts{l:List Node}{n:Node}{g:GEd}(h:gridsE l n g=0):hasG n.kind=true∧cellK n.kind g.cells 0=0∧fitsE n.grid g=0∧∀c∈g.cells,newC l n.kind c=0:=by
 unfold gridsE at h
 split at h
 ·cases h
 rename_i h1
 split at h
 ·rename_i q;exact absurd h q
 rename_i h2
 split at h
 ·rename_i q;exact absurd h q
 rename_i h3
 exact⟨by simpa using h1,Classical.byContradiction h2,Classical.byContradiction h3,firstE_zero h⟩
theorem putC_le(c:Cell){k:List Cell→List Cell}{q:Nat}(hk:∀l,(k l).length≤l.length+q):∀(l:List Cell),(putC c k l).length≤l.length+(q+1)
 | []=>by
  have:=hk []
  unfold putC;split<;>simp at this⊢ <;>omega
 |x::l=>by
  have h1:=putC_le c hk l
  have h2:=hk l
  have h3:=hk (x::l)
  unfold putC
  repeat' split
  all_goals simp only[List.length_cons,List.length_append,List.length_nil] at* <;>omega
theorem put_le:∀(a b:List Cell),(putL a b).length≤b.length+a.length
 | [],b=>by simp[putL]
 |c::a,b=>putC_le c (fun l=>put_le a l) b
theorem put_len(a b:List Cell):(putL a b).length≤a.length+b.length:=by have:=put_le a b;omega
theorem keepG{l:List Node}{m:Nat}(h:GP U m l){k:Int}{g:GEd}(hl:LiteE g)(hc:∀c∈g.cells,c.attrs=[]∧c.text.size=0)(hm1:m≤100000)(h0:oneE l (opG k g)=0):GP U (m+g.cells.length) (oneL l (opG k g)):=by
 obtain⟨h1,h2,h3⟩:=one_node (o:=opG k g) (show(3:Int)≠0 by decide) h0
 have h3:oneL l (opG k g)=l.set (lobN l k) {(l.getD (lobN l k) default) with grid:=rawT (l.getD (lobN l k) default).grid g}:=h3
 rw[h3]
 have h2:lobN l k<l.length:=h2
 have hm:=getDX_mem h2
 have hf:gridsE l (l.getD (lobN l k) default) g=0:=(one_4 (o:=opG k g) h1 rfl).2.symm.trans h0
 obtain⟨gd,z⟩:=h.nd _ hm
 have hn:=h.vd.node _ hm
 have hdr:=no_draw hn
 obtain⟨p1,p2,p3,p4,p5,p6,p7⟩:=node_parts hn
 obtain⟨f1,f2,f3,f4⟩:=grids_parts hf
 have zc:=z.ce
 have hr:RawT (l.getD (lobN l k) default).grid g:=RawT.of f3 gd.mg hl (by omega) hl.ln (fun c hc'=>by rw[(gd.ce c hc').1];decide) (fun c hc'=>by rw[(hc c hc').1];decide)
 have hcell:∀c∈(rawT (l.getD (lobN l k) default).grid g).cells,(c.attrs=[]∧c.text.size=0)∧(c.ref≠0→∃x∈l,x.id=c.ref∧permB (l.getD (lobN l k) default).kind x.kind=true):=fun c hc'=>by
  rcases rawT_mem hc' with⟨q,_⟩| ⟨c0,q,hmv⟩
  ·refine⟨hc c q,fun hc0=> ?_⟩
   have:=f4 c q
   rw[newC_r hc0] at this
   exact(refs_iff h.vd.srt).1 this c.ref (by simp)
  ·obtain⟨_,_,rfl⟩:=mvC_some hmv
   exact⟨gd.ce c0 q,fun hc0=>h.vd.refs _ hm c0.ref (List.mem_append_right _ (refsC_mem.2 ⟨c0,q,rfl,hc0⟩))⟩
 refine h.set (Nat.le_add_right _ _) h2 rfl rfl (node_of p1 p2 p3 ⟨p4.1,fun _=>f1,p4.2.2⟩ p5 (fun _=>⟨rawT_valid gd.mg f3 hr,cellK_iff gd.kd (fun c hc'=>(hcell c hc').1) _ 0 rfl⟩) (.inl hdr)) (fun r hr'=> ?_) ⟨gd.at1,gd.fl,rfl,fun c hc'=>(hcell c hc').1,gd.dr,gd.kd⟩ ⟨Nat.le_trans z.fl (Nat.le_add_right _ _),?_,Nat.le_trans z.dr (Nat.le_add_right _ _)⟩
 ·rcases List.mem_append.1 hr' with q|q
  ·exact h.vd.refs _ hm r (List.mem_append_left _ q)
  ·obtain⟨c,hc',rfl,hc0⟩:=refsC_mem.1 q
   exact(hcell c hc').2 hc0
 ·have a:=put_len g.cells (movL (l.getD (lobN l k) default).grid.cells g.rows g.cols)
  have b:=movL_len (l.getD (lobN l k) default).grid.cells g.rows g.cols
  show(putL g.cells (movL (l.getD (lobN l k) default).grid.cells g.rows g.cols)).length≤_
  omega
theorem keepDr{l:List Node}{m:Nat}(h:GP U m l){k:Int}{c:List DOp}(hs:∀o∈c,o.plc.size≤100∧o.nm.size≤100∧o.vl.size≤100)(hc:drawE c 0=0)(h0:oneE l (opD k c)=0):GP U (m+c.length) (oneL l (opD k c)):=by
 obtain⟨h1,h2,h3⟩:=one_node (o:=opD k c) (show(4:Int)≠0 by decide) h0
 have h3:oneL l (opD k c)=l.set (lobN l k) {(l.getD (lobN l k) default) with draw:=(unionO (l.getD (lobN l k) default).draw c).getD []}:=h3
 rw[h3]
 have h2:lobN l k<l.length:=h2
 have hm:=getDX_mem h2
 have hd:drawsE (l.getD (lobN l k) default) c=0:=(one_d (o:=opD k c) h1 rfl).symm.trans h0
 unfold drawsE at hd
 split at hd
 ·cases hd
 rename_i hd1
 split at hd
 rotate_left
 ·cases hd
 rename_i hd2
 obtain⟨w,hw⟩:=Option.isSome_iff_exists.1 hd2
 obtain⟨g,z⟩:=h.nd _ hm
 have hn:=h.vd.node _ hm
 have hdr:=no_draw hn
 obtain⟨p1,p2,p3,p4,p5,p6,p7⟩:=node_parts hn
 have a:=draw_ok.1 (no_draw hn)
 have b:=draw_ok.1 hc
 obtain⟨u1,u2,u3⟩:=union_ok _ _ w hw a.2 b.2
 rw[hw]
 have hz:=z.dr
 refine h.set (Nat.le_add_right _ _) h2 rfl rfl (node_of p1 p2 p3 ⟨p4.1,p4.2.1,fun _=>by simpa using hd1⟩ p5 p6 (.inl (draw_ok.2 ⟨fun o ho=> ?_,u2⟩))) (fun r hr=>h.vd.refs _ hm r hr) ⟨g.at1,g.fl,g.mg,g.ce,fun o ho=> ?_,g.kd⟩ ⟨Nat.le_trans z.fl (Nat.le_add_right _ _),Nat.le_trans z.ce (Nat.le_add_right _ _),(by show w.length≤_;omega)⟩
 ·exact(u1 o ho).elim (a.1 o) (b.1 o)
 ·exact(u1 o ho).elim (g.dr o) (hs o)
theorem keepN{l:List Node}{m:Nat}(h:GP U m l){n:Node}(hg:NG U n)(hz:NZ m n)(hv:nodeE n=0)(hl:∀x∈l,x.id<n.id)(h0:oneE l (opN n)=0):oneL l (opN n)=l++[n]∧GP U m (l++[n]):=by
 have ha:adnE l n=0:=(one_0 (o:=opN n) rfl).2.symm.trans h0
 have hn:hasN l n.id=false:=by
  cases q:hasN l n.id with
  |false=>rfl
  |true=>rw[(ins_1 (l:=l) (n:=n) q).2] at ha;cases ha
 have hr:refsE l n.kind (refsN n) 0=0:=(ins_f hn).symm.trans ha
 have hlo:lobN l n.id=l.length:=by
  obtain⟨s1,s2,s3⟩:=lobN_all l n.id
  apply Classical.byContradiction;intro q
  exact s3 (by omega) (hl _ (getDX_mem (by omega)))
 refine⟨(one_0 (o:=opN n) rfl).1.trans (ins_3 hn hr hlo).1,h.vd.add hl hv ((refs_iff h.vd.srt).1 hr),fun x hx=> ?_⟩
 rcases List.mem_append.1 hx with q|q
 ·exact h.nd x q
 ·rw[List.mem_singleton] at q;subst q;exact⟨hg,hz⟩
end Go.Ch
end
section
set_option linter.unusedVariables false
set_option linter.unusedSimpArgs false
namespace Go.Ch
open Go Go.Ab
variable {U:List ByteArray}
structure PP(U:List ByteArray)(s:Int)(k:Nat)(l:List Node):Prop where
 gp:GP U (10+4*k) l
 len:l.length≤3+k
 id:∀n∈l,n.id< (s+1)*65536∧(n.id<4+k∨65536≤n.id)
theorem PP.mono{s:Int}{k k':Nat}{l:List Node}(h:PP U s k l)(hk:k≤k'):PP U s k' l:=
 ⟨h.gp.mono (by omega),by have:=h.len;omega,fun n hn=>by have:=h.id n hn;omega⟩
theorem PP.docL(hU:UB U){s:Int}{k:Nat}{d:Doc}(h:PP U s k d.nodes)(hk:k≤60):DocL d:=docL_of hU (m:=10+4*k) (q:=63) (by omega) (by omega) (by have:=h.len;omega) h.gp.nd
theorem PP.doc{s:Int}{k:Nat}{d:Doc}(h:PP U s k d.nodes):docE d=0:=doc_iff.2 h.gp.vd
theorem lob_last{l:List Node}{n:Node}(hl:∀x∈l,x.id<n.id):lobN l n.id=l.length:=by
 obtain⟨s1,s2,s3⟩:=lobN_all l n.id
 apply Classical.byContradiction;intro q
 exact s3 (by omega) (hl _ (getDX_mem (by omega)))
theorem oneB_of(hU:UB U){s:Int}{k:Nat}{l:List Node}{o:EOp}(h:PP U s k l)(hk:k≤60)(hok:eopE o=0)(hop:OpL o)(hl:o.kind=0→∀x∈l,x.id<o.nw.id):OneB l o:=
 ⟨by have:=h.len;omega,h.gp.vd.srt,hok,hop,fun n hn=>⟨(h.gp.nd n hn).1.b hU (h.gp.nd n hn).2 (by omega),(h.gp.nd n hn).1.lite,(h.gp.nd n hn).1.kd⟩,fun q _=>lob_last (hl q)⟩
theorem nodeB_0:NodeB ⟨0,0,[],[],⟨0,0,[],[]⟩,[]⟩:=
 ⟨(fun a h=>by cases h),by decide,(fun x h=>by cases h),by decide,(fun x h=>by cases h),(fun c h=>by cases h),by decide,(fun c h=>by cases h),by decide,by decide,(fun o h=>by cases h)⟩
theorem lite_0:LiteE ⟨[],[],[],[],[]⟩:=⟨rfl,rfl,(fun c h=>by cases h),by decide⟩
theorem eopL_0{k n:Int}{w:Node}{a:List Attr}{s:List DStep}{c:List DOp}:EopL ⟨k,n,w,a,s,⟨[],[],[],[],[]⟩,c⟩:=⟨Nat.zero_le _,Nat.zero_le _,Nat.zero_le _,Nat.zero_le _,Nat.zero_le _⟩
theorem opL_F(hU:UB U){k:Int}{s:List DStep}{us:List DU}(hd:DU_ U s us):OpL (opF k s):=
 ⟨eopL_0,nodeB_0,⟨rfl,(fun c h=>by cases h)⟩,Nat.zero_le _,(hd.dn hU.len).mono (by omega),lite_0,(fun c h=>by cases h),Nat.zero_le _⟩
theorem opL_A{k:Int}{c:List Attr}(hc:c.length≤1048576):OpL (opA k c):=
 ⟨eopL_0,nodeB_0,⟨rfl,(fun c h=>by cases h)⟩,hc,(fun s h=>by cases h),lite_0,(fun c h=>by cases h),Nat.zero_le _⟩
theorem opL_D{k:Int}{c:List DOp}(hc:c.length≤1048576):OpL (opD k c):=
 ⟨eopL_0,nodeB_0,⟨rfl,(fun c h=>by cases h)⟩,Nat.zero_le _,(fun s h=>by cases h),lite_0,(fun c h=>by cases h),hc⟩
theorem opL_N(hU:UB U){n:Node}{m:Nat}(hg:NG U n)(hz:NZ m n)(hm:m≤1048576):OpL (opN n):=
 ⟨eopL_0,hg.b hU hz hm,hg.lite,Nat.zero_le _,(fun s h=>by cases h),lite_0,(fun c h=>by cases h),Nat.zero_le _⟩
theorem opL_G{k:Int}{g:GEd}(hl:LiteE g)(h1:g.rows.length≤1048576)(h2:g.cols.length≤1048576)(hc:∀c∈g.cells,c.attrs=[]∧c.text.size=0):OpL (opG k g):=
 ⟨⟨h1,h2,hl.ln,by have:=hl.sp;show g.split.length≤_;omega,by have:=hl.me;show g.merge.length≤_;omega⟩,nodeB_0,⟨rfl,(fun c h=>by cases h)⟩,Nat.zero_le _,(fun s h=>by cases h),hl,(fun c h=>by rw[(hc c h).1];decide),Nat.zero_le _⟩
def RunG(P:List Node→Prop):List Node→List EOp→Prop
 |l,[]=>P l
 |l,o::c=>P l∧OneB l o∧(oneE l o=0→RunG P (oneL l o) c)
theorem RunG.b{P:List Node→Prop}:∀{l:List Node} {c:List EOp},RunG P l c→RunB l c
 |_,[],_=>trivial
 |_,_::_,h=>⟨h.2.1,fun q=>(h.2.2 q).b⟩
theorem RunG.fin{P:List Node→Prop}:∀{l:List Node} {c:List EOp},RunG P l c→runE l c=0→P (runL l c)
 |_,[],h,_=>h
 |l,o::c,h,h0=>by
  rw[runE] at h0
  split at h0
  ·rename_i q;exact absurd h0 q
  ·rename_i q;exact(h.2.2 (Classical.byContradiction q)).fin h0
theorem RunG.imp{P Q:List Node→Prop}(hpq:∀l,P l→Q l):∀{l:List Node} {c:List EOp},RunG P l c→RunG Q l c
 |_,[],h=>hpq _ h
 |_,_::_,h=>⟨hpq _ h.1,h.2.1,fun q=>(h.2.2 q).imp hpq⟩
theorem RunG.app{P:List Node→Prop}:∀{l:List Node} {a b:List EOp},RunG P l a→(runE l a=0→RunG P (runL l a) b)→RunG P l (a++b)
 |_,[],_,_,h2=>h2 rfl
 |l,o::a,b,h,h2=>⟨h.1,h.2.1,fun q=>(h.2.2 q).app (fun q2=>h2 (by rw[runE,if_neg (fun z=>z q)];exact q2))⟩
theorem RunG.take{P:List Node→Prop}:∀{l:List Node} {c:List EOp} (n:Nat),RunG P l c→RunG P l (c.take n)
 |_,[],n,h=>by rw[List.take_nil];exact h
 |_,_::_,0,h=>h.1
 |_,_::_,n+1,h=>⟨h.1,h.2.1,fun q=>(h.2.2 q).take n⟩
theorem runE_take{c:List EOp}:∀{l:List Node} (n:Nat),runE l c=0→runE l (c.take n)=0:=by
 induction c with
 |nil=>intro l n _;rw[List.take_nil];rfl
 |cons o c ih=>
  intro l n h
  cases n with
  |zero=>rfl
  |succ n=>
   rw[runE] at h
   rw[List.take_succ_cons,runE]
   split at h
   ·rename_i q;exact absurd h q
   ·rename_i q;rw[if_neg q];exact ih n h
theorem run1(hU:UB U){s:Int}{k:Nat}{l:List Node}{o:EOp}(h:PP U s k l)(hk:k≤57)(ho:OneB l o)(hn:oneE l o=0→PP U s (k+3) (oneL l o)):RunG (PP U s (k+3)) l [o]:=⟨h.mono (by omega),ho,hn⟩
theorem nxt_spec(l:List Node)(s:Int):∀m,(nxtF l s m=s*65536∨∃n∈l,n.id/65536=s∧n.id=nxtF l s m)∧(SortN l→m≤l.length→∀i,i<m→(l.getD i default).id/65536=s→(l.getD i default).id≤nxtF l s m)
 |0=>⟨.inl (by simp[nxtF]),fun _ _ i hi=>by omega⟩
 |m+1=>by
  obtain⟨a,b⟩:=nxt_spec l s m
  by_cases hm:m<l.length
  ·rw[nxtF_succ hm]
   split
   ·rename_i q
    refine⟨.inr ⟨_,getDX_mem hm,q,rfl⟩,fun hs hl i hi hq=> ?_⟩
    by_cases e:i=m
    ·subst e;exact Int.le_refl _
    ·have:=hs i m (by omega) hm;omega
   ·rename_i q
    refine⟨a,fun hs hl i hi hq=> ?_⟩
    by_cases e:i=m
    ·subst e;exact absurd hq q
    ·exact b hs (by omega) i (by omega) hq
  ·have e:nxtF l s (m+1)=nxtF l s m:=by unfold nxtF;rw[List.take_of_length_le (by omega),List.take_of_length_le (by omega)]
   rw[e]
   exact⟨a,fun hs hl=>by omega⟩
theorem next_id{s:Int}{k:Nat}{d:Doc}(hs:0≤s∧s≤1000)(h:PP U s k d.nodes)(h0:nextE d s=0):(∀x∈d.nodes,x.id<nextN d s)∧1≤nextN d s∧nextN d s< (s+1)*65536∧(nextN d s<4+(k+1:Nat)∨65536≤nextN d s):=by
 have hd:=h.doc
 have hb:nxtF d.nodes s d.nodes.length%65536≠65535:=by
  intro q
  rw[(next_3 hd hs q).2] at h0;cases h0
 have e:nextN d s=nxtF d.nodes s d.nodes.length+1:=(next_4 hd hs hb).1
 obtain⟨a,b⟩:=nxt_spec d.nodes s d.nodes.length
 have hids:=ids_doc hd
 generalize nxtF d.nodes s d.nodes.length=z at a b hb e
 rw[e]
 have hz:s*65536≤z∧z< (s+1)*65536- 1∧(z<4+k∨65536≤z):=by
  rcases a with a| ⟨n,hn,q1,q2⟩
  ·have:s=0∨1≤s:=by omega
   omega
  ·have:=h.id n hn;omega
 refine⟨fun x hx=> ?_,by omega,by omega,by omega⟩
 obtain⟨j,hj,rfl⟩:=mem_getDX hx
 have h1:=h.id _ hx
 have h2:=hids _ hx
 by_cases q:(d.nodes.getD j default).id/65536=s
 ·have:=b h.gp.vd.srt (Nat.le_refl _) j hj q;omega
 ·omega
end Go.Ch
end
