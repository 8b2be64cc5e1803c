/- Parts of the proof: ChStyle3, ChStyle4, OutText, OutNum, OutDoc, OutPar, OutList, OutHead, OutLabs, OutLaw, AbBulk, Frame, TryzShelf2. -/
import Derived.Test.YtfhidobmbgmjfaaGreatDoorM1
import Derived.Test.YtfhidobmbgmjfaaGreatDoorM2
import Derived.Test.YtfhidobmbgmjfaaGreatDoorM3
import Derived.Test.YtfhidobmbgmjfaaGreatDoorM4
import Derived.Test.YtfhidobmbgmjfaaGreatDoorRows
import Derived.JoinedOf
import Derived.ProofKit
import Derived.Shelf.Unicode.DecodeAny
import Derived.Test.YtfhidobmbgmjfaaGreatDoorProg
section
set_option linter.unusedVariables false
set_option linter.unusedSimpArgs false
set_option maxRecDepth 100000
set_option maxHeartbeats 4000000
open Go Go.Proofs Go.Ab
namespace Go.Ch
theorem fc_bwd0(l:List Node):FC Tryz.prog 132 [VL 9 nodeT l] (app emp []) (.fn 163 [.ptr 0 0]) (app emp [(0,.box [VL 9 nodeT l])]):=by
 refine .go Tryz.f132 ?_
 refine .len 0 (fun hl0=> ?_)
 exact .fin [.r [],.r []] [(0,0)]
theorem fc_bwd(Y:YSpec)(hY:YCalls Tryz.prog Y)(l:List V9)(hl:l.length≤1048576)(hg:∀p,Y.goes p=true)(ha:∀k,k<l.length→Y.adm (((dnL l.length).take k).map (bwE l)) (bwE l ((dnL l.length).getD k default))):FC Tryz.prog 163 [.yl 0,.ptr 1 0] (app emp [(0,.ext Y []),(1,.box [VL 9 v9T l])]) (.tup []) (app emp [(0,.ext Y (((dnL l.length).take l.length).map (bwE l))),(1,.box [VL 9 v9T l])]):=by
 refine .go Tryz.f163 ?_
 refine .loop (α:=Nat×List (List Tree)) [.r [(1,X (Xl v9T l)),(2,X (Xn ((l.length:Int)- 1)))]] 34 (fun(m,p)=>([(0,.yl 0),(1,.ptr 1 0),(3,VI ((m:Int)- 1))],[(0,.ext Y p),(1,.box [VL 9 v9T l])])) (fun(m,p)=>m≤l.length∧p=(((dnL l.length).take (l.length-m)).map (bwE l))) (fun(m,p)=>m) (l.length,[]) ?_ ?_
 ·
  exact⟨Nat.le_refl _,by rw[Nat.sub_self];rfl⟩
 rintro⟨m,p⟩ I1 ih1
 try dsimp only at I1
 refine .bp [.r []] (decide (((m:Int)- 1)≥0)) (fun h1=> ?_) (fun h1=> ?_)
 ·
  have hadm:Y.adm p (bwE l (m- 1)):=by
   have:=ha (l.length-m) (by omega)
   rw[dn_at (by omega),show l.length- 1- (l.length-m)=m- 1 by omega] at this
   rw[I1.2];exact this
  refine .bp [.le (.eq 3 (VI ((m:Int)- 1)) (VI ((m- 1:Nat):Int)) (.of_eq (by rw[show((m:Int)- 1)=((m- 1:Nat):Int) by omega]))),.r [(4,X (Xi v9T l ((m- 1:Nat):Int))),(6,X (Xy Tryz.prog Y p (bwE l (m- 1))) (⟨hY,hadm⟩))]] (!(Y.goes (p++[(bwE l (m- 1))]))) (fun h3=> ?_) (fun h3=> ?_)
  ·
   exfalso
   rw[hg] at h3;cases h3
  ·
   refine .back [.r [(1,X (Xn (((m- 1:Nat):Int)- 1)))]] [(0,0),(1,1)] (ih1 ((m- 1),(p++[(bwE l (m- 1))])) ?_ ?_)
   ·
    refine⟨by omega,?_⟩
    rw[I1.2,dn_take (n:=l.length) (m:=m- 1) (by omega),show l.length- 1- (m- 1)=l.length-m by omega,List.map_append];rfl
   ·
    ((try dsimp only);omega)
 ·
  have e1:((((dnL l.length).take l.length).map (bwE l)):List (List Tree))=p:=by
   rw[I1.2,show l.length-m=l.length by omega]
  exact .finE [] [(0,0),(1,1)] (fun z0:List (List Tree)=>(.tup [],[(0,.ext Y z0),(1,.box [VL 9 v9T l])])) _ _ e1
theorem fc_given(b:Book)(nm u:ByteArray)(hl:b.nodes.length≤1048576)(hat:attN b.nodes≤1048576):FC Tryz.prog 96 [.t (bookT b),VS nm,VS u] (app emp []) (VL 2 attrT (givS b.nodes nm u)) (app emp []):=by
 refine .go Tryz.f96 ?_
 have hcl:=chnS_len b.nodes nm u
 have hca:=chnS_att b.nodes nm u
 refine .mid [.r [],.r [],.r [(3,X (Xc1 48 (fc_chain b nm u (by assumption)) X0))],.r [(1,X (Xc1 72 (fc_bwd0 (chnS (b).nodes nm u)) X0))]] ?_
 refine .weak (Le.boxW (b:=16) (i:=0) (cs:=[VN]) (v:=VN) (v':= .t (.lst 2 [])) (by kernel_rfl) rfl (Weak.nilL (by decide))) ?_
 refine .shal nodeT (chnS (b).nodes nm u) 72 0 [VL 9 nodeT (chnS (b).nodes nm u)] (fun _=>⟨_,rfl⟩) (fun l' Y hYd=> ?_)
 have hl2:l'.length=(chnS b.nodes nm u).length:=hYd.len
 refine .rng [] (bwE l') default (dnL l'.length) (fun k=>[(16,.box [VL 2 attrT (givK (chnS b.nodes nm u) k)]),(80,.ext Y [])]) [(72,.box [VL 9 v9T (l')])] (fun _=>none) (l'.length) 999 81 [(7,.ptr 16 0),(19,.fn 163 [.ptr 72 0])] [7] (fun k=>([(7,.ptr 16 0),(10,.ptr 81 0)],[(16,.box [VL 2 attrT (givK (chnS b.nodes nm u) k)]),(80,.ext Y []),(81,.box [VI ((((chnS (b).nodes nm u).getD ((dnL l'.length).getD k default) default)).id),VI ((((chnS (b).nodes nm u).getD ((dnL l'.length).getD k default) default)).kind),VL 2 attrT ((((chnS (b).nodes nm u).getD ((dnL l'.length).getD k default) default)).attrs),VL 3 elemT ((((chnS (b).nodes nm u).getD ((dnL l'.length).getD k default) default)).flow),VI (((((chnS (b).nodes nm u).getD ((dnL l'.length).getD k default) default)).grid).rows),VI (((((chnS (b).nodes nm u).getD ((dnL l'.length).getD k default) default)).grid).cols),VL 5 cellT (((((chnS (b).nodes nm u).getD ((dnL l'.length).getD k default) default)).grid).cells),VL 4 rectT (((((chnS (b).nodes nm u).getD ((dnL l'.length).getD k default) default)).grid).merges),VL 8 dopT ((((chnS (b).nodes nm u).getD ((dnL l'.length).getD k default) default)).draw)])])) 97 ((⟨fun Y h1 h2 hY=>(fc_bwd Y hY l' (by omega) (fun p=>by rw[h1];rfl) (fun k hk=>h2 k (by rw[dn_len];exact hk) rfl)).ren [(0,999),(1,72)] [(0,999),(1,72)] (by kernel_rfl) (by kernel_rfl) (by kernel_rfl) (by kernel_rfl) (by kernel_rfl) (by kernel_rfl),by rw[dn_len];exact Nat.le_refl _⟩:Iter Tryz.prog 163 [.ptr 72 0] [(72,.box [VL 9 v9T l'])] 999 (bwE l') default (dnL l'.length) (fun _=>none) l'.length (.tup []))) (fun k hk hj=>⟨by kernel_rfl,?_,?_⟩) .normal ?_ (fun _=>by kernel_rfl)
 ·
  refine .weak (deep_le hYd (i:=((dnL l'.length).getD k default)) (by have:=dn_len l'.length;have q:=dn_at (n:=l'.length) (k:=k) (by omega);omega) 21 80 (pre:=[]) (by kernel_rfl) (by kernel_rfl)) ?_
  exact .rass [.r []] [(16,16),(80,80),(81,81)]
 ·
  have hkn:k<l'.length:=by rw[dn_len] at hk;exact hk
  have hdn:=dn_at hkn
  have hgk:=givK_le (chnS b.nodes nm u) k (by omega)
  have hga:=attN_mem (getDX_mem (l:=(chnS b.nodes nm u)) (i:=(dnL l'.length).getD k default) (by omega))
  refine .loop (α:=Nat×(List Attr)) [.r [],.r [(2,X (Xl attrT ((((chnS (b).nodes nm u).getD ((dnL l'.length).getD k default) default)).attrs)))],.le (.nR 11 2)] 138 (fun(i,c)=>([(7,.ptr 16 0),(11,.row 137 c.length),(23,VL 2 attrT ((((chnS (b).nodes nm u).getD ((dnL l'.length).getD k default) default)).attrs)),(24,VI (((((chnS (b).nodes nm u).getD ((dnL l'.length).getD k default) default)).attrs).length:Int)),(25,VI (i:Int))],[(16,.box [VL 2 attrT (givK (chnS b.nodes nm u) k)]),(80,.ext Y []),(137,OR 2 attrT c)])) (fun(i,c)=>i≤((chnS b.nodes nm u).getD ((dnL l'.length).getD k default) default).attrs.length∧c=pcutL (((chnS b.nodes nm u).getD ((dnL l'.length).getD k default) default).attrs.take i)) (fun(i,c)=>((chnS b.nodes nm u).getD ((dnL l'.length).getD k default) default).attrs.length-i) (0,[]) ?_ ?_
  ·
   exact⟨by omega,rfl⟩
  rintro⟨i,c⟩ I7 ih7
  try dsimp only at I7
  have ol:c.length≤i:=by rw[I7.2];exact Nat.le_trans (pcutL_len _) (by rw[List.length_take];omega)
  refine .bp [.r []] (decide ((i:Int)< (((((chnS (b).nodes nm u).getD ((dnL l'.length).getD k default) default)).attrs).length:Int))) (fun h7=> ?_) (fun h7=> ?_)
  ·
   refine .bp [.r [(0,X (Xi attrT ((((chnS (b).nodes nm u).getD ((dnL l'.length).getD k default) default)).attrs) (i:Int)))],.r [(6,Xv 1 (decide (((((((((chnS (b).nodes nm u).getD ((dnL l'.length).getD k default) default)).attrs).getD i default)).name).size:Int)> 2)) X0),(7,Xv 1 (decide (((((((((chnS (b).nodes nm u).getD ((dnL l'.length).getD k default) default)).attrs).getD i default)).name).size:Int)> 2)) (Xa (Xc ((0:Int)≤0)) (Xa (Xc ((0:Int)≤2)) (Xc ((2:Int)≤((((((((chnS (b).nodes nm u).getD ((dnL l'.length).getD k default) default)).attrs).getD i default)).name).size:Int))))) (fun hg=>by(try simp only[decide_eq_true_eq,decide_eq_false_iff_not,Int.not_lt,Int.not_le,gt_iff_lt] at hg);exact(by refine⟨by decide,?_,?_⟩<;>omega))),(8,Xv 1 (decide (((((((((chnS (b).nodes nm u).getD ((dnL l'.length).getD k default) default)).attrs).getD i default)).name).size:Int)> 2)) X0),(9,X (Xk (decide (((((((((chnS (b).nodes nm u).getD ((dnL l'.length).getD k default) default)).attrs).getD i default)).name).size:Int)> 2)))),(12,Xv 1 (decide (((((((((chnS (b).nodes nm u).getD ((dnL l'.length).getD k default) default)).attrs).getD i default)).name).size:Int)> 2)&&seq ((((((((chnS (b).nodes nm u).getD ((dnL l'.length).getD k default) default)).attrs).getD i default)).name).extract ((0:Int)).toNat ((2:Int)).toNat) ({data:=#[112,46]})) X0),(13,Xv 1 (decide (((((((((chnS (b).nodes nm u).getD ((dnL l'.length).getD k default) default)).attrs).getD i default)).name).size:Int)> 2)&&seq ((((((((chnS (b).nodes nm u).getD ((dnL l'.length).getD k default) default)).attrs).getD i default)).name).extract ((0:Int)).toNat ((2:Int)).toNat) ({data:=#[112,46]})) (Xa (Xc ((0:Int)≤2)) (Xa (Xc ((2:Int)≤((((((((chnS (b).nodes nm u).getD ((dnL l'.length).getD k default) default)).attrs).getD i default)).name).size:Int))) (Xc ((((((((((chnS (b).nodes nm u).getD ((dnL l'.length).getD k default) default)).attrs).getD i default)).name).size:Int):Int)≤((((((((chnS (b).nodes nm u).getD ((dnL l'.length).getD k default) default)).attrs).getD i default)).name).size:Int))))) (fun hg=>by(try simp only[decide_eq_true_eq,decide_eq_false_iff_not,Int.not_lt,Int.not_le,gt_iff_lt,Bool.and_eq_true,Bool.and_eq_false_iff,Bool.not_eq_true',Bool.not_eq_false'] at hg);exact(by refine⟨by decide,?_,?_⟩<;>omega))),(14,Xv 1 (decide (((((((((chnS (b).nodes nm u).getD ((dnL l'.length).getD k default) default)).attrs).getD i default)).name).size:Int)> 2)&&seq ((((((((chnS (b).nodes nm u).getD ((dnL l'.length).getD k default) default)).attrs).getD i default)).name).extract ((0:Int)).toNat ((2:Int)).toNat) ({data:=#[112,46]})) (Xc0 (fc_name ((((((((chnS (b).nodes nm u).getD ((dnL l'.length).getD k default) default)).attrs).getD i default)).name).extract ((2:Int)).toNat ((((((((((chnS (b).nodes nm u).getD ((dnL l'.length).getD k default) default)).attrs).getD i default)).name).size:Int):Int)).toNat)) X0)),(15,X (Xk (decide (((((((((chnS (b).nodes nm u).getD ((dnL l'.length).getD k default) default)).attrs).getD i default)).name).size:Int)> 2)&&seq ((((((((chnS (b).nodes nm u).getD ((dnL l'.length).getD k default) default)).attrs).getD i default)).name).extract ((0:Int)).toNat ((2:Int)).toNat) ({data:=#[112,46]}))))]] ((decide (((((((((chnS (b).nodes nm u).getD ((dnL l'.length).getD k default) default)).attrs).getD i default)).name).size:Int)> 2)&&seq ((((((((chnS (b).nodes nm u).getD ((dnL l'.length).getD k default) default)).attrs).getD i default)).name).extract ((0:Int)).toNat ((2:Int)).toNat) ({data:=#[112,46]}))&&(nameGo ((((((((chnS (b).nodes nm u).getD ((dnL l'.length).getD k default) default)).attrs).getD i default)).name).extract ((2:Int)).toNat ((((((((((chnS (b).nodes nm u).getD ((dnL l'.length).getD k default) default)).attrs).getD i default)).name).size:Int):Int)).toNat))) (fun h9=> ?_) (fun h9=> ?_)
   ·
    refine .back [.r [(3,X (Xa (Xc ((0:Int)≤2)) (Xa (Xc ((2:Int)≤((((((((chnS (b).nodes nm u).getD ((dnL l'.length).getD k default) default)).attrs).getD i default)).name).size:Int))) (Xc ((((((((((chnS (b).nodes nm u).getD ((dnL l'.length).getD k default) default)).attrs).getD i default)).name).size:Int):Int)≤((((((((chnS (b).nodes nm u).getD ((dnL l'.length).getD k default) default)).attrs).getD i default)).name).size:Int))))) (by refine⟨by decide,?_,?_⟩<;>omega)),(8,X (rowC attrT [({name:=((((((((chnS (b).nodes nm u).getD ((dnL l'.length).getD k default) default)).attrs).getD i default)).name).extract ((2:Int)).toNat ((((((((((chnS (b).nodes nm u).getD ((dnL l'.length).getD k default) default)).attrs).getD i default)).name).size:Int):Int)).toNat),val:=((((((chnS (b).nodes nm u).getD ((dnL l'.length).getD k default) default)).attrs).getD i default)).val}:Attr)] (Xap 2 attrT 137 c [({name:=((((((((chnS (b).nodes nm u).getD ((dnL l'.length).getD k default) default)).attrs).getD i default)).name).extract ((2:Int)).toNat ((((((((((chnS (b).nodes nm u).getD ((dnL l'.length).getD k default) default)).attrs).getD i default)).name).size:Int):Int)).toNat),val:=((((((chnS (b).nodes nm u).getD ((dnL l'.length).getD k default) default)).attrs).getD i default)).val}:Attr)])))],.r [(0,X (Xn ((i:Int)+1)))]] [(16,16),(80,80),(137,137)] (ih7 ((i+1),(c++[({name:=((((((((chnS (b).nodes nm u).getD ((dnL l'.length).getD k default) default)).attrs).getD i default)).name).extract ((2:Int)).toNat ((((((((((chnS (b).nodes nm u).getD ((dnL l'.length).getD k default) default)).attrs).getD i default)).name).size:Int):Int)).toNat),val:=((((((chnS (b).nodes nm u).getD ((dnL l'.length).getD k default) default)).attrs).getD i default)).val}:Attr)])) ?_ ?_)
    ·
     refine⟨by omega,?_⟩
     rw[I7.2,pcut_succ (by omega)]
     first| (rw[show pcut (((chnS b.nodes nm u).getD ((dnL l'.length).getD k default) default).attrs.getD i default)=_ from if_pos ⟨by omega,h9.1.2,h9.2⟩];rfl)| (rw[show pcut (((chnS b.nodes nm u).getD ((dnL l'.length).getD k default) default).attrs.getD i default)=none from if_neg (by rintro⟨q1,q2,q3⟩;rcases h9 with(q|q)|q;(omega);(exact Bool.noConfusion (q2.symm.trans q));(exact Bool.noConfusion (q3.symm.trans q)))];simp)
    ·
     ((try dsimp only);omega)
   ·
    refine .back [.r [(0,X (Xn ((i:Int)+1)))]] [(16,16),(80,80),(137,137)] (ih7 ((i+1),c) ?_ ?_)
    ·
     refine⟨by omega,?_⟩
     rw[I7.2,pcut_succ (by omega)]
     first| (rw[show pcut (((chnS b.nodes nm u).getD ((dnL l'.length).getD k default) default).attrs.getD i default)=_ from if_pos ⟨by omega,h9.1.2,h9.2⟩];rfl)| (rw[show pcut (((chnS b.nodes nm u).getD ((dnL l'.length).getD k default) default).attrs.getD i default)=none from if_neg (by rintro⟨q1,q2,q3⟩;rcases h9 with(q|q)|q;(omega);(exact Bool.noConfusion (q2.symm.trans q));(exact Bool.noConfusion (q3.symm.trans q)))];simp)
    ·
     ((try dsimp only);omega)
  ·
   exact .rend [.r [(2,X (Xc1 162 (fc_raw (givK (chnS b.nodes nm u) k) c (by first|omega| (simp only[List.length_cons,List.length_nil];omega))) (rowC attrT c X0)))]] [(16,16),(80,80)] .normal [(16,.box [VL 2 attrT (fm rawG (givK (chnS b.nodes nm u) k) c)]),(80,.ext Y [])] rfl (by rw[givK_succ (l:=(chnS b.nodes nm u)) (k:=k) (by omega),I7.2,List.take_of_length_le (by omega),hdn,hl2])
 have e1:((givS b.nodes nm u):List Attr)=(givK (chnS b.nodes nm u) (l'.length)):=by
  rw[hl2];rfl
 exact .finE [.r []] [] (fun z0:List Attr=>(VL 2 attrT z0,[])) _ _ e1
end Go.Ch
end
section
set_option linter.unusedVariables false
set_option linter.unusedSimpArgs false
set_option maxRecDepth 100000
set_option maxHeartbeats 4000000
open Go Go.Proofs Go.Ab
namespace Go.Ch
theorem fc_checkPart(l:List Elem):FC Tryz.prog 49 [VL 3 elemT l] (app emp []) (VI (partE l 0)) (app emp []):=by
 refine .go Tryz.f49 ?_
 refine .len 0 (fun hl0=> ?_)
 refine .loop (α:=Nat) [.r [],.r [(1,X (Xl elemT l))]] 32 (fun i=>([(6,VL 3 elemT l),(7,VI (l.length:Int)),(8,VI (i:Int))],[])) (fun i=>i≤l.length∧partE l 0=partE l i) (fun i=>l.length-i) (0:Nat) ?_ ?_
 ·
  exact⟨by omega,rfl⟩
 rintro i I2 ih2
 try dsimp only at I2
 refine .bp [.r []] (decide ((i:Int)< (l.length:Int))) (fun h2=> ?_) (fun h2=> ?_)
 ·
  refine .bp [.r [(0,X (Xi elemT l (i:Int)))],.r [(1,X (Xc0 (fc_elem ((l.getD i default))) X0))],.r []] ((elemE ((l.getD i default))) !=0) (fun h5=> ?_) (fun h5=> ?_)
  ·
   have e1:((partE l 0):Int)=(elemE ((l.getD i default))):=by
    rw[I2.2,partE];((repeat' split)<;>first|rfl|omega| (simp_all;done)| (simp_all;omega))
   exact .finE [.r []] [] (fun z0:Int=>(VI z0,[])) _ _ e1
  ·
   refine .back [.r [(0,X (Xn ((i:Int)+1)))]] [] (ih2 ((i+1):Nat) ?_ ?_)
   ·
    refine⟨by omega,?_⟩;rw[I2.2,partE,if_pos (by omega),if_pos (by omega)]
   ·
    ((try dsimp only);omega)
 ·
  have e2:((partE l 0):Int)=0:=by
   rw[I2.2,partE];((repeat' split)<;>first|rfl|omega| (simp_all;done)| (simp_all;omega))
  exact .finE [.r []] [] (fun z0:Int=>(VI z0,[])) _ _ e2
theorem fc_woS(l:List Attr)(hl:l.length≤10485760):FC Tryz.prog 95 [VL 2 attrT l] (app emp []) (VL 2 attrT (woS l)) (app emp []):=by
 refine .go Tryz.f95 ?_
 refine .len 0 (fun hl0=> ?_)
 have e1:((woS l):List Attr)=(fm rawG l [({name:={data:=#[115,116,121,108,101]},val:={data:=#[]}}:Attr)]):=by
  rfl
 exact .finE [.r [],.r [(3,X (Xc1 32 (fc_raw l [({name:={data:=#[115,116,121,108,101]},val:={data:=#[]}}:Attr)] (by first|omega| (simp only[List.length_cons,List.length_nil];omega))) (rowC attrT [({name:={data:=#[115,116,121,108,101]},val:={data:=#[]}}:Attr)] X0)))]] [] (fun z0:List Attr=>(VL 2 attrT z0,[])) _ _ e1
theorem fc_endS(b:Book)(e:List Attr)(hl:b.nodes.length≤1048576)(hat:attN b.nodes≤1048576)(he:e.length≤1048576):FC Tryz.prog 53 [.t (bookT b),VL 2 attrT e] (app emp []) (VL 2 attrT (endSt b.nodes e)) (app emp []):=by
 refine .go Tryz.f53 ?_
 refine .len 1 (fun hl1=> ?_)
 have g1:=givS_len b.nodes (getA e ({data:=#[115,116,121,108,101]}:ByteArray) 0) ({data:=#[112,97,114,97,103,114,97,112,104]}:ByteArray)
 have g2:=wo_len (givS b.nodes (getA e ({data:=#[115,116,121,108,101]}:ByteArray) 0) ({data:=#[112,97,114,97,103,114,97,112,104]}:ByteArray))
 have g3:=wo_len e
 have e1:((endSt b.nodes e):List Attr)=(fm rawG (woS (givS (b).nodes (getA e ({data:=#[115,116,121,108,101]}) 0) ({data:=#[112,97,114,97,103,114,97,112,104]}))) (woS e)):=by
  rfl
 exact .finE [.r [],.r [(2,X (Xc0 (fc_get e ({data:=#[115,116,121,108,101]})) X0)),(3,X (Xc1 40 (fc_given b (getA e ({data:=#[115,116,121,108,101]}) 0) ({data:=#[112,97,114,97,103,114,97,112,104]}) (by assumption) (by assumption)) X0)),(4,X (Xc1 48 (fc_woS (givS (b).nodes (getA e ({data:=#[115,116,121,108,101]}) 0) ({data:=#[112,97,114,97,103,114,97,112,104]})) (by omega)) X0)),(6,X (Xc1 64 (fc_woS e (by omega)) X0)),(7,X (Xc1 72 (fc_raw (woS (givS (b).nodes (getA e ({data:=#[115,116,121,108,101]}) 0) ({data:=#[112,97,114,97,103,114,97,112,104]}))) (woS e) (by first|omega| (simp only[List.length_cons,List.length_nil];omega))) X0))]] [] (fun z0:List Attr=>(VL 2 attrT z0,[])) _ _ e1
end Go.Ch
end
section
set_option linter.unusedVariables false
set_option linter.unusedSimpArgs false
set_option maxRecDepth 100000
set_option maxHeartbeats 4000000
open Go Go.Proofs Go.Ab
namespace Go.Ch
theorem fc_appendRune(l:List Int)(c:Int)(h:0≤c∧c<128)(hl:l.length≤100000000000):FC Tryz.prog 169 [.row 0 l.length,.t (.sc (.int .i32 c))] (app emp [(0,OR 1 byteT l)]) (.row 0 ((l++[c]).length)) (app emp [(0,OR 1 byteT (l++[c]))]):=by
 refine .go Tryz.f169 ?_
 refine .bp [.r [],.r [(1,X (Xcv IntKind.u32 c) (wrap_u32 (by omega)))]] (decide (c≤127)) (fun h1=> ?_) (fun h1=> ?_)
 ·
  exact .fin [.r [(2,X (Xcv IntKind.u8 c) (wrap_u8 (by omega))),(4,X (rowC byteT [c] (Xap 1 byteT 0 l [c])))]] [(0,0)]
 ·
  exfalso
  omega
def strO(f:List Elem):ByteArray:=⟨(f.map fun x=>UInt8.ofNat x.char.toNat).toArray⟩
theorem strO_ints{f:List Elem}(h:∀x∈f,0≤x.char∧x.char<256):f.map (·.char)=intsB (strO f):=by
 unfold intsB strO
 simp only[List.map_map]
 apply List.map_congr_left
 intro x hx
 have:=h x hx
 simp only[Function.comp,UInt8.toNat_ofNat']
 omega
theorem fc_textAsc(f:List Elem)(hp:partE f 0=0)(hc:∀x∈f,x.ref=0∧0≤x.char∧x.char<128)(hn:f.length≤1000000000):FC Tryz.prog 141 [VL 3 elemT f] (app emp []) (.tup [VS (strO f),VI 0]) (app emp []):=by
 refine .go Tryz.f141 ?_
 refine .len 0 (fun hl0=> ?_)
 refine .bp [.r [],.r [(1,X (Xc0 (fc_checkPart f) X0))],.r []] ((partE f 0) !=0) (fun h2=> ?_) (fun h2=> ?_)
 ·
  exfalso
  omega
 ·
  refine .loop (α:=Nat×(List Int)) [.r [],.r [(1,X (Xl elemT f))],.le (.nR 5 1)] 89 (fun(i,b)=>([(5,.row 88 b.length),(14,VL 3 elemT f),(15,VI (f.length:Int)),(16,VI (i:Int))],[(88,OR 1 byteT b)])) (fun(i,b)=>i≤f.length∧b=(f.take i).map (·.char)) (fun(i,b)=>f.length-i) (0,[]) ?_ ?_
  ·
   exact⟨by omega,rfl⟩
  rintro⟨i,b⟩ I6 ih6
  try dsimp only at I6
  have bl:b.length=i:=by rw[I6.2];simp;omega
  refine .bp [.r []] (decide ((i:Int)< (f.length:Int))) (fun h6=> ?_) (fun h6=> ?_)
  ·
   have hx:=hc _ (getDE_mem (l:=f) (k:=i) (by omega))
   refine .bp [.r [(0,X (Xi elemT f (i:Int)))],.r [],.r []] ((((f.getD i default)).ref) !=0) (fun h9=> ?_) (fun h9=> ?_)
   ·
    exfalso
    omega
   ·
    refine .back [.r [(2,X (Xcv IntKind.i32 (((f.getD i default)).char)) (wrap_i32 (by omega))),(3,X (Xc3 201 [(0,88)] (fc_appendRune b (((f.getD i default)).char) (by omega) (by omega)) X0))],.r [(0,X (Xn ((i:Int)+1)))]] [(88,88)] (ih6 ((i+1),(b++[(((f.getD i default)).char)])) ?_ ?_)
    ·
     refine⟨by omega,?_⟩
     rw[List.take_succ_eq_append_getElem (show i<f.length by omega),List.map_append,←I6.2]
     simp[List.getD,List.getElem?_eq_getElem (show i<f.length by omega)]
    ·
     ((try dsimp only);omega)
  ·
   have hb:b=intsB (strO f):=by rw[I6.2,List.take_of_length_le (by omega)];exact strO_ints (fun x hx=>by have:=hc x hx;omega)
   exact .fin [.r [(1,X (Xstr b.length b (strO f)) ⟨rfl,hb⟩)]] []
theorem fc_chars(l:List Elem)(hq:l=[aE]∨l=[]):FC Tryz.prog 104 [VL 3 elemT l] (app emp []) (VS (if l=[] then {data:=#[]} else {data:=#[97]})) (app emp []):=by
 refine .go Tryz.f104 ?_
 refine .len 0 (fun hl0=> ?_)
 have hll:l.length≤1:=by rcases hq with q|q<;>rw[q]<;>simp
 have hp0:partE l 0=0:=by rcases hq with q|q<;>rw[q]<;>decide+kernel
 have hc0:∀x∈l,x.ref=0∧0≤x.char∧x.char<128:=by
  intro x hx
  rcases hq with q|q<;>rw[q] at hx
  ·rw[List.mem_singleton.1 hx];decide
  ·cases hx
 refine .loop (α:=Nat×(List Elem)) [.r [],.r [],.r [(1,X (Xl elemT l))],.le (.nR 3 3)] 41 (fun(i,o)=>([(3,.row 40 o.length),(8,VL 3 elemT l),(9,VI (l.length:Int)),(10,VI (i:Int))],[(40,OR 3 elemT o)])) (fun(i,o)=>i≤l.length∧o=l.take i) (fun(i,o)=>l.length-i) (0,[]) ?_ ?_
 ·
  exact⟨by omega,rfl⟩
 rintro⟨i,o⟩ I3 ih3
 try dsimp only at I3
 have ol:o.length≤i:=by rw[I3.2,List.length_take];omega
 refine .bp [.r []] (decide ((i:Int)< (l.length:Int))) (fun h3=> ?_) (fun h3=> ?_)
 ·
  have hx:=hc0 _ (getDX_mem (l:=l) (i:=i) (by omega))
  refine .bp [.r [(0,X (Xi elemT l (i:Int)))],.r []] ((((l.getD i default)).ref)==0) (fun h5=> ?_) (fun h5=> ?_)
  ·
   refine .back [.r [(3,X (rowC elemT [((l.getD i default))] (Xap 3 elemT 40 o [((l.getD i default))])))],.r [(0,X (Xn ((i:Int)+1)))]] [(40,40)] (ih3 ((i+1),(o++[((l.getD i default))])) ?_ ?_)
   ·
    refine⟨by omega,?_⟩
    rw[I3.2,List.take_succ_eq_append_getElem (by omega)]
    simp[List.getD,List.getElem?_eq_getElem (show i<l.length by omega)]
   ·
    ((try dsimp only);omega)
  ·
   refine .back [.r [(0,X (Xn ((i:Int)+1)))]] [(40,40)] (ih3 ((i+1),o) ?_ ?_)
   ·
    exact absurd hx.1 h5
   ·
    ((try dsimp only);omega)
 ·
  have ho:o=l:=by rw[I3.2];exact List.take_of_length_le (by omega)
  have e1:((if l=[] then {data:=#[]} else {data:=#[97]}):ByteArray)=(strO l):=by
   rcases hq with q|q<;>rw[q]<;>decide+kernel
  exact .finE [.le (.er 40 (List.map elemT o) (List.map elemT l) (by rw[ho])),.le (.eq 3 (.row 40 o.length) (.row 40 l.length) (.of_eq (by rw[ho]<;>rfl))),.r [(1,X (Xc0 (fc_textAsc l (by assumption) (by assumption) (by omega)) (rowC elemT l X0)))],.r []] [] (fun z0:ByteArray=>(VS z0,[])) _ _ e1
end Go.Ch
end
section
set_option linter.unusedVariables false
set_option linter.unusedSimpArgs false
set_option maxRecDepth 100000
set_option maxHeartbeats 4000000
open Go Go.Proofs Go.Ab
namespace Go.Ch
def numV(s:ByteArray):Int:=match Lib.atoiAll s.data.toList with
 | .ok v=>v
 |_=>atoiZ s
def numK(s:ByteArray)(lo hi:Int):Bool:=match Lib.atoiAll s.data.toList with
 | .ok v=>(seq (itoaB v) s&&decide (v≥lo))&&decide (v≤hi)
 |_=>false
theorem fc_number(l:List Attr)(n:ByteArray)(lo hi:Int)(hz:(getA l n 0).size≤1048576):FC Tryz.prog 99 [VL 2 attrT l,VS n,VI lo,VI hi] (app emp []) (.tup [VI (numV (getA l n 0)),VB (numK (getA l n 0) lo hi)]) (app emp []):=by
 refine .go Tryz.f99 ?_
 refine .len 0 (fun hl0=> ?_)
 refine .mid [.r [],.r [(2,X (Xc0 (fc_get l n) X0))]] ?_
 rcases hav:Lib.atoiAll (getA l n 0).data.toList with v|_|_
 ·
  have hv:=hav
  have hvb:=Lib.atoiAll_bounds hav
  have e1:((numV (getA l n 0)):Int)=v:=by
   (try unfold numV);(try unfold numK);rw[hav];first|done|rfl|simp
  have e2:((numK (getA l n 0) lo hi):Bool)=(((true&&seq (itoaB v) (getA l n 0))&&decide (v≥lo))&&decide (v≤hi)):=by
   (try unfold numV);(try unfold numK);rw[hav];first|done|rfl|simp
  exact .finE [.r [(1,X (Xc0 (fc_atoi1 (getA l n 0) (by assumption) v hv) X0))],.r [(5,Xv 1 true (Xc0 (fc_itoa v (by omega)) X0)),(7,Xv 2 true X0),(8,X (Xk true)),(12,Xv 2 (true&&seq (itoaB v) (getA l n 0)) X0),(13,X (Xk (true&&seq (itoaB v) (getA l n 0)))),(17,Xv 2 ((true&&seq (itoaB v) (getA l n 0))&&decide (v≥lo)) X0),(18,X (Xk ((true&&seq (itoaB v) (getA l n 0))&&decide (v≥lo))))]] [] (fun((z0,z1):Int×Bool)=>(.tup [VI z0,VB z1],[])) _ _ (pr e1 e2)
 ·
  have hv:∀v,Lib.atoiAll (getA l n 0).data.toList≠ .ok v:=fun v=>by rw[hav];intro q;cases q
  have e3:((numV (getA l n 0)):Int)=(atoiZ (getA l n 0)):=by
   (try unfold numV);(try unfold numK);rw[hav];first|done|rfl
  have e4:((numK (getA l n 0) lo hi):Bool)=(((false&&false)&&false)&&decide ((atoiZ (getA l n 0))≤hi)):=by
   (try unfold numV);(try unfold numK);rw[hav];first|done|rfl
  exact .finE [.r [(1,X (Xc0 (fc_atoi0 (getA l n 0) (by assumption) hv) X0))],.r [(4,X (Xskip false (.junk)) rfl),(5,X (Xskip false (.junk)) rfl),(6,X (Xskip false (.junk)) rfl),(7,X (Xskip false (VB false)) rfl),(8,X (Xk false)),(10,X (Xskip (false&&false) (.junk)) rfl),(11,X (Xskip (false&&false) (.junk)) rfl),(12,X (Xskip (false&&false) (VB false)) rfl),(13,X (Xk (false&&false))),(17,Xv 2 ((false&&false)&&false) X0),(18,X (Xk ((false&&false)&&false)))]] [] (fun((z0,z1):Int×Bool)=>(.tup [VI z0,VB z1],[])) _ _ (pr e3 e4)
 ·
  have hv:∀v,Lib.atoiAll (getA l n 0).data.toList≠ .ok v:=fun v=>by rw[hav];intro q;cases q
  have e5:((numV (getA l n 0)):Int)=(atoiZ (getA l n 0)):=by
   (try unfold numV);(try unfold numK);rw[hav];first|done|rfl
  have e6:((numK (getA l n 0) lo hi):Bool)=(((false&&false)&&false)&&decide ((atoiZ (getA l n 0))≤hi)):=by
   (try unfold numV);(try unfold numK);rw[hav];first|done|rfl
  exact .finE [.r [(1,X (Xc0 (fc_atoi0 (getA l n 0) (by assumption) hv) X0))],.r [(4,X (Xskip false (.junk)) rfl),(5,X (Xskip false (.junk)) rfl),(6,X (Xskip false (.junk)) rfl),(7,X (Xskip false (VB false)) rfl),(8,X (Xk false)),(10,X (Xskip (false&&false) (.junk)) rfl),(11,X (Xskip (false&&false) (.junk)) rfl),(12,X (Xskip (false&&false) (VB false)) rfl),(13,X (Xk (false&&false))),(17,Xv 2 ((false&&false)&&false) X0),(18,X (Xk ((false&&false)&&false)))]] [] (fun((z0,z1):Int×Bool)=>(.tup [VI z0,VB z1],[])) _ _ (pr e5 e6)
theorem hd_num(r:Int):numK (getA (attsR r) oHe 0) 1 6=decide (r=2):=by
 rcases attsR_cases r with⟨h,e⟩| ⟨h,e⟩| ⟨h1,h2,e⟩
 ·rw[e,h];decide+kernel
 ·rw[e,h];decide+kernel
 ·rw[e,decide_eq_false h2];decide+kernel
theorem hd_one{r:Int}(h:r=2):numV (getA (attsR r) oHe 0)=1:=by subst h;decide+kernel
theorem lv_num{r:Int}(h:r=1)(a b:Int):numK (getA (attsR r) oLv 0) a b=false∧numV (getA (attsR r) oSt 0)=0∧numK (getA (attsR r) oSt 0) a b=false:=by
 subst h
 have e1:getA (attsR 1) oLv 0=mt:=by decide+kernel
 have e2:getA (attsR 1) oSt 0=mt:=by decide+kernel
 have e3:Lib.atoiAll (mt:ByteArray).data.toList=Lib.NumEnd.syntax:=by decide+kernel
 rw[e1,e2]
 unfold numK numV atoiZ
 simp only[e3]
 exact⟨trivial,trivial,trivial⟩
theorem num_sz(r:Int)(n:ByteArray):(getA (attsR r) n 0).size≤1048576:=by
 refine getA_size (fun a ha=> ?_) _ _ 0 rfl
 rcases attsR_cases r with⟨_,e⟩| ⟨_,e⟩| ⟨_,_,e⟩<;>rw[e] at ha
 ·rw[List.mem_singleton.1 ha];decide
 ·rw[List.mem_singleton.1 ha];decide
 ·cases ha
theorem itoa_nat(n:Nat):itoaB (n:Int)=⟨(Lib.decDigits n).toArray⟩:=by
 unfold itoaB Lib.itoa
 rw[if_neg (by omega)];rfl
theorem itoa_sz{z:Int}(h:0≤z∧z<100):(itoaB z).size≤2:=by
 obtain⟨n,rfl⟩:∃n:Nat,z=n:=⟨z.toNat,by omega⟩
 rw[itoa_nat]
 have:=dd_len (n:=n) (by omega)
 simpa[ByteArray.size] using this
theorem w_add{s:ByteArray}(h:s.size≤2):(((({data:=#[]}:ByteArray)).size+s.size:Nat):Int)≤IntKind.i64.max:=by
 have e:IntKind.i64.max=9223372036854775807:=by decide
 have e2:({data:=#[]}:ByteArray).size=0:=rfl
 rw[e,e2];omega
theorem mt_app(s:ByteArray):({data:=#[]}:ByteArray)++s=s:=ByteArray.ext (by simp)
end Go.Ch
end
section
set_option linter.unusedVariables false
set_option maxRecDepth 100000
namespace Go.Ch
open Go Go.Ab
def nR:Node:=⟨1,0,[],[⟨0,2,[]⟩],⟨0,0,[],[]⟩,[]⟩
def nT(f:List Elem):Node:=⟨2,1,[],f,⟨0,0,[],[]⟩,[]⟩
def docO(rs:List Int):Doc:=⟨[nR,nT (flW rs)]⟩
theorem nT_b{f:List Elem}(h1:∀x∈f,Szd x.attrs∧x.attrs.length≤1)(hl:f.length≤1048576):NodeB (nT f):=by
 refine⟨fun a ha=> ?_,by simp[nT],fun x hx=>(h1 x hx).1,hl,fun x hx=>Nat.le_trans (h1 x hx).2 (by decide),fun c hc=> ?_,by simp[nT],fun c hc=> ?_,by simp[nT],by simp[nT],fun o ho=> ?_⟩
 ·cases ha
 ·cases hc
 ·cases hc
 ·cases ho
theorem nR_b:NodeB nR:=first_b.all nR (by simp[firstD,nR])
theorem docO_b{rs:List Int}(h:rs.length≤100000):DocB (docO rs):=by
 refine⟨by simp[docO],fun n hn=> ?_,?_⟩
 ·simp only[docO,List.mem_cons,List.not_mem_nil,or_false] at hn
  rcases hn with rfl|rfl
  ·exact nR_b
  ·exact nT_b (fun x hx=>⟨(flW_elem hx).2.1,(flW_elem hx).2.2.1⟩) (by rw[flW_len];omega)
 ·show(nR.flow.length+nR.grid.cells.length+nR.draw.length)+(((flW rs).length+0+0)+0)≤_
  rw[flW_len]
  show(1+0+0)+_≤_
  omega
theorem refs_W(rs:List Int):refsF (flW rs)=[]:=by
 unfold refsF
 rw[List.filterMap_eq_nil_iff]
 intro x hx
 rw[if_neg (fun q=>q (flW_elem hx).2.2.2)]
theorem flowZ_W(rs:List Int):flowZ true (flW rs)=0:=by
 have h0:∀n i,(flW rs).length-i=n→flowX true (flW rs) i=0:=by
  intro n
  induction n with
  |zero=>intro i hi;exact flowX_end (by omega)
  |succ n ih=>
   intro i hi
   rw[flowX_next (by omega) (flW_elem (getDX_mem (by omega))).1 (.inl rfl)]
   exact ih _ (by omega)
 rw[flowZ_end (h0 _ 0 rfl),if_neg]
 rintro⟨-,h|h⟩
 ·rw[flW_len] at h;omega
 ·rw[flW_len,show 2*rs.length+1- 1=2*rs.length by omega,flW_last] at h
  exact h rfl
theorem nodeT_e(rs:List Int):nodeE (nT (flW rs))=0:=by
 unfold nodeE
 have:zeroG (nT (flW rs)).grid=true:=by show zeroG ⟨0,0,[],[]⟩=true;decide
 rw[if_neg (by simp[nT]),if_neg (by simp[nT]),if_neg (by(rw[show chkA false (nT (flW rs)).attrs 0=0 from by show chkA false [] 0=0;decide+kernel];exact fun q=>q rfl)),if_neg,if_pos (.inl (by show hasT 1=true;decide))]
 ·exact flowZ_W rs
 ·rintro(⟨-,h,-⟩| ⟨h,-⟩| ⟨h,-⟩)
  ·exact absurd h (by show¬hasT 1=false;decide)
  ·rw[this] at h;cases h
  ·exact absurd h (by simp[nT])
theorem docO_e(rs:List Int):docE (docO rs)=0:=by
 have hn:nodesE (docO rs).nodes 0=0:=by
  have e0:nodeE ((docO rs).nodes.getD 0 default)=0:=by show nodeE nR=0;decide+kernel
  have e1:nodeE ((docO rs).nodes.getD 1 default)=0:=nodeT_e rs
  rw[nodesE_next (by simp[docO]) e0 (by simp[docO,nR]),nodesE_next (by simp[docO]) e1 (by simp[docO,nR,nT]),nodesE_end (by simp[docO])]
 have hr:allRefsE (docO rs).nodes 0=0:=by
  have f2:findD (docO rs).nodes 2 0=1:=by
   rw[findD,if_pos (by simp[docO]),if_neg (by simp[docO,nR]),findD,if_pos (by simp[docO]),if_pos (by simp[docO,nT])];rfl
  have e0:refsE (docO rs).nodes ((docO rs).nodes.getD 0 default).kind (refsN ((docO rs).nodes.getD 0 default)) 0=0:=by
   have:refsN ((docO rs).nodes.getD 0 default)=[2]:=by show refsN nR=[2];decide
   have g2:([2]:List Int).getD 0 default=2:=rfl
   rw[this,refsE,if_pos (by simp),g2,f2,if_neg (by decide)]
   rw[if_neg (by show¬permB 0 1=false;decide)]
   rw[refsE,if_neg (by simp)]
  have e1:refsE (docO rs).nodes ((docO rs).nodes.getD 1 default).kind (refsN ((docO rs).nodes.getD 1 default)) 0=0:=by
   have:refsN ((docO rs).nodes.getD 1 default)=[]:=by show refsF (flW rs)++refsC []=[];rw[refs_W];rfl
   rw[this,refsE,if_neg (by simp)]
  rw[allRefsE,if_pos (by simp[docO]),if_neg (fun q=>q e0),allRefsE,if_pos (by simp[docO]),if_neg (fun q=>q e1),allRefsE,if_neg (by simp[docO])]
 unfold docE
 rw[if_neg (by simp[docO]),if_neg (fun q=>q hn)]
 exact hr
theorem docO_v{rs:List Int}(h:rs.length≤100000):DocV (docO rs):=⟨docO_b h,docO_e rs⟩
theorem items_nil(l:List Node){n:Node}(h:n.draw=[]):itemsD l n=[]:=by
 have h0:∀i,shownF ([]:List DItem) i=0:=fun i=>by rw[shownF,if_neg (by simp)];rfl
 unfold itemsD shownD
 rw[h]
 have:rawI ([]:List DOp)=[]:=by decide+kernel
 rw[this];simp
theorem lob_O(rs:List Int)(k:Int):lobN (docO rs).nodes k=lobN firstD.nodes k:=by
 unfold lobN docO firstD nR nT
 simp only[List.takeWhile_cons]
 (repeat' split)<;>rfl
theorem kids_O(rs:List Int)(v:Vis):kidsV (docO rs).nodes v=kidsV firstD.nodes v:=by
 unfold kidsV nodeOf
 rw[lob_O]
 match lobN firstD.nodes v.id with
 |0=>
  show _++(itemsD _ nR).map _=_++(itemsD _ nR).map _
  rw[items_nil _ rfl,items_nil _ rfl];rfl
 |1=>
  show(refsF (flW rs)).map _++_++(itemsD _ (nT (flW rs))).map _=(refsF [⟨10,0,[]⟩]).map _++_++(itemsD _ (nT [⟨10,0,[]⟩])).map _
  rw[refs_W,items_nil _ rfl,items_nil _ rfl];rfl
 |n+2=>
  show _++(itemsD _ default).map _=_++(itemsD _ default).map _
  rw[items_nil _ rfl,items_nil _ rfl];rfl
theorem walk_O(rs:List Int):∀(n:Nat) (S:List Int) (v:Vis),walkV (docO rs).nodes n S v=walkV firstD.nodes n S v
 |0,S,v=>rfl
 |n+1,S,v=>by
  have e:walkV (docO rs).nodes n=walkV firstD.nodes n:=by funext S v;exact walk_O rs n S v
  rw[walkV,walkV,e,kids_O]
theorem tree_O(rs:List Int):treeV (docO rs)=treeV firstD:=walk_O rs _ _ _
theorem sty_O(rs:List Int):stylesD (docO rs)=[]:=by
 unfold stylesD styL
 rw[List.take_length,List.filterMap_eq_nil_iff,tree_O]
 intro v _
 unfold styO ndV
 rw[lob_O]
 match lobN firstD.nodes v.id with
 |0=>rfl
 |1=>rfl
 |n+2=>rfl
theorem lob2_O(rs:List Int):lobN (docO rs).nodes 2=1:=by rw[lob_O];decide
theorem has2_O(rs:List Int):hasN (docO rs).nodes 2=true:=by
 rw[hasN_iff,lob2_O];exact⟨by simp[docO],rfl⟩
theorem giv_nil(nm u:ByteArray):givS [] nm u=[]:=rfl
theorem end_nil(r:Int):endSt [] (attsR r)=attsR r:=by
 rcases attsR_cases r with⟨_,h⟩| ⟨_,h⟩| ⟨_,_,h⟩
 all_goals(rw[h];unfold endSt;rw[giv_nil];exact sameL_eq.1 (by decide+kernel))
def wI(raw:List Int)(k:Nat):Int:=withinI (raw.getD k default) 0 2
def rsW(raw:List Int)(m:Nat):List Int:=(List.range m).map (wI raw)
theorem rsW_len(raw:List Int)(m:Nat):(rsW raw m).length=m:=by simp[rsW]
theorem rsW_succ(raw:List Int)(m:Nat):rsW raw (m+1)=rsW raw m++[wI raw m]:=by simp[rsW,List.range_succ]
theorem rK_lt{raw:List Int}{m k:Nat}(h:k<m):rK (rsW raw m) k=wI raw k:=by
 unfold rK
 rw[rsW_len,if_pos h]
 simp[rsW,List.getD,h]
theorem rK_last(raw:List Int)(m:Nat):rK (rsW raw m) m=2:=by unfold rK;rw[rsW_len,if_neg (by omega)]
theorem cntK_congr{r s:Nat→Int}{v:Int}:∀{k:Nat},(∀j,j<k→r j=s j)→cntK r v k=cntK s v k
 |0,_=>rfl
 |k+1,h=>by rw[cntK,cntK,cntK_congr (fun j hj=>h j (by omega)),h k (by omega)]
theorem lab_eq{raw:List Int}{m k:Nat}(h:k<m):labR (rK (rsW raw m)) k=labR (wI raw) k:=by
 unfold labR
 rw[rK_lt h,cntK_congr (fun j hj=>rK_lt (m:=m) (by omega))]
theorem heads_n(raw:List Int)(m:Nat)(l:List Par):(headsL (rK (rsW raw m)) l (m+1)).length=cntK (wI raw) 2 m+1:=by
 rw[headsL_len,cntK,if_pos (rK_last raw m),cntK_congr (fun j hj=>rK_lt (m:=m) hj)]
theorem heads_last(raw:List Int)(m:Nat)(l:List Par):((headsL (rK (rsW raw m)) l (m+1)).getD (cntK (wI raw) 2 m) default).label=decB (cntK (wI raw) 2 m+1):=by
 have e:cntK (rK (rsW raw m)) 2 m=cntK (wI raw) 2 m:=cntK_congr (fun j hj=>rK_lt (m:=m) hj)
 rw[headsL_yes (rK_last raw m),List.getD,List.getElem?_append_right (by rw[headsL_len,e];omega),headsL_len,e,Nat.sub_self]
 show decB (cntK (rK (rsW raw m)) 2 (m+1))=_
 rw[cntK,if_pos (rK_last raw m),e]
end Go.Ch
end
section
set_option linter.unusedVariables false
set_option linter.unusedSimpArgs false
set_option maxRecDepth 100000
set_option maxHeartbeats 4000000
open Go Go.Proofs Go.Ab
namespace Go.Ch
theorem fc_given0(nm u:ByteArray):FC Tryz.prog 96 [.t (bookT {nodes:=[]}),VS nm,VS u] (app emp []) (VL 2 attrT []) (app emp []):=fc_given {nodes:=[]} nm u (by decide) (by decide)
theorem fc_end0(e:List Attr)(h:endSt [] e=e∧e.length≤1048576):FC Tryz.prog 53 [.t (bookT {nodes:=[]}),VL 2 attrT e] (app emp []) (VL 2 attrT e) (app emp []):=by
 have:=fc_endS {nodes:=[]} e (by decide) (by decide) h.2
 rw[h.1] at this
 exact this
theorem fc_hid0(x:Elem)(h:seenB x):FC Tryz.prog 139 [.t (elemT x),VI 0] (app emp []) (VB false) (app emp []):=by
 refine .go Tryz.f139 ?_
 have e1:(((seq (getA x.attrs ({data:=#[104,105,100,100,101,110]}) 0) ({data:=#[111,110]})|| (true&& !(seq (getA x.attrs ({data:=#[99,117,116]}) 0) ({data:=#[]}))))|| (false&& !(seq (getA x.attrs ({data:=#[97,100,100]}) 0) ({data:=#[]})))):Bool)=false:=by
  obtain⟨q1,q2⟩:=h
  rw[q1,q2,show seq mt {data:=#[111,110]}=false by decide+kernel,show seq mt {data:=#[]}=true by decide+kernel];rfl
 exact .finE [.r [],.r [(2,X (Xc0 (fc_get x.attrs ({data:=#[104,105,100,100,101,110]})) X0)),(6,Xv 1 (!(seq (getA x.attrs ({data:=#[104,105,100,100,101,110]}) 0) ({data:=#[111,110]}))) X0),(7,Xv 1 (!(seq (getA x.attrs ({data:=#[104,105,100,100,101,110]}) 0) ({data:=#[111,110]}))) X0),(9,Xv 1 ((!(seq (getA x.attrs ({data:=#[104,105,100,100,101,110]}) 0) ({data:=#[111,110]})))&&true) X0),(10,Xv 1 ((!(seq (getA x.attrs ({data:=#[104,105,100,100,101,110]}) 0) ({data:=#[111,110]})))&&true) (Xc0 (fc_get x.attrs ({data:=#[99,117,116]})) X0)),(11,Xv 1 ((!(seq (getA x.attrs ({data:=#[104,105,100,100,101,110]}) 0) ({data:=#[111,110]})))&&true) X0),(12,Xka (!(seq (getA x.attrs ({data:=#[104,105,100,100,101,110]}) 0) ({data:=#[111,110]}))) true),(13,X (Xk' (seq (getA x.attrs ({data:=#[104,105,100,100,101,110]}) 0) ({data:=#[111,110]})))),(16,Xv 1 (!(seq (getA x.attrs ({data:=#[104,105,100,100,101,110]}) 0) ({data:=#[111,110]})|| (true&& !(seq (getA x.attrs ({data:=#[99,117,116]}) 0) ({data:=#[]}))))) X0),(17,Xv 1 (!(seq (getA x.attrs ({data:=#[104,105,100,100,101,110]}) 0) ({data:=#[111,110]})|| (true&& !(seq (getA x.attrs ({data:=#[99,117,116]}) 0) ({data:=#[]}))))) X0),(19,Xv 1 ((!(seq (getA x.attrs ({data:=#[104,105,100,100,101,110]}) 0) ({data:=#[111,110]})|| (true&& !(seq (getA x.attrs ({data:=#[99,117,116]}) 0) ({data:=#[]})))))&&false) X0),(20,Xv 1 ((!(seq (getA x.attrs ({data:=#[104,105,100,100,101,110]}) 0) ({data:=#[111,110]})|| (true&& !(seq (getA x.attrs ({data:=#[99,117,116]}) 0) ({data:=#[]})))))&&false) (Xc0 (fc_get x.attrs ({data:=#[97,100,100]})) X0)),(21,Xv 1 ((!(seq (getA x.attrs ({data:=#[104,105,100,100,101,110]}) 0) ({data:=#[111,110]})|| (true&& !(seq (getA x.attrs ({data:=#[99,117,116]}) 0) ({data:=#[]})))))&&false) X0),(22,Xka (!(seq (getA x.attrs ({data:=#[104,105,100,100,101,110]}) 0) ({data:=#[111,110]})|| (true&& !(seq (getA x.attrs ({data:=#[99,117,116]}) 0) ({data:=#[]}))))) false),(23,X (Xk' (seq (getA x.attrs ({data:=#[104,105,100,100,101,110]}) 0) ({data:=#[111,110]})|| (true&& !(seq (getA x.attrs ({data:=#[99,117,116]}) 0) ({data:=#[]}))))))]] [] (fun z0:Bool=>(VB z0,[])) _ _ e1.symm
theorem fc_plc0(f:List Elem)(hn:f.length≤1048576)(hv:∀x∈f,seenB x):FC Tryz.prog 102 [VL 3 elemT f,VI 0] (app emp []) (VL 1 intT (idxL f.length)) (app emp []):=by
 refine .go Tryz.f102 ?_
 refine .len 0 (fun hl0=> ?_)
 refine .loop (α:=Nat×(List Int)) [.r [],.r [],.r [(1,X (Xl elemT f))],.le (.nR 5 1)] 41 (fun(i,o)=>([(0,VL 3 elemT f),(1,VI 0),(5,.row 40 o.length),(8,VL 3 elemT f),(9,VI (f.length:Int)),(10,VI (i:Int))],[(40,OR 1 intT o)])) (fun(i,o)=>i≤f.length∧o=idxL i) (fun(i,o)=>f.length-i) (0,[]) ?_ ?_
 ·
  exact⟨by omega,rfl⟩
 rintro⟨i,o⟩ I3 ih3
 try dsimp only at I3
 have ol:o.length=i:=by rw[I3.2,idxL_len]
 refine .bp [.r []] (decide ((i:Int)< (f.length:Int))) (fun h3=> ?_) (fun h3=> ?_)
 ·
  have hx:=hv _ (getDX_mem (l:=f) (i:=i) (by omega))
  refine .bp [.r [(1,X (Xi elemT f (i:Int)))],.r [(2,X (Xc0 (fc_hid0 ((f.getD i default)) (by assumption)) X0)),(5,X (Xskip (!true) (.junk)) rfl),(6,X (Xskip (!true) (.junk)) rfl),(7,X (Xskip (!true) (.junk)) rfl),(8,X (Xskip (!true) (.junk)) rfl),(9,X (Xskip (!true) (VB false)) rfl),(10,X (Xskip (!true) (VB false)) rfl),(11,X (Xskip ((!true)&&false) (.junk)) rfl),(12,X (Xskip ((!true)&&false) (.junk)) rfl),(13,X (Xskip ((!true)&&false) (VB false)) rfl),(14,X (Xskip (!true) (VB false)) rfl),(15,X (Xk' true))]] (true||false) (fun h5=> ?_) (fun h5=> ?_)
  ·
   refine .back [.r [(3,X (rowC intT [(i:Int)] (Xap 1 intT 40 o [(i:Int)])))],.r [(0,X (Xn ((i:Int)+1)))]] [(40,40)] (ih3 ((i+1),(o++[(i:Int)])) ?_ ?_)
   ·
    exact⟨by omega,by rw[I3.2,idxL_succ]⟩
   ·
    ((try dsimp only);omega)
  ·
   exfalso
   simp at h5
 ·
  have e1:((idxL f.length):List Int)=o:=by
   rw[I3.2,show i=f.length by omega]
  exact .finE [.r [],.le (.fr 4 [(o.length:Nat)=(List.map intT o).length] ⟨lm,trivial⟩)] [] (fun z0:List Int=>(VL 1 intT z0,[])) _ _ e1
theorem fc_par(f:List Elem)(hn:f.length≤1000000)(hv:∀x∈f,seenB x)(hE:∀x∈f,endSt [] x.attrs=x.attrs∧x.attrs.length≤1048576):FC Tryz.prog 60 [.t (bookT ({nodes:=[]}:Book)),VL 3 elemT f] (app emp []) (VL 3 parT ((txtK f f.length).1)) (app emp []):=by
 refine .go Tryz.f60 ?_
 refine .len 1 (fun hl1=> ?_)
 refine .loop (α:=Nat×Int×(List Elem)×(List Par)) [.r [],.r [],.r [],.le (.nB 24 0 3),.r [(1,X (Xc1 41 (fc_plc0 f (by omega) (by assumption)) X0)),(2,X (Xl intT (idxL (f).length)))],.le (.eq 12 (VI ((idxL (f).length).length:Int)) (VI (f.length:Int)) (.of_eq (by rw[idxL_len]))),.le (.nR 5 3)] 66 (fun(i,m,pe,o)=>([(1,VL 3 elemT f),(2,.ptr 0 0),(5,.row 65 o.length),(6,.ptr 24 0),(11,VL 1 intT (idxL (f).length)),(12,VI (f.length:Int)),(13,VI (i:Int))],[(0,.box [VL 9 nodeT ((({nodes:=[]}:Book)).nodes)]),(24,.box [.row 32 pe.length,VI m,VN]),(32,OR 3 elemT pe),(65,OR 3 parT o)])) (fun(i,m,pe,o)=>i≤f.length∧o=(txtK f i).1∧pe=(txtK f i).2.elems∧m=(txtK f i).2.frm) (fun(i,m,pe,o)=>f.length-i) (0,0,[],[]) ?_ ?_
 ·
  exact⟨by omega,rfl,rfl,rfl⟩
 rintro⟨i,m,pe,o⟩ I4 ih4
 try dsimp only at I4
 obtain⟨tl1,tl2,tl3,tl4,tl5⟩:=txtK_len f i
 have ol:o.length≤i:=by rw[I4.2.1];exact tl1
 have ol2:pe.length≤i:=by rw[I4.2.2.1];exact tl2
 refine .bp [.r []] (decide ((i:Int)< (f.length:Int))) (fun h4=> ?_) (fun h4=> ?_)
 ·
  refine .bp [.r [(1,X (Xi intT (idxL (f).length) (i:Int)) ⟨(by first|omega| (simp;omega)| (simp;done)|assumption),(by rw[idxL_len];omega)⟩)],.le (.eq 8 (VI ((idxL (f).length).getD i default)) (VI (i:Int)) (.of_eq (by rw[idxL_at (by omega)]))),.r [(2,X (Xi elemT f (i:Int)))],.r []] ((((f.getD i default)).char) !=10) (fun h7=> ?_) (fun h7=> ?_)
  ·
   refine .back [.r [(4,X (rowC elemT [((f.getD i default))] (Xap 3 elemT 32 pe [((f.getD i default))])))],.r [(0,X (Xn ((i:Int)+1)))]] [(0,0),(24,24),(32,32),(65,65)] (ih4 ((i+1),m,(pe++[((f.getD i default))]),o) ?_ ?_)
   ·
    dsimp only
    rw[txtK_miss h7]
    exact⟨by omega,I4.2.1,by rw[I4.2.2.1],I4.2.2.2⟩
   ·
    ((try dsimp only);omega)
  ·
   have hx:=hE _ (getDX_mem (l:=f) (i:=i) (by omega))
   refine .back [.r [(3,X (Xi elemT f (i:Int))),(6,X (Xc1 234 (fc_end0 (((f.getD i default)).attrs) (by assumption)) X0))],.r [(2,X (rowC elemT pe X0)),(3,X (rowC parT [({elems:=pe,frm:=m,fin:=(((f.getD i default)).attrs)}:Par)] (Xap 3 parT 65 o [({elems:=pe,frm:=m,fin:=(((f.getD i default)).attrs)}:Par)])))],.r [(1,X (Xn ((i:Int)+1)))],.le (.nB 24 0 3),.r [(0,X (Xn ((i:Int)+1)))]] [(0,0),(24,24),(330,32),(65,65)] (ih4 ((i+1),((i:Int)+1),[],(o++[({elems:=pe,frm:=m,fin:=(((f.getD i default)).attrs)}:Par)])) ?_ ?_)
   ·
    dsimp only
    rw[txtK_hit (by omega)]
    exact⟨by omega,by rw[I4.2.1,I4.2.2.1,I4.2.2.2],rfl,rfl⟩
   ·
    ((try dsimp only);omega)
 ·
  have e1:((txtK f f.length).1:List Par)=o:=by
   rw[I4.2.1,show i=f.length by omega]
  exact .finE [.r [],.le (.fr 4 [(o.length:Nat)=(List.map parT o).length] ⟨lm,trivial⟩)] [] (fun z0:List Par=>(VL 3 parT z0,[])) _ _ e1
end Go.Ch
end
section
set_option linter.unusedVariables false
set_option linter.unusedSimpArgs false
set_option maxRecDepth 100000
set_option maxHeartbeats 4000000
open Go Go.Proofs Go.Ab
namespace Go.Ch
theorem li_no{r:Int}(h:seq (getA (attsR r) oLi 0) {data:=#[]}=true):r≠1:=by
 rintro rfl
 exact absurd h (by decide+kernel)
theorem li_yes{r:Int}(h:¬seq (getA (attsR r) oLi 0) {data:=#[]}=true):r=1:=by
 rcases attsR_cases r with⟨h1,_⟩| ⟨_,e⟩| ⟨_,_,e⟩
 ·exact h1
 ·rw[e] at h;exact absurd (by decide+kernel) h
 ·rw[e] at h;exact absurd (by decide+kernel) h
theorem li_get{r:Int}(h:r=1):getA (attsR r) oLi 0=oL:=by subst h;exact byt_ext (by decide+kernel)
theorem CntI.skip{r:Nat→Int}{i:Nat}{bs:List Nat}{q:List (Nat×Nat)}(h:CntI r i bs q)(hr:r i≠1):CntI r (i+1) bs q:=by
 have e:cntK r 1 (i+1)=cntK r 1 i:=by rw[cntK,if_neg hr];rfl
 unfold CntI at h⊢
 rw[e];exact h
theorem fc_lists(l:List Par)(r:Nat→Int)(hl:l.length≤90)(hr:∀i,i<l.length→(l.getD i default).fin=attsR (r i)∧((l.getD i default).elems=[aE]∨(l.getD i default).elems=[])):FC Tryz.prog 59 [.t (bookT ({nodes:=[]}:Book)),VL 3 parT l] (app emp []) (VL 1 strT (labsL r l.length)) (app emp []):=by
 refine .go Tryz.f59 ?_
 refine .len 1 (fun hl1=> ?_)
 refine .loop (α:=Nat×(List ByteArray)×List (Nat×Nat)×(List Nat)) [.r [],.r [],.r [(1,X (Xl parT l)),(2,X (Xmk 1 strT 40 (l.length:Int) (l.length:Int) ({data:=#[]})))],.le .pnew,.r [(1,X (Xl parT l))],.le (.nR 5 1)] 82 (fun(i,o,q,bs)=>([(2,.ptr 0 0),(5,.row 81 bs.length),(6,.row 40 l.length),(20,VL 3 parT l),(21,VI (l.length:Int)),(22,VI (i:Int))],[(0,.box [VL 9 nodeT ((({nodes:=[]}:Book)).nodes)]),(40,OR 1 strT o),(56,.pool (List.map cntP q) none),(81,OR 1 ptrT bs)])) (fun(i,o,q,bs)=>i≤l.length∧o=(labsL r l.length).take i++List.replicate (l.length-i) ({data:=#[]}:ByteArray)∧CntI r i bs q) (fun(i,o,q,bs)=>l.length-i) (0,(List.replicate l.length ({data:=#[]})),[],[]) ?_ ?_
 ·
  exact⟨by omega,by simp,.inl ⟨rfl,rfl,rfl⟩⟩
 rintro⟨i,o,q,bs⟩ I4 ih4
 try dsimp only at I4
 have hcl:=cntK_le r 1 i
 have ol:o.length=l.length:=by rw[I4.2.1,List.length_append,List.length_take,labsL_len,List.length_replicate];omega
 refine .bp [.r []] (decide ((i:Int)< (l.length:Int))) (fun h4=> ?_) (fun h4=> ?_)
 ·
  obtain⟨hq,he⟩:=hr i (by omega)
  refine .bp [.r [(1,X (Xi parT l (i:Int)))],.r [(2,X (Xc0 (fc_get (((l.getD i default)).fin) ({data:=#[108,105,115,116]})) X0))],.r []] (seq (getA (((l.getD i default)).fin) ({data:=#[108,105,115,116]}) 0) ({data:=#[]})) (fun h7=> ?_) (fun h7=> ?_)
  ·
   refine .back [.r [(0,X (Xn ((i:Int)+1)))]] [(0,0),(40,40),(56,56),(81,81)] (ih4 ((i+1),o,q,bs) ?_ ?_)
   ·
    rw[hq] at h7
    have hr1:=li_no h7
    exact⟨by omega,by rw[I4.2.1];exact skip_fill (by rw[labsL_len]) (by omega) (by rw[labsL_at (by omega),labR,if_neg hr1]),I4.2.2.skip hr1⟩
   ·
    ((try dsimp only);omega)
  ·
   rw[hq] at h7
   have hr1:=li_yes (by simpa using h7)
   have hc1:cntK r 1 (i+1)=cntK r 1 i+1:=by rw[cntK,if_pos hr1]
   refine .mid [.le (.eq 9 (VS (getA (((l.getD i default)).fin) ({data:=#[108,105,115,116]}) 0)) (VS ({data:=#[108]})) (.of_eq (by rw[hq,li_get hr1]))),.r []] ?_
   rcases I4.2.2 with⟨hbs,hq0,hc0⟩| ⟨b,hbs,hq0⟩
   ·
    refine .mid [.le (.er 81 (List.map ptrT bs) (List.map ptrT []) (by rw[hbs])),.le (.eq 5 (.row 81 bs.length) (.row 81 0) (.of_eq (by rw[hbs]<;>rfl))),.le (.pe 56 (List.map cntP q) (List.map cntP []) (by rw[hq0])),.r [],.u,.r [],.f,.r [],.t,.r []] ?_
    refine .pin 56 10 (List.map cntP []) 258 [VS ({data:=#[108]}),VI 0,VI 0,VI 0,VI 0,VI 0,VI 0,VI 0,VI 0,VI 0] (fun b=>List.map cntP ([]++[(b,0)])) (fun b=>(cntP (b,0)).2) (fun b=>by simp[cntP]) (fun b hb=> ?_)
    have hz1:(getA ((l.getD i default)).fin oLv 0).size≤1048576:=by rw[hq];exact num_sz _ _
    have hz2:(getA ((l.getD i default)).fin oSt 0).size≤1048576:=by rw[hq];exact num_sz _ _
    obtain⟨n1,n2,n3⟩:=lv_num hr1 0 8
    obtain⟨-,-,n4⟩:=lv_num hr1 0 9999
    refine .back [.r [(3,X (rowC ptrT [b] (Xap 1 ptrT 81 [] [b])))],.le (.pback 56 (List.map cntP [(b,0)]) [setP (List.map cntP ([]++[(b,0)])) b [TS ({data:=#[108]}),TI 0,TI 0,TI 0,TI 0,TI 0,TI 0,TI 0,TI 0,TI 0]=List.map cntP [(b,0)]] ⟨(by simp[setP,cntP]),trivial⟩),.r [(2,X (Xc0 (fc_number (((l.getD i default)).fin) ({data:=#[108,101,118,101,108]}) 0 8 (by assumption)) X0))],.le (.eq 14 (VB (numK (getA (((l.getD i default)).fin) ({data:=#[108,101,118,101,108]}) 0) 0 8)) (VB false) (.of_eq (by rw[hq,n1]))),.r [],.t,.r [],.r [(2,X (Xc0 (fc_number (((l.getD i default)).fin) ({data:=#[115,116,97,114,116]}) 0 9999 (by assumption)) X0))],.le (.eq 15 (VI (numV (getA (((l.getD i default)).fin) ({data:=#[115,116,97,114,116]}) 0))) (VI 0) (.of_eq (by rw[hq,n2]))),.le (.eq 16 (VB (numK (getA (((l.getD i default)).fin) ({data:=#[115,116,97,114,116]}) 0) 0 9999)) (VB false) (.of_eq (by rw[hq,n4]))),.le (.pout 56 10 [TS ({data:=#[108]}),TI 0,TI 0,TI 0,TI 0,TI 0,TI 0,TI 0,TI 0,TI 0] [lookP (List.map cntP [(b,0)]) b=some [TS ({data:=#[108]}),TI 0,TI 0,TI 0,TI 0,TI 0,TI 0,TI 0,TI 0,TI 0]] ⟨(by simp[lookP,cntP]),trivial⟩),.r [(4,X (Xc3 499 [(0,466)] (fc_next0 ({data:=#[108]}) 0 0 0 0 0 0 0 0 0 0 (by omega)) X0))],.le (.eb 466 1 (VI (0+1)) (VI ((cntK r 1 (i+1):Nat):Int)) (by rw[hc1,hc0];rfl)),.r [(5,X (Xc1 547 (fc_given0 ({data:=#[108]}) ({data:=#[108,105,115,116]})) X0)),(7,X (Xc4 [(0,466)] (fc_label [] ({data:=#[108]}) (cntK r 1 (i+1)) 0 0 0 0 0 0 0 0 (by omega) rfl) X0)),(8,X (Xpn l.length strT o (i:Int))),(9,X (Xsn l.length 1 strT 40 o i (labN (cntK r 1 (i+1)))))],.le (.pback 56 (List.map cntP [(b,cntK r 1 (i+1))]) [setP (List.map cntP [(b,0)]) b [TS ({data:=#[108]}),TI ((cntK r 1 (i+1):Nat):Int),TI 0,TI 0,TI 0,TI 0,TI 0,TI 0,TI 0,TI 0]=List.map cntP [(b,cntK r 1 (i+1))]] ⟨(by simp[setP,cntP]),trivial⟩),.r [(0,X (Xn ((i:Int)+1)))]] [(0,0),(40,40),(56,56),(81,81)] (ih4 ((i+1),(o.set i (labN (cntK r 1 (i+1)))),[(b,cntK r 1 (i+1))],([]++[b])) ?_ ?_)
    ·
     refine⟨by omega,?_,.inr ⟨b,rfl,rfl⟩⟩
     rw[I4.2.1]
     exact set_fill (by rw[labsL_len]) (by omega) (by rw[labsL_at (by omega),labR,if_pos hr1])
    ·
     ((try dsimp only);omega)
   ·
    have hz1:(getA ((l.getD i default)).fin oLv 0).size≤1048576:=by rw[hq];exact num_sz _ _
    have hz2:(getA ((l.getD i default)).fin oSt 0).size≤1048576:=by rw[hq];exact num_sz _ _
    obtain⟨n1,n2,n3⟩:=lv_num hr1 0 8
    obtain⟨-,-,n4⟩:=lv_num hr1 0 9999
    refine .back [.le (.er 81 (List.map ptrT bs) (List.map ptrT [b]) (by rw[hbs])),.le (.eq 5 (.row 81 bs.length) (.row 81 1) (.of_eq (by rw[hbs]<;>rfl))),.le (.pe 56 (List.map cntP q) (List.map cntP [(b,cntK r 1 i)]) (by rw[hq0])),.r [],.u,.r [],.t,.r [(0,X (Xp ptrT [b] 0)),(1,X (Xe ptrT [b] 0))],.le (.eq 12 (.t (TP ([b].getD 0 default))) (.t (TP b)) (.of_eq rfl)),.le (.pout 56 12 [TS ({data:=#[108]}),TI ((cntK r 1 i:Nat):Int),TI 0,TI 0,TI 0,TI 0,TI 0,TI 0,TI 0,TI 0] [lookP (List.map cntP [(b,cntK r 1 i)]) b=some [TS ({data:=#[108]}),TI ((cntK r 1 i:Nat):Int),TI 0,TI 0,TI 0,TI 0,TI 0,TI 0,TI 0,TI 0]] ⟨(by simp[lookP,cntP]),trivial⟩),.r [(5,X (Xbv (seq ({data:=#[108]}) ({data:=#[108]})) true) (by decide+kernel))],.t,.r [],.r [],.u,.r [],.f,.r [],.f,.r [(2,X (Xc0 (fc_number (((l.getD i default)).fin) ({data:=#[108,101,118,101,108]}) 0 8 (by assumption)) X0))],.le (.eq 14 (VB (numK (getA (((l.getD i default)).fin) ({data:=#[108,101,118,101,108]}) 0) 0 8)) (VB false) (.of_eq (by rw[hq,n1]))),.r [],.t,.r [],.r [(2,X (Xc0 (fc_number (((l.getD i default)).fin) ({data:=#[115,116,97,114,116]}) 0 9999 (by assumption)) X0))],.le (.eq 15 (VI (numV (getA (((l.getD i default)).fin) ({data:=#[115,116,97,114,116]}) 0))) (VI 0) (.of_eq (by rw[hq,n2]))),.le (.eq 16 (VB (numK (getA (((l.getD i default)).fin) ({data:=#[115,116,97,114,116]}) 0) 0 9999)) (VB false) (.of_eq (by rw[hq,n4]))),.r [(4,X (Xc3 539 [(0,250)] (fc_next0 ({data:=#[108]}) ((cntK r 1 i:Nat):Int) 0 0 0 0 0 0 0 0 0 (by omega)) X0))],.le (.eb 250 1 (VI (((cntK r 1 i:Nat):Int)+1)) (VI ((cntK r 1 (i+1):Nat):Int)) (by rw[hc1];rfl)),.r [(5,X (Xc1 587 (fc_given0 ({data:=#[108]}) ({data:=#[108,105,115,116]})) X0)),(7,X (Xc4 [(0,250)] (fc_label [] ({data:=#[108]}) (cntK r 1 (i+1)) 0 0 0 0 0 0 0 0 (by omega) rfl) X0)),(8,X (Xpn l.length strT o (i:Int))),(9,X (Xsn l.length 1 strT 40 o i (labN (cntK r 1 (i+1)))))],.le (.pback 56 (List.map cntP [(b,cntK r 1 (i+1))]) [setP (List.map cntP [(b,cntK r 1 i)]) b [TS ({data:=#[108]}),TI ((cntK r 1 (i+1):Nat):Int),TI 0,TI 0,TI 0,TI 0,TI 0,TI 0,TI 0,TI 0]=List.map cntP [(b,cntK r 1 (i+1))]] ⟨(by simp[setP,cntP]),trivial⟩),.r [(0,X (Xn ((i:Int)+1)))]] [(0,0),(40,40),(56,56),(81,81)] (ih4 ((i+1),(o.set i (labN (cntK r 1 (i+1)))),[(b,cntK r 1 (i+1))],[b]) ?_ ?_)
    ·
     refine⟨by omega,?_,.inr ⟨b,rfl,rfl⟩⟩
     rw[I4.2.1]
     exact set_fill (by rw[labsL_len]) (by omega) (by rw[labsL_at (by omega),labR,if_pos hr1])
    ·
     ((try dsimp only);omega)
 ·
  have e1:((labsL r l.length):List ByteArray)=o:=by
   rw[I4.2.1,show i=l.length by omega,Nat.sub_self,List.replicate_zero,List.append_nil,List.take_of_length_le (by rw[labsL_len];omega)]
  exact .finE [.r [],.le (.fr 4 [(l.length:Nat)=(List.map strT o).length] ⟨lm,trivial⟩)] [] (fun z0:List ByteArray=>(VL 1 strT z0,[])) _ _ e1
end Go.Ch
end
section
set_option linter.unusedVariables false
set_option linter.unusedSimpArgs false
set_option maxRecDepth 100000
set_option maxHeartbeats 4000000
open Go Go.Proofs Go.Ab
namespace Go.Ch
theorem fc_heads(l:List Par)(r:Nat→Int)(hl:l.length≤90)(hr:∀i,i<l.length→(l.getD i default).fin=attsR (r i)∧((l.getD i default).elems=[aE]∨(l.getD i default).elems=[])):FC Tryz.prog 61 [VL 3 parT l] (app emp []) (VL 4 headT (headsL r l l.length)) (app emp []):=by
 refine .go Tryz.f61 ?_
 refine .len 0 (fun hl0=> ?_)
 refine .loop (α:=Nat×Int×(List Head)) [.r [],.r [],.r [],.r [(1,X (Xl parT l))],.le (.nR 3 4)] 49 (fun(i,m,o)=>([(3,.row 48 o.length),(4,.ptr 16 0),(11,VL 3 parT l),(12,VI (l.length:Int)),(13,VI (i:Int))],[(16,.box [VS ({data:=#[]}),VI m,VI 0,VI 0,VI 0,VI 0,VI 0,VI 0,VI 0,VI 0]),(48,OR 4 headT o)])) (fun(i,m,o)=>i≤l.length∧o=headsL r l i∧m=(cntK r 2 i:Int)) (fun(i,m,o)=>l.length-i) (0,0,[]) ?_ ?_
 ·
  exact⟨by omega,rfl,rfl⟩
 rintro⟨i,m,o⟩ I4 ih4
 try dsimp only at I4
 have hcl:=cntK_le r 2 i
 have ol:o.length≤i:=by rw[I4.2.1,headsL_len];exact hcl
 refine .bp [.r []] (decide ((i:Int)< (l.length:Int))) (fun h4=> ?_) (fun h4=> ?_)
 ·
  obtain⟨hq,he⟩:=hr i (by omega)
  have hz:(getA ((l.getD i default)).fin oHe 0).size≤1048576:=by rw[hq];exact num_sz _ _
  refine .bp [.r [(1,X (Xi parT l (i:Int)))],.r [(2,X (Xc0 (fc_number (((l.getD i default)).fin) ({data:=#[104,101,97,100]}) 1 6 (by assumption)) X0))],.r []] (!(numK (getA (((l.getD i default)).fin) ({data:=#[104,101,97,100]}) 0) 1 6)) (fun h7=> ?_) (fun h7=> ?_)
  ·
   refine .back [.r [(0,X (Xn ((i:Int)+1)))]] [(16,16),(48,48)] (ih4 ((i+1),m,o) ?_ ?_)
   ·
    rw[hq,hd_num,decide_eq_false_iff_not] at h7
    refine⟨by omega,?_,?_⟩
    ·rw[headsL_no h7];exact I4.2.1
    ·rw[cntK,if_neg h7];exact I4.2.2
   ·
    ((try dsimp only);omega)
  ·
   have hr2:r i=2:=by rw[hq,hd_num,decide_eq_true_eq] at h7;exact h7
   have hsz:=itoa_sz (z:=m+1) ⟨by omega,by omega⟩
   refine .back [.le (.eq 7 (VI (numV (getA (((l.getD i default)).fin) ({data:=#[104,101,97,100]}) 0))) (VI 1) (.of_eq (by rw[hq,hd_one hr2]))),.r [(2,X (Xc3 201 [(0,16)] (fc_next0 ({data:=#[]}) m 0 0 0 0 0 0 0 0 0 (by omega)) X0))],.r [],.r [],.u,.r [],.t,.r [],.r [],.f,.r [(3,X (Xa (Xc ((0:Int)≤0)) (Xc (0< ((9:Nat):Int))))),(5,X (Xc0 (fc_itoa (m+1) (by omega)) X0)),(6,X (Xc ((((({data:=#[]}:ByteArray)).size+((itoaB (m+1))).size:Nat):Int)≤IntKind.i64.max)) (w_add hsz))],.r [],.u,.r [],.f,.r [(6,X (Xc0 (fc_chars (((l.getD i default)).elems) (by assumption)) X0)),(9,X (rowC headT [({par:=(i:Int),level:=1,label:=(({data:=#[]}:ByteArray)++(itoaB (m+1))),text:=(if(((l.getD i default)).elems)=[] then {data:=#[]} else {data:=#[97]})}:Head)] (Xap 4 headT 48 o [({par:=(i:Int),level:=1,label:=(({data:=#[]}:ByteArray)++(itoaB (m+1))),text:=(if(((l.getD i default)).elems)=[] then {data:=#[]} else {data:=#[97]})}:Head)])))],.r [(0,X (Xn ((i:Int)+1)))]] [(16,16),(48,48)] (ih4 ((i+1),(m+1),(o++[({par:=(i:Int),level:=1,label:=(({data:=#[]}:ByteArray)++(itoaB (m+1))),text:=(if(((l.getD i default)).elems)=[] then {data:=#[]} else {data:=#[97]})}:Head)])) ?_ ?_)
   ·
    refine⟨by omega,?_,?_⟩
    ·rw[headsL_yes hr2,I4.2.1,mt_app,I4.2.2,show((cntK r 2 i:Int)+1)=((cntK r 2 (i+1):Nat):Int) by rw[cntK,if_pos hr2];rfl,itoa_nat]
    ·rw[cntK,if_pos hr2,I4.2.2];rfl
   ·
    ((try dsimp only);omega)
 ·
  have e1:((headsL r l l.length):List Head)=o:=by
   rw[I4.2.1,show i=l.length by omega]
  exact .finE [.r [],.le (.fr 2 [(o.length:Nat)=(List.map headT o).length] ⟨lm,trivial⟩)] [] (fun z0:List Head=>(VL 4 headT z0,[])) _ _ e1
end Go.Ch
end
section
set_option linter.unusedVariables false
set_option linter.unusedSimpArgs false
set_option maxRecDepth 100000
set_option maxHeartbeats 4000000
open Go Go.Proofs Go.Ab
namespace Go.Ch
theorem fc_textD(d:Doc)(k:Int)(hV:DocV d)(hk:hasN d.nodes k=true)(ht:hasT (d.nodes.getD (lobN d.nodes k) default).kind=true):FC Tryz.prog 58 [.t (docT d),VI k] (app emp []) (.tup [.t (nodeT (d.nodes.getD (lobN d.nodes k) default)),VI 0]) (app emp []):=by
 refine .go Tryz.f58 ?_
 have hb:=hV.b
 have hs:=hV.srt
 have hl:=hb.len
 obtain⟨hlt,-⟩:=hasN_iff.1 hk
 refine .bp [.r [],.r [(1,X (Xc0 (fc_docCk d (by assumption)) X0))],.r []] ((docE d) !=0) (fun h2=> ?_) (fun h2=> ?_)
 ·
  exfalso
  exact h2 hV.e
 ·
  refine .bp [.r [(2,X (Xc0 (fc_indexY d k (by assumption) (by assumption) (by assumption)) X0))],.r []] (decide ((lobN (d).nodes k:Int)< 0)) (fun h5=> ?_) (fun h5=> ?_)
  ·
   exfalso
   omega
  ·
   refine .bp [.r [(3,X (Xi nodeT d.nodes (lobN (d).nodes k:Int))),(6,X (Xc0 (fc_Texts (((d.nodes.getD (lobN (d).nodes k) default)).kind)) X0))]] (!(hasT (((d.nodes.getD (lobN (d).nodes k) default)).kind))) (fun h7=> ?_) (fun h7=> ?_)
   ·
    exfalso
    rw[ht] at h7;cases h7
   ·
    have e1:((d.nodes.getD (lobN d.nodes k) default):Node)=((d.nodes.getD (lobN (d).nodes k) default)):=by
     first|exact hV.e|exact hV.e.symm|rfl
    exact .finVE [.r [(3,X (Xi nodeT d.nodes (lobN (d).nodes k:Int)))]] [] [] (fun z0:Node=>(.tup [.t (nodeT z0),VI 0],[])) _ _ e1
theorem fc_openO(rs:List Int)(h:rs.length≤40):FC Tryz.prog 51 [.t (docT (docO rs))] (app emp []) (.t (bookT {nodes:=[]})) (app emp []):=by
 have:=fc_open (docO rs) (docO_v (rs:=rs) (by omega))
 rw[sty_O] at this
 exact this
theorem fc_labels(rs:List Int)(hl:rs.length≤40):FC Tryz.prog 27 [.t (docT (docO rs)),VI 2] (app emp []) (.tup [VL 1 strT (labsL (rK rs) (rs.length+1)),VI 0]) (app emp []):=by
 refine .go Tryz.f27 ?_
 have hV:=docO_v (rs:=rs) (by omega)
 have hk2:=has2_O rs
 have hnd:((docO rs).nodes.getD (lobN (docO rs).nodes 2) default)=nT (flW rs):=by rw[lob2_O];rfl
 have ht2:hasT ((docO rs).nodes.getD (lobN (docO rs).nodes 2) default).kind=true:=by rw[hnd];show hasT 1=true;decide
 have hfl:=flW_len rs
 have hfn:(flW rs).length≤1000000:=by omega
 have hv:∀x∈flW rs,seenB x:=fun x hx=>flW_seen hx
 have hE:∀x∈flW rs,endSt [] x.attrs=x.attrs∧x.attrs.length≤1048576:=fun x hx=>by
  refine⟨?_,by have:=(flW_elem hx).2.2.1;omega⟩
  rcases flW_mem hx with rfl| ⟨r,rfl⟩
  ·exact(end_nil 0)
  ·exact end_nil r
 have hpl:((txtK (flW rs) (flW rs).length).1).length≤90:=by rw[txt_all,parsW_len];omega
 have hpr:∀i,i< ((txtK (flW rs) (flW rs).length).1).length→(((txtK (flW rs) (flW rs).length).1).getD i default).fin=attsR (rK rs i)∧((((txtK (flW rs) (flW rs).length).1).getD i default).elems=[aE]∨(((txtK (flW rs) (flW rs).length).1).getD i default).elems=[]):=by
  rw[txt_all,parsW_len]
  exact fun i hi=>parsW_at hi
 have e1:((labsL (rK rs) (rs.length+1)):List ByteArray)=(labsL (rK rs) (((txtK (flW rs) ((flW rs)).length).1)).length):=by
  rw[txt_all,parsW_len]
 exact .finE [.r [],.r [(2,X (Xc1 40 (fc_textD ((docO rs)) 2 (by assumption) (by assumption) (by assumption)) X0))],.r [],.f,.r [(1,X (Xc1 120 (fc_openO rs (by omega)) X0))],.le (.eb 72 3 (VL 3 elemT ((((((docO rs))).nodes.getD (lobN (((docO rs))).nodes 2) default)).flow)) (VL 3 elemT (flW rs)) (by rw[hnd];rfl)),.r [(4,X (Xc1 176 (fc_par (flW rs) (by assumption) (by assumption) (by assumption)) X0)),(5,X (Xc1 184 (fc_lists ((txtK (flW rs) ((flW rs)).length).1) (rK rs) (by assumption) (by assumption)) X0))]] [] (fun z0:List ByteArray=>(.tup [VL 1 strT z0,VI 0],[])) _ _ e1
theorem fc_headings(rs:List Int)(hl:rs.length≤40):FC Tryz.prog 28 [.t (docT (docO rs)),VI 2] (app emp []) (.tup [VL 4 headT (headsL (rK rs) (parsW rs) (rs.length+1)),VI 0]) (app emp []):=by
 refine .go Tryz.f28 ?_
 have hV:=docO_v (rs:=rs) (by omega)
 have hk2:=has2_O rs
 have hnd:((docO rs).nodes.getD (lobN (docO rs).nodes 2) default)=nT (flW rs):=by rw[lob2_O];rfl
 have ht2:hasT ((docO rs).nodes.getD (lobN (docO rs).nodes 2) default).kind=true:=by rw[hnd];show hasT 1=true;decide
 have hfl:=flW_len rs
 have hfn:(flW rs).length≤1000000:=by omega
 have hv:∀x∈flW rs,seenB x:=fun x hx=>flW_seen hx
 have hE:∀x∈flW rs,endSt [] x.attrs=x.attrs∧x.attrs.length≤1048576:=fun x hx=>by
  refine⟨?_,by have:=(flW_elem hx).2.2.1;omega⟩
  rcases flW_mem hx with rfl| ⟨r,rfl⟩
  ·exact(end_nil 0)
  ·exact end_nil r
 have hpl:((txtK (flW rs) (flW rs).length).1).length≤90:=by rw[txt_all,parsW_len];omega
 have hpr:∀i,i< ((txtK (flW rs) (flW rs).length).1).length→(((txtK (flW rs) (flW rs).length).1).getD i default).fin=attsR (rK rs i)∧((((txtK (flW rs) (flW rs).length).1).getD i default).elems=[aE]∨(((txtK (flW rs) (flW rs).length).1).getD i default).elems=[]):=by
  rw[txt_all,parsW_len]
  exact fun i hi=>parsW_at hi
 have e1:((headsL (rK rs) (parsW rs) (rs.length+1)):List Head)=(headsL (rK rs) ((txtK (flW rs) ((flW rs)).length).1) (((txtK (flW rs) ((flW rs)).length).1)).length):=by
  rw[txt_all,parsW_len]
 exact .finE [.r [],.r [(2,X (Xc1 40 (fc_textD ((docO rs)) 2 (by assumption) (by assumption) (by assumption)) X0))],.r [],.f,.le (.eb 72 3 (VL 3 elemT ((((((docO rs))).nodes.getD (lobN (((docO rs))).nodes 2) default)).flow)) (VL 3 elemT (flW rs)) (by rw[hnd];rfl)),.r [(1,X (Xc1 120 (fc_openO rs (by omega)) X0)),(4,X (Xc1 144 (fc_par (flW rs) (by assumption) (by assumption) (by assumption)) X0)),(5,X (Xc1 152 (fc_heads ((txtK (flW rs) ((flW rs)).length).1) (rK rs) (by assumption) (by assumption)) X0))]] [] (fun z0:List Head=>(.tup [VL 4 headT z0,VI 0],[])) _ _ e1
end Go.Ch
end
section
set_option linter.unusedVariables false
set_option linter.unusedSimpArgs false
set_option maxRecDepth 100000
set_option maxHeartbeats 4000000
open Go Go.Proofs Go.Ab
namespace Go.Ch
theorem fc_within(x lo hi:Int)(hl: -1000000000000≤lo∧lo≤hi∧hi≤1000000000000):FC Tryz.prog 25 [VI x,VI lo,VI hi] (app emp []) (VI (withinI x lo hi)) (app emp []):=by
 refine .go Tryz.f25 ?_
 have e1:((withinI x lo hi):Int)=(lo+(((x.tmod ((hi-lo)+1))+((hi-lo)+1)).tmod ((hi-lo)+1))):=by
  rfl
 exact .finE [.r [],.r [(2,X (Xn (hi-lo))),(3,X (Xn ((hi-lo)+1)))],.r [(3,X (Xc ((((hi-lo)+1):Int)≠0))),(5,X (Xn ((x.tmod ((hi-lo)+1))+((hi-lo)+1))) (by have h1:=tmod_bd x (n:=hi-lo+1) (by omega);omega)),(7,X (Xc ((((hi-lo)+1):Int)≠0))),(8,X (Xn (lo+(((x.tmod ((hi-lo)+1))+((hi-lo)+1)).tmod ((hi-lo)+1)))) (by have h1:=withinI_bd x (lo:=lo) (hi:=hi) (by omega);unfold withinI at h1;omega))]] [] (fun z0:Int=>(VI z0,[])) _ _ e1
theorem fc_itoaR(n:Nat)(h:n<100):FC Tryz.prog 26 [VI (n:Int)] (app emp []) (VS (decB n)) (app emp []):=by
 refine .go Tryz.f26 ?_
 refine .bp [.r [],.r [],.r []] (decide ((n:Int)< 0)) (fun h2=> ?_) (fun h2=> ?_)
 ·
  exfalso
  omega
 ·
  refine .loop (α:=Nat×ByteArray) [.r []] 40 (fun(m,o)=>([(0,VI (m:Int)),(3,VS ({data:=#[]})),(4,VS o)],[])) (fun(m,o)=>RI n m o) (fun(m,o)=>m+(if o.size=0 then 1 else 0)) (n,{data:=#[]}) ?_ ?_
  ·
   exact⟨by show 0+n≤100;omega,.inl ⟨rfl,rfl⟩⟩
  rintro⟨m,o⟩ I5 ih5
  replace I5:RI n m o:=I5
  have os:=I5.1
  refine .bp [.r [(4,Xv 1 (!(seq o ({data:=#[]}))) X0),(5,X (Xk' (seq o ({data:=#[]}))))]] (seq o ({data:=#[]})|| ((m:Int) !=0)) (fun h5=> ?_) (fun h5=> ?_)
  ·
   refine .back [.r [(1,X (Xrem (m:Int) 10)),(3,X (Xrem (m:Int) 10)),(4,X (Xn (0- ((m:Int)%10)))),(5,X (Xmax ((m:Int)%10) (0- ((m:Int)%10)))),(6,X (Xn (48+(max ((m:Int)%10) (0- ((m:Int)%10)))))),(7,X (Xcv IntKind.u8 (48+(max ((m:Int)%10) (0- ((m:Int)%10))))) (wrap_u8 (by omega))),(9,X (Xstr 1 [(48+(max ((m:Int)%10) (0- ((m:Int)%10))))] (digB m)) ⟨rfl,(dig_ints m)⟩),(11,X (Xc (((((digB m)).size+(o).size:Nat):Int)≤IntKind.i64.max)) (dig_w (by omega)))],.r [(1,X (Xquo (m:Int) 10))]] [] (ih5 ((m/10),((digB m)++o)) ?_ ?_)
   ·
    exact RI.step I5 (h5.imp id (fun q=>by omega))
   ·
    exact RI.meas I5 (h5.imp id (fun q=>by omega))
  ·
   have e1:((decB n):ByteArray)=(({data:=#[]}:ByteArray)++o):=by
    rw[mt_app]
    exact(RI.stop I5 (by simpa using h5.1) (by have:=h5.2;omega)).symm
   exact .finE [.r [(2,X (Xc ((((({data:=#[]}:ByteArray)).size+(o).size:Nat):Int)≤IntKind.i64.max)) (mt_w (by omega)))]] [] (fun z0:ByteArray=>(VS z0,[])) _ _ e1
theorem fc_firstB:FC Tryz.prog 24 [] (app emp []) (.agg [.bsl 1 2]) (app emp [(0,.box [.bsl 1 2]),(1,.box [VI 1,VI 0,VL 2 attrT [],.row 2 1,VI 0,VI 0,VL 5 cellT [],VL 4 rectT [],VL 8 dopT [],VI 2,VI 1,VL 2 attrT [],.row 3 1,VI 0,VI 0,VL 5 cellT [],VL 4 rectT [],VL 8 dopT []]),(2,OR 3 elemT [({char:=0,ref:=2,attrs:=[]}:Elem)]),(3,OR 3 elemT [({char:=10,ref:=0,attrs:=[]}:Elem)])]):=by
 refine .go Tryz.f24 ?_
 exact .fin [.r [],.r [(0,X (Xf [(2,2)])),(2,X (Xf [(2,2),(6,5),(7,4),(8,8)])),(3,X (Xf [(2,2)])),(5,X (Xf [(2,2),(6,5),(7,4),(8,8)])),(6,X Xbsl)]] [(0,0),(56,1),(16,2),(40,3)]
theorem fc_labelsD(d:Doc)(rs:List Int)(hd:d=docO rs)(hl:rs.length≤40):FC Tryz.prog 27 [.t (docT d),VI 2] (app emp []) (.tup [VL 1 strT (labsL (rK rs) (rs.length+1)),VI 0]) (app emp []):=hd▸fc_labels rs hl
theorem fc_headingsD(d:Doc)(rs:List Int)(hd:d=docO rs)(hl:rs.length≤40):FC Tryz.prog 28 [.t (docT d),VI 2] (app emp []) (.tup [VL 4 headT (headsL (rK rs) (parsW rs) (rs.length+1)),VI 0]) (app emp []):=hd▸fc_headings rs hl
theorem fc_law35(raw:List Int):FC Tryz.prog 6 [VL 1 intT raw] (app emp []) (VB true) (app emp []):=by
 refine .go Tryz.f6 ?_
 refine .len 0 (fun hl0=> ?_)
 refine .loop (α:=Int×Int×Nat×(List Elem)×(List ByteArray)) [.r [],.r [(0,X (Xc0 fc_docs X0))],.f,.r [(0,X (Xc1 24 fc_firstB X0))],.r [],.r [],.r [(2,X (Xa (Xc ((0:Int)≤1)) (Xc ((1:Int)< ((2:Nat):Int)))) ⟨by decide,by decide⟩)],.le (.nB 25 12 3),.r [(1,X (Xl intT raw)),(2,X (Xmin (raw.length:Int) 20))],.le (.eq 23 (VI (min (raw.length:Int) 20)) (VI ((min raw.length 20):Nat)) (.of_eq (by rw[min_cast]))),.le (.nR 4 1)] 146 (fun(n,h,i,fl,w)=>([(0,VL 1 intT raw),(3,.ptr 32 0),(4,.row 145 w.length),(5,VI n),(6,VI h),(23,VI ((min raw.length 20):Nat)),(24,VI (i:Int))],[(25,.box [VI 1,VI 0,VL 2 attrT [],.row 26 1,VI 0,VI 0,VL 5 cellT [],VL 4 rectT [],VL 8 dopT [],VI 2,VI 1,VL 2 attrT [],.row 112 fl.length,VI 0,VI 0,VL 5 cellT [],VL 4 rectT [],VL 8 dopT []]),(26,OR 3 elemT [({char:=0,ref:=2,attrs:=[]}:Elem)]),(32,.box [.bsl 25 2]),(112,OR 3 elemT fl),(145,OR 1 strT w)])) (fun(n,h,i,fl,w)=>i≤(min raw.length 20)∧fl=flR (rsW raw i)∧w=labsL (wI raw) i∧n=(cntK (wI raw) 1 i:Int)∧h=(cntK (wI raw) 2 i:Int)) (fun(n,h,i,fl,w)=>(min raw.length 20)- i) (0,0,0,[],[]) ?_ ?_
 ·
  exact⟨Nat.zero_le _,rfl,rfl,rfl,rfl⟩
 rintro⟨n,h,i,fl,w⟩ I8 ih8
 try dsimp only at I8
 have c1:=cntK_le (wI raw) 1 i
 have c2:=cntK_le (wI raw) 2 i
 have fll:fl.length=2*i:=by rw[I8.2.1,flR_len,rsW_len]
 have wl:w.length=i:=by rw[I8.2.2.1,labsL_len]
 refine .bp [.r []] (decide ((i:Int)< ((min raw.length 20):Nat))) (fun h8=> ?_) (fun h8=> ?_)
 ·
  refine .bp [.r [],.r [(0,X (Xf [(2,2)]))],.r [(2,X (Xi intT raw (i:Int))),(4,X (Xc0 (fc_within (raw.getD i default) 0 2 (by omega)) X0))],.r []] ((withinI (raw.getD i default) 0 2)==1) (fun h13=> ?_) (fun h13=> ?_)
  ·
   have r1:wI raw i=1:=h13
   have e1:cntK (wI raw) 1 (i+1)=cntK (wI raw) 1 i+1:=by rw[cntK,if_pos r1]
   refine .back [.r [(1,X (Xn (n+1)))],.r [],.le (.eq 5 (VI (n+1)) (VI ((cntK (wI raw) 1 (i+1):Nat):Int)) (.of_eq (by rw[I8.2.2.2.1,e1];rfl))),.r [(2,X (Xc0 (fc_itoaR (cntK (wI raw) 1 (i+1)) (by omega)) X0)),(3,X (Xc (((((decB (cntK (wI raw) 1 (i+1)))).size+(({data:=#[46]}:ByteArray)).size:Nat):Int)≤IntKind.i64.max)) (dot_w (by omega))),(5,X (rowC strT [((decB (cntK (wI raw) 1 (i+1)))++({data:=#[46]}:ByteArray))] (Xap 1 strT 145 w [((decB (cntK (wI raw) 1 (i+1)))++({data:=#[46]}:ByteArray))])))],.r [(4,X (Xa (Xc ((0:Int)≤1)) (Xc ((1:Int)< ((2:Nat):Int)))) ⟨by decide,by decide⟩),(7,X (Xf [(2,2)])),(9,X (rowC attrT [({name:={data:=#[108,105,115,116]},val:={data:=#[108]}}:Attr)] X0)),(10,X (rowC elemT [({char:=97,ref:=0,attrs:=[]}:Elem),({char:=10,ref:=0,attrs:=[({name:={data:=#[108,105,115,116]},val:={data:=#[108]}}:Attr)]}:Elem)] (Xap 3 elemT 112 fl [({char:=97,ref:=0,attrs:=[]}:Elem),({char:=10,ref:=0,attrs:=[({name:={data:=#[108,105,115,116]},val:={data:=#[108]}}:Attr)]}:Elem)]))),(11,X (Xa (Xc ((0:Int)≤1)) (Xc ((1:Int)< ((2:Nat):Int)))) ⟨by decide,by decide⟩)],.r [(0,X (Xn ((i:Int)+1)))]] [(25,25),(26,26),(32,32),(112,112),(145,145)] (ih8 (((cntK (wI raw) 1 (i+1):Nat):Int),h,(i+1),(fl++[({char:=97,ref:=0,attrs:=[]}:Elem),({char:=10,ref:=0,attrs:=[({name:={data:=#[108,105,115,116]},val:={data:=#[108]}}:Attr)]}:Elem)]),(w++[((decB (cntK (wI raw) 1 (i+1)))++({data:=#[46]}:ByteArray))])) ?_ ?_)
   ·
    refine⟨by omega,?_,?_,rfl,?_⟩
    ·rw[I8.2.1,rsW_succ,flR_snoc,eE_1 r1];rfl
    ·rw[I8.2.2.1,labsL_succ,labR,if_pos r1,dec_dot]
    ·rw[I8.2.2.2.2,cntK,if_neg (by rw[r1];decide)];rfl
   ·
    ((try dsimp only);omega)
  ·
   refine .bp [.r []] ((withinI (raw.getD i default) 0 2)==2) (fun h17=> ?_) (fun h17=> ?_)
   ·
    refine .back [.r [(1,X (Xn (h+1)))],.r [],.r [(2,X (rowC strT [{data:=#[]}] (Xap 1 strT 145 w [{data:=#[]}])))],.r [(4,X (Xa (Xc ((0:Int)≤1)) (Xc ((1:Int)< ((2:Nat):Int)))) ⟨by decide,by decide⟩),(7,X (Xf [(2,2)])),(9,X (rowC attrT [({name:={data:=#[104,101,97,100]},val:={data:=#[49]}}:Attr)] X0)),(10,X (rowC elemT [({char:=97,ref:=0,attrs:=[]}:Elem),({char:=10,ref:=0,attrs:=[({name:={data:=#[104,101,97,100]},val:={data:=#[49]}}:Attr)]}:Elem)] (Xap 3 elemT 112 fl [({char:=97,ref:=0,attrs:=[]}:Elem),({char:=10,ref:=0,attrs:=[({name:={data:=#[104,101,97,100]},val:={data:=#[49]}}:Attr)]}:Elem)]))),(11,X (Xa (Xc ((0:Int)≤1)) (Xc ((1:Int)< ((2:Nat):Int)))) ⟨by decide,by decide⟩)],.r [(0,X (Xn ((i:Int)+1)))]] [(25,25),(26,26),(32,32),(112,112),(145,145)] (ih8 (n,(h+1),(i+1),(fl++[({char:=97,ref:=0,attrs:=[]}:Elem),({char:=10,ref:=0,attrs:=[({name:={data:=#[104,101,97,100]},val:={data:=#[49]}}:Attr)]}:Elem)]),(w++[{data:=#[]}])) ?_ ?_)
    ·
     have r1:¬wI raw i=1:=h13
     have r2:wI raw i=2:=h17
     refine⟨by omega,?_,?_,?_,?_⟩
     ·rw[I8.2.1,rsW_succ,flR_snoc,eE_2 r2];rfl
     ·rw[I8.2.2.1,labsL_succ,labR,if_neg r1]
     ·rw[I8.2.2.2.1,cntK,if_neg r1];rfl
     ·rw[I8.2.2.2.2,cntK,if_pos r2];rfl
    ·
     ((try dsimp only);omega)
   ·
    refine .back [.r [(2,X (rowC strT [{data:=#[]}] (Xap 1 strT 145 w [{data:=#[]}])))],.r [(4,X (Xa (Xc ((0:Int)≤1)) (Xc ((1:Int)< ((2:Nat):Int)))) ⟨by decide,by decide⟩),(7,X (Xf [(2,2)])),(10,X (rowC elemT [({char:=97,ref:=0,attrs:=[]}:Elem),({char:=10,ref:=0,attrs:=[]}:Elem)] (Xap 3 elemT 112 fl [({char:=97,ref:=0,attrs:=[]}:Elem),({char:=10,ref:=0,attrs:=[]}:Elem)]))),(11,X (Xa (Xc ((0:Int)≤1)) (Xc ((1:Int)< ((2:Nat):Int)))) ⟨by decide,by decide⟩)],.r [(0,X (Xn ((i:Int)+1)))]] [(25,25),(26,26),(32,32),(112,112),(145,145)] (ih8 (n,h,(i+1),(fl++[({char:=97,ref:=0,attrs:=[]}:Elem),({char:=10,ref:=0,attrs:=[]}:Elem)]),(w++[{data:=#[]}])) ?_ ?_)
    ·
     have r1:¬wI raw i=1:=h13
     have r2:¬wI raw i=2:=h17
     refine⟨by omega,?_,?_,?_,?_⟩
     ·rw[I8.2.1,rsW_succ,flR_snoc,eE_0 r1 r2];rfl
     ·rw[I8.2.2.1,labsL_succ,labR,if_neg r1]
     ·rw[I8.2.2.2.1,cntK,if_neg r1];rfl
     ·rw[I8.2.2.2.2,cntK,if_neg r2];rfl
    ·
     ((try dsimp only);omega)
 ·
  have hi:i=(min raw.length 20):=by omega
  have hfw:fl++[({char:=10,ref:=0,attrs:=[({name:={data:=#[104,101,97,100]},val:={data:=#[49]}}:Attr)]}:Elem)]=flW (rsW raw (min raw.length 20)):=by rw[I8.2.1,hi];rfl
  have hll:(labsL (rK (rsW raw (min raw.length 20))) ((rsW raw (min raw.length 20)).length+1)).length=(min raw.length 20)+1:=by rw[labsL_len,rsW_len]
  have hhl:(headsL (rK (rsW raw (min raw.length 20))) (parsW (rsW raw (min raw.length 20))) ((rsW raw (min raw.length 20)).length+1)).length=cntK (wI raw) 2 (min raw.length 20)+1:=by rw[rsW_len,heads_n]
  have hhe:h=(cntK (wI raw) 2 (min raw.length 20):Int):=by rw[I8.2.2.2.2,hi]
  refine .bp [.r [(4,X (Xa (Xc ((0:Int)≤1)) (Xc ((1:Int)< ((2:Nat):Int)))) ⟨by decide,by decide⟩),(10,X (rowC attrT [({name:={data:=#[104,101,97,100]},val:={data:=#[49]}}:Attr)] X0)),(11,X (rowC elemT [({char:=10,ref:=0,attrs:=[({name:={data:=#[104,101,97,100]},val:={data:=#[49]}}:Attr)]}:Elem)] (Xap 3 elemT 112 fl [({char:=10,ref:=0,attrs:=[({name:={data:=#[104,101,97,100]},val:={data:=#[49]}}:Attr)]}:Elem)]))),(12,X (Xa (Xc ((0:Int)≤1)) (Xc ((1:Int)< ((2:Nat):Int)))) ⟨by decide,by decide⟩)],.le (.cb 32 0 true 9 [(1:Nat)=(List.map elemT [({char:=0,ref:=2,attrs:=[]}:Elem)]).length,(((fl++[({char:=10,ref:=0,attrs:=[({name:={data:=#[104,101,97,100]},val:={data:=#[49]}}:Attr)]}:Elem)]).length):Nat)=(List.map elemT (fl++[({char:=10,ref:=0,attrs:=[({name:={data:=#[104,101,97,100]},val:={data:=#[49]}}:Attr)]}:Elem)])).length] ⟨lm,lm,trivial⟩),.r [(1,X (Xc1 283 (fc_labelsD ({nodes:=[({id:=1,kind:=0,attrs:=[],flow:=[({char:=0,ref:=2,attrs:=[]}:Elem)],grid:=({rows:=0,cols:=0,cells:=[],merges:=[]}:Grid),draw:=[]}:Node),({id:=2,kind:=1,attrs:=[],flow:=(fl++[({char:=10,ref:=0,attrs:=[({name:={data:=#[104,101,97,100]},val:={data:=#[49]}}:Attr)]}:Elem)]),grid:=({rows:=0,cols:=0,cells:=[],merges:=[]}:Grid),draw:=[]}:Node)]}:Doc) (rsW raw (min raw.length 20)) (by rw[hfw];rfl) (by rw[rsW_len];omega)) (rowC nodeT [({id:=1,kind:=0,attrs:=[],flow:=[({char:=0,ref:=2,attrs:=[]}:Elem)],grid:=({rows:=0,cols:=0,cells:=[],merges:=[]}:Grid),draw:=[]}:Node),({id:=2,kind:=1,attrs:=[],flow:=(fl++[({char:=10,ref:=0,attrs:=[({name:={data:=#[104,101,97,100]},val:={data:=#[49]}}:Attr)]}:Elem)]),grid:=({rows:=0,cols:=0,cells:=[],merges:=[]}:Grid),draw:=[]}:Node)] X0)))],.r [(1,X (Xc1 339 (fc_headingsD ({nodes:=[({id:=1,kind:=0,attrs:=[],flow:=[({char:=0,ref:=2,attrs:=[]}:Elem)],grid:=({rows:=0,cols:=0,cells:=[],merges:=[]}:Grid),draw:=[]}:Node),({id:=2,kind:=1,attrs:=[],flow:=(fl++[({char:=10,ref:=0,attrs:=[({name:={data:=#[104,101,97,100]},val:={data:=#[49]}}:Attr)]}:Elem)]),grid:=({rows:=0,cols:=0,cells:=[],merges:=[]}:Grid),draw:=[]}:Node)]}:Doc) (rsW raw (min raw.length 20)) (by rw[hfw];rfl) (by rw[rsW_len];omega)) (rowC nodeT [({id:=1,kind:=0,attrs:=[],flow:=[({char:=0,ref:=2,attrs:=[]}:Elem)],grid:=({rows:=0,cols:=0,cells:=[],merges:=[]}:Grid),draw:=[]}:Node),({id:=2,kind:=1,attrs:=[],flow:=(fl++[({char:=10,ref:=0,attrs:=[({name:={data:=#[104,101,97,100]},val:={data:=#[49]}}:Attr)]}:Elem)]),grid:=({rows:=0,cols:=0,cells:=[],merges:=[]}:Grid),draw:=[]}:Node)] X0)))],.r [(4,Xv 1 (!false) X0),(5,X (Xk' false)),(8,Xv 1 (!(false||false)) (Xl strT (labsL (rK (rsW raw (min raw.length 20))) ((rsW raw (min raw.length 20)).length+1)))),(10,Xv 1 (!(false||false)) X0),(11,Xv 1 (!(false||false)) (Xn ((w.length:Int)+1))),(12,Xv 2 (!(false||false)) X0),(13,X (Xk' (false||false))),(16,Xv 1 (!((false||false)|| (((labsL (rK (rsW raw (min raw.length 20))) ((rsW raw (min raw.length 20)).length+1)).length:Int) !=((w.length:Int)+1)))) (Xl headT (headsL (rK (rsW raw (min raw.length 20))) (parsW (rsW raw (min raw.length 20))) ((rsW raw (min raw.length 20)).length+1)))),(18,Xv 1 (!((false||false)|| (((labsL (rK (rsW raw (min raw.length 20))) ((rsW raw (min raw.length 20)).length+1)).length:Int) !=((w.length:Int)+1)))) (Xn (h+1))),(19,Xv 2 (!((false||false)|| (((labsL (rK (rsW raw (min raw.length 20))) ((rsW raw (min raw.length 20)).length+1)).length:Int) !=((w.length:Int)+1)))) X0),(20,X (Xk' ((false||false)|| (((labsL (rK (rsW raw (min raw.length 20))) ((rsW raw (min raw.length 20)).length+1)).length:Int) !=((w.length:Int)+1)))))]] (((false||false)|| (((labsL (rK (rsW raw (min raw.length 20))) ((rsW raw (min raw.length 20)).length+1)).length:Int) !=((w.length:Int)+1)))|| (((headsL (rK (rsW raw (min raw.length 20))) (parsW (rsW raw (min raw.length 20))) ((rsW raw (min raw.length 20)).length+1)).length:Int) !=(h+1))) (fun h26=> ?_) (fun h26=> ?_)
  ·
   exfalso
   rcases h26 with((q|q)|q)|q
   ·cases q
   ·cases q
   ·omega
   ·omega
  ·
   refine .loop (α:=Nat) [.r []] 579 (fun k=>([(4,.row 145 w.length),(6,VI h),(9,VL 1 strT (labsL (rK (rsW raw (min raw.length 20))) ((rsW raw (min raw.length 20)).length+1))),(11,VL 4 headT (headsL (rK (rsW raw (min raw.length 20))) (parsW (rsW raw (min raw.length 20))) ((rsW raw (min raw.length 20)).length+1))),(119,VI (w.length:Int)),(120,VI (k:Int))],[(145,OR 1 strT w)])) (fun k=>k≤w.length) (fun k=>w.length-k) (0:Nat) ?_ ?_
   ·
    exact Nat.zero_le _
   rintro k I29 ih29
   try dsimp only at I29
   refine .bp [.r []] (decide ((k:Int)< (w.length:Int))) (fun h29=> ?_) (fun h29=> ?_)
   ·
    refine .bp [.r [],.r [(2,X (Xi strT (labsL (rK (rsW raw (min raw.length 20))) ((rsW raw (min raw.length 20)).length+1)) (k:Int)) ⟨(by first|omega| (simp;omega)| (simp;done)|assumption),(by omega)⟩),(6,X (Xp strT w (k:Int))),(7,X (Xe strT w k))]] (!(seq ((labsL (rK (rsW raw (min raw.length 20))) ((rsW raw (min raw.length 20)).length+1)).getD k default) (w.getD k default))) (fun h31=> ?_) (fun h31=> ?_)
    ·
     exfalso
     have hkk:(labsL (rK (rsW raw (min raw.length 20))) ((rsW raw (min raw.length 20)).length+1)).getD k default=w.getD k default:=by
      rw[labsL_at (by rw[rsW_len];omega),I8.2.2.1,labsL_at (by omega),lab_eq (by omega)]
     rw[hkk] at h31
     exact absurd (h31.symm.trans (seq_iff.2 rfl)) (by decide)
    ·
     refine .back [.r [(0,X (Xn ((k:Int)+1)))]] [(145,145)] (ih29 ((k+1):Nat) ?_ ?_)
     ·
      show _;(first|omega|with_reducible exact fun h=>h| (intro hq;rw[hq];done)| (intro hq;rw[hq];rfl)| (simp only[List.length_map];done)| (simp only[List.length_map];omega)| (simp;omega)| (simp;done))
     ·
      ((try dsimp only);omega)
   ·
    have e1:(seq ((((headsL (rK (rsW raw (min raw.length 20))) (parsW (rsW raw (min raw.length 20))) ((rsW raw (min raw.length 20)).length+1)).getD (cntK (wI raw) 2 (min raw.length 20)) default)).label) (decB ((cntK (wI raw) 2 (min raw.length 20))+1)):Bool)=true:=by
     rw[rsW_len,heads_last];exact seq_iff.2 rfl
    exact .finE [.le (.eq 6 (VI h) (VI ((cntK (wI raw) 2 (min raw.length 20):Nat):Int)) (.of_eq (by rw[hhe]))),.r [(2,X (Xi headT (headsL (rK (rsW raw (min raw.length 20))) (parsW (rsW raw (min raw.length 20))) ((rsW raw (min raw.length 20)).length+1)) ((cntK (wI raw) 2 (min raw.length 20):Nat):Int)) ⟨(by first|omega| (simp;omega)| (simp;done)|assumption),(by omega)⟩),(6,X (Xn (((cntK (wI raw) 2 (min raw.length 20):Nat):Int)+1))),(7,X (Xc0 (fc_itoaR ((cntK (wI raw) 2 (min raw.length 20))+1) (by omega)) X0))]] [] (fun z0:Bool=>(VB z0,[])) _ _ e1.symm
end Go.Ch
end
section
set_option linter.unusedVariables false
namespace Go.Ab
open Go Go.Proofs.YtfhidobmbgmjfaaGreatDoor
variable {P:Program} {W:World}
def RdM(P:Program)(t:TypeId)(k:Nat){α:Type}(f:α→Tree)(μ:α→Nat):Prop:=
 (∀a,Elt k (f a))∧P.cellsOf t=k∧∀(H:Type) (enc:TypeId×Value→H) (W:World) (fuel:Nat) (cs:List Value) (x:DataW H×List MemPlace),
  DataW.trod enc P W 0 (fun _=>true) true fuel t cs=some x→∃a:α,CellsR W (f a).cells cs∧μ a≤Rows.uptoBulk x.1
theorem bulk_pos{H:Type}(d:DataW H):1≤Rows.uptoBulk d:=by
 cases d with
 |lit l=>cases l<;>simp[Rows.uptoBulk]
 |_=>simp[Rows.uptoBulk]
theorem RdM.int{t:TypeId}{k:IntKind}(ht:P.underlying t=some (.int k))(hc:P.cellsOf t=1):RdM P t 1 (fun z:Int=> .sc (.int k z)) (fun _=>1):=by
 refine⟨fun _=>elt1,hc,fun H enc W fuel cs x h=> ?_⟩
 obtain⟨n,rfl,_,_⟩:=DataW.trod_int ht h
 exact⟨n,cells1 rfl (.sc _ rfl),bulk_pos _⟩
theorem sum_le{α H:Type}{μ:α→Nat}:∀{l:List α} {es:List (DataW H)},l.length=es.length→(∀(i:Nat) (a:α) (d:DataW H),l[i]? =some a→es[i]? =some d→μ a≤Rows.uptoBulk d)→(l.map μ).sum≤Rows.uptoBulkAll es
 | [],es,_,_=>by simp
 |a::l,[],h,_=>by simp at h
 |a::l,d::es,h,hi=>by
  have h0:=hi 0 a d rfl rfl
  have ih:=sum_le (l:=l) (es:=es) (by simpa using h) (fun i a' d' h1 h2=>hi (i+1) a' d' (by simpa using h1) (by simpa using h2))
  simp only[List.map_cons,List.sum_cons,Rows.uptoBulkAll]
  omega
theorem RdM.slice{t e:TypeId}{k:Nat}{α:Type}{f:α→Tree}{μ:α→Nat}(ht:P.underlying t=some (.slice e))(hk:0<k)(hc:P.cellsOf t=1)(he:RdM P e k f μ):RdM P t 1 (fun l:List α=> .lst k (l.map f)) (fun l=>(l.map μ).sum+1):=by
 obtain⟨h1,h2,h3⟩:=he
 refine⟨fun l=>⟨rfl,fun T hT=>by simp[Tree.cells] at hT;subst hT;rfl⟩,hc,fun H enc W fuel cs x h=> ?_⟩
 have hx:∀l:List α,∀x∈l.map f,Elt k x:=fun l x hx=>by
  obtain⟨a,_,rfl⟩:=List.mem_map.1 hx
  exact h1 a
 rcases DataW.trod_slice ht h with⟨rfl,hx0⟩| ⟨a,len,cap,elems,rest,n,_,rfl,hxe,hb,hl,hm,hlen,hel,_,_⟩
 ·refine⟨[],cells1 rfl (.lst k [] none 0 [] hk (fun x hx=>by simp at hx) (Nat.le_refl _) (by simp[maxLen]) (fun h=>absurd rfl h) (by simp) (fun j T u hT=>by simp[flat] at hT)),?_⟩
  exact bulk_pos _
 ·have key:∀i,i<len→∃y:α,(∃cs',cs'.length=k∧(∀r,r<k→W.cell? (a.add (i*k+r))=cs'[r]?)∧CellsR W (f y).cells cs')∧∀d,(elems.map (·.1))[i]? =some d→μ y≤Rows.uptoBulk d:=by
   intro i hi
   have h4:=hel i hi
   have h5:elems[i]? =some elems[i]:=by rw[List.getElem?_eq_getElem (by omega)]
   rw[h5,h2] at h4
   obtain⟨cs',h6,h7⟩:=Option.bind_eq_some_iff.1 h4
   obtain⟨q1,q2,q3⟩:=World.cells?_some h6
   obtain⟨y,hy,hμ⟩:=h3 H enc W n cs' _ h7
   refine⟨y,⟨cs',q2,fun r hr=> ?_,hy⟩,fun d hd=> ?_⟩
   ·rw[←q3 r hr]
    rw[Addr.add_add]
   ·rw[List.getElem?_map,h5] at hd
    simp only[Option.map_some,Option.some.injEq] at hd
    subst hd;exact hμ
  obtain⟨l,hl1,hl2'⟩:=list_of len _ key
  have hl2:=fun i a h=>(hl2' i a h).1
  have hspot:l≠[]→∃u,W.cell? a=some u:=by
   intro hne
   have h0:0<len:=by rw[←hl1];exact List.length_pos_iff.2 hne
   obtain⟨cs',c1,c2,c3⟩:=hl2 0 l[0] (by rw[List.getElem?_eq_getElem (by omega)])
   have:=c2 0 hk
   simp only[Nat.zero_mul,Nat.add_zero] at this
   rw[List.getElem?_eq_getElem (by omega)] at this
   have e:a.add 0=a:=by simp[Addr.add]
   rw[e] at this
   exact⟨_,this⟩
  refine⟨l,cells1 rfl ?_,?_⟩
  rotate_left
  ·rw[hxe]
   simp only[Rows.uptoBulk]
   have:=sum_le (μ:=μ) (l:=l) (es:=elems.map (·.1)) (by simp[hl1,hlen]) (fun i y d h1 h2=>(hl2' i y h1).2 d h2)
   omega
  have hget:∀j,j<len*k→∃u,W.cell? (a.add j)=some u∧∀T,(flat (l.map f))[j]? =some T→TRep W (fun b=>b<W.heap.size) T u:=by
   intro j hj
   have hi:j/k<len:=Nat.div_lt_of_lt_mul (by rw[Nat.mul_comm];exact hj)
   have hr:j%k<k:=Nat.mod_lt _ hk
   have hji:j=j/k*k+j%k:=by rw[Nat.mul_comm];exact(Nat.div_add_mod j k).symm
   obtain⟨cs',c1,c2,c3⟩:=hl2 (j/k) l[j/k] (by rw[List.getElem?_eq_getElem (by omega)])
   have c4:=c2 (j%k) hr
   rw[←hji,List.getElem?_eq_getElem (by omega)] at c4
   refine⟨_,c4,fun T hT=> ?_⟩
   rw[hji,flat_get (hx l) (i:=j/k) (X:=f l[j/k]) (by simp[List.getElem?_eq_getElem (show j/k<l.length by omega)]) hr] at hT
   exact c3.2 (j%k) T _ hT (by rw[List.getElem?_eq_getElem (by omega)])
  obtain⟨us,hu1,hu2⟩:=list_of (len*k) _ hget
  have hlm:(l.map f).length=len:=by simp[hl1]
  have:=TRep.lst (w:=W) (ok:=fun b=>b<W.heap.size) k (l.map f) (some a) cap us hk (hx l) (by omega) hm (fun hne=> ?_) (by rw[hlm];exact hu1) (fun j T u hT hu=>(hu2 j u hu).2 T hT)
  ·rw[hlm] at this;exact this
  ·obtain⟨u,hu⟩:=hspot (fun e=>hne (by rw[e];rfl))
   have hs:=World.cell?_spot hu
   obtain⟨b,o,sp⟩:=a
   simp only at hs
   subst hs
   refine⟨b,o,rfl,?_,fun j u hj=> ?_⟩
   ·simp only[World.cell?] at hu
    by_cases hb:b<W.heap.size
    ·exact hb
    ·rw[Array.getElem?_eq_none (by omega)] at hu;simp at hu
   ·have:=(hu2 j u hj).1
    rw[add_lit'] at this
    exact this
theorem RdM.arg{t:TypeId}{α:Type}{f:α→Tree}{μ:α→Nat}(h:RdM P t 1 f μ)(h1:∀a,(f a).isCell=true){H:Type}{enc:TypeId×Value→H}{v:Value}{d:DataW H}{ps:List MemPlace}(hd:DataW.Trod enc P W 0 (fun _=>true) true t v d ps)(hv:v.cells.toList=[v]):
 ∃a,TRep W (fun b=>b<W.heap.size) (f a) v∧μ a≤Rows.uptoBulk d:=by
 obtain⟨fuel,hf⟩:=hd
 obtain⟨a,⟨c1,c2⟩,c3⟩:=h.2.2 H enc W fuel _ _ hf
 refine⟨a,c2 0 _ _ ?_ (by rw[hv];rfl),c3⟩
 cases hfa:f a with
 |agg cs=>have:=h1 a;rw[hfa] at this;cases this
 |sc v=>rfl
 |lst k xs=>rfl
end Go.Ab
end
section
set_option linter.unusedVariables false
set_option linter.unusedSimpArgs false
namespace Go.Proofs.YtfhidobmbgmjfaaGreatDoor.frame
open Go Go.Proofs
def chs(l:List Nat):List Char:=l.map Char.ofNat
def w1:List Char:=chs [104,97,114,110,101,115,115]
def w2:List Char:=chs [97,52,54,49,53,57,48,50,49,98,57,102,50,97,97,55,102,50,48,50,101,102,98,50,101,97,51,56,54,53,52,99,54,97,98,55,50,51,57,98,54,54,98,55,56,48,52,102,51,52,48,51,52,100,102,55,52,55,100,98,57,57,55,98]
def w3:List Char:=chs [99,117,116]
def sp:Char:=Char.ofNat 32
theorem ws_sp(r:List Char):wordsSigns (sp::r)=[]::wordsSigns r:=rfl
theorem ws_c(c:Char)(r:List Char)(h:c≠sp):wordsSigns (c::r)=match wordsSigns r with
 |w::ws=>(c::w)::ws
 | []=>[[c]]:=by
 rw[wordsSigns.eq_def]
 split
 ·rename_i e;cases e
 ·rename_i e;simp only[List.cons.injEq] at e;exact absurd e.1 h
 ·rename_i e;simp only[List.cons.injEq] at e;obtain⟨rfl,rfl⟩:=e;rfl
theorem ws_app:∀(a:List Char),(a.all fun c=>c !=sp)=true→∀r,wordsSigns (a++sp::r)=a::wordsSigns r
 | [],_,r=>ws_sp r
 |c::a,h,r=>by
  simp only[List.all_cons,Bool.and_eq_true,bne_iff_ne] at h
  rw[List.cons_append,ws_c _ _ h.1,ws_app a h.2 r]
theorem tl(l:List Char):(String.ofList l).toList=l:=String.toList_ofList
theorem k1:("harness" :String).toList=w1:=tl w1
theorem k2:("cut" :String).toList=w3:=tl w3
theorem k3:("gc" :String).toList=chs [103,99]:=tl (chs [103,99])
theorem k4:("spec" :String).toList=chs [115,112,101,99]:=tl (chs [115,112,101,99])
theorem k5:("carried" :String).toList=chs [99,97,114,114,105,101,100]:=tl (chs [99,97,114,114,105,101,100])
theorem lifts(r:List (List Char)):stripLifts liftWords (w3::r)=([],w3::r):=by
 unfold liftWords
 simp only[stripLifts]
 have key:∀l:List Nat,(w3==chs l)=false→∀(s:String),s=String.ofList (chs l)→(w3==s.toList)=false:=fun l h s e=>by rw[e,tl];exact h
 rw[if_neg (by rw[key [102,105,110,97,108,115] (by kernel_rfl) "finals" rfl];decide)]
 rw[if_neg (by rw[key [114,101,102,108,101,99,116,114,111,119,115] (by kernel_rfl) "reflectrows" rfl];decide)]
 rw[if_neg (by rw[key [108,101,97,110,114,111,119,115] (by kernel_rfl) "leanrows" rfl];decide)]
 rw[if_neg (by rw[key [111,110,101,98,117,105,108,100] (by kernel_rfl) "onebuild" rfl];decide)]
 rw[if_neg (by rw[key [112,117,98,108,105,99,115,117,109,115] (by kernel_rfl) "publicsums" rfl];decide)]
 rw[if_neg (by rw[key [101,113,103,117,97,114,100] (by kernel_rfl) "eqguard" rfl];decide)]
 rw[if_neg (by rw[key [111,119,110,117,110,115,97,102,101] (by kernel_rfl) "ownunsafe" rfl];decide)]
 rw[if_neg (by rw[key [108,105,98,98,101,115,105,100,101] (by kernel_rfl) "libbeside" rfl];decide)]
 rw[if_neg (by rw[key [111,119,110,98,101,115,105,100,101] (by kernel_rfl) "ownbeside" rfl];decide)]
 rw[if_neg (by rw[key [114,101,102,108,98,101,115,105,100,101] (by kernel_rfl) "reflbeside" rfl];decide)]
 rw[if_neg (by rw[key [97,108,105,97,115,101,115] (by kernel_rfl) "aliases" rfl];decide)]
 rw[if_neg (by rw[key [97,102,116,101,114,105,110,105,116] (by kernel_rfl) "afterinit" rfl];decide)]
 rw[if_neg (by rw[key [99,114,99,112,108,97,105,110] (by kernel_rfl) "crcplain" rfl];decide)]
 rw[if_neg (by rw[key [114,111,97,100,117,110,115,97,102,101] (by kernel_rfl) "roadunsafe" rfl];decide)]
 rw[if_neg (by rw[key [102,109,116,104,97,110,100,111,110] (by kernel_rfl) "fmthandon" rfl];decide)]
theorem words{P:Program}{rest:List Char}(h:P.initOrder.toList=w1++sp::(w2++sp::(w3++sp::rest))):behindMainWord (wordsSigns P.initOrder.toList)=w3::wordsSigns rest:=by
 rw[h,ws_app w1 (by kernel_rfl),ws_app w2 (by kernel_rfl),ws_app w3 (by kernel_rfl)]
 unfold behindMainWord
 rw[k1]
 exact if_pos (by kernel_rfl)
theorem may{P:Program}{rest:List Char}(h:P.initOrder.toList=w1++sp::(w2++sp::(w3++sp::rest)))(hl:P.laysLater=false)(hb:P.bearsReflect=false)(hd:P.doorFits []=true):P.mayEnter=true:=by
 unfold Program.mayEnter
 rw[words h]
 simp only[lifts,k2,k3,k4,k5,hl,hb,hd]
 have h1:(w3==chs [103,99])=false:=by kernel_rfl
 have h2:(w3==chs [115,112,101,99])=false:=by kernel_rfl
 have h3:(w3==chs [99,97,114,114,105,101,100])=false:=by kernel_rfl
 rw[h1,h2,h3]
 simp
theorem fin{P:Program}{rest:List Char}(h:P.initOrder.toList=w1++sp::(w2++sp::(w3++sp::rest))):P.liftsFinal=false:=by
 unfold Program.liftsFinal Program.headLifts
 rw[words h]
 simp only[lifts,k2,k5]
 have h3:(w3==chs [99,97,114,114,105,101,100])=false:=by kernel_rfl
 simp[h3]
theorem mk{P:Program}{rest:List Char}(h:P.initOrder.toList=w1++sp::(w2++sp::(w3++sp::rest))):P.make=some .cut:=by
 unfold Program.make
 rw[words h]
 simp only[k2,k3,k4,k5]
 have h1:(w3==chs [103,99])=false:=by kernel_rfl
 have h2:(w3==chs [115,112,101,99])=false:=by kernel_rfl
 rw[h1,h2]
 simp
theorem head:Tryz.pinned.checked.prog.initOrder=String.ofList (w1++sp::(w2++sp::(w3++sp::chs [97,116,32,99,104,97,110,99,101,114,121,47,99,104,97,110,99,101,114,121,107,101,101,112,49,46,68,111,99,84,114,101,101,80,97,114,101,110,116,115,32,99,104,97,110,99,101,114,121,47,99,104,97,110,99,101,114,121,107,101,101,112,49,46,68,111,99,67,111,108,108,101,99,116,75,101,101,112,115,32,99,104,97,110,99,101,114,121,47,99,104,97,110,99,101,114,121,107,101,101,112,49,46,83,116,121,108,101,68,105,114,101,99,116,67,111,117,110,116,115,32,99,104,97,110,99,101,114,121,47,99,104,97,110,99,101,114,121,107,101,101,112,49,46,79,117,116,108,105,110,101,67,111,117,110,116,115,79,110]))):=by kernel_rfl
set_option maxRecDepth 100000 in
theorem headL:Tryz.pinned.checked.prog.initOrder.toList=w1++sp::(w2++sp::(w3++sp::chs [97,116,32,99,104,97,110,99,101,114,121,47,99,104,97,110,99,101,114,121,107,101,101,112,49,46,68,111,99,84,114,101,101,80,97,114,101,110,116,115,32,99,104,97,110,99,101,114,121,47,99,104,97,110,99,101,114,121,107,101,101,112,49,46,68,111,99,67,111,108,108,101,99,116,75,101,101,112,115,32,99,104,97,110,99,101,114,121,47,99,104,97,110,99,101,114,121,107,101,101,112,49,46,83,116,121,108,101,68,105,114,101,99,116,67,111,117,110,116,115,32,99,104,97,110,99,101,114,121,47,99,104,97,110,99,101,114,121,107,101,101,112,49,46,79,117,116,108,105,110,101,67,111,117,110,116,115,79,110])):=by rw[head,tl]
theorem later:Tryz.pinned.checked.prog.laysLater=false:=by kernel_rfl
theorem refl:Tryz.pinned.checked.prog.bearsReflect=false:=by kernel_rfl
theorem door:Tryz.pinned.checked.prog.doorFits []=true:=by kernel_rfl
theorem mayEnter:Tryz.pinned.checked.prog.mayEnter=true:=may headL later refl door
theorem made:Tryz.pinned.checked.prog.make=some .cut:=mk headL
theorem laid:laidOutB Tryz.pinned.checked.prog=true:=by kernel_rfl
theorem rowed:mapsRowed Tryz.pinned.checked.prog=true:=by kernel_rfl
theorem noStops:Tryz.pinned.checked.prog.stops=[]:=by kernel_rfl
theorem noKnobs:Tryz.pinned.checked.prog.stopKnobs=[]:=by kernel_rfl
theorem heard:Tryz.pinned.checked.prog.stopsHeard=true:=by kernel_rfl
theorem keys:Tryz.pinned.checked.prog.plainKeys=true:=by kernel_rfl
theorem liftsNo:Tryz.pinned.checked.prog.liftsFinal=false:=fin headL
end Go.Proofs.YtfhidobmbgmjfaaGreatDoor.frame
end
section
namespace Go.Proofs
open Go.Shelf
def Tryz.lays260_ren:Go.Shelf.Ren:=⟨fun|260=>205|n=>n,fun|9=>9|21=>21|3=>3|4=>4|5=>5|119=>242|0=>0|46=>194|139=>245|138=>244|n=>n,fun|3=>0|4=>1|n=>n⟩
theorem Tryz.lays260:Go.Proofs.Lays.n260 Tryz.prog Tryz.lays260_ren:={
 mixed:=by kernel_rfl
 f260:=Tryz.func205.trans (congrArg some (by kernel_rfl))
 t0:=Tryz.underlying0
 a0:=Tryz.isAgg0
 z0:=Tryz.sizeOf0
 v0:=Tryz.zeroValue0
 t3:=Tryz.underlying3
 a3:=Tryz.isAgg3
 z3:=Tryz.sizeOf3
 v3:=Tryz.zeroValue3
 t4:=Tryz.underlying4
 a4:=Tryz.isAgg4
 z4:=Tryz.sizeOf4
 v4:=Tryz.zeroValue4
 t5:=Tryz.underlying5
 a5:=Tryz.isAgg5
 z5:=Tryz.sizeOf5
 v5:=Tryz.zeroValue5
 t9:=Tryz.underlying9
 a9:=Tryz.isAgg9
 z9:=Tryz.sizeOf9
 v9:=Tryz.zeroValue9
 t21:=Tryz.underlying21
 a21:=Tryz.isAgg21
 z21:=Tryz.sizeOf21
 v21:=Tryz.zeroValue21
 t46:=Tryz.underlying194
 a46:=Tryz.isAgg194
 z46:=Tryz.sizeOf194
 v46:=Tryz.zeroValue194
 t119:=Tryz.underlying242
 a119:=Tryz.isAgg242
 z119:=Tryz.sizeOf242
 t138:=Tryz.underlying244
 a138:=Tryz.isAgg244
 z138:=Tryz.sizeOf244
 v138:=Tryz.zeroValue244
 t139:=Tryz.underlying245
 a139:=Tryz.isAgg245
 z139:=Tryz.sizeOf245
 v139:=Tryz.zeroValue245
 g3:=by kernel_rfl
 g4:=by kernel_rfl}
end Go.Proofs
end
