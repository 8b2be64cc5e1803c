/- Parts of the proof: ChDelta4, DeltaFold, DeltaUndo, DeltaAct, ChDelta7, ChAxis, DeltaChange, DeltaLaws, DeltaJoin, DeltaPair, ChDelta9, ChDelta10, DeltaRead, DeltaRuns, DeltaJD, DeltaJF, ChDelta11, EdCheck, EdCheck2, DeltaPD, DeltaTidy, DeltaTB, DeltaTL, TidyU, EditTrk, EditSel. -/
import Derived.Test.YtlgmgpnjkadhfaaGreatDoorM1
import Derived.Test.YtlgmgpnjkadhfaaGreatDoorM2
import Derived.Test.YtlgmgpnjkadhfaaGreatDoorM3
import Derived.Test.YtlgmgpnjkadhfaaGreatDoorM4
import Derived.Test.YtlgmgpnjkadhfaaGreatDoorM5
import Derived.Test.YtlgmgpnjkadhfaaGreatDoorM6
section
set_option linter.unusedVariables false
set_option linter.unusedSimpArgs false
set_option maxRecDepth 100000
set_option maxHeartbeats 4000000
open Go Go.Proofs Go.Ab
namespace Go.Ch
theorem z55(o:List DStep)(a:List Elem)(c:Int)(ho:o.length≤100000000000):FC Tryz.prog 150 [.ptr 0 0] (app emp [(0,.box [.row 1 o.length,.row 2 a.length,VI c]),(1,OR 4 z0c o),(2,OR 3 elemT a)]) (.tup []) (app emp [(0,.box [.row 1 ((z0a ⟨o,a,c⟩).length),.row 3 0,VI 0]),(1,OR 4 z0c (z0a ⟨o,a,c⟩)),(2,OF 3 elemT a),(3,OR 3 elemT [])]):=by
 refine .go Tryz.f150 ?_
 refine .bp [.r []] (decide ((a.length:Int)> 0)) (fun h0=> ?_) (fun h0=> ?_)
 ·
  refine .bp [.r [(9,X (Xf [(2,2)])),(10,X (rowC elemT a X0)),(11,X (rowC z0c [({kind:=1,n:=0,attrs:=[],elems:=a}:DStep)] (Xap 4 z0c 1 o [({kind:=1,n:=0,attrs:=[],elems:=a}:DStep)])))],.r []] (decide (c>0)) (fun h2=> ?_) (fun h2=> ?_)
  ·
   have e1:((z0a ⟨o,a,c⟩).length:Nat)=((o++[({kind:=1,n:=0,attrs:=[],elems:=a}:DStep)])++[({kind:=2,n:=c,attrs:=[],elems:=[]}:DStep)]).length:=by
    unfold z0a;simp only;(repeat (first|rw[if_pos (by omega)]|rw[if_neg (by omega)]));try simp
   have e2:((z0a ⟨o,a,c⟩):List DStep)=((o++[({kind:=1,n:=0,attrs:=[],elems:=a}:DStep)])++[({kind:=2,n:=c,attrs:=[],elems:=[]}:DStep)]):=by
    unfold z0a;simp only;(repeat (first|rw[if_pos (by omega)]|rw[if_neg (by omega)]));try simp
   exact .finE [.r [(9,X (Xf [(2,2),(3,3)])),(11,X (rowC z0c [({kind:=2,n:=c,attrs:=[],elems:=[]}:DStep)] (Xap 4 z0c 1 (o++[({kind:=1,n:=0,attrs:=[],elems:=a}:DStep)]) [({kind:=2,n:=c,attrs:=[],elems:=[]}:DStep)])))],.r [],.le (.nB 0 1 3)] [(0,0),(1,1),(2,2),(395,3)] (fun((z0,z1):Nat×(List DStep))=>(.tup [],[(0,.box [.row 1 z0,.row 3 0,VI 0]),(1,OR 4 z0c z1),(2,OF 3 elemT a),(3,OR 3 elemT [])])) _ _ (pr e1 e2)
  ·
   have e3:((z0a ⟨o,a,c⟩).length:Nat)=(o++[({kind:=1,n:=0,attrs:=[],elems:=a}:DStep)]).length:=by
    unfold z0a;simp only;(repeat (first|rw[if_pos (by omega)]|rw[if_neg (by omega)]));try simp
   have e4:((z0a ⟨o,a,c⟩):List DStep)=(o++[({kind:=1,n:=0,attrs:=[],elems:=a}:DStep)]):=by
    unfold z0a;simp only;(repeat (first|rw[if_pos (by omega)]|rw[if_neg (by omega)]));try simp
   exact .finE [.r [],.le (.nB 0 1 3)] [(0,0),(1,1),(2,2),(275,3)] (fun((z0,z1):Nat×(List DStep))=>(.tup [],[(0,.box [.row 1 z0,.row 3 0,VI 0]),(1,OR 4 z0c z1),(2,OF 3 elemT a),(3,OR 3 elemT [])])) _ _ (pr e3 e4)
 ·
  refine .bp [.r []] (decide (c>0)) (fun h2=> ?_) (fun h2=> ?_)
  ·
   have e5:((z0a ⟨o,a,c⟩).length:Nat)=(o++[({kind:=2,n:=c,attrs:=[],elems:=[]}:DStep)]).length:=by
    unfold z0a;simp only;(repeat (first|rw[if_pos (by omega)]|rw[if_neg (by omega)]));try simp
   have e6:((z0a ⟨o,a,c⟩):List DStep)=(o++[({kind:=2,n:=c,attrs:=[],elems:=[]}:DStep)]):=by
    unfold z0a;simp only;(repeat (first|rw[if_pos (by omega)]|rw[if_neg (by omega)]));try simp
   exact .finE [.r [(9,X (Xf [(2,2),(3,3)])),(11,X (rowC z0c [({kind:=2,n:=c,attrs:=[],elems:=[]}:DStep)] (Xap 4 z0c 1 o [({kind:=2,n:=c,attrs:=[],elems:=[]}:DStep)])))],.r [],.le (.nB 0 1 3),.le (.fz 2)] [(0,0),(1,1),(2,2),(275,3)] (fun((z0,z1):Nat×(List DStep))=>(.tup [],[(0,.box [.row 1 z0,.row 3 0,VI 0]),(1,OR 4 z0c z1),(2,OF 3 elemT a),(3,OR 3 elemT [])])) _ _ (pr e5 e6)
  ·
   have e7:((z0a ⟨o,a,c⟩).length:Nat)=o.length:=by
    unfold z0a;simp only;(repeat (first|rw[if_pos (by omega)]|rw[if_neg (by omega)]));try simp
   have e8:((z0a ⟨o,a,c⟩):List DStep)=o:=by
    unfold z0a;simp only;(repeat (first|rw[if_pos (by omega)]|rw[if_neg (by omega)]));try simp
   exact .finE [.r [],.le (.nB 0 1 3),.le (.fz 2)] [(0,0),(1,1),(2,2),(155,3)] (fun((z0,z1):Nat×(List DStep))=>(.tup [],[(0,.box [.row 1 z0,.row 3 0,VI 0]),(1,OR 4 z0c z1),(2,OF 3 elemT a),(3,OR 3 elemT [])])) _ _ (pr e7 e8)
theorem z2D(o:List DStep)(a:List Elem)(c:Int)(e:List Elem)(hs:AN 400000000000 e)(ho:a.length+e.length≤100000000000):FC Tryz.prog 110 [.ptr 0 0,VL 3 elemT e] (app emp [(0,.box [.row 1 o.length,.row 2 a.length,VI c]),(1,OR 4 z0c o),(2,OR 3 elemT a)]) (.tup []) (app emp [(0,.box [.row 1 o.length,.row 2 ((a++e).length),VI c]),(1,OR 4 z0c o),(2,OR 3 elemT (a++e))]):=by
 refine .go Tryz.f110 ?_
 refine .len 1 (fun hl1=> ?_)
 exact .fin [.r [(6,X (Xc1 51 (y3O e (by omega) (by assumption)) X0)),(7,X (Xap 3 elemT 2 a e))]] [(0,0),(1,1),(2,2)]
theorem kbd{l:List DStep}(h:∀s∈l,0≤s.n∧s.n≤10000000000):∀s∈l,0≤s.n∧s.n≤1000000000000000000:=fun s hs=>by have:=h s hs;omega
theorem z2O(o:List DStep)(a:List Elem)(c:Int)(n:Int)(l:List Attr)(ho:o.length≤100000000000)(hl:l.length≤400000000000)(hn:1≤n∧n≤100000000000)(hk:∀s∈z0a ⟨o,a,c⟩,0≤s.n∧s.n≤1000000000000000000):FC Tryz.prog 111 [.ptr 0 0,VI n,VL 2 attrT l] (app emp [(0,.box [.row 1 o.length,.row 2 a.length,VI c]),(1,OR 4 z0c o),(2,OR 3 elemT a)]) (.tup []) (app emp [(0,.box [.row 1 ((keepD (z0a ⟨o,a,c⟩) n l).length),.row 3 0,VI 0]),(1,OR 4 z0c (keepD (z0a ⟨o,a,c⟩) n l)),(2,OF 3 elemT a),(3,OR 3 elemT [])]):=by
 refine .go Tryz.f111 ?_
 refine .len 2 (fun hl2=> ?_)
 have hfl:=z6R ⟨o,a,c⟩
 simp only at hfl
 refine .bp [.r []] (n==0) (fun h0=> ?_) (fun h0=> ?_)
 ·
  exfalso
  omega
 ·
  have hlast:=fun h:0< (z0a ⟨o,a,c⟩).length=>hk _ (z80 h)
  refine .bp [.r [(1,X (Xc3 27 [(0,0),(1,1),(2,2)] (z55 o a c (by omega)) X0))],.r [(5,X (Xn (((z0a ⟨o,a,c⟩).length:Int)- 1)))],.r [(4,Xv 1 (decide ((((z0a ⟨o,a,c⟩).length:Int)- 1)≥0)) X0),(5,Xv 1 (decide ((((z0a ⟨o,a,c⟩).length:Int)- 1)≥0)) X0),(6,Xv 1 (decide ((((z0a ⟨o,a,c⟩).length:Int)- 1)≥0)) X0),(8,Xv 2 (decide ((((z0a ⟨o,a,c⟩).length:Int)- 1)≥0)) (Xp' z0c 1 (z0a ⟨o,a,c⟩) (((z0a ⟨o,a,c⟩).length:Int)- 1) (((z0a ⟨o,a,c⟩).length)- 1))),(9,Xv 1 (decide ((((z0a ⟨o,a,c⟩).length:Int)- 1)≥0)) X0),(10,Xv 1 (decide ((((z0a ⟨o,a,c⟩).length:Int)- 1)≥0)) (Xe z0c (z0a ⟨o,a,c⟩) (((z0a ⟨o,a,c⟩).length)- 1))),(11,Xv 1 (decide ((((z0a ⟨o,a,c⟩).length:Int)- 1)≥0)) X0),(12,X (Xk (decide ((((z0a ⟨o,a,c⟩).length:Int)- 1)≥0)))),(15,Xv 1 (decide ((((z0a ⟨o,a,c⟩).length:Int)- 1)≥0)&&(((((z0a ⟨o,a,c⟩).getD (((z0a ⟨o,a,c⟩).length)- 1) default)).kind)==0)) X0),(16,Xv 1 (decide ((((z0a ⟨o,a,c⟩).length:Int)- 1)≥0)&&(((((z0a ⟨o,a,c⟩).getD (((z0a ⟨o,a,c⟩).length)- 1) default)).kind)==0)) X0),(17,Xv 1 (decide ((((z0a ⟨o,a,c⟩).length:Int)- 1)≥0)&&(((((z0a ⟨o,a,c⟩).getD (((z0a ⟨o,a,c⟩).length)- 1) default)).kind)==0)) X0),(19,Xv 2 (decide ((((z0a ⟨o,a,c⟩).length:Int)- 1)≥0)&&(((((z0a ⟨o,a,c⟩).getD (((z0a ⟨o,a,c⟩).length)- 1) default)).kind)==0)) (Xp' z0c 1 (z0a ⟨o,a,c⟩) (((z0a ⟨o,a,c⟩).length:Int)- 1) (((z0a ⟨o,a,c⟩).length)- 1))),(20,Xv 1 (decide ((((z0a ⟨o,a,c⟩).length:Int)- 1)≥0)&&(((((z0a ⟨o,a,c⟩).getD (((z0a ⟨o,a,c⟩).length)- 1) default)).kind)==0)) X0),(21,Xv 1 (decide ((((z0a ⟨o,a,c⟩).length:Int)- 1)≥0)&&(((((z0a ⟨o,a,c⟩).getD (((z0a ⟨o,a,c⟩).length)- 1) default)).kind)==0)) (Xe z0c (z0a ⟨o,a,c⟩) (((z0a ⟨o,a,c⟩).length)- 1))),(23,Xv 2 (decide ((((z0a ⟨o,a,c⟩).length:Int)- 1)≥0)&&(((((z0a ⟨o,a,c⟩).getD (((z0a ⟨o,a,c⟩).length)- 1) default)).kind)==0)) (Xc0 (z3C ((((z0a ⟨o,a,c⟩).getD (((z0a ⟨o,a,c⟩).length)- 1) default)).attrs) l) X0)),(24,X (Xk (decide ((((z0a ⟨o,a,c⟩).length:Int)- 1)≥0)&&(((((z0a ⟨o,a,c⟩).getD (((z0a ⟨o,a,c⟩).length)- 1) default)).kind)==0))))]] ((decide ((((z0a ⟨o,a,c⟩).length:Int)- 1)≥0)&&(((((z0a ⟨o,a,c⟩).getD (((z0a ⟨o,a,c⟩).length)- 1) default)).kind)==0))&&(sameL ((((z0a ⟨o,a,c⟩).getD (((z0a ⟨o,a,c⟩).length)- 1) default)).attrs) l)) (fun h3=> ?_) (fun h3=> ?_)
  ·
   have e1:((keepD (z0a ⟨o,a,c⟩) n l).length:Nat)=(z0a ⟨o,a,c⟩).length:=by
    unfold keepD;((repeat' split)<;>first|rfl|omega| (simp_all;done)| (simp_all;omega))
   have e2:((keepD (z0a ⟨o,a,c⟩) n l):List DStep)=((z0a ⟨o,a,c⟩).set (((z0a ⟨o,a,c⟩).length)- 1) ({kind:=(((z0a ⟨o,a,c⟩).getD (((z0a ⟨o,a,c⟩).length)- 1) default)).kind,n:=(((((z0a ⟨o,a,c⟩).getD (((z0a ⟨o,a,c⟩).length)- 1) default)).n)+n),attrs:=(((z0a ⟨o,a,c⟩).getD (((z0a ⟨o,a,c⟩).length)- 1) default)).attrs,elems:=(((z0a ⟨o,a,c⟩).getD (((z0a ⟨o,a,c⟩).length)- 1) default)).elems}:DStep)):=by
    unfold keepD;((repeat' split)<;>first|rfl|omega| (simp_all;done)| (simp_all;omega))
   exact .finE [.r [(5,X (Xp' z0c 1 (z0a ⟨o,a,c⟩) (((z0a ⟨o,a,c⟩).length:Int)- 1) (((z0a ⟨o,a,c⟩).length)- 1))),(7,X (Xe z0c (z0a ⟨o,a,c⟩) (((z0a ⟨o,a,c⟩).length)- 1))),(9,X (Xn (((((z0a ⟨o,a,c⟩).getD (((z0a ⟨o,a,c⟩).length)- 1) default)).n)+n))),(10,X (Xp' z0c 1 (z0a ⟨o,a,c⟩) (((z0a ⟨o,a,c⟩).length:Int)- 1) (((z0a ⟨o,a,c⟩).length)- 1))),(12,X (Xs 4 z0c 1 (z0a ⟨o,a,c⟩) (((z0a ⟨o,a,c⟩).length)- 1) ({kind:=(((z0a ⟨o,a,c⟩).getD (((z0a ⟨o,a,c⟩).length)- 1) default)).kind,n:=(((((z0a ⟨o,a,c⟩).getD (((z0a ⟨o,a,c⟩).length)- 1) default)).n)+n),attrs:=(((z0a ⟨o,a,c⟩).getD (((z0a ⟨o,a,c⟩).length)- 1) default)).attrs,elems:=(((z0a ⟨o,a,c⟩).getD (((z0a ⟨o,a,c⟩).length)- 1) default)).elems}:DStep)))]] [(0,0),(1,1),(2,2),(27,3)] (fun((z0,z1):Nat×(List DStep))=>(.tup [],[(0,.box [.row 1 z0,.row 3 0,VI 0]),(1,OR 4 z0c z1),(2,OF 3 elemT a),(3,OR 3 elemT [])])) _ _ (pr e1 e2)
  ·
   have e3:((keepD (z0a ⟨o,a,c⟩) n l).length:Nat)=((z0a ⟨o,a,c⟩)++[({kind:=0,n:=n,attrs:=l,elems:=[]}:DStep)]).length:=by
    unfold keepD;((repeat' split)<;>first|rfl|omega| (simp_all;done)| (simp_all;omega))
   have e4:((keepD (z0a ⟨o,a,c⟩) n l):List DStep)=((z0a ⟨o,a,c⟩)++[({kind:=0,n:=n,attrs:=l,elems:=[]}:DStep)]):=by
    unfold keepD;((repeat' split)<;>first|rfl|omega| (simp_all;done)| (simp_all;omega))
   exact .finE [.r [(7,X (Xan attrT 347 l)),(8,X (Xf [(3,3)])),(9,X (rowC attrT l X0)),(10,X (rowC z0c [({kind:=0,n:=n,attrs:=l,elems:=[]}:DStep)] (Xap 4 z0c 1 (z0a ⟨o,a,c⟩) [({kind:=0,n:=n,attrs:=l,elems:=[]}:DStep)])))]] [(0,0),(1,1),(2,2),(27,3)] (fun((z0,z1):Nat×(List DStep))=>(.tup [],[(0,.box [.row 1 z0,.row 3 0,VI 0]),(1,OR 4 z0c z1),(2,OF 3 elemT a),(3,OR 3 elemT [])])) _ _ (pr e3 e4)
theorem z5i(o:List DStep)(a:List Elem)(c:Int)(ho:o.length≤100000000000)(hc:z0V (z0a ⟨o,a,c⟩)=0)(hd:DN 400000000000 (z0a ⟨o,a,c⟩)):FC Tryz.prog 113 [.ptr 0 0] (app emp [(0,.box [.row 1 o.length,.row 2 a.length,VI c]),(1,OR 4 z0c o),(2,OR 3 elemT a)]) (.tup [.row 1 ((z0a ⟨o,a,c⟩).length),VI 0]) (app emp [(0,.box [.row 1 ((z0a ⟨o,a,c⟩).length),.row 3 0,VI 0]),(1,OR 4 z0c (z0a ⟨o,a,c⟩)),(2,OF 3 elemT a),(3,OR 3 elemT [])]):=by
 refine .go Tryz.f113 ?_
 refine .bp [.r [],.r [(1,X (Xc3 27 [(0,0),(1,1),(2,2)] (z55 o a c (by omega)) X0))],.r [(4,X (Xc0 (z1N (z0a ⟨o,a,c⟩) (by assumption)) (rowC z0c (z0a ⟨o,a,c⟩) X0)))]] ((z0V (z0a ⟨o,a,c⟩)) !=0) (fun h2=> ?_) (fun h2=> ?_)
 ·
  exfalso
  omega
 ·
  exact .fin [.r []] [(0,0),(1,1),(2,2),(27,3)]
end Go.Ch
end
section
set_option linter.unusedVariables false
set_option linter.unusedSimpArgs false
namespace Go.Ch
open Go Go.Ab
def putU(w:DWr):DU→DWr
 | .K c=>⟨keepD (z0a w) 1 c,[],0⟩
 | .A e=>⟨w.out,w.add++[e],w.cut⟩
 | .C=>⟨w.out,w.add,w.cut+1⟩
def foldD(w:DWr):List DU→DWr
 | []=>w
 |u::us=>foldD (putU w u) us
theorem y1l(e:List Elem)(us:List DU):∀w:DWr,foldD w (e.map .A++us)=foldD ⟨w.out,w.add++e,w.cut⟩ us:=by
 induction e with
 |nil=>intro w;simp
 |cons x e ih=>intro w;simp only[List.map_cons,List.cons_append,foldD,putU];rw[ih];simp
theorem y5F(n:Nat)(us:List DU):∀w:DWr,foldD w (List.replicate n .C++us)=foldD ⟨w.out,w.add,w.cut+n⟩ us:=by
 induction n with
 |zero=>intro w;simp
 |succ n ih=>intro w;simp only[List.replicate_succ,List.cons_append,foldD,putU];rw[ih];simp only;rw[show w.cut+1+(n:Int)=w.cut+((n+1:Nat):Int) by omega]
theorem y2h(l:List DStep):z0a ⟨l,[],0⟩=l:=by simp[z0a]
theorem z9W{l:List DStep}{m n:Int}{c:List Attr}:keepD (keepD l m c) n c=keepD l (m+n) c:=by
 unfold keepD
 by_cases h:0<l.length∧(l.getD (l.length- 1) default).kind=0∧sameL (l.getD (l.length- 1) default).attrs c=true
 ·rw[if_pos h,if_pos h,setD h.1,setD h.1]
  generalize l.getD (l.length- 1) default=x at*
  have e:∀y:DStep,(List.take (l.length- 1) l++[y]).getD ((List.take (l.length- 1) l++[y]).length- 1) default=y:=fun y=>by simp
  rw[e,if_pos ⟨by simp,h.2.1,h.2.2⟩,setD (by simp)]
  have t:∀y:DStep,(List.take (l.length- 1) l++[y]).take ((List.take (l.length- 1) l++[y]).length- 1)=List.take (l.length- 1) l:=fun y=>by simp
  rw[t,Int.add_assoc]
 ·rw[if_neg h,if_neg h]
  have e:∀y:DStep,(l++[y]).getD ((l++[y]).length- 1) default=y:=fun y=>by simp
  rw[e,if_pos ⟨by simp,rfl,z4z c⟩,setD (by simp)]
  simp
theorem z7N(c:List Attr)(us:List DU):∀(n:Nat) (w:DWr),foldD w (List.replicate (n+1) (.K c)++us)=foldD ⟨keepD (z0a w) ((n+1:Nat):Int) c,[],0⟩ us
 |0,w=>by simp[foldD,putU]
 |n+1,w=>by
  rw[List.replicate_succ,List.cons_append,foldD,z7N c us n]
  simp only[putU]
  rw[y2h,z9W,show(1:Int)+((n+1:Nat):Int)=((n+1+1:Nat):Int) by omega]
def z07:DU→Prop
 | .K c=>VG true c∧c.length≤400000000000
 | .A e=>elemE e=0∧e.attrs.length≤400000000000
 | .C=>True
structure WBd(w:DWr):Prop where
 out:DN 400000000000 w.out
 add:AN 400000000000 w.add
theorem WBd.flush{w:DWr}(h:WBd w)(hl:w.add.length≤400000000000):DN 400000000000 (z0a w):=by
 intro s hs
 unfold z0a at hs
 simp only[List.mem_append] at hs
 rcases hs with(hs|hs)|hs
 ·exact h.out s hs
 ·split at hs
  ·rw[List.mem_singleton] at hs;subst hs;exact⟨hl,by simp,h.add⟩
  ·cases hs
 ·split at hs
  ·rw[List.mem_singleton] at hs;subst hs;exact⟨by simp,by simp,fun x hx=>by cases hx⟩
  ·cases hs
theorem WBd.keep{w:DWr}{n:Int}{c:List Attr}(h:WBd w)(hl:w.add.length≤400000000000)(hc:c.length≤400000000000):WBd ⟨keepD (z0a w) n c,[],0⟩:=by
 have hf:=h.flush hl
 refine⟨fun s hs=> ?_,fun x hx=>by cases hx⟩
 simp only at hs
 unfold keepD at hs
 split at hs
 ·rename_i q
  rw[setD q.1,List.mem_append] at hs
  rcases hs with hs|hs
  ·exact hf s (List.mem_of_mem_take hs)
  ·rw[List.mem_singleton] at hs;subst hs
   have:=hf _ (z80 q.1)
   exact this
 ·rw[List.mem_append] at hs
  rcases hs with hs|hs
  ·exact hf s hs
  ·rw[List.mem_singleton] at hs;subst hs;exact⟨by simp,hc,fun x hx=>by cases hx⟩
theorem y7n{s:DStep}(h:DOkW s):1≤(exS s).length∧(s.kind≠1→s.n≤(exS s).length)∧0≤s.n∧(s.kind=1→s.n=0):=by
 unfold exS
 rcases h with⟨k,n,a,e,_⟩| ⟨k,_,_,n1,_⟩
 ·rw[if_pos k,List.length_map]
  have:0<s.elems.length:=List.length_pos_iff.2 e
  exact⟨this,fun q=>absurd k q,by omega,fun _=>n⟩
 ·have k1:¬s.kind=1:=by omega
  rw[if_neg k1]
  refine⟨?_,fun _=> ?_,by omega,fun q=>absurd q k1⟩<;>split<;>simp<;>omega
theorem z9X:∀{l:List DStep},(∀s∈l,DOkW s)→l.length≤(exD l).length∧∀s∈l,0≤s.n∧s.n≤((exD l).length:Int)
 | [],_=>⟨Nat.le_refl _,fun s hs=>by cases hs⟩
 |s::l,h=>by
  have h1:=y7n (h s (by simp))
  have h2:=z9X (l:=l) (fun t ht=>h t (by simp[ht]))
  simp only[exD,List.length_append,List.length_cons]
  refine⟨by omega,fun t ht=> ?_⟩
  rcases List.mem_cons.1 ht with rfl|ht
  ·refine⟨h1.2.2.1,?_⟩
   by_cases k:t.kind=1
   ·have:=h1.2.2.2 k;omega
   ·have:=h1.2.1 k;omega
  ·have:=h2.2 t ht;omega
structure DI(w:DWr)(us:List DU)(T:Nat)(G:DWr):Prop where
 good:GoodD w
 wb:WBd w
 units:∀u∈us,z07 u
 len:(exDW w).length+us.length=T
 small:T≤8589934592
 eq:foldD w us=G
variable {w G:DWr} {us:List DU} {T:Nat}
theorem DI.bd(h:DI w us T G):w.out.length≤T∧w.add.length≤T∧0≤w.cut∧w.cut≤T∧us.length≤T∧T≤8589934592∧w.add.length+us.length≤T∧w.cut+us.length≤T:=by
 have h1:=(z9X h.good.ok).1
 have h2:=h.good.cut
 have h3:=h.len
 have h4:=h.small
 unfold exDW at h3
 simp only[List.length_append,List.length_replicate,List.length_map] at h3
 omega
theorem DI.fl(h:DI w us T G):(∀s∈z0a w,0≤s.n∧s.n≤10000000000)∧DN 400000000000 (z0a w):=by
 have hb:=h.bd
 refine⟨fun s hs=> ?_,h.wb.flush (by omega)⟩
 have h1:=(z9X (z4d h.good).1).2 s hs
 rw[z53 h.good] at h1
 have h3:=h.len
 omega
theorem DI.keep{n:Nat}{c:List Attr}(h:DI w (List.replicate (n+1) (.K c)++us) T G):DI ⟨keepD (z0a w) ((n+1:Nat):Int) c,[],0⟩ us T G:=by
 have hu:=h.units (.K c) (by rw[List.replicate_succ];simp)
 have hb:=h.bd
 obtain⟨g1,g2⟩:=h.good.keep (n:=((n+1:Nat):Int)) (by omega) hu.1
 refine⟨g1,h.wb.keep (by omega) hu.2,fun u hu=>h.units u (by simp[hu]),?_,h.small,?_⟩
 ·have h3:=h.len
  rw[g2]
  simp only[List.length_append,List.length_replicate] at h3⊢
  omega
 ·rw[←h.eq,z7N]
theorem y3S{u v:List DU}(h:DSw u v):u.length=v.length:=by
 induction h with
 |refl u=>rfl
 |cons x _ ih=>simp[ih]
 |swap e u=>rfl
 |symm _ ih=>exact ih.symm
 |trans _ _ a b=>exact a.trans b
theorem DI.elems{e:List Elem}(h:DI w (e.map .A++us) T G):DI ⟨w.out,w.add++e,w.cut⟩ us T G:=by
 have hu:∀x∈e,z07 (.A x):=fun x hx=>h.units (.A x) (by simp[hx])
 obtain⟨g1,g2⟩:=h.good.elems (e:=e) (fun x hx=>(hu x hx).1)
 refine⟨g1,⟨h.wb.out,fun x hx=> ?_⟩,fun u hu=>h.units u (by simp[hu]),?_,h.small,?_⟩
 ·rcases List.mem_append.1 hx with hx|hx
  ·exact h.wb.add x hx
  ·exact(hu x hx).2
 ·have h3:=h.len
  rw[y3S g2]
  simp only[List.length_append,List.length_map] at h3⊢
  omega
 ·rw[←h.eq,y1l]
theorem DI.cuts{n:Nat}(h:DI w (List.replicate n .C++us) T G):DI ⟨w.out,w.add,w.cut+n⟩ us T G:=by
 obtain⟨g1,g2⟩:=h.good.cuts (n:=(n:Int)) (by omega)
 refine⟨g1,⟨h.wb.out,h.wb.add⟩,fun u hu=>h.units u (by simp[hu]),?_,h.small,?_⟩
 ·have h3:=h.len
  rw[g2]
  simp only[List.length_append,List.length_replicate] at h3⊢
  omega
 ·rw[←h.eq,y5F]
theorem DI.done(h:DI w [] T G):w=G:=h.eq
def doneD(us:List DU):List DStep:=z0a (foldD ⟨[],[],0⟩ us)
theorem DI.start(h:∀u∈us,z07 u)(hs:us.length≤8589934592):DI ⟨[],[],0⟩ us us.length (foldD ⟨[],[],0⟩ us):=
 ⟨y6s,⟨fun s h=>(by cases h),fun x h=>(by cases h)⟩,h,by simp[exDW,exD],hs,rfl⟩
theorem y1m:∀(us:List DU) (w:DWr),GoodD w→(∀u∈us,z07 u)→GoodD (foldD w us)∧DSw (exDW (foldD w us)) (exDW w++us)
 | [],w,h,_=>⟨h,by simp only[foldD,List.append_nil];exact .refl _⟩
 |u::us,w,h,hu=>by
  have h0:=hu u (by simp)
  have hp:GoodD (putU w u)∧DSw (exDW (putU w u)) (exDW w++[u]):=by
   cases u with
   |K c=>
    obtain⟨g1,g2⟩:=h.keep (n:=1) (by decide) h0.1
    exact⟨g1,by simp only[putU];rw[g2];exact .refl _⟩
   |A e=>
    obtain⟨g1,g2⟩:=h.elems (e:=[e]) (fun x hx=>by rw[List.mem_singleton] at hx;subst hx;exact h0.1)
    exact⟨g1,g2⟩
   |C=>
    obtain⟨g1,g2⟩:=h.cuts (n:=1) (by decide)
    exact⟨g1,by simp only[putU];rw[g2];exact .refl _⟩
  obtain⟨q1,q2⟩:=y1m us (putU w u) hp.1 (fun v hv=>hu v (by simp[hv]))
  refine⟨q1,.trans q2 ?_⟩
  have:=hp.2.right us
  simpa using this
theorem z3l(h:∀u∈us,z07 u)(h1:oldN us≤2147483647)(h2:newN us≤2147483647):
 z0W (doneD us)∧DSw (exD (doneD us)) us∧oldD (doneD us)=oldN us∧newD (doneD us)=newN us:=by
 obtain⟨q1,q2⟩:=y1m us ⟨[],[],0⟩ y6s h
 exact q1.valid (by simpa[exDW,exD] using q2) h1 h2
theorem z9Y(us:List DU):us.length≤oldN us+newN us:=by
 induction us with
 |nil=>simp[oldN]
 |cons u us ih=>cases u<;>simp[oldN,newN]<;>omega
end Go.Ch
end
section
set_option linter.unusedVariables false
set_option linter.unusedSimpArgs false
namespace Go.Ch
open Go Go.Ab
theorem z1q(g:Attr→Attr→Option Attr)(a b:List Attr):(fm g a b).length≤a.length+b.length:=by
 unfold fm
 exact Nat.le_trans (List.length_filterMap_le _ _) (y3q a b)
def KOk(us:List DU):Prop:=(∀c,DU.K c∈us→VG true c∧c.length≤100000000000)∧(∀e,DU.A e∈us→elemE e=0∧e.attrs.length≤100000000000)
def EOk(r:List Elem):Prop:=∀x∈r,elemE x=0∧x.attrs.length≤100000000000
theorem KOk.tail{u:DU}{us:List DU}(h:KOk (u::us)):KOk us:=⟨fun c hc=>h.1 c (by simp[hc]),fun e he=>h.2 e (by simp[he])⟩
theorem EOk.tail{x:Elem}{r:List Elem}(h:EOk (x::r)):EOk r:=fun y hy=>h y (by simp[hy])
theorem z3m:∀(us:List DU) (r:List Elem),oldN us=r.length→(z0j us r).length=newN us
 | [],r,h=>by simp[z0j,newN]
 | .A e::us,r,h=>by
  have:=z3m us r (by simpa[oldN] using h)
  simp[z0j,newN,this]
 | .K c::us,[],h=>by simp[oldN] at h
 | .C::us,[],h=>by simp[oldN] at h
 | .K c::us,x::r,h=>by
  have:=z3m us r (by simpa[oldN] using h)
  simp[z0j,newN,this]
 | .C::us,x::r,h=>by
  have:=z3m us r (by simpa[oldN] using h)
  simp[z0j,newN,this]
theorem y7o{x:Elem}{c:List Attr}(h:elemE x=0)(hc:VG true c):elemE (chgE c x)=0:=by
 have v:=raw_V np_mt (y7a h) hc
 unfold elemE at h⊢
 unfold chgE
 simp only
 split at h
 ·omega
 ·rename_i q1
  rw[if_neg q1]
  split at h
  ·omega
  ·rename_i q2
   rw[if_neg q2]
   exact z0Q.2 v
theorem exD_K{l:List DStep}(h:∀s∈l,DOk s)(hd:DN 100000000000 l):KOk (exD l):=by
 induction l with
 |nil=>exact⟨fun c hc=>by simp[exD] at hc,fun c hc=>by simp[exD] at hc⟩
 |cons s l ih=>
  obtain⟨i1,i2⟩:=ih (fun t ht=>h t (by simp[ht])) (fun t ht=>hd t (by simp[ht]))
  have hs:=h s (by simp)
  obtain⟨b1,b2,b3⟩:=hd s (by simp)
  refine⟨fun c hc=> ?_,fun e he=> ?_⟩
  ·simp only[exD,List.mem_append] at hc
   rcases hc with hc|hc
   ·unfold exS at hc
    rcases hs with⟨k,_⟩| ⟨k,_,_,_,_,v⟩
    ·rw[if_pos k] at hc;simp at hc
    ·rw[if_neg (by omega)] at hc
     split at hc
     ·simp[List.mem_replicate] at hc
     ·have:=List.eq_of_mem_replicate hc
      cases this
      exact⟨v,b2⟩
   ·exact i1 c hc
  ·simp only[exD,List.mem_append] at he
   rcases he with he|he
   ·unfold exS at he
    rcases hs with⟨k,_,_,_,q⟩| ⟨k,_⟩
    ·rw[if_pos k,List.mem_map] at he
     obtain⟨x,hx,e1⟩:=he
     cases e1
     exact⟨q _ hx,b3 _ hx⟩
    ·rw[if_neg (by omega)] at he
     split at he
     ·simp[List.mem_replicate] at he
     ·simp[List.mem_replicate] at he
   ·exact i2 e he
theorem y6t{us:List DU}(h:KOk us):UOk us:=by
 induction us with
 |nil=>trivial
 |cons u us ih=>
  cases u with
  |K c=>exact⟨(h.1 c (by simp)).1,ih h.tail⟩
  |A e=>exact ih h.tail
  |C=>exact ih h.tail
variable {w G:DWr} {us:List DU} {T:Nat}
theorem DN.mono{m n:Nat}{l:List DStep}(h:DN m l)(hm:m≤n):DN n l:=fun s hs=>⟨Nat.le_trans (h s hs).1 hm,Nat.le_trans (h s hs).2.1 hm,fun x hx=>Nat.le_trans ((h s hs).2.2 x hx) hm⟩
end Go.Ch
end
section
set_option linter.unusedVariables false
set_option linter.unusedSimpArgs false
namespace Go.Ch
open Go Go.Ab
def boolT(b:Bool):Tree:= .sc (.bool b)
structure Act where
 ins:List (List Elem)
 cut:List Bool
 set:List (List Attr)
variable {w G:DWr} {us:List DU} {T:Nat}
theorem DI.keep1{c:List Attr}(h:DI w (.K c::us) T G):DI ⟨keepD (z0a w) 1 c,[],0⟩ us T G:=DI.keep (n:=0) h
theorem DI.cut1(h:DI w (.C::us) T G):DI ⟨w.out,w.add,w.cut+1⟩ us T G:=DI.cuts (n:=1) h
end Go.Ch
end
section

end
section

end
section
set_option linter.unusedVariables false
set_option linter.unusedSimpArgs false
namespace Go.Ch
open Go Go.Ab
def onB:ByteArray:={data:=#[111,110]}
def UnitS:DU→Prop
 | .K c=>VG true c∧c.length≤100
 | .A e=>elemE e=0∧e.attrs.length≤100
 | .C=>True
theorem UnitS.ok{u:DU}(h:UnitS u):z07 u:=by
 cases u with
 |K c=>exact⟨h.1,by have:=h.2;omega⟩
 |A e=>exact⟨h.1,by have:=h.2;omega⟩
 |C=>trivial
theorem z0z{α:Type}[Inhabited α]{l:List α}{k:Nat}(h:k<l.length):l.getD k default∈l:=by
 rw[show l.getD k default=l[k] by simp[List.getD,List.getElem?_eq_getElem h]]
 exact List.getElem_mem h
theorem z9Z{u v:List DU}(h:DSw u v):∀x,x∈u↔x∈v:=by
 induction h with
 |refl u=>exact fun x=>Iff.rfl
 |cons y _ ih=>intro x;simp[ih x]
 |swap e u=>intro x;simp only[List.mem_cons];constructor<;>rintro(h|h|h)<;>simp[h]
 |symm _ ih=>exact fun x=>(ih x).symm
 |trans _ _ a b=>exact fun x=>(a x).trans (b x)
theorem y7p{l:List DStep}{s:DStep}(h:s∈l){u:DU}(hu:u∈exS s):u∈exD l:=by
 induction l with
 |nil=>cases h
 |cons t l ih=>
  simp only[exD,List.mem_append]
  rcases List.mem_cons.1 h with rfl|h
  ·exact .inl hu
  ·exact .inr (ih h)
theorem y1n:∀{l:List DStep},(∀s∈l,DOk s)→∀s∈l,nS s≤newD l
 | [],_,s,h=>by cases h
 |t::l,h,s,hs=>by
  have h1:=oS_nn (h t (by simp))
  have h2:=z7L (l:=l) (fun t ht=>h t (by simp[ht]))
  simp only[newD]
  rcases List.mem_cons.1 hs with rfl|hs
  ·omega
  ·have:=y1n (l:=l) (fun t ht=>h t (by simp[ht])) s hs;omega
theorem dn_of{l:List DStep}{us:List DU}(hv:z0W l)(hs:DSw (exD l) us)(hu:∀u∈us,UnitS u):DN 100000000000 l:=by
 intro s hs'
 have ho:=hv.1.all s hs'
 have hn:=y1n hv.1.all s hs'
 have v2:=hv.2.2
 have hm:=fun u hu'=>hu u ((z9Z hs u).1 (y7p hs' (u:=u) hu'))
 unfold exS at hm
 unfold nS szD at hn
 rcases ho with⟨k,n,a,e,q⟩| ⟨k,a,b,n1,n2,v⟩
 ·rw[if_neg (by omega),if_pos k] at hn
  rw[if_pos k] at hm
  refine⟨by omega,by rw[a];simp,fun x hx=> ?_⟩
  have:=(hm (.A x) (List.mem_map.2 ⟨x,hx,rfl⟩)).2
  omega
 ·rw[if_neg (by omega)] at hm
  refine⟨by rw[a];simp,?_,fun x hx=>by rw[a] at hx;cases hx⟩
  by_cases k2:s.kind=2
  ·rw[b k2];simp
  ·rw[if_neg k2] at hm
   have:=(hm (.K s.attrs) (by rw[List.mem_replicate];exact⟨by omega,rfl⟩)).2
   omega
end Go.Ch
end
section
set_option linter.unusedVariables false
set_option linter.unusedSimpArgs false
namespace Go.Ch
open Go Go.Ab
variable {w G:DWr} {us:List DU} {T:Nat}
theorem DI.all:∀{us:List DU} {w:DWr},DI w us T G→DI G [] T G
 | [],w,h=>by have:=h.done;subst this;exact h
 | .K c::us,w,h=>DI.all h.keep1
 | .A e::us,w,h=>DI.all (DI.elems (e:=[e]) h)
 | .C::us,w,h=>DI.all h.cut1
theorem y1o(hu:∀u∈us,z07 u)(hs:us.length≤8589934592):DN 400000000000 (doneD us):=(DI.start hu hs).all.fl.2
end Go.Ch
end
section
set_option linter.unusedVariables false
set_option linter.unusedSimpArgs false
namespace Go.Ch
open Go Go.Ab
def z0m:List DU→List DU→List DU
 | .C::p,q=> .C::z0m p q
 |p,.A e::q=> .A e::z0m p q
 | .K c::p,.K d::q=> .K (fm botG c d)::z0m p q
 | .K _::p,.C::q=> .C::z0m p q
 | .A e::p,.K d::q=> .A (chgE d e)::z0m p q
 | .A _::p,.C::q=>z0m p q
 |p,[]=>p
 | [],_=>[]
termination_by p q=>p.length+q.length
end Go.Ch
end
section
set_option linter.unusedVariables false
set_option linter.unusedSimpArgs false
namespace Go.Ch
open Go Go.Ab
theorem y3T:∀l:List Attr,fm rawG l []=l
 | []=>by simp[fm,bothL]
 |x::l=>by
  have ih:=y3T l
  unfold fm at ih⊢
  rw[bothL,z16,ih]
  have:rawG x default=some x:=by unfold rawG;rw[if_pos (show(default:Attr).name=mt from rfl)]
  rw[this];rfl
theorem z4e(x:Elem):chgE [] x=x:=by unfold chgE;rw[y3T]
def z0f:List DU→List DU→List DU×List DU
 | .A e::p,q=>(.A e::(z0f p q).1,.K []::(z0f p q).2)
 | [],.A e::q=>(.K []::(z0f [] q).1,.A e::(z0f [] q).2)
 | .K c::p,.A e::q=>(.K []::(z0f (.K c::p) q).1,.A e::(z0f (.K c::p) q).2)
 | .C::p,.A e::q=>(.K []::(z0f (.C::p) q).1,.A e::(z0f (.C::p) q).2)
 | .K c::p,.K d::q=>(.K (fm wioG c d)::(z0f p q).1,.K d::(z0f p q).2)
 | .K _::p,.C::q=>((z0f p q).1,.C::(z0f p q).2)
 | .C::p,.K _::q=>(.C::(z0f p q).1,(z0f p q).2)
 | .C::p,.C::q=>z0f p q
 |_,[]=>([],[])
 | [],_=>([],[])
termination_by p q=>p.length+q.length
theorem y3U{x:Elem}{c d:List Attr}(hx:VG false x.attrs)(hc:VG true c)(hd:VG true d):chgE d (chgE c x)=chgE (fm wioG c d) (chgE d x):=by
 unfold chgE
 simp only
 rw[y16 np_mt hx hc hd]
theorem z0Y:∀(n:Nat) (p q:List DU) (l:List Elem),p.length+q.length≤n→oldN p=l.length→oldN q=l.length→UOk p→UOk q→(∀x∈l,VG false x.attrs)→
 z0j (z0f p q).2 (z0j p l)=z0j (z0f p q).1 (z0j q l)∧
 oldN (z0f p q).2=newN p∧oldN (z0f p q).1=newN q∧newN (z0f p q).1=newN (z0f p q).2
 |n,.A e::p,q,l,hn,ho,hm,hp,hq,hl=>by
  simp only[List.length_cons] at hn
  obtain⟨n,rfl⟩:∃k,n=k+1:=⟨n- 1,by omega⟩
  obtain⟨i1,i2,i3,i4⟩:=z0Y n p q l (by omega) (by simpa[oldN] using ho) hm hp hq hl
  rw[z0f]
  simp only[z0j,z4e,oldN,newN]
  exact⟨by rw[i1],by omega,by omega,by omega⟩
 |n,[],.A e::q,l,hn,ho,hm,hp,hq,hl=>by
  simp only[List.length_cons] at hn
  obtain⟨n,rfl⟩:∃k,n=k+1:=⟨n- 1,by omega⟩
  obtain⟨i1,i2,i3,i4⟩:=z0Y n [] q l (by simp only[List.length_nil] at hn⊢;omega) ho (by simpa[oldN] using hm) hp hq hl
  rw[z0f]
  simp only[z0j,z4e,oldN,newN] at i1 i2 i3 i4⊢
  exact⟨by rw[i1],by omega,by omega,by omega⟩
 |n,.K c::p,.A e::q,l,hn,ho,hm,hp,hq,hl=>by
  simp only[List.length_cons] at hn
  obtain⟨n,rfl⟩:∃k,n=k+1:=⟨n- 1,by omega⟩
  obtain⟨i1,i2,i3,i4⟩:=z0Y n (.K c::p) q l (by simp only[List.length_cons];omega) ho (by simpa[oldN] using hm) hp hq hl
  rw[z0f]
  rw[show z0j (.A e::q) l=e::z0j q l by simp[z0j]]
  rw[z0j,z0j,i1,z4e]
  exact⟨rfl,i2,by simp only[oldN,newN];omega,by simp only[newN];omega⟩
 |n,.C::p,.A e::q,l,hn,ho,hm,hp,hq,hl=>by
  simp only[List.length_cons] at hn
  obtain⟨n,rfl⟩:∃k,n=k+1:=⟨n- 1,by omega⟩
  obtain⟨i1,i2,i3,i4⟩:=z0Y n (.C::p) q l (by simp only[List.length_cons];omega) ho (by simpa[oldN] using hm) hp hq hl
  rw[z0f]
  rw[show z0j (.A e::q) l=e::z0j q l by simp[z0j]]
  rw[z0j,z0j,i1,z4e]
  exact⟨rfl,i2,by simp only[oldN,newN];omega,by simp only[newN];omega⟩
 |n,.K c::p,.K d::q,[],hn,ho,hm,hp,hq,hl=>by simp[oldN] at ho
 |n,.K c::p,.K d::q,x::l,hn,ho,hm,hp,hq,hl=>by
  simp only[List.length_cons] at hn
  obtain⟨n,rfl⟩:∃k,n=k+1:=⟨n- 1,by omega⟩
  obtain⟨i1,i2,i3,i4⟩:=z0Y n p q l (by omega) (by simpa[oldN] using ho) (by simpa[oldN] using hm) hp.2 hq.2 (fun y hy=>hl y (by simp[hy]))
  rw[z0f]
  simp only[z0j,oldN,newN]
  exact⟨by rw[i1,y3U (hl x (by simp)) hp.1 hq.1],by omega,by omega,by omega⟩
 |n,.K c::p,.C::q,[],hn,ho,hm,hp,hq,hl=>by simp[oldN] at ho
 |n,.K c::p,.C::q,x::l,hn,ho,hm,hp,hq,hl=>by
  simp only[List.length_cons] at hn
  obtain⟨n,rfl⟩:∃k,n=k+1:=⟨n- 1,by omega⟩
  obtain⟨i1,i2,i3,i4⟩:=z0Y n p q l (by omega) (by simpa[oldN] using ho) (by simpa[oldN] using hm) hp.2 hq (fun y hy=>hl y (by simp[hy]))
  rw[z0f]
  simp only[z0j,oldN,newN]
  exact⟨i1,by omega,by omega,by omega⟩
 |n,.C::p,.K d::q,[],hn,ho,hm,hp,hq,hl=>by simp[oldN] at ho
 |n,.C::p,.K d::q,x::l,hn,ho,hm,hp,hq,hl=>by
  simp only[List.length_cons] at hn
  obtain⟨n,rfl⟩:∃k,n=k+1:=⟨n- 1,by omega⟩
  obtain⟨i1,i2,i3,i4⟩:=z0Y n p q l (by omega) (by simpa[oldN] using ho) (by simpa[oldN] using hm) hp hq.2 (fun y hy=>hl y (by simp[hy]))
  rw[z0f]
  simp only[z0j,oldN,newN]
  exact⟨i1,by omega,by omega,by omega⟩
 |n,.C::p,.C::q,[],hn,ho,hm,hp,hq,hl=>by simp[oldN] at ho
 |n,.C::p,.C::q,x::l,hn,ho,hm,hp,hq,hl=>by
  simp only[List.length_cons] at hn
  obtain⟨n,rfl⟩:∃k,n=k+1:=⟨n- 1,by omega⟩
  obtain⟨i1,i2,i3,i4⟩:=z0Y n p q l (by omega) (by simpa[oldN] using ho) (by simpa[oldN] using hm) hp hq (fun y hy=>hl y (by simp[hy]))
  rw[z0f]
  simp only[z0j,oldN,newN]
  exact⟨i1,by omega,by omega,by omega⟩
 |n,[],[],l,hn,ho,hm,hp,hq,hl=>by simp[z0f,z0j,oldN,newN]
 |n,[],.K d::q,l,hn,ho,hm,hp,hq,hl=>by simp only[oldN] at ho hm;omega
 |n,[],.C::q,l,hn,ho,hm,hp,hq,hl=>by simp only[oldN] at ho hm;omega
 |n,.K c::p,[],l,hn,ho,hm,hp,hq,hl=>by simp only[oldN] at ho hm;omega
 |n,.C::p,[],l,hn,ho,hm,hp,hq,hl=>by simp only[oldN] at ho hm;omega
theorem z09:∀(n:Nat) (p q:List DU),p.length+q.length≤n→newN p=oldN q→oldN (z0m p q)=oldN p∧newN (z0m p q)=newN q
 |n,.C::p,q,hn,hm=>by
  simp only[List.length_cons] at hn
  obtain⟨n,rfl⟩:∃k,n=k+1:=⟨n- 1,by omega⟩
  have i:=z09 n p q (by omega) (by simpa[newN] using hm)
  rw[z0m];simp only[oldN,newN];omega
 |n,[],.A e::q,hn,hm=>by
  simp only[List.length_cons] at hn
  obtain⟨n,rfl⟩:∃k,n=k+1:=⟨n- 1,by omega⟩
  have i:=z09 n [] q (by simp only[List.length_nil] at hn⊢;omega) (by simpa[oldN] using hm)
  rw[z0m]
  ·simp only[oldN,newN] at i⊢;omega
  ·intro p hp;cases hp
 |n,.A a::p,.A e::q,hn,hm=>by
  simp only[List.length_cons] at hn
  obtain⟨n,rfl⟩:∃k,n=k+1:=⟨n- 1,by omega⟩
  have i:=z09 n (.A a::p) q (by simp only[List.length_cons];omega) (by simpa[oldN] using hm)
  rw[z0m]
  ·simp only[oldN,newN] at i⊢;omega
  ·intro p hp;cases hp
 |n,.K c::p,.A e::q,hn,hm=>by
  simp only[List.length_cons] at hn
  obtain⟨n,rfl⟩:∃k,n=k+1:=⟨n- 1,by omega⟩
  have i:=z09 n (.K c::p) q (by simp only[List.length_cons];omega) (by simpa[oldN] using hm)
  rw[z0m]
  ·simp only[oldN,newN] at i⊢;omega
  ·intro p hp;cases hp
 |n,.K c::p,.K d::q,hn,hm=>by
  simp only[List.length_cons] at hn
  obtain⟨n,rfl⟩:∃k,n=k+1:=⟨n- 1,by omega⟩
  have i:=z09 n p q (by omega) (by simpa[newN,oldN] using hm)
  rw[z0m];simp only[oldN,newN];omega
 |n,.K c::p,.C::q,hn,hm=>by
  simp only[List.length_cons] at hn
  obtain⟨n,rfl⟩:∃k,n=k+1:=⟨n- 1,by omega⟩
  have i:=z09 n p q (by omega) (by simpa[newN,oldN] using hm)
  rw[z0m];simp only[oldN,newN];omega
 |n,.A a::p,.K d::q,hn,hm=>by
  simp only[List.length_cons] at hn
  obtain⟨n,rfl⟩:∃k,n=k+1:=⟨n- 1,by omega⟩
  have i:=z09 n p q (by omega) (by simpa[newN,oldN] using hm)
  rw[z0m];simp only[oldN,newN];omega
 |n,.A a::p,.C::q,hn,hm=>by
  simp only[List.length_cons] at hn
  obtain⟨n,rfl⟩:∃k,n=k+1:=⟨n- 1,by omega⟩
  have i:=z09 n p q (by omega) (by simpa[newN,oldN] using hm)
  rw[z0m];simp only[oldN,newN];omega
 |n,[],[],hn,hm=>by simp[z0m,oldN,newN]
 |n,[],.K d::q,hn,hm=>by simp[oldN,newN] at hm
 |n,[],.C::q,hn,hm=>by simp[oldN,newN] at hm
 |n,.K c::p,[],hn,hm=>by simp[oldN,newN] at hm
 |n,.A c::p,[],hn,hm=>by simp[oldN,newN] at hm
end Go.Ch
namespace Go.Ch
open Go Go.Ab
def kindD(l:List DStep):Int:=if l.length=0 then-1 else(l.getD 0 default).kind
end Go.Ch
end
section
set_option linter.unusedVariables false
set_option linter.unusedSimpArgs false
set_option maxRecDepth 100000
set_option maxHeartbeats 4000000
open Go Go.Proofs Go.Ab
namespace Go.Ch
theorem z2g(l:List DStep)(u:Int):FC Tryz.prog 107 [.ptr 0 0] (app emp [(0,.box [VL 4 z0c l,VI u])]) (VI (kindD l)) (app emp [(0,.box [VL 4 z0c l,VI u])]):=by
 refine .go Tryz.f107 ?_
 refine .bp [.r [],.r [(4,X (Xl z0c l))]] ((l.length:Int)==0) (fun h1=> ?_) (fun h1=> ?_)
 ·
  have e1:((kindD l):Int)= -1:=by
   unfold kindD;((repeat' split)<;>first|rfl|omega| (simp_all;done)| (simp_all;omega))
  exact .finE [.r []] [(0,0)] (fun z0:Int=>(VI z0,[(0,.box [VL 4 z0c l,VI u])])) _ _ e1
 ·
  have e2:((kindD l):Int)=((l.getD 0 default)).kind:=by
   unfold kindD;((repeat' split)<;>first|rfl|omega| (simp_all;done)| (simp_all;omega))
  exact .finE [.r [(4,X (Xi z0c l 0))]] [(0,0)] (fun z0:Int=>(VI z0,[(0,.box [VL 4 z0c l,VI u])])) _ _ e2
theorem z2h(l:List DStep)(u:Int)(h0:0<l.length)(hb: -9223372036854775808≤szD (l.getD 0 default)- u∧szD (l.getD 0 default)- u≤9223372036854775807):FC Tryz.prog 109 [.ptr 0 0] (app emp [(0,.box [VL 4 z0c l,VI u])]) (VI (szD (l.getD 0 default)- u)) (app emp [(0,.box [VL 4 z0c l,VI u])]):=by
 refine .go Tryz.f109 ?_
 have e1:((szD (l.getD 0 default)- u):Int)=((szD ((l.getD 0 default)))- u):=by
  (first|omega|with_reducible exact fun h=>h| (intro hq;rw[hq];done)| (intro hq;rw[hq];rfl)| (simp only[List.length_map];done)| (simp only[List.length_map];omega)| (simp;omega)| (simp;done))
 exact .finE [.r [],.r [(4,X (Xi z0c l 0)),(6,X (Xc0 (z2N ((l.getD 0 default))) X0)),(11,X (Xn ((szD ((l.getD 0 default)))- u)))]] [(0,0)] (fun z0:Int=>(VI z0,[(0,.box [VL 4 z0c l,VI u])])) _ _ e1
end Go.Ch
end
section
set_option linter.unusedVariables false
set_option linter.unusedSimpArgs false
set_option maxRecDepth 100000
set_option maxHeartbeats 4000000
open Go Go.Proofs Go.Ab
namespace Go.Ch
def tkE(l:List DStep)(u n:Int):DStep:=if(l.getD 0 default).kind=1 then⟨(l.getD 0 default).kind,(l.getD 0 default).n,(l.getD 0 default).attrs,((l.getD 0 default).elems.take (u+n).toNat).drop u.toNat⟩ else⟨(l.getD 0 default).kind,n,(l.getD 0 default).attrs,(l.getD 0 default).elems⟩
def tkL(l:List DStep)(u n:Int):List DStep:=if u+n=szD (l.getD 0 default) then l.drop 1 else l
def tkN(l:List DStep)(u n:Int):Int:=if u+n=szD (l.getD 0 default) then 0 else u+n
theorem y5G(l:List DStep)(u n:Int)(h0:0<l.length)(hu:0≤u∧0≤n∧u+n≤szD (l.getD 0 default)∧u+n≤9223372036854775807):FC Tryz.prog 108 [.ptr 0 0,VI n] (app emp [(0,.box [VL 4 z0c l,VI u])]) (.t (z0c (tkE l u n))) (app emp [(0,.box [VL 4 z0c (tkL l u n),VI (tkN l u n)]),(1,.box [VI ((tkE l u n).kind),VI ((tkE l u n).n),VL 2 attrT ((tkE l u n).attrs),VL 3 elemT ((tkE l u n).elems)])]):=by
 refine .go Tryz.f108 ?_
 refine .bp [.r [],.r [(4,X (Xi z0c l 0))],.r []] ((((l.getD 0 default)).kind)==1) (fun h2=> ?_) (fun h2=> ?_)
 ·
  have hsz:szD (l.getD 0 default)=(l.getD 0 default).elems.length:=by unfold szD;rw[if_pos (by omega)]
  refine .bp [.r [(11,X (Xn (u+n))),(12,X (Xsb elemT 3 (((l.getD 0 default)).elems) u (u+n)))],.r [(5,X (Xn (u+n)))],.r [(8,X (Xi z0c l 0)),(10,X (Xc0 (z2N ((l.getD 0 default))) X0))]] ((u+n)==(szD ((l.getD 0 default)))) (fun h6=> ?_) (fun h6=> ?_)
  ·
   have e1:((tkL l u n):List DStep)=(l.drop 1):=by
    simp only[tkE,tkL,tkN];((repeat' split)<;>first|rfl|omega| (simp_all;done)| (simp_all;omega))
   have e2:((tkN l u n):Int)=0:=by
    simp only[tkE,tkL,tkN];((repeat' split)<;>first|rfl|omega| (simp_all;done)| (simp_all;omega))
   have e3:((tkE l u n).kind:Int)=((l.getD 0 default)).kind:=by
    simp only[tkE,tkL,tkN];((repeat' split)<;>first|rfl|omega| (simp_all;done)| (simp_all;omega))
   have e4:((tkE l u n).n:Int)=((l.getD 0 default)).n:=by
    simp only[tkE,tkL,tkN];((repeat' split)<;>first|rfl|omega| (simp_all;done)| (simp_all;omega))
   have e5:((tkE l u n).attrs:List Attr)=((l.getD 0 default)).attrs:=by
    simp only[tkE,tkL,tkN];((repeat' split)<;>first|rfl|omega| (simp_all;done)| (simp_all;omega))
   have e6:((tkE l u n).elems:List Elem)=(((((l.getD 0 default)).elems).take (Int.toNat (u+n))).drop (Int.toNat u)):=by
    simp only[tkE,tkL,tkN];((repeat' split)<;>first|rfl|omega| (simp_all;done)| (simp_all;omega))
   have e7:((tkE l u n):DStep)=({kind:=((l.getD 0 default)).kind,n:=((l.getD 0 default)).n,attrs:=((l.getD 0 default)).attrs,elems:=(((((l.getD 0 default)).elems).take (Int.toNat (u+n))).drop (Int.toNat u))}:DStep):=by
    simp only[tkE,tkL,tkN];((repeat' split)<;>first|rfl|omega| (simp_all;done)| (simp_all;omega))
   exact .finE [.r [(6,X (Xsd z0c 4 l 1))],.r []] [(0,0),(1,1)] (fun((z0,z1,z2,z3,z4,z5,z6):(List DStep)×Int×Int×Int×(List Attr)×(List Elem)×DStep)=>(.t (z0c z6),[(0,.box [VL 4 z0c z0,VI z1]),(1,.box [VI z2,VI z3,VL 2 attrT z4,VL 3 elemT z5])])) _ _ (pr e1 (pr e2 (pr e3 (pr e4 (pr e5 (pr e6 e7))))))
  ·
   have e8:((tkL l u n):List DStep)=l:=by
    simp only[tkE,tkL,tkN];((repeat' split)<;>first|rfl|omega| (simp_all;done)| (simp_all;omega))
   have e9:((tkN l u n):Int)=(u+n):=by
    simp only[tkE,tkL,tkN];((repeat' split)<;>first|rfl|omega| (simp_all;done)| (simp_all;omega))
   have e10:((tkE l u n).kind:Int)=((l.getD 0 default)).kind:=by
    simp only[tkE,tkL,tkN];((repeat' split)<;>first|rfl|omega| (simp_all;done)| (simp_all;omega))
   have e11:((tkE l u n).n:Int)=((l.getD 0 default)).n:=by
    simp only[tkE,tkL,tkN];((repeat' split)<;>first|rfl|omega| (simp_all;done)| (simp_all;omega))
   have e12:((tkE l u n).attrs:List Attr)=((l.getD 0 default)).attrs:=by
    simp only[tkE,tkL,tkN];((repeat' split)<;>first|rfl|omega| (simp_all;done)| (simp_all;omega))
   have e13:((tkE l u n).elems:List Elem)=(((((l.getD 0 default)).elems).take (Int.toNat (u+n))).drop (Int.toNat u)):=by
    simp only[tkE,tkL,tkN];((repeat' split)<;>first|rfl|omega| (simp_all;done)| (simp_all;omega))
   have e14:((tkE l u n):DStep)=({kind:=((l.getD 0 default)).kind,n:=((l.getD 0 default)).n,attrs:=((l.getD 0 default)).attrs,elems:=(((((l.getD 0 default)).elems).take (Int.toNat (u+n))).drop (Int.toNat u))}:DStep):=by
    simp only[tkE,tkL,tkN];((repeat' split)<;>first|rfl|omega| (simp_all;done)| (simp_all;omega))
   exact .finE [.r []] [(0,0),(1,1)] (fun((z0,z1,z2,z3,z4,z5,z6):(List DStep)×Int×Int×Int×(List Attr)×(List Elem)×DStep)=>(.t (z0c z6),[(0,.box [VL 4 z0c z0,VI z1]),(1,.box [VI z2,VI z3,VL 2 attrT z4,VL 3 elemT z5])])) _ _ (pr e8 (pr e9 (pr e10 (pr e11 (pr e12 (pr e13 e14))))))
 ·
  refine .bp [.r [],.r [(5,X (Xn (u+n)))],.r [(8,X (Xi z0c l 0)),(10,X (Xc0 (z2N ((l.getD 0 default))) X0))]] ((u+n)==(szD ((l.getD 0 default)))) (fun h6=> ?_) (fun h6=> ?_)
  ·
   have e15:((tkL l u n):List DStep)=(l.drop 1):=by
    simp only[tkE,tkL,tkN];((repeat' split)<;>first|rfl|omega| (simp_all;done)| (simp_all;omega))
   have e16:((tkN l u n):Int)=0:=by
    simp only[tkE,tkL,tkN];((repeat' split)<;>first|rfl|omega| (simp_all;done)| (simp_all;omega))
   have e17:((tkE l u n).kind:Int)=((l.getD 0 default)).kind:=by
    simp only[tkE,tkL,tkN];((repeat' split)<;>first|rfl|omega| (simp_all;done)| (simp_all;omega))
   have e18:((tkE l u n).n:Int)=n:=by
    simp only[tkE,tkL,tkN];((repeat' split)<;>first|rfl|omega| (simp_all;done)| (simp_all;omega))
   have e19:((tkE l u n).attrs:List Attr)=((l.getD 0 default)).attrs:=by
    simp only[tkE,tkL,tkN];((repeat' split)<;>first|rfl|omega| (simp_all;done)| (simp_all;omega))
   have e20:((tkE l u n).elems:List Elem)=((l.getD 0 default)).elems:=by
    simp only[tkE,tkL,tkN];((repeat' split)<;>first|rfl|omega| (simp_all;done)| (simp_all;omega))
   have e21:((tkE l u n):DStep)=({kind:=((l.getD 0 default)).kind,n:=n,attrs:=((l.getD 0 default)).attrs,elems:=((l.getD 0 default)).elems}:DStep):=by
    simp only[tkE,tkL,tkN];((repeat' split)<;>first|rfl|omega| (simp_all;done)| (simp_all;omega))
   exact .finE [.r [(6,X (Xsd z0c 4 l 1))],.r []] [(0,0),(1,1)] (fun((z0,z1,z2,z3,z4,z5,z6):(List DStep)×Int×Int×Int×(List Attr)×(List Elem)×DStep)=>(.t (z0c z6),[(0,.box [VL 4 z0c z0,VI z1]),(1,.box [VI z2,VI z3,VL 2 attrT z4,VL 3 elemT z5])])) _ _ (pr e15 (pr e16 (pr e17 (pr e18 (pr e19 (pr e20 e21))))))
  ·
   have e22:((tkL l u n):List DStep)=l:=by
    simp only[tkE,tkL,tkN];((repeat' split)<;>first|rfl|omega| (simp_all;done)| (simp_all;omega))
   have e23:((tkN l u n):Int)=(u+n):=by
    simp only[tkE,tkL,tkN];((repeat' split)<;>first|rfl|omega| (simp_all;done)| (simp_all;omega))
   have e24:((tkE l u n).kind:Int)=((l.getD 0 default)).kind:=by
    simp only[tkE,tkL,tkN];((repeat' split)<;>first|rfl|omega| (simp_all;done)| (simp_all;omega))
   have e25:((tkE l u n).n:Int)=n:=by
    simp only[tkE,tkL,tkN];((repeat' split)<;>first|rfl|omega| (simp_all;done)| (simp_all;omega))
   have e26:((tkE l u n).attrs:List Attr)=((l.getD 0 default)).attrs:=by
    simp only[tkE,tkL,tkN];((repeat' split)<;>first|rfl|omega| (simp_all;done)| (simp_all;omega))
   have e27:((tkE l u n).elems:List Elem)=((l.getD 0 default)).elems:=by
    simp only[tkE,tkL,tkN];((repeat' split)<;>first|rfl|omega| (simp_all;done)| (simp_all;omega))
   have e28:((tkE l u n):DStep)=({kind:=((l.getD 0 default)).kind,n:=n,attrs:=((l.getD 0 default)).attrs,elems:=((l.getD 0 default)).elems}:DStep):=by
    simp only[tkE,tkL,tkN];((repeat' split)<;>first|rfl|omega| (simp_all;done)| (simp_all;omega))
   exact .finE [.r []] [(0,0),(1,1)] (fun((z0,z1,z2,z3,z4,z5,z6):(List DStep)×Int×Int×Int×(List Attr)×(List Elem)×DStep)=>(.t (z0c z6),[(0,.box [VL 4 z0c z0,VI z1]),(1,.box [VI z2,VI z3,VL 2 attrT z4,VL 3 elemT z5])])) _ _ (pr e22 (pr e23 (pr e24 (pr e25 (pr e26 (pr e27 e28))))))
end Go.Ch
end
section
set_option linter.unusedVariables false
set_option linter.unusedSimpArgs false
namespace Go.Ch
open Go Go.Ab
def ruD(l:List DStep)(u:Int):List DU:=(exD l).drop u.toNat
structure GoodRD(l:List DStep)(u:Int):Prop where
 ok:∀s∈l,DOk s
 pos:0≤u
 lt:0<l.length→u<szD (l.getD 0 default)
 nil:l.length=0→u=0
theorem y3V{s:DStep}(h:DOk s):((exS s).length:Int)=szD s:=by
 unfold exS szD
 rcases h with⟨k,_⟩| ⟨k,_,_,n1,_⟩
 ·rw[if_pos k,if_pos k,List.length_map]
 ·have k1:¬s.kind=1:=by omega
  rw[if_neg k1,if_neg k1]
  split<;>rw[List.length_replicate]<;>omega
theorem ruD0(l:List DStep):ruD l 0=exD l:=rfl
theorem z2l{l:List DStep}{u:Int}(h:l.length=0):ruD l u=[]:=by
 rw[List.length_eq_zero_iff.1 h];unfold ruD;simp[exD]
theorem z56{l:List DStep}{u n:Int}(ho:DOk (l.getD 0 default))(hu:0≤u)(hn:0≤n)(hl:u+n≤szD (l.getD 0 default)):
 (exS (l.getD 0 default)).drop u.toNat=exS (tkE l u n)++(exS (l.getD 0 default)).drop (u+n).toNat:=by
 unfold tkE
 generalize l.getD 0 default=s at*
 have hz:(u+n).toNat=u.toNat+n.toNat:=by omega
 unfold szD at hl
 by_cases k1:s.kind=1
 ·rw[if_pos k1] at hl⊢
  unfold exS
  simp only[if_pos k1]
  rw[←List.map_drop,←List.map_drop,←List.map_append]
  congr 1
  conv=>lhs;rw[←List.take_append_drop (u+n).toNat s.elems]
  rw[List.drop_append_of_le_length (by rw[List.length_take];omega)]
 ·rw[if_neg k1] at hl⊢
  unfold exS
  simp only[if_neg k1]
  split
  ·rw[List.drop_replicate,List.drop_replicate,List.replicate_append_replicate];congr 1;omega
  ·rw[List.drop_replicate,List.drop_replicate,List.replicate_append_replicate];congr 1;omega
theorem z2V{l:List DStep}{u n:Int}(h:GoodRD l u)(h0:0<l.length)(hn:0≤n)(hl:u+n≤szD (l.getD 0 default)):
 GoodRD (tkL l u n) (tkN l u n)∧ruD l u=exS (tkE l u n)++ruD (tkL l u n) (tkN l u n):=by
 have ho:DOk (l.getD 0 default):=h.ok _ (z0z h0)
 have hz:=y3V ho
 have hp:=h.pos
 have hs:=z56 ho hp hn hl
 have hd:=dropD (l:=l) (i:=0) h0
 rw[List.drop_zero] at hd
 have he:exD l=exS (l.getD 0 default)++exD (l.drop 1):=by conv=>lhs;rw[hd,exD]
 have hlt:=h.lt h0
 unfold tkL tkN
 by_cases e:u+n=szD (l.getD 0 default)
 ·rw[if_pos e,if_pos e]
  refine⟨⟨fun s hs=>h.ok s (List.mem_of_mem_drop hs),Int.le_refl _,fun h1=> ?_,fun _=>rfl⟩,?_⟩
  ·have:=z01 (z0K.2 (h.ok _ (List.mem_of_mem_drop (z0z h1))))
   omega
  ·rw[ruD0]
   unfold ruD
   rw[he,List.drop_append_of_le_length (by omega),hs,List.drop_eq_nil_of_le (show(exS (l.getD 0 default)).length≤(u+n).toNat by omega),List.append_nil]
 ·rw[if_neg e,if_neg e]
  refine⟨⟨h.ok,by omega,fun _=>by omega,fun h1=>by omega⟩,?_⟩
  unfold ruD
  rw[he,List.drop_append_of_le_length (by omega),List.drop_append_of_le_length (by omega),hs,List.append_assoc]
end Go.Ch
end
section
set_option linter.unusedVariables false
set_option linter.unusedSimpArgs false
namespace Go.Ch
open Go Go.Ab
theorem jd_C(n:Nat)(p q:List DU):z0m (List.replicate n .C++p) q=List.replicate n .C++z0m p q:=by
 induction n with
 |zero=>rfl
 |succ n ih=>rw[List.replicate_succ,List.cons_append,z0m,ih,List.cons_append]
def NoCD:List DU→Prop
 | .C::_=>False
 |_=>True
theorem jd_A1{p:List DU}(hp:NoCD p)(e:Elem)(q:List DU):z0m p (.A e::q)= .A e::z0m p q:=by
 rw[z0m]
 intro p' h
 subst h
 exact hp
theorem jd_A(e:List Elem){p:List DU}(hp:NoCD p)(q:List DU):z0m p (e.map .A++q)=e.map .A++z0m p q:=by
 induction e with
 |nil=>rfl
 |cons x e ih=>rw[List.map_cons,List.cons_append,jd_A1 hp,ih,List.cons_append]
theorem jd_KK(n:Nat)(c d:List Attr)(p q:List DU):z0m (List.replicate n (.K c)++p) (List.replicate n (.K d)++q)=List.replicate n (.K (fm botG c d))++z0m p q:=by
 induction n with
 |zero=>rfl
 |succ n ih=>rw[List.replicate_succ,List.replicate_succ,List.replicate_succ,List.cons_append,List.cons_append,z0m,ih,List.cons_append]
theorem jd_KC(n:Nat)(c:List Attr)(p q:List DU):z0m (List.replicate n (.K c)++p) (List.replicate n .C++q)=List.replicate n .C++z0m p q:=by
 induction n with
 |zero=>rfl
 |succ n ih=>rw[List.replicate_succ,List.replicate_succ,List.cons_append,List.cons_append,z0m,ih,List.cons_append]
theorem jd_AK(e:List Elem)(d:List Attr)(p q:List DU):z0m (e.map .A++p) (List.replicate e.length (.K d)++q)=(e.map (chgE d)).map .A++z0m p q:=by
 induction e with
 |nil=>rfl
 |cons x e ih=>rw[List.map_cons,List.length_cons,List.replicate_succ,List.cons_append,List.cons_append,z0m,ih];rfl
theorem jd_AC(e:List Elem)(p q:List DU):z0m (e.map .A++p) (List.replicate e.length .C++q)=z0m p q:=by
 induction e with
 |nil=>rfl
 |cons x e ih=>rw[List.map_cons,List.length_cons,List.replicate_succ,List.cons_append,List.cons_append,z0m,ih]
end Go.Ch
end
section
set_option linter.unusedVariables false
set_option linter.unusedSimpArgs false
namespace Go.Ch
open Go Go.Ab
structure JD(w:DWr)(ps:List DStep)(pu:Int)(qs:List DStep)(qu:Int)(T:Nat)(G:DWr):Prop where
 gp:GoodRD ps pu
 gq:GoodRD qs qu
 dp:DN 100000000000 ps
 dq:DN 100000000000 qs
 eq:newN (ruD ps pu)=oldN (ruD qs qu)
 di:DI w (z0m (ruD ps pu) (ruD qs qu)) T G
def jmD(ps:List DStep)(pu:Int)(qs:List DStep)(qu:Int):Nat:=(ruD ps pu).length+(ruD qs qu).length
theorem dn_tk{m:Nat}{l:List DStep}{u n:Int}(h:DN m l):DN m (tkL l u n):=by
 unfold tkL;split
 ·exact fun s hs=>h s (List.mem_of_mem_drop hs)
 ·exact h
theorem exS_C{l:List DStep}{u n:Int}(k:(l.getD 0 default).kind=2):exS (tkE l u n)=List.replicate n.toNat .C:=by
 unfold tkE
 rw[if_neg (by omega)]
 unfold exS
 simp only
 rw[if_neg (by omega),if_pos k]
theorem exS_A{l:List DStep}{u n:Int}(k:(l.getD 0 default).kind=1):exS (tkE l u n)=(tkE l u n).elems.map .A:=by
 unfold tkE
 rw[if_pos k]
 unfold exS
 simp only
 rw[if_pos k]
theorem exS_K{l:List DStep}{u n:Int}(k:(l.getD 0 default).kind=0):exS (tkE l u n)=List.replicate n.toNat (.K (l.getD 0 default).attrs):=by
 unfold tkE
 rw[if_neg (by omega)]
 unfold exS
 simp only
 rw[if_neg (by omega),if_neg (by omega)]
section
variable {w:DWr} {ps qs:List DStep} {pu qu:Int} {T:Nat} {G:DWr}
theorem JD.cut(h:JD w ps pu qs qu T G)(h0:0<ps.length)(hk:(ps.getD 0 default).kind=2){n:Int}(hn:n=szD (ps.getD 0 default)- pu):
 JD ⟨w.out,w.add,w.cut+n⟩ (tkL ps pu n) (tkN ps pu n) qs qu T G∧jmD (tkL ps pu n) (tkN ps pu n) qs qu<jmD ps pu qs qu:=by
 have hl:=h.gp.lt h0
 obtain⟨g,e⟩:=z2V (n:=n) h.gp h0 (by omega) (by omega)
 rw[exS_C hk] at e
 have hd:=h.di
 have he:=h.eq
 rw[e,jd_C] at hd
 rw[e,z1o,(z2k _).2] at he
 have hd2:=hd.cuts
 rw[show((n.toNat:Nat):Int)=n by omega] at hd2
 refine⟨⟨g,h.gq,dn_tk h.dp,h.dq,by omega,hd2⟩,?_⟩
 unfold jmD
 rw[e,List.length_append,List.length_replicate]
 omega
theorem noCD{l:List DStep}{u:Int}(h:GoodRD l u)(hk:0<l.length→(l.getD 0 default).kind≠2):NoCD (ruD l u):=by
 by_cases h0:0<l.length
 ·have hl:=h.lt h0
  have hp:=h.pos
  have k2:=hk h0
  obtain⟨g,e⟩:=z2V (n:=1) h h0 (by decide) (by omega)
  have hs:=(z01 (z0K.2 (h.ok _ (z0z h0)))).1
  rcases hs with k|k|k
  ·rw[e,exS_K k];trivial
  ·rw[e,exS_A k]
   have hem:(tkE l u 1).elems.length=1:=by
    unfold tkE
    rw[if_pos k]
    simp only[List.length_drop,List.length_take]
    have:szD (l.getD 0 default)=(l.getD 0 default).elems.length:=by unfold szD;rw[if_pos k]
    omega
   generalize(tkE l u 1).elems=z at hem
   cases z with
   |nil=>simp at hem
   |cons x r=>trivial
  ·exact absurd k k2
 ·rw[z2l (by omega)];trivial
theorem JD.add(h:JD w ps pu qs qu T G)(hp:0<ps.length→(ps.getD 0 default).kind≠2)(h0:0<qs.length)(hk:(qs.getD 0 default).kind=1){n:Int}(hn:n=szD (qs.getD 0 default)- qu):
 JD ⟨w.out,w.add++(tkE qs qu n).elems,w.cut⟩ ps pu (tkL qs qu n) (tkN qs qu n) T G:=by
 have hl:=h.gq.lt h0
 obtain⟨g,e⟩:=z2V (n:=n) h.gq h0 (by omega) (by omega)
 rw[exS_A hk] at e
 have hd:=h.di
 have he:=h.eq
 rw[e,jd_A _ (noCD h.gp hp)] at hd
 rw[e,z0E,(z2j _).1] at he
 exact⟨h.gp,g,h.dp,dn_tk h.dq,by omega,hd.elems⟩
theorem z3G{l:List DStep}{u n:Int}(k:(l.getD 0 default).kind=1)(hu:0≤u)(hn:0≤n)(hl:u+n≤szD (l.getD 0 default)):(tkE l u n).elems.length=n.toNat:=by
 unfold tkE
 rw[if_pos k]
 simp only[List.length_drop,List.length_take]
 have:szD (l.getD 0 default)=(l.getD 0 default).elems.length:=by unfold szD;rw[if_pos k]
 omega
theorem JD.both(h:JD w ps pu qs qu T G)(a:0<ps.length)(b:0<qs.length)(kp:(ps.getD 0 default).kind≠2)(kq:(qs.getD 0 default).kind≠1){n:Int}(hn:n=min (szD (ps.getD 0 default)- pu) (szD (qs.getD 0 default)- qu)):
 (((ps.getD 0 default).kind=0∧(qs.getD 0 default).kind=0→JD ⟨keepD (z0a w) n (fm botG (ps.getD 0 default).attrs (qs.getD 0 default).attrs),[],0⟩ (tkL ps pu n) (tkN ps pu n) (tkL qs qu n) (tkN qs qu n) T G)∧
 ((ps.getD 0 default).kind=0∧(qs.getD 0 default).kind=2→JD ⟨w.out,w.add,w.cut+n⟩ (tkL ps pu n) (tkN ps pu n) (tkL qs qu n) (tkN qs qu n) T G)∧
 ((ps.getD 0 default).kind=1∧(qs.getD 0 default).kind=0→JD ⟨w.out,w.add++(tkE ps pu n).elems.map (chgE (qs.getD 0 default).attrs),w.cut⟩ (tkL ps pu n) (tkN ps pu n) (tkL qs qu n) (tkN qs qu n) T G)∧
 ((ps.getD 0 default).kind=1∧(qs.getD 0 default).kind=2→JD w (tkL ps pu n) (tkN ps pu n) (tkL qs qu n) (tkN qs qu n) T G))∧
 jmD (tkL ps pu n) (tkN ps pu n) (tkL qs qu n) (tkN qs qu n)< jmD ps pu qs qu:=by
 have l1:=h.gp.lt a
 have l2:=h.gq.lt b
 have p1:=h.gp.pos
 have p2:=h.gq.pos
 obtain⟨g1,e1⟩:=z2V (n:=n) h.gp a (by omega) (by omega)
 obtain⟨g2,e2⟩:=z2V (n:=n) h.gq b (by omega) (by omega)
 have hd:=h.di
 have he:=h.eq
 have k1:=(z01 (z0K.2 (h.gp.ok _ (z0z a)))).1
 have k2:=(z01 (z0K.2 (h.gq.ok _ (z0z b)))).1
 refine⟨⟨fun k=> ?_,fun k=> ?_,fun k=> ?_,fun k=> ?_⟩,?_⟩
 ·rw[e1,e2,exS_K k.1,exS_K k.2] at hd he
  rw[jd_KK,show n.toNat=(n.toNat- 1)+1 by omega] at hd
  rw[z1o,z0E,(z1p _ _).1,(z1p _ _).2] at he
  have hd2:=hd.keep
  rw[show(((n.toNat- 1+1:Nat)):Int)=n by omega] at hd2
  exact⟨g1,g2,dn_tk h.dp,dn_tk h.dq,by omega,hd2⟩
 ·rw[e1,e2,exS_K k.1,exS_C k.2] at hd he
  rw[jd_KC] at hd
  rw[z1o,z0E,(z2k _).1,(z1p _ _).2] at he
  have hd2:=hd.cuts
  rw[show((n.toNat:Nat):Int)=n by omega] at hd2
  exact⟨g1,g2,dn_tk h.dp,dn_tk h.dq,by omega,hd2⟩
 ·have hz:=z3G (n:=n) k.1 p1 (by omega) (by omega)
  rw[e1,e2,exS_A k.1,exS_K k.2] at hd he
  rw[z1o,z0E,(z1p _ _).1,(z2j _).2] at he
  rw[←hz,jd_AK] at hd
  exact⟨g1,g2,dn_tk h.dp,dn_tk h.dq,by omega,hd.elems⟩
 ·have hz:=z3G (n:=n) k.1 p1 (by omega) (by omega)
  rw[e1,e2,exS_A k.1,exS_C k.2] at hd he
  rw[z1o,z0E,(z2k _).1,(z2j _).2] at he
  rw[←hz,jd_AC] at hd
  exact⟨g1,g2,dn_tk h.dp,dn_tk h.dq,by omega,hd⟩
 ·have hs:=y3V (h.gp.ok _ (z0z a))
  have hl:=congrArg List.length (z56 (n:=n) (h.gp.ok _ (z0z a)) p1 (by omega) (by omega))
  simp only[List.length_append,List.length_drop] at hl
  unfold jmD
  rw[e1,e2,List.length_append,List.length_append]
  omega
end
end Go.Ch
end
section
set_option linter.unusedVariables false
set_option linter.unusedSimpArgs false
namespace Go.Ch
open Go Go.Ab
theorem z81(p q:List DU)(hp:KOk p)(hq:KOk q):∀u∈z0m p q,z07 u:=by
 have okA:∀e:Elem,elemE e=0∧e.attrs.length≤100000000000→z07 (.A e):=fun e h=>⟨h.1,by omega⟩
 have okK:∀c:List Attr,VG true c∧c.length≤100000000000→z07 (.K c):=fun e h=>⟨h.1,by omega⟩
 have okU:∀us:List DU,KOk us→∀u∈us,z07 u:=fun us h u hu=>by
  cases u with
  |K c=>exact okK c (h.1 c hu)
  |A e=>exact okA e (h.2 e hu)
  |C=>trivial
 induction p,q using z0m.induct with
 |case1 q p ih=>
  rw[z0m]
  intro u hu
  rcases List.mem_cons.1 hu with rfl|hu
  ·trivial
  ·exact ih hp.tail hq u hu
 |case2 p e q hne ih=>
  rw[z0m]
  rotate_left
  ·exact hne
  intro u hu
  rcases List.mem_cons.1 hu with rfl|hu
  ·exact okA _ (hq.2 e (by simp))
  ·exact ih hp hq.tail u hu
 |case3 c p d q ih=>
  rw[z0m]
  intro u hu
  rcases List.mem_cons.1 hu with rfl|hu
  ·have h1:=hp.1 c (by simp)
   have h2:=hq.1 d (by simp)
   have:=z1q botG c d
   exact⟨bot_V np_mt h1.1 h2.1,by omega⟩
  ·exact ih hp.tail hq.tail u hu
 |case4 c p q ih=>
  rw[z0m]
  intro u hu
  rcases List.mem_cons.1 hu with rfl|hu
  ·trivial
  ·exact ih hp.tail hq.tail u hu
 |case5 e p d q ih=>
  rw[z0m]
  intro u hu
  rcases List.mem_cons.1 hu with rfl|hu
  ·have h1:=hp.2 e (by simp)
   have h2:=hq.1 d (by simp)
   have:=z1q rawG e.attrs d
   refine⟨y7o h1.1 h2.1,?_⟩
   show(fm rawG e.attrs d).length≤_
   omega
  ·exact ih hp.tail hq.tail u hu
 |case6 e p q ih=>
  rw[z0m]
  exact ih hp.tail hq.tail
 |case7 p hne=>
  rw[show z0m p []=p by unfold z0m;split<;>simp_all]
  exact okU _ hp
 |case8 q h1 h2=>
  rw[show z0m [] q=[] by unfold z0m;split<;>simp_all]
  intro u hu;cases hu
def joinD(a b:List DStep):List DStep:=doneD (z0m (exD a) (exD b))
theorem z7O{l:List DStep}(h:z0W l):GoodRD l 0:=⟨h.1.all,Int.le_refl _,fun h0=>by have:=z01 (z0K.2 (h.1.all _ (z0z h0)));omega,fun _=>rfl⟩
theorem z4X{l:List DStep}(h:z0W l):(oldN (exD l):Int)=oldD l∧(newN (exD l):Int)=newD l:=y3R (fun s hs=>okW (h.1.all s hs))
theorem z6S{a b:List DStep}(va:z0W a)(vb:z0W b)(da:DN 100000000000 a)(db:DN 100000000000 b)(hm:newD a=oldD b):
 (∀u∈z0m (exD a) (exD b),z07 u)∧(oldN (z0m (exD a) (exD b)):Int)=oldD a∧(newN (z0m (exD a) (exD b)):Int)=newD b∧
 JD ⟨[],[],0⟩ a 0 b 0 (z0m (exD a) (exD b)).length (foldD ⟨[],[],0⟩ (z0m (exD a) (exD b)))∧z0W (joinD a b)∧DSw (exD (joinD a b)) (z0m (exD a) (exD b))∧
 oldD (joinD a b)=oldD a∧newD (joinD a b)=newD b:=by
 have hu:=z81 _ _ (exD_K va.1.all da) (exD_K vb.1.all db)
 have la:=z4X va
 have lb:=z4X vb
 have hl:=z09 _ (exD a) (exD b) (Nat.le_refl _) (by omega)
 have hs:=z9Y (z0m (exD a) (exD b))
 have a1:=va.2.1
 have b1:=vb.2.2
 obtain⟨d1,d2,d3,d4⟩:=z3l hu (by omega) (by omega)
 exact⟨hu,by omega,by omega,⟨z7O va,z7O vb,da,db,by rw[ruD0,ruD0];omega,by rw[ruD0,ruD0];exact DI.start hu (by omega)⟩,d1,d2,by unfold joinD;omega,by unfold joinD;omega⟩
theorem y1p{l:List DStep}{u:Int}(h:GoodRD l u)(h0:0<l.length):((l.getD 0 default).kind≠1→1≤oldN (ruD l u))∧((l.getD 0 default).kind≠2→1≤newN (ruD l u)):=by
 have hl:=h.lt h0
 have hp:=h.pos
 obtain⟨g,e⟩:=z2V (n:=1) h h0 (by decide) (by omega)
 have hs:=(z01 (z0K.2 (h.ok _ (z0z h0)))).1
 rcases hs with k|k|k
 ·rw[e,exS_K k,z0E,z1o,(z1p _ _).1,(z1p _ _).2];constructor<;>intro _<;>omega
 ·have hz:=z3G (n:=1) k hp (by omega) (by omega)
  rw[e,exS_A k,z0E,z1o,(z2j _).1,(z2j _).2,hz];constructor<;>intro _<;>omega
 ·rw[e,exS_C k,z0E,z1o,(z2k _).1,(z2k _).2];constructor<;>intro _<;>omega
variable {w:DWr} {ps qs:List DStep} {pu qu:Int} {T:Nat} {G:DWr}
theorem JD.two(h:JD w ps pu qs qu T G)(h0:0<ps.length∨0<qs.length)(hp:0<ps.length→(ps.getD 0 default).kind≠2)(hq:0<qs.length→(qs.getD 0 default).kind≠1):0<ps.length∧0<qs.length:=by
 have he:=h.eq
 rcases Nat.eq_zero_or_pos ps.length with a|a
 ·rcases Nat.eq_zero_or_pos qs.length with b|b
  ·omega
  ·have:=(y1p h.gq b).1 (hq b)
   rw[z2l a] at he
   simp only[newN] at he
   omega
 ·rcases Nat.eq_zero_or_pos qs.length with b|b
  ·have:=(y1p h.gp a).2 (hp a)
   rw[z2l b] at he
   simp only[oldN] at he
   omega
  ·exact⟨a,b⟩
theorem JD.done(h:JD w ps pu qs qu T G)(a:ps.length=0)(b:qs.length=0):w=G:=by
 have:=h.di
 rw[z2l a,z2l b] at this
 exact DI.done (by simpa[z0m] using this)
theorem JD.add2(h:JD w ps pu qs qu T G)(hp:0<ps.length→(ps.getD 0 default).kind≠2)(h0:0<qs.length)(hk:(qs.getD 0 default).kind=1){n:Int}(hn:n=szD (qs.getD 0 default)- qu):
 jmD ps pu (tkL qs qu n) (tkN qs qu n)< jmD ps pu qs qu:=by
 have hl:=h.gq.lt h0
 obtain⟨g,e⟩:=z2V (n:=n) h.gq h0 (by omega) (by omega)
 have hz:=z3G (n:=n) hk h.gq.pos (by omega) (by omega)
 rw[exS_A hk] at e
 unfold jmD
 rw[e,List.length_append,List.length_map,hz]
 omega
theorem z2P{l:List DStep}{u:Int}(h:GoodRD l u):(kindD l= -1∧l.length=0)∨(kindD l=(l.getD 0 default).kind∧0<l.length∧(kindD l=0∨kindD l=1∨kindD l=2)):=by
 unfold kindD
 split
 ·rename_i h0;exact .inl ⟨rfl,h0⟩
 ·rename_i h0
  have h0':0<l.length:=by omega
  have hs:=(z01 (z0K.2 (h.ok _ (z0z h0')))).1
  exact .inr ⟨rfl,by omega,hs⟩
theorem k01{l:List DStep}{u:Int}(h:GoodRD l u)(h0:0<l.length)(k:(l.getD 0 default).kind≠2):(l.getD 0 default).kind=0∨(l.getD 0 default).kind=1:=by
 have:=(z01 (z0K.2 (h.ok _ (z0z h0)))).1
 omega
theorem k02{l:List DStep}{u:Int}(h:GoodRD l u)(h0:0<l.length)(k:(l.getD 0 default).kind≠1):(l.getD 0 default).kind=0∨(l.getD 0 default).kind=2:=by
 have:=(z01 (z0K.2 (h.ok _ (z0z h0)))).1
 omega
theorem z4Y{l:List DStep}{u:Int}(h:GoodRD l u)(hd:DN 100000000000 l)(h0:0<l.length):0≤u∧u<szD (l.getD 0 default)∧szD (l.getD 0 default)≤100000000000∧
 (l.getD 0 default).attrs.length≤100000000000∧(l.getD 0 default).elems.length≤100000000000∧AN 100000000000 (l.getD 0 default).elems:=by
 have hs:=z01 (z0K.2 (h.ok _ (z0z h0)))
 obtain⟨b1,b2,b3⟩:=hd _ (z0z h0)
 have hl:=h.lt h0
 exact⟨h.pos,hl,by omega,b2,b1,b3⟩
theorem szD_k{l:List DStep}{u:Int}(h:GoodRD l u)(h0:0<l.length)(k:(l.getD 0 default).kind≠1):szD (l.getD 0 default)≤2147483647:=by
 have hs:=z01 (z0K.2 (h.ok _ (z0z h0)))
 have:szD (l.getD 0 default)=(l.getD 0 default).n:=by unfold szD;rw[if_neg k]
 omega
theorem z5j(l:List DStep)(u n:Int):(tkE l u n).kind=(l.getD 0 default).kind:=by unfold tkE;split<;>rfl
theorem z4f(l:List DStep)(u n:Int):(tkE l u n).attrs=(l.getD 0 default).attrs:=by unfold tkE;split<;>rfl
theorem tkE_n{l:List DStep}{u n:Int}(h:(l.getD 0 default).kind≠1):(tkE l u n).n=n:=by unfold tkE;rw[if_neg h]
theorem y1q{l:List DStep}{u n:Int}{m:Nat}(h:AN m (l.getD 0 default).elems):AN m (tkE l u n).elems:=by
 unfold tkE
 split
 ·exact fun x hx=>h x (List.mem_of_mem_take (List.mem_of_mem_drop hx))
 ·exact h
theorem an_up{m k:Nat}{l:List Elem}(h:AN m l)(hm:m≤k):AN k l:=fun x hx=>Nat.le_trans (h x hx) hm
theorem y8x{m k:Nat}{l:List Elem}{c:List Attr}(h:AN m l)(hm:m+c.length≤k):AN k (l.map (chgE c)):=fun x hx=>by
 obtain⟨y,hy,rfl⟩:=List.mem_map.1 hx
 have h1:=h y hy
 have:=z1q rawG y.attrs c
 show(fm rawG y.attrs c).length≤k
 omega
end Go.Ch
end
section
set_option linter.unusedVariables false
set_option linter.unusedSimpArgs false
set_option maxRecDepth 100000
set_option maxHeartbeats 4000000
open Go Go.Proofs Go.Ab
namespace Go.Ch
theorem z1O(l:List DStep)(u n:Int)(s:DStep)(hs:tkE l u n=s)(h0:0<l.length)(hu:0≤u∧0≤n∧u+n≤szD (l.getD 0 default)∧u+n≤9223372036854775807):
 FC Tryz.prog 108 [.ptr 0 0,VI n] (app emp [(0,.box [VL 4 z0c l,VI u])]) (.t (z0c s)) (app emp [(0,.box [VL 4 z0c (tkL l u n),VI (tkN l u n)]),(1,.box [VI s.kind,VI s.n,VL 2 attrT s.attrs,VL 3 elemT s.elems])]):=hs▸y5G l u n h0 hu
theorem y1r(a b:List DStep)(va:z0W a)(vb:z0W b)(da:DN 100000000000 a)(db:DN 100000000000 b)(hm:newD a=oldD b):FC Tryz.prog 71 [VL 4 z0c a,VL 4 z0c b] (app emp []) (.tup [VL 4 z0c (joinD a b),VI 0]) (app emp []):=by
 refine .go Tryz.f71 ?_
 refine .len 0 (fun hl0=> ?_)
 refine .len 1 (fun hl1=> ?_)
 have ca:=z0S.2 va
 have cb:=z0S.2 vb
 have da4:=da.mono (n:=400000000000) (by decide)
 have db4:=db.mono (n:=400000000000) (by decide)
 obtain⟨_,_,_,st,vj,_⟩:=z6S va vb da db hm
 have cj:=z0S.2 vj
 refine .bp [.r [],.r [(1,X (Xc0 (z1N a (by assumption)) X0))],.r []] ((z0V a) !=0) (fun h2=> ?_) (fun h2=> ?_)
 ·
  exfalso
  omega
 ·
  refine .bp [.r [(1,X (Xc0 (z1N b (by assumption)) X0))],.r []] ((z0V b) !=0) (fun h5=> ?_) (fun h5=> ?_)
  ·
   exfalso
   omega
  ·
   refine .bp [.r [(1,X (Xc0 (z4b a (by assumption)) X0))],.r [(1,X (Xc0 (z4b b (by assumption)) X0))],.r []] ((oldD b) !=(newD a)) (fun h9=> ?_) (fun h9=> ?_)
   ·
    exfalso
    omega
   ·
    refine .loop (α:=Int×(List DStep)×(List Elem)×(List DStep)×Int×(List DStep)×Int) [.r [],.le (.nB 232 0 4),.le (.nB 232 1 3),.r []] 306 (fun(y,o,x,ps,pu,qs,qu)=>([(12,.ptr 232 0),(13,.ptr 258 0),(14,.ptr 282 0)],[(232,.box [.row 240 o.length,.row 241 x.length,VI y]),(240,OR 4 z0c o),(241,OR 3 elemT x),(258,.box [VL 4 z0c ps,VI pu]),(282,.box [VL 4 z0c qs,VI qu])])) (fun(y,o,x,ps,pu,qs,qu)=>JD ⟨o,x,y⟩ ps pu qs qu (z0m (exD a) (exD b)).length (foldD ⟨[],[],0⟩ (z0m (exD a) (exD b)))) (fun(y,o,x,ps,pu,qs,qu)=>jmD ps pu qs qu) (0,[],[],a,0,b,0) ?_ ?_
    ·
     exact st
    rintro⟨y,o,x,ps,pu,qs,qu⟩ I13 ih13
    try dsimp only at I13
    have kp:=z2P I13.gp
    have kq:=z2P I13.gq
    have hb:=I13.di.bd
    simp only at hb
    have hf:=I13.di.fl.1
    refine .bp [.r [(1,X (Xc4 [(0,258)] (z2g ps pu) X0)),(5,Xv 1 (!(decide ((kindD ps)≥0))) (Xc4 [(0,282)] (z2g qs qu) X0)),(6,Xv 1 (!(decide ((kindD ps)≥0))) X0),(7,X (Xk' (decide ((kindD ps)≥0))))]] (decide ((kindD ps)≥0)||decide ((kindD qs)≥0)) (fun h13=> ?_) (fun h13=> ?_)
    ·
     refine .bp [.r [(1,X (Xc4 [(0,258)] (z2g ps pu) X0))]] ((kindD ps)==2) (fun h14=> ?_) (fun h14=> ?_)
     ·
      have lp0:0<ps.length:=by omega
      have k1:(ps.getD 0 default).kind=2:=by omega
      clear kp kq
      have sp:=z4Y I13.gp I13.dp lp0
      obtain⟨s,hs⟩:∃z,tkE ps pu (szD (ps.getD 0 default)- pu)=z:=⟨_,rfl⟩
      have hn:s.n=szD (ps.getD 0 default)- pu:=by rw[←hs];exact tkE_n (by omega)
      have hC:=JD.cut I13 lp0 k1 rfl
      refine .back [.r [(4,X (Xc4 [(0,258)] (z2h ps pu (by omega) (by omega)) X0)),(5,X (Xc3 442 [(0,258)] (z1O ps pu (szD (ps.getD 0 default)- pu) s hs (by omega) (by omega)) X0)),(7,X (Xn (y+s.n)))]] [(232,232),(240,240),(241,241),(258,258),(282,282)] (ih13 ((y+s.n),o,x,(tkL ps pu (szD (ps.getD 0 default)- pu)),(tkN ps pu (szD (ps.getD 0 default)- pu)),qs,qu) ?_ ?_)
      ·
       rw[hn];exact hC.1
      ·
       exact hC.2
     ·
      refine .bp [.r [(1,X (Xc4 [(0,282)] (z2g qs qu) X0))]] ((kindD qs)==1) (fun h16=> ?_) (fun h16=> ?_)
      ·
       have lq0:0<qs.length:=by omega
       have k2:(qs.getD 0 default).kind=1:=by omega
       have k1:0<ps.length→(ps.getD 0 default).kind≠2:=fun h=>by omega
       clear kp kq
       have sq:=z4Y I13.gq I13.dq lq0
       obtain⟨s,hs⟩:∃z,tkE qs qu (szD (qs.getD 0 default)- qu)=z:=⟨_,rfl⟩
       have hA:=JD.add I13 k1 lq0 k2 rfl
       have hA2:=JD.add2 I13 k1 lq0 k2 rfl
       have hAn:=an_up (y1q (u:=qu) (n:=szD (qs.getD 0 default)- qu) sq.2.2.2.2.2) (k:=400000000000) (by decide)
       rw[hs] at hA hAn
       have hAb:=hA.di.bd
       simp only[List.length_append] at hAb
       refine .back [.r [(2,X (Xc4 [(0,282)] (z2h qs qu (by omega) (by omega)) X0)),(3,X (Xc3 458 [(0,282)] (z1O qs qu (szD (qs.getD 0 default)- qu) s hs (by omega) (by omega)) X0)),(5,X (Xc3 474 [(0,232),(1,240),(2,241)] (z2D o x y s.elems (by assumption) (by omega)) X0))]] [(232,232),(240,240),(241,241),(258,258),(282,282)] (ih13 (y,o,(x++s.elems),ps,pu,(tkL qs qu (szD (qs.getD 0 default)- qu)),(tkN qs qu (szD (qs.getD 0 default)- qu))) ?_ ?_)
       ·
        exact hA
       ·
        exact hA2
      ·
       obtain⟨lp0,lq0⟩:=JD.two I13 (by omega) (fun h=>by omega) (fun h=>by omega)
       have k1:(ps.getD 0 default).kind≠2:=by omega
       have k3:(qs.getD 0 default).kind≠1:=by omega
       have sk:=fun _:Unit=>k01 I13.gp lp0 k1
       have tk:=fun _:Unit=>k02 I13.gq lq0 k3
       have hB1:=fun n=>JD.both (n:=n) I13 lp0 lq0 k1 k3
       clear kp kq h13 h14 h16 k1 k3
       have sp:=z4Y I13.gp I13.dp lp0
       have sq:=z4Y I13.gq I13.dq lq0
       obtain⟨m,hmm⟩:∃z,min (szD (ps.getD 0 default)- pu) (szD (qs.getD 0 default)- qu)=z:=⟨_,rfl⟩
       have hB:=hB1 m hmm.symm
       have m1:1≤m∧m≤szD (ps.getD 0 default)- pu∧m≤szD (qs.getD 0 default)- qu∧m≤100000000000:=by omega
       have m2:pu+m≤szD (ps.getD 0 default)∧qu+m≤szD (qs.getD 0 default):=by omega
       obtain⟨s,hs⟩:∃z,tkE ps pu m=z:=⟨_,rfl⟩
       obtain⟨t,ht⟩:∃z,tkE qs qu m=z:=⟨_,rfl⟩
       have ek1:=z5j ps pu m
       have ek2:=z5j qs qu m
       have ea1:=z4f ps pu m
       have ea2:=z4f qs qu m
       have hE0:=y1q (u:=pu) (n:=m) sp.2.2.2.2.2
       rw[hs] at ek1 ea1 hE0
       rw[ht] at ek2 ea2
       have al:s.attrs.length≤100000000000∧t.attrs.length≤100000000000:=by rw[ea1,ea2];omega
       rw[hs,←ea1,←ea2,←ek1,←ek2] at hB
       rw[←ek1] at sk
       rw[←ek2] at tk
       clear hB1
       refine .bp [.r [(1,X (Xc4 [(0,258)] (z2h ps pu (by omega) (by omega)) X0)),(3,X (Xc4 [(0,282)] (z2h qs qu (by omega) (by omega)) X0)),(4,X (Xmin (szD (ps.getD 0 default)- pu) (szD (qs.getD 0 default)- qu)))],.le (.eq 15 (VI (min (szD (ps.getD 0 default)- pu) (szD (qs.getD 0 default)- qu))) (VI m) (.of_eq (by rw[hmm]))),.r [(2,X (Xc3 498 [(0,258)] (z1O ps pu m s hs (by omega) (by omega)) X0)),(5,X (Xc3 522 [(0,282)] (z1O qs qu m t ht (by omega) (by omega)) X0))],.r [(5,Xv 1 (s.kind==0) X0),(6,Xv 1 (s.kind==0) X0),(7,X (Xk (s.kind==0)))]] ((s.kind==0)&&(t.kind==0)) (fun h20=> ?_) (fun h20=> ?_)
       ·
        have fl:=z1q botG s.attrs t.attrs
        have mk:=szD_k I13.gp lp0 (by rw[←ek1,h20.1];decide)
        refine .back [.r [(5,X (Xc1 674 (y5j s.attrs t.attrs (by omega)) X0)),(6,X (Xc3 682 [(0,232),(1,240),(2,241)] (z2O o x y m (fm botG s.attrs t.attrs) (by omega) (by first|omega|simp) (by omega) (by first|assumption|exact kbd (by assumption))) X0))]] [(232,232),(240,240),(682,241),(258,258),(282,282)] (ih13 (0,(keepD (z0a ⟨o,x,y⟩) m (fm botG s.attrs t.attrs)),[],(tkL ps pu m),(tkN ps pu m),(tkL qs qu m),(tkN qs qu m)) ?_ ?_)
        ·
         exact hB.1.1 h20
        ·
         exact hB.2
       ·
        refine .bp [.r []] (s.kind==0) (fun h22=> ?_) (fun h22=> ?_)
        ·
         refine .back [.r [(3,X (Xn (y+m)))]] [(232,232),(240,240),(241,241),(258,258),(282,282)] (ih13 ((y+m),o,x,(tkL ps pu m),(tkN ps pu m),(tkL qs qu m),(tkN qs qu m)) ?_ ?_)
         ·
          exact hB.1.2.1 ⟨h22,(tk ()).resolve_left (h20.resolve_left (fun h=>h h22))⟩
         ·
          exact hB.2
        ·
         refine .bp [.r []] (t.kind==0) (fun h24=> ?_) (fun h24=> ?_)
         ·
          refine .at 698 [(232,232),(240,240),(241,241),(258,258),(282,282),(530,530),(538,538)] ([(12,.ptr 232 0),(13,.ptr 258 0),(14,.ptr 282 0),(16,.ptr 530 0),(17,.ptr 538 0),(114,VB (t.kind==0))],[(232,.box [.row 240 o.length,.row 241 x.length,VI y]),(240,OR 4 z0c o),(241,OR 3 elemT x),(258,.box [VL 4 z0c (tkL ps pu m),VI (tkN ps pu m)]),(282,.box [VL 4 z0c (tkL qs qu m),VI (tkN qs qu m)]),(530,.box [VI s.kind,VI s.n,VL 2 attrT s.attrs,VL 3 elemT s.elems]),(538,.box [VI t.kind,VI t.n,VL 2 attrT t.attrs,VL 3 elemT t.elems])]) ?_
          have hE1:∀x∈s.elems,x.attrs.length+t.attrs.length<1099511627776:=fun x hx=>by have:=hE0 x hx;omega
          have hE2:=y8x hE0 (c:=t.attrs) (k:=400000000000) (by omega)
          have hE4:(List.map (chgE t.attrs) s.elems).length=s.elems.length:=List.length_map _
          have s1:=(sk ()).resolve_left h22
          have hE3:s.elems.length=m.toNat:=by rw[←hs];exact z3G (by rw[←ek1];exact s1) sp.1 (by omega) m2.1
          have hA:=hB.1.2.2.1 ⟨s1,h24⟩
          have hAb:=hA.di.bd
          simp only[List.length_append,List.length_map] at hAb
          clear h20 h22
          refine .back [.r [(4,X (Xc1 730 (z6Q s.elems t.attrs (by omega) (by assumption)) X0)),(5,X (Xc3 738 [(0,232),(1,240),(2,241)] (z2D o x y (List.map (chgE t.attrs) s.elems) (by assumption) (by omega)) X0))]] [(232,232),(240,240),(241,241),(258,258),(282,282)] (ih13 (y,o,(x++(List.map (chgE t.attrs) s.elems)),(tkL ps pu m),(tkN ps pu m),(tkL qs qu m),(tkN qs qu m)) ?_ ?_)
          ·
           exact hA
          ·
           exact hB.2
         ·
          refine .at 698 [(232,232),(240,240),(241,241),(258,258),(282,282),(530,530),(538,538)] ([(12,.ptr 232 0),(13,.ptr 258 0),(14,.ptr 282 0),(16,.ptr 530 0),(17,.ptr 538 0),(114,VB (t.kind==0))],[(232,.box [.row 240 o.length,.row 241 x.length,VI y]),(240,OR 4 z0c o),(241,OR 3 elemT x),(258,.box [VL 4 z0c (tkL ps pu m),VI (tkN ps pu m)]),(282,.box [VL 4 z0c (tkL qs qu m),VI (tkN qs qu m)]),(530,.box [VI s.kind,VI s.n,VL 2 attrT s.attrs,VL 3 elemT s.elems]),(538,.box [VI t.kind,VI t.n,VL 2 attrT t.attrs,VL 3 elemT t.elems])]) ?_
          refine .back [] [(232,232),(240,240),(241,241),(258,258),(282,282)] (ih13 (y,o,x,(tkL ps pu m),(tkN ps pu m),(tkL qs qu m),(tkN qs qu m)) ?_ ?_)
          ·
           exact hB.1.2.2.2 ⟨(sk ()).resolve_left h22,(tk ()).resolve_left h24⟩
          ·
           exact hB.2
    ·
     have hG:=JD.done I13 (by omega) (by omega)
     have hfx:z0a ⟨o,x,y⟩=joinD a b:=by rw[hG];rfl
     have hcd:z0V (z0a ⟨o,x,y⟩)=0:=by rw[hfx];exact cj
     have hfl2:=I13.di.fl.2
     have e1:((joinD a b):List DStep)=(z0a ⟨o,x,y⟩):=by
      rw[hfx]
     exact .finE [.r [(0,X (Xc3 370 [(0,232),(1,240),(2,241)] (z5i o x y (by omega) (by assumption) (by assumption)) X0))],.le (.fr 4 [(((z0a ⟨o,x,y⟩).length):Nat)=(List.map z0c (z0a ⟨o,x,y⟩)).length] ⟨lm,trivial⟩)] [] (fun z0:List DStep=>(.tup [VL 4 z0c z0,VI 0],[])) _ _ e1
end Go.Ch
end
section
set_option linter.unusedVariables false
set_option linter.unusedSimpArgs false
set_option maxRecDepth 100000
set_option maxHeartbeats 4000000
open Go Go.Proofs Go.Ab
namespace Go.Ch
theorem z5k(d:Doc)(k:Int)(hn:d.nodes.length≤1048576)(hs:SortN d.nodes):FC Tryz.prog 49 [.t (docT d),VI k] (app emp []) (VI (ixN d.nodes k)) (app emp []):=by
 refine .go Tryz.f49 ?_
 refine .bp [.r [],.r [(2,X (Xc0 (z7K d k (by assumption) (by assumption)) X0))],.r []] (hasN (d).nodes k) (fun h2=> ?_) (fun h2=> ?_)
 ·
  have e1:((ixN d.nodes k):Int)=(lobN (d).nodes k:Int):=by
   unfold ixN;rw[if_pos h2]
  exact .finE [.r []] [] (fun z0:Int=>(VI z0,[])) _ _ e1
 ·
  have e2:((ixN d.nodes k):Int)= -1:=by
   unfold ixN;rw[if_neg (by rw[h2];decide)]
  exact .finE [.r []] [] (fun z0:Int=>(VI z0,[])) _ _ e2
theorem y3W(l:List Elem):FC Tryz.prog 198 [VL 3 elemT l,VN] (app emp []) (VB ((l.length:Int)==0)) (app emp []):=by
 refine .go Tryz.f198 ?_
 refine .len 0 (fun hl0=> ?_)
 refine .bp [.r [],.r [(1,X (Xl elemT l))]] ((l.length:Int) !=0) (fun h1=> ?_) (fun h1=> ?_)
 ·
  have e1:(((l.length:Int)==0):Bool)=false:=by
   rw[beq_eq_false_iff_ne];exact h1
  exact .finE [.r []] [] (fun z0:Bool=>(VB z0,[])) _ _ e1
 ·
  refine .loop (α:=Nat) [.r [(1,X (Xl elemT l))]] 72 (fun i=>([(1,VN),(13,VL 3 elemT l),(14,VI (l.length:Int)),(15,VI (i:Int))],[])) (fun i=>i=0) (fun i=>0) (0:Nat) ?_ ?_
  ·
   rfl
  rintro i I4 ih4
  try dsimp only at I4
  refine .bp [.r []] (decide ((i:Int)< (l.length:Int))) (fun h4=> ?_) (fun h4=> ?_)
  ·
   exfalso
   omega
  ·
   have e2:(((l.length:Int)==0):Bool)=true:=by
    rw[beq_iff_eq];exact h1
   exact .finE [.r []] [] (fun z0:Bool=>(VB z0,[])) _ _ e2
theorem y7q(l:List DOp):FC Tryz.prog 199 [VL 8 dopT l,VN] (app emp []) (VB ((l.length:Int)==0)) (app emp []):=by
 refine .go Tryz.f199 ?_
 refine .len 0 (fun hl0=> ?_)
 refine .bp [.r [],.r [(1,X (Xl dopT l))]] ((l.length:Int) !=0) (fun h1=> ?_) (fun h1=> ?_)
 ·
  have e1:(((l.length:Int)==0):Bool)=false:=by
   rw[beq_eq_false_iff_ne];exact h1
  exact .finE [.r []] [] (fun z0:Bool=>(VB z0,[])) _ _ e1
 ·
  refine .loop (α:=Nat) [.r [(1,X (Xl dopT l))]] 72 (fun i=>([(0,VL 8 dopT l),(1,VN),(12,VI (l.length:Int)),(13,VI (i:Int))],[])) (fun i=>i=0) (fun i=>0) (0:Nat) ?_ ?_
  ·
   rfl
  rintro i I4 ih4
  try dsimp only at I4
  refine .bp [.r []] (decide ((i:Int)< (l.length:Int))) (fun h4=> ?_) (fun h4=> ?_)
  ·
   exfalso
   omega
  ·
   have e2:(((l.length:Int)==0):Bool)=true:=by
    rw[beq_iff_eq];exact h1
   exact .finE [.r []] [] (fun z0:Bool=>(VB z0,[])) _ _ e2
theorem y3X(n:Node):FC Tryz.prog 165 [.t (nodeT n),.t (.agg [TI 0,TI 0,TN,TN,TI 0,TI 0,TN,TN,TN])] (app emp []) (VB (z0G n)) (app emp []):=by
 refine .go Tryz.f165 ?_
 have e1:((z0G n):Bool)=((((((n.id==0)&&(n.kind==0))&&(sameL n.attrs []))&&(((n.flow).length:Int)==0))&&(zeroG n.grid))&&(((n.draw).length:Int)==0)):=by
  rfl
 exact .finE [.r [],.r [(7,Xv 1 (n.id==0) X0),(9,Xv 1 (n.id==0) X0),(10,Xv 2 (n.id==0) X0),(11,X (Xk (n.id==0))),(14,Xv 1 ((n.id==0)&&(n.kind==0)) X0),(16,Xv 1 ((n.id==0)&&(n.kind==0)) X0),(17,Xv 2 ((n.id==0)&&(n.kind==0)) (Xc0 (.nil 1 2 (z3C n.attrs [])) X0)),(18,X (Xk ((n.id==0)&&(n.kind==0)))),(21,Xv 1 (((n.id==0)&&(n.kind==0))&&(sameL n.attrs [])) X0),(23,Xv 1 (((n.id==0)&&(n.kind==0))&&(sameL n.attrs [])) X0),(24,Xv 2 (((n.id==0)&&(n.kind==0))&&(sameL n.attrs [])) (Xc0 (y3W n.flow) X0)),(25,X (Xk (((n.id==0)&&(n.kind==0))&&(sameL n.attrs [])))),(28,Xv 1 ((((n.id==0)&&(n.kind==0))&&(sameL n.attrs []))&&(((n.flow).length:Int)==0)) X0),(30,Xv 1 ((((n.id==0)&&(n.kind==0))&&(sameL n.attrs []))&&(((n.flow).length:Int)==0)) X0),(31,Xv 2 ((((n.id==0)&&(n.kind==0))&&(sameL n.attrs []))&&(((n.flow).length:Int)==0)) (Xc0 (z8Y n.grid) X0)),(32,X (Xk ((((n.id==0)&&(n.kind==0))&&(sameL n.attrs []))&&(((n.flow).length:Int)==0)))),(35,Xv 1 (((((n.id==0)&&(n.kind==0))&&(sameL n.attrs []))&&(((n.flow).length:Int)==0))&&(zeroG n.grid)) X0),(37,Xv 1 (((((n.id==0)&&(n.kind==0))&&(sameL n.attrs []))&&(((n.flow).length:Int)==0))&&(zeroG n.grid)) X0),(38,Xv 2 (((((n.id==0)&&(n.kind==0))&&(sameL n.attrs []))&&(((n.flow).length:Int)==0))&&(zeroG n.grid)) (Xc0 (y7q n.draw) X0)),(39,X (Xk (((((n.id==0)&&(n.kind==0))&&(sameL n.attrs []))&&(((n.flow).length:Int)==0))&&(zeroG n.grid))))]] [] (fun z0:Bool=>(VB z0,[])) _ _ e1
theorem y3Y(o:EOp)(hl:EopL o):FC Tryz.prog 125 [.t (eopT o)] (app emp []) (VB (unuO o)) (app emp []):=by
 refine .go Tryz.f125 ?_
 obtain⟨l1,l2,l3,l4,l5⟩:=hl
 have e1:((unuO o):Bool)=(((((((o.kind==0)&&(o.node !=0))|| ((o.kind !=0)&& !(z0G o.nw)))|| ((o.kind !=1)&&decide ((o.attrs.length:Int)> 0)))|| ((o.kind !=2)&&decide ((o.steps.length:Int)> 0)))|| ((o.kind !=3)&&decide ((((((o.grid.rows.length:Int)+(o.grid.cols.length:Int))+(o.grid.cells.length:Int))+(o.grid.split.length:Int))+(o.grid.merge.length:Int))> 0)))|| ((o.kind !=4)&&decide ((o.draw.length:Int)> 0))):=by
  rfl
 exact .finE [.r [],.r [],.r [(2,X (Xl stepT o.grid.rows)),(5,X (Xl stepT o.grid.cols)),(6,X (Xn ((o.grid.rows.length:Int)+(o.grid.cols.length:Int)))),(9,X (Xl cellT o.grid.cells)),(10,X (Xn (((o.grid.rows.length:Int)+(o.grid.cols.length:Int))+(o.grid.cells.length:Int)))),(13,X (Xl rectT o.grid.split)),(14,X (Xn ((((o.grid.rows.length:Int)+(o.grid.cols.length:Int))+(o.grid.cells.length:Int))+(o.grid.split.length:Int)))),(17,X (Xl rectT o.grid.merge)),(18,X (Xn (((((o.grid.rows.length:Int)+(o.grid.cols.length:Int))+(o.grid.cells.length:Int))+(o.grid.split.length:Int))+(o.grid.merge.length:Int))))],.r [(5,Xv 1 (o.kind==0) X0),(6,Xv 1 (o.kind==0) X0),(7,X (Xk (o.kind==0))),(10,Xv 1 (!((o.kind==0)&&(o.node !=0))) X0),(11,Xv 1 (!((o.kind==0)&&(o.node !=0))) X0),(12,Xv 1 (!((o.kind==0)&&(o.node !=0))) X0),(14,Xv 1 ((!((o.kind==0)&&(o.node !=0)))&&(o.kind !=0)) X0),(16,Xv 2 ((!((o.kind==0)&&(o.node !=0)))&&(o.kind !=0)) (Xc0 (y3X o.nw) X0)),(17,Xv 1 ((!((o.kind==0)&&(o.node !=0)))&&(o.kind !=0)) X0),(18,Xka (!((o.kind==0)&&(o.node !=0))) (o.kind !=0)),(19,X (Xk' ((o.kind==0)&&(o.node !=0)))),(22,Xv 1 (!(((o.kind==0)&&(o.node !=0))|| ((o.kind !=0)&& !(z0G o.nw)))) X0),(23,Xv 1 (!(((o.kind==0)&&(o.node !=0))|| ((o.kind !=0)&& !(z0G o.nw)))) X0),(24,Xv 1 (!(((o.kind==0)&&(o.node !=0))|| ((o.kind !=0)&& !(z0G o.nw)))) X0),(26,Xv 1 ((!(((o.kind==0)&&(o.node !=0))|| ((o.kind !=0)&& !(z0G o.nw))))&&(o.kind !=1)) X0),(27,Xv 1 ((!(((o.kind==0)&&(o.node !=0))|| ((o.kind !=0)&& !(z0G o.nw))))&&(o.kind !=1)) (Xl attrT o.attrs)),(28,Xv 1 ((!(((o.kind==0)&&(o.node !=0))|| ((o.kind !=0)&& !(z0G o.nw))))&&(o.kind !=1)) X0),(29,Xka (!(((o.kind==0)&&(o.node !=0))|| ((o.kind !=0)&& !(z0G o.nw)))) (o.kind !=1)),(30,X (Xk' (((o.kind==0)&&(o.node !=0))|| ((o.kind !=0)&& !(z0G o.nw))))),(33,Xv 1 (!((((o.kind==0)&&(o.node !=0))|| ((o.kind !=0)&& !(z0G o.nw)))|| ((o.kind !=1)&&decide ((o.attrs.length:Int)> 0)))) X0),(34,Xv 1 (!((((o.kind==0)&&(o.node !=0))|| ((o.kind !=0)&& !(z0G o.nw)))|| ((o.kind !=1)&&decide ((o.attrs.length:Int)> 0)))) X0),(35,Xv 1 (!((((o.kind==0)&&(o.node !=0))|| ((o.kind !=0)&& !(z0G o.nw)))|| ((o.kind !=1)&&decide ((o.attrs.length:Int)> 0)))) X0),(37,Xv 1 ((!((((o.kind==0)&&(o.node !=0))|| ((o.kind !=0)&& !(z0G o.nw)))|| ((o.kind !=1)&&decide ((o.attrs.length:Int)> 0))))&&(o.kind !=2)) X0),(38,Xv 1 ((!((((o.kind==0)&&(o.node !=0))|| ((o.kind !=0)&& !(z0G o.nw)))|| ((o.kind !=1)&&decide ((o.attrs.length:Int)> 0))))&&(o.kind !=2)) (Xl z0c o.steps)),(39,Xv 1 ((!((((o.kind==0)&&(o.node !=0))|| ((o.kind !=0)&& !(z0G o.nw)))|| ((o.kind !=1)&&decide ((o.attrs.length:Int)> 0))))&&(o.kind !=2)) X0),(40,Xka (!((((o.kind==0)&&(o.node !=0))|| ((o.kind !=0)&& !(z0G o.nw)))|| ((o.kind !=1)&&decide ((o.attrs.length:Int)> 0)))) (o.kind !=2)),(41,X (Xk' ((((o.kind==0)&&(o.node !=0))|| ((o.kind !=0)&& !(z0G o.nw)))|| ((o.kind !=1)&&decide ((o.attrs.length:Int)> 0))))),(44,Xv 1 (!(((((o.kind==0)&&(o.node !=0))|| ((o.kind !=0)&& !(z0G o.nw)))|| ((o.kind !=1)&&decide ((o.attrs.length:Int)> 0)))|| ((o.kind !=2)&&decide ((o.steps.length:Int)> 0)))) X0),(45,Xv 1 (!(((((o.kind==0)&&(o.node !=0))|| ((o.kind !=0)&& !(z0G o.nw)))|| ((o.kind !=1)&&decide ((o.attrs.length:Int)> 0)))|| ((o.kind !=2)&&decide ((o.steps.length:Int)> 0)))) X0),(46,Xv 1 (!(((((o.kind==0)&&(o.node !=0))|| ((o.kind !=0)&& !(z0G o.nw)))|| ((o.kind !=1)&&decide ((o.attrs.length:Int)> 0)))|| ((o.kind !=2)&&decide ((o.steps.length:Int)> 0)))) X0),(48,Xka (!(((((o.kind==0)&&(o.node !=0))|| ((o.kind !=0)&& !(z0G o.nw)))|| ((o.kind !=1)&&decide ((o.attrs.length:Int)> 0)))|| ((o.kind !=2)&&decide ((o.steps.length:Int)> 0)))) (o.kind !=3)),(49,X (Xk' (((((o.kind==0)&&(o.node !=0))|| ((o.kind !=0)&& !(z0G o.nw)))|| ((o.kind !=1)&&decide ((o.attrs.length:Int)> 0)))|| ((o.kind !=2)&&decide ((o.steps.length:Int)> 0))))),(52,Xv 1 (!((((((o.kind==0)&&(o.node !=0))|| ((o.kind !=0)&& !(z0G o.nw)))|| ((o.kind !=1)&&decide ((o.attrs.length:Int)> 0)))|| ((o.kind !=2)&&decide ((o.steps.length:Int)> 0)))|| ((o.kind !=3)&&decide ((((((o.grid.rows.length:Int)+(o.grid.cols.length:Int))+(o.grid.cells.length:Int))+(o.grid.split.length:Int))+(o.grid.merge.length:Int))> 0)))) X0),(53,Xv 1 (!((((((o.kind==0)&&(o.node !=0))|| ((o.kind !=0)&& !(z0G o.nw)))|| ((o.kind !=1)&&decide ((o.attrs.length:Int)> 0)))|| ((o.kind !=2)&&decide ((o.steps.length:Int)> 0)))|| ((o.kind !=3)&&decide ((((((o.grid.rows.length:Int)+(o.grid.cols.length:Int))+(o.grid.cells.length:Int))+(o.grid.split.length:Int))+(o.grid.merge.length:Int))> 0)))) X0),(54,Xv 1 (!((((((o.kind==0)&&(o.node !=0))|| ((o.kind !=0)&& !(z0G o.nw)))|| ((o.kind !=1)&&decide ((o.attrs.length:Int)> 0)))|| ((o.kind !=2)&&decide ((o.steps.length:Int)> 0)))|| ((o.kind !=3)&&decide ((((((o.grid.rows.length:Int)+(o.grid.cols.length:Int))+(o.grid.cells.length:Int))+(o.grid.split.length:Int))+(o.grid.merge.length:Int))> 0)))) X0),(56,Xv 1 ((!((((((o.kind==0)&&(o.node !=0))|| ((o.kind !=0)&& !(z0G o.nw)))|| ((o.kind !=1)&&decide ((o.attrs.length:Int)> 0)))|| ((o.kind !=2)&&decide ((o.steps.length:Int)> 0)))|| ((o.kind !=3)&&decide ((((((o.grid.rows.length:Int)+(o.grid.cols.length:Int))+(o.grid.cells.length:Int))+(o.grid.split.length:Int))+(o.grid.merge.length:Int))> 0))))&&(o.kind !=4)) X0),(57,Xv 1 ((!((((((o.kind==0)&&(o.node !=0))|| ((o.kind !=0)&& !(z0G o.nw)))|| ((o.kind !=1)&&decide ((o.attrs.length:Int)> 0)))|| ((o.kind !=2)&&decide ((o.steps.length:Int)> 0)))|| ((o.kind !=3)&&decide ((((((o.grid.rows.length:Int)+(o.grid.cols.length:Int))+(o.grid.cells.length:Int))+(o.grid.split.length:Int))+(o.grid.merge.length:Int))> 0))))&&(o.kind !=4)) (Xl dopT o.draw)),(58,Xv 1 ((!((((((o.kind==0)&&(o.node !=0))|| ((o.kind !=0)&& !(z0G o.nw)))|| ((o.kind !=1)&&decide ((o.attrs.length:Int)> 0)))|| ((o.kind !=2)&&decide ((o.steps.length:Int)> 0)))|| ((o.kind !=3)&&decide ((((((o.grid.rows.length:Int)+(o.grid.cols.length:Int))+(o.grid.cells.length:Int))+(o.grid.split.length:Int))+(o.grid.merge.length:Int))> 0))))&&(o.kind !=4)) X0),(59,Xka (!((((((o.kind==0)&&(o.node !=0))|| ((o.kind !=0)&& !(z0G o.nw)))|| ((o.kind !=1)&&decide ((o.attrs.length:Int)> 0)))|| ((o.kind !=2)&&decide ((o.steps.length:Int)> 0)))|| ((o.kind !=3)&&decide ((((((o.grid.rows.length:Int)+(o.grid.cols.length:Int))+(o.grid.cells.length:Int))+(o.grid.split.length:Int))+(o.grid.merge.length:Int))> 0)))) (o.kind !=4)),(60,X (Xk' ((((((o.kind==0)&&(o.node !=0))|| ((o.kind !=0)&& !(z0G o.nw)))|| ((o.kind !=1)&&decide ((o.attrs.length:Int)> 0)))|| ((o.kind !=2)&&decide ((o.steps.length:Int)> 0)))|| ((o.kind !=3)&&decide ((((((o.grid.rows.length:Int)+(o.grid.cols.length:Int))+(o.grid.cells.length:Int))+(o.grid.split.length:Int))+(o.grid.merge.length:Int))> 0)))))]] [] (fun z0:Bool=>(VB z0,[])) _ _ e1
end Go.Ch
end
section
set_option linter.unusedVariables false
set_option linter.unusedSimpArgs false
set_option maxRecDepth 100000
set_option maxHeartbeats 4000000
open Go Go.Proofs Go.Ab
namespace Go.Ch
theorem y2i(o:EOp)(ho:OpL o):FC Tryz.prog 75 [.t (eopT o)] (app emp []) (VI (eopE o)) (app emp []):=by
 refine .go Tryz.f75 ?_
 have k1:=ho.len
 have k2:=ho.nl
 have k3:=ho.dn
 have k4:=ho.gl
 refine .bp [.r [],.r [(5,Xv 1 (!(decide (o.kind<0))) X0),(6,Xv 1 (!(decide (o.kind<0))) X0),(7,X (Xk' (decide (o.kind<0))))]] (decide (o.kind<0)||decide (o.kind>4)) (fun h1=> ?_) (fun h1=> ?_)
 ·
  have e1:((eopE o):Int)=8:=by
   unfold eopE;((repeat' split)<;>first|rfl|omega| (simp_all;done)| (simp_all;omega))
  exact .finE [.r []] [] (fun z0:Int=>(VI z0,[])) _ _ e1
 ·
  refine .bp [.r [(1,X (Xc0 (y3Y o (by assumption)) X0))]] (unuO o) (fun h3=> ?_) (fun h3=> ?_)
  ·
   have e2:((eopE o):Int)=4:=by
    unfold eopE;((repeat' split)<;>first|rfl|omega| (simp_all;done)| (simp_all;omega))
   exact .finE [.r []] [] (fun z0:Int=>(VI z0,[])) _ _ e2
  ·
   refine .bp [.r []] (o.kind==0) (fun h5=> ?_) (fun h5=> ?_)
   ·
    have e3:((eopE o):Int)=(nodeE o.nw):=by
     unfold eopE;((repeat' split)<;>first|rfl|omega| (simp_all;done)| (simp_all;omega))
    exact .finE [.r [(2,X (Xc0 (z52 o.nw (by assumption)) X0))]] [] (fun z0:Int=>(VI z0,[])) _ _ e3
   ·
    refine .bp [.r [(5,Xv 1 (!(decide (o.node<1))) X0),(6,Xv 1 (!(decide (o.node<1))) X0),(7,X (Xk' (decide (o.node<1))))]] (decide (o.node<1)||decide (o.node>1073741824)) (fun h7=> ?_) (fun h7=> ?_)
    ·
     have e4:((eopE o):Int)=2:=by
      unfold eopE;((repeat' split)<;>first|rfl|omega| (simp_all;done)| (simp_all;omega))
     exact .finE [.r []] [] (fun z0:Int=>(VI z0,[])) _ _ e4
    ·
     refine .bp [.r []] (o.kind==1) (fun h9=> ?_) (fun h9=> ?_)
     ·
      have e5:((eopE o):Int)=(chkA true o.attrs 0):=by
       unfold eopE;((repeat' split)<;>first|rfl|omega| (simp_all;done)| (simp_all;omega))
      exact .finE [.r [(2,X (Xc0 (z04 o.attrs) X0))]] [] (fun z0:Int=>(VI z0,[])) _ _ e5
     ·
      refine .bp [.r []] (o.kind==2) (fun h11=> ?_) (fun h11=> ?_)
      ·
       have e6:((eopE o):Int)=(z0V o.steps):=by
        unfold eopE;((repeat' split)<;>first|rfl|omega| (simp_all;done)| (simp_all;omega))
       exact .finE [.r [(2,X (Xc0 (z1N o.steps (by assumption)) X0))]] [] (fun z0:Int=>(VI z0,[])) _ _ e6
      ·
       refine .bp [.r []] (o.kind==3) (fun h13=> ?_) (fun h13=> ?_)
       ·
        have e7:((eopE o):Int)=(edE o.grid):=by
         unfold eopE;((repeat' split)<;>first|rfl|omega| (simp_all;done)| (simp_all;omega))
        exact .finE [.r [(2,X (Xc0 (z4W o.grid (by assumption)) X0))]] [] (fun z0:Int=>(VI z0,[])) _ _ e7
       ·
        have e8:((eopE o):Int)=(drawE o.draw 0):=by
         unfold eopE;((repeat' split)<;>first|rfl|omega| (simp_all;done)| (simp_all;omega))
        exact .finE [.r [(2,X (Xc0 (z8N o.draw) X0))]] [] (fun z0:Int=>(VI z0,[])) _ _ e8
theorem y3Z(c:List EOp)(hc:∀o∈c,OpL o):FC Tryz.prog 35 [VL 19 eopT c] (app emp []) (VI (eopsE c 0)) (app emp []):=by
 refine .go Tryz.f35 ?_
 refine .len 0 (fun hl0=> ?_)
 refine .loop (α:=Nat) [.r [],.r [(1,X (Xl eopT c))]] 32 (fun i=>([(6,VL 19 eopT c),(7,VI (c.length:Int)),(8,VI (i:Int))],[])) (fun i=>i≤c.length∧eopsE c 0=eopsE c i) (fun i=>c.length-i) (0:Nat) ?_ ?_
 ·
  exact⟨by omega,rfl⟩
 rintro i I2 ih2
 try dsimp only at I2
 refine .bp [.r []] (decide ((i:Int)< (c.length:Int))) (fun h2=> ?_) (fun h2=> ?_)
 ·
  have ho:=hc _ (z0g (l:=c) (i:=i) (by omega))
  refine .bp [.r [(0,X (Xi eopT c (i:Int)))],.r [(1,X (Xc0 (y2i ((c.getD i default)) (by assumption)) X0))],.r []] ((eopE ((c.getD i default))) !=0) (fun h5=> ?_) (fun h5=> ?_)
  ·
   have e1:((eopsE c 0):Int)=(eopE ((c.getD i default))):=by
    exact I2.2.trans (y3I (by omega) h5)
   exact .finE [.r []] [] (fun z0:Int=>(VI z0,[])) _ _ e1
  ·
   refine .back [.r [(0,X (Xn ((i:Int)+1)))]] [] (ih2 ((i+1):Nat) ?_ ?_)
   ·
    exact⟨by omega,I2.2.trans (y2g (by omega) h5)⟩
   ·
    ((try dsimp only);omega)
 ·
  have e2:((eopsE c 0):Int)=0:=by
   exact I2.2.trans (y3J (by omega))
  exact .finE [.r []] [] (fun z0:Int=>(VI z0,[])) _ _ e2
end Go.Ch
end
section
set_option linter.unusedVariables false
set_option linter.unusedSimpArgs false
namespace Go.Ch
open Go Go.Ab
def NoAD:List DU→Prop
 | .A _::_=>False
 |_=>True
theorem pd_A1(e:Elem)(p q:List DU):z0f (.A e::p) q=(.A e::(z0f p q).1,.K []::(z0f p q).2):=by rw[z0f]
theorem y8y{p:List DU}(hp:NoAD p)(e:Elem)(q:List DU):z0f p (.A e::q)=(.K []::(z0f p q).1,.A e::(z0f p q).2):=by
 cases p with
 |nil=>rw[z0f]
 |cons u p=>
  cases u with
  |A x=>exact hp.elim
  |K c=>rw[z0f]
  |C=>rw[z0f]
theorem pd_A(e:List Elem)(p q:List DU):z0f (e.map .A++p) q=(e.map .A++(z0f p q).1,List.replicate e.length (.K [])++(z0f p q).2):=by
 induction e with
 |nil=>rfl
 |cons x e ih=>rw[List.map_cons,List.cons_append,pd_A1,ih];rfl
theorem pd_A2(e:List Elem){p:List DU}(hp:NoAD p)(q:List DU):z0f p (e.map .A++q)=(List.replicate e.length (.K [])++(z0f p q).1,e.map .A++(z0f p q).2):=by
 induction e with
 |nil=>rfl
 |cons x e ih=>rw[List.map_cons,List.cons_append,y8y hp,ih];rfl
theorem pd_KK(n:Nat)(c d:List Attr)(p q:List DU):z0f (List.replicate n (.K c)++p) (List.replicate n (.K d)++q)=(List.replicate n (.K (fm wioG c d))++(z0f p q).1,List.replicate n (.K d)++(z0f p q).2):=by
 induction n with
 |zero=>rfl
 |succ n ih=>rw[List.replicate_succ,List.replicate_succ,List.replicate_succ,List.cons_append,List.cons_append,z0f,ih];rfl
theorem pd_KC(n:Nat)(c:List Attr)(p q:List DU):z0f (List.replicate n (.K c)++p) (List.replicate n .C++q)=((z0f p q).1,List.replicate n .C++(z0f p q).2):=by
 induction n with
 |zero=>rfl
 |succ n ih=>rw[List.replicate_succ,List.replicate_succ,List.cons_append,List.cons_append,z0f,ih];rfl
theorem pd_CK(n:Nat)(c:List Attr)(p q:List DU):z0f (List.replicate n .C++p) (List.replicate n (.K c)++q)=(List.replicate n .C++(z0f p q).1,(z0f p q).2):=by
 induction n with
 |zero=>rfl
 |succ n ih=>rw[List.replicate_succ,List.replicate_succ,List.cons_append,List.cons_append,z0f,ih];rfl
theorem pd_CC(n:Nat)(p q:List DU):z0f (List.replicate n .C++p) (List.replicate n .C++q)=z0f p q:=by
 induction n with
 |zero=>rfl
 |succ n ih=>rw[List.replicate_succ,List.cons_append,List.cons_append,z0f,ih]
theorem z82(p q:List DU)(hp:KOk p)(hq:KOk q):(∀u∈(z0f p q).1,z07 u)∧(∀u∈(z0f p q).2,z07 u):=by
 have okA:∀e:Elem,elemE e=0∧e.attrs.length≤100000000000→z07 (.A e):=fun e h=>⟨h.1,by omega⟩
 have okK:∀c:List Attr,VG true c∧c.length≤100000000000→z07 (.K c):=fun e h=>⟨h.1,by omega⟩
 have ok0:z07 (.K []):=⟨z54,by simp⟩
 have cons:∀(x:DU) (l:List DU),z07 x→(∀u∈l,z07 u)→∀u∈x::l,z07 u:=fun x l h k u hu=>by
  rcases List.mem_cons.1 hu with rfl|hu
  ·exact h
  ·exact k u hu
 induction p,q using z0f.induct with
 |case1 e p q ih=>rw[z0f];have i:=ih hp.tail hq;exact⟨cons _ _ (okA e (hp.2 e (by simp))) i.1,cons _ _ ok0 i.2⟩
 |case2 e q ih=>rw[z0f];have i:=ih hp hq.tail;exact⟨cons _ _ ok0 i.1,cons _ _ (okA e (hq.2 e (by simp))) i.2⟩
 |case3 c p e q ih=>rw[z0f];have i:=ih hp hq.tail;exact⟨cons _ _ ok0 i.1,cons _ _ (okA e (hq.2 e (by simp))) i.2⟩
 |case4 p e q ih=>rw[z0f];have i:=ih hp hq.tail;exact⟨cons _ _ ok0 i.1,cons _ _ (okA e (hq.2 e (by simp))) i.2⟩
 |case5 c p d q ih=>
  rw[z0f]
  have i:=ih hp.tail hq.tail
  have h1:=hp.1 c (by simp)
  have h2:=hq.1 d (by simp)
  have:=z1q wioG c d
  exact⟨cons _ _ ⟨wio_V np_mt h1.1 h2.1,by omega⟩ i.1,cons _ _ (okK d h2) i.2⟩
 |case6 c p q ih=>rw[z0f];have i:=ih hp.tail hq.tail;exact⟨i.1,cons _ _ trivial i.2⟩
 |case7 p d q ih=>rw[z0f];have i:=ih hp.tail hq.tail;exact⟨cons _ _ trivial i.1,i.2⟩
 |case8 p q ih=>rw[z0f];exact ih hp.tail hq.tail
 |case9 p hne=>
  rw[show z0f p []=([],[]) by unfold z0f;split<;>simp_all]
  exact⟨fun u hu=>absurd hu (List.not_mem_nil),fun u hu=>absurd hu (List.not_mem_nil)⟩
 |case10 q h1 h2=>
  rw[show z0f [] q=([],[]) by unfold z0f;split<;>simp_all]
  exact⟨fun u hu=>absurd hu (List.not_mem_nil),fun u hu=>absurd hu (List.not_mem_nil)⟩
theorem y2j(p q:List DU):newN (z0f p q).1≤newN p+newN q∧newN (z0f p q).2≤newN p+newN q:=by
 induction p,q using z0f.induct with
 |case9 p hne=>
  rw[show z0f p []=([],[]) by unfold z0f;split<;>simp_all]
  simp[newN]
 |case10 q h1 h2=>
  rw[show z0f [] q=([],[]) by unfold z0f;split<;>simp_all]
  simp[newN]
 |_=>rw[z0f];simp only[newN] at*;omega
def z1h(a b:List DStep):List DStep:=doneD (z0f (exD a) (exD b)).1
def z4Z(a b:List DStep):List DStep:=doneD (z0f (exD a) (exD b)).2
structure PD(wx wy:DWr)(ps:List DStep)(pu:Int)(qs:List DStep)(qu:Int)(T U:Nat)(G H:DWr):Prop where
 gp:GoodRD ps pu
 gq:GoodRD qs qu
 dp:DN 100000000000 ps
 dq:DN 100000000000 qs
 eq:oldN (ruD ps pu)=oldN (ruD qs qu)
 dx:DI wx (z0f (ruD ps pu) (ruD qs qu)).1 T G
 dy:DI wy (z0f (ruD ps pu) (ruD qs qu)).2 U H
theorem noAD{l:List DStep}{u:Int}(h:GoodRD l u)(hk:0<l.length→(l.getD 0 default).kind≠1):NoAD (ruD l u):=by
 by_cases h0:0<l.length
 ·have hl:=h.lt h0
  obtain⟨g,e⟩:=z2V (n:=1) h h0 (by decide) (by omega)
  rcases k02 h h0 (hk h0) with k|k
  ·rw[e,exS_K k];trivial
  ·rw[e,exS_C k];trivial
 ·rw[z2l (by omega)];trivial
section
variable {wx wy:DWr} {ps qs:List DStep} {pu qu:Int} {T U:Nat} {G H:DWr}
theorem PD.addP(h:PD wx wy ps pu qs qu T U G H)(h0:0<ps.length)(hk:(ps.getD 0 default).kind=1){n:Int}(hn:n=szD (ps.getD 0 default)- pu):
 PD ⟨wx.out,wx.add++(tkE ps pu n).elems,wx.cut⟩ ⟨keepD (z0a wy) ((tkE ps pu n).elems.length:Int) [],[],0⟩ (tkL ps pu n) (tkN ps pu n) qs qu T U G H∧
 jmD (tkL ps pu n) (tkN ps pu n) qs qu<jmD ps pu qs qu∧((tkE ps pu n).elems.length:Int)=n:=by
 have hl:=h.gp.lt h0
 obtain⟨g,e⟩:=z2V (n:=n) h.gp h0 (by omega) (by omega)
 have hz:=z3G (n:=n) hk h.gp.pos (by omega) (by omega)
 rw[exS_A hk] at e
 have hx:=h.dx
 have hy:=h.dy
 have he:=h.eq
 rw[e,pd_A] at hx hy
 rw[e,z0E,(z2j _).1] at he
 obtain⟨k,hk2⟩:∃k,(tkE ps pu n).elems.length=k+1:=⟨(tkE ps pu n).elems.length- 1,by omega⟩
 refine⟨⟨g,h.gq,dn_tk h.dp,h.dq,by omega,hx.elems,?_⟩,?_,by omega⟩
 ·rw[hk2] at hy⊢
  exact hy.keep
 ·unfold jmD
  rw[e,List.length_append,List.length_map,hz]
  omega
theorem PD.addQ(h:PD wx wy ps pu qs qu T U G H)(hp:0<ps.length→(ps.getD 0 default).kind≠1)(h0:0<qs.length)(hk:(qs.getD 0 default).kind=1){n:Int}(hn:n=szD (qs.getD 0 default)- qu):
 PD ⟨keepD (z0a wx) ((tkE qs qu n).elems.length:Int) [],[],0⟩ ⟨wy.out,wy.add++(tkE qs qu n).elems,wy.cut⟩ ps pu (tkL qs qu n) (tkN qs qu n) T U G H∧
 jmD ps pu (tkL qs qu n) (tkN qs qu n)< jmD ps pu qs qu∧((tkE qs qu n).elems.length:Int)=n:=by
 have hl:=h.gq.lt h0
 obtain⟨g,e⟩:=z2V (n:=n) h.gq h0 (by omega) (by omega)
 have hz:=z3G (n:=n) hk h.gq.pos (by omega) (by omega)
 rw[exS_A hk] at e
 have hx:=h.dx
 have hy:=h.dy
 have he:=h.eq
 rw[e,pd_A2 _ (noAD h.gp hp)] at hx hy
 rw[e,z0E,(z2j _).1] at he
 obtain⟨k,hk2⟩:∃k,(tkE qs qu n).elems.length=k+1:=⟨(tkE qs qu n).elems.length- 1,by omega⟩
 refine⟨⟨h.gp,g,h.dp,dn_tk h.dq,by omega,?_,hy.elems⟩,?_,by omega⟩
 ·rw[hk2] at hx⊢
  exact hx.keep
 ·unfold jmD
  rw[e,List.length_append,List.length_map,hz]
  omega
theorem PD.both(h:PD wx wy ps pu qs qu T U G H)(a:0<ps.length)(b:0<qs.length)(kp:(ps.getD 0 default).kind≠1)(kq:(qs.getD 0 default).kind≠1){n:Int}(hn:n=min (szD (ps.getD 0 default)- pu) (szD (qs.getD 0 default)- qu)):
 (((ps.getD 0 default).kind=0∧(qs.getD 0 default).kind=0→PD ⟨keepD (z0a wx) n (fm wioG (ps.getD 0 default).attrs (qs.getD 0 default).attrs),[],0⟩ ⟨keepD (z0a wy) n (qs.getD 0 default).attrs,[],0⟩ (tkL ps pu n) (tkN ps pu n) (tkL qs qu n) (tkN qs qu n) T U G H)∧
 ((ps.getD 0 default).kind=0∧(qs.getD 0 default).kind=2→PD wx ⟨wy.out,wy.add,wy.cut+n⟩ (tkL ps pu n) (tkN ps pu n) (tkL qs qu n) (tkN qs qu n) T U G H)∧
 ((ps.getD 0 default).kind=2∧(qs.getD 0 default).kind=0→PD ⟨wx.out,wx.add,wx.cut+n⟩ wy (tkL ps pu n) (tkN ps pu n) (tkL qs qu n) (tkN qs qu n) T U G H)∧
 ((ps.getD 0 default).kind=2∧(qs.getD 0 default).kind=2→PD wx wy (tkL ps pu n) (tkN ps pu n) (tkL qs qu n) (tkN qs qu n) T U G H))∧
 jmD (tkL ps pu n) (tkN ps pu n) (tkL qs qu n) (tkN qs qu n)< jmD ps pu qs qu:=by
 have l1:=h.gp.lt a
 have l2:=h.gq.lt b
 have p1:=h.gp.pos
 have p2:=h.gq.pos
 obtain⟨g1,e1⟩:=z2V (n:=n) h.gp a (by omega) (by omega)
 obtain⟨g2,e2⟩:=z2V (n:=n) h.gq b (by omega) (by omega)
 have hx:=h.dx
 have hy:=h.dy
 have he:=h.eq
 refine⟨⟨fun k=> ?_,fun k=> ?_,fun k=> ?_,fun k=> ?_⟩,?_⟩
 ·rw[e1,e2,exS_K k.1,exS_K k.2] at hx hy he
  rw[pd_KK,show n.toNat=(n.toNat- 1)+1 by omega] at hx hy
  rw[z0E,z0E,(z1p _ _).1,(z1p _ _).1] at he
  have hx2:=hx.keep
  have hy2:=hy.keep
  rw[show(((n.toNat- 1+1:Nat)):Int)=n by omega] at hx2 hy2
  exact⟨g1,g2,dn_tk h.dp,dn_tk h.dq,by omega,hx2,hy2⟩
 ·rw[e1,e2,exS_K k.1,exS_C k.2] at hx hy he
  rw[pd_KC] at hx hy
  rw[z0E,z0E,(z2k _).1,(z1p _ _).1] at he
  have hy2:=hy.cuts
  rw[show((n.toNat:Nat):Int)=n by omega] at hy2
  exact⟨g1,g2,dn_tk h.dp,dn_tk h.dq,by omega,hx,hy2⟩
 ·rw[e1,e2,exS_C k.1,exS_K k.2] at hx hy he
  rw[pd_CK] at hx hy
  rw[z0E,z0E,(z2k _).1,(z1p _ _).1] at he
  have hx2:=hx.cuts
  rw[show((n.toNat:Nat):Int)=n by omega] at hx2
  exact⟨g1,g2,dn_tk h.dp,dn_tk h.dq,by omega,hx2,hy⟩
 ·rw[e1,e2,exS_C k.1,exS_C k.2] at hx hy he
  rw[pd_CC] at hx hy
  rw[z0E,z0E,(z2k _).1] at he
  exact⟨g1,g2,dn_tk h.dp,dn_tk h.dq,by omega,hx,hy⟩
 ·have hs:=y3V (h.gp.ok _ (z0z a))
  have hl:=congrArg List.length (z56 (n:=n) (h.gp.ok _ (z0z a)) p1 (by omega) (by omega))
  simp only[List.length_append,List.length_drop] at hl
  unfold jmD
  rw[e1,e2,List.length_append,List.length_append]
  omega
theorem PD.two(h:PD wx wy ps pu qs qu T U G H)(h0:0<ps.length∨0<qs.length)(hp:0<ps.length→(ps.getD 0 default).kind≠1)(hq:0<qs.length→(qs.getD 0 default).kind≠1):0<ps.length∧0<qs.length:=by
 have he:=h.eq
 rcases Nat.eq_zero_or_pos ps.length with a|a
 ·rcases Nat.eq_zero_or_pos qs.length with b|b
  ·omega
  ·have:=(y1p h.gq b).1 (hq b)
   rw[z2l a] at he
   simp only[oldN] at he
   omega
 ·rcases Nat.eq_zero_or_pos qs.length with b|b
  ·have:=(y1p h.gp a).1 (hp a)
   rw[z2l b] at he
   simp only[oldN] at he
   omega
  ·exact⟨a,b⟩
theorem PD.done(h:PD wx wy ps pu qs qu T U G H)(a:ps.length=0)(b:qs.length=0):wx=G∧wy=H:=by
 have hx:=h.dx
 have hy:=h.dy
 rw[z2l a,z2l b] at hx hy
 exact⟨DI.done (by simpa[z0f] using hx),DI.done (by simpa[z0f] using hy)⟩
end
theorem z6T{a b:List DStep}(va:z0W a)(vb:z0W b)(da:DN 100000000000 a)(db:DN 100000000000 b)(hm:oldD a=oldD b)(hs:newD a+newD b≤2147483647):
 (∀u∈(z0f (exD a) (exD b)).1,z07 u)∧(∀u∈(z0f (exD a) (exD b)).2,z07 u)∧
 PD ⟨[],[],0⟩ ⟨[],[],0⟩ a 0 b 0 (z0f (exD a) (exD b)).1.length (z0f (exD a) (exD b)).2.length (foldD ⟨[],[],0⟩ (z0f (exD a) (exD b)).1) (foldD ⟨[],[],0⟩ (z0f (exD a) (exD b)).2)∧
 z0W (z1h a b)∧z0W (z4Z a b)∧DSw (exD (z1h a b)) (z0f (exD a) (exD b)).1∧DSw (exD (z4Z a b)) (z0f (exD a) (exD b)).2∧
 oldD (z1h a b)=newD b∧oldD (z4Z a b)=newD a∧DN 400000000000 (z1h a b)∧DN 400000000000 (z4Z a b):=by
 obtain⟨hu,hv⟩:=z82 _ _ (exD_K va.1.all da) (exD_K vb.1.all db)
 have la:=z4X va
 have lb:=z4X vb
 have o:∃l:List Elem,l.length=oldN (exD a)∧∀x∈l,VG false x.attrs:=⟨List.replicate (oldN (exD a)) ⟨0,0,[]⟩,by simp,fun x hx=>by rw[List.eq_of_mem_replicate hx];exact(z0Q (e:=false) (l:=[])).1 (by rw[chkA];rfl)⟩
 obtain⟨l,hl1,hl2⟩:=o
 obtain⟨_,m2,m1,_⟩:=z0Y _ (exD a) (exD b) l (Nat.le_refl _) hl1.symm (by omega) (y6t (exD_K va.1.all da)) (y6t (exD_K vb.1.all db)) hl2
 have nn:=y2j (exD a) (exD b)
 have s1:=z9Y (z0f (exD a) (exD b)).1
 have s2:=z9Y (z0f (exD a) (exD b)).2
 have a1:=va.2.2
 have b1:=vb.2.2
 obtain⟨d1,d2,d3,d4⟩:=z3l hu (by omega) (by omega)
 obtain⟨e1,e2,e3,e4⟩:=z3l hv (by omega) (by omega)
 exact⟨hu,hv,⟨z7O va,z7O vb,da,db,by rw[ruD0,ruD0];omega,by rw[ruD0,ruD0];exact DI.start hu (by omega),by rw[ruD0,ruD0];exact DI.start hv (by omega)⟩,d1,e1,d2,e2,by unfold z1h;omega,by unfold z4Z;omega,
  y1o hu (by omega),y1o hv (by omega)⟩
end Go.Ch
end
section
set_option linter.unusedVariables false
set_option linter.unusedSimpArgs false
namespace Go.Ch
open Go Go.Ab
def lenE(s:DStep):Int:=if(s.kind=1∧s.elems.length=0∧stepD s=11)∨(s.kind≠1∧s.n=0∧stepD s=2) then chkA true s.attrs 0 else stepD s
def tdW(w:DWr)(s:DStep):DWr:=
 if s.kind=0 then(if s.n=0 then w else⟨keepD (z0a w) s.n s.attrs,[],0⟩) else if s.kind=1 then⟨w.out,w.add++s.elems,w.cut⟩ else⟨w.out,w.add,w.cut+s.n⟩
def tdBad(w:DWr)(s:DStep):Prop:=s.kind≠0∧s.kind≠1∧2147483647<w.cut+s.n
instance (w:DWr) (s:DStep):Decidable (tdBad w s):=by unfold tdBad;infer_instance
def tidyG(w:DWr):List DStep→List DStep×Int
 | []=>if z0V (z0a w)=0 then(z0a w,0) else([],3)
 |s::l=>if lenE s≠0 then([],lenE s) else if tdBad w s then([],3) else tidyG (tdW w s) l
def tidyL(d:List DStep):List DStep:=(tidyG ⟨[],[],0⟩ d).1
def tidyE(d:List DStep):Int:=(tidyG ⟨[],[],0⟩ d).2
theorem z90{s:DStep}(h:lenE s=0):(s.kind=0∨s.kind=1∨s.kind=2)∧0≤s.n∧s.n≤2147483647:=by
 unfold lenE at h
 split at h
 ·rename_i hc
  rcases hc with⟨k,e,q⟩| ⟨k,n0,q⟩
  ·unfold stepD at q
   rw[if_pos k] at q
   split at q
   ·cases q
   ·rename_i hh;exact⟨.inr (.inl k),by omega,by omega⟩
  ·unfold stepD at q
   rw[if_neg k] at q
   split at q
   ·rename_i hk;exact⟨by omega,by omega,by omega⟩
   ·cases q
 ·obtain⟨a,b,c,_⟩:=z01 h;exact⟨a,b,c⟩
theorem y5H{P:List Attr→Prop}{R:Elem→Prop}{l:List DStep}{n:Int}{c:List Attr}(h:∀s∈l,P s.attrs∧∀x∈s.elems,R x)(hc:P c):∀s∈keepD l n c,P s.attrs∧∀x∈s.elems,R x:=by
 unfold keepD
 split
 ·rename_i hl
  intro s hs
  rcases List.mem_or_eq_of_mem_set hs with hs|rfl
  ·exact h s hs
  ·exact h (l.getD (l.length- 1) default) (z0z (by omega))
 ·intro s hs
  rcases List.mem_append.1 hs with hs|hs
  ·exact h s hs
  ·rw[List.mem_singleton] at hs;subst hs;exact⟨hc,fun x hx=>by cases hx⟩
theorem z83{P:List Attr→Prop}{R:Elem→Prop}{w:DWr}(h0:P [])(h:∀s∈w.out,P s.attrs∧∀x∈s.elems,R x)(ha:∀x∈w.add,R x):∀s∈z0a w,P s.attrs∧∀x∈s.elems,R x:=by
 unfold z0a
 intro s hs
 rcases List.mem_append.1 hs with hs|hs
 ·rcases List.mem_append.1 hs with hs|hs
  ·exact h s hs
  ·split at hs
   ·rw[List.mem_singleton] at hs;subst hs;exact⟨h0,ha⟩
   ·cases hs
 ·split at hs
  ·rw[List.mem_singleton] at hs;subst hs;exact⟨h0,fun x hx=>by cases hx⟩
  ·cases hs
theorem y7r{P:List Attr→Prop}{R:Elem→Prop}{w:DWr}{s:DStep}(h0:P [])(h:∀s∈w.out,P s.attrs∧∀x∈s.elems,R x)(ha:∀x∈w.add,R x)(hs:P s.attrs∧∀x∈s.elems,R x):
 (∀t∈(tdW w s).out,P t.attrs∧∀x∈t.elems,R x)∧∀x∈(tdW w s).add,R x:=by
 unfold tdW
 split
 ·split
  ·exact⟨h,ha⟩
  ·exact⟨y5H (z83 h0 h ha) hs.1,fun x hx=>by cases hx⟩
 ·split
  ·exact⟨h,fun x hx=>by rcases List.mem_append.1 hx with hx|hx;exact ha x hx;exact hs.2 x hx⟩
  ·exact⟨h,ha⟩
theorem z57{s:DStep}(h:stepD s=0):lenE s=0:=by
 unfold lenE
 rw[if_neg]
 ·exact h
 ·rintro(⟨_,_,q⟩| ⟨_,_,q⟩)<;>rw[h] at q<;>cases q
theorem y2k{w:DWr}{s:DStep}{l:List DStep}(h:lenE s=0)(hb:¬tdBad w s):tidyG w (s::l)=tidyG (tdW w s) l:=by
 conv=>lhs;unfold tidyG
 rw[if_neg (by rw[h];decide),if_neg hb]
end Go.Ch
end
section
set_option linter.unusedVariables false
set_option linter.unusedSimpArgs false
namespace Go.Ch
open Go Go.Ab
def elS:List DStep→Nat
 | []=>0
 |s::l=>s.elems.length+elS l
theorem y30(p q:List DStep):elS (p++q)=elS p+elS q:=by
 induction p with
 |nil=>simp[elS]
 |cons s p ih=>simp only[List.cons_append,elS,ih];omega
theorem y1s{d:List DStep}{i:Nat}(h:i<d.length):elS (d.take (i+1))=elS (d.take i)+(d.getD i default).elems.length∧elS (d.take (i+1))≤elS d:=by
 constructor
 ·rw[List.take_succ_eq_append_getElem h,y30,show d.getD i default=d[i] by simp[List.getD,List.getElem?_eq_getElem h]];simp[elS]
 ·conv=>rhs;rw[←List.take_append_drop (i+1) d,y30]
  omega
structure TB(d:List DStep)(i:Nat)(w:DWr):Prop where
 out:w.out.length≤3*i
 add:w.add.length≤elS (d.take i)
 cut:0≤w.cut∧w.cut≤2147483647
 n:∀s∈w.out,0≤s.n∧s.n≤2147483647*((i:Int)+1)
 dn:∀s∈w.out,s.attrs.length≤100000000000∧∀x∈s.elems,x.attrs.length≤100000000000
 an:∀x∈w.add,x.attrs.length≤100000000000
 el:∀s∈w.out,s.elems.length≤elS (d.take i)
theorem TB.start(d:List DStep):TB d 0 ⟨[],[],0⟩:=⟨by simp,by simp,⟨by simp,by simp⟩,fun s h=>absurd h List.not_mem_nil,fun s h=>absurd h List.not_mem_nil,fun s h=>absurd h List.not_mem_nil,fun s h=>absurd h List.not_mem_nil⟩
theorem y31{w:DWr}{B:Int}(hB:2147483647≤B)(hc:0≤w.cut∧w.cut≤2147483647)(h:∀s∈w.out,0≤s.n∧s.n≤B):∀s∈z0a w,0≤s.n∧s.n≤B:=by
 unfold z0a
 intro s hs
 rcases List.mem_append.1 hs with hs|hs
 ·rcases List.mem_append.1 hs with hs|hs
  ·exact h s hs
  ·split at hs
   ·rw[List.mem_singleton] at hs;subst hs;simp only;omega
   ·cases hs
 ·split at hs
  ·rw[List.mem_singleton] at hs;subst hs;simp only;omega
  ·cases hs
theorem y1t{w:DWr}{B:Nat}(ha:w.add.length≤B)(h:∀s∈w.out,s.elems.length≤B):∀s∈z0a w,s.elems.length≤B:=by
 unfold z0a
 intro s hs
 rcases List.mem_append.1 hs with hs|hs
 ·rcases List.mem_append.1 hs with hs|hs
  ·exact h s hs
  ·split at hs
   ·rw[List.mem_singleton] at hs;subst hs;exact ha
   ·cases hs
 ·split at hs
  ·rw[List.mem_singleton] at hs;subst hs;simp
  ·cases hs
theorem y8z{l:List DStep}{B B' n:Int}{c:List Attr}(h:∀s∈l,0≤s.n∧s.n≤B)(h1:0≤n)(h2:B+n≤B')(h3:0≤B):∀s∈keepD l n c,0≤s.n∧s.n≤B':=by
 unfold keepD
 split
 ·intro s hs
  rcases List.mem_or_eq_of_mem_set hs with hs|rfl
  ·have:=h s hs;omega
  ·have:=h (l.getD (l.length- 1) default) (z0z (by omega))
   simp only;omega
 ·intro s hs
  rcases List.mem_append.1 hs with hs|hs
  ·have:=h s hs;omega
  ·rw[List.mem_singleton] at hs;subst hs;simp only;omega
theorem y7s{l:List DStep}{B:Nat}{n:Int}{c:List Attr}(h:∀s∈l,s.elems.length≤B):∀s∈keepD l n c,s.elems.length≤B:=by
 unfold keepD
 split
 ·intro s hs
  rcases List.mem_or_eq_of_mem_set hs with hs|rfl
  ·exact h s hs
  ·exact h (l.getD (l.length- 1) default) (z0z (by omega))
 ·intro s hs
  rcases List.mem_append.1 hs with hs|hs
  ·exact h s hs
  ·rw[List.mem_singleton] at hs;subst hs;simp
theorem TB.flush{d:List DStep}{i:Nat}{w:DWr}(h:TB d i w)(hi:i≤100000000)(he:elS d≤100000000000)(hd:elS (d.take i)≤elS d):
 (∀s∈z0a w,0≤s.n∧s.n≤1000000000000000000)∧DN 400000000000 (z0a w):=by
 refine⟨y31 (by decide) h.cut (fun s hs=>by have:=h.n s hs;omega),fun s hs=> ?_⟩
 have h1:=z83 (P:=fun l=>l.length≤100000000000) (R:=fun x=>x.attrs.length≤100000000000) (by simp) h.dn h.an s hs
 have h2:=y1t h.add h.el s hs
 exact⟨by omega,by have:=h1.1;omega,fun x hx=>by have:=h1.2 x hx;omega⟩
theorem TB.next{d:List DStep}{i:Nat}{w:DWr}(h:TB d i w)(hi:i<d.length)(hd:DN 100000000000 d)(hl:lenE (d.getD i default)=0)(hb:¬tdBad w (d.getD i default)):TB d (i+1) (tdW w (d.getD i default)):=by
 obtain⟨k,n0,n1⟩:=z90 hl
 obtain⟨e1,_⟩:=y1s hi
 obtain⟨b1,b2,b3⟩:=hd _ (z0z hi)
 generalize d.getD i default=s at*
 have ha:=y7r (P:=fun l=>l.length≤100000000000) (R:=fun x=>x.attrs.length≤100000000000) (w:=w) (s:=s) (by simp) h.dn h.an ⟨b2,b3⟩
 have hn:=h.n
 have hc:=h.cut
 have ho:=h.out
 have hadd:=h.add
 refine⟨?_,?_,?_,?_,ha.1,ha.2,?_⟩
 ·unfold tdW
  split
  ·split
   ·omega
   ·have:=y3Q (z0a w) s.n s.attrs
    have:=z6R w
    simp only;omega
  ·split<;>simp only<;>omega
 ·unfold tdW
  split
  ·split
   ·omega
   ·simp
  ·split
   ·simp only[List.length_append];omega
   ·simp only;omega
 ·unfold tdW
  split
  ·split
   ·exact hc
   ·exact⟨Int.le_refl 0,(by decide:(0:Int)≤2147483647)⟩
  ·split
   ·exact hc
   ·rename_i k0 k1
    unfold tdBad at hb
    simp only
    omega
 ·have up:∀t∈w.out,0≤t.n∧t.n≤2147483647*(((i+1:Nat):Int)+1):=fun t ht=>by have:=hn t ht;omega
  unfold tdW
  split
  ·split
   ·exact up
   ·exact y8z (y31 (by omega) hc hn) (B':=2147483647*(((i+1:Nat):Int)+1)) (by omega) (by omega) (by omega)
  ·split
   ·exact up
   ·exact up
 ·have up:∀t∈w.out,t.elems.length≤elS (d.take (i+1)):=fun t ht=>by have:=h.el t ht;omega
  unfold tdW
  split
  ·split
   ·exact up
   ·exact y7s (y1t (by omega) up)
  ·split
   ·exact up
   ·exact up
end Go.Ch
namespace Go.Ch
open Go Go.Ab
theorem y5I{d:List DStep}{i:Nat}(h:i<d.length)(w:DWr):tidyG w (d.drop i)=if lenE (d.getD i default)≠0 then([],lenE (d.getD i default)) else if tdBad w (d.getD i default) then([],3) else tidyG (tdW w (d.getD i default)) (d.drop (i+1)):=by
 rw[dropD h,tidyG]
theorem z84{d:List DStep}{i:Nat}(h:d.length≤i)(w:DWr):tidyG w (d.drop i)=if z0V (z0a w)=0 then(z0a w,0) else([],3):=by
 rw[List.drop_eq_nil_of_le h,tidyG]
end Go.Ch
end
section
set_option linter.unusedVariables false
set_option linter.unusedSimpArgs false
namespace Go.Ch
open Go Go.Ab
end Go.Ch
end
section
set_option linter.unusedVariables false
set_option linter.unusedSimpArgs false
namespace Go.Ch
open Go Go.Ab
def stepU:DU→DStep
 | .K c=>⟨0,1,c,[]⟩
 | .A e=>⟨1,0,[],[e]⟩
 | .C=>⟨2,1,[],[]⟩
theorem y5J{u:DU}(h:z07 u):DOk (stepU u):=by
 cases u with
 |K c=>exact .inr ⟨.inl rfl,rfl,fun h=>absurd (show(0:Int)=2 from h) (by decide),Int.le_refl 1,(by decide:(1:Int)≤2147483647),h.1⟩
 |A e=>exact .inl ⟨rfl,rfl,rfl,by simp[stepU],fun x hx=>by rw[show x=e by simpa[stepU] using hx];exact h.1⟩
 |C=>exact .inr ⟨.inr rfl,rfl,fun _=>rfl,Int.le_refl 1,(by decide:(1:Int)≤2147483647),z54⟩
theorem tdW_U(w:DWr)(u:DU):tdW w (stepU u)=putU w u:=by
 cases u<;>simp[tdW,stepU,putU]
theorem y5K{w:DWr}(h:0≤w.cut)(u:DU):0≤(putU w u).cut∧(putU w u).cut≤w.cut+1:=by
 cases u<;>simp only[putU]<;>omega
theorem y32:∀(us:List DU) (w:DWr),(∀u∈us,z07 u)→0≤w.cut→w.cut+us.length≤2147483647→tidyG w (us.map stepU)=if z0V (z0a (foldD w us))=0 then(z0a (foldD w us),0) else([],3)
 | [],w,_,_,_=>by rw[List.map_nil,tidyG,foldD]
 |u::us,w,hu,h0,hl=>by
  simp only[List.length_cons] at hl
  have hc:=y5K h0 u
  rw[List.map_cons,tidyG,if_neg (by rw[z57 (z0K.2 (y5J (hu u (by simp))))];decide),if_neg,tdW_U,y32 us _ (fun v hv=>hu v (by simp[hv])) hc.1 (by omega),foldD]
  rintro⟨k0,k1,hb⟩
  have hn:(stepU u).n≤1:=by cases u<;>simp[stepU]
  omega
theorem z6U{us:List DU}(hu:∀u∈us,z07 u)(hl:us.length≤2147483647):tidyL (us.map stepU)=doneD us∧tidyE (us.map stepU)=0:=by
 have h1:oldN us≤us.length∧newN us≤us.length:=by
  clear hu hl
  induction us with
  |nil=>exact⟨Nat.le_refl _,Nat.le_refl _⟩
  |cons u us ih=>cases u<;>simp only[oldN,newN,List.length_cons]<;>omega
 have hd:=z3l hu (by omega) (by omega)
 have:=y32 us ⟨[],[],0⟩ hu (Int.le_refl _) (by simp only;omega)
 rw[if_pos (show z0V (z0a (foldD ⟨[],[],0⟩ us))=0 from z0S.2 hd.1)] at this
 unfold tidyL tidyE
 rw[this]
 exact⟨rfl,rfl⟩
theorem z85(p:Nat→Bool)(c:Nat→List Attr)(f:List Elem):∀(n s:Nat),s+n=f.length→
 z0j ((List.range' s n).map fun i=>if p i=true then .C else .K (c i)) (f.drop s)=((List.range' s n).filter fun i=> !p i).map fun i=>chgE (c i) (f.getD i default)
 |0,s,h=>by simp[z0j]
 |n+1,s,h=>by
  have ih:=z85 p c f n (s+1) (by omega)
  rw[List.range'_succ,List.map_cons,dropD (show s<f.length by omega),List.filter_cons]
  cases hp:p s with
  |true=>simp[z0j,ih]
  |false=>simp[z0j,ih]
end Go.Ch
end
section
set_option linter.unusedVariables false
set_option linter.unusedSimpArgs false
namespace Go.Ch
open Go Go.Ab
def cutB:ByteArray:={data:=#[99,117,116]}
def addB:ByteArray:={data:=#[97,100,100]}
def hidB:ByteArray:={data:=#[104,105,100,100,101,110]}
def hasA(l:List Attr)(n:ByteArray):Bool:=l.any fun a=>seq a.name n
def gotA(l:List Attr)(n:ByteArray):Bool:=!(seq (getA l n 0) {data:=#[]})
theorem y7t{l:List Attr}{i:Nat}(h:i<l.length)(n:ByteArray):hasA (l.drop i) n=(seq (l.getD i default).name n||hasA (l.drop (i+1)) n):=by
 have e:l.drop i=l.getD i default::l.drop (i+1):=by
  rw[List.drop_eq_getElem_cons h];simp[List.getD,List.getElem?_eq_getElem h]
 rw[e];rfl
theorem y33{l:List Attr}{n:ByteArray}:hasA l n=false↔look l n=none:=by
 induction l with
 |nil=>simp[hasA,look]
 |cons x l ih=>
  unfold hasA at ih⊢
  rw[List.any_cons,look]
  by_cases e:x.name=n
  ·rw[if_pos e,show seq x.name n=true from z0x.2 e];simp
  ·rw[if_neg e,show seq x.name n=false from z05.2 e,Bool.false_or];exact ih
theorem y5L{l:List Attr}{n:ByteArray}(h:VG false l):gotA l n=false↔look l n=none:=by
 unfold gotA
 rw[z9Q]
 cases hl:look l n with
 |none=>simp only[Option.getD_none];simp;exact z0x.2 rfl
 |some v=>
  have hv:v≠mt:=q_val vp_mt (V.look h hl)
  simp only[Option.getD_some]
  rw[show seq v {data:=#[]}=false from z05.2 hv];simp
def hidX(x:Elem)(mode:Int):Bool:=(seq (getA x.attrs hidB 0) onB|| ((mode==0)&&gotA x.attrs cutB))|| ((mode==1)&&gotA x.attrs addB)
def visB(f:List Elem)(mode:Int)(i:Nat):Bool:=!(hidX (f.getD i default) mode)|| (decide ((i:Int)=(f.length:Int)- 1)&&decide ((f.getD i default).char=10))
def plcN(f:List Elem)(mode:Int)(i:Nat):List Nat:=(List.range i).filter (visB f mode)
def plcL(f:List Elem)(mode:Int)(i:Nat):List Int:=(plcN f mode i).map fun i:Nat=>(i:Int)
theorem z86(f:List Elem)(mode:Int)(i:Nat):plcL f mode (i+1)=plcL f mode i++(if visB f mode i=true then[(i:Int)] else[]):=by
 unfold plcL plcN
 rw[List.range_succ,List.filter_append,List.map_append,List.filter_cons]
 cases visB f mode i<;>simp
theorem y1u(f:List Elem)(mode:Int)(i:Nat):(plcL f mode i).length≤i:=by
 unfold plcL plcN
 rw[List.length_map]
 have:=List.length_filter_le (visB f mode) (List.range i)
 rw[List.length_range] at this;exact this
theorem z91{f:List Elem}{mode:Int}{i:Nat}(h:hidX (f.getD i default) mode=false∨(i:Int)=(f.length:Int)- 1∧(f.getD i default).char=10):visB f mode i=true:=by
 unfold visB
 rcases h with h| ⟨h,k⟩
 ·rw[h];rfl
 ·rw[decide_eq_true h,decide_eq_true k];simp
theorem y6u{f:List Elem}{mode:Int}{i:Nat}(h:hidX (f.getD i default) mode=true∧(¬(i:Int)=(f.length:Int)- 1∨¬(f.getD i default).char=10)):visB f mode i=false:=by
 unfold visB
 rw[h.1]
 rcases h.2 with k|k
 ·rw[decide_eq_false k];simp
 ·rw[decide_eq_false k];simp
end Go.Ch
end
section
set_option linter.unusedVariables false
set_option linter.unusedSimpArgs false
namespace Go.Ch
open Go Go.Ab
def mtB:ByteArray:={data:=#[]}
def gapP(pl:List Int)(k:Int):Int:=if k=0 then 0 else pl.getD (k- 1).toNat default+1
def markB(pl:List Int)(n:Nat):List Bool:=(List.range n).map fun i:Nat=>pl.any (fun p=>p==(i:Int))
def ersU(f:List Elem)(pl:List Int)(au:ByteArray)(i:Nat):DU:=
 if pl.any (fun p=>p==(i:Int))=true then(if(seq au mtB||seq (getA (f.getD i default).attrs addB 0) au)=true then .C else .K [⟨cutB,au⟩]) else .K []
def ersUs(f:List Elem)(pl:List Int)(au:ByteArray)(n:Nat):List DU:=(List.range n).map (ersU f pl au)
def ersS(f:List Elem)(pl:List Int)(au:ByteArray)(n:Nat):List DStep:=(ersUs f pl au n).map stepU
def ersD(f:List Elem)(pl:List Int)(au:ByteArray):List DStep:=tidyL (ersS f pl au f.length)
def typE(au:ByteArray)(x:Elem):Elem:={x with attrs:=fm rawG x.attrs [⟨addB,au⟩,⟨cutB,mtB⟩]}
def typS(n:Nat)(k:Int)(es:List Elem)(au:ByteArray):List DStep:=[⟨0,k,[],[]⟩,⟨1,0,[],es.map (typE au)⟩,⟨0,(n:Int)- k,[],[]⟩]
def typD(n:Nat)(k:Int)(es:List Elem)(au:ByteArray):List DStep:=tidyL (typS n k es au)
theorem y34(pl:List Int)(n:Nat):(markB pl n).length=n:=by simp[markB]
theorem y35(n:Nat):markB [] n=List.replicate n false:=by
 unfold markB
 apply List.ext_getElem (by simp)
 intro i h1 h2
 simp
theorem y2l{pl:List Int}{k n:Nat}(h:k<pl.length)(hp:0≤pl.getD k default∧pl.getD k default< (n:Int)):(markB (pl.take k) n).set (pl.getD k default).toNat true=markB (pl.take (k+1)) n:=by
 have e:pl.getD k default=pl[k]:=by rw[List.getD_eq_getElem?_getD,List.getElem?_eq_getElem h];rfl
 unfold markB
 apply List.ext_getElem (by simp)
 intro i h1 h2
 simp only[List.getElem_set,List.getElem_map,List.getElem_range]
 rw[List.take_succ_eq_append_getElem h,List.any_append,List.any_cons,List.any_nil,Bool.or_false,←e]
 by_cases q:(pl.getD k default).toNat=i
 ·rw[if_pos q]
  have:(pl.getD k default==(i:Int))=true:=by rw[beq_iff_eq];omega
  rw[this,Bool.or_true]
 ·rw[if_neg q]
  have:(pl.getD k default==(i:Int))=false:=by rw[beq_eq_false_iff_ne];omega
  rw[this,Bool.or_false]
theorem z58(f:List Elem)(pl:List Int)(au:ByteArray)(i:Nat):ersS f pl au (i+1)=ersS f pl au i++[stepU (ersU f pl au i)]:=by
 unfold ersS ersUs
 rw[List.range_succ,List.map_append,List.map_append];rfl
theorem y1v(f:List Elem)(pl:List Int)(au:ByteArray)(i:Nat):(ersS f pl au i).length=i:=by simp[ersS,ersUs]
theorem y5M{pl:List Int}{n i:Nat}(h:i<n):(markB pl n).getD i default=pl.any (fun p=>p==(i:Int)):=by
 unfold markB
 rw[List.getD_eq_getElem?_getD,List.getElem?_map,List.getElem?_range h];rfl
theorem y7u(f:List Elem)(pl:List Int)(au:ByteArray)(n:Nat):DN 100000000000 (ersS f pl au n)∧elS (ersS f pl au n)=0:=by
 have hx:∀s∈ersS f pl au n,s.elems=[]∧s.attrs.length≤1:=by
  intro s hs
  unfold ersS ersUs at hs
  obtain⟨u,hu,rfl⟩:=List.mem_map.1 hs
  obtain⟨i,hi,rfl⟩:=List.mem_map.1 hu
  unfold ersU
  split
  ·split
   ·exact⟨rfl,by decide⟩
   ·exact⟨rfl,Nat.le_refl 1⟩
  ·exact⟨rfl,by decide⟩
 refine⟨fun s hs=> ?_,?_⟩
 ·obtain⟨h1,h2⟩:=hx s hs
  refine⟨by rw[h1];simp,by omega,?_⟩
  rw[h1];intro x hx;cases hx
 ·generalize ersS f pl au n=l at hx
  induction l with
  |nil=>rfl
  |cons s l ih=>
   rw[elS,(hx s List.mem_cons_self).1,ih (fun t ht=>hx t (List.mem_cons_of_mem _ ht))];rfl
theorem ers_0{f:List Elem}{pl:List Int}{au:ByteArray}{i:Nat}(h:pl.any (fun p=>p==(i:Int))=false):stepU (ersU f pl au i)={kind:=0,n:=1,attrs:=[],elems:=[]}:=by
 unfold ersU;rw[if_neg (by rw[h];decide)];rfl
theorem ers_c{f:List Elem}{pl:List Int}{au:ByteArray}{i:Nat}(h:pl.any (fun p=>p==(i:Int))=true)(h2:seq au {data:=#[]}=true∨seq (getA (f.getD i default).attrs {data:=#[97,100,100]} 0) au=true):stepU (ersU f pl au i)={kind:=2,n:=1,attrs:=[],elems:=[]}:=by
 unfold ersU;rw[if_pos h,if_pos (by rw[Bool.or_eq_true];exact h2)];rfl
theorem ers_k{f:List Elem}{pl:List Int}{au:ByteArray}{i:Nat}(h:pl.any (fun p=>p==(i:Int))=true)(h2:seq au {data:=#[]}=false∧seq (getA (f.getD i default).attrs {data:=#[97,100,100]} 0) au=false):stepU (ersU f pl au i)={kind:=0,n:=1,attrs:=[{name:={data:=#[99,117,116]},val:=au}],elems:=[]}:=by
 unfold ersU;rw[if_pos h,if_neg]
 ·rfl
 ·rw[Bool.or_eq_true];rintro(q|q)
  ·rw[show seq au mtB=seq au {data:=#[]} from rfl,h2.1] at q;cases q
  ·rw[show addB=({data:=#[97,100,100]}:ByteArray) from rfl,h2.2] at q;cases q
theorem y36{α:Type}[Inhabited α]{g:α→α}{l:List α}{i:Nat}(h:i<l.length):((l.take i).map g++l.drop i).getD i default=l.getD i default:=by
 rw[List.getD_eq_getElem?_getD,List.getElem?_append_right (by simp;omega)]
 simp only[List.length_map,List.length_take,Nat.min_eq_left (Nat.le_of_lt h),Nat.sub_self]
 rw[List.getElem?_drop,List.getD_eq_getElem?_getD];rfl
theorem z87{α:Type}[Inhabited α]{g:α→α}{l:List α}{i:Nat}(h:i<l.length):((l.take i).map g++l.drop i).set i (g (l.getD i default))=(l.take (i+1)).map g++l.drop (i+1):=by
 have e:l.getD i default=l[i]:=by rw[List.getD_eq_getElem?_getD,List.getElem?_eq_getElem h];rfl
 rw[List.take_succ_eq_append_getElem h,List.map_append,List.append_assoc,List.set_append_right _ _ (by simp;omega)]
 congr 1
 simp only[List.length_map,List.length_take,Nat.min_eq_left (Nat.le_of_lt h),Nat.sub_self]
 rw[z3j h,List.set_cons_zero,e];rfl
theorem y7v(n:Nat)(k:Int)(es:List Elem)(au:ByteArray)(he:es.length≤1048576)(ha:∀x∈es,x.attrs.length≤1048576):DN 100000000000 (typS n k es au)∧elS (typS n k es au)≤1048576:=by
 refine⟨fun s hs=> ?_,by simp[typS,elS];omega⟩
 unfold typS at hs
 simp only[List.mem_cons,List.not_mem_nil,or_false] at hs
 rcases hs with rfl|rfl|rfl
 ·exact⟨by simp,by simp,fun x hx=>by cases hx⟩
 ·refine⟨by simp;omega,by simp,fun x hx=> ?_⟩
  obtain⟨y,hy,rfl⟩:=List.mem_map.1 hx
  have h1:=ha y hy
  have h2:=z1q rawG y.attrs [⟨addB,au⟩,⟨cutB,mtB⟩]
  show(fm rawG y.attrs [⟨addB,au⟩,⟨cutB,mtB⟩]).length≤_
  simp at h2;omega
 ·exact⟨by simp,by simp,fun x hx=>by cases hx⟩
theorem y8A{n:Nat}{k:Int}{es o:List Elem}{au:ByteArray}(ho:o=es.map (typE au))(dn:DN 100000000000 (typS n k es au))(el:elS (typS n k es au)≤1048576):
 DN 100000000000 [{kind:=0,n:=k,attrs:=[],elems:=[]},{kind:=1,n:=0,attrs:=[],elems:=o},{kind:=0,n:=(n:Int)- k,attrs:=[],elems:=[]}]∧[({kind:=0,n:=k,attrs:=[],elems:=[]}:DStep),{kind:=1,n:=0,attrs:=[],elems:=o},{kind:=0,n:=(n:Int)- k,attrs:=[],elems:=[]}].length≤100000000∧
 elS [{kind:=0,n:=k,attrs:=[],elems:=[]},{kind:=1,n:=0,attrs:=[],elems:=o},{kind:=0,n:=(n:Int)- k,attrs:=[],elems:=[]}]≤10000000000:=by
 subst ho
 exact⟨dn,by simp,Nat.le_trans el (by decide)⟩
structure Pl where
 node:Node
 shown:List Int
 author:ByteArray
instance:Inhabited Pl:=⟨⟨default,[],{data:=#[]}⟩⟩
def plT(p:Pl):Tree:= .agg [TI p.node.id,TI p.node.kind,.lst 2 (p.node.attrs.map attrT),.lst 3 (p.node.flow.map elemT),TI p.node.grid.rows,TI p.node.grid.cols,.lst 5 (p.node.grid.cells.map cellT),.lst 4 (p.node.grid.merges.map rectT),.lst 8 (p.node.draw.map dopT),.lst 1 (p.shown.map intT),TS p.author]
structure Sel where
 nd:Int
 fr:Int
 tq:Int
instance:Inhabited Sel:=⟨⟨0,0,0⟩⟩
def selT(s:Sel):Tree:= .agg [TI s.nd,TI s.fr,TI s.tq]
def ndN(l:List Node)(k:Int):Node:=l.getD (lobN l k) default
def shwN(n:Node):List Int:=plcL n.flow 0 n.flow.length
def atE(d:Doc)(s:Sel)(au:ByteArray):Int:=
 if docE d≠0 then docE d
 else if hasN d.nodes s.nd=false then 7
 else if hasT (ndN d.nodes s.nd).kind=false then 8
 else if s.fr<0∨s.tq<s.fr∨((shwN (ndN d.nodes s.nd)).length:Int)≤s.tq then 2
 else if seq au {data:=#[]}=false∧valGo au=false then 23 else 0
def z59:Pl:=⟨⟨0,0,[],[],⟨0,0,[],[]⟩,[]⟩,[],{data:=#[]}⟩
def atP(d:Doc)(s:Sel)(au:ByteArray):Pl:=if atE d s au≠0 then z59 else⟨ndN d.nodes s.nd,shwN (ndN d.nodes s.nd),au⟩
theorem at_e{d:Doc}{s:Sel}{au:ByteArray}{k:Int}(h:atE d s au=k)(hk:k≠0):atP d s au=z59∧atE d s au=k:=by
 unfold atP;rw[h,if_pos hk];exact⟨rfl,rfl⟩
theorem at_1{d:Doc}{s:Sel}{au:ByteArray}(h:docE d≠0):atP d s au=z59∧atE d s au=docE d:=at_e (by unfold atE;rw[if_pos h]) h
theorem at_2{d:Doc}{s:Sel}{au:ByteArray}(h:docE d=0)(h2:hasN d.nodes s.nd=false):atP d s au=z59∧atE d s au=7:=at_e (by unfold atE;rw[if_neg (fun q=>q h),if_pos h2]) (by decide)
theorem at_3{d:Doc}{s:Sel}{au:ByteArray}(h:docE d=0)(h2:hasN d.nodes s.nd=true)(h3:hasT (d.nodes.getD (lobN d.nodes s.nd) default).kind=false):atP d s au=z59∧atE d s au=8:=
 at_e (by unfold atE;rw[if_neg (fun q=>q h),if_neg (by rw[h2];decide),if_pos (show hasT (ndN d.nodes s.nd).kind=false from h3)]) (by decide)
theorem at_4{d:Doc}{s:Sel}{au:ByteArray}(h:docE d=0)(h2:hasN d.nodes s.nd=true)(h3:hasT (d.nodes.getD (lobN d.nodes s.nd) default).kind=true)
 (h4:(s.fr<0∨s.tq<s.fr)∨((plcL (d.nodes.getD (lobN d.nodes s.nd) default).flow 0 (d.nodes.getD (lobN d.nodes s.nd) default).flow.length).length:Int)≤s.tq):atP d s au=z59∧atE d s au=2:=
 at_e (by unfold atE;rw[if_neg (fun q=>q h),if_neg (by rw[h2];decide),if_neg (by unfold ndN;rw[h3];decide),if_pos (by unfold shwN ndN;omega)]) (by decide)
theorem at_5{d:Doc}{s:Sel}{au:ByteArray}(h:docE d=0)(h2:hasN d.nodes s.nd=true)(h3:hasT (d.nodes.getD (lobN d.nodes s.nd) default).kind=true)
 (h4:(0≤s.fr∧s.fr≤s.tq)∧s.tq< ((plcL (d.nodes.getD (lobN d.nodes s.nd) default).flow 0 (d.nodes.getD (lobN d.nodes s.nd) default).flow.length).length:Int)) (h5:seq au {data:=#[]}=false∧valGo au=false):atP d s au=z59∧atE d s au=23:=
 at_e (by unfold atE;rw[if_neg (fun q=>q h),if_neg (by rw[h2];decide),if_neg (by unfold ndN;rw[h3];decide),if_neg (by unfold shwN ndN;omega),if_pos h5]) (by decide)
theorem at_6{d:Doc}{s:Sel}{au:ByteArray}(h:docE d=0)(h2:hasN d.nodes s.nd=true)(h3:hasT (d.nodes.getD (lobN d.nodes s.nd) default).kind=true)
 (h4:(0≤s.fr∧s.fr≤s.tq)∧s.tq< ((plcL (d.nodes.getD (lobN d.nodes s.nd) default).flow 0 (d.nodes.getD (lobN d.nodes s.nd) default).flow.length).length:Int)) (h5:seq au {data:=#[]}=true∨valGo au=true):atP d s au=⟨ndN d.nodes s.nd,shwN (ndN d.nodes s.nd),au⟩∧atE d s au=0:=by
 have e:atE d s au=0:=by
  unfold atE;rw[if_neg (fun q=>q h),if_neg (by rw[h2];decide),if_neg (by unfold ndN;rw[h3];decide),if_neg (by unfold shwN ndN;omega),if_neg]
  rintro⟨a,b⟩;rcases h5 with q|q
  ·rw[a] at q;cases q
  ·rw[b] at q;cases q
 unfold atP;rw[e,if_neg (fun q=>q rfl)];exact⟨rfl,rfl⟩
def elemP(p:Pl)(k:Int):Elem:=if k<0∨(p.shown.length:Int)≤k then⟨10,0,[]⟩ else p.node.flow.getD (p.shown.getD k.toNat default).toNat default
structure PlB(p:Pl):Prop where
 len:p.node.flow.length≤1048576
 ok:∀x∈p.shown,0≤x∧x< (p.node.flow.length:Int)
 sl:p.shown.length≤1048576
 at1:∀x∈p.node.flow,x.attrs.length≤1048576
theorem z6a{p:Pl}(h:PlB p)(k:Int):(elemP p k).attrs.length≤1048576:=by
 unfold elemP;split
 ·simp
 ·rename_i q
  have hx:=h.ok _ (z0g (l:=p.shown) (i:=k.toNat) (by omega))
  exact h.at1 _ (z0g (by omega))
def sprL:List ByteArray:=[{data:=#[98,111,108,100]},{data:=#[105,116,97,108,105,99]},{data:=#[117,110,100,101,114]},{data:=#[115,116,114,105,107,101]},{data:=#[102,105,120,101,100]},{data:=#[114,97,105,115,101]},{data:=#[115,105,122,101]},{data:=#[99,111,108,111,117,114]},{data:=#[108,97,110,103]},{data:=#[115,116,121,108,101]}]
def sprB(n:ByteArray):Bool:=sprL.any fun y=>seq n y
def btwB(n:ByteArray):Bool:=
 (((seq n {data:=#[108,105,110,107]}||seq n {data:=#[108,111,99,107]})|| (decide ((n.size:Int)> 7)&&seq (n.extract 0 7) {data:=#[114,101,109,97,114,107,46]}))|| (decide ((n.size:Int)> 5)&&seq (n.extract 0 5) {data:=#[109,97,114,107,46]}))
def inhF(p:Pl)(k:Int):Elem:=if(elemP p (k- 1)).char=10 then elemP p k else elemP p (k- 1)
def inhG(r:Elem)(k:Int)(a:Attr):Bool:=(btwB a.name&&decide (k>0))&&seq (getA r.attrs a.name 0) a.val
def inhO(r:Elem)(k:Int)(o:List Attr)(l:List Attr):List Attr:=l.foldl (fun o a=>if inhG r k a=true then fm rawG o [a] else o) o
def inhB(p:Pl)(k:Int):List Attr:=if(inhF p k).char≠10 then(inhF p k).attrs.filter (fun a=>sprB a.name) else[]
def inhP(p:Pl)(k:Int):List Attr:=inhO (elemP p k) k (inhB p k) (elemP p (k- 1)).attrs
theorem z5l(p:Pl)(k:Int):inhB p k=if(elemP p (k- 1)).char=10 then(if(elemP p k).char≠10 then(elemP p k).attrs.filter (fun a=>sprB a.name) else[]) else(if(elemP p (k- 1)).char≠10 then(elemP p (k- 1)).attrs.filter (fun a=>sprB a.name) else[]):=by
 unfold inhB inhF
 by_cases h:(elemP p (k- 1)).char=10
 ·rw[if_pos h,if_pos h]
 ·rw[if_neg h,if_neg h]
theorem z3n{α:Type}[Inhabited α]{f:α→Bool}{l:List α}{i:Nat}(h:i<l.length)(h1:f (l.getD i default)=true):List.filter f [l[i]]=[l.getD i default]:=by
 have e:l.getD i default=l[i]:=by rw[List.getD_eq_getElem?_getD,List.getElem?_eq_getElem h];rfl
 rw[e] at h1⊢;simp[h1]
theorem z3o{α:Type}[Inhabited α]{f:α→Bool}{l:List α}{i:Nat}(h:i<l.length)(h1:f (l.getD i default)=false):List.filter f [l[i]]=[]:=by
 have e:l.getD i default=l[i]:=by rw[List.getD_eq_getElem?_getD,List.getElem?_eq_getElem h];rfl
 rw[e] at h1;simp[h1]
theorem z0I{r:Elem}{k:Int}{o l:List Attr}{j:Nat}(h:j<l.length):inhO r k o (l.take (j+1))=if inhG r k (l.getD j default)=true then fm rawG (inhO r k o (l.take j)) [l.getD j default] else inhO r k o (l.take j):=by
 have e:l.getD j default=l[j]:=by rw[List.getD_eq_getElem?_getD,List.getElem?_eq_getElem h];rfl
 unfold inhO
 rw[List.take_succ_eq_append_getElem h,List.foldl_append,e];rfl
theorem z40{r:Elem}{k:Int}{a:Attr}(h:(btwB a.name=true∧0<k)∧seq (getA r.attrs a.name 0) a.val=true):inhG r k a=true:=by
 unfold inhG;rw[h.1.1,h.2,decide_eq_true (show k>0 from h.1.2)];rfl
theorem z41{r:Elem}{k:Int}{a:Attr}(h:(btwB a.name=false∨k≤0)∨seq (getA r.attrs a.name 0) a.val=false):¬inhG r k a=true:=by
 unfold inhG;rw[Bool.and_eq_true,Bool.and_eq_true,decide_eq_true_eq]
 rintro⟨⟨a,b⟩,c⟩
 rcases h with(h|h)|h
 ·rw[a] at h;cases h
 ·omega
 ·rw[c] at h;cases h
theorem y37{p:Pl}{k:Int}(h:(p.shown.length:Int)≤k):(elemP p k).char=10:=by unfold elemP;rw[if_pos (.inr h)]
def endK(p:Pl)(k:Nat):Nat:=if h:k<p.shown.length∧(elemP p k).char≠10 then endK p (k+1) else k
termination_by p.shown.length-k
theorem y38{p:Pl}{k:Nat}(h:(elemP p k).char≠10):k<p.shown.length∧endK p k=endK p (k+1):=by
 have hl:k<p.shown.length:=Classical.byContradiction fun q=>h (y37 (by omega))
 refine⟨hl,?_⟩
 conv=>lhs;rw[endK]
 rw[dif_pos ⟨hl,h⟩]
theorem y39{p:Pl}{k:Nat}(h:(elemP p k).char=10):endK p k=k:=by rw[endK,dif_neg (fun q=>q.2 h)]
def endL:List ByteArray:=[{data:=#[97,100,100]},{data:=#[99,117,116]},{data:=#[104,105,100,100,101,110]},{data:=#[108,111,99,107]},{data:=#[115,101,99,116,105,111,110]},{data:=#[98,114,101,97,107]},{data:=#[115,116,97,114,116]}]
def endG(a:Attr):Bool:=!(endL.any fun y=>seq a.name y)&& !(btwB a.name)
def endP(p:Pl)(k:Nat):List Attr:=(elemP p (endK p k)).attrs.filter endG
def opF(n:Int)(s:List DStep):EOp:=⟨2,n,⟨0,0,[],[],⟨0,0,[],[]⟩,[]⟩,[],s,⟨[],[],[],[],[]⟩,[]⟩
def ersP(p:Pl)(s:Sel):List DStep:=ersD p.node.flow ((p.shown.take s.tq.toNat).drop s.fr.toNat) p.author
def typP(p:Pl)(s:Sel)(es:List Elem):List DStep:=typD p.node.flow.length (gapP p.shown s.fr) es p.author
def stpP(p:Pl)(s:Sel)(es:List Elem):List DStep:=joinD (ersP p s) (z1h (typP p s es) (ersP p s))
def selP(s:Sel)(es:List Elem):Sel:=⟨s.nd,s.fr+es.length,s.fr+es.length⟩
structure StpB(p:Pl)(s:Sel)(es:List Elem):Prop where
 s1:0≤s.fr∧s.fr≤s.tq∧s.tq< (p.shown.length:Int)
 e1:es.length≤1048576
 e2:∀x∈es,x.attrs.length≤1048576
 v1:z0W (ersP p s)
 v2:z0W (typP p s es)
 v3:z0W (z1h (typP p s es) (ersP p s))
 d1:DN 100000000000 (ersP p s)
 d2:DN 100000000000 (typP p s es)
 d3:DN 100000000000 (z1h (typP p s es) (ersP p s))
 m1:oldD (typP p s es)=oldD (ersP p s)
 m2:newD (ersP p s)=oldD (z1h (typP p s es) (ersP p s))
 m3:newD (typP p s es)+newD (ersP p s)≤2147483647
theorem z92{p:Pl}{s:Sel}(h:PlB p)(h2:0≤s.fr∧s.fr≤s.tq∧s.tq< (p.shown.length:Int)):0≤gapP p.shown s.fr∧gapP p.shown s.fr≤(p.node.flow.length:Int):=by
 unfold gapP;split
 ·omega
 ·have:=h.ok _ (z0g (l:=p.shown) (i:=(s.fr- 1).toNat) (by omega));omega
def mkE(l:List Attr)(c:Int):Elem:=⟨c,0,l⟩
def typX(p:Pl)(s:Sel)(x:Elem):Elem:=if x.char=10 then {x with attrs:=endP p s.tq.toNat} else x
def typEl(p:Pl)(s:Sel)(cs:List Int):List Elem:=(cs.map (mkE (inhP p s.fr))).map (typX p s)
def typeO(d:Doc)(s:Sel)(cs:List Int)(au:ByteArray):List EOp:=if atE d s au≠0 then[] else[opF s.nd (stpP (atP d s au) s (typEl (atP d s au) s cs))]
def typeS(d:Doc)(s:Sel)(cs:List Int)(au:ByteArray):Sel:=if atE d s au≠0 then⟨0,0,0⟩ else selP s (typEl (atP d s au) s cs)
structure TypB(d:Doc)(s:Sel)(cs:List Int)(au:ByteArray):Prop where
 p:PlB (atP d s au)
 c:chkA false (inhP (atP d s au) s.fr) 0=0
 l:(inhP (atP d s au) s.fr).length≤10000000
 r:0≤s.fr∧s.fr≤s.tq∧s.tq< ((atP d s au).shown.length:Int)
 s:StpB (atP d s au) s (typEl (atP d s au) s cs)
theorem y8B{d:Doc}{s:Sel}{cs:List Int}{au:ByteArray}(h:atE d s au≠0):typeO d s cs au=[]∧typeS d s cs au=⟨0,0,0⟩:=by
 unfold typeO typeS;rw[if_pos h,if_pos h];exact⟨rfl,rfl⟩
theorem y6v{d:Doc}{s:Sel}{cs:List Int}{au:ByteArray}(h:atE d s au=0):typeO d s cs au=[opF s.nd (stpP (atP d s au) s (typEl (atP d s au) s cs))]∧typeS d s cs au=selP s (typEl (atP d s au) s cs):=by
 unfold typeO typeS;rw[if_neg (fun q=>q h),if_neg (fun q=>q h)];exact⟨rfl,rfl⟩
theorem y8C{p:Pl}{s:Sel}{x:Elem}(h:x.char=10):typX p s x={char:=x.char,ref:=x.ref,attrs:=endP p s.tq.toNat}:=by unfold typX;rw[if_pos h]
theorem y8D{p:Pl}{s:Sel}{x:Elem}(h:x.char≠10):typX p s x=x:=by unfold typX;rw[if_neg h]
theorem y4a{α:Type}[Inhabited α]{g:α→α}{l:List α}{i:Nat}(h:i<l.length)(h2:g (l.getD i default)=l.getD i default):(l.take i).map g++l.drop i=(l.take (i+1)).map g++l.drop (i+1):=by
 have e:l.getD i default=l[i]:=by rw[List.getD_eq_getElem?_getD,List.getElem?_eq_getElem h];rfl
 rw[List.take_succ_eq_append_getElem h,List.map_append,List.append_assoc,z3j h]
 rw[e] at h2⊢
 simp[h2]
theorem y6w{a:Attr}(h:endL.any (fun y=>seq a.name y)=false∧btwB a.name=false):endG a=true:=by unfold endG;rw[h.1,h.2];rfl
theorem y6x{a:Attr}(h:endL.any (fun y=>seq a.name y)=true∨btwB a.name=true):endG a=false:=by
 unfold endG;rcases h with h|h<;>rw[h]
 ·rfl
 ·simp
theorem y5N{p:Pl}{k:Int}(h0:0≤k)(h:(elemP p k).char≠10):k< (p.shown.length:Int)∧endK p k.toNat=endK p (k+1).toNat:=by
 have e:((k.toNat:Nat):Int)=k:=Int.toNat_of_nonneg h0
 have:=y38 (p:=p) (k:=k.toNat) (by rw[e];exact h)
 exact⟨by omega,by rw[this.2];congr 1;omega⟩
theorem y5O{p:Pl}{k:Int}(h0:0≤k)(h:(elemP p k).char=10):endK p k.toNat=k.toNat:=y39 (by rw[Int.toNat_of_nonneg h0];exact h)
def fmtW(p:Pl)(s:Sel)(k:Int):Bool:=(decide (k≥s.fr)&&decide (k<s.tq))&&((elemP p k).char !=10)
def parW(p:Pl)(s:Sel)(m:Int)(k:Int):Bool:=(decide (k≥s.fr)&&decide (k≤m))&&((elemP p k).char==10)
def rstF(w:Int→Bool)(sh:List Int)(n m:Nat):List Bool:=(List.range m).foldl (fun b k=>b.set (Int.toNat (sh.getD k default)) (w (k:Int))) (List.replicate n false)
theorem z4g(w:Int→Bool)(sh:List Int)(n m:Nat):rstF w sh n (m+1)=(rstF w sh n m).set (Int.toNat (sh.getD m default)) (w (m:Int)):=by
 unfold rstF;rw[List.range_succ,List.foldl_append];rfl
theorem z5m(w:Int→Bool)(sh:List Int)(n:Nat):∀m,(rstF w sh n m).length=n
 |0=>by simp[rstF]
 |m+1=>by rw[z4g,List.length_set,z5m w sh n m]
def rstU(c:List Attr)(f:List Bool)(i:Nat):DU:=if f.getD i default=true then .K c else .K []
def rstS(c:List Attr)(f:List Bool)(n:Nat):List DStep:=((List.range n).map (rstU c f)).map stepU
def rstD(c:List Attr)(f:List Bool)(n:Nat):List DStep:=tidyL (rstS c f n)
theorem z4h(c:List Attr)(f:List Bool)(i:Nat):rstS c f (i+1)=rstS c f i++[stepU (rstU c f i)]:=by
 unfold rstS;rw[List.range_succ,List.map_append,List.map_append];rfl
theorem y1w(c:List Attr)(f:List Bool)(i:Nat):(rstS c f i).length=i:=by simp[rstS]
theorem y6y{c:List Attr}{f:List Bool}{i:Nat}(h:f.getD i default=true):stepU (rstU c f i)={kind:=0,n:=1,attrs:=c,elems:=[]}:=by unfold rstU;rw[if_pos h];rfl
theorem y6z{c:List Attr}{f:List Bool}{i:Nat}(h:f.getD i default=false):stepU (rstU c f i)={kind:=0,n:=1,attrs:=[],elems:=[]}:=by unfold rstU;rw[if_neg (by rw[h];decide)];rfl
theorem y4b(c:List Attr)(f:List Bool)(n:Nat)(hc:c.length≤1048576):DN 100000000000 (rstS c f n)∧elS (rstS c f n)=0:=by
 have hx:∀s∈rstS c f n,s.elems=[]∧s.attrs.length≤1048576:=by
  intro s hs
  unfold rstS at hs
  obtain⟨u,hu,rfl⟩:=List.mem_map.1 hs
  obtain⟨i,hi,rfl⟩:=List.mem_map.1 hu
  unfold rstU
  split
  ·exact⟨rfl,hc⟩
  ·exact⟨rfl,by simp[stepU]⟩
 refine⟨fun s hs=> ?_,?_⟩
 ·obtain⟨h1,h2⟩:=hx s hs
  refine⟨by rw[h1];simp,by omega,?_⟩
  rw[h1];intro x hx;cases hx
 ·generalize rstS c f n=l at hx
  induction l with
  |nil=>rfl
  |cons s l ih=>
   rw[elS,(hx s List.mem_cons_self).1,ih (fun t ht=>hx t (List.mem_cons_of_mem _ ht))];rfl
def fmtE(d:Doc)(s:Sel)(c:List Attr):Int:=if atE d s {data:=#[]}≠0 then atE d s {data:=#[]} else chkA true c 0
def fmtL(p:Pl)(c:List Attr)(w:Int→Bool):List EOp:=[opF p.node.id (rstD c (rstF w p.shown p.node.flow.length p.shown.length) p.node.flow.length)]
def fmtO(d:Doc)(s:Sel)(c:List Attr):List EOp:=if fmtE d s c≠0 then[] else fmtL (atP d s {data:=#[]}) c (fmtW (atP d s {data:=#[]}) s)
def parO(d:Doc)(s:Sel)(c:List Attr):List EOp:=
 if fmtE d s c≠0 then[] else fmtL (atP d s {data:=#[]}) c (parW (atP d s {data:=#[]}) s ((endK (atP d s {data:=#[]}) (max s.fr (s.tq- 1)).toNat:Nat):Int))
theorem y4c{d:Doc}{s:Sel}{c:List Attr}(h:atE d s {data:=#[]}≠0):fmtE d s c=atE d s {data:=#[]}:=by unfold fmtE;rw[if_pos h]
theorem z6b{d:Doc}{s:Sel}{c:List Attr}(h:atE d s {data:=#[]}=0):fmtE d s c=chkA true c 0:=by unfold fmtE;rw[if_neg (fun q=>q h)]
theorem fmt_1{d:Doc}{s:Sel}{c:List Attr}(h:atE d s {data:=#[]}≠0):fmtO d s c=[]∧fmtE d s c=atE d s {data:=#[]}:=by
 have e:=y4c (c:=c) h
 unfold fmtO;rw[e,if_pos h];exact⟨rfl,rfl⟩
theorem fmt_2{d:Doc}{s:Sel}{c:List Attr}(h:atE d s {data:=#[]}=0)(h2:chkA true c 0≠0):fmtO d s c=[]∧fmtE d s c=chkA true c 0:=by
 have e:=z6b (c:=c) h
 unfold fmtO;rw[e,if_pos h2];exact⟨rfl,rfl⟩
theorem fmt_3{d:Doc}{s:Sel}{c:List Attr}(h:atE d s {data:=#[]}=0)(h2:chkA true c 0=0):fmtO d s c=fmtL (atP d s {data:=#[]}) c (fmtW (atP d s {data:=#[]}) s)∧fmtE d s c=0:=by
 have e:=(z6b (c:=c) h).trans h2
 unfold fmtO;rw[e,if_neg (fun q=>q rfl)];exact⟨rfl,rfl⟩
theorem par_1{d:Doc}{s:Sel}{c:List Attr}(h:atE d s {data:=#[]}≠0):parO d s c=[]∧fmtE d s c=atE d s {data:=#[]}:=by
 have e:=y4c (c:=c) h
 unfold parO;rw[e,if_pos h];exact⟨rfl,rfl⟩
theorem par_2{d:Doc}{s:Sel}{c:List Attr}(h:atE d s {data:=#[]}=0)(h2:chkA true c 0≠0):parO d s c=[]∧fmtE d s c=chkA true c 0:=by
 have e:=z6b (c:=c) h
 unfold parO;rw[e,if_pos h2];exact⟨rfl,rfl⟩
theorem par_3{d:Doc}{s:Sel}{c:List Attr}{m:Int}(h:atE d s {data:=#[]}=0)(h2:chkA true c 0=0)(hm:((endK (atP d s {data:=#[]}) (max s.fr (s.tq- 1)).toNat:Nat):Int)=m):parO d s c=fmtL (atP d s {data:=#[]}) c (parW (atP d s {data:=#[]}) s m)∧fmtE d s c=0:=by
 have e:=(z6b (c:=c) h).trans h2
 unfold parO;rw[e,if_neg (fun q=>q rfl),hm];exact⟨rfl,rfl⟩
end Go.Ch
end
