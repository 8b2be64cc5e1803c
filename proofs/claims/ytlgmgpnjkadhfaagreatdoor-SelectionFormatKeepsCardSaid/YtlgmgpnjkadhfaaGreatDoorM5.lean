/- Parts of the proof: ChAttr2, ChAttr3, OrdPlain, AbNext, AbOxM, ReplPlain, AttrFacts, FlowPlain, ChFlow, AxisPlain, AxisSteps, AxisRead, ChAxis3, AxisJoin, AxisFacts, AxisPlace, GridPlain, GridPlain2, GridText, GridPlain3, GridPlain4, ChGrid, ChRepl, ChAxis6, GridLite, ChGrid6, ChGrid7, ChGrid8. -/
import Derived.Test.YtlgmgpnjkadhfaaGreatDoorM1
import Derived.Test.YtlgmgpnjkadhfaaGreatDoorM2
import Derived.Test.YtlgmgpnjkadhfaaGreatDoorM3
import Derived.Test.YtlgmgpnjkadhfaaGreatDoorM4
import Derived.Maps.RangeRun
import Derived.Shelf.Unicode.DecodeSlow
import Derived.Lib.TrimUEq
import Derived.Lib.QuoteLoop
import Derived.Lib.ValidLaws
import Derived.Lib.ValidAsc
section
set_option linter.unusedVariables false
set_option linter.unusedSimpArgs false
set_option maxRecDepth 100000
set_option maxHeartbeats 4000000
open Go Go.Proofs Go.Ab
namespace Go.Ch
theorem z9N(f:FuncId)(g:Attr→Attr→Option Attr)(hfc:z00 Tryz.prog f=true)(hf:∀(o:List Attr) (x y:Attr),o.length<1099511627776→FC Tryz.prog f [.t (attrT x),.t (attrT y),.ptr 0 0] (app emp [(0,.box [.row 1 o.length]),(1,.row 2 false (List.map attrT o))]) (.tup []) (app emp [(0,.box [.row 1 (o++(g x y).toList).length]),(1,.row 2 false (List.map attrT (o++(g x y).toList)))]))(a b o:List Attr)(hn:o.length+a.length+b.length<1099511627776):FC Tryz.prog 103 [VL 2 attrT a,VL 2 attrT b,.fn f [.ptr 0 0]] (app emp [(0,.box [.row 1 o.length]),(1,OR 2 attrT o)]) (.tup []) (app emp [(0,.box [.row 1 ((o++fm g a b).length)]),(1,OR 2 attrT (o++fm g a b))]):=by
 refine .go Tryz.f103 ?_
 refine .len 0 (fun hl0=> ?_)
 refine .len 1 (fun hl1=> ?_)
 refine .loop (α:=Nat×Nat×(List Attr)) [.r []] 18 (fun(i,j,p)=>([(0,VL 2 attrT a),(1,VL 2 attrT b),(2,.fn f [.ptr 0 0]),(6,VI (i:Int)),(7,VI (j:Int))],[(0,.box [.row 1 p.length]),(1,OR 2 attrT p)])) (fun(i,j,p)=>i≤a.length∧j≤b.length∧p.length≤o.length+i+j∧o++fm g a b=p++fm g (a.drop i) (b.drop j)) (fun(i,j,p)=>(a.length-i)+(b.length-j)) (0,0,o) ?_ ?_
 ·
  exact⟨by omega,by omega,by omega,rfl⟩
 rintro⟨i,j,p⟩ I1 ih1
 try dsimp only at I1
 refine .bp [.r [(2,X (Xl attrT a)),(7,Xv 1 (!(decide ((i:Int)< (a.length:Int)))) (Xl attrT b)),(8,Xv 2 (!(decide ((i:Int)< (a.length:Int)))) X0),(9,X (Xk' (decide ((i:Int)< (a.length:Int)))))]] (decide ((i:Int)< (a.length:Int))||decide ((j:Int)< (b.length:Int))) (fun h1=> ?_) (fun h1=> ?_)
 ·
  refine .bp [.r [(2,X (Xl attrT b)),(7,Xv 1 (!((j:Int)==(b.length:Int))) (Xl attrT a)),(8,Xv 2 (!((j:Int)==(b.length:Int))) X0),(9,Xv 1 (!((j:Int)==(b.length:Int))) X0),(12,Xv 2 ((!((j:Int)==(b.length:Int)))&&(decide ((i:Int)< (a.length:Int)))) (Xi attrT a (i:Int))),(13,Xv 1 ((!((j:Int)==(b.length:Int)))&&(decide ((i:Int)< (a.length:Int)))) X0),(14,Xv 1 ((!((j:Int)==(b.length:Int)))&&(decide ((i:Int)< (a.length:Int)))) X0),(17,Xv 2 ((!((j:Int)==(b.length:Int)))&&(decide ((i:Int)< (a.length:Int)))) (Xi attrT b (j:Int))),(18,Xv 1 ((!((j:Int)==(b.length:Int)))&&(decide ((i:Int)< (a.length:Int)))) X0),(19,Xv 1 ((!((j:Int)==(b.length:Int)))&&(decide ((i:Int)< (a.length:Int)))) X0),(20,Xv 2 ((!((j:Int)==(b.length:Int)))&&(decide ((i:Int)< (a.length:Int)))) X0),(21,Xka (!((j:Int)==(b.length:Int))) (decide ((i:Int)< (a.length:Int)))),(22,X (Xk' ((j:Int)==(b.length:Int))))]] (((j:Int)==(b.length:Int))|| (decide ((i:Int)< (a.length:Int))&&slt (((a.getD i default)).name) (((b.getD j default)).name))) (fun h4=> ?_) (fun h4=> ?_)
  ·
   refine .back [.r [(3,X (Xi attrT a (i:Int))),(6,X (Xc3 338 [(0,0),(1,1)] (hf p ((a.getD i default)) ({name:={data:=#[]},val:={data:=#[]}}:Attr) (by first|omega| (simp;omega))) X0 (hc:=hfc)))],.r [(1,X (Xn ((i:Int)+1)))]] [(0,0),(1,1)] (ih1 ((i+1),j,(p++(g ((a.getD i default)) ({name:={data:=#[]},val:={data:=#[]}}:Attr)).toList)) ?_ ?_)
   ·
    have hi:i<a.length:=by omega
    have hg:=z5R (o:=g (a.getD i default) ⟨{data:=#[]},{data:=#[]}⟩)
    have e:=fm_a (g:=g) (a:=a) (b:=b) (j:=j) hi (by rcases h4 with h|h;(left;omega);exact .inr h.2)
    refine⟨by omega,by omega,by simp only[List.length_append];omega,?_⟩
    rw[I1.2.2.2,e,List.append_assoc]
   ·
    ((try dsimp only);omega)
  ·
   refine .bp [.r [(2,X (Xl attrT a)),(7,Xv 2 (!((i:Int)==(a.length:Int))) (Xi attrT b (j:Int))),(8,Xv 1 (!((i:Int)==(a.length:Int))) X0),(9,Xv 1 (!((i:Int)==(a.length:Int))) X0),(12,Xv 2 (!((i:Int)==(a.length:Int))) (Xi attrT a (i:Int))),(13,Xv 1 (!((i:Int)==(a.length:Int))) X0),(14,Xv 1 (!((i:Int)==(a.length:Int))) X0),(15,Xv 2 (!((i:Int)==(a.length:Int))) X0),(16,X (Xk' ((i:Int)==(a.length:Int))))]] (((i:Int)==(a.length:Int))||slt (((b.getD j default)).name) (((a.getD i default)).name)) (fun h7=> ?_) (fun h7=> ?_)
   ·
    refine .back [.r [(4,X (Xi attrT b (j:Int))),(6,X (Xc3 482 [(0,0),(1,1)] (hf p ({name:={data:=#[]},val:={data:=#[]}}:Attr) ((b.getD j default)) (by first|omega| (simp;omega))) X0 (hc:=hfc)))],.r [(1,X (Xn ((j:Int)+1)))]] [(0,0),(1,1)] (ih1 (i,(j+1),(p++(g ({name:={data:=#[]},val:={data:=#[]}}:Attr) ((b.getD j default))).toList)) ?_ ?_)
    ·
     have hj:j<b.length:=by omega
     have hg:=z5R (o:=g ⟨{data:=#[]},{data:=#[]}⟩ (b.getD j default))
     have e:=fm_b (g:=g) (a:=a) (b:=b) (i:=i) hj (fun hi=>by rcases h4.2 with h|h;omega;exact h) (by rcases h7 with h|h;(left;omega);exact .inr h)
     refine⟨by omega,by omega,by simp only[List.length_append];omega,?_⟩
     rw[I1.2.2.2,e,List.append_assoc]
    ·
     ((try dsimp only);omega)
   ·
    refine .back [.r [(3,X (Xi attrT a (i:Int))),(7,X (Xi attrT b (j:Int))),(9,X (Xc3 506 [(0,0),(1,1)] (hf p ((a.getD i default)) ((b.getD j default)) (by first|omega| (simp;omega))) X0 (hc:=hfc)))],.r [(1,X (Xn ((i:Int)+1))),(3,X (Xn ((j:Int)+1)))]] [(0,0),(1,1)] (ih1 ((i+1),(j+1),(p++(g ((a.getD i default)) ((b.getD j default))).toList)) ?_ ?_)
    ·
     have hi:i<a.length:=by omega
     have hj:j<b.length:=by omega
     have hg:=z5R (o:=g (a.getD i default) (b.getD j default))
     have e:=fm_ab (g:=g) (a:=a) (b:=b) hi hj (by rcases h4.2 with h|h;omega;exact h) h7.2
     refine⟨by omega,by omega,by simp only[List.length_append];omega,?_⟩
     rw[I1.2.2.2,e,List.append_assoc]
    ·
     ((try dsimp only);omega)
 ·
  have e1:((o++fm g a b).length:Nat)=p.length:=by
   rw[I1.2.2.2,y6k (by omega) (by omega),List.append_nil]
  have e2:((o++fm g a b):List Attr)=p:=by
   rw[I1.2.2.2,y6k (by omega) (by omega),List.append_nil]
  exact .finE [] [(0,0),(1,1)] (fun((z0,z1):Nat×(List Attr))=>(.tup [],[(0,.box [.row 1 z0]),(1,OR 2 attrT z1)])) _ _ (pr e1 e2)
theorem y65(o:List Attr)(x y:Attr)(hn:o.length<1099511627776):FC Tryz.prog 104 [.t (attrT x),.t (attrT y),.ptr 0 0] (app emp [(0,.box [.row 1 o.length]),(1,OR 2 attrT o)]) (.tup []) (app emp [(0,.box [.row 1 ((o++(rawG x y).toList).length)]),(1,OR 2 attrT (o++(rawG x y).toList))]):=by
 refine .go Tryz.f104 ?_
 refine .bp [.r [],.r []] (seq y.name ({data:=#[]})) (fun h1=> ?_) (fun h1=> ?_)
 ·
  have e1:((o++(rawG x y).toList).length:Nat)=(o++[x]).length:=by
   simp only[z0x,z05] at*;unfold rawG;(repeat' split)<;>simp_all
  have e2:((o++(rawG x y).toList):List Attr)=(o++[x]):=by
   simp only[z0x,z05] at*;unfold rawG;(repeat' split)<;>simp_all
  exact .finE [.r [(3,X (rowC attrT [x] (Xap 2 attrT 1 o [x])))]] [(0,0),(1,1)] (fun((z0,z1):Nat×(List Attr))=>(.tup [],[(0,.box [.row 1 z0]),(1,OR 2 attrT z1)])) _ _ (pr e1 e2)
 ·
  refine .bp [.r []] (!(seq y.val ({data:=#[]}))) (fun h3=> ?_) (fun h3=> ?_)
  ·
   have e3:((o++(rawG x y).toList).length:Nat)=(o++[y]).length:=by
    simp only[z0x,z05] at*;unfold rawG;(repeat' split)<;>simp_all
   have e4:((o++(rawG x y).toList):List Attr)=(o++[y]):=by
    simp only[z0x,z05] at*;unfold rawG;(repeat' split)<;>simp_all
   exact .finE [.r [(3,X (rowC attrT [y] (Xap 2 attrT 1 o [y])))]] [(0,0),(1,1)] (fun((z0,z1):Nat×(List Attr))=>(.tup [],[(0,.box [.row 1 z0]),(1,OR 2 attrT z1)])) _ _ (pr e3 e4)
  ·
   have e5:((o++(rawG x y).toList).length:Nat)=o.length:=by
    simp only[z0x,z05] at*;unfold rawG;(repeat' split)<;>simp_all
   have e6:((o++(rawG x y).toList):List Attr)=o:=by
    simp only[z0x,z05] at*;unfold rawG;(repeat' split)<;>simp_all
   exact .finE [] [(0,0),(1,1)] (fun((z0,z1):Nat×(List Attr))=>(.tup [],[(0,.box [.row 1 z0]),(1,OR 2 attrT z1)])) _ _ (pr e5 e6)
theorem y66(o:List Attr)(x y:Attr)(hn:o.length<1099511627776):FC Tryz.prog 151 [.t (attrT x),.t (attrT y),.ptr 0 0] (app emp [(0,.box [.row 1 o.length]),(1,OR 2 attrT o)]) (.tup []) (app emp [(0,.box [.row 1 ((o++(wioG x y).toList).length)]),(1,OR 2 attrT (o++(wioG x y).toList))]):=by
 refine .go Tryz.f151 ?_
 refine .bp [.r [],.r []] (seq y.name ({data:=#[]})) (fun h1=> ?_) (fun h1=> ?_)
 ·
  have e1:((o++(wioG x y).toList).length:Nat)=(o++[x]).length:=by
   simp only[z0x,z05] at*;unfold wioG;(repeat' split)<;>simp_all
  have e2:((o++(wioG x y).toList):List Attr)=(o++[x]):=by
   simp only[z0x,z05] at*;unfold wioG;(repeat' split)<;>simp_all
  exact .finE [.r [(3,X (rowC attrT [x] (Xap 2 attrT 1 o [x])))]] [(0,0),(1,1)] (fun((z0,z1):Nat×(List Attr))=>(.tup [],[(0,.box [.row 1 z0]),(1,OR 2 attrT z1)])) _ _ (pr e1 e2)
 ·
  have e3:((o++(wioG x y).toList).length:Nat)=o.length:=by
   simp only[z0x,z05] at*;unfold wioG;(repeat' split)<;>simp_all
  have e4:((o++(wioG x y).toList):List Attr)=o:=by
   simp only[z0x,z05] at*;unfold wioG;(repeat' split)<;>simp_all
  exact .finE [] [(0,0),(1,1)] (fun((z0,z1):Nat×(List Attr))=>(.tup [],[(0,.box [.row 1 z0]),(1,OR 2 attrT z1)])) _ _ (pr e3 e4)
theorem y67(o:List Attr)(x y:Attr)(hn:o.length<1099511627776):FC Tryz.prog 152 [.t (attrT x),.t (attrT y),.ptr 0 0] (app emp [(0,.box [.row 1 o.length]),(1,OR 2 attrT o)]) (.tup []) (app emp [(0,.box [.row 1 ((o++(botG x y).toList).length)]),(1,OR 2 attrT (o++(botG x y).toList))]):=by
 refine .go Tryz.f152 ?_
 refine .bp [.r [],.r []] (seq y.name ({data:=#[]})) (fun h1=> ?_) (fun h1=> ?_)
 ·
  have e1:((o++(botG x y).toList).length:Nat)=(o++[x]).length:=by
   simp only[z0x,z05] at*;unfold botG;(repeat' split)<;>simp_all
  have e2:((o++(botG x y).toList):List Attr)=(o++[x]):=by
   simp only[z0x,z05] at*;unfold botG;(repeat' split)<;>simp_all
  exact .finE [.r [],.r [(3,X (rowC attrT [x] (Xap 2 attrT 1 o [x])))]] [(0,0),(1,1)] (fun((z0,z1):Nat×(List Attr))=>(.tup [],[(0,.box [.row 1 z0]),(1,OR 2 attrT z1)])) _ _ (pr e1 e2)
 ·
  have e3:((o++(botG x y).toList).length:Nat)=(o++[y]).length:=by
   simp only[z0x,z05] at*;unfold botG;(repeat' split)<;>simp_all
  have e4:((o++(botG x y).toList):List Attr)=(o++[y]):=by
   simp only[z0x,z05] at*;unfold botG;(repeat' split)<;>simp_all
  exact .finE [.r [(3,X (rowC attrT [y] (Xap 2 attrT 1 o [y])))]] [(0,0),(1,1)] (fun((z0,z1):Nat×(List Attr))=>(.tup [],[(0,.box [.row 1 z0]),(1,OR 2 attrT z1)])) _ _ (pr e3 e4)
theorem z5S(a b:List Attr)(hn:a.length+b.length<1099511627776):FC Tryz.prog 66 [VL 2 attrT a,VL 2 attrT b] (app emp []) (VL 2 attrT (fm rawG a b)) (app emp []):=by
 refine .go Tryz.f66 ?_
 refine .len 0 (fun hl0=> ?_)
 refine .len 1 (fun hl1=> ?_)
 exact .fin [.r [],.r [],.le (.nB 8 0 2),.r [(3,X (Xc3 41 [(0,8),(1,16)] (z9N 104 rawG (by kernel_rfl) y65 a b [] (by simp;omega)) X0))],.r [],.le (.fr 4 [(((fm rawG a b).length):Nat)=(List.map attrT (fm rawG a b)).length] ⟨lm,trivial⟩)] []
theorem y17(a b:List Attr)(hn:a.length+b.length<1099511627776):FC Tryz.prog 112 [VL 2 attrT a,VL 2 attrT b] (app emp []) (VL 2 attrT (fm wioG a b)) (app emp []):=by
 refine .go Tryz.f112 ?_
 refine .len 0 (fun hl0=> ?_)
 refine .len 1 (fun hl1=> ?_)
 exact .fin [.r [],.r [],.le (.nB 8 0 2),.r [(3,X (Xc3 41 [(0,8),(1,16)] (z9N 151 wioG (by kernel_rfl) y66 a b [] (by simp;omega)) X0))],.r [],.le (.fr 4 [(((fm wioG a b).length):Nat)=(List.map attrT (fm wioG a b)).length] ⟨lm,trivial⟩)] []
theorem y5j(a b:List Attr)(hn:a.length+b.length<1099511627776):FC Tryz.prog 114 [VL 2 attrT a,VL 2 attrT b] (app emp []) (VL 2 attrT (fm botG a b)) (app emp []):=by
 refine .go Tryz.f114 ?_
 refine .len 0 (fun hl0=> ?_)
 refine .len 1 (fun hl1=> ?_)
 exact .fin [.r [],.r [],.le (.nB 8 0 2),.r [(3,X (Xc3 41 [(0,8),(1,16)] (z9N 152 botG (by kernel_rfl) y67 a b [] (by simp;omega)) X0))],.r [],.le (.fr 4 [(((fm botG a b).length):Nat)=(List.map attrT (fm botG a b)).length] ⟨lm,trivial⟩)] []
end Go.Ch
end
section
set_option linter.unusedVariables false
set_option linter.unusedSimpArgs false
set_option maxRecDepth 100000
set_option maxHeartbeats 4000000
open Go Go.Proofs Go.Ab
namespace Go.Ch
end Go.Ch
end
section
set_option linter.unusedVariables false
namespace Go.Ch
open Go Go.Ab
def intT(z:Int):Tree:= .sc (.int .i64 z)
def strT(s:ByteArray):Tree:= .sc (.string s)
def cmpI(x y:Int):Int:=if x<y then-1 else if x>y then 1 else 0
def orL:List Int→Int
 | []=>0
 |x::l=>if x≠0 then x else orL l
theorem y6l{l:List Int}{i:Nat}(h:i<l.length):orL (l.drop i)=if l.getD i default≠0 then l.getD i default else orL (l.drop (i+1)):=by
 rw[List.drop_eq_getElem_cons h,orL]
 simp[List.getD,List.getElem?_eq_getElem h]
theorem y68(a b:Int):orL [a,b]=if a≠0 then a else b:=by
 by_cases h:a=0
 ·by_cases k:b=0<;>simp[orL,h,k]
 ·simp[orL,h]
end Go.Ch
end
section
set_option linter.unusedVariables false
namespace Go.Ab
open Go
variable {P:Program} {w:World} {F:Fen P} {S:Store} {m:Place} {n:Nat} {l0:List (Nat×Ob)} {s:St} {Q:Exit→St→Prop}
end Go.Ab
end
section
set_option linter.unusedVariables false
namespace Go.Ab
open Go
variable {P:Program}
def Xm0(es:List (Int×MV))(n:Int):Px (lookE es n=none):=⟨⟨none,none,none,some ⟨0,[],.junk,[]⟩,[]⟩,[lookE es n=none],fun h=>⟨h,trivial⟩⟩
def Xmu{β:Type}(f:β→Int×MV)(l l':List β)(n:Int)(id:Nat)(v:MV):Px (putE (l.map f) n v=l'.map f):=
 ⟨⟨none,some [(id,.mp (l'.map f) none)],none,none,[]⟩,[[(id,Ob.mp (l'.map f) none)]=[(id,Ob.mp (putE (l.map f) n v) none)]],fun h=>⟨by rw[h],trivial⟩⟩
end Go.Ab
end
section
set_option linter.unusedVariables false
set_option linter.unusedSimpArgs false
namespace Go.Ch
open Go Go.Ab
structure DOp where
 clock:Int
 site:Int
 kind:Int
 itm:Int
 prt:Int
 plc:ByteArray
 nm:ByteArray
 vl:ByteArray
 deriving DecidableEq
instance:Inhabited DOp:=⟨⟨0,0,0,0,0,mt,mt,mt⟩⟩
def dopT(o:DOp):Tree:= .agg [TI o.clock,TI o.site,TI o.kind,TI o.itm,TI o.prt,TS o.plc,TS o.nm,TS o.vl]
structure DItem where
 item:Int
 parent:Int
 place:ByteArray
 attrs:List Attr
instance:Inhabited DItem:=⟨⟨0,0,mt,[]⟩⟩
def plS(s:ByteArray)(i:Nat):Bool:=if i<s.size then(if byt s i<97∨122<byt s i then false else plS s (i+1)) else true
termination_by s.size-i
def z2U(s:ByteArray):Bool:=decide (1≤s.size∧s.size≤200∧byt s (s.size- 1)≠97)&&plS s 0
def z4U(a b:DOp):Int:=orL [cmpI a.clock b.clock,cmpI a.site b.site]
def ltO(a b:DOp):Prop:=a.clock<b.clock∨(a.clock=b.clock∧a.site<b.site)
instance (a b:DOp):Decidable (ltO a b):=by unfold ltO;infer_instance
theorem z26{a b:DOp}:z4U a b<0↔ltO a b:=by
 unfold z4U ltO cmpI
 rw[y68]
 split<;>split<;>(try split)<;>(try split)<;>omega
theorem z8B{a b:DOp}:0≤z4U a b↔¬ltO a b:=by rw[←z26];omega
theorem z5T{a b c:DOp}(h:ltO a b)(k:ltO b c):ltO a c:=by unfold ltO at*;omega
def opE(o:DOp):Int:=
 if o.kind≠0∧o.kind≠1 then 8
 else if o.clock<1∨1073741824<o.clock∨o.site<0∨1000<o.site∨o.itm<1∨1073741824<o.itm then 2
 else if(o.kind=0∧(seq o.nm mt=false∨seq o.vl mt=false))∨(o.kind=1∧(o.prt≠0∨seq o.plc mt=false)) then 4
 else if o.kind=0∧(o.prt< -1∨1073741824<o.prt) then 2
 else if(o.kind=0∧z2U o.plc=false)∨(o.kind=1∧z1d o.nm=false) then 9
 else if o.kind=1∧seq o.vl mt=false∧valGo o.vl=false then 23
 else 0
def drawE(l:List DOp)(i:Nat):Int:=
 if i<l.length then
  if opE (l.getD i default)≠0 then opE (l.getD i default)
  else if 0<i∧¬ltO (l.getD (i- 1) default) (l.getD i default) then 5
  else drawE l (i+1)
 else 0
termination_by l.length-i
def z0w:List DOp→List DOp→Option (List DOp)
 | [],[]=>some []
 |a::l,[]=>(z0w l []).map (a:: ·)
 | [],b::r=>(z0w [] r).map (b:: ·)
 |a::l,b::r=>
  if ltO a b then(z0w l (b::r)).map (a:: ·)
  else if ltO b a then(z0w (a::l) r).map (b:: ·)
  else if a=b then(z0w l r).map (a:: ·) else none
termination_by a b=>a.length+b.length
theorem z9O{x y:List DOp}(h:0<x.length)(hy:y.length=0∨ltO (x.getD 0 default) (y.getD 0 default)):z0w x y=(z0w (x.drop 1) y).map (x.getD 0 default:: ·):=by
 cases x with
 |nil=>simp at h
 |cons a l=>
  cases y with
  |nil=>simp[z0w]
  |cons b r=>simp only[List.getD_cons_zero] at hy;rw[z0w,if_pos (by simpa using hy)];rfl
theorem z8C{x y:List DOp}(h:0<y.length)(hx:x.length=0∨ltO (y.getD 0 default) (x.getD 0 default)):z0w x y=(z0w x (y.drop 1)).map (y.getD 0 default:: ·):=by
 cases y with
 |nil=>simp at h
 |cons b r=>
  cases x with
  |nil=>simp[z0w]
  |cons a l=>
   simp only[List.getD_cons_zero] at hx
   have hx:ltO b a:=by simpa using hx
   rw[z0w,if_neg (by unfold ltO at*;omega),if_pos hx];rfl
theorem z9P{x y:List DOp}(h:0<x.length)(h':0<y.length)(h1:¬ltO (x.getD 0 default) (y.getD 0 default))(h2:¬ltO (y.getD 0 default) (x.getD 0 default)):
 z0w x y=if x.getD 0 default=y.getD 0 default then(z0w (x.drop 1) (y.drop 1)).map (x.getD 0 default:: ·) else none:=by
 cases x with
 |nil=>simp at h
 |cons a l=>
  cases y with
  |nil=>simp at h'
  |cons b r=>simp only[List.getD_cons_zero] at h1 h2;rw[z0w,if_neg h1,if_neg h2];rfl
theorem y69{a b:DOp}(h1:a.clock=b.clock)(h2:a.site=b.site)(h3:a.kind=b.kind)(h4:a.itm=b.itm)(h5:a.prt=b.prt)(h6:a.plc=b.plc)(h7:a.nm=b.nm)(h8:a.vl=b.vl):a=b:=by
 cases a;cases b;simp_all
end Go.Ch
end
section
set_option linter.unusedVariables false
set_option linter.unusedSimpArgs false
namespace Go.Ch
open Go Go.Ab
def NPg(s:ByteArray):Prop:=z1d s=true
def VPg(s:ByteArray):Prop:=valGo s=true
theorem np_mt:¬NPg mt:=by
 unfold NPg z1d
 rw[decide_eq_false (by intro h;have:=h.1;simp[ByteArray.size] at this)]
 decide
theorem vp_mt:¬VPg mt:=by
 unfold VPg valGo
 rw[decide_eq_false (by intro h;have:=h.1;simp[ByteArray.size] at this)]
 decide
abbrev VG:=V NPg VPg
theorem z17{a:Attr}{l:List Attr}{k:Nat}:(a::l).getD (k+1) default=l.getD k default:=by simp[List.getD]
theorem y18{a:Attr}{l:List Attr}:(a::l).getD 0 default=a:=rfl
theorem z31:∀{l:List Attr},(∀k,k+1<l.length→slt (l.getD k default).name (l.getD (k+1) default).name=true)→z2f l
 | [],_=>trivial
 | [a],_=>⟨fun b hb=>(by cases hb),trivial⟩
 |a::b::l,h=>by
  have ih:=z31 (l:=b::l) (fun k hk=>by have:=h (k+1) (by simp at hk⊢;omega);simpa using this)
  have h0:=h 0 (by simp)
  simp only[y18,z17] at h0
  refine⟨fun c hc=> ?_,ih⟩
  rcases List.mem_cons.1 hc with rfl|hc
  ·exact h0
  ·exact z2v h0 (ih.1 c hc)
theorem z32:∀{l:List Attr},z2f l→∀k,k+1<l.length→slt (l.getD k default).name (l.getD (k+1) default).name=true
 | [],_,k,hk=>by simp at hk
 |a::l,h,0,hk=>by
  cases l with
  |nil=>simp at hk
  |cons b l=>exact h.1 b (by simp)
 |a::l,h,k+1,hk=>by
  have:=z32 h.2 k (by simp at hk;omega)
  rw[z17,z17];exact this
theorem y5k{l:List Attr}{k:Nat}(h:k<l.length):l.getD k default∈l:=by
 rw[show l.getD k default=l[k] by simp[List.getD,List.getElem?_eq_getElem h]]
 exact List.getElem_mem h
theorem y5l{l:List Attr}{a:Attr}(h:a∈l):∃k,k<l.length∧l.getD k default=a:=by
 obtain⟨k,hk,e⟩:=List.mem_iff_getElem.1 h
 exact⟨k,hk,by rw[←e];simp[List.getD,List.getElem?_eq_getElem hk]⟩
theorem y0T(e:Bool)(l:List Attr):∀(n i:Nat),l.length-i=n→(chkA e l i=0↔∀k,i≤k→k<l.length→Q NPg VPg e (l.getD k default).name (l.getD k default).val∧(0<k→slt (l.getD (k- 1) default).name (l.getD k default).name=true))
 |0,i,h=>by
  rw[chkA,if_neg (by omega)]
  exact⟨fun _ k h1 h2=>by omega,fun _=>rfl⟩
 |n+1,i,h=>by
  have hi:i<l.length:=by omega
  have ih:=y0T e l n (i+1) (by omega)
  rw[chkA,if_pos hi]
  have step:(∀k,i≤k→k<l.length→Q NPg VPg e (l.getD k default).name (l.getD k default).val∧(0<k→slt (l.getD (k- 1) default).name (l.getD k default).name=true))↔
   (Q NPg VPg e (l.getD i default).name (l.getD i default).val∧(0<i→slt (l.getD (i- 1) default).name (l.getD i default).name=true))∧chkA e l (i+1)=0:=by
   rw[ih]
   constructor
   ·exact fun h=>⟨h i (Nat.le_refl _) hi,fun k h1 h2=>h k (by omega) h2⟩
   ·rintro⟨h1,h2⟩ k h3 h4
    by_cases e:k=i
    ·subst e;exact h1
    ·exact h2 k (by omega) h4
  rw[step]
  generalize(l.getD i default)=x
  generalize(l.getD (i- 1) default)=y
  unfold Q NPg VPg
  have hm:seq x.val {data:=#[]}=true↔x.val=mt:=z0x
  have hm2:seq x.val {data:=#[]}=false↔x.val≠mt:=z05
  simp only[y6j,hm2]
  cases h1:z1d x.name with
  |false=>simp
  |true=>
   rw[if_neg (by decide)]
   cases h2:valGo x.val with
   |false=>
    by_cases h3:e=false∨x.val≠mt
    ·rw[if_pos ⟨rfl,h3⟩]
     constructor
     ·intro h;cases h
     ·rintro⟨⟨⟨_,h| ⟨h,h'⟩⟩,_⟩,_⟩
      ·cases h
      ·rcases h3 with h3|h3
       ·rw[h3] at h;cases h
       ·exact absurd h' h3
    ·rw[if_neg (fun h=>h3 h.2)]
     have he:e=true:=by cases e with|true=>rfl|false=>exact absurd (.inl rfl) h3
     have hx:x.val=mt:=Classical.byContradiction fun h=>h3 (.inr h)
     by_cases h4:0<i∧slt y.name x.name=false
     ·rw[if_pos h4]
      constructor
      ·intro h;cases h
      ·rintro⟨⟨_,h⟩,_⟩;rw[h h4.1] at h4;cases h4.2
     ·rw[if_neg h4]
      refine⟨fun h=>⟨⟨⟨rfl,.inr ⟨he,hx⟩⟩,fun h0=> ?_⟩,h⟩,fun h=>h.2⟩
      cases h5:slt y.name x.name with
      |true=>rfl
      |false=>exact absurd ⟨h0,h5⟩ h4
   |true=>
    rw[if_neg (fun h=>by cases h.1)]
    by_cases h4:0<i∧slt y.name x.name=false
    ·rw[if_pos h4]
     constructor
     ·intro h;cases h
     ·rintro⟨⟨_,h⟩,_⟩;rw[h h4.1] at h4;cases h4.2
    ·rw[if_neg h4]
     refine⟨fun h=>⟨⟨⟨rfl,.inl rfl⟩,fun h0=> ?_⟩,h⟩,fun h=>h.2⟩
     cases h5:slt y.name x.name with
     |true=>rfl
     |false=>exact absurd ⟨h0,h5⟩ h4
theorem z0Q{e:Bool}{l:List Attr}:chkA e l 0=0↔VG e l:=by
 rw[y0T e l l.length 0 (by omega)]
 constructor
 ·intro h
  refine⟨z31 (fun k hk=>(h (k+1) (by omega) hk).2 (by omega)),fun a ha=> ?_⟩
  obtain⟨k,hk,rfl⟩:=y5l ha
  exact(h k (by omega) hk).1
 ·intro h k _ hk
  refine⟨h.2 _ (y5k hk),fun h0=> ?_⟩
  have:=z32 h.1 (k- 1) (by omega)
  rw[show k- 1+1=k by omega] at this
  exact this
theorem z6I(a:List Attr):∀(n i:Nat),a.length-i=n→sameA a a i=true
 |0,i,h=>by rw[sameA,if_neg (by omega)]
 |n+1,i,h=>by
  have hi:i<a.length:=by omega
  rw[sameA,if_pos hi,if_pos ⟨rfl,rfl⟩,z6I a n (i+1) (by omega)]
theorem z4z(a:List Attr):sameL a a=true:=by unfold sameL;rw[z6I a _ 0 rfl];simp
theorem z8D(l:List Attr)(x:ByteArray):∀(n i:Nat),l.length-i=n→getA l x i=(look (l.drop i) x).getD mt
 |0,i,h=>by rw[getA,if_neg (by omega),z30 (by omega)];rfl
 |n+1,i,h=>by
  have hi:i<l.length:=by omega
  rw[getA,if_pos hi,z3A hi,look]
  split
  ·rfl
  ·exact z8D l x n (i+1) (by omega)
theorem z9Q(l:List Attr)(x:ByteArray):getA l x 0=(look l x).getD mt:=z8D l x _ 0 rfl
end Go.Ch
end
section
set_option linter.unusedVariables false
set_option linter.unusedSimpArgs false
namespace Go.Ch
open Go Go.Ab
structure Elem where
 char:Int
 ref:Int
 attrs:List Attr
instance:Inhabited Elem:=⟨⟨0,0,[]⟩⟩
def elemT(e:Elem):Tree:= .agg [.sc (.int .i64 e.char),.sc (.int .i64 e.ref),.lst 2 (e.attrs.map attrT)]
def CharP(c:Int):Prop:=c=9∨c=10∨(32≤c∧c<127)∨(160≤c∧c<55296)∨(57343<c∧c≤1114111)
instance (c:Int):Decidable (CharP c):=by unfold CharP;infer_instance
def elemE(x:Elem):Int:=
 if x.char=0↔x.ref=0 then 4
 else if(x.ref=0∧¬CharP x.char)∨(x.ref≠0∧(x.ref<1∨1073741824<x.ref)) then 2
 else chkA false x.attrs 0
theorem z5U{x:Elem}(h:x.char=0↔x.ref=0):elemE x=4:=by unfold elemE;rw[if_pos h]
theorem z2i{x:Elem}(h:¬(x.char=0↔x.ref=0))(h2:(x.ref=0∧¬CharP x.char)∨(x.ref≠0∧(x.ref<1∨1073741824<x.ref))):elemE x=2:=by unfold elemE;rw[if_neg h,if_pos h2]
theorem z3B{x:Elem}(h:¬(x.char=0↔x.ref=0))(h3:¬x.ref=0∨CharP x.char)(h4:x.ref=0∨(1≤x.ref∧x.ref≤1073741824)):elemE x=chkA false x.attrs 0:=by
 unfold elemE
 rw[if_neg h,if_neg]
 rintro(⟨a,b⟩| ⟨a,b⟩)
 ·rcases h3 with h3|h3
  ·exact h3 a
  ·exact b h3
 ·rcases h4 with h4|h4
  ·exact a h4
  ·omega
def partE(l:List Elem)(i:Nat):Int:=if i<l.length then(if elemE (l.getD i default)=0 then partE l (i+1) else elemE (l.getD i default)) else 0
termination_by l.length-i
def SzE(l:List Elem):Prop:=∀x∈l,Szd x.attrs
theorem z18{l:List Elem}{k:Nat}(h:k<l.length):l.getD k default∈l:=by
 rw[show l.getD k default=l[k] by simp[List.getD,List.getElem?_eq_getElem h]]
 exact List.getElem_mem h
def sameE(x y:Elem):Bool:=(x.char==y.char&&x.ref==y.ref)&&sameL x.attrs y.attrs
theorem y19(x:Elem):sameE x x=true:=by unfold sameE;rw[z4z];simp
theorem z8E(a b:List Attr):∀(n i:Nat),a.length-i=n→sameA a b i=true→∀k,i≤k→k<a.length→a.getD k default=b.getD k default
 |0,i,h,_=>fun k h1 h2=>by omega
 |n+1,i,h,hs=>by
  have hi:i<a.length:=by omega
  rw[sameA,if_pos hi] at hs
  split at hs
  ·rename_i he
   intro k h1 h2
   by_cases e:k=i
   ·subst e
    generalize a.getD k default=x at*
    generalize b.getD k default=y at*
    cases x;cases y;simp_all
   ·exact z8E a b n (i+1) (by omega) hs k (by omega) h2
  ·cases hs
theorem y5m{a b:List Attr}:sameL a b=true↔a=b:=by
 constructor
 ·intro h
  unfold sameL at h
  simp only[Bool.and_eq_true,decide_eq_true_eq] at h
  refine List.ext_getElem h.1 (fun k h1 h2=> ?_)
  have:=z8E a b _ 0 rfl h.2 k (by omega) h1
  simpa[List.getD,List.getElem?_eq_getElem h1,List.getElem?_eq_getElem h2] using this
 ·intro h;subst h;exact z4z _
theorem z8F(l:List Elem):∀(n i:Nat),l.length-i=n→(partE l i=0↔∀k,i≤k→k<l.length→elemE (l.getD k default)=0)
 |0,i,h=>by rw[partE,if_neg (by omega)];exact⟨fun _ k h1 h2=>by omega,fun _=>rfl⟩
 |n+1,i,h=>by
  have hi:i<l.length:=by omega
  have ih:=z8F l n (i+1) (by omega)
  rw[partE,if_pos hi]
  by_cases e:elemE (l.getD i default)=0
  ·rw[if_pos e,ih]
   constructor
   ·intro h k h1 h2
    by_cases ek:k=i
    ·subst ek;exact e
    ·exact h k (by omega) h2
   ·exact fun h k h1 h2=>h k (by omega) h2
  ·rw[if_neg e]
   exact⟨fun h=>absurd h e,fun h=>h i (Nat.le_refl _) hi⟩
theorem y5n{l:List Elem}:partE l 0=0↔∀x∈l,elemE x=0:=by
 rw[z8F l _ 0 rfl]
 constructor
 ·intro h x hx
  obtain⟨k,hk,e⟩:=List.mem_iff_getElem.1 hx
  have:=h k (by omega) hk
  rw[←e]
  simpa[List.getD,List.getElem?_eq_getElem hk] using this
 ·exact fun h k _ hk=>h _ (z18 hk)
theorem y7a{x:Elem}(h:elemE x=0):VG false x.attrs:=by
 unfold elemE at h
 split at h
 ·omega
 ·split at h
  ·omega
  ·exact z0Q.1 h
end Go.Ch
end
section
set_option linter.unusedVariables false
set_option linter.unusedSimpArgs false
set_option maxRecDepth 100000
set_option maxHeartbeats 4000000
open Go Go.Proofs Go.Ab
namespace Go.Ch
theorem y3s(c:Int):FC Tryz.prog 62 [VI c] (app emp []) (VB (decide (CharP c))) (app emp []):=by
 refine .go Tryz.f62 ?_
 have e1:((decide (CharP c)):Bool)=(((((c==9)|| (c==10))|| (decide (c≥32)&&decide (c<127)))|| (decide (c≥160)&&decide (c<55296)))|| (decide (c>57343)&&decide (c≤1114111))):=by
  rw[Bool.eq_iff_iff,decide_eq_true_iff];unfold CharP;simp only[Bool.or_eq_true,Bool.and_eq_true,decide_eq_true_eq,beq_iff_eq];constructor<;>intro hh<;>omega
 exact .finE [.r [],.r [(4,Xv 1 (!(c==9)) X0),(5,X (Xk' (c==9))),(8,Xv 1 (!((c==9)|| (c==10))) X0),(9,Xv 1 (!((c==9)|| (c==10))) X0),(11,Xv 1 ((!((c==9)|| (c==10)))&&(decide (c≥32))) X0),(12,Xka (!((c==9)|| (c==10))) (decide (c≥32))),(13,X (Xk' ((c==9)|| (c==10)))),(16,Xv 1 (!(((c==9)|| (c==10))|| (decide (c≥32)&&decide (c<127)))) X0),(17,Xv 1 (!(((c==9)|| (c==10))|| (decide (c≥32)&&decide (c<127)))) X0),(19,Xv 1 ((!(((c==9)|| (c==10))|| (decide (c≥32)&&decide (c<127))))&&(decide (c≥160))) X0),(20,Xka (!(((c==9)|| (c==10))|| (decide (c≥32)&&decide (c<127)))) (decide (c≥160))),(21,X (Xk' (((c==9)|| (c==10))|| (decide (c≥32)&&decide (c<127))))),(24,Xv 1 (!((((c==9)|| (c==10))|| (decide (c≥32)&&decide (c<127)))|| (decide (c≥160)&&decide (c<55296)))) X0),(25,Xv 1 (!((((c==9)|| (c==10))|| (decide (c≥32)&&decide (c<127)))|| (decide (c≥160)&&decide (c<55296)))) X0),(27,Xv 1 ((!((((c==9)|| (c==10))|| (decide (c≥32)&&decide (c<127)))|| (decide (c≥160)&&decide (c<55296))))&&(decide (c>57343))) X0),(28,Xka (!((((c==9)|| (c==10))|| (decide (c≥32)&&decide (c<127)))|| (decide (c≥160)&&decide (c<55296)))) (decide (c>57343))),(29,X (Xk' ((((c==9)|| (c==10))|| (decide (c≥32)&&decide (c<127)))|| (decide (c≥160)&&decide (c<55296)))))]] [] (fun z0:Bool=>(VB z0,[])) _ _ e1
theorem z1v{a b:Int}:((a !=0)=(b !=0))↔(a=0↔b=0):=by
 rw[Bool.eq_iff_iff];simp;omega
theorem y3t(x:Elem):FC Tryz.prog 156 [.t (elemT x)] (app emp []) (VI (elemE x)) (app emp []):=by
 refine .go Tryz.f156 ?_
 refine .bp [.r [],.r []] ((x.char !=0)==(x.ref !=0)) (fun h1=> ?_) (fun h1=> ?_)
 ·
  have e1:((elemE x):Int)=4:=by
   first|exact z5U (z1v.1 h1)|exact z2i (fun h=>h1 (z1v.2 h)) (.inl h3)|exact z2i (fun h=>h1 (z1v.2 h)) (.inr h4)|exact z3B (fun h=>h1 (z1v.2 h)) h3 h4| (exfalso;simp_all;done)
  exact .finE [.r []] [] (fun z0:Int=>(VI z0,[])) _ _ e1
 ·
  refine .bp [.r [(5,Xv 1 (x.ref==0) X0),(6,Xv 1 (x.ref==0) (Xc0 (y3s x.char) X0)),(7,Xv 1 (x.ref==0) X0),(8,X (Xk (x.ref==0)))]] ((x.ref==0)&& !(decide (CharP x.char))) (fun h3=> ?_) (fun h3=> ?_)
  ·
   refine .bp [] ((x.ref==0)&& !(decide (CharP x.char))) (fun h3=> ?_) (fun h3=> ?_)
   ·
    have e2:((elemE x):Int)=2:=by
     first|exact z5U (z1v.1 h1)|exact z2i (fun h=>h1 (z1v.2 h)) (.inl h3)|exact z2i (fun h=>h1 (z1v.2 h)) (.inr h4)|exact z3B (fun h=>h1 (z1v.2 h)) h3 h4| (exfalso;simp_all;done)
    exact .finE [.r []] [] (fun z0:Int=>(VI z0,[])) _ _ e2
   ·
    have e3:((elemE x):Int)=(chkA false x.attrs 0):=by
     first|exact z5U (z1v.1 h1)|exact z2i (fun h=>h1 (z1v.2 h)) (.inl h3)|exact z2i (fun h=>h1 (z1v.2 h)) (.inr h4)|exact z3B (fun h=>h1 (z1v.2 h)) h3 h4| (exfalso;simp_all;done)
    exact .finE [.r [(2,X (Xc0 (z2x x.attrs) X0))]] [] (fun z0:Int=>(VI z0,[])) _ _ e3
  ·
   refine .bp [.r [(5,Xv 1 (x.ref !=0) X0),(6,Xv 1 (x.ref !=0) X0),(7,Xv 1 (x.ref !=0) X0),(9,Xv 1 ((x.ref !=0)&& !(decide (x.ref<1))) X0),(10,Xv 1 ((x.ref !=0)&& !(decide (x.ref<1))) X0),(11,Xko (x.ref !=0) (decide (x.ref<1))),(12,X (Xk (x.ref !=0)))]] ((x.ref !=0)&&(decide (x.ref<1)||decide (x.ref>1073741824))) (fun h4=> ?_) (fun h4=> ?_)
   ·
    have e4:((elemE x):Int)=2:=by
     first|exact z5U (z1v.1 h1)|exact z2i (fun h=>h1 (z1v.2 h)) (.inl h3)|exact z2i (fun h=>h1 (z1v.2 h)) (.inr h4)|exact z3B (fun h=>h1 (z1v.2 h)) h3 h4| (exfalso;simp_all;done)
    exact .finE [.r []] [] (fun z0:Int=>(VI z0,[])) _ _ e4
   ·
    have e5:((elemE x):Int)=(chkA false x.attrs 0):=by
     first|exact z5U (z1v.1 h1)|exact z2i (fun h=>h1 (z1v.2 h)) (.inl h3)|exact z2i (fun h=>h1 (z1v.2 h)) (.inr h4)|exact z3B (fun h=>h1 (z1v.2 h)) h3 h4| (exfalso;simp_all;done)
    exact .finE [.r [(2,X (Xc0 (z2x x.attrs) X0))]] [] (fun z0:Int=>(VI z0,[])) _ _ e5
theorem z4V(l:List Elem):FC Tryz.prog 186 [VL 3 elemT l] (app emp []) (VI (partE l 0)) (app emp []):=by
 refine .go Tryz.f186 ?_
 refine .len 0 (fun hl0=> ?_)
 refine .loop (α:=Nat) [.r [],.r [(1,X (Xl elemT l))]] 32 (fun i=>([(6,VL 3 elemT l),(7,VI (l.length:Int)),(8,VI (i:Int))],[])) (fun i=>i≤l.length∧partE l 0=partE l i) (fun i=>l.length-i) (0:Nat) ?_ ?_
 ·
  exact⟨by omega,rfl⟩
 rintro i I2 ih2
 try dsimp only at I2
 refine .bp [.r []] (decide ((i:Int)< (l.length:Int))) (fun h2=> ?_) (fun h2=> ?_)
 ·
  refine .bp [.r [(0,X (Xi elemT l (i:Int)))],.r [(1,X (Xc0 (y3t ((l.getD i default))) X0))],.r []] ((elemE ((l.getD i default))) !=0) (fun h5=> ?_) (fun h5=> ?_)
  ·
   have e1:((partE l 0):Int)=(elemE ((l.getD i default))):=by
    rw[I2.2,partE];((repeat' split)<;>first|rfl|omega| (simp_all;done)| (simp_all;omega))
   exact .finE [.r []] [] (fun z0:Int=>(VI z0,[])) _ _ e1
  ·
   refine .back [.r [(0,X (Xn ((i:Int)+1)))]] [] (ih2 ((i+1):Nat) ?_ ?_)
   ·
    refine⟨by omega,?_⟩;rw[I2.2,partE,if_pos (by omega),if_pos (by omega)]
   ·
    ((try dsimp only);omega)
 ·
  have e2:((partE l 0):Int)=0:=by
   rw[I2.2,partE];((repeat' split)<;>first|rfl|omega| (simp_all;done)| (simp_all;omega))
  exact .finE [.r []] [] (fun z0:Int=>(VI z0,[])) _ _ e2
theorem z3C(a b:List Attr):FC Tryz.prog 139 [VL 2 attrT a,VL 2 attrT b] (app emp []) (VB (sameL a b)) (app emp []):=by
 refine .go Tryz.f139 ?_
 refine .len 0 (fun hl0=> ?_)
 refine .len 1 (fun hl1=> ?_)
 refine .bp [.r [],.r [(1,X (Xl attrT a)),(3,X (Xl attrT b))]] ((a.length:Int) !=(b.length:Int)) (fun h1=> ?_) (fun h1=> ?_)
 ·
  have e1:((sameL a b):Bool)=false:=by
   unfold sameL;rw[decide_eq_false (by omega)];rfl
  exact .finE [.r []] [] (fun z0:Bool=>(VB z0,[])) _ _ e1
 ·
  refine .loop (α:=Nat) [.r [(1,X (Xl attrT a))]] 72 (fun i=>([(0,VL 2 attrT a),(1,VL 2 attrT b),(12,VI (a.length:Int)),(13,VI (i:Int))],[])) (fun i=>i≤a.length∧sameA a b 0=sameA a b i) (fun i=>a.length-i) (0:Nat) ?_ ?_
  ·
   exact⟨by omega,rfl⟩
  rintro i I4 ih4
  try dsimp only at I4
  refine .bp [.r []] (decide ((i:Int)< (a.length:Int))) (fun h4=> ?_) (fun h4=> ?_)
  ·
   refine .bp [.r [],.r [(2,X (Xi attrT a (i:Int))),(6,X (Xi attrT b (i:Int)))]] (!(seq (((a.getD i default)).name) (((b.getD i default)).name)&&(seq (((a.getD i default)).val) (((b.getD i default)).val)&&true))) (fun h6=> ?_) (fun h6=> ?_)
   ·
    have e2:((sameL a b):Bool)=false:=by
     unfold sameL;rw[I4.2,sameA,if_pos (by omega),if_neg (by clear ih4;simp only[z05,z0x] at h6;rintro⟨x,y⟩;simp_all)];simp
    exact .finE [.r []] [] (fun z0:Bool=>(VB z0,[])) _ _ e2
   ·
    refine .back [.r [(0,X (Xn ((i:Int)+1)))]] [] (ih4 ((i+1):Nat) ?_ ?_)
    ·
     refine⟨by omega,?_⟩;rw[I4.2,sameA,if_pos (by omega),if_pos (by clear ih4;simp only[z05,z0x] at h6;simp_all)]
    ·
     ((try dsimp only);omega)
  ·
   have e3:((sameL a b):Bool)=true:=by
    unfold sameL;rw[I4.2,sameA,if_neg (by omega),decide_eq_true (by omega)];rfl
   exact .finE [.r []] [] (fun z0:Bool=>(VB z0,[])) _ _ e3
theorem z5V(x y:Elem):FC Tryz.prog 19 [.t (elemT x),.t (elemT y)] (app emp []) (VB (sameE x y)) (app emp []):=by
 refine .go Tryz.f19 ?_
 have e1:((sameE x y):Bool)=(((x.char==y.char)&&(x.ref==y.ref))&&(sameL x.attrs y.attrs)):=by
  rfl
 exact .finE [.r [],.r [(7,Xv 1 (x.char==y.char) X0),(9,Xv 1 (x.char==y.char) X0),(10,Xv 2 (x.char==y.char) X0),(11,X (Xk (x.char==y.char))),(14,Xv 1 ((x.char==y.char)&&(x.ref==y.ref)) X0),(16,Xv 1 ((x.char==y.char)&&(x.ref==y.ref)) X0),(17,Xv 2 ((x.char==y.char)&&(x.ref==y.ref)) (Xc0 (z8A x.attrs y.attrs) X0)),(18,X (Xk ((x.char==y.char)&&(x.ref==y.ref))))]] [] (fun z0:Bool=>(VB z0,[])) _ _ e1
end Go.Ch
end
section
set_option linter.unusedVariables false
set_option linter.unusedSimpArgs false
namespace Go.Ch
open Go Go.Ab
inductive U where
 |K
 |A
 |C
abbrev rep(n:Nat)(x:U):List U:=List.replicate n x
theorem z3i(n:Nat)(x:U):rep (n+1) x=x::rep n x:=rfl
def oldU:List U→Nat
 | []=>0
 | .A::u=>oldU u
 | .K::u=>oldU u+1
 | .C::u=>oldU u+1
def newU:List U→Nat
 | []=>0
 | .C::u=>newU u
 | .K::u=>newU u+1
 | .A::u=>newU u+1
end Go.Ch
end
section
set_option linter.unusedVariables false
set_option linter.unusedSimpArgs false
namespace Go.Ch
open Go Go.Ab
structure AxStep where
 kind:Int
 n:Int
instance:Inhabited AxStep:=⟨⟨0,0⟩⟩
def stepT(s:AxStep):Tree:= .agg [.sc (.int .i64 s.kind),.sc (.int .i64 s.n)]
def uOf(k:Int):U:=if k=1 then .A else if k=2 then .C else .K
def ex:List AxStep→List U
 | []=>[]
 |s::l=>rep s.n.toNat (uOf s.kind)++ex l
def Ok1(s:AxStep):Prop:=0≤s.kind∧s.kind≤2∧1≤s.n
def Nx(s t:AxStep):Prop:=s.kind≠t.kind∧¬(s.kind=2∧t.kind=1)
def Form:List AxStep→Prop
 | []=>True
 | [s]=>Ok1 s
 |s::t::l=>Ok1 s∧Nx s t∧Form (t::l)
theorem Form.head{s:AxStep}{l:List AxStep}(h:Form (s::l)):Ok1 s:=by
 cases l with
 |nil=>exact h
 |cons t l=>exact h.1
theorem Form.tail{s:AxStep}{l:List AxStep}(h:Form (s::l)):Form l:=by
 cases l with
 |nil=>trivial
 |cons t l=>exact h.2.2
theorem kinds{s:AxStep}(h:Ok1 s):s.kind=0∨s.kind=1∨s.kind=2:=by have:=h.1;have:=h.2.1;omega
structure Wr where
 out:List AxStep
 add:Int
 cut:Int
end Go.Ch
end
section
set_option linter.unusedVariables false
set_option linter.unusedSimpArgs false
namespace Go.Ch
open Go Go.Ab
def chkX(l:List AxStep)(i:Nat)(b a:Int):Int:=
 if i<l.length then
  if(l.getD i default).kind<0∨2< (l.getD i default).kind then 8
  else if(l.getD i default).n<1∨2147483647< (l.getD i default).n then 2
  else if 0<i∧((l.getD (i- 1) default).kind=(l.getD i default).kind∨((l.getD (i- 1) default).kind=2∧(l.getD i default).kind=1)) then 5
  else chkX l (i+1) (if(l.getD i default).kind≠1 then min (b+(l.getD i default).n) 2147483648 else b) (if(l.getD i default).kind≠2 then min (a+(l.getD i default).n) 2147483648 else a)
 else if 2147483647<b∨2147483647<a then 3 else 0
termination_by l.length-i
def z1l(l:List AxStep):Int:=chkX l 0 0 0
def z8G(l:List AxStep)(i:Nat):Prop:=∀k,i≤k→k<l.length→Ok1 (l.getD k default)∧(0<k→Nx (l.getD (k- 1) default) (l.getD k default))
theorem z7z{l:List AxStep}{i:Nat}(h:i<l.length):l.drop i=l.getD i default::l.drop (i+1):=by
 rw[List.drop_eq_getElem_cons h];simp[List.getD,List.getElem?_eq_getElem h]
theorem z33{l:List AxStep}{i:Nat}(h:¬i<l.length):l.drop i=[]:=List.drop_eq_nil_of_le (by omega)
theorem old_K(n:Nat)(u:List U):oldU (rep n .K++u)=n+oldU u:=by
 induction n with
 |zero=>simp
 |succ n ih=>rw[z3i,List.cons_append,oldU,ih];omega
theorem old_A(n:Nat)(u:List U):oldU (rep n .A++u)=oldU u:=by
 induction n with
 |zero=>simp
 |succ n ih=>rw[z3i,List.cons_append,oldU,ih]
theorem old_C(n:Nat)(u:List U):oldU (rep n .C++u)=n+oldU u:=by
 induction n with
 |zero=>simp
 |succ n ih=>rw[z3i,List.cons_append,oldU,ih];omega
theorem new_K(n:Nat)(u:List U):newU (rep n .K++u)=n+newU u:=by
 induction n with
 |zero=>simp
 |succ n ih=>rw[z3i,List.cons_append,newU,ih];omega
theorem new_A(n:Nat)(u:List U):newU (rep n .A++u)=n+newU u:=by
 induction n with
 |zero=>simp
 |succ n ih=>rw[z3i,List.cons_append,newU,ih];omega
theorem new_C(n:Nat)(u:List U):newU (rep n .C++u)=newU u:=by
 induction n with
 |zero=>simp
 |succ n ih=>rw[z3i,List.cons_append,newU,ih]
theorem y3u(n:Nat)(k:Int)(u:List U):(oldU (rep n (uOf k)++u):Int)=(if k=1 then(0:Int) else(n:Int))+oldU u:=by
 unfold uOf
 by_cases h1:k=1
 ·rw[if_pos h1,if_pos h1,old_A];omega
 ·rw[if_neg h1,if_neg h1]
  by_cases h2:k=2
  ·rw[if_pos h2,old_C];omega
  ·rw[if_neg h2,old_K];omega
theorem z9R(n:Nat)(k:Int)(u:List U):(newU (rep n (uOf k)++u):Int)=(if k=2 then(0:Int) else(n:Int))+newU u:=by
 unfold uOf
 by_cases h1:k=1
 ·rw[if_pos h1,new_A,if_neg (by omega)];omega
 ·rw[if_neg h1]
  by_cases h2:k=2
  ·rw[if_pos h2,if_pos h2,new_C];omega
  ·rw[if_neg h2,if_neg h2,new_K];omega
theorem y0U(l:List AxStep):∀(m i:Nat) (b a:Int),l.length-i=m→0≤b→0≤a→b≤2147483648→a≤2147483648→
 (chkX l i b a=0↔z8G l i∧b+oldU (ex (l.drop i))≤2147483647∧a+newU (ex (l.drop i))≤2147483647)
 |0,i,b,a,h,hb,ha,hb2,ha2=>by
  rw[chkX,if_neg (by omega),z33 (by omega)]
  simp only[ex,oldU,newU]
  split
  ·constructor
   ·intro h;omega
   ·rintro⟨_,h1,h2⟩;omega
  ·exact⟨fun _=>⟨fun k h1 h2=>by omega,by omega,by omega⟩,fun _=>rfl⟩
 |m+1,i,b,a,h,hb,ha,hb2,ha2=>by
  have hi:i<l.length:=by omega
  rw[chkX,if_pos hi]
  have step:z8G l i↔(Ok1 (l.getD i default)∧(0<i→Nx (l.getD (i- 1) default) (l.getD i default)))∧z8G l (i+1):=by
   constructor
   ·exact fun h=>⟨h i (Nat.le_refl _) hi,fun k h1 h2=>h k (by omega) h2⟩
   ·rintro⟨h1,h2⟩ k h3 h4
    by_cases e:k=i
    ·subst e;exact h1
    ·exact h2 k (by omega) h4
  rw[step,z7z hi]
  simp only[ex]
  rw[y3u,z9R]
  have ih:=fun b' a'=>y0U l m (i+1) b' a' (by omega)
  generalize l.getD i default=x at*
  generalize l.getD (i- 1) default=y at*
  unfold Ok1 Nx
  by_cases c1:x.kind<0∨2<x.kind
  ·rw[if_pos c1];constructor
   ·intro h;omega
   ·rintro⟨⟨⟨h,_⟩,_⟩,_⟩;omega
  rw[if_neg c1]
  have n0:(oldU (ex (l.drop (i+1))):Int)≥0:=Int.natCast_nonneg _
  have n1:(newU (ex (l.drop (i+1))):Int)≥0:=Int.natCast_nonneg _
  by_cases c2:x.n<1∨2147483647<x.n
  ·rw[if_pos c2];constructor
   ·intro h;omega
   ·rintro⟨⟨⟨h,_⟩,_⟩,h1,h2⟩
    exfalso
    by_cases k1:x.kind=1
    ·rw[if_neg (by omega)] at h2;omega
    ·rw[if_neg k1] at h1;omega
  rw[if_neg c2]
  have hn:(x.n.toNat:Int)=x.n:=Int.toNat_of_nonneg (by omega)
  rw[hn]
  by_cases c3:0<i∧(y.kind=x.kind∨(y.kind=2∧x.kind=1))
  ·rw[if_pos c3];constructor
   ·intro h;omega
   ·rintro⟨⟨⟨_,h⟩,_⟩,_⟩
    have:=h c3.1
    rcases c3.2 with q|q
    ·exact absurd q this.1
    ·exact absurd q this.2
  rw[if_neg c3,ih _ _ (by split<;>omega) (by split<;>omega) (by split<;>omega) (by split<;>omega)]
  constructor
  ·rintro⟨f,h1,h2⟩
   refine⟨⟨⟨⟨by omega,by omega,by omega⟩,fun h0=>⟨fun e=>c3 ⟨h0,.inl e⟩,fun e=>c3 ⟨h0,.inr e⟩⟩⟩,f⟩,?_,?_⟩
   ·by_cases k1:x.kind=1
    ·rw[if_pos k1];rw[if_neg (by omega)] at h1;omega
    ·rw[if_neg k1];rw[if_pos k1] at h1;omega
   ·by_cases k1:x.kind=2
    ·rw[if_pos k1];rw[if_neg (by omega)] at h2;omega
    ·rw[if_neg k1];rw[if_pos k1] at h2;omega
  ·rintro⟨⟨_,f⟩,h1,h2⟩
   refine⟨f,?_,?_⟩
   ·by_cases k1:x.kind=1
    ·rw[if_pos k1] at h1;rw[if_neg (by omega)];omega
    ·rw[if_neg k1] at h1;rw[if_pos k1];omega
   ·by_cases k1:x.kind=2
    ·rw[if_pos k1] at h2;rw[if_neg (by omega)];omega
    ·rw[if_neg k1] at h2;rw[if_pos k1];omega
theorem z6J:∀{l:List AxStep},z8G l 0→Form l
 | [],_=>trivial
 | [s],h=>(h 0 (Nat.le_refl _) (by simp)).1
 |s::t::l,h=>by
  have h0:=h 0 (Nat.le_refl _) (by simp)
  have h1:=h 1 (by omega) (by simp)
  refine⟨h0.1,h1.2 (by omega),z6J (l:=t::l) (fun k _ hk=> ?_)⟩
  have:=h (k+1) (by omega) (by simp at hk⊢;omega)
  refine⟨by simpa using this.1,fun hk0=> ?_⟩
  obtain⟨m,rfl⟩:∃m,k=m+1:=⟨k- 1,by omega⟩
  simpa using this.2 (by omega)
theorem z4A:∀{l:List AxStep},Form l→z8G l 0
 | [],_=>fun k _ hk=>by simp at hk
 |s::l,h=>by
  have ih:=z4A h.tail
  intro k _ hk
  cases k with
  |zero=>exact⟨h.head,fun h=>absurd h (by decide)⟩
  |succ k=>
   have:=ih k (by omega) (by simpa using hk)
   refine⟨by simpa using this.1,fun _=> ?_⟩
   cases k with
   |zero=>
    cases l with
    |nil=>simp at hk
    |cons t l=>exact h.2.1
   |succ k=>simpa using this.2 (by omega)
def Valid(l:List AxStep):Prop:=Form l∧oldU (ex l)≤2147483647∧newU (ex l)≤2147483647
theorem z27{l:List AxStep}:z1l l=0↔Valid l:=by
 unfold z1l Valid
 rw[y0U l _ 0 0 0 rfl (by decide) (by decide) (by decide) (by decide),List.drop_zero]
 constructor
 ·rintro⟨a,b,c⟩;exact⟨z6J a,by omega,by omega⟩
 ·rintro⟨a,b,c⟩;exact⟨z4A a,by omega,by omega⟩
def ru(l:List AxStep)(u:Int):List U:=(ex l).drop u.toNat
end Go.Ch
end
section
set_option linter.unusedVariables false
set_option linter.unusedSimpArgs false
set_option maxRecDepth 100000
set_option maxHeartbeats 4000000
open Go Go.Proofs Go.Ab
namespace Go.Ch
theorem z2y(l:List AxStep):FC Tryz.prog 86 [VL 2 stepT l] (app emp []) (VI (z1l l)) (app emp []):=by
 refine .go Tryz.f86 ?_
 refine .len 0 (fun hl0=> ?_)
 refine .loop (α:=Int×Int×Nat) [.r [],.r [],.r [(1,X (Xl stepT l))]] 48 (fun(b,a,i)=>([(0,VL 2 stepT l),(3,VI b),(4,VI a),(7,VL 2 stepT l),(8,VI (l.length:Int)),(9,VI (i:Int))],[])) (fun(b,a,i)=>i≤l.length∧0≤b∧b≤2147483648∧0≤a∧a≤2147483648∧z1l l=chkX l i b a) (fun(b,a,i)=>l.length-i) (0,0,0) ?_ ?_
 ·
  exact⟨by omega,by decide,by decide,by decide,by decide,rfl⟩
 rintro⟨b,a,i⟩ I3 ih3
 try dsimp only at I3
 refine .bp [.r []] (decide ((i:Int)< (l.length:Int))) (fun h3=> ?_) (fun h3=> ?_)
 ·
  refine .bp [.r [(1,X (Xi stepT l (i:Int)))],.r [(5,Xv 1 (!(decide ((((l.getD i default)).kind)< 0))) X0),(6,Xv 1 (!(decide ((((l.getD i default)).kind)< 0))) X0),(7,X (Xk' (decide ((((l.getD i default)).kind)< 0))))]] (decide ((((l.getD i default)).kind)< 0)||decide ((((l.getD i default)).kind)> 2)) (fun h5=> ?_) (fun h5=> ?_)
  ·
   have e1:((z1l l):Int)=8:=by
    rw[I3.2.2.2.2.2,chkX];((repeat' split)<;>first|rfl|omega| (simp_all;done)| (simp_all;omega))
   exact .finE [.r []] [] (fun z0:Int=>(VI z0,[])) _ _ e1
  ·
   refine .bp [.r [(5,Xv 1 (!(decide ((((l.getD i default)).n)< 1))) X0),(6,Xv 1 (!(decide ((((l.getD i default)).n)< 1))) X0),(7,X (Xk' (decide ((((l.getD i default)).n)< 1))))]] (decide ((((l.getD i default)).n)< 1)||decide ((((l.getD i default)).n)> 2147483647)) (fun h7=> ?_) (fun h7=> ?_)
   ·
    have e2:((z1l l):Int)=2:=by
     rw[I3.2.2.2.2.2,chkX];((repeat' split)<;>first|rfl|omega| (simp_all;done)| (simp_all;omega))
    exact .finE [.r []] [] (fun z0:Int=>(VI z0,[])) _ _ e2
   ·
    refine .bp [.r [(5,Xv 1 (decide ((i:Int)> 0)) (Xn ((i:Int)- 1))),(6,Xv 2 (decide ((i:Int)> 0)) (Xi' stepT l ((i:Int)- 1) (i- 1))),(7,Xv 1 (decide ((i:Int)> 0)) X0),(8,Xv 1 (decide ((i:Int)> 0)) X0),(10,Xv 1 (decide ((i:Int)> 0)) X0),(11,Xv 2 (decide ((i:Int)> 0)) X0),(12,Xv 1 (decide ((i:Int)> 0)) X0),(15,Xv 1 ((decide ((i:Int)> 0))&& !((((l.getD (i- 1) default)).kind)==(((l.getD i default)).kind))) (Xn ((i:Int)- 1))),(16,Xv 2 ((decide ((i:Int)> 0))&& !((((l.getD (i- 1) default)).kind)==(((l.getD i default)).kind))) (Xi' stepT l ((i:Int)- 1) (i- 1))),(17,Xv 1 ((decide ((i:Int)> 0))&& !((((l.getD (i- 1) default)).kind)==(((l.getD i default)).kind))) X0),(18,Xv 1 ((decide ((i:Int)> 0))&& !((((l.getD (i- 1) default)).kind)==(((l.getD i default)).kind))) X0),(19,Xv 1 ((decide ((i:Int)> 0))&& !((((l.getD (i- 1) default)).kind)==(((l.getD i default)).kind))) X0),(20,Xv 1 ((decide ((i:Int)> 0))&& !((((l.getD (i- 1) default)).kind)==(((l.getD i default)).kind))) X0),(22,Xv 1 (((decide ((i:Int)> 0))&& !((((l.getD (i- 1) default)).kind)==(((l.getD i default)).kind)))&&((((l.getD (i- 1) default)).kind)==2)) X0),(23,Xv 1 (((decide ((i:Int)> 0))&& !((((l.getD (i- 1) default)).kind)==(((l.getD i default)).kind)))&&((((l.getD (i- 1) default)).kind)==2)) X0),(24,Xka ((decide ((i:Int)> 0))&& !((((l.getD (i- 1) default)).kind)==(((l.getD i default)).kind))) ((((l.getD (i- 1) default)).kind)==2)),(25,Xko (decide ((i:Int)> 0)) ((((l.getD (i- 1) default)).kind)==(((l.getD i default)).kind))),(26,X (Xk (decide ((i:Int)> 0))))]] (decide ((i:Int)> 0)&&(((((l.getD (i- 1) default)).kind)==(((l.getD i default)).kind))|| (((((l.getD (i- 1) default)).kind)==2)&&((((l.getD i default)).kind)==1)))) (fun h9=> ?_) (fun h9=> ?_)
    ·
     have e3:((z1l l):Int)=5:=by
      rw[I3.2.2.2.2.2,chkX];((repeat' split)<;>first|rfl|omega| (simp_all;done)| (simp_all;omega))
     exact .finE [.r []] [] (fun z0:Int=>(VI z0,[])) _ _ e3
    ·
     refine .bp [.r []] ((((l.getD i default)).kind) !=1) (fun h11=> ?_) (fun h11=> ?_)
     ·
      refine .bp [.r [(3,X (Xn (b+(((l.getD i default)).n)))),(4,X (Xmin (b+(((l.getD i default)).n)) 2147483648))],.r []] ((((l.getD i default)).kind) !=2) (fun h13=> ?_) (fun h13=> ?_)
      ·
       refine .at 568 [(80,80)] ([(0,VL 2 stepT l),(3,VI (min (b+(((l.getD i default)).n)) 2147483648)),(4,VI a),(6,.ptr 80 0),(7,VL 2 stepT l),(8,VI (l.length:Int)),(9,VI (i:Int)),(70,VB ((((l.getD i default)).kind) !=2))],[(80,.box [VI (((l.getD i default)).kind),VI (((l.getD i default)).n)])]) ?_
       refine .back [.r [(3,X (Xn (a+(((l.getD i default)).n)))),(4,X (Xmin (a+(((l.getD i default)).n)) 2147483648))],.r [(0,X (Xn ((i:Int)+1)))]] [] (ih3 ((min (b+(((l.getD i default)).n)) 2147483648),(min (a+(((l.getD i default)).n)) 2147483648),(i+1)) ?_ ?_)
       ·
        refine⟨by omega,by omega,by omega,by omega,by omega,?_⟩;rw[I3.2.2.2.2.2,chkX];((repeat' split)<;>first|rfl|omega| (simp_all;done)| (simp_all;omega))
       ·
        ((try dsimp only);omega)
      ·
       refine .at 568 [(80,80)] ([(0,VL 2 stepT l),(3,VI (min (b+(((l.getD i default)).n)) 2147483648)),(4,VI a),(6,.ptr 80 0),(7,VL 2 stepT l),(8,VI (l.length:Int)),(9,VI (i:Int)),(70,VB ((((l.getD i default)).kind) !=2))],[(80,.box [VI (((l.getD i default)).kind),VI (((l.getD i default)).n)])]) ?_
       refine .back [.r [(0,X (Xn ((i:Int)+1)))]] [] (ih3 ((min (b+(((l.getD i default)).n)) 2147483648),a,(i+1)) ?_ ?_)
       ·
        refine⟨by omega,by omega,by omega,by omega,by omega,?_⟩;rw[I3.2.2.2.2.2,chkX];((repeat' split)<;>first|rfl|omega| (simp_all;done)| (simp_all;omega))
       ·
        ((try dsimp only);omega)
     ·
      refine .bp [.r []] ((((l.getD i default)).kind) !=2) (fun h13=> ?_) (fun h13=> ?_)
      ·
       refine .at 520 [(80,80)] ([(0,VL 2 stepT l),(3,VI b),(4,VI a),(6,.ptr 80 0),(7,VL 2 stepT l),(8,VI (l.length:Int)),(9,VI (i:Int)),(70,VB ((((l.getD i default)).kind) !=2))],[(80,.box [VI (((l.getD i default)).kind),VI (((l.getD i default)).n)])]) ?_
       refine .back [.r [(3,X (Xn (a+(((l.getD i default)).n)))),(4,X (Xmin (a+(((l.getD i default)).n)) 2147483648))],.r [(0,X (Xn ((i:Int)+1)))]] [] (ih3 (b,(min (a+(((l.getD i default)).n)) 2147483648),(i+1)) ?_ ?_)
       ·
        refine⟨by omega,by omega,by omega,by omega,by omega,?_⟩;rw[I3.2.2.2.2.2,chkX];((repeat' split)<;>first|rfl|omega| (simp_all;done)| (simp_all;omega))
       ·
        ((try dsimp only);omega)
      ·
       refine .at 520 [(80,80)] ([(0,VL 2 stepT l),(3,VI b),(4,VI a),(6,.ptr 80 0),(7,VL 2 stepT l),(8,VI (l.length:Int)),(9,VI (i:Int)),(70,VB ((((l.getD i default)).kind) !=2))],[(80,.box [VI (((l.getD i default)).kind),VI (((l.getD i default)).n)])]) ?_
       refine .back [.r [(0,X (Xn ((i:Int)+1)))]] [] (ih3 (b,a,(i+1)) ?_ ?_)
       ·
        refine⟨by omega,by omega,by omega,by omega,by omega,?_⟩;rw[I3.2.2.2.2.2,chkX];((repeat' split)<;>first|rfl|omega| (simp_all;done)| (simp_all;omega))
       ·
        ((try dsimp only);omega)
 ·
  refine .bp [.r [(4,Xv 1 (!(decide (b>2147483647))) X0),(5,X (Xk' (decide (b>2147483647))))]] (decide (b>2147483647)||decide (a>2147483647)) (fun h16=> ?_) (fun h16=> ?_)
  ·
   have e4:((z1l l):Int)=3:=by
    rw[I3.2.2.2.2.2,chkX];((repeat' split)<;>first|rfl|omega| (simp_all;done)| (simp_all;omega))
   exact .finE [.r []] [] (fun z0:Int=>(VI z0,[])) _ _ e4
  ·
   have e5:((z1l l):Int)=0:=by
    rw[I3.2.2.2.2.2,chkX];((repeat' split)<;>first|rfl|omega| (simp_all;done)| (simp_all;omega))
   exact .finE [.r []] [] (fun z0:Int=>(VI z0,[])) _ _ e5
theorem ex_at{l:List AxStep}{i:Nat}(h:i<l.length):ex (l.drop i)=rep (l.getD i default).n.toNat (uOf (l.getD i default).kind)++ex (l.drop (i+1)):=by rw[z7z h];rfl
def oldI(l:List AxStep):Int:=(oldU (ex l):Int)
def newI(l:List AxStep):Int:=(newU (ex l):Int)
theorem z8H{l:List AxStep}{i:Nat}(h:i<l.length)(hf:Form l):(oldU (ex (l.drop i)):Int)=(if(l.getD i default).kind=1 then 0 else(l.getD i default).n)+oldU (ex (l.drop (i+1)))∧
 (newU (ex (l.drop i)):Int)=(if(l.getD i default).kind=2 then 0 else(l.getD i default).n)+newU (ex (l.drop (i+1)))∧1≤(l.getD i default).n∧0≤(l.getD i default).kind∧(l.getD i default).kind≤2:=by
 have h1:=((z4A hf) i (Nat.zero_le _) h).1
 have hn:((l.getD i default).n.toNat:Int)=(l.getD i default).n:=Int.toNat_of_nonneg (by have:=h1.2.2;omega)
 rw[ex_at h,y3u,z9R,hn]
 exact⟨rfl,rfl,h1.2.2,h1.1,h1.2.1⟩
theorem y6m{l:List AxStep}{i:Nat}(h:l.length≤i):ex (l.drop i)=[]:=by rw[List.drop_eq_nil_of_le h];rfl
theorem z8I(l:List AxStep)(hv:Valid l):FC Tryz.prog 87 [VL 2 stepT l] (app emp []) (.tup [VI (oldI l),VI (newI l)]) (app emp []):=by
 refine .go Tryz.f87 ?_
 refine .len 0 (fun hl0=> ?_)
 refine .loop (α:=Int×Int×Nat) [.r [],.r [],.r [(1,X (Xl stepT l))]] 56 (fun(b,a,i)=>([(4,VI b),(5,VI a),(8,VL 2 stepT l),(9,VI (l.length:Int)),(10,VI (i:Int))],[])) (fun(b,a,i)=>i≤l.length∧0≤b∧0≤a∧oldI l=b+oldU (ex (l.drop i))∧newI l=a+newU (ex (l.drop i))) (fun(b,a,i)=>l.length-i) (0,0,0) ?_ ?_
 ·
  exact⟨by omega,by decide,by decide,by simp[oldI],by simp[newI]⟩
 rintro⟨b,a,i⟩ I3 ih3
 try dsimp only at I3
 have hv1:oldI l≤2147483647:=by have:=hv.2.1;unfold oldI;omega
 have hv2:newI l≤2147483647:=by have:=hv.2.2;unfold newI;omega
 refine .bp [.r []] (decide ((i:Int)< (l.length:Int))) (fun h3=> ?_) (fun h3=> ?_)
 ·
  have hst:=z8H (l:=l) (i:=i) (by omega) hv.1
  refine .bp [.r [(0,X (Xi stepT l (i:Int)))],.r []] ((((l.getD i default)).kind) !=1) (fun h5=> ?_) (fun h5=> ?_)
  ·
   refine .bp [.r [(3,X (Xn (b+(((l.getD i default)).n))))],.r []] ((((l.getD i default)).kind) !=2) (fun h7=> ?_) (fun h7=> ?_)
   ·
    refine .back [.r [(3,X (Xn (a+(((l.getD i default)).n))))],.r [(0,X (Xn ((i:Int)+1)))]] [] (ih3 ((b+(((l.getD i default)).n)),(a+(((l.getD i default)).n)),(i+1)) ?_ ?_)
    ·
     obtain⟨s1,s2,s3,s4,s5⟩:=hst
     first|rw[if_pos (by omega)] at s1|rw[if_neg (by omega)] at s1
     first|rw[if_pos (by omega)] at s2|rw[if_neg (by omega)] at s2
     refine⟨by omega,by omega,by omega,by omega,by omega⟩
    ·
     ((try dsimp only);omega)
   ·
    refine .back [.r [(0,X (Xn ((i:Int)+1)))]] [] (ih3 ((b+(((l.getD i default)).n)),a,(i+1)) ?_ ?_)
    ·
     obtain⟨s1,s2,s3,s4,s5⟩:=hst
     first|rw[if_pos (by omega)] at s1|rw[if_neg (by omega)] at s1
     first|rw[if_pos (by omega)] at s2|rw[if_neg (by omega)] at s2
     refine⟨by omega,by omega,by omega,by omega,by omega⟩
    ·
     ((try dsimp only);omega)
  ·
   refine .bp [.r []] ((((l.getD i default)).kind) !=2) (fun h7=> ?_) (fun h7=> ?_)
   ·
    refine .back [.r [(3,X (Xn (a+(((l.getD i default)).n))))],.r [(0,X (Xn ((i:Int)+1)))]] [] (ih3 (b,(a+(((l.getD i default)).n)),(i+1)) ?_ ?_)
    ·
     obtain⟨s1,s2,s3,s4,s5⟩:=hst
     first|rw[if_pos (by omega)] at s1|rw[if_neg (by omega)] at s1
     first|rw[if_pos (by omega)] at s2|rw[if_neg (by omega)] at s2
     refine⟨by omega,by omega,by omega,by omega,by omega⟩
    ·
     ((try dsimp only);omega)
   ·
    refine .back [.r [(0,X (Xn ((i:Int)+1)))]] [] (ih3 (b,a,(i+1)) ?_ ?_)
    ·
     obtain⟨s1,s2,s3,s4,s5⟩:=hst
     first|rw[if_pos (by omega)] at s1|rw[if_neg (by omega)] at s1
     first|rw[if_pos (by omega)] at s2|rw[if_neg (by omega)] at s2
     refine⟨by omega,by omega,by omega,by omega,by omega⟩
    ·
     ((try dsimp only);omega)
 ·
  have e1:((oldI l):Int)=b:=by
   have:=y6m (l:=l) (i:=i) (by omega)
   rw[this] at I3
   have i1:=I3.2.2.2.1
   have i2:=I3.2.2.2.2
   simp only[oldU,newU] at i1 i2
   omega
  have e2:((newI l):Int)=a:=by
   have:=y6m (l:=l) (i:=i) (by omega)
   rw[this] at I3
   have i1:=I3.2.2.2.1
   have i2:=I3.2.2.2.2
   simp only[oldU,newU] at i1 i2
   omega
  exact .finE [.r []] [] (fun((z0,z1):Int×Int)=>(.tup [VI z0,VI z1],[])) _ _ (pr e1 e2)
theorem z8J(l:List AxStep)(hv:Valid l):FC Tryz.prog 201 [VL 2 stepT l] (app emp []) (.tup [VI (oldI l),VI (newI l),VI 0]) (app emp []):=by
 refine .go Tryz.f201 ?_
 refine .len 0 (fun hl0=> ?_)
 have hc:=z27.2 hv
 refine .bp [.r [],.r [(1,X (Xc0 (z2y l) X0))],.r []] ((z1l l) !=0) (fun h2=> ?_) (fun h2=> ?_)
 ·
  exfalso
  omega
 ·
  exact .fin [.r [(1,X (Xc0 (z8I l (by assumption)) X0))],.r []] []
end Go.Ch
end
section
set_option linter.unusedVariables false
set_option linter.unusedSimpArgs false
namespace Go.Ch
open Go Go.Ab
section
variable {w:Wr} {ps qs:List AxStep} {pu qu:Int} {T:Nat} {G:Wr}
end
section
variable {x y:Wr} {ps qs:List AxStep} {pu qu:Int} {T:Nat} {G1 G2:Wr}
end
end Go.Ch
end
section

end
section
set_option linter.unusedVariables false
set_option linter.unusedSimpArgs false
namespace Go.Ch
open Go Go.Ab
def z0q:List AxStep→Int→Int→Int→Int
 | [],_,_,_=> -1
 |s::l,p,fr,tq=>if s.kind=1 then z0q l p fr (tq+s.n) else if s.kind=0 then(if p<fr+s.n then tq+p-fr else z0q l p (fr+s.n) (tq+s.n)) else(if p<fr+s.n then-1 else z0q l p (fr+s.n) tq)
def gapS:List AxStep→Int→Bool→Int→Int→Int
 | [],_,_,_,tq=>tq
 |s::l,at_,r,fr,tq=>gapS l at_ r (if s.kind=1 then fr else fr+s.n) (if s.kind=1∧(fr<at_∨(fr=at_∧r=true)) then tq+s.n else if s.kind=0 then tq+min s.n (max 0 (at_-fr)) else tq)
theorem y6n:∀{l:List AxStep} (hl:Form l) (a:Int) (r:Bool) (fr tq:Int),tq≤gapS l a r fr tq
 | [],_,a,r,fr,tq=>Int.le_refl _
 |s::l,hl,a,r,fr,tq=>by
  have ih:=y6n hl.tail a r (if s.kind=1 then fr else fr+s.n) (if s.kind=1∧(fr<a∨(fr=a∧r=true)) then tq+s.n else if s.kind=0 then tq+min s.n (max 0 (a-fr)) else tq)
  have hn:=hl.head.2.2
  rw[gapS]
  refine Int.le_trans ?_ ih
  split
  ·omega
  ·split<;>omega
theorem y0V:∀{l:List AxStep} (hl:Form l) (a fr tq tq':Int),tq≤tq'→gapS l a false fr tq≤gapS l a true fr tq'
 | [],_,a,fr,tq,tq',h=>h
 |s::l,hl,a,fr,tq,tq',h=>by
  have hn:=hl.head.2.2
  rw[gapS,gapS]
  refine y0V hl.tail a _ _ _ ?_
  by_cases k1:s.kind=1
  ·by_cases c:fr<a
   ·rw[if_pos ⟨k1,.inl c⟩,if_pos ⟨k1,.inl c⟩];omega
   ·have n1:¬(s.kind=1∧(fr<a∨(fr=a∧false=true))):=by
     rintro⟨_,h|h⟩
     ·omega
     ·cases h.2
    have k0:¬s.kind=0:=by omega
    rw[if_neg n1,if_neg k0]
    split
    ·omega
    ·exact h
  ·rw[if_neg (show¬(s.kind=1∧(fr<a∨(fr=a∧false=true))) from fun e=>k1 e.1),if_neg (show¬(s.kind=1∧(fr<a∨(fr=a∧true=true))) from fun e=>k1 e.1)]
   split<;>omega
theorem y0W:∀{l:List AxStep} (hl:Form l) (a:Int) (r:Bool) (fr tq:Int),a<fr→gapS l a r fr tq=tq
 | [],_,a,r,fr,tq,h=>rfl
 |s::l,hl,a,r,fr,tq,h=>by
  have hn:=hl.head.2.2
  rw[gapS,if_neg (by omega:¬(s.kind=1∧(fr<a∨(fr=a∧r=true))))]
  rw[y0W hl.tail a r _ _ (by split<;>omega)]
  split<;>omega
theorem z34:∀{l:List AxStep} (hl:Form l) (p fr tq:Int),fr≤p→0≤z0q l p fr tq→gapS l p true fr tq≤z0q l p fr tq
 | [],_,p,fr,tq,h,h0=>by simp[z0q] at h0
 |s::l,hl,p,fr,tq,h,h0=>by
  have hn:=hl.head.2.2
  have hk:=kinds hl.head
  rw[z0q] at h0⊢
  rw[gapS]
  by_cases k1:s.kind=1
  ·rw[if_pos k1] at h0⊢
   rw[if_pos k1,if_pos ⟨k1,by rcases Int.lt_or_eq_of_le h with h|h;exact .inl h;exact .inr ⟨h,rfl⟩⟩]
   exact z34 hl.tail p fr _ h h0
  ·rw[if_neg k1] at h0⊢
   rw[if_neg k1,if_neg (by omega:¬(s.kind=1∧(fr<p∨(fr=p∧true=true))))]
   by_cases k0:s.kind=0
   ·rw[if_pos k0] at h0⊢
    rw[if_pos k0]
    by_cases c:p<fr+s.n
    ·rw[if_pos c] at h0⊢
     rw[y0W hl.tail p true _ _ (by omega)];omega
    ·rw[if_neg c] at h0⊢
     rw[show min s.n (max 0 (p-fr))=s.n by omega]
     exact z34 hl.tail p _ _ (by omega) h0
   ·rw[if_neg k0] at h0⊢
    rw[if_neg k0]
    by_cases c:p<fr+s.n
    ·rw[if_pos c] at h0;omega
    ·rw[if_neg c] at h0⊢
     exact z34 hl.tail p _ _ (by omega) h0
theorem z35:∀{l:List AxStep} (hl:Form l) (p q fr tq:Int),fr≤p→p<q→0≤z0q l p fr tq→z0q l p fr tq+1≤gapS l q false fr tq
 | [],_,p,q,fr,tq,h,hq,h0=>by simp[z0q] at h0
 |s::l,hl,p,q,fr,tq,h,hq,h0=>by
  have hn:=hl.head.2.2
  rw[z0q] at h0⊢
  rw[gapS]
  by_cases k1:s.kind=1
  ·rw[if_pos k1] at h0⊢
   rw[if_pos k1,if_pos ⟨k1,by omega⟩]
   exact z35 hl.tail p q fr _ h hq h0
  ·rw[if_neg k1] at h0⊢
   rw[if_neg k1,if_neg (by omega:¬(s.kind=1∧(fr<q∨(fr=q∧false=true))))]
   by_cases k0:s.kind=0
   ·rw[if_pos k0] at h0⊢
    rw[if_pos k0]
    by_cases c:p<fr+s.n
    ·rw[if_pos c] at h0⊢
     have:=y6n hl.tail q false (fr+s.n) (tq+min s.n (max 0 (q-fr)))
     omega
    ·rw[if_neg c] at h0⊢
     rw[show min s.n (max 0 (q-fr))=s.n by omega]
     exact z35 hl.tail p q _ _ (by omega) hq h0
   ·rw[if_neg k0] at h0⊢
    rw[if_neg k0]
    by_cases c:p<fr+s.n
    ·rw[if_pos c] at h0;omega
    ·rw[if_neg c] at h0⊢
     exact z35 hl.tail p q _ _ (by omega) hq h0
end Go.Ch
end
section
set_option linter.unusedVariables false
namespace Go.Ch
open Go Go.Ab
structure Cell where
 row:Int
 col:Int
 text:ByteArray
 ref:Int
 attrs:List Attr
instance:Inhabited Cell:=⟨⟨0,0,{data:=#[]},0,[]⟩⟩
structure Rect where
 row:Int
 col:Int
 h:Int
 w:Int
deriving DecidableEq
instance:Inhabited Rect:=⟨⟨0,0,0,0⟩⟩
structure Grid where
 rows:Int
 cols:Int
 cells:List Cell
 merges:List Rect
instance:Inhabited Grid:=⟨⟨0,0,[],[]⟩⟩
structure GEd where
 rows:List AxStep
 cols:List AxStep
 cells:List Cell
 split:List Rect
 merge:List Rect
instance:Inhabited GEd:=⟨⟨[],[],[],[],[]⟩⟩
def cellT(c:Cell):Tree:= .agg [TI c.row,TI c.col,TS c.text,TI c.ref,.lst 2 (c.attrs.map attrT)]
def rectT(r:Rect):Tree:= .agg [TI r.row,TI r.col,TI r.h,TI r.w]
def gridT(g:Grid):Tree:= .agg [TI g.rows,TI g.cols,.lst 5 (g.cells.map cellT),.lst 4 (g.merges.map rectT)]
def gedT(e:GEd):Tree:= .agg [.lst 2 (e.rows.map stepT),.lst 2 (e.cols.map stepT),.lst 5 (e.cells.map cellT),.lst 4 (e.split.map rectT),.lst 4 (e.merge.map rectT)]
def ordC(a b:Cell):Int:=orL [cmpI a.row b.row,cmpI a.col b.col]
def z1a(c:Cell):Bool:=(seq c.text {data:=#[]}&&c.ref==0)&&(c.attrs.length:Int)==0
def insB(r:Rect)(m n:Int):Bool:=decide (0≤r.row∧0≤r.col∧1≤r.h∧1≤r.w∧r.row<m∧r.col<n∧r.h≤m-r.row∧r.w≤n-r.col)
def meetB(a b:Rect):Bool:=decide (a.row<b.row+b.h∧b.row<a.row+a.h∧a.col<b.col+b.w∧b.col<a.col+a.w)
def befB(a b:Rect):Bool:=decide (a.row<b.row∨(a.row=b.row∧a.col<b.col))
def mvR(a:List AxStep)(p:Int):Int:=if 0<a.length then z0q a p 0 0 else p
def mvC(rows cols:List AxStep)(c:Cell):Option Cell:=
 if 0<rows.length∧mvR rows c.row<0 then none else if 0<cols.length∧mvR cols c.col<0 then none else some {c with row:=mvR rows c.row,col:=mvR cols c.col}
def movL(l:List Cell)(rows cols:List AxStep):List Cell:=l.filterMap (mvC rows cols)
def PIn(a:List AxStep)(p:Int):Prop:=0<a.length→Valid a∧0≤p∧p<oldI a
def CAN(k:Nat)(l:List Cell):Prop:=∀c∈l,c.attrs.length≤k
theorem z8K{l:List Cell}{i:Nat}(h:i<l.length):l.getD i default∈l:=by
 rw[show l.getD i default=l[i] by simp[List.getD,List.getElem?_eq_getElem h]];exact List.getElem_mem _
theorem z19{l:List Cell}{rows cols:List AxStep}{i:Nat}(h:i<l.length):movL (l.take (i+1)) rows cols=movL (l.take i) rows cols++(mvC rows cols (l.getD i default)).toList:=by
 unfold movL
 rw[List.take_succ_eq_append_getElem h,List.filterMap_append]
 simp only[List.getD,List.getElem?_eq_getElem h,Option.getD_some]
 simp only[List.filterMap_cons,List.filterMap_nil]
 cases mvC rows cols l[i]<;>rfl
theorem z7A(l:List Cell)(rows cols:List AxStep):(movL l rows cols).length≤l.length:=List.length_filterMap_le _ _
def putC(c:Cell)(k:List Cell→List Cell):List Cell→List Cell
 | []=>(if z1a c=true then[] else[c])++k []
 |x::l=>if ordC x c<0 then x::putC c k l else if ordC x c=0 then(if z1a c=true then[] else[c])++k l else(if z1a c=true then[] else[c])++k (x::l)
def putL:List Cell→List Cell→List Cell
 | [],l=>l
 |c::ns,l=>putC c (putL ns) l
theorem dropC{l:List Cell}{i:Nat}(h:i<l.length):l.drop i=l.getD i default::l.drop (i+1):=by
 rw[List.drop_eq_getElem_cons h];simp[List.getD,List.getElem?_eq_getElem h]
theorem z8L{l:List Cell}{i:Nat}(h:l.length≤i):l.drop i=[]:=List.drop_eq_nil_of_le h
theorem y7b{c:Cell}{k:List Cell→List Cell}{l:List Cell}{j:Nat}(h:j<l.length)(h0:ordC (l.getD j default) c<0):putC c k (l.drop j)=l.getD j default::putC c k (l.drop (j+1)):=by
 rw[dropC h,putC,if_pos h0]
theorem z7B{c:Cell}{k:List Cell→List Cell}{l:List Cell}{j:Nat}(h:j<l.length)(h0:ordC (l.getD j default) c=0):putC c k (l.drop j)=(if z1a c=true then[] else[c])++k (l.drop (j+1)):=by
 rw[dropC h,putC,if_neg (by omega),if_pos h0]
theorem z7C{c:Cell}{k:List Cell→List Cell}{l:List Cell}{j:Nat}(h:j<l.length→0<ordC (l.getD j default) c):putC c k (l.drop j)=(if z1a c=true then[] else[c])++k (l.drop j):=by
 by_cases hj:j<l.length
 ·have:=h hj
  rw[dropC hj,putC,if_neg (by omega),if_neg (by omega)]
 ·rw[z8L (by omega),putC]
end Go.Ch
end
section
set_option linter.unusedVariables false
namespace Go.Ch
open Go Go.Ab
theorem z0g{α:Type}[Inhabited α]{l:List α}{i:Nat}(h:i<l.length):l.getD i default∈l:=by
 rw[show l.getD i default=l[i] by simp[List.getD,List.getElem?_eq_getElem h]];exact List.getElem_mem _
theorem z3j{α:Type}[Inhabited α]{l:List α}{i:Nat}(h:i<l.length):l.drop i=l.getD i default::l.drop (i+1):=by
 rw[List.drop_eq_getElem_cons h];simp[List.getD,List.getElem?_eq_getElem h]
end Go.Ch
end
section
set_option linter.unusedVariables false
set_option linter.unusedSimpArgs false
namespace Go.Ch
open Go Go.Ab
def decR(u:ByteArray):Int:=((Lib.decodeGo u).1:Int)
def decW(u:ByteArray):Nat:=(Lib.decodeGo u).2
theorem y7c{u:ByteArray}(h:0<u.size):1≤decW u∧decW u≤u.size:=by
 unfold decW Lib.decodeGo
 rw[if_neg (by omega)]
 have hl:u.data.toList.length=u.size:=by rw[Array.length_toList];rfl
 rw[Lib.decode_N]
 have h1:=Lib.decodeN_ge1 (u.data.toList.length-0) (u.data.toList.getD 0 0).toNat (u.data.toList.getD (0+1) 0).toNat (u.data.toList.getD (0+2) 0).toNat (u.data.toList.getD (0+3) 0).toNat
 have h2:=Lib.decodeN_width_le (u.data.toList.length-0) (u.data.toList.getD 0 0).toNat (u.data.toList.getD (0+1) 0).toNat (u.data.toList.getD (0+2) 0).toNat (u.data.toList.getD (0+3) 0).toNat (by omega)
 omega
def badT(u:ByteArray):Prop:=(decR u=65533∧decW u=1)∨decR u=10∨¬CharP (decR u)
instance (u:ByteArray):Decidable (badT u):=by unfold badT CharP;infer_instance
def textG(u:ByteArray):Bool:=if h:0<u.size then(if badT u then false else textG (u.extract (decW u) u.size)) else true
termination_by u.size
decreasing_by
 have:=y7c h
 rw[ByteArray.size_extract]
 omega
theorem y3v{u:ByteArray}(h:¬0<u.size):textG u=true:=by rw[textG,dif_neg h]
def tailG(u:ByteArray)(p:Nat):ByteArray:=u.extract p u.size
end Go.Ch
end
section
set_option linter.unusedVariables false
namespace Go.Ch
open Go Go.Ab
theorem z5d(a b:Cell):ordC a b=if a.row<b.row then-1 else if a.row>b.row then 1 else if a.col<b.col then-1 else if a.col>b.col then 1 else 0:=by
 unfold ordC
 simp only[orL]
 unfold cmpI
 by_cases h1:a.row<b.row
 ·rw[if_pos h1,if_pos (by decide),if_pos h1]
 ·rw[if_neg h1,if_neg h1]
  by_cases h2:a.row>b.row
  ·rw[if_pos h2,if_pos (by decide),if_pos h2]
  ·rw[if_neg h2,if_neg (by decide),if_neg h2]
   by_cases h3:a.col<b.col
   ·rw[if_pos h3,if_pos (by decide)]
   ·rw[if_neg h3]
    by_cases h4:a.col>b.col
    ·rw[if_pos h4,if_pos (by decide)]
    ·rw[if_neg h4,if_neg (by decide)]
theorem z7D{a b:Cell}:ordC a b<0↔a.row<b.row∨(a.row=b.row∧a.col<b.col):=by
 rw[z5d];repeat' split
 all_goals omega
theorem y3w{a b:Cell}:ordC a b=0↔a.row=b.row∧a.col=b.col:=by
 rw[z5d];repeat' split
 all_goals omega
def cellE(c:Cell)(m n:Int)(none:Bool):Int:=
 if c.row<0∨m≤c.row∨c.col<0∨n≤c.col then 2
 else if c.ref<0∨1073741824<c.ref then 2
 else if textG c.text=false then 23
 else if¬chkA false c.attrs 0=0 then chkA false c.attrs 0
 else if z1a c=true∧none=false then 4 else 0
def z0F(l:List Cell)(m n:Int)(none:Bool)(i:Nat):Int:=
 if i<l.length then
  (if¬cellE (l.getD i default) m n none=0 then cellE (l.getD i default) m n none
   else if 0<i∧0≤ordC (l.getD (i- 1) default) (l.getD i default) then 5 else z0F l m n none (i+1))
 else 0
termination_by l.length-i
def SzC(l:List Cell):Prop:=∀c∈l,c.text.size≤9223372036854775807∧Szd c.attrs
def anyM(l:List Rect)(r:Rect):Bool:=l.any (fun q=>meetB q r)
def mergE(l:List Rect)(m n:Int)(i:Nat):Int:=
 if i<l.length then
  (if insB (l.getD i default) m n=false then 2
   else if(l.getD i default).h=1∧(l.getD i default).w=1 then 4
   else if 0<i∧befB (l.getD (i- 1) default) (l.getD i default)=false then 5
   else if anyM (l.take i) (l.getD i default)=true then 21
   else mergE l m n (i+1))
 else 0
termination_by l.length-i
def gridE(g:Grid):Int:=
 if g.rows<0∨2147483647<g.rows∨g.cols<0∨2147483647<g.cols then 2
 else if¬z0F g.cells g.rows g.cols false 0=0 then z0F g.cells g.rows g.cols false 0
 else mergE g.merges g.rows g.cols 0
def idxF{α:Type}[Inhabited α](p:α→Bool)(l:List α)(i:Nat):Int:=if i<l.length then(if p (l.getD i default)=true then(i:Int) else idxF p l (i+1)) else-1
termination_by l.length-i
theorem y3x{α:Type}[Inhabited α](p:α→Bool){l:List α}:∀(n i:Nat),l.length-i=n→(0≤idxF p l i↔(l.drop i).any p=true)
 |0,i,h=>by rw[idxF,if_neg (by omega),List.drop_eq_nil_of_le (by omega)];simp
 |n+1,i,h=>by
  have hi:i<l.length:=by omega
  rw[idxF,if_pos hi,z3j hi,List.any_cons]
  by_cases hp:p (l.getD i default)=true
  ·rw[if_pos hp,hp];simp
  ·rw[if_neg hp,y3x p n (i+1) (by omega)]
   simp only[Bool.not_eq_true] at hp
   rw[hp,Bool.false_or]
theorem y0X{α:Type}[Inhabited α](p:α→Bool)(l:List α):(0≤idxF p l 0)=((l.any p)=true):=propext (by rw[y3x p _ 0 rfl,List.drop_zero])
end Go.Ch
end
section
set_option linter.unusedVariables false
namespace Go.Ch
open Go Go.Ab
def insQE(l:List Rect)(m n:Int)(i:Nat):Int:=if i<l.length then(if insB (l.getD i default) m n=false then 2 else insQE l m n (i+1)) else 0
termination_by l.length-i
def mgE(l:List Rect)(m n:Int)(i:Nat):Int:=if i<l.length then(if insB (l.getD i default) m n=false then 2 else if(l.getD i default).h=1∧(l.getD i default).w=1 then 4 else mgE l m n (i+1)) else 0
termination_by l.length-i
def celF(l:List Cell)(m n:Int)(i:Nat):Int:=if i<l.length then(if m≤(l.getD i default).row∨n≤(l.getD i default).col then 2 else celF l m n (i+1)) else 0
termination_by l.length-i
theorem z36{l:List Rect}{m n:Int}:∀(k i:Nat),l.length-i=k→insQE l m n i=0→∀j,i≤j→j<l.length→insB (l.getD j default) m n=true
 |0,i,h,_,j,h1,h2=>by omega
 |k+1,i,h,h0,j,h1,h2=>by
  rw[insQE,if_pos (by omega)] at h0
  split at h0
  ·cases h0
  ·rename_i hb
   by_cases e:i=j
   ·rw[←e];simpa using hb
   ·exact z36 k (i+1) (by omega) h0 j (by omega) h2
theorem y3y{l:List Rect}{m n:Int}:∀(k i:Nat),l.length-i=k→mgE l m n i=0→∀j,i≤j→j<l.length→insB (l.getD j default) m n=true∧¬((l.getD j default).h=1∧(l.getD j default).w=1)
 |0,i,h,_,j,h1,h2=>by omega
 |k+1,i,h,h0,j,h1,h2=>by
  rw[mgE,if_pos (by omega)] at h0
  split at h0
  ·cases h0
  ·rename_i hb
   split at h0
   ·cases h0
   ·rename_i hc
    by_cases e:i=j
    ·rw[←e];exact⟨by simpa using hb,hc⟩
    ·exact y3y k (i+1) (by omega) h0 j (by omega) h2
theorem y0Y{l:List Cell}{m n:Int}:∀(k i:Nat),l.length-i=k→celF l m n i=0→∀j,i≤j→j<l.length→(l.getD j default).row<m∧(l.getD j default).col<n
 |0,i,h,_,j,h1,h2=>by omega
 |k+1,i,h,h0,j,h1,h2=>by
  rw[celF,if_pos (by omega)] at h0
  split at h0
  ·cases h0
  ·rename_i hb
   by_cases e:i=j
   ·rw[←e];omega
   ·exact y0Y k (i+1) (by omega) h0 j (by omega) h2
theorem z0C{α:Type}[Inhabited α]{l:List α}{x:α}(h:x∈l):∃j,j<l.length∧l.getD j default=x:=by
 obtain⟨j,hj,e⟩:=List.mem_iff_getElem.1 h
 exact⟨j,hj,by rw[List.getD_eq_getElem?_getD,List.getElem?_eq_getElem hj];exact e⟩
structure EdOk(e:GEd):Prop where
 okr:Valid e.rows
 okc:Valid e.cols
 cells:z0F e.cells 2147483647 2147483647 true 0=0
 split:∀r∈e.split,insB r 2147483647 2147483647=true
 merge:∀r∈e.merge,insB r 2147483647 2147483647=true∧¬(r.h=1∧r.w=1)
def edE(e:GEd):Int:=
 if¬z1l e.rows=0 then z1l e.rows else if¬z1l e.cols=0 then z1l e.cols
 else if¬z0F e.cells 2147483647 2147483647 true 0=0 then z0F e.cells 2147483647 2147483647 true 0
 else if¬insQE e.split 2147483647 2147483647 0=0 then insQE e.split 2147483647 2147483647 0 else mgE e.merge 2147483647 2147483647 0
theorem y0Z{e:GEd}(h:edE e=0):EdOk e:=by
 unfold edE at h
 split at h
 ·omega
 ·split at h
  ·omega
  ·split at h
   ·omega
   ·split at h
    ·omega
    ·refine⟨z27.1 (by omega),z27.1 (by omega),by omega,fun r hr=> ?_,fun r hr=> ?_⟩
     ·obtain⟨j,hj,rfl⟩:=z0C hr
      exact z36 _ 0 rfl (by omega) j (by omega) hj
     ·obtain⟨j,hj,rfl⟩:=z0C hr
      exact y3y _ 0 rfl h j (by omega) hj
def nwS(n:Int)(a:List AxStep):Int:=if 0<a.length then newI a else n
structure FitOk(g:Grid)(e:GEd):Prop where
 rows:0<e.rows.length→oldI e.rows=g.rows
 cols:0<e.cols.length→oldI e.cols=g.cols
 cells:∀c∈e.cells,c.row<nwS g.rows e.rows∧c.col<nwS g.cols e.cols
 split:∀r∈e.split,insB r (nwS g.rows e.rows) (nwS g.cols e.cols)=true
 merge:∀r∈e.merge,insB r (nwS g.rows e.rows) (nwS g.cols e.cols)=true
def fitE(g:Grid)(e:GEd):Int:=
 if 0<e.rows.length∧¬oldI e.rows=g.rows then 14 else if 0<e.cols.length∧¬oldI e.cols=g.cols then 14
 else if¬celF e.cells (nwS g.rows e.rows) (nwS g.cols e.cols) 0=0 then celF e.cells (nwS g.rows e.rows) (nwS g.cols e.cols) 0
 else if¬insQE e.split (nwS g.rows e.rows) (nwS g.cols e.cols) 0=0 then insQE e.split (nwS g.rows e.rows) (nwS g.cols e.cols) 0
 else insQE e.merge (nwS g.rows e.rows) (nwS g.cols e.cols) 0
theorem y3z{g:Grid}{e:GEd}(h:fitE g e=0):FitOk g e:=by
 unfold fitE at h
 split at h
 ·omega
 ·split at h
  ·omega
  ·split at h
   ·omega
   ·split at h
    ·omega
    ·refine⟨fun q=>by omega,fun q=>by omega,fun c hc=> ?_,fun r hr=> ?_,fun r hr=> ?_⟩
     ·obtain⟨j,hj,rfl⟩:=z0C hc
      exact y0Y _ 0 rfl (by omega) j (by omega) hj
     ·obtain⟨j,hj,rfl⟩:=z0C hr
      exact z36 _ 0 rfl (by omega) j (by omega) hj
     ·obtain⟨j,hj,rfl⟩:=z0C hr
      exact z36 _ 0 rfl h j (by omega) hj
theorem y7d{l:List AxStep}(h:Valid l):0≤newI l∧newI l≤2147483647∧0≤oldI l∧oldI l≤2147483647:=by
 have:=h.2.1;have:=h.2.2
 unfold newI oldI;omega
theorem y6o{n:Int}{a:List AxStep}(h:Valid a)(hn:0≤n∧n≤2147483647):0≤nwS n a∧nwS n a≤2147483647:=by
 have:=y7d h
 unfold nwS;split<;>omega
end Go.Ch
end
section
set_option linter.unusedVariables false
set_option linter.unusedSimpArgs false
set_option maxRecDepth 100000
set_option maxHeartbeats 4000000
open Go Go.Proofs Go.Ab
namespace Go.Ch
theorem y00(x:Int):FC Tryz.prog 142 [VI x] (app emp []) (VB false) (app emp []):=by
 refine .go Tryz.f142 ?_
 have e1:((x !=x):Bool)=false:=by
  simp
 exact .finE [.r [],.r []] [] (fun z0:Bool=>(VB z0,[])) _ _ e1.symm
theorem z7E(x y:Int):FC Tryz.prog 179 [VI x,VI y] (app emp []) (VI (cmpI x y)) (app emp []):=by
 refine .go Tryz.f179 ?_
 refine .bp [.r [],.r [(1,X (Xc0 (y00 x) X0))],.r [(1,X (Xc0 (y00 y) X0))],.r [],.f,.r [],.f,.r []] (decide (x<y)) (fun h9=> ?_) (fun h9=> ?_)
 ·
  have e1:((cmpI x y):Int)= -1:=by
   unfold cmpI;((repeat' split)<;>first|rfl|omega| (simp_all;done)| (simp_all;omega))
  exact .finE [.r []] [] (fun z0:Int=>(VI z0,[])) _ _ e1
 ·
  refine .bp [.r []] (decide (x>y)) (fun h11=> ?_) (fun h11=> ?_)
  ·
   have e2:((cmpI x y):Int)=1:=by
    unfold cmpI;((repeat' split)<;>first|rfl|omega| (simp_all;done)| (simp_all;omega))
   exact .finE [.r []] [] (fun z0:Int=>(VI z0,[])) _ _ e2
  ·
   have e3:((cmpI x y):Int)=0:=by
    unfold cmpI;((repeat' split)<;>first|rfl|omega| (simp_all;done)| (simp_all;omega))
   exact .finE [.r []] [] (fun z0:Int=>(VI z0,[])) _ _ e3
theorem fc_or(l:List Int):FC Tryz.prog 178 [VL 1 intT l] (app emp []) (VI (orL l)) (app emp []):=by
 refine .go Tryz.f178 ?_
 refine .len 0 (fun hl0=> ?_)
 refine .loop (α:=Nat) [.r [],.r [],.r [(1,X (Xl intT l))]] 40 (fun i=>([(3,VI 0),(6,VL 1 intT l),(7,VI (l.length:Int)),(8,VI (i:Int))],[])) (fun i=>i≤l.length∧orL l=orL (l.drop i)) (fun i=>l.length-i) (0:Nat) ?_ ?_
 ·
  exact⟨by omega,rfl⟩
 rintro i I3 ih3
 try dsimp only at I3
 refine .bp [.r []] (decide ((i:Int)< (l.length:Int))) (fun h3=> ?_) (fun h3=> ?_)
 ·
  refine .bp [.r [(0,X (Xi intT l (i:Int)))],.r []] ((l.getD i default) !=0) (fun h5=> ?_) (fun h5=> ?_)
  ·
   have e1:((orL l):Int)=(l.getD i default):=by
    rw[I3.2,y6l (by omega),if_pos (by omega)]
   exact .finE [.r []] [] (fun z0:Int=>(VI z0,[])) _ _ e1
  ·
   refine .back [.r [(0,X (Xn ((i:Int)+1)))]] [] (ih3 ((i+1):Nat) ?_ ?_)
   ·
    refine⟨by omega,?_⟩
    rw[I3.2,y6l (by omega),if_neg (by omega)]
   ·
    ((try dsimp only);omega)
 ·
  have e2:((orL l):Int)=0:=by
   rw[I3.2,List.drop_eq_nil_of_le (by omega)];rfl
  exact .finE [.r []] [] (fun z0:Int=>(VI z0,[])) _ _ e2
theorem z7F(a b:Cell):FC Tryz.prog 194 [.t (cellT a),.t (cellT b)] (app emp []) (VI (ordC a b)) (app emp []):=by
 refine .go Tryz.f194 ?_
 have e1:((ordC a b):Int)=(orL [(cmpI a.row b.row),(cmpI a.col b.col)]):=by
  rfl
 exact .finE [.r [],.r [(4,X (Xc0 (z7E a.row b.row) X0)),(9,X (Xc0 (z7E a.col b.col) X0)),(11,X (Xc0 (fc_or [(cmpI a.row b.row),(cmpI a.col b.col)]) (rowC intT [(cmpI a.row b.row),(cmpI a.col b.col)] X0)))]] [] (fun z0:Int=>(VI z0,[])) _ _ e1
theorem z7G(c:Cell):FC Tryz.prog 193 [.t (cellT c)] (app emp []) (VB (z1a c)) (app emp []):=by
 refine .go Tryz.f193 ?_
 have e1:((z1a c):Bool)=((seq c.text ({data:=#[]})&&(c.ref==0))&&((c.attrs.length:Int)==0)):=by
  rfl
 exact .finE [.r [],.r [(5,Xv 1 (seq c.text ({data:=#[]})) X0),(6,Xv 1 (seq c.text ({data:=#[]})) X0),(7,X (Xk (seq c.text ({data:=#[]})))),(10,Xv 1 (seq c.text ({data:=#[]})&&(c.ref==0)) X0),(11,Xv 1 (seq c.text ({data:=#[]})&&(c.ref==0)) (Xl attrT c.attrs)),(12,Xv 1 (seq c.text ({data:=#[]})&&(c.ref==0)) X0),(13,X (Xk (seq c.text ({data:=#[]})&&(c.ref==0))))]] [] (fun z0:Bool=>(VB z0,[])) _ _ e1
end Go.Ch
end
section
set_option linter.unusedVariables false
set_option linter.unusedSimpArgs false
set_option maxRecDepth 100000
set_option maxHeartbeats 4000000
open Go Go.Proofs Go.Ab
namespace Go.Ch
theorem z8M(s:ByteArray):FC Tryz.prog 196 [VS s] (app emp []) (VB (z2U s)) (app emp []):=by
 refine .go Tryz.f196 ?_
 refine .bp [.r [],.r [(4,Xv 1 (!(seq s ({data:=#[]}))) X0),(5,Xv 1 (!(seq s ({data:=#[]}))) X0),(6,X (Xk' (seq s ({data:=#[]})))),(10,Xv 1 (!(seq s ({data:=#[]})||decide ((s.size:Int)> 200))) X0),(11,Xv 1 (!(seq s ({data:=#[]})||decide ((s.size:Int)> 200))) (Xn ((s.size:Int)- 1)) (fun hg=>by(try simp only[decide_eq_true_eq,decide_eq_false_iff_not,Int.not_lt,Int.not_le,gt_iff_lt,Bool.not_eq_true',Bool.not_eq_false',Bool.or_eq_true,Bool.or_eq_false_iff] at hg);exact(by have:=z7y hg.1;omega))),(12,Xv 2 (!(seq s ({data:=#[]})||decide ((s.size:Int)> 200))) (Xb s ((s.size:Int)- 1)) (fun hg=>by(try simp only[decide_eq_true_eq,decide_eq_false_iff_not,Int.not_lt,Int.not_le,gt_iff_lt,Bool.not_eq_true',Bool.not_eq_false',Bool.or_eq_true,Bool.or_eq_false_iff] at hg);exact⟨(by have:=z7y hg.1;omega),(by omega)⟩)),(13,Xv 1 (!(seq s ({data:=#[]})||decide ((s.size:Int)> 200))) X0),(14,X (Xk' (seq s ({data:=#[]})||decide ((s.size:Int)> 200))))]] ((seq s ({data:=#[]})||decide ((s.size:Int)> 200))|| (((((s[(Int.toNat ((s.size:Int)- 1))]?).getD 0).toNat:Nat):Int)==97)) (fun h1=> ?_) (fun h1=> ?_)
 ·
  have e1:((z2U s):Bool)=false:=by
   have hs:((s.size:Int)- 1).toNat=s.size- 1:=by omega
   rw[hs] at h1;simp only[byt0,z2T,decide_eq_true_eq] at h1;unfold z2U;rw[decide_eq_false (fun q=>by omega)];rfl
  exact .finE [.r []] [] (fun z0:Bool=>(VB z0,[])) _ _ e1
 ·
  refine .loop (α:=Nat) [.r []] 152 (fun i=>([(0,VS s),(20,VI (s.size:Int)),(21,VI (i:Int))],[])) (fun i=>i≤s.size∧plS s 0=plS s i) (fun i=>s.size-i) (0:Nat) ?_ ?_
  ·
   exact⟨by omega,rfl⟩
  rintro i I4 ih4
  try dsimp only at I4
  refine .bp [.r []] (decide ((i:Int)< (s.size:Int))) (fun h4=> ?_) (fun h4=> ?_)
  ·
   refine .bp [.r [],.r [(2,X (Xb s (i:Int))),(7,Xv 2 (!(decide (((((s[i]?).getD 0).toNat:Nat):Int)< 97))) (Xb s (i:Int))),(8,Xv 1 (!(decide (((((s[i]?).getD 0).toNat:Nat):Int)< 97))) X0),(9,X (Xk' (decide (((((s[i]?).getD 0).toNat:Nat):Int)< 97))))]] (decide (((((s[i]?).getD 0).toNat:Nat):Int)< 97)||decide (((((s[i]?).getD 0).toNat:Nat):Int)> 122)) (fun h6=> ?_) (fun h6=> ?_)
   ·
    have e2:((z2U s):Bool)=false:=by
     simp only[byt0] at h6;unfold z2U;rw[I4.2,plS,if_pos (by omega),if_pos (by omega)];simp
    exact .finE [.r []] [] (fun z0:Bool=>(VB z0,[])) _ _ e2
   ·
    refine .back [.r [(0,X (Xn ((i:Int)+1)))]] [] (ih4 ((i+1):Nat) ?_ ?_)
    ·
     simp only[byt0] at h6;refine⟨by omega,?_⟩;rw[I4.2,plS,if_pos (by omega),if_neg (by omega)]
    ·
     ((try dsimp only);omega)
  ·
   have e3:((z2U s):Bool)=true:=by
    have hs:((s.size:Int)- 1).toNat=s.size- 1:=by omega
    rw[hs] at h1;simp only[byt0,z2T,decide_eq_false_iff_not] at h1;unfold z2U;rw[I4.2,plS,if_neg (by omega),decide_eq_true (by omega)];rfl
   exact .finE [.r []] [] (fun z0:Bool=>(VB z0,[])) _ _ e3
theorem z5W(a b:DOp):FC Tryz.prog 136 [.t (dopT a),.t (dopT b)] (app emp []) (VI (z4U a b)) (app emp []):=by
 refine .go Tryz.f136 ?_
 have e1:((z4U a b):Int)=(orL [(cmpI a.clock b.clock),(cmpI a.site b.site)]):=by
  rfl
 exact .finE [.r [],.r [(4,X (Xc0 (z7E a.clock b.clock) X0)),(9,X (Xc0 (z7E a.site b.site) X0)),(11,X (Xc0 (fc_or [(cmpI a.clock b.clock),(cmpI a.site b.site)]) (rowC intT [(cmpI a.clock b.clock),(cmpI a.site b.site)] X0)))]] [] (fun z0:Int=>(VI z0,[])) _ _ e1
theorem fc_op(o:DOp):FC Tryz.prog 163 [.t (dopT o)] (app emp []) (VI (opE o)) (app emp []):=by
 refine .go Tryz.f163 ?_
 refine .bp [.r [],.r [(5,Xv 1 (o.kind !=0) X0),(6,Xv 1 (o.kind !=0) X0),(7,X (Xk (o.kind !=0)))]] ((o.kind !=0)&&(o.kind !=1)) (fun h1=> ?_) (fun h1=> ?_)
 ·
  have e1:((opE o):Int)=8:=by
   unfold opE
   (repeat' split)<;>first|rfl| (exfalso;omega)| (exfalso;simp_all;done)| (exfalso;simp_all;omega)|grind
  exact .finE [.r []] [] (fun z0:Int=>(VI z0,[])) _ _ e1
 ·
  refine .bp [.r [(5,Xv 1 (!(decide (o.clock<1))) X0),(6,Xv 1 (!(decide (o.clock<1))) X0),(7,X (Xk' (decide (o.clock<1)))),(10,Xv 1 (!(decide (o.clock<1)||decide (o.clock>1073741824))) X0),(11,Xv 1 (!(decide (o.clock<1)||decide (o.clock>1073741824))) X0),(12,X (Xk' (decide (o.clock<1)||decide (o.clock>1073741824)))),(15,Xv 1 (!((decide (o.clock<1)||decide (o.clock>1073741824))||decide (o.site<0))) X0),(16,Xv 1 (!((decide (o.clock<1)||decide (o.clock>1073741824))||decide (o.site<0))) X0),(17,X (Xk' ((decide (o.clock<1)||decide (o.clock>1073741824))||decide (o.site<0)))),(20,Xv 1 (!(((decide (o.clock<1)||decide (o.clock>1073741824))||decide (o.site<0))||decide (o.site>1000))) X0),(21,Xv 1 (!(((decide (o.clock<1)||decide (o.clock>1073741824))||decide (o.site<0))||decide (o.site>1000))) X0),(22,X (Xk' (((decide (o.clock<1)||decide (o.clock>1073741824))||decide (o.site<0))||decide (o.site>1000)))),(25,Xv 1 (!((((decide (o.clock<1)||decide (o.clock>1073741824))||decide (o.site<0))||decide (o.site>1000))||decide (o.itm<1))) X0),(26,Xv 1 (!((((decide (o.clock<1)||decide (o.clock>1073741824))||decide (o.site<0))||decide (o.site>1000))||decide (o.itm<1))) X0),(27,X (Xk' ((((decide (o.clock<1)||decide (o.clock>1073741824))||decide (o.site<0))||decide (o.site>1000))||decide (o.itm<1))))]] (((((decide (o.clock<1)||decide (o.clock>1073741824))||decide (o.site<0))||decide (o.site>1000))||decide (o.itm<1))||decide (o.itm>1073741824)) (fun h3=> ?_) (fun h3=> ?_)
  ·
   have e2:((opE o):Int)=2:=by
    unfold opE
    (repeat' split)<;>first|rfl| (exfalso;omega)| (exfalso;simp_all;done)| (exfalso;simp_all;omega)|grind
   exact .finE [.r []] [] (fun z0:Int=>(VI z0,[])) _ _ e2
  ·
   refine .bp [.r [(5,Xv 1 (o.kind==0) X0),(6,Xv 1 (o.kind==0) X0),(7,Xv 1 (o.kind==0) X0),(9,Xv 1 ((o.kind==0)&& !(!(seq o.nm ({data:=#[]})))) X0),(10,Xv 1 ((o.kind==0)&& !(!(seq o.nm ({data:=#[]})))) X0),(11,Xko (o.kind==0) (!(seq o.nm ({data:=#[]})))),(12,X (Xk (o.kind==0)))]] ((o.kind==0)&&(!(seq o.nm ({data:=#[]}))|| !(seq o.vl ({data:=#[]})))) (fun h5=> ?_) (fun h5=> ?_)
   ·
    refine .bp [] ((o.kind==0)&&(!(seq o.nm ({data:=#[]}))|| !(seq o.vl ({data:=#[]})))) (fun h5=> ?_) (fun h5=> ?_)
    ·
     have e3:((opE o):Int)=4:=by
      unfold opE
      (repeat' split)<;>first|rfl| (exfalso;omega)| (exfalso;simp_all;done)| (exfalso;simp_all;omega)|grind
     exact .finE [.r []] [] (fun z0:Int=>(VI z0,[])) _ _ e3
    ·
     refine .bp [.r [(5,Xv 1 (o.kind==0) X0),(6,Xv 1 (o.kind==0) X0),(7,Xv 1 (o.kind==0) X0),(9,Xv 1 ((o.kind==0)&& !(decide (o.prt< (-1)))) X0),(10,Xv 1 ((o.kind==0)&& !(decide (o.prt< (-1)))) X0),(11,Xko (o.kind==0) (decide (o.prt< (-1)))),(12,X (Xk (o.kind==0)))]] ((o.kind==0)&&(decide (o.prt< (-1))||decide (o.prt>1073741824))) (fun h8=> ?_) (fun h8=> ?_)
     ·
      have e4:((opE o):Int)=2:=by
       unfold opE
       (repeat' split)<;>first|rfl| (exfalso;omega)| (exfalso;simp_all;done)| (exfalso;simp_all;omega)|grind
      exact .finE [.r []] [] (fun z0:Int=>(VI z0,[])) _ _ e4
     ·
      refine .bp [.r [(5,Xv 1 (o.kind==0) X0),(6,Xv 1 (o.kind==0) (Xc0 (z8M o.plc) X0)),(7,Xv 1 (o.kind==0) X0),(8,X (Xk (o.kind==0)))]] ((o.kind==0)&& !(z2U o.plc)) (fun h10=> ?_) (fun h10=> ?_)
      ·
       refine .bp [] ((o.kind==0)&& !(z2U o.plc)) (fun h10=> ?_) (fun h10=> ?_)
       ·
        have e5:((opE o):Int)=9:=by
         unfold opE
         (repeat' split)<;>first|rfl| (exfalso;omega)| (exfalso;simp_all;done)| (exfalso;simp_all;omega)|grind
        exact .finE [.r []] [] (fun z0:Int=>(VI z0,[])) _ _ e5
       ·
        refine .bp [.r [(5,Xv 1 (o.kind==1) X0),(6,Xv 1 (o.kind==1) X0),(7,X (Xk (o.kind==1))),(10,Xv 1 ((o.kind==1)&& !(seq o.vl ({data:=#[]}))) X0),(11,Xv 1 ((o.kind==1)&& !(seq o.vl ({data:=#[]}))) (Xc0 (z3h o.vl) X0)),(12,Xv 1 ((o.kind==1)&& !(seq o.vl ({data:=#[]}))) X0),(13,X (Xk ((o.kind==1)&& !(seq o.vl ({data:=#[]})))))]] (((o.kind==1)&& !(seq o.vl ({data:=#[]})))&& !(valGo o.vl)) (fun h13=> ?_) (fun h13=> ?_)
        ·
         have e6:((opE o):Int)=23:=by
          unfold opE
          (repeat' split)<;>first|rfl| (exfalso;omega)| (exfalso;simp_all;done)| (exfalso;simp_all;omega)|grind
         exact .finE [.r []] [] (fun z0:Int=>(VI z0,[])) _ _ e6
        ·
         have e7:((opE o):Int)=0:=by
          unfold opE
          (repeat' split)<;>first|rfl| (exfalso;omega)| (exfalso;simp_all;done)| (exfalso;simp_all;omega)|grind
         exact .finE [.r []] [] (fun z0:Int=>(VI z0,[])) _ _ e7
      ·
       refine .bp [.r [(5,Xv 1 (o.kind==1) X0),(6,Xv 1 (o.kind==1) (Xc0 (z9M o.nm) X0)),(7,Xv 1 (o.kind==1) X0),(8,X (Xk (o.kind==1)))]] ((o.kind==1)&& !(z1d o.nm)) (fun h11=> ?_) (fun h11=> ?_)
       ·
        have e8:((opE o):Int)=9:=by
         unfold opE
         (repeat' split)<;>first|rfl| (exfalso;omega)| (exfalso;simp_all;done)| (exfalso;simp_all;omega)|grind
        exact .finE [.r []] [] (fun z0:Int=>(VI z0,[])) _ _ e8
       ·
        refine .bp [.r [(5,Xv 1 (o.kind==1) X0),(6,Xv 1 (o.kind==1) X0),(7,X (Xk (o.kind==1))),(10,Xv 1 ((o.kind==1)&& !(seq o.vl ({data:=#[]}))) X0),(11,Xv 1 ((o.kind==1)&& !(seq o.vl ({data:=#[]}))) (Xc0 (z3h o.vl) X0)),(12,Xv 1 ((o.kind==1)&& !(seq o.vl ({data:=#[]}))) X0),(13,X (Xk ((o.kind==1)&& !(seq o.vl ({data:=#[]})))))]] (((o.kind==1)&& !(seq o.vl ({data:=#[]})))&& !(valGo o.vl)) (fun h13=> ?_) (fun h13=> ?_)
        ·
         have e9:((opE o):Int)=23:=by
          unfold opE
          (repeat' split)<;>first|rfl| (exfalso;omega)| (exfalso;simp_all;done)| (exfalso;simp_all;omega)|grind
         exact .finE [.r []] [] (fun z0:Int=>(VI z0,[])) _ _ e9
        ·
         have e10:((opE o):Int)=0:=by
          unfold opE
          (repeat' split)<;>first|rfl| (exfalso;omega)| (exfalso;simp_all;done)| (exfalso;simp_all;omega)|grind
         exact .finE [.r []] [] (fun z0:Int=>(VI z0,[])) _ _ e10
   ·
    refine .bp [.r [(5,Xv 1 (o.kind==1) X0),(6,Xv 1 (o.kind==1) X0),(7,Xv 1 (o.kind==1) X0),(9,Xv 1 ((o.kind==1)&& !(o.prt !=0)) X0),(10,Xv 1 ((o.kind==1)&& !(o.prt !=0)) X0),(11,Xko (o.kind==1) (o.prt !=0)),(12,X (Xk (o.kind==1)))]] ((o.kind==1)&&((o.prt !=0)|| !(seq o.plc ({data:=#[]})))) (fun h6=> ?_) (fun h6=> ?_)
    ·
     have e11:((opE o):Int)=4:=by
      unfold opE
      (repeat' split)<;>first|rfl| (exfalso;omega)| (exfalso;simp_all;done)| (exfalso;simp_all;omega)|grind
     exact .finE [.r []] [] (fun z0:Int=>(VI z0,[])) _ _ e11
    ·
     refine .bp [.r [(5,Xv 1 (o.kind==0) X0),(6,Xv 1 (o.kind==0) X0),(7,Xv 1 (o.kind==0) X0),(9,Xv 1 ((o.kind==0)&& !(decide (o.prt< (-1)))) X0),(10,Xv 1 ((o.kind==0)&& !(decide (o.prt< (-1)))) X0),(11,Xko (o.kind==0) (decide (o.prt< (-1)))),(12,X (Xk (o.kind==0)))]] ((o.kind==0)&&(decide (o.prt< (-1))||decide (o.prt>1073741824))) (fun h8=> ?_) (fun h8=> ?_)
     ·
      have e12:((opE o):Int)=2:=by
       unfold opE
       (repeat' split)<;>first|rfl| (exfalso;omega)| (exfalso;simp_all;done)| (exfalso;simp_all;omega)|grind
      exact .finE [.r []] [] (fun z0:Int=>(VI z0,[])) _ _ e12
     ·
      refine .bp [.r [(5,Xv 1 (o.kind==0) X0),(6,Xv 1 (o.kind==0) (Xc0 (z8M o.plc) X0)),(7,Xv 1 (o.kind==0) X0),(8,X (Xk (o.kind==0)))]] ((o.kind==0)&& !(z2U o.plc)) (fun h10=> ?_) (fun h10=> ?_)
      ·
       refine .bp [] ((o.kind==0)&& !(z2U o.plc)) (fun h10=> ?_) (fun h10=> ?_)
       ·
        have e13:((opE o):Int)=9:=by
         unfold opE
         (repeat' split)<;>first|rfl| (exfalso;omega)| (exfalso;simp_all;done)| (exfalso;simp_all;omega)|grind
        exact .finE [.r []] [] (fun z0:Int=>(VI z0,[])) _ _ e13
       ·
        refine .bp [.r [(5,Xv 1 (o.kind==1) X0),(6,Xv 1 (o.kind==1) X0),(7,X (Xk (o.kind==1))),(10,Xv 1 ((o.kind==1)&& !(seq o.vl ({data:=#[]}))) X0),(11,Xv 1 ((o.kind==1)&& !(seq o.vl ({data:=#[]}))) (Xc0 (z3h o.vl) X0)),(12,Xv 1 ((o.kind==1)&& !(seq o.vl ({data:=#[]}))) X0),(13,X (Xk ((o.kind==1)&& !(seq o.vl ({data:=#[]})))))]] (((o.kind==1)&& !(seq o.vl ({data:=#[]})))&& !(valGo o.vl)) (fun h13=> ?_) (fun h13=> ?_)
        ·
         have e14:((opE o):Int)=23:=by
          unfold opE
          (repeat' split)<;>first|rfl| (exfalso;omega)| (exfalso;simp_all;done)| (exfalso;simp_all;omega)|grind
         exact .finE [.r []] [] (fun z0:Int=>(VI z0,[])) _ _ e14
        ·
         have e15:((opE o):Int)=0:=by
          unfold opE
          (repeat' split)<;>first|rfl| (exfalso;omega)| (exfalso;simp_all;done)| (exfalso;simp_all;omega)|grind
         exact .finE [.r []] [] (fun z0:Int=>(VI z0,[])) _ _ e15
      ·
       refine .bp [.r [(5,Xv 1 (o.kind==1) X0),(6,Xv 1 (o.kind==1) (Xc0 (z9M o.nm) X0)),(7,Xv 1 (o.kind==1) X0),(8,X (Xk (o.kind==1)))]] ((o.kind==1)&& !(z1d o.nm)) (fun h11=> ?_) (fun h11=> ?_)
       ·
        have e16:((opE o):Int)=9:=by
         unfold opE
         (repeat' split)<;>first|rfl| (exfalso;omega)| (exfalso;simp_all;done)| (exfalso;simp_all;omega)|grind
        exact .finE [.r []] [] (fun z0:Int=>(VI z0,[])) _ _ e16
       ·
        refine .bp [.r [(5,Xv 1 (o.kind==1) X0),(6,Xv 1 (o.kind==1) X0),(7,X (Xk (o.kind==1))),(10,Xv 1 ((o.kind==1)&& !(seq o.vl ({data:=#[]}))) X0),(11,Xv 1 ((o.kind==1)&& !(seq o.vl ({data:=#[]}))) (Xc0 (z3h o.vl) X0)),(12,Xv 1 ((o.kind==1)&& !(seq o.vl ({data:=#[]}))) X0),(13,X (Xk ((o.kind==1)&& !(seq o.vl ({data:=#[]})))))]] (((o.kind==1)&& !(seq o.vl ({data:=#[]})))&& !(valGo o.vl)) (fun h13=> ?_) (fun h13=> ?_)
        ·
         have e17:((opE o):Int)=23:=by
          unfold opE
          (repeat' split)<;>first|rfl| (exfalso;omega)| (exfalso;simp_all;done)| (exfalso;simp_all;omega)|grind
         exact .finE [.r []] [] (fun z0:Int=>(VI z0,[])) _ _ e17
        ·
         have e18:((opE o):Int)=0:=by
          unfold opE
          (repeat' split)<;>first|rfl| (exfalso;omega)| (exfalso;simp_all;done)| (exfalso;simp_all;omega)|grind
         exact .finE [.r []] [] (fun z0:Int=>(VI z0,[])) _ _ e18
theorem z8N(l:List DOp):FC Tryz.prog 122 [VL 8 dopT l] (app emp []) (VI (drawE l 0)) (app emp []):=by
 refine .go Tryz.f122 ?_
 refine .len 0 (fun hl0=> ?_)
 refine .loop (α:=Nat) [.r [],.r [(1,X (Xl dopT l))]] 32 (fun i=>([(0,VL 8 dopT l),(6,VL 8 dopT l),(7,VI (l.length:Int)),(8,VI (i:Int))],[])) (fun i=>i≤l.length∧drawE l 0=drawE l i) (fun i=>l.length-i) (0:Nat) ?_ ?_
 ·
  exact⟨by omega,rfl⟩
 rintro i I2 ih2
 try dsimp only at I2
 refine .bp [.r []] (decide ((i:Int)< (l.length:Int))) (fun h2=> ?_) (fun h2=> ?_)
 ·
  refine .bp [.r [(1,X (Xi dopT l (i:Int)))],.r [(1,X (Xc0 (fc_op ((l.getD i default))) X0))],.r []] ((opE ((l.getD i default))) !=0) (fun h5=> ?_) (fun h5=> ?_)
  ·
   have e1:((drawE l 0):Int)=(opE ((l.getD i default))):=by
    rw[I2.2,drawE,if_pos (by omega),if_pos h5]
   exact .finE [.r []] [] (fun z0:Int=>(VI z0,[])) _ _ e1
  ·
   refine .bp [.r [(5,Xv 1 (decide ((i:Int)> 0)) (Xn ((i:Int)- 1))),(6,Xv 2 (decide ((i:Int)> 0)) (Xi' dopT l ((i:Int)- 1) (i- 1))),(7,Xv 1 (decide ((i:Int)> 0)) X0),(9,Xv 2 (decide ((i:Int)> 0)) (Xc0 (z5W ((l.getD (i- 1) default)) ((l.getD i default))) X0)),(10,Xv 1 (decide ((i:Int)> 0)) X0),(11,X (Xk (decide ((i:Int)> 0))))]] (decide ((i:Int)> 0)&&decide ((z4U ((l.getD (i- 1) default)) ((l.getD i default)))≥0)) (fun h7=> ?_) (fun h7=> ?_)
   ·
    have e2:((drawE l 0):Int)=5:=by
     rw[I2.2,drawE,if_pos (by omega),if_neg (by rw[h5];decide),if_pos ⟨by omega,by rw[←z8B];exact h7.2⟩]
    exact .finE [.r []] [] (fun z0:Int=>(VI z0,[])) _ _ e2
   ·
    refine .back [.r [(0,X (Xn ((i:Int)+1)))]] [] (ih2 ((i+1):Nat) ?_ ?_)
    ·
     refine⟨by omega,?_⟩;rw[I2.2,drawE,if_pos (by omega),if_neg (by rw[h5];decide),if_neg (by rw[←z8B];clear ih2;rintro⟨a,b⟩;rcases h7 with h|h<;>omega)]
    ·
     ((try dsimp only);omega)
 ·
  have e3:((drawE l 0):Int)=0:=by
   rw[I2.2,drawE,if_neg (by omega)]
  exact .finE [.r []] [] (fun z0:Int=>(VI z0,[])) _ _ e3
theorem y5o(a b:List DOp)(hn:a.length+b.length≤1099511627776):FC Tryz.prog 80 [VL 8 dopT a,VL 8 dopT b] (app emp []) (.tup [VL 8 dopT ((z0w a b).getD []),VI (if(z0w a b).isSome then(0:Int) else 6)]) (app emp []):=by
 refine .go Tryz.f80 ?_
 refine .len 0 (fun hl0=> ?_)
 refine .len 1 (fun hl1=> ?_)
 refine .loop (α:=(List DOp)×(List DOp)×(List DOp)) [.r [],.r [],.le (.nR 6 8)] 25 (fun(x,y,o)=>([(0,VL 8 dopT x),(1,VL 8 dopT y),(6,.row 24 o.length)],[(24,OR 8 dopT o)])) (fun(x,y,o)=>o.length+x.length+y.length≤a.length+b.length∧z0w a b=(z0w x y).map (o++ ·)) (fun(x,y,o)=>x.length+y.length) (a,b,[]) ?_ ?_
 ·
  exact⟨by simp,by simp⟩
 rintro⟨x,y,o⟩ I2 ih2
 try dsimp only at I2
 refine .bp [.r [(1,X (Xl dopT x)),(5,Xv 1 (!(decide ((x.length:Int)> 0))) (Xl dopT y)),(6,Xv 1 (!(decide ((x.length:Int)> 0))) X0),(7,X (Xk' (decide ((x.length:Int)> 0))))]] (decide ((x.length:Int)> 0)||decide ((y.length:Int)> 0)) (fun h2=> ?_) (fun h2=> ?_)
 ·
  have hxy:=h2
  refine .bp [.r [(1,X (Xl dopT y)),(5,Xv 1 (!((y.length:Int)==0)) (Xl dopT x)),(6,Xv 1 (!((y.length:Int)==0)) X0),(7,Xv 1 (!((y.length:Int)==0)) X0),(9,Xv 1 ((!((y.length:Int)==0))&&(decide ((x.length:Int)> 0))) (Xi dopT x 0) (fun hg=>by(try simp only[decide_eq_true_eq,decide_eq_false_iff_not,Int.not_lt,Int.not_le,gt_iff_lt,Bool.not_eq_true',Bool.not_eq_false',Bool.and_eq_true,Bool.and_eq_false_iff,beq_iff_eq,beq_eq_false_iff_ne,ne_eq] at hg);exact⟨(by omega),(by omega)⟩)),(10,Xv 1 ((!((y.length:Int)==0))&&(decide ((x.length:Int)> 0))) X0),(12,Xv 1 ((!((y.length:Int)==0))&&(decide ((x.length:Int)> 0))) (Xi dopT y 0) (fun hg=>by(try simp only[decide_eq_true_eq,decide_eq_false_iff_not,Int.not_lt,Int.not_le,gt_iff_lt,Bool.not_eq_true',Bool.not_eq_false',Bool.and_eq_true,Bool.and_eq_false_iff,beq_iff_eq,beq_eq_false_iff_ne,ne_eq] at hg);exact⟨(by omega),(by omega)⟩)),(13,Xv 1 ((!((y.length:Int)==0))&&(decide ((x.length:Int)> 0))) X0),(14,Xv 2 ((!((y.length:Int)==0))&&(decide ((x.length:Int)> 0))) (Xc0 (z5W ((x.getD 0 default)) ((y.getD 0 default))) X0)),(15,Xv 1 ((!((y.length:Int)==0))&&(decide ((x.length:Int)> 0))) X0),(16,Xka (!((y.length:Int)==0)) (decide ((x.length:Int)> 0))),(17,X (Xk' ((y.length:Int)==0)))]] (((y.length:Int)==0)|| (decide ((x.length:Int)> 0)&&decide ((z4U ((x.getD 0 default)) ((y.getD 0 default)))< 0))) (fun h4=> ?_) (fun h4=> ?_)
  ·
   refine .back [.r [(2,X (Xi dopT x 0)),(5,X (rowC dopT [((x.getD 0 default))] (Xap 8 dopT 24 o [((x.getD 0 default))]))),(7,X (Xsd dopT 8 x 1))]] [(24,24)] (ih2 ((x.drop 1),y,(o++[((x.getD 0 default))])) ?_ ?_)
   ·
    have hl:y.length=0∨ltO (x.getD 0 default) (y.getD 0 default):=by(rw[←z26];omega)
    refine⟨by simp;omega,?_⟩
    rw[I2.2,z9O (by omega) hl,Option.map_map];congr 1;funext z;simp
   ·
    (try dsimp only);simp;omega
  ·
   refine .bp [.r [(1,X (Xl dopT x)),(5,Xv 1 (!((x.length:Int)==0)) (Xi dopT y 0) (fun hg=>by(try simp only[Bool.not_eq_true',Bool.not_eq_false',beq_iff_eq,beq_eq_false_iff_ne,ne_eq] at hg);exact⟨(by omega),(by omega)⟩)),(6,Xv 1 (!((x.length:Int)==0)) X0),(8,Xv 1 (!((x.length:Int)==0)) (Xi dopT x 0) (fun hg=>by(try simp only[Bool.not_eq_true',Bool.not_eq_false',beq_iff_eq,beq_eq_false_iff_ne,ne_eq] at hg);exact⟨(by omega),(by omega)⟩)),(9,Xv 1 (!((x.length:Int)==0)) X0),(10,Xv 2 (!((x.length:Int)==0)) (Xc0 (z5W ((y.getD 0 default)) ((x.getD 0 default))) X0)),(11,Xv 1 (!((x.length:Int)==0)) X0),(12,X (Xk' ((x.length:Int)==0)))]] (((x.length:Int)==0)||decide ((z4U ((y.getD 0 default)) ((x.getD 0 default)))< 0)) (fun h6=> ?_) (fun h6=> ?_)
   ·
    refine .back [.r [(2,X (Xi dopT y 0)),(5,X (rowC dopT [((y.getD 0 default))] (Xap 8 dopT 24 o [((y.getD 0 default))]))),(7,X (Xsd dopT 8 y 1))]] [(24,24)] (ih2 (x,(y.drop 1),(o++[((y.getD 0 default))])) ?_ ?_)
    ·
     have hl:x.length=0∨ltO (y.getD 0 default) (x.getD 0 default):=by(rw[←z26];omega)
     refine⟨by simp;omega,?_⟩
     rw[I2.2,z8C (by omega) hl,Option.map_map];congr 1;funext z;simp
    ·
     (try dsimp only);simp;omega
   ·
    have hx0:0<x.length:=by omega
    have hy0:0<y.length:=by omega
    have n1:¬ltO (x.getD 0 default) (y.getD 0 default):=by(rw[←z26];omega)
    have n2:¬ltO (y.getD 0 default) (x.getD 0 default):=by(rw[←z26];omega)
    have hu:=z9P hx0 hy0 n1 n2
    refine .bp [.r [(1,X (Xi dopT x 0)),(4,X (Xi dopT y 0))]] (!((((x.getD 0 default)).clock)==(((y.getD 0 default)).clock)&&((((x.getD 0 default)).site)==(((y.getD 0 default)).site)&&((((x.getD 0 default)).kind)==(((y.getD 0 default)).kind)&&((((x.getD 0 default)).itm)==(((y.getD 0 default)).itm)&&((((x.getD 0 default)).prt)==(((y.getD 0 default)).prt)&&(seq (((x.getD 0 default)).plc) (((y.getD 0 default)).plc)&&(seq (((x.getD 0 default)).nm) (((y.getD 0 default)).nm)&&(seq (((x.getD 0 default)).vl) (((y.getD 0 default)).vl)&&true))))))))) (fun h8=> ?_) (fun h8=> ?_)
    ·
     have e1:(((z0w a b).getD []):List DOp)=[]:=by
      have hne:¬x.getD 0 default=y.getD 0 default:=by
       intro e
       have s0:∀s,seq s s=true:=fun s=>z0x.2 rfl
       rw[e] at h8
       simp[s0] at h8
      rw[I2.2,hu,if_neg hne];rfl
     have e2:((if(z0w a b).isSome then(0:Int) else 6):Int)=6:=by
      have hne:¬x.getD 0 default=y.getD 0 default:=by
       intro e
       have s0:∀s,seq s s=true:=fun s=>z0x.2 rfl
       rw[e] at h8
       simp[s0] at h8
      rw[I2.2,hu,if_neg hne];rfl
     exact .finE [.r [],.le (.nL 4 8)] [] (fun((z0,z1):(List DOp)×Int)=>(.tup [VL 8 dopT z0,VI z1],[])) _ _ (pr e1 e2)
    ·
     refine .back [.r [(2,X (Xi dopT x 0)),(5,X (rowC dopT [((x.getD 0 default))] (Xap 8 dopT 24 o [((x.getD 0 default))]))),(7,X (Xsd dopT 8 x 1)),(9,X (Xsd dopT 8 y 1))]] [(24,24)] (ih2 ((x.drop 1),(y.drop 1),(o++[((x.getD 0 default))])) ?_ ?_)
     ·
      obtain⟨q1,q2,q3,q4,q5,q6,q7,q8,-⟩:=h8
      rw[z0x] at q6 q7 q8
      refine⟨by simp;omega,?_⟩
      rw[I2.2,hu,if_pos (y69 q1 q2 q3 q4 q5 q6 q7 q8),Option.map_map];congr 1;funext z;simp
     ·
      (try dsimp only);simp;omega
 ·
  have e3:(((z0w a b).getD []):List DOp)=o:=by
   have hx0:x=[]:=List.eq_nil_of_length_eq_zero (by omega)
   have hy0:y=[]:=List.eq_nil_of_length_eq_zero (by omega)
   rw[I2.2,hx0,hy0];simp[z0w]
  have e4:((if(z0w a b).isSome then(0:Int) else 6):Int)=0:=by
   have hx0:x=[]:=List.eq_nil_of_length_eq_zero (by omega)
   have hy0:y=[]:=List.eq_nil_of_length_eq_zero (by omega)
   rw[I2.2,hx0,hy0];simp[z0w]
  exact .finE [.r [],.le (.fr 4 [(o.length:Nat)=(List.map dopT o).length] ⟨lm,trivial⟩)] [] (fun((z0,z1):(List DOp)×Int)=>(.tup [VL 8 dopT z0,VI z1],[])) _ _ (pr e3 e4)
end Go.Ch
end
section
set_option linter.unusedVariables false
set_option linter.unusedSimpArgs false
set_option maxRecDepth 100000
set_option maxHeartbeats 4000000
open Go Go.Proofs Go.Ab
namespace Go.Ch
theorem y5p(l:List AxStep)(p:Int)(hv:Valid l)(hp:0≤p∧p≤2147483647):FC Tryz.prog 219 [VL 2 stepT l,VI p] (app emp []) (VI (z0q l p 0 0)) (app emp []):=by
 refine .go Tryz.f219 ?_
 refine .len 0 (fun hl0=> ?_)
 have ca:=z27.2 hv
 have hv1:oldI l≤2147483647:=by have:=hv.2.1;unfold oldI;omega
 have hv2:newI l≤2147483647:=by have:=hv.2.2;unfold newI;omega
 have o0:0≤oldI l:=by unfold oldI;omega
 have o1:0≤newI l:=by unfold newI;omega
 refine .loop (α:=Int×Int×Nat) [.r [],.r [],.r [(1,X (Xl stepT l))]] 48 (fun(fr,tq,i)=>([(1,VI p),(5,VI fr),(6,VI tq),(9,VL 2 stepT l),(10,VI (l.length:Int)),(11,VI (i:Int))],[])) (fun(fr,tq,i)=>i≤l.length∧0≤fr∧0≤tq∧fr+oldU (ex (l.drop i))=oldI l∧tq+newU (ex (l.drop i))=newI l∧fr≤p∧z0q l p 0 0=z0q (l.drop i) p fr tq) (fun(fr,tq,i)=>l.length-i) (0,0,0) ?_ ?_
 ·
  exact⟨by omega,by decide,by decide,by simp[oldI],by simp[newI],by omega,rfl⟩
 rintro⟨fr,tq,i⟩ I3 ih3
 try dsimp only at I3
 refine .bp [.r []] (decide ((i:Int)< (l.length:Int))) (fun h3=> ?_) (fun h3=> ?_)
 ·
  have hst:=z8H (l:=l) (i:=i) (by omega) hv.1
  have hd:=z7z (l:=l) (i:=i) (by omega)
  refine .bp [.r [(0,X (Xi stepT l (i:Int)))],.r [],.r []] ((((l.getD i default)).kind)==1) (fun h8=> ?_) (fun h8=> ?_)
  ·
   refine .back [.r [(3,X (Xn (tq+(((l.getD i default)).n))))],.r [(0,X (Xn ((i:Int)+1)))]] [] (ih3 (fr,(tq+(((l.getD i default)).n)),(i+1)) ?_ ?_)
   ·
    obtain⟨s1,s2,s3,s4,s5⟩:=hst
    (first|rw[if_pos (by omega)] at s1|rw[if_neg (by omega)] at s1)
    (first|rw[if_pos (by omega)] at s2|rw[if_neg (by omega)] at s2)
    refine⟨by omega,by omega,by omega,by omega,by omega,by omega,?_⟩
    rw[I3.2.2.2.2.2.2,hd,z0q]
    ((repeat' split)<;>first|rfl|omega)
   ·
    ((try dsimp only);omega)
  ·
   refine .bp [.r []] ((((l.getD i default)).kind)==0) (fun h10=> ?_) (fun h10=> ?_)
   ·
    refine .bp [.r [(4,X (Xn (fr+(((l.getD i default)).n))))]] (decide (p< (fr+(((l.getD i default)).n)))) (fun h11=> ?_) (fun h11=> ?_)
    ·
     have e1:((z0q l p 0 0):Int)=((tq+p)- fr):=by
      first| (rw[I3.2.2.2.2.2.2,z33 (by omega)];rfl)| (rw[I3.2.2.2.2.2.2,hd,z0q];((repeat' split)<;>first|rfl|omega))
     exact .finE [.r [(2,X (Xn (tq+p))),(4,X (Xn ((tq+p)- fr)))]] [] (fun z0:Int=>(VI z0,[])) _ _ e1
    ·
     refine .back [.r [(3,X (Xn (tq+(((l.getD i default)).n))))],.r [(3,X (Xn (fr+(((l.getD i default)).n))))],.r [(0,X (Xn ((i:Int)+1)))]] [] (ih3 ((fr+(((l.getD i default)).n)),(tq+(((l.getD i default)).n)),(i+1)) ?_ ?_)
     ·
      obtain⟨s1,s2,s3,s4,s5⟩:=hst
      (first|rw[if_pos (by omega)] at s1|rw[if_neg (by omega)] at s1)
      (first|rw[if_pos (by omega)] at s2|rw[if_neg (by omega)] at s2)
      refine⟨by omega,by omega,by omega,by omega,by omega,by omega,?_⟩
      rw[I3.2.2.2.2.2.2,hd,z0q]
      ((repeat' split)<;>first|rfl|omega)
     ·
      ((try dsimp only);omega)
   ·
    refine .bp [.r [(4,X (Xn (fr+(((l.getD i default)).n))))]] (decide (p< (fr+(((l.getD i default)).n)))) (fun h6=> ?_) (fun h6=> ?_)
    ·
     have e2:((z0q l p 0 0):Int)= -1:=by
      first| (rw[I3.2.2.2.2.2.2,z33 (by omega)];rfl)| (rw[I3.2.2.2.2.2.2,hd,z0q];((repeat' split)<;>first|rfl|omega))
     exact .finE [.r []] [] (fun z0:Int=>(VI z0,[])) _ _ e2
    ·
     refine .back [.r [(3,X (Xn (fr+(((l.getD i default)).n))))],.r [(0,X (Xn ((i:Int)+1)))]] [] (ih3 ((fr+(((l.getD i default)).n)),tq,(i+1)) ?_ ?_)
     ·
      obtain⟨s1,s2,s3,s4,s5⟩:=hst
      (first|rw[if_pos (by omega)] at s1|rw[if_neg (by omega)] at s1)
      (first|rw[if_pos (by omega)] at s2|rw[if_neg (by omega)] at s2)
      refine⟨by omega,by omega,by omega,by omega,by omega,by omega,?_⟩
      rw[I3.2.2.2.2.2.2,hd,z0q]
      ((repeat' split)<;>first|rfl|omega)
     ·
      ((try dsimp only);omega)
 ·
  have e3:((z0q l p 0 0):Int)= -1:=by
   first| (rw[I3.2.2.2.2.2.2,z33 (by omega)];rfl)| (rw[I3.2.2.2.2.2.2,hd,z0q];((repeat' split)<;>first|rfl|omega))
  exact .finE [.r []] [] (fun z0:Int=>(VI z0,[])) _ _ e3
theorem z4B(l:List AxStep)(pl:List Int)(hv:Valid l)(hp:∀x∈pl,0≤x∧x<oldI l)(hlen:pl.length≤1000000000):FC Tryz.prog 203 [VL 2 stepT l,VL 1 intT pl] (app emp []) (.tup [VL 1 intT (List.map (fun x=>z0q l x 0 0) pl),VI 0]) (app emp []):=by
 refine .go Tryz.f203 ?_
 refine .len 0 (fun hl0=> ?_)
 refine .len 1 (fun hl1=> ?_)
 have ca:=z27.2 hv
 have hv1:oldI l≤2147483647:=by have:=hv.2.1;unfold oldI;omega
 have hv2:newI l≤2147483647:=by have:=hv.2.2;unfold newI;omega
 have o0:0≤oldI l:=by unfold oldI;omega
 have o1:0≤newI l:=by unfold newI;omega
 refine .bp [.r [],.r [(1,X (Xc0 (z2y l) X0))],.r []] ((z1l l) !=0) (fun h2=> ?_) (fun h2=> ?_)
 ·
  exfalso
  omega
 ·
  refine .loop (α:=Nat×(List Int)) [.r [(1,X (Xc0 (z8I l (by assumption)) X0))],.r [],.r [(1,X (Xl intT pl))],.le (.nR 9 1)] 145 (fun(i,out)=>([(0,VL 2 stepT l),(7,VI (oldI l)),(9,.row 144 out.length),(22,VL 1 intT pl),(23,VI (pl.length:Int)),(24,VI (i:Int))],[(144,OR 1 intT out)])) (fun(i,out)=>i≤pl.length∧out=(pl.take i).map (fun x=>z0q l x 0 0)) (fun(i,out)=>pl.length-i) (0,[]) ?_ ?_
  ·
   exact⟨by omega,rfl⟩
  rintro⟨i,out⟩ I7 ih7
  try dsimp only at I7
  have ol:out.length=i:=by rw[I7.2];simp;omega
  refine .bp [.r []] (decide ((i:Int)< (pl.length:Int))) (fun h7=> ?_) (fun h7=> ?_)
  ·
   have hx:=hp (pl.getD i default) (by rw[show pl.getD i default=pl[i] by simp[List.getD,List.getElem?_eq_getElem (show i<pl.length by omega)]];exact List.getElem_mem _)
   refine .bp [.r [(0,X (Xi intT pl (i:Int)))],.r [(5,Xv 2 (!(decide ((pl.getD i default)< 0))) X0),(6,X (Xk' (decide ((pl.getD i default)< 0))))]] (decide ((pl.getD i default)< 0)||decide ((pl.getD i default)≥(oldI l))) (fun h9=> ?_) (fun h9=> ?_)
   ·
    exfalso
    omega
   ·
    refine .back [.r [(3,X (Xc0 (y5p l (pl.getD i default) (by assumption) (by omega)) X0)),(5,X (rowC intT [(z0q l (pl.getD i default) 0 0)] (Xap 1 intT 144 out [(z0q l (pl.getD i default) 0 0)])))],.r [(0,X (Xn ((i:Int)+1)))]] [(144,144)] (ih7 ((i+1),(out++[(z0q l (pl.getD i default) 0 0)])) ?_ ?_)
    ·
     refine⟨by omega,?_⟩
     rw[I7.2,List.take_succ_eq_append_getElem (show i<pl.length by omega),List.map_append]
     simp[List.getD,List.getElem?_eq_getElem (show i<pl.length by omega)]
    ·
     ((try dsimp only);omega)
  ·
   have e1:((List.map (fun x=>z0q l x 0 0) pl):List Int)=out:=by
    rw[I7.2,List.take_of_length_le (by omega)]
   exact .finE [.r [],.le (.fr 4 [(out.length:Nat)=(List.map intT out).length] ⟨lm,trivial⟩)] [] (fun z0:List Int=>(.tup [VL 1 intT z0,VI 0],[])) _ _ e1
end Go.Ch
end
section
set_option linter.unusedVariables false
namespace Go.Ch
open Go Go.Ab
def NoTx(l:List Cell):Prop:=∀c∈l,c.text.size=0
structure LiteE(e:GEd):Prop where
 sp:e.split.length=0
 me:e.merge.length=0
 tx:NoTx e.cells
 ln:e.cells.length≤1048576
def fitsE(x:Grid)(e:GEd):Int:=if gridE x≠0 then gridE x else if edE e≠0 then edE e else fitE x e
def fitM(x:Grid)(e:GEd):Int:=if fitsE x e≠0 then 0 else nwS x.rows e.rows
def fitN(x:Grid)(e:GEd):Int:=if fitsE x e≠0 then 0 else nwS x.cols e.cols
theorem y01{x:Grid}{e:GEd}{k:Int}(h:fitsE x e=k)(hk:k≠0):fitM x e=0∧fitN x e=0∧fitsE x e=k:=by
 unfold fitM fitN
 rw[h,if_pos hk,if_pos hk];exact⟨rfl,rfl,rfl⟩
theorem y8m{x:Grid}{e:GEd}(h:gridE x≠0):fitM x e=0∧fitN x e=0∧fitsE x e=gridE x:=y01 (by unfold fitsE;rw[if_pos h]) h
theorem y8n{x:Grid}{e:GEd}(h:gridE x=0)(h2:edE e≠0):fitM x e=0∧fitN x e=0∧fitsE x e=edE e:=y01 (by unfold fitsE;rw[if_neg (fun q=>q h),if_pos h2]) h2
theorem y8o{x:Grid}{e:GEd}(h:gridE x=0)(h2:edE e=0)(h3:¬(0<e.rows.length→oldI e.rows=x.rows)∨¬(0<e.cols.length→oldI e.cols=x.cols)):fitM x e=0∧fitN x e=0∧fitsE x e=14:=
 y01 (by
  unfold fitsE fitE
  rw[if_neg (fun q=>q h),if_neg (fun q=>q h2)]
  split
  ·rfl
  ·rename_i q
   rw[if_pos]
   rcases h3 with z|z
   ·exact absurd (fun a=>Classical.byContradiction fun b=>q ⟨a,b⟩) z
   ·exact Classical.byContradiction fun w=>z (fun a=>Classical.byContradiction fun b=>w ⟨a,b⟩)) (by decide)
theorem y6p{x:Grid}{e:GEd}(h:gridE x=0)(h2:edE e=0)(h3:(0<e.rows.length→oldI e.rows=x.rows)∧(0<e.cols.length→oldI e.cols=x.cols))(q1:e.split.length=0)(q2:e.merge.length=0):fitsE x e=celF e.cells (nwS x.rows e.rows) (nwS x.cols e.cols) 0:=by
 have i1:insQE e.split (nwS x.rows e.rows) (nwS x.cols e.cols) 0=0:=by rw[insQE,if_neg (by omega)]
 have i2:insQE e.merge (nwS x.rows e.rows) (nwS x.cols e.cols) 0=0:=by rw[insQE,if_neg (by omega)]
 unfold fitsE fitE
 rw[if_neg (fun q=>q h),if_neg (fun q=>q h2),if_neg (fun q=>q.2 (h3.1 q.1)),if_neg (fun q=>q.2 (h3.2 q.1)),i1,i2]
 split
 ·rfl
 ·rename_i q
  rw[if_neg (fun z=>z rfl)]
  exact(Classical.byContradiction q).symm
theorem y8p{x:Grid}{e:GEd}(h:gridE x=0)(h2:edE e=0)(h3:(0<e.rows.length→oldI e.rows=x.rows)∧(0<e.cols.length→oldI e.cols=x.cols))(q1:e.split.length=0)(q2:e.merge.length=0)(hc:celF e.cells (nwS x.rows e.rows) (nwS x.cols e.cols) 0=2):fitM x e=0∧fitN x e=0∧fitsE x e=2:=
 y01 ((y6p h h2 h3 q1 q2).trans hc) (by decide)
theorem y8q{x:Grid}{e:GEd}(h:gridE x=0)(h2:edE e=0)(h3:(0<e.rows.length→oldI e.rows=x.rows)∧(0<e.cols.length→oldI e.cols=x.cols))(q1:e.split.length=0)(q2:e.merge.length=0)(hc:celF e.cells (nwS x.rows e.rows) (nwS x.cols e.cols) 0=0):fitM x e=nwS x.rows e.rows∧fitN x e=nwS x.cols e.cols∧fitsE x e=0:=by
 have e0:=(y6p h h2 h3 q1 q2).trans hc
 unfold fitM fitN
 rw[e0,if_neg (fun q=>q rfl),if_neg (fun q=>q rfl)]
 exact⟨rfl,rfl,rfl⟩
def rawT(g:Grid)(e:GEd):Grid:=⟨nwS g.rows e.rows,nwS g.cols e.cols,putL e.cells (movL g.cells e.rows e.cols),[]⟩
structure RawT(g:Grid)(e:GEd):Prop where
 vr:0<e.rows.length→Valid e.rows
 vk:0<e.cols.length→Valid e.cols
 l1:g.cells.length≤1048576
 l2:e.cells.length≤1048576
 a1:CAN 1000000000000 g.cells
 a2:CAN 1000000000000 e.cells
 p1:∀c∈g.cells,PIn e.rows c.row
 p2:∀c∈g.cells,PIn e.cols c.col
 q1:g.merges.length=0
 q2:e.merge.length=0
theorem y02{l:List Cell}{m n:Int}{o:Bool}:∀(k i:Nat),l.length-i=k→z0F l m n o i=0→∀j,i≤j→j<l.length→cellE (l.getD j default) m n o=0
 |0,i,h,_,j,h1,h2=>by omega
 |k+1,i,h,h0,j,h1,h2=>by
  rw[z0F,if_pos (by omega)] at h0
  split at h0
  ·rename_i q;exact absurd h0 q
  ·rename_i q
   split at h0
   ·cases h0
   ·by_cases e:i=j
    ·rw[←e];exact Classical.byContradiction q
    ·exact y02 k (i+1) (by omega) h0 j (by omega) h2
theorem y2a{x:Grid}(h:gridE x=0):∀c∈x.cells,0≤c.row∧c.row<x.rows∧0≤c.col∧c.col<x.cols:=by
 have hc:z0F x.cells x.rows x.cols false 0=0:=by
  unfold gridE at h
  split at h
  ·cases h
  ·split at h
   ·rename_i q;exact absurd h q
   ·rename_i q;exact Classical.byContradiction q
 intro c hm
 obtain⟨j,hj,rfl⟩:=z0C hm
 have:=y02 _ 0 rfl hc j (Nat.zero_le _) hj
 unfold cellE at this
 split at this
 ·cases this
 ·omega
theorem RawT.of{x:Grid}{e:GEd}(h:fitsE x e=0)(hm:x.merges=[])(hl:LiteE e)(l1:x.cells.length≤1048576)(l2:e.cells.length≤1048576)(a1:∀c∈x.cells,c.attrs.length≤1048576)(a2:∀c∈e.cells,c.attrs.length≤1048576):RawT x e:=by
 unfold fitsE at h
 split at h
 ·rename_i q;exact absurd h q
 rename_i q
 have hg:gridE x=0:=Classical.byContradiction q
 split at h
 ·rename_i q;exact absurd h q
 rename_i q
 have he:edE e=0:=Classical.byContradiction q
 have ho:=y0Z he
 have hf:=y3z h
 have hc:=y2a hg
 refine⟨fun _=>ho.okr,fun _=>ho.okc,l1,l2,fun c h=>by have:=a1 c h;omega,fun c h=>by have:=a2 c h;omega,fun c hm hp=>⟨ho.okr,?_⟩,fun c hm hp=>⟨ho.okc,?_⟩,by rw[hm];rfl,hl.me⟩
 ·have:=hc c hm;have:=hf.rows hp;omega
 ·have:=hc c hm;have:=hf.cols hp;omega
end Go.Ch
end
section
set_option linter.unusedVariables false
set_option linter.unusedSimpArgs false
set_option maxRecDepth 100000
set_option maxHeartbeats 4000000
open Go Go.Proofs Go.Ab
namespace Go.Ch
theorem y5q(s:ByteArray)(hs:s.size=0):FC Tryz.prog 192 [VS s] (app emp []) (VB (textG s)) (app emp []):=by
 refine .go Tryz.f192 ?_
 refine .loop (α:=ByteArray) [.r []] 8 (fun u=>([(0,VS u)],[])) (fun u=>u=s) (fun u=>u.size) (s:ByteArray) ?_ ?_
 ·
  rfl
 rintro u I1 ih1
 replace I1:u=s:=I1
 refine .bp [.r []] (!(seq u ({data:=#[]}))) (fun h1=> ?_) (fun h1=> ?_)
 ·
  exfalso
  rw[z2T,decide_eq_false_iff_not] at h1
  rw[I1] at h1;omega
 ·
  have e1:((textG s):Bool)=true:=by
   rw[y3v (by omega)]
  exact .finE [.r []] [] (fun z0:Bool=>(VB z0,[])) _ _ e1
theorem y03(l:List Cell)(m n:Int)(o:Bool)(hnt:NoTx l):FC Tryz.prog 157 [VL 5 cellT l,VI m,VI n,VB o] (app emp []) (VI (z0F l m n o 0)) (app emp []):=by
 refine .go Tryz.f157 ?_
 refine .len 0 (fun hl0=> ?_)
 refine .loop (α:=Nat) [.r [],.r [(1,X (Xl cellT l))]] 32 (fun i=>([(0,VL 5 cellT l),(1,VI m),(2,VI n),(3,VB o),(12,VL 5 cellT l),(13,VI (l.length:Int)),(14,VI (i:Int))],[])) (fun i=>i≤l.length∧z0F l m n o 0=z0F l m n o i) (fun i=>l.length-i) (0:Nat) ?_ ?_
 ·
  exact⟨by omega,rfl⟩
 rintro i I2 ih2
 try dsimp only at I2
 refine .bp [.r []] (decide ((i:Int)< (l.length:Int))) (fun h2=> ?_) (fun h2=> ?_)
 ·
  have hx:z0F l m n o i=_:=z0F.eq_1 l m n o i
  rw[if_pos (by omega)] at hx
  unfold cellE at hx
  have hxt:(l.getD i default).text.size=0:=hnt _ (z0g (by omega))
  refine .bp [.r [(1,X (Xi cellT l (i:Int)))],.r [(5,Xv 1 (!(decide ((((l.getD i default)).row)< 0))) X0),(7,Xv 2 (!(decide ((((l.getD i default)).row)< 0))) X0),(8,X (Xk' (decide ((((l.getD i default)).row)< 0)))),(11,Xv 1 (!(decide ((((l.getD i default)).row)< 0)||decide ((((l.getD i default)).row)≥m))) X0),(12,Xv 1 (!(decide ((((l.getD i default)).row)< 0)||decide ((((l.getD i default)).row)≥m))) X0),(13,X (Xk' (decide ((((l.getD i default)).row)< 0)||decide ((((l.getD i default)).row)≥m)))),(16,Xv 1 (!((decide ((((l.getD i default)).row)< 0)||decide ((((l.getD i default)).row)≥m))||decide ((((l.getD i default)).col)< 0))) X0),(18,Xv 2 (!((decide ((((l.getD i default)).row)< 0)||decide ((((l.getD i default)).row)≥m))||decide ((((l.getD i default)).col)< 0))) X0),(19,X (Xk' ((decide ((((l.getD i default)).row)< 0)||decide ((((l.getD i default)).row)≥m))||decide ((((l.getD i default)).col)< 0))))]] (((decide ((((l.getD i default)).row)< 0)||decide ((((l.getD i default)).row)≥m))||decide ((((l.getD i default)).col)< 0))||decide ((((l.getD i default)).col)≥n)) (fun h4=> ?_) (fun h4=> ?_)
  ·
   have e1:((z0F l m n o 0):Int)=2:=by
    first| (rw[I2.2,hx];((repeat' split)<;>first|rfl|omega| (simp_all;done)| (simp_all;omega)))| (rw[I2.2,z0F,if_neg (by omega)])
   exact .finE [.r []] [] (fun z0:Int=>(VI z0,[])) _ _ e1
  ·
   refine .bp [.r [(5,Xv 1 (!(decide ((((l.getD i default)).ref)< 0))) X0),(6,Xv 1 (!(decide ((((l.getD i default)).ref)< 0))) X0),(7,X (Xk' (decide ((((l.getD i default)).ref)< 0))))]] (decide ((((l.getD i default)).ref)< 0)||decide ((((l.getD i default)).ref)> 1073741824)) (fun h6=> ?_) (fun h6=> ?_)
   ·
    have e2:((z0F l m n o 0):Int)=2:=by
     first| (rw[I2.2,hx];((repeat' split)<;>first|rfl|omega| (simp_all;done)| (simp_all;omega)))| (rw[I2.2,z0F,if_neg (by omega)])
    exact .finE [.r []] [] (fun z0:Int=>(VI z0,[])) _ _ e2
   ·
    refine .bp [.r [(2,X (Xc0 (y5q (((l.getD i default)).text) (by assumption)) X0))]] (!(textG (((l.getD i default)).text))) (fun h8=> ?_) (fun h8=> ?_)
    ·
     have e3:((z0F l m n o 0):Int)=23:=by
      first| (rw[I2.2,hx];((repeat' split)<;>first|rfl|omega| (simp_all;done)| (simp_all;omega)))| (rw[I2.2,z0F,if_neg (by omega)])
     exact .finE [.r []] [] (fun z0:Int=>(VI z0,[])) _ _ e3
    ·
     refine .bp [.r [(2,X (Xc0 (z2x (((l.getD i default)).attrs)) X0))],.r []] ((chkA false (((l.getD i default)).attrs) 0) !=0) (fun h11=> ?_) (fun h11=> ?_)
     ·
      have e4:((z0F l m n o 0):Int)=(chkA false (((l.getD i default)).attrs) 0):=by
       first| (rw[I2.2,hx];((repeat' split)<;>first|rfl|omega| (simp_all;done)| (simp_all;omega)))| (rw[I2.2,z0F,if_neg (by omega)])
      exact .finE [.r []] [] (fun z0:Int=>(VI z0,[])) _ _ e4
     ·
      refine .bp [.r [(1,X (Xc0 (z7G ((l.getD i default))) X0)),(4,Xv 1 (z1a ((l.getD i default))) X0),(5,X (Xk (z1a ((l.getD i default)))))]] ((z1a ((l.getD i default)))&& !o) (fun h13=> ?_) (fun h13=> ?_)
      ·
       have e5:((z0F l m n o 0):Int)=4:=by
        first| (rw[I2.2,hx];((repeat' split)<;>first|rfl|omega| (simp_all;done)| (simp_all;omega)))| (rw[I2.2,z0F,if_neg (by omega)])
       exact .finE [.r []] [] (fun z0:Int=>(VI z0,[])) _ _ e5
      ·
       refine .bp [.r [(5,Xv 1 (decide ((i:Int)> 0)) (Xn ((i:Int)- 1))),(6,Xv 2 (decide ((i:Int)> 0)) (Xi' cellT l ((i:Int)- 1) (i- 1))),(7,Xv 1 (decide ((i:Int)> 0)) X0),(9,Xv 2 (decide ((i:Int)> 0)) (Xc0 (z7F ((l.getD (i- 1) default)) ((l.getD i default))) X0)),(10,Xv 1 (decide ((i:Int)> 0)) X0),(11,X (Xk (decide ((i:Int)> 0))))]] (decide ((i:Int)> 0)&&decide ((ordC ((l.getD (i- 1) default)) ((l.getD i default)))≥0)) (fun h15=> ?_) (fun h15=> ?_)
       ·
        have e6:((z0F l m n o 0):Int)=5:=by
         first| (rw[I2.2,hx];((repeat' split)<;>first|rfl|omega| (simp_all;done)| (simp_all;omega)))| (rw[I2.2,z0F,if_neg (by omega)])
        exact .finE [.r []] [] (fun z0:Int=>(VI z0,[])) _ _ e6
       ·
        refine .back [.r [(0,X (Xn ((i:Int)+1)))]] [] (ih2 ((i+1):Nat) ?_ ?_)
        ·
         refine⟨by omega,?_⟩
         rw[I2.2,hx]
         ((repeat' split)<;>first|rfl|omega| (simp_all;done)| (simp_all;omega))
        ·
         ((try dsimp only);omega)
 ·
  have e7:((z0F l m n o 0):Int)=0:=by
   first| (rw[I2.2,hx];((repeat' split)<;>first|rfl|omega| (simp_all;done)| (simp_all;omega)))| (rw[I2.2,z0F,if_neg (by omega)])
  exact .finE [.r []] [] (fun z0:Int=>(VI z0,[])) _ _ e7
theorem z7H(c:Cell)(h:c.attrs.length≤1000000000000):FC Tryz.prog 202 [.t (cellT c)] (app emp []) (.t (cellT c)) (app emp []):=by
 refine .go Tryz.f202 ?_
 exact .finV [.r [],.r [(2,X (Xan attrT 32 c.attrs))],.r []] [.fR 0 [(c.attrs.length:Nat)=(List.map attrT c.attrs).length] ⟨lm,trivial⟩] []
theorem z37(n:Int)(a:List AxStep)(hv:0<a.length→Valid a):FC Tryz.prog 169 [VI n,VL 2 stepT a] (app emp []) (.tup [VI (if 0<a.length then newI a else n),VB (decide (0<a.length→oldI a=n))]) (app emp []):=by
 refine .go Tryz.f169 ?_
 refine .len 1 (fun hl1=> ?_)
 refine .bp [.r [],.r [(1,X (Xl stepT a))]] ((a.length:Int)==0) (fun h1=> ?_) (fun h1=> ?_)
 ·
  have e1:((if 0<a.length then newI a else n):Int)=n:=by
   first|rw[if_neg (by omega)]|exact decide_eq_true (fun h=>by omega)|exact(decide_eq_true (fun h=>by omega)).symm
  have e2:((decide (0<a.length→oldI a=n)):Bool)=true:=by
   first|rw[if_neg (by omega)]|exact decide_eq_true (fun h=>by omega)|exact(decide_eq_true (fun h=>by omega)).symm
  exact .finE [.r []] [] (fun((z0,z1):Int×Bool)=>(.tup [VI z0,VB z1],[])) _ _ (pr e1 e2)
 ·
  have ha:0<a.length:=by omega
  have hv2:=hv ha
  have e3:((if 0<a.length then newI a else n):Int)=(newI a):=by
   first|rw[if_pos (by omega)]| (rw[Bool.eq_iff_iff,decide_eq_true_eq,beq_iff_eq];exact⟨fun h=>h (by omega),fun h _=>h⟩)
  have e4:((decide (0<a.length→oldI a=n)):Bool)=((oldI a)==n):=by
   first|rw[if_pos (by omega)]| (rw[Bool.eq_iff_iff,decide_eq_true_eq,beq_iff_eq];exact⟨fun h=>h (by omega),fun h _=>h⟩)
  exact .finE [.r [(1,X (Xc0 (z8J a (by assumption)) X0))],.r []] [] (fun((z0,z1):Int×Bool)=>(.tup [VI z0,VB z1],[])) _ _ (pr e3 e4)
end Go.Ch
end
section
set_option linter.unusedVariables false
set_option linter.unusedSimpArgs false
set_option maxRecDepth 100000
set_option maxHeartbeats 4000000
open Go Go.Proofs Go.Ab
namespace Go.Ch
theorem y5r(l:List Cell)(rows cols:List AxStep)(hl:l.length≤100000000000)(ha:CAN 1000000000000 l)(hr:∀c∈l,PIn rows c.row)(hc:∀c∈l,PIn cols c.col):FC Tryz.prog 171 [VL 5 cellT l,VL 2 stepT rows,VL 2 stepT cols] (app emp []) (VL 5 cellT (movL l rows cols)) (app emp []):=by
 refine .go Tryz.f171 ?_
 refine .len 0 (fun hl0=> ?_)
 refine .len 1 (fun hl1=> ?_)
 refine .len 2 (fun hl2=> ?_)
 refine .loop (α:=Nat×(List Cell)) [.r [],.r [],.r [(1,X (Xl cellT l))],.le (.nR 7 5)] 41 (fun(i,o)=>([(1,VL 2 stepT rows),(2,VL 2 stepT cols),(7,.row 40 o.length),(14,VL 5 cellT l),(15,VI (l.length:Int)),(16,VI (i:Int))],[(40,OR 5 cellT o)])) (fun(i,o)=>i≤l.length∧o=movL (l.take i) rows cols) (fun(i,o)=>l.length-i) (0,[]) ?_ ?_
 ·
  exact⟨by omega,rfl⟩
 rintro⟨i,o⟩ I3 ih3
 try dsimp only at I3
 have ol:o.length≤i:=by rw[I3.2];have:=z7A (l.take i) rows cols;simp at this;omega
 refine .bp [.r []] (decide ((i:Int)< (l.length:Int))) (fun h3=> ?_) (fun h3=> ?_)
 ·
  have hm:=z8K (l:=l) (i:=i) (by omega)
  have ha1:=ha _ hm
  have hr1:=hr _ hm
  have hc1:=hc _ hm
  refine .bp [.r [(0,X (Xi cellT l (i:Int)))],.r [(1,X (Xc1 89 (z7H ((l.getD i default)) (by omega)) X0))],.r [(1,X (Xl stepT rows))]] (decide ((rows.length:Int)> 0)) (fun h6=> ?_) (fun h6=> ?_)
  ·
   obtain⟨hv1,hx1⟩:=hr1 (by omega)
   have hxx:∀x∈[(l.getD i default).row],0≤x∧x<oldI rows:=fun x hx=>by(have:=List.mem_singleton.1 hx;omega)
   refine .bp [.r [(4,X (Xc1 161 (z4B rows [(((l.getD i default))).row] (by assumption) (by assumption) (by simp)) (rowC intT [(((l.getD i default))).row] X0)))],.r [(4,Xv 1 (!false) (Xi intT (List.map (fun x=>z0q rows x 0 0) [(((l.getD i default))).row]) 0)),(5,Xv 1 (!false) X0),(6,Xv 1 (!false) X0),(7,X (Xk' false))]] (false||decide (((List.map (fun x=>z0q rows x 0 0) [(((l.getD i default))).row]).getD 0 default)< 0)) (fun h8=> ?_) (fun h8=> ?_)
   ·
    refine .back [.r [(0,X (Xn ((i:Int)+1)))]] [(40,40)] (ih3 ((i+1),o) ?_ ?_)
    ·
     refine⟨by omega,?_⟩
     rw[z19 (by omega),←I3.2]
     unfold mvC mvR
     simp only[List.map_cons,List.map_nil,List.getD_cons_zero] at*
     (repeat' split)<;>first|rfl| (simp;done)| (exfalso;omega)| (exfalso;simp_all;done)| (exfalso;simp_all;omega)
    ·
     ((try dsimp only);omega)
   ·
    refine .bp [.r [(1,X (Xi intT (List.map (fun x=>z0q rows x 0 0) [(((l.getD i default))).row]) 0))],.r [(1,X (Xl stepT cols))]] (decide ((cols.length:Int)> 0)) (fun h10=> ?_) (fun h10=> ?_)
    ·
     obtain⟨hv2,hx2⟩:=hc1 (by omega)
     have hyy:∀x∈[(l.getD i default).col],0≤x∧x<oldI cols:=fun x hx=>by(have:=List.mem_singleton.1 hx;omega)
     refine .bp [.r [(4,X (Xc1 369 (z4B cols [(((l.getD i default))).col] (by assumption) (by assumption) (by simp)) (rowC intT [(((l.getD i default))).col] X0)))],.r [(4,Xv 1 (!false) (Xi intT (List.map (fun x=>z0q cols x 0 0) [(((l.getD i default))).col]) 0)),(5,Xv 1 (!false) X0),(6,Xv 1 (!false) X0),(7,X (Xk' false))]] (false||decide (((List.map (fun x=>z0q cols x 0 0) [(((l.getD i default))).col]).getD 0 default)< 0)) (fun h12=> ?_) (fun h12=> ?_)
     ·
      refine .back [.r [(0,X (Xn ((i:Int)+1)))]] [(40,40)] (ih3 ((i+1),o) ?_ ?_)
      ·
       refine⟨by omega,?_⟩
       rw[z19 (by omega),←I3.2]
       unfold mvC mvR
       simp only[List.map_cons,List.map_nil,List.getD_cons_zero] at*
       (repeat' split)<;>first|rfl| (simp;done)| (exfalso;omega)| (exfalso;simp_all;done)| (exfalso;simp_all;omega)
      ·
       ((try dsimp only);omega)
     ·
      refine .back [.r [(1,X (Xi intT (List.map (fun x=>z0q cols x 0 0) [(((l.getD i default))).col]) 0))],.r [(3,X (rowC cellT [({row:=((List.map (fun x=>z0q rows x 0 0) [(((l.getD i default))).row]).getD 0 default),col:=((List.map (fun x=>z0q cols x 0 0) [(((l.getD i default))).col]).getD 0 default),text:=(((l.getD i default))).text,ref:=(((l.getD i default))).ref,attrs:=(((l.getD i default))).attrs}:Cell)] (Xap 5 cellT 40 o [({row:=((List.map (fun x=>z0q rows x 0 0) [(((l.getD i default))).row]).getD 0 default),col:=((List.map (fun x=>z0q cols x 0 0) [(((l.getD i default))).col]).getD 0 default),text:=(((l.getD i default))).text,ref:=(((l.getD i default))).ref,attrs:=(((l.getD i default))).attrs}:Cell)])))],.r [(0,X (Xn ((i:Int)+1)))]] [(40,40)] (ih3 ((i+1),(o++[({row:=((List.map (fun x=>z0q rows x 0 0) [(((l.getD i default))).row]).getD 0 default),col:=((List.map (fun x=>z0q cols x 0 0) [(((l.getD i default))).col]).getD 0 default),text:=(((l.getD i default))).text,ref:=(((l.getD i default))).ref,attrs:=(((l.getD i default))).attrs}:Cell)])) ?_ ?_)
      ·
       refine⟨by omega,?_⟩
       rw[z19 (by omega),←I3.2]
       unfold mvC mvR
       simp only[List.map_cons,List.map_nil,List.getD_cons_zero] at*
       (repeat' split)<;>first|rfl| (simp;done)| (exfalso;omega)| (exfalso;simp_all;done)| (exfalso;simp_all;omega)
      ·
       ((try dsimp only);omega)
    ·
     refine .back [.r [(3,X (rowC cellT [({row:=((List.map (fun x=>z0q rows x 0 0) [(((l.getD i default))).row]).getD 0 default),col:=(((l.getD i default))).col,text:=(((l.getD i default))).text,ref:=(((l.getD i default))).ref,attrs:=(((l.getD i default))).attrs}:Cell)] (Xap 5 cellT 40 o [({row:=((List.map (fun x=>z0q rows x 0 0) [(((l.getD i default))).row]).getD 0 default),col:=(((l.getD i default))).col,text:=(((l.getD i default))).text,ref:=(((l.getD i default))).ref,attrs:=(((l.getD i default))).attrs}:Cell)])))],.r [(0,X (Xn ((i:Int)+1)))]] [(40,40)] (ih3 ((i+1),(o++[({row:=((List.map (fun x=>z0q rows x 0 0) [(((l.getD i default))).row]).getD 0 default),col:=(((l.getD i default))).col,text:=(((l.getD i default))).text,ref:=(((l.getD i default))).ref,attrs:=(((l.getD i default))).attrs}:Cell)])) ?_ ?_)
     ·
      refine⟨by omega,?_⟩
      rw[z19 (by omega),←I3.2]
      unfold mvC mvR
      simp only[List.map_cons,List.map_nil,List.getD_cons_zero] at*
      (repeat' split)<;>first|rfl| (simp;done)| (exfalso;omega)| (exfalso;simp_all;done)| (exfalso;simp_all;omega)
     ·
      ((try dsimp only);omega)
  ·
   refine .bp [.r [(1,X (Xl stepT cols))]] (decide ((cols.length:Int)> 0)) (fun h10=> ?_) (fun h10=> ?_)
   ·
    obtain⟨hv2,hx2⟩:=hc1 (by omega)
    have hyy:∀x∈[(l.getD i default).col],0≤x∧x<oldI cols:=fun x hx=>by(have:=List.mem_singleton.1 hx;omega)
    refine .bp [.r [(4,X (Xc1 185 (z4B cols [(((l.getD i default))).col] (by assumption) (by assumption) (by simp)) (rowC intT [(((l.getD i default))).col] X0)))],.r [(4,Xv 1 (!false) (Xi intT (List.map (fun x=>z0q cols x 0 0) [(((l.getD i default))).col]) 0)),(5,Xv 1 (!false) X0),(6,Xv 1 (!false) X0),(7,X (Xk' false))]] (false||decide (((List.map (fun x=>z0q cols x 0 0) [(((l.getD i default))).col]).getD 0 default)< 0)) (fun h12=> ?_) (fun h12=> ?_)
    ·
     refine .back [.r [(0,X (Xn ((i:Int)+1)))]] [(40,40)] (ih3 ((i+1),o) ?_ ?_)
     ·
      refine⟨by omega,?_⟩
      rw[z19 (by omega),←I3.2]
      unfold mvC mvR
      simp only[List.map_cons,List.map_nil,List.getD_cons_zero] at*
      (repeat' split)<;>first|rfl| (simp;done)| (exfalso;omega)| (exfalso;simp_all;done)| (exfalso;simp_all;omega)
     ·
      ((try dsimp only);omega)
    ·
     refine .back [.r [(1,X (Xi intT (List.map (fun x=>z0q cols x 0 0) [(((l.getD i default))).col]) 0))],.r [(3,X (rowC cellT [({row:=(((l.getD i default))).row,col:=((List.map (fun x=>z0q cols x 0 0) [(((l.getD i default))).col]).getD 0 default),text:=(((l.getD i default))).text,ref:=(((l.getD i default))).ref,attrs:=(((l.getD i default))).attrs}:Cell)] (Xap 5 cellT 40 o [({row:=(((l.getD i default))).row,col:=((List.map (fun x=>z0q cols x 0 0) [(((l.getD i default))).col]).getD 0 default),text:=(((l.getD i default))).text,ref:=(((l.getD i default))).ref,attrs:=(((l.getD i default))).attrs}:Cell)])))],.r [(0,X (Xn ((i:Int)+1)))]] [(40,40)] (ih3 ((i+1),(o++[({row:=(((l.getD i default))).row,col:=((List.map (fun x=>z0q cols x 0 0) [(((l.getD i default))).col]).getD 0 default),text:=(((l.getD i default))).text,ref:=(((l.getD i default))).ref,attrs:=(((l.getD i default))).attrs}:Cell)])) ?_ ?_)
     ·
      refine⟨by omega,?_⟩
      rw[z19 (by omega),←I3.2]
      unfold mvC mvR
      simp only[List.map_cons,List.map_nil,List.getD_cons_zero] at*
      (repeat' split)<;>first|rfl| (simp;done)| (exfalso;omega)| (exfalso;simp_all;done)| (exfalso;simp_all;omega)
     ·
      ((try dsimp only);omega)
   ·
    refine .back [.r [(3,X (rowC cellT [(((l.getD i default)))] (Xap 5 cellT 40 o [(((l.getD i default)))])))],.r [(0,X (Xn ((i:Int)+1)))]] [(40,40)] (ih3 ((i+1),(o++[(((l.getD i default)))])) ?_ ?_)
    ·
     refine⟨by omega,?_⟩
     rw[z19 (by omega),←I3.2]
     unfold mvC mvR
     simp only[List.map_cons,List.map_nil,List.getD_cons_zero] at*
     (repeat' split)<;>first|rfl| (simp;done)| (exfalso;omega)| (exfalso;simp_all;done)| (exfalso;simp_all;omega)
    ·
     ((try dsimp only);omega)
 ·
  have e1:((movL l rows cols):List Cell)=o:=by
   rw[I3.2,List.take_of_length_le (by omega)]
  exact .finE [.r [],.le (.fr 6 [(o.length:Nat)=(List.map cellT o).length] ⟨lm,trivial⟩)] [] (fun z0:List Cell=>(VL 5 cellT z0,[])) _ _ e1
theorem y7e(l news:List Cell)(hl:l.length≤100000000000)(hn:news.length≤100000000000)(ha:CAN 1000000000000 news):FC Tryz.prog 170 [VL 5 cellT l,VL 5 cellT news] (app emp []) (VL 5 cellT (putL news l)) (app emp []):=by
 refine .go Tryz.f170 ?_
 refine .len 0 (fun hl0=> ?_)
 refine .len 1 (fun hl1=> ?_)
 refine .loop (α:=Nat×Nat×(List Cell)) [.r [],.r [],.r [],.r [(1,X (Xl cellT news))],.le (.nR 5 5)] 49 (fun(i,k,o)=>([(0,VL 5 cellT l),(5,.row 48 o.length),(6,VI (i:Int)),(9,VL 5 cellT news),(10,VI (news.length:Int)),(11,VI (k:Int))],[(48,OR 5 cellT o)])) (fun(i,k,o)=>k≤news.length∧i≤l.length∧o.length≤i+k∧putL news l=o++putL (news.drop k) (l.drop i)) (fun(i,k,o)=>news.length-k) (0,0,[]) ?_ ?_
 ·
  exact⟨by omega,by omega,by simp,rfl⟩
 rintro⟨i,k,o⟩ I4 ih4
 try dsimp only at I4
 refine .bp [.r []] (decide ((k:Int)< (news.length:Int))) (fun h4=> ?_) (fun h4=> ?_)
 ·
  have hm:=ha _ (z8K (l:=news) (i:=k) (by omega))
  refine .loop (α:=Nat×(List Cell)) [.r [(0,X (Xi cellT news (k:Int)))]] 89 (fun(j,p)=>([(0,VL 5 cellT l),(5,.row 48 p.length),(6,VI (j:Int)),(8,.ptr 73 0),(9,VL 5 cellT news),(10,VI (news.length:Int)),(11,VI (k:Int))],[(48,OR 5 cellT p),(73,.box [VI (((news.getD k default)).row),VI (((news.getD k default)).col),VS (((news.getD k default)).text),VI (((news.getD k default)).ref),VL 2 attrT (((news.getD k default)).attrs)])])) (fun(j,p)=>j≤l.length∧p.length≤j+k∧putL news l=p++putC (news.getD k default) (putL (news.drop (k+1))) (l.drop j)) (fun(j,p)=>l.length-j) (i,o) ?_ ?_
  ·
   exact⟨by omega,by omega,by rw[I4.2.2.2,dropC (l:=news) (by omega),putL]⟩
  rintro⟨j,p⟩ I6 ih6
  try dsimp only at I6
  skip
  refine .bp [.r [(2,X (Xl cellT l)),(7,Xv 2 (decide ((j:Int)< (l.length:Int))) (Xi cellT l (j:Int))),(8,Xv 1 (decide ((j:Int)< (l.length:Int))) X0),(10,Xv 2 (decide ((j:Int)< (l.length:Int))) (Xc0 (z7F ((l.getD j default)) ((news.getD k default))) X0)),(11,Xv 1 (decide ((j:Int)< (l.length:Int))) X0),(12,X (Xk (decide ((j:Int)< (l.length:Int)))))]] (decide ((j:Int)< (l.length:Int))&&decide ((ordC ((l.getD j default)) ((news.getD k default)))< 0)) (fun h6=> ?_) (fun h6=> ?_)
  ·
   refine .back [.r [(3,X (Xi cellT l (j:Int))),(6,X (rowC cellT [((l.getD j default))] (Xap 5 cellT 48 p [((l.getD j default))])))],.r [(1,X (Xn ((j:Int)+1)))]] [(48,48),(73,73)] (ih6 ((j+1),(p++[((l.getD j default))])) ?_ ?_)
   ·
    refine⟨by omega,by simp;omega,?_⟩
    rw[I6.2.2,y7b (by omega) (by omega),List.append_assoc]
    rfl
   ·
    ((try dsimp only);omega)
  ·
   refine .bp [.r [(2,X (Xl cellT l)),(7,Xv 2 (decide ((j:Int)< (l.length:Int))) (Xi cellT l (j:Int))),(8,Xv 1 (decide ((j:Int)< (l.length:Int))) X0),(10,Xv 2 (decide ((j:Int)< (l.length:Int))) (Xc0 (z7F ((l.getD j default)) ((news.getD k default))) X0)),(11,Xv 1 (decide ((j:Int)< (l.length:Int))) X0),(12,X (Xk (decide ((j:Int)< (l.length:Int)))))]] (decide ((j:Int)< (l.length:Int))&&((ordC ((l.getD j default)) ((news.getD k default)))==0)) (fun h9=> ?_) (fun h9=> ?_)
   ·
    refine .bp [.r [(1,X (Xn ((j:Int)+1)))],.r [(1,X (Xc0 (z7G ((news.getD k default))) X0))]] (!(z1a ((news.getD k default)))) (fun h11=> ?_) (fun h11=> ?_)
    ·
     refine .back [.r [(2,X (Xc1 361 (z7H ((news.getD k default)) (by omega)) X0)),(4,X (rowC cellT [((news.getD k default))] (Xap 5 cellT 48 p [((news.getD k default))])))],.r [(0,X (Xn ((k:Int)+1)))]] [(48,48)] (ih4 ((j+1),(k+1),(p++[((news.getD k default))])) ?_ ?_)
     ·
      refine⟨by omega,by omega,by((try simp only[List.length_append,List.length_cons,List.length_nil]);omega),?_⟩
      rw[I6.2.2]
      (first|rw[z7B (by omega) (by omega)]|rw[z7C (fun h=>by omega)])
      (first|rw[if_pos (by assumption)]|rw[if_neg (by simp_all)])
      simp
     ·
      ((try dsimp only);omega)
    ·
     refine .back [.r [(0,X (Xn ((k:Int)+1)))]] [(48,48)] (ih4 ((j+1),(k+1),p) ?_ ?_)
     ·
      refine⟨by omega,by omega,by((try simp only[List.length_append,List.length_cons,List.length_nil]);omega),?_⟩
      rw[I6.2.2]
      (first|rw[z7B (by omega) (by omega)]|rw[z7C (fun h=>by omega)])
      (first|rw[if_pos (by assumption)]|rw[if_neg (by simp_all)])
      simp
     ·
      ((try dsimp only);omega)
   ·
    refine .bp [.r [(1,X (Xc0 (z7G ((news.getD k default))) X0))]] (!(z1a ((news.getD k default)))) (fun h11=> ?_) (fun h11=> ?_)
    ·
     refine .back [.r [(2,X (Xc1 337 (z7H ((news.getD k default)) (by omega)) X0)),(4,X (rowC cellT [((news.getD k default))] (Xap 5 cellT 48 p [((news.getD k default))])))],.r [(0,X (Xn ((k:Int)+1)))]] [(48,48)] (ih4 (j,(k+1),(p++[((news.getD k default))])) ?_ ?_)
     ·
      refine⟨by omega,by omega,by((try simp only[List.length_append,List.length_cons,List.length_nil]);omega),?_⟩
      rw[I6.2.2]
      (first|rw[z7B (by omega) (by omega)]|rw[z7C (fun h=>by omega)])
      (first|rw[if_pos (by assumption)]|rw[if_neg (by simp_all)])
      simp
     ·
      ((try dsimp only);omega)
    ·
     refine .back [.r [(0,X (Xn ((k:Int)+1)))]] [(48,48)] (ih4 (j,(k+1),p) ?_ ?_)
     ·
      refine⟨by omega,by omega,by((try simp only[List.length_append,List.length_cons,List.length_nil]);omega),?_⟩
      rw[I6.2.2]
      (first|rw[z7B (by omega) (by omega)]|rw[z7C (fun h=>by omega)])
      (first|rw[if_pos (by assumption)]|rw[if_neg (by simp_all)])
      simp
     ·
      ((try dsimp only);omega)
 ·
  have e1:((putL news l):List Cell)=(o++(l.drop i)):=by
   rw[I4.2.2.2,z8L (l:=news) (by omega),putL]
  exact .finE [.r [(3,X (Xsd cellT 5 l (i:Int))),(4,X (Xap 5 cellT 48 o (l.drop i)))],.le (.fr 4 [(((o++(l.drop i)).length):Nat)=(List.map cellT (o++(l.drop i))).length] ⟨lm,trivial⟩)] [] (fun z0:List Cell=>(VL 5 cellT z0,[])) _ _ e1
end Go.Ch
end
section
set_option linter.unusedVariables false
set_option linter.unusedSimpArgs false
set_option maxRecDepth 100000
set_option maxHeartbeats 4000000
open Go Go.Proofs Go.Ab
namespace Go.Ch
theorem z8O(x:Grid)(hm:x.merges=[])(hnt:NoTx x.cells):FC Tryz.prog 120 [.t (gridT x)] (app emp []) (VI (gridE x)) (app emp []):=by
 refine .go Tryz.f120 ?_
 have hl:x.merges.length=0:=by rw[hm];rfl
 refine .bp [.r [],.r [(5,Xv 1 (!(decide (x.rows<0))) X0),(6,Xv 1 (!(decide (x.rows<0))) X0),(7,X (Xk' (decide (x.rows<0)))),(10,Xv 1 (!(decide (x.rows<0)||decide (x.rows>2147483647))) X0),(11,Xv 1 (!(decide (x.rows<0)||decide (x.rows>2147483647))) X0),(12,X (Xk' (decide (x.rows<0)||decide (x.rows>2147483647)))),(15,Xv 1 (!((decide (x.rows<0)||decide (x.rows>2147483647))||decide (x.cols<0))) X0),(16,Xv 1 (!((decide (x.rows<0)||decide (x.rows>2147483647))||decide (x.cols<0))) X0),(17,X (Xk' ((decide (x.rows<0)||decide (x.rows>2147483647))||decide (x.cols<0))))]] (((decide (x.rows<0)||decide (x.rows>2147483647))||decide (x.cols<0))||decide (x.cols>2147483647)) (fun h1=> ?_) (fun h1=> ?_)
 ·
  have e1:((gridE x):Int)=2:=by
   unfold gridE;rw[if_pos (by omega)]
  exact .finE [.r []] [] (fun z0:Int=>(VI z0,[])) _ _ e1
 ·
  refine .bp [.r [(6,X (Xc0 (y03 x.cells x.rows x.cols false (by assumption)) X0))],.r []] ((z0F x.cells x.rows x.cols false 0) !=0) (fun h4=> ?_) (fun h4=> ?_)
  ·
   have e2:((gridE x):Int)=(z0F x.cells x.rows x.cols false 0):=by
    unfold gridE;rw[if_neg (by omega),if_pos (by omega)]
   exact .finE [.r []] [] (fun z0:Int=>(VI z0,[])) _ _ e2
  ·
   refine .loop (α:=Nat) [.r [(2,X (Xl rectT x.merges))]] 272 (fun i=>([(1,.ptr 0 0),(35,VL 4 rectT x.merges),(36,VI (x.merges.length:Int)),(37,VI (i:Int))],[(0,.box [VI x.rows,VI x.cols,VL 5 cellT x.cells,VL 4 rectT x.merges])])) (fun i=>i=0) (fun i=>0) (0:Nat) ?_ ?_
   ·
    rfl
   rintro i I7 ih7
   try dsimp only at I7
   refine .bp [.r []] (decide ((i:Int)< (x.merges.length:Int))) (fun h7=> ?_) (fun h7=> ?_)
   ·
    exfalso
    omega
   ·
    have e3:((gridE x):Int)=0:=by
     unfold gridE;rw[if_neg (by omega),if_neg (by omega),mergE,if_neg (by omega)]
    exact .finE [.r []] [] (fun z0:Int=>(VI z0,[])) _ _ e3
theorem z4W(e:GEd)(hl:LiteE e):FC Tryz.prog 126 [.t (gedT e)] (app emp []) (VI (edE e)) (app emp []):=by
 refine .go Tryz.f126 ?_
 have h1:=hl.sp
 have h2:=hl.me
 have hnt:=hl.tx
 have g1:insQE e.split 2147483647 2147483647 0=0:=by rw[insQE,if_neg (by omega)]
 have g2:mgE e.merge 2147483647 2147483647 0=0:=by rw[mgE,if_neg (by omega)]
 refine .bp [.r [],.r [],.u,.r [],.t,.r [(0,X (Xa (Xc ((0:Int)≤0)) (Xc ((0:Int)< ((2:Nat):Int)))) ⟨by decide,by decide⟩)],.r [(1,X (Xc0 (z2y e.rows) X0))],.r []] ((z1l e.rows) !=0) (fun h5=> ?_) (fun h5=> ?_)
 ·
  have e1:((edE e):Int)=(z1l e.rows):=by
   unfold edE;(repeat' split)<;>omega
  exact .finE [.r []] [] (fun z0:Int=>(VI z0,[])) _ _ e1
 ·
  refine .bp [.r [],.u,.r [],.t,.r [(0,X (Xa (Xc ((0:Int)≤1)) (Xc ((1:Int)< ((2:Nat):Int)))) ⟨by decide,by decide⟩)],.r [(1,X (Xc0 (z2y e.cols) X0))],.r []] ((z1l e.cols) !=0) (fun h5=> ?_) (fun h5=> ?_)
  ·
   have e2:((edE e):Int)=(z1l e.cols):=by
    unfold edE;(repeat' split)<;>omega
   exact .finE [.r []] [] (fun z0:Int=>(VI z0,[])) _ _ e2
  ·
   refine .bp [.r [],.u,.r [],.f,.r [(2,X (Xc0 (y03 e.cells 2147483647 2147483647 true (by assumption)) X0))],.r []] ((z0F e.cells 2147483647 2147483647 true 0) !=0) (fun h9=> ?_) (fun h9=> ?_)
   ·
    have e3:((edE e):Int)=(z0F e.cells 2147483647 2147483647 true 0):=by
     unfold edE;(repeat' split)<;>omega
    exact .finE [.r []] [] (fun z0:Int=>(VI z0,[])) _ _ e3
   ·
    refine .loop (α:=Nat) [.r [],.u,.r [],.t,.r [(1,X (Xa (Xc ((0:Int)≤0)) (Xc ((0:Int)< ((2:Nat):Int)))) ⟨by decide,by decide⟩)],.r [(1,X (Xl rectT e.split))]] 392 (fun j=>([(7,VI 0),(35,.t (.agg [TL 4 rectT e.split,TL 4 rectT e.merge])),(36,VI 0),(40,VL 4 rectT e.split),(41,VI (e.split.length:Int)),(42,VI (j:Int))],[])) (fun j=>j=0) (fun j=>0) (0:Nat) ?_ ?_
    ·
     rfl
    rintro j I15 ih15
    try dsimp only at I15
    refine .bp [.r []] (decide ((j:Int)< (e.split.length:Int))) (fun h15=> ?_) (fun h15=> ?_)
    ·
     exfalso
     omega
    ·
     refine .loop (α:=Nat) [.r [],.u,.r [],.t,.r [(1,X (Xa (Xc ((0:Int)≤1)) (Xc ((1:Int)< ((2:Nat):Int)))) ⟨by decide,by decide⟩)],.r [(1,X (Xl rectT e.merge))]] 480 (fun j=>([(7,VI 1),(35,.t (.agg [TL 4 rectT e.split,TL 4 rectT e.merge])),(36,VI 1),(40,VL 4 rectT e.merge),(41,VI (e.merge.length:Int)),(42,VI (j:Int))],[])) (fun j=>j=0) (fun j=>0) (0:Nat) ?_ ?_
     ·
      rfl
     rintro j I15 ih15
     try dsimp only at I15
     refine .bp [.r []] (decide ((j:Int)< (e.merge.length:Int))) (fun h15=> ?_) (fun h15=> ?_)
     ·
      exfalso
      omega
     ·
      have e4:((edE e):Int)=0:=by
       unfold edE;(repeat' split)<;>omega
      exact .finE [.r [],.u,.r [],.f,.r []] [] (fun z0:Int=>(VI z0,[])) _ _ e4
theorem y7f(x:Grid)(e:GEd)(hm:x.merges=[])(hnx:NoTx x.cells)(hl:LiteE e):FC Tryz.prog 168 [.t (gridT x),.t (gedT e)] (app emp []) (.tup [VI (fitM x e),VI (fitN x e),VI (fitsE x e)]) (app emp []):=by
 refine .go Tryz.f168 ?_
 have q1:=hl.sp
 have q2:=hl.me
 have q3:=hl.ln
 have hvr:0<e.rows.length→edE e=0→Valid e.rows:=fun _ h=>(y0Z h).okr
 have hvc:0<e.cols.length→edE e=0→Valid e.cols:=fun _ h=>(y0Z h).okc
 refine .bp [.r [],.r [(1,X (Xc0 (z8O x (by assumption) (by assumption)) X0))],.r []] ((gridE x) !=0) (fun h2=> ?_) (fun h2=> ?_)
 ·
  have T:=y8m (e:=e) h2
  have e1:((fitM x e):Int)=0:=by
   exact T.1
  have e2:((fitN x e):Int)=0:=by
   exact T.2.1
  have e3:((fitsE x e):Int)=(gridE x):=by
   exact T.2.2
  exact .finE [.r []] [] (fun((z0,z1,z2):Int×Int×Int)=>(.tup [VI z0,VI z1,VI z2],[])) _ _ (pr e1 (pr e2 e3))
 ·
  refine .bp [.r [(1,X (Xc0 (z4W e (by assumption)) X0))],.r []] ((edE e) !=0) (fun h5=> ?_) (fun h5=> ?_)
  ·
   have T:=y8n (by omega) h5
   have e4:((fitM x e):Int)=0:=by
    exact T.1
   have e5:((fitN x e):Int)=0:=by
    exact T.2.1
   have e6:((fitsE x e):Int)=(edE e):=by
    exact T.2.2
   exact .finE [.r []] [] (fun((z0,z1,z2):Int×Int×Int)=>(.tup [VI z0,VI z1,VI z2],[])) _ _ (pr e4 (pr e5 e6))
  ·
   have hv1:0<e.rows.length→Valid e.rows:=fun h=>hvr h (by omega)
   have hv2:0<e.cols.length→Valid e.cols:=fun h=>hvc h (by omega)
   refine .bp [.r [(4,X (Xc0 (z37 x.rows e.rows (by assumption)) X0))],.r [(4,X (Xc0 (z37 x.cols e.cols (by assumption)) X0))],.r [(4,Xv 1 (!(!(decide (0< (e.rows).length→oldI e.rows=x.rows)))) X0),(5,X (Xk' (!(decide (0< (e.rows).length→oldI e.rows=x.rows)))))]] (!(decide (0< (e.rows).length→oldI e.rows=x.rows))|| !(decide (0< (e.cols).length→oldI e.cols=x.cols))) (fun h9=> ?_) (fun h9=> ?_)
   ·
    have T:=y8o (by omega) (by omega) h9
    have e7:((fitM x e):Int)=0:=by
     exact T.1
    have e8:((fitN x e):Int)=0:=by
     exact T.2.1
    have e9:((fitsE x e):Int)=14:=by
     exact T.2.2
    exact .finE [.r []] [] (fun((z0,z1,z2):Int×Int×Int)=>(.tup [VI z0,VI z1,VI z2],[])) _ _ (pr e7 (pr e8 e9))
   ·
    refine .loop (α:=Nat) [.r [(2,X (Xl cellT e.cells))]] 360 (fun i=>([(3,.ptr 8 0),(9,VI (if 0< (e.rows).length then newI e.rows else x.rows)),(11,VI (if 0< (e.cols).length then newI e.cols else x.cols)),(52,VL 5 cellT e.cells),(53,VI (e.cells.length:Int)),(54,VI (i:Int))],[(8,.box [VL 2 stepT e.rows,VL 2 stepT e.cols,VL 5 cellT e.cells,VL 4 rectT e.split,VL 4 rectT e.merge])])) (fun i=>i≤e.cells.length∧celF e.cells (if 0< (e.rows).length then newI e.rows else x.rows) (if 0< (e.cols).length then newI e.cols else x.cols) 0=celF e.cells (if 0< (e.rows).length then newI e.rows else x.rows) (if 0< (e.cols).length then newI e.cols else x.cols) i) (fun i=>e.cells.length-i) (0:Nat) ?_ ?_
    ·
     exact⟨by omega,rfl⟩
    rintro i I12 ih12
    try dsimp only at I12
    refine .bp [.r []] (decide ((i:Int)< (e.cells.length:Int))) (fun h12=> ?_) (fun h12=> ?_)
    ·
     refine .bp [.r [(0,X (Xi cellT e.cells (i:Int)))],.r [(6,Xv 1 (!(decide ((((e.cells.getD i default)).row)≥(if 0< (e.rows).length then newI e.rows else x.rows)))) X0),(8,Xv 2 (!(decide ((((e.cells.getD i default)).row)≥(if 0< (e.rows).length then newI e.rows else x.rows)))) X0),(9,X (Xk' (decide ((((e.cells.getD i default)).row)≥(if 0< (e.rows).length then newI e.rows else x.rows)))))]] (decide ((((e.cells.getD i default)).row)≥(if 0< (e.rows).length then newI e.rows else x.rows))||decide ((((e.cells.getD i default)).col)≥(if 0< (e.cols).length then newI e.cols else x.cols))) (fun h14=> ?_) (fun h14=> ?_)
     ·
      have hcl:celF e.cells (if 0< (e.rows).length then newI e.rows else x.rows) (if 0< (e.cols).length then newI e.cols else x.cols) 0=2:=by rw[I12.2,celF,if_pos (by omega),if_pos (by omega)]
      have T:=y8p (by omega) (by omega) h9 q1 q2 hcl
      have e10:((fitM x e):Int)=0:=by
       exact T.1
      have e11:((fitN x e):Int)=0:=by
       exact T.2.1
      have e12:((fitsE x e):Int)=2:=by
       exact T.2.2
      exact .finE [.r []] [] (fun((z0,z1,z2):Int×Int×Int)=>(.tup [VI z0,VI z1,VI z2],[])) _ _ (pr e10 (pr e11 e12))
     ·
      refine .back [.r [(0,X (Xn ((i:Int)+1)))]] [(8,8)] (ih12 ((i+1):Nat) ?_ ?_)
      ·
       refine⟨by omega,?_⟩
       rw[I12.2,celF,if_pos (by omega),if_neg (by omega)]
      ·
       ((try dsimp only);omega)
    ·
     refine .loop (α:=Nat) [.r [],.u,.r [],.t,.r [(0,X (Xa (Xc ((0:Int)≤0)) (Xc ((0:Int)< ((2:Nat):Int)))) ⟨by decide,by decide⟩)],.r [(1,X (Xl rectT e.split))]] 464 (fun j=>([(9,VI (if 0< (e.rows).length then newI e.rows else x.rows)),(11,VI (if 0< (e.cols).length then newI e.cols else x.cols)),(73,.t (.agg [TL 4 rectT e.split,TL 4 rectT e.merge])),(74,VI 0),(77,VL 4 rectT e.split),(78,VI (e.split.length:Int)),(79,VI (j:Int))],[])) (fun j=>j=0) (fun j=>0) (0:Nat) ?_ ?_
     ·
      rfl
     rintro j I21 ih21
     try dsimp only at I21
     refine .bp [.r []] (decide ((j:Int)< (e.split.length:Int))) (fun h21=> ?_) (fun h21=> ?_)
     ·
      exfalso
      omega
     ·
      refine .loop (α:=Nat) [.r [],.u,.r [],.t,.r [(0,X (Xa (Xc ((0:Int)≤1)) (Xc ((1:Int)< ((2:Nat):Int)))) ⟨by decide,by decide⟩)],.r [(1,X (Xl rectT e.merge))]] 536 (fun j=>([(9,VI (if 0< (e.rows).length then newI e.rows else x.rows)),(11,VI (if 0< (e.cols).length then newI e.cols else x.cols)),(73,.t (.agg [TL 4 rectT e.split,TL 4 rectT e.merge])),(74,VI 1),(77,VL 4 rectT e.merge),(78,VI (e.merge.length:Int)),(79,VI (j:Int))],[])) (fun j=>j=0) (fun j=>0) (0:Nat) ?_ ?_
      ·
       rfl
      rintro j I21 ih21
      try dsimp only at I21
      refine .bp [.r []] (decide ((j:Int)< (e.merge.length:Int))) (fun h21=> ?_) (fun h21=> ?_)
      ·
       exfalso
       omega
      ·
       have hcl:celF e.cells (if 0< (e.rows).length then newI e.rows else x.rows) (if 0< (e.cols).length then newI e.cols else x.cols) 0=0:=by rw[I12.2,celF,if_neg (by omega)]
       have T:=y8q (by omega) (by omega) h9 q1 q2 hcl
       have e13:((fitM x e):Int)=(if 0< (e.rows).length then newI e.rows else x.rows):=by
        exact T.1
       have e14:((fitN x e):Int)=(if 0< (e.cols).length then newI e.cols else x.cols):=by
        exact T.2.1
       have e15:((fitsE x e):Int)=0:=by
        exact T.2.2
       exact .finE [.r [],.u,.r [],.f,.r []] [] (fun((z0,z1,z2):Int×Int×Int)=>(.tup [VI z0,VI z1,VI z2],[])) _ _ (pr e13 (pr e14 e15))
theorem y8r(x:Grid)(e:GEd)(hm:x.merges=[])(hnx:NoTx x.cells)(hl:LiteE e):FC Tryz.prog 131 [.t (gridT x),.t (gedT e)] (app emp []) (VI (fitsE x e)) (app emp []):=by
 refine .go Tryz.f131 ?_
 exact .fin [.r [],.r [(2,X (Xc0 (y7f x e (by assumption) (by assumption) (by assumption)) X0))],.r []] []
end Go.Ch
end
