/- Parts of the proof: ChAttr2, ChAttr3, OrdPlain, AbNext, AbOxM, ReplPlain, AttrFacts, FlowPlain, ChFlow, AxisPlain, AxisSteps, AxisRead, ChAxis3, AxisJoin, AxisFacts, AxisPlace, GridPlain, GridPlain2, GridText, GridPlain3, GridPlain4, ChGrid, ChRepl, ChAxis6, GridLite, ChGrid6, ChGrid7, ChGrid8, ChGrid9, GridDoc, DocPlain, ChDoc, ChDoc2, DocFind, ChDoc3, ChDoc4, ChDoc5, ChDoc6, ChDoc7, DeltaPlain, EditPlain, ChDoc8, DocCopy, ChDoc9, EditSame, EdSame, EdCopy, ChFlow2, ChDelta. -/
import Derived.Test.YtlgmgpnjkadhfaaGreatDoorM1
import Derived.Test.YtlgmgpnjkadhfaaGreatDoorM2
import Derived.Maps.RangeRun
import Derived.Shelf.Unicode.DecodeSlow
import Derived.Lib.TrimUEq
import Derived.Lib.QuoteLoop
import Derived.Lib.ValidLaws
import Derived.Lib.ValidAsc
set_option linter.unusedVariables false
set_option linter.unusedSimpArgs false
section
set_option maxRecDepth 100000
set_option maxHeartbeats 4000000
open Go Go.Proofs Go.Ab
namespace Go.Ch
theorem z9K(f:FuncId)(g:Attr->Attr->Option Attr)(hfc:z0Y Tryz.prog f=true)(hf:∀(o:List Attr) (x y:Attr),o.length<1099511627776->FC Tryz.prog f [.t (attrT x),.t (attrT y),.ptr 0 0] (app emp [(0,.box [.row 1 o.length]),(1,.row 2 false (List.map attrT o))]) (.tup []) (app emp [(0,.box [.row 1 (o++(g x y).toList).length]),(1,.row 2 false (List.map attrT (o++(g x y).toList)))]))(a b o:List Attr)(hn:o.length+a.length+b.length<1099511627776):FC Tryz.prog 103 [VL 2 attrT a,VL 2 attrT b,.fn f [.ptr 0 0]] (app emp [(0,.box [.row 1 o.length]),(1,OR 2 attrT o)]) (.tup []) (app emp [(0,.box [.row 1 ((o++fm g a b).length)]),(1,OR 2 attrT (o++fm g a b))]):=by
 refine .go Tryz.f103 ?_
 refine .len 0 (fun hl0=> ?_)
 refine .len 1 (fun hl1=> ?_)
 refine .loop (α:=Nat×Nat×(List Attr)) [.r []] 18 (fun(i,j,p)=>([(0,VL 2 attrT a),(1,VL 2 attrT b),(2,.fn f [.ptr 0 0]),(6,VI (i:Int)),(7,VI (j:Int))],[(0,.box [.row 1 p.length]),(1,OR 2 attrT p)])) (fun(i,j,p)=>i<=a.length/\j<=b.length/\p.length<=o.length+i+j/\o++fm g a b=p++fm g (a.drop i) (b.drop j)) (fun(i,j,p)=>(a.length-i)+(b.length-j)) (0,0,o) ?_ ?_
 ·
  exact⟨by omega,by omega,by omega,rfl⟩
 rintro⟨i,j,p⟩ I1 ih1
 try dsimp only at I1
 refine .bp [.r [(2,X (Xl attrT a)),(7,Xv 1 (!(decide ((i:Int)< (a.length:Int)))) (Xl attrT b)),(8,Xv 2 (!(decide ((i:Int)< (a.length:Int)))) X0),(9,X (Xk' (decide ((i:Int)< (a.length:Int)))))]] (decide ((i:Int)< (a.length:Int))||decide ((j:Int)< (b.length:Int))) (fun h1=> ?_) (fun h1=> ?_)
 ·
  refine .bp [.r [(2,X (Xl attrT b)),(7,Xv 1 (!((j:Int)==(b.length:Int))) (Xl attrT a)),(8,Xv 2 (!((j:Int)==(b.length:Int))) X0),(9,Xv 1 (!((j:Int)==(b.length:Int))) X0),(12,Xv 2 ((!((j:Int)==(b.length:Int)))&&(decide ((i:Int)< (a.length:Int)))) (Xi attrT a (i:Int))),(13,Xv 1 ((!((j:Int)==(b.length:Int)))&&(decide ((i:Int)< (a.length:Int)))) X0),(14,Xv 1 ((!((j:Int)==(b.length:Int)))&&(decide ((i:Int)< (a.length:Int)))) X0),(17,Xv 2 ((!((j:Int)==(b.length:Int)))&&(decide ((i:Int)< (a.length:Int)))) (Xi attrT b (j:Int))),(18,Xv 1 ((!((j:Int)==(b.length:Int)))&&(decide ((i:Int)< (a.length:Int)))) X0),(19,Xv 1 ((!((j:Int)==(b.length:Int)))&&(decide ((i:Int)< (a.length:Int)))) X0),(20,Xv 2 ((!((j:Int)==(b.length:Int)))&&(decide ((i:Int)< (a.length:Int)))) X0),(21,Xka (!((j:Int)==(b.length:Int))) (decide ((i:Int)< (a.length:Int)))),(22,X (Xk' ((j:Int)==(b.length:Int))))]] (((j:Int)==(b.length:Int))|| (decide ((i:Int)< (a.length:Int))&&slt (((a.getD i default)).name) (((b.getD j default)).name))) (fun h4=> ?_) (fun h4=> ?_)
  ·
   refine .back [.r [(3,X (Xi attrT a (i:Int))),(6,X (Xc3 338 [(0,0),(1,1)] (hf p ((a.getD i default)) ({name:={data:=#[]},val:={data:=#[]}}:Attr) (by first|omega| (simp;omega))) X0 (hc:=hfc)))],.r [(1,X (Xn ((i:Int)+1)))]] [(0,0),(1,1)] (ih1 ((i+1),j,(p++(g ((a.getD i default)) ({name:={data:=#[]},val:={data:=#[]}}:Attr)).toList)) ?_ ?_)
   ·
    have hi:i<a.length:=by omega
    have hg:=z5T (o:=g (a.getD i default) ⟨{data:=#[]},{data:=#[]}⟩)
    have e:=fm_a (g:=g) (a:=a) (b:=b) (j:=j) hi (by rcases h4 with h|h;(left;omega);exact .inr h.2)
    refine⟨by omega,by omega,by simp only[qf];omega,?_⟩
    rw[I1.2.2.2,e,qR]
   ·
    ((try dsimp only);omega)
  ·
   refine .bp [.r [(2,X (Xl attrT a)),(7,Xv 2 (!((i:Int)==(a.length:Int))) (Xi attrT b (j:Int))),(8,Xv 1 (!((i:Int)==(a.length:Int))) X0),(9,Xv 1 (!((i:Int)==(a.length:Int))) X0),(12,Xv 2 (!((i:Int)==(a.length:Int))) (Xi attrT a (i:Int))),(13,Xv 1 (!((i:Int)==(a.length:Int))) X0),(14,Xv 1 (!((i:Int)==(a.length:Int))) X0),(15,Xv 2 (!((i:Int)==(a.length:Int))) X0),(16,X (Xk' ((i:Int)==(a.length:Int))))]] (((i:Int)==(a.length:Int))||slt (((b.getD j default)).name) (((a.getD i default)).name)) (fun h7=> ?_) (fun h7=> ?_)
   ·
    refine .back [.r [(4,X (Xi attrT b (j:Int))),(6,X (Xc3 482 [(0,0),(1,1)] (hf p ({name:={data:=#[]},val:={data:=#[]}}:Attr) ((b.getD j default)) (by first|omega| (simp;omega))) X0 (hc:=hfc)))],.r [(1,X (Xn ((j:Int)+1)))]] [(0,0),(1,1)] (ih1 (i,(j+1),(p++(g ({name:={data:=#[]},val:={data:=#[]}}:Attr) ((b.getD j default))).toList)) ?_ ?_)
    ·
     have hj:j<b.length:=by omega
     have hg:=z5T (o:=g ⟨{data:=#[]},{data:=#[]}⟩ (b.getD j default))
     have e:=fm_b (g:=g) (a:=a) (b:=b) (i:=i) hj (fun hi=>by rcases h4.2 with h|h;omega;exact h) (by rcases h7 with h|h;(left;omega);exact .inr h)
     refine⟨by omega,by omega,by simp only[qf];omega,?_⟩
     rw[I1.2.2.2,e,qR]
    ·
     ((try dsimp only);omega)
   ·
    refine .back [.r [(3,X (Xi attrT a (i:Int))),(7,X (Xi attrT b (j:Int))),(9,X (Xc3 506 [(0,0),(1,1)] (hf p ((a.getD i default)) ((b.getD j default)) (by first|omega| (simp;omega))) X0 (hc:=hfc)))],.r [(1,X (Xn ((i:Int)+1))),(3,X (Xn ((j:Int)+1)))]] [(0,0),(1,1)] (ih1 ((i+1),(j+1),(p++(g ((a.getD i default)) ((b.getD j default))).toList)) ?_ ?_)
    ·
     have hi:i<a.length:=by omega
     have hj:j<b.length:=by omega
     have hg:=z5T (o:=g (a.getD i default) (b.getD j default))
     have e:=fm_ab (g:=g) (a:=a) (b:=b) hi hj (by rcases h4.2 with h|h;omega;exact h) h7.2
     refine⟨by omega,by omega,by simp only[qf];omega,?_⟩
     rw[I1.2.2.2,e,qR]
    ·
     ((try dsimp only);omega)
 ·
  have e1:((o++fm g a b).length:Nat)=p.length:=by
   rw[I1.2.2.2,y6V (by omega) (by omega),qM]
  have e2:((o++fm g a b):List Attr)=p:=by
   rw[I1.2.2.2,y6V (by omega) (by omega),qM]
  exact .finE [] [(0,0),(1,1)] (fun((z0,z1):Nat×(List Attr))=>(.tup [],[(0,.box [.row 1 z0]),(1,OR 2 attrT z1)])) _ _ (pr e1 e2)
theorem y7F(o:List Attr)(x y:Attr)(hn:o.length<1099511627776):FC Tryz.prog 104 [.t (attrT x),.t (attrT y),.ptr 0 0] (app emp [(0,.box [.row 1 o.length]),(1,OR 2 attrT o)]) (.tup []) (app emp [(0,.box [.row 1 ((o++(rawG x y).toList).length)]),(1,OR 2 attrT (o++(rawG x y).toList))]):=by
 refine .go Tryz.f104 ?_
 refine .bp [.r [],.r []] (seq y.name ({data:=#[]})) (fun h1=> ?_) (fun h1=> ?_)
 ·
  have e1:((o++(rawG x y).toList).length:Nat)=(o++[x]).length:=by
   simp only[z0u,z1a] at*;unfold rawG;(repeat' split)<;>simp_all
  have e2:((o++(rawG x y).toList):List Attr)=(o++[x]):=by
   simp only[z0u,z1a] at*;unfold rawG;(repeat' split)<;>simp_all
  exact .finE [.r [(3,X (rowC attrT [x] (Xap 2 attrT 1 o [x])))]] [(0,0),(1,1)] (fun((z0,z1):Nat×(List Attr))=>(.tup [],[(0,.box [.row 1 z0]),(1,OR 2 attrT z1)])) _ _ (pr e1 e2)
 ·
  refine .bp [.r []] (!(seq y.val ({data:=#[]}))) (fun h3=> ?_) (fun h3=> ?_)
  ·
   have e3:((o++(rawG x y).toList).length:Nat)=(o++[y]).length:=by
    simp only[z0u,z1a] at*;unfold rawG;(repeat' split)<;>simp_all
   have e4:((o++(rawG x y).toList):List Attr)=(o++[y]):=by
    simp only[z0u,z1a] at*;unfold rawG;(repeat' split)<;>simp_all
   exact .finE [.r [(3,X (rowC attrT [y] (Xap 2 attrT 1 o [y])))]] [(0,0),(1,1)] (fun((z0,z1):Nat×(List Attr))=>(.tup [],[(0,.box [.row 1 z0]),(1,OR 2 attrT z1)])) _ _ (pr e3 e4)
  ·
   have e5:((o++(rawG x y).toList).length:Nat)=o.length:=by
    simp only[z0u,z1a] at*;unfold rawG;(repeat' split)<;>simp_all
   have e6:((o++(rawG x y).toList):List Attr)=o:=by
    simp only[z0u,z1a] at*;unfold rawG;(repeat' split)<;>simp_all
   exact .finE [] [(0,0),(1,1)] (fun((z0,z1):Nat×(List Attr))=>(.tup [],[(0,.box [.row 1 z0]),(1,OR 2 attrT z1)])) _ _ (pr e5 e6)
theorem y7G(o:List Attr)(x y:Attr)(hn:o.length<1099511627776):FC Tryz.prog 151 [.t (attrT x),.t (attrT y),.ptr 0 0] (app emp [(0,.box [.row 1 o.length]),(1,OR 2 attrT o)]) (.tup []) (app emp [(0,.box [.row 1 ((o++(wioG x y).toList).length)]),(1,OR 2 attrT (o++(wioG x y).toList))]):=by
 refine .go Tryz.f151 ?_
 refine .bp [.r [],.r []] (seq y.name ({data:=#[]})) (fun h1=> ?_) (fun h1=> ?_)
 ·
  have e1:((o++(wioG x y).toList).length:Nat)=(o++[x]).length:=by
   simp only[z0u,z1a] at*;unfold wioG;(repeat' split)<;>simp_all
  have e2:((o++(wioG x y).toList):List Attr)=(o++[x]):=by
   simp only[z0u,z1a] at*;unfold wioG;(repeat' split)<;>simp_all
  exact .finE [.r [(3,X (rowC attrT [x] (Xap 2 attrT 1 o [x])))]] [(0,0),(1,1)] (fun((z0,z1):Nat×(List Attr))=>(.tup [],[(0,.box [.row 1 z0]),(1,OR 2 attrT z1)])) _ _ (pr e1 e2)
 ·
  have e3:((o++(wioG x y).toList).length:Nat)=o.length:=by
   simp only[z0u,z1a] at*;unfold wioG;(repeat' split)<;>simp_all
  have e4:((o++(wioG x y).toList):List Attr)=o:=by
   simp only[z0u,z1a] at*;unfold wioG;(repeat' split)<;>simp_all
  exact .finE [] [(0,0),(1,1)] (fun((z0,z1):Nat×(List Attr))=>(.tup [],[(0,.box [.row 1 z0]),(1,OR 2 attrT z1)])) _ _ (pr e3 e4)
theorem y7H(o:List Attr)(x y:Attr)(hn:o.length<1099511627776):FC Tryz.prog 152 [.t (attrT x),.t (attrT y),.ptr 0 0] (app emp [(0,.box [.row 1 o.length]),(1,OR 2 attrT o)]) (.tup []) (app emp [(0,.box [.row 1 ((o++(botG x y).toList).length)]),(1,OR 2 attrT (o++(botG x y).toList))]):=by
 refine .go Tryz.f152 ?_
 refine .bp [.r [],.r []] (seq y.name ({data:=#[]})) (fun h1=> ?_) (fun h1=> ?_)
 ·
  have e1:((o++(botG x y).toList).length:Nat)=(o++[x]).length:=by
   simp only[z0u,z1a] at*;unfold botG;(repeat' split)<;>simp_all
  have e2:((o++(botG x y).toList):List Attr)=(o++[x]):=by
   simp only[z0u,z1a] at*;unfold botG;(repeat' split)<;>simp_all
  exact .finE [.r [],.r [(3,X (rowC attrT [x] (Xap 2 attrT 1 o [x])))]] [(0,0),(1,1)] (fun((z0,z1):Nat×(List Attr))=>(.tup [],[(0,.box [.row 1 z0]),(1,OR 2 attrT z1)])) _ _ (pr e1 e2)
 ·
  have e3:((o++(botG x y).toList).length:Nat)=(o++[y]).length:=by
   simp only[z0u,z1a] at*;unfold botG;(repeat' split)<;>simp_all
  have e4:((o++(botG x y).toList):List Attr)=(o++[y]):=by
   simp only[z0u,z1a] at*;unfold botG;(repeat' split)<;>simp_all
  exact .finE [.r [(3,X (rowC attrT [y] (Xap 2 attrT 1 o [y])))]] [(0,0),(1,1)] (fun((z0,z1):Nat×(List Attr))=>(.tup [],[(0,.box [.row 1 z0]),(1,OR 2 attrT z1)])) _ _ (pr e3 e4)
theorem z5U(a b:List Attr)(hn:a.length+b.length<1099511627776):FC Tryz.prog 66 [VL 2 attrT a,VL 2 attrT b] (app emp []) (VL 2 attrT (fm rawG a b)) (app emp []):=by
 refine .go Tryz.f66 ?_
 refine .len 0 (fun hl0=> ?_)
 refine .len 1 (fun hl1=> ?_)
 exact .fin [.r [],.r [],.le (.nB 8 0 2),.r [(3,X (Xc3 41 [(0,8),(1,16)] (z9K 104 rawG (by kernel_rfl) y7F a b [] (by simp;omega)) X0))],.r [],.le (.fr 4 [(((fm rawG a b).length):Nat)=(List.map attrT (fm rawG a b)).length] ⟨lm,trivial⟩)] []
theorem y19(a b:List Attr)(hn:a.length+b.length<1099511627776):FC Tryz.prog 112 [VL 2 attrT a,VL 2 attrT b] (app emp []) (VL 2 attrT (fm wioG a b)) (app emp []):=by
 refine .go Tryz.f112 ?_
 refine .len 0 (fun hl0=> ?_)
 refine .len 1 (fun hl1=> ?_)
 exact .fin [.r [],.r [],.le (.nB 8 0 2),.r [(3,X (Xc3 41 [(0,8),(1,16)] (z9K 151 wioG (by kernel_rfl) y7G a b [] (by simp;omega)) X0))],.r [],.le (.fr 4 [(((fm wioG a b).length):Nat)=(List.map attrT (fm wioG a b)).length] ⟨lm,trivial⟩)] []
theorem y5Q(a b:List Attr)(hn:a.length+b.length<1099511627776):FC Tryz.prog 114 [VL 2 attrT a,VL 2 attrT b] (app emp []) (VL 2 attrT (fm botG a b)) (app emp []):=by
 refine .go Tryz.f114 ?_
 refine .len 0 (fun hl0=> ?_)
 refine .len 1 (fun hl1=> ?_)
 exact .fin [.r [],.r [],.le (.nB 8 0 2),.r [(3,X (Xc3 41 [(0,8),(1,16)] (z9K 152 botG (by kernel_rfl) y7H a b [] (by simp;omega)) X0))],.r [],.le (.fr 4 [(((fm botG a b).length):Nat)=(List.map attrT (fm botG a b)).length] ⟨lm,trivial⟩)] []

end Go.Ch
end
section
namespace Go.Ch
open Go Go.Ab
def intT(z:Int):Tree:= .sc (.int .i64 z)
def strT(s:ByteArray):Tree:= .sc (.string s)
def cmpI(x y:Int):Int:=if x<y then-1 else if x>y then 1 else 0
def orL:List Int->Int
 | []=>0
 |x::l=>if x≠0 then x else orL l
theorem y6W{l:List Int}{i:Nat}(h:i<l.length):orL (l.drop i)=if l.getD i default≠0 then l.getD i default else orL (l.drop (i+1)):=by
 rw[zk h,orL]
 simp[List.getD,qa h]
theorem y7I(a b:Int):orL [a,b]=if a≠0 then a else b:=by
 by_cases h:a=0
 ·by_cases k:b=0<;>simp[orL,h,k]
 ·simp[orL,h]
end Go.Ch
end
section
namespace Go.Ab
open Go
variable {P:Program} {w:World} {F:Fen P} {S:Store} {m:Place} {n:Nat} {l0:List (Nat×Ob)} {s:St} {Q:Exit->St->Prop}
end Go.Ab
end
section
namespace Go.Ab
open Go
variable {P:Program}
def Xm0(es:List (Int×MV))(n:Int):Px (lookE es n=none):=⟨⟨none,none,none,some ⟨0,[],.junk,[]⟩,[]⟩,[lookE es n=none],fun h=>⟨h,trivial⟩⟩
def Xmu{β:Type}(f:β->Int×MV)(l l':List β)(n:Int)(id:Nat)(v:MV):Px (putE (l.map f) n v=l'.map f):=
 ⟨⟨none,some [(id,.mp (l'.map f) none)],none,none,[]⟩,[[(id,Ob.mp (l'.map f) none)]=[(id,Ob.mp (putE (l.map f) n v) none)]],fun h=>⟨by rw[h],trivial⟩⟩
end Go.Ab
end
section
namespace Go.Ch
open Go Go.Ab
structure DOp where
 clock:Int
 site:Int
 kind:Int
 itm:Int
 prt:Int
 plc:ByteArray
 nm:ByteArray
 vl:ByteArray
 deriving DecidableEq
instance:Inhabited DOp:=⟨⟨0,0,0,0,0,mt,mt,mt⟩⟩
def dopT(o:DOp):Tree:= .agg [TI o.clock,TI o.site,TI o.kind,TI o.itm,TI o.prt,TS o.plc,TS o.nm,TS o.vl]
structure DItem where
 item:Int
 parent:Int
 place:ByteArray
 attrs:List Attr
instance:Inhabited DItem:=⟨⟨0,0,mt,[]⟩⟩
def plS(s:ByteArray)(i:Nat):Bool:=if i<s.size then(if byt s i<97\/122<byt s i then false else plS s (i+1)) else true
termination_by s.size-i
def z2R(s:ByteArray):Bool:=decide (1<=s.size/\s.size<=200/\byt s (s.size- 1)≠97)&&plS s 0
def z4V(a b:DOp):Int:=orL [cmpI a.clock b.clock,cmpI a.site b.site]
def ltO(a b:DOp):Prop:=a.clock<b.clock\/(a.clock=b.clock/\a.site<b.site)
instance (a b:DOp):Decidable (ltO a b):=by unfold ltO;infer_instance
theorem z24{a b:DOp}:z4V a b<0↔ltO a b:=by
 unfold z4V ltO cmpI
 rw[y7I]
 split<;>split<;>(try split)<;>(try split)<;>omega
theorem z8w{a b:DOp}:0<=z4V a b↔¬ltO a b:=by rw[<-z24];omega
theorem z5V{a b c:DOp}(h:ltO a b)(k:ltO b c):ltO a c:=by unfold ltO at*;omega
def opE(o:DOp):Int:=
 if o.kind≠0/\o.kind≠1 then 8
 else if o.clock<1\/1073741824<o.clock\/o.site<0\/1000<o.site\/o.itm<1\/1073741824<o.itm then 2
 else if(o.kind=0/\(seq o.nm mt=false\/seq o.vl mt=false))\/(o.kind=1/\(o.prt≠0\/seq o.plc mt=false)) then 4
 else if o.kind=0/\(o.prt< -1\/1073741824<o.prt) then 2
 else if(o.kind=0/\z2R o.plc=false)\/(o.kind=1/\z1f o.nm=false) then 9
 else if o.kind=1/\seq o.vl mt=false/\valGo o.vl=false then 23
 else 0
def drawE(l:List DOp)(i:Nat):Int:=
 if i<l.length then
  if opE (l.getD i default)≠0 then opE (l.getD i default)
  else if 0<i/\¬ltO (l.getD (i- 1) default) (l.getD i default) then 5
  else drawE l (i+1)
 else 0
termination_by l.length-i
def z0w:List DOp->List DOp->Option (List DOp)
 | [],[]=>some []
 |a::l,[]=>(z0w l []).map (a:: ·)
 | [],b::r=>(z0w [] r).map (b:: ·)
 |a::l,b::r=>
  if ltO a b then(z0w l (b::r)).map (a:: ·)
  else if ltO b a then(z0w (a::l) r).map (b:: ·)
  else if a=b then(z0w l r).map (a:: ·) else none
termination_by a b=>a.length+b.length
theorem z9L{x y:List DOp}(h:0<x.length)(hy:y.length=0\/ltO (x.getD 0 default) (y.getD 0 default)):z0w x y=(z0w (x.drop 1) y).map (x.getD 0 default:: ·):=by
 cases x with
 |nil=>simp at h
 |cons a l=>
  cases y with
  |nil=>simp[z0w]
  |cons b r=>simp only[zx] at hy;rw[z0w,if_pos (by simpa using hy)];rfl
theorem z8x{x y:List DOp}(h:0<y.length)(hx:x.length=0\/ltO (y.getD 0 default) (x.getD 0 default)):z0w x y=(z0w x (y.drop 1)).map (y.getD 0 default:: ·):=by
 cases y with
 |nil=>simp at h
 |cons b r=>
  cases x with
  |nil=>simp[z0w]
  |cons a l=>
   simp only[zx] at hx
   have hx:ltO b a:=by simpa using hx
   rw[z0w,if_neg (by unfold ltO at*;omega),if_pos hx];rfl
theorem z9M{x y:List DOp}(h:0<x.length)(h':0<y.length)(h1:¬ltO (x.getD 0 default) (y.getD 0 default))(h2:¬ltO (y.getD 0 default) (x.getD 0 default)):
 z0w x y=if x.getD 0 default=y.getD 0 default then(z0w (x.drop 1) (y.drop 1)).map (x.getD 0 default:: ·) else none:=by
 cases x with
 |nil=>simp at h
 |cons a l=>
  cases y with
  |nil=>simp at h'
  |cons b r=>simp only[zx] at h1 h2;rw[z0w,if_neg h1,if_neg h2];rfl
theorem y7J{a b:DOp}(h1:a.clock=b.clock)(h2:a.site=b.site)(h3:a.kind=b.kind)(h4:a.itm=b.itm)(h5:a.prt=b.prt)(h6:a.plc=b.plc)(h7:a.nm=b.nm)(h8:a.vl=b.vl):a=b:=by
 cases a;cases b;simp_all
def NPg(s:ByteArray):Prop:=z1f s=true
def VPg(s:ByteArray):Prop:=valGo s=true
theorem np_mt:¬NPg mt:=by
 unfold NPg z1f
 rw[decide_eq_false (by intro h;have:=h.1;simp[ByteArray.size] at this)]
 decide
theorem vp_mt:¬VPg mt:=by
 unfold VPg valGo
 rw[decide_eq_false (by intro h;have:=h.1;simp[ByteArray.size] at this)]
 decide
abbrev VG:=V NPg VPg
theorem z10{a:Attr}{l:List Attr}{k:Nat}:(a::l).getD (k+1) default=l.getD k default:=by simp[List.getD]
theorem y2a{a:Attr}{l:List Attr}:(a::l).getD 0 default=a:=rfl
theorem z3X:∀{l:List Attr},(∀k,k+1<l.length->slt (l.getD k default).name (l.getD (k+1) default).name=true)->z2c l
 | [],_=>trivial
 | [a],_=>⟨fun b hb=>(by cases hb),trivial⟩
 |a::b::l,h=>by
  have ih:=z3X (l:=b::l) (fun k hk=>by have:=h (k+1) (by simp at hk|-;omega);simpa using this)
  have h0:=h 0 (by simp)
  simp only[y2a,z10] at h0
  refine⟨fun c hc=> ?_,ih⟩
  rcases qj.1 hc with rfl|hc
  ·exact h0
  ·exact z2s h0 (ih.1 c hc)
theorem z3Y:∀{l:List Attr},z2c l->∀k,k+1<l.length->slt (l.getD k default).name (l.getD (k+1) default).name=true
 | [],_,k,hk=>by simp at hk
 |a::l,h,0,hk=>by
  cases l with
  |nil=>simp at hk
  |cons b l=>exact h.1 b (by simp)
 |a::l,h,k+1,hk=>by
  have:=z3Y h.2 k (by simp at hk;omega)
  rw[z10,z10];exact this
theorem y5R{l:List Attr}{k:Nat}(h:k<l.length):l.getD k default∈l:=by
 rw[show l.getD k default=l[k] by simp[List.getD,qa h]]
 exact zo h
theorem y5S{l:List Attr}{a:Attr}(h:a∈l):∃k,k<l.length/\l.getD k default=a:=by
 obtain⟨k,hk,e⟩:=ze.1 h
 exact⟨k,hk,by rw[<-e];simp[List.getD,qa hk]⟩
theorem y0P(e:Bool)(l:List Attr):∀(n i:Nat),l.length-i=n->(chkA e l i=0↔∀k,i<=k->k<l.length->Q NPg VPg e (l.getD k default).name (l.getD k default).val/\(0<k->slt (l.getD (k- 1) default).name (l.getD k default).name=true))
 |0,i,h=>by
  rw[chkA,if_neg (by omega)]
  exact⟨fun _ k h1 h2=>by omega,fun _=>rfl⟩
 |n+1,i,h=>by
  have hi:i<l.length:=by omega
  have ih:=y0P e l n (i+1) (by omega)
  rw[chkA,if_pos hi]
  have step:(∀k,i<=k->k<l.length->Q NPg VPg e (l.getD k default).name (l.getD k default).val/\(0<k->slt (l.getD (k- 1) default).name (l.getD k default).name=true))↔
   (Q NPg VPg e (l.getD i default).name (l.getD i default).val/\(0<i->slt (l.getD (i- 1) default).name (l.getD i default).name=true))/\chkA e l (i+1)=0:=by
   rw[ih]
   constructor
   ·exact fun h=>⟨h i (qt _) hi,fun k h1 h2=>h k (by omega) h2⟩
   ·rintro⟨h1,h2⟩ k h3 h4
    by_cases e:k=i
    ·subst e;exact h1
    ·exact h2 k (by omega) h4
  rw[step]
  generalize(l.getD i default)=x
  generalize(l.getD (i- 1) default)=y
  unfold Q NPg VPg
  have hm:seq x.val {data:=#[]}=true↔x.val=mt:=z0u
  have hm2:seq x.val {data:=#[]}=false↔x.val≠mt:=z1a
  simp only[y6U,hm2]
  cases h1:z1f x.name with
  |false=>simp
  |true=>
   rw[if_neg (by decide)]
   cases h2:valGo x.val with
   |false=>
    by_cases h3:e=false\/x.val≠mt
    ·rw[if_pos ⟨rfl,h3⟩]
     constructor
     ·intro h;cases h
     ·rintro⟨⟨⟨_,h| ⟨h,h'⟩⟩,_⟩,_⟩
      ·cases h
      ·rcases h3 with h3|h3
       ·rw[h3] at h;cases h
       ·exact absurd h' h3
    ·rw[if_neg (fun h=>h3 h.2)]
     have he:e=true:=by cases e with|true=>rfl|false=>exact absurd (.inl rfl) h3
     have hx:x.val=mt:=qd fun h=>h3 (.inr h)
     by_cases h4:0<i/\slt y.name x.name=false
     ·rw[if_pos h4]
      constructor
      ·intro h;cases h
      ·rintro⟨⟨_,h⟩,_⟩;rw[h h4.1] at h4;cases h4.2
     ·rw[if_neg h4]
      refine⟨fun h=>⟨⟨⟨rfl,.inr ⟨he,hx⟩⟩,fun h0=> ?_⟩,h⟩,fun h=>h.2⟩
      cases h5:slt y.name x.name with
      |true=>rfl
      |false=>exact absurd ⟨h0,h5⟩ h4
   |true=>
    rw[if_neg (fun h=>by cases h.1)]
    by_cases h4:0<i/\slt y.name x.name=false
    ·rw[if_pos h4]
     constructor
     ·intro h;cases h
     ·rintro⟨⟨_,h⟩,_⟩;rw[h h4.1] at h4;cases h4.2
    ·rw[if_neg h4]
     refine⟨fun h=>⟨⟨⟨rfl,.inl rfl⟩,fun h0=> ?_⟩,h⟩,fun h=>h.2⟩
     cases h5:slt y.name x.name with
     |true=>rfl
     |false=>exact absurd ⟨h0,h5⟩ h4
theorem z05{e:Bool}{l:List Attr}:chkA e l 0=0↔VG e l:=by
 rw[y0P e l l.length 0 (by omega)]
 constructor
 ·intro h
  refine⟨z3X (fun k hk=>(h (k+1) (by omega) hk).2 (by omega)),fun a ha=> ?_⟩
  obtain⟨k,hk,rfl⟩:=y5S ha
  exact(h k (by omega) hk).1
 ·intro h k _ hk
  refine⟨h.2 _ (y5R hk),fun h0=> ?_⟩
  have:=z3Y h.1 (k- 1) (by omega)
  rw[show k- 1+1=k by omega] at this
  exact this
theorem z6G(a:List Attr):∀(n i:Nat),a.length-i=n->sameA a a i=true
 |0,i,h=>by rw[sameA,if_neg (by omega)]
 |n+1,i,h=>by
  have hi:i<a.length:=by omega
  rw[sameA,if_pos hi,if_pos ⟨rfl,rfl⟩,z6G a n (i+1) (by omega)]
theorem z6H(a:List Attr):sameL a a=true:=by unfold sameL;rw[z6G a _ 0 rfl];simp
theorem z8y(l:List Attr)(x:ByteArray):∀(n i:Nat),l.length-i=n->getA l x i=(look (l.drop i) x).getD mt
 |0,i,h=>by rw[getA,if_neg (by omega),z3W (by omega)];rfl
 |n+1,i,h=>by
  have hi:i<l.length:=by omega
  rw[getA,if_pos hi,z3t hi,look]
  split
  ·rfl
  ·exact z8y l x n (i+1) (by omega)
theorem z7x(l:List Attr)(x:ByteArray):getA l x 0=(look l x).getD mt:=z8y l x _ 0 rfl
structure Elem where
 char:Int
 ref:Int
 attrs:List Attr
instance:Inhabited Elem:=⟨⟨0,0,[]⟩⟩
def elemT(e:Elem):Tree:= .agg [.sc (.int .i64 e.char),.sc (.int .i64 e.ref),.lst 2 (e.attrs.map attrT)]
def CharP(c:Int):Prop:=c=9\/c=10\/(32<=c/\c<127)\/(160<=c/\c<55296)\/(57343<c/\c<=1114111)
instance (c:Int):Decidable (CharP c):=by unfold CharP;infer_instance
def elemE(x:Elem):Int:=
 if x.char=0↔x.ref=0 then 4
 else if(x.ref=0/\¬CharP x.char)\/(x.ref≠0/\(x.ref<1\/1073741824<x.ref)) then 2
 else chkA false x.attrs 0
theorem z5W{x:Elem}(h:x.char=0↔x.ref=0):elemE x=4:=by unfold elemE;rw[if_pos h]
theorem z2h{x:Elem}(h:¬(x.char=0↔x.ref=0))(h2:(x.ref=0/\¬CharP x.char)\/(x.ref≠0/\(x.ref<1\/1073741824<x.ref))):elemE x=2:=by unfold elemE;rw[if_neg h,if_pos h2]
theorem z3u{x:Elem}(h:¬(x.char=0↔x.ref=0))(h3:¬x.ref=0\/CharP x.char)(h4:x.ref=0\/(1<=x.ref/\x.ref<=1073741824)):elemE x=chkA false x.attrs 0:=by
 unfold elemE
 rw[if_neg h,if_neg]
 rintro(⟨a,b⟩| ⟨a,b⟩)
 ·rcases h3 with h3|h3
  ·exact h3 a
  ·exact b h3
 ·rcases h4 with h4|h4
  ·exact a h4
  ·omega
def partE(l:List Elem)(i:Nat):Int:=if i<l.length then(if elemE (l.getD i default)=0 then partE l (i+1) else elemE (l.getD i default)) else 0
termination_by l.length-i
def SzE(l:List Elem):Prop:=∀x∈l,Szd x.attrs
theorem z11{l:List Elem}{k:Nat}(h:k<l.length):l.getD k default∈l:=by
 rw[show l.getD k default=l[k] by simp[List.getD,qa h]]
 exact zo h
theorem z8z(a b:List Attr):∀(n i:Nat),a.length-i=n->sameA a b i=true->∀k,i<=k->k<a.length->a.getD k default=b.getD k default
 |0,i,h,_=>fun k h1 h2=>by omega
 |n+1,i,h,hs=>by
  have hi:i<a.length:=by omega
  rw[sameA,if_pos hi] at hs
  split at hs
  ·rename_i he
   intro k h1 h2
   by_cases e:k=i
   ·subst e
    generalize a.getD k default=x at*
    generalize b.getD k default=y at*
    cases x;cases y;simp_all
   ·exact z8z a b n (i+1) (by omega) hs k (by omega) h2
  ·cases hs
theorem y5T{a b:List Attr}:sameL a b=true↔a=b:=by
 constructor
 ·intro h
  unfold sameL at h
  simp only[qm,decide_eq_true_eq] at h
  refine List.ext_getElem h.1 (fun k h1 h2=> ?_)
  have:=z8z a b _ 0 rfl h.2 k (by omega) h1
  simpa[List.getD,qa h1,qa h2] using this
 ·intro h;subst h;exact z6H _
theorem z8A(l:List Elem):∀(n i:Nat),l.length-i=n->(partE l i=0↔∀k,i<=k->k<l.length->elemE (l.getD k default)=0)
 |0,i,h=>by rw[partE,if_neg (by omega)];exact⟨fun _ k h1 h2=>by omega,fun _=>rfl⟩
 |n+1,i,h=>by
  have hi:i<l.length:=by omega
  have ih:=z8A l n (i+1) (by omega)
  rw[partE,if_pos hi]
  by_cases e:elemE (l.getD i default)=0
  ·rw[if_pos e,ih]
   constructor
   ·intro h k h1 h2
    by_cases ek:k=i
    ·subst ek;exact e
    ·exact h k (by omega) h2
   ·exact fun h k h1 h2=>h k (by omega) h2
  ·rw[if_neg e]
   exact⟨fun h=>absurd h e,fun h=>h i (qt _) hi⟩
theorem y5U{l:List Elem}:partE l 0=0↔∀x∈l,elemE x=0:=by
 rw[z8A l _ 0 rfl]
 constructor
 ·intro h x hx
  obtain⟨k,hk,e⟩:=ze.1 hx
  have:=h k (by omega) hk
  rw[<-e]
  simpa[List.getD,qa hk] using this
 ·exact fun h k _ hk=>h _ (z11 hk)
theorem y7K{x:Elem}(h:elemE x=0):VG false x.attrs:=by
 unfold elemE at h
 split at h
 ·omega
 ·split at h
  ·omega
  ·exact z05.1 h
end Go.Ch
end
section
set_option maxRecDepth 100000
set_option maxHeartbeats 4000000
open Go Go.Proofs Go.Ab
namespace Go.Ch
theorem z9N(c:Int):FC Tryz.prog 62 [VI c] (app emp []) (VB (decide (CharP c))) (app emp []):=by
 refine .go Tryz.f62 ?_
 have e1:((decide (CharP c)):Bool)=(((((c==9)|| (c==10))|| (decide (c>=32)&&decide (c<127)))|| (decide (c>=160)&&decide (c<55296)))|| (decide (c>57343)&&decide (c<=1114111))):=by
  rw[zh,decide_eq_true_iff];unfold CharP;simp only[qF,qm,decide_eq_true_eq,beq_iff_eq];constructor<;>intro hh<;>omega
 exact .finE [.r [],.r [(4,Xv 1 (!(c==9)) X0),(5,X (Xk' (c==9))),(8,Xv 1 (!((c==9)|| (c==10))) X0),(9,Xv 1 (!((c==9)|| (c==10))) X0),(11,Xv 1 ((!((c==9)|| (c==10)))&&(decide (c>=32))) X0),(12,Xka (!((c==9)|| (c==10))) (decide (c>=32))),(13,X (Xk' ((c==9)|| (c==10)))),(16,Xv 1 (!(((c==9)|| (c==10))|| (decide (c>=32)&&decide (c<127)))) X0),(17,Xv 1 (!(((c==9)|| (c==10))|| (decide (c>=32)&&decide (c<127)))) X0),(19,Xv 1 ((!(((c==9)|| (c==10))|| (decide (c>=32)&&decide (c<127))))&&(decide (c>=160))) X0),(20,Xka (!(((c==9)|| (c==10))|| (decide (c>=32)&&decide (c<127)))) (decide (c>=160))),(21,X (Xk' (((c==9)|| (c==10))|| (decide (c>=32)&&decide (c<127))))),(24,Xv 1 (!((((c==9)|| (c==10))|| (decide (c>=32)&&decide (c<127)))|| (decide (c>=160)&&decide (c<55296)))) X0),(25,Xv 1 (!((((c==9)|| (c==10))|| (decide (c>=32)&&decide (c<127)))|| (decide (c>=160)&&decide (c<55296)))) X0),(27,Xv 1 ((!((((c==9)|| (c==10))|| (decide (c>=32)&&decide (c<127)))|| (decide (c>=160)&&decide (c<55296))))&&(decide (c>57343))) X0),(28,Xka (!((((c==9)|| (c==10))|| (decide (c>=32)&&decide (c<127)))|| (decide (c>=160)&&decide (c<55296)))) (decide (c>57343))),(29,X (Xk' ((((c==9)|| (c==10))|| (decide (c>=32)&&decide (c<127)))|| (decide (c>=160)&&decide (c<55296)))))]] [] (fun z0:Bool=>(VB z0,[])) _ _ e1
theorem fc_in(x a b:Int):FC Tryz.prog 58 [VI x,VI a,VI b] (app emp []) (VB (decide (a<=x/\x<=b))) (app emp []):=by
 refine .go Tryz.f58 ?_
 have e1:((decide (a<=x/\x<=b)):Bool)=(decide (x>=a)&&decide (x<=b)):=by
  rw[zh];simp;try omega
 exact .finE [.r [],.r [(6,Xv 2 (decide (x>=a)) X0),(7,X (Xk (decide (x>=a))))]] [] (fun z0:Bool=>(VB z0,[])) _ _ e1
theorem y5V(c:Int):FC Tryz.prog 28 [VI c] (app emp []) (VB (decide (CharP c))) (app emp []):=by
 refine .go Tryz.f28 ?_
 have e1:((decide (CharP c)):Bool)=(((((c==9)|| (c==10))|| (decide (32<=c/\c<=126)))|| (decide (160<=c/\c<=55295)))|| (decide (57344<=c/\c<=1114111))):=by
  rw[zh,decide_eq_true_iff];unfold CharP;simp only[qF,qm,decide_eq_true_eq,beq_iff_eq];constructor<;>intro hh<;>omega
 exact .finE [.r [],.r [(4,Xv 1 (!(c==9)) X0),(5,X (Xk' (c==9))),(8,Xv 1 (!((c==9)|| (c==10))) (Xc0 (fc_in c 32 126) X0)),(9,X (Xk' ((c==9)|| (c==10)))),(12,Xv 1 (!(((c==9)|| (c==10))|| (decide (32<=c/\c<=126)))) (Xc0 (fc_in c 160 55295) X0)),(13,X (Xk' (((c==9)|| (c==10))|| (decide (32<=c/\c<=126))))),(16,Xv 1 (!((((c==9)|| (c==10))|| (decide (32<=c/\c<=126)))|| (decide (160<=c/\c<=55295)))) (Xc0 (fc_in c 57344 1114111) X0)),(17,X (Xk' ((((c==9)|| (c==10))|| (decide (32<=c/\c<=126)))|| (decide (160<=c/\c<=55295)))))]] [] (fun z0:Bool=>(VB z0,[])) _ _ e1
theorem z1v{a b:Int}:((a !=0)=(b !=0))↔(a=0↔b=0):=by
 rw[zh];simp;omega
theorem y3E(x:Elem):FC Tryz.prog 156 [.t (elemT x)] (app emp []) (VI (elemE x)) (app emp []):=by
 refine .go Tryz.f156 ?_
 refine .bp [.r [],.r []] ((x.char !=0)==(x.ref !=0)) (fun h1=> ?_) (fun h1=> ?_)
 ·
  have e1:((elemE x):Int)=4:=by
   first|exact z5W (z1v.1 h1)|exact z2h (fun h=>h1 (z1v.2 h)) (.inl h3)|exact z2h (fun h=>h1 (z1v.2 h)) (.inr h4)|exact z3u (fun h=>h1 (z1v.2 h)) h3 h4| (exfalso;simp_all;done)
  exact .finE [.r []] [] (fun z0:Int=>(VI z0,[])) _ _ e1
 ·
  refine .bp [.r [(5,Xv 1 (x.ref==0) X0),(6,Xv 1 (x.ref==0) (Xc0 (z9N x.char) X0)),(7,Xv 1 (x.ref==0) X0),(8,X (Xk (x.ref==0)))]] ((x.ref==0)&& !(decide (CharP x.char))) (fun h3=> ?_) (fun h3=> ?_)
  ·
   refine .bp [] ((x.ref==0)&& !(decide (CharP x.char))) (fun h3=> ?_) (fun h3=> ?_)
   ·
    have e2:((elemE x):Int)=2:=by
     first|exact z5W (z1v.1 h1)|exact z2h (fun h=>h1 (z1v.2 h)) (.inl h3)|exact z2h (fun h=>h1 (z1v.2 h)) (.inr h4)|exact z3u (fun h=>h1 (z1v.2 h)) h3 h4| (exfalso;simp_all;done)
    exact .finE [.r []] [] (fun z0:Int=>(VI z0,[])) _ _ e2
   ·
    have e3:((elemE x):Int)=(chkA false x.attrs 0):=by
     first|exact z5W (z1v.1 h1)|exact z2h (fun h=>h1 (z1v.2 h)) (.inl h3)|exact z2h (fun h=>h1 (z1v.2 h)) (.inr h4)|exact z3u (fun h=>h1 (z1v.2 h)) h3 h4| (exfalso;simp_all;done)
    exact .finE [.r [(2,X (Xc0 (z1Z x.attrs) X0))]] [] (fun z0:Int=>(VI z0,[])) _ _ e3
  ·
   refine .bp [.r [(5,Xv 1 (x.ref !=0) X0),(6,Xv 1 (x.ref !=0) X0),(7,Xv 1 (x.ref !=0) X0),(9,Xv 1 ((x.ref !=0)&& !(decide (x.ref<1))) X0),(10,Xv 1 ((x.ref !=0)&& !(decide (x.ref<1))) X0),(11,Xko (x.ref !=0) (decide (x.ref<1))),(12,X (Xk (x.ref !=0)))]] ((x.ref !=0)&&(decide (x.ref<1)||decide (x.ref>1073741824))) (fun h4=> ?_) (fun h4=> ?_)
   ·
    have e4:((elemE x):Int)=2:=by
     first|exact z5W (z1v.1 h1)|exact z2h (fun h=>h1 (z1v.2 h)) (.inl h3)|exact z2h (fun h=>h1 (z1v.2 h)) (.inr h4)|exact z3u (fun h=>h1 (z1v.2 h)) h3 h4| (exfalso;simp_all;done)
    exact .finE [.r []] [] (fun z0:Int=>(VI z0,[])) _ _ e4
   ·
    have e5:((elemE x):Int)=(chkA false x.attrs 0):=by
     first|exact z5W (z1v.1 h1)|exact z2h (fun h=>h1 (z1v.2 h)) (.inl h3)|exact z2h (fun h=>h1 (z1v.2 h)) (.inr h4)|exact z3u (fun h=>h1 (z1v.2 h)) h3 h4| (exfalso;simp_all;done)
    exact .finE [.r [(2,X (Xc0 (z1Z x.attrs) X0))]] [] (fun z0:Int=>(VI z0,[])) _ _ e5
theorem z4W(l:List Elem):FC Tryz.prog 186 [VL 3 elemT l] (app emp []) (VI (partE l 0)) (app emp []):=by
 refine .go Tryz.f186 ?_
 refine .len 0 (fun hl0=> ?_)
 refine .loop (α:=Nat) [.r [],.r [(1,X (Xl elemT l))]] 32 (fun i=>([(6,VL 3 elemT l),(7,VI (l.length:Int)),(8,VI (i:Int))],[])) (fun i=>i<=l.length/\partE l 0=partE l i) (fun i=>l.length-i) (0:Nat) ?_ ?_
 ·
  exact⟨by omega,rfl⟩
 rintro i I2 ih2
 try dsimp only at I2
 refine .bp [.r []] (decide ((i:Int)< (l.length:Int))) (fun h2=> ?_) (fun h2=> ?_)
 ·
  refine .bp [.r [(0,X (Xi elemT l (i:Int)))],.r [(1,X (Xc0 (y3E ((l.getD i default))) X0))],.r []] ((elemE ((l.getD i default))) !=0) (fun h5=> ?_) (fun h5=> ?_)
  ·
   have e1:((partE l 0):Int)=(elemE ((l.getD i default))):=by
    rw[I2.2,partE];((repeat' split)<;>first|rfl|omega| (simp_all;done)| (simp_all;omega))
   exact .finE [.r []] [] (fun z0:Int=>(VI z0,[])) _ _ e1
  ·
   refine .back [.r [(0,X (Xn ((i:Int)+1)))]] [] (ih2 ((i+1):Nat) ?_ ?_)
   ·
    refine⟨by omega,?_⟩;rw[I2.2,partE,if_pos (by omega),if_pos (by omega)]
   ·
    ((try dsimp only);omega)
 ·
  have e2:((partE l 0):Int)=0:=by
   rw[I2.2,partE];((repeat' split)<;>first|rfl|omega| (simp_all;done)| (simp_all;omega))
  exact .finE [.r []] [] (fun z0:Int=>(VI z0,[])) _ _ e2
theorem z3v(a b:List Attr):FC Tryz.prog 139 [VL 2 attrT a,VL 2 attrT b] (app emp []) (VB (sameL a b)) (app emp []):=by
 refine .go Tryz.f139 ?_
 refine .len 0 (fun hl0=> ?_)
 refine .len 1 (fun hl1=> ?_)
 refine .bp [.r [],.r [(1,X (Xl attrT a)),(3,X (Xl attrT b))]] ((a.length:Int) !=(b.length:Int)) (fun h1=> ?_) (fun h1=> ?_)
 ·
  have e1:((sameL a b):Bool)=false:=by
   unfold sameL;rw[decide_eq_false (by omega)];rfl
  exact .finE [.r []] [] (fun z0:Bool=>(VB z0,[])) _ _ e1
 ·
  refine .loop (α:=Nat) [.r [(1,X (Xl attrT a))]] 72 (fun i=>([(0,VL 2 attrT a),(1,VL 2 attrT b),(12,VI (a.length:Int)),(13,VI (i:Int))],[])) (fun i=>i<=a.length/\sameA a b 0=sameA a b i) (fun i=>a.length-i) (0:Nat) ?_ ?_
  ·
   exact⟨by omega,rfl⟩
  rintro i I4 ih4
  try dsimp only at I4
  refine .bp [.r []] (decide ((i:Int)< (a.length:Int))) (fun h4=> ?_) (fun h4=> ?_)
  ·
   refine .bp [.r [],.r [(2,X (Xi attrT a (i:Int))),(6,X (Xi attrT b (i:Int)))]] (!(seq (((a.getD i default)).name) (((b.getD i default)).name)&&(seq (((a.getD i default)).val) (((b.getD i default)).val)&&true))) (fun h6=> ?_) (fun h6=> ?_)
   ·
    have e2:((sameL a b):Bool)=false:=by
     unfold sameL;rw[I4.2,sameA,if_pos (by omega),if_neg (by clear ih4;simp only[z1a,z0u] at h6;rintro⟨x,y⟩;simp_all)];simp
    exact .finE [.r []] [] (fun z0:Bool=>(VB z0,[])) _ _ e2
   ·
    refine .back [.r [(0,X (Xn ((i:Int)+1)))]] [] (ih4 ((i+1):Nat) ?_ ?_)
    ·
     refine⟨by omega,?_⟩;rw[I4.2,sameA,if_pos (by omega),if_pos (by clear ih4;simp only[z1a,z0u] at h6;simp_all)]
    ·
     ((try dsimp only);omega)
  ·
   have e3:((sameL a b):Bool)=true:=by
    unfold sameL;rw[I4.2,sameA,if_neg (by omega),decide_eq_true (by omega)];rfl
   exact .finE [.r []] [] (fun z0:Bool=>(VB z0,[])) _ _ e3
end Go.Ch
end
section
namespace Go.Ch
open Go Go.Ab
inductive U where
 |K
 |A
 |C
abbrev rep(n:Nat)(x:U):List U:=List.replicate n x
theorem z3d(n:Nat)(x:U):rep (n+1) x=x::rep n x:=rfl
def oldU:List U->Nat
 | []=>0
 | .A::u=>oldU u
 | .K::u=>oldU u+1
 | .C::u=>oldU u+1
def newU:List U->Nat
 | []=>0
 | .C::u=>newU u
 | .K::u=>newU u+1
 | .A::u=>newU u+1
structure AxStep where
 kind:Int
 n:Int
instance:Inhabited AxStep:=⟨⟨0,0⟩⟩
def stepT(s:AxStep):Tree:= .agg [.sc (.int .i64 s.kind),.sc (.int .i64 s.n)]
def uOf(k:Int):U:=if k=1 then .A else if k=2 then .C else .K
def ex:List AxStep->List U
 | []=>[]
 |s::l=>rep s.n.toNat (uOf s.kind)++ex l
def Ok1(s:AxStep):Prop:=0<=s.kind/\s.kind<=2/\1<=s.n
def Nx(s t:AxStep):Prop:=s.kind≠t.kind/\¬(s.kind=2/\t.kind=1)
def Form:List AxStep->Prop
 | []=>True
 | [s]=>Ok1 s
 |s::t::l=>Ok1 s/\Nx s t/\Form (t::l)
theorem Form.head{s:AxStep}{l:List AxStep}(h:Form (s::l)):Ok1 s:=by
 cases l with
 |nil=>exact h
 |cons t l=>exact h.1
theorem Form.tail{s:AxStep}{l:List AxStep}(h:Form (s::l)):Form l:=by
 cases l with
 |nil=>trivial
 |cons t l=>exact h.2.2
theorem kinds{s:AxStep}(h:Ok1 s):s.kind=0\/s.kind=1\/s.kind=2:=by have:=h.1;have:=h.2.1;omega
structure Wr where
 out:List AxStep
 add:Int
 cut:Int
def chkX(l:List AxStep)(i:Nat)(b a:Int):Int:=
 if i<l.length then
  if(l.getD i default).kind<0\/2< (l.getD i default).kind then 8
  else if(l.getD i default).n<1\/2147483647< (l.getD i default).n then 2
  else if 0<i/\((l.getD (i- 1) default).kind=(l.getD i default).kind\/((l.getD (i- 1) default).kind=2/\(l.getD i default).kind=1)) then 5
  else chkX l (i+1) (if(l.getD i default).kind≠1 then min (b+(l.getD i default).n) 2147483648 else b) (if(l.getD i default).kind≠2 then min (a+(l.getD i default).n) 2147483648 else a)
 else if 2147483647<b\/2147483647<a then 3 else 0
termination_by l.length-i
def z1k(l:List AxStep):Int:=chkX l 0 0 0
def z8B(l:List AxStep)(i:Nat):Prop:=∀k,i<=k->k<l.length->Ok1 (l.getD k default)/\(0<k->Nx (l.getD (k- 1) default) (l.getD k default))
theorem z7y{l:List AxStep}{i:Nat}(h:i<l.length):l.drop i=l.getD i default::l.drop (i+1):=by
 rw[zk h];simp[List.getD,qa h]
theorem z3Z{l:List AxStep}{i:Nat}(h:¬i<l.length):l.drop i=[]:=qP (by omega)
theorem old_K(n:Nat)(u:List U):oldU (rep n .K++u)=n+oldU u:=by
 induction n with
 |zero=>simp
 |succ n ih=>rw[z3d,qg,oldU,ih];omega
theorem old_A(n:Nat)(u:List U):oldU (rep n .A++u)=oldU u:=by
 induction n with
 |zero=>simp
 |succ n ih=>rw[z3d,qg,oldU,ih]
theorem old_C(n:Nat)(u:List U):oldU (rep n .C++u)=n+oldU u:=by
 induction n with
 |zero=>simp
 |succ n ih=>rw[z3d,qg,oldU,ih];omega
theorem new_K(n:Nat)(u:List U):newU (rep n .K++u)=n+newU u:=by
 induction n with
 |zero=>simp
 |succ n ih=>rw[z3d,qg,newU,ih];omega
theorem new_A(n:Nat)(u:List U):newU (rep n .A++u)=n+newU u:=by
 induction n with
 |zero=>simp
 |succ n ih=>rw[z3d,qg,newU,ih];omega
theorem new_C(n:Nat)(u:List U):newU (rep n .C++u)=newU u:=by
 induction n with
 |zero=>simp
 |succ n ih=>rw[z3d,qg,newU,ih]
theorem y3F(n:Nat)(k:Int)(u:List U):(oldU (rep n (uOf k)++u):Int)=(if k=1 then(0:Int) else(n:Int))+oldU u:=by
 unfold uOf
 by_cases h1:k=1
 ·rw[if_pos h1,if_pos h1,old_A];omega
 ·rw[if_neg h1,if_neg h1]
  by_cases h2:k=2
  ·rw[if_pos h2,old_C];omega
  ·rw[if_neg h2,old_K];omega
theorem z9O(n:Nat)(k:Int)(u:List U):(newU (rep n (uOf k)++u):Int)=(if k=2 then(0:Int) else(n:Int))+newU u:=by
 unfold uOf
 by_cases h1:k=1
 ·rw[if_pos h1,new_A,if_neg (by omega)];omega
 ·rw[if_neg h1]
  by_cases h2:k=2
  ·rw[if_pos h2,if_pos h2,new_C];omega
  ·rw[if_neg h2,if_neg h2,new_K];omega
theorem y0Q(l:List AxStep):∀(m i:Nat) (b a:Int),l.length-i=m->0<=b->0<=a->b<=2147483648->a<=2147483648->
 (chkX l i b a=0↔z8B l i/\b+oldU (ex (l.drop i))<=2147483647/\a+newU (ex (l.drop i))<=2147483647)
 |0,i,b,a,h,hb,ha,hb2,ha2=>by
  rw[chkX,if_neg (by omega),z3Z (by omega)]
  simp only[ex,oldU,newU]
  split
  ·constructor
   ·intro h;omega
   ·rintro⟨_,h1,h2⟩;omega
  ·exact⟨fun _=>⟨fun k h1 h2=>by omega,by omega,by omega⟩,fun _=>rfl⟩
 |m+1,i,b,a,h,hb,ha,hb2,ha2=>by
  have hi:i<l.length:=by omega
  rw[chkX,if_pos hi]
  have step:z8B l i↔(Ok1 (l.getD i default)/\(0<i->Nx (l.getD (i- 1) default) (l.getD i default)))/\z8B l (i+1):=by
   constructor
   ·exact fun h=>⟨h i (qt _) hi,fun k h1 h2=>h k (by omega) h2⟩
   ·rintro⟨h1,h2⟩ k h3 h4
    by_cases e:k=i
    ·subst e;exact h1
    ·exact h2 k (by omega) h4
  rw[step,z7y hi]
  simp only[ex]
  rw[y3F,z9O]
  have ih:=fun b' a'=>y0Q l m (i+1) b' a' (by omega)
  generalize l.getD i default=x at*
  generalize l.getD (i- 1) default=y at*
  unfold Ok1 Nx
  by_cases c1:x.kind<0\/2<x.kind
  ·rw[if_pos c1];constructor
   ·intro h;omega
   ·rintro⟨⟨⟨h,_⟩,_⟩,_⟩;omega
  rw[if_neg c1]
  have n0:(oldU (ex (l.drop (i+1))):Int)>=0:=Int.natCast_nonneg _
  have n1:(newU (ex (l.drop (i+1))):Int)>=0:=Int.natCast_nonneg _
  by_cases c2:x.n<1\/2147483647<x.n
  ·rw[if_pos c2];constructor
   ·intro h;omega
   ·rintro⟨⟨⟨h,_⟩,_⟩,h1,h2⟩
    exfalso
    by_cases k1:x.kind=1
    ·rw[if_neg (by omega)] at h2;omega
    ·rw[if_neg k1] at h1;omega
  rw[if_neg c2]
  have hn:(x.n.toNat:Int)=x.n:=zU (by omega)
  rw[hn]
  by_cases c3:0<i/\(y.kind=x.kind\/(y.kind=2/\x.kind=1))
  ·rw[if_pos c3];constructor
   ·intro h;omega
   ·rintro⟨⟨⟨_,h⟩,_⟩,_⟩
    have:=h c3.1
    rcases c3.2 with q|q
    ·exact absurd q this.1
    ·exact absurd q this.2
  rw[if_neg c3,ih _ _ (by split<;>omega) (by split<;>omega) (by split<;>omega) (by split<;>omega)]
  constructor
  ·rintro⟨f,h1,h2⟩
   refine⟨⟨⟨⟨by omega,by omega,by omega⟩,fun h0=>⟨fun e=>c3 ⟨h0,.inl e⟩,fun e=>c3 ⟨h0,.inr e⟩⟩⟩,f⟩,?_,?_⟩
   ·by_cases k1:x.kind=1
    ·rw[if_pos k1];rw[if_neg (by omega)] at h1;omega
    ·rw[if_neg k1];rw[if_pos k1] at h1;omega
   ·by_cases k1:x.kind=2
    ·rw[if_pos k1];rw[if_neg (by omega)] at h2;omega
    ·rw[if_neg k1];rw[if_pos k1] at h2;omega
  ·rintro⟨⟨_,f⟩,h1,h2⟩
   refine⟨f,?_,?_⟩
   ·by_cases k1:x.kind=1
    ·rw[if_pos k1] at h1;rw[if_neg (by omega)];omega
    ·rw[if_neg k1] at h1;rw[if_pos k1];omega
   ·by_cases k1:x.kind=2
    ·rw[if_pos k1] at h2;rw[if_neg (by omega)];omega
    ·rw[if_neg k1] at h2;rw[if_pos k1];omega
theorem z6I:∀{l:List AxStep},z8B l 0->Form l
 | [],_=>trivial
 | [s],h=>(h 0 (qt _) (by simp)).1
 |s::t::l,h=>by
  have h0:=h 0 (qt _) (by simp)
  have h1:=h 1 (by omega) (by simp)
  refine⟨h0.1,h1.2 (by omega),z6I (l:=t::l) (fun k _ hk=> ?_)⟩
  have:=h (k+1) (by omega) (by simp at hk|-;omega)
  refine⟨by simpa using this.1,fun hk0=> ?_⟩
  obtain⟨m,rfl⟩:∃m,k=m+1:=⟨k- 1,by omega⟩
  simpa using this.2 (by omega)
theorem z4y:∀{l:List AxStep},Form l->z8B l 0
 | [],_=>fun k _ hk=>by simp at hk
 |s::l,h=>by
  have ih:=z4y h.tail
  intro k _ hk
  cases k with
  |zero=>exact⟨h.head,fun h=>absurd h (by decide)⟩
  |succ k=>
   have:=ih k (by omega) (by simpa using hk)
   refine⟨by simpa using this.1,fun _=> ?_⟩
   cases k with
   |zero=>
    cases l with
    |nil=>simp at hk
    |cons t l=>exact h.2.1
   |succ k=>simpa using this.2 (by omega)
def Valid(l:List AxStep):Prop:=Form l/\oldU (ex l)<=2147483647/\newU (ex l)<=2147483647
theorem z25{l:List AxStep}:z1k l=0↔Valid l:=by
 unfold z1k Valid
 rw[y0Q l _ 0 0 0 rfl (by decide) (by decide) (by decide) (by decide),List.drop_zero]
 constructor
 ·rintro⟨a,b,c⟩;exact⟨z6I a,by omega,by omega⟩
 ·rintro⟨a,b,c⟩;exact⟨z4y a,by omega,by omega⟩
def ru(l:List AxStep)(u:Int):List U:=(ex l).drop u.toNat
end Go.Ch
end
section
set_option maxRecDepth 100000
set_option maxHeartbeats 4000000
open Go Go.Proofs Go.Ab
namespace Go.Ch
theorem z2u(l:List AxStep):FC Tryz.prog 86 [VL 2 stepT l] (app emp []) (VI (z1k l)) (app emp []):=by
 refine .go Tryz.f86 ?_
 refine .len 0 (fun hl0=> ?_)
 refine .loop (α:=Int×Int×Nat) [.r [],.r [],.r [(1,X (Xl stepT l))]] 48 (fun(b,a,i)=>([(0,VL 2 stepT l),(3,VI b),(4,VI a),(7,VL 2 stepT l),(8,VI (l.length:Int)),(9,VI (i:Int))],[])) (fun(b,a,i)=>i<=l.length/\0<=b/\b<=2147483648/\0<=a/\a<=2147483648/\z1k l=chkX l i b a) (fun(b,a,i)=>l.length-i) (0,0,0) ?_ ?_
 ·
  exact⟨by omega,by decide,by decide,by decide,by decide,rfl⟩
 rintro⟨b,a,i⟩ I3 ih3
 try dsimp only at I3
 refine .bp [.r []] (decide ((i:Int)< (l.length:Int))) (fun h3=> ?_) (fun h3=> ?_)
 ·
  refine .bp [.r [(1,X (Xi stepT l (i:Int)))],.r [(5,Xv 1 (!(decide ((((l.getD i default)).kind)< 0))) X0),(6,Xv 1 (!(decide ((((l.getD i default)).kind)< 0))) X0),(7,X (Xk' (decide ((((l.getD i default)).kind)< 0))))]] (decide ((((l.getD i default)).kind)< 0)||decide ((((l.getD i default)).kind)> 2)) (fun h5=> ?_) (fun h5=> ?_)
  ·
   have e1:((z1k l):Int)=8:=by
    rw[I3.2.2.2.2.2,chkX];((repeat' split)<;>first|rfl|omega| (simp_all;done)| (simp_all;omega))
   exact .finE [.r []] [] (fun z0:Int=>(VI z0,[])) _ _ e1
  ·
   refine .bp [.r [(5,Xv 1 (!(decide ((((l.getD i default)).n)< 1))) X0),(6,Xv 1 (!(decide ((((l.getD i default)).n)< 1))) X0),(7,X (Xk' (decide ((((l.getD i default)).n)< 1))))]] (decide ((((l.getD i default)).n)< 1)||decide ((((l.getD i default)).n)> 2147483647)) (fun h7=> ?_) (fun h7=> ?_)
   ·
    have e2:((z1k l):Int)=2:=by
     rw[I3.2.2.2.2.2,chkX];((repeat' split)<;>first|rfl|omega| (simp_all;done)| (simp_all;omega))
    exact .finE [.r []] [] (fun z0:Int=>(VI z0,[])) _ _ e2
   ·
    refine .bp [.r [(5,Xv 1 (decide ((i:Int)> 0)) (Xn ((i:Int)- 1))),(6,Xv 2 (decide ((i:Int)> 0)) (Xi' stepT l ((i:Int)- 1) (i- 1))),(7,Xv 1 (decide ((i:Int)> 0)) X0),(8,Xv 1 (decide ((i:Int)> 0)) X0),(10,Xv 1 (decide ((i:Int)> 0)) X0),(11,Xv 2 (decide ((i:Int)> 0)) X0),(12,Xv 1 (decide ((i:Int)> 0)) X0),(15,Xv 1 ((decide ((i:Int)> 0))&& !((((l.getD (i- 1) default)).kind)==(((l.getD i default)).kind))) (Xn ((i:Int)- 1))),(16,Xv 2 ((decide ((i:Int)> 0))&& !((((l.getD (i- 1) default)).kind)==(((l.getD i default)).kind))) (Xi' stepT l ((i:Int)- 1) (i- 1))),(17,Xv 1 ((decide ((i:Int)> 0))&& !((((l.getD (i- 1) default)).kind)==(((l.getD i default)).kind))) X0),(18,Xv 1 ((decide ((i:Int)> 0))&& !((((l.getD (i- 1) default)).kind)==(((l.getD i default)).kind))) X0),(19,Xv 1 ((decide ((i:Int)> 0))&& !((((l.getD (i- 1) default)).kind)==(((l.getD i default)).kind))) X0),(20,Xv 1 ((decide ((i:Int)> 0))&& !((((l.getD (i- 1) default)).kind)==(((l.getD i default)).kind))) X0),(22,Xv 1 (((decide ((i:Int)> 0))&& !((((l.getD (i- 1) default)).kind)==(((l.getD i default)).kind)))&&((((l.getD (i- 1) default)).kind)==2)) X0),(23,Xv 1 (((decide ((i:Int)> 0))&& !((((l.getD (i- 1) default)).kind)==(((l.getD i default)).kind)))&&((((l.getD (i- 1) default)).kind)==2)) X0),(24,Xka ((decide ((i:Int)> 0))&& !((((l.getD (i- 1) default)).kind)==(((l.getD i default)).kind))) ((((l.getD (i- 1) default)).kind)==2)),(25,Xko (decide ((i:Int)> 0)) ((((l.getD (i- 1) default)).kind)==(((l.getD i default)).kind))),(26,X (Xk (decide ((i:Int)> 0))))]] (decide ((i:Int)> 0)&&(((((l.getD (i- 1) default)).kind)==(((l.getD i default)).kind))|| (((((l.getD (i- 1) default)).kind)==2)&&((((l.getD i default)).kind)==1)))) (fun h9=> ?_) (fun h9=> ?_)
    ·
     have e3:((z1k l):Int)=5:=by
      rw[I3.2.2.2.2.2,chkX];((repeat' split)<;>first|rfl|omega| (simp_all;done)| (simp_all;omega))
     exact .finE [.r []] [] (fun z0:Int=>(VI z0,[])) _ _ e3
    ·
     refine .bp [.r []] ((((l.getD i default)).kind) !=1) (fun h11=> ?_) (fun h11=> ?_)
     ·
      refine .bp [.r [(3,X (Xn (b+(((l.getD i default)).n)))),(4,X (Xmin (b+(((l.getD i default)).n)) 2147483648))],.r []] ((((l.getD i default)).kind) !=2) (fun h13=> ?_) (fun h13=> ?_)
      ·
       refine .at 568 [(80,80)] ([(0,VL 2 stepT l),(3,VI (min (b+(((l.getD i default)).n)) 2147483648)),(4,VI a),(6,.ptr 80 0),(7,VL 2 stepT l),(8,VI (l.length:Int)),(9,VI (i:Int)),(70,VB ((((l.getD i default)).kind) !=2))],[(80,.box [VI (((l.getD i default)).kind),VI (((l.getD i default)).n)])]) ?_
       refine .back [.r [(3,X (Xn (a+(((l.getD i default)).n)))),(4,X (Xmin (a+(((l.getD i default)).n)) 2147483648))],.r [(0,X (Xn ((i:Int)+1)))]] [] (ih3 ((min (b+(((l.getD i default)).n)) 2147483648),(min (a+(((l.getD i default)).n)) 2147483648),(i+1)) ?_ ?_)
       ·
        refine⟨by omega,by omega,by omega,by omega,by omega,?_⟩;rw[I3.2.2.2.2.2,chkX];((repeat' split)<;>first|rfl|omega| (simp_all;done)| (simp_all;omega))
       ·
        ((try dsimp only);omega)
      ·
       refine .at 568 [(80,80)] ([(0,VL 2 stepT l),(3,VI (min (b+(((l.getD i default)).n)) 2147483648)),(4,VI a),(6,.ptr 80 0),(7,VL 2 stepT l),(8,VI (l.length:Int)),(9,VI (i:Int)),(70,VB ((((l.getD i default)).kind) !=2))],[(80,.box [VI (((l.getD i default)).kind),VI (((l.getD i default)).n)])]) ?_
       refine .back [.r [(0,X (Xn ((i:Int)+1)))]] [] (ih3 ((min (b+(((l.getD i default)).n)) 2147483648),a,(i+1)) ?_ ?_)
       ·
        refine⟨by omega,by omega,by omega,by omega,by omega,?_⟩;rw[I3.2.2.2.2.2,chkX];((repeat' split)<;>first|rfl|omega| (simp_all;done)| (simp_all;omega))
       ·
        ((try dsimp only);omega)
     ·
      refine .bp [.r []] ((((l.getD i default)).kind) !=2) (fun h13=> ?_) (fun h13=> ?_)
      ·
       refine .at 520 [(80,80)] ([(0,VL 2 stepT l),(3,VI b),(4,VI a),(6,.ptr 80 0),(7,VL 2 stepT l),(8,VI (l.length:Int)),(9,VI (i:Int)),(70,VB ((((l.getD i default)).kind) !=2))],[(80,.box [VI (((l.getD i default)).kind),VI (((l.getD i default)).n)])]) ?_
       refine .back [.r [(3,X (Xn (a+(((l.getD i default)).n)))),(4,X (Xmin (a+(((l.getD i default)).n)) 2147483648))],.r [(0,X (Xn ((i:Int)+1)))]] [] (ih3 (b,(min (a+(((l.getD i default)).n)) 2147483648),(i+1)) ?_ ?_)
       ·
        refine⟨by omega,by omega,by omega,by omega,by omega,?_⟩;rw[I3.2.2.2.2.2,chkX];((repeat' split)<;>first|rfl|omega| (simp_all;done)| (simp_all;omega))
       ·
        ((try dsimp only);omega)
      ·
       refine .at 520 [(80,80)] ([(0,VL 2 stepT l),(3,VI b),(4,VI a),(6,.ptr 80 0),(7,VL 2 stepT l),(8,VI (l.length:Int)),(9,VI (i:Int)),(70,VB ((((l.getD i default)).kind) !=2))],[(80,.box [VI (((l.getD i default)).kind),VI (((l.getD i default)).n)])]) ?_
       refine .back [.r [(0,X (Xn ((i:Int)+1)))]] [] (ih3 (b,a,(i+1)) ?_ ?_)
       ·
        refine⟨by omega,by omega,by omega,by omega,by omega,?_⟩;rw[I3.2.2.2.2.2,chkX];((repeat' split)<;>first|rfl|omega| (simp_all;done)| (simp_all;omega))
       ·
        ((try dsimp only);omega)
 ·
  refine .bp [.r [(4,Xv 1 (!(decide (b>2147483647))) X0),(5,X (Xk' (decide (b>2147483647))))]] (decide (b>2147483647)||decide (a>2147483647)) (fun h16=> ?_) (fun h16=> ?_)
  ·
   have e4:((z1k l):Int)=3:=by
    rw[I3.2.2.2.2.2,chkX];((repeat' split)<;>first|rfl|omega| (simp_all;done)| (simp_all;omega))
   exact .finE [.r []] [] (fun z0:Int=>(VI z0,[])) _ _ e4
  ·
   have e5:((z1k l):Int)=0:=by
    rw[I3.2.2.2.2.2,chkX];((repeat' split)<;>first|rfl|omega| (simp_all;done)| (simp_all;omega))
   exact .finE [.r []] [] (fun z0:Int=>(VI z0,[])) _ _ e5
theorem ex_at{l:List AxStep}{i:Nat}(h:i<l.length):ex (l.drop i)=rep (l.getD i default).n.toNat (uOf (l.getD i default).kind)++ex (l.drop (i+1)):=by rw[z7y h];rfl
def oldI(l:List AxStep):Int:=(oldU (ex l):Int)
def newI(l:List AxStep):Int:=(newU (ex l):Int)
theorem z8C{l:List AxStep}{i:Nat}(h:i<l.length)(hf:Form l):(oldU (ex (l.drop i)):Int)=(if(l.getD i default).kind=1 then 0 else(l.getD i default).n)+oldU (ex (l.drop (i+1)))/\
 (newU (ex (l.drop i)):Int)=(if(l.getD i default).kind=2 then 0 else(l.getD i default).n)+newU (ex (l.drop (i+1)))/\1<=(l.getD i default).n/\0<=(l.getD i default).kind/\(l.getD i default).kind<=2:=by
 have h1:=((z4y hf) i (qU _) h).1
 have hn:((l.getD i default).n.toNat:Int)=(l.getD i default).n:=zU (by have:=h1.2.2;omega)
 rw[ex_at h,y3F,z9O,hn]
 exact⟨rfl,rfl,h1.2.2,h1.1,h1.2.1⟩
theorem y6X{l:List AxStep}{i:Nat}(h:l.length<=i):ex (l.drop i)=[]:=by rw[qP h];rfl
theorem z8D(l:List AxStep)(hv:Valid l):FC Tryz.prog 87 [VL 2 stepT l] (app emp []) (.tup [VI (oldI l),VI (newI l)]) (app emp []):=by
 refine .go Tryz.f87 ?_
 refine .len 0 (fun hl0=> ?_)
 refine .loop (α:=Int×Int×Nat) [.r [],.r [],.r [(1,X (Xl stepT l))]] 56 (fun(b,a,i)=>([(4,VI b),(5,VI a),(8,VL 2 stepT l),(9,VI (l.length:Int)),(10,VI (i:Int))],[])) (fun(b,a,i)=>i<=l.length/\0<=b/\0<=a/\oldI l=b+oldU (ex (l.drop i))/\newI l=a+newU (ex (l.drop i))) (fun(b,a,i)=>l.length-i) (0,0,0) ?_ ?_
 ·
  exact⟨by omega,by decide,by decide,by simp[oldI],by simp[newI]⟩
 rintro⟨b,a,i⟩ I3 ih3
 try dsimp only at I3
 have hv1:oldI l<=2147483647:=by have:=hv.2.1;unfold oldI;omega
 have hv2:newI l<=2147483647:=by have:=hv.2.2;unfold newI;omega
 refine .bp [.r []] (decide ((i:Int)< (l.length:Int))) (fun h3=> ?_) (fun h3=> ?_)
 ·
  have hst:=z8C (l:=l) (i:=i) (by omega) hv.1
  refine .bp [.r [(0,X (Xi stepT l (i:Int)))],.r []] ((((l.getD i default)).kind) !=1) (fun h5=> ?_) (fun h5=> ?_)
  ·
   refine .bp [.r [(3,X (Xn (b+(((l.getD i default)).n))))],.r []] ((((l.getD i default)).kind) !=2) (fun h7=> ?_) (fun h7=> ?_)
   ·
    refine .back [.r [(3,X (Xn (a+(((l.getD i default)).n))))],.r [(0,X (Xn ((i:Int)+1)))]] [] (ih3 ((b+(((l.getD i default)).n)),(a+(((l.getD i default)).n)),(i+1)) ?_ ?_)
    ·
     obtain⟨s1,s2,s3,s4,s5⟩:=hst
     first|rw[if_pos (by omega)] at s1|rw[if_neg (by omega)] at s1
     first|rw[if_pos (by omega)] at s2|rw[if_neg (by omega)] at s2
     refine⟨by omega,by omega,by omega,by omega,by omega⟩
    ·
     ((try dsimp only);omega)
   ·
    refine .back [.r [(0,X (Xn ((i:Int)+1)))]] [] (ih3 ((b+(((l.getD i default)).n)),a,(i+1)) ?_ ?_)
    ·
     obtain⟨s1,s2,s3,s4,s5⟩:=hst
     first|rw[if_pos (by omega)] at s1|rw[if_neg (by omega)] at s1
     first|rw[if_pos (by omega)] at s2|rw[if_neg (by omega)] at s2
     refine⟨by omega,by omega,by omega,by omega,by omega⟩
    ·
     ((try dsimp only);omega)
  ·
   refine .bp [.r []] ((((l.getD i default)).kind) !=2) (fun h7=> ?_) (fun h7=> ?_)
   ·
    refine .back [.r [(3,X (Xn (a+(((l.getD i default)).n))))],.r [(0,X (Xn ((i:Int)+1)))]] [] (ih3 (b,(a+(((l.getD i default)).n)),(i+1)) ?_ ?_)
    ·
     obtain⟨s1,s2,s3,s4,s5⟩:=hst
     first|rw[if_pos (by omega)] at s1|rw[if_neg (by omega)] at s1
     first|rw[if_pos (by omega)] at s2|rw[if_neg (by omega)] at s2
     refine⟨by omega,by omega,by omega,by omega,by omega⟩
    ·
     ((try dsimp only);omega)
   ·
    refine .back [.r [(0,X (Xn ((i:Int)+1)))]] [] (ih3 (b,a,(i+1)) ?_ ?_)
    ·
     obtain⟨s1,s2,s3,s4,s5⟩:=hst
     first|rw[if_pos (by omega)] at s1|rw[if_neg (by omega)] at s1
     first|rw[if_pos (by omega)] at s2|rw[if_neg (by omega)] at s2
     refine⟨by omega,by omega,by omega,by omega,by omega⟩
    ·
     ((try dsimp only);omega)
 ·
  have e1:((oldI l):Int)=b:=by
   have:=y6X (l:=l) (i:=i) (by omega)
   rw[this] at I3
   have i1:=I3.2.2.2.1
   have i2:=I3.2.2.2.2
   simp only[oldU,newU] at i1 i2
   omega
  have e2:((newI l):Int)=a:=by
   have:=y6X (l:=l) (i:=i) (by omega)
   rw[this] at I3
   have i1:=I3.2.2.2.1
   have i2:=I3.2.2.2.2
   simp only[oldU,newU] at i1 i2
   omega
  exact .finE [.r []] [] (fun((z0,z1):Int×Int)=>(.tup [VI z0,VI z1],[])) _ _ (pr e1 e2)
theorem z8E(l:List AxStep)(hv:Valid l):FC Tryz.prog 201 [VL 2 stepT l] (app emp []) (.tup [VI (oldI l),VI (newI l),VI 0]) (app emp []):=by
 refine .go Tryz.f201 ?_
 refine .len 0 (fun hl0=> ?_)
 have hc:=z25.2 hv
 refine .bp [.r [],.r [(1,X (Xc0 (z2u l) X0))],.r []] ((z1k l) !=0) (fun h2=> ?_) (fun h2=> ?_)
 ·
  exfalso
  omega
 ·
  exact .fin [.r [(1,X (Xc0 (z8D l (by assumption)) X0))],.r []] []
end Go.Ch
end
section
namespace Go.Ch
open Go Go.Ab
section
variable {w:Wr} {ps qs:List AxStep} {pu qu:Int} {T:Nat} {G:Wr}
end
section
variable {x y:Wr} {ps qs:List AxStep} {pu qu:Int} {T:Nat} {G1 G2:Wr}
end
end Go.Ch
end
section

end
section
namespace Go.Ch
open Go Go.Ab
def z0q:List AxStep->Int->Int->Int->Int
 | [],_,_,_=> -1
 |s::l,p,fr,tq=>if s.kind=1 then z0q l p fr (tq+s.n) else if s.kind=0 then(if p<fr+s.n then tq+p-fr else z0q l p (fr+s.n) (tq+s.n)) else(if p<fr+s.n then-1 else z0q l p (fr+s.n) tq)
def gapS:List AxStep->Int->Bool->Int->Int->Int
 | [],_,_,_,tq=>tq
 |s::l,at_,r,fr,tq=>gapS l at_ r (if s.kind=1 then fr else fr+s.n) (if s.kind=1/\(fr<at_\/(fr=at_/\r=true)) then tq+s.n else if s.kind=0 then tq+min s.n (max 0 (at_-fr)) else tq)
theorem y6Y:∀{l:List AxStep} (hl:Form l) (a:Int) (r:Bool) (fr tq:Int),tq<=gapS l a r fr tq
 | [],_,a,r,fr,tq=>zy _
 |s::l,hl,a,r,fr,tq=>by
  have ih:=y6Y hl.tail a r (if s.kind=1 then fr else fr+s.n) (if s.kind=1/\(fr<a\/(fr=a/\r=true)) then tq+s.n else if s.kind=0 then tq+min s.n (max 0 (a-fr)) else tq)
  have hn:=hl.head.2.2
  rw[gapS]
  refine Int.le_trans ?_ ih
  split
  ·omega
  ·split<;>omega
theorem y0R:∀{l:List AxStep} (hl:Form l) (a fr tq tq':Int),tq<=tq'->gapS l a false fr tq<=gapS l a true fr tq'
 | [],_,a,fr,tq,tq',h=>h
 |s::l,hl,a,fr,tq,tq',h=>by
  have hn:=hl.head.2.2
  rw[gapS,gapS]
  refine y0R hl.tail a _ _ _ ?_
  by_cases k1:s.kind=1
  ·by_cases c:fr<a
   ·rw[if_pos ⟨k1,.inl c⟩,if_pos ⟨k1,.inl c⟩];omega
   ·have n1:¬(s.kind=1/\(fr<a\/(fr=a/\false=true))):=by
     rintro⟨_,h|h⟩
     ·omega
     ·cases h.2
    have k0:¬s.kind=0:=by omega
    rw[if_neg n1,if_neg k0]
    split
    ·omega
    ·exact h
  ·rw[if_neg (show¬(s.kind=1/\(fr<a\/(fr=a/\false=true))) from fun e=>k1 e.1),if_neg (show¬(s.kind=1/\(fr<a\/(fr=a/\true=true))) from fun e=>k1 e.1)]
   split<;>omega
theorem y0S:∀{l:List AxStep} (hl:Form l) (a:Int) (r:Bool) (fr tq:Int),a<fr->gapS l a r fr tq=tq
 | [],_,a,r,fr,tq,h=>rfl
 |s::l,hl,a,r,fr,tq,h=>by
  have hn:=hl.head.2.2
  rw[gapS,if_neg (by omega:¬(s.kind=1/\(fr<a\/(fr=a/\r=true))))]
  rw[y0S hl.tail a r _ _ (by split<;>omega)]
  split<;>omega
theorem z30:∀{l:List AxStep} (hl:Form l) (p fr tq:Int),fr<=p->0<=z0q l p fr tq->gapS l p true fr tq<=z0q l p fr tq
 | [],_,p,fr,tq,h,h0=>by simp[z0q] at h0
 |s::l,hl,p,fr,tq,h,h0=>by
  have hn:=hl.head.2.2
  have hk:=kinds hl.head
  rw[z0q] at h0|-
  rw[gapS]
  by_cases k1:s.kind=1
  ·rw[if_pos k1] at h0|-
   rw[if_pos k1,if_pos ⟨k1,by rcases Int.lt_or_eq_of_le h with h|h;exact .inl h;exact .inr ⟨h,rfl⟩⟩]
   exact z30 hl.tail p fr _ h h0
  ·rw[if_neg k1] at h0|-
   rw[if_neg k1,if_neg (by omega:¬(s.kind=1/\(fr<p\/(fr=p/\true=true))))]
   by_cases k0:s.kind=0
   ·rw[if_pos k0] at h0|-
    rw[if_pos k0]
    by_cases c:p<fr+s.n
    ·rw[if_pos c] at h0|-
     rw[y0S hl.tail p true _ _ (by omega)];omega
    ·rw[if_neg c] at h0|-
     rw[show min s.n (max 0 (p-fr))=s.n by omega]
     exact z30 hl.tail p _ _ (by omega) h0
   ·rw[if_neg k0] at h0|-
    rw[if_neg k0]
    by_cases c:p<fr+s.n
    ·rw[if_pos c] at h0;omega
    ·rw[if_neg c] at h0|-
     exact z30 hl.tail p _ _ (by omega) h0
theorem z31:∀{l:List AxStep} (hl:Form l) (p q fr tq:Int),fr<=p->p<q->0<=z0q l p fr tq->z0q l p fr tq+1<=gapS l q false fr tq
 | [],_,p,q,fr,tq,h,hq,h0=>by simp[z0q] at h0
 |s::l,hl,p,q,fr,tq,h,hq,h0=>by
  have hn:=hl.head.2.2
  rw[z0q] at h0|-
  rw[gapS]
  by_cases k1:s.kind=1
  ·rw[if_pos k1] at h0|-
   rw[if_pos k1,if_pos ⟨k1,by omega⟩]
   exact z31 hl.tail p q fr _ h hq h0
  ·rw[if_neg k1] at h0|-
   rw[if_neg k1,if_neg (by omega:¬(s.kind=1/\(fr<q\/(fr=q/\false=true))))]
   by_cases k0:s.kind=0
   ·rw[if_pos k0] at h0|-
    rw[if_pos k0]
    by_cases c:p<fr+s.n
    ·rw[if_pos c] at h0|-
     have:=y6Y hl.tail q false (fr+s.n) (tq+min s.n (max 0 (q-fr)))
     omega
    ·rw[if_neg c] at h0|-
     rw[show min s.n (max 0 (q-fr))=s.n by omega]
     exact z31 hl.tail p q _ _ (by omega) hq h0
   ·rw[if_neg k0] at h0|-
    rw[if_neg k0]
    by_cases c:p<fr+s.n
    ·rw[if_pos c] at h0;omega
    ·rw[if_neg c] at h0|-
     exact z31 hl.tail p q _ _ (by omega) hq h0
structure Cell where
 row:Int
 col:Int
 text:ByteArray
 ref:Int
 attrs:List Attr
instance:Inhabited Cell:=⟨⟨0,0,{data:=#[]},0,[]⟩⟩
structure Rect where
 row:Int
 col:Int
 h:Int
 w:Int
deriving DecidableEq
instance:Inhabited Rect:=⟨⟨0,0,0,0⟩⟩
structure Grid where
 rows:Int
 cols:Int
 cells:List Cell
 merges:List Rect
instance:Inhabited Grid:=⟨⟨0,0,[],[]⟩⟩
structure GEd where
 rows:List AxStep
 cols:List AxStep
 cells:List Cell
 split:List Rect
 merge:List Rect
instance:Inhabited GEd:=⟨⟨[],[],[],[],[]⟩⟩
def cellT(c:Cell):Tree:= .agg [TI c.row,TI c.col,TS c.text,TI c.ref,.lst 2 (c.attrs.map attrT)]
def rectT(r:Rect):Tree:= .agg [TI r.row,TI r.col,TI r.h,TI r.w]
def gridT(g:Grid):Tree:= .agg [TI g.rows,TI g.cols,.lst 5 (g.cells.map cellT),.lst 4 (g.merges.map rectT)]
def gedT(e:GEd):Tree:= .agg [.lst 2 (e.rows.map stepT),.lst 2 (e.cols.map stepT),.lst 5 (e.cells.map cellT),.lst 4 (e.split.map rectT),.lst 4 (e.merge.map rectT)]
def ordC(a b:Cell):Int:=orL [cmpI a.row b.row,cmpI a.col b.col]
def z09(c:Cell):Bool:=(seq c.text {data:=#[]}&&c.ref==0)&&(c.attrs.length:Int)==0
def insB(r:Rect)(m n:Int):Bool:=decide (0<=r.row/\0<=r.col/\1<=r.h/\1<=r.w/\r.row<m/\r.col<n/\r.h<=m-r.row/\r.w<=n-r.col)
def meetB(a b:Rect):Bool:=decide (a.row<b.row+b.h/\b.row<a.row+a.h/\a.col<b.col+b.w/\b.col<a.col+a.w)
def befB(a b:Rect):Bool:=decide (a.row<b.row\/(a.row=b.row/\a.col<b.col))
def mvR(a:List AxStep)(p:Int):Int:=if 0<a.length then z0q a p 0 0 else p
def mvC(rows cols:List AxStep)(c:Cell):Option Cell:=
 if 0<rows.length/\mvR rows c.row<0 then none else if 0<cols.length/\mvR cols c.col<0 then none else some {c with row:=mvR rows c.row,col:=mvR cols c.col}
def movL(l:List Cell)(rows cols:List AxStep):List Cell:=l.filterMap (mvC rows cols)
def PIn(a:List AxStep)(p:Int):Prop:=0<a.length->Valid a/\0<=p/\p<oldI a
def CAN(k:Nat)(l:List Cell):Prop:=∀c∈l,c.attrs.length<=k
theorem z8F{l:List Cell}{i:Nat}(h:i<l.length):l.getD i default∈l:=by
 rw[show l.getD i default=l[i] by simp[List.getD,qa h]];exact zo _
theorem z12{l:List Cell}{rows cols:List AxStep}{i:Nat}(h:i<l.length):movL (l.take (i+1)) rows cols=movL (l.take i) rows cols++(mvC rows cols (l.getD i default)).toList:=by
 unfold movL
 rw[qr h,List.filterMap_append]
 simp only[List.getD,qa h,zz]
 simp only[List.filterMap_cons,List.filterMap_nil]
 cases mvC rows cols l[i]<;>rfl
theorem z7z(l:List Cell)(rows cols:List AxStep):(movL l rows cols).length<=l.length:=ja _ _
def putC(c:Cell)(k:List Cell->List Cell):List Cell->List Cell
 | []=>(if z09 c=true then[] else[c])++k []
 |x::l=>if ordC x c<0 then x::putC c k l else if ordC x c=0 then(if z09 c=true then[] else[c])++k l else(if z09 c=true then[] else[c])++k (x::l)
def putL:List Cell->List Cell->List Cell
 | [],l=>l
 |c::ns,l=>putC c (putL ns) l
theorem dropC{l:List Cell}{i:Nat}(h:i<l.length):l.drop i=l.getD i default::l.drop (i+1):=by
 rw[zk h];simp[List.getD,qa h]
theorem z8G{l:List Cell}{i:Nat}(h:l.length<=i):l.drop i=[]:=qP h
theorem y7L{c:Cell}{k:List Cell->List Cell}{l:List Cell}{j:Nat}(h:j<l.length)(h0:ordC (l.getD j default) c<0):putC c k (l.drop j)=l.getD j default::putC c k (l.drop (j+1)):=by
 rw[dropC h,putC,if_pos h0]
theorem z7A{c:Cell}{k:List Cell->List Cell}{l:List Cell}{j:Nat}(h:j<l.length)(h0:ordC (l.getD j default) c=0):putC c k (l.drop j)=(if z09 c=true then[] else[c])++k (l.drop (j+1)):=by
 rw[dropC h,putC,if_neg (by omega),if_pos h0]
theorem z7B{c:Cell}{k:List Cell->List Cell}{l:List Cell}{j:Nat}(h:j<l.length->0<ordC (l.getD j default) c):putC c k (l.drop j)=(if z09 c=true then[] else[c])++k (l.drop j):=by
 by_cases hj:j<l.length
 ·have:=h hj
  rw[dropC hj,putC,if_neg (by omega),if_neg (by omega)]
 ·rw[z8G (by omega),putC]
theorem z0h{α:Type}[Inhabited α]{l:List α}{i:Nat}(h:i<l.length):l.getD i default∈l:=by
 rw[show l.getD i default=l[i] by simp[List.getD,qa h]];exact zo _
theorem z3e{α:Type}[Inhabited α]{l:List α}{i:Nat}(h:i<l.length):l.drop i=l.getD i default::l.drop (i+1):=by
 rw[zk h];simp[List.getD,qa h]
def decR(u:ByteArray):Int:=((Lib.decodeGo u).1:Int)
def decW(u:ByteArray):Nat:=(Lib.decodeGo u).2
theorem z4z{u:ByteArray}(h:0<u.size):1<=decW u/\decW u<=u.size:=by
 unfold decW Lib.decodeGo
 rw[if_neg (by omega)]
 have hl:u.data.toList.length=u.size:=by rw[Array.length_toList];rfl
 rw[Lib.decode_N]
 have h1:=Lib.decodeN_ge1 (u.data.toList.length-0) (u.data.toList.getD 0 0).toNat (u.data.toList.getD (0+1) 0).toNat (u.data.toList.getD (0+2) 0).toNat (u.data.toList.getD (0+3) 0).toNat
 have h2:=Lib.decodeN_width_le (u.data.toList.length-0) (u.data.toList.getD 0 0).toNat (u.data.toList.getD (0+1) 0).toNat (u.data.toList.getD (0+2) 0).toNat (u.data.toList.getD (0+3) 0).toNat (by omega)
 omega
theorem y3G(u:ByteArray):0<=decR u/\decR u<=1114111:=by
 unfold decR Lib.decodeGo
 split
 ·decide
 ·have:=Lib.rune_le u 0;omega
def badT(u:ByteArray):Prop:=(decR u=65533/\decW u=1)\/decR u=10\/¬CharP (decR u)
instance (u:ByteArray):Decidable (badT u):=by unfold badT CharP;infer_instance
def textG(u:ByteArray):Bool:=if h:0<u.size then(if badT u then false else textG (u.extract (decW u) u.size)) else true
termination_by u.size
decreasing_by
 have:=z4z h
 rw[zV]
 omega
theorem y3H{u:ByteArray}(h:¬0<u.size):textG u=true:=by rw[textG,dif_neg h]
def tailG(u:ByteArray)(p:Nat):ByteArray:=u.extract p u.size
theorem z5c(a b:Cell):ordC a b=if a.row<b.row then-1 else if a.row>b.row then 1 else if a.col<b.col then-1 else if a.col>b.col then 1 else 0:=by
 unfold ordC
 simp only[orL]
 unfold cmpI
 by_cases h1:a.row<b.row
 ·rw[if_pos h1,if_pos (by decide),if_pos h1]
 ·rw[if_neg h1,if_neg h1]
  by_cases h2:a.row>b.row
  ·rw[if_pos h2,if_pos (by decide),if_pos h2]
  ·rw[if_neg h2,if_neg (by decide),if_neg h2]
   by_cases h3:a.col<b.col
   ·rw[if_pos h3,if_pos (by decide)]
   ·rw[if_neg h3]
    by_cases h4:a.col>b.col
    ·rw[if_pos h4,if_pos (by decide)]
    ·rw[if_neg h4,if_neg (by decide)]
theorem z7C{a b:Cell}:ordC a b<0↔a.row<b.row\/(a.row=b.row/\a.col<b.col):=by
 rw[z5c];repeat' split
 all_goals omega
theorem y3I{a b:Cell}:ordC a b=0↔a.row=b.row/\a.col=b.col:=by
 rw[z5c];repeat' split
 all_goals omega
def cellE(c:Cell)(m n:Int)(none:Bool):Int:=
 if c.row<0\/m<=c.row\/c.col<0\/n<=c.col then 2
 else if c.ref<0\/1073741824<c.ref then 2
 else if textG c.text=false then 23
 else if¬chkA false c.attrs 0=0 then chkA false c.attrs 0
 else if z09 c=true/\none=false then 4 else 0
def z0F(l:List Cell)(m n:Int)(none:Bool)(i:Nat):Int:=
 if i<l.length then
  (if¬cellE (l.getD i default) m n none=0 then cellE (l.getD i default) m n none
   else if 0<i/\0<=ordC (l.getD (i- 1) default) (l.getD i default) then 5 else z0F l m n none (i+1))
 else 0
termination_by l.length-i
def SzC(l:List Cell):Prop:=∀c∈l,c.text.size<=9223372036854775807/\Szd c.attrs
def anyM(l:List Rect)(r:Rect):Bool:=l.any (fun q=>meetB q r)
def mergE(l:List Rect)(m n:Int)(i:Nat):Int:=
 if i<l.length then
  (if insB (l.getD i default) m n=false then 2
   else if(l.getD i default).h=1/\(l.getD i default).w=1 then 4
   else if 0<i/\befB (l.getD (i- 1) default) (l.getD i default)=false then 5
   else if anyM (l.take i) (l.getD i default)=true then 21
   else mergE l m n (i+1))
 else 0
termination_by l.length-i
def gridE(g:Grid):Int:=
 if g.rows<0\/2147483647<g.rows\/g.cols<0\/2147483647<g.cols then 2
 else if¬z0F g.cells g.rows g.cols false 0=0 then z0F g.cells g.rows g.cols false 0
 else mergE g.merges g.rows g.cols 0
def idxF{α:Type}[Inhabited α](p:α->Bool)(l:List α)(i:Nat):Int:=if i<l.length then(if p (l.getD i default)=true then(i:Int) else idxF p l (i+1)) else-1
termination_by l.length-i
theorem y3J{α:Type}[Inhabited α](p:α->Bool){l:List α}:∀(n i:Nat),l.length-i=n->(0<=idxF p l i↔(l.drop i).any p=true)
 |0,i,h=>by rw[idxF,if_neg (by omega),qP (by omega)];simp
 |n+1,i,h=>by
  have hi:i<l.length:=by omega
  rw[idxF,if_pos hi,z3e hi,zC]
  by_cases hp:p (l.getD i default)=true
  ·rw[if_pos hp,hp];simp
  ·rw[if_neg hp,y3J p n (i+1) (by omega)]
   simp only[zK] at hp
   rw[hp,Bool.false_or]
theorem y0T{α:Type}[Inhabited α](p:α->Bool)(l:List α):(0<=idxF p l 0)=((l.any p)=true):=propext (by rw[y3J p _ 0 rfl,List.drop_zero])
def insQE(l:List Rect)(m n:Int)(i:Nat):Int:=if i<l.length then(if insB (l.getD i default) m n=false then 2 else insQE l m n (i+1)) else 0
termination_by l.length-i
def mgE(l:List Rect)(m n:Int)(i:Nat):Int:=if i<l.length then(if insB (l.getD i default) m n=false then 2 else if(l.getD i default).h=1/\(l.getD i default).w=1 then 4 else mgE l m n (i+1)) else 0
termination_by l.length-i
def celF(l:List Cell)(m n:Int)(i:Nat):Int:=if i<l.length then(if m<=(l.getD i default).row\/n<=(l.getD i default).col then 2 else celF l m n (i+1)) else 0
termination_by l.length-i
theorem z32{l:List Rect}{m n:Int}:∀(k i:Nat),l.length-i=k->insQE l m n i=0->∀j,i<=j->j<l.length->insB (l.getD j default) m n=true
 |0,i,h,_,j,h1,h2=>by omega
 |k+1,i,h,h0,j,h1,h2=>by
  rw[insQE,if_pos (by omega)] at h0
  split at h0
  ·cases h0
  ·rename_i hb
   by_cases e:i=j
   ·rw[<-e];simpa using hb
   ·exact z32 k (i+1) (by omega) h0 j (by omega) h2
theorem y3K{l:List Rect}{m n:Int}:∀(k i:Nat),l.length-i=k->mgE l m n i=0->∀j,i<=j->j<l.length->insB (l.getD j default) m n=true/\¬((l.getD j default).h=1/\(l.getD j default).w=1)
 |0,i,h,_,j,h1,h2=>by omega
 |k+1,i,h,h0,j,h1,h2=>by
  rw[mgE,if_pos (by omega)] at h0
  split at h0
  ·cases h0
  ·rename_i hb
   split at h0
   ·cases h0
   ·rename_i hc
    by_cases e:i=j
    ·rw[<-e];exact⟨by simpa using hb,hc⟩
    ·exact y3K k (i+1) (by omega) h0 j (by omega) h2
theorem y0U{l:List Cell}{m n:Int}:∀(k i:Nat),l.length-i=k->celF l m n i=0->∀j,i<=j->j<l.length->(l.getD j default).row<m/\(l.getD j default).col<n
 |0,i,h,_,j,h1,h2=>by omega
 |k+1,i,h,h0,j,h1,h2=>by
  rw[celF,if_pos (by omega)] at h0
  split at h0
  ·cases h0
  ·rename_i hb
   by_cases e:i=j
   ·rw[<-e];omega
   ·exact y0U k (i+1) (by omega) h0 j (by omega) h2
theorem z0D{α:Type}[Inhabited α]{l:List α}{x:α}(h:x∈l):∃j,j<l.length/\l.getD j default=x:=by
 obtain⟨j,hj,e⟩:=ze.1 h
 exact⟨j,hj,by rw[qc,qa hj];exact e⟩
structure EdOk(e:GEd):Prop where
 okr:Valid e.rows
 okc:Valid e.cols
 cells:z0F e.cells 2147483647 2147483647 true 0=0
 split:∀r∈e.split,insB r 2147483647 2147483647=true
 merge:∀r∈e.merge,insB r 2147483647 2147483647=true/\¬(r.h=1/\r.w=1)
def edE(e:GEd):Int:=
 if¬z1k e.rows=0 then z1k e.rows else if¬z1k e.cols=0 then z1k e.cols
 else if¬z0F e.cells 2147483647 2147483647 true 0=0 then z0F e.cells 2147483647 2147483647 true 0
 else if¬insQE e.split 2147483647 2147483647 0=0 then insQE e.split 2147483647 2147483647 0 else mgE e.merge 2147483647 2147483647 0
theorem y0V{e:GEd}(h:edE e=0):EdOk e:=by
 unfold edE at h
 split at h
 ·omega
 ·split at h
  ·omega
  ·split at h
   ·omega
   ·split at h
    ·omega
    ·refine⟨z25.1 (by omega),z25.1 (by omega),by omega,fun r hr=> ?_,fun r hr=> ?_⟩
     ·obtain⟨j,hj,rfl⟩:=z0D hr
      exact z32 _ 0 rfl (by omega) j (by omega) hj
     ·obtain⟨j,hj,rfl⟩:=z0D hr
      exact y3K _ 0 rfl h j (by omega) hj
def nwS(n:Int)(a:List AxStep):Int:=if 0<a.length then newI a else n
structure FitOk(g:Grid)(e:GEd):Prop where
 rows:0<e.rows.length->oldI e.rows=g.rows
 cols:0<e.cols.length->oldI e.cols=g.cols
 cells:∀c∈e.cells,c.row<nwS g.rows e.rows/\c.col<nwS g.cols e.cols
 split:∀r∈e.split,insB r (nwS g.rows e.rows) (nwS g.cols e.cols)=true
 merge:∀r∈e.merge,insB r (nwS g.rows e.rows) (nwS g.cols e.cols)=true
def fitE(g:Grid)(e:GEd):Int:=
 if 0<e.rows.length/\¬oldI e.rows=g.rows then 14 else if 0<e.cols.length/\¬oldI e.cols=g.cols then 14
 else if¬celF e.cells (nwS g.rows e.rows) (nwS g.cols e.cols) 0=0 then celF e.cells (nwS g.rows e.rows) (nwS g.cols e.cols) 0
 else if¬insQE e.split (nwS g.rows e.rows) (nwS g.cols e.cols) 0=0 then insQE e.split (nwS g.rows e.rows) (nwS g.cols e.cols) 0
 else insQE e.merge (nwS g.rows e.rows) (nwS g.cols e.cols) 0
theorem y3L{g:Grid}{e:GEd}(h:fitE g e=0):FitOk g e:=by
 unfold fitE at h
 split at h
 ·omega
 ·split at h
  ·omega
  ·split at h
   ·omega
   ·split at h
    ·omega
    ·refine⟨fun q=>by omega,fun q=>by omega,fun c hc=> ?_,fun r hr=> ?_,fun r hr=> ?_⟩
     ·obtain⟨j,hj,rfl⟩:=z0D hc
      exact y0U _ 0 rfl (by omega) j (by omega) hj
     ·obtain⟨j,hj,rfl⟩:=z0D hr
      exact z32 _ 0 rfl (by omega) j (by omega) hj
     ·obtain⟨j,hj,rfl⟩:=z0D hr
      exact z32 _ 0 rfl h j (by omega) hj
theorem y7M{l:List AxStep}(h:Valid l):0<=newI l/\newI l<=2147483647/\0<=oldI l/\oldI l<=2147483647:=by
 have:=h.2.1;have:=h.2.2
 unfold newI oldI;omega
theorem y6Z{n:Int}{a:List AxStep}(h:Valid a)(hn:0<=n/\n<=2147483647):0<=nwS n a/\nwS n a<=2147483647:=by
 have:=y7M h
 unfold nwS;split<;>omega
end Go.Ch
end
section
set_option maxRecDepth 100000
set_option maxHeartbeats 4000000
open Go Go.Proofs Go.Ab
namespace Go.Ch
theorem y0W(x:Int):FC Tryz.prog 142 [VI x] (app emp []) (VB false) (app emp []):=by
 refine .go Tryz.f142 ?_
 have e1:((x !=x):Bool)=false:=by
  simp
 exact .finE [.r [],.r []] [] (fun z0:Bool=>(VB z0,[])) _ _ e1.symm
theorem z7D(x y:Int):FC Tryz.prog 179 [VI x,VI y] (app emp []) (VI (cmpI x y)) (app emp []):=by
 refine .go Tryz.f179 ?_
 refine .bp [.r [],.r [(1,X (Xc0 (y0W x) X0))],.r [(1,X (Xc0 (y0W y) X0))],.r [],.f,.r [],.f,.r []] (decide (x<y)) (fun h9=> ?_) (fun h9=> ?_)
 ·
  have e1:((cmpI x y):Int)= -1:=by
   unfold cmpI;((repeat' split)<;>first|rfl|omega| (simp_all;done)| (simp_all;omega))
  exact .finE [.r []] [] (fun z0:Int=>(VI z0,[])) _ _ e1
 ·
  refine .bp [.r []] (decide (x>y)) (fun h11=> ?_) (fun h11=> ?_)
  ·
   have e2:((cmpI x y):Int)=1:=by
    unfold cmpI;((repeat' split)<;>first|rfl|omega| (simp_all;done)| (simp_all;omega))
   exact .finE [.r []] [] (fun z0:Int=>(VI z0,[])) _ _ e2
  ·
   have e3:((cmpI x y):Int)=0:=by
    unfold cmpI;((repeat' split)<;>first|rfl|omega| (simp_all;done)| (simp_all;omega))
   exact .finE [.r []] [] (fun z0:Int=>(VI z0,[])) _ _ e3
theorem fc_or(l:List Int):FC Tryz.prog 178 [VL 1 intT l] (app emp []) (VI (orL l)) (app emp []):=by
 refine .go Tryz.f178 ?_
 refine .len 0 (fun hl0=> ?_)
 refine .loop (α:=Nat) [.r [],.r [],.r [(1,X (Xl intT l))]] 40 (fun i=>([(3,VI 0),(6,VL 1 intT l),(7,VI (l.length:Int)),(8,VI (i:Int))],[])) (fun i=>i<=l.length/\orL l=orL (l.drop i)) (fun i=>l.length-i) (0:Nat) ?_ ?_
 ·
  exact⟨by omega,rfl⟩
 rintro i I3 ih3
 try dsimp only at I3
 refine .bp [.r []] (decide ((i:Int)< (l.length:Int))) (fun h3=> ?_) (fun h3=> ?_)
 ·
  refine .bp [.r [(0,X (Xi intT l (i:Int)))],.r []] ((l.getD i default) !=0) (fun h5=> ?_) (fun h5=> ?_)
  ·
   have e1:((orL l):Int)=(l.getD i default):=by
    rw[I3.2,y6W (by omega),if_pos (by omega)]
   exact .finE [.r []] [] (fun z0:Int=>(VI z0,[])) _ _ e1
  ·
   refine .back [.r [(0,X (Xn ((i:Int)+1)))]] [] (ih3 ((i+1):Nat) ?_ ?_)
   ·
    refine⟨by omega,?_⟩
    rw[I3.2,y6W (by omega),if_neg (by omega)]
   ·
    ((try dsimp only);omega)
 ·
  have e2:((orL l):Int)=0:=by
   rw[I3.2,qP (by omega)];rfl
  exact .finE [.r []] [] (fun z0:Int=>(VI z0,[])) _ _ e2
theorem z7E(a b:Cell):FC Tryz.prog 194 [.t (cellT a),.t (cellT b)] (app emp []) (VI (ordC a b)) (app emp []):=by
 refine .go Tryz.f194 ?_
 have e1:((ordC a b):Int)=(orL [(cmpI a.row b.row),(cmpI a.col b.col)]):=by
  rfl
 exact .finE [.r [],.r [(4,X (Xc0 (z7D a.row b.row) X0)),(9,X (Xc0 (z7D a.col b.col) X0)),(11,X (Xc0 (fc_or [(cmpI a.row b.row),(cmpI a.col b.col)]) (rowC intT [(cmpI a.row b.row),(cmpI a.col b.col)] X0)))]] [] (fun z0:Int=>(VI z0,[])) _ _ e1
theorem z7F(c:Cell):FC Tryz.prog 193 [.t (cellT c)] (app emp []) (VB (z09 c)) (app emp []):=by
 refine .go Tryz.f193 ?_
 have e1:((z09 c):Bool)=((seq c.text ({data:=#[]})&&(c.ref==0))&&((c.attrs.length:Int)==0)):=by
  rfl
 exact .finE [.r [],.r [(5,Xv 1 (seq c.text ({data:=#[]})) X0),(6,Xv 1 (seq c.text ({data:=#[]})) X0),(7,X (Xk (seq c.text ({data:=#[]})))),(10,Xv 1 (seq c.text ({data:=#[]})&&(c.ref==0)) X0),(11,Xv 1 (seq c.text ({data:=#[]})&&(c.ref==0)) (Xl attrT c.attrs)),(12,Xv 1 (seq c.text ({data:=#[]})&&(c.ref==0)) X0),(13,X (Xk (seq c.text ({data:=#[]})&&(c.ref==0))))]] [] (fun z0:Bool=>(VB z0,[])) _ _ e1
theorem z8H(s:ByteArray):FC Tryz.prog 196 [VS s] (app emp []) (VB (z2R s)) (app emp []):=by
 refine .go Tryz.f196 ?_
 refine .bp [.r [],.r [(4,Xv 1 (!(seq s ({data:=#[]}))) X0),(5,Xv 1 (!(seq s ({data:=#[]}))) X0),(6,X (Xk' (seq s ({data:=#[]})))),(10,Xv 1 (!(seq s ({data:=#[]})||decide ((s.size:Int)> 200))) X0),(11,Xv 1 (!(seq s ({data:=#[]})||decide ((s.size:Int)> 200))) (Xn ((s.size:Int)- 1)) (fun hg=>by(try simp only[decide_eq_true_eq,decide_eq_false_iff_not,Int.not_lt,Int.not_le,gt_iff_lt,zg,zH,qF,zJ] at hg);exact(by have:=z7v hg.1;omega))),(12,Xv 2 (!(seq s ({data:=#[]})||decide ((s.size:Int)> 200))) (Xb s ((s.size:Int)- 1)) (fun hg=>by(try simp only[decide_eq_true_eq,decide_eq_false_iff_not,Int.not_lt,Int.not_le,gt_iff_lt,zg,zH,qF,zJ] at hg);exact⟨(by have:=z7v hg.1;omega),(by omega)⟩)),(13,Xv 1 (!(seq s ({data:=#[]})||decide ((s.size:Int)> 200))) X0),(14,X (Xk' (seq s ({data:=#[]})||decide ((s.size:Int)> 200))))]] ((seq s ({data:=#[]})||decide ((s.size:Int)> 200))|| (((((s[(Int.toNat ((s.size:Int)- 1))]?).getD 0).toNat:Nat):Int)==97)) (fun h1=> ?_) (fun h1=> ?_)
 ·
  have e1:((z2R s):Bool)=false:=by
   have hs:((s.size:Int)- 1).toNat=s.size- 1:=by omega
   rw[hs] at h1;simp only[byt0,z2d,decide_eq_true_eq] at h1;unfold z2R;rw[decide_eq_false (fun q=>by omega)];rfl
  exact .finE [.r []] [] (fun z0:Bool=>(VB z0,[])) _ _ e1
 ·
  refine .loop (α:=Nat) [.r []] 152 (fun i=>([(0,VS s),(20,VI (s.size:Int)),(21,VI (i:Int))],[])) (fun i=>i<=s.size/\plS s 0=plS s i) (fun i=>s.size-i) (0:Nat) ?_ ?_
  ·
   exact⟨by omega,rfl⟩
  rintro i I4 ih4
  try dsimp only at I4
  refine .bp [.r []] (decide ((i:Int)< (s.size:Int))) (fun h4=> ?_) (fun h4=> ?_)
  ·
   refine .bp [.r [],.r [(2,X (Xb s (i:Int))),(7,Xv 2 (!(decide (((((s[i]?).getD 0).toNat:Nat):Int)< 97))) (Xb s (i:Int))),(8,Xv 1 (!(decide (((((s[i]?).getD 0).toNat:Nat):Int)< 97))) X0),(9,X (Xk' (decide (((((s[i]?).getD 0).toNat:Nat):Int)< 97))))]] (decide (((((s[i]?).getD 0).toNat:Nat):Int)< 97)||decide (((((s[i]?).getD 0).toNat:Nat):Int)> 122)) (fun h6=> ?_) (fun h6=> ?_)
   ·
    have e2:((z2R s):Bool)=false:=by
     simp only[byt0] at h6;unfold z2R;rw[I4.2,plS,if_pos (by omega),if_pos (by omega)];simp
    exact .finE [.r []] [] (fun z0:Bool=>(VB z0,[])) _ _ e2
   ·
    refine .back [.r [(0,X (Xn ((i:Int)+1)))]] [] (ih4 ((i+1):Nat) ?_ ?_)
    ·
     simp only[byt0] at h6;refine⟨by omega,?_⟩;rw[I4.2,plS,if_pos (by omega),if_neg (by omega)]
    ·
     ((try dsimp only);omega)
  ·
   have e3:((z2R s):Bool)=true:=by
    have hs:((s.size:Int)- 1).toNat=s.size- 1:=by omega
    rw[hs] at h1;simp only[byt0,z2d,decide_eq_false_iff_not] at h1;unfold z2R;rw[I4.2,plS,if_neg (by omega),decide_eq_true (by omega)];rfl
   exact .finE [.r []] [] (fun z0:Bool=>(VB z0,[])) _ _ e3
theorem z5X(a b:DOp):FC Tryz.prog 136 [.t (dopT a),.t (dopT b)] (app emp []) (VI (z4V a b)) (app emp []):=by
 refine .go Tryz.f136 ?_
 have e1:((z4V a b):Int)=(orL [(cmpI a.clock b.clock),(cmpI a.site b.site)]):=by
  rfl
 exact .finE [.r [],.r [(4,X (Xc0 (z7D a.clock b.clock) X0)),(9,X (Xc0 (z7D a.site b.site) X0)),(11,X (Xc0 (fc_or [(cmpI a.clock b.clock),(cmpI a.site b.site)]) (rowC intT [(cmpI a.clock b.clock),(cmpI a.site b.site)] X0)))]] [] (fun z0:Int=>(VI z0,[])) _ _ e1
theorem fc_op(o:DOp):FC Tryz.prog 163 [.t (dopT o)] (app emp []) (VI (opE o)) (app emp []):=by
 refine .go Tryz.f163 ?_
 refine .bp [.r [],.r [(5,Xv 1 (o.kind !=0) X0),(6,Xv 1 (o.kind !=0) X0),(7,X (Xk (o.kind !=0)))]] ((o.kind !=0)&&(o.kind !=1)) (fun h1=> ?_) (fun h1=> ?_)
 ·
  have e1:((opE o):Int)=8:=by
   unfold opE
   (repeat' split)<;>first|rfl| (exfalso;omega)| (exfalso;simp_all;done)| (exfalso;simp_all;omega)|grind
  exact .finE [.r []] [] (fun z0:Int=>(VI z0,[])) _ _ e1
 ·
  refine .bp [.r [(5,Xv 1 (!(decide (o.clock<1))) X0),(6,Xv 1 (!(decide (o.clock<1))) X0),(7,X (Xk' (decide (o.clock<1)))),(10,Xv 1 (!(decide (o.clock<1)||decide (o.clock>1073741824))) X0),(11,Xv 1 (!(decide (o.clock<1)||decide (o.clock>1073741824))) X0),(12,X (Xk' (decide (o.clock<1)||decide (o.clock>1073741824)))),(15,Xv 1 (!((decide (o.clock<1)||decide (o.clock>1073741824))||decide (o.site<0))) X0),(16,Xv 1 (!((decide (o.clock<1)||decide (o.clock>1073741824))||decide (o.site<0))) X0),(17,X (Xk' ((decide (o.clock<1)||decide (o.clock>1073741824))||decide (o.site<0)))),(20,Xv 1 (!(((decide (o.clock<1)||decide (o.clock>1073741824))||decide (o.site<0))||decide (o.site>1000))) X0),(21,Xv 1 (!(((decide (o.clock<1)||decide (o.clock>1073741824))||decide (o.site<0))||decide (o.site>1000))) X0),(22,X (Xk' (((decide (o.clock<1)||decide (o.clock>1073741824))||decide (o.site<0))||decide (o.site>1000)))),(25,Xv 1 (!((((decide (o.clock<1)||decide (o.clock>1073741824))||decide (o.site<0))||decide (o.site>1000))||decide (o.itm<1))) X0),(26,Xv 1 (!((((decide (o.clock<1)||decide (o.clock>1073741824))||decide (o.site<0))||decide (o.site>1000))||decide (o.itm<1))) X0),(27,X (Xk' ((((decide (o.clock<1)||decide (o.clock>1073741824))||decide (o.site<0))||decide (o.site>1000))||decide (o.itm<1))))]] (((((decide (o.clock<1)||decide (o.clock>1073741824))||decide (o.site<0))||decide (o.site>1000))||decide (o.itm<1))||decide (o.itm>1073741824)) (fun h3=> ?_) (fun h3=> ?_)
  ·
   have e2:((opE o):Int)=2:=by
    unfold opE
    (repeat' split)<;>first|rfl| (exfalso;omega)| (exfalso;simp_all;done)| (exfalso;simp_all;omega)|grind
   exact .finE [.r []] [] (fun z0:Int=>(VI z0,[])) _ _ e2
  ·
   refine .bp [.r [(5,Xv 1 (o.kind==0) X0),(6,Xv 1 (o.kind==0) X0),(7,Xv 1 (o.kind==0) X0),(9,Xv 1 ((o.kind==0)&& !(!(seq o.nm ({data:=#[]})))) X0),(10,Xv 1 ((o.kind==0)&& !(!(seq o.nm ({data:=#[]})))) X0),(11,Xko (o.kind==0) (!(seq o.nm ({data:=#[]})))),(12,X (Xk (o.kind==0)))]] ((o.kind==0)&&(!(seq o.nm ({data:=#[]}))|| !(seq o.vl ({data:=#[]})))) (fun h5=> ?_) (fun h5=> ?_)
   ·
    refine .bp [] ((o.kind==0)&&(!(seq o.nm ({data:=#[]}))|| !(seq o.vl ({data:=#[]})))) (fun h5=> ?_) (fun h5=> ?_)
    ·
     have e3:((opE o):Int)=4:=by
      unfold opE
      (repeat' split)<;>first|rfl| (exfalso;omega)| (exfalso;simp_all;done)| (exfalso;simp_all;omega)|grind
     exact .finE [.r []] [] (fun z0:Int=>(VI z0,[])) _ _ e3
    ·
     refine .bp [.r [(5,Xv 1 (o.kind==0) X0),(6,Xv 1 (o.kind==0) X0),(7,Xv 1 (o.kind==0) X0),(9,Xv 1 ((o.kind==0)&& !(decide (o.prt< (-1)))) X0),(10,Xv 1 ((o.kind==0)&& !(decide (o.prt< (-1)))) X0),(11,Xko (o.kind==0) (decide (o.prt< (-1)))),(12,X (Xk (o.kind==0)))]] ((o.kind==0)&&(decide (o.prt< (-1))||decide (o.prt>1073741824))) (fun h8=> ?_) (fun h8=> ?_)
     ·
      have e4:((opE o):Int)=2:=by
       unfold opE
       (repeat' split)<;>first|rfl| (exfalso;omega)| (exfalso;simp_all;done)| (exfalso;simp_all;omega)|grind
      exact .finE [.r []] [] (fun z0:Int=>(VI z0,[])) _ _ e4
     ·
      refine .bp [.r [(5,Xv 1 (o.kind==0) X0),(6,Xv 1 (o.kind==0) (Xc0 (z8H o.plc) X0)),(7,Xv 1 (o.kind==0) X0),(8,X (Xk (o.kind==0)))]] ((o.kind==0)&& !(z2R o.plc)) (fun h10=> ?_) (fun h10=> ?_)
      ·
       refine .bp [] ((o.kind==0)&& !(z2R o.plc)) (fun h10=> ?_) (fun h10=> ?_)
       ·
        have e5:((opE o):Int)=9:=by
         unfold opE
         (repeat' split)<;>first|rfl| (exfalso;omega)| (exfalso;simp_all;done)| (exfalso;simp_all;omega)|grind
        exact .finE [.r []] [] (fun z0:Int=>(VI z0,[])) _ _ e5
       ·
        refine .bp [.r [(5,Xv 1 (o.kind==1) X0),(6,Xv 1 (o.kind==1) X0),(7,X (Xk (o.kind==1))),(10,Xv 1 ((o.kind==1)&& !(seq o.vl ({data:=#[]}))) X0),(11,Xv 1 ((o.kind==1)&& !(seq o.vl ({data:=#[]}))) (Xc0 (z3c o.vl) X0)),(12,Xv 1 ((o.kind==1)&& !(seq o.vl ({data:=#[]}))) X0),(13,X (Xk ((o.kind==1)&& !(seq o.vl ({data:=#[]})))))]] (((o.kind==1)&& !(seq o.vl ({data:=#[]})))&& !(valGo o.vl)) (fun h13=> ?_) (fun h13=> ?_)
        ·
         have e6:((opE o):Int)=23:=by
          unfold opE
          (repeat' split)<;>first|rfl| (exfalso;omega)| (exfalso;simp_all;done)| (exfalso;simp_all;omega)|grind
         exact .finE [.r []] [] (fun z0:Int=>(VI z0,[])) _ _ e6
        ·
         have e7:((opE o):Int)=0:=by
          unfold opE
          (repeat' split)<;>first|rfl| (exfalso;omega)| (exfalso;simp_all;done)| (exfalso;simp_all;omega)|grind
         exact .finE [.r []] [] (fun z0:Int=>(VI z0,[])) _ _ e7
      ·
       refine .bp [.r [(5,Xv 1 (o.kind==1) X0),(6,Xv 1 (o.kind==1) (Xc0 (z9J o.nm) X0)),(7,Xv 1 (o.kind==1) X0),(8,X (Xk (o.kind==1)))]] ((o.kind==1)&& !(z1f o.nm)) (fun h11=> ?_) (fun h11=> ?_)
       ·
        have e8:((opE o):Int)=9:=by
         unfold opE
         (repeat' split)<;>first|rfl| (exfalso;omega)| (exfalso;simp_all;done)| (exfalso;simp_all;omega)|grind
        exact .finE [.r []] [] (fun z0:Int=>(VI z0,[])) _ _ e8
       ·
        refine .bp [.r [(5,Xv 1 (o.kind==1) X0),(6,Xv 1 (o.kind==1) X0),(7,X (Xk (o.kind==1))),(10,Xv 1 ((o.kind==1)&& !(seq o.vl ({data:=#[]}))) X0),(11,Xv 1 ((o.kind==1)&& !(seq o.vl ({data:=#[]}))) (Xc0 (z3c o.vl) X0)),(12,Xv 1 ((o.kind==1)&& !(seq o.vl ({data:=#[]}))) X0),(13,X (Xk ((o.kind==1)&& !(seq o.vl ({data:=#[]})))))]] (((o.kind==1)&& !(seq o.vl ({data:=#[]})))&& !(valGo o.vl)) (fun h13=> ?_) (fun h13=> ?_)
        ·
         have e9:((opE o):Int)=23:=by
          unfold opE
          (repeat' split)<;>first|rfl| (exfalso;omega)| (exfalso;simp_all;done)| (exfalso;simp_all;omega)|grind
         exact .finE [.r []] [] (fun z0:Int=>(VI z0,[])) _ _ e9
        ·
         have e10:((opE o):Int)=0:=by
          unfold opE
          (repeat' split)<;>first|rfl| (exfalso;omega)| (exfalso;simp_all;done)| (exfalso;simp_all;omega)|grind
         exact .finE [.r []] [] (fun z0:Int=>(VI z0,[])) _ _ e10
   ·
    refine .bp [.r [(5,Xv 1 (o.kind==1) X0),(6,Xv 1 (o.kind==1) X0),(7,Xv 1 (o.kind==1) X0),(9,Xv 1 ((o.kind==1)&& !(o.prt !=0)) X0),(10,Xv 1 ((o.kind==1)&& !(o.prt !=0)) X0),(11,Xko (o.kind==1) (o.prt !=0)),(12,X (Xk (o.kind==1)))]] ((o.kind==1)&&((o.prt !=0)|| !(seq o.plc ({data:=#[]})))) (fun h6=> ?_) (fun h6=> ?_)
    ·
     have e11:((opE o):Int)=4:=by
      unfold opE
      (repeat' split)<;>first|rfl| (exfalso;omega)| (exfalso;simp_all;done)| (exfalso;simp_all;omega)|grind
     exact .finE [.r []] [] (fun z0:Int=>(VI z0,[])) _ _ e11
    ·
     refine .bp [.r [(5,Xv 1 (o.kind==0) X0),(6,Xv 1 (o.kind==0) X0),(7,Xv 1 (o.kind==0) X0),(9,Xv 1 ((o.kind==0)&& !(decide (o.prt< (-1)))) X0),(10,Xv 1 ((o.kind==0)&& !(decide (o.prt< (-1)))) X0),(11,Xko (o.kind==0) (decide (o.prt< (-1)))),(12,X (Xk (o.kind==0)))]] ((o.kind==0)&&(decide (o.prt< (-1))||decide (o.prt>1073741824))) (fun h8=> ?_) (fun h8=> ?_)
     ·
      have e12:((opE o):Int)=2:=by
       unfold opE
       (repeat' split)<;>first|rfl| (exfalso;omega)| (exfalso;simp_all;done)| (exfalso;simp_all;omega)|grind
      exact .finE [.r []] [] (fun z0:Int=>(VI z0,[])) _ _ e12
     ·
      refine .bp [.r [(5,Xv 1 (o.kind==0) X0),(6,Xv 1 (o.kind==0) (Xc0 (z8H o.plc) X0)),(7,Xv 1 (o.kind==0) X0),(8,X (Xk (o.kind==0)))]] ((o.kind==0)&& !(z2R o.plc)) (fun h10=> ?_) (fun h10=> ?_)
      ·
       refine .bp [] ((o.kind==0)&& !(z2R o.plc)) (fun h10=> ?_) (fun h10=> ?_)
       ·
        have e13:((opE o):Int)=9:=by
         unfold opE
         (repeat' split)<;>first|rfl| (exfalso;omega)| (exfalso;simp_all;done)| (exfalso;simp_all;omega)|grind
        exact .finE [.r []] [] (fun z0:Int=>(VI z0,[])) _ _ e13
       ·
        refine .bp [.r [(5,Xv 1 (o.kind==1) X0),(6,Xv 1 (o.kind==1) X0),(7,X (Xk (o.kind==1))),(10,Xv 1 ((o.kind==1)&& !(seq o.vl ({data:=#[]}))) X0),(11,Xv 1 ((o.kind==1)&& !(seq o.vl ({data:=#[]}))) (Xc0 (z3c o.vl) X0)),(12,Xv 1 ((o.kind==1)&& !(seq o.vl ({data:=#[]}))) X0),(13,X (Xk ((o.kind==1)&& !(seq o.vl ({data:=#[]})))))]] (((o.kind==1)&& !(seq o.vl ({data:=#[]})))&& !(valGo o.vl)) (fun h13=> ?_) (fun h13=> ?_)
        ·
         have e14:((opE o):Int)=23:=by
          unfold opE
          (repeat' split)<;>first|rfl| (exfalso;omega)| (exfalso;simp_all;done)| (exfalso;simp_all;omega)|grind
         exact .finE [.r []] [] (fun z0:Int=>(VI z0,[])) _ _ e14
        ·
         have e15:((opE o):Int)=0:=by
          unfold opE
          (repeat' split)<;>first|rfl| (exfalso;omega)| (exfalso;simp_all;done)| (exfalso;simp_all;omega)|grind
         exact .finE [.r []] [] (fun z0:Int=>(VI z0,[])) _ _ e15
      ·
       refine .bp [.r [(5,Xv 1 (o.kind==1) X0),(6,Xv 1 (o.kind==1) (Xc0 (z9J o.nm) X0)),(7,Xv 1 (o.kind==1) X0),(8,X (Xk (o.kind==1)))]] ((o.kind==1)&& !(z1f o.nm)) (fun h11=> ?_) (fun h11=> ?_)
       ·
        have e16:((opE o):Int)=9:=by
         unfold opE
         (repeat' split)<;>first|rfl| (exfalso;omega)| (exfalso;simp_all;done)| (exfalso;simp_all;omega)|grind
        exact .finE [.r []] [] (fun z0:Int=>(VI z0,[])) _ _ e16
       ·
        refine .bp [.r [(5,Xv 1 (o.kind==1) X0),(6,Xv 1 (o.kind==1) X0),(7,X (Xk (o.kind==1))),(10,Xv 1 ((o.kind==1)&& !(seq o.vl ({data:=#[]}))) X0),(11,Xv 1 ((o.kind==1)&& !(seq o.vl ({data:=#[]}))) (Xc0 (z3c o.vl) X0)),(12,Xv 1 ((o.kind==1)&& !(seq o.vl ({data:=#[]}))) X0),(13,X (Xk ((o.kind==1)&& !(seq o.vl ({data:=#[]})))))]] (((o.kind==1)&& !(seq o.vl ({data:=#[]})))&& !(valGo o.vl)) (fun h13=> ?_) (fun h13=> ?_)
        ·
         have e17:((opE o):Int)=23:=by
          unfold opE
          (repeat' split)<;>first|rfl| (exfalso;omega)| (exfalso;simp_all;done)| (exfalso;simp_all;omega)|grind
         exact .finE [.r []] [] (fun z0:Int=>(VI z0,[])) _ _ e17
        ·
         have e18:((opE o):Int)=0:=by
          unfold opE
          (repeat' split)<;>first|rfl| (exfalso;omega)| (exfalso;simp_all;done)| (exfalso;simp_all;omega)|grind
         exact .finE [.r []] [] (fun z0:Int=>(VI z0,[])) _ _ e18
theorem z8I(l:List DOp):FC Tryz.prog 122 [VL 8 dopT l] (app emp []) (VI (drawE l 0)) (app emp []):=by
 refine .go Tryz.f122 ?_
 refine .len 0 (fun hl0=> ?_)
 refine .loop (α:=Nat) [.r [],.r [(1,X (Xl dopT l))]] 32 (fun i=>([(0,VL 8 dopT l),(6,VL 8 dopT l),(7,VI (l.length:Int)),(8,VI (i:Int))],[])) (fun i=>i<=l.length/\drawE l 0=drawE l i) (fun i=>l.length-i) (0:Nat) ?_ ?_
 ·
  exact⟨by omega,rfl⟩
 rintro i I2 ih2
 try dsimp only at I2
 refine .bp [.r []] (decide ((i:Int)< (l.length:Int))) (fun h2=> ?_) (fun h2=> ?_)
 ·
  refine .bp [.r [(1,X (Xi dopT l (i:Int)))],.r [(1,X (Xc0 (fc_op ((l.getD i default))) X0))],.r []] ((opE ((l.getD i default))) !=0) (fun h5=> ?_) (fun h5=> ?_)
  ·
   have e1:((drawE l 0):Int)=(opE ((l.getD i default))):=by
    rw[I2.2,drawE,if_pos (by omega),if_pos h5]
   exact .finE [.r []] [] (fun z0:Int=>(VI z0,[])) _ _ e1
  ·
   refine .bp [.r [(5,Xv 1 (decide ((i:Int)> 0)) (Xn ((i:Int)- 1))),(6,Xv 2 (decide ((i:Int)> 0)) (Xi' dopT l ((i:Int)- 1) (i- 1))),(7,Xv 1 (decide ((i:Int)> 0)) X0),(9,Xv 2 (decide ((i:Int)> 0)) (Xc0 (z5X ((l.getD (i- 1) default)) ((l.getD i default))) X0)),(10,Xv 1 (decide ((i:Int)> 0)) X0),(11,X (Xk (decide ((i:Int)> 0))))]] (decide ((i:Int)> 0)&&decide ((z4V ((l.getD (i- 1) default)) ((l.getD i default)))>=0)) (fun h7=> ?_) (fun h7=> ?_)
   ·
    have e2:((drawE l 0):Int)=5:=by
     rw[I2.2,drawE,if_pos (by omega),if_neg (by rw[h5];decide),if_pos ⟨by omega,by rw[<-z8w];exact h7.2⟩]
    exact .finE [.r []] [] (fun z0:Int=>(VI z0,[])) _ _ e2
   ·
    refine .back [.r [(0,X (Xn ((i:Int)+1)))]] [] (ih2 ((i+1):Nat) ?_ ?_)
    ·
     refine⟨by omega,?_⟩;rw[I2.2,drawE,if_pos (by omega),if_neg (by rw[h5];decide),if_neg (by rw[<-z8w];clear ih2;rintro⟨a,b⟩;rcases h7 with h|h<;>omega)]
    ·
     ((try dsimp only);omega)
 ·
  have e3:((drawE l 0):Int)=0:=by
   rw[I2.2,drawE,if_neg (by omega)]
  exact .finE [.r []] [] (fun z0:Int=>(VI z0,[])) _ _ e3
theorem y5W(a b:List DOp)(hn:a.length+b.length<=1099511627776):FC Tryz.prog 80 [VL 8 dopT a,VL 8 dopT b] (app emp []) (.tup [VL 8 dopT ((z0w a b).getD []),VI (if(z0w a b).isSome then(0:Int) else 6)]) (app emp []):=by
 refine .go Tryz.f80 ?_
 refine .len 0 (fun hl0=> ?_)
 refine .len 1 (fun hl1=> ?_)
 refine .loop (α:=(List DOp)×(List DOp)×(List DOp)) [.r [],.r [],.le (.nR 6 8)] 25 (fun(x,y,o)=>([(0,VL 8 dopT x),(1,VL 8 dopT y),(6,.row 24 o.length)],[(24,OR 8 dopT o)])) (fun(x,y,o)=>o.length+x.length+y.length<=a.length+b.length/\z0w a b=(z0w x y).map (o++ ·)) (fun(x,y,o)=>x.length+y.length) (a,b,[]) ?_ ?_
 ·
  exact⟨by simp,by simp⟩
 rintro⟨x,y,o⟩ I2 ih2
 try dsimp only at I2
 refine .bp [.r [(1,X (Xl dopT x)),(5,Xv 1 (!(decide ((x.length:Int)> 0))) (Xl dopT y)),(6,Xv 1 (!(decide ((x.length:Int)> 0))) X0),(7,X (Xk' (decide ((x.length:Int)> 0))))]] (decide ((x.length:Int)> 0)||decide ((y.length:Int)> 0)) (fun h2=> ?_) (fun h2=> ?_)
 ·
  have hxy:=h2
  refine .bp [.r [(1,X (Xl dopT y)),(5,Xv 1 (!((y.length:Int)==0)) (Xl dopT x)),(6,Xv 1 (!((y.length:Int)==0)) X0),(7,Xv 1 (!((y.length:Int)==0)) X0),(9,Xv 1 ((!((y.length:Int)==0))&&(decide ((x.length:Int)> 0))) (Xi dopT x 0) (fun hg=>by(try simp only[decide_eq_true_eq,decide_eq_false_iff_not,Int.not_lt,Int.not_le,gt_iff_lt,zg,zH,qm,Bool.and_eq_false_iff,beq_iff_eq,beq_eq_false_iff_ne,ne_eq] at hg);exact⟨(by omega),(by omega)⟩)),(10,Xv 1 ((!((y.length:Int)==0))&&(decide ((x.length:Int)> 0))) X0),(12,Xv 1 ((!((y.length:Int)==0))&&(decide ((x.length:Int)> 0))) (Xi dopT y 0) (fun hg=>by(try simp only[decide_eq_true_eq,decide_eq_false_iff_not,Int.not_lt,Int.not_le,gt_iff_lt,zg,zH,qm,Bool.and_eq_false_iff,beq_iff_eq,beq_eq_false_iff_ne,ne_eq] at hg);exact⟨(by omega),(by omega)⟩)),(13,Xv 1 ((!((y.length:Int)==0))&&(decide ((x.length:Int)> 0))) X0),(14,Xv 2 ((!((y.length:Int)==0))&&(decide ((x.length:Int)> 0))) (Xc0 (z5X ((x.getD 0 default)) ((y.getD 0 default))) X0)),(15,Xv 1 ((!((y.length:Int)==0))&&(decide ((x.length:Int)> 0))) X0),(16,Xka (!((y.length:Int)==0)) (decide ((x.length:Int)> 0))),(17,X (Xk' ((y.length:Int)==0)))]] (((y.length:Int)==0)|| (decide ((x.length:Int)> 0)&&decide ((z4V ((x.getD 0 default)) ((y.getD 0 default)))< 0))) (fun h4=> ?_) (fun h4=> ?_)
  ·
   refine .back [.r [(2,X (Xi dopT x 0)),(5,X (rowC dopT [((x.getD 0 default))] (Xap 8 dopT 24 o [((x.getD 0 default))]))),(7,X (Xsd dopT 8 x 1))]] [(24,24)] (ih2 ((x.drop 1),y,(o++[((x.getD 0 default))])) ?_ ?_)
   ·
    have hl:y.length=0\/ltO (x.getD 0 default) (y.getD 0 default):=by(rw[<-z24];omega)
    refine⟨by simp;omega,?_⟩
    rw[I2.2,z9L (by omega) hl,Option.map_map];congr 1;funext z;simp
   ·
    (try dsimp only);simp;omega
  ·
   refine .bp [.r [(1,X (Xl dopT x)),(5,Xv 1 (!((x.length:Int)==0)) (Xi dopT y 0) (fun hg=>by(try simp only[zg,zH,beq_iff_eq,beq_eq_false_iff_ne,ne_eq] at hg);exact⟨(by omega),(by omega)⟩)),(6,Xv 1 (!((x.length:Int)==0)) X0),(8,Xv 1 (!((x.length:Int)==0)) (Xi dopT x 0) (fun hg=>by(try simp only[zg,zH,beq_iff_eq,beq_eq_false_iff_ne,ne_eq] at hg);exact⟨(by omega),(by omega)⟩)),(9,Xv 1 (!((x.length:Int)==0)) X0),(10,Xv 2 (!((x.length:Int)==0)) (Xc0 (z5X ((y.getD 0 default)) ((x.getD 0 default))) X0)),(11,Xv 1 (!((x.length:Int)==0)) X0),(12,X (Xk' ((x.length:Int)==0)))]] (((x.length:Int)==0)||decide ((z4V ((y.getD 0 default)) ((x.getD 0 default)))< 0)) (fun h6=> ?_) (fun h6=> ?_)
   ·
    refine .back [.r [(2,X (Xi dopT y 0)),(5,X (rowC dopT [((y.getD 0 default))] (Xap 8 dopT 24 o [((y.getD 0 default))]))),(7,X (Xsd dopT 8 y 1))]] [(24,24)] (ih2 (x,(y.drop 1),(o++[((y.getD 0 default))])) ?_ ?_)
    ·
     have hl:x.length=0\/ltO (y.getD 0 default) (x.getD 0 default):=by(rw[<-z24];omega)
     refine⟨by simp;omega,?_⟩
     rw[I2.2,z8x (by omega) hl,Option.map_map];congr 1;funext z;simp
    ·
     (try dsimp only);simp;omega
   ·
    have hx0:0<x.length:=by omega
    have hy0:0<y.length:=by omega
    have n1:¬ltO (x.getD 0 default) (y.getD 0 default):=by(rw[<-z24];omega)
    have n2:¬ltO (y.getD 0 default) (x.getD 0 default):=by(rw[<-z24];omega)
    have hu:=z9M hx0 hy0 n1 n2
    refine .bp [.r [(1,X (Xi dopT x 0)),(4,X (Xi dopT y 0))]] (!((((x.getD 0 default)).clock)==(((y.getD 0 default)).clock)&&((((x.getD 0 default)).site)==(((y.getD 0 default)).site)&&((((x.getD 0 default)).kind)==(((y.getD 0 default)).kind)&&((((x.getD 0 default)).itm)==(((y.getD 0 default)).itm)&&((((x.getD 0 default)).prt)==(((y.getD 0 default)).prt)&&(seq (((x.getD 0 default)).plc) (((y.getD 0 default)).plc)&&(seq (((x.getD 0 default)).nm) (((y.getD 0 default)).nm)&&(seq (((x.getD 0 default)).vl) (((y.getD 0 default)).vl)&&true))))))))) (fun h8=> ?_) (fun h8=> ?_)
    ·
     have e1:(((z0w a b).getD []):List DOp)=[]:=by
      have hne:¬x.getD 0 default=y.getD 0 default:=by
       intro e
       have s0:∀s,seq s s=true:=fun s=>z0u.2 rfl
       rw[e] at h8
       simp[s0] at h8
      rw[I2.2,hu,if_neg hne];rfl
     have e2:((if(z0w a b).isSome then(0:Int) else 6):Int)=6:=by
      have hne:¬x.getD 0 default=y.getD 0 default:=by
       intro e
       have s0:∀s,seq s s=true:=fun s=>z0u.2 rfl
       rw[e] at h8
       simp[s0] at h8
      rw[I2.2,hu,if_neg hne];rfl
     exact .finE [.r [],.le (.nL 4 8)] [] (fun((z0,z1):(List DOp)×Int)=>(.tup [VL 8 dopT z0,VI z1],[])) _ _ (pr e1 e2)
    ·
     refine .back [.r [(2,X (Xi dopT x 0)),(5,X (rowC dopT [((x.getD 0 default))] (Xap 8 dopT 24 o [((x.getD 0 default))]))),(7,X (Xsd dopT 8 x 1)),(9,X (Xsd dopT 8 y 1))]] [(24,24)] (ih2 ((x.drop 1),(y.drop 1),(o++[((x.getD 0 default))])) ?_ ?_)
     ·
      obtain⟨q1,q2,q3,q4,q5,q6,q7,q8,-⟩:=h8
      rw[z0u] at q6 q7 q8
      refine⟨by simp;omega,?_⟩
      rw[I2.2,hu,if_pos (y7J q1 q2 q3 q4 q5 q6 q7 q8),Option.map_map];congr 1;funext z;simp
     ·
      (try dsimp only);simp;omega
 ·
  have e3:(((z0w a b).getD []):List DOp)=o:=by
   have hx0:x=[]:=qL (by omega)
   have hy0:y=[]:=qL (by omega)
   rw[I2.2,hx0,hy0];simp[z0w]
  have e4:((if(z0w a b).isSome then(0:Int) else 6):Int)=0:=by
   have hx0:x=[]:=qL (by omega)
   have hy0:y=[]:=qL (by omega)
   rw[I2.2,hx0,hy0];simp[z0w]
  exact .finE [.r [],.le (.fr 4 [(o.length:Nat)=(List.map dopT o).length] ⟨lm,trivial⟩)] [] (fun((z0,z1):(List DOp)×Int)=>(.tup [VL 8 dopT z0,VI z1],[])) _ _ (pr e3 e4)
theorem y5X(l:List AxStep)(p:Int)(hv:Valid l)(hp:0<=p/\p<=2147483647):FC Tryz.prog 219 [VL 2 stepT l,VI p] (app emp []) (VI (z0q l p 0 0)) (app emp []):=by
 refine .go Tryz.f219 ?_
 refine .len 0 (fun hl0=> ?_)
 have ca:=z25.2 hv
 have hv1:oldI l<=2147483647:=by have:=hv.2.1;unfold oldI;omega
 have hv2:newI l<=2147483647:=by have:=hv.2.2;unfold newI;omega
 have o0:0<=oldI l:=by unfold oldI;omega
 have o1:0<=newI l:=by unfold newI;omega
 refine .loop (α:=Int×Int×Nat) [.r [],.r [],.r [(1,X (Xl stepT l))]] 48 (fun(fr,tq,i)=>([(1,VI p),(5,VI fr),(6,VI tq),(9,VL 2 stepT l),(10,VI (l.length:Int)),(11,VI (i:Int))],[])) (fun(fr,tq,i)=>i<=l.length/\0<=fr/\0<=tq/\fr+oldU (ex (l.drop i))=oldI l/\tq+newU (ex (l.drop i))=newI l/\fr<=p/\z0q l p 0 0=z0q (l.drop i) p fr tq) (fun(fr,tq,i)=>l.length-i) (0,0,0) ?_ ?_
 ·
  exact⟨by omega,by decide,by decide,by simp[oldI],by simp[newI],by omega,rfl⟩
 rintro⟨fr,tq,i⟩ I3 ih3
 try dsimp only at I3
 refine .bp [.r []] (decide ((i:Int)< (l.length:Int))) (fun h3=> ?_) (fun h3=> ?_)
 ·
  have hst:=z8C (l:=l) (i:=i) (by omega) hv.1
  have hd:=z7y (l:=l) (i:=i) (by omega)
  refine .bp [.r [(0,X (Xi stepT l (i:Int)))],.r [],.r []] ((((l.getD i default)).kind)==1) (fun h8=> ?_) (fun h8=> ?_)
  ·
   refine .back [.r [(3,X (Xn (tq+(((l.getD i default)).n))))],.r [(0,X (Xn ((i:Int)+1)))]] [] (ih3 (fr,(tq+(((l.getD i default)).n)),(i+1)) ?_ ?_)
   ·
    obtain⟨s1,s2,s3,s4,s5⟩:=hst
    (first|rw[if_pos (by omega)] at s1|rw[if_neg (by omega)] at s1)
    (first|rw[if_pos (by omega)] at s2|rw[if_neg (by omega)] at s2)
    refine⟨by omega,by omega,by omega,by omega,by omega,by omega,?_⟩
    rw[I3.2.2.2.2.2.2,hd,z0q]
    ((repeat' split)<;>first|rfl|omega)
   ·
    ((try dsimp only);omega)
  ·
   refine .bp [.r []] ((((l.getD i default)).kind)==0) (fun h10=> ?_) (fun h10=> ?_)
   ·
    refine .bp [.r [(4,X (Xn (fr+(((l.getD i default)).n))))]] (decide (p< (fr+(((l.getD i default)).n)))) (fun h11=> ?_) (fun h11=> ?_)
    ·
     have e1:((z0q l p 0 0):Int)=((tq+p)- fr):=by
      first| (rw[I3.2.2.2.2.2.2,z3Z (by omega)];rfl)| (rw[I3.2.2.2.2.2.2,hd,z0q];((repeat' split)<;>first|rfl|omega))
     exact .finE [.r [(2,X (Xn (tq+p))),(4,X (Xn ((tq+p)- fr)))]] [] (fun z0:Int=>(VI z0,[])) _ _ e1
    ·
     refine .back [.r [(3,X (Xn (tq+(((l.getD i default)).n))))],.r [(3,X (Xn (fr+(((l.getD i default)).n))))],.r [(0,X (Xn ((i:Int)+1)))]] [] (ih3 ((fr+(((l.getD i default)).n)),(tq+(((l.getD i default)).n)),(i+1)) ?_ ?_)
     ·
      obtain⟨s1,s2,s3,s4,s5⟩:=hst
      (first|rw[if_pos (by omega)] at s1|rw[if_neg (by omega)] at s1)
      (first|rw[if_pos (by omega)] at s2|rw[if_neg (by omega)] at s2)
      refine⟨by omega,by omega,by omega,by omega,by omega,by omega,?_⟩
      rw[I3.2.2.2.2.2.2,hd,z0q]
      ((repeat' split)<;>first|rfl|omega)
     ·
      ((try dsimp only);omega)
   ·
    refine .bp [.r [(4,X (Xn (fr+(((l.getD i default)).n))))]] (decide (p< (fr+(((l.getD i default)).n)))) (fun h6=> ?_) (fun h6=> ?_)
    ·
     have e2:((z0q l p 0 0):Int)= -1:=by
      first| (rw[I3.2.2.2.2.2.2,z3Z (by omega)];rfl)| (rw[I3.2.2.2.2.2.2,hd,z0q];((repeat' split)<;>first|rfl|omega))
     exact .finE [.r []] [] (fun z0:Int=>(VI z0,[])) _ _ e2
    ·
     refine .back [.r [(3,X (Xn (fr+(((l.getD i default)).n))))],.r [(0,X (Xn ((i:Int)+1)))]] [] (ih3 ((fr+(((l.getD i default)).n)),tq,(i+1)) ?_ ?_)
     ·
      obtain⟨s1,s2,s3,s4,s5⟩:=hst
      (first|rw[if_pos (by omega)] at s1|rw[if_neg (by omega)] at s1)
      (first|rw[if_pos (by omega)] at s2|rw[if_neg (by omega)] at s2)
      refine⟨by omega,by omega,by omega,by omega,by omega,by omega,?_⟩
      rw[I3.2.2.2.2.2.2,hd,z0q]
      ((repeat' split)<;>first|rfl|omega)
     ·
      ((try dsimp only);omega)
 ·
  have e3:((z0q l p 0 0):Int)= -1:=by
   first| (rw[I3.2.2.2.2.2.2,z3Z (by omega)];rfl)| (rw[I3.2.2.2.2.2.2,hd,z0q];((repeat' split)<;>first|rfl|omega))
  exact .finE [.r []] [] (fun z0:Int=>(VI z0,[])) _ _ e3
theorem z4A(l:List AxStep)(pl:List Int)(hv:Valid l)(hp:∀x∈pl,0<=x/\x<oldI l)(hlen:pl.length<=1000000000):FC Tryz.prog 203 [VL 2 stepT l,VL 1 intT pl] (app emp []) (.tup [VL 1 intT (List.map (fun x=>z0q l x 0 0) pl),VI 0]) (app emp []):=by
 refine .go Tryz.f203 ?_
 refine .len 0 (fun hl0=> ?_)
 refine .len 1 (fun hl1=> ?_)
 have ca:=z25.2 hv
 have hv1:oldI l<=2147483647:=by have:=hv.2.1;unfold oldI;omega
 have hv2:newI l<=2147483647:=by have:=hv.2.2;unfold newI;omega
 have o0:0<=oldI l:=by unfold oldI;omega
 have o1:0<=newI l:=by unfold newI;omega
 refine .bp [.r [],.r [(1,X (Xc0 (z2u l) X0))],.r []] ((z1k l) !=0) (fun h2=> ?_) (fun h2=> ?_)
 ·
  exfalso
  omega
 ·
  refine .loop (α:=Nat×(List Int)) [.r [(1,X (Xc0 (z8D l (by assumption)) X0))],.r [],.r [(1,X (Xl intT pl))],.le (.nR 9 1)] 145 (fun(i,out)=>([(0,VL 2 stepT l),(7,VI (oldI l)),(9,.row 144 out.length),(22,VL 1 intT pl),(23,VI (pl.length:Int)),(24,VI (i:Int))],[(144,OR 1 intT out)])) (fun(i,out)=>i<=pl.length/\out=(pl.take i).map (fun x=>z0q l x 0 0)) (fun(i,out)=>pl.length-i) (0,[]) ?_ ?_
  ·
   exact⟨by omega,rfl⟩
  rintro⟨i,out⟩ I7 ih7
  try dsimp only at I7
  have ol:out.length=i:=by rw[I7.2];simp;omega
  refine .bp [.r []] (decide ((i:Int)< (pl.length:Int))) (fun h7=> ?_) (fun h7=> ?_)
  ·
   have hx:=hp (pl.getD i default) (by rw[show pl.getD i default=pl[i] by simp[List.getD,qa (show i<pl.length by omega)]];exact zo _)
   refine .bp [.r [(0,X (Xi intT pl (i:Int)))],.r [(5,Xv 2 (!(decide ((pl.getD i default)< 0))) X0),(6,X (Xk' (decide ((pl.getD i default)< 0))))]] (decide ((pl.getD i default)< 0)||decide ((pl.getD i default)>=(oldI l))) (fun h9=> ?_) (fun h9=> ?_)
   ·
    exfalso
    omega
   ·
    refine .back [.r [(3,X (Xc0 (y5X l (pl.getD i default) (by assumption) (by omega)) X0)),(5,X (rowC intT [(z0q l (pl.getD i default) 0 0)] (Xap 1 intT 144 out [(z0q l (pl.getD i default) 0 0)])))],.r [(0,X (Xn ((i:Int)+1)))]] [(144,144)] (ih7 ((i+1),(out++[(z0q l (pl.getD i default) 0 0)])) ?_ ?_)
    ·
     refine⟨by omega,?_⟩
     rw[I7.2,qr (show i<pl.length by omega),qX]
     simp[List.getD,qa (show i<pl.length by omega)]
    ·
     ((try dsimp only);omega)
  ·
   have e1:((List.map (fun x=>z0q l x 0 0) pl):List Int)=out:=by
    rw[I7.2,qn (by omega)]
   exact .finE [.r [],.le (.fr 4 [(out.length:Nat)=(List.map intT out).length] ⟨lm,trivial⟩)] [] (fun z0:List Int=>(.tup [VL 1 intT z0,VI 0],[])) _ _ e1
end Go.Ch
end
section
namespace Go.Ch
open Go Go.Ab
def NoTx(l:List Cell):Prop:=∀c∈l,c.text.size=0
structure LiteE(e:GEd):Prop where
 sp:e.split.length=0
 me:e.merge.length=0
 tx:NoTx e.cells
 ln:e.cells.length<=1048576
def fitsE(x:Grid)(e:GEd):Int:=if gridE x≠0 then gridE x else if edE e≠0 then edE e else fitE x e
def fitM(x:Grid)(e:GEd):Int:=if fitsE x e≠0 then 0 else nwS x.rows e.rows
def fitN(x:Grid)(e:GEd):Int:=if fitsE x e≠0 then 0 else nwS x.cols e.cols
theorem y0X{x:Grid}{e:GEd}{k:Int}(h:fitsE x e=k)(hk:k≠0):fitM x e=0/\fitN x e=0/\fitsE x e=k:=by
 unfold fitM fitN
 rw[h,if_pos hk,if_pos hk];exact⟨rfl,rfl,rfl⟩
theorem y80{x:Grid}{e:GEd}(h:gridE x≠0):fitM x e=0/\fitN x e=0/\fitsE x e=gridE x:=y0X (by unfold fitsE;rw[if_pos h]) h
theorem y81{x:Grid}{e:GEd}(h:gridE x=0)(h2:edE e≠0):fitM x e=0/\fitN x e=0/\fitsE x e=edE e:=y0X (by unfold fitsE;rw[if_neg (fun q=>q h),if_pos h2]) h2
theorem y82{x:Grid}{e:GEd}(h:gridE x=0)(h2:edE e=0)(h3:¬(0<e.rows.length->oldI e.rows=x.rows)\/¬(0<e.cols.length->oldI e.cols=x.cols)):fitM x e=0/\fitN x e=0/\fitsE x e=14:=
 y0X (by
  unfold fitsE fitE
  rw[if_neg (fun q=>q h),if_neg (fun q=>q h2)]
  split
  ·rfl
  ·rename_i q
   rw[if_pos]
   rcases h3 with z|z
   ·exact absurd (fun a=>qd fun b=>q ⟨a,b⟩) z
   ·exact qd fun w=>z (fun a=>qd fun b=>w ⟨a,b⟩)) (by decide)
theorem y60{x:Grid}{e:GEd}(h:gridE x=0)(h2:edE e=0)(h3:(0<e.rows.length->oldI e.rows=x.rows)/\(0<e.cols.length->oldI e.cols=x.cols))(q1:e.split.length=0)(q2:e.merge.length=0):fitsE x e=celF e.cells (nwS x.rows e.rows) (nwS x.cols e.cols) 0:=by
 have i1:insQE e.split (nwS x.rows e.rows) (nwS x.cols e.cols) 0=0:=by rw[insQE,if_neg (by omega)]
 have i2:insQE e.merge (nwS x.rows e.rows) (nwS x.cols e.cols) 0=0:=by rw[insQE,if_neg (by omega)]
 unfold fitsE fitE
 rw[if_neg (fun q=>q h),if_neg (fun q=>q h2),if_neg (fun q=>q.2 (h3.1 q.1)),if_neg (fun q=>q.2 (h3.2 q.1)),i1,i2]
 split
 ·rfl
 ·rename_i q
  rw[if_neg (fun z=>z rfl)]
  exact(qd q).symm
theorem y83{x:Grid}{e:GEd}(h:gridE x=0)(h2:edE e=0)(h3:(0<e.rows.length->oldI e.rows=x.rows)/\(0<e.cols.length->oldI e.cols=x.cols))(q1:e.split.length=0)(q2:e.merge.length=0)(hc:celF e.cells (nwS x.rows e.rows) (nwS x.cols e.cols) 0=2):fitM x e=0/\fitN x e=0/\fitsE x e=2:=
 y0X ((y60 h h2 h3 q1 q2).trans hc) (by decide)
theorem y84{x:Grid}{e:GEd}(h:gridE x=0)(h2:edE e=0)(h3:(0<e.rows.length->oldI e.rows=x.rows)/\(0<e.cols.length->oldI e.cols=x.cols))(q1:e.split.length=0)(q2:e.merge.length=0)(hc:celF e.cells (nwS x.rows e.rows) (nwS x.cols e.cols) 0=0):fitM x e=nwS x.rows e.rows/\fitN x e=nwS x.cols e.cols/\fitsE x e=0:=by
 have e0:=(y60 h h2 h3 q1 q2).trans hc
 unfold fitM fitN
 rw[e0,if_neg (fun q=>q rfl),if_neg (fun q=>q rfl)]
 exact⟨rfl,rfl,rfl⟩
def rawT(g:Grid)(e:GEd):Grid:=⟨nwS g.rows e.rows,nwS g.cols e.cols,putL e.cells (movL g.cells e.rows e.cols),[]⟩
structure RawT(g:Grid)(e:GEd):Prop where
 vr:0<e.rows.length->Valid e.rows
 vk:0<e.cols.length->Valid e.cols
 l1:g.cells.length<=1048576
 l2:e.cells.length<=1048576
 a1:CAN 1000000000000 g.cells
 a2:CAN 1000000000000 e.cells
 p1:∀c∈g.cells,PIn e.rows c.row
 p2:∀c∈g.cells,PIn e.cols c.col
 q1:g.merges.length=0
 q2:e.merge.length=0
theorem y0Y{l:List Cell}{m n:Int}{o:Bool}:∀(k i:Nat),l.length-i=k->z0F l m n o i=0->∀j,i<=j->j<l.length->cellE (l.getD j default) m n o=0
 |0,i,h,_,j,h1,h2=>by omega
 |k+1,i,h,h0,j,h1,h2=>by
  rw[z0F,if_pos (by omega)] at h0
  split at h0
  ·rename_i q;exact absurd h0 q
  ·rename_i q
   split at h0
   ·cases h0
   ·by_cases e:i=j
    ·rw[<-e];exact qd q
    ·exact y0Y k (i+1) (by omega) h0 j (by omega) h2
theorem y2b{x:Grid}(h:gridE x=0):∀c∈x.cells,0<=c.row/\c.row<x.rows/\0<=c.col/\c.col<x.cols:=by
 have hc:z0F x.cells x.rows x.cols false 0=0:=by
  unfold gridE at h
  split at h
  ·cases h
  ·split at h
   ·rename_i q;exact absurd h q
   ·rename_i q;exact qd q
 intro c hm
 obtain⟨j,hj,rfl⟩:=z0D hm
 have:=y0Y _ 0 rfl hc j (qU _) hj
 unfold cellE at this
 split at this
 ·cases this
 ·omega
theorem RawT.of{x:Grid}{e:GEd}(h:fitsE x e=0)(hm:x.merges=[])(hl:LiteE e)(l1:x.cells.length<=1048576)(l2:e.cells.length<=1048576)(a1:∀c∈x.cells,c.attrs.length<=1048576)(a2:∀c∈e.cells,c.attrs.length<=1048576):RawT x e:=by
 unfold fitsE at h
 split at h
 ·rename_i q;exact absurd h q
 rename_i q
 have hg:gridE x=0:=qd q
 split at h
 ·rename_i q;exact absurd h q
 rename_i q
 have he:edE e=0:=qd q
 have ho:=y0V he
 have hf:=y3L h
 have hc:=y2b hg
 refine⟨fun _=>ho.okr,fun _=>ho.okc,l1,l2,fun c h=>by have:=a1 c h;omega,fun c h=>by have:=a2 c h;omega,fun c hm hp=>⟨ho.okr,?_⟩,fun c hm hp=>⟨ho.okc,?_⟩,by rw[hm];rfl,hl.me⟩
 ·have:=hc c hm;have:=hf.rows hp;omega
 ·have:=hc c hm;have:=hf.cols hp;omega
end Go.Ch
end
section
set_option maxRecDepth 100000
set_option maxHeartbeats 4000000
open Go Go.Proofs Go.Ab
namespace Go.Ch
theorem y5Y(s:ByteArray)(hs:s.size=0):FC Tryz.prog 192 [VS s] (app emp []) (VB (textG s)) (app emp []):=by
 refine .go Tryz.f192 ?_
 refine .loop (α:=ByteArray) [.r []] 8 (fun u=>([(0,VS u)],[])) (fun u=>u=s) (fun u=>u.size) (s:ByteArray) ?_ ?_
 ·
  rfl
 rintro u I1 ih1
 replace I1:u=s:=I1
 refine .bp [.r []] (!(seq u ({data:=#[]}))) (fun h1=> ?_) (fun h1=> ?_)
 ·
  exfalso
  rw[z2d,decide_eq_false_iff_not] at h1
  rw[I1] at h1;omega
 ·
  have e1:((textG s):Bool)=true:=by
   rw[y3H (by omega)]
  exact .finE [.r []] [] (fun z0:Bool=>(VB z0,[])) _ _ e1
theorem y0Z(l:List Cell)(m n:Int)(o:Bool)(hnt:NoTx l):FC Tryz.prog 157 [VL 5 cellT l,VI m,VI n,VB o] (app emp []) (VI (z0F l m n o 0)) (app emp []):=by
 refine .go Tryz.f157 ?_
 refine .len 0 (fun hl0=> ?_)
 refine .loop (α:=Nat) [.r [],.r [(1,X (Xl cellT l))]] 32 (fun i=>([(0,VL 5 cellT l),(1,VI m),(2,VI n),(3,VB o),(12,VL 5 cellT l),(13,VI (l.length:Int)),(14,VI (i:Int))],[])) (fun i=>i<=l.length/\z0F l m n o 0=z0F l m n o i) (fun i=>l.length-i) (0:Nat) ?_ ?_
 ·
  exact⟨by omega,rfl⟩
 rintro i I2 ih2
 try dsimp only at I2
 refine .bp [.r []] (decide ((i:Int)< (l.length:Int))) (fun h2=> ?_) (fun h2=> ?_)
 ·
  have hx:z0F l m n o i=_:=z0F.eq_1 l m n o i
  rw[if_pos (by omega)] at hx
  unfold cellE at hx
  have hxt:(l.getD i default).text.size=0:=hnt _ (z0h (by omega))
  refine .bp [.r [(1,X (Xi cellT l (i:Int)))],.r [(5,Xv 1 (!(decide ((((l.getD i default)).row)< 0))) X0),(7,Xv 2 (!(decide ((((l.getD i default)).row)< 0))) X0),(8,X (Xk' (decide ((((l.getD i default)).row)< 0)))),(11,Xv 1 (!(decide ((((l.getD i default)).row)< 0)||decide ((((l.getD i default)).row)>=m))) X0),(12,Xv 1 (!(decide ((((l.getD i default)).row)< 0)||decide ((((l.getD i default)).row)>=m))) X0),(13,X (Xk' (decide ((((l.getD i default)).row)< 0)||decide ((((l.getD i default)).row)>=m)))),(16,Xv 1 (!((decide ((((l.getD i default)).row)< 0)||decide ((((l.getD i default)).row)>=m))||decide ((((l.getD i default)).col)< 0))) X0),(18,Xv 2 (!((decide ((((l.getD i default)).row)< 0)||decide ((((l.getD i default)).row)>=m))||decide ((((l.getD i default)).col)< 0))) X0),(19,X (Xk' ((decide ((((l.getD i default)).row)< 0)||decide ((((l.getD i default)).row)>=m))||decide ((((l.getD i default)).col)< 0))))]] (((decide ((((l.getD i default)).row)< 0)||decide ((((l.getD i default)).row)>=m))||decide ((((l.getD i default)).col)< 0))||decide ((((l.getD i default)).col)>=n)) (fun h4=> ?_) (fun h4=> ?_)
  ·
   have e1:((z0F l m n o 0):Int)=2:=by
    first| (rw[I2.2,hx];((repeat' split)<;>first|rfl|omega| (simp_all;done)| (simp_all;omega)))| (rw[I2.2,z0F,if_neg (by omega)])
   exact .finE [.r []] [] (fun z0:Int=>(VI z0,[])) _ _ e1
  ·
   refine .bp [.r [(5,Xv 1 (!(decide ((((l.getD i default)).ref)< 0))) X0),(6,Xv 1 (!(decide ((((l.getD i default)).ref)< 0))) X0),(7,X (Xk' (decide ((((l.getD i default)).ref)< 0))))]] (decide ((((l.getD i default)).ref)< 0)||decide ((((l.getD i default)).ref)> 1073741824)) (fun h6=> ?_) (fun h6=> ?_)
   ·
    have e2:((z0F l m n o 0):Int)=2:=by
     first| (rw[I2.2,hx];((repeat' split)<;>first|rfl|omega| (simp_all;done)| (simp_all;omega)))| (rw[I2.2,z0F,if_neg (by omega)])
    exact .finE [.r []] [] (fun z0:Int=>(VI z0,[])) _ _ e2
   ·
    refine .bp [.r [(2,X (Xc0 (y5Y (((l.getD i default)).text) (by assumption)) X0))]] (!(textG (((l.getD i default)).text))) (fun h8=> ?_) (fun h8=> ?_)
    ·
     have e3:((z0F l m n o 0):Int)=23:=by
      first| (rw[I2.2,hx];((repeat' split)<;>first|rfl|omega| (simp_all;done)| (simp_all;omega)))| (rw[I2.2,z0F,if_neg (by omega)])
     exact .finE [.r []] [] (fun z0:Int=>(VI z0,[])) _ _ e3
    ·
     refine .bp [.r [(2,X (Xc0 (z1Z (((l.getD i default)).attrs)) X0))],.r []] ((chkA false (((l.getD i default)).attrs) 0) !=0) (fun h11=> ?_) (fun h11=> ?_)
     ·
      have e4:((z0F l m n o 0):Int)=(chkA false (((l.getD i default)).attrs) 0):=by
       first| (rw[I2.2,hx];((repeat' split)<;>first|rfl|omega| (simp_all;done)| (simp_all;omega)))| (rw[I2.2,z0F,if_neg (by omega)])
      exact .finE [.r []] [] (fun z0:Int=>(VI z0,[])) _ _ e4
     ·
      refine .bp [.r [(1,X (Xc0 (z7F ((l.getD i default))) X0)),(4,Xv 1 (z09 ((l.getD i default))) X0),(5,X (Xk (z09 ((l.getD i default)))))]] ((z09 ((l.getD i default)))&& !o) (fun h13=> ?_) (fun h13=> ?_)
      ·
       have e5:((z0F l m n o 0):Int)=4:=by
        first| (rw[I2.2,hx];((repeat' split)<;>first|rfl|omega| (simp_all;done)| (simp_all;omega)))| (rw[I2.2,z0F,if_neg (by omega)])
       exact .finE [.r []] [] (fun z0:Int=>(VI z0,[])) _ _ e5
      ·
       refine .bp [.r [(5,Xv 1 (decide ((i:Int)> 0)) (Xn ((i:Int)- 1))),(6,Xv 2 (decide ((i:Int)> 0)) (Xi' cellT l ((i:Int)- 1) (i- 1))),(7,Xv 1 (decide ((i:Int)> 0)) X0),(9,Xv 2 (decide ((i:Int)> 0)) (Xc0 (z7E ((l.getD (i- 1) default)) ((l.getD i default))) X0)),(10,Xv 1 (decide ((i:Int)> 0)) X0),(11,X (Xk (decide ((i:Int)> 0))))]] (decide ((i:Int)> 0)&&decide ((ordC ((l.getD (i- 1) default)) ((l.getD i default)))>=0)) (fun h15=> ?_) (fun h15=> ?_)
       ·
        have e6:((z0F l m n o 0):Int)=5:=by
         first| (rw[I2.2,hx];((repeat' split)<;>first|rfl|omega| (simp_all;done)| (simp_all;omega)))| (rw[I2.2,z0F,if_neg (by omega)])
        exact .finE [.r []] [] (fun z0:Int=>(VI z0,[])) _ _ e6
       ·
        refine .back [.r [(0,X (Xn ((i:Int)+1)))]] [] (ih2 ((i+1):Nat) ?_ ?_)
        ·
         refine⟨by omega,?_⟩
         rw[I2.2,hx]
         ((repeat' split)<;>first|rfl|omega| (simp_all;done)| (simp_all;omega))
        ·
         ((try dsimp only);omega)
 ·
  have e7:((z0F l m n o 0):Int)=0:=by
   first| (rw[I2.2,hx];((repeat' split)<;>first|rfl|omega| (simp_all;done)| (simp_all;omega)))| (rw[I2.2,z0F,if_neg (by omega)])
  exact .finE [.r []] [] (fun z0:Int=>(VI z0,[])) _ _ e7
theorem z7G(c:Cell)(h:c.attrs.length<=1000000000000):FC Tryz.prog 202 [.t (cellT c)] (app emp []) (.t (cellT c)) (app emp []):=by
 refine .go Tryz.f202 ?_
 exact .finV [.r [],.r [(2,X (Xan attrT 32 c.attrs))],.r []] [.fR 0 [(c.attrs.length:Nat)=(List.map attrT c.attrs).length] ⟨lm,trivial⟩] []
theorem z33(n:Int)(a:List AxStep)(hv:0<a.length->Valid a):FC Tryz.prog 169 [VI n,VL 2 stepT a] (app emp []) (.tup [VI (if 0<a.length then newI a else n),VB (decide (0<a.length->oldI a=n))]) (app emp []):=by
 refine .go Tryz.f169 ?_
 refine .len 1 (fun hl1=> ?_)
 refine .bp [.r [],.r [(1,X (Xl stepT a))]] ((a.length:Int)==0) (fun h1=> ?_) (fun h1=> ?_)
 ·
  have e1:((if 0<a.length then newI a else n):Int)=n:=by
   first|rw[if_neg (by omega)]|exact decide_eq_true (fun h=>by omega)|exact(decide_eq_true (fun h=>by omega)).symm
  have e2:((decide (0<a.length->oldI a=n)):Bool)=true:=by
   first|rw[if_neg (by omega)]|exact decide_eq_true (fun h=>by omega)|exact(decide_eq_true (fun h=>by omega)).symm
  exact .finE [.r []] [] (fun((z0,z1):Int×Bool)=>(.tup [VI z0,VB z1],[])) _ _ (pr e1 e2)
 ·
  have ha:0<a.length:=by omega
  have hv2:=hv ha
  have e3:((if 0<a.length then newI a else n):Int)=(newI a):=by
   first|rw[if_pos (by omega)]| (rw[zh,decide_eq_true_eq,beq_iff_eq];exact⟨fun h=>h (by omega),fun h _=>h⟩)
  have e4:((decide (0<a.length->oldI a=n)):Bool)=((oldI a)==n):=by
   first|rw[if_pos (by omega)]| (rw[zh,decide_eq_true_eq,beq_iff_eq];exact⟨fun h=>h (by omega),fun h _=>h⟩)
  exact .finE [.r [(1,X (Xc0 (z8E a (by assumption)) X0))],.r []] [] (fun((z0,z1):Int×Bool)=>(.tup [VI z0,VB z1],[])) _ _ (pr e3 e4)
theorem y5Z(l:List Cell)(rows cols:List AxStep)(hl:l.length<=100000000000)(ha:CAN 1000000000000 l)(hr:∀c∈l,PIn rows c.row)(hc:∀c∈l,PIn cols c.col):FC Tryz.prog 171 [VL 5 cellT l,VL 2 stepT rows,VL 2 stepT cols] (app emp []) (VL 5 cellT (movL l rows cols)) (app emp []):=by
 refine .go Tryz.f171 ?_
 refine .len 0 (fun hl0=> ?_)
 refine .len 1 (fun hl1=> ?_)
 refine .len 2 (fun hl2=> ?_)
 refine .loop (α:=Nat×(List Cell)) [.r [],.r [],.r [(1,X (Xl cellT l))],.le (.nR 7 5)] 41 (fun(i,o)=>([(1,VL 2 stepT rows),(2,VL 2 stepT cols),(7,.row 40 o.length),(14,VL 5 cellT l),(15,VI (l.length:Int)),(16,VI (i:Int))],[(40,OR 5 cellT o)])) (fun(i,o)=>i<=l.length/\o=movL (l.take i) rows cols) (fun(i,o)=>l.length-i) (0,[]) ?_ ?_
 ·
  exact⟨by omega,rfl⟩
 rintro⟨i,o⟩ I3 ih3
 try dsimp only at I3
 have ol:o.length<=i:=by rw[I3.2];have:=z7z (l.take i) rows cols;simp at this;omega
 refine .bp [.r []] (decide ((i:Int)< (l.length:Int))) (fun h3=> ?_) (fun h3=> ?_)
 ·
  have hm:=z8F (l:=l) (i:=i) (by omega)
  have ha1:=ha _ hm
  have hr1:=hr _ hm
  have hc1:=hc _ hm
  refine .bp [.r [(0,X (Xi cellT l (i:Int)))],.r [(1,X (Xc1 89 (z7G ((l.getD i default)) (by omega)) X0))],.r [(1,X (Xl stepT rows))]] (decide ((rows.length:Int)> 0)) (fun h6=> ?_) (fun h6=> ?_)
  ·
   obtain⟨hv1,hx1⟩:=hr1 (by omega)
   have hxx:∀x∈[(l.getD i default).row],0<=x/\x<oldI rows:=fun x hx=>by(have:=qy.1 hx;omega)
   refine .bp [.r [(4,X (Xc1 161 (z4A rows [(((l.getD i default))).row] (by assumption) (by assumption) (by simp)) (rowC intT [(((l.getD i default))).row] X0)))],.r [(4,Xv 1 (!false) (Xi intT (List.map (fun x=>z0q rows x 0 0) [(((l.getD i default))).row]) 0)),(5,Xv 1 (!false) X0),(6,Xv 1 (!false) X0),(7,X (Xk' false))]] (false||decide (((List.map (fun x=>z0q rows x 0 0) [(((l.getD i default))).row]).getD 0 default)< 0)) (fun h8=> ?_) (fun h8=> ?_)
   ·
    refine .back [.r [(0,X (Xn ((i:Int)+1)))]] [(40,40)] (ih3 ((i+1),o) ?_ ?_)
    ·
     refine⟨by omega,?_⟩
     rw[z12 (by omega),<-I3.2]
     unfold mvC mvR
     simp only[qV,zR,zx] at*
     (repeat' split)<;>first|rfl| (simp;done)| (exfalso;omega)| (exfalso;simp_all;done)| (exfalso;simp_all;omega)
    ·
     ((try dsimp only);omega)
   ·
    refine .bp [.r [(1,X (Xi intT (List.map (fun x=>z0q rows x 0 0) [(((l.getD i default))).row]) 0))],.r [(1,X (Xl stepT cols))]] (decide ((cols.length:Int)> 0)) (fun h10=> ?_) (fun h10=> ?_)
    ·
     obtain⟨hv2,hx2⟩:=hc1 (by omega)
     have hyy:∀x∈[(l.getD i default).col],0<=x/\x<oldI cols:=fun x hx=>by(have:=qy.1 hx;omega)
     refine .bp [.r [(4,X (Xc1 369 (z4A cols [(((l.getD i default))).col] (by assumption) (by assumption) (by simp)) (rowC intT [(((l.getD i default))).col] X0)))],.r [(4,Xv 1 (!false) (Xi intT (List.map (fun x=>z0q cols x 0 0) [(((l.getD i default))).col]) 0)),(5,Xv 1 (!false) X0),(6,Xv 1 (!false) X0),(7,X (Xk' false))]] (false||decide (((List.map (fun x=>z0q cols x 0 0) [(((l.getD i default))).col]).getD 0 default)< 0)) (fun h12=> ?_) (fun h12=> ?_)
     ·
      refine .back [.r [(0,X (Xn ((i:Int)+1)))]] [(40,40)] (ih3 ((i+1),o) ?_ ?_)
      ·
       refine⟨by omega,?_⟩
       rw[z12 (by omega),<-I3.2]
       unfold mvC mvR
       simp only[qV,zR,zx] at*
       (repeat' split)<;>first|rfl| (simp;done)| (exfalso;omega)| (exfalso;simp_all;done)| (exfalso;simp_all;omega)
      ·
       ((try dsimp only);omega)
     ·
      refine .back [.r [(1,X (Xi intT (List.map (fun x=>z0q cols x 0 0) [(((l.getD i default))).col]) 0))],.r [(3,X (rowC cellT [({row:=((List.map (fun x=>z0q rows x 0 0) [(((l.getD i default))).row]).getD 0 default),col:=((List.map (fun x=>z0q cols x 0 0) [(((l.getD i default))).col]).getD 0 default),text:=(((l.getD i default))).text,ref:=(((l.getD i default))).ref,attrs:=(((l.getD i default))).attrs}:Cell)] (Xap 5 cellT 40 o [({row:=((List.map (fun x=>z0q rows x 0 0) [(((l.getD i default))).row]).getD 0 default),col:=((List.map (fun x=>z0q cols x 0 0) [(((l.getD i default))).col]).getD 0 default),text:=(((l.getD i default))).text,ref:=(((l.getD i default))).ref,attrs:=(((l.getD i default))).attrs}:Cell)])))],.r [(0,X (Xn ((i:Int)+1)))]] [(40,40)] (ih3 ((i+1),(o++[({row:=((List.map (fun x=>z0q rows x 0 0) [(((l.getD i default))).row]).getD 0 default),col:=((List.map (fun x=>z0q cols x 0 0) [(((l.getD i default))).col]).getD 0 default),text:=(((l.getD i default))).text,ref:=(((l.getD i default))).ref,attrs:=(((l.getD i default))).attrs}:Cell)])) ?_ ?_)
      ·
       refine⟨by omega,?_⟩
       rw[z12 (by omega),<-I3.2]
       unfold mvC mvR
       simp only[qV,zR,zx] at*
       (repeat' split)<;>first|rfl| (simp;done)| (exfalso;omega)| (exfalso;simp_all;done)| (exfalso;simp_all;omega)
      ·
       ((try dsimp only);omega)
    ·
     refine .back [.r [(3,X (rowC cellT [({row:=((List.map (fun x=>z0q rows x 0 0) [(((l.getD i default))).row]).getD 0 default),col:=(((l.getD i default))).col,text:=(((l.getD i default))).text,ref:=(((l.getD i default))).ref,attrs:=(((l.getD i default))).attrs}:Cell)] (Xap 5 cellT 40 o [({row:=((List.map (fun x=>z0q rows x 0 0) [(((l.getD i default))).row]).getD 0 default),col:=(((l.getD i default))).col,text:=(((l.getD i default))).text,ref:=(((l.getD i default))).ref,attrs:=(((l.getD i default))).attrs}:Cell)])))],.r [(0,X (Xn ((i:Int)+1)))]] [(40,40)] (ih3 ((i+1),(o++[({row:=((List.map (fun x=>z0q rows x 0 0) [(((l.getD i default))).row]).getD 0 default),col:=(((l.getD i default))).col,text:=(((l.getD i default))).text,ref:=(((l.getD i default))).ref,attrs:=(((l.getD i default))).attrs}:Cell)])) ?_ ?_)
     ·
      refine⟨by omega,?_⟩
      rw[z12 (by omega),<-I3.2]
      unfold mvC mvR
      simp only[qV,zR,zx] at*
      (repeat' split)<;>first|rfl| (simp;done)| (exfalso;omega)| (exfalso;simp_all;done)| (exfalso;simp_all;omega)
     ·
      ((try dsimp only);omega)
  ·
   refine .bp [.r [(1,X (Xl stepT cols))]] (decide ((cols.length:Int)> 0)) (fun h10=> ?_) (fun h10=> ?_)
   ·
    obtain⟨hv2,hx2⟩:=hc1 (by omega)
    have hyy:∀x∈[(l.getD i default).col],0<=x/\x<oldI cols:=fun x hx=>by(have:=qy.1 hx;omega)
    refine .bp [.r [(4,X (Xc1 185 (z4A cols [(((l.getD i default))).col] (by assumption) (by assumption) (by simp)) (rowC intT [(((l.getD i default))).col] X0)))],.r [(4,Xv 1 (!false) (Xi intT (List.map (fun x=>z0q cols x 0 0) [(((l.getD i default))).col]) 0)),(5,Xv 1 (!false) X0),(6,Xv 1 (!false) X0),(7,X (Xk' false))]] (false||decide (((List.map (fun x=>z0q cols x 0 0) [(((l.getD i default))).col]).getD 0 default)< 0)) (fun h12=> ?_) (fun h12=> ?_)
    ·
     refine .back [.r [(0,X (Xn ((i:Int)+1)))]] [(40,40)] (ih3 ((i+1),o) ?_ ?_)
     ·
      refine⟨by omega,?_⟩
      rw[z12 (by omega),<-I3.2]
      unfold mvC mvR
      simp only[qV,zR,zx] at*
      (repeat' split)<;>first|rfl| (simp;done)| (exfalso;omega)| (exfalso;simp_all;done)| (exfalso;simp_all;omega)
     ·
      ((try dsimp only);omega)
    ·
     refine .back [.r [(1,X (Xi intT (List.map (fun x=>z0q cols x 0 0) [(((l.getD i default))).col]) 0))],.r [(3,X (rowC cellT [({row:=(((l.getD i default))).row,col:=((List.map (fun x=>z0q cols x 0 0) [(((l.getD i default))).col]).getD 0 default),text:=(((l.getD i default))).text,ref:=(((l.getD i default))).ref,attrs:=(((l.getD i default))).attrs}:Cell)] (Xap 5 cellT 40 o [({row:=(((l.getD i default))).row,col:=((List.map (fun x=>z0q cols x 0 0) [(((l.getD i default))).col]).getD 0 default),text:=(((l.getD i default))).text,ref:=(((l.getD i default))).ref,attrs:=(((l.getD i default))).attrs}:Cell)])))],.r [(0,X (Xn ((i:Int)+1)))]] [(40,40)] (ih3 ((i+1),(o++[({row:=(((l.getD i default))).row,col:=((List.map (fun x=>z0q cols x 0 0) [(((l.getD i default))).col]).getD 0 default),text:=(((l.getD i default))).text,ref:=(((l.getD i default))).ref,attrs:=(((l.getD i default))).attrs}:Cell)])) ?_ ?_)
     ·
      refine⟨by omega,?_⟩
      rw[z12 (by omega),<-I3.2]
      unfold mvC mvR
      simp only[qV,zR,zx] at*
      (repeat' split)<;>first|rfl| (simp;done)| (exfalso;omega)| (exfalso;simp_all;done)| (exfalso;simp_all;omega)
     ·
      ((try dsimp only);omega)
   ·
    refine .back [.r [(3,X (rowC cellT [(((l.getD i default)))] (Xap 5 cellT 40 o [(((l.getD i default)))])))],.r [(0,X (Xn ((i:Int)+1)))]] [(40,40)] (ih3 ((i+1),(o++[(((l.getD i default)))])) ?_ ?_)
    ·
     refine⟨by omega,?_⟩
     rw[z12 (by omega),<-I3.2]
     unfold mvC mvR
     simp only[qV,zR,zx] at*
     (repeat' split)<;>first|rfl| (simp;done)| (exfalso;omega)| (exfalso;simp_all;done)| (exfalso;simp_all;omega)
    ·
     ((try dsimp only);omega)
 ·
  have e1:((movL l rows cols):List Cell)=o:=by
   rw[I3.2,qn (by omega)]
  exact .finE [.r [],.le (.fr 6 [(o.length:Nat)=(List.map cellT o).length] ⟨lm,trivial⟩)] [] (fun z0:List Cell=>(VL 5 cellT z0,[])) _ _ e1
theorem y7N(l news:List Cell)(hl:l.length<=100000000000)(hn:news.length<=100000000000)(ha:CAN 1000000000000 news):FC Tryz.prog 170 [VL 5 cellT l,VL 5 cellT news] (app emp []) (VL 5 cellT (putL news l)) (app emp []):=by
 refine .go Tryz.f170 ?_
 refine .len 0 (fun hl0=> ?_)
 refine .len 1 (fun hl1=> ?_)
 refine .loop (α:=Nat×Nat×(List Cell)) [.r [],.r [],.r [],.r [(1,X (Xl cellT news))],.le (.nR 5 5)] 49 (fun(i,k,o)=>([(0,VL 5 cellT l),(5,.row 48 o.length),(6,VI (i:Int)),(9,VL 5 cellT news),(10,VI (news.length:Int)),(11,VI (k:Int))],[(48,OR 5 cellT o)])) (fun(i,k,o)=>k<=news.length/\i<=l.length/\o.length<=i+k/\putL news l=o++putL (news.drop k) (l.drop i)) (fun(i,k,o)=>news.length-k) (0,0,[]) ?_ ?_
 ·
  exact⟨by omega,by omega,by simp,rfl⟩
 rintro⟨i,k,o⟩ I4 ih4
 try dsimp only at I4
 refine .bp [.r []] (decide ((k:Int)< (news.length:Int))) (fun h4=> ?_) (fun h4=> ?_)
 ·
  have hm:=ha _ (z8F (l:=news) (i:=k) (by omega))
  refine .loop (α:=Nat×(List Cell)) [.r [(0,X (Xi cellT news (k:Int)))]] 89 (fun(j,p)=>([(0,VL 5 cellT l),(5,.row 48 p.length),(6,VI (j:Int)),(8,.ptr 73 0),(9,VL 5 cellT news),(10,VI (news.length:Int)),(11,VI (k:Int))],[(48,OR 5 cellT p),(73,.box [VI (((news.getD k default)).row),VI (((news.getD k default)).col),VS (((news.getD k default)).text),VI (((news.getD k default)).ref),VL 2 attrT (((news.getD k default)).attrs)])])) (fun(j,p)=>j<=l.length/\p.length<=j+k/\putL news l=p++putC (news.getD k default) (putL (news.drop (k+1))) (l.drop j)) (fun(j,p)=>l.length-j) (i,o) ?_ ?_
  ·
   exact⟨by omega,by omega,by rw[I4.2.2.2,dropC (l:=news) (by omega),putL]⟩
  rintro⟨j,p⟩ I6 ih6
  try dsimp only at I6
  skip
  refine .bp [.r [(2,X (Xl cellT l)),(7,Xv 2 (decide ((j:Int)< (l.length:Int))) (Xi cellT l (j:Int))),(8,Xv 1 (decide ((j:Int)< (l.length:Int))) X0),(10,Xv 2 (decide ((j:Int)< (l.length:Int))) (Xc0 (z7E ((l.getD j default)) ((news.getD k default))) X0)),(11,Xv 1 (decide ((j:Int)< (l.length:Int))) X0),(12,X (Xk (decide ((j:Int)< (l.length:Int)))))]] (decide ((j:Int)< (l.length:Int))&&decide ((ordC ((l.getD j default)) ((news.getD k default)))< 0)) (fun h6=> ?_) (fun h6=> ?_)
  ·
   refine .back [.r [(3,X (Xi cellT l (j:Int))),(6,X (rowC cellT [((l.getD j default))] (Xap 5 cellT 48 p [((l.getD j default))])))],.r [(1,X (Xn ((j:Int)+1)))]] [(48,48),(73,73)] (ih6 ((j+1),(p++[((l.getD j default))])) ?_ ?_)
   ·
    refine⟨by omega,by simp;omega,?_⟩
    rw[I6.2.2,y7L (by omega) (by omega),qR]
    rfl
   ·
    ((try dsimp only);omega)
  ·
   refine .bp [.r [(2,X (Xl cellT l)),(7,Xv 2 (decide ((j:Int)< (l.length:Int))) (Xi cellT l (j:Int))),(8,Xv 1 (decide ((j:Int)< (l.length:Int))) X0),(10,Xv 2 (decide ((j:Int)< (l.length:Int))) (Xc0 (z7E ((l.getD j default)) ((news.getD k default))) X0)),(11,Xv 1 (decide ((j:Int)< (l.length:Int))) X0),(12,X (Xk (decide ((j:Int)< (l.length:Int)))))]] (decide ((j:Int)< (l.length:Int))&&((ordC ((l.getD j default)) ((news.getD k default)))==0)) (fun h9=> ?_) (fun h9=> ?_)
   ·
    refine .bp [.r [(1,X (Xn ((j:Int)+1)))],.r [(1,X (Xc0 (z7F ((news.getD k default))) X0))]] (!(z09 ((news.getD k default)))) (fun h11=> ?_) (fun h11=> ?_)
    ·
     refine .back [.r [(2,X (Xc1 361 (z7G ((news.getD k default)) (by omega)) X0)),(4,X (rowC cellT [((news.getD k default))] (Xap 5 cellT 48 p [((news.getD k default))])))],.r [(0,X (Xn ((k:Int)+1)))]] [(48,48)] (ih4 ((j+1),(k+1),(p++[((news.getD k default))])) ?_ ?_)
     ·
      refine⟨by omega,by omega,by((try simp only[qf,qi,zd]);omega),?_⟩
      rw[I6.2.2]
      (first|rw[z7A (by omega) (by omega)]|rw[z7B (fun h=>by omega)])
      (first|rw[if_pos (by assumption)]|rw[if_neg (by simp_all)])
      simp
     ·
      ((try dsimp only);omega)
    ·
     refine .back [.r [(0,X (Xn ((k:Int)+1)))]] [(48,48)] (ih4 ((j+1),(k+1),p) ?_ ?_)
     ·
      refine⟨by omega,by omega,by((try simp only[qf,qi,zd]);omega),?_⟩
      rw[I6.2.2]
      (first|rw[z7A (by omega) (by omega)]|rw[z7B (fun h=>by omega)])
      (first|rw[if_pos (by assumption)]|rw[if_neg (by simp_all)])
      simp
     ·
      ((try dsimp only);omega)
   ·
    refine .bp [.r [(1,X (Xc0 (z7F ((news.getD k default))) X0))]] (!(z09 ((news.getD k default)))) (fun h11=> ?_) (fun h11=> ?_)
    ·
     refine .back [.r [(2,X (Xc1 337 (z7G ((news.getD k default)) (by omega)) X0)),(4,X (rowC cellT [((news.getD k default))] (Xap 5 cellT 48 p [((news.getD k default))])))],.r [(0,X (Xn ((k:Int)+1)))]] [(48,48)] (ih4 (j,(k+1),(p++[((news.getD k default))])) ?_ ?_)
     ·
      refine⟨by omega,by omega,by((try simp only[qf,qi,zd]);omega),?_⟩
      rw[I6.2.2]
      (first|rw[z7A (by omega) (by omega)]|rw[z7B (fun h=>by omega)])
      (first|rw[if_pos (by assumption)]|rw[if_neg (by simp_all)])
      simp
     ·
      ((try dsimp only);omega)
    ·
     refine .back [.r [(0,X (Xn ((k:Int)+1)))]] [(48,48)] (ih4 (j,(k+1),p) ?_ ?_)
     ·
      refine⟨by omega,by omega,by((try simp only[qf,qi,zd]);omega),?_⟩
      rw[I6.2.2]
      (first|rw[z7A (by omega) (by omega)]|rw[z7B (fun h=>by omega)])
      (first|rw[if_pos (by assumption)]|rw[if_neg (by simp_all)])
      simp
     ·
      ((try dsimp only);omega)
 ·
  have e1:((putL news l):List Cell)=(o++(l.drop i)):=by
   rw[I4.2.2.2,z8G (l:=news) (by omega),putL]
  exact .finE [.r [(3,X (Xsd cellT 5 l (i:Int))),(4,X (Xap 5 cellT 48 o (l.drop i)))],.le (.fr 4 [(((o++(l.drop i)).length):Nat)=(List.map cellT (o++(l.drop i))).length] ⟨lm,trivial⟩)] [] (fun z0:List Cell=>(VL 5 cellT z0,[])) _ _ e1
theorem z8J(x:Grid)(hm:x.merges=[])(hnt:NoTx x.cells):FC Tryz.prog 120 [.t (gridT x)] (app emp []) (VI (gridE x)) (app emp []):=by
 refine .go Tryz.f120 ?_
 have hl:x.merges.length=0:=by rw[hm];rfl
 refine .bp [.r [],.r [(5,Xv 1 (!(decide (x.rows<0))) X0),(6,Xv 1 (!(decide (x.rows<0))) X0),(7,X (Xk' (decide (x.rows<0)))),(10,Xv 1 (!(decide (x.rows<0)||decide (x.rows>2147483647))) X0),(11,Xv 1 (!(decide (x.rows<0)||decide (x.rows>2147483647))) X0),(12,X (Xk' (decide (x.rows<0)||decide (x.rows>2147483647)))),(15,Xv 1 (!((decide (x.rows<0)||decide (x.rows>2147483647))||decide (x.cols<0))) X0),(16,Xv 1 (!((decide (x.rows<0)||decide (x.rows>2147483647))||decide (x.cols<0))) X0),(17,X (Xk' ((decide (x.rows<0)||decide (x.rows>2147483647))||decide (x.cols<0))))]] (((decide (x.rows<0)||decide (x.rows>2147483647))||decide (x.cols<0))||decide (x.cols>2147483647)) (fun h1=> ?_) (fun h1=> ?_)
 ·
  have e1:((gridE x):Int)=2:=by
   unfold gridE;rw[if_pos (by omega)]
  exact .finE [.r []] [] (fun z0:Int=>(VI z0,[])) _ _ e1
 ·
  refine .bp [.r [(6,X (Xc0 (y0Z x.cells x.rows x.cols false (by assumption)) X0))],.r []] ((z0F x.cells x.rows x.cols false 0) !=0) (fun h4=> ?_) (fun h4=> ?_)
  ·
   have e2:((gridE x):Int)=(z0F x.cells x.rows x.cols false 0):=by
    unfold gridE;rw[if_neg (by omega),if_pos (by omega)]
   exact .finE [.r []] [] (fun z0:Int=>(VI z0,[])) _ _ e2
  ·
   refine .loop (α:=Nat) [.r [(2,X (Xl rectT x.merges))]] 272 (fun i=>([(1,.ptr 0 0),(35,VL 4 rectT x.merges),(36,VI (x.merges.length:Int)),(37,VI (i:Int))],[(0,.box [VI x.rows,VI x.cols,VL 5 cellT x.cells,VL 4 rectT x.merges])])) (fun i=>i=0) (fun i=>0) (0:Nat) ?_ ?_
   ·
    rfl
   rintro i I7 ih7
   try dsimp only at I7
   refine .bp [.r []] (decide ((i:Int)< (x.merges.length:Int))) (fun h7=> ?_) (fun h7=> ?_)
   ·
    exfalso
    omega
   ·
    have e3:((gridE x):Int)=0:=by
     unfold gridE;rw[if_neg (by omega),if_neg (by omega),mergE,if_neg (by omega)]
    exact .finE [.r []] [] (fun z0:Int=>(VI z0,[])) _ _ e3
theorem z4X(e:GEd)(hl:LiteE e):FC Tryz.prog 126 [.t (gedT e)] (app emp []) (VI (edE e)) (app emp []):=by
 refine .go Tryz.f126 ?_
 have h1:=hl.sp
 have h2:=hl.me
 have hnt:=hl.tx
 have g1:insQE e.split 2147483647 2147483647 0=0:=by rw[insQE,if_neg (by omega)]
 have g2:mgE e.merge 2147483647 2147483647 0=0:=by rw[mgE,if_neg (by omega)]
 refine .bp [.r [],.r [],.u,.r [],.t,.r [(0,X (Xa (Xc ((0:Int)<=0)) (Xc ((0:Int)< ((2:Nat):Int)))) ⟨by decide,by decide⟩)],.r [(1,X (Xc0 (z2u e.rows) X0))],.r []] ((z1k e.rows) !=0) (fun h5=> ?_) (fun h5=> ?_)
 ·
  have e1:((edE e):Int)=(z1k e.rows):=by
   unfold edE;(repeat' split)<;>omega
  exact .finE [.r []] [] (fun z0:Int=>(VI z0,[])) _ _ e1
 ·
  refine .bp [.r [],.u,.r [],.t,.r [(0,X (Xa (Xc ((0:Int)<=1)) (Xc ((1:Int)< ((2:Nat):Int)))) ⟨by decide,by decide⟩)],.r [(1,X (Xc0 (z2u e.cols) X0))],.r []] ((z1k e.cols) !=0) (fun h5=> ?_) (fun h5=> ?_)
  ·
   have e2:((edE e):Int)=(z1k e.cols):=by
    unfold edE;(repeat' split)<;>omega
   exact .finE [.r []] [] (fun z0:Int=>(VI z0,[])) _ _ e2
  ·
   refine .bp [.r [],.u,.r [],.f,.r [(2,X (Xc0 (y0Z e.cells 2147483647 2147483647 true (by assumption)) X0))],.r []] ((z0F e.cells 2147483647 2147483647 true 0) !=0) (fun h9=> ?_) (fun h9=> ?_)
   ·
    have e3:((edE e):Int)=(z0F e.cells 2147483647 2147483647 true 0):=by
     unfold edE;(repeat' split)<;>omega
    exact .finE [.r []] [] (fun z0:Int=>(VI z0,[])) _ _ e3
   ·
    refine .loop (α:=Nat) [.r [],.u,.r [],.t,.r [(1,X (Xa (Xc ((0:Int)<=0)) (Xc ((0:Int)< ((2:Nat):Int)))) ⟨by decide,by decide⟩)],.r [(1,X (Xl rectT e.split))]] 392 (fun j=>([(7,VI 0),(35,.t (.agg [TL 4 rectT e.split,TL 4 rectT e.merge])),(36,VI 0),(40,VL 4 rectT e.split),(41,VI (e.split.length:Int)),(42,VI (j:Int))],[])) (fun j=>j=0) (fun j=>0) (0:Nat) ?_ ?_
    ·
     rfl
    rintro j I15 ih15
    try dsimp only at I15
    refine .bp [.r []] (decide ((j:Int)< (e.split.length:Int))) (fun h15=> ?_) (fun h15=> ?_)
    ·
     exfalso
     omega
    ·
     refine .loop (α:=Nat) [.r [],.u,.r [],.t,.r [(1,X (Xa (Xc ((0:Int)<=1)) (Xc ((1:Int)< ((2:Nat):Int)))) ⟨by decide,by decide⟩)],.r [(1,X (Xl rectT e.merge))]] 480 (fun j=>([(7,VI 1),(35,.t (.agg [TL 4 rectT e.split,TL 4 rectT e.merge])),(36,VI 1),(40,VL 4 rectT e.merge),(41,VI (e.merge.length:Int)),(42,VI (j:Int))],[])) (fun j=>j=0) (fun j=>0) (0:Nat) ?_ ?_
     ·
      rfl
     rintro j I15 ih15
     try dsimp only at I15
     refine .bp [.r []] (decide ((j:Int)< (e.merge.length:Int))) (fun h15=> ?_) (fun h15=> ?_)
     ·
      exfalso
      omega
     ·
      have e4:((edE e):Int)=0:=by
       unfold edE;(repeat' split)<;>omega
      exact .finE [.r [],.u,.r [],.f,.r []] [] (fun z0:Int=>(VI z0,[])) _ _ e4
theorem y7O(x:Grid)(e:GEd)(hm:x.merges=[])(hnx:NoTx x.cells)(hl:LiteE e):FC Tryz.prog 168 [.t (gridT x),.t (gedT e)] (app emp []) (.tup [VI (fitM x e),VI (fitN x e),VI (fitsE x e)]) (app emp []):=by
 refine .go Tryz.f168 ?_
 have q1:=hl.sp
 have q2:=hl.me
 have q3:=hl.ln
 have hvr:0<e.rows.length->edE e=0->Valid e.rows:=fun _ h=>(y0V h).okr
 have hvc:0<e.cols.length->edE e=0->Valid e.cols:=fun _ h=>(y0V h).okc
 refine .bp [.r [],.r [(1,X (Xc0 (z8J x (by assumption) (by assumption)) X0))],.r []] ((gridE x) !=0) (fun h2=> ?_) (fun h2=> ?_)
 ·
  have T:=y80 (e:=e) h2
  have e1:((fitM x e):Int)=0:=by
   exact T.1
  have e2:((fitN x e):Int)=0:=by
   exact T.2.1
  have e3:((fitsE x e):Int)=(gridE x):=by
   exact T.2.2
  exact .finE [.r []] [] (fun((z0,z1,z2):Int×Int×Int)=>(.tup [VI z0,VI z1,VI z2],[])) _ _ (pr e1 (pr e2 e3))
 ·
  refine .bp [.r [(1,X (Xc0 (z4X e (by assumption)) X0))],.r []] ((edE e) !=0) (fun h5=> ?_) (fun h5=> ?_)
  ·
   have T:=y81 (by omega) h5
   have e4:((fitM x e):Int)=0:=by
    exact T.1
   have e5:((fitN x e):Int)=0:=by
    exact T.2.1
   have e6:((fitsE x e):Int)=(edE e):=by
    exact T.2.2
   exact .finE [.r []] [] (fun((z0,z1,z2):Int×Int×Int)=>(.tup [VI z0,VI z1,VI z2],[])) _ _ (pr e4 (pr e5 e6))
  ·
   have hv1:0<e.rows.length->Valid e.rows:=fun h=>hvr h (by omega)
   have hv2:0<e.cols.length->Valid e.cols:=fun h=>hvc h (by omega)
   refine .bp [.r [(4,X (Xc0 (z33 x.rows e.rows (by assumption)) X0))],.r [(4,X (Xc0 (z33 x.cols e.cols (by assumption)) X0))],.r [(4,Xv 1 (!(!(decide (0< (e.rows).length->oldI e.rows=x.rows)))) X0),(5,X (Xk' (!(decide (0< (e.rows).length->oldI e.rows=x.rows)))))]] (!(decide (0< (e.rows).length->oldI e.rows=x.rows))|| !(decide (0< (e.cols).length->oldI e.cols=x.cols))) (fun h9=> ?_) (fun h9=> ?_)
   ·
    have T:=y82 (by omega) (by omega) h9
    have e7:((fitM x e):Int)=0:=by
     exact T.1
    have e8:((fitN x e):Int)=0:=by
     exact T.2.1
    have e9:((fitsE x e):Int)=14:=by
     exact T.2.2
    exact .finE [.r []] [] (fun((z0,z1,z2):Int×Int×Int)=>(.tup [VI z0,VI z1,VI z2],[])) _ _ (pr e7 (pr e8 e9))
   ·
    refine .loop (α:=Nat) [.r [(2,X (Xl cellT e.cells))]] 360 (fun i=>([(3,.ptr 8 0),(9,VI (if 0< (e.rows).length then newI e.rows else x.rows)),(11,VI (if 0< (e.cols).length then newI e.cols else x.cols)),(52,VL 5 cellT e.cells),(53,VI (e.cells.length:Int)),(54,VI (i:Int))],[(8,.box [VL 2 stepT e.rows,VL 2 stepT e.cols,VL 5 cellT e.cells,VL 4 rectT e.split,VL 4 rectT e.merge])])) (fun i=>i<=e.cells.length/\celF e.cells (if 0< (e.rows).length then newI e.rows else x.rows) (if 0< (e.cols).length then newI e.cols else x.cols) 0=celF e.cells (if 0< (e.rows).length then newI e.rows else x.rows) (if 0< (e.cols).length then newI e.cols else x.cols) i) (fun i=>e.cells.length-i) (0:Nat) ?_ ?_
    ·
     exact⟨by omega,rfl⟩
    rintro i I12 ih12
    try dsimp only at I12
    refine .bp [.r []] (decide ((i:Int)< (e.cells.length:Int))) (fun h12=> ?_) (fun h12=> ?_)
    ·
     refine .bp [.r [(0,X (Xi cellT e.cells (i:Int)))],.r [(6,Xv 1 (!(decide ((((e.cells.getD i default)).row)>=(if 0< (e.rows).length then newI e.rows else x.rows)))) X0),(8,Xv 2 (!(decide ((((e.cells.getD i default)).row)>=(if 0< (e.rows).length then newI e.rows else x.rows)))) X0),(9,X (Xk' (decide ((((e.cells.getD i default)).row)>=(if 0< (e.rows).length then newI e.rows else x.rows)))))]] (decide ((((e.cells.getD i default)).row)>=(if 0< (e.rows).length then newI e.rows else x.rows))||decide ((((e.cells.getD i default)).col)>=(if 0< (e.cols).length then newI e.cols else x.cols))) (fun h14=> ?_) (fun h14=> ?_)
     ·
      have hcl:celF e.cells (if 0< (e.rows).length then newI e.rows else x.rows) (if 0< (e.cols).length then newI e.cols else x.cols) 0=2:=by rw[I12.2,celF,if_pos (by omega),if_pos (by omega)]
      have T:=y83 (by omega) (by omega) h9 q1 q2 hcl
      have e10:((fitM x e):Int)=0:=by
       exact T.1
      have e11:((fitN x e):Int)=0:=by
       exact T.2.1
      have e12:((fitsE x e):Int)=2:=by
       exact T.2.2
      exact .finE [.r []] [] (fun((z0,z1,z2):Int×Int×Int)=>(.tup [VI z0,VI z1,VI z2],[])) _ _ (pr e10 (pr e11 e12))
     ·
      refine .back [.r [(0,X (Xn ((i:Int)+1)))]] [(8,8)] (ih12 ((i+1):Nat) ?_ ?_)
      ·
       refine⟨by omega,?_⟩
       rw[I12.2,celF,if_pos (by omega),if_neg (by omega)]
      ·
       ((try dsimp only);omega)
    ·
     refine .loop (α:=Nat) [.r [],.u,.r [],.t,.r [(0,X (Xa (Xc ((0:Int)<=0)) (Xc ((0:Int)< ((2:Nat):Int)))) ⟨by decide,by decide⟩)],.r [(1,X (Xl rectT e.split))]] 464 (fun j=>([(9,VI (if 0< (e.rows).length then newI e.rows else x.rows)),(11,VI (if 0< (e.cols).length then newI e.cols else x.cols)),(73,.t (.agg [TL 4 rectT e.split,TL 4 rectT e.merge])),(74,VI 0),(77,VL 4 rectT e.split),(78,VI (e.split.length:Int)),(79,VI (j:Int))],[])) (fun j=>j=0) (fun j=>0) (0:Nat) ?_ ?_
     ·
      rfl
     rintro j I21 ih21
     try dsimp only at I21
     refine .bp [.r []] (decide ((j:Int)< (e.split.length:Int))) (fun h21=> ?_) (fun h21=> ?_)
     ·
      exfalso
      omega
     ·
      refine .loop (α:=Nat) [.r [],.u,.r [],.t,.r [(0,X (Xa (Xc ((0:Int)<=1)) (Xc ((1:Int)< ((2:Nat):Int)))) ⟨by decide,by decide⟩)],.r [(1,X (Xl rectT e.merge))]] 536 (fun j=>([(9,VI (if 0< (e.rows).length then newI e.rows else x.rows)),(11,VI (if 0< (e.cols).length then newI e.cols else x.cols)),(73,.t (.agg [TL 4 rectT e.split,TL 4 rectT e.merge])),(74,VI 1),(77,VL 4 rectT e.merge),(78,VI (e.merge.length:Int)),(79,VI (j:Int))],[])) (fun j=>j=0) (fun j=>0) (0:Nat) ?_ ?_
      ·
       rfl
      rintro j I21 ih21
      try dsimp only at I21
      refine .bp [.r []] (decide ((j:Int)< (e.merge.length:Int))) (fun h21=> ?_) (fun h21=> ?_)
      ·
       exfalso
       omega
      ·
       have hcl:celF e.cells (if 0< (e.rows).length then newI e.rows else x.rows) (if 0< (e.cols).length then newI e.cols else x.cols) 0=0:=by rw[I12.2,celF,if_neg (by omega)]
       have T:=y84 (by omega) (by omega) h9 q1 q2 hcl
       have e13:((fitM x e):Int)=(if 0< (e.rows).length then newI e.rows else x.rows):=by
        exact T.1
       have e14:((fitN x e):Int)=(if 0< (e.cols).length then newI e.cols else x.cols):=by
        exact T.2.1
       have e15:((fitsE x e):Int)=0:=by
        exact T.2.2
       exact .finE [.r [],.u,.r [],.f,.r []] [] (fun((z0,z1,z2):Int×Int×Int)=>(.tup [VI z0,VI z1,VI z2],[])) _ _ (pr e13 (pr e14 e15))
theorem y85(x:Grid)(e:GEd)(hm:x.merges=[])(hnx:NoTx x.cells)(hl:LiteE e):FC Tryz.prog 131 [.t (gridT x),.t (gedT e)] (app emp []) (VI (fitsE x e)) (app emp []):=by
 refine .go Tryz.f131 ?_
 exact .fin [.r [],.r [(2,X (Xc0 (y7O x e (by assumption) (by assumption) (by assumption)) X0))],.r []] []
theorem y7P:FC Tryz.prog 229 [.t (.sc (.int .u64 0))] (app emp []) (VI 0) (app emp []):=by
 refine .go Tryz.f229 ?_
 have e1:((0+(((((({data:=#[0,1,2,2,3,3,3,3,4,4,4,4,4,4,4,4,5,5,5,5,5,5,5,5,5,5,5,5,5,5,5,5,6,6,6,6,6,6,6,6,6,6,6,6,6,6,6,6,6,6,6,6,6,6,6,6,6,6,6,6,6,6,6,6,7,7,7,7,7,7,7,7,7,7,7,7,7,7,7,7,7,7,7,7,7,7,7,7,7,7,7,7,7,7,7,7,7,7,7,7,7,7,7,7,7,7,7,7,7,7,7,7,7,7,7,7,7,7,7,7,7,7,7,7,7,7,7,7,8,8,8,8,8,8,8,8,8,8,8,8,8,8,8,8,8,8,8,8,8,8,8,8,8,8,8,8,8,8,8,8,8,8,8,8,8,8,8,8,8,8,8,8,8,8,8,8,8,8,8,8,8,8,8,8,8,8,8,8,8,8,8,8,8,8,8,8,8,8,8,8,8,8,8,8,8,8,8,8,8,8,8,8,8,8,8,8,8,8,8,8,8,8,8,8,8,8,8,8,8,8,8,8,8,8,8,8,8,8,8,8,8,8,8,8,8,8,8,8,8,8,8,8,8,8,8,8]}):ByteArray)[(Int.toNat (IntKind.u8.wrap 0))]?).getD 0).toNat:Nat):Int)):Int)=0:=by
  decide+kernel
 exact .finE [.r [],.r [],.f,.r [],.f,.r [],.f,.r [(3,X (Xb (({data:=#[0,1,2,2,3,3,3,3,4,4,4,4,4,4,4,4,5,5,5,5,5,5,5,5,5,5,5,5,5,5,5,5,6,6,6,6,6,6,6,6,6,6,6,6,6,6,6,6,6,6,6,6,6,6,6,6,6,6,6,6,6,6,6,6,7,7,7,7,7,7,7,7,7,7,7,7,7,7,7,7,7,7,7,7,7,7,7,7,7,7,7,7,7,7,7,7,7,7,7,7,7,7,7,7,7,7,7,7,7,7,7,7,7,7,7,7,7,7,7,7,7,7,7,7,7,7,7,7,8,8,8,8,8,8,8,8,8,8,8,8,8,8,8,8,8,8,8,8,8,8,8,8,8,8,8,8,8,8,8,8,8,8,8,8,8,8,8,8,8,8,8,8,8,8,8,8,8,8,8,8,8,8,8,8,8,8,8,8,8,8,8,8,8,8,8,8,8,8,8,8,8,8,8,8,8,8,8,8,8,8,8,8,8,8,8,8,8,8,8,8,8,8,8,8,8,8,8,8,8,8,8,8,8,8,8,8,8,8,8,8,8,8,8,8,8,8,8,8,8,8,8,8,8,8,8,8]}):ByteArray) (IntKind.u8.wrap 0)) ⟨(by decide),(by decide+kernel)⟩),(4,X (Xn (((((({data:=#[0,1,2,2,3,3,3,3,4,4,4,4,4,4,4,4,5,5,5,5,5,5,5,5,5,5,5,5,5,5,5,5,6,6,6,6,6,6,6,6,6,6,6,6,6,6,6,6,6,6,6,6,6,6,6,6,6,6,6,6,6,6,6,6,7,7,7,7,7,7,7,7,7,7,7,7,7,7,7,7,7,7,7,7,7,7,7,7,7,7,7,7,7,7,7,7,7,7,7,7,7,7,7,7,7,7,7,7,7,7,7,7,7,7,7,7,7,7,7,7,7,7,7,7,7,7,7,7,8,8,8,8,8,8,8,8,8,8,8,8,8,8,8,8,8,8,8,8,8,8,8,8,8,8,8,8,8,8,8,8,8,8,8,8,8,8,8,8,8,8,8,8,8,8,8,8,8,8,8,8,8,8,8,8,8,8,8,8,8,8,8,8,8,8,8,8,8,8,8,8,8,8,8,8,8,8,8,8,8,8,8,8,8,8,8,8,8,8,8,8,8,8,8,8,8,8,8,8,8,8,8,8,8,8,8,8,8,8,8,8,8,8,8,8,8,8,8,8,8,8,8,8,8,8,8,8]}):ByteArray)[(Int.toNat (IntKind.u8.wrap 0))]?).getD 0).toNat:Nat):Int)) (by decide+kernel)),(5,X (Xn (0+(((((({data:=#[0,1,2,2,3,3,3,3,4,4,4,4,4,4,4,4,5,5,5,5,5,5,5,5,5,5,5,5,5,5,5,5,6,6,6,6,6,6,6,6,6,6,6,6,6,6,6,6,6,6,6,6,6,6,6,6,6,6,6,6,6,6,6,6,7,7,7,7,7,7,7,7,7,7,7,7,7,7,7,7,7,7,7,7,7,7,7,7,7,7,7,7,7,7,7,7,7,7,7,7,7,7,7,7,7,7,7,7,7,7,7,7,7,7,7,7,7,7,7,7,7,7,7,7,7,7,7,7,8,8,8,8,8,8,8,8,8,8,8,8,8,8,8,8,8,8,8,8,8,8,8,8,8,8,8,8,8,8,8,8,8,8,8,8,8,8,8,8,8,8,8,8,8,8,8,8,8,8,8,8,8,8,8,8,8,8,8,8,8,8,8,8,8,8,8,8,8,8,8,8,8,8,8,8,8,8,8,8,8,8,8,8,8,8,8,8,8,8,8,8,8,8,8,8,8,8,8,8,8,8,8,8,8,8,8,8,8,8,8,8,8,8,8,8,8,8,8,8,8,8,8,8,8,8,8,8]}):ByteArray)[(Int.toNat (IntKind.u8.wrap 0))]?).getD 0).toNat:Nat):Int))) (by decide+kernel))]] [] (fun z0:Int=>(VI z0,[])) _ _ e1.symm
theorem fc_bl:FC Tryz.prog 207 [.t (.sc (.int .u64 0))] (app emp []) (VI 0) (app emp []):=by
 refine .go Tryz.f207 ?_
 exact .fin [.r [],.f,.r [(1,X (Xc0 y7P X0))]] []
theorem y50:FC Tryz.prog 220 [VL 4 rectT ([]:List Rect),VI 0,VI 0,.fn 177 []] (app emp []) (.tup []) (app emp []):=by
 refine .go Tryz.f220 ?_
 refine .len 0 (fun hl0=> ?_)
 refine .loop (α:=Int) [.r []] 24 (fun v8=>([(0,VL 4 rectT ([]:List Rect)),(1,VI 0),(2,VI 0),(3,.fn 177 []),(8,VI v8)],[])) (fun v8=>0<=v8) (fun v8=>0) (1:Int) ?_ ?_
 ·
  decide
 rintro v8 I1 ih1
 try dsimp only at I1
 refine .bp [.r []] (decide (v8<0)) (fun h1=> ?_) (fun h1=> ?_)
 ·
  exfalso
  omega
 ·
  exact .fin [] []
theorem y51:FC Tryz.prog 206 [VL 4 rectT ([]:List Rect),VI 0,VI 0,VI 0,.fn 177 []] (app emp []) (.tup []) (app emp []):=by
 refine .go Tryz.f206 ?_
 refine .len 0 (fun hl0=> ?_)
 exact .fin [.r [],.r [],.u,.r [],.r [],.t,.r [(4,X (Xc0 y50 X0))]] []
theorem y3M:FC Tryz.prog 176 [VL 4 rectT ([]:List Rect),.fn 177 []] (app emp []) (.tup []) (app emp []):=by
 refine .go Tryz.f176 ?_
 refine .len 0 (fun hl0=> ?_)
 exact .fin [.r [(1,X (Xl rectT ([]:List Rect)))],.le (.eq 4 (VI (([]:List Rect).length:Int)) (VI 0) (.of_eq rfl)),.r [(3,X (Xcv IntKind.u64 0) (by decide)),(4,X (Xc0 fc_bl X0)),(6,X (Xc0 y51 X0))]] []
theorem y7Q(x:Grid)(e:GEd)(hi:RawT x e):FC Tryz.prog 132 [.t (gridT x),.t (gedT e)] (app emp []) (.t (gridT (rawT x e))) (app emp []):=by
 refine .go Tryz.f132 ?_
 obtain⟨vr,vk,l1,l2,a1,a2,p1,p2,hq,hm⟩:=hi
 have hml:=z7z x.cells e.rows e.cols
 refine .loop (α:=Nat) [.r [],.r [(4,X (Xc0 (z33 x.rows e.rows (by assumption)) X0))],.r [(4,X (Xc0 (z33 x.cols e.cols (by assumption)) X0))],.r [(8,X (Xc1 248 (y5Z x.cells e.rows e.cols (by omega) (by assumption) (by assumption) (by assumption)) X0)),(11,X (Xc1 272 (y7N (movL x.cells e.rows e.cols) e.cells (by omega) (by omega) (by assumption)) X0)),(12,X (Xf [(3,4)]))],.r [(2,X (Xl rectT x.merges))]] 336 (fun i=>([(3,.ptr 8 0),(4,.ptr 16 0),(9,.ptr 288 0),(46,VL 4 rectT x.merges),(47,VI (x.merges.length:Int)),(48,VI (i:Int))],[(8,.box [VL 2 stepT e.rows,VL 2 stepT e.cols,VL 5 cellT e.cells,VL 4 rectT e.split,VL 4 rectT e.merge]),(16,.box [VI 0,VI 0,VN,VN]),(288,.box [VI (if 0< (e.rows).length then newI e.rows else x.rows),VI (if 0< (e.cols).length then newI e.cols else x.cols),VL 5 cellT (putL e.cells (movL x.cells e.rows e.cols)),VL 4 rectT []])])) (fun i=>i=0) (fun i=>0) (0:Nat) ?_ ?_
 ·
  rfl
 rintro i I5 ih5
 try dsimp only at I5
 refine .bp [.r []] (decide ((i:Int)< (x.merges.length:Int))) (fun h5=> ?_) (fun h5=> ?_)
 ·
  exfalso
  omega
 ·
  refine .loop (α:=Nat) [.r [(2,X (Xl rectT e.merge))]] 376 (fun j=>([(4,.ptr 16 0),(9,.ptr 288 0),(77,VL 4 rectT e.merge),(78,VI (e.merge.length:Int)),(79,VI (j:Int))],[(16,.box [VI 0,VI 0,VN,VN]),(288,.box [VI (if 0< (e.rows).length then newI e.rows else x.rows),VI (if 0< (e.cols).length then newI e.cols else x.cols),VL 5 cellT (putL e.cells (movL x.cells e.rows e.cols)),VL 4 rectT []])])) (fun j=>j=0) (fun j=>0) (0:Nat) ?_ ?_
  ·
   rfl
  rintro j I12 ih12
  try dsimp only at I12
  refine .bp [.r []] (decide ((j:Int)< (e.merge.length:Int))) (fun h12=> ?_) (fun h12=> ?_)
  ·
   exfalso
   omega
  ·
   have e1:((rawT x e):Grid)=({rows:=(if 0< (e.rows).length then newI e.rows else x.rows),cols:=(if 0< (e.cols).length then newI e.cols else x.cols),cells:=(putL e.cells (movL x.cells e.rows e.cols)),merges:=[]}:Grid):=by
    rfl
   exact .finVE [.r [(2,X (Xc0 y3M X0))],.r []] [] [] (fun z0:Grid=>(.t (gridT z0),[])) _ _ e1
end Go.Ch
end
section

end
section
namespace Go.Ch
open Go Go.Ab
structure Node where
 id:Int
 kind:Int
 attrs:List Attr
 flow:List Elem
 grid:Grid
 draw:List DOp
instance:Inhabited Node:=⟨⟨0,0,[],[],default,[]⟩⟩
def nodeT(n:Node):Tree:= .agg [TI n.id,TI n.kind,.lst 2 (n.attrs.map attrT),.lst 3 (n.flow.map elemT),TI n.grid.rows,TI n.grid.cols,.lst 5 (n.grid.cells.map cellT),.lst 4 (n.grid.merges.map rectT),.lst 8 (n.draw.map dopT)]
structure Doc where
 nodes:List Node
instance:Inhabited Doc:=⟨⟨[]⟩⟩
def docT(d:Doc):Tree:= .agg [.lst 9 (d.nodes.map nodeT)]
def hasT(k:Int):Bool:=((k==1||k==3)||k==4)||k==12
def hasL(k:Int):Bool:=k==0||k==7
def hasG(k:Int):Bool:=k==2||k==6
def hasD(k:Int):Bool:=(k==8||k==9)||k==10
def zeroG(g:Grid):Bool:=((g.rows==0&&g.cols==0)&&(g.cells.length:Int)==0)&&(g.merges.length:Int)==0
def permB(p k:Int):Bool:=
 if k=1\/k=6\/k=7\/k=11\/k=12 then p==0
 else if k=10 then(p==0||p==1)||p==3
 else if k=2 then p==1
 else if k=4 then p==1||p==3
 else if k=5 then hasT p
 else if k=3 then p==2
 else if k=8\/k=9 then p==7
 else false
def flowX(t:Bool)(f:List Elem)(i:Nat):Int:=
 if i<f.length then
  (if elemE (f.getD i default)≠0 then elemE (f.getD i default) else if t=false/\(f.getD i default).ref=0 then 8 else flowX t f (i+1))
 else 0
termination_by f.length-i
def flowZ(t:Bool)(f:List Elem):Int:=
 if flowX t f 0≠0 then flowX t f 0 else if t=true/\(f.length=0\/(f.getD (f.length- 1) default).char≠10) then 11 else 0
theorem z8K{t:Bool}{f:List Elem}{i:Nat}(h:i<f.length)(he:elemE (f.getD i default)≠0):flowX t f i=elemE (f.getD i default):=by rw[flowX,if_pos h,if_pos he]
theorem z6J{t:Bool}{f:List Elem}{i:Nat}(h:i<f.length)(he:elemE (f.getD i default)=0)(hk:t=false/\(f.getD i default).ref=0):flowX t f i=8:=by rw[flowX,if_pos h,if_neg (fun q=>q he),if_pos hk]
theorem z6K{t:Bool}{f:List Elem}{i:Nat}(h:i<f.length)(he:elemE (f.getD i default)=0)(hk:t=true\/(f.getD i default).ref≠0):flowX t f i=flowX t f (i+1):=by
 rw[flowX,if_pos h,if_neg (fun q=>q he),if_neg]
 rintro⟨a,b⟩;rcases hk with q|q
 ·rw[a] at q;cases q
 ·exact q b
theorem z8L{t:Bool}{f:List Elem}{i:Nat}(h:¬i<f.length):flowX t f i=0:=by rw[flowX,if_neg h]
theorem z5Y{t:Bool}{f:List Elem}{e:Int}(h:flowX t f 0=e)(he:e≠0):flowZ t f=e:=by unfold flowZ;rw[h,if_pos he]
theorem z5Z{t:Bool}{f:List Elem}(h:flowX t f 0=0):flowZ t f=if t=true/\(f.length=0\/(f.getD (f.length- 1) default).char≠10) then 11 else 0:=by unfold flowZ;rw[h,if_neg (fun q=>q rfl)]
def cellK(k:Int)(l:List Cell)(i:Nat):Int:=
 if i<l.length then
  (if(k=2/\(seq (l.getD i default).text {data:=#[]}=false\/0< (l.getD i default).attrs.length))\/(k=6/\(l.getD i default).ref≠0) then 4 else cellK k l (i+1))
 else 0
termination_by l.length-i
def nodeE(n:Node):Int:=
 if n.id<1\/1073741824<n.id then 2
 else if n.kind<0\/12<n.kind\/(n.id=1/\n.kind≠0)\/(n.id≠1/\n.kind=0) then 8
 else if chkA false n.attrs 0≠0 then chkA false n.attrs 0
 else if(0<n.flow.length/\hasT n.kind=false/\hasL n.kind=false)\/(zeroG n.grid=false/\hasG n.kind=false)\/(0<n.draw.length/\hasD n.kind=false) then 4
 else if hasT n.kind=true\/hasL n.kind=true then flowZ (hasT n.kind) n.flow
 else if hasG n.kind=true then(if gridE n.grid≠0 then gridE n.grid else cellK n.kind n.grid.cells 0)
 else drawE n.draw 0
def findD(l:List Node)(k:Int)(i:Nat):Int:=if i<l.length then(if(l.getD i default).id=k then(i:Int) else findD l k (i+1)) else-1
termination_by l.length-i
def refsF(f:List Elem):List Int:=f.filterMap fun x=>if x.ref≠0 then some x.ref else none
def refsC(l:List Cell):List Int:=l.filterMap fun x=>if x.ref≠0 then some x.ref else none
def refsN(n:Node):List Int:=refsF n.flow++refsC n.grid.cells
def refsE(l:List Node)(k:Int)(rs:List Int)(i:Nat):Int:=
 if i<rs.length then
  (if findD l (rs.getD i default) 0<0 then 7
   else if permB k (l.getD (findD l (rs.getD i default) 0).toNat default).kind=false then 8
   else refsE l k rs (i+1))
 else 0
termination_by rs.length-i
def z1b(l:List Node)(i:Nat):Int:=
 if i<l.length then
  (if nodeE (l.getD i default)≠0 then nodeE (l.getD i default)
   else if(i=0/\(l.getD 0 default).id≠1)\/(0<i/\(l.getD i default).id<=(l.getD (i- 1) default).id) then 5
   else z1b l (i+1))
 else 0
termination_by l.length-i
def z0S(l:List Node)(i:Nat):Int:=
 if i<l.length then
  (if refsE l (l.getD i default).kind (refsN (l.getD i default)) 0≠0 then refsE l (l.getD i default).kind (refsN (l.getD i default)) 0 else z0S l (i+1))
 else 0
termination_by l.length-i
def docE(d:Doc):Int:=
 if d.nodes.length=0 then 11
 else if z1b d.nodes 0≠0 then z1b d.nodes 0
 else z0S d.nodes 0
theorem y2c{l:List Node}{i:Nat}(h:i<l.length)(he:nodeE (l.getD i default)≠0):z1b l i=nodeE (l.getD i default):=by rw[z1b,if_pos h,if_pos he]
theorem y2d{l:List Node}{i:Nat}(h:i<l.length)(he:nodeE (l.getD i default)=0)(ho:(i=0/\(l.getD 0 default).id≠1)\/(0<i/\(l.getD i default).id<=(l.getD (i- 1) default).id)):z1b l i=5:=by rw[z1b,if_pos h,if_neg (fun q=>q he),if_pos ho]
theorem z9P{l:List Node}{i:Nat}(h:i<l.length)(he:nodeE (l.getD i default)=0)(ho:¬((i=0/\(l.getD 0 default).id≠1)\/(0<i/\(l.getD i default).id<=(l.getD (i- 1) default).id))):z1b l i=z1b l (i+1):=by rw[z1b,if_pos h,if_neg (fun q=>q he),if_neg ho]
theorem z4B{l:List Node}{i:Nat}(h:¬i<l.length):z1b l i=0:=by rw[z1b,if_neg h]
theorem y52{l:List Node}{i:Nat}(h:i<l.length)(he:refsE l (l.getD i default).kind (refsN (l.getD i default)) 0≠0):z0S l i=refsE l (l.getD i default).kind (refsN (l.getD i default)) 0:=by rw[z0S,if_pos h,if_pos he]
theorem y3N{l:List Node}{i:Nat}(h:i<l.length)(he:refsE l (l.getD i default).kind (refsN (l.getD i default)) 0=0):z0S l i=z0S l (i+1):=by rw[z0S,if_pos h,if_neg (fun q=>q he)]
theorem y53{l:List Node}{i:Nat}(h:¬i<l.length):z0S l i=0:=by rw[z0S,if_neg h]
theorem z6L{d:Doc}(h:d.nodes.length=0):docE d=11:=by unfold docE;rw[if_pos h]
theorem z8M{d:Doc}(h:¬d.nodes.length=0){e:Int}(he:z1b d.nodes 0=e)(hn:e≠0):docE d=e:=by unfold docE;rw[if_neg h,he,if_pos hn]
theorem z8N{d:Doc}(h:¬d.nodes.length=0){e:Int}(he:z1b d.nodes 0=0)(hr:z0S d.nodes 0=e):docE d=e:=by unfold docE;rw[if_neg h,he,if_neg (fun q=>q rfl),hr]
theorem y2e{l:List Node}{k:Int}{rs:List Int}{i:Nat}(h:i<rs.length)(he:findD l (rs.getD i default) 0<0):refsE l k rs i=7:=by rw[refsE,if_pos h,if_pos he]
theorem y2f{l:List Node}{k:Int}{rs:List Int}{i:Nat}(h:i<rs.length)(he:0<=findD l (rs.getD i default) 0)(hp:permB k (l.getD (findD l (rs.getD i default) 0).toNat default).kind=false):refsE l k rs i=8:=by rw[refsE,if_pos h,if_neg (by omega),if_pos hp]
theorem y2g{l:List Node}{k:Int}{rs:List Int}{i:Nat}(h:i<rs.length)(he:0<=findD l (rs.getD i default) 0)(hp:permB k (l.getD (findD l (rs.getD i default) 0).toNat default).kind=true):refsE l k rs i=refsE l k rs (i+1):=by rw[refsE,if_pos h,if_neg (by omega),if_neg (by rw[hp];decide)]
theorem y3O{l:List Node}{k:Int}{rs:List Int}{i:Nat}(h:¬i<rs.length):refsE l k rs i=0:=by rw[refsE,if_neg h]
structure NodeB(n:Node):Prop where
 at1:Szd n.attrs
 at2:n.attrs.length<=1048576
 fl1:SzE n.flow
 fl2:n.flow.length<=1048576
 fl3:∀x∈n.flow,x.attrs.length<=1048576
 ce1:SzC n.grid.cells
 ce2:n.grid.cells.length<=1048576
 ce3:∀c∈n.grid.cells,c.attrs.length<=1048576
 me:n.grid.merges.length<=1048576
 dr1:n.draw.length<=1048576
 dr2:∀o∈n.draw,o.plc.size<=1048576/\o.nm.size<=1048576/\o.vl.size<=1048576
def lenN(n:Node):Nat:=n.flow.length+n.grid.cells.length+n.draw.length
def lensN(l:List Node):Nat:=(l.map lenN).sum
structure DocB(d:Doc):Prop where
 len:d.nodes.length<=1048576
 all:∀n∈d.nodes,NodeB n
 sum:lensN d.nodes<=1048576
theorem z2v{l:List Node}{i:Nat}(h:i<l.length):l.getD i default∈l:=z0h h
theorem z34{α β:Type}[Inhabited α]{l:List α}{i:Nat}(g:α->Option β)(h:i<l.length):(l.take (i+1)).filterMap g=(l.take i).filterMap g++(g (l.getD i default)).toList:=by
 have e:l.getD i default=l[i]:=by rw[qc,qa h];rfl
 rw[qr h,List.filterMap_append,e]
 congr 1
end Go.Ch
end
section
set_option maxRecDepth 100000
set_option maxHeartbeats 4000000
open Go Go.Proofs Go.Ab
namespace Go.Ch
theorem z5d(k:Int):FC Tryz.prog 59 [VI k] (app emp []) (VB (hasT k)) (app emp []):=by
 refine .go Tryz.f59 ?_
 have e1:((hasT k):Bool)=((((k==1)|| (k==3))|| (k==4))|| (k==12)):=by
  rfl
 exact .finE [.r [],.r [(4,Xv 1 (!(k==1)) X0),(5,X (Xk' (k==1))),(8,Xv 1 (!((k==1)|| (k==3))) X0),(9,X (Xk' ((k==1)|| (k==3)))),(12,Xv 1 (!(((k==1)|| (k==3))|| (k==4))) X0),(13,X (Xk' (((k==1)|| (k==3))|| (k==4))))]] [] (fun z0:Bool=>(VB z0,[])) _ _ e1
theorem y00(k:Int):FC Tryz.prog 116 [VI k] (app emp []) (VB (hasL k)) (app emp []):=by
 refine .go Tryz.f116 ?_
 have e1:((hasL k):Bool)=((k==0)|| (k==7)):=by
  rfl
 exact .finE [.r [],.r [(4,Xv 1 (!(k==0)) X0),(5,X (Xk' (k==0)))]] [] (fun z0:Bool=>(VB z0,[])) _ _ e1
theorem z7H(k:Int):FC Tryz.prog 117 [VI k] (app emp []) (VB (hasG k)) (app emp []):=by
 refine .go Tryz.f117 ?_
 have e1:((hasG k):Bool)=((k==2)|| (k==6)):=by
  rfl
 exact .finE [.r [],.r [(4,Xv 1 (!(k==2)) X0),(5,X (Xk' (k==2)))]] [] (fun z0:Bool=>(VB z0,[])) _ _ e1
theorem y01(k:Int):FC Tryz.prog 79 [VI k] (app emp []) (VB (hasD k)) (app emp []):=by
 refine .go Tryz.f79 ?_
 have e1:((hasD k):Bool)=(((k==8)|| (k==9))|| (k==10)):=by
  rfl
 exact .finE [.r [],.r [(4,Xv 1 (!(k==8)) X0),(5,X (Xk' (k==8))),(8,Xv 1 (!((k==8)|| (k==9))) X0),(9,X (Xk' ((k==8)|| (k==9))))]] [] (fun z0:Bool=>(VB z0,[])) _ _ e1
theorem z7I(f:List Elem)(t:Bool):FC Tryz.prog 119 [VL 3 elemT f,VB t] (app emp []) (VI (flowZ t f)) (app emp []):=by
 refine .go Tryz.f119 ?_
 refine .len 0 (fun hl0=> ?_)
 refine .loop (α:=Nat) [.r [],.r [(1,X (Xl elemT f))]] 32 (fun i=>([(0,VL 3 elemT f),(1,VB t),(8,VL 3 elemT f),(9,VI (f.length:Int)),(10,VI (i:Int))],[])) (fun i=>i<=f.length/\flowX t f 0=flowX t f i) (fun i=>f.length-i) (0:Nat) ?_ ?_
 ·
  exact⟨by omega,rfl⟩
 rintro i I2 ih2
 try dsimp only at I2
 refine .bp [.r []] (decide ((i:Int)< (f.length:Int))) (fun h2=> ?_) (fun h2=> ?_)
 ·
  refine .bp [.r [(0,X (Xi elemT f (i:Int)))],.r [(1,X (Xc0 (y3E ((f.getD i default))) X0))],.r []] ((elemE ((f.getD i default))) !=0) (fun h5=> ?_) (fun h5=> ?_)
  ·
   have e1:((flowZ t f):Int)=(elemE ((f.getD i default))):=by
    exact z5Y (I2.2.trans (z8K (by omega) (by omega))) (by omega)
   exact .finE [.r []] [] (fun z0:Int=>(VI z0,[])) _ _ e1
  ·
   refine .bp [.r [(4,Xv 1 (!t) X0),(5,Xv 1 (!t) X0),(6,X (Xk (!t)))]] (!t&&((((f.getD i default)).ref)==0)) (fun h7=> ?_) (fun h7=> ?_)
   ·
    have e2:((flowZ t f):Int)=8:=by
     exact z5Y (I2.2.trans (z6J (by omega) (by omega) h7)) (by decide)
    exact .finE [.r []] [] (fun z0:Int=>(VI z0,[])) _ _ e2
   ·
    refine .back [.r [(0,X (Xn ((i:Int)+1)))]] [] (ih2 ((i+1):Nat) ?_ ?_)
    ·
     exact⟨by omega,I2.2.trans (z6K (by omega) (by omega) h7)⟩
    ·
     ((try dsimp only);omega)
 ·
  refine .bp [.r [(3,Xv 1 t (Xl elemT f)),(4,Xv 1 t X0),(5,Xv 1 t X0),(8,Xv 1 (t&& !((f.length:Int)==0)) (Xl elemT f)),(9,Xv 1 (t&& !((f.length:Int)==0)) (Xn ((f.length:Int)- 1))),(10,Xv 2 (t&& !((f.length:Int)==0)) (Xi' elemT f ((f.length:Int)- 1) (f.length- 1)) (fun hg=>by(try simp only[zg,zH,qm,Bool.and_eq_false_iff,beq_iff_eq,beq_eq_false_iff_ne,ne_eq] at hg);exact⟨(by omega),(by omega)⟩)),(11,Xv 1 (t&& !((f.length:Int)==0)) X0),(12,Xv 1 (t&& !((f.length:Int)==0)) X0),(13,Xv 1 (t&& !((f.length:Int)==0)) X0),(14,Xko t ((f.length:Int)==0)),(15,X (Xk t))]] (t&&(((f.length:Int)==0)|| ((((f.getD (f.length- 1) default)).char) !=10))) (fun h10=> ?_) (fun h10=> ?_)
  ·
   have e3:((flowZ t f):Int)=11:=by
    rw[z5Z (I2.2.trans (z8L (by omega))),if_pos (by refine⟨h10.1,?_⟩;rcases h10.2 with h|h;(left;omega);(right;exact h))]
   exact .finE [.r []] [] (fun z0:Int=>(VI z0,[])) _ _ e3
  ·
   have e4:((flowZ t f):Int)=0:=by
    rw[z5Z (I2.2.trans (z8L (by omega))),if_neg (by rintro⟨q1,q2⟩;rcases h10 with h|h;(rw[q1] at h;cases h);(rcases q2 with q|q;(omega);(exact q h.2)))]
   exact .finE [.r []] [] (fun z0:Int=>(VI z0,[])) _ _ e4
end Go.Ch
end
section
namespace Go.Ch
open Go Go.Ab
def SortN(l:List Node):Prop:=∀p q,p<q->q<l.length->(l.getD p default).id< (l.getD q default).id
def cmpN9(n:Node)(k:Int):Int:=if n.id<k then-1 else if n.id>k then 1 else 0
def lobN(l:List Node)(k:Int):Nat:=(l.takeWhile (fun n=>decide (n.id<k))).length
theorem z1L:∀(l:List Node) (k:Int),lobN l k<=l.length/\(∀i,i<lobN l k->(l.getD i default).id<k)/\(lobN l k<l.length->¬(l.getD (lobN l k) default).id<k)
 | [],k=>⟨qU _,fun i hi=>absurd hi (by simp[lobN]),fun h=>absurd h (by simp[lobN])⟩
 |c::l,k=>by
  obtain⟨h1,h2,h3⟩:=z1L l k
  by_cases hc:c.id<k
  ·have e:lobN (c::l) k=lobN l k+1:=by unfold lobN;rw[List.takeWhile_cons,if_pos (decide_eq_true hc)];rfl
   rw[e]
   refine⟨by simp;omega,fun i hi=> ?_,fun h=> ?_⟩
   ·cases i with
    |zero=>exact hc
    |succ i=>exact h2 i (by omega)
   ·exact h3 (by simpa using h)
  ·have e:lobN (c::l) k=0:=by unfold lobN;rw[List.takeWhile_cons,if_neg (by simpa using hc)];rfl
   rw[e]
   exact⟨qU _,fun i hi=>absurd hi (by omega),fun _=>hc⟩
theorem y3P{l:List Node}{k:Int}{m:Nat}(hs:SortN l)(hm:m<l.length)(h:(l.getD m default).id<k):m<lobN l k:=by
 obtain⟨h1,h2,h3⟩:=z1L l k
 apply qd;intro q
 have h4:=h3 (by omega)
 by_cases e:lobN l k=m
 ·rw[e] at h4;exact h4 h
 ·have h5:=hs (lobN l k) m (by omega) hm
  omega
theorem z9Q{l:List Node}{k:Int}{m:Nat}(h:¬(l.getD m default).id<k):lobN l k<=m:=by
 obtain⟨h1,h2,h3⟩:=z1L l k
 apply qd;intro q
 exact h (h2 m (by omega))
def hasN(l:List Node)(k:Int):Bool:=decide ((lobN l k:Int)< (l.length:Int))&&(cmpN9 (l.getD (lobN l k) default) k==0)
theorem y02{n:Node}{k:Int}:cmpN9 n k<0↔n.id<k:=by unfold cmpN9;split<;>(try split)<;>omega
theorem y54{n:Node}{k:Int}:cmpN9 n k=0↔n.id=k:=by unfold cmpN9;split<;>(try split)<;>omega
theorem z06{l:List Node}{k:Int}:hasN l k=true↔lobN l k<l.length/\(l.getD (lobN l k) default).id=k:=by
 unfold hasN;rw[qm,decide_eq_true_eq,beq_iff_eq,y54];omega
theorem z2w(l:List Node)(k:Int):∀(n i:Nat),l.length-i=n->(findD l k i= -1/\∀j,i<=j->j<l.length->(l.getD j default).id≠k)\/∃j:Nat,findD l k i=j/\i<=j/\j<l.length/\(l.getD j default).id=k
 |0,i,h=>by rw[findD,if_neg (by omega)];exact .inl ⟨rfl,fun j h1 h2=>by omega⟩
 |n+1,i,h=>by
  have hi:i<l.length:=by omega
  rw[findD,if_pos hi]
  by_cases e:(l.getD i default).id=k
  ·rw[if_pos e];exact .inr ⟨i,rfl,qt _,hi,e⟩
  ·rw[if_neg e]
   rcases z2w l k n (i+1) (by omega) with⟨a,b⟩| ⟨j,a,b,c,d⟩
   ·refine .inl ⟨a,fun j h1 h2=> ?_⟩
    by_cases q:j=i
    ·subst q;exact e
    ·exact b j (by omega) h2
   ·exact .inr ⟨j,a,by omega,c,d⟩
theorem y55{l:List Node}{k:Int}(hs:SortN l)(h:hasN l k=true):findD l k 0=(lobN l k:Int):=by
 obtain⟨h1,h2⟩:=z06.1 h
 rcases z2w l k _ 0 rfl with⟨a,b⟩| ⟨j,a,b,c,d⟩
 ·exact absurd h2 (b _ (qU _) h1)
 ·rw[a]
  rcases Nat.lt_trichotomy j (lobN l k) with q|q|q
  ·have:=hs j _ q h1;omega
  ·rw[q]
  ·have:=hs _ j q c;omega
theorem y7R{l:List Node}{k:Int}(hs:SortN l)(h:hasN l k=false):findD l k 0<0:=by
 rcases z2w l k _ 0 rfl with⟨a,b⟩| ⟨j,a,b,c,d⟩
 ·rw[a];decide
 ·exfalso
  have h1:=z9Q (l:=l) (k:=k) (m:=j) (by omega)
  obtain⟨s1,s2,s3⟩:=z1L l k
  have h2:lobN l k=j:=by
   apply qd;intro q
   have:=hs (lobN l k) j (by omega) c
   exact s3 (by omega) (by omega)
  have:hasN l k=true:=z06.2 ⟨by omega,by rw[h2];exact d⟩
  rw[h] at this;cases this
theorem z2x{l:List Node}:∀(n i:Nat),l.length-i=n->z1b l i=0->(∀j,i<=j->j<l.length->nodeE (l.getD j default)=0)/\(∀j,i<=j->j<l.length->(j=0->(l.getD 0 default).id=1)/\(0<j->(l.getD (j- 1) default).id< (l.getD j default).id))
 |0,i,h,_=>⟨fun j h1 h2=>by omega,fun j h1 h2=>by omega⟩
 |n+1,i,h,he=>by
  have hi:i<l.length:=by omega
  rw[z1b,if_pos hi] at he
  by_cases h1:nodeE (l.getD i default)≠0
  ·rw[if_pos h1] at he;exact absurd he h1
  ·rw[if_neg h1] at he
   split at he
   ·cases he
   ·rename_i h2
    obtain⟨a,b⟩:=z2x n (i+1) (by omega) he
    refine⟨fun j q1 q2=> ?_,fun j q1 q2=> ?_⟩
    ·by_cases q:j=i
     ·subst q;exact qd h1
     ·exact a j (by omega) q2
    ·by_cases q:j=i
     ·subst q
      exact⟨fun q3=>by omega,fun q3=>by omega⟩
     ·exact b j (by omega) q2
theorem z9R{l:List Node}(h:z1b l 0=0):SortN l:=by
 have h2:=(z2x _ 0 rfl h).2
 have key:∀d p,p+d+1<l.length->(l.getD p default).id< (l.getD (p+d+1) default).id:=by
  intro d
  induction d with
  |zero=>intro p hp;have:=(h2 (p+1) (qU _) hp).2 (by omega);rwa [show p+1- 1=p by omega] at this
  |succ d ih=>
   intro p hp
   have h3:=ih p (by omega)
   have h4:=(h2 (p+(d+1)+1) (qU _) hp).2 (by omega)
   rw[show p+(d+1)+1- 1=p+d+1 by omega] at h4
   omega
 intro p q hpq hq
 have:=key (q-p- 1) p (by omega)
 rwa [show p+(q-p- 1)+1=q by omega] at this
end Go.Ch
end
section
set_option maxRecDepth 100000
set_option maxHeartbeats 4000000
open Go Go.Proofs Go.Ab
namespace Go.Ch



theorem y03(n:Node)(k:Int):FC Tryz.prog 141 [.t (nodeT n),VI k] (app emp []) (VI (cmpN9 n k)) (app emp []):=by
 refine .go Tryz.f141 ?_
 refine .bp [.r [],.r []] (decide (n.id<k)) (fun h1=> ?_) (fun h1=> ?_)
 ·
  have e1:((cmpN9 n k):Int)= -1:=by
   unfold cmpN9;((repeat' split)<;>first|rfl|omega| (simp_all;done)| (simp_all;omega))
  exact .finE [.r []] [] (fun z0:Int=>(VI z0,[])) _ _ e1
 ·
  refine .bp [.r []] (decide (n.id>k)) (fun h3=> ?_) (fun h3=> ?_)
  ·
   have e2:((cmpN9 n k):Int)=1:=by
    unfold cmpN9;((repeat' split)<;>first|rfl|omega| (simp_all;done)| (simp_all;omega))
   exact .finE [.r []] [] (fun z0:Int=>(VI z0,[])) _ _ e2
  ·
   have e3:((cmpN9 n k):Int)=0:=by
    unfold cmpN9;((repeat' split)<;>first|rfl|omega| (simp_all;done)| (simp_all;omega))
   exact .finE [.r []] [] (fun z0:Int=>(VI z0,[])) _ _ e3
theorem y86(l:List Node)(k:Int)(hn:l.length<=1048576)(hs:SortN l):FC Tryz.prog 140 [VL 9 nodeT l,VI k,.fn 141 []] (app emp []) (.tup [VI (lobN l k:Int),VB (hasN l k)]) (app emp []):=by
 refine .go Tryz.f140 ?_
 refine .len 0 (fun hl0=> ?_)
 obtain⟨s1,s2,s3⟩:=z1L l k
 refine .loop (α:=Nat×Nat) [.r [],.r [(1,X (Xl nodeT l))],.r []] 64 (fun(i,j)=>([(0,VL 9 nodeT l),(1,VI k),(2,.fn 141 []),(8,VI (l.length:Int)),(9,VI (i:Int)),(10,VI (j:Int))],[])) (fun(i,j)=>i<=lobN l k/\lobN l k<=j/\j<=l.length) (fun(i,j)=>j-i) (0,l.length) ?_ ?_
 ·
  exact⟨by omega,by omega,by omega⟩
 rintro⟨i,j⟩ I3 ih3
 try dsimp only at I3
 refine .bp [.r []] (decide ((i:Int)< (j:Int))) (fun h3=> ?_) (fun h3=> ?_)
 ·
  obtain⟨m,hm⟩:∃m:Nat,((i:Int)+(j:Int))/2=(m:Int):=⟨(i+j)/2,by omega⟩
  refine .bp [.r [(2,X (Xn ((i:Int)+(j:Int)))),(3,X (Xcv IntKind.u64 ((i:Int)+(j:Int))) (by simp[IntKind.wrap,IntKind.bits,IntKind.signed];omega)),(4,X (Xsh IntKind.u64 1 (((i:Int)+(j:Int)).fdiv (2^(min (1:Int).toNat IntKind.u64.bits))) (((i:Int)+(j:Int))/2)) ⟨by decide,(by rw[zW _ (by decide)];rfl)⟩),(5,X (Xn (((i:Int)+(j:Int))/2)))],.le (.eq 11 (VI (((i:Int)+(j:Int))/2)) (VI (m:Int)) (.of_eq (by rw[<-hm]))),.r [(3,X (Xi nodeT l (m:Int))),(6,X (Xc0 (y03 ((l.getD m default)) k) X0))]] (decide ((cmpN9 ((l.getD m default)) k)< 0)) (fun h5=> ?_) (fun h5=> ?_)
  ·
   refine .back [.r [(1,X (Xn ((m:Int)+1)))]] [] (ih3 ((m+1),j) ?_ ?_)
   ·
    have:=y3P hs (m:=m) (by omega) (y02.1 h5)
    exact⟨by omega,by omega,by omega⟩
   ·
    ((try dsimp only);omega)
  ·
   refine .back [.r []] [] (ih3 (i,m) ?_ ?_)
   ·
    have:=z9Q (l:=l) (k:=k) (m:=m) (fun q=>by have:=y02.2 q;omega)
    exact⟨by omega,by omega,by omega⟩
   ·
    ((try dsimp only);omega)
 ·
  have hi:i=lobN l k:=by omega
  have e1:((lobN l k:Int):Int)=(i:Int):=by
   first|omega| (unfold hasN;rw[<-hi])
  have e2:((hasN l k):Bool)=(decide ((i:Int)< (l.length:Int))&&((cmpN9 ((l.getD i default)) k)==0)):=by
   first|omega| (unfold hasN;rw[<-hi])
  exact .finE [.r [(8,Xv 2 (decide ((i:Int)< (l.length:Int))) (Xi nodeT l (i:Int))),(9,Xv 1 (decide ((i:Int)< (l.length:Int))) X0),(11,Xv 3 (decide ((i:Int)< (l.length:Int))) (Xc0 (y03 ((l.getD i default)) k) X0)),(12,Xv 1 (decide ((i:Int)< (l.length:Int))) X0),(13,X (Xk (decide ((i:Int)< (l.length:Int)))))]] [] (fun((z0,z1):Int×Bool)=>(.tup [VI z0,VB z1],[])) _ _ (pr e1 e2)
theorem z7J(d:Doc)(k:Int)(hn:d.nodes.length<=1048576)(hs:SortN d.nodes):FC Tryz.prog 89 [.t (docT d),VI k] (app emp []) (.tup [VI (lobN d.nodes k:Int),VB (hasN d.nodes k)]) (app emp []):=by
 refine .go Tryz.f89 ?_
 exact .fin [.r [],.r [(3,X (Xc0 (y86 d.nodes k (by omega) (by assumption)) X0))]] []
theorem z50(f:List Elem)(hn:f.length<=1048576):FC Tryz.prog 124 [VL 3 elemT f] (app emp []) (.row 0 ((refsF f).length)) (app emp [(0,OR 1 intT (refsF f))]):=by
 refine .go Tryz.f124 ?_
 refine .len 0 (fun hl0=> ?_)
 refine .loop (α:=Nat×(List Int)) [.r [],.r [],.r [(1,X (Xl elemT f))],.le (.nR 3 1)] 41 (fun(i,o)=>([(3,.row 40 o.length),(6,VL 3 elemT f),(7,VI (f.length:Int)),(8,VI (i:Int))],[(40,OR 1 intT o)])) (fun(i,o)=>i<=f.length/\o=refsF (f.take i)) (fun(i,o)=>f.length-i) (0,[]) ?_ ?_
 ·
  exact⟨by omega,rfl⟩
 rintro⟨i,o⟩ I3 ih3
 try dsimp only at I3
 have ol:o.length<=i:=by rw[I3.2];unfold refsF;exact qD (ja _ _) (by rw[qO];omega)
 refine .bp [.r []] (decide ((i:Int)< (f.length:Int))) (fun h3=> ?_) (fun h3=> ?_)
 ·
  refine .bp [.r [(0,X (Xi elemT f (i:Int)))],.r []] ((((f.getD i default)).ref) !=0) (fun h5=> ?_) (fun h5=> ?_)
  ·
   refine .back [.r [(4,X (rowC intT [((f.getD i default)).ref] (Xap 1 intT 40 o [((f.getD i default)).ref])))],.r [(0,X (Xn ((i:Int)+1)))]] [(40,40)] (ih3 ((i+1),(o++[((f.getD i default)).ref])) ?_ ?_)
   ·
    refine⟨by omega,?_⟩
    rw[I3.2];unfold refsF;rw[z34 _ (by omega)]
    first| (rw[if_pos (by omega)];rfl)| (rw[if_neg (by omega)];simp)
   ·
    ((try dsimp only);omega)
  ·
   refine .back [.r [(0,X (Xn ((i:Int)+1)))]] [(40,40)] (ih3 ((i+1),o) ?_ ?_)
   ·
    refine⟨by omega,?_⟩
    rw[I3.2];unfold refsF;rw[z34 _ (by omega)]
    first| (rw[if_pos (by omega)];rfl)| (rw[if_neg (by omega)];simp)
   ·
    ((try dsimp only);omega)
 ·
  have e1:((refsF f):List Int)=o:=by
   rw[I3.2,qn (by omega)]
  have e2:((refsF f).length:Nat)=o.length:=by
   rw[I3.2,qn (by omega)]
  exact .finE [.r []] [(40,0)] (fun((z0,z1):(List Int)×Nat)=>(.row 0 z1,[(0,OR 1 intT z0)])) _ _ (pr e1 e2)
theorem z8O(n:Node)(hb:NodeB n):FC Tryz.prog 74 [.t (nodeT n)] (app emp []) (VL 1 intT (refsN n)) (app emp []):=by
 refine .go Tryz.f74 ?_
 have b1:=hb.fl2
 have b2:=hb.ce2
 have b3:(refsF n.flow).length<=n.flow.length:=ja _ _
 refine .loop (α:=Nat×(List Int)) [.r [],.r [(2,X (Xc1 32 (z50 n.flow (by first|omega|simp)) X0))],.r [(3,X (Xl cellT n.grid.cells))]] 88 (fun(j,p)=>([(3,.row 32 p.length),(11,VL 5 cellT n.grid.cells),(12,VI (n.grid.cells.length:Int)),(13,VI (j:Int))],[(32,OR 1 intT p)])) (fun(j,p)=>j<=n.grid.cells.length/\p=refsF n.flow++refsC (n.grid.cells.take j)) (fun(j,p)=>n.grid.cells.length-j) (0,(refsF n.flow)) ?_ ?_
 ·
  exact⟨by omega,by simp[refsC]⟩
 rintro⟨j,p⟩ I3 ih3
 try dsimp only at I3
 have ol2:p.length<=n.flow.length+j:=by rw[I3.2,qf];unfold refsC;have q2:=ja (fun x:Cell=>if x.ref≠0 then some x.ref else none) (n.grid.cells.take j);rw[qO] at q2;omega
 refine .bp [.r []] (decide ((j:Int)< (n.grid.cells.length:Int))) (fun h3=> ?_) (fun h3=> ?_)
 ·
  refine .bp [.r [(0,X (Xi cellT n.grid.cells (j:Int)))],.r []] ((((n.grid.cells.getD j default)).ref) !=0) (fun h5=> ?_) (fun h5=> ?_)
  ·
   refine .back [.r [(4,X (rowC intT [((n.grid.cells.getD j default)).ref] (Xap 1 intT 32 p [((n.grid.cells.getD j default)).ref])))],.r [(0,X (Xn ((j:Int)+1)))]] [(32,32)] (ih3 ((j+1),(p++[((n.grid.cells.getD j default)).ref])) ?_ ?_)
   ·
    refine⟨by omega,?_⟩
    rw[I3.2];unfold refsC;rw[z34 _ (by omega),<-List.append_assoc]
    first| (rw[if_pos (by omega)];rfl)| (rw[if_neg (by omega)];simp)
   ·
    ((try dsimp only);omega)
  ·
   refine .back [.r [(0,X (Xn ((j:Int)+1)))]] [(32,32)] (ih3 ((j+1),p) ?_ ?_)
   ·
    refine⟨by omega,?_⟩
    rw[I3.2];unfold refsC;rw[z34 _ (by omega),<-List.append_assoc]
    first| (rw[if_pos (by omega)];rfl)| (rw[if_neg (by omega)];simp)
   ·
    ((try dsimp only);omega)
 ·
  have e1:((refsN n):List Int)=p:=by
   rw[I3.2,qn (by omega)];rfl
  exact .finE [.r [],.le (.fr 2 [(p.length:Nat)=(List.map intT p).length] ⟨lm,trivial⟩)] [] (fun z0:List Int=>(VL 1 intT z0,[])) _ _ e1
theorem y7S(l:List Int)(x:Int):FC Tryz.prog 197 [VL 1 intT l,VI x] (app emp []) (VI (idxF (fun y=>x==y) l 0)) (app emp []):=by
 refine .go Tryz.f197 ?_
 refine .len 0 (fun hl0=> ?_)
 refine .loop (α:=Nat) [.r [],.r [(1,X (Xl intT l))]] 32 (fun i=>([(0,VL 1 intT l),(1,VI x),(7,VI (l.length:Int)),(8,VI (i:Int))],[])) (fun i=>i<=l.length/\idxF (fun y=>x==y) l 0=idxF (fun y=>x==y) l i) (fun i=>l.length-i) (0:Nat) ?_ ?_
 ·
  exact⟨by omega,rfl⟩
 rintro i I2 ih2
 try dsimp only at I2
 refine .bp [.r []] (decide ((i:Int)< (l.length:Int))) (fun h2=> ?_) (fun h2=> ?_)
 ·
  refine .bp [.r [],.r [(3,X (Xi intT l (i:Int)))]] (x==(l.getD i default)) (fun h4=> ?_) (fun h4=> ?_)
  ·
   have e1:((idxF (fun y=>x==y) l 0):Int)=(i:Int):=by
    rw[I2.2,idxF,if_pos (by omega),if_pos (by simpa using h4)]
   exact .finE [.r []] [] (fun z0:Int=>(VI z0,[])) _ _ e1
  ·
   refine .back [.r [(0,X (Xn ((i:Int)+1)))]] [] (ih2 ((i+1):Nat) ?_ ?_)
   ·
    exact⟨by omega,by rw[I2.2,idxF,if_pos (by omega),if_neg (by simpa using h4)]⟩
   ·
    ((try dsimp only);omega)
 ·
  have e2:((idxF (fun y=>x==y) l 0):Int)= -1:=by
   rw[I2.2,idxF,if_neg (by omega)]
  exact .finE [.r []] [] (fun z0:Int=>(VI z0,[])) _ _ e2
theorem z13(l:List Int)(x:Int):FC Tryz.prog 164 [VL 1 intT l,VI x] (app emp []) (VB (l.any (fun y=>x==y))) (app emp []):=by
 refine .go Tryz.f164 ?_
 refine .len 0 (fun hl0=> ?_)
 have e1:((l.any (fun y=>x==y)):Bool)=decide ((idxF (fun y=>x==y) l 0)>=0):=by
  rw[zh];simp only[decide_eq_true_eq,ge_iff_le];rw[y0T]
 exact .finE [.r [],.r [(2,X (Xc0 (y7S l x) X0))]] [] (fun z0:Bool=>(VB z0,[])) _ _ e1
theorem y04(p k:Int):FC Tryz.prog 123 [VI p,VI k] (app emp []) (VB (permB p k)) (app emp []):=by
 refine .go Tryz.f123 ?_
 refine .bp [.r [],.r [],.r [],.r []] (p==0) (fun h3=> ?_) (fun h3=> ?_)
 ·
  have e1:((permB p k):Bool)=(([1,6,7,10,11,12]).any (fun y=>k==y)):=by
   rw[zh];unfold permB hasT;simp only[zC,zS,zA,qF,beq_iff_eq,qN,false_iff,iff_false];(repeat' split)<;>(try simp only[qF,beq_iff_eq,qN,false_iff])<;>first|omega| (simp;done)
  exact .finE [.r [],.r [(2,X (Xc0 (z13 [1,6,7,10,11,12] k) (rowC intT [1,6,7,10,11,12] X0)))]] [] (fun z0:Bool=>(VB z0,[])) _ _ e1
 ·
  refine .bp [.r []] (p==1) (fun h5=> ?_) (fun h5=> ?_)
  ·
   have e2:((permB p k):Bool)=(([2,4,5,10]).any (fun y=>k==y)):=by
    rw[zh];unfold permB hasT;simp only[zC,zS,zA,qF,beq_iff_eq,qN,false_iff,iff_false];(repeat' split)<;>(try simp only[qF,beq_iff_eq,qN,false_iff])<;>first|omega| (simp;done)
   exact .finE [.r [],.r [(2,X (Xc0 (z13 [2,4,5,10] k) (rowC intT [2,4,5,10] X0)))]] [] (fun z0:Bool=>(VB z0,[])) _ _ e2
  ·
   refine .bp [.r []] (p==3) (fun h7=> ?_) (fun h7=> ?_)
   ·
    have e3:((permB p k):Bool)=(([4,5,10]).any (fun y=>k==y)):=by
     rw[zh];unfold permB hasT;simp only[zC,zS,zA,qF,beq_iff_eq,qN,false_iff,iff_false];(repeat' split)<;>(try simp only[qF,beq_iff_eq,qN,false_iff])<;>first|omega| (simp;done)
    exact .finE [.r [],.r [(2,X (Xc0 (z13 [4,5,10] k) (rowC intT [4,5,10] X0)))]] [] (fun z0:Bool=>(VB z0,[])) _ _ e3
   ·
    refine .bp [.r []] (p==4) (fun h9=> ?_) (fun h9=> ?_)
    ·
     refine .bp [] (p==4) (fun h9=> ?_) (fun h9=> ?_)
     ·
      have e4:((permB p k):Bool)=(([5]).any (fun y=>k==y)):=by
       rw[zh];unfold permB hasT;simp only[zC,zS,zA,qF,beq_iff_eq,qN,false_iff,iff_false];(repeat' split)<;>(try simp only[qF,beq_iff_eq,qN,false_iff])<;>first|omega| (simp;done)
      exact .finE [.r [],.r [(2,X (Xc0 (z13 [5] k) (rowC intT [5] X0)))]] [] (fun z0:Bool=>(VB z0,[])) _ _ e4
     ·
      refine .bp [.r []] (p==2) (fun h12=> ?_) (fun h12=> ?_)
      ·
       have e5:((permB p k):Bool)=(([3]).any (fun y=>k==y)):=by
        rw[zh];unfold permB hasT;simp only[zC,zS,zA,qF,beq_iff_eq,qN,false_iff,iff_false];(repeat' split)<;>(try simp only[qF,beq_iff_eq,qN,false_iff])<;>first|omega| (simp;done)
       exact .finE [.r [],.r [(2,X (Xc0 (z13 [3] k) (rowC intT [3] X0)))]] [] (fun z0:Bool=>(VB z0,[])) _ _ e5
      ·
       refine .bp [.r []] (p==7) (fun h14=> ?_) (fun h14=> ?_)
       ·
        have e6:((permB p k):Bool)=(([8,9]).any (fun y=>k==y)):=by
         rw[zh];unfold permB hasT;simp only[zC,zS,zA,qF,beq_iff_eq,qN,false_iff,iff_false];(repeat' split)<;>(try simp only[qF,beq_iff_eq,qN,false_iff])<;>first|omega| (simp;done)
        exact .finE [.r [],.r [(2,X (Xc0 (z13 [8,9] k) (rowC intT [8,9] X0)))]] [] (fun z0:Bool=>(VB z0,[])) _ _ e6
       ·
        have e7:((permB p k):Bool)=(([]).any (fun y=>k==y)):=by
         rw[zh];unfold permB hasT;simp only[zC,zS,zA,qF,beq_iff_eq,qN,false_iff,iff_false];(repeat' split)<;>(try simp only[qF,beq_iff_eq,qN,false_iff])<;>first|omega| (simp;done)
        exact .finE [.r [(2,X (Xc0 (.nil 0 1 (z13 [] k)) X0))]] [] (fun z0:Bool=>(VB z0,[])) _ _ e7
    ·
     refine .bp [.r []] (p==12) (fun h10=> ?_) (fun h10=> ?_)
     ·
      have e8:((permB p k):Bool)=(([5]).any (fun y=>k==y)):=by
       rw[zh];unfold permB hasT;simp only[zC,zS,zA,qF,beq_iff_eq,qN,false_iff,iff_false];(repeat' split)<;>(try simp only[qF,beq_iff_eq,qN,false_iff])<;>first|omega| (simp;done)
      exact .finE [.r [],.r [(2,X (Xc0 (z13 [5] k) (rowC intT [5] X0)))]] [] (fun z0:Bool=>(VB z0,[])) _ _ e8
     ·
      refine .bp [.r []] (p==2) (fun h12=> ?_) (fun h12=> ?_)
      ·
       have e9:((permB p k):Bool)=(([3]).any (fun y=>k==y)):=by
        rw[zh];unfold permB hasT;simp only[zC,zS,zA,qF,beq_iff_eq,qN,false_iff,iff_false];(repeat' split)<;>(try simp only[qF,beq_iff_eq,qN,false_iff])<;>first|omega| (simp;done)
       exact .finE [.r [],.r [(2,X (Xc0 (z13 [3] k) (rowC intT [3] X0)))]] [] (fun z0:Bool=>(VB z0,[])) _ _ e9
      ·
       refine .bp [.r []] (p==7) (fun h14=> ?_) (fun h14=> ?_)
       ·
        have e10:((permB p k):Bool)=(([8,9]).any (fun y=>k==y)):=by
         rw[zh];unfold permB hasT;simp only[zC,zS,zA,qF,beq_iff_eq,qN,false_iff,iff_false];(repeat' split)<;>(try simp only[qF,beq_iff_eq,qN,false_iff])<;>first|omega| (simp;done)
        exact .finE [.r [],.r [(2,X (Xc0 (z13 [8,9] k) (rowC intT [8,9] X0)))]] [] (fun z0:Bool=>(VB z0,[])) _ _ e10
       ·
        have e11:((permB p k):Bool)=(([]).any (fun y=>k==y)):=by
         rw[zh];unfold permB hasT;simp only[zC,zS,zA,qF,beq_iff_eq,qN,false_iff,iff_false];(repeat' split)<;>(try simp only[qF,beq_iff_eq,qN,false_iff])<;>first|omega| (simp;done)
        exact .finE [.r [(2,X (Xc0 (.nil 0 1 (z13 [] k)) X0))]] [] (fun z0:Bool=>(VB z0,[])) _ _ e11
theorem z35(d:Doc)(k:Int)(rs:List Int)(hl:d.nodes.length<=1048576)(hs:SortN d.nodes):FC Tryz.prog 73 [.t (docT d),VI k,VL 1 intT rs] (app emp []) (VI (refsE d.nodes k rs 0)) (app emp []):=by
 refine .go Tryz.f73 ?_
 refine .len 2 (fun hl2=> ?_)
 refine .loop (α:=Nat) [.r [],.r [(1,X (Xl intT rs))]] 40 (fun i=>([(1,VI k),(3,.ptr 0 0),(11,VL 1 intT rs),(12,VI (rs.length:Int)),(13,VI (i:Int))],[(0,.box [VL 9 nodeT d.nodes])])) (fun i=>i<=rs.length/\refsE d.nodes k rs 0=refsE d.nodes k rs i) (fun i=>rs.length-i) (0:Nat) ?_ ?_
 ·
  exact⟨by omega,rfl⟩
 rintro i I2 ih2
 try dsimp only at I2
 refine .bp [.r []] (decide ((i:Int)< (rs.length:Int))) (fun h2=> ?_) (fun h2=> ?_)
 ·
  refine .bp [.r [(0,X (Xi intT rs (i:Int)))],.r [(2,X (Xc0 (z7J d (rs.getD i default) (by assumption) (by assumption)) X0))],.r []] (!(hasN (d).nodes (rs.getD i default))) (fun h5=> ?_) (fun h5=> ?_)
  ·
   have e1:((refsE d.nodes k rs 0):Int)=7:=by
    exact I2.2.trans (y2e (by omega) (y7R hs h5))
   exact .finE [.r []] [] (fun z0:Int=>(VI z0,[])) _ _ e1
  ·
   obtain⟨q1,q2⟩:=z06.1 h5
   have hf:=y55 hs h5
   refine .bp [.r [(4,X (Xi nodeT d.nodes (lobN (d).nodes (rs.getD i default):Int))),(7,X (Xc0 (y04 k (((d.nodes.getD (lobN (d).nodes (rs.getD i default)) default)).kind)) X0))]] (!(permB k (((d.nodes.getD (lobN (d).nodes (rs.getD i default)) default)).kind))) (fun h7=> ?_) (fun h7=> ?_)
   ·
    have e2:((refsE d.nodes k rs 0):Int)=8:=by
     exact I2.2.trans (y2f (by omega) (by omega) (by rw[hf];exact h7))
    exact .finE [.r []] [] (fun z0:Int=>(VI z0,[])) _ _ e2
   ·
    refine .back [.r [(0,X (Xn ((i:Int)+1)))]] [(0,0)] (ih2 ((i+1):Nat) ?_ ?_)
    ·
     exact⟨by omega,I2.2.trans (y2g (by omega) (by omega) (by rw[hf];exact h7))⟩
    ·
     ((try dsimp only);omega)
 ·
  have e3:((refsE d.nodes k rs 0):Int)=0:=by
   exact I2.2.trans (y3O (by omega))
  exact .finE [.r []] [] (fun z0:Int=>(VI z0,[])) _ _ e3
theorem z8P(k:Int)(l:List Cell):FC Tryz.prog 121 [VI k,VL 5 cellT l] (app emp []) (VI (cellK k l 0)) (app emp []):=by
 refine .go Tryz.f121 ?_
 refine .len 1 (fun hl1=> ?_)
 refine .loop (α:=Nat) [.r [],.r [(1,X (Xl cellT l))]] 32 (fun i=>([(0,VI k),(7,VL 5 cellT l),(8,VI (l.length:Int)),(9,VI (i:Int))],[])) (fun i=>i<=l.length/\cellK k l 0=cellK k l i) (fun i=>l.length-i) (0:Nat) ?_ ?_
 ·
  exact⟨by omega,rfl⟩
 rintro i I2 ih2
 try dsimp only at I2
 refine .bp [.r []] (decide ((i:Int)< (l.length:Int))) (fun h2=> ?_) (fun h2=> ?_)
 ·
  refine .bp [.r [(0,X (Xi cellT l (i:Int)))],.r [(4,Xv 1 (k==2) X0),(5,Xv 1 (k==2) X0),(6,Xv 1 (k==2) X0),(8,Xv 1 ((k==2)&& !(!(seq (((l.getD i default)).text) ({data:=#[]})))) X0),(9,Xv 1 ((k==2)&& !(!(seq (((l.getD i default)).text) ({data:=#[]})))) (Xl attrT (((l.getD i default)).attrs))),(10,Xv 1 ((k==2)&& !(!(seq (((l.getD i default)).text) ({data:=#[]})))) X0),(11,Xko (k==2) (!(seq (((l.getD i default)).text) ({data:=#[]})))),(12,X (Xk (k==2))),(15,Xv 1 (!((k==2)&&(!(seq (((l.getD i default)).text) ({data:=#[]}))||decide (((((l.getD i default)).attrs).length:Int)> 0)))) X0),(16,Xv 1 (!((k==2)&&(!(seq (((l.getD i default)).text) ({data:=#[]}))||decide (((((l.getD i default)).attrs).length:Int)> 0)))) X0),(18,Xv 1 ((!((k==2)&&(!(seq (((l.getD i default)).text) ({data:=#[]}))||decide (((((l.getD i default)).attrs).length:Int)> 0))))&&(k==6)) X0),(19,Xv 1 ((!((k==2)&&(!(seq (((l.getD i default)).text) ({data:=#[]}))||decide (((((l.getD i default)).attrs).length:Int)> 0))))&&(k==6)) X0),(20,Xka (!((k==2)&&(!(seq (((l.getD i default)).text) ({data:=#[]}))||decide (((((l.getD i default)).attrs).length:Int)> 0)))) (k==6)),(21,X (Xk' ((k==2)&&(!(seq (((l.getD i default)).text) ({data:=#[]}))||decide (((((l.getD i default)).attrs).length:Int)> 0)))))]] (((k==2)&&(!(seq (((l.getD i default)).text) ({data:=#[]}))||decide (((((l.getD i default)).attrs).length:Int)> 0)))|| ((k==6)&&((((l.getD i default)).ref) !=0))) (fun h4=> ?_) (fun h4=> ?_)
  ·
   have e1:((cellK k l 0):Int)=4:=by
    rw[I2.2,cellK,if_pos (by omega),if_pos]
    exact h4.imp (fun q=>⟨q.1,q.2.imp id (fun z=>by omega)⟩) id
   exact .finE [.r []] [] (fun z0:Int=>(VI z0,[])) _ _ e1
  ·
   refine .back [.r [(0,X (Xn ((i:Int)+1)))]] [] (ih2 ((i+1):Nat) ?_ ?_)
   ·
    refine⟨by omega,?_⟩
    rw[I2.2,cellK,if_pos (by omega),if_neg]
    rintro(⟨a,b|b⟩| ⟨a,b⟩)
    ·rcases h4.1 with q|q
     ·exact q a
     ·rw[q.1] at b;cases b
    ·rcases h4.1 with q|q
     ·exact q a
     ·omega
    ·rcases h4.2 with q|q
     ·exact q a
     ·exact b q
   ·
    ((try dsimp only);omega)
 ·
  have e2:((cellK k l 0):Int)=0:=by
   rw[I2.2,cellK,if_neg (by omega)]
  exact .finE [.r []] [] (fun z0:Int=>(VI z0,[])) _ _ e2
theorem y7T(l:List Rect):FC Tryz.prog 153 [VL 4 rectT l,VN] (app emp []) (VB ((l.length:Int)==0)) (app emp []):=by
 refine .go Tryz.f153 ?_
 refine .len 0 (fun hl0=> ?_)
 refine .bp [.r [],.r [(1,X (Xl rectT l))]] ((l.length:Int) !=0) (fun h1=> ?_) (fun h1=> ?_)
 ·
  have e1:(((l.length:Int)==0):Bool)=false:=by
   rw[beq_eq_false_iff_ne];exact h1
  exact .finE [.r []] [] (fun z0:Bool=>(VB z0,[])) _ _ e1
 ·
  refine .loop (α:=Nat) [.r [(1,X (Xl rectT l))]] 72 (fun i=>([(0,VL 4 rectT l),(1,VN),(12,VI (l.length:Int)),(13,VI (i:Int))],[])) (fun i=>i=0) (fun i=>0) (0:Nat) ?_ ?_
  ·
   rfl
  rintro i I4 ih4
  try dsimp only at I4
  refine .bp [.r []] (decide ((i:Int)< (l.length:Int))) (fun h4=> ?_) (fun h4=> ?_)
  ·
   exfalso
   omega
  ·
   have e2:(((l.length:Int)==0):Bool)=true:=by
    rw[beq_iff_eq];exact h1
   exact .finE [.r []] [] (fun z0:Bool=>(VB z0,[])) _ _ e2
theorem y7U(l:List Cell):FC Tryz.prog 154 [VL 5 cellT l,VN,.fn 155 []] (app emp []) (VB ((l.length:Int)==0)) (app emp []):=by
 refine .go Tryz.f154 ?_
 refine .len 0 (fun hl0=> ?_)
 refine .bp [.r [],.r [(1,X (Xl cellT l))]] ((l.length:Int) !=0) (fun h1=> ?_) (fun h1=> ?_)
 ·
  have e1:(((l.length:Int)==0):Bool)=false:=by
   rw[beq_eq_false_iff_ne];exact h1
  exact .finE [.r []] [] (fun z0:Bool=>(VB z0,[])) _ _ e1
 ·
  refine .loop (α:=Nat) [.r [(1,X (Xl cellT l))]] 72 (fun i=>([(1,VN),(2,.fn 155 []),(15,VL 5 cellT l),(16,VI (l.length:Int)),(17,VI (i:Int))],[])) (fun i=>i=0) (fun i=>0) (0:Nat) ?_ ?_
  ·
   rfl
  rintro i I4 ih4
  try dsimp only at I4
  refine .bp [.r []] (decide ((i:Int)< (l.length:Int))) (fun h4=> ?_) (fun h4=> ?_)
  ·
   exfalso
   omega
  ·
   have e2:(((l.length:Int)==0):Bool)=true:=by
    rw[beq_iff_eq];exact h1
   exact .finE [.r []] [] (fun z0:Bool=>(VB z0,[])) _ _ e2
end Go.Ch
end
section
namespace Go.Ch
open Go Go.Ab
structure DStep where
 kind:Int
 n:Int
 attrs:List Attr
 elems:List Elem
instance:Inhabited DStep:=⟨⟨0,0,[],[]⟩⟩
def z0d(s:DStep):Tree:= .agg [.sc (.int .i64 s.kind),.sc (.int .i64 s.n),.lst 2 (s.attrs.map attrT),.lst 3 (s.elems.map elemT)]
def AN(n:Nat)(l:List Elem):Prop:=∀x∈l,x.attrs.length<=n
def stepD(s:DStep):Int:=
 if s.kind=1 then(if s.n≠0\/0<s.attrs.length then 4 else if s.elems.length=0 then 11 else partE s.elems 0)
 else if s.kind=0\/s.kind=2 then
  (if 0<s.elems.length\/(s.kind=2/\0<s.attrs.length) then 4 else if s.n<1\/2147483647<s.n then 2 else chkA true s.attrs 0)
 else 8
def szD(s:DStep):Int:=if s.kind=1 then(s.elems.length:Int) else s.n
def DOk(s:DStep):Prop:=
 (s.kind=1/\s.n=0/\s.attrs=[]/\s.elems≠[]/\∀x∈s.elems,elemE x=0)\/
 ((s.kind=0\/s.kind=2)/\s.elems=[]/\(s.kind=2->s.attrs=[])/\1<=s.n/\s.n<=2147483647/\VG true s.attrs)
theorem len0{α:Type}{l:List α}:¬0<l.length↔l=[]:=by
 rw[Nat.not_lt,Nat.le_zero,je]
theorem z0I{s:DStep}:stepD s=0↔DOk s:=by
 unfold stepD DOk
 by_cases k1:s.kind=1
 ·rw[if_pos k1]
  by_cases c1:s.n≠0\/0<s.attrs.length
  ·rw[if_pos c1]
   constructor
   ·intro h;omega
   ·rintro(⟨_,h1,h2,_⟩| ⟨h,_⟩)
    ·rw[h2] at c1;simp at c1;omega
    ·omega
  rw[if_neg c1]
  by_cases c2:s.elems.length=0
  ·rw[if_pos c2]
   constructor
   ·intro h;omega
   ·rintro(⟨_,_,_,h,_⟩| ⟨h,_⟩)
    ·exact absurd (je.1 c2) h
    ·omega
  rw[if_neg c2,y5U]
  have ha:s.attrs=[]:=len0.1 (by omega)
  constructor
  ·intro h
   exact .inl ⟨k1,by omega,ha,fun e=>c2 (by rw[e];rfl),h⟩
  ·rintro(⟨_,_,_,_,h⟩| ⟨h,_⟩)
   ·exact h
   ·omega
 rw[if_neg k1]
 by_cases k2:s.kind=0\/s.kind=2
 ·rw[if_pos k2]
  by_cases c1:0<s.elems.length\/(s.kind=2/\0<s.attrs.length)
  ·rw[if_pos c1]
   constructor
   ·intro h;omega
   ·rintro(⟨h,_⟩| ⟨_,h1,h2,_⟩)
    ·omega
    ·rcases c1 with c| ⟨c,d⟩
     ·rw[h1] at c;simp at c
     ·rw[h2 c] at d;simp at d
  rw[if_neg c1]
  by_cases c2:s.n<1\/2147483647<s.n
  ·rw[if_pos c2]
   constructor
   ·intro h;omega
   ·rintro(⟨h,_⟩| ⟨_,_,_,h1,h2,_⟩)<;>omega
  rw[if_neg c2,z05]
  constructor
  ·intro h
   exact .inr ⟨k2,len0.1 (by omega),fun h2=>len0.1 (by omega),by omega,by omega,h⟩
  ·rintro(⟨h,_⟩| ⟨_,_,_,_,_,h⟩)
   ·omega
   ·exact h
 ·rw[if_neg k2]
  constructor
  ·intro h;omega
  ·rintro(⟨h,_⟩| ⟨h,_⟩)
   ·omega
   ·exact absurd h k2
theorem z0Z{s:DStep}(h:stepD s=0):(s.kind=0\/s.kind=1\/s.kind=2)/\0<=s.n/\s.n<=2147483647/\1<=szD s/\szD s<=max 2147483647 s.elems.length:=by
 unfold szD
 rcases z0I.1 h with⟨k,n,a,e,_⟩| ⟨k,_,_,n1,n2,_⟩
 ·have:0<s.elems.length:=jd.2 e
  rw[if_pos k];omega
 ·rw[if_neg (by omega)];omega
def adjD(w x:DStep):Bool:=((w.kind==x.kind)&&((x.kind !=0)||sameL w.attrs x.attrs))|| ((w.kind==2)&&(x.kind==1))
theorem z5e{w x:DStep}:adjD w x=true↔(w.kind=x.kind/\(¬x.kind=0\/sameL w.attrs x.attrs=true))\/(w.kind=2/\x.kind=1):=by
 unfold adjD;simp
theorem z26{w x:DStep}(h:(¬w.kind=x.kind\/(x.kind=0/\sameL w.attrs x.attrs=false))/\(¬w.kind=2\/¬x.kind=1)):¬adjD w x=true:=by
 rw[z5e]
 rintro(⟨a,b⟩| ⟨a,b⟩)
 ·rcases h.1 with c| ⟨c,d⟩
  ·exact c a
  ·rcases b with b|b
   ·exact b c
   ·rw[d] at b;cases b
 ·rcases h.2 with c|c
  ·exact c a
  ·exact c b
def DN(n:Nat)(l:List DStep):Prop:=∀s∈l,s.elems.length<=n/\s.attrs.length<=n/\AN n s.elems
theorem DN.at_{n:Nat}{l:List DStep}(h:DN n l){k:Nat}(hk:k<l.length):(l.getD k default).elems.length<=n/\(l.getD k default).attrs.length<=n/\AN n (l.getD k default).elems:=by
 refine h _ ?_
 rw[show l.getD k default=l[k] by simp[List.getD,qa hk]]
 exact zo hk
def chkD(l:List DStep)(i:Nat)(b a:Int):Int:=
 if i<l.length then
  if stepD (l.getD i default)≠0 then stepD (l.getD i default)
  else if 0<i/\adjD (l.getD (i- 1) default) (l.getD i default)=true then 5
  else chkD l (i+1) (if(l.getD i default).kind≠1 then min (b+(l.getD i default).n) 2147483648 else b) (if(l.getD i default).kind≠2 then min (a+szD (l.getD i default)) 2147483648 else a)
 else if 2147483647<b\/2147483647<a then 3 else 0
termination_by l.length-i
def z0T(l:List DStep):Int:=chkD l 0 0 0
def oS(s:DStep):Int:=if s.kind=1 then 0 else s.n
def nS(s:DStep):Int:=if s.kind=2 then 0 else szD s
def oldD:List DStep->Int
 | []=>0
 |s::l=>oS s+oldD l
def newD:List DStep->Int
 | []=>0
 |s::l=>nS s+newD l
def DForm:List DStep->Prop
 | []=>True
 | [s]=>DOk s
 |s::t::l=>DOk s/\adjD s t=false/\DForm (t::l)
def z3w(l:List DStep)(i:Nat):Prop:=∀k,i<=k->k<l.length->DOk (l.getD k default)/\(0<k->adjD (l.getD (k- 1) default) (l.getD k default)=false)
theorem dropD{α:Type}[Inhabited α]{l:List α}{i:Nat}(h:i<l.length):l.drop i=l.getD i default::l.drop (i+1):=by
 rw[zk h];simp[List.getD,qa h]
theorem oS_nn{s:DStep}(h:DOk s):0<=oS s/\0<=nS s:=by
 have:=z0Z (z0I.2 h)
 unfold oS nS
 constructor<;>split<;>omega
theorem y05{l:List DStep}{i:Nat}(h:z3w l i):∀s∈l.drop i,DOk s:=by
 intro s hs
 obtain⟨k,hk,e⟩:=ze.1 hs
 rw[zi] at hk
 have:=(h (i+k) (by omega) (by omega)).1
 rw[List.getElem_drop] at e
 rw[<-e]
 simpa[List.getD,qa (show i+k<l.length by omega)] using this
theorem z7K:∀{l:List DStep},(∀s∈l,DOk s)->0<=oldD l/\0<=newD l
 | [],_=>⟨zy _,zy _⟩
 |s::l,h=>by
  have h1:=oS_nn (h s (by simp))
  have h2:=z7K (l:=l) (fun t ht=>h t (by simp[ht]))
  simp only[oldD,newD];omega
theorem y06(l:List DStep):∀(m i:Nat) (b a:Int),l.length-i=m->0<=b->0<=a->b<=2147483648->a<=2147483648->
 (chkD l i b a=0↔z3w l i/\b+oldD (l.drop i)<=2147483647/\a+newD (l.drop i)<=2147483647)
 |0,i,b,a,h,hb,ha,hb2,ha2=>by
  rw[chkD,if_neg (by omega),qP (by omega)]
  simp only[oldD,newD]
  split
  ·constructor
   ·intro h;omega
   ·rintro⟨_,h1,h2⟩;omega
  ·exact⟨fun _=>⟨fun k h1 h2=>by omega,by omega,by omega⟩,fun _=>rfl⟩
 |m+1,i,b,a,h,hb,ha,hb2,ha2=>by
  have hi:i<l.length:=by omega
  rw[chkD,if_pos hi]
  have step:z3w l i↔(DOk (l.getD i default)/\(0<i->adjD (l.getD (i- 1) default) (l.getD i default)=false))/\z3w l (i+1):=by
   constructor
   ·exact fun h=>⟨h i (qt _) hi,fun k h1 h2=>h k (by omega) h2⟩
   ·rintro⟨h1,h2⟩ k h3 h4
    by_cases e:k=i
    ·subst e;exact h1
    ·exact h2 k (by omega) h4
  rw[step,dropD hi]
  simp only[oldD,newD]
  have ih:=fun b' a'=>y06 l m (i+1) b' a' (by omega)
  have nn:=fun f:z3w l (i+1)=>z7K (y05 f)
  generalize l.getD i default=x at*
  generalize l.getD (i- 1) default=y at*
  by_cases c1:stepD x≠0
  ·rw[if_pos c1];constructor
   ·intro h;exact absurd h c1
   ·rintro⟨⟨⟨h,_⟩,_⟩,_⟩;exact absurd (z0I.2 h) c1
  rw[if_neg c1]
  have hs:=z0I.1 (by omega:stepD x=0)
  have hz:=z0Z (by omega:stepD x=0)
  by_cases c3:0<i/\adjD y x=true
  ·rw[if_pos c3];constructor
   ·intro h;omega
   ·rintro⟨⟨⟨_,h⟩,_⟩,_⟩
    have:=h c3.1
    rw[c3.2] at this;cases this
  rw[if_neg c3,ih _ _ (by split<;>omega) (by split<;>omega) (by split<;>omega) (by split<;>omega)]
  unfold oS nS
  constructor
  ·rintro⟨f,h1,h2⟩
   obtain⟨n0,n1⟩:=nn f
   refine⟨⟨⟨hs,fun h0=> ?_⟩,f⟩,?_,?_⟩
   ·cases e:adjD y x
    ·rfl
    ·exact absurd ⟨h0,e⟩ c3
   ·by_cases k1:x.kind=1
    ·rw[if_pos k1];rw[if_neg (by omega)] at h1;omega
    ·rw[if_neg k1];rw[if_pos k1] at h1;omega
   ·by_cases k1:x.kind=2
    ·rw[if_pos k1];rw[if_neg (by omega)] at h2;omega
    ·rw[if_neg k1];rw[if_pos k1] at h2;omega
  ·rintro⟨⟨_,f⟩,h1,h2⟩
   obtain⟨n0,n1⟩:=nn f
   refine⟨f,?_,?_⟩
   ·by_cases k1:x.kind=1
    ·rw[if_pos k1] at h1;rw[if_neg (by omega)];omega
    ·rw[if_neg k1] at h1;rw[if_pos k1];omega
   ·by_cases k1:x.kind=2
    ·rw[if_pos k1] at h2;rw[if_neg (by omega)];omega
    ·rw[if_neg k1] at h2;rw[if_pos k1];omega
theorem z51:∀{l:List DStep},z3w l 0->DForm l
 | [],_=>trivial
 | [s],h=>(h 0 (qt _) (by simp)).1
 |s::t::l,h=>by
  refine⟨(h 0 (qt _) (by simp)).1,(h 1 (by omega) (by simp)).2 (by omega),z51 (fun k h1 h2=> ?_)⟩
  have h2':k+1< (s::t::l).length:=by simp at h2|-;omega
  have:=h (k+1) (by omega) h2'
  simp only[List.getD_cons_succ] at this
  refine⟨this.1,fun h0=> ?_⟩
  have e:=this.2 (by omega)
  rw[show k+1- 1=(k- 1)+1 by omega,List.getD_cons_succ] at e
  exact e
theorem z2J:∀{l:List DStep},DForm l->z3w l 0
 | [],_=>fun k h1 h2=>by simp at h2
 | [s],h=>fun k h1 h2=>by
  have:k=0:=by simp at h2;omega
  subst this
  exact⟨h,fun h0=>by omega⟩
 |s::t::l,h=>fun k h1 h2=>by
  obtain⟨a,b,c⟩:=h
  rcases k with _|k
  ·exact⟨a,fun h0=>by omega⟩
  ·have:=z2J c k (qU _) (by simp at h2|-;omega)
   rw[List.getD_cons_succ]
   refine⟨this.1,fun _=> ?_⟩
   rcases k with _|k
   ·exact b
   ·rw[Nat.add_sub_cancel,List.getD_cons_succ]
    have e:=this.2 (by omega)
    rw[Nat.add_sub_cancel] at e
    exact e
def z0U(l:List DStep):Prop:=DForm l/\oldD l<=2147483647/\newD l<=2147483647
theorem z0Q{l:List DStep}:z0T l=0↔z0U l:=by
 unfold z0T z0U
 rw[y06 l _ 0 0 0 rfl (zy _) (zy _) (by decide) (by decide)]
 simp only[List.drop_zero,Int.zero_add]
 exact⟨fun h=>⟨z51 h.1,h.2⟩,fun h=>⟨z2J h.1,h.2⟩⟩
theorem DForm.all{l:List DStep}(h:DForm l):∀s∈l,DOk s:=by
 have:=y05 (z2J h)
 simpa using this
theorem z6M{l:List DStep}{i:Nat}(h:i<l.length)(hf:DForm l):oldD (l.drop i)=(if(l.getD i default).kind=1 then 0 else(l.getD i default).n)+oldD (l.drop (i+1))/\
 newD (l.drop i)=(if(l.getD i default).kind=2 then 0 else szD (l.getD i default))+newD (l.drop (i+1))/\DOk (l.getD i default)/\0<=oldD (l.drop (i+1))/\0<=newD (l.drop (i+1))/\0<=(l.getD i default).n/\1<=szD (l.getD i default)/\((l.getD i default).kind=0\/(l.getD i default).kind=1\/(l.getD i default).kind=2):=by
 have h1:=((z2J hf) i (qU _) h).1
 have h2:=z0Z (z0I.2 h1)
 have h3:=z7K (l:=l.drop (i+1)) (fun s hs=>hf.all s (qJ hs))
 rw[dropD h]
 exact⟨rfl,rfl,h1,h3.1,h3.2,h2.2.1,h2.2.2.2.1,h2.1⟩
theorem dend{l:List DStep}{i:Nat}(h:l.length<=i):oldD (l.drop i)=0/\newD (l.drop i)=0:=by rw[qP h];exact⟨rfl,rfl⟩
def adjR(w x:DStep):Prop:=if x.kind=1 then w.kind≠0 else if x.kind=2 then w.kind=2 else w.kind=0/\sameL w.attrs x.attrs=true
instance (w x:DStep):Decidable (adjR w x):=by unfold adjR;infer_instance
inductive DU where
 |K (c:List Attr)
 |A (e:Elem)
 |C
def exS(s:DStep):List DU:=if s.kind=1 then s.elems.map .A else if s.kind=2 then List.replicate s.n.toNat .C else List.replicate s.n.toNat (.K s.attrs)
def exD:List DStep->List DU
 | []=>[]
 |s::l=>exS s++exD l
theorem z3x(a b:List DStep):exD (a++b)=exD a++exD b:=by
 induction a with
 |nil=>rfl
 |cons s a ih=>simp[exD,ih]
def chgE(c:List Attr)(x:Elem):Elem:=⟨x.char,x.ref,fm rawG x.attrs c⟩
def z0i:List DU->List Elem->List Elem
 | [],_=>[]
 | .A e::u,l=>e::z0i u l
 | .K c::u,x::l=>chgE c x::z0i u l
 | .C::u,_::l=>z0i u l
 | .K _::u,[]=>z0i u []
 | .C::u,[]=>z0i u []
def oldN:List DU->Nat
 | []=>0
 | .A _::u=>oldN u
 |_::u=>oldN u+1
def newN:List DU->Nat
 | []=>0
 | .C::u=>newN u
 |_::u=>newN u+1
def UOk:List DU->Prop
 | []=>True
 | .K c::u=>VG true c/\UOk u
 |_::u=>UOk u
inductive DSw:List DU->List DU->Prop
 |refl (u:List DU):DSw u u
 |cons (x:DU) {u v:List DU} (h:DSw u v):DSw (x::u) (x::v)
 |swap (e:Elem) (u:List DU):DSw (.A e:: .C::u) (.C:: .A e::u)
 |symm {u v:List DU} (h:DSw u v):DSw v u
 |trans {u v w:List DU} (h:DSw u v) (k:DSw v w):DSw u w
theorem DSw.left(w:List DU){u v:List DU}(h:DSw u v):DSw (w++u) (w++v):=by
 induction w with
 |nil=>exact h
 |cons x w ih=>exact .cons x ih
theorem DSw.right(w:List DU){u v:List DU}(h:DSw u v):DSw (u++w) (v++w):=by
 induction h with
 |refl u=>exact .refl _
 |cons x _ ih=>exact .cons x ih
 |swap e u=>exact .swap e _
 |symm _ ih=>exact .symm ih
 |trans _ _ a b=>exact .trans a b
theorem y3Q{u v:List DU}(h:DSw u v):∀l,z0i u l=z0i v l:=by
 induction h with
 |refl u=>exact fun _=>rfl
 |cons x _ ih=>
  intro l
  cases x<;>cases l<;>simp[z0i,ih]
 |swap e u=>intro l;cases l<;>simp[z0i]
 |symm _ ih=>exact fun l=>(ih l).symm
 |trans _ _ a b=>exact fun l=>(a l).trans (b l)
theorem y07{u v:List DU}(h:DSw u v):oldN u=oldN v/\newN u=newN v:=by
 induction h with
 |refl u=>exact⟨rfl,rfl⟩
 |cons x _ ih=>cases x<;>simp[oldN,newN,ih.1,ih.2]
 |swap e u=>exact⟨rfl,rfl⟩
 |symm _ ih=>exact⟨ih.1.symm,ih.2.symm⟩
 |trans _ _ a b=>exact⟨a.1.trans b.1,a.2.trans b.2⟩
theorem y56(e:List Elem)(u:List DU):DSw (.C::(e.map .A++u)) (e.map .A++ .C::u):=by
 induction e with
 |nil=>exact .refl _
 |cons x e ih=>exact .trans (.symm (.swap x _)) (.cons _ ih)
theorem y3R(c:Nat)(e:List Elem)(u:List DU):DSw (List.replicate c .C++(e.map .A++u)) (e.map .A++(List.replicate c .C++u)):=by
 induction c with
 |zero=>exact .refl _
 |succ c ih=>exact .trans (.cons _ ih) (y56 e _)
theorem z8Q(e:List Elem)(u:List DU)(l:List Elem):z0i (e.map .A++u) l=e++z0i u l:=by
 induction e with
 |nil=>rfl
 |cons x e ih=>simp[z0i,ih]
theorem z27(n:Nat)(c:List Attr)(u:List DU):∀l:List Elem,z0i (List.replicate n (.K c)++u) l=(l.take n).map (chgE c)++z0i u (l.drop n):=by
 induction n with
 |zero=>intro l;simp
 |succ n ih=>
  intro l
  cases l with
  |nil=>have:=ih [];simpa[z0i,qE] using this
  |cons x l=>simp[z0i,qE,ih]
theorem y3S(n:Nat)(u:List DU):∀l:List Elem,z0i (List.replicate n .C++u) l=z0i u (l.drop n):=by
 induction n with
 |zero=>intro l;simp
 |succ n ih=>
  intro l
  cases l with
  |nil=>have:=ih [];simpa[z0i,qE] using this
  |cons x l=>simp[z0i,qE,ih]
def rawD(l:List Elem)(d:List DStep):List Elem:=z0i (exD d) l
theorem y87{d:List DStep}{i:Nat}(h:i<d.length)(l:List Elem):z0i (exD (d.drop i)) l=
 if(d.getD i default).kind=1 then(d.getD i default).elems++z0i (exD (d.drop (i+1))) l
 else if(d.getD i default).kind=2 then z0i (exD (d.drop (i+1))) (l.drop (d.getD i default).n.toNat)
 else(l.take (d.getD i default).n.toNat).map (chgE (d.getD i default).attrs)++z0i (exD (d.drop (i+1))) (l.drop (d.getD i default).n.toNat):=by
 rw[dropD h,exD]
 unfold exS
 split
 ·rw[z8Q]
 ·split
  ·rw[y3S]
  ·rw[z27]
structure EOp where
 kind:Int
 node:Int
 nw:Node
 attrs:List Attr
 steps:List DStep
 grid:GEd
 draw:List DOp
instance:Inhabited EOp:=⟨⟨0,0,default,[],[],default,[]⟩⟩
def eopT(o:EOp):Tree:= .agg [TI o.kind,TI o.node,TI o.nw.id,TI o.nw.kind,.lst 2 (o.nw.attrs.map attrT),.lst 3 (o.nw.flow.map elemT),TI o.nw.grid.rows,TI o.nw.grid.cols,.lst 5 (o.nw.grid.cells.map cellT),.lst 4 (o.nw.grid.merges.map rectT),.lst 8 (o.nw.draw.map dopT),
 .lst 2 (o.attrs.map attrT),.lst 4 (o.steps.map z0d),.lst 2 (o.grid.rows.map stepT),.lst 2 (o.grid.cols.map stepT),.lst 5 (o.grid.cells.map cellT),.lst 4 (o.grid.split.map rectT),.lst 4 (o.grid.merge.map rectT),.lst 8 (o.draw.map dopT)]
def z0G(n:Node):Bool:=((((n.id==0&&n.kind==0)&&sameL n.attrs [])&&((n.flow.length:Int)==0))&&zeroG n.grid)&&((n.draw.length:Int)==0)
def anyG(g:GEd):Bool:=decide ((g.rows.length:Int)+(g.cols.length:Int)+(g.cells.length:Int)+(g.split.length:Int)+(g.merge.length:Int)> 0)
def unuO(o:EOp):Bool:=
 (o.kind==0&&o.node !=0)|| (o.kind !=0&& !(z0G o.nw))|| (o.kind !=1&&decide ((o.attrs.length:Int)> 0))|| (o.kind !=2&&decide ((o.steps.length:Int)> 0))|| (o.kind !=3&&anyG o.grid)|| (o.kind !=4&&decide ((o.draw.length:Int)> 0))
def eopE(o:EOp):Int:=
 if o.kind<0\/4<o.kind then 8
 else if unuO o=true then 4
 else if o.kind=0 then nodeE o.nw
 else if o.node<1\/1073741824<o.node then 2
 else if o.kind=1 then chkA true o.attrs 0
 else if o.kind=2 then z0T o.steps
 else if o.kind=3 then edE o.grid
 else drawE o.draw 0
def eopsE(c:List EOp)(i:Nat):Int:=if i<c.length then(if eopE (c.getD i default)≠0 then eopE (c.getD i default) else eopsE c (i+1)) else 0
termination_by c.length-i
theorem y3T{c:List EOp}{i:Nat}(h:i<c.length)(he:eopE (c.getD i default)≠0):eopsE c i=eopE (c.getD i default):=by rw[eopsE,if_pos h,if_pos he]
theorem y2h{c:List EOp}{i:Nat}(h:i<c.length)(he:eopE (c.getD i default)=0):eopsE c i=eopsE c (i+1):=by rw[eopsE,if_pos h,if_neg (fun q=>q he)]
theorem y3U{c:List EOp}{i:Nat}(h:¬i<c.length):eopsE c i=0:=by rw[eopsE,if_neg h]
def z1A{α:Type}(f:α->Int):List α->Int
 | []=>0
 |x::l=>if f x≠0 then f x else z1A f l
theorem z2y{α:Type}[Inhabited α](f:α->Int){l:List α}{i:Nat}(h:i<l.length):z1A f (l.drop i)=if f (l.getD i default)≠0 then f (l.getD i default) else z1A f (l.drop (i+1)):=by
 rw[show l.drop i=l.getD i default::l.drop (i+1) from by rw[zk h];simp[List.getD,qa h]];rfl
theorem z4C{α:Type}(f:α->Int){l:List α}{i:Nat}(h:l.length<=i):z1A f (l.drop i)=0:=by rw[qP h];rfl
theorem z3y{α:Type}{f:α->Int}{l:List α}(h:z1A f l=0):∀x∈l,f x=0:=by
 induction l with
 |nil=>intro x hx;cases hx
 |cons y l ih=>
  rw[z1A] at h
  split at h
  ·rename_i q;exact absurd h q
  ·rename_i q
   intro x hx
   rcases qj.1 hx with rfl|hx
   ·exact qd q
   ·exact ih h x hx
theorem z6N{α:Type}{f:α->Int}{l:List α}(h:∀x∈l,f x=0):z1A f l=0:=by
 induction l with
 |nil=>rfl
 |cons y l ih=>rw[z1A,if_neg (fun q=>q (h y List.mem_cons_self))];exact ih (fun x hx=>h x (qB _ hx))
def newE(l:List Node)(k:Int)(x:Elem):Int:=if x.ref=0/\hasT k=false then 8 else refsE l k (refsF [x]) 0
def addsE(l:List Node)(k:Int)(s:List DStep):Int:=z1A (fun t:DStep=>z1A (newE l k) t.elems) s
def endsD(s:List DStep):Bool:=decide ((s.length:Int)> 0)&&((s.getD (s.length- 1) default).kind==0)
def z0V(l:List Node)(n:Node)(s:List DStep):Int:=
 if hasT n.kind=false/\hasL n.kind=false then 8
 else if oldD s≠(n.flow.length:Int) then 14
 else if hasT n.kind=true/\endsD s=false then 4
 else addsE l n.kind s
def newC(l:List Node)(k:Int)(c:Cell):Int:=if c.ref=0 then 0 else refsE l k [c.ref] 0
def z02(l:List Node)(n:Node)(g:GEd):Int:=
 if hasG n.kind=false then 8
 else if cellK n.kind g.cells 0≠0 then cellK n.kind g.cells 0
 else if fitsE n.grid g≠0 then fitsE n.grid g
 else z1A (newC l n.kind) g.cells
def insN(l:List Node)(n:Node):List Node:=l.take (lobN l n.id)++n::l.drop (lobN l n.id)
def adnE(l:List Node)(n:Node):Int:=if hasN l n.id=true then 6 else refsE l n.kind (refsN n) 0
def z6O(n:Node)(c:List DOp):Int:=if hasD n.kind=false then 8 else if(z0w n.draw c).isSome then 0 else 6
def oneE(l:List Node)(o:EOp):Int:=
 if o.kind=0 then adnE l o.nw
 else if hasN l o.node=false then 7
 else if o.kind=1 then 0
 else if o.kind=2 then z0V l (l.getD (lobN l o.node) default) o.steps
 else if o.kind=3 then z02 l (l.getD (lobN l o.node) default) o.grid
 else z6O (l.getD (lobN l o.node) default) o.draw
def oneN(n:Node)(o:EOp):Node:=
 if o.kind=1 then {n with attrs:=fm rawG n.attrs o.attrs}
 else if o.kind=2 then {n with flow:=rawD n.flow o.steps}
 else if o.kind=3 then {n with grid:=rawT n.grid o.grid}
 else {n with draw:=(z0w n.draw o.draw).getD []}
def oneL(l:List Node)(o:EOp):List Node:=
 if oneE l o≠0 then l else if o.kind=0 then insN l o.nw else l.set (lobN l o.node) (oneN (l.getD (lobN l o.node) default) o)
def runE:List Node->List EOp->Int
 |_,[]=>0
 |l,o::c=>if oneE l o≠0 then oneE l o else runE (oneL l o) c
def runL:List Node->List EOp->List Node
 |l,[]=>l
 |l,o::c=>runL (oneL l o) c
def appE(d:Doc)(c:List EOp):Int:=if docE d≠0 then docE d else if eopsE c 0≠0 then eopsE c 0 else runE d.nodes c
def appD(d:Doc)(c:List EOp):Doc:=if appE d c≠0 then⟨[]⟩ else⟨runL d.nodes c⟩
theorem z8R{c:List EOp}:∀(n i:Nat),c.length-i=n->(eopsE c i=0↔∀j,i<=j->j<c.length->eopE (c.getD j default)=0)
 |0,i,h=>by rw[eopsE,if_neg (by omega)];exact⟨fun _ j h1 h2=>by omega,fun _=>rfl⟩
 |n+1,i,h=>by
  have hi:i<c.length:=by omega
  rw[eopsE,if_pos hi]
  by_cases q:eopE (c.getD i default)≠0
  ·rw[if_pos q];exact⟨fun e=>absurd e q,fun e=>absurd (e i (qt _) hi) q⟩
  ·rw[if_neg q,z8R n (i+1) (by omega)]
   refine⟨fun e j h1 h2=> ?_,fun e j h1 h2=>e j (by omega) h2⟩
   by_cases z:j=i
   ·subst z;exact qd q
   ·exact e j (by omega) h2
theorem z7L{c:List EOp}:eopsE c 0=0↔∀o∈c,eopE o=0:=by
 rw[z8R _ 0 rfl]
 constructor
 ·intro h o ho
  obtain⟨j,hj,rfl⟩:∃j,j<c.length/\c.getD j default=o:=by
   obtain⟨j,hj,e⟩:=List.getElem_of_mem ho
   exact⟨j,hj,by simp[List.getD,hj,e]⟩
  exact h j (qU _) hj
 ·intro h j _ hj
  exact h _ (z0h hj)
def ixN(l:List Node)(k:Int):Int:=if hasN l k=true then(lobN l k:Int) else-1
theorem z9S{l:List Node}{k:Int}(h:hasN l k=true):ixN l k=(lobN l k:Int):=by unfold ixN;rw[if_pos h]
theorem y08{l:List Node}{k:Int}:0<=ixN l k↔hasN l k=true:=by
 unfold ixN;split
 ·rename_i h;exact⟨fun _=>h,fun _=>by omega⟩
 ·rename_i h;exact⟨fun q=>by omega,fun q=>absurd q h⟩
theorem y09{l:List Node}{k:Int}:ixN l k<0↔hasN l k=false:=by
 unfold ixN;split
 ·rename_i h;rw[h];exact⟨fun q=>by omega,fun q=>by cases q⟩
 ·rename_i h;exact⟨fun _=>by simpa using h,fun _=>by omega⟩
structure EopL(o:EOp):Prop where
 a:o.grid.rows.length<=1048576
 b:o.grid.cols.length<=1048576
 c:o.grid.cells.length<=1048576
 d:o.grid.split.length<=1048576
 e:o.grid.merge.length<=1048576
structure OpL(o:EOp):Prop where
 len:EopL o
 nb:NodeB o.nw
 nl:o.nw.grid.merges=[]/\NoTx o.nw.grid.cells
 at1:o.attrs.length<=1048576
 dn:DN 400000000000 o.steps
 gl:LiteE o.grid
 ga:∀c∈o.grid.cells,c.attrs.length<=1048576
 dr:o.draw.length<=1048576
structure DocL(d:Doc):Prop extends DocB d where
 lite:∀n∈d.nodes,n.grid.merges=[]/\NoTx n.grid.cells
def insR(l:List Node)(n:Node):List Node:=if adnE l n≠0 then l else insN l n
theorem ins_e{l:List Node}{n:Node}{k:Int}(h:adnE l n=k)(hk:k≠0):insR l n=l/\adnE l n=k:=by
 unfold insR;rw[h,if_pos hk];exact⟨rfl,rfl⟩
theorem ins_1{l:List Node}{n:Node}(h:hasN l n.id=true):insR l n=l/\adnE l n=6:=ins_e (by unfold adnE;rw[if_pos h]) (by decide)
theorem ins_f{l:List Node}{n:Node}(h:hasN l n.id=false):adnE l n=refsE l n.kind (refsN n) 0:=by unfold adnE;rw[if_neg (by rw[h];decide)]
theorem ins_2{l:List Node}{n:Node}(h:hasN l n.id=false)(h2:refsE l n.kind (refsN n) 0≠0):insR l n=l/\adnE l n=refsE l n.kind (refsN n) 0:=ins_e (ins_f h) h2
theorem ins_3{l:List Node}{n:Node}(h:hasN l n.id=false)(h2:refsE l n.kind (refsN n) 0=0)(h3:lobN l n.id=l.length):insR l n=l++[n]/\adnE l n=0:=by
 have e:=(ins_f h).trans h2
 unfold insR insN
 rw[e,if_neg (fun q=>q rfl),h3,List.take_length,List.drop_length]
 exact⟨rfl,rfl⟩
def z1l(l:List Node)(i:Nat)(s:List DStep):List Node:=
 if z0V l (l.getD i default) s≠0 then l else l.set i {(l.getD i default) with flow:=rawD (l.getD i default).flow s}
structure FlB(l:List Node)(i:Nat)(s:List DStep):Prop where
 len:l.length<=1048576
 sort:SortN l
 dn:DN 400000000000 s
 dv:z0U s
 an:AN 400000000000 (l.getD i default).flow
theorem z8S{l:List Node}{i:Nat}{s:List DStep}{k:Int}(h:z0V l (l.getD i default) s=k)(hk:k≠0):z1l l i s=l/\z0V l (l.getD i default) s=k:=by
 unfold z1l;rw[h,if_pos hk];exact⟨rfl,rfl⟩
theorem fl_ok{l:List Node}{i:Nat}{s:List DStep}(h:z0V l (l.getD i default) s=0):z1l l i s=l.set i {(l.getD i default) with flow:=rawD (l.getD i default).flow s}/\z0V l (l.getD i default) s=0:=by
 unfold z1l;rw[h,if_neg (fun q=>q rfl)];exact⟨rfl,rfl⟩
theorem fl_1{l:List Node}{n:Node}{s:List DStep}(h:hasT n.kind=false/\hasL n.kind=false):z0V l n s=8:=by unfold z0V;rw[if_pos h]
theorem y3V{a b:Bool}(h:a=true\/b=true):¬(a=false/\b=false):=by rintro⟨rfl,rfl⟩;rcases h with h|h<;>cases h
theorem fl_2{l:List Node}{n:Node}{s:List DStep}(h:hasT n.kind=true\/hasL n.kind=true)(h2:oldD s≠(n.flow.length:Int)):z0V l n s=14:=by unfold z0V;rw[if_neg (y3V h),if_pos h2]
theorem fl_3{l:List Node}{n:Node}{s:List DStep}(h:hasT n.kind=true\/hasL n.kind=true)(h2:oldD s=(n.flow.length:Int))(h3:hasT n.kind=true/\endsD s=false):z0V l n s=4:=by
 unfold z0V;rw[if_neg (y3V h),if_neg (fun q=>q h2),if_pos h3]
theorem fl_4{l:List Node}{n:Node}{s:List DStep}(h:hasT n.kind=true\/hasL n.kind=true)(h2:oldD s=(n.flow.length:Int))(h3:hasT n.kind=false\/endsD s=true):z0V l n s=addsE l n.kind s:=by
 unfold z0V;rw[if_neg (y3V h),if_neg (fun q=>q h2),if_neg]
 rintro⟨a,b⟩;rcases h3 with q|q
 ·rw[a] at q;cases q
 ·rw[b] at q;cases q
theorem y88{l:List Node}{k:Int}{x:Elem}(h:x.ref=0/\hasT k=false):newE l k x=8:=by unfold newE;rw[if_pos h]
theorem y61{l:List Node}{k:Int}{x:Elem}(h:x.ref≠0\/hasT k=true):newE l k x=refsE l k (refsF [x]) 0:=by
 unfold newE;rw[if_neg]
 rintro⟨a,b⟩;rcases h with q|q
 ·exact q a
 ·rw[b] at q;cases q
def z1w(l:List Node)(i:Nat)(g:GEd):List Node:=
 if z02 l (l.getD i default) g≠0 then l else l.set i {(l.getD i default) with grid:=rawT (l.getD i default).grid g}
structure GrB(l:List Node)(i:Nat)(g:GEd):Prop where
 len:l.length<=1048576
 sort:SortN l
 gl:LiteE g
 m:(l.getD i default).grid.merges=[]
 tx:NoTx (l.getD i default).grid.cells
 l1:(l.getD i default).grid.cells.length<=1048576
 l2:g.cells.length<=1048576
 a1:∀c∈(l.getD i default).grid.cells,c.attrs.length<=1048576
 a2:∀c∈g.cells,c.attrs.length<=1048576
 k:(l.getD i default).kind≠6
theorem y1a{l:List Node}{i:Nat}{s:GEd}{k:Int}(h:z02 l (l.getD i default) s=k)(hk:k≠0):z1w l i s=l/\z02 l (l.getD i default) s=k:=by
 unfold z1w;rw[h,if_pos hk];exact⟨rfl,rfl⟩
theorem gr_ok{l:List Node}{i:Nat}{s:GEd}(h:z02 l (l.getD i default) s=0):z1w l i s=l.set i {(l.getD i default) with grid:=rawT (l.getD i default).grid s}/\z02 l (l.getD i default) s=0:=by
 unfold z1w;rw[h,if_neg (fun q=>q rfl)];exact⟨rfl,rfl⟩
theorem gr_1{l:List Node}{n:Node}{g:GEd}(h:hasG n.kind=false):z02 l n g=8:=by unfold z02;rw[if_pos h]
theorem gr_2{l:List Node}{n:Node}{g:GEd}(h:hasG n.kind=true)(h2:cellK n.kind g.cells 0≠0):z02 l n g=cellK n.kind g.cells 0:=by unfold z02;rw[if_neg (by rw[h];decide),if_pos h2]
theorem gr_3{l:List Node}{n:Node}{g:GEd}(h:hasG n.kind=true)(h2:cellK n.kind g.cells 0=0)(h3:fitsE n.grid g≠0):z02 l n g=fitsE n.grid g:=by
 unfold z02;rw[if_neg (by rw[h];decide),if_neg (fun q=>q h2),if_pos h3]
theorem gr_4{l:List Node}{n:Node}{g:GEd}(h:hasG n.kind=true)(h2:cellK n.kind g.cells 0=0)(h3:fitsE n.grid g=0):z02 l n g=z1A (newC l n.kind) g.cells:=by
 unfold z02;rw[if_neg (by rw[h];decide),if_neg (fun q=>q h2),if_neg (fun q=>q h3)]
theorem y1b{l:List Node}{k:Int}{c:Cell}(h:c.ref≠0):newC l k c=refsE l k [c.ref] 0:=by unfold newC;rw[if_neg h]
theorem y62{l:List Node}{k:Int}{c:Cell}(h:c.ref=0):newC l k c=0:=by unfold newC;rw[if_pos h]
theorem y1c{α:Type}[Inhabited α](f:α->Int){l:List α}{i:Nat}(h:i<l.length)(h0:f (l.getD i default)=0):z1A f (l.drop i)=z1A f (l.drop (i+1)):=by rw[z2y f h,if_neg (fun q=>q h0)]
theorem y89{k:Int}(h:hasG k=true)(h6:k≠6)(h2:k≠2):False:=by
 unfold hasG at h;rw[qF,beq_iff_eq,beq_iff_eq] at h;omega
structure OneB(l:List Node)(o:EOp):Prop where
 len:l.length<=1048575
 sort:SortN l
 ok:eopE o=0
 op:OpL o
 all:∀n∈l,NodeB n/\(n.grid.merges=[]/\NoTx n.grid.cells)/\n.kind≠6
 last:o.kind=0->hasN l o.nw.id=false->lobN l o.nw.id=l.length
theorem OneB.base{l:List Node}{o:EOp}(h:OneB l o):l.length<=1048575/\l.length<=1048576/\SortN l:=⟨h.len,by have:=h.len;omega,h.sort⟩
theorem OneB.nw{l:List Node}{o:EOp}(h:OneB l o)(hk:o.kind=0):NodeB o.nw/\(hasN l o.nw.id=false->lobN l o.nw.id=l.length):=⟨h.op.nb,h.last hk⟩
theorem OneB.nd{l:List Node}{o:EOp}(h:OneB l o)(hh:hasN l o.node=true):(l.getD (lobN l o.node) default).attrs.length<=1048576/\o.attrs.length<=1048576:=
 ⟨(h.all _ (z0h (z06.1 hh).1)).1.at2,h.op.at1⟩
theorem OneB.fl{l:List Node}{o:EOp}(h:OneB l o)(hh:hasN l o.node=true)(hk:o.kind=2):FlB l (lobN l o.node) o.steps:=by
 have hn:=h.all _ (z0h (z06.1 hh).1)
 have he:=h.ok
 unfold eopE at he
 refine⟨h.base.2.1,h.sort,h.op.dn,z0Q.1 ?_,fun x hx=>by have:=hn.1.fl3 x hx;omega⟩
 split at he
 ·cases he
 ·split at he
  ·cases he
  ·have k0:¬o.kind=0:=by omega
   have k1:¬o.kind=1:=by omega
   rw[if_neg k0] at he
   split at he
   ·cases he
   ·first|exact he| (rw[if_neg k1,if_pos hk] at he;exact he)
theorem OneB.gr{l:List Node}{o:EOp}(h:OneB l o)(hh:hasN l o.node=true)(hk:o.kind=3):GrB l (lobN l o.node) o.grid:=by
 have hn:=h.all _ (z0h (z06.1 hh).1)
 exact⟨h.base.2.1,h.sort,h.op.gl,hn.2.1.1,hn.2.1.2,hn.1.ce2,h.op.len.c,hn.1.ce3,h.op.ga,hn.2.2⟩
theorem OneB.kd{l:List Node}{o:EOp}(h:OneB l o)(h0:o.kind≠0)(h1:o.kind≠1)(h2:o.kind≠2)(h3:o.kind≠3):o.kind=4:=by
 have he:=h.ok
 unfold eopE at he
 split at he
 ·cases he
 ·omega
theorem OneB.dr{l:List Node}{o:EOp}(h:OneB l o)(hh:hasN l o.node=true)(hk:o.kind=4):(l.getD (lobN l o.node) default).draw.length<=1048576/\o.draw.length<=1048576:=
 ⟨(h.all _ (z0h (z06.1 hh).1)).1.dr1,h.op.dr⟩
theorem one_0{l:List Node}{o:EOp}(h:o.kind=0):oneL l o=insR l o.nw/\oneE l o=adnE l o.nw:=by
 have e:oneE l o=adnE l o.nw:=by unfold oneE;rw[if_pos h]
 refine⟨?_,e⟩
 unfold oneL insR;rw[e,if_pos h]
theorem one_e{l:List Node}{o:EOp}{k:Int}(h:oneE l o=k)(hk:k≠0):oneL l o=l/\oneE l o=k:=by
 unfold oneL;rw[h,if_pos hk];exact⟨rfl,rfl⟩
theorem one_1{l:List Node}{o:EOp}(h:o.kind≠0)(h2:hasN l o.node=false):oneL l o=l/\oneE l o=7:=one_e (by unfold oneE;rw[if_neg h,if_pos h2]) (by decide)
theorem one_s{l:List Node}{o:EOp}(h:o.kind≠0)(h0:oneE l o=0):oneL l o=l.set (lobN l o.node) (oneN (l.getD (lobN l o.node) default) o):=by
 unfold oneL;rw[h0,if_neg (fun q=>q rfl),if_neg h]
theorem one_2{l:List Node}{o:EOp}(h:hasN l o.node=true)(hk:o.kind=1):oneL l o=l.set (lobN l o.node) {(l.getD (lobN l o.node) default) with attrs:=fm rawG (l.getD (lobN l o.node) default).attrs o.attrs}/\oneE l o=0:=by
 have e:oneE l o=0:=by unfold oneE;rw[if_neg (by omega),if_neg (by rw[h];decide),if_pos hk]
 refine⟨(one_s (by omega) e).trans ?_,e⟩
 unfold oneN;rw[if_pos hk]
theorem one_3{l:List Node}{o:EOp}(h:hasN l o.node=true)(hk:o.kind=2):oneL l o=z1l l (lobN l o.node) o.steps/\oneE l o=z0V l (l.getD (lobN l o.node) default) o.steps:=by
 have e:oneE l o=z0V l (l.getD (lobN l o.node) default) o.steps:=by unfold oneE;rw[if_neg (by omega),if_neg (by rw[h];decide),if_neg (by omega),if_pos hk]
 refine⟨?_,e⟩
 unfold oneL z1l oneN;rw[e,if_neg (show¬o.kind=0 by omega),if_neg (show¬o.kind=1 by omega),if_pos hk]
theorem one_4{l:List Node}{o:EOp}(h:hasN l o.node=true)(hk:o.kind=3):oneL l o=z1w l (lobN l o.node) o.grid/\oneE l o=z02 l (l.getD (lobN l o.node) default) o.grid:=by
 have e:oneE l o=z02 l (l.getD (lobN l o.node) default) o.grid:=by unfold oneE;rw[if_neg (by omega),if_neg (by rw[h];decide),if_neg (by omega),if_neg (by omega),if_pos hk]
 refine⟨?_,e⟩
 unfold oneL z1w oneN;rw[e,if_neg (show¬o.kind=0 by omega),if_neg (show¬o.kind=1 by omega),if_neg (show¬o.kind=2 by omega),if_pos hk]
theorem one_d{l:List Node}{o:EOp}(h:hasN l o.node=true)(hk:o.kind=4):oneE l o=z6O (l.getD (lobN l o.node) default) o.draw:=by
 unfold oneE;rw[if_neg (by omega),if_neg (by rw[h];decide),if_neg (by omega),if_neg (by omega),if_neg (by omega)]
theorem one_5{l:List Node}{o:EOp}(h:hasN l o.node=true)(hk:o.kind=4)(hd:hasD (l.getD (lobN l o.node) default).kind=false):oneL l o=l/\oneE l o=8:=
 one_e ((one_d h hk).trans (by unfold z6O;rw[if_pos hd])) (by decide)
theorem one_6{l:List Node}{o:EOp}(h:hasN l o.node=true)(hk:o.kind=4)(hd:hasD (l.getD (lobN l o.node) default).kind=true):
 ((if(z0w (l.getD (lobN l o.node) default).draw o.draw).isSome then(0:Int) else 6)=0->oneL l o=l.set (lobN l o.node) {(l.getD (lobN l o.node) default) with draw:=(z0w (l.getD (lobN l o.node) default).draw o.draw).getD []})/\
 ((if(z0w (l.getD (lobN l o.node) default).draw o.draw).isSome then(0:Int) else 6)≠0->oneL l o=l)/\oneE l o=(if(z0w (l.getD (lobN l o.node) default).draw o.draw).isSome then(0:Int) else 6):=by
 have e:oneE l o=(if(z0w (l.getD (lobN l o.node) default).draw o.draw).isSome then(0:Int) else 6):=(one_d h hk).trans (by unfold z6O;rw[if_neg (by rw[hd];decide)])
 refine⟨fun h0=>(one_s (by omega) (e.trans h0)).trans ?_,fun h0=>(one_e e h0).1,e⟩
 unfold oneN;rw[if_neg (show¬o.kind=1 by omega),if_neg (show¬o.kind=2 by omega),if_neg (show¬o.kind=3 by omega)]
def RunB:List Node->List EOp->Prop
 |_,[]=>True
 |l,o::c=>OneB l o/\(oneE l o=0->RunB (oneL l o) c)
structure AppB(d:Doc)(c:List EOp):Prop where
 doc:DocL d
 ops:∀o∈c,OpL o
 run:docE d=0->eopsE c 0=0->RunB d.nodes c
theorem app_e{d:Doc}{c:List EOp}{k:Int}(h:appE d c=k)(hk:k≠0):appD d c=⟨[]⟩/\appE d c=k:=by
 unfold appD;rw[h,if_pos hk];exact⟨rfl,rfl⟩
theorem app_1{d:Doc}{c:List EOp}(h:docE d≠0):appD d c=⟨[]⟩/\appE d c=docE d:=app_e (by unfold appE;rw[if_pos h]) h
theorem app_2{d:Doc}{c:List EOp}(h:docE d=0)(h2:eopsE c 0≠0):appD d c=⟨[]⟩/\appE d c=eopsE c 0:=app_e (by unfold appE;rw[if_neg (fun q=>q h),if_pos h2]) h2
theorem app_r{d:Doc}{c:List EOp}(h:docE d=0)(h2:eopsE c 0=0):appE d c=runE d.nodes c:=by unfold appE;rw[if_neg (fun q=>q h),if_neg (fun q=>q h2)]
theorem app_3{d:Doc}{c:List EOp}{k:Int}(h:docE d=0)(h2:eopsE c 0=0)(h3:runE d.nodes c=k)(hk:k≠0):appD d c=⟨[]⟩/\appE d c=k:=app_e ((app_r h h2).trans h3) hk
theorem app_4{d:Doc}{c:List EOp}{l:List Node}(h:docE d=0)(h2:eopsE c 0=0)(h3:runE d.nodes c=0)(h4:runL d.nodes c=l):appD d c=⟨l⟩/\appE d c=0:=by
 have e:=(app_r h h2).trans h3
 unfold appD;rw[e,if_neg (fun q=>q rfl),h4];exact⟨rfl,rfl⟩
theorem z52{d:Doc}(h:docE d=0):z1b d.nodes 0=0:=by
 unfold docE at h
 split at h
 ·cases h
 ·split at h
  ·rename_i q;exact absurd h q
  ·rename_i q;exact qd q
theorem z5f{d:Doc}(h:docE d=0):SortN d.nodes:=z9R (z52 h)
theorem y1d{d:Doc}(h:docE d=0):∀n∈d.nodes,nodeE n=0:=by
 intro n hn
 obtain⟨j,hj,rfl⟩:=z0D hn
 exact(z2x _ 0 rfl (z52 h)).1 j (qU _) hj
theorem y3W{d:Doc}(h:docE d=0):∀n∈d.nodes,1<=n.id/\n.id<=1073741824:=by
 intro n hn
 have:=y1d h n hn
 unfold nodeE at this
 split at this
 ·cases this
 ·omega
end Go.Ch
end
section
set_option maxRecDepth 100000
set_option maxHeartbeats 4000000
open Go Go.Proofs Go.Ab
namespace Go.Ch
theorem z8T(x:Grid):FC Tryz.prog 118 [.t (gridT x),.t (.agg [TI 0,TI 0,TN,TN])] (app emp []) (VB (zeroG x)) (app emp []):=by
 refine .go Tryz.f118 ?_
 have e1:((zeroG x):Bool)=((((x.rows==0)&&(x.cols==0))&&(((x.merges).length:Int)==0))&&(((x.cells).length:Int)==0)):=by
  unfold zeroG;rw[zh];simp only[qm];constructor<;>(rintro⟨⟨⟨a,b⟩,c⟩,d⟩;exact⟨⟨⟨a,b⟩,d⟩,c⟩)
 exact .finE [.r [],.r [(7,Xv 1 (x.rows==0) X0),(9,Xv 1 (x.rows==0) X0),(10,Xv 2 (x.rows==0) X0),(11,X (Xk (x.rows==0))),(14,Xv 1 ((x.rows==0)&&(x.cols==0)) X0),(16,Xv 1 ((x.rows==0)&&(x.cols==0)) X0),(17,Xv 2 ((x.rows==0)&&(x.cols==0)) (Xc0 (y7T x.merges) X0)),(18,X (Xk ((x.rows==0)&&(x.cols==0)))),(21,Xv 1 (((x.rows==0)&&(x.cols==0))&&(((x.merges).length:Int)==0)) X0),(23,Xv 1 (((x.rows==0)&&(x.cols==0))&&(((x.merges).length:Int)==0)) X0),(24,Xv 2 (((x.rows==0)&&(x.cols==0))&&(((x.merges).length:Int)==0)) (Xc0 (y7U x.cells) X0)),(25,X (Xk (((x.rows==0)&&(x.cols==0))&&(((x.merges).length:Int)==0))))]] [] (fun z0:Bool=>(VB z0,[])) _ _ e1
theorem z53(n:Node)(hm:n.grid.merges=[]/\NoTx n.grid.cells):FC Tryz.prog 72 [.t (nodeT n)] (app emp []) (VI (nodeE n)) (app emp []):=by
 refine .go Tryz.f72 ?_
 obtain⟨hm1,hm2⟩:=hm
 refine .bp [.r [],.r [(5,Xv 1 (!(decide (n.id<1))) X0),(6,Xv 1 (!(decide (n.id<1))) X0),(7,X (Xk' (decide (n.id<1))))]] (decide (n.id<1)||decide (n.id>1073741824)) (fun h1=> ?_) (fun h1=> ?_)
 ·
  have e1:((nodeE n):Int)=2:=by
   (try rw[z2I false n.attrs _ 0 rfl] at*)
   unfold nodeE
   (repeat' split)<;>first|rfl|omega| (exfalso;omega)| (simp_all;done)| (exfalso;simp_all;done)| (exfalso;simp_all;omega)|grind
  exact .finE [.r []] [] (fun z0:Int=>(VI z0,[])) _ _ e1
 ·
  refine .bp [.r [(5,Xv 1 (!(decide (n.kind<0))) X0),(6,Xv 1 (!(decide (n.kind<0))) X0),(7,X (Xk' (decide (n.kind<0)))),(10,Xv 1 (!(decide (n.kind<0)||decide (n.kind>=13))) X0),(11,Xv 1 (!(decide (n.kind<0)||decide (n.kind>=13))) X0),(13,Xv 1 (!(decide (n.kind<0)||decide (n.kind>=13))) X0),(14,Xv 1 (!(decide (n.kind<0)||decide (n.kind>=13))) X0),(15,Xv 2 (!(decide (n.kind<0)||decide (n.kind>=13))) X0),(16,X (Xk' (decide (n.kind<0)||decide (n.kind>=13))))]] ((decide (n.kind<0)||decide (n.kind>=13))|| !((n.id==1)==(n.kind==0))) (fun h3=> ?_) (fun h3=> ?_)
  ·
   have e2:((nodeE n):Int)=8:=by
    (try rw[z2I false n.attrs _ 0 rfl] at*)
    unfold nodeE
    (repeat' split)<;>first|rfl|omega| (exfalso;omega)| (simp_all;done)| (exfalso;simp_all;done)| (exfalso;simp_all;omega)|grind
   exact .finE [.r []] [] (fun z0:Int=>(VI z0,[])) _ _ e2
  ·
   refine .bp [.r [(2,X (Xc0 (z1Z n.attrs) X0))],.r []] ((chkA false n.attrs 0) !=0) (fun h6=> ?_) (fun h6=> ?_)
   ·
    have e3:((nodeE n):Int)=(chkA false n.attrs 0):=by
     (try rw[z2I false n.attrs _ 0 rfl] at*)
     unfold nodeE
     (repeat' split)<;>first|rfl|omega| (exfalso;omega)| (simp_all;done)| (exfalso;simp_all;done)| (exfalso;simp_all;omega)|grind
    exact .finE [.r []] [] (fun z0:Int=>(VI z0,[])) _ _ e3
   ·
    refine .bp [.r [(2,X (Xc0 (z5d n.kind) X0)),(5,Xv 1 (!(hasT n.kind)) X0),(6,Xv 1 (!(hasT n.kind)) (Xc0 (y00 n.kind) X0)),(7,X (Xk' (hasT n.kind))),(10,X (Xc0 (z7H n.kind) X0))],.r [(4,Xv 1 (!((hasT n.kind)|| (hasL n.kind))) X0),(5,Xv 1 (!((hasT n.kind)|| (hasL n.kind))) (Xl elemT n.flow)),(6,Xv 1 (!((hasT n.kind)|| (hasL n.kind))) X0),(7,X (Xk (!((hasT n.kind)|| (hasL n.kind))))),(10,Xv 1 (!(!((hasT n.kind)|| (hasL n.kind))&&decide ((n.flow.length:Int)> 0))) X0),(11,Xv 1 (!(!((hasT n.kind)|| (hasL n.kind))&&decide ((n.flow.length:Int)> 0))) X0),(13,Xv 1 ((!(!((hasT n.kind)|| (hasL n.kind))&&decide ((n.flow.length:Int)> 0)))&&(!(hasG n.kind))) X0),(15,Xv 2 ((!(!((hasT n.kind)|| (hasL n.kind))&&decide ((n.flow.length:Int)> 0)))&&(!(hasG n.kind))) (Xc0 (z8T n.grid) X0)),(16,Xv 1 ((!(!((hasT n.kind)|| (hasL n.kind))&&decide ((n.flow.length:Int)> 0)))&&(!(hasG n.kind))) X0),(17,Xka (!(!((hasT n.kind)|| (hasL n.kind))&&decide ((n.flow.length:Int)> 0))) (!(hasG n.kind))),(18,X (Xk' (!((hasT n.kind)|| (hasL n.kind))&&decide ((n.flow.length:Int)> 0)))),(21,Xv 1 (!((!((hasT n.kind)|| (hasL n.kind))&&decide ((n.flow.length:Int)> 0))|| (!(hasG n.kind)&& !(zeroG n.grid)))) X0),(22,Xv 1 (!((!((hasT n.kind)|| (hasL n.kind))&&decide ((n.flow.length:Int)> 0))|| (!(hasG n.kind)&& !(zeroG n.grid)))) (Xc0 (y01 n.kind) X0)),(23,Xv 1 (!((!((hasT n.kind)|| (hasL n.kind))&&decide ((n.flow.length:Int)> 0))|| (!(hasG n.kind)&& !(zeroG n.grid)))) X0),(24,Xv 1 (!((!((hasT n.kind)|| (hasL n.kind))&&decide ((n.flow.length:Int)> 0))|| (!(hasG n.kind)&& !(zeroG n.grid)))) X0),(26,Xv 1 ((!((!((hasT n.kind)|| (hasL n.kind))&&decide ((n.flow.length:Int)> 0))|| (!(hasG n.kind)&& !(zeroG n.grid))))&&(!(hasD n.kind))) X0),(27,Xv 1 ((!((!((hasT n.kind)|| (hasL n.kind))&&decide ((n.flow.length:Int)> 0))|| (!(hasG n.kind)&& !(zeroG n.grid))))&&(!(hasD n.kind))) (Xl dopT n.draw)),(28,Xv 1 ((!((!((hasT n.kind)|| (hasL n.kind))&&decide ((n.flow.length:Int)> 0))|| (!(hasG n.kind)&& !(zeroG n.grid))))&&(!(hasD n.kind))) X0),(29,Xka (!((!((hasT n.kind)|| (hasL n.kind))&&decide ((n.flow.length:Int)> 0))|| (!(hasG n.kind)&& !(zeroG n.grid)))) (!(hasD n.kind))),(30,X (Xk' ((!((hasT n.kind)|| (hasL n.kind))&&decide ((n.flow.length:Int)> 0))|| (!(hasG n.kind)&& !(zeroG n.grid)))))]] (((!((hasT n.kind)|| (hasL n.kind))&&decide ((n.flow.length:Int)> 0))|| (!(hasG n.kind)&& !(zeroG n.grid)))|| (!(hasD n.kind)&&decide ((n.draw.length:Int)> 0))) (fun h9=> ?_) (fun h9=> ?_)
    ·
     have e4:((nodeE n):Int)=4:=by
      (try rw[z2I false n.attrs _ 0 rfl] at*)
      unfold nodeE
      (repeat' split)<;>first|rfl|omega| (exfalso;omega)| (simp_all;done)| (exfalso;simp_all;done)| (exfalso;simp_all;omega)|grind
     exact .finE [.r []] [] (fun z0:Int=>(VI z0,[])) _ _ e4
    ·
     refine .bp [.r []] ((hasT n.kind)|| (hasL n.kind)) (fun h11=> ?_) (fun h11=> ?_)
     ·
      have e5:((nodeE n):Int)=(flowZ (hasT n.kind) n.flow):=by
       (try rw[z2I false n.attrs _ 0 rfl] at*)
       unfold nodeE
       (repeat' split)<;>first|rfl|omega| (exfalso;omega)| (simp_all;done)| (exfalso;simp_all;done)| (exfalso;simp_all;omega)|grind
      exact .finE [.r [(4,X (Xc0 (z5d n.kind) X0)),(5,X (Xc0 (z7I n.flow (hasT n.kind)) X0))]] [] (fun z0:Int=>(VI z0,[])) _ _ e5
     ·
      refine .bp [.r []] (hasG n.kind) (fun h13=> ?_) (fun h13=> ?_)
      ·
       refine .bp [.r [(2,X (Xc0 (z8J n.grid (by assumption) (by assumption)) X0))],.r []] ((gridE n.grid) !=0) (fun h15=> ?_) (fun h15=> ?_)
       ·
        have e6:((nodeE n):Int)=(gridE n.grid):=by
         (try rw[z2I false n.attrs _ 0 rfl] at*)
         unfold nodeE
         (repeat' split)<;>first|rfl|omega| (exfalso;omega)| (simp_all;done)| (exfalso;simp_all;done)| (exfalso;simp_all;omega)|grind
        exact .finE [.r []] [] (fun z0:Int=>(VI z0,[])) _ _ e6
       ·
        have e7:((nodeE n):Int)=(cellK n.kind n.grid.cells 0):=by
         (try rw[z2I false n.attrs _ 0 rfl] at*)
         unfold nodeE
         (repeat' split)<;>first|rfl|omega| (exfalso;omega)| (simp_all;done)| (exfalso;simp_all;done)| (exfalso;simp_all;omega)|grind
        exact .finE [.r [(5,X (Xc0 (z8P n.kind n.grid.cells) X0))]] [] (fun z0:Int=>(VI z0,[])) _ _ e7
      ·
       have e8:((nodeE n):Int)=(drawE n.draw 0):=by
        (try rw[z2I false n.attrs _ 0 rfl] at*)
        unfold nodeE
        (repeat' split)<;>first|rfl|omega| (exfalso;omega)| (simp_all;done)| (exfalso;simp_all;done)| (exfalso;simp_all;omega)|grind
       exact .finE [.r [(2,X (Xc0 (z8I n.draw) X0))]] [] (fun z0:Int=>(VI z0,[])) _ _ e8
theorem z3f(d:Doc)(hb:DocL d):FC Tryz.prog 34 [.t (docT d)] (app emp []) (VI (docE d)) (app emp []):=by
 refine .go Tryz.f34 ?_
 have hl:=hb.len
 refine .bp [.r [],.r [(2,X (Xl nodeT d.nodes))]] ((d.nodes.length:Int)==0) (fun h1=> ?_) (fun h1=> ?_)
 ·
  have e1:((docE d):Int)=11:=by
   exact z6L (by omega)
  exact .finE [.r []] [] (fun z0:Int=>(VI z0,[])) _ _ e1
 ·
  refine .loop (α:=Nat) [.r [(2,X (Xl nodeT d.nodes))]] 80 (fun i=>([(1,.ptr 0 0),(14,VL 9 nodeT d.nodes),(15,VI (d.nodes.length:Int)),(16,VI (i:Int))],[(0,.box [VL 9 nodeT d.nodes])])) (fun i=>i<=d.nodes.length/\z1b d.nodes 0=z1b d.nodes i) (fun i=>d.nodes.length-i) (0:Nat) ?_ ?_
  ·
   exact⟨by omega,rfl⟩
  rintro i I4 ih4
  try dsimp only at I4
  refine .bp [.r []] (decide ((i:Int)< (d.nodes.length:Int))) (fun h4=> ?_) (fun h4=> ?_)
  ·
   have hn:=hb.lite _ (z2v (l:=d.nodes) (i:=i) (by omega))
   refine .bp [.r [(1,X (Xi nodeT d.nodes (i:Int)))],.r [(1,X (Xc0 (z53 ((d.nodes.getD i default)) (by assumption)) X0))],.r []] ((nodeE ((d.nodes.getD i default))) !=0) (fun h7=> ?_) (fun h7=> ?_)
   ·
    have e2:((docE d):Int)=(nodeE ((d.nodes.getD i default))):=by
     exact z8M (by omega) (I4.2.trans (y2c (by omega) h7)) h7
    exact .finE [.r []] [] (fun z0:Int=>(VI z0,[])) _ _ e2
   ·
    refine .bp [.r [(4,Xv 1 ((i:Int)==0) X0),(5,Xv 1 ((i:Int)==0) X0),(6,X (Xk ((i:Int)==0))),(9,Xv 1 (!(((i:Int)==0)&&((((d.nodes.getD i default)).id) !=1))) X0),(10,Xv 1 (!(((i:Int)==0)&&((((d.nodes.getD i default)).id) !=1))) X0),(12,Xv 1 ((!(((i:Int)==0)&&((((d.nodes.getD i default)).id) !=1)))&&(decide ((i:Int)> 0))) X0),(14,Xv 1 ((!(((i:Int)==0)&&((((d.nodes.getD i default)).id) !=1)))&&(decide ((i:Int)> 0))) X0),(16,Xv 1 ((!(((i:Int)==0)&&((((d.nodes.getD i default)).id) !=1)))&&(decide ((i:Int)> 0))) (Xn ((i:Int)- 1))),(17,Xv 2 ((!(((i:Int)==0)&&((((d.nodes.getD i default)).id) !=1)))&&(decide ((i:Int)> 0))) (Xi' nodeT d.nodes ((i:Int)- 1) (i- 1))),(18,Xv 1 ((!(((i:Int)==0)&&((((d.nodes.getD i default)).id) !=1)))&&(decide ((i:Int)> 0))) X0),(19,Xv 1 ((!(((i:Int)==0)&&((((d.nodes.getD i default)).id) !=1)))&&(decide ((i:Int)> 0))) X0),(20,Xv 2 ((!(((i:Int)==0)&&((((d.nodes.getD i default)).id) !=1)))&&(decide ((i:Int)> 0))) X0),(21,Xka (!(((i:Int)==0)&&((((d.nodes.getD i default)).id) !=1))) (decide ((i:Int)> 0))),(22,X (Xk' (((i:Int)==0)&&((((d.nodes.getD i default)).id) !=1))))]] ((((i:Int)==0)&&((((d.nodes.getD i default)).id) !=1))|| (decide ((i:Int)> 0)&&decide ((((d.nodes.getD i default)).id)<=(((d.nodes.getD (i- 1) default)).id)))) (fun h9=> ?_) (fun h9=> ?_)
    ·
     have e3:((docE d):Int)=5:=by
      exact z8M (by omega) (I4.2.trans (y2d (by omega) h7 (by rcases h9 with q|q;(left;obtain⟨q1,q2⟩:=q;have q3:i=0:=(by omega);subst q3;exact⟨rfl,q2⟩);(right;omega)))) (by decide)
     exact .finE [.r []] [] (fun z0:Int=>(VI z0,[])) _ _ e3
    ·
     refine .back [.r [(0,X (Xn ((i:Int)+1)))]] [(0,0)] (ih4 ((i+1):Nat) ?_ ?_)
     ·
      exact⟨by omega,I4.2.trans (z9P (by omega) h7 (by rintro(⟨q1,q2⟩|q);(subst q1;rcases h9.1 with q|q;(exact q rfl);(exact q2 q));(rcases h9.2 with q3|q3<;>omega)))⟩
     ·
      ((try dsimp only);omega)
  ·
   refine .loop (α:=Nat) [.r [(2,X (Xl nodeT d.nodes))]] 120 (fun j=>([(1,.ptr 0 0),(51,VL 9 nodeT d.nodes),(52,VI (d.nodes.length:Int)),(53,VI (j:Int))],[(0,.box [VL 9 nodeT d.nodes])])) (fun j=>j<=d.nodes.length/\z0S d.nodes 0=z0S d.nodes j) (fun j=>d.nodes.length-j) (0:Nat) ?_ ?_
   ·
    exact⟨by omega,rfl⟩
   rintro j I13 ih13
   try dsimp only at I13
   refine .bp [.r []] (decide ((j:Int)< (d.nodes.length:Int))) (fun h13=> ?_) (fun h13=> ?_)
   ·
    have hn:=hb.all _ (z2v (l:=d.nodes) (i:=j) (by omega))
    have hs:=z9R (I4.2.trans (z4B (by omega)))
    refine .bp [.r [(0,X (Xi nodeT d.nodes (j:Int)))],.r [(4,X (Xc1 192 (z8O ((d.nodes.getD j default)) (by assumption)) X0)),(5,X (Xc0 (z35 d (((d.nodes.getD j default)).kind) (refsN ((d.nodes.getD j default))) (by assumption) (by assumption)) X0))],.r []] ((refsE (d).nodes (((d.nodes.getD j default)).kind) (refsN ((d.nodes.getD j default))) 0) !=0) (fun h16=> ?_) (fun h16=> ?_)
    ·
     have e4:((docE d):Int)=(refsE (d).nodes (((d.nodes.getD j default)).kind) (refsN ((d.nodes.getD j default))) 0):=by
      exact z8N (by omega) (I4.2.trans (z4B (by omega))) (I13.2.trans (y52 (by omega) h16))
     exact .finE [.r []] [] (fun z0:Int=>(VI z0,[])) _ _ e4
    ·
     refine .back [.r [(0,X (Xn ((j:Int)+1)))]] [(0,0)] (ih13 ((j+1):Nat) ?_ ?_)
     ·
      exact⟨by omega,I13.2.trans (y3N (by omega) h16)⟩
     ·
      ((try dsimp only);omega)
   ·
    have e5:((docE d):Int)=0:=by
     exact z8N (by omega) (I4.2.trans (z4B (by omega))) (I13.2.trans (y53 (by omega)))
    exact .finE [.r []] [] (fun z0:Int=>(VI z0,[])) _ _ e5
end Go.Ch
end
section
namespace Go.Ch
open Go Go.Ab
theorem z36{α:Type}[Inhabited α]{l:List α}{i n:Nat}{z x:α}(hn:n=l.length)(hi:i<n)(hx:x=l.getD i default):(l.take i++List.replicate (n-i) z).set i x=l.take (i+1)++List.replicate (n- (i+1)) z:=by
 subst hn
 have h1:(l.take i).length=i:=by simp;omega
 rw[List.set_append,if_neg (by omega),h1,Nat.sub_self,show l.length-i=(l.length- (i+1))+1 by omega,qE,List.set_cons_zero,qr hi,hx,qR]
 simp only[List.getD,qa hi,zz]
 rfl
theorem y57{α:Type}[Inhabited α]{l:List α}{i:Nat}{x:α}(hx:x=l.getD i default):l.set i x=l:=by
 subst hx
 by_cases h:i<l.length
 ·rw[qc,qa h];simp
 ·rw[List.set_eq_of_length_le (by omega)]
end Go.Ch
end
section
set_option maxRecDepth 100000
set_option maxHeartbeats 4000000
open Go Go.Proofs Go.Ab
namespace Go.Ch
theorem y58(l:List Elem)(hn:l.length<=1048576)(hs:∀x∈l,x.attrs.length<=1048576):FC Tryz.prog 55 [VL 3 elemT l] (app emp []) (VL 3 elemT l) (app emp []):=by
 refine .go Tryz.f55 ?_
 refine .len 0 (fun hl0=> ?_)
 refine .loop (α:=Nat×(List Elem)) [.r [],.r [(1,X (Xl elemT l)),(2,X (Xmz 3 elemT 24 (l.length:Int) (l.length:Int) ({char:=0,ref:=0,attrs:=[]}:Elem) [TI 0,TI 0,TN] ⟨.inl rfl,⟨.inl rfl,⟨z3S (by decide),trivial⟩⟩⟩))],.r [(1,X (Xl elemT l))]] 64 (fun(i,o)=>([(3,.row 24 l.length),(9,VL 3 elemT l),(10,VI (l.length:Int)),(11,VI (i:Int))],[(24,OR 3 elemT o)])) (fun(i,o)=>i<=l.length/\o=l.take i++List.replicate (l.length-i) ({char:=0,ref:=0,attrs:=[]}:Elem)) (fun(i,o)=>l.length-i) (0,(List.replicate l.length ({char:=0,ref:=0,attrs:=[]}:Elem))) ?_ ?_
 ·
  exact⟨by omega,by simp⟩
 rintro⟨i,o⟩ I3 ih3
 try dsimp only at I3
 have ol:o.length=l.length:=by rw[I3.2];simp;omega
 refine .bp [.r []] (decide ((i:Int)< (l.length:Int))) (fun h3=> ?_) (fun h3=> ?_)
 ·
  have hx:=hs _ (z11 (l:=l) (k:=i) (by omega))
  refine .back [.r [(1,X (Xi elemT l (i:Int)))],.r [(8,X (Xan attrT 184 (((l.getD i default)).attrs))),(10,X (Xpn l.length elemT o (i:Int))),(11,X (rowC attrT (((l.getD i default)).attrs) (Xsn l.length 3 elemT 24 o i ((l.getD i default)) [(184,OF 2 attrT (((l.getD i default)).attrs))])))],.r [(0,X (Xn ((i:Int)+1)))]] [(24,24)] (ih3 ((i+1),(o.set i ((l.getD i default)))) ?_ ?_)
  ·
   refine⟨by omega,?_⟩
   rw[I3.2]
   exact z36 rfl (by omega) rfl
  ·
   ((try dsimp only);omega)
 ·
  have e1:(l:List Elem)=o:=by
   rw[I3.2,qn (by omega),show l.length-i=0 by omega];simp
  exact .finE [.r [],.le (.fr 2 [(l.length:Nat)=(List.map elemT o).length] ⟨lm,trivial⟩)] [] (fun z0:List Elem=>(VL 3 elemT z0,[])) _ _ e1
theorem z7M(n:Node)(hb:NodeB n):FC Tryz.prog 25 [.t (nodeT n)] (app emp []) (.t (nodeT n)) (app emp []):=by
 refine .go Tryz.f25 ?_
 have b1:=hb.at2
 have b2:=hb.fl2
 have b3:=hb.fl3
 have b4:=hb.ce2
 have b5:=hb.me
 have b6:=hb.dr1
 refine .loop (α:=Nat×(List Cell)) [.r [],.r [(2,X (Xan attrT 32 n.attrs))],.r [(2,X (Xc1 72 (y58 n.flow (by assumption) (by assumption)) X0))],.r [(2,X (Xan dopT 112 n.draw))],.r [],.r [(2,X (Xan rectT 184 n.grid.merges))],.r [(2,X (Xan cellT 224 n.grid.cells))],.r []] 280 (fun(i,o)=>([(1,.ptr 0 0),(2,.ptr 8 0),(3,.ptr 152 0),(29,.row 224 o.length),(30,VI (n.grid.cells.length:Int)),(31,VI (i:Int))],[(0,.box [VI n.id,VI n.kind,.row 32 n.attrs.length,VL 3 elemT n.flow,VI n.grid.rows,VI n.grid.cols,VL 5 cellT n.grid.cells,VL 4 rectT n.grid.merges,.row 112 n.draw.length]),(8,.box [VI 0,VI 0,VN,VN,VI 0,VI 0,VN,VN,VN]),(32,OR 2 attrT n.attrs),(112,OR 8 dopT n.draw),(152,.box [VI n.grid.rows,VI n.grid.cols,.row 224 o.length,.row 184 n.grid.merges.length]),(184,OR 4 rectT n.grid.merges),(224,OR 5 cellT o)])) (fun(i,o)=>i<=n.grid.cells.length/\o=n.grid.cells) (fun(i,o)=>n.grid.cells.length-i) (0,n.grid.cells) ?_ ?_
 ·
  exact⟨by omega,rfl⟩
 rintro⟨i,o⟩ I8 ih8
 try dsimp only at I8
 have ol:o.length=n.grid.cells.length:=by rw[I8.2]
 refine .bp [.r []] (decide ((i:Int)< (n.grid.cells.length:Int))) (fun h8=> ?_) (fun h8=> ?_)
 ·
  have hc:=hb.ce3 (o.getD i default) (by rw[I8.2];exact z0h (by omega))
  refine .back [.r [(1,X (Xp cellT o (i:Int))),(2,X (Xe cellT o i))],.r [(5,X (Xan attrT 376 (((o.getD i default)).attrs))),(6,X (Xp cellT o (i:Int))),(8,X (rowC attrT (((o.getD i default)).attrs) (Xs 5 cellT 224 o i ((o.getD i default)) [(376,OF 2 attrT (((o.getD i default)).attrs))])))],.r [(0,X (Xn ((i:Int)+1)))],.le (.eq 29 (.row 224 o.length) (.row 224 ((o.set i ((o.getD i default))).length)) (.of_eq (by simp only[zp]))),.le (.eb 152 2 (.row 224 o.length) (.row 224 ((o.set i ((o.getD i default))).length)) (by simp only[zp]))] [(0,0),(8,8),(32,32),(112,112),(152,152),(184,184),(224,224)] (ih8 ((i+1),(o.set i ((o.getD i default)))) ?_ ?_)
  ·
   refine⟨by omega,?_⟩
   rw[I8.2];exact y57 rfl
  ·
   ((try dsimp only);omega)
 ·
  have e1:(n:Node)=({id:=n.id,kind:=n.kind,attrs:=n.attrs,flow:=n.flow,grid:=({rows:=n.grid.rows,cols:=n.grid.cols,cells:=o,merges:=n.grid.merges}:Grid),draw:=n.draw}:Node):=by
   rw[I8.2]
  exact .finVE [.r [],.r []] [.fR 0 [(n.attrs.length:Nat)=(List.map attrT n.attrs).length,(o.length:Nat)=(List.map cellT o).length,(n.grid.merges.length:Nat)=(List.map rectT n.grid.merges).length,(n.draw.length:Nat)=(List.map dopT n.draw).length] ⟨lm,lm,lm,lm,trivial⟩] [] (fun z0:Node=>(.t (nodeT z0),[])) _ _ e1
theorem y3X(d:Doc)(hb:DocB d):FC Tryz.prog 36 [.t (docT d)] (app emp []) (.agg [.row 1 d.nodes.length]) (app emp [(0,.box [.row 1 d.nodes.length]),(1,OR 9 nodeT d.nodes)]):=by
 refine .go Tryz.f36 ?_
 have hl:=hb.len
 refine .loop (α:=Nat×(List Node)) [.r [],.r [(2,X (Xl nodeT d.nodes)),(3,X (Xmz 9 nodeT 40 (d.nodes.length:Int) (d.nodes.length:Int) ({id:=0,kind:=0,attrs:=[],flow:=[],grid:=({rows:=0,cols:=0,cells:=[],merges:=[]}:Grid),draw:=[]}:Node) [TI 0,TI 0,TN,TN,TI 0,TI 0,TN,TN,TN] ⟨.inl rfl,⟨.inl rfl,⟨z3S (by decide),⟨z3S (by decide),⟨.inl rfl,⟨.inl rfl,⟨z3S (by decide),⟨z3S (by decide),⟨z3S (by decide),trivial⟩⟩⟩⟩⟩⟩⟩⟩⟩))],.r [(2,X (Xl nodeT d.nodes))],.le (.eb 56 0 (.row 40 d.nodes.length) (.row 40 ((List.replicate d.nodes.length ({id:=0,kind:=0,attrs:=[],flow:=[],grid:=({rows:=0,cols:=0,cells:=[],merges:=[]}:Grid),draw:=[]}:Node)).length)) (by simp only[zw]))] 104 (fun(i,o)=>([(2,.ptr 8 0),(3,.ptr 56 0),(12,VL 9 nodeT d.nodes),(13,VI (d.nodes.length:Int)),(14,VI (i:Int))],[(8,.box [VN]),(40,OR 9 nodeT o),(56,.box [.row 40 o.length])])) (fun(i,o)=>i<=d.nodes.length/\o=d.nodes.take i++List.replicate (d.nodes.length-i) ({id:=0,kind:=0,attrs:=[],flow:=[],grid:=({rows:=0,cols:=0,cells:=[],merges:=[]}:Grid),draw:=[]}:Node)) (fun(i,o)=>d.nodes.length-i) (0,(List.replicate d.nodes.length ({id:=0,kind:=0,attrs:=[],flow:=[],grid:=({rows:=0,cols:=0,cells:=[],merges:=[]}:Grid),draw:=[]}:Node))) ?_ ?_
 ·
  exact⟨by omega,by simp⟩
 rintro⟨i,o⟩ I3 ih3
 try dsimp only at I3
 have ol:o.length=d.nodes.length:=by rw[I3.2];simp;omega
 refine .bp [.r []] (decide ((i:Int)< (d.nodes.length:Int))) (fun h3=> ?_) (fun h3=> ?_)
 ·
  have hx:=hb.all _ (z2v (l:=d.nodes) (i:=i) (by omega))
  refine .back [.r [(1,X (Xi nodeT d.nodes (i:Int)))],.r [(4,X (Xc1 192 (z7M ((d.nodes.getD i default)) (by assumption)) X0)),(5,X (Xp nodeT o (i:Int))),(6,X (Xs 9 nodeT 40 o i (((d.nodes.getD i default)))))],.r [(0,X (Xn ((i:Int)+1)))],.le (.eb 56 0 (.row 40 o.length) (.row 40 ((o.set i (((d.nodes.getD i default)))).length)) (by simp only[zp]))] [(8,8),(40,40),(56,56)] (ih3 ((i+1),(o.set i (((d.nodes.getD i default))))) ?_ ?_)
  ·
   refine⟨by omega,?_⟩
   rw[I3.2]
   exact z36 rfl (by omega) rfl
  ·
   ((try dsimp only);omega)
 ·
  have e1:(d.nodes.length:Nat)=o.length:=by
   first|omega| (rw[I3.2,qn (by omega),show d.nodes.length-i=0 by omega];simp)
  have e2:(d.nodes:List Node)=o:=by
   first|omega| (rw[I3.2,qn (by omega),show d.nodes.length-i=0 by omega];simp)
  exact .finE [.r []] [(8,0),(40,1)] (fun((z0,z1):Nat×(List Node))=>(.agg [.row 1 z0],[(0,.box [.row 1 z0]),(1,OR 9 nodeT z1)])) _ _ (pr e1 e2)
end Go.Ch
end
section
namespace Go.Ch
open Go Go.Ab
def z0c(x lo hi:Int):Int:=lo+((x.tmod (hi-lo+1))+(hi-lo+1)).tmod (hi-lo+1)
theorem y3Y(x:Int){n:Int}(hn:0<n): -n<x.tmod n/\x.tmod n<n:=by
 have h1:=Int.tmod_lt_of_pos x hn
 have h2: -n<x.tmod n:=by
  rcases Int.le_total 0 x with h|h
  ·have:=Int.tmod_nonneg n h;omega
  ·have h3:=Int.tmod_lt_of_pos (-x) hn
   rw[Int.neg_tmod] at h3;omega
 exact⟨h2,h1⟩
theorem z0m(x:Int){lo hi:Int}(h:lo<=hi):lo<=z0c x lo hi/\z0c x lo hi<=hi:=by
 unfold z0c
 have h1:=y3Y x (n:=hi-lo+1) (by omega)
 have h2:=Int.tmod_nonneg (hi-lo+1) (a:=(x.tmod (hi-lo+1))+(hi-lo+1)) (by omega)
 have h3:=Int.tmod_lt_of_pos ((x.tmod (hi-lo+1))+(hi-lo+1)) (b:=hi-lo+1) (by omega)
 omega
end Go.Ch
end
section
set_option maxRecDepth 100000
set_option maxHeartbeats 4000000
open Go Go.Proofs Go.Ab
namespace Go.Ch


theorem y3Z(l:List Elem)(hn:l.length<=1000000000000)(hs:AN 400000000000 l):FC Tryz.prog 55 [VL 3 elemT l] (app emp []) (VL 3 elemT l) (app emp []):=by
 refine .go Tryz.f55 ?_
 refine .len 0 (fun hl0=> ?_)
 refine .loop (α:=Nat×(List Elem)) [.r [],.r [(1,X (Xl elemT l)),(2,X (Xmz 3 elemT 24 (l.length:Int) (l.length:Int) ({char:=0,ref:=0,attrs:=[]}:Elem) [TI 0,TI 0,TN] ⟨.inl rfl,⟨.inl rfl,⟨z3S (by decide),trivial⟩⟩⟩))],.r [(1,X (Xl elemT l))]] 64 (fun(i,o)=>([(3,.row 24 l.length),(9,VL 3 elemT l),(10,VI (l.length:Int)),(11,VI (i:Int))],[(24,OR 3 elemT o)])) (fun(i,o)=>i<=l.length/\o=l.take i++List.replicate (l.length-i) ({char:=0,ref:=0,attrs:=[]}:Elem)) (fun(i,o)=>l.length-i) (0,(List.replicate l.length ({char:=0,ref:=0,attrs:=[]}:Elem))) ?_ ?_
 ·
  exact⟨by omega,by simp⟩
 rintro⟨i,o⟩ I3 ih3
 try dsimp only at I3
 have ol:o.length=l.length:=by rw[I3.2];simp;omega
 refine .bp [.r []] (decide ((i:Int)< (l.length:Int))) (fun h3=> ?_) (fun h3=> ?_)
 ·
  have hx:=hs _ (z11 (l:=l) (k:=i) (by omega))
  refine .back [.r [(1,X (Xi elemT l (i:Int)))],.r [(8,X (Xan attrT 184 (((l.getD i default)).attrs))),(10,X (Xpn l.length elemT o (i:Int))),(11,X (rowC attrT (((l.getD i default)).attrs) (Xsn l.length 3 elemT 24 o i ((l.getD i default)) [(184,OF 2 attrT (((l.getD i default)).attrs))])))],.r [(0,X (Xn ((i:Int)+1)))]] [(24,24)] (ih3 ((i+1),(o.set i ((l.getD i default)))) ?_ ?_)
  ·
   refine⟨by omega,?_⟩
   rw[I3.2]
   exact z36 rfl (by omega) rfl
  ·
   ((try dsimp only);omega)
 ·
  have e1:(l:List Elem)=o:=by
   rw[I3.2,qn (by omega),show l.length-i=0 by omega];simp
  exact .finE [.r [],.le (.fr 2 [(l.length:Nat)=(List.map elemT o).length] ⟨lm,trivial⟩)] [] (fun z0:List Elem=>(VL 3 elemT z0,[])) _ _ e1
theorem y59{l:List Elem}{i:Nat}{z:Elem}{f:Elem->Elem}(hi:i<l.length){y:Elem}(hy:y=f (l.getD i default)):((l.take i).map f++List.replicate (l.length-i) z).set i y=(l.take (i+1)).map f++List.replicate (l.length- (i+1)) z:=by
 have h1:((l.take i).map f).length=i:=by simp;omega
 rw[List.set_append,if_neg (by omega),h1,Nat.sub_self,show l.length-i=(l.length- (i+1))+1 by omega,qE,List.set_cons_zero,qr hi,hy,qX,qR]
 simp only[List.getD,qa hi,zz]
 rfl
theorem z6P(l:List Elem)(c:List Attr)(hn:l.length<=1000000000000)(hs:∀x∈l,x.attrs.length+c.length<1099511627776):FC Tryz.prog 115 [VL 3 elemT l,VL 2 attrT c] (app emp []) (VL 3 elemT (List.map (chgE c) l)) (app emp []):=by
 refine .go Tryz.f115 ?_
 refine .len 0 (fun hl0=> ?_)
 refine .len 1 (fun hl1=> ?_)
 refine .loop (α:=Nat×(List Elem)) [.r [],.r [(1,X (Xl elemT l)),(2,X (Xmz 3 elemT 24 (l.length:Int) (l.length:Int) ({char:=0,ref:=0,attrs:=[]}:Elem) [TI 0,TI 0,TN] ⟨.inl rfl,⟨.inl rfl,⟨z3S (by decide),trivial⟩⟩⟩))],.r [(1,X (Xl elemT l))]] 64 (fun(i,o)=>([(1,VL 2 attrT c),(5,.row 24 l.length),(11,VL 3 elemT l),(12,VI (l.length:Int)),(13,VI (i:Int))],[(24,OR 3 elemT o)])) (fun(i,o)=>i<=l.length/\o=(l.take i).map (chgE c)++List.replicate (l.length-i) ({char:=0,ref:=0,attrs:=[]}:Elem)) (fun(i,o)=>l.length-i) (0,(List.replicate l.length ({char:=0,ref:=0,attrs:=[]}:Elem))) ?_ ?_
 ·
  exact⟨by omega,by simp⟩
 rintro⟨i,o⟩ I3 ih3
 try dsimp only at I3
 have ol:o.length=l.length:=by rw[I3.2];simp;omega
 refine .bp [.r []] (decide ((i:Int)< (l.length:Int))) (fun h3=> ?_) (fun h3=> ?_)
 ·
  have hx:=hs _ (z11 (l:=l) (k:=i) (by omega))
  refine .back [.r [(1,X (Xi elemT l (i:Int)))],.r [(3,X (Xc1 144 (z5U (((l.getD i default)).attrs) c (by omega)) X0))],.r [(3,X (Xpn l.length elemT o (i:Int))),(4,X (Xsn l.length 3 elemT 24 o i ({char:=((l.getD i default)).char,ref:=((l.getD i default)).ref,attrs:=(fm rawG (((l.getD i default)).attrs) c)}:Elem)))],.r [(0,X (Xn ((i:Int)+1)))]] [(24,24)] (ih3 ((i+1),(o.set i ({char:=((l.getD i default)).char,ref:=((l.getD i default)).ref,attrs:=(fm rawG (((l.getD i default)).attrs) c)}:Elem))) ?_ ?_)
  ·
   refine⟨by omega,?_⟩
   rw[I3.2]
   exact y59 (by omega) rfl
  ·
   ((try dsimp only);omega)
 ·
  have e1:((List.map (chgE c) l):List Elem)=o:=by
   rw[I3.2,qn (by omega),show l.length-i=0 by omega];simp
  exact .finE [.r [],.le (.fr 4 [(l.length:Nat)=(List.map elemT o).length] ⟨lm,trivial⟩)] [] (fun z0:List Elem=>(VL 3 elemT z0,[])) _ _ e1
def ltr(s:ByteArray)(i:Nat):Elem:=⟨(byt s i:Int),0,[]⟩
def z37(s:ByteArray):List Elem:=(List.range s.size).map (ltr s)
theorem y30(x:DStep):FC Tryz.prog 138 [.t (z0d x)] (app emp []) (VI (stepD x)) (app emp []):=by
 refine .go Tryz.f138 ?_
 refine .bp [.r [],.r [],.r []] (x.kind==0) (fun h2=> ?_) (fun h2=> ?_)
 ·
  refine .bp [] (x.kind==0) (fun h2=> ?_) (fun h2=> ?_)
  ·
   refine .bp [.r [(2,X (Xl elemT x.elems)),(6,Xv 1 (!(decide ((x.elems.length:Int)> 0))) X0),(7,Xv 1 (!(decide ((x.elems.length:Int)> 0))) X0),(8,Xv 1 (!(decide ((x.elems.length:Int)> 0))) X0),(10,Xv 1 ((!(decide ((x.elems.length:Int)> 0)))&&(x.kind==2)) X0),(11,Xv 1 ((!(decide ((x.elems.length:Int)> 0)))&&(x.kind==2)) (Xl attrT x.attrs)),(12,Xv 1 ((!(decide ((x.elems.length:Int)> 0)))&&(x.kind==2)) X0),(13,Xka (!(decide ((x.elems.length:Int)> 0))) (x.kind==2)),(14,X (Xk' (decide ((x.elems.length:Int)> 0))))]] (decide ((x.elems.length:Int)> 0)|| ((x.kind==2)&&decide ((x.attrs.length:Int)> 0))) (fun h4=> ?_) (fun h4=> ?_)
   ·
    have e1:((stepD x):Int)=4:=by
     unfold stepD;((repeat' split)<;>first|rfl|omega| (simp_all;done)| (simp_all;omega))
    exact .finE [.r []] [] (fun z0:Int=>(VI z0,[])) _ _ e1
   ·
    refine .bp [.r [(5,Xv 1 (!(decide (x.n<1))) X0),(6,Xv 1 (!(decide (x.n<1))) X0),(7,X (Xk' (decide (x.n<1))))]] (decide (x.n<1)||decide (x.n>2147483647)) (fun h6=> ?_) (fun h6=> ?_)
    ·
     have e2:((stepD x):Int)=2:=by
      unfold stepD;((repeat' split)<;>first|rfl|omega| (simp_all;done)| (simp_all;omega))
     exact .finE [.r []] [] (fun z0:Int=>(VI z0,[])) _ _ e2
    ·
     have e3:((stepD x):Int)=(chkA true x.attrs 0):=by
      unfold stepD;((repeat' split)<;>first|rfl|omega| (simp_all;done)| (simp_all;omega))
     exact .finE [.r [(2,X (Xc0 (z01 x.attrs) X0))]] [] (fun z0:Int=>(VI z0,[])) _ _ e3
  ·
   refine .bp [.r []] (x.kind==1) (fun h9=> ?_) (fun h9=> ?_)
   ·
    refine .bp [.r [(5,Xv 1 (!(x.n !=0)) X0),(6,Xv 1 (!(x.n !=0)) (Xl attrT x.attrs)),(7,Xv 1 (!(x.n !=0)) X0),(8,X (Xk' (x.n !=0)))]] ((x.n !=0)||decide ((x.attrs.length:Int)> 0)) (fun h10=> ?_) (fun h10=> ?_)
    ·
     have e4:((stepD x):Int)=4:=by
      unfold stepD;((repeat' split)<;>first|rfl|omega| (simp_all;done)| (simp_all;omega))
     exact .finE [.r []] [] (fun z0:Int=>(VI z0,[])) _ _ e4
    ·
     refine .bp [.r [(2,X (Xl elemT x.elems))]] ((x.elems.length:Int)==0) (fun h12=> ?_) (fun h12=> ?_)
     ·
      have e5:((stepD x):Int)=11:=by
       unfold stepD;((repeat' split)<;>first|rfl|omega| (simp_all;done)| (simp_all;omega))
      exact .finE [.r []] [] (fun z0:Int=>(VI z0,[])) _ _ e5
     ·
      have e6:((stepD x):Int)=(partE x.elems 0):=by
       unfold stepD;((repeat' split)<;>first|rfl|omega| (simp_all;done)| (simp_all;omega))
      exact .finE [.r [(2,X (Xc0 (z4W x.elems) X0))]] [] (fun z0:Int=>(VI z0,[])) _ _ e6
   ·
    have e7:((stepD x):Int)=8:=by
     unfold stepD;((repeat' split)<;>first|rfl|omega| (simp_all;done)| (simp_all;omega))
    exact .finE [.r []] [] (fun z0:Int=>(VI z0,[])) _ _ e7
 ·
  refine .bp [.r []] (x.kind==2) (fun h3=> ?_) (fun h3=> ?_)
  ·
   refine .bp [.r [(2,X (Xl elemT x.elems)),(6,Xv 1 (!(decide ((x.elems.length:Int)> 0))) X0),(7,Xv 1 (!(decide ((x.elems.length:Int)> 0))) X0),(8,Xv 1 (!(decide ((x.elems.length:Int)> 0))) X0),(10,Xv 1 ((!(decide ((x.elems.length:Int)> 0)))&&(x.kind==2)) X0),(11,Xv 1 ((!(decide ((x.elems.length:Int)> 0)))&&(x.kind==2)) (Xl attrT x.attrs)),(12,Xv 1 ((!(decide ((x.elems.length:Int)> 0)))&&(x.kind==2)) X0),(13,Xka (!(decide ((x.elems.length:Int)> 0))) (x.kind==2)),(14,X (Xk' (decide ((x.elems.length:Int)> 0))))]] (decide ((x.elems.length:Int)> 0)|| ((x.kind==2)&&decide ((x.attrs.length:Int)> 0))) (fun h4=> ?_) (fun h4=> ?_)
   ·
    have e8:((stepD x):Int)=4:=by
     unfold stepD;((repeat' split)<;>first|rfl|omega| (simp_all;done)| (simp_all;omega))
    exact .finE [.r []] [] (fun z0:Int=>(VI z0,[])) _ _ e8
   ·
    refine .bp [.r [(5,Xv 1 (!(decide (x.n<1))) X0),(6,Xv 1 (!(decide (x.n<1))) X0),(7,X (Xk' (decide (x.n<1))))]] (decide (x.n<1)||decide (x.n>2147483647)) (fun h6=> ?_) (fun h6=> ?_)
    ·
     have e9:((stepD x):Int)=2:=by
      unfold stepD;((repeat' split)<;>first|rfl|omega| (simp_all;done)| (simp_all;omega))
     exact .finE [.r []] [] (fun z0:Int=>(VI z0,[])) _ _ e9
    ·
     have e10:((stepD x):Int)=(chkA true x.attrs 0):=by
      unfold stepD;((repeat' split)<;>first|rfl|omega| (simp_all;done)| (simp_all;omega))
     exact .finE [.r [(2,X (Xc0 (z01 x.attrs) X0))]] [] (fun z0:Int=>(VI z0,[])) _ _ e10
  ·
   refine .bp [.r []] (x.kind==1) (fun h9=> ?_) (fun h9=> ?_)
   ·
    refine .bp [.r [(5,Xv 1 (!(x.n !=0)) X0),(6,Xv 1 (!(x.n !=0)) (Xl attrT x.attrs)),(7,Xv 1 (!(x.n !=0)) X0),(8,X (Xk' (x.n !=0)))]] ((x.n !=0)||decide ((x.attrs.length:Int)> 0)) (fun h10=> ?_) (fun h10=> ?_)
    ·
     have e11:((stepD x):Int)=4:=by
      unfold stepD;((repeat' split)<;>first|rfl|omega| (simp_all;done)| (simp_all;omega))
     exact .finE [.r []] [] (fun z0:Int=>(VI z0,[])) _ _ e11
    ·
     refine .bp [.r [(2,X (Xl elemT x.elems))]] ((x.elems.length:Int)==0) (fun h12=> ?_) (fun h12=> ?_)
     ·
      have e12:((stepD x):Int)=11:=by
       unfold stepD;((repeat' split)<;>first|rfl|omega| (simp_all;done)| (simp_all;omega))
      exact .finE [.r []] [] (fun z0:Int=>(VI z0,[])) _ _ e12
     ·
      have e13:((stepD x):Int)=(partE x.elems 0):=by
       unfold stepD;((repeat' split)<;>first|rfl|omega| (simp_all;done)| (simp_all;omega))
      exact .finE [.r [(2,X (Xc0 (z4W x.elems) X0))]] [] (fun z0:Int=>(VI z0,[])) _ _ e13
   ·
    have e14:((stepD x):Int)=8:=by
     unfold stepD;((repeat' split)<;>first|rfl|omega| (simp_all;done)| (simp_all;omega))
    exact .finE [.r []] [] (fun z0:Int=>(VI z0,[])) _ _ e14
theorem z2K(x:DStep):FC Tryz.prog 85 [.t (z0d x)] (app emp []) (VI (szD x)) (app emp []):=by
 refine .go Tryz.f85 ?_
 refine .bp [.r [],.r []] (x.kind==1) (fun h1=> ?_) (fun h1=> ?_)
 ·
  have e1:((szD x):Int)=(x.elems.length:Int):=by
   unfold szD;((repeat' split)<;>first|rfl|omega| (simp_all;done)| (simp_all;omega))
  exact .finE [.r [(2,X (Xl elemT x.elems))]] [] (fun z0:Int=>(VI z0,[])) _ _ e1
 ·
  have e2:((szD x):Int)=x.n:=by
   unfold szD;((repeat' split)<;>first|rfl|omega| (simp_all;done)| (simp_all;omega))
  exact .finE [.r []] [] (fun z0:Int=>(VI z0,[])) _ _ e2
theorem z1H(l:List DStep)(hd:DN 400000000000 l):FC Tryz.prog 84 [VL 4 z0d l] (app emp []) (VI (z0T l)) (app emp []):=by
 refine .go Tryz.f84 ?_
 refine .len 0 (fun hl0=> ?_)
 refine .loop (α:=Int×Int×Nat) [.r [],.r [],.r [(1,X (Xl z0d l))]] 48 (fun(b,a,i)=>([(0,VL 4 z0d l),(3,VI b),(4,VI a),(9,VL 4 z0d l),(10,VI (l.length:Int)),(11,VI (i:Int))],[])) (fun(b,a,i)=>i<=l.length/\0<=b/\b<=2147483648/\0<=a/\a<=2147483648/\z0T l=chkD l i b a) (fun(b,a,i)=>l.length-i) (0,0,0) ?_ ?_
 ·
  exact⟨by omega,by decide,by decide,by decide,by decide,rfl⟩
 rintro⟨b,a,i⟩ I3 ih3
 try dsimp only at I3
 refine .bp [.r []] (decide ((i:Int)< (l.length:Int))) (fun h3=> ?_) (fun h3=> ?_)
 ·
  refine .bp [.r [(1,X (Xi z0d l (i:Int)))],.r [(1,X (Xc0 (y30 ((l.getD i default))) X0))],.r []] ((stepD ((l.getD i default))) !=0) (fun h6=> ?_) (fun h6=> ?_)
  ·
   have e1:((z0T l):Int)=(stepD ((l.getD i default))):=by
    rw[I3.2.2.2.2.2,chkD];((repeat' split)<;>first|rfl|omega| (simp_all;done)| (simp_all;omega))
   exact .finE [.r []] [] (fun z0:Int=>(VI z0,[])) _ _ e1
  ·
   have hz:=z0Z (s:=l.getD i default) (by omega)
   obtain⟨hx,_,_⟩:=hd.at_ (k:=i) (by omega)
   refine .bp [.r []] (decide ((i:Int)> 0)) (fun h8=> ?_) (fun h8=> ?_)
   ·
    refine .bp [.r [(2,X (Xn ((i:Int)- 1))),(3,X (Xi' z0d l ((i:Int)- 1) (i- 1)))],.r [(7,Xv 1 ((((l.getD (i- 1) default)).kind)==(((l.getD i default)).kind)) X0),(8,Xv 1 ((((l.getD (i- 1) default)).kind)==(((l.getD i default)).kind)) X0),(9,Xv 1 ((((l.getD (i- 1) default)).kind)==(((l.getD i default)).kind)) X0),(11,Xv 1 (((((l.getD (i- 1) default)).kind)==(((l.getD i default)).kind))&& !((((l.getD i default)).kind) !=0)) X0),(13,Xv 1 (((((l.getD (i- 1) default)).kind)==(((l.getD i default)).kind))&& !((((l.getD i default)).kind) !=0)) X0),(14,Xv 2 (((((l.getD (i- 1) default)).kind)==(((l.getD i default)).kind))&& !((((l.getD i default)).kind) !=0)) (Xc0 (z3v (((l.getD (i- 1) default)).attrs) (((l.getD i default)).attrs)) X0)),(15,Xko ((((l.getD (i- 1) default)).kind)==(((l.getD i default)).kind)) ((((l.getD i default)).kind) !=0)),(16,X (Xk ((((l.getD (i- 1) default)).kind)==(((l.getD i default)).kind)))),(19,Xv 1 (!(((((l.getD (i- 1) default)).kind)==(((l.getD i default)).kind))&&(((((l.getD i default)).kind) !=0)|| (sameL (((l.getD (i- 1) default)).attrs) (((l.getD i default)).attrs))))) X0),(20,Xv 1 (!(((((l.getD (i- 1) default)).kind)==(((l.getD i default)).kind))&&(((((l.getD i default)).kind) !=0)|| (sameL (((l.getD (i- 1) default)).attrs) (((l.getD i default)).attrs))))) X0),(21,Xv 1 (!(((((l.getD (i- 1) default)).kind)==(((l.getD i default)).kind))&&(((((l.getD i default)).kind) !=0)|| (sameL (((l.getD (i- 1) default)).attrs) (((l.getD i default)).attrs))))) X0),(23,Xv 1 ((!(((((l.getD (i- 1) default)).kind)==(((l.getD i default)).kind))&&(((((l.getD i default)).kind) !=0)|| (sameL (((l.getD (i- 1) default)).attrs) (((l.getD i default)).attrs)))))&&((((l.getD (i- 1) default)).kind)==2)) X0),(24,Xv 1 ((!(((((l.getD (i- 1) default)).kind)==(((l.getD i default)).kind))&&(((((l.getD i default)).kind) !=0)|| (sameL (((l.getD (i- 1) default)).attrs) (((l.getD i default)).attrs)))))&&((((l.getD (i- 1) default)).kind)==2)) X0),(25,Xka (!(((((l.getD (i- 1) default)).kind)==(((l.getD i default)).kind))&&(((((l.getD i default)).kind) !=0)|| (sameL (((l.getD (i- 1) default)).attrs) (((l.getD i default)).attrs))))) ((((l.getD (i- 1) default)).kind)==2)),(26,X (Xk' (((((l.getD (i- 1) default)).kind)==(((l.getD i default)).kind))&&(((((l.getD i default)).kind) !=0)|| (sameL (((l.getD (i- 1) default)).attrs) (((l.getD i default)).attrs))))))]] ((((((l.getD (i- 1) default)).kind)==(((l.getD i default)).kind))&&(((((l.getD i default)).kind) !=0)|| (sameL (((l.getD (i- 1) default)).attrs) (((l.getD i default)).attrs))))|| (((((l.getD (i- 1) default)).kind)==2)&&((((l.getD i default)).kind)==1))) (fun h10=> ?_) (fun h10=> ?_)
    ·
     have e2:((z0T l):Int)=5:=by
      rw[I3.2.2.2.2.2,chkD,if_pos (by omega),if_neg (by omega),if_pos ⟨by omega,z5e.2 h10⟩]
     exact .finE [.r []] [] (fun z0:Int=>(VI z0,[])) _ _ e2
    ·
     refine .bp [.r []] ((((l.getD i default)).kind) !=1) (fun h12=> ?_) (fun h12=> ?_)
     ·
      refine .bp [.r [(3,X (Xn (b+(((l.getD i default)).n)))),(4,X (Xmin (b+(((l.getD i default)).n)) 2147483648))],.r []] ((((l.getD i default)).kind) !=2) (fun h14=> ?_) (fun h14=> ?_)
      ·
       refine .at 528 [(80,80)] ([(0,VL 4 z0d l),(3,VI (min (b+(((l.getD i default)).n)) 2147483648)),(4,VI a),(6,.ptr 80 0),(9,VL 4 z0d l),(10,VI (l.length:Int)),(11,VI (i:Int)),(65,VB ((((l.getD i default)).kind) !=2))],[(80,.box [VI (((l.getD i default)).kind),VI (((l.getD i default)).n),VL 2 attrT (((l.getD i default)).attrs),VL 3 elemT (((l.getD i default)).elems)])]) ?_
       refine .back [.r [(2,X (Xc0 (z2K ((l.getD i default))) X0)),(3,X (Xn (a+(szD ((l.getD i default)))))),(4,X (Xmin (a+(szD ((l.getD i default)))) 2147483648))],.r [(0,X (Xn ((i:Int)+1)))]] [] (ih3 ((min (b+(((l.getD i default)).n)) 2147483648),(min (a+(szD ((l.getD i default)))) 2147483648),(i+1)) ?_ ?_)
       ·
        refine⟨by omega,by omega,by omega,by omega,by omega,?_⟩
        rw[I3.2.2.2.2.2,chkD,if_pos (by omega),if_neg (by omega),if_neg (by first|omega|exact fun hh=>z26 h10 hh.2)]
        ((repeat' split)<;>first|rfl|omega| (simp_all;done)| (simp_all;omega))
       ·
        ((try dsimp only);omega)
      ·
       refine .at 528 [(80,80)] ([(0,VL 4 z0d l),(3,VI (min (b+(((l.getD i default)).n)) 2147483648)),(4,VI a),(6,.ptr 80 0),(9,VL 4 z0d l),(10,VI (l.length:Int)),(11,VI (i:Int)),(65,VB ((((l.getD i default)).kind) !=2))],[(80,.box [VI (((l.getD i default)).kind),VI (((l.getD i default)).n),VL 2 attrT (((l.getD i default)).attrs),VL 3 elemT (((l.getD i default)).elems)])]) ?_
       refine .back [.r [(0,X (Xn ((i:Int)+1)))]] [] (ih3 ((min (b+(((l.getD i default)).n)) 2147483648),a,(i+1)) ?_ ?_)
       ·
        refine⟨by omega,by omega,by omega,by omega,by omega,?_⟩
        rw[I3.2.2.2.2.2,chkD,if_pos (by omega),if_neg (by omega),if_neg (by first|omega|exact fun hh=>z26 h10 hh.2)]
        ((repeat' split)<;>first|rfl|omega| (simp_all;done)| (simp_all;omega))
       ·
        ((try dsimp only);omega)
     ·
      refine .bp [.r []] ((((l.getD i default)).kind) !=2) (fun h14=> ?_) (fun h14=> ?_)
      ·
       refine .at 480 [(80,80)] ([(0,VL 4 z0d l),(3,VI b),(4,VI a),(6,.ptr 80 0),(9,VL 4 z0d l),(10,VI (l.length:Int)),(11,VI (i:Int)),(65,VB ((((l.getD i default)).kind) !=2))],[(80,.box [VI (((l.getD i default)).kind),VI (((l.getD i default)).n),VL 2 attrT (((l.getD i default)).attrs),VL 3 elemT (((l.getD i default)).elems)])]) ?_
       refine .back [.r [(2,X (Xc0 (z2K ((l.getD i default))) X0)),(3,X (Xn (a+(szD ((l.getD i default)))))),(4,X (Xmin (a+(szD ((l.getD i default)))) 2147483648))],.r [(0,X (Xn ((i:Int)+1)))]] [] (ih3 (b,(min (a+(szD ((l.getD i default)))) 2147483648),(i+1)) ?_ ?_)
       ·
        refine⟨by omega,by omega,by omega,by omega,by omega,?_⟩
        rw[I3.2.2.2.2.2,chkD,if_pos (by omega),if_neg (by omega),if_neg (by first|omega|exact fun hh=>z26 h10 hh.2)]
        ((repeat' split)<;>first|rfl|omega| (simp_all;done)| (simp_all;omega))
       ·
        ((try dsimp only);omega)
      ·
       refine .at 480 [(80,80)] ([(0,VL 4 z0d l),(3,VI b),(4,VI a),(6,.ptr 80 0),(9,VL 4 z0d l),(10,VI (l.length:Int)),(11,VI (i:Int)),(65,VB ((((l.getD i default)).kind) !=2))],[(80,.box [VI (((l.getD i default)).kind),VI (((l.getD i default)).n),VL 2 attrT (((l.getD i default)).attrs),VL 3 elemT (((l.getD i default)).elems)])]) ?_
       refine .back [.r [(0,X (Xn ((i:Int)+1)))]] [] (ih3 (b,a,(i+1)) ?_ ?_)
       ·
        refine⟨by omega,by omega,by omega,by omega,by omega,?_⟩
        rw[I3.2.2.2.2.2,chkD,if_pos (by omega),if_neg (by omega),if_neg (by first|omega|exact fun hh=>z26 h10 hh.2)]
        ((repeat' split)<;>first|rfl|omega| (simp_all;done)| (simp_all;omega))
       ·
        ((try dsimp only);omega)
   ·
    refine .bp [.r []] ((((l.getD i default)).kind) !=1) (fun h12=> ?_) (fun h12=> ?_)
    ·
     refine .bp [.r [(3,X (Xn (b+(((l.getD i default)).n)))),(4,X (Xmin (b+(((l.getD i default)).n)) 2147483648))],.r []] ((((l.getD i default)).kind) !=2) (fun h14=> ?_) (fun h14=> ?_)
     ·
      refine .back [.r [(2,X (Xc0 (z2K ((l.getD i default))) X0)),(3,X (Xn (a+(szD ((l.getD i default)))))),(4,X (Xmin (a+(szD ((l.getD i default)))) 2147483648))],.r [(0,X (Xn ((i:Int)+1)))]] [] (ih3 ((min (b+(((l.getD i default)).n)) 2147483648),(min (a+(szD ((l.getD i default)))) 2147483648),(i+1)) ?_ ?_)
      ·
       refine⟨by omega,by omega,by omega,by omega,by omega,?_⟩
       rw[I3.2.2.2.2.2,chkD,if_pos (by omega),if_neg (by omega),if_neg (by first|omega|exact fun hh=>z26 h10 hh.2)]
       ((repeat' split)<;>first|rfl|omega| (simp_all;done)| (simp_all;omega))
      ·
       ((try dsimp only);omega)
     ·
      refine .back [.r [(0,X (Xn ((i:Int)+1)))]] [] (ih3 ((min (b+(((l.getD i default)).n)) 2147483648),a,(i+1)) ?_ ?_)
      ·
       refine⟨by omega,by omega,by omega,by omega,by omega,?_⟩
       rw[I3.2.2.2.2.2,chkD,if_pos (by omega),if_neg (by omega),if_neg (by first|omega|exact fun hh=>z26 h10 hh.2)]
       ((repeat' split)<;>first|rfl|omega| (simp_all;done)| (simp_all;omega))
      ·
       ((try dsimp only);omega)
    ·
     refine .bp [.r []] ((((l.getD i default)).kind) !=2) (fun h14=> ?_) (fun h14=> ?_)
     ·
      refine .back [.r [(2,X (Xc0 (z2K ((l.getD i default))) X0)),(3,X (Xn (a+(szD ((l.getD i default)))))),(4,X (Xmin (a+(szD ((l.getD i default)))) 2147483648))],.r [(0,X (Xn ((i:Int)+1)))]] [] (ih3 (b,(min (a+(szD ((l.getD i default)))) 2147483648),(i+1)) ?_ ?_)
      ·
       refine⟨by omega,by omega,by omega,by omega,by omega,?_⟩
       rw[I3.2.2.2.2.2,chkD,if_pos (by omega),if_neg (by omega),if_neg (by first|omega|exact fun hh=>z26 h10 hh.2)]
       ((repeat' split)<;>first|rfl|omega| (simp_all;done)| (simp_all;omega))
      ·
       ((try dsimp only);omega)
     ·
      refine .back [.r [(0,X (Xn ((i:Int)+1)))]] [] (ih3 (b,a,(i+1)) ?_ ?_)
      ·
       refine⟨by omega,by omega,by omega,by omega,by omega,?_⟩
       rw[I3.2.2.2.2.2,chkD,if_pos (by omega),if_neg (by omega),if_neg (by first|omega|exact fun hh=>z26 h10 hh.2)]
       ((repeat' split)<;>first|rfl|omega| (simp_all;done)| (simp_all;omega))
      ·
       ((try dsimp only);omega)
 ·
  refine .bp [.r [(4,Xv 1 (!(decide (b>2147483647))) X0),(5,X (Xk' (decide (b>2147483647))))]] (decide (b>2147483647)||decide (a>2147483647)) (fun h17=> ?_) (fun h17=> ?_)
  ·
   have e3:((z0T l):Int)=3:=by
    rw[I3.2.2.2.2.2,chkD];((repeat' split)<;>first|rfl|omega| (simp_all;done)| (simp_all;omega))
   exact .finE [.r []] [] (fun z0:Int=>(VI z0,[])) _ _ e3
  ·
   have e4:((z0T l):Int)=0:=by
    rw[I3.2.2.2.2.2,chkD];((repeat' split)<;>first|rfl|omega| (simp_all;done)| (simp_all;omega))
   exact .finE [.r []] [] (fun z0:Int=>(VI z0,[])) _ _ e4
theorem z38(l:List DStep)(hv:z0U l):FC Tryz.prog 106 [VL 4 z0d l] (app emp []) (.tup [VI (oldD l),VI (newD l)]) (app emp []):=by
 refine .go Tryz.f106 ?_
 refine .len 0 (fun hl0=> ?_)
 refine .loop (α:=Int×Int×Nat) [.r [],.r [],.r [(1,X (Xl z0d l))]] 56 (fun(b,a,i)=>([(4,VI b),(5,VI a),(8,VL 4 z0d l),(9,VI (l.length:Int)),(10,VI (i:Int))],[])) (fun(b,a,i)=>i<=l.length/\0<=b/\0<=a/\oldD l=b+oldD (l.drop i)/\newD l=a+newD (l.drop i)) (fun(b,a,i)=>l.length-i) (0,0,0) ?_ ?_
 ·
  exact⟨by omega,by decide,by decide,by simp,by simp⟩
 rintro⟨b,a,i⟩ I3 ih3
 try dsimp only at I3
 have hv1:=hv.2.1
 have hv2:=hv.2.2
 refine .bp [.r []] (decide ((i:Int)< (l.length:Int))) (fun h3=> ?_) (fun h3=> ?_)
 ·
  have hst:=z6M (l:=l) (i:=i) (by omega) hv.1
  refine .bp [.r [(0,X (Xi z0d l (i:Int)))],.r []] ((((l.getD i default)).kind) !=1) (fun h5=> ?_) (fun h5=> ?_)
  ·
   have s1:=hst.1
   rw[if_neg (by omega)] at s1
   refine .bp [.r [(3,X (Xn (b+(((l.getD i default)).n))))],.r []] ((((l.getD i default)).kind) !=2) (fun h7=> ?_) (fun h7=> ?_)
   ·
    have s2:=hst.2.1
    rw[if_neg (by omega)] at s2
    refine .back [.r [(2,X (Xc0 (z2K ((l.getD i default))) X0)),(3,X (Xn (a+(szD ((l.getD i default))))))],.r [(0,X (Xn ((i:Int)+1)))]] [] (ih3 ((b+(((l.getD i default)).n)),(a+(szD ((l.getD i default)))),(i+1)) ?_ ?_)
    ·
     obtain⟨s1,s2,s3,s4,s5,s6,s7,s8⟩:=hst
     first|rw[if_pos (by omega)] at s1|rw[if_neg (by omega)] at s1
     first|rw[if_pos (by omega)] at s2|rw[if_neg (by omega)] at s2
     refine⟨by omega,by omega,by omega,by omega,by omega⟩
    ·
     ((try dsimp only);omega)
   ·
    refine .back [.r [(0,X (Xn ((i:Int)+1)))]] [] (ih3 ((b+(((l.getD i default)).n)),a,(i+1)) ?_ ?_)
    ·
     obtain⟨s1,s2,s3,s4,s5,s6,s7,s8⟩:=hst
     first|rw[if_pos (by omega)] at s1|rw[if_neg (by omega)] at s1
     first|rw[if_pos (by omega)] at s2|rw[if_neg (by omega)] at s2
     refine⟨by omega,by omega,by omega,by omega,by omega⟩
    ·
     ((try dsimp only);omega)
  ·
   refine .bp [.r []] ((((l.getD i default)).kind) !=2) (fun h7=> ?_) (fun h7=> ?_)
   ·
    have s2:=hst.2.1
    rw[if_neg (by omega)] at s2
    refine .back [.r [(2,X (Xc0 (z2K ((l.getD i default))) X0)),(3,X (Xn (a+(szD ((l.getD i default))))))],.r [(0,X (Xn ((i:Int)+1)))]] [] (ih3 (b,(a+(szD ((l.getD i default)))),(i+1)) ?_ ?_)
    ·
     obtain⟨s1,s2,s3,s4,s5,s6,s7,s8⟩:=hst
     first|rw[if_pos (by omega)] at s1|rw[if_neg (by omega)] at s1
     first|rw[if_pos (by omega)] at s2|rw[if_neg (by omega)] at s2
     refine⟨by omega,by omega,by omega,by omega,by omega⟩
    ·
     ((try dsimp only);omega)
   ·
    refine .back [.r [(0,X (Xn ((i:Int)+1)))]] [] (ih3 (b,a,(i+1)) ?_ ?_)
    ·
     obtain⟨s1,s2,s3,s4,s5,s6,s7,s8⟩:=hst
     first|rw[if_pos (by omega)] at s1|rw[if_neg (by omega)] at s1
     first|rw[if_pos (by omega)] at s2|rw[if_neg (by omega)] at s2
     refine⟨by omega,by omega,by omega,by omega,by omega⟩
    ·
     ((try dsimp only);omega)
 ·
  have e1:((oldD l):Int)=b:=by
   have hE:=dend (l:=l) (i:=i) (by omega)
   omega
  have e2:((newD l):Int)=a:=by
   have hE:=dend (l:=l) (i:=i) (by omega)
   omega
  exact .finE [.r []] [] (fun((z0,z1):Int×Int)=>(.tup [VI z0,VI z1],[])) _ _ (pr e1 e2)
end Go.Ch
end
