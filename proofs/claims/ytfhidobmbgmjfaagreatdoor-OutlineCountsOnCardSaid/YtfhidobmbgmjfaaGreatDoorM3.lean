/- The oracles of the operations, each with the one thing that is asked. -/
import Derived.Test.YtfhidobmbgmjfaaGreatDoorM1
import Derived.Test.YtfhidobmbgmjfaaGreatDoorM2
import Derived.Test.YtfhidobmbgmjfaaGreatDoorProg
import Derived.RangeFuncNested
import Derived.Maps.RangeRun
import Derived.Shelf.Strings.Builder1
import Derived.Shelf.Strconv.Itoa3
import Derived.Ground.Names2Prog
import Derived.WalkKit
import Derived.WalkMore
import Derived.Handy
import Derived.StillTailTactics
import Derived.Lib.Builder
import Derived.Shelf.Unicode.DecodeSlow
import Derived.Lib.TrimUEq
import Derived.Lib.QuoteLoop
import Derived.Lib.ValidLaws
import Derived.Lib.ValidAsc
import Derived.Shelf.LaysM
import Derived.Shelf.LaysC
import Derived.Shelf.Strconv.AtoiAll
import Derived.Shelf.Unicode.DecodeAny
import Derived.Shelf.Slices.SearchI
import Derived.Ground.SlsfProg
import Derived.Shelf.SlGeneric
import Derived.Shelf.SlSortCmp.WholeK
import Derived.Laws.Cover1
section
set_option linter.unusedVariables false
namespace Go.Ab
open Go
variable {P:Program}
structure Px(p:Prop) where
 o:Orc
 cs:List Prop
 h:p→All cs
def gdC(e:Bool):List Prop→List Prop
 | []=>[]
 |p::l=>(e=true→p)::gdC e l
theorem gdC_all{e:Bool}:∀{l:List Prop},(e=true→All l)→All (gdC e l)
 | [],_=>trivial
 |p::l,h=>⟨fun he=>(h he).1,gdC_all fun he=>(h he).2⟩
def X{p:Prop}(x:Px p)(h:p:=by first|with_reducible exact True.intro|omega| (and_intros<;>first|omega|with_reducible rfl|with_reducible assumption|with_reducible exact True.intro| (simp only[List.length_map];omega)| (simp[-List.getD_eq_getElem?_getD];omega)| (simp;omega)| (simp;done))):Ox:=⟨x.o,x.cs,x.h h⟩
def Xw{p:Prop}(e:Bool)(x:Px p)(h:e=true)(hp:p):Ox:=⟨x.o,gdC e x.cs++[e=true],All_app.2 ⟨gdC_all fun _=>x.h hp,h,trivial⟩⟩
def oV(v:AVal):Orc:=⟨some v,none,none,none,[]⟩
def oE(x:Tree):Orc:=⟨none,none,some x,none,[]⟩
def Xq{p:Prop}(e:Bool)(x:Px p):Px (e=true∧p):=⟨x.o,(e=true)::x.cs,fun h=>⟨h.1,x.h h.2⟩⟩
def Xc(p:Prop):Px p:=⟨Orc.no,[p],fun h=>⟨h,trivial⟩⟩
def X0:Px True:=⟨Orc.no,[],fun _=>trivial⟩
def Xa{p q:Prop}(x:Px p)(y:Px q):Px (p∧q):=⟨y.o,x.cs++y.cs,fun h=>All_app.2 ⟨x.h h.1,y.h h.2⟩⟩
def Xn(a:Int):Px (-9223372036854775808≤a∧a≤9223372036854775807):=⟨oV (VI a),[Weak (VI (IntKind.i64.wrap a)) (VI a)],fun h=>⟨Weak.of_eq (nw h),trivial⟩⟩
def Xquo(a b:Int):Px (0≤a∧0<b∧a≤9223372036854775807):=⟨oV (VI (a/b)),[b≠0,Weak (VI (IntKind.i64.wrap (a.tdiv b))) (VI (a/b))],fun h=>⟨by omega,Weak.of_eq (quo_nn h),trivial⟩⟩
def Xrem(a b:Int):Px (0≤a∧0<b):=⟨oV (VI (a%b)),[b≠0,Weak (VI (a.tmod b)) (VI (a%b))],fun h=>⟨by omega,Weak.of_eq (rem_nn h.1),trivial⟩⟩
def Xmax(a b:Int):Px True:=⟨oV (VI (max a b)),[Weak (VI (if b>a then b else a)) (VI (max a b))],fun _=>⟨Weak.of_eq max_if,trivial⟩⟩
def Xmin(a b:Int):Px True:=⟨oV (VI (min a b)),[Weak (VI (if b<a then b else a)) (VI (min a b))],fun _=>⟨Weak.of_eq min_if,trivial⟩⟩
def Xl{α:Type}(f:α→Tree)(l:List α):Px True:=⟨oV (VI (l.length:Int)),[Weak (VI ((l.map f).length:Int)) (VI (l.length:Int))],fun _=>⟨Weak.of_eq len_map,trivial⟩⟩
def Xi{α:Type}[Inhabited α](f:α→Tree)(l:List α)(j:Int):Px (0≤j∧j< (l.length:Int)):=
 ⟨oE (f (l.getD j.toNat default)),[0≤j,(l.map f)[j.toNat]? =some (f (l.getD j.toNat default))],fun h=>⟨h.1,elt_map h.1 h.2,trivial⟩⟩
def Xi'{α:Type}[Inhabited α](f:α→Tree)(l:List α)(j:Int)(k:Nat):Px (j=(k:Int)∧k<l.length):=
 ⟨oE (f (l.getD k default)),[0≤j,(l.map f)[j.toNat]? =some (f (l.getD k default))],fun h=>⟨by omega,elt_map' h.1 h.2,trivial⟩⟩
def Xp{α:Type}(f:α→Tree)(o:List α)(j:Int):Px (0≤j∧j< (o.length:Int)):=
 ⟨Orc.no,[o.length=(o.map f).length,0≤j,j< (o.length:Int)],fun h=>⟨List.length_map _|>.symm,h.1,h.2,trivial⟩⟩
def Xe{α:Type}[Inhabited α](f:α→Tree)(o:List α)(i:Nat):Px (i<o.length):=
 ⟨oE (f (o.getD i default)),[o.length=(o.map f).length,(o.map f)[i]? =some (f (o.getD i default))],fun h=>⟨List.length_map _|>.symm,elt_nat h,trivial⟩⟩
def Xs{α:Type}[Inhabited α](k:Nat)(f:α→Tree)(id:Nat)(o:List α)(i:Nat)(x:α)(g:List (Nat×Ob):=[]):Px (i<o.length):=
 ⟨⟨none,some (g++[(id,.row k false ((o.set i x).map f))]),some (f (o.getD i default)),none,[]⟩,
  [o.length=(o.map f).length,(o.map f)[i]? =some (f (o.getD i default)),g++[(id,Ob.row k false ((o.set i x).map f))]=g++[(id,Ob.row k false ((o.map f).set i (f x)))]],
  fun h=>⟨List.length_map _|>.symm,elt_nat h,by rw[row_set rfl],trivial⟩⟩
def Xst{α:Type}(f:α→Tree)(k:Nat)(l:List α)(hi:Int):Px (0≤hi∧hi≤(l.length:Int)):=
 ⟨oV (VL k f (l.take hi.toNat)),[0≤hi,hi≤(((l.map f).length:Nat):Int),Weak (.t (.lst k ((l.map f).take hi.toNat))) (VL k f (l.take hi.toNat))],fun h=>⟨h.1,by rw[List.length_map];exact h.2,Weak.of_eq sl_take,trivial⟩⟩
def rowC{p:Prop}{α:Type}(f:α→Tree)(o:List α)(x:Px p):Px p:=⟨x.o,(o.length=(o.map f).length)::x.cs,fun h=>⟨List.length_map _|>.symm,x.h h⟩⟩
theorem lm{α:Type}{n:Nat}{f:α→Tree}{o:List α}(h:n=o.length:=by first|with_reducible rfl|omega| (simp;done)| (simp[-List.getD_eq_getElem?_getD];omega)| (simp;omega)):n=(o.map f).length:=by rw[List.length_map];exact h
def Xen{α:Type}[Inhabited α](n:Nat)(f:α→Tree)(o:List α)(i:Nat):Px (n=o.length∧i<o.length):=
 ⟨oE (f (o.getD i default)),[n=(o.map f).length,(o.map f)[i]? =some (f (o.getD i default))],fun h=>⟨by rw[List.length_map];exact h.1,elt_nat h.2,trivial⟩⟩
def Xpn{α:Type}(n:Nat)(f:α→Tree)(o:List α)(j:Int):Px (n=o.length∧0≤j∧j< (n:Int)):=
 ⟨Orc.no,[n=(o.map f).length,0≤j,j< (n:Int)],fun h=>⟨by rw[List.length_map];exact h.1,h.2.1,h.2.2,trivial⟩⟩
def Xsn{α:Type}[Inhabited α](n k:Nat)(f:α→Tree)(id:Nat)(o:List α)(i:Nat)(x:α)(g:List (Nat×Ob):=[]):Px (n=o.length∧i<o.length):=
 ⟨⟨none,some (g++[(id,.row k false ((o.set i x).map f))]),some (f (o.getD i default)),none,[]⟩,
  [n=(o.map f).length,(o.map f)[i]? =some (f (o.getD i default)),g++[(id,Ob.row k false ((o.set i x).map f))]=g++[(id,Ob.row k false ((o.map f).set i (f x)))]],
  fun h=>⟨by rw[List.length_map];exact h.1,elt_nat h.2,by rw[row_set rfl],trivial⟩⟩
def Xb(s:ByteArray)(j:Int):Px (0≤j∧j< (s.size:Int)):=⟨Orc.no,[0≤j,j< (s.size:Int)],fun h=>⟨h.1,h.2,trivial⟩⟩
def Xan{α:Type}(f:α→Tree)(id:Nat)(ys:List α):Px (ys.length≤1099511627776):=
 ⟨oV (.row id ys.length),[(ys.map f).length≤1099511627776,Weak (.row id (ys.map f).length) (.row id ys.length)],fun h=>⟨by rw[List.length_map];exact h,Weak.of_eq (by rw[List.length_map]),trivial⟩⟩
def Xap{α:Type}(k:Nat)(f:α→Tree)(id:Nat)(o ys:List α):Px (o.length+ys.length≤1099511627776):=
 ⟨⟨some (.row id (o++ys).length),some [(id,.row k false ((o++ys).map f))],none,none,[]⟩,
  [o.length=(o.map f).length,o.length+(ys.map f).length≤1099511627776,Weak (.row id (o.length+(ys.map f).length)) (.row id (o++ys).length),[(id,Ob.row k false ((o++ys).map f))]=[(id,Ob.row k false (o.map f++ys.map f))]],
  fun h=>⟨List.length_map _|>.symm,by rw[List.length_map];exact h,Weak.of_eq (by simp),row_append rfl,trivial⟩⟩
def XapB{α:Type}(k:Nat)(f:α→Tree)(id:Nat)(o ys:List α):Px (o.length+ys.length≤8589934592):=
 ⟨⟨some (.row id (o++ys).length),some [(id,.row k false ((o++ys).map f))],none,none,[]⟩,
  [o.length=(o.map f).length,o.length+(ys.map f).length≤8589934592,Weak (.row id (o.length+(ys.map f).length)) (.row id (o++ys).length),[(id,Ob.row k false ((o++ys).map f))]=[(id,Ob.row k false (o.map f++ys.map f))]],
  fun h=>⟨List.length_map _|>.symm,by rw[List.length_map];exact h,Weak.of_eq (by simp),row_append rfl,trivial⟩⟩
def Xmk{α:Type}(k:Nat)(f:α→Tree)(id:Nat)(n m:Int)(z:α):Px (0≤n∧n≤m∧m≤1099511627776):=
 ⟨⟨none,some [(id,.row k false ((List.replicate n.toNat z).map f))],none,none,[]⟩,[0≤n,n≤m,m≤1099511627776,[(id,Ob.row k false ((List.replicate n.toNat z).map f))]=[(id,Ob.row k false (List.replicate n.toNat (f z)))]],
  fun h=>⟨h.1,h.2.1,h.2.2,by rw[List.map_replicate],trivial⟩⟩
def Xmz{α:Type}(k:Nat)(f:α→Tree)(id:Nat)(n m:Int)(z:α)(zs:List Tree)(hz:TWs zs (f z).cells):Px (0≤n∧n≤m∧m≤1099511627776):=
 ⟨⟨none,some [(id,.row k false ((List.replicate n.toNat z).map f))],some (f z),none,[]⟩,[0≤n,n≤m,m≤1099511627776,TWs zs (f z).cells,[(id,Ob.row k false ((List.replicate n.toNat z).map f))]=[(id,Ob.row k false (List.replicate n.toNat (f z)))]],
  fun h=>⟨h.1,h.2.1,h.2.2,hz,by rw[List.map_replicate],trivial⟩⟩
def Xbsl:Px True:=⟨⟨none,none,some (.sc (.bool true)),none,[]⟩,[],fun _=>trivial⟩
def Xf(l:List (Nat×Nat)):Px True:=⟨⟨none,none,none,none,l⟩,[],fun _=>trivial⟩
def rpC(e:Bool):Nat→List Prop→List Prop
 |0,l=>l
 |k+1,l=>(e=true)::rpC e k l
theorem rpC_all{e:Bool}(he:e=true){l:List Prop}(h:All l):∀k,All (rpC e k l)
 |0=>h
 |k+1=>⟨he,rpC_all he h k⟩
def Xv{p:Prop}(k:Nat)(e:Bool)(x:Px p)(h:e=true→p:=by first| (intro _;with_reducible exact True.intro)| (intro hg;(try simp[-List.getD_eq_getElem?_getD] at hg);first|omega| (and_intros<;>first|omega|with_reducible rfl|with_reducible assumption|with_reducible exact True.intro| (simp only[List.length_map];omega)| (simp[-List.getD_eq_getElem?_getD];omega)| (simp;omega)| (simp[hg];done)))):Ox:=
 ⟨x.o,gdC e (rpC e k x.cs),gdC_all fun he=>rpC_all he (x.h (h he)) k⟩
def Xk(g:Bool):Px True:=⟨Orc.no,[g=true→g=true],fun _=>⟨id,trivial⟩⟩
def Xk'(g:Bool):Px True:=⟨Orc.no,[g=false→(!g)=true],fun _=>⟨fun h=>by simp[h],trivial⟩⟩
def Xka(e g:Bool):Ox:=⟨Orc.no,[e=true→e=true,e=true→g=true→(e&&g)=true],⟨id,fun h k=>by rw[h,k];rfl,trivial⟩⟩
def Xko(e g:Bool):Ox:=⟨Orc.no,[e=true→e=true,e=true→g=false→(e&& !g)=true],⟨id,fun h k=>by rw[h,k];rfl,trivial⟩⟩
theorem FC.nil{f:FuncId}{args:List AVal}{res:AVal}{st st':Store}(i k:Nat)(h:FC P f args st res st')(hi:args[i]? =some (.t (.lst k [])):=by kernel_rfl)(hk:Nat.blt 0 k=true:=by kernel_rfl):FC P f (args.set i VN) st res st':=by
 intro F m w us hS hl hv
 refine h F m w us hS (by simpa using hl) (fun j v u hj hu=> ?_)
 by_cases e:i=j
 ·subst e
  rw[hi] at hj
  cases hj
  have hlt:=(List.getElem?_eq_some_iff.1 hi).1
  have:=hv i VN u (by simp[hlt]) hu
  exact nil_lst (Nat.lt_of_succ_le (Nat.le_of_ble_eq_true hk)) _ _ _ _ _ this
 ·exact hv j v u (by rw[List.getElem?_set_ne e];exact hj) hu
def Xc0{p:Prop}{f:FuncId}{args:List AVal}{res:AVal}(h:FC P f args emp res emp)(x:Px p)(hc:callable P f=true:=by kernel_rfl):Px p:=
 ⟨⟨none,none,none,some ⟨0,[],res,[]⟩,[]⟩,(callable P f=true)::(x.cs++[FC P f args emp res emp]),fun hp=>⟨hc,All_app.2 ⟨x.h hp,h,trivial⟩⟩⟩
def freshT:Nat→List (Nat×Ob)→List (Nat×Nat)→List (Nat×Nat)
 |_,[],_=>[]
 |nid,(i,_)::l,τ=>match lk τ i with
  |some _=>freshT nid l τ
  |none=>(i,nid)::freshT (nid+1) l τ
def orL{α:Type}(o:Option (List α)):List α:=o.getD []
def orV(o:Option AVal):AVal:=o.getD .junk
def ck1(τ:List (Nat×Nat))(res:AVal)(l1:List (Nat×Ob)):Bool:=nodupB (τ.map (·.1))&&nodupB (τ.map (·.2))&&(renStore τ (app emp l1) τ).isSome&&(renV τ res).isSome
theorem renL_nil_inv{args:List AVal}(h:renL [] args=some args):renL (inv []) args=some args:=h
theorem FC.fresh{f:FuncId}{args:List AVal}{res:AVal}{l1:List (Nat×Ob)}(τ:List (Nat×Nat))(h:FC P f args emp res (app emp l1))(ha:renL [] args=some args)(hk:ck1 τ res l1=true):
 FC P f args emp (orV (renV τ res)) (app emp (orL (renStore τ (app emp l1) τ))):=by
 simp only[ck1,Bool.and_eq_true] at hk
 obtain⟨⟨⟨k1,k2⟩,k3⟩,k4⟩:=hk
 obtain⟨l',e3⟩:=Option.isSome_iff_exists.1 k3
 obtain⟨r',e4⟩:=Option.isSome_iff_exists.1 k4
 refine FC.ren (l0:=[]) (l0':=[]) h [] τ (by simp[nodupB,k1,k2]) rfl (renL_nil_inv ha) rfl ?_ ?_
 ·rw[e3];rfl
 ·rw[e4];rfl
def Xc1{p:Prop}{f:FuncId}{args:List AVal}{res:AVal}{l1:List (Nat×Ob)}(nid:Nat)(h:FC P f args emp res (app emp l1))(x:Px p)(ha:renL [] args=some args:=by kernel_rfl)
 (hk:ck1 (freshT nid l1 []) res l1=true:=by kernel_rfl) (hc:callable P f=true:=by kernel_rfl):Px p:=
 ⟨⟨none,none,none,some ⟨1,[],orV (renV (freshT nid l1 []) res),orL (renStore (freshT nid l1 []) (app emp l1) (freshT nid l1 []))⟩,[]⟩,
  (callable P f=true)::(x.cs++[FC P f args emp (orV (renV (freshT nid l1 []) res)) (app emp (orL (renStore (freshT nid l1 []) (app emp l1) (freshT nid l1 []))))]),
  fun hp=>⟨hc,All_app.2 ⟨x.h hp,FC.fresh _ h ha hk,trivial⟩⟩⟩
def sndL:List (Nat×Nat)→List Nat
 | []=>[]
 | (_,j)::l=>j::sndL l
def ck3(τ0 τ:List (Nat×Nat))(args:List AVal)(l0:List (Nat×Ob))(res:AVal)(l1:List (Nat×Ob)):Bool:=
 (nodupB (τ0.map (·.1))&&nodupB (τ0.map (·.2))&&nodupB (τ.map (·.1))&&nodupB (τ.map (·.2))&&τ0.all (fun p=>match lk τ p.1 with|some j=>Nat.beq j p.2|none=>false))&&
  (orL (renStore τ0 (app emp l0) τ0)).all (fun x=>hasId (τ0.map (·.2)) x.1)&&(renStore τ (app emp l1) τ).isSome&&(renV τ res).isSome&&
  (orL (renStore τ0 (app emp l0) τ0)).all (fun x=>hasId ((orL (renStore τ (app emp l1) τ)).map (·.1)) x.1)
theorem app_over{a b:List (Nat×Ob)}(h:∀x∈a,x.1∈b.map (·.1)):app (app emp a) b=app emp b:=by
 funext i
 by_cases hi:i∈b.map (·.1)
 ·exact app_at (.inl hi)
 ·rw[app_not hi,app_not hi]
  refine app_not (fun hm=> ?_)
  obtain⟨x,hx,rfl⟩:=List.mem_map.1 hm
  exact hi (h x hx)
theorem FC.obj{f:FuncId}{args:List AVal}{res:AVal}{l0 l1:List (Nat×Ob)}(τ0 τ:List (Nat×Nat))(h:FC P f args (app emp l0) res (app emp l1))(hk:ck3 τ0 τ args l0 res l1=true)
 (h0:renStore (inv τ0) (app emp (orL (renStore τ0 (app emp l0) τ0))) (inv τ0)=some l0) (ha:renL (inv τ0) (orL (renL τ0 args))=some args):
 FC P f (orL (renL τ0 args)) (app emp (orL (renStore τ0 (app emp l0) τ0))) (orV (renV τ res)) (app (app emp (orL (renStore τ0 (app emp l0) τ0))) (orL (renStore τ (app emp l1) τ))):=by
 simp only[ck3,Bool.and_eq_true] at hk
 obtain⟨⟨⟨⟨k1,k2⟩,k3⟩,k4⟩,k5⟩:=hk
 obtain⟨l',e3⟩:=Option.isSome_iff_exists.1 k3
 obtain⟨r',e4⟩:=Option.isSome_iff_exists.1 k4
 rw[app_over (fun x hx=>hasId_iff.1 (List.all_eq_true.1 k5 x hx))]
 refine FC.ren h τ0 τ (by simp only[Bool.and_eq_true];exact k1) h0 ha k2 ?_ ?_
 ·rw[e3];rfl
 ·rw[e4];rfl
def Xc3{p:Prop}{f:FuncId}{args:List AVal}{res:AVal}{l0 l1:List (Nat×Ob)}(nid:Nat)(τ0:List (Nat×Nat))(h:FC P f args (app emp l0) res (app emp l1))(x:Px p)
 (hk:ck3 τ0 (τ0++freshT nid l1 τ0) args l0 res l1=true:=by kernel_rfl)
 (h0:renStore (inv τ0) (app emp (orL (renStore τ0 (app emp l0) τ0))) (inv τ0)=some l0:=by kernel_rfl) (ha:renL (inv τ0) (orL (renL τ0 args))=some args:=by kernel_rfl) (hc:callable P f=true:=by kernel_rfl):Px p:=
 ⟨⟨none,none,none,some ⟨3,sndL τ0,orV (renV (τ0++freshT nid l1 τ0) res),orL (renStore (τ0++freshT nid l1 τ0) (app emp l1) (τ0++freshT nid l1 τ0))⟩,[]⟩,
  [callable P f=true,FC P f (orL (renL τ0 args)) (app emp (orL (renStore τ0 (app emp l0) τ0))) (orV (renV (τ0++freshT nid l1 τ0) res)) (app (app emp (orL (renStore τ0 (app emp l0) τ0))) (orL (renStore (τ0++freshT nid l1 τ0) (app emp l1) (τ0++freshT nid l1 τ0))))],
  fun hp=>⟨hc,FC.obj _ _ h hk h0 ha,trivial⟩⟩
theorem FC.objr{f:FuncId}{args:List AVal}{res:AVal}{l0:List (Nat×Ob)}(τ0:List (Nat×Nat))(h:FC P f args (app emp l0) res (app emp l0))(hk:ck3 τ0 τ0 args l0 res l0=true)
 (h0:renStore (inv τ0) (app emp (orL (renStore τ0 (app emp l0) τ0))) (inv τ0)=some l0) (ha:renL (inv τ0) (orL (renL τ0 args))=some args):
 FC P f (orL (renL τ0 args)) (app emp (orL (renStore τ0 (app emp l0) τ0))) (orV (renV τ0 res)) (app (app emp (orL (renStore τ0 (app emp l0) τ0))) []):=by
 have:=FC.obj τ0 τ0 h hk h0 ha
 simp only[ck3,Bool.and_eq_true] at hk
 rw[app_over (fun x hx=>hasId_iff.1 (List.all_eq_true.1 hk.2 x hx))] at this
 exact this
def Xc4{p:Prop}{f:FuncId}{args:List AVal}{res:AVal}{l0:List (Nat×Ob)}(τ0:List (Nat×Nat))(h:FC P f args (app emp l0) res (app emp l0))(x:Px p)
 (hk:ck3 τ0 τ0 args l0 res l0=true:=by kernel_rfl)
 (h0:renStore (inv τ0) (app emp (orL (renStore τ0 (app emp l0) τ0))) (inv τ0)=some l0:=by kernel_rfl) (ha:renL (inv τ0) (orL (renL τ0 args))=some args:=by kernel_rfl) (hc:callable P f=true:=by kernel_rfl):Px p:=
 ⟨⟨none,none,none,some ⟨3,sndL τ0,orV (renV τ0 res),[]⟩,[]⟩,
  [callable P f=true,FC P f (orL (renL τ0 args)) (app emp (orL (renStore τ0 (app emp l0) τ0))) (orV (renV τ0 res)) (app (app emp (orL (renStore τ0 (app emp l0) τ0))) [])],
  fun hp=>⟨hc,FC.objr _ h hk h0 ha,trivial⟩⟩
theorem pr{α β:Type}{a b:α}{c d:β}(h:a=b)(k:c=d):(a,c)=(b,d):=by rw[h,k]
theorem wrap_u8{z:Int}(h:0≤z∧z≤255):IntKind.u8.wrap z=z:=by unfold IntKind.wrap;simp[IntKind.bits,IntKind.signed];omega
theorem wrap_u32{z:Int}(h:0≤z∧z≤4294967295):IntKind.u32.wrap z=z:=by unfold IntKind.wrap;simp[IntKind.bits,IntKind.signed];omega
theorem wrap_i32{z:Int}(h:0≤z∧z≤2147483647):IntKind.i32.wrap z=z:=by unfold IntKind.wrap;simp[IntKind.bits,IntKind.signed];omega
def Xcv(k:IntKind)(z:Int):Px (k.wrap z=z):=⟨oV (.t (.sc (.int k z))),[Weak (.t (.sc (.int k (k.wrap z)))) (.t (.sc (.int k z)))],fun h=>⟨Weak.of_eq (by rw[h]),trivial⟩⟩
def byteT(z:Int):Tree:= .sc (.int .u8 z)
def intsB(s:ByteArray):List Int:=s.data.toList.map fun b=>(b.toNat:Int)
def Xstr(n:Nat)(l:List Int)(s:ByteArray):Px (n=l.length∧l=intsB s):=
 ⟨oE (.sc (.string s)),[n=(l.map byteT).length,l.map byteT=bytesT s],fun h=>⟨by rw[List.length_map];exact h.1,by rw[h.2];unfold intsB bytesT;rw[List.map_map];rfl,trivial⟩⟩
def Xsh(k:IntKind)(b y z:Int):Px (0≤b∧y=z):=⟨oV (.t (.sc (.int k z))),[0≤b,Weak (.t (.sc (.int k y))) (.t (.sc (.int k z)))],fun h=>⟨h.1,Weak.of_eq (by rw[h.2]),trivial⟩⟩
end Go.Ab
end
section
set_option linter.unusedVariables false
set_option linter.unusedSimpArgs false
namespace Go.Ch
open Go Go.Ab
structure Attr where
 name:ByteArray
 val:ByteArray
abbrev mt:ByteArray:={data:=#[]}
instance:Inhabited Attr:=⟨⟨mt,mt⟩⟩
def attrT(a:Attr):Tree:= .agg [.sc (.string a.name),.sc (.string a.val)]
theorem byt_ext{a b:ByteArray}(h:a.toList=b.toList):a=b:=by
 rw[ByteArray.toList_eq,ByteArray.toList_eq] at h
 obtain⟨⟨x⟩⟩:=a
 obtain⟨⟨y⟩⟩:=b
 simpa using h
theorem seq_iff{a b:ByteArray}:seq a b=true↔a=b:=by
 unfold seq
 rw[beq_iff_eq]
 exact⟨byt_ext,fun h=>by rw[h]⟩
theorem seq_no{a b:ByteArray}:seq a b=false↔a≠b:=by
 rw[←Bool.not_eq_true,seq_iff]
theorem bl_irr:∀x:List UInt8,Op.bytesLess x x=false
 | []=>rfl
 |a::x=>by simp[Op.bytesLess,bl_irr x]
theorem bl_trans:∀x y z:List UInt8,Op.bytesLess x y=true→Op.bytesLess y z=true→Op.bytesLess x z=true
 |_,_,[],_,h=>by cases‹List UInt8›<;>simp[Op.bytesLess] at h
 | [],_,_::_,_,_=>rfl
 |a::x,[],_::_,h,_=>by simp[Op.bytesLess] at h
 |a::x,b::y,c::z,h1,h2=>by
  simp only[Op.bytesLess,Bool.or_eq_true,decide_eq_true_eq,Bool.and_eq_true,beq_iff_eq,UInt8.lt_iff_toNat_lt,←UInt8.toNat_inj] at h1 h2⊢
  rcases h1 with h1| ⟨h1,h1'⟩
  ·rcases h2 with h2| ⟨h2,h2'⟩<;>(left;omega)
  ·rcases h2 with h2| ⟨h2,h2'⟩
   ·left;omega
   ·right;exact⟨by omega,bl_trans x y z h1' h2'⟩
theorem bl_tri:∀x y:List UInt8,Op.bytesLess x y=false→Op.bytesLess y x=false→x=y
 | [],[],_,_=>rfl
 | [],_::_,h,_=>by simp[Op.bytesLess] at h
 |_::_,[],_,h=>by simp[Op.bytesLess] at h
 |a::x,b::y,h1,h2=>by
  simp only[Op.bytesLess,Bool.or_eq_false_iff,decide_eq_false_iff_not,Bool.and_eq_false_iff,beq_eq_false_iff_ne,UInt8.lt_iff_toNat_lt,ne_eq,←UInt8.toNat_inj] at h1 h2
  have e:a.toNat=b.toNat:=by omega
  have h1':Op.bytesLess x y=false:=by rcases h1.2 with h|h;exact absurd e h;exact h
  have h2':Op.bytesLess y x=false:=by rcases h2.2 with h|h;exact absurd e.symm h;exact h
  rw[UInt8.toNat_inj.1 e,bl_tri x y h1' h2']
theorem slt_irr(a:ByteArray):slt a a=false:=bl_irr _
theorem slt_trans{a b c:ByteArray}(h:slt a b=true)(k:slt b c=true):slt a c=true:=bl_trans _ _ _ h k
theorem slt_tri{a b:ByteArray}(h:slt a b=false)(k:slt b a=false):a=b:=byt_ext (bl_tri _ _ h k)
theorem slt_asymm{a b:ByteArray}(h:slt a b=true):slt b a=false:=by
 cases k:slt b a with
 |false=>rfl
 |true=>have:=slt_trans h k;rw[slt_irr] at this;cases this
def Above(n:ByteArray)(l:List Attr):Prop:=∀a∈l,slt n a.name=true
def Sorted:List Attr→Prop
 | []=>True
 |a::l=>Above a.name l∧Sorted l
def look:List Attr→ByteArray→Option ByteArray
 | [],_=>none
 |a::l,n=>if a.name=n then some a.val else look l n
def bothL:List Attr→List Attr→List (Attr×Attr)
 | [],[]=>[]
 | [],y::b=>(default,y)::bothL [] b
 |x::a,[]=>(x,default)::bothL a []
 |x::a,y::b=>
  if slt x.name y.name=true then(x,default)::bothL a (y::b)
  else if slt y.name x.name=true then(default,y)::bothL (x::a) b
  else(x,y)::bothL a b
termination_by a b=>a.length+b.length
theorem bothL_len:∀a b:List Attr,(bothL a b).length≤a.length+b.length:=by
 intro a b
 induction a,b using bothL.induct with
 |case1=>simp[bothL]
 |case2 y b ih=>simp only[bothL,List.length_cons] at ih⊢;omega
 |case3 x a ih=>simp only[bothL,List.length_cons] at ih⊢;omega
 |case4 x a y b h ih=>rw[bothL,if_pos h];simp only[List.length_cons] at ih⊢;omega
 |case5 x a y b h k ih=>rw[bothL,if_neg h,if_pos k];simp only[List.length_cons] at ih⊢;omega
 |case6 x a y b h k ih=>rw[bothL,if_neg h,if_neg k];simp only[List.length_cons] at ih⊢;omega
def fm(g:Attr→Attr→Option Attr)(a b:List Attr):List Attr:=(bothL a b).filterMap fun p=>g p.1 p.2
def at2(g:Attr→Attr→Option Attr)(n:ByteArray):Option ByteArray→Option ByteArray→Option ByteArray
 |none,none=>none
 |some v,none=>(g ⟨n,v⟩ default).map (·.val)
 |none,some w=>(g default ⟨n,w⟩).map (·.val)
 |some v,some w=>(g ⟨n,v⟩ ⟨n,w⟩).map (·.val)
theorem fm_cons{g:Attr→Attr→Option Attr}{x y:Attr}{l:List (Attr×Attr)}:((x,y)::l).filterMap (fun p=>g p.1 p.2)=(g x y).toList++l.filterMap (fun p=>g p.1 p.2):=by
 rw[List.filterMap_cons]
 cases g x y<;>rfl
def rawG(x y:Attr):Option Attr:=if y.name=mt then some x else if y.val=mt then none else some y
section
variable (NP VP:ByteArray→Prop)
def Q(e:Bool)(n v:ByteArray):Prop:=NP n∧(VP v∨(e=true∧v=mt))
def V(e:Bool)(l:List Attr):Prop:=Sorted l∧∀a∈l,Q NP VP e a.name a.val
end
section
variable {NP VP:ByteArray→Prop} (hN:¬NP mt) (hV:¬VP mt)
include hN
include hV
end
end Go.Ch
end
section
set_option linter.unusedVariables false
set_option linter.unusedSimpArgs false
set_option maxRecDepth 100000
set_option maxHeartbeats 4000000
open Go Go.Proofs Go.Ab
namespace Go.Ch
theorem seq_mt{s:ByteArray}:seq s {data:=#[]}=decide (s.size=0):=by
 by_cases h:s.size=0
 ·rw[decide_eq_true h,seq_iff]
  obtain⟨⟨l⟩⟩:=s
  cases l with
  |nil=>rfl
  |cons a l=>simp[ByteArray.size] at h
 ·rw[decide_eq_false h,seq_no]
  intro e;subst e;exact h rfl
theorem str_pos{s:ByteArray}(h:seq s {data:=#[]}=false):(0:Int)< (s.size:Int):=by
 rw[seq_mt,decide_eq_false_iff_not] at h;omega
def byt(s:ByteArray)(i:Nat):Nat:=((s[i]?).getD 0).toNat
def badC(b:Nat):Prop:=(b<97∨122<b)∧(b<48∨57<b)∧b≠46∧b≠45
instance (b:Nat):Decidable (badC b):=by unfold badC;infer_instance
def nmS(s:ByteArray)(i:Nat):Bool:=if i<s.size then(if badC (byt s i) then false else nmS s (i+1)) else true
termination_by s.size-i
def nameGo(s:ByteArray):Bool:=decide (1≤s.size∧s.size≤24∧97≤byt s 0∧byt s 0≤122)&&nmS s 0
def vlS(s:ByteArray)(i:Nat):Bool:=if i<s.size then(if byt s i<32∨126<byt s i then false else vlS s (i+1)) else true
termination_by s.size-i
def valGo(s:ByteArray):Bool:=decide (1≤s.size∧s.size≤200)&&vlS s 0
def nmR(s:ByteArray)(i:Nat):Bool:=if i<s.size then(if(byt s i<97∨122<byt s i)∧(i=0∨(byt s i≠46∧byt s i≠45∧(byt s i<48∨57<byt s i))) then false else nmR s (i+1)) else true
termination_by s.size-i
def nameRf(s:ByteArray):Bool:=nmR s 0&&decide (1≤s.size∧s.size≤24)
def valRf(s:ByteArray):Bool:=vlS s 0&&decide (1≤s.size∧s.size≤200)
theorem nmR_pos(s:ByteArray)(i:Nat)(h:0<i):nmR s i=nmS s i:=by
 induction i using nmS.induct (s:=s) with
 |case1 i hi hb=>rw[nmR,nmS,if_pos hi,if_pos hi,if_pos hb,if_pos];unfold badC at hb;omega
 |case2 i hi hb ih=>rw[nmR,nmS,if_pos hi,if_pos hi,if_neg hb,if_neg];exact ih (by omega);unfold badC at hb;omega
 |case3 i hi=>rw[nmR,nmS,if_neg hi,if_neg hi]
theorem nameRf_eq(s:ByteArray):nameRf s=nameGo s:=by
 unfold nameRf nameGo
 by_cases h:1≤s.size
 ·rw[nmR,if_pos (by omega),nmR_pos s (0+1) (by omega)]
  by_cases h2:97≤byt s 0∧byt s 0≤122
  ·have e:nmS s 0=nmS s (0+1):=by rw[nmS,if_pos (by omega),if_neg (by unfold badC;omega)]
   rw[if_neg (by omega),e,Bool.and_comm]
   congr 1
   simp[h2]
  ·rw[if_pos (by omega),decide_eq_false (by omega:¬(1≤s.size∧s.size≤24∧97≤byt s 0∧byt s 0≤122))]
   simp
 ·rw[decide_eq_false (by omega),decide_eq_false (by omega)];simp
theorem valRf_eq(s:ByteArray):valRf s=valGo s:=by unfold valRf valGo;rw[Bool.and_comm]
theorem byt0(s:ByteArray)(i:Nat):((s[i]?).getD 0).toNat=byt s i:=rfl
theorem fc_name(s:ByteArray):FC Tryz.prog 129 [VS s] (app emp []) (VB (nameGo s)) (app emp []):=by
 refine .go Tryz.f129 ?_
 refine .bp [.r [],.r [(4,Xv 1 (!(seq s ({data:=#[]}))) X0),(5,Xv 1 (!(seq s ({data:=#[]}))) X0),(6,X (Xk' (seq s ({data:=#[]})))),(9,Xv 1 (!(seq s ({data:=#[]})||decide ((s.size:Int)> 24))) (Xb s 0) (fun hg=>by(try simp only[decide_eq_true_eq,decide_eq_false_iff_not,Int.not_lt,Int.not_le,gt_iff_lt,Bool.not_eq_true',Bool.not_eq_false',Bool.or_eq_true,Bool.or_eq_false_iff] at hg);exact⟨(by first|omega| (simp;omega)| (simp;done)|assumption),(str_pos (by first|exact hg|exact hg.1|exact hg.1.1))⟩)),(10,Xv 1 (!(seq s ({data:=#[]})||decide ((s.size:Int)> 24))) X0),(11,X (Xk' (seq s ({data:=#[]})||decide ((s.size:Int)> 24)))),(14,Xv 1 (!((seq s ({data:=#[]})||decide ((s.size:Int)> 24))||decide (((((s[0]?).getD 0).toNat:Nat):Int)< 97))) (Xb s 0) (fun hg=>by(try simp only[decide_eq_true_eq,decide_eq_false_iff_not,Int.not_lt,Int.not_le,gt_iff_lt,Bool.not_eq_true',Bool.not_eq_false',Bool.or_eq_true,Bool.or_eq_false_iff] at hg);exact⟨(by first|omega| (simp;omega)| (simp;done)|assumption),(str_pos (by first|exact hg|exact hg.1|exact hg.1.1))⟩)),(15,Xv 1 (!((seq s ({data:=#[]})||decide ((s.size:Int)> 24))||decide (((((s[0]?).getD 0).toNat:Nat):Int)< 97))) X0),(16,X (Xk' ((seq s ({data:=#[]})||decide ((s.size:Int)> 24))||decide (((((s[0]?).getD 0).toNat:Nat):Int)< 97))))]] (((seq s ({data:=#[]})||decide ((s.size:Int)> 24))||decide (((((s[0]?).getD 0).toNat:Nat):Int)< 97))||decide (((((s[0]?).getD 0).toNat:Nat):Int)> 122)) (fun h1=> ?_) (fun h1=> ?_)
 ·
  have e1:((nameGo s):Bool)=false:=by
   simp only[byt0,seq_mt,decide_eq_true_eq] at h1;unfold nameGo;rw[decide_eq_false (by omega)];rfl
  exact .finE [.r []] [] (fun z0:Bool=>(VB z0,[])) _ _ e1
 ·
  refine .loop (α:=Nat) [.r []] 168 (fun i=>([(0,VS s),(23,VI (s.size:Int)),(24,VI (i:Int))],[])) (fun i=>i≤s.size∧nmS s 0=nmS s i) (fun i=>s.size-i) (0:Nat) ?_ ?_
  ·
   exact⟨by omega,rfl⟩
  rintro i I4 ih4
  try dsimp only at I4
  refine .bp [.r []] (decide ((i:Int)< (s.size:Int))) (fun h4=> ?_) (fun h4=> ?_)
  ·
   refine .bp [.r [],.r [(2,X (Xb s (i:Int)))],.r [(4,Xv 1 (!(decide (((((s[i]?).getD 0).toNat:Nat):Int)< 97))) X0),(5,X (Xk' (decide (((((s[i]?).getD 0).toNat:Nat):Int)< 97)))),(8,Xv 1 (decide (((((s[i]?).getD 0).toNat:Nat):Int)< 97)||decide (((((s[i]?).getD 0).toNat:Nat):Int)> 122)) X0),(9,Xv 1 (decide (((((s[i]?).getD 0).toNat:Nat):Int)< 97)||decide (((((s[i]?).getD 0).toNat:Nat):Int)> 122)) X0),(11,Xv 1 ((decide (((((s[i]?).getD 0).toNat:Nat):Int)< 97)||decide (((((s[i]?).getD 0).toNat:Nat):Int)> 122))&& !(decide (((((s[i]?).getD 0).toNat:Nat):Int)< 48))) X0),(12,Xko (decide (((((s[i]?).getD 0).toNat:Nat):Int)< 97)||decide (((((s[i]?).getD 0).toNat:Nat):Int)> 122)) (decide (((((s[i]?).getD 0).toNat:Nat):Int)< 48))),(13,X (Xk (decide (((((s[i]?).getD 0).toNat:Nat):Int)< 97)||decide (((((s[i]?).getD 0).toNat:Nat):Int)> 122)))),(16,Xv 1 ((decide (((((s[i]?).getD 0).toNat:Nat):Int)< 97)||decide (((((s[i]?).getD 0).toNat:Nat):Int)> 122))&&(decide (((((s[i]?).getD 0).toNat:Nat):Int)< 48)||decide (((((s[i]?).getD 0).toNat:Nat):Int)> 57))) X0),(17,X (Xk ((decide (((((s[i]?).getD 0).toNat:Nat):Int)< 97)||decide (((((s[i]?).getD 0).toNat:Nat):Int)> 122))&&(decide (((((s[i]?).getD 0).toNat:Nat):Int)< 48)||decide (((((s[i]?).getD 0).toNat:Nat):Int)> 57))))),(20,Xv 1 (((decide (((((s[i]?).getD 0).toNat:Nat):Int)< 97)||decide (((((s[i]?).getD 0).toNat:Nat):Int)> 122))&&(decide (((((s[i]?).getD 0).toNat:Nat):Int)< 48)||decide (((((s[i]?).getD 0).toNat:Nat):Int)> 57)))&&(((((s[i]?).getD 0).toNat:Nat):Int) !=46)) X0),(21,X (Xk (((decide (((((s[i]?).getD 0).toNat:Nat):Int)< 97)||decide (((((s[i]?).getD 0).toNat:Nat):Int)> 122))&&(decide (((((s[i]?).getD 0).toNat:Nat):Int)< 48)||decide (((((s[i]?).getD 0).toNat:Nat):Int)> 57)))&&(((((s[i]?).getD 0).toNat:Nat):Int) !=46))))]] ((((decide (((((s[i]?).getD 0).toNat:Nat):Int)< 97)||decide (((((s[i]?).getD 0).toNat:Nat):Int)> 122))&&(decide (((((s[i]?).getD 0).toNat:Nat):Int)< 48)||decide (((((s[i]?).getD 0).toNat:Nat):Int)> 57)))&&(((((s[i]?).getD 0).toNat:Nat):Int) !=46))&&(((((s[i]?).getD 0).toNat:Nat):Int) !=45)) (fun h7=> ?_) (fun h7=> ?_)
   ·
    have e2:((nameGo s):Bool)=false:=by
     simp only[byt0] at h7;unfold nameGo;rw[I4.2,nmS,if_pos (by omega),if_pos (by unfold badC;omega)];simp
    exact .finE [.r []] [] (fun z0:Bool=>(VB z0,[])) _ _ e2
   ·
    refine .back [.r [(0,X (Xn ((i:Int)+1)))]] [] (ih4 ((i+1):Nat) ?_ ?_)
    ·
     simp only[byt0] at h7;refine⟨by omega,?_⟩;rw[I4.2,nmS,if_pos (by omega),if_neg (by unfold badC;omega)]
    ·
     ((try dsimp only);omega)
  ·
   have e3:((nameGo s):Bool)=true:=by
    simp only[byt0,seq_mt,decide_eq_false_iff_not] at h1;unfold nameGo;rw[I4.2,nmS,if_neg (by omega),decide_eq_true (by omega)];rfl
   exact .finE [.r []] [] (fun z0:Bool=>(VB z0,[])) _ _ e3
theorem fc_value(s:ByteArray):FC Tryz.prog 130 [VS s] (app emp []) (VB (valGo s)) (app emp []):=by
 refine .go Tryz.f130 ?_
 refine .bp [.r [],.r [(4,Xv 1 (!(seq s ({data:=#[]}))) X0),(5,Xv 1 (!(seq s ({data:=#[]}))) X0),(6,X (Xk' (seq s ({data:=#[]}))))]] (seq s ({data:=#[]})||decide ((s.size:Int)> 200)) (fun h1=> ?_) (fun h1=> ?_)
 ·
  have e1:((valGo s):Bool)=false:=by
   simp only[seq_mt,decide_eq_true_eq] at h1;unfold valGo;rw[decide_eq_false (by omega)];rfl
  exact .finE [.r []] [] (fun z0:Bool=>(VB z0,[])) _ _ e1
 ·
  refine .loop (α:=Nat) [.r []] 88 (fun i=>([(0,VS s),(12,VI (s.size:Int)),(13,VI (i:Int))],[])) (fun i=>i≤s.size∧vlS s 0=vlS s i) (fun i=>s.size-i) (0:Nat) ?_ ?_
  ·
   exact⟨by omega,rfl⟩
  rintro i I4 ih4
  try dsimp only at I4
  refine .bp [.r []] (decide ((i:Int)< (s.size:Int))) (fun h4=> ?_) (fun h4=> ?_)
  ·
   refine .bp [.r [],.r [(2,X (Xb s (i:Int))),(7,Xv 2 (!(decide (((((s[i]?).getD 0).toNat:Nat):Int)< 32))) (Xb s (i:Int))),(8,Xv 1 (!(decide (((((s[i]?).getD 0).toNat:Nat):Int)< 32))) X0),(9,X (Xk' (decide (((((s[i]?).getD 0).toNat:Nat):Int)< 32))))]] (decide (((((s[i]?).getD 0).toNat:Nat):Int)< 32)||decide (((((s[i]?).getD 0).toNat:Nat):Int)> 126)) (fun h6=> ?_) (fun h6=> ?_)
   ·
    have e2:((valGo s):Bool)=false:=by
     simp only[byt0] at h6;unfold valGo;rw[I4.2,vlS,if_pos (by omega),if_pos (by omega)];simp
    exact .finE [.r []] [] (fun z0:Bool=>(VB z0,[])) _ _ e2
   ·
    refine .back [.r [(0,X (Xn ((i:Int)+1)))]] [] (ih4 ((i+1):Nat) ?_ ?_)
    ·
     simp only[byt0] at h6;refine⟨by omega,?_⟩;rw[I4.2,vlS,if_pos (by omega),if_neg (by omega)]
    ·
     ((try dsimp only);omega)
  ·
   have e3:((valGo s):Bool)=true:=by
    simp only[seq_mt,decide_eq_false_iff_not] at h1;unfold valGo;rw[I4.2,vlS,if_neg (by omega),decide_eq_true (by omega)];rfl
   exact .finE [.r []] [] (fun z0:Bool=>(VB z0,[])) _ _ e3
def chkA(e:Bool)(l:List Attr)(i:Nat):Int:=
 if i<l.length then
  if nameGo (l.getD i default).name=false then 9
  else if valGo (l.getD i default).val=false∧(e=false∨seq (l.getD i default).val {data:=#[]}=false) then 23
  else if 0<i∧(slt (l.getD i default).name (l.getD (i- 1) default).name=true∨seq (l.getD i default).name (l.getD (i- 1) default).name=true) then 5
  else chkA e l (i+1)
 else 0
termination_by l.length-i
def Szd(l:List Attr):Prop:=∀a∈l,a.name.size≤9223372036854775807∧a.val.size≤9223372036854775807
theorem fc_chk(l:List Attr)(e:Bool):FC Tryz.prog 93 [VL 2 attrT l,VB e] (app emp []) (VI (chkA e l 0)) (app emp []):=by
 refine .go Tryz.f93 ?_
 refine .len 0 (fun hl0=> ?_)
 refine .loop (α:=Nat) [.r [],.r [(1,X (Xl attrT l))]] 32 (fun i=>([(0,VL 2 attrT l),(1,VB e),(7,VL 2 attrT l),(8,VI (l.length:Int)),(9,VI (i:Int))],[])) (fun i=>i≤l.length∧chkA e l 0=chkA e l i) (fun i=>l.length-i) (0:Nat) ?_ ?_
 ·
  exact⟨by omega,rfl⟩
 rintro i I2 ih2
 try dsimp only at I2
 refine .bp [.r []] (decide ((i:Int)< (l.length:Int))) (fun h2=> ?_) (fun h2=> ?_)
 ·
  refine .bp [.r [(1,X (Xi attrT l (i:Int)))],.r [(2,X (Xc0 (fc_name (((l.getD i default)).name)) X0))]] (!(nameGo (((l.getD i default)).name))) (fun h4=> ?_) (fun h4=> ?_)
  ·
   have e1:((chkA e l 0):Int)=9:=by
    rw[I2.2,chkA,if_pos (by omega),if_pos h4]
   exact .finE [.r []] [] (fun z0:Int=>(VI z0,[])) _ _ e1
  ·
   refine .bp [.r [(2,X (Xc0 (fc_value (((l.getD i default)).val)) X0)),(6,Xv 1 (!(valGo (((l.getD i default)).val))) X0),(8,Xv 1 ((!(valGo (((l.getD i default)).val)))&&e) X0),(9,Xv 1 ((!(valGo (((l.getD i default)).val)))&&e) X0),(10,Xka (!(valGo (((l.getD i default)).val))) e),(11,Xv 1 (!(valGo (((l.getD i default)).val))) X0),(12,X (Xk (!(valGo (((l.getD i default)).val)))))]] (!(valGo (((l.getD i default)).val))&& !(e&&seq (((l.getD i default)).val) ({data:=#[]}))) (fun h6=> ?_) (fun h6=> ?_)
   ·
    have e2:((chkA e l 0):Int)=23:=by
     rw[I2.2,chkA,if_pos (by omega),if_neg (by rw[h4];decide),if_pos h6]
    exact .finE [.r []] [] (fun z0:Int=>(VI z0,[])) _ _ e2
   ·
    refine .bp [.r [(4,Xv 1 (decide ((i:Int)> 0)) X0),(7,Xv 1 (decide ((i:Int)> 0)) (Xn ((i:Int)- 1))),(8,Xv 2 (decide ((i:Int)> 0)) (Xi' attrT l ((i:Int)- 1) (i- 1))),(9,Xv 1 (decide ((i:Int)> 0)) X0),(10,Xv 1 (decide ((i:Int)> 0)) X0),(11,Xv 2 (decide ((i:Int)> 0)) X0),(12,X (Xk (decide ((i:Int)> 0))))]] (decide ((i:Int)> 0)&&(slt (((l.getD i default)).name) (((l.getD (i- 1) default)).name)||seq (((l.getD i default)).name) (((l.getD (i- 1) default)).name))) (fun h8=> ?_) (fun h8=> ?_)
    ·
     have e3:((chkA e l 0):Int)=5:=by
      rw[I2.2,chkA,if_pos (by omega),if_neg (by rw[h4];decide),if_neg (by clear ih2;rintro⟨a,b⟩;simp_all),if_pos ⟨by omega,h8.2⟩]
     exact .finE [.r []] [] (fun z0:Int=>(VI z0,[])) _ _ e3
    ·
     refine .back [.r [(0,X (Xn ((i:Int)+1)))]] [] (ih2 ((i+1):Nat) ?_ ?_)
     ·
      refine⟨by omega,?_⟩;rw[I2.2,chkA,if_pos (by omega),if_neg (by rw[h4];decide),if_neg (by clear ih2;rintro⟨a,b⟩;simp_all),if_neg (by clear ih2;rintro⟨a,b⟩;rcases h8 with h| ⟨h,h2⟩;omega;rcases b with b|b<;>simp_all)]
     ·
      ((try dsimp only);omega)
 ·
  have e4:((chkA e l 0):Int)=0:=by
   rw[I2.2,chkA,if_neg (by omega)]
  exact .finE [.r []] [] (fun z0:Int=>(VI z0,[])) _ _ e4
theorem fc_acheck(l:List Attr):FC Tryz.prog 50 [VL 2 attrT l] (app emp []) (VI (chkA false l 0)) (app emp []):=by
 refine .go Tryz.f50 ?_
 refine .len 0 (fun hl0=> ?_)
 exact .fin [.r [],.r [(1,X (Xc0 (fc_chk l false) X0))]] []
def errA(e:Bool)(l:List Attr)(i:Nat):Int:=
 if i<l.length then
  if nameRf (l.getD i default).name=false then 9
  else if valRf (l.getD i default).val=false∧(e=false∨seq (l.getD i default).val {data:=#[]}=false) then 23
  else if 0<i∧slt (l.getD (i- 1) default).name (l.getD i default).name=false then 5
  else errA e l (i+1)
 else 0
termination_by l.length-i
theorem slt_or(a b:ByteArray):(slt a b=true∨seq a b=true)↔slt b a=false:=by
 constructor
 ·rintro(h|h)
  ·exact slt_asymm h
  ·rw[seq_iff] at h;subst h;exact slt_irr _
 ·intro h
  cases k:slt a b with
  |true=>exact .inl rfl
  |false=>exact .inr (seq_iff.2 (slt_tri k h))
theorem errA_eq(e:Bool)(l:List Attr):∀(n i:Nat),l.length-i=n→errA e l i=chkA e l i
 |0,i,h=>by rw[errA,chkA,if_neg (by omega),if_neg (by omega)]
 |n+1,i,h=>by
  have hi:i<l.length:=by omega
  rw[errA,chkA,if_pos hi,if_pos hi,errA_eq e l n (i+1) (by omega)]
  simp only[nameRf_eq,valRf_eq,slt_or]
def sameA(a b:List Attr)(i:Nat):Bool:=
 if i<a.length then(if(a.getD i default).name=(b.getD i default).name∧(a.getD i default).val=(b.getD i default).val then sameA a b (i+1) else false) else true
termination_by a.length-i
def sameL(a b:List Attr):Bool:=decide (a.length=b.length)&&sameA a b 0
def getA(l:List Attr)(n:ByteArray)(i:Nat):ByteArray:=
 if i<l.length then(if(l.getD i default).name=n then(l.getD i default).val else getA l n (i+1)) else mt
termination_by l.length-i
theorem drop_at{l:List Attr}{i:Nat}(h:i<l.length):l.drop i=l.getD i default::l.drop (i+1):=by
 rw[List.drop_eq_getElem_cons h];simp[List.getD,List.getElem?_eq_getElem h]
theorem drop_end{l:List Attr}{i:Nat}(h:¬i<l.length):l.drop i=[]:=List.drop_eq_nil_of_le (by omega)
theorem fm_a{g:Attr→Attr→Option Attr}{a b:List Attr}{i j:Nat}(hi:i<a.length)(h:b.length≤j∨slt (a.getD i default).name (b.getD j default).name=true):
 fm g (a.drop i) (b.drop j)=(g (a.getD i default) ⟨mt,mt⟩).toList++fm g (a.drop (i+1)) (b.drop j):=by
 unfold fm
 rw[drop_at hi]
 by_cases hj:j<b.length
 ·rw[drop_at hj,bothL,if_pos (by rcases h with h|h;omega;exact h),fm_cons];rfl
 ·rw[drop_end hj,bothL,fm_cons];rfl
theorem fm_b{g:Attr→Attr→Option Attr}{a b:List Attr}{i j:Nat}(hj:j<b.length)(h0:i<a.length→slt (a.getD i default).name (b.getD j default).name=false)(h:a.length≤i∨slt (b.getD j default).name (a.getD i default).name=true):
 fm g (a.drop i) (b.drop j)=(g ⟨mt,mt⟩ (b.getD j default)).toList++fm g (a.drop i) (b.drop (j+1)):=by
 unfold fm
 rw[drop_at hj]
 by_cases hi:i<a.length
 ·rw[drop_at hi,bothL,if_neg (by rw[h0 hi];decide),if_pos (by rcases h with h|h;omega;exact h),fm_cons];rfl
 ·rw[drop_end hi,bothL,fm_cons];rfl
theorem fm_ab{g:Attr→Attr→Option Attr}{a b:List Attr}{i j:Nat}(hi:i<a.length)(hj:j<b.length)(h0:slt (a.getD i default).name (b.getD j default).name=false)(h:slt (b.getD j default).name (a.getD i default).name=false):
 fm g (a.drop i) (b.drop j)=(g (a.getD i default) (b.getD j default)).toList++fm g (a.drop (i+1)) (b.drop (j+1)):=by
 unfold fm
 rw[drop_at hi,drop_at hj,bothL,if_neg (by rw[h0];decide),if_neg (by rw[h];decide),fm_cons]
theorem fm_end{g:Attr→Attr→Option Attr}{a b:List Attr}{i j:Nat}(hi:a.length≤i)(hj:b.length≤j):fm g (a.drop i) (b.drop j)=[]:=by
 unfold fm
 rw[drop_end (by omega),drop_end (by omega),bothL];rfl
theorem toList_le{o:Option Attr}:o.toList.length≤1:=by cases o<;>simp
theorem fm_len(g:Attr→Attr→Option Attr)(a b:List Attr):(fm g a b).length≤a.length+b.length:=
 Nat.le_trans (List.length_filterMap_le _ _) (bothL_len a b)
theorem fc_get(l:List Attr)(n:ByteArray):FC Tryz.prog 97 [VL 2 attrT l,VS n] (app emp []) (VS (getA l n 0)) (app emp []):=by
 refine .go Tryz.f97 ?_
 refine .len 0 (fun hl0=> ?_)
 refine .loop (α:=Nat) [.r [],.r [(1,X (Xl attrT l))]] 32 (fun i=>([(1,VS n),(7,VL 2 attrT l),(8,VI (l.length:Int)),(9,VI (i:Int))],[])) (fun i=>i≤l.length∧getA l n 0=getA l n i) (fun i=>l.length-i) (0:Nat) ?_ ?_
 ·
  exact⟨by omega,rfl⟩
 rintro i I2 ih2
 try dsimp only at I2
 refine .bp [.r []] (decide ((i:Int)< (l.length:Int))) (fun h2=> ?_) (fun h2=> ?_)
 ·
  refine .bp [.r [(0,X (Xi attrT l (i:Int)))],.r []] (seq (((l.getD i default)).name) n) (fun h4=> ?_) (fun h4=> ?_)
  ·
   have e1:((getA l n 0):ByteArray)=((l.getD i default)).val:=by
    rw[I2.2,getA,if_pos (by omega),if_pos (seq_iff.1 h4)]
   exact .finE [.r []] [] (fun z0:ByteArray=>(VS z0,[])) _ _ e1
  ·
   refine .back [.r [(0,X (Xn ((i:Int)+1)))]] [] (ih2 ((i+1):Nat) ?_ ?_)
   ·
    refine⟨by omega,?_⟩;rw[I2.2,getA,if_pos (by omega),if_neg (seq_no.1 h4)]
   ·
    ((try dsimp only);omega)
 ·
  have e2:((getA l n 0):ByteArray)={data:=#[]}:=by
   rw[I2.2,getA,if_neg (by omega)]
  exact .finE [.r []] [] (fun z0:ByteArray=>(VS z0,[])) _ _ e2
end Go.Ch
end
section
set_option linter.unusedVariables false
set_option linter.unusedSimpArgs false
set_option maxRecDepth 100000
set_option maxHeartbeats 4000000
open Go Go.Proofs Go.Ab
namespace Go.Ch
theorem fc_both(f:FuncId)(g:Attr→Attr→Option Attr)(hfc:callable Tryz.prog f=true)(hf:∀(o:List Attr) (x y:Attr),o.length<1099511627776→FC Tryz.prog f [.t (attrT x),.t (attrT y),.ptr 0 0] (app emp [(0,.box [.row 1 o.length]),(1,.row 2 false (List.map attrT o))]) (.tup []) (app emp [(0,.box [.row 1 (o++(g x y).toList).length]),(1,.row 2 false (List.map attrT (o++(g x y).toList)))]))(a b o:List Attr)(hn:o.length+a.length+b.length<1099511627776):FC Tryz.prog 133 [VL 2 attrT a,VL 2 attrT b,.fn f [.ptr 0 0]] (app emp [(0,.box [.row 1 o.length]),(1,OR 2 attrT o)]) (.tup []) (app emp [(0,.box [.row 1 ((o++fm g a b).length)]),(1,OR 2 attrT (o++fm g a b))]):=by
 refine .go Tryz.f133 ?_
 refine .len 0 (fun hl0=> ?_)
 refine .len 1 (fun hl1=> ?_)
 refine .loop (α:=Nat×Nat×(List Attr)) [.r []] 18 (fun(i,j,p)=>([(0,VL 2 attrT a),(1,VL 2 attrT b),(2,.fn f [.ptr 0 0]),(6,VI (i:Int)),(7,VI (j:Int))],[(0,.box [.row 1 p.length]),(1,OR 2 attrT p)])) (fun(i,j,p)=>i≤a.length∧j≤b.length∧p.length≤o.length+i+j∧o++fm g a b=p++fm g (a.drop i) (b.drop j)) (fun(i,j,p)=>(a.length-i)+(b.length-j)) (0,0,o) ?_ ?_
 ·
  exact⟨by omega,by omega,by omega,rfl⟩
 rintro⟨i,j,p⟩ I1 ih1
 try dsimp only at I1
 refine .bp [.r [(2,X (Xl attrT a)),(7,Xv 1 (!(decide ((i:Int)< (a.length:Int)))) (Xl attrT b)),(8,Xv 2 (!(decide ((i:Int)< (a.length:Int)))) X0),(9,X (Xk' (decide ((i:Int)< (a.length:Int)))))]] (decide ((i:Int)< (a.length:Int))||decide ((j:Int)< (b.length:Int))) (fun h1=> ?_) (fun h1=> ?_)
 ·
  refine .bp [.r [(2,X (Xl attrT b)),(7,Xv 1 (!((j:Int)==(b.length:Int))) (Xl attrT a)),(8,Xv 2 (!((j:Int)==(b.length:Int))) X0),(9,Xv 1 (!((j:Int)==(b.length:Int))) X0),(12,Xv 2 ((!((j:Int)==(b.length:Int)))&&(decide ((i:Int)< (a.length:Int)))) (Xi attrT a (i:Int))),(13,Xv 1 ((!((j:Int)==(b.length:Int)))&&(decide ((i:Int)< (a.length:Int)))) X0),(14,Xv 1 ((!((j:Int)==(b.length:Int)))&&(decide ((i:Int)< (a.length:Int)))) X0),(17,Xv 2 ((!((j:Int)==(b.length:Int)))&&(decide ((i:Int)< (a.length:Int)))) (Xi attrT b (j:Int))),(18,Xv 1 ((!((j:Int)==(b.length:Int)))&&(decide ((i:Int)< (a.length:Int)))) X0),(19,Xv 1 ((!((j:Int)==(b.length:Int)))&&(decide ((i:Int)< (a.length:Int)))) X0),(20,Xv 2 ((!((j:Int)==(b.length:Int)))&&(decide ((i:Int)< (a.length:Int)))) X0),(21,Xka (!((j:Int)==(b.length:Int))) (decide ((i:Int)< (a.length:Int)))),(22,X (Xk' ((j:Int)==(b.length:Int))))]] (((j:Int)==(b.length:Int))|| (decide ((i:Int)< (a.length:Int))&&slt (((a.getD i default)).name) (((b.getD j default)).name))) (fun h4=> ?_) (fun h4=> ?_)
  ·
   refine .back [.r [(3,X (Xi attrT a (i:Int))),(6,X (Xc3 338 [(0,0),(1,1)] (hf p ((a.getD i default)) ({name:={data:=#[]},val:={data:=#[]}}:Attr) (by first|omega| (simp;omega))) X0 (hc:=hfc)))],.r [(1,X (Xn ((i:Int)+1)))]] [(0,0),(1,1)] (ih1 ((i+1),j,(p++(g ((a.getD i default)) ({name:={data:=#[]},val:={data:=#[]}}:Attr)).toList)) ?_ ?_)
   ·
    have hi:i<a.length:=by omega
    have hg:=toList_le (o:=g (a.getD i default) ⟨{data:=#[]},{data:=#[]}⟩)
    have e:=fm_a (g:=g) (a:=a) (b:=b) (j:=j) hi (by rcases h4 with h|h;(left;omega);exact .inr h.2)
    refine⟨by omega,by omega,by simp only[List.length_append];omega,?_⟩
    rw[I1.2.2.2,e,List.append_assoc]
   ·
    ((try dsimp only);omega)
  ·
   refine .bp [.r [(2,X (Xl attrT a)),(7,Xv 2 (!((i:Int)==(a.length:Int))) (Xi attrT b (j:Int))),(8,Xv 1 (!((i:Int)==(a.length:Int))) X0),(9,Xv 1 (!((i:Int)==(a.length:Int))) X0),(12,Xv 2 (!((i:Int)==(a.length:Int))) (Xi attrT a (i:Int))),(13,Xv 1 (!((i:Int)==(a.length:Int))) X0),(14,Xv 1 (!((i:Int)==(a.length:Int))) X0),(15,Xv 2 (!((i:Int)==(a.length:Int))) X0),(16,X (Xk' ((i:Int)==(a.length:Int))))]] (((i:Int)==(a.length:Int))||slt (((b.getD j default)).name) (((a.getD i default)).name)) (fun h7=> ?_) (fun h7=> ?_)
   ·
    refine .back [.r [(4,X (Xi attrT b (j:Int))),(6,X (Xc3 482 [(0,0),(1,1)] (hf p ({name:={data:=#[]},val:={data:=#[]}}:Attr) ((b.getD j default)) (by first|omega| (simp;omega))) X0 (hc:=hfc)))],.r [(1,X (Xn ((j:Int)+1)))]] [(0,0),(1,1)] (ih1 (i,(j+1),(p++(g ({name:={data:=#[]},val:={data:=#[]}}:Attr) ((b.getD j default))).toList)) ?_ ?_)
    ·
     have hj:j<b.length:=by omega
     have hg:=toList_le (o:=g ⟨{data:=#[]},{data:=#[]}⟩ (b.getD j default))
     have e:=fm_b (g:=g) (a:=a) (b:=b) (i:=i) hj (fun hi=>by rcases h4.2 with h|h;omega;exact h) (by rcases h7 with h|h;(left;omega);exact .inr h)
     refine⟨by omega,by omega,by simp only[List.length_append];omega,?_⟩
     rw[I1.2.2.2,e,List.append_assoc]
    ·
     ((try dsimp only);omega)
   ·
    refine .back [.r [(3,X (Xi attrT a (i:Int))),(7,X (Xi attrT b (j:Int))),(9,X (Xc3 506 [(0,0),(1,1)] (hf p ((a.getD i default)) ((b.getD j default)) (by first|omega| (simp;omega))) X0 (hc:=hfc)))],.r [(1,X (Xn ((i:Int)+1))),(3,X (Xn ((j:Int)+1)))]] [(0,0),(1,1)] (ih1 ((i+1),(j+1),(p++(g ((a.getD i default)) ((b.getD j default))).toList)) ?_ ?_)
    ·
     have hi:i<a.length:=by omega
     have hj:j<b.length:=by omega
     have hg:=toList_le (o:=g (a.getD i default) (b.getD j default))
     have e:=fm_ab (g:=g) (a:=a) (b:=b) hi hj (by rcases h4.2 with h|h;omega;exact h) h7.2
     refine⟨by omega,by omega,by simp only[List.length_append];omega,?_⟩
     rw[I1.2.2.2,e,List.append_assoc]
    ·
     ((try dsimp only);omega)
 ·
  have e1:((o++fm g a b).length:Nat)=p.length:=by
   rw[I1.2.2.2,fm_end (by omega) (by omega),List.append_nil]
  have e2:((o++fm g a b):List Attr)=p:=by
   rw[I1.2.2.2,fm_end (by omega) (by omega),List.append_nil]
  exact .finE [] [(0,0),(1,1)] (fun((z0,z1):Nat×(List Attr))=>(.tup [],[(0,.box [.row 1 z0]),(1,OR 2 attrT z1)])) _ _ (pr e1 e2)
theorem fc_rawG(o:List Attr)(x y:Attr)(hn:o.length<1099511627776):FC Tryz.prog 134 [.t (attrT x),.t (attrT y),.ptr 0 0] (app emp [(0,.box [.row 1 o.length]),(1,OR 2 attrT o)]) (.tup []) (app emp [(0,.box [.row 1 ((o++(rawG x y).toList).length)]),(1,OR 2 attrT (o++(rawG x y).toList))]):=by
 refine .go Tryz.f134 ?_
 refine .bp [.r [],.r []] (seq y.name ({data:=#[]})) (fun h1=> ?_) (fun h1=> ?_)
 ·
  have e1:((o++(rawG x y).toList).length:Nat)=(o++[x]).length:=by
   simp only[seq_iff,seq_no] at*;unfold rawG;(repeat' split)<;>simp_all
  have e2:((o++(rawG x y).toList):List Attr)=(o++[x]):=by
   simp only[seq_iff,seq_no] at*;unfold rawG;(repeat' split)<;>simp_all
  exact .finE [.r [(3,X (rowC attrT [x] (Xap 2 attrT 1 o [x])))]] [(0,0),(1,1)] (fun((z0,z1):Nat×(List Attr))=>(.tup [],[(0,.box [.row 1 z0]),(1,OR 2 attrT z1)])) _ _ (pr e1 e2)
 ·
  refine .bp [.r []] (!(seq y.val ({data:=#[]}))) (fun h3=> ?_) (fun h3=> ?_)
  ·
   have e3:((o++(rawG x y).toList).length:Nat)=(o++[y]).length:=by
    simp only[seq_iff,seq_no] at*;unfold rawG;(repeat' split)<;>simp_all
   have e4:((o++(rawG x y).toList):List Attr)=(o++[y]):=by
    simp only[seq_iff,seq_no] at*;unfold rawG;(repeat' split)<;>simp_all
   exact .finE [.r [(3,X (rowC attrT [y] (Xap 2 attrT 1 o [y])))]] [(0,0),(1,1)] (fun((z0,z1):Nat×(List Attr))=>(.tup [],[(0,.box [.row 1 z0]),(1,OR 2 attrT z1)])) _ _ (pr e3 e4)
  ·
   have e5:((o++(rawG x y).toList).length:Nat)=o.length:=by
    simp only[seq_iff,seq_no] at*;unfold rawG;(repeat' split)<;>simp_all
   have e6:((o++(rawG x y).toList):List Attr)=o:=by
    simp only[seq_iff,seq_no] at*;unfold rawG;(repeat' split)<;>simp_all
   exact .finE [] [(0,0),(1,1)] (fun((z0,z1):Nat×(List Attr))=>(.tup [],[(0,.box [.row 1 z0]),(1,OR 2 attrT z1)])) _ _ (pr e5 e6)
theorem fc_raw(a b:List Attr)(hn:a.length+b.length<1099511627776):FC Tryz.prog 98 [VL 2 attrT a,VL 2 attrT b] (app emp []) (VL 2 attrT (fm rawG a b)) (app emp []):=by
 refine .go Tryz.f98 ?_
 refine .len 0 (fun hl0=> ?_)
 refine .len 1 (fun hl1=> ?_)
 exact .fin [.r [],.r [],.le (.nB 8 0 2),.r [(3,X (Xc3 41 [(0,8),(1,16)] (fc_both 134 rawG (by kernel_rfl) fc_rawG a b [] (by simp;omega)) X0))],.r [],.le (.fr 4 [(((fm rawG a b).length):Nat)=(List.map attrT (fm rawG a b)).length] ⟨lm,trivial⟩)] []
end Go.Ch
end
section
set_option linter.unusedVariables false
set_option linter.unusedSimpArgs false
set_option maxRecDepth 100000
set_option maxHeartbeats 4000000
open Go Go.Proofs Go.Ab
namespace Go.Ch
end Go.Ch
end
section
set_option linter.unusedVariables false
set_option linter.unusedSimpArgs false
namespace Go.Ch
open Go Go.Ab
theorem sameA_self(a:List Attr):∀(n i:Nat),a.length-i=n→sameA a a i=true
 |0,i,h=>by rw[sameA,if_neg (by omega)]
 |n+1,i,h=>by
  have hi:i<a.length:=by omega
  rw[sameA,if_pos hi,if_pos ⟨rfl,rfl⟩,sameA_self a n (i+1) (by omega)]
theorem sameL_self(a:List Attr):sameL a a=true:=by unfold sameL;rw[sameA_self a _ 0 rfl];simp
end Go.Ch
end
section
set_option linter.unusedVariables false
set_option linter.unusedSimpArgs false
namespace Go.Ch
open Go Go.Ab
structure Elem where
 char:Int
 ref:Int
 attrs:List Attr
instance:Inhabited Elem:=⟨⟨0,0,[]⟩⟩
def elemT(e:Elem):Tree:= .agg [.sc (.int .i64 e.char),.sc (.int .i64 e.ref),.lst 2 (e.attrs.map attrT)]
def CharP(c:Int):Prop:=c=9∨c=10∨(32≤c∧c<127)∨(160≤c∧c<55296)∨(57343<c∧c≤1114111)
instance (c:Int):Decidable (CharP c):=by unfold CharP;infer_instance
def elemE(x:Elem):Int:=
 if x.char=0↔x.ref=0 then 4
 else if(x.ref=0∧¬CharP x.char)∨(x.ref≠0∧(x.ref<1∨1073741824<x.ref)) then 2
 else chkA false x.attrs 0
theorem elemE_4{x:Elem}(h:x.char=0↔x.ref=0):elemE x=4:=by unfold elemE;rw[if_pos h]
theorem elemE_2{x:Elem}(h:¬(x.char=0↔x.ref=0))(h2:(x.ref=0∧¬CharP x.char)∨(x.ref≠0∧(x.ref<1∨1073741824<x.ref))):elemE x=2:=by unfold elemE;rw[if_neg h,if_pos h2]
theorem elemE_c{x:Elem}(h:¬(x.char=0↔x.ref=0))(h3:¬x.ref=0∨CharP x.char)(h4:x.ref=0∨(1≤x.ref∧x.ref≤1073741824)):elemE x=chkA false x.attrs 0:=by
 unfold elemE
 rw[if_neg h,if_neg]
 rintro(⟨a,b⟩| ⟨a,b⟩)
 ·rcases h3 with h3|h3
  ·exact h3 a
  ·exact b h3
 ·rcases h4 with h4|h4
  ·exact a h4
  ·omega
def partE(l:List Elem)(i:Nat):Int:=if i<l.length then(if elemE (l.getD i default)=0 then partE l (i+1) else elemE (l.getD i default)) else 0
termination_by l.length-i
def SzE(l:List Elem):Prop:=∀x∈l,Szd x.attrs
theorem getDE_mem{l:List Elem}{k:Nat}(h:k<l.length):l.getD k default∈l:=by
 rw[show l.getD k default=l[k] by simp[List.getD,List.getElem?_eq_getElem h]]
 exact List.getElem_mem h
theorem sameA_all(a b:List Attr):∀(n i:Nat),a.length-i=n→sameA a b i=true→∀k,i≤k→k<a.length→a.getD k default=b.getD k default
 |0,i,h,_=>fun k h1 h2=>by omega
 |n+1,i,h,hs=>by
  have hi:i<a.length:=by omega
  rw[sameA,if_pos hi] at hs
  split at hs
  ·rename_i he
   intro k h1 h2
   by_cases e:k=i
   ·subst e
    generalize a.getD k default=x at*
    generalize b.getD k default=y at*
    cases x;cases y;simp_all
   ·exact sameA_all a b n (i+1) (by omega) hs k (by omega) h2
  ·cases hs
theorem sameL_eq{a b:List Attr}:sameL a b=true↔a=b:=by
 constructor
 ·intro h
  unfold sameL at h
  simp only[Bool.and_eq_true,decide_eq_true_eq] at h
  refine List.ext_getElem h.1 (fun k h1 h2=> ?_)
  have:=sameA_all a b _ 0 rfl h.2 k (by omega) h1
  simpa[List.getD,List.getElem?_eq_getElem h1,List.getElem?_eq_getElem h2] using this
 ·intro h;subst h;exact sameL_self _
end Go.Ch
end
section
set_option linter.unusedVariables false
namespace Go.Ab
variable {P:Program}
structure KN(st:Store)(m:Place)(z:Nat)(st':Store)(m':Place):Prop where
 keep:∀id o,st id=some o→∃o',st' id=some o'∧o.len≤o'.len∧(o.len=o'.len→m' id=m id)∧(o.live=false→o'.live=false)∧
  (∀b,m'.has id b→m.has id b∨z≤b∨∃i oi,st i=some oi∧oi.live=true∧m.has i b)∧o.same o'
 new:∀id o,st' id=some o→st id=none→∀b,m'.has id b→z≤b∨∃i oi,st i=some oi∧oi.live=true∧m.has i b
theorem KN.refl(st:Store)(m:Place)(z:Nat):KN st m z st m:=⟨fun _ o h=>⟨o,h,Nat.le_refl _,fun _=>rfl,id,fun _ q=> .inl q,o.same_refl⟩,fun id o h h'=>by rw[h'] at h;cases h⟩
theorem FrameExt.kn{F:Fen P}{st st':Store}{m m':Place}{w w':World}(h:FrameExt F st m w st' m' w'):KN st m w.heap.size st' m':=⟨h.keep,h.new⟩
theorem KN.back{st st':Store}{m m':Place}{z:Nat}(h:KN st m z st' m'){i b:Nat}{oi:Ob}(hi:st' i=some oi)(hl:oi.live=true)(hb:m'.has i b):z≤b∨∃j oj,st j=some oj∧oj.live=true∧m.has j b:=by
 cases h0:st i with
 |none=>exact h.new i oi hi h0 b hb
 |some o=>
  obtain⟨o',ho',_,_,hlv,hpl,_⟩:=h.keep i o h0
  rw[hi] at ho'
  cases ho'
  have hol:o.live=true:=by
   cases hh:o.live with
   |true=>rfl
   |false=>rw[hlv hh] at hl;cases hl
  rcases hpl b hb with hp|hp|hp
  ·exact .inr ⟨i,o,h0,hol,hp⟩
  ·exact .inl hp
  ·exact .inr hp
theorem KN.trans{st st1 st2:Store}{m m1 m2:Place}{z z1:Nat}(h:KN st m z st1 m1)(k:KN st1 m1 z1 st2 m2)(hz:z≤z1):KN st m z st2 m2:=by
 have two:∀b,(z1≤b∨∃i oi,st1 i=some oi∧oi.live=true∧m1.has i b)→z≤b∨∃i oi,st i=some oi∧oi.live=true∧m.has i b:=by
  rintro b (q| ⟨i,oi,q1,q2,q3⟩)
  ·exact .inl (by omega)
  ·exact h.back q1 q2 q3
 refine⟨fun id o ho=> ?_,fun id o ho hn b hb=> ?_⟩
 ·obtain⟨o1,ho1,hl,hm,hlv,hpl,hsh⟩:=h.keep id o ho
  obtain⟨o2,ho2,hl',hm',hlv',hpl',hsh'⟩:=k.keep id o1 ho1
  refine⟨o2,ho2,Nat.le_trans hl hl',fun e=> ?_,fun e=>hlv' (hlv e),fun b hb=> ?_,Ob.same_trans hsh hsh'⟩
  ·rw[hm' (by omega),hm (by omega)]
  ·rcases hpl' b hb with hp|hp
   ·exact hpl b hp
   ·exact .inr (two b hp)
 ·cases h1:st1 id with
  |none=>exact two b (k.new id o ho h1 b hb)
  |some o1=>
   obtain⟨o2,_,_,_,_,hpl,_⟩:=k.keep id o1 h1
   rcases hpl b hb with hp|hp
   ·exact h.new id o1 h1 hn b hp
   ·exact two b hp
theorem SRel.fence{F1 F2:Fen P}{st:Store}{m:Place}{w:World}(hS:SRel F1 st m w)(hok:∀b,okB F1 st m w b→okB F2 st m w b)(ha:∀id o b,st id=some o→m.has id b→¬F2 b)(hl:∀b,F2 b→b<w.heap.size)
 (hh:∀b o,F2.says b o→w.heap[b]? =some o):SRel F2 st m w:=
 ⟨fun id o ho=>(hS.objs id o ho).ext (fun _ _ h=>⟨h,rfl⟩) hok,hS.inj,ha,hS.lt,hl,hh⟩
structure Pk(P:Program) where
 F:Fen P
 w0:World
 g0:List Nat
 gC:List Nat
 X:Nat→Prop
 hX:∀b,X b→b∈g0
 St:List (List Tree)→Store
 S0:Store
 m0:Place
 va:Nat→AVal
 vu:Nat→Value
 E:List (List Tree)→World→Prop
 hE:∀pre w w',E pre w→(∀b∈g0,w'.heap[b]? =w.heap[b]?)→E pre w'
 sD:∀b o,F.says b o→b<w0.heap.size∧b∉g0∧b∉gC
 low:∀b,F b→b<w0.heap.size
 rnd:Option Nat
variable {k:Pk P} {g:List Nat} {z:Nat} {st:Store} {m:Place} {w w':World} {b:Nat}
def Pk.D(k:Pk P)(b:Nat):Prop:=b<k.w0.heap.size∧b∉k.g0∧b∉k.gC∧¬k.F.bar b
def Pk.may(k:Pk P)(g:List Nat)(b:Nat):Prop:=(b∈g∧¬k.X b)∨k.D b
def Pk.fy(k:Pk P)(g:List Nat)(z:Nat):Fen P where
 mem b:=k.F b∨(b<z∧¬k.may g b)
 bar b:=b<z∧¬k.may g b∧∀x,¬k.F.says b x
 says:=k.F.says
 sub b o h:= .inl (k.F.sub b o h)
 sup b h:= .inr ⟨h.1,h.2.1⟩
 tab:=k.F.tab
 opn b o h hb:=hb.2.2 o h
 cel:=k.F.cel
 rnd:=k.rnd
 lo:=0
theorem Pk.saysD{o:Obj}(h:k.F.says b o):k.D b:=⟨(k.sD b o h).1,(k.sD b o h).2.1,(k.sD b o h).2.2,k.F.opn b o h⟩
theorem Pk.ok_may(h:okB (k.fy g z) st m w b)(hz:b<z):k.may g b:=Classical.byContradiction fun hn=>h.2.1 ⟨hz,hn,fun x hx=>hn (.inr (Pk.saysD hx))⟩
theorem Pk.ok_mk(h:b<w.heap.size)(hm:k.may g b)(hl:∀id o,st id=some o→o.live=true→¬m.has id b):okB (k.fy g z) st m w b:=⟨h,fun hb=>hb.2.1 hm,hl⟩
structure Pk.At(k:Pk P)(pre:List (List Tree))(g:List Nat)(m:Place)(w:World):Prop where
 rel:SRel (k.fy g w.heap.size) (k.St pre) m w
 kn:KN k.S0 k.m0 k.w0.heap.size (k.St pre) m
 own:∀id o b,k.St pre id=some o→m.has id b→b∈g∧¬k.X b
 g0:∀b∈k.g0,b∈g
 gn:∀b∈g,b∈k.g0∨k.w0.heap.size≤b
 gl:∀b∈g,b<w.heap.size
 sz:k.w0.heap.size≤w.heap.size
 val:∀t,VRel (k.St pre) m w (okB (k.fy g w.heap.size) (k.St pre) m w) (k.va t) (k.vu t)
theorem Pk.At.move{pre:List (List Tree)}(h:k.At pre g m w)(hsz:w.heap.size≤w'.heap.size)(hs:Still (okB (k.fy g w.heap.size) (k.St pre) m w) w w')(hb:∀id o b,k.St pre id=some o→m.has id b→w'.heap[b]? =w.heap[b]?)
 (hx:∀id Y p,k.St pre id=some (.ext Y p)→Y.holds p (m.g id) w→(∀b,Y.D b→okB (k.fy g w.heap.size) (k.St pre) m w b)→Y.holds p (m.g id) w'):k.At pre g m w':=by
 have hok:∀b,okB (k.fy g w.heap.size) (k.St pre) m w b→okB (k.fy g w'.heap.size) (k.St pre) m w' b:=fun b hb=>Pk.ok_mk (by have:=hb.1;omega) (Pk.ok_may hb hb.1) hb.2.2
 refine⟨⟨fun id o ho=>(h.rel.objs id o ho).still hok hs (fun Y p e=>hx id Y p (e▸ho)) (fun b q=>hb id o b ho q),h.rel.inj,fun id o b ho hm hf=> ?_,fun id o b ho hm=>Nat.lt_of_lt_of_le (h.rel.lt id o b ho hm) hsz,fun b hf=> ?_,fun b o hh=> ?_⟩,h.kn,h.own,h.g0,h.gn,
  fun b q=>Nat.lt_of_lt_of_le (h.gl b q) hsz,Nat.le_trans h.sz hsz,fun t=>(h.val t).still hok hs⟩
 ·rcases hf with hf|hf
  ·exact h.rel.avoid id o b ho hm (.inl hf)
  ·exact hf.2 (.inl (h.own id o b ho hm))
 ·rcases hf with hf|hf
  ·have:=k.low b hf;have:=h.sz;omega
  ·exact hf.1
 ·have h1:=h.rel.hold b o hh
  obtain⟨us,e,z,rfl⟩:=k.F.cel b o hh
  have hlt:=(Array.getElem?_eq_some_iff.1 h1).1
  by_cases hlv:∃id o,k.St pre id=some o∧o.live=true∧m.has id b
  ·obtain⟨id,o,q1,q2,q3⟩:=hlv
   rw[hb id o b q1 q3];exact h1
  ·rw[hs b us e z (Pk.ok_mk hlt (.inr (Pk.saysD hh)) (fun id o q1 q2 q3=>hlv ⟨id,o,q1,q2,q3⟩)) h1];exact h1
def Pk.holds(k:Pk P)(pre:List (List Tree))(g:List Nat)(w:World):Prop:=(∃m,k.At pre g m w)∧k.E pre w
def Pk.spec(k:Pk P)(fn:Value)(kind:(∃f cap,fn= .func (.func f) #[] cap)∨∃l,fn= .func (.yield l) #[] #[])(goes:List (List Tree)→Bool)(adm:List (List Tree)→List Tree→Prop):YSpec where
 fn:=fn
 kind:=kind
 goes:=goes
 adm:=adm
 D:=k.D
 holds:=k.holds
 stab:=by
  rintro pre g w w' ⟨⟨m,h⟩,hE⟩ hsz hg hD
  have hs:∀b,okB (k.fy g w.heap.size) (k.St pre) m w b→w'.heap[b]? =w.heap[b]? :=fun b hb=>by
   rcases Pk.ok_may hb hb.1 with q|q
   ·exact hg b q.1
   ·exact hD b q
  exact⟨⟨m,h.move hsz (fun b us e z hb _=>hs b hb) (fun id o b ho hm=>hg b (h.own id o b ho hm).1) (fun id Y p ho hh hY=>Y.stab _ _ _ _ hh hsz (fun b hb=>hg b (h.own id _ b ho (.inr hb)).1) (fun b hb=>hs b (hY b hb)))⟩,
   k.hE pre w w' hE (fun b hb=>hg b (h.g0 b hb))⟩
 stabD:=by
  rintro pre g w w' q ⟨⟨m,h⟩,hE⟩ hq hqg hsz hb
  refine⟨⟨m,h.move (by omega) (fun b us e z _ hc=>hb b (fun e=>by subst e;rw[hq] at hc;cases hc)) (fun id o b ho hm=>hb b (fun e=>hqg (e▸(h.own id o b ho hm).1))) (fun id Y p ho hh hY=>Y.stabD _ _ _ _ q hh hq (fun hm=>hqg (h.own id _ q ho (.inr hm)).1) hsz hb)⟩,
   k.hE pre w w' hE (fun b hg=>hb b (fun e=>hqg (e▸h.g0 b hg)))⟩
def growG(g:List Nat)(z z':Nat):List Nat:=g++List.range' z (z'-z)
theorem mem_grow{z':Nat}:b∈growG g z z'↔b∈g∨(z≤b∧b<z'):=by
 unfold growG
 rw[List.mem_append,List.mem_range'_1]
 constructor
 ·rintro(h|h)
  ·exact .inl h
  ·exact .inr ⟨h.1,by omega⟩
 ·rintro(h|h)
  ·exact .inl h
  ·exact .inr ⟨h.1,by omega⟩
theorem Pk.At.next{pre pre':List (List Tree)}{m':Place}(h:k.At pre g m w)(hS:SRel (k.fy g w.heap.size) (k.St pre') m' w')(hF:KN (k.St pre) m w.heap.size (k.St pre') m')(hsz:w.heap.size≤w'.heap.size)
 (hv:∀t,VRel (k.St pre') m' w' (okB (k.fy g w.heap.size) (k.St pre') m' w') (k.va t) (k.vu t)):k.At pre' (growG g w.heap.size w'.heap.size) m' w':=by
 have hXlt:∀b,k.X b→b<w.heap.size:=fun b hb=>h.gl b (h.g0 b (k.hX b hb))
 have own:∀id o b,k.St pre' id=some o→m'.has id b→b∈growG g w.heap.size w'.heap.size∧¬k.X b:=by
  intro id o b ho hm
  have hlt:=hS.lt id o b ho hm
  have old:(∃i oi,k.St pre i=some oi∧m.has i b)∨w.heap.size≤b:=by
   cases h0:k.St pre id with
   |none=>
    rcases hF.new id o ho h0 b hm with q| ⟨i,oi,q1,_,q2⟩
    ·exact .inr q
    ·exact .inl ⟨i,oi,q1,q2⟩
   |some o0=>
    obtain⟨o',_,_,_,_,hp,_⟩:=hF.keep id o0 h0
    rcases hp b hm with q|q| ⟨i,oi,q1,_,q2⟩
    ·exact .inl ⟨id,o0,h0,q⟩
    ·exact .inr q
    ·exact .inl ⟨i,oi,q1,q2⟩
  rcases old with⟨i,oi,q1,q2⟩|q
  ·obtain⟨r1,r2⟩:=h.own i oi b q1 q2
   exact⟨mem_grow.2 (.inl r1),r2⟩
  ·exact⟨mem_grow.2 (.inr ⟨q,hlt⟩),fun hx=>by have:=hXlt b hx;omega⟩
 have hok:∀b,okB (k.fy g w.heap.size) (k.St pre') m' w' b→okB (k.fy (growG g w.heap.size w'.heap.size) w'.heap.size) (k.St pre') m' w' b:=fun b hb=>by
  refine Pk.ok_mk hb.1 ?_ hb.2.2
  by_cases hlt:b<w.heap.size
  ·rcases Pk.ok_may hb hlt with q|q
   ·exact .inl ⟨mem_grow.2 (.inl q.1),q.2⟩
   ·exact .inr q
  ·exact .inl ⟨mem_grow.2 (.inr ⟨by omega,hb.1⟩),fun hx=>by have:=hXlt b hx;omega⟩
 refine⟨hS.fence hok (fun id o b ho hm hf=> ?_) (fun b hf=> ?_) hS.hold,h.kn.trans hF h.sz,own,fun b hb=>mem_grow.2 (.inl (h.g0 b hb)),fun b hb=> ?_,fun b hb=> ?_,Nat.le_trans h.sz hsz,fun t=>(hv t).ext (fun _ _ h=>⟨h,rfl⟩) hok⟩
 ·rcases hf with hf|hf
  ·exact hS.avoid id o b ho hm (.inl hf)
  ·exact hf.2 (.inl (own id o b ho hm))
 ·rcases hf with hf|hf
  ·have:=k.low b hf;have:=h.sz;omega
  ·exact hf.1
 ·rcases mem_grow.1 hb with q|q
  ·exact h.gn b q
  ·have:=h.sz;exact .inr (by omega)
 ·rcases mem_grow.1 hb with q|q
  ·have:=h.gl b q;omega
  ·exact q.2
end Go.Ab
end
section
set_option linter.unusedVariables false
namespace Go.Ab
variable {P:Program}
structure Parts(F:Fen P)(S SR SC:Store)(m:Place)(wb w0:World)(g0 gC:List Nat)(X:Nat→Prop):Prop where
 rel:SRel F S m wb
 r:∀id o,SR id=some o→S id=some o
 c:∀id o,SC id=some o→S id=some o
 cov:∀id o,S id=some o→SR id=some o∨SC id=some o
 dis:∀id o,SC id=some o→SR id=none
 rc:∀id o,SR id=some o→∀i∈idsO o,SR i=S i
 cc:∀id o,SC id=some o→∀i∈idsO o,SC i=S i
 lr:∀id o,SR id=some o→o.live=true
 lc:∀id o,SC id=some o→o.live=true
 g0:∀b,b∈g0↔(∃id o,SR id=some o∧m.has id b)∨X b
 gC:∀b,b∈gC↔∃id o,SC id=some o∧m.has id b
 xb:∀b,X b→wb.heap.size≤b∧b<w0.heap.size
 sz:wb.heap.size≤w0.heap.size
 os:w0.os=wb.os
 tape:w0.tape=wb.tape
 output:w0.output=wb.output
 same:∀b,b<wb.heap.size→w0.heap[b]? =wb.heap[b]?
variable {F:Fen P} {S SR SC:Store} {m:Place} {wb w0:World} {g0 gC:List Nat} {X:Nat→Prop}
theorem Parts.still(h:Parts F S SR SC m wb w0 g0 gC X):∀b,okB F S m wb b→w0.heap[b]? =wb.heap[b]? :=fun b hb=>h.same b hb.1
theorem Parts.hx(h:Parts F S SR SC m wb w0 g0 gC X){id:Nat}{Y:YSpec}{p:List (List Tree)}(hi:S id=some (.ext Y p))(hh:Y.holds p (m.g id) wb)(hD:∀b,Y.D b→okB F S m wb b):Y.holds p (m.g id) w0:=
 Y.stab _ _ _ _ hh h.sz (fun b hb=>h.same b (h.rel.lt id _ b hi (.inr hb))) (fun b hb=>h.still b (hD b hb))
theorem Parts.val(h:Parts F S SR SC m wb w0 g0 gC X){S1:Store}{m1:Place}{ok1:Nat→Prop}(hok:∀b,okB F S m wb b→ok1 b){v:AVal}{u:Value}(hv:VRel S m wb (okB F S m wb) v u)
 (hi:∀i∈idsV v,S1 i=S i∧m1 i=m i):VRel S1 m1 w0 ok1 v u:=by
 have h1:VRel (fun i=>if i∈idsV v then S i else none) m wb ok1 v u:=hv.restrict hok (fun i hi=>if_pos hi)
 have h2:VRel S1 m1 wb ok1 v u:=h1.ext (fun id o ho=>by
  by_cases q:id∈idsV v
  ·rw[if_pos q] at ho;exact⟨(hi id q).1.trans ho,(hi id q).2⟩
  ·rw[if_neg q] at ho;cases ho) (fun _ h=>h)
 have key:∀{v:AVal} {u:Value},VRel S m wb (okB F S m wb) v u→VRel S m w0 (okB F S m wb) v u:=fun hv=>hv.still (fun _ h=>h) (fun b us e z hb _=>h.still b hb)
 have h3:=key hv
 have h4:VRel (fun i=>if i∈idsV v then S i else none) m w0 ok1 v u:=h3.restrict hok (fun i hi=>if_pos hi)
 exact h4.ext (fun id o ho=>by
  by_cases q:id∈idsV v
  ·rw[if_pos q] at ho;exact⟨(hi id q).1.trans ho,(hi id q).2⟩
  ·rw[if_neg q] at ho;cases ho) (fun _ h=>h)
theorem Parts.obj(h:Parts F S SR SC m wb w0 g0 gC X){S1:Store}{m1:Place}{ok1:Nat→Prop}(hok:∀b,okB F S m wb b→ok1 b){id:Nat}{o:Ob}(ho:S id=some o)(hi:∀i∈idsO o,S1 i=S i∧m1 i=m i):
 ORel S1 m1 w0 ok1 o (m id) (m.g id):=by
 have h1:=h.rel.objs id o ho
 have h2:ORel S m w0 (okB F S m wb) o (m id) (m.g id):=h1.still (fun _ h=>h) (fun b us e z hb _=>h.still b hb) (fun Y p e hh hD=>h.hx (e▸ho) hh hD) (fun b hb=>h.same b (h.rel.lt id o b ho hb))
 refine h2.tq hok (fun v u hids hv=> ?_) (fun mid n s e=> ?_)
 ·have h4:VRel (fun i=>if i∈idsV v then S i else none) m w0 ok1 v u:=hv.restrict hok (fun i hi=>if_pos hi)
  exact h4.ext (fun id o ho=>by
   by_cases q:id∈idsV v
   ·rw[if_pos q] at ho;exact⟨(hi id (hids id q)).1.trans ho,(hi id (hids id q)).2⟩
   ·rw[if_neg q] at ho;cases ho) (fun _ h=>h)
 ·subst e
  have:=hi mid (by simp[idsO])
  exact⟨this.2,fun es hh q=>⟨es,hh,this.1.trans q⟩⟩
variable {k:Pk P} {pre0:List (List Tree)}
structure Pk.Of(k:Pk P)(pre0:List (List Tree))(F:Fen P)(SR:Store)(m:Place)(w0:World)(g0 gC:List Nat)(X:Nat→Prop):Prop where
 F:k.F=F
 w0:k.w0=w0
 g0:k.g0=g0
 gC:k.gC=gC
 X:k.X=X
 St:k.St pre0=SR
 S0:k.S0=SR
 m0:k.m0=m
theorem Parts.start(h:Parts F S SR SC m wb w0 g0 gC X)(hk:k.Of pre0 F SR m w0 g0 gC X)(hv:∀t,VRel S m wb (okB F S m wb) (k.va t) (k.vu t))(hvi:∀t,∀i∈idsV (k.va t),SR i=S i):k.At pre0 g0 m w0:=by
 obtain⟨e1,e2,e3,e4,e5,e6,e7,e8⟩:=hk
 have hD:∀b,okB F S m wb b→k.may g0 b:=fun b hb=>by
  refine .inr ⟨by rw[e2];have:=h.sz;have:=hb.1;omega,?_,?_,by rw[e1];exact hb.2.1⟩
  ·rw[e3,h.g0]
   rintro(⟨id,o,q1,q2⟩|q)
   ·exact hb.2.2 id o (h.r id o q1) (h.lr id o q1) q2
   ·have:=(h.xb b q).1;have:=hb.1;omega
  ·rw[e4,h.gC]
   rintro⟨id,o,q1,q2⟩
   exact hb.2.2 id o (h.c id o q1) (h.lc id o q1) q2
 have hok:∀b,okB F S m wb b→okB (k.fy g0 w0.heap.size) SR m w0 b:=fun b hb=>Pk.ok_mk (by have:=hb.1;have:=h.sz;omega) (hD b hb) (fun id o q1 q2 q3=>hb.2.2 id o (h.r id o q1) q2 q3)
 have own:∀id o b,SR id=some o→m.has id b→b∈g0∧¬k.X b:=fun id o b ho hm=>by
  refine⟨(h.g0 b).2 (.inl ⟨id,o,ho,hm⟩),fun hx=> ?_⟩
  rw[e5] at hx
  have:=(h.xb b hx).1
  have:=h.rel.lt id o b (h.r id o ho) hm
  omega
 have gl:∀b∈g0,b<w0.heap.size:=fun b hb=>by
  rcases(h.g0 b).1 hb with⟨id,o,q1,q2⟩|q
  ·have:=h.rel.lt id o b (h.r id o q1) q2;have:=h.sz;omega
  ·exact(h.xb b q).2
 refine⟨?_,by rw[e6,e7,e8];exact KN.refl _ _ _,by rw[e6];exact own,fun b hb=>by rw[e3] at hb;exact hb,fun b hb=> .inl (by rw[e3];exact hb),gl,by rw[e2];exact Nat.le_refl _,fun t=> ?_⟩
 ·rw[e6]
  refine⟨fun id o ho=>h.obj hok (h.r id o ho) (fun i hi=>⟨h.rc id o ho i hi,rfl⟩),fun i j oi oj b hi hj=>h.rel.inj i j oi oj b (h.r i oi hi) (h.r j oj hj),fun id o b ho hm hf=> ?_,fun id o b ho hm=>gl b (own id o b ho hm).1,fun b hf=> ?_,fun b o hh=> ?_⟩
  ·rcases hf with hf|hf
   ·rw[e1] at hf;exact h.rel.avoid id o b (h.r id o ho) hm hf
   ·exact hf.2 (.inl (own id o b ho hm))
  ·rcases hf with hf|hf
   ·have:=k.low b hf;rw[e2] at this;exact this
   ·exact hf.1
  ·have hh:F.says b o:=by rw[←e1];exact hh
   rw[h.same b (h.rel.low b (F.sub b o hh))]
   exact h.rel.hold b o hh
 ·rw[e6];exact h.val hok (hv t) (fun i hi=>⟨hvi t i hi,rfl⟩)
def yPlace(m:Place)(e:Nat)(g:List Nat):Place:=⟨fun j=>if j=e then(none,0) else m j,fun j=>if j=e then g else m.g j⟩
theorem yPlace_e(m:Place)(e:Nat)(g:List Nat)(b:Nat):(yPlace m e g).has e b↔b∈g:=by unfold Place.has yPlace;simp
theorem yPlace_ne{m:Place}{e i:Nat}{g:List Nat}(h:i≠e):yPlace m e g i=m i:=by unfold yPlace;simp[h]
theorem yPlace_g{m:Place}{e i:Nat}{g:List Nat}(h:i≠e):(yPlace m e g).g i=m.g i:=by unfold yPlace;simp[h]
theorem yPlace_has{m:Place}{e i b:Nat}{g:List Nat}(h:i≠e):(yPlace m e g).has i b↔m.has i b:=by unfold Place.has;rw[yPlace_ne h,yPlace_g h]
theorem Parts.packed(h:Parts F S SR SC m wb w0 g0 gC X)(hk:k.Of pre0 F SR m w0 g0 gC X)(hA:k.At pre0 g0 m w0)(hE:k.E pre0 w0){e:Nat}(he:SC e=none)(he2:∀id o,SC id=some o→e∉idsO o){fn:Value}{kind:(∃f cap,fn= .func (.func f) #[] cap)∨∃l,fn= .func (.yield l) #[] #[]}{goes:List (List Tree)→Bool}{adm:List (List Tree)→List Tree→Prop}:
 SRel F (upd SC e (.ext (k.spec fn kind goes adm) pre0)) (yPlace m e g0) w0∧(∀b,okB F S m wb b→okB F (upd SC e (.ext (k.spec fn kind goes adm) pre0)) (yPlace m e g0) w0 b):=by
 obtain⟨e1,e2,e3,e4,e5,e6,e7,e8⟩:=hk
 have ne:∀id o,SC id=some o→id≠e:=fun id o ho q=>by subst q;rw[he] at ho;cases ho
 have notg:∀b,b∈g0→b<wb.heap.size→∃id o,SR id=some o∧m.has id b:=fun b hb hlt=>by
  rcases(h.g0 b).1 hb with q|q
  ·exact q
  ·have:=(h.xb b q).1;omega
 have hok:∀b,okB F S m wb b→okB F (upd SC e (.ext (k.spec fn kind goes adm) pre0)) (yPlace m e g0) w0 b:=fun b hb=>by
  refine⟨by have:=hb.1;have:=h.sz;omega,hb.2.1,fun id o ho hl hm=> ?_⟩
  by_cases q:id=e
  ·subst q
   obtain⟨id,o,q1,q2⟩:=notg b ((yPlace_e _ _ _ _).1 hm) hb.1
   exact hb.2.2 id o (h.r id o q1) (h.lr id o q1) q2
  ·rw[upd_ne q] at ho
   exact hb.2.2 id o (h.c id o ho) hl ((yPlace_has q).1 hm)
 have own:∀id o b,upd SC e (.ext (k.spec fn kind goes adm) pre0) id=some o→(yPlace m e g0).has id b→(id=e∧b∈g0)∨(id≠e∧SC id=some o∧m.has id b):=fun id o b ho hm=>by
  by_cases q:id=e
  ·subst q;exact .inl ⟨rfl,(yPlace_e _ _ _ _).1 hm⟩
  ·rw[upd_ne q] at ho;exact .inr ⟨q,ho,(yPlace_has q).1 hm⟩
 refine⟨⟨fun id o ho=> ?_,fun i j oi oj b hi hj h1 h2=> ?_,fun id o b ho hm hf=> ?_,fun id o b ho hm=> ?_,fun b hf=>Nat.lt_of_lt_of_le (h.rel.low b hf) h.sz,fun b o hh=> ?_⟩,hok⟩
 ·by_cases q:id=e
  ·subst q
   rw[upd_same] at ho;cases ho
   refine⟨by simp[yPlace],?_,fun b hb=> ?_⟩
   ·have:(yPlace m id g0).g id=g0:=by simp[yPlace]
    rw[this];exact⟨⟨m,hA⟩,hE⟩
   ·obtain⟨q1,q2,q3,q4⟩:=hb
    rw[e2] at q1;rw[e3] at q2;rw[e4] at q3;rw[e1] at q4
    refine⟨q1,q4,fun i o ho hl hm=> ?_⟩
    rcases own i o b ho hm with⟨-,r⟩| ⟨-,r1,r2⟩
    ·exact q2 r
    ·exact q3 ((h.gC b).2 ⟨i,o,r1,r2⟩)
  ·rw[upd_ne q] at ho
   rw[yPlace_ne q,yPlace_g q]
   refine h.obj hok (h.c id o ho) (fun i hi=> ?_)
   have r:i≠e:=fun q=>he2 id o ho (q▸hi)
   exact⟨by rw[upd_ne r];exact h.cc id o ho i hi,yPlace_ne r⟩
 ·rcases own i oi b hi h1 with⟨q1,q2⟩| ⟨q1,q2,q3⟩<;>rcases own j oj b hj h2 with⟨r1,r2⟩| ⟨r1,r2,r3⟩
  ·rw[q1,r1]
  ·exfalso
   have hlt:=h.rel.lt j oj b (h.c j oj r2) r3
   obtain⟨id,o,s1,s2⟩:=notg b q2 hlt
   have:=h.rel.inj id j _ _ b (h.r id o s1) (h.c j oj r2) s2 r3
   subst this
   rw[h.dis id oj r2] at s1;cases s1
  ·exfalso
   have hlt:=h.rel.lt i oi b (h.c i oi q2) q3
   obtain⟨id,o,s1,s2⟩:=notg b r2 hlt
   have:=h.rel.inj id i _ _ b (h.r id o s1) (h.c i oi q2) s2 q3
   subst this
   rw[h.dis id oi q2] at s1;cases s1
  ·exact h.rel.inj i j _ _ b (h.c i oi q2) (h.c j oj r2) q3 r3
 ·rcases own id o b ho hm with⟨q1,q2⟩| ⟨q1,q2,q3⟩
  ·have hlt:=h.rel.low b hf
   obtain⟨id,o,s1,s2⟩:=notg b q2 hlt
   exact h.rel.avoid id o b (h.r id o s1) s2 hf
  ·exact h.rel.avoid id o b (h.c id o q2) q3 hf
 ·rcases own id o b ho hm with⟨q1,q2⟩| ⟨q1,q2,q3⟩
  ·exact hA.gl b q2
  ·have:=h.rel.lt id o b (h.c id o q2) q3;have:=h.sz;omega
 ·rw[h.same b (h.rel.low b (F.sub b o hh))];exact h.rel.hold b o hh
def bothS(SC R:Store):Store:=fun id=>match SC id with|some o=>some o|none=>R id
theorem bothS_c{SC R:Store}{id:Nat}{o:Ob}(h:SC id=some o):bothS SC R id=some o:=by unfold bothS;rw[h]
theorem bothS_r{SC R:Store}{id:Nat}(h:SC id=none):bothS SC R id=R id:=by unfold bothS;rw[h]
theorem Parts.unpack(h:Parts F S SR SC m wb w0 g0 gC X)(hk:k.Of pre0 F SR m w0 g0 gC X){e:Nat}(he:SC e=none)(he2:∀id o,SC id=some o→e∉idsO o){Y:YSpec}{pre':List (List Tree)}{m1:Place}{w1:World}(h1:SRel F (upd SC e (.ext Y pre')) m1 w1)
 (h2:FrameExt F (upd SC e (.ext Y pre0)) (yPlace m e g0) w0 (upd SC e (.ext Y pre')) m1 w1) {mR:Place} (hA:k.At pre' (m1.g e) mR w1) (hdis:∀id o,SC id=some o→k.St pre' id=none):
 ∃mf,SRel F (bothS SC (k.St pre')) mf w1∧FrameExt F S m wb (bothS SC (k.St pre')) mf w1∧(∀t,VRel (bothS SC (k.St pre')) mf w1 (okB F (bothS SC (k.St pre')) mf w1) (k.va t) (k.vu t))∧
  (∀id o b,bothS SC (k.St pre') id=some o→mf.has id b→b<w0.heap.size→∃i oi,S i=some oi∧m.has i b):=by
 obtain⟨e1,e2,e3,e4,e5,e6,e7,e8⟩:=hk
 have ne:∀id o,SC id=some o→id≠e:=fun id o ho q=>by subst q;rw[he] at ho;cases ho
 have ce:∀(p:List (List Tree)) id o,SC id=some o→upd SC e (.ext Y p) id=some o:=fun p id o ho=>by rw[upd_ne (ne id o ho)];exact ho
 let mf:Place:=⟨fun j=>if(SC j).isSome then m1 j else mR j,fun j=>if(SC j).isSome then m1.g j else mR.g j⟩
 have fc:∀id o,SC id=some o→mf id=m1 id:=fun id o ho=>by simp[mf,ho]
 have fr:∀id,SC id=none→mf id=mR id:=fun id ho=>by simp[mf,ho]
 have gc:∀id o,SC id=some o→mf.g id=m1.g id:=fun id o ho=>by simp[mf,ho]
 have gr:∀id,SC id=none→mf.g id=mR.g id:=fun id ho=>by simp[mf,ho]
 have hc:∀id o b,SC id=some o→(mf.has id b↔m1.has id b):=fun id o b ho=>by unfold Place.has;rw[fc id o ho,gc id o ho]
 have hr:∀id b,SC id=none→(mf.has id b↔mR.has id b):=fun id b ho=>by unfold Place.has;rw[fr id ho,gr id ho]
 have rn:∀id o,k.St pre' id=some o→SC id=none:=fun id o ho=>by
  cases hs:SC id with
  |none=>rfl
  |some o'=>have:=hdis id o' hs;rw[this] at ho;cases ho
 have eg:∀b,b∈m1.g e→m1.has e b:=fun b hb=> .inr hb
 have se:upd SC e (.ext Y pre') e=some (.ext Y pre'):=upd_same _ _ _
 have okR:∀b,okB (k.fy (m1.g e) w1.heap.size) (k.St pre') mR w1 b→okB F (bothS SC (k.St pre')) mf w1 b:=fun b hb=>by
  have hm:=Pk.ok_may hb hb.1
  refine⟨hb.1,fun hf=> ?_,fun id o ho hl hmh=> ?_⟩
  ·rcases hm with q|q
   ·exact h1.avoid e _ b se (eg b q.1) (F.sup b hf)
   ·exact q.2.2.2 (by rw[e1];exact hf)
  ·cases hs:SC id with
   |none=>
    rw[bothS_r hs] at ho
    exact hb.2.2 id o ho hl ((hr id b hs).1 hmh)
   |some o'=>
    have hmh:=(hc id o' b hs).1 hmh
    rcases hm with q|q
    ·exact ne id o' hs (h1.inj id e _ _ b (ce pre' id o' hs) se hmh (eg b q.1))
    ·obtain⟨q1,q2,q3,q4⟩:=q
     rw[e2] at q1;rw[e3] at q2;rw[e4] at q3
     rcases h2.back (ce pre' id o' hs) (h.lc id o' hs) hmh with r| ⟨i,oi,r1,r2,r3⟩
     ·omega
     ·by_cases s:i=e
      ·subst s;exact q2 ((yPlace_e _ _ _ _).1 r3)
      ·rw[upd_ne s] at r1
       exact q3 ((h.gC b).2 ⟨i,oi,r1,(yPlace_has s).1 r3⟩)
 have okC:∀b,okB F (upd SC e (.ext Y pre')) m1 w1 b→okB F (bothS SC (k.St pre')) mf w1 b:=fun b hb=>by
  refine⟨hb.1,hb.2.1,fun id o ho hl hmh=> ?_⟩
  cases hs:SC id with
  |none=>
   rw[bothS_r hs] at ho
   exact hb.2.2 e _ se rfl (eg b (hA.own id o b ho ((hr id b hs).1 hmh)).1)
  |some o'=>
   rw[bothS_c hs] at ho;cases ho
   exact hb.2.2 id o (ce pre' id o hs) hl ((hc id o b hs).1 hmh)
 have hF:FrameExt F S m wb (bothS SC (k.St pre')) mf w1:=by
  refine⟨h2.os.trans h.os,h2.tape.trans h.tape,h2.output.trans h.output,Nat.le_trans h.sz h2.size,fun b hb hf=> ?_,fun id o ho=> ?_,fun id o ho hn b hb=> ?_⟩
  ·rw[←h.same b hb]
   refine h2.block b (Nat.lt_of_lt_of_le hb h.sz) (hf.imp (fun q=>q) (fun hf id o ho hl hm=> ?_))
   by_cases s:id=e
   ·subst s
    rcases(h.g0 b).1 ((yPlace_e _ _ _ _).1 hm) with⟨i,oi,q1,q2⟩|q
    ·exact hf i oi (h.r i oi q1) (h.lr i oi q1) q2
    ·have:=(h.xb b q).1;omega
   ·rw[upd_ne s] at ho
    exact hf id o (h.c id o ho) hl ((yPlace_has s).1 hm)
  ·rcases h.cov id o ho with q|q
   ·have hs:SC id=none:=by
     cases hs:SC id with
     |none=>rfl
     |some o'=>rw[h.dis id o' hs] at q;cases q
    obtain⟨o',k1,k2,k3,k4,k5,k6⟩:=hA.kn.keep id o (by rw[e7];exact q)
    refine⟨o',by rw[bothS_r hs];exact k1,k2,fun z=>by rw[fr id hs,k3 z,e8],k4,fun b hb=> ?_,k6⟩
    rcases k5 b ((hr id b hs).1 hb) with z|z| ⟨i,oi,z1,z2,z3⟩
    ·rw[e8] at z;exact .inl z
    ·rw[e2] at z;have:=h.sz;exact .inr (.inl (by omega))
    ·rw[e7] at z1;rw[e8] at z3;exact .inr (.inr ⟨i,oi,h.r i oi z1,z2,z3⟩)
   ·have hne:=ne id o q
    obtain⟨o',k1,k2,k3,k4,k5,k6⟩:=h2.keep id o (ce pre0 id o q)
    rw[upd_ne hne] at k1
    rw[q] at k1;cases k1
    refine⟨o,bothS_c q,Nat.le_refl _,fun z=>by rw[fc id o q,k3 z,yPlace_ne hne],fun z=>z,fun b hb=> ?_,o.same_refl⟩
    rcases k5 b ((hc id o b q).1 hb) with z|z| ⟨i,oi,z1,z2,z3⟩
    ·exact .inl ((yPlace_has hne).1 z)
    ·have:=h.sz;exact .inr (.inl (by omega))
    ·by_cases s:i=e
     ·subst s
      rcases(h.g0 b).1 ((yPlace_e _ _ _ _).1 z3) with⟨j,oj,q1,q2⟩|q
      ·exact .inr (.inr ⟨j,oj,h.r j oj q1,h.lr j oj q1,q2⟩)
      ·exact .inr (.inl (h.xb b q).1)
     ·rw[upd_ne s] at z1
      exact .inr (.inr ⟨i,oi,h.c i oi z1,z2,(yPlace_has s).1 z3⟩)
  ·have hs:SC id=none:=by
    cases hs:SC id with
    |none=>rfl
    |some o'=>have:=h.c id o' hs;rw[hn] at this;cases this
   rw[bothS_r hs] at ho
   have hR:SR id=none:=by
    cases hq:SR id with
    |none=>rfl
    |some o'=>have:=h.r id o' hq;rw[hn] at this;cases this
   rcases hA.kn.new id o ho (by rw[e7];exact hR) b ((hr id b hs).1 hb) with z| ⟨i,oi,z1,z2,z3⟩
   ·rw[e2] at z;have:=h.sz;exact .inl (by omega)
   ·rw[e7] at z1;rw[e8] at z3;exact .inr ⟨i,oi,h.r i oi z1,z2,z3⟩
 have extR:∀id o,k.St pre' id=some o→bothS SC (k.St pre') id=some o∧mf id=mR id:=fun id o ho=>⟨by rw[bothS_r (rn id o ho)];exact ho,fr id (rn id o ho)⟩
 refine⟨mf,⟨fun id o ho=> ?_,fun i j oi oj b hi hj hb1 hb2=> ?_,fun id o b ho hm hf=> ?_,fun id o b ho hm=> ?_,h1.low,h1.hold⟩,hF,fun t=>(hA.val t).ext extR okR,fun id o b ho hm hb=> ?_⟩
 ·cases hs:SC id with
  |none=>
   rw[bothS_r hs] at ho
   rw[fr id hs,gr id hs]
   exact(hA.rel.objs id o ho).ext extR okR
  |some o'=>
   rw[bothS_c hs] at ho;cases ho
   rw[fc id o hs,gc id o hs]
   have hO:=h1.objs id o (ce pre' id o hs)
   have hin:∀i∈idsO o,i≠e:=fun i hi q=>he2 id o hs (q▸hi)
   refine hO.tq okC (fun v u hids hv=> ?_) (fun mid n s q=> ?_)
   ·have h5:VRel SC m1 w1 (okB F (bothS SC (k.St pre')) mf w1) v u:=hv.restrict okC (fun i hi=>(upd_ne (hin i (hids i hi))).symm)
    exact h5.ext (fun id o ho=>⟨bothS_c ho,fc id o ho⟩) (fun _ h=>h)
   ·subst q
    have hme:=hin mid (by simp[idsO])
    obtain⟨b,bm,_,_,⟨es,hh,q3⟩,_⟩:=hO
    rw[upd_ne hme] at q3
    refine⟨fc mid _ q3,fun es' hh' q=> ?_⟩
    rw[upd_ne hme] at q
    exact⟨es',hh',bothS_c q⟩
 ·cases hs:SC i with
  |none=>
   rw[bothS_r hs] at hi
   have q1:=hA.own i oi b hi ((hr i b hs).1 hb1)
   cases ht:SC j with
   |none=>
    rw[bothS_r ht] at hj
    exact hA.rel.inj i j oi oj b hi hj ((hr i b hs).1 hb1) ((hr j b ht).1 hb2)
   |some o'=>exact absurd (h1.inj j e _ _ b (ce pre' j o' ht) se ((hc j o' b ht).1 hb2) (eg b q1.1)) (ne j o' ht)
  |some o'=>
   cases ht:SC j with
   |none=>
    rw[bothS_r ht] at hj
    have q1:=hA.own j oj b hj ((hr j b ht).1 hb2)
    exact absurd (h1.inj i e _ _ b (ce pre' i o' hs) se ((hc i o' b hs).1 hb1) (eg b q1.1)) (ne i o' hs)
   |some o''=>exact h1.inj i j _ _ b (ce pre' i o' hs) (ce pre' j o'' ht) ((hc i o' b hs).1 hb1) ((hc j o'' b ht).1 hb2)
 ·cases hs:SC id with
  |none=>
   rw[bothS_r hs] at ho
   exact h1.avoid e _ b se (eg b (hA.own id o b ho ((hr id b hs).1 hm)).1) hf
  |some o'=>exact h1.avoid id o' b (ce pre' id o' hs) ((hc id o' b hs).1 hm) hf
 ·cases hs:SC id with
  |none=>
   rw[bothS_r hs] at ho
   exact hA.rel.lt id o b ho ((hr id b hs).1 hm)
  |some o'=>exact h1.lt id o' b (ce pre' id o' hs) ((hc id o' b hs).1 hm)
 ·cases hs:SC id with
  |none=>
   rw[bothS_r hs] at ho
   obtain⟨q1,q2⟩:=hA.own id o b ho ((hr id b hs).1 hm)
   rcases hA.gn b q1 with q|q
   ·rw[e3] at q
    rcases(h.g0 b).1 q with⟨i,oi,z1,z2⟩|z
    ·exact⟨i,oi,h.r i oi z1,z2⟩
    ·rw[e5] at q2;exact absurd z q2
   ·rw[e2] at q;omega
  |some o'=>
   have hne:=ne id o' hs
   obtain⟨o2,_,_,_,_,k5,_⟩:=h2.keep id o' (ce pre0 id o' hs)
   rcases k5 b ((hc id o' b hs).1 hm) with z|z| ⟨i,oi,z1,z2,z3⟩
   ·exact⟨id,o',h.c id o' hs,(yPlace_has hne).1 z⟩
   ·omega
   ·by_cases s:i=e
    ·subst s
     have hb1:b∈g0:=(yPlace_e _ _ _ _).1 z3
     rcases(h.g0 b).1 hb1 with⟨j,oj,q1,q2⟩|q
     ·exact⟨j,oj,h.r j oj q1,q2⟩
     ·
      exact absurd (h1.inj id i _ _ b (ce pre' id o' hs) se ((hc id o' b hs).1 hm) (eg b (hA.g0 b (by rw[e3];exact hb1)))) hne
    ·rw[upd_ne s] at z1
     exact⟨i,oi,h.c i oi z1,(yPlace_has s).1 z3⟩
end Go.Ab
end
section
set_option linter.unusedVariables false
namespace Go.Ab
variable {P:Program}
theorem app_emp_mem:∀{l:List (Nat×Ob)} {S:Store} {id:Nat} {o:Ob},app S l id=some o→(id,o)∈l∨(id∉l.map (·.1)∧S id=some o)
 | [],S,id,o,h=> .inr ⟨by simp,h⟩
 | (i,x)::l,S,id,o,h=>by
  rcases app_emp_mem (l:=l) (S:=upd S i x) h with q| ⟨q1,q2⟩
  ·exact .inl (List.mem_cons_of_mem _ q)
  ·by_cases e:id=i
   ·subst e;rw[upd_same] at q2;cases q2;exact .inl List.mem_cons_self
   ·rw[upd_ne e] at q2
    exact .inr ⟨by simp only[List.map_cons,List.mem_cons,not_or];exact⟨e,q1⟩,q2⟩
theorem app_mem0{l:List (Nat×Ob)}{id:Nat}{o:Ob}(h:app emp l id=some o):(id,o)∈l:=(app_emp_mem h).resolve_right (fun q=>by cases q.2)
theorem app_emp_none{l:List (Nat×Ob)}{id:Nat}(h:id∉l.map (·.1)):app emp l id=none:=app_not h
theorem app_emp_isSome{l:List (Nat×Ob)}{id:Nat}(h:id∈l.map (·.1)):∃o,app emp l id=some o:=app_some h
def blks(m:Place)(ids:List Nat):List Nat:=ids.flatMap fun i=>(m i).1.toList++m.g i
theorem mem_blks{m:Place}{ids:List Nat}{b:Nat}:b∈blks m ids↔∃i∈ids,m.has i b:=by
 unfold blks Place.has
 rw[List.mem_flatMap]
 constructor
 ·rintro⟨i,h1,h2⟩
  refine⟨i,h1,?_⟩
  rcases List.mem_append.1 h2 with h|h
  ·left;cases hm:(m i).1 with
   |none=>rw[hm] at h;cases h
   |some c=>rw[hm] at h;simp at h;rw[h]
  ·exact .inr h
 ·rintro⟨i,h1,h2⟩
  refine⟨i,h1,List.mem_append.2 ?_⟩
  rcases h2 with h|h
  ·left;rw[h];simp
  ·exact .inr h
def subIds(l:List Nat)(r:List (Nat×Ob)):Bool:=l.all (hasId (r.map (·.1)))
def sideB(r c:List (Nat×Ob))(e:Nat):Bool:=
 r.all (fun x=>x.2.live)&&c.all (fun x=>x.2.live)&&r.all (fun x=> !hasId (c.map (·.1)) x.1)&& !hasId (c.map (·.1)) e&&r.all (fun x=>subIds (idsO x.2) r)&&c.all (fun x=>subIds (idsO x.2) c)
structure Side(r c:List (Nat×Ob))(e:Nat):Prop where
 lr:∀x∈r,x.2.live=true
 lc:∀x∈c,x.2.live=true
 dis:∀x∈r,x.1∉c.map (·.1)
 e:e∉c.map (·.1)
 rc:∀x∈r,∀i∈idsO x.2,i∈r.map (·.1)
 cc:∀x∈c,∀i∈idsO x.2,i∈c.map (·.1)
theorem subIds_iff{l:List Nat}{r:List (Nat×Ob)}:subIds l r=true↔∀i∈l,i∈r.map (·.1):=by
 unfold subIds
 rw[List.all_eq_true]
 exact⟨fun h i hi=>hasId_iff.1 (h i hi),fun h i hi=>hasId_iff.2 (h i hi)⟩
theorem side_of{r c:List (Nat×Ob)}{e:Nat}(h:sideB r c e=true):Side r c e:=by
 unfold sideB at h
 simp only[Bool.and_eq_true,List.all_eq_true,Bool.not_eq_true'] at h
 obtain⟨⟨⟨⟨⟨h1,h2⟩,h3⟩,h4⟩,h5⟩,h6⟩:=h
 have hn:∀i,hasId (c.map (·.1)) i=false→i∉c.map (·.1):=fun i q hm=>by rw[hasId_iff.2 hm] at q;cases q
 exact⟨fun x hx=>h1 x hx,fun x hx=>h2 x hx,fun x hx=>hn _ (h3 x hx),hn _ h4,fun x hx=>subIds_iff.1 (h5 x hx),fun x hx=>subIds_iff.1 (h6 x hx)⟩
theorem app_both{r c:List (Nat×Ob)}{id:Nat}:app emp (r++c) id=match app emp c id with|some o=>some o|none=>app emp r id:=by
 rw[app_append]
 by_cases h:id∈c.map (·.1)
 ·obtain⟨o,ho⟩:=app_emp_isSome h
  rw[ho]
  have:app (app emp r) c id=app emp c id:=app_at (.inl h)
  rw[this,ho]
 ·rw[app_not h,app_emp_none h]
theorem parts_of{F:Fen P}{r c:List (Nat×Ob)}{e:Nat}{m:Place}{wb w0:World}(hs:Side r c e)(hS:SRel F (app emp (r++c)) m wb){X:Nat→Prop}{g0:List Nat}(hg:∀b,b∈g0↔(∃i∈r.map (·.1),m.has i b)∨X b)
 (xb:∀b,X b→wb.heap.size≤b∧b<w0.heap.size) (sz:wb.heap.size≤w0.heap.size) (os:w0.os=wb.os) (tape:w0.tape=wb.tape) (output:w0.output=wb.output) (same:∀b,b<wb.heap.size→w0.heap[b]? =wb.heap[b]?):
 Parts F (app emp (r++c)) (app emp r) (app emp c) m wb w0 g0 (blks m (c.map (·.1))) X:=by
 have dis:∀id o,app emp c id=some o→app emp r id=none:=fun id o ho=>by
  cases hr:app emp r id with
  |none=>rfl
  |some o'=>exact absurd (app_emp_some ho) (hs.dis (id,o') (app_mem0 hr))
 have r':∀id o,app emp r id=some o→app emp (r++c) id=some o:=fun id o ho=>by
  rw[app_both]
  cases hc:app emp c id with
  |none=>exact ho
  |some o'=>rw[dis id o' hc] at ho;cases ho
 have c':∀id o,app emp c id=some o→app emp (r++c) id=some o:=fun id o ho=>by rw[app_both,ho]
 refine⟨hS,r',c',fun id o ho=> ?_,dis,fun id o ho i hi=> ?_,fun id o ho i hi=> ?_,fun id o ho=>hs.lr _ (app_mem0 ho),fun id o ho=>hs.lc _ (app_mem0 ho),fun b=> ?_,fun b=> ?_,xb,sz,os,tape,output,same⟩
 ·rw[app_both] at ho
  cases hc:app emp c id with
  |none=>rw[hc] at ho;exact .inl ho
  |some o'=>rw[hc] at ho;exact .inr ho
 ·obtain⟨o',ho'⟩:=app_emp_isSome (hs.rc _ (app_mem0 ho) i hi)
  rw[ho',r' i o' ho']
 ·obtain⟨o',ho'⟩:=app_emp_isSome (hs.cc _ (app_mem0 ho) i hi)
  rw[ho',c' i o' ho']
 ·rw[hg]
  refine or_congr ⟨?_,?_⟩ Iff.rfl
  ·rintro⟨i,h1,h2⟩
   obtain⟨o,ho⟩:=app_emp_isSome h1
   exact⟨i,o,ho,h2⟩
  ·rintro⟨i,o,h1,h2⟩
   exact⟨i,app_emp_some h1,h2⟩
 ·rw[mem_blks]
  constructor
  ·rintro⟨i,h1,h2⟩
   obtain⟨o,ho⟩:=app_emp_isSome h1
   exact⟨i,o,ho,h2⟩
  ·rintro⟨i,o,h1,h2⟩
   exact⟨i,app_emp_some h1,h2⟩
theorem Pk.calls{k:Pk P}{fid:FuncId}{caps:List AVal}{R:List (List Tree)→List (Nat×Ob)}{cs:List Value}{G:List (List Tree)→Bool}{A:List (List Tree)→List Tree→Prop}(hcl:callable P fid=true)
 (hC:∀pre xs,A pre xs→FC P fid (xs.map .t++caps) (app emp (R pre)) (.t (.sc (.bool (G (pre++[xs]))))) (app emp (R (pre++[xs])))) (hR:k.St=fun pre=>app emp (R pre)) (hE:k.E=fun _ _=>True)
 (hva:∀i v u,caps[i]? =some v→cs[i]? =some u→k.va i=v∧k.vu i=u) (hl:cs.length=caps.length) {kind}:YCalls P (k.spec (.func (.func fid) #[] cs.toArray) kind G A):=by
 intro pre xs us g w hA hh hgl hul hx
 obtain⟨⟨m,hAt⟩,-⟩:=hh
 have hAt:=hAt
 have hFC:=hC pre xs hA
 have hSt:∀p,k.St p=app emp (R p):=fun p=>by rw[hR]
 have hcall:=hFC (k.fy g w.heap.size) m w (us++cs) (by rw[←hSt];exact hAt.rel) (by simp[hul,hl]) (fun i v u hv hu=>by
  by_cases hi:i<xs.length
  ·rw[List.getElem?_append_left (by simpa using hi),List.getElem?_map,Option.map_eq_some_iff] at hv
   obtain⟨x,hx1,rfl⟩:=hv
   rw[List.getElem?_append_left (by omega)] at hu
   exact .t _ _ ((hx i x u hx1 hu).mono (fun _ h=>h.elim) (fun _ _ _ h=>h.elim))
  ·rw[List.getElem?_append_right (by simpa using hi)] at hv
   rw[List.getElem?_append_right (by omega)] at hu
   simp only[List.length_map] at hv
   rw[hul] at hu
   obtain⟨q1,q2⟩:=hva _ v u hv hu
   have:=hAt.val (i-xs.length)
   rw[q1,q2] at this
   rw[←hSt];exact this)
 unfold callable at hcl
 split at hcl
 rotate_left
 ·cases hcl
 rename_i fn hfn
 simp only[Bool.and_eq_true,Bool.not_eq_true'] at hcl
 obtain⟨code,hcode⟩:=Option.isSome_iff_exists.1 hcl.1
 refine⟨.func fid,cs.toArray,.enter fid (us++cs).toArray,rfl,?_,callsIn_wide.2 (hcall.mono ?_)⟩
 ·have e:us.toArray++cs.toArray=(us++cs).toArray:=by simp
  simp only[invoke,e]
  exact run_enter hfn hcl.2 hcode _ w
 ·rintro e w' ⟨v,m',rfl,k1,k2,k3⟩
  have:=VRel.sc_inv k3
  subst this
  rw[←hSt] at k1 k2
  rw[←hSt] at k2
  have hn:=hAt.next k1 k2.kn k2.size (fun t=>k2.val (hAt.val t))
  exact⟨rfl,k2.os,k2.tape,k2.output,k2.size,fun b hb hg=>k2.block b hb (.inr fun id o ho _ hm=>hg (hAt.own id o b ho hm).1),growG g w.heap.size w'.heap.size,fun b hb=>mem_grow.2 (.inl hb),fun b hb=>mem_grow.1 hb,⟨m',hn⟩,by show k.E _ _;rw[hE];trivial⟩
theorem FC.pack{W fid:FuncId}{a1 a2 caps:List AVal}{R:List (List Tree)→List (Nat×Ob)}{C:List (Nat×Ob)}{pre0 pre':List (List Tree)}{res:AVal}{e:Nat}{G:List (List Tree)→Bool}{A:List (List Tree)→List Tree→Prop}
 (hC:∀pre xs,A pre xs→FC P fid (xs.map .t++caps) (app emp (R pre)) (.t (.sc (.bool (G (pre++[xs]))))) (app emp (R (pre++[xs]))))
 (hW:∀Y:YSpec,Y.goes=G→Y.adm=A→YCalls P Y→FC P W (a1++ .yl e::a2) (app emp ((e,.ext Y pre0)::C)) res (app emp ((e,.ext Y pre')::C)))
 (hcl:callable P fid=true) (hside:sideB (R pre0) C e=true) (hids:(R pre').map (·.1)=(R pre0).map (·.1)) (ha:subIds (idsL (a1++a2)) C=true) (hcaps:subIds (idsL caps) (R pre0)=true) (hres:memfree res=true):
 FC P W (a1++ .fn fid caps::a2) (app emp (R pre0++C)) res (app emp (R pre'++C)):=by
 intro F m w us hS hl hr
 have hs:=side_of hside
 have hlen:a1.length<us.length:=by rw[hl];simp
 have hf:=hr a1.length (.fn fid caps) us[a1.length] (by simp) (List.getElem?_eq_getElem hlen)
 generalize huf:us[a1.length]=uf at hf
 cases hf with
 |fn _ _ cs hcl2 hcr=>
 have hp:=parts_of (X:=fun _=>False) (g0:=blks m ((R pre0).map (·.1))) (w0:=w) hs hS (fun b=>by rw[mem_blks];simp) (fun b h=>h.elim) (Nat.le_refl _) rfl rfl rfl (fun _ _=>rfl)
 have hSR:∀i,i∈(R pre0).map (·.1)→app emp (R pre0) i=app emp (R pre0++C) i:=fun i hi=>by
  obtain⟨o,ho⟩:=app_emp_isSome hi
  rw[ho,hp.r i o ho]
 have hsD:∀b o,F.says b o→b<w.heap.size∧b∉blks m ((R pre0).map (·.1))∧b∉blks m (C.map (·.1)):=fun b o h=>by
  refine⟨hS.low b (F.sub b o h),fun hb=> ?_,fun hb=> ?_⟩
  ·obtain⟨i,h1,h2⟩:=mem_blks.1 hb
   obtain⟨o',ho'⟩:=app_emp_isSome h1
   exact hS.avoid i o' b (hp.r i o' ho') h2 (F.sub b o h)
  ·obtain⟨i,h1,h2⟩:=mem_blks.1 hb
   obtain⟨o',ho'⟩:=app_emp_isSome h1
   exact hS.avoid i o' b (hp.c i o' ho') h2 (F.sub b o h)
 let k:Pk P:=⟨F,w,blks m ((R pre0).map (·.1)),blks m (C.map (·.1)),fun _=>False,fun _ h=>h.elim,fun pre=>app emp (R pre),app emp (R pre0),m,fun t=>caps.getD t .junk,fun t=>cs.getD t undef,fun _ _=>True,fun _ _ _ _ _=>trivial,hsD,hS.low,none⟩
 have hk:k.Of pre0 F (app emp (R pre0)) m w (blks m ((R pre0).map (·.1))) (blks m (C.map (·.1))) (fun _=>False):=⟨rfl,rfl,rfl,rfl,rfl,rfl,rfl,rfl⟩
 have hvv:∀t,VRel (app emp (R pre0++C)) m w (okB F (app emp (R pre0++C)) m w) (k.va t) (k.vu t):=fun t=>by
  show VRel _ _ _ _ (caps.getD t .junk) (cs.getD t undef)
  cases hc:caps[t]? with
  |none=>simp only[List.getD,hc,Option.getD_none];exact .junk _
  |some v=>
   have ht:t<cs.length:=by rw[hcl2];exact(List.getElem?_eq_some_iff.1 hc).1
   have:=hcr t v cs[t] hc (List.getElem?_eq_getElem ht)
   simpa[List.getD,hc,ht] using this
 have hvi:∀t,∀i∈idsV (k.va t),app emp (R pre0) i=app emp (R pre0++C) i:=fun t i hi=>by
  refine hSR i (subIds_iff.1 hcaps i ?_)
  have hi:i∈idsV (caps.getD t .junk):=hi
  cases hc:caps[t]? with
  |none=>simp only[List.getD,hc,Option.getD_none] at hi;simp[idsV] at hi
  |some v=>
   simp only[List.getD,hc,Option.getD_some] at hi
   exact mem_idsL.2 ⟨v,List.mem_of_getElem? hc,hi⟩
 have hA:=hp.start hk hvv hvi
 have he:app emp C e=none:=app_emp_none hs.e
 have he2:∀id o,app emp C id=some o→e∉idsO o:=fun id o ho hm=>hs.e (hs.cc _ (app_mem0 ho) e hm)
 obtain⟨g1,g2⟩:=hp.packed hk hA trivial he he2 (fn:= .func (.func fid) #[] cs.toArray) (kind:= .inl ⟨fid,cs.toArray,rfl⟩) (goes:=G) (adm:=A)
 have hY:YCalls P (k.spec (.func (.func fid) #[] cs.toArray) (.inl ⟨fid,cs.toArray,rfl⟩) G A):=Pk.calls hcl hC rfl rfl (fun i v u hv hu=>by
  refine⟨?_,?_⟩
  ·show caps.getD i .junk=v;simp[List.getD,hv]
  ·show cs.getD i undef=u;simp[List.getD,hu]) hcl2
 have hst:∀(Y:YSpec) (p:List (List Tree)),app emp ((e,.ext Y p)::C)=upd (app emp C) e (.ext Y p):=fun Y p=>by
  funext id
  show app (upd emp e _) C id=_
  by_cases q:id∈C.map (·.1)
  ·have:id≠e:=fun r=>hs.e (r▸q)
   rw[upd_ne this];exact app_at (.inl q)
  ·rw[app_not q]
   by_cases r:id=e
   ·subst r;rw[upd_same,upd_same]
   ·rw[upd_ne r,upd_ne r,app_emp_none q];rfl
 have hcall:=hW (k.spec (.func (.func fid) #[] cs.toArray) (.inl ⟨fid,cs.toArray,rfl⟩) G A) rfl rfl hY F (yPlace m e (blks m ((R pre0).map (·.1)))) w us (by rw[hst];exact g1) (by rw[hl];simp) (fun i v u hv hu=>by
  rw[hst]
  have same:∀v u,VRel (app emp (R pre0++C)) m w (okB F (app emp (R pre0++C)) m w) v u→(∀i∈idsV v,i∈idsL (a1++a2))→VRel (upd (app emp C) e (.ext (k.spec (.func (.func fid) #[] cs.toArray) (.inl ⟨fid,cs.toArray,rfl⟩) G A) pre0)) (yPlace m e (blks m ((R pre0).map (·.1)))) w (okB F (upd (app emp C) e (.ext (k.spec (.func (.func fid) #[] cs.toArray) (.inl ⟨fid,cs.toArray,rfl⟩) G A) pre0)) (yPlace m e (blks m ((R pre0).map (·.1)))) w) v u:=fun v u hv hi=>
   hp.val g2 hv (fun i hh=>by
    have hc:=subIds_iff.1 ha i (hi i hh)
    have hne:i≠e:=fun q=>hs.e (q▸hc)
    obtain⟨o,ho⟩:=app_emp_isSome hc
    exact⟨by rw[upd_ne hne,ho,hp.c i o ho],yPlace_ne hne⟩)
  rcases Nat.lt_trichotomy i a1.length with q|q|q
  ·rw[List.getElem?_append_left q] at hv
   exact same v u (hr i v u (by rw[List.getElem?_append_left q];exact hv) hu) (fun j hj=>mem_idsL.2 ⟨v,List.mem_append_left _ (List.mem_of_getElem? hv),hj⟩)
  ·subst q
   rw[List.getElem?_append_right (Nat.le_refl _),Nat.sub_self,List.getElem?_cons_zero] at hv
   cases hv
   have:us[a1.length]? =some (.func (.func fid) #[] cs.toArray):=by rw[List.getElem?_eq_getElem hlen,huf]
   rw[this] at hu;cases hu
   exact .yl e _ pre0 (upd_same _ _ _)
  ·obtain⟨j,rfl⟩:∃j,i=a1.length+(j+1):=⟨i-a1.length- 1,by omega⟩
   rw[List.getElem?_append_right (by omega),show a1.length+(j+1)- a1.length=j+1 by omega,List.getElem?_cons_succ] at hv
   exact same v u (hr _ v u (by rw[List.getElem?_append_right (by omega),show a1.length+(j+1)- a1.length=j+1 by omega,List.getElem?_cons_succ];exact hv) hu) (fun j' hj=>mem_idsL.2 ⟨v,List.mem_append_right _ (List.mem_of_getElem? hv),hj⟩))
 refine hcall.mono ?_
 rintro en w1 ⟨v,m1,rfl,k1,k2,k3⟩
 rw[hst] at k1 k2 k3
 rw[hst] at k2
 have hext:=(k1.objs e _ (upd_same _ _ _)).2.1
 obtain⟨⟨mR,hA'⟩,-⟩:=hext
 have hdis:∀id o,app emp C id=some o→k.St pre' id=none:=fun id o ho=>by
  show app emp (R pre') id=none
  refine app_emp_none (fun hm=> ?_)
  rw[hids] at hm
  obtain⟨x,hx,rfl⟩:=List.mem_map.1 hm
  exact hs.dis x hx (app_emp_some ho)
 obtain⟨mf,r1,r2,r3,-⟩:=hp.unpack hk he he2 k1 k2 hA' hdis
 have hfin:bothS (app emp C) (k.St pre')=app emp (R pre'++C):=by
  funext id
  rw[app_both];rfl
 rw[hfin] at r1 r2
 exact⟨v,mf,rfl,r1,r2,memfree_rel hres k3⟩
end Go.Ab
end
section
set_option linter.unusedVariables false
namespace Go.Ab
variable {P:Program}
theorem turn{F:Fen P}{st:Store}{m:Place}{w w':World}{l:Nat}(hS:SRel F st m w)(hsz:w'.heap.size=w.heap.size)(hb:∀b,b≠l→w'.heap[b]? =w.heap[b]?){r:Loop}(hl:w.heap[l]? =some (.loop r))(hn:∀id o,st id=some o→¬m.has id l)
 (hY:∀id Y p,st id=some (.ext Y p)→¬Y.D l):SRel F st m w'∧Still (okB F st m w) w w':=by
 have hs:Still (okB F st m w) w w':=fun b us e z _ hc=>hb b (fun q=>by subst q;rw[hl] at hc;cases hc)
 refine⟨hS.still hs (fun id Y p hi hh _=>Y.stab _ _ _ _ hh (by omega) (fun b hg=>hb b (fun q=>hn id _ hi (q▸ .inr hg))) (fun b hD=>hb b (fun q=>hY id Y p hi (q▸hD)))) (by omega) (fun id o b ho hm=>hb b (fun q=>hn id o ho (q▸hm))) (fun b o h=> ?_),hs⟩
 rw[hb b (fun q=> ?_)]
 ·exact hS.hold b o h
 ·subst q
  obtain⟨us,e,z,rfl⟩:=F.cel b o h
  have:=hS.hold b _ h
  rw[hl] at this;cases this
theorem putObjF(w:World)(l:Nat)(o:Obj):(w.putObj l o).heap.size=w.heap.size∧∀b,b≠l→(w.putObj l o).heap[b]? =w.heap[b]? :=⟨by simp,fun b h=>World.putObj_heap_other h⟩
def exitOf:Option Code→Option Exit
 |none=>some .normal
 |some .ret=>some .ret
 |some (.exit id)=>some (.exit id)
 |_=>none
def bindS(ps:List Nat)(xs:List Tree)(sl:List (Nat×AVal)):List (Nat×AVal):=(ps.zip xs).foldl (fun s p=>(p.1,.t p.2)::s) sl
theorem bind_rel{st:Store}{m:Place}{w:World}{ok:Nat→Prop}:∀(ps:List Nat) (xs:List Tree) (us:List Value) (sl:List (Nat×AVal)) (tmps:Array Value),us.length=xs.length→(∀p∈ps,p<tmps.size)→
 (∀(i:Nat) (x:Tree) (u:Value),xs[i]? =some x→us[i]? =some u→TRep w ok x u)→SlotsRel st m w ok sl tmps→SlotsRel st m w ok (bindS ps xs sl) ((ps.zip us).foldl (fun t p=>t.setIfInBounds p.1 p.2) tmps)∧((ps.zip us).foldl (fun t p=>t.setIfInBounds p.1 p.2) tmps).size=tmps.size
 | [],xs,us,sl,tmps,_,_,_,h=>⟨by simpa[bindS] using h,by simp⟩
 |p::ps,[],[],sl,tmps,_,_,_,h=>⟨by simpa[bindS] using h,by simp⟩
 |p::ps,x::xs,u::us,sl,tmps,hl,hp,hx,h=>by
  have h1:SlotsRel st m w ok ((p,.t x)::sl) (tmps.setIfInBounds p u):=fun t=>by
   have hpt:=hp p List.mem_cons_self
   simp only[get]
   by_cases e:p=t
   ·subst e
    have:(tmps.setIfInBounds p u).getD p undef=u:=by simp[hpt]
    rw[this];simp only[show Nat.beq p p=true from Nat.beq_refl p,cond_true]
    exact .t _ _ (hx 0 x u rfl rfl)
   ·rw[beq_ne e,cond_false]
    have:(tmps.setIfInBounds p u).getD t undef=tmps.getD t undef:=by simp[Array.getElem?_setIfInBounds_ne e]
    rw[this];exact h t
  obtain⟨i1,i2⟩:=bind_rel ps xs us ((p,.t x)::sl) (tmps.setIfInBounds p u) (by simpa using hl) (fun q hq=>by simpa using hp q (List.mem_cons_of_mem _ hq)) (fun i x' u' a b=>hx (i+1) x' u' (by simpa using a) (by simpa using b)) h1
  exact⟨by simpa[bindS] using i1,by simpa using i2⟩
structure Entered(F:Fen P)(fn:FuncId)(tmps:Array Value)(ps:Array Tmp)(asg body:Code)(w:World)(l:Nat)(mark:List Deferred)(w1:World):Prop where
 run:(Instr.enterLoop fn tmps ps asg body F.rnd).run P w= .ok (l,mark) w1
 lt:w.heap.size≤l∧l<w1.heap.size
 sz:w.heap.size≤w1.heap.size
 same:∀b,b<w.heap.size→w1.heap[b]? =w.heap[b]?
 os:w1.os=w.os
 tape:w1.tape=w.tape
 output:w1.output=w.output
 rcd:∃d,w1.heap[l]? =some (.loop {state:= .ready,pending:=none,fn,tmps,params:=ps,assign:=asg,body,defers:=d})
 mks:mark=[]∨∃D,mark=[markD D]∧w.heap.size≤D∧D<w1.heap.size∧D≠l∧w1.heap[D]? =some (.deferred (some []))
theorem enter_any(F:Fen P)(fn:FuncId)(tmps:Array Value)(ps:Array Tmp)(asg body:Code)(w:World)(h:∀l,F.rnd=some l→∃r,w.heap[l]? =some (.loop r)):∃l mark w1,Entered F fn tmps ps asg body w l mark w1:=by
 cases hr:F.rnd with
 |none=>
  refine⟨w.heap.size+1,[markD w.heap.size],(w.alloc (.deferred (some []))).alloc (.loop {state:= .ready,pending:=none,fn,tmps,params:=ps,assign:=asg,body,defers:=w.heap.size}),?_,⟨by omega,by simp⟩,by simp;omega,fun b hb=> ?_,rfl,rfl,rfl,⟨w.heap.size,?_⟩,.inr ⟨w.heap.size,rfl,Nat.le_refl _,by simp;omega,by omega,?_⟩⟩
  ·rw[hr];exact run_enterLoop_outer _ _ _ _ _
  ·rw[RowKit.Below.heap_alloc _ _ b (by simp;omega),RowKit.Below.heap_alloc _ _ b hb]
  ·have:=World.alloc_heap_new (w.alloc (.deferred (some []))) (.loop {state:= .ready,pending:=none,fn,tmps,params:=ps,assign:=asg,body,defers:=w.heap.size})
   rwa [World.size_alloc] at this
  ·exact(RowKit.Below.heap_alloc _ _ _ (by simp)).trans (World.alloc_heap_new w _)
 |some l0=>
  obtain⟨r,hl⟩:=h l0 hr
  refine⟨w.heap.size,[],w.alloc (.loop {state:= .ready,pending:=none,fn,tmps,params:=ps,assign:=asg,body,defers:=r.defers}),?_,⟨Nat.le_refl _,by simp⟩,by simp,fun b hb=>RowKit.Below.heap_alloc _ _ b hb,rfl,rfl,rfl,⟨r.defers,World.alloc_heap_new w _⟩,.inl rfl⟩
  rw[hr];exact run_enterLoop_inner hl _ _ _ _ _
variable {n:Nat} {l0:List (Nat×Ob)} {Q:Exit→St→Prop}
def okSlots(sl slB:List (Nat×AVal))(r:List (Nat×Ob)):Prop:=∀t,get slB t= .junk∨(get slB t=get sl t∧∀i∈idsV (get sl t),i∈r.map (·.1))
def okSlotsB(sl:List (Nat×AVal))(r:List (Nat×Ob)):List Nat→Bool
 | []=>true
 |t::ts=>subIds (idsV (get sl t)) r&&okSlotsB sl r ts
theorem okSlots_keep{sl:List (Nat×AVal)}{r:List (Nat×Ob)}:∀{ts:List Nat},okSlotsB sl r ts=true→okSlots sl (keepS sl ts) r
 | [],_=>fun t=> .inl rfl
 |t::ts,h=>fun t'=>by
  simp only[okSlotsB,Bool.and_eq_true] at h
  simp only[keepS,get]
  by_cases e:t=t'
  ·subst e;right;simp only[show Nat.beq t t=true from Nat.beq_refl t,cond_true];exact⟨trivial,subIds_iff.1 h.1⟩
  ·rw[beq_ne e,cond_false];exact okSlots_keep h.2 t'
theorem Sim.rng {g : Operand} {ps : Array Tmp} {asg body : Code} {gf : FuncId} {caps : List AVal} {R : List (List Tree) → List (Nat × Ob)} {C : List (Nat × Ob)} {sl slB : List (Nat × AVal)} {nx e : Nat} {res : AVal} {vs : List (List Tree)}
    {J : List (List Tree) → Option Code} {A : List (List Tree) → List Tree → Prop} {ex : Exit}
    (hg : ev sl g = .fn gf caps)
    (hW : ∀ Y : YSpec, Y.goes = (fun p => (J p).isNone) → Y.adm = A → YCalls P Y → FC P gf (.yl e :: caps) (app emp ((e, .ext Y []) :: C)) res (app emp ((e, .ext Y vs) :: C)))
    (hA : ∀ pre xs, A pre xs → J pre = none ∧ xs.length = ps.size)
    (hbody : ∀ pre xs, A pre xs → ∃ slA RA nxA, (∀ id, nxA ≤ id → app emp RA id = none) ∧
      Sim P n (R pre) asg ⟨bindS ps.toList xs slB, app emp (R pre), nx⟩ (fun e1 s1 => e1 = .normal ∧ Le n (R pre) s1 ⟨slA, app emp RA, nxA⟩) ∧
      Sim P n (R pre) body ⟨slA, app emp RA, nxA⟩ (fun e2 s2 => exitOf (J (pre ++ [xs])) = some e2 ∧ ∃ nx2, Le n (R pre) s2 ⟨[], app emp (R (pre ++ [xs])), nx2⟩))
    (hcl : callable P gf = true) (hJ0 : J [] = none) (hside : sideB (R []) C e = true) (hids : ∀ pre, (R pre).map (·.1) = (R []).map (·.1)) (hcaps : subIds (idsL caps) C = true) (hsl : okSlots sl slB (R []))
    (hps : ps.toList.all (fun p => Nat.blt p n) = true) (hnx : (R []).all (fun x => Nat.blt x.1 nx) = true) (hex : exitOf (J vs) = some ex) (hq : Q ex ⟨slB, app emp (R vs ++ C), nx⟩) :
    Sim P n l0 (.rangeFunc g ps asg body) ⟨sl, app emp (R [] ++ C), nx⟩ Q := by
  intro F m0 w0 m a w h0 h1 h2
  have hs := side_of hside
  have hS := h1.srel
  have hgv : VRel (app emp (R [] ++ C)) m w (okB F (app emp (R [] ++ C)) m w) (ev sl g) (a.eval g) := ev_rel (fun t _ => h1.slots t)
  rw [hg] at hgv
  generalize hu : a.eval g = uf at hgv
  cases hgv with
  | fn _ _ cs hcl2 hcr =>
  unfold callable at hcl
  split at hcl
  rotate_left
  · cases hcl
  rename_i gfn hgfn
  simp only [Bool.and_eq_true, Bool.not_eq_true'] at hcl
  obtain ⟨gcode, hgcode⟩ := Option.isSome_iff_exists.1 hcl.1
  refine wpIn_rangeFunc ?_
  intro fn hfn
  obtain ⟨⟨mds, hm1, hm2, hm3⟩, hlo, hout⟩ := h1.defers
  obtain ⟨l, mark, w1, hE⟩ := enter_any F fn a.tmps ps asg body w (fun l hl => (hout l hl).2)
  obtain ⟨dd, hrec⟩ := hE.rcd
  obtain ⟨rec, hrecD⟩ : ∃ rec : LoopState → Option Code → Loop, rec = fun st pe => { state := st, pending := pe, fn, tmps := a.tmps, params := ps, assign := asg, body, defers := dd } := ⟨_, rfl⟩
  have hrec : w1.heap[l]? = some (.loop (rec .ready none)) := by rw [hrecD]; exact hrec
  have hE2 : Entered F fn a.tmps ps asg body w l mark w1 := hE
  obtain ⟨erun, ⟨elt1, elt2⟩, esz, esame, eos, etape, eout, -, emk⟩ := hE
  have hg0 : ∀ b, b ∈ blks m ((R []).map (·.1)) ++ [l] ↔ (∃ i ∈ (R []).map (·.1), m.has i b) ∨ b = l := fun b => by
    rw [List.mem_append, mem_blks, List.mem_singleton]
  have hp := parts_of (X := fun b => b = l) (g0 := blks m ((R []).map (·.1)) ++ [l]) (w0 := w1) hs hS hg0 (fun b hb => by subst hb; exact ⟨elt1, elt2⟩) esz eos etape eout esame
  have hSR : ∀ i, i ∈ (R []).map (·.1) → app emp (R []) i = app emp (R [] ++ C) i := fun i hi => by
    obtain ⟨o, ho⟩ := app_emp_isSome hi
    rw [ho, hp.r i o ho]
  have hsD : ∀ b o, F.says b o → b < w1.heap.size ∧ b ∉ blks m ((R []).map (·.1)) ++ [l] ∧ b ∉ blks m (C.map (·.1)) := fun b o h => by
    have hlt := hS.low b (F.sub b o h)
    refine ⟨by omega, fun hb => ?_, fun hb => ?_⟩
    · rcases (hg0 b).1 hb with ⟨i, q1, q2⟩ | q
      · obtain ⟨o', ho'⟩ := app_emp_isSome q1
        exact hS.avoid i o' b (hp.r i o' ho') q2 (F.sub b o h)
      · omega
    · obtain ⟨i, q1, q2⟩ := mem_blks.1 hb
      obtain ⟨o', ho'⟩ := app_emp_isSome q1
      exact hS.avoid i o' b (hp.c i o' ho') q2 (F.sub b o h)
  obtain ⟨stt, hstt⟩ : ∃ stt : List (List Tree) → LoopState, stt = fun pre => if (J pre).isNone then .ready else .done := ⟨_, rfl⟩
  let k : Pk P := ⟨F, w1, blks m ((R []).map (·.1)) ++ [l], blks m (C.map (·.1)), fun b => b = l, fun b hb => (hg0 b).2 (.inr hb), fun pre => app emp (R pre), app emp (R []), m, fun t => get slB t, fun t => a.tmps.getD t undef,
    fun pre W => W.heap[l]? = some (.loop (rec (stt pre) (J pre))), fun pre W W' h hb => (hb l ((hg0 l).2 (.inr rfl))).trans h, hsD, fun b hb => Nat.lt_of_lt_of_le (hS.low b hb) esz, some l⟩
  have hk : k.Of [] F (app emp (R [])) m w1 (blks m ((R []).map (·.1)) ++ [l]) (blks m (C.map (·.1))) (fun b => b = l) := ⟨rfl, rfl, rfl, rfl, rfl, rfl, rfl, rfl⟩
  have hvv : ∀ t, VRel (app emp (R [] ++ C)) m w (okB F (app emp (R [] ++ C)) m w) (k.va t) (k.vu t) := fun t => by
    show VRel _ _ _ _ (get slB t) _
    rcases hsl t with q | ⟨q, -⟩
    · rw [q]; exact .junk _
    · rw [q]; exact h1.slots t
  have hvi : ∀ t, ∀ i ∈ idsV (k.va t), app emp (R []) i = app emp (R [] ++ C) i := fun t i hi => by
    have hi : i ∈ idsV (get slB t) := hi
    rcases hsl t with q | ⟨q, q2⟩
    · rw [q] at hi; cases hi
    · rw [q] at hi; exact hSR i (q2 i hi)
  have hAt := hp.start hk hvv hvi
  have hE0 : k.E [] w1 := by
    show w1.heap[l]? = some (.loop (rec (stt []) (J [])))
    rw [show stt [] = .ready by rw [hstt]; simp [hJ0], hJ0]; exact hrec
  have he : app emp C e = none := app_emp_none hs.e
  have he2 : ∀ id o, app emp C id = some o → e ∉ idsO o := fun id o ho hm => hs.e (hs.cc _ (app_mem0 ho) e hm)
  obtain ⟨g1, g2⟩ := hp.packed hk hAt hE0 he he2 (fn := .func (.yield l) #[] #[]) (kind := .inr ⟨l, rfl⟩) (goes := fun p => (J p).isNone) (adm := A)
  have hY : YCalls P (k.spec (.func (.yield l) #[] #[]) (.inr ⟨l, rfl⟩) (fun p => (J p).isNone) A) := by
    intro pre xs us gg W hAd hh hgl hul hx
    obtain ⟨⟨mm, hW0⟩, hEW⟩ := hh
    obtain ⟨hJp, hxl⟩ := hA pre xs hAd
    have hEW : W.heap[l]? = some (.loop (rec .ready none)) := by
      have : W.heap[l]? = some (.loop (rec (stt pre) (J pre))) := hEW
      rw [show stt pre = .ready by rw [hstt]; simp [hJp], hJp] at this; exact this
    have hlW : l < W.heap.size := (Array.getElem?_eq_some_iff.1 hEW).1
    have hlg : l ∈ gg := hW0.g0 l ((hg0 l).2 (.inr rfl))
    refine ⟨.yield l, #[], .round l fn ((ps.zip us.toArray).foldl (fun t (p, v) => t.setIfInBounds p v) a.tmps) asg body, rfl, ?_, ?_⟩
    · have hy := run_yield (P := P) (args := us.toArray) hEW (by rw [hrecD]; simp; omega)
      rw [hrecD] at hy
      simpa only [invoke] using hy
    have hzip : (ps.zip us.toArray).foldl (fun t (p, v) => t.setIfInBounds p v) a.tmps = (ps.toList.zip us).foldl (fun t p => t.setIfInBounds p.1 p.2) a.tmps := by
      rw [← Array.foldl_toList, Array.toList_zip]
    obtain ⟨slA, RA, nxA, hfrA, hsa, hsb⟩ := hbody pre xs hAd
    have hok0 : SlotsRel (app emp (R pre)) mm W (okB (k.fy gg W.heap.size) (app emp (R pre)) mm W) slB a.tmps := fun t => hW0.val t
    have hpsn : ∀ p ∈ ps.toList, p < a.tmps.size := fun p hp => by
      rw [h1.size]; exact Nat.lt_of_succ_le (Nat.le_of_ble_eq_true (List.all_eq_true.1 hps p hp))
    obtain ⟨b1, b2⟩ := bind_rel ps.toList xs us slB a.tmps hul hpsn (fun i x u p q => (hx i x u p q).mono (fun _ h => h.elim) (fun _ _ _ h => h.elim)) hok0
    have notX : ∀ id o b, app emp (R pre) id = some o → mm.has id b → b ≠ l := fun id o b ho hm => (hW0.own id o b ho hm).2
    have hrel0 : Rel (k.fy gg W.heap.size) n ⟨bindS ps.toList xs slB, app emp (R pre), nx⟩ mm { tmps := (ps.toList.zip us).foldl (fun t p => t.setIfInBounds p.1 p.2) a.tmps, defers := [] } W :=
      ⟨b1, by rw [b2]; exact h1.size, Marks.nil (Nat.zero_le _) (fun l' hl' => by
        have : l = l' := by simpa [Pk.fy, k] using hl'
        subst this
        exact ⟨fun id o ho hm => notX id o l ho hm rfl, _, hEW⟩), hW0.rel, fun id hid => by
        refine app_emp_none (fun hm => ?_)
        rw [hids] at hm
        obtain ⟨x, hx, rfl⟩ := List.mem_map.1 hm
        have := Nat.lt_of_succ_le (Nat.le_of_ble_eq_true (List.all_eq_true.1 hnx x hx))
        simp only at hid; omega⟩
    refine roundIn_of_wpIn (F := Fence.wide) trivial ?_
    rw [hzip]
    have hsim := hsa (k.fy gg W.heap.size) mm W mm _ W hW0.rel hrel0 (FrameExt.refl _ _ _ _)
    refine wpIn_mono hsim ?_
    rintro e1 a1 W1 ⟨s1, m1, hR1, hF1, rfl, hle1⟩
    obtain ⟨m2, hR2, hF2⟩ := hle1 (k.fy gg W.heap.size) mm W m1 a1 W1 hW0.rel hR1 hF1
    have hl1 : W1.heap[l]? = some (.loop (rec .ready none)) := (hF2.block l hlW (.inr fun id o ho _ hm => notX id o l ho hm rfl)).trans hEW
    have own1 : ∀ (st' : Store) (m' : Place) (W' : World), KN (app emp (R pre)) mm W.heap.size st' m' → ∀ id o, st' id = some o → ¬ m'.has id l := fun st' m' W' hkn id o ho hm => by
      cases hr : app emp (R pre) id with
      | none =>
        rcases hkn.new id o ho hr l hm with q | ⟨i, oi, q1, _, q2⟩
        · omega
        · exact notX i oi l q1 q2 rfl
      | some o0 =>
        obtain ⟨o', _, _, _, _, hpp, _⟩ := hkn.keep id o0 hr
        rcases hpp l hm with q | q | ⟨i, oi, q1, _, q2⟩
        · exact notX id o0 l hr q rfl
        · omega
        · exact notX i oi l q1 q2 rfl
    have dl : ∀ (st' : Store) (m' : Place) (W' : World), SRel (k.fy gg W.heap.size) st' m' W' → ∀ id Y p, st' id = some (.ext Y p) → ¬ Y.D l := fun st' m' W' hSS id Y p hi hD => by
      have h3 := (hSS.objs id _ hi).2.2 l hD
      rcases Pk.ok_may h3 hlW with q | q
      · exact q.2 rfl
      · exact q.2.1 ((hg0 l).2 (.inr rfl))
    show Exit.then _ _ Exit.normal a1 W1
    refine ⟨_, run_beginRound hl1 (by rw [hrecD]), ?_⟩
    obtain ⟨z1, z2⟩ := putObjF W1 l (.loop { rec .ready none with state := .busy })
    obtain ⟨t1, t2⟩ := turn hR2.srel z1 z2 hl1 (own1 _ _ W1 hF2.kn) (dl _ _ W1 hR2.srel)
    have hl2 : (W1.putObj l (.loop { rec .ready none with state := .busy })).heap[l]? = some (.loop { rec .ready none with state := .busy }) := World.putObj_heap_same (Array.getElem?_eq_some_iff.1 hl1).1
    have z3 : (W1.putObj l (.loop { rec .ready none with state := .busy })).os = W1.os ∧ (W1.putObj l (.loop { rec .ready none with state := .busy })).tape = W1.tape ∧ (W1.putObj l (.loop { rec .ready none with state := .busy })).output = W1.output := ⟨rfl, rfl, rfl⟩
    generalize W1.putObj l (.loop { rec .ready none with state := .busy }) = W2 at z1 z2 z3 t1 t2 hl2
    have hrelB : Rel (k.fy gg W.heap.size) n ⟨slA, app emp RA, nxA⟩ m2 a1 W2 :=
      ⟨fun t => (hR2.slots t).still (fun b hb => hb.grow (by omega)) t2, hR2.size, by
        obtain ⟨⟨ml, q1, q2, q3⟩, q4, q5⟩ := hR2.defers
        refine ⟨⟨ml, q1, q2, fun D hD => ⟨(q3 D hD).1, (q3 D hD).2.1, (z2 D (fun hh => ?_)).trans (q3 D hD).2.2⟩⟩, by omega, fun l' hl' => ?_⟩
        · have := (q3 D hD).2.2; rw [hh, hl1] at this; cases this
        · have : l = l' := by simpa [Pk.fy, k] using hl'
          subst this
          exact ⟨(q5 l hl').1, _, hl2⟩, t1, hfrA⟩
    obtain ⟨v1, v2⟩ := putObjF W l (.loop { rec .ready none with state := .busy })
    obtain ⟨p1, p2⟩ := turn hW0.rel v1 v2 hEW (fun id o ho hm => notX id o l ho hm rfl) (dl _ _ W hW0.rel)
    have hlP : (W.putObj l (.loop { rec .ready none with state := .busy })).heap[l]? = some (.loop { rec .ready none with state := .busy }) := World.putObj_heap_same hlW
    have v3 : (W.putObj l (.loop { rec .ready none with state := .busy })).os = W.os ∧ (W.putObj l (.loop { rec .ready none with state := .busy })).tape = W.tape ∧ (W.putObj l (.loop { rec .ready none with state := .busy })).output = W.output := ⟨rfl, rfl, rfl⟩
    generalize W.putObj l (.loop { rec .ready none with state := .busy }) = WP at v1 v2 v3 p1 p2 hlP
    have hFP : FrameExt (k.fy gg W.heap.size) (app emp (R pre)) mm WP (app emp RA) m2 W2 := by
      refine ⟨z3.1.trans (hF2.os.trans v3.1.symm), z3.2.1.trans (hF2.tape.trans v3.2.1.symm), z3.2.2.trans (hF2.output.trans v3.2.2.symm), by have := hF2.size; omega, fun b hb hf => ?_, by rw [v1]; exact hF2.keep, by rw [v1]; exact hF2.new⟩
      by_cases e : b = l
      · subst e; rw [hl2, hlP]
      · rw [z2 b e, v2 b e]; exact hF2.block b (by omega) hf
    have hsim2 := hsb (k.fy gg W.heap.size) mm WP m2 a1 W2 p1 hrelB hFP
    refine wpIn_mono hsim2 ?_
    rintro e2 a2 W3 ⟨s2, m3, hR3, hF3, hex2, nx2, hle2⟩
    obtain ⟨m4, hR4, hF4⟩ := hle2 (k.fy gg W.heap.size) mm WP m3 a2 W3 p1 hR3 hF3
    have hl3 : W3.heap[l]? = some (.loop { rec .ready none with state := .busy }) := (hF4.block l (by omega) (.inr fun id o ho _ hm => notX id o l ho hm rfl)).trans hlP
    have hkn : KN (app emp (R pre)) mm W.heap.size (app emp (R (pre ++ [xs]))) m4 := by have := hF4.kn; rw [v1] at this; exact this
    have hsz3 : W.heap.size ≤ W3.heap.size := by have := hF4.size; omega
    have hval : ∀ t, VRel (app emp (R (pre ++ [xs]))) m4 W3 (okB (k.fy gg W.heap.size) (app emp (R (pre ++ [xs]))) m4 W3) (k.va t) (k.vu t) := fun t =>
      hF4.val ((hW0.val t).still (fun b hb => hb.grow (by omega)) p2)
    have fin : ∀ jump : Option Code, jump = J (pre ++ [xs]) → ∃ v W4, (Instr.endRound l jump).run P W3 = .ok v W4 ∧ YPost (k.spec (.func (.yield l) #[] #[]) (.inr ⟨l, rfl⟩) (fun p => (J p).isNone) A) pre xs gg W (.returned v) W4 := by
      intro jump hj
      refine ⟨_, _, run_endRound jump hl3, ?_⟩
      obtain ⟨y1, y2⟩ := putObjF W3 l (.loop { rec .ready none with state := if jump.isNone then .ready else .done, pending := jump })
      obtain ⟨u1, u2⟩ := turn hR4.srel y1 y2 hl3 (own1 _ _ W3 hkn) (dl _ _ W3 hR4.srel)
      have hl4 : (W3.putObj l (.loop { rec .ready none with state := if jump.isNone then .ready else .done, pending := jump })).heap[l]? = some (.loop (rec (stt (pre ++ [xs])) (J (pre ++ [xs])))) := by
        rw [World.putObj_heap_same (Array.getElem?_eq_some_iff.1 hl3).1, hstt, hj, hrecD]
      have e0 : ({ rec .ready none with state := .busy, pending := none } : Loop) = { rec .ready none with state := .busy } := by rw [hrecD]
      have os4 : (W3.putObj l (.loop { rec .ready none with state := if jump.isNone then .ready else .done, pending := jump })).os = W.os ∧ (W3.putObj l (.loop { rec .ready none with state := if jump.isNone then .ready else .done, pending := jump })).tape = W.tape ∧ (W3.putObj l (.loop { rec .ready none with state := if jump.isNone then .ready else .done, pending := jump })).output = W.output :=
        ⟨hF4.os.trans v3.1, hF4.tape.trans v3.2.1, hF4.output.trans v3.2.2⟩
      generalize W3.putObj l (.loop { rec .ready none with state := if jump.isNone then .ready else .done, pending := jump }) = W4 at y1 y2 u1 u2 hl4 os4
      refine ⟨by simp [Pk.spec, hj], os4.1, os4.2.1, os4.2.2, by omega, fun b hb hg => ?_, growG gg W.heap.size W4.heap.size, fun b hb => mem_grow.2 (.inl hb), fun b hb => mem_grow.1 hb, ⟨m4, ?_⟩, hl4⟩
      · have hbl : b ≠ l := fun q => hg (q ▸ hlg)
        rw [y2 b hbl]
        have n1 : ∀ id o, app emp (R pre) id = some o → ¬ mm.has id b := fun id o ho hm => hg (hW0.own id o b ho hm).1
        rw [hF4.block b (by omega) (.inr fun id o ho _ hm => n1 id o ho hm), v2 b hbl]
      · exact Pk.At.next (k := k) hW0 u1 hkn (by omega) (fun t => (hval t).still (fun b hb => hb.grow (by omega)) u2)
    cases hjj : J (pre ++ [xs]) with
    | none =>
      rw [hjj] at hex2
      obtain rfl : Exit.normal = e2 := by simpa [exitOf] using hex2
      exact fin none hjj.symm
    | some cj =>
      rw [hjj] at hex2
      cases cj with
      | ret => obtain rfl : Exit.ret = e2 := by simpa [exitOf] using hex2
               exact fin (some .ret) hjj.symm
      | exit id => obtain rfl : Exit.exit id = e2 := by simpa [exitOf] using hex2
                   exact fin (some (.exit id)) hjj.symm
      | _ => simp [exitOf] at hex2
  have hst : ∀ (Y : YSpec) (p : List (List Tree)), app emp ((e, .ext Y p) :: C) = upd (app emp C) e (.ext Y p) := fun Y p => by
    funext id
    show app (upd emp e _) C id = _
    by_cases q : id ∈ C.map (·.1)
    · have : id ≠ e := fun r => hs.e (r ▸ q)
      rw [upd_ne this]; exact app_at (.inl q)
    · rw [app_not q]
      by_cases r : id = e
      · subst r; rw [upd_same, upd_same]
      · rw [upd_ne r, upd_ne r, app_emp_none q]; rfl
  have hcall := hW (k.spec (.func (.yield l) #[] #[]) (.inr ⟨l, rfl⟩) (fun p => (J p).isNone) A) rfl rfl hY F (yPlace m e (blks m ((R []).map (·.1)) ++ [l])) w1 (.func (.yield l) #[] #[] :: cs) (by rw [hst]; exact g1) (by simp [hcl2]) (fun i v u hv hu => by
    rw [hst]
    cases i with
    | zero =>
      simp only [List.getElem?_cons_zero, Option.some.injEq] at hv hu
      subst hv; subst hu
      exact .yl e _ [] (upd_same _ _ _)
    | succ i =>
      simp only [List.getElem?_cons_succ] at hv hu
      refine hp.val g2 (hcr i v u hv hu) (fun j hj => ?_)
      have hc := subIds_iff.1 hcaps j (mem_idsL.2 ⟨v, List.mem_of_getElem? hv, hj⟩)
      have hne : j ≠ e := fun q => hs.e (q ▸ hc)
      obtain ⟨o, ho⟩ := app_emp_isSome hc
      exact ⟨by rw [upd_ne hne, ho, hp.c j o ho], yPlace_ne hne⟩)
  refine ⟨l, mark, w1, { target := .fn (.func gf) cs.toArray, args := #[.func (.yield l) #[] #[]] }, w1, gf, (Value.func (.yield l) #[] #[] :: cs).toArray, w1, erun, ?_, ?_, ?_, ?_, ?_⟩
  · simp only [resolve, hu]; simp [go_sem]
  · intro f' hf'; trivial
  · have e2 : #[Value.func (.yield l) #[] #[]] ++ cs.toArray = (Value.func (.yield l) #[] #[] :: cs).toArray := by simp
    simp only [invoke, e2]
    exact run_enter hgfn hcl.2 hgcode _ w1
  · intro h; simp [fw, Fence.wide] at h
  refine CallsIn.mono (F := fw F) (callsIn_wide.2 hcall) ?_
  rintro en w2 ⟨v, m1, rfl, k1, k2, k3⟩
  rw [hst] at k1 k2 k3
  rw [hst] at k2
  obtain ⟨⟨mR, hA'⟩, hEv⟩ := (k1.objs e _ (upd_same _ _ _)).2.1
  have hEv : w2.heap[l]? = some (.loop (rec (stt vs) (J vs))) := hEv
  have hidm : ∀ pre i, i ∈ (R pre).map (·.1) ↔ i ∈ (R []).map (·.1) := fun pre i => by rw [hids]
  have hdis : ∀ id o, app emp C id = some o → k.St vs id = none := fun id o ho => by
    show app emp (R vs) id = none
    refine app_emp_none (fun hm => ?_)
    rw [hidm] at hm
    obtain ⟨x, hx, rfl⟩ := List.mem_map.1 hm
    exact hs.dis x hx (app_emp_some ho)
  obtain ⟨mf, r1, r2, r3, r4⟩ := hp.unpack hk he he2 k1 k2 hA' hdis
  have hfin : bothS (app emp C) (k.St vs) = app emp (R vs ++ C) := by
    funext id
    rw [app_both]; rfl
  rw [hfin] at r1 r2 r3 r4
  have fresh2 : ∀ id, app emp (R [] ++ C) id = none → app emp (R vs ++ C) id = none := fun id hid => by
    refine app_emp_none (fun hm => ?_)
    have : id ∈ (R [] ++ C).map (·.1) := by
      rw [List.map_append, List.mem_append] at hm ⊢
      exact hm.imp (fun q => (hidm vs id).1 q) (fun q => q)
    obtain ⟨o, ho⟩ := app_emp_isSome this
    rw [hid] at ho; cases ho
  have nl : ∀ id o, app emp (R vs ++ C) id = some o → ¬ mf.has id l := fun id o ho hm => by
    obtain ⟨i, oi, q1, q2⟩ := r4 id o l ho hm elt2
    have := hS.lt i oi l q1 q2; omega
  have dl : ∀ id Y p, app emp (R vs ++ C) id = some (.ext Y p) → ¬ Y.D l := fun id Y p hi hD => by
    cases hq : app emp (R [] ++ C) id with
    | none => rw [fresh2 id hq] at hi; cases hi
    | some o =>
      obtain ⟨o', q1, _, _, _, _, q6⟩ := r2.keep id o hq
      rw [hi] at q1; cases q1
      cases o <;> simp [Ob.same] at q6
      subst q6
      have := ((hS.objs id _ hq).2.2 l hD).1
      omega
  show ∃ jump w4, _ ∧ _
  have hnb : (rec (stt vs) (J vs)).state ≠ .busy := by
    rw [hrecD, hstt]
    simp only
    split <;> simp
  have hpend : (rec (stt vs) (J vs)).pending = J vs := by rw [hrecD]
  refine ⟨J vs, _, by rw [← hpend]; exact run_endLoop hEv hnb, ?_⟩
  obtain ⟨z1, z2⟩ := putObjF w2 l (.loop { rec (stt vs) (J vs) with state := .exhausted })
  obtain ⟨t1, t2⟩ := turn r1 z1 z2 hEv nl dl
  have os4 : (w2.putObj l (.loop { rec (stt vs) (J vs) with state := .exhausted })).os = w2.os ∧ (w2.putObj l (.loop { rec (stt vs) (J vs) with state := .exhausted })).tape = w2.tape ∧ (w2.putObj l (.loop { rec (stt vs) (J vs) with state := .exhausted })).output = w2.output := ⟨rfl, rfl, rfl⟩
  generalize w2.putObj l (.loop { rec (stt vs) (J vs) with state := .exhausted }) = w3 at z1 z2 t1 t2 os4
  have hF3 : FrameExt F (app emp (R [] ++ C)) m w (app emp (R vs ++ C)) mf w3 := by
    refine ⟨os4.1.trans r2.os, os4.2.1.trans r2.tape, os4.2.2.trans r2.output, by have := r2.size; omega, fun b hb hf => ?_, r2.keep, r2.new⟩
    rw [z2 b (by omega)]
    exact r2.block b hb hf
  have hmk : Marks F (app emp (R vs ++ C)) mf w3 (mark ++ a.defers) := by
    have h5 := h1.defers.ext hF3
    rcases emk with rfl | ⟨D, rfl, d1, d2, d3, d4⟩
    · exact h5
    · obtain ⟨⟨ml, q1, q2, q3⟩, q4, q5⟩ := h5
      refine ⟨⟨D :: ml, by rw [q1]; rfl, List.nodup_cons.2 ⟨fun hm => ?_, q2⟩, fun D' hD' => ?_⟩, q4, q5⟩
      · have hml : ml = mds := by
          have := q1.symm.trans hm1
          exact (List.map_inj_right (fun x y hxy => by simpa [markD] using hxy)).1 this
        rw [hml] at hm
        have := (Array.getElem?_eq_some_iff.1 (hm3 D hm).2.2).1
        omega
      · rcases List.mem_cons.1 hD' with rfl | hD'
        · refine ⟨by omega, fun id o ho hm => ?_, ?_⟩
          · obtain ⟨i, oi, p1, p2⟩ := r4 id o D' ho hm d2
            have := hS.lt i oi D' p1 p2; omega
          · rw [z2 D' d3]
            rw [k2.block D' d2 (.inr fun id o ho _ hm => ?_)]
            · exact d4
            · by_cases s : id = e
              · rw [s] at hm
                rcases (hg0 D').1 ((yPlace_e _ _ _ _).1 hm) with ⟨i, p1, p2⟩ | p
                · obtain ⟨oi, ho'⟩ := app_emp_isSome p1
                  have := hS.lt i oi D' (hp.r i oi ho') p2; omega
                · exact d3 p
              · rw [upd_ne s] at ho
                have := hS.lt id o D' (hp.c id o ho) ((yPlace_has s).1 hm); omega
        · exact q3 D' hD'
  have hrelF : Rel F n ⟨slB, app emp (R vs ++ C), nx⟩ mf { a with defers := mark ++ a.defers } w3 :=
    ⟨fun t => (r3 t).still (fun b hb => hb.grow (by omega)) t2, h1.size, hmk, t1, fun id hid => fresh2 id (h1.fresh id hid)⟩
  have hF0 := h2.trans h0 hF3
  cases hjj : J vs with
  | none =>
    rw [hjj] at hex
    obtain rfl : Exit.normal = ex := by simpa [exitOf] using hex
    exact ⟨_, mf, hrelF, hF0, hq⟩
  | some cj =>
    rw [hjj] at hex
    cases cj with
    | ret =>
      obtain rfl : Exit.ret = ex := by simpa [exitOf] using hex
      exact wpIn_ret ⟨_, mf, hrelF, hF0, hq⟩
    | exit id =>
      obtain rfl : Exit.exit id = ex := by simpa [exitOf] using hex
      exact wpIn_exit ⟨_, mf, hrelF, hF0, hq⟩
    | _ => simp [exitOf] at hex
end Go.Ab
end
section
set_option linter.unusedVariables false
namespace Go.Ab
variable {P:Program} {n:Nat} {l0:List (Nat×Ob)} {Q:Exit→St→Prop}
structure Iter(P:Program)(gf:FuncId)(caps:List AVal)(C:List (Nat×Ob))(e:Nat){V:Type}(enc:V→List Tree)(d:V)(vl:List V)(J:Nat→Option Code)(m:Nat)(res:AVal):Prop where
 fc:∀Y:YSpec,Y.goes=(fun p=>(J p.length).isNone)→(∀k,k<vl.length→J k=none→Y.adm ((vl.take k).map enc) (enc (vl.getD k d)))→YCalls P Y→
  FC P gf (.yl e::caps) (app emp ((e,.ext Y [])::C)) res (app emp ((e,.ext Y ((vl.take m).map enc))::C))
 le:m≤vl.length
def rgG:Option (At×List Prop)→Operand
 |some (.mid (.rangeFunc g _ _ _) _ _,_)=>g
 |_=>default
def rgP:Option (At×List Prop)→Array Tmp
 |some (.mid (.rangeFunc _ ps _ _) _ _,_)=>ps
 |_=>#[]
def rgA:Option (At×List Prop)→Code
 |some (.mid (.rangeFunc _ _ a _) _ _,_)=>a
 |_=>default
def rgB:Option (At×List Prop)→Code
 |some (.mid (.rangeFunc _ _ _ b) _ _,_)=>b
 |_=>default
def rgK:Option (At×List Prop)→List Fr
 |some (.mid (.rangeFunc _ _ _ _) K _,_)=>K
 |_=>[]
def rgQ(l0:List (Nat×Ob))(nx:Nat)(p:List (Nat×AVal)×List (Nat×Ob)):Option (At×List Prop)→Option ((List (Nat×AVal)×List (Nat×Ob))×List Prop)
 |some (.mid (.rangeFunc _ _ _ _) _ s,C)=>match renSt l0 (idT p.2) (keysT p.1) nx s with
  |some p=>some (p,C)
  |none=>none
 |_=>none
def QA(n:Nat)(l:List (Nat×Ob))(p:List (Nat×AVal)×List (Nat×Ob))(nx:Nat)(e:Exit)(s:St):Prop:=e= .normal∧Le n l s (mkSt p nx)
def QB(n:Nat)(l:List (Nat×Ob))(j:Option Code)(r:List (Nat×Ob))(e:Exit)(s:St):Prop:=exitOf j=some e∧∃nx,Le n l s (mkSt ([],r) nx)
theorem QA_le{l:List (Nat×Ob)}{p:List (Nat×AVal)×List (Nat×Ob)}{nx:Nat}:LeClosed n l (QA n l p nx):=fun e s s' h k=>⟨k.1,h.trans k.2⟩
theorem QB_le{l r:List (Nat×Ob)}{j:Option Code}:LeClosed n l (QB n l j r):=fun e s s' h k=>⟨k.1,k.2.elim fun nx q=>⟨nx,h.trans q⟩⟩
structure Rnd(P:Program)(n:Nat)(asg body:Code)(ps:List Nat)(xs:List Tree)(slB:List (Nat×AVal))(nx:Nat)(r r':List (Nat×Ob))(j:Option Code)(p:List (Nat×AVal)×List (Nat×Ob))(nxA:Nat):Prop where
 fr:p.2.all (fun x=>Nat.blt x.1 nxA)=true
 a:SimC P n r (QA n r p nxA) ⟨.run asg,[],mkSt (bindS ps xs slB,r) nx⟩
 b:SimC P n r (QB n r j r') ⟨.run body,[],mkSt p nxA⟩
theorem SimC.rng{c:Cfg}(sc:List It){gf:FuncId}{caps:List AVal}{V:Type}(enc:V→List Tree)(d:V)(vl:List V)(R:Nat→List (Nat×Ob))(C:List (Nat×Ob))(J:Nat→Option Code)(m e nx:Nat)(sl:List (Nat×AVal))(ts:List Nat)(pA:Nat→List (Nat×AVal)×List (Nat×Ob))(nxA:Nat){res:AVal}
 (hit:Iter P gf caps C e enc d vl J m res)
 (hbody:∀k,k<vl.length→J k=none→Rnd P n (rgA (runP P n sc c)) (rgB (runP P n sc c)) (rgP (runP P n sc c)).toList (enc (vl.getD k d)) (keepS sl ts) nx (R k) (R (k+1)) (J (k+1)) (pA k) nxA)
 (ex:Exit) (k:SimC P n l0 Q ⟨.out ex,rgK (runP P n sc c),mkSt (keepS sl ts,R m++C) nx⟩)
 (hl:∀k,(enc (vl.getD k d)).length=(rgP (runP P n sc c)).size)
 (hJ0:J 0=none:=by rfl) (hids:∀k,(R k).map (·.1)=(R 0).map (·.1):=by intro _;rfl)
 (hg:ev sl (rgG (runP P n sc c))= .fn gf caps:=by kernel_rfl) (hex:exitOf (J m)=some ex:=by rfl)
 (hside:(sideB (R 0) C e&&subIds (idsL caps) C&&okSlotsB sl (R 0) ts&&(R 0).all (fun x=>Nat.blt x.1 nx)&&callable P gf&&(rgP (runP P n sc c)).toList.all (fun p=>Nat.blt p n))=true:=by kernel_rfl)
 (h:rgQ l0 nx (sl,R 0++C) (runP P n sc c)=some ((sl,R 0++C),csL sc):=by kernel_rfl):SimC P n l0 Q c:=by
 generalize hr:runP P n sc c=r at*
 simp only[Bool.and_eq_true] at hside
 obtain⟨⟨⟨⟨⟨s1,s2⟩,s3⟩,s4⟩,s5⟩,s6⟩:=hside
 match r,h with
 |some (.mid (.rangeFunc g ps asg body) K s,C'),h=>
  simp only[rgQ] at h
  split at h
  ·rename_i p hp
   simp only[Option.some.injEq,Prod.mk.injEq] at h
   obtain⟨rfl,rfl⟩:=h
   refine run_sound hr (csL_all sc) (fun hm hQ=> ?_)
   have hle:Le n l0 s (mkSt (sl,R 0++C) nx):=Le.ren hp
   show Sim P n l0 (.rangeFunc g ps asg body) s (wrapK P n l0 K Q)
   refine Sim.weaken hle ?_
   have hlen:∀k,k≤vl.length→((vl.take k).map enc).length=k:=fun k hk=>by simp[List.length_take,Nat.min_eq_left hk]
   have hR0:(fun p:List (List Tree)=>R p.length) []=R 0:=rfl
   refine Sim.rng (R:=fun p=>R p.length) (J:=fun p=>J p.length) (A:=fun pre xs=> ∃k,k<vl.length∧J k=none∧pre=(vl.take k).map enc∧xs=enc (vl.getD k d)) (C:=C) (e:=e) (vs:=(vl.take m).map enc) (ex:=ex) (slB:=keepS sl ts) (nx:=nx) (res:=res) (gf:=gf) (caps:=caps)
    hg (fun Y h1 h2 h3=>hit.fc Y h1 (fun k hk hj=>by rw[h2];exact⟨k,hk,hj,rfl,rfl⟩) h3) ?_ ?_ s5 hJ0 s1 (fun pre=>hids _) s2 (okSlots_keep s3) s6 s4 (by rw[hlen m hit.le];exact hex) ?_
   ·rintro pre xs ⟨k,hk,hj,rfl,rfl⟩
    exact⟨by rw[hlen k (by omega)];exact hj,hl k⟩
   ·rintro pre xs ⟨k,hk,hj,rfl,rfl⟩
    obtain⟨b1,b2,b3⟩:=hbody k hk hj
    have e1:((vl.take k).map enc).length=k:=hlen k (by omega)
    have e2:((vl.take k).map enc++[enc (vl.getD k d)]).length=k+1:=by rw[List.length_append,e1];rfl
    refine⟨(pA k).1,(pA k).2,nxA,fun id hid=> ?_,?_,?_⟩
    ·refine app_emp_none (fun hm=> ?_)
     obtain⟨x,hx,rfl⟩:=List.mem_map.1 hm
     have:=Nat.lt_of_succ_le (Nat.le_of_ble_eq_true (List.all_eq_true.1 b1 x hx))
     omega
    ·have:=b2.run hm QA_le
     simp only[e1]
     exact this
    ·have:=b3.run hm QB_le
     simp only[e1,e2]
     refine Sim.mono this (fun e2' s2 hq=> ?_)
     obtain⟨q1,nx2,q2⟩:=hq
     exact⟨q1,nx2,q2⟩
   ·have:=k.run hm hQ
    rw[hlen m hit.le]
    exact this
  ·cases h
def rbQ(τ:List (Nat×Nat))(l0:List (Nat×Ob))(nx:Nat):Option (At×List Prop)→Option (Exit×List (Nat×Ob)×List Prop)
 |some (.fin e s,C)=>match renSt l0 τ [] nx s with
  |some (_,l)=>some (e,l,C)
  |none=>none
 |_=>none
theorem SimC.rend{c:Cfg}{j:Option Code}{r:List (Nat×Ob)}(sc:List It)(τ:List (Nat×Nat))(ex:Exit)(l:List (Nat×Ob))(he:exitOf j=some ex)(hl:l=r)(h:rbQ τ l0 (nxT τ) (runP P n sc c)=some (ex,l,csL sc):=by kernel_rfl):SimC P n l0 (QB n l0 j r) c:=by
 generalize hr:runP P n sc c=q at*
 subst hl
 match q,h with
 |some (.fin e s,C'),h=>
  simp only[rbQ] at h
  split at h
  ·rename_i sl' l' hp
   simp only[Option.some.injEq,Prod.mk.injEq] at h
   obtain⟨rfl,rfl,rfl⟩:=h
   refine run_sound hr (csL_all sc) (fun hm hQ=> ?_)
   have hsl:sl'=[]:=by
    unfold renSt at hp
    obtain⟨-,hp⟩:=bif_some hp
    split at hp
    ·rename_i hsl
     simp only[renSlots,Option.some.injEq] at hsl
     simp only[Option.some.injEq,Prod.mk.injEq] at hp
     rw[←hp.1,←hsl]
    ·cases hp
   subst hsl
   exact⟨he,_,Le.ren hp⟩
  ·cases h
def raQ(τ:List (Nat×Nat))(l0:List (Nat×Ob))(p:List (Nat×AVal)×List (Nat×Ob))(nx:Nat):Option (At×List Prop)→Option ((List (Nat×AVal)×List (Nat×Ob))×List Prop)
 |some (.fin .normal s,C)=>match renSt l0 τ (keysT p.1) nx s with
  |some q=>some (q,C)
  |none=>none
 |_=>none
theorem SimC.rass{c:Cfg}{p:List (Nat×AVal)×List (Nat×Ob)}{nx:Nat}(sc:List It)(τ:List (Nat×Nat))(h:raQ τ l0 p nx (runP P n sc c)=some (p,csL sc):=by kernel_rfl):SimC P n l0 (QA n l0 p nx) c:=by
 generalize hr:runP P n sc c=q at*
 match q,h with
 |some (.fin .normal s,C'),h=>
  simp only[raQ] at h
  split at h
  ·rename_i q' hp
   simp only[Option.some.injEq,Prod.mk.injEq] at h
   obtain⟨rfl,rfl⟩:=h
   exact run_sound hr (csL_all sc) (fun hm hQ=>⟨rfl,Le.ren hp⟩)
  ·cases h
def Xy(P:Program)(Y:YSpec)(pre:List (List Tree))(xs:List Tree):Px (YCalls P Y∧Y.adm pre xs):=⟨Orc.no,[YCalls P Y,Y.adm pre xs],fun h=>⟨h.1,h.2,trivial⟩⟩
def Xbv(b b':Bool):Px (b=b'):=⟨oV (VB b'),[Weak (VB b) (VB b')],fun h=>⟨Weak.of_eq (by rw[h]),trivial⟩⟩
end Go.Ab
end
section
set_option linter.unusedVariables false
namespace Go.Ab
variable {P:Program} {n:Nat} {l0:List (Nat×Ob)} {Q:Exit→St→Prop}
theorem SimC.weak{ctl:Ctl}{K:List Fr}{s s':St}(h:Le n l0 s s')(k:SimC P n l0 Q ⟨ctl,K,s'⟩):SimC P n l0 Q ⟨ctl,K,s⟩:=⟨fun hm hQ=>CtlG_le hQ h (k.run hm hQ)⟩
structure V9 where
 a:Value
 b:Value
 c:Value
 d:Value
 e:Value
 f:Value
 g:Value
 h:Value
 i:Value
instance:Inhabited V9:=⟨⟨undef,undef,undef,undef,undef,undef,undef,undef,undef⟩⟩
def v9L(x:V9):List Value:=[x.a,x.b,x.c,x.d,x.e,x.f,x.g,x.h,x.i]
def v9T(x:V9):Tree:= .agg [.sc x.a,.sc x.b,.sc x.c,.sc x.d,.sc x.e,.sc x.f,.sc x.g,.sc x.h,.sc x.i]
def v9of:List Value→V9
 | [a,b,c,d,e,f,g,h,i]=>⟨a,b,c,d,e,f,g,h,i⟩
 |_=>default
theorem v9of_L:∀{l:List Value},l.length=9→v9L (v9of l)=l
 | [a,b,c,d,e,f,g,h,i],_=>rfl
def chop:Nat→List Value→List V9
 |0,_=>[]
 |n+1,l=>v9of (l.take 9)::chop n (l.drop 9)
theorem chop_len:∀(n:Nat) (l:List Value),(chop n l).length=n
 |0,_=>rfl
 |n+1,l=>by simp[chop,chop_len n]
theorem v9T_cells(x:V9):(v9T x).cells=(v9L x).map .sc:=rfl
theorem chop_flat:∀(n:Nat) (l:List Value),l.length=n*9→flat ((chop n l).map v9T)=l.map .sc
 |0,l,h=>by have:l=[]:=List.length_eq_zero_iff.1 (by omega);subst this;rfl
 |n+1,l,h=>by
  simp only[chop,List.map_cons,flat,v9T_cells]
  rw[v9of_L (by rw[List.length_take];omega),chop_flat n _ (by rw[List.length_drop];omega),←List.map_append,List.take_append_drop]
theorem chop_deep{α:Type}{f:α→Tree}{w:World}{ok:Nat→Prop}(hf:∀x,∃t,f x= .agg t):∀(l:List α) (vs:List Value),vs.length=l.length*9→(∀x∈l,Elt 9 (f x))→
 (∀(j:Nat) (T:Tree) (u:Value),(flat (l.map f))[j]? =some T→vs[j]? =some u→TRep w ok T u)→∀(i:Nat) (x:α) (x':V9),l[i]? =some x→(chop l.length vs)[i]? =some x'→TRep w ok (f x) (.agg (v9L x').toArray)
 | [],_,_,_,_,i,x,x',h,_=>by simp at h
 |y::l,vs,hl,he,ht,i,x,x',h,h'=>by
  obtain⟨t,hy⟩:=hf y
  have hE:=he y List.mem_cons_self
  rw[hy] at hE
  have ht9:t.length=9:=hE.1
  have e1:flat ((y::l).map f)=t++flat (l.map f):=by simp only[List.map_cons,flat];rw[hy];rfl
  rw[e1] at ht
  simp only[List.length_cons] at hl
  cases i with
  |zero=>
   simp only[List.getElem?_cons_zero,Option.some.injEq,List.length_cons,chop] at h h'
   subst h;subst h'
   rw[hy,v9of_L (by rw[List.length_take];omega)]
   refine .agg t (vs.take 9) (by rw[List.length_take];omega) hE.2 (fun j T u hT hu=>ht j T u ?_ ?_)
   ·rw[List.getElem?_append_left (List.getElem?_eq_some_iff.1 hT).1];exact hT
   ·rw[List.getElem?_take] at hu
    split at hu
    ·exact hu
    ·cases hu
  |succ i=>
   simp only[List.getElem?_cons_succ,List.length_cons,chop] at h h'
   refine chop_deep hf l (vs.drop 9) (by rw[List.length_drop];omega) (fun x hx=>he x (List.mem_cons_of_mem _ hx)) (fun j T u hT hu=>ht (t.length+j) T u ?_ ?_) i x x' h h'
   ·rw[List.getElem?_append_right (by omega),Nat.add_sub_cancel_left];exact hT
   ·rw[List.getElem?_drop] at hu;rw[ht9];exact hu
structure YDeep{α:Type}(Y:YSpec)(f:α→Tree)(l:List α)(l':List V9):Prop where
 len:l'.length=l.length
 hold:∀(pre:List (List Tree)) (g:List Nat) (w:World),Y.holds pre g w→∀(i:Nat) (x:α) (x':V9),l[i]? =some x→l'[i]? =some x'→TRep w Y.D (f x) (.agg (v9L x').toArray)
theorem v9T_inv{w:World}{ok:Nat→Prop}{x:V9}{u:Value}(h:TRep w ok (v9T x) u):u= .agg (v9L x).toArray:=by
 unfold v9T at h
 cases h with
 |agg _ us hl hc h=>
 congr 2
 have:∀(l:List Value) (us:List Value),us.length=(l.map Tree.sc).length→(∀(i:Nat) (T:Tree) (u:Value),(l.map Tree.sc)[i]? =some T→us[i]? =some u→TRep w ok T u)→us=l:=by
  intro l us hl h
  apply List.ext_getElem?
  intro i
  by_cases hi:i<us.length
  ·have hi2:i<l.length:=by rw[List.length_map] at hl;omega
   have h1:(l.map Tree.sc)[i]? =some (.sc l[i]):=by rw[List.getElem?_map,List.getElem?_eq_getElem hi2];rfl
   have h2:=VRel.sc_inv (S:=emp) (m:=⟨fun _=>(none,0),fun _=>[]⟩) (.t _ _ (h i _ _ h1 (List.getElem?_eq_getElem hi)))
   rw[List.getElem?_eq_getElem hi,List.getElem?_eq_getElem hi2,h2]
  ·rw[List.getElem?_eq_none (by omega),List.getElem?_eq_none (by simp at hl;omega)]
 exact this (v9L x) us hl h
theorem deep_le{α:Type}[Inhabited α]{Y:YSpec}{f:α→Tree}{l:List α}{l':List V9}(hY:YDeep Y f l l'){i:Nat}(hi:i<l.length){s:St}(t e:Nat){pre:List (List Tree)}(he:s.st e=some (.ext Y pre))(ht:get s.sl t= .t (v9T (l'.getD i default))):
 Le n l0 s ⟨(t,.t (f (l.getD i default)))::s.sl,s.st,s.nx⟩:=by
 intro P F m0 w0 m a w h0 h1 h2
 refine⟨m,⟨fun t'=> ?_,h1.size,h1.defers,h1.srel,h1.fresh⟩,h2⟩
 simp only[get]
 by_cases q:t=t'
 ·subst q
  simp only[Nat.beq_refl,cond_true]
  have hv:=h1.slots t
  rw[ht] at hv
  generalize a.tmps.getD t undef=u at hv
  cases hv with
  |t _ _ hT=>
  have hu:=v9T_inv hT
  subst hu
  obtain⟨-,hh,hD⟩:=h1.srel.objs e _ he
  have hl:=hY.len
  have e1:l[i]? =some (l.getD i default):=by simp[List.getD,hi]
  have e2:l'[i]? =some (l'.getD i default):=by simp[List.getD,hl▸hi]
  exact .t _ _ ((hY.hold _ _ _ hh i _ _ e1 e2).mono hD (fun _ _ _ _ h=>h))
 ·rw[beq_ne q,cond_false];exact h1.slots t'
theorem Le.boxW{s:St}{b i:Nat}{cs:List AVal}{v v':AVal}(hb:s.st b=some (.box cs))(hi:cs[i]? =some v)(hW:Weak v v'):Le n l0 s ⟨s.sl,upd s.st b (.box (cs.set i v')),s.nx⟩:=by
 intro P F m0 w0 m a w h0 h1 h2
 obtain⟨bb,us,e,q1,q2,q3,q4⟩:=h1.srel.objs b _ hb
 have key:=rewrite_obj (o':= .box (cs.set i v')) h1.srel hb rfl q1 (w':=w) rfl rfl rfl rfl (fun _ _=>rfl) (by simp[Ob.len]) (by simp[Ob.same]) (fun hF=>by
  refine⟨bb,us,e,q1,q2,by simp[q3],fun j x u hv hu=> ?_⟩
  rw[List.getElem?_set] at hv
  split at hv
  ·rename_i hij
   subst hij
   split at hv
   ·simp only[Option.some.injEq] at hv
    subst hv
    obtain⟨r1,r2⟩:=q4 i _ u hi hu
    exact⟨hW _ _ _ _ _ (hF.val r1),r2⟩
   ·cases hv
  ·obtain⟨r1,r2⟩:=q4 j x u hv hu
   exact⟨hF.val r1,r2⟩)
 refine⟨_,⟨fun t'=>key.2.val (h1.slots t'),h1.size,h1.defers.ext key.2,key.1,fun id' hid'=> ?_⟩,h2.trans h0 key.2⟩
 show upd s.st b _ id'=none
 simp only at hid'
 rw[upd_ne (fun e=>by subst e;rw[h1.fresh id' (by omega)] at hb;cases hb)]
 exact h1.fresh id' (by omega)
theorem Weak.nilL{k:Nat}(hk:0<k):Weak VN (.t (.lst k [])):=fun st m w ok u h=>by
 have:=VRel.sc_inv h
 subst this
 exact .t _ _ (.lst k [] none 0 [] hk (fun x hx=>by cases hx) (Nat.le_refl _) (Nat.zero_le _) (fun h=>absurd rfl h) (by simp) (fun j T u h=>by simp[flat] at h))
def isRun:Ctl→Bool
 | .run _=>true
 | .out _=>false
theorem SimC.shal{c:Cfg}{α:Type}(f:α→Tree)(l:List α)(b i:Nat)(cs:List AVal)(hf:∀x,∃t,f x= .agg t)
 (k:∀(l':List V9) (Y:YSpec),YDeep Y f l l'→SimC P n l0 Q ⟨c.ctl,c.K,⟨c.s.sl,upd (upd c.s.st b (.box (cs.set i (VL 9 v9T l')))) c.s.nx (.ext Y []),c.s.nx+1⟩⟩)
 (hb:c.s.st b=some (.box cs):=by kernel_rfl) (hi:cs[i]? =some (VL 9 f l):=by kernel_rfl) (hr:isRun c.ctl=true:=by kernel_rfl):SimC P n l0 Q c:=by
 refine⟨fun hm hQ=> ?_⟩
 obtain⟨ctl,K,s⟩:=c
 cases ctl with
 |out e=>cases hr
 |run code=>
 show Sim P n l0 code s (wrapK P n l0 K Q)
 intro F m0 w0 m a w h0 h1 h2
 have hS:=h1.srel
 obtain⟨bb,us,ty,p1,p2,p3,p4⟩:=hS.objs b _ hb
 have hil:=(List.getElem?_eq_some_iff.1 hi).1
 have hiu:us[i]? =some (us[i]'(Nat.lt_of_lt_of_le hil p3.1)):=Array.getElem?_eq_getElem _
 obtain⟨q1,q2⟩:=p4 i _ _ hi hiu
 generalize us[i]'(Nat.lt_of_lt_of_le hil p3.1)=u at hiu q1 q2
 cases q1 with
 |t _ _ hT=>
 cases hT with
 |lst _ _ A cc vs hk hx hn hmx hA hl hv=>
 have hl9:vs.length=l.length*9:=by simpa using hl
 have hE:∀x∈l,Elt 9 (f x):=fun x hx'=>hx _ (List.mem_map.2 ⟨x,hx',rfl⟩)
 have hone:∀(j:Nat) (u:Value),vs[j]? =some u→u.oneCell'=true:=by
  intro j u hu
  have hj:=(List.getElem?_eq_some_iff.1 hu).1
  have hfl:(flat (l.map f)).length=l.length*9:=(flat_len hx).trans (by simp)
  have hT:=List.getElem?_eq_getElem (l:=flat (l.map f)) (i:=j) (by omega)
  refine(hv j _ u hT hu).one ?_
  exact flat_cell hx _ (List.getElem_mem _)
 have hdeep:=chop_deep (w:=w) (ok:=okB F s.st m w) hf l vs hl9 hE hv
 obtain⟨Y,hY⟩:∃Y:YSpec,Y={
  fn:= .func (.func default) #[] #[]
  kind:= .inl ⟨_,_,rfl⟩
  goes:=fun _=>true
  adm:=fun _ _=>False
  D:=okB F s.st m w
  holds:=(fun _ _ W=> ∀(i:Nat) (x:α) (x':V9),l[i]? =some x→(chop l.length vs)[i]? =some x'→TRep W (okB F s.st m w) (f x) (.agg (v9L x').toArray))
  stab:=fun _ _ W W' h _ _ hD i x x' r1 r2=>(h i x x' r1 r2).mono (fun _ q=>q) (fun b o u hb hc=>by rw[cell_of_heap (hD b hb)];exact hc)
  stabD:=fun _ _ W W' q h hq _ _ hb i x x' r1 r2=>(h i x x' r1 r2).mono (fun _ q=>q) (fun b o u _ hc=>by
   rw[cell_of_heap (hb b (fun e=>by subst e;obtain⟨_,_,_,hz⟩:=cells_of_cell hc;rw[hq] at hz;cases hz))];exact hc)}:=⟨_,rfl⟩
 have hYD:YDeep Y f l (chop l.length vs):=⟨chop_len _ _,fun pre g W hh=>by subst hY;exact hh⟩
 have hkk:=(k (chop l.length vs) Y hYD).run hm hQ
 have hfr:s.st s.nx=none:=h1.fresh s.nx (Nat.le_refl _)
 have hbn:b≠s.nx:=fun e=>by rw[e,hfr] at hb;cases hb
 obtain⟨cs',hcs'⟩:∃cs',cs'=cs.set i (VL 9 v9T (chop l.length vs)):=⟨_,rfl⟩
 have hcl:cs'.length=cs.length:=by rw[hcs',List.length_set]
 obtain⟨S',hS'⟩:∃S',S'=upd (upd s.st b (.box cs')) s.nx (.ext Y []):=⟨_,rfl⟩
 obtain⟨m',hm'⟩:∃m',m'=yPlace m s.nx []:=⟨_,rfl⟩
 have mh:∀id x,m'.has id x→id≠s.nx∧m.has id x:=fun id x hh=>by
  subst hm'
  by_cases e:id=s.nx
  ·subst e;exact absurd ((yPlace_e _ _ _ _).1 hh) (by simp)
  ·exact⟨e,(yPlace_has e).1 hh⟩
 have old:∀id o,S' id=some o→id≠s.nx→∃o0,s.st id=some o0∧o0.live=o.live:=fun id o ho hne=>by
  subst hS'
  rw[upd_ne hne] at ho
  by_cases e:id=b
  ·subst e;rw[upd_same] at ho;cases ho;exact⟨_,hb,rfl⟩
  ·rw[upd_ne e] at ho;exact⟨o,ho,rfl⟩
 have hF:FrameExt F s.st m w S' m' w:=by
  refine⟨rfl,rfl,rfl,Nat.le_refl _,fun _ _ _=>rfl,fun id o ho=> ?_,fun id o ho hno x hh=> ?_⟩
  ·have hne:id≠s.nx:=fun e=>by rw[e,hfr] at ho;cases ho
   have hmi:m' id=m id:=by rw[hm'];exact yPlace_ne hne
   by_cases e:id=b
   ·subst e
    rw[hb] at ho;cases ho
    exact⟨.box cs',by rw[hS',upd_ne hne,upd_same],Nat.le_refl _,fun _=>hmi,fun q=>q,fun x hx=> .inl (mh _ _ hx).2,hcl.symm⟩
   ·exact⟨o,by rw[hS',upd_ne hne,upd_ne e];exact ho,Nat.le_refl _,fun _=>hmi,fun q=>q,fun x hx=> .inl (mh _ _ hx).2,o.same_refl⟩
  ·obtain⟨hne,-⟩:=mh _ _ hh
   obtain⟨o0,r1,-⟩:=old id o ho hne
   rw[hno] at r1;cases r1
 have hok:∀x,okB F s.st m w x→okB F S' m' w x:=fun x hx=>hF.ok hx
 have hSR:SRel F S' m' w:=by
  refine⟨fun id o ho=> ?_,fun i j oi oj x hi hj hx hy=> ?_,fun id o x ho hx=> ?_,fun id o x ho hx=> ?_,hS.low,hS.hold⟩
  ·by_cases e:id=s.nx
   ·subst e
    rw[hS',upd_same] at ho;cases ho
    refine⟨by rw[hm'];simp[yPlace],?_,fun x hx=>hok x ?_⟩
    ·subst hY;exact hdeep
    ·subst hY;exact hx
   ·have hmi:m' id=m id:=by rw[hm'];exact yPlace_ne e
    have hgi:m'.g id=m.g id:=by rw[hm'];exact yPlace_g e
    rw[hmi,hgi]
    by_cases e2:id=b
    ·subst e2
     rw[hS',upd_ne e,upd_same] at ho;cases ho
     refine⟨bb,us,ty,p1,p2,by rw[hcl];exact p3,fun j v u' hv' hu'=> ?_⟩
     rw[hcs',List.getElem?_set] at hv'
     by_cases ej:i=j
     ·subst ej
      rw[if_pos rfl,if_pos hil] at hv'
      cases hv'
      rw[hiu] at hu';cases hu'
      refine⟨.t _ _ ?_,q2⟩
      have hlen:((chop l.length vs).map v9T).length=(l.map f).length:=by simp[chop_len]
      rw[←hlen]
      refine .lst 9 _ A cc vs (by omega) (fun x hx'=> ?_) (by rw[hlen];exact hn) hmx (fun hne=> ?_) (by rw[hlen];exact hl) (fun j T u hT hu=> ?_)
      ·obtain⟨y,-,rfl⟩:=List.mem_map.1 hx'
       exact⟨rfl,fun T hT=>by rw[v9T_cells] at hT;obtain⟨z,-,rfl⟩:=List.mem_map.1 hT;rfl⟩
      ·obtain⟨b',o',r1,r2,r3⟩:=hA (fun hz=>hne (List.length_eq_zero_iff.1 (by rw[hlen,hz];rfl)))
       exact⟨b',o',r1,hok _ r2,r3⟩
      ·rw[chop_flat _ _ hl9,List.getElem?_map,hu] at hT
       cases hT
       exact .sc u (hone j u hu)
     ·rw[if_neg ej] at hv'
      obtain⟨r1,r2⟩:=p4 j v u' hv' hu'
      exact⟨hF.val r1,r2⟩
    ·rw[hS',upd_ne e,upd_ne e2] at ho
     exact(hS.objs id o ho).persist hF (fun _ _=>rfl)
  ·obtain⟨a1,a2⟩:=mh _ _ hx
   obtain⟨b1,b2⟩:=mh _ _ hy
   obtain⟨o1,c1,-⟩:=old i oi hi a1
   obtain⟨o2,c2,-⟩:=old j oj hj b1
   exact hS.inj i j o1 o2 x c1 c2 a2 b2
  ·obtain⟨a1,a2⟩:=mh _ _ hx
   obtain⟨o1,c1,-⟩:=old id o ho a1
   exact hS.avoid id o1 x c1 a2
  ·obtain⟨a1,a2⟩:=mh _ _ hx
   obtain⟨o1,c1,-⟩:=old id o ho a1
   exact hS.lt id o1 x c1 a2
 subst hcs' hS'
 refine hkk F m0 w0 m' a w h0 ⟨fun t=>hF.val (h1.slots t),h1.size,h1.defers.ext hF,hSR,fun id hid=> ?_⟩ (h2.trans h0 hF)
 show upd (upd s.st b _) s.nx _ id=none
 simp only at hid
 rw[upd_ne (by omega),upd_ne (fun e=>by subst e;have:=hb;rw[h1.fresh id (by show s.nx≤id;omega)] at this;cases this)]
 exact h1.fresh id (by omega)
end Go.Ab
end
section
set_option linter.unusedVariables false
namespace Go.Ab
variable {P:Program} {n:Nat} {l0:List (Nat×Ob)} {Q:Exit→St→Prop}
abbrev TP(b:Nat):Tree:= .sc (.pointer (some ⟨b,0,none⟩))
theorem SimC.pin{c:Cfg}(p t:Nat)(es:List (Nat×List Tree))(r:Nat)(cs:List AVal)(es':Nat→List (Nat×List Tree))(T:Nat→List Tree)(he:∀b,es++[(b,T b)]=es' b)
 (k:∀b,b∉es.map (·.1)→SimC P n l0 Q ⟨c.ctl,c.K,⟨(t,.t (TP b))::c.s.sl,upd c.s.st p (.pool (es' b) (some (b,r))),c.s.nx⟩⟩)
 (hp:c.s.st p=some (.pool es none):=by kernel_rfl) (hg:get c.s.sl t= .ptr r 0:=by kernel_rfl) (hr:c.s.st r=some (.box cs):=by kernel_rfl) (hc:isRun c.ctl=true:=by kernel_rfl):SimC P n l0 Q c:=by
 refine⟨fun hm hQ=> ?_⟩
 obtain⟨ctl,K,s⟩:=c
 cases ctl with
 |out e=>cases hc
 |run code=>
 show Sim P n l0 code s (wrapK P n l0 K Q)
 intro F m0 w0 m a w h0 h1 h2
 have hS:=h1.srel
 have hv:=h1.slots t
 rw[hg] at hv
 generalize hu:a.tmps.getD t undef=u at hv
 cases hv with
 |ptrG _ _ _ hs=>rw[hr] at hs;cases hs
 |ptr _ _ cs' b hs hm'=>
 obtain⟨hnb,k1,k2⟩:=pool_pin hS (T b) hp hr hm'
 rw[he b] at k1 k2
 refine(k b hnb).run hm hQ F m0 w0 m a w h0 ⟨fun t'=> ?_,h1.size,h1.defers.ext k2,k1,fun id hid=> ?_⟩ (h2.trans h0 k2)
 ·simp only[get]
  by_cases e:t=t'
  ·subst e
   simp only[Nat.beq_refl,cond_true]
   rw[hu]
   exact .t _ _ (.sc _ rfl)
  ·rw[beq_ne e,cond_false]
   exact k2.val (h1.slots t')
 ·show upd s.st p _ id=none
  rw[upd_ne (fun e=>by subst e;have:=h1.fresh id hid;rw[this] at hp;cases hp)]
  exact h1.fresh id hid
theorem FC.ofBelow{f:FuncId}{args:List AVal}{st:Store}{res:AVal}
 (h:∀(F:Fen P) (m:Place) (w:World) (us:List Value),SRel F st m w→us.length=args.length→(∀(i:Nat) (v:AVal) (u:Value),args[i]? =some v→us[i]? =some u→VRel st m w (okB F st m w) v u)→
  Calls P f us.toArray w fun e w'=> ∃v,e= .returned v∧VRel st m w (okB F st m w) res v∧RowKit.Below w.heap.size w w'):FC P f args st res st:=by
 intro F m w us hS hl hv
 refine(h F m w us hS hl hv).mono ?_
 rintro e w' ⟨v,rfl,hr,b1,b2,b3,b4,b5⟩
 have hF:FrameExt F st m w st m w':=⟨b1,b2,b3,b4,fun b hb _=>b5 b hb,fun i o h=>⟨o,h,Nat.le_refl _,fun _=>rfl,fun h=>h,fun _ q=> .inl q,o.same_refl⟩,fun i o h h'=>by rw[h'] at h;cases h⟩
 exact⟨v,m,rfl,⟨fun id o h=>(hS.objs id o h).persist hF (fun b hb=>b5 b (hS.lt id o b h hb)),hS.inj,hS.avoid,fun id o b h hb=>Nat.lt_of_lt_of_le (hS.lt id o b h hb) b4,fun b hb=>Nat.lt_of_lt_of_le (hS.low b hb) b4,hS.held hF⟩,hF,hF.val hr⟩
end Go.Ab
end
section
set_option linter.unusedVariables false
namespace Go.Ab
open Go
variable {P:Program} {w:World} {F:Fen P} {S:Store} {m:Place} {n:Nat} {l0:List (Nat×Ob)} {s:St} {Q:Exit→St→Prop}
theorem next_step(hS:SRel F S m w){o:Oper}{a:Act}{x:Operand}{id mid nn:Nat}{seen:List Nat}{es:List (Int×MV)}{h:Option (Int×AVal)}(ho:o.op= .next x false)(hx:VRel S m w (okB F S m w) (.hdl id) (a.eval x))
 (hid:S id=some (.miter mid nn seen)) (hmid:S mid=some (.mp es h)) (hn:es.length=nn):
 (∃i,i<nn∧i∉seen∧Up P F S m w [(id,.miter mid nn (seen++[i]))] (.tup [.t (.sc (.bool true)),.junk,.junk]) o a)∨((∀i,i<nn→i∈seen)∧Up P F S m w [] (.tup [.t (.sc (.bool false))]) o a):=by
 obtain⟨bi,bm,a1,a2,_,a4⟩:=hS.objs id _ hid
 obtain⟨b,ents,bl,hM⟩:=hS.objs mid _ hmid
 have hM:MapD S m w (okB F S m w) es h (m mid) (m.g mid) b ents bl:=hM
 obtain rfl:bm=b:=by have:=hM.1;rw[a2] at this;cases this;rfl
 have hu:a.eval x= .pointer (some ⟨bi,0,none⟩):=by
  generalize a.eval x=u at hx
  cases hx with
  |hdl _ o' b' _ hs' hm hu=>
   rw[hid] at hs';cases hs'
   simp only[hdlVal,Option.some.injEq] at hu
   rw[a1] at hm;cases hm
   exact hu.symm
 have hlen:ents.length=nn:=hM.2.2.1.trans hn
 have born:∀(i:Nat) (e:MapEntry),ents[i]? =some e→e.born=i:=fun i e he=>by
  have hil:i<es.length:=by rw[←hM.2.2.1];exact(List.getElem?_eq_some_iff.1 he).1
  exact(hM.2.2.2.2.2.2 i es[i] e (List.getElem?_eq_getElem hil) he).2.1
 have hold:∀x∈ents.toArray.toList,x.born<nn:=fun e he=>by
  obtain⟨i,hi,rfl⟩:=List.mem_iff_getElem.1 (show e∈ents by simpa using he)
  rw[born i _ (List.getElem?_eq_getElem hi),←hlen];exact hi
 have hrun:(execOp a.eval o).run P w=((Instr.next (.pointer (some ⟨bi,0,none⟩)) false o.type).run P w).andThen fun v w'=> .ok (.value v) w':=by
  obtain⟨dst,op,type,pos,after,guard⟩:=o
  simp only at ho
  subst ho
  simp[execOp,hu]
 rcases run_next_at (P:=P) w o.type bi bm nn nn seen.toArray ents.toArray ents.length a4 hM.2.1 hold (Nat.le_refl _) with⟨h0,hr⟩| ⟨e,he,w1,hw1,hr⟩
 ·right
  refine⟨fun i hi=> ?_,?_⟩
  ·have hil:i<ents.length:=by rw[hlen];exact hi
   have hemp:=Array.eq_empty_of_size_eq_zero h0
   unfold leftOf at hemp
   rw[Array.filter_eq_empty_iff] at hemp
   have:=hemp ents[i] (by simp)
   rw[born i _ (List.getElem?_eq_getElem hil)] at this
   simpa using this
  ·refine Up.value (m':=m) (w':=w) (v:= .tuple #[.bool false]) (by rw[hrun,hr];rfl) hS (FrameExt.refl F S m w) (.tup _ [.bool false] rfl (fun i v u hv hu=> ?_))
   match i with
   |0=>cases hv;cases hu;exact .t _ _ (.sc _ rfl)
   |i+1=>cases hv
 ·left
  unfold leftOf at he
  simp only[Array.toList_filter,List.mem_filter,Bool.not_eq_true',List.contains_toArray] at he
  obtain⟨he1,he2⟩:=he
  obtain⟨i,hi,rfl⟩:=List.mem_iff_getElem.1 he1
  have hb:=born i _ (List.getElem?_eq_getElem hi)
  rw[hb] at he2 hr
  have hal:w1.heap=w.heap∧w1.os=w.os∧w1.tape=w.tape∧w1.output=w.output:=by rcases hw1 with rfl|rfl<;>exact⟨rfl,rfl,rfl,rfl⟩
  have hblt:bi<w.heap.size:=(Array.getElem?_eq_some_iff.1 a4).1
  have key:=rewrite_obj (o':= .miter mid nn (seen++[i])) hS hid rfl a1 (w':=ChangeMaps.setBlock w1 bi (.mapIter (some bm) nn (seen.toArray.push i) ents.length)) hal.2.1 hal.2.2.1 hal.2.2.2
   (by simp[ChangeMaps.setBlock,hal.1]) (fun c hc=>by simp only[ChangeMaps.setBlock,hal.1];rw[Array.getElem?_setIfInBounds_ne (Ne.symm hc)]) (Nat.le_refl _) trivial
   (fun hF=>⟨bi,bm,a1,a2,⟨es,h,by rw[upd_ne (fun e=>by subst e;rw[hid] at hmid;cases hmid)];exact hmid⟩,by
    simp only[ChangeMaps.setBlock,hal.1,hlen]
    rw[Array.getElem?_setIfInBounds_self_of_lt hblt]
    simp⟩)
  refine⟨i,by rw[←hlen];exact hi,by simpa using he2,?_⟩
  refine Up.value (m':=m) (v:= .tuple #[.bool true,ents[i].key,ents[i].val]) (by rw[hrun,hr];rfl) key.1 key.2 (.tup _ [.bool true,ents[i].key,ents[i].val] rfl (fun j v u hv hu=> ?_))
  match j with
  |0=>cases hv;cases hu;exact .t _ _ (.sc _ rfl)
  |1=>cases hv;exact .junk _
  |2=>cases hv;exact .junk _
  |j+3=>cases hv
def nxV(v:Bool):AVal:=bif v then .tup [.t (.sc (.bool true)),.junk,.junk] else .tup [.t (.sc (.bool false))]
def nxX(P:Program)(n:Nat)(v:Bool)(i:Nat):Option (At×List Prop)→Option Cfg
 |some (.mid (.region _ ops false) K s,_)=>match ops.toList with
  |o1::rest=>match o1.op,o1.guard with
   | .next x false,none=>match ev s.sl x with
    | .hdl id=>match s.st id with
     |some (.miter mid n' seen)=>
      match runL P ops.toList [] s.nx 1 rest ⟨put s.sl o1.dst (nxV v),app s.st (bif v then[(id,.miter mid n' (seen++[i]))] else[]),s.nx⟩ with
      |some (s',rs)=>bif (ops.toList.all (dstOk n))&&(allC rs).isEmpty&&Nat.blt id s.nx then some ⟨.out .normal,K,⟨s'.sl,s'.st,s.nx+8*ops.toList.length⟩⟩ else none
      |none=>none
     |_=>none
    |_=>none
   |_,_=>none
  | []=>none
 |_=>none
def nxI:Option (At×List Prop)→Option (Nat×List Nat×List (Int×MV)×List Prop)
 |some (.mid (.region _ ops false) _ s,C)=>match ops.toList with
  |o1::_=>match o1.op with
   | .next x false=>match ev s.sl x with
    | .hdl id=>match s.st id with
     |some (.miter mid n seen)=>match s.st mid with
      |some (.mp es _)=>some (n,seen,es,C)
      |_=>none
     |_=>none
    |_=>none
   |_=>none
  | []=>none
 |_=>none
theorem nx_sim{rid:Nat}{ops:Array Oper}{K:List Fr}{C C':List Prop}{nn:Nat}{seen:List Nat}{es:List (Int×MV)}(hn:es.length=nn)(hI:nxI (some (.mid (.region rid ops false) K s,C))=some (nn,seen,es,C'))
 (h1:∀i,(nxX P n true i (some (.mid (.region rid ops false) K s,C))).isSome=true) (h2:(nxX P n false 0 (some (.mid (.region rid ops false) K s,C))).isSome=true)
 (ht:∀i,i<nn→i∉seen→∀s',(nxX P n true i (some (.mid (.region rid ops false) K s,C)))=some ⟨.out .normal,K,s'⟩→Q .normal s')
 (hf:(∀i,i<nn→i∈seen)→∀s',(nxX P n false 0 (some (.mid (.region rid ops false) K s,C)))=some ⟨.out .normal,K,s'⟩→Q .normal s'):Sim P n l0 (.region rid ops false) s Q:=by
 intro F m0 w0 m a w h0 r1 r2
 suffices hh:(Code.region rid ops.toList.toArray false).wpIn (fw F) 0 P (fun e a' w'=> ∃s' m',Rel F n s' m' a' w'∧FrameExt F (app emp l0) m0 w0 s'.st m' w'∧Q e s') a w by simpa using hh
 refine wpIn_region_list ?_
 simp only[nxI] at hI
 split at hI
 rotate_left
 ·cases hI
 rename_i o1 rest hops
 split at hI
 rotate_left
 ·cases hI
 rename_i x hop
 split at hI
 rotate_left
 ·cases hI
 rename_i id hx
 split at hI
 rotate_left
 ·cases hI
 rename_i mid n' seen' hit
 split at hI
 rotate_left
 ·cases hI
 rename_i es' hh' hmid
 simp only[Option.some.injEq,Prod.mk.injEq] at hI
 obtain⟨rfl,rfl,rfl,-⟩:=hI
 have hxv:VRel s.st m w (okB F s.st m w) (.hdl id) (a.eval x):=by
  have:=ev_rel (x:=x) (fun t _=>r1.slots t)
  rw[hx] at this;exact this
 have hguard:o1.guard=none:=by
  have:=h2
  simp only[nxX,hops,hop] at this
  cases hg:o1.guard with
  |none=>rfl
  |some p=>simp[hg] at this
 have hX:∀v i,nxX P n v i (some (.mid (.region rid ops false) K s,C))=
  match runL P ops.toList [] s.nx 1 rest ⟨put s.sl o1.dst (nxV v),app s.st (bif v then[(id,.miter mid n' (seen'++[i]))] else[]),s.nx⟩ with
  |some (s',rs)=>bif (ops.toList.all (dstOk n))&&(allC rs).isEmpty&&Nat.blt id s.nx then some ⟨.out .normal,K,⟨s'.sl,s'.st,s.nx+8*ops.toList.length⟩⟩ else none
  |none=>none:=by
  intro v i
  simp only[nxX]
  rw[hops]
  simp only[hop,hguard,hx,hit]
 have go:∀(v:Bool) (i:Nat),(nxX P n v i (some (.mid (.region rid ops false) K s,C))).isSome=true→
  (∀s',nxX P n v i (some (.mid (.region rid ops false) K s,C))=some ⟨.out .normal,K,s'⟩→Q .normal s')→
  Up P F s.st m w (bif v then[(id,.miter mid n' (seen'++[i]))] else[]) (nxV v) o1 a→
  wpListIn (fw F) 0 P ops.toList.toArray (fun e a' w'=> ∃s' m',Rel F n s' m' a' w'∧FrameExt F (app emp l0) m0 w0 s'.st m' w'∧Q e s') (o1::rest) a w:=by
  intro v i hs hq hu
  rw[hX] at hs
  have hq':∀s',_=some (⟨.out .normal,K,s'⟩:Cfg)→Q .normal s':=fun s' h=>hq s' ((hX v i).trans h)
  revert hs hq'
  split
  ·rename_i s2 rs hrun
   intro hs hq'
   cases hc:((ops.toList.all (dstOk n))&&(allC rs).isEmpty&&Nat.blt id s.nx) with
   |false=>rw[hc] at hs;cases hs
   |true=>
    rw[hc] at hq'
    simp only[Bool.and_eq_true] at hc
    obtain⟨⟨c1,c2⟩,c3⟩:=hc
    have hemp:allC rs=[]:=by simpa using c2
    rw[hops] at c1
    simp only[List.all_cons,Bool.and_eq_true] at c1
    have hQ:=hq' _ rfl
    unfold wpListIn
    rw[if_pos (by simp[Region.wanted,hguard])]
    refine⟨fun _ _=>trivial,?_⟩
    rw[Oper.semAt_eq _ _ _ (fun cl e=>by rw[hop] at e;cases e)]
    refine hu _ _ (fun u w' m' k1 k2 k3=> ?_)
    refine runL_wp (ds:=a.defers) rest 1 _ s2 rs hrun (by rw[hemp];trivial) c1.2 m' _ w' ?_ (by rw[put_size];exact r1.size) (by rw[put_defers]) k1 (fun id' hid'=> ?_) (fun m'' a'' w'' q1 q2 q3 q4 q5 q6=> ?_)
    ·exact SlotsRel.put c1.1 r1.size (fun t=>k2.val (r1.slots t)) k3
    ·show app s.st _ id'=none
     have hfr:=r1.fresh id' (by omega)
     cases v with
     |false=>exact hfr
     |true=>
      have hlt:id<s.nx:=Nat.lt_of_succ_le (Nat.le_of_ble_eq_true c3)
      show upd s.st id _ id'=none
      rw[upd_ne (by omega)];exact hfr
    ·refine⟨⟨s2.sl,s2.st,s.nx+8*ops.toList.length⟩,m'',⟨q1,q2,by rw[q3];exact r1.defers.ext (k2.trans r1.srel q6),q4,fun id' hid'=>q5 id' ?_⟩,r2.trans h0 (k2.trans r1.srel q6),hQ⟩
     simp only[hops,List.length_cons] at hid'
     omega
  ·intro hs;cases hs
 rw[hops]
 have hops':ops.toList.toArray=(o1::rest).toArray:=by rw[hops]
 rw[←hops']
 rcases next_step r1.srel hop hxv hit hmid hn with⟨i,hi,hni,hu⟩| ⟨hall,hu⟩
 ·exact go true i (h1 i) (ht i hi hni) hu
 ·exact go false 0 h2 (hf hall) hu
def cfD(c:Option Cfg):Cfg:=c.getD default
theorem SimC.next{c:Cfg}(sc:List It)(nn:Nat)(seen:List Nat)(es:List (Int×MV))(hn:es.length=nn)
 (ht:∀i,i<nn→i∉seen→SimC P n l0 Q (cfD (nxX P n true i (runP P n sc c)))) (hf:(∀i,i<nn→i∈seen)→SimC P n l0 Q (cfD (nxX P n false 0 (runP P n sc c))))
 (h:nxI (runP P n sc c)=some (nn,seen,es,csL sc):=by kernel_rfl) (h1:∀i,(nxX P n true i (runP P n sc c)).isSome=true:=by intro i;kernel_rfl) (h2:(nxX P n false 0 (runP P n sc c)).isSome=true:=by kernel_rfl):SimC P n l0 Q c:=by
 generalize hr:runP P n sc c=r at*
 match r,h with
 |some (.mid (.region rid ops false) K s,C),h=>
  have hC:C=csL sc:=by
   simp only[nxI] at h
   split at h
   rotate_left
   ·cases h
   split at h
   rotate_left
   ·cases h
   split at h
   rotate_left
   ·cases h
   split at h
   rotate_left
   ·cases h
   split at h
   rotate_left
   ·cases h
   simp only[Option.some.injEq,Prod.mk.injEq] at h
   exact h.2.2.2
  subst hC
  refine run_sound hr (csL_all sc) (fun hm hQ=> ?_)
  refine nx_sim hn h h1 h2 (fun i hi hni s' hs=> ?_) (fun hall s' hs=> ?_)
  ·have:=(ht i hi hni).run hm hQ
   rw[hs] at this
   exact this
  ·have:=(hf hall).run hm hQ
   rw[hs] at this
   exact this
end Go.Ab
end
section
set_option linter.unusedVariables false
namespace Go.Ab
open Go
variable {P:Program}
def Xm0(es:List (Int×MV))(n:Int):Px (lookE es n=none):=⟨⟨none,none,none,some ⟨0,[],.junk,[]⟩,[]⟩,[lookE es n=none],fun h=>⟨h,trivial⟩⟩
def Xmt(es:List (Int×MV))(n:Int)(z T:Tree):Px (lookT es n z=some T):=⟨⟨none,none,none,some ⟨4,[],.t T,[]⟩,[]⟩,[lookT es n z=some T],fun h=>⟨h,trivial⟩⟩
def Xmq{α:Type}(es:List (Int×MV))(n:Int)(k:Nat)(g:α→Tree)(xs:List α):Px (lookQ es n k=some (xs.map g)):=⟨⟨none,none,none,some ⟨5,[],.t (.lst k (xs.map g)),[]⟩,[]⟩,[lookQ es n k=some (xs.map g)],fun h=>⟨h,trivial⟩⟩
def Xm2(es:List (Int×MV))(n:Int)(Ts:List Tree):Px (lookE es n=some (.bx Ts)):=
 ⟨⟨none,none,none,some ⟨2,[],.junk,[(0,.box (Ts.map .t))]⟩,[]⟩,[lookE es n=some (.bx Ts)],fun h=>⟨h,trivial⟩⟩
def Xm2r{α:Type}(es:List (Int×MV))(n:Int)(id nid k:Nat)(g:α→Tree)(xs:List α):Px (lookE es n=some (.rw k (xs.map g))):=
 ⟨⟨some (.row nid xs.length),some [(id,.mp es (some (n,.row nid xs.length))),(nid,.row k false (xs.map g))],none,some ⟨2,[],.junk,[(0,.row k false (xs.map g))]⟩,[]⟩,
  [lookE es n=some (.rw k (xs.map g)),Weak (.row nid (xs.map g).length) (.row nid xs.length),[(id,Ob.mp es (some (n,.row nid xs.length))),(nid,.row k false (xs.map g))]=[(id,Ob.mp es (some (n,.row nid (xs.map g).length))),(nid,.row k false (xs.map g))]],
  fun h=>⟨h,Weak.of_eq (by rw[List.length_map]),by rw[List.length_map],trivial⟩⟩
def Xm3{α β:Type}(f:β→Int×MV)(l l':List β)(n:Int)(id k:Nat)(g:α→Tree)(xs:List α):Px (lookE (l.map f) n=some (.rw k (xs.map g))∧putE (l.map f) n (.im (.lst k (xs.map g)))=l'.map f):=
 ⟨⟨none,some [(id,.mp (l'.map f) none)],none,some ⟨3,[],.t (.lst k (xs.map g)),[]⟩,[]⟩,
  [lookE (l.map f) n=some (.rw k (xs.map g)),[(id,Ob.mp (l'.map f) none)]=[(id,Ob.mp (putE (l.map f) n (.im (.lst k (xs.map g)))) none)]],fun h=>⟨h.1,by rw[h.2],trivial⟩⟩
def Xmu{β:Type}(f:β→Int×MV)(l l':List β)(n:Int)(id:Nat)(v:MV):Px (putE (l.map f) n v=l'.map f):=
 ⟨⟨none,some [(id,.mp (l'.map f) none)],none,none,[]⟩,[[(id,Ob.mp (l'.map f) none)]=[(id,Ob.mp (putE (l.map f) n v) none)]],fun h=>⟨by rw[h],trivial⟩⟩
def Xmr{α β:Type}(f:β→Int×MV)(l l':List β)(n:Int)(id r k q:Nat)(g:α→Tree)(xs:List α):Px (q=xs.length∧putE (l.map f) n (.rw k (xs.map g))=l'.map f):=
 ⟨⟨none,some [(r,.gone),(id,.mp (l'.map f) none)],none,none,[(0,1)]⟩,[q=(xs.map g).length,[(r,Ob.gone),(id,Ob.mp (l'.map f) none)]=[(r,Ob.gone),(id,Ob.mp (putE (l.map f) n (.rw k (xs.map g))) none)]],
  fun h=>⟨by rw[List.length_map];exact h.1,by rw[h.2],trivial⟩⟩
def Xmrh{α β:Type}(f:β→Int×MV)(l l':List β)(n n':Int)(id r k q:Nat)(g:α→Tree)(xs:List α):Px (q=xs.length∧n=n'∧putE (l.map f) n (.rw k (xs.map g))=l'.map f):=
 ⟨⟨none,some [(r,.gone),(id,.mp (l'.map f) none)],none,none,[(0,1)]⟩,[q=(xs.map g).length,n=n',[(r,Ob.gone),(id,Ob.mp (l'.map f) none)]=[(r,Ob.gone),(id,Ob.mp (putE (l.map f) n (.rw k (xs.map g))) none)]],
  fun h=>⟨by rw[List.length_map];exact h.1,h.2.1,by rw[h.2.2],trivial⟩⟩
def Xmb{β:Type}(f:β→Int×MV)(l l':List β)(n:Int)(id r:Nat)(Ts:List Tree):Px (putE (l.map f) n (.bx Ts)=l'.map f):=
 ⟨⟨none,some [(r,.gone),(id,.mp (l'.map f) none)],none,none,[]⟩,[[(r,Ob.gone),(id,Ob.mp (l'.map f) none)]=[(r,Ob.gone),(id,Ob.mp (putE (l.map f) n (.bx Ts)) none)]],fun h=>⟨by rw[h],trivial⟩⟩
def Xmg{β:Type}(f:β→Int×MV)(l:List β)(id nid:Nat):Px True:=
 ⟨⟨none,some [(nid,.miter id l.length [])],none,none,[(0,1)]⟩,[[(nid,Ob.miter id l.length [])]=[(nid,Ob.miter id (l.map f).length [])]],fun _=>⟨by rw[List.length_map],trivial⟩⟩
def Xe2{β:Type}(f:β→Int×MV)(l:List β)(mid n:Nat)(seen:List Nat)(i:Nat)(k:Int)(Ts:List Tree):Px (l.length=n∧seen.getLast? =some i∧(l.map f)[i]? =some (k,.bx Ts)):=
 ⟨⟨none,none,some (.sc (.int .i64 (i:Int))),some ⟨2,[mid],.tup [VI k,.junk],[(0,.box (Ts.map .t))]⟩,[]⟩,[(l.map f).length=n,seen.getLast? =some ((i:Int).toNat),(l.map f)[(i:Int).toNat]? =some (k,.bx Ts)],
  fun h=>⟨by rw[List.length_map];exact h.1,h.2.1,h.2.2,trivial⟩⟩
def Xskip(e:Bool)(v:AVal):Px (e=false):=⟨⟨none,none,none,some ⟨9,[],v,[]⟩,[]⟩,[e=false],fun h=>⟨h,trivial⟩⟩
end Go.Ab
end
section
namespace Go.Proofs
open Go.Shelf
def Tryz.lays169_ren:Go.Shelf.Ren:=⟨fun|169=>138|n=>n,fun|70=>184|9=>9|0=>0|72=>186|37=>111|127=>217|3=>3|5=>5|n=>n,fun|n=>n⟩
theorem Tryz.lays169:Go.Proofs.Lays.n169 Tryz.prog Tryz.lays169_ren:={
 mixed:=by kernel_rfl
 f169:=Tryz.func138.trans (congrArg some (by kernel_rfl))
 t0:=Tryz.underlying0
 a0:=Tryz.isAgg0
 z0:=Tryz.sizeOf0
 v0:=Tryz.zeroValue0
 t3:=Tryz.underlying3
 a3:=Tryz.isAgg3
 z3:=Tryz.sizeOf3
 v3:=Tryz.zeroValue3
 t9:=Tryz.underlying9
 a9:=Tryz.isAgg9
 z9:=Tryz.sizeOf9
 v9:=Tryz.zeroValue9
 t37:=Tryz.underlying111
 a37:=Tryz.isAgg111
 z37:=Tryz.sizeOf111
 v37:=Tryz.zeroValue111
 t70:=Tryz.underlying184
 a70:=Tryz.isAgg184
 z70:=Tryz.sizeOf184
 v70:=Tryz.zeroValue184
 t72:=Tryz.underlying186
 a72:=Tryz.isAgg186
 z72:=Tryz.sizeOf186
 v72:=Tryz.zeroValue186
 t127:=Tryz.underlying217
 a127:=Tryz.isAgg217
 z127:=Tryz.sizeOf217
 v127:=Tryz.zeroValue217}
theorem Tryz.Builder_Extra_169:Builder.Extra Tryz.prog Tryz.lays169_ren:={
 sizeBuilder:=by kernel_rfl
 liesBuilder:=by kernel_rfl
 t5:=Tryz.underlying5
 a5:=Tryz.isAgg5
 z5:=Tryz.sizeOf5
 v5:=Tryz.zeroValue5
 infoByte:=by kernel_rfl
 cellsByte:=by kernel_rfl
 sizeByte:=by kernel_rfl
 neB5:=by decide}
open Go.RowKit in
theorem Tryz.Builder_String_any(B b:Nat)(l:List UInt8)(w:World)(h:Lib.IsBuilder 186 5 B b (Lib.byteCells l) w)(hBw:B≤w.heap.size):
 Calls Tryz.prog 138 #[.pointer (some ⟨b,0,none⟩)] w fun e w'=>e= .returned (.string ⟨l.toArray⟩)∧Below B w w':=Any.Builder_String_any Tryz.lays169 Tryz.Builder_Extra_169 B b l w h hBw
def Tryz.lays171_ren:Go.Shelf.Ren:=⟨fun|171=>103|243=>140|246=>168|283=>186|284=>187|285=>188|286=>189|129=>201|317=>211|318=>212|319=>213|320=>214|337=>224|338=>225|n=>n,fun|3=>3|9=>9|2=>2|4=>4|171=>234|0=>0|53=>235|37=>111|5=>5|173=>238|212=>266|51=>240|20=>20|213=>267|46=>194|232=>288|233=>289|n=>n,fun|17=>4|18=>7|19=>8|n=>n⟩
theorem Tryz.lays171:Go.Proofs.Lays.n171 Tryz.prog Tryz.lays171_ren:={
 mixed:=by kernel_rfl
 f129:=Tryz.func201.trans (congrArg some (by kernel_rfl))
 f171:=Tryz.func103.trans (congrArg some (by kernel_rfl))
 f243:=Tryz.func140.trans (congrArg some (by kernel_rfl))
 f246:=Tryz.func168.trans (congrArg some (by kernel_rfl))
 f283:=Tryz.func186.trans (congrArg some (by kernel_rfl))
 f284:=Tryz.func187.trans (congrArg some (by kernel_rfl))
 f285:=Tryz.func188.trans (congrArg some (by kernel_rfl))
 f286:=Tryz.func189.trans (congrArg some (by kernel_rfl))
 f317:=Tryz.func211.trans (congrArg some (by kernel_rfl))
 f318:=Tryz.func212.trans (congrArg some (by kernel_rfl))
 f319:=Tryz.func213.trans (congrArg some (by kernel_rfl))
 f320:=Tryz.func214.trans (congrArg some (by kernel_rfl))
 f337:=Tryz.func224.trans (congrArg some (by kernel_rfl))
 f338:=Tryz.func225.trans (congrArg some (by kernel_rfl))
 t0:=Tryz.underlying0
 a0:=Tryz.isAgg0
 z0:=Tryz.sizeOf0
 v0:=Tryz.zeroValue0
 t2:=Tryz.underlying2
 a2:=Tryz.isAgg2
 z2:=Tryz.sizeOf2
 v2:=Tryz.zeroValue2
 t3:=Tryz.underlying3
 a3:=Tryz.isAgg3
 z3:=Tryz.sizeOf3
 v3:=Tryz.zeroValue3
 t4:=Tryz.underlying4
 a4:=Tryz.isAgg4
 z4:=Tryz.sizeOf4
 v4:=Tryz.zeroValue4
 t5:=Tryz.underlying5
 a5:=Tryz.isAgg5
 z5:=Tryz.sizeOf5
 v5:=Tryz.zeroValue5
 t9:=Tryz.underlying9
 a9:=Tryz.isAgg9
 z9:=Tryz.sizeOf9
 v9:=Tryz.zeroValue9
 t20:=Tryz.underlying20
 a20:=Tryz.isAgg20
 z20:=Tryz.sizeOf20
 v20:=Tryz.zeroValue20
 t37:=Tryz.underlying111
 a37:=Tryz.isAgg111
 z37:=Tryz.sizeOf111
 v37:=Tryz.zeroValue111
 t46:=Tryz.underlying194
 a46:=Tryz.isAgg194
 z46:=Tryz.sizeOf194
 v46:=Tryz.zeroValue194
 t51:=Tryz.underlying240
 a51:=Tryz.isAgg240
 z51:=Tryz.sizeOf240
 v51:=Tryz.zeroValue240
 t53:=Tryz.underlying235
 a53:=Tryz.isAgg235
 z53:=Tryz.sizeOf235
 v53:=Tryz.zeroValue235
 t171:=Tryz.underlying234
 a171:=Tryz.isAgg234
 z171:=Tryz.sizeOf234
 v171:=Tryz.zeroValue234
 t173:=Tryz.underlying238
 a173:=Tryz.isAgg238
 z173:=Tryz.sizeOf238
 v173:=Tryz.zeroValue238
 t212:=Tryz.underlying266
 a212:=Tryz.isAgg266
 z212:=Tryz.sizeOf266
 v212:=Tryz.zeroValue266
 t213:=Tryz.underlying267
 a213:=Tryz.isAgg267
 z213:=Tryz.sizeOf267
 t232:=Tryz.underlying288
 a232:=Tryz.isAgg288
 z232:=Tryz.sizeOf288
 v232:=Tryz.zeroValue288
 t233:=Tryz.underlying289
 a233:=Tryz.isAgg289
 z233:=Tryz.sizeOf289
 v233:=Tryz.zeroValue289
 g17:=by kernel_rfl
 g18:=by kernel_rfl
 g19:=by kernel_rfl}
open Go.RowKit Go.Sort Go.Lib in
theorem Tryz.strconv_Itoa_small(i:Nat)(hi:i<100)(w:World):
 Calls Tryz.prog 103 #[.int .i64 i] w fun e w'=>e= .returned (.string ⟨(Lib.decDigits i).toArray⟩)∧w'=w:=Any.strconv_Itoa_small Tryz.lays171 i hi w
def Tryz.lays167_ren:Go.Shelf.Ren:=⟨fun|167=>135|240=>164|276=>182|n=>n,fun|0=>0|4=>4|5=>5|9=>9|20=>20|37=>111|70=>184|72=>186|75=>168|80=>189|164=>230|n=>n,fun|n=>n⟩
theorem Tryz.lays167:Go.Proofs.Lays.n167 Tryz.prog Tryz.lays167_ren:={
 mixed:=by kernel_rfl
 f167:=Tryz.func135.trans (congrArg some (by kernel_rfl))
 f240:=Tryz.func164.trans (congrArg some (by kernel_rfl))
 f276:=Tryz.func182.trans (congrArg some (by kernel_rfl))
 t0:=Tryz.underlying0
 a0:=Tryz.isAgg0
 z0:=Tryz.sizeOf0
 v0:=Tryz.zeroValue0
 t4:=Tryz.underlying4
 a4:=Tryz.isAgg4
 z4:=Tryz.sizeOf4
 v4:=Tryz.zeroValue4
 t5:=Tryz.underlying5
 a5:=Tryz.isAgg5
 z5:=Tryz.sizeOf5
 v5:=Tryz.zeroValue5
 t9:=Tryz.underlying9
 a9:=Tryz.isAgg9
 z9:=Tryz.sizeOf9
 v9:=Tryz.zeroValue9
 t20:=Tryz.underlying20
 a20:=Tryz.isAgg20
 z20:=Tryz.sizeOf20
 v20:=Tryz.zeroValue20
 t37:=Tryz.underlying111
 a37:=Tryz.isAgg111
 z37:=Tryz.sizeOf111
 v37:=Tryz.zeroValue111
 t70:=Tryz.underlying184
 a70:=Tryz.isAgg184
 z70:=Tryz.sizeOf184
 v70:=Tryz.zeroValue184
 t72:=Tryz.underlying186
 a72:=Tryz.isAgg186
 z72:=Tryz.sizeOf186
 v72:=Tryz.zeroValue186
 t75:=Tryz.underlying168
 a75:=Tryz.isAgg168
 z75:=Tryz.sizeOf168
 v75:=Tryz.zeroValue168
 t164:=Tryz.underlying230
 a164:=Tryz.isAgg230
 z164:=Tryz.sizeOf230
 v164:=Tryz.zeroValue230
}
theorem Tryz.Builder_Extra_167:Builder.Extra Tryz.prog Tryz.lays167_ren:={
 sizeBuilder:=by kernel_rfl
 liesBuilder:=by kernel_rfl
 t5:=Tryz.underlying5
 a5:=Tryz.isAgg5
 z5:=Tryz.sizeOf5
 v5:=Tryz.zeroValue5
 infoByte:=by kernel_rfl
 cellsByte:=by kernel_rfl
 sizeByte:=by kernel_rfl
 neB5:=by decide
}
open Go.RowKit in
theorem Tryz.Builder_WriteByte(B b:Nat)(bs:List Value)(c:Int)(w:World)(h:Lib.IsBuilder 186 5 B b bs w)(hlen:bs.length+1≤140737488355328)(hBw:B≤w.heap.size):
 Calls Tryz.prog 135 #[.pointer (some ⟨b,0,none⟩),.int .u8 c] w fun e w'=>e= .returned .nilIface∧(Lib.BuilderAt 186 5 B b (.pointer (some ⟨b,0,none⟩)) (bs++[.int .u8 c]) w'∧Below B w w'):=Any.Builder_WriteByte Tryz.lays167 Tryz.Builder_Extra_167 B b bs c w h hlen hBw
def Tryz.lays166_ren:Go.Shelf.Ren:=⟨fun|166=>136|240=>164|276=>182|n=>n,fun|0=>0|3=>3|4=>4|5=>5|9=>9|20=>20|37=>111|70=>184|72=>186|75=>168|80=>189|164=>230|n=>n,fun|n=>n⟩
theorem Tryz.lays166:Go.Proofs.Lays.n166 Tryz.prog Tryz.lays166_ren:={
 mixed:=by kernel_rfl
 f166:=Tryz.func136.trans (congrArg some (by kernel_rfl))
 f240:=Tryz.func164.trans (congrArg some (by kernel_rfl))
 f276:=Tryz.func182.trans (congrArg some (by kernel_rfl))
 t0:=Tryz.underlying0
 a0:=Tryz.isAgg0
 z0:=Tryz.sizeOf0
 v0:=Tryz.zeroValue0
 t3:=Tryz.underlying3
 a3:=Tryz.isAgg3
 z3:=Tryz.sizeOf3
 v3:=Tryz.zeroValue3
 t4:=Tryz.underlying4
 a4:=Tryz.isAgg4
 z4:=Tryz.sizeOf4
 v4:=Tryz.zeroValue4
 t9:=Tryz.underlying9
 a9:=Tryz.isAgg9
 z9:=Tryz.sizeOf9
 v9:=Tryz.zeroValue9
 t20:=Tryz.underlying20
 a20:=Tryz.isAgg20
 z20:=Tryz.sizeOf20
 v20:=Tryz.zeroValue20
 t37:=Tryz.underlying111
 a37:=Tryz.isAgg111
 z37:=Tryz.sizeOf111
 v37:=Tryz.zeroValue111
 t70:=Tryz.underlying184
 a70:=Tryz.isAgg184
 z70:=Tryz.sizeOf184
 v70:=Tryz.zeroValue184
 t72:=Tryz.underlying186
 a72:=Tryz.isAgg186
 z72:=Tryz.sizeOf186
 v72:=Tryz.zeroValue186
 t75:=Tryz.underlying168
 a75:=Tryz.isAgg168
 z75:=Tryz.sizeOf168
 v75:=Tryz.zeroValue168
 t164:=Tryz.underlying230
 a164:=Tryz.isAgg230
 z164:=Tryz.sizeOf230
 v164:=Tryz.zeroValue230
}
theorem Tryz.Builder_Extra_166:Builder.Extra Tryz.prog Tryz.lays166_ren:={
 sizeBuilder:=by kernel_rfl
 liesBuilder:=by kernel_rfl
 t5:=Tryz.underlying5
 a5:=Tryz.isAgg5
 z5:=Tryz.sizeOf5
 v5:=Tryz.zeroValue5
 infoByte:=by kernel_rfl
 cellsByte:=by kernel_rfl
 sizeByte:=by kernel_rfl
 neB5:=by decide
}
open Go.RowKit in
theorem Tryz.Builder_WriteString(B b:Nat)(bs:List Value)(s:ByteArray)(w:World)(h:Lib.IsBuilder 186 5 B b bs w)(hlen:bs.length+s.size≤140737488355328)(hBw:B≤w.heap.size):
 Calls Tryz.prog 136 #[.pointer (some ⟨b,0,none⟩),.string s] w fun e w'=>e= .returned (.tuple #[.int .i64 s.size,.nilIface])∧(Lib.BuilderAt 186 5 B b (.pointer (some ⟨b,0,none⟩)) (bs++Lib.strCells s) w'∧Below B w w'):=Any.Builder_WriteString Tryz.lays166 Tryz.Builder_Extra_166 B b bs s w h hlen hBw
end Go.Proofs
end
section
namespace Go.Ab
open Go Go.Proofs Go.RowKit Go.Shelf Go.Lib
set_option linter.unusedVariables false
set_option linter.unusedSimpArgs false
set_option maxHeartbeats 4000000 in
theorem get_nil(A:Option Addr)(c:Nat)(s:ByteArray)(W:World):Calls Tryz.prog 97 #[.slice A 0 c,.string s] W fun e w'=>e= .returned (.string {data:=#[]})∧w'=W:=by
 go_enter Tryz.func97,Tryz.ntmps97
 go_wp2
 go_rounds 1
 go_ret
 exact⟨rfl,rfl⟩
set_option maxHeartbeats 4000000 in
theorem digits_w(i:Nat)(hi:i<100)(W:World):Calls Tryz.prog 137 #[.int .i64 i,.string {data:=#[]}] W fun e w'=>e= .returned (.string ⟨(Lib.decDigits i).toArray⟩)∧w'=W:=by
 have hcon:=fun W'=>Tryz.strconv_Itoa_small i hi W'
 by_cases h1:(i:Int)< 1
 ·go_enter Tryz.func137,Tryz.ntmps137
  go_wp2_with (go_at_call 103;refine(hcon _).mono ?_;rintro e w' ⟨rfl,rfl⟩)
  go_ret
  exact⟨rfl,rfl⟩
 ·go_enter Tryz.func137,Tryz.ntmps137
  go_wp2_with (go_at_call 103;refine(hcon _).mono ?_;rintro e w' ⟨rfl,rfl⟩)
  go_ret
  exact⟨rfl,rfl⟩
theorem dd0:Lib.decDigits 0=[48]:=by rw[Lib.decDigits];rfl
theorem dd1:Lib.decDigits 1=[49]:=by rw[Lib.decDigits];rfl
theorem dd_len{n:Nat}(h:n<100):(Lib.decDigits n).length≤2:=by
 rw[Lib.decDigits]
 split
 ·simp
 ·rw[Lib.decDigits,dif_pos (by omega)];simp
theorem itoa0(W:World):Calls Tryz.prog 103 #[.int .i64 0] W fun e w'=>e= .returned (.string ⟨#[48]⟩)∧w'=W:=by
 have:=Tryz.strconv_Itoa_small 0 (by decide) W
 rw[dd0] at this
 exact this
theorem itoa1(W:World):Calls Tryz.prog 103 #[.int .i64 1] W fun e w'=>e= .returned (.string ⟨#[49]⟩)∧w'=W:=by
 have:=Tryz.strconv_Itoa_small 1 (by decide) W
 rw[dd1] at this
 exact this
set_option maxRecDepth 100000 in
set_option maxHeartbeats 4000000 in
theorem label_w(n:Nat)(h:n<100)(cb:Nat)(A:Option Addr)(c:Nat)(W:World)(h1:W.cell? ⟨cb,1,none⟩=some (.int .i64 n))(hb:cb<W.heap.size):
 Calls Tryz.prog 101 #[.pointer (some ⟨cb,0,none⟩),.slice A 0 c,.int .i64 0] W fun e w'=>e= .returned (.string ⟨(Lib.decDigits n++[46]).toArray⟩)∧Below W.heap.size W w':=by
 go_enter Tryz.func101,Tryz.ntmps101
 go_wp2_with (first| (go_at_call 103;first| (refine(itoa0 _).mono ?_;rintro e w' ⟨rfl,rfl⟩)| (refine(itoa1 _).mono ?_;rintro e w' ⟨rfl,rfl⟩))| (go_at_call 97;refine(get_nil _ _ _ _).mono ?_;rintro e w' ⟨rfl,rfl⟩))
 have hI:=Lib.fresh_isBuilder 186 5 w'
 have hBl:Below w'.heap.size w' (w'.alloc (.cells #[.pointer none,.slice none 0 0] 186)):=(Below.refl _ _).alloc (Nat.le_refl _) _
 have hc1:(w'.alloc (.cells #[.pointer none,.slice none 0 0] 186)).cell? ⟨cb,1,none⟩=some (.int .i64 n):=(hBl.cell (p:=⟨cb,1,none⟩) hb).trans h1
 generalize w'.alloc (.cells #[.pointer none,.slice none 0 0] 186)=W1 at*
 rw[show({data:=#[37]}:ByteArray)++{data:=#[49]}++{data:=#[46]}={data:=#[37,49,46]} from rfl]
 refine wp_loop_rounds 3 ?_
 rw[rounds_succ]
 go_wp2
 have e49:∀h:1< ({data:=#[37,49,46]}:ByteArray).size,(({data:=#[37,49,46]}:ByteArray)[1]'h).toNat=49:=fun _=>rfl
 simp only[e49]
 refine wp_region_still_tail 12 (by kernel_rfl) (by kernel_rfl) ?_
 have hI:Lib.IsBuilder 186 5 w'.heap.size w'.heap.size [] W1.drew:=hI.imp (fun h=>h.drew) (fun h=>h.drew)
 have hBl:Below w'.heap.size w' W1.drew:=hBl.drew
 have hc1:W1.drew.cell? ⟨cb,1,none⟩=some (.int .i64 n):=hc1
 change wpStill _ _ W1.drew (fun a'=>wpList _ _ _ _ a' W1.drew) _ _
 generalize W1.drew=W2 at*
 simp only[List.take_succ_cons,List.take_zero,List.drop_succ_cons,List.drop_zero]
 repeat still_step
 still_call (itoa0 _)
 repeat still_step
 still_call (get_nil _ _ _ _)
 repeat still_step
 still_call (digits_w n h _)
 refine wpStill_nil ?_
 have hsz:=hBl.size
 have hdl:=dd_len h
 go_wp2_with (go_at_call 136;refine(Tryz.Builder_WriteString w'.heap.size w'.heap.size [] ⟨(Lib.decDigits n).toArray⟩ _ hI (by simp[ByteArray.size];omega) (by omega)).mono ?_;rintro e w3 ⟨rfl,hb2,hl2⟩)
 have hI3:Lib.IsBuilder 186 5 w'.heap.size w'.heap.size ([]++Lib.strCells ⟨(Lib.decDigits n).toArray⟩) w3:= .inr hb2
 have hB3:=hBl.trans hl2
 have hs3:=hB3.size
 have e46:∀h:2< ({data:=#[37,49,46]}:ByteArray).size,(({data:=#[37,49,46]}:ByteArray)[2]'h).toNat=46:=fun _=>rfl
 rw[rounds_succ]
 go_wp2_with (go_at_call 135;refine(Tryz.Builder_WriteByte w'.heap.size w'.heap.size ([]++Lib.strCells ⟨(Lib.decDigits n).toArray⟩) 46 _ hI3 (by simp[Lib.strCells];omega) (by omega)).mono ?_;rintro e w4 ⟨rfl,hb4,hl4⟩)
 have hbs:[]++Lib.strCells ⟨(Lib.decDigits n).toArray⟩++[.int .u8 46]=Lib.byteCells (Lib.decDigits n++[46]):=by simp[Lib.strCells,Lib.byteCells]
 have hB4:=hB3.trans hl4
 have hs4:=hB4.size
 have hI4:Lib.IsBuilder 186 5 w'.heap.size w'.heap.size (Lib.byteCells (Lib.decDigits n++[46])) w4:= .inr (hbs▸hb4)
 rw[rounds_succ]
 go_wp2_with (go_at_call 138;refine(Tryz.Builder_String_any w'.heap.size w'.heap.size (Lib.decDigits n++[46]) _ hI4 (by omega)).mono ?_;rintro e w5 ⟨rfl,hl5⟩)
 go_ret
 exact⟨rfl,hB4.trans hl5⟩
end Go.Ab
end
section
set_option linter.unusedVariables false
namespace Go.Ch
open Go Go.Ab Go.Proofs
def labN(n:Nat):ByteArray:=⟨(Lib.decDigits n++[46]).toArray⟩
theorem fc_label(g:List Attr)(nm:ByteArray)(n:Nat)(b c d e f x y z:Int)(hn:n<100)(hg:g=[]):
 FC Tryz.prog 101 [.ptr 0 0,VL 2 attrT g,VI 0] (app emp [(0,.box [VS nm,VI (n:Int),VI b,VI c,VI d,VI e,VI f,VI x,VI y,VI z])]) (VS (labN n)) (app emp [(0,.box [VS nm,VI (n:Int),VI b,VI c,VI d,VI e,VI f,VI x,VI y,VI z])]):=by
 subst hg
 refine FC.ofBelow (fun F m w us hS hl hv=> ?_)
 match us,hl with
 | [u0,u1,u2],_=>
 have h0:=hv 0 _ u0 rfl rfl
 have h1:=hv 1 _ u1 rfl rfl
 have h2:=VRel.sc_inv (hv 2 _ u2 rfl rfl)
 subst h2
 have hb0:app emp [(0,Ob.box [VS nm,VI (n:Int),VI b,VI c,VI d,VI e,VI f,VI x,VI y,VI z])] 0=some (.box [VS nm,VI (n:Int),VI b,VI c,VI d,VI e,VI f,VI x,VI y,VI z]):=rfl
 obtain⟨bb,cs,ty,q1,q2,q3,q4⟩:=hS.objs 0 _ hb0
 have hlt:=hS.lt 0 _ bb hb0 (.inl q1)
 cases h0 with
 |ptrG _ _ _ hs=>rw[hb0] at hs;cases hs
 |ptr _ _ cs' b' hs hm=>
 rw[q1] at hm;cases hm
 have hsz:1<cs.size:=Nat.lt_of_lt_of_le (by simp) q3.1
 have hc1:cs[1]? =some cs[1]:=Array.getElem?_eq_getElem hsz
 have hu:=VRel.sc_inv (q4 1 (VI (n:Int)) cs[1] rfl hc1).1
 rw[hu] at hc1
 have hcell:w.cell? ⟨bb,1,none⟩=some (.int .i64 (n:Int)):=by simp only[World.cell?,q2];exact hc1
 generalize hul:u1=v1 at h1
 cases h1 with
 |t _ _ hT=>
 cases hT with
 |lst _ _ A cc vs hk hx hnn hmx hA hll hh=>
 subst hul
 refine(label_w n hn bb A cc w hcell hlt).mono ?_
 rintro e w' ⟨rfl,hbl⟩
 exact⟨_,rfl,.t _ _ (.sc _ rfl),hbl⟩
end Go.Ch
end
section
set_option linter.unusedVariables false
set_option maxRecDepth 100000
namespace Go.Ch
open Go Go.Ab
structure Par where
 elems:List Elem
 frm:Int
 fin:List Attr
instance:Inhabited Par:=⟨⟨[],0,[]⟩⟩
def parT(p:Par):Tree:= .agg [.lst 3 (p.elems.map elemT),TI p.frm,.lst 2 (p.fin.map attrT)]
structure Head where
 par:Int
 level:Int
 label:ByteArray
 text:ByteArray
instance:Inhabited Head:=⟨⟨0,0,default,default⟩⟩
def headT(h:Head):Tree:= .agg [TI h.par,TI h.level,TS h.label,TS h.text]
def ptrT(b:Nat):Tree:=TP b
abbrev oLi:ByteArray:={data:=#[108,105,115,116]}
abbrev oL:ByteArray:={data:=#[108]}
abbrev oHe:ByteArray:={data:=#[104,101,97,100]}
abbrev o1:ByteArray:={data:=#[49]}
abbrev oLv:ByteArray:={data:=#[108,101,118,101,108]}
abbrev oSt:ByteArray:={data:=#[115,116,97,114,116]}
def attsR(r:Int):List Attr:=if r=1 then[⟨oLi,oL⟩] else if r=2 then[⟨oHe,o1⟩] else[]
theorem attsR_cases(r:Int):(r=1∧attsR r=[⟨oLi,oL⟩])∨(r=2∧attsR r=[⟨oHe,o1⟩])∨(r≠1∧r≠2∧attsR r=[]):=by
 unfold attsR
 by_cases h1:r=1
 ·exact .inl ⟨h1,if_pos h1⟩
 ·by_cases h2:r=2
  ·exact .inr (.inl ⟨h2,by rw[if_neg h1,if_pos h2]⟩)
  ·exact .inr (.inr ⟨h1,h2,by rw[if_neg h1,if_neg h2]⟩)
def aE:Elem:=⟨97,0,[]⟩
def eE(r:Int):Elem:=⟨10,0,attsR r⟩
def flR(rs:List Int):List Elem:=rs.flatMap fun r=>[aE,eE r]
def flW(rs:List Int):List Elem:=flR rs++[eE 2]
theorem flR_snoc(rs:List Int)(r:Int):flR (rs++[r])=flR rs++[aE,eE r]:=by simp[flR]
theorem flR_len(rs:List Int):(flR rs).length=2*rs.length:=by
 induction rs with
 |nil=>rfl
 |cons r rs ih=>simp only[flR,List.flatMap_cons,List.length_append,List.length_cons,List.length_nil] at ih⊢;omega
theorem flW_len(rs:List Int):(flW rs).length=2*rs.length+1:=by simp[flW,flR_len]
theorem flR_mem{rs:List Int}{x:Elem}(h:x∈flR rs):x=aE∨∃r,x=eE r:=by
 obtain⟨r,_,h⟩:=List.mem_flatMap.1 h
 simp only[List.mem_cons,List.not_mem_nil,or_false] at h
 exact h.imp id (fun q=>⟨r,q⟩)
theorem flW_mem{rs:List Int}{x:Elem}(h:x∈flW rs):x=aE∨∃r,x=eE r:=by
 rcases List.mem_append.1 h with h|h
 ·exact flR_mem h
 ·exact .inr ⟨2,List.mem_singleton.1 h⟩
theorem eE_ok(r:Int):elemE (eE r)=0∧Szd (attsR r)∧(attsR r).length≤1:=by
 rcases attsR_cases r with⟨_,h⟩| ⟨_,h⟩| ⟨_,_,h⟩
 all_goals(unfold eE;rw[h];exact⟨by decide+kernel,by(intro a ha;simp at ha;try(subst ha;decide)),by simp⟩)
theorem flW_elem{rs:List Int}{x:Elem}(h:x∈flW rs):elemE x=0∧Szd x.attrs∧x.attrs.length≤1∧x.ref=0:=by
 rcases flW_mem h with rfl| ⟨r,rfl⟩
 ·exact⟨by decide+kernel,fun a ha=>by(simp[aE] at ha),by simp[aE],rfl⟩
 ·exact⟨(eE_ok r).1,(eE_ok r).2.1,(eE_ok r).2.2,rfl⟩
def seenB(x:Elem):Prop:=getA x.attrs {data:=#[104,105,100,100,101,110]} 0=mt∧getA x.attrs {data:=#[99,117,116]} 0=mt
theorem flW_seen{rs:List Int}{x:Elem}(h:x∈flW rs):seenB x:=by
 rcases flW_mem h with rfl| ⟨r,rfl⟩
 ·exact⟨by decide+kernel,by decide+kernel⟩
 ·rcases attsR_cases r with⟨_,e⟩| ⟨_,e⟩| ⟨_,_,e⟩
  all_goals(unfold eE seenB;rw[e];exact⟨by decide+kernel,by decide+kernel⟩)
def idxL(n:Nat):List Int:=(List.range n).map fun i:Nat=>(i:Int)
theorem idxL_len(n:Nat):(idxL n).length=n:=by simp[idxL]
theorem idxL_at{n i:Nat}(h:i<n):(idxL n).getD i default=(i:Int):=by simp[idxL,List.getD,h]
theorem idxL_succ(n:Nat):idxL (n+1)=idxL n++[(n:Int)]:=by simp[idxL,List.range_succ]
def txtK(f:List Elem):Nat→List Par×Par
 |0=>([],⟨[],0,[]⟩)
 |k+1=>if(f.getD k default).char=10 then((txtK f k).1++[⟨(txtK f k).2.elems,(txtK f k).2.frm,(f.getD k default).attrs⟩],⟨[],(k:Int)+1,[]⟩)
  else((txtK f k).1,⟨(txtK f k).2.elems++[f.getD k default],(txtK f k).2.frm,[]⟩)
theorem txtK_len(f:List Elem):∀k,(txtK f k).1.length≤k∧(txtK f k).2.elems.length≤k∧(txtK f k).2.fin=[]∧0≤(txtK f k).2.frm∧(txtK f k).2.frm≤k
 |0=>⟨Nat.le_refl _,Nat.le_refl _,rfl,Int.le_refl _,Int.le_refl _⟩
 |k+1=>by
  obtain⟨h1,h2,h3,h4,h5⟩:=txtK_len f k
  rw[txtK]
  split
  ·refine⟨by simp;omega,by simp,rfl,?_,?_⟩<;>simp<;>omega
  ·refine⟨by simp;omega,by simp;omega,rfl,?_,?_⟩<;>simp<;>omega
theorem txtK_hit{f:List Elem}{k:Nat}(h:(f.getD k default).char=10):txtK f (k+1)=((txtK f k).1++[⟨(txtK f k).2.elems,(txtK f k).2.frm,(f.getD k default).attrs⟩],⟨[],(k:Int)+1,[]⟩):=by rw[txtK,if_pos h]
theorem txtK_miss{f:List Elem}{k:Nat}(h:¬(f.getD k default).char=10):txtK f (k+1)=((txtK f k).1,⟨(txtK f k).2.elems++[f.getD k default],(txtK f k).2.frm,[]⟩):=by rw[txtK,if_neg h]
def parR(rs:List Int)(k:Nat):Par:=⟨[aE],2*(k:Int),attsR (rs.getD k 0)⟩
def parsW(rs:List Int):List Par:=(List.range rs.length).map (parR rs)++[⟨[],2*(rs.length:Int),attsR 2⟩]
theorem flR_at{rs:List Int}{k:Nat}(h:k<rs.length):(flW rs).getD (2*k) default=aE∧(flW rs).getD (2*k+1) default=eE (rs.getD k 0):=by
 have e:flW rs=flR (rs.take k)++([aE,eE (rs.getD k 0)]++(flR (rs.drop (k+1))++[eE 2])):=by
  have e1:rs=rs.take k++(rs.getD k 0::rs.drop (k+1)):=by
   rw[List.getD,List.getElem?_eq_getElem h,Option.getD_some,←List.drop_eq_getElem_cons h,List.take_append_drop]
  unfold flW
  conv=>lhs;rw[e1]
  simp only[flR,List.flatMap_append,List.flatMap_cons,List.append_assoc]
 have l1:(flR (rs.take k)).length=2*k:=by rw[flR_len,List.length_take];omega
 rw[e]
 constructor
 ·rw[List.getD,List.getElem?_append_right (by omega),l1,Nat.sub_self];rfl
 ·rw[List.getD,List.getElem?_append_right (by omega),l1,show 2*k+1-2*k=1 by omega];rfl
theorem flW_last(rs:List Int):(flW rs).getD (2*rs.length) default=eE 2:=by
 unfold flW
 rw[List.getD,List.getElem?_append_right (by rw[flR_len];omega),flR_len,Nat.sub_self];rfl
theorem txt_even(rs:List Int):∀k,k≤rs.length→txtK (flW rs) (2*k)=((List.range k).map (parR rs),⟨[],2*(k:Int),[]⟩)
 |0,_=>rfl
 |k+1,h=>by
  obtain⟨h1,h2⟩:=flR_at (rs:=rs) (k:=k) (by omega)
  have ih:=txt_even rs k (by omega)
  rw[show 2*(k+1)=2*k+1+1 by omega,txtK_hit (by rw[h2];rfl),txtK_miss (by rw[h1];decide),ih,h1,h2]
  simp only[List.range_succ,List.map_append,List.map_cons,List.map_nil,List.nil_append]
  refine Prod.ext rfl ?_
  show(⟨[],((2*k+1:Nat):Int)+1,[]⟩:Par)=⟨[],2*((k+1:Nat):Int),[]⟩
  congr 1
theorem txt_all(rs:List Int):(txtK (flW rs) (flW rs).length).1=parsW rs:=by
 rw[flW_len,txtK_hit (by rw[flW_last];rfl),txt_even rs _ (Nat.le_refl _),flW_last]
 rfl
theorem parsW_len(rs:List Int):(parsW rs).length=rs.length+1:=by simp[parsW]
def rK(rs:List Int)(k:Nat):Int:=if k<rs.length then rs.getD k 0 else 2
theorem parsW_at{rs:List Int}{k:Nat}(h:k<rs.length+1):((parsW rs).getD k default).fin=attsR (rK rs k)∧(((parsW rs).getD k default).elems=[aE]∨((parsW rs).getD k default).elems=[]):=by
 unfold parsW rK
 by_cases hk:k<rs.length
 ·rw[if_pos hk,List.getD,List.getElem?_append_left (by simpa using hk),List.getElem?_map,List.getElem?_range hk]
  exact⟨rfl,.inl rfl⟩
 ·obtain rfl:k=rs.length:=by omega
  rw[if_neg hk,List.getD,List.getElem?_append_right (by simp)]
  simp
def cntK(r:Nat→Int)(v:Int):Nat→Nat
 |0=>0
 |k+1=>cntK r v k+(if r k=v then 1 else 0)
theorem cntK_le(r:Nat→Int)(v:Int):∀k,cntK r v k≤k
 |0=>Nat.le_refl _
 |k+1=>by have:=cntK_le r v k;rw[cntK];split<;>omega
def labR(r:Nat→Int)(k:Nat):ByteArray:=if r k=1 then labN (cntK r 1 (k+1)) else {data:=#[]}
def labsL(r:Nat→Int)(n:Nat):List ByteArray:=(List.range n).map (labR r)
theorem labsL_at{r:Nat→Int}{n i:Nat}(h:i<n):(labsL r n).getD i default=labR r i:=by simp[labsL,List.getD,h]
theorem labsL_len(r:Nat→Int)(n:Nat):(labsL r n).length=n:=by simp[labsL]
theorem labsL_succ(r:Nat→Int)(n:Nat):labsL r (n+1)=labsL r n++[labR r n]:=by simp[labsL,List.range_succ]
theorem eE_1{r:Int}(h:r=1):eE r=⟨10,0,[⟨oLi,oL⟩]⟩:=by unfold eE attsR;rw[if_pos h]
theorem eE_2{r:Int}(h:r=2):eE r=⟨10,0,[⟨oHe,o1⟩]⟩:=by subst h;rfl
theorem eE_0{r:Int}(h:¬r=1)(h2:¬r=2):eE r=⟨10,0,[]⟩:=by unfold eE attsR;rw[if_neg h,if_neg h2]
theorem min_cast(n:Nat):min (n:Int) 20=((min n 20:Nat):Int):=by omega
theorem skip_fill{α:Type}[Inhabited α]{l:List α}{i n:Nat}{z:α}(hn:n=l.length)(hi:i<n)(hx:l.getD i default=z):l.take i++List.replicate (n-i) z=l.take (i+1)++List.replicate (n- (i+1)) z:=by
 subst hn
 rw[List.take_succ_eq_append_getElem hi,show l.length-i=(l.length- (i+1))+1 by omega,List.replicate_succ,List.append_assoc]
 rw[List.getD,List.getElem?_eq_getElem hi,Option.getD_some] at hx
 rw[hx];rfl
def cntP(x:Nat×Nat):Nat×List Tree:=(x.1,[TS oL,TI (x.2:Int),TI 0,TI 0,TI 0,TI 0,TI 0,TI 0,TI 0,TI 0])
def CntI(r:Nat→Int)(i:Nat)(bs:List Nat)(q:List (Nat×Nat)):Prop:=(bs=[]∧q=[]∧cntK r 1 i=0)∨∃b,bs=[b]∧q=[(b,cntK r 1 i)]
def headR(r:Nat→Int)(l:List Par)(k:Nat):Option Head:=if r k=2 then some ⟨(k:Int),1,⟨(Lib.decDigits (cntK r 2 (k+1))).toArray⟩,(if(l.getD k default).elems=[] then {data:=#[]} else {data:=#[97]})⟩ else none
def headsL(r:Nat→Int)(l:List Par)(n:Nat):List Head:=(List.range n).filterMap (headR r l)
theorem headsL_len(r:Nat→Int)(l:List Par):∀n,(headsL r l n).length=cntK r 2 n
 |0=>rfl
 |n+1=>by
  have ih:=headsL_len r l n
  unfold headsL at ih⊢
  rw[List.range_succ,List.filterMap_append,List.length_append,ih,cntK]
  simp only[List.filterMap_cons,List.filterMap_nil,headR]
  split<;>rename_i h<;>split at h<;>simp_all
theorem headsL_yes{r:Nat→Int}{l:List Par}{n:Nat}(h:r n=2):headsL r l (n+1)=headsL r l n++[⟨(n:Int),1,⟨(Lib.decDigits (cntK r 2 (n+1))).toArray⟩,(if(l.getD n default).elems=[] then {data:=#[]} else {data:=#[97]})⟩]:=by
 unfold headsL;rw[List.range_succ,List.filterMap_append];simp[headR,h]
theorem headsL_no{r:Nat→Int}{l:List Par}{n:Nat}(h:r n≠2):headsL r l (n+1)=headsL r l n:=by
 unfold headsL;rw[List.range_succ,List.filterMap_append];simp[headR,h]
def decB(n:Nat):ByteArray:=⟨(Lib.decDigits n).toArray⟩
def digB(m:Nat):ByteArray:=⟨#[UInt8.ofNat (48+m%10)]⟩
def RI(n m:Nat)(o:ByteArray):Prop:=o.size+m≤100∧((o.data.toList=[]∧m=n)∨(o.data.toList≠[]∧if m=0 then o.data.toList=Lib.decDigits n else Lib.decDigits m++o.data.toList=Lib.decDigits n))
theorem mt_iff(o:ByteArray):seq o {data:=#[]}=true↔o.data.toList=[]:=by
 rw[seq_iff]
 constructor
 ·rintro rfl;rfl
 ·intro h;exact ByteArray.ext (Array.toList_inj.1 (by simpa using h))
theorem RI.step{n m:Nat}{o:ByteArray}(h:RI n m o)(hc:seq o {data:=#[]}=true∨m≠0):RI n (m/10) (digB m++o):=by
 obtain⟨h1,h2⟩:=h
 have hs:(digB m++o).size=1+o.size:=by rw[ByteArray.size_append];rfl
 have hd:(digB m++o).data.toList=UInt8.ofNat (48+m%10)::o.data.toList:=by rw[ByteArray.data_append,Array.toList_append];rfl
 refine⟨?_,.inr ⟨by rw[hd];simp,?_⟩⟩
 ·rw[hs]
  rcases h2 with⟨a,b⟩| ⟨a,b⟩
  ·have:o.size=0:=by show o.data.size=0;rw[←Array.length_toList,a];rfl
   omega
  ·have:m≠0:=hc.resolve_left (fun q=>a ((mt_iff o).1 q))
   omega
 ·rw[hd]
  have key:(if m/10=0 then[UInt8.ofNat (48+m%10)]=Lib.decDigits m else Lib.decDigits (m/10)++[UInt8.ofNat (48+m%10)]=Lib.decDigits m):=by
   by_cases hm:m<10
   ·rw[if_pos (by omega),Lib.decDigits,dif_pos hm,Nat.mod_eq_of_lt hm]
   ·rw[if_neg (by omega)]
    conv=>rhs;rw[Lib.decDigits,dif_neg hm]
  rcases h2 with⟨a,rfl⟩| ⟨a,b⟩
  ·rw[a];exact key
  ·have hm0:m≠0:=hc.resolve_left (fun q=>a ((mt_iff o).1 q))
   rw[if_neg hm0] at b
   split
   ·rename_i h0
    rw[if_pos h0] at key
    rw[←b,←key];rfl
   ·rename_i h0
    rw[if_neg h0] at key
    rw[←b,←key,List.append_assoc];rfl
theorem RI.stop{n m:Nat}{o:ByteArray}(h:RI n m o)(h1:¬seq o {data:=#[]}=true)(h2:m=0):o=decB n:=by
 obtain⟨_,h3| ⟨_,h4⟩⟩:=h
 ·exact absurd ((mt_iff o).2 h3.1) h1
 ·rw[if_pos h2] at h4
  exact ByteArray.ext (Array.toList_inj.1 (by rw[h4];rfl))
theorem dec_dot(n:Nat):decB n++{data:=#[46]}=labN n:=by
 apply ByteArray.ext;rw[ByteArray.data_append];apply Array.toList_inj.1;simp[decB,labN]
theorem dec_size{n:Nat}(h:n<100):(decB n).size≤2:=dd_len h
theorem dig_ints(m:Nat):[(48+max ((m:Int)%10) (0- ((m:Int)%10)):Int)]=intsB (digB m):=by
 have h:max ((m:Int)%10) (0- ((m:Int)%10))=(m:Int)%10:=by omega
 rw[h]
 unfold intsB digB
 simp only[List.map_cons,List.map_nil,UInt8.toNat_ofNat']
 congr 1
 omega
theorem dig_size(m:Nat)(o:ByteArray):(digB m++o).size=1+o.size:=by rw[ByteArray.size_append];rfl
theorem i64max:IntKind.i64.max=9223372036854775807:=by decide
theorem dig_w{m:Nat}{o:ByteArray}(h:o.size≤100):(((digB m).size+o.size:Nat):Int)≤IntKind.i64.max:=by
 rw[i64max,show(digB m).size=1 from rfl];omega
theorem mt_w{o:ByteArray}(h:o.size≤100):((({data:=#[]}:ByteArray).size+o.size:Nat):Int)≤IntKind.i64.max:=by
 rw[i64max,show({data:=#[]}:ByteArray).size=0 from rfl];omega
theorem dot_w{n:Nat}(h:n<100):(((decB n).size+({data:=#[46]}:ByteArray).size:Nat):Int)≤IntKind.i64.max:=by
 have:=dec_size h
 rw[i64max,show({data:=#[46]}:ByteArray).size=1 from rfl];omega
theorem RI.meas{n m:Nat}{o:ByteArray}(h:RI n m o)(hc:seq o {data:=#[]}=true∨m≠0):m/10+(if(digB m++o).size=0 then 1 else 0)< m+(if o.size=0 then 1 else 0):=by
 rw[dig_size,if_neg (by omega)]
 rcases hc with q|q
 ·have:o.size=0:=by show o.data.size=0;rw[←Array.length_toList,(mt_iff o).1 q];rfl
  rw[if_pos this];omega
 ·omega
end Go.Ch
end
section
set_option linter.unusedVariables false
set_option linter.unusedSimpArgs false
set_option maxRecDepth 100000
set_option maxHeartbeats 4000000
open Go Go.Proofs Go.Ab
namespace Go.Ch
theorem fc_next0(nm:ByteArray)(n s a b c d e f x y:Int)(h:0≤n∧n≤1000000000):FC Tryz.prog 100 [.ptr 0 0,VI 0,VI s,VB false] (app emp [(0,.box [VS nm,VI n,VI a,VI b,VI c,VI d,VI e,VI f,VI x,VI y])]) (.tup []) (app emp [(0,.box [VS nm,VI (n+1),VI 0,VI 0,VI 0,VI 0,VI 0,VI 0,VI 0,VI 0])]):=by
 refine .go Tryz.f100 ?_
 exact .fin [.r [],.u,.r [],.f,.r [(4,X (Xa (Xc ((0:Int)≤0)) (Xc (0< ((9:Nat):Int))))),(6,X (Xn (n+1))),(9,X (Xa (Xc ((0:Int)≤0)) (Xc (0< ((9:Nat):Int)))))],.r [],.f,.r [],.u,.r [],.t,.r [(4,X (Xa (Xc ((0:Int)≤1)) (Xc (1< ((9:Nat):Int)))))],.r [],.u,.r [],.t,.r [(4,X (Xa (Xc ((0:Int)≤2)) (Xc (2< ((9:Nat):Int)))))],.r [],.u,.r [],.t,.r [(4,X (Xa (Xc ((0:Int)≤3)) (Xc (3< ((9:Nat):Int)))))],.r [],.u,.r [],.t,.r [(4,X (Xa (Xc ((0:Int)≤4)) (Xc (4< ((9:Nat):Int)))))],.r [],.u,.r [],.t,.r [(4,X (Xa (Xc ((0:Int)≤5)) (Xc (5< ((9:Nat):Int)))))],.r [],.u,.r [],.t,.r [(4,X (Xa (Xc ((0:Int)≤6)) (Xc (6< ((9:Nat):Int)))))],.r [],.u,.r [],.t,.r [(4,X (Xa (Xc ((0:Int)≤7)) (Xc (7< ((9:Nat):Int)))))],.r [],.u,.r [],.t,.r [(4,X (Xa (Xc ((0:Int)≤8)) (Xc (8< ((9:Nat):Int)))))],.r [],.u,.r [],.f] [(0,0)]
end Go.Ch
end
section
set_option linter.unusedVariables false
namespace Go.Ch
open Go Go.Ab
def intT(z:Int):Tree:= .sc (.int .i64 z)
def strT(s:ByteArray):Tree:= .sc (.string s)
def cmpI(x y:Int):Int:=if x<y then-1 else if x>y then 1 else 0
def orL:List Int→Int
 | []=>0
 |x::l=>if x≠0 then x else orL l
theorem orL_at{l:List Int}{i:Nat}(h:i<l.length):orL (l.drop i)=if l.getD i default≠0 then l.getD i default else orL (l.drop (i+1)):=by
 rw[List.drop_eq_getElem_cons h,orL]
 simp[List.getD,List.getElem?_eq_getElem h]
theorem orL_two(a b:Int):orL [a,b]=if a≠0 then a else b:=by
 by_cases h:a=0
 ·by_cases k:b=0<;>simp[orL,h,k]
 ·simp[orL,h]
end Go.Ch
end
section
set_option linter.unusedVariables false
set_option linter.unusedSimpArgs false
namespace Go.Ch
open Go Go.Ab
structure DOp where
 clock:Int
 site:Int
 kind:Int
 itm:Int
 prt:Int
 plc:ByteArray
 nm:ByteArray
 vl:ByteArray
 deriving DecidableEq
instance:Inhabited DOp:=⟨⟨0,0,0,0,0,mt,mt,mt⟩⟩
def dopT(o:DOp):Tree:= .agg [TI o.clock,TI o.site,TI o.kind,TI o.itm,TI o.prt,TS o.plc,TS o.nm,TS o.vl]
structure DItem where
 item:Int
 parent:Int
 place:ByteArray
 attrs:List Attr
instance:Inhabited DItem:=⟨⟨0,0,mt,[]⟩⟩
def ditT(x:DItem):Tree:= .agg [TI x.item,TI x.parent,TS x.place,TL 2 attrT x.attrs]
def plS(s:ByteArray)(i:Nat):Bool:=if i<s.size then(if byt s i<97∨122<byt s i then false else plS s (i+1)) else true
termination_by s.size-i
def placeB(s:ByteArray):Bool:=decide (1≤s.size∧s.size≤200∧byt s (s.size- 1)≠97)&&plS s 0
def stampC(a b:DOp):Int:=orL [cmpI a.clock b.clock,cmpI a.site b.site]
def ltO(a b:DOp):Prop:=a.clock<b.clock∨(a.clock=b.clock∧a.site<b.site)
instance (a b:DOp):Decidable (ltO a b):=by unfold ltO;infer_instance
theorem stampC_lt{a b:DOp}:stampC a b<0↔ltO a b:=by
 unfold stampC ltO cmpI
 rw[orL_two]
 split<;>split<;>(try split)<;>(try split)<;>omega
theorem stampC_ge{a b:DOp}:0≤stampC a b↔¬ltO a b:=by rw[←stampC_lt];omega
def opE(o:DOp):Int:=
 if o.kind≠0∧o.kind≠1 then 8
 else if o.clock<1∨1073741824<o.clock∨o.site<0∨1000<o.site∨o.itm<1∨1073741824<o.itm then 2
 else if(o.kind=0∧(seq o.nm mt=false∨seq o.vl mt=false))∨(o.kind=1∧(o.prt≠0∨seq o.plc mt=false)) then 4
 else if o.kind=0∧(o.prt< -1∨1073741824<o.prt) then 2
 else if(o.kind=0∧placeB o.plc=false)∨(o.kind=1∧nameGo o.nm=false) then 9
 else if o.kind=1∧seq o.vl mt=false∧valGo o.vl=false then 23
 else 0
def drawE(l:List DOp)(i:Nat):Int:=
 if i<l.length then
  if opE (l.getD i default)≠0 then opE (l.getD i default)
  else if 0<i∧¬ltO (l.getD (i- 1) default) (l.getD i default) then 5
  else drawE l (i+1)
 else 0
termination_by l.length-i
theorem getDO_mem{l:List DOp}{i:Nat}(h:i<l.length):l.getD i default∈l:=by
 rw[show l.getD i default=l[i] by simp[List.getD,List.getElem?_eq_getElem h]]
 exact List.getElem_mem h
end Go.Ch
end
section
set_option linter.unusedVariables false
set_option linter.unusedSimpArgs false
set_option maxRecDepth 100000
set_option maxHeartbeats 4000000
open Go Go.Proofs Go.Ab
namespace Go.Ch
theorem fc_char(c:Int):FC Tryz.prog 128 [VI c] (app emp []) (VB (decide (CharP c))) (app emp []):=by
 refine .go Tryz.f128 ?_
 have e1:((decide (CharP c)):Bool)=(((((c==9)|| (c==10))|| (decide (c≥32)&&decide (c<127)))|| (decide (c≥160)&&decide (c<55296)))|| (decide (c>57343)&&decide (c≤1114111))):=by
  rw[Bool.eq_iff_iff,decide_eq_true_iff];unfold CharP;simp only[Bool.or_eq_true,Bool.and_eq_true,decide_eq_true_eq,beq_iff_eq];constructor<;>intro hh<;>omega
 exact .finE [.r [],.r [(4,Xv 1 (!(c==9)) X0),(5,X (Xk' (c==9))),(8,Xv 1 (!((c==9)|| (c==10))) X0),(9,Xv 1 (!((c==9)|| (c==10))) X0),(11,Xv 1 ((!((c==9)|| (c==10)))&&(decide (c≥32))) X0),(12,Xka (!((c==9)|| (c==10))) (decide (c≥32))),(13,X (Xk' ((c==9)|| (c==10)))),(16,Xv 1 (!(((c==9)|| (c==10))|| (decide (c≥32)&&decide (c<127)))) X0),(17,Xv 1 (!(((c==9)|| (c==10))|| (decide (c≥32)&&decide (c<127)))) X0),(19,Xv 1 ((!(((c==9)|| (c==10))|| (decide (c≥32)&&decide (c<127))))&&(decide (c≥160))) X0),(20,Xka (!(((c==9)|| (c==10))|| (decide (c≥32)&&decide (c<127)))) (decide (c≥160))),(21,X (Xk' (((c==9)|| (c==10))|| (decide (c≥32)&&decide (c<127))))),(24,Xv 1 (!((((c==9)|| (c==10))|| (decide (c≥32)&&decide (c<127)))|| (decide (c≥160)&&decide (c<55296)))) X0),(25,Xv 1 (!((((c==9)|| (c==10))|| (decide (c≥32)&&decide (c<127)))|| (decide (c≥160)&&decide (c<55296)))) X0),(27,Xv 1 ((!((((c==9)|| (c==10))|| (decide (c≥32)&&decide (c<127)))|| (decide (c≥160)&&decide (c<55296))))&&(decide (c>57343))) X0),(28,Xka (!((((c==9)|| (c==10))|| (decide (c≥32)&&decide (c<127)))|| (decide (c≥160)&&decide (c<55296)))) (decide (c>57343))),(29,X (Xk' ((((c==9)|| (c==10))|| (decide (c≥32)&&decide (c<127)))|| (decide (c≥160)&&decide (c<55296)))))]] [] (fun z0:Bool=>(VB z0,[])) _ _ e1
theorem nz_iff{a b:Int}:((a !=0)=(b !=0))↔(a=0↔b=0):=by
 rw[Bool.eq_iff_iff];simp;omega
theorem fc_elem(x:Elem):FC Tryz.prog 92 [.t (elemT x)] (app emp []) (VI (elemE x)) (app emp []):=by
 refine .go Tryz.f92 ?_
 refine .bp [.r [],.r []] ((x.char !=0)==(x.ref !=0)) (fun h1=> ?_) (fun h1=> ?_)
 ·
  have e1:((elemE x):Int)=4:=by
   first|exact elemE_4 (nz_iff.1 h1)|exact elemE_2 (fun h=>h1 (nz_iff.2 h)) (.inl h3)|exact elemE_2 (fun h=>h1 (nz_iff.2 h)) (.inr h4)|exact elemE_c (fun h=>h1 (nz_iff.2 h)) h3 h4| (exfalso;simp_all;done)
  exact .finE [.r []] [] (fun z0:Int=>(VI z0,[])) _ _ e1
 ·
  refine .bp [.r [(5,Xv 1 (x.ref==0) X0),(6,Xv 1 (x.ref==0) (Xc0 (fc_char x.char) X0)),(7,Xv 1 (x.ref==0) X0),(8,X (Xk (x.ref==0)))]] ((x.ref==0)&& !(decide (CharP x.char))) (fun h3=> ?_) (fun h3=> ?_)
  ·
   refine .bp [] ((x.ref==0)&& !(decide (CharP x.char))) (fun h3=> ?_) (fun h3=> ?_)
   ·
    have e2:((elemE x):Int)=2:=by
     first|exact elemE_4 (nz_iff.1 h1)|exact elemE_2 (fun h=>h1 (nz_iff.2 h)) (.inl h3)|exact elemE_2 (fun h=>h1 (nz_iff.2 h)) (.inr h4)|exact elemE_c (fun h=>h1 (nz_iff.2 h)) h3 h4| (exfalso;simp_all;done)
    exact .finE [.r []] [] (fun z0:Int=>(VI z0,[])) _ _ e2
   ·
    have e3:((elemE x):Int)=(chkA false x.attrs 0):=by
     first|exact elemE_4 (nz_iff.1 h1)|exact elemE_2 (fun h=>h1 (nz_iff.2 h)) (.inl h3)|exact elemE_2 (fun h=>h1 (nz_iff.2 h)) (.inr h4)|exact elemE_c (fun h=>h1 (nz_iff.2 h)) h3 h4| (exfalso;simp_all;done)
    exact .finE [.r [(2,X (Xc0 (fc_acheck x.attrs) X0))]] [] (fun z0:Int=>(VI z0,[])) _ _ e3
  ·
   refine .bp [.r [(5,Xv 1 (x.ref !=0) X0),(6,Xv 1 (x.ref !=0) X0),(7,Xv 1 (x.ref !=0) X0),(9,Xv 1 ((x.ref !=0)&& !(decide (x.ref<1))) X0),(10,Xv 1 ((x.ref !=0)&& !(decide (x.ref<1))) X0),(11,Xko (x.ref !=0) (decide (x.ref<1))),(12,X (Xk (x.ref !=0)))]] ((x.ref !=0)&&(decide (x.ref<1)||decide (x.ref>1073741824))) (fun h4=> ?_) (fun h4=> ?_)
   ·
    have e4:((elemE x):Int)=2:=by
     first|exact elemE_4 (nz_iff.1 h1)|exact elemE_2 (fun h=>h1 (nz_iff.2 h)) (.inl h3)|exact elemE_2 (fun h=>h1 (nz_iff.2 h)) (.inr h4)|exact elemE_c (fun h=>h1 (nz_iff.2 h)) h3 h4| (exfalso;simp_all;done)
    exact .finE [.r []] [] (fun z0:Int=>(VI z0,[])) _ _ e4
   ·
    have e5:((elemE x):Int)=(chkA false x.attrs 0):=by
     first|exact elemE_4 (nz_iff.1 h1)|exact elemE_2 (fun h=>h1 (nz_iff.2 h)) (.inl h3)|exact elemE_2 (fun h=>h1 (nz_iff.2 h)) (.inr h4)|exact elemE_c (fun h=>h1 (nz_iff.2 h)) h3 h4| (exfalso;simp_all;done)
    exact .finE [.r [(2,X (Xc0 (fc_acheck x.attrs) X0))]] [] (fun z0:Int=>(VI z0,[])) _ _ e5
end Go.Ch
end
section
set_option linter.unusedVariables false
set_option linter.unusedSimpArgs false
namespace Go.Ch
open Go Go.Ab
def decR(u:ByteArray):Int:=((Lib.decodeGo u).1:Int)
def decW(u:ByteArray):Nat:=(Lib.decodeGo u).2
theorem decW_bd{u:ByteArray}(h:0<u.size):1≤decW u∧decW u≤u.size:=by
 unfold decW Lib.decodeGo
 rw[if_neg (by omega)]
 have hl:u.data.toList.length=u.size:=by rw[Array.length_toList];rfl
 rw[Lib.decode_N]
 have h1:=Lib.decodeN_ge1 (u.data.toList.length-0) (u.data.toList.getD 0 0).toNat (u.data.toList.getD (0+1) 0).toNat (u.data.toList.getD (0+2) 0).toNat (u.data.toList.getD (0+3) 0).toNat
 have h2:=Lib.decodeN_width_le (u.data.toList.length-0) (u.data.toList.getD 0 0).toNat (u.data.toList.getD (0+1) 0).toNat (u.data.toList.getD (0+2) 0).toNat (u.data.toList.getD (0+3) 0).toNat (by omega)
 omega
theorem decR_bd(u:ByteArray):0≤decR u∧decR u≤1114111:=by
 unfold decR Lib.decodeGo
 split
 ·decide
 ·have:=Lib.rune_le u 0;omega
def badT(u:ByteArray):Prop:=(decR u=65533∧decW u=1)∨decR u=10∨¬CharP (decR u)
instance (u:ByteArray):Decidable (badT u):=by unfold badT CharP;infer_instance
def textG(u:ByteArray):Bool:=if h:0<u.size then(if badT u then false else textG (u.extract (decW u) u.size)) else true
termination_by u.size
decreasing_by
 have:=decW_bd h
 rw[ByteArray.size_extract]
 omega
theorem textG_bad{u:ByteArray}(h:0<u.size)(hb:badT u):textG u=false:=by rw[textG,dif_pos h,if_pos hb]
theorem textG_go{u:ByteArray}(h:0<u.size)(hb:¬badT u):textG u=textG (u.extract (decW u) u.size):=by
 conv=>lhs;rw[textG]
 rw[dif_pos h,if_neg hb]
theorem textG_end{u:ByteArray}(h:¬0<u.size):textG u=true:=by rw[textG,dif_neg h]
def tailG(u:ByteArray)(p:Nat):ByteArray:=u.extract p u.size
end Go.Ch
end
section
set_option linter.unusedVariables false
set_option linter.unusedSimpArgs false
namespace Go.Ch
open Go Go.Ab
structure Cell where
 row:Int
 col:Int
 text:ByteArray
 ref:Int
 attrs:List Attr
instance:Inhabited Cell:=⟨⟨0,0,{data:=#[]},0,[]⟩⟩
structure Rect where
 row:Int
 col:Int
 h:Int
 w:Int
deriving DecidableEq
instance:Inhabited Rect:=⟨⟨0,0,0,0⟩⟩
structure Grid where
 rows:Int
 cols:Int
 cells:List Cell
 merges:List Rect
instance:Inhabited Grid:=⟨⟨0,0,[],[]⟩⟩
def cellT(c:Cell):Tree:= .agg [TI c.row,TI c.col,TS c.text,TI c.ref,.lst 2 (c.attrs.map attrT)]
def rectT(r:Rect):Tree:= .agg [TI r.row,TI r.col,TI r.h,TI r.w]
def gridT(g:Grid):Tree:= .agg [TI g.rows,TI g.cols,.lst 5 (g.cells.map cellT),.lst 4 (g.merges.map rectT)]
def ordC(a b:Cell):Int:=orL [cmpI a.row b.row,cmpI a.col b.col]
def emptyC(c:Cell):Bool:=(seq c.text {data:=#[]}&&c.ref==0)&&(c.attrs.length:Int)==0
def insB(r:Rect)(m n:Int):Bool:=decide (0≤r.row∧0≤r.col∧1≤r.h∧1≤r.w∧r.row<m∧r.col<n∧r.h≤m-r.row∧r.w≤n-r.col)
def meetB(a b:Rect):Bool:=decide (a.row<b.row+b.h∧b.row<a.row+a.h∧a.col<b.col+b.w∧b.col<a.col+a.w)
def RB(r:Rect):Prop:= -1000000000000≤r.row∧r.row≤1000000000000∧ -1000000000000≤r.col∧r.col≤1000000000000∧ -1000000000000≤r.h∧r.h≤1000000000000∧ -1000000000000≤r.w∧r.w≤1000000000000
def befB(a b:Rect):Bool:=decide (a.row<b.row∨(a.row=b.row∧a.col<b.col))
theorem getDX_mem{α:Type}[Inhabited α]{l:List α}{i:Nat}(h:i<l.length):l.getD i default∈l:=by
 rw[show l.getD i default=l[i] by simp[List.getD,List.getElem?_eq_getElem h]];exact List.getElem_mem _
theorem drop_succD{α:Type}[Inhabited α]{l:List α}{i:Nat}(h:i<l.length):l.drop i=l.getD i default::l.drop (i+1):=by
 rw[List.drop_eq_getElem_cons h];simp[List.getD,List.getElem?_eq_getElem h]
def cellE(c:Cell)(m n:Int)(none:Bool):Int:=
 if c.row<0∨m≤c.row∨c.col<0∨n≤c.col then 2
 else if c.ref<0∨1073741824<c.ref then 2
 else if textG c.text=false then 23
 else if¬chkA false c.attrs 0=0 then chkA false c.attrs 0
 else if emptyC c=true∧none=false then 4 else 0
def cellsE(l:List Cell)(m n:Int)(none:Bool)(i:Nat):Int:=
 if i<l.length then
  (if¬cellE (l.getD i default) m n none=0 then cellE (l.getD i default) m n none
   else if 0<i∧0≤ordC (l.getD (i- 1) default) (l.getD i default) then 5 else cellsE l m n none (i+1))
 else 0
termination_by l.length-i
def SzC(l:List Cell):Prop:=∀c∈l,c.text.size≤9223372036854775807∧Szd c.attrs
def anyM(l:List Rect)(r:Rect):Bool:=l.any (fun q=>meetB q r)
def mergE(l:List Rect)(m n:Int)(i:Nat):Int:=
 if i<l.length then
  (if insB (l.getD i default) m n=false then 2
   else if(l.getD i default).h=1∧(l.getD i default).w=1 then 4
   else if 0<i∧befB (l.getD (i- 1) default) (l.getD i default)=false then 5
   else if anyM (l.take i) (l.getD i default)=true then 21
   else mergE l m n (i+1))
 else 0
termination_by l.length-i
def gridE(g:Grid):Int:=
 if g.rows<0∨2147483647<g.rows∨g.cols<0∨2147483647<g.cols then 2
 else if¬cellsE g.cells g.rows g.cols false 0=0 then cellsE g.cells g.rows g.cols false 0
 else mergE g.merges g.rows g.cols 0
def idxF{α:Type}[Inhabited α](p:α→Bool)(l:List α)(i:Nat):Int:=if i<l.length then(if p (l.getD i default)=true then(i:Int) else idxF p l (i+1)) else-1
termination_by l.length-i
theorem idxF_ge{α:Type}[Inhabited α](p:α→Bool){l:List α}:∀(n i:Nat),l.length-i=n→(0≤idxF p l i↔(l.drop i).any p=true)
 |0,i,h=>by rw[idxF,if_neg (by omega),List.drop_eq_nil_of_le (by omega)];simp
 |n+1,i,h=>by
  have hi:i<l.length:=by omega
  rw[idxF,if_pos hi,drop_succD hi,List.any_cons]
  by_cases hp:p (l.getD i default)=true
  ·rw[if_pos hp,hp];simp
  ·rw[if_neg hp,idxF_ge p n (i+1) (by omega)]
   simp only[Bool.not_eq_true] at hp
   rw[hp,Bool.false_or]
theorem idxF_any{α:Type}[Inhabited α](p:α→Bool)(l:List α):(0≤idxF p l 0)=((l.any p)=true):=propext (by rw[idxF_ge p _ 0 rfl,List.drop_zero])
def AllRB(l:List Rect):Prop:=∀q∈l,RB q
theorem insB_iff{r:Rect}{m n:Int}:insB r m n=true↔0≤r.row∧0≤r.col∧1≤r.h∧1≤r.w∧r.row<m∧r.col<n∧r.h≤m-r.row∧r.w≤n-r.col:=by
 unfold insB;rw[decide_eq_true_eq]
theorem RB_ins{r:Rect}{m n:Int}(h:insB r m n=true)(hm:m≤1000000000000)(hn:n≤1000000000000):RB r:=by
 have:=insB_iff.1 h
 unfold RB;omega
def InsTo(l:List Rect)(m n:Int)(i:Nat):Prop:=∀k,k<i→insB (l.getD k default) m n=true
theorem InsTo.all{l:List Rect}{m n:Int}{i:Nat}(h:InsTo l m n i)(hi:i≤l.length)(hm:m≤1000000000000)(hn:n≤1000000000000):AllRB (l.take i):=fun q hq=>by
 obtain⟨k,hk,rfl⟩:=List.mem_iff_getElem.1 hq
 have h2:k<i:=by rw[List.length_take] at hk;omega
 have:=RB_ins (h k h2) hm hn
 rw[List.getElem_take]
 rwa [List.getD_eq_getElem?_getD,List.getElem?_eq_getElem (by omega)] at this
theorem InsTo.succ{l:List Rect}{m n:Int}{i:Nat}(h:InsTo l m n i)(h2:insB (l.getD i default) m n=true):InsTo l m n (i+1):=fun k hk=>by
 by_cases e:k=i
 ·rw[e];exact h2
 ·exact h k (by omega)
end Go.Ch
end
section
set_option linter.unusedVariables false
set_option linter.unusedSimpArgs false
set_option maxRecDepth 100000
set_option maxHeartbeats 4000000
open Go Go.Proofs Go.Ab
namespace Go.Ch
theorem fc_isNaN(x:Int):FC Tryz.prog 175 [VI x] (app emp []) (VB false) (app emp []):=by
 refine .go Tryz.f175 ?_
 have e1:((x !=x):Bool)=false:=by
  simp
 exact .finE [.r [],.r []] [] (fun z0:Bool=>(VB z0,[])) _ _ e1.symm
theorem fc_cmpI(x y:Int):FC Tryz.prog 150 [VI x,VI y] (app emp []) (VI (cmpI x y)) (app emp []):=by
 refine .go Tryz.f150 ?_
 refine .bp [.r [],.r [(1,X (Xc0 (fc_isNaN x) X0))],.r [(1,X (Xc0 (fc_isNaN y) X0))],.r [],.f,.r [],.f,.r []] (decide (x<y)) (fun h9=> ?_) (fun h9=> ?_)
 ·
  have e1:((cmpI x y):Int)= -1:=by
   unfold cmpI;((repeat' split)<;>first|rfl|omega| (simp_all;done)| (simp_all;omega))
  exact .finE [.r []] [] (fun z0:Int=>(VI z0,[])) _ _ e1
 ·
  refine .bp [.r []] (decide (x>y)) (fun h11=> ?_) (fun h11=> ?_)
  ·
   have e2:((cmpI x y):Int)=1:=by
    unfold cmpI;((repeat' split)<;>first|rfl|omega| (simp_all;done)| (simp_all;omega))
   exact .finE [.r []] [] (fun z0:Int=>(VI z0,[])) _ _ e2
  ·
   have e3:((cmpI x y):Int)=0:=by
    unfold cmpI;((repeat' split)<;>first|rfl|omega| (simp_all;done)| (simp_all;omega))
   exact .finE [.r []] [] (fun z0:Int=>(VI z0,[])) _ _ e3
theorem fc_or(l:List Int):FC Tryz.prog 148 [VL 1 intT l] (app emp []) (VI (orL l)) (app emp []):=by
 refine .go Tryz.f148 ?_
 refine .len 0 (fun hl0=> ?_)
 refine .loop (α:=Nat) [.r [],.r [],.r [(1,X (Xl intT l))]] 40 (fun i=>([(3,VI 0),(6,VL 1 intT l),(7,VI (l.length:Int)),(8,VI (i:Int))],[])) (fun i=>i≤l.length∧orL l=orL (l.drop i)) (fun i=>l.length-i) (0:Nat) ?_ ?_
 ·
  exact⟨by omega,rfl⟩
 rintro i I3 ih3
 try dsimp only at I3
 refine .bp [.r []] (decide ((i:Int)< (l.length:Int))) (fun h3=> ?_) (fun h3=> ?_)
 ·
  refine .bp [.r [(0,X (Xi intT l (i:Int)))],.r []] ((l.getD i default) !=0) (fun h5=> ?_) (fun h5=> ?_)
  ·
   have e1:((orL l):Int)=(l.getD i default):=by
    rw[I3.2,orL_at (by omega),if_pos (by omega)]
   exact .finE [.r []] [] (fun z0:Int=>(VI z0,[])) _ _ e1
  ·
   refine .back [.r [(0,X (Xn ((i:Int)+1)))]] [] (ih3 ((i+1):Nat) ?_ ?_)
   ·
    refine⟨by omega,?_⟩
    rw[I3.2,orL_at (by omega),if_neg (by omega)]
   ·
    ((try dsimp only);omega)
 ·
  have e2:((orL l):Int)=0:=by
   rw[I3.2,List.drop_eq_nil_of_le (by omega)];rfl
  exact .finE [.r []] [] (fun z0:Int=>(VI z0,[])) _ _ e2
theorem fc_order(a b:Cell):FC Tryz.prog 157 [.t (cellT a),.t (cellT b)] (app emp []) (VI (ordC a b)) (app emp []):=by
 refine .go Tryz.f157 ?_
 have e1:((ordC a b):Int)=(orL [(cmpI a.row b.row),(cmpI a.col b.col)]):=by
  rfl
 exact .finE [.r [],.r [(4,X (Xc0 (fc_cmpI a.row b.row) X0)),(9,X (Xc0 (fc_cmpI a.col b.col) X0)),(11,X (Xc0 (fc_or [(cmpI a.row b.row),(cmpI a.col b.col)]) (rowC intT [(cmpI a.row b.row),(cmpI a.col b.col)] X0)))]] [] (fun z0:Int=>(VI z0,[])) _ _ e1
theorem fc_empty(c:Cell):FC Tryz.prog 156 [.t (cellT c)] (app emp []) (VB (emptyC c)) (app emp []):=by
 refine .go Tryz.f156 ?_
 have e1:((emptyC c):Bool)=((seq c.text ({data:=#[]})&&(c.ref==0))&&((c.attrs.length:Int)==0)):=by
  rfl
 exact .finE [.r [],.r [(5,Xv 1 (seq c.text ({data:=#[]})) X0),(6,Xv 1 (seq c.text ({data:=#[]})) X0),(7,X (Xk (seq c.text ({data:=#[]})))),(10,Xv 1 (seq c.text ({data:=#[]})&&(c.ref==0)) X0),(11,Xv 1 (seq c.text ({data:=#[]})&&(c.ref==0)) (Xl attrT c.attrs)),(12,Xv 1 (seq c.text ({data:=#[]})&&(c.ref==0)) X0),(13,X (Xk (seq c.text ({data:=#[]})&&(c.ref==0))))]] [] (fun z0:Bool=>(VB z0,[])) _ _ e1
theorem fc_inside(r:Rect)(m n:Int)(hb:0≤m∧m≤1000000000000∧0≤n∧n≤1000000000000):FC Tryz.prog 121 [.t (rectT r),VI m,VI n] (app emp []) (VB (insB r m n)) (app emp []):=by
 refine .go Tryz.f121 ?_
 have e1:((insB r m n):Bool)=(((((((decide (r.row≥0)&&decide (r.col≥0))&&decide (r.h≥1))&&decide (r.w≥1))&&decide (r.row<m))&&decide (r.col<n))&&decide (r.h≤(m-r.row)))&&decide (r.w≤(n-r.col))):=by
  unfold insB;rw[Bool.eq_iff_iff];simp;try omega
 exact .finE [.r [],.r [(5,Xv 1 (decide (r.row≥0)) X0),(6,Xv 1 (decide (r.row≥0)) X0),(7,X (Xk (decide (r.row≥0)))),(10,Xv 1 (decide (r.row≥0)&&decide (r.col≥0)) X0),(11,Xv 1 (decide (r.row≥0)&&decide (r.col≥0)) X0),(12,X (Xk (decide (r.row≥0)&&decide (r.col≥0)))),(15,Xv 1 ((decide (r.row≥0)&&decide (r.col≥0))&&decide (r.h≥1)) X0),(16,Xv 1 ((decide (r.row≥0)&&decide (r.col≥0))&&decide (r.h≥1)) X0),(17,X (Xk ((decide (r.row≥0)&&decide (r.col≥0))&&decide (r.h≥1)))),(20,Xv 1 (((decide (r.row≥0)&&decide (r.col≥0))&&decide (r.h≥1))&&decide (r.w≥1)) X0),(22,Xv 2 (((decide (r.row≥0)&&decide (r.col≥0))&&decide (r.h≥1))&&decide (r.w≥1)) X0),(23,X (Xk (((decide (r.row≥0)&&decide (r.col≥0))&&decide (r.h≥1))&&decide (r.w≥1)))),(26,Xv 1 ((((decide (r.row≥0)&&decide (r.col≥0))&&decide (r.h≥1))&&decide (r.w≥1))&&decide (r.row<m)) X0),(28,Xv 2 ((((decide (r.row≥0)&&decide (r.col≥0))&&decide (r.h≥1))&&decide (r.w≥1))&&decide (r.row<m)) X0),(29,X (Xk ((((decide (r.row≥0)&&decide (r.col≥0))&&decide (r.h≥1))&&decide (r.w≥1))&&decide (r.row<m)))),(32,Xv 1 (((((decide (r.row≥0)&&decide (r.col≥0))&&decide (r.h≥1))&&decide (r.w≥1))&&decide (r.row<m))&&decide (r.col<n)) X0),(35,Xv 1 (((((decide (r.row≥0)&&decide (r.col≥0))&&decide (r.h≥1))&&decide (r.w≥1))&&decide (r.row<m))&&decide (r.col<n)) X0),(36,Xv 2 (((((decide (r.row≥0)&&decide (r.col≥0))&&decide (r.h≥1))&&decide (r.w≥1))&&decide (r.row<m))&&decide (r.col<n)) (Xn (m-r.row))),(37,Xv 2 (((((decide (r.row≥0)&&decide (r.col≥0))&&decide (r.h≥1))&&decide (r.w≥1))&&decide (r.row<m))&&decide (r.col<n)) X0),(38,X (Xk (((((decide (r.row≥0)&&decide (r.col≥0))&&decide (r.h≥1))&&decide (r.w≥1))&&decide (r.row<m))&&decide (r.col<n)))),(41,Xv 1 ((((((decide (r.row≥0)&&decide (r.col≥0))&&decide (r.h≥1))&&decide (r.w≥1))&&decide (r.row<m))&&decide (r.col<n))&&decide (r.h≤(m-r.row))) X0),(44,Xv 1 ((((((decide (r.row≥0)&&decide (r.col≥0))&&decide (r.h≥1))&&decide (r.w≥1))&&decide (r.row<m))&&decide (r.col<n))&&decide (r.h≤(m-r.row))) X0),(45,Xv 2 ((((((decide (r.row≥0)&&decide (r.col≥0))&&decide (r.h≥1))&&decide (r.w≥1))&&decide (r.row<m))&&decide (r.col<n))&&decide (r.h≤(m-r.row))) (Xn (n-r.col))),(46,Xv 2 ((((((decide (r.row≥0)&&decide (r.col≥0))&&decide (r.h≥1))&&decide (r.w≥1))&&decide (r.row<m))&&decide (r.col<n))&&decide (r.h≤(m-r.row))) X0),(47,X (Xk ((((((decide (r.row≥0)&&decide (r.col≥0))&&decide (r.h≥1))&&decide (r.w≥1))&&decide (r.row<m))&&decide (r.col<n))&&decide (r.h≤(m-r.row)))))]] [] (fun z0:Bool=>(VB z0,[])) _ _ e1
theorem fc_meets(a b:Rect)(ha:RB a)(hb:RB b):FC Tryz.prog 125 [.t (rectT a),.t (rectT b)] (app emp []) (VB (meetB a b)) (app emp []):=by
 refine .go Tryz.f125 ?_
 unfold RB at ha hb
 have e1:((meetB a b):Bool)=(((decide (a.row< (b.row+b.h))&&decide (b.row< (a.row+a.h)))&&decide (a.col< (b.col+b.w)))&&decide (b.col< (a.col+a.w))):=by
  unfold meetB;rw[Bool.eq_iff_iff];simp;try omega
 exact .finE [.r [],.r [(6,X (Xn (b.row+b.h))),(10,Xv 1 (decide (a.row< (b.row+b.h))) X0),(12,Xv 1 (decide (a.row< (b.row+b.h))) X0),(14,Xv 1 (decide (a.row< (b.row+b.h))) X0),(15,Xv 2 (decide (a.row< (b.row+b.h))) (Xn (a.row+a.h))),(16,Xv 2 (decide (a.row< (b.row+b.h))) X0),(17,X (Xk (decide (a.row< (b.row+b.h))))),(20,Xv 1 (decide (a.row< (b.row+b.h))&&decide (b.row< (a.row+a.h))) X0),(22,Xv 1 (decide (a.row< (b.row+b.h))&&decide (b.row< (a.row+a.h))) X0),(24,Xv 1 (decide (a.row< (b.row+b.h))&&decide (b.row< (a.row+a.h))) X0),(25,Xv 2 (decide (a.row< (b.row+b.h))&&decide (b.row< (a.row+a.h))) (Xn (b.col+b.w))),(26,Xv 2 (decide (a.row< (b.row+b.h))&&decide (b.row< (a.row+a.h))) X0),(27,X (Xk (decide (a.row< (b.row+b.h))&&decide (b.row< (a.row+a.h))))),(30,Xv 1 ((decide (a.row< (b.row+b.h))&&decide (b.row< (a.row+a.h)))&&decide (a.col< (b.col+b.w))) X0),(32,Xv 1 ((decide (a.row< (b.row+b.h))&&decide (b.row< (a.row+a.h)))&&decide (a.col< (b.col+b.w))) X0),(34,Xv 1 ((decide (a.row< (b.row+b.h))&&decide (b.row< (a.row+a.h)))&&decide (a.col< (b.col+b.w))) X0),(35,Xv 2 ((decide (a.row< (b.row+b.h))&&decide (b.row< (a.row+a.h)))&&decide (a.col< (b.col+b.w))) (Xn (a.col+a.w))),(36,Xv 2 ((decide (a.row< (b.row+b.h))&&decide (b.row< (a.row+a.h)))&&decide (a.col< (b.col+b.w))) X0),(37,X (Xk ((decide (a.row< (b.row+b.h))&&decide (b.row< (a.row+a.h)))&&decide (a.col< (b.col+b.w)))))]] [] (fun z0:Bool=>(VB z0,[])) _ _ e1
theorem fc_before(a b:Rect):FC Tryz.prog 122 [.t (rectT a),.t (rectT b)] (app emp []) (VB (befB a b)) (app emp []):=by
 refine .go Tryz.f122 ?_
 have e1:((befB a b):Bool)=(decide (a.row<b.row)|| ((a.row==b.row)&&decide (a.col<b.col))):=by
  unfold befB;rw[Bool.eq_iff_iff];simp;try omega
 exact .finE [.r [],.r [(7,Xv 1 (!(decide (a.row<b.row))) X0),(9,Xv 1 (!(decide (a.row<b.row))) X0),(10,Xv 2 (!(decide (a.row<b.row))) X0),(11,Xv 1 (!(decide (a.row<b.row))) X0),(13,Xv 1 ((!(decide (a.row<b.row)))&&(a.row==b.row)) X0),(15,Xv 1 ((!(decide (a.row<b.row)))&&(a.row==b.row)) X0),(16,Xv 2 ((!(decide (a.row<b.row)))&&(a.row==b.row)) X0),(17,Xka (!(decide (a.row<b.row))) (a.row==b.row)),(18,X (Xk' (decide (a.row<b.row))))]] [] (fun z0:Bool=>(VB z0,[])) _ _ e1
end Go.Ch
end
section
set_option linter.unusedVariables false
set_option linter.unusedSimpArgs false
set_option maxRecDepth 100000
set_option maxHeartbeats 4000000
open Go Go.Proofs Go.Ab
namespace Go.Ch
theorem fc_place(s:ByteArray):FC Tryz.prog 159 [VS s] (app emp []) (VB (placeB s)) (app emp []):=by
 refine .go Tryz.f159 ?_
 refine .bp [.r [],.r [(4,Xv 1 (!(seq s ({data:=#[]}))) X0),(5,Xv 1 (!(seq s ({data:=#[]}))) X0),(6,X (Xk' (seq s ({data:=#[]})))),(10,Xv 1 (!(seq s ({data:=#[]})||decide ((s.size:Int)> 200))) X0),(11,Xv 1 (!(seq s ({data:=#[]})||decide ((s.size:Int)> 200))) (Xn ((s.size:Int)- 1)) (fun hg=>by(try simp only[decide_eq_true_eq,decide_eq_false_iff_not,Int.not_lt,Int.not_le,gt_iff_lt,Bool.not_eq_true',Bool.not_eq_false',Bool.or_eq_true,Bool.or_eq_false_iff] at hg);exact(by have:=str_pos hg.1;omega))),(12,Xv 2 (!(seq s ({data:=#[]})||decide ((s.size:Int)> 200))) (Xb s ((s.size:Int)- 1)) (fun hg=>by(try simp only[decide_eq_true_eq,decide_eq_false_iff_not,Int.not_lt,Int.not_le,gt_iff_lt,Bool.not_eq_true',Bool.not_eq_false',Bool.or_eq_true,Bool.or_eq_false_iff] at hg);exact⟨(by have:=str_pos hg.1;omega),(by omega)⟩)),(13,Xv 1 (!(seq s ({data:=#[]})||decide ((s.size:Int)> 200))) X0),(14,X (Xk' (seq s ({data:=#[]})||decide ((s.size:Int)> 200))))]] ((seq s ({data:=#[]})||decide ((s.size:Int)> 200))|| (((((s[(Int.toNat ((s.size:Int)- 1))]?).getD 0).toNat:Nat):Int)==97)) (fun h1=> ?_) (fun h1=> ?_)
 ·
  have e1:((placeB s):Bool)=false:=by
   have hs:((s.size:Int)- 1).toNat=s.size- 1:=by omega
   rw[hs] at h1;simp only[byt0,seq_mt,decide_eq_true_eq] at h1;unfold placeB;rw[decide_eq_false (fun q=>by omega)];rfl
  exact .finE [.r []] [] (fun z0:Bool=>(VB z0,[])) _ _ e1
 ·
  refine .loop (α:=Nat) [.r []] 152 (fun i=>([(0,VS s),(20,VI (s.size:Int)),(21,VI (i:Int))],[])) (fun i=>i≤s.size∧plS s 0=plS s i) (fun i=>s.size-i) (0:Nat) ?_ ?_
  ·
   exact⟨by omega,rfl⟩
  rintro i I4 ih4
  try dsimp only at I4
  refine .bp [.r []] (decide ((i:Int)< (s.size:Int))) (fun h4=> ?_) (fun h4=> ?_)
  ·
   refine .bp [.r [],.r [(2,X (Xb s (i:Int))),(7,Xv 2 (!(decide (((((s[i]?).getD 0).toNat:Nat):Int)< 97))) (Xb s (i:Int))),(8,Xv 1 (!(decide (((((s[i]?).getD 0).toNat:Nat):Int)< 97))) X0),(9,X (Xk' (decide (((((s[i]?).getD 0).toNat:Nat):Int)< 97))))]] (decide (((((s[i]?).getD 0).toNat:Nat):Int)< 97)||decide (((((s[i]?).getD 0).toNat:Nat):Int)> 122)) (fun h6=> ?_) (fun h6=> ?_)
   ·
    have e2:((placeB s):Bool)=false:=by
     simp only[byt0] at h6;unfold placeB;rw[I4.2,plS,if_pos (by omega),if_pos (by omega)];simp
    exact .finE [.r []] [] (fun z0:Bool=>(VB z0,[])) _ _ e2
   ·
    refine .back [.r [(0,X (Xn ((i:Int)+1)))]] [] (ih4 ((i+1):Nat) ?_ ?_)
    ·
     simp only[byt0] at h6;refine⟨by omega,?_⟩;rw[I4.2,plS,if_pos (by omega),if_neg (by omega)]
    ·
     ((try dsimp only);omega)
  ·
   have e3:((placeB s):Bool)=true:=by
    have hs:((s.size:Int)- 1).toNat=s.size- 1:=by omega
    rw[hs] at h1;simp only[byt0,seq_mt,decide_eq_false_iff_not] at h1;unfold placeB;rw[I4.2,plS,if_neg (by omega),decide_eq_true (by omega)];rfl
   exact .finE [.r []] [] (fun z0:Bool=>(VB z0,[])) _ _ e3
theorem fc_stamps(a b:DOp):FC Tryz.prog 127 [.t (dopT a),.t (dopT b)] (app emp []) (VI (stampC a b)) (app emp []):=by
 refine .go Tryz.f127 ?_
 have e1:((stampC a b):Int)=(orL [(cmpI a.clock b.clock),(cmpI a.site b.site)]):=by
  rfl
 exact .finE [.r [],.r [(4,X (Xc0 (fc_cmpI a.clock b.clock) X0)),(9,X (Xc0 (fc_cmpI a.site b.site) X0)),(11,X (Xc0 (fc_or [(cmpI a.clock b.clock),(cmpI a.site b.site)]) (rowC intT [(cmpI a.clock b.clock),(cmpI a.site b.site)] X0)))]] [] (fun z0:Int=>(VI z0,[])) _ _ e1
theorem fc_op(o:DOp):FC Tryz.prog 126 [.t (dopT o)] (app emp []) (VI (opE o)) (app emp []):=by
 refine .go Tryz.f126 ?_
 refine .bp [.r [],.r [(5,Xv 1 (o.kind !=0) X0),(6,Xv 1 (o.kind !=0) X0),(7,X (Xk (o.kind !=0)))]] ((o.kind !=0)&&(o.kind !=1)) (fun h1=> ?_) (fun h1=> ?_)
 ·
  have e1:((opE o):Int)=8:=by
   unfold opE
   (repeat' split)<;>first|rfl| (exfalso;omega)| (exfalso;simp_all;done)| (exfalso;simp_all;omega)|grind
  exact .finE [.r []] [] (fun z0:Int=>(VI z0,[])) _ _ e1
 ·
  refine .bp [.r [(5,Xv 1 (!(decide (o.clock<1))) X0),(6,Xv 1 (!(decide (o.clock<1))) X0),(7,X (Xk' (decide (o.clock<1)))),(10,Xv 1 (!(decide (o.clock<1)||decide (o.clock>1073741824))) X0),(11,Xv 1 (!(decide (o.clock<1)||decide (o.clock>1073741824))) X0),(12,X (Xk' (decide (o.clock<1)||decide (o.clock>1073741824)))),(15,Xv 1 (!((decide (o.clock<1)||decide (o.clock>1073741824))||decide (o.site<0))) X0),(16,Xv 1 (!((decide (o.clock<1)||decide (o.clock>1073741824))||decide (o.site<0))) X0),(17,X (Xk' ((decide (o.clock<1)||decide (o.clock>1073741824))||decide (o.site<0)))),(20,Xv 1 (!(((decide (o.clock<1)||decide (o.clock>1073741824))||decide (o.site<0))||decide (o.site>1000))) X0),(21,Xv 1 (!(((decide (o.clock<1)||decide (o.clock>1073741824))||decide (o.site<0))||decide (o.site>1000))) X0),(22,X (Xk' (((decide (o.clock<1)||decide (o.clock>1073741824))||decide (o.site<0))||decide (o.site>1000)))),(25,Xv 1 (!((((decide (o.clock<1)||decide (o.clock>1073741824))||decide (o.site<0))||decide (o.site>1000))||decide (o.itm<1))) X0),(26,Xv 1 (!((((decide (o.clock<1)||decide (o.clock>1073741824))||decide (o.site<0))||decide (o.site>1000))||decide (o.itm<1))) X0),(27,X (Xk' ((((decide (o.clock<1)||decide (o.clock>1073741824))||decide (o.site<0))||decide (o.site>1000))||decide (o.itm<1))))]] (((((decide (o.clock<1)||decide (o.clock>1073741824))||decide (o.site<0))||decide (o.site>1000))||decide (o.itm<1))||decide (o.itm>1073741824)) (fun h3=> ?_) (fun h3=> ?_)
  ·
   have e2:((opE o):Int)=2:=by
    unfold opE
    (repeat' split)<;>first|rfl| (exfalso;omega)| (exfalso;simp_all;done)| (exfalso;simp_all;omega)|grind
   exact .finE [.r []] [] (fun z0:Int=>(VI z0,[])) _ _ e2
  ·
   refine .bp [.r [(5,Xv 1 (o.kind==0) X0),(6,Xv 1 (o.kind==0) X0),(7,Xv 1 (o.kind==0) X0),(9,Xv 1 ((o.kind==0)&& !(!(seq o.nm ({data:=#[]})))) X0),(10,Xv 1 ((o.kind==0)&& !(!(seq o.nm ({data:=#[]})))) X0),(11,Xko (o.kind==0) (!(seq o.nm ({data:=#[]})))),(12,X (Xk (o.kind==0)))]] ((o.kind==0)&&(!(seq o.nm ({data:=#[]}))|| !(seq o.vl ({data:=#[]})))) (fun h5=> ?_) (fun h5=> ?_)
   ·
    refine .bp [] ((o.kind==0)&&(!(seq o.nm ({data:=#[]}))|| !(seq o.vl ({data:=#[]})))) (fun h5=> ?_) (fun h5=> ?_)
    ·
     have e3:((opE o):Int)=4:=by
      unfold opE
      (repeat' split)<;>first|rfl| (exfalso;omega)| (exfalso;simp_all;done)| (exfalso;simp_all;omega)|grind
     exact .finE [.r []] [] (fun z0:Int=>(VI z0,[])) _ _ e3
    ·
     refine .bp [.r [(5,Xv 1 (o.kind==0) X0),(6,Xv 1 (o.kind==0) X0),(7,Xv 1 (o.kind==0) X0),(9,Xv 1 ((o.kind==0)&& !(decide (o.prt< (-1)))) X0),(10,Xv 1 ((o.kind==0)&& !(decide (o.prt< (-1)))) X0),(11,Xko (o.kind==0) (decide (o.prt< (-1)))),(12,X (Xk (o.kind==0)))]] ((o.kind==0)&&(decide (o.prt< (-1))||decide (o.prt>1073741824))) (fun h8=> ?_) (fun h8=> ?_)
     ·
      have e4:((opE o):Int)=2:=by
       unfold opE
       (repeat' split)<;>first|rfl| (exfalso;omega)| (exfalso;simp_all;done)| (exfalso;simp_all;omega)|grind
      exact .finE [.r []] [] (fun z0:Int=>(VI z0,[])) _ _ e4
     ·
      refine .bp [.r [(5,Xv 1 (o.kind==0) X0),(6,Xv 1 (o.kind==0) (Xc0 (fc_place o.plc) X0)),(7,Xv 1 (o.kind==0) X0),(8,X (Xk (o.kind==0)))]] ((o.kind==0)&& !(placeB o.plc)) (fun h10=> ?_) (fun h10=> ?_)
      ·
       refine .bp [] ((o.kind==0)&& !(placeB o.plc)) (fun h10=> ?_) (fun h10=> ?_)
       ·
        have e5:((opE o):Int)=9:=by
         unfold opE
         (repeat' split)<;>first|rfl| (exfalso;omega)| (exfalso;simp_all;done)| (exfalso;simp_all;omega)|grind
        exact .finE [.r []] [] (fun z0:Int=>(VI z0,[])) _ _ e5
       ·
        refine .bp [.r [(5,Xv 1 (o.kind==1) X0),(6,Xv 1 (o.kind==1) X0),(7,X (Xk (o.kind==1))),(10,Xv 1 ((o.kind==1)&& !(seq o.vl ({data:=#[]}))) X0),(11,Xv 1 ((o.kind==1)&& !(seq o.vl ({data:=#[]}))) (Xc0 (fc_value o.vl) X0)),(12,Xv 1 ((o.kind==1)&& !(seq o.vl ({data:=#[]}))) X0),(13,X (Xk ((o.kind==1)&& !(seq o.vl ({data:=#[]})))))]] (((o.kind==1)&& !(seq o.vl ({data:=#[]})))&& !(valGo o.vl)) (fun h13=> ?_) (fun h13=> ?_)
        ·
         have e6:((opE o):Int)=23:=by
          unfold opE
          (repeat' split)<;>first|rfl| (exfalso;omega)| (exfalso;simp_all;done)| (exfalso;simp_all;omega)|grind
         exact .finE [.r []] [] (fun z0:Int=>(VI z0,[])) _ _ e6
        ·
         have e7:((opE o):Int)=0:=by
          unfold opE
          (repeat' split)<;>first|rfl| (exfalso;omega)| (exfalso;simp_all;done)| (exfalso;simp_all;omega)|grind
         exact .finE [.r []] [] (fun z0:Int=>(VI z0,[])) _ _ e7
      ·
       refine .bp [.r [(5,Xv 1 (o.kind==1) X0),(6,Xv 1 (o.kind==1) (Xc0 (fc_name o.nm) X0)),(7,Xv 1 (o.kind==1) X0),(8,X (Xk (o.kind==1)))]] ((o.kind==1)&& !(nameGo o.nm)) (fun h11=> ?_) (fun h11=> ?_)
       ·
        have e8:((opE o):Int)=9:=by
         unfold opE
         (repeat' split)<;>first|rfl| (exfalso;omega)| (exfalso;simp_all;done)| (exfalso;simp_all;omega)|grind
        exact .finE [.r []] [] (fun z0:Int=>(VI z0,[])) _ _ e8
       ·
        refine .bp [.r [(5,Xv 1 (o.kind==1) X0),(6,Xv 1 (o.kind==1) X0),(7,X (Xk (o.kind==1))),(10,Xv 1 ((o.kind==1)&& !(seq o.vl ({data:=#[]}))) X0),(11,Xv 1 ((o.kind==1)&& !(seq o.vl ({data:=#[]}))) (Xc0 (fc_value o.vl) X0)),(12,Xv 1 ((o.kind==1)&& !(seq o.vl ({data:=#[]}))) X0),(13,X (Xk ((o.kind==1)&& !(seq o.vl ({data:=#[]})))))]] (((o.kind==1)&& !(seq o.vl ({data:=#[]})))&& !(valGo o.vl)) (fun h13=> ?_) (fun h13=> ?_)
        ·
         have e9:((opE o):Int)=23:=by
          unfold opE
          (repeat' split)<;>first|rfl| (exfalso;omega)| (exfalso;simp_all;done)| (exfalso;simp_all;omega)|grind
         exact .finE [.r []] [] (fun z0:Int=>(VI z0,[])) _ _ e9
        ·
         have e10:((opE o):Int)=0:=by
          unfold opE
          (repeat' split)<;>first|rfl| (exfalso;omega)| (exfalso;simp_all;done)| (exfalso;simp_all;omega)|grind
         exact .finE [.r []] [] (fun z0:Int=>(VI z0,[])) _ _ e10
   ·
    refine .bp [.r [(5,Xv 1 (o.kind==1) X0),(6,Xv 1 (o.kind==1) X0),(7,Xv 1 (o.kind==1) X0),(9,Xv 1 ((o.kind==1)&& !(o.prt !=0)) X0),(10,Xv 1 ((o.kind==1)&& !(o.prt !=0)) X0),(11,Xko (o.kind==1) (o.prt !=0)),(12,X (Xk (o.kind==1)))]] ((o.kind==1)&&((o.prt !=0)|| !(seq o.plc ({data:=#[]})))) (fun h6=> ?_) (fun h6=> ?_)
    ·
     have e11:((opE o):Int)=4:=by
      unfold opE
      (repeat' split)<;>first|rfl| (exfalso;omega)| (exfalso;simp_all;done)| (exfalso;simp_all;omega)|grind
     exact .finE [.r []] [] (fun z0:Int=>(VI z0,[])) _ _ e11
    ·
     refine .bp [.r [(5,Xv 1 (o.kind==0) X0),(6,Xv 1 (o.kind==0) X0),(7,Xv 1 (o.kind==0) X0),(9,Xv 1 ((o.kind==0)&& !(decide (o.prt< (-1)))) X0),(10,Xv 1 ((o.kind==0)&& !(decide (o.prt< (-1)))) X0),(11,Xko (o.kind==0) (decide (o.prt< (-1)))),(12,X (Xk (o.kind==0)))]] ((o.kind==0)&&(decide (o.prt< (-1))||decide (o.prt>1073741824))) (fun h8=> ?_) (fun h8=> ?_)
     ·
      have e12:((opE o):Int)=2:=by
       unfold opE
       (repeat' split)<;>first|rfl| (exfalso;omega)| (exfalso;simp_all;done)| (exfalso;simp_all;omega)|grind
      exact .finE [.r []] [] (fun z0:Int=>(VI z0,[])) _ _ e12
     ·
      refine .bp [.r [(5,Xv 1 (o.kind==0) X0),(6,Xv 1 (o.kind==0) (Xc0 (fc_place o.plc) X0)),(7,Xv 1 (o.kind==0) X0),(8,X (Xk (o.kind==0)))]] ((o.kind==0)&& !(placeB o.plc)) (fun h10=> ?_) (fun h10=> ?_)
      ·
       refine .bp [] ((o.kind==0)&& !(placeB o.plc)) (fun h10=> ?_) (fun h10=> ?_)
       ·
        have e13:((opE o):Int)=9:=by
         unfold opE
         (repeat' split)<;>first|rfl| (exfalso;omega)| (exfalso;simp_all;done)| (exfalso;simp_all;omega)|grind
        exact .finE [.r []] [] (fun z0:Int=>(VI z0,[])) _ _ e13
       ·
        refine .bp [.r [(5,Xv 1 (o.kind==1) X0),(6,Xv 1 (o.kind==1) X0),(7,X (Xk (o.kind==1))),(10,Xv 1 ((o.kind==1)&& !(seq o.vl ({data:=#[]}))) X0),(11,Xv 1 ((o.kind==1)&& !(seq o.vl ({data:=#[]}))) (Xc0 (fc_value o.vl) X0)),(12,Xv 1 ((o.kind==1)&& !(seq o.vl ({data:=#[]}))) X0),(13,X (Xk ((o.kind==1)&& !(seq o.vl ({data:=#[]})))))]] (((o.kind==1)&& !(seq o.vl ({data:=#[]})))&& !(valGo o.vl)) (fun h13=> ?_) (fun h13=> ?_)
        ·
         have e14:((opE o):Int)=23:=by
          unfold opE
          (repeat' split)<;>first|rfl| (exfalso;omega)| (exfalso;simp_all;done)| (exfalso;simp_all;omega)|grind
         exact .finE [.r []] [] (fun z0:Int=>(VI z0,[])) _ _ e14
        ·
         have e15:((opE o):Int)=0:=by
          unfold opE
          (repeat' split)<;>first|rfl| (exfalso;omega)| (exfalso;simp_all;done)| (exfalso;simp_all;omega)|grind
         exact .finE [.r []] [] (fun z0:Int=>(VI z0,[])) _ _ e15
      ·
       refine .bp [.r [(5,Xv 1 (o.kind==1) X0),(6,Xv 1 (o.kind==1) (Xc0 (fc_name o.nm) X0)),(7,Xv 1 (o.kind==1) X0),(8,X (Xk (o.kind==1)))]] ((o.kind==1)&& !(nameGo o.nm)) (fun h11=> ?_) (fun h11=> ?_)
       ·
        have e16:((opE o):Int)=9:=by
         unfold opE
         (repeat' split)<;>first|rfl| (exfalso;omega)| (exfalso;simp_all;done)| (exfalso;simp_all;omega)|grind
        exact .finE [.r []] [] (fun z0:Int=>(VI z0,[])) _ _ e16
       ·
        refine .bp [.r [(5,Xv 1 (o.kind==1) X0),(6,Xv 1 (o.kind==1) X0),(7,X (Xk (o.kind==1))),(10,Xv 1 ((o.kind==1)&& !(seq o.vl ({data:=#[]}))) X0),(11,Xv 1 ((o.kind==1)&& !(seq o.vl ({data:=#[]}))) (Xc0 (fc_value o.vl) X0)),(12,Xv 1 ((o.kind==1)&& !(seq o.vl ({data:=#[]}))) X0),(13,X (Xk ((o.kind==1)&& !(seq o.vl ({data:=#[]})))))]] (((o.kind==1)&& !(seq o.vl ({data:=#[]})))&& !(valGo o.vl)) (fun h13=> ?_) (fun h13=> ?_)
        ·
         have e17:((opE o):Int)=23:=by
          unfold opE
          (repeat' split)<;>first|rfl| (exfalso;omega)| (exfalso;simp_all;done)| (exfalso;simp_all;omega)|grind
         exact .finE [.r []] [] (fun z0:Int=>(VI z0,[])) _ _ e17
        ·
         have e18:((opE o):Int)=0:=by
          unfold opE
          (repeat' split)<;>first|rfl| (exfalso;omega)| (exfalso;simp_all;done)| (exfalso;simp_all;omega)|grind
         exact .finE [.r []] [] (fun z0:Int=>(VI z0,[])) _ _ e18
theorem fc_dcheck(l:List DOp):FC Tryz.prog 90 [VL 8 dopT l] (app emp []) (VI (drawE l 0)) (app emp []):=by
 refine .go Tryz.f90 ?_
 refine .len 0 (fun hl0=> ?_)
 refine .loop (α:=Nat) [.r [],.r [(1,X (Xl dopT l))]] 32 (fun i=>([(0,VL 8 dopT l),(6,VL 8 dopT l),(7,VI (l.length:Int)),(8,VI (i:Int))],[])) (fun i=>i≤l.length∧drawE l 0=drawE l i) (fun i=>l.length-i) (0:Nat) ?_ ?_
 ·
  exact⟨by omega,rfl⟩
 rintro i I2 ih2
 try dsimp only at I2
 refine .bp [.r []] (decide ((i:Int)< (l.length:Int))) (fun h2=> ?_) (fun h2=> ?_)
 ·
  refine .bp [.r [(1,X (Xi dopT l (i:Int)))],.r [(1,X (Xc0 (fc_op ((l.getD i default))) X0))],.r []] ((opE ((l.getD i default))) !=0) (fun h5=> ?_) (fun h5=> ?_)
  ·
   have e1:((drawE l 0):Int)=(opE ((l.getD i default))):=by
    rw[I2.2,drawE,if_pos (by omega),if_pos h5]
   exact .finE [.r []] [] (fun z0:Int=>(VI z0,[])) _ _ e1
  ·
   refine .bp [.r [(5,Xv 1 (decide ((i:Int)> 0)) (Xn ((i:Int)- 1))),(6,Xv 2 (decide ((i:Int)> 0)) (Xi' dopT l ((i:Int)- 1) (i- 1))),(7,Xv 1 (decide ((i:Int)> 0)) X0),(9,Xv 2 (decide ((i:Int)> 0)) (Xc0 (fc_stamps ((l.getD (i- 1) default)) ((l.getD i default))) X0)),(10,Xv 1 (decide ((i:Int)> 0)) X0),(11,X (Xk (decide ((i:Int)> 0))))]] (decide ((i:Int)> 0)&&decide ((stampC ((l.getD (i- 1) default)) ((l.getD i default)))≥0)) (fun h7=> ?_) (fun h7=> ?_)
   ·
    have e2:((drawE l 0):Int)=5:=by
     rw[I2.2,drawE,if_pos (by omega),if_neg (by rw[h5];decide),if_pos ⟨by omega,by rw[←stampC_ge];exact h7.2⟩]
    exact .finE [.r []] [] (fun z0:Int=>(VI z0,[])) _ _ e2
   ·
    refine .back [.r [(0,X (Xn ((i:Int)+1)))]] [] (ih2 ((i+1):Nat) ?_ ?_)
    ·
     refine⟨by omega,?_⟩;rw[I2.2,drawE,if_pos (by omega),if_neg (by rw[h5];decide),if_neg (by rw[←stampC_ge];clear ih2;rintro⟨a,b⟩;rcases h7 with h|h<;>omega)]
    ·
     ((try dsimp only);omega)
 ·
  have e3:((drawE l 0):Int)=0:=by
   rw[I2.2,drawE,if_neg (by omega)]
  exact .finE [.r []] [] (fun z0:Int=>(VI z0,[])) _ _ e3
end Go.Ch
end
section
set_option linter.unusedVariables false
namespace Go.Ab
variable {α:Type}
def putK(key:α→Int):List α→α→List α
 | [],x=>[x]
 |y::l,x=>if key x=key y then x::l else y::putK key l x
theorem putE_map{f:α→Int×MV}{key:α→Int}(hf:∀x,(f x).1=key x):∀{l:List α} {x:α},putE (l.map f) (key x) (f x).2=(putK key l x).map f
 | [],x=>by simp[putE,putK,←hf]
 |y::l,x=>by
  have e:f y=(key y,(f y).2):=by rw[←hf]
  simp only[List.map_cons,putK]
  rw[e,putE]
  by_cases h:key x=key y
  ·rw[if_pos h,if_pos h,List.map_cons,←h]
   congr 1
   rw[←hf]
  ·rw[if_neg h,if_neg h,List.map_cons,putE_map hf,←e]
theorem lookE_map{f:α→Int×MV}{key:α→Int}(hf:∀x,(f x).1=key x):∀{l:List α} {n:Int},lookE (l.map f) n=(l.find? (fun x=>key x==n)).map (fun x=>(f x).2)
 | [],n=>rfl
 |y::l,n=>by
  have e:f y=(key y,(f y).2):=by rw[←hf]
  rw[List.map_cons,e,lookE,List.find?_cons,lookE_map hf]
  by_cases h:n=key y
  ·rw[if_pos h,h];simp
  ·rw[if_neg h]
   have:(key y==n)=false:=by simpa using fun q=>h q.symm
   rw[this]
def Uniq(key:α→Int)(l:List α):Prop:=∀x∈l,∀y∈l,key x=key y→x=y
def UniqI(key:α→Int)(l:List α):Prop:=(l.map key).Nodup
theorem UniqI.uniq{key:α→Int}:∀{l:List α},UniqI key l→Uniq key l
 | [],_,x,hx,_,_,_=>by simp at hx
 |a::l,h,x,hx,y,hy,e=>by
  simp only[UniqI,List.map_cons,List.nodup_cons] at h
  rcases List.mem_cons.1 hx with e1|h1<;>rcases List.mem_cons.1 hy with e2|h2
  ·rw[e1,e2]
  ·exact absurd (List.mem_map.2 ⟨y,h2,by rw[←e,e1]⟩) h.1
  ·exact absurd (List.mem_map.2 ⟨x,h1,by rw[e,e2]⟩) h.1
  ·exact UniqI.uniq h.2 x h1 y h2 e
theorem putK_mem{key:α→Int}:∀{l:List α} {x y:α},y∈putK key l x→y=x∨(y∈l)
 | [],x,y,h=>by simp[putK] at h;exact .inl h
 |a::l,x,y,h=>by
  simp only[putK] at h
  split at h
  ·rcases List.mem_cons.1 h with h|h
   ·exact .inl h
   ·exact .inr (List.mem_cons_of_mem _ h)
  ·rcases List.mem_cons.1 h with rfl|h
   ·exact .inr List.mem_cons_self
   ·exact(putK_mem h).imp id (List.mem_cons_of_mem _)
theorem putK_self{key:α→Int}:∀{l:List α} {x:α},x∈putK key l x
 | [],x=>by simp[putK]
 |a::l,x=>by
  simp only[putK]
  split
  ·exact List.mem_cons_self
  ·exact List.mem_cons_of_mem _ putK_self
theorem putK_old{key:α→Int}:∀{l:List α} {x y:α},y∈l→key y≠key x→y∈putK key l x
 |a::l,x,y,h,hne=>by
  simp only[putK]
  split
  ·rename_i e
   rcases List.mem_cons.1 h with rfl|h
   ·exact absurd e.symm hne
   ·exact List.mem_cons_of_mem _ h
  ·rcases List.mem_cons.1 h with rfl|h
   ·exact List.mem_cons_self
   ·exact List.mem_cons_of_mem _ (putK_old h hne)
theorem putK_keys{key:α→Int}:∀{l:List α} {x:α},(putK key l x).map key=if key x∈l.map key then l.map key else l.map key++[key x]
 | [],x=>by simp[putK]
 |a::l,x=>by
  simp only[putK]
  by_cases h:key x=key a
  ·rw[if_pos h];simp[h]
  ·rw[if_neg h,List.map_cons,putK_keys]
   by_cases hm:key x∈l.map key
   ·rw[if_pos hm,if_pos (by simp only[List.map_cons,List.mem_cons];exact .inr hm)];rfl
   ·rw[if_neg hm,if_neg (by simp only[List.map_cons,List.mem_cons,not_or];exact⟨h,hm⟩)];rfl
theorem UniqI.putK{key:α→Int}{l:List α}{x:α}(h:UniqI key l):UniqI key (putK key l x):=by
 unfold UniqI at*
 rw[putK_keys]
 split
 ·exact h
 ·rename_i hm
  rw[List.nodup_append]
  exact⟨h,by simp,fun a ha b hb=>by simp at hb;subst hb;exact fun e=>hm (e▸ha)⟩
theorem putK_other{key:α→Int}{l:List α}{x y:α}(h:UniqI key l)(hy:y∈Ab.putK key l x)(hne:y≠x):y∈l∧key y≠key x:=by
 have h1:=(putK_mem hy).resolve_left hne
 refine⟨h1,fun e=>hne ?_⟩
 exact h.putK.uniq y hy x putK_self e
theorem find_uniq{key:α→Int}{l:List α}{x:α}(h:UniqI key l)(hx:x∈l):l.find? (fun y=>key y==key x)=some x:=by
 cases hf:l.find? (fun y=>key y==key x) with
 |none=>have:=List.find?_eq_none.1 hf x hx;simp at this
 |some y=>
  have h1:=List.find?_some hf
  have h2:=List.mem_of_find?_eq_some hf
  rw[h.uniq y h2 x hx (by simpa using h1)]
theorem putK_same{key:α→Int}:∀{l:List α} {y:α},UniqI key l→y∈l→putK key l y=l
 |a::l,y,h,hy=>by
  have hq:=h.uniq
  simp only[putK]
  split
  ·rename_i e;rw[hq y hy a List.mem_cons_self e]
  ·rename_i e
   have h1:y∈l:=(List.mem_cons.1 hy).resolve_left (fun q=>e (by rw[q]))
   simp only[UniqI,List.map_cons,List.nodup_cons] at h
   rw[putK_same h.2 h1]
theorem find_at{key:α→Int}{l:List α}{n:Int}{x:α}(h:l.find? (fun y=>key y==n)=some x):x∈l∧key x=n:=⟨List.mem_of_find?_eq_some h,by have:=List.find?_some h;simpa using this⟩
theorem find_not{key:α→Int}{l:List α}{n:Int}(h:l.find? (fun y=>key y==n)=none):∀x∈l,key x≠n:=fun x hx=>by
 have:=List.find?_eq_none.1 h x hx;simpa using this
end Go.Ab
end
section
set_option linter.unusedVariables false
set_option linter.unusedSimpArgs false
namespace Go.Ch
open Go Go.Ab
def itM(x:DItem):Int×MV:=(x.item,.bx [TI x.item,TI x.parent,TS x.place,TL 2 attrT x.attrs])
def atM(p:Int×List Attr):Int×MV:=(p.1,.im (TL 2 attrT p.2))
def findI(l:List DItem)(k:Int):Option DItem:=l.find? (fun x=>x.item==k)
def findA(l:List (Int×List Attr))(k:Int):List Attr:=((l.find? (fun p=>p.1==k)).map (·.2)).getD []
theorem lookI{l:List DItem}{k:Int}:lookE (l.map itM) k=(findI l k).map fun x=> .bx [TI x.item,TI x.parent,TS x.place,TL 2 attrT x.attrs]:=lookE_map (key:=DItem.item) (fun _=>rfl)
theorem lookA{l:List (Int×List Attr)}{k:Int}:lookQ (l.map atM) k 2=some ((findA l k).map attrT):=by
 unfold lookQ findA
 rw[lookE_map (f:=atM) (key:=Prod.fst) (fun _=>rfl)]
 cases l.find? (fun p=>p.1==k) with
 |none=>rfl
 |some p=>simp[atM]
theorem putI{l:List DItem}{x:DItem}:putE (l.map itM) x.item (.bx [TI x.item,TI x.parent,TS x.place,TL 2 attrT x.attrs])=(putK DItem.item l x).map itM:=putE_map (f:=itM) (key:=DItem.item) (fun _=>rfl)
theorem putA{l:List (Int×List Attr)}{k:Int}{a:List Attr}:putE (l.map atM) k (.im (TL 2 attrT a))=(putK Prod.fst l (k,a)).map atM:=putE_map (f:=atM) (key:=Prod.fst) (x:=(k,a)) (fun _=>rfl)
theorem put_same{l:List DItem}{k:Int}{y:DItem}(hu:UniqI DItem.item l)(h:findI l k=some y):putE (l.map itM) k (.bx [TI y.item,TI y.parent,TS y.place,TL 2 attrT y.attrs])=l.map itM:=by
 obtain⟨h1,h2⟩:=find_at h
 rw[←h2,putI,putK_same hu h1]
def dropI(its:List DItem)(k:Int):List DItem:=its.filter fun y=>decide (y.item≠k)
def belowI(its:List DItem)(top k:Int):Bool:=
 if 0<k then
  if k=top then true
  else match h:findI its k with
   |none=>false
   |some x=>belowI (dropI its k) top x.parent
 else false
termination_by its.length
decreasing_by
 obtain⟨h1,h2⟩:=find_at h
 have:(its.filter fun y=>decide (y.item≠k)).length<its.length:=List.length_filter_lt_length_iff_exists.2 ⟨x,h1,by simp[h2]⟩
 exact this
inductive BelowP (its:List DItem) (top:Int):Int→Prop
 |here (h:0<top):BelowP its top top
 |up (x:DItem) (hx:x∈its) (h0:0<x.item) (h:BelowP its top x.parent):BelowP its top x.item
def Rk(its:List DItem)(r:Int→Nat):Prop:=∀x∈its,0<x.parent→r x.parent<r x.item
theorem BelowP.pos{its:List DItem}{top k:Int}(h:BelowP its top k):0<k:=by
 cases h with
 |here h=>exact h
 |up x hx h0 h=>exact h0
theorem BelowP.inv{its:List DItem}(hu:UniqI DItem.item its){top k:Int}(h:BelowP its top k)(hk:k≠top){x:DItem}(hx:x∈its)(e:x.item=k):BelowP its top x.parent:=by
 cases h with
 |here=>exact absurd rfl hk
 |up y hy _ hb=>rw[hu.uniq x hx y hy e];exact hb
theorem belowI_iff{its:List DItem}{r:Int→Nat}(hr:Rk its r)(hu:UniqI DItem.item its){top:Int}:∀(n:Nat) (k:Int) (q:DItem→Bool),(if 0<k then r k+1 else 0)≤n→(0<k→∀x∈its,r x.item≤r k→q x=true)→(belowI (its.filter q) top k=true↔BelowP its top k):=by
 intro n
 induction n with
 |zero=>
  intro k q hk hq
  have h0:¬0<k:=fun h=>by rw[if_pos h] at hk;omega
  rw[belowI,if_neg h0]
  exact⟨fun h=>(by cases h),fun h=>absurd h.pos h0⟩
 |succ n ih=>
  intro k q hk hq
  rw[belowI]
  by_cases h0:0<k
  ·rw[if_pos h0] at hk⊢
   by_cases h1:k=top
   ·rw[if_pos h1];subst h1;exact⟨fun _=> .here h0,fun _=>rfl⟩
   ·rw[if_neg h1]
    have hfind:findI (its.filter q) k=findI its k:=by
     unfold findI
     rw[List.find?_filter]
     have key:∀l:List DItem,(∀x∈l,x∈its)→l.find? (fun a=>decide (q a=true∧(a.item==k)=true))=l.find? (fun x=>x.item==k):=by
      intro l
      induction l with
      |nil=>intro _;rfl
      |cons a l ih2=>
       intro hl
       rw[List.find?_cons,List.find?_cons,ih2 (fun x hx=>hl x (List.mem_cons_of_mem _ hx))]
       by_cases e:a.item=k
       ·have:=hq h0 a (hl a List.mem_cons_self) (by rw[e];exact Nat.le_refl _)
        simp[this,e]
       ·have e2:(a.item==k)=false:=by simpa using e
        simp[e2]
     exact key its (fun x h=>h)
    split
    ·rename_i h;rw[hfind] at h
     refine⟨fun h=>(by cases h),fun hb=> ?_⟩
     cases hb with
     |here=>exact absurd rfl h1
     |up x hx _ _=>exact absurd rfl (find_not h x hx)
    ·rename_i x h;rw[hfind] at h
     obtain⟨hx,e⟩:=find_at h
     unfold dropI
     rw[List.filter_filter]
     have hlt:0<x.parent→r x.parent<r k:=fun hp=>by rw[←e];exact hr x hx hp
     rw[ih x.parent _ (by split<;>omega) (fun hp y hy hle=> ?_)]
     ·exact⟨fun hb=>by rw[←e];exact .up x hx (by omega) hb,fun hb=>hb.inv hu h1 hx e⟩
     ·have:=hlt hp
      have hne:y.item≠k:=fun e2=>by rw[e2] at hle;omega
      simp[hne,hq h0 y hy (by omega)]
  ·rw[if_neg h0]
   exact⟨fun h=>(by cases h),fun h=>absurd h.pos h0⟩
theorem filter_all{l:List DItem}:l.filter (fun _=>true)=l:=by simp
theorem below_iff{its:List DItem}{r:Int→Nat}(hr:Rk its r)(hu:UniqI DItem.item its){top k:Int}:belowI its top k=true↔BelowP its top k:=by
 have:=belowI_iff hr hu (top:=top) _ k (fun _=>true) (Nat.le_refl _) (fun _ _ _ _=>rfl)
 rwa [filter_all] at this
theorem below_step{its:List DItem}{r:Int→Nat}(hr:Rk its r)(hu:UniqI DItem.item its){top k:Int}(h0:0<k)(hk:k≠top){x:DItem}(hx:findI its k=some x):belowI its top k=belowI its top x.parent:=by
 obtain⟨h1,h2⟩:=find_at hx
 rw[Bool.eq_iff_iff,below_iff hr hu,below_iff hr hu]
 exact⟨fun h=>h.inv hu hk h1 h2,fun h=>by rw[←h2];exact .up x h1 (by omega) h⟩
def stepP(s:List DItem×List (Int×List Attr))(o:DOp):List DItem×List (Int×List Attr):=
 if o.kind=1 then(s.1,putK Prod.fst s.2 (o.itm,fm rawG (findA s.2 o.itm) [⟨o.nm,o.vl⟩]))
 else if belowI s.1 o.itm o.prt=true then s
 else(putK DItem.item s.1 ⟨o.itm,o.prt,o.plc,[]⟩,s.2)
def playP(l:List DOp):List DItem×List (Int×List Attr):=l.foldl stepP ([],[])
theorem playP_succ{l:List DOp}{i:Nat}(h:i<l.length):playP (l.take (i+1))=stepP (playP (l.take i)) (l.getD i default):=by
 unfold playP
 rw[List.take_succ_eq_append_getElem h,List.foldl_append]
 simp[List.getD,List.getElem?_eq_getElem h]
structure PlayOk(s:List DItem×List (Int×List Attr))(n:Nat):Prop where
 rank:∃r,Rk s.1 r
 uniq:UniqI DItem.item s.1
 uniqA:UniqI Prod.fst s.2
 pos:∀x∈s.1,0<x.item
 nil:∀x∈s.1,x.attrs=[]
 len:s.1.length≤n
 lenA:s.2.length≤n
 lenP:∀p∈s.2,p.2.length≤n
theorem putK_len{α:Type}{key:α→Int}:∀{l:List α} {x:α},(putK key l x).length≤l.length+1
 | [],x=>by simp[putK]
 |a::l,x=>by
  simp only[putK]
  split
  ·simp
  ·have:=putK_len (key:=key) (l:=l) (x:=x)
   simp only[List.length_cons];omega
theorem findA_len{l:List (Int×List Attr)}{k:Int}{n:Nat}(h:∀p∈l,p.2.length≤n):(findA l k).length≤n:=by
 unfold findA
 cases hf:l.find? (fun p=>p.1==k) with
 |none=>simp
 |some p=>exact h p (List.mem_of_find?_eq_some hf)
theorem PlayOk.start:PlayOk ([],[]) 0:=⟨⟨fun _=>0,fun x hx=>(by cases hx)⟩,List.nodup_nil,List.nodup_nil,fun x hx=>(by cases hx),fun x hx=>(by cases hx),Nat.le_refl _,Nat.le_refl _,fun x hx=>(by cases hx)⟩
open Classical in
theorem PlayOk.step{s:List DItem×List (Int×List Attr)}{n:Nat}(h:PlayOk s n){o:DOp}(ho:0<o.itm):PlayOk (stepP s o) (n+1):=by
 obtain⟨⟨r,hr⟩,h2,h3,h4,h5,h6,h7,h8⟩:=h
 unfold stepP
 split
 ·refine⟨⟨r,hr⟩,h2,h3.putK,h4,h5,by simp only;omega,Nat.le_trans putK_len (by omega),fun p hp=> ?_⟩
  rcases putK_mem hp with rfl|hp
  ·have:=fm_len rawG (findA s.2 o.itm) [⟨o.nm,o.vl⟩]
   have:=findA_len (k:=o.itm) h8
   simp only[List.length_cons,List.length_nil] at*
   omega
  ·have:=h8 p hp;omega
 ·split
  ·exact⟨⟨r,hr⟩,h2,h3,h4,h5,by omega,by omega,fun p hp=>by have:=h8 p hp;omega⟩
  ·rename_i hb
   have hb:¬BelowP s.1 o.itm o.prt:=fun q=>hb ((below_iff hr h2).2 q)
   refine⟨⟨fun k=>if BelowP s.1 o.itm k then r k+r o.prt+1 else r k,fun x hx hp=> ?_⟩,h2.putK,h3,fun x hx=> ?_,fun x hx=> ?_,Nat.le_trans putK_len (by omega),by simp only;omega,fun p hp=>by have:=h8 p hp;omega⟩
   ·by_cases e:x=⟨o.itm,o.prt,o.plc,[]⟩
    ·subst e
     show(if BelowP s.1 o.itm o.prt then r o.prt+r o.prt+1 else r o.prt)< (if BelowP s.1 o.itm o.itm then r o.itm+r o.prt+1 else r o.itm)
     rw[if_neg hb,if_pos (.here ho)];omega
    ·obtain⟨h9,h10⟩:=putK_other h2 hx e
     have hlt:=hr x h9 hp
     show(if BelowP s.1 o.itm x.parent then r x.parent+r o.prt+1 else r x.parent)< (if BelowP s.1 o.itm x.item then r x.item+r o.prt+1 else r x.item)
     by_cases hq:BelowP s.1 o.itm x.parent
     ·rw[if_pos hq,if_pos (.up x h9 (h4 x h9) hq)];omega
     ·rw[if_neg hq];split<;>omega
   ·rcases putK_mem hx with rfl|hx
    ·exact ho
    ·exact h4 x hx
   ·rcases putK_mem hx with rfl|hx
    ·rfl
    ·exact h5 x hx
theorem playP_ok{l:List DOp}(hl:∀o∈l,0<o.itm):∀i,i≤l.length→PlayOk (playP (l.take i)) i
 |0,_=>by simpa[playP] using PlayOk.start
 |i+1,h=>by
  rw[playP_succ (by omega)]
  exact(playP_ok hl i (by omega)).step (hl _ (getDO_mem (by omega)))
end Go.Ch
end
section
set_option linter.unusedVariables false
set_option linter.unusedSimpArgs false
set_option maxRecDepth 100000
set_option maxHeartbeats 4000000
open Go Go.Proofs Go.Ab
namespace Go.Ch
theorem fc_below(its:List DItem)(ats:List (Int×List Attr))(k top:Int)(r:Int→Nat)(hr:Rk its r)(hu:UniqI DItem.item its):FC Tryz.prog 171 [.ptr 0 0,VI k,VI top] (app emp [(0,.box [.hdl 1,.hdl 2]),(1,.mp (List.map itM its) none),(2,.mp (List.map atM ats) none)]) (VB (belowI its top k)) (app emp [(0,.box [.hdl 1,.hdl 2]),(1,.mp (List.map itM its) none),(2,.mp (List.map atM ats) none)]):=by
 refine .go Tryz.f171 ?_
 refine .loop (α:=Int) [.r []] 11 (fun c=>([(0,.ptr 0 0),(1,VI c),(2,VI top)],[(0,.box [.hdl 1,.hdl 2]),(1,.mp (List.map itM its) none),(2,.mp (List.map atM ats) none)])) (fun c=>belowI its top k=belowI its top c) (fun c=>if 0<c then r c+1 else 0) (k:Int) ?_ ?_
 ·
  rfl
 rintro c I1 ih1
 try dsimp only at I1
 refine .bp [.r []] (decide (c>0)) (fun h1=> ?_) (fun h1=> ?_)
 ·
  refine .bp [.r []] (c==top) (fun h2=> ?_) (fun h2=> ?_)
  ·
   have e1:((belowI its top k):Bool)=true:=by
    rw[I1,belowI,if_pos h1,if_pos h2]
   exact .finE [.r []] [(0,0),(1,1),(2,2)] (fun z0:Bool=>(VB z0,[(0,.box [.hdl 1,.hdl 2]),(1,.mp (List.map itM its) none),(2,.mp (List.map atM ats) none)])) _ _ e1
  ·
   rcases hf:findI its c with _|y
   ·
    have e2:((belowI its top k):Bool)=false:=by
     rw[I1,belowI,if_pos h1,if_neg h2];split
     ·rfl
     ·rename_i hq;rw[hf] at hq;cases hq
    exact .finE [.r [(5,X (Xm0 (List.map itM its) c) (by rw[lookI,hf];rfl))],.r [],.t,.r []] [(0,0),(1,1),(2,2)] (fun z0:Bool=>(VB z0,[(0,.box [.hdl 1,.hdl 2]),(1,.mp (List.map itM its) none),(2,.mp (List.map atM ats) none)])) _ _ e2
   ·
    refine .back [.r [(5,X (Xm2 (List.map itM its) c [TI y.item,TI y.parent,TS y.place,TL 2 attrT y.attrs]) (by rw[lookI,hf];rfl))],.r [],.f,.r [],.le (.mput 1 (List.map itM its) [(lookE (List.map itM its) c).isSome=true,putE (List.map itM its) c (.bx [TI y.item,TI y.parent,TS y.place,TL 2 attrT y.attrs])=List.map itM its] ⟨(by rw[lookI,hf];rfl),put_same hu hf,trivial⟩)] [(0,0),(1,1),(2,2)] (ih1 (y.parent:Int) ?_ ?_)
    ·
     rw[I1];exact below_step hr hu h1 h2 hf
    ·
     obtain⟨q1,q2⟩:=find_at hf
     (try dsimp only)
     rw[if_pos h1]
     by_cases hp:0<y.parent
     ·have:=hr y q1 hp;rw[if_pos hp];rw[q2] at this;omega
     ·rw[if_neg hp];omega
 ·
  have e3:((belowI its top k):Bool)=false:=by
   rw[I1,belowI,if_neg (by omega)]
  exact .finE [.r []] [(0,0),(1,1),(2,2)] (fun z0:Bool=>(VB z0,[(0,.box [.hdl 1,.hdl 2]),(1,.mp (List.map itM its) none),(2,.mp (List.map atM ats) none)])) _ _ e3
theorem fc_play(l:List DOp)(hn:l.length≤1000000000)(ho:∀o∈l,0<o.itm):FC Tryz.prog 144 [VL 8 dopT l] (app emp []) (.ptr 0 0) (app emp [(0,.box [.hdl 1,.hdl 2]),(1,.mp (List.map itM ((playP l).1)) none),(2,.mp (List.map atM ((playP l).2)) none)]):=by
 refine .go Tryz.f144 ?_
 refine .len 0 (fun hl0=> ?_)
 have hok:=playP_ok ho
 refine .loop (α:=Nat×List DItem×List (Int×List Attr)) [.r [],.r [],.r [(1,X (Xl dopT l))]] 72 (fun(i,its,ats)=>([(3,.ptr 32 0),(10,VL 8 dopT l),(11,VI (l.length:Int)),(12,VI (i:Int))],[(8,.mp (List.map itM its) none),(16,.mp (List.map atM ats) none),(32,.box [.hdl 8,.hdl 16])])) (fun(i,its,ats)=>i≤l.length∧(its,ats)=playP (l.take i)) (fun(i,its,ats)=>l.length-i) (0,[],[]) ?_ ?_
 ·
  exact⟨by omega,rfl⟩
 rintro⟨i,its,ats⟩ I3 ih3
 try dsimp only at I3
 refine .bp [.r []] (decide ((i:Int)< (l.length:Int))) (fun h3=> ?_) (fun h3=> ?_)
 ·
  have hP:=hok i (by omega)
  rw[←I3.2] at hP
  obtain⟨r,hr⟩:=hP.rank
  have hu:=hP.uniq
  have hfl:(findA ats (l.getD i default).itm).length≤i:=findA_len hP.lenP
  refine .bp [.r [(0,X (Xi dopT l (i:Int)))],.r []] ((((l.getD i default)).kind)==1) (fun h5=> ?_) (fun h5=> ?_)
  ·
   refine .back [.r [(12,X (Xmq (List.map atM ats) (((l.getD i default)).itm) 2 attrT (findA ats (l.getD i default).itm)) lookA),(19,X (Xc1 296 (fc_raw (findA ats (l.getD i default).itm) [({name:=((l.getD i default)).nm,val:=((l.getD i default)).vl}:Attr)] (by simp only[List.length_cons,List.length_nil];omega)) (rowC attrT [({name:=((l.getD i default)).nm,val:=((l.getD i default)).vl}:Attr)] X0))),(20,X (Xmu atM ats (putK Prod.fst ats ((l.getD i default).itm,fm rawG (findA ats (l.getD i default).itm) [⟨(l.getD i default).nm,(l.getD i default).vl⟩])) (((l.getD i default)).itm) 16 (.im (TL 2 attrT (fm rawG (findA ats (l.getD i default).itm) [({name:=((l.getD i default)).nm,val:=((l.getD i default)).vl}:Attr)])))) putA)],.r [(0,X (Xn ((i:Int)+1)))]] [(8,8),(16,16),(32,32)] (ih3 ((i+1),its,(putK Prod.fst ats ((l.getD i default).itm,fm rawG (findA ats (l.getD i default).itm) [⟨(l.getD i default).nm,(l.getD i default).vl⟩]))) ?_ ?_)
   ·
    refine⟨by omega,?_⟩
    rw[playP_succ (by omega),←I3.2,stepP,if_pos h5]
   ·
    ((try dsimp only);omega)
  ·
   refine .bp [.r [(5,X (Xc4 [(0,32),(1,8),(2,16)] (fc_below its ats (((l.getD i default)).prt) (((l.getD i default)).itm) r hr hu) X0))]] (!(belowI its (((l.getD i default)).itm) (((l.getD i default)).prt))) (fun h7=> ?_) (fun h7=> ?_)
   ·
    refine .back [.r [(12,X (Xf [(3,2)])),(14,X (Xmb itM its (putK DItem.item its ⟨(l.getD i default).itm,(l.getD i default).prt,(l.getD i default).plc,[]⟩) (((l.getD i default)).itm) 8 312 [TI (((l.getD i default)).itm),TI (((l.getD i default)).prt),TS (((l.getD i default)).plc),TL 2 attrT []]) (putI (x:=⟨(l.getD i default).itm,(l.getD i default).prt,(l.getD i default).plc,[]⟩)))],.r [(0,X (Xn ((i:Int)+1)))]] [(8,8),(16,16),(32,32)] (ih3 ((i+1),(putK DItem.item its ⟨(l.getD i default).itm,(l.getD i default).prt,(l.getD i default).plc,[]⟩),ats) ?_ ?_)
    ·
     refine⟨by omega,?_⟩
     rw[playP_succ (by omega),←I3.2,stepP,if_neg h5,if_neg (by rw[h7];decide)]
    ·
     ((try dsimp only);omega)
   ·
    refine .back [.r [(0,X (Xn ((i:Int)+1)))]] [(8,8),(16,16),(32,32)] (ih3 ((i+1),its,ats) ?_ ?_)
    ·
     refine⟨by omega,?_⟩
     rw[playP_succ (by omega),←I3.2,stepP,if_neg h5,if_pos h7]
    ·
     ((try dsimp only);omega)
 ·
  have e1:((playP l).1:List DItem)=its:=by
   have hi:i=l.length:=by omega
   rw[hi,List.take_length] at I3
   rw[←I3.2]
  have e2:((playP l).2:List (Int×List Attr))=ats:=by
   have hi:i=l.length:=by omega
   rw[hi,List.take_length] at I3
   rw[←I3.2]
  exact .finE [.r []] [(32,0),(8,1),(16,2)] (fun((z0,z1):(List DItem)×(List (Int×List Attr)))=>(.ptr 0 0,[(0,.box [.hdl 1,.hdl 2]),(1,.mp (List.map itM z0) none),(2,.mp (List.map atM z1) none)])) _ _ (pr e1 e2)
end Go.Ch
end
section
namespace Go.Proofs
open Go.Shelf
def Tryz.laysM171_ren:Go.Shelf.Ren:=⟨fun|171=>103|243=>140|246=>168|283=>186|284=>187|285=>188|286=>189|129=>201|317=>211|318=>212|319=>213|320=>214|337=>224|338=>225|n=>n,fun|3=>3|9=>9|2=>2|4=>4|171=>234|0=>0|53=>235|37=>111|5=>5|173=>238|212=>266|51=>240|20=>20|213=>267|46=>194|232=>288|233=>289|n=>n,fun|17=>4|18=>7|19=>8|n=>n⟩
theorem Tryz.laysM171:Go.Proofs.LaysM.n171 Tryz.prog Tryz.laysM171_ren:={
 mixed:=by kernel_rfl
 f129:=Tryz.func201.trans (congrArg some (by kernel_rfl))
 f171:=Tryz.func103.trans (congrArg some (by kernel_rfl))
 f243:=Tryz.func140.trans (congrArg some (by kernel_rfl))
 f246:=Tryz.func168.trans (congrArg some (by kernel_rfl))
 f283:=Tryz.func186.trans (congrArg some (by kernel_rfl))
 f284:=Tryz.func187.trans (congrArg some (by kernel_rfl))
 f285:=Tryz.func188.trans (congrArg some (by kernel_rfl))
 f286:=Tryz.func189.trans (congrArg some (by kernel_rfl))
 f317:=Tryz.func211.trans (congrArg some (by kernel_rfl))
 f318:=Tryz.func212.trans (congrArg some (by kernel_rfl))
 f319:=Tryz.func213.trans (congrArg some (by kernel_rfl))
 f320:=Tryz.func214.trans (congrArg some (by kernel_rfl))
 f337:=Tryz.func224.trans (congrArg some (by kernel_rfl))
 f338:=Tryz.func225.trans (congrArg some (by kernel_rfl))
 t0:=Tryz.underlying0
 a0:=Tryz.isAgg0
 z0:=Tryz.sizeOf0
 v0:=Tryz.zeroValue0
 t2:=Tryz.underlying2
 a2:=Tryz.isAgg2
 z2:=Tryz.sizeOf2
 v2:=Tryz.zeroValue2
 t3:=Tryz.underlying3
 a3:=Tryz.isAgg3
 z3:=Tryz.sizeOf3
 v3:=Tryz.zeroValue3
 t4:=Tryz.underlying4
 a4:=Tryz.isAgg4
 z4:=Tryz.sizeOf4
 v4:=Tryz.zeroValue4
 t5:=Tryz.underlying5
 a5:=Tryz.isAgg5
 z5:=Tryz.sizeOf5
 v5:=Tryz.zeroValue5
 t9:=Tryz.underlying9
 a9:=Tryz.isAgg9
 z9:=Tryz.sizeOf9
 v9:=Tryz.zeroValue9
 t20:=Tryz.underlying20
 a20:=Tryz.isAgg20
 z20:=Tryz.sizeOf20
 v20:=Tryz.zeroValue20
 t37:=Tryz.underlying111
 a37:=Tryz.isAgg111
 z37:=Tryz.sizeOf111
 v37:=Tryz.zeroValue111
 t46:=Tryz.underlying194
 a46:=Tryz.isAgg194
 z46:=Tryz.sizeOf194
 v46:=Tryz.zeroValue194
 t51:=Tryz.underlying240
 a51:=Tryz.isAgg240
 z51:=Tryz.sizeOf240
 v51:=Tryz.zeroValue240
 t53:=Tryz.underlying235
 a53:=Tryz.isAgg235
 z53:=Tryz.sizeOf235
 v53:=Tryz.zeroValue235
 t171:=Tryz.underlying234
 a171:=Tryz.isAgg234
 z171:=Tryz.sizeOf234
 v171:=Tryz.zeroValue234
 t173:=Tryz.underlying238
 a173:=Tryz.isAgg238
 z173:=Tryz.sizeOf238
 v173:=Tryz.zeroValue238
 t212:=Tryz.underlying266
 a212:=Tryz.isAgg266
 z212:=Tryz.sizeOf266
 v212:=Tryz.zeroValue266
 t213:=Tryz.underlying267
 a213:=Tryz.isAgg267
 z213:=Tryz.sizeOf267
 t232:=Tryz.underlying288
 a232:=Tryz.isAgg288
 z232:=Tryz.sizeOf288
 v232:=Tryz.zeroValue288
 t233:=Tryz.underlying289
 a233:=Tryz.isAgg289
 z233:=Tryz.sizeOf289
 v233:=Tryz.zeroValue289
 g17:=by kernel_rfl
 g18:=by kernel_rfl
 g19:=by kernel_rfl
 i0:=by kernel_rfl
 i2:=by kernel_rfl
 i3:=by kernel_rfl
 i4:=by kernel_rfl
 i5:=by kernel_rfl
 i9:=by kernel_rfl
 i20:=by kernel_rfl
 i37:=by kernel_rfl
 i46:=by kernel_rfl
 i51:=by kernel_rfl
 i53:=by kernel_rfl
 i171:=by kernel_rfl
 i173:=by kernel_rfl
 i212:=by kernel_rfl
 i232:=by kernel_rfl
 i233:=by kernel_rfl
 m17:=by kernel_rfl
 m18:=by kernel_rfl
 m19:=by kernel_rfl}
open Go.RowKit Go.Sort Go.Lib in
theorem Tryz.strconv_Itoa(n:Int)(h0: -9223372036854775808≤n)(h1:n≤9223372036854775807)(w:World)(htab:Lib.TabIs Tryz.prog w "internal/strconv.uint64pow10" .u64 Lib.pow10Tab):
 Calls Tryz.prog 103 #[.int .i64 n] w fun e w'=>e= .returned (.string ⟨(Lib.itoa n).toArray⟩)∧∃k os,w'=grow (w.drewN k) os:=Any.strconv_Itoa Tryz.laysM171 n h0 h1 w htab
def Tryz.laysC172_ren:Go.Shelf.Ren:=⟨fun|172=>116|244=>152|245=>153|247=>176|279=>177|280=>178|281=>179|282=>180|287=>202|316=>203|171=>103|205=>204|321=>220|322=>221|243=>140|246=>168|283=>186|284=>187|285=>188|286=>189|129=>201|317=>211|318=>212|319=>213|320=>214|337=>224|338=>225|n=>n,fun|9=>9|3=>3|75=>168|76=>169|4=>4|5=>5|167=>222|37=>111|0=>0|85=>223|2=>2|168=>225|53=>235|175=>255|46=>194|210=>258|127=>217|145=>277|143=>275|21=>21|171=>234|173=>238|212=>266|51=>240|20=>20|213=>267|232=>288|233=>289|80=>189|n=>n,fun|15=>2|16=>3|17=>4|18=>7|19=>8|n=>n⟩
theorem Tryz.laysC172:Go.Proofs.LaysC.n172 Tryz.prog Tryz.laysC172_ren:={
 mixed:=by kernel_rfl
 f129:=Tryz.func201.trans (congrArg some (by kernel_rfl))
 f171:=Tryz.func103.trans (congrArg some (by kernel_rfl))
 f172:=Tryz.func116.trans (congrArg some (by kernel_rfl))
 f205:=Tryz.func204.trans (congrArg some (by kernel_rfl))
 f243:=Tryz.func140.trans (congrArg some (by kernel_rfl))
 f244:=Tryz.func152.trans (congrArg some (by kernel_rfl))
 f245:=Tryz.func153.trans (congrArg some (by kernel_rfl))
 f246:=Tryz.func168.trans (congrArg some (by kernel_rfl))
 f247:=Tryz.func176.trans (congrArg some (by kernel_rfl))
 f279:=Tryz.func177.trans (congrArg some (by kernel_rfl))
 f280:=Tryz.func178.trans (congrArg some (by kernel_rfl))
 f281:=Tryz.func179.trans (congrArg some (by kernel_rfl))
 f282:=Tryz.func180.trans (congrArg some (by kernel_rfl))
 f283:=Tryz.func186.trans (congrArg some (by kernel_rfl))
 f284:=Tryz.func187.trans (congrArg some (by kernel_rfl))
 f285:=Tryz.func188.trans (congrArg some (by kernel_rfl))
 f286:=Tryz.func189.trans (congrArg some (by kernel_rfl))
 f287:=Tryz.func202.trans (congrArg some (by kernel_rfl))
 f316:=Tryz.func203.trans (congrArg some (by kernel_rfl))
 f317:=Tryz.func211.trans (congrArg some (by kernel_rfl))
 f318:=Tryz.func212.trans (congrArg some (by kernel_rfl))
 f319:=Tryz.func213.trans (congrArg some (by kernel_rfl))
 f320:=Tryz.func214.trans (congrArg some (by kernel_rfl))
 f321:=Tryz.func220.trans (congrArg some (by kernel_rfl))
 f322:=Tryz.func221.trans (congrArg some (by kernel_rfl))
 f337:=Tryz.func224.trans (congrArg some (by kernel_rfl))
 f338:=Tryz.func225.trans (congrArg some (by kernel_rfl))
 t0:=Tryz.underlying0
 a0:=Tryz.isAgg0
 z0:=Tryz.sizeOf0
 v0:=Tryz.zeroValue0
 t2:=Tryz.underlying2
 a2:=Tryz.isAgg2
 z2:=Tryz.sizeOf2
 v2:=Tryz.zeroValue2
 t3:=Tryz.underlying3
 a3:=Tryz.isAgg3
 z3:=Tryz.sizeOf3
 v3:=Tryz.zeroValue3
 t4:=Tryz.underlying4
 a4:=Tryz.isAgg4
 z4:=Tryz.sizeOf4
 v4:=Tryz.zeroValue4
 t5:=Tryz.underlying5
 a5:=Tryz.isAgg5
 z5:=Tryz.sizeOf5
 v5:=Tryz.zeroValue5
 t9:=Tryz.underlying9
 a9:=Tryz.isAgg9
 z9:=Tryz.sizeOf9
 v9:=Tryz.zeroValue9
 t20:=Tryz.underlying20
 a20:=Tryz.isAgg20
 z20:=Tryz.sizeOf20
 v20:=Tryz.zeroValue20
 t21:=Tryz.underlying21
 a21:=Tryz.isAgg21
 z21:=Tryz.sizeOf21
 v21:=Tryz.zeroValue21
 t37:=Tryz.underlying111
 a37:=Tryz.isAgg111
 z37:=Tryz.sizeOf111
 v37:=Tryz.zeroValue111
 t46:=Tryz.underlying194
 a46:=Tryz.isAgg194
 z46:=Tryz.sizeOf194
 v46:=Tryz.zeroValue194
 t51:=Tryz.underlying240
 a51:=Tryz.isAgg240
 z51:=Tryz.sizeOf240
 v51:=Tryz.zeroValue240
 t53:=Tryz.underlying235
 a53:=Tryz.isAgg235
 z53:=Tryz.sizeOf235
 v53:=Tryz.zeroValue235
 t75:=Tryz.underlying168
 a75:=Tryz.isAgg168
 z75:=Tryz.sizeOf168
 v75:=Tryz.zeroValue168
 t76:=Tryz.underlying169
 a76:=Tryz.isAgg169
 z76:=Tryz.sizeOf169
 v76:=Tryz.zeroValue169
 t85:=Tryz.underlying223
 a85:=Tryz.isAgg223
 z85:=Tryz.sizeOf223
 v85:=Tryz.zeroValue223
 t127:=Tryz.underlying217
 a127:=Tryz.isAgg217
 z127:=Tryz.sizeOf217
 v127:=Tryz.zeroValue217
 t143:=Tryz.underlying275
 a143:=Tryz.isAgg275
 z143:=Tryz.sizeOf275
 v143:=Tryz.zeroValue275
 t145:=Tryz.underlying277
 a145:=Tryz.isAgg277
 z145:=Tryz.sizeOf277
 v145:=Tryz.zeroValue277
 t167:=Tryz.underlying222
 a167:=Tryz.isAgg222
 z167:=Tryz.sizeOf222
 v167:=Tryz.zeroValue222
 t168:=Tryz.underlying225
 a168:=Tryz.isAgg225
 z168:=Tryz.sizeOf225
 v168:=Tryz.zeroValue225
 t171:=Tryz.underlying234
 a171:=Tryz.isAgg234
 z171:=Tryz.sizeOf234
 v171:=Tryz.zeroValue234
 t173:=Tryz.underlying238
 a173:=Tryz.isAgg238
 z173:=Tryz.sizeOf238
 v173:=Tryz.zeroValue238
 t175:=Tryz.underlying255
 a175:=Tryz.isAgg255
 z175:=Tryz.sizeOf255
 v175:=Tryz.zeroValue255
 t210:=Tryz.underlying258
 a210:=Tryz.isAgg258
 z210:=Tryz.sizeOf258
 v210:=Tryz.zeroValue258
 t212:=Tryz.underlying266
 a212:=Tryz.isAgg266
 z212:=Tryz.sizeOf266
 v212:=Tryz.zeroValue266
 t213:=Tryz.underlying267
 a213:=Tryz.isAgg267
 z213:=Tryz.sizeOf267
 t232:=Tryz.underlying288
 a232:=Tryz.isAgg288
 z232:=Tryz.sizeOf288
 v232:=Tryz.zeroValue288
 t233:=Tryz.underlying289
 a233:=Tryz.isAgg289
 z233:=Tryz.sizeOf289
 v233:=Tryz.zeroValue289
 g15:=by kernel_rfl
 g16:=by kernel_rfl
 g17:=by kernel_rfl
 g18:=by kernel_rfl
 g19:=by kernel_rfl
 t80:=Tryz.underlying189
 a80:=Tryz.isAgg189
 z80:=Tryz.sizeOf189
 v80:=Tryz.zeroValue189
 i0:=by kernel_rfl
 i2:=by kernel_rfl
 i3:=by kernel_rfl
 i4:=by kernel_rfl
 i5:=by kernel_rfl
 i9:=by kernel_rfl
 i20:=by kernel_rfl
 i21:=by kernel_rfl
 i37:=by kernel_rfl
 i46:=by kernel_rfl
 i51:=by kernel_rfl
 i53:=by kernel_rfl
 i75:=by kernel_rfl
 i76:=by kernel_rfl
 i80:=by kernel_rfl
 i85:=by kernel_rfl
 i127:=by kernel_rfl
 i143:=by kernel_rfl
 i145:=by kernel_rfl
 i167:=by kernel_rfl
 i168:=by kernel_rfl
 i171:=by kernel_rfl
 i173:=by kernel_rfl
 i175:=by kernel_rfl
 i210:=by kernel_rfl
 i212:=by kernel_rfl
 i232:=by kernel_rfl
 i233:=by kernel_rfl
 m15:=by kernel_rfl
 m16:=by kernel_rfl
 m17:=by kernel_rfl
 m18:=by kernel_rfl
 m19:=by kernel_rfl
 c0:=by kernel_rfl
 c2:=by kernel_rfl
 c3:=by kernel_rfl
 c4:=by kernel_rfl
 c5:=by kernel_rfl
 c9:=by kernel_rfl
 c20:=by kernel_rfl
 c21:=by kernel_rfl
 c37:=by kernel_rfl
 c46:=by kernel_rfl
 c51:=by kernel_rfl
 c53:=by kernel_rfl
 c75:=by kernel_rfl
 c76:=by kernel_rfl
 c80:=by kernel_rfl
 c85:=by kernel_rfl
 c127:=by kernel_rfl
 c143:=by kernel_rfl
 c145:=by kernel_rfl
 c167:=by kernel_rfl
 c168:=by kernel_rfl
 c171:=by kernel_rfl
 c173:=by kernel_rfl
 c175:=by kernel_rfl
 c210:=by kernel_rfl
 c212:=by kernel_rfl
 c213:=by kernel_rfl
 c232:=by kernel_rfl
 c233:=by kernel_rfl}
open Go.RowKit in
theorem Tryz.strconv_Atoi_ok(s:ByteArray)(hmax:s.size≤9223372036854775806)(v:Int)(h:Lib.atoiAll s.data.toList= .ok v)(w:World):
 Calls Tryz.prog 116 #[.string s] w fun e w'=>e= .returned (.tuple #[.int .i64 v,.nilIface])∧(w'=w∨∃t,w'=Lib.bytesWorld w 5 t):=Any.strconv_Atoi_ok Tryz.laysC172 s hmax v h w
open Go.RowKit in
theorem Tryz.strconv_Atoi_syntax(s:ByteArray)(hlim:s.size≤281474976710656)(h:Lib.atoiAll s.data.toList=Lib.NumEnd.syntax)(ev:Value)(w:World)(hv:w.cell? ⟨2,0,none⟩=some ev)(hev:ev= .nilIface∨∃te pe,ev= .iface te pe):
 Calls Tryz.prog 116 #[.string s] w fun e w'=> ∃N,e= .returned (.tuple #[.int .i64 (0),.iface 225 (.pointer (some ⟨N,0,none⟩))])∧w.heap.size≤N∧w'.heap[N]? =some (.cells #[.string ⟨#[65,116,111,105]⟩,.string s,ev] 258 (0,0))∧Below w.heap.size w w':=Any.strconv_Atoi_syntax Tryz.laysC172 s hlim h ev w hv hev
open Go.RowKit in
theorem Tryz.strconv_Atoi_range(s:ByteArray)(hlim:s.size≤281474976710656)(h:Lib.atoiAll s.data.toList= .range)(ev:Value)(w:World)(hv:w.cell? ⟨3,0,none⟩=some ev)(hev:ev= .nilIface∨∃te pe,ev= .iface te pe):
 Calls Tryz.prog 116 #[.string s] w fun e w'=> ∃N,e= .returned (.tuple #[.int .i64 (Lib.atoiSat s.data.toList),.iface 225 (.pointer (some ⟨N,0,none⟩))])∧w.heap.size≤N∧w'.heap[N]? =some (.cells #[.string ⟨#[65,116,111,105]⟩,.string s,ev] 258 (0,0))∧Below w.heap.size w w':=Any.strconv_Atoi_range Tryz.laysC172 s hlim h ev w hv hev
def Tryz.lays197_ren:Go.Shelf.Ren:=⟨fun|197=>181|260=>205|n=>n,fun|9=>9|21=>21|3=>3|4=>4|5=>5|105=>228|119=>242|0=>0|46=>194|139=>245|138=>244|n=>n,fun|3=>0|4=>1|n=>n⟩
theorem Tryz.lays197:Go.Proofs.Lays.n197 Tryz.prog Tryz.lays197_ren:={
 mixed:=by kernel_rfl
 f197:=Tryz.func181.trans (congrArg some (by kernel_rfl))
 f260:=Tryz.func205.trans (congrArg some (by kernel_rfl))
 t0:=Tryz.underlying0
 a0:=Tryz.isAgg0
 z0:=Tryz.sizeOf0
 v0:=Tryz.zeroValue0
 t3:=Tryz.underlying3
 a3:=Tryz.isAgg3
 z3:=Tryz.sizeOf3
 v3:=Tryz.zeroValue3
 t4:=Tryz.underlying4
 a4:=Tryz.isAgg4
 z4:=Tryz.sizeOf4
 v4:=Tryz.zeroValue4
 t5:=Tryz.underlying5
 a5:=Tryz.isAgg5
 z5:=Tryz.sizeOf5
 v5:=Tryz.zeroValue5
 t9:=Tryz.underlying9
 a9:=Tryz.isAgg9
 z9:=Tryz.sizeOf9
 v9:=Tryz.zeroValue9
 t21:=Tryz.underlying21
 a21:=Tryz.isAgg21
 z21:=Tryz.sizeOf21
 v21:=Tryz.zeroValue21
 t46:=Tryz.underlying194
 a46:=Tryz.isAgg194
 z46:=Tryz.sizeOf194
 v46:=Tryz.zeroValue194
 t105:=Tryz.underlying228
 a105:=Tryz.isAgg228
 z105:=Tryz.sizeOf228
 v105:=Tryz.zeroValue228
 t119:=Tryz.underlying242
 a119:=Tryz.isAgg242
 z119:=Tryz.sizeOf242
 t138:=Tryz.underlying244
 a138:=Tryz.isAgg244
 z138:=Tryz.sizeOf244
 v138:=Tryz.zeroValue244
 t139:=Tryz.underlying245
 a139:=Tryz.isAgg245
 z139:=Tryz.sizeOf245
 v139:=Tryz.zeroValue245
 g3:=by kernel_rfl
 g4:=by kernel_rfl}
open Go.RowKit Go.Lib in
theorem Tryz.utf8_DecodeRuneInString(s:ByteArray)(w:World)(hT:Lib.Utf8Tabs 0 1 w):
 Calls Tryz.prog 181 #[.string s] w fun e w'=>e= .returned (.tuple #[.int .i32 (Lib.decodeGo s).1,.int .i64 (Lib.decodeGo s).2])∧Below w.heap.size w w':=Any.utf8_DecodeRuneInString Tryz.lays197 s w hT
def Tryz.laysNm237_ren:Go.Shelf.Ren:=⟨fun|37=>175|n=>n,fun|3=>3|4=>4|n=>n,fun|n=>n⟩
theorem Tryz.laysNm237:Go.Proofs.Lays2.n37 Tryz.prog Tryz.laysNm237_ren:={
 mixed:=by kernel_rfl
 f37:=Tryz.func175.trans (congrArg some (by kernel_rfl))
 t3:=Tryz.underlying3
 a3:=Tryz.isAgg3
 z3:=Tryz.sizeOf3
 v3:=Tryz.zeroValue3
 t4:=Tryz.underlying4
 a4:=Tryz.isAgg4
 z4:=Tryz.sizeOf4
 v4:=Tryz.zeroValue4}
open Go.RowKit Go.Lib in
theorem Tryz.cmp_isNaN_int2(x:Int)(w:World):
 Calls Tryz.prog 175 #[.int .i64 x] w fun e w'=>e= .returned (.bool false)∧w'=w:=Any.cmp_isNaN_int2 Tryz.laysNm237 x w
def Tryz.sortP_ren:Go.Shelf.Ren:=⟨fun|6=>146|15=>173|14=>172|28=>200|29=>201|20=>192|21=>193|22=>194|23=>195|24=>196|25=>197|26=>198|27=>199|46=>215|47=>216|48=>217|49=>218|50=>219|57=>226|n=>n,fun|22=>162|24=>166|25=>208|3=>3|39=>194|0=>0|53=>240|55=>235|4=>4|46=>249|45=>248|50=>130|5=>5|9=>9|66=>268|70=>272|76=>282|77=>283|n=>n,fun|n=>n⟩
theorem Tryz.sortP:Go.Proofs.SlLaysF0.n6 Tryz.prog Tryz.sortP_ren:={
 mixed:=by kernel_rfl
 f6:=⟨Tryz.f146.name,by decide,Tryz.func146.trans (congrArg some (by kernel_rfl))⟩
 f14:=⟨Tryz.f172.name,by decide,Tryz.func172.trans (congrArg some (by kernel_rfl))⟩
 f15:=Tryz.func173.trans (congrArg some (by kernel_rfl))
 f20:=⟨Tryz.f192.name,by decide,Tryz.func192.trans (congrArg some (by kernel_rfl))⟩
 f21:=⟨Tryz.f193.name,by decide,Tryz.func193.trans (congrArg some (by kernel_rfl))⟩
 f22:=⟨Tryz.f194.name,by decide,Tryz.func194.trans (congrArg some (by kernel_rfl))⟩
 f23:=⟨Tryz.f195.name,by decide,Tryz.func195.trans (congrArg some (by kernel_rfl))⟩
 f24:=⟨Tryz.f196.name,by decide,Tryz.func196.trans (congrArg some (by kernel_rfl))⟩
 f25:=⟨Tryz.f197.name,by decide,Tryz.func197.trans (congrArg some (by kernel_rfl))⟩
 f26:=⟨Tryz.f198.name,by decide,Tryz.func198.trans (congrArg some (by kernel_rfl))⟩
 f27:=⟨Tryz.f199.name,by decide,Tryz.func199.trans (congrArg some (by kernel_rfl))⟩
 f28:=Tryz.func200.trans (congrArg some (by kernel_rfl))
 f29:=Tryz.func201.trans (congrArg some (by kernel_rfl))
 f46:=⟨Tryz.f215.name,by decide,Tryz.func215.trans (congrArg some (by kernel_rfl))⟩
 f47:=Tryz.func216.trans (congrArg some (by kernel_rfl))
 f48:=Tryz.func217.trans (congrArg some (by kernel_rfl))
 f49:=⟨Tryz.f218.name,by decide,Tryz.func218.trans (congrArg some (by kernel_rfl))⟩
 f50:=⟨Tryz.f219.name,by decide,Tryz.func219.trans (congrArg some (by kernel_rfl))⟩
 f57:=⟨Tryz.f226.name,by decide,Tryz.func226.trans (congrArg some (by kernel_rfl))⟩
 t0:=Tryz.underlying0
 a0:=Tryz.isAgg0
 z0:=Tryz.sizeOf0
 v0:=Tryz.zeroValue0
 t3:=Tryz.underlying3
 a3:=Tryz.isAgg3
 z3:=Tryz.sizeOf3
 v3:=Tryz.zeroValue3
 t4:=Tryz.underlying4
 a4:=Tryz.isAgg4
 z4:=Tryz.sizeOf4
 v4:=Tryz.zeroValue4
 t5:=Tryz.underlying5
 a5:=Tryz.isAgg5
 z5:=Tryz.sizeOf5
 v5:=Tryz.zeroValue5
 t9:=Tryz.underlying9
 a9:=Tryz.isAgg9
 z9:=Tryz.sizeOf9
 v9:=Tryz.zeroValue9
 t22:=Tryz.underlying162
 a22:=Tryz.isAgg162
 z22:=Tryz.sizeOf162
 v22:=Tryz.zeroValue162
 t25:=Tryz.underlying208
 a25:=Tryz.isAgg208
 z25:=Tryz.sizeOf208
 v25:=Tryz.zeroValue208
 t39:=Tryz.underlying194
 a39:=Tryz.isAgg194
 z39:=Tryz.sizeOf194
 v39:=Tryz.zeroValue194
 t45:=Tryz.underlying248
 a45:=Tryz.isAgg248
 z45:=Tryz.sizeOf248
 v45:=Tryz.zeroValue248
 t46:=Tryz.underlying249
 a46:=Tryz.isAgg249
 z46:=Tryz.sizeOf249
 v46:=Tryz.zeroValue249
 t50:=Tryz.underlying130
 a50:=Tryz.isAgg130
 z50:=Tryz.sizeOf130
 v50:=Tryz.zeroValue130
 t53:=Tryz.underlying240
 a53:=Tryz.isAgg240
 z53:=Tryz.sizeOf240
 v53:=Tryz.zeroValue240
 t55:=Tryz.underlying235
 a55:=Tryz.isAgg235
 z55:=Tryz.sizeOf235
 v55:=Tryz.zeroValue235
 t66:=Tryz.underlying268
 a66:=Tryz.isAgg268
 z66:=Tryz.sizeOf268
 v66:=Tryz.zeroValue268
 t70:=Tryz.underlying272
 a70:=Tryz.isAgg272
 z70:=Tryz.sizeOf272
 v70:=Tryz.zeroValue272
 t76:=Tryz.underlying282
 a76:=Tryz.isAgg282
 z76:=Tryz.sizeOf282
 v76:=Tryz.zeroValue282
 t77:=Tryz.underlying283
 a77:=Tryz.isAgg283
 z77:=Tryz.sizeOf283
 v77:=Tryz.zeroValue283}
end Go.Proofs
end
section
namespace Go.Ab
open Go Go.Proofs Go.RowKit Go.Shelf Go.Lib Go.Sort
open Go.Ch
set_option linter.unusedVariables false
set_option linter.unusedSimpArgs false
set_option maxHeartbeats 4000000 in
theorem compare_w(x y:Int)(W:World):Calls Tryz.prog 150 #[.int .i64 x,.int .i64 y] W fun e w'=>e= .returned (.int .i64 (cmpI x y))∧w'=W:=by
 have hcon:=fun z W'=>Tryz.cmp_isNaN_int2 z W'
 unfold cmpI
 by_cases h1:x<y
 ·rw[if_pos h1]
  go_enter Tryz.func150,Tryz.ntmps150
  go_wp2_with (go_at_call 175;refine(hcon _ _).mono ?_;rintro e w' ⟨rfl,rfl⟩)
  go_ret
  exact⟨rfl,rfl⟩
 ·rw[if_neg h1]
  by_cases h2:x>y
  ·rw[if_pos h2]
   go_enter Tryz.func150,Tryz.ntmps150
   go_wp2_with (go_at_call 175;refine(hcon _ _).mono ?_;rintro e w' ⟨rfl,rfl⟩)
   go_ret
   exact⟨rfl,rfl⟩
  ·rw[if_neg h2]
   go_enter Tryz.func150,Tryz.ntmps150
   go_wp2_with (go_at_call 175;refine(hcon _ _).mono ?_;rintro e w' ⟨rfl,rfl⟩)
   go_ret
   exact⟨rfl,rfl⟩
set_option maxHeartbeats 8000000 in
theorem or_w(u v:Int)(B cap:Nat)(W:World)(h0:W.cell? ⟨B,0,none⟩=some (.int .i64 u))(h1:W.cell? ⟨B,1,none⟩=some (.int .i64 v)):
 Calls Tryz.prog 148 #[.slice (some ⟨B,0,none⟩) 2 cap] W fun e w'=>e= .returned (.int .i64 (Go.Ch.orL [u,v]))∧w'=W:=by
 by_cases hu:u=0
 ·by_cases hv:v=0
  ·subst hu hv
   go_enter Tryz.func148,Tryz.ntmps148
   go_wp2
   go_rounds 3
   go_ret
   exact⟨rfl,rfl⟩
  ·subst hu
   have e:Go.Ch.orL [0,v]=v:=by simp[Go.Ch.orL,hv]
   rw[e]
   clear e
   go_enter Tryz.func148,Tryz.ntmps148
   go_wp2
   go_rounds 3
   go_ret
   exact⟨rfl,rfl⟩
 ·have e:Go.Ch.orL [u,v]=u:=by simp[Go.Ch.orL,hu]
  rw[e]
  clear e
  go_enter Tryz.func148,Tryz.ntmps148
  go_wp2
  go_rounds 3
  go_ret
  exact⟨rfl,rfl⟩
theorem alloc_cell(W:World)(c:Array Value)(t:TypeId)(o:Nat):(W.alloc (.cells c t)).cell? ⟨W.heap.size,o,none⟩=c[o]? :=by
 have h:(W.alloc (.cells c t)).heap[W.heap.size]? =some (.cells c t):=by(rw[alloc_eq_grow];show(W.heap++#[.cells c t])[W.heap.size]? =_;simp)
 unfold World.cell?
 simp only[h]
 rfl
def cmpS(x y:ByteArray):Int:=if Op.bytesLess x.toList y.toList=true then-1 else if(x.toList==y.toList)=true then 0 else 1
theorem isNaN_w(x:ByteArray)(W:World):Calls Tryz.prog 174 #[.string x] W fun e w'=>e= .returned (.bool false)∧w'=W:=by
 go_enter Tryz.func174,Tryz.ntmps174
 go_wp2
 go_ret
 exact⟨by simp,rfl⟩
set_option maxHeartbeats 4000000 in
theorem compareS_w(x y:ByteArray)(W:World):Calls Tryz.prog 149 #[.string x,.string y] W fun e w'=>e= .returned (.int .i64 (cmpS x y))∧w'=W:=by
 have hcon:=fun z W'=>isNaN_w z W'
 unfold cmpS
 cases h1:Op.bytesLess x.toList y.toList with
 |true=>
  rw[if_pos rfl]
  go_enter Tryz.func149,Tryz.ntmps149
  go_wp2_with (go_at_call 174;refine(hcon _ _).mono ?_;rintro e w' ⟨rfl,rfl⟩)
  go_ret
  exact⟨rfl,rfl⟩
 |false=>
  rw[if_neg (by decide)]
  cases h2:(x.toList==y.toList) with
  |true=>
   rw[if_pos rfl]
   go_enter Tryz.func149,Tryz.ntmps149
   go_wp2_with (go_at_call 174;refine(hcon _ _).mono ?_;rintro e w' ⟨rfl,rfl⟩)
   go_ret
   exact⟨rfl,rfl⟩
  |false=>
   rw[if_neg (by decide)]
   go_enter Tryz.func149,Tryz.ntmps149
   go_wp2_with (go_at_call 174;refine(hcon _ _).mono ?_;rintro e w' ⟨rfl,rfl⟩)
   go_ret
   exact⟨rfl,rfl⟩
abbrev CIt:=DItem×{v:Value//v.oneCell'=true}
def encD(p:CIt):List Value:=[.int .i64 p.1.item,.int .i64 p.1.parent,.string p.1.place,p.2.1]
def cmpP(a b:DItem):Int:=Go.Ch.orL [cmpS a.place b.place,cmpI a.item b.item]
def cmpN(a b:DItem):Int:=cmpI a.item b.item
set_option maxRecDepth 1000000 in
set_option maxHeartbeats 8000000 in
theorem raw1_w(x y:CIt)(W:World):Calls Tryz.prog 147 #[.agg (encD x).toArray,.agg (encD y).toArray] W fun e w'=>e= .returned (.int .i64 (cmpP x.1 y.1))∧∃q os',w'=grow (W.drewN q) os':=by
 have hcmp:=fun a b W'=>compare_w a b W'
 have hcms:=fun a b W'=>compareS_w a b W'
 obtain⟨x,vx,hvx⟩:=x
 obtain⟨y,vy,hvy⟩:=y
 unfold encD cmpP
 simp only
 generalize x.item=x1
 generalize x.parent=x2
 generalize x.place=x3
 generalize y.item=y1
 generalize y.parent=y2
 generalize y.place=y3
 go_enter Tryz.func147,Tryz.ntmps147
 go_wp2
 obtain⟨OA,hA⟩:∃o,Obj.cells #[Value.int .i64 x1,.int .i64 x2,.string x3,vx] 166=o:=⟨_,rfl⟩
 obtain⟨OB,hB⟩:∃o,Obj.cells #[Value.int .i64 y1,.int .i64 y2,.string y3,vy] 166=o:=⟨_,rfl⟩
 rw[hA,hB]
 refine wp_region_still_tail 10 (by kernel_rfl) (by kernel_rfl) ?_
 obtain⟨W3,hW3⟩:∃V,((W.alloc OA).alloc OB).drew=V:=⟨_,rfl⟩
 have hg:W3=grow (W.drewN 1) #[OA,OB]:=by rw[←hW3,alloc_eq_grow,alloc_eq_grow,grow_grow];rfl
 have p1:W3.heap[W.heap.size]? =some OA:=by rw[hg];show(W.heap++#[OA,OB])[W.heap.size]? =_;simp
 have p2:W3.heap[W.heap.size+1]? =some OB:=by rw[hg];show(W.heap++#[OA,OB])[W.heap.size+1]? =_;simp
 have c1:W3.cell? ⟨W.heap.size,0,none⟩=some (.int .i64 x1):=by unfold World.cell?;simp only[p1];rw[←hA];rfl
 have c2:W3.cell? ⟨W.heap.size,2,none⟩=some (.string x3):=by unfold World.cell?;simp only[p1];rw[←hA];rfl
 have c3:W3.cell? ⟨W.heap.size+1,0,none⟩=some (.int .i64 y1):=by unfold World.cell?;simp only[p2];rw[←hB];rfl
 have c4:W3.cell? ⟨W.heap.size+1,2,none⟩=some (.string y3):=by unfold World.cell?;simp only[p2];rw[←hB];rfl
 clear p1 p2
 have hx:∃q os,W3=grow (W.drewN q) os:=⟨1,_,hg⟩
 clear hg
 change wpStill _ _ ((W.alloc OA).alloc OB).drew (fun a'=>wpList _ _ _ _ a' ((W.alloc OA).alloc OB).drew) _ _
 rw[hW3]
 clear hW3 hA hB
 simp only[List.take_succ_cons,List.take_zero,List.drop_succ_cons,List.drop_zero]
 repeat still_step
 still_call (hcms _ _ _)
 repeat still_step
 still_call (hcmp _ _ _)
 refine wpStill_nil ?_
 have hor:∀u v:Int,Calls Tryz.prog 148 #[.slice (some ⟨W3.heap.size,0,none⟩) 2 2] (W3.alloc (.cells #[.int .i64 u,.int .i64 v] 3)) fun e w'=>e= .returned (.int .i64 (Go.Ch.orL [u,v]))∧w'=W3.alloc (.cells #[.int .i64 u,.int .i64 v] 3):=fun u v=>
  or_w u v _ _ _ (alloc_cell _ _ _ 0) (alloc_cell _ _ _ 1)
 clear hcmp hcms c1 c2 c3 c4
 go_wp2_with (go_at_call 148;refine(hor _ _).mono ?_;rintro e w' ⟨rfl,rfl⟩)
 clear hor
 go_ret
 obtain⟨q,os,rfl⟩:=hx
 exact⟨rfl,q,_,by rw[alloc_eq_grow,grow_grow]⟩
set_option maxRecDepth 1000000 in
set_option maxHeartbeats 8000000 in
theorem raw3_w(x y:CIt)(W:World):Calls Tryz.prog 151 #[.agg (encD x).toArray,.agg (encD y).toArray] W fun e w'=>e= .returned (.int .i64 (cmpN x.1 y.1))∧∃q os',w'=grow (W.drewN q) os':=by
 have hcmp:=fun a b W'=>compare_w a b W'
 obtain⟨x,vx,hvx⟩:=x
 obtain⟨y,vy,hvy⟩:=y
 unfold encD cmpN
 simp only
 generalize x.item=x1
 generalize x.parent=x2
 generalize x.place=x3
 generalize y.item=y1
 generalize y.parent=y2
 generalize y.place=y3
 go_enter Tryz.func151,Tryz.ntmps151
 go_wp2_with (go_at_call 150;refine(hcmp _ _ _).mono ?_;rintro e w' ⟨rfl,rfl⟩)
 go_ret
 exact⟨rfl,0,#[_,_],by rw[alloc_eq_grow,alloc_eq_grow,grow_grow];rfl⟩
end Go.Ab
end
section
set_option linter.unusedVariables false
set_option linter.unusedSimpArgs false
namespace Go.Ch
open Go Go.Proofs Go.Ab Go.RowKit Go.Shelf Go.Sort
theorem grow_obj{P:Program}{F:Fen P}{S:Store}{m:Ab.Place}{w:World}(hS:SRel F S m w)(os:Array Obj):SRel F S m (grow w os)∧FrameExt F S m w S m (grow w os):=by
 have hg:∀b,b<w.heap.size→(grow w os).heap[b]? =w.heap[b]? :=fun b hb=>by
  show(w.heap++os)[b]? =_
  rw[Array.getElem?_append_left hb]
 have hF:FrameExt F S m w S m (grow w os):=⟨rfl,rfl,rfl,by show w.heap.size≤(w.heap++os).size;simp,fun b hb _=>hg b hb,fun id o h=>⟨o,h,Nat.le_refl _,fun _=>rfl,fun h=>h,fun _ q=> .inl q,o.same_refl⟩,fun id o h hn=>by rw[h] at hn;cases hn⟩
 exact⟨⟨fun id o h=>(hS.objs id o h).persist hF (fun b hb=>hg b (hS.lt id o b h hb)),hS.inj,hS.avoid,fun id o b h hb=>Nat.lt_of_lt_of_le (hS.lt id o b h hb) hF.size,fun b hb=>Nat.lt_of_lt_of_le (hS.low b hb) hF.size,hS.held hF⟩,hF⟩
theorem upd_app(o o':Ob):upd (app emp [(0,o)]) 0 o'=app emp [(0,o')]:=by
 funext i
 by_cases e:i=0
 ·subst e;rfl
 ·rw[upd_ne e]
  show upd emp 0 o i=upd emp 0 o' i
  rw[upd_ne e,upd_ne e]
theorem mapB_at{w:World}{b:Nat}{c:Array Value}{e:TypeId}{fr:Nat×Nat}(f:Array Value→Array Value)(h:w.heap[b]? =some (.cells c e fr)):(mapBlock w b f).heap[b]? =some (.cells (f c) e fr):=by
 unfold mapBlock
 simp only[Array.getElem?_modify,if_true,h]
 rfl
theorem mapB_ne{w:World}{b x:Nat}(f:Array Value→Array Value)(h:x≠b):(mapBlock w b f).heap[x]? =w.heap[x]? :=by
 unfold mapBlock
 simp only[Array.getElem?_modify]
 rw[if_neg (fun e=>h e.symm)]
theorem perm_strict{α:Type}{R:α→α→Prop}(asym:∀a b,R a b→¬R b a):∀{l l':List α},l.Perm l'→l.Pairwise R→l'.Pairwise R→l=l'
 | [],l',h,_,_=>(List.nil_perm.1 h).symm
 |a::l,[],h,_,_=>by simp at h
 |a::l,b::l',h,h1,h2=>by
  have e:a=b:=by
   have ha:a∈b::l':=h.subset List.mem_cons_self
   have hb:b∈a::l:=h.symm.subset List.mem_cons_self
   rcases List.mem_cons.1 ha with e|ha
   ·exact e
   ·rcases List.mem_cons.1 hb with e|hb
    ·exact e.symm
    ·exact absurd ((List.pairwise_cons.1 h1).1 b hb) (asym _ _ ((List.pairwise_cons.1 h2).1 a ha))
  subst e
  rw[perm_strict asym (List.Perm.cons_inv h) (List.pairwise_cons.1 h1).2 (List.pairwise_cons.1 h2).2]
end Go.Ch
end
