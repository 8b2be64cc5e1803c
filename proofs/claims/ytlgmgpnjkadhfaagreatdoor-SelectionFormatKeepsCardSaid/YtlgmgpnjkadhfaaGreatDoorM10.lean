/- Units whose names come of one list: they stay so under joining and rebasing. -/
import Derived.Test.YtlgmgpnjkadhfaaGreatDoorM1
import Derived.Test.YtlgmgpnjkadhfaaGreatDoorM2
import Derived.Test.YtlgmgpnjkadhfaaGreatDoorM3
import Derived.Test.YtlgmgpnjkadhfaaGreatDoorM4
import Derived.Test.YtlgmgpnjkadhfaaGreatDoorM5
import Derived.Test.YtlgmgpnjkadhfaaGreatDoorM6
import Derived.Test.YtlgmgpnjkadhfaaGreatDoorM7
import Derived.Test.YtlgmgpnjkadhfaaGreatDoorM8
import Derived.Test.YtlgmgpnjkadhfaaGreatDoorM9
section
set_option linter.unusedVariables false
set_option linter.unusedSimpArgs false
namespace Go.Ch
open Go Go.Ab
structure US where
 nm:List ByteArray
 no:List ByteArray
instance:Membership ByteArray US:=⟨fun U s=>s∈U.nm⟩
def US.length(U:US):Nat:=U.nm.length
def NU(U:US)(s:ByteArray):Prop:=NPg s∧s∈U
def VW(U:US)(s:ByteArray):Prop:=VPg s∧s∉U.no
def VU(U:US)(e:Bool)(l:List Attr):Prop:=V (NU U) (VW U) e l
variable {U:US}
theorem nu_mt:¬NU U mt:=fun h=>np_mt h.1
theorem VU.g{e:Bool}{l:List Attr}(h:VU U e l):VG e l:=⟨h.1,fun a ha=>⟨(h.2 a ha).1.1,Or.imp (fun q:VW U a.val=>q.1) (fun q=>q) (h.2 a ha).2⟩⟩
theorem VU.nil{e:Bool}:VU U e []:=⟨z54.1,fun a h=>by cases h⟩
theorem VU.sub{e:Bool}{l:List Attr}(h:VU U false l):VU U e l:=⟨h.1,fun a ha=>⟨(h.2 a ha).1,.inl ((h.2 a ha).2.resolve_right (fun q=>by cases q.1))⟩⟩
theorem y1E:∀{l:List Attr} {U:List ByteArray},z2f l→(∀a∈l,a.name∈U)→l.length≤U.length
 | [],U,_,_=>Nat.zero_le _
 |a::l,U,hs,hu=>by
  have:=y1E (l:=l) (U:=U.filter fun s=> !(seq s a.name)) hs.2 (fun b hb=>by
   have h1:=hs.1 b hb
   rw[List.mem_filter]
   exact⟨hu b (by simp[hb]),by rw[z05.2 (Ne.symm (z1Q h1))];rfl⟩)
  have h2:=(List.length_filter_lt_length_iff_exists (l:=U) (p:=fun s=> !(seq s a.name))).2 ⟨a.name,hu a (by simp),by rw[z0x.2 rfl];decide⟩
  simp only[List.length_cons];omega
theorem VU.len{e:Bool}{l:List Attr}(h:VU U e l)(hU:U.length≤100):l.length≤100:=Nat.le_trans (y1E h.1 (fun a ha=>(h.2 a ha).1.2)) hU
def RU(U:US)(x:Elem):Prop:=elemE x=0∧VU U false x.attrs
def UU(U:US):DU→Prop
 | .K c=>VU U true c
 | .A e=>RU U e
 | .C=>True
theorem y50{x:Elem}{l:List Attr}(h:elemE x=0)(hl:VG false l):elemE ⟨x.char,x.ref,l⟩=0:=by
 unfold elemE at h⊢
 split at h
 ·cases h
 ·rename_i h1
  split at h
  ·cases h
  ·rename_i h2
   rw[if_neg h1,if_neg h2];exact z0Q.2 hl
theorem RU.chg{x:Elem}{c:List Attr}(h:RU U x)(hc:VU U true c):RU U (chgE c x):=by
 have:=raw_V nu_mt h.2 hc
 exact⟨y50 h.1 (VU.g this),this⟩
theorem UU.s(hU:U.length≤100){u:DU}(h:UU U u):UnitS u:=by
 cases u with
 |K c=>exact⟨VU.g h,VU.len h hU⟩
 |A e=>exact⟨h.1,VU.len h.2 hU⟩
 |C=>trivial
theorem all_cons{α:Type}{P:α→Prop}{x:α}{l:List α}(h:P x)(k:∀u∈l,P u):∀u∈x::l,P u:=fun u hu=>by
 rcases List.mem_cons.1 hu with rfl|hu
 ·exact h
 ·exact k u hu
theorem z0v{α:Type}{P:α→Prop}{x:α}{l:List α}(h:∀u∈x::l,P u):∀u∈l,P u:=fun u hu=>h u (List.mem_cons_of_mem _ hu)
theorem y2v(p q:List DU)(hp:∀u∈p,UU U u)(hq:∀u∈q,UU U u):∀u∈z0m p q,UU U u:=by
 induction p,q using z0m.induct with
 |case1 q p ih=>rw[z0m];exact all_cons trivial (ih (z0v hp) hq)
 |case2 p e q hne ih=>
  rw[z0m]
  rotate_left
  ·exact hne
  exact all_cons (hq (.A e) (by simp)) (ih hp (z0v hq))
 |case3 c p d q ih=>rw[z0m];exact all_cons (bot_V nu_mt (hp (.K c) (by simp)) (hq (.K d) (by simp))) (ih (z0v hp) (z0v hq))
 |case4 c p q ih=>rw[z0m];exact all_cons trivial (ih (z0v hp) (z0v hq))
 |case5 e p d q ih=>rw[z0m];exact all_cons (RU.chg (hp (.A e) (by simp)) (hq (.K d) (by simp))) (ih (z0v hp) (z0v hq))
 |case6 e p q ih=>rw[z0m];exact ih (z0v hp) (z0v hq)
 |case7 p hne=>rw[show z0m p []=p by unfold z0m;split<;>simp_all];exact hp
 |case8 q h1 h2=>rw[show z0m [] q=[] by unfold z0m;split<;>simp_all];intro u hu;cases hu
def addN:List DU→Nat
 | []=>0
 | .A _::us=>addN us+1
 |_::us=>addN us
theorem y2w(p q:List DU)(hp:∀u∈p,UU U u)(hq:∀u∈q,UU U u):∀u∈(z0f p q).1,UU U u:=by
 have h0:UU U (.K []):=VU.nil
 induction p,q using z0f.induct with
 |case1 e p q ih=>rw[z0f];exact all_cons (hp (.A e) (by simp)) (ih (z0v hp) hq)
 |case2 e q ih=>rw[z0f];exact all_cons h0 (ih hp (z0v hq))
 |case3 c p e q ih=>rw[z0f];exact all_cons h0 (ih hp (z0v hq))
 |case4 p e q ih=>rw[z0f];exact all_cons h0 (ih hp (z0v hq))
 |case5 c p d q ih=>rw[z0f];exact all_cons (wio_V nu_mt (hp (.K c) (by simp)) (hq (.K d) (by simp))) (ih (z0v hp) (z0v hq))
 |case6 c p q ih=>rw[z0f];exact ih (z0v hp) (z0v hq)
 |case7 p d q ih=>rw[z0f];exact all_cons trivial (ih (z0v hp) (z0v hq))
 |case8 p q ih=>rw[z0f];exact ih (z0v hp) (z0v hq)
 |case9 p hne=>rw[show z0f p []=([],[]) by unfold z0f;split<;>simp_all];intro u hu;cases hu
 |case10 q h1 h2=>rw[show z0f [] q=([],[]) by unfold z0f;split<;>simp_all];intro u hu;cases hu
theorem y2x(p q:List DU):newN (z0f p q).1≤newN q+addN p:=by
 induction p,q using z0f.induct with
 |case9 p hne=>rw[show z0f p []=([],[]) by unfold z0f;split<;>simp_all];simp[newN]
 |case10 q h1 h2=>rw[show z0f [] q=([],[]) by unfold z0f;split<;>simp_all];simp[newN]
 |_=>rw[z0f];simp only[newN,addN] at*;omega
theorem z1W:∀(us:List DU) (f:List Elem),(∀u∈us,UU U u)→(∀x∈f,RU U x)→∀x∈z0j us f,RU U x
 | [],f,_,_=>fun x h=>by cases h
 | .A e::us,f,hu,hf=>by rw[z0j];exact all_cons (hu (.A e) (by simp)) (z1W us f (z0v hu) hf)
 | .K c::us,y::f,hu,hf=>by rw[z0j];exact all_cons (RU.chg (hf y (by simp)) (hu (.K c) (by simp))) (z1W us f (z0v hu) (z0v hf))
 | .C::us,y::f,hu,hf=>by rw[z0j];exact z1W us f (z0v hu) (z0v hf)
 | .K c::us,[],hu,hf=>by rw[z0j];exact z1W us [] (z0v hu) hf
 | .C::us,[],hu,hf=>by rw[z0j];exact z1W us [] (z0v hu) hf
structure DU_(U:US)(l:List DStep)(us:List DU):Prop where
 v:z0W l
 sw:DSw (exD l) us
 all:∀u∈us,UU U u
theorem DU_.dn(hU:U.length≤100){l:List DStep}{us:List DU}(h:DU_ U l us):DN 100000000000 l:=dn_of h.v h.sw (fun u hu=>UU.s hU (h.all u hu))
theorem DU_.ex{l:List DStep}{us:List DU}(h:DU_ U l us):∀u∈exD l,UU U u:=fun u hu=>h.all u ((z9Z h.sw u).1 hu)
theorem DU_.done(hU:U.length≤100){us:List DU}(hu:∀u∈us,UU U u)(h1:oldN us≤2147483647)(h2:newN us≤2147483647):DU_ U (doneD us) us:=by
 obtain⟨a,b,_⟩:=z3l (fun u h=>(UU.s hU (hu u h)).ok) h1 h2
 exact⟨a,b,hu⟩
end Go.Ch
end
section
set_option linter.unusedVariables false
set_option linter.unusedSimpArgs false
namespace Go.Ch
open Go Go.Ab
variable {U:US}
theorem y1F(a b:List DU):addN (a++b)=addN a+addN b:=by
 induction a with
 |nil=>simp[addN]
 |cons u a ih=>cases u<;>simp only[List.cons_append,addN,ih]<;>omega
theorem y7R(e:List Elem):addN (e.map .A)=e.length:=by
 induction e with
 |nil=>rfl
 |cons x e ih=>simp only[List.map_cons,addN,ih,List.length_cons]
theorem y7S(n:Nat)(c:List Attr):addN (List.replicate n (.K c))=0:=by
 induction n with
 |zero=>rfl
 |succ n ih=>rw[List.replicate_succ];exact ih
theorem y7T{u v:List DU}(h:DSw u v):addN u=addN v:=by
 induction h with
 |refl u=>rfl
 |cons x h ih=>cases x<;>simp only[addN,ih]
 |swap e u=>simp only[addN]
 |symm h ih=>exact ih.symm
 |trans h k i j=>exact i.trans j
theorem y8K{w:DWr}{s:DStep}(h:(s.kind=0∧0≤s.n)∨s.kind=1):tdW w s=foldD w (exS s):=by
 unfold tdW exS
 rcases h with⟨k,n⟩|k
 ·rw[if_pos k,if_neg (show¬s.kind=1 by omega),if_neg (show¬s.kind=2 by omega)]
  by_cases h0:s.n=0
  ·rw[if_pos h0,h0];rfl
  ·rw[if_neg h0]
   obtain⟨m,hm⟩:∃m,s.n.toNat=m+1:=⟨s.n.toNat- 1,by omega⟩
   have:=z7N s.attrs [] m w
   rw[List.append_nil] at this
   rw[hm,this,show((m+1:Nat):Int)=s.n by omega];rfl
 ·rw[if_neg (by omega),if_pos k,if_pos k]
  have:=y1l s.elems [] w
  rw[List.append_nil] at this
  rw[this];rfl
theorem z9f:∀(a b:List DU) (w:DWr),foldD w (a++b)=foldD (foldD w a) b
 | [],b,w=>rfl
 |u::a,b,w=>z9f a b (putU w u)
theorem y1G:∀(d:List DStep) (w:DWr),(∀s∈d,((s.kind=0∧0≤s.n)∨s.kind=1)∧lenE s=0)→tidyG w d=if z0V (z0a (foldD w (exD d)))=0 then(z0a (foldD w (exD d)),0) else([],3)
 | [],w,_=>by rw[tidyG,exD,foldD]
 |s::d,w,h=>by
  obtain⟨h1,h2⟩:=h s (by simp)
  rw[y2k h2 (fun q=>by unfold tdBad at q;omega),y1G d _ (fun t ht=>h t (by simp[ht])),exD,z9f,y8K h1]
theorem y7U{d:List DStep}(h:∀s∈d,((s.kind=0∧0≤s.n)∨s.kind=1)∧lenE s=0)(hu:∀u∈exD d,z07 u)(h1:oldN (exD d)≤2147483647)(h2:newN (exD d)≤2147483647):tidyL d=doneD (exD d):=by
 have hv:=(z3l hu h1 h2).1
 unfold tidyL
 rw[y1G d _ h,if_pos (show z0V (z0a (foldD ⟨[],[],0⟩ (exD d)))=0 from z0S.2 hv)];rfl
theorem z9g{n:Int}{c:List Attr}(h:0≤n∧n≤2147483647)(hc:VG true c):lenE ⟨0,n,c,[]⟩=0:=by
 by_cases h0:n=0
 ·subst h0
  unfold lenE
  have e:stepD ⟨0,0,c,[]⟩=2:=by unfold stepD;simp
  rw[if_pos (.inr ⟨(by decide:(0:Int)≠1),rfl,e⟩)];exact z0Q.2 hc
 ·exact z57 (z0K.2 (.inr ⟨.inl rfl,rfl,fun q=>absurd (show(0:Int)=2 from q) (by decide),(by show(1:Int)≤n;omega),h.2,hc⟩))
theorem y4B{es:List Elem}(h:∀x∈es,elemE x=0):lenE ⟨1,0,[],es⟩=0:=by
 cases es with
 |nil=>
  unfold lenE
  have e:stepD ⟨1,0,[],[]⟩=11:=by unfold stepD;simp
  rw[if_pos (.inl ⟨rfl,rfl,e⟩)];exact z0Q.2 z54
 |cons x l=>exact z57 (z0K.2 (.inl ⟨rfl,rfl,rfl,by simp,h⟩))
def typUs(n:Nat)(k:Nat)(es:List Elem)(au:ByteArray):List DU:=List.replicate k (.K [])++((es.map (typE au)).map .A++List.replicate (n-k) (.K []))
theorem y1H{n:Nat}{k:Int}{es:List Elem}{au:ByteArray}(hk:0≤k∧k≤n):exD (typS n k es au)=typUs n k.toNat es au:=by
 unfold typS typUs
 simp only[exD,exS]
 rw[if_neg (by decide),if_neg (by decide),if_pos trivial,if_neg (by decide),if_neg (by decide),List.append_nil,show((n:Int)- k).toNat=n-k.toNat by omega]
theorem z6j{n k:Nat}{es:List Elem}{au:ByteArray}(hk:k≤n):oldN (typUs n k es au)=n∧newN (typUs n k es au)=n+es.length∧addN (typUs n k es au)=es.length:=by
 unfold typUs
 have a:=z2j (es.map (typE au))
 have b:=z1p k []
 have c:=z1p (n-k) []
 simp only[z0E,z1o,y1F,y7R,y7S,a.1,a.2,b.1,b.2,c.1,c.2,List.length_map]
 omega
theorem y4C{au:ByteArray}{x:Elem}(ha:VU U true [⟨addB,au⟩,⟨cutB,mtB⟩])(hx:RU U x):RU U (typE au x):=RU.chg hx ha
theorem y4D{n k:Nat}{es:List Elem}{au:ByteArray}(ha:VU U true [⟨addB,au⟩,⟨cutB,mtB⟩])(he:∀x∈es,RU U x):∀u∈typUs n k es au,UU U u:=by
 intro u hu
 unfold typUs at hu
 rcases List.mem_append.1 hu with hu|hu
 ·rw[List.eq_of_mem_replicate hu];exact VU.nil
 ·rcases List.mem_append.1 hu with hu|hu
  ·obtain⟨y,hy,rfl⟩:=List.mem_map.1 hu
   obtain⟨x,hx,rfl⟩:=List.mem_map.1 hy
   exact y4C ha (he x hx)
  ·rw[List.eq_of_mem_replicate hu];exact VU.nil
theorem y7V(hU:U.length≤100){n:Nat}{k:Int}{es:List Elem}{au:ByteArray}(hk:0≤k∧k≤n)(hn:n≤100000000)(hl:es.length≤100000000)(ha:VU U true [⟨addB,au⟩,⟨cutB,mtB⟩])(he:∀x∈es,RU U x):
 typD n k es au=doneD (typUs n k.toNat es au)∧DU_ U (typD n k es au) (typUs n k.toNat es au):=by
 have hf:=z6j (n:=n) (k:=k.toNat) (es:=es) (au:=au) (by omega)
 have hall:=y4D (n:=n) (k:=k.toNat) ha he
 have e:typD n k es au=doneD (typUs n k.toNat es au):=by
  unfold typD
  rw[y7U (d:=typS n k es au) (fun s hs=> ?_) (by rw[y1H hk];exact fun u hu=>(UU.s hU (hall u hu)).ok) (by rw[y1H hk];omega) (by rw[y1H hk];omega),y1H hk]
  unfold typS at hs
  simp only[List.mem_cons,List.not_mem_nil,or_false] at hs
  rcases hs with rfl|rfl|rfl
  ·exact⟨.inl ⟨rfl,hk.1⟩,z9g (by omega) z54⟩
  ·refine⟨.inr rfl,y4B (fun x hx=> ?_)⟩
   obtain⟨y,hy,rfl⟩:=List.mem_map.1 hx
   exact(y4C ha (he y hy)).1
  ·exact⟨.inl ⟨rfl,(by show(0:Int)≤(n:Int)- k;omega)⟩,z9g (by omega) z54⟩
 exact⟨e,by rw[e];exact .done hU hall (by omega) (by omega)⟩
theorem z6k(f:List Elem)(pl:List Int)(au:ByteArray)(n:Nat):oldN (ersUs f pl au n)=n∧newN (ersUs f pl au n)≤n∧addN (ersUs f pl au n)=0:=by
 unfold ersUs
 induction n with
 |zero=>exact⟨rfl,Nat.le_refl _,rfl⟩
 |succ n ih=>
  rw[List.range_succ,List.map_append,z0E,z1o,y1F,List.map_cons,List.map_nil]
  obtain⟨a,b,c⟩:=ih
  rw[a,c]
  have:oldN [ersU f pl au n]=1∧newN [ersU f pl au n]≤1∧addN [ersU f pl au n]=0:=by unfold ersU;repeat' split<;>simp[oldN,newN,addN]
  omega
theorem y4E{f:List Elem}{pl:List Int}{au:ByteArray}(ha:seq au mtB=false→VU U true [⟨cutB,au⟩])(n:Nat):∀u∈ersUs f pl au n,UU U u:=by
 intro u hu
 unfold ersUs at hu
 obtain⟨i,_,rfl⟩:=List.mem_map.1 hu
 unfold ersU
 split
 ·split
  ·trivial
  ·rename_i h
   exact ha (by simp only[Bool.or_eq_true,not_or,Bool.not_eq_true] at h;exact h.1)
 ·exact VU.nil
theorem y7W(hU:U.length≤100){f:List Elem}{pl:List Int}{au:ByteArray}(hn:f.length≤100000000)(ha:seq au mtB=false→VU U true [⟨cutB,au⟩]):
 ersD f pl au=doneD (ersUs f pl au f.length)∧DU_ U (ersD f pl au) (ersUs f pl au f.length):=by
 have hf:=z6k f pl au f.length
 have hall:=y4E (f:=f) (pl:=pl) ha f.length
 have hlen:(ersUs f pl au f.length).length=f.length:=by simp[ersUs]
 have e:ersD f pl au=doneD (ersUs f pl au f.length):=(z6U (fun u hu=>(UU.s hU (hall u hu)).ok) (by omega)).1
 exact⟨e,by rw[e];exact .done hU hall (by omega) (by omega)⟩
theorem DU_.lens{l:List DStep}{us:List DU}(h:DU_ U l us):oldD l=oldN us∧newD l=newN us:=by
 have a:=z4X h.v
 have b:=y1b h.sw
 omega
theorem y4F(hU:U.length≤100){a b:List DStep}{us vs:List DU}(ha:DU_ U a us)(hb:DU_ U b vs)(hm:oldN us=oldN vs)(hs:newN us+newN vs≤2147483647):
 DU_ U (z1h a b) (z0f (exD a) (exD b)).1∧oldD (z1h a b)=newD b∧newD (z1h a b)≤newD b+addN us:=by
 obtain⟨a1,a2⟩:=ha.lens
 obtain⟨b1,b2⟩:=hb.lens
 have P:=z6T ha.v hb.v (ha.dn hU) (hb.dn hU) (by omega) (by omega)
 have hn:=y2x (exD a) (exD b)
 have hd:DU_ U (z1h a b) (z0f (exD a) (exD b)).1:=⟨P.2.2.2.1,P.2.2.2.2.2.1,y2w _ _ ha.ex hb.ex⟩
 have l1:=hd.lens
 have l2:=z4X hb.v
 have l3:=y7T ha.sw
 exact⟨hd,P.2.2.2.2.2.2.2.1,by omega⟩
theorem y51(hU:U.length≤100){a b:List DStep}{us vs:List DU}(ha:DU_ U a us)(hb:DU_ U b vs)(hm:newD a=oldD b):
 DU_ U (joinD a b) (z0m (exD a) (exD b))∧oldD (joinD a b)=oldD a∧newD (joinD a b)=newD b:=by
 have P:=z6S ha.v hb.v (ha.dn hU) (hb.dn hU) hm
 exact⟨⟨P.2.2.2.2.1,P.2.2.2.2.2.1,y2v _ _ ha.ex hb.ex⟩,P.2.2.2.2.2.2.1,P.2.2.2.2.2.2.2⟩
end Go.Ch
end
section
set_option linter.unusedVariables false
set_option linter.unusedSimpArgs false
namespace Go.Ch
open Go Go.Ab
def zzB:ByteArray:={data:=#[122,122]}
structure UB(U:US):Prop where
 len:U.length≤100
 z:∀v∈U.no,v=zzB
 ad:addB∈U
 ct:cutB∈U
structure NG(U:US)(n:Node):Prop where
 at1:VU U false n.attrs
 fl:∀x∈n.flow,RU U x
 mg:n.grid.merges=[]
 ce:∀c∈n.grid.cells,c.attrs=[]∧c.text.size=0
 dr:∀o∈n.draw,o.plc.size≤100∧o.nm.size≤100∧o.vl.size≤100
 kd:n.kind≠6
structure NZ(m:Nat)(n:Node):Prop where
 fl:n.flow.length≤m
 ce:n.grid.cells.length≤m
 dr:n.draw.length≤m
variable {U:US}
theorem y6G{e:Bool}{l:List Attr}(h:VG e l):Szd l:=fun a ha=>by
 obtain⟨h1,h2⟩:=h.2 a ha
 have n1:z1d a.name=true:=h1
 unfold z1d at n1
 rw[Bool.and_eq_true,decide_eq_true_eq] at n1
 refine⟨by omega,?_⟩
 rcases h2 with h2|h2
 ·have n2:valGo a.val=true:=h2
  unfold valGo at n2
  rw[Bool.and_eq_true,decide_eq_true_eq] at n2
  omega
 ·rw[h2.2];decide
theorem NG.b(hU:UB U){n:Node}{m:Nat}(h:NG U n)(hz:NZ m n)(hm:m≤1048576):NodeB n:=
 ⟨y6G h.at1.g,by have:=h.at1.len hU.len;omega,fun x hx=>y6G (h.fl x hx).2.g,Nat.le_trans hz.fl hm,fun x hx=>by have:=(h.fl x hx).2.len hU.len;omega,
  fun c hc=>⟨by rw[(h.ce c hc).2];decide,by rw[(h.ce c hc).1];exact(fun a ha=>by cases ha)⟩,Nat.le_trans hz.ce hm,fun c hc=>by rw[(h.ce c hc).1];decide,by rw[h.mg];decide,Nat.le_trans hz.dr hm,fun o ho=>by have:=h.dr o ho;omega⟩
theorem NG.lite{n:Node}(h:NG U n):n.grid.merges=[]∧NoTx n.grid.cells:=⟨h.mg,fun c hc=>(h.ce c hc).2⟩
theorem z6X{m:Nat}:∀{l:List Node},(∀n∈l,NZ m n)→lensN l≤l.length*(3*m)
 | [],_=>by simp[lensN]
 |n::l,h=>by
  have:=z6X (l:=l) (fun x hx=>h x (by simp[hx]))
  have hn:=h n (by simp)
  have e:lensN (n::l)=lenN n+lensN l:=by simp[lensN]
  rw[e,List.length_cons,Nat.add_mul,Nat.one_mul]
  have h1:=hn.fl
  have h2:=hn.ce
  have h3:=hn.dr
  unfold lenN;omega
theorem y7X(hU:UB U){d:Doc}{m q:Nat}(hm:m≤3000)(hq:q≤100)(hl:d.nodes.length≤q)(h:∀n∈d.nodes,NG U n∧NZ m n):DocL d:=by
 refine⟨⟨by omega,fun n hn=>(h n hn).1.b hU (h n hn).2 (by omega),?_⟩,fun n hn=>(h n hn).1.lite⟩
 have h1:=z6X (fun n hn=>(h n hn).2)
 have h2:d.nodes.length*(3*m)≤100*9000:=Nat.mul_le_mul (by omega) (by omega)
 omega
theorem V.filt{NP VP:ByteArray→Prop}{e:Bool}{p:Attr→Bool}:∀{l:List Attr},V NP VP e l→V NP VP e (l.filter p)
 | [],h=>h
 |a::l,h=>by
  have ih:=V.filt (p:=p) (l:=l) ⟨h.1.2,fun b hb=>h.2 b (by simp[hb])⟩
  rw[List.filter_cons]
  split
  ·exact⟨⟨fun b hb=>h.1.1 b ((List.mem_filter.1 hb).1),ih.1⟩,fun b hb=>by
    rcases List.mem_cons.1 hb with rfl|hb
    ·exact h.2 b (by simp)
    ·exact ih.2 b hb⟩
  ·exact ih
theorem VU.one{l:List Attr}(h:VU U false l){a:Attr}(ha:a∈l):VU U true [a]:=
 ⟨⟨(fun b hb=>by cases hb),trivial⟩,fun b hb=>by
  rw[List.mem_singleton] at hb;subst hb
  exact(VU.sub (e:=true) h).2 b ha⟩
theorem y1I:RU U ⟨10,0,[]⟩:=⟨by decide+kernel,VU.nil⟩
theorem y7Y{d:Doc}{s:Sel}{au:ByteArray}(h:atE d s au=0):docE d=0∧hasN d.nodes s.nd=true∧hasT (ndN d.nodes s.nd).kind=true∧(0≤s.fr∧s.fr≤s.tq∧s.tq< ((shwN (ndN d.nodes s.nd)).length:Int))∧(seq au mtB=true∨valGo au=true)∧atP d s au=⟨ndN d.nodes s.nd,shwN (ndN d.nodes s.nd),au⟩:=by
 have e:atP d s au=⟨ndN d.nodes s.nd,shwN (ndN d.nodes s.nd),au⟩:=by unfold atP;rw[h,if_neg (fun q=>q rfl)]
 unfold atE at h
 split at h
 ·rename_i q;exact absurd h q
 rename_i h1
 split at h
 ·cases h
 rename_i h2
 split at h
 ·cases h
 rename_i h3
 split at h
 ·cases h
 rename_i h4
 split at h
 ·cases h
 rename_i h5
 refine⟨Classical.byContradiction h1,by simpa using h2,by simpa using h3,by omega,?_,e⟩
 apply Classical.byContradiction;intro q
 rw[not_or,Bool.not_eq_true,Bool.not_eq_true] at q
 exact h5 q
theorem y1J{f:List Elem}{mode x:Int}{n:Nat}(h:x∈plcL f mode n):0≤x∧x<n:=by
 unfold plcL plcN at h
 obtain⟨i,hi,rfl⟩:=List.mem_map.1 h
 have:=List.mem_range.1 ((List.mem_filter.1 hi).1)
 omega
theorem y8L(hU:UB U){n:Node}{au:ByteArray}(hn:NG U n)(hz:n.flow.length≤1048576):PlB ⟨n,shwN n,au⟩:=
 ⟨hz,fun x hx=>y1J hx,Nat.le_trans (y1u ..) hz,fun x hx=>by have:=(hn.fl x hx).2.len hU.len;omega⟩
theorem z7T{p:Pl}(hp:PlB p)(hn:∀x∈p.node.flow,RU U x)(k:Int):RU U (elemP p k):=by
 unfold elemP
 split
 ·exact y1I
 ·rename_i q
  have h1:k.toNat<p.shown.length:=by omega
  have h2:=hp.ok _ (z0g h1)
  exact hn _ (z0g (by omega))
theorem y4G{r:Elem}{k:Int}:∀{l o:List Attr},VU U false o→(∀a∈l,VU U true [a])→VU U false (inhO r k o l)
 | [],o,ho,_=>ho
 |a::l,o,ho,hl=>by
  show VU U false (inhO r k (if inhG r k a=true then fm rawG o [a] else o) l)
  refine y4G ?_ (fun b hb=>hl b (by simp[hb]))
  split
  ·exact raw_V nu_mt ho (hl a (by simp))
  ·exact ho
theorem z6l{p:Pl}(hp:PlB p)(hn:∀x∈p.node.flow,RU U x)(k:Int):VU U false (inhP p k):=by
 unfold inhP
 have h1:=z7T hp hn (k- 1)
 refine y4G ?_ (fun a ha=>h1.2.one ha)
 unfold inhB
 split
 ·refine V.filt ?_
  unfold inhF;split
  ·exact(z7T hp hn k).2
  ·exact h1.2
 ·exact VU.nil
theorem y7Z{p:Pl}(hp:PlB p)(hn:∀x∈p.node.flow,RU U x)(k:Nat):VU U false (endP p k):=V.filt (z7T hp hn _).2
theorem y0a{c:Int}{l:List Attr}(hc:CharP c)(h0:c≠0)(hl:VU U false l):RU U ⟨c,0,l⟩:=by
 refine⟨?_,hl⟩
 rw[z3B (x:=⟨c,0,l⟩) (fun q=>h0 (q.2 rfl)) (.inr hc) (.inl rfl)]
 exact z0Q.2 hl.g
theorem z7U{p:Pl}(hp:PlB p)(hn:∀x∈p.node.flow,RU U x){s:Sel}{cs:List Int}(hc:∀c∈cs,CharP c∧c≠0):∀x∈typEl p s cs,RU U x:=by
 intro x hx
 unfold typEl at hx
 obtain⟨y,hy,rfl⟩:=List.mem_map.1 hx
 obtain⟨c,hc',rfl⟩:=List.mem_map.1 hy
 obtain⟨q1,q2⟩:=hc c hc'
 unfold typX mkE
 split
 ·exact y0a q1 q2 (y7Z hp hn _)
 ·exact y0a q1 q2 (z6l hp hn _)
def AuB(U:US)(au:ByteArray):Prop:=(seq au mtB=true∨valGo au=true)∧au∉U.no
theorem UB.no(hU:UB U){v:ByteArray}(h:v≠zzB):v∉U.no:=fun q=>h (hU.z v q)
theorem y8M(hU:UB U){au:ByteArray}(ha:AuB U au):VU U true [⟨addB,au⟩,⟨cutB,mtB⟩]:=by
 refine⟨⟨fun b hb=> ?_,⟨(fun b hb=>by cases hb),trivial⟩⟩,fun b hb=> ?_⟩
 ·rw[List.mem_singleton] at hb;subst hb;exact(by decide+kernel:slt addB cutB=true)
 ·simp only[List.mem_cons,List.not_mem_nil,or_false] at hb
  rcases hb with rfl|rfl
  ·refine⟨⟨(by decide+kernel:z1d addB=true),hU.ad⟩,?_⟩
   rcases ha.1 with h|h
   ·exact .inr ⟨rfl,z0x.1 h⟩
   ·exact .inl ⟨h,ha.2⟩
  ·exact⟨⟨(by decide+kernel:z1d cutB=true),hU.ct⟩,.inr ⟨rfl,rfl⟩⟩
theorem y8N(hU:UB U){au:ByteArray}(ha:AuB U au)(h0:seq au mtB=false):VU U true [⟨cutB,au⟩]:=by
 have hv:valGo au=true:=ha.1.resolve_left (by rw[h0];decide)
 refine⟨⟨(fun b hb=>by cases hb),trivial⟩,fun b hb=> ?_⟩
 rw[List.mem_singleton] at hb;subst hb
 exact⟨⟨(by decide+kernel:z1d cutB=true),hU.ct⟩,.inl ⟨hv,ha.2⟩⟩
theorem z9h(hU:UB U){p:Pl}{s:Sel}{es:List Elem}(hp:PlB p)(hf:p.node.flow.length≤1048576)(hn:∀x∈p.node.flow,RU U x)(ha:AuB U p.author)
 (hs:0≤s.fr∧s.fr≤s.tq∧s.tq< (p.shown.length:Int)) (hl:es.length≤1048576) (he:∀x∈es,RU U x):
 StpB p s es∧(∃us,DU_ U (stpP p s es) us)∧oldD (stpP p s es)=(p.node.flow.length:Int)∧newD (stpP p s es)≤p.node.flow.length+es.length:=by
 have hg:=z92 hp hs
 obtain⟨_,T⟩:=y7V hU.len (n:=p.node.flow.length) (k:=gapP p.shown s.fr) (es:=es) (au:=p.author) hg (by omega) (by omega) (y8M hU ha) he
 obtain⟨_,E⟩:=y7W hU.len (f:=p.node.flow) (pl:=(p.shown.take s.tq.toNat).drop s.fr.toNat) (au:=p.author) (by omega) (y8N hU ha)
 have tf:=z6j (n:=p.node.flow.length) (k:=(gapP p.shown s.fr).toNat) (es:=es) (au:=p.author) (by omega)
 have ef:=z6k p.node.flow ((p.shown.take s.tq.toNat).drop s.fr.toNat) p.author p.node.flow.length
 have tl:=T.lens
 have el:=E.lens
 obtain⟨P,p1,p2⟩:=y4F hU.len T E (by omega) (by omega)
 obtain⟨J,j1,j2⟩:=y51 hU.len E P p1.symm
 refine⟨⟨hs,hl,fun x hx=>by have:=(he x hx).2.len hU.len;omega,E.v,T.v,P.v,E.dn hU.len,T.dn hU.len,P.dn hU.len,?_,p1.symm,?_⟩,⟨_,J⟩,?_,?_⟩
 ·show oldD (typD _ _ _ _)=oldD (ersD _ _ _);omega
 ·show newD (typD _ _ _ _)+newD (ersD _ _ _)≤2147483647;omega
 ·refine(show oldD (stpP p s es)=oldD (ersD p.node.flow ((p.shown.take s.tq.toNat).drop s.fr.toNat) p.author) from j1).trans ?_
  omega
 ·refine Int.le_trans (Int.le_of_eq (show newD (stpP p s es)=newD (z1h (typD p.node.flow.length (gapP p.shown s.fr) es p.author) (ersD p.node.flow ((p.shown.take s.tq.toNat).drop s.fr.toNat) p.author)) from j2)) ?_
  omega
end Go.Ch
end
section
set_option linter.unusedVariables false
set_option linter.unusedSimpArgs false
namespace Go.Ch
open Go Go.Ab
structure VD(l:List Node):Prop where
 ne:0<l.length
 one:(l.getD 0 default).id=1
 srt:SortN l
 node:∀n∈l,nodeE n=0
 refs:∀n∈l,∀r∈refsN n,∃m∈l,m.id=r∧permB n.kind m.kind=true
theorem z7V{l:List Node}(hs:SortN l){i j:Nat}(hi:i<l.length)(hj:j<l.length)(h:(l.getD i default).id=(l.getD j default).id):i=j:=by
 rcases Nat.lt_trichotomy i j with q|q|q
 ·have:=hs i j q hj;omega
 ·exact q
 ·have:=hs j i q hi;omega
theorem z9i{l:List Node}(hs:SortN l){k:Int}{rs:List Int}:∀(n i:Nat),rs.length-i=n→(refsE l k rs i=0↔∀j,i≤j→j<rs.length→∃m∈l,m.id=rs.getD j default∧permB k m.kind=true)
 |0,i,h=>by rw[refsE,if_neg (by omega)];exact⟨fun _ j h1 h2=>by omega,fun _=>rfl⟩
 |n+1,i,h=>by
  have hi:i<rs.length:=by omega
  have hm:rs.length- (i+1)=n:=by omega
  have key:(0≤findD l (rs.getD i default) 0∧permB k (l.getD (findD l (rs.getD i default) 0).toNat default).kind=true)↔∃m∈l,m.id=rs.getD i default∧permB k m.kind=true:=by
   rcases z2A l (rs.getD i default) _ 0 rfl with⟨a,b⟩| ⟨j,a,b,c,d⟩
   ·rw[a]
    refine⟨fun q=>absurd q.1 (by decide),?_⟩
    rintro⟨m,hm,h1,h2⟩
    obtain⟨x,hx,rfl⟩:=z0C hm
    exact absurd h1 (b x (Nat.zero_le _) hx)
   ·rw[a]
    refine⟨fun q=>⟨l.getD j default,z0g c,d,by simpa using q.2⟩,?_⟩
    rintro⟨m,hm,h1,h2⟩
    obtain⟨x,hx,rfl⟩:=z0C hm
    have:=z7V hs hx c (h1.trans d.symm)
    subst this
    exact⟨by omega,by simpa using h2⟩
  rw[refsE,if_pos hi]
  by_cases h1:findD l (rs.getD i default) 0<0
  ·rw[if_pos h1]
   exact⟨fun q=>(by cases q),fun q=>absurd ((key.2 (q i (Nat.le_refl _) hi)).1) (by omega)⟩
  ·rw[if_neg h1]
   by_cases h2:permB k (l.getD (findD l (rs.getD i default) 0).toNat default).kind=false
   ·rw[if_pos h2]
    refine⟨fun q=>(by cases q),fun q=> ?_⟩
    have:=(key.2 (q i (Nat.le_refl _) hi)).2
    rw[h2] at this;cases this
   ·rw[if_neg h2,z9i hs n (i+1) hm]
    refine⟨fun q j j1 j2=> ?_,fun q j j1 j2=>q j (by omega) j2⟩
    by_cases e:j=i
    ·subst e;exact key.1 ⟨by omega,by simpa using h2⟩
    ·exact q j (by omega) j2
theorem z4m{l:List Node}(hs:SortN l){k:Int}{rs:List Int}:refsE l k rs 0=0↔∀r∈rs,∃m∈l,m.id=r∧permB k m.kind=true:=by
 rw[z9i hs _ 0 rfl]
 refine⟨fun h r hr=> ?_,fun h j _ hj=>h _ (z0g hj)⟩
 obtain⟨j,hj,rfl⟩:=z0C hr
 exact h j (Nat.zero_le _) hj
theorem z3H{l:List Node}:∀(n i:Nat),l.length-i=n→(z0U l i=0↔∀j,i≤j→j<l.length→refsE l (l.getD j default).kind (refsN (l.getD j default)) 0=0)
 |0,i,h=>by rw[z0U,if_neg (by omega)];exact⟨fun _ j h1 h2=>by omega,fun _=>rfl⟩
 |n+1,i,h=>by
  have hi:i<l.length:=by omega
  rw[z0U,if_pos hi]
  by_cases h1:refsE l (l.getD i default).kind (refsN (l.getD i default)) 0≠0
  ·rw[if_pos h1];exact⟨fun q=>absurd q h1,fun q=>absurd (q i (Nat.le_refl _) hi) h1⟩
  ·rw[if_neg h1,z3H n (i+1) (by omega)]
   refine⟨fun q j j1 j2=> ?_,fun q j j1 j2=>q j (by omega) j2⟩
   by_cases e:j=i
   ·subst e;exact Classical.byContradiction h1
   ·exact q j (by omega) j2
theorem z6Y{l:List Node}:∀(n i:Nat),l.length-i=n→(∀j,i≤j→j<l.length→nodeE (l.getD j default)=0∧¬((j=0∧(l.getD 0 default).id≠1)∨(0<j∧(l.getD j default).id≤(l.getD (j- 1) default).id)))→z1e l i=0
 |0,i,h,_=>by rw[z1e,if_neg (by omega)]
 |n+1,i,h,q=>by
  obtain⟨a,b⟩:=q i (Nat.le_refl _) (by omega)
  rw[z1e,if_pos (by omega),if_neg (fun z=>z a),if_neg b]
  exact z6Y n (i+1) (by omega) (fun j j1 j2=>q j (by omega) j2)
theorem y0b{d:Doc}:docE d=0↔VD d.nodes:=by
 constructor
 ·intro h
  have hn:=z51 h
  have hs:=z9U hn
  have h0:0<d.nodes.length:=by
   apply Classical.byContradiction;intro q
   rw[z6M (by omega)] at h;cases h
  refine⟨h0,((z2B _ 0 rfl hn).2 0 (Nat.le_refl _) h0).1 rfl,hs,y1h h,fun n hn' r hr=> ?_⟩
  have ha:z0U d.nodes 0=0:=by
   unfold docE at h
   rw[if_neg (by omega),if_neg (fun q=>q hn)] at h;exact h
  obtain⟨j,hj,rfl⟩:=z0C hn'
  exact(z4m hs).1 ((z3H _ 0 rfl).1 ha j (Nat.zero_le _) hj) r hr
 ·intro h
  have hn:z1e d.nodes 0=0:=z6Y _ 0 rfl (fun j _ hj=>⟨h.node _ (z0g hj),by
   rintro(⟨rfl,q⟩| ⟨q1,q2⟩)
   ·exact q h.one
   ·have:=h.srt (j- 1) j (by omega) hj;omega⟩)
  have ha:z0U d.nodes 0=0:=(z3H _ 0 rfl).2 (fun j _ hj=>(z4m h.srt).2 (h.refs _ (z0g hj)))
  unfold docE
  rw[if_neg (by have:=h.ne;omega),if_neg (fun q=>q hn),ha]
theorem y1K{α:Type}[Inhabited α]{l:List α}{i j:Nat}{x:α}(hi:i<l.length):(l.set i x).getD j default=if i=j then x else l.getD j default:=by
 rw[List.getD_eq_getElem?_getD,List.getElem?_set]
 split
 ·rename_i h;subst h;simp[hi]
 ·rw[List.getD_eq_getElem?_getD]
theorem y2y{α:Type}[Inhabited α]{l:List α}{i:Nat}{x y:α}(hi:i<l.length)(h:y∈l):y∈l.set i x∨y=l.getD i default:=by
 obtain⟨j,hj,rfl⟩:=z0C h
 by_cases e:i=j
 ·subst e;exact .inr rfl
 ·have:(l.set i x).getD j default=l.getD j default:=by rw[y1K hi,if_neg e]
  rw[←this];exact .inl (z0g (by simpa using hj))
theorem VD.set{l:List Node}(h:VD l){i:Nat}(hi:i<l.length){n:Node}(hid:n.id=(l.getD i default).id)(hk:n.kind=(l.getD i default).kind)(hn:nodeE n=0)(hr:∀r∈refsN n,∃m∈l,m.id=r∧permB n.kind m.kind=true):VD (l.set i n):=by
 have hids:∀j,((l.set i n).getD j default).id=(l.getD j default).id:=fun j=>by
  rw[y1K hi];split
  ·rename_i e;subst e;exact hid
  ·rfl
 have key:∀(k r:Int),(∃m∈l,m.id=r∧permB k m.kind=true)→∃m∈l.set i n,m.id=r∧permB k m.kind=true:=by
  rintro k r ⟨m,hm,h1,h2⟩
  rcases y2y (x:=n) hi hm with q|rfl
  ·exact⟨m,q,h1,h2⟩
  ·exact⟨n,List.mem_iff_getElem.2 ⟨i,by simpa using hi,by simp⟩,hid.trans h1,by rw[hk];exact h2⟩
 refine⟨by simpa using h.ne,(hids 0).trans h.one,fun p q hpq hq=>by rw[hids,hids];exact h.srt p q hpq (by simpa using hq),fun m hm=> ?_,fun m hm r hr'=> ?_⟩
 ·rcases List.mem_or_eq_of_mem_set hm with q|rfl
  ·exact h.node m q
  ·exact hn
 ·rcases List.mem_or_eq_of_mem_set hm with q|rfl
  ·exact key _ _ (h.refs m q r hr')
  ·exact key _ _ (hr r hr')
theorem VD.add{l:List Node}(h:VD l){n:Node}(hl:∀m∈l,m.id<n.id)(hn:nodeE n=0)(hr:∀r∈refsN n,∃m∈l,m.id=r∧permB n.kind m.kind=true):VD (l++[n]):=by
 have h0:=h.ne
 have hg:∀j,j<l.length→(l++[n]).getD j default=l.getD j default:=fun j hj=>by
  rw[List.getD_eq_getElem?_getD,List.getElem?_append_left hj,List.getD_eq_getElem?_getD]
 have hz:(l++[n]).getD l.length default=n:=by rw[List.getD_eq_getElem?_getD];simp
 refine⟨by simp,(congrArg Node.id (hg 0 h0)).trans h.one,fun p q hpq hq=> ?_,fun m hm=> ?_,fun m hm r hr'=> ?_⟩
 ·rw[List.length_append,List.length_singleton] at hq
  by_cases e:q=l.length
  ·subst e;rw[hz,hg p hpq];exact hl _ (z0g hpq)
  ·rw[hg p (by omega),hg q (by omega)];exact h.srt p q hpq (by omega)
 ·rcases List.mem_append.1 hm with q|q
  ·exact h.node m q
  ·rw[List.mem_singleton] at q;subst q;exact hn
 ·have:∃m'∈l,m'.id=r∧permB m.kind m'.kind=true:=by
   rcases List.mem_append.1 hm with q|q
   ·exact h.refs m q r hr'
   ·rw[List.mem_singleton] at q;subst q;exact hr r hr'
  obtain⟨x,hx,a,b⟩:=this
  exact⟨x,List.mem_append_left _ hx,a,b⟩
theorem VD.has{l:List Node}(h:VD l){k:Int}:hasN l k=true↔∃n∈l,n.id=k:=by
 rw[z08]
 constructor
 ·rintro⟨a,b⟩;exact⟨_,z0g a,b⟩
 ·rintro⟨n,hn,rfl⟩
  obtain⟨j,hj,rfl⟩:=z0C hn
  obtain⟨s1,s2,s3⟩:=z1R l (l.getD j default).id
  have h1:lobN l (l.getD j default).id≤j:=z9T (by omega)
  by_cases e:lobN l (l.getD j default).id=j
  ·rw[e];exact⟨hj,rfl⟩
  ·have:=h.srt _ j (show lobN l (l.getD j default).id<j by omega) hj
   exact absurd this (s3 (by omega))
theorem z1X{n:Node}(h:nodeE n=0):(1≤n.id∧n.id≤1073741824)∧(0≤n.kind∧n.kind≤12∧(n.id=1↔n.kind=0))∧VG false n.attrs∧
 ((0<n.flow.length→hasT n.kind=true∨hasL n.kind=true)∧(zeroG n.grid=false→hasG n.kind=true)∧(0<n.draw.length→hasD n.kind=true))∧
 ((hasT n.kind=true∨hasL n.kind=true)→flowZ (hasT n.kind) n.flow=0)∧(hasG n.kind=true→gridE n.grid=0∧cellK n.kind n.grid.cells 0=0)∧(hasD n.kind=true→drawE n.draw 0=0):=by
 unfold nodeE at h
 split at h
 ·cases h
 rename_i h1
 split at h
 ·cases h
 rename_i h2
 split at h
 ·rename_i q;exact absurd h q
 rename_i h3
 split at h
 ·cases h
 rename_i h4
 have h3:=z0Q.1 (Classical.byContradiction h3)
 refine⟨by omega,by omega,h3,⟨fun q=> ?_,fun q=> ?_,fun q=> ?_⟩,?_⟩
 ·apply Classical.byContradiction;intro z
  rw[not_or,Bool.not_eq_true,Bool.not_eq_true] at z
  exact h4 (.inl ⟨q,z.1,z.2⟩)
 ·apply Classical.byContradiction;intro z
  exact h4 (.inr (.inl ⟨q,by simpa using z⟩))
 ·apply Classical.byContradiction;intro z
  exact h4 (.inr (.inr ⟨q,by simpa using z⟩))
 ·have kinds:∀k:Int,(hasT k=true∨hasL k=true→hasG k=false∧hasD k=false)∧(hasG k=true→hasD k=false):=fun k=>by
   unfold hasT hasL hasG hasD
   simp only[Bool.or_eq_true,beq_iff_eq,Bool.or_eq_false_iff,beq_eq_false_iff_ne]
   omega
  obtain⟨k1,k2⟩:=kinds n.kind
  split at h
  ·rename_i q
   obtain⟨z1,z2⟩:=k1 q
   exact⟨fun _=>h,(fun z=>by rw[z1] at z;cases z),(fun z=>by rw[z2] at z;cases z)⟩
  ·rename_i q
   split at h
   ·rename_i g
    have z2:=k2 g
    refine⟨fun z=>absurd z q,fun _=> ?_,(fun z=>by rw[z2] at z;cases z)⟩
    split at h
    ·rename_i z;exact absurd h z
    ·rename_i z;exact⟨Classical.byContradiction z,h⟩
   ·rename_i g
    exact⟨fun z=>absurd z q,fun z=>absurd z g,fun _=>h⟩
theorem z7W{n:Node}(h1:1≤n.id∧n.id≤1073741824)(h2:0≤n.kind∧n.kind≤12∧(n.id=1↔n.kind=0))(h3:VG false n.attrs)
 (h4:(0<n.flow.length→hasT n.kind=true∨hasL n.kind=true)∧(zeroG n.grid=false→hasG n.kind=true)∧(0<n.draw.length→hasD n.kind=true))
 (h5:(hasT n.kind=true∨hasL n.kind=true)→flowZ (hasT n.kind) n.flow=0) (h6:hasG n.kind=true→gridE n.grid=0∧cellK n.kind n.grid.cells 0=0) (h7:drawE n.draw 0=0∨hasT n.kind=true∨hasL n.kind=true∨hasG n.kind=true):nodeE n=0:=by
 unfold nodeE
 rw[if_neg (by omega),if_neg (by omega),if_neg (fun q=>q (z0Q.2 h3)),if_neg]
 ·split
  ·rename_i q;exact h5 q
  ·rename_i q
   split
   ·rename_i g
    obtain⟨z1,z2⟩:=h6 g
    rw[if_neg (fun z=>z z1),z2]
   ·rename_i g
    rcases h7 with h7|h7|h7|h7
    ·exact h7
    ·exact absurd (.inl h7) q
    ·exact absurd (.inr h7) q
    ·exact absurd h7 g
 ·rintro(⟨a,b,c⟩| ⟨a,b⟩| ⟨a,b⟩)
  ·rcases h4.1 a with q|q
   ·rw[b] at q;cases q
   ·rw[c] at q;cases q
  ·have:=h4.2.1 a;rw[b] at this;cases this
  ·have:=h4.2.2 a;rw[b] at this;cases this
end Go.Ch
end
section
set_option linter.unusedVariables false
set_option linter.unusedSimpArgs false
namespace Go.Ch
open Go Go.Ab
def Asc:List Cell→Prop
 | []=>True
 |c::l=>(∀x∈l,ordC c x<0)∧Asc l
theorem z4E{a b c:Cell}(h1:ordC a b<0)(h2:ordC b c<0):ordC a c<0:=by
 rw[z7D] at*;omega
theorem z7X{a b c:Cell}(h1:ordC a b≤0)(h2:ordC b c<0):ordC a c<0:=by
 have:¬0<ordC a b:=by omega
 rw[z7D] at*
 rw[z5d] at h1
 repeat' split at h1
 all_goals omega
theorem y4H{a b:Cell}:0<ordC a b↔ordC b a<0:=by
 rw[z7D,z5d];repeat' split
 all_goals omega
def SortC(l:List Cell):Prop:=∀p q,p<q→q<l.length→ordC (l.getD p default) (l.getD q default)< 0
theorem y1L:∀{l:List Cell},Asc l→SortC l
 | [],_,p,q,h1,h2=>by simp at h2
 |c::l,⟨h,k⟩,p,q,h1,h2=>by
  cases q with
  |zero=>omega
  |succ q=>
   cases p with
   |zero=>exact h _ (z0g (by simpa using h2))
   |succ p=>exact y1L k p q (by omega) (by simpa using h2)
theorem z6Z{l:List Cell}{m n:Int}{o:Bool}:∀(k i:Nat),l.length-i=k→
 (z0F l m n o i=0↔∀j,i≤j→j<l.length→cellE (l.getD j default) m n o=0∧(0<j→ordC (l.getD (j- 1) default) (l.getD j default)< 0))
 |0,i,h=>by
  rw[z0F,if_neg (by omega)]
  exact⟨fun _ j h1 h2=>by omega,fun _=>rfl⟩
 |k+1,i,h=>by
  have ih:=z6Z (l:=l) (m:=m) (n:=n) (o:=o) k (i+1) (by omega)
  rw[z0F,if_pos (by omega)]
  by_cases c1:cellE (l.getD i default) m n o=0
  ·rw[if_neg (fun q=>q c1)]
   by_cases c2:0<i∧0≤ordC (l.getD (i- 1) default) (l.getD i default)
   ·rw[if_pos c2]
    refine⟨fun q=>(by cases q),fun q=> ?_⟩
    have:=(q i (Nat.le_refl _) (by omega)).2 c2.1
    omega
   ·rw[if_neg c2,ih]
    refine⟨fun q j h1 h2=> ?_,fun q j h1 h2=>q j (by omega) h2⟩
    by_cases e:i=j
    ·subst e;exact⟨c1,fun h0=>by omega⟩
    ·exact q j (by omega) h2
  ·rw[if_pos c1]
   exact⟨fun q=>absurd q c1,fun q=>(q i (Nat.le_refl _) (by omega)).1⟩
theorem y4I:∀{l:List Cell},(∀j,0<j→j<l.length→ordC (l.getD (j- 1) default) (l.getD j default)< 0)→Asc l
 | [],_=>trivial
 | [c],_=>⟨fun x hx=>(by cases hx),trivial⟩
 |c::d::l,h=>by
  have h1:ordC c d<0:=h 1 (by decide) (by simp)
  have ih:=y4I (l:=d::l) (fun j h0 hj=>by
   have:=h (j+1) (by omega) (by simp only[List.length_cons] at hj⊢;omega)
   obtain⟨j,rfl⟩:∃q,j=q+1:=⟨j- 1,by omega⟩
   exact this)
  refine⟨fun x hx=> ?_,ih⟩
  rcases List.mem_cons.1 hx with rfl|hx
  ·exact h1
  ·exact z4E h1 (ih.1 x hx)
theorem z4F{l:List Cell}{m n:Int}{o:Bool}:z0F l m n o 0=0↔(∀c∈l,cellE c m n o=0)∧Asc l:=by
 rw[z6Z _ 0 rfl]
 constructor
 ·intro h
  refine⟨fun c hc=> ?_,y4I (fun j h0 hj=>(h j (Nat.zero_le _) hj).2 h0)⟩
  obtain⟨j,hj,rfl⟩:=z0C hc
  exact(h j (Nat.zero_le _) hj).1
 ·rintro⟨h1,h2⟩ j _ hj
  exact⟨h1 _ (z0g hj),fun h0=>y1L h2 (j- 1) j (by omega) hj⟩
theorem z4n{c:Cell}{m n:Int}{o:Bool}:cellE c m n o=0↔(0≤c.row∧c.row<m∧0≤c.col∧c.col<n)∧(0≤c.ref∧c.ref≤1073741824)∧textG c.text=true∧chkA false c.attrs 0=0∧(o=false→z1a c=false):=by
 unfold cellE
 by_cases c1:c.row<0∨m≤c.row∨c.col<0∨n≤c.col
 ·rw[if_pos c1];exact⟨fun q=>(by cases q),fun q=>by omega⟩
 ·rw[if_neg c1]
  by_cases c2:c.ref<0∨1073741824<c.ref
  ·rw[if_pos c2];exact⟨fun q=>(by cases q),fun q=>by omega⟩
  ·rw[if_neg c2]
   by_cases c3:textG c.text=false
   ·rw[if_pos c3];exact⟨fun q=>(by cases q),fun q=>by rw[q.2.2.1] at c3;cases c3⟩
   ·rw[if_neg c3]
    by_cases c4:chkA false c.attrs 0=0
    ·rw[if_neg (fun q=>q c4)]
     by_cases c5:z1a c=true∧o=false
     ·rw[if_pos c5];exact⟨fun q=>(by cases q),fun q=>by have:=q.2.2.2.2 c5.2;rw[c5.1] at this;cases this⟩
     ·rw[if_neg c5]
      refine⟨fun _=>⟨by omega,by omega,by simpa using c3,c4,fun ho=> ?_⟩,fun _=>rfl⟩
      cases he:z1a c with
      |false=>rfl
      |true=>exact absurd ⟨he,ho⟩ c5
    ·rw[if_pos c4];exact⟨fun q=>absurd q c4,fun q=>q.2.2.2.1⟩
theorem z3I:∀(ns l:List Cell) (y:Cell),y∈putL ns l→(y∈ns∧z1a y=false)∨y∈l
 | [],l,y,h=> .inr h
 |c::ns,[],y,h=>by
  rw[putL,putC] at h
  rcases List.mem_append.1 h with h|h
  ·cases he:z1a c with
   |true=>rw[he,if_pos rfl] at h;cases h
   |false=>rw[he,if_neg (by decide)] at h;rw[List.mem_singleton.1 h];exact .inl ⟨by simp,he⟩
  ·rcases z3I ns [] y h with⟨h1,h2⟩|h
   ·exact .inl ⟨by simp[h1],h2⟩
   ·exact .inr h
 |c::ns,x::l,y,h=>by
  have ih:=z3I (c::ns) l y
  rw[putL] at ih
  rw[putL,putC] at h
  split at h
  ·rcases List.mem_cons.1 h with rfl|h
   ·exact .inr (by simp)
   ·rcases ih h with h|h
    ·exact .inl h
    ·exact .inr (by simp[h])
  ·have hcase:∀(r:List Cell),(∀z∈r,z∈x::l)→y∈(if z1a c=true then[] else[c])++putL ns r→(∀z,z∈putL ns r→(z∈ns∧z1a z=false)∨z∈r)→(y∈c::ns∧z1a y=false)∨y∈x::l:=fun r hr h hi=>by
    rcases List.mem_append.1 h with h|h
    ·cases he:z1a c with
     |true=>rw[he,if_pos rfl] at h;cases h
     |false=>rw[he,if_neg (by decide)] at h;rw[List.mem_singleton.1 h];exact .inl ⟨by simp,he⟩
    ·rcases hi y h with⟨h1,h2⟩|h
     ·exact .inl ⟨by simp[h1],h2⟩
     ·exact .inr (hr y h)
   split at h
   ·exact hcase l (fun z hz=>by simp[hz]) h (fun z=>z3I ns l z)
   ·exact hcase (x::l) (fun z hz=>hz) h (fun z=>z3I ns (x::l) z)
termination_by ns l=>ns.length+l.length
theorem z7Y{c:Cell}{ns r:List Cell}(hns:∀y∈ns,ordC c y<0)(hr:∀y∈r,ordC c y<0)(h:Asc (putL ns r)):Asc ((if z1a c=true then[] else[c])++putL ns r):=by
 cases he:z1a c with
 |true=>rw[if_pos rfl];exact h
 |false=>
  rw[if_neg (by decide)]
  refine⟨fun y hy=> ?_,h⟩
  rcases z3I ns r y hy with⟨h1,_⟩|h1
  ·exact hns y h1
  ·exact hr y h1
theorem z6m:∀(ns l:List Cell),Asc ns→Asc l→Asc (putL ns l)
 | [],l,_,h=>h
 |c::ns,[],h1,h2=>by
  rw[putL,putC]
  exact z7Y h1.1 (fun y hy=>by cases hy) (z6m ns [] h1.2 trivial)
 |c::ns,x::l,h1,h2=>by
  rw[putL,putC]
  by_cases o1:ordC x c<0
  ·rw[if_pos o1]
   have ih:=z6m (c::ns) l h1 h2.2
   rw[putL] at ih
   refine⟨fun y hy=> ?_,ih⟩
   rcases z3I (c::ns) l y hy with⟨h,_⟩|h
   ·rcases List.mem_cons.1 h with rfl|h
    ·exact o1
    ·exact z4E o1 (h1.1 y h)
   ·exact h2.1 y h
  ·rw[if_neg o1]
   by_cases o2:ordC x c=0
   ·rw[if_pos o2]
    have e:=y3w.1 o2
    exact z7Y h1.1 (fun y hy=>z7X (by rw[y3w.2 ⟨e.1.symm,e.2.symm⟩];decide) (h2.1 y hy)) (z6m ns l h1.2 h2.2)
   ·rw[if_neg o2]
    have hcx:ordC c x<0:=y4H.1 (by omega)
    exact z7Y h1.1 (fun y hy=>by
     rcases List.mem_cons.1 hy with rfl|hy
     ·exact hcx
     ·exact z4E hcx (h2.1 y hy)) (z6m ns (x::l) h1.2 h2)
termination_by ns l=>ns.length+l.length
theorem y2z{l:List AxStep}(hl:Form l){p q:Int}(h0:0≤p)(h:p<q)(hp:0≤z0q l p 0 0)(hq:0≤z0q l q 0 0):z0q l p 0 0<z0q l q 0 0:=by
 have h1:=z35 hl p q 0 0 h0 h hp
 have h2:=y0V hl q 0 0 0 (Int.le_refl _)
 have h3:=z34 hl q 0 0 (by omega) hq
 omega
theorem y1M{a:List AxStep}{p q:Int}(hp:PIn a p)(hq:PIn a q)(h:p<q)(h1:¬(0<a.length∧mvR a p<0))(h2:¬(0<a.length∧mvR a q<0)):mvR a p<mvR a q:=by
 unfold mvR at*
 by_cases c:0<a.length
 ·simp only[if_pos c] at*
  obtain⟨v,p0,_⟩:=hp c
  exact y2z v.1 p0 h (by omega) (by omega)
 ·simp only[if_neg c] at*;exact h
theorem z5t{rows cols:List AxStep}{c d:Cell}(h:mvC rows cols c=some d):¬(0<rows.length∧mvR rows c.row<0)∧¬(0<cols.length∧mvR cols c.col<0)∧d={c with row:=mvR rows c.row,col:=mvR cols c.col}:=by
 unfold mvC at h
 split at h
 ·cases h
 ·rename_i h1
  split at h
  ·cases h
  ·rename_i h2
   exact⟨h1,h2,by cases h;rfl⟩
theorem y4J{rows cols:List AxStep}:∀{l:List Cell},Asc l→(∀c∈l,PIn rows c.row)→(∀c∈l,PIn cols c.col)→Asc (movL l rows cols)
 | [],_,_,_=>trivial
 |c::l,h,hr,hc=>by
  have ih:=y4J (l:=l) h.2 (fun x hx=>hr x (by simp[hx])) (fun x hx=>hc x (by simp[hx]))
  unfold movL at*
  rw[List.filterMap_cons]
  cases hm:mvC rows cols c with
  |none=>exact ih
  |some d=>
   refine⟨fun y hy=> ?_,ih⟩
   obtain⟨x,hx,hxy⟩:=List.mem_filterMap.1 hy
   obtain⟨a1,a2,rfl⟩:=z5t hm
   obtain⟨b1,b2,rfl⟩:=z5t hxy
   have ho:=h.1 x hx
   rw[z7D] at ho⊢
   rcases ho with ho| ⟨e,ho⟩
   ·exact .inl (y1M (hr c (by simp)) (hr x (by simp[hx])) ho a1 b1)
   ·refine .inr ⟨by show mvR rows c.row=mvR rows x.row;rw[e],y1M (hc c (by simp)) (hc x (by simp[hx])) ho a2 b2⟩
theorem z5u:∀{l:List AxStep} (hl:Form l) (p fr tq:Int),fr≤p→0≤z0q l p fr tq→z0q l p fr tq<tq+newU (ex l)
 | [],_,p,fr,tq,h,h0=>by simp[z0q] at h0
 |s::l,hl,p,fr,tq,h,h0=>by
  have hn:=hl.head.2.2
  have hk:=kinds hl.head
  have e:(newU (ex (s::l)):Int)=(if s.kind=2 then 0 else s.n)+newU (ex l):=by
   rw[ex,z9R,Int.toNat_of_nonneg (by omega)]
  rw[e]
  rw[z0q] at h0⊢
  by_cases k1:s.kind=1
  ·rw[if_pos k1] at h0⊢
   rw[if_neg (show¬s.kind=2 by omega)]
   have:=z5u hl.tail p fr (tq+s.n) h h0
   omega
  ·rw[if_neg k1] at h0⊢
   by_cases k0:s.kind=0
   ·rw[if_pos k0] at h0⊢
    rw[if_neg (show¬s.kind=2 by omega)]
    by_cases c:p<fr+s.n
    ·rw[if_pos c] at h0⊢
     have:(0:Int)≤newU (ex l):=by omega
     omega
    ·rw[if_neg c] at h0⊢
     have:=z5u hl.tail p (fr+s.n) (tq+s.n) (by omega) h0
     omega
   ·rw[if_neg k0] at h0⊢
    by_cases c:p<fr+s.n
    ·rw[if_pos c] at h0;omega
    ·rw[if_neg c] at h0⊢
     rw[if_pos (show s.kind=2 by omega)]
     have:=z5u hl.tail p (fr+s.n) tq (by omega) h0
     omega
theorem y6H{a:List AxStep}{p m:Int}(hp:PIn a p)(h0:0≤p∧p<m)(hn:¬(0<a.length∧mvR a p<0)):0≤mvR a p∧mvR a p<nwS m a:=by
 unfold mvR at hn⊢
 unfold nwS newI
 by_cases c:0<a.length
 ·rw[if_pos c] at hn⊢
  rw[if_pos c]
  obtain⟨v,p0,_⟩:=hp c
  have h1:0≤z0q a p 0 0:=by
   refine Classical.byContradiction fun q=>hn ⟨c,by omega⟩
  have:=z5u v.1 p 0 0 p0 h1
  omega
 ·rw[if_neg c,if_neg c];exact h0
theorem y52{rows cols:List AxStep}{c d:Cell}{m n:Int}(hr:PIn rows c.row)(hc:PIn cols c.col)(h:cellE c m n false=0)(hd:mvC rows cols c=some d):cellE d (nwS m rows) (nwS n cols) false=0:=by
 obtain⟨a1,a2,rfl⟩:=z5t hd
 obtain⟨h1,h2,h3,h4,h5⟩:=z4n.1 h
 have b1:=y6H (m:=m) hr ⟨h1.1,h1.2.1⟩ a1
 have b2:=y6H (m:=n) hc ⟨h1.2.2.1,h1.2.2.2⟩ a2
 exact z4n.2 ⟨⟨b1.1,b1.2,b2.1,b2.2⟩,h2,h3,h4,h5⟩
theorem z60{g:Grid}(hm:g.merges=[]):gridE g=0↔(0≤g.rows∧g.rows≤2147483647∧0≤g.cols∧g.cols≤2147483647)∧z0F g.cells g.rows g.cols false 0=0:=by
 have h0:mergE g.merges g.rows g.cols 0=0:=by rw[hm,mergE,if_neg (by decide)]
 unfold gridE
 by_cases c1:g.rows<0∨2147483647<g.rows∨g.cols<0∨2147483647<g.cols
 ·rw[if_pos c1];exact⟨fun q=>(by cases q),fun q=>by omega⟩
 ·rw[if_neg c1]
  by_cases c2:z0F g.cells g.rows g.cols false 0=0
  ·rw[if_neg (fun q=>q c2),h0];exact⟨fun _=>⟨by omega,c2⟩,fun _=>rfl⟩
  ·rw[if_pos c2];exact⟨fun q=>absurd q c2,fun q=>q.2⟩
theorem y2A{x:Grid}{e:GEd}(h:fitsE x e=0):gridE x=0∧EdOk e∧FitOk x e:=by
 unfold fitsE at h
 split at h
 ·rename_i q;exact absurd h q
 rename_i q
 split at h
 ·rename_i q;exact absurd h q
 rename_i q2
 exact⟨Classical.byContradiction q,y0Z (Classical.byContradiction q2),y3z h⟩
theorem y1N{x:Grid}{e:GEd}{c:Cell}(h:c∈(rawT x e).cells):(c∈e.cells∧z1a c=false)∨∃c0∈x.cells,mvC e.rows e.cols c0=some c:=by
 rcases z3I _ _ c h with h|h
 ·exact .inl h
 ·obtain⟨c0,hc0,hm⟩:=List.mem_filterMap.1 h
  exact .inr ⟨c0,hc0,hm⟩
theorem y2B{x:Grid}{e:GEd}(hm:x.merges=[])(h:fitsE x e=0)(hr:RawT x e):gridE (rawT x e)=0:=by
 obtain⟨hg,he,hf⟩:=y2A h
 obtain⟨g1,g2⟩:=(z60 hm).1 hg
 have b1:=y6o (n:=x.rows) he.okr (by omega)
 have b2:=y6o (n:=x.cols) he.okc (by omega)
 obtain⟨a1,a2⟩:=z4F.1 g2
 obtain⟨c1,c2⟩:=z4F.1 he.cells
 refine(z60 rfl).2 ⟨⟨b1.1,b1.2,b2.1,b2.2⟩,z4F.2 ⟨fun c hc=> ?_,z6m _ _ c2 (y4J a2 hr.p1 hr.p2)⟩⟩
 rcases y1N hc with⟨h,he'⟩| ⟨c0,hc0,hmv⟩
 ·obtain⟨q1,q2,q3,q4,_⟩:=z4n.1 (c1 c h)
  have:=hf.cells c h
  exact z4n.2 ⟨⟨q1.1,this.1,q1.2.2.1,this.2⟩,q2,q3,q4,fun _=>he'⟩
 ·exact y52 (hr.p1 c0 hc0) (hr.p2 c0 hc0) (a1 c0 hc0) hmv
theorem z9j{k:Int}{l:List Cell}(hk:k≠6)(h:∀c∈l,c.attrs=[]∧c.text.size=0):∀(n i:Nat),l.length-i=n→cellK k l i=0
 |0,i,hn=>by rw[cellK,if_neg (by omega)]
 |n+1,i,hn=>by
  have hc:=h _ (z0g (l:=l) (i:=i) (by omega))
  rw[cellK,if_pos (by omega),if_neg]
  ·exact z9j hk h n (i+1) (by omega)
  ·rintro(⟨_,q|q⟩| ⟨q,_⟩)
   ·rw[z2T,decide_eq_false_iff_not] at q;omega
   ·rw[hc.1] at q;exact absurd q (by decide)
   ·exact hk q
end Go.Ch
end
section
set_option linter.unusedVariables false
set_option linter.unusedSimpArgs false
namespace Go.Ch
open Go Go.Ab
variable {U:US}
theorem z9k{t:Bool}{f:List Elem}:∀(n i:Nat),f.length-i=n→(flowX t f i=0↔∀j,i≤j→j<f.length→elemE (f.getD j default)=0∧(t=false→(f.getD j default).ref≠0))
 |0,i,h=>by rw[flowX,if_neg (by omega)];exact⟨fun _ j h1 h2=>by omega,fun _=>rfl⟩
 |n+1,i,h=>by
  have hi:i<f.length:=by omega
  have hm:f.length- (i+1)=n:=by omega
  by_cases h1:elemE (f.getD i default)≠0
  ·rw[z8P hi h1];exact⟨fun q=>absurd q h1,fun q=>absurd (q i (Nat.le_refl _) hi).1 h1⟩
  ·have h1':elemE (f.getD i default)=0:=Classical.byContradiction h1
   by_cases h2:t=false∧(f.getD i default).ref=0
   ·rw[z6K hi h1' h2];exact⟨fun q=>(by cases q),fun q=>absurd h2.2 ((q i (Nat.le_refl _) hi).2 h2.1)⟩
   ·have h2':t=true∨(f.getD i default).ref≠0:=by
     cases t with
     |true=>exact .inl rfl
     |false=>exact .inr (fun q=>h2 ⟨rfl,q⟩)
    rw[z6L hi h1' h2',z9k n (i+1) hm]
    refine⟨fun q j j1 j2=> ?_,fun q j j1 j2=>q j (by omega) j2⟩
    by_cases e:j=i
    ·subst e;exact⟨h1',fun z z2=>h2 ⟨z,z2⟩⟩
    ·exact q j (by omega) j2
theorem z6n{t:Bool}{f:List Elem}:flowZ t f=0↔(∀x∈f,elemE x=0∧(t=false→x.ref≠0))∧(t=true→0<f.length∧(f.getD (f.length- 1) default).char=10):=by
 have hx:flowX t f 0=0↔∀x∈f,elemE x=0∧(t=false→x.ref≠0):=by
  rw[z9k _ 0 rfl]
  refine⟨fun h x hx=> ?_,fun h j _ hj=>h _ (z0g hj)⟩
  obtain⟨j,hj,rfl⟩:=z0C hx
  exact h j (Nat.zero_le _) hj
 by_cases h1:flowX t f 0=0
 ·rw[z5Y h1]
  constructor
  ·intro h
   refine⟨hx.1 h1,fun ht=> ?_⟩
   split at h
   ·cases h
   ·rename_i q
    constructor
    ·apply Classical.byContradiction;intro z;exact q ⟨ht,.inl (by omega)⟩
    ·apply Classical.byContradiction;intro z;exact q ⟨ht,.inr z⟩
  ·rintro⟨_,h⟩
   rw[if_neg]
   rintro⟨a,b⟩
   have:=h a
   rcases b with b|b
   ·omega
   ·exact b this.2
 ·rw[z5X rfl h1]
  exact⟨fun h=>absurd h h1,fun h=>absurd (hx.2 h.1) h1⟩
theorem z1Y:∀(us:List DU) (f:List Elem) (x:Elem),x∈z0j us f→DU.A x∈us∨∃y∈f,x.char=y.char∧x.ref=y.ref
 | [],f,x,h=>by cases h
 | .A e::us,f,x,h=>by
  rw[z0j] at h
  rcases List.mem_cons.1 h with rfl|h
  ·exact .inl (by simp)
  ·exact(z1Y us f x h).imp (fun q=>by simp[q]) id
 | .K c::us,y::f,x,h=>by
  rw[z0j] at h
  rcases List.mem_cons.1 h with rfl|h
  ·exact .inr ⟨y,by simp,rfl,rfl⟩
  ·exact(z1Y us f x h).imp (fun q=>by simp[q]) (fun⟨z,hz,q⟩=>⟨z,by simp[hz],q⟩)
 | .C::us,y::f,x,h=>by
  rw[z0j] at h
  exact(z1Y us f x h).imp (fun q=>by simp[q]) (fun⟨z,hz,q⟩=>⟨z,by simp[hz],q⟩)
 | .K c::us,[],x,h=>by rw[z0j] at h;exact(z1Y us [] x h).imp (fun q=>by simp[q]) id
 | .C::us,[],x,h=>by rw[z0j] at h;exact(z1Y us [] x h).imp (fun q=>by simp[q]) id
theorem exD_A{e:Elem}:∀{s:List DStep},DU.A e∈exD s→∃t∈s,e∈t.elems
 | [],h=>by cases h
 |t::s,h=>by
  rw[exD] at h
  rcases List.mem_append.1 h with h|h
  ·refine⟨t,by simp,?_⟩
   unfold exS at h
   split at h
   ·simpa using h
   ·split at h
    ·have:=List.eq_of_mem_replicate h;cases this
    ·have:=List.eq_of_mem_replicate h;cases this
  ·obtain⟨a,b,c⟩:=exD_A h
   exact⟨a,by simp[b],c⟩
theorem z1S:∀(u v:List DU) (l r:List Elem),oldN u=l.length→z0j (u++v) (l++r)=z0j u l++z0j v r
 | [],v,l,r,h=>by
  have:l=[]:=List.eq_nil_of_length_eq_zero (by simpa[oldN] using h.symm)
  subst this;rfl
 | .A e::u,v,l,r,h=>by rw[List.cons_append,z0j,z0j,z1S u v l r (by simpa[oldN] using h)];rfl
 | .K c::u,v,[],r,h=>by simp[oldN] at h
 | .C::u,v,[],r,h=>by simp[oldN] at h
 | .K c::u,v,x::l,r,h=>by rw[List.cons_append,List.cons_append,z0j,z0j,z1S u v l r (by simpa[oldN] using h)];rfl
 | .C::u,v,x::l,r,h=>by rw[List.cons_append,List.cons_append,z0j,z0j,z1S u v l r (by simpa[oldN] using h)]
theorem z7Z{α:Type}[Inhabited α]{a b:List α}(h:0<b.length):(a++b).getD ((a++b).length- 1) default=b.getD (b.length- 1) default:=by
 rw[List.length_append,List.getD_eq_getElem?_getD,List.getElem?_append_right (by omega),List.getD_eq_getElem?_getD,show a.length+b.length- 1-a.length=b.length- 1 by omega]
theorem y53{f:List Elem}{s:List DStep}(hv:z0W s)(hl:oldD s=(f.length:Int))(he:endsD s=true):0< (rawD f s).length∧((rawD f s).getD ((rawD f s).length- 1) default).char=(f.getD (f.length- 1) default).char:=by
 unfold endsD at he
 rw[Bool.and_eq_true,decide_eq_true_eq,beq_iff_eq] at he
 obtain⟨h0,hk⟩:=he
 have hne:s≠[]:=fun e=>by rw[e] at h0;exact absurd h0 (by decide)
 obtain⟨t,ht⟩:∃t,s=s.dropLast++[t]:=⟨s.getLast hne,(List.dropLast_concat_getLast hne).symm⟩
 generalize s.dropLast=i at ht
 subst ht
 have hg:(i++[t]).getD ((i++[t]).length- 1) default=t:=by rw[z7Z (by simp)];rfl
 rw[hg] at hk
 have ho:=hv.1.all t (by simp)
 have hn:1≤t.n∧t.elems=[]:=by
  rcases ho with⟨k,_⟩| ⟨_,e,_,n,_⟩
  ·omega
  ·exact⟨n,e⟩
 have hL:=z4X hv
 have ex:exD (i++[t])=exD i++List.replicate t.n.toNat (.K t.attrs):=by
  rw[z3E];congr 1
  simp only[exD,List.append_nil]
  unfold exS
  rw[if_neg (by omega),if_neg (by omega)]
 have ho2:oldN (exD i)+t.n.toNat=f.length:=by
  have:=hL.1
  rw[ex,z0E,(z1p _ _).1] at this
  omega
 have hs:z0j (exD (i++[t])) f=z0j (exD i) (f.take (oldN (exD i)))++(f.drop (oldN (exD i))).map (chgE t.attrs):=by
  conv=>lhs;rw[←List.take_append_drop (oldN (exD i)) f]
  rw[ex,z1S _ _ _ _ (by rw[List.length_take];omega)]
  congr 1
  have:=z8V t.n.toNat t.attrs [] (f.drop (oldN (exD i)))
  rw[List.append_nil] at this
  rw[this,List.take_of_length_le (by rw[List.length_drop];omega)]
  simp[z0j]
 have hdl:(f.drop (oldN (exD i))).length=t.n.toNat:=by rw[List.length_drop];omega
 unfold rawD
 rw[hs]
 refine⟨by rw[List.length_append,List.length_map,hdl];omega,?_⟩
 rw[z7Z (by rw[List.length_map,hdl];omega),List.length_map,hdl]
 have e1:((f.drop (oldN (exD i))).map (chgE t.attrs)).getD (t.n.toNat- 1) default=chgE t.attrs (f.getD (f.length- 1) default):=by
  rw[List.getD_eq_getElem?_getD,List.getElem?_map,List.getElem?_drop,show oldN (exD i)+(t.n.toNat- 1)=f.length- 1 by omega,List.getElem?_eq_getElem (show f.length- 1<f.length by omega),List.getD_eq_getElem?_getD,List.getElem?_eq_getElem (show f.length- 1<f.length by omega)]
  rfl
 rw[e1];rfl
theorem y0c{l:List Node}{n:Node}{s:List DStep}(h:z0X l n s=0):(hasT n.kind=true∨hasL n.kind=true)∧oldD s=(n.flow.length:Int)∧(hasT n.kind=true→endsD s=true)∧∀t∈s,∀x∈t.elems,newE l n.kind x=0:=by
 unfold z0X at h
 split at h
 ·cases h
 rename_i h1
 split at h
 ·cases h
 rename_i h2
 split at h
 ·cases h
 rename_i h3
 refine⟨?_,Classical.byContradiction h2,fun ht=> ?_,fun t ht x hx=>z3F (z3F h t ht) x hx⟩
 ·apply Classical.byContradiction;intro q
  rw[not_or,Bool.not_eq_true,Bool.not_eq_true] at q
  exact h1 q
 ·apply Classical.byContradiction;intro q
  exact h3 ⟨ht,by simpa using q⟩
theorem z61{l:List Node}(hs:SortN l){k:Int}{x:Elem}(h:newE l k x=0):(hasT k=false→x.ref≠0)∧(x.ref≠0→∃m∈l,m.id=x.ref∧permB k m.kind=true):=by
 unfold newE at h
 split at h
 ·cases h
 rename_i h1
 refine⟨fun q z=>h1 ⟨z,q⟩,fun q=>(z4m hs).1 h x.ref ?_⟩
 unfold refsF;simp[q]
theorem z62{l:List DOp}{i:Nat}(h:i<l.length):l.getD i default=l[i]:=by simp[List.getD,List.getElem?_eq_getElem h]
theorem y1O{l:List DOp}:∀(d i:Nat),l.length-i=d→(drawE l i=0↔(∀j,i≤j→j<l.length→opE (l.getD j default)=0)∧∀j,i≤j→0<j→j<l.length→ltO (l.getD (j- 1) default) (l.getD j default))
 |0,i,h=>by rw[drawE,if_neg (by omega)];exact⟨fun _=>⟨fun j _ _=>by omega,fun j _ _ _=>by omega⟩,fun _=>rfl⟩
 |d+1,i,h=>by
  have hm:l.length- (i+1)=d:=by omega
  rw[drawE,if_pos (by omega)]
  by_cases h1:opE (l.getD i default)=0
  ·rw[if_neg (fun hh=>hh h1)]
   by_cases h2:0<i∧¬ltO (l.getD (i- 1) default) (l.getD i default)
   ·rw[if_pos h2]
    exact⟨fun h=>(by cases h),fun h=>absurd (h.2 i (Nat.le_refl _) h2.1 (by omega)) h2.2⟩
   ·rw[if_neg h2,y1O d (i+1) hm]
    refine⟨fun⟨a,b⟩=>⟨fun j hj hl=> ?_,fun j hj h0 hl=> ?_⟩,fun⟨a,b⟩=>⟨fun j hj hl=>a j (by omega) hl,fun j hj h0 hl=>b j (by omega) h0 hl⟩⟩
    ·by_cases e:j=i
     ·rw[e];exact h1
     ·exact a j (by omega) hl
    ·by_cases e:j=i
     ·subst e;exact Classical.byContradiction (fun hh=>h2 ⟨h0,hh⟩)
     ·exact b j (by omega) h0 hl
  ·rw[if_pos h1]
   exact⟨fun h=>absurd h h1,fun h=>h.1 i (Nat.le_refl _) (by omega)⟩
theorem z70{l:List DOp}:drawE l 0=0↔(∀o∈l,opE o=0)∧l.Pairwise ltO:=by
 rw[y1O _ 0 rfl]
 constructor
 ·rintro⟨a,b⟩
  refine⟨fun o ho=> ?_,List.pairwise_iff_getElem.2 fun i j hi hj hij=> ?_⟩
  ·obtain⟨j,hj,rfl⟩:=z0C ho;exact a j (Nat.zero_le _) hj
  ·obtain⟨d,rfl⟩:∃d,j=i+1+d:=⟨j-i- 1,by omega⟩
   clear hij
   induction d with
   |zero=>have:=b (i+1) (Nat.zero_le _) (by omega) hj;rwa [show i+1- 1=i by omega,z62 hi,z62 hj] at this
   |succ d ih=>
    have h1:=ih (by omega)
    have h2:=b (i+1+(d+1)) (Nat.zero_le _) (by omega) hj
    rw[show i+1+(d+1)- 1=i+1+d by omega,z62 (by omega),z62 hj] at h2
    exact z5T h1 h2
 ·rintro⟨a,b⟩
  refine⟨fun j _ hj=>a _ (z0g hj),fun j _ h0 hj=> ?_⟩
  rw[z62 (by omega),z62 hj]
  exact List.pairwise_iff_getElem.1 b (j- 1) j _ _ (by omega)
theorem y54(x y:List DOp):∀z,z0w x y=some z→x.Pairwise ltO→y.Pairwise ltO→(∀o∈z,o∈x∨o∈y)∧z.Pairwise ltO∧z.length≤x.length+y.length:=by
 induction x,y using z0w.induct with
 |case1=>intro z h hx hy;rw[z0w] at h;cases h;exact⟨(fun o ho=>by cases ho),List.Pairwise.nil,Nat.le_refl _⟩
 |case2 a l ih=>
  intro z h hx hy
  rw[z0w,Option.map_eq_some_iff] at h
  obtain⟨w,hw,rfl⟩:=h
  obtain⟨h1,h2,h3⟩:=ih w hw (List.pairwise_cons.1 hx).2 hy
  refine⟨fun o ho=> ?_,List.pairwise_cons.2 ⟨fun b hb=>(List.pairwise_cons.1 hx).1 b ((h1 b hb).resolve_right (fun q=>by cases q)),h2⟩,by simp at h3⊢;omega⟩
  rcases List.mem_cons.1 ho with rfl|ho
  ·exact .inl (by simp)
  ·exact(h1 o ho).imp (fun q=>by simp[q]) id
 |case3 b r ih=>
  intro z h hx hy
  rw[z0w,Option.map_eq_some_iff] at h
  obtain⟨w,hw,rfl⟩:=h
  obtain⟨h1,h2,h3⟩:=ih w hw hx (List.pairwise_cons.1 hy).2
  refine⟨fun o ho=> ?_,List.pairwise_cons.2 ⟨fun c hc=>(List.pairwise_cons.1 hy).1 c ((h1 c hc).resolve_left (fun q=>by cases q)),h2⟩,by simp at h3⊢;omega⟩
  rcases List.mem_cons.1 ho with rfl|ho
  ·exact .inr (by simp)
  ·exact(h1 o ho).imp id (fun q=>by simp[q])
 |case4 a l b r hab ih=>
  intro z h hx hy
  rw[z0w,if_pos hab,Option.map_eq_some_iff] at h
  obtain⟨w,hw,rfl⟩:=h
  obtain⟨h1,h2,h3⟩:=ih w hw (List.pairwise_cons.1 hx).2 hy
  refine⟨fun o ho=> ?_,List.pairwise_cons.2 ⟨fun c hc=> ?_,h2⟩,by simp at h3⊢;omega⟩
  ·rcases List.mem_cons.1 ho with rfl|ho
   ·exact .inl (by simp)
   ·exact(h1 o ho).imp (fun q=>by simp[q]) id
  ·rcases h1 c hc with q|q
   ·exact(List.pairwise_cons.1 hx).1 c q
   ·rcases List.mem_cons.1 q with rfl|q
    ·exact hab
    ·exact z5T hab ((List.pairwise_cons.1 hy).1 c q)
 |case5 a l b r hab hba ih=>
  intro z h hx hy
  rw[z0w,if_neg hab,if_pos hba,Option.map_eq_some_iff] at h
  obtain⟨w,hw,rfl⟩:=h
  obtain⟨h1,h2,h3⟩:=ih w hw hx (List.pairwise_cons.1 hy).2
  refine⟨fun o ho=> ?_,List.pairwise_cons.2 ⟨fun c hc=> ?_,h2⟩,by simp at h3⊢;omega⟩
  ·rcases List.mem_cons.1 ho with rfl|ho
   ·exact .inr (by simp)
   ·exact(h1 o ho).imp id (fun q=>by simp[q])
  ·rcases h1 c hc with q|q
   ·rcases List.mem_cons.1 q with rfl|q
    ·exact hba
    ·exact z5T hba ((List.pairwise_cons.1 hx).1 c q)
   ·exact(List.pairwise_cons.1 hy).1 c q
 |case6 l b r hab hba ih=>
  intro z h hx hy
  rw[z0w,if_neg hab,if_neg hba,if_pos rfl,Option.map_eq_some_iff] at h
  obtain⟨w,hw,rfl⟩:=h
  obtain⟨h1,h2,h3⟩:=ih w hw (List.pairwise_cons.1 hx).2 (List.pairwise_cons.1 hy).2
  refine⟨fun o ho=> ?_,List.pairwise_cons.2 ⟨fun c hc=> ?_,h2⟩,by simp at h3⊢;omega⟩
  ·rcases List.mem_cons.1 ho with rfl|ho
   ·exact .inl (by simp)
   ·exact(h1 o ho).imp (fun q=>by simp[q]) (fun q=>by simp[q])
  ·rcases h1 c hc with q|q
   ·exact(List.pairwise_cons.1 hx).1 c q
   ·exact(List.pairwise_cons.1 hy).1 c q
 |case7 a l b r hab hba hne=>intro z h;rw[z0w,if_neg hab,if_neg hba,if_neg hne] at h;cases h
end Go.Ch
end
section
set_option linter.unusedVariables false
set_option linter.unusedSimpArgs false
namespace Go.Ch
open Go Go.Ab
variable {U:US}
structure GP(U:US)(m:Nat)(l:List Node):Prop where
 vd:VD l
 nd:∀n∈l,NG U n∧NZ m n
theorem NZ.mono{m k:Nat}{n:Node}(h:NZ m n)(hm:m≤k):NZ k n:=⟨Nat.le_trans h.fl hm,Nat.le_trans h.ce hm,Nat.le_trans h.dr hm⟩
theorem GP.mono{m k:Nat}{l:List Node}(h:GP U m l)(hm:m≤k):GP U k l:=⟨h.vd,fun n hn=>⟨(h.nd n hn).1,(h.nd n hn).2.mono hm⟩⟩
theorem GP.set{l:List Node}{m k:Nat}(h:GP U m l)(hm:m≤k){i:Nat}(hi:i<l.length){n:Node}(hid:n.id=(l.getD i default).id)(hk:n.kind=(l.getD i default).kind)(hn:nodeE n=0)(hr:∀r∈refsN n,∃m∈l,m.id=r∧permB n.kind m.kind=true)(hg:NG U n)(hz:NZ k n):GP U k (l.set i n):=by
 refine⟨h.vd.set hi hid hk hn hr,fun x hx=> ?_⟩
 rcases List.mem_or_eq_of_mem_set hx with q|rfl
 ·exact⟨(h.nd x q).1,(h.nd x q).2.mono hm⟩
 ·exact⟨hg,hz⟩
theorem z4o{l:List Node}{o:EOp}(hk:o.kind≠0)(h0:oneE l o=0):hasN l o.node=true∧lobN l o.node<l.length∧oneL l o=l.set (lobN l o.node) (oneN (l.getD (lobN l o.node) default) o):=by
 have hh:hasN l o.node=true:=by
  apply Classical.byContradiction;intro q
  have:=(one_1 hk (by simpa using q)).2
  omega
 exact⟨hh,(z08.1 hh).1,one_s hk h0⟩
theorem y70{l:List Node}{o:EOp}(hk:o.kind≠0)(h0:oneE l o=0):(oneL l o).length=l.length∧∀x∈oneL l o,∃n∈l,x.id=n.id:=by
 obtain⟨h1,h2,h3⟩:=z4o hk h0
 rw[h3]
 refine⟨List.length_set ..,fun x hx=> ?_⟩
 rcases List.mem_or_eq_of_mem_set hx with q|rfl
 ·exact⟨x,q,rfl⟩
 ·refine⟨_,z0g h2,?_⟩
  unfold oneN;repeat' split
  all_goals rfl
theorem z4G{n:Node}(h:nodeE n=0):drawE n.draw 0=0:=by
 obtain⟨p1,p2,p3,p4,p5,p6,p7⟩:=z1X h
 by_cases q:hasD n.kind=true
 ·exact p7 q
 ·have:¬0<n.draw.length:=fun z=>q (p4.2.2 z)
  rw[drawE,if_neg this]
theorem keepA{l:List Node}{m:Nat}(h:GP U m l){k:Int}{c:List Attr}(hc:VU U true c)(h0:oneE l (opA k c)=0):GP U m (oneL l (opA k c)):=by
 obtain⟨h1,h2,h3⟩:=z4o (o:=opA k c) (show(1:Int)≠0 by decide) h0
 have h3:oneL l (opA k c)=l.set (lobN l k) {(l.getD (lobN l k) default) with attrs:=fm rawG (l.getD (lobN l k) default).attrs c}:=h3
 rw[h3]
 have h2:lobN l k<l.length:=h2
 have hm:=z0g h2
 obtain⟨g,z⟩:=h.nd _ hm
 have hv:=raw_V nu_mt g.at1 hc
 have hn:=h.vd.node _ hm
 have hdr:=z4G hn
 obtain⟨p1,p2,p3,p4,p5,p6,p7⟩:=z1X hn
 exact h.set (Nat.le_refl _) h2 rfl rfl (z7W p1 p2 (VU.g hv) p4 p5 p6 (.inl hdr)) (fun r hr=>h.vd.refs _ hm r hr) ⟨hv,g.fl,g.mg,g.ce,g.dr,g.kd⟩ ⟨z.fl,z.ce,z.dr⟩
theorem z9l{f:List Elem}{r:Int}:r∈refsF f↔∃x∈f,x.ref=r∧r≠0:=by
 unfold refsF
 rw[List.mem_filterMap]
 constructor
 ·rintro⟨x,hx,h⟩
  split at h
  ·rename_i q;cases h;exact⟨x,hx,rfl,q⟩
  ·cases h
 ·rintro⟨x,hx,rfl,h⟩
  exact⟨x,hx,by rw[if_pos h]⟩
theorem z9m{f:List Cell}{r:Int}:r∈refsC f↔∃x∈f,x.ref=r∧r≠0:=by
 unfold refsC
 rw[List.mem_filterMap]
 constructor
 ·rintro⟨x,hx,h⟩
  split at h
  ·rename_i q;cases h;exact⟨x,hx,rfl,q⟩
  ·cases h
 ·rintro⟨x,hx,rfl,h⟩
  exact⟨x,hx,by rw[if_pos h]⟩
theorem keepF{l:List Node}{m q:Nat}(h:GP U m l){k:Int}{s:List DStep}{us:List DU}(hd:DU_ U s us)(hq:newD s≤oldD s+q)(h0:oneE l (opF k s)=0):GP U (m+q) (oneL l (opF k s)):=by
 obtain⟨h1,h2,h3⟩:=z4o (o:=opF k s) (show(2:Int)≠0 by decide) h0
 have h3:oneL l (opF k s)=l.set (lobN l k) {(l.getD (lobN l k) default) with flow:=rawD (l.getD (lobN l k) default).flow s}:=h3
 rw[h3]
 have h2:lobN l k<l.length:=h2
 have hm:=z0g h2
 have hf:z0X l (l.getD (lobN l k) default) s=0:=(one_3 (o:=opF k s) h1 rfl).2.symm.trans h0
 obtain⟨g,z⟩:=h.nd _ hm
 have hn:=h.vd.node _ hm
 have hdr:=z4G hn
 obtain⟨p1,p2,p3,p4,p5,p6,p7⟩:=z1X hn
 obtain⟨f1,f2,f3,f4⟩:=y0c hf
 have hlen:=z4X hd.v
 have hall:∀x∈rawD (l.getD (lobN l k) default).flow s,RU U x:=z1W _ _ hd.ex g.fl
 have hl:(rawD (l.getD (lobN l k) default).flow s).length=newN (exD s):=z3m _ _ (by omega)
 have hsrc:∀x∈rawD (l.getD (lobN l k) default).flow s,newE l (l.getD (lobN l k) default).kind x=0∨∃y∈(l.getD (lobN l k) default).flow,x.char=y.char∧x.ref=y.ref:=fun x hx=>by
  rcases z1Y _ _ x hx with q|q
  ·obtain⟨t,ht,hx'⟩:=exD_A q
   exact .inl (f4 t ht x hx')
  ·exact .inr q
 have hz:=z6n.1 (p5 f1)
 refine h.set (Nat.le_add_right _ _) h2 rfl rfl (z7W p1 p2 p3 ⟨fun _=>f1,p4.2.1,p4.2.2⟩ (fun _=>z6n.2 ⟨fun x hx=>⟨(hall x hx).1,fun ht=> ?_⟩,fun ht=> ?_⟩) p6 (.inl hdr)) (fun r hr=> ?_) ⟨g.at1,hall,g.mg,g.ce,g.dr,g.kd⟩ ⟨?_,Nat.le_trans z.ce (Nat.le_add_right _ _),Nat.le_trans z.dr (Nat.le_add_right _ _)⟩
 ·rcases hsrc x hx with q| ⟨y,hy,_,e⟩
  ·exact(z61 h.vd.srt q).1 ht
  ·rw[e];exact(hz.1 y hy).2 ht
 ·have a:=hz.2 ht
  have b:=y53 hd.v f2 (f3 ht)
  exact⟨b.1,b.2.trans a.2⟩
 ·rcases List.mem_append.1 hr with hr|hr
  ·obtain⟨x,hx,rfl,hx0⟩:=z9l.1 hr
   rcases hsrc x hx with q| ⟨y,hy,_,e⟩
   ·exact(z61 h.vd.srt q).2 hx0
   ·exact h.vd.refs _ hm x.ref (List.mem_append_left _ (z9l.2 ⟨y,hy,e.symm,hx0⟩))
  ·exact h.vd.refs _ hm r (List.mem_append_right _ hr)
 ·have:=z.fl
  show(rawD (l.getD (lobN l k) default).flow s).length≤m+q
  omega
theorem y0d{l:List Node}{n:Node}{g:GEd}(h:z06 l n g=0):hasG n.kind=true∧cellK n.kind g.cells 0=0∧fitsE n.grid g=0∧∀c∈g.cells,newC l n.kind c=0:=by
 unfold z06 at h
 split at h
 ·cases h
 rename_i h1
 split at h
 ·rename_i q;exact absurd h q
 rename_i h2
 split at h
 ·rename_i q;exact absurd h q
 rename_i h3
 exact⟨by simpa using h1,Classical.byContradiction h2,Classical.byContradiction h3,z3F h⟩
theorem y4K(c:Cell){k:List Cell→List Cell}{q:Nat}(hk:∀l,(k l).length≤l.length+q):∀(l:List Cell),(putC c k l).length≤l.length+(q+1)
 | []=>by
  have:=hk []
  unfold putC;split<;>simp at this⊢ <;>omega
 |x::l=>by
  have h1:=y4K c hk l
  have h2:=hk l
  have h3:=hk (x::l)
  unfold putC
  repeat' split
  all_goals simp only[List.length_cons,List.length_append,List.length_nil] at* <;>omega
theorem y6I:∀(a b:List Cell),(putL a b).length≤b.length+a.length
 | [],b=>by simp[putL]
 |c::a,b=>y4K c (fun l=>y6I a l) b
theorem y71(a b:List Cell):(putL a b).length≤a.length+b.length:=by have:=y6I a b;omega
theorem keepG{l:List Node}{m:Nat}(h:GP U m l){k:Int}{g:GEd}(hl:LiteE g)(hc:∀c∈g.cells,c.attrs=[]∧c.text.size=0)(hm1:m≤100000)(h0:oneE l (opG k g)=0):GP U (m+g.cells.length) (oneL l (opG k g)):=by
 obtain⟨h1,h2,h3⟩:=z4o (o:=opG k g) (show(3:Int)≠0 by decide) h0
 have h3:oneL l (opG k g)=l.set (lobN l k) {(l.getD (lobN l k) default) with grid:=rawT (l.getD (lobN l k) default).grid g}:=h3
 rw[h3]
 have h2:lobN l k<l.length:=h2
 have hm:=z0g h2
 have hf:z06 l (l.getD (lobN l k) default) g=0:=(one_4 (o:=opG k g) h1 rfl).2.symm.trans h0
 obtain⟨gd,z⟩:=h.nd _ hm
 have hn:=h.vd.node _ hm
 have hdr:=z4G hn
 obtain⟨p1,p2,p3,p4,p5,p6,p7⟩:=z1X hn
 obtain⟨f1,f2,f3,f4⟩:=y0d hf
 have zc:=z.ce
 have hr:RawT (l.getD (lobN l k) default).grid g:=RawT.of f3 gd.mg hl (by omega) hl.ln (fun c hc'=>by rw[(gd.ce c hc').1];decide) (fun c hc'=>by rw[(hc c hc').1];decide)
 have hcell:∀c∈(rawT (l.getD (lobN l k) default).grid g).cells,(c.attrs=[]∧c.text.size=0)∧(c.ref≠0→∃x∈l,x.id=c.ref∧permB (l.getD (lobN l k) default).kind x.kind=true):=fun c hc'=>by
  rcases y1N hc' with⟨q,_⟩| ⟨c0,q,hmv⟩
  ·refine⟨hc c q,fun hc0=> ?_⟩
   have:=f4 c q
   rw[y1f hc0] at this
   exact(z4m h.vd.srt).1 this c.ref (by simp)
  ·obtain⟨_,_,rfl⟩:=z5t hmv
   exact⟨gd.ce c0 q,fun hc0=>h.vd.refs _ hm c0.ref (List.mem_append_right _ (z9m.2 ⟨c0,q,rfl,hc0⟩))⟩
 refine h.set (Nat.le_add_right _ _) h2 rfl rfl (z7W p1 p2 p3 ⟨p4.1,fun _=>f1,p4.2.2⟩ p5 (fun _=>⟨y2B gd.mg f3 hr,z9j gd.kd (fun c hc'=>(hcell c hc').1) _ 0 rfl⟩) (.inl hdr)) (fun r hr'=> ?_) ⟨gd.at1,gd.fl,rfl,fun c hc'=>(hcell c hc').1,gd.dr,gd.kd⟩ ⟨Nat.le_trans z.fl (Nat.le_add_right _ _),?_,Nat.le_trans z.dr (Nat.le_add_right _ _)⟩
 ·rcases List.mem_append.1 hr' with q|q
  ·exact h.vd.refs _ hm r (List.mem_append_left _ q)
  ·obtain⟨c,hc',rfl,hc0⟩:=z9m.1 q
   exact(hcell c hc').2 hc0
 ·have a:=y71 g.cells (movL (l.getD (lobN l k) default).grid.cells g.rows g.cols)
  have b:=z7A (l.getD (lobN l k) default).grid.cells g.rows g.cols
  show(putL g.cells (movL (l.getD (lobN l k) default).grid.cells g.rows g.cols)).length≤_
  omega
theorem y8O{l:List Node}{m:Nat}(h:GP U m l){k:Int}{c:List DOp}(hs:∀o∈c,o.plc.size≤100∧o.nm.size≤100∧o.vl.size≤100)(hc:drawE c 0=0)(h0:oneE l (opD k c)=0):GP U (m+c.length) (oneL l (opD k c)):=by
 obtain⟨h1,h2,h3⟩:=z4o (o:=opD k c) (show(4:Int)≠0 by decide) h0
 have h3:oneL l (opD k c)=l.set (lobN l k) {(l.getD (lobN l k) default) with draw:=(z0w (l.getD (lobN l k) default).draw c).getD []}:=h3
 rw[h3]
 have h2:lobN l k<l.length:=h2
 have hm:=z0g h2
 have hd:z6P (l.getD (lobN l k) default) c=0:=(one_d (o:=opD k c) h1 rfl).symm.trans h0
 unfold z6P at hd
 split at hd
 ·cases hd
 rename_i hd1
 split at hd
 rotate_left
 ·cases hd
 rename_i hd2
 obtain⟨w,hw⟩:=Option.isSome_iff_exists.1 hd2
 obtain⟨g,z⟩:=h.nd _ hm
 have hn:=h.vd.node _ hm
 have hdr:=z4G hn
 obtain⟨p1,p2,p3,p4,p5,p6,p7⟩:=z1X hn
 have a:=z70.1 (z4G hn)
 have b:=z70.1 hc
 obtain⟨u1,u2,u3⟩:=y54 _ _ w hw a.2 b.2
 rw[hw]
 have hz:=z.dr
 refine h.set (Nat.le_add_right _ _) h2 rfl rfl (z7W p1 p2 p3 ⟨p4.1,p4.2.1,fun _=>by simpa using hd1⟩ p5 p6 (.inl (z70.2 ⟨fun o ho=> ?_,u2⟩))) (fun r hr=>h.vd.refs _ hm r hr) ⟨g.at1,g.fl,g.mg,g.ce,fun o ho=> ?_,g.kd⟩ ⟨Nat.le_trans z.fl (Nat.le_add_right _ _),Nat.le_trans z.ce (Nat.le_add_right _ _),(by show w.length≤_;omega)⟩
 ·exact(u1 o ho).elim (a.1 o) (b.1 o)
 ·exact(u1 o ho).elim (g.dr o) (hs o)
theorem keepN{l:List Node}{m:Nat}(h:GP U m l){n:Node}(hg:NG U n)(hz:NZ m n)(hv:nodeE n=0)(hl:∀x∈l,x.id<n.id)(h0:oneE l (opN n)=0):oneL l (opN n)=l++[n]∧GP U m (l++[n]):=by
 have ha:adnE l n=0:=(one_0 (o:=opN n) rfl).2.symm.trans h0
 have hn:hasN l n.id=false:=by
  cases q:hasN l n.id with
  |false=>rfl
  |true=>rw[(ins_1 (l:=l) (n:=n) q).2] at ha;cases ha
 have hr:refsE l n.kind (refsN n) 0=0:=(ins_f hn).symm.trans ha
 have hlo:lobN l n.id=l.length:=by
  obtain⟨s1,s2,s3⟩:=z1R l n.id
  apply Classical.byContradiction;intro q
  exact s3 (by omega) (hl _ (z0g (by omega)))
 refine⟨(one_0 (o:=opN n) rfl).1.trans (ins_3 hn hr hlo).1,h.vd.add hl hv ((z4m h.vd.srt).1 hr),fun x hx=> ?_⟩
 rcases List.mem_append.1 hx with q|q
 ·exact h.nd x q
 ·rw[List.mem_singleton] at q;subst q;exact⟨hg,hz⟩
end Go.Ch
end
section
set_option linter.unusedVariables false
set_option linter.unusedSimpArgs false
namespace Go.Ch
open Go Go.Ab
variable {U:US}
structure PP(U:US)(s:Int)(k:Nat)(l:List Node):Prop where
 gp:GP U (10+4*k) l
 len:l.length≤3+k
 id:∀n∈l,n.id< (s+1)*65536∧(n.id<4+k∨65536≤n.id)
theorem PP.mono{s:Int}{k k':Nat}{l:List Node}(h:PP U s k l)(hk:k≤k'):PP U s k' l:=
 ⟨h.gp.mono (by omega),by have:=h.len;omega,fun n hn=>by have:=h.id n hn;omega⟩
theorem PP.docL(hU:UB U){s:Int}{k:Nat}{d:Doc}(h:PP U s k d.nodes)(hk:k≤60):DocL d:=y7X hU (m:=10+4*k) (q:=63) (by omega) (by omega) (by have:=h.len;omega) h.gp.nd
theorem PP.doc{s:Int}{k:Nat}{d:Doc}(h:PP U s k d.nodes):docE d=0:=y0b.2 h.gp.vd
theorem y55{l:List Node}{n:Node}(hl:∀x∈l,x.id<n.id):lobN l n.id=l.length:=by
 obtain⟨s1,s2,s3⟩:=z1R l n.id
 apply Classical.byContradiction;intro q
 exact s3 (by omega) (hl _ (z0g (by omega)))
theorem z6o(hU:UB U){s:Int}{k:Nat}{l:List Node}{o:EOp}(h:PP U s k l)(hk:k≤60)(hok:eopE o=0)(hop:OpL o)(hl:o.kind=0→∀x∈l,x.id<o.nw.id):OneB l o:=
 ⟨by have:=h.len;omega,h.gp.vd.srt,hok,hop,fun n hn=>⟨(h.gp.nd n hn).1.b hU (h.gp.nd n hn).2 (by omega),(h.gp.nd n hn).1.lite,(h.gp.nd n hn).1.kd⟩,fun q _=>y55 (hl q)⟩
theorem z71:NodeB ⟨0,0,[],[],⟨0,0,[],[]⟩,[]⟩:=
 ⟨(fun a h=>by cases h),by decide,(fun x h=>by cases h),by decide,(fun x h=>by cases h),(fun c h=>by cases h),by decide,(fun c h=>by cases h),by decide,by decide,(fun o h=>by cases h)⟩
theorem y1P:LiteE ⟨[],[],[],[],[]⟩:=⟨rfl,rfl,(fun c h=>by cases h),by decide⟩
theorem y1Q{k n:Int}{w:Node}{a:List Attr}{s:List DStep}{c:List DOp}:EopL ⟨k,n,w,a,s,⟨[],[],[],[],[]⟩,c⟩:=⟨Nat.zero_le _,Nat.zero_le _,Nat.zero_le _,Nat.zero_le _,Nat.zero_le _⟩
theorem opL_F(hU:UB U){k:Int}{s:List DStep}{us:List DU}(hd:DU_ U s us):OpL (opF k s):=
 ⟨y1Q,z71,⟨rfl,(fun c h=>by cases h)⟩,Nat.zero_le _,(hd.dn hU.len).mono (by omega),y1P,(fun c h=>by cases h),Nat.zero_le _⟩
theorem opL_A{k:Int}{c:List Attr}(hc:c.length≤1048576):OpL (opA k c):=
 ⟨y1Q,z71,⟨rfl,(fun c h=>by cases h)⟩,hc,(fun s h=>by cases h),y1P,(fun c h=>by cases h),Nat.zero_le _⟩
theorem opL_D{k:Int}{c:List DOp}(hc:c.length≤1048576):OpL (opD k c):=
 ⟨y1Q,z71,⟨rfl,(fun c h=>by cases h)⟩,Nat.zero_le _,(fun s h=>by cases h),y1P,(fun c h=>by cases h),hc⟩
theorem opL_N(hU:UB U){n:Node}{m:Nat}(hg:NG U n)(hz:NZ m n)(hm:m≤1048576):OpL (opN n):=
 ⟨y1Q,hg.b hU hz hm,hg.lite,Nat.zero_le _,(fun s h=>by cases h),y1P,(fun c h=>by cases h),Nat.zero_le _⟩
theorem opL_G{k:Int}{g:GEd}(hl:LiteE g)(h1:g.rows.length≤1048576)(h2:g.cols.length≤1048576)(hc:∀c∈g.cells,c.attrs=[]∧c.text.size=0):OpL (opG k g):=
 ⟨⟨h1,h2,hl.ln,by have:=hl.sp;show g.split.length≤_;omega,by have:=hl.me;show g.merge.length≤_;omega⟩,z71,⟨rfl,(fun c h=>by cases h)⟩,Nat.zero_le _,(fun s h=>by cases h),hl,(fun c h=>by rw[(hc c h).1];decide),Nat.zero_le _⟩
def RunG(P:List Node→Prop):List Node→List EOp→Prop
 |l,[]=>P l
 |l,o::c=>P l∧OneB l o∧(oneE l o=0→RunG P (oneL l o) c)
theorem RunG.b{P:List Node→Prop}:∀{l:List Node} {c:List EOp},RunG P l c→RunB l c
 |_,[],_=>trivial
 |_,_::_,h=>⟨h.2.1,fun q=>(h.2.2 q).b⟩
theorem RunG.fin{P:List Node→Prop}:∀{l:List Node} {c:List EOp},RunG P l c→runE l c=0→P (runL l c)
 |_,[],h,_=>h
 |l,o::c,h,h0=>by
  rw[runE] at h0
  split at h0
  ·rename_i q;exact absurd h0 q
  ·rename_i q;exact(h.2.2 (Classical.byContradiction q)).fin h0
theorem run1(hU:UB U){s:Int}{k:Nat}{l:List Node}{o:EOp}(h:PP U s k l)(hk:k≤57)(ho:OneB l o)(hn:oneE l o=0→PP U s (k+3) (oneL l o)):RunG (PP U s (k+3)) l [o]:=⟨h.mono (by omega),ho,hn⟩
theorem y1R(l:List Node)(s:Int):∀m,(nxtF l s m=s*65536∨∃n∈l,n.id/65536=s∧n.id=nxtF l s m)∧(SortN l→m≤l.length→∀i,i<m→(l.getD i default).id/65536=s→(l.getD i default).id≤nxtF l s m)
 |0=>⟨.inl (by simp[nxtF]),fun _ _ i hi=>by omega⟩
 |m+1=>by
  obtain⟨a,b⟩:=y1R l s m
  by_cases hm:m<l.length
  ·rw[z6c hm]
   split
   ·rename_i q
    refine⟨.inr ⟨_,z0g hm,q,rfl⟩,fun hs hl i hi hq=> ?_⟩
    by_cases e:i=m
    ·subst e;exact Int.le_refl _
    ·have:=hs i m (by omega) hm;omega
   ·rename_i q
    refine⟨a,fun hs hl i hi hq=> ?_⟩
    by_cases e:i=m
    ·subst e;exact absurd hq q
    ·exact b hs (by omega) i (by omega) hq
  ·have e:nxtF l s (m+1)=nxtF l s m:=by unfold nxtF;rw[List.take_of_length_le (by omega),List.take_of_length_le (by omega)]
   rw[e]
   exact⟨a,fun hs hl=>by omega⟩
theorem y0e{s:Int}{k:Nat}{d:Doc}(hs:0≤s∧s≤1000)(h:PP U s k d.nodes)(h0:nextE d s=0):(∀x∈d.nodes,x.id<nextN d s)∧1≤nextN d s∧nextN d s< (s+1)*65536∧(nextN d s<4+(k+1:Nat)∨65536≤nextN d s):=by
 have hd:=h.doc
 have hb:nxtF d.nodes s d.nodes.length%65536≠65535:=by
  intro q
  rw[(y6C hd hs q).2] at h0;cases h0
 have e:nextN d s=nxtF d.nodes s d.nodes.length+1:=(y6D hd hs hb).1
 obtain⟨a,b⟩:=y1R d.nodes s d.nodes.length
 have hids:=y3L hd
 generalize nxtF d.nodes s d.nodes.length=z at a b hb e
 rw[e]
 have hz:s*65536≤z∧z< (s+1)*65536- 1∧(z<4+k∨65536≤z):=by
  rcases a with a| ⟨n,hn,q1,q2⟩
  ·have:s=0∨1≤s:=by omega
   omega
  ·have:=h.id n hn;omega
 refine⟨fun x hx=> ?_,by omega,by omega,by omega⟩
 obtain⟨j,hj,rfl⟩:=z0C hx
 have h1:=h.id _ hx
 have h2:=hids _ hx
 by_cases q:(d.nodes.getD j default).id/65536=s
 ·have:=b h.gp.vd.srt (Nat.le_refl _) j hj q;omega
 ·omega
end Go.Ch
end
section
set_option linter.unusedVariables false
set_option linter.unusedSimpArgs false
namespace Go.Ch
open Go Go.Ab
variable {U:US}
structure UN(U:US):Prop extends UB U where
 ti:({data:=#[116,105,116,108,101]}:ByteArray)∈U
 bo:({data:=#[98,111,108,100]}:ByteArray)∈U
 si:({data:=#[115,105,122,101]}:ByteArray)∈U
 ma:({data:=#[109,97,114,107,46,109]}:ByteArray)∈U
 he:({data:=#[104,101,97,100]}:ByteArray)∈U
 li:({data:=#[108,105,115,116]}:ByteArray)∈U
 al:({data:=#[97,108,105,103,110]}:ByteArray)∈U
 ki:kindB∈U
def NmZ(U:US)(c:List Attr):Prop:=∀a∈c,a.name∈U∧a.val∉U.no
theorem vu_of{e:Bool}{l:List Attr}(h:VG e l)(hn:NmZ U l):VU U e l:=⟨h.1,fun a ha=>⟨⟨(h.2 a ha).1,(hn a ha).1⟩,(h.2 a ha).2.imp (fun q=>⟨q,(hn a ha).2⟩) (fun q=>q)⟩⟩
theorem y8P{n:Node}(h:eopE (opN n)=0):nodeE n=0:=by
 unfold eopE at h
 split at h
 ·cases h
 split at h
 ·cases h
 ·rwa [if_pos (show(opN n).kind=0 from rfl)] at h
theorem y8Q{k:Int}{c:List Attr}(h:eopE (opA k c)=0):chkA true c 0=0:=by
 unfold eopE at h
 split at h
 ·cases h
 split at h
 ·cases h
 rw[if_neg (show¬(opA k c).kind=0 from(by decide:¬(1:Int)=0))] at h
 split at h
 ·cases h
 ·rwa [if_pos (show(opA k c).kind=1 from rfl)] at h
theorem y8R{k:Int}{c:List DOp}(h:eopE (opD k c)=0):drawE c 0=0:=by
 unfold eopE at h
 split at h
 ·cases h
 split at h
 ·cases h
 rw[if_neg (show¬(opD k c).kind=0 from(by decide:¬(4:Int)=0))] at h
 split at h
 ·cases h
 ·rwa [if_neg (show¬(opD k c).kind=1 from(by decide:¬(4:Int)=1)),if_neg (show¬(opD k c).kind=2 from(by decide:¬(4:Int)=2)),if_neg (show¬(opD k c).kind=3 from(by decide:¬(4:Int)=3))] at h
theorem z1T(hU:UB U){s:Int}{k:Nat}{d:Doc}(h:PP U s k d.nodes)(hk:k≤60){S:Sel}{au:ByteArray}(hz:au∉U.no)(h0:atE d S au=0):
 PlB (atP d S au)∧(atP d S au).node.flow.length≤1048576∧(∀x∈(atP d S au).node.flow,RU U x)∧AuB U (atP d S au).author∧(0≤S.fr∧S.fr≤S.tq∧S.tq< ((atP d S au).shown.length:Int)):=by
 obtain⟨a1,a2,a3,a4,a5,a6⟩:=y7Y h0
 have hm:=z0g (l:=d.nodes) (z08.1 a2).1
 obtain⟨g,z⟩:=h.gp.nd _ hm
 have hl:(ndN d.nodes S.nd).flow.length≤1048576:=by have:=z.fl;unfold ndN;omega
 rw[a6]
 exact⟨y8L hU g hl,hl,g.fl,⟨a5,hz⟩,a4⟩
theorem z72{t:ByteArray}(h:AscN t):∀c∈ascC t,CharP c∧c≠0:=by
 intro c hc
 unfold ascC at hc
 obtain⟨i,hi,rfl⟩:=List.mem_map.1 hc
 have:=h i (List.mem_range.1 hi)
 unfold CharP;omega
theorem z5v(t:ByteArray):(ascC t).length=t.size:=by simp[ascC]
theorem z29(p:Pl)(s:Sel)(cs:List Int):(typEl p s cs).length=cs.length:=by simp[typEl]
theorem y1S{r:Int}{l:List Attr}(h:1≤r∧r≤1073741824)(hl:VU U false l):RU U ⟨0,r,l⟩:=by
 refine⟨?_,hl⟩
 rw[z3B (x:=⟨0,r,l⟩) (fun q=>by have:=q.1 rfl;simp only at this;omega) (.inl (by simp only;omega)) (.inr h)]
 exact z0Q.2 hl.g
theorem y72(hU:UB U)(hZ:U.no=[]){s:Int}(hs:0≤s∧s≤1000){k:Nat}{d:Doc}(h:PP U s k d.nodes)(hk:k≤60)(b c:Int):CmdB d s b c:=by
 have hL:=h.docL hU hk
 have hno:∀v:ByteArray,v∉U.no:=fun v=>by rw[hZ];simp
 have hM:=z95 hL b
 have hF:=y4s hL b c
 have hT:=z0n (IntKind.i64.wrap (c.tdiv 11)) (lo:=cmdF d b c) (hi:=min (cmdM d b) (cmdF d b c+4)) (by omega)
 refine⟨fun t au ht hn h0=> ?_,fun h0=>(z1T hU h hk (hno _) h0).1,fun h0=>⟨(z1T hU h hk (hno _) h0).1,hF.1,hT.1,?_⟩,fun n h0 h1=> ?_,?_⟩
 ·obtain⟨p1,p2,p3,p4,p5⟩:=z1T hU h hk (hno _) h0
  have hi:=z6l p1 p3 (cmdS d b c).fr
  exact⟨p1,z0Q.2 hi.g,by have:=hi.len hU.len;omega,p5,(z9h hU p1 p2 p3 p4 p5 (by rw[z29,z5v];omega) (z7U p1 p3 (z72 ht))).1⟩
 ·have:=hT.2
  show cmdT d b c≤1000000000
  unfold cmdT;omega
 ·obtain⟨p1,p2,p3,p4,p5⟩:=z1T hU h hk (hno _) h0
  obtain⟨n1,n2,n3,n4⟩:=y0e hs h h1
  exact⟨p1,⟨p5.1,by have:=p5.2;have:=p1.sl;omega⟩,(z9h hU p1 p2 p3 p4 p5 (by simp[objX]) (fun x hx=>by
   rw[show x=⟨0,nextN d s,inhP (atP d (cmdS d b c) {data:=#[]}) (cmdS d b c).fr⟩ by simpa[objX] using hx]
   exact y1S (by omega) (z6l p1 p3 _))).1⟩
 ·have hz:∀n:Node,nodeE n=0∨n.draw=[]→ -1≤lastC n∧lastC n≤1000000000000:=fun n hn=>by
   unfold lastC
   split
   ·rename_i q
    rcases hn with hn|hn
    ·have ho:=(z70.1 (z4G hn)).1 _ (z0g (l:=n.draw) (i:=n.draw.length- 1) (by omega))
     unfold opE at ho
     split at ho
     ·cases ho
     ·split at ho
      ·cases ho
      ·omega
    ·rw[hn] at q;exact absurd q (by decide)
   ·omega
  refine hz _ ?_
  unfold nodeF
  split
  ·exact .inr rfl
  ·by_cases q:(findD d.nodes (pickP d b [10,8]) 0).toNat<d.nodes.length
   ·exact .inl (h.gp.vd.node _ (z0g q))
   ·rw[List.getD_eq_getElem?_getD,List.getElem?_eq_none (by omega)];exact .inr rfl
theorem PP.next{s:Int}{k k':Nat}{l:List Node}{o:EOp}(h:PP U s k l)(hkk:k≤k')(hk:o.kind≠0)(h0:oneE l o=0)(hg:GP U (10+4*k') (oneL l o)):PP U s k' (oneL l o):=by
 obtain⟨a,b⟩:=y70 hk h0
 refine⟨hg,by have:=h.len;omega,fun x hx=> ?_⟩
 obtain⟨n,hn,e⟩:=b x hx
 have:=h.id n hn
 omega
def CR(U:US)(s:Int)(k:Nat)(l:List Node)(c:List EOp):Prop:=(∀o∈c,OpL o)∧((∀o∈c,eopE o=0)→RunG (PP U s (k+3)) l c)
theorem CR.nil{s:Int}{k:Nat}{l:List Node}(h:PP U s k l):CR U s k l []:=⟨(fun o ho=>by cases ho),fun _=>h.mono (by omega)⟩
theorem CR.one(hU:UB U){s:Int}{k:Nat}{l:List Node}{o:EOp}(h:PP U s k l)(hk:k≤57)(ho:OpL o)(h0:o.kind≠0)(hn:eopE o=0→oneE l o=0→GP U (10+4*(k+3)) (oneL l o)):CR U s k l [o]:=by
 refine⟨fun x hx=>by rw[List.mem_singleton] at hx;subst hx;exact ho,fun he=> ?_⟩
 have he:=he o (by simp)
 exact run1 hU h hk (z6o hU h (by omega) he ho (fun q=>absurd q h0)) (fun q=>h.next (by omega) h0 q (hn he q))
theorem CR.two(hU:UB U){s:Int}{k:Nat}{l:List Node}{n:Node}{o:EOp}(h:PP U s k l)(hk:k≤57)(hg:NG U n)(hz:NZ 10 n)(hid:(∀x∈l,x.id<n.id)∧n.id< (s+1)*65536∧(n.id<4+(k+1:Nat)∨65536≤n.id))
 (ho:OpL o) (h0:o.kind≠0) (hn:∀l',PP U s (k+1) l'→eopE o=0→oneE l' o=0→GP U (10+4*(k+3)) (oneL l' o)):CR U s k l [opN n,o]:=by
 refine⟨fun x hx=> ?_,fun he=> ?_⟩
 ·simp only[List.mem_cons,List.not_mem_nil,or_false] at hx
  rcases hx with rfl|rfl
  ·exact opL_N hU hg hz (by decide)
  ·exact ho
 ·have e1:=he (opN n) (by simp)
  have e2:=he o (by simp)
  refine⟨h.mono (by omega),z6o hU h (by omega) e1 (opL_N hU hg hz (by decide)) (fun _=>hid.1),fun q=> ?_⟩
  obtain⟨k1,k2⟩:=keepN h.gp hg (hz.mono (by omega)) (y8P e1) hid.1 q
  rw[k1]
  have hp:PP U s (k+1) (l++[n]):=⟨k2.mono (by omega),by have:=h.len;rw[List.length_append,List.length_singleton];omega,fun x hx=>by
   rcases List.mem_append.1 hx with z|z
   ·have:=h.id x z;omega
   ·rw[List.mem_singleton] at z;subst z;exact hid.2⟩
  exact⟨hp.mono (by omega),z6o hU hp (by omega) e2 ho (fun z=>absurd z h0),fun q2=>hp.next (by omega) h0 q2 (hn _ hp e2 q2)⟩
theorem y0f(hU:UB U){s:Int}{k:Nat}{d:Doc}(h:PP U s k d.nodes)(hk:k≤57){S:Sel}{t au:ByteArray}(hz:au≠zzB)(ht:AscN t)(hl:t.size≤12):CR U s k d.nodes (typeO d S (ascC t) au):=by
 unfold typeO
 split
 ·exact .nil h
 ·rename_i q
  have h0:atE d S au=0:=Classical.byContradiction q
  obtain⟨p1,p2,p3,p4,p5⟩:=z1T hU h (by omega) (hU.no hz) h0
  obtain⟨_,⟨us,hd⟩,e1,e2⟩:=z9h hU p1 p2 p3 p4 p5 (es:=typEl (atP d S au) S (ascC t)) (by rw[z29,z5v];omega) (z7U p1 p3 (z72 ht))
  rw[z29,z5v] at e2
  exact .one hU h hk (opL_F hU hd) (show(2:Int)≠0 by decide) (fun _ z=>(keepF h.gp hd (q:=12) (by omega) z).mono (by omega))
theorem y0g(hU:UB U){c:List Attr}{f:List Bool}{n:Nat}(hc:VU U true c)(hn:n≤100000000):DU_ U (rstD c f n) ((List.range n).map (rstU c f))∧newD (rstD c f n)=oldD (rstD c f n)∧oldN ((List.range n).map (rstU c f))=n:=by
 have hall:∀u∈(List.range n).map (rstU c f),UU U u:=fun u hu=>by
  obtain⟨i,_,rfl⟩:=List.mem_map.1 hu
  unfold rstU;split
  ·exact hc
  ·exact VU.nil
 have hnum:∀m,oldN ((List.range m).map (rstU c f))=m∧newN ((List.range m).map (rstU c f))=m:=fun m=>by
  induction m with
  |zero=>exact⟨rfl,rfl⟩
  |succ m ih=>
   rw[List.range_succ,List.map_append,z0E,z1o,ih.1,ih.2,List.map_cons,List.map_nil]
   have:oldN [rstU c f m]=1∧newN [rstU c f m]=1:=by unfold rstU;split<;>simp[oldN,newN]
   omega
 have hq:=hnum n
 have e:rstD c f n=doneD ((List.range n).map (rstU c f)):=(z6U (fun u hu=>(UU.s hU.len (hall u hu)).ok) (by simp;omega)).1
 have hd:DU_ U (rstD c f n) ((List.range n).map (rstU c f)):=by rw[e];exact .done hU.len hall (by omega) (by omega)
 have hl:=hd.lens
 exact⟨hd,by omega,hq.1⟩
theorem y73(hU:UB U){c:List Attr}{f:List Bool}{n:Nat}(hc:VU U true c)(hn:n≤100000000):∃us,DU_ U (rstD c f n) us∧newD (rstD c f n)=oldD (rstD c f n):=
 ⟨_,(y0g hU hc hn).1,(y0g hU hc hn).2.1⟩
theorem y6J(hU:UB U){s:Int}{k:Nat}{d:Doc}(h:PP U s k d.nodes)(hk:k≤57){S:Sel}{c:List Attr}(hn:NmZ U c)(w:Int→Bool)(h0:fmtE d S c=0):CR U s k d.nodes (fmtL (atP d S {data:=#[]}) c w):=by
 have h1:atE d S {data:=#[]}=0:=by
  apply Classical.byContradiction;intro q
  rw[y4c q] at h0;exact q h0
 have h2:chkA true c 0=0:=by rw[z6b h1] at h0;exact h0
 obtain⟨p1,p2,p3,p4,p5⟩:=z1T hU h (by omega) (hU.no (by decide)) h1
 obtain⟨us,hd,e⟩:=y73 hU (f:=rstF w (atP d S {data:=#[]}).shown (atP d S {data:=#[]}).node.flow.length (atP d S {data:=#[]}).shown.length) (n:=(atP d S {data:=#[]}).node.flow.length) (vu_of (z0Q.1 h2) hn) (by omega)
 exact .one hU h hk (opL_F hU hd) (show(2:Int)≠0 by decide) (fun _ z=>(keepF h.gp hd (q:=0) (by omega) z).mono (by omega))
theorem y4L(hU:UB U){s:Int}(hs:0≤s∧s≤1000){k:Nat}{d:Doc}(h:PP U s k d.nodes)(hk:k≤57){S:Sel}{n:Node}{au:ByteArray}(hau:au≠zzB)(hg:NG U n)(hz:NZ 10 n):CR U s k d.nodes (objO d S n s au):=by
 unfold objO
 split
 ·exact .nil h
 ·rename_i q
  have h0:objE d S n s au=0:=Classical.byContradiction q
  have h1:atE d S au=0:=by
   apply Classical.byContradiction;intro z
   rw[(obj_1 z).2.2] at h0;exact z h0
  have h2:nextE d s=0:=by
   unfold objE at h0
   rw[if_neg (fun z=>z h1)] at h0
   split at h0
   ·cases h0
   ·split at h0
    ·rename_i z;exact absurd h0 z
    ·rename_i z;exact Classical.byContradiction z
  obtain⟨p1,p2,p3,p4,p5⟩:=z1T hU h (by omega) (hU.no hau) h1
  obtain⟨n1,n2,n3,n4⟩:=y0e hs h h2
  obtain⟨_,⟨us,hd⟩,e1,e2⟩:=z9h hU p1 p2 p3 p4 p5 (es:=objX d S s au) (by simp[objX]) (fun x hx=>by
   rw[show x=⟨0,nextN d s,inhP (atP d S au) S.fr⟩ by simpa[objX] using hx]
   exact y1S (by omega) (z6l p1 p3 _))
  have e3:(objX d S s au).length=1:=rfl
  exact .two hU h hk ⟨hg.at1,hg.fl,hg.mg,hg.ce,hg.dr,hg.kd⟩ ⟨hz.fl,hz.ce,hz.dr⟩ ⟨n1,n3,n4⟩ (opL_F hU hd) (show(2:Int)≠0 by decide) (fun l' hp _ z=>(keepF hp.gp hd (q:=1) (by omega) z).mono (by omega))
theorem y1T(m a n:Int):(shfL m a n).length≤4:=by
 unfold shfL
 split
 ·simp
 ·split
  ·simp
  ·unfold shfX
   have w1:=z2R 0 a
   have w2:=z2R 1 n
   have w3:=z2R 2 (0-n)
   have w4:=z2R 0 ((m-a)- max 0 (0-n))
   simp only[List.length_append,List.length_nil];omega
theorem y4M(hU:UB U){s:Int}{k:Nat}{l:List Node}(h:PP U s k l)(hk:k≤57)(i:Int){r c:List AxStep}(hr:r.length≤4)(hc:c.length≤4):CR U s k l [opG i ⟨r,c,[],[],[]⟩]:=by
 have hl:LiteE ⟨r,c,[],[],[]⟩:=⟨rfl,rfl,(fun c h=>by cases h),by simp⟩
 exact .one hU h hk (opL_G hl (by simp only;omega) (by simp only;omega) (fun c h=>by cases h)) (show(3:Int)≠0 by decide) (fun _ z=>(keepG h.gp hl (fun c h=>by cases h) (by omega) z).mono (by simp;omega))
theorem y74(hU:UB U){s:Int}(hs:0≤s∧s≤1000){k:Nat}{d:Doc}(h:PP U s k d.nodes)(hk:k≤57)(i r c:Int):CR U s k d.nodes (celO d i r c s):=by
 unfold celO
 split
 ·exact .nil h
 ·rename_i q
  have h0:celE d i r c s=0:=Classical.byContradiction fun z=>q (.inl z)
  have hi:¬0≤celI d i r c:=fun z=>q (.inr z)
  have h2:nextE d s=0:=by
   unfold celE at h0
   split at h0
   ·rename_i z;exact absurd h0 z
   split at h0
   ·cases h0
   split at h0
   ·cases h0
   first|exact h0|rwa [if_neg hi] at h0
  obtain⟨n1,n2,n3,n4⟩:=y0e hs h h2
  have hl:LiteE ⟨[],[],[⟨r,c,{data:=#[]},nextN d s,[]⟩],[],[]⟩:=⟨rfl,rfl,fun x hx=>by rw[show x=⟨r,c,{data:=#[]},nextN d s,[]⟩ by simpa using hx];rfl,by simp⟩
  have hc:∀x∈[(⟨r,c,{data:=#[]},nextN d s,[]⟩:Cell)],x.attrs=[]∧x.text.size=0:=fun x hx=>by rw[show x=⟨r,c,{data:=#[]},nextN d s,[]⟩ by simpa using hx];exact⟨rfl,rfl⟩
  exact .two hU h hk ⟨VU.nil,fun x hx=>by rw[show x=⟨10,0,[]⟩ by simpa[celM] using hx];exact y1I,rfl,(fun x hx=>by cases hx),(fun x hx=>by cases hx),by simp[celM]⟩ ⟨by simp[celM],by simp[celM],by simp[celM]⟩ ⟨n1,n3,n4⟩ (opL_G hl (by simp) (by simp) hc) (show(3:Int)≠0 by decide) (fun l' hp _ z=>(keepG hp.gp hl hc (by omega) z).mono (by simp;omega))
theorem z1r{Q:List EOp→Prop}{p:Prop}[Decidable p]{x y:List EOp}(hx:p→Q x)(hy:¬p→Q y):Q (if p then x else y):=by
 split
 ·rename_i h;exact hx h
 ·rename_i h;exact hy h
theorem y2C(k:Nat):(txt5.getD k default).size≤12:=by
 refine z5p (P:=fun t:ByteArray=>t.size≤12) (fun t ht=> ?_) (by decide) k
 simp only[txt5,List.mem_cons,List.not_mem_nil,or_false] at ht
 rcases ht with rfl|rfl|rfl|rfl|rfl<;>decide
theorem getD3{a b c:ByteArray}(ha:a∈U)(hb:b∈U)(hc:c∈U){i:Int}(hi:0≤i∧i≤2):[a,b,c].getD i.toNat default∈U:=by
 obtain⟨j,hj⟩:∃j,i.toNat=j:=⟨_,rfl⟩
 have:j=0∨j=1∨j=2:=by omega
 rw[hj]
 rcases this with rfl|rfl|rfl
 ·exact ha
 ·exact hb
 ·exact hc
theorem z4p(hU:UB U){a:Attr}(h:a.name∈U)(hv:a.val≠zzB):NmZ U [a]:=fun x hx=>by rw[List.mem_singleton] at hx;subst hx;exact⟨h,hU.no hv⟩
theorem y4N{a b c:ByteArray}(ha:a≠zzB)(hb:b≠zzB)(hc:c≠zzB){i:Int}(hi:0≤i∧i≤2):[a,b,c].getD i.toNat default≠zzB:=by
 obtain⟨j,hj⟩:∃j,i.toNat=j:=⟨_,rfl⟩
 have:j=0∨j=1∨j=2:=by omega
 rw[hj]
 rcases this with rfl|rfl|rfl
 ·exact ha
 ·exact hb
 ·exact hc
theorem y8S(r c:Int):NG U (tblN r c):=⟨VU.nil,(fun x h=>by cases h),rfl,(fun x h=>by cases h),(fun x h=>by cases h),(by decide:(2:Int)≠6)⟩
theorem y8T(hN:UN U):NG U (fldN seqA):=
 ⟨vu_of (z0Q.1 y4q) (z4p hN.toUB hN.ki (by decide)),(fun x h=>by cases h),rfl,(fun x h=>by cases h),(fun x h=>by cases h),(by decide:(5:Int)≠6)⟩
theorem y8U(hN:UN U)(e:Bool):NG U (notN e):=by
 refine⟨vu_of ?_ (z4p hN.toUB hN.ki (by cases e<;>decide)),fun x hx=> ?_,rfl,(fun x h=>by cases h),(fun x h=>by cases h),(by decide:(4:Int)≠6)⟩
 ·cases e<;>exact z0Q.1 (by decide+kernel)
 ·rw[show x=⟨10,0,[]⟩ by simpa[notN] using hx];exact y1I
theorem nz_of{n:Node}(h1:n.flow.length≤10)(h2:n.grid.cells.length≤10)(h3:n.draw.length≤10):NZ 10 n:=⟨h1,h2,h3⟩
theorem y4O(hN:UN U){s:Int}(hs:0≤s∧s≤1000){k:Nat}{d:Doc}(h:PP U s k d.nodes)(hk:k≤57)(a b c:Int):CR U s k d.nodes (cmdP d s a b c):=by
 have hU:=hN.toUB
 have hmt:([]:List EOp)=[]:=rfl
 have fmt:∀(S:Sel) (cs:List Attr) (w:Int→Bool),NmZ U cs→CR U s k d.nodes (if fmtE d S cs≠0 then[] else fmtL (atP d S {data:=#[]}) cs w):=fun S cs w hc=>
  z1r (fun _=> .nil h) (fun q=>y6J hU h hk hc w (Classical.byContradiction q))
 unfold cmdP
 refine z1r (fun _=>y0f hU h hk (by decide) (z4k _) (y2C _)) (fun _=>z1r (fun _=>y0f hU h hk (by decide) y4o (by decide)) (fun _=>z1r (fun _=>y0f hU h hk (by decide) asc_t (by decide)) (fun _=>
  z1r (fun _=>fmt _ _ _ (z4p hU ?_ ?_)) (fun _=>z1r (fun _=>fmt _ _ _ (z4p hU ?_ ?_)) (fun _=>
  z1r (fun _=>y4L hU hs h hk (by decide) (y8S _ _) (nz_of (by simp[tblN]) (by simp[tblN]) (by simp[tblN]))) (fun _=>z1r (fun _=>y4L hU hs h hk (by decide) (y8U hN _) (nz_of (by simp[notN]) (by simp[notN]) (by simp[notN]))) (fun _=>z1r (fun _=>y4L hU hs h hk (by decide) (y8T hN) (nz_of (by simp[fldN]) (by simp[fldN]) (by simp[fldN]))) (fun _=>
  z1r (fun _=>z1r (fun _=> .nil h) (fun _=>y4M hU h hk _ (y1T _ _ _) (by simp))) (fun _=>z1r (fun _=>z1r (fun _=> .nil h) (fun _=>y4M hU h hk _ (by simp) (y1T _ _ _))) (fun _=>
  z1r (fun _=>y74 hU hs h hk _ _ _) (fun _=>z1r (fun _=> ?_) (fun _=> ?_))))))))))))
 ·exact getD3 hN.bo hN.si hN.ma (z0n _ (by decide))
 ·exact y4N (by decide) (by decide) (by decide) (z0n _ (by decide))
 ·exact getD3 hN.he hN.li hN.al (z0n _ (by decide))
 ·exact y4N (by decide) (by decide) (by decide) (z0n _ (by decide))
 ·refine .one hU h hk (opL_D (by simp)) (show(4:Int)≠0 by decide) (fun e z=>(y8O h.gp (fun o ho=> ?_) (y8R e) z).mono (by simp;omega))
  rw[List.mem_singleton] at ho;subst ho
  exact⟨(by decide:({data:=#[98]}:ByteArray).size≤100),(by decide:mtB.size≤100),(by decide:mtB.size≤100)⟩
 ·exact .one hU h hk (opL_A (by simp)) (show(1:Int)≠0 by decide) (fun e z=>(keepA h.gp (vu_of (z0Q.1 (y8Q e)) (z4p hN.toUB hN.ti (y4N (by decide) (by decide) (by decide) (z0n _ (by decide))))) z).mono (by omega))
end Go.Ch
end
section
set_option linter.unusedVariables false
set_option linter.unusedSimpArgs false
namespace Go.Ch
open Go Go.Ab
def UC:List ByteArray:=[addB,cutB,{data:=#[116,105,116,108,101]},{data:=#[98,111,108,100]},{data:=#[115,105,122,101]},{data:=#[109,97,114,107,46,109]},{data:=#[104,101,97,100]},{data:=#[108,105,115,116]},{data:=#[97,108,105,103,110]},kindB]
theorem z9n(V:List ByteArray)(hV:V.length≤90)(Z:List ByteArray)(hZ:∀v∈Z,v=zzB):UN ⟨UC++V,Z⟩:=by
 have h:∀x∈UC,x∈(⟨UC++V,Z⟩:US):=fun x hx=>List.mem_append_left _ hx
 exact⟨⟨by show(UC++V).length≤100;rw[List.length_append];have:UC.length=10:=rfl;omega,hZ,h _ (by simp[UC]),h _ (by simp[UC])⟩,h _ (by simp[UC]),h _ (by simp[UC]),h _ (by simp[UC]),h _ (by simp[UC]),h _ (by simp[UC]),h _ (by simp[UC]),h _ (by simp[UC]),h _ (by simp[UC])⟩
theorem z73{d:Doc}{c:List EOp}(h:appE d c=0):docE d=0∧eopsE c 0=0∧runE d.nodes c=0∧appD d c=⟨runL d.nodes c⟩:=by
 have h1:docE d=0:=by
  apply Classical.byContradiction;intro q
  rw[(app_1 q).2] at h;exact q h
 have h2:eopsE c 0=0:=by
  apply Classical.byContradiction;intro q
  rw[(app_2 h1 q).2] at h;exact q h
 have h3:runE d.nodes c=0:=(app_r h1 h2).symm.trans h
 exact⟨h1,h2,h3,(app_4 h1 h2 h3 rfl).1⟩
def GK(U:US)(s:Int)(k:Nat)(d:Doc):Prop:=k≤57∧PP U s k d.nodes
variable {U:US}
theorem y75(hN:UN U){s:Int}(hs:0≤s∧s≤1000){k:Nat}{d:Doc}(h:GK U s k d)(a b c:Int):AppB d (cmdP d s a b c):=
 have r:=y4O hN hs h.2 h.1 a b c
 ⟨h.2.docL hN.toUB (by have:=h.1;omega),r.1,fun _ he=>(r.2 (z5g.1 he)).b⟩
theorem y6K(hN:UN U){s:Int}(hs:0≤s∧s≤1000){k:Nat}{d:Doc}(h:GK U s k d){a b c:Int}(h0:appE d (cmdP d s a b c)=0):RunG (PP U s (k+3)) d.nodes (cmdP d s a b c)∧PP U s (k+3) (appD d (cmdP d s a b c)).nodes:=by
 obtain⟨e1,e2,e3,e4⟩:=z73 h0
 have r:=(y4O hN hs h.2 h.1 a b c).2 (z5g.1 e2)
 rw[e4]
 exact⟨r,r.fin e3⟩
theorem y76(hN:UN U)(hZ:U.no=[]){s:Int}(hs:0≤s∧s≤1000):GInv s (GK U s) where
 doc:=fun h=>h.2.docL hN.toUB (by have:=h.1;omega)
 cmd:=fun b c h=>y72 hN.toUB hZ hs h.2 (by have:=h.1;omega) b c
 app:=fun a b c h=>y75 hN hs h a b c
 step:=fun {k d} a b c hk h=>by
  by_cases q:appE d (cmdP d s a b c)=0
  ·rw[z6g q];exact⟨by omega,(y6K hN hs h q).2⟩
  ·rw[z6h q];exact⟨by omega,h.2.mono (by omega)⟩
 more:=fun hk h=>⟨by omega,h.2.mono (by omega)⟩
theorem y4P(hN:UN U):GK U 0 0 baseD:=by
 have hx:∀n∈baseD.nodes,NG U n∧NZ 10 n:=fun n hn=>by
  have hc:∀c:Int,CharP c→c≠0→RU U ⟨c,0,[]⟩:=fun c h1 h2=>y0a h1 h2 VU.nil
  simp only[baseD,List.mem_cons,List.not_mem_nil,or_false] at hn
  rcases hn with rfl|rfl|rfl
  ·refine⟨⟨VU.nil,fun x hx=> ?_,rfl,(fun x h=>by cases h),(fun x h=>by cases h),(by decide:(0:Int)≠6)⟩,nz_of (by simp) (by simp) (by simp)⟩
   simp only[List.mem_cons,List.not_mem_nil,or_false] at hx
   rcases hx with rfl|rfl<;>exact y1S (by omega) VU.nil
  ·refine⟨⟨VU.nil,fun x hx=> ?_,rfl,(fun x h=>by cases h),(fun x h=>by cases h),(by decide:(1:Int)≠6)⟩,nz_of (by simp) (by simp) (by simp)⟩
   simp only[List.mem_cons,List.not_mem_nil,or_false] at hx
   rcases hx with rfl|rfl|rfl|rfl|rfl|rfl<;>exact hc _ (by decide) (by decide)
  ·exact⟨⟨VU.nil,(fun x h=>by cases h),rfl,(fun x h=>by cases h),(fun x h=>by cases h),(by decide:(10:Int)≠6)⟩,nz_of (by simp) (by simp) (by simp)⟩
 refine⟨by omega,⟨y0b.1 (by decide+kernel),hx⟩,by decide,fun n hn=> ?_⟩
 simp only[baseD,List.mem_cons,List.not_mem_nil,or_false] at hn
 rcases hn with rfl|rfl|rfl<;>simp
end Go.Ch
end
section
set_option linter.unusedVariables false
set_option linter.unusedSimpArgs false
namespace Go.Ch
open Go Go.Ab
variable {U:US}
def TX(l:List Node):Prop:=∃n∈l,n.id=2∧n.kind=1
theorem y8V{l:List Node}{o:EOp}(h:TX l):TX (oneL l o):=by
 obtain⟨n,hn,h1,h2⟩:=h
 unfold oneL
 split
 ·exact⟨n,hn,h1,h2⟩
 ·split
  ·refine⟨n,?_,h1,h2⟩
   unfold insN
   have:n∈l.take (lobN l o.nw.id)++l.drop (lobN l o.nw.id):=by rw[List.take_append_drop];exact hn
   rcases List.mem_append.1 this with q|q
   ·exact List.mem_append_left _ q
   ·exact List.mem_append_right _ (List.mem_cons_of_mem _ q)
  ·obtain⟨j,hj,rfl⟩:=z0C hn
   have hid:∀m:Node,(oneN m o).id=m.id∧(oneN m o).kind=m.kind:=fun m=>by
    unfold oneN;repeat' split
    all_goals exact⟨rfl,rfl⟩
   refine⟨(l.set (lobN l o.node) (oneN (l.getD (lobN l o.node) default) o)).getD j default,z0g (by rw[List.length_set];exact hj),?_⟩
   by_cases e:lobN l o.node=j
   ·rw[e,List.getD_eq_getElem?_getD,List.getElem?_set_self hj]
    have:=hid (l.getD j default)
    exact⟨this.1.trans h1,this.2.trans h2⟩
   ·rw[List.getD_eq_getElem?_getD,List.getElem?_set_ne e,←List.getD_eq_getElem?_getD]
    exact⟨h1,h2⟩
theorem y6L:∀{c:List EOp} {l:List Node},TX l→TX (runL l c)
 | [],_,h=>h
 |_::c,_,h=>y6L (c:=c) (y8V h)
theorem y56{s:Int}{raw:List Int}:∀(m:Nat) {k:Nat} {d:Doc},raw.length-k=m→TX d.nodes→TX (z1x s raw d k).nodes:=by
 intro m
 induction m using Nat.strongRecOn with
 |_ m ih=>
  intro k d hm h
  by_cases q:k+2<raw.length∧k<36
  ·rw[z5r q]
   refine ih _ (by omega) rfl ?_
   by_cases q2:appE d (cmdP d s (raw.getD k default) (raw.getD (k+1) default) (raw.getD (k+2) default))=0
   ·rw[z6g q2,(z73 q2).2.2.2];exact y6L h
   ·rw[z6h q2];exact h
  ·rw[z6i q];exact h
theorem y57(hN:UN U){s:Int}(hs:0≤s∧s≤1000){raw:List Int}:∀(m:Nat) {k:Nat} {d:Doc},raw.length-k=m→k<39→GK U s k d→∃k',k'≤38∧GK U s k' (z1x s raw d k):=by
 intro m
 induction m using Nat.strongRecOn with
 |_ m ih=>
  intro k d hm hk hg
  by_cases h:k+2<raw.length∧k<36
  ·rw[z5r h]
   refine ih _ (by omega) rfl (by omega) ?_
   by_cases q:appE d (cmdP d s (raw.getD k default) (raw.getD (k+1) default) (raw.getD (k+2) default))=0
   ·rw[z6g q];exact⟨by omega,(y6K hN hs hg q).2⟩
   ·rw[z6h q];exact⟨by omega,hg.2.mono (by omega)⟩
  ·rw[z6i h];exact⟨k,by omega,hg⟩
theorem y77:TX baseD.nodes:=⟨⟨2,1,[],[⟨97,0,[]⟩,⟨98,0,[]⟩,⟨99,0,[]⟩,⟨10,0,[]⟩,⟨100,0,[]⟩,⟨10,0,[]⟩],⟨0,0,[],[]⟩,[]⟩,by simp[baseD],rfl,rfl⟩
structure DX(U:US)(d:Doc):Prop where
 pp:PP U 0 38 d.nodes
 tx:TX d.nodes
theorem z74(hN:UN U)(raw:List Int):DX U (z1x 0 raw baseD 0):=by
 obtain⟨k',hk,hg⟩:=y57 hN (by omega) (raw:=raw) _ rfl (by omega) (y4P hN)
 exact⟨hg.2.mono hk,y56 _ rfl y77⟩
variable {d:Doc}
theorem DX.nd(h:DX U d):hasN d.nodes 2=true∧lobN d.nodes 2<d.nodes.length∧(ndN d.nodes 2).id=2∧(ndN d.nodes 2).kind=1∧ndN d.nodes 2∈d.nodes:=by
 obtain⟨n,hn,h1,h2⟩:=h.tx
 have hh:hasN d.nodes 2=true:=h.pp.gp.vd.has.2 ⟨n,hn,h1⟩
 obtain⟨a,b⟩:=z08.1 hh
 obtain⟨j,hj,rfl⟩:=z0C hn
 have e:=z7V h.pp.gp.vd.srt a hj (b.trans h1.symm)
 refine⟨hh,a,b,?_,z0g a⟩
 unfold ndN;rw[e];exact h2
theorem DX.node(h:DX U d):nodeF d 2=ndN d.nodes 2∧nodeH d 2=true:=by
 obtain⟨h1,h2,h3,h4,h5⟩:=h.nd
 rcases z2A d.nodes 2 d.nodes.length 0 (by omega) with⟨_,q⟩| ⟨j,q1,_,q2,q3⟩
 ·exact absurd h3 (q _ (Nat.zero_le _) h2)
 ·have e:=z7V h.pp.gp.vd.srt h2 q2 (h3.trans q3.symm)
  have:=z94 q1
  unfold ndN;rw[e];exact this
theorem y78{l:List Attr}{n:ByteArray}(h:VG false l):gotA l n=hasA l n:=by
 have a:=y5L (n:=n) h
 have b:=y33 (l:=l) (n:=n)
 cases h1:gotA l n<;>cases h2:hasA l n<;>simp_all
theorem y79{f:List Elem}{i:Nat}(h:VG false (f.getD i default).attrs):shwB f i=visB f 0 i:=by
 unfold shwB visB hidX
 rw[y78 h]
 have e:((f.getD i default).char==10)=decide ((f.getD i default).char=10):=by
  by_cases q:(f.getD i default).char=10
  ·rw[decide_eq_true q,beq_iff_eq];exact q
  ·rw[decide_eq_false q,beq_eq_false_iff_ne];exact q
 rw[e]
 cases hasA (f.getD i default).attrs cutB<;>cases seq (getA (f.getD i default).attrs hidB 0) onB<;>simp
theorem y8a{f:List Elem}(h:∀x∈f,VG false x.attrs):shwR f f.length=plcL f 0 f.length:=by
 unfold shwR plcL plcN
 congr 1
 refine List.filter_congr fun i hi=>y79 (h _ (z0g (List.mem_range.1 hi)))
theorem y4Q{f:List Elem}{n:Nat}{x:Int}:x∈plcL f 0 n↔∃i:Nat,i<n∧visB f 0 i=true∧x=(i:Int):=by
 unfold plcL plcN
 simp only[List.mem_map,List.mem_filter,List.mem_range]
 constructor
 ·rintro⟨i,⟨h1,h2⟩,rfl⟩;exact⟨i,h1,h2,rfl⟩
 ·rintro⟨i,h1,h2,rfl⟩;exact⟨i,⟨h1,h2⟩,rfl⟩
structure FX(U:US)(f:List Elem):Prop where
 ru:∀x∈f,RU U x
 pos:0<f.length
 last:(f.getD (f.length- 1) default).char=10
theorem DX.flow(h:DX U d):FX U (ndN d.nodes 2).flow∧(ndN d.nodes 2).flow.length≤162:=by
 obtain⟨h1,h2,h3,h4,h5⟩:=h.nd
 obtain⟨g,z⟩:=h.pp.gp.nd _ h5
 obtain⟨p1,p2,p3,p4,p5,p6,p7⟩:=z1X (h.pp.gp.vd.node _ h5)
 have ht:hasT (ndN d.nodes 2).kind=true:=by rw[h4];decide
 have hz:=z6n.1 (p5 (.inl ht))
 have hl:=hz.2 ht
 exact⟨⟨g.fl,hl.1,hl.2⟩,by have:=z.fl;omega⟩
theorem FX.plc{f:List Elem}(h:FX U f):shwR f f.length=plcL f 0 f.length∧1≤(plcL f 0 f.length).length:=by
 refine⟨y8a fun x hx=>(h.ru x hx).2.g,?_⟩
 have hp:=h.pos
 have:((f.length- 1:Nat):Int)∈plcL f 0 f.length:=y4Q.2 ⟨f.length- 1,by omega,z91 (.inr ⟨by omega,h.last⟩),rfl⟩
 exact List.length_pos_of_mem this
theorem DX.at(h:DX U d){a b:Int}{au:ByteArray}(ha:0≤a∧a≤b∧b< ((plcL (ndN d.nodes 2).flow 0 (ndN d.nodes 2).flow.length).length:Int))(hau:seq au {data:=#[]}=true∨valGo au=true):
 atE d ⟨2,a,b⟩ au=0∧atP d ⟨2,a,b⟩ au=⟨ndN d.nodes 2,plcL (ndN d.nodes 2).flow 0 (ndN d.nodes 2).flow.length,au⟩:=by
 obtain⟨h1,h2,h3,h4,h5⟩:=h.nd
 have r:=at_6 (d:=d) (s:=⟨2,a,b⟩) (au:=au) h.pp.doc h1 (by show hasT (ndN d.nodes 2).kind=true;rw[h4];decide) ⟨⟨ha.1,ha.2.1⟩,ha.2.2⟩ hau
 exact⟨r.2,r.1⟩
def lastK(us:List DU):Bool:=match us.getLast? with
 |some (.K _)=>true
 |_=>false
theorem z1Z(x y:DU)(u:List DU):lastK (x::y::u)=lastK (y::u):=by
 unfold lastK;rw[List.getLast?_cons_cons]
theorem y4R{u v:List DU}(h:DSw u v):lastK u=lastK v:=by
 induction h with
 |refl u=>rfl
 |cons x h ih=>
  have hl:=y3S h
  rename_i u v
  cases u with
  |nil=>cases v with
   |nil=>rfl
   |cons y v=>simp at hl
  |cons y u=>cases v with
   |nil=>simp at hl
   |cons z v=>rw[z1Z,z1Z];exact ih
 |swap e u=>cases u with
  |nil=>rfl
  |cons y u=>rw[z1Z,z1Z,z1Z,z1Z]
 |symm h ih=>exact ih.symm
 |trans h k ih1 ih2=>exact ih1.trans ih2
theorem z6p(u:List DU){v:List DU}(h:v≠[]):lastK (u++v)=lastK v:=by
 unfold lastK
 rw[List.getLast?_append]
 cases hv:v.getLast? with
 |none=>exact absurd (List.getLast?_eq_none_iff.1 hv) h
 |some x=>rfl
theorem y8b{s:List DStep}(hv:z0W s)(h:lastK (exD s)=true):endsD s=true:=by
 have hne:s≠[]:=fun e=>by rw[e] at h;exact absurd h (by decide)
 obtain⟨t,ht⟩:∃t,s=s.dropLast++[t]:=⟨s.getLast hne,(List.dropLast_concat_getLast hne).symm⟩
 generalize s.dropLast=i at ht
 subst ht
 have hg:(i++[t]).getD ((i++[t]).length- 1) default=t:=by rw[z7Z (by simp)];rfl
 have hk:t.kind=0:=by
  apply Classical.byContradiction;intro q
  have ho:=hv.1.all t (by simp)
  rw[z3E,show exD [t]=exS t by simp[exD]] at h
  unfold exS at h
  by_cases q1:t.kind=1
  ·rw[if_pos q1] at h
   have he:t.elems≠[]:=by
    rcases ho with⟨_,_,_,q,_⟩| ⟨q,_⟩
    ·exact q
    ·omega
   rw[z6p _ (by simpa using he)] at h
   unfold lastK at h
   rw[List.getLast?_map] at h
   cases hl:t.elems.getLast? with
   |none=>exact he (List.getLast?_eq_none_iff.1 hl)
   |some x=>rw[hl] at h;simp at h
  ·have q2:t.kind=2:=by
    rcases ho with⟨k,_⟩| ⟨k,_⟩
    ·omega
    ·omega
   have hn:1≤t.n:=by
    rcases ho with⟨k,_⟩| ⟨_,e,_,n,_⟩
    ·omega
    ·exact n
   rw[if_neg q1,if_pos q2] at h
   rw[z6p _ (by intro z;have:=congrArg List.length z;simp at this;omega)] at h
   unfold lastK at h
   rw[List.getLast?_replicate,if_neg (by omega)] at h
   cases h
 unfold endsD
 rw[hg,hk]
 simp
theorem y4S{s:List DStep}{t:DStep}{x:Elem}(ht:t∈s)(hk:t.kind=1)(hx:x∈t.elems):DU.A x∈exD s:=by
 induction s with
 |nil=>cases ht
 |cons y s ih=>
  rw[exD]
  rcases List.mem_cons.1 ht with rfl|q
  ·refine List.mem_append_left _ ?_
   unfold exS;rw[if_pos hk];exact List.mem_map.2 ⟨x,hx,rfl⟩
  ·exact List.mem_append_right _ (ih q)
theorem y6M{U:US}{n:Int}{s:List DStep}{us:List DU}(hn:1≤n∧n≤1073741824)(hd:DU_ U s us):eopE (opF n s)=0:=by
 unfold eopE
 rw[if_neg (by show¬((2:Int)< 0∨4< (2:Int));decide)]
 have hu:unuO (opF n s)=false:=by
  unfold unuO opF
  simp only[show((2:Int)==0)=false from rfl,show((2:Int) !=0)=true from rfl,show((2:Int) !=1)=true from rfl,show((2:Int) !=2)=false from rfl,show((2:Int) !=3)=true from rfl,show((2:Int) !=4)=true from rfl,Bool.false_and,Bool.true_and,Bool.false_or]
  rw[show z0G ⟨0,0,[],[],⟨0,0,[],[]⟩,[]⟩=true by decide+kernel,show anyG ⟨[],[],[],[],[]⟩=false by decide+kernel]
  rfl
 rw[if_neg (by rw[hu];decide),if_neg (show¬(opF n s).kind=0 from(by decide:¬(2:Int)=0)),if_neg (by show¬(n<1∨1073741824<n);omega),if_neg (show¬(opF n s).kind=1 from(by decide:¬(2:Int)=1)),if_pos (show(opF n s).kind=2 from rfl)]
 exact z0S.2 hd.v
def putF(d:Doc)(f:List Elem):Doc:=⟨d.nodes.set (lobN d.nodes 2) {(ndN d.nodes 2) with flow:=f}⟩
theorem DX.op(h:DX U d){U':US}(hU:UB U')(hp:PP U' 0 38 d.nodes){s:List DStep}{us:List DU}(hd:DU_ U' s us)(ho:oldN us=(ndN d.nodes 2).flow.length)(hk:lastK us=true)(ha:∀t∈s,∀x∈t.elems,x.ref=0):
 AppB d [opF 2 s]∧appE d [opF 2 s]=0∧appD d [opF 2 s]=putF d (z0j us (ndN d.nodes 2).flow):=by
 obtain⟨h1,h2,h3,h4,h5⟩:=h.nd
 have e0:eopE (opF 2 s)=0:=y6M (by decide) hd
 have hO:=opL_F hU (k:=2) hd
 have hb:=z6o hU hp (by omega) e0 hO (fun q=>absurd q (show¬(2:Int)=0 by decide))
 have hl:=hd.lens
 have hT:hasT (ndN d.nodes 2).kind=true:=by rw[h4];decide
 have hf:z0X d.nodes (ndN d.nodes 2) s=0:=by
  unfold z0X
  rw[if_neg (by rw[hT];simp),if_neg (by omega),if_neg (by rw[y8b hd.v (by rw[y4R hd.sw];exact hk)];simp)]
  refine z6O fun t ht=>z6O fun x hx=> ?_
  have hr:=ha t ht x hx
  unfold newE
  rw[if_neg (by rw[hT];simp)]
  have:refsF [x]=[]:=by unfold refsF;simp[hr]
  rw[this,refsE,if_neg (by simp)]
 have e1:oneE d.nodes (opF 2 s)=0:=(one_3 (o:=opF 2 s) h1 rfl).2.trans hf
 have e2:=one_s (o:=opF 2 s) (show(2:Int)≠0 by decide) e1
 have hv:eopsE [opF 2 s] 0=0:=z5g.2 fun o ho=>by rw[List.mem_singleton] at ho;subst ho;exact e0
 have hr:runE d.nodes [opF 2 s]=0:=by rw[runE,if_neg (fun q=>q e1)];rfl
 have hb2:AppB d [opF 2 s]:=⟨hp.docL hU (by omega),fun o ho=>by rw[List.mem_singleton] at ho;subst ho;exact hO,fun _ _=>⟨hb,fun _=>trivial⟩⟩
 have h4':=app_4 h.pp.doc hv hr (rfl:runL d.nodes [opF 2 s]=_)
 refine⟨hb2,h4'.2,?_⟩
 rw[h4'.1]
 show(⟨oneL d.nodes (opF 2 s)⟩:Doc)=_
 rw[e2]
 have:rawD (ndN d.nodes 2).flow s=z0j us (ndN d.nodes 2).flow:=y3E hd.sw _
 unfold putF
 rw[←this]
 rfl
theorem z9o(h:DX U d)(f:List Elem):nodeF (putF d f) 2={(ndN d.nodes 2) with flow:=f}∧nodeH (putF d f) 2=true:=by
 obtain⟨h1,h2,h3,h4,h5⟩:=h.nd
 have hl:∀j,((putF d f).nodes.getD j default).id=(d.nodes.getD j default).id:=fun j=>by
  unfold putF
  by_cases e:lobN d.nodes 2=j
  ·rw[←e,List.getD_eq_getElem?_getD,List.getElem?_set_self h2];rfl
  ·rw[List.getD_eq_getElem?_getD,List.getElem?_set_ne e,←List.getD_eq_getElem?_getD]
 have hn:(putF d f).nodes.length=d.nodes.length:=by unfold putF;rw[List.length_set]
 rcases z2A (putF d f).nodes 2 (putF d f).nodes.length 0 (by omega) with⟨_,q⟩| ⟨j,q1,_,q2,q3⟩
 ·exact absurd ((hl _).trans h3) (q _ (Nat.zero_le _) (by rw[hn];exact h2))
 ·have e:=z7V h.pp.gp.vd.srt h2 (by rw[←hn];exact q2) (h3.trans ((hl j).symm.trans q3).symm)
  have:=z94 q1
  refine⟨this.1.trans ?_,this.2⟩
  rw[←e]
  unfold putF
  rw[List.getD_eq_getElem?_getD,List.getElem?_set_self h2];rfl
end Go.Ch
end
section
set_option linter.unusedVariables false
set_option linter.unusedSimpArgs false
namespace Go.Ch
open Go Go.Ab
theorem un_0:UN (⟨UC++[],[]⟩:US):=z9n [] (by simp) [] (fun v hv=>by cases hv)
theorem z75:DX (⟨UC++[],[]⟩:US) z0e:=by
 have hx:∀n∈z0e.nodes,NG (⟨UC++[],[]⟩:US) n∧NZ 10 n:=fun n hn=>by
  simp only[z0e,List.mem_cons,List.not_mem_nil,or_false] at hn
  rcases hn with rfl|rfl
  ·refine⟨⟨VU.nil,fun x hx=> ?_,rfl,(fun x h=>by cases h),(fun x h=>by cases h),(by decide:(0:Int)≠6)⟩,nz_of (by simp) (by simp) (by simp)⟩
   rw[List.mem_singleton] at hx;subst hx;exact y1S (by omega) VU.nil
  ·refine⟨⟨VU.nil,fun x hx=> ?_,rfl,(fun x h=>by cases h),(fun x h=>by cases h),(by decide:(1:Int)≠6)⟩,nz_of (by simp) (by simp) (by simp)⟩
   rw[List.mem_singleton] at hx;subst hx;exact y1I
 have hp:PP (⟨UC++[],[]⟩:US) 0 0 z0e.nodes:=by
  refine⟨⟨y0b.1 z6e,hx⟩,by decide,fun n hn=> ?_⟩
  simp only[z0e,List.mem_cons,List.not_mem_nil,or_false] at hn
  rcases hn with rfl|rfl<;>simp
 exact⟨hp.mono (by omega),⟨⟨2,1,[],[⟨10,0,[]⟩],⟨0,0,[],[]⟩,[]⟩,by simp[z0e],rfl,rfl⟩⟩
theorem y4T:DocL z0e∧AscN {data:=#[98]}∧(atE z0e ⟨2,0,0⟩ {data:=#[]}=0→TypB z0e ⟨2,0,0⟩ (ascC {data:=#[98]}) {data:=#[]})∧AppB z0e (typeO z0e ⟨2,0,0⟩ (ascC {data:=#[98]}) {data:=#[]})∧appE z0e (typeO z0e ⟨2,0,0⟩ (ascC {data:=#[98]}) {data:=#[]})=0∧atE z0e ⟨2,0,0⟩ {data:=#[]}=0∧typeS z0e ⟨2,0,0⟩ (ascC {data:=#[98]}) {data:=#[]}=⟨2,1,1⟩∧
 1< (appD z0e (typeO z0e ⟨2,0,0⟩ (ascC {data:=#[98]}) {data:=#[]})).nodes.length∧((appD z0e (typeO z0e ⟨2,0,0⟩ (ascC {data:=#[98]}) {data:=#[]})).nodes.getD 1 default).flow.length=2:=by
 have ha:AscN {data:=#[98]}:=z4k 4
 have t1:=(z75.at (a:=0) (b:=0) (au:={data:=#[]}) (by decide+kernel) (.inl (by decide+kernel))).1
 have hU:=un_0.toUB
 obtain⟨p1,p2,p3,p4,p5⟩:=z1T hU z75.pp (by omega) (by simp) t1
 have hl:(ascC {data:=#[98]}).length=1:=by rw[z5v];rfl
 have he:=z7U p1 p3 (s:=⟨2,0,0⟩) (z72 ha)
 have hi:=z6l p1 p3 0
 obtain⟨s1,⟨us,hd⟩,_,_⟩:=z9h hU (s:=⟨2,0,0⟩) (es:=typEl (atP z0e ⟨2,0,0⟩ {data:=#[]}) ⟨2,0,0⟩ (ascC {data:=#[98]})) p1 p2 p3 p4 p5 (by rw[z29,hl];omega) he
 have e1:=y6v (cs:=ascC {data:=#[98]}) t1
 refine⟨z6f,ha,fun _=>⟨p1,z0Q.2 hi.g,by have:=hi.len hU.len;show(inhP _ 0).length≤_;omega,p5,s1⟩,?_,by decide+kernel,t1,?_,by decide+kernel,by decide+kernel⟩
 ·rw[e1.1]
  refine⟨z6f,fun o ho=>by rw[List.mem_singleton] at ho;subst ho;exact opL_F hU hd,fun _ h=> ?_⟩
  exact⟨z6o hU z75.pp (by omega) (y6M (by decide) hd) (opL_F hU hd) (fun q=>absurd q (show¬(2:Int)=0 by decide)),fun _=>trivial⟩
 ·rw[e1.2];unfold selP
  rw[z29,hl];rfl
end Go.Ch
end
section
set_option linter.unusedVariables false
set_option linter.unusedSimpArgs false
set_option maxRecDepth 100000
set_option maxHeartbeats 4000000
open Go Go.Proofs Go.Ab
namespace Go.Ch
theorem y58:FC Tryz.prog 6 [] (app emp []) (VB true) (app emp []):=by
 refine .go Tryz.f6 ?_
 obtain⟨hb,ht,hx,ha,he,hz,hs,hl,hf⟩:=y4T
 have hn:({data:=#[98]}:ByteArray).size≤20000:=by decide
 have e1:(((((true&&((atE z0e ({nd:=2,fr:=0,tq:=0}:Sel) ({data:=#[]}))==0))&&((appE z0e (typeO z0e ({nd:=2,fr:=0,tq:=0}:Sel) (ascC ({data:=#[98]})) ({data:=#[]})))==0))&&((((typeS z0e ({nd:=2,fr:=0,tq:=0}:Sel) (ascC ({data:=#[98]})) ({data:=#[]}))).nd)==2&&((((typeS z0e ({nd:=2,fr:=0,tq:=0}:Sel) (ascC ({data:=#[98]})) ({data:=#[]}))).fr)==1&&((((typeS z0e ({nd:=2,fr:=0,tq:=0}:Sel) (ascC ({data:=#[98]})) ({data:=#[]}))).tq)==1&&true))))&&((((((((appD z0e (typeO z0e ({nd:=2,fr:=0,tq:=0}:Sel) (ascC ({data:=#[98]})) ({data:=#[]})))).nodes).getD 1 default)).flow).length:Int)==2)):Bool)=true:=by
  rw[hs,hz,he,hf];rfl
 exact .finE [.r [],.r [(0,X (Xc1 8 z5s X0)),(2,X (Xc1 24 (z4l z0e ({nd:=2,fr:=0,tq:=0}:Sel) ({data:=#[98]}) ({data:=#[]}) (by assumption) (by assumption) (by assumption) (by assumption)) X0))],.r [(0,X (Xc1 96 z5s X0)),(2,X (Xc1 112 (z5q z0e (typeO z0e ({nd:=2,fr:=0,tq:=0}:Sel) (ascC ({data:=#[98]})) ({data:=#[]})) ha) X0))],.r [(0,X (Xc0 y5X X0)),(3,Xv 1 true X0),(4,X (Xk true)),(7,Xv 1 (true&&((atE z0e ({nd:=2,fr:=0,tq:=0}:Sel) ({data:=#[]}))==0)) X0),(8,X (Xk (true&&((atE z0e ({nd:=2,fr:=0,tq:=0}:Sel) ({data:=#[]}))==0)))),(12,Xv 2 ((true&&((atE z0e ({nd:=2,fr:=0,tq:=0}:Sel) ({data:=#[]}))==0))&&((appE z0e (typeO z0e ({nd:=2,fr:=0,tq:=0}:Sel) (ascC ({data:=#[98]})) ({data:=#[]})))==0)) X0),(13,X (Xk ((true&&((atE z0e ({nd:=2,fr:=0,tq:=0}:Sel) ({data:=#[]}))==0))&&((appE z0e (typeO z0e ({nd:=2,fr:=0,tq:=0}:Sel) (ascC ({data:=#[98]})) ({data:=#[]})))==0)))),(16,Xv 1 (((true&&((atE z0e ({nd:=2,fr:=0,tq:=0}:Sel) ({data:=#[]}))==0))&&((appE z0e (typeO z0e ({nd:=2,fr:=0,tq:=0}:Sel) (ascC ({data:=#[98]})) ({data:=#[]})))==0))&&((((typeS z0e ({nd:=2,fr:=0,tq:=0}:Sel) (ascC ({data:=#[98]})) ({data:=#[]}))).nd)==2&&((((typeS z0e ({nd:=2,fr:=0,tq:=0}:Sel) (ascC ({data:=#[98]})) ({data:=#[]}))).fr)==1&&((((typeS z0e ({nd:=2,fr:=0,tq:=0}:Sel) (ascC ({data:=#[98]})) ({data:=#[]}))).tq)==1&&true)))) X0),(17,Xv 1 (((true&&((atE z0e ({nd:=2,fr:=0,tq:=0}:Sel) ({data:=#[]}))==0))&&((appE z0e (typeO z0e ({nd:=2,fr:=0,tq:=0}:Sel) (ascC ({data:=#[98]})) ({data:=#[]})))==0))&&((((typeS z0e ({nd:=2,fr:=0,tq:=0}:Sel) (ascC ({data:=#[98]})) ({data:=#[]}))).nd)==2&&((((typeS z0e ({nd:=2,fr:=0,tq:=0}:Sel) (ascC ({data:=#[98]})) ({data:=#[]}))).fr)==1&&((((typeS z0e ({nd:=2,fr:=0,tq:=0}:Sel) (ascC ({data:=#[98]})) ({data:=#[]}))).tq)==1&&true)))) (Xi nodeT (((appD z0e (typeO z0e ({nd:=2,fr:=0,tq:=0}:Sel) (ascC ({data:=#[98]})) ({data:=#[]})))).nodes) 1)),(18,Xv 1 (((true&&((atE z0e ({nd:=2,fr:=0,tq:=0}:Sel) ({data:=#[]}))==0))&&((appE z0e (typeO z0e ({nd:=2,fr:=0,tq:=0}:Sel) (ascC ({data:=#[98]})) ({data:=#[]})))==0))&&((((typeS z0e ({nd:=2,fr:=0,tq:=0}:Sel) (ascC ({data:=#[98]})) ({data:=#[]}))).nd)==2&&((((typeS z0e ({nd:=2,fr:=0,tq:=0}:Sel) (ascC ({data:=#[98]})) ({data:=#[]}))).fr)==1&&((((typeS z0e ({nd:=2,fr:=0,tq:=0}:Sel) (ascC ({data:=#[98]})) ({data:=#[]}))).tq)==1&&true)))) X0),(19,Xv 1 (((true&&((atE z0e ({nd:=2,fr:=0,tq:=0}:Sel) ({data:=#[]}))==0))&&((appE z0e (typeO z0e ({nd:=2,fr:=0,tq:=0}:Sel) (ascC ({data:=#[98]})) ({data:=#[]})))==0))&&((((typeS z0e ({nd:=2,fr:=0,tq:=0}:Sel) (ascC ({data:=#[98]})) ({data:=#[]}))).nd)==2&&((((typeS z0e ({nd:=2,fr:=0,tq:=0}:Sel) (ascC ({data:=#[98]})) ({data:=#[]}))).fr)==1&&((((typeS z0e ({nd:=2,fr:=0,tq:=0}:Sel) (ascC ({data:=#[98]})) ({data:=#[]}))).tq)==1&&true)))) X0),(20,Xv 1 (((true&&((atE z0e ({nd:=2,fr:=0,tq:=0}:Sel) ({data:=#[]}))==0))&&((appE z0e (typeO z0e ({nd:=2,fr:=0,tq:=0}:Sel) (ascC ({data:=#[98]})) ({data:=#[]})))==0))&&((((typeS z0e ({nd:=2,fr:=0,tq:=0}:Sel) (ascC ({data:=#[98]})) ({data:=#[]}))).nd)==2&&((((typeS z0e ({nd:=2,fr:=0,tq:=0}:Sel) (ascC ({data:=#[98]})) ({data:=#[]}))).fr)==1&&((((typeS z0e ({nd:=2,fr:=0,tq:=0}:Sel) (ascC ({data:=#[98]})) ({data:=#[]}))).tq)==1&&true)))) (Xl elemT ((((((appD z0e (typeO z0e ({nd:=2,fr:=0,tq:=0}:Sel) (ascC ({data:=#[98]})) ({data:=#[]})))).nodes).getD 1 default)).flow))),(21,Xv 1 (((true&&((atE z0e ({nd:=2,fr:=0,tq:=0}:Sel) ({data:=#[]}))==0))&&((appE z0e (typeO z0e ({nd:=2,fr:=0,tq:=0}:Sel) (ascC ({data:=#[98]})) ({data:=#[]})))==0))&&((((typeS z0e ({nd:=2,fr:=0,tq:=0}:Sel) (ascC ({data:=#[98]})) ({data:=#[]}))).nd)==2&&((((typeS z0e ({nd:=2,fr:=0,tq:=0}:Sel) (ascC ({data:=#[98]})) ({data:=#[]}))).fr)==1&&((((typeS z0e ({nd:=2,fr:=0,tq:=0}:Sel) (ascC ({data:=#[98]})) ({data:=#[]}))).tq)==1&&true)))) X0),(22,X (Xk (((true&&((atE z0e ({nd:=2,fr:=0,tq:=0}:Sel) ({data:=#[]}))==0))&&((appE z0e (typeO z0e ({nd:=2,fr:=0,tq:=0}:Sel) (ascC ({data:=#[98]})) ({data:=#[]})))==0))&&((((typeS z0e ({nd:=2,fr:=0,tq:=0}:Sel) (ascC ({data:=#[98]})) ({data:=#[]}))).nd)==2&&((((typeS z0e ({nd:=2,fr:=0,tq:=0}:Sel) (ascC ({data:=#[98]})) ({data:=#[]}))).fr)==1&&((((typeS z0e ({nd:=2,fr:=0,tq:=0}:Sel) (ascC ({data:=#[98]})) ({data:=#[]}))).tq)==1&&true))))))]] [] (fun z0:Bool=>(VB z0,[])) _ _ e1.symm
end Go.Ch
end
section
set_option linter.unusedVariables false
set_option linter.unusedSimpArgs false
namespace Go.Ch
open Go Go.Ab
variable {U:US}
def nmF(name:ByteArray):ByteArray:=if(z1M name=false∨seq name {data:=#[99,117,116]}=true)∨seq name {data:=#[104,105,100,100,101,110]}=true then {data:=#[98,111,108,100]} else name
theorem nmF_y{s:ByteArray}(h:(z1M s=false∨seq s {data:=#[99,117,116]}=true)∨seq s {data:=#[104,105,100,100,101,110]}=true):nmF s={data:=#[98,111,108,100]}:=if_pos h
theorem nmF_n{s:ByteArray}(h:(z1M s=true∧seq s {data:=#[99,117,116]}=false)∧seq s {data:=#[104,105,100,100,101,110]}=false):nmF s=s:=by
 unfold nmF;rw[if_neg]
 rintro((q|q)|q)
 ·rw[h.1.1] at q;cases q
 ·rw[h.1.2] at q;cases q
 ·rw[h.2] at q;cases q
theorem y6N(s:ByteArray):NPg (nmF s):=by
 unfold nmF;split
 ·exact(by decide+kernel:z1d {data:=#[98,111,108,100]}=true)
 ·rename_i h
  show z1d s=true
  rw[←z8z]
  cases q:z1M s with
  |true=>rfl
  |false=>exact absurd (.inl (.inl q)) h
def chF(s:ByteArray):List Attr:=[⟨nmF s,{data:=#[122,122]}⟩]
theorem z6q(s:ByteArray):chkA true (chF s) 0=0:=by
 refine z0Q.2 ⟨⟨(fun b hb=>by cases hb),trivial⟩,fun a ha=> ?_⟩
 rw[show a=⟨nmF s,{data:=#[122,122]}⟩ by simpa[chF] using ha]
 exact⟨y6N s,.inl (by decide+kernel:valGo {data:=#[122,122]}=true)⟩
theorem y4U(f:List Elem)(n:Nat):(plcL f 0 n).Nodup:=by
 unfold plcL plcN List.Nodup
 rw[List.pairwise_map]
 exact(List.Pairwise.filter _ List.nodup_range).imp (fun h e=>h (by omega))
def inB(f:List Elem)(P:List Int)(a:Int)(i m:Nat):Bool:=(List.range m).any fun k=>(P.getD (a.toNat+k) default==(i:Int))&&((f.getD i default).char !=10)
theorem y1U(f:List Elem)(P:List Int)(a:Int)(i m:Nat):inB f P a i (m+1)=(inB f P a i m|| ((P.getD (a.toNat+m) default==(i:Int))&&((f.getD i default).char !=10))):=by
 unfold inB;rw[List.range_succ,List.any_append];simp
theorem y4V{w:Int→Bool}{P:List Int}{n:Nat}(hd:P.Nodup)(hp:∀x∈P,0≤x){i:Nat}(hi:i<n):∀m,m≤P.length→(rstF w P n m).getD i default=(List.range m).any fun k=>(P.getD k default==(i:Int))&&w (k:Int)
 |0,_=>by
  unfold rstF
  rw[List.range_zero,List.foldl_nil,List.getD_eq_getElem?_getD,List.getElem?_replicate,if_pos hi];rfl
 |m+1,hm=>by
  have ih:=y4V (w:=w) hd hp hi m (by omega)
  have e:P.getD m default=P[m]:=by rw[List.getD_eq_getElem?_getD,List.getElem?_eq_getElem (by omega)];rfl
  have h0:=hp _ (List.getElem_mem (show m<P.length by omega))
  rw[z4g,List.range_succ,List.any_append,List.any_cons,List.any_nil,Bool.or_false,←ih]
  by_cases q:P[m]=(i:Int)
  ·have hz:(rstF w P n m).getD i default=false:=by
    rw[ih]
    apply Classical.byContradiction;intro z
    have z:(List.range m).any (fun k=>(P.getD k default==(i:Int))&&w (k:Int))=true:=by simpa using z
    rw[List.any_eq_true] at z
    obtain⟨k,hk,z⟩:=z
    rw[List.mem_range] at hk
    rw[Bool.and_eq_true,beq_iff_eq] at z
    have e2:P.getD k default=P[k]:=by rw[List.getD_eq_getElem?_getD,List.getElem?_eq_getElem (by omega)];rfl
    exact List.pairwise_iff_getElem.1 hd k m (by omega) (by omega) hk (show P[k]=P[m] by rw[←e2,z.1,q])
   rw[hz,e,q]
   rw[show Int.toNat (i:Int)=i by omega,List.getD_eq_getElem?_getD,List.getElem?_set_self (by rw[z5m];exact hi)]
   simp
  ·have:¬(P[m]).toNat=i:=by omega
   rw[e,List.getD_eq_getElem?_getD,List.getElem?_set_ne this,←List.getD_eq_getElem?_getD]
   have z:(P[m]==(i:Int))=false:=by rw[beq_eq_false_iff_ne];exact q
   rw[z];simp
theorem y8W{p:Pl}{a b:Int}{i:Nat}(hd:p.shown.Nodup)(hp:∀x∈p.shown,0≤x)(hi:i<p.node.flow.length)(h:0≤a∧a≤b∧b< (p.shown.length:Int)):
 (rstF (fmtW p ⟨2,a,b⟩) p.shown p.node.flow.length p.shown.length).getD i default=inB p.node.flow p.shown a i (b-a).toNat:=by
 rw[y4V hd hp hi _ (Nat.le_refl _),Bool.eq_iff_iff,List.any_eq_true]
 unfold inB
 rw[List.any_eq_true]
 have key:∀k:Nat,k<p.shown.length→(p.shown.getD k default)=(i:Int)→elemP p (k:Int)=p.node.flow.getD i default:=fun k hk e=>by
  unfold elemP
  rw[if_neg (by omega),show Int.toNat (k:Int)=k by omega,e];rfl
 constructor
 ·rintro⟨k,hk,h2⟩
  rw[List.mem_range] at hk
  unfold fmtW at h2
  simp only[Bool.and_eq_true,beq_iff_eq,decide_eq_true_eq] at h2
  obtain⟨e,⟨q1,q2⟩,q3⟩:=h2
  refine⟨k-a.toNat,List.mem_range.2 (by omega),?_⟩
  rw[show a.toNat+(k-a.toNat)=k by omega,Bool.and_eq_true,beq_iff_eq]
  exact⟨e,by rw[←key k hk e];exact q3⟩
 ·rintro⟨k,hk,h2⟩
  rw[List.mem_range] at hk
  simp only[Bool.and_eq_true,beq_iff_eq] at h2
  refine⟨a.toNat+k,List.mem_range.2 (by omega),?_⟩
  unfold fmtW
  simp only[Bool.and_eq_true,beq_iff_eq,decide_eq_true_eq]
  exact⟨h2.1,⟨by omega,by omega⟩,by rw[key _ (by omega) h2.1];exact h2.2⟩
theorem y4W{c:List Attr}{F:List Bool}{f:List Elem}:z0j ((List.range f.length).map (rstU c F)) f=(List.range f.length).map fun i=>if F.getD i default=true then chgE c (f.getD i default) else f.getD i default:=by
 have h:=z85 (fun _=>false) (fun i=>if F.getD i default=true then c else[]) f f.length 0 (by omega)
 rw[List.drop_zero,←List.range_eq_range'] at h
 have e1:(List.range f.length).map (rstU c F)=(List.range f.length).map fun i=>if(fun _:Nat=>false) i=true then DU.C else .K (if F.getD i default=true then c else[]):=by
  refine List.map_congr_left fun i _=> ?_
  unfold rstU;simp only[Bool.false_eq_true,if_false]
  split<;>rfl
 rw[e1,h]
 have e2:(List.range f.length).filter (fun i=> !((fun _:Nat=>false) i))=List.range f.length:=by simp
 rw[e2]
 refine List.map_congr_left fun i _=> ?_
 split
 ·rfl
 ·exact z4e _
theorem rst_K{c:List Attr}{F:List Bool}{n:Nat}(h:0<n):lastK ((List.range n).map (rstU c F))=true:=by
 obtain⟨m,rfl⟩:∃m,n=m+1:=⟨n- 1,by omega⟩
 rw[List.range_succ,List.map_append,z6p _ (by simp)]
 unfold lastK rstU
 simp only[List.map_cons,List.map_nil]
 split<;>simp_all<;>split at* <;>simp_all
def forG(f:List Elem)(P:List Int)(a b:Int)(s:ByteArray):List Elem:=(List.range f.length).map fun i=>if inB f P a i (b-a).toNat=true then chgE (chF s) (f.getD i default) else f.getD i default
theorem z76(f:List Elem)(P:List Int)(a b:Int)(s:ByteArray):(forG f P a b s).length=f.length:=by simp[forG]
theorem y0h{f:List Elem}{P:List Int}{a b:Int}{s:ByteArray}{i:Nat}(h:i<f.length):(forG f P a b s).getD i default=if inB f P a i (b-a).toNat=true then chgE (chF s) (f.getD i default) else f.getD i default:=by
 unfold forG
 rw[List.getD_eq_getElem?_getD,List.getElem?_map,List.getElem?_range h];rfl
theorem y4X{f:List Elem}{P:List Int}{a b:Int}{s:ByteArray}{i:Nat}(h:i<f.length):((forG f P a b s).getD i default).char=(f.getD i default).char∧((forG f P a b s).getD i default).ref=(f.getD i default).ref:=by
 rw[y0h h];split<;>exact⟨rfl,rfl⟩
theorem y8X{l:List Attr}{n:ByteArray}(h:∀a∈l,a.val≠zzB):seq (getA l n 0) {data:=#[122,122]}=false:=by
 rw[z9Q,z05]
 cases hl:look l n with
 |none=>exact(by decide:mt≠zzB)
 |some v=>exact h _ (y0R hl)
theorem y8Y{l:List Attr}{s:ByteArray}(h:VG false l):seq (getA (fm rawG l (chF s)) (nmF s) 0) {data:=#[122,122]}=true:=by
 have hc:=z0Q.1 (z6q s)
 have hn:nmF s≠mt:=fun e=>np_mt (by have:=y6N s;rwa [e] at this)
 rw[z9Q,z4y np_mt z3g h hc (nmF s),z0x]
 have e:look (chF s) (nmF s)=some {data:=#[122,122]}:=by unfold chF look;rw[if_pos rfl]
 rw[e]
 cases look l (nmF s) with
 |none=>simp only[at2,rawG];rw[if_neg hn,if_neg (by decide)];rfl
 |some v=>simp only[at2,rawG];rw[if_neg hn,if_neg (by decide)];rfl
theorem y8c(raw:List Int)(a b:Int)(s:ByteArray){d:Doc}(hd:z1x 0 raw baseD 0=d){f:List Elem}(hf:(ndN d.nodes 2).flow=f){P:List Int}(hP:plcL f 0 f.length=P)(h:0≤a∧a≤b∧b< (P.length:Int)):
 (atE d ⟨2,a,b⟩ {data:=#[]}=0∧fmtE d ⟨2,a,b⟩ (chF s)=0)∧AppB d (fmtO d ⟨2,a,b⟩ (chF s))∧appE d (fmtO d ⟨2,a,b⟩ (chF s))=0∧((nodeF (appD d (fmtO d ⟨2,a,b⟩ (chF s))) 2).flow=forG f P a b s∧nodeH (appD d (fmtO d ⟨2,a,b⟩ (chF s))) 2=true)∧
 ∀i,i<f.length→(inB f P a i (b-a).toNat=seq (getA ((forG f P a b s).getD i default).attrs (nmF s) 0) {data:=#[122,122]}∧(inB f P a i (b-a).toNat=true∨(forG f P a b s).getD i default=f.getD i default)):=by
 have hN:=z9n [nmF s] (by simp) [] (fun v hv=>by cases hv)
 have hZ:=z9n [] (by simp) [zzB] (fun v hv=>by simpa using hv)
 have x1:=z74 hN raw
 have x2:=z74 hZ raw
 rw[hd] at x1 x2
 obtain⟨g1,g2⟩:=x1.flow
 obtain⟨z1,z2⟩:=x2.flow
 obtain⟨n1,n2,n3,n4,n5⟩:=x1.nd
 rw[hf] at g1 g2 z1
 obtain⟨t1,t2⟩:=x1.at (au:={data:=#[]}) (by rw[hf,hP];exact h) (.inl (by decide+kernel))
 rw[hf,hP] at t2
 have e1:fmtE d ⟨2,a,b⟩ (chF s)=0:=(z6b t1).trans (z6q s)
 have e2:=(fmt_3 t1 (z6q s)).1
 have hp0:∀x∈P,0≤x:=fun x hx=>by rw[←hP] at hx;obtain⟨i,_,_,rfl⟩:=y4Q.1 hx;omega
 have hnd:P.Nodup:=by rw[←hP];exact y4U _ _
 obtain⟨hu,hl,ho⟩:=y0g hN.toUB (c:=chF s) (f:=rstF (fmtW (atP d ⟨2,a,b⟩ {data:=#[]}) ⟨2,a,b⟩) P f.length P.length) (n:=f.length)
  (vu_of (z0Q.1 (z6q s)) (fun x hx=>by rw[show x=⟨nmF s,{data:=#[122,122]}⟩ by simpa[chF] using hx];exact⟨List.mem_append_right _ (by simp),by simp⟩)) (by omega)
 have ek:∀t∈rstD (chF s) (rstF (fmtW (atP d ⟨2,a,b⟩ {data:=#[]}) ⟨2,a,b⟩) P f.length P.length) f.length,∀x∈t.elems,x.ref=0:=fun t ht x hx=>by
  have:=(z9Z hu.sw (.A x)).1 (y4S ht (by
   rcases hu.v.1.all t ht with q| ⟨_,e,_⟩
   ·exact q.1
   ·rw[e] at hx;cases hx) hx)
  obtain⟨i,_,e⟩:=List.mem_map.1 this
  unfold rstU at e;split at e<;>cases e
 have r:=x1.op hN.toUB x1.pp hu (by rw[hf];exact ho) (rst_K g1.pos) ek
 have e3:fmtO d ⟨2,a,b⟩ (chF s)=[opF 2 (rstD (chF s) (rstF (fmtW (atP d ⟨2,a,b⟩ {data:=#[]}) ⟨2,a,b⟩) P f.length P.length) f.length)]:=by
  rw[e2];unfold fmtL;rw[t2];simp only;rw[n3,hf]
 have hF:∀i,i<f.length→(rstF (fmtW (atP d ⟨2,a,b⟩ {data:=#[]}) ⟨2,a,b⟩) P f.length P.length).getD i default=inB f P a i (b-a).toNat:=fun i hi=>by
  rw[t2]
  have:=y8W (p:=⟨ndN d.nodes 2,P,{data:=#[]}⟩) (a:=a) (b:=b) hnd hp0 (by rw[hf];exact hi) h
  rw[hf] at this;exact this
 have eg:z0j ((List.range f.length).map (rstU (chF s) (rstF (fmtW (atP d ⟨2,a,b⟩ {data:=#[]}) ⟨2,a,b⟩) P f.length P.length))) f=forG f P a b s:=by
  rw[y4W];unfold forG
  refine List.map_congr_left fun i hi=> ?_
  rw[hF i (List.mem_range.1 hi)]
 rw[e3]
 refine⟨⟨t1,e1⟩,r.1,r.2.1,?_,fun i hi=> ?_⟩
 ·rw[r.2.2,hf,eg];exact⟨congrArg Node.flow (z9o x1 _).1,(z9o x1 _).2⟩
 ·rw[y0h hi]
  have hx:=z1.ru _ (z0g hi)
  cases hb:inB f P a i (b-a).toNat with
  |true=>
   rw[if_pos rfl]
   exact⟨(y8Y hx.2.g).symm,.inl rfl⟩
  |false=>
   rw[if_neg (by decide)]
   refine⟨(y8X fun y hy e=> ?_).symm,.inr rfl⟩
   rcases(hx.2.2 y hy).2 with q|q
   ·exact q.2 (by rw[e];simp)
   ·cases q.1
end Go.Ch
end
section
set_option linter.unusedVariables false
set_option linter.unusedSimpArgs false
namespace Go.Ch
open Go Go.Ab
variable {U:US}
theorem y6O{n:List ByteArray}(s:ByteArray):NmZ (⟨UC++(nmF s::n),[]⟩:US) (chF s):=fun x hx=>by
 rw[show x=⟨nmF s,{data:=#[122,122]}⟩ by simpa[chF] using hx]
 exact⟨List.mem_append_right _ (by simp),by simp⟩
theorem y59{d:Doc}{s:ByteArray}{S:Sel}(x1:DX (⟨UC++[nmF s],[]⟩:US) d)(h1:atE d S {data:=#[]}=0)(h0:appE d (fmtO d S (chF s))=0):DocL (appD d (fmtO d S (chF s))):=by
 have hN:=z9n [nmF s] (by simp) [] (fun v hv=>by cases hv)
 have e1:fmtE d S (chF s)=0:=(z6b h1).trans (z6q s)
 have e2:=(fmt_3 h1 (z6q s)).1
 have cr:=y6J hN.toUB x1.pp (by omega) (y6O s) (fmtW (atP d S {data:=#[]}) S) e1
 obtain⟨a1,a2,a3,a4⟩:=z73 h0
 rw[a4]
 rw[e2] at a2 a3⊢
 exact((cr.2 (z5g.1 a2)).fin a3).docL hN.toUB (by omega)
theorem y8d{f:List Elem}{P:List Int}{a b:Int}{s:ByteArray}(h:∀x∈f,RU (⟨UC++[nmF s],[]⟩:US) x):∀x∈forG f P a b s,elemE x=0:=by
 intro x hx
 obtain⟨i,hi,rfl⟩:=z0C hx
 rw[z76] at hi
 rw[y0h hi]
 have hx:=h _ (z0g hi)
 split
 ·exact(RU.chg hx (vu_of (z0Q.1 (z6q s)) (y6O s))).1
 ·exact hx.1
theorem y6a(f:List Elem)(P:List Int)(a b:Int)(s:ByteArray):txS (forG f P a b s)=txS f:=by
 have e:(forG f P a b s).map runeE=f.map runeE:=by
  apply List.ext_getElem (by simp[z76])
  intro i h1 h2
  rw[List.getElem_map,List.getElem_map]
  rw[List.length_map] at h1 h2
  have hh:=y4X (P:=P) (a:=a) (b:=b) (s:=s) h2
  have g1:(forG f P a b s).getD i default=(forG f P a b s)[i]:=by rw[List.getD_eq_getElem?_getD,List.getElem?_eq_getElem h1];rfl
  have g2:f.getD i default=f[i]:=by rw[List.getD_eq_getElem?_getD,List.getElem?_eq_getElem h2];rfl
  rw[g1,g2] at hh
  unfold runeE
  rw[hh.1,hh.2]
 unfold txS txB
 have k:∀l:List Elem,l.flatMap (fun x=>Lib.encodeRuneZ (runeE x))=(l.map runeE).flatMap Lib.encodeRuneZ:=fun l=>by rw[List.flatMap_map]
 rw[k,k,e]
theorem y6b(raw:List Int)(a b:Int)(s:ByteArray){d:Doc}(hd:z1x 0 raw baseD 0=d){f:List Elem}(hf:(nodeF d 2).flow=f){P:List Int}(hP:shwR f f.length=P){A B:Int}(hA:z0b a 0 ((P.length:Int)- 1)=A)(hB:z0b b A ((P.length:Int)- 1)=B){c:List Attr}(hc:chF s=c){g:List Elem}(hg:(nodeF (appD d (fmtO d ⟨2,A,B⟩ c)) 2).flow=g):
 DocL d∧(f.length≤1048576∧1≤P.length)∧(∀x∈f,elemE x=0)∧(atE d ⟨2,A,B⟩ {data:=#[]}=0→PlB (atP d ⟨2,A,B⟩ {data:=#[]}))∧fmtE d ⟨2,A,B⟩ c=0∧AppB d (fmtO d ⟨2,A,B⟩ c)∧appE d (fmtO d ⟨2,A,B⟩ c)=0∧DocL (appD d (fmtO d ⟨2,A,B⟩ c))∧
 g.length=f.length∧(∀x∈g,elemE x=0)∧txS g=txS f∧(∀x∈P,0≤x∧x< (f.length:Int))∧
 (∀i,i<f.length→inB f P A i (Int.toNat (B-A))=seq (getA (g.getD i default).attrs (nmF s) 0) {data:=#[122,122]}∧(inB f P A i (Int.toNat (B-A))=true∨sameE (g.getD i default) (f.getD i default)=true))∧nodeH d 2=true∧nodeH (appD d (fmtO d ⟨2,A,B⟩ c)) 2=true:=by
 have hN:=z9n [nmF s] (by simp) [] (fun v hv=>by cases hv)
 have x1:=z74 hN raw
 rw[hd] at x1
 obtain⟨g1,g2⟩:=x1.flow
 rw[x1.node.1] at hf
 rw[hf] at g1 g2
 obtain⟨s1,s2⟩:=g1.plc
 rw[hP] at s1
 rw[←s1] at s2
 have w1:=z0n a (lo:=0) (hi:=(P.length:Int)- 1) (by omega)
 rw[hA] at w1
 have w2:=z0n b (lo:=A) (hi:=(P.length:Int)- 1) (by omega)
 rw[hB] at w2
 have r:=y8c raw A B s hd hf s1.symm (by omega)
 rw[hc] at r
 obtain⟨⟨r1,r2⟩,r3,r4,⟨r5,rH⟩,r6⟩:=r
 rw[hg] at r5
 subst r5
 refine⟨x1.pp.docL hN.toUB (by omega),⟨by omega,s2⟩,fun x hx=>(g1.ru x hx).1,fun q=>(z1T hN.toUB x1.pp (by omega) (by simp) q).1,r2,r3,r4,?_,z76 _ _ _ _ _,y8d g1.ru,y6a _ _ _ _ _,fun x hx=> ?_,fun i hi=>⟨(r6 i hi).1,(r6 i hi).2.imp id fun e=>by rw[e];exact y19 _⟩,x1.node.2,rH⟩
 ·rw[←hc] at r4⊢;exact y59 x1 r1 r4
 ·rw[s1] at hx;exact y1J hx
end Go.Ch
end
section
set_option linter.unusedVariables false
set_option linter.unusedSimpArgs false
set_option maxRecDepth 100000
set_option maxHeartbeats 4000000
open Go Go.Proofs Go.Ab
namespace Go.Ch
theorem y4Y(raw:List Int)(G:Nat→Doc→Prop)(hI:GInv 0 G)(hg:G 0 baseD){d:Doc}(h:z1x 0 raw baseD 0=d):FC Tryz.prog 7 [VL 1 intT raw] (app emp []) (.t (docT d)) (app emp []):=h▸y5Z raw G hI hg
theorem z77(d:Doc)(hb:DocL d){n:Node}(h:nodeF d 2=n)(h2:nodeH d 2=true):FC Tryz.prog 8 [.t (docT d),VI 2] (app emp []) (.tup [.t (nodeT n),VB true]) (app emp []):=h▸h2▸z97 d 2 hb
theorem y4Z(f:List Elem)(hn:f.length≤1048576){P:List Int}(h:shwR f f.length=P):FC Tryz.prog 15 [VL 3 elemT f,VI 0] (app emp []) (VL 1 intT P) (app emp []):=h▸z9d f hn
theorem z63(x lo hi:Int)(hl: -1000000000000≤lo∧lo≤hi∧hi≤1000000000000){z:Int}(h:z0b x lo hi=z):FC Tryz.prog 10 [VI x,VI lo,VI hi] (app emp []) (VI z) (app emp []):=h▸z0y x lo hi hl
theorem z9p(d:Doc)(c:List EOp)(hb:AppB d c){d2:Doc}(h:appD d c=d2)(h0:appE d c=0):FC Tryz.prog 13 [.t (docT d),VL 19 eopT c] (app emp []) (.tup [.t (docT d2),VI 0]) (app emp []):=by
 have:=z5q d c hb
 rw[h,h0] at this;exact this
theorem z64(d:Doc)(s:Sel)(c:List Attr)(hb:DocL d)(hc:c.length≤1048576)(hx:atE d s {data:=#[]}=0→PlB (atP d s {data:=#[]})){o:List EOp}(h:fmtO d s c=o)(h0:fmtE d s c=0):FC Tryz.prog 17 [.t (docT d),.t (selT s),VL 2 attrT c] (app emp []) (.tup [VL 19 eopT o,VI 0]) (app emp []):=by
 have:=z9a d s c hb hc hx
 rw[h,h0] at this;exact this
structure Ok38(raw:List Int)(a b:Int)(s:ByteArray)(d d2:Doc)(n m:Node)(P:List Int)(A B:Int)(o:List EOp):Prop where
 hd:z1x 0 raw baseD 0=d
 hn:nodeF d 2=n∧nodeH d 2=true
 hP:shwR n.flow n.flow.length=P
 hA:z0b a 0 ((P.length:Int)- 1)=A
 hB:z0b b A ((P.length:Int)- 1)=B
 ho:fmtO d ⟨2,A,B⟩ [({name:=nmF s,val:={data:=#[122,122]}}:Attr)]=o
 hd2:appD d o=d2
 hm:nodeF d2 2=m∧nodeH d2 2=true
 doc:DocL d
 len:n.flow.length≤1048576∧1≤P.length
 ok:∀x∈n.flow,elemE x=0
 pl:atE d ⟨2,A,B⟩ {data:=#[]}=0→PlB (atP d ⟨2,A,B⟩ {data:=#[]})
 e1:fmtE d ⟨2,A,B⟩ [({name:=nmF s,val:={data:=#[122,122]}}:Attr)]=0
 ap:AppB d o
 e2:appE d o=0
 doc2:DocL d2
 g:m.flow.length=n.flow.length
 ok2:∀x∈m.flow,elemE x=0
 str:txS m.flow=txS n.flow
 sh:∀x∈P,0≤x∧x< (n.flow.length:Int)
 each:∀i,i<n.flow.length→inB n.flow P A i (Int.toNat (B-A))=seq (getA (m.flow.getD i default).attrs (nmF s) 0) {data:=#[122,122]}∧(inB n.flow P A i (Int.toNat (B-A))=true∨sameE (m.flow.getD i default) (n.flow.getD i default)=true)
theorem y6c(raw:List Int)(a b:Int)(s:ByteArray)(G:Nat→Doc→Prop)(hI:GInv 0 G)(hg:G 0 baseD)(hs:s.size≤9223372036854775807)(d d2:Doc)(n m:Node)(P:List Int)(A B:Int)(o:List EOp)(hx:Ok38 raw a b s d d2 n m P A B o):FC Tryz.prog 4 [VL 1 intT raw,VI a,VI b,VS s] (app emp []) (VB true) (app emp []):=by
 refine .go Tryz.f4 ?_
 refine .len 0 (fun hl0=> ?_)
 obtain⟨hd,⟨hn,hn2⟩,hP,hA,hB,ho,hd2,⟨hm,hm2⟩,hD,⟨hfl,hsl⟩,hok,hpl,he1,hap,he2,hD2,hgl,hok2,hstr,hsh,heach⟩:=hx
 have hw:=z0n a (lo:=0) (hi:=(P.length:Int)- 1) (by omega)
 rw[hA] at hw
 have hw2:=z0n b (lo:=A) (hi:=(P.length:Int)- 1) (by omega)
 rw[hB] at hw2
 have hsl2:=z5o n.flow n.flow.length
 rw[hP] at hsl2
 refine .bp [.r [],.r [(0,X (Xc0 y58 X0))],.f,.r [(1,X (Xc1 32 (y4Y raw G hI hg hd) X0))],.r [(1,X (Xc1 64 (z77 d hD hn hn2) X0))],.r [(2,X (Xc1 136 (y4Z n.flow hfl hP) X0))],.r [(2,X (Xl intT P)),(3,X (Xn ((P.length:Int)- 1))),(4,X (Xc0 (z63 a 0 ((P.length:Int)- 1) (by omega) hA) X0))],.r [(3,X (Xl intT P)),(4,X (Xn ((P.length:Int)- 1))),(5,X (Xc0 (z63 b A ((P.length:Int)- 1) (by omega) hB) X0))],.r [(1,X (Xc0 (y5i s (by(first|omega|with_reducible exact fun h=>h| (intro hq;rw[hq];done)| (intro hq;rw[hq];rfl)| (simp only[List.length_map];done)| (simp only[List.length_map];omega)| (simp;omega)| (simp;done)))) X0)),(5,Xv 1 (!(!(z1M s))) X0),(6,X (Xk' (!(z1M s)))),(9,Xv 1 (!(!(z1M s)||seq s ({data:=#[99,117,116]}))) X0),(10,X (Xk' (!(z1M s)||seq s ({data:=#[99,117,116]}))))]] ((!(z1M s)||seq s ({data:=#[99,117,116]}))||seq s ({data:=#[104,105,100,100,101,110]})) (fun h8=> ?_) (fun h8=> ?_)
 ·
  refine .bp [.r [],.le (.eq 3 (VS ({data:=#[98,111,108,100]})) (VS (nmF s)) (.of_eq (by first|rw[nmF_y h8]|rw[nmF_n h8]))),.r [(7,X (Xc1 408 (z64 d ({nd:=2,fr:=A,tq:=B}:Sel) [({name:=(nmF s),val:={data:=#[122,122]}}:Attr)] hD (by simp) hpl ho he1) (rowC attrT [({name:=(nmF s),val:={data:=#[122,122]}}:Attr)] X0)))],.r [(2,X (Xc1 472 (z9p d o hap hd2 he2) X0))],.r [(1,X (Xc1 536 (z77 d2 hD2 hm hm2) X0))],.r [(4,Xv 1 (!false) X0),(5,X (Xk' false)),(8,Xv 1 (!(false||false)) X0),(9,Xv 1 (!(false||false)) (Xc0 (z7S m.flow (by assumption) (by omega)) X0)),(11,Xv 1 (!(false||false)) X0),(12,Xv 1 (!(false||false)) (Xc0 (z7S n.flow (by assumption) (by omega)) X0)),(13,Xv 2 (!(false||false)) X0),(14,X (Xk' (false||false)))]] ((false||false)|| !(seq (txS m.flow) (txS n.flow))) (fun h13=> ?_) (fun h13=> ?_)
  ·
   exfalso
   rw[hstr,show seq (txS n.flow) (txS n.flow)=true from z0x.2 rfl] at h13;simp at h13
  ·
   refine .loop (α:=Nat) [.r [(2,X (Xl elemT n.flow))]] 744 (fun i=>([(1,VI A),(2,VI B),(3,VS (nmF s)),(10,.ptr 96 0),(12,VL 1 intT P),(17,.ptr 568 0),(95,VI (n.flow.length:Int)),(96,VI (i:Int))],[(96,.box [VI n.id,VI n.kind,VL 2 attrT n.attrs,VL 3 elemT n.flow,VI n.grid.rows,VI n.grid.cols,VL 5 cellT n.grid.cells,VL 4 rectT n.grid.merges,VL 8 dopT n.draw]),(568,.box [VI m.id,VI m.kind,VL 2 attrT m.attrs,VL 3 elemT m.flow,VI m.grid.rows,VI m.grid.cols,VL 5 cellT m.grid.cells,VL 4 rectT m.grid.merges,VL 8 dopT m.draw])])) (fun i=>i≤n.flow.length) (fun i=>n.flow.length-i) (0:Nat) ?_ ?_
   ·
    omega
   rintro i I16 ih16
   try dsimp only at I16
   refine .bp [.r []] (decide ((i:Int)< (n.flow.length:Int))) (fun h16=> ?_) (fun h16=> ?_)
   ·
    refine .loop (α:=Bool×Int) [.r [],.r [],.r []] 792 (fun(c,k)=>([(1,VI A),(2,VI B),(3,VS (nmF s)),(10,.ptr 96 0),(12,VL 1 intT P),(17,.ptr 568 0),(19,VI (i:Int)),(20,VB c),(21,VI k),(95,VI (n.flow.length:Int)),(96,VI (i:Int))],[(96,.box [VI n.id,VI n.kind,VL 2 attrT n.attrs,VL 3 elemT n.flow,VI n.grid.rows,VI n.grid.cols,VL 5 cellT n.grid.cells,VL 4 rectT n.grid.merges,VL 8 dopT n.draw]),(568,.box [VI m.id,VI m.kind,VL 2 attrT m.attrs,VL 3 elemT m.flow,VI m.grid.rows,VI m.grid.cols,VL 5 cellT m.grid.cells,VL 4 rectT m.grid.merges,VL 8 dopT m.draw])])) (fun(c,k)=>A≤k∧k≤B∧c=inB n.flow P A i (Int.toNat (k-A))) (fun(c,k)=>Int.toNat (B-k)) (false,A) ?_ ?_
    ·
     exact⟨by omega,by omega,by rw[Int.sub_self];rfl⟩
    rintro⟨c,k⟩ I20 ih20
    try dsimp only at I20
    refine .bp [.r []] (decide (k<B)) (fun h20=> ?_) (fun h20=> ?_)
    ·
     refine .back [.r [(4,Xv 2 (!c) (Xi intT P k)),(5,Xv 1 (!c) X0),(7,Xv 2 (!c) X0),(8,Xv 1 (!c) X0),(10,Xv 1 ((!c)&&((P.getD (Int.toNat k) default)==(i:Int))) X0),(12,Xv 2 ((!c)&&((P.getD (Int.toNat k) default)==(i:Int))) (Xi elemT n.flow (i:Int))),(13,Xv 1 ((!c)&&((P.getD (Int.toNat k) default)==(i:Int))) X0),(14,Xv 1 ((!c)&&((P.getD (Int.toNat k) default)==(i:Int))) X0),(15,Xv 1 ((!c)&&((P.getD (Int.toNat k) default)==(i:Int))) X0),(16,Xka (!c) ((P.getD (Int.toNat k) default)==(i:Int))),(17,X (Xk' c))],.r [(1,X (Xn (k+1)))]] [(96,96),(568,568)] (ih20 ((c|| (((P.getD (Int.toNat k) default)==(i:Int))&&((((n.flow.getD i default)).char) !=10))),(k+1)) ?_ ?_)
     ·
      refine⟨by omega,by omega,?_⟩
      rw[show Int.toNat (k+1-A)=Int.toNat (k-A)+1 by omega,y1U,←I20.2.2,show Int.toNat A+Int.toNat (k-A)=Int.toNat k by omega]
      try rfl
     ·
      ((try dsimp only);omega)
    ·
     refine .bp [.r [(4,X (Xi elemT m.flow (i:Int))),(8,X (Xc0 (z96 (((m.flow.getD i default)).attrs) (nmF s)) X0)),(13,Xv 1 (!(!(c==seq (getA (((m.flow.getD i default)).attrs) (nmF s) 0) ({data:=#[122,122]})))) X0),(14,Xv 1 (!(!(c==seq (getA (((m.flow.getD i default)).attrs) (nmF s) 0) ({data:=#[122,122]})))) X0),(16,Xv 1 ((!(!(c==seq (getA (((m.flow.getD i default)).attrs) (nmF s) 0) ({data:=#[122,122]}))))&&(!c)) X0),(18,Xv 2 ((!(!(c==seq (getA (((m.flow.getD i default)).attrs) (nmF s) 0) ({data:=#[122,122]}))))&&(!c)) (Xi elemT m.flow (i:Int))),(19,Xv 1 ((!(!(c==seq (getA (((m.flow.getD i default)).attrs) (nmF s) 0) ({data:=#[122,122]}))))&&(!c)) X0),(21,Xv 1 ((!(!(c==seq (getA (((m.flow.getD i default)).attrs) (nmF s) 0) ({data:=#[122,122]}))))&&(!c)) X0),(23,Xv 2 ((!(!(c==seq (getA (((m.flow.getD i default)).attrs) (nmF s) 0) ({data:=#[122,122]}))))&&(!c)) (Xi elemT n.flow (i:Int))),(24,Xv 1 ((!(!(c==seq (getA (((m.flow.getD i default)).attrs) (nmF s) 0) ({data:=#[122,122]}))))&&(!c)) X0),(25,Xv 2 ((!(!(c==seq (getA (((m.flow.getD i default)).attrs) (nmF s) 0) ({data:=#[122,122]}))))&&(!c)) (Xc0 (z5V ((m.flow.getD i default)) ((n.flow.getD i default))) X0)),(26,Xv 1 ((!(!(c==seq (getA (((m.flow.getD i default)).attrs) (nmF s) 0) ({data:=#[122,122]}))))&&(!c)) X0),(27,Xka (!(!(c==seq (getA (((m.flow.getD i default)).attrs) (nmF s) 0) ({data:=#[122,122]})))) (!c)),(28,X (Xk' (!(c==seq (getA (((m.flow.getD i default)).attrs) (nmF s) 0) ({data:=#[122,122]})))))]] (!(c==seq (getA (((m.flow.getD i default)).attrs) (nmF s) 0) ({data:=#[122,122]}))|| (!c&& !(sameE ((m.flow.getD i default)) ((n.flow.getD i default))))) (fun h23=> ?_) (fun h23=> ?_)
     ·
      exfalso
      obtain⟨q1,q2⟩:=heach i (by omega)
      have hc:=I20.2.2
      rw[show k=B by omega] at hc
      rw[←hc] at q1 q2
      rw[←q1] at h23
      cases c<;>simp_all[-List.getD_eq_getElem?_getD]
     ·
      refine .back [.r [(0,X (Xn ((i:Int)+1)))]] [(96,96),(568,568)] (ih16 ((i+1):Nat) ?_ ?_)
      ·
       show _;(first|omega|with_reducible exact fun h=>h| (intro hq;rw[hq];done)| (intro hq;rw[hq];rfl)| (simp only[List.length_map];done)| (simp only[List.length_map];omega)| (simp;omega)| (simp;done))
      ·
       ((try dsimp only);omega)
   ·
    exact .fin [.r []] []
 ·
  refine .bp [.le (.eq 3 (VS s) (VS (nmF s)) (.of_eq (by first|rw[nmF_y h8]|rw[nmF_n h8]))),.r [(7,X (Xc1 400 (z64 d ({nd:=2,fr:=A,tq:=B}:Sel) [({name:=(nmF s),val:={data:=#[122,122]}}:Attr)] hD (by simp) hpl ho he1) (rowC attrT [({name:=(nmF s),val:={data:=#[122,122]}}:Attr)] X0)))],.r [(2,X (Xc1 464 (z9p d o hap hd2 he2) X0))],.r [(1,X (Xc1 528 (z77 d2 hD2 hm hm2) X0))],.r [(4,Xv 1 (!false) X0),(5,X (Xk' false)),(8,Xv 1 (!(false||false)) X0),(9,Xv 1 (!(false||false)) (Xc0 (z7S m.flow (by assumption) (by omega)) X0)),(11,Xv 1 (!(false||false)) X0),(12,Xv 1 (!(false||false)) (Xc0 (z7S n.flow (by assumption) (by omega)) X0)),(13,Xv 2 (!(false||false)) X0),(14,X (Xk' (false||false)))]] ((false||false)|| !(seq (txS m.flow) (txS n.flow))) (fun h13=> ?_) (fun h13=> ?_)
  ·
   exfalso
   rw[hstr,show seq (txS n.flow) (txS n.flow)=true from z0x.2 rfl] at h13;simp at h13
  ·
   refine .loop (α:=Nat) [.r [(2,X (Xl elemT n.flow))]] 736 (fun i=>([(1,VI A),(2,VI B),(3,VS (nmF s)),(10,.ptr 96 0),(12,VL 1 intT P),(17,.ptr 560 0),(95,VI (n.flow.length:Int)),(96,VI (i:Int))],[(96,.box [VI n.id,VI n.kind,VL 2 attrT n.attrs,VL 3 elemT n.flow,VI n.grid.rows,VI n.grid.cols,VL 5 cellT n.grid.cells,VL 4 rectT n.grid.merges,VL 8 dopT n.draw]),(560,.box [VI m.id,VI m.kind,VL 2 attrT m.attrs,VL 3 elemT m.flow,VI m.grid.rows,VI m.grid.cols,VL 5 cellT m.grid.cells,VL 4 rectT m.grid.merges,VL 8 dopT m.draw])])) (fun i=>i≤n.flow.length) (fun i=>n.flow.length-i) (0:Nat) ?_ ?_
   ·
    omega
   rintro i I16 ih16
   try dsimp only at I16
   refine .bp [.r []] (decide ((i:Int)< (n.flow.length:Int))) (fun h16=> ?_) (fun h16=> ?_)
   ·
    refine .loop (α:=Bool×Int) [.r [],.r [],.r []] 784 (fun(c,k)=>([(1,VI A),(2,VI B),(3,VS (nmF s)),(10,.ptr 96 0),(12,VL 1 intT P),(17,.ptr 560 0),(19,VI (i:Int)),(20,VB c),(21,VI k),(95,VI (n.flow.length:Int)),(96,VI (i:Int))],[(96,.box [VI n.id,VI n.kind,VL 2 attrT n.attrs,VL 3 elemT n.flow,VI n.grid.rows,VI n.grid.cols,VL 5 cellT n.grid.cells,VL 4 rectT n.grid.merges,VL 8 dopT n.draw]),(560,.box [VI m.id,VI m.kind,VL 2 attrT m.attrs,VL 3 elemT m.flow,VI m.grid.rows,VI m.grid.cols,VL 5 cellT m.grid.cells,VL 4 rectT m.grid.merges,VL 8 dopT m.draw])])) (fun(c,k)=>A≤k∧k≤B∧c=inB n.flow P A i (Int.toNat (k-A))) (fun(c,k)=>Int.toNat (B-k)) (false,A) ?_ ?_
    ·
     exact⟨by omega,by omega,by rw[Int.sub_self];rfl⟩
    rintro⟨c,k⟩ I20 ih20
    try dsimp only at I20
    refine .bp [.r []] (decide (k<B)) (fun h20=> ?_) (fun h20=> ?_)
    ·
     refine .back [.r [(4,Xv 2 (!c) (Xi intT P k)),(5,Xv 1 (!c) X0),(7,Xv 2 (!c) X0),(8,Xv 1 (!c) X0),(10,Xv 1 ((!c)&&((P.getD (Int.toNat k) default)==(i:Int))) X0),(12,Xv 2 ((!c)&&((P.getD (Int.toNat k) default)==(i:Int))) (Xi elemT n.flow (i:Int))),(13,Xv 1 ((!c)&&((P.getD (Int.toNat k) default)==(i:Int))) X0),(14,Xv 1 ((!c)&&((P.getD (Int.toNat k) default)==(i:Int))) X0),(15,Xv 1 ((!c)&&((P.getD (Int.toNat k) default)==(i:Int))) X0),(16,Xka (!c) ((P.getD (Int.toNat k) default)==(i:Int))),(17,X (Xk' c))],.r [(1,X (Xn (k+1)))]] [(96,96),(560,560)] (ih20 ((c|| (((P.getD (Int.toNat k) default)==(i:Int))&&((((n.flow.getD i default)).char) !=10))),(k+1)) ?_ ?_)
     ·
      refine⟨by omega,by omega,?_⟩
      rw[show Int.toNat (k+1-A)=Int.toNat (k-A)+1 by omega,y1U,←I20.2.2,show Int.toNat A+Int.toNat (k-A)=Int.toNat k by omega]
      try rfl
     ·
      ((try dsimp only);omega)
    ·
     refine .bp [.r [(4,X (Xi elemT m.flow (i:Int))),(8,X (Xc0 (z96 (((m.flow.getD i default)).attrs) (nmF s)) X0)),(13,Xv 1 (!(!(c==seq (getA (((m.flow.getD i default)).attrs) (nmF s) 0) ({data:=#[122,122]})))) X0),(14,Xv 1 (!(!(c==seq (getA (((m.flow.getD i default)).attrs) (nmF s) 0) ({data:=#[122,122]})))) X0),(16,Xv 1 ((!(!(c==seq (getA (((m.flow.getD i default)).attrs) (nmF s) 0) ({data:=#[122,122]}))))&&(!c)) X0),(18,Xv 2 ((!(!(c==seq (getA (((m.flow.getD i default)).attrs) (nmF s) 0) ({data:=#[122,122]}))))&&(!c)) (Xi elemT m.flow (i:Int))),(19,Xv 1 ((!(!(c==seq (getA (((m.flow.getD i default)).attrs) (nmF s) 0) ({data:=#[122,122]}))))&&(!c)) X0),(21,Xv 1 ((!(!(c==seq (getA (((m.flow.getD i default)).attrs) (nmF s) 0) ({data:=#[122,122]}))))&&(!c)) X0),(23,Xv 2 ((!(!(c==seq (getA (((m.flow.getD i default)).attrs) (nmF s) 0) ({data:=#[122,122]}))))&&(!c)) (Xi elemT n.flow (i:Int))),(24,Xv 1 ((!(!(c==seq (getA (((m.flow.getD i default)).attrs) (nmF s) 0) ({data:=#[122,122]}))))&&(!c)) X0),(25,Xv 2 ((!(!(c==seq (getA (((m.flow.getD i default)).attrs) (nmF s) 0) ({data:=#[122,122]}))))&&(!c)) (Xc0 (z5V ((m.flow.getD i default)) ((n.flow.getD i default))) X0)),(26,Xv 1 ((!(!(c==seq (getA (((m.flow.getD i default)).attrs) (nmF s) 0) ({data:=#[122,122]}))))&&(!c)) X0),(27,Xka (!(!(c==seq (getA (((m.flow.getD i default)).attrs) (nmF s) 0) ({data:=#[122,122]})))) (!c)),(28,X (Xk' (!(c==seq (getA (((m.flow.getD i default)).attrs) (nmF s) 0) ({data:=#[122,122]})))))]] (!(c==seq (getA (((m.flow.getD i default)).attrs) (nmF s) 0) ({data:=#[122,122]}))|| (!c&& !(sameE ((m.flow.getD i default)) ((n.flow.getD i default))))) (fun h23=> ?_) (fun h23=> ?_)
     ·
      exfalso
      obtain⟨q1,q2⟩:=heach i (by omega)
      have hc:=I20.2.2
      rw[show k=B by omega] at hc
      rw[←hc] at q1 q2
      rw[←q1] at h23
      cases c<;>simp_all[-List.getD_eq_getElem?_getD]
     ·
      refine .back [.r [(0,X (Xn ((i:Int)+1)))]] [(96,96),(560,560)] (ih16 ((i+1):Nat) ?_ ?_)
      ·
       show _;(first|omega|with_reducible exact fun h=>h| (intro hq;rw[hq];done)| (intro hq;rw[hq];rfl)| (simp only[List.length_map];done)| (simp only[List.length_map];omega)| (simp;omega)| (simp;done))
      ·
       ((try dsimp only);omega)
   ·
    exact .fin [.r []] []
theorem y6d(raw:List Int)(a b:Int)(s:ByteArray)(hs:s.size≤9223372036854775807):FC Tryz.prog 4 [VL 1 intT raw,VI a,VI b,VS s] (app emp []) (VB true) (app emp []):=by
 have hI:=y76 un_0 rfl (s:=0) (by omega)
 have hg:=y4P un_0
 obtain⟨h1,h2,h3,h4,h5,h6,h7,h8,h9,h10,h11,h12,h13,h14,h15⟩:=y6b raw a b s rfl rfl rfl rfl rfl rfl rfl
 exact y6c raw a b s _ hI hg hs _ _ _ _ _ _ _ _ ⟨rfl,⟨rfl,h14⟩,rfl,rfl,rfl,rfl,rfl,⟨rfl,h15⟩,h1,h2,h3,h4,h5,h6,h7,h8,h9,h10,h11,h12,h13⟩
end Go.Ch
end
