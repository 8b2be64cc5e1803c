/- The abstract values of the framework: immutable trees, owned rows and boxes, and how they stand to the concrete world. -/
import Derived.Calls
import Derived.Orders
import Derived.Tactics
import Derived.Below
import Derived.Shelf.Unicode.DecodeAny
import Derived.Lib.ItoaNum
import Derived.CallsIn
import Derived.Laws.Cells
import Derived.Laws.AppendOwn
import Derived.Laws.Tables
import Derived.ChangeKeysEq
import Derived.Lib.SliceRun
import Derived.Laws.StructEq
import Derived.Laws.IdiomStrings
import Derived.Lib.ByteType
section
set_option linter.unusedVariables false
namespace Go.Ab
inductive Tree where
 |sc (v:Value)
 |agg (cs:List Tree)
 |lst (k:Nat) (xs:List Tree)
instance:Inhabited Tree:=⟨.sc (.bool false)⟩
def Tree.cells:Tree→List Tree
 | .agg cs=>cs
 | .sc v=>[.sc v]
 | .lst k xs=>[.lst k xs]
def Tree.isCell:Tree→Bool
 | .agg _=>false
 |_=>true
def flat:List Tree→List Tree
 | []=>[]
 |x::xs=>x.cells++flat xs
def Elt(k:Nat)(x:Tree):Prop:=x.cells.length=k∧∀T∈x.cells,T.isCell=true
def z65:List (String×(Array Value→Prop)):=
 [("internal/strconv.uint64pow10",fun cs=>cs=(Lib.pow10Tab.map fun z=>Value.int .u64 z).toArray),("strconv.ErrSyntax",fun cs=> ∃tp p,cs=#[.iface tp p]),("strconv.ErrRange",fun cs=> ∃tp p,cs=#[.iface tp p])]
structure TabIn(P:Program)(says:Nat→Obj→Prop):Prop where
 utf:∀a b,P.globalNamed "unicode/utf8.first" =some a→P.globalNamed "unicode/utf8.acceptRanges" =some b→
  ∃x y,says a x∧says b y∧∀w:World,w.heap[a]? =some x→w.heap[b]? =some y→Lib.Utf8Tabs a b w
 var:∀p∈z65,∀a,P.globalNamed p.1=some a→∃cs e z,says a (.cells cs e z)∧p.2 cs
inductive TRep (w:World) (ok:Nat→Prop):Tree→Value→Prop
 |sc (v:Value) (h:v.oneCell'=true):TRep w ok (.sc v) v
 |agg (cs:List Tree) (us:List Value) (hl:us.length=cs.length) (hc:∀T∈cs,T.isCell=true)
  (h:∀(i:Nat) (T:Tree) (u:Value),cs[i]? =some T→us[i]? =some u→TRep w ok T u):TRep w ok (.agg cs) (.agg us.toArray)
 |lst (k:Nat) (xs:List Tree) (A:Option Addr) (c:Nat) (us:List Value) (hk:0<k) (hx:∀x∈xs,Elt k x) (hn:xs.length≤c) (hm:c≤maxLen)
  (hA:xs≠[]→∃b o,A=some ⟨b,o,none⟩∧ok b∧∀(j:Nat) (u:Value),us[j]? =some u→w.cell? ⟨b,o+j,none⟩=some u)
  (hl:us.length=xs.length*k)
  (h:∀(j:Nat) (T:Tree) (u:Value),(flat xs)[j]? =some T→us[j]? =some u→TRep w ok T u):TRep w ok (.lst k xs) (.slice A xs.length c)
theorem TRep.mono{w w':World}{ok ok':Nat→Prop}(hok:∀b,ok b→ok' b)(hc:∀b o u,ok b→w.cell? ⟨b,o,none⟩=some u→w'.cell? ⟨b,o,none⟩=some u)
 {T:Tree} {v:Value} (h:TRep w ok T v):TRep w' ok' T v:=by
 induction h with
 |sc v h=>exact .sc v h
 |agg cs us hl hc' _ ih=>exact .agg cs us hl hc' ih
 |lst k xs A c us hk hx hn hm hA hl _ ih=>
  refine .lst k xs A c us hk hx hn hm (fun hne=> ?_) hl ih
  obtain⟨b,o,e,hb,hcell⟩:=hA hne
  exact⟨b,o,e,hok b hb,fun j u hu=>hc _ _ _ hb (hcell j u hu)⟩
theorem TRep.one{w:World}{ok:Nat→Prop}{T:Tree}{v:Value}(h:TRep w ok T v)(hT:T.isCell=true):v.oneCell'=true:=by
 cases h with
 |sc _ h=>exact h
 |agg=>simp[Tree.isCell] at hT
 |lst=>rfl
inductive AVal where
 |t (T:Tree)
 |row (id n:Nat)
 |ptr (id off:Nat)
 |eptr (id n i sub:Nat)
 |cptr (cs:List Tree)
 |agg (cs:List AVal)
 |fn (f:FuncId) (cap:List AVal)
 |tup (vs:List AVal)
 |cond (c:Bool) (v:AVal)
 |mat (id:Nat)
 |mptr (id i:Nat)
 |anyB
 |ifc
 |tail (id n i:Nat)
 |hdl (id:Nat)
 |xl (k:Nat) (xs:List Tree)
 |yl (id:Nat)
 |bsl (id n:Nat)
 |junk
instance:Inhabited AVal:=⟨.junk⟩
inductive MV where
 |im (T:Tree)
 |cp (cs:List Tree)
 |bx (cs:List Tree)
 |rw(k:Nat) (xs:List Tree)
instance:Inhabited MV:=⟨.im default⟩
structure YSpec where
 fn:Value
 kind:(∃f cap,fn= .func (.func f) #[] cap)∨∃l,fn= .func (.yield l) #[] #[]
 goes:List (List Tree)→Bool
 adm:List (List Tree)→List Tree→Prop
 D:Nat→Prop
 holds:List (List Tree)→List Nat→World→Prop
 stab:∀pre g w w',holds pre g w→w.heap.size≤w'.heap.size→(∀b∈g,w'.heap[b]? =w.heap[b]?)→(∀b,D b→w'.heap[b]? =w.heap[b]?)→holds pre g w'
 stabD:∀pre g w w' (q:Nat),holds pre g w→w.heap[q]? =some (.deferred (some []))→q∉g→w'.heap.size=w.heap.size→(∀b,b≠q→w'.heap[b]? =w.heap[b]?)→holds pre g w'
inductive Ob where
 |box (cs:List AVal)
 |row (k:Nat) (fz:Bool) (xs:List Tree)
 |mat (fz:Bool) (xs:List Tree) (h:Option (Nat×Nat×Nat))
 |gone
 |siter (s:ByteArray) (pos:Nat)
 |mp (es:List (Int×MV)) (h:Option (Int×AVal))
 |miter (mid n:Nat) (seen:List Nat)
 |ext (Y:YSpec) (pre:List (List Tree))
def matC(xs:List Tree):Option (Nat×Nat×Nat)→List AVal
 |none=>xs.map .t
 |some (i,id,n)=>(xs.map .t).set i (.row id n)
theorem z1F(xs:List Tree)(h:Option (Nat×Nat×Nat)):(matC xs h).length=xs.length:=by
 cases h<;>simp[matC]
def Ob.len:Ob→Nat
 | .box _=>0
 | .row _ _ xs=>xs.length
 | .mat _ xs _=>xs.length
 | .gone=>18446744073709551616
 | .siter _ _=>0
 | .mp _ _=>0
 | .miter _ _ _=>0
 | .ext _ _=>0
def Ob.live:Ob→Bool
 | .box _=>true
 | .row _ fz _=> !fz
 | .mat fz _ _=> !fz
 | .gone=>false
 | .siter _ _=>true
 | .mp _ _=>true
 | .miter _ _ _=>true
 | .ext _ _=>true
def Ob.same:Ob→Ob→Prop
 | .box cs,.box cs'=>cs.length=cs'.length
 | .row k _ _,.row k' _ _=>k=k'
 | .mat _ xs _,.mat _ xs' _=>xs.length=xs'.length
 | .row _ _ _,.gone=>True
 | .box _,.gone=>True
 | .gone,.gone=>True
 | .siter _ _,.siter _ _=>True
 | .mp _ _,.mp _ _=>True
 | .miter _ _ _,.miter _ _ _=>True
 | .ext Y _,.ext Y' _=>Y=Y'
 |_,_=>False
theorem Ob.same_refl(o:Ob):o.same o:=by cases o<;>simp[Ob.same]
theorem Ob.same_trans{a b c:Ob}(h:a.same b)(k:b.same c):a.same c:=by
 cases a<;>cases b<;>first| (simp[Ob.same] at h;done)| (cases c<;>first| (simp[Ob.same] at k;done)| (simp[Ob.same] at h k⊢;done)| (simp only[Ob.same] at h k⊢;omega)| (simp only[Ob.same] at h k⊢;exact h.trans k)| (simp only[Ob.same]))
abbrev Store:=Nat→Option Ob
structure Place where
 f:Nat→Option Nat×Nat
 g:Nat→List Nat
instance:CoeFun Place (fun _=>Nat→Option Nat×Nat):=⟨Place.f⟩
def Place.has(m:Place)(id b:Nat):Prop:=(m id).1=some b∨b∈m.g id
def z0B(L:Option Nat×Nat)(n:Nat):Value:= .slice (L.1.map fun b=>⟨b,0,none⟩) n L.2
def z2W(L:Option Nat×Nat)(k n i:Nat):Value:= .slice (if L.2=i then L.1.map fun b=>⟨b,0,none⟩ else L.1.map fun b=>⟨b,i*k,none⟩) (n-i) (L.2-i)
def z3p:Ob→Nat→Option Value
 | .siter _ _,b=>some (.pointer (some ⟨b,0,none⟩))
 | .miter _ _ _,b=>some (.pointer (some ⟨b,0,none⟩))
 | .mp _ _,b=>some (.map (some b))
 |_,_=>none
inductive VRel (st:Store) (m:Place) (w:World) (ok:Nat→Prop):AVal→Value→Prop
 |t (T:Tree) (u:Value) (h:TRep w ok T u):VRel st m w ok (.t T) u
 |row (id n k:Nat) (fz:Bool) (xs:List Tree) (L:Option Nat×Nat) (hs:st id=some (.row k fz xs)) (hn:n≤xs.length) (hu:n=xs.length→m id=L):
  VRel st m w ok (.row id n) (z0B L n)
 |ptr (id off:Nat) (cs:List AVal) (b:Nat) (hs:st id=some (.box cs)) (hm:(m id).1=some b):VRel st m w ok (.ptr id off) (.pointer (some ⟨b,off,none⟩))
 |eptr (id n i sub k:Nat) (fz:Bool) (xs:List Tree) (b:Nat) (hs:st id=some (.row k fz xs)) (hn:n≤xs.length)
  (hu:n=xs.length→(m id).1=some b):VRel st m w ok (.eptr id n i sub) (.pointer (some ⟨b,i*k+sub,none⟩))
 |cptr (cs:List Tree) (b o:Nat) (us:List Value) (hb:ok b) (hl:us.length=cs.length) (hc:∀T∈cs,T.isCell=true)
  (hcell:∀(j:Nat) (u:Value),us[j]? =some u→w.cell? ⟨b,o+j,none⟩=some u)
  (h:∀(j:Nat) (T:Tree) (u:Value),cs[j]? =some T→us[j]? =some u→TRep w ok T u):VRel st m w ok (.cptr cs) (.pointer (some ⟨b,o,none⟩))
 |agg (cs:List AVal) (us:List Value) (hl:us.length=cs.length)
  (h:∀(i:Nat) (v:AVal) (u:Value),cs[i]? =some v→us[i]? =some u→VRel st m w ok v u) (h1:∀u∈us,u.oneCell'=true):VRel st m w ok (.agg cs) (.agg us.toArray)
 |fn (f:FuncId) (cap:List AVal) (us:List Value) (hl:us.length=cap.length)
  (h:∀(i:Nat) (v:AVal) (u:Value),cap[i]? =some v→us[i]? =some u→VRel st m w ok v u):VRel st m w ok (.fn f cap) (.func (.func f) #[] us.toArray)
 |tup (vs:List AVal) (us:List Value) (hl:us.length=vs.length)
  (h:∀(i:Nat) (v:AVal) (u:Value),vs[i]? =some v→us[i]? =some u→VRel st m w ok v u):VRel st m w ok (.tup vs) (.tuple us.toArray)
 |cond (c:Bool) (v:AVal) (u:Value) (h1:c=true→VRel st m w ok v u) (h0:c=false→u=undef):VRel st m w ok (.cond c v) u
 |mat (id:Nat) (fz:Bool) (xs:List Tree) (h:Option (Nat×Nat×Nat)) (L:Option Nat×Nat) (hs:st id=some (.mat fz xs h)) (hm:m id=L):VRel st m w ok (.mat id) (z0B L xs.length)
 |mptr (id i:Nat) (fz:Bool) (xs:List Tree) (h:Option (Nat×Nat×Nat)) (b:Nat) (hs:st id=some (.mat fz xs h)) (hm:(m id).1=some b):VRel st m w ok (.mptr id i) (.pointer (some ⟨b,i,none⟩))
 |junk (u:Value):VRel st m w ok .junk u
 |rowG (id n:Nat) (L:Option Nat×Nat) (hs:st id=some .gone):VRel st m w ok (.row id n) (z0B L n)
 |eptrG (id n i sub b o:Nat) (hs:st id=some .gone):VRel st m w ok (.eptr id n i sub) (.pointer (some ⟨b,o,none⟩))
 |anyB (b:Bool):VRel st m w ok .anyB (.bool b)
 |ifc (t:TypeId) (u:Value):VRel st m w ok .ifc (.iface t u)
 |tail (id n i k:Nat) (fz:Bool) (xs:List Tree) (L:Option Nat×Nat) (hs:st id=some (.row k fz xs)) (hn:n≤xs.length) (hi:i≤n) (hu:n=xs.length→m id=L):
  VRel st m w ok (.tail id n i) (z2W L k n i)
 |tailG (id n i k:Nat) (L:Option Nat×Nat) (hs:st id=some .gone):VRel st m w ok (.tail id n i) (z2W L k n i)
 |hdl (id:Nat) (o:Ob) (b:Nat) (u:Value) (hs:st id=some o) (hm:(m id).1=some b) (hu:z3p o b=some u):VRel st m w ok (.hdl id) u
 |xl (k:Nat) (xs:List Tree) (u:Value) (h:TRep w ok (.lst k xs) u) (hc:∃A,u= .slice A xs.length xs.length):VRel st m w ok (.xl k xs) u
 |ptrG (id off b:Nat) (hs:st id=some .gone):VRel st m w ok (.ptr id off) (.pointer (some ⟨b,off,none⟩))
 |yl (id:Nat) (Y:YSpec) (pre:List (List Tree)) (hs:st id=some (.ext Y pre)):VRel st m w ok (.yl id) Y.fn
 |bsl (id n:Nat) (cs:List AVal) (b:Nat) (hs:st id=some (.box cs)) (hm:m id=(some b,n)):VRel st m w ok (.bsl id n) (z0B (some b,n) n)
 |bslG (id n:Nat) (L:Option Nat×Nat) (hs:st id=some .gone):VRel st m w ok (.bsl id n) (z0B L n)
structure Fen(P:Program) where
 mem:Nat→Prop
 bar:Nat→Prop
 says:Nat→Obj→Prop
 sub:∀b o,says b o→mem b
 sup:∀b,bar b→mem b
 tab:TabIn P says
 opn:∀b o,says b o→¬bar b
 cel:∀b o,says b o→∃us e z,o= .cells us e z
 rnd:Option Nat
 lo:Nat
instance {P:Program}:CoeFun (Fen P) (fun _=>Nat→Prop):=⟨Fen.mem⟩
variable {P:Program}
def okB(F:Fen P)(st:Store)(m:Place)(w:World)(b:Nat):Prop:=
 b<w.heap.size∧¬F.bar b∧∀id o,st id=some o→o.live=true→¬m.has id b
def BoxAt(st:Store)(m:Place)(w:World)(ok:Nat→Prop)(cs:List AVal)(L:Option Nat×Nat):Prop:=
 ∃b us e,L.1=some b∧w.heap[b]? =some (.cells us e (0,0))∧us.size=cs.length∧
  ∀(i:Nat) (v:AVal) (u:Value),cs[i]? =some v→us[i]? =some u→VRel st m w ok v u∧u.oneCell'=true
def RowAt(w:World)(ok:Nat→Prop)(k:Nat)(xs:List Tree)(L:Option Nat×Nat):Prop:=
 0<k∧(∀x∈xs,Elt k x)∧xs.length≤L.2∧L.2≤maxLen∧
  ((L.1=none∧L.2=0)∨∃b us e,L.1=some b∧w.heap[b]? =some (.cells us e (0,0))∧us.size=L.2*k∧(∀(j:Nat) (u:Value),us[j]? =some u→u.oneCell'=true)∧
   ∀(j:Nat) (T:Tree) (u:Value),(flat xs)[j]? =some T→us[j]? =some u→TRep w ok T u)
def MRel(st:Store)(m:Place)(w:World)(ok:Nat→Prop):MV→Value→Option Nat→Prop
 | .im T,u,c=>TRep w ok T u∧c=none
 | .cp cs,u,c=>VRel st m w ok (.cptr cs) u∧c=none
 | .bx cs,u,c=> ∃b us e,c=some b∧u= .pointer (some ⟨b,0,none⟩)∧w.heap[b]? =some (.cells us e (0,0))∧us.size=cs.length∧(∀T∈cs,T.isCell=true)∧
  ∀(i:Nat) (T:Tree) (u:Value),cs[i]? =some T→us[i]? =some u→TRep w ok T u
 | .rw k xs,u,c=> ∃L,u=z0B L xs.length∧L.1=c∧RowAt w ok k xs L
def HRel(st:Store)(m:Place)(w:World)(ok:Nat→Prop):Option (Int×AVal)→Int→MV→Value→Option Nat→Prop
 |none,_,v,u,c=>MRel st m w ok v u c
 |some (k',v'),k,v,u,c=>(k=k'→VRel st m w ok v' u∧c=none)∧(k≠k'→MRel st m w ok v u c)
def MapAt(st:Store)(m:Place)(w:World)(ok:Nat→Prop)(es:List (Int×MV))(h:Option (Int×AVal))(L:Option Nat×Nat)(g:List Nat):Prop:=
 ∃(b:Nat) (ents:List MapEntry) (bl:Nat→Option Nat),L.1=some b∧w.heap[b]? =some (.map ents.toArray ents.length)∧ents.length=es.length∧
  (∀i j c,i<es.length→j<es.length→bl i=some c→bl j=some c→i=j)∧(∀i c,i<es.length→bl i=some c→c∈g∧c≠b)∧
  (∀(i j:Nat) (x y:Int×MV),es[i]? =some x→es[j]? =some y→x.1=y.1→i=j)∧
  ∀i x e,es[i]? =some x→ents[i]? =some e→e.key= .int .i64 x.1∧e.born=i∧HRel st m w ok h x.1 x.2 e.val (bl i)
def ORel(st:Store)(m:Place)(w:World)(ok:Nat→Prop):Ob→Option Nat×Nat→List Nat→Prop
 | .box cs,L,_=>BoxAt st m w ok cs L
 | .row k _ xs,L,_=>RowAt w ok k xs L
 | .mat _ xs h,L,_=>BoxAt st m w ok (matC xs h) L∧L.2=xs.length∧xs.length≤maxLen∧∀x∈xs,x.isCell=true
 | .gone,L,_=>L.1=none
 | .siter s pos,L,_=> ∃b,L.1=some b∧w.heap[b]? =some (.stringIter s pos)
 | .mp es h,L,g=>MapAt st m w ok es h L g
 | .miter mid n seen,L,_=> ∃b bm,L.1=some b∧(m mid).1=some bm∧(∃es h,st mid=some (.mp es h))∧w.heap[b]? =some (.mapIter (some bm) n seen.toArray n)
 | .ext Y pre,L,g=>L.1=none∧Y.holds pre g w∧∀b,Y.D b→ok b
structure SRel(F:Fen P)(st:Store)(m:Place)(w:World):Prop where
 objs:∀id o,st id=some o→ORel st m w (okB F st m w) o (m id) (m.g id)
 inj:∀i j oi oj b,st i=some oi→st j=some oj→m.has i b→m.has j b→i=j
 avoid:∀id o b,st id=some o→m.has id b→¬F b
 lt:∀id o b,st id=some o→m.has id b→b<w.heap.size
 low:∀b,F b→b<w.heap.size
 hold:∀b o,F.says b o→w.heap[b]? =some o
structure FrameExt(F:Fen P)(st:Store)(m:Place)(w:World)(st':Store)(m':Place)(w':World):Prop where
 os:w'.os=w.os
 tape:w'.tape=w.tape
 output:w'.output=w.output
 size:w.heap.size≤w'.heap.size
 block:∀b,b<w.heap.size→(F b∨∀id o,st id=some o→o.live=true→¬m.has id b)→w'.heap[b]? =w.heap[b]?
 keep:∀id o,st id=some o→∃o',st' id=some o'∧o.len≤o'.len∧(o.len=o'.len→m' id=m id)∧(o.live=false→o'.live=false)∧
  (∀b,m'.has id b→m.has id b∨w.heap.size≤b∨∃i oi,st i=some oi∧oi.live=true∧m.has i b)∧
  o.same o'
 new:∀id o,st' id=some o→st id=none→∀b,m'.has id b→w.heap.size≤b∨∃i oi,st i=some oi∧oi.live=true∧m.has i b
theorem SRel.held{F:Fen P}{st st':Store}{m m':Place}{w w':World}(hS:SRel F st m w)(hF:FrameExt F st m w st' m' w'):∀b o,F.says b o→w'.heap[b]? =some o:=fun b o h=>
 (hF.block b (hS.low b (F.sub b o h)) (.inl (F.sub b o h))).trans (hS.hold b o h)
theorem FrameExt.refl(F:Fen P)(st:Store)(m:Place)(w:World):FrameExt F st m w st m w:=
 ⟨rfl,rfl,rfl,Nat.le_refl _,fun _ _ _=>rfl,fun _ o h=>⟨o,h,Nat.le_refl _,fun _=>rfl,id,fun _ q=> .inl q,o.same_refl⟩,fun id o h h'=>by rw[h'] at h;cases h⟩
theorem FrameExt.back{F:Fen P}{st st':Store}{m m':Place}{w w':World}(h:FrameExt F st m w st' m' w'){i b:Nat}{oi:Ob}(hi:st' i=some oi)(hl:oi.live=true)(hb:m'.has i b):
 w.heap.size≤b∨∃j oj,st j=some oj∧oj.live=true∧m.has j b:=by
 cases h0:st i with
 |none=>exact h.new i oi hi h0 b hb
 |some o=>
  obtain⟨o',ho',_,_,hlv,hpl,_⟩:=h.keep i o h0
  rw[hi] at ho'
  cases ho'
  have hol:o.live=true:=by
   cases hh:o.live with
   |true=>rfl
   |false=>rw[hlv hh] at hl;cases hl
  rcases hpl b hb with hp|hp|hp
  ·exact .inr ⟨i,o,h0,hol,hp⟩
  ·exact .inl hp
  ·exact .inr hp
theorem FrameExt.trans{F:Fen P}{st st1 st2:Store}{m m1 m2:Place}{w w1 w2:World}(hs:SRel F st m w)(h:FrameExt F st m w st1 m1 w1)(k:FrameExt F st1 m1 w1 st2 m2 w2):
 FrameExt F st m w st2 m2 w2:=by
 have hsz:=h.size
 have two:∀b,(w1.heap.size≤b∨∃i oi,st1 i=some oi∧oi.live=true∧m1.has i b)→w.heap.size≤b∨∃i oi,st i=some oi∧oi.live=true∧m.has i b:=by
  rintro b (q| ⟨i,oi,q1,q2,q3⟩)
  ·exact .inl (by omega)
  ·exact h.back q1 q2 q3
 refine⟨k.os.trans h.os,k.tape.trans h.tape,k.output.trans h.output,Nat.le_trans h.size k.size,fun b hb hf=> ?_,fun id o ho=> ?_,fun id o ho hn b hb=> ?_⟩
 ·have h1:=h.block b hb hf
  rw[←h1]
  refine k.block b (Nat.lt_of_lt_of_le hb h.size) ?_
  rcases hf with hf|hf
  ·exact .inl hf
  ·refine .inr fun id o1 ho1 hl1 hm1=> ?_
   rcases h.back ho1 hl1 hm1 with q| ⟨i,oi,q1,q2,q3⟩
   ·omega
   ·exact hf i oi q1 q2 q3
 ·obtain⟨o1,ho1,hl,hm,hlv,hpl,hsh⟩:=h.keep id o ho
  obtain⟨o2,ho2,hl',hm',hlv',hpl',hsh'⟩:=k.keep id o1 ho1
  refine⟨o2,ho2,Nat.le_trans hl hl',fun e=> ?_,fun e=>hlv' (hlv e),fun b hb=> ?_,Ob.same_trans hsh hsh'⟩
  ·rw[hm' (by omega),hm (by omega)]
  ·rcases hpl' b hb with hp|hp
   ·exact hpl b hp
   ·exact .inr (two b hp)
 ·cases h1:st1 id with
  |none=>exact two b (k.new id o ho h1 b hb)
  |some o1=>
   obtain⟨o2,_,_,_,_,hpl,_⟩:=k.keep id o1 h1
   rcases hpl b hb with hp|hp
   ·exact h.new id o1 h1 hn b hp
   ·exact two b hp
theorem z2X{w w':World}{b:Nat}(h:w'.heap[b]? =w.heap[b]?)(o:Nat):w'.cell? ⟨b,o,none⟩=w.cell? ⟨b,o,none⟩:=by
 simp only[World.cell?,h]
theorem FrameExt.ok{F:Fen P}{st st':Store}{m m':Place}{w w':World}(h:FrameExt F st m w st' m' w'){b:Nat}(hb:okB F st m w b):okB F st' m' w' b:=by
 obtain⟨h1,h2,h3⟩:=hb
 refine⟨Nat.lt_of_lt_of_le h1 h.size,h2,fun id o' ho' hl hm=> ?_⟩
 rcases h.back ho' hl hm with q| ⟨i,oi,q1,q2,q3⟩
 ·omega
 ·exact h3 i oi q1 q2 q3
theorem FrameExt.heap{F:Fen P}{st st':Store}{m m':Place}{w w':World}(h:FrameExt F st m w st' m' w'){b:Nat}(hb:okB F st m w b):w'.heap[b]? =w.heap[b]? :=
 h.block b hb.1 (.inr hb.2.2)
theorem FrameExt.tree{F:Fen P}{st st':Store}{m m':Place}{w w':World}(h:FrameExt F st m w st' m' w'){T:Tree}{v:Value}(hT:TRep w (okB F st m w) T v):
 TRep w' (okB F st' m' w') T v:=
 hT.mono (fun _ hb=>h.ok hb) (fun b o u hb hc=>by rw[z2X (h.heap hb)];exact hc)
theorem FrameExt.val{F:Fen P}{st st':Store}{m m':Place}{w w':World}(h:FrameExt F st m w st' m' w'){v:AVal}{u:Value}(hv:VRel st m w (okB F st m w) v u):
 VRel st' m' w' (okB F st' m' w') v u:=by
 induction hv with
 |t T u hT=>exact .t T u (h.tree hT)
 |xl k xs u hT hc=>exact .xl k xs u (h.tree hT) hc
 |row id n k fz xs L hs hn hu=>
  obtain⟨o',ho',hl,hm,_,_,hsh⟩:=h.keep id _ hs
  cases o' with
  |gone=>exact .rowG id n L ho'
  |row k' fz' xs'=>
   simp only[Ob.len] at hl hm
   exact .row id n k' fz' xs' L ho' (Nat.le_trans hn hl) (fun e=>by rw[hm (by omega)];exact hu (by omega))
  |_=>simp[Ob.same] at hsh
 |ptr id off cs b hs hm=>
  obtain⟨o',ho',hl,hm',_,hpl,hsh⟩:=h.keep id _ hs
  cases o' with
  |box cs'=>
   exact .ptr id off cs' b ho' (by rw[hm' rfl];exact hm)
  |gone=>exact .ptrG id off b ho'
  |_=>simp[Ob.same] at hsh
 |mat id fz xs hh L hs hm=>
  obtain⟨o',ho',hl,hm',_,hpl,hsh⟩:=h.keep id _ hs
  cases o' with
  |mat fz' xs' h'=>
   simp only[Ob.same] at hsh
   rw[hsh]
   exact .mat id fz' xs' h' L ho' (by rw[hm' hsh];exact hm)
  |_=>simp[Ob.same] at hsh
 |mptr id i fz xs hh b hs hm=>
  obtain⟨o',ho',hl,hm',_,hpl,hsh⟩:=h.keep id _ hs
  cases o' with
  |mat fz' xs' h'=>
   simp only[Ob.same] at hsh
   exact .mptr id i fz' xs' h' b ho' (by rw[hm' hsh];exact hm)
  |_=>simp[Ob.same] at hsh
 |eptr id n i sub k fz xs b hs hn hu=>
  obtain⟨o',ho',hl,hm,_,_,hsh⟩:=h.keep id _ hs
  cases o' with
  |gone=>exact .eptrG id n i sub _ _ ho'
  |row k' fz' xs'=>
   simp only[Ob.len] at hl hm
   simp only[Ob.same] at hsh
   subst hsh
   exact .eptr id n i sub k fz' xs' b ho' (Nat.le_trans hn hl) (fun e=>by rw[hm (by omega)];exact hu (by omega))
  |_=>simp[Ob.same] at hsh
 |cptr cs b o us hb hl hc hcell hT=>
  exact .cptr cs b o us (h.ok hb) hl hc (fun j u hu=>by rw[z2X (h.heap hb)];exact hcell j u hu) (fun j T u h1 h2=>h.tree (hT j T u h1 h2))
 |agg cs us hl _ h1 ih=>exact .agg cs us hl ih h1
 |fn f cap us hl _ ih=>exact .fn f cap us hl ih
 |tup vs us hl _ ih=>exact .tup vs us hl ih
 |cond c v u _ h0 ih=>exact .cond c v u ih h0
 |junk u=>exact .junk u
 |rowG id n L hs=>
  obtain⟨o',ho',_,_,_,_,hsh⟩:=h.keep id _ hs
  cases o'<;>simp[Ob.same] at hsh
  exact .rowG id n L ho'
 |eptrG id n i sub b o hs=>
  obtain⟨o',ho',_,_,_,_,hsh⟩:=h.keep id _ hs
  cases o'<;>simp[Ob.same] at hsh
  exact .eptrG id n i sub b o ho'
 |anyB b=>exact .anyB b
 |ifc t u=>exact .ifc t u
 |tail id n i k fz xs L hs hn hi hu=>
  obtain⟨o',ho',hl,hm,_,_,hsh⟩:=h.keep id _ hs
  cases o' with
  |gone=>exact .tailG id n i k L ho'
  |row k' fz' xs'=>
   simp only[Ob.len] at hl hm
   simp only[Ob.same] at hsh
   subst hsh
   exact .tail id n i k fz' xs' L ho' (Nat.le_trans hn hl) hi (fun e=>by rw[hm (by omega)];exact hu (by omega))
  |_=>simp[Ob.same] at hsh
 |tailG id n i k L hs=>
  obtain⟨o',ho',_,_,_,_,hsh⟩:=h.keep id _ hs
  cases o'<;>simp[Ob.same] at hsh
  exact .tailG id n i k L ho'
 |hdl id o b u hs hm hu=>
  obtain⟨o',ho',hl,hm',_,hpl,hsh⟩:=h.keep id _ hs
  cases o<;>simp[z3p] at hu<;>subst hu<;>cases o'<;>simp[Ob.same] at hsh<;>exact .hdl id _ b _ ho' (by rw[hm' rfl];exact hm) rfl
 |ptrG id off b hs=>
  obtain⟨o',ho',_,_,_,_,hsh⟩:=h.keep id _ hs
  cases o'<;>simp[Ob.same] at hsh
  exact .ptrG id off b ho'
 |yl id Y pre hs=>
  obtain⟨o',ho',_,_,_,_,hsh⟩:=h.keep id _ hs
  cases o'<;>simp[Ob.same] at hsh
  subst hsh
  exact .yl id _ _ ho'
 |bsl id n cs b hs hm=>
  obtain⟨o',ho',hl,hm',_,hpl,hsh⟩:=h.keep id _ hs
  cases o' with
  |box cs'=>exact .bsl id n cs' b ho' (by rw[hm' rfl];exact hm)
  |gone=>exact .bslG id n _ ho'
  |_=>simp[Ob.same] at hsh
 |bslG id n L hs=>
  obtain⟨o',ho',_,_,_,_,hsh⟩:=h.keep id _ hs
  cases o'<;>simp[Ob.same] at hsh
  exact .bslG id n L ho'
end Go.Ab
end
section
set_option linter.unusedVariables false
namespace Go.Ab
def tsz(P:Program)(t:TypeId):Option Nat:=(P.info? t).map (·.size)
def tby(P:Program)(t:TypeId):Option Nat:=(P.info? t).map (·.bytes)
def tagg(P:Program)(t:TypeId):Option Bool:=
 match P.underlying t with
 |some (.struct _)=>some true
 |some (.array _ _)=>some true
 |some _=>some false
 |none=>none
def y0i(P:Program)(s:TypeId)(i:Nat):Option Field:=
 match P.underlying s with
 |some (.struct fs)=>fs[i]?
 |_=>none
def telem(P:Program)(t:TypeId):Option TypeId:=
 match P.underlying t with
 |some (.slice e)=>some e
 |_=>none
def tzero(P:Program)(t:TypeId):Option Value:=(P.info? t).bind (·.zero)
def y6e(v:Value):Option (List Tree):=
 let l:=v.cells.toList
 if l.all Value.oneCell' then some (l.map .sc) else none
def z3J(P:Program)(t:TypeId):Option (List Tree):=(tzero P t).bind y6e
def get:List (Nat×AVal)→Nat→AVal
 | [],_=> .junk
 | (i,v)::l,t=>bif Nat.beq i t then v else get l t
def cellsV:AVal→List AVal
 | .agg cs=>cs
 | .t (.agg cs)=>cs.map .t
 |v=>[v]
def z0H:AVal→Bool
 | .t T=>T.isCell
 | .row _ _=>true
 | .ptr _ _=>true
 | .eptr _ _ _ _=>true
 | .cptr _=>true
 | .fn _ _=>true
 | .mat _=>true
 | .mptr _ _=>true
 | .bsl _ _=>true
 | .anyB=>true
 | .ifc=>true
 | .tail _ _ _=>true
 | .hdl _=>true
 | .yl _=>true
 |_=>false
def allT:List AVal→Option (List Tree)
 | []=>some []
 | .t T::l=>(allT l).map (T:: ·)
 |_::_=>none
def aggV(cs:List AVal):AVal:=
 match allT cs with
 |some Ts=> .t (.agg Ts)
 |none=> .agg cs
def mkV(ag:Bool)(cs:List AVal):Option AVal:=
 match ag,cs with
 |true,cs=>some (aggV cs)
 |false,[v]=>some v
 |false,_=>none
def mkT(ag:Bool)(cs:List Tree):Option Tree:=
 match ag,cs with
 |true,cs=>some (.agg cs)
 |false,[v]=>some v
 |false,_=>none
def part{α:Type}(l:List α)(off n:Nat):Option (List α):=
 let r:=(l.drop off).take n
 bif Nat.beq r.length n then some r else none
def z3K{α:Type}(l:List α)(off:Nat)(new:List α):Option (List α):=
 bif Nat.ble (off+new.length) l.length then some (l.take off++new++l.drop (off+new.length)) else none
def upd(st:Store)(i:Nat)(o:Ob):Store:=fun j=>bif Nat.beq j i then some o else st j
def app(st:Store):List (Nat×Ob)→Store
 | []=>st
 | (i,o)::l=>app (upd st i o) l
def emp:Store:=fun _=>none
def hasId:List Nat→Nat→Bool
 | [],_=>false
 |i::l,j=>bif Nat.beq i j then true else hasId l j
def only(st:Store)(l:List Nat):Store:=fun id=>bif hasId l id then st id else none
mutual
def idsV:AVal→List Nat
 | .t _=>[]
 | .row id _=>[id]
 | .ptr id _=>[id]
 | .eptr id _ _ _=>[id]
 | .cptr _=>[]
 | .agg cs=>idsL cs
 | .fn _ cap=>idsL cap
 | .tup vs=>idsL vs
 | .cond _ v=>idsV v
 | .mat id=>[id]
 | .mptr id _=>[id]
 | .anyB=>[]
 | .ifc=>[]
 | .tail id _ _=>[id]
 | .hdl id=>[id]
 | .xl _ _=>[]
 | .yl id=>[id]
 | .bsl id _=>[id]
 | .junk=>[]
def idsL:List AVal→List Nat
 | []=>[]
 |v::l=>idsV v++idsL l
end
def Tree.free:Tree→Bool
 | .sc _=>true
 | .agg cs=>cs.all fun T=>match T with| .sc _=>true|_=>false
 | .lst _ _=>false
def z9q:AVal→Bool
 | .t T=>T.free
 | .tup vs=>vs.all fun v=>match v with| .t T=>T.free| .ifc=>true|_=>false
 |_=>false
def snap1(st:Store):AVal→Option (AVal×List (Nat×Ob)×List Prop)
 | .row id n=>match st id with
  |some (.row k fz xs)=>some (.t (.lst k xs),(bif fz then[] else[(id,.row k true xs)]),[n=xs.length])
  |_=>none
 |v=>some (v,[],[])
def snapL(st:Store):List AVal→Option (List AVal×List (Nat×Ob)×List Prop)
 | []=>some ([],[],[])
 |v::l=>match snap1 st v,snapL st l with
  |some (v',f,c),some (l',g,d)=>some (v'::l',f++g,c++d)
  |_,_=>none
def snap(st:Store):AVal→Option (AVal×List (Nat×Ob)×List Prop)
 | .agg cs=>(snapL st cs).map fun(cs,f,c)=>(aggV cs,f,c)
 |v=>snap1 st v
def snaps(st:Store):List AVal→Option (List AVal×List (Nat×Ob)×List Prop)
 | []=>some ([],[],[])
 |v::l=>match snap st v,snaps st l with
  |some (v',f,c),some (l',g,d)=>some (v'::l',f++g,c++d)
  |_,_=>none
structure Dl where
 val:AVal
 wr:List (Nat×Ob)
 cnd:List Prop
structure CallOrc where
 mode:Nat
 need:List Nat
 res:AVal
 wr:List (Nat×Ob)
structure Orc where
 val:Option AVal
 wr:Option (List (Nat×Ob))
 elt:Option Tree
 call:Option CallOrc
 fx:List (Nat×Nat):=[]
def Orc.no:Orc:=⟨none,none,none,none,[]⟩
def fix1(k i:Nat):AVal→AVal
 | .t (.agg cs)=>match cs[i]? with
  |some (.sc (.slice none 0 0))=>bif Nat.blt 0 k then .t (.agg (cs.set i (.lst k []))) else .t (.agg cs)
  |_=> .t (.agg cs)
 | .agg cs=>match cs[i]? with
  |some (.t (.sc (.slice none 0 0)))=>bif Nat.blt 0 k then .agg (cs.set i (.t (.lst k []))) else .agg cs
  |_=> .agg cs
 |v=>v
def fixN:List (Nat×Nat)→AVal→AVal
 | [],v=>v
 | (i,k)::l,v=>fixN l (fix1 k i v)
def fixW:List (Nat×Nat)→Nat→AVal→AVal
 | [],_,v=>v
 | (j,k)::l,i,v=>bif Nat.beq i j&&Nat.blt 0 k then(match v with| .t (.sc (.slice none 0 0))=> .t (.lst k [])|v=>v) else fixW l i v
def fixP(fx:List (Nat×Nat))(p:Nat×AVal):Nat×AVal:=(p.1,fixW fx p.1 p.2)
abbrev Eval:=Operand→AVal
def pure1(v:AVal)(c:List Prop):Option Dl:=some ⟨v,[],c⟩
def eltOf(c:Orc)(xs:List Tree)(i:Nat):Tree:=match c.elt with|some X=>X|none=>xs.getD i default
def fillV(place:Nat→Option (Nat×Nat))(cells:List AVal):List (Nat×AVal)→Option (List AVal)
 | []=>some cells
 | (i,v)::rest=>
  match place i with
  |none=>none
  |some (off,size)=>
   let cs:=cellsV v
   bif Nat.beq cs.length size then
    match z3K cells off cs with
    |some cells=>fillV place cells rest
    |none=>none
   else none
def z4H(P:Program)(fs:List Field):Option (List (Nat×Nat)):=fs.mapM (fun f=>(P.info? f.type).map fun i=>(f.offset,i.size))
def y2D(P:Program)(t:TypeId):Option (Nat→Option (Nat×Nat)):=
 match P.underlying t with
 |some (.struct fs)=>(z4H P fs.toList).map fun ps i=>ps[i]?
 |some (.array _ e)=>(tsz P e).map fun s i=>some (i*s,s)
 |_=>none
def group(ag:Bool)(k:Nat):Nat→List Tree→Option (List Tree)
 |0,[]=>some []
 |0,_::_=>none
 |n+1,l=>
  match mkT ag (l.take k),group ag k n (l.drop k) with
  |some x,some r=>bif Nat.beq (l.take k).length k then some (x::r) else none
  |_,_=>none
def repl{α:Type}(l:List α):Nat→List α
 |0=>[]
 |n+1=>l++repl l n
def andI(k:IntKind)(a b:Int):Int:=k.wrap (BitVec.ofInt k.bits a&&&BitVec.ofInt k.bits b).toNat
def orI(k:IntKind)(a b:Int):Int:=k.wrap (BitVec.ofInt k.bits a|||BitVec.ofInt k.bits b).toNat
def binA(op:BinOp)(k:IntKind)(a b:Int):Option Dl:=
 match op with
 | .add=>pure1 (.t (.sc (.int k (k.wrap (a+b))))) []
 | .sub=>pure1 (.t (.sc (.int k (k.wrap (a-b))))) []
 | .mul=>pure1 (.t (.sc (.int k (k.wrap (a*b))))) []
 | .quo=>pure1 (.t (.sc (.int k (k.wrap (a.tdiv b))))) [b≠0]
 | .rem=>pure1 (.t (.sc (.int k (a.tmod b)))) [b≠0]
 | .eql=>pure1 (.t (.sc (.bool (a==b)))) []
 | .neq=>pure1 (.t (.sc (.bool (a !=b)))) []
 | .lss=>pure1 (.t (.sc (.bool (decide (a<b))))) []
 | .leq=>pure1 (.t (.sc (.bool (decide (a≤b))))) []
 | .gtr=>pure1 (.t (.sc (.bool (decide (a>b))))) []
 | .geq=>pure1 (.t (.sc (.bool (decide (a≥b))))) []
 | .and=>pure1 (.t (.sc (.int k (andI k a b)))) []
 | .or=>pure1 (.t (.sc (.int k (orI k a b)))) []
 |_=>none
def binI(op:BinOp)(k:IntKind)(a:Int)(k':IntKind)(b:Int):Option Dl:=
 match op with
 | .shl=>pure1 (.t (.sc (.int k (k.wrap (a*2^(min b.toNat k.bits)))))) [0≤b]
 | .shr=>pure1 (.t (.sc (.int k (a.fdiv (2^(min b.toNat k.bits)))))) [0≤b]
 |_=>if k=k' then binA op k a b else none
def binS(op:BinOp)(x y:ByteArray):Option Dl:=
 let eq:=x.toList==y.toList
 let lt:=Op.bytesLess x.toList y.toList
 match op with
 | .add=>pure1 (.t (.sc (.string (x++y)))) [((x.size+y.size:Nat):Int)≤IntKind.i64.max]
 | .eql=>pure1 (.t (.sc (.bool eq))) []
 | .neq=>pure1 (.t (.sc (.bool !eq))) []
 | .lss=>pure1 (.t (.sc (.bool lt))) []
 | .leq=>pure1 (.t (.sc (.bool (lt||eq)))) []
 | .gtr=>pure1 (.t (.sc (.bool !(lt||eq)))) []
 | .geq=>pure1 (.t (.sc (.bool !lt))) []
 |_=>none
def eqC(d:Option TypeDesc):Tree→Tree→Option Bool
 | .sc (.int k a),.sc (.int k' b)=>match d with
  |some (.int _)=>if k=k' then some (a==b) else none
  |_=>none
 | .sc (.string a),.sc (.string b)=>match d with
  |some .string=>some (a.toList==b.toList)
  |_=>none
 | .sc (.bool a),.sc (.bool b)=>match d with
  |some .bool=>some (a==b)
  |_=>none
 |_,_=>none
def eqL(P:Program):Nat→List Field→List Tree→List Tree→Option Bool
 |_,[],[],[]=>some true
 |i,f::fs,a::l,b::r=>
  bif Nat.beq f.offset i&&f.name != "_" then
   match eqC (P.underlying f.type) a b,eqL P (i+1) fs l r with
   |some x,some y=>some (x&&y)
   |_,_=>none
  else none
 |_,_,_,_=>none
def z47(P:Program)(t:TypeId)(a b:List Tree):Option Bool:=
 match P.underlying t with
 |some (.struct fs)=>bif !P.stoodInHeld t&& !P.eqGuardType P.depth t then eqL P 0 fs.toList a b else none
 |_=>none
def binK(P:Program)(op:BinOp)(t:TypeId)(x y:AVal):Option Dl:=
 match x,y with
 | .t (.sc (.int k a)),.t (.sc (.int k' b))=>binI op k a k' b
 | .t (.sc (.string a)),.t (.sc (.string b))=>binS op a b
 | .t (.sc (.bool a)),.t (.sc (.bool b))=>
  match P.underlying t,op with
  |some .bool,.eql=>pure1 (.t (.sc (.bool (a==b)))) []
  |some .bool,.neq=>pure1 (.t (.sc (.bool (!(a==b))))) []
  |_,_=>none
 | .t (.agg a),.t (.agg b)=>
  match op,z47 P t a b with
  | .eql,some r=>pure1 (.t (.sc (.bool r))) []
  | .neq,some r=>pure1 (.t (.sc (.bool (!r)))) []
  |_,_=>none
 | .t (.lst _ _),.t (.sc (.slice none 0 0))=>
  match P.underlying t,op with
  |some (.slice _),.eql=>pure1 .anyB []
  |some (.slice _),.neq=>pure1 .anyB []
  |_,_=>none
 |_,_=>none
def binIf(P:Program)(op:BinOp)(t:TypeId)(yo:Operand)(x y:AVal):Option Dl:=
 match op,x,y with
 | .neq,.ifc,.t (.sc .nilIface)=>match P.underlying t with
  |some (.interface _)=>pure1 (.t (.sc (.bool true))) []
  |_=>none
 | .neq,.t (.sc .nilIface),.t (.sc .nilIface)=>match P.underlying t,yo with
  |some (.interface _),.const _=>pure1 (.t (.sc (.bool false))) []
  |_,_=>none
 |_,_,_=>binK P op t x y
def binNE(P:Program)(op:BinOp)(t:TypeId)(x y:AVal):Option Dl:=
 match x,y with
 | .t (.lst _ xs),.t (.sc (.slice none 0 0))=>
  match P.underlying t,op with
  |some (.slice _),.eql=>pure1 (.t (.sc (.bool false))) [xs.length≠0]
  |some (.slice _),.neq=>pure1 (.t (.sc (.bool true))) [xs.length≠0]
  |_,_=>none
 |_,_=>none
def unK(op:UnOp)(x:AVal):Option Dl:=
 match op,x with
 | .not,.t (.sc (.bool b))=>pure1 (.t (.sc (.bool (!b)))) []
 | .neg,.t (.sc (.int k n))=>pure1 (.t (.sc (.int k (k.wrap (0-n))))) []
 |_,_=>none
def z5w(s:ByteArray):List Tree:=s.data.toList.map fun b=> .sc (.int .u8 b.toNat)
def convB(n:Nat)(o:Option Ob)(c:Orc):Option Dl:=
 match o,c.elt with
 |some (.row 1 _ xs),some (.sc (.string s))=>some ⟨.t (.sc (.string s)),[],[n=xs.length,xs=z5w s]⟩
 |_,_=>none
def convK(P:Program)(src dst:TypeId)(x:AVal)(st:Store)(c:Orc):Option Dl:=
 match P.underlying src,P.underlying dst,x with
 |some _,some (.int k),.t (.sc (.int _ n))=>pure1 (.t (.sc (.int k (k.wrap n)))) []
 |some .string,some .string,.t (.sc (.string s))=>pure1 (.t (.sc (.string s))) []
 |some (.slice e),some .string,.row id n=>match P.underlying e with
  |some (.int .u8)=>convB n (st id) c
  |_=>none
 |_,_,_=>none
def loadK(P:Program)(t:TypeId)(a:AVal)(st:Store)(c:Orc):Option Dl:=
 match tsz P t,tagg P t,a with
 |some sz,some ag,.ptr id off=>match st id with
  |some (.box cs)=>((part cs off sz).bind (mkV ag)).bind (pure1 · [])
  |_=>none
 |some sz,some ag,.cptr cs=>((part cs off0 sz).bind (mkT ag)).bind fun T=>pure1 (.t T) []
 |some sz,some ag,.eptr id n i sub=>match st id with
  |some (.row k fz xs)=>
   let X:=eltOf c xs i
   ((part X.cells sub sz).bind (mkT ag)).bind fun T=>pure1 (.t T) [n=xs.length,xs[i]? =some X]
  |_=>none
 |some sz,some false,.mptr id i=>match st id with
  |some (.mat _ xs h)=>bif Nat.beq sz 1 then
   match c.elt with
   |some X=>pure1 (.t X) [(matC xs h)[i]? =some (.t X)]
   |none=>match h with
    |some (j,r,n)=>pure1 (.row r n) [i=j,j<xs.length]
    |none=>none
   else none
  |_=>none
 |_,_,_=>none
where off0:=0
def z66(X:Tree)(sub:Nat)(new:List Tree):Option Tree:=
 match X with
 | .agg cs=>(z3K cs sub new).map .agg
 |_=>match new with
  | [T]=>bif Nat.beq sub 0 then some T else none
  |_=>none
def y2E(P:Program)(t:TypeId)(a v:AVal)(st:Store)(c:Orc):Option Dl:=
 match tsz P t,a with
 |some sz,.ptr id off=>match st id with
  |some (.box cs)=>
   let new:=cellsV v
   bif Nat.beq new.length sz&&new.all z0H then(z3K cs off new).bind fun cs'=>some ⟨.junk,[(id,.box cs')],[]⟩ else none
  |_=>none
 |some sz,.eptr id n i sub=>match st id with
  |some (.row k false xs)=>
   let X:=eltOf c xs i
   match snap st v with
   |some (v',f,p)=>
    (allT (cellsV v')).bind fun new=>
    bif Nat.beq new.length sz&&new.all Tree.isCell&& !(hasId (f.map (·.1)) id) then
     (z66 X sub new).bind fun X'=>some ⟨.junk,f++[(id,.row k false (xs.set i X'))],p++[n=xs.length,xs[i]? =some X]⟩
    else none
   |none=>none
  |_=>none
 |some sz,.mptr id i=>match st id with
  |some (.mat false xs none)=>bif Nat.beq sz 1 then
   match v with
   | .row r n=>bif Nat.beq r id then none else some ⟨.junk,[(id,.mat false xs (some (i,r,n)))],[i<xs.length]⟩
   | .t T=>bif T.isCell then some ⟨.junk,[(id,.mat false (xs.set i T) none)],[i<xs.length]⟩ else none
   |_=>none
   else none
  |_=>none
 |_,_=>none
def z4q(P:Program)(s:TypeId)(a:AVal)(i:Nat):Option Dl:=
 (y0i P s i).bind fun f=>(tsz P f.type).bind fun z=>
 bif Nat.beq z 0 then none else
 match a with
 | .ptr id off=>pure1 (.ptr id (off+f.offset)) []
 | .eptr id n j sub=>pure1 (.eptr id n j (sub+f.offset)) []
 | .cptr cs=>bif Nat.ble f.offset cs.length then pure1 (.cptr (cs.drop f.offset)) [] else none
 |_=>none
def y2F(P:Program)(s:TypeId)(x:AVal)(i:Nat):Option Dl:=
 (y0i P s i).bind fun f=>(tsz P f.type).bind fun z=>(tagg P f.type).bind fun ag=>
 match x with
 | .agg cs=>((part cs f.offset z).bind (mkV ag)).bind (pure1 · [])
 | .t (.agg cs)=>((part cs f.offset z).bind (mkT ag)).bind fun T=>pure1 (.t T) []
 |_=>none
def szIs(P:Program)(e:TypeId)(k:Nat):Bool:=match tsz P e with|some z=>Nat.beq z k|none=>false
def z4r(P:Program)(t:TypeId)(x i:AVal)(st:Store)(c:Orc):Option Dl:=
 match P.underlying t,x,i with
 |some (.slice e),.t (.lst k xs),.t (.sc (.int _ j))=>
  let X:=eltOf c xs j.toNat
  bif szIs P e k then pure1 (.cptr X.cells) [0≤j,xs[j.toNat]? =some X] else none
 |some (.slice e),.row id n,.t (.sc (.int _ j))=>match st id with
  |some (.row k fz xs)=>
   bif szIs P e k then pure1 (.eptr id n j.toNat 0) [n=xs.length,0≤j,j< (n:Int)] else none
  |_=>none
 |some (.slice e),.mat id,.t (.sc (.int _ j))=>match st id with
  |some (.mat _ xs _)=>bif szIs P e 1 then pure1 (.mptr id j.toNat) [0≤j,j< (xs.length:Int)] else none
  |_=>none
 |some (.array len e),.ptr id off,.t (.sc (.int _ j))=>
  (tsz P e).bind fun z=>pure1 (.ptr id (off+j.toNat*z)) [0≤j,j< (len:Int)]
 |some (.slice e),.bsl id n,.t (.sc (.int _ j))=>match st id with
  |some (.box _)=>(tsz P e).bind fun z=>pure1 (.ptr id (j.toNat*z)) [0≤j,j< (n:Int)]
  |_=>none
 |_,_,_=>none
def y2G(P:Program)(t:TypeId)(x i:AVal):Option Dl:=
 match P.underlying t,x,i with
 |some .string,.t (.sc (.string s)),.t (.sc (.int _ j))=>pure1 (.t (.sc (.int .u8 ((s[j.toNat]?).getD 0).toNat))) [0≤j,j< (s.size:Int)]
 |some (.array len e),x,.t (.sc (.int _ j))=>(tsz P e).bind fun z=>(tagg P e).bind fun ag=>
  match x with
  | .agg cs=>((part cs (j.toNat*z) z).bind (mkV ag)).bind (pure1 · [0≤j,j< (len:Int)])
  | .t (.agg cs)=>((part cs (j.toNat*z) z).bind (mkT ag)).bind fun T=>pure1 (.t T) [0≤j,j< (len:Int)]
  |_=>none
 |_,_,_=>none
def y0j(k:Nat)(xs:List Tree)(lo hi:Option Int):Tree:=
 match lo,hi with
 |none,none=> .lst k xs
 |some l,none=> .lst k (xs.drop l.toNat)
 |none,some h=> .lst k (xs.take h.toNat)
 |some l,some h=> .lst k ((xs.take h.toNat).drop l.toNat)
def z78(n:Nat)(lo hi:Option Int):List Prop:=
 match lo,hi with
 |none,none=>[]
 |some l,none=>[0≤l,l≤(n:Int)]
 |none,some h=>[0≤h,h≤(n:Int)]
 |some l,some h=>[0≤l,l≤h,h≤(n:Int)]
def obnd(o:Option AVal):Option (Option Int):=
 match o with
 |none=>some none
 |some (.t (.sc (.int _ j)))=>some (some j)
 |some _=>none
def y0k(P:Program)(t:TypeId)(x:AVal)(lo hi mx:Option AVal)(st:Store):Option Dl:=
 match mx,obnd lo,obnd hi with
 |none,some lo,some hi=>
  match P.underlying t,x with
  |some .string,.t (.sc (.string s))=>
   let l:=lo.getD 0
   let h:=hi.getD (s.size:Int)
   pure1 (.t (.sc (.string (s.extract l.toNat h.toNat)))) [0≤l,l≤h,h≤(s.size:Int)]
  |some (.slice e),.t (.lst k xs)=>
   bif szIs P e k then
    pure1 (.t (y0j k xs lo hi)) (z78 xs.length lo hi) else none
  |some (.slice e),.t (.sc (.slice none 0 0))=>(tsz P e).bind fun _=>pure1 (.t (.sc (.slice none 0 0))) (z78 0 lo hi)
  |some (.slice e),.row id n=>match st id with
   |some (.row k fz xs)=>
    bif szIs P e k then
     some ⟨.t (y0j k xs lo hi),(bif fz then[] else[(id,.row k true xs)]),(n=xs.length)::z78 xs.length lo hi⟩ else none
   |_=>none
  |_,_=>none
 |_,_,_=>none
def y0l(P:Program)(t:TypeId)(x:AVal)(lo hi:Option AVal)(mx:AVal):Option Dl:=
 match P.underlying t,x,lo,hi,mx with
 |some (.slice e),.t (.lst k xs),none,some (.t (.sc (.int _ h))),.t (.sc (.int _ m))=>
  bif szIs P e k then pure1 (.xl k (xs.take h.toNat)) [0≤h,h≤(xs.length:Int),m=h] else none
 |_,_,_,_,_=>none
def y2H(P:Program)(t:TypeId)(parts:List (Nat×AVal)):Option Dl:=
 (z3J P t).bind fun z=>
 (y2D P t).bind fun place=>bif parts.all (fun p=>(cellsV p.2).all z0H) then(fillV place (z.map .t) parts).bind fun cs=>pure1 (aggV cs) [] else none
def z3u(P:Program)(t:TypeId)(len:Nat)(parts:List (Nat×AVal))(st:Store)(nid:Nat):Option Dl:=
 (telem P t).bind fun e=>(tsz P e).bind fun k=>(tagg P e).bind fun ag=>(z3J P e).bind fun z=>
 match snaps st (parts.map (·.2)) with
 |some (vs,f,p)=>
  bif Nat.ble (len*k) 16777216&&Nat.blt 0 k&&Nat.beq z.length k&&vs.all (fun v=>(cellsV v).all z0H) then
   (fillV (fun i=>some (i*k,k)) ((repl z len).map .t) ((parts.map (·.1)).zip vs)).bind fun cs=>(allT cs).bind fun ts=>(group ag k len ts).bind fun xs=>
    some ⟨.row nid len,f++[(nid,.row k false xs)],p⟩
  else none
 |none=>none
def z5x(P:Program)(t:TypeId)(len:Nat)(parts:List (Nat×AVal))(nid:Nat):Option Dl:=
 (telem P t).bind fun e=>(tsz P e).bind fun k=>(z3J P e).bind fun z=>
  bif Nat.ble (len*k) 16777216&&Nat.blt 0 (len*k)&&Nat.beq z.length k&&parts.all (fun p=>(cellsV p.2).all z0H) then
   (fillV (fun i=>some (i*k,k)) ((repl z len).map .t) parts).bind fun cs=>some ⟨.bsl nid len,[(nid,.box cs)],[]⟩
  else none
def y2I(P:Program)(e:TypeId)(nid:Nat):Option Dl:=(z3J P e).bind fun z=>some ⟨.ptr nid 0,[(nid,.box (z.map .t))],[]⟩
def boxK(v:AVal)(nid:Nat):Option Dl:=bif (cellsV v).all z0H then some ⟨.ptr nid 0,[(nid,.box (cellsV v))],[]⟩ else none
def TWs:List Tree→List Tree→Prop
 | [],[]=>True
 |T::l,T'::l'=>(T=T'∨(T= .sc (.slice none 0 0)∧∃k,0<k∧T'= .lst k []))∧TWs l l'
 |_,_=>False
def z4s(P:Program)(t:TypeId)(l c:AVal)(nid:Nat)(orc:Orc):Option Dl:=
 (telem P t).bind fun e=>(tsz P e).bind fun k=>(tby P e).bind fun b=>(tagg P e).bind fun ag=>(z3J P e).bind fun z=>(mkT ag z).bind fun x=>
 match l,c with
 | .t (.sc (.int _ n)),.t (.sc (.int _ m))=>
  bif !orc.fx.isEmpty then
   match orc.elt with
   |some y=>bif Nat.beq k 1&&Nat.beq z.length 1&&Nat.ble b 256&&y.isCell then some ⟨.mat nid,[(nid,.mat false (List.replicate n.toNat y) none)],[0≤n,n=m,m≤1099511627776,TWs x.cells y.cells]⟩ else none
   |none=>none
  else
  bif Nat.blt 0 k&&Nat.beq z.length k&&Nat.ble b 256 then some ⟨.row nid n.toNat,[(nid,.row k false (List.replicate n.toNat (orc.elt.getD x)))],[0≤n,n≤m,m≤1099511627776]++(match orc.elt with|some y=>[TWs x.cells y.cells]|none=>[])⟩ else none
 |_,_=>none
def lenK(P:Program)(t:TypeId)(x:AVal)(st:Store):Option Dl:=
 match P.underlying t,x with
 |some .string,.t (.sc (.string s))=>pure1 (.t (.sc (.int .i64 (s.size:Int)))) []
 |some (.slice _),.t (.lst _ xs)=>pure1 (.t (.sc (.int .i64 (xs.length:Int)))) []
 |some (.slice _),.t (.sc (.slice _ n _))=>pure1 (.t (.sc (.int .i64 (n:Int)))) []
 |some (.slice _),.row id n=>pure1 (.t (.sc (.int .i64 (n:Int)))) []
 |some (.slice _),.bsl id n=>pure1 (.t (.sc (.int .i64 (n:Int)))) []
 |some (.array n _),_=>pure1 (.t (.sc (.int .i64 (n:Int)))) []
 |_,_=>none
def srcOf(st:Store)(k:Nat):AVal→Option (List Tree×List Prop)
 | .t (.lst k' xs)=>bif Nat.beq k k' then some (xs,[]) else none
 | .t (.sc (.slice none 0 0))=>some ([],[])
 | .row id n=>match st id with
  |some (.row k' _ xs)=>bif Nat.beq k k' then some (xs,[n=xs.length]) else none
  |_=>none
 |_=>none
def z3L(b:Nat):Nat:=bif Nat.ble b 128 then 1099511627776 else 8589934592
def z9r(P:Program)(ts:Array TypeId)(s x:AVal)(st:Store)(nid:Nat):Option Dl:=
 match ts.toList with
 | [tS,tX]=>
  (telem P tS).bind fun e=>(tsz P e).bind fun k=>(tby P e).bind fun b=>(z3J P e).bind fun z=>(srcOf st k x).bind fun(ys,p)=>
  bif Nat.beq tS tX&&Nat.blt 0 k&&Nat.ble b 16384&&Nat.beq z.length k then
   match s with
   | .t (.sc (.slice none 0 0))=>some ⟨.row nid ys.length,[(nid,.row k false ys)],p++[ys.length≤z3L b]⟩
   | .row id n=>match st id with
    |some (.row k' false xs)=>bif Nat.beq k k' then some ⟨.row id (n+ys.length),[(id,.row k false (xs++ys))],p++[n=xs.length,n+ys.length≤z3L b]⟩ else none
    |_=>none
   | .xl k' xs=>bif Nat.beq k k' then some ⟨.row nid (xs.length+ys.length),[(nid,.row k false (xs++ys))],p++[0<ys.length,xs.length+ys.length≤z3L b]⟩ else none
   |_=>none
  else none
 |_=>none
def minK(big:Bool):Int→List AVal→Option Int
 |a,[]=>some a
 |a,v::l=>match v with
  | .t (.sc (.int _ b))=>minK big (bif big then(if b>a then b else a) else(if b<a then b else a)) l
  |_=>none
def z67(big:Bool)(xs:List AVal):Option Dl:=
 match xs with
 | .t (.sc (.int k a))::l=>(minK big a l).bind fun r=>pure1 (.t (.sc (.int k r))) []
 |_=>none
def y0m(P:Program)(t:TypeId)(x:AVal)(lo hi mx:Option AVal)(st:Store)(nid:Nat):Option Dl:=
 match mx,obnd lo,obnd hi with
 |none,some (some l),some none=>
  match P.underlying t,x with
  |some (.slice e),.row id n=>match st id with
   |some (.row k fz xs)=>bif szIs P e k then pure1 (.tail id n l.toNat) [n=xs.length,0≤l,l≤(n:Int)] else none
   |_=>none
  |_,_=>none
 |none,some none,some (some h)=>
  match P.underlying t,x with
  |some (.slice e),.row id n=>match st id with
   |some (.row k false xs)=>bif szIs P e k then some ⟨.row nid h.toNat,[(id,.gone),(nid,.row k false (xs.take h.toNat))],[n=xs.length,0≤h,h≤(n:Int)]⟩ else none
   |_=>none
  |_,_=>none
 |_,_,_=>none
def y2J(P:Program)(t:TypeId)(x:AVal)(st:Store):Option Dl:=
 (telem P t).bind fun e=>(tsz P e).bind fun k=>(tagg P e).bind fun ag=>(z3J P e).bind fun z=>(mkT ag z).bind fun X=>
 match x with
 | .tail id n i=>match st id with
  |some (.row k' false xs)=>bif Nat.beq k k'&&Nat.beq z.length k then some ⟨.tup [],[(id,.row k false (xs.take i++List.replicate (n-i) X))],[n=xs.length,i≤n]⟩ else none
  |_=>none
 |_=>none
def y0n(P:Program)(t:TypeId)(x:AVal)(nid:Nat):Option Dl:=
 match P.underlying t,x with
 |some .string,.t (.sc (.string s))=>some ⟨.hdl nid,[(nid,.siter s 0)],[]⟩
 |_,_=>none
def nextK(it:AVal)(isStr:Bool)(st:Store)(c:Orc):Option Dl:=
 match it with
 | .hdl id=>match st id with
  |some (.siter s p)=>bif isStr then
   bif c.fx.isEmpty then some ⟨.tup [.t (.sc (.bool true)),.t (.sc (.int .i64 (p:Int))),.t (.sc (.int .i32 ((Utf8.decode s p).1:Int)))],[(id,.siter s (p+(Utf8.decode s p).2))],[p<s.size]⟩
   else some ⟨.tup [.t (.sc (.bool false))],[],[s.size≤p]⟩
   else none
  |_=>none
 |_=>none
def lookE:List (Int×MV)→Int→Option MV
 | [],_=>none
 | (k',v)::l,k=>if k=k' then some v else lookE l k
def putE:List (Int×MV)→Int→MV→List (Int×MV)
 | [],k,v=>[(k,v)]
 | (k',v')::l,k,v=>if k=k' then(k',v)::l else(k',v')::putE l k v
def z68(P:Program)(t:TypeId):Option TypeId:=
 match P.underlying t with
 |some (.map k e)=>match P.underlying k with
  |some (.int .i64)=>some e
  |_=>none
 |_=>none
def z69(P:Program)(t:TypeId)(r:Option Operand)(nid:Nat):Option Dl:=
 match r with
 |none=>some ⟨.hdl nid,[(nid,.mp [] none)],[]⟩
 |some _=>none
def tupOk(ok:Bool)(v:AVal)(b:Bool):AVal:=bif ok then .tup [v,.t (.sc (.bool b))] else v
def lookT(es:List (Int×MV))(n:Int)(z:Tree):Option Tree:=
 match lookE es n with
 |none=>some z
 |some (.im T)=>some T
 |_=>none
def lookQ(es:List (Int×MV))(n:Int)(k:Nat):Option (List Tree):=
 match lookE es n with
 |none=>some []
 |some (.im (.lst k' xs))=>if k'=k then some xs else none
 |_=>none
def z9s(P:Program)(t:TypeId)(x k:AVal)(ok:Bool)(st:Store)(nid:Nat)(c:Orc):Option Dl:=
 match z68 P t,x,k,c.call with
 |some e,.hdl id,.t (.sc (.int .i64 n)),some co=>match st id with
  |some (.mp es none)=>match co.mode with
   |0=>(tzero P e).bind fun z=>bif z.oneCell' then pure1 (tupOk ok (.t (.sc z)) false) [lookE es n=none] else none
   |1=>match co.res with
    | .t T=>pure1 (tupOk ok (.t T) true) [lookE es n=some (.im T)]
    | .cptr cs=>pure1 (tupOk ok (.cptr cs) true) [lookE es n=some (.cp cs)]
    |_=>none
   |2=>match co.wr with
    | [(_,.box cs)]=>(allT cs).bind fun Ts=>some ⟨tupOk ok (.ptr nid 0) true,[(id,.mp es (some (n,.ptr nid 0))),(nid,.box cs)],[lookE es n=some (.bx Ts)]⟩
    | [(_,.row k' _ xs)]=>some ⟨tupOk ok (.row nid xs.length) true,[(id,.mp es (some (n,.row nid xs.length))),(nid,.row k' false xs)],[lookE es n=some (.rw k' xs)]⟩
    |_=>none
   |3=>match co.res with
    | .t (.lst k' xs)=>some ⟨tupOk ok (.t (.lst k' xs)) true,[(id,.mp (putE es n (.im (.lst k' xs))) none)],[lookE es n=some (.rw k' xs)]⟩
    |_=>none
   |4=>(tzero P e).bind fun z=>bif z.oneCell' then match ok,co.res with
    |false,.t T=>pure1 (.t T) [lookT es n (.sc z)=some T]
    |true,.tup [.t T,.t (.sc (.bool b))]=>pure1 (.tup [.t T,.t (.sc (.bool b))]) [lookT es n (.sc z)=some T,(lookE es n).isSome=b]
    |_,_=>none
    else none
   |5=>match tzero P e,ok,co.res with
    |some (.slice none 0 0),false,.t (.lst k' xs)=>bif Nat.blt 0 k' then pure1 (.t (.lst k' xs)) [lookQ es n k'=some xs] else none
    |_,_,_=>none
   |_=>none
  |_=>none
 |_,_,_,_=>none
def holeC(n:Int):Option (Int×AVal)→List Prop
 |none=>[]
 |some (n',_)=>[n=n']
def z7a(P:Program)(t:TypeId)(x k v:AVal)(st:Store)(c:Orc):Option Dl:=
 match z68 P t,x,k with
 |some _,.hdl id,.t (.sc (.int .i64 n))=>match st id with
  |some (.mp es h)=>match v with
   | .t T=>some ⟨.junk,[(id,.mp (putE es n (.im T)) none)],holeC n h⟩
   | .cptr cs=>some ⟨.junk,[(id,.mp (putE es n (.cp cs)) none)],holeC n h⟩
   | .row r q=>match st r with
    |some (.row k' false xs)=>bif Nat.beq r id then none else
     bif c.fx.isEmpty then some ⟨.junk,[(r,.row k' true xs),(id,.mp (putE es n (.im (.lst k' xs))) none)],(q=xs.length)::holeC n h⟩
     else some ⟨.junk,[(r,.gone),(id,.mp (putE es n (.rw k' xs)) none)],(q=xs.length)::holeC n h⟩
    |_=>none
   | .ptr r 0=>match st r with
    |some (.box cs)=>bif Nat.beq r id|| !(cs.all z0H) then none else(allT cs).bind fun Ts=>
     bif c.fx.isEmpty then some ⟨.junk,[(r,.gone),(id,.mp (putE es n (.bx Ts)) none)],holeC n h⟩
     else some ⟨.junk,[(r,.gone),(id,.mp (putE es n (.cp Ts)) none)],holeC n h⟩
    |_=>none
   |_=>none
  |_=>none
 |_,_,_=>none
def z7b(P:Program)(t:TypeId)(x:AVal)(st:Store)(nid:Nat):Option Dl:=
 match P.underlying t,x with
 |some (.map _ _),.hdl id=>match st id with
  |some (.mp es _)=>some ⟨.hdl nid,[(nid,.miter id es.length [])],[]⟩
  |_=>none
 |_,_=>none
def y2K(it:AVal)(st:Store)(nid:Nat)(c:Orc):Option Dl:=
 match it,c.call,c.elt with
 | .hdl id,some co,some (.sc (.int .i64 i))=>match st id with
  |some (.miter mid n seen)=>match st mid with
   |some (.mp es none)=>match co.res with
    | .tup [.t (.sc (.int .i64 k)),v]=>match co.mode,v with
     |0,.junk=>pure1 (.tup [.t (.sc (.int .i64 k)),.junk]) [es.length=n,seen.getLast? =some i.toNat,(es[i.toNat]?).map (·.1)=some k]
     |1,.t T=>pure1 (.tup [.t (.sc (.int .i64 k)),.t T]) [es.length=n,seen.getLast? =some i.toNat,es[i.toNat]? =some (k,.im T)]
     |1,.cptr cs=>pure1 (.tup [.t (.sc (.int .i64 k)),.cptr cs]) [es.length=n,seen.getLast? =some i.toNat,es[i.toNat]? =some (k,.cp cs)]
     |2,_=>match co.wr with
      | [(_,.box cs)]=>(allT cs).bind fun Ts=>some ⟨.tup [.t (.sc (.int .i64 k)),.ptr nid 0],[(mid,.mp es (some (k,.ptr nid 0))),(nid,.box cs)],[es.length=n,seen.getLast? =some i.toNat,es[i.toNat]? =some (k,.bx Ts)]⟩
      |_=>none
     |_,_=>none
    |_=>none
   |_=>none
  |_=>none
 |_,_,_=>none
def FC(P:Program)(f:FuncId)(args:List AVal)(st:Store)(res:AVal)(st':Store):Prop:=
 ∀(F:Fen P) (m:Place) (w:World) (us:List Value),SRel F st m w→us.length=args.length→
  (∀(i:Nat) (v:AVal) (u:Value),args[i]? =some v→us[i]? =some u→VRel st m w (okB F st m w) v u)→
  Calls P f us.toArray w fun e w'=> ∃v m',e= .returned v∧SRel F st' m' w'∧FrameExt F st m w st' m' w'∧VRel st' m' w' (okB F st' m' w') res v
def z00(P:Program)(f:FuncId):Bool:=
 match P.funcs[f]? with
 |some fn=>fn.body.isSome&& !(fn.name== "runtime.NumGoroutine")
 |none=>false
def y2L(st:Store)(need:List Nat):Bool:=need.all fun id=>match st id with|some (.box cs)=>(idsL cs).all (hasId need)|some (.mat _ _ (some _))=>false|some (.mp _ (some _))=>false|some (.miter mid _ _)=>hasId need mid|_=>true
def lookL(st:Store):List Nat→Option (List (Nat×Ob))
 | []=>some []
 |i::l=>match st i,lookL st l with
  |some o,some r=>some ((i,o)::r)
  |_,_=>none
def callK(P:Program)(f:FuncId)(vals:List AVal)(st:Store)(nid:Nat)(c:CallOrc):Option Dl:=
 match c.mode with
 |0=>match snaps st vals with
  |some (vs,_,p)=>bif z9q c.res&&(idsL vs).isEmpty then some ⟨c.res,[],(z00 P f=true)::(p++[FC P f vs emp c.res emp])⟩ else none
  |none=>none
 |1=>match snaps st vals with
  |some (vs,g,p)=>
   bif c.wr.all (fun x=>Nat.ble nid x.1&&Nat.blt x.1 (nid+8))&&(idsL vs).isEmpty then some ⟨c.res,g++c.wr,(z00 P f=true)::(p++[FC P f vs emp c.res (app emp c.wr)])⟩ else none
  |none=>none
 |3=>match lookL st c.need with
  |some l=>bif c.wr.all (fun x=>hasId c.need x.1|| (Nat.ble nid x.1&&Nat.blt x.1 (nid+8)))&&(idsL vals).all (hasId c.need)&&y2L st c.need then
   some ⟨c.res,c.wr,[z00 P f=true,FC P f vals (app emp l) c.res (app (app emp l) c.wr)]⟩ else none
  |none=>none
 |_=>
  bif c.wr.all (fun x=>hasId c.need x.1|| (Nat.ble nid x.1&&Nat.blt x.1 (nid+8)))&&(idsL vals).all (hasId c.need)&&y2L st c.need then
   some ⟨c.res,c.wr,[z00 P f=true,FC P f vals (only st c.need) c.res (app (only st c.need) c.wr)]⟩ else none
def CallV(P:Program)(u:Value)(args:Array Value)(w:World)(R:Ending→World→Prop):Prop:=
 ∃t cap nx,u= .func t #[] cap∧(invoke (.fn t cap) args).run P w= .ok nx w∧
  match nx with
  | .enter f bs=>CallsIn Fence.wide 0 P f bs w R
  | .round l f tmps asg b=>RoundIn Fence.wide 0 P l f tmps asg b w R
  |_=>False
def YPost(Y:YSpec)(pre:List (List Tree))(xs:List Tree)(g:List Nat)(w:World)(e:Ending)(w':World):Prop:=
 e= .returned (.bool (Y.goes (pre++[xs])))∧w'.os=w.os∧w'.tape=w.tape∧w'.output=w.output∧w.heap.size≤w'.heap.size∧
  (∀b,b<w.heap.size→b∉g→w'.heap[b]? =w.heap[b]?)∧
  ∃g',(∀b∈g,b∈g')∧(∀b∈g',b∈g∨(w.heap.size≤b∧b<w'.heap.size))∧Y.holds (pre++[xs]) g' w'
def y8e(P:Program)(Y:YSpec):Prop:=
 ∀(pre:List (List Tree)) (xs:List Tree) (us:List Value) (g:List Nat) (w:World),Y.adm pre xs→Y.holds pre g w→(∀b∈g,b<w.heap.size)→us.length=xs.length→
  (∀(i:Nat) (x:Tree) (u:Value),xs[i]? =some x→us[i]? =some u→TRep w (fun _=>False) x u)→CallV P Y.fn us.toArray w (YPost Y pre xs g w)
def y2M(P:Program)(id:Nat)(vals:List AVal)(st:Store):Option Dl:=
 match st id,allT vals with
 |some (.ext Y pre),some xs=>bif xs.all Tree.free then some ⟨.t (.sc (.bool (Y.goes (pre++[xs])))),[(id,.ext Y (pre++[xs]))],[y8e P Y,Y.adm pre xs]⟩ else none
 |_,_=>none
def ev(sl:List (Nat×AVal)):Operand→AVal
 | .tmp t=>get sl t
 | .const (.agg cs)=>bif cs.toList.all Value.oneCell' then .t (.agg (cs.toList.map .sc)) else .junk
 | .const (.tuple _)=> .junk
 | .const v=> .t (.sc v)
 | .func f=> .fn f []
 | .global _=> .junk
def bare:AVal→AVal
 | .cond _ v=>v
 |v=>v
def reqs(ρ:Eval):List Operand→List Prop
 | []=>[]
 |x::l=>match ρ x with
  | .cond c _=>(c=true)::reqs ρ l
  |_=>reqs ρ l
def aop(P:Program)(op:Op)(ty:TypeId)(ρ:Eval)(st:Store)(nid:Nat)(c:Orc):Option Dl:=
 match op with
 | .move x=>pure1 (ρ x) []
 | .assign x=>pure1 (ρ x) []
 | .alloc e=>y2I P e nid
 | .box _ x=>boxK (ρ x) nid
 | .build t ps=>y2H P t (ps.toList.map fun(i,x)=>(i,ρ x))
 | .buildSlice t len ps=>bif c.elt.isSome then z5x P t len (ps.toList.map fun(i,x)=>(i,ρ x)) nid else z3u P t len ((ps.toList.map fun(i,x)=>(i,ρ x)).map (fixP c.fx)) st nid
 | .load t a=>loadK P t (ρ a) st c
 | .store t a x=>y2E P t (ρ a) (ρ x) st c
 | .nilCheck x=>match ρ x with
  | .ptr id off=>pure1 (.ptr id off) []
  | .eptr id n i sub=>pure1 (.eptr id n i sub) []
  | .cptr cs=>pure1 (.cptr cs) []
  | .fn f cap=>pure1 (.fn f cap) []
  | .mptr id i=>pure1 (.mptr id i) []
  | .yl id=>pure1 (.yl id) []
  |_=>none
 | .binOp b t x y _=>bif c.fx.isEmpty then binIf P b t y (ρ x) (ρ y) else binNE P b t (ρ x) (ρ y)
 | .unOp u _ x=>unK u (ρ x)
 | .convert s d x=>convK P s d (ρ x) st c
 | .makeFunc (.func f) first cap=>bif first.isEmpty then pure1 (.fn f (cap.toList.map ρ)) [] else none
 | .makeSlice t l k=>z4s P t (ρ l) (ρ k) nid c
 | .slice t x lo hi none=>bif c.fx.isEmpty then y0k P t (ρ x) (lo.map ρ) (hi.map ρ) none st else y0m P t (ρ x) (lo.map ρ) (hi.map ρ) none st nid
 | .slice t x lo hi (some mx)=>y0l P t (ρ x) (lo.map ρ) (hi.map ρ) (ρ mx)
 | .range t x=>bif c.fx.isEmpty then y0n P t (ρ x) nid else z7b P t (ρ x) st nid
 | .makeMap t r=>z69 P t r nid
 | .lookup t x k ok=>z9s P t (ρ x) (ρ k) ok st nid c
 | .mapUpdate t x k v=>z7a P t (ρ x) (ρ k) (ρ v) st c
 | .insert t x k v=>z7a P t (ρ x) (ρ k) (ρ v) st c
 | .entry it=>y2K (ρ it) st nid c
 | .next it s=>nextK (ρ it) s st c
 | .fieldAddr s a f=>z4q P s (ρ a) f
 | .field s x f=>y2F P s (ρ x) f
 | .indexAddr t x i=>z4r P t (ρ x) (ρ i) st c
 | .index t x i=>y2G P t (ρ x) (ρ i)
 | .extract t i=>match ρ t with
  | .tup vs=>vs[i]?.bind (pure1 · [])
  |_=>none
 | .call {callee:= .builtin .len,args,argTypes}=>match args.toList,argTypes.toList with
  | [x],[t]=>lenK P t (ρ x) st
  |_,_=>none
 | .call {callee:= .builtin .append,args,argTypes}=>match args.toList with
  | [s,x]=>z9r P argTypes (ρ s) (ρ x) st nid
  |_=>none
 | .call {callee:= .builtin .clear,args,argTypes}=>match args.toList,argTypes.toList with
  | [x],[t]=>y2J P t (ρ x) st
  |_,_=>none
 | .call {callee:= .builtin .max,args,argTypes}=>z67 true (args.toList.map ρ)
 | .call {callee:= .builtin .min,args,argTypes}=>z67 false (args.toList.map ρ)
 | .call {callee:= .value f,args,argTypes}=>match ρ f,c.call with
  | .fn f cap,some co=>callK P f (args.toList.map ρ++cap) st nid co
  | .yl id,_=>y2M P id (args.toList.map ρ) st
  |_,_=>none
 |_=>none
structure St where
 sl:List (Nat×AVal)
 st:Store
 nx:Nat
structure Res where
 val:AVal
 wr:List (Nat×Ob)
 need:List Nat
 cnd:List Prop
def y6Q:Op→Bool
 | .move _=>true
 | .assign _=>true
 | .pick _ _ _=>true
 | .binOp _ _ _ _ _=>true
 | .unOp _ _ _=>true
 | .nilCheck _=>true
 | .fieldAddr _ _ _=>true
 | .field _ _ _=>true
 | .makeFunc _ _ _=>true
 | .extract _ _=>true
 | .alloc _=>true
 |_=>false
def y0o(ρ:Eval)(op:Op)(c:Orc):List Nat:=
 (bif y6Q op then[] else idsL (op.operands.toList.map ρ))++(match c.call with|some co=>co.need|none=>[])
def z79(ops:List Oper)(j:Nat):Option Nat:=(ops[j]?).bind (·.dst)
def z5y(ops:List Oper)(sl:List (Nat×AVal))(o:Oper):Option (Option Bool):=
 match o.guard with
 |none=>some none
 |some (j,want)=>match z79 ops j with
  |none=>none
  |some d=>match get sl d with
   | .t (.sc (.bool g))=>some (some (bif want then g else !g))
   | .cond c (.t (.sc (.bool g)))=>some (some (c&&(bif want then g else !g)))
   |_=>none
def pickK(c a b:AVal):Option Dl:=
 match bare c,bare a,bare b with
 | .t (.sc (.bool g)),.t (.sc (.bool x)),.t (.sc (.bool y))=>
  some ⟨.t (.sc (.bool (bif g then x else y))),[],
   (match c with| .cond k _=>[k=true]|_=>[])++(match a with| .cond k _=>[g=true→k=true]|_=>[])++(match b with| .cond k _=>[g=false→k=true]|_=>[])⟩
 |_,_,_=>none
def ovC{α:Type}(o:Option α)(d:α):List Prop:=match o with|some v=>[v=d]|none=>[]
def Weak(d v:AVal):Prop:=∀(st:Store) (m:Place) (w:World) (ok:Nat→Prop) (u:Value),VRel st m w ok d u→VRel st m w ok v u
def wkC(o:Option AVal)(d:AVal):List Prop:=match o with|some v=>[Weak d v]|none=>[]
def exec0(P:Program)(s:St)(o:Oper)(nid:Nat)(c:Orc):Option Res:=
 let ρ:=ev s.sl
 match o.op with
 | .pick g a b=>(pickK (ρ g) (ρ a) (ρ b)).map fun δ=>⟨δ.val,[],[],δ.cnd⟩
 |op=>
  let need:=y0o ρ op c
  (aop P op o.type (fun x=>bare (ρ x)) (only s.st need) nid c).map fun δ=>
   ⟨fixN c.fx (c.val.getD δ.val),c.wr.getD δ.wr,need,reqs ρ op.operands.toList++δ.cnd++wkC c.val δ.val++ovC c.wr δ.wr⟩
def y2N(P:Program)(ops:List Oper)(s:St)(o:Oper)(nid:Nat)(c:Orc):Option Res:=
 match z5y ops s.sl o,exec0 P s o nid c with
 |some none,some r=>some r
 |some (some e),some r=>some ⟨.cond e r.val,r.wr,r.need,r.cnd.map (fun p=>e=true→p)++(match r.wr with| []=>[]|_::_=>[e=true])⟩
 |_,_=>none
def skipV(c:Orc):Option AVal:=match c.call with
 |some ⟨9,_,v,_⟩=>some v
 |_=>none
def exec1(P:Program)(ops:List Oper)(s:St)(o:Oper)(nid:Nat)(c:Orc):Option Res:=
 match skipV c with
 |some v=>match z5y ops s.sl o with
  |some (some e)=>some ⟨.cond e v,[],[],[e=false]⟩
  |_=>none
 |none=>y2N P ops s o nid c
def put(sl:List (Nat×AVal))(d:Option Nat)(v:AVal):List (Nat×AVal):=
 match d with
 |some d=>(d,v)::sl
 |none=>sl
def orcAt:List (Nat×Orc)→Nat→Orc
 | [],_=>Orc.no
 | (i,c)::l,j=>bif Nat.beq i j then c else orcAt l j
def runL(P:Program)(ops:List Oper)(orcs:List (Nat×Orc))(nx:Nat):Nat→List Oper→St→Option (St×List Res)
 |_,[],s=>some (s,[])
 |i,o::rest,s=>
  match exec1 P ops s o (nx+8*i) (orcAt orcs i) with
  |some r=>bif !(r.wr.all fun x=>Nat.blt x.1 (nx+8*i+8)) then none else match runL P ops orcs nx (i+1) rest ⟨put s.sl o.dst r.val,app s.st r.wr,s.nx⟩ with
   |some (s',rs)=>some (s',r::rs)
   |none=>none
  |none=>none
def dstOk(n:Nat)(o:Oper):Bool:=match o.dst with|some d=>Nat.blt d n|none=>true
def allC:List Res→List Prop
 | []=>[]
 |r::l=>r.cnd++allC l
def All:List Prop→Prop
 | []=>True
 |p::l=>p∧All l
def keepS(sl:List (Nat×AVal)):List Nat→List (Nat×AVal)
 | []=>[]
 |k::l=>(k,get sl k)::keepS sl l
def y0p(ms:List Nat)(o:Oper):Nat:=o.after.toList.foldl (fun s e=>bif Region.binds .any e then s|||2^e.on|||ms.getD e.on 0 else s) 0
def masks:List Oper→List Nat→List Nat
 | [],ms=>ms
 |o::l,ms=>masks l (ms++[y0p ms o])
def looks(ops:List Oper)(o:Oper):List Nat:=
 (o.op.operands.toList.filterMap fun| .tmp t=>some t|_=>none)++(match o.guard with|some (j,_)=>(z79 ops j).toList|none=>[])
def metL(a b:List Nat):Bool:=a.any fun i=>hasId b i
def wrIds(r:Res):List Nat:=r.wr.map (·.1)
def apart(ops:List Oper)(nid:Nat)(o o':Oper)(r r':Res):Bool:=
 !(match o.dst with|some d=>hasId (looks ops o') d|| (match o'.dst with|some d'=>Nat.beq d d'|none=>false)|none=>false)&&
 !(match o'.dst with|some d=>hasId (looks ops o) d|none=>false)&&
 !(metL (wrIds r) (r'.need++wrIds r'))&& !(metL (wrIds r') r.need)&& !((wrIds r').any fun x=>Nat.ble nid x&&Nat.blt x (nid+8))
def y6R(i:Nat)(o:Oper):Bool:=o.after.toList.all fun e=> !(Region.binds .any e)||Nat.blt e.on i
def z3M:Nat→List Oper→Bool
 |_,[]=>true
 |i,o::l=>y6R i o&&z3M (i+1) l
def z2Y(ops:List Oper)(nid i:Nat)(o:Oper)(r:Res):List Oper→List Res→List Nat→Bool
 |o'::l,r'::rs,mk::ms=>(Nat.testBit mk i||apart ops nid o o' r r')&&z2Y ops nid i o r l rs ms
 | [],[],[]=>true
 |_,_,_=>false
def z3N(ops:List Oper)(nx:Nat):Nat→List Oper→List Res→List Nat→Bool
 |i,o::l,r::rs,_::ms=>z2Y ops (nx+8*i) i o r l rs ms&&z3N ops nx (i+1) l rs ms
 |_,[],[],[]=>true
 |_,_,_,_=>false
def z6t(ops:List Oper)(nx:Nat)(rs:List Res):Bool:=z3M 0 ops&&z3N ops nx 0 ops rs (masks ops [])
def runR(P:Program)(n:Nat)(ops:List Oper)(draw:Bool)(orcs:List (Nat×Orc))(keys:List Nat)(s:St):Option (St×List Prop):=
 match runL P ops orcs s.nx 0 ops s with
 |some (s',rs)=>
  bif (ops.all (dstOk n))&&(!draw||z6t ops s.nx rs) then some (⟨keepS s'.sl keys,s'.st,s.nx+8*ops.length⟩,allC rs) else none
 |none=>none
end Go.Ab
end
section
set_option linter.unusedVariables false
namespace Go.Ab
variable {P:Program}
theorem z0L{a b:Nat}(h:a≠b):Nat.beq a b=false:=by
 cases hh:Nat.beq a b with
 |false=>rfl
 |true=>exact absurd (Nat.eq_of_beq_eq_true hh) h
theorem z0D{l:List Nat}{j:Nat}:hasId l j=true↔j∈l:=by
 induction l with
 |nil=>simp[hasId]
 |cons a l ih=>
  simp only[hasId,List.mem_cons]
  by_cases h:a=j
  ·subst h;simp
  ·have:Nat.beq a j=false:=z0L h
   rw[this];simp only[cond_false,ih]
   exact⟨.inr,fun h'=>h'.resolve_left (fun e=>h e.symm)⟩
theorem z5z{st:Store}{l:List Nat}{id:Nat}{o:Ob}(h:only st l id=some o):st id=some o∧id∈l:=by
 unfold only at h
 cases hh:hasId l id with
 |true=>rw[hh] at h;exact⟨h,z0D.1 hh⟩
 |false=>rw[hh] at h;cases h
theorem y0q{st:Store}{l:List Nat}{id:Nat}(h:id∈l):only st l id=st id:=by
 unfold only;rw[z0D.2 h];rfl
theorem z0i(st:Store)(i:Nat)(o:Ob):upd st i o i=some o:=by simp[upd]
theorem z0h{st:Store}{i j:Nat}{o:Ob}(h:j≠i):upd st i o j=st j:=by
 have:Nat.beq j i=false:=z0L h
 simp[upd,this]
theorem VRel.ext{st st':Store}{m m':Place}{w:World}{ok ok':Nat→Prop}(hs:∀id o,st id=some o→st' id=some o∧m' id=m id)(hok:∀b,ok b→ok' b)
 {v:AVal} {u:Value} (h:VRel st m w ok v u):VRel st' m' w ok' v u:=by
 induction h with
 |t T u hT=>exact .t T u (hT.mono hok (fun _ _ _ _ h=>h))
 |xl k xs u hT hc=>exact .xl k xs u (hT.mono hok (fun _ _ _ _ h=>h)) hc
 |row id n k fz xs L h1 h2 h3=>exact .row id n k fz xs L (hs _ _ h1).1 h2 (by rw[(hs _ _ h1).2];exact h3)
 |ptr id off cs b h1 h2=>exact .ptr id off cs b (hs _ _ h1).1 (by rw[(hs _ _ h1).2];exact h2)
 |bsl id n cs b h1 h2=>exact .bsl id n cs b (hs _ _ h1).1 (by rw[(hs _ _ h1).2];exact h2)
 |bslG id n L h1=>exact .bslG id n L (hs _ _ h1).1
 |eptr id n i sub k fz xs b h1 h2 h3=>exact .eptr id n i sub k fz xs b (hs _ _ h1).1 h2 (by rw[(hs _ _ h1).2];exact h3)
 |mat id fz xs hh L h1 h2=>exact .mat id fz xs hh L (hs _ _ h1).1 (by rw[(hs _ _ h1).2];exact h2)
 |mptr id i fz xs hh b h1 h2=>exact .mptr id i fz xs hh b (hs _ _ h1).1 (by rw[(hs _ _ h1).2];exact h2)
 |cptr cs b o us h1 h2 h3 h4 h5=>exact .cptr cs b o us (hok _ h1) h2 h3 h4 (fun j T u a b=>(h5 j T u a b).mono hok (fun _ _ _ _ h=>h))
 |agg cs us h1 _ h3 ih=>exact .agg cs us h1 ih h3
 |fn f cap us h1 _ ih=>exact .fn f cap us h1 ih
 |tup vs us h1 _ ih=>exact .tup vs us h1 ih
 |cond c v u _ h0 ih=>exact .cond c v u ih h0
 |junk u=>exact .junk u
 |rowG id n L h1=>exact .rowG id n L (hs _ _ h1).1
 |eptrG id n i sub b o h1=>exact .eptrG id n i sub b o (hs _ _ h1).1
 |anyB b=>exact .anyB b
 |ifc t u=>exact .ifc t u
 |tail id n i k fz xs L h1 h2 h3 h4=>exact .tail id n i k fz xs L (hs _ _ h1).1 h2 h3 (by rw[(hs _ _ h1).2];exact h4)
 |tailG id n i k L h1=>exact .tailG id n i k L (hs _ _ h1).1
 |hdl id o b u h1 h2 h3=>exact .hdl id o b u (hs _ _ h1).1 (by rw[(hs _ _ h1).2];exact h2) h3
 |ptrG id off b h1=>exact .ptrG id off b (hs _ _ h1).1
 |yl id Y pre h1=>exact .yl id Y pre (hs _ _ h1).1
theorem YSpec.one(Y:YSpec):Y.fn.oneCell'=true:=by rcases Y.kind with⟨_,_,h⟩| ⟨_,h⟩<;>rw[h]<;>rfl
theorem z6u{o:Ob}{b:Nat}{u:Value}(h:z3p o b=some u):u.oneCell'=true:=by
 cases o<;>simp[z3p] at h<;>subst h<;>rfl
theorem VRel.one{st:Store}{m:Place}{w:World}{ok:Nat→Prop}{v:AVal}{u:Value}(h:VRel st m w ok v u)(hv:z0H v=true):u.oneCell'=true:=by
 cases h with
 |t T u hT=>exact hT.one hv
 |row=>rfl
 |ptr=>rfl
 |eptr=>rfl
 |mat=>rfl
 |mptr=>rfl
 |cptr=>rfl
 |fn=>rfl
 |agg=>simp[z0H] at hv
 |tup=>simp[z0H] at hv
 |cond=>simp[z0H] at hv
 |junk=>simp[z0H] at hv
 |rowG=>rfl
 |eptrG=>rfl
 |anyB=>rfl
 |ifc=>rfl
 |tail=>rfl
 |tailG=>rfl
 |hdl id o b u h1 h2 h3=>exact z6u h3
 |ptrG=>rfl
 |bsl=>rfl
 |bslG=>rfl
 |yl id Y pre h1=>exact Y.one
 |xl=>simp[z0H] at hv
theorem y2O{u:Value}(h:u.oneCell'=true):u.cells=#[u]:=by
 cases u<;>first|rfl| (simp[Value.oneCell'] at h)
theorem VRel.cellsOf{st:Store}{m:Place}{w:World}{ok:Nat→Prop}{v:AVal}{u:Value}(h:VRel st m w ok v u)(hc:(cellsV v).all z0H=true):
 ∃us:List Value,u.cells=us.toArray∧us.length=(cellsV v).length∧
  ∀(i:Nat) (v':AVal) (u':Value),(cellsV v)[i]? =some v'→us[i]? =some u'→VRel st m w ok v' u'∧u'.oneCell'=true:=by
 have single:∀(hcs:Ab.cellsV v=[v]),u.oneCell'=true→∃us:List Value,u.cells=us.toArray∧us.length=(Ab.cellsV v).length∧
  ∀(i:Nat) (v':AVal) (u':Value),(Ab.cellsV v)[i]? =some v'→us[i]? =some u'→VRel st m w ok v' u'∧u'.oneCell'=true:=by
  intro hcs h1
  refine⟨[u],y2O h1,by rw[hcs];rfl,fun i v' u' hv hu=> ?_⟩
  rw[hcs] at hv
  match i with
  |0=>simp at hv hu;subst hv;subst hu;exact⟨h,h1⟩
  |i+1=>simp at hu
 cases h with
 |t T u hT=>
  cases hT with
  |sc v h1=>exact single rfl h1
  |lst k xs A c us _ _ _ _ _ _ _=>exact single rfl rfl
  |agg cs us hl hcs h1=>
   refine⟨us,rfl,by simp[Ab.cellsV,hl],fun i v' u' hv hu=> ?_⟩
   simp only[Ab.cellsV,List.getElem?_map,Option.map_eq_some_iff] at hv
   obtain⟨T,hT,rfl⟩:=hv
   have:=h1 i T u' hT hu
   exact⟨.t T u' this,this.one (hcs T (List.mem_of_getElem? hT))⟩
 |agg cs us hl h1 h2=>exact⟨us,rfl,hl,fun i v' u' hv hu=>⟨h1 i v' u' hv hu,h2 u' (List.mem_of_getElem? hu)⟩⟩
 |row=>exact single rfl rfl
 |ptr=>exact single rfl rfl
 |eptr=>exact single rfl rfl
 |mat=>exact single rfl rfl
 |mptr=>exact single rfl rfl
 |cptr=>exact single rfl rfl
 |fn=>exact single rfl rfl
 |tup=>simp[Ab.cellsV,z0H] at hc
 |cond=>simp[Ab.cellsV,z0H] at hc
 |junk=>simp[Ab.cellsV,z0H] at hc
 |rowG=>exact single rfl rfl
 |eptrG=>exact single rfl rfl
 |anyB=>exact single rfl rfl
 |ifc=>exact single rfl rfl
 |tail=>exact single rfl rfl
 |tailG=>exact single rfl rfl
 |hdl id o b u h1 h2 h3=>exact single rfl (z6u h3)
 |ptrG=>exact single rfl rfl
 |bsl=>exact single rfl rfl
 |bslG=>exact single rfl rfl
 |yl id Y pre h1=>exact single rfl Y.one
 |xl=>simp[Ab.cellsV,z0H] at hc
theorem z1G{cs:List AVal}{Ts:List Tree}(h:allT cs=some Ts):cs=Ts.map .t:=by
 induction cs generalizing Ts with
 |nil=>simp[allT] at h;subst h;rfl
 |cons v l ih=>
  cases v<;>simp[allT] at h
  obtain⟨r,hr,rfl⟩:=h
  simp[ih hr]
theorem VRel.aggV{st:Store}{m:Place}{w:World}{ok:Nat→Prop}{cs:List AVal}{us:List Value}(hl:us.length=cs.length)
 (h:∀(i:Nat) (v:AVal) (u:Value),cs[i]? =some v→us[i]? =some u→VRel st m w ok v u∧u.oneCell'=true):VRel st m w ok (aggV cs) (.agg us.toArray):=by
 unfold Ab.aggV
 cases ha:allT cs with
 |none=>
  simp only
  refine .agg cs us hl (fun i v u a b=>(h i v u a b).1) (fun u hu=> ?_)
  obtain⟨i,hi,rfl⟩:=List.mem_iff_getElem.1 hu
  exact(h i _ _ (List.getElem?_eq_getElem (by omega)) (List.getElem?_eq_getElem hi)).2
 |some Ts=>
  have hcs:=z1G ha
  subst hcs
  simp only[List.length_map] at hl
  simp only
  have key:∀(i:Nat) (T:Tree) (u:Value),Ts[i]? =some T→us[i]? =some u→TRep w ok T u∧u.oneCell'=true:=by
   intro i T u hT hu
   have:=h i (.t T) u (by simp[hT]) hu
   obtain⟨h1,h2⟩:=this
   cases h1 with
   |t _ _ h1=>exact⟨h1,h2⟩
  refine .t _ _ (.agg Ts us hl (fun T hT=> ?_) (fun i T u a b=>(key i T u a b).1))
  obtain⟨i,hi,rfl⟩:=List.mem_iff_getElem.1 hT
  obtain⟨h1,h2⟩:=key i _ _ (List.getElem?_eq_getElem hi) (List.getElem?_eq_getElem (by omega))
  generalize Ts[i]=T at h1
  generalize us[i]=u at h1 h2
  cases h1 with
  |agg=>simp[Value.oneCell'] at h2
  |sc=>rfl
  |lst=>rfl
def fw{P:Program}(F:Fen P):Fence:={Fence.wide with round:=F.rnd}
def Up(P:Program)(F:Fen P)(S:Store)(m:Place)(w:World)(wr:List (Nat×Ob))(val:AVal)(o:Oper)(a:Act):Prop:=
 ∀(next:Act→World→Prop) (Q:Exit→Act→World→Prop),
  (∀v w' m',SRel F (app S wr) m' w'→FrameExt F S m w (app S wr) m' w'→VRel (app S wr) m' w' (okB F (app S wr) m' w') val v→next (a.put o.dst v) w')→
  o.uponIn (fw F) 0 P a next Q ((execOp a.eval o).run P w)
theorem Up.value{P:Program}{F:Fen P}{S:Store}{m m':Place}{w w':World}{wr:List (Nat×Ob)}{val:AVal}{o:Oper}{a:Act}{v:Value}
 (hr:(execOp a.eval o).run P w= .ok (.value v) w') (hS:SRel F (app S wr) m' w') (hF:FrameExt F S m w (app S wr) m' w') (hv:VRel (app S wr) m' w' (okB F (app S wr) m' w') val v):
 Up P F S m w wr val o a:=by
 intro next Q h
 rw[hr]
 exact h v w' m' hS hF hv
theorem Up.skip{P:Program}{F:Fen P}{S:Store}{m m':Place}{w w':World}{wr:List (Nat×Ob)}{o:Oper}{a:Act}
 (hr:(execOp a.eval o).run P w= .ok .skip w') (hS:SRel F (app S wr) m' w') (hF:FrameExt F S m w (app S wr) m' w'):
 Up P F S m w wr .junk o a:=by
 intro next Q h
 rw[hr]
 exact h undef w' m' hS hF (.junk _)
theorem Up.same{P:Program}{F:Fen P}{S:Store}{m:Place}{w:World}{val:AVal}{o:Oper}{a:Act}{v:Value}(hS:SRel F S m w)
 (hr:(execOp a.eval o).run P w= .ok (.value v) w) (hv:VRel S m w (okB F S m w) val v):Up P F S m w [] val o a:=
 Up.value hr hS (FrameExt.refl F S m w) hv
theorem RowAt.persist{F:Fen P}{S S':Store}{m m':Place}{w w':World}(hF:FrameExt F S m w S' m' w'){k:Nat}{xs:List Tree}{L:Option Nat×Nat}(h:RowAt w (okB F S m w) k xs L)
 (hb:∀b,L.1=some b→w'.heap[b]? =w.heap[b]?):RowAt w' (okB F S' m' w') k xs L:=by
 obtain⟨a1,a2,a3,a4,a5⟩:=h
 refine⟨a1,a2,a3,a4,a5.imp (fun h=>h) ?_⟩
 rintro⟨b,us,e,h1,h2,h3,h4,h5⟩
 exact⟨b,us,e,h1,(hb b h1).trans h2,h3,h4,fun j T u p q=>hF.tree (h5 j T u p q)⟩
theorem MRel.persist{F:Fen P}{S S':Store}{m m':Place}{w w':World}(hF:FrameExt F S m w S' m' w'){v:MV}{u:Value}{c:Option Nat}(h:MRel S m w (okB F S m w) v u c)
 (hb:∀b,c=some b→w'.heap[b]? =w.heap[b]?):MRel S' m' w' (okB F S' m' w') v u c:=by
 cases v with
 |im T=>exact⟨hF.tree h.1,h.2⟩
 |cp cs=>exact⟨hF.val h.1,h.2⟩
 |bx cs=>
  obtain⟨b,us,e,h1,h2,h3,h4,h5,h6⟩:=h
  exact⟨b,us,e,h1,h2,(hb b h1).trans h3,h4,h5,fun i T u p q=>hF.tree (h6 i T u p q)⟩
 |rw k xs=>
  obtain⟨L,h1,h2,h3⟩:=h
  exact⟨L,h1,h2,h3.persist hF (fun b e=>hb b (h2.symm.trans e))⟩
theorem HRel.persist{F:Fen P}{S S':Store}{m m':Place}{w w':World}(hF:FrameExt F S m w S' m' w'){h:Option (Int×AVal)}{k:Int}{v:MV}{u:Value}{c:Option Nat}(hr:HRel S m w (okB F S m w) h k v u c)
 (hb:∀b,c=some b→w'.heap[b]? =w.heap[b]?):HRel S' m' w' (okB F S' m' w') h k v u c:=by
 match h with
 |none=>exact MRel.persist hF hr hb
 |some (k',v')=>exact⟨fun e=>⟨hF.val (hr.1 e).1,(hr.1 e).2⟩,fun e=>(hr.2 e).persist hF hb⟩
theorem ORel.persist{F:Fen P}{S S':Store}{m m':Place}{w w':World}(hF:FrameExt F S m w S' m' w'){o:Ob}{L:Option Nat×Nat}{g:List Nat}(h:ORel S m w (okB F S m w) o L g)
 (hb:∀b,(L.1=some b∨b∈g)→w'.heap[b]? =w.heap[b]?):ORel S' m' w' (okB F S' m' w') o L g:=by
 cases o with
 |box cs=>
  obtain⟨b,us,e,h1,h2,h3,h4⟩:=h
  exact⟨b,us,e,h1,(hb b (.inl h1)).trans h2,h3,fun i v u p q=>⟨hF.val (h4 i v u p q).1,(h4 i v u p q).2⟩⟩
 |mat fz xs hh=>
  obtain⟨⟨b,us,e,h1,h2,h3,h4⟩,q⟩:=h
  exact⟨⟨b,us,e,h1,(hb b (.inl h1)).trans h2,h3,fun i v u p q=>⟨hF.val (h4 i v u p q).1,(h4 i v u p q).2⟩⟩,q⟩
 |row k fz xs=>exact RowAt.persist hF h (fun b e=>hb b (.inl e))
 |gone=>exact h
 |siter s pos=>
  obtain⟨b,h1,h2⟩:=h
  exact⟨b,h1,(hb b (.inl h1)).trans h2⟩
 |mp es hh=>
  obtain⟨b,ents,bl,h1,h2,h3,h4,h5,h6,h7⟩:=h
  refine⟨b,ents,bl,h1,(hb b (.inl h1)).trans h2,h3,h4,h5,h6,fun i x e p q=> ?_⟩
  obtain⟨q1,q2,q3⟩:=h7 i x e p q
  exact⟨q1,q2,q3.persist hF (fun b' e'=>hb b' (.inr (h5 i b' (List.getElem?_eq_some_iff.1 p).1 e').1))⟩
 |miter mid n seen=>
  obtain⟨b,bm,h1,h2,⟨es,hh,h3⟩,h4⟩:=h
  obtain⟨o',ho',_,hm',_,_,hsh⟩:=hF.keep mid _ h3
  cases o'<;>simp[Ob.same] at hsh
  exact⟨b,bm,h1,by rw[hm' rfl];exact h2,⟨_,_,ho'⟩,(hb b (.inl h1)).trans h4⟩
 |ext Y pre=>exact⟨h.1,Y.stab _ _ _ _ h.2.1 hF.size (fun b hg=>hb b (.inr hg)) (fun b hD=>hF.heap (h.2.2 b hD)),fun b hD=>hF.ok (h.2.2 b hD)⟩
theorem freeze{F:Fen P}{S:Store}{m:Place}{w:World}(hS:SRel F S m w){id k:Nat}{fz:Bool}{xs:List Tree}(hid:S id=some (.row k fz xs)):
 SRel F (upd S id (.row k true xs)) m w∧FrameExt F S m w (upd S id (.row k true xs)) m w:=by
 have hF:FrameExt F S m w (upd S id (.row k true xs)) m w:=by
  refine⟨rfl,rfl,rfl,Nat.le_refl _,fun _ _ _=>rfl,fun i o ho=> ?_,fun i o ho hn=> ?_⟩
  ·by_cases e:i=id
   ·subst e
    rw[hid] at ho
    cases ho
    exact⟨_,z0i _ _ _,Nat.le_refl _,fun _=>rfl,fun _=>rfl,fun _ q=> .inl q,by simp[Ob.same]⟩
   ·refine⟨o,by rw[z0h e];exact ho,Nat.le_refl _,fun _=>rfl,fun h=>h,fun _ q=> .inl q,o.same_refl⟩
  ·by_cases e:i=id
   ·subst e;rw[hid] at hn;cases hn
   ·rw[z0h e] at ho;rw[ho] at hn;cases hn
 have back:∀i oi,upd S id (.row k true xs) i=some oi→∃oi',S i=some oi':=by
  intro i oi h
  by_cases e:i=id
  ·subst e;exact⟨_,hid⟩
  ·rw[z0h e] at h;exact⟨_,h⟩
 refine⟨⟨fun i o ho=> ?_,fun i j oi oj b hi hj h1 h2=> ?_,fun i o b ho hb=> ?_,fun i o b ho hb=> ?_,hS.low,hS.hold⟩,hF⟩
 ·by_cases e:i=id
  ·subst e
   rw[z0i] at ho
   cases ho
   exact RowAt.persist hF (hS.objs _ _ hid) (fun _ _=>rfl)
  ·rw[z0h e] at ho
   exact(hS.objs _ _ ho).persist hF (fun _ _=>rfl)
 ·obtain⟨oi',hi'⟩:=back i oi hi
  obtain⟨oj',hj'⟩:=back j oj hj
  exact hS.inj i j _ _ b hi' hj' h1 h2
 ·obtain⟨o',ho'⟩:=back i o ho
  exact hS.avoid _ _ b ho' hb
 ·obtain⟨o',ho'⟩:=back i o ho
  exact hS.lt _ _ b ho' hb
theorem ORel.lt{S:Store}{m:Place}{w:World}{ok:Nat→Prop}{o:Ob}{L:Option Nat×Nat}{g:List Nat}(h:ORel S m w ok o L g){b:Nat}(hb:L.1=some b):b<w.heap.size:=by
 cases o with
 |box cs=>obtain⟨b',us,e,h1,h2,_⟩:=h;rw[h1] at hb;cases hb;exact(Array.getElem?_eq_some_iff.1 h2).1
 |mat fz xs hh=>obtain⟨⟨b',us,e,h1,h2,_⟩,_⟩:=h;rw[h1] at hb;cases hb;exact(Array.getElem?_eq_some_iff.1 h2).1
 |row k fz xs=>
  obtain⟨_,_,_,_,h5⟩:=h
  rcases h5 with⟨h1,_⟩| ⟨b',us,e,h1,h2,_⟩
  ·rw[h1] at hb;cases hb
  ·rw[h1] at hb;cases hb;exact(Array.getElem?_eq_some_iff.1 h2).1
 |gone=>rw[show L.1=none from h] at hb;cases hb
 |siter s pos=>obtain⟨b',h1,h2⟩:=h;rw[h1] at hb;cases hb;exact(Array.getElem?_eq_some_iff.1 h2).1
 |mp es hh=>obtain⟨b',ents,bl,h1,h2,_⟩:=h;rw[h1] at hb;cases hb;exact(Array.getElem?_eq_some_iff.1 h2).1
 |miter mid n seen=>obtain⟨b',bm,h1,_,_,h2⟩:=h;rw[h1] at hb;cases hb;exact(Array.getElem?_eq_some_iff.1 h2).1
 |ext Y pre=>rw[show L.1=none from h.1] at hb;cases hb
def place(m:Place)(id:Nat)(L:Option Nat×Nat):Place:=⟨fun j=>bif Nat.beq j id then L else m j,fun j=>bif Nat.beq j id then[] else m.g j⟩
theorem z0s(m:Place)(id:Nat)(L:Option Nat×Nat):place m id L id=L:=by simp[place]
theorem z0J{m:Place}{id j:Nat}{L:Option Nat×Nat}(h:j≠id):place m id L j=m j:=by
 have:Nat.beq j id=false:=z0L h
 simp[place,this]
theorem z1H(m:Place)(id:Nat)(L:Option Nat×Nat):(place m id L).g id=[]:=by simp[place]
theorem z1C{m:Place}{id j:Nat}{L:Option Nat×Nat}(h:j≠id):(place m id L).g j=m.g j:=by
 have:Nat.beq j id=false:=z0L h
 simp[place,this]
theorem z0r{m:Place}{id b:Nat}{L:Option Nat×Nat}:(place m id L).has id b↔L.1=some b:=by
 unfold Place.has;rw[z0s,z1H];simp
theorem z0o{m:Place}{id j b:Nat}{L:Option Nat×Nat}(h:j≠id):(place m id L).has j b↔m.has j b:=by
 unfold Place.has;rw[z0J h,z1C h]
theorem z4t{F:Fen P}{S:Store}{m:Place}{w w':World}{id:Nat}{o:Ob}{L:Option Nat×Nat}(hid:S id=none)
 (hos:w'.os=w.os) (htape:w'.tape=w.tape) (hout:w'.output=w.output) (hsz:w.heap.size≤w'.heap.size) (hb:∀b,b<w.heap.size→w'.heap[b]? =w.heap[b]?)
 (hL:∀b,L.1=some b→w.heap.size≤b):FrameExt F S m w (upd S id o) (place m id L) w':=by
 have hne:∀i oi,S i=some oi→i≠id:=fun i oi h e=>by subst e;rw[hid] at h;cases h
 refine⟨hos,htape,hout,hsz,fun b h _=>hb b h,fun i oi hi=> ?_,fun i oi hi hn b hbk=> ?_⟩
 ·refine⟨oi,by rw[z0h (hne i oi hi)];exact hi,Nat.le_refl _,fun _=>z0J (hne i oi hi),fun h=>h,fun b q=> .inl ((z0o (hne i oi hi)).1 q),oi.same_refl⟩
 ·by_cases e:i=id
  ·subst e;exact .inl (hL b (z0r.1 hbk))
  ·rw[z0h e] at hi;rw[hi] at hn;cases hn
theorem SRel.new{F:Fen P}{S:Store}{m:Place}{w w':World}(hS:SRel F S m w){id:Nat}{o:Ob}{L:Option Nat×Nat}(hid:S id=none)
 (hF:FrameExt F S m w (upd S id o) (place m id L) w') (hb:∀b,b<w.heap.size→w'.heap[b]? =w.heap[b]?) (hL:∀b,L.1=some b→w.heap.size≤b)
 (ho:ORel (upd S id o) (place m id L) w' (okB F (upd S id o) (place m id L) w') o L []):SRel F (upd S id o) (place m id L) w':=by
 have hlt':∀b,L.1=some b→b<w'.heap.size:=fun b hb=>ho.lt hb
 refine⟨fun i oi hi=> ?_,fun i j oi oj b hi hj h1 h2=> ?_,fun i oi b hi hm hFb=> ?_,fun i oi b hi hm=> ?_,fun b h=>Nat.lt_of_lt_of_le (hS.low b h) hF.size,hS.held hF⟩
 ·by_cases e:i=id
  ·subst e
   rw[z0i] at hi;cases hi
   rw[z0s,z1H];exact ho
  ·rw[z0h e] at hi
   rw[z0J e,z1C e]
   exact(hS.objs i oi hi).persist hF (fun b hm=>hb b (hS.lt i oi b hi hm))
 ·by_cases e:i=id
  ·by_cases e':j=id
   ·rw[e,e']
   ·subst e
    rw[z0r] at h1
    rw[z0o e'] at h2
    rw[z0h e'] at hj
    have:=hS.lt j oj b hj h2
    have:=hL b h1
    omega
  ·by_cases e':j=id
   ·subst e'
    rw[z0r] at h2
    rw[z0o e] at h1
    rw[z0h e] at hi
    have:=hS.lt i oi b hi h1
    have:=hL b h2
    omega
   ·rw[z0o e] at h1
    rw[z0o e'] at h2
    rw[z0h e] at hi
    rw[z0h e'] at hj
    exact hS.inj i j oi oj b hi hj h1 h2
 ·by_cases e:i=id
  ·subst e
   rw[z0r] at hm
   have:=hL b hm
   have:=hS.low b hFb
   omega
  ·rw[z0h e] at hi
   rw[z0o e] at hm
   exact hS.avoid i oi b hi hm hFb
 ·by_cases e:i=id
  ·subst e
   exact hlt' b (z0r.1 hm)
  ·rw[z0h e] at hi
   rw[z0o e] at hm
   exact Nat.lt_of_lt_of_le (hS.lt i oi b hi hm) hF.size
end Go.Ab
end
section
set_option linter.unusedVariables false
namespace Go.Ab
variable {P:Program} {w:World}
theorem z0l{t:TypeId}{z:Nat}(h:tsz P t=some z):(sizeOf t).run P w= .ok z w:=by
 unfold tsz at h
 cases hi:P.info? t with
 |none=>simp[hi] at h
 |some i=>simp[hi] at h;subst h;simp[sizeOf,typeInfo,hi]
theorem z1D{t:TypeId}{ag:Bool}(h:tagg P t=some ag):(isAgg t).run P w= .ok ag w:=by
 unfold tagg at h
 cases hu:P.underlying t with
 |none=>simp[hu] at h
 |some d=>
  rw[hu] at h
  cases d<;>simp at h<;>subst h<;>simp[isAgg,run_underlying hu]
theorem z0M{t:TypeId}{z:Value}(h:tzero P t=some z):(zeroValue t).run P w= .ok z w:=by
 unfold tzero at h
 cases hi:P.info? t with
 |none=>simp[hi] at h
 |some i=>simp[hi] at h;simp[zeroValue,typeInfo,hi,h]
theorem z0P(b o i:Nat):(⟨b,o,none⟩:Addr).add i=⟨b,o+i,none⟩:=by unfold Addr.add;split<;>simp_all
def z2S(ag:Bool)(us:List Value):Value:=if ag then .agg us.toArray else us.headD undef
theorem z2b{t:TypeId}{sz:Nat}{ag:Bool}(hsz:tsz P t=some sz)(hag:tagg P t=some ag)(b o:Nat)(us:List Value)(hl:us.length=sz)(h1:ag=false→sz=1)
 (hc:∀(j:Nat) (u:Value),us[j]? =some u→w.cell? ⟨b,o+j,none⟩=some u):(loadVar t ⟨b,o,none⟩).run P w= .ok (z2S ag us) w:=by
 cases ag with
 |true=>
  have h:=run_loadCells_list (P:=P) w ⟨b,o,none⟩ us (fun j v hv=>by rw[z0P];exact hc j v hv)
  rw[hl] at h
  simp[loadVar,z1D hag,z0l hsz,h,z2S]
 |false=>
  have:=h1 rfl
  match us,hl with
  | [u],hl=>
   have h0:=hc 0 u rfl
   simp only[Nat.add_zero] at h0
   simp[loadVar,z1D hag,h0,z2S]
  | [],hl=>simp at hl;omega
  |_::_::_,hl=>simp at hl;omega
theorem z1y{α:Type}{l r:List α}{off n:Nat}(h:part l off n=some r):r=(l.drop off).take n∧r.length=n:=by
 unfold part at h
 cases hh:Nat.beq ((l.drop off).take n).length n with
 |false=>simp only[hh,cond_false] at h;cases h
 |true=>
  simp only[hh,cond_true,Option.some.injEq] at h
  subst h
  exact⟨rfl,Nat.eq_of_beq_eq_true hh⟩
theorem z2F{α:Type}{l r:List α}{off n:Nat}(h:part l off n=some r){j:Nat}{x:α}(hj:r[j]? =some x):l[off+j]? =some x:=by
 obtain⟨h1,h2⟩:=z1y h
 subst h1
 rw[List.getElem?_take] at hj
 split at hj
 ·rw[List.getElem?_drop] at hj;exact hj
 ·cases hj
theorem z3O{α:Type}{l r:List α}{off n:Nat}(h:part l off n=some r):n=0∨off+n≤l.length:=by
 obtain⟨h1,h2⟩:=z1y h
 subst h1
 simp at h2
 omega
theorem z9t{st:Store}{m:Place}{ok:Nat→Prop}{ag:Bool}{cs:List AVal}{v:AVal}(h:mkV ag cs=some v){us:List Value}(hl:us.length=cs.length)
 (hr:∀(i:Nat) (v:AVal) (u:Value),cs[i]? =some v→us[i]? =some u→VRel st m w ok v u∧u.oneCell'=true):
 VRel st m w ok v (z2S ag us)∧(ag=false→cs.length=1):=by
 cases ag with
 |true=>
  simp only[mkV,Option.some.injEq] at h
  subst h
  exact⟨VRel.aggV hl hr,fun e=>by cases e⟩
 |false=>
  match cs,us,hl with
  | [a],[u],_=>
   simp only[mkV,Option.some.injEq] at h
   subst h
   exact⟨(hr 0 a u rfl rfl).1,fun _=>rfl⟩
  | [],_,_=>simp[mkV] at h
  |_::_::_,_,_=>simp[mkV] at h
theorem z7c{ok:Nat→Prop}{ag:Bool}{cs:List Tree}{T:Tree}(h:mkT ag cs=some T){us:List Value}(hl:us.length=cs.length)(hcell:∀T∈cs,T.isCell=true)
 (hr:∀(i:Nat) (T:Tree) (u:Value),cs[i]? =some T→us[i]? =some u→TRep w ok T u):
 TRep w ok T (z2S ag us)∧(ag=false→cs.length=1):=by
 cases ag with
 |true=>
  simp only[mkT,Option.some.injEq] at h
  subst h
  exact⟨.agg cs us hl hcell hr,fun e=>by cases e⟩
 |false=>
  match cs,us,hl with
  | [a],[u],_=>
   simp only[mkT,Option.some.injEq] at h
   subst h
   exact⟨hr 0 a u rfl rfl,fun _=>rfl⟩
  | [],_,_=>simp[mkT] at h
  |_::_::_,_,_=>simp[mkT] at h
theorem z1c{k:Nat}:∀{xs:List Tree},(∀x∈xs,Elt k x)→(flat xs).length=xs.length*k
 | [],_=>by simp[flat]
 |x::xs,h=>by
  have h1:=(h x (by simp)).1
  have ih:=z1c (xs:=xs) (fun y hy=>h y (by simp[hy]))
  simp[flat,h1,ih,Nat.add_mul,Nat.add_comm]
theorem z3a{k:Nat}:∀{xs:List Tree} {i:Nat} {X:Tree},(∀x∈xs,Elt k x)→xs[i]? =some X→∀{j:Nat},j<k→(flat xs)[i*k+j]? =X.cells[j]?
 | [],i,X,_,h,_,_=>by simp at h
 |x::xs,0,X,h,hX,j,hj=>by
  simp at hX;subst hX
  have h1:=(h x (by simp)).1
  simp only[flat,Nat.zero_mul,Nat.zero_add]
  rw[List.getElem?_append_left (by omega)]
 |x::xs,i+1,X,h,hX,j,hj=>by
  simp at hX
  have h1:=(h x (by simp)).1
  have ih:=z3a (xs:=xs) (fun y hy=>h y (by simp[hy])) hX hj
  simp only[flat]
  rw[List.getElem?_append_right (by rw[h1,Nat.add_mul];omega),h1,show(i+1)*k+j-k=i*k+j by rw[Nat.add_mul];omega]
  exact ih
theorem z5A{k:Nat}:∀{xs:List Tree},(∀x∈xs,Elt k x)→∀T∈flat xs,T.isCell=true
 | [],_,T,hT=>by simp[flat] at hT
 |x::xs,h,T,hT=>by
  simp only[flat,List.mem_append] at hT
  rcases hT with hT|hT
  ·exact(h x (by simp)).2 T hT
  ·exact z5A (fun y hy=>h y (by simp[hy])) T hT
theorem z5B(xs ys:List Tree):flat (xs++ys)=flat xs++flat ys:=by
 induction xs with
 |nil=>rfl
 |cons x xs ih=>simp[flat,ih]
theorem z5C{F:Fen P}{S st:Store}{m:Place}{t:TypeId}{av:AVal}{c:Orc}{δ:Dl}(h:loadK P t av st c=some δ)(hc:All δ.cnd)
 (hst:∀id o,st id=some o→S id=some o) (hS:SRel F S m w) {u:Value} (hv:VRel S m w (okB F S m w) av u):
 ∃v,(Instr.loadAt t u).run P w= .ok v w∧VRel S m w (okB F S m w) δ.val v∧δ.wr=[]:=by
 unfold loadK at h
 split at h
 ·rename_i sz ag id off hsz hag
  split at h
  ·rename_i cs hs
   simp only[Option.bind_eq_some_iff] at h
   obtain⟨v,⟨r,hr,hmk⟩,hp⟩:=h
   simp only[pure1,Option.some.injEq] at hp
   subst hp
   cases hv with
   |ptrG _ _ _ hs'=>rw[hst id _ hs] at hs';cases hs'
   |ptr _ _ cs' b hs' hm=>
    have:=hS.objs id _ (hst id _ hs)
    obtain⟨b',us,e,h1,h2,h3,h4⟩:=this
    rw[hm] at h1;cases h1
    obtain⟨hr1,hr2⟩:=z1y hr
    have hlen:((us.toList.drop off).take sz).length=r.length:=by rw[hr1];simp[h3]
    have hrel:∀(i:Nat) (v:AVal) (u:Value),r[i]? =some v→((us.toList.drop off).take sz)[i]? =some u→VRel S m w (okB F S m w) v u∧u.oneCell'=true:=by
     intro i v u hi hu
     have hi':=z2F hr hi
     rw[List.getElem?_take] at hu
     split at hu
     ·rw[List.getElem?_drop] at hu
      exact h4 _ v u hi' (by simpa using hu)
     ·cases hu
    obtain⟨hval,hone⟩:=z9t hmk hlen hrel
    refine⟨_,?_,hval,rfl⟩
    have:=z2b (P:=P) (w:=w) hsz hag b off ((us.toList.drop off).take sz) (by rw[hlen,hr2]) (fun e=>by rw[←hr2];exact hone e) (fun j u hu=>by
     rw[List.getElem?_take] at hu
     split at hu
     ·rw[List.getElem?_drop] at hu
      simp only[World.cell?,h2]
      simpa using hu
     ·cases hu)
    simpa[Instr.loadAt,Instr.sureAddr] using this
  ·cases h
 ·rename_i sz ag cs hsz hag
  simp only[Option.bind_eq_some_iff] at h
  obtain⟨T,⟨r,hr,hmk⟩,hp⟩:=h
  simp only[pure1,Option.some.injEq] at hp
  subst hp
  cases hv with
  |cptr _ b o us hb hl hcl hcell hT=>
   simp only[loadK.off0] at hr
   obtain⟨hr1,hr2⟩:=z1y hr
   have hlen:(us.take sz).length=r.length:=by rw[hr1];simp[hl]
   obtain⟨hval,hone⟩:=z7c (w:=w) (ok:=okB F S m w) hmk hlen (fun T hT=>hcl T (List.mem_of_mem_drop (List.mem_of_mem_take (hr1▸hT)))) (fun i T u hi hu=>by
    have hi':=z2F hr hi
    rw[Nat.zero_add] at hi'
    rw[List.getElem?_take] at hu
    split at hu
    ·exact hT i T u hi' hu
    ·cases hu)
   refine⟨_,?_,.t _ _ hval,rfl⟩
   have:=z2b (P:=P) (w:=w) hsz hag b o (us.take sz) (by rw[hlen,hr2]) (fun e=>by rw[←hr2];exact hone e) (fun j u hu=>by
    rw[List.getElem?_take] at hu
    split at hu
    ·exact hcell j u hu
    ·cases hu)
   simpa[Instr.loadAt,Instr.sureAddr] using this
 ·rename_i sz ag id n i sub hsz hag
  split at h
  ·rename_i k fz xs hs
   simp only[Option.bind_eq_some_iff] at h
   obtain⟨T,⟨r,hr,hmk⟩,hp⟩:=h
   simp only[pure1,Option.some.injEq] at hp
   subst hp
   simp only[All] at hc
   obtain⟨hn,hX,-⟩:=hc
   cases hv with
   |eptrG _ _ _ _ _ _ hs'=>rw[hst id _ hs] at hs';cases hs'
   |eptr _ _ _ _ k' fz' xs' b hs' hn' hu'=>
    have hs2:=hst id _ hs
    rw[hs2] at hs'
    cases hs'
    have hm:=hu' hn
    have:=hS.objs id _ hs2
    obtain⟨a1,a2,a3,a4,a5⟩:=this
    rcases a5 with⟨a5,_⟩| ⟨b',us,e,h1,h2,h3,h4,h5⟩
    ·rw[hm] at a5;cases a5
    ·rw[hm] at h1;cases h1
     generalize hXe:eltOf c xs i=X at hr hX
     have hEX:=a2 X (List.mem_of_getElem? hX)
     obtain⟨hr1,hr2⟩:=z1y hr
     have hil:i<xs.length:=(List.getElem?_eq_some_iff.1 hX).1
     have hbig:(i+1)*k≤us.size:=by rw[h3];exact Nat.mul_le_mul_right k (by omega)
     have hsub:sz=0∨sub+sz≤k:=by have:=z3O hr;rw[hEX.1] at this;exact this
     have hlen:((us.toList.drop (i*k+sub)).take sz).length=r.length:=by
      rw[hr2];simp
      rw[Nat.add_mul] at hbig
      omega
     obtain⟨hval,hone⟩:=z7c (w:=w) (ok:=okB F S m w) hmk hlen (fun T hT=>hEX.2 T (List.mem_of_mem_drop (List.mem_of_mem_take (hr1▸hT)))) (fun j T u hj hu=>by
      have hj':=z2F hr hj
      rw[List.getElem?_take] at hu
      split at hu
      ·rw[List.getElem?_drop] at hu
       have hlt:sub+j<k:=by rw[←hEX.1];exact(List.getElem?_eq_some_iff.1 hj').1
       have hf:=z3a a2 hX hlt
       rw[hj'] at hf
       exact h5 (i*k+(sub+j)) T u hf (by rw[←Nat.add_assoc];simpa using hu)
      ·cases hu)
     refine⟨_,?_,.t _ _ hval,rfl⟩
     have:=z2b (P:=P) (w:=w) hsz hag b (i*k+sub) ((us.toList.drop (i*k+sub)).take sz) (by rw[hlen,hr2]) (fun e=>by rw[←hr2];exact hone e) (fun j u hu=>by
      rw[List.getElem?_take] at hu
      split at hu
      ·rw[List.getElem?_drop] at hu
       simp only[World.cell?,h2]
       simpa using hu
      ·cases hu)
     simpa[Instr.loadAt,Instr.sureAddr] using this
  ·cases h
 ·rename_i sz id i hsz hag
  split at h
  ·rename_i fz xs hh hs
   cases h1:Nat.beq sz 1 with
   |false=>rw[h1] at h;cases h
   |true=>
   rw[h1,cond_true] at h
   have hsz1:=Nat.eq_of_beq_eq_true h1
   have hs2:=hst id _ hs
   have key:∀v,(matC xs hh)[i]? =some v→∃v',(Instr.loadAt t u).run P w= .ok v' w∧VRel S m w (okB F S m w) v v':=by
    intro v hv0
    cases hv with
    |mptr _ _ fz' xs' hh' b hs' hm=>
     rw[hs2] at hs';cases hs'
     obtain⟨⟨b',us,e,q1,q2,q3,q4⟩,_⟩:=hS.objs id _ hs2
     rw[hm] at q1;cases q1
     have hi:i<us.size:=by rw[q3];exact(List.getElem?_eq_some_iff.1 hv0).1
     have hu:us[i]? =some us[i]:=Array.getElem?_eq_getElem hi
     refine⟨us[i],?_,(q4 i v us[i] hv0 hu).1⟩
     have:=z2b (P:=P) (w:=w) hsz hag b i [us[i]] (by simp[hsz1]) (fun _=>hsz1) (fun j u hj=>by
      match j with
      |0=>
       simp at hj;subst hj
       simp only[World.cell?,q2]
       simp
      |j+1=>simp at hj)
     simpa[Instr.loadAt,Instr.sureAddr,z2S] using this
   split at h
   ·rename_i X _
    simp only[pure1,Option.some.injEq] at h
    subst h
    obtain⟨v',r1,r2⟩:=key _ hc.1
    exact⟨v',r1,r2,rfl⟩
   ·split at h
    ·rename_i j r n
     simp only[pure1,Option.some.injEq] at h
     subst h
     obtain⟨v',r1,r2⟩:=key (.row r n) (by
      obtain⟨e,hlt,-⟩:=hc
      subst e
      simp[matC,hlt])
     exact⟨v',r1,r2,rfl⟩
    ·cases h
  ·cases h
 ·cases h
end Go.Ab
end
section
set_option linter.unusedVariables false
namespace Go.Ab
variable {P:Program} {w:World}
theorem z0d{v:AVal}{c:List Prop}{δ:Dl}(h:pure1 v c=some δ):δ=⟨v,[],c⟩:=by
 simp only[pure1,Option.some.injEq] at h;exact h.symm
theorem z5D{s:TypeId}{i:Nat}{f:Field}(h:y0i P s i=some f):∃fs,P.underlying s=some (.struct fs)∧fs[i]? =some f:=by
 unfold y0i at h
 split at h
 ·rename_i fs hu;exact⟨fs,hu,h⟩
 ·cases h
section
variable {F:Fen P} {S st:Store} {m:Place}
theorem z43{s:TypeId}{av:AVal}{i:Nat}{δ:Dl}(h:z4q P s av i=some δ)(hS:SRel F S m w){u:Value}(hv:VRel S m w (okB F S m w) av u):
 ∃v,(Instr.fieldAt s u i).run P w= .ok v w∧VRel S m w (okB F S m w) δ.val v∧δ.wr=[]:=by
 unfold z4q at h
 simp only[Option.bind_eq_some_iff] at h
 obtain⟨f,hf,z,hz,h⟩:=h
 obtain⟨fs,hu,hfs⟩:=z5D hf
 cases hz0:Nat.beq z 0 with
 |true=>simp only[hz0,cond_true] at h;cases h
 |false=>
  simp only[hz0,cond_false] at h
  have hz1:z≠0:=fun e=>by subst e;simp at hz0
  have run:∀b o,(Instr.fieldAt s (.pointer (some ⟨b,o,none⟩)) i).run P w= .ok (.pointer (some ⟨b,o+f.offset,none⟩)) w:=by
   intro b o
   simp[Instr.fieldAt,run_underlying hu,hfs,Instr.sureAddr,fieldPlace,z0l hz,hz1,z0P]
  split at h
  ·rename_i id off
   have:=z0d h;subst this
   cases hv with
   |ptr _ _ cs b hs hm=>exact⟨_,run b off,.ptr id _ cs b hs hm,rfl⟩
   |ptrG _ _ b hs=>exact⟨_,run b off,.ptrG id _ b hs,rfl⟩
  ·rename_i id n j sub
   have:=z0d h;subst this
   cases hv with
   |eptr _ _ _ _ k fz xs b hs hn hu'=>
    exact⟨_,run b _,by rw[Nat.add_assoc];exact .eptr id n j _ k fz xs b hs hn hu',rfl⟩
   |eptrG _ _ _ _ b o hs=>exact⟨_,run b o,.eptrG id n j _ b _ hs,rfl⟩
  ·rename_i cs
   cases hb:Nat.ble f.offset cs.length with
   |false=>simp only[hb,cond_false] at h;cases h
   |true=>
    simp only[hb,cond_true] at h
    have hle:f.offset≤cs.length:=Nat.le_of_ble_eq_true hb
    have:=z0d h;subst this
    cases hv with
    |cptr _ b o us hb hl hc hcell hT=>
     refine⟨_,run b o,.cptr _ b _ (us.drop f.offset) hb (by simp[hl]) (fun T hT=>hc T (List.mem_of_mem_drop hT)) (fun j u hu=> ?_) (fun j T u h1 h2=> ?_),rfl⟩
     ·rw[List.getElem?_drop] at hu
      rw[Nat.add_assoc]
      exact hcell _ u hu
     ·rw[List.getElem?_drop] at h1 h2
      exact hT _ T u h1 h2
  ·cases h
theorem VRel.sc_inv{ok:Nat→Prop}{v u:Value}(h:VRel S m w ok (.t (.sc v)) u):u=v:=by
 cases h with
 |t _ _ h=>cases h;rfl
theorem z8a{s:TypeId}{av:AVal}{i:Nat}{δ:Dl}(h:y2F P s av i=some δ){u:Value}(hv:VRel S m w (okB F S m w) av u):
 ∃v,(Instr.field s u i).run P w= .ok v w∧VRel S m w (okB F S m w) δ.val v∧δ.wr=[]:=by
 unfold y2F at h
 simp only[Option.bind_eq_some_iff] at h
 obtain⟨f,hf,z,hz,ag,hag,h⟩:=h
 obtain⟨fs,hu,hfs⟩:=z5D hf
 have run:∀us:List Value,(ag=false→z=1)→f.offset+z≤us.length∨z=0→(Instr.field s (.agg us.toArray) i).run P w= .ok (z2S ag ((us.drop f.offset).take z)) w:=by
  intro us h1 hle
  cases ag with
  |true=>
   simp[Instr.field,run_underlying hu,hfs,asAgg,Go.part,z1D hag,z0l hz,z2S]
  |false=>
   have hz1:=h1 rfl
   subst hz1
   have hlt:f.offset<us.length:=by omega
   simp[Instr.field,run_underlying hu,hfs,asAgg,Go.part,z1D hag,z2S,hlt]
   rw[List.drop_eq_getElem_cons hlt]
   rfl
 split at h
 ·rename_i cs
  simp only[Option.bind_eq_some_iff] at h
  obtain⟨v,⟨r,hr,hmk⟩,hp⟩:=h
  have:=z0d hp;subst this
  cases hv with
  |agg _ us hl hc h1=>
   obtain⟨hr1,hr2⟩:=z1y hr
   have hlen:((us.drop f.offset).take z).length=r.length:=by rw[hr1];simp[hl]
   obtain⟨hval,hone⟩:=z9t hmk hlen (fun j v u hj hu=>by
    have hj':=z2F hr hj
    rw[List.getElem?_take] at hu
    split at hu
    ·rw[List.getElem?_drop] at hu
     exact⟨hc _ v u hj' hu,h1 u (List.mem_of_getElem? hu)⟩
    ·cases hu)
   exact⟨_,run us (fun e=>by rw[←hr2];exact hone e) (by have:=z3O hr;rw[hl];omega),hval,rfl⟩
 ·rename_i cs
  simp only[Option.bind_eq_some_iff] at h
  obtain⟨v,⟨r,hr,hmk⟩,hp⟩:=h
  have:=z0d hp;subst this
  cases hv with
  |t _ _ hT=>
   cases hT with
   |agg _ us hl hc h1=>
    obtain⟨hr1,hr2⟩:=z1y hr
    have hlen:((us.drop f.offset).take z).length=r.length:=by rw[hr1];simp[hl]
    obtain⟨hval,hone⟩:=z7c (w:=w) (ok:=okB F S m w) hmk hlen (fun T hT=>hc T (List.mem_of_mem_drop (List.mem_of_mem_take (hr1▸hT)))) (fun j v u hj hu=>by
     have hj':=z2F hr hj
     rw[List.getElem?_take] at hu
     split at hu
     ·rw[List.getElem?_drop] at hu
      exact h1 _ v u hj' hu
     ·cases hu)
    exact⟨_,run us (fun e=>by rw[←hr2];exact hone e) (by have:=z3O hr;rw[hl];omega),.t _ _ hval,rfl⟩
 ·cases h
theorem z2Z{e:TypeId}{k:Nat}(h:szIs P e k=true):tsz P e=some k:=by
 unfold szIs at h
 split at h
 ·rename_i z hz;rw[hz,Nat.eq_of_beq_eq_true h]
 ·cases h
theorem z0k{α:Type}{b:Bool}{x:Option α}{r:α}(h:(bif b then x else none)=some r):b=true∧x=some r:=by
 cases b with
 |true=>exact⟨rfl,h⟩
 |false=>cases h
theorem z44{t:TypeId}{x i:AVal}{c:Orc}{δ:Dl}(h:z4r P t x i st c=some δ)(hc:All δ.cnd)(hst:∀id o,st id=some o→S id=some o)(hS:SRel F S m w)
 {ux ui:Value} (hx:VRel S m w (okB F S m w) x ux) (hi:VRel S m w (okB F S m w) i ui):
 ∃v,(Instr.indexAt t ux ui).run P w= .ok v w∧VRel S m w (okB F S m w) δ.val v∧δ.wr=[]:=by
 unfold z4r at h
 split at h
 ·rename_i e k xs ik j hu
  have hui:=VRel.sc_inv hi
  subst hui
  simp only at h
  obtain⟨hz,h⟩:=z0k h
  have hz:=z2Z hz
  have:=z0d h;subst this
  simp only[All] at hc
  obtain⟨hj,hX,-⟩:=hc
  generalize eltOf c xs j.toNat=X at hX
  cases hx with
  |t _ _ hT=>
   cases hT with
   |lst _ _ A cap us hk hxx hn hm hA hl hrep=>
    have hlt:j.toNat<xs.length:=(List.getElem?_eq_some_iff.1 hX).1
    obtain⟨b,o,rfl,hb,hcell⟩:=hA (fun e=>by subst e;simp at hlt)
    have hE:=hxx X (List.mem_of_getElem? hX)
    have hbig:(j.toNat+1)*k≤us.length:=by rw[hl];exact Nat.mul_le_mul_right k (by omega)
    rw[Nat.add_mul] at hbig
    refine⟨.pointer (some ⟨b,o+j.toNat*k,none⟩),?_,?_,rfl⟩
    ·have h2:j< (xs.length:Int):=by omega
     simp[Instr.indexAt,asIntOf,run_underlying hu,z0l hz,hj,h2,z0P]
    ·refine .cptr _ b _ ((us.drop (j.toNat*k)).take k) hb (by rw[hE.1];simp;omega) hE.2 (fun q u hq=> ?_) (fun q T u h1 h2=> ?_)
     ·rw[List.getElem?_take] at hq
      split at hq
      ·rw[List.getElem?_drop] at hq
       rw[Nat.add_assoc]
       exact hcell _ u hq
      ·cases hq
     ·rw[List.getElem?_take] at h2
      split at h2
      ·rename_i hqk
       rw[List.getElem?_drop] at h2
       exact hrep _ T u ((z3a hxx hX hqk).trans h1) h2
      ·cases h2
 ·rename_i e id n ik j hu
  have hui:=VRel.sc_inv hi
  subst hui
  split at h
  rotate_left
  ·cases h
  rename_i k fz xs hs
  obtain⟨hz,h⟩:=z0k h
  have hz:=z2Z hz
  have:=z0d h;subst this
  simp only[All] at hc
  obtain⟨hn,hj,hjn,-⟩:=hc
  cases hx with
  |rowG _ _ L hs'=>rw[hst id _ hs] at hs';cases hs'
  |row _ _ k' fz' xs' L hs' hn' hu'=>
   have hs2:=hst id _ hs
   rw[hs2] at hs'
   cases hs'
   have hL:=hu' hn
   have:=hS.objs id _ hs2
   obtain⟨a1,a2,a3,a4,a5⟩:=this
   rcases a5 with⟨a5,a6⟩| ⟨b,us,e,h1,h2,h3,h4,h5⟩
   ·rw[a6] at a3;omega
   ·subst hL
    refine⟨.pointer (some ⟨b,j.toNat*k+0,none⟩),?_,.eptr id n _ 0 k fz xs b hs2 hn' (fun _=>h1),rfl⟩
    simp[Instr.indexAt,asIntOf,run_underlying hu,z0l hz,hj,hjn,z0B,h1,z0P]
 ·rename_i e id ik j hu
  have hui:=VRel.sc_inv hi
  subst hui
  split at h
  rotate_left
  ·cases h
  rename_i fz xs hh hs
  obtain⟨hz,h⟩:=z0k h
  have hz:=z2Z hz
  have:=z0d h;subst this
  simp only[All] at hc
  obtain⟨hj,hjn,-⟩:=hc
  cases hx with
  |mat _ fz' xs' hh' L hs' hm=>
   have hs2:=hst id _ hs
   rw[hs2] at hs'
   cases hs'
   obtain⟨⟨b,us,e,q1,q2,q3,q4⟩,_⟩:=hS.objs id _ hs2
   rw[hm] at q1
   refine⟨.pointer (some ⟨b,j.toNat,none⟩),?_,.mptr id _ fz xs hh b hs2 (by rw[hm];exact q1),rfl⟩
   simp[Instr.indexAt,asIntOf,run_underlying hu,z0l hz,hj,hjn,z0B,q1,z0P]
 ·rename_i len e id off ik j hu
  have hui:=VRel.sc_inv hi
  subst hui
  simp only[Option.bind_eq_some_iff] at h
  obtain⟨z,hz,h⟩:=h
  have:=z0d h;subst this
  simp only[All] at hc
  obtain⟨hj,hjn,-⟩:=hc
  cases hx with
  |ptrG _ _ b hs=>
   refine⟨.pointer (some ⟨b,off+j.toNat*z,none⟩),?_,.ptrG id _ b hs,rfl⟩
   simp[Instr.indexAt,asIntOf,run_underlying hu,z0l hz,hj,hjn,Instr.sureAddr,z0P]
  |ptr _ _ cs b hs hm=>
   refine⟨.pointer (some ⟨b,off+j.toNat*z,none⟩),?_,.ptr id _ cs b hs hm,rfl⟩
   simp[Instr.indexAt,asIntOf,run_underlying hu,z0l hz,hj,hjn,Instr.sureAddr,z0P]
 ·rename_i e id n ik j hu
  have hui:=VRel.sc_inv hi
  subst hui
  split at h
  rotate_left
  ·cases h
  rename_i cs hs
  simp only[Option.bind_eq_some_iff] at h
  obtain⟨z,hz,h⟩:=h
  have:=z0d h;subst this
  simp only[All] at hc
  obtain⟨hj,hjn,-⟩:=hc
  have hs2:=hst id _ hs
  cases hx with
  |bslG _ _ L hs'=>rw[hs2] at hs';cases hs'
  |bsl _ _ cs' b hs' hm=>
   refine⟨.pointer (some ⟨b,j.toNat*z,none⟩),?_,.ptr id _ cs' b hs' (by rw[hm]),rfl⟩
   simp[Instr.indexAt,asIntOf,run_underlying hu,z0l hz,hj,hjn,z0B,z0P]
 ·cases h
theorem z8b{t:TypeId}{x i:AVal}{δ:Dl}(h:y2G P t x i=some δ)(hc:All δ.cnd)
 {ux ui:Value} (hx:VRel S m w (okB F S m w) x ux) (hi:VRel S m w (okB F S m w) i ui):
 ∃v,(Instr.index t ux ui).run P w= .ok v w∧VRel S m w (okB F S m w) δ.val v∧δ.wr=[]:=by
 unfold y2G at h
 split at h
 ·rename_i s ik j hu
  have:=z0d h;subst this
  have:=VRel.sc_inv hx;subst this
  have:=VRel.sc_inv hi;subst this
  simp only[All] at hc
  obtain⟨hj,hjn,-⟩:=hc
  have hlt:j.toNat<s.size:=by omega
  refine⟨_,?_,.t _ _ (.sc _ rfl),rfl⟩
  simp[Instr.index,asIntOf,run_underlying hu,hj,hlt]
 ·rename_i len e ik j hu
  simp only[Option.bind_eq_some_iff] at h
  obtain⟨z,hz,ag,hag,h⟩:=h
  have:=VRel.sc_inv hi;subst this
  have run:∀us:List Value,0≤j→j< (len:Int)→(ag=false→z=1)→j.toNat*z+z≤us.length∨z=0→(Instr.index t (.agg us.toArray) (.int ik j)).run P w= .ok (z2S ag ((us.drop (j.toNat*z)).take z)) w:=by
   intro us hj hjn h1 hle
   cases ag with
   |true=>
    simp[Instr.index,asIntOf,run_underlying hu,hj,hjn,Go.part,z1D hag,z0l hz,z2S]
   |false=>
    have hz1:=h1 rfl
    subst hz1
    have hlt:j.toNat<us.length:=by omega
    simp[Instr.index,asIntOf,run_underlying hu,hj,hjn,Go.part,z1D hag,z0l hz,z2S,hlt]
    rw[List.drop_eq_getElem_cons hlt]
    rfl
  split at h
  ·rename_i cs
   simp only[Option.bind_eq_some_iff] at h
   obtain⟨v,⟨r,hr,hmk⟩,hp⟩:=h
   have:=z0d hp;subst this
   simp only[All] at hc
   obtain⟨hj,hjn,-⟩:=hc
   cases hx with
   |agg _ us hl hcc h1=>
    obtain⟨hr1,hr2⟩:=z1y hr
    have hlen:((us.drop (j.toNat*z)).take z).length=r.length:=by rw[hr1];simp[hl]
    obtain⟨hval,hone⟩:=z9t hmk hlen (fun k v u hj hu=>by
     have hj':=z2F hr hj
     rw[List.getElem?_take] at hu
     split at hu
     ·rw[List.getElem?_drop] at hu
      exact⟨hcc _ v u hj' hu,h1 u (List.mem_of_getElem? hu)⟩
     ·cases hu)
    exact⟨_,run us hj hjn (fun e=>by rw[←hr2];exact hone e) (by have:=z3O hr;rw[hl];omega),hval,rfl⟩
  ·rename_i cs
   simp only[Option.bind_eq_some_iff] at h
   obtain⟨v,⟨r,hr,hmk⟩,hp⟩:=h
   have:=z0d hp;subst this
   simp only[All] at hc
   obtain⟨hj,hjn,-⟩:=hc
   cases hx with
   |t _ _ hT=>
    cases hT with
    |agg _ us hl hcc h1=>
     obtain⟨hr1,hr2⟩:=z1y hr
     have hlen:((us.drop (j.toNat*z)).take z).length=r.length:=by rw[hr1];simp[hl]
     obtain⟨hval,hone⟩:=z7c (w:=w) (ok:=okB F S m w) hmk hlen (fun T hT=>hcc T (List.mem_of_mem_drop (List.mem_of_mem_take (hr1▸hT)))) (fun k v u hj hu=>by
      have hj':=z2F hr hj
      rw[List.getElem?_take] at hu
      split at hu
      ·rw[List.getElem?_drop] at hu
       exact h1 _ v u hj' hu
      ·cases hu)
     exact⟨_,run us hj hjn (fun e=>by rw[←hr2];exact hone e) (by have:=z3O hr;rw[hl];omega),.t _ _ hval,rfl⟩
  ·cases h
 ·cases h
theorem y2P{op:UnOp}{x:AVal}{δ:Dl}(h:unK op x=some δ){ux:Value}(hx:VRel S m w (okB F S m w) x ux):
 ∃v,(Op.unary op ux).run P w= .ok v w∧VRel S m w (okB F S m w) δ.val v∧δ.wr=[]:=by
 unfold unK at h
 split at h
 ·have:=z0d h;subst this
  have:=VRel.sc_inv hx;subst this
  exact⟨_,by simp[Op.unary],.t _ _ (.sc _ rfl),rfl⟩
 ·have:=z0d h;subst this
  have:=VRel.sc_inv hx;subst this
  exact⟨_,by simp[Op.unary,Op.intArith],.t _ _ (.sc _ rfl),rfl⟩
 ·cases h
theorem z6v:∀(l:List UInt8),flat (l.map fun b=>Tree.sc (.int .u8 b.toNat))=l.map fun b=>Tree.sc (.int .u8 b.toNat)
 | []=>rfl
 |b::l=>by rw[List.map_cons,flat,z6v l];rfl
theorem z9u{src dst e:TypeId}{id n:Nat}{c:Orc}{δ:Dl}(hs:P.underlying src=some (.slice e))(hd:P.underlying dst=some .string)(he:P.underlying e=some (.int .u8))
 (h:convB n (st id) c=some δ) (hc:All δ.cnd) (hst:∀id o,st id=some o→S id=some o) (hS:SRel F S m w) {ux:Value} (hx:VRel S m w (okB F S m w) (.row id n) ux):
 ∃v,(convert src dst ux).run P w= .ok v w∧VRel S m w (okB F S m w) δ.val v∧δ.wr=[]:=by
 unfold convB at h
 split at h
 rotate_left
 ·cases h
 rename_i fz xs s ho hel
 simp only[Option.some.injEq] at h
 subst h
 obtain⟨hn,hxs,-⟩:=hc
 subst hxs
 have hs2:=hst id _ ho
 cases hx with
 |rowG _ _ L hs'=>rw[hs2] at hs';cases hs'
 |row _ _ k' fz' xs' L hs' hn' hu'=>
  rw[hs2] at hs'
  simp only[Option.some.injEq,Ob.row.injEq] at hs'
  obtain⟨rfl,rfl,rfl⟩:=hs'
  have hL:=hu' hn
  subst hL
  obtain⟨_,_,h3,h4,h5⟩:=hS.objs id _ hs2
  have hlen:(z5w s).length=s.data.toList.length:=by unfold z5w;rw[List.length_map]
  refine⟨.string s,?_,.t _ _ (.sc _ rfl),rfl⟩
  rcases h5 with⟨h6,h7⟩| ⟨b,us,t,h6,h7,h8,h9,h10⟩
  ·have h0:n=0:=by omega
   have hl0:s.data.toList.length=0:=by omega
   have hse:s=ByteArray.empty:=by
    cases s with
    |mk a=>
     have:a.toList=[]:=List.length_eq_zero_iff.1 hl0
     have:a=#[]:=by simpa using this
     subst this;rfl
   subst h0
   unfold z0B
   rw[h6,h7,hse]
   simp[convert,run_underlying hs,run_underlying hd,run_underlying he,Conv.bytesToString,Sem.run_pure]
  ·unfold z0B
   rw[h6]
   have key:=run_convert_bytes_back (P:=P) w src dst e ⟨b,0,none⟩ (m id).2 s.data.toList hs he hd (fun j hj=>by
    rw[z0P,Nat.zero_add]
    have hju:j<us.size:=by omega
    have hT:(flat (z5w s))[j]? =some (.sc (.int .u8 s.data.toList[j].toNat)):=by
     unfold z5w;rw[z6v,List.getElem?_map,List.getElem?_eq_getElem hj];rfl
    have hr:=h10 j _ us[j] hT (Array.getElem?_eq_getElem hju)
    have hcell:w.cell? ⟨b,j,none⟩=some us[j]:=by unfold World.cell?;simp[h7,hju]
    rw[hcell]
    generalize us[j]=u at hr
    cases hr;rfl)
   have e1:(⟨s.data.toList.toArray⟩:ByteArray)=s:=by cases s;simp
   rw[e1] at key
   rw[hn,hlen]
   exact key
theorem z9v{src dst:TypeId}{x:AVal}{c:Orc}{δ:Dl}(h:convK P src dst x st c=some δ)(hc:All δ.cnd)(hst:∀id o,st id=some o→S id=some o)(hS:SRel F S m w){ux:Value}(hx:VRel S m w (okB F S m w) x ux):
 ∃v,(convert src dst ux).run P w= .ok v w∧VRel S m w (okB F S m w) δ.val v∧δ.wr=[]:=by
 unfold convK at h
 split at h
 ·rename_i d k ik n hs hd
  have:=z0d h;subst this
  have:=VRel.sc_inv hx;subst this
  exact⟨_,by simp[convert,run_underlying hs,run_underlying hd,Conv.intToInt],.t _ _ (.sc _ rfl),rfl⟩
 ·rename_i s hs hd
  have:=z0d h;subst this
  have:=VRel.sc_inv hx;subst this
  exact⟨_,by simp[convert,run_underlying hs,run_underlying hd],.t _ _ (.sc _ rfl),rfl⟩
 ·rename_i e id n hs hd
  split at h
  ·rename_i he
   exact z9u hs hd he h hc hst hS hx
  ·cases h
 ·cases h
theorem y1X{t ty:TypeId}{x:AVal}{δ:Dl}(h:lenK P t x st=some δ){ux:Value}(hx:VRel S m w (okB F S m w) x ux):
 ∃v,(Builtin.len_ #[t] ty #[ux]).run P w= .ok v w∧VRel S m w (okB F S m w) δ.val v∧δ.wr=[]:=by
 unfold lenK at h
 split at h
 ·rename_i s hu
  have:=z0d h;subst this
  have:=VRel.sc_inv hx;subst this
  exact⟨_,by simp[Builtin.len_,run_underlying hu,goInt],.t _ _ (.sc _ rfl),rfl⟩
 ·rename_i e k xs hu
  have:=z0d h;subst this
  cases hx with
  |t _ _ hT=>
   cases hT with
   |lst _ _ A cap us hk hxx hn hm hA hl hrep=>
    exact⟨_,by simp[Builtin.len_,run_underlying hu,goInt],.t _ _ (.sc _ rfl),rfl⟩
 ·rename_i e A n c hu
  have:=z0d h;subst this
  have:=VRel.sc_inv hx;subst this
  exact⟨_,by simp[Builtin.len_,run_underlying hu,goInt],.t _ _ (.sc _ rfl),rfl⟩
 ·rename_i e id n hu
  have:=z0d h;subst this
  cases hx with
  |rowG _ _ L hs'=>exact⟨_,by simp[Builtin.len_,run_underlying hu,goInt,z0B],.t _ _ (.sc _ rfl),rfl⟩
  |row _ _ k' fz' xs' L hs' hn' hu'=>
   exact⟨_,by simp[Builtin.len_,run_underlying hu,goInt,z0B],.t _ _ (.sc _ rfl),rfl⟩
 ·rename_i e id n hu
  have:=z0d h;subst this
  cases hx with
  |bslG _ _ L hs'=>exact⟨_,by simp[Builtin.len_,run_underlying hu,goInt,z0B],.t _ _ (.sc _ rfl),rfl⟩
  |bsl _ _ cs b hs' hm=>exact⟨_,by simp[Builtin.len_,run_underlying hu,goInt,z0B],.t _ _ (.sc _ rfl),rfl⟩
 ·rename_i n e hu
  have:=z0d h;subst this
  exact⟨_,by simp[Builtin.len_,run_underlying hu,goInt],.t _ _ (.sc _ rfl),rfl⟩
 ·cases h
theorem y2Q{d:Option TypeDesc}{a b:Tree}{r:Bool}(h:eqC d a b=some r):
 (∃k k' x y,d=some (.int k')∧a= .sc (.int k x)∧b= .sc (.int k y)∧r=(x==y))∨
 (∃x y,d=some .string∧a= .sc (.string x)∧b= .sc (.string y)∧r=(x.toList==y.toList))∨
 (∃x y,d=some .bool∧a= .sc (.bool x)∧b= .sc (.bool y)∧r=(x==y)):=by
 unfold eqC at h
 split at h
 ·split at h
  ·split at h
   ·rename_i e;subst e;simp only[Option.some.injEq] at h;exact .inl ⟨_,_,_,_,rfl,rfl,rfl,h.symm⟩
   ·cases h
  ·cases h
 ·split at h
  ·simp only[Option.some.injEq] at h;exact .inr (.inl ⟨_,_,rfl,rfl,rfl,h.symm⟩)
  ·cases h
 ·split at h
  ·simp only[Option.some.injEq] at h;exact .inr (.inr ⟨_,_,rfl,rfl,rfl,h.symm⟩)
  ·cases h
 ·cases h
theorem z4I(d:Nat)(xs ys:Array Value):∀(fs:List Field) (i:Nat) (a b:List Tree) (r:Bool),eqL P i fs a b=some r→
 (∀(j:Nat) (v:Value),a[j]? =some (.sc v)→xs[i+j]? =some v)→(∀(j:Nat) (v:Value),b[j]? =some (.sc v)→ys[i+j]? =some v)→
 (Op.eqFields (d+1) xs ys fs).run P w= .ok r w
 | [],i,[],[],r,h,_,_=>by simp[eqL] at h;subst h;simp[Op.eqFields]
 | [],i,_::_,_,r,h,_,_=>by simp[eqL] at h
 | [],i,[],_::_,r,h,_,_=>by simp[eqL] at h
 |f::fs,i,[],_,r,h,_,_=>by simp[eqL] at h
 |f::fs,i,_::_,[],r,h,_,_=>by simp[eqL] at h
 |f::fs,i,a::l,b::l',r,h,hx,hy=>by
  simp only[eqL] at h
  obtain⟨hc,h⟩:=z0k h
  simp only[Bool.and_eq_true,bne_iff_ne,ne_eq] at hc
  have ho:=Nat.eq_of_beq_eq_true hc.1
  split at h
  rotate_left
  ·cases h
  rename_i x y hxy hr
  simp only[Option.some.injEq] at h
  have ih:=z4I d xs ys fs (i+1) l l' y hr (fun j v hj=>by rw[show i+1+j=i+(j+1) by omega];exact hx (j+1) v hj) (fun j v hj=>by rw[show i+1+j=i+(j+1) by omega];exact hy (j+1) v hj)
  have key:∀va vb,a= .sc va→b= .sc vb→(tagg P f.type=some false)→(Op.equalIn (d+1) f.type va vb).run P w= .ok x w→(Op.eqFields (d+1) xs ys (f::fs)).run P w= .ok r w:=by
   intro va vb ha hb ht he
   have h1:=hx 0 va (by simp[ha])
   have h2:=hy 0 vb (by simp[hb])
   simp only[Nat.add_zero] at h1 h2
   simp only[Op.eqFields,hc.2,ne_eq,not_false_eq_true,if_true,Sem.run_bind,Go.part,z1D ht,Result.andThen_ok,Bool.false_eq_true,if_false,ho,h1,h2,Sem.run_pure,he,Sem.run_ite]
   rw[←h]
   cases x
   ·simp
   ·simp[ih]
  rcases y2Q hxy with⟨k,k',p,q,hd,ha,hb,rfl⟩| ⟨p,q,hd,ha,hb,rfl⟩| ⟨p,q,hd,ha,hb,rfl⟩
  ·exact key _ _ ha hb (by simp[tagg,hd]) (run_equalIn_int w d f.type k k' p q hd)
  ·exact key _ _ ha hb (by simp[tagg,hd]) (run_equalIn_string w d f.type p q hd)
  ·exact key _ _ ha hb (by simp[tagg,hd]) (run_equalIn_bool' w d f.type p q hd)
theorem z4J{t:TypeId}{a b:List Tree}{r:Bool}(h:z47 P t a b=some r){us vs:List Value}
 (hx:∀(j:Nat) (v:Value),a[j]? =some (.sc v)→us[j]? =some v) (hy:∀(j:Nat) (v:Value),b[j]? =some (.sc v)→vs[j]? =some v):
 (Op.equalIn 10000 t (.agg us.toArray) (.agg vs.toArray)).run P w= .ok r w∧P.eqGuardType P.depth t=false:=by
 unfold z47 at h
 split at h
 rotate_left
 ·cases h
 rename_i fs hu
 obtain⟨hc,h⟩:=z0k h
 simp only[Bool.and_eq_true,Bool.not_eq_true'] at hc
 have hfs:P.fieldsOf t=fs:=by simp[Program.fieldsOf,hu]
 refine⟨?_,hc.2⟩
 have:=run_equalIn_struct (P:=P) w 9999 t us.toArray vs.toArray (by rw[hfs];exact hu) hc.1
 rw[this,hfs]
 exact z4I 9998 us.toArray vs.toArray fs.toList 0 a b r h (fun j v hj=>by simpa using hx j v hj) (fun j v hj=>by simpa using hy j v hj)
theorem y1Y {op : BinOp} {t : TypeId} {x y : AVal} {δ : Dl} (h : binK P op t x y = some δ) (hc : All δ.cnd) {ux uy : Value} {ox oy : Operand}
    (hx : VRel S m w (okB F S m w) x ux) (hy : VRel S m w (okB F S m w) y uy) :
    ∃ v, (do eqGuard op t ox oy ux uy; binOp op t ux uy).run P w = .ok v w ∧ VRel S m w (okB F S m w) δ.val v ∧ δ.wr = [] := by
  unfold binK at h
  split at h
  · rename_i k a k' b
    have := VRel.sc_inv hx; subst this
    have := VRel.sc_inv hy; subst this
    have hg : (eqGuard op t ox oy (.int k a) (.int k' b)).run P w = .ok () w := by cases op <;> simp [eqGuard]
    unfold binI at h
    split at h
    · have := z0d h; subst this
      simp only [All] at hc
      refine ⟨_, ?_, .t _ _ (.sc _ rfl), rfl⟩
      simp only [Sem.run_bind, hg, Result.andThen_ok]
      simp [binOp, Op.shift, show ¬ b < 0 by omega]
    · have := z0d h; subst this
      simp only [All] at hc
      refine ⟨_, ?_, .t _ _ (.sc _ rfl), rfl⟩
      simp only [Sem.run_bind, hg, Result.andThen_ok]
      simp [binOp, Op.shift, show ¬ b < 0 by omega]
    · split at h
      rotate_left
      · cases h
      rename_i hk
      subst hk
      cases op <;> simp only [binA] at h <;> first
        | (cases h; done)
        | (have := z0d h; subst this
           simp only [All] at hc
           refine ⟨_, ?_, .t _ _ (.sc _ rfl), rfl⟩
           simp only [Sem.run_bind, hg, Result.andThen_ok]
           simp [binOp, Op.intArith, Op.intDiv, Op.intCmp, Op.intBits, andI, orI, hc])
  · rename_i a b
    have := VRel.sc_inv hx; subst this
    have := VRel.sc_inv hy; subst this
    have hg : (eqGuard op t ox oy (.string a) (.string b)).run P w = .ok () w := by cases op <;> simp [eqGuard]
    cases op <;> simp only [binS] at h <;> first
      | (cases h; done)
      | (have := z0d h; subst this
         simp only [All] at hc
         refine ⟨_, ?_, .t _ _ (.sc _ rfl), rfl⟩
         simp only [Sem.run_bind, hg, Result.andThen_ok]
         simp [binOp, Op.stringOp]
         try simpa using hc.1)
  · rename_i a b
    have := VRel.sc_inv hx; subst this
    have := VRel.sc_inv hy; subst this
    have hg : (eqGuard op t ox oy (.bool a) (.bool b)).run P w = .ok () w := by cases op <;> simp [eqGuard]
    split at h
    · rename_i hu
      have := z0d h; subst this
      refine ⟨_, ?_, .t _ _ (.sc _ rfl), rfl⟩
      have he := run_equalIn_bool' (P := P) w 9999 t a b hu
      simp only [Sem.run_bind, hg, Result.andThen_ok, binOp, Op.equal, Op.maxDepth, he]
      simp
    · rename_i hu
      have := z0d h; subst this
      refine ⟨_, ?_, .t _ _ (.sc _ rfl), rfl⟩
      have he := run_equalIn_bool' (P := P) w 9999 t a b hu
      simp only [Sem.run_bind, hg, Result.andThen_ok, binOp, Op.equal, Op.maxDepth, he]
      simp
    · cases h
  · rename_i a b
    cases hx with
    | t _ _ hTx =>
      cases hTx with
      | agg _ us hlx hcx h1x =>
        cases hy with
        | t _ _ hTy =>
          cases hTy with
          | agg _ vs hly hcy h1y =>
            have hxs : ∀ (i : Nat) (v : Value), a[i]? = some (.sc v) → us[i]? = some v := fun i v hi => by
              have hil : i < us.length := by rw [hlx]; exact (List.getElem?_eq_some_iff.1 hi).1
              have := h1x i _ _ hi (List.getElem?_eq_getElem hil)
              generalize hu : us[i] = uu at this
              cases this
              rw [List.getElem?_eq_getElem hil, hu]
            have hys : ∀ (i : Nat) (v : Value), b[i]? = some (.sc v) → vs[i]? = some v := fun i v hi => by
              have hil : i < vs.length := by rw [hly]; exact (List.getElem?_eq_some_iff.1 hi).1
              have := h1y i _ _ hi (List.getElem?_eq_getElem hil)
              generalize hu : vs[i] = uu at this
              cases this
              rw [List.getElem?_eq_getElem hil, hu]
            have run : ∀ r, z47 P t a b = some r → (Op.equalIn 10000 t (.agg us.toArray) (.agg vs.toArray)).run P w = .ok r w ∧ (eqGuard op t ox oy (.agg us.toArray) (.agg vs.toArray)).run P w = .ok () w := fun r hr =>
              ⟨(z4J hr hxs hys).1, run_eqGuard_agg w op t ox oy _ _ (z4J (w := w) hr hxs hys).2⟩
            split at h
            · rename_i r hr
              have := z0d h; subst this
              refine ⟨_, ?_, .t _ _ (.sc _ rfl), rfl⟩
              simp only [Sem.run_bind, (run r hr).2, Result.andThen_ok, run_eql_struct, (run r hr).1]
            · rename_i r hr
              have := z0d h; subst this
              refine ⟨_, ?_, .t _ _ (.sc _ rfl), rfl⟩
              simp only [Sem.run_bind, (run r hr).2, Result.andThen_ok, run_neq_struct, (run r hr).1]
            · cases h
  · rename_i kk xs
    split at h
    · rename_i e hu
      have := z0d h; subst this
      have h2 := VRel.sc_inv hy; subst h2
      cases hx with
      | t _ _ hT =>
        cases hT with
        | lst _ _ A c us hk hx' hn hm hA hl hr =>
          refine ⟨.bool A.isNone, ?_, .anyB _, rfl⟩
          have hg : (eqGuard .eql t ox oy (.slice A xs.length c) (.slice none 0 0)).run P w = .ok () w := by simp [eqGuard]
          rw [Sem.run_bind, hg]
          exact Go.Lib.run_eql_slice_nil w t e A xs.length c 0 0 hu
    · rename_i e hu
      have := z0d h; subst this
      have h2 := VRel.sc_inv hy; subst h2
      cases hx with
      | t _ _ hT =>
        cases hT with
        | lst _ _ A c us hk hx' hn hm hA hl hr =>
          refine ⟨.bool (!A.isNone), ?_, .anyB _, rfl⟩
          have hg : (eqGuard .neq t ox oy (.slice A xs.length c) (.slice none 0 0)).run P w = .ok () w := by simp [eqGuard]
          rw [Sem.run_bind, hg]
          have := Go.Lib.run_equalIn_slice_nil w 9999 t e A xs.length c 0 0 hu
          simp [binOp, Op.equal, Op.maxDepth, this]
    · cases h
  · cases h
theorem z7d(w:World){t t':TypeId}{u:Value}{ms:Array (String×TypeId)}(ht:P.underlying t=some (.interface ms)):
 (binOp .neq t (.iface t' u) .nilIface).run P w= .ok (.bool true) w:=by
 have h:∀d:Nat,(Op.equalIn (d+1) t (.iface t' u) .nilIface).run P w= .ok false w:=fun d=>by
  simp[Op.equalIn,run_underlying ht]
 simp only[binOp]
 simp[Op.equal,Op.maxDepth,h 9999]
theorem z9w{op:BinOp}{t:TypeId}{x y:AVal}{δ:Dl}{ux uy:Value}{ox oy:Operand}(h:binIf P op t oy x y=some δ)(hc:All δ.cnd)
 (hx:VRel S m w (okB F S m w) x ux) (hy:VRel S m w (okB F S m w) y uy):
 ∃v,(do eqGuard op t ox oy ux uy;binOp op t ux uy).run P w= .ok v w∧VRel S m w (okB F S m w) δ.val v∧δ.wr=[]:=by
 unfold binIf at h
 split at h
 ·split at h
  ·rename_i e hu
   have:=z0d h;subst this
   have h2:=VRel.sc_inv hy;subst h2
   cases hx with
   |ifc t' u=>
    refine⟨.bool true,?_,.t _ _ (.sc _ rfl),rfl⟩
    have hg:(eqGuard .neq t ox oy (.iface t' u) .nilIface).run P w= .ok () w:=by simp[eqGuard]
    rw[Sem.run_bind,hg]
    exact z7d w hu
  ·cases h
 ·split at h
  ·rename_i e _ hu
   have:=z0d h;subst this
   have h2:=VRel.sc_inv hy;subst h2
   have h1:=VRel.sc_inv hx;subst h1
   refine⟨.bool false,?_,.t _ _ (.sc _ rfl),rfl⟩
   have hg:∀c,(eqGuard .neq t ox (.const c) .nilIface .nilIface).run P w= .ok () w:=fun c=>by simp[eqGuard]
   rw[Sem.run_bind,hg]
   exact Go.Lib.run_neq_nil_nil w hu
  ·cases h
 ·exact y1Y h hc hx hy
theorem z9x{op:BinOp}{t:TypeId}{x y:AVal}{δ:Dl}(h:binNE P op t x y=some δ)(hc:All δ.cnd){ux uy:Value}{ox oy:Operand}
 (hx:VRel S m w (okB F S m w) x ux) (hy:VRel S m w (okB F S m w) y uy):
 ∃v,(do eqGuard op t ox oy ux uy;binOp op t ux uy).run P w= .ok v w∧VRel S m w (okB F S m w) δ.val v∧δ.wr=[]:=by
 unfold binNE at h
 split at h
 ·rename_i kk xs
  split at h
  ·rename_i e hu
   have:=z0d h;subst this
   have h2:=VRel.sc_inv hy;subst h2
   cases hx with
   |t _ _ hT=>
    cases hT with
    |lst _ _ A c us hk hx' hn hm hA hl hr=>
     obtain⟨b,o,eA,_⟩:=hA (fun e=>hc.1 (by rw[e];rfl))
     refine⟨.bool A.isNone,?_,?_,rfl⟩
     ·have hg:(eqGuard .eql t ox oy (.slice A xs.length c) (.slice none 0 0)).run P w= .ok () w:=by simp[eqGuard]
      rw[Sem.run_bind,hg]
      exact Go.Lib.run_eql_slice_nil w t e A xs.length c 0 0 hu
     ·rw[eA];exact .t _ _ (.sc _ rfl)
  ·rename_i e hu
   have:=z0d h;subst this
   have h2:=VRel.sc_inv hy;subst h2
   cases hx with
   |t _ _ hT=>
    cases hT with
    |lst _ _ A c us hk hx' hn hm hA hl hr=>
     obtain⟨b,o,eA,_⟩:=hA (fun e=>hc.1 (by rw[e];rfl))
     refine⟨.bool (!A.isNone),?_,?_,rfl⟩
     ·have hg:(eqGuard .neq t ox oy (.slice A xs.length c) (.slice none 0 0)).run P w= .ok () w:=by simp[eqGuard]
      rw[Sem.run_bind,hg]
      have:=Go.Lib.run_equalIn_slice_nil w 9999 t e A xs.length c 0 0 hu
      simp[binOp,Op.equal,Op.maxDepth,this]
     ·rw[eA];exact .t _ _ (.sc _ rfl)
  ·cases h
 ·cases h
end
end Go.Ab
end
section
set_option linter.unusedVariables false
namespace Go.Ab
variable {P:Program} {w:World} {F:Fen P} {S st:Store} {m:Place}
theorem z48(hS:SRel F S m w){id k:Nat}{xs:List Tree}(h:S id=some (.row k true xs)):TRep w (okB F S m w) (.lst k xs) (z0B (m id) xs.length):=by
 obtain⟨a1,a2,a3,a4,a5⟩:=hS.objs id _ h
 rcases a5 with⟨a5,a6⟩| ⟨b,us,e,h1,h2,h3,h4,h5⟩
 ·have hx:xs=[]:=List.eq_nil_of_length_eq_zero (by rw[a6] at a3;omega)
  subst hx
  exact .lst k [] _ _ [] a1 (fun x hx=>by simp at hx) (by simp) a4 (fun h=>absurd rfl h) (by simp) (fun j T u h=>by simp[flat] at h)
 ·have hfl:=z1c a2
  have hle:xs.length*k≤us.size:=by rw[h3];exact Nat.mul_le_mul_right k a3
  refine .lst k xs _ _ ((us.toList).take (xs.length*k)) a1 a2 a3 a4 (fun _=>⟨b,0,by simp[h1],⟨?_,?_,?_⟩,?_⟩) (by simp;omega) (fun j T u hj hu=> ?_)
  ·exact(Array.getElem?_eq_some_iff.1 h2).1
  ·exact fun hb=>hS.avoid id _ b h (.inl h1) (F.sup b hb)
  ·intro i o hi hl hb
   have:=hS.inj id i _ _ b h hi (.inl h1) hb
   subst this
   rw[h] at hi;cases hi
   simp[Ob.live] at hl
  ·intro j u hu
   rw[List.getElem?_take] at hu
   split at hu
   ·simp only[World.cell?,h2];simpa using hu
   ·cases hu
  ·rw[List.getElem?_take] at hu
   split at hu
   ·exact h5 j T u hj (by simpa using hu)
   ·cases hu
def Frz(S:Store)(f:List (Nat×Ob)):Prop:=∀id o,(id,o)∈f→∃k fz xs,S id=some (.row k fz xs)∧o= .row k true xs
theorem z1f:∀(f:List (Nat×Ob)) (S:Store),SRel F S m w→Frz S f→
 SRel F (app S f) m w∧FrameExt F S m w (app S f) m w∧
  (∀id k fz xs,S id=some (.row k fz xs)→∃fz',app S f id=some (.row k fz' xs)∧((id∈f.map (·.1)∨fz=true)→fz'=true))∧
  (∀id,id∉f.map (·.1)→app S f id=S id)
 | [],S,hS,_=>⟨hS,FrameExt.refl F S m w,fun id k fz xs h=>⟨fz,h,fun h'=>h'.elim (fun h'=>by simp at h') (fun h'=>h')⟩,fun id _=>rfl⟩
 | (i,o)::f,S,hS,hf=>by
  obtain⟨k,fz,xs,hi,rfl⟩:=hf i o (by simp)
  obtain⟨h1,h2⟩:=freeze hS hi
  have hrow:∀id k' fz' xs',S id=some (.row k' fz' xs')→∃fz'',upd S i (.row k true xs) id=some (.row k' fz'' xs')∧((id=i∨fz'=true)→fz''=true):=by
   intro id k' fz' xs' h
   by_cases e:id=i
   ·subst e
    rw[hi] at h;cases h
    exact⟨true,z0i _ _ _,fun _=>rfl⟩
   ·exact⟨fz',by rw[z0h e];exact h,fun h'=>h'.elim (fun h'=>absurd h' e) (fun h'=>h')⟩
  have hf':Frz (upd S i (.row k true xs)) f:=by
   intro id o h
   obtain⟨k',fz',xs',h3,h4⟩:=hf id o (by simp[h])
   obtain⟨fz'',h5,_⟩:=hrow id k' fz' xs' h3
   exact⟨k',fz'',xs',h5,h4⟩
  obtain⟨r1,r2,r3,r4⟩:=z1f f (upd S i (.row k true xs)) h1 hf'
  refine⟨r1,h2.trans hS r2,fun id k' fz' xs' h=> ?_,fun id hid=> ?_⟩
  ·obtain⟨fz'',h5,h6⟩:=hrow id k' fz' xs' h
   obtain⟨fz3,h7,h8⟩:=r3 id k' fz'' xs' h5
   refine⟨fz3,h7,fun h9=>h8 ?_⟩
   rcases h9 with h9|h9
   ·simp only[List.map_cons,List.mem_cons] at h9
    rcases h9 with h9|h9
    ·exact .inr (h6 (.inl h9))
    ·exact .inl h9
   ·exact .inr (h6 (.inr h9))
  ·simp only[List.map_cons,List.mem_cons,not_or] at hid
   show app (upd S i (.row k true xs)) f id=S id
   rw[r4 id hid.2,z0h hid.1]
theorem z0A{l r:List Prop}:All (l++r)↔All l∧All r:=by
 induction l with
 |nil=>simp[All]
 |cons p l ih=>simp[All,ih,and_assoc]
def y0r(F:Fen P)(S:Store)(m:Place)(w:World)(v':AVal)(f:List (Nat×Ob))(u:Value):Prop:=
 Frz S f∧∀g:List (Nat×Ob),Frz S g→(∀x∈f,x∈g)→VRel (app S g) m w (okB F (app S g) m w) v' u
theorem z0t(hst:∀id o,st id=some o→S id=some o)(hS:SRel F S m w){v v':AVal}{f:List (Nat×Ob)}{p:List Prop}(h:snap1 st v=some (v',f,p))(hp:All p){u:Value}
 (hv:VRel S m w (okB F S m w) v u):y0r F S m w v' f u:=by
 have keep:∀(e1:v=v') (e2:f=[]),y0r F S m w v' f u:=by
  intro e1 e2
  subst e1;subst e2
  exact⟨fun id o h=>by simp at h,fun g hg _=>(z1f g S hS hg).2.1.val hv⟩
 cases v with
 |row id n=>
  simp only[snap1] at h
  split at h
  rotate_left
  ·cases h
  rename_i k fz xs hs
  simp only[Option.some.injEq,Prod.mk.injEq] at h
  obtain⟨rfl,rfl,rfl⟩:=h
  simp only[All] at hp
  obtain⟨hn,-⟩:=hp
  have hs2:=hst id _ hs
  cases hv with
  |rowG _ _ L hs'=>rw[hs2] at hs';cases hs'
  |row _ _ k' fz' xs' L hs' hn' hu'=>
   rw[hs2] at hs';cases hs'
   have hL:=hu' hn
   refine⟨fun i o hi=> ?_,fun g hg hfg=> ?_⟩
   ·cases fz with
    |true=>simp at hi
    |false=>simp at hi;obtain⟨rfl,rfl⟩:=hi;exact⟨k,false,xs,hs2,rfl⟩
   ·obtain⟨r1,r2,r3,_⟩:=z1f g S hS hg
    obtain⟨fz',h1,h2⟩:=r3 id k fz xs hs2
    have:fz'=true:=h2 (by
     cases fz with
     |true=>exact .inr rfl
     |false=>exact .inl (List.mem_map.2 ⟨(id,.row k true xs),hfg _ (by simp),rfl⟩))
    subst this
    have:=z48 r1 h1
    rw[hL,←hn] at this
    exact .t _ _ this
 |t T=>simp only[snap1,Option.some.injEq,Prod.mk.injEq] at h;exact keep h.1 h.2.1.symm
 |ptr id off=>simp only[snap1,Option.some.injEq,Prod.mk.injEq] at h;exact keep h.1 h.2.1.symm
 |eptr id n i sub=>simp only[snap1,Option.some.injEq,Prod.mk.injEq] at h;exact keep h.1 h.2.1.symm
 |cptr cs=>simp only[snap1,Option.some.injEq,Prod.mk.injEq] at h;exact keep h.1 h.2.1.symm
 |agg cs=>simp only[snap1,Option.some.injEq,Prod.mk.injEq] at h;exact keep h.1 h.2.1.symm
 |fn f cap=>simp only[snap1,Option.some.injEq,Prod.mk.injEq] at h;exact keep h.1 h.2.1.symm
 |tup vs=>simp only[snap1,Option.some.injEq,Prod.mk.injEq] at h;exact keep h.1 h.2.1.symm
 |cond c v=>simp only[snap1,Option.some.injEq,Prod.mk.injEq] at h;exact keep h.1 h.2.1.symm
 |mat id=>simp only[snap1,Option.some.injEq,Prod.mk.injEq] at h;exact keep h.1 h.2.1.symm
 |mptr id i=>simp only[snap1,Option.some.injEq,Prod.mk.injEq] at h;exact keep h.1 h.2.1.symm
 |yl id=>simp only[snap1,Option.some.injEq,Prod.mk.injEq] at h;exact keep h.1 h.2.1.symm
 |junk=>simp only[snap1,Option.some.injEq,Prod.mk.injEq] at h;exact keep h.1 h.2.1.symm
 |anyB=>simp only[snap1,Option.some.injEq,Prod.mk.injEq] at h;exact keep h.1 h.2.1.symm
 |ifc=>simp only[snap1,Option.some.injEq,Prod.mk.injEq] at h;exact keep h.1 h.2.1.symm
 |tail id n i=>simp only[snap1,Option.some.injEq,Prod.mk.injEq] at h;exact keep h.1 h.2.1.symm
 |hdl id=>simp only[snap1,Option.some.injEq,Prod.mk.injEq] at h;exact keep h.1 h.2.1.symm
 |bsl id n=>simp only[snap1,Option.some.injEq,Prod.mk.injEq] at h;exact keep h.1 h.2.1.symm
 |xl k xs=>simp only[snap1,Option.some.injEq,Prod.mk.injEq] at h;exact keep h.1 h.2.1.symm
theorem Frz.append{f g:List (Nat×Ob)}(hf:Frz S f)(hg:Frz S g):Frz S (f++g):=by
 intro id o h
 rcases List.mem_append.1 h with h|h
 ·exact hf id o h
 ·exact hg id o h
def y2R(F:Fen P)(S:Store)(m:Place)(w:World)(vs:List AVal)(f:List (Nat×Ob))(us:List Value):Prop:=
 vs.length=us.length∧Frz S f∧∀g:List (Nat×Ob),Frz S g→(∀x∈f,x∈g)→
  ∀(i:Nat) (v:AVal) (u:Value),vs[i]? =some v→us[i]? =some u→VRel (app S g) m w (okB F (app S g) m w) v u
theorem z3v(hst:∀id o,st id=some o→S id=some o)(hS:SRel F S m w):∀{vs vs':List AVal} {f:List (Nat×Ob)} {p:List Prop} {us:List Value},snapL st vs=some (vs',f,p)→All p→
 us.length=vs.length→(∀(i:Nat) (v:AVal) (u:Value),vs[i]? =some v→us[i]? =some u→VRel S m w (okB F S m w) v u)→y2R F S m w vs' f us
 | [],vs',f,p,us,h,_,hl,_=>by
  simp only[snapL,Option.some.injEq,Prod.mk.injEq] at h
  obtain⟨rfl,rfl,rfl⟩:=h
  have:us=[]:=List.eq_nil_of_length_eq_zero (by simpa using hl)
  subst this
  exact⟨rfl,fun id o h=>by simp at h,fun g _ _ i v u h=>by simp at h⟩
 |v::vs,vs',f,p,us,h,hp,hl,hr=>by
  simp only[snapL] at h
  split at h
  rotate_left
  ·cases h
  rename_i v1 f1 p1 l1 g1 d1 h1 h2
  simp only[Option.some.injEq,Prod.mk.injEq] at h
  obtain⟨rfl,rfl,rfl⟩:=h
  rw[z0A] at hp
  match us,hl with
  |u::us,hl=>
   have s1:=z0t hst hS h1 hp.1 (hr 0 v u rfl rfl)
   have s2:=z3v hst hS h2 hp.2 (by simpa using hl) (fun i v u hv hu=>hr (i+1) v u hv hu)
   refine⟨by simp[s2.1],s1.1.append s2.2.1,fun g hg hfg i v' u' hv hu=> ?_⟩
   match i with
   |0=>simp at hv hu;subst hv;subst hu;exact s1.2 g hg (fun x hx=>hfg x (by simp[hx]))
   |i+1=>exact s2.2.2 g hg (fun x hx=>hfg x (by simp[hx])) i v' u' hv hu
theorem z0u(hst:∀id o,st id=some o→S id=some o)(hS:SRel F S m w){v v':AVal}{f:List (Nat×Ob)}{p:List Prop}(h:snap st v=some (v',f,p))(hp:All p){u:Value}
 (hv:VRel S m w (okB F S m w) v u):y0r F S m w v' f u:=by
 cases v with
 |agg cs=>
  simp only[snap,Option.map_eq_some_iff] at h
  obtain⟨⟨cs',f',p'⟩,h1,h2⟩:=h
  simp only[Prod.mk.injEq] at h2
  obtain⟨rfl,rfl,rfl⟩:=h2
  cases hv with
  |agg _ us hl hc h1'=>
   have:=z3v hst hS h1 hp hl hc
   refine⟨this.2.1,fun g hg hfg=>VRel.aggV this.1.symm (fun i v u hv hu=>⟨this.2.2 g hg hfg i v u hv hu,h1' u (List.mem_of_getElem? hu)⟩)⟩
 |t T=>simp only[snap] at h;exact z0t hst hS h hp hv
 |row id n=>simp only[snap] at h;exact z0t hst hS h hp hv
 |ptr id off=>simp only[snap] at h;exact z0t hst hS h hp hv
 |eptr id n i sub=>simp only[snap] at h;exact z0t hst hS h hp hv
 |cptr cs=>simp only[snap] at h;exact z0t hst hS h hp hv
 |fn f cap=>simp only[snap] at h;exact z0t hst hS h hp hv
 |tup vs=>simp only[snap] at h;exact z0t hst hS h hp hv
 |cond c v=>simp only[snap] at h;exact z0t hst hS h hp hv
 |mat id=>simp only[snap] at h;exact z0t hst hS h hp hv
 |mptr id i=>simp only[snap] at h;exact z0t hst hS h hp hv
 |junk=>simp only[snap] at h;exact z0t hst hS h hp hv
 |anyB=>simp only[snap] at h;exact z0t hst hS h hp hv
 |ifc=>simp only[snap] at h;exact z0t hst hS h hp hv
 |tail id n i=>simp only[snap] at h;exact z0t hst hS h hp hv
 |hdl id=>simp only[snap] at h;exact z0t hst hS h hp hv
 |xl k xs=>simp only[snap] at h;exact z0t hst hS h hp hv
 |yl id=>simp only[snap] at h;exact z0t hst hS h hp hv
 |bsl id n=>simp only[snap] at h;exact z0t hst hS h hp hv
theorem z10(hst:∀id o,st id=some o→S id=some o)(hS:SRel F S m w):∀{vs vs':List AVal} {f:List (Nat×Ob)} {p:List Prop} {us:List Value},snaps st vs=some (vs',f,p)→All p→
 us.length=vs.length→(∀(i:Nat) (v:AVal) (u:Value),vs[i]? =some v→us[i]? =some u→VRel S m w (okB F S m w) v u)→y2R F S m w vs' f us
 | [],vs',f,p,us,h,_,hl,_=>by
  simp only[snaps,Option.some.injEq,Prod.mk.injEq] at h
  obtain⟨rfl,rfl,rfl⟩:=h
  have:us=[]:=List.eq_nil_of_length_eq_zero (by simpa using hl)
  subst this
  exact⟨rfl,fun id o h=>by simp at h,fun g _ _ i v u h=>by simp at h⟩
 |v::vs,vs',f,p,us,h,hp,hl,hr=>by
  simp only[snaps] at h
  split at h
  rotate_left
  ·cases h
  rename_i v1 f1 p1 l1 g1 d1 h1 h2
  simp only[Option.some.injEq,Prod.mk.injEq] at h
  obtain⟨rfl,rfl,rfl⟩:=h
  rw[z0A] at hp
  match us,hl with
  |u::us,hl=>
   have s1:=z0u hst hS h1 hp.1 (hr 0 v u rfl rfl)
   have s2:=z10 hst hS h2 hp.2 (by simpa using hl) (fun i v u hv hu=>hr (i+1) v u hv hu)
   refine⟨by simp[s2.1],s1.1.append s2.2.1,fun g hg hfg i v' u' hv hu=> ?_⟩
   match i with
   |0=>simp at hv hu;subst hv;subst hu;exact s1.2 g hg (fun x hx=>hfg x (by simp[hx]))
   |i+1=>exact s2.2.2 g hg (fun x hx=>hfg x (by simp[hx])) i v' u' hv hu
end Go.Ab
end
section
set_option linter.unusedVariables false
namespace Go.Ab
variable {P:Program} {w:World} {F:Fen P} {S st:Store} {m:Place}
def Done(F:Fen P)(S:Store)(m:Place)(w:World)(wr:List (Nat×Ob))(val:AVal)(r:Result Value):Prop:=
 ∃v w' m',r= .ok v w'∧SRel F (app S wr) m' w'∧FrameExt F S m w (app S wr) m' w'∧VRel (app S wr) m' w' (okB F (app S wr) m' w') val v
theorem Done.same(hS:SRel F S m w){val:AVal}{r:Result Value}(h:∃v,r= .ok v w∧VRel S m w (okB F S m w) val v):Done F S m w [] val r:=by
 obtain⟨v,h1,h2⟩:=h
 exact⟨v,w,m,h1,hS,FrameExt.refl F S m w,h2⟩
theorem z3P{k:Nat}{xs:List Tree}(h:∀x∈xs,Elt k x)(n:Nat):flat (xs.take n)=(flat xs).take (n*k):=by
 induction xs generalizing n with
 |nil=>simp[flat]
 |cons x xs ih=>
  cases n with
  |zero=>simp[flat]
  |succ n=>
   have h1:=(h x (by simp)).1
   simp only[List.take_succ_cons,flat,ih (fun y hy=>h y (by simp[hy]))]
   rw[List.take_append,h1,List.take_of_length_le (l:=x.cells) (by rw[h1,Nat.add_mul];omega)]
   congr 2
   rw[Nat.add_mul];omega
theorem y2S{k:Nat}{xs:List Tree}(h:∀x∈xs,Elt k x)(n:Nat):flat (xs.drop n)=(flat xs).drop (n*k):=by
 induction xs generalizing n with
 |nil=>simp[flat]
 |cons x xs ih=>
  cases n with
  |zero=>simp[flat]
  |succ n=>
   have h1:=(h x (by simp)).1
   simp only[List.drop_succ_cons,flat,ih (fun y hy=>h y (by simp[hy]))]
   rw[List.drop_append,h1,List.drop_of_length_le (l:=x.cells) (by rw[h1,Nat.add_mul];omega),List.nil_append]
   congr 1
   rw[Nat.add_mul];omega
theorem z2m(b:Bool)(len cap:Nat)(hlc:len≤cap)(lo hi:Option (IntKind×Int))(l h':Int)(hl:l=(lo.map (·.2)).getD 0)(hh:h'=(hi.map (·.2)).getD (len:Int))(h0:0≤l)(h1:l≤h')(h2:h'≤(cap:Int)):
 (Instr.sliceBounds b len cap (lo.map fun p=> .int p.1 p.2) (hi.map fun p=> .int p.1 p.2) none).run P w= .ok (l.toNat,h'.toNat,cap) w:=by
 have a0:0≤h':=by omega
 have a2:l≤max h' 0:=by omega
 cases lo with
 |none=>
  cases hi with
  |none=>
   simp only[Option.map_none,Option.getD_none] at hl hh
   subst hl;subst hh
   simp[Instr.sliceBounds]
  |some p=>
   simp only[Option.map_none,Option.map_some,Option.getD_none,Option.getD_some] at hl hh
   subst hl;subst hh
   simp[Instr.sliceBounds,Instr.sliceBound,asIntOf,a0,h2]
 |some q=>
  cases hi with
  |none=>
   simp only[Option.map_none,Option.map_some,Option.getD_none,Option.getD_some] at hl hh
   subst hl;subst hh
   simp[Instr.sliceBounds,Instr.sliceBound,asIntOf,h0,h1]
  |some p=>
   simp only[Option.map_some,Option.getD_some] at hl hh
   subst hl;subst hh
   simp[Instr.sliceBounds,Instr.sliceBound,asIntOf,h0,a0,h2,a2]
theorem z6w{k:Nat}{xs:List Tree}{u:Value}{ok:Nat→Prop}(h:TRep w ok (.lst k xs) u){t e:TypeId}(hu:P.underlying t=some (.slice e))(hz:tsz P e=some k)
 (lo hi:Option (IntKind×Int)) (l h':Int) (hl:l=(lo.map (·.2)).getD 0) (hh:h'=(hi.map (·.2)).getD (xs.length:Int)) (h0:0≤l) (h1:l≤h') (h2:h'≤(xs.length:Int)):
 ∃v,(Instr.slice t u (lo.map fun p=> .int p.1 p.2) (hi.map fun p=> .int p.1 p.2) none).run P w= .ok v w∧TRep w ok (.lst k ((xs.take h'.toNat).drop l.toNat)) v:=by
 cases h with
 |lst _ _ A cap us hk hx hn hm hA hl' hrep=>
  refine⟨.slice (if cap=l.toNat then A else A.map (·.add (l.toNat*k))) (h'.toNat-l.toNat) (cap-l.toNat),?_,?_⟩
  ·have hb:=z2m (P:=P) (w:=w) true xs.length cap hn lo hi l h' hl hh h0 h1 (by omega)
   simp[Instr.slice,run_underlying hu,hb,z0l hz]
  ·have hlen:((xs.take h'.toNat).drop l.toNat).length=h'.toNat-l.toNat:=by simp;omega
   have hx':∀x∈(xs.take h'.toNat).drop l.toNat,Elt k x:=fun x hx'=>hx x (List.mem_of_mem_take (List.mem_of_mem_drop hx'))
   have hfl:flat ((xs.take h'.toNat).drop l.toNat)=((flat xs).take (h'.toNat*k)).drop (l.toNat*k):=by
    rw[y2S (fun x hx'=>hx x (List.mem_of_mem_take hx')),z3P hx]
   have hbig:h'.toNat*k≤us.length:=by rw[hl'];exact Nat.mul_le_mul_right k (by omega)
   rw[←hlen]
   refine .lst k _ _ _ ((us.take (h'.toNat*k)).drop (l.toNat*k)) hk hx' (by rw[hlen];omega) (by omega) (fun hne=> ?_) (by rw[hlen,Nat.sub_mul];simp;omega) (fun j T u hj hu'=> ?_)
   ·have hlt:l.toNat<h'.toNat:=by
     have:=List.length_pos_iff.2 hne
     omega
    obtain⟨b,o,rfl,hb,hcell⟩:=hA (fun e=>by subst e;simp at h2;omega)
    refine⟨b,o+l.toNat*k,?_,hb,fun j u hu'=> ?_⟩
    ·rw[if_neg (by omega)];simp[z0P]
    ·rw[List.getElem?_drop,List.getElem?_take] at hu'
     split at hu'
     ·rw[Nat.add_assoc];exact hcell _ u hu'
     ·cases hu'
   ·rw[hfl] at hj
    rw[List.getElem?_drop,List.getElem?_take] at hu' hj
    split at hu'
    ·rename_i hlt
     rw[if_pos hlt] at hj
     exact hrep _ T u hj hu'
    ·cases hu'
theorem z2n{o:Option AVal}{r:Option Int}(h:obnd o=some r){uo:Option Value}(hn:o=none→uo=none)(hs:∀v,o=some v→∃u,uo=some u∧VRel S m w (okB F S m w) v u):
 ∃q:Option (IntKind×Int),uo=q.map (fun p=> .int p.1 p.2)∧r=q.map (·.2):=by
 unfold obnd at h
 split at h
 ·simp only[Option.some.injEq] at h;subst h;exact⟨none,hn rfl,rfl⟩
 ·rename_i k j
  simp only[Option.some.injEq] at h;subst h
  obtain⟨u,rfl,hv⟩:=hs _ rfl
  have:=VRel.sc_inv hv;subst this
  exact⟨some (k,j),rfl,rfl⟩
 ·cases h
theorem z8c(k:Nat)(xs:List Tree)(lo hi:Option Int)(l h:Int)(hl:l=lo.getD 0)(hh:h=hi.getD xs.length):y0j k xs lo hi= .lst k ((xs.take h.toNat).drop l.toNat):=by
 cases lo<;>cases hi<;>simp at hl hh<;>subst hl<;>subst hh<;>simp[y0j]
theorem z5E{n:Nat}{lo hi:Option Int}(h:All (z78 n lo hi)):0≤lo.getD 0∧lo.getD 0≤hi.getD n∧hi.getD n≤(n:Int):=by
 cases lo<;>cases hi<;>simp[z78,All] at h⊢ <;>omega
theorem z1i{t e:TypeId}(hu:P.underlying t=some (.slice e))(u:Value)(a b c:Option Value):(Instr.sliceAt t u a b c).run P w=(Instr.slice t u a b c).run P w:=by
 simp[Instr.sliceAt,run_underlying hu]
theorem z8d{t:TypeId}{x:AVal}{lo hi:Option AVal}{mx:AVal}{δ:Dl}(h:y0l P t x lo hi mx=some δ)(hc:All δ.cnd)(hS:SRel F S m w)
 {ux um:Value} {ulo uhi:Option Value} (hx:VRel S m w (okB F S m w) x ux) (hln:lo=none→ulo=none) (hhs:∀v,hi=some v→∃u,uhi=some u∧VRel S m w (okB F S m w) v u)
 (hm:VRel S m w (okB F S m w) mx um):Done F S m w δ.wr δ.val ((Instr.sliceAt t ux ulo uhi (some um)).run P w):=by
 unfold y0l at h
 split at h
 rotate_left
 ·cases h
 rename_i e k xs kk hh km mm hu
 obtain⟨hz,h⟩:=z0k h
 have hz:=z2Z hz
 have:=z0d h;subst this
 simp only[All] at hc
 obtain⟨c1,c2,c3,-⟩:=hc
 subst c3
 have:=hln rfl;subst this
 obtain⟨uh,rfl,hv⟩:=hhs _ rfl
 have:=VRel.sc_inv hv;subst this
 have:=VRel.sc_inv hm;subst this
 cases hx with
 |t _ _ hT=>
 cases hT with
 |lst _ _ A cap us hk hx hn hm2 hA hl' hrep=>
 have hlen:(xs.take mm.toNat).length=mm.toNat:=by simp;omega
 have hcap:mm≤(cap:Int):=by omega
 have a2:mm≤max mm 0:=by omega
 have hbig:mm.toNat*k≤us.length:=by rw[hl'];exact Nat.mul_le_mul_right k (by omega)
 refine Done.same hS ⟨.slice (if mm.toNat=0 then A else A.map (·.add 0)) mm.toNat mm.toNat,?_,.xl _ _ _ ?_ ⟨_,by rw[hlen]⟩⟩
 ·rw[z1i hu]
  simp[Instr.slice,run_underlying hu,Instr.sliceBounds,Instr.sliceBound,asIntOf,c1,hcap,a2,z0l hz]
 ·have key:TRep w (okB F S m w) (.lst k (xs.take mm.toNat)) (.slice (if mm.toNat=0 then A else A.map (·.add 0)) (xs.take mm.toNat).length mm.toNat):=by
   refine .lst k _ _ _ (us.take (mm.toNat*k)) hk (fun x hx'=>hx x (List.mem_of_mem_take hx')) (by rw[hlen];exact Nat.le_refl _) (by omega) (fun hne=> ?_) (by rw[hlen];simp;omega) (fun j T u hj hu'=> ?_)
   ·have h0:mm.toNat≠0:=fun e=>hne (by rw[e];rfl)
    obtain⟨b,o,rfl,hb,hcell⟩:=hA (fun e=>by subst e;simp at c2;omega)
    refine⟨b,o,?_,hb,fun j u hu'=> ?_⟩
    ·rw[if_neg h0];simp[z0P]
    ·rw[List.getElem?_take] at hu'
     split at hu'
     ·exact hcell j u hu'
     ·cases hu'
   ·rw[z3P hx,List.getElem?_take] at hj
    rw[List.getElem?_take] at hu'
    split at hu'
    ·rename_i hlt
     rw[if_pos hlt] at hj
     exact hrep _ T u hj hu'
    ·cases hu'
  rw[hlen] at key
  exact key
theorem z8e{t:TypeId}{x:AVal}{lo hi mx:Option AVal}{δ:Dl}(h:y0k P t x lo hi mx st=some δ)(hc:All δ.cnd)(hst:∀id o,st id=some o→S id=some o)(hS:SRel F S m w)
 {ux:Value} {ulo uhi:Option Value} (hx:VRel S m w (okB F S m w) x ux) (hln:lo=none→ulo=none) (hls:∀v,lo=some v→∃u,ulo=some u∧VRel S m w (okB F S m w) v u)
 (hhn:hi=none→uhi=none) (hhs:∀v,hi=some v→∃u,uhi=some u∧VRel S m w (okB F S m w) v u):
 mx=none∧Done F S m w δ.wr δ.val ((Instr.sliceAt t ux ulo uhi none).run P w):=by
 unfold y0k at h
 split at h
 rotate_left
 ·cases h
 rename_i lo' hi' h1 h2
 refine⟨rfl,?_⟩
 obtain⟨ql,rfl,rfl⟩:=z2n h1 hln hls
 obtain⟨qh,rfl,rfl⟩:=z2n h2 hhn hhs
 split at h
 ·rename_i s hu
  have:=z0d h;subst this
  have:=VRel.sc_inv hx;subst this
  simp only[All] at hc
  obtain⟨c1,c2,c3,-⟩:=hc
  refine Done.same hS ⟨_,?_,.t _ _ (.sc _ rfl)⟩
  have hb:=z2m (P:=P) (w:=w) false s.size s.size (Nat.le_refl _) ql qh _ _ rfl rfl c1 c2 c3
  simp[Instr.sliceAt,Instr.slice,run_underlying hu,hb]
 ·rename_i e k xs hu
  obtain⟨hz,h⟩:=z0k h
  have hz:=z2Z hz
  have:=z0d h;subst this
  obtain⟨c1,c2,c3⟩:=z5E hc
  cases hx with
  |t _ _ hT=>
   obtain⟨v,h3,h4⟩:=z6w hT hu hz ql qh _ _ rfl rfl c1 c2 c3
   refine Done.same hS ⟨v,by rw[z1i hu];exact h3,.t _ _ ?_⟩
   rw[z8c k xs _ _ _ _ rfl rfl]
   exact h4
 ·rename_i e hu
  simp only[Option.bind_eq_some_iff] at h
  obtain⟨z,hz,h⟩:=h
  have:=z0d h;subst this
  have:=VRel.sc_inv hx;subst this
  obtain⟨c1,c2,c3⟩:=z5E hc
  refine Done.same hS ⟨.slice none 0 0,?_,.t _ _ (.sc _ rfl)⟩
  have hb:=z2m (P:=P) (w:=w) true 0 0 (Nat.le_refl _) ql qh _ _ rfl rfl c1 c2 c3
  have e1:((ql.map fun x:IntKind×Int=>x.2).getD 0).toNat=0:=by omega
  have e2:((qh.map fun x:IntKind×Int=>x.2).getD ((0:Nat):Int)).toNat=0:=by omega
  rw[e1,e2] at hb
  rw[z1i hu]
  simp[Instr.slice,run_underlying hu,hb,z0l hz]
 ·rename_i e id n hu
  split at h
  rotate_left
  ·cases h
  rename_i k fz xs hs
  obtain⟨hz,h⟩:=z0k h
  have hz:=z2Z hz
  simp only[Option.some.injEq] at h
  subst h
  simp only[All] at hc
  obtain⟨hn,hc⟩:=hc
  obtain⟨c1,c2,c3⟩:=z5E hc
  have hs2:=hst id _ hs
  have hfr:Frz S (bif fz then[] else[(id,Ob.row k true xs)]):=by
   intro i o hi
   cases fz with
   |true=>simp at hi
   |false=>simp at hi;obtain⟨rfl,rfl⟩:=hi;exact⟨k,false,xs,hs2,rfl⟩
  obtain⟨r1,r2,r3,_⟩:=z1f _ S hS hfr
  obtain⟨fz',h5,h6⟩:=r3 id k fz xs hs2
  have:fz'=true:=h6 (by
   cases fz with
   |true=>exact .inr rfl
   |false=>exact .inl (by simp))
  subst this
  cases hx with
  |rowG _ _ L hs'=>rw[hs2] at hs';cases hs'
  |row _ _ k' fz' xs' L hs' hn' hu'=>
   rw[hs2] at hs';cases hs'
   have hL:=hu' hn
   have hT:=z48 r1 h5
   rw[hL,←hn] at hT
   obtain⟨v,h3,h4⟩:=z6w hT hu hz ql qh _ _ rfl rfl c1 c2 c3
   refine⟨v,w,m,by rw[z1i hu];exact h3,r1,r2,.t _ _ ?_⟩
   rw[z8c k xs _ _ _ _ rfl rfl]
   exact h4
 ·cases h
theorem y0s(big:Bool)(k:IntKind):∀(l:List AVal) (us:List Value) (a r:Int),minK big a l=some r→us.length=l.length→
 (∀(i:Nat) (v:AVal) (u:Value),l[i]? =some v→us[i]? =some u→VRel S m w (okB F S m w) v u)→
 (us.foldlM (bif big then Builtin.max2 else Builtin.min2) (.int k a)).run P w= .ok (.int k r) w
 | [],us,a,r,h,hl,_=>by
  have:us=[]:=List.eq_nil_of_length_eq_zero (by simpa using hl)
  subst this
  simp[minK] at h;subst h;simp
 |v::l,us,a,r,h,hl,hr=>by
  match us,hl with
  |u::us,hl=>
   simp only[minK] at h
   split at h
   rotate_left
   ·cases h
   rename_i ik b
   have:=VRel.sc_inv (hr 0 _ u rfl rfl)
   subst this
   have ih:=y0s big k l us _ r h (by simpa using hl) (fun i v u hv hu=>hr (i+1) v u hv hu)
   cases big
   ·simp only[cond_false] at ih
    simp[Builtin.min2,ih]
   ·simp only[cond_true] at ih
    simp[Builtin.max2,ih]
theorem z3Q{big:Bool}{xs:List AVal}{δ:Dl}(h:z67 big xs=some δ){us:List Value}(hl:us.length=xs.length)
 (hr:∀(i:Nat) (v:AVal) (u:Value),xs[i]? =some v→us[i]? =some u→VRel S m w (okB F S m w) v u) (ts:Array TypeId) (ty:TypeId):
 ∃v,((bif big then Builtin.max_ else Builtin.min_) ts ty us.toArray).run P w= .ok v w∧VRel S m w (okB F S m w) δ.val v∧δ.wr=[]:=by
 unfold z67 at h
 split at h
 rotate_left
 ·cases h
 rename_i k a l
 simp only[Option.bind_eq_some_iff] at h
 obtain⟨r,h1,h2⟩:=h
 have:=z0d h2;subst this
 match us,hl with
 |u::us,hl=>
  have:=VRel.sc_inv (hr 0 _ u rfl rfl)
  subst this
  have:=y0s (P:=P) big k l us a r h1 (by simpa using hl) (fun i v u hv hu=>hr (i+1) v u hv hu)
  refine⟨_,?_,.t _ _ (.sc _ rfl),rfl⟩
  cases big
  ·simpa[Builtin.min_] using this
  ·simpa[Builtin.max_] using this
end Go.Ab
end
