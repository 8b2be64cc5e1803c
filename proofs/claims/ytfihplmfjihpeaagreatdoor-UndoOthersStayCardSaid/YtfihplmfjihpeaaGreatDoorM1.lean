/- The abstract values of the framework: immutable trees, owned rows and boxes, and how they stand to the concrete world. -/
import Derived.Calls
import Derived.Orders
import Derived.Tactics
import Derived.Below
import Derived.Shelf.Unicode.DecodeAny
import Derived.Lib.ItoaNum
import Derived.CallsIn
import Derived.Laws.Cells
import Derived.Laws.AppendOwn
import Derived.Laws.Tables
import Derived.ChangeKeysEq
import Derived.Lib.SliceRun
import Derived.Laws.StructEq
import Derived.Laws.IdiomStrings
import Derived.Lib.ByteType
import Derived.IntWalk
import Derived.Laws.Append
import Derived.RangeFuncRecord
section
set_option linter.unusedVariables false
namespace Go.Ab
inductive Tree where
 |sc (v:Value)
 |agg (cs:List Tree)
 |lst (k:Nat) (xs:List Tree)
instance:Inhabited Tree:=⟨.sc (.bool false)⟩
def Tree.cells:Tree→List Tree
 | .agg cs=>cs
 | .sc v=>[.sc v]
 | .lst k xs=>[.lst k xs]
def Tree.isCell:Tree→Bool
 | .agg _=>false
 |_=>true
def flat:List Tree→List Tree
 | []=>[]
 |x::xs=>x.cells++flat xs
def Elt(k:Nat)(x:Tree):Prop:=x.cells.length=k∧∀T∈x.cells,T.isCell=true
def tabVars:List (String×(Array Value→Prop)):=
 [("internal/strconv.uint64pow10",fun cs=>cs=(Lib.pow10Tab.map fun z=>Value.int .u64 z).toArray),("strconv.ErrSyntax",fun cs=> ∃tp p,cs=#[.iface tp p]),("strconv.ErrRange",fun cs=> ∃tp p,cs=#[.iface tp p])]
structure TabIn(P:Program)(says:Nat→Obj→Prop):Prop where
 utf:∀a b,P.globalNamed "unicode/utf8.first" =some a→P.globalNamed "unicode/utf8.acceptRanges" =some b→
  ∃x y,says a x∧says b y∧∀w:World,w.heap[a]? =some x→w.heap[b]? =some y→Lib.Utf8Tabs a b w
 var:∀p∈tabVars,∀a,P.globalNamed p.1=some a→∃cs e z,says a (.cells cs e z)∧p.2 cs
inductive TRep (w:World) (ok:Nat→Prop):Tree→Value→Prop
 |sc (v:Value) (h:v.oneCell'=true):TRep w ok (.sc v) v
 |agg (cs:List Tree) (us:List Value) (hl:us.length=cs.length) (hc:∀T∈cs,T.isCell=true)
  (h:∀(i:Nat) (T:Tree) (u:Value),cs[i]? =some T→us[i]? =some u→TRep w ok T u):TRep w ok (.agg cs) (.agg us.toArray)
 |lst (k:Nat) (xs:List Tree) (A:Option Addr) (c:Nat) (us:List Value) (hk:0<k) (hx:∀x∈xs,Elt k x) (hn:xs.length≤c) (hm:c≤maxLen)
  (hA:xs≠[]→∃b o,A=some ⟨b,o,none⟩∧ok b∧∀(j:Nat) (u:Value),us[j]? =some u→w.cell? ⟨b,o+j,none⟩=some u)
  (hl:us.length=xs.length*k)
  (h:∀(j:Nat) (T:Tree) (u:Value),(flat xs)[j]? =some T→us[j]? =some u→TRep w ok T u):TRep w ok (.lst k xs) (.slice A xs.length c)
theorem TRep.mono{w w':World}{ok ok':Nat→Prop}(hok:∀b,ok b→ok' b)(hc:∀b o u,ok b→w.cell? ⟨b,o,none⟩=some u→w'.cell? ⟨b,o,none⟩=some u)
 {T:Tree} {v:Value} (h:TRep w ok T v):TRep w' ok' T v:=by
 induction h with
 |sc v h=>exact .sc v h
 |agg cs us hl hc' _ ih=>exact .agg cs us hl hc' ih
 |lst k xs A c us hk hx hn hm hA hl _ ih=>
  refine .lst k xs A c us hk hx hn hm (fun hne=> ?_) hl ih
  obtain⟨b,o,e,hb,hcell⟩:=hA hne
  exact⟨b,o,e,hok b hb,fun j u hu=>hc _ _ _ hb (hcell j u hu)⟩
theorem TRep.one{w:World}{ok:Nat→Prop}{T:Tree}{v:Value}(h:TRep w ok T v)(hT:T.isCell=true):v.oneCell'=true:=by
 cases h with
 |sc _ h=>exact h
 |agg=>simp[Tree.isCell] at hT
 |lst=>rfl
inductive AVal where
 |t (T:Tree)
 |row (id n:Nat)
 |ptr (id off:Nat)
 |eptr (id n i sub:Nat)
 |cptr (cs:List Tree)
 |agg (cs:List AVal)
 |fn (f:FuncId) (cap:List AVal)
 |tup (vs:List AVal)
 |cond (c:Bool) (v:AVal)
 |mat (id:Nat)
 |mptr (id i:Nat)
 |anyB
 |ifc
 |tail (id n i:Nat)
 |hdl (id:Nat)
 |xl (k:Nat) (xs:List Tree)
 |yl (id:Nat)
 |bsl (id n:Nat)
 |psl (id n:Nat)
 |junk
instance:Inhabited AVal:=⟨.junk⟩
inductive MV where
 |im (T:Tree)
 |cp (cs:List Tree)
 |bx (cs:List Tree)
 |rw(k:Nat) (xs:List Tree)
instance:Inhabited MV:=⟨.im default⟩
structure YSpec where
 fn:Value
 kind:(∃f cap,fn= .func (.func f) #[] cap)∨∃l,fn= .func (.yield l) #[] #[]
 goes:List (List Tree)→Bool
 adm:List (List Tree)→List Tree→Prop
 D:Nat→Prop
 holds:List (List Tree)→List Nat→World→Prop
 stab:∀pre g w w',holds pre g w→w.heap.size≤w'.heap.size→(∀b∈g,w'.heap[b]? =w.heap[b]?)→(∀b,D b→w'.heap[b]? =w.heap[b]?)→holds pre g w'
 stabD:∀pre g w w' (q:Nat),holds pre g w→w.heap[q]? =some (.deferred (some []))→q∉g→w'.heap.size=w.heap.size→(∀b,b≠q→w'.heap[b]? =w.heap[b]?)→holds pre g w'
inductive Ob where
 |box (cs:List AVal)
 |row (k:Nat) (fz:Bool) (xs:List Tree)
 |mat (fz:Bool) (xs:List Tree) (h:Option (Nat×Nat×Nat))
 |gone
 |siter (s:ByteArray) (pos:Nat)
 |mp (es:List (Int×MV)) (h:Option (Int×AVal))
 |miter (mid n:Nat) (seen:List Nat)
 |ext (Y:YSpec) (pre:List (List Tree))
 |pool (es:List (Nat×List Tree)) (h:Option (Nat×Nat))
def matC(xs:List Tree):Option (Nat×Nat×Nat)→List AVal
 |none=>xs.map .t
 |some (i,id,n)=>(xs.map .t).set i (.row id n)
theorem matC_len(xs:List Tree)(h:Option (Nat×Nat×Nat)):(matC xs h).length=xs.length:=by
 cases h<;>simp[matC]
def Ob.len:Ob→Nat
 | .box _=>0
 | .row _ _ xs=>xs.length
 | .mat _ xs _=>xs.length
 | .gone=>18446744073709551616
 | .siter _ _=>0
 | .mp _ _=>0
 | .miter _ _ _=>0
 | .ext _ _=>0
 | .pool _ _=>0
def Ob.live:Ob→Bool
 | .box _=>true
 | .row _ fz _=> !fz
 | .mat fz _ _=> !fz
 | .gone=>false
 | .siter _ _=>true
 | .mp _ _=>true
 | .miter _ _ _=>true
 | .ext _ _=>true
 | .pool _ _=>true
def Ob.same:Ob→Ob→Prop
 | .box cs,.box cs'=>cs.length=cs'.length
 | .row k _ _,.row k' _ _=>k=k'
 | .mat _ xs _,.mat _ xs' _=>xs.length=xs'.length
 | .row _ _ _,.gone=>True
 | .box _,.gone=>True
 | .gone,.gone=>True
 | .siter _ _,.siter _ _=>True
 | .mp _ _,.mp _ _=>True
 | .miter _ _ _,.miter _ _ _=>True
 | .ext Y _,.ext Y' _=>Y=Y'
 | .pool _ _,.pool _ _=>True
 |_,_=>False
theorem Ob.same_refl(o:Ob):o.same o:=by cases o<;>simp[Ob.same]
theorem Ob.same_trans{a b c:Ob}(h:a.same b)(k:b.same c):a.same c:=by
 cases a<;>cases b<;>first| (simp[Ob.same] at h;done)| (cases c<;>first| (simp[Ob.same] at k;done)| (simp[Ob.same] at h k⊢;done)| (simp only[Ob.same] at h k⊢;omega)| (simp only[Ob.same] at h k⊢;exact h.trans k)| (simp only[Ob.same]))
abbrev Store:=Nat→Option Ob
structure Place where
 f:Nat→Option Nat×Nat
 g:Nat→List Nat
instance:CoeFun Place (fun _=>Nat→Option Nat×Nat):=⟨Place.f⟩
def Place.has(m:Place)(id b:Nat):Prop:=(m id).1=some b∨b∈m.g id
def rowVal(L:Option Nat×Nat)(n:Nat):Value:= .slice (L.1.map fun b=>⟨b,0,none⟩) n L.2
def tailVal(L:Option Nat×Nat)(k n i:Nat):Value:= .slice (if L.2=i then L.1.map fun b=>⟨b,0,none⟩ else L.1.map fun b=>⟨b,i*k,none⟩) (n-i) (L.2-i)
def hdlVal:Ob→Nat→Option Value
 | .siter _ _,b=>some (.pointer (some ⟨b,0,none⟩))
 | .miter _ _ _,b=>some (.pointer (some ⟨b,0,none⟩))
 | .mp _ _,b=>some (.map (some b))
 |_,_=>none
abbrev roomy:Nat:=4611686018427387904
inductive VRel (st:Store) (m:Place) (w:World) (ok:Nat→Prop):AVal→Value→Prop
 |t (T:Tree) (u:Value) (h:TRep w ok T u):VRel st m w ok (.t T) u
 |row (id n k:Nat) (fz:Bool) (xs:List Tree) (L:Option Nat×Nat) (hs:st id=some (.row k fz xs)) (hn:n≤xs.length) (hu:n=xs.length→m id=L):
  VRel st m w ok (.row id n) (rowVal L n)
 |ptr (id off:Nat) (cs:List AVal) (b:Nat) (hs:st id=some (.box cs)) (hm:(m id).1=some b):VRel st m w ok (.ptr id off) (.pointer (some ⟨b,off,none⟩))
 |eptr (id n i sub k:Nat) (fz:Bool) (xs:List Tree) (b:Nat) (hs:st id=some (.row k fz xs)) (hn:n≤xs.length)
  (hu:n=xs.length→(m id).1=some b):VRel st m w ok (.eptr id n i sub) (.pointer (some ⟨b,i*k+sub,none⟩))
 |cptr (cs:List Tree) (b o:Nat) (us:List Value) (hb:ok b) (hl:us.length=cs.length) (hc:∀T∈cs,T.isCell=true)
  (hcell:∀(j:Nat) (u:Value),us[j]? =some u→w.cell? ⟨b,o+j,none⟩=some u)
  (h:∀(j:Nat) (T:Tree) (u:Value),cs[j]? =some T→us[j]? =some u→TRep w ok T u):VRel st m w ok (.cptr cs) (.pointer (some ⟨b,o,none⟩))
 |agg (cs:List AVal) (us:List Value) (hl:us.length=cs.length)
  (h:∀(i:Nat) (v:AVal) (u:Value),cs[i]? =some v→us[i]? =some u→VRel st m w ok v u) (h1:∀u∈us,u.oneCell'=true):VRel st m w ok (.agg cs) (.agg us.toArray)
 |fn (f:FuncId) (cap:List AVal) (us:List Value) (hl:us.length=cap.length)
  (h:∀(i:Nat) (v:AVal) (u:Value),cap[i]? =some v→us[i]? =some u→VRel st m w ok v u):VRel st m w ok (.fn f cap) (.func (.func f) #[] us.toArray)
 |tup (vs:List AVal) (us:List Value) (hl:us.length=vs.length)
  (h:∀(i:Nat) (v:AVal) (u:Value),vs[i]? =some v→us[i]? =some u→VRel st m w ok v u):VRel st m w ok (.tup vs) (.tuple us.toArray)
 |cond (c:Bool) (v:AVal) (u:Value) (h1:c=true→VRel st m w ok v u) (h0:c=false→u=undef):VRel st m w ok (.cond c v) u
 |mat (id:Nat) (fz:Bool) (xs:List Tree) (h:Option (Nat×Nat×Nat)) (L:Option Nat×Nat) (hs:st id=some (.mat fz xs h)) (hm:m id=L):VRel st m w ok (.mat id) (rowVal L xs.length)
 |mptr (id i:Nat) (fz:Bool) (xs:List Tree) (h:Option (Nat×Nat×Nat)) (b:Nat) (hs:st id=some (.mat fz xs h)) (hm:(m id).1=some b):VRel st m w ok (.mptr id i) (.pointer (some ⟨b,i,none⟩))
 |junk (u:Value):VRel st m w ok .junk u
 |rowG (id n:Nat) (L:Option Nat×Nat) (hs:st id=some .gone):VRel st m w ok (.row id n) (rowVal L n)
 |eptrG (id n i sub b o:Nat) (hs:st id=some .gone):VRel st m w ok (.eptr id n i sub) (.pointer (some ⟨b,o,none⟩))
 |anyB (b:Bool):VRel st m w ok .anyB (.bool b)
 |ifc (t:TypeId) (u:Value):VRel st m w ok .ifc (.iface t u)
 |tail (id n i k:Nat) (fz:Bool) (xs:List Tree) (L:Option Nat×Nat) (hs:st id=some (.row k fz xs)) (hn:n≤xs.length) (hi:i≤n) (hu:n=xs.length→m id=L):
  VRel st m w ok (.tail id n i) (tailVal L k n i)
 |tailG (id n i k:Nat) (L:Option Nat×Nat) (hs:st id=some .gone):VRel st m w ok (.tail id n i) (tailVal L k n i)
 |hdl (id:Nat) (o:Ob) (b:Nat) (u:Value) (hs:st id=some o) (hm:(m id).1=some b) (hu:hdlVal o b=some u):VRel st m w ok (.hdl id) u
 |xl (k:Nat) (xs:List Tree) (u:Value) (h:TRep w ok (.lst k xs) u) (hc:∃A,u= .slice A xs.length xs.length):VRel st m w ok (.xl k xs) u
 |ptrG (id off b:Nat) (hs:st id=some .gone):VRel st m w ok (.ptr id off) (.pointer (some ⟨b,off,none⟩))
 |yl (id:Nat) (Y:YSpec) (pre:List (List Tree)) (hs:st id=some (.ext Y pre)):VRel st m w ok (.yl id) Y.fn
 |bsl (id n:Nat) (cs:List AVal) (b:Nat) (hs:st id=some (.box cs)) (hm:m id=(some b,n)):VRel st m w ok (.bsl id n) (rowVal (some b,n) n)
 |bslG (id n:Nat) (L:Option Nat×Nat) (hs:st id=some .gone):VRel st m w ok (.bsl id n) (rowVal L n)
 |psl (id n:Nat) (cs:List AVal) (b c:Nat) (hs:st id=some (.box cs)) (hm:m id=(some b,c+roomy)) (hn:n≤c):VRel st m w ok (.psl id n) (rowVal (some b,c) n)
 |pslG (id n:Nat) (L:Option Nat×Nat) (hs:st id=some .gone):VRel st m w ok (.psl id n) (rowVal L n)
structure Fen(P:Program) where
 mem:Nat→Prop
 bar:Nat→Prop
 says:Nat→Obj→Prop
 sub:∀b o,says b o→mem b
 sup:∀b,bar b→mem b
 tab:TabIn P says
 opn:∀b o,says b o→¬bar b
 cel:∀b o,says b o→∃us e z,o= .cells us e z
 rnd:Option Nat
 lo:Nat
instance {P:Program}:CoeFun (Fen P) (fun _=>Nat→Prop):=⟨Fen.mem⟩
variable {P:Program}
def okB(F:Fen P)(st:Store)(m:Place)(w:World)(b:Nat):Prop:=
 b<w.heap.size∧¬F.bar b∧∀id o,st id=some o→o.live=true→¬m.has id b
def BoxAt(st:Store)(m:Place)(w:World)(ok:Nat→Prop)(cs:List AVal)(L:Option Nat×Nat):Prop:=
 ∃b us e,L.1=some b∧w.heap[b]? =some (.cells us e (0,0))∧(cs.length≤us.size∧(us.size=cs.length∨roomy≤L.2))∧
  ∀(i:Nat) (v:AVal) (u:Value),cs[i]? =some v→us[i]? =some u→VRel st m w ok v u∧u.oneCell'=true
def RowAt(w:World)(ok:Nat→Prop)(k:Nat)(xs:List Tree)(L:Option Nat×Nat):Prop:=
 0<k∧(∀x∈xs,Elt k x)∧xs.length≤L.2∧L.2≤maxLen∧
  ((L.1=none∧L.2=0)∨∃b us e,L.1=some b∧w.heap[b]? =some (.cells us e (0,0))∧us.size=L.2*k∧(∀(j:Nat) (u:Value),us[j]? =some u→u.oneCell'=true)∧
   ∀(j:Nat) (T:Tree) (u:Value),(flat xs)[j]? =some T→us[j]? =some u→TRep w ok T u)
def MRel(st:Store)(m:Place)(w:World)(ok:Nat→Prop):MV→Value→Option Nat→Prop
 | .im T,u,c=>TRep w ok T u∧c=none
 | .cp cs,u,c=>VRel st m w ok (.cptr cs) u∧c=none
 | .bx cs,u,c=> ∃b us e,c=some b∧u= .pointer (some ⟨b,0,none⟩)∧w.heap[b]? =some (.cells us e (0,0))∧cs.length≤us.size∧(∀T∈cs,T.isCell=true)∧
  ∀(i:Nat) (T:Tree) (u:Value),cs[i]? =some T→us[i]? =some u→TRep w ok T u
 | .rw k xs,u,c=> ∃L,u=rowVal L xs.length∧L.1=c∧RowAt w ok k xs L
def HRel(st:Store)(m:Place)(w:World)(ok:Nat→Prop):Option (Int×AVal)→Int→MV→Value→Option Nat→Prop
 |none,_,v,u,c=>MRel st m w ok v u c
 |some (k',v'),k,v,u,c=>(k=k'→VRel st m w ok v' u∧c=none)∧(k≠k'→MRel st m w ok v u c)
def MapAt(st:Store)(m:Place)(w:World)(ok:Nat→Prop)(es:List (Int×MV))(h:Option (Int×AVal))(L:Option Nat×Nat)(g:List Nat):Prop:=
 ∃(b:Nat) (ents:List MapEntry) (bl:Nat→Option Nat),L.1=some b∧w.heap[b]? =some (.map ents.toArray ents.length)∧ents.length=es.length∧
  (∀i j c,i<es.length→j<es.length→bl i=some c→bl j=some c→i=j)∧(∀i c,i<es.length→bl i=some c→c∈g∧c≠b)∧
  (∀(i j:Nat) (x y:Int×MV),es[i]? =some x→es[j]? =some y→x.1=y.1→i=j)∧
  ∀i x e,es[i]? =some x→ents[i]? =some e→e.key= .int .i64 x.1∧e.born=i∧HRel st m w ok h x.1 x.2 e.val (bl i)
def PCell(w:World)(ok:Nat→Prop)(cs:List Tree)(b:Nat):Prop:=
 ∃us e,w.heap[b]? =some (.cells us e (0,0))∧cs.length≤us.size∧(∀T∈cs,T.isCell=true)∧∀(i:Nat) (T:Tree) (u:Value),cs[i]? =some T→us[i]? =some u→TRep w ok T u∧u.oneCell'=true
def PoolAt(st:Store)(m:Place)(w:World)(ok:Nat→Prop)(es:List (Nat×List Tree))(h:Option (Nat×Nat))(L:Option Nat×Nat)(g:List Nat):Prop:=
 L.1=none∧(es.map (·.1)).Nodup∧(∀x∈es,(∀r,h≠some (x.1,r))→x.1∈g∧PCell w ok x.2 x.1)∧∀b r,h=some (b,r)→VRel st m w ok (.ptr r 0) (.pointer (some ⟨b,0,none⟩))
def ORel(st:Store)(m:Place)(w:World)(ok:Nat→Prop):Ob→Option Nat×Nat→List Nat→Prop
 | .box cs,L,_=>BoxAt st m w ok cs L
 | .row k _ xs,L,_=>RowAt w ok k xs L
 | .mat _ xs h,L,_=>BoxAt st m w ok (matC xs h) L∧L.2=xs.length∧xs.length≤maxLen∧∀x∈xs,x.isCell=true
 | .gone,L,_=>L.1=none
 | .siter s pos,L,_=> ∃b,L.1=some b∧w.heap[b]? =some (.stringIter s pos)
 | .mp es h,L,g=>MapAt st m w ok es h L g
 | .miter mid n seen,L,_=> ∃b bm,L.1=some b∧(m mid).1=some bm∧(∃es h,st mid=some (.mp es h))∧w.heap[b]? =some (.mapIter (some bm) n seen.toArray n)
 | .ext Y pre,L,g=>L.1=none∧Y.holds pre g w∧∀b,Y.D b→ok b
 | .pool es h,L,g=>PoolAt st m w ok es h L g
structure SRel(F:Fen P)(st:Store)(m:Place)(w:World):Prop where
 objs:∀id o,st id=some o→ORel st m w (okB F st m w) o (m id) (m.g id)
 inj:∀i j oi oj b,st i=some oi→st j=some oj→m.has i b→m.has j b→i=j
 avoid:∀id o b,st id=some o→m.has id b→¬F b
 lt:∀id o b,st id=some o→m.has id b→b<w.heap.size
 low:∀b,F b→b<w.heap.size
 hold:∀b o,F.says b o→w.heap[b]? =some o
structure FrameExt(F:Fen P)(st:Store)(m:Place)(w:World)(st':Store)(m':Place)(w':World):Prop where
 os:w'.os=w.os
 tape:w'.tape=w.tape
 output:w'.output=w.output
 size:w.heap.size≤w'.heap.size
 block:∀b,b<w.heap.size→(F b∨∀id o,st id=some o→o.live=true→¬m.has id b)→w'.heap[b]? =w.heap[b]?
 keep:∀id o,st id=some o→∃o',st' id=some o'∧o.len≤o'.len∧(o.len=o'.len→m' id=m id)∧(o.live=false→o'.live=false)∧
  (∀b,m'.has id b→m.has id b∨w.heap.size≤b∨∃i oi,st i=some oi∧oi.live=true∧m.has i b)∧
  o.same o'
 new:∀id o,st' id=some o→st id=none→∀b,m'.has id b→w.heap.size≤b∨∃i oi,st i=some oi∧oi.live=true∧m.has i b
theorem SRel.held{F:Fen P}{st st':Store}{m m':Place}{w w':World}(hS:SRel F st m w)(hF:FrameExt F st m w st' m' w'):∀b o,F.says b o→w'.heap[b]? =some o:=fun b o h=>
 (hF.block b (hS.low b (F.sub b o h)) (.inl (F.sub b o h))).trans (hS.hold b o h)
theorem FrameExt.refl(F:Fen P)(st:Store)(m:Place)(w:World):FrameExt F st m w st m w:=
 ⟨rfl,rfl,rfl,Nat.le_refl _,fun _ _ _=>rfl,fun _ o h=>⟨o,h,Nat.le_refl _,fun _=>rfl,id,fun _ q=> .inl q,o.same_refl⟩,fun id o h h'=>by rw[h'] at h;cases h⟩
theorem FrameExt.back{F:Fen P}{st st':Store}{m m':Place}{w w':World}(h:FrameExt F st m w st' m' w'){i b:Nat}{oi:Ob}(hi:st' i=some oi)(hl:oi.live=true)(hb:m'.has i b):
 w.heap.size≤b∨∃j oj,st j=some oj∧oj.live=true∧m.has j b:=by
 cases h0:st i with
 |none=>exact h.new i oi hi h0 b hb
 |some o=>
  obtain⟨o',ho',_,_,hlv,hpl,_⟩:=h.keep i o h0
  rw[hi] at ho'
  cases ho'
  have hol:o.live=true:=by
   cases hh:o.live with
   |true=>rfl
   |false=>rw[hlv hh] at hl;cases hl
  rcases hpl b hb with hp|hp|hp
  ·exact .inr ⟨i,o,h0,hol,hp⟩
  ·exact .inl hp
  ·exact .inr hp
theorem FrameExt.trans{F:Fen P}{st st1 st2:Store}{m m1 m2:Place}{w w1 w2:World}(hs:SRel F st m w)(h:FrameExt F st m w st1 m1 w1)(k:FrameExt F st1 m1 w1 st2 m2 w2):
 FrameExt F st m w st2 m2 w2:=by
 have hsz:=h.size
 have two:∀b,(w1.heap.size≤b∨∃i oi,st1 i=some oi∧oi.live=true∧m1.has i b)→w.heap.size≤b∨∃i oi,st i=some oi∧oi.live=true∧m.has i b:=by
  rintro b (q| ⟨i,oi,q1,q2,q3⟩)
  ·exact .inl (by omega)
  ·exact h.back q1 q2 q3
 refine⟨k.os.trans h.os,k.tape.trans h.tape,k.output.trans h.output,Nat.le_trans h.size k.size,fun b hb hf=> ?_,fun id o ho=> ?_,fun id o ho hn b hb=> ?_⟩
 ·have h1:=h.block b hb hf
  rw[←h1]
  refine k.block b (Nat.lt_of_lt_of_le hb h.size) ?_
  rcases hf with hf|hf
  ·exact .inl hf
  ·refine .inr fun id o1 ho1 hl1 hm1=> ?_
   rcases h.back ho1 hl1 hm1 with q| ⟨i,oi,q1,q2,q3⟩
   ·omega
   ·exact hf i oi q1 q2 q3
 ·obtain⟨o1,ho1,hl,hm,hlv,hpl,hsh⟩:=h.keep id o ho
  obtain⟨o2,ho2,hl',hm',hlv',hpl',hsh'⟩:=k.keep id o1 ho1
  refine⟨o2,ho2,Nat.le_trans hl hl',fun e=> ?_,fun e=>hlv' (hlv e),fun b hb=> ?_,Ob.same_trans hsh hsh'⟩
  ·rw[hm' (by omega),hm (by omega)]
  ·rcases hpl' b hb with hp|hp
   ·exact hpl b hp
   ·exact .inr (two b hp)
 ·cases h1:st1 id with
  |none=>exact two b (k.new id o ho h1 b hb)
  |some o1=>
   obtain⟨o2,_,_,_,_,hpl,_⟩:=k.keep id o1 h1
   rcases hpl b hb with hp|hp
   ·exact h.new id o1 h1 hn b hp
   ·exact two b hp
theorem cell_of_heap{w w':World}{b:Nat}(h:w'.heap[b]? =w.heap[b]?)(o:Nat):w'.cell? ⟨b,o,none⟩=w.cell? ⟨b,o,none⟩:=by
 simp only[World.cell?,h]
theorem FrameExt.ok{F:Fen P}{st st':Store}{m m':Place}{w w':World}(h:FrameExt F st m w st' m' w'){b:Nat}(hb:okB F st m w b):okB F st' m' w' b:=by
 obtain⟨h1,h2,h3⟩:=hb
 refine⟨Nat.lt_of_lt_of_le h1 h.size,h2,fun id o' ho' hl hm=> ?_⟩
 rcases h.back ho' hl hm with q| ⟨i,oi,q1,q2,q3⟩
 ·omega
 ·exact h3 i oi q1 q2 q3
theorem FrameExt.heap{F:Fen P}{st st':Store}{m m':Place}{w w':World}(h:FrameExt F st m w st' m' w'){b:Nat}(hb:okB F st m w b):w'.heap[b]? =w.heap[b]? :=
 h.block b hb.1 (.inr hb.2.2)
theorem FrameExt.tree{F:Fen P}{st st':Store}{m m':Place}{w w':World}(h:FrameExt F st m w st' m' w'){T:Tree}{v:Value}(hT:TRep w (okB F st m w) T v):
 TRep w' (okB F st' m' w') T v:=
 hT.mono (fun _ hb=>h.ok hb) (fun b o u hb hc=>by rw[cell_of_heap (h.heap hb)];exact hc)
theorem FrameExt.val{F:Fen P}{st st':Store}{m m':Place}{w w':World}(h:FrameExt F st m w st' m' w'){v:AVal}{u:Value}(hv:VRel st m w (okB F st m w) v u):
 VRel st' m' w' (okB F st' m' w') v u:=by
 induction hv with
 |t T u hT=>exact .t T u (h.tree hT)
 |xl k xs u hT hc=>exact .xl k xs u (h.tree hT) hc
 |row id n k fz xs L hs hn hu=>
  obtain⟨o',ho',hl,hm,_,_,hsh⟩:=h.keep id _ hs
  cases o' with
  |gone=>exact .rowG id n L ho'
  |row k' fz' xs'=>
   simp only[Ob.len] at hl hm
   exact .row id n k' fz' xs' L ho' (Nat.le_trans hn hl) (fun e=>by rw[hm (by omega)];exact hu (by omega))
  |_=>simp[Ob.same] at hsh
 |ptr id off cs b hs hm=>
  obtain⟨o',ho',hl,hm',_,hpl,hsh⟩:=h.keep id _ hs
  cases o' with
  |box cs'=>
   exact .ptr id off cs' b ho' (by rw[hm' rfl];exact hm)
  |gone=>exact .ptrG id off b ho'
  |_=>simp[Ob.same] at hsh
 |mat id fz xs hh L hs hm=>
  obtain⟨o',ho',hl,hm',_,hpl,hsh⟩:=h.keep id _ hs
  cases o' with
  |mat fz' xs' h'=>
   simp only[Ob.same] at hsh
   rw[hsh]
   exact .mat id fz' xs' h' L ho' (by rw[hm' hsh];exact hm)
  |_=>simp[Ob.same] at hsh
 |mptr id i fz xs hh b hs hm=>
  obtain⟨o',ho',hl,hm',_,hpl,hsh⟩:=h.keep id _ hs
  cases o' with
  |mat fz' xs' h'=>
   simp only[Ob.same] at hsh
   exact .mptr id i fz' xs' h' b ho' (by rw[hm' hsh];exact hm)
  |_=>simp[Ob.same] at hsh
 |eptr id n i sub k fz xs b hs hn hu=>
  obtain⟨o',ho',hl,hm,_,_,hsh⟩:=h.keep id _ hs
  cases o' with
  |gone=>exact .eptrG id n i sub _ _ ho'
  |row k' fz' xs'=>
   simp only[Ob.len] at hl hm
   simp only[Ob.same] at hsh
   subst hsh
   exact .eptr id n i sub k fz' xs' b ho' (Nat.le_trans hn hl) (fun e=>by rw[hm (by omega)];exact hu (by omega))
  |_=>simp[Ob.same] at hsh
 |cptr cs b o us hb hl hc hcell hT=>
  exact .cptr cs b o us (h.ok hb) hl hc (fun j u hu=>by rw[cell_of_heap (h.heap hb)];exact hcell j u hu) (fun j T u h1 h2=>h.tree (hT j T u h1 h2))
 |agg cs us hl _ h1 ih=>exact .agg cs us hl ih h1
 |fn f cap us hl _ ih=>exact .fn f cap us hl ih
 |tup vs us hl _ ih=>exact .tup vs us hl ih
 |cond c v u _ h0 ih=>exact .cond c v u ih h0
 |junk u=>exact .junk u
 |rowG id n L hs=>
  obtain⟨o',ho',_,_,_,_,hsh⟩:=h.keep id _ hs
  cases o'<;>simp[Ob.same] at hsh
  exact .rowG id n L ho'
 |eptrG id n i sub b o hs=>
  obtain⟨o',ho',_,_,_,_,hsh⟩:=h.keep id _ hs
  cases o'<;>simp[Ob.same] at hsh
  exact .eptrG id n i sub b o ho'
 |anyB b=>exact .anyB b
 |ifc t u=>exact .ifc t u
 |tail id n i k fz xs L hs hn hi hu=>
  obtain⟨o',ho',hl,hm,_,_,hsh⟩:=h.keep id _ hs
  cases o' with
  |gone=>exact .tailG id n i k L ho'
  |row k' fz' xs'=>
   simp only[Ob.len] at hl hm
   simp only[Ob.same] at hsh
   subst hsh
   exact .tail id n i k fz' xs' L ho' (Nat.le_trans hn hl) hi (fun e=>by rw[hm (by omega)];exact hu (by omega))
  |_=>simp[Ob.same] at hsh
 |tailG id n i k L hs=>
  obtain⟨o',ho',_,_,_,_,hsh⟩:=h.keep id _ hs
  cases o'<;>simp[Ob.same] at hsh
  exact .tailG id n i k L ho'
 |hdl id o b u hs hm hu=>
  obtain⟨o',ho',hl,hm',_,hpl,hsh⟩:=h.keep id _ hs
  cases o<;>simp[hdlVal] at hu<;>subst hu<;>cases o'<;>simp[Ob.same] at hsh<;>exact .hdl id _ b _ ho' (by rw[hm' rfl];exact hm) rfl
 |ptrG id off b hs=>
  obtain⟨o',ho',_,_,_,_,hsh⟩:=h.keep id _ hs
  cases o'<;>simp[Ob.same] at hsh
  exact .ptrG id off b ho'
 |yl id Y pre hs=>
  obtain⟨o',ho',_,_,_,_,hsh⟩:=h.keep id _ hs
  cases o'<;>simp[Ob.same] at hsh
  subst hsh
  exact .yl id _ _ ho'
 |bsl id n cs b hs hm=>
  obtain⟨o',ho',hl,hm',_,hpl,hsh⟩:=h.keep id _ hs
  cases o' with
  |box cs'=>exact .bsl id n cs' b ho' (by rw[hm' rfl];exact hm)
  |gone=>exact .bslG id n _ ho'
  |_=>simp[Ob.same] at hsh
 |bslG id n L hs=>
  obtain⟨o',ho',_,_,_,_,hsh⟩:=h.keep id _ hs
  cases o'<;>simp[Ob.same] at hsh
  exact .bslG id n L ho'
 |psl id n cs b c hs hm hn=>
  obtain⟨o',ho',hl,hm',_,hpl,hsh⟩:=h.keep id _ hs
  cases o' with
  |box cs'=>exact .psl id n cs' b c ho' (by rw[hm' rfl];exact hm) hn
  |gone=>exact .pslG id n _ ho'
  |_=>simp[Ob.same] at hsh
 |pslG id n L hs=>
  obtain⟨o',ho',_,_,_,_,hsh⟩:=h.keep id _ hs
  cases o'<;>simp[Ob.same] at hsh
  exact .pslG id n L ho'
end Go.Ab
end
section
set_option linter.unusedVariables false
namespace Go.Ab
def tsz(P:Program)(t:TypeId):Option Nat:=(P.info? t).map (·.size)
def tby(P:Program)(t:TypeId):Option Nat:=(P.info? t).map (·.bytes)
def tagg(P:Program)(t:TypeId):Option Bool:=
 match P.underlying t with
 |some (.struct _)=>some true
 |some (.array _ _)=>some true
 |some _=>some false
 |none=>none
def tfield(P:Program)(s:TypeId)(i:Nat):Option Field:=
 match P.underlying s with
 |some (.struct fs)=>fs[i]?
 |_=>none
def telem(P:Program)(t:TypeId):Option TypeId:=
 match P.underlying t with
 |some (.slice e)=>some e
 |_=>none
def tzero(P:Program)(t:TypeId):Option Value:=(P.info? t).bind (·.zero)
def vcells(v:Value):Option (List Tree):=
 let l:=v.cells.toList
 if l.all Value.oneCell' then some (l.map .sc) else none
def tzeros(P:Program)(t:TypeId):Option (List Tree):=(tzero P t).bind vcells
def get:List (Nat×AVal)→Nat→AVal
 | [],_=> .junk
 | (i,v)::l,t=>bif Nat.beq i t then v else get l t
def cellsV:AVal→List AVal
 | .agg cs=>cs
 | .t (.agg cs)=>cs.map .t
 |v=>[v]
def isCellV:AVal→Bool
 | .t T=>T.isCell
 | .row _ _=>true
 | .ptr _ _=>true
 | .eptr _ _ _ _=>true
 | .cptr _=>true
 | .fn _ _=>true
 | .mat _=>true
 | .mptr _ _=>true
 | .bsl _ _=>true
 | .psl _ _=>true
 | .anyB=>true
 | .ifc=>true
 | .tail _ _ _=>true
 | .hdl _=>true
 | .yl _=>true
 |_=>false
def allT:List AVal→Option (List Tree)
 | []=>some []
 | .t T::l=>(allT l).map (T:: ·)
 |_::_=>none
def aggV(cs:List AVal):AVal:=
 match allT cs with
 |some Ts=> .t (.agg Ts)
 |none=> .agg cs
def mkV(ag:Bool)(cs:List AVal):Option AVal:=
 match ag,cs with
 |true,cs=>some (aggV cs)
 |false,[v]=>some v
 |false,_=>none
def mkT(ag:Bool)(cs:List Tree):Option Tree:=
 match ag,cs with
 |true,cs=>some (.agg cs)
 |false,[v]=>some v
 |false,_=>none
def part{α:Type}(l:List α)(off n:Nat):Option (List α):=
 let r:=(l.drop off).take n
 bif Nat.beq r.length n then some r else none
def setRange{α:Type}(l:List α)(off:Nat)(new:List α):Option (List α):=
 bif Nat.ble (off+new.length) l.length then some (l.take off++new++l.drop (off+new.length)) else none
def upd(st:Store)(i:Nat)(o:Ob):Store:=fun j=>bif Nat.beq j i then some o else st j
def app(st:Store):List (Nat×Ob)→Store
 | []=>st
 | (i,o)::l=>app (upd st i o) l
def emp:Store:=fun _=>none
def hasId:List Nat→Nat→Bool
 | [],_=>false
 |i::l,j=>bif Nat.beq i j then true else hasId l j
def only(st:Store)(l:List Nat):Store:=fun id=>bif hasId l id then st id else none
mutual
def idsV:AVal→List Nat
 | .t _=>[]
 | .row id _=>[id]
 | .ptr id _=>[id]
 | .eptr id _ _ _=>[id]
 | .cptr _=>[]
 | .agg cs=>idsL cs
 | .fn _ cap=>idsL cap
 | .tup vs=>idsL vs
 | .cond _ v=>idsV v
 | .mat id=>[id]
 | .mptr id _=>[id]
 | .anyB=>[]
 | .ifc=>[]
 | .tail id _ _=>[id]
 | .hdl id=>[id]
 | .xl _ _=>[]
 | .yl id=>[id]
 | .bsl id _=>[id]
 | .psl id _=>[id]
 | .junk=>[]
def idsL:List AVal→List Nat
 | []=>[]
 |v::l=>idsV v++idsL l
end
def Tree.free:Tree→Bool
 | .sc _=>true
 | .agg cs=>cs.all fun T=>match T with| .sc _=>true|_=>false
 | .lst _ _=>false
def memfree:AVal→Bool
 | .t T=>T.free
 | .tup vs=>vs.all fun v=>match v with| .t T=>T.free| .ifc=>true|_=>false
 |_=>false
def snap1(st:Store):AVal→Option (AVal×List (Nat×Ob)×List Prop)
 | .row id n=>match st id with
  |some (.row k fz xs)=>some (.t (.lst k xs),(bif fz then[] else[(id,.row k true xs)]),[n=xs.length])
  |_=>none
 |v=>some (v,[],[])
def snapL(st:Store):List AVal→Option (List AVal×List (Nat×Ob)×List Prop)
 | []=>some ([],[],[])
 |v::l=>match snap1 st v,snapL st l with
  |some (v',f,c),some (l',g,d)=>some (v'::l',f++g,c++d)
  |_,_=>none
def snap(st:Store):AVal→Option (AVal×List (Nat×Ob)×List Prop)
 | .agg cs=>(snapL st cs).map fun(cs,f,c)=>(aggV cs,f,c)
 |v=>snap1 st v
def snaps(st:Store):List AVal→Option (List AVal×List (Nat×Ob)×List Prop)
 | []=>some ([],[],[])
 |v::l=>match snap st v,snaps st l with
  |some (v',f,c),some (l',g,d)=>some (v'::l',f++g,c++d)
  |_,_=>none
structure Dl where
 val:AVal
 wr:List (Nat×Ob)
 cnd:List Prop
structure CallOrc where
 mode:Nat
 need:List Nat
 res:AVal
 wr:List (Nat×Ob)
structure Orc where
 val:Option AVal
 wr:Option (List (Nat×Ob))
 elt:Option Tree
 call:Option CallOrc
 fx:List (Nat×Nat):=[]
def Orc.no:Orc:=⟨none,none,none,none,[]⟩
def fix1(k i:Nat):AVal→AVal
 | .t (.agg cs)=>match cs[i]? with
  |some (.sc (.slice none 0 0))=>bif Nat.blt 0 k then .t (.agg (cs.set i (.lst k []))) else .t (.agg cs)
  |_=> .t (.agg cs)
 | .agg cs=>match cs[i]? with
  |some (.t (.sc (.slice none 0 0)))=>bif Nat.blt 0 k then .agg (cs.set i (.t (.lst k []))) else .agg cs
  |_=> .agg cs
 |v=>v
def fixN:List (Nat×Nat)→AVal→AVal
 | [],v=>v
 | (i,k)::l,v=>fixN l (fix1 k i v)
def fixW:List (Nat×Nat)→Nat→AVal→AVal
 | [],_,v=>v
 | (j,k)::l,i,v=>bif Nat.beq i j&&Nat.blt 0 k then(match v with| .t (.sc (.slice none 0 0))=> .t (.lst k [])|v=>v) else fixW l i v
def fixP(fx:List (Nat×Nat))(p:Nat×AVal):Nat×AVal:=(p.1,fixW fx p.1 p.2)
abbrev Eval:=Operand→AVal
def pure1(v:AVal)(c:List Prop):Option Dl:=some ⟨v,[],c⟩
def eltOf(c:Orc)(xs:List Tree)(i:Nat):Tree:=match c.elt with|some X=>X|none=>xs.getD i default
def fillV(place:Nat→Option (Nat×Nat))(cells:List AVal):List (Nat×AVal)→Option (List AVal)
 | []=>some cells
 | (i,v)::rest=>
  match place i with
  |none=>none
  |some (off,size)=>
   let cs:=cellsV v
   bif Nat.beq cs.length size then
    match setRange cells off cs with
    |some cells=>fillV place cells rest
    |none=>none
   else none
def structPlaces(P:Program)(fs:List Field):Option (List (Nat×Nat)):=fs.mapM (fun f=>(P.info? f.type).map fun i=>(f.offset,i.size))
def placeOf(P:Program)(t:TypeId):Option (Nat→Option (Nat×Nat)):=
 match P.underlying t with
 |some (.struct fs)=>(structPlaces P fs.toList).map fun ps i=>ps[i]?
 |some (.array _ e)=>(tsz P e).map fun s i=>some (i*s,s)
 |_=>none
def group(ag:Bool)(k:Nat):Nat→List Tree→Option (List Tree)
 |0,[]=>some []
 |0,_::_=>none
 |n+1,l=>
  match mkT ag (l.take k),group ag k n (l.drop k) with
  |some x,some r=>bif Nat.beq (l.take k).length k then some (x::r) else none
  |_,_=>none
def repl{α:Type}(l:List α):Nat→List α
 |0=>[]
 |n+1=>l++repl l n
def andI(k:IntKind)(a b:Int):Int:=k.wrap (BitVec.ofInt k.bits a&&&BitVec.ofInt k.bits b).toNat
def orI(k:IntKind)(a b:Int):Int:=k.wrap (BitVec.ofInt k.bits a|||BitVec.ofInt k.bits b).toNat
def binA(op:BinOp)(k:IntKind)(a b:Int):Option Dl:=
 match op with
 | .add=>pure1 (.t (.sc (.int k (k.wrap (a+b))))) []
 | .sub=>pure1 (.t (.sc (.int k (k.wrap (a-b))))) []
 | .mul=>pure1 (.t (.sc (.int k (k.wrap (a*b))))) []
 | .quo=>pure1 (.t (.sc (.int k (k.wrap (a.tdiv b))))) [b≠0]
 | .rem=>pure1 (.t (.sc (.int k (a.tmod b)))) [b≠0]
 | .eql=>pure1 (.t (.sc (.bool (a==b)))) []
 | .neq=>pure1 (.t (.sc (.bool (a !=b)))) []
 | .lss=>pure1 (.t (.sc (.bool (decide (a<b))))) []
 | .leq=>pure1 (.t (.sc (.bool (decide (a≤b))))) []
 | .gtr=>pure1 (.t (.sc (.bool (decide (a>b))))) []
 | .geq=>pure1 (.t (.sc (.bool (decide (a≥b))))) []
 | .and=>pure1 (.t (.sc (.int k (andI k a b)))) []
 | .or=>pure1 (.t (.sc (.int k (orI k a b)))) []
 |_=>none
def binI(op:BinOp)(k:IntKind)(a:Int)(k':IntKind)(b:Int):Option Dl:=
 match op with
 | .shl=>pure1 (.t (.sc (.int k (k.wrap (a*2^(min b.toNat k.bits)))))) [0≤b]
 | .shr=>pure1 (.t (.sc (.int k (a.fdiv (2^(min b.toNat k.bits)))))) [0≤b]
 |_=>if k=k' then binA op k a b else none
def binS(op:BinOp)(x y:ByteArray):Option Dl:=
 let eq:=x.toList==y.toList
 let lt:=Op.bytesLess x.toList y.toList
 match op with
 | .add=>pure1 (.t (.sc (.string (x++y)))) [((x.size+y.size:Nat):Int)≤IntKind.i64.max]
 | .eql=>pure1 (.t (.sc (.bool eq))) []
 | .neq=>pure1 (.t (.sc (.bool !eq))) []
 | .lss=>pure1 (.t (.sc (.bool lt))) []
 | .leq=>pure1 (.t (.sc (.bool (lt||eq)))) []
 | .gtr=>pure1 (.t (.sc (.bool !(lt||eq)))) []
 | .geq=>pure1 (.t (.sc (.bool !lt))) []
 |_=>none
def eqC(d:Option TypeDesc):Tree→Tree→Option Bool
 | .sc (.int k a),.sc (.int k' b)=>match d with
  |some (.int _)=>if k=k' then some (a==b) else none
  |_=>none
 | .sc (.string a),.sc (.string b)=>match d with
  |some .string=>some (a.toList==b.toList)
  |_=>none
 | .sc (.bool a),.sc (.bool b)=>match d with
  |some .bool=>some (a==b)
  |_=>none
 |_,_=>none
def eqL(P:Program):Nat→List Field→List Tree→List Tree→Option Bool
 |_,[],[],[]=>some true
 |i,f::fs,a::l,b::r=>
  bif Nat.beq f.offset i&&f.name != "_" then
   match eqC (P.underlying f.type) a b,eqL P (i+1) fs l r with
   |some x,some y=>some (x&&y)
   |_,_=>none
  else none
 |_,_,_,_=>none
def structEq(P:Program)(t:TypeId)(a b:List Tree):Option Bool:=
 match P.underlying t with
 |some (.struct fs)=>bif !P.stoodInHeld t&& !P.eqGuardType P.depth t then eqL P 0 fs.toList a b else none
 |_=>none
def binK(P:Program)(op:BinOp)(t:TypeId)(x y:AVal):Option Dl:=
 match x,y with
 | .t (.sc (.int k a)),.t (.sc (.int k' b))=>binI op k a k' b
 | .t (.sc (.string a)),.t (.sc (.string b))=>binS op a b
 | .t (.sc (.bool a)),.t (.sc (.bool b))=>
  match P.underlying t,op with
  |some .bool,.eql=>pure1 (.t (.sc (.bool (a==b)))) []
  |some .bool,.neq=>pure1 (.t (.sc (.bool (!(a==b))))) []
  |_,_=>none
 | .t (.agg a),.t (.agg b)=>
  match op,structEq P t a b with
  | .eql,some r=>pure1 (.t (.sc (.bool r))) []
  | .neq,some r=>pure1 (.t (.sc (.bool (!r)))) []
  |_,_=>none
 | .t (.lst _ _),.t (.sc (.slice none 0 0))=>
  match P.underlying t,op with
  |some (.slice _),.eql=>pure1 .anyB []
  |some (.slice _),.neq=>pure1 .anyB []
  |_,_=>none
 |_,_=>none
def ptrNil:AVal→Option Bool
 | .ptr _ _=>some false
 | .cptr _=>some false
 | .t (.sc (.pointer a))=>some a.isNone
 |_=>none
def binIf(P:Program)(op:BinOp)(t:TypeId)(yo:Operand)(x y:AVal):Option Dl:=
 match op,x,y with
 | .neq,.ifc,.t (.sc .nilIface)=>match P.underlying t with
  |some (.interface _)=>pure1 (.t (.sc (.bool true))) []
  |_=>none
 | .neq,.t (.sc .nilIface),.t (.sc .nilIface)=>match P.underlying t,yo with
  |some (.interface _),.const _=>pure1 (.t (.sc (.bool false))) []
  |_,_=>none
 | .eql,.ifc,.t (.sc .nilIface)=>match P.underlying t with
  |some (.interface _)=>pure1 (.t (.sc (.bool false))) []
  |_=>none
 | .eql,.t (.sc .nilIface),.t (.sc .nilIface)=>match P.underlying t,yo with
  |some (.interface _),.const _=>pure1 (.t (.sc (.bool true))) []
  |_,_=>none
 |op,x,.t (.sc (.pointer none))=>match P.underlying t,op,ptrNil x with
  |some (.pointer _),.eql,some b=>pure1 (.t (.sc (.bool b))) []
  |some (.pointer _),.neq,some b=>pure1 (.t (.sc (.bool (!b)))) []
  |_,_,_=>none
 |_,_,_=>binK P op t x y
def binNE(P:Program)(op:BinOp)(t:TypeId)(x y:AVal):Option Dl:=
 match x,y with
 | .t (.lst _ xs),.t (.sc (.slice none 0 0))=>
  match P.underlying t,op with
  |some (.slice _),.eql=>pure1 (.t (.sc (.bool false))) [xs.length≠0]
  |some (.slice _),.neq=>pure1 (.t (.sc (.bool true))) [xs.length≠0]
  |_,_=>none
 |_,_=>none
def unK(op:UnOp)(x:AVal):Option Dl:=
 match op,x with
 | .not,.t (.sc (.bool b))=>pure1 (.t (.sc (.bool (!b)))) []
 | .neg,.t (.sc (.int k n))=>pure1 (.t (.sc (.int k (k.wrap (0-n))))) []
 |_,_=>none
def bytesT(s:ByteArray):List Tree:=s.data.toList.map fun b=> .sc (.int .u8 b.toNat)
def convB(n:Nat)(o:Option Ob)(c:Orc):Option Dl:=
 match o,c.elt with
 |some (.row 1 _ xs),some (.sc (.string s))=>some ⟨.t (.sc (.string s)),[],[n=xs.length,xs=bytesT s]⟩
 |_,_=>none
def convK(P:Program)(src dst:TypeId)(x:AVal)(st:Store)(c:Orc):Option Dl:=
 match P.underlying src,P.underlying dst,x with
 |some _,some (.int k),.t (.sc (.int _ n))=>pure1 (.t (.sc (.int k (k.wrap n)))) []
 |some .string,some .string,.t (.sc (.string s))=>pure1 (.t (.sc (.string s))) []
 |some (.slice e),some .string,.row id n=>match P.underlying e with
  |some (.int .u8)=>convB n (st id) c
  |_=>none
 |_,_,_=>none
def loadK(P:Program)(t:TypeId)(a:AVal)(st:Store)(c:Orc):Option Dl:=
 match tsz P t,tagg P t,a with
 |some sz,some ag,.ptr id off=>match st id with
  |some (.box cs)=>((part cs off sz).bind (mkV ag)).bind (pure1 · [])
  |_=>none
 |some sz,some ag,.cptr cs=>((part cs off0 sz).bind (mkT ag)).bind fun T=>pure1 (.t T) []
 |some sz,some ag,.eptr id n i sub=>match st id with
  |some (.row k fz xs)=>
   let X:=eltOf c xs i
   ((part X.cells sub sz).bind (mkT ag)).bind fun T=>pure1 (.t T) [n=xs.length,xs[i]? =some X]
  |_=>none
 |some sz,some false,.mptr id i=>match st id with
  |some (.mat _ xs h)=>bif Nat.beq sz 1 then
   match c.elt with
   |some X=>pure1 (.t X) [(matC xs h)[i]? =some (.t X)]
   |none=>match h with
    |some (j,r,n)=>pure1 (.row r n) [i=j,j<xs.length]
    |none=>none
   else none
  |_=>none
 |_,_,_=>none
where off0:=0
def setCells(X:Tree)(sub:Nat)(new:List Tree):Option Tree:=
 match X with
 | .agg cs=>(setRange cs sub new).map .agg
 |_=>match new with
  | [T]=>bif Nat.beq sub 0 then some T else none
  |_=>none
def storeK(P:Program)(t:TypeId)(a v:AVal)(st:Store)(c:Orc):Option Dl:=
 match tsz P t,a with
 |some sz,.ptr id off=>match st id with
  |some (.box cs)=>
   let new:=cellsV v
   bif Nat.beq new.length sz&&new.all isCellV then(setRange cs off new).bind fun cs'=>some ⟨.junk,[(id,.box cs')],[]⟩ else none
  |_=>none
 |some sz,.eptr id n i sub=>match st id with
  |some (.row k false xs)=>
   let X:=eltOf c xs i
   match snap st v with
   |some (v',f,p)=>
    (allT (cellsV v')).bind fun new=>
    bif Nat.beq new.length sz&&new.all Tree.isCell&& !(hasId (f.map (·.1)) id) then
     (setCells X sub new).bind fun X'=>some ⟨.junk,f++[(id,.row k false (xs.set i X'))],p++[n=xs.length,xs[i]? =some X]⟩
    else none
   |none=>none
  |_=>none
 |some sz,.mptr id i=>match st id with
  |some (.mat false xs none)=>bif Nat.beq sz 1 then
   match v with
   | .row r n=>bif Nat.beq r id then none else some ⟨.junk,[(id,.mat false xs (some (i,r,n)))],[i<xs.length]⟩
   | .t T=>bif T.isCell then some ⟨.junk,[(id,.mat false (xs.set i T) none)],[i<xs.length]⟩ else none
   |_=>none
   else none
  |_=>none
 |_,_=>none
def fieldAddrK(P:Program)(s:TypeId)(a:AVal)(i:Nat):Option Dl:=
 (tfield P s i).bind fun f=>(tsz P f.type).bind fun z=>
 bif Nat.beq z 0 then none else
 match a with
 | .ptr id off=>pure1 (.ptr id (off+f.offset)) []
 | .eptr id n j sub=>pure1 (.eptr id n j (sub+f.offset)) []
 | .cptr cs=>bif Nat.ble f.offset cs.length then pure1 (.cptr (cs.drop f.offset)) [] else none
 |_=>none
def fieldK(P:Program)(s:TypeId)(x:AVal)(i:Nat):Option Dl:=
 (tfield P s i).bind fun f=>(tsz P f.type).bind fun z=>(tagg P f.type).bind fun ag=>
 match x with
 | .agg cs=>((part cs f.offset z).bind (mkV ag)).bind (pure1 · [])
 | .t (.agg cs)=>((part cs f.offset z).bind (mkT ag)).bind fun T=>pure1 (.t T) []
 |_=>none
def szIs(P:Program)(e:TypeId)(k:Nat):Bool:=match tsz P e with|some z=>Nat.beq z k|none=>false
def indexAddrK(P:Program)(t:TypeId)(x i:AVal)(st:Store)(c:Orc):Option Dl:=
 match P.underlying t,x,i with
 |some (.slice e),.t (.lst k xs),.t (.sc (.int _ j))=>
  let X:=eltOf c xs j.toNat
  bif szIs P e k then pure1 (.cptr X.cells) [0≤j,xs[j.toNat]? =some X] else none
 |some (.slice e),.row id n,.t (.sc (.int _ j))=>match st id with
  |some (.row k fz xs)=>
   bif szIs P e k then pure1 (.eptr id n j.toNat 0) [n=xs.length,0≤j,j< (n:Int)] else none
  |_=>none
 |some (.slice e),.mat id,.t (.sc (.int _ j))=>match st id with
  |some (.mat _ xs _)=>bif szIs P e 1 then pure1 (.mptr id j.toNat) [0≤j,j< (xs.length:Int)] else none
  |_=>none
 |some (.array len e),.ptr id off,.t (.sc (.int _ j))=>
  (tsz P e).bind fun z=>pure1 (.ptr id (off+j.toNat*z)) [0≤j,j< (len:Int)]
 |some (.slice e),.bsl id n,.t (.sc (.int _ j))=>match st id with
  |some (.box _)=>(tsz P e).bind fun z=>pure1 (.ptr id (j.toNat*z)) [0≤j,j< (n:Int)]
  |_=>none
 |some (.slice e),.psl id n,.t (.sc (.int _ j))=>match st id with
  |some (.box _)=>(tsz P e).bind fun z=>pure1 (.ptr id (j.toNat*z)) [0≤j,j< (n:Int)]
  |_=>none
 |_,_,_=>none
def indexK(P:Program)(t:TypeId)(x i:AVal):Option Dl:=
 match P.underlying t,x,i with
 |some .string,.t (.sc (.string s)),.t (.sc (.int _ j))=>pure1 (.t (.sc (.int .u8 ((s[j.toNat]?).getD 0).toNat))) [0≤j,j< (s.size:Int)]
 |some (.array len e),x,.t (.sc (.int _ j))=>(tsz P e).bind fun z=>(tagg P e).bind fun ag=>
  match x with
  | .agg cs=>((part cs (j.toNat*z) z).bind (mkV ag)).bind (pure1 · [0≤j,j< (len:Int)])
  | .t (.agg cs)=>((part cs (j.toNat*z) z).bind (mkT ag)).bind fun T=>pure1 (.t T) [0≤j,j< (len:Int)]
  |_=>none
 |_,_,_=>none
def sliceT(k:Nat)(xs:List Tree)(lo hi:Option Int):Tree:=
 match lo,hi with
 |none,none=> .lst k xs
 |some l,none=> .lst k (xs.drop l.toNat)
 |none,some h=> .lst k (xs.take h.toNat)
 |some l,some h=> .lst k ((xs.take h.toNat).drop l.toNat)
def sliceC(n:Nat)(lo hi:Option Int):List Prop:=
 match lo,hi with
 |none,none=>[]
 |some l,none=>[0≤l,l≤(n:Int)]
 |none,some h=>[0≤h,h≤(n:Int)]
 |some l,some h=>[0≤l,l≤h,h≤(n:Int)]
def obnd(o:Option AVal):Option (Option Int):=
 match o with
 |none=>some none
 |some (.t (.sc (.int _ j)))=>some (some j)
 |some _=>none
def sliceK(P:Program)(t:TypeId)(x:AVal)(lo hi mx:Option AVal)(st:Store):Option Dl:=
 match mx,obnd lo,obnd hi with
 |none,some lo,some hi=>
  match P.underlying t,x with
  |some .string,.t (.sc (.string s))=>
   let l:=lo.getD 0
   let h:=hi.getD (s.size:Int)
   pure1 (.t (.sc (.string (s.extract l.toNat h.toNat)))) [0≤l,l≤h,h≤(s.size:Int)]
  |some (.slice e),.t (.lst k xs)=>
   bif szIs P e k then
    pure1 (.t (sliceT k xs lo hi)) (sliceC xs.length lo hi) else none
  |some (.slice e),.t (.sc (.slice none 0 0))=>(tsz P e).bind fun _=>pure1 (.t (.sc (.slice none 0 0))) (sliceC 0 lo hi)
  |some (.slice e),.row id n=>match st id with
   |some (.row k fz xs)=>
    bif szIs P e k then
     some ⟨.t (sliceT k xs lo hi),(bif fz then[] else[(id,.row k true xs)]),(n=xs.length)::sliceC xs.length lo hi⟩ else none
   |_=>none
  |_,_=>none
 |_,_,_=>none
def sliceM(P:Program)(t:TypeId)(x:AVal)(lo hi:Option AVal)(mx:AVal):Option Dl:=
 match P.underlying t,x,lo,hi,mx with
 |some (.slice e),.t (.lst k xs),none,some (.t (.sc (.int _ h))),.t (.sc (.int _ m))=>
  bif szIs P e k then pure1 (.xl k (xs.take h.toNat)) [0≤h,h≤(xs.length:Int),m=h] else none
 |_,_,_,_,_=>none
def buildK(P:Program)(t:TypeId)(parts:List (Nat×AVal)):Option Dl:=
 (tzeros P t).bind fun z=>
 (placeOf P t).bind fun place=>bif parts.all (fun p=>(cellsV p.2).all isCellV) then(fillV place (z.map .t) parts).bind fun cs=>pure1 (aggV cs) [] else none
def buildSliceK(P:Program)(t:TypeId)(len:Nat)(parts:List (Nat×AVal))(st:Store)(nid:Nat):Option Dl:=
 (telem P t).bind fun e=>(tsz P e).bind fun k=>(tagg P e).bind fun ag=>(tzeros P e).bind fun z=>
 match snaps st (parts.map (·.2)) with
 |some (vs,f,p)=>
  bif Nat.ble (len*k) 16777216&&Nat.blt 0 k&&Nat.beq z.length k&&vs.all (fun v=>(cellsV v).all isCellV) then
   (fillV (fun i=>some (i*k,k)) ((repl z len).map .t) ((parts.map (·.1)).zip vs)).bind fun cs=>(allT cs).bind fun ts=>(group ag k len ts).bind fun xs=>
    some ⟨.row nid len,f++[(nid,.row k false xs)],p⟩
  else none
 |none=>none
def buildBoxK(P:Program)(t:TypeId)(len:Nat)(parts:List (Nat×AVal))(nid:Nat):Option Dl:=
 (telem P t).bind fun e=>(tsz P e).bind fun k=>(tzeros P e).bind fun z=>
  bif Nat.ble (len*k) 16777216&&Nat.blt 0 (len*k)&&Nat.beq z.length k&&parts.all (fun p=>(cellsV p.2).all isCellV) then
   (fillV (fun i=>some (i*k,k)) ((repl z len).map .t) parts).bind fun cs=>some ⟨.bsl nid len,[(nid,.box cs)],[]⟩
  else none
def allocK(P:Program)(e:TypeId)(nid:Nat):Option Dl:=(tzeros P e).bind fun z=>some ⟨.ptr nid 0,[(nid,.box (z.map .t))],[]⟩
def boxK(v:AVal)(nid:Nat):Option Dl:=bif (cellsV v).all isCellV then some ⟨.ptr nid 0,[(nid,.box (cellsV v))],[]⟩ else none
def TWs:List Tree→List Tree→Prop
 | [],[]=>True
 |T::l,T'::l'=>(T=T'∨(T= .sc (.slice none 0 0)∧∃k,0<k∧T'= .lst k []))∧TWs l l'
 |_,_=>False
def mkLim(b:Nat):Int:=bif Nat.ble b 256 then 1099511627776 else 8589934592
def makeSliceK(P:Program)(t:TypeId)(l c:AVal)(nid:Nat)(orc:Orc):Option Dl:=
 (telem P t).bind fun e=>(tsz P e).bind fun k=>(tby P e).bind fun b=>(tagg P e).bind fun ag=>(tzeros P e).bind fun z=>(mkT ag z).bind fun x=>
 match l,c with
 | .t (.sc (.int _ n)),.t (.sc (.int _ m))=>
  bif !orc.fx.isEmpty then
   match orc.elt with
   |some y=>bif Nat.beq k 1&&Nat.beq z.length 1&&Nat.ble b 256&&y.isCell then some ⟨.mat nid,[(nid,.mat false (List.replicate n.toNat y) none)],[0≤n,n=m,m≤1099511627776,TWs x.cells y.cells]⟩ else none
   |none=>none
  else
  bif Nat.blt 0 k&&Nat.beq z.length k&&Nat.ble b 16384 then some ⟨.row nid n.toNat,[(nid,.row k false (List.replicate n.toNat (orc.elt.getD x)))],[0≤n,n≤m,m≤mkLim b]++(match orc.elt with|some y=>[TWs x.cells y.cells]|none=>[])⟩ else none
 |_,_=>none
def lenK(P:Program)(t:TypeId)(x:AVal)(st:Store):Option Dl:=
 match P.underlying t,x with
 |some .string,.t (.sc (.string s))=>pure1 (.t (.sc (.int .i64 (s.size:Int)))) []
 |some (.slice _),.t (.lst _ xs)=>pure1 (.t (.sc (.int .i64 (xs.length:Int)))) []
 |some (.slice _),.t (.sc (.slice _ n _))=>pure1 (.t (.sc (.int .i64 (n:Int)))) []
 |some (.slice _),.row id n=>pure1 (.t (.sc (.int .i64 (n:Int)))) []
 |some (.slice _),.bsl id n=>pure1 (.t (.sc (.int .i64 (n:Int)))) []
 |some (.slice _),.psl id n=>pure1 (.t (.sc (.int .i64 (n:Int)))) []
 |some (.array n _),_=>pure1 (.t (.sc (.int .i64 (n:Int)))) []
 |_,_=>none
def srcOf(st:Store)(k:Nat):AVal→Option (List Tree×List Prop)
 | .t (.lst k' xs)=>bif Nat.beq k k' then some (xs,[]) else none
 | .t (.sc (.slice none 0 0))=>some ([],[])
 | .row id n=>match st id with
  |some (.row k' _ xs)=>bif Nat.beq k k' then some (xs,[n=xs.length]) else none
  |_=>none
 |_=>none
def lenLim(b:Nat):Nat:=bif Nat.ble b 128 then 1099511627776 else 8589934592
def appendK(P:Program)(ts:Array TypeId)(s x:AVal)(st:Store)(nid:Nat):Option Dl:=
 match ts.toList with
 | [tS,tX]=>
  (telem P tS).bind fun e=>(tsz P e).bind fun k=>(tby P e).bind fun b=>(tzeros P e).bind fun z=>(srcOf st k x).bind fun(ys,p)=>
  bif Nat.beq tS tX&&Nat.blt 0 k&&Nat.ble b 16384&&Nat.beq z.length k then
   match s with
   | .t (.sc (.slice none 0 0))=>some ⟨.row nid ys.length,[(nid,.row k false ys)],p++[ys.length≤lenLim b]⟩
   | .row id n=>match st id with
    |some (.row k' false xs)=>bif Nat.beq k k' then some ⟨.row id (n+ys.length),[(id,.row k false (xs++ys))],p++[n=xs.length,n+ys.length≤lenLim b]⟩ else none
    |_=>none
   | .xl k' xs=>bif Nat.beq k k' then some ⟨.row nid (xs.length+ys.length),[(nid,.row k false (xs++ys))],p++[0<ys.length,xs.length+ys.length≤lenLim b]⟩ else none
   |_=>none
  else none
 |_=>none
def minK(big:Bool):Int→List AVal→Option Int
 |a,[]=>some a
 |a,v::l=>match v with
  | .t (.sc (.int _ b))=>minK big (bif big then(if b>a then b else a) else(if b<a then b else a)) l
  |_=>none
def minMaxK(big:Bool)(xs:List AVal):Option Dl:=
 match xs with
 | .t (.sc (.int k a))::l=>(minK big a l).bind fun r=>pure1 (.t (.sc (.int k r))) []
 |_=>none
def sliceX(P:Program)(t:TypeId)(x:AVal)(lo hi mx:Option AVal)(st:Store)(nid:Nat):Option Dl:=
 match mx,obnd lo,obnd hi with
 |none,some (some l),some none=>
  match P.underlying t,x with
  |some (.slice e),.row id n=>match st id with
   |some (.row k fz xs)=>bif szIs P e k then pure1 (.tail id n l.toNat) [n=xs.length,0≤l,l≤(n:Int)] else none
   |_=>none
  |_,_=>none
 |none,some none,some (some h)=>
  match P.underlying t,x with
  |some (.slice e),.row id n=>match st id with
   |some (.row k false xs)=>bif szIs P e k then some ⟨.row nid h.toNat,[(id,.gone),(nid,.row k false (xs.take h.toNat))],[n=xs.length,0≤h,h≤(n:Int)]⟩ else none
   |_=>none
  |_,_=>none
 |_,_,_=>none
def clearK(P:Program)(t:TypeId)(x:AVal)(st:Store):Option Dl:=
 (telem P t).bind fun e=>(tsz P e).bind fun k=>(tagg P e).bind fun ag=>(tzeros P e).bind fun z=>(mkT ag z).bind fun X=>
 match x with
 | .tail id n i=>match st id with
  |some (.row k' false xs)=>bif Nat.beq k k'&&Nat.beq z.length k then some ⟨.tup [],[(id,.row k false (xs.take i++List.replicate (n-i) X))],[n=xs.length,i≤n]⟩ else none
  |_=>none
 |_=>none
def rangeK(P:Program)(t:TypeId)(x:AVal)(nid:Nat):Option Dl:=
 match P.underlying t,x with
 |some .string,.t (.sc (.string s))=>some ⟨.hdl nid,[(nid,.siter s 0)],[]⟩
 |_,_=>none
def nextK(it:AVal)(isStr:Bool)(st:Store)(c:Orc):Option Dl:=
 match it with
 | .hdl id=>match st id with
  |some (.siter s p)=>bif isStr then
   bif c.fx.isEmpty then some ⟨.tup [.t (.sc (.bool true)),.t (.sc (.int .i64 (p:Int))),.t (.sc (.int .i32 ((Utf8.decode s p).1:Int)))],[(id,.siter s (p+(Utf8.decode s p).2))],[p<s.size]⟩
   else some ⟨.tup [.t (.sc (.bool false))],[],[s.size≤p]⟩
   else none
  |_=>none
 |_=>none
def lookE:List (Int×MV)→Int→Option MV
 | [],_=>none
 | (k',v)::l,k=>if k=k' then some v else lookE l k
def putE:List (Int×MV)→Int→MV→List (Int×MV)
 | [],k,v=>[(k,v)]
 | (k',v')::l,k,v=>if k=k' then(k',v)::l else(k',v')::putE l k v
def mapElem(P:Program)(t:TypeId):Option TypeId:=
 match P.underlying t with
 |some (.map k e)=>match P.underlying k with
  |some (.int .i64)=>some e
  |_=>none
 |_=>none
def makeMapK(P:Program)(t:TypeId)(r:Option Operand)(nid:Nat):Option Dl:=
 match r with
 |none=>some ⟨.hdl nid,[(nid,.mp [] none)],[]⟩
 |some _=>none
def tupOk(ok:Bool)(v:AVal)(b:Bool):AVal:=bif ok then .tup [v,.t (.sc (.bool b))] else v
def lookT(es:List (Int×MV))(n:Int)(z:Tree):Option Tree:=
 match lookE es n with
 |none=>some z
 |some (.im T)=>some T
 |_=>none
def lookQ(es:List (Int×MV))(n:Int)(k:Nat):Option (List Tree):=
 match lookE es n with
 |none=>some []
 |some (.im (.lst k' xs))=>if k'=k then some xs else none
 |_=>none
def lookupK(P:Program)(t:TypeId)(x k:AVal)(ok:Bool)(st:Store)(nid:Nat)(c:Orc):Option Dl:=
 match mapElem P t,x,k,c.call with
 |some e,.hdl id,.t (.sc (.int .i64 n)),some co=>match st id with
  |some (.mp es none)=>match co.mode with
   |0=>(tzero P e).bind fun z=>bif z.oneCell' then pure1 (tupOk ok (.t (.sc z)) false) [lookE es n=none] else none
   |1=>match co.res with
    | .t T=>pure1 (tupOk ok (.t T) true) [lookE es n=some (.im T)]
    | .cptr cs=>pure1 (tupOk ok (.cptr cs) true) [lookE es n=some (.cp cs)]
    |_=>none
   |2=>match co.wr with
    | [(_,.box cs)]=>(allT cs).bind fun Ts=>some ⟨tupOk ok (.ptr nid 0) true,[(id,.mp es (some (n,.ptr nid 0))),(nid,.box cs)],[lookE es n=some (.bx Ts)]⟩
    | [(_,.row k' _ xs)]=>some ⟨tupOk ok (.row nid xs.length) true,[(id,.mp es (some (n,.row nid xs.length))),(nid,.row k' false xs)],[lookE es n=some (.rw k' xs)]⟩
    |_=>none
   |3=>match co.res with
    | .t (.lst k' xs)=>some ⟨tupOk ok (.t (.lst k' xs)) true,[(id,.mp (putE es n (.im (.lst k' xs))) none)],[lookE es n=some (.rw k' xs)]⟩
    |_=>none
   |4=>(tzero P e).bind fun z=>bif z.oneCell' then match ok,co.res with
    |false,.t T=>pure1 (.t T) [lookT es n (.sc z)=some T]
    |true,.tup [.t T,.t (.sc (.bool b))]=>pure1 (.tup [.t T,.t (.sc (.bool b))]) [lookT es n (.sc z)=some T,(lookE es n).isSome=b]
    |_,_=>none
    else none
   |5=>match tzero P e,ok,co.res with
    |some (.slice none 0 0),false,.t (.lst k' xs)=>bif Nat.blt 0 k' then pure1 (.t (.lst k' xs)) [lookQ es n k'=some xs] else none
    |_,_,_=>none
   |_=>none
  |_=>none
 |_,_,_,_=>none
def holeC(n:Int):Option (Int×AVal)→List Prop
 |none=>[]
 |some (n',_)=>[n=n']
def mapUpdK(P:Program)(t:TypeId)(x k v:AVal)(st:Store)(c:Orc):Option Dl:=
 match mapElem P t,x,k with
 |some _,.hdl id,.t (.sc (.int .i64 n))=>match st id with
  |some (.mp es h)=>match v with
   | .t T=>some ⟨.junk,[(id,.mp (putE es n (.im T)) none)],holeC n h⟩
   | .cptr cs=>some ⟨.junk,[(id,.mp (putE es n (.cp cs)) none)],holeC n h⟩
   | .row r q=>match st r with
    |some (.row k' false xs)=>bif Nat.beq r id then none else
     bif c.fx.isEmpty then some ⟨.junk,[(r,.row k' true xs),(id,.mp (putE es n (.im (.lst k' xs))) none)],(q=xs.length)::holeC n h⟩
     else some ⟨.junk,[(r,.gone),(id,.mp (putE es n (.rw k' xs)) none)],(q=xs.length)::holeC n h⟩
    |_=>none
   | .ptr r 0=>match st r with
    |some (.box cs)=>bif Nat.beq r id|| !(cs.all isCellV) then none else(allT cs).bind fun Ts=>
     bif c.fx.isEmpty then some ⟨.junk,[(r,.gone),(id,.mp (putE es n (.bx Ts)) none)],holeC n h⟩
     else some ⟨.junk,[(r,.gone),(id,.mp (putE es n (.cp Ts)) none)],holeC n h⟩
    |_=>none
   |_=>none
  |_=>none
 |_,_,_=>none
def rangeMK(P:Program)(t:TypeId)(x:AVal)(st:Store)(nid:Nat):Option Dl:=
 match P.underlying t,x with
 |some (.map _ _),.hdl id=>match st id with
  |some (.mp es _)=>some ⟨.hdl nid,[(nid,.miter id es.length [])],[]⟩
  |_=>none
 |_,_=>none
def entryK(it:AVal)(st:Store)(nid:Nat)(c:Orc):Option Dl:=
 match it,c.call,c.elt with
 | .hdl id,some co,some (.sc (.int .i64 i))=>match st id with
  |some (.miter mid n seen)=>match st mid with
   |some (.mp es none)=>match co.res with
    | .tup [.t (.sc (.int .i64 k)),v]=>match co.mode,v with
     |0,.junk=>pure1 (.tup [.t (.sc (.int .i64 k)),.junk]) [es.length=n,seen.getLast? =some i.toNat,(es[i.toNat]?).map (·.1)=some k]
     |1,.t T=>pure1 (.tup [.t (.sc (.int .i64 k)),.t T]) [es.length=n,seen.getLast? =some i.toNat,es[i.toNat]? =some (k,.im T)]
     |1,.cptr cs=>pure1 (.tup [.t (.sc (.int .i64 k)),.cptr cs]) [es.length=n,seen.getLast? =some i.toNat,es[i.toNat]? =some (k,.cp cs)]
     |2,_=>match co.wr with
      | [(_,.box cs)]=>(allT cs).bind fun Ts=>some ⟨.tup [.t (.sc (.int .i64 k)),.ptr nid 0],[(mid,.mp es (some (k,.ptr nid 0))),(nid,.box cs)],[es.length=n,seen.getLast? =some i.toNat,es[i.toNat]? =some (k,.bx Ts)]⟩
      |_=>none
     |_,_=>none
    |_=>none
   |_=>none
  |_=>none
 |_,_,_=>none
def FC(P:Program)(f:FuncId)(args:List AVal)(st:Store)(res:AVal)(st':Store):Prop:=
 ∀(F:Fen P) (m:Place) (w:World) (us:List Value),SRel F st m w→us.length=args.length→
  (∀(i:Nat) (v:AVal) (u:Value),args[i]? =some v→us[i]? =some u→VRel st m w (okB F st m w) v u)→
  Calls P f us.toArray w fun e w'=> ∃v m',e= .returned v∧SRel F st' m' w'∧FrameExt F st m w st' m' w'∧VRel st' m' w' (okB F st' m' w') res v
def FCX(P:Program){Z:Type}(f:FuncId)(args:List AVal)(st:Store)(R:Z→Prop)(res:Z→AVal)(st':Z→Store):Prop:=
 ∀(F:Fen P) (m:Place) (w:World) (us:List Value),SRel F st m w→us.length=args.length→
  (∀(i:Nat) (v:AVal) (u:Value),args[i]? =some v→us[i]? =some u→VRel st m w (okB F st m w) v u)→
  Calls P f us.toArray w fun e w'=> ∃z v m',R z∧e= .returned v∧SRel F (st' z) m' w'∧FrameExt F st m w (st' z) m' w'∧VRel (st' z) m' w' (okB F (st' z) m' w') (res z) v
theorem FCX.one{P:Program}{f:FuncId}{args:List AVal}{st st':Store}{res:AVal}{R:Unit→Prop}(h:FCX P f args st R (fun _=>res) (fun _=>st')):FC P f args st res st':=fun F m w us h1 h2 h3=>
 (h F m w us h1 h2 h3).mono fun e w' ⟨_,v,m',_,q⟩=>⟨v,m',q⟩
theorem FC.x{P:Program}{f:FuncId}{args:List AVal}{st st':Store}{res:AVal}(h:FC P f args st res st'):FCX P (Z:=Unit) f args st (fun _=>True) (fun _=>res) (fun _=>st'):=fun F m w us h1 h2 h3=>
 (h F m w us h1 h2 h3).mono fun e w' ⟨v,m',q⟩=>⟨(),v,m',trivial,q⟩
def callable(P:Program)(f:FuncId):Bool:=
 match P.funcs[f]? with
 |some fn=>fn.body.isSome&& !(fn.name== "runtime.NumGoroutine")
 |none=>false
def closedS(st:Store)(need:List Nat):Bool:=need.all fun id=>match st id with|some (.box cs)=>(idsL cs).all (hasId need)|some (.mat _ _ (some _))=>false|some (.mp _ (some _))=>false|some (.pool _ (some _))=>false|some (.miter mid _ _)=>hasId need mid|_=>true
def lookL(st:Store):List Nat→Option (List (Nat×Ob))
 | []=>some []
 |i::l=>match st i,lookL st l with
  |some o,some r=>some ((i,o)::r)
  |_,_=>none
def callK(P:Program)(f:FuncId)(vals:List AVal)(st:Store)(nid:Nat)(c:CallOrc):Option Dl:=
 match c.mode with
 |0=>match snaps st vals with
  |some (vs,_,p)=>bif memfree c.res&&(idsL vs).isEmpty then some ⟨c.res,[],(callable P f=true)::(p++[FC P f vs emp c.res emp])⟩ else none
  |none=>none
 |1=>match snaps st vals with
  |some (vs,g,p)=>
   bif c.wr.all (fun x=>Nat.ble nid x.1&&Nat.blt x.1 (nid+8))&&(idsL vs).isEmpty then some ⟨c.res,g++c.wr,(callable P f=true)::(p++[FC P f vs emp c.res (app emp c.wr)])⟩ else none
  |none=>none
 |3=>match lookL st c.need with
  |some l=>bif c.wr.all (fun x=>hasId c.need x.1|| (Nat.ble nid x.1&&Nat.blt x.1 (nid+8)))&&(idsL vals).all (hasId c.need)&&closedS st c.need then
   some ⟨c.res,c.wr,[callable P f=true,FC P f vals (app emp l) c.res (app (app emp l) c.wr)]⟩ else none
  |none=>none
 |_=>
  bif c.wr.all (fun x=>hasId c.need x.1|| (Nat.ble nid x.1&&Nat.blt x.1 (nid+8)))&&(idsL vals).all (hasId c.need)&&closedS st c.need then
   some ⟨c.res,c.wr,[callable P f=true,FC P f vals (only st c.need) c.res (app (only st c.need) c.wr)]⟩ else none
def CallV(P:Program)(u:Value)(args:Array Value)(w:World)(R:Ending→World→Prop):Prop:=
 ∃t cap nx,u= .func t #[] cap∧(invoke (.fn t cap) args).run P w= .ok nx w∧
  match nx with
  | .enter f bs=>CallsIn Fence.wide 0 P f bs w R
  | .round l f tmps asg b=>RoundIn Fence.wide 0 P l f tmps asg b w R
  |_=>False
def YPost(Y:YSpec)(pre:List (List Tree))(xs:List Tree)(g:List Nat)(w:World)(e:Ending)(w':World):Prop:=
 e= .returned (.bool (Y.goes (pre++[xs])))∧w'.os=w.os∧w'.tape=w.tape∧w'.output=w.output∧w.heap.size≤w'.heap.size∧
  (∀b,b<w.heap.size→b∉g→w'.heap[b]? =w.heap[b]?)∧
  ∃g',(∀b∈g,b∈g')∧(∀b∈g',b∈g∨(w.heap.size≤b∧b<w'.heap.size))∧Y.holds (pre++[xs]) g' w'
def YCalls(P:Program)(Y:YSpec):Prop:=
 ∀(pre:List (List Tree)) (xs:List Tree) (us:List Value) (g:List Nat) (w:World),Y.adm pre xs→Y.holds pre g w→(∀b∈g,b<w.heap.size)→us.length=xs.length→
  (∀(i:Nat) (x:Tree) (u:Value),xs[i]? =some x→us[i]? =some u→TRep w (fun _=>False) x u)→CallV P Y.fn us.toArray w (YPost Y pre xs g w)
def yieldK(P:Program)(id:Nat)(vals:List AVal)(st:Store):Option Dl:=
 match st id,allT vals with
 |some (.ext Y pre),some xs=>bif xs.all Tree.free then some ⟨.t (.sc (.bool (Y.goes (pre++[xs])))),[(id,.ext Y (pre++[xs]))],[YCalls P Y,Y.adm pre xs]⟩ else none
 |_,_=>none
def ev(sl:List (Nat×AVal)):Operand→AVal
 | .tmp t=>get sl t
 | .const (.agg cs)=>bif cs.toList.all Value.oneCell' then .t (.agg (cs.toList.map .sc)) else .junk
 | .const (.tuple _)=> .junk
 | .const v=> .t (.sc v)
 | .func f=> .fn f []
 | .global _=> .junk
def bare:AVal→AVal
 | .cond _ v=>v
 |v=>v
def reqs(ρ:Eval):List Operand→List Prop
 | []=>[]
 |x::l=>match ρ x with
  | .cond c _=>(c=true)::reqs ρ l
  |_=>reqs ρ l
def aop(P:Program)(op:Op)(ty:TypeId)(ρ:Eval)(st:Store)(nid:Nat)(c:Orc):Option Dl:=
 match op with
 | .move x=>pure1 (ρ x) []
 | .assign x=>pure1 (ρ x) []
 | .alloc e=>allocK P e nid
 | .box _ x=>boxK (ρ x) nid
 | .build t ps=>buildK P t (ps.toList.map fun(i,x)=>(i,ρ x))
 | .buildSlice t len ps=>bif c.elt.isSome then buildBoxK P t len (ps.toList.map fun(i,x)=>(i,ρ x)) nid else buildSliceK P t len ((ps.toList.map fun(i,x)=>(i,ρ x)).map (fixP c.fx)) st nid
 | .load t a=>loadK P t (ρ a) st c
 | .store t a x=>storeK P t (ρ a) (ρ x) st c
 | .nilCheck x=>match ρ x with
  | .ptr id off=>pure1 (.ptr id off) []
  | .eptr id n i sub=>pure1 (.eptr id n i sub) []
  | .cptr cs=>pure1 (.cptr cs) []
  | .fn f cap=>pure1 (.fn f cap) []
  | .mptr id i=>pure1 (.mptr id i) []
  | .yl id=>pure1 (.yl id) []
  |_=>none
 | .binOp b t x y _=>bif c.fx.isEmpty then binIf P b t y (ρ x) (ρ y) else binNE P b t (ρ x) (ρ y)
 | .unOp u _ x=>unK u (ρ x)
 | .convert s d x=>convK P s d (ρ x) st c
 | .makeFunc (.func f) first cap=>bif first.isEmpty then pure1 (.fn f (cap.toList.map ρ)) [] else none
 | .makeSlice t l k=>makeSliceK P t (ρ l) (ρ k) nid c
 | .slice t x lo hi none=>bif c.fx.isEmpty then sliceK P t (ρ x) (lo.map ρ) (hi.map ρ) none st else sliceX P t (ρ x) (lo.map ρ) (hi.map ρ) none st nid
 | .slice t x lo hi (some mx)=>sliceM P t (ρ x) (lo.map ρ) (hi.map ρ) (ρ mx)
 | .range t x=>bif c.fx.isEmpty then rangeK P t (ρ x) nid else rangeMK P t (ρ x) st nid
 | .makeMap t r=>makeMapK P t r nid
 | .lookup t x k ok=>lookupK P t (ρ x) (ρ k) ok st nid c
 | .mapUpdate t x k v=>mapUpdK P t (ρ x) (ρ k) (ρ v) st c
 | .insert t x k v=>mapUpdK P t (ρ x) (ρ k) (ρ v) st c
 | .entry it=>entryK (ρ it) st nid c
 | .next it s=>nextK (ρ it) s st c
 | .fieldAddr s a f=>fieldAddrK P s (ρ a) f
 | .field s x f=>fieldK P s (ρ x) f
 | .indexAddr t x i=>indexAddrK P t (ρ x) (ρ i) st c
 | .index t x i=>indexK P t (ρ x) (ρ i)
 | .extract t i=>match ρ t with
  | .tup vs=>vs[i]?.bind (pure1 · [])
  |_=>none
 | .call {callee:= .builtin .len,args,argTypes}=>match args.toList,argTypes.toList with
  | [x],[t]=>lenK P t (ρ x) st
  |_,_=>none
 | .call {callee:= .builtin .append,args,argTypes}=>match args.toList with
  | [s,x]=>appendK P argTypes (ρ s) (ρ x) st nid
  |_=>none
 | .call {callee:= .builtin .clear,args,argTypes}=>match args.toList,argTypes.toList with
  | [x],[t]=>clearK P t (ρ x) st
  |_,_=>none
 | .call {callee:= .builtin .max,args,argTypes}=>minMaxK true (args.toList.map ρ)
 | .call {callee:= .builtin .min,args,argTypes}=>minMaxK false (args.toList.map ρ)
 | .call {callee:= .value f,args,argTypes}=>match ρ f,c.call with
  | .fn f cap,some co=>callK P f (args.toList.map ρ++cap) st nid co
  | .yl id,_=>yieldK P id (args.toList.map ρ) st
  |_,_=>none
 |_=>none
structure St where
 sl:List (Nat×AVal)
 st:Store
 nx:Nat
structure Res where
 val:AVal
 wr:List (Nat×Ob)
 need:List Nat
 cnd:List Prop
def noStore:Op→Bool
 | .move _=>true
 | .assign _=>true
 | .pick _ _ _=>true
 | .binOp _ _ _ _ _=>true
 | .unOp _ _ _=>true
 | .nilCheck _=>true
 | .fieldAddr _ _ _=>true
 | .field _ _ _=>true
 | .makeFunc _ _ _=>true
 | .extract _ _=>true
 | .alloc _=>true
 |_=>false
def needOf(ρ:Eval)(op:Op)(c:Orc):List Nat:=
 (bif noStore op then[] else idsL (op.operands.toList.map ρ))++(match c.call with|some co=>co.need|none=>[])
def slotOf(ops:List Oper)(j:Nat):Option Nat:=(ops[j]?).bind (·.dst)
def guardOf(ops:List Oper)(sl:List (Nat×AVal))(o:Oper):Option (Option Bool):=
 match o.guard with
 |none=>some none
 |some (j,want)=>match slotOf ops j with
  |none=>none
  |some d=>match get sl d with
   | .t (.sc (.bool g))=>some (some (bif want then g else !g))
   | .cond c (.t (.sc (.bool g)))=>some (some (c&&(bif want then g else !g)))
   |_=>none
def pickK(c a b:AVal):Option Dl:=
 match bare c,bare a,bare b with
 | .t (.sc (.bool g)),.t (.sc (.bool x)),.t (.sc (.bool y))=>
  some ⟨.t (.sc (.bool (bif g then x else y))),[],
   (match c with| .cond k _=>[k=true]|_=>[])++(match a with| .cond k _=>[g=true→k=true]|_=>[])++(match b with| .cond k _=>[g=false→k=true]|_=>[])⟩
 |_,_,_=>none
def ovC{α:Type}(o:Option α)(d:α):List Prop:=match o with|some v=>[v=d]|none=>[]
def Weak(d v:AVal):Prop:=∀(st:Store) (m:Place) (w:World) (ok:Nat→Prop) (u:Value),VRel st m w ok d u→VRel st m w ok v u
def wkC(o:Option AVal)(d:AVal):List Prop:=match o with|some v=>[Weak d v]|none=>[]
def exec0(P:Program)(s:St)(o:Oper)(nid:Nat)(c:Orc):Option Res:=
 let ρ:=ev s.sl
 match o.op with
 | .pick g a b=>(pickK (ρ g) (ρ a) (ρ b)).map fun δ=>⟨δ.val,[],[],δ.cnd⟩
 |op=>
  let need:=needOf ρ op c
  (aop P op o.type (fun x=>bare (ρ x)) (only s.st need) nid c).map fun δ=>
   ⟨fixN c.fx (c.val.getD δ.val),c.wr.getD δ.wr,need,reqs ρ op.operands.toList++δ.cnd++wkC c.val δ.val++ovC c.wr δ.wr⟩
def exec1'(P:Program)(ops:List Oper)(s:St)(o:Oper)(nid:Nat)(c:Orc):Option Res:=
 match guardOf ops s.sl o,exec0 P s o nid c with
 |some none,some r=>some r
 |some (some e),some r=>some ⟨.cond e r.val,r.wr,r.need,r.cnd.map (fun p=>e=true→p)++(match r.wr with| []=>[]|_::_=>[e=true])⟩
 |_,_=>none
def skipV(c:Orc):Option AVal:=match c.call with
 |some ⟨9,_,v,_⟩=>some v
 |_=>none
def exec1(P:Program)(ops:List Oper)(s:St)(o:Oper)(nid:Nat)(c:Orc):Option Res:=
 match skipV c with
 |some v=>match guardOf ops s.sl o with
  |some (some e)=>some ⟨.cond e v,[],[],[e=false]⟩
  |_=>none
 |none=>exec1' P ops s o nid c
def put(sl:List (Nat×AVal))(d:Option Nat)(v:AVal):List (Nat×AVal):=
 match d with
 |some d=>(d,v)::sl
 |none=>sl
def orcAt:List (Nat×Orc)→Nat→Orc
 | [],_=>Orc.no
 | (i,c)::l,j=>bif Nat.beq i j then c else orcAt l j
def runL(P:Program)(ops:List Oper)(orcs:List (Nat×Orc))(nx:Nat):Nat→List Oper→St→Option (St×List Res)
 |_,[],s=>some (s,[])
 |i,o::rest,s=>
  match exec1 P ops s o (nx+8*i) (orcAt orcs i) with
  |some r=>bif !(r.wr.all fun x=>Nat.blt x.1 (nx+8*i+8)) then none else match runL P ops orcs nx (i+1) rest ⟨put s.sl o.dst r.val,app s.st r.wr,s.nx⟩ with
   |some (s',rs)=>some (s',r::rs)
   |none=>none
  |none=>none
def dstOk(n:Nat)(o:Oper):Bool:=match o.dst with|some d=>Nat.blt d n|none=>true
def allC:List Res→List Prop
 | []=>[]
 |r::l=>r.cnd++allC l
def All:List Prop→Prop
 | []=>True
 |p::l=>p∧All l
def keepS(sl:List (Nat×AVal)):List Nat→List (Nat×AVal)
 | []=>[]
 |k::l=>(k,get sl k)::keepS sl l
def maskStep(ms:List Nat)(o:Oper):Nat:=o.after.toList.foldl (fun s e=>bif Region.binds .any e then s|||2^e.on|||ms.getD e.on 0 else s) 0
def masks:List Oper→List Nat→List Nat
 | [],ms=>ms
 |o::l,ms=>masks l (ms++[maskStep ms o])
def looks(ops:List Oper)(o:Oper):List Nat:=
 (o.op.operands.toList.filterMap fun| .tmp t=>some t|_=>none)++(match o.guard with|some (j,_)=>(slotOf ops j).toList|none=>[])
def metL(a b:List Nat):Bool:=a.any fun i=>hasId b i
def wrIds(r:Res):List Nat:=r.wr.map (·.1)
def apart(ops:List Oper)(nid:Nat)(o o':Oper)(r r':Res):Bool:=
 !(match o.dst with|some d=>hasId (looks ops o') d|| (match o'.dst with|some d'=>Nat.beq d d'|none=>false)|none=>false)&&
 !(match o'.dst with|some d=>hasId (looks ops o) d|none=>false)&&
 !(metL (wrIds r) (r'.need++wrIds r'))&& !(metL (wrIds r') r.need)&& !((wrIds r').any fun x=>Nat.ble nid x&&Nat.blt x (nid+8))
def edgesOk(i:Nat)(o:Oper):Bool:=o.after.toList.all fun e=> !(Region.binds .any e)||Nat.blt e.on i
def edgesAll:Nat→List Oper→Bool
 |_,[]=>true
 |i,o::l=>edgesOk i o&&edgesAll (i+1) l
def apartFrom(ops:List Oper)(nid i:Nat)(o:Oper)(r:Res):List Oper→List Res→List Nat→Bool
 |o'::l,r'::rs,mk::ms=>(Nat.testBit mk i||apart ops nid o o' r r')&&apartFrom ops nid i o r l rs ms
 | [],[],[]=>true
 |_,_,_=>false
def apartAll(ops:List Oper)(nx:Nat):Nat→List Oper→List Res→List Nat→Bool
 |i,o::l,r::rs,_::ms=>apartFrom ops (nx+8*i) i o r l rs ms&&apartAll ops nx (i+1) l rs ms
 |_,[],[],[]=>true
 |_,_,_,_=>false
def drawOk(ops:List Oper)(nx:Nat)(rs:List Res):Bool:=edgesAll 0 ops&&apartAll ops nx 0 ops rs (masks ops [])
def runR(P:Program)(n:Nat)(ops:List Oper)(draw:Bool)(orcs:List (Nat×Orc))(keys:List Nat)(s:St):Option (St×List Prop):=
 match runL P ops orcs s.nx 0 ops s with
 |some (s',rs)=>
  bif (ops.all (dstOk n))&&(!draw||drawOk ops s.nx rs) then some (⟨keepS s'.sl keys,s'.st,s.nx+8*ops.length⟩,allC rs) else none
 |none=>none
end Go.Ab
end
section
set_option linter.unusedVariables false
namespace Go.Ab
variable {P:Program}
theorem beq_ne{a b:Nat}(h:a≠b):Nat.beq a b=false:=by
 cases hh:Nat.beq a b with
 |false=>rfl
 |true=>exact absurd (Nat.eq_of_beq_eq_true hh) h
theorem hasId_iff{l:List Nat}{j:Nat}:hasId l j=true↔j∈l:=by
 induction l with
 |nil=>simp[hasId]
 |cons a l ih=>
  simp only[hasId,List.mem_cons]
  by_cases h:a=j
  ·subst h;simp
  ·have:Nat.beq a j=false:=beq_ne h
   rw[this];simp only[cond_false,ih]
   exact⟨.inr,fun h'=>h'.resolve_left (fun e=>h e.symm)⟩
theorem only_some{st:Store}{l:List Nat}{id:Nat}{o:Ob}(h:only st l id=some o):st id=some o∧id∈l:=by
 unfold only at h
 cases hh:hasId l id with
 |true=>rw[hh] at h;exact⟨h,hasId_iff.1 hh⟩
 |false=>rw[hh] at h;cases h
theorem only_mem{st:Store}{l:List Nat}{id:Nat}(h:id∈l):only st l id=st id:=by
 unfold only;rw[hasId_iff.2 h];rfl
theorem upd_same(st:Store)(i:Nat)(o:Ob):upd st i o i=some o:=by simp[upd]
theorem upd_ne{st:Store}{i j:Nat}{o:Ob}(h:j≠i):upd st i o j=st j:=by
 have:Nat.beq j i=false:=beq_ne h
 simp[upd,this]
theorem VRel.ext{st st':Store}{m m':Place}{w:World}{ok ok':Nat→Prop}(hs:∀id o,st id=some o→st' id=some o∧m' id=m id)(hok:∀b,ok b→ok' b)
 {v:AVal} {u:Value} (h:VRel st m w ok v u):VRel st' m' w ok' v u:=by
 induction h with
 |t T u hT=>exact .t T u (hT.mono hok (fun _ _ _ _ h=>h))
 |xl k xs u hT hc=>exact .xl k xs u (hT.mono hok (fun _ _ _ _ h=>h)) hc
 |row id n k fz xs L h1 h2 h3=>exact .row id n k fz xs L (hs _ _ h1).1 h2 (by rw[(hs _ _ h1).2];exact h3)
 |ptr id off cs b h1 h2=>exact .ptr id off cs b (hs _ _ h1).1 (by rw[(hs _ _ h1).2];exact h2)
 |bsl id n cs b h1 h2=>exact .bsl id n cs b (hs _ _ h1).1 (by rw[(hs _ _ h1).2];exact h2)
 |psl id n cs b c h1 h2 h3=>exact .psl id n cs b c (hs _ _ h1).1 (by rw[(hs _ _ h1).2];exact h2) h3
 |bslG id n L h1=>exact .bslG id n L (hs _ _ h1).1
 |pslG id n L h1=>exact .pslG id n L (hs _ _ h1).1
 |eptr id n i sub k fz xs b h1 h2 h3=>exact .eptr id n i sub k fz xs b (hs _ _ h1).1 h2 (by rw[(hs _ _ h1).2];exact h3)
 |mat id fz xs hh L h1 h2=>exact .mat id fz xs hh L (hs _ _ h1).1 (by rw[(hs _ _ h1).2];exact h2)
 |mptr id i fz xs hh b h1 h2=>exact .mptr id i fz xs hh b (hs _ _ h1).1 (by rw[(hs _ _ h1).2];exact h2)
 |cptr cs b o us h1 h2 h3 h4 h5=>exact .cptr cs b o us (hok _ h1) h2 h3 h4 (fun j T u a b=>(h5 j T u a b).mono hok (fun _ _ _ _ h=>h))
 |agg cs us h1 _ h3 ih=>exact .agg cs us h1 ih h3
 |fn f cap us h1 _ ih=>exact .fn f cap us h1 ih
 |tup vs us h1 _ ih=>exact .tup vs us h1 ih
 |cond c v u _ h0 ih=>exact .cond c v u ih h0
 |junk u=>exact .junk u
 |rowG id n L h1=>exact .rowG id n L (hs _ _ h1).1
 |eptrG id n i sub b o h1=>exact .eptrG id n i sub b o (hs _ _ h1).1
 |anyB b=>exact .anyB b
 |ifc t u=>exact .ifc t u
 |tail id n i k fz xs L h1 h2 h3 h4=>exact .tail id n i k fz xs L (hs _ _ h1).1 h2 h3 (by rw[(hs _ _ h1).2];exact h4)
 |tailG id n i k L h1=>exact .tailG id n i k L (hs _ _ h1).1
 |hdl id o b u h1 h2 h3=>exact .hdl id o b u (hs _ _ h1).1 (by rw[(hs _ _ h1).2];exact h2) h3
 |ptrG id off b h1=>exact .ptrG id off b (hs _ _ h1).1
 |yl id Y pre h1=>exact .yl id Y pre (hs _ _ h1).1
theorem YSpec.one(Y:YSpec):Y.fn.oneCell'=true:=by rcases Y.kind with⟨_,_,h⟩| ⟨_,h⟩<;>rw[h]<;>rfl
theorem hdlVal_one{o:Ob}{b:Nat}{u:Value}(h:hdlVal o b=some u):u.oneCell'=true:=by
 cases o<;>simp[hdlVal] at h<;>subst h<;>rfl
theorem cells_one{u:Value}(h:u.oneCell'=true):u.cells=#[u]:=by
 cases u<;>first|rfl| (simp[Value.oneCell'] at h)
theorem VRel.cellsOf{st:Store}{m:Place}{w:World}{ok:Nat→Prop}{v:AVal}{u:Value}(h:VRel st m w ok v u)(hc:(cellsV v).all isCellV=true):
 ∃us:List Value,u.cells=us.toArray∧us.length=(cellsV v).length∧
  ∀(i:Nat) (v':AVal) (u':Value),(cellsV v)[i]? =some v'→us[i]? =some u'→VRel st m w ok v' u'∧u'.oneCell'=true:=by
 have single:∀(hcs:Ab.cellsV v=[v]),u.oneCell'=true→∃us:List Value,u.cells=us.toArray∧us.length=(Ab.cellsV v).length∧
  ∀(i:Nat) (v':AVal) (u':Value),(Ab.cellsV v)[i]? =some v'→us[i]? =some u'→VRel st m w ok v' u'∧u'.oneCell'=true:=by
  intro hcs h1
  refine⟨[u],cells_one h1,by rw[hcs];rfl,fun i v' u' hv hu=> ?_⟩
  rw[hcs] at hv
  match i with
  |0=>simp at hv hu;subst hv;subst hu;exact⟨h,h1⟩
  |i+1=>simp at hu
 cases h with
 |t T u hT=>
  cases hT with
  |sc v h1=>exact single rfl h1
  |lst k xs A c us _ _ _ _ _ _ _=>exact single rfl rfl
  |agg cs us hl hcs h1=>
   refine⟨us,rfl,by simp[Ab.cellsV,hl],fun i v' u' hv hu=> ?_⟩
   simp only[Ab.cellsV,List.getElem?_map,Option.map_eq_some_iff] at hv
   obtain⟨T,hT,rfl⟩:=hv
   have:=h1 i T u' hT hu
   exact⟨.t T u' this,this.one (hcs T (List.mem_of_getElem? hT))⟩
 |agg cs us hl h1 h2=>exact⟨us,rfl,hl,fun i v' u' hv hu=>⟨h1 i v' u' hv hu,h2 u' (List.mem_of_getElem? hu)⟩⟩
 |row=>exact single rfl rfl
 |ptr=>exact single rfl rfl
 |eptr=>exact single rfl rfl
 |mat=>exact single rfl rfl
 |mptr=>exact single rfl rfl
 |cptr=>exact single rfl rfl
 |fn=>exact single rfl rfl
 |tup=>simp[Ab.cellsV,isCellV] at hc
 |cond=>simp[Ab.cellsV,isCellV] at hc
 |junk=>simp[Ab.cellsV,isCellV] at hc
 |rowG=>exact single rfl rfl
 |eptrG=>exact single rfl rfl
 |anyB=>exact single rfl rfl
 |ifc=>exact single rfl rfl
 |tail=>exact single rfl rfl
 |tailG=>exact single rfl rfl
 |hdl id o b u h1 h2 h3=>exact single rfl (hdlVal_one h3)
 |ptrG=>exact single rfl rfl
 |bsl=>exact single rfl rfl
 |bslG=>exact single rfl rfl
 |psl=>exact single rfl rfl
 |pslG=>exact single rfl rfl
 |yl id Y pre h1=>exact single rfl Y.one
 |xl=>simp[Ab.cellsV,isCellV] at hc
theorem allT_some{cs:List AVal}{Ts:List Tree}(h:allT cs=some Ts):cs=Ts.map .t:=by
 induction cs generalizing Ts with
 |nil=>simp[allT] at h;subst h;rfl
 |cons v l ih=>
  cases v<;>simp[allT] at h
  obtain⟨r,hr,rfl⟩:=h
  simp[ih hr]
theorem VRel.aggV{st:Store}{m:Place}{w:World}{ok:Nat→Prop}{cs:List AVal}{us:List Value}(hl:us.length=cs.length)
 (h:∀(i:Nat) (v:AVal) (u:Value),cs[i]? =some v→us[i]? =some u→VRel st m w ok v u∧u.oneCell'=true):VRel st m w ok (aggV cs) (.agg us.toArray):=by
 unfold Ab.aggV
 cases ha:allT cs with
 |none=>
  simp only
  refine .agg cs us hl (fun i v u a b=>(h i v u a b).1) (fun u hu=> ?_)
  obtain⟨i,hi,rfl⟩:=List.mem_iff_getElem.1 hu
  exact(h i _ _ (List.getElem?_eq_getElem (by omega)) (List.getElem?_eq_getElem hi)).2
 |some Ts=>
  have hcs:=allT_some ha
  subst hcs
  simp only[List.length_map] at hl
  simp only
  have key:∀(i:Nat) (T:Tree) (u:Value),Ts[i]? =some T→us[i]? =some u→TRep w ok T u∧u.oneCell'=true:=by
   intro i T u hT hu
   have:=h i (.t T) u (by simp[hT]) hu
   obtain⟨h1,h2⟩:=this
   cases h1 with
   |t _ _ h1=>exact⟨h1,h2⟩
  refine .t _ _ (.agg Ts us hl (fun T hT=> ?_) (fun i T u a b=>(key i T u a b).1))
  obtain⟨i,hi,rfl⟩:=List.mem_iff_getElem.1 hT
  obtain⟨h1,h2⟩:=key i _ _ (List.getElem?_eq_getElem hi) (List.getElem?_eq_getElem (by omega))
  generalize Ts[i]=T at h1
  generalize us[i]=u at h1 h2
  cases h1 with
  |agg=>simp[Value.oneCell'] at h2
  |sc=>rfl
  |lst=>rfl
def fw{P:Program}(F:Fen P):Fence:={Fence.wide with round:=F.rnd}
def Up(P:Program)(F:Fen P)(S:Store)(m:Place)(w:World)(wr:List (Nat×Ob))(val:AVal)(o:Oper)(a:Act):Prop:=
 ∀(next:Act→World→Prop) (Q:Exit→Act→World→Prop),
  (∀v w' m',SRel F (app S wr) m' w'→FrameExt F S m w (app S wr) m' w'→VRel (app S wr) m' w' (okB F (app S wr) m' w') val v→next (a.put o.dst v) w')→
  o.uponIn (fw F) 0 P a next Q ((execOp a.eval o).run P w)
theorem Up.value{P:Program}{F:Fen P}{S:Store}{m m':Place}{w w':World}{wr:List (Nat×Ob)}{val:AVal}{o:Oper}{a:Act}{v:Value}
 (hr:(execOp a.eval o).run P w= .ok (.value v) w') (hS:SRel F (app S wr) m' w') (hF:FrameExt F S m w (app S wr) m' w') (hv:VRel (app S wr) m' w' (okB F (app S wr) m' w') val v):
 Up P F S m w wr val o a:=by
 intro next Q h
 rw[hr]
 exact h v w' m' hS hF hv
theorem Up.skip{P:Program}{F:Fen P}{S:Store}{m m':Place}{w w':World}{wr:List (Nat×Ob)}{o:Oper}{a:Act}
 (hr:(execOp a.eval o).run P w= .ok .skip w') (hS:SRel F (app S wr) m' w') (hF:FrameExt F S m w (app S wr) m' w'):
 Up P F S m w wr .junk o a:=by
 intro next Q h
 rw[hr]
 exact h undef w' m' hS hF (.junk _)
theorem Up.same{P:Program}{F:Fen P}{S:Store}{m:Place}{w:World}{val:AVal}{o:Oper}{a:Act}{v:Value}(hS:SRel F S m w)
 (hr:(execOp a.eval o).run P w= .ok (.value v) w) (hv:VRel S m w (okB F S m w) val v):Up P F S m w [] val o a:=
 Up.value hr hS (FrameExt.refl F S m w) hv
theorem RowAt.persist{F:Fen P}{S S':Store}{m m':Place}{w w':World}(hF:FrameExt F S m w S' m' w'){k:Nat}{xs:List Tree}{L:Option Nat×Nat}(h:RowAt w (okB F S m w) k xs L)
 (hb:∀b,L.1=some b→w'.heap[b]? =w.heap[b]?):RowAt w' (okB F S' m' w') k xs L:=by
 obtain⟨a1,a2,a3,a4,a5⟩:=h
 refine⟨a1,a2,a3,a4,a5.imp (fun h=>h) ?_⟩
 rintro⟨b,us,e,h1,h2,h3,h4,h5⟩
 exact⟨b,us,e,h1,(hb b h1).trans h2,h3,h4,fun j T u p q=>hF.tree (h5 j T u p q)⟩
theorem MRel.persist{F:Fen P}{S S':Store}{m m':Place}{w w':World}(hF:FrameExt F S m w S' m' w'){v:MV}{u:Value}{c:Option Nat}(h:MRel S m w (okB F S m w) v u c)
 (hb:∀b,c=some b→w'.heap[b]? =w.heap[b]?):MRel S' m' w' (okB F S' m' w') v u c:=by
 cases v with
 |im T=>exact⟨hF.tree h.1,h.2⟩
 |cp cs=>exact⟨hF.val h.1,h.2⟩
 |bx cs=>
  obtain⟨b,us,e,h1,h2,h3,h4,h5,h6⟩:=h
  exact⟨b,us,e,h1,h2,(hb b h1).trans h3,h4,h5,fun i T u p q=>hF.tree (h6 i T u p q)⟩
 |rw k xs=>
  obtain⟨L,h1,h2,h3⟩:=h
  exact⟨L,h1,h2,h3.persist hF (fun b e=>hb b (h2.symm.trans e))⟩
theorem HRel.persist{F:Fen P}{S S':Store}{m m':Place}{w w':World}(hF:FrameExt F S m w S' m' w'){h:Option (Int×AVal)}{k:Int}{v:MV}{u:Value}{c:Option Nat}(hr:HRel S m w (okB F S m w) h k v u c)
 (hb:∀b,c=some b→w'.heap[b]? =w.heap[b]?):HRel S' m' w' (okB F S' m' w') h k v u c:=by
 match h with
 |none=>exact MRel.persist hF hr hb
 |some (k',v')=>exact⟨fun e=>⟨hF.val (hr.1 e).1,(hr.1 e).2⟩,fun e=>(hr.2 e).persist hF hb⟩
theorem PCell.persist{F:Fen P}{S S':Store}{m m':Place}{w w':World}(hF:FrameExt F S m w S' m' w'){cs:List Tree}{b:Nat}(h:PCell w (okB F S m w) cs b)(hb:w'.heap[b]? =w.heap[b]?):PCell w' (okB F S' m' w') cs b:=by
 obtain⟨us,e,h1,h2,h3,h4⟩:=h
 exact⟨us,e,hb.trans h1,h2,h3,fun i T u p q=>⟨hF.tree (h4 i T u p q).1,(h4 i T u p q).2⟩⟩
theorem ORel.persist{F:Fen P}{S S':Store}{m m':Place}{w w':World}(hF:FrameExt F S m w S' m' w'){o:Ob}{L:Option Nat×Nat}{g:List Nat}(h:ORel S m w (okB F S m w) o L g)
 (hb:∀b,(L.1=some b∨b∈g)→w'.heap[b]? =w.heap[b]?):ORel S' m' w' (okB F S' m' w') o L g:=by
 cases o with
 |box cs=>
  obtain⟨b,us,e,h1,h2,h3,h4⟩:=h
  exact⟨b,us,e,h1,(hb b (.inl h1)).trans h2,h3,fun i v u p q=>⟨hF.val (h4 i v u p q).1,(h4 i v u p q).2⟩⟩
 |mat fz xs hh=>
  obtain⟨⟨b,us,e,h1,h2,h3,h4⟩,q⟩:=h
  exact⟨⟨b,us,e,h1,(hb b (.inl h1)).trans h2,h3,fun i v u p q=>⟨hF.val (h4 i v u p q).1,(h4 i v u p q).2⟩⟩,q⟩
 |row k fz xs=>exact RowAt.persist hF h (fun b e=>hb b (.inl e))
 |gone=>exact h
 |siter s pos=>
  obtain⟨b,h1,h2⟩:=h
  exact⟨b,h1,(hb b (.inl h1)).trans h2⟩
 |mp es hh=>
  obtain⟨b,ents,bl,h1,h2,h3,h4,h5,h6,h7⟩:=h
  refine⟨b,ents,bl,h1,(hb b (.inl h1)).trans h2,h3,h4,h5,h6,fun i x e p q=> ?_⟩
  obtain⟨q1,q2,q3⟩:=h7 i x e p q
  exact⟨q1,q2,q3.persist hF (fun b' e'=>hb b' (.inr (h5 i b' (List.getElem?_eq_some_iff.1 p).1 e').1))⟩
 |miter mid n seen=>
  obtain⟨b,bm,h1,h2,⟨es,hh,h3⟩,h4⟩:=h
  obtain⟨o',ho',_,hm',_,_,hsh⟩:=hF.keep mid _ h3
  cases o'<;>simp[Ob.same] at hsh
  exact⟨b,bm,h1,by rw[hm' rfl];exact h2,⟨_,_,ho'⟩,(hb b (.inl h1)).trans h4⟩
 |pool es hh=>
  obtain⟨h1,h2,h3,h4⟩:=h
  exact⟨h1,h2,fun x hx hr=>⟨(h3 x hx hr).1,(h3 x hx hr).2.persist hF (hb _ (.inr (h3 x hx hr).1))⟩,fun b r e=>hF.val (h4 b r e)⟩
 |ext Y pre=>exact⟨h.1,Y.stab _ _ _ _ h.2.1 hF.size (fun b hg=>hb b (.inr hg)) (fun b hD=>hF.heap (h.2.2 b hD)),fun b hD=>hF.ok (h.2.2 b hD)⟩
theorem freeze{F:Fen P}{S:Store}{m:Place}{w:World}(hS:SRel F S m w){id k:Nat}{fz:Bool}{xs:List Tree}(hid:S id=some (.row k fz xs)):
 SRel F (upd S id (.row k true xs)) m w∧FrameExt F S m w (upd S id (.row k true xs)) m w:=by
 have hF:FrameExt F S m w (upd S id (.row k true xs)) m w:=by
  refine⟨rfl,rfl,rfl,Nat.le_refl _,fun _ _ _=>rfl,fun i o ho=> ?_,fun i o ho hn=> ?_⟩
  ·by_cases e:i=id
   ·subst e
    rw[hid] at ho
    cases ho
    exact⟨_,upd_same _ _ _,Nat.le_refl _,fun _=>rfl,fun _=>rfl,fun _ q=> .inl q,by simp[Ob.same]⟩
   ·refine⟨o,by rw[upd_ne e];exact ho,Nat.le_refl _,fun _=>rfl,fun h=>h,fun _ q=> .inl q,o.same_refl⟩
  ·by_cases e:i=id
   ·subst e;rw[hid] at hn;cases hn
   ·rw[upd_ne e] at ho;rw[ho] at hn;cases hn
 have back:∀i oi,upd S id (.row k true xs) i=some oi→∃oi',S i=some oi':=by
  intro i oi h
  by_cases e:i=id
  ·subst e;exact⟨_,hid⟩
  ·rw[upd_ne e] at h;exact⟨_,h⟩
 refine⟨⟨fun i o ho=> ?_,fun i j oi oj b hi hj h1 h2=> ?_,fun i o b ho hb=> ?_,fun i o b ho hb=> ?_,hS.low,hS.hold⟩,hF⟩
 ·by_cases e:i=id
  ·subst e
   rw[upd_same] at ho
   cases ho
   exact RowAt.persist hF (hS.objs _ _ hid) (fun _ _=>rfl)
  ·rw[upd_ne e] at ho
   exact(hS.objs _ _ ho).persist hF (fun _ _=>rfl)
 ·obtain⟨oi',hi'⟩:=back i oi hi
  obtain⟨oj',hj'⟩:=back j oj hj
  exact hS.inj i j _ _ b hi' hj' h1 h2
 ·obtain⟨o',ho'⟩:=back i o ho
  exact hS.avoid _ _ b ho' hb
 ·obtain⟨o',ho'⟩:=back i o ho
  exact hS.lt _ _ b ho' hb
theorem ORel.lt{S:Store}{m:Place}{w:World}{ok:Nat→Prop}{o:Ob}{L:Option Nat×Nat}{g:List Nat}(h:ORel S m w ok o L g){b:Nat}(hb:L.1=some b):b<w.heap.size:=by
 cases o with
 |box cs=>obtain⟨b',us,e,h1,h2,_⟩:=h;rw[h1] at hb;cases hb;exact(Array.getElem?_eq_some_iff.1 h2).1
 |mat fz xs hh=>obtain⟨⟨b',us,e,h1,h2,_⟩,_⟩:=h;rw[h1] at hb;cases hb;exact(Array.getElem?_eq_some_iff.1 h2).1
 |row k fz xs=>
  obtain⟨_,_,_,_,h5⟩:=h
  rcases h5 with⟨h1,_⟩| ⟨b',us,e,h1,h2,_⟩
  ·rw[h1] at hb;cases hb
  ·rw[h1] at hb;cases hb;exact(Array.getElem?_eq_some_iff.1 h2).1
 |gone=>rw[show L.1=none from h] at hb;cases hb
 |siter s pos=>obtain⟨b',h1,h2⟩:=h;rw[h1] at hb;cases hb;exact(Array.getElem?_eq_some_iff.1 h2).1
 |mp es hh=>obtain⟨b',ents,bl,h1,h2,_⟩:=h;rw[h1] at hb;cases hb;exact(Array.getElem?_eq_some_iff.1 h2).1
 |miter mid n seen=>obtain⟨b',bm,h1,_,_,h2⟩:=h;rw[h1] at hb;cases hb;exact(Array.getElem?_eq_some_iff.1 h2).1
 |ext Y pre=>rw[show L.1=none from h.1] at hb;cases hb
 |pool es hh=>rw[show L.1=none from h.1] at hb;cases hb
def place(m:Place)(id:Nat)(L:Option Nat×Nat):Place:=⟨fun j=>bif Nat.beq j id then L else m j,fun j=>bif Nat.beq j id then[] else m.g j⟩
theorem place_same(m:Place)(id:Nat)(L:Option Nat×Nat):place m id L id=L:=by simp[place]
theorem place_ne{m:Place}{id j:Nat}{L:Option Nat×Nat}(h:j≠id):place m id L j=m j:=by
 have:Nat.beq j id=false:=beq_ne h
 simp[place,this]
theorem place_g_same(m:Place)(id:Nat)(L:Option Nat×Nat):(place m id L).g id=[]:=by simp[place]
theorem place_g_ne{m:Place}{id j:Nat}{L:Option Nat×Nat}(h:j≠id):(place m id L).g j=m.g j:=by
 have:Nat.beq j id=false:=beq_ne h
 simp[place,this]
theorem place_has_same{m:Place}{id b:Nat}{L:Option Nat×Nat}:(place m id L).has id b↔L.1=some b:=by
 unfold Place.has;rw[place_same,place_g_same];simp
theorem place_has_ne{m:Place}{id j b:Nat}{L:Option Nat×Nat}(h:j≠id):(place m id L).has j b↔m.has j b:=by
 unfold Place.has;rw[place_ne h,place_g_ne h]
theorem ext_new{F:Fen P}{S:Store}{m:Place}{w w':World}{id:Nat}{o:Ob}{L:Option Nat×Nat}(hid:S id=none)
 (hos:w'.os=w.os) (htape:w'.tape=w.tape) (hout:w'.output=w.output) (hsz:w.heap.size≤w'.heap.size) (hb:∀b,b<w.heap.size→w'.heap[b]? =w.heap[b]?)
 (hL:∀b,L.1=some b→w.heap.size≤b):FrameExt F S m w (upd S id o) (place m id L) w':=by
 have hne:∀i oi,S i=some oi→i≠id:=fun i oi h e=>by subst e;rw[hid] at h;cases h
 refine⟨hos,htape,hout,hsz,fun b h _=>hb b h,fun i oi hi=> ?_,fun i oi hi hn b hbk=> ?_⟩
 ·refine⟨oi,by rw[upd_ne (hne i oi hi)];exact hi,Nat.le_refl _,fun _=>place_ne (hne i oi hi),fun h=>h,fun b q=> .inl ((place_has_ne (hne i oi hi)).1 q),oi.same_refl⟩
 ·by_cases e:i=id
  ·subst e;exact .inl (hL b (place_has_same.1 hbk))
  ·rw[upd_ne e] at hi;rw[hi] at hn;cases hn
theorem SRel.new{F:Fen P}{S:Store}{m:Place}{w w':World}(hS:SRel F S m w){id:Nat}{o:Ob}{L:Option Nat×Nat}(hid:S id=none)
 (hF:FrameExt F S m w (upd S id o) (place m id L) w') (hb:∀b,b<w.heap.size→w'.heap[b]? =w.heap[b]?) (hL:∀b,L.1=some b→w.heap.size≤b)
 (ho:ORel (upd S id o) (place m id L) w' (okB F (upd S id o) (place m id L) w') o L []):SRel F (upd S id o) (place m id L) w':=by
 have hlt':∀b,L.1=some b→b<w'.heap.size:=fun b hb=>ho.lt hb
 refine⟨fun i oi hi=> ?_,fun i j oi oj b hi hj h1 h2=> ?_,fun i oi b hi hm hFb=> ?_,fun i oi b hi hm=> ?_,fun b h=>Nat.lt_of_lt_of_le (hS.low b h) hF.size,hS.held hF⟩
 ·by_cases e:i=id
  ·subst e
   rw[upd_same] at hi;cases hi
   rw[place_same,place_g_same];exact ho
  ·rw[upd_ne e] at hi
   rw[place_ne e,place_g_ne e]
   exact(hS.objs i oi hi).persist hF (fun b hm=>hb b (hS.lt i oi b hi hm))
 ·by_cases e:i=id
  ·by_cases e':j=id
   ·rw[e,e']
   ·subst e
    rw[place_has_same] at h1
    rw[place_has_ne e'] at h2
    rw[upd_ne e'] at hj
    have:=hS.lt j oj b hj h2
    have:=hL b h1
    omega
  ·by_cases e':j=id
   ·subst e'
    rw[place_has_same] at h2
    rw[place_has_ne e] at h1
    rw[upd_ne e] at hi
    have:=hS.lt i oi b hi h1
    have:=hL b h2
    omega
   ·rw[place_has_ne e] at h1
    rw[place_has_ne e'] at h2
    rw[upd_ne e] at hi
    rw[upd_ne e'] at hj
    exact hS.inj i j oi oj b hi hj h1 h2
 ·by_cases e:i=id
  ·subst e
   rw[place_has_same] at hm
   have:=hL b hm
   have:=hS.low b hFb
   omega
  ·rw[upd_ne e] at hi
   rw[place_has_ne e] at hm
   exact hS.avoid i oi b hi hm hFb
 ·by_cases e:i=id
  ·subst e
   exact hlt' b (place_has_same.1 hm)
  ·rw[upd_ne e] at hi
   rw[place_has_ne e] at hm
   exact Nat.lt_of_lt_of_le (hS.lt i oi b hi hm) hF.size
end Go.Ab
end
section
set_option linter.unusedVariables false
namespace Go.Ab
variable {P:Program} {w:World}
theorem run_sizeOf'{t:TypeId}{z:Nat}(h:tsz P t=some z):(sizeOf t).run P w= .ok z w:=by
 unfold tsz at h
 cases hi:P.info? t with
 |none=>simp[hi] at h
 |some i=>simp[hi] at h;subst h;simp[sizeOf,typeInfo,hi]
theorem run_isAgg'{t:TypeId}{ag:Bool}(h:tagg P t=some ag):(isAgg t).run P w= .ok ag w:=by
 unfold tagg at h
 cases hu:P.underlying t with
 |none=>simp[hu] at h
 |some d=>
  rw[hu] at h
  cases d<;>simp at h<;>subst h<;>simp[isAgg,run_underlying hu]
theorem run_zeroValue'{t:TypeId}{z:Value}(h:tzero P t=some z):(zeroValue t).run P w= .ok z w:=by
 unfold tzero at h
 cases hi:P.info? t with
 |none=>simp[hi] at h
 |some i=>simp[hi] at h;simp[zeroValue,typeInfo,hi,h]
theorem add_lit'(b o i:Nat):(⟨b,o,none⟩:Addr).add i=⟨b,o+i,none⟩:=by unfold Addr.add;split<;>simp_all
def loaded(ag:Bool)(us:List Value):Value:=if ag then .agg us.toArray else us.headD undef
theorem run_loadVar'{t:TypeId}{sz:Nat}{ag:Bool}(hsz:tsz P t=some sz)(hag:tagg P t=some ag)(b o:Nat)(us:List Value)(hl:us.length=sz)(h1:ag=false→sz=1)
 (hc:∀(j:Nat) (u:Value),us[j]? =some u→w.cell? ⟨b,o+j,none⟩=some u):(loadVar t ⟨b,o,none⟩).run P w= .ok (loaded ag us) w:=by
 cases ag with
 |true=>
  have h:=run_loadCells_list (P:=P) w ⟨b,o,none⟩ us (fun j v hv=>by rw[add_lit'];exact hc j v hv)
  rw[hl] at h
  simp[loadVar,run_isAgg' hag,run_sizeOf' hsz,h,loaded]
 |false=>
  have:=h1 rfl
  match us,hl with
  | [u],hl=>
   have h0:=hc 0 u rfl
   simp only[Nat.add_zero] at h0
   simp[loadVar,run_isAgg' hag,h0,loaded]
  | [],hl=>simp at hl;omega
  |_::_::_,hl=>simp at hl;omega
theorem part_some{α:Type}{l r:List α}{off n:Nat}(h:part l off n=some r):r=(l.drop off).take n∧r.length=n:=by
 unfold part at h
 cases hh:Nat.beq ((l.drop off).take n).length n with
 |false=>simp only[hh,cond_false] at h;cases h
 |true=>
  simp only[hh,cond_true,Option.some.injEq] at h
  subst h
  exact⟨rfl,Nat.eq_of_beq_eq_true hh⟩
theorem part_get{α:Type}{l r:List α}{off n:Nat}(h:part l off n=some r){j:Nat}{x:α}(hj:r[j]? =some x):l[off+j]? =some x:=by
 obtain⟨h1,h2⟩:=part_some h
 subst h1
 rw[List.getElem?_take] at hj
 split at hj
 ·rw[List.getElem?_drop] at hj;exact hj
 ·cases hj
theorem part_len{α:Type}{l r:List α}{off n:Nat}(h:part l off n=some r):n=0∨off+n≤l.length:=by
 obtain⟨h1,h2⟩:=part_some h
 subst h1
 simp at h2
 omega
theorem mkV_rel{st:Store}{m:Place}{ok:Nat→Prop}{ag:Bool}{cs:List AVal}{v:AVal}(h:mkV ag cs=some v){us:List Value}(hl:us.length=cs.length)
 (hr:∀(i:Nat) (v:AVal) (u:Value),cs[i]? =some v→us[i]? =some u→VRel st m w ok v u∧u.oneCell'=true):
 VRel st m w ok v (loaded ag us)∧(ag=false→cs.length=1):=by
 cases ag with
 |true=>
  simp only[mkV,Option.some.injEq] at h
  subst h
  exact⟨VRel.aggV hl hr,fun e=>by cases e⟩
 |false=>
  match cs,us,hl with
  | [a],[u],_=>
   simp only[mkV,Option.some.injEq] at h
   subst h
   exact⟨(hr 0 a u rfl rfl).1,fun _=>rfl⟩
  | [],_,_=>simp[mkV] at h
  |_::_::_,_,_=>simp[mkV] at h
theorem mkT_rel{ok:Nat→Prop}{ag:Bool}{cs:List Tree}{T:Tree}(h:mkT ag cs=some T){us:List Value}(hl:us.length=cs.length)(hcell:∀T∈cs,T.isCell=true)
 (hr:∀(i:Nat) (T:Tree) (u:Value),cs[i]? =some T→us[i]? =some u→TRep w ok T u):
 TRep w ok T (loaded ag us)∧(ag=false→cs.length=1):=by
 cases ag with
 |true=>
  simp only[mkT,Option.some.injEq] at h
  subst h
  exact⟨.agg cs us hl hcell hr,fun e=>by cases e⟩
 |false=>
  match cs,us,hl with
  | [a],[u],_=>
   simp only[mkT,Option.some.injEq] at h
   subst h
   exact⟨hr 0 a u rfl rfl,fun _=>rfl⟩
  | [],_,_=>simp[mkT] at h
  |_::_::_,_,_=>simp[mkT] at h
theorem flat_len{k:Nat}:∀{xs:List Tree},(∀x∈xs,Elt k x)→(flat xs).length=xs.length*k
 | [],_=>by simp[flat]
 |x::xs,h=>by
  have h1:=(h x (by simp)).1
  have ih:=flat_len (xs:=xs) (fun y hy=>h y (by simp[hy]))
  simp[flat,h1,ih,Nat.add_mul,Nat.add_comm]
theorem flat_get{k:Nat}:∀{xs:List Tree} {i:Nat} {X:Tree},(∀x∈xs,Elt k x)→xs[i]? =some X→∀{j:Nat},j<k→(flat xs)[i*k+j]? =X.cells[j]?
 | [],i,X,_,h,_,_=>by simp at h
 |x::xs,0,X,h,hX,j,hj=>by
  simp at hX;subst hX
  have h1:=(h x (by simp)).1
  simp only[flat,Nat.zero_mul,Nat.zero_add]
  rw[List.getElem?_append_left (by omega)]
 |x::xs,i+1,X,h,hX,j,hj=>by
  simp at hX
  have h1:=(h x (by simp)).1
  have ih:=flat_get (xs:=xs) (fun y hy=>h y (by simp[hy])) hX hj
  simp only[flat]
  rw[List.getElem?_append_right (by rw[h1,Nat.add_mul];omega),h1,show(i+1)*k+j-k=i*k+j by rw[Nat.add_mul];omega]
  exact ih
theorem flat_cell{k:Nat}:∀{xs:List Tree},(∀x∈xs,Elt k x)→∀T∈flat xs,T.isCell=true
 | [],_,T,hT=>by simp[flat] at hT
 |x::xs,h,T,hT=>by
  simp only[flat,List.mem_append] at hT
  rcases hT with hT|hT
  ·exact(h x (by simp)).2 T hT
  ·exact flat_cell (fun y hy=>h y (by simp[hy])) T hT
theorem flat_append(xs ys:List Tree):flat (xs++ys)=flat xs++flat ys:=by
 induction xs with
 |nil=>rfl
 |cons x xs ih=>simp[flat,ih]
theorem loadK_sound{F:Fen P}{S st:Store}{m:Place}{t:TypeId}{av:AVal}{c:Orc}{δ:Dl}(h:loadK P t av st c=some δ)(hc:All δ.cnd)
 (hst:∀id o,st id=some o→S id=some o) (hS:SRel F S m w) {u:Value} (hv:VRel S m w (okB F S m w) av u):
 ∃v,(Instr.loadAt t u).run P w= .ok v w∧VRel S m w (okB F S m w) δ.val v∧δ.wr=[]:=by
 unfold loadK at h
 split at h
 ·rename_i sz ag id off hsz hag
  split at h
  ·rename_i cs hs
   simp only[Option.bind_eq_some_iff] at h
   obtain⟨v,⟨r,hr,hmk⟩,hp⟩:=h
   simp only[pure1,Option.some.injEq] at hp
   subst hp
   cases hv with
   |ptrG _ _ _ hs'=>rw[hst id _ hs] at hs';cases hs'
   |ptr _ _ cs' b hs' hm=>
    have:=hS.objs id _ (hst id _ hs)
    obtain⟨b',us,e,h1,h2,⟨h3,h3x⟩,h4⟩:=this
    rw[hm] at h1;cases h1
    obtain⟨hr1,hr2⟩:=part_some hr
    have hlen:((us.toList.drop off).take sz).length=r.length:=by
     have q:r.length=min sz (cs.length-off):=by rw[hr1,List.length_take,List.length_drop]
     rw[hr2,List.length_take,List.length_drop,Array.length_toList];omega
    have hrel:∀(i:Nat) (v:AVal) (u:Value),r[i]? =some v→((us.toList.drop off).take sz)[i]? =some u→VRel S m w (okB F S m w) v u∧u.oneCell'=true:=by
     intro i v u hi hu
     have hi':=part_get hr hi
     rw[List.getElem?_take] at hu
     split at hu
     ·rw[List.getElem?_drop] at hu
      exact h4 _ v u hi' (by simpa using hu)
     ·cases hu
    obtain⟨hval,hone⟩:=mkV_rel hmk hlen hrel
    refine⟨_,?_,hval,rfl⟩
    have:=run_loadVar' (P:=P) (w:=w) hsz hag b off ((us.toList.drop off).take sz) (by rw[hlen,hr2]) (fun e=>by rw[←hr2];exact hone e) (fun j u hu=>by
     rw[List.getElem?_take] at hu
     split at hu
     ·rw[List.getElem?_drop] at hu
      simp only[World.cell?,h2]
      simpa using hu
     ·cases hu)
    simpa[Instr.loadAt,Instr.sureAddr] using this
  ·cases h
 ·rename_i sz ag cs hsz hag
  simp only[Option.bind_eq_some_iff] at h
  obtain⟨T,⟨r,hr,hmk⟩,hp⟩:=h
  simp only[pure1,Option.some.injEq] at hp
  subst hp
  cases hv with
  |cptr _ b o us hb hl hcl hcell hT=>
   simp only[loadK.off0] at hr
   obtain⟨hr1,hr2⟩:=part_some hr
   have hlen:(us.take sz).length=r.length:=by rw[hr1];simp[hl]
   obtain⟨hval,hone⟩:=mkT_rel (w:=w) (ok:=okB F S m w) hmk hlen (fun T hT=>hcl T (List.mem_of_mem_drop (List.mem_of_mem_take (hr1▸hT)))) (fun i T u hi hu=>by
    have hi':=part_get hr hi
    rw[Nat.zero_add] at hi'
    rw[List.getElem?_take] at hu
    split at hu
    ·exact hT i T u hi' hu
    ·cases hu)
   refine⟨_,?_,.t _ _ hval,rfl⟩
   have:=run_loadVar' (P:=P) (w:=w) hsz hag b o (us.take sz) (by rw[hlen,hr2]) (fun e=>by rw[←hr2];exact hone e) (fun j u hu=>by
    rw[List.getElem?_take] at hu
    split at hu
    ·exact hcell j u hu
    ·cases hu)
   simpa[Instr.loadAt,Instr.sureAddr] using this
 ·rename_i sz ag id n i sub hsz hag
  split at h
  ·rename_i k fz xs hs
   simp only[Option.bind_eq_some_iff] at h
   obtain⟨T,⟨r,hr,hmk⟩,hp⟩:=h
   simp only[pure1,Option.some.injEq] at hp
   subst hp
   simp only[All] at hc
   obtain⟨hn,hX,-⟩:=hc
   cases hv with
   |eptrG _ _ _ _ _ _ hs'=>rw[hst id _ hs] at hs';cases hs'
   |eptr _ _ _ _ k' fz' xs' b hs' hn' hu'=>
    have hs2:=hst id _ hs
    rw[hs2] at hs'
    cases hs'
    have hm:=hu' hn
    have:=hS.objs id _ hs2
    obtain⟨a1,a2,a3,a4,a5⟩:=this
    rcases a5 with⟨a5,_⟩| ⟨b',us,e,h1,h2,h3,h4,h5⟩
    ·rw[hm] at a5;cases a5
    ·rw[hm] at h1;cases h1
     generalize hXe:eltOf c xs i=X at hr hX
     have hEX:=a2 X (List.mem_of_getElem? hX)
     obtain⟨hr1,hr2⟩:=part_some hr
     have hil:i<xs.length:=(List.getElem?_eq_some_iff.1 hX).1
     have hbig:(i+1)*k≤us.size:=by rw[h3];exact Nat.mul_le_mul_right k (by omega)
     have hsub:sz=0∨sub+sz≤k:=by have:=part_len hr;rw[hEX.1] at this;exact this
     have hlen:((us.toList.drop (i*k+sub)).take sz).length=r.length:=by
      rw[hr2];simp
      rw[Nat.add_mul] at hbig
      omega
     obtain⟨hval,hone⟩:=mkT_rel (w:=w) (ok:=okB F S m w) hmk hlen (fun T hT=>hEX.2 T (List.mem_of_mem_drop (List.mem_of_mem_take (hr1▸hT)))) (fun j T u hj hu=>by
      have hj':=part_get hr hj
      rw[List.getElem?_take] at hu
      split at hu
      ·rw[List.getElem?_drop] at hu
       have hlt:sub+j<k:=by rw[←hEX.1];exact(List.getElem?_eq_some_iff.1 hj').1
       have hf:=flat_get a2 hX hlt
       rw[hj'] at hf
       exact h5 (i*k+(sub+j)) T u hf (by rw[←Nat.add_assoc];simpa using hu)
      ·cases hu)
     refine⟨_,?_,.t _ _ hval,rfl⟩
     have:=run_loadVar' (P:=P) (w:=w) hsz hag b (i*k+sub) ((us.toList.drop (i*k+sub)).take sz) (by rw[hlen,hr2]) (fun e=>by rw[←hr2];exact hone e) (fun j u hu=>by
      rw[List.getElem?_take] at hu
      split at hu
      ·rw[List.getElem?_drop] at hu
       simp only[World.cell?,h2]
       simpa using hu
      ·cases hu)
     simpa[Instr.loadAt,Instr.sureAddr] using this
  ·cases h
 ·rename_i sz id i hsz hag
  split at h
  ·rename_i fz xs hh hs
   cases h1:Nat.beq sz 1 with
   |false=>rw[h1] at h;cases h
   |true=>
   rw[h1,cond_true] at h
   have hsz1:=Nat.eq_of_beq_eq_true h1
   have hs2:=hst id _ hs
   have key:∀v,(matC xs hh)[i]? =some v→∃v',(Instr.loadAt t u).run P w= .ok v' w∧VRel S m w (okB F S m w) v v':=by
    intro v hv0
    cases hv with
    |mptr _ _ fz' xs' hh' b hs' hm=>
     rw[hs2] at hs';cases hs'
     obtain⟨⟨b',us,e,q1,q2,⟨q3,q3x⟩,q4⟩,_⟩:=hS.objs id _ hs2
     rw[hm] at q1;cases q1
     have hi:i<us.size:=Nat.lt_of_lt_of_le (List.getElem?_eq_some_iff.1 hv0).1 q3
     have hu:us[i]? =some us[i]:=Array.getElem?_eq_getElem hi
     refine⟨us[i],?_,(q4 i v us[i] hv0 hu).1⟩
     have:=run_loadVar' (P:=P) (w:=w) hsz hag b i [us[i]] (by simp[hsz1]) (fun _=>hsz1) (fun j u hj=>by
      match j with
      |0=>
       simp at hj;subst hj
       simp only[World.cell?,q2]
       simp
      |j+1=>simp at hj)
     simpa[Instr.loadAt,Instr.sureAddr,loaded] using this
   split at h
   ·rename_i X _
    simp only[pure1,Option.some.injEq] at h
    subst h
    obtain⟨v',r1,r2⟩:=key _ hc.1
    exact⟨v',r1,r2,rfl⟩
   ·split at h
    ·rename_i j r n
     simp only[pure1,Option.some.injEq] at h
     subst h
     obtain⟨v',r1,r2⟩:=key (.row r n) (by
      obtain⟨e,hlt,-⟩:=hc
      subst e
      simp[matC,hlt])
     exact⟨v',r1,r2,rfl⟩
    ·cases h
  ·cases h
 ·cases h
end Go.Ab
end
section
set_option linter.unusedVariables false
namespace Go.Ab
variable {P:Program} {w:World}
theorem pure1_some{v:AVal}{c:List Prop}{δ:Dl}(h:pure1 v c=some δ):δ=⟨v,[],c⟩:=by
 simp only[pure1,Option.some.injEq] at h;exact h.symm
theorem tfield_some{s:TypeId}{i:Nat}{f:Field}(h:tfield P s i=some f):∃fs,P.underlying s=some (.struct fs)∧fs[i]? =some f:=by
 unfold tfield at h
 split at h
 ·rename_i fs hu;exact⟨fs,hu,h⟩
 ·cases h
section
variable {F:Fen P} {S st:Store} {m:Place}
theorem fieldAddrK_sound{s:TypeId}{av:AVal}{i:Nat}{δ:Dl}(h:fieldAddrK P s av i=some δ)(hS:SRel F S m w){u:Value}(hv:VRel S m w (okB F S m w) av u):
 ∃v,(Instr.fieldAt s u i).run P w= .ok v w∧VRel S m w (okB F S m w) δ.val v∧δ.wr=[]:=by
 unfold fieldAddrK at h
 simp only[Option.bind_eq_some_iff] at h
 obtain⟨f,hf,z,hz,h⟩:=h
 obtain⟨fs,hu,hfs⟩:=tfield_some hf
 cases hz0:Nat.beq z 0 with
 |true=>simp only[hz0,cond_true] at h;cases h
 |false=>
  simp only[hz0,cond_false] at h
  have hz1:z≠0:=fun e=>by subst e;simp at hz0
  have run:∀b o,(Instr.fieldAt s (.pointer (some ⟨b,o,none⟩)) i).run P w= .ok (.pointer (some ⟨b,o+f.offset,none⟩)) w:=by
   intro b o
   simp[Instr.fieldAt,run_underlying hu,hfs,Instr.sureAddr,fieldPlace,run_sizeOf' hz,hz1,add_lit']
  split at h
  ·rename_i id off
   have:=pure1_some h;subst this
   cases hv with
   |ptr _ _ cs b hs hm=>exact⟨_,run b off,.ptr id _ cs b hs hm,rfl⟩
   |ptrG _ _ b hs=>exact⟨_,run b off,.ptrG id _ b hs,rfl⟩
  ·rename_i id n j sub
   have:=pure1_some h;subst this
   cases hv with
   |eptr _ _ _ _ k fz xs b hs hn hu'=>
    exact⟨_,run b _,by rw[Nat.add_assoc];exact .eptr id n j _ k fz xs b hs hn hu',rfl⟩
   |eptrG _ _ _ _ b o hs=>exact⟨_,run b o,.eptrG id n j _ b _ hs,rfl⟩
  ·rename_i cs
   cases hb:Nat.ble f.offset cs.length with
   |false=>simp only[hb,cond_false] at h;cases h
   |true=>
    simp only[hb,cond_true] at h
    have hle:f.offset≤cs.length:=Nat.le_of_ble_eq_true hb
    have:=pure1_some h;subst this
    cases hv with
    |cptr _ b o us hb hl hc hcell hT=>
     refine⟨_,run b o,.cptr _ b _ (us.drop f.offset) hb (by simp[hl]) (fun T hT=>hc T (List.mem_of_mem_drop hT)) (fun j u hu=> ?_) (fun j T u h1 h2=> ?_),rfl⟩
     ·rw[List.getElem?_drop] at hu
      rw[Nat.add_assoc]
      exact hcell _ u hu
     ·rw[List.getElem?_drop] at h1 h2
      exact hT _ T u h1 h2
  ·cases h
theorem VRel.sc_inv{ok:Nat→Prop}{v u:Value}(h:VRel S m w ok (.t (.sc v)) u):u=v:=by
 cases h with
 |t _ _ h=>cases h;rfl
theorem fieldK_sound{s:TypeId}{av:AVal}{i:Nat}{δ:Dl}(h:fieldK P s av i=some δ){u:Value}(hv:VRel S m w (okB F S m w) av u):
 ∃v,(Instr.field s u i).run P w= .ok v w∧VRel S m w (okB F S m w) δ.val v∧δ.wr=[]:=by
 unfold fieldK at h
 simp only[Option.bind_eq_some_iff] at h
 obtain⟨f,hf,z,hz,ag,hag,h⟩:=h
 obtain⟨fs,hu,hfs⟩:=tfield_some hf
 have run:∀us:List Value,(ag=false→z=1)→f.offset+z≤us.length∨z=0→(Instr.field s (.agg us.toArray) i).run P w= .ok (loaded ag ((us.drop f.offset).take z)) w:=by
  intro us h1 hle
  cases ag with
  |true=>
   simp[Instr.field,run_underlying hu,hfs,asAgg,Go.part,run_isAgg' hag,run_sizeOf' hz,loaded]
  |false=>
   have hz1:=h1 rfl
   subst hz1
   have hlt:f.offset<us.length:=by omega
   simp[Instr.field,run_underlying hu,hfs,asAgg,Go.part,run_isAgg' hag,loaded,hlt]
   rw[List.drop_eq_getElem_cons hlt]
   rfl
 split at h
 ·rename_i cs
  simp only[Option.bind_eq_some_iff] at h
  obtain⟨v,⟨r,hr,hmk⟩,hp⟩:=h
  have:=pure1_some hp;subst this
  cases hv with
  |agg _ us hl hc h1=>
   obtain⟨hr1,hr2⟩:=part_some hr
   have hlen:((us.drop f.offset).take z).length=r.length:=by rw[hr1];simp[hl]
   obtain⟨hval,hone⟩:=mkV_rel hmk hlen (fun j v u hj hu=>by
    have hj':=part_get hr hj
    rw[List.getElem?_take] at hu
    split at hu
    ·rw[List.getElem?_drop] at hu
     exact⟨hc _ v u hj' hu,h1 u (List.mem_of_getElem? hu)⟩
    ·cases hu)
   exact⟨_,run us (fun e=>by rw[←hr2];exact hone e) (by have:=part_len hr;rw[hl];omega),hval,rfl⟩
 ·rename_i cs
  simp only[Option.bind_eq_some_iff] at h
  obtain⟨v,⟨r,hr,hmk⟩,hp⟩:=h
  have:=pure1_some hp;subst this
  cases hv with
  |t _ _ hT=>
   cases hT with
   |agg _ us hl hc h1=>
    obtain⟨hr1,hr2⟩:=part_some hr
    have hlen:((us.drop f.offset).take z).length=r.length:=by rw[hr1];simp[hl]
    obtain⟨hval,hone⟩:=mkT_rel (w:=w) (ok:=okB F S m w) hmk hlen (fun T hT=>hc T (List.mem_of_mem_drop (List.mem_of_mem_take (hr1▸hT)))) (fun j v u hj hu=>by
     have hj':=part_get hr hj
     rw[List.getElem?_take] at hu
     split at hu
     ·rw[List.getElem?_drop] at hu
      exact h1 _ v u hj' hu
     ·cases hu)
    exact⟨_,run us (fun e=>by rw[←hr2];exact hone e) (by have:=part_len hr;rw[hl];omega),.t _ _ hval,rfl⟩
 ·cases h
theorem szIs_eq{e:TypeId}{k:Nat}(h:szIs P e k=true):tsz P e=some k:=by
 unfold szIs at h
 split at h
 ·rename_i z hz;rw[hz,Nat.eq_of_beq_eq_true h]
 ·cases h
theorem bif_some{α:Type}{b:Bool}{x:Option α}{r:α}(h:(bif b then x else none)=some r):b=true∧x=some r:=by
 cases b with
 |true=>exact⟨rfl,h⟩
 |false=>cases h
theorem indexAddrK_sound{t:TypeId}{x i:AVal}{c:Orc}{δ:Dl}(h:indexAddrK P t x i st c=some δ)(hc:All δ.cnd)(hst:∀id o,st id=some o→S id=some o)(hS:SRel F S m w)
 {ux ui:Value} (hx:VRel S m w (okB F S m w) x ux) (hi:VRel S m w (okB F S m w) i ui):
 ∃v,(Instr.indexAt t ux ui).run P w= .ok v w∧VRel S m w (okB F S m w) δ.val v∧δ.wr=[]:=by
 unfold indexAddrK at h
 split at h
 ·rename_i e k xs ik j hu
  have hui:=VRel.sc_inv hi
  subst hui
  simp only at h
  obtain⟨hz,h⟩:=bif_some h
  have hz:=szIs_eq hz
  have:=pure1_some h;subst this
  simp only[All] at hc
  obtain⟨hj,hX,-⟩:=hc
  generalize eltOf c xs j.toNat=X at hX
  cases hx with
  |t _ _ hT=>
   cases hT with
   |lst _ _ A cap us hk hxx hn hm hA hl hrep=>
    have hlt:j.toNat<xs.length:=(List.getElem?_eq_some_iff.1 hX).1
    obtain⟨b,o,rfl,hb,hcell⟩:=hA (fun e=>by subst e;simp at hlt)
    have hE:=hxx X (List.mem_of_getElem? hX)
    have hbig:(j.toNat+1)*k≤us.length:=by rw[hl];exact Nat.mul_le_mul_right k (by omega)
    rw[Nat.add_mul] at hbig
    refine⟨.pointer (some ⟨b,o+j.toNat*k,none⟩),?_,?_,rfl⟩
    ·have h2:j< (xs.length:Int):=by omega
     simp[Instr.indexAt,asIntOf,run_underlying hu,run_sizeOf' hz,hj,h2,add_lit']
    ·refine .cptr _ b _ ((us.drop (j.toNat*k)).take k) hb (by rw[hE.1];simp;omega) hE.2 (fun q u hq=> ?_) (fun q T u h1 h2=> ?_)
     ·rw[List.getElem?_take] at hq
      split at hq
      ·rw[List.getElem?_drop] at hq
       rw[Nat.add_assoc]
       exact hcell _ u hq
      ·cases hq
     ·rw[List.getElem?_take] at h2
      split at h2
      ·rename_i hqk
       rw[List.getElem?_drop] at h2
       exact hrep _ T u ((flat_get hxx hX hqk).trans h1) h2
      ·cases h2
 ·rename_i e id n ik j hu
  have hui:=VRel.sc_inv hi
  subst hui
  split at h
  rotate_left
  ·cases h
  rename_i k fz xs hs
  obtain⟨hz,h⟩:=bif_some h
  have hz:=szIs_eq hz
  have:=pure1_some h;subst this
  simp only[All] at hc
  obtain⟨hn,hj,hjn,-⟩:=hc
  cases hx with
  |rowG _ _ L hs'=>rw[hst id _ hs] at hs';cases hs'
  |row _ _ k' fz' xs' L hs' hn' hu'=>
   have hs2:=hst id _ hs
   rw[hs2] at hs'
   cases hs'
   have hL:=hu' hn
   have:=hS.objs id _ hs2
   obtain⟨a1,a2,a3,a4,a5⟩:=this
   rcases a5 with⟨a5,a6⟩| ⟨b,us,e,h1,h2,h3,h4,h5⟩
   ·rw[a6] at a3;omega
   ·subst hL
    refine⟨.pointer (some ⟨b,j.toNat*k+0,none⟩),?_,.eptr id n _ 0 k fz xs b hs2 hn' (fun _=>h1),rfl⟩
    simp[Instr.indexAt,asIntOf,run_underlying hu,run_sizeOf' hz,hj,hjn,rowVal,h1,add_lit']
 ·rename_i e id ik j hu
  have hui:=VRel.sc_inv hi
  subst hui
  split at h
  rotate_left
  ·cases h
  rename_i fz xs hh hs
  obtain⟨hz,h⟩:=bif_some h
  have hz:=szIs_eq hz
  have:=pure1_some h;subst this
  simp only[All] at hc
  obtain⟨hj,hjn,-⟩:=hc
  cases hx with
  |mat _ fz' xs' hh' L hs' hm=>
   have hs2:=hst id _ hs
   rw[hs2] at hs'
   cases hs'
   obtain⟨⟨b,us,e,q1,q2,q3,q4⟩,_⟩:=hS.objs id _ hs2
   rw[hm] at q1
   refine⟨.pointer (some ⟨b,j.toNat,none⟩),?_,.mptr id _ fz xs hh b hs2 (by rw[hm];exact q1),rfl⟩
   simp[Instr.indexAt,asIntOf,run_underlying hu,run_sizeOf' hz,hj,hjn,rowVal,q1,add_lit']
 ·rename_i len e id off ik j hu
  have hui:=VRel.sc_inv hi
  subst hui
  simp only[Option.bind_eq_some_iff] at h
  obtain⟨z,hz,h⟩:=h
  have:=pure1_some h;subst this
  simp only[All] at hc
  obtain⟨hj,hjn,-⟩:=hc
  cases hx with
  |ptrG _ _ b hs=>
   refine⟨.pointer (some ⟨b,off+j.toNat*z,none⟩),?_,.ptrG id _ b hs,rfl⟩
   simp[Instr.indexAt,asIntOf,run_underlying hu,run_sizeOf' hz,hj,hjn,Instr.sureAddr,add_lit']
  |ptr _ _ cs b hs hm=>
   refine⟨.pointer (some ⟨b,off+j.toNat*z,none⟩),?_,.ptr id _ cs b hs hm,rfl⟩
   simp[Instr.indexAt,asIntOf,run_underlying hu,run_sizeOf' hz,hj,hjn,Instr.sureAddr,add_lit']
 ·rename_i e id n ik j hu
  have hui:=VRel.sc_inv hi
  subst hui
  split at h
  rotate_left
  ·cases h
  rename_i cs hs
  simp only[Option.bind_eq_some_iff] at h
  obtain⟨z,hz,h⟩:=h
  have:=pure1_some h;subst this
  simp only[All] at hc
  obtain⟨hj,hjn,-⟩:=hc
  have hs2:=hst id _ hs
  cases hx with
  |bslG _ _ L hs'=>rw[hs2] at hs';cases hs'
  |bsl _ _ cs' b hs' hm=>
   refine⟨.pointer (some ⟨b,j.toNat*z,none⟩),?_,.ptr id _ cs' b hs' (by rw[hm]),rfl⟩
   simp[Instr.indexAt,asIntOf,run_underlying hu,run_sizeOf' hz,hj,hjn,rowVal,add_lit']
 ·rename_i e id n ik j hu
  have hui:=VRel.sc_inv hi
  subst hui
  split at h
  rotate_left
  ·cases h
  rename_i cs hs
  simp only[Option.bind_eq_some_iff] at h
  obtain⟨z,hz,h⟩:=h
  have:=pure1_some h;subst this
  simp only[All] at hc
  obtain⟨hj,hjn,-⟩:=hc
  have hs2:=hst id _ hs
  cases hx with
  |pslG _ _ L hs'=>rw[hs2] at hs';cases hs'
  |psl _ _ cs' b c hs' hm hn=>
   refine⟨.pointer (some ⟨b,j.toNat*z,none⟩),?_,.ptr id _ cs' b hs' (by rw[hm]),rfl⟩
   simp[Instr.indexAt,asIntOf,run_underlying hu,run_sizeOf' hz,hj,hjn,rowVal,add_lit']
 ·cases h
theorem indexK_sound{t:TypeId}{x i:AVal}{δ:Dl}(h:indexK P t x i=some δ)(hc:All δ.cnd)
 {ux ui:Value} (hx:VRel S m w (okB F S m w) x ux) (hi:VRel S m w (okB F S m w) i ui):
 ∃v,(Instr.index t ux ui).run P w= .ok v w∧VRel S m w (okB F S m w) δ.val v∧δ.wr=[]:=by
 unfold indexK at h
 split at h
 ·rename_i s ik j hu
  have:=pure1_some h;subst this
  have:=VRel.sc_inv hx;subst this
  have:=VRel.sc_inv hi;subst this
  simp only[All] at hc
  obtain⟨hj,hjn,-⟩:=hc
  have hlt:j.toNat<s.size:=by omega
  refine⟨_,?_,.t _ _ (.sc _ rfl),rfl⟩
  simp[Instr.index,asIntOf,run_underlying hu,hj,hlt]
 ·rename_i len e ik j hu
  simp only[Option.bind_eq_some_iff] at h
  obtain⟨z,hz,ag,hag,h⟩:=h
  have:=VRel.sc_inv hi;subst this
  have run:∀us:List Value,0≤j→j< (len:Int)→(ag=false→z=1)→j.toNat*z+z≤us.length∨z=0→(Instr.index t (.agg us.toArray) (.int ik j)).run P w= .ok (loaded ag ((us.drop (j.toNat*z)).take z)) w:=by
   intro us hj hjn h1 hle
   cases ag with
   |true=>
    simp[Instr.index,asIntOf,run_underlying hu,hj,hjn,Go.part,run_isAgg' hag,run_sizeOf' hz,loaded]
   |false=>
    have hz1:=h1 rfl
    subst hz1
    have hlt:j.toNat<us.length:=by omega
    simp[Instr.index,asIntOf,run_underlying hu,hj,hjn,Go.part,run_isAgg' hag,run_sizeOf' hz,loaded,hlt]
    rw[List.drop_eq_getElem_cons hlt]
    rfl
  split at h
  ·rename_i cs
   simp only[Option.bind_eq_some_iff] at h
   obtain⟨v,⟨r,hr,hmk⟩,hp⟩:=h
   have:=pure1_some hp;subst this
   simp only[All] at hc
   obtain⟨hj,hjn,-⟩:=hc
   cases hx with
   |agg _ us hl hcc h1=>
    obtain⟨hr1,hr2⟩:=part_some hr
    have hlen:((us.drop (j.toNat*z)).take z).length=r.length:=by rw[hr1];simp[hl]
    obtain⟨hval,hone⟩:=mkV_rel hmk hlen (fun k v u hj hu=>by
     have hj':=part_get hr hj
     rw[List.getElem?_take] at hu
     split at hu
     ·rw[List.getElem?_drop] at hu
      exact⟨hcc _ v u hj' hu,h1 u (List.mem_of_getElem? hu)⟩
     ·cases hu)
    exact⟨_,run us hj hjn (fun e=>by rw[←hr2];exact hone e) (by have:=part_len hr;rw[hl];omega),hval,rfl⟩
  ·rename_i cs
   simp only[Option.bind_eq_some_iff] at h
   obtain⟨v,⟨r,hr,hmk⟩,hp⟩:=h
   have:=pure1_some hp;subst this
   simp only[All] at hc
   obtain⟨hj,hjn,-⟩:=hc
   cases hx with
   |t _ _ hT=>
    cases hT with
    |agg _ us hl hcc h1=>
     obtain⟨hr1,hr2⟩:=part_some hr
     have hlen:((us.drop (j.toNat*z)).take z).length=r.length:=by rw[hr1];simp[hl]
     obtain⟨hval,hone⟩:=mkT_rel (w:=w) (ok:=okB F S m w) hmk hlen (fun T hT=>hcc T (List.mem_of_mem_drop (List.mem_of_mem_take (hr1▸hT)))) (fun k v u hj hu=>by
      have hj':=part_get hr hj
      rw[List.getElem?_take] at hu
      split at hu
      ·rw[List.getElem?_drop] at hu
       exact h1 _ v u hj' hu
      ·cases hu)
     exact⟨_,run us hj hjn (fun e=>by rw[←hr2];exact hone e) (by have:=part_len hr;rw[hl];omega),.t _ _ hval,rfl⟩
  ·cases h
 ·cases h
theorem unK_sound{op:UnOp}{x:AVal}{δ:Dl}(h:unK op x=some δ){ux:Value}(hx:VRel S m w (okB F S m w) x ux):
 ∃v,(Op.unary op ux).run P w= .ok v w∧VRel S m w (okB F S m w) δ.val v∧δ.wr=[]:=by
 unfold unK at h
 split at h
 ·have:=pure1_some h;subst this
  have:=VRel.sc_inv hx;subst this
  exact⟨_,by simp[Op.unary],.t _ _ (.sc _ rfl),rfl⟩
 ·have:=pure1_some h;subst this
  have:=VRel.sc_inv hx;subst this
  exact⟨_,by simp[Op.unary,Op.intArith],.t _ _ (.sc _ rfl),rfl⟩
 ·cases h
theorem flat_bytes:∀(l:List UInt8),flat (l.map fun b=>Tree.sc (.int .u8 b.toNat))=l.map fun b=>Tree.sc (.int .u8 b.toNat)
 | []=>rfl
 |b::l=>by rw[List.map_cons,flat,flat_bytes l];rfl
theorem convB_sound{src dst e:TypeId}{id n:Nat}{c:Orc}{δ:Dl}(hs:P.underlying src=some (.slice e))(hd:P.underlying dst=some .string)(he:P.underlying e=some (.int .u8))
 (h:convB n (st id) c=some δ) (hc:All δ.cnd) (hst:∀id o,st id=some o→S id=some o) (hS:SRel F S m w) {ux:Value} (hx:VRel S m w (okB F S m w) (.row id n) ux):
 ∃v,(convert src dst ux).run P w= .ok v w∧VRel S m w (okB F S m w) δ.val v∧δ.wr=[]:=by
 unfold convB at h
 split at h
 rotate_left
 ·cases h
 rename_i fz xs s ho hel
 simp only[Option.some.injEq] at h
 subst h
 obtain⟨hn,hxs,-⟩:=hc
 subst hxs
 have hs2:=hst id _ ho
 cases hx with
 |rowG _ _ L hs'=>rw[hs2] at hs';cases hs'
 |row _ _ k' fz' xs' L hs' hn' hu'=>
  rw[hs2] at hs'
  simp only[Option.some.injEq,Ob.row.injEq] at hs'
  obtain⟨rfl,rfl,rfl⟩:=hs'
  have hL:=hu' hn
  subst hL
  obtain⟨_,_,h3,h4,h5⟩:=hS.objs id _ hs2
  have hlen:(bytesT s).length=s.data.toList.length:=by unfold bytesT;rw[List.length_map]
  refine⟨.string s,?_,.t _ _ (.sc _ rfl),rfl⟩
  rcases h5 with⟨h6,h7⟩| ⟨b,us,t,h6,h7,h8,h9,h10⟩
  ·have h0:n=0:=by omega
   have hl0:s.data.toList.length=0:=by omega
   have hse:s=ByteArray.empty:=by
    cases s with
    |mk a=>
     have:a.toList=[]:=List.length_eq_zero_iff.1 hl0
     have:a=#[]:=by simpa using this
     subst this;rfl
   subst h0
   unfold rowVal
   rw[h6,h7,hse]
   simp[convert,run_underlying hs,run_underlying hd,run_underlying he,Conv.bytesToString,Sem.run_pure]
  ·unfold rowVal
   rw[h6]
   have key:=run_convert_bytes_back (P:=P) w src dst e ⟨b,0,none⟩ (m id).2 s.data.toList hs he hd (fun j hj=>by
    rw[add_lit',Nat.zero_add]
    have hju:j<us.size:=by omega
    have hT:(flat (bytesT s))[j]? =some (.sc (.int .u8 s.data.toList[j].toNat)):=by
     unfold bytesT;rw[flat_bytes,List.getElem?_map,List.getElem?_eq_getElem hj];rfl
    have hr:=h10 j _ us[j] hT (Array.getElem?_eq_getElem hju)
    have hcell:w.cell? ⟨b,j,none⟩=some us[j]:=by unfold World.cell?;simp[h7,hju]
    rw[hcell]
    generalize us[j]=u at hr
    cases hr;rfl)
   have e1:(⟨s.data.toList.toArray⟩:ByteArray)=s:=by cases s;simp
   rw[e1] at key
   rw[hn,hlen]
   exact key
theorem convK_sound{src dst:TypeId}{x:AVal}{c:Orc}{δ:Dl}(h:convK P src dst x st c=some δ)(hc:All δ.cnd)(hst:∀id o,st id=some o→S id=some o)(hS:SRel F S m w){ux:Value}(hx:VRel S m w (okB F S m w) x ux):
 ∃v,(convert src dst ux).run P w= .ok v w∧VRel S m w (okB F S m w) δ.val v∧δ.wr=[]:=by
 unfold convK at h
 split at h
 ·rename_i d k ik n hs hd
  have:=pure1_some h;subst this
  have:=VRel.sc_inv hx;subst this
  exact⟨_,by simp[convert,run_underlying hs,run_underlying hd,Conv.intToInt],.t _ _ (.sc _ rfl),rfl⟩
 ·rename_i s hs hd
  have:=pure1_some h;subst this
  have:=VRel.sc_inv hx;subst this
  exact⟨_,by simp[convert,run_underlying hs,run_underlying hd],.t _ _ (.sc _ rfl),rfl⟩
 ·rename_i e id n hs hd
  split at h
  ·rename_i he
   exact convB_sound hs hd he h hc hst hS hx
  ·cases h
 ·cases h
theorem lenK_sound{t ty:TypeId}{x:AVal}{δ:Dl}(h:lenK P t x st=some δ){ux:Value}(hx:VRel S m w (okB F S m w) x ux):
 ∃v,(Builtin.len_ #[t] ty #[ux]).run P w= .ok v w∧VRel S m w (okB F S m w) δ.val v∧δ.wr=[]:=by
 unfold lenK at h
 split at h
 ·rename_i s hu
  have:=pure1_some h;subst this
  have:=VRel.sc_inv hx;subst this
  exact⟨_,by simp[Builtin.len_,run_underlying hu,goInt],.t _ _ (.sc _ rfl),rfl⟩
 ·rename_i e k xs hu
  have:=pure1_some h;subst this
  cases hx with
  |t _ _ hT=>
   cases hT with
   |lst _ _ A cap us hk hxx hn hm hA hl hrep=>
    exact⟨_,by simp[Builtin.len_,run_underlying hu,goInt],.t _ _ (.sc _ rfl),rfl⟩
 ·rename_i e A n c hu
  have:=pure1_some h;subst this
  have:=VRel.sc_inv hx;subst this
  exact⟨_,by simp[Builtin.len_,run_underlying hu,goInt],.t _ _ (.sc _ rfl),rfl⟩
 ·rename_i e id n hu
  have:=pure1_some h;subst this
  cases hx with
  |rowG _ _ L hs'=>exact⟨_,by simp[Builtin.len_,run_underlying hu,goInt,rowVal],.t _ _ (.sc _ rfl),rfl⟩
  |row _ _ k' fz' xs' L hs' hn' hu'=>
   exact⟨_,by simp[Builtin.len_,run_underlying hu,goInt,rowVal],.t _ _ (.sc _ rfl),rfl⟩
 ·rename_i e id n hu
  have:=pure1_some h;subst this
  cases hx with
  |bslG _ _ L hs'=>exact⟨_,by simp[Builtin.len_,run_underlying hu,goInt,rowVal],.t _ _ (.sc _ rfl),rfl⟩
  |bsl _ _ cs b hs' hm=>exact⟨_,by simp[Builtin.len_,run_underlying hu,goInt,rowVal],.t _ _ (.sc _ rfl),rfl⟩
 ·rename_i e id n hu
  have:=pure1_some h;subst this
  cases hx with
  |pslG _ _ L hs'=>exact⟨_,by simp[Builtin.len_,run_underlying hu,goInt,rowVal],.t _ _ (.sc _ rfl),rfl⟩
  |psl _ _ cs b c hs' hm hn=>exact⟨_,by simp[Builtin.len_,run_underlying hu,goInt,rowVal],.t _ _ (.sc _ rfl),rfl⟩
 ·rename_i n e hu
  have:=pure1_some h;subst this
  exact⟨_,by simp[Builtin.len_,run_underlying hu,goInt],.t _ _ (.sc _ rfl),rfl⟩
 ·cases h
theorem eqC_cases{d:Option TypeDesc}{a b:Tree}{r:Bool}(h:eqC d a b=some r):
 (∃k k' x y,d=some (.int k')∧a= .sc (.int k x)∧b= .sc (.int k y)∧r=(x==y))∨
 (∃x y,d=some .string∧a= .sc (.string x)∧b= .sc (.string y)∧r=(x.toList==y.toList))∨
 (∃x y,d=some .bool∧a= .sc (.bool x)∧b= .sc (.bool y)∧r=(x==y)):=by
 unfold eqC at h
 split at h
 ·split at h
  ·split at h
   ·rename_i e;subst e;simp only[Option.some.injEq] at h;exact .inl ⟨_,_,_,_,rfl,rfl,rfl,h.symm⟩
   ·cases h
  ·cases h
 ·split at h
  ·simp only[Option.some.injEq] at h;exact .inr (.inl ⟨_,_,rfl,rfl,rfl,h.symm⟩)
  ·cases h
 ·split at h
  ·simp only[Option.some.injEq] at h;exact .inr (.inr ⟨_,_,rfl,rfl,rfl,h.symm⟩)
  ·cases h
 ·cases h
theorem eqFields_run(d:Nat)(xs ys:Array Value):∀(fs:List Field) (i:Nat) (a b:List Tree) (r:Bool),eqL P i fs a b=some r→
 (∀(j:Nat) (v:Value),a[j]? =some (.sc v)→xs[i+j]? =some v)→(∀(j:Nat) (v:Value),b[j]? =some (.sc v)→ys[i+j]? =some v)→
 (Op.eqFields (d+1) xs ys fs).run P w= .ok r w
 | [],i,[],[],r,h,_,_=>by simp[eqL] at h;subst h;simp[Op.eqFields]
 | [],i,_::_,_,r,h,_,_=>by simp[eqL] at h
 | [],i,[],_::_,r,h,_,_=>by simp[eqL] at h
 |f::fs,i,[],_,r,h,_,_=>by simp[eqL] at h
 |f::fs,i,_::_,[],r,h,_,_=>by simp[eqL] at h
 |f::fs,i,a::l,b::l',r,h,hx,hy=>by
  simp only[eqL] at h
  obtain⟨hc,h⟩:=bif_some h
  simp only[Bool.and_eq_true,bne_iff_ne,ne_eq] at hc
  have ho:=Nat.eq_of_beq_eq_true hc.1
  split at h
  rotate_left
  ·cases h
  rename_i x y hxy hr
  simp only[Option.some.injEq] at h
  have ih:=eqFields_run d xs ys fs (i+1) l l' y hr (fun j v hj=>by rw[show i+1+j=i+(j+1) by omega];exact hx (j+1) v hj) (fun j v hj=>by rw[show i+1+j=i+(j+1) by omega];exact hy (j+1) v hj)
  have key:∀va vb,a= .sc va→b= .sc vb→(tagg P f.type=some false)→(Op.equalIn (d+1) f.type va vb).run P w= .ok x w→(Op.eqFields (d+1) xs ys (f::fs)).run P w= .ok r w:=by
   intro va vb ha hb ht he
   have h1:=hx 0 va (by simp[ha])
   have h2:=hy 0 vb (by simp[hb])
   simp only[Nat.add_zero] at h1 h2
   simp only[Op.eqFields,hc.2,ne_eq,not_false_eq_true,if_true,Sem.run_bind,Go.part,run_isAgg' ht,Result.andThen_ok,Bool.false_eq_true,if_false,ho,h1,h2,Sem.run_pure,he,Sem.run_ite]
   rw[←h]
   cases x
   ·simp
   ·simp[ih]
  rcases eqC_cases hxy with⟨k,k',p,q,hd,ha,hb,rfl⟩| ⟨p,q,hd,ha,hb,rfl⟩| ⟨p,q,hd,ha,hb,rfl⟩
  ·exact key _ _ ha hb (by simp[tagg,hd]) (run_equalIn_int w d f.type k k' p q hd)
  ·exact key _ _ ha hb (by simp[tagg,hd]) (run_equalIn_string w d f.type p q hd)
  ·exact key _ _ ha hb (by simp[tagg,hd]) (run_equalIn_bool' w d f.type p q hd)
theorem structEq_run{t:TypeId}{a b:List Tree}{r:Bool}(h:structEq P t a b=some r){us vs:List Value}
 (hx:∀(j:Nat) (v:Value),a[j]? =some (.sc v)→us[j]? =some v) (hy:∀(j:Nat) (v:Value),b[j]? =some (.sc v)→vs[j]? =some v):
 (Op.equalIn 10000 t (.agg us.toArray) (.agg vs.toArray)).run P w= .ok r w∧P.eqGuardType P.depth t=false:=by
 unfold structEq at h
 split at h
 rotate_left
 ·cases h
 rename_i fs hu
 obtain⟨hc,h⟩:=bif_some h
 simp only[Bool.and_eq_true,Bool.not_eq_true'] at hc
 have hfs:P.fieldsOf t=fs:=by simp[Program.fieldsOf,hu]
 refine⟨?_,hc.2⟩
 have:=run_equalIn_struct (P:=P) w 9999 t us.toArray vs.toArray (by rw[hfs];exact hu) hc.1
 rw[this,hfs]
 exact eqFields_run 9998 us.toArray vs.toArray fs.toList 0 a b r h (fun j v hj=>by simpa using hx j v hj) (fun j v hj=>by simpa using hy j v hj)
theorem binK_sound {op : BinOp} {t : TypeId} {x y : AVal} {δ : Dl} (h : binK P op t x y = some δ) (hc : All δ.cnd) {ux uy : Value} {ox oy : Operand}
    (hx : VRel S m w (okB F S m w) x ux) (hy : VRel S m w (okB F S m w) y uy) :
    ∃ v, (do eqGuard op t ox oy ux uy; binOp op t ux uy).run P w = .ok v w ∧ VRel S m w (okB F S m w) δ.val v ∧ δ.wr = [] := by
  unfold binK at h
  split at h
  · rename_i k a k' b
    have := VRel.sc_inv hx; subst this
    have := VRel.sc_inv hy; subst this
    have hg : (eqGuard op t ox oy (.int k a) (.int k' b)).run P w = .ok () w := by cases op <;> simp [eqGuard]
    unfold binI at h
    split at h
    · have := pure1_some h; subst this
      simp only [All] at hc
      refine ⟨_, ?_, .t _ _ (.sc _ rfl), rfl⟩
      simp only [Sem.run_bind, hg, Result.andThen_ok]
      simp [binOp, Op.shift, show ¬ b < 0 by omega]
    · have := pure1_some h; subst this
      simp only [All] at hc
      refine ⟨_, ?_, .t _ _ (.sc _ rfl), rfl⟩
      simp only [Sem.run_bind, hg, Result.andThen_ok]
      simp [binOp, Op.shift, show ¬ b < 0 by omega]
    · split at h
      rotate_left
      · cases h
      rename_i hk
      subst hk
      cases op <;> simp only [binA] at h <;> first
        | (cases h; done)
        | (have := pure1_some h; subst this
           simp only [All] at hc
           refine ⟨_, ?_, .t _ _ (.sc _ rfl), rfl⟩
           simp only [Sem.run_bind, hg, Result.andThen_ok]
           simp [binOp, Op.intArith, Op.intDiv, Op.intCmp, Op.intBits, andI, orI, hc])
  · rename_i a b
    have := VRel.sc_inv hx; subst this
    have := VRel.sc_inv hy; subst this
    have hg : (eqGuard op t ox oy (.string a) (.string b)).run P w = .ok () w := by cases op <;> simp [eqGuard]
    cases op <;> simp only [binS] at h <;> first
      | (cases h; done)
      | (have := pure1_some h; subst this
         simp only [All] at hc
         refine ⟨_, ?_, .t _ _ (.sc _ rfl), rfl⟩
         simp only [Sem.run_bind, hg, Result.andThen_ok]
         simp [binOp, Op.stringOp]
         try simpa using hc.1)
  · rename_i a b
    have := VRel.sc_inv hx; subst this
    have := VRel.sc_inv hy; subst this
    have hg : (eqGuard op t ox oy (.bool a) (.bool b)).run P w = .ok () w := by cases op <;> simp [eqGuard]
    split at h
    · rename_i hu
      have := pure1_some h; subst this
      refine ⟨_, ?_, .t _ _ (.sc _ rfl), rfl⟩
      have he := run_equalIn_bool' (P := P) w 9999 t a b hu
      simp only [Sem.run_bind, hg, Result.andThen_ok, binOp, Op.equal, Op.maxDepth, he]
      simp
    · rename_i hu
      have := pure1_some h; subst this
      refine ⟨_, ?_, .t _ _ (.sc _ rfl), rfl⟩
      have he := run_equalIn_bool' (P := P) w 9999 t a b hu
      simp only [Sem.run_bind, hg, Result.andThen_ok, binOp, Op.equal, Op.maxDepth, he]
      simp
    · cases h
  · rename_i a b
    cases hx with
    | t _ _ hTx =>
      cases hTx with
      | agg _ us hlx hcx h1x =>
        cases hy with
        | t _ _ hTy =>
          cases hTy with
          | agg _ vs hly hcy h1y =>
            have hxs : ∀ (i : Nat) (v : Value), a[i]? = some (.sc v) → us[i]? = some v := fun i v hi => by
              have hil : i < us.length := by rw [hlx]; exact (List.getElem?_eq_some_iff.1 hi).1
              have := h1x i _ _ hi (List.getElem?_eq_getElem hil)
              generalize hu : us[i] = uu at this
              cases this
              rw [List.getElem?_eq_getElem hil, hu]
            have hys : ∀ (i : Nat) (v : Value), b[i]? = some (.sc v) → vs[i]? = some v := fun i v hi => by
              have hil : i < vs.length := by rw [hly]; exact (List.getElem?_eq_some_iff.1 hi).1
              have := h1y i _ _ hi (List.getElem?_eq_getElem hil)
              generalize hu : vs[i] = uu at this
              cases this
              rw [List.getElem?_eq_getElem hil, hu]
            have run : ∀ r, structEq P t a b = some r → (Op.equalIn 10000 t (.agg us.toArray) (.agg vs.toArray)).run P w = .ok r w ∧ (eqGuard op t ox oy (.agg us.toArray) (.agg vs.toArray)).run P w = .ok () w := fun r hr =>
              ⟨(structEq_run hr hxs hys).1, run_eqGuard_agg w op t ox oy _ _ (structEq_run (w := w) hr hxs hys).2⟩
            split at h
            · rename_i r hr
              have := pure1_some h; subst this
              refine ⟨_, ?_, .t _ _ (.sc _ rfl), rfl⟩
              simp only [Sem.run_bind, (run r hr).2, Result.andThen_ok, run_eql_struct, (run r hr).1]
            · rename_i r hr
              have := pure1_some h; subst this
              refine ⟨_, ?_, .t _ _ (.sc _ rfl), rfl⟩
              simp only [Sem.run_bind, (run r hr).2, Result.andThen_ok, run_neq_struct, (run r hr).1]
            · cases h
  · rename_i kk xs
    split at h
    · rename_i e hu
      have := pure1_some h; subst this
      have h2 := VRel.sc_inv hy; subst h2
      cases hx with
      | t _ _ hT =>
        cases hT with
        | lst _ _ A c us hk hx' hn hm hA hl hr =>
          refine ⟨.bool A.isNone, ?_, .anyB _, rfl⟩
          have hg : (eqGuard .eql t ox oy (.slice A xs.length c) (.slice none 0 0)).run P w = .ok () w := by simp [eqGuard]
          rw [Sem.run_bind, hg]
          exact Go.Lib.run_eql_slice_nil w t e A xs.length c 0 0 hu
    · rename_i e hu
      have := pure1_some h; subst this
      have h2 := VRel.sc_inv hy; subst h2
      cases hx with
      | t _ _ hT =>
        cases hT with
        | lst _ _ A c us hk hx' hn hm hA hl hr =>
          refine ⟨.bool (!A.isNone), ?_, .anyB _, rfl⟩
          have hg : (eqGuard .neq t ox oy (.slice A xs.length c) (.slice none 0 0)).run P w = .ok () w := by simp [eqGuard]
          rw [Sem.run_bind, hg]
          have := Go.Lib.run_equalIn_slice_nil w 9999 t e A xs.length c 0 0 hu
          simp [binOp, Op.equal, Op.maxDepth, this]
    · cases h
  · cases h
theorem run_neq_iface(w:World){t t':TypeId}{u:Value}{ms:Array (String×TypeId)}(ht:P.underlying t=some (.interface ms)):
 (binOp .neq t (.iface t' u) .nilIface).run P w= .ok (.bool true) w:=by
 have h:∀d:Nat,(Op.equalIn (d+1) t (.iface t' u) .nilIface).run P w= .ok false w:=fun d=>by
  simp[Op.equalIn,run_underlying ht]
 simp only[binOp]
 simp[Op.equal,Op.maxDepth,h 9999]
theorem run_eql_iface(w:World){t t':TypeId}{u:Value}{ms:Array (String×TypeId)}(ht:P.underlying t=some (.interface ms)):
 (binOp .eql t (.iface t' u) .nilIface).run P w= .ok (.bool false) w:=by
 have h:∀d:Nat,(Op.equalIn (d+1) t (.iface t' u) .nilIface).run P w= .ok false w:=fun d=>by
  simp[Op.equalIn,run_underlying ht]
 simp only[binOp]
 simp[Op.equal,Op.maxDepth,h 9999]
theorem run_eql_nilif(w:World){t:TypeId}{ms:Array (String×TypeId)}(ht:P.underlying t=some (.interface ms)):
 (binOp .eql t .nilIface .nilIface).run P w= .ok (.bool true) w:=by
 have h:∀d:Nat,(Op.equalIn (d+1) t .nilIface .nilIface).run P w= .ok true w:=fun d=>by
  simp[Op.equalIn,run_underlying ht]
 simp only[binOp]
 simp[Op.equal,Op.maxDepth,h 9999]
theorem ptrNil_val{x:AVal}{u:Value}{b:Bool}(h:ptrNil x=some b)(hx:VRel S m w (okB F S m w) x u):∃a,u= .pointer a∧a.isNone=b:=by
 unfold ptrNil at h
 split at h
 ·cases h
  cases hx with
  |ptr=>exact⟨_,rfl,rfl⟩
  |ptrG=>exact⟨_,rfl,rfl⟩
 ·cases h
  cases hx with
  |cptr=>exact⟨_,rfl,rfl⟩
 ·have:=VRel.sc_inv hx
  subst this
  exact⟨_,rfl,by simpa using h⟩
 ·cases h
theorem run_eq_ptr(w:World){t e:TypeId}{a:Option Addr}(ht:P.underlying t=some (.pointer e)):
 ∀d:Nat,(Op.equalIn (d+1) t (.pointer a) (.pointer none)).run P w= .ok a.isNone w:=fun d=>by
 cases a<;>simp[Op.equalIn,run_underlying ht]
theorem binIf_sound{op:BinOp}{t:TypeId}{x y:AVal}{δ:Dl}{ux uy:Value}{ox oy:Operand}(h:binIf P op t oy x y=some δ)(hc:All δ.cnd)
 (hx:VRel S m w (okB F S m w) x ux) (hy:VRel S m w (okB F S m w) y uy):
 ∃v,(do eqGuard op t ox oy ux uy;binOp op t ux uy).run P w= .ok v w∧VRel S m w (okB F S m w) δ.val v∧δ.wr=[]:=by
 unfold binIf at h
 split at h
 ·split at h
  ·rename_i e hu
   have:=pure1_some h;subst this
   have h2:=VRel.sc_inv hy;subst h2
   cases hx with
   |ifc t' u=>
    refine⟨.bool true,?_,.t _ _ (.sc _ rfl),rfl⟩
    have hg:(eqGuard .neq t ox oy (.iface t' u) .nilIface).run P w= .ok () w:=by simp[eqGuard]
    rw[Sem.run_bind,hg]
    exact run_neq_iface w hu
  ·cases h
 ·split at h
  ·rename_i e _ hu
   have:=pure1_some h;subst this
   have h2:=VRel.sc_inv hy;subst h2
   have h1:=VRel.sc_inv hx;subst h1
   refine⟨.bool false,?_,.t _ _ (.sc _ rfl),rfl⟩
   have hg:∀c,(eqGuard .neq t ox (.const c) .nilIface .nilIface).run P w= .ok () w:=fun c=>by simp[eqGuard]
   rw[Sem.run_bind,hg]
   exact Go.Lib.run_neq_nil_nil w hu
  ·cases h
 ·split at h
  ·rename_i e hu
   have:=pure1_some h;subst this
   have h2:=VRel.sc_inv hy;subst h2
   cases hx with
   |ifc t' u=>
    refine⟨.bool false,?_,.t _ _ (.sc _ rfl),rfl⟩
    have hg:(eqGuard .eql t ox oy (.iface t' u) .nilIface).run P w= .ok () w:=by simp[eqGuard]
    rw[Sem.run_bind,hg]
    exact run_eql_iface w hu
  ·cases h
 ·split at h
  ·rename_i e _ hu
   have:=pure1_some h;subst this
   have h2:=VRel.sc_inv hy;subst h2
   have h1:=VRel.sc_inv hx;subst h1
   refine⟨.bool true,?_,.t _ _ (.sc _ rfl),rfl⟩
   have hg:∀c,(eqGuard .eql t ox (.const c) .nilIface .nilIface).run P w= .ok () w:=fun c=>by simp[eqGuard]
   rw[Sem.run_bind,hg]
   exact run_eql_nilif w hu
  ·cases h
 ·split at h
  ·rename_i e b hu hb
   have:=pure1_some h;subst this
   have h2:=VRel.sc_inv hy;subst h2
   obtain⟨a,rfl,rfl⟩:=ptrNil_val hb hx
   refine⟨.bool a.isNone,?_,.t _ _ (.sc _ rfl),rfl⟩
   have hg:(eqGuard .eql t ox oy (.pointer a) (.pointer none)).run P w= .ok () w:=by simp[eqGuard]
   rw[Sem.run_bind,hg]
   simp only[binOp,Result.andThen_ok]
   simp[Op.equal,Op.maxDepth,run_eq_ptr w hu 9999]
  ·rename_i e b hu hb
   have:=pure1_some h;subst this
   have h2:=VRel.sc_inv hy;subst h2
   obtain⟨a,rfl,rfl⟩:=ptrNil_val hb hx
   refine⟨.bool (!a.isNone),?_,.t _ _ (.sc _ rfl),rfl⟩
   have hg:(eqGuard .neq t ox oy (.pointer a) (.pointer none)).run P w= .ok () w:=by simp[eqGuard]
   rw[Sem.run_bind,hg]
   simp only[binOp,Result.andThen_ok]
   simp[Op.equal,Op.maxDepth,run_eq_ptr w hu 9999]
  ·cases h
 ·exact binK_sound h hc hx hy
theorem binNE_sound{op:BinOp}{t:TypeId}{x y:AVal}{δ:Dl}(h:binNE P op t x y=some δ)(hc:All δ.cnd){ux uy:Value}{ox oy:Operand}
 (hx:VRel S m w (okB F S m w) x ux) (hy:VRel S m w (okB F S m w) y uy):
 ∃v,(do eqGuard op t ox oy ux uy;binOp op t ux uy).run P w= .ok v w∧VRel S m w (okB F S m w) δ.val v∧δ.wr=[]:=by
 unfold binNE at h
 split at h
 ·rename_i kk xs
  split at h
  ·rename_i e hu
   have:=pure1_some h;subst this
   have h2:=VRel.sc_inv hy;subst h2
   cases hx with
   |t _ _ hT=>
    cases hT with
    |lst _ _ A c us hk hx' hn hm hA hl hr=>
     obtain⟨b,o,eA,_⟩:=hA (fun e=>hc.1 (by rw[e];rfl))
     refine⟨.bool A.isNone,?_,?_,rfl⟩
     ·have hg:(eqGuard .eql t ox oy (.slice A xs.length c) (.slice none 0 0)).run P w= .ok () w:=by simp[eqGuard]
      rw[Sem.run_bind,hg]
      exact Go.Lib.run_eql_slice_nil w t e A xs.length c 0 0 hu
     ·rw[eA];exact .t _ _ (.sc _ rfl)
  ·rename_i e hu
   have:=pure1_some h;subst this
   have h2:=VRel.sc_inv hy;subst h2
   cases hx with
   |t _ _ hT=>
    cases hT with
    |lst _ _ A c us hk hx' hn hm hA hl hr=>
     obtain⟨b,o,eA,_⟩:=hA (fun e=>hc.1 (by rw[e];rfl))
     refine⟨.bool (!A.isNone),?_,?_,rfl⟩
     ·have hg:(eqGuard .neq t ox oy (.slice A xs.length c) (.slice none 0 0)).run P w= .ok () w:=by simp[eqGuard]
      rw[Sem.run_bind,hg]
      have:=Go.Lib.run_equalIn_slice_nil w 9999 t e A xs.length c 0 0 hu
      simp[binOp,Op.equal,Op.maxDepth,this]
     ·rw[eA];exact .t _ _ (.sc _ rfl)
  ·cases h
 ·cases h
end
end Go.Ab
end
section
set_option linter.unusedVariables false
namespace Go.Ab
variable {P:Program} {w:World} {F:Fen P} {S st:Store} {m:Place}
theorem row_tree(hS:SRel F S m w){id k:Nat}{xs:List Tree}(h:S id=some (.row k true xs)):TRep w (okB F S m w) (.lst k xs) (rowVal (m id) xs.length):=by
 obtain⟨a1,a2,a3,a4,a5⟩:=hS.objs id _ h
 rcases a5 with⟨a5,a6⟩| ⟨b,us,e,h1,h2,h3,h4,h5⟩
 ·have hx:xs=[]:=List.eq_nil_of_length_eq_zero (by rw[a6] at a3;omega)
  subst hx
  exact .lst k [] _ _ [] a1 (fun x hx=>by simp at hx) (by simp) a4 (fun h=>absurd rfl h) (by simp) (fun j T u h=>by simp[flat] at h)
 ·have hfl:=flat_len a2
  have hle:xs.length*k≤us.size:=by rw[h3];exact Nat.mul_le_mul_right k a3
  refine .lst k xs _ _ ((us.toList).take (xs.length*k)) a1 a2 a3 a4 (fun _=>⟨b,0,by simp[h1],⟨?_,?_,?_⟩,?_⟩) (by simp;omega) (fun j T u hj hu=> ?_)
  ·exact(Array.getElem?_eq_some_iff.1 h2).1
  ·exact fun hb=>hS.avoid id _ b h (.inl h1) (F.sup b hb)
  ·intro i o hi hl hb
   have:=hS.inj id i _ _ b h hi (.inl h1) hb
   subst this
   rw[h] at hi;cases hi
   simp[Ob.live] at hl
  ·intro j u hu
   rw[List.getElem?_take] at hu
   split at hu
   ·simp only[World.cell?,h2];simpa using hu
   ·cases hu
  ·rw[List.getElem?_take] at hu
   split at hu
   ·exact h5 j T u hj (by simpa using hu)
   ·cases hu
def Frz(S:Store)(f:List (Nat×Ob)):Prop:=∀id o,(id,o)∈f→∃k fz xs,S id=some (.row k fz xs)∧o= .row k true xs
theorem freezeAll:∀(f:List (Nat×Ob)) (S:Store),SRel F S m w→Frz S f→
 SRel F (app S f) m w∧FrameExt F S m w (app S f) m w∧
  (∀id k fz xs,S id=some (.row k fz xs)→∃fz',app S f id=some (.row k fz' xs)∧((id∈f.map (·.1)∨fz=true)→fz'=true))∧
  (∀id,id∉f.map (·.1)→app S f id=S id)
 | [],S,hS,_=>⟨hS,FrameExt.refl F S m w,fun id k fz xs h=>⟨fz,h,fun h'=>h'.elim (fun h'=>by simp at h') (fun h'=>h')⟩,fun id _=>rfl⟩
 | (i,o)::f,S,hS,hf=>by
  obtain⟨k,fz,xs,hi,rfl⟩:=hf i o (by simp)
  obtain⟨h1,h2⟩:=freeze hS hi
  have hrow:∀id k' fz' xs',S id=some (.row k' fz' xs')→∃fz'',upd S i (.row k true xs) id=some (.row k' fz'' xs')∧((id=i∨fz'=true)→fz''=true):=by
   intro id k' fz' xs' h
   by_cases e:id=i
   ·subst e
    rw[hi] at h;cases h
    exact⟨true,upd_same _ _ _,fun _=>rfl⟩
   ·exact⟨fz',by rw[upd_ne e];exact h,fun h'=>h'.elim (fun h'=>absurd h' e) (fun h'=>h')⟩
  have hf':Frz (upd S i (.row k true xs)) f:=by
   intro id o h
   obtain⟨k',fz',xs',h3,h4⟩:=hf id o (by simp[h])
   obtain⟨fz'',h5,_⟩:=hrow id k' fz' xs' h3
   exact⟨k',fz'',xs',h5,h4⟩
  obtain⟨r1,r2,r3,r4⟩:=freezeAll f (upd S i (.row k true xs)) h1 hf'
  refine⟨r1,h2.trans hS r2,fun id k' fz' xs' h=> ?_,fun id hid=> ?_⟩
  ·obtain⟨fz'',h5,h6⟩:=hrow id k' fz' xs' h
   obtain⟨fz3,h7,h8⟩:=r3 id k' fz'' xs' h5
   refine⟨fz3,h7,fun h9=>h8 ?_⟩
   rcases h9 with h9|h9
   ·simp only[List.map_cons,List.mem_cons] at h9
    rcases h9 with h9|h9
    ·exact .inr (h6 (.inl h9))
    ·exact .inl h9
   ·exact .inr (h6 (.inr h9))
  ·simp only[List.map_cons,List.mem_cons,not_or] at hid
   show app (upd S i (.row k true xs)) f id=S id
   rw[r4 id hid.2,upd_ne hid.1]
theorem All_append{l r:List Prop}:All (l++r)↔All l∧All r:=by
 induction l with
 |nil=>simp[All]
 |cons p l ih=>simp[All,ih,and_assoc]
def SnapOk(F:Fen P)(S:Store)(m:Place)(w:World)(v':AVal)(f:List (Nat×Ob))(u:Value):Prop:=
 Frz S f∧∀g:List (Nat×Ob),Frz S g→(∀x∈f,x∈g)→VRel (app S g) m w (okB F (app S g) m w) v' u
theorem snap1_sound(hst:∀id o,st id=some o→S id=some o)(hS:SRel F S m w){v v':AVal}{f:List (Nat×Ob)}{p:List Prop}(h:snap1 st v=some (v',f,p))(hp:All p){u:Value}
 (hv:VRel S m w (okB F S m w) v u):SnapOk F S m w v' f u:=by
 have keep:∀(e1:v=v') (e2:f=[]),SnapOk F S m w v' f u:=by
  intro e1 e2
  subst e1;subst e2
  exact⟨fun id o h=>by simp at h,fun g hg _=>(freezeAll g S hS hg).2.1.val hv⟩
 cases v with
 |row id n=>
  simp only[snap1] at h
  split at h
  rotate_left
  ·cases h
  rename_i k fz xs hs
  simp only[Option.some.injEq,Prod.mk.injEq] at h
  obtain⟨rfl,rfl,rfl⟩:=h
  simp only[All] at hp
  obtain⟨hn,-⟩:=hp
  have hs2:=hst id _ hs
  cases hv with
  |rowG _ _ L hs'=>rw[hs2] at hs';cases hs'
  |row _ _ k' fz' xs' L hs' hn' hu'=>
   rw[hs2] at hs';cases hs'
   have hL:=hu' hn
   refine⟨fun i o hi=> ?_,fun g hg hfg=> ?_⟩
   ·cases fz with
    |true=>simp at hi
    |false=>simp at hi;obtain⟨rfl,rfl⟩:=hi;exact⟨k,false,xs,hs2,rfl⟩
   ·obtain⟨r1,r2,r3,_⟩:=freezeAll g S hS hg
    obtain⟨fz',h1,h2⟩:=r3 id k fz xs hs2
    have:fz'=true:=h2 (by
     cases fz with
     |true=>exact .inr rfl
     |false=>exact .inl (List.mem_map.2 ⟨(id,.row k true xs),hfg _ (by simp),rfl⟩))
    subst this
    have:=row_tree r1 h1
    rw[hL,←hn] at this
    exact .t _ _ this
 |t T=>simp only[snap1,Option.some.injEq,Prod.mk.injEq] at h;exact keep h.1 h.2.1.symm
 |ptr id off=>simp only[snap1,Option.some.injEq,Prod.mk.injEq] at h;exact keep h.1 h.2.1.symm
 |eptr id n i sub=>simp only[snap1,Option.some.injEq,Prod.mk.injEq] at h;exact keep h.1 h.2.1.symm
 |cptr cs=>simp only[snap1,Option.some.injEq,Prod.mk.injEq] at h;exact keep h.1 h.2.1.symm
 |agg cs=>simp only[snap1,Option.some.injEq,Prod.mk.injEq] at h;exact keep h.1 h.2.1.symm
 |fn f cap=>simp only[snap1,Option.some.injEq,Prod.mk.injEq] at h;exact keep h.1 h.2.1.symm
 |tup vs=>simp only[snap1,Option.some.injEq,Prod.mk.injEq] at h;exact keep h.1 h.2.1.symm
 |cond c v=>simp only[snap1,Option.some.injEq,Prod.mk.injEq] at h;exact keep h.1 h.2.1.symm
 |mat id=>simp only[snap1,Option.some.injEq,Prod.mk.injEq] at h;exact keep h.1 h.2.1.symm
 |mptr id i=>simp only[snap1,Option.some.injEq,Prod.mk.injEq] at h;exact keep h.1 h.2.1.symm
 |yl id=>simp only[snap1,Option.some.injEq,Prod.mk.injEq] at h;exact keep h.1 h.2.1.symm
 |junk=>simp only[snap1,Option.some.injEq,Prod.mk.injEq] at h;exact keep h.1 h.2.1.symm
 |anyB=>simp only[snap1,Option.some.injEq,Prod.mk.injEq] at h;exact keep h.1 h.2.1.symm
 |ifc=>simp only[snap1,Option.some.injEq,Prod.mk.injEq] at h;exact keep h.1 h.2.1.symm
 |tail id n i=>simp only[snap1,Option.some.injEq,Prod.mk.injEq] at h;exact keep h.1 h.2.1.symm
 |hdl id=>simp only[snap1,Option.some.injEq,Prod.mk.injEq] at h;exact keep h.1 h.2.1.symm
 |bsl id n=>simp only[snap1,Option.some.injEq,Prod.mk.injEq] at h;exact keep h.1 h.2.1.symm
 |psl id n=>simp only[snap1,Option.some.injEq,Prod.mk.injEq] at h;exact keep h.1 h.2.1.symm
 |xl k xs=>simp only[snap1,Option.some.injEq,Prod.mk.injEq] at h;exact keep h.1 h.2.1.symm
theorem Frz.append{f g:List (Nat×Ob)}(hf:Frz S f)(hg:Frz S g):Frz S (f++g):=by
 intro id o h
 rcases List.mem_append.1 h with h|h
 ·exact hf id o h
 ·exact hg id o h
def SnapsOk(F:Fen P)(S:Store)(m:Place)(w:World)(vs:List AVal)(f:List (Nat×Ob))(us:List Value):Prop:=
 vs.length=us.length∧Frz S f∧∀g:List (Nat×Ob),Frz S g→(∀x∈f,x∈g)→
  ∀(i:Nat) (v:AVal) (u:Value),vs[i]? =some v→us[i]? =some u→VRel (app S g) m w (okB F (app S g) m w) v u
theorem snapL_sound(hst:∀id o,st id=some o→S id=some o)(hS:SRel F S m w):∀{vs vs':List AVal} {f:List (Nat×Ob)} {p:List Prop} {us:List Value},snapL st vs=some (vs',f,p)→All p→
 us.length=vs.length→(∀(i:Nat) (v:AVal) (u:Value),vs[i]? =some v→us[i]? =some u→VRel S m w (okB F S m w) v u)→SnapsOk F S m w vs' f us
 | [],vs',f,p,us,h,_,hl,_=>by
  simp only[snapL,Option.some.injEq,Prod.mk.injEq] at h
  obtain⟨rfl,rfl,rfl⟩:=h
  have:us=[]:=List.eq_nil_of_length_eq_zero (by simpa using hl)
  subst this
  exact⟨rfl,fun id o h=>by simp at h,fun g _ _ i v u h=>by simp at h⟩
 |v::vs,vs',f,p,us,h,hp,hl,hr=>by
  simp only[snapL] at h
  split at h
  rotate_left
  ·cases h
  rename_i v1 f1 p1 l1 g1 d1 h1 h2
  simp only[Option.some.injEq,Prod.mk.injEq] at h
  obtain⟨rfl,rfl,rfl⟩:=h
  rw[All_append] at hp
  match us,hl with
  |u::us,hl=>
   have s1:=snap1_sound hst hS h1 hp.1 (hr 0 v u rfl rfl)
   have s2:=snapL_sound hst hS h2 hp.2 (by simpa using hl) (fun i v u hv hu=>hr (i+1) v u hv hu)
   refine⟨by simp[s2.1],s1.1.append s2.2.1,fun g hg hfg i v' u' hv hu=> ?_⟩
   match i with
   |0=>simp at hv hu;subst hv;subst hu;exact s1.2 g hg (fun x hx=>hfg x (by simp[hx]))
   |i+1=>exact s2.2.2 g hg (fun x hx=>hfg x (by simp[hx])) i v' u' hv hu
theorem snap_sound(hst:∀id o,st id=some o→S id=some o)(hS:SRel F S m w){v v':AVal}{f:List (Nat×Ob)}{p:List Prop}(h:snap st v=some (v',f,p))(hp:All p){u:Value}
 (hv:VRel S m w (okB F S m w) v u):SnapOk F S m w v' f u:=by
 cases v with
 |agg cs=>
  simp only[snap,Option.map_eq_some_iff] at h
  obtain⟨⟨cs',f',p'⟩,h1,h2⟩:=h
  simp only[Prod.mk.injEq] at h2
  obtain⟨rfl,rfl,rfl⟩:=h2
  cases hv with
  |agg _ us hl hc h1'=>
   have:=snapL_sound hst hS h1 hp hl hc
   refine⟨this.2.1,fun g hg hfg=>VRel.aggV this.1.symm (fun i v u hv hu=>⟨this.2.2 g hg hfg i v u hv hu,h1' u (List.mem_of_getElem? hu)⟩)⟩
 |t T=>simp only[snap] at h;exact snap1_sound hst hS h hp hv
 |row id n=>simp only[snap] at h;exact snap1_sound hst hS h hp hv
 |ptr id off=>simp only[snap] at h;exact snap1_sound hst hS h hp hv
 |eptr id n i sub=>simp only[snap] at h;exact snap1_sound hst hS h hp hv
 |cptr cs=>simp only[snap] at h;exact snap1_sound hst hS h hp hv
 |fn f cap=>simp only[snap] at h;exact snap1_sound hst hS h hp hv
 |tup vs=>simp only[snap] at h;exact snap1_sound hst hS h hp hv
 |cond c v=>simp only[snap] at h;exact snap1_sound hst hS h hp hv
 |mat id=>simp only[snap] at h;exact snap1_sound hst hS h hp hv
 |mptr id i=>simp only[snap] at h;exact snap1_sound hst hS h hp hv
 |junk=>simp only[snap] at h;exact snap1_sound hst hS h hp hv
 |anyB=>simp only[snap] at h;exact snap1_sound hst hS h hp hv
 |ifc=>simp only[snap] at h;exact snap1_sound hst hS h hp hv
 |tail id n i=>simp only[snap] at h;exact snap1_sound hst hS h hp hv
 |hdl id=>simp only[snap] at h;exact snap1_sound hst hS h hp hv
 |xl k xs=>simp only[snap] at h;exact snap1_sound hst hS h hp hv
 |yl id=>simp only[snap] at h;exact snap1_sound hst hS h hp hv
 |bsl id n=>simp only[snap] at h;exact snap1_sound hst hS h hp hv
 |psl id n=>simp only[snap] at h;exact snap1_sound hst hS h hp hv
theorem snaps_sound(hst:∀id o,st id=some o→S id=some o)(hS:SRel F S m w):∀{vs vs':List AVal} {f:List (Nat×Ob)} {p:List Prop} {us:List Value},snaps st vs=some (vs',f,p)→All p→
 us.length=vs.length→(∀(i:Nat) (v:AVal) (u:Value),vs[i]? =some v→us[i]? =some u→VRel S m w (okB F S m w) v u)→SnapsOk F S m w vs' f us
 | [],vs',f,p,us,h,_,hl,_=>by
  simp only[snaps,Option.some.injEq,Prod.mk.injEq] at h
  obtain⟨rfl,rfl,rfl⟩:=h
  have:us=[]:=List.eq_nil_of_length_eq_zero (by simpa using hl)
  subst this
  exact⟨rfl,fun id o h=>by simp at h,fun g _ _ i v u h=>by simp at h⟩
 |v::vs,vs',f,p,us,h,hp,hl,hr=>by
  simp only[snaps] at h
  split at h
  rotate_left
  ·cases h
  rename_i v1 f1 p1 l1 g1 d1 h1 h2
  simp only[Option.some.injEq,Prod.mk.injEq] at h
  obtain⟨rfl,rfl,rfl⟩:=h
  rw[All_append] at hp
  match us,hl with
  |u::us,hl=>
   have s1:=snap_sound hst hS h1 hp.1 (hr 0 v u rfl rfl)
   have s2:=snaps_sound hst hS h2 hp.2 (by simpa using hl) (fun i v u hv hu=>hr (i+1) v u hv hu)
   refine⟨by simp[s2.1],s1.1.append s2.2.1,fun g hg hfg i v' u' hv hu=> ?_⟩
   match i with
   |0=>simp at hv hu;subst hv;subst hu;exact s1.2 g hg (fun x hx=>hfg x (by simp[hx]))
   |i+1=>exact s2.2.2 g hg (fun x hx=>hfg x (by simp[hx])) i v' u' hv hu
end Go.Ab
end
section
set_option linter.unusedVariables false
namespace Go.Ab
variable {P:Program} {w:World} {F:Fen P} {S st:Store} {m:Place}
def Done(F:Fen P)(S:Store)(m:Place)(w:World)(wr:List (Nat×Ob))(val:AVal)(r:Result Value):Prop:=
 ∃v w' m',r= .ok v w'∧SRel F (app S wr) m' w'∧FrameExt F S m w (app S wr) m' w'∧VRel (app S wr) m' w' (okB F (app S wr) m' w') val v
theorem Done.same(hS:SRel F S m w){val:AVal}{r:Result Value}(h:∃v,r= .ok v w∧VRel S m w (okB F S m w) val v):Done F S m w [] val r:=by
 obtain⟨v,h1,h2⟩:=h
 exact⟨v,w,m,h1,hS,FrameExt.refl F S m w,h2⟩
theorem flat_take{k:Nat}{xs:List Tree}(h:∀x∈xs,Elt k x)(n:Nat):flat (xs.take n)=(flat xs).take (n*k):=by
 induction xs generalizing n with
 |nil=>simp[flat]
 |cons x xs ih=>
  cases n with
  |zero=>simp[flat]
  |succ n=>
   have h1:=(h x (by simp)).1
   simp only[List.take_succ_cons,flat,ih (fun y hy=>h y (by simp[hy]))]
   rw[List.take_append,h1,List.take_of_length_le (l:=x.cells) (by rw[h1,Nat.add_mul];omega)]
   congr 2
   rw[Nat.add_mul];omega
theorem flat_drop{k:Nat}{xs:List Tree}(h:∀x∈xs,Elt k x)(n:Nat):flat (xs.drop n)=(flat xs).drop (n*k):=by
 induction xs generalizing n with
 |nil=>simp[flat]
 |cons x xs ih=>
  cases n with
  |zero=>simp[flat]
  |succ n=>
   have h1:=(h x (by simp)).1
   simp only[List.drop_succ_cons,flat,ih (fun y hy=>h y (by simp[hy]))]
   rw[List.drop_append,h1,List.drop_of_length_le (l:=x.cells) (by rw[h1,Nat.add_mul];omega),List.nil_append]
   congr 1
   rw[Nat.add_mul];omega
theorem bounds_run(b:Bool)(len cap:Nat)(hlc:len≤cap)(lo hi:Option (IntKind×Int))(l h':Int)(hl:l=(lo.map (·.2)).getD 0)(hh:h'=(hi.map (·.2)).getD (len:Int))(h0:0≤l)(h1:l≤h')(h2:h'≤(cap:Int)):
 (Instr.sliceBounds b len cap (lo.map fun p=> .int p.1 p.2) (hi.map fun p=> .int p.1 p.2) none).run P w= .ok (l.toNat,h'.toNat,cap) w:=by
 have a0:0≤h':=by omega
 have a2:l≤max h' 0:=by omega
 cases lo with
 |none=>
  cases hi with
  |none=>
   simp only[Option.map_none,Option.getD_none] at hl hh
   subst hl;subst hh
   simp[Instr.sliceBounds]
  |some p=>
   simp only[Option.map_none,Option.map_some,Option.getD_none,Option.getD_some] at hl hh
   subst hl;subst hh
   simp[Instr.sliceBounds,Instr.sliceBound,asIntOf,a0,h2]
 |some q=>
  cases hi with
  |none=>
   simp only[Option.map_none,Option.map_some,Option.getD_none,Option.getD_some] at hl hh
   subst hl;subst hh
   simp[Instr.sliceBounds,Instr.sliceBound,asIntOf,h0,h1]
  |some p=>
   simp only[Option.map_some,Option.getD_some] at hl hh
   subst hl;subst hh
   simp[Instr.sliceBounds,Instr.sliceBound,asIntOf,h0,a0,h2,a2]
theorem slice_tree{k:Nat}{xs:List Tree}{u:Value}{ok:Nat→Prop}(h:TRep w ok (.lst k xs) u){t e:TypeId}(hu:P.underlying t=some (.slice e))(hz:tsz P e=some k)
 (lo hi:Option (IntKind×Int)) (l h':Int) (hl:l=(lo.map (·.2)).getD 0) (hh:h'=(hi.map (·.2)).getD (xs.length:Int)) (h0:0≤l) (h1:l≤h') (h2:h'≤(xs.length:Int)):
 ∃v,(Instr.slice t u (lo.map fun p=> .int p.1 p.2) (hi.map fun p=> .int p.1 p.2) none).run P w= .ok v w∧TRep w ok (.lst k ((xs.take h'.toNat).drop l.toNat)) v:=by
 cases h with
 |lst _ _ A cap us hk hx hn hm hA hl' hrep=>
  refine⟨.slice (if cap=l.toNat then A else A.map (·.add (l.toNat*k))) (h'.toNat-l.toNat) (cap-l.toNat),?_,?_⟩
  ·have hb:=bounds_run (P:=P) (w:=w) true xs.length cap hn lo hi l h' hl hh h0 h1 (by omega)
   simp[Instr.slice,run_underlying hu,hb,run_sizeOf' hz]
  ·have hlen:((xs.take h'.toNat).drop l.toNat).length=h'.toNat-l.toNat:=by simp;omega
   have hx':∀x∈(xs.take h'.toNat).drop l.toNat,Elt k x:=fun x hx'=>hx x (List.mem_of_mem_take (List.mem_of_mem_drop hx'))
   have hfl:flat ((xs.take h'.toNat).drop l.toNat)=((flat xs).take (h'.toNat*k)).drop (l.toNat*k):=by
    rw[flat_drop (fun x hx'=>hx x (List.mem_of_mem_take hx')),flat_take hx]
   have hbig:h'.toNat*k≤us.length:=by rw[hl'];exact Nat.mul_le_mul_right k (by omega)
   rw[←hlen]
   refine .lst k _ _ _ ((us.take (h'.toNat*k)).drop (l.toNat*k)) hk hx' (by rw[hlen];omega) (by omega) (fun hne=> ?_) (by rw[hlen,Nat.sub_mul];simp;omega) (fun j T u hj hu'=> ?_)
   ·have hlt:l.toNat<h'.toNat:=by
     have:=List.length_pos_iff.2 hne
     omega
    obtain⟨b,o,rfl,hb,hcell⟩:=hA (fun e=>by subst e;simp at h2;omega)
    refine⟨b,o+l.toNat*k,?_,hb,fun j u hu'=> ?_⟩
    ·rw[if_neg (by omega)];simp[add_lit']
    ·rw[List.getElem?_drop,List.getElem?_take] at hu'
     split at hu'
     ·rw[Nat.add_assoc];exact hcell _ u hu'
     ·cases hu'
   ·rw[hfl] at hj
    rw[List.getElem?_drop,List.getElem?_take] at hu' hj
    split at hu'
    ·rename_i hlt
     rw[if_pos hlt] at hj
     exact hrep _ T u hj hu'
    ·cases hu'
theorem obnd_some{o:Option AVal}{r:Option Int}(h:obnd o=some r){uo:Option Value}(hn:o=none→uo=none)(hs:∀v,o=some v→∃u,uo=some u∧VRel S m w (okB F S m w) v u):
 ∃q:Option (IntKind×Int),uo=q.map (fun p=> .int p.1 p.2)∧r=q.map (·.2):=by
 unfold obnd at h
 split at h
 ·simp only[Option.some.injEq] at h;subst h;exact⟨none,hn rfl,rfl⟩
 ·rename_i k j
  simp only[Option.some.injEq] at h;subst h
  obtain⟨u,rfl,hv⟩:=hs _ rfl
  have:=VRel.sc_inv hv;subst this
  exact⟨some (k,j),rfl,rfl⟩
 ·cases h
theorem sliceT_eq(k:Nat)(xs:List Tree)(lo hi:Option Int)(l h:Int)(hl:l=lo.getD 0)(hh:h=hi.getD xs.length):sliceT k xs lo hi= .lst k ((xs.take h.toNat).drop l.toNat):=by
 cases lo<;>cases hi<;>simp at hl hh<;>subst hl<;>subst hh<;>simp[sliceT]
theorem sliceC_le{n:Nat}{lo hi:Option Int}(h:All (sliceC n lo hi)):0≤lo.getD 0∧lo.getD 0≤hi.getD n∧hi.getD n≤(n:Int):=by
 cases lo<;>cases hi<;>simp[sliceC,All] at h⊢ <;>omega
theorem sliceAt_slice{t e:TypeId}(hu:P.underlying t=some (.slice e))(u:Value)(a b c:Option Value):(Instr.sliceAt t u a b c).run P w=(Instr.slice t u a b c).run P w:=by
 simp[Instr.sliceAt,run_underlying hu]
theorem sliceM_sound{t:TypeId}{x:AVal}{lo hi:Option AVal}{mx:AVal}{δ:Dl}(h:sliceM P t x lo hi mx=some δ)(hc:All δ.cnd)(hS:SRel F S m w)
 {ux um:Value} {ulo uhi:Option Value} (hx:VRel S m w (okB F S m w) x ux) (hln:lo=none→ulo=none) (hhs:∀v,hi=some v→∃u,uhi=some u∧VRel S m w (okB F S m w) v u)
 (hm:VRel S m w (okB F S m w) mx um):Done F S m w δ.wr δ.val ((Instr.sliceAt t ux ulo uhi (some um)).run P w):=by
 unfold sliceM at h
 split at h
 rotate_left
 ·cases h
 rename_i e k xs kk hh km mm hu
 obtain⟨hz,h⟩:=bif_some h
 have hz:=szIs_eq hz
 have:=pure1_some h;subst this
 simp only[All] at hc
 obtain⟨c1,c2,c3,-⟩:=hc
 subst c3
 have:=hln rfl;subst this
 obtain⟨uh,rfl,hv⟩:=hhs _ rfl
 have:=VRel.sc_inv hv;subst this
 have:=VRel.sc_inv hm;subst this
 cases hx with
 |t _ _ hT=>
 cases hT with
 |lst _ _ A cap us hk hx hn hm2 hA hl' hrep=>
 have hlen:(xs.take mm.toNat).length=mm.toNat:=by simp;omega
 have hcap:mm≤(cap:Int):=by omega
 have a2:mm≤max mm 0:=by omega
 have hbig:mm.toNat*k≤us.length:=by rw[hl'];exact Nat.mul_le_mul_right k (by omega)
 refine Done.same hS ⟨.slice (if mm.toNat=0 then A else A.map (·.add 0)) mm.toNat mm.toNat,?_,.xl _ _ _ ?_ ⟨_,by rw[hlen]⟩⟩
 ·rw[sliceAt_slice hu]
  simp[Instr.slice,run_underlying hu,Instr.sliceBounds,Instr.sliceBound,asIntOf,c1,hcap,a2,run_sizeOf' hz]
 ·have key:TRep w (okB F S m w) (.lst k (xs.take mm.toNat)) (.slice (if mm.toNat=0 then A else A.map (·.add 0)) (xs.take mm.toNat).length mm.toNat):=by
   refine .lst k _ _ _ (us.take (mm.toNat*k)) hk (fun x hx'=>hx x (List.mem_of_mem_take hx')) (by rw[hlen];exact Nat.le_refl _) (by omega) (fun hne=> ?_) (by rw[hlen];simp;omega) (fun j T u hj hu'=> ?_)
   ·have h0:mm.toNat≠0:=fun e=>hne (by rw[e];rfl)
    obtain⟨b,o,rfl,hb,hcell⟩:=hA (fun e=>by subst e;simp at c2;omega)
    refine⟨b,o,?_,hb,fun j u hu'=> ?_⟩
    ·rw[if_neg h0];simp[add_lit']
    ·rw[List.getElem?_take] at hu'
     split at hu'
     ·exact hcell j u hu'
     ·cases hu'
   ·rw[flat_take hx,List.getElem?_take] at hj
    rw[List.getElem?_take] at hu'
    split at hu'
    ·rename_i hlt
     rw[if_pos hlt] at hj
     exact hrep _ T u hj hu'
    ·cases hu'
  rw[hlen] at key
  exact key
theorem sliceK_sound{t:TypeId}{x:AVal}{lo hi mx:Option AVal}{δ:Dl}(h:sliceK P t x lo hi mx st=some δ)(hc:All δ.cnd)(hst:∀id o,st id=some o→S id=some o)(hS:SRel F S m w)
 {ux:Value} {ulo uhi:Option Value} (hx:VRel S m w (okB F S m w) x ux) (hln:lo=none→ulo=none) (hls:∀v,lo=some v→∃u,ulo=some u∧VRel S m w (okB F S m w) v u)
 (hhn:hi=none→uhi=none) (hhs:∀v,hi=some v→∃u,uhi=some u∧VRel S m w (okB F S m w) v u):
 mx=none∧Done F S m w δ.wr δ.val ((Instr.sliceAt t ux ulo uhi none).run P w):=by
 unfold sliceK at h
 split at h
 rotate_left
 ·cases h
 rename_i lo' hi' h1 h2
 refine⟨rfl,?_⟩
 obtain⟨ql,rfl,rfl⟩:=obnd_some h1 hln hls
 obtain⟨qh,rfl,rfl⟩:=obnd_some h2 hhn hhs
 split at h
 ·rename_i s hu
  have:=pure1_some h;subst this
  have:=VRel.sc_inv hx;subst this
  simp only[All] at hc
  obtain⟨c1,c2,c3,-⟩:=hc
  refine Done.same hS ⟨_,?_,.t _ _ (.sc _ rfl)⟩
  have hb:=bounds_run (P:=P) (w:=w) false s.size s.size (Nat.le_refl _) ql qh _ _ rfl rfl c1 c2 c3
  simp[Instr.sliceAt,Instr.slice,run_underlying hu,hb]
 ·rename_i e k xs hu
  obtain⟨hz,h⟩:=bif_some h
  have hz:=szIs_eq hz
  have:=pure1_some h;subst this
  obtain⟨c1,c2,c3⟩:=sliceC_le hc
  cases hx with
  |t _ _ hT=>
   obtain⟨v,h3,h4⟩:=slice_tree hT hu hz ql qh _ _ rfl rfl c1 c2 c3
   refine Done.same hS ⟨v,by rw[sliceAt_slice hu];exact h3,.t _ _ ?_⟩
   rw[sliceT_eq k xs _ _ _ _ rfl rfl]
   exact h4
 ·rename_i e hu
  simp only[Option.bind_eq_some_iff] at h
  obtain⟨z,hz,h⟩:=h
  have:=pure1_some h;subst this
  have:=VRel.sc_inv hx;subst this
  obtain⟨c1,c2,c3⟩:=sliceC_le hc
  refine Done.same hS ⟨.slice none 0 0,?_,.t _ _ (.sc _ rfl)⟩
  have hb:=bounds_run (P:=P) (w:=w) true 0 0 (Nat.le_refl _) ql qh _ _ rfl rfl c1 c2 c3
  have e1:((ql.map fun x:IntKind×Int=>x.2).getD 0).toNat=0:=by omega
  have e2:((qh.map fun x:IntKind×Int=>x.2).getD ((0:Nat):Int)).toNat=0:=by omega
  rw[e1,e2] at hb
  rw[sliceAt_slice hu]
  simp[Instr.slice,run_underlying hu,hb,run_sizeOf' hz]
 ·rename_i e id n hu
  split at h
  rotate_left
  ·cases h
  rename_i k fz xs hs
  obtain⟨hz,h⟩:=bif_some h
  have hz:=szIs_eq hz
  simp only[Option.some.injEq] at h
  subst h
  simp only[All] at hc
  obtain⟨hn,hc⟩:=hc
  obtain⟨c1,c2,c3⟩:=sliceC_le hc
  have hs2:=hst id _ hs
  have hfr:Frz S (bif fz then[] else[(id,Ob.row k true xs)]):=by
   intro i o hi
   cases fz with
   |true=>simp at hi
   |false=>simp at hi;obtain⟨rfl,rfl⟩:=hi;exact⟨k,false,xs,hs2,rfl⟩
  obtain⟨r1,r2,r3,_⟩:=freezeAll _ S hS hfr
  obtain⟨fz',h5,h6⟩:=r3 id k fz xs hs2
  have:fz'=true:=h6 (by
   cases fz with
   |true=>exact .inr rfl
   |false=>exact .inl (by simp))
  subst this
  cases hx with
  |rowG _ _ L hs'=>rw[hs2] at hs';cases hs'
  |row _ _ k' fz' xs' L hs' hn' hu'=>
   rw[hs2] at hs';cases hs'
   have hL:=hu' hn
   have hT:=row_tree r1 h5
   rw[hL,←hn] at hT
   obtain⟨v,h3,h4⟩:=slice_tree hT hu hz ql qh _ _ rfl rfl c1 c2 c3
   refine⟨v,w,m,by rw[sliceAt_slice hu];exact h3,r1,r2,.t _ _ ?_⟩
   rw[sliceT_eq k xs _ _ _ _ rfl rfl]
   exact h4
 ·cases h
theorem minK_run(big:Bool)(k:IntKind):∀(l:List AVal) (us:List Value) (a r:Int),minK big a l=some r→us.length=l.length→
 (∀(i:Nat) (v:AVal) (u:Value),l[i]? =some v→us[i]? =some u→VRel S m w (okB F S m w) v u)→
 (us.foldlM (bif big then Builtin.max2 else Builtin.min2) (.int k a)).run P w= .ok (.int k r) w
 | [],us,a,r,h,hl,_=>by
  have:us=[]:=List.eq_nil_of_length_eq_zero (by simpa using hl)
  subst this
  simp[minK] at h;subst h;simp
 |v::l,us,a,r,h,hl,hr=>by
  match us,hl with
  |u::us,hl=>
   simp only[minK] at h
   split at h
   rotate_left
   ·cases h
   rename_i ik b
   have:=VRel.sc_inv (hr 0 _ u rfl rfl)
   subst this
   have ih:=minK_run big k l us _ r h (by simpa using hl) (fun i v u hv hu=>hr (i+1) v u hv hu)
   cases big
   ·simp only[cond_false] at ih
    simp[Builtin.min2,ih]
   ·simp only[cond_true] at ih
    simp[Builtin.max2,ih]
theorem minMaxK_sound{big:Bool}{xs:List AVal}{δ:Dl}(h:minMaxK big xs=some δ){us:List Value}(hl:us.length=xs.length)
 (hr:∀(i:Nat) (v:AVal) (u:Value),xs[i]? =some v→us[i]? =some u→VRel S m w (okB F S m w) v u) (ts:Array TypeId) (ty:TypeId):
 ∃v,((bif big then Builtin.max_ else Builtin.min_) ts ty us.toArray).run P w= .ok v w∧VRel S m w (okB F S m w) δ.val v∧δ.wr=[]:=by
 unfold minMaxK at h
 split at h
 rotate_left
 ·cases h
 rename_i k a l
 simp only[Option.bind_eq_some_iff] at h
 obtain⟨r,h1,h2⟩:=h
 have:=pure1_some h2;subst this
 match us,hl with
 |u::us,hl=>
  have:=VRel.sc_inv (hr 0 _ u rfl rfl)
  subst this
  have:=minK_run (P:=P) big k l us a r h1 (by simpa using hl) (fun i v u hv hu=>hr (i+1) v u hv hu)
  refine⟨_,?_,.t _ _ (.sc _ rfl),rfl⟩
  cases big
  ·simpa[Builtin.min_] using this
  ·simpa[Builtin.max_] using this
end Go.Ab
end
section
set_option linter.unusedVariables false
namespace Go.Ab
variable {P:Program} {w:World} {F:Fen P} {S st:Store} {m:Place}
theorem app_append(S:Store)(f g:List (Nat×Ob)):app S (f++g)=app (app S f) g:=by
 induction f generalizing S with
 |nil=>rfl
 |cons x f ih=>obtain⟨i,o⟩:=x;exact ih _
def CRel(st:Store)(m:Place)(w:World)(ok:Nat→Prop)(cs:List AVal)(us:List Value):Prop:=
 us.length=cs.length∧∀(i:Nat) (v:AVal) (u:Value),cs[i]? =some v→us[i]? =some u→VRel st m w ok v u∧u.oneCell'=true
theorem setRange_some{α:Type}{l r new:List α}{off:Nat}(h:setRange l off new=some r):off+new.length≤l.length∧r=l.take off++new++l.drop (off+new.length):=by
 unfold setRange at h
 obtain⟨h1,h2⟩:=bif_some h
 exact⟨Nat.le_of_ble_eq_true h1,by simp only[Option.some.injEq] at h2;exact h2.symm⟩
def CRelP(st:Store)(m:Place)(w:World)(ok:Nat→Prop)(cs:List AVal)(us:List Value):Prop:=
 cs.length≤us.length∧∀(i:Nat) (v:AVal) (u:Value),cs[i]? =some v→us[i]? =some u→VRel st m w ok v u∧u.oneCell'=true
theorem CRel.splice{ok:Nat→Prop}{cs new:List AVal}{us vs:List Value}{off:Nat}(h:CRel S m w ok cs us)(hn:CRel S m w ok new vs)(hle:off+new.length≤cs.length):
 CRel S m w ok (cs.take off++new++cs.drop (off+new.length)) (us.take off++vs++us.drop (off+vs.length)):=by
 obtain⟨h1,h2⟩:=h
 obtain⟨n1,n2⟩:=hn
 refine⟨by simp[h1,n1],fun i v u hv hu=> ?_⟩
 rw[n1] at hu
 by_cases a:i<off
 ·have l1:i< (cs.take off++new).length:=by simp;omega
  have l2:i< (us.take off++vs).length:=by simp[n1,h1];omega
  rw[List.getElem?_append_left l1,List.getElem?_append_left (by simp;omega),List.getElem?_take,if_pos a] at hv
  rw[List.getElem?_append_left l2,List.getElem?_append_left (by simp[h1];omega),List.getElem?_take,if_pos a] at hu
  exact h2 i v u hv hu
 ·by_cases b:i<off+new.length
  ·have e1:(cs.take off).length=off:=by simp;omega
   have e2:(us.take off).length=off:=by simp[h1];omega
   rw[List.getElem?_append_left (by simp;omega),List.getElem?_append_right (by omega),e1] at hv
   rw[List.getElem?_append_left (by simp[n1,h1];omega),List.getElem?_append_right (by omega),e2] at hu
   exact n2 _ v u hv hu
  ·have e1:(cs.take off++new).length=off+new.length:=by simp;omega
   have e2:(us.take off++vs).length=off+new.length:=by simp[h1,n1];omega
   rw[List.getElem?_append_right (by omega),e1,List.getElem?_drop] at hv
   rw[List.getElem?_append_right (by omega),e2,List.getElem?_drop] at hu
   exact h2 _ v u hv hu
theorem CRelP.splice{ok:Nat→Prop}{cs new:List AVal}{us vs:List Value}{off:Nat}(h:CRelP S m w ok cs us)(hn:CRel S m w ok new vs)(hle:off+new.length≤cs.length):
 CRelP S m w ok (cs.take off++new++cs.drop (off+new.length)) (us.take off++vs++us.drop (off+vs.length)):=by
 obtain⟨h1,h2⟩:=h
 obtain⟨n1,n2⟩:=hn
 refine⟨by simp;omega,fun i v u hv hu=> ?_⟩
 rw[n1] at hu
 by_cases a:i<off
 ·have l1:i< (cs.take off++new).length:=by simp;omega
  have l2:i< (us.take off++vs).length:=by simp[n1];omega
  rw[List.getElem?_append_left l1,List.getElem?_append_left (by simp;omega),List.getElem?_take,if_pos a] at hv
  rw[List.getElem?_append_left l2,List.getElem?_append_left (by simp;omega),List.getElem?_take,if_pos a] at hu
  exact h2 i v u hv hu
 ·by_cases b:i<off+new.length
  ·have e1:(cs.take off).length=off:=by simp;omega
   have e2:(us.take off).length=off:=by simp;omega
   rw[List.getElem?_append_left (by simp;omega),List.getElem?_append_right (by omega),e1] at hv
   rw[List.getElem?_append_left (by simp[n1];omega),List.getElem?_append_right (by omega),e2] at hu
   exact n2 _ v u hv hu
  ·have e1:(cs.take off++new).length=off+new.length:=by simp;omega
   have e2:(us.take off++vs).length=off+new.length:=by simp[n1];omega
   rw[List.getElem?_append_right (by omega),e1,List.getElem?_drop] at hv
   rw[List.getElem?_append_right (by omega),e2,List.getElem?_drop] at hu
   exact h2 _ v u hv hu
theorem fold_set:∀(vs:List Value) (i off:Nat) (cs:Array Value),off+i+vs.length≤cs.size→
 ((vs.zipIdx i).foldl (fun(cs:Array Value) (x:Value×Nat)=>cs.setIfInBounds (off+x.2) x.1) cs).toList=cs.toList.take (off+i)++vs++cs.toList.drop (off+i+vs.length)
 | [],i,off,cs,_=>by simp
 |v::vs,i,off,cs,h=>by
  have ih:=fold_set vs (i+1) off (cs.setIfInBounds (off+i) v) (by simp at h⊢;omega)
  simp only[List.zipIdx_cons,List.foldl_cons]
  rw[ih]
  have:=list_seg_step cs.toList (off+i) v vs (by simp at h⊢;omega)
  simpa[Array.toList_setIfInBounds,Nat.add_assoc] using this
theorem fill_rel{ok:Nat→Prop}{place:Nat→Option (Nat×Nat)}:∀(parts:List (Nat×AVal)) (uparts:List (Nat×Value)) (cs cs':List AVal) (us:List Value),fillV place cs parts=some cs'→
 uparts.length=parts.length→(∀(i:Nat) (p:Nat×AVal) (q:Nat×Value),parts[i]? =some p→uparts[i]? =some q→p.1=q.1∧VRel S m w ok p.2 q.2∧(cellsV p.2).all isCellV=true)→
 CRel S m w ok cs us→∃us':List Value,Instr.fill place us.toArray uparts=some us'.toArray∧CRel S m w ok cs' us'
 | [],uparts,cs,cs',us,h,hl,_,hc=>by
  have:uparts=[]:=List.eq_nil_of_length_eq_zero (by simpa using hl)
  subst this
  simp only[fillV,Option.some.injEq] at h
  subst h
  exact⟨us,rfl,hc⟩
 | (i,v)::parts,uparts,cs,cs',us,h,hl,hr,hc=>by
  match uparts,hl with
  | (i',u)::uparts,hl=>
   obtain⟨e1,hv,hcell⟩:=hr 0 (i,v) (i',u) rfl rfl
   simp only at e1 hv hcell
   subst e1
   simp only[fillV] at h
   split at h
   ·cases h
   rename_i off size hp
   obtain⟨hsz,h⟩:=bif_some h
   have hsz:=Nat.eq_of_beq_eq_true hsz
   split at h
   rotate_left
   ·cases h
   rename_i cells hset
   obtain⟨hle,rfl⟩:=setRange_some hset
   obtain⟨vs,hvs,hvl,hvr⟩:=VRel.cellsOf hv hcell
   have hspl:=hc.splice ⟨hvl,hvr⟩ hle
   obtain⟨us',h1,h2⟩:=fill_rel parts uparts _ cs' _ h (by simpa using hl) (fun j p q hp hq=>hr (j+1) p q hp hq) hspl
   refine⟨us',?_,h2⟩
   simp only[Instr.fill,hp]
   have hus:u.cells.size=size:=by rw[hvs];simp[hvl,hsz]
   have hle':¬(off+u.cells.size>us.toArray.size):=by rw[hus];simp only[List.size_toArray,hc.1];omega
   have hcond:(decide (u.cells.size≠size)||decide (off+u.cells.size>us.toArray.size))=false:=by simp[hus];simp[hc.1];omega
   rw[if_neg (by simpa using hcond)]
   rw[←h1]
   congr 1
   apply Array.ext'
   have:=fold_set vs 0 off us.toArray (by simp[hvl,hc.1];omega)
   rw[hvs,←Array.foldl_toList,Array.toList_zipIdx]
   simpa using this
theorem alloc_old(w:World)(o:Go.Obj)(b:Nat)(h:b<w.heap.size):(w.alloc o).heap[b]? =w.heap[b]? :=Go.RowKit.Below.heap_alloc w o b h
theorem alloc_new(w:World)(o:Go.Obj):(w.alloc o).heap[w.heap.size]? =some o:=by
 show(w.heap.push o)[w.heap.size]? =_
 simp
theorem new_ext{nid:Nat}(hid:S nid=none)(o:Ob)(us:Array Value)(e:TypeId)(cap:Nat):
 FrameExt F S m w (upd S nid o) (place m nid (some w.heap.size,cap)) (w.alloc (.cells us e)):=
 ext_new hid rfl rfl rfl (by simp) (fun b hb=>alloc_old w _ b hb) (fun b hb=>by simp at hb;omega)
theorem new_box(hS:SRel F S m w){nid:Nat}(hid:S nid=none){cs:List AVal}{us:List Value}(hc:CRel S m w (okB F S m w) cs us)(e:TypeId):
 SRel F (upd S nid (.box cs)) (place m nid (some w.heap.size,0)) (w.alloc (.cells us.toArray e))∧
 FrameExt F S m w (upd S nid (.box cs)) (place m nid (some w.heap.size,0)) (w.alloc (.cells us.toArray e))∧
 VRel (upd S nid (.box cs)) (place m nid (some w.heap.size,0)) (w.alloc (.cells us.toArray e)) (okB F (upd S nid (.box cs)) (place m nid (some w.heap.size,0)) (w.alloc (.cells us.toArray e))) (.ptr nid 0) (.pointer (some ⟨w.heap.size,0,none⟩)):=by
 have hF:=new_ext (F:=F) (S:=S) (m:=m) (w:=w) hid (.box cs) us.toArray e 0
 refine⟨hS.new hid hF (fun b hb=>alloc_old w _ b hb) (fun b hb=>by simp at hb;omega) ?_,hF,.ptr nid 0 cs _ (upd_same _ _ _) (by rw[place_same])⟩
 exact⟨w.heap.size,us.toArray,e,rfl,alloc_new w _,by simp[hc.1],fun i v u hv hu=>⟨hF.val (hc.2 i v u hv (by simpa using hu)).1,(hc.2 i v u hv (by simpa using hu)).2⟩⟩
theorem new_row(hS:SRel F S m w){nid:Nat}(hid:S nid=none){k:Nat}{xs:List Tree}(hk:0<k)(hx:∀x∈xs,Elt k x)(cap:Nat)(hcap:xs.length≤cap)(hm:cap≤maxLen){us:List Value}(hl:us.length=cap*k)
 (h1:∀u∈us,u.oneCell'=true) (hr:∀(j:Nat) (T:Tree) (u:Value),(flat xs)[j]? =some T→us[j]? =some u→TRep w (okB F S m w) T u) (e:TypeId):
 SRel F (upd S nid (.row k false xs)) (place m nid (some w.heap.size,cap)) (w.alloc (.cells us.toArray e))∧
 FrameExt F S m w (upd S nid (.row k false xs)) (place m nid (some w.heap.size,cap)) (w.alloc (.cells us.toArray e))∧
 ∀ok,VRel (upd S nid (.row k false xs)) (place m nid (some w.heap.size,cap)) (w.alloc (.cells us.toArray e)) ok (.row nid xs.length) (.slice (some ⟨w.heap.size,0,none⟩) xs.length cap):=by
 have hF:=new_ext (F:=F) (S:=S) (m:=m) (w:=w) hid (.row k false xs) us.toArray e cap
 refine⟨hS.new hid hF (fun b hb=>alloc_old w _ b hb) (fun b hb=>by simp at hb;omega) ?_,hF,fun ok=> ?_⟩
 ·refine⟨hk,hx,hcap,hm,.inr ⟨w.heap.size,us.toArray,e,rfl,alloc_new w _,by simp[hl],fun j u hu=>h1 u (List.mem_of_getElem? (by simpa using hu)),fun j T u hj hu=>hF.tree (hr j T u hj (by simpa using hu))⟩⟩
 ·exact .row nid xs.length k false xs (some w.heap.size,cap) (upd_same _ _ _) (Nat.le_refl _) (fun _=>place_same _ _ _)
theorem tzeros_some{t:TypeId}{z:List Tree}(h:tzeros P t=some z):∃v,tzero P t=some v∧∃vs:List Value,v.cells=vs.toArray∧z=vs.map .sc∧∀u∈vs,u.oneCell'=true:=by
 unfold tzeros at h
 simp only[Option.bind_eq_some_iff] at h
 obtain⟨v,h1,h2⟩:=h
 simp only[vcells] at h2
 split at h2
 ·rename_i hall
  simp only[Option.some.injEq] at h2
  refine⟨v,h1,v.cells.toList,by simp,h2.symm,fun u hu=>by simpa using List.all_eq_true.1 hall u hu⟩
 ·cases h2
theorem CRel.scs{ok:Nat→Prop}{vs:List Value}(h:∀u∈vs,u.oneCell'=true):CRel S m w ok ((vs.map Tree.sc).map AVal.t) vs:=by
 refine⟨by simp,fun i v u hv hu=> ?_⟩
 simp only[List.map_map,List.getElem?_map,Option.map_eq_some_iff] at hv
 obtain⟨a,ha,rfl⟩:=hv
 rw[hu] at ha;cases ha
 have:=h _ (List.mem_of_getElem? hu)
 exact⟨.t _ _ (.sc _ this),this⟩
theorem allocK_sound{e:TypeId}{nid:Nat}{δ:Dl}(h:allocK P e nid=some δ)(hS:SRel F S m w)(hid:S nid=none):Done F S m w δ.wr δ.val ((Instr.alloc e true (.tuple #[])).run P w):=by
 unfold allocK at h
 simp only[Option.bind_eq_some_iff] at h
 obtain⟨z,hz,h⟩:=h
 simp only[Option.some.injEq] at h
 subst h
 obtain⟨v,hv,vs,hvs,rfl,h1⟩:=tzeros_some hz
 obtain⟨r1,r2,r3⟩:=new_box hS hid (CRel.scs h1) e
 exact⟨_,_,_,by simp[Instr.alloc,run_zeroValue' hv,newVar,newRow,hvs],r1,r2,r3⟩
theorem boxK_sound{e:TypeId}{x:AVal}{nid:Nat}{δ:Dl}(h:boxK x nid=some δ)(hS:SRel F S m w)(hid:S nid=none){u:Value}(hx:VRel S m w (okB F S m w) x u):
 Done F S m w δ.wr δ.val ((Instr.box e u).run P w):=by
 unfold boxK at h
 obtain⟨hc,h⟩:=bif_some h
 simp only[Option.some.injEq] at h
 subst h
 obtain⟨us,hus,hl,hr⟩:=VRel.cellsOf hx hc
 obtain⟨r1,r2,r3⟩:=new_box hS hid ⟨hl,hr⟩ e
 exact⟨_,_,_,by simp[Instr.box,newVar,newRow,hus],r1,r2,r3⟩
theorem buildK_sound{t:TypeId}{parts:List (Nat×AVal)}{δ:Dl}(h:buildK P t parts=some δ)(hS:SRel F S m w){uparts:Array (Nat×Value)}(hl:uparts.size=parts.length)
 (hr:∀(i:Nat) (p:Nat×AVal) (q:Nat×Value),parts[i]? =some p→uparts[i]? =some q→p.1=q.1∧VRel S m w (okB F S m w) p.2 q.2):
 Done F S m w δ.wr δ.val ((Instr.build t uparts).run P w):=by
 unfold buildK at h
 simp only[Option.bind_eq_some_iff] at h
 obtain⟨z,hz,place,hp,h⟩:=h
 obtain⟨hall,h⟩:=bif_some h
 simp only[Option.bind_eq_some_iff] at h
 obtain⟨cs,hf,h⟩:=h
 have:=pure1_some h;subst this
 obtain⟨v,hv,vs,hvs,rfl,h1⟩:=tzeros_some hz
 obtain⟨us',hfill,hrel⟩:=fill_rel (ok:=okB F S m w) parts uparts.toList _ cs vs hf (by simpa using hl) (fun i p q hp hq=>by
  obtain⟨a,b⟩:=hr i p q hp (by simpa using hq)
  exact⟨a,b,List.all_eq_true.1 hall p (List.mem_of_getElem? hp)⟩) (CRel.scs h1)
 have hb:P.built t uparts.toList=some us'.toArray:=by
  unfold tzero at hv
  cases hi:P.info? t with
  |none=>simp[hi] at hv
  |some i=>
   simp only[hi,Option.bind_some] at hv
   unfold placeOf at hp
   split at hp
   ·rename_i fs hu
    simp only[Option.map_eq_some_iff] at hp
    obtain⟨ps,hps,rfl⟩:=hp
    unfold structPlaces at hps
    simp only[Program.built,hi,hu,hv,hps,hvs]
    simpa using hfill
   ·rename_i n e hu
    simp only[Option.map_eq_some_iff] at hp
    obtain⟨s,hs,rfl⟩:=hp
    unfold tsz at hs
    cases hie:P.info? e with
    |none=>simp[hie] at hs
    |some ie=>
     simp[hie] at hs
     subst hs
     simp only[Program.built,hi,hu,hv,hie,hvs]
     exact hfill
   ·cases hp
 exact Done.same hS ⟨_,run_build w t uparts _ hb,VRel.aggV hrel.1 hrel.2⟩
end Go.Ab
end
section
set_option linter.unusedVariables false
namespace Go.Ab
variable {P:Program} {w:World} {F:Fen P} {S st:Store} {m:Place}
theorem rewrite_obj(hS:SRel F S m w){id b:Nat}{o o':Ob}(hid:S id=some o)(hlive:o.live=true)(hb:(m id).1=some b){w':World}
 (hos:w'.os=w.os) (htape:w'.tape=w.tape) (hout:w'.output=w.output) (hsz:w'.heap.size=w.heap.size) (hheap:∀c,c≠b→w'.heap[c]? =w.heap[c]?)
 (hlen:o.len≤o'.len) (hsh:o.same o')
 (ho':FrameExt F S m w (upd S id o') m w'→ORel (upd S id o') m w' (okB F (upd S id o') m w') o' (m id) (m.g id)):
 SRel F (upd S id o') m w'∧FrameExt F S m w (upd S id o') m w':=by
 have hF:FrameExt F S m w (upd S id o') m w':=by
  refine⟨hos,htape,hout,by omega,fun c hc hf=>hheap c ?_,fun i oi hi=> ?_,fun i oi hi hn=> ?_⟩
  ·rintro rfl
   rcases hf with hf|hf
   ·exact hS.avoid id o c hid (.inl hb) hf
   ·exact hf id o hid hlive (.inl hb)
  ·by_cases e:i=id
   ·subst e
    rw[hid] at hi;cases hi
    exact⟨o',upd_same _ _ _,by omega,fun _=>rfl,fun h=>(by rw[hlive] at h;cases h),fun _ q=> .inl q,hsh⟩
   ·refine⟨oi,by rw[upd_ne e];exact hi,Nat.le_refl _,fun _=>rfl,fun h=>h,fun _ q=> .inl q,oi.same_refl⟩
  ·by_cases e:i=id
   ·subst e;rw[hid] at hn;cases hn
   ·rw[upd_ne e] at hi;rw[hi] at hn;cases hn
 have back:∀i oi,upd S id o' i=some oi→∃oi',S i=some oi':=by
  intro i oi h
  by_cases e:i=id
  ·subst e;exact⟨_,hid⟩
  ·rw[upd_ne e] at h;exact⟨_,h⟩
 refine⟨⟨fun i oi hi=> ?_,fun i j oi oj c hi hj h1 h2=> ?_,fun i oi c hi hm hFb=> ?_,fun i oi c hi hm=> ?_,fun c hc=>by rw[hsz];exact hS.low c hc,hS.held hF⟩,hF⟩
 ·by_cases e:i=id
  ·subst e
   rw[upd_same] at hi;cases hi
   exact ho' hF
  ·rw[upd_ne e] at hi
   exact(hS.objs i oi hi).persist hF (fun c hc=>hheap c (fun e'=>by subst e';exact e (hS.inj i id _ _ _ hi hid hc (.inl hb))))
 ·obtain⟨_,hi'⟩:=back i oi hi
  obtain⟨_,hj'⟩:=back j oj hj
  exact hS.inj i j _ _ c hi' hj' h1 h2
 ·obtain⟨_,hi'⟩:=back i oi hi
  exact hS.avoid i _ c hi' hm hFb
 ·obtain⟨_,hi'⟩:=back i oi hi
  rw[hsz];exact hS.lt i _ c hi' hm
theorem setRow_get(w:World)(b c:Nat)(cs:Array Value)(h:c≠b):(w.setRow b cs).heap[c]? =w.heap[c]? :=setRow_other w b c cs h
theorem run_storeVar'{t:TypeId}{sz:Nat}(hsz:tsz P t=some sz){b off:Nat}{cur:Array Value}{e:TypeId}(hh:w.heap[b]? =some (.cells cur e (0,0))){u:Value}{vs:List Value}(hu:u.cells=vs.toArray)
 (hl:vs.length=sz) (hle:off+vs.length≤cur.size) (h1:∀v∈vs,v.oneCell'=true):
 (storeVar t ⟨b,off,none⟩ u).run P w= .ok () (w.setRow b (cur.toList.take off++vs++cur.toList.drop (off+vs.length)).toArray):=by
 have:=run_storeCells_at P b off e vs 0 cur w hh (by simpa using hle) h1
 simp only[Nat.add_zero] at this
 simp[storeVar,run_sizeOf' hsz,hu,hl,this]
theorem allT_rel{ok:Nat→Prop}{cs:List AVal}{Ts:List Tree}(h:allT cs=some Ts){us:List Value}(hl:us.length=cs.length)
 (hr:∀(i:Nat) (v:AVal) (u:Value),cs[i]? =some v→us[i]? =some u→VRel S m w ok v u∧u.oneCell'=true):
 Ts.length=us.length∧(∀(i:Nat) (T:Tree) (u:Value),Ts[i]? =some T→us[i]? =some u→TRep w ok T u):=by
 have:=allT_some h
 subst this
 simp only[List.length_map] at hl
 refine⟨hl.symm,fun i T u hT hu=> ?_⟩
 have:=(hr i (.t T) u (by simp[hT]) hu).1
 cases this with
 |t _ _ h=>exact h
theorem flat_set{k:Nat}:∀{xs:List Tree} {i:Nat} {X X':Tree},(∀x∈xs,Elt k x)→xs[i]? =some X→X'.cells.length=k→
 flat (xs.set i X')=(flat xs).take (i*k)++X'.cells++(flat xs).drop (i*k+k)
 | [],i,X,X',_,h,_=>by simp at h
 |x::xs,0,X,X',h,hX,hl=>by
  have h1:=(h x (by simp)).1
  simp only[List.set_cons_zero,flat,Nat.zero_mul,List.take_zero,List.nil_append,Nat.zero_add]
  rw[List.drop_append,h1,List.drop_of_length_le (l:=x.cells) (by omega)]
  simp
 |x::xs,i+1,X,X',h,hX,hl=>by
  have h1:=(h x (by simp)).1
  simp at hX
  have ih:=flat_set (xs:=xs) (X':=X') (fun y hy=>h y (by simp[hy])) hX hl
  simp only[List.set_cons_succ,flat,ih]
  rw[List.take_append,List.take_of_length_le (l:=x.cells) (by rw[h1,Nat.add_mul];omega),List.drop_append,List.drop_of_length_le (l:=x.cells) (by rw[h1,Nat.add_mul];omega),h1]
  simp only[List.nil_append,List.append_assoc]
  rw[show(i+1)*k-k=i*k by rw[Nat.add_mul];omega,show(i+1)*k+k-k=i*k+k by rw[Nat.add_mul];omega]
theorem setCells_some{k:Nat}{X X':Tree}{sub:Nat}{new:List Tree}(hX:Elt k X)(hn:∀T∈new,T.isCell=true)(h:setCells X sub new=some X'):
 sub+new.length≤k∧X'.cells=X.cells.take sub++new++X.cells.drop (sub+new.length)∧Elt k X':=by
 unfold setCells at h
 split at h
 ·rename_i cs
  simp only[Option.map_eq_some_iff] at h
  obtain⟨r,hr,rfl⟩:=h
  obtain⟨h1,rfl⟩:=setRange_some hr
  have hl:cs.length=k:=hX.1
  refine⟨by omega,rfl,?_,fun T hT=> ?_⟩
  ·simp[Tree.cells];omega
  ·simp only[Tree.cells,List.mem_append] at hT
   rcases hT with(hT|hT)|hT
   ·exact hX.2 T (List.mem_of_mem_take hT)
   ·exact hn T hT
   ·exact hX.2 T (List.mem_of_mem_drop hT)
 ·rename_i hna
  split at h
  ·rename_i T
   obtain⟨h1,h2⟩:=bif_some h
   have h1:=Nat.eq_of_beq_eq_true h1
   simp only[Option.some.injEq] at h2
   subst h2;subst h1
   have hT:=hn T (by simp)
   have hTc:T.cells=[T]:=by cases T<;>first|rfl|simp[Tree.isCell] at hT
   have hXc:X.cells=[X]:=by cases X<;>first|rfl|exact absurd rfl (hna _)
   have hk:=hX.1
   rw[hXc] at hk
   simp at hk
   subst hk
   exact⟨by simp,by rw[hTc,hXc];simp,by rw[Elt,hTc];exact⟨rfl,fun U hU=>by simp at hU;subst hU;exact hT⟩⟩
  ·cases h
theorem matC_set{xs:List Tree}{i:Nat}{T:Tree}:matC (xs.set i T) none=(matC xs none).set i (.t T):=by simp[matC,List.map_set]
theorem store_mat{t:TypeId}{sz id i:Nat}{v:AVal}{xs xs':List Tree}{h':Option (Nat×Nat×Nat)}(hsz:tsz P t=some sz)(h1:sz=1)(hs2:S id=some (.mat false xs none))(hi:i<xs.length)(hcv:cellsV v=[v])(hcell:isCellV v=true)
 (hx:matC xs' h'=(matC xs none).set i v) (hxl:xs'.length=xs.length) (hxc:∀x∈xs',x.isCell=true) (hS:SRel F S m w) {ua uv:Value} (ha:VRel S m w (okB F S m w) (.mptr id i) ua) (hv:VRel S m w (okB F S m w) v uv):
 ∃w' m',(Instr.storeAt t ua uv).run P w= .ok () w'∧SRel F (app S [(id,.mat false xs' h')]) m' w'∧FrameExt F S m w (app S [(id,.mat false xs' h')]) m' w':=by
 obtain⟨vs,hvs,hvl,hvr⟩:=VRel.cellsOf hv (by rw[hcv];simp[hcell])
 rw[hcv] at hvl hvr
 cases ha with
 |mptr _ _ fz0 xs0 hh0 b hs' hm=>
  obtain⟨⟨b',us,e,q1,q2,⟨q3,q3x⟩,q4⟩,r1,r2,r3⟩:=hS.objs id _ hs2
  rw[hm] at q1;cases q1
  rw[matC_len] at q3 q3x
  have hv1:vs.length=1:=by rw[hvl];rfl
  have hrun:=run_storeVar' (P:=P) hsz (off:=i) q2 hvs (by rw[hvl];simp[h1]) (by rw[hvl];simp;omega) (fun u hu=>by
   obtain⟨j,hj,rfl⟩:=List.mem_iff_getElem.1 hu
   exact(hvr j _ _ (List.getElem?_eq_getElem (by omega)) (List.getElem?_eq_getElem hj)).2)
  have key:=rewrite_obj (o':= .mat false xs' h') hS hs2 rfl hm (w':=w.setRow b (us.toList.take i++vs++us.toList.drop (i+vs.length)).toArray)
   rfl rfl rfl (by simp) (fun c hc=>setRow_get w b c _ hc) (by simp[Ob.len];omega) (by simp[Ob.same];omega) (fun hF=>by
    have hcr:CRelP S m w (okB F S m w) (matC xs none) us.toList:=⟨by rw[matC_len];simpa using q3,fun i v u a b=>q4 i v u a (by simpa using b)⟩
    have:=hcr.splice ⟨hvl,hvr⟩ (off:=i) (by rw[matC_len];simp;omega)
    have es:(matC xs none).take i++[v]++(matC xs none).drop (i+[v].length)=(matC xs none).set i v:=by
     rw[List.set_eq_take_append_cons_drop,if_pos (by rw[matC_len];exact hi)];simp
    rw[es,←hx] at this
    exact⟨⟨b,_,e,hm,setRow_heap w b us _ e _ q2,⟨by simpa using this.1,q3x.imp (fun q=>by rw[matC_len];simp;omega) (fun q=>q)⟩,fun i v u a b=>⟨hF.val (this.2 i v u a (by simpa using b)).1,(this.2 i v u a (by simpa using b)).2⟩⟩,by rw[r1,hxl],by rw[hxl];exact r2,hxc⟩)
  exact⟨w.setRow b (us.toList.take i++vs++us.toList.drop (i+vs.length)).toArray,m,by simp[Instr.storeAt,Instr.sureAddr,hrun],key.1,key.2⟩
theorem storeK_sound{t:TypeId}{a v:AVal}{c:Orc}{δ:Dl}(h:storeK P t a v st c=some δ)(hc:All δ.cnd)(hst:∀id o,st id=some o→S id=some o)(hS:SRel F S m w)
 {ua uv:Value} (ha:VRel S m w (okB F S m w) a ua) (hv:VRel S m w (okB F S m w) v uv):
 ∃w' m',(Instr.storeAt t ua uv).run P w= .ok () w'∧SRel F (app S δ.wr) m' w'∧FrameExt F S m w (app S δ.wr) m' w'∧δ.val= .junk:=by
 unfold storeK at h
 split at h
 ·rename_i sz id off hsz
  split at h
  rotate_left
  ·cases h
  rename_i cs hs
  simp only at h
  obtain⟨hcond,h⟩:=bif_some h
  simp only[Bool.and_eq_true] at hcond
  have hlen:=Nat.eq_of_beq_eq_true hcond.1
  simp only[Option.bind_eq_some_iff] at h
  obtain⟨cs',hset,h⟩:=h
  simp only[Option.some.injEq] at h
  subst h
  obtain⟨hle,rfl⟩:=setRange_some hset
  have hs2:=hst id _ hs
  obtain⟨vs,hvs,hvl,hvr⟩:=VRel.cellsOf hv hcond.2
  cases ha with
  |ptrG _ _ _ hs'=>rw[hs2] at hs';cases hs'
  |ptr _ _ cs0 b hs' hm=>
   obtain⟨b',us,e,h1,h2,⟨h3,h3x⟩,h4⟩:=hS.objs id _ hs2
   rw[hm] at h1;cases h1
   have hrun:=run_storeVar' (P:=P) hsz (off:=off) h2 hvs (by rw[hvl,hlen]) (by rw[hvl];omega) (fun u hu=>by
    obtain⟨i,hi,rfl⟩:=List.mem_iff_getElem.1 hu
    exact(hvr i _ _ (List.getElem?_eq_getElem (by omega)) (List.getElem?_eq_getElem hi)).2)
   have key:=rewrite_obj (o':= .box (cs.take off++cellsV v++cs.drop (off+(cellsV v).length))) hS hs2 rfl hm (w':=w.setRow b (us.toList.take off++vs++us.toList.drop (off+vs.length)).toArray)
    rfl rfl rfl (by simp) (fun c hc=>setRow_get w b c _ hc) (by simp[Ob.len]) (by simp[Ob.same];omega) (fun hF=>by
     have hcr:CRelP S m w (okB F S m w) cs us.toList:=⟨by simpa using h3,fun i v u a b=>h4 i v u a (by simpa using b)⟩
     have:=hcr.splice ⟨hvl,hvr⟩ hle
     exact⟨b,_,e,hm,setRow_heap w b us _ e _ h2,⟨by simpa using this.1,h3x.imp (fun q=>by simp;omega) (fun q=>q)⟩,fun i v u a b=>⟨hF.val (this.2 i v u a (by simpa using b)).1,(this.2 i v u a (by simpa using b)).2⟩⟩)
   exact⟨w.setRow b (us.toList.take off++vs++us.toList.drop (off+vs.length)).toArray,m,by simp[Instr.storeAt,Instr.sureAddr,hrun],key.1,key.2,rfl⟩
 ·rename_i sz id n i sub hsz
  split at h
  rotate_left
  ·cases h
  rename_i k xs hs
  simp only at h
  split at h
  rotate_left
  ·cases h
  rename_i v' f p hsnap
  simp only[Option.bind_eq_some_iff] at h
  obtain⟨new,hnew,h⟩:=h
  obtain⟨hcond,h⟩:=bif_some h
  simp only[Bool.and_eq_true,Bool.not_eq_true'] at hcond
  obtain⟨⟨hlen,hcell⟩,hnotid⟩:=hcond
  have hlen:=Nat.eq_of_beq_eq_true hlen
  simp only[Option.bind_eq_some_iff] at h
  obtain⟨X',hset,h⟩:=h
  simp only[Option.some.injEq] at h
  subst h
  rw[All_append] at hc
  simp only[All] at hc
  obtain⟨hp,hn,hX,-⟩:=hc
  generalize eltOf c xs i=X at hset hX
  have hs2:=hst id _ hs
  have hsn:=snap_sound hst hS hsnap hp hv
  obtain⟨r1,r2,r3,r4⟩:=freezeAll f S hS hsn.1
  have hv':=hsn.2 f hsn.1 (fun x hx=>hx)
  have hcells:∀T∈new,T.isCell=true:=fun T hT=>List.all_eq_true.1 hcell T hT
  have hcv:(cellsV v').all isCellV=true:=by
   rw[allT_some hnew]
   simpa[isCellV] using hcell
  obtain⟨vs,hvs,hvl,hvr⟩:=VRel.cellsOf hv' hcv
  obtain⟨t1,t2⟩:=allT_rel hnew hvl hvr
  have hid:app S f id=some (.row k false xs):=by
   rw[r4 id (fun hmem=>by
    have:=hasId_iff.2 hmem
    rw[this] at hnotid;cases hnotid)]
   exact hs2
  cases ha with
  |eptrG _ _ _ _ _ _ hs0=>rw[hs2] at hs0;cases hs0
  |eptr _ _ _ _ k0 fz0 xs0 b hs0 hn0 hu0=>
   rw[hs2] at hs0;cases hs0
   have hm:=hu0 hn
   obtain⟨a1,a2,a3,a4,a5⟩:=r1.objs id _ hid
   rcases a5 with⟨a5,_⟩| ⟨b',us,e,h1,h2,h3,h4,h5⟩
   ·rw[hm] at a5;cases a5
   rw[hm] at h1;cases h1
   have hE:=a2 X (List.mem_of_getElem? hX)
   obtain⟨s1,s2,s3⟩:=setCells_some hE hcells hset
   have hil:i<xs.length:=(List.getElem?_eq_some_iff.1 hX).1
   have hbig:(i+1)*k≤us.size:=by rw[h3];exact Nat.mul_le_mul_right k (by omega)
   rw[Nat.add_mul] at hbig
   have hvs1:∀u∈vs,u.oneCell'=true:=fun u hu=>by
    obtain⟨q,hq,rfl⟩:=List.mem_iff_getElem.1 hu
    exact(hvr q _ _ (List.getElem?_eq_getElem (by omega)) (List.getElem?_eq_getElem hq)).2
   have hrun:=run_storeVar' (P:=P) hsz (off:=i*k+sub) h2 hvs (by rw[←t1,hlen]) (by omega) hvs1
   have hfl:flat (xs.set i X')=(flat xs).take (i*k+sub)++new++(flat xs).drop (i*k+sub+new.length):=by
    rw[flat_set a2 hX s3.1,s2]
    have e1:X.cells.take sub=((flat xs).drop (i*k)).take sub:=by
     apply List.ext_getElem?
     intro j
     simp only[List.getElem?_take,List.getElem?_drop]
     split
     ·rename_i hj
      rw[flat_get a2 hX (by omega)]
     ·rfl
    have e2:X.cells.drop (sub+new.length)++(flat xs).drop (i*k+k)=(flat xs).drop (i*k+sub+new.length):=by
     have hfl:=flat_len a2
     have hxl:(i+1)*k≤(flat xs).length:=by rw[hfl];exact Nat.mul_le_mul_right k (by omega)
     rw[Nat.add_mul] at hxl
     apply List.ext_getElem?
     intro j
     by_cases hj:sub+new.length+j<k
     ·rw[List.getElem?_append_left (by simp[hE.1];omega),List.getElem?_drop,List.getElem?_drop,show i*k+sub+new.length+j=i*k+(sub+new.length+j) by omega,flat_get a2 hX hj]
     ·rw[List.getElem?_append_right (by simp[hE.1];omega),List.getElem?_drop,List.getElem?_drop]
      simp only[List.length_drop,hE.1]
      congr 1
      omega
    rw[e1]
    simp only[List.append_assoc]
    rw[e2]
    rw[←List.append_assoc,←List.take_add]
   have key:=rewrite_obj (o':= .row k false (xs.set i X')) r1 hid rfl hm (w':=w.setRow b (us.toList.take (i*k+sub)++vs++us.toList.drop (i*k+sub+vs.length)).toArray)
    rfl rfl rfl (by simp) (fun c hc=>setRow_get w b c _ hc) (by simp[Ob.len]) (by simp[Ob.same]) (fun hF=>by
     refine⟨a1,fun x hx=> ?_,by simpa using a3,a4,.inr ⟨b,_,e,hm,setRow_heap w b us _ e _ h2,by simp;omega,fun j u hu=> ?_,fun j T u hT hu=> ?_⟩⟩
     ·rcases List.mem_or_eq_of_mem_set hx with hx|rfl
      ·exact a2 x hx
      ·exact s3
     ·have hu:(us.toList.take (i*k+sub)++vs++us.toList.drop (i*k+sub+vs.length))[j]? =some u:=by simpa using hu
      rcases List.mem_append.1 (List.mem_of_getElem? hu) with hu|hu
      ·rcases List.mem_append.1 hu with hu|hu
       ·obtain⟨q,hq⟩:=List.getElem?_of_mem (List.mem_of_mem_take hu)
        exact h4 q u (by simpa using hq)
       ·exact hvs1 u hu
      ·obtain⟨q,hq⟩:=List.getElem?_of_mem (List.mem_of_mem_drop hu)
       exact h4 q u (by simpa using hq)
     ·have hu:(us.toList.take (i*k+sub)++vs++us.toList.drop (i*k+sub+vs.length))[j]? =some u:=by simpa using hu
      rw[hfl] at hT
      have hfll:=flat_len a2
      have hxl:(i+1)*k≤(flat xs).length:=by rw[hfll];exact Nat.mul_le_mul_right k (by omega)
      rw[Nat.add_mul] at hxl
      refine hF.tree ?_
      by_cases c1:j<i*k+sub
      ·rw[List.getElem?_append_left (by simp;omega),List.getElem?_append_left (by simp;omega),List.getElem?_take,if_pos c1] at hT
       rw[List.getElem?_append_left (by simp;omega),List.getElem?_append_left (by simp;omega),List.getElem?_take,if_pos c1] at hu
       exact h5 j T u hT (by simpa using hu)
      ·by_cases c2:j<i*k+sub+new.length
       ·have q1:((flat xs).take (i*k+sub)).length=i*k+sub:=by simp;omega
        have q2:(us.toList.take (i*k+sub)).length=i*k+sub:=by simp;omega
        rw[List.getElem?_append_left (by simp;omega),List.getElem?_append_right (by omega),q1] at hT
        rw[List.getElem?_append_left (by simp;omega),List.getElem?_append_right (by omega),q2] at hu
        exact t2 _ T u hT hu
       ·have q1:((flat xs).take (i*k+sub)++new).length=i*k+sub+new.length:=by simp;omega
        have q2:(us.toList.take (i*k+sub)++vs).length=i*k+sub+vs.length:=by simp;omega
        rw[List.getElem?_append_right (by omega),q1,List.getElem?_drop] at hT
        rw[List.getElem?_append_right (by omega),q2,List.getElem?_drop] at hu
        rw[t1] at hT
        exact h5 _ T u hT (by simpa using hu))
   refine⟨w.setRow b (us.toList.take (i*k+sub)++vs++us.toList.drop (i*k+sub+vs.length)).toArray,m,by simp[Instr.storeAt,Instr.sureAddr,hrun],?_,?_,rfl⟩
   ·rw[app_append];exact key.1
   ·rw[app_append];exact r2.trans hS key.2
 ·rename_i sz id i hsz
  split at h
  rotate_left
  ·cases h
  rename_i xs hs
  obtain⟨h1,h⟩:=bif_some h
  have h1:=Nat.eq_of_beq_eq_true h1
  have hs2:=hst id _ hs
  obtain⟨_,_,_,r3⟩:=hS.objs id _ hs2
  split at h
  ·rename_i r n _
   cases hb:Nat.beq r id with
   |true=>rw[hb] at h;cases h
   |false=>
   rw[hb] at h
   simp only[cond_false,Option.some.injEq] at h
   subst h
   obtain⟨w',m',k1,k2,k3⟩:=store_mat (xs':=xs) (h':=some (i,r,n)) hsz h1 hs2 hc.1 rfl rfl rfl rfl r3 hS ha hv
   exact⟨w',m',k1,k2,k3,rfl⟩
  ·rename_i T _
   obtain⟨hT,h⟩:=bif_some h
   simp only[Option.some.injEq] at h
   subst h
   obtain⟨w',m',k1,k2,k3⟩:=store_mat (xs':=xs.set i T) (h':=none) hsz h1 hs2 hc.1 (by cases T<;>first|rfl|simp[Tree.isCell] at hT) (by simpa[isCellV] using hT) matC_set (by simp) (fun x hx=>by
    rcases List.mem_or_eq_of_mem_set hx with hx|rfl
    ·exact r3 x hx
    ·exact hT) hS ha hv
   exact⟨w',m',k1,k2,k3,rfl⟩
  ·cases h
 ·cases h
end Go.Ab
end
section
set_option linter.unusedVariables false
namespace Go.Ab
variable {P:Program} {w:World} {F:Fen P} {S st:Store} {m:Place}
theorem repl_len{α:Type}(l:List α)(n:Nat):(repl l n).length=n*l.length:=by
 induction n with
 |zero=>simp[repl]
 |succ n ih=>simp[repl,ih,Nat.add_mul];omega
theorem repl_get{α:Type}[Inhabited α](l:List α):∀(n j:Nat),j<n*l.length→(repl l n)[j]? =some (l[j%l.length]!)
 |0,j,h=>by simp at h
 |n+1,j,h=>by
  by_cases hj:j<l.length
  ·simp only[repl]
   rw[List.getElem?_append_left hj,Nat.mod_eq_of_lt hj,List.getElem?_eq_getElem hj,List.getElem!_eq_getElem?_getD,List.getElem?_eq_getElem hj]
   rfl
  ·simp only[repl]
   have hs:(n+1)*l.length=n*l.length+l.length:=Nat.succ_mul _ _
   rw[List.getElem?_append_right (by omega),repl_get l n (j-l.length) (by omega)]
   rw[Nat.mod_eq_sub_mod (a:=j) (by omega)]
theorem repl_range(z:Array Value)(n:Nat):(Array.range (n*z.size)).map (fun i=>z[i%z.size]!)=(repl z.toList n).toArray:=by
 apply Array.ext_getElem?
 intro j
 simp only[Array.getElem?_map,List.getElem?_toArray]
 by_cases hj:j<n*z.size
 ·rw[repl_get z.toList n j (by simpa using hj)]
  simp[hj,getElem!_def]
 ·rw[List.getElem?_eq_none (by rw[repl_len];simpa using hj)]
  simp[hj]
theorem map_range_zero(f:Nat→Value):(Array.range 0).map f=#[]:=by simp[Array.range]
theorem repl_map{α β:Type}(f:α→β)(l:List α)(n:Nat):repl (l.map f) n=(repl l n).map f:=by
 induction n with
 |zero=>rfl
 |succ n ih=>simp[repl,ih]
theorem repl_mem{α:Type}{l:List α}{n:Nat}{x:α}(h:x∈repl l n):x∈l:=by
 induction n with
 |zero=>simp[repl] at h
 |succ n ih=>
  simp only[repl,List.mem_append] at h
  exact h.elim id ih
theorem blt_pos{k:Nat}(h:Nat.blt 0 k=true):0<k:=Nat.lt_of_succ_le (Nat.le_of_ble_eq_true h)
theorem mkT_some{ag:Bool}{l:List Tree}{x:Tree}(h:mkT ag l=some x)(hc:∀T∈l,T.isCell=true):x.cells=l:=by
 cases ag with
 |true=>simp[mkT] at h;subst h;rfl
 |false=>
  match l with
  | [T]=>
   simp[mkT] at h;subst h
   have hT:=hc T (by simp)
   cases T<;>first|rfl|simp[Tree.isCell] at hT
  | []=>simp[mkT] at h
  |_::_::_=>simp[mkT] at h
theorem group_some{ag:Bool}{k:Nat}:∀{n:Nat} {l xs:List Tree},group ag k n l=some xs→(∀T∈l,T.isCell=true)→flat xs=l∧xs.length=n∧∀x∈xs,Elt k x
 |0,[],xs,h,_=>by simp[group] at h;subst h;exact⟨rfl,rfl,fun x hx=>by simp at hx⟩
 |0,_::_,xs,h,_=>by simp[group] at h
 |n+1,l,xs,h,hc=>by
  simp only[group] at h
  split at h
  rotate_left
  ·cases h
  rename_i x r h1 h2
  obtain⟨h3,h4⟩:=bif_some h
  simp only[Option.some.injEq] at h4
  subst h4
  have h3:=Nat.eq_of_beq_eq_true h3
  have hcx:=mkT_some h1 (fun T hT=>hc T (List.mem_of_mem_take hT))
  obtain⟨g1,g2,g3⟩:=group_some h2 (fun T hT=>hc T (List.mem_of_mem_drop hT))
  refine⟨by simp[flat,hcx,g1],by simp[g2],fun y hy=> ?_⟩
  simp only[List.mem_cons] at hy
  rcases hy with rfl|hy
  ·exact⟨by rw[hcx];exact h3,fun T hT=>hc T (List.mem_of_mem_take (hcx▸hT))⟩
  ·exact g3 y hy
theorem telem_some{t e:TypeId}(h:telem P t=some e):P.underlying t=some (.slice e):=by
 unfold telem at h
 split at h
 ·rename_i e' hu;simp at h;subst h;exact hu
 ·cases h
theorem getElem?_zip{α β:Type}{l:List α}{r:List β}{i:Nat}{p:α×β}(h:(l.zip r)[i]? =some p):l[i]? =some p.1∧r[i]? =some p.2:=by
 rw[List.getElem?_zip_eq_some] at h
 exact h
theorem buildSliceK_sound{t:TypeId}{len nid:Nat}{parts:List (Nat×AVal)}{δ:Dl}(h:buildSliceK P t len parts st nid=some δ)(hc:All δ.cnd)(hst:∀id o,st id=some o→S id=some o)(hS:SRel F S m w)(hid:S nid=none)
 {uparts:Array (Nat×Value)} (hl:uparts.size=parts.length)
 (hr:∀(i:Nat) (p:Nat×AVal) (q:Nat×Value),parts[i]? =some p→uparts[i]? =some q→p.1=q.1∧VRel S m w (okB F S m w) p.2 q.2):
 Done F S m w δ.wr δ.val ((Instr.buildSlice t len uparts).run P w):=by
 unfold buildSliceK at h
 simp only[Option.bind_eq_some_iff] at h
 obtain⟨e,he,k,hk,ag,hag,z,hz,h⟩:=h
 split at h
 rotate_left
 ·cases h
 rename_i vs f p hsn
 obtain⟨hcond,h⟩:=bif_some h
 simp only[Bool.and_eq_true] at hcond
 obtain⟨⟨⟨hbig,hk0⟩,hzl⟩,hcell⟩:=hcond
 have hbig:=Nat.le_of_ble_eq_true hbig
 have hk0:0<k:=blt_pos hk0
 have hzl:=Nat.eq_of_beq_eq_true hzl
 simp only[Option.bind_eq_some_iff] at h
 obtain⟨cs,hf,ts,hts,xs,hxs,h⟩:=h
 simp only[Option.some.injEq] at h
 subst h
 have hu:=telem_some he
 obtain⟨zv,hzv,zs,hzs,rfl,hz1⟩:=tzeros_some hz
 simp only[List.length_map] at hzl
 have hsnap:=snaps_sound (us:=uparts.toList.map (·.2)) hst hS hsn hc (by simp[hl]) (fun i v u hv hu'=>by
  simp only[List.getElem?_map,Option.map_eq_some_iff] at hv hu'
  obtain⟨a,ha,rfl⟩:=hv
  obtain⟨b,hb,rfl⟩:=hu'
  exact(hr i a b ha (by simpa using hb)).2)
 obtain⟨q1,q2,q3⟩:=hsnap
 obtain⟨r1,r2,r3,r4⟩:=freezeAll f S hS q2
 have hvl:vs.length=parts.length:=by rw[q1];simp[hl]
 have hparts:((parts.map (·.1)).zip vs).length=parts.length:=by simp[hvl]
 obtain⟨us',hfill,hcr⟩:=fill_rel (ok:=okB F (app S f) m w) ((parts.map (·.1)).zip vs) uparts.toList _ cs (repl zs len) hf (by rw[hparts];simpa using hl) (fun i p q hp hq=>by
  obtain⟨h1,h2⟩:=getElem?_zip hp
  simp only[List.getElem?_map,Option.map_eq_some_iff] at h1
  obtain⟨a,ha,ha'⟩:=h1
  have hq':uparts[i]? =some q:=by simpa using hq
  refine⟨by rw[←ha'];exact(hr i a q ha hq').1,q3 f q2 (fun x hx=>hx) i p.2 q.2 h2 (by simp[hq']),List.all_eq_true.1 hcell p.2 (List.mem_of_getElem? h2)⟩)
  (by rw[repl_map];exact CRel.scs (fun u hu=>hz1 u (repl_mem hu)))
 obtain⟨t1,t2⟩:=allT_rel hts hcr.1 hcr.2
 have hus1:∀u∈us',u.oneCell'=true:=fun u hu=>by
  obtain⟨i,hi,rfl⟩:=List.mem_iff_getElem.1 hu
  have:i<cs.length:=by rw[←hcr.1];exact hi
  exact(hcr.2 i _ _ (List.getElem?_eq_getElem this) (List.getElem?_eq_getElem hi)).2
 have hcellT:∀T∈ts,T.isCell=true:=fun T hT=>by
  obtain⟨i,hi,rfl⟩:=List.mem_iff_getElem.1 hT
  have h1:=t2 i _ _ (List.getElem?_eq_getElem hi) (List.getElem?_eq_getElem (by omega))
  have h2:=hus1 us'[i] (List.getElem_mem _)
  generalize ts[i]=T at h1
  generalize us'[i]=u at h1 h2
  cases h1 with
  |agg=>simp[Value.oneCell'] at h2
  |sc=>rfl
  |lst=>rfl
 obtain⟨g1,g2,g3⟩:=group_some hxs hcellT
 have hlen:us'.length=len*k:=by rw[←t1,←g1,flat_len g3,g2]
 have hnid:app S f nid=none:=by
  rw[r4 nid (fun hmem=>by
   obtain⟨x,hx,hx'⟩:=List.mem_map.1 hmem
   obtain⟨k',fz,xs',h1,_⟩:=q2 x.1 x.2 hx
   rw[hx',hid] at h1;cases h1)]
  exact hid
 obtain⟨n1,n2,n3⟩:=new_row r1 hnid (xs:=xs) hk0 g3 len (by omega) (by simp only[maxLen];have:len≤len*k:=Nat.le_mul_of_pos_right _ hk0;omega) hlen hus1 (fun j T u hT hu=>t2 j T u (by rw[←g1];exact hT) hu) e
 refine⟨.slice (some ⟨w.heap.size,0,none⟩) len len,w.alloc (.cells us'.toArray e),place m nid (some w.heap.size,len),?_,by rw[app_append];exact n1,by rw[app_append];exact r2.trans hS n2,by rw[app_append];have:=n3 (okB F (app (app S f) [(nid,Ob.row k false xs)]) (place m nid (some w.heap.size,len)) (w.alloc (Obj.cells us'.toArray e)));rw[g2] at this;exact this⟩
 have hzsz:zv.cells.size=k:=by rw[hzs];simpa using hzl
 have hng:¬(len*k>2^24):=by omega
 have hfill':Instr.fill (fun i=>some (i*k,k)) ((Array.range (len*k)).map (fun i=>zv.cells[i%zv.cells.size]!)) uparts.toList=some us'.toArray:=by
  rw[←hfill,←hzsz,repl_range,hzs]
 by_cases h0:len*k=0
 ·have hl0:len=0:=by
   rcases Nat.mul_eq_zero.1 h0 with h|h
   ·exact h
   ·omega
  subst hl0
  have hf0:Instr.fill (fun i=>some (i*k,k)) #[] uparts.toList=some us'.toArray:=hfill
  simp[Instr.buildSlice,run_underlying hu,run_sizeOf' hk,map_range_zero,hf0,newRow]
 ·simp only[Instr.buildSlice,Sem.run_bind,run_underlying hu,run_sizeOf' hk,Result.andThen_ok]
  simp only[hng,if_false,h0,Sem.run_bind,run_zeroValue' hzv,Result.andThen_ok,Sem.run_pure,hfill']
  simp[newRow]
theorem new_bsl(hS:SRel F S m w){nid:Nat}(hid:S nid=none){cs:List AVal}{us:List Value}(hc:CRel S m w (okB F S m w) cs us)(e:TypeId)(n:Nat):
 SRel F (upd S nid (.box cs)) (place m nid (some w.heap.size,n)) (w.alloc (.cells us.toArray e))∧
 FrameExt F S m w (upd S nid (.box cs)) (place m nid (some w.heap.size,n)) (w.alloc (.cells us.toArray e))∧
 ∀ok,VRel (upd S nid (.box cs)) (place m nid (some w.heap.size,n)) (w.alloc (.cells us.toArray e)) ok (.bsl nid n) (.slice (some ⟨w.heap.size,0,none⟩) n n):=by
 have hF:=new_ext (F:=F) (S:=S) (m:=m) (w:=w) hid (.box cs) us.toArray e n
 refine⟨hS.new hid hF (fun b hb=>alloc_old w _ b hb) (fun b hb=>by simp at hb;omega) ?_,hF,fun ok=> .bsl nid n cs _ (upd_same _ _ _) (place_same _ _ _)⟩
 exact⟨w.heap.size,us.toArray,e,rfl,alloc_new w _,by simp[hc.1],fun i v u hv hu=>⟨hF.val (hc.2 i v u hv (by simpa using hu)).1,(hc.2 i v u hv (by simpa using hu)).2⟩⟩
theorem buildBoxK_sound{t:TypeId}{len nid:Nat}{parts:List (Nat×AVal)}{δ:Dl}(h:buildBoxK P t len parts nid=some δ)(hS:SRel F S m w)(hid:S nid=none)
 {uparts:Array (Nat×Value)} (hl:uparts.size=parts.length)
 (hr:∀(i:Nat) (p:Nat×AVal) (q:Nat×Value),parts[i]? =some p→uparts[i]? =some q→p.1=q.1∧VRel S m w (okB F S m w) p.2 q.2):
 Done F S m w δ.wr δ.val ((Instr.buildSlice t len uparts).run P w):=by
 unfold buildBoxK at h
 simp only[Option.bind_eq_some_iff] at h
 obtain⟨e,he,k,hk,z,hz,h⟩:=h
 obtain⟨hcond,h⟩:=bif_some h
 simp only[Bool.and_eq_true] at hcond
 obtain⟨⟨⟨hbig,hk0⟩,hzl⟩,hcell⟩:=hcond
 have hbig:=Nat.le_of_ble_eq_true hbig
 have hk0:0<len*k:=blt_pos hk0
 have hzl:=Nat.eq_of_beq_eq_true hzl
 simp only[Option.bind_eq_some_iff] at h
 obtain⟨cs,hf,h⟩:=h
 simp only[Option.some.injEq] at h
 subst h
 have hu:=telem_some he
 obtain⟨zv,hzv,zs,hzs,rfl,hz1⟩:=tzeros_some hz
 simp only[List.length_map] at hzl
 obtain⟨us',hfill,hcr⟩:=fill_rel (ok:=okB F S m w) parts uparts.toList _ cs (repl zs len) hf (by simpa using hl) (fun i p q hp hq=>by
  obtain⟨a,b⟩:=hr i p q hp (by simpa using hq)
  exact⟨a,b,List.all_eq_true.1 hcell p (List.mem_of_getElem? hp)⟩)
  (by rw[repl_map];exact CRel.scs (fun u hu=>hz1 u (repl_mem hu)))
 obtain⟨n1,n2,n3⟩:=new_bsl hS hid hcr e len
 refine⟨.slice (some ⟨w.heap.size,0,none⟩) len len,w.alloc (.cells us'.toArray e),place m nid (some w.heap.size,len),?_,n1,n2,n3 _⟩
 have hzsz:zv.cells.size=k:=by rw[hzs];simpa using hzl
 have hng:¬(len*k>2^24):=by omega
 have hfill':Instr.fill (fun i=>some (i*k,k)) ((Array.range (len*k)).map (fun i=>zv.cells[i%zv.cells.size]!)) uparts.toList=some us'.toArray:=by
  rw[←hfill,←hzsz,repl_range,hzs]
 simp only[Instr.buildSlice,Sem.run_bind,run_underlying hu,run_sizeOf' hk,Result.andThen_ok]
 simp only[hng,if_false,show¬len*k=0 by omega,Sem.run_bind,run_zeroValue' hzv,Result.andThen_ok,Sem.run_pure,hfill']
 simp[newRow]
theorem TWs_get:∀{l l':List Tree},TWs l l'→l.length=l'.length∧∀(i:Nat) (T T':Tree),l[i]? =some T→l'[i]? =some T'→(T=T'∨(T= .sc (.slice none 0 0)∧∃k,0<k∧T'= .lst k []))
 | [],[],_=>⟨rfl,fun i T T' h=>by simp at h⟩
 |T::l,T'::l',h=>by
  obtain⟨a,b⟩:=TWs_get h.2
  refine⟨by simp[a],fun i S S' h1 h2=> ?_⟩
  cases i with
  |zero=>simp at h1 h2;subst h1;subst h2;exact h.1
  |succ i=>exact b i S S' (by simpa using h1) (by simpa using h2)
 | [],_::_,h=>h.elim
 |_::_,[],h=>h.elim
theorem TWs_refl(l:List Tree):TWs l l:=by
 induction l with
 |nil=>trivial
 |cons T l ih=>exact⟨.inl rfl,ih⟩
theorem mkLim_le{b:Nat}(h:b≤256):mkLim b=1099511627776:=by
 unfold mkLim;rw[Nat.ble_eq_true_of_le h];rfl
theorem mkLim_max(b:Nat):mkLim b≤1099511627776:=by
 unfold mkLim;cases Nat.ble b 256<;>decide
theorem mkLim_room{b:Nat}{m:Int}(hb:b≤16384)(h0:0≤m)(h:m≤mkLim b):(b:Int)*m≤2^48:=by
 by_cases q:b≤256
 ·rw[mkLim_le q] at h
  have h1:(b:Int)*m≤256*m:=Int.mul_le_mul_of_nonneg_right (by omega) (by omega)
  omega
 ·have e:mkLim b=8589934592:=by
   unfold mkLim
   cases e:Nat.ble b 256 with
   |false=>rfl
   |true=>exact absurd (Nat.le_of_ble_eq_true e) q
  rw[e] at h
  have h1:(b:Int)*m≤16384*m:=Int.mul_le_mul_of_nonneg_right (by omega) (by omega)
  omega
theorem run_makeSlice'{t e:TypeId}{k b:Nat}{zv:Value}{zs:List Value}{n mm:Int}{k1 k2:IntKind}(hu:P.underlying t=some (.slice e))(hk:tsz P e=some k)(hb:tby P e=some b)(hzv:tzero P e=some zv)(hzs:zv.cells=zs.toArray)
 (hzl:zs.length=k) (hk0:0<k) (hb256:b≤16384) (c1:0≤n) (c2:n≤mm) (c30:mm≤mkLim b):
 (Instr.makeSlice t (.int k1 n) (.int k2 mm)).run P w= .ok (.slice (some ⟨w.heap.size,0,none⟩) n.toNat mm.toNat) (w.alloc (.cells (repl zs mm.toNat).toArray e)):=by
 have hzsz:zv.cells.size=k:=by rw[hzs];simpa using hzl
 have c3:=Int.le_trans c30 (mkLim_max b)
 have w1:IntKind.i64.wrap n=n:=IntWalk.i64_in n (by omega)
 have w2:IntKind.i64.wrap mm=mm:=IntWalk.i64_in mm (by omega)
 have hbm:(b:Int)*mm≤2^48:=mkLim_room hb256 (by omega) c30
 have hi:∃i,P.info? e=some i∧i.bytes=b:=by
  unfold tby at hb
  cases hi:P.info? e with
  |none=>simp[hi] at hb
  |some i=>simp[hi] at hb;exact⟨i,rfl,hb⟩
 obtain⟨i,hi1,hi2⟩:=hi
 have t1:¬(mm<0):=by omega
 have t2:¬(n<0):=by omega
 have t3:¬(n>mm):=by omega
 have t4:¬((b:Int)*mm>2^48):=by omega
 have hrange:(Array.range (mm.toNat*k)).map (fun i=>zv.cells[i%zv.cells.size]!)=(repl zs mm.toNat).toArray:=by
  rw[←hzsz,repl_range,hzs]
 by_cases h0:mm.toNat*k=0
 ·have hm0:mm.toNat=0:=by
   rcases Nat.mul_eq_zero.1 h0 with h|h
   ·exact h
   ·omega
  obtain rfl:mm=0:=by omega
  obtain rfl:n=0:=by omega
  simp[Instr.makeSlice,run_underlying hu,asInt,asIntOf,typeInfo,hi1,w1,run_sizeOf' hk,newRow,repl,map_range_zero]
 ·simp only[Instr.makeSlice,Sem.run_bind,run_underlying hu,asInt,asIntOf,Sem.run_pure,Result.andThen_ok,typeInfo,run_program,hi1,hi2,w1,w2]
  simp only[t1,t2,t3,t4,decide_false,Bool.or_self,Bool.false_eq_true,if_false,Sem.run_bind,run_askRoom,Result.andThen_ok,run_sizeOf' hk,h0,run_zeroValue' hzv,Sem.run_pure,hrange,newRow,run_newObj]
  rfl
theorem new_mat(hS:SRel F S m w){nid:Nat}(hid:S nid=none){xs:List Tree}{us:List Value}(hx:∀x∈xs,x.isCell=true)(hl:us.length=xs.length)(hm:xs.length≤maxLen)(h1:∀u∈us,u.oneCell'=true)
 (hr:∀(i:Nat) (T:Tree) (u:Value),xs[i]? =some T→us[i]? =some u→TRep w (okB F S m w) T u) (e:TypeId):
 SRel F (upd S nid (.mat false xs none)) (place m nid (some w.heap.size,xs.length)) (w.alloc (.cells us.toArray e))∧
 FrameExt F S m w (upd S nid (.mat false xs none)) (place m nid (some w.heap.size,xs.length)) (w.alloc (.cells us.toArray e))∧
 ∀ok,VRel (upd S nid (.mat false xs none)) (place m nid (some w.heap.size,xs.length)) (w.alloc (.cells us.toArray e)) ok (.mat nid) (.slice (some ⟨w.heap.size,0,none⟩) xs.length xs.length):=by
 have hF:=new_ext (F:=F) (S:=S) (m:=m) (w:=w) hid (.mat false xs none) us.toArray e xs.length
 refine⟨hS.new hid hF (fun b hb=>alloc_old w _ b hb) (fun b hb=>by simp at hb;omega) ?_,hF,fun ok=> ?_⟩
 ·refine⟨⟨w.heap.size,us.toArray,e,rfl,alloc_new w _,by simp[matC_len,hl],fun i v u hv hu=> ?_⟩,rfl,hm,hx⟩
  simp only[matC,List.getElem?_map,Option.map_eq_some_iff] at hv
  obtain⟨T,hT,rfl⟩:=hv
  have hu':us[i]? =some u:=by simpa using hu
  exact⟨.t _ _ (hF.tree (hr i T u hT hu')),h1 u (List.mem_of_getElem? hu')⟩
 ·exact .mat nid false xs none (some w.heap.size,xs.length) (upd_same _ _ _) (place_same _ _ _)
theorem makeSliceK_sound{t:TypeId}{l c:AVal}{nid:Nat}{orc:Orc}{δ:Dl}(h:makeSliceK P t l c nid orc=some δ)(hc:All δ.cnd)(hS:SRel F S m w)(hid:S nid=none)
 {ul uc:Value} (hl:VRel S m w (okB F S m w) l ul) (hcv:VRel S m w (okB F S m w) c uc):Done F S m w δ.wr δ.val ((Instr.makeSlice t ul uc).run P w):=by
 unfold makeSliceK at h
 simp only[Option.bind_eq_some_iff] at h
 obtain⟨e,he,k,hk,b,hb,ag,hag,z,hz,x,hx,h⟩:=h
 split at h
 rotate_left
 ·cases h
 rename_i k1 n k2 mm
 cases hfx: !orc.fx.isEmpty with
 |true=>
  rw[hfx,cond_true] at h
  split at h
  rotate_left
  ·cases h
  rename_i y _
  obtain⟨hcond,h⟩:=bif_some h
  simp only[Bool.and_eq_true] at hcond
  obtain⟨⟨⟨hk1,hzl⟩,hb256⟩,hyc⟩:=hcond
  have hk1:=Nat.eq_of_beq_eq_true hk1
  have hzl:=Nat.eq_of_beq_eq_true hzl
  have hb256:=Nat.le_of_ble_eq_true hb256
  simp only[Option.some.injEq] at h
  subst h
  simp only[All] at hc
  obtain⟨c1,c2,c3,c4,-⟩:=hc
  subst c2
  have:=VRel.sc_inv hl;subst this
  have:=VRel.sc_inv hcv;subst this
  have hu:=telem_some he
  obtain⟨zv,hzv,zs,hzs,rfl,hz1⟩:=tzeros_some hz
  simp only[List.length_map] at hzl
  have hxc:=mkT_some hx (fun T hT=>by
   obtain⟨v,_,rfl⟩:=List.mem_map.1 hT
   rfl)
  rw[hxc] at c4
  obtain⟨ty1,ty2⟩:=TWs_get c4
  have hyy:y.cells=[y]:=by cases y<;>first|rfl|simp[Tree.isCell] at hyc
  rw[hyy] at ty2
  have hus1:∀u∈repl zs n.toNat,u.oneCell'=true:=fun u hu=>hz1 u (repl_mem hu)
  have hrl:(repl zs n.toNat).length=n.toNat:=by rw[repl_len,hzl,Nat.mul_one]
  obtain⟨n1,n2,n3⟩:=new_mat hS hid (xs:=List.replicate n.toNat y) (us:=repl zs n.toNat) (fun z' hz'=>by rw[(List.mem_replicate.1 hz').2];exact hyc) (by rw[hrl];simp) (by simp only[maxLen,List.length_replicate];omega) hus1 (fun j T u hT hu=>by
   have hT':=List.getElem?_replicate.symm.trans hT
   split at hT'
   rotate_left
   ·cases hT'
   rename_i hj
   cases hT'
   have e2:=repl_get zs n.toNat j (by rw[hzl];omega)
   rw[hu,hzl,Nat.mod_one] at e2
   have e4:zs[0]? =some u:=by
    rw[e2,List.getElem!_eq_getElem?_getD,List.getElem?_eq_getElem (by omega)];rfl
   have h1:(zs.map Tree.sc)[0]? =some (Tree.sc u):=by rw[List.getElem?_map,e4];rfl
   rcases ty2 0 _ y h1 rfl with e'| ⟨e',k',hk',e''⟩
   ·rw[←e'];exact .sc _ (hus1 _ (List.mem_of_getElem? hu))
   ·rw[e'']
    simp only[Tree.sc.injEq] at e'
    rw[e']
    exact .lst k' [] none 0 [] hk' (fun x hx=>by simp at hx) (Nat.le_refl _) (by simp[maxLen]) (fun h=>absurd rfl h) (by simp) (fun j T u hT=>by simp[flat] at hT)) e
  refine⟨_,_,_,run_makeSlice' hu hk hb hzv hzs (by rw[hzl,hk1]) (by omega) (by omega) c1 (Int.le_refl _) (by rw[mkLim_le hb256];exact c3),n1,n2,by have:=n3 (okB F (app S [(nid,Ob.mat false (List.replicate n.toNat y) none)]) (place m nid (some w.heap.size,(List.replicate n.toNat y).length)) (w.alloc (Obj.cells (repl zs n.toNat).toArray e)));simp only[List.length_replicate] at this⊢;exact this⟩
 |false=>
 rw[hfx,cond_false] at h
 obtain⟨hcond,h⟩:=bif_some h
 simp only[Bool.and_eq_true] at hcond
 obtain⟨⟨hk0,hzl⟩,hb256⟩:=hcond
 have hk0:0<k:=blt_pos hk0
 have hzl:=Nat.eq_of_beq_eq_true hzl
 have hb256:=Nat.le_of_ble_eq_true hb256
 simp only[Option.some.injEq] at h
 subst h
 rw[All_append] at hc
 simp only[All] at hc
 obtain⟨⟨c1,c2,c30,-⟩,c4⟩:=hc
 have c3:=Int.le_trans c30 (mkLim_max b)
 have:=VRel.sc_inv hl;subst this
 have:=VRel.sc_inv hcv;subst this
 have hu:=telem_some he
 obtain⟨zv,hzv,zs,hzs,rfl,hz1⟩:=tzeros_some hz
 simp only[List.length_map] at hzl
 have hxc:=mkT_some hx (fun T hT=>by
  obtain⟨v,_,rfl⟩:=List.mem_map.1 hT
  rfl)
 have hy:TWs x.cells (orc.elt.getD x).cells:=by
  cases ho:orc.elt with
  |none=>exact TWs_refl _
  |some y=>rw[ho] at c4;exact c4.1
 generalize orc.elt.getD x=y at*
 rw[hxc] at hy
 obtain⟨ty1,ty2⟩:=TWs_get hy
 simp only[List.length_map] at ty1
 have hE:Elt k y:=⟨by rw[←ty1];exact hzl,fun T hT=>by
  obtain⟨q,hq,e⟩:=List.mem_iff_getElem.1 hT
  have h1:(zs.map Tree.sc)[q]? =some (Tree.sc zs[q]):=by rw[List.getElem?_map,List.getElem?_eq_getElem (by omega)];rfl
  rcases ty2 q _ T h1 (by rw[List.getElem?_eq_getElem hq,e]) with e'| ⟨_,k',_,e'⟩
  ·rw[←e'];rfl
  ·rw[e'];rfl⟩
 have hflat:∀q:Nat,flat (List.replicate q y)=repl y.cells q:=by
  intro q
  induction q with
  |zero=>rfl
  |succ q ih=>simp[List.replicate_succ,flat,repl,ih]
 have hus1:∀u∈repl zs mm.toNat,u.oneCell'=true:=fun u hu=>hz1 u (repl_mem hu)
 have hrl:(repl zs mm.toNat).length=mm.toNat*k:=by rw[repl_len,hzl]
 obtain⟨n1,n2,n3⟩:=new_row hS hid (xs:=List.replicate n.toNat y) hk0 (fun z' hz'=>by rw[(List.mem_replicate.1 hz').2];exact hE) mm.toNat (by simp;omega) (by simp only[maxLen];omega) hrl hus1 (fun j T u hT hu=>by
  rw[hflat] at hT
  have hyl:y.cells.length=k:=hE.1
  have hj:j<n.toNat*k:=by have:=(List.getElem?_eq_some_iff.1 hT).1;rw[repl_len,hyl] at this;exact this
  have hnm:n.toNat*k≤mm.toNat*k:=Nat.mul_le_mul_right k (by omega)
  have e1:=repl_get y.cells n.toNat j (by rw[hyl];exact hj)
  have e2:=repl_get zs mm.toNat j (by rw[hzl];omega)
  rw[hT,hyl] at e1
  rw[hu,hzl] at e2
  have hjk:j%k<k:=Nat.mod_lt _ hk0
  have e3:y.cells[j%k]? =some T:=by
   rw[e1,List.getElem!_eq_getElem?_getD,List.getElem?_eq_getElem (by omega)];rfl
  have e4:zs[j%k]? =some u:=by
   rw[e2,List.getElem!_eq_getElem?_getD,List.getElem?_eq_getElem (by omega)];rfl
  have h1:(zs.map Tree.sc)[j%k]? =some (Tree.sc u):=by rw[List.getElem?_map,e4];rfl
  rcases ty2 (j%k) _ T h1 e3 with e'| ⟨e',k',hk',e''⟩
  ·rw[←e'];exact .sc _ (hus1 _ (List.mem_of_getElem? hu))
  ·rw[e'']
   simp only[Tree.sc.injEq] at e'
   rw[e']
   exact .lst k' [] none 0 [] hk' (fun x hx=>by simp at hx) (Nat.le_refl _) (by simp[maxLen]) (fun h=>absurd rfl h) (by simp) (fun j T u hT=>by simp[flat] at hT)) e
 exact⟨.slice (some ⟨w.heap.size,0,none⟩) n.toNat mm.toNat,_,_,run_makeSlice' hu hk hb hzv hzs hzl hk0 hb256 c1 c2 c30,n1,n2,by have:=n3 (okB F (app S [(nid,Ob.row k false (List.replicate n.toNat y))]) (place m nid (some w.heap.size,mm.toNat)) (w.alloc (Obj.cells (repl zs mm.toNat).toArray e)));simp only[List.length_replicate] at this;exact this⟩
end Go.Ab
end
section
set_option linter.unusedVariables false
namespace Go.Ab
variable {P:Program} {w:World} {F:Fen P} {S st:Store} {m:Place}
structure Src(w:World)(ok:Nat→Prop)(k:Nat)(ys:List Tree)(ux:Value)(news:List Value):Prop where
 elts:∀x∈ys,Elt k x
 len:news.length=ys.length*k
 one:∀u∈news,u.oneCell'=true
 rep:∀(j:Nat) (T:Tree) (u:Value),(flat ys)[j]? =some T→news[j]? =some u→TRep w ok T u
 shape:∃A c,ux= .slice A ys.length c∧(A=none→ys=[])∧∀a,A=some a→∀(j:Nat) (u:Value),news[j]? =some u→w.cell? (a.add j)=some u
theorem src_sound{k:Nat}{x:AVal}{ys:List Tree}{p:List Prop}(hk:0<k)(h:srcOf st k x=some (ys,p))(hp:All p)(hst:∀id o,st id=some o→S id=some o)(hS:SRel F S m w){ux:Value}
 (hx:VRel S m w (okB F S m w) x ux):∃news,Src w (okB F S m w) k ys ux news:=by
 unfold srcOf at h
 split at h
 ·rename_i k' xs
  obtain⟨h1,h2⟩:=bif_some h
  have h1:=Nat.eq_of_beq_eq_true h1
  subst h1
  simp only[Option.some.injEq,Prod.mk.injEq] at h2
  obtain⟨rfl,rfl⟩:=h2
  cases hx with
  |t _ _ hT=>
   cases hT with
   |lst _ _ A c us hk hxx hn hm hA hl hrep=>
    have hfl:=flat_len hxx
    refine⟨us,hxx,hl,fun u hu=> ?_,hrep,A,c,rfl,fun e=> ?_,fun a ha j u hu=> ?_⟩
    ·obtain⟨j,hj,rfl⟩:=List.mem_iff_getElem.1 hu
     have hj':j< (flat xs).length:=by omega
     exact(hrep j _ _ (List.getElem?_eq_getElem hj') (List.getElem?_eq_getElem hj)).one (flat_cell hxx _ (List.getElem_mem _))
    ·by_cases hne:xs=[]
     ·exact hne
     ·obtain⟨b,o,h,_⟩:=hA hne
      rw[e] at h;cases h
    ·by_cases hne:xs=[]
     ·subst hne
      have:us=[]:=List.eq_nil_of_length_eq_zero (by simpa using hl)
      subst this;simp at hu
     ·obtain⟨b,o,h,_,hcell⟩:=hA hne
      rw[ha] at h;cases h
      rw[add_lit'];exact hcell j u hu
 ·simp only[Option.some.injEq,Prod.mk.injEq] at h
  obtain⟨rfl,rfl⟩:=h
  have:=VRel.sc_inv hx;subst this
  exact⟨[],fun x hx=>by simp at hx,by simp,fun u hu=>by simp at hu,fun j T u h=>by simp[flat] at h,none,0,rfl,fun _=>rfl,fun a ha=>by cases ha⟩
 ·rename_i id n
  split at h
  rotate_left
  ·cases h
  rename_i k' fz xs hs
  obtain⟨h1,h2⟩:=bif_some h
  have h1:=Nat.eq_of_beq_eq_true h1
  subst h1
  simp only[Option.some.injEq,Prod.mk.injEq] at h2
  obtain⟨rfl,rfl⟩:=h2
  simp only[All] at hp
  obtain⟨hn,-⟩:=hp
  have hs2:=hst id _ hs
  cases hx with
  |rowG _ _ L hs0=>rw[hs2] at hs0;cases hs0
  |row _ _ k0 fz0 xs0 L hs0 hn0 hu0=>
   rw[hs2] at hs0;cases hs0
   have hL:=hu0 hn
   obtain⟨a1,a2,a3,a4,a5⟩:=hS.objs id _ hs2
   have hfl:=flat_len a2
   rcases a5 with⟨a5,a6⟩| ⟨b,us,e,h1,h2,h3,h4,h5⟩
   ·have hx:xs=[]:=List.eq_nil_of_length_eq_zero (by rw[a6] at a3;omega)
    subst hx
    refine⟨[],a2,by simp,fun u hu=>by simp at hu,fun j T u h=>by simp[flat] at h,none,L.2,?_,fun _=>rfl,fun a ha=>by cases ha⟩
    rw[←hL,rowVal,a5,hn];rfl
   ·have hle:xs.length*k≤us.size:=by rw[h3];exact Nat.mul_le_mul_right k a3
    refine⟨us.toList.take (xs.length*k),a2,by simp;omega,fun u hu=> ?_,fun j T u hT hu=> ?_,⟨some ⟨b,0,none⟩,L.2,?_,fun e=>absurd e (by simp),fun a ha j u hu=> ?_⟩⟩
    ·obtain⟨j,hj⟩:=List.getElem?_of_mem (List.mem_of_mem_take hu)
     exact h4 j u (by simpa using hj)
    ·rw[List.getElem?_take] at hu
     split at hu
     ·exact h5 j T u hT (by simpa using hu)
     ·cases hu
    ·rw[←hL,rowVal,h1,hn];rfl
    ·cases ha
     rw[add_lit',Nat.zero_add]
     rw[List.getElem?_take] at hu
     split at hu
     ·simp only[World.cell?,h2];simpa using hu
     ·cases hu
 ·cases h
theorem Src.first{ok:Nat→Prop}{k:Nat}{ys:List Tree}{ux:Value}{news:List Value}(h:Src w ok k ys ux news)(w':World)(hw:∀a,w'.cell? a=w.cell? a):
 (Builtin.firstCells k ys.length ux).run P w'= .ok news.toArray w'∧(Builtin.lenOf ux).run P w'= .ok ys.length w':=by
 obtain⟨A,c,rfl,hA,hc⟩:=h.shape
 refine⟨?_,by simp[Builtin.lenOf]⟩
 cases A with
 |none=>
  have:=hA rfl
  subst this
  have:news=[]:=List.eq_nil_of_length_eq_zero (by simpa using h.len)
  subst this
  simp[Builtin.firstCells]
 |some a=>exact run_firstCells_some w' k ys.length a ys.length c news h.len (fun j v hv=>by rw[hw];exact hc a rfl j v hv)
theorem lenLim_le(b:Nat):lenLim b≤1099511627776:=by unfold lenLim;cases Nat.ble b 128<;>decide
theorem lenLim_mul{n b:Nat}(h:n≤lenLim b)(hb:b≤16384):n*b≤140737488355328:=by
 unfold lenLim at h
 cases q:Nat.ble b 128 with
 |true=>
  rw[q] at h
  exact Nat.le_trans (Nat.mul_le_mul h (Nat.le_of_ble_eq_true q)) (by decide)
 |false=>
  rw[q] at h
  exact Nat.le_trans (Nat.mul_le_mul h hb) (by decide)
theorem run_app{t ty e:TypeId}{i:TypeInfo}{z:Value}(ht:P.underlying t=some (.slice e))(hi:P.info? e=some i)(hz:i.zero=some z){ok:Nat→Prop}{k:Nat}(hk:i.size=k)
 {ys:List Tree} {ux:Value} {news:List Value} (hs:Src w ok k ys ux news) (hb:i.bytes≤16384) (L:Option Nat×Nat) (n:Nat) (olds:List Value) (hlo:olds.length=n*k) (hcap:n≤L.2) (hbig:n+ys.length≤lenLim i.bytes)
 (hL:(L=(none,0)∧olds=[])∨∃b cur e',L.1=some b∧w.heap[b]? =some (.cells cur e' (0,0))∧cur.size=L.2*k∧olds=cur.toList.take (n*k)):
 (n+ys.length≤L.2∧((L=(none,0)∧(Builtin.append_ #[t,t] ty #[rowVal L n,ux]).run P w= .ok (rowVal L (n+ys.length)) w)∨
  ∃b cur e',L.1=some b∧w.heap[b]? =some (.cells cur e' (0,0))∧
   (Builtin.append_ #[t,t] ty #[rowVal L n,ux]).run P w= .ok (rowVal L (n+ys.length)) (w.setRow b (cur.toList.take (n*k)++news++cur.toList.drop (n*k+news.length)).toArray)))∨
 (L.2<n+ys.length∧∃cap,n+ys.length≤cap∧cap≤maxLen∧
  (Builtin.append_ #[t,t] ty #[rowVal L n,ux]).run P w= .ok (rowVal (some w.heap.size,cap) (n+ys.length)) (w.drew.alloc (.cells (olds.toArray++news.toArray++Builtin.zeroCells z.cells (cap- (n+ys.length))) e))):=by
 have hbig1:=Nat.le_trans hbig (lenLim_le _)
 have hsz:tsz P e=some k:=by simp[tsz,hi,hk]
 have hd:=hs.first (P:=P) w (fun _=>rfl)
 by_cases hroom:n+ys.length≤L.2
 ·refine .inl ⟨hroom,?_⟩
  rcases hL with⟨rfl,h0⟩| ⟨b,cur,e',h1,h2,h3,h4⟩
  ·left
   refine⟨rfl,?_⟩
   simp only at hroom
   have hy:ys.length=0:=by omega
   have hn:n=0:=by omega
   have hne:news=[]:=List.eq_nil_of_length_eq_zero (by rw[hs.len,hy];simp)
   rw[hy] at hd⊢
   subst hn
   simp[Builtin.append_,run_underlying ht,run_sizeOf' hsz,hd.1,hd.2,rowVal]
  ·right
   refine⟨b,cur,e',h1,h2,?_⟩
   have hfit:n*k+news.length≤cur.size:=by rw[hs.len,h3,←Nat.add_mul];exact Nat.mul_le_mul_right _ hroom
   have hst:=run_storeCells_at P b (n*k) e' news 0 cur w h2 (by simpa using hfit) hs.one
   simp only[Nat.add_zero] at hst
   simp[Builtin.append_,run_underlying ht,run_sizeOf' hsz,hd.1,hd.2,rowVal,hroom,h1,add_lit',hst]
 ·refine .inr ⟨by omega,grownCap w (n+ys.length) L.2 e,grownCap_ge _ _ _ _,grownCap_le_maxLen _ _ _ _ (by simp only[maxLen];omega),?_⟩
  have hd':=hs.first (P:=P) w.drew (fun _=>rfl)
  have h63:¬(9223372036854775807< ((n:Int)+(ys.length:Int))):=by omega
  have h48:¬(281474976710656<Builtin.nextslicecap (n+ys.length) L.2*i.bytes):=by
   have:=growslice_fits (need:=n+ys.length) (old:=L.2) (bytes:=i.bytes) (by omega) (by
    have:=lenLim_mul hbig hb
    omega)
   omega
  have hold:(Builtin.firstCells k n (rowVal L n)).run P w.drew= .ok olds.toArray w.drew:=by
   rcases hL with⟨rfl,h0⟩| ⟨b,cur,e',h1,h2,h3,h4⟩
   ·subst h0
    simp at hlo
    simp[rowVal,Builtin.firstCells]
   ·rw[rowVal,h1]
    refine run_firstCells_some w.drew k n _ _ _ olds hlo (fun j v hv=> ?_)
    rw[add_lit',Nat.zero_add]
    subst h4
    rw[List.getElem?_take] at hv
    split at hv
    ·show w.cell? _=_
     simp only[World.cell?,h2];simpa using hv
    ·cases hv
  have hzv:tzero P e=some z:=by simp[tzero,hi,hz]
  have hrv:rowVal L n= .slice (L.1.map fun b=>⟨b,0,none⟩) n L.2:=rfl
  simp only[Builtin.append_,rowVal] at hold⊢
  simp[run_underlying ht,run_sizeOf' hsz,hd.2,hroom,h63,h48,typeInfo,hi,Question.forced,hold,hd'.1,run_zeroValue' hzv,newRow,grownCap]
  rw[←Array.append_assoc,List.append_toArray olds news]
theorem run_appX{t ty e:TypeId}{i:TypeInfo}{z:Value}(ht:P.underlying t=some (.slice e))(hi:P.info? e=some i)(hz:i.zero=some z){ok:Nat→Prop}{k:Nat}(hk:i.size=k)
 {ys:List Tree} {ux:Value} {news:List Value} (hs:Src w ok k ys ux news) (hb:i.bytes≤16384) (A:Option Addr) (n:Nat) (olds:List Value) (hlo:olds.length=n*k) (hpos:0<ys.length) (hbig:n+ys.length≤lenLim i.bytes)
 (hA:n≠0→∃a,A=some a∧∀(j:Nat) (u:Value),olds[j]? =some u→w.cell? (a.add j)=some u):
 ∃cap,n+ys.length≤cap∧cap≤maxLen∧
  (Builtin.append_ #[t,t] ty #[.slice A n n,ux]).run P w= .ok (rowVal (some w.heap.size,cap) (n+ys.length)) (w.drew.alloc (.cells (olds.toArray++news.toArray++Builtin.zeroCells z.cells (cap- (n+ys.length))) e)):=by
 have hbig1:=Nat.le_trans hbig (lenLim_le _)
 have hsz:tsz P e=some k:=by simp[tsz,hi,hk]
 have hd:=hs.first (P:=P) w (fun _=>rfl)
 have hroom:¬(n+ys.length≤n):=by omega
 refine⟨grownCap w (n+ys.length) n e,grownCap_ge _ _ _ _,grownCap_le_maxLen _ _ _ _ (by simp only[maxLen];omega),?_⟩
 have hd':=hs.first (P:=P) w.drew (fun _=>rfl)
 have h63:¬(9223372036854775807< ((n:Int)+(ys.length:Int))):=by omega
 have h48:¬(281474976710656<Builtin.nextslicecap (n+ys.length) n*i.bytes):=by
  have:=growslice_fits (need:=n+ys.length) (old:=n) (bytes:=i.bytes) (by omega) (by
   have:=lenLim_mul hbig hb
   omega)
  omega
 have hold:(Builtin.firstCells k n (.slice A n n)).run P w.drew= .ok olds.toArray w.drew:=by
  by_cases h0:n=0
  ·subst h0
   have:olds=[]:=List.eq_nil_of_length_eq_zero (by simpa using hlo)
   subst this
   cases A with
   |none=>simp[Builtin.firstCells]
   |some a=>exact run_firstCells_some w.drew k 0 _ _ _ [] (by simp) (fun j v hv=>by simp at hv)
  ·obtain⟨a,rfl,hc⟩:=hA h0
   exact run_firstCells_some w.drew k n _ _ _ olds hlo (fun j v hv=>hc j v hv)
 have hzv:tzero P e=some z:=by simp[tzero,hi,hz]
 simp only[Builtin.append_,rowVal] at hold⊢
 simp[run_underlying ht,run_sizeOf' hsz,hd.2,hroom,h63,h48,typeInfo,hi,Question.forced,hold,hd'.1,run_zeroValue' hzv,newRow,grownCap]
 rw[←Array.append_assoc,List.append_toArray olds news]
theorem Elt.append{k:Nat}{xs ys:List Tree}(h1:∀x∈xs,Elt k x)(h2:∀x∈ys,Elt k x):∀x∈xs++ys,Elt k x:=fun x hx=>(List.mem_append.1 hx).elim (h1 x) (h2 x)
theorem grown_cells{ok:Nat→Prop}{k n:Nat}{xs ys:List Tree}{olds news rest:List Value}(ha:∀x∈xs,Elt k x)(hn:n=xs.length)(hlo:olds.length=n*k)
 (hr:∀(j:Nat) (T:Tree) (u:Value),(flat xs)[j]? =some T→olds[j]? =some u→TRep w ok T u) (hrep:∀(j:Nat) (T:Tree) (u:Value),(flat ys)[j]? =some T→news[j]? =some u→TRep w ok T u)
 (hel:∀x∈ys,Elt k x) (hl:news.length=ys.length*k) (j:Nat) (T:Tree) (u:Value) (hT:(flat (xs++ys))[j]? =some T) (hu:(olds++news++rest)[j]? =some u):TRep w ok T u:=by
 have hfx:=flat_len ha
 have hfy:=flat_len hel
 rw[flat_append] at hT
 by_cases c1:j<n*k
 ·rw[List.getElem?_append_left (by rw[hfx,←hn];exact c1)] at hT
  rw[List.getElem?_append_left (by simp;omega),List.getElem?_append_left (by omega)] at hu
  exact hr j T u hT hu
 ·have hj:j< (flat xs++flat ys).length:=(List.getElem?_eq_some_iff.1 hT).1
  simp only[List.length_append,hfx,hfy,←hn] at hj
  rw[List.getElem?_append_right (by rw[hfx,←hn];omega),hfx,←hn] at hT
  rw[List.getElem?_append_left (by simp;omega),List.getElem?_append_right (by omega),hlo] at hu
  exact hrep _ T u hT hu
theorem move_obj(hS:SRel F S m w){id:Nat}{o o':Ob}(hid:S id=some o)(hlt:o.len<o'.len)(hsh:o.same o')(hlv:o.live=true)(us:Array Value)(e:TypeId)(cap:Nat)
 (ho':FrameExt F S m w (upd S id o') (place m id (some w.heap.size,cap)) (w.alloc (.cells us e))→
  ORel (upd S id o') (place m id (some w.heap.size,cap)) (w.alloc (.cells us e)) (okB F (upd S id o') (place m id (some w.heap.size,cap)) (w.alloc (.cells us e))) o' (some w.heap.size,cap) []):
 SRel F (upd S id o') (place m id (some w.heap.size,cap)) (w.alloc (.cells us e))∧FrameExt F S m w (upd S id o') (place m id (some w.heap.size,cap)) (w.alloc (.cells us e)):=by
 have hF:FrameExt F S m w (upd S id o') (place m id (some w.heap.size,cap)) (w.alloc (.cells us e)):=by
  refine⟨rfl,rfl,rfl,by simp,fun b hb _=>alloc_old w _ b hb,fun i oi hi=> ?_,fun i oi hi hn=> ?_⟩
  ·by_cases e:i=id
   ·subst e
    rw[hid] at hi;cases hi
    exact⟨o',upd_same _ _ _,by omega,fun e=>by omega,fun h=>(by rw[hlv] at h;cases h),fun b hb=> .inr (.inl (by rw[place_has_same] at hb;simp at hb;omega)),hsh⟩
   ·exact⟨oi,by rw[upd_ne e];exact hi,Nat.le_refl _,fun _=>place_ne e,fun h=>h,fun b hb=> .inl ((place_has_ne e).1 hb),oi.same_refl⟩
  ·by_cases e:i=id
   ·subst e;rw[hid] at hn;cases hn
   ·rw[upd_ne e] at hi;rw[hi] at hn;cases hn
 refine⟨⟨fun i oi hi=> ?_,fun i j oi oj c hi hj h1 h2=> ?_,fun i oi c hi hm hFb=> ?_,fun i oi c hi hm=> ?_,fun c hc=>Nat.lt_of_lt_of_le (hS.low c hc) hF.size,hS.held hF⟩,hF⟩
 ·by_cases e:i=id
  ·subst e
   rw[upd_same] at hi;cases hi
   rw[place_same,place_g_same];exact ho' hF
  ·rw[upd_ne e] at hi
   rw[place_ne e,place_g_ne e]
   exact(hS.objs i oi hi).persist hF (fun b hm=>alloc_old w _ b (hS.lt i oi b hi hm))
 ·by_cases e:i=id
  ·by_cases e':j=id
   ·rw[e,e']
   ·subst e
    rw[place_has_same] at h1
    rw[place_has_ne e'] at h2
    rw[upd_ne e'] at hj
    have:=hS.lt j oj c hj h2
    simp at h1;omega
  ·by_cases e':j=id
   ·subst e'
    rw[place_has_same] at h2
    rw[place_has_ne e] at h1
    rw[upd_ne e] at hi
    have:=hS.lt i oi c hi h1
    simp at h2;omega
   ·rw[place_has_ne e] at h1
    rw[place_has_ne e'] at h2
    rw[upd_ne e] at hi
    rw[upd_ne e'] at hj
    exact hS.inj i j oi oj c hi hj h1 h2
 ·by_cases e:i=id
  ·subst e
   rw[place_has_same] at hm
   have:=hS.low c hFb
   simp at hm;omega
  ·rw[upd_ne e] at hi
   rw[place_has_ne e] at hm
   exact hS.avoid i oi c hi hm hFb
 ·by_cases e:i=id
  ·subst e
   rw[place_has_same] at hm
   simp at hm;rw[←hm];simp
  ·rw[upd_ne e] at hi
   rw[place_has_ne e] at hm
   exact Nat.lt_of_lt_of_le (hS.lt i oi c hi hm) hF.size
theorem drewF:FrameExt F S m w S m w.drew:=⟨rfl,rfl,rfl,Nat.le_refl _,fun _ _ _=>rfl,fun id o h=>⟨o,h,Nat.le_refl _,fun _=>rfl,fun h=>h,fun _ q=> .inl q,o.same_refl⟩,fun id o h h'=>by rw[h'] at h;cases h⟩
theorem SRel.drew(hS:SRel F S m w):SRel F S m w.drew:=⟨fun id o h=>(hS.objs id o h).persist drewF (fun _ _=>rfl),hS.inj,hS.avoid,hS.lt,hS.low,hS.held drewF⟩
theorem appendK_sound{ts:Array TypeId}{ty:TypeId}{s x:AVal}{nid:Nat}{δ:Dl}(h:appendK P ts s x st nid=some δ)(hc:All δ.cnd)(hst:∀id o,st id=some o→S id=some o)(hS:SRel F S m w)(hid:S nid=none)
 {us ux:Value} (hs:VRel S m w (okB F S m w) s us) (hx:VRel S m w (okB F S m w) x ux):Done F S m w δ.wr δ.val ((Builtin.append_ ts ty #[us,ux]).run P w):=by
 unfold appendK at h
 split at h
 rotate_left
 ·cases h
 rename_i tS tX hts
 simp only[Option.bind_eq_some_iff] at h
 obtain⟨e,he,k,hk,b,hb,z,hz,⟨ys,p⟩,hsrc,h⟩:=h
 obtain⟨hcond,h2⟩:=bif_some h
 clear h
 simp only at h2
 simp only[Bool.and_eq_true] at hcond
 obtain⟨⟨⟨ht,hk0⟩,hb128⟩,hzl⟩:=hcond
 have ht:=Nat.eq_of_beq_eq_true ht
 subst ht
 have hk0:=blt_pos hk0
 have hb128:=Nat.le_of_ble_eq_true hb128
 have hzl:=Nat.eq_of_beq_eq_true hzl
 have hu:=telem_some he
 obtain⟨zv,hzv,zs,hzs,rfl,hz1⟩:=tzeros_some hz
 simp only[List.length_map] at hzl
 have htsa:ts=#[tS,tS]:=by
  apply Array.ext'
  simpa using hts
 subst htsa
 obtain⟨i,hi,hik,hib,hizero⟩:∃i,P.info? e=some i∧i.size=k∧i.bytes=b∧i.zero=some zv:=by
  unfold tsz at hk
  unfold tby at hb
  unfold tzero at hzv
  cases hi:P.info? e with
  |none=>simp[hi] at hk
  |some i=>simp[hi] at hk hb hzv;exact⟨i,rfl,hk,hb,hzv⟩
 have hzeros:∀q:Nat,(Builtin.zeroCells zv.cells q).toList=repl zs q:=fun q=>by
  have:=repl_range zv.cells q
  simp only[Builtin.zeroCells]
  rw[this,hzs]
 split at h2
 ·
  simp only[Option.some.injEq] at h2
  subst h2
  rw[All_append] at hc
  simp only[All] at hc
  obtain⟨hp,hbig,-⟩:=hc
  obtain⟨news,hsr⟩:=src_sound hk0 hsrc hp hst hS hx
  have:=VRel.sc_inv hs;subst this
  have hrun:=run_app (ty:=ty) hu hi hizero hik hsr (by omega) (none,0) 0 [] (by simp) (by simp) (by rw[hib];simpa using hbig) (.inl ⟨rfl,rfl⟩)
  simp only[Nat.zero_add] at hrun
  rcases hrun with⟨hr1,⟨_,hrun⟩| ⟨b,cur,e',h1,_⟩⟩| ⟨hr1,cap,hcap,hm,hrun⟩
  ·have hy:ys=[]:=List.eq_nil_of_length_eq_zero (by omega)
   subst hy
   have hF:=ext_new (F:=F) (S:=S) (m:=m) (w:=w) (w':=w) (o:= .row k false []) (L:=(none,0)) hid rfl rfl rfl (Nat.le_refl _) (fun _ _=>rfl) (fun b hb=>by simp at hb)
   refine⟨_,w,place m nid (none,0),hrun,hS.new hid hF (fun _ _=>rfl) (fun b hb=>by simp at hb) ⟨hk0,fun x hx=>by simp at hx,by simp,by simp[maxLen],.inl ⟨rfl,rfl⟩⟩,hF,?_⟩
   exact .row nid 0 k false [] (none,0) (upd_same _ _ _) (Nat.le_refl _) (fun _=>place_same _ _ _)
  ·simp at h1
  ·have hlen:(news++repl zs (cap-ys.length)).length=cap*k:=by
    rw[List.length_append,hsr.len,repl_len,hzl,←Nat.add_mul];congr 1;omega
   obtain⟨n1,n2,n3⟩:=new_row hS.drew hid (xs:=ys) hk0 hsr.elts cap hcap hm hlen
    (fun u hu=>(List.mem_append.1 hu).elim (hsr.one u) (fun h=>hz1 u (repl_mem h))) (fun j T u hT hu=>by
     rw[List.getElem?_append_left (by rw[hsr.len,←flat_len hsr.elts];exact(List.getElem?_eq_some_iff.1 hT).1)] at hu
     exact drewF.tree (hsr.rep j T u hT hu)) e
   have ecells:(([]:List Value).toArray++news.toArray++Builtin.zeroCells zv.cells (cap-ys.length))=(news++repl zs (cap-ys.length)).toArray:=by
    apply Array.ext'
    simp[hzeros]
   rw[ecells] at hrun
   exact⟨_,_,_,hrun,n1,drewF.trans hS n2,n3 _⟩
 ·
  rename_i id n
  split at h2
  rotate_left
  ·cases h2
  rename_i k' xs hs'
  obtain⟨hkk,h⟩:=bif_some h2
  have hkk:=Nat.eq_of_beq_eq_true hkk
  subst hkk
  simp only[Option.some.injEq] at h
  subst h
  rw[All_append] at hc
  simp only[All] at hc
  obtain⟨hp,hn,hbig,-⟩:=hc
  obtain⟨news,hsr⟩:=src_sound hk0 hsrc hp hst hS hx
  have hs2:=hst id _ hs'
  have hnid:id≠nid:=fun e=>by subst e;rw[hid] at hs2;cases hs2
  cases hs with
  |rowG _ _ L hs0=>rw[hs2] at hs0;cases hs0
  |row _ _ k0 fz0 xs0 L hs0 hn0 hu0=>
   rw[hs2] at hs0;cases hs0
   have hL:=hu0 hn
   obtain⟨a1,a2,a3,a4,a5⟩:=hS.objs id _ hs2
   rw[hL] at a3 a4 a5
   have hfl:=flat_len a2
   obtain⟨olds,ho1,ho2,ho3,ho4⟩:∃olds:List Value,olds.length=n*k∧((L=(none,0)∧olds=[])∨∃b cur e',L.1=some b∧w.heap[b]? =some (.cells cur e' (0,0))∧cur.size=L.2*k∧olds=cur.toList.take (n*k))∧
    (∀u∈olds,u.oneCell'=true)∧(∀(j:Nat) (T:Tree) (u:Value),(flat xs)[j]? =some T→olds[j]? =some u→TRep w (okB F S m w) T u):=by
    rcases a5 with⟨a5,a6⟩| ⟨b,cur,e',h1,h2,h3,h4,h5⟩
    ·have hx:xs=[]:=List.eq_nil_of_length_eq_zero (by rw[a6] at a3;omega)
     subst hx
     exact⟨[],by simp[hn],.inl ⟨Prod.ext a5 a6,rfl⟩,fun u hu=>by simp at hu,fun j T u h=>by simp[flat] at h⟩
    ·have hle:n*k≤cur.size:=by rw[h3];exact Nat.mul_le_mul_right k (by omega)
     refine⟨cur.toList.take (n*k),by simp;omega,.inr ⟨b,cur,e',h1,h2,h3,rfl⟩,fun u hu=> ?_,fun j T u hT hu=> ?_⟩
     ·obtain⟨j,hj⟩:=List.getElem?_of_mem (List.mem_of_mem_take hu)
      exact h4 j u (by simpa using hj)
     ·rw[List.getElem?_take] at hu
      split at hu
      ·exact h5 j T u hT (by simpa using hu)
      ·cases hu
   have hrun:=run_app (ty:=ty) hu hi hizero hik hsr (by omega) L n olds ho1 (by omega) (by rw[hib];exact hbig) ho2
   have helt:=Elt.append a2 hsr.elts
   have hlen2:(xs++ys).length=n+ys.length:=by simp[hn]
   rcases hrun with⟨hr1,⟨hL0,hrun⟩| ⟨b,cur,e',h1,h2,hrun⟩⟩| ⟨hr1,cap,hcap,hm,hrun⟩
   ·
    subst hL0
    simp only at hr1
    have hy:ys=[]:=List.eq_nil_of_length_eq_zero (by omega)
    subst hy
    have he:app S [(id,Ob.row k false (xs++[]))]=S:=by
     funext j
     show upd S id (.row k false (xs++[])) j=S j
     by_cases e:j=id
     ·subst e;rw[upd_same,List.append_nil,hs2]
     ·rw[upd_ne e]
    refine⟨_,w,m,hrun,?_,?_,?_⟩
    ·rw[he];exact hS
    ·rw[he];exact FrameExt.refl F S m w
    ·rw[he];exact .row id _ k false xs _ hs2 (by simp[hn]) (fun _=>hL)
   ·
    have hcs:cur.size=L.2*k∧olds=cur.toList.take (n*k):=by
     rcases ho2 with⟨hq,_⟩| ⟨b0,cur0,e0,q1,q2,q3,q4⟩
     ·rw[hq] at h1;cases h1
     ·rw[h1] at q1;cases q1
      rw[h2] at q2;cases q2
      exact⟨q3,q4⟩
    have hfit:n*k+news.length≤cur.size:=by rw[hsr.len,hcs.1,←Nat.add_mul];exact Nat.mul_le_mul_right _ hr1
    have hcur1:∀(j:Nat) (u:Value),cur[j]? =some u→u.oneCell'=true:=by
     rcases a5 with⟨a5,_⟩| ⟨b0,cur0,e0,q1,q2,q3,q4,q5⟩
     ·rw[a5] at h1;cases h1
     ·rw[h1] at q1;cases q1
      rw[h2] at q2;cases q2
      exact q4
    have key:=rewrite_obj (o':= .row k false (xs++ys)) hS hs2 rfl (by rw[hL];exact h1) (w':=w.setRow b (cur.toList.take (n*k)++news++cur.toList.drop (n*k+news.length)).toArray)
     rfl rfl rfl (by simp) (fun c hc=>setRow_get w b c _ hc) (by simp[Ob.len]) (by simp[Ob.same]) (fun hF=>by
      rw[hL]
      refine⟨hk0,helt,by omega,a4,.inr ⟨b,_,e',h1,setRow_heap w b cur _ e' _ h2,by simp;omega,fun j u hu=> ?_,fun j T u hT hu=> ?_⟩⟩
      ·have hu:(cur.toList.take (n*k)++news++cur.toList.drop (n*k+news.length))[j]? =some u:=by simpa using hu
       rcases List.mem_append.1 (List.mem_of_getElem? hu) with hu|hu
       ·rcases List.mem_append.1 hu with hu|hu
        ·obtain⟨q,hq⟩:=List.getElem?_of_mem (List.mem_of_mem_take hu)
         exact hcur1 q u (by simpa using hq)
        ·exact hsr.one u hu
       ·obtain⟨q,hq⟩:=List.getElem?_of_mem (List.mem_of_mem_drop hu)
        exact hcur1 q u (by simpa using hq)
      ·have hu:(olds++news++cur.toList.drop (n*k+news.length))[j]? =some u:=by rw[hcs.2];simpa using hu
       exact hF.tree (grown_cells a2 hn ho1 ho4 hsr.rep hsr.elts hsr.len j T u hT hu))
    refine⟨_,_,m,hrun,key.1,key.2,?_⟩
    exact .row id _ k false (xs++ys) L (upd_same _ _ _) (by rw[hlen2];exact Nat.le_refl _) (fun _=>hL)
   ·
    have hzl':(repl zs (cap- (n+ys.length))).length=(cap- (n+ys.length))*k:=by rw[repl_len,hzl]
    have ecells:(olds.toArray++news.toArray++Builtin.zeroCells zv.cells (cap- (n+ys.length)))=(olds++news++repl zs (cap- (n+ys.length))).toArray:=by
     apply Array.ext'
     simp[hzeros]
    rw[ecells] at hrun
    have key:=move_obj (o':= .row k false (xs++ys)) hS.drew hs2 (by simp[Ob.len];omega) (by simp[Ob.same]) rfl (olds++news++repl zs (cap- (n+ys.length))).toArray e cap (fun hF=>by
     refine⟨hk0,helt,by rw[hlen2];exact hcap,hm,.inr ⟨w.heap.size,_,e,rfl,alloc_new w.drew _,?_,fun j u hu=> ?_,fun j T u hT hu=> ?_⟩⟩
     ·simp only[List.size_toArray,List.length_append,ho1,hsr.len,hzl',←Nat.add_mul]
      congr 1;omega
     ·have hu:(olds++news++repl zs (cap- (n+ys.length)))[j]? =some u:=by simpa using hu
      rcases List.mem_append.1 (List.mem_of_getElem? hu) with hu|hu
      ·exact(List.mem_append.1 hu).elim (ho3 u) (hsr.one u)
      ·exact hz1 u (repl_mem hu)
     ·have hu:(olds++news++repl zs (cap- (n+ys.length)))[j]? =some u:=by simpa using hu
      exact hF.tree (drewF.tree (grown_cells a2 hn ho1 ho4 hsr.rep hsr.elts hsr.len j T u hT hu)))
    refine⟨_,_,_,hrun,key.1,drewF.trans hS key.2,?_⟩
    exact .row id _ k false (xs++ys) _ (upd_same _ _ _) (by rw[hlen2];exact Nat.le_refl _) (fun _=>place_same _ _ _)
 ·
  rename_i k' xs
  obtain⟨hkk,h⟩:=bif_some h2
  have hkk:=Nat.eq_of_beq_eq_true hkk
  subst hkk
  simp only[Option.some.injEq] at h
  subst h
  rw[All_append] at hc
  simp only[All] at hc
  obtain⟨hp,hpos,hbig,-⟩:=hc
  obtain⟨news,hsr⟩:=src_sound hk0 hsrc hp hst hS hx
  cases hs with
  |xl _ _ _ hT hcc=>
  obtain⟨A0,rfl⟩:=hcc
  generalize hn:xs.length=n at hT
  cases hT with
  |lst _ _ A c olds hk hxx hn' hm2 hA hl hrep=>
  obtain⟨cap,hcap,hm,hrun⟩:=run_appX (ty:=ty) hu hi hizero hik hsr (by omega) A0 xs.length olds hl hpos (by rw[hib];exact hbig) (fun hne=>by
   obtain⟨b,o,rfl,_,hcell⟩:=hA (fun e=>hne (by rw[e];rfl))
   exact⟨_,rfl,fun j u hj=>by rw[add_lit'];exact hcell j u hj⟩)
  have helt:=Elt.append hxx hsr.elts
  have hlen2:(xs++ys).length=xs.length+ys.length:=List.length_append
  have hlen:(olds++news++repl zs (cap- (xs.length+ys.length))).length=cap*k:=by
   rw[List.length_append,List.length_append,hl,hsr.len,repl_len,hzl,←Nat.add_mul,←Nat.add_mul];congr 1;omega
  have hone:∀u∈olds,u.oneCell'=true:=fun u hu=>by
   obtain⟨j,hj,rfl⟩:=List.mem_iff_getElem.1 hu
   have hj':j< (flat xs).length:=by rw[flat_len hxx];omega
   exact(hrep j _ _ (List.getElem?_eq_getElem hj') (List.getElem?_eq_getElem hj)).one (flat_cell hxx _ (List.getElem_mem _))
  obtain⟨n1,n2,n3⟩:=new_row hS.drew hid (xs:=xs++ys) hk0 helt cap (by rw[hlen2];exact hcap) hm hlen
   (fun u hu=>(List.mem_append.1 hu).elim (fun h=>(List.mem_append.1 h).elim (hone u) (hsr.one u)) (fun h=>hz1 u (repl_mem h)))
   (fun j T u hT hu=>drewF.tree (grown_cells hxx rfl hl hrep hsr.rep hsr.elts hsr.len j T u hT hu)) e
  have ecells:(olds.toArray++news.toArray++Builtin.zeroCells zv.cells (cap- (xs.length+ys.length)))=(olds++news++repl zs (cap- (xs.length+ys.length))).toArray:=by
   apply Array.ext'
   simp[hzeros]
  rw[ecells] at hrun
  rw[hlen2] at n3
  exact⟨_,_,_,hrun,n1,drewF.trans hS n2,n3 _⟩
 ·cases h2
end Go.Ab
end
section
set_option linter.unusedVariables false
namespace Go.Ab
variable {P:Program} {w:World} {F:Fen P} {S st:Store} {m:Place}
theorem mem_idsL{i:Nat}:∀{l:List AVal},i∈idsL l↔∃v∈l,i∈idsV v
 | []=>by simp[idsL]
 |v::l=>by simp[idsL,mem_idsL (l:=l)]
theorem VRel.restrict{st':Store}{ok ok':Nat→Prop}(hok:∀b,ok b→ok' b){v:AVal}{u:Value}(h:VRel S m w ok v u):(∀id∈idsV v,st' id=S id)→VRel st' m w ok' v u:=by
 induction h with
 |t T u hT=>intro _;exact .t T u (hT.mono hok (fun _ _ _ _ h=>h))
 |xl k xs u hT hc=>intro _;exact .xl k xs u (hT.mono hok (fun _ _ _ _ h=>h)) hc
 |row id n k fz xs L h1 h2 h3=>intro hi;exact .row id n k fz xs L ((hi id (by simp[idsV])).trans h1) h2 h3
 |ptr id off cs b h1 h2=>intro hi;exact .ptr id off cs b ((hi id (by simp[idsV])).trans h1) h2
 |bsl id n cs b h1 h2=>intro hi;exact .bsl id n cs b ((hi id (by simp[idsV])).trans h1) h2
 |psl id n cs b c h1 h2 h3=>intro hi;exact .psl id n cs b c ((hi id (by simp[idsV])).trans h1) h2 h3
 |bslG id n L h1=>intro hi;exact .bslG id n L ((hi id (by simp[idsV])).trans h1)
 |pslG id n L h1=>intro hi;exact .pslG id n L ((hi id (by simp[idsV])).trans h1)
 |eptr id n i sub k fz xs b h1 h2 h3=>intro hi;exact .eptr id n i sub k fz xs b ((hi id (by simp[idsV])).trans h1) h2 h3
 |mat id fz xs hh L h1 h2=>intro hi;exact .mat id fz xs hh L ((hi id (by simp[idsV])).trans h1) h2
 |mptr id i fz xs hh b h1 h2=>intro hi;exact .mptr id i fz xs hh b ((hi id (by simp[idsV])).trans h1) h2
 |cptr cs b o us h1 h2 h3 h4 h5=>intro _;exact .cptr cs b o us (hok _ h1) h2 h3 h4 (fun j T u a b=>(h5 j T u a b).mono hok (fun _ _ _ _ h=>h))
 |agg cs us h1 _ h3 ih=>intro hi;exact .agg cs us h1 (fun i v u a b=>ih i v u a b (fun id hid=>hi id (by simp only[idsV];exact mem_idsL.2 ⟨v,List.mem_of_getElem? a,hid⟩))) h3
 |fn f cap us h1 _ ih=>intro hi;exact .fn f cap us h1 (fun i v u a b=>ih i v u a b (fun id hid=>hi id (by simp only[idsV];exact mem_idsL.2 ⟨v,List.mem_of_getElem? a,hid⟩)))
 |tup vs us h1 _ ih=>intro hi;exact .tup vs us h1 (fun i v u a b=>ih i v u a b (fun id hid=>hi id (by simp only[idsV];exact mem_idsL.2 ⟨v,List.mem_of_getElem? a,hid⟩)))
 |cond c v u _ h0 ih=>intro hi;exact .cond c v u (fun e=>ih e (fun id hid=>hi id (by simpa[idsV] using hid))) h0
 |junk u=>intro _;exact .junk u
 |rowG id n L h1=>intro hi;exact .rowG id n L ((hi id (by simp[idsV])).trans h1)
 |eptrG id n i sub b o h1=>intro hi;exact .eptrG id n i sub b o ((hi id (by simp[idsV])).trans h1)
 |anyB b=>intro _;exact .anyB b
 |ifc t u=>intro _;exact .ifc t u
 |tail id n i k fz xs L h1 h2 h3 h4=>intro hi;exact .tail id n i k fz xs L ((hi id (by simp[idsV])).trans h1) h2 h3 h4
 |tailG id n i k L h1=>intro hi;exact .tailG id n i k L ((hi id (by simp[idsV])).trans h1)
 |hdl id o b u h1 h2 h3=>intro hi;exact .hdl id o b u ((hi id (by simp[idsV])).trans h1) h2 h3
 |ptrG id off b h1=>intro hi;exact .ptrG id off b ((hi id (by simp[idsV])).trans h1)
 |yl id Y pre h1=>intro hi;exact .yl id Y pre ((hi id (by simp[idsV])).trans h1)
theorem memfree_rel{st':Store}{m':Place}{w':World}{ok ok':Nat→Prop}{v:AVal}{u:Value}(hf:memfree v=true)(h:VRel S m w ok v u):VRel st' m' w' ok' v u:=by
 have tree:∀(T:Tree) (u:Value),T.free=true→TRep w ok T u→TRep w' ok' T u:=by
  intro T u hT h
  cases h with
  |sc _ h=>exact .sc _ h
  |lst=>simp[Tree.free] at hT
  |agg cs us hl hc h1=>
   refine .agg cs us hl hc (fun i T u a b=> ?_)
   have h2:=h1 i T u a b
   have h3:=List.all_eq_true.1 hT T (List.mem_of_getElem? a)
   cases h2 with
   |sc _ h=>exact .sc _ h
   |lst=>simp at h3
   |agg=>simp at h3
 cases h with
 |t T u hT=>exact .t T u (tree T u hf hT)
 |tup vs us hl h1=>
  refine .tup vs us hl (fun i v u a b=> ?_)
  have h2:=h1 i v u a b
  have h3:=List.all_eq_true.1 hf v (List.mem_of_getElem? a)
  cases h2 with
  |t T u hT=>exact .t T u (tree T u h3 hT)
  |ifc t u=>exact .ifc t u
  |_=>simp at h3
 |_=>simp[memfree] at hf
theorem app_at{S S':Store}:∀{wr:List (Nat×Ob)} {id:Nat},(id∈wr.map (·.1)∨S id=S' id)→app S wr id=app S' wr id
 | [],id,h=>by simpa[app] using h
 | (i,o)::wr,id,h=>by
  simp only[app]
  apply app_at
  by_cases e:id=i
  ·subst e;right;rw[upd_same,upd_same]
  ·rcases h with h|h
   ·simp only[List.map_cons,List.mem_cons] at h
    exact .inl (h.resolve_left e)
   ·right;rw[upd_ne e,upd_ne e,h]
theorem app_not{S:Store}:∀{wr:List (Nat×Ob)} {id:Nat},id∉wr.map (·.1)→app S wr id=S id
 | [],id,_=>rfl
 | (i,o)::wr,id,h=>by
  simp only[List.map_cons,List.mem_cons,not_or] at h
  simp only[app]
  rw[app_not h.2,upd_ne h.1]
theorem app_some{S:Store}:∀{wr:List (Nat×Ob)} {id:Nat},id∈wr.map (·.1)→∃o,app S wr id=some o
 | [],id,h=>by simp at h
 | (i,o)::wr,id,h=>by
  simp only[app]
  by_cases hm:id∈wr.map (·.1)
  ·exact app_some hm
  ·simp only[List.map_cons,List.mem_cons] at h
   have e:=h.resolve_right hm
   subst e
   exact⟨o,by rw[app_not hm,upd_same]⟩
theorem RowAt.okTo{ok ok':Nat→Prop}(hok:∀b,ok b→ok' b){k:Nat}{xs:List Tree}{L:Option Nat×Nat}(h:RowAt w ok k xs L):RowAt w ok' k xs L:=by
 obtain⟨a1,a2,a3,a4,a5⟩:=h
 refine⟨a1,a2,a3,a4,a5.imp (fun h=>h) ?_⟩
 rintro⟨b,us,e,h1,h2,h3,h4,h5⟩
 exact⟨b,us,e,h1,h2,h3,h4,fun j T u p q=>(h5 j T u p q).mono hok (fun _ _ _ _ h=>h)⟩
theorem MRel.tq{st':Store}{m':Place}{ok ok':Nat→Prop}(hok:∀b,ok b→ok' b){v:MV}{u:Value}{c:Option Nat}(h:MRel S m w ok v u c):MRel st' m' w ok' v u c:=by
 cases v with
 |im T=>exact⟨h.1.mono hok (fun _ _ _ _ h=>h),h.2⟩
 |cp cs=>
  refine⟨?_,h.2⟩
  cases h.1 with
  |cptr _ b o us h1 h2 h3 h4 h5=>exact .cptr cs b o us (hok _ h1) h2 h3 h4 (fun j T u a b=>(h5 j T u a b).mono hok (fun _ _ _ _ h=>h))
 |bx cs=>
  obtain⟨b,us,e,h1,h2,h3,h4,h5,h6⟩:=h
  exact⟨b,us,e,h1,h2,h3,h4,h5,fun i T u p q=>(h6 i T u p q).mono hok (fun _ _ _ _ h=>h)⟩
 |rw k xs=>
  obtain⟨L,h1,h2,h3⟩:=h
  exact⟨L,h1,h2,h3.okTo hok⟩
theorem PCell.tq{ok ok':Nat→Prop}(hok:∀b,ok b→ok' b){cs:List Tree}{b:Nat}(h:PCell w ok cs b):PCell w ok' cs b:=by
 obtain⟨us,e,h1,h2,h3,h4⟩:=h
 exact⟨us,e,h1,h2,h3,fun i T u p q=>⟨(h4 i T u p q).1.mono hok (fun _ _ _ _ h=>h),(h4 i T u p q).2⟩⟩
def idsO:Ob→List Nat
 | .box cs=>idsL cs
 | .mat _ _ (some (_,r,_))=>[r]
 | .mp _ (some (_,v))=>idsV v
 | .miter mid _ _=>[mid]
 | .pool _ (some (_,r))=>[r]
 |_=>[]
theorem ORel.tq{st':Store}{m':Place}{ok ok':Nat→Prop}(hok:∀b,ok b→ok' b){o:Ob}{L:Option Nat×Nat}{g:List Nat}(h:ORel S m w ok o L g)
 (hv:∀v u,(∀i∈idsV v,i∈idsO o)→VRel S m w ok v u→VRel st' m' w ok' v u) (hm:∀mid n s,o= .miter mid n s→m' mid=m mid∧∀es hh,S mid=some (.mp es hh)→∃es hh,st' mid=some (.mp es hh)):ORel st' m' w ok' o L g:=by
 cases o with
 |box cs=>
  obtain⟨b,us,e,h1,h2,h3,h4⟩:=h
  exact⟨b,us,e,h1,h2,h3,fun i v u p q=>⟨hv v u (fun j hj=>mem_idsL.2 ⟨v,List.mem_of_getElem? p,hj⟩) (h4 i v u p q).1,(h4 i v u p q).2⟩⟩
 |mat fz xs hh=>
  obtain⟨⟨b,us,e,h1,h2,h3,h4⟩,q⟩:=h
  refine⟨⟨b,us,e,h1,h2,h3,fun i v u p q=>⟨hv v u (fun j hj=> ?_) (h4 i v u p q).1,(h4 i v u p q).2⟩⟩,q⟩
  have hmem:=List.mem_of_getElem? p
  match hh with
  |none=>obtain⟨T,_,rfl⟩:=List.mem_map.1 hmem;simp[idsV] at hj
  |some (a,r,n)=>
   rcases List.mem_or_eq_of_mem_set hmem with hmem|rfl
   ·obtain⟨T,_,rfl⟩:=List.mem_map.1 hmem;simp[idsV] at hj
   ·simpa[idsV,idsO] using hj
 |row k fz xs=>exact RowAt.okTo hok h
 |gone=>exact h
 |siter s pos=>exact h
 |mp es hh=>
  obtain⟨b,ents,bl,h1,h2,h3,h4,h5,h6,h7⟩:=h
  refine⟨b,ents,bl,h1,h2,h3,h4,h5,h6,fun i x e p q=> ?_⟩
  obtain⟨q1,q2,q3⟩:=h7 i x e p q
  refine⟨q1,q2,?_⟩
  match hh with
  |none=>exact MRel.tq hok q3
  |some (k',v')=>exact⟨fun e=>⟨hv v' _ (fun j hj=>hj) (q3.1 e).1,(q3.1 e).2⟩,fun e=>(q3.2 e).tq hok⟩
 |miter mid n seen=>
  obtain⟨b,bm,h1,h2,⟨es,hh,h3⟩,h4⟩:=h
  obtain⟨e1,e2⟩:=hm mid n seen rfl
  exact⟨b,bm,h1,by rw[e1];exact h2,e2 es hh h3,h4⟩
 |ext Y pre=>exact⟨h.1,h.2.1,fun b hD=>hok b (h.2.2 b hD)⟩
 |pool es hh=>
  obtain⟨h1,h2,h3,h4⟩:=h
  exact⟨h1,h2,fun x hx hr=>⟨(h3 x hx hr).1,(h3 x hx hr).2.tq hok⟩,fun b r e=>hv _ _ (fun i hi=>by subst e;exact hi) (h4 b r e)⟩
theorem ORel.ext{st':Store}{m':Place}{ok ok':Nat→Prop}(hs:∀id o,S id=some o→st' id=some o∧m' id=m id)(hok:∀b,ok b→ok' b){o:Ob}{L:Option Nat×Nat}{g:List Nat}(h:ORel S m w ok o L g):ORel st' m' w ok' o L g:=by
 refine h.tq hok (fun v u _ hv=>hv.ext hs hok) (fun mid n s e=> ?_)
 subst e
 obtain⟨b,bm,h1,h2,⟨es,hh,h3⟩,h4⟩:=h
 exact⟨(hs _ _ h3).2,fun es' hh' h'=>⟨es',hh',(hs _ _ h').1⟩⟩
def offB(F:Fen P)(S sub:Store)(m:Place):Fen P:=⟨fun b=>F b∨∃id o,S id=some o∧o.live=true∧m.has id b∧sub id=none,fun b=>F.bar b∨∃id o,S id=some o∧o.live=true∧m.has id b∧sub id=none∧∀x,¬F.says b x,F.says,fun b o h=> .inl (F.sub b o h),fun b h=>h.imp (F.sup b) (fun⟨i,o,q1,q2,q3,q4,_⟩=>⟨i,o,q1,q2,q3,q4⟩),F.tab,fun b o h hb=>hb.elim (F.opn b o h) (fun⟨_,_,_,_,_,_,hn⟩=>hn o h),F.cel,F.rnd,F.lo⟩
theorem ok_off{sub:Store}(hsub:∀id o,sub id=some o→S id=some o){b:Nat}(h:okB F S m w b):okB (offB F S sub m) sub m w b:=by
 obtain⟨h1,h2,h3⟩:=h
 refine⟨h1,fun hf=> ?_,fun id o ho hl=>h3 id o (hsub id o ho) hl⟩
 rcases hf with hf| ⟨id,o,ho,hl,hm,_⟩
 ·exact h2 hf
 ·exact h3 id o ho hl hm
theorem SRel.off{sub:Store}(hS:SRel F S m w)(hsub:∀id o,sub id=some o→S id=some o)(hcl:∀id o,sub id=some o→∀i∈idsO o,sub i=S i):
 SRel (offB F S sub m) sub m w:=by
 refine⟨fun id o ho=> ?_,fun i j oi oj b hi hj=>hS.inj i j oi oj b (hsub _ _ hi) (hsub _ _ hj),fun id o b ho hm hf=> ?_,fun id o b ho hm=>hS.lt id o b (hsub id o ho) hm,fun b hf=> ?_,fun b o h=>hS.hold b o h⟩
 ·refine(hS.objs id o (hsub id o ho)).tq (fun b hb=>ok_off hsub hb) (fun v u hids hv=>hv.restrict (fun b hb=>ok_off hsub hb) (fun i hi=>hcl id o ho i (hids i hi))) (fun mid n s e=>⟨rfl,fun es hh h=>⟨es,hh,?_⟩⟩)
  subst e
  rw[hcl id _ ho mid (by simp[idsO])];exact h
 ·rcases hf with hf| ⟨i,oi,hi,hl,hm',hn⟩
  ·exact hS.avoid id o b (hsub id o ho) hm hf
  ·have:=hS.inj id i _ _ b (hsub id o ho) hi hm hm'
   subst this
   rw[ho] at hn;cases hn
 ·rcases hf with hf| ⟨i,oi,hi,hl,hm,_⟩
  ·exact hS.low b hf
  ·exact hS.lt i oi b hi hm
theorem call_back{sub:Store}{wr:List (Nat×Ob)}{m1:Place}{w':World}{res:AVal}{v:Value}(hS:SRel F S m w)(hsub:∀id o,sub id=some o→S id=some o)
 (hwr:∀id∈wr.map (·.1),sub id=S id) (h1:SRel (offB F S sub m) (app sub wr) m1 w') (h2:FrameExt (offB F S sub m) sub m w (app sub wr) m1 w')
 (h3:VRel (app sub wr) m1 w' (okB (offB F S sub m) (app sub wr) m1 w') res v):
 ∃m2,SRel F (app S wr) m2 w'∧FrameExt F S m w (app S wr) m2 w'∧VRel (app S wr) m2 w' (okB F (app S wr) m2 w') res v:=by
 let m2:Place:=⟨fun id=>if(app sub wr id).isSome then m1 id else m id,fun id=>if(app sub wr id).isSome then m1.g id else m.g id⟩
 have hin:∀id o,app sub wr id=some o→m2 id=m1 id:=fun id o h=>by simp[m2,h]
 have hout:∀id,app sub wr id=none→m2 id=m id:=fun id h=>by simp[m2,h]
 have hing:∀id o,app sub wr id=some o→m2.g id=m1.g id:=fun id o h=>by simp[m2,h]
 have houtg:∀id,app sub wr id=none→m2.g id=m.g id:=fun id h=>by simp[m2,h]
 have hinh:∀id o b,app sub wr id=some o→(m2.has id b↔m1.has id b):=fun id o b h=>by unfold Place.has;rw[hin id o h,hing id o h]
 have houth:∀id b,app sub wr id=none→(m2.has id b↔m.has id b):=fun id b h=>by unfold Place.has;rw[hout id h,houtg id h]
 have hS2:∀id o,app sub wr id=some o→app S wr id=some o:=by
  intro id o h
  by_cases hm:id∈wr.map (·.1)
  ·rw[←h];exact app_at (.inl hm)
  ·rw[app_not hm] at h⊢
   exact hsub id o h
 have hrest:∀id,app sub wr id=none→app S wr id=S id∧sub id=none:=by
  intro id h
  have hm:id∉wr.map (·.1):=fun hm=>by obtain⟨o,ho⟩:=app_some (S:=sub) hm;rw[h] at ho;cases ho
  rw[app_not hm] at h
  exact⟨app_not hm,h⟩
 have hF:FrameExt F S m w (app S wr) m2 w':=by
  refine⟨h2.os,h2.tape,h2.output,h2.size,fun b hb hf=> ?_,fun id o ho=> ?_,fun id o ho hn b hb=> ?_⟩
  ·refine h2.block b hb ?_
   rcases hf with hf|hf
   ·exact .inl (.inl hf)
   ·exact .inr fun id o ho hl=>hf id o (hsub id o ho) hl
  ·cases hs:sub id with
   |some o'=>
    have:=hsub id o' hs
    rw[ho] at this;cases this
    obtain⟨o1,k1,k2,k3,k4,k5,k6⟩:=h2.keep id o hs
    exact⟨o1,hS2 id o1 k1,k2,fun e=>by rw[hin id o1 k1];exact k3 e,k4,fun b hb=>(k5 b ((hinh id o1 b k1).1 hb)).imp (fun h=>h) (fun h=>h.imp (fun h=>h) (fun⟨i,oi,q1,q2,q3⟩=>⟨i,oi,hsub i oi q1,q2,q3⟩)),k6⟩
   |none=>
    have hm:id∉wr.map (·.1):=fun hm=>by have:=hwr id hm;rw[hs,ho] at this;cases this
    have hn:app sub wr id=none:=by rw[app_not hm];exact hs
    exact⟨o,by rw[app_not hm];exact ho,Nat.le_refl _,fun _=>hout id hn,fun h=>h,fun b hb=> .inl ((houth id b hn).1 hb),o.same_refl⟩
  ·cases hs:app sub wr id with
   |some o1=>
    have hsn:sub id=none:=by
     cases hh:sub id with
     |none=>rfl
     |some o'=>have:=hsub id o' hh;rw[hn] at this;cases this
    rw[hinh id o1 b hs] at hb
    exact(h2.new id o1 hs hsn b hb).imp (fun h=>h) (fun⟨i,oi,q1,q2,q3⟩=>⟨i,oi,hsub i oi q1,q2,q3⟩)
   |none=>
    have:=(hrest id hs).1
    rw[ho,hn] at this;cases this
 have hok:∀b,okB (offB F S sub m) (app sub wr) m1 w' b→okB F (app S wr) m2 w' b:=by
  rintro b ⟨b1,b2,b3⟩
  refine⟨b1,fun hf=>b2 (.inl hf),fun id o ho hl hm=> ?_⟩
  cases hs:app sub wr id with
  |some o1=>
   have:=hS2 id o1 hs
   rw[ho] at this;cases this
   rw[hinh id o b hs] at hm
   exact b3 id o hs hl hm
  |none=>
   have hr:=hrest id hs
   rw[hr.1] at ho
   rw[houth id b hs] at hm
   exact b2 (.inr ⟨id,o,ho,hl,hm,hr.2,fun x hx=>hS.avoid id o b ho hm (F.sub b x hx)⟩)
 have hext:∀id o,app sub wr id=some o→app S wr id=some o∧m2 id=m1 id:=fun id o h=>⟨hS2 id o h,hin id o h⟩
 refine⟨m2,⟨fun id o ho=> ?_,fun i j oi oj b hi hj hbi hbj=> ?_,fun id o b ho hm hf=> ?_,fun id o b ho hm=> ?_,fun b hf=>Nat.lt_of_lt_of_le (hS.low b hf) h2.size,hS.held hF⟩,hF,h3.ext hext hok⟩
 ·cases hs:app sub wr id with
  |some o1=>
   have:=hS2 id o1 hs
   rw[ho] at this;cases this
   rw[hin id o hs,hing id o hs]
   exact(h1.objs id o hs).ext hext hok
  |none=>
   have hr:=hrest id hs
   rw[hr.1] at ho
   rw[hout id hs,houtg id hs]
   refine(hS.objs id o ho).persist hF (fun b hb=> ?_)
   refine h2.block b (hS.lt id o b ho hb) (.inr fun i oi hi hl hbi=> ?_)
   have:=hS.inj id i _ _ b ho (hsub i oi hi) hb hbi
   subst this
   rw[hr.2] at hi;cases hi
 ·
  have mixed:∀i j oi oj,app S wr i=some oi→app S wr j=some oj→m2.has i b→m2.has j b→∀o1,app sub wr i=some o1→app sub wr j=none→i=j:=by
   intro i j oi oj hi hj hbi hbj o1 hs1 hs2
   have hr:=hrest j hs2
   rw[hr.1] at hj
   rw[houth j b hs2] at hbj
   rw[hinh i o1 b hs1] at hbi
   have hlt:=hS.lt j oj b hj hbj
   cases hsi:sub i with
   |some o0=>
    obtain⟨_,_,_,_,_,k5,_⟩:=h2.keep i o0 hsi
    rcases k5 b hbi with k5|k5| ⟨i',oi',q1,q2,q3⟩
    ·exact hS.inj i j _ _ b (hsub i o0 hsi) hj k5 hbj
    ·omega
    ·have:=hS.inj i' j _ _ b (hsub i' oi' q1) hj q3 hbj
     subst this
     rw[hr.2] at q1;cases q1
   |none=>
    rcases h2.new i o1 hs1 hsi b hbi with q| ⟨i',oi',q1,q2,q3⟩
    ·omega
    ·have:=hS.inj i' j _ _ b (hsub i' oi' q1) hj q3 hbj
     subst this
     rw[hr.2] at q1;cases q1
  cases hs1:app sub wr i with
  |some o1=>
   cases hs2:app sub wr j with
   |some o2=>
    rw[hinh i o1 b hs1] at hbi
    rw[hinh j o2 b hs2] at hbj
    exact h1.inj i j o1 o2 b hs1 hs2 hbi hbj
   |none=>exact mixed i j oi oj hi hj hbi hbj o1 hs1 hs2
  |none=>
   cases hs2:app sub wr j with
   |some o2=>exact(mixed j i oj oi hj hi hbj hbi o2 hs2 hs1).symm
   |none=>
    rw[(hrest i hs1).1] at hi
    rw[(hrest j hs2).1] at hj
    rw[houth i b hs1] at hbi
    rw[houth j b hs2] at hbj
    exact hS.inj i j oi oj b hi hj hbi hbj
 ·cases hs:app sub wr id with
  |some o1=>
   rw[hinh id o1 b hs] at hm
   exact h1.avoid id o1 b hs hm (.inl hf)
  |none=>
   rw[(hrest id hs).1] at ho
   rw[houth id b hs] at hm
   exact hS.avoid id o b ho hm hf
 ·cases hs:app sub wr id with
  |some o1=>
   rw[hinh id o1 b hs] at hm
   exact h1.lt id o1 b hs hm
  |none=>
   rw[(hrest id hs).1] at ho
   rw[houth id b hs] at hm
   exact Nat.lt_of_lt_of_le (hS.lt id o b ho hm) h2.size
def Back(P:Program)(F:Fen P)(S:Store)(m:Place)(w:World)(wr:List (Nat×Ob))(val:AVal)(f:FuncId)(args:Array Value):Prop:=
 Calls P f args w fun e w'=> ∃v m',e= .returned v∧SRel F (app S wr) m' w'∧FrameExt F S m w (app S wr) m' w'∧VRel (app S wr) m' w' (okB F (app S wr) m' w') val v
theorem lookL_eq:∀{l:List Nat} {r:List (Nat×Ob)},lookL st l=some r→r.map (·.1)=l∧∀x∈r,st x.1=some x.2
 | [],r,h=>by simp[lookL] at h;subst h;simp
 |i::l,r,h=>by
  simp only[lookL] at h
  split at h
  ·rename_i o r' h1 h2
   simp only[Option.some.injEq] at h
   subst h
   obtain⟨a,b⟩:=lookL_eq h2
   refine⟨by simp[a],fun x hx=> ?_⟩
   rcases List.mem_cons.1 hx with rfl|hx
   ·exact h1
   ·exact b x hx
  ·cases h
theorem app_val:∀{l:List (Nat×Ob)} {S:Store} {i:Nat},(∀x∈l,st x.1=some x.2)→(S i=st i∨i∈l.map (·.1))→app S l i=st i
 | [],S,i,h,h'=>by
  rcases h' with h'|h'
  ·exact h'
  ·simp at h'
 | (j,o)::l,S,i,h,h'=>by
  simp only[app]
  refine app_val (fun x hx=>h x (List.mem_cons_of_mem _ hx)) ?_
  by_cases e:i=j
  ·subst e;left;simp[upd];exact(h (i,o) (by simp)).symm
  ·rcases h' with h'|h'
   ·left;simp only[upd,beq_ne e,cond_false];exact h'
   ·right;simpa[e] using h'
theorem only_look{l:List Nat}{r:List (Nat×Ob)}(h:lookL st l=some r):only st l=app emp r:=by
 obtain⟨a,b⟩:=lookL_eq h
 funext i
 by_cases hi:hasId l i=true
 ·rw[app_val b (.inr (by rw[a];exact hasId_iff.1 hi))]
  simp[only,hi]
 ·have hi':i∉r.map (·.1):=by rw[a];exact fun h=>hi (hasId_iff.2 h)
  rw[app_not hi']
  simp[only,Bool.not_eq_true _▸hi,emp]
theorem callK_sound{f:FuncId}{vals:List AVal}{nid:Nat}{c:CallOrc}{δ:Dl}(h:callK P f vals st nid c=some δ)(hc:All δ.cnd)(hst:∀id o,st id=some o→S id=some o)(hneed:∀id∈c.need,st id=S id)
 (hS:SRel F S m w) (hfresh:∀id,nid≤id→id<nid+8→S id=none) {us:List Value} (hl:us.length=vals.length)
 (hr:∀(i:Nat) (v:AVal) (u:Value),vals[i]? =some v→us[i]? =some u→VRel S m w (okB F S m w) v u):callable P f=true∧Back P F S m w δ.wr δ.val f us.toArray:=by
 have h3:c.mode=3∨c.mode≠3:=by omega
 have red:∃c':CallOrc,c'.mode≠3∧c'.need=c.need∧∃δ',callK P f vals st nid c'=some δ'∧All δ'.cnd∧δ'.wr=δ.wr∧δ'.val=δ.val:=by
  rcases h3 with h3|h3
  ·refine⟨⟨2,c.need,c.res,c.wr⟩,(fun hh=>by cases hh),rfl,?_⟩
   unfold callK at h
   rw[h3] at h
   simp only at h
   split at h
   ·rename_i l hl
    obtain⟨hcond,h⟩:=bif_some h
    simp only[Option.some.injEq] at h
    subst h
    refine⟨⟨c.res,c.wr,[callable P f=true,FC P f vals (only st c.need) c.res (app (only st c.need) c.wr)]⟩,?_,?_,rfl,rfl⟩
    ·unfold callK
     simp only
     rw[hcond];rfl
    ·rw[only_look hl];exact hc
   ·cases h
  ·exact⟨c,h3,rfl,δ,h,hc,rfl,rfl⟩
 obtain⟨c,hm3,hnd,δ',h,hc,ew,ev⟩:=red
 rw[←ew,←ev]
 replace hneed:∀id∈c.need,st id=S id:=by rw[hnd];exact hneed
 clear hnd ew ev
 unfold callK at h
 split at h
 ·
  split at h
  rotate_left
  ·cases h
  rename_i vs g p hsn
  obtain⟨hcond,h⟩:=bif_some h
  simp only[Bool.and_eq_true] at hcond
  simp only[Option.some.injEq] at h
  subst h
  simp only[All] at hc
  rw[All_append] at hc
  simp only[All] at hc
  obtain⟨hcall,hp,hFC,-⟩:=hc
  refine⟨hcall,?_⟩
  obtain⟨q1,q2,q3⟩:=snaps_sound hst hS hsn hp hl hr
  obtain⟨r1,r2,r3,r4⟩:=freezeAll g S hS q2
  have hids:idsL vs=[]:=by simpa using hcond.2
  have hemp:SRel F emp m w:=⟨fun id o h=>(by cases h),fun i j oi oj b h=>(by cases h),fun id o b h=>(by cases h),fun id o b h=>(by cases h),hS.low,hS.hold⟩
  refine(hFC F m w us hemp q1.symm (fun i v u hv hu=> ?_)).mono ?_
  ·refine(q3 g q2 (fun x hx=>hx) i v u hv hu).restrict (fun b hb=>⟨hb.1,hb.2.1,fun id o h=>by cases h⟩) (fun id hid=> ?_)
   have:id∈idsL vs:=mem_idsL.2 ⟨v,List.mem_of_getElem? hv,hid⟩
   rw[hids] at this;cases this
  ·rintro e w' ⟨v,m',he,h1,h2,h3⟩
   have hall:∀b,b<w.heap.size→w'.heap[b]? =w.heap[b]? :=fun b hb=>h2.block b hb (.inr fun id o h=>by cases h)
   have hF:FrameExt F S m w S m w':=⟨h2.os,h2.tape,h2.output,h2.size,fun b hb _=>hall b hb,fun id o h=>⟨o,h,Nat.le_refl _,fun _=>rfl,fun h=>h,fun _ q=> .inl q,o.same_refl⟩,fun id o h h'=>by rw[h'] at h;cases h⟩
   exact⟨v,m,he,⟨fun id o ho=>(hS.objs id o ho).persist hF (fun b hb=>hall b (hS.lt id o b ho hb)),hS.inj,hS.avoid,fun id o b ho hm=>Nat.lt_of_lt_of_le (hS.lt id o b ho hm) h2.size,fun b hb=>Nat.lt_of_lt_of_le (hS.low b hb) h2.size,hS.held hF⟩,hF,memfree_rel hcond.1 h3⟩
 ·
  split at h
  rotate_left
  ·cases h
  rename_i vs g p hsn
  obtain⟨hcond,h⟩:=bif_some h
  simp only[Bool.and_eq_true] at hcond
  simp only[Option.some.injEq] at h
  subst h
  simp only[All] at hc
  rw[All_append] at hc
  simp only[All] at hc
  obtain⟨hcall,hp,hFC,-⟩:=hc
  refine⟨hcall,?_⟩
  obtain⟨q1,q2,q3⟩:=snaps_sound hst hS hsn hp hl hr
  obtain⟨r1,r2,r3,r4⟩:=freezeAll g S hS q2
  have hids:idsL vs=[]:=by simpa using hcond.2
  have hsub:∀id o,emp id=some o→app S g id=some o:=fun id o h=>by cases h
  have hnew:∀id∈c.wr.map (·.1),S id=none:=by
   intro id hid
   obtain⟨x,hx,rfl⟩:=List.mem_map.1 hid
   have:=List.all_eq_true.1 hcond.1 x hx
   simp only[Bool.and_eq_true] at this
   exact hfresh x.1 (Nat.le_of_ble_eq_true this.1) (Nat.lt_of_succ_le (Nat.le_of_ble_eq_true this.2))
  refine(hFC (offB F (app S g) emp m) m w us (r1.off hsub (fun id o h=>by cases h)) q1.symm (fun i v u hv hu=> ?_)).mono ?_
  ·refine(q3 g q2 (fun x hx=>hx) i v u hv hu).restrict (fun b hb=>ok_off hsub hb) (fun id hid=> ?_)
   have:id∈idsL vs:=mem_idsL.2 ⟨v,List.mem_of_getElem? hv,hid⟩
   rw[hids] at this;cases this
  ·rintro e w' ⟨v,m',he,h1,h2,h3⟩
   obtain⟨m2,k1,k2,k3⟩:=call_back r1 hsub (fun id hid=>by
    have h0:=hnew id hid
    have:id∉g.map (·.1):=fun hm=>by
     obtain⟨x,hx,rfl⟩:=List.mem_map.1 hm
     obtain⟨k,fz,xs,hk,_⟩:=q2 x.1 x.2 hx
     rw[h0] at hk;cases hk
    rw[r4 id this,h0];rfl) h1 h2 h3
   exact⟨v,m2,he,by rw[app_append];exact k1,by rw[app_append];exact r2.trans hS k2,by rw[app_append];exact k3⟩
 ·rename_i hh;exact absurd hh hm3
 ·
  obtain⟨hcond,h⟩:=bif_some h
  simp only[Bool.and_eq_true] at hcond
  simp only[Option.some.injEq] at h
  subst h
  simp only[All] at hc
  obtain⟨hcall,hFC,-⟩:=hc
  refine⟨hcall,?_⟩
  have hsub:∀id o,only st c.need id=some o→S id=some o:=fun id o h=>hst id o (only_some h).1
  have hmem:∀id,hasId c.need id=true→only st c.need id=S id:=fun id h=>by rw[only_mem (hasId_iff.1 h)];exact hneed id (hasId_iff.1 h)
  have hcl:∀id o,only st c.need id=some o→∀i∈idsO o,only st c.need i=S i:=by
   intro id o h i hi
   obtain⟨h1,h2⟩:=only_some h
   have:=List.all_eq_true.1 hcond.2 id h2
   rw[h1] at this
   cases o with
   |box cs=>exact hmem i (List.all_eq_true.1 this i hi)
   |miter mid n s=>simp only[idsO,List.mem_singleton] at hi;subst hi;exact hmem _ this
   |mat fz xs hh=>cases hh<;>first| (simp[idsO] at hi;done)|cases this
   |mp es hh=>cases hh<;>first| (simp[idsO] at hi;done)|cases this
   |pool es hh=>cases hh<;>first| (simp[idsO] at hi;done)|cases this
   |_=>simp[idsO] at hi
  refine(hFC (offB F S (only st c.need) m) m w us (hS.off hsub hcl) hl (fun i v u hv hu=> ?_)).mono ?_
  ·refine(hr i v u hv hu).restrict (fun b hb=>ok_off hsub hb) (fun id hid=> ?_)
   exact hmem id (List.all_eq_true.1 hcond.1.2 id (mem_idsL.2 ⟨v,List.mem_of_getElem? hv,hid⟩))
  ·rintro e w' ⟨v,m',he,h1,h2,h3⟩
   obtain⟨m2,k1,k2,k3⟩:=call_back hS hsub (fun id hid=>by
    obtain⟨x,hx,rfl⟩:=List.mem_map.1 hid
    have:=List.all_eq_true.1 hcond.1.1 x hx
    simp only[Bool.or_eq_true,Bool.and_eq_true] at this
    rcases this with h|h
    ·exact hmem x.1 h
    ·have h0:=hfresh x.1 (Nat.le_of_ble_eq_true h.1) (Nat.lt_of_succ_le (Nat.le_of_ble_eq_true h.2))
     rw[h0]
     cases hh:only st c.need x.1 with
     |none=>rfl
     |some o=>have:=hsub _ _ hh;rw[h0] at this;cases this) h1 h2 h3
   exact⟨v,m2,he,k1,k2,k3⟩
theorem CallV.mono{P:Program}{u:Value}{args:Array Value}{w:World}{R R':Ending→World→Prop}(h:CallV P u args w R)(hr:∀e w',R e w'→R' e w'):CallV P u args w R':=by
 obtain⟨t,cap,nx,h1,h2,h3⟩:=h
 refine⟨t,cap,nx,h1,h2,?_⟩
 cases nx<;>first|exact h3|exact CallsIn.mono h3 hr|exact RoundIn.mono h3 hr
theorem free_tree{w w':World}{ok ok':Nat→Prop}{T:Tree}{u:Value}(hT:T.free=true)(h:TRep w ok T u):TRep w' ok' T u:=by
 have:=memfree_rel (st':=fun _=>none) (m':=⟨fun _=>(none,0),fun _=>[]⟩) (w':=w') (ok':=ok') (S:=fun _=>none) (m:=⟨fun _=>(none,0),fun _=>[]⟩) (v:= .t T) hT (.t T u h)
 cases this with
 |t _ _ h=>exact h
theorem ext_step{id:Nat}{Y:YSpec}{pre pre':List (List Tree)}{w':World}{g':List Nat}(hS:SRel F S m w)(hid:S id=some (.ext Y pre))(hos:w'.os=w.os)(htape:w'.tape=w.tape)(hout:w'.output=w.output)
 (hsz:w.heap.size≤w'.heap.size) (hb:∀b,b<w.heap.size→b∉m.g id→w'.heap[b]? =w.heap[b]?) (hg1:∀b∈g',b∈m.g id∨(w.heap.size≤b∧b<w'.heap.size)) (hh:Y.holds pre' g' w'):
 SRel F (upd S id (.ext Y pre')) ⟨m.f,fun j=>if j=id then g' else m.g j⟩ w'∧FrameExt F S m w (upd S id (.ext Y pre')) ⟨m.f,fun j=>if j=id then g' else m.g j⟩ w':=by
 have hO:=hS.objs id _ hid
 have hsame:∀b,(Place.mk m.f (fun j=>if j=id then g' else m.g j)).has id b↔b∈g':=fun b=>by
  unfold Place.has
  simp only[if_true]
  rw[show(m.f id).1=none from hO.1];simp
 have hne:∀i b,i≠id→((Place.mk m.f (fun j=>if j=id then g' else m.g j)).has i b↔m.has i b):=fun i b e=>by
  unfold Place.has
  simp only[if_neg e]
 have hgid:∀b,b∈m.g id→m.has id b:=fun b h=> .inr h
 have hF:FrameExt F S m w (upd S id (.ext Y pre')) ⟨m.f,fun j=>if j=id then g' else m.g j⟩ w':=by
  refine⟨hos,htape,hout,hsz,fun b hlt hf=>hb b hlt (fun hg=> ?_),fun i o ho=> ?_,fun i o ho hn=> ?_⟩
  ·rcases hf with hf|hf
   ·exact hS.avoid id _ b hid (hgid b hg) hf
   ·exact hf id _ hid rfl (hgid b hg)
  ·by_cases e:i=id
   ·subst e
    rw[hid] at ho;cases ho
    refine⟨_,upd_same _ _ _,Nat.le_refl _,fun _=>rfl,(fun h=>by cases h),fun b q=> ?_,rfl⟩
    rcases hg1 b ((hsame b).1 q) with q|q
    ·exact .inl (hgid b q)
    ·exact .inr (.inl q.1)
   ·exact⟨o,by rw[upd_ne e];exact ho,Nat.le_refl _,fun _=>rfl,fun h=>h,fun b q=> .inl ((hne i b e).1 q),o.same_refl⟩
  ·by_cases e:i=id
   ·subst e;rw[hid] at hn;cases hn
   ·rw[upd_ne e] at ho;rw[ho] at hn;cases hn
 have old:∀i o,i≠id→upd S id (.ext Y pre') i=some o→S i=some o:=fun i o e h=>by rwa [upd_ne e] at h
 refine⟨⟨fun i o ho=> ?_,fun i j oi oj b hi hj h1 h2=> ?_,fun i o b ho hm hf=> ?_,fun i o b ho hm=> ?_,fun b h=>Nat.lt_of_lt_of_le (hS.low b h) hsz,hS.held hF⟩,hF⟩
 ·by_cases e:i=id
  ·subst e
   rw[upd_same] at ho;cases ho
   refine⟨hO.1,?_,fun b hD=>hF.ok (hO.2.2 b hD)⟩
   simp only[if_true];exact hh
  ·have ho:=old i o e ho
   show ORel _ _ _ _ o (m.f i) ((fun j=>if j=id then g' else m.g j) i)
   simp only[if_neg e]
   refine(hS.objs i o ho).persist hF (fun b hbi=>hb b (hS.lt i o b ho hbi) (fun hg=>e (hS.inj i id _ _ b ho hid hbi (hgid b hg))))
 ·by_cases e1:i=id<;>by_cases e2:j=id
  ·rw[e1,e2]
  ·exfalso
   have hj':=old j oj e2 hj
   have h2':=(hne j b e2).1 h2
   rw[e1] at h1
   rcases hg1 b ((hsame b).1 h1) with q|q
   ·exact e2 (hS.inj j id _ _ b hj' hid h2' (hgid b q))
   ·have:=hS.lt j _ b hj' h2';omega
  ·exfalso
   have hi':=old i oi e1 hi
   have h1':=(hne i b e1).1 h1
   rw[e2] at h2
   rcases hg1 b ((hsame b).1 h2) with q|q
   ·exact e1 (hS.inj i id _ _ b hi' hid h1' (hgid b q))
   ·have:=hS.lt i _ b hi' h1';omega
  ·exact hS.inj i j _ _ b (old i oi e1 hi) (old j oj e2 hj) ((hne i b e1).1 h1) ((hne j b e2).1 h2)
 ·by_cases e:i=id
  ·subst e
   rcases hg1 b ((hsame b).1 hm) with q|q
   ·exact hS.avoid i _ b hid (hgid b q) hf
   ·have:=hS.low b hf;omega
  ·exact hS.avoid i o b (old i o e ho) ((hne i b e).1 hm) hf
 ·by_cases e:i=id
  ·subst e
   rcases hg1 b ((hsame b).1 hm) with q|q
   ·have:=hS.lt i _ b hid (hgid b q);omega
   ·exact q.2
  ·have:=hS.lt i o b (old i o e ho) ((hne i b e).1 hm);omega
theorem yieldK_sound{id:Nat}{vals:List AVal}{δ:Dl}(h:yieldK P id vals st=some δ)(hc:All δ.cnd)(hst:∀id o,st id=some o→S id=some o)(hS:SRel F S m w){us:List Value}(hl:us.length=vals.length)
 (hr:∀(i:Nat) (v:AVal) (u:Value),vals[i]? =some v→us[i]? =some u→VRel S m w (okB F S m w) v u) {uf:Value} (hf:VRel S m w (okB F S m w) (.yl id) uf):
 CallV P uf us.toArray w (fun e w'=> ∃v m',e= .returned v∧SRel F (app S δ.wr) m' w'∧FrameExt F S m w (app S δ.wr) m' w'∧VRel (app S δ.wr) m' w' (okB F (app S δ.wr) m' w') δ.val v):=by
 unfold yieldK at h
 split at h
 rotate_left
 ·cases h
 rename_i Y pre xs h1 h2
 obtain⟨hfree,h⟩:=bif_some h
 simp only[Option.some.injEq] at h
 subst h
 have hid:=hst id _ h1
 cases hf with
 |yl _ Y' pre' hs=>
 rw[hid] at hs;cases hs
 obtain⟨hY,hA,-⟩:=hc
 have hO:=hS.objs id _ hid
 have hx:=allT_some h2
 subst hx
 refine(hY pre xs us (m.g id) w hA hO.2.1 (fun b hb=>hS.lt id _ b hid (.inr hb)) (by simpa using hl) (fun i x u hx hu=> ?_)).mono ?_
 ·have:=hr i (.t x) u (by rw[List.getElem?_map,hx];rfl) hu
  cases this with
  |t _ _ hT=>exact free_tree (List.all_eq_true.1 hfree x (List.mem_of_getElem? hx)) hT
 ·rintro e w' ⟨rfl,k1,k2,k3,k4,k5,g',g1,g2,k6⟩
  obtain⟨q1,q2⟩:=ext_step (pre':=pre++[xs]) hS hid k1 k2 k3 k4 k5 g2 k6
  exact⟨_,_,rfl,q1,q2,.t _ _ (.sc _ rfl)⟩
end Go.Ab
end
section
set_option linter.unusedVariables false
namespace Go.Ab
variable {P:Program} {w:World} {F:Fen P} {S st:Store} {m:Place}
theorem flat_replicate(n:Nat)(X:Tree):flat (List.replicate n X)=repl X.cells n:=by
 induction n with
 |zero=>rfl
 |succ n ih=>simp[List.replicate_succ,flat,repl,ih]
theorem move_to(hS:SRel F S m w){id nid:Nat}{o o':Ob}(hid:S id=some o)(hn:S nid=none)(hlv:o.live=true)(hsame:o.same .gone)(hlen:o.len<18446744073709551616)
 (ho':FrameExt F S m w (upd (upd S id .gone) nid o') (place (place m id (none,0)) nid (m id)) w→ORel (upd (upd S id .gone) nid o') (place (place m id (none,0)) nid (m id)) w (okB F (upd (upd S id .gone) nid o') (place (place m id (none,0)) nid (m id)) w) o' (m id) []):
 SRel F (upd (upd S id .gone) nid o') (place (place m id (none,0)) nid (m id)) w∧FrameExt F S m w (upd (upd S id .gone) nid o') (place (place m id (none,0)) nid (m id)) w:=by
 have hne:id≠nid:=fun e=>by subst e;rw[hn] at hid;cases hid
 have hself:∀b,¬(place (place m id (none,0)) nid (m id)).has id b:=fun b hb=>by
  rw[place_has_ne hne,place_has_same] at hb;cases hb
 have hF:FrameExt F S m w (upd (upd S id .gone) nid o') (place (place m id (none,0)) nid (m id)) w:=by
  refine⟨rfl,rfl,rfl,Nat.le_refl _,fun _ _ _=>rfl,fun i oi ho=> ?_,fun i oi ho hnone b hb=> ?_⟩
  ·have hin:i≠nid:=fun e=>by subst e;rw[hn] at ho;cases ho
   by_cases e:i=id
   ·subst e
    rw[hid] at ho;cases ho
    exact⟨.gone,by rw[upd_ne hin,upd_same],Nat.le_of_lt hlen,fun e=>absurd e (Nat.ne_of_lt hlen),fun _=>rfl,fun b hb=>absurd hb (hself b),hsame⟩
   ·exact⟨oi,by rw[upd_ne hin,upd_ne e];exact ho,Nat.le_refl _,fun _=>by rw[place_ne hin,place_ne e],fun h=>h,fun b hb=> .inl (by rwa [place_has_ne hin,place_has_ne e] at hb),oi.same_refl⟩
  ·by_cases e:i=nid
   ·subst e
    rw[place_has_same] at hb
    exact .inr ⟨id,_,hid,hlv,.inl hb⟩
   ·rw[upd_ne e] at ho
    by_cases e2:i=id
    ·subst e2;rw[hid] at hnone;cases hnone
    ·rw[upd_ne e2] at ho;rw[ho] at hnone;cases hnone
 have key:∀i oi b,upd (upd S id .gone) nid o' i=some oi→(place (place m id (none,0)) nid (m id)).has i b→∃i0 o0,S i0=some o0∧m.has i0 b∧((i=nid∧i0=id)∨(i≠nid∧i≠id∧i0=i)):=by
  intro i oi b hi hb
  by_cases e:i=nid
  ·subst e
   rw[place_has_same] at hb
   exact⟨id,_,hid,.inl hb,.inl ⟨rfl,rfl⟩⟩
  ·rw[upd_ne e] at hi
   by_cases e2:i=id
   ·subst e2;exact absurd hb (hself b)
   ·rw[upd_ne e2] at hi
    rw[place_has_ne e,place_has_ne e2] at hb
    exact⟨i,oi,hi,hb,.inr ⟨e,e2,rfl⟩⟩
 refine⟨⟨fun i oi ho=> ?_,fun i i' oi oi' b hi hi' h1 h2=> ?_,fun i oi b ho hb=> ?_,fun i oi b ho hb=> ?_,hS.low,hS.hold⟩,hF⟩
 ·by_cases e:i=nid
  ·subst e
   rw[upd_same] at ho;cases ho
   rw[place_same,place_g_same]
   exact ho' hF
  ·rw[upd_ne e] at ho
   rw[place_ne e,place_g_ne e]
   by_cases e2:i=id
   ·subst e2
    rw[upd_same] at ho;cases ho
    rw[place_same];exact rfl
   ·rw[upd_ne e2] at ho
    rw[place_ne e2,place_g_ne e2]
    exact(hS.objs i oi ho).persist hF (fun b _=>rfl)
 ·obtain⟨i0,o0,q1,q2,q3⟩:=key i oi b hi h1
  obtain⟨i1,o1,r1,r2,r3⟩:=key i' oi' b hi' h2
  have:=hS.inj i0 i1 _ _ b q1 r1 q2 r2
  rcases q3 with⟨rfl,rfl⟩| ⟨q3,q4,rfl⟩<;>rcases r3 with⟨rfl,rfl⟩| ⟨r3,r4,rfl⟩
  ·rfl
  ·exact absurd this.symm r4
  ·exact absurd this q4
  ·exact this
 ·obtain⟨i0,o0,q1,q2,_⟩:=key i oi b ho hb
  exact hS.avoid i0 _ b q1 q2
 ·obtain⟨i0,o0,q1,q2,_⟩:=key i oi b ho hb
  exact hS.lt i0 _ b q1 q2
theorem shrink_obj(hS:SRel F S m w){id nid k j:Nat}{xs:List Tree}(hid:S id=some (.row k false xs))(hn:S nid=none)(hj:j≤xs.length):
 SRel F (upd (upd S id .gone) nid (.row k false (xs.take j))) (place (place m id (none,0)) nid (m id)) w∧FrameExt F S m w (upd (upd S id .gone) nid (.row k false (xs.take j))) (place (place m id (none,0)) nid (m id)) w:=by
 obtain⟨a1,a2,a3,a4,a5⟩:=hS.objs id _ hid
 refine move_to hS hid hn rfl trivial (by simp only[Ob.len];simp only[maxLen] at a4;omega) (fun hF=> ?_)
 refine⟨a1,fun x hx=>a2 x (List.mem_of_mem_take hx),by rw[List.length_take];omega,a4,a5.imp (fun h=>h) ?_⟩
 rintro⟨b,us,e,h1,h2,h3,h4,h5⟩
 refine⟨b,us,e,h1,h2,h3,h4,fun q T u p r=> ?_⟩
 rw[flat_take a2,List.getElem?_take] at p
 split at p
 ·exact hF.tree (h5 q T u p r)
 ·cases p
theorem sliceX_sound{t:TypeId}{x:AVal}{lo hi mx:Option AVal}{nid:Nat}{δ:Dl}(h:sliceX P t x lo hi mx st nid=some δ)(hc:All δ.cnd)(hst:∀id o,st id=some o→S id=some o)(hS:SRel F S m w)(hnid:S nid=none)
 {ux:Value} {ulo uhi:Option Value} (hx:VRel S m w (okB F S m w) x ux) (hln:lo=none→ulo=none) (hls:∀v,lo=some v→∃u,ulo=some u∧VRel S m w (okB F S m w) v u)
 (hhn:hi=none→uhi=none) (hhs:∀v,hi=some v→∃u,uhi=some u∧VRel S m w (okB F S m w) v u):
 mx=none∧Done F S m w δ.wr δ.val ((Instr.sliceAt t ux ulo uhi none).run P w):=by
 unfold sliceX at h
 split at h
 ·rename_i l h1 h2
  refine⟨rfl,?_⟩
  obtain⟨ql,rfl,e1⟩:=obnd_some h1 hln hls
  obtain⟨qh,rfl,e2⟩:=obnd_some h2 hhn hhs
  split at h
  rotate_left
  ·cases h
  rename_i e id n hu
  split at h
  rotate_left
  ·cases h
  rename_i k fz xs hs
  obtain⟨hz,h⟩:=bif_some h
  have hz:=szIs_eq hz
  have:=pure1_some h;subst this
  simp only[All] at hc
  obtain⟨hn,c1,c2,-⟩:=hc
  have hs2:=hst id _ hs
  cases hx with
  |rowG _ _ L hs'=>rw[hs2] at hs';cases hs'
  |row _ _ k' fz' xs' L hs' hn' hu'=>
   rw[hs2] at hs';cases hs'
   have hL:=hu' hn
   obtain⟨a1,a2,a3,a4,a5⟩:=hS.objs id _ hs2
   rw[hL] at a3 a5
   refine Done.same hS ⟨tailVal L k n l.toNat,?_,.tail id n l.toNat k fz xs L hs2 hn' (by omega) hu'⟩
   obtain⟨⟨k1,l1⟩,rfl,rfl⟩:∃p:IntKind×Int,ql=some p∧p.2=l:=by
    cases ql with
    |none=>cases e1
    |some p=>exact⟨p,rfl,by simpa using e1.symm⟩
   obtain rfl:qh=none:=by cases qh with|none=>rfl|some p=>cases e2
   have hb:=bounds_run (P:=P) (w:=w) true n L.2 (by omega) (some (k1,l1)) none l1 (n:Int) rfl rfl c1 c2 (by omega)
   have hb':(Instr.sliceBounds true n L.2 (some (.int k1 l1)) none none).run P w= .ok (l1.toNat,n,L.2) w:=by simpa using hb
   rw[sliceAt_slice hu]
   obtain⟨L1,L2⟩:=L
   cases L1 with
   |none=>simp[Instr.slice,run_underlying hu,hb',run_sizeOf' hz,rowVal,tailVal]
   |some b=>
    simp[Instr.slice,run_underlying hu,hb',run_sizeOf' hz,rowVal,tailVal,add_lit']
 ·rename_i l h1 h2
  refine⟨rfl,?_⟩
  obtain⟨ql,rfl,e1⟩:=obnd_some h1 hln hls
  obtain⟨qh,rfl,e2⟩:=obnd_some h2 hhn hhs
  split at h
  rotate_left
  ·cases h
  rename_i e id n hu
  split at h
  rotate_left
  ·cases h
  rename_i k xs hs
  obtain⟨hz,h⟩:=bif_some h
  have hz:=szIs_eq hz
  simp only[Option.some.injEq] at h
  subst h
  simp only[All] at hc
  obtain⟨hn,c1,c2,-⟩:=hc
  have hs2:=hst id _ hs
  have hne:id≠nid:=fun e=>by subst e;rw[hnid] at hs2;cases hs2
  cases hx with
  |rowG _ _ L hs'=>rw[hs2] at hs';cases hs'
  |row _ _ k' fz' xs' L hs' hn' hu'=>
   rw[hs2] at hs';cases hs'
   have hL:=hu' hn
   obtain⟨a1,a2,a3,a4,a5⟩:=hS.objs id _ hs2
   rw[hL] at a3 a5
   obtain⟨r1,r2⟩:=shrink_obj hS hs2 hnid (show l.toNat≤xs.length by omega)
   obtain rfl:ql=none:=by cases ql with|none=>rfl|some p=>cases e1
   obtain⟨⟨k1,l1⟩,rfl,rfl⟩:∃p:IntKind×Int,qh=some p∧p.2=l:=by
    cases qh with
    |none=>cases e2
    |some p=>exact⟨p,rfl,by simpa using e2.symm⟩
   have hb:=bounds_run (P:=P) (w:=w) true n L.2 (by omega) none (some (k1,l1)) 0 l1 rfl rfl (by omega) c1 (by omega)
   have hb':(Instr.sliceBounds true n L.2 none (some (.int k1 l1)) none).run P w= .ok (0,l1.toNat,L.2) w:=by simpa using hb
   refine⟨rowVal L l1.toNat,w,_,?_,r1,r2,?_⟩
   ·rw[sliceAt_slice hu]
    obtain⟨L1,L2⟩:=L
    cases L1 with
    |none=>simp[Instr.slice,run_underlying hu,hb',run_sizeOf' hz,rowVal]
    |some b=>
     simp[Instr.slice,run_underlying hu,hb',run_sizeOf' hz,rowVal,Addr.add]
   ·refine .row nid l1.toNat k false (xs.take l1.toNat) L (upd_same _ _ _) (by simp;omega) (fun _=> ?_)
    rw[place_same];exact hL
 ·cases h
theorem clearK_sound{t ty:TypeId}{x:AVal}{δ:Dl}(h:clearK P t x st=some δ)(hc:All δ.cnd)(hst:∀id o,st id=some o→S id=some o)(hS:SRel F S m w)
 {ux:Value} (hx:VRel S m w (okB F S m w) x ux):Done F S m w δ.wr δ.val ((Builtin.clear_ #[t] ty #[ux]).run P w):=by
 unfold clearK at h
 simp only[Option.bind_eq_some_iff] at h
 obtain⟨e,he,k,hk,ag,hag,z,hz,X,hX,h⟩:=h
 split at h
 rotate_left
 ·cases h
 rename_i id n i
 split at h
 rotate_left
 ·cases h
 rename_i k' xs hs
 obtain⟨hcond,h'⟩:=bif_some h
 clear h
 simp only[Bool.and_eq_true] at hcond
 have e1:=Nat.eq_of_beq_eq_true hcond.1
 have hzl:=Nat.eq_of_beq_eq_true hcond.2
 simp only[Option.some.injEq] at h'
 subst h'
 subst e1
 simp only[All] at hc
 obtain⟨hn,hin,-⟩:=hc
 have hu:=telem_some he
 obtain⟨zv,hzv,zs,hzs,rfl,hz1⟩:=tzeros_some hz
 have hzl:zs.length=k:=by simpa using hzl
 have hXc:=mkT_some hX (fun T hT=>by
  obtain⟨v,_,rfl⟩:=List.mem_map.1 hT
  rfl)
 have hs2:=hst id _ hs
 have hXE:Elt k X:=⟨by rw[hXc];simp[hzl],fun T hT=>by rw[hXc] at hT;obtain⟨v,_,rfl⟩:=List.mem_map.1 hT;rfl⟩
 cases hx with
 |tailG _ _ _ _ L hs'=>rw[hs2] at hs';cases hs'
 |tail _ _ _ k' fz' xs' L hs' hn' hi' hu'=>
  rw[hs2] at hs';cases hs'
  have hL:=hu' hn
  obtain⟨a1,a2,a3,a4,a5⟩:=hS.objs id _ hs2
  rw[hL] at a3 a4 a5
  have hlen:(xs.take i++List.replicate (n-i) X).length=xs.length:=by simp;omega
  have hE':∀x∈xs.take i++List.replicate (n-i) X,Elt k x:=fun x hx=>by
   rcases List.mem_append.1 hx with hx|hx
   ·exact a2 x (List.mem_of_mem_take hx)
   ·rw[(List.mem_replicate.1 hx).2];exact hXE
  by_cases h0:n-i=0
  ·have e:xs.take i++List.replicate (n-i) X=xs:=by rw[h0,List.replicate_zero,List.append_nil,List.take_of_length_le (by omega)]
   have e2:app S [(id,.row k false (xs.take i++List.replicate (n-i) X))]=S:=by
    rw[e]
    funext j
    show upd S id _ j=S j
    by_cases hj:j=id
    ·subst hj;rw[upd_same,hs2]
    ·rw[upd_ne hj]
   refine⟨.tuple #[],w,m,?_,by rw[e2];exact hS,by rw[e2];exact FrameExt.refl F S m w,.tup [] [] rfl (fun i v u hv=>by simp at hv)⟩
   unfold tailVal
   rw[h0]
   cases hc1:(if L.2=i then L.1.map fun b=>(⟨b,0,none⟩:Addr) else L.1.map fun b=>⟨b,i*k,none⟩) with
   |none=>simp[Builtin.clear_,run_underlying hu]
   |some q=>simp[Builtin.clear_,run_underlying hu]
  ·rcases a5 with⟨a5,a6⟩| ⟨b,us,e',h1,h2,h3,h4,h5⟩
   ·omega
   have hcap:L.2≠i:=by omega
   have hrl:(repl zs (n-i)).length=(n-i)*k:=by rw[repl_len,hzl]
   have hmul:i*k+(n-i)*k=n*k:=by rw[←Nat.add_mul];congr 1;omega
   have hbig:n*k≤us.size:=by rw[h3];exact Nat.mul_le_mul_right k (by omega)
   have hus1:∀u∈repl zs (n-i),u.oneCell'=true:=fun u hu=>hz1 u (repl_mem hu)
   have hst':=run_storeCells_at P b (i*k) e' (repl zs (n-i)) 0 us w h2 (by rw[hrl];omega) hus1
   simp only[Nat.add_zero] at hst'
   have hzc:(Builtin.zeroCells zv.cells (n-i)).toList=repl zs (n-i):=by
    unfold Builtin.zeroCells
    rw[repl_range,hzs]
   have hrun:(Builtin.clear_ #[t] ty #[tailVal L k n i]).run P w= .ok (.tuple #[]) (w.setRow b (us.toList.take (i*k)++repl zs (n-i)++us.toList.drop (i*k+(repl zs (n-i)).length)).toArray):=by
    unfold tailVal
    rw[if_neg hcap,h1]
    obtain⟨q,hq⟩:∃q,n-i=q+1:=⟨n-i- 1,by omega⟩
    rw[hq] at hst' hzc⊢
    simp only[Option.map_some]
    simp[Builtin.clear_,run_underlying hu,run_zeroValue' hzv,hzc,hst']
   have hfl:flat (xs.take i++List.replicate (n-i) X)=(flat xs).take (i*k)++repl (zs.map .sc) (n-i):=by
    rw[flat_append,flat_take a2,flat_replicate,hXc]
   have hfll:=flat_len a2
   have key:=rewrite_obj (o':= .row k false (xs.take i++List.replicate (n-i) X)) hS hs2 rfl (by rw[hL];exact h1) (w':=w.setRow b (us.toList.take (i*k)++repl zs (n-i)++us.toList.drop (i*k+(repl zs (n-i)).length)).toArray)
    rfl rfl rfl (by simp) (fun c hc=>setRow_get w b c _ hc) (by simp only[Ob.len];omega) (by simp[Ob.same]) (fun hF=>by
     rw[hL]
     refine⟨a1,hE',by rw[hlen];exact a3,a4,.inr ⟨b,_,e',h1,setRow_heap w b us _ e' _ h2,?_,fun j u hu=> ?_,fun j T u hT hu=> ?_⟩⟩
     ·simp only[List.size_toArray,List.length_append,List.length_take,List.length_drop,hrl,Array.length_toList];omega
     ·have hu:(us.toList.take (i*k)++repl zs (n-i)++us.toList.drop (i*k+(repl zs (n-i)).length))[j]? =some u:=by simpa using hu
      rcases List.mem_append.1 (List.mem_of_getElem? hu) with hu|hu
      ·rcases List.mem_append.1 hu with hu|hu
       ·obtain⟨q,hq⟩:=List.getElem?_of_mem (List.mem_of_mem_take hu)
        exact h4 q u (by simpa using hq)
       ·exact hus1 u hu
      ·obtain⟨q,hq⟩:=List.getElem?_of_mem (List.mem_of_mem_drop hu)
       exact h4 q u (by simpa using hq)
     ·have hu:(us.toList.take (i*k)++repl zs (n-i)++us.toList.drop (i*k+(repl zs (n-i)).length))[j]? =some u:=by simpa using hu
      rw[hfl] at hT
      have hxl:i*k≤(flat xs).length:=by rw[hfll];exact Nat.mul_le_mul_right k (by omega)
      have hul:i*k≤us.toList.length:=by simp;omega
      rw[List.append_assoc] at hu
      by_cases hj:j<i*k
      ·rw[List.getElem?_append_left (by rw[List.length_take];omega),List.getElem?_take,if_pos hj] at hT hu
       exact hF.tree (h5 j T u hT (by simpa using hu))
      ·rw[List.getElem?_append_right (by rw[List.length_take];omega),List.length_take,Nat.min_eq_left hxl] at hT
       rw[List.getElem?_append_right (by rw[List.length_take];omega),List.length_take,Nat.min_eq_left hul] at hu
       rw[repl_map,List.getElem?_map,Option.map_eq_some_iff] at hT
       obtain⟨v,hv,rfl⟩:=hT
       have hlt:=(List.getElem?_eq_some_iff.1 hv).1
       rw[List.getElem?_append_left hlt,hv] at hu
       cases hu
       exact .sc u (hus1 u (List.mem_of_getElem? hv)))
   exact⟨.tuple #[],_,m,hrun,key.1,key.2,.tup [] [] rfl (fun i v u hv=>by simp at hv)⟩
theorem rangeK_sound{t:TypeId}{x:AVal}{nid:Nat}{δ:Dl}(h:rangeK P t x nid=some δ)(hS:SRel F S m w)(hid:S nid=none){ux:Value}(hx:VRel S m w (okB F S m w) x ux):
 Done F S m w δ.wr δ.val ((Instr.range t ux).run P w):=by
 unfold rangeK at h
 split at h
 rotate_left
 ·cases h
 rename_i s hu
 simp only[Option.some.injEq] at h
 subst h
 have:=VRel.sc_inv hx;subst this
 have hF:=ext_new (F:=F) (S:=S) (m:=m) (w:=w) (w':=w.alloc (.stringIter s 0)) (o:= .siter s 0) (L:=(some w.heap.size,0)) hid rfl rfl rfl (by simp) (fun b hb=>alloc_old w _ b hb) (fun b hb=>by simp at hb;omega)
 have h1:=hS.new hid hF (fun b hb=>alloc_old w _ b hb) (fun b hb=>by simp at hb;omega) ⟨w.heap.size,rfl,alloc_new w _⟩
 refine⟨.pointer (some ⟨w.heap.size,0,none⟩),w.alloc (.stringIter s 0),place m nid (some w.heap.size,0),?_,h1,hF,.hdl nid _ w.heap.size _ (upd_same _ _ _) (by rw[place_same]) rfl⟩
 simp[Instr.range,run_underlying hu]
theorem nextK_sound{it:AVal}{isStr:Bool}{c:Orc}{δ:Dl}(h:nextK it isStr st c=some δ)(hc:All δ.cnd)(hst:∀id o,st id=some o→S id=some o)(hS:SRel F S m w)
 {ui:Value} (hi:VRel S m w (okB F S m w) it ui) (ty:TypeId):Done F S m w δ.wr δ.val ((Instr.next ui isStr ty).run P w):=by
 unfold nextK at h
 split at h
 rotate_left
 ·cases h
 rename_i id
 split at h
 rotate_left
 ·cases h
 rename_i s p hs
 obtain⟨hstr,h'⟩:=bif_some h
 clear h
 have h:=h'
 clear h'
 subst hstr
 have hs2:=hst id _ hs
 cases hi with
 |hdl _ o b u ho hm hu=>
  rw[hs2] at ho;cases ho
  simp only[hdlVal,Option.some.injEq] at hu
  subst hu
  obtain⟨b',q1,q2⟩:=hS.objs id _ hs2
  rw[hm] at q1;cases q1
  cases hfx:c.fx.isEmpty with
  |true=>
   rw[hfx,cond_true] at h
   simp only[Option.some.injEq] at h
   subst h
   simp only[All] at hc
   obtain⟨hp,-⟩:=hc
   have key:=rewrite_obj (o':= .siter s (p+(Utf8.decode s p).2)) hS hs2 rfl hm (w':=w.putObj b (.stringIter s (p+(Utf8.decode s p).2))) rfl rfl rfl (by simp) (fun c hc=>World.putObj_heap_other hc) (Nat.le_refl _) trivial
    (fun hF=>⟨b,hm,World.putObj_heap_same (Array.getElem?_eq_some_iff.1 q2).1⟩)
   refine⟨.tuple #[.bool true,.int .i64 (p:Int),.int .i32 ((Utf8.decode s p).1:Int)],_,m,?_,key.1,key.2,.tup _ [.bool true,.int .i64 (p:Int),.int .i32 ((Utf8.decode s p).1:Int)] rfl (fun i v u hv hu=> ?_)⟩
   ·simp[Instr.next,getObj,Sem.run_bind,Sem.run,q2,hp,setObj,World.putObj,goInt,Result.andThen]
   ·match i with
    |0=>cases hv;cases hu;exact .t _ _ (.sc _ rfl)
    |1=>cases hv;cases hu;exact .t _ _ (.sc _ rfl)
    |2=>cases hv;cases hu;exact .t _ _ (.sc _ rfl)
    |i+3=>cases hv
  |false=>
   rw[hfx,cond_false] at h
   simp only[Option.some.injEq] at h
   subst h
   simp only[All] at hc
   obtain⟨hp,-⟩:=hc
   refine⟨.tuple #[.bool false],w,m,?_,hS,FrameExt.refl F S m w,.tup _ [.bool false] rfl (fun i v u hv hu=> ?_)⟩
   ·have hp':¬p<s.size:=by omega
    simp[Instr.next,getObj,Sem.run_bind,Sem.run,q2,hp',Result.andThen]
   ·match i with
    |0=>cases hv;cases hu;exact .t _ _ (.sc _ rfl)
    |i+1=>cases hv
end Go.Ab
end
