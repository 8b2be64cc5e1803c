/- The abstract values of the framework: immutable trees, owned rows and boxes, and how they stand to the concrete world. -/
import Derived.Calls
import Derived.Orders
import Derived.Tactics
import Derived.Below
import Derived.Shelf.Unicode.DecodeAny
import Derived.Lib.ItoaNum
import Derived.CallsIn
import Derived.Laws.Cells
import Derived.Laws.AppendOwn
import Derived.Laws.Tables
import Derived.ChangeKeysEq
import Derived.Lib.SliceRun
import Derived.Laws.StructEq
import Derived.Laws.IdiomStrings
import Derived.Lib.ByteType
import Derived.IntWalk
import Derived.Laws.Append
import Derived.RangeFuncRecord
set_option linter.unusedVariables false
set_option linter.unusedSimpArgs false
namespace Go.Ab
theorem qa.{u}:type_of% @List.getElem?_eq_getElem.{u}:=@List.getElem?_eq_getElem.{u}
theorem qb.{u}:type_of% @Option.some.injEq.{u}:=@Option.some.injEq.{u}
theorem qc:type_of% @Classical.byContradiction:=@Classical.byContradiction
theorem qd.{u}:type_of% @List.getD_eq_getElem?_getD.{u}:=@List.getD_eq_getElem?_getD.{u}
theorem qe.{u,v}:type_of% @Option.map_eq_some_iff.{u,v}:=@Option.map_eq_some_iff.{u,v}
theorem qf.{u}:type_of% @List.length_append.{u}:=@List.length_append.{u}
theorem qg.{u}:type_of% @List.mem_cons.{u}:=@List.mem_cons.{u}
theorem qi.{u}:type_of% @List.length_cons.{u}:=@List.length_cons.{u}
theorem qj.{u,v}:type_of% @List.length_map.{u,v}:=@List.length_map.{u,v}
theorem qk.{u}:type_of% @List.take_of_length_le.{u}:=@List.take_of_length_le.{u}
theorem qm.{u}:type_of% @List.cons_append.{u}:=@List.cons_append.{u}
theorem qn.{u}:type_of% @List.mem_append.{u}:=@List.mem_append.{u}
theorem qp:type_of% @Nat.le_refl:=@Nat.le_refl
theorem qq:type_of% @Bool.and_eq_true:=@Bool.and_eq_true
theorem qr.{u}:type_of% @List.mem_of_getElem?.{u}:=@List.mem_of_getElem?.{u}
theorem qt.{u}:type_of% @List.take_succ_eq_append_getElem.{u}:=@List.take_succ_eq_append_getElem.{u}
theorem qv.{u}:type_of% @List.mem_singleton.{u}:=@List.mem_singleton.{u}
theorem qw.{u,v}:type_of% @Option.bind_eq_some_iff.{u,v}:=@Option.bind_eq_some_iff.{u,v}
theorem qx.{u}:type_of% @List.getElem?_append_left.{u}:=@List.getElem?_append_left.{u}
theorem qy:type_of% @Nat.le_of_ble_eq_true:=@Nat.le_of_ble_eq_true
theorem qz.{u}:type_of% @List.length_take.{u}:=@List.length_take.{u}
theorem qA.{u}:type_of% @List.getElem?_eq_some_iff.{u}:=@List.getElem?_eq_some_iff.{u}
theorem qB.{u}:type_of% @List.getElem?_take.{u}:=@List.getElem?_take.{u}
theorem qC:type_of% @Nat.le_trans:=@Nat.le_trans
theorem qD.{u,v}:type_of% @Prod.mk.injEq.{u,v}:=@Prod.mk.injEq.{u,v}
theorem qE.{u}:type_of% @List.mem_of_mem_drop.{u}:=@List.mem_of_mem_drop.{u}
theorem qF.{u}:type_of% @List.mem_of_mem_take.{u}:=@List.mem_of_mem_take.{u}
theorem qG:type_of% @Nat.zero_le:=@Nat.zero_le
theorem qH.{u}:type_of% @List.replicate_succ.{u}:=@List.replicate_succ.{u}
theorem qI.{u}:type_of% @List.append_assoc.{u}:=@List.append_assoc.{u}
theorem qJ:type_of% @Nat.eq_of_beq_eq_true:=@Nat.eq_of_beq_eq_true
theorem qK.{u}:type_of% @List.getElem?_append_right.{u}:=@List.getElem?_append_right.{u}
theorem qL.{u}:type_of% @List.append_nil.{u}:=@List.append_nil.{u}
theorem qM:type_of% @Bool.or_eq_true:=@Bool.or_eq_true
theorem qN.{u}:type_of% @List.drop_eq_nil_of_le.{u}:=@List.drop_eq_nil_of_le.{u}
theorem qO.{u,v}:type_of% @List.mem_map.{u,v}:=@List.mem_map.{u,v}
theorem qP.{u}:type_of% @List.eq_nil_of_length_eq_zero.{u}:=@List.eq_nil_of_length_eq_zero.{u}
theorem qQ.{u}:type_of% @List.getElem?_drop.{u}:=@List.getElem?_drop.{u}
theorem qR.{u}:type_of% @List.mem_cons_of_mem.{u}:=@List.mem_cons_of_mem.{u}
theorem qS.{u}:type_of% @List.all_eq_true.{u}:=@List.all_eq_true.{u}
theorem qT.{u}:type_of% @List.length_drop.{u}:=@List.length_drop.{u}
theorem qU.{u,v}:type_of% @List.map_cons.{u,v}:=@List.map_cons.{u,v}
theorem qV.{u}:type_of% @List.pairwise_cons.{u}:=@List.pairwise_cons.{u}
theorem qW:type_of% @Bool.false_eq_true:=@Bool.false_eq_true
theorem qX.{u}:type_of% @List.not_mem_nil.{u}:=@List.not_mem_nil.{u}
theorem qY.{u}:type_of% @Array.getElem?_eq_some_iff.{u}:=@Array.getElem?_eq_some_iff.{u}
theorem qZ.{u}:type_of% @List.length_eq_zero_iff.{u}:=@List.length_eq_zero_iff.{u}
theorem q9.{u}:type_of% @List.mem_iff_getElem.{u}:=@List.mem_iff_getElem.{u}
theorem za.{u}:type_of% @List.getD_cons_zero.{u}:=@List.getD_cons_zero.{u}
theorem zd.{u}:type_of% @List.length_replicate.{u}:=@List.length_replicate.{u}
theorem ze:type_of% @Nat.lt_of_succ_le:=@Nat.lt_of_succ_le
theorem zf:type_of% @Bool.not_eq_true':=@Bool.not_eq_true'
theorem zg.{u}:type_of% @List.length_nil.{u}:=@List.length_nil.{u}
theorem zh.{u}:type_of% @List.drop_eq_getElem_cons.{u}:=@List.drop_eq_getElem_cons.{u}
theorem zi:type_of% @Nat.mul_le_mul_right:=@Nat.mul_le_mul_right
theorem zj.{u,v}:type_of% @List.getElem?_map.{u,v}:=@List.getElem?_map.{u,v}
theorem zl.{u}:type_of% @List.mem_or_eq_of_mem_set.{u}:=@List.mem_or_eq_of_mem_set.{u}
theorem zm:type_of% @Int.le_refl:=@Int.le_refl
theorem zn.{u}:type_of% @Option.isSome_iff_exists.{u}:=@Option.isSome_iff_exists.{u}
theorem zo.{u,v}:type_of% @List.map_append.{u,v}:=@List.map_append.{u,v}
theorem zp:type_of% @Bool.eq_iff_iff:=@Bool.eq_iff_iff
theorem zq:type_of% @Nat.add_mul:=@Nat.add_mul
theorem zt.{u}:type_of% @List.length_set.{u}:=@List.length_set.{u}
theorem zu:type_of% @Nat.lt_of_lt_of_le:=@Nat.lt_of_lt_of_le
theorem zw:type_of% @Nat.zero_add:=@Nat.zero_add
theorem zz.{u}:type_of% @List.getElem?_set.{u}:=@List.getElem?_set.{u}
theorem zA.{u}:type_of% @List.getElem?_of_mem.{u}:=@List.getElem?_of_mem.{u}
theorem zB.{u}:type_of% @List.getElem_mem.{u}:=@List.getElem_mem.{u}
theorem zC.{u}:type_of% @List.getElem?_cons_zero.{u}:=@List.getElem?_cons_zero.{u}
theorem zD.{u}:type_of% @Array.getElem?_eq_getElem.{u}:=@Array.getElem?_eq_getElem.{u}
theorem zE.{u,v}:type_of% @List.mem_filterMap.{u,v}:=@List.mem_filterMap.{u,v}
theorem zF.{u,v}:type_of% @List.map_nil.{u,v}:=@List.map_nil.{u,v}
theorem zG.{u}:type_of% @Option.getD_some.{u}:=@Option.getD_some.{u}
theorem zH.{u}:type_of% @List.filter_append.{u}:=@List.filter_append.{u}
theorem zI.{u}:type_of% @List.pairwise_iff_getElem.{u}:=@List.pairwise_iff_getElem.{u}
theorem zJ.{u}:type_of% @List.drop_append_of_le_length.{u}:=@List.drop_append_of_le_length.{u}
theorem zK:type_of% @Bool.not_eq_true:=@Bool.not_eq_true
theorem zL:type_of% @Int.toNat_of_nonneg:=@Int.toNat_of_nonneg
theorem zM:type_of% @Nat.ble_eq_true_of_le:=@Nat.ble_eq_true_of_le
theorem zN.{u}:type_of% @List.size_toArray.{u}:=@List.size_toArray.{u}
theorem zO.{u}:type_of% @List.length_filter_le.{u}:=@List.length_filter_le.{u}
theorem zP.{u}:type_of% @List.getElem?_eq_none.{u}:=@List.getElem?_eq_none.{u}
theorem zQ.{u}:type_of% @List.mem_cons_self.{u}:=@List.mem_cons_self.{u}
theorem zR.{u}:type_of% @List.any_cons.{u}:=@List.any_cons.{u}
theorem zS:type_of% @Bool.or_false:=@Bool.or_false
theorem zT:type_of% @Bool.not_eq_false':=@Bool.not_eq_false'
theorem zU.{u}:type_of% @List.getLast?_concat.{u}:=@List.getLast?_concat.{u}
theorem zV:type_of% @Bool.or_eq_false_iff:=@Bool.or_eq_false_iff
theorem zW.{u}:type_of% @List.take_append_drop.{u}:=@List.take_append_drop.{u}
theorem zX.{u}:type_of% @List.mem_filter.{u}:=@List.mem_filter.{u}
theorem zY.{u}:type_of% @List.mem_replicate.{u}:=@List.mem_replicate.{u}
theorem zZ.{u}:type_of% @List.eq_of_mem_replicate.{u}:=@List.eq_of_mem_replicate.{u}
theorem z7:type_of% @Nat.le_add_right:=@Nat.le_add_right
theorem z8.{u}:type_of% @List.any_nil.{u}:=@List.any_nil.{u}
theorem ja:type_of% @List.range_succ:=@List.range_succ
theorem jb.{u}:type_of% @List.length_pos_iff.{u}:=@List.length_pos_iff.{u}
theorem jc.{u}:type_of% @List.getElem_of_mem.{u}:=@List.getElem_of_mem.{u}
theorem jd.{u,v}:type_of% @Option.map_some.{u,v}:=@Option.map_some.{u,v}
theorem je.{u,v}:type_of% @List.length_filterMap_le.{u,v}:=@List.length_filterMap_le.{u,v}
theorem jf.{u}:type_of% @List.cons.injEq.{u}:=@List.cons.injEq.{u}
theorem jg.{u}:type_of% @List.getElem!_eq_getElem?_getD.{u}:=@List.getElem!_eq_getElem?_getD.{u}
theorem ji:type_of% @Bool.false_or:=@Bool.false_or
theorem jj.{u}:type_of% @List.take_append_of_le_length.{u}:=@List.take_append_of_le_length.{u}
end Go.Ab
section
namespace Go.Ab
theorem oM {p : Prop} (h : p := by omega) : p := h
theorem aM {p : Prop} (h : p := by assumption) : p := h
theorem dM {p : Prop} (h : p := by decide) : p := h
theorem sM {p : Prop} (h : p := by simp) : p := h
theorem iF {p : Prop} (h : p := by ((repeat' split) <;> first | rfl | omega | (simp_all; done) | (simp_all; omega))) : p := h
theorem tO {p : Prop} (h : p := by ((try dsimp only); omega)) : p := h
inductive Tree where
 |sc (v:Value)
 |agg (cs:List Tree)
 |bX (k:Nat) (xs:List Tree)
instance:Inhabited Tree:=⟨.sc (.bool false)⟩
def Tree.cells:Tree->List Tree
 | .agg cs=>cs
 | .sc v=>[.sc v]
 | .bX k xs=>[.bX k xs]
def Tree.bZ:Tree->Bool
 | .agg _=>false
 |_=>true
def dL:List Tree->List Tree
 | []=>[]
 |x::xs=>x.cells++dL xs
def jo(k:Nat)(x:Tree):Prop:=x.cells.length=k/\∀T∈x.cells,T.bZ=true
def JL:List (String×(Array Value->Prop)):=
 [("internal/strconv.uint64pow10",fun cs=>cs=(Lib.pow10Tab.map fun z=>Value.int .u64 z).toArray),("strconv.ErrSyntax",fun cs=> ∃tp p,cs=#[.iface tp p]),("strconv.ErrRange",fun cs=> ∃tp p,cs=#[.iface tp p])]
structure Gw(P:Program)(kR:Nat->Obj->Prop):Prop where
 Tb:∀a b,P.globalNamed "unicode/utf8.first" =some a->P.globalNamed "unicode/utf8.acceptRanges" =some b->
  ∃x y,kR a x/\kR b y/\∀w:World,w.heap[a]? =some x->w.heap[b]? =some y->Lib.Utf8Tabs a b w
 var:∀p∈JL,∀a,P.globalNamed p.1=some a->∃cs e z,kR a (.cells cs e z)/\p.2 cs
inductive cr (w:World) (ok:Nat->Prop):Tree->Value->Prop
 |sc (v:Value) (h:v.oneCell'=true):cr w ok (.sc v) v
 |agg (cs:List Tree) (us:List Value) (hl:us.length=cs.length) (hc:∀T∈cs,T.bZ=true)
  (h:∀(i:Nat) (T:Tree) (u:Value),cs[i]? =some T->us[i]? =some u->cr w ok T u):cr w ok (.agg cs) (.agg us.toArray)
 |bX (k:Nat) (xs:List Tree) (A:Option Addr) (c:Nat) (us:List Value) (hk:0<k) (hx:∀x∈xs,jo k x) (hn:xs.length<=c) (hm:c<=maxLen)
  (hA:xs≠[]->∃b o,A=some ⟨b,o,none⟩/\ok b/\∀(j:Nat) (u:Value),us[j]? =some u->w.cell? ⟨b,o+j,none⟩=some u)
  (hl:us.length=xs.length*k)
  (h:∀(j:Nat) (T:Tree) (u:Value),(dL xs)[j]? =some T->us[j]? =some u->cr w ok T u):cr w ok (.bX k xs) (.slice A xs.length c)
theorem cr.mono{w w':World}{ok ok':Nat->Prop}(dF:∀b,ok b->ok' b)(hc:∀b o u,ok b->w.cell? ⟨b,o,none⟩=some u->w'.cell? ⟨b,o,none⟩=some u)
 {T:Tree} {v:Value} (h:cr w ok T v):cr w' ok' T v:=by
 induction h with
 |sc v h=>exact .sc v h
 |agg cs us hl pQ _ ih=>exact .agg cs us hl pQ ih
 |bX k xs A c us hk hx hn hm hA hl _ ih=>
  refine .bX k xs A c us hk hx hn hm (fun dh=> ?_) hl ih;obtain⟨b,o,e,hb,bT⟩:=hA dh;exact⟨b,o,e,dF b hb,fun j u hu=>hc _ _ _ hb (bT j u hu)⟩
theorem cr.one{w:World}{ok:Nat->Prop}{T:Tree}{v:Value}(h:cr w ok T v)(hT:T.bZ=true):v.oneCell'=true:=by
 cases h with
 |sc _ h=>exact h
 |agg=>simp[Tree.bZ] at hT
 |bX=>rfl
inductive aJ where
 |t (T:Tree)
 |aF (id n:Nat)
 |ptr (id off:Nat)
 |cM (id n i sub:Nat)
 |ec (cs:List Tree)
 |agg (cs:List aJ)
 |fn (f:FuncId) (cap:List aJ)
 |aZ (vs:List aJ)
 |cond (c:Bool) (v:aJ)
 |cZ (id:Nat)
 |eG (id i:Nat)
 |eZ
 |kS
 |tail (id n i:Nat)
 |fO (id:Nat)
 |xl (k:Nat) (xs:List Tree)
 |yl (id:Nat)
 |jv (id n:Nat)
 |cH
instance:Inhabited aJ:=⟨.cH⟩
inductive MV where
 |im (T:Tree)
 |cp (cs:List Tree)
 |bx (cs:List Tree)
 |rw(k:Nat) (xs:List Tree)
instance:Inhabited MV:=⟨.im default⟩
structure nF where
 fn:Value
 af:(∃f cap,fn= .func (.func f) #[] cap)\/∃l,fn= .func (.yield l) #[] #[]
 goes:List (List Tree)->Bool
 Tc:List (List Tree)->List Tree->Prop
 D:Nat->Prop
 holds:List (List Tree)->List Nat->World->Prop
 Nc:∀pre g w w',holds pre g w->w.heap.size<=w'.heap.size->(∀b∈g,w'.heap[b]? =w.heap[b]?)->(∀b,D b->w'.heap[b]? =w.heap[b]?)->holds pre g w'
 Gx:∀pre g w w' (q:Nat),holds pre g w->w.heap[q]? =some (.deferred (some []))->q∉g->w'.heap.size=w.heap.size->(∀b,b≠q->w'.heap[b]? =w.heap[b]?)->holds pre g w'
inductive Ob where
 |box (cs:List aJ)
 |aF (k:Nat) (fz:Bool) (xs:List Tree)
 |cZ (fz:Bool) (xs:List Tree) (h:Option (Nat×Nat×Nat))
 |gone
 |fo (s:ByteArray) (pos:Nat)
 |mp (es:List (Int×MV)) (h:Option (Int×aJ))
 |fG (iJ n:Nat) (seen:List Nat)
 |ext (Y:nF) (pre:List (List Tree))
def mY(xs:List Tree):Option (Nat×Nat×Nat)->List aJ
 |none=>xs.map .t
 |some (i,id,n)=>(xs.map .t).set i (.aF id n)
theorem yK(xs:List Tree)(h:Option (Nat×Nat×Nat)):(mY xs h).length=xs.length:=by
 cases h<;>simp[mY]
def Ob.len:Ob->Nat
 | .box _=>0
 | .aF _ _ xs=>xs.length
 | .cZ _ xs _=>xs.length
 | .gone=>18446744073709551616
 | .fo _ _=>0
 | .mp _ _=>0
 | .fG _ _ _=>0
 | .ext _ _=>0
def Ob.live:Ob->Bool
 | .box _=>true
 | .aF _ fz _=> !fz
 | .cZ fz _ _=> !fz
 | .gone=>false
 | .fo _ _=>true
 | .mp _ _=>true
 | .fG _ _ _=>true
 | .ext _ _=>true
def Ob.same:Ob->Ob->Prop
 | .box cs,.box iK=>cs.length=iK.length
 | .aF k _ _,.aF k' _ _=>k=k'
 | .cZ _ xs _,.cZ _ xs' _=>xs.length=xs'.length
 | .aF _ _ _,.gone=>True
 | .box _,.gone=>True
 | .gone,.gone=>True
 | .fo _ _,.fo _ _=>True
 | .mp _ _,.mp _ _=>True
 | .fG _ _ _,.fG _ _ _=>True
 | .ext Y _,.ext Y' _=>Y=Y'
 |_,_=>False
theorem Ob.dw(o:Ob):o.same o:=by cases o<;>simp[Ob.same]
theorem Ob.iS{a b c:Ob}(h:a.same b)(k:b.same c):a.same c:=by
 cases a<;>cases b<;>first| (simp[Ob.same] at h;done)| (cases c<;>first| (simp[Ob.same] at k;done)| (simp[Ob.same] at h k|-;done)| (simp only[Ob.same] at h k|-;omega)| (simp only[Ob.same] at h k|-;exact h.trans k)| (simp only[Ob.same]))
abbrev bQ:=Nat->Option Ob
structure Place where
 f:Nat->Option Nat×Nat
 g:Nat->List Nat
instance:CoeFun Place (fun _=>Nat->Option Nat×Nat):=⟨Place.f⟩
def Place.has(m:Place)(id b:Nat):Prop:=(m id).1=some b\/b∈m.g id
def ia(L:Option Nat×Nat)(n:Nat):Value:= .slice (L.1.map fun b=>⟨b,0,none⟩) n L.2
def BO(L:Option Nat×Nat)(k n i:Nat):Value:= .slice (if L.2=i then L.1.map fun b=>⟨b,0,none⟩ else L.1.map fun b=>⟨b,i*k,none⟩) (n-i) (L.2-i)
def Ay:Ob->Nat->Option Value
 | .fo _ _,b=>some (.pointer (some ⟨b,0,none⟩))
 | .fG _ _ _,b=>some (.pointer (some ⟨b,0,none⟩))
 | .mp _ _,b=>some (.map (some b))
 |_,_=>none
inductive aO (st:bQ) (m:Place) (w:World) (ok:Nat->Prop):aJ->Value->Prop
 |t (T:Tree) (u:Value) (h:cr w ok T u):aO st m w ok (.t T) u
 |aF (id n k:Nat) (fz:Bool) (xs:List Tree) (L:Option Nat×Nat) (hs:st id=some (.aF k fz xs)) (hn:n<=xs.length) (hu:n=xs.length->m id=L):
  aO st m w ok (.aF id n) (ia L n)
 |ptr (id off:Nat) (cs:List aJ) (b:Nat) (hs:st id=some (.box cs)) (hm:(m id).1=some b):aO st m w ok (.ptr id off) (.pointer (some ⟨b,off,none⟩))
 |cM (id n i sub k:Nat) (fz:Bool) (xs:List Tree) (b:Nat) (hs:st id=some (.aF k fz xs)) (hn:n<=xs.length)
  (hu:n=xs.length->(m id).1=some b):aO st m w ok (.cM id n i sub) (.pointer (some ⟨b,i*k+sub,none⟩))
 |ec (cs:List Tree) (b o:Nat) (us:List Value) (hb:ok b) (hl:us.length=cs.length) (hc:∀T∈cs,T.bZ=true)
  (bT:∀(j:Nat) (u:Value),us[j]? =some u->w.cell? ⟨b,o+j,none⟩=some u)
  (h:∀(j:Nat) (T:Tree) (u:Value),cs[j]? =some T->us[j]? =some u->cr w ok T u):aO st m w ok (.ec cs) (.pointer (some ⟨b,o,none⟩))
 |agg (cs:List aJ) (us:List Value) (hl:us.length=cs.length)
  (h:∀(i:Nat) (v:aJ) (u:Value),cs[i]? =some v->us[i]? =some u->aO st m w ok v u) (h1:∀u∈us,u.oneCell'=true):aO st m w ok (.agg cs) (.agg us.toArray)
 |fn (f:FuncId) (cap:List aJ) (us:List Value) (hl:us.length=cap.length)
  (h:∀(i:Nat) (v:aJ) (u:Value),cap[i]? =some v->us[i]? =some u->aO st m w ok v u):aO st m w ok (.fn f cap) (.func (.func f) #[] us.toArray)
 |aZ (vs:List aJ) (us:List Value) (hl:us.length=vs.length)
  (h:∀(i:Nat) (v:aJ) (u:Value),vs[i]? =some v->us[i]? =some u->aO st m w ok v u):aO st m w ok (.aZ vs) (.tuple us.toArray)
 |cond (c:Bool) (v:aJ) (u:Value) (h1:c=true->aO st m w ok v u) (h0:c=false->u=undef):aO st m w ok (.cond c v) u
 |cZ (id:Nat) (fz:Bool) (xs:List Tree) (h:Option (Nat×Nat×Nat)) (L:Option Nat×Nat) (hs:st id=some (.cZ fz xs h)) (hm:m id=L):aO st m w ok (.cZ id) (ia L xs.length)
 |eG (id i:Nat) (fz:Bool) (xs:List Tree) (h:Option (Nat×Nat×Nat)) (b:Nat) (hs:st id=some (.cZ fz xs h)) (hm:(m id).1=some b):aO st m w ok (.eG id i) (.pointer (some ⟨b,i,none⟩))
 |cH (u:Value):aO st m w ok .cH u
 |fH (id n:Nat) (L:Option Nat×Nat) (hs:st id=some .gone):aO st m w ok (.aF id n) (ia L n)
 |eT (id n i sub b o:Nat) (hs:st id=some .gone):aO st m w ok (.cM id n i sub) (.pointer (some ⟨b,o,none⟩))
 |eZ (b:Bool):aO st m w ok .eZ (.bool b)
 |kS (t:TypeId) (u:Value):aO st m w ok .kS (.iface t u)
 |tail (id n i k:Nat) (fz:Bool) (xs:List Tree) (L:Option Nat×Nat) (hs:st id=some (.aF k fz xs)) (hn:n<=xs.length) (hi:i<=n) (hu:n=xs.length->m id=L):
  aO st m w ok (.tail id n i) (BO L k n i)
 |fP (id n i k:Nat) (L:Option Nat×Nat) (hs:st id=some .gone):aO st m w ok (.tail id n i) (BO L k n i)
 |fO (id:Nat) (o:Ob) (b:Nat) (u:Value) (hs:st id=some o) (hm:(m id).1=some b) (hu:Ay o b=some u):aO st m w ok (.fO id) u
 |xl (k:Nat) (xs:List Tree) (u:Value) (h:cr w ok (.bX k xs) u) (hc:∃A,u= .slice A xs.length xs.length):aO st m w ok (.xl k xs) u
 |gN (id off b:Nat) (hs:st id=some .gone):aO st m w ok (.ptr id off) (.pointer (some ⟨b,off,none⟩))
 |yl (id:Nat) (Y:nF) (pre:List (List Tree)) (hs:st id=some (.ext Y pre)):aO st m w ok (.yl id) Y.fn
 |jv (id n:Nat) (cs:List aJ) (b:Nat) (hs:st id=some (.box cs)) (hm:m id=(some b,n)):aO st m w ok (.jv id n) (ia (some b,n) n)
 |iT (id n:Nat) (L:Option Nat×Nat) (hs:st id=some .gone):aO st m w ok (.jv id n) (ia L n)
structure eL(P:Program) where
 mem:Nat->Prop
 Gy:Nat->Prop
 kR:Nat->Obj->Prop
 sub:∀b o,kR b o->mem b
 sup:∀b,Gy b->mem b
 tab:Gw P kR
 Td:∀b o,kR b o->¬Gy b
 Nd:∀b o,kR b o->∃us e z,o= .cells us e z
 BQ:Option Nat
 lo:Nat
instance {P:Program}:CoeFun (eL P) (fun _=>Nat->Prop):=⟨eL.mem⟩
variable {P:Program}
def okB(F:eL P)(st:bQ)(m:Place)(w:World)(b:Nat):Prop:=
 b<w.heap.size/\¬F.Gy b/\∀id o,st id=some o->o.live=true->¬m.has id b
def Te(st:bQ)(m:Place)(w:World)(ok:Nat->Prop)(cs:List aJ)(L:Option Nat×Nat):Prop:=
 ∃b us e,L.1=some b/\w.heap[b]? =some (.cells us e (0,0))/\us.size=cs.length/\
  ∀(i:Nat) (v:aJ) (u:Value),cs[i]? =some v->us[i]? =some u->aO st m w ok v u/\u.oneCell'=true
def tV(w:World)(ok:Nat->Prop)(k:Nat)(xs:List Tree)(L:Option Nat×Nat):Prop:=
 0<k/\(∀x∈xs,jo k x)/\xs.length<=L.2/\L.2<=maxLen/\
  ((L.1=none/\L.2=0)\/∃b us e,L.1=some b/\w.heap[b]? =some (.cells us e (0,0))/\us.size=L.2*k/\(∀(j:Nat) (u:Value),us[j]? =some u->u.oneCell'=true)/\
   ∀(j:Nat) (T:Tree) (u:Value),(dL xs)[j]? =some T->us[j]? =some u->cr w ok T u)
def mG(st:bQ)(m:Place)(w:World)(ok:Nat->Prop):MV->Value->Option Nat->Prop
 | .im T,u,c=>cr w ok T u/\c=none
 | .cp cs,u,c=>aO st m w ok (.ec cs) u/\c=none
 | .bx cs,u,c=> ∃b us e,c=some b/\u= .pointer (some ⟨b,0,none⟩)/\w.heap[b]? =some (.cells us e (0,0))/\us.size=cs.length/\(∀T∈cs,T.bZ=true)/\
  ∀(i:Nat) (T:Tree) (u:Value),cs[i]? =some T->us[i]? =some u->cr w ok T u
 | .rw k xs,u,c=> ∃L,u=ia L xs.length/\L.1=c/\tV w ok k xs L
def EP(st:bQ)(m:Place)(w:World)(ok:Nat->Prop):Option (Int×aJ)->Int->MV->Value->Option Nat->Prop
 |none,_,v,u,c=>mG st m w ok v u c
 |some (k',v'),k,v,u,c=>(k=k'->aO st m w ok v' u/\c=none)/\(k≠k'->mG st m w ok v u c)
def Tf(st:bQ)(m:Place)(w:World)(ok:Nat->Prop)(es:List (Int×MV))(h:Option (Int×aJ))(L:Option Nat×Nat)(g:List Nat):Prop:=
 ∃(b:Nat) (bJ:List MapEntry) (bl:Nat->Option Nat),L.1=some b/\w.heap[b]? =some (.map bJ.toArray bJ.length)/\bJ.length=es.length/\
  (∀i j c,i<es.length->j<es.length->bl i=some c->bl j=some c->i=j)/\(∀i c,i<es.length->bl i=some c->c∈g/\c≠b)/\
  (∀(i j:Nat) (x y:Int×MV),es[i]? =some x->es[j]? =some y->x.1=y.1->i=j)/\
  ∀i x e,es[i]? =some x->bJ[i]? =some e->e.key= .int .i64 x.1/\e.born=i/\EP st m w ok h x.1 x.2 e.val (bl i)
def mZ(st:bQ)(m:Place)(w:World)(ok:Nat->Prop):Ob->Option Nat×Nat->List Nat->Prop
 | .box cs,L,_=>Te st m w ok cs L
 | .aF k _ xs,L,_=>tV w ok k xs L
 | .cZ _ xs h,L,_=>Te st m w ok (mY xs h) L/\L.2=xs.length/\xs.length<=maxLen/\∀x∈xs,x.bZ=true
 | .gone,L,_=>L.1=none
 | .fo s pos,L,_=> ∃b,L.1=some b/\w.heap[b]? =some (.stringIter s pos)
 | .mp es h,L,g=>Tf st m w ok es h L g
 | .fG iJ n seen,L,_=> ∃b bm,L.1=some b/\(m iJ).1=some bm/\(∃es h,st iJ=some (.mp es h))/\w.heap[b]? =some (.mapIter (some bm) n seen.toArray n)
 | .ext Y pre,L,g=>L.1=none/\Y.holds pre g w/\∀b,Y.D b->ok b
structure aY(F:eL P)(st:bQ)(m:Place)(w:World):Prop where
 cN:∀id o,st id=some o->mZ st m w (okB F st m w) o (m id) (m.g id)
 inj:∀i j oi oj b,st i=some oi->st j=some oj->m.has i b->m.has j b->i=j
 eD:∀id o b,st id=some o->m.has id b->¬F b
 lt:∀id o b,st id=some o->m.has id b->b<w.heap.size
 low:∀b,F b->b<w.heap.size
 hold:∀b o,F.kR b o->w.heap[b]? =some o
structure aK(F:eL P)(st:bQ)(m:Place)(w:World)(st':bQ)(m':Place)(w':World):Prop where
 os:w'.os=w.os
 tape:w'.tape=w.tape
 output:w'.output=w.output
 size:w.heap.size<=w'.heap.size
 block:∀b,b<w.heap.size->(F b\/∀id o,st id=some o->o.live=true->¬m.has id b)->w'.heap[b]? =w.heap[b]?
 bW:∀id o,st id=some o->∃o',st' id=some o'/\o.len<=o'.len/\(o.len=o'.len->m' id=m id)/\(o.live=false->o'.live=false)/\
  (∀b,m'.has id b->m.has id b\/w.heap.size<=b\/∃i oi,st i=some oi/\oi.live=true/\m.has i b)/\
  o.same o'
 new:∀id o,st' id=some o->st id=none->∀b,m'.has id b->w.heap.size<=b\/∃i oi,st i=some oi/\oi.live=true/\m.has i b
theorem aY.held{F:eL P}{st st':bQ}{m m':Place}{w w':World}(hS:aY F st m w)(hF:aK F st m w st' m' w'):∀b o,F.kR b o->w'.heap[b]? =some o:=fun b o h=>
 (hF.block b (hS.low b (F.sub b o h)) (.inl (F.sub b o h))).trans (hS.hold b o h)
theorem aK.refl(F:eL P)(st:bQ)(m:Place)(w:World):aK F st m w st m w:=
 ⟨rfl,rfl,rfl,qp _,fun _ _ _=>rfl,fun _ o h=>⟨o,h,qp _,fun _=>rfl,id,fun _ q=> .inl q,o.dw⟩,fun id o h h'=>by rw[h'] at h;cases h⟩
theorem aK.back{F:eL P}{st st':bQ}{m m':Place}{w w':World}(h:aK F st m w st' m' w'){i b:Nat}{oi:Ob}(hi:st' i=some oi)(hl:oi.live=true)(hb:m'.has i b):
 w.heap.size<=b\/∃j oj,st j=some oj/\oj.live=true/\m.has j b:=by
 cases h0:st i with
 |none=>exact h.new i oi hi h0 b hb
 |some o=>
  obtain⟨o',bR,_,_,uY,tW,_⟩:=h.bW i o h0;rw[hi] at bR;cases bR;have hol:o.live=true:=by
   cases hh:o.live with
   |true=>rfl
   |false=>rw[uY hh] at hl;cases hl
  rcases tW b hb with hp|hp|hp
  ·exact .inr ⟨i,o,h0,hol,hp⟩
  ·exact .inl hp
  exact .inr hp
theorem aK.trans{F:eL P}{st st1 st2:bQ}{m m1 m2:Place}{w w1 w2:World}(hs:aY F st m w)(h:aK F st m w st1 m1 w1)(k:aK F st1 m1 w1 st2 m2 w2):
 aK F st m w st2 m2 w2:=by
 have fV:=h.size;have two:∀b,(w1.heap.size<=b\/∃i oi,st1 i=some oi/\oi.live=true/\m1.has i b)->w.heap.size<=b\/∃i oi,st i=some oi/\oi.live=true/\m.has i b:=by
  rintro b (q| ⟨i,oi,q1,q2,q3⟩)
  ·exact .inl oM
  exact h.back q1 q2 q3
 refine⟨k.os.trans h.os,k.tape.trans h.tape,k.output.trans h.output,qC h.size k.size,fun b hb hf=> ?_,fun id o ho=> ?_,fun id o ho hn b hb=> ?_⟩
 ·have h1:=h.block b hb hf;rw[<-h1];refine k.block b (zu hb h.size) ?_;rcases hf with hf|hf
  ·exact .inl hf
  refine .inr fun id o1 BR gW Nf=> ?_
  rcases h.back BR gW Nf with q| ⟨i,oi,q1,q2,q3⟩
  ·omega
  exact hf i oi q1 q2 q3
 ·obtain⟨o1,BR,hl,hm,uY,tW,gA⟩:=h.bW id o ho;obtain⟨o2,Gz,xz,nG,Ng,Nh,Ni⟩:=k.bW id o1 BR;refine⟨o2,Gz,qC hl xz,fun e=> ?_,fun e=>Ng (uY e),fun b hb=> ?_,Ob.iS gA Ni⟩
  ·rw[nG oM,hm oM]
  rcases Nh b hb with hp|hp
  ·exact tW b hp
  exact .inr (two b hp)
 cases h1:st1 id with
 |none=>exact two b (k.new id o ho h1 b hb)
 |some o1=>
  obtain⟨o2,_,_,_,_,tW,_⟩:=k.bW id o1 h1;rcases tW b hb with hp|hp
  ·exact h.new id o1 h1 hn b hp
  exact two b hp
theorem Nj{w w':World}{b:Nat}(h:w'.heap[b]? =w.heap[b]?)(o:Nat):w'.cell? ⟨b,o,none⟩=w.cell? ⟨b,o,none⟩:=by
 simp only[World.cell?,h]
theorem aK.ok{F:eL P}{st st':bQ}{m m':Place}{w w':World}(h:aK F st m w st' m' w'){b:Nat}(hb:okB F st m w b):okB F st' m' w' b:=by
 obtain⟨h1,h2,h3⟩:=hb;refine⟨zu h1 h.size,h2,fun id o' bR hl hm=> ?_⟩;rcases h.back bR hl hm with q| ⟨i,oi,q1,q2,q3⟩
 ·omega
 exact h3 i oi q1 q2 q3
theorem aK.heap{F:eL P}{st st':bQ}{m m':Place}{w w':World}(h:aK F st m w st' m' w'){b:Nat}(hb:okB F st m w b):w'.heap[b]? =w.heap[b]? :=
 h.block b hb.1 (.inr hb.2.2)
theorem aK.tree{F:eL P}{st st':bQ}{m m':Place}{w w':World}(h:aK F st m w st' m' w'){T:Tree}{v:Value}(hT:cr w (okB F st m w) T v):
 cr w' (okB F st' m' w') T v:=
 hT.mono (fun _ hb=>h.ok hb) (fun b o u hb hc=>by rw[Nj (h.heap hb)];exact hc)
theorem aK.val{F:eL P}{st st':bQ}{m m':Place}{w w':World}(h:aK F st m w st' m' w'){v:aJ}{u:Value}(hv:aO st m w (okB F st m w) v u):
 aO st' m' w' (okB F st' m' w') v u:=by
 induction hv with
 |t T u hT=>exact .t T u (h.tree hT)
 |xl k xs u hT hc=>exact .xl k xs u (h.tree hT) hc
 |aF id n k fz xs L hs hn hu=>
  obtain⟨o',bR,hl,hm,_,_,gA⟩:=h.bW id _ hs;cases o' with
  |gone=>exact .fH id n L bR
  |aF k' iU xs'=>
   simp only[Ob.len] at hl hm;exact .aF id n k' iU xs' L bR (qC hn hl) (fun e=>by rw[hm oM];exact hu oM)
  |_=>simp[Ob.same] at gA
 |ptr id off cs b hs hm=>
  obtain⟨o',bR,hl,nG,_,tW,gA⟩:=h.bW id _ hs;cases o' with
  |box iK=>
   exact .ptr id off iK b bR (by rw[nG rfl];exact hm)
  |gone=>exact .gN id off b bR
  |_=>simp[Ob.same] at gA
 |cZ id fz xs hh L hs hm=>
  obtain⟨o',bR,hl,nG,_,tW,gA⟩:=h.bW id _ hs;cases o' with
  |cZ iU xs' h'=>
   simp only[Ob.same] at gA;rw[gA];exact .cZ id iU xs' h' L bR (by rw[nG gA];exact hm)
  |_=>simp[Ob.same] at gA
 |eG id i fz xs hh b hs hm=>
  obtain⟨o',bR,hl,nG,_,tW,gA⟩:=h.bW id _ hs;cases o' with
  |cZ iU xs' h'=>
   simp only[Ob.same] at gA;exact .eG id i iU xs' h' b bR (by rw[nG gA];exact hm)
  |_=>simp[Ob.same] at gA
 |cM id n i sub k fz xs b hs hn hu=>
  obtain⟨o',bR,hl,hm,_,_,gA⟩:=h.bW id _ hs;cases o' with
  |gone=>exact .eT id n i sub _ _ bR
  |aF k' iU xs'=>
   simp only[Ob.len] at hl hm;simp only[Ob.same] at gA;subst gA;exact .cM id n i sub k iU xs' b bR (qC hn hl) (fun e=>by rw[hm oM];exact hu oM)
  |_=>simp[Ob.same] at gA
 |ec cs b o us hb hl hc bT hT=>
  exact .ec cs b o us (h.ok hb) hl hc (fun j u hu=>by rw[Nj (h.heap hb)];exact bT j u hu) (fun j T u h1 h2=>h.tree (hT j T u h1 h2))
 |agg cs us hl _ h1 ih=>exact .agg cs us hl ih h1
 |fn f cap us hl _ ih=>exact .fn f cap us hl ih
 |aZ vs us hl _ ih=>exact .aZ vs us hl ih
 |cond c v u _ h0 ih=>exact .cond c v u ih h0
 |cH u=>exact .cH u
 |fH id n L hs=>
  obtain⟨o',bR,_,_,_,_,gA⟩:=h.bW id _ hs;cases o'<;>simp[Ob.same] at gA;exact .fH id n L bR
 |eT id n i sub b o hs=>
  obtain⟨o',bR,_,_,_,_,gA⟩:=h.bW id _ hs;cases o'<;>simp[Ob.same] at gA;exact .eT id n i sub b o bR
 |eZ b=>exact .eZ b
 |kS t u=>exact .kS t u
 |tail id n i k fz xs L hs hn hi hu=>
  obtain⟨o',bR,hl,hm,_,_,gA⟩:=h.bW id _ hs;cases o' with
  |gone=>exact .fP id n i k L bR
  |aF k' iU xs'=>
   simp only[Ob.len] at hl hm;simp only[Ob.same] at gA;subst gA;exact .tail id n i k iU xs' L bR (qC hn hl) hi (fun e=>by rw[hm oM];exact hu oM)
  |_=>simp[Ob.same] at gA
 |fP id n i k L hs=>
  obtain⟨o',bR,_,_,_,_,gA⟩:=h.bW id _ hs;cases o'<;>simp[Ob.same] at gA;exact .fP id n i k L bR
 |fO id o b u hs hm hu=>
  obtain⟨o',bR,hl,nG,_,tW,gA⟩:=h.bW id _ hs;cases o<;>simp[Ay] at hu<;>subst hu<;>cases o'<;>simp[Ob.same] at gA<;>exact .fO id _ b _ bR (by rw[nG rfl];exact hm) rfl
 |gN id off b hs=>
  obtain⟨o',bR,_,_,_,_,gA⟩:=h.bW id _ hs;cases o'<;>simp[Ob.same] at gA;exact .gN id off b bR
 |yl id Y pre hs=>
  obtain⟨o',bR,_,_,_,_,gA⟩:=h.bW id _ hs;cases o'<;>simp[Ob.same] at gA;subst gA;exact .yl id _ _ bR
 |jv id n cs b hs hm=>
  obtain⟨o',bR,hl,nG,_,tW,gA⟩:=h.bW id _ hs;cases o' with
  |box iK=>exact .jv id n iK b bR (by rw[nG rfl];exact hm)
  |gone=>exact .iT id n _ bR
  |_=>simp[Ob.same] at gA
 |iT id n L hs=>
  obtain⟨o',bR,_,_,_,_,gA⟩:=h.bW id _ hs;cases o'<;>simp[Ob.same] at gA;exact .iT id n L bR
end Go.Ab
end
section
namespace Go.Ab
def kT(P:Program)(t:TypeId):Option Nat:=(P.info? t).map (·.size)
def GA(P:Program)(t:TypeId):Option Nat:=(P.info? t).map (·.bytes)
def vK(P:Program)(t:TypeId):Option Bool:=
 match P.underlying t with
 |some (.struct _)=>some true
 |some (.array _ _)=>some true
 |some _=>some false
 |none=>none
def JM(P:Program)(s:TypeId)(i:Nat):Option Field:=
 match P.underlying s with
 |some (.struct fs)=>fs[i]?
 |_=>none
def Df(P:Program)(t:TypeId):Option TypeId:=
 match P.underlying t with
 |some (.slice e)=>some e
 |_=>none
def vL(P:Program)(t:TypeId):Option Value:=(P.info? t).bind (·.zero)
def Tg(v:Value):Option (List Tree):=
 let l:=v.cells.toList
 if l.all Value.oneCell' then some (l.map .sc) else none
def Az(P:Program)(t:TypeId):Option (List Tree):=(vL P t).bind Tg
def get:List (Nat×aJ)->Nat->aJ
 | [],_=> .cH
 | (i,v)::l,t=>bif Nat.beq i t then v else get l t
def cI:aJ->List aJ
 | .agg cs=>cs
 | .t (.agg cs)=>cs.map .t
 |v=>[v]
def tY:aJ->Bool
 | .t T=>T.bZ
 | .aF _ _=>true
 | .ptr _ _=>true
 | .cM _ _ _ _=>true
 | .ec _=>true
 | .fn _ _=>true
 | .cZ _=>true
 | .eG _ _=>true
 | .jv _ _=>true
 | .eZ=>true
 | .kS=>true
 | .tail _ _ _=>true
 | .fO _=>true
 | .yl _=>true
 |_=>false
def wG:List aJ->Option (List Tree)
 | []=>some []
 | .t T::l=>(wG l).map (T:: ·)
 |_::_=>none
def pR(cs:List aJ):aJ:=
 match wG cs with
 |some Ts=> .t (.agg Ts)
 |none=> .agg cs
def BS(ag:Bool)(cs:List aJ):Option aJ:=
 match ag,cs with
 |true,cs=>some (pR cs)
 |false,[v]=>some v
 |false,_=>none
def su(ag:Bool)(cs:List Tree):Option Tree:=
 match ag,cs with
 |true,cs=>some (.agg cs)
 |false,[v]=>some v
 |false,_=>none
def part{α:Type}(l:List α)(off n:Nat):Option (List α):=
 let r:=(l.drop off).take n
 bif Nat.beq r.length n then some r else none
def GB{α:Type}(l:List α)(off:Nat)(new:List α):Option (List α):=
 bif Nat.ble (off+new.length) l.length then some (l.take off++new++l.drop (off+new.length)) else none
def bO(st:bQ)(i:Nat)(o:Ob):bQ:=fun j=>bif Nat.beq j i then some o else st j
def app(st:bQ):List (Nat×Ob)->bQ
 | []=>st
 | (i,o)::l=>app (bO st i o) l
def emp:bQ:=fun _=>none
def lN:List Nat->Nat->Bool
 | [],_=>false
 |i::l,j=>bif Nat.beq i j then true else lN l j
def only(st:bQ)(l:List Nat):bQ:=fun id=>bif lN l id then st id else none
mutual
def lP:aJ->List Nat
 | .t _=>[]
 | .aF id _=>[id]
 | .ptr id _=>[id]
 | .cM id _ _ _=>[id]
 | .ec _=>[]
 | .agg cs=>rK cs
 | .fn _ cap=>rK cap
 | .aZ vs=>rK vs
 | .cond _ v=>lP v
 | .cZ id=>[id]
 | .eG id _=>[id]
 | .eZ=>[]
 | .kS=>[]
 | .tail id _ _=>[id]
 | .fO id=>[id]
 | .xl _ _=>[]
 | .yl id=>[id]
 | .jv id _=>[id]
 | .cH=>[]
def rK:List aJ->List Nat
 | []=>[]
 |v::l=>lP v++rK l
end
def Tree.free:Tree->Bool
 | .sc _=>true
 | .agg cs=>cs.all fun T=>match T with| .sc _=>true|_=>false
 | .bX _ _=>false
def Nk:aJ->Bool
 | .t T=>T.free
 | .aZ vs=>vs.all fun v=>match v with| .t T=>T.free| .kS=>true|_=>false
 |_=>false
def oo(st:bQ):aJ->Option (aJ×List (Nat×Ob)×List Prop)
 | .aF id n=>match st id with
  |some (.aF k fz xs)=>some (.t (.bX k xs),(bif fz then[] else[(id,.aF k true xs)]),[n=xs.length])
  |_=>none
 |v=>some (v,[],[])
def Dg(st:bQ):List aJ->Option (List aJ×List (Nat×Ob)×List Prop)
 | []=>some ([],[],[])
 |v::l=>match oo st v,Dg st l with
  |some (v',f,c),some (l',g,d)=>some (v'::l',f++g,c++d)
  |_,_=>none
def mH(st:bQ):aJ->Option (aJ×List (Nat×Ob)×List Prop)
 | .agg cs=>(Dg st cs).map fun(cs,f,c)=>(pR cs,f,c)
 |v=>oo st v
def BT(st:bQ):List aJ->Option (List aJ×List (Nat×Ob)×List Prop)
 | []=>some ([],[],[])
 |v::l=>match mH st v,BT st l with
  |some (v',f,c),some (l',g,d)=>some (v'::l',f++g,c++d)
  |_,_=>none
structure Dl where
 val:aJ
 wr:List (Nat×Ob)
 jW:List Prop
structure nc where
 mode:Nat
 need:List Nat
 res:aJ
 wr:List (Nat×Ob)
structure eW where
 val:Option aJ
 wr:Option (List (Nat×Ob))
 xA:Option Tree
 call:Option nc
 fx:List (Nat×Nat):=[]
def eW.no:eW:=⟨none,none,none,none,[]⟩
def JN(k i:Nat):aJ->aJ
 | .t (.agg cs)=>match cs[i]? with
  |some (.sc (.slice none 0 0))=>bif Nat.blt 0 k then .t (.agg (cs.set i (.bX k []))) else .t (.agg cs)
  |_=> .t (.agg cs)
 | .agg cs=>match cs[i]? with
  |some (.t (.sc (.slice none 0 0)))=>bif Nat.blt 0 k then .agg (cs.set i (.t (.bX k []))) else .agg cs
  |_=> .agg cs
 |v=>v
def Nl:List (Nat×Nat)->aJ->aJ
 | [],v=>v
 | (i,k)::l,v=>Nl l (JN k i v)
def JO:List (Nat×Nat)->Nat->aJ->aJ
 | [],_,v=>v
 | (j,k)::l,i,v=>bif Nat.beq i j&&Nat.blt 0 k then(match v with| .t (.sc (.slice none 0 0))=> .t (.bX k [])|v=>v) else JO l i v
def w2q(fx:List (Nat×Nat))(p:Nat×aJ):Nat×aJ:=(p.1,JO fx p.1 p.2)
abbrev Dh:=Operand->aJ
def dJ(v:aJ)(c:List Prop):Option Dl:=some ⟨v,[],c⟩
def ER(c:eW)(xs:List Tree)(i:Nat):Tree:=match c.xA with|some X=>X|none=>xs.getD i default
def Di(place:Nat->Option (Nat×Nat))(cells:List aJ):List (Nat×aJ)->Option (List aJ)
 | []=>some cells
 | (i,v)::rest=>
  match place i with
  |none=>none
  |some (off,size)=>
   let cs:=cI v
   bif Nat.beq cs.length size then
    match GB cells off cs with
    |some cells=>Di place cells rest
    |none=>none
   else none
def Th(P:Program)(fs:List Field):Option (List (Nat×Nat)):=fs.mapM (fun f=>(P.info? f.type).map fun i=>(f.offset,i.size))
def Ti(P:Program)(t:TypeId):Option (Nat->Option (Nat×Nat)):=
 match P.underlying t with
 |some (.struct fs)=>(Th P fs.toList).map fun ps i=>ps[i]?
 |some (.array _ e)=>(kT P e).map fun s i=>some (i*s,s)
 |_=>none
def BU(ag:Bool)(k:Nat):Nat->List Tree->Option (List Tree)
 |0,[]=>some []
 |0,_::_=>none
 |n+1,l=>
  match su ag (l.take k),BU ag k n (l.drop k) with
  |some x,some r=>bif Nat.beq (l.take k).length k then some (x::r) else none
  |_,_=>none
def fW{α:Type}(l:List α):Nat->List α
 |0=>[]
 |n+1=>l++fW l n
def GC(k:IntKind)(a b:Int):Int:=k.wrap (BitVec.ofInt k.bits a&&&BitVec.ofInt k.bits b).toNat
def Tj(k:IntKind)(a b:Int):Int:=k.wrap (BitVec.ofInt k.bits a|||BitVec.ofInt k.bits b).toNat
def Tk(op:BinOp)(k:IntKind)(a b:Int):Option Dl:=
 match op with
 | .add=>dJ (.t (.sc (.int k (k.wrap (a+b))))) []
 | .sub=>dJ (.t (.sc (.int k (k.wrap (a-b))))) []
 | .mul=>dJ (.t (.sc (.int k (k.wrap (a*b))))) []
 | .quo=>dJ (.t (.sc (.int k (k.wrap (a.tdiv b))))) [b≠0]
 | .rem=>dJ (.t (.sc (.int k (a.tmod b)))) [b≠0]
 | .eql=>dJ (.t (.sc (.bool (a==b)))) []
 | .neq=>dJ (.t (.sc (.bool (a !=b)))) []
 | .lss=>dJ (.t (.sc (.bool (decide (a<b))))) []
 | .leq=>dJ (.t (.sc (.bool (decide (a<=b))))) []
 | .gtr=>dJ (.t (.sc (.bool (decide (a>b))))) []
 | .geq=>dJ (.t (.sc (.bool (decide (a>=b))))) []
 | .and=>dJ (.t (.sc (.int k (GC k a b)))) []
 | .or=>dJ (.t (.sc (.int k (Tj k a b)))) []
 |_=>none
def Tl(op:BinOp)(k:IntKind)(a:Int)(k':IntKind)(b:Int):Option Dl:=
 match op with
 | .shl=>dJ (.t (.sc (.int k (k.wrap (a*2^(min b.toNat k.bits)))))) [0<=b]
 | .shr=>dJ (.t (.sc (.int k (a.fdiv (2^(min b.toNat k.bits)))))) [0<=b]
 |_=>if k=k' then Tk op k a b else none
def Tm(op:BinOp)(x y:ByteArray):Option Dl:=
 let eq:=x.toList==y.toList
 let lt:=Op.bytesLess x.toList y.toList
 match op with
 | .add=>dJ (.t (.sc (.string (x++y)))) [((x.size+y.size:Nat):Int)<=IntKind.i64.max]
 | .eql=>dJ (.t (.sc (.bool eq))) []
 | .neq=>dJ (.t (.sc (.bool !eq))) []
 | .lss=>dJ (.t (.sc (.bool lt))) []
 | .leq=>dJ (.t (.sc (.bool (lt||eq)))) []
 | .gtr=>dJ (.t (.sc (.bool !(lt||eq)))) []
 | .geq=>dJ (.t (.sc (.bool !lt))) []
 |_=>none
def Nn(d:Option TypeDesc):Tree->Tree->Option Bool
 | .sc (.int k a),.sc (.int k' b)=>match d with
  |some (.int _)=>if k=k' then some (a==b) else none
  |_=>none
 | .sc (.string a),.sc (.string b)=>match d with
  |some .string=>some (a.toList==b.toList)
  |_=>none
 | .sc (.bool a),.sc (.bool b)=>match d with
  |some .bool=>some (a==b)
  |_=>none
 |_,_=>none
def AA(P:Program):Nat->List Field->List Tree->List Tree->Option Bool
 |_,[],[],[]=>some true
 |i,f::fs,a::l,b::r=>
  bif Nat.beq f.offset i&&f.name != "_" then
   match Nn (P.underlying f.type) a b,AA P (i+1) fs l r with
   |some x,some y=>some (x&&y)
   |_,_=>none
  else none
 |_,_,_,_=>none
def JP(P:Program)(t:TypeId)(a b:List Tree):Option Bool:=
 match P.underlying t with
 |some (.struct fs)=>bif !P.stoodInHeld t&& !P.eqGuardType P.depth t then AA P 0 fs.toList a b else none
 |_=>none
def No(P:Program)(op:BinOp)(t:TypeId)(x y:aJ):Option Dl:=
 match x,y with
 | .t (.sc (.int k a)),.t (.sc (.int k' b))=>Tl op k a k' b
 | .t (.sc (.string a)),.t (.sc (.string b))=>Tm op a b
 | .t (.sc (.bool a)),.t (.sc (.bool b))=>
  match P.underlying t,op with
  |some .bool,.eql=>dJ (.t (.sc (.bool (a==b)))) []
  |some .bool,.neq=>dJ (.t (.sc (.bool (!(a==b))))) []
  |_,_=>none
 | .t (.agg a),.t (.agg b)=>
  match op,JP P t a b with
  | .eql,some r=>dJ (.t (.sc (.bool r))) []
  | .neq,some r=>dJ (.t (.sc (.bool (!r)))) []
  |_,_=>none
 | .t (.bX _ _),.t (.sc (.slice none 0 0))=>
  match P.underlying t,op with
  |some (.slice _),.eql=>dJ .eZ []
  |some (.slice _),.neq=>dJ .eZ []
  |_,_=>none
 |_,_=>none
def JQ(P:Program)(op:BinOp)(t:TypeId)(yo:Operand)(x y:aJ):Option Dl:=
 match op,x,y with
 | .neq,.kS,.t (.sc .nilIface)=>match P.underlying t with
  |some (.interface _)=>dJ (.t (.sc (.bool true))) []
  |_=>none
 | .neq,.t (.sc .nilIface),.t (.sc .nilIface)=>match P.underlying t,yo with
  |some (.interface _),.const _=>dJ (.t (.sc (.bool false))) []
  |_,_=>none
 |_,_,_=>No P op t x y
def JR(P:Program)(op:BinOp)(t:TypeId)(x y:aJ):Option Dl:=
 match x,y with
 | .t (.bX _ xs),.t (.sc (.slice none 0 0))=>
  match P.underlying t,op with
  |some (.slice _),.eql=>dJ (.t (.sc (.bool false))) [xs.length≠0]
  |some (.slice _),.neq=>dJ (.t (.sc (.bool true))) [xs.length≠0]
  |_,_=>none
 |_,_=>none
def Np(op:UnOp)(x:aJ):Option Dl:=
 match op,x with
 | .not,.t (.sc (.bool b))=>dJ (.t (.sc (.bool (!b)))) []
 | .neg,.t (.sc (.int k n))=>dJ (.t (.sc (.int k (k.wrap (0-n))))) []
 |_,_=>none
def GD(s:ByteArray):List Tree:=s.data.toList.map fun b=> .sc (.int .u8 b.toNat)
def Nq(n:Nat)(o:Option Ob)(c:eW):Option Dl:=
 match o,c.xA with
 |some (.aF 1 _ xs),some (.sc (.string s))=>some ⟨.t (.sc (.string s)),[],[n=xs.length,xs=GD s]⟩
 |_,_=>none
def Nr(P:Program)(src dst:TypeId)(x:aJ)(st:bQ)(c:eW):Option Dl:=
 match P.underlying src,P.underlying dst,x with
 |some _,some (.int k),.t (.sc (.int _ n))=>dJ (.t (.sc (.int k (k.wrap n)))) []
 |some .string,some .string,.t (.sc (.string s))=>dJ (.t (.sc (.string s))) []
 |some (.slice e),some .string,.aF id n=>match P.underlying e with
  |some (.int .u8)=>Nq n (st id) c
  |_=>none
 |_,_,_=>none
def GF(P:Program)(t:TypeId)(a:aJ)(st:bQ)(c:eW):Option Dl:=
 match kT P t,vK P t,a with
 |some sz,some ag,.ptr id off=>match st id with
  |some (.box cs)=>((part cs off sz).bind (BS ag)).bind (dJ · [])
  |_=>none
 |some sz,some ag,.ec cs=>((part cs GG sz).bind (su ag)).bind fun T=>dJ (.t T) []
 |some sz,some ag,.cM id n i sub=>match st id with
  |some (.aF k fz xs)=>
   let X:=ER c xs i
   ((part X.cells sub sz).bind (su ag)).bind fun T=>dJ (.t T) [n=xs.length,xs[i]? =some X]
  |_=>none
 |some sz,some false,.eG id i=>match st id with
  |some (.cZ _ xs h)=>bif Nat.beq sz 1 then
   match c.xA with
   |some X=>dJ (.t X) [(mY xs h)[i]? =some (.t X)]
   |none=>match h with
    |some (j,r,n)=>dJ (.aF r n) [i=j,j<xs.length]
    |none=>none
   else none
  |_=>none
 |_,_,_=>none
where GG:=0
def setCells(X:Tree)(sub:Nat)(new:List Tree):Option Tree:=
 match X with
 | .agg cs=>(GB cs sub new).map .agg
 |_=>match new with
  | [T]=>bif Nat.beq sub 0 then some T else none
  |_=>none
def Ns(P:Program)(t:TypeId)(a v:aJ)(st:bQ)(c:eW):Option Dl:=
 match kT P t,a with
 |some sz,.ptr id off=>match st id with
  |some (.box cs)=>
   let new:=cI v
   bif Nat.beq new.length sz&&new.all tY then(GB cs off new).bind fun iK=>some ⟨.cH,[(id,.box iK)],[]⟩ else none
  |_=>none
 |some sz,.cM id n i sub=>match st id with
  |some (.aF k false xs)=>
   let X:=ER c xs i
   match mH st v with
   |some (v',f,p)=>
    (wG (cI v')).bind fun new=>
    bif Nat.beq new.length sz&&new.all Tree.bZ&& !(lN (f.map (·.1)) id) then
     (setCells X sub new).bind fun X'=>some ⟨.cH,f++[(id,.aF k false (xs.set i X'))],p++[n=xs.length,xs[i]? =some X]⟩
    else none
   |none=>none
  |_=>none
 |some sz,.eG id i=>match st id with
  |some (.cZ false xs none)=>bif Nat.beq sz 1 then
   match v with
   | .aF r n=>bif Nat.beq r id then none else some ⟨.cH,[(id,.cZ false xs (some (i,r,n)))],[i<xs.length]⟩
   | .t T=>bif T.bZ then some ⟨.cH,[(id,.cZ false (xs.set i T) none)],[i<xs.length]⟩ else none
   |_=>none
   else none
  |_=>none
 |_,_=>none
def Nt(P:Program)(s:TypeId)(a:aJ)(i:Nat):Option Dl:=
 (JM P s i).bind fun f=>(kT P f.type).bind fun z=>
 bif Nat.beq z 0 then none else
 match a with
 | .ptr id off=>dJ (.ptr id (off+f.offset)) []
 | .cM id n j sub=>dJ (.cM id n j (sub+f.offset)) []
 | .ec cs=>bif Nat.ble f.offset cs.length then dJ (.ec (cs.drop f.offset)) [] else none
 |_=>none
def Nu(P:Program)(s:TypeId)(x:aJ)(i:Nat):Option Dl:=
 (JM P s i).bind fun f=>(kT P f.type).bind fun z=>(vK P f.type).bind fun ag=>
 match x with
 | .agg cs=>((part cs f.offset z).bind (BS ag)).bind (dJ · [])
 | .t (.agg cs)=>((part cs f.offset z).bind (su ag)).bind fun T=>dJ (.t T) []
 |_=>none
def yL(P:Program)(e:TypeId)(k:Nat):Bool:=match kT P e with|some z=>Nat.beq z k|none=>false
def Nv(P:Program)(t:TypeId)(x i:aJ)(st:bQ)(c:eW):Option Dl:=
 match P.underlying t,x,i with
 |some (.slice e),.t (.bX k xs),.t (.sc (.int _ j))=>
  let X:=ER c xs j.toNat
  bif yL P e k then dJ (.ec X.cells) [0<=j,xs[j.toNat]? =some X] else none
 |some (.slice e),.aF id n,.t (.sc (.int _ j))=>match st id with
  |some (.aF k fz xs)=>
   bif yL P e k then dJ (.cM id n j.toNat 0) [n=xs.length,0<=j,j< (n:Int)] else none
  |_=>none
 |some (.slice e),.cZ id,.t (.sc (.int _ j))=>match st id with
  |some (.cZ _ xs _)=>bif yL P e 1 then dJ (.eG id j.toNat) [0<=j,j< (xs.length:Int)] else none
  |_=>none
 |some (.array len e),.ptr id off,.t (.sc (.int _ j))=>
  (kT P e).bind fun z=>dJ (.ptr id (off+j.toNat*z)) [0<=j,j< (len:Int)]
 |some (.slice e),.jv id n,.t (.sc (.int _ j))=>match st id with
  |some (.box _)=>(kT P e).bind fun z=>dJ (.ptr id (j.toNat*z)) [0<=j,j< (n:Int)]
  |_=>none
 |_,_,_=>none
def Nw(P:Program)(t:TypeId)(x i:aJ):Option Dl:=
 match P.underlying t,x,i with
 |some .string,.t (.sc (.string s)),.t (.sc (.int _ j))=>dJ (.t (.sc (.int .u8 ((s[j.toNat]?).getD 0).toNat))) [0<=j,j< (s.size:Int)]
 |some (.array len e),x,.t (.sc (.int _ j))=>(kT P e).bind fun z=>(vK P e).bind fun ag=>
  match x with
  | .agg cs=>((part cs (j.toNat*z) z).bind (BS ag)).bind (dJ · [0<=j,j< (len:Int)])
  | .t (.agg cs)=>((part cs (j.toNat*z) z).bind (su ag)).bind fun T=>dJ (.t T) [0<=j,j< (len:Int)]
  |_=>none
 |_,_,_=>none
def JS(k:Nat)(xs:List Tree)(lo hi:Option Int):Tree:=
 match lo,hi with
 |none,none=> .bX k xs
 |some l,none=> .bX k (xs.drop l.toNat)
 |none,some h=> .bX k (xs.take h.toNat)
 |some l,some h=> .bX k ((xs.take h.toNat).drop l.toNat)
def GH(n:Nat)(lo hi:Option Int):List Prop:=
 match lo,hi with
 |none,none=>[]
 |some l,none=>[0<=l,l<=(n:Int)]
 |none,some h=>[0<=h,h<=(n:Int)]
 |some l,some h=>[0<=l,l<=h,h<=(n:Int)]
def ES(o:Option aJ):Option (Option Int):=
 match o with
 |none=>some none
 |some (.t (.sc (.int _ j)))=>some (some j)
 |some _=>none
def JT(P:Program)(t:TypeId)(x:aJ)(lo hi mx:Option aJ)(st:bQ):Option Dl:=
 match mx,ES lo,ES hi with
 |none,some lo,some hi=>
  match P.underlying t,x with
  |some .string,.t (.sc (.string s))=>
   let l:=lo.getD 0
   let h:=hi.getD (s.size:Int)
   dJ (.t (.sc (.string (s.extract l.toNat h.toNat)))) [0<=l,l<=h,h<=(s.size:Int)]
  |some (.slice e),.t (.bX k xs)=>
   bif yL P e k then
    dJ (.t (JS k xs lo hi)) (GH xs.length lo hi) else none
  |some (.slice e),.t (.sc (.slice none 0 0))=>(kT P e).bind fun _=>dJ (.t (.sc (.slice none 0 0))) (GH 0 lo hi)
  |some (.slice e),.aF id n=>match st id with
   |some (.aF k fz xs)=>
    bif yL P e k then
     some ⟨.t (JS k xs lo hi),(bif fz then[] else[(id,.aF k true xs)]),(n=xs.length)::GH xs.length lo hi⟩ else none
   |_=>none
  |_,_=>none
 |_,_,_=>none
def JU(P:Program)(t:TypeId)(x:aJ)(lo hi:Option aJ)(mx:aJ):Option Dl:=
 match P.underlying t,x,lo,hi,mx with
 |some (.slice e),.t (.bX k xs),none,some (.t (.sc (.int _ h))),.t (.sc (.int _ m))=>
  bif yL P e k then dJ (.xl k (xs.take h.toNat)) [0<=h,h<=(xs.length:Int),m=h] else none
 |_,_,_,_,_=>none
def Ny(P:Program)(t:TypeId)(parts:List (Nat×aJ)):Option Dl:=
 (Az P t).bind fun z=>
 (Ti P t).bind fun place=>bif parts.all (fun p=>(cI p.2).all tY) then(Di place (z.map .t) parts).bind fun cs=>dJ (pR cs) [] else none
def Nz(P:Program)(t:TypeId)(len:Nat)(parts:List (Nat×aJ))(st:bQ)(bf:Nat):Option Dl:=
 (Df P t).bind fun e=>(kT P e).bind fun k=>(vK P e).bind fun ag=>(Az P e).bind fun z=>
 match BT st (parts.map (·.2)) with
 |some (vs,f,p)=>
  bif Nat.ble (len*k) 16777216&&Nat.blt 0 k&&Nat.beq z.length k&&vs.all (fun v=>(cI v).all tY) then
   (Di (fun i=>some (i*k,k)) ((fW z len).map .t) ((parts.map (·.1)).zip vs)).bind fun cs=>(wG cs).bind fun ts=>(BU ag k len ts).bind fun xs=>
    some ⟨.aF bf len,f++[(bf,.aF k false xs)],p⟩
  else none
 |none=>none
def NA(P:Program)(t:TypeId)(len:Nat)(parts:List (Nat×aJ))(bf:Nat):Option Dl:=
 (Df P t).bind fun e=>(kT P e).bind fun k=>(Az P e).bind fun z=>
  bif Nat.ble (len*k) 16777216&&Nat.blt 0 (len*k)&&Nat.beq z.length k&&parts.all (fun p=>(cI p.2).all tY) then
   (Di (fun i=>some (i*k,k)) ((fW z len).map .t) parts).bind fun cs=>some ⟨.jv bf len,[(bf,.box cs)],[]⟩
  else none
def NB(P:Program)(e:TypeId)(bf:Nat):Option Dl:=(Az P e).bind fun z=>some ⟨.ptr bf 0,[(bf,.box (z.map .t))],[]⟩
def NC(v:aJ)(bf:Nat):Option Dl:=bif (cI v).all tY then some ⟨.ptr bf 0,[(bf,.box (cI v))],[]⟩ else none
def yM:List Tree->List Tree->Prop
 | [],[]=>True
 |T::l,T'::l'=>(T=T'\/(T= .sc (.slice none 0 0)/\∃k,0<k/\T'= .bX k []))/\yM l l'
 |_,_=>False
def AB(b:Nat):Int:=bif Nat.ble b 256 then 1099511627776 else 8589934592
def ND(P:Program)(t:TypeId)(l c:aJ)(bf:Nat)(yN:eW):Option Dl:=
 (Df P t).bind fun e=>(kT P e).bind fun k=>(GA P e).bind fun b=>(vK P e).bind fun ag=>(Az P e).bind fun z=>(su ag z).bind fun x=>
 match l,c with
 | .t (.sc (.int _ n)),.t (.sc (.int _ m))=>
  bif !yN.fx.isEmpty then
   match yN.xA with
   |some y=>bif Nat.beq k 1&&Nat.beq z.length 1&&Nat.ble b 256&&y.bZ then some ⟨.cZ bf,[(bf,.cZ false (List.replicate n.toNat y) none)],[0<=n,n=m,m<=1099511627776,yM x.cells y.cells]⟩ else none
   |none=>none
  else
  bif Nat.blt 0 k&&Nat.beq z.length k&&Nat.ble b 16384 then some ⟨.aF bf n.toNat,[(bf,.aF k false (List.replicate n.toNat (yN.xA.getD x)))],[0<=n,n<=m,m<=AB b]++(match yN.xA with|some y=>[yM x.cells y.cells]|none=>[])⟩ else none
 |_,_=>none
def NF(P:Program)(t:TypeId)(x:aJ)(st:bQ):Option Dl:=
 match P.underlying t,x with
 |some .string,.t (.sc (.string s))=>dJ (.t (.sc (.int .i64 (s.size:Int)))) []
 |some (.slice _),.t (.bX _ xs)=>dJ (.t (.sc (.int .i64 (xs.length:Int)))) []
 |some (.slice _),.t (.sc (.slice _ n _))=>dJ (.t (.sc (.int .i64 (n:Int)))) []
 |some (.slice _),.aF id n=>dJ (.t (.sc (.int .i64 (n:Int)))) []
 |some (.slice _),.jv id n=>dJ (.t (.sc (.int .i64 (n:Int)))) []
 |some (.array n _),_=>dJ (.t (.sc (.int .i64 (n:Int)))) []
 |_,_=>none
def NH(st:bQ)(k:Nat):aJ->Option (List Tree×List Prop)
 | .t (.bX k' xs)=>bif Nat.beq k k' then some (xs,[]) else none
 | .t (.sc (.slice none 0 0))=>some ([],[])
 | .aF id n=>match st id with
  |some (.aF k' _ xs)=>bif Nat.beq k k' then some (xs,[n=xs.length]) else none
  |_=>none
 |_=>none
def AD(b:Nat):Nat:=bif Nat.ble b 128 then 1099511627776 else 8589934592
def NI(P:Program)(ts:Array TypeId)(s x:aJ)(st:bQ)(bf:Nat):Option Dl:=
 match ts.toList with
 | [tS,tX]=>
  (Df P tS).bind fun e=>(kT P e).bind fun k=>(GA P e).bind fun b=>(Az P e).bind fun z=>(NH st k x).bind fun(ys,p)=>
  bif Nat.beq tS tX&&Nat.blt 0 k&&Nat.ble b 16384&&Nat.beq z.length k then
   match s with
   | .t (.sc (.slice none 0 0))=>some ⟨.aF bf ys.length,[(bf,.aF k false ys)],p++[ys.length<=AD b]⟩
   | .aF id n=>match st id with
    |some (.aF k' false xs)=>bif Nat.beq k k' then some ⟨.aF id (n+ys.length),[(id,.aF k false (xs++ys))],p++[n=xs.length,n+ys.length<=AD b]⟩ else none
    |_=>none
   | .xl k' xs=>bif Nat.beq k k' then some ⟨.aF bf (xs.length+ys.length),[(bf,.aF k false (xs++ys))],p++[0<ys.length,xs.length+ys.length<=AD b]⟩ else none
   |_=>none
  else none
 |_=>none
def GI(uZ:Bool):Int->List aJ->Option Int
 |a,[]=>some a
 |a,v::l=>match v with
  | .t (.sc (.int _ b))=>GI uZ (bif uZ then(if b>a then b else a) else(if b<a then b else a)) l
  |_=>none
def JV(uZ:Bool)(xs:List aJ):Option Dl:=
 match xs with
 | .t (.sc (.int k a))::l=>(GI uZ a l).bind fun r=>dJ (.t (.sc (.int k r))) []
 |_=>none
def JW(P:Program)(t:TypeId)(x:aJ)(lo hi mx:Option aJ)(st:bQ)(bf:Nat):Option Dl:=
 match mx,ES lo,ES hi with
 |none,some (some l),some none=>
  match P.underlying t,x with
  |some (.slice e),.aF id n=>match st id with
   |some (.aF k fz xs)=>bif yL P e k then dJ (.tail id n l.toNat) [n=xs.length,0<=l,l<=(n:Int)] else none
   |_=>none
  |_,_=>none
 |none,some none,some (some h)=>
  match P.underlying t,x with
  |some (.slice e),.aF id n=>match st id with
   |some (.aF k false xs)=>bif yL P e k then some ⟨.aF bf h.toNat,[(id,.gone),(bf,.aF k false (xs.take h.toNat))],[n=xs.length,0<=h,h<=(n:Int)]⟩ else none
   |_=>none
  |_,_=>none
 |_,_,_=>none
def NJ(P:Program)(t:TypeId)(x:aJ)(st:bQ):Option Dl:=
 (Df P t).bind fun e=>(kT P e).bind fun k=>(vK P e).bind fun ag=>(Az P e).bind fun z=>(su ag z).bind fun X=>
 match x with
 | .tail id n i=>match st id with
  |some (.aF k' false xs)=>bif Nat.beq k k'&&Nat.beq z.length k then some ⟨.aZ [],[(id,.aF k false (xs.take i++List.replicate (n-i) X))],[n=xs.length,i<=n]⟩ else none
  |_=>none
 |_=>none
def JX(P:Program)(t:TypeId)(x:aJ)(bf:Nat):Option Dl:=
 match P.underlying t,x with
 |some .string,.t (.sc (.string s))=>some ⟨.fO bf,[(bf,.fo s 0)],[]⟩
 |_,_=>none
def NK(it:aJ)(isStr:Bool)(st:bQ)(c:eW):Option Dl:=
 match it with
 | .fO id=>match st id with
  |some (.fo s p)=>bif isStr then
   bif c.fx.isEmpty then some ⟨.aZ [.t (.sc (.bool true)),.t (.sc (.int .i64 (p:Int))),.t (.sc (.int .i32 ((Utf8.decode s p).1:Int)))],[(id,.fo s (p+(Utf8.decode s p).2))],[p<s.size]⟩
   else some ⟨.aZ [.t (.sc (.bool false))],[],[s.size<=p]⟩
   else none
  |_=>none
 |_=>none
def wH:List (Int×MV)->Int->Option MV
 | [],_=>none
 | (k',v)::l,k=>if k=k' then some v else wH l k
def wI:List (Int×MV)->Int->MV->List (Int×MV)
 | [],k,v=>[(k,v)]
 | (k',v')::l,k,v=>if k=k' then(k',v)::l else(k',v')::wI l k v
def JY(P:Program)(t:TypeId):Option TypeId:=
 match P.underlying t with
 |some (.map k e)=>match P.underlying k with
  |some (.int .i64)=>some e
  |_=>none
 |_=>none
def NL(P:Program)(t:TypeId)(r:Option Operand)(bf:Nat):Option Dl:=
 match r with
 |none=>some ⟨.fO bf,[(bf,.mp [] none)],[]⟩
 |some _=>none
def NM(ok:Bool)(v:aJ)(b:Bool):aJ:=bif ok then .aZ [v,.t (.sc (.bool b))] else v
def NN(P:Program)(t:TypeId)(x k:aJ)(ok:Bool)(st:bQ)(bf:Nat)(c:eW):Option Dl:=
 match JY P t,x,k,c.call with
 |some e,.fO id,.t (.sc (.int .i64 n)),some co=>match st id with
  |some (.mp es none)=>match co.mode with
   |0=>(vL P e).bind fun z=>bif z.oneCell' then dJ (NM ok (.t (.sc z)) false) [wH es n=none] else none
   |1=>match co.res with
    | .t T=>dJ (NM ok (.t T) true) [wH es n=some (.im T)]
    |_=>none
   |_=>none
  |_=>none
 |_,_,_,_=>none
def NO(n:Int):Option (Int×aJ)->List Prop
 |none=>[]
 |some (n',_)=>[n=n']
def JZ(P:Program)(t:TypeId)(x k v:aJ)(st:bQ)(c:eW):Option Dl:=
 match JY P t,x,k with
 |some _,.fO id,.t (.sc (.int .i64 n))=>match st id with
  |some (.mp es h)=>match v with
   | .t T=>some ⟨.cH,[(id,.mp (wI es n (.im T)) none)],NO n h⟩
   |_=>none
  |_=>none
 |_,_,_=>none
def FC(P:Program)(f:FuncId)(args:List aJ)(st:bQ)(res:aJ)(st':bQ):Prop:=
 ∀(F:eL P) (m:Place) (w:World) (us:List Value),aY F st m w->us.length=args.length->
  (∀(i:Nat) (v:aJ) (u:Value),args[i]? =some v->us[i]? =some u->aO st m w (okB F st m w) v u)->
  Calls P f us.toArray w fun e w'=> ∃v m',e= .returned v/\aY F st' m' w'/\aK F st m w st' m' w'/\aO st' m' w' (okB F st' m' w') res v
def td(P:Program)(f:FuncId):Bool:=
 match P.funcs[f]? with
 |some fn=>fn.body.isSome&& !(fn.name== "runtime.NumGoroutine")
 |none=>false
def Tn(st:bQ)(need:List Nat):Bool:=need.all fun id=>match st id with|some (.box cs)=>(rK cs).all (lN need)|some (.cZ _ _ (some _))=>false|some (.mp _ (some _))=>false|some (.fG iJ _ _)=>lN need iJ|_=>true
def ET(st:bQ):List Nat->Option (List (Nat×Ob))
 | []=>some []
 |i::l=>match st i,ET st l with
  |some o,some r=>some ((i,o)::r)
  |_,_=>none
def EU(P:Program)(f:FuncId)(jw:List aJ)(st:bQ)(bf:Nat)(c:nc):Option Dl:=
 match c.mode with
 |0=>match BT st jw with
  |some (vs,_,p)=>bif Nk c.res&&(rK vs).isEmpty then some ⟨c.res,[],(td P f=true)::(p++[FC P f vs emp c.res emp])⟩ else none
  |none=>none
 |1=>match BT st jw with
  |some (vs,g,p)=>
   bif c.wr.all (fun x=>Nat.ble bf x.1&&Nat.blt x.1 (bf+8))&&(rK vs).isEmpty then some ⟨c.res,g++c.wr,(td P f=true)::(p++[FC P f vs emp c.res (app emp c.wr)])⟩ else none
  |none=>none
 |3=>match ET st c.need with
  |some l=>bif c.wr.all (fun x=>lN c.need x.1|| (Nat.ble bf x.1&&Nat.blt x.1 (bf+8)))&&(rK jw).all (lN c.need)&&Tn st c.need then
   some ⟨c.res,c.wr,[td P f=true,FC P f jw (app emp l) c.res (app (app emp l) c.wr)]⟩ else none
  |none=>none
 |_=>
  bif c.wr.all (fun x=>lN c.need x.1|| (Nat.ble bf x.1&&Nat.blt x.1 (bf+8)))&&(rK jw).all (lN c.need)&&Tn st c.need then
   some ⟨c.res,c.wr,[td P f=true,FC P f jw (only st c.need) c.res (app (only st c.need) c.wr)]⟩ else none
def GJ(P:Program)(u:Value)(args:Array Value)(w:World)(R:Ending->World->Prop):Prop:=
 ∃t cap nx,u= .func t #[] cap/\(invoke (.fn t cap) args).run P w= .ok nx w/\
  match nx with
  | .enter f bs=>CallsIn Fence.wide 0 P f bs w R
  | .round l f tmps asg b=>RoundIn Fence.wide 0 P l f tmps asg b w R
  |_=>False
def w0C(Y:nF)(pre:List (List Tree))(xs:List Tree)(g:List Nat)(w:World)(e:Ending)(w':World):Prop:=
 e= .returned (.bool (Y.goes (pre++[xs])))/\w'.os=w.os/\w'.tape=w.tape/\w'.output=w.output/\w.heap.size<=w'.heap.size/\
  (∀b,b<w.heap.size->b∉g->w'.heap[b]? =w.heap[b]?)/\
  ∃g',(∀b∈g,b∈g')/\(∀b∈g',b∈g\/(w.heap.size<=b/\b<w'.heap.size))/\Y.holds (pre++[xs]) g' w'
def x80(P:Program)(Y:nF):Prop:=
 ∀(pre:List (List Tree)) (xs:List Tree) (us:List Value) (g:List Nat) (w:World),Y.Tc pre xs->Y.holds pre g w->(∀b∈g,b<w.heap.size)->us.length=xs.length->
  (∀(i:Nat) (x:Tree) (u:Value),xs[i]? =some x->us[i]? =some u->cr w (fun _=>False) x u)->GJ P Y.fn us.toArray w (w0C Y pre xs g w)
def NQ(P:Program)(id:Nat)(jw:List aJ)(st:bQ):Option Dl:=
 match st id,wG jw with
 |some (.ext Y pre),some xs=>bif xs.all Tree.free then some ⟨.t (.sc (.bool (Y.goes (pre++[xs])))),[(id,.ext Y (pre++[xs]))],[x80 P Y,Y.Tc pre xs]⟩ else none
 |_,_=>none
def ev(sl:List (Nat×aJ)):Operand->aJ
 | .tmp t=>get sl t
 | .const (.agg cs)=>bif cs.toList.all Value.oneCell' then .t (.agg (cs.toList.map .sc)) else .cH
 | .const (.tuple _)=> .cH
 | .const v=> .t (.sc v)
 | .func f=> .fn f []
 | .global _=> .cH
def EV:aJ->aJ
 | .cond _ v=>v
 |v=>v
def GL(ρ:Dh):List Operand->List Prop
 | []=>[]
 |x::l=>match ρ x with
  | .cond c _=>(c=true)::GL ρ l
  |_=>GL ρ l
def sv(P:Program)(op:Op)(ty:TypeId)(ρ:Dh)(st:bQ)(bf:Nat)(c:eW):Option Dl:=
 match op with
 | .move x=>dJ (ρ x) []
 | .assign x=>dJ (ρ x) []
 | .alloc e=>NB P e bf
 | .box _ x=>NC (ρ x) bf
 | .build t ps=>Ny P t (ps.toList.map fun(i,x)=>(i,ρ x))
 | .buildSlice t len ps=>bif c.xA.isSome then NA P t len (ps.toList.map fun(i,x)=>(i,ρ x)) bf else Nz P t len ((ps.toList.map fun(i,x)=>(i,ρ x)).map (w2q c.fx)) st bf
 | .load t a=>GF P t (ρ a) st c
 | .store t a x=>Ns P t (ρ a) (ρ x) st c
 | .nilCheck x=>match ρ x with
  | .ptr id off=>dJ (.ptr id off) []
  | .cM id n i sub=>dJ (.cM id n i sub) []
  | .ec cs=>dJ (.ec cs) []
  | .fn f cap=>dJ (.fn f cap) []
  | .eG id i=>dJ (.eG id i) []
  | .yl id=>dJ (.yl id) []
  |_=>none
 | .binOp b t x y _=>bif c.fx.isEmpty then JQ P b t y (ρ x) (ρ y) else JR P b t (ρ x) (ρ y)
 | .unOp u _ x=>Np u (ρ x)
 | .convert s d x=>Nr P s d (ρ x) st c
 | .makeFunc (.func f) first cap=>bif first.isEmpty then dJ (.fn f (cap.toList.map ρ)) [] else none
 | .makeSlice t l k=>ND P t (ρ l) (ρ k) bf c
 | .slice t x lo hi none=>bif c.fx.isEmpty then JT P t (ρ x) (lo.map ρ) (hi.map ρ) none st else JW P t (ρ x) (lo.map ρ) (hi.map ρ) none st bf
 | .slice t x lo hi (some mx)=>JU P t (ρ x) (lo.map ρ) (hi.map ρ) (ρ mx)
 | .range t x=>bif c.fx.isEmpty then JX P t (ρ x) bf else none
 | .makeMap t r=>NL P t r bf
 | .lookup t x k ok=>NN P t (ρ x) (ρ k) ok st bf c
 | .mapUpdate t x k v=>JZ P t (ρ x) (ρ k) (ρ v) st c
 | .insert t x k v=>JZ P t (ρ x) (ρ k) (ρ v) st c
 | .entry _=>none
 | .next it s=>NK (ρ it) s st c
 | .fieldAddr s a f=>Nt P s (ρ a) f
 | .field s x f=>Nu P s (ρ x) f
 | .indexAddr t x i=>Nv P t (ρ x) (ρ i) st c
 | .index t x i=>Nw P t (ρ x) (ρ i)
 | .extract t i=>match ρ t with
  | .aZ vs=>vs[i]?.bind (dJ · [])
  |_=>none
 | .call {callee:= .builtin .len,args,argTypes}=>match args.toList,argTypes.toList with
  | [x],[t]=>NF P t (ρ x) st
  |_,_=>none
 | .call {callee:= .builtin .append,args,argTypes}=>match args.toList with
  | [s,x]=>NI P argTypes (ρ s) (ρ x) st bf
  |_=>none
 | .call {callee:= .builtin .clear,args,argTypes}=>match args.toList,argTypes.toList with
  | [x],[t]=>NJ P t (ρ x) st
  |_,_=>none
 | .call {callee:= .builtin .max,args,argTypes}=>JV true (args.toList.map ρ)
 | .call {callee:= .builtin .min,args,argTypes}=>JV false (args.toList.map ρ)
 | .call {callee:= .value f,args,argTypes}=>match ρ f,c.call with
  | .fn f cap,some co=>EU P f (args.toList.map ρ++cap) st bf co
  | .yl id,_=>NQ P id (args.toList.map ρ) st
  |_,_=>none
 |_=>none
structure St where
 sl:List (Nat×aJ)
 st:bQ
 nx:Nat
structure iu where
 val:aJ
 wr:List (Nat×Ob)
 need:List Nat
 jW:List Prop
def x6D:Op->Bool
 | .move _=>true
 | .assign _=>true
 | .pick _ _ _=>true
 | .binOp _ _ _ _ _=>true
 | .unOp _ _ _=>true
 | .nilCheck _=>true
 | .fieldAddr _ _ _=>true
 | .field _ _ _=>true
 | .makeFunc _ _ _=>true
 | .extract _ _=>true
 | .alloc _=>true
 |_=>false
def J1(ρ:Dh)(op:Op)(c:eW):List Nat:=
 (bif x6D op then[] else rK (op.operands.toList.map ρ))++(match c.call with|some co=>co.need|none=>[])
def GM(ops:List Oper)(j:Nat):Option Nat:=(ops[j]?).bind (·.dst)
def GN(ops:List Oper)(sl:List (Nat×aJ))(o:Oper):Option (Option Bool):=
 match o.guard with
 |none=>some none
 |some (j,want)=>match GM ops j with
  |none=>none
  |some d=>match get sl d with
   | .t (.sc (.bool g))=>some (some (bif want then g else !g))
   | .cond c (.t (.sc (.bool g)))=>some (some (c&&(bif want then g else !g)))
   |_=>none
def vM(c a b:aJ):Option Dl:=
 match EV c,EV a,EV b with
 | .t (.sc (.bool g)),.t (.sc (.bool x)),.t (.sc (.bool y))=>
  some ⟨.t (.sc (.bool (bif g then x else y))),[],
   (match c with| .cond k _=>[k=true]|_=>[])++(match a with| .cond k _=>[g=true->k=true]|_=>[])++(match b with| .cond k _=>[g=false->k=true]|_=>[])⟩
 |_,_,_=>none
def ovC{α:Type}(o:Option α)(d:α):List Prop:=match o with|some v=>[v=d]|none=>[]
def jA(d v:aJ):Prop:=∀(st:bQ) (m:Place) (w:World) (ok:Nat->Prop) (u:Value),aO st m w ok d u->aO st m w ok v u
def wkC(o:Option aJ)(d:aJ):List Prop:=match o with|some v=>[jA d v]|none=>[]
def EW(P:Program)(s:St)(o:Oper)(bf:Nat)(c:eW):Option iu:=
 let ρ:=ev s.sl
 match o.op with
 | .pick g a b=>(vM (ρ g) (ρ a) (ρ b)).map fun δ=>⟨δ.val,[],[],δ.jW⟩
 |op=>
  let need:=J1 ρ op c
  (sv P op o.type (fun x=>EV (ρ x)) (only s.st need) bf c).map fun δ=>
   ⟨Nl c.fx (c.val.getD δ.val),c.wr.getD δ.wr,need,GL ρ op.operands.toList++δ.jW++wkC c.val δ.val++ovC c.wr δ.wr⟩
def NR(P:Program)(ops:List Oper)(s:St)(o:Oper)(bf:Nat)(c:eW):Option iu:=
 match GN ops s.sl o,EW P s o bf c with
 |some none,some r=>some r
 |some (some e),some r=>some ⟨.cond e r.val,r.wr,r.need,r.jW.map (fun p=>e=true->p)++(match r.wr with| []=>[]|_::_=>[e=true])⟩
 |_,_=>none
def w0D(c:eW):Option aJ:=match c.call with
 |some ⟨9,_,v,_⟩=>some v
 |_=>none
def GO(P:Program)(ops:List Oper)(s:St)(o:Oper)(bf:Nat)(c:eW):Option iu:=
 match w0D c with
 |some v=>match GN ops s.sl o with
  |some (some e)=>some ⟨.cond e v,[],[],[e=false]⟩
  |_=>none
 |none=>NR P ops s o bf c
def put(sl:List (Nat×aJ))(d:Option Nat)(v:aJ):List (Nat×aJ):=
 match d with
 |some d=>(d,v)::sl
 |none=>sl
def J2:List (Nat×eW)->Nat->eW
 | [],_=>eW.no
 | (i,c)::l,j=>bif Nat.beq i j then c else J2 l j
def gK(P:Program)(ops:List Oper)(fC:List (Nat×eW))(nx:Nat):Nat->List Oper->St->Option (St×List iu)
 |_,[],s=>some (s,[])
 |i,o::rest,s=>
  match GO P ops s o (nx+8*i) (J2 fC i) with
  |some r=>bif !(r.wr.all fun x=>Nat.blt x.1 (nx+8*i+8)) then none else match gK P ops fC nx (i+1) rest ⟨put s.sl o.dst r.val,app s.st r.wr,s.nx⟩ with
   |some (s',rs)=>some (s',r::rs)
   |none=>none
  |none=>none
def BV(n:Nat)(o:Oper):Bool:=match o.dst with|some d=>Nat.blt d n|none=>true
def yO:List iu->List Prop
 | []=>[]
 |r::l=>r.jW++yO l
def b8:List Prop->Prop
 | []=>True
 |p::l=>p/\b8 l
def wJ(sl:List (Nat×aJ)):List Nat->List (Nat×aJ)
 | []=>[]
 |k::l=>(k,get sl k)::wJ sl l
def To(ms:List Nat)(o:Oper):Nat:=o.after.toList.foldl (fun s e=>bif Region.binds .any e then s|||2^e.on|||ms.getD e.on 0 else s) 0
def BW:List Oper->List Nat->List Nat
 | [],ms=>ms
 |o::l,ms=>BW l (ms++[To ms o])
def looks(ops:List Oper)(o:Oper):List Nat:=
 (o.op.operands.toList.filterMap fun| .tmp t=>some t|_=>none)++(match o.guard with|some (j,_)=>(GM ops j).toList|none=>[])
def J3(a b:List Nat):Bool:=a.any fun i=>lN b i
def tZ(r:iu):List Nat:=r.wr.map (·.1)
def GQ(ops:List Oper)(bf:Nat)(o o':Oper)(r r':iu):Bool:=
 !(match o.dst with|some d=>lN (looks ops o') d|| (match o'.dst with|some d'=>Nat.beq d d'|none=>false)|none=>false)&&
 !(match o'.dst with|some d=>lN (looks ops o) d|none=>false)&&
 !(J3 (tZ r) (r'.need++tZ r'))&& !(J3 (tZ r') r.need)&& !((tZ r').any fun x=>Nat.ble bf x&&Nat.blt x (bf+8))
def x6E(i:Nat)(o:Oper):Bool:=o.after.toList.all fun e=> !(Region.binds .any e)||Nat.blt e.on i
def GR:Nat->List Oper->Bool
 |_,[]=>true
 |i,o::l=>x6E i o&&GR (i+1) l
def GS(ops:List Oper)(bf i:Nat)(o:Oper)(r:iu):List Oper->List iu->List Nat->Bool
 |o'::l,r'::rs,mk::ms=>(Nat.testBit mk i||GQ ops bf o o' r r')&&GS ops bf i o r l rs ms
 | [],[],[]=>true
 |_,_,_=>false
def GU(ops:List Oper)(nx:Nat):Nat->List Oper->List iu->List Nat->Bool
 |i,o::l,r::rs,_::ms=>GS ops (nx+8*i) i o r l rs ms&&GU ops nx (i+1) l rs ms
 |_,[],[],[]=>true
 |_,_,_,_=>false
def EX(ops:List Oper)(nx:Nat)(rs:List iu):Bool:=GR 0 ops&&GU ops nx 0 ops rs (BW ops [])
def EY(P:Program)(n:Nat)(ops:List Oper)(draw:Bool)(fC:List (Nat×eW))(keys:List Nat)(s:St):Option (St×List Prop):=
 match gK P ops fC s.nx 0 ops s with
 |some (s',rs)=>
  bif (ops.all (BV n))&&(!draw||EX ops s.nx rs) then some (⟨wJ s'.sl keys,s'.st,s.nx+8*ops.length⟩,yO rs) else none
 |none=>none
end Go.Ab
end
section
namespace Go.Ab
variable {P:Program}
theorem kQ{a b:Nat}(h:a≠b):Nat.beq a b=false:=by
 cases hh:Nat.beq a b with
 |false=>rfl
 |true=>exact absurd (qJ hh) h
theorem pS{l:List Nat}{j:Nat}:lN l j=true↔j∈l:=by
 induction l with
 |nil=>simp[lN]
 |cons a l ih=>
  simp only[lN,qg];by_cases h:a=j
  ·subst h;simp
  have:Nat.beq a j=false:=kQ h;rw[this];simp only[cond_false,ih];exact⟨.inr,fun h'=>h'.resolve_left (fun e=>h e.symm)⟩
theorem NS{st:bQ}{l:List Nat}{id:Nat}{o:Ob}(h:only st l id=some o):st id=some o/\id∈l:=by
 unfold only at h;cases hh:lN l id with
 |true=>rw[hh] at h;exact⟨h,pS.1 hh⟩
 |false=>rw[hh] at h;cases h
theorem Tp{st:bQ}{l:List Nat}{id:Nat}(h:id∈l):only st l id=st id:=by
 unfold only;rw[pS.2 h];rfl
theorem iV(st:bQ)(i:Nat)(o:Ob):bO st i o i=some o:=by simp[bO]
theorem eC{st:bQ}{i j:Nat}{o:Ob}(h:j≠i):bO st i o j=st j:=by
 have:Nat.beq j i=false:=kQ h;simp[bO,this]
theorem aO.ext{st st':bQ}{m m':Place}{w:World}{ok ok':Nat->Prop}(hs:∀id o,st id=some o->st' id=some o/\m' id=m id)(dF:∀b,ok b->ok' b)
 {v:aJ} {u:Value} (h:aO st m w ok v u):aO st' m' w ok' v u:=by
 induction h with
 |t T u hT=>exact .t T u (hT.mono dF (fun _ _ _ _ h=>h))
 |xl k xs u hT hc=>exact .xl k xs u (hT.mono dF (fun _ _ _ _ h=>h)) hc
 |aF id n k fz xs L h1 h2 h3=>exact .aF id n k fz xs L (hs _ _ h1).1 h2 (by rw[(hs _ _ h1).2];exact h3)
 |ptr id off cs b h1 h2=>exact .ptr id off cs b (hs _ _ h1).1 (by rw[(hs _ _ h1).2];exact h2)
 |jv id n cs b h1 h2=>exact .jv id n cs b (hs _ _ h1).1 (by rw[(hs _ _ h1).2];exact h2)
 |iT id n L h1=>exact .iT id n L (hs _ _ h1).1
 |cM id n i sub k fz xs b h1 h2 h3=>exact .cM id n i sub k fz xs b (hs _ _ h1).1 h2 (by rw[(hs _ _ h1).2];exact h3)
 |cZ id fz xs hh L h1 h2=>exact .cZ id fz xs hh L (hs _ _ h1).1 (by rw[(hs _ _ h1).2];exact h2)
 |eG id i fz xs hh b h1 h2=>exact .eG id i fz xs hh b (hs _ _ h1).1 (by rw[(hs _ _ h1).2];exact h2)
 |ec cs b o us h1 h2 h3 h4 h5=>exact .ec cs b o us (dF _ h1) h2 h3 h4 (fun j T u a b=>(h5 j T u a b).mono dF (fun _ _ _ _ h=>h))
 |agg cs us h1 _ h3 ih=>exact .agg cs us h1 ih h3
 |fn f cap us h1 _ ih=>exact .fn f cap us h1 ih
 |aZ vs us h1 _ ih=>exact .aZ vs us h1 ih
 |cond c v u _ h0 ih=>exact .cond c v u ih h0
 |cH u=>exact .cH u
 |fH id n L h1=>exact .fH id n L (hs _ _ h1).1
 |eT id n i sub b o h1=>exact .eT id n i sub b o (hs _ _ h1).1
 |eZ b=>exact .eZ b
 |kS t u=>exact .kS t u
 |tail id n i k fz xs L h1 h2 h3 h4=>exact .tail id n i k fz xs L (hs _ _ h1).1 h2 h3 (by rw[(hs _ _ h1).2];exact h4)
 |fP id n i k L h1=>exact .fP id n i k L (hs _ _ h1).1
 |fO id o b u h1 h2 h3=>exact .fO id o b u (hs _ _ h1).1 (by rw[(hs _ _ h1).2];exact h2) h3
 |gN id off b h1=>exact .gN id off b (hs _ _ h1).1
 |yl id Y pre h1=>exact .yl id Y pre (hs _ _ h1).1
theorem nF.one(Y:nF):Y.fn.oneCell'=true:=by rcases Y.af with⟨_,_,h⟩| ⟨_,h⟩<;>rw[h]<;>rfl
theorem y8F{o:Ob}{b:Nat}{u:Value}(h:Ay o b=some u):u.oneCell'=true:=by
 cases o<;>simp[Ay] at h<;>subst h<;>rfl
theorem y97{u:Value}(h:u.oneCell'=true):u.cells=#[u]:=by
 cases u<;>first|rfl| (simp[Value.oneCell'] at h)
theorem aO.cellsOf{st:bQ}{m:Place}{w:World}{ok:Nat->Prop}{v:aJ}{u:Value}(h:aO st m w ok v u)(hc:(cI v).all tY=true):
 ∃us:List Value,u.cells=us.toArray/\us.length=(cI v).length/\
  ∀(i:Nat) (v':aJ) (u':Value),(cI v)[i]? =some v'->us[i]? =some u'->aO st m w ok v' u'/\u'.oneCell'=true:=by
 have single:∀(mh:Ab.cI v=[v]),u.oneCell'=true->∃us:List Value,u.cells=us.toArray/\us.length=(Ab.cI v).length/\
  ∀(i:Nat) (v':aJ) (u':Value),(Ab.cI v)[i]? =some v'->us[i]? =some u'->aO st m w ok v' u'/\u'.oneCell'=true:=by
  intro mh h1;refine⟨[u],y97 h1,by rw[mh];rfl,fun i v' u' hv hu=> ?_⟩;rw[mh] at hv
  match i with
  |0=>simp at hv hu;subst hv;subst hu;exact⟨h,h1⟩
  |i+1=>simp at hu
 cases h with
 |t T u hT=>
  cases hT with
  |sc v h1=>exact single rfl h1
  |bX k xs A c us _ _ _ _ _ _ _=>exact single rfl rfl
  |agg cs us hl mh h1=>
   refine⟨us,rfl,by simp[Ab.cI,hl],fun i v' u' hv hu=> ?_⟩;simp only[Ab.cI,zj,qe] at hv;obtain⟨T,hT,rfl⟩:=hv;have:=h1 i T u' hT hu;exact⟨.t T u' this,this.one (mh T (qr hT))⟩
 |agg cs us hl h1 h2=>exact⟨us,rfl,hl,fun i v' u' hv hu=>⟨h1 i v' u' hv hu,h2 u' (qr hu)⟩⟩
 |aF=>exact single rfl rfl
 |ptr=>exact single rfl rfl
 |cM=>exact single rfl rfl
 |cZ=>exact single rfl rfl
 |eG=>exact single rfl rfl
 |ec=>exact single rfl rfl
 |fn=>exact single rfl rfl
 |aZ=>simp[Ab.cI,tY] at hc
 |cond=>simp[Ab.cI,tY] at hc
 |cH=>simp[Ab.cI,tY] at hc
 |fH=>exact single rfl rfl
 |eT=>exact single rfl rfl
 |eZ=>exact single rfl rfl
 |kS=>exact single rfl rfl
 |tail=>exact single rfl rfl
 |fP=>exact single rfl rfl
 |fO id o b u h1 h2 h3=>exact single rfl (y8F h3)
 |gN=>exact single rfl rfl
 |jv=>exact single rfl rfl
 |iT=>exact single rfl rfl
 |yl id Y pre h1=>exact single rfl Y.one
 |xl=>simp[Ab.cI,tY] at hc
theorem GV{cs:List aJ}{Ts:List Tree}(h:wG cs=some Ts):cs=Ts.map .t:=by
 induction cs generalizing Ts with
 |nil=>simp[wG] at h;subst h;rfl
 |cons v l ih=>
  cases v<;>simp[wG] at h;obtain⟨r,hr,rfl⟩:=h;simp[ih hr]
theorem aO.pR{st:bQ}{m:Place}{w:World}{ok:Nat->Prop}{cs:List aJ}{us:List Value}(hl:us.length=cs.length)
 (h:∀(i:Nat) (v:aJ) (u:Value),cs[i]? =some v->us[i]? =some u->aO st m w ok v u/\u.oneCell'=true):aO st m w ok (pR cs) (.agg us.toArray):=by
 unfold Ab.pR;cases ha:wG cs with
 |none=>
  simp only;refine .agg cs us hl (fun i v u a b=>(h i v u a b).1) (fun u hu=> ?_);obtain⟨i,hi,rfl⟩:=q9.1 hu;exact(h i _ _ (qa oM) (qa hi)).2
 |some Ts=>
  have mh:=GV ha;subst mh;simp only[qj] at hl;simp only;have key:∀(i:Nat) (T:Tree) (u:Value),Ts[i]? =some T->us[i]? =some u->cr w ok T u/\u.oneCell'=true:=by
   intro i T u hT hu;have:=h i (.t T) u (by simp[hT]) hu;obtain⟨h1,h2⟩:=this;cases h1 with
   |t _ _ h1=>exact⟨h1,h2⟩
  refine .t _ _ (.agg Ts us hl (fun T hT=> ?_) (fun i T u a b=>(key i T u a b).1));obtain⟨i,hi,rfl⟩:=q9.1 hT;obtain⟨h1,h2⟩:=key i _ _ (qa hi) (qa oM);generalize Ts[i]=T at h1;generalize us[i]=u at h1 h2;cases h1 with
  |agg=>simp[Value.oneCell'] at h2
  |sc=>rfl
  |bX=>rfl
def fw{P:Program}(F:eL P):Fence:={Fence.wide with round:=F.BQ}
def Up(P:Program)(F:eL P)(S:bQ)(m:Place)(w:World)(wr:List (Nat×Ob))(val:aJ)(o:Oper)(a:Act):Prop:=
 ∀(next:Act->World->Prop) (Q:Exit->Act->World->Prop),
  (∀v w' m',aY F (app S wr) m' w'->aK F S m w (app S wr) m' w'->aO (app S wr) m' w' (okB F (app S wr) m' w') val v->next (a.put o.dst v) w')->
  o.uponIn (fw F) 0 P a next Q ((execOp a.eval o).run P w)
theorem Up.value{P:Program}{F:eL P}{S:bQ}{m m':Place}{w w':World}{wr:List (Nat×Ob)}{val:aJ}{o:Oper}{a:Act}{v:Value}
 (hr:(execOp a.eval o).run P w= .ok (.value v) w') (hS:aY F (app S wr) m' w') (hF:aK F S m w (app S wr) m' w') (hv:aO (app S wr) m' w' (okB F (app S wr) m' w') val v):
 Up P F S m w wr val o a:=by
 intro next Q h;rw[hr];exact h v w' m' hS hF hv
theorem Up.skip{P:Program}{F:eL P}{S:bQ}{m m':Place}{w w':World}{wr:List (Nat×Ob)}{o:Oper}{a:Act}
 (hr:(execOp a.eval o).run P w= .ok .skip w') (hS:aY F (app S wr) m' w') (hF:aK F S m w (app S wr) m' w'):
 Up P F S m w wr .cH o a:=by
 intro next Q h;rw[hr];exact h undef w' m' hS hF (.cH _)
theorem Up.same{P:Program}{F:eL P}{S:bQ}{m:Place}{w:World}{val:aJ}{o:Oper}{a:Act}{v:Value}(hS:aY F S m w)
 (hr:(execOp a.eval o).run P w= .ok (.value v) w) (hv:aO S m w (okB F S m w) val v):Up P F S m w [] val o a:=
 Up.value hr hS (aK.refl F S m w) hv
theorem tV.cF{F:eL P}{S S':bQ}{m m':Place}{w w':World}(hF:aK F S m w S' m' w'){k:Nat}{xs:List Tree}{L:Option Nat×Nat}(h:tV w (okB F S m w) k xs L)
 (hb:∀b,L.1=some b->w'.heap[b]? =w.heap[b]?):tV w' (okB F S' m' w') k xs L:=by
 obtain⟨a1,a2,a3,a4,a5⟩:=h;refine⟨a1,a2,a3,a4,a5.imp (fun h=>h) ?_⟩;rintro⟨b,us,e,h1,h2,h3,h4,h5⟩;exact⟨b,us,e,h1,(hb b h1).trans h2,h3,h4,fun j T u p q=>hF.tree (h5 j T u p q)⟩
theorem mG.cF{F:eL P}{S S':bQ}{m m':Place}{w w':World}(hF:aK F S m w S' m' w'){v:MV}{u:Value}{c:Option Nat}(h:mG S m w (okB F S m w) v u c)
 (hb:∀b,c=some b->w'.heap[b]? =w.heap[b]?):mG S' m' w' (okB F S' m' w') v u c:=by
 cases v with
 |im T=>exact⟨hF.tree h.1,h.2⟩
 |cp cs=>exact⟨hF.val h.1,h.2⟩
 |bx cs=>
  obtain⟨b,us,e,h1,h2,h3,h4,h5,h6⟩:=h;exact⟨b,us,e,h1,h2,(hb b h1).trans h3,h4,h5,fun i T u p q=>hF.tree (h6 i T u p q)⟩
 |rw k xs=>
  obtain⟨L,h1,h2,h3⟩:=h;exact⟨L,h1,h2,h3.cF hF (fun b e=>hb b (h2.symm.trans e))⟩
theorem EP.cF{F:eL P}{S S':bQ}{m m':Place}{w w':World}(hF:aK F S m w S' m' w'){h:Option (Int×aJ)}{k:Int}{v:MV}{u:Value}{c:Option Nat}(hr:EP S m w (okB F S m w) h k v u c)
 (hb:∀b,c=some b->w'.heap[b]? =w.heap[b]?):EP S' m' w' (okB F S' m' w') h k v u c:=by
 match h with
 |none=>exact mG.cF hF hr hb
 |some (k',v')=>exact⟨fun e=>⟨hF.val (hr.1 e).1,(hr.1 e).2⟩,fun e=>(hr.2 e).cF hF hb⟩
theorem mZ.cF{F:eL P}{S S':bQ}{m m':Place}{w w':World}(hF:aK F S m w S' m' w'){o:Ob}{L:Option Nat×Nat}{g:List Nat}(h:mZ S m w (okB F S m w) o L g)
 (hb:∀b,(L.1=some b\/b∈g)->w'.heap[b]? =w.heap[b]?):mZ S' m' w' (okB F S' m' w') o L g:=by
 cases o with
 |box cs=>
  obtain⟨b,us,e,h1,h2,h3,h4⟩:=h;exact⟨b,us,e,h1,(hb b (.inl h1)).trans h2,h3,fun i v u p q=>⟨hF.val (h4 i v u p q).1,(h4 i v u p q).2⟩⟩
 |cZ fz xs hh=>
  obtain⟨⟨b,us,e,h1,h2,h3,h4⟩,q⟩:=h;exact⟨⟨b,us,e,h1,(hb b (.inl h1)).trans h2,h3,fun i v u p q=>⟨hF.val (h4 i v u p q).1,(h4 i v u p q).2⟩⟩,q⟩
 |aF k fz xs=>exact tV.cF hF h (fun b e=>hb b (.inl e))
 |gone=>exact h
 |fo s pos=>
  obtain⟨b,h1,h2⟩:=h;exact⟨b,h1,(hb b (.inl h1)).trans h2⟩
 |mp es hh=>
  obtain⟨b,bJ,bl,h1,h2,h3,h4,h5,h6,h7⟩:=h;refine⟨b,bJ,bl,h1,(hb b (.inl h1)).trans h2,h3,h4,h5,h6,fun i x e p q=> ?_⟩;obtain⟨q1,q2,q3⟩:=h7 i x e p q;exact⟨q1,q2,q3.cF hF (fun b' e'=>hb b' (.inr (h5 i b' (qA.1 p).1 e').1))⟩
 |fG iJ n seen=>
  obtain⟨b,bm,h1,h2,⟨es,hh,h3⟩,h4⟩:=h;obtain⟨o',bR,_,nG,_,_,gA⟩:=hF.bW iJ _ h3;cases o'<;>simp[Ob.same] at gA;exact⟨b,bm,h1,by rw[nG rfl];exact h2,⟨_,_,bR⟩,(hb b (.inl h1)).trans h4⟩
 |ext Y pre=>exact⟨h.1,Y.Nc _ _ _ _ h.2.1 hF.size (fun b hg=>hb b (.inr hg)) (fun b hD=>hF.heap (h.2.2 b hD)),fun b hD=>hF.ok (h.2.2 b hD)⟩
theorem freeze{F:eL P}{S:bQ}{m:Place}{w:World}(hS:aY F S m w){id k:Nat}{fz:Bool}{xs:List Tree}(bn:S id=some (.aF k fz xs)):
 aY F (bO S id (.aF k true xs)) m w/\aK F S m w (bO S id (.aF k true xs)) m w:=by
 have hF:aK F S m w (bO S id (.aF k true xs)) m w:=by
  refine⟨rfl,rfl,rfl,qp _,fun _ _ _=>rfl,fun i o ho=> ?_,fun i o ho hn=> ?_⟩
  ·by_cases e:i=id
   ·subst e;rw[bn] at ho;cases ho;exact⟨_,iV _ _ _,qp _,fun _=>rfl,fun _=>rfl,fun _ q=> .inl q,by simp[Ob.same]⟩
   refine⟨o,by rw[eC e];exact ho,qp _,fun _=>rfl,fun h=>h,fun _ q=> .inl q,o.dw⟩
  by_cases e:i=id
  ·subst e;rw[bn] at hn;cases hn
  rw[eC e] at ho;rw[ho] at hn;cases hn
 have back:∀i oi,bO S id (.aF k true xs) i=some oi->∃yP,S i=some yP:=by
  intro i oi h;by_cases e:i=id
  ·subst e;exact⟨_,bn⟩
  rw[eC e] at h;exact⟨_,h⟩
 refine⟨⟨fun i o ho=> ?_,fun i j oi oj b hi hj h1 h2=> ?_,fun i o b ho hb=> ?_,fun i o b ho hb=> ?_,hS.low,hS.hold⟩,hF⟩
 ·by_cases e:i=id
  ·subst e;rw[iV] at ho;cases ho;exact tV.cF hF (hS.cN _ _ bn) (fun _ _=>rfl)
  rw[eC e] at ho;exact(hS.cN _ _ ho).cF hF (fun _ _=>rfl)
 ·obtain⟨yP,oq⟩:=back i oi hi;obtain⟨Tq,lQ⟩:=back j oj hj;exact hS.inj i j _ _ b oq lQ h1 h2
 ·obtain⟨o',bR⟩:=back i o ho;exact hS.eD _ _ b bR hb
 obtain⟨o',bR⟩:=back i o ho;exact hS.lt _ _ b bR hb
theorem mZ.lt{S:bQ}{m:Place}{w:World}{ok:Nat->Prop}{o:Ob}{L:Option Nat×Nat}{g:List Nat}(h:mZ S m w ok o L g){b:Nat}(hb:L.1=some b):b<w.heap.size:=by
 cases o with
 |box cs=>obtain⟨b',us,e,h1,h2,_⟩:=h;rw[h1] at hb;cases hb;exact(qY.1 h2).1
 |cZ fz xs hh=>obtain⟨⟨b',us,e,h1,h2,_⟩,_⟩:=h;rw[h1] at hb;cases hb;exact(qY.1 h2).1
 |aF k fz xs=>
  obtain⟨_,_,_,_,h5⟩:=h;rcases h5 with⟨h1,_⟩| ⟨b',us,e,h1,h2,_⟩
  ·rw[h1] at hb;cases hb
  rw[h1] at hb;cases hb;exact(qY.1 h2).1
 |gone=>rw[show L.1=none from h] at hb;cases hb
 |fo s pos=>obtain⟨b',h1,h2⟩:=h;rw[h1] at hb;cases hb;exact(qY.1 h2).1
 |mp es hh=>obtain⟨b',bJ,bl,h1,h2,_⟩:=h;rw[h1] at hb;cases hb;exact(qY.1 h2).1
 |fG iJ n seen=>obtain⟨b',bm,h1,_,_,h2⟩:=h;rw[h1] at hb;cases hb;exact(qY.1 h2).1
 |ext Y pre=>rw[show L.1=none from h.1] at hb;cases hb
def place(m:Place)(id:Nat)(L:Option Nat×Nat):Place:=⟨fun j=>bif Nat.beq j id then L else m j,fun j=>bif Nat.beq j id then[] else m.g j⟩
theorem o8(m:Place)(id:Nat)(L:Option Nat×Nat):place m id L id=L:=by simp[place]
theorem vN{m:Place}{id j:Nat}{L:Option Nat×Nat}(h:j≠id):place m id L j=m j:=by
 have:Nat.beq j id=false:=kQ h;simp[place,this]
theorem z23(m:Place)(id:Nat)(L:Option Nat×Nat):(place m id L).g id=[]:=by simp[place]
theorem EZ{m:Place}{id j:Nat}{L:Option Nat×Nat}(h:j≠id):(place m id L).g j=m.g j:=by
 have:Nat.beq j id=false:=kQ h;simp[place,this]
theorem rL{m:Place}{id b:Nat}{L:Option Nat×Nat}:(place m id L).has id b↔L.1=some b:=by
 unfold Place.has;rw[o8,z23];simp
theorem mj{m:Place}{id j b:Nat}{L:Option Nat×Nat}(h:j≠id):(place m id L).has j b↔m.has j b:=by
 unfold Place.has;rw[vN h,EZ h]
theorem GW{F:eL P}{S:bQ}{m:Place}{w w':World}{id:Nat}{o:Ob}{L:Option Nat×Nat}(bn:S id=none)
 (Dj:w'.os=w.os) (nH:w'.tape=w.tape) (nI:w'.output=w.output) (fV:w.heap.size<=w'.heap.size) (hb:∀b,b<w.heap.size->w'.heap[b]? =w.heap[b]?)
 (hL:∀b,L.1=some b->w.heap.size<=b):aK F S m w (bO S id o) (place m id L) w':=by
 have dh:∀i oi,S i=some oi->i≠id:=fun i oi h e=>by subst e;rw[bn] at h;cases h
 refine⟨Dj,nH,nI,fV,fun b h _=>hb b h,fun i oi hi=> ?_,fun i oi hi hn b xB=> ?_⟩
 ·refine⟨oi,by rw[eC (dh i oi hi)];exact hi,qp _,fun _=>vN (dh i oi hi),fun h=>h,fun b q=> .inl ((mj (dh i oi hi)).1 q),oi.dw⟩
 by_cases e:i=id
 ·subst e;exact .inl (hL b (rL.1 xB))
 rw[eC e] at hi;rw[hi] at hn;cases hn
theorem aY.new{F:eL P}{S:bQ}{m:Place}{w w':World}(hS:aY F S m w){id:Nat}{o:Ob}{L:Option Nat×Nat}(bn:S id=none)
 (hF:aK F S m w (bO S id o) (place m id L) w') (hb:∀b,b<w.heap.size->w'.heap[b]? =w.heap[b]?) (hL:∀b,L.1=some b->w.heap.size<=b)
 (ho:mZ (bO S id o) (place m id L) w' (okB F (bO S id o) (place m id L) w') o L []):aY F (bO S id o) (place m id L) w':=by
 have GX:∀b,L.1=some b->b<w'.heap.size:=fun b hb=>ho.lt hb
 refine⟨fun i oi hi=> ?_,fun i j oi oj b hi hj h1 h2=> ?_,fun i oi b hi hm yQ=> ?_,fun i oi b hi hm=> ?_,fun b h=>zu (hS.low b h) hF.size,hS.held hF⟩
 ·by_cases e:i=id
  ·subst e;rw[iV] at hi;cases hi;rw[o8,z23];exact ho
  rw[eC e] at hi;rw[vN e,EZ e];exact(hS.cN i oi hi).cF hF (fun b hm=>hb b (hS.lt i oi b hi hm))
 ·by_cases e:i=id
  ·by_cases e':j=id
   ·rw[e,e']
   subst e;rw[rL] at h1;rw[mj e'] at h2;rw[eC e'] at hj;have:=hS.lt j oj b hj h2;have:=hL b h1;omega
  by_cases e':j=id
  ·subst e';rw[rL] at h2;rw[mj e] at h1;rw[eC e] at hi;have:=hS.lt i oi b hi h1;have:=hL b h2;omega
  rw[mj e] at h1;rw[mj e'] at h2;rw[eC e] at hi;rw[eC e'] at hj;exact hS.inj i j oi oj b hi hj h1 h2
 ·by_cases e:i=id
  ·subst e;rw[rL] at hm;have:=hL b hm;have:=hS.low b yQ;omega
  rw[eC e] at hi;rw[mj e] at hm;exact hS.eD i oi b hi hm yQ
 by_cases e:i=id
 ·subst e;exact GX b (rL.1 hm)
 rw[eC e] at hi;rw[mj e] at hm;exact zu (hS.lt i oi b hi hm) hF.size
end Go.Ab
end
section
namespace Go.Ab
variable {P:Program} {w:World}
theorem lD{t:TypeId}{z:Nat}(h:kT P t=some z):(sizeOf t).run P w= .ok z w:=by
 unfold kT at h;cases hi:P.info? t with
 |none=>simp[hi] at h
 |some i=>simp[hi] at h;subst h;simp[sizeOf,typeInfo,hi]
theorem Dk{t:TypeId}{ag:Bool}(h:vK P t=some ag):(isAgg t).run P w= .ok ag w:=by
 unfold vK at h;cases hu:P.underlying t with
 |none=>simp[hu] at h
 |some d=>
  rw[hu] at h;cases d<;>simp at h<;>subst h<;>simp[isAgg,run_underlying hu]
theorem BX{t:TypeId}{z:Value}(h:vL P t=some z):(zeroValue t).run P w= .ok z w:=by
 unfold vL at h;cases hi:P.info? t with
 |none=>simp[hi] at h
 |some i=>simp[hi] at h;simp[zeroValue,typeInfo,hi,h]
theorem rM(b o i:Nat):(⟨b,o,none⟩:Addr).add i=⟨b,o+i,none⟩:=by unfold Addr.add;split<;>simp_all
def wK(ag:Bool)(us:List Value):Value:=if ag then .agg us.toArray else us.headD undef
theorem J4{t:TypeId}{sz:Nat}{ag:Bool}(fV:kT P t=some sz)(kU:vK P t=some ag)(b o:Nat)(us:List Value)(hl:us.length=sz)(h1:ag=false->sz=1)
 (hc:∀(j:Nat) (u:Value),us[j]? =some u->w.cell? ⟨b,o+j,none⟩=some u):(loadVar t ⟨b,o,none⟩).run P w= .ok (wK ag us) w:=by
 cases ag with
 |true=>
  have h:=run_loadCells_list (P:=P) w ⟨b,o,none⟩ us (fun j v hv=>by rw[rM];exact hc j v hv);rw[hl] at h;simp[loadVar,Dk kU,lD fV,h,wK]
 |false=>
  have:=h1 rfl
  match us,hl with
  | [u],hl=>
   have h0:=hc 0 u rfl;simp only[Nat.add_zero] at h0;simp[loadVar,Dk kU,h0,wK]
  | [],hl=>simp at hl;omega
  |_::_::_,hl=>simp at hl;omega
theorem AE{α:Type}{l r:List α}{off n:Nat}(h:part l off n=some r):r=(l.drop off).take n/\r.length=n:=by
 unfold part at h;cases hh:Nat.beq ((l.drop off).take n).length n with
 |false=>simp only[hh,cond_false] at h;cases h
 |true=>
  simp only[hh,cond_true,qb] at h;subst h;exact⟨rfl,qJ hh⟩
theorem Dm{α:Type}{l r:List α}{off n:Nat}(h:part l off n=some r){j:Nat}{x:α}(hj:r[j]? =some x):l[off+j]? =some x:=by
 obtain⟨h1,h2⟩:=AE h;subst h1;rw[qB] at hj;split at hj
 ·rw[qQ] at hj;exact hj
 cases hj
theorem GY{α:Type}{l r:List α}{off n:Nat}(h:part l off n=some r):n=0\/off+n<=l.length:=by
 obtain⟨h1,h2⟩:=AE h;subst h1;simp at h2;omega
theorem NT{st:bQ}{m:Place}{ok:Nat->Prop}{ag:Bool}{cs:List aJ}{v:aJ}(h:BS ag cs=some v){us:List Value}(hl:us.length=cs.length)
 (hr:∀(i:Nat) (v:aJ) (u:Value),cs[i]? =some v->us[i]? =some u->aO st m w ok v u/\u.oneCell'=true):
 aO st m w ok v (wK ag us)/\(ag=false->cs.length=1):=by
 cases ag with
 |true=>
  simp only[BS,qb] at h;subst h;exact⟨aO.pR hl hr,fun e=>by cases e⟩
 |false=>
  match cs,us,hl with
  | [a],[u],_=>
   simp only[BS,qb] at h;subst h;exact⟨(hr 0 a u rfl rfl).1,fun _=>rfl⟩
  | [],_,_=>simp[BS] at h
  |_::_::_,_,_=>simp[BS] at h
theorem J5{ok:Nat->Prop}{ag:Bool}{cs:List Tree}{T:Tree}(h:su ag cs=some T){us:List Value}(hl:us.length=cs.length)(bT:∀T∈cs,T.bZ=true)
 (hr:∀(i:Nat) (T:Tree) (u:Value),cs[i]? =some T->us[i]? =some u->cr w ok T u):
 cr w ok T (wK ag us)/\(ag=false->cs.length=1):=by
 cases ag with
 |true=>
  simp only[su,qb] at h;subst h;exact⟨.agg cs us hl bT hr,fun e=>by cases e⟩
 |false=>
  match cs,us,hl with
  | [a],[u],_=>
   simp only[su,qb] at h;subst h;exact⟨hr 0 a u rfl rfl,fun _=>rfl⟩
  | [],_,_=>simp[su] at h
  |_::_::_,_,_=>simp[su] at h
theorem vO{k:Nat}:∀{xs:List Tree},(∀x∈xs,jo k x)->(dL xs).length=xs.length*k
 | [],_=>by simp[dL]
 |x::xs,h=>by
  have h1:=(h x sM).1;have ih:=vO (xs:=xs) (fun y hy=>h y (by simp[hy]));simp[dL,h1,ih,zq,Nat.add_comm]
theorem E0{k:Nat}:∀{xs:List Tree} {i:Nat} {X:Tree},(∀x∈xs,jo k x)->xs[i]? =some X->∀{j:Nat},j<k->(dL xs)[i*k+j]? =X.cells[j]?
 | [],i,X,_,h,_,_=>by simp at h
 |x::xs,0,X,h,hX,j,hj=>by
  simp at hX;subst hX;have h1:=(h x sM).1;simp only[dL,Nat.zero_mul,zw];rw[qx oM]
 |x::xs,i+1,X,h,hX,j,hj=>by
  simp at hX;have h1:=(h x sM).1;have ih:=E0 (xs:=xs) (fun y hy=>h y (by simp[hy])) hX hj;simp only[dL];rw[qK (by rw[h1,zq];omega),h1,show(i+1)*k+j-k=i*k+j by rw[zq];omega];exact ih
theorem NV{k:Nat}:∀{xs:List Tree},(∀x∈xs,jo k x)->∀T∈dL xs,T.bZ=true
 | [],_,T,hT=>by simp[dL] at hT
 |x::xs,h,T,hT=>by
  simp only[dL,qn] at hT;rcases hT with hT|hT
  ·exact(h x sM).2 T hT
  exact NV (fun y hy=>h y (by simp[hy])) T hT
theorem Tr(xs ys:List Tree):dL (xs++ys)=dL xs++dL ys:=by
 induction xs with
 |nil=>rfl
 |cons x xs ih=>simp[dL,ih]
theorem Tt{F:eL P}{S st:bQ}{m:Place}{t:TypeId}{av:aJ}{c:eW}{δ:Dl}(h:GF P t av st c=some δ)(hc:b8 δ.jW)
 (bH:∀id o,st id=some o->S id=some o) (hS:aY F S m w) {u:Value} (hv:aO S m w (okB F S m w) av u):
 ∃v,(Instr.loadAt t u).run P w= .ok v w/\aO S m w (okB F S m w) δ.val v/\δ.wr=[]:=by
 unfold GF at h;split at h
 ·rename_i sz ag id off fV kU;split at h
  ·rename_i cs hs;simp only[qw] at h;obtain⟨v,⟨r,hr,vP⟩,hp⟩:=h;simp only[dJ,qb] at hp;subst hp;cases hv with
   |gN _ _ _ b9=>rw[bH id _ hs] at b9;cases b9
   |ptr _ _ iK b b9 hm=>
    have:=hS.cN id _ (bH id _ hs);obtain⟨b',us,e,h1,h2,h3,h4⟩:=this;rw[hm] at h1;cases h1;obtain⟨lR,rN⟩:=AE hr;have hlen:((us.toList.drop off).take sz).length=r.length:=by rw[lR];simp[h3]
    have lS:∀(i:Nat) (v:aJ) (u:Value),r[i]? =some v->((us.toList.drop off).take sz)[i]? =some u->aO S m w (okB F S m w) v u/\u.oneCell'=true:=by
     intro i v u hi hu;have oq:=Dm hr hi;rw[qB] at hu;split at hu
     ·rw[qQ] at hu;exact h4 _ v u oq (by simpa using hu)
     cases hu
    obtain⟨iG,iW⟩:=NT vP hlen lS;refine⟨_,?_,iG,rfl⟩;have:=J4 (P:=P) (w:=w) fV kU b off ((us.toList.drop off).take sz) (by rw[hlen,rN]) (fun e=>by rw[<-rN];exact iW e) (fun j u hu=>by
     rw[qB] at hu;split at hu
     ·rw[qQ] at hu;simp only[World.cell?,h2];simpa using hu
     cases hu)
    simpa[Instr.loadAt,Instr.sureAddr] using this
  cases h
 ·rename_i sz ag cs fV kU;simp only[qw] at h;obtain⟨T,⟨r,hr,vP⟩,hp⟩:=h;simp only[dJ,qb] at hp;subst hp;cases hv with
  |ec _ b o us hb hl kV bT hT=>
   simp only[GF.GG] at hr;obtain⟨lR,rN⟩:=AE hr;have hlen:(us.take sz).length=r.length:=by rw[lR];simp[hl]
   obtain⟨iG,iW⟩:=J5 (w:=w) (ok:=okB F S m w) vP hlen (fun T hT=>kV T (qE (qF (lR▸hT)))) (fun i T u hi hu=>by
    have oq:=Dm hr hi;rw[zw] at oq;rw[qB] at hu;split at hu
    ·exact hT i T u oq hu
    cases hu)
   refine⟨_,?_,.t _ _ iG,rfl⟩;have:=J4 (P:=P) (w:=w) fV kU b o (us.take sz) (by rw[hlen,rN]) (fun e=>by rw[<-rN];exact iW e) (fun j u hu=>by
    rw[qB] at hu;split at hu
    ·exact bT j u hu
    cases hu)
   simpa[Instr.loadAt,Instr.sureAddr] using this
 ·rename_i sz ag id n i sub fV kU;split at h
  ·rename_i k fz xs hs;simp only[qw] at h;obtain⟨T,⟨r,hr,vP⟩,hp⟩:=h;simp only[dJ,qb] at hp;subst hp;simp only[b8] at hc;obtain⟨hn,hX,-⟩:=hc;cases hv with
   |eT _ _ _ _ _ _ b9=>rw[bH id _ hs] at b9;cases b9
   |cM _ _ _ _ k' iU xs' b b9 tg fu=>
    have cK:=bH id _ hs;rw[cK] at b9;cases b9;have hm:=fu hn;have:=hS.cN id _ cK;obtain⟨a1,a2,a3,a4,a5⟩:=this;rcases a5 with⟨a5,_⟩| ⟨b',us,e,h1,h2,h3,h4,h5⟩
    ·rw[hm] at a5;cases a5
    rw[hm] at h1;cases h1;generalize hXe:ER c xs i=X at hr hX;have NW:=a2 X (qr hX);obtain⟨lR,rN⟩:=AE hr;have j7:i<xs.length:=(qA.1 hX).1;have fI:(i+1)*k<=us.size:=by rw[h3];exact zi k oM
    have fc:sz=0\/sub+sz<=k:=by have:=GY hr;rw[NW.1] at this;exact this
    have hlen:((us.toList.drop (i*k+sub)).take sz).length=r.length:=by
     rw[rN];simp;rw[zq] at fI;omega
    obtain⟨iG,iW⟩:=J5 (w:=w) (ok:=okB F S m w) vP hlen (fun T hT=>NW.2 T (qE (qF (lR▸hT)))) (fun j T u hj hu=>by
     have lQ:=Dm hr hj;rw[qB] at hu;split at hu
     ·rw[qQ] at hu;have fQ:sub+j<k:=by rw[<-NW.1];exact(qA.1 lQ).1
      have hf:=E0 a2 hX fQ;rw[lQ] at hf;exact h5 (i*k+(sub+j)) T u hf (by rw[<-Nat.add_assoc];simpa using hu)
     cases hu)
    refine⟨_,?_,.t _ _ iG,rfl⟩;have:=J4 (P:=P) (w:=w) fV kU b (i*k+sub) ((us.toList.drop (i*k+sub)).take sz) (by rw[hlen,rN]) (fun e=>by rw[<-rN];exact iW e) (fun j u hu=>by
     rw[qB] at hu;split at hu
     ·rw[qQ] at hu;simp only[World.cell?,h2];simpa using hu
     cases hu)
    simpa[Instr.loadAt,Instr.sureAddr] using this
  cases h
 ·rename_i sz id i fV kU;split at h
  ·rename_i fz xs hh hs;cases h1:Nat.beq sz 1 with
   |false=>rw[h1] at h;cases h
   |true=>
   rw[h1,cond_true] at h;have GZ:=qJ h1;have cK:=bH id _ hs;have key:∀v,(mY xs hh)[i]? =some v->∃v',(Instr.loadAt t u).run P w= .ok v' w/\aO S m w (okB F S m w) v v':=by
    intro v Tu;cases hv with
    |eG _ _ iU xs' wL b b9 hm=>
     rw[cK] at b9;cases b9;obtain⟨⟨b',us,e,q1,q2,q3,q4⟩,_⟩:=hS.cN id _ cK;rw[hm] at q1;cases q1;have hi:i<us.size:=by rw[q3];exact(qA.1 Tu).1
     have hu:us[i]? =some us[i]:=zD hi;refine⟨us[i],?_,(q4 i v us[i] Tu hu).1⟩;have:=J4 (P:=P) (w:=w) fV kU b i [us[i]] (by simp[GZ]) (fun _=>GZ) (fun j u hj=>by
      match j with
      |0=>
       simp at hj;subst hj;simp only[World.cell?,q2];simp
      |j+1=>simp at hj)
     simpa[Instr.loadAt,Instr.sureAddr,wK] using this
   split at h
   ·rename_i X _;simp only[dJ,qb] at h;subst h;obtain⟨v',r1,r2⟩:=key _ hc.1;exact⟨v',r1,r2,rfl⟩
   split at h
   ·rename_i j r n;simp only[dJ,qb] at h;subst h;obtain⟨v',r1,r2⟩:=key (.aF r n) (by
     obtain⟨e,fQ,-⟩:=hc;subst e;simp[mY,fQ])
    exact⟨v',r1,r2,rfl⟩
   cases h
  cases h
 cases h
end Go.Ab
end
section
namespace Go.Ab
variable {P:Program} {w:World}
theorem fS{v:aJ}{c:List Prop}{δ:Dl}(h:dJ v c=some δ):δ=⟨v,[],c⟩:=by
 simp only[dJ,qb] at h;exact h.symm
theorem Tv{s:TypeId}{i:Nat}{f:Field}(h:JM P s i=some f):∃fs,P.underlying s=some (.struct fs)/\fs[i]? =some f:=by
 unfold JM at h;split at h
 ·rename_i fs hu;exact⟨fs,hu,h⟩
 cases h
section
variable {F:eL P} {S st:bQ} {m:Place}
theorem z8G{s:TypeId}{av:aJ}{i:Nat}{δ:Dl}(h:Nt P s av i=some δ)(hS:aY F S m w){u:Value}(hv:aO S m w (okB F S m w) av u):
 ∃v,(Instr.fieldAt s u i).run P w= .ok v w/\aO S m w (okB F S m w) δ.val v/\δ.wr=[]:=by
 unfold Nt at h;simp only[Option.bind_eq_some_iff] at h;obtain⟨f,hf,z,hz,h⟩:=h;obtain⟨fs,hu,AF⟩:=Tv hf;cases G0:Nat.beq z 0 with
 |true=>simp only[G0,cond_true] at h;cases h
 |false=>
  simp only[G0,cond_false] at h;have oN:z≠0:=fun e=>by subst e;simp at G0
  have run:∀b o,(Instr.fieldAt s (.pointer (some ⟨b,o,none⟩)) i).run P w= .ok (.pointer (some ⟨b,o+f.offset,none⟩)) w:=by
   intro b o;simp[Instr.fieldAt,run_underlying hu,AF,Instr.sureAddr,fieldPlace,lD hz,oN,rM]
  split at h
  ·rename_i id off;have:=fS h;subst this;cases hv with
   |ptr _ _ cs b hs hm=>exact⟨_,run b off,.ptr id _ cs b hs hm,rfl⟩
   |gN _ _ b hs=>exact⟨_,run b off,.gN id _ b hs,rfl⟩
  ·rename_i id n j sub;have:=fS h;subst this;cases hv with
   |cM _ _ _ _ k fz xs b hs hn fu=>
    exact⟨_,run b _,by rw[Nat.add_assoc];exact .cM id n j _ k fz xs b hs hn fu,rfl⟩
   |eT _ _ _ _ b o hs=>exact⟨_,run b o,.eT id n j _ b _ hs,rfl⟩
  ·rename_i cs;cases hb:Nat.ble f.offset cs.length with
   |false=>simp only[hb,cond_false] at h;cases h
   |true=>
    simp only[hb,cond_true] at h;have hle:f.offset<=cs.length:=Nat.le_of_ble_eq_true hb;have:=fS h;subst this;cases hv with
    |ec _ b o us hb hl hc bT hT=>
     refine⟨_,run b o,.ec _ b _ (us.drop f.offset) hb (by simp[hl]) (fun T hT=>hc T (List.mem_of_mem_drop hT)) (fun j u hu=> ?_) (fun j T u h1 h2=> ?_),rfl⟩
     ·rw[List.getElem?_drop] at hu;rw[Nat.add_assoc];exact bT _ u hu
     rw[List.getElem?_drop] at h1 h2;exact hT _ T u h1 h2
  cases h
theorem aO.bq{ok:Nat->Prop}{v u:Value}(h:aO S m w ok (.t (.sc v)) u):u=v:=by
 cases h with
 |t _ _ h=>cases h;rfl
theorem y3g{s:TypeId}{av:aJ}{i:Nat}{δ:Dl}(h:Nu P s av i=some δ){u:Value}(hv:aO S m w (okB F S m w) av u):
 ∃v,(Instr.field s u i).run P w= .ok v w/\aO S m w (okB F S m w) δ.val v/\δ.wr=[]:=by
 unfold Nu at h;simp only[Option.bind_eq_some_iff] at h;obtain⟨f,hf,z,hz,ag,kU,h⟩:=h;obtain⟨fs,hu,AF⟩:=Tv hf;have run:∀us:List Value,(ag=false->z=1)->f.offset+z<=us.length\/z=0->(Instr.field s (.agg us.toArray) i).run P w= .ok (wK ag ((us.drop f.offset).take z)) w:=by
  intro us h1 hle;cases ag with
  |true=>
   simp[Instr.field,run_underlying hu,AF,asAgg,Go.part,Dk kU,lD hz,wK]
  |false=>
   have oN:=h1 rfl;subst oN;have fQ:f.offset<us.length:=oM;simp[Instr.field,run_underlying hu,AF,asAgg,Go.part,Dk kU,wK,fQ];rw[List.drop_eq_getElem_cons fQ];rfl
 split at h
 ·rename_i cs;simp only[Option.bind_eq_some_iff] at h;obtain⟨v,⟨r,hr,vP⟩,hp⟩:=h;have:=fS hp;subst this;cases hv with
  |agg _ us hl hc h1=>
   obtain⟨lR,rN⟩:=AE hr;have hlen:((us.drop f.offset).take z).length=r.length:=by rw[lR];simp[hl]
   obtain⟨iG,iW⟩:=NT vP hlen (fun j v u hj hu=>by
    have lQ:=Dm hr hj;rw[List.getElem?_take] at hu;split at hu
    ·rw[List.getElem?_drop] at hu;exact⟨hc _ v u lQ hu,h1 u (List.mem_of_getElem? hu)⟩
    cases hu)
   exact⟨_,run us (fun e=>by rw[<-rN];exact iW e) (by have:=GY hr;rw[hl];omega),iG,rfl⟩
 ·rename_i cs;simp only[Option.bind_eq_some_iff] at h;obtain⟨v,⟨r,hr,vP⟩,hp⟩:=h;have:=fS hp;subst this;cases hv with
  |t _ _ hT=>
   cases hT with
   |agg _ us hl hc h1=>
    obtain⟨lR,rN⟩:=AE hr;have hlen:((us.drop f.offset).take z).length=r.length:=by rw[lR];simp[hl]
    obtain⟨iG,iW⟩:=J5 (w:=w) (ok:=okB F S m w) vP hlen (fun T hT=>hc T (List.mem_of_mem_drop (List.mem_of_mem_take (lR▸hT)))) (fun j v u hj hu=>by
     have lQ:=Dm hr hj;rw[List.getElem?_take] at hu;split at hu
     ·rw[List.getElem?_drop] at hu;exact h1 _ v u lQ hu
     cases hu)
    exact⟨_,run us (fun e=>by rw[<-rN];exact iW e) (by have:=GY hr;rw[hl];omega),.t _ _ iG,rfl⟩
 cases h
theorem BY{e:TypeId}{k:Nat}(h:yL P e k=true):kT P e=some k:=by
 unfold yL at h;split at h
 ·rename_i z hz;rw[hz,Nat.eq_of_beq_eq_true h]
 cases h
theorem gL{α:Type}{b:Bool}{x:Option α}{r:α}(h:(bif b then x else none)=some r):b=true/\x=some r:=by
 cases b with
 |true=>exact⟨rfl,h⟩
 |false=>cases h
theorem z8H{t:TypeId}{x i:aJ}{c:eW}{δ:Dl}(h:Nv P t x i st c=some δ)(hc:b8 δ.jW)(bH:∀id o,st id=some o->S id=some o)(hS:aY F S m w)
 {ux ui:Value} (hx:aO S m w (okB F S m w) x ux) (hi:aO S m w (okB F S m w) i ui):
 ∃v,(Instr.indexAt t ux ui).run P w= .ok v w/\aO S m w (okB F S m w) δ.val v/\δ.wr=[]:=by
 unfold Nv at h;split at h
 ·rename_i e k xs ik j hu;have AG:=aO.bq hi;subst AG;simp only at h;obtain⟨hz,h⟩:=gL h;have hz:=BY hz;have:=fS h;subst this;simp only[b8] at hc;obtain⟨hj,hX,-⟩:=hc;generalize ER c xs j.toNat=X at hX;cases hx with
  |t _ _ hT=>
   cases hT with
   |bX _ _ A cap us hk u5 hn hm hA hl jL=>
    have fQ:j.toNat<xs.length:=(List.getElem?_eq_some_iff.1 hX).1;obtain⟨b,o,rfl,hb,bT⟩:=hA (fun e=>by subst e;simp at fQ);have hE:=u5 X (List.mem_of_getElem? hX);have fI:(j.toNat+1)*k<=us.length:=by rw[hl];exact Nat.mul_le_mul_right k oM
    rw[Nat.add_mul] at fI;refine⟨.pointer (some ⟨b,o+j.toNat*k,none⟩),?_,?_,rfl⟩
    ·have h2:j< (xs.length:Int):=oM;simp[Instr.indexAt,asIntOf,run_underlying hu,lD hz,hj,h2,rM]
    refine .ec _ b _ ((us.drop (j.toNat*k)).take k) hb (by rw[hE.1];simp;omega) hE.2 (fun q u hq=> ?_) (fun q T u h1 h2=> ?_)
    ·rw[List.getElem?_take] at hq;split at hq
     ·rw[List.getElem?_drop] at hq;rw[Nat.add_assoc];exact bT _ u hq
     cases hq
    rw[List.getElem?_take] at h2;split at h2
    ·rename_i hqk;rw[List.getElem?_drop] at h2;exact jL _ T u ((E0 u5 hX hqk).trans h1) h2
    cases h2
 ·rename_i e id n ik j hu;have AG:=aO.bq hi;subst AG;split at h;rotate_left
  ·cases h
  rename_i k fz xs hs;obtain⟨hz,h⟩:=gL h;have hz:=BY hz;have:=fS h;subst this;simp only[b8] at hc;obtain⟨hn,hj,lE,-⟩:=hc;cases hx with
  |fH _ _ L b9=>rw[bH id _ hs] at b9;cases b9
  |aF _ _ k' iU xs' L b9 tg fu=>
   have cK:=bH id _ hs;rw[cK] at b9;cases b9;have hL:=fu hn;have:=hS.cN id _ cK;obtain⟨a1,a2,a3,a4,a5⟩:=this;rcases a5 with⟨a5,a6⟩| ⟨b,us,e,h1,h2,h3,h4,h5⟩
   ·rw[a6] at a3;omega
   subst hL;refine⟨.pointer (some ⟨b,j.toNat*k+0,none⟩),?_,.cM id n _ 0 k fz xs b cK tg (fun _=>h1),rfl⟩;simp[Instr.indexAt,asIntOf,run_underlying hu,lD hz,hj,lE,ia,h1,rM]
 ·rename_i e id ik j hu;have AG:=aO.bq hi;subst AG;split at h;rotate_left
  ·cases h
  rename_i fz xs hh hs;obtain⟨hz,h⟩:=gL h;have hz:=BY hz;have:=fS h;subst this;simp only[b8] at hc;obtain⟨hj,lE,-⟩:=hc;cases hx with
  |cZ _ iU xs' wL L b9 hm=>
   have cK:=bH id _ hs;rw[cK] at b9;cases b9;obtain⟨⟨b,us,e,q1,q2,q3,q4⟩,_⟩:=hS.cN id _ cK;rw[hm] at q1;refine⟨.pointer (some ⟨b,j.toNat,none⟩),?_,.eG id _ fz xs hh b cK (by rw[hm];exact q1),rfl⟩;simp[Instr.indexAt,asIntOf,run_underlying hu,lD hz,hj,lE,ia,q1,rM]
 ·rename_i len e id off ik j hu;have AG:=aO.bq hi;subst AG;simp only[Option.bind_eq_some_iff] at h;obtain⟨z,hz,h⟩:=h;have:=fS h;subst this;simp only[b8] at hc;obtain⟨hj,lE,-⟩:=hc;cases hx with
  |gN _ _ b hs=>
   refine⟨.pointer (some ⟨b,off+j.toNat*z,none⟩),?_,.gN id _ b hs,rfl⟩;simp[Instr.indexAt,asIntOf,run_underlying hu,lD hz,hj,lE,Instr.sureAddr,rM]
  |ptr _ _ cs b hs hm=>
   refine⟨.pointer (some ⟨b,off+j.toNat*z,none⟩),?_,.ptr id _ cs b hs hm,rfl⟩;simp[Instr.indexAt,asIntOf,run_underlying hu,lD hz,hj,lE,Instr.sureAddr,rM]
 ·rename_i e id n ik j hu;have AG:=aO.bq hi;subst AG;split at h;rotate_left
  ·cases h
  rename_i cs hs;simp only[Option.bind_eq_some_iff] at h;obtain⟨z,hz,h⟩:=h;have:=fS h;subst this;simp only[b8] at hc;obtain⟨hj,lE,-⟩:=hc;have cK:=bH id _ hs;cases hx with
  |iT _ _ L b9=>rw[cK] at b9;cases b9
  |jv _ _ iK b b9 hm=>
   refine⟨.pointer (some ⟨b,j.toNat*z,none⟩),?_,.ptr id _ iK b b9 (by rw[hm]),rfl⟩;simp[Instr.indexAt,asIntOf,run_underlying hu,lD hz,hj,lE,ia,rM]
 cases h
theorem y3h{t:TypeId}{x i:aJ}{δ:Dl}(h:Nw P t x i=some δ)(hc:b8 δ.jW)
 {ux ui:Value} (hx:aO S m w (okB F S m w) x ux) (hi:aO S m w (okB F S m w) i ui):
 ∃v,(Instr.index t ux ui).run P w= .ok v w/\aO S m w (okB F S m w) δ.val v/\δ.wr=[]:=by
 unfold Nw at h;split at h
 ·rename_i s ik j hu;have:=fS h;subst this;have:=aO.bq hx;subst this;have:=aO.bq hi;subst this;simp only[b8] at hc;obtain⟨hj,lE,-⟩:=hc;have fQ:j.toNat<s.size:=oM;refine⟨_,?_,.t _ _ (.sc _ rfl),rfl⟩;simp[Instr.index,asIntOf,run_underlying hu,hj,fQ]
 ·rename_i len e ik j hu;simp only[Option.bind_eq_some_iff] at h;obtain⟨z,hz,ag,kU,h⟩:=h;have:=aO.bq hi;subst this;have run:∀us:List Value,0<=j->j< (len:Int)->(ag=false->z=1)->j.toNat*z+z<=us.length\/z=0->(Instr.index t (.agg us.toArray) (.int ik j)).run P w= .ok (wK ag ((us.drop (j.toNat*z)).take z)) w:=by
   intro us hj lE h1 hle;cases ag with
   |true=>
    simp[Instr.index,asIntOf,run_underlying hu,hj,lE,Go.part,Dk kU,lD hz,wK]
   |false=>
    have oN:=h1 rfl;subst oN;have fQ:j.toNat<us.length:=oM;simp[Instr.index,asIntOf,run_underlying hu,hj,lE,Go.part,Dk kU,lD hz,wK,fQ];rw[List.drop_eq_getElem_cons fQ];rfl
  split at h
  ·rename_i cs;simp only[Option.bind_eq_some_iff] at h;obtain⟨v,⟨r,hr,vP⟩,hp⟩:=h;have:=fS hp;subst this;simp only[b8] at hc;obtain⟨hj,lE,-⟩:=hc;cases hx with
   |agg _ us hl G3 h1=>
    obtain⟨lR,rN⟩:=AE hr;have hlen:((us.drop (j.toNat*z)).take z).length=r.length:=by rw[lR];simp[hl]
    obtain⟨iG,iW⟩:=NT vP hlen (fun k v u hj hu=>by
     have lQ:=Dm hr hj;rw[List.getElem?_take] at hu;split at hu
     ·rw[List.getElem?_drop] at hu;exact⟨G3 _ v u lQ hu,h1 u (List.mem_of_getElem? hu)⟩
     cases hu)
    exact⟨_,run us hj lE (fun e=>by rw[<-rN];exact iW e) (by have:=GY hr;rw[hl];omega),iG,rfl⟩
  ·rename_i cs;simp only[Option.bind_eq_some_iff] at h;obtain⟨v,⟨r,hr,vP⟩,hp⟩:=h;have:=fS hp;subst this;simp only[b8] at hc;obtain⟨hj,lE,-⟩:=hc;cases hx with
   |t _ _ hT=>
    cases hT with
    |agg _ us hl G3 h1=>
     obtain⟨lR,rN⟩:=AE hr;have hlen:((us.drop (j.toNat*z)).take z).length=r.length:=by rw[lR];simp[hl]
     obtain⟨iG,iW⟩:=J5 (w:=w) (ok:=okB F S m w) vP hlen (fun T hT=>G3 T (List.mem_of_mem_drop (List.mem_of_mem_take (lR▸hT)))) (fun k v u hj hu=>by
      have lQ:=Dm hr hj;rw[List.getElem?_take] at hu;split at hu
      ·rw[List.getElem?_drop] at hu;exact h1 _ v u lQ hu
      cases hu)
     exact⟨_,run us hj lE (fun e=>by rw[<-rN];exact iW e) (by have:=GY hr;rw[hl];omega),.t _ _ iG,rfl⟩
  cases h
 cases h
theorem y98{op:UnOp}{x:aJ}{δ:Dl}(h:Np op x=some δ){ux:Value}(hx:aO S m w (okB F S m w) x ux):
 ∃v,(Op.unary op ux).run P w= .ok v w/\aO S m w (okB F S m w) δ.val v/\δ.wr=[]:=by
 unfold Np at h;split at h
 ·have:=fS h;subst this;have:=aO.bq hx;subst this;exact⟨_,by simp[Op.unary],.t _ _ (.sc _ rfl),rfl⟩
 ·have:=fS h;subst this;have:=aO.bq hx;subst this;exact⟨_,by simp[Op.unary,Op.intArith],.t _ _ (.sc _ rfl),rfl⟩
 cases h
theorem Tw:∀(l:List UInt8),dL (l.map fun b=>Tree.sc (.int .u8 b.toNat))=l.map fun b=>Tree.sc (.int .u8 b.toNat)
 | []=>rfl
 |b::l=>by rw[List.map_cons,dL,Tw l];rfl
theorem y47{src dst e:TypeId}{id n:Nat}{c:eW}{δ:Dl}(hs:P.underlying src=some (.slice e))(hd:P.underlying dst=some .string)(he:P.underlying e=some (.int .u8))
 (h:Nq n (st id) c=some δ) (hc:b8 δ.jW) (bH:∀id o,st id=some o->S id=some o) (hS:aY F S m w) {ux:Value} (hx:aO S m w (okB F S m w) (.aF id n) ux):
 ∃v,(convert src dst ux).run P w= .ok v w/\aO S m w (okB F S m w) δ.val v/\δ.wr=[]:=by
 unfold Nq at h;split at h;rotate_left
 ·cases h
 rename_i fz xs s ho Dn;simp only[Option.some.injEq] at h;subst h;obtain⟨hn,E1,-⟩:=hc;subst E1;have cK:=bH id _ ho;cases hx with
 |fH _ _ L b9=>rw[cK] at b9;cases b9
 |aF _ _ k' iU xs' L b9 tg fu=>
  rw[cK] at b9;simp only[Option.some.injEq,Ob.aF.injEq] at b9;obtain⟨rfl,rfl,rfl⟩:=b9;have hL:=fu hn;subst hL;obtain⟨_,_,h3,h4,h5⟩:=hS.cN id _ cK;have hlen:(GD s).length=s.data.toList.length:=by unfold GD;rw[List.length_map]
  refine⟨.string s,?_,.t _ _ (.sc _ rfl),rfl⟩;rcases h5 with⟨h6,h7⟩| ⟨b,us,t,h6,h7,h8,h9,eE⟩
  ·have h0:n=0:=oM;have dQ:s.data.toList.length=0:=oM;have hse:s=ByteArray.empty:=by
    cases s with
    |mk a=>
     have:a.toList=[]:=List.length_eq_zero_iff.1 dQ;have:a=#[]:=by simpa using this
     subst this;rfl
   subst h0;unfold ia;rw[h6,h7,hse];simp[convert,run_underlying hs,run_underlying hd,run_underlying he,Conv.bytesToString,Sem.run_pure]
  unfold ia;rw[h6];have key:=run_convert_bytes_back (P:=P) w src dst e ⟨b,0,none⟩ (m id).2 s.data.toList hs he hd (fun j hj=>by
   rw[rM,Nat.zero_add];have Tx:j<us.size:=oM;have hT:(dL (GD s))[j]? =some (.sc (.int .u8 s.data.toList[j].toNat)):=by
    unfold GD;rw[Tw,List.getElem?_map,List.getElem?_eq_getElem hj];rfl
   have hr:=eE j _ us[j] hT (Array.getElem?_eq_getElem Tx);have bT:w.cell? ⟨b,j,none⟩=some us[j]:=by unfold World.cell?;simp[h7,Tx]
   rw[bT];generalize us[j]=u at hr;cases hr;rfl)
  have e1:(⟨s.data.toList.toArray⟩:ByteArray)=s:=by cases s;simp
  rw[e1] at key;rw[hn,hlen];exact key
theorem y48{src dst:TypeId}{x:aJ}{c:eW}{δ:Dl}(h:Nr P src dst x st c=some δ)(hc:b8 δ.jW)(bH:∀id o,st id=some o->S id=some o)(hS:aY F S m w){ux:Value}(hx:aO S m w (okB F S m w) x ux):
 ∃v,(convert src dst ux).run P w= .ok v w/\aO S m w (okB F S m w) δ.val v/\δ.wr=[]:=by
 unfold Nr at h;split at h
 ·rename_i d k ik n hs hd;have:=fS h;subst this;have:=aO.bq hx;subst this;exact⟨_,by simp[convert,run_underlying hs,run_underlying hd,Conv.intToInt],.t _ _ (.sc _ rfl),rfl⟩
 ·rename_i s hs hd;have:=fS h;subst this;have:=aO.bq hx;subst this;exact⟨_,by simp[convert,run_underlying hs,run_underlying hd],.t _ _ (.sc _ rfl),rfl⟩
 ·rename_i e id n hs hd;split at h
  ·rename_i he;exact y47 hs hd he h hc bH hS hx
  cases h
 cases h
theorem y8G{t ty:TypeId}{x:aJ}{δ:Dl}(h:NF P t x st=some δ){ux:Value}(hx:aO S m w (okB F S m w) x ux):
 ∃v,(Builtin.len_ #[t] ty #[ux]).run P w= .ok v w/\aO S m w (okB F S m w) δ.val v/\δ.wr=[]:=by
 unfold NF at h;split at h
 ·rename_i s hu;have:=fS h;subst this;have:=aO.bq hx;subst this;exact⟨_,by simp[Builtin.len_,run_underlying hu,goInt],.t _ _ (.sc _ rfl),rfl⟩
 ·rename_i e k xs hu;have:=fS h;subst this;cases hx with
  |t _ _ hT=>
   cases hT with
   |bX _ _ A cap us hk u5 hn hm hA hl jL=>
    exact⟨_,by simp[Builtin.len_,run_underlying hu,goInt],.t _ _ (.sc _ rfl),rfl⟩
 ·rename_i e A n c hu;have:=fS h;subst this;have:=aO.bq hx;subst this;exact⟨_,by simp[Builtin.len_,run_underlying hu,goInt],.t _ _ (.sc _ rfl),rfl⟩
 ·rename_i e id n hu;have:=fS h;subst this;cases hx with
  |fH _ _ L b9=>exact⟨_,by simp[Builtin.len_,run_underlying hu,goInt,ia],.t _ _ (.sc _ rfl),rfl⟩
  |aF _ _ k' iU xs' L b9 tg fu=>
   exact⟨_,by simp[Builtin.len_,run_underlying hu,goInt,ia],.t _ _ (.sc _ rfl),rfl⟩
 ·rename_i e id n hu;have:=fS h;subst this;cases hx with
  |iT _ _ L b9=>exact⟨_,by simp[Builtin.len_,run_underlying hu,goInt,ia],.t _ _ (.sc _ rfl),rfl⟩
  |jv _ _ cs b b9 hm=>exact⟨_,by simp[Builtin.len_,run_underlying hu,goInt,ia],.t _ _ (.sc _ rfl),rfl⟩
 ·rename_i n e hu;have:=fS h;subst this;exact⟨_,by simp[Builtin.len_,run_underlying hu,goInt],.t _ _ (.sc _ rfl),rfl⟩
 cases h
theorem y99{d:Option TypeDesc}{a b:Tree}{r:Bool}(h:Nn d a b=some r):
 (∃k k' x y,d=some (.int k')/\a= .sc (.int k x)/\b= .sc (.int k y)/\r=(x==y))\/
 (∃x y,d=some .string/\a= .sc (.string x)/\b= .sc (.string y)/\r=(x.toList==y.toList))\/
 (∃x y,d=some .bool/\a= .sc (.bool x)/\b= .sc (.bool y)/\r=(x==y)):=by
 unfold Nn at h;split at h
 ·split at h
  ·split at h
   ·rename_i e;subst e;simp only[Option.some.injEq] at h;exact .inl ⟨_,_,_,_,rfl,rfl,rfl,h.symm⟩
   cases h
  cases h
 ·split at h
  ·simp only[Option.some.injEq] at h;exact .inr (.inl ⟨_,_,rfl,rfl,rfl,h.symm⟩)
  cases h
 ·split at h
  ·simp only[Option.some.injEq] at h;exact .inr (.inr ⟨_,_,rfl,rfl,rfl,h.symm⟩)
  cases h
 cases h
theorem Ty(d:Nat)(xs ys:Array Value):∀(fs:List Field) (i:Nat) (a b:List Tree) (r:Bool),AA P i fs a b=some r->
 (∀(j:Nat) (v:Value),a[j]? =some (.sc v)->xs[i+j]? =some v)->(∀(j:Nat) (v:Value),b[j]? =some (.sc v)->ys[i+j]? =some v)->
 (Op.eqFields (d+1) xs ys fs).run P w= .ok r w
 | [],i,[],[],r,h,_,_=>by simp[AA] at h;subst h;simp[Op.eqFields]
 | [],i,_::_,_,r,h,_,_=>by simp[AA] at h
 | [],i,[],_::_,r,h,_,_=>by simp[AA] at h
 |f::fs,i,[],_,r,h,_,_=>by simp[AA] at h
 |f::fs,i,_::_,[],r,h,_,_=>by simp[AA] at h
 |f::fs,i,a::l,b::l',r,h,hx,hy=>by
  simp only[AA] at h;obtain⟨hc,h⟩:=gL h;simp only[Bool.and_eq_true,bne_iff_ne,ne_eq] at hc;have ho:=Nat.eq_of_beq_eq_true hc.1;split at h;rotate_left
  ·cases h
  rename_i x y oO hr;simp only[Option.some.injEq] at h;have ih:=Ty d xs ys fs (i+1) l l' y hr (fun j v hj=>by rw[show i+1+j=i+(j+1) by omega];exact hx (j+1) v hj) (fun j v hj=>by rw[show i+1+j=i+(j+1) by omega];exact hy (j+1) v hj);have key:∀va vb,a= .sc va->b= .sc vb->(vK P f.type=some false)->(Op.equalIn (d+1) f.type va vb).run P w= .ok x w->(Op.eqFields (d+1) xs ys (f::fs)).run P w= .ok r w:=by
   intro va vb ha hb ht he;have h1:=hx 0 va (by simp[ha]);have h2:=hy 0 vb (by simp[hb]);simp only[Nat.add_zero] at h1 h2;simp only[Op.eqFields,hc.2,ne_eq,not_false_eq_true,if_true,Sem.run_bind,Go.part,Dk ht,Result.andThen_ok,Bool.false_eq_true,if_false,ho,h1,h2,Sem.run_pure,he,Sem.run_ite];rw[<-h];cases x
   ·simp
   simp[ih]
  rcases y99 oO with⟨k,k',p,q,hd,ha,hb,rfl⟩| ⟨p,q,hd,ha,hb,rfl⟩| ⟨p,q,hd,ha,hb,rfl⟩
  ·exact key _ _ ha hb (by simp[vK,hd]) (run_equalIn_int w d f.type k k' p q hd)
  ·exact key _ _ ha hb (by simp[vK,hd]) (run_equalIn_string w d f.type p q hd)
  exact key _ _ ha hb (by simp[vK,hd]) (run_equalIn_bool' w d f.type p q hd)
theorem Tz{t:TypeId}{a b:List Tree}{r:Bool}(h:JP P t a b=some r){us vs:List Value}
 (hx:∀(j:Nat) (v:Value),a[j]? =some (.sc v)->us[j]? =some v) (hy:∀(j:Nat) (v:Value),b[j]? =some (.sc v)->vs[j]? =some v):
 (Op.equalIn 10000 t (.agg us.toArray) (.agg vs.toArray)).run P w= .ok r w/\P.eqGuardType P.depth t=false:=by
 unfold JP at h;split at h;rotate_left
 ·cases h
 rename_i fs hu;obtain⟨hc,h⟩:=gL h;simp only[Bool.and_eq_true,Bool.not_eq_true'] at hc;have AF:P.fieldsOf t=fs:=by simp[Program.fieldsOf,hu]
 refine⟨?_,hc.2⟩;have:=run_equalIn_struct (P:=P) w 9999 t us.toArray vs.toArray (by rw[AF];exact hu) hc.1;rw[this,AF];exact Ty 9998 us.toArray vs.toArray fs.toList 0 a b r h (fun j v hj=>by simpa using hx j v hj) (fun j v hj=>by simpa using hy j v hj)
theorem y8H {op : BinOp} {t : TypeId} {x y : aJ} {δ : Dl} (h : No P op t x y = some δ) (hc : b8 δ.jW) {ux uy : Value} {ox oy : Operand}
    (hx : aO S m w (okB F S m w) x ux) (hy : aO S m w (okB F S m w) y uy) :
    ∃ v, (do eqGuard op t ox oy ux uy; binOp op t ux uy).run P w = .ok v w /\ aO S m w (okB F S m w) δ.val v /\ δ.wr = [] := by
  unfold No at h
  split at h
  · rename_i k a k' b
    have := aO.bq hx; subst this
    have := aO.bq hy; subst this
    have hg : (eqGuard op t ox oy (.int k a) (.int k' b)).run P w = .ok () w := by cases op <;> simp [eqGuard]
    unfold Tl at h
    split at h
    · have := fS h; subst this
      simp only [b8] at hc
      refine ⟨_, ?_, .t _ _ (.sc _ rfl), rfl⟩
      simp only [Sem.run_bind, hg, Result.andThen_ok]
      simp [binOp, Op.shift, show ¬ b < 0 by omega]
    · have := fS h; subst this
      simp only [b8] at hc
      refine ⟨_, ?_, .t _ _ (.sc _ rfl), rfl⟩
      simp only [Sem.run_bind, hg, Result.andThen_ok]
      simp [binOp, Op.shift, show ¬ b < 0 by omega]
    · split at h
      rotate_left
      · cases h
      rename_i hk
      subst hk
      cases op <;> simp only [Tk] at h <;> first
        | (cases h; done)
        | (have := fS h; subst this
           simp only [b8] at hc
           refine ⟨_, ?_, .t _ _ (.sc _ rfl), rfl⟩
           simp only [Sem.run_bind, hg, Result.andThen_ok]
           simp [binOp, Op.intArith, Op.intDiv, Op.intCmp, Op.intBits, GC, Tj, hc])
  · rename_i a b
    have := aO.bq hx; subst this
    have := aO.bq hy; subst this
    have hg : (eqGuard op t ox oy (.string a) (.string b)).run P w = .ok () w := by cases op <;> simp [eqGuard]
    cases op <;> simp only [Tm] at h <;> first
      | (cases h; done)
      | (have := fS h; subst this
         simp only [b8] at hc
         refine ⟨_, ?_, .t _ _ (.sc _ rfl), rfl⟩
         simp only [Sem.run_bind, hg, Result.andThen_ok]
         simp [binOp, Op.stringOp]
         try simpa using hc.1)
  · rename_i a b
    have := aO.bq hx; subst this
    have := aO.bq hy; subst this
    have hg : (eqGuard op t ox oy (.bool a) (.bool b)).run P w = .ok () w := by cases op <;> simp [eqGuard]
    split at h
    · rename_i hu
      have := fS h; subst this
      refine ⟨_, ?_, .t _ _ (.sc _ rfl), rfl⟩
      have he := run_equalIn_bool' (P := P) w 9999 t a b hu
      simp only [Sem.run_bind, hg, Result.andThen_ok, binOp, Op.equal, Op.maxDepth, he]
      simp
    · rename_i hu
      have := fS h; subst this
      refine ⟨_, ?_, .t _ _ (.sc _ rfl), rfl⟩
      have he := run_equalIn_bool' (P := P) w 9999 t a b hu
      simp only [Sem.run_bind, hg, Result.andThen_ok, binOp, Op.equal, Op.maxDepth, he]
      simp
    · cases h
  · rename_i a b
    cases hx with
    | t _ _ hTx =>
      cases hTx with
      | agg _ us hlx xC h1x =>
        cases hy with
        | t _ _ hTy =>
          cases hTy with
          | agg _ vs hly hcy h1y =>
            have E1 : ∀ (i : Nat) (v : Value), a[i]? = some (.sc v) -> us[i]? = some v := fun i v hi => by
              have j7 : i < us.length := by rw [hlx]; exact (List.getElem?_eq_some_iff.1 hi).1
              have := h1x i _ _ hi (List.getElem?_eq_getElem j7)
              generalize hu : us[i] = uu at this
              cases this
              rw [List.getElem?_eq_getElem j7, hu]
            have G4 : ∀ (i : Nat) (v : Value), b[i]? = some (.sc v) -> vs[i]? = some v := fun i v hi => by
              have j7 : i < vs.length := by rw [hly]; exact (List.getElem?_eq_some_iff.1 hi).1
              have := h1y i _ _ hi (List.getElem?_eq_getElem j7)
              generalize hu : vs[i] = uu at this
              cases this
              rw [List.getElem?_eq_getElem j7, hu]
            have run : ∀ r, JP P t a b = some r -> (Op.equalIn 10000 t (.agg us.toArray) (.agg vs.toArray)).run P w = .ok r w /\ (eqGuard op t ox oy (.agg us.toArray) (.agg vs.toArray)).run P w = .ok () w := fun r hr =>
              ⟨(Tz hr E1 G4).1, run_eqGuard_agg w op t ox oy _ _ (Tz (w := w) hr E1 G4).2⟩
            split at h
            · rename_i r hr
              have := fS h; subst this
              refine ⟨_, ?_, .t _ _ (.sc _ rfl), rfl⟩
              simp only [Sem.run_bind, (run r hr).2, Result.andThen_ok, run_eql_struct, (run r hr).1]
            · rename_i r hr
              have := fS h; subst this
              refine ⟨_, ?_, .t _ _ (.sc _ rfl), rfl⟩
              simp only [Sem.run_bind, (run r hr).2, Result.andThen_ok, run_neq_struct, (run r hr).1]
            · cases h
  · rename_i kk xs
    split at h
    · rename_i e hu
      have := fS h; subst this
      have h2 := aO.bq hy; subst h2
      cases hx with
      | t _ _ hT =>
        cases hT with
        | bX _ _ A c us hk pT hn hm hA hl hr =>
          refine ⟨.bool A.isNone, ?_, .eZ _, rfl⟩
          have hg : (eqGuard .eql t ox oy (.slice A xs.length c) (.slice none 0 0)).run P w = .ok () w := by simp [eqGuard]
          rw [Sem.run_bind, hg]
          exact Go.Lib.run_eql_slice_nil w t e A xs.length c 0 0 hu
    · rename_i e hu
      have := fS h; subst this
      have h2 := aO.bq hy; subst h2
      cases hx with
      | t _ _ hT =>
        cases hT with
        | bX _ _ A c us hk pT hn hm hA hl hr =>
          refine ⟨.bool (!A.isNone), ?_, .eZ _, rfl⟩
          have hg : (eqGuard .neq t ox oy (.slice A xs.length c) (.slice none 0 0)).run P w = .ok () w := by simp [eqGuard]
          rw [Sem.run_bind, hg]
          have := Go.Lib.run_equalIn_slice_nil w 9999 t e A xs.length c 0 0 hu
          simp [binOp, Op.equal, Op.maxDepth, this]
    · cases h
  · cases h
theorem y1Q(w:World){t t':TypeId}{u:Value}{ms:Array (String×TypeId)}(ht:P.underlying t=some (.interface ms)):
 (binOp .neq t (.iface t' u) .nilIface).run P w= .ok (.bool true) w:=by
 have h:∀d:Nat,(Op.equalIn (d+1) t (.iface t' u) .nilIface).run P w= .ok false w:=fun d=>by
  simp[Op.equalIn,run_underlying ht]
 simp only[binOp];simp[Op.equal,Op.maxDepth,h 9999]
theorem y49{op:BinOp}{t:TypeId}{x y:aJ}{δ:Dl}{ux uy:Value}{ox oy:Operand}(h:JQ P op t oy x y=some δ)(hc:b8 δ.jW)
 (hx:aO S m w (okB F S m w) x ux) (hy:aO S m w (okB F S m w) y uy):
 ∃v,(do eqGuard op t ox oy ux uy;binOp op t ux uy).run P w= .ok v w/\aO S m w (okB F S m w) δ.val v/\δ.wr=[]:=by
 unfold JQ at h;split at h
 ·split at h
  ·rename_i e hu;have:=fS h;subst this;have h2:=aO.bq hy;subst h2;cases hx with
   |kS t' u=>
    refine⟨.bool true,?_,.t _ _ (.sc _ rfl),rfl⟩;have hg:(eqGuard .neq t ox oy (.iface t' u) .nilIface).run P w= .ok () w:=by simp[eqGuard]
    rw[Sem.run_bind,hg];exact y1Q w hu
  cases h
 ·split at h
  ·rename_i e _ hu;have:=fS h;subst this;have h2:=aO.bq hy;subst h2;have h1:=aO.bq hx;subst h1;refine⟨.bool false,?_,.t _ _ (.sc _ rfl),rfl⟩;have hg:∀c,(eqGuard .neq t ox (.const c) .nilIface .nilIface).run P w= .ok () w:=fun c=>by simp[eqGuard]
   rw[Sem.run_bind,hg];exact Go.Lib.run_neq_nil_nil w hu
  cases h
 exact y8H h hc hx hy
theorem y5a{op:BinOp}{t:TypeId}{x y:aJ}{δ:Dl}(h:JR P op t x y=some δ)(hc:b8 δ.jW){ux uy:Value}{ox oy:Operand}
 (hx:aO S m w (okB F S m w) x ux) (hy:aO S m w (okB F S m w) y uy):
 ∃v,(do eqGuard op t ox oy ux uy;binOp op t ux uy).run P w= .ok v w/\aO S m w (okB F S m w) δ.val v/\δ.wr=[]:=by
 unfold JR at h;split at h
 ·rename_i kk xs;split at h
  ·rename_i e hu;have:=fS h;subst this;have h2:=aO.bq hy;subst h2;cases hx with
   |t _ _ hT=>
    cases hT with
    |bX _ _ A c us hk pT hn hm hA hl hr=>
     obtain⟨b,o,eA,_⟩:=hA (fun e=>hc.1 (by rw[e];rfl));refine⟨.bool A.isNone,?_,?_,rfl⟩
     ·have hg:(eqGuard .eql t ox oy (.slice A xs.length c) (.slice none 0 0)).run P w= .ok () w:=by simp[eqGuard]
      rw[Sem.run_bind,hg];exact Go.Lib.run_eql_slice_nil w t e A xs.length c 0 0 hu
     rw[eA];exact .t _ _ (.sc _ rfl)
  ·rename_i e hu;have:=fS h;subst this;have h2:=aO.bq hy;subst h2;cases hx with
   |t _ _ hT=>
    cases hT with
    |bX _ _ A c us hk pT hn hm hA hl hr=>
     obtain⟨b,o,eA,_⟩:=hA (fun e=>hc.1 (by rw[e];rfl));refine⟨.bool (!A.isNone),?_,?_,rfl⟩
     ·have hg:(eqGuard .neq t ox oy (.slice A xs.length c) (.slice none 0 0)).run P w= .ok () w:=by simp[eqGuard]
      rw[Sem.run_bind,hg];have:=Go.Lib.run_equalIn_slice_nil w 9999 t e A xs.length c 0 0 hu;simp[binOp,Op.equal,Op.maxDepth,this]
     rw[eA];exact .t _ _ (.sc _ rfl)
  cases h
 cases h
end
end Go.Ab
end
section
namespace Go.Ab
variable {P:Program} {w:World} {F:eL P} {S st:bQ} {m:Place}
theorem NX(hS:aY F S m w){id k:Nat}{xs:List Tree}(h:S id=some (.aF k true xs)):cr w (okB F S m w) (.bX k xs) (ia (m id) xs.length):=by
 obtain⟨a1,a2,a3,a4,a5⟩:=hS.cN id _ h;rcases a5 with⟨a5,a6⟩| ⟨b,us,e,h1,h2,h3,h4,h5⟩
 ·have hx:xs=[]:=qP (by rw[a6] at a3;omega);subst hx;exact .bX k [] _ _ [] a1 (fun x hx=>by simp at hx) sM a4 (fun h=>absurd rfl h) sM (fun j T u h=>by simp[dL] at h)
 have sx:=vO a2;have hle:xs.length*k<=us.size:=by rw[h3];exact zi k a3
 refine .bX k xs _ _ ((us.toList).take (xs.length*k)) a1 a2 a3 a4 (fun _=>⟨b,0,by simp[h1],⟨?_,?_,?_⟩,?_⟩) (by simp;omega) (fun j T u hj hu=> ?_)
 ·exact(qY.1 h2).1
 ·exact fun hb=>hS.eD id _ b h (.inl h1) (F.sup b hb)
 ·intro i o hi hl hb;have:=hS.inj id i _ _ b h hi (.inl h1) hb;subst this;rw[h] at hi;cases hi;simp[Ob.live] at hl
 ·intro j u hu;rw[qB] at hu;split at hu
  ·simp only[World.cell?,h2];simpa using hu
  cases hu
 rw[qB] at hu;split at hu
 ·exact h5 j T u hj (by simpa using hu)
 cases hu
def xD(S:bQ)(f:List (Nat×Ob)):Prop:=∀id o,(id,o)∈f->∃k fz xs,S id=some (.aF k fz xs)/\o= .aF k true xs
theorem z17:∀(f:List (Nat×Ob)) (S:bQ),aY F S m w->xD S f->
 aY F (app S f) m w/\aK F S m w (app S f) m w/\
  (∀id k fz xs,S id=some (.aF k fz xs)->∃iU,app S f id=some (.aF k iU xs)/\((id∈f.map (·.1)\/fz=true)->iU=true))/\
  (∀id,id∉f.map (·.1)->app S f id=S id)
 | [],S,hS,_=>⟨hS,aK.refl F S m w,fun id k fz xs h=>⟨fz,h,fun h'=>h'.elim (fun h'=>by simp at h') (fun h'=>h')⟩,fun id _=>rfl⟩
 | (i,o)::f,S,hS,hf=>by
  obtain⟨k,fz,xs,hi,rfl⟩:=hf i o sM;obtain⟨h1,h2⟩:=freeze hS hi;have G5:∀id k' iU xs',S id=some (.aF k' iU xs')->∃vQ,bO S i (.aF k true xs) id=some (.aF k' vQ xs')/\((id=i\/iU=true)->vQ=true):=by
   intro id k' iU xs' h;by_cases e:id=i
   ·subst e;rw[hi] at h;cases h;exact⟨true,iV _ _ _,fun _=>rfl⟩
   exact⟨iU,by rw[eC e];exact h,fun h'=>h'.elim (fun h'=>absurd h' e) (fun h'=>h')⟩
  have hf':xD (bO S i (.aF k true xs)) f:=by
   intro id o h;obtain⟨k',iU,xs',h3,h4⟩:=hf id o (by simp[h]);obtain⟨vQ,h5,_⟩:=G5 id k' iU xs' h3;exact⟨k',vQ,xs',h5,h4⟩
  obtain⟨r1,r2,r3,r4⟩:=z17 f (bO S i (.aF k true xs)) h1 hf';refine⟨r1,h2.trans hS r2,fun id k' iU xs' h=> ?_,fun id bn=> ?_⟩
  ·obtain⟨vQ,h5,h6⟩:=G5 id k' iU xs' h;obtain⟨fz3,h7,h8⟩:=r3 id k' vQ xs' h5;refine⟨fz3,h7,fun h9=>h8 ?_⟩;rcases h9 with h9|h9
   ·simp only[qU,qg] at h9;rcases h9 with h9|h9
    ·exact .inr (h6 (.inl h9))
    exact .inl h9
   exact .inr (h6 (.inr h9))
  simp only[qU,qg,not_or] at bn;show app (bO S i (.aF k true xs)) f id=S id;rw[r4 id bn.2,eC bn.1]
theorem rO{l r:List Prop}:b8 (l++r)↔b8 l/\b8 r:=by
 induction l with
 |nil=>simp[b8]
 |cons p l ih=>simp[b8,ih,and_assoc]
def J6(F:eL P)(S:bQ)(m:Place)(w:World)(v':aJ)(f:List (Nat×Ob))(u:Value):Prop:=
 xD S f/\∀g:List (Nat×Ob),xD S g->(∀x∈f,x∈g)->aO (app S g) m w (okB F (app S g) m w) v' u
theorem pU(bH:∀id o,st id=some o->S id=some o)(hS:aY F S m w){v v':aJ}{f:List (Nat×Ob)}{p:List Prop}(h:oo st v=some (v',f,p))(hp:b8 p){u:Value}
 (hv:aO S m w (okB F S m w) v u):J6 F S m w v' f u:=by
 have bW:∀(e1:v=v') (e2:f=[]),J6 F S m w v' f u:=by
  intro e1 e2;subst e1;subst e2;exact⟨fun id o h=>by simp at h,fun g hg _=>(z17 g S hS hg).2.1.val hv⟩
 cases v with
 |aF id n=>
  simp only[oo] at h;split at h;rotate_left
  ·cases h
  rename_i k fz xs hs;simp only[qb,qD] at h;obtain⟨rfl,rfl,rfl⟩:=h;simp only[b8] at hp;obtain⟨hn,-⟩:=hp;have cK:=bH id _ hs;cases hv with
  |fH _ _ L b9=>rw[cK] at b9;cases b9
  |aF _ _ k' iU xs' L b9 tg fu=>
   rw[cK] at b9;cases b9;have hL:=fu hn;refine⟨fun i o hi=> ?_,fun g hg xE=> ?_⟩
   ·cases fz with
    |true=>simp at hi
    |false=>simp at hi;obtain⟨rfl,rfl⟩:=hi;exact⟨k,false,xs,cK,rfl⟩
   obtain⟨r1,r2,r3,_⟩:=z17 g S hS hg;obtain⟨iU,h1,h2⟩:=r3 id k fz xs cK;have:iU=true:=h2 (by
    cases fz with
    |true=>exact .inr rfl
    |false=>exact .inl (qO.2 ⟨(id,.aF k true xs),xE _ sM,rfl⟩))
   subst this;have:=NX r1 h1;rw[hL,<-hn] at this;exact .t _ _ this
 |t T=>simp only[oo,qb,qD] at h;exact bW h.1 h.2.1.symm
 |ptr id off=>simp only[oo,qb,qD] at h;exact bW h.1 h.2.1.symm
 |cM id n i sub=>simp only[oo,qb,qD] at h;exact bW h.1 h.2.1.symm
 |ec cs=>simp only[oo,qb,qD] at h;exact bW h.1 h.2.1.symm
 |agg cs=>simp only[oo,qb,qD] at h;exact bW h.1 h.2.1.symm
 |fn f cap=>simp only[oo,qb,qD] at h;exact bW h.1 h.2.1.symm
 |aZ vs=>simp only[oo,qb,qD] at h;exact bW h.1 h.2.1.symm
 |cond c v=>simp only[oo,qb,qD] at h;exact bW h.1 h.2.1.symm
 |cZ id=>simp only[oo,qb,qD] at h;exact bW h.1 h.2.1.symm
 |eG id i=>simp only[oo,qb,qD] at h;exact bW h.1 h.2.1.symm
 |yl id=>simp only[oo,qb,qD] at h;exact bW h.1 h.2.1.symm
 |cH=>simp only[oo,qb,qD] at h;exact bW h.1 h.2.1.symm
 |eZ=>simp only[oo,qb,qD] at h;exact bW h.1 h.2.1.symm
 |kS=>simp only[oo,qb,qD] at h;exact bW h.1 h.2.1.symm
 |tail id n i=>simp only[oo,qb,qD] at h;exact bW h.1 h.2.1.symm
 |fO id=>simp only[oo,qb,qD] at h;exact bW h.1 h.2.1.symm
 |jv id n=>simp only[oo,qb,qD] at h;exact bW h.1 h.2.1.symm
 |xl k xs=>simp only[oo,qb,qD] at h;exact bW h.1 h.2.1.symm
theorem xD.append{f g:List (Nat×Ob)}(hf:xD S f)(hg:xD S g):xD S (f++g):=by
 intro id o h;rcases qn.1 h with h|h
 ·exact hf id o h
 exact hg id o h
def TA(F:eL P)(S:bQ)(m:Place)(w:World)(vs:List aJ)(f:List (Nat×Ob))(us:List Value):Prop:=
 vs.length=us.length/\xD S f/\∀g:List (Nat×Ob),xD S g->(∀x∈f,x∈g)->
  ∀(i:Nat) (v:aJ) (u:Value),vs[i]? =some v->us[i]? =some u->aO (app S g) m w (okB F (app S g) m w) v u
theorem NY(bH:∀id o,st id=some o->S id=some o)(hS:aY F S m w):∀{vs ud:List aJ} {f:List (Nat×Ob)} {p:List Prop} {us:List Value},Dg st vs=some (ud,f,p)->b8 p->
 us.length=vs.length->(∀(i:Nat) (v:aJ) (u:Value),vs[i]? =some v->us[i]? =some u->aO S m w (okB F S m w) v u)->TA F S m w ud f us
 | [],ud,f,p,us,h,_,hl,_=>by
  simp only[Dg,qb,qD] at h;obtain⟨rfl,rfl,rfl⟩:=h;have:us=[]:=qP (by simpa using hl);subst this;exact⟨rfl,fun id o h=>by simp at h,fun g _ _ i v u h=>by simp at h⟩
 |v::vs,ud,f,p,us,h,hp,hl,hr=>by
  simp only[Dg] at h;split at h;rotate_left
  ·cases h
  rename_i v1 f1 p1 l1 g1 d1 h1 h2;simp only[qb,qD] at h;obtain⟨rfl,rfl,rfl⟩:=h;rw[rO] at hp
  match us,hl with
  |u::us,hl=>
   have s1:=pU bH hS h1 hp.1 (hr 0 v u rfl rfl);have s2:=NY bH hS h2 hp.2 (by simpa using hl) (fun i v u hv hu=>hr (i+1) v u hv hu);refine⟨by simp[s2.1],s1.1.append s2.2.1,fun g hg xE i v' u' hv hu=> ?_⟩
   match i with
   |0=>simp at hv hu;subst hv;subst hu;exact s1.2 g hg (fun x hx=>xE x (by simp[hx]))
   |i+1=>exact s2.2.2 g hg (fun x hx=>xE x (by simp[hx])) i v' u' hv hu
theorem oP(bH:∀id o,st id=some o->S id=some o)(hS:aY F S m w){v v':aJ}{f:List (Nat×Ob)}{p:List Prop}(h:mH st v=some (v',f,p))(hp:b8 p){u:Value}
 (hv:aO S m w (okB F S m w) v u):J6 F S m w v' f u:=by
 cases v with
 |agg cs=>
  simp only[mH,qe] at h;obtain⟨⟨iK,f',p'⟩,h1,h2⟩:=h;simp only[qD] at h2;obtain⟨rfl,rfl,rfl⟩:=h2;cases hv with
  |agg _ us hl hc th=>
   have:=NY bH hS h1 hp hl hc;refine⟨this.2.1,fun g hg xE=>aO.pR this.1.symm (fun i v u hv hu=>⟨this.2.2 g hg xE i v u hv hu,th u (qr hu)⟩)⟩
 |t T=>simp only[mH] at h;exact pU bH hS h hp hv
 |aF id n=>simp only[mH] at h;exact pU bH hS h hp hv
 |ptr id off=>simp only[mH] at h;exact pU bH hS h hp hv
 |cM id n i sub=>simp only[mH] at h;exact pU bH hS h hp hv
 |ec cs=>simp only[mH] at h;exact pU bH hS h hp hv
 |fn f cap=>simp only[mH] at h;exact pU bH hS h hp hv
 |aZ vs=>simp only[mH] at h;exact pU bH hS h hp hv
 |cond c v=>simp only[mH] at h;exact pU bH hS h hp hv
 |cZ id=>simp only[mH] at h;exact pU bH hS h hp hv
 |eG id i=>simp only[mH] at h;exact pU bH hS h hp hv
 |cH=>simp only[mH] at h;exact pU bH hS h hp hv
 |eZ=>simp only[mH] at h;exact pU bH hS h hp hv
 |kS=>simp only[mH] at h;exact pU bH hS h hp hv
 |tail id n i=>simp only[mH] at h;exact pU bH hS h hp hv
 |fO id=>simp only[mH] at h;exact pU bH hS h hp hv
 |xl k xs=>simp only[mH] at h;exact pU bH hS h hp hv
 |yl id=>simp only[mH] at h;exact pU bH hS h hp hv
 |jv id n=>simp only[mH] at h;exact pU bH hS h hp hv
theorem G6(bH:∀id o,st id=some o->S id=some o)(hS:aY F S m w):∀{vs ud:List aJ} {f:List (Nat×Ob)} {p:List Prop} {us:List Value},BT st vs=some (ud,f,p)->b8 p->
 us.length=vs.length->(∀(i:Nat) (v:aJ) (u:Value),vs[i]? =some v->us[i]? =some u->aO S m w (okB F S m w) v u)->TA F S m w ud f us
 | [],ud,f,p,us,h,_,hl,_=>by
  simp only[BT,qb,qD] at h;obtain⟨rfl,rfl,rfl⟩:=h;have:us=[]:=qP (by simpa using hl);subst this;exact⟨rfl,fun id o h=>by simp at h,fun g _ _ i v u h=>by simp at h⟩
 |v::vs,ud,f,p,us,h,hp,hl,hr=>by
  simp only[BT] at h;split at h;rotate_left
  ·cases h
  rename_i v1 f1 p1 l1 g1 d1 h1 h2;simp only[qb,qD] at h;obtain⟨rfl,rfl,rfl⟩:=h;rw[rO] at hp
  match us,hl with
  |u::us,hl=>
   have s1:=oP bH hS h1 hp.1 (hr 0 v u rfl rfl);have s2:=G6 bH hS h2 hp.2 (by simpa using hl) (fun i v u hv hu=>hr (i+1) v u hv hu);refine⟨by simp[s2.1],s1.1.append s2.2.1,fun g hg xE i v' u' hv hu=> ?_⟩
   match i with
   |0=>simp at hv hu;subst hv;subst hu;exact s1.2 g hg (fun x hx=>xE x (by simp[hx]))
   |i+1=>exact s2.2.2 g hg (fun x hx=>xE x (by simp[hx])) i v' u' hv hu
end Go.Ab
end
section
namespace Go.Ab
variable {P:Program} {w:World} {F:eL P} {S st:bQ} {m:Place}
def iL(F:eL P)(S:bQ)(m:Place)(w:World)(wr:List (Nat×Ob))(val:aJ)(r:Result Value):Prop:=
 ∃v w' m',r= .ok v w'/\aY F (app S wr) m' w'/\aK F S m w (app S wr) m' w'/\aO (app S wr) m' w' (okB F (app S wr) m' w') val v
theorem iL.same(hS:aY F S m w){val:aJ}{r:Result Value}(h:∃v,r= .ok v w/\aO S m w (okB F S m w) val v):iL F S m w [] val r:=by
 obtain⟨v,h1,h2⟩:=h;exact⟨v,w,m,h1,hS,aK.refl F S m w,h2⟩
theorem G7{k:Nat}{xs:List Tree}(h:∀x∈xs,jo k x)(n:Nat):dL (xs.take n)=(dL xs).take (n*k):=by
 induction xs generalizing n with
 |nil=>simp[dL]
 |cons x xs ih=>
  cases n with
  |zero=>simp[dL]
  |succ n=>
   have h1:=(h x sM).1;simp only[List.take_succ_cons,dL,ih (fun y hy=>h y (by simp[hy]))];rw[List.take_append,h1,qk (l:=x.cells) (by rw[h1,zq];omega)];congr 2;rw[zq];omega
theorem TC{k:Nat}{xs:List Tree}(h:∀x∈xs,jo k x)(n:Nat):dL (xs.drop n)=(dL xs).drop (n*k):=by
 induction xs generalizing n with
 |nil=>simp[dL]
 |cons x xs ih=>
  cases n with
  |zero=>simp[dL]
  |succ n=>
   have h1:=(h x sM).1;simp only[List.drop_succ_cons,dL,ih (fun y hy=>h y (by simp[hy]))];rw[List.drop_append,h1,List.drop_of_length_le (l:=x.cells) (by rw[h1,zq];omega),List.nil_append];congr 1;rw[zq];omega
theorem G8(b:Bool)(len cap:Nat)(TD:len<=cap)(lo hi:Option (IntKind×Int))(l h':Int)(hl:l=(lo.map (·.2)).getD 0)(hh:h'=(hi.map (·.2)).getD (len:Int))(h0:0<=l)(h1:l<=h')(h2:h'<=(cap:Int)):
 (Instr.sliceBounds b len cap (lo.map fun p=> .int p.1 p.2) (hi.map fun p=> .int p.1 p.2) none).run P w= .ok (l.toNat,h'.toNat,cap) w:=by
 have a0:0<=h':=oM;have a2:l<=max h' 0:=oM;cases lo with
 |none=>
  cases hi with
  |none=>
   simp only[Option.map_none,Option.getD_none] at hl hh;subst hl;subst hh;simp[Instr.sliceBounds]
  |some p=>
   simp only[Option.map_none,jd,Option.getD_none,zG] at hl hh;subst hl;subst hh;simp[Instr.sliceBounds,Instr.sliceBound,asIntOf,a0,h2]
 |some q=>
  cases hi with
  |none=>
   simp only[Option.map_none,jd,Option.getD_none,zG] at hl hh;subst hl;subst hh;simp[Instr.sliceBounds,Instr.sliceBound,asIntOf,h0,h1]
  |some p=>
   simp only[jd,zG] at hl hh;subst hl;subst hh;simp[Instr.sliceBounds,Instr.sliceBound,asIntOf,h0,a0,h2,a2]
theorem TE{k:Nat}{xs:List Tree}{u:Value}{ok:Nat->Prop}(h:cr w ok (.bX k xs) u){t e:TypeId}(hu:P.underlying t=some (.slice e))(hz:kT P e=some k)
 (lo hi:Option (IntKind×Int)) (l h':Int) (hl:l=(lo.map (·.2)).getD 0) (hh:h'=(hi.map (·.2)).getD (xs.length:Int)) (h0:0<=l) (h1:l<=h') (h2:h'<=(xs.length:Int)):
 ∃v,(Instr.slice t u (lo.map fun p=> .int p.1 p.2) (hi.map fun p=> .int p.1 p.2) none).run P w= .ok v w/\cr w ok (.bX k ((xs.take h'.toNat).drop l.toNat)) v:=by
 cases h with
 |bX _ _ A cap us hk hx hn hm hA xz jL=>
  refine⟨.slice (if cap=l.toNat then A else A.map (·.add (l.toNat*k))) (h'.toNat-l.toNat) (cap-l.toNat),?_,?_⟩
  ·have hb:=G8 (P:=P) (w:=w) true xs.length cap hn lo hi l h' hl hh h0 h1 oM;simp[Instr.slice,run_underlying hu,hb,lD hz]
  have hlen:((xs.take h'.toNat).drop l.toNat).length=h'.toNat-l.toNat:=by simp;omega
  have pT:∀x∈(xs.take h'.toNat).drop l.toNat,jo k x:=fun x pT=>hx x (qF (qE pT))
  have sx:dL ((xs.take h'.toNat).drop l.toNat)=((dL xs).take (h'.toNat*k)).drop (l.toNat*k):=by
   rw[TC (fun x pT=>hx x (qF pT)),G7 hx]
  have fI:h'.toNat*k<=us.length:=by rw[xz];exact zi k oM
  rw[<-hlen];refine .bX k _ _ _ ((us.take (h'.toNat*k)).drop (l.toNat*k)) hk pT (by rw[hlen];omega) oM (fun dh=> ?_) (by rw[hlen,Nat.sub_mul];simp;omega) (fun j T u hj fu=> ?_)
  ·have fQ:l.toNat<h'.toNat:=by
    have:=jb.2 dh;omega
   obtain⟨b,o,rfl,hb,bT⟩:=hA (fun e=>by subst e;simp at h2;omega);refine⟨b,o+l.toNat*k,?_,hb,fun j u fu=> ?_⟩
   ·rw[if_neg oM];simp[rM]
   rw[qQ,qB] at fu;split at fu
   ·rw[Nat.add_assoc];exact bT _ u fu
   cases fu
  rw[sx] at hj;rw[qQ,qB] at fu hj;split at fu
  ·rename_i fQ;rw[if_pos fQ] at hj;exact jL _ T u hj fu
  cases fu
theorem E2{o:Option aJ}{r:Option Int}(h:ES o=some r){uo:Option Value}(hn:o=none->uo=none)(hs:∀v,o=some v->∃u,uo=some u/\aO S m w (okB F S m w) v u):
 ∃q:Option (IntKind×Int),uo=q.map (fun p=> .int p.1 p.2)/\r=q.map (·.2):=by
 unfold ES at h;split at h
 ·simp only[qb] at h;subst h;exact⟨none,hn rfl,rfl⟩
 ·rename_i k j;simp only[qb] at h;subst h;obtain⟨u,rfl,hv⟩:=hs _ rfl;have:=aO.bq hv;subst this;exact⟨some (k,j),rfl,rfl⟩
 cases h
theorem TF(k:Nat)(xs:List Tree)(lo hi:Option Int)(l h:Int)(hl:l=lo.getD 0)(hh:h=hi.getD xs.length):JS k xs lo hi= .bX k ((xs.take h.toNat).drop l.toNat):=by
 cases lo<;>cases hi<;>simp at hl hh<;>subst hl<;>subst hh<;>simp[JS]
theorem N0{n:Nat}{lo hi:Option Int}(h:b8 (GH n lo hi)):0<=lo.getD 0/\lo.getD 0<=hi.getD n/\hi.getD n<=(n:Int):=by
 cases lo<;>cases hi<;>simp[GH,b8] at h|- <;>omega
theorem E3{t e:TypeId}(hu:P.underlying t=some (.slice e))(u:Value)(a b c:Option Value):(Instr.sliceAt t u a b c).run P w=(Instr.slice t u a b c).run P w:=by
 simp[Instr.sliceAt,run_underlying hu]
theorem y3k{t:TypeId}{x:aJ}{lo hi:Option aJ}{mx:aJ}{δ:Dl}(h:JU P t x lo hi mx=some δ)(hc:b8 δ.jW)(hS:aY F S m w)
 {ux um:Value} {vR vS:Option Value} (hx:aO S m w (okB F S m w) x ux) (BZ:lo=none->vR=none) (E4:∀v,hi=some v->∃u,vS=some u/\aO S m w (okB F S m w) v u)
 (hm:aO S m w (okB F S m w) mx um):iL F S m w δ.wr δ.val ((Instr.sliceAt t ux vR vS (some um)).run P w):=by
 unfold JU at h;split at h;rotate_left
 ·cases h
 rename_i e k xs kk hh km mm hu;obtain⟨hz,h⟩:=gL h;have hz:=BY hz;have:=fS h;subst this;simp only[b8] at hc;obtain⟨c1,c2,c3,-⟩:=hc;subst c3;have:=BZ rfl;subst this;obtain⟨uh,rfl,hv⟩:=E4 _ rfl;have:=aO.bq hv;subst this;have:=aO.bq hm;subst this;cases hx with
 |t _ _ hT=>
 cases hT with
 |bX _ _ A cap us hk hx hn E5 hA xz jL=>
 have hlen:(xs.take mm.toNat).length=mm.toNat:=by simp;omega
 have mI:mm<=(cap:Int):=oM;have a2:mm<=max mm 0:=oM;have fI:mm.toNat*k<=us.length:=by rw[xz];exact zi k oM
 refine iL.same hS ⟨.slice (if mm.toNat=0 then A else A.map (·.add 0)) mm.toNat mm.toNat,?_,.xl _ _ _ ?_ ⟨_,by rw[hlen]⟩⟩
 ·rw[E3 hu];simp[Instr.slice,run_underlying hu,Instr.sliceBounds,Instr.sliceBound,asIntOf,c1,mI,a2,lD hz]
 have key:cr w (okB F S m w) (.bX k (xs.take mm.toNat)) (.slice (if mm.toNat=0 then A else A.map (·.add 0)) (xs.take mm.toNat).length mm.toNat):=by
  refine .bX k _ _ _ (us.take (mm.toNat*k)) hk (fun x pT=>hx x (qF pT)) (by rw[hlen];exact qp _) oM (fun dh=> ?_) (by rw[hlen];simp;omega) (fun j T u hj fu=> ?_)
  ·have h0:mm.toNat≠0:=fun e=>dh (by rw[e];rfl)
   obtain⟨b,o,rfl,hb,bT⟩:=hA (fun e=>by subst e;simp at c2;omega);refine⟨b,o,?_,hb,fun j u fu=> ?_⟩
   ·rw[if_neg h0];simp[rM]
   rw[qB] at fu;split at fu
   ·exact bT j u fu
   cases fu
  ·rw[G7 hx,qB] at hj;rw[qB] at fu;split at fu
   ·rename_i fQ;rw[if_pos fQ] at hj;exact jL _ T u hj fu
   cases fu
 rw[hlen] at key;exact key
theorem y3l{t:TypeId}{x:aJ}{lo hi mx:Option aJ}{δ:Dl}(h:JT P t x lo hi mx st=some δ)(hc:b8 δ.jW)(bH:∀id o,st id=some o->S id=some o)(hS:aY F S m w)
 {ux:Value} {vR vS:Option Value} (hx:aO S m w (okB F S m w) x ux) (BZ:lo=none->vR=none) (J7:∀v,lo=some v->∃u,vR=some u/\aO S m w (okB F S m w) v u)
 (J8:hi=none->vS=none) (E4:∀v,hi=some v->∃u,vS=some u/\aO S m w (okB F S m w) v u):
 mx=none/\iL F S m w δ.wr δ.val ((Instr.sliceAt t ux vR vS none).run P w):=by
 unfold JT at h;split at h;rotate_left
 ·cases h
 rename_i lo' oq h1 h2;refine⟨rfl,?_⟩;obtain⟨ql,rfl,rfl⟩:=E2 h1 BZ J7;obtain⟨qh,rfl,rfl⟩:=E2 h2 J8 E4;split at h
 ·rename_i s hu;have:=fS h;subst this;have:=aO.bq hx;subst this;simp only[b8] at hc;obtain⟨c1,c2,c3,-⟩:=hc;refine iL.same hS ⟨_,?_,.t _ _ (.sc _ rfl)⟩;have hb:=G8 (P:=P) (w:=w) false s.size s.size (qp _) ql qh _ _ rfl rfl c1 c2 c3;simp[Instr.sliceAt,Instr.slice,run_underlying hu,hb]
 ·rename_i e k xs hu;obtain⟨hz,h⟩:=gL h;have hz:=BY hz;have:=fS h;subst this;obtain⟨c1,c2,c3⟩:=N0 hc;cases hx with
  |t _ _ hT=>
   obtain⟨v,h3,h4⟩:=TE hT hu hz ql qh _ _ rfl rfl c1 c2 c3;refine iL.same hS ⟨v,by rw[E3 hu];exact h3,.t _ _ ?_⟩;rw[TF k xs _ _ _ _ rfl rfl];exact h4
 ·rename_i e hu;simp only[qw] at h;obtain⟨z,hz,h⟩:=h;have:=fS h;subst this;have:=aO.bq hx;subst this;obtain⟨c1,c2,c3⟩:=N0 hc;refine iL.same hS ⟨.slice none 0 0,?_,.t _ _ (.sc _ rfl)⟩;have hb:=G8 (P:=P) (w:=w) true 0 0 (qp _) ql qh _ _ rfl rfl c1 c2 c3;have e1:((ql.map fun x:IntKind×Int=>x.2).getD 0).toNat=0:=oM;have e2:((qh.map fun x:IntKind×Int=>x.2).getD ((0:Nat):Int)).toNat=0:=oM;rw[e1,e2] at hb;rw[E3 hu];simp[Instr.slice,run_underlying hu,hb,lD hz]
 ·rename_i e id n hu;split at h;rotate_left
  ·cases h
  rename_i k fz xs hs;obtain⟨hz,h⟩:=gL h;have hz:=BY hz;simp only[qb] at h;subst h;simp only[b8] at hc;obtain⟨hn,hc⟩:=hc;obtain⟨c1,c2,c3⟩:=N0 hc;have cK:=bH id _ hs;have TG:xD S (bif fz then[] else[(id,Ob.aF k true xs)]):=by
   intro i o hi;cases fz with
   |true=>simp at hi
   |false=>simp at hi;obtain⟨rfl,rfl⟩:=hi;exact⟨k,false,xs,cK,rfl⟩
  obtain⟨r1,r2,r3,_⟩:=z17 _ S hS TG;obtain⟨iU,h5,h6⟩:=r3 id k fz xs cK;have:iU=true:=h6 (by
   cases fz with
   |true=>exact .inr rfl
   |false=>exact .inl sM)
  subst this;cases hx with
  |fH _ _ L b9=>rw[cK] at b9;cases b9
  |aF _ _ k' iU xs' L b9 tg fu=>
   rw[cK] at b9;cases b9;have hL:=fu hn;have hT:=NX r1 h5;rw[hL,<-hn] at hT;obtain⟨v,h3,h4⟩:=TE hT hu hz ql qh _ _ rfl rfl c1 c2 c3;refine⟨v,w,m,by rw[E3 hu];exact h3,r1,r2,.t _ _ ?_⟩;rw[TF k xs _ _ _ _ rfl rfl];exact h4
 cases h
theorem TH(uZ:Bool)(k:IntKind):∀(l:List aJ) (us:List Value) (a r:Int),GI uZ a l=some r->us.length=l.length->
 (∀(i:Nat) (v:aJ) (u:Value),l[i]? =some v->us[i]? =some u->aO S m w (okB F S m w) v u)->
 (us.foldlM (bif uZ then Builtin.max2 else Builtin.min2) (.int k a)).run P w= .ok (.int k r) w
 | [],us,a,r,h,hl,_=>by
  have:us=[]:=qP (by simpa using hl);subst this;simp[GI] at h;subst h;simp
 |v::l,us,a,r,h,hl,hr=>by
  match us,hl with
  |u::us,hl=>
   simp only[GI] at h;split at h;rotate_left
   ·cases h
   rename_i ik b;have:=aO.bq (hr 0 _ u rfl rfl);subst this;have ih:=TH uZ k l us _ r h (by simpa using hl) (fun i v u hv hu=>hr (i+1) v u hv hu);cases uZ
   ·simp only[cond_false] at ih;simp[Builtin.min2,ih]
   simp only[cond_true] at ih;simp[Builtin.max2,ih]
theorem TJ{uZ:Bool}{xs:List aJ}{δ:Dl}(h:JV uZ xs=some δ){us:List Value}(hl:us.length=xs.length)
 (hr:∀(i:Nat) (v:aJ) (u:Value),xs[i]? =some v->us[i]? =some u->aO S m w (okB F S m w) v u) (ts:Array TypeId) (ty:TypeId):
 ∃v,((bif uZ then Builtin.max_ else Builtin.min_) ts ty us.toArray).run P w= .ok v w/\aO S m w (okB F S m w) δ.val v/\δ.wr=[]:=by
 unfold JV at h;split at h;rotate_left
 ·cases h
 rename_i k a l;simp only[qw] at h;obtain⟨r,h1,h2⟩:=h;have:=fS h2;subst this
 match us,hl with
 |u::us,hl=>
  have:=aO.bq (hr 0 _ u rfl rfl);subst this;have:=TH (P:=P) uZ k l us a r h1 (by simpa using hl) (fun i v u hv hu=>hr (i+1) v u hv hu);refine⟨_,?_,.t _ _ (.sc _ rfl),rfl⟩;cases uZ
  ·simpa[Builtin.min_] using this
  simpa[Builtin.max_] using this
end Go.Ab
end
section
namespace Go.Ab
variable {P:Program} {w:World} {F:eL P} {S st:bQ} {m:Place}
theorem B0(S:bQ)(f g:List (Nat×Ob)):app S (f++g)=app (app S f) g:=by
 induction f generalizing S with
 |nil=>rfl
 |cons x f ih=>obtain⟨i,o⟩:=x;exact ih _
def tj(st:bQ)(m:Place)(w:World)(ok:Nat->Prop)(cs:List aJ)(us:List Value):Prop:=
 us.length=cs.length/\∀(i:Nat) (v:aJ) (u:Value),cs[i]? =some v->us[i]? =some u->aO st m w ok v u/\u.oneCell'=true
theorem N1{α:Type}{l r new:List α}{off:Nat}(h:GB l off new=some r):off+new.length<=l.length/\r=l.take off++new++l.drop (off+new.length):=by
 unfold GB at h;obtain⟨h1,h2⟩:=gL h;exact⟨qy h1,by simp only[qb] at h2;exact h2.symm⟩
theorem tj.ue{ok:Nat->Prop}{cs new:List aJ}{us vs:List Value}{off:Nat}(h:tj S m w ok cs us)(hn:tj S m w ok new vs)(hle:off+new.length<=cs.length):
 tj S m w ok (cs.take off++new++cs.drop (off+new.length)) (us.take off++vs++us.drop (off+vs.length)):=by
 obtain⟨h1,h2⟩:=h;obtain⟨n1,n2⟩:=hn;refine⟨by simp[h1,n1],fun i v u hv hu=> ?_⟩;rw[n1] at hu;by_cases a:i<off
 ·have l1:i< (cs.take off++new).length:=by simp;omega
  have l2:i< (us.take off++vs).length:=by simp[n1,h1];omega
  rw[qx l1,qx (by simp;omega),qB,if_pos a] at hv;rw[qx l2,qx (by simp[h1];omega),qB,if_pos a] at hu;exact h2 i v u hv hu
 by_cases b:i<off+new.length
 ·have e1:(cs.take off).length=off:=by simp;omega
  have e2:(us.take off).length=off:=by simp[h1];omega
  rw[qx (by simp;omega),qK oM,e1] at hv;rw[qx (by simp[n1,h1];omega),qK oM,e2] at hu;exact n2 _ v u hv hu
 have e1:(cs.take off++new).length=off+new.length:=by simp;omega
 have e2:(us.take off++vs).length=off+new.length:=by simp[h1,n1];omega
 rw[qK oM,e1,qQ] at hv;rw[qK oM,e2,qQ] at hu;exact h2 _ v u hv hu
theorem TK:∀(vs:List Value) (i off:Nat) (cs:Array Value),off+i+vs.length<=cs.size->
 ((vs.zipIdx i).foldl (fun(cs:Array Value) (x:Value×Nat)=>cs.setIfInBounds (off+x.2) x.1) cs).toList=cs.toList.take (off+i)++vs++cs.toList.drop (off+i+vs.length)
 | [],i,off,cs,_=>sM
 |v::vs,i,off,cs,h=>by
  have ih:=TK vs (i+1) off (cs.setIfInBounds (off+i) v) (by simp at h|-;omega);simp only[List.zipIdx_cons,List.foldl_cons];rw[ih];have:=list_seg_step cs.toList (off+i) v vs (by simp at h|-;omega);simpa[Array.toList_setIfInBounds,Nat.add_assoc] using this
theorem J9{ok:Nat->Prop}{place:Nat->Option (Nat×Nat)}:∀(parts:List (Nat×aJ)) (bS:List (Nat×Value)) (cs iK:List aJ) (us:List Value),Di place cs parts=some iK->
 bS.length=parts.length->(∀(i:Nat) (p:Nat×aJ) (q:Nat×Value),parts[i]? =some p->bS[i]? =some q->p.1=q.1/\aO S m w ok p.2 q.2/\(cI p.2).all tY=true)->
 tj S m w ok cs us->∃mJ:List Value,Instr.fill place us.toArray bS=some mJ.toArray/\tj S m w ok iK mJ
 | [],bS,cs,iK,us,h,hl,_,hc=>by
  have:bS=[]:=qP (by simpa using hl);subst this;simp only[Di,qb] at h;subst h;exact⟨us,rfl,hc⟩
 | (i,v)::parts,bS,cs,iK,us,h,hl,hr,hc=>by
  match bS,hl with
  | (i',u)::bS,hl=>
   obtain⟨e1,hv,bT⟩:=hr 0 (i,v) (i',u) rfl rfl;simp only at e1 hv bT;subst e1;simp only[Di] at h;split at h
   ·cases h
   rename_i off size hp;obtain⟨fV,h⟩:=gL h;have fV:=qJ fV;split at h;rotate_left
   ·cases h
   rename_i cells mK;obtain⟨hle,rfl⟩:=N1 mK;obtain⟨vs,kW,lT,vT⟩:=aO.cellsOf hv bT;have N2:=hc.ue ⟨lT,vT⟩ hle;obtain⟨mJ,h1,h2⟩:=J9 parts bS _ iK _ h (by simpa using hl) (fun j p q hp hq=>hr (j+1) p q hp hq) N2;refine⟨mJ,?_,h2⟩;simp only[Instr.fill,hp];have Ka:u.cells.size=size:=by rw[kW];simp[lT,fV]
   have w23:¬(off+u.cells.size>us.toArray.size):=by rw[Ka];simp only[zN,hc.1];omega
   have bY:(decide (u.cells.size≠size)||decide (off+u.cells.size>us.toArray.size))=false:=by simp[Ka];simp[hc.1];omega
   rw[if_neg (by simpa using bY)];rw[<-h1];congr 1;apply Array.ext';have:=TK vs 0 off us.toArray (by simp[lT,hc.1];omega);rw[kW,<-Array.foldl_toList,Array.toList_zipIdx];simpa using this
theorem dz(w:World)(o:Go.Obj)(b:Nat)(h:b<w.heap.size):(w.alloc o).heap[b]? =w.heap[b]? :=Go.RowKit.Below.heap_alloc w o b h
theorem fA(w:World)(o:Go.Obj):(w.alloc o).heap[w.heap.size]? =some o:=by
 show(w.heap.push o)[w.heap.size]? =_;simp
theorem Kb{bf:Nat}(bn:S bf=none)(o:Ob)(us:Array Value)(e:TypeId)(cap:Nat):
 aK F S m w (bO S bf o) (place m bf (some w.heap.size,cap)) (w.alloc (.cells us e)):=
 GW bn rfl rfl rfl sM (fun b hb=>dz w _ b hb) (fun b hb=>by simp at hb;omega)
theorem TM(hS:aY F S m w){bf:Nat}(bn:S bf=none){cs:List aJ}{us:List Value}(hc:tj S m w (okB F S m w) cs us)(e:TypeId):
 aY F (bO S bf (.box cs)) (place m bf (some w.heap.size,0)) (w.alloc (.cells us.toArray e))/\
 aK F S m w (bO S bf (.box cs)) (place m bf (some w.heap.size,0)) (w.alloc (.cells us.toArray e))/\
 aO (bO S bf (.box cs)) (place m bf (some w.heap.size,0)) (w.alloc (.cells us.toArray e)) (okB F (bO S bf (.box cs)) (place m bf (some w.heap.size,0)) (w.alloc (.cells us.toArray e))) (.ptr bf 0) (.pointer (some ⟨w.heap.size,0,none⟩)):=by
 have hF:=Kb (F:=F) (S:=S) (m:=m) (w:=w) bn (.box cs) us.toArray e 0;refine⟨hS.new bn hF (fun b hb=>dz w _ b hb) (fun b hb=>by simp at hb;omega) ?_,hF,.ptr bf 0 cs _ (iV _ _ _) (by rw[o8])⟩;exact⟨w.heap.size,us.toArray,e,rfl,fA w _,by simp[hc.1],fun i v u hv hu=>⟨hF.val (hc.2 i v u hv (by simpa using hu)).1,(hc.2 i v u hv (by simpa using hu)).2⟩⟩
theorem Kc(hS:aY F S m w){bf:Nat}(bn:S bf=none){k:Nat}{xs:List Tree}(hk:0<k)(hx:∀x∈xs,jo k x)(cap:Nat)(mI:xs.length<=cap)(hm:cap<=maxLen){us:List Value}(hl:us.length=cap*k)
 (h1:∀u∈us,u.oneCell'=true) (hr:∀(j:Nat) (T:Tree) (u:Value),(dL xs)[j]? =some T->us[j]? =some u->cr w (okB F S m w) T u) (e:TypeId):
 aY F (bO S bf (.aF k false xs)) (place m bf (some w.heap.size,cap)) (w.alloc (.cells us.toArray e))/\
 aK F S m w (bO S bf (.aF k false xs)) (place m bf (some w.heap.size,cap)) (w.alloc (.cells us.toArray e))/\
 ∀ok,aO (bO S bf (.aF k false xs)) (place m bf (some w.heap.size,cap)) (w.alloc (.cells us.toArray e)) ok (.aF bf xs.length) (.slice (some ⟨w.heap.size,0,none⟩) xs.length cap):=by
 have hF:=Kb (F:=F) (S:=S) (m:=m) (w:=w) bn (.aF k false xs) us.toArray e cap;refine⟨hS.new bn hF (fun b hb=>dz w _ b hb) (fun b hb=>by simp at hb;omega) ?_,hF,fun ok=> ?_⟩
 ·refine⟨hk,hx,mI,hm,.inr ⟨w.heap.size,us.toArray,e,rfl,fA w _,by simp[hl],fun j u hu=>h1 u (qr (by simpa using hu)),fun j T u hj hu=>hF.tree (hr j T u hj (by simpa using hu))⟩⟩
 exact .aF bf xs.length k false xs (some w.heap.size,cap) (iV _ _ _) (qp _) (fun _=>o8 _ _ _)
theorem B1{t:TypeId}{z:List Tree}(h:Az P t=some z):∃v,vL P t=some v/\∃vs:List Value,v.cells=vs.toArray/\z=vs.map .sc/\∀u∈vs,u.oneCell'=true:=by
 unfold Az at h;simp only[qw] at h;obtain⟨v,h1,h2⟩:=h;simp only[Tg] at h2;split at h2
 ·rename_i gh;simp only[qb] at h2;refine⟨v,h1,v.cells.toList,sM,h2.symm,fun u hu=>by simpa using qS.1 gh u hu⟩
 cases h2
theorem tj.Ke{ok:Nat->Prop}{vs:List Value}(h:∀u∈vs,u.oneCell'=true):tj S m w ok ((vs.map Tree.sc).map aJ.t) vs:=by
 refine⟨sM,fun i v u hv hu=> ?_⟩;simp only[List.map_map,zj,qe] at hv;obtain⟨a,ha,rfl⟩:=hv;rw[hu] at ha;cases ha;have:=h _ (qr hu);exact⟨.t _ _ (.sc _ this),this⟩
theorem y3m{e:TypeId}{bf:Nat}{δ:Dl}(h:NB P e bf=some δ)(hS:aY F S m w)(bn:S bf=none):iL F S m w δ.wr δ.val ((Instr.alloc e true (.tuple #[])).run P w):=by
 unfold NB at h;simp only[qw] at h;obtain⟨z,hz,h⟩:=h;simp only[qb] at h;subst h;obtain⟨v,hv,vs,kW,rfl,h1⟩:=B1 hz;obtain⟨r1,r2,r3⟩:=TM hS bn (tj.Ke h1) e;exact⟨_,_,_,by simp[Instr.alloc,BX hv,newVar,newRow,kW],r1,r2,r3⟩
theorem y8I{e:TypeId}{x:aJ}{bf:Nat}{δ:Dl}(h:NC x bf=some δ)(hS:aY F S m w)(bn:S bf=none){u:Value}(hx:aO S m w (okB F S m w) x u):
 iL F S m w δ.wr δ.val ((Instr.box e u).run P w):=by
 unfold NC at h;obtain⟨hc,h⟩:=gL h;simp only[qb] at h;subst h;obtain⟨us,Ka,hl,hr⟩:=aO.cellsOf hx hc;obtain⟨r1,r2,r3⟩:=TM hS bn ⟨hl,hr⟩ e;exact⟨_,_,_,by simp[Instr.box,newVar,newRow,Ka],r1,r2,r3⟩
theorem y3n{t:TypeId}{parts:List (Nat×aJ)}{δ:Dl}(h:Ny P t parts=some δ)(hS:aY F S m w){bS:Array (Nat×Value)}(hl:bS.size=parts.length)
 (hr:∀(i:Nat) (p:Nat×aJ) (q:Nat×Value),parts[i]? =some p->bS[i]? =some q->p.1=q.1/\aO S m w (okB F S m w) p.2 q.2):
 iL F S m w δ.wr δ.val ((Instr.build t bS).run P w):=by
 unfold Ny at h;simp only[qw] at h;obtain⟨z,hz,place,hp,h⟩:=h;obtain⟨gh,h⟩:=gL h;simp only[qw] at h;obtain⟨cs,hf,h⟩:=h;have:=fS h;subst this;obtain⟨v,hv,vs,kW,rfl,h1⟩:=B1 hz;obtain⟨mJ,nJ,lS⟩:=J9 (ok:=okB F S m w) parts bS.toList _ cs vs hf (by simpa using hl) (fun i p q hp hq=>by
  obtain⟨a,b⟩:=hr i p q hp (by simpa using hq);exact⟨a,b,qS.1 gh p (qr hp)⟩) (tj.Ke h1)
 have hb:P.built t bS.toList=some mJ.toArray:=by
  unfold vL at hv;cases hi:P.info? t with
  |none=>simp[hi] at hv
  |some i=>
   simp only[hi,Option.bind_some] at hv;unfold Ti at hp;split at hp
   ·rename_i fs hu;simp only[qe] at hp;obtain⟨ps,N3,rfl⟩:=hp;unfold Th at N3;simp only[Program.built,hi,hu,hv,N3,kW];simpa using nJ
   ·rename_i n e hu;simp only[qe] at hp;obtain⟨s,hs,rfl⟩:=hp;unfold kT at hs;cases N4:P.info? e with
    |none=>simp[N4] at hs
    |some ie=>
     simp[N4] at hs;subst hs;simp only[Program.built,hi,hu,hv,N4,kW];exact nJ
   cases hp
 exact iL.same hS ⟨_,run_build w t bS _ hb,aO.pR lS.1 lS.2⟩
end Go.Ab
end
section
namespace Go.Ab
variable {P:Program} {w:World} {F:eL P} {S st:bQ} {m:Place}
theorem wM(hS:aY F S m w){id b:Nat}{o o':Ob}(bn:S id=some o)(B5:o.live=true)(hb:(m id).1=some b){w':World}
 (Dj:w'.os=w.os) (nH:w'.tape=w.tape) (nI:w'.output=w.output) (fV:w'.heap.size=w.heap.size) (B6:∀c,c≠b->w'.heap[c]? =w.heap[c]?)
 (hlen:o.len<=o'.len) (gA:o.same o')
 (bR:aK F S m w (bO S id o') m w'->mZ (bO S id o') m w' (okB F (bO S id o') m w') o' (m id) (m.g id)):
 aY F (bO S id o') m w'/\aK F S m w (bO S id o') m w':=by
 have hF:aK F S m w (bO S id o') m w':=by
  refine⟨Dj,nH,nI,oM,fun c hc hf=>B6 c ?_,fun i oi hi=> ?_,fun i oi hi hn=> ?_⟩
  ·rintro rfl;rcases hf with hf|hf
   ·exact hS.eD id o c bn (.inl hb) hf
   exact hf id o bn B5 (.inl hb)
  ·by_cases e:i=id
   ·subst e;rw[bn] at hi;cases hi;exact⟨o',iV _ _ _,oM,fun _=>rfl,fun h=>(by rw[B5] at h;cases h),fun _ q=> .inl q,gA⟩
   refine⟨oi,by rw[eC e];exact hi,qp _,fun _=>rfl,fun h=>h,fun _ q=> .inl q,oi.dw⟩
  by_cases e:i=id
  ·subst e;rw[bn] at hn;cases hn
  rw[eC e] at hi;rw[hi] at hn;cases hn
 have back:∀i oi,bO S id o' i=some oi->∃yP,S i=some yP:=by
  intro i oi h;by_cases e:i=id
  ·subst e;exact⟨_,bn⟩
  rw[eC e] at h;exact⟨_,h⟩
 refine⟨⟨fun i oi hi=> ?_,fun i j oi oj c hi hj h1 h2=> ?_,fun i oi c hi hm yQ=> ?_,fun i oi c hi hm=> ?_,fun c hc=>by rw[fV];exact hS.low c hc,hS.held hF⟩,hF⟩
 ·by_cases e:i=id
  ·subst e;rw[iV] at hi;cases hi;exact bR hF
  rw[eC e] at hi;exact(hS.cN i oi hi).cF hF (fun c hc=>B6 c (fun e'=>by subst e';exact e (hS.inj i id _ _ _ hi bn hc (.inl hb))))
 ·obtain⟨_,oq⟩:=back i oi hi;obtain⟨_,lQ⟩:=back j oj hj;exact hS.inj i j _ _ c oq lQ h1 h2
 ·obtain⟨_,oq⟩:=back i oi hi;exact hS.eD i _ c oq hm yQ
 obtain⟨_,oq⟩:=back i oi hi;rw[fV];exact hS.lt i _ c oq hm
theorem G9(w:World)(b c:Nat)(cs:Array Value)(h:c≠b):(w.setRow b cs).heap[c]? =w.heap[c]? :=setRow_other w b c cs h
theorem N5{t:TypeId}{sz:Nat}(fV:kT P t=some sz){b off:Nat}{cur:Array Value}{e:TypeId}(hh:w.heap[b]? =some (.cells cur e (0,0))){u:Value}{vs:List Value}(hu:u.cells=vs.toArray)
 (hl:vs.length=sz) (hle:off+vs.length<=cur.size) (h1:∀v∈vs,v.oneCell'=true):
 (storeVar t ⟨b,off,none⟩ u).run P w= .ok () (w.setRow b (cur.toList.take off++vs++cur.toList.drop (off+vs.length)).toArray):=by
 have:=run_storeCells_at P b off e vs 0 cur w hh (by simpa using hle) h1;simp only[Nat.add_zero] at this;simp[storeVar,lD fV,hu,hl,this]
theorem TO{ok:Nat->Prop}{cs:List aJ}{Ts:List Tree}(h:wG cs=some Ts){us:List Value}(hl:us.length=cs.length)
 (hr:∀(i:Nat) (v:aJ) (u:Value),cs[i]? =some v->us[i]? =some u->aO S m w ok v u/\u.oneCell'=true):
 Ts.length=us.length/\(∀(i:Nat) (T:Tree) (u:Value),Ts[i]? =some T->us[i]? =some u->cr w ok T u):=by
 have:=GV h;subst this;simp only[qj] at hl;refine⟨hl.symm,fun i T u hT hu=> ?_⟩;have:=(hr i (.t T) u (by simp[hT]) hu).1;cases this with
 |t _ _ h=>exact h
theorem TP{k:Nat}:∀{xs:List Tree} {i:Nat} {X X':Tree},(∀x∈xs,jo k x)->xs[i]? =some X->X'.cells.length=k->
 dL (xs.set i X')=(dL xs).take (i*k)++X'.cells++(dL xs).drop (i*k+k)
 | [],i,X,X',_,h,_=>by simp at h
 |x::xs,0,X,X',h,hX,hl=>by
  have h1:=(h x sM).1;simp only[List.set_cons_zero,dL,Nat.zero_mul,List.take_zero,List.nil_append,zw];rw[List.drop_append,h1,List.drop_of_length_le (l:=x.cells) oM];simp
 |x::xs,i+1,X,X',h,hX,hl=>by
  have h1:=(h x sM).1;simp at hX;have ih:=TP (xs:=xs) (X':=X') (fun y hy=>h y (by simp[hy])) hX hl;simp only[List.set_cons_succ,dL,ih];rw[List.take_append,qk (l:=x.cells) (by rw[h1,zq];omega),List.drop_append,List.drop_of_length_le (l:=x.cells) (by rw[h1,zq];omega),h1];simp only[List.nil_append,qI];rw[show(i+1)*k-k=i*k by rw[zq];omega,show(i+1)*k+k-k=i*k+k by rw[zq];omega]
theorem y1U{k:Nat}{X X':Tree}{sub:Nat}{new:List Tree}(hX:jo k X)(hn:∀T∈new,T.bZ=true)(h:setCells X sub new=some X'):
 sub+new.length<=k/\X'.cells=X.cells.take sub++new++X.cells.drop (sub+new.length)/\jo k X':=by
 unfold setCells at h;split at h
 ·rename_i cs;simp only[qe] at h;obtain⟨r,hr,rfl⟩:=h;obtain⟨h1,rfl⟩:=N1 hr;have hl:cs.length=k:=hX.1;refine⟨oM,rfl,?_,fun T hT=> ?_⟩
  ·simp[Tree.cells];omega
  simp only[Tree.cells,qn] at hT;rcases hT with(hT|hT)|hT
  ·exact hX.2 T (qF hT)
  ·exact hn T hT
  exact hX.2 T (qE hT)
 rename_i hna;split at h
 ·rename_i T;obtain⟨h1,h2⟩:=gL h;have h1:=qJ h1;simp only[qb] at h2;subst h2;subst h1;have hT:=hn T sM;have TQ:T.cells=[T]:=by cases T<;>first|rfl|simp[Tree.bZ] at hT
  have E6:X.cells=[X]:=by cases X<;>first|rfl|exact absurd rfl (hna _)
  have hk:=hX.1;rw[E6] at hk;simp at hk;subst hk;exact⟨sM,by rw[TQ,E6];simp,by rw[jo,TQ];exact⟨rfl,fun U hU=>by simp at hU;subst hU;exact hT⟩⟩
 cases h
theorem TR{xs:List Tree}{i:Nat}{T:Tree}:mY (xs.set i T) none=(mY xs none).set i (.t T):=by simp[mY,List.map_set]
theorem TT{t:TypeId}{sz id i:Nat}{v:aJ}{xs xs':List Tree}{h':Option (Nat×Nat×Nat)}(fV:kT P t=some sz)(h1:sz=1)(cK:S id=some (.cZ false xs none))(hi:i<xs.length)(Dp:cI v=[v])(bT:tY v=true)
 (hx:mY xs' h'=(mY xs none).set i v) (B7:xs'.length=xs.length) (He:∀x∈xs',x.bZ=true) (hS:aY F S m w) {ua uv:Value} (ha:aO S m w (okB F S m w) (.eG id i) ua) (hv:aO S m w (okB F S m w) v uv):
 ∃w' m',(Instr.storeAt t ua uv).run P w= .ok () w'/\aY F (app S [(id,.cZ false xs' h')]) m' w'/\aK F S m w (app S [(id,.cZ false xs' h')]) m' w':=by
 obtain⟨vs,kW,lT,vT⟩:=aO.cellsOf hv (by rw[Dp];simp[bT]);rw[Dp] at lT vT;cases ha with
 |eG _ _ N6 N7 hh0 b b9 hm=>
  obtain⟨⟨b',us,e,q1,q2,q3,q4⟩,r1,r2,r3⟩:=hS.cN id _ cK;rw[hm] at q1;cases q1;rw[yK] at q3;have cQ:=N5 (P:=P) fV (off:=i) q2 kW (by rw[lT];simp[h1]) (by rw[lT];simp;omega) (fun u hu=>by
   obtain⟨j,hj,rfl⟩:=q9.1 hu;exact(vT j _ _ (qa oM) (qa hj)).2)
  have key:=wM (o':= .cZ false xs' h') hS cK rfl hm (w':=w.setRow b (us.toList.take i++vs++us.toList.drop (i+vs.length)).toArray)
   rfl rfl rfl sM (fun c hc=>G9 w b c _ hc) (by simp[Ob.len];omega) (by simp[Ob.same];omega) (fun hF=>by
    have yR:tj S m w (okB F S m w) (mY xs none) us.toList:=⟨by rw[yK];simpa using q3,fun i v u a b=>q4 i v u a (by simpa using b)⟩
    have:=yR.ue ⟨lT,vT⟩ (off:=i) (by rw[yK];simp;omega);have es:(mY xs none).take i++[v]++(mY xs none).drop (i+[v].length)=(mY xs none).set i v:=by
     rw[List.set_eq_take_append_cons_drop,if_pos (by rw[yK];exact hi)];simp
    rw[es,<-hx] at this;exact⟨⟨b,_,e,hm,setRow_heap w b us _ e _ q2,by simpa using this.1,fun i v u a b=>⟨hF.val (this.2 i v u a (by simpa using b)).1,(this.2 i v u a (by simpa using b)).2⟩⟩,by rw[r1,B7],by rw[B7];exact r2,He⟩)
  exact⟨w.setRow b (us.toList.take i++vs++us.toList.drop (i+vs.length)).toArray,m,by simp[Instr.storeAt,Instr.sureAddr,cQ],key.1,key.2⟩
theorem y3p{t:TypeId}{a v:aJ}{c:eW}{δ:Dl}(h:Ns P t a v st c=some δ)(hc:b8 δ.jW)(bH:∀id o,st id=some o->S id=some o)(hS:aY F S m w)
 {ua uv:Value} (ha:aO S m w (okB F S m w) a ua) (hv:aO S m w (okB F S m w) v uv):
 ∃w' m',(Instr.storeAt t ua uv).run P w= .ok () w'/\aY F (app S δ.wr) m' w'/\aK F S m w (app S δ.wr) m' w'/\δ.val= .cH:=by
 unfold Ns at h;split at h
 ·rename_i sz id off fV;split at h;rotate_left
  ·cases h
  rename_i cs hs;simp only at h;obtain⟨bY,h⟩:=gL h;simp only[qq] at bY;have hlen:=qJ bY.1;simp only[qw] at h;obtain⟨iK,mK,h⟩:=h;simp only[qb] at h;subst h;obtain⟨hle,rfl⟩:=N1 mK;have cK:=bH id _ hs;obtain⟨vs,kW,lT,vT⟩:=aO.cellsOf hv bY.2;cases ha with
  |gN _ _ _ b9=>rw[cK] at b9;cases b9
  |ptr _ _ yS b b9 hm=>
   obtain⟨b',us,e,h1,h2,h3,h4⟩:=hS.cN id _ cK;rw[hm] at h1;cases h1;have cQ:=N5 (P:=P) fV (off:=off) h2 kW (by rw[lT,hlen]) (by rw[lT,h3];omega) (fun u hu=>by
    obtain⟨i,hi,rfl⟩:=q9.1 hu;exact(vT i _ _ (qa oM) (qa hi)).2)
   have key:=wM (o':= .box (cs.take off++cI v++cs.drop (off+(cI v).length))) hS cK rfl hm (w':=w.setRow b (us.toList.take off++vs++us.toList.drop (off+vs.length)).toArray)
    rfl rfl rfl sM (fun c hc=>G9 w b c _ hc) (by simp[Ob.len]) (by simp[Ob.same];omega) (fun hF=>by
     have yR:tj S m w (okB F S m w) cs us.toList:=⟨by simpa using h3,fun i v u a b=>h4 i v u a (by simpa using b)⟩
     have:=yR.ue ⟨lT,vT⟩ hle;exact⟨b,_,e,hm,setRow_heap w b us _ e _ h2,by simpa using this.1,fun i v u a b=>⟨hF.val (this.2 i v u a (by simpa using b)).1,(this.2 i v u a (by simpa using b)).2⟩⟩)
   exact⟨w.setRow b (us.toList.take off++vs++us.toList.drop (off+vs.length)).toArray,m,by simp[Instr.storeAt,Instr.sureAddr,cQ],key.1,key.2,rfl⟩
 ·rename_i sz id n i sub fV;split at h;rotate_left
  ·cases h
  rename_i k xs hs;simp only at h;split at h;rotate_left
  ·cases h
  rename_i v' f p xF;simp only[qw] at h;obtain⟨new,AH,h⟩:=h;obtain⟨bY,h⟩:=gL h;simp only[qq,zf] at bY;obtain⟨⟨hlen,bT⟩,xG⟩:=bY;have hlen:=qJ hlen;simp only[qw] at h;obtain⟨X',mK,h⟩:=h;simp only[qb] at h;subst h;rw[rO] at hc;simp only[b8] at hc;obtain⟨hp,hn,hX,-⟩:=hc;generalize ER c xs i=X at mK hX;have cK:=bH id _ hs;have rP:=oP bH hS xF hp hv;obtain⟨r1,r2,r3,r4⟩:=z17 f S hS rP.1;have hv':=rP.2 f rP.1 (fun x hx=>hx);have Dq:∀T∈new,T.bZ=true:=fun T hT=>qS.1 bT T hT
  have Dp:(cI v').all tY=true:=by
   rw[GV AH];simpa[tY] using bT
  obtain⟨vs,kW,lT,vT⟩:=aO.cellsOf hv' Dp;obtain⟨t1,t2⟩:=TO AH lT vT;have bn:app S f id=some (.aF k false xs):=by
   rw[r4 id (fun kC=>by
    have:=pS.2 kC;rw[this] at xG;cases xG)]
   exact cK
  cases ha with
  |eT _ _ _ _ _ _ lF=>rw[cK] at lF;cases lF
  |cM _ _ _ _ k0 N6 N7 b lF yT AI=>
   rw[cK] at lF;cases lF;have hm:=AI hn;obtain⟨a1,a2,a3,a4,a5⟩:=r1.cN id _ bn;rcases a5 with⟨a5,_⟩| ⟨b',us,e,h1,h2,h3,h4,h5⟩
   ·rw[hm] at a5;cases a5
   rw[hm] at h1;cases h1;have hE:=a2 X (qr hX);obtain⟨s1,s2,s3⟩:=y1U hE Dq mK;have j7:i<xs.length:=(qA.1 hX).1;have fI:(i+1)*k<=us.size:=by rw[h3];exact zi k oM
   rw[zq] at fI;have Hf:∀u∈vs,u.oneCell'=true:=fun u hu=>by
    obtain⟨q,hq,rfl⟩:=q9.1 hu;exact(vT q _ _ (qa oM) (qa hq)).2
   have cQ:=N5 (P:=P) fV (off:=i*k+sub) h2 kW (by rw[<-t1,hlen]) oM Hf;have sx:dL (xs.set i X')=(dL xs).take (i*k+sub)++new++(dL xs).drop (i*k+sub+new.length):=by
    rw[TP a2 hX s3.1,s2];have e1:X.cells.take sub=((dL xs).drop (i*k)).take sub:=by
     apply List.ext_getElem?;intro j;simp only[qB,qQ];split
     ·rename_i hj;rw[E0 a2 hX oM]
     rfl
    have e2:X.cells.drop (sub+new.length)++(dL xs).drop (i*k+k)=(dL xs).drop (i*k+sub+new.length):=by
     have sx:=vO a2;have B7:(i+1)*k<=(dL xs).length:=by rw[sx];exact zi k oM
     rw[zq] at B7;apply List.ext_getElem?;intro j;by_cases hj:sub+new.length+j<k
     ·rw[qx (by simp[hE.1];omega),qQ,qQ,show i*k+sub+new.length+j=i*k+(sub+new.length+j) by omega,E0 a2 hX hj]
     rw[qK (by simp[hE.1];omega),qQ,qQ];simp only[qT,hE.1];congr 1;omega
    rw[e1];simp only[qI];rw[e2];rw[<-List.append_assoc,<-List.take_add]
   have key:=wM (o':= .aF k false (xs.set i X')) r1 bn rfl hm (w':=w.setRow b (us.toList.take (i*k+sub)++vs++us.toList.drop (i*k+sub+vs.length)).toArray)
    rfl rfl rfl sM (fun c hc=>G9 w b c _ hc) (by simp[Ob.len]) (by simp[Ob.same]) (fun hF=>by
     refine⟨a1,fun x hx=> ?_,by simpa using a3,a4,.inr ⟨b,_,e,hm,setRow_heap w b us _ e _ h2,by simp;omega,fun j u hu=> ?_,fun j T u hT hu=> ?_⟩⟩
     ·rcases zl hx with hx|rfl
      ·exact a2 x hx
      exact s3
     ·have hu:(us.toList.take (i*k+sub)++vs++us.toList.drop (i*k+sub+vs.length))[j]? =some u:=by simpa using hu
      rcases qn.1 (qr hu) with hu|hu
      ·rcases qn.1 hu with hu|hu
       ·obtain⟨q,hq⟩:=zA (qF hu);exact h4 q u (by simpa using hq)
       exact Hf u hu
      obtain⟨q,hq⟩:=zA (qE hu);exact h4 q u (by simpa using hq)
     have hu:(us.toList.take (i*k+sub)++vs++us.toList.drop (i*k+sub+vs.length))[j]? =some u:=by simpa using hu
     rw[sx] at hT;have Dr:=vO a2;have B7:(i+1)*k<=(dL xs).length:=by rw[Dr];exact zi k oM
     rw[zq] at B7;refine hF.tree ?_;by_cases c1:j<i*k+sub
     ·rw[qx (by simp;omega),qx (by simp;omega),qB,if_pos c1] at hT;rw[qx (by simp;omega),qx (by simp;omega),qB,if_pos c1] at hu;exact h5 j T u hT (by simpa using hu)
     by_cases c2:j<i*k+sub+new.length
     ·have q1:((dL xs).take (i*k+sub)).length=i*k+sub:=by simp;omega
      have q2:(us.toList.take (i*k+sub)).length=i*k+sub:=by simp;omega
      rw[qx (by simp;omega),qK oM,q1] at hT;rw[qx (by simp;omega),qK oM,q2] at hu;exact t2 _ T u hT hu
     have q1:((dL xs).take (i*k+sub)++new).length=i*k+sub+new.length:=by simp;omega
     have q2:(us.toList.take (i*k+sub)++vs).length=i*k+sub+vs.length:=by simp;omega
     rw[qK oM,q1,qQ] at hT;rw[qK oM,q2,qQ] at hu;rw[t1] at hT;exact h5 _ T u hT (by simpa using hu))
   refine⟨w.setRow b (us.toList.take (i*k+sub)++vs++us.toList.drop (i*k+sub+vs.length)).toArray,m,by simp[Instr.storeAt,Instr.sureAddr,cQ],?_,?_,rfl⟩
   ·rw[B0];exact key.1
   rw[B0];exact r2.trans hS key.2
 ·rename_i sz id i fV;split at h;rotate_left
  ·cases h
  rename_i xs hs;obtain⟨h1,h⟩:=gL h;have h1:=qJ h1;have cK:=bH id _ hs;obtain⟨_,_,_,r3⟩:=hS.cN id _ cK;split at h
  ·rename_i r n _;cases hb:Nat.beq r id with
   |true=>rw[hb] at h;cases h
   |false=>
   rw[hb] at h;simp only[cond_false,qb] at h;subst h;obtain⟨w',m',k1,k2,k3⟩:=TT (xs':=xs) (h':=some (i,r,n)) fV h1 cK hc.1 rfl rfl rfl rfl r3 hS ha hv;exact⟨w',m',k1,k2,k3,rfl⟩
  ·rename_i T _;obtain⟨hT,h⟩:=gL h;simp only[qb] at h;subst h;obtain⟨w',m',k1,k2,k3⟩:=TT (xs':=xs.set i T) (h':=none) fV h1 cK hc.1 (by cases T<;>first|rfl|simp[Tree.bZ] at hT) (by simpa[tY] using hT) TR sM (fun x hx=>by
    rcases zl hx with hx|rfl
    ·exact r3 x hx
    exact hT) hS ha hv
   exact⟨w',m',k1,k2,k3,rfl⟩
  cases h
 cases h
end Go.Ab
end
section
namespace Go.Ab
variable {P:Program} {w:World} {F:eL P} {S st:bQ} {m:Place}
theorem B8{α:Type}(l:List α)(n:Nat):(fW l n).length=n*l.length:=by
 induction n with
 |zero=>simp[fW]
 |succ n ih=>simp[fW,ih,zq];omega
theorem Hg{α:Type}[Inhabited α](l:List α):∀(n j:Nat),j<n*l.length->(fW l n)[j]? =some (l[j%l.length]!)
 |0,j,h=>by simp at h
 |n+1,j,h=>by
  by_cases hj:j<l.length
  ·simp only[fW];rw[qx hj,Nat.mod_eq_of_lt hj,qa hj,jg,qa hj];rfl
  simp only[fW];have hs:(n+1)*l.length=n*l.length+l.length:=Nat.succ_mul _ _;rw[qK oM,Hg l n (j-l.length) oM];rw[Nat.mod_eq_sub_mod (a:=j) oM]
theorem Hh(z:Array Value)(n:Nat):(Array.range (n*z.size)).map (fun i=>z[i%z.size]!)=(fW z.toList n).toArray:=by
 apply Array.ext_getElem?;intro j;simp only[Array.getElem?_map,List.getElem?_toArray];by_cases hj:j<n*z.size
 ·rw[Hg z.toList n j (by simpa using hj)];simp[hj,getElem!_def]
 rw[zP (by rw[B8];simpa using hj)];simp[hj]
theorem TU(f:Nat->Value):(Array.range 0).map f=#[]:=by simp[Array.range]
theorem N8{α β:Type}(f:α->β)(l:List α)(n:Nat):fW (l.map f) n=(fW l n).map f:=by
 induction n with
 |zero=>rfl
 |succ n ih=>simp[fW,ih]
theorem B9{α:Type}{l:List α}{n:Nat}{x:α}(h:x∈fW l n):x∈l:=by
 induction n with
 |zero=>simp[fW] at h
 |succ n ih=>
  simp only[fW,qn] at h;exact h.elim id ih
theorem Cc{k:Nat}(h:Nat.blt 0 k=true):0<k:=ze (qy h)
theorem Kf{ag:Bool}{l:List Tree}{x:Tree}(h:su ag l=some x)(hc:∀T∈l,T.bZ=true):x.cells=l:=by
 cases ag with
 |true=>simp[su] at h;subst h;rfl
 |false=>
  match l with
  | [T]=>
   simp[su] at h;subst h;have hT:=hc T sM;cases T<;>first|rfl|simp[Tree.bZ] at hT
  | []=>simp[su] at h
  |_::_::_=>simp[su] at h
theorem N9{ag:Bool}{k:Nat}:∀{n:Nat} {l xs:List Tree},BU ag k n l=some xs->(∀T∈l,T.bZ=true)->dL xs=l/\xs.length=n/\∀x∈xs,jo k x
 |0,[],xs,h,_=>by simp[BU] at h;subst h;exact⟨rfl,rfl,fun x hx=>by simp at hx⟩
 |0,_::_,xs,h,_=>by simp[BU] at h
 |n+1,l,xs,h,hc=>by
  simp only[BU] at h;split at h;rotate_left
  ·cases h
  rename_i x r h1 h2;obtain⟨h3,h4⟩:=gL h;simp only[qb] at h4;subst h4;have h3:=qJ h3;have xC:=Kf h1 (fun T hT=>hc T (qF hT));obtain⟨g1,g2,g3⟩:=N9 h2 (fun T hT=>hc T (qE hT));refine⟨by simp[dL,xC,g1],by simp[g2],fun y hy=> ?_⟩;simp only[qg] at hy;rcases hy with rfl|hy
  ·exact⟨by rw[xC];exact h3,fun T hT=>hc T (qF (xC▸hT))⟩
  exact g3 y hy
theorem E7{t e:TypeId}(h:Df P t=some e):P.underlying t=some (.slice e):=by
 unfold Df at h;split at h
 ·rename_i e' hu;simp at h;subst h;exact hu
 cases h
theorem y3q{α β:Type}{l:List α}{r:List β}{i:Nat}{p:α×β}(h:(l.zip r)[i]? =some p):l[i]? =some p.1/\r[i]? =some p.2:=by
 rw[List.getElem?_zip_eq_some] at h;exact h
theorem z7V{t:TypeId}{len bf:Nat}{parts:List (Nat×aJ)}{δ:Dl}(h:Nz P t len parts st bf=some δ)(hc:b8 δ.jW)(bH:∀id o,st id=some o->S id=some o)(hS:aY F S m w)(bn:S bf=none)
 {bS:Array (Nat×Value)} (hl:bS.size=parts.length)
 (hr:∀(i:Nat) (p:Nat×aJ) (q:Nat×Value),parts[i]? =some p->bS[i]? =some q->p.1=q.1/\aO S m w (okB F S m w) p.2 q.2):
 iL F S m w δ.wr δ.val ((Instr.buildSlice t len bS).run P w):=by
 unfold Nz at h;simp only[qw] at h;obtain⟨e,he,k,hk,ag,kU,z,hz,h⟩:=h;split at h;rotate_left
 ·cases h
 rename_i vs f p rP;obtain⟨bY,h⟩:=gL h;simp only[qq] at bY;obtain⟨⟨⟨fI,kX⟩,iM⟩,bT⟩:=bY;have fI:=qy fI;have kX:0<k:=Cc kX;have iM:=qJ iM;simp only[qw] at h;obtain⟨cs,hf,ts,E8,xs,E1,h⟩:=h;simp only[qb] at h;subst h;have hu:=E7 he;obtain⟨zv,pV,zs,rQ,rfl,oN⟩:=B1 hz;simp only[qj] at iM;have xF:=G6 (us:=bS.toList.map (·.2)) bH hS rP hc (by simp[hl]) (fun i v u hv fu=>by
  simp only[zj,qe] at hv fu;obtain⟨a,ha,rfl⟩:=hv;obtain⟨b,hb,rfl⟩:=fu;exact(hr i a b ha (by simpa using hb)).2)
 obtain⟨q1,q2,q3⟩:=xF;obtain⟨r1,r2,r3,r4⟩:=z17 f S hS q2;have lT:vs.length=parts.length:=by rw[q1];simp[hl]
 have Ds:((parts.map (·.1)).zip vs).length=parts.length:=by simp[lT]
 obtain⟨mJ,nJ,yR⟩:=J9 (ok:=okB F (app S f) m w) ((parts.map (·.1)).zip vs) bS.toList _ cs (fW zs len) hf (by rw[Ds];simpa using hl) (fun i p q hp hq=>by
  obtain⟨h1,h2⟩:=y3q hp;simp only[zj,qe] at h1;obtain⟨a,ha,Oa⟩:=h1;have Dt:bS[i]? =some q:=by simpa using hq
  refine⟨by rw[<-Oa];exact(hr i a q ha Dt).1,q3 f q2 (fun x hx=>hx) i p.2 q.2 h2 (by simp[Dt]),qS.1 bT p.2 (qr h2)⟩)
  (by rw[N8];exact tj.Ke (fun u hu=>oN u (B9 hu)))
 obtain⟨t1,t2⟩:=TO E8 yR.1 yR.2;have mL:∀u∈mJ,u.oneCell'=true:=fun u hu=>by
  obtain⟨i,hi,rfl⟩:=q9.1 hu;have:i<cs.length:=by rw[<-yR.1];exact hi
  exact(yR.2 i _ _ (qa this) (qa hi)).2
 have ug:∀T∈ts,T.bZ=true:=fun T hT=>by
  obtain⟨i,hi,rfl⟩:=q9.1 hT;have h1:=t2 i _ _ (qa hi) (qa oM);have h2:=mL mJ[i] (zB _);generalize ts[i]=T at h1;generalize mJ[i]=u at h1 h2;cases h1 with
  |agg=>simp[Value.oneCell'] at h2
  |sc=>rfl
  |bX=>rfl
 obtain⟨g1,g2,g3⟩:=N9 E1 ug;have hlen:mJ.length=len*k:=by rw[<-t1,<-g1,vO g3,g2]
 have vU:app S f bf=none:=by
  rw[r4 bf (fun kC=>by
   obtain⟨x,hx,pT⟩:=qO.1 kC;obtain⟨k',fz,xs',h1,_⟩:=q2 x.1 x.2 hx;rw[pT,bn] at h1;cases h1)]
  exact bn
 obtain⟨n1,n2,n3⟩:=Kc r1 vU (xs:=xs) kX g3 len oM (by simp only[maxLen];have:len<=len*k:=Nat.le_mul_of_pos_right _ kX;omega) hlen mL (fun j T u hT hu=>t2 j T u (by rw[<-g1];exact hT) hu) e;refine⟨.slice (some ⟨w.heap.size,0,none⟩) len len,w.alloc (.cells mJ.toArray e),place m bf (some w.heap.size,len),?_,by rw[B0];exact n1,by rw[B0];exact r2.trans hS n2,by rw[B0];have:=n3 (okB F (app (app S f) [(bf,Ob.aF k false xs)]) (place m bf (some w.heap.size,len)) (w.alloc (Obj.cells mJ.toArray e)));rw[g2] at this;exact this⟩;have xH:zv.cells.size=k:=by rw[rQ];simpa using iM
 have Hi:¬(len*k>2^24):=oM;have uj:Instr.fill (fun i=>some (i*k,k)) ((Array.range (len*k)).map (fun i=>zv.cells[i%zv.cells.size]!)) bS.toList=some mJ.toArray:=by
  rw[<-nJ,<-xH,Hh,rQ]
 by_cases h0:len*k=0
 ·have dQ:len=0:=by
   rcases Nat.mul_eq_zero.1 h0 with h|h
   ·exact h
   ·omega
  subst dQ;have Oc:Instr.fill (fun i=>some (i*k,k)) #[] bS.toList=some mJ.toArray:=nJ;simp[Instr.buildSlice,run_underlying hu,lD hk,TU,Oc,newRow]
 simp only[Instr.buildSlice,Sem.run_bind,run_underlying hu,lD hk,Result.andThen_ok];simp only[Hi,if_false,h0,Sem.run_bind,BX pV,Result.andThen_ok,Sem.run_pure,uj];simp[newRow]
theorem x6F(hS:aY F S m w){bf:Nat}(bn:S bf=none){cs:List aJ}{us:List Value}(hc:tj S m w (okB F S m w) cs us)(e:TypeId)(n:Nat):
 aY F (bO S bf (.box cs)) (place m bf (some w.heap.size,n)) (w.alloc (.cells us.toArray e))/\
 aK F S m w (bO S bf (.box cs)) (place m bf (some w.heap.size,n)) (w.alloc (.cells us.toArray e))/\
 ∀ok,aO (bO S bf (.box cs)) (place m bf (some w.heap.size,n)) (w.alloc (.cells us.toArray e)) ok (.jv bf n) (.slice (some ⟨w.heap.size,0,none⟩) n n):=by
 have hF:=Kb (F:=F) (S:=S) (m:=m) (w:=w) bn (.box cs) us.toArray e n;refine⟨hS.new bn hF (fun b hb=>dz w _ b hb) (fun b hb=>by simp at hb;omega) ?_,hF,fun ok=> .jv bf n cs _ (iV _ _ _) (o8 _ _ _)⟩;exact⟨w.heap.size,us.toArray,e,rfl,fA w _,by simp[hc.1],fun i v u hv hu=>⟨hF.val (hc.2 i v u hv (by simpa using hu)).1,(hc.2 i v u hv (by simpa using hu)).2⟩⟩
theorem z9x{t:TypeId}{len bf:Nat}{parts:List (Nat×aJ)}{δ:Dl}(h:NA P t len parts bf=some δ)(hS:aY F S m w)(bn:S bf=none)
 {bS:Array (Nat×Value)} (hl:bS.size=parts.length)
 (hr:∀(i:Nat) (p:Nat×aJ) (q:Nat×Value),parts[i]? =some p->bS[i]? =some q->p.1=q.1/\aO S m w (okB F S m w) p.2 q.2):
 iL F S m w δ.wr δ.val ((Instr.buildSlice t len bS).run P w):=by
 unfold NA at h;simp only[qw] at h;obtain⟨e,he,k,hk,z,hz,h⟩:=h;obtain⟨bY,h⟩:=gL h;simp only[qq] at bY;obtain⟨⟨⟨fI,kX⟩,iM⟩,bT⟩:=bY;have fI:=qy fI;have kX:0<len*k:=Cc kX;have iM:=qJ iM;simp only[qw] at h;obtain⟨cs,hf,h⟩:=h;simp only[qb] at h;subst h;have hu:=E7 he;obtain⟨zv,pV,zs,rQ,rfl,oN⟩:=B1 hz;simp only[qj] at iM;obtain⟨mJ,nJ,yR⟩:=J9 (ok:=okB F S m w) parts bS.toList _ cs (fW zs len) hf (by simpa using hl) (fun i p q hp hq=>by
  obtain⟨a,b⟩:=hr i p q hp (by simpa using hq);exact⟨a,b,qS.1 bT p (qr hp)⟩)
  (by rw[N8];exact tj.Ke (fun u hu=>oN u (B9 hu)))
 obtain⟨n1,n2,n3⟩:=x6F hS bn yR e len;refine⟨.slice (some ⟨w.heap.size,0,none⟩) len len,w.alloc (.cells mJ.toArray e),place m bf (some w.heap.size,len),?_,n1,n2,n3 _⟩;have xH:zv.cells.size=k:=by rw[rQ];simpa using iM
 have Hi:¬(len*k>2^24):=oM;have uj:Instr.fill (fun i=>some (i*k,k)) ((Array.range (len*k)).map (fun i=>zv.cells[i%zv.cells.size]!)) bS.toList=some mJ.toArray:=by
  rw[<-nJ,<-xH,Hh,rQ]
 simp only[Instr.buildSlice,Sem.run_bind,run_underlying hu,lD hk,Result.andThen_ok];simp only[Hi,if_false,show¬len*k=0 by omega,Sem.run_bind,BX pV,Result.andThen_ok,Sem.run_pure,uj];simp[newRow]
theorem Od:∀{l l':List Tree},yM l l'->l.length=l'.length/\∀(i:Nat) (T T':Tree),l[i]? =some T->l'[i]? =some T'->(T=T'\/(T= .sc (.slice none 0 0)/\∃k,0<k/\T'= .bX k []))
 | [],[],_=>⟨rfl,fun i T T' h=>by simp at h⟩
 |T::l,T'::l',h=>by
  obtain⟨a,b⟩:=Od h.2;refine⟨by simp[a],fun i S S' h1 h2=> ?_⟩;cases i with
  |zero=>simp at h1 h2;subst h1;subst h2;exact h.1
  |succ i=>exact b i S S' (by simpa using h1) (by simpa using h2)
 | [],_::_,h=>h.elim
 |_::_,[],h=>h.elim
theorem x3A(l:List Tree):yM l l:=by
 induction l with
 |nil=>trivial
 |cons T l ih=>exact⟨.inl rfl,ih⟩
theorem TV{b:Nat}(h:b<=256):AB b=1099511627776:=by
 unfold AB;rw[zM h];rfl
theorem TW(b:Nat):AB b<=1099511627776:=by
 unfold AB;cases Nat.ble b 256<;>decide
theorem y8J{b:Nat}{m:Int}(hb:b<=16384)(h0:0<=m)(h:m<=AB b):(b:Int)*m<=2^48:=by
 by_cases q:b<=256
 ·rw[TV q] at h;have h1:(b:Int)*m<=256*m:=Int.mul_le_mul_of_nonneg_right oM oM;omega
 have e:AB b=8589934592:=by
  unfold AB;cases e:Nat.ble b 256 with
  |false=>rfl
  |true=>exact absurd (qy e) q
 rw[e] at h;have h1:(b:Int)*m<=16384*m:=Int.mul_le_mul_of_nonneg_right oM oM;omega
theorem TX{t e:TypeId}{k b:Nat}{zv:Value}{zs:List Value}{n mm:Int}{k1 k2:IntKind}(hu:P.underlying t=some (.slice e))(hk:kT P e=some k)(hb:GA P e=some b)(pV:vL P e=some zv)(rQ:zv.cells=zs.toArray)
 (iM:zs.length=k) (kX:0<k) (kY:b<=16384) (c1:0<=n) (c2:n<=mm) (Hj:mm<=AB b):
 (Instr.makeSlice t (.int k1 n) (.int k2 mm)).run P w= .ok (.slice (some ⟨w.heap.size,0,none⟩) n.toNat mm.toNat) (w.alloc (.cells (fW zs mm.toNat).toArray e)):=by
 have xH:zv.cells.size=k:=by rw[rQ];simpa using iM
 have c3:=Int.le_trans Hj (TW b);have w1:IntKind.i64.wrap n=n:=IntWalk.i64_in n oM;have w2:IntKind.i64.wrap mm=mm:=IntWalk.i64_in mm oM;have hbm:(b:Int)*mm<=2^48:=y8J kY oM Hj;have hi:∃i,P.info? e=some i/\i.bytes=b:=by
  unfold GA at hb;cases hi:P.info? e with
  |none=>simp[hi] at hb
  |some i=>simp[hi] at hb;exact⟨i,rfl,hb⟩
 obtain⟨i,TY,E9⟩:=hi;have t1:¬(mm<0):=oM;have t2:¬(n<0):=oM;have t3:¬(n>mm):=oM;have t4:¬((b:Int)*mm>2^48):=oM;have Du:(Array.range (mm.toNat*k)).map (fun i=>zv.cells[i%zv.cells.size]!)=(fW zs mm.toNat).toArray:=by
  rw[<-xH,Hh,rQ]
 by_cases h0:mm.toNat*k=0
 ·have hm0:mm.toNat=0:=by
   rcases Nat.mul_eq_zero.1 h0 with h|h
   ·exact h
   ·omega
  obtain rfl:mm=0:=oM;obtain rfl:n=0:=oM;simp[Instr.makeSlice,run_underlying hu,asInt,asIntOf,typeInfo,TY,w1,lD hk,newRow,fW,TU]
 simp only[Instr.makeSlice,Sem.run_bind,run_underlying hu,asInt,asIntOf,Sem.run_pure,Result.andThen_ok,typeInfo,run_program,TY,E9,w1,w2];simp only[t1,t2,t3,t4,decide_false,Bool.or_self,qW,if_false,Sem.run_bind,run_askRoom,Result.andThen_ok,lD hk,h0,BX pV,Sem.run_pure,Du,newRow,run_newObj];rfl
theorem x6G(hS:aY F S m w){bf:Nat}(bn:S bf=none){xs:List Tree}{us:List Value}(hx:∀x∈xs,x.bZ=true)(hl:us.length=xs.length)(hm:xs.length<=maxLen)(h1:∀u∈us,u.oneCell'=true)
 (hr:∀(i:Nat) (T:Tree) (u:Value),xs[i]? =some T->us[i]? =some u->cr w (okB F S m w) T u) (e:TypeId):
 aY F (bO S bf (.cZ false xs none)) (place m bf (some w.heap.size,xs.length)) (w.alloc (.cells us.toArray e))/\
 aK F S m w (bO S bf (.cZ false xs none)) (place m bf (some w.heap.size,xs.length)) (w.alloc (.cells us.toArray e))/\
 ∀ok,aO (bO S bf (.cZ false xs none)) (place m bf (some w.heap.size,xs.length)) (w.alloc (.cells us.toArray e)) ok (.cZ bf) (.slice (some ⟨w.heap.size,0,none⟩) xs.length xs.length):=by
 have hF:=Kb (F:=F) (S:=S) (m:=m) (w:=w) bn (.cZ false xs none) us.toArray e xs.length;refine⟨hS.new bn hF (fun b hb=>dz w _ b hb) (fun b hb=>by simp at hb;omega) ?_,hF,fun ok=> ?_⟩
 ·refine⟨⟨w.heap.size,us.toArray,e,rfl,fA w _,by simp[yK,hl],fun i v u hv hu=> ?_⟩,rfl,hm,hx⟩;simp only[mY,zj,qe] at hv;obtain⟨T,hT,rfl⟩:=hv;have fu:us[i]? =some u:=by simpa using hu
  exact⟨.t _ _ (hF.tree (hr i T u hT fu)),h1 u (qr fu)⟩
 exact .cZ bf false xs none (some w.heap.size,xs.length) (iV _ _ _) (o8 _ _ _)
theorem z8I{t:TypeId}{l c:aJ}{bf:Nat}{yN:eW}{δ:Dl}(h:ND P t l c bf yN=some δ)(hc:b8 δ.jW)(hS:aY F S m w)(bn:S bf=none)
 {ul uc:Value} (hl:aO S m w (okB F S m w) l ul) (Dp:aO S m w (okB F S m w) c uc):iL F S m w δ.wr δ.val ((Instr.makeSlice t ul uc).run P w):=by
 unfold ND at h;simp only[qw] at h;obtain⟨e,he,k,hk,b,hb,ag,kU,z,hz,x,hx,h⟩:=h;split at h;rotate_left
 ·cases h
 rename_i k1 n k2 mm;cases ng: !yN.fx.isEmpty with
 |true=>
  rw[ng,cond_true] at h;split at h;rotate_left
  ·cases h
  rename_i y _;obtain⟨bY,h⟩:=gL h;simp only[qq] at bY;obtain⟨⟨⟨Oe,iM⟩,kY⟩,TZ⟩:=bY;have Oe:=qJ Oe;have iM:=qJ iM;have kY:=qy kY;simp only[qb] at h;subst h;simp only[b8] at hc;obtain⟨c1,c2,c3,c4,-⟩:=hc;subst c2;have:=aO.bq hl;subst this;have:=aO.bq Dp;subst this;have hu:=E7 he;obtain⟨zv,pV,zs,rQ,rfl,oN⟩:=B1 hz;simp only[qj] at iM;have He:=Kf hx (fun T hT=>by
   obtain⟨v,_,rfl⟩:=qO.1 hT;rfl)
  rw[He] at c4;obtain⟨Of,Hl⟩:=Od c4;have Ho:y.cells=[y]:=by cases y<;>first|rfl|simp[Tree.bZ] at TZ
  rw[Ho] at Hl;have mL:∀u∈fW zs n.toNat,u.oneCell'=true:=fun u hu=>oN u (B9 hu)
  have Cd:(fW zs n.toNat).length=n.toNat:=by rw[B8,iM,Nat.mul_one]
  obtain⟨n1,n2,n3⟩:=x6G hS bn (xs:=List.replicate n.toNat y) (us:=fW zs n.toNat) (fun z' Og=>by rw[(zY.1 Og).2];exact TZ) (by rw[Cd];simp) (by simp only[maxLen,zd];omega) mL (fun j T u hT hu=>by
   have Dv:=List.getElem?_replicate.symm.trans hT;split at Dv;rotate_left
   ·cases Dv
   rename_i hj;cases Dv;have e2:=Hg zs n.toNat j (by rw[iM];omega);rw[hu,iM,Nat.mod_one] at e2;have e4:zs[0]? =some u:=by
    rw[e2,jg,qa oM];rfl
   have h1:(zs.map Tree.sc)[0]? =some (Tree.sc u):=by rw[zj,e4];rfl
   rcases Hl 0 _ y h1 rfl with e'| ⟨e',k',Oh,Oi⟩
   ·rw[<-e'];exact .sc _ (mL _ (qr hu))
   rw[Oi];simp only[Tree.sc.injEq] at e';rw[e'];exact .bX k' [] none 0 [] Oh (fun x hx=>by simp at hx) (qp _) (by simp[maxLen]) (fun h=>absurd rfl h) sM (fun j T u hT=>by simp[dL] at hT)) e
  refine⟨_,_,_,TX hu hk hb pV rQ (by rw[iM,Oe]) oM oM c1 (zm _) (by rw[TV kY];exact c3),n1,n2,by have:=n3 (okB F (app S [(bf,Ob.cZ false (List.replicate n.toNat y) none)]) (place m bf (some w.heap.size,(List.replicate n.toNat y).length)) (w.alloc (Obj.cells (fW zs n.toNat).toArray e)));simp only[zd] at this|-;exact this⟩
 |false=>
 rw[ng,cond_false] at h;obtain⟨bY,h⟩:=gL h;simp only[qq] at bY;obtain⟨⟨kX,iM⟩,kY⟩:=bY;have kX:0<k:=Cc kX;have iM:=qJ iM;have kY:=qy kY;simp only[qb] at h;subst h;rw[rO] at hc;simp only[b8] at hc;obtain⟨⟨c1,c2,Hj,-⟩,c4⟩:=hc;have c3:=Int.le_trans Hj (TW b);have:=aO.bq hl;subst this;have:=aO.bq Dp;subst this;have hu:=E7 he;obtain⟨zv,pV,zs,rQ,rfl,oN⟩:=B1 hz;simp only[qj] at iM;have He:=Kf hx (fun T hT=>by
  obtain⟨v,_,rfl⟩:=qO.1 hT;rfl)
 have hy:yM x.cells (yN.xA.getD x).cells:=by
  cases ho:yN.xA with
  |none=>exact x3A _
  |some y=>rw[ho] at c4;exact c4.1
 generalize yN.xA.getD x=y at*
 rw[He] at hy;obtain⟨Of,Hl⟩:=Od hy;simp only[qj] at Of;have hE:jo k y:=⟨by rw[<-Of];exact iM,fun T hT=>by
  obtain⟨q,hq,e⟩:=q9.1 hT;have h1:(zs.map Tree.sc)[q]? =some (Tree.sc zs[q]):=by rw[zj,qa oM];rfl
  rcases Hl q _ T h1 (by rw[qa hq,e]) with e'| ⟨_,k',_,e'⟩
  ·rw[<-e'];rfl
  rw[e'];rfl⟩
 have Hp:∀q:Nat,dL (List.replicate q y)=fW y.cells q:=by
  intro q;induction q with
  |zero=>rfl
  |succ q ih=>simp[qH,dL,fW,ih]
 have mL:∀u∈fW zs mm.toNat,u.oneCell'=true:=fun u hu=>oN u (B9 hu)
 have Cd:(fW zs mm.toNat).length=mm.toNat*k:=by rw[B8,iM]
 obtain⟨n1,n2,n3⟩:=Kc hS bn (xs:=List.replicate n.toNat y) kX (fun z' Og=>by rw[(zY.1 Og).2];exact hE) mm.toNat (by simp;omega) (by simp only[maxLen];omega) Cd mL (fun j T u hT hu=>by
  rw[Hp] at hT;have Oj:y.cells.length=k:=hE.1;have hj:j<n.toNat*k:=by have:=(qA.1 hT).1;rw[B8,Oj] at this;exact this
  have hnm:n.toNat*k<=mm.toNat*k:=zi k oM;have e1:=Hg y.cells n.toNat j (by rw[Oj];exact hj);have e2:=Hg zs mm.toNat j (by rw[iM];omega);rw[hT,Oj] at e1;rw[hu,iM] at e2;have hjk:j%k<k:=Nat.mod_lt _ kX;have e3:y.cells[j%k]? =some T:=by
   rw[e1,jg,qa oM];rfl
  have e4:zs[j%k]? =some u:=by
   rw[e2,jg,qa oM];rfl
  have h1:(zs.map Tree.sc)[j%k]? =some (Tree.sc u):=by rw[zj,e4];rfl
  rcases Hl (j%k) _ T h1 e3 with e'| ⟨e',k',Oh,Oi⟩
  ·rw[<-e'];exact .sc _ (mL _ (qr hu))
  rw[Oi];simp only[Tree.sc.injEq] at e';rw[e'];exact .bX k' [] none 0 [] Oh (fun x hx=>by simp at hx) (qp _) (by simp[maxLen]) (fun h=>absurd rfl h) sM (fun j T u hT=>by simp[dL] at hT)) e
 exact⟨.slice (some ⟨w.heap.size,0,none⟩) n.toNat mm.toNat,_,_,TX hu hk hb pV rQ iM kX kY c1 c2 Hj,n1,n2,by have:=n3 (okB F (app S [(bf,Ob.aF k false (List.replicate n.toNat y))]) (place m bf (some w.heap.size,mm.toNat)) (w.alloc (Obj.cells (fW zs mm.toNat).toArray e)));simp only[zd] at this;exact this⟩
end Go.Ab
end
section
namespace Go.Ab
variable {P:Program} {w:World} {F:eL P} {S st:bQ} {m:Place}
structure Src(w:World)(ok:Nat->Prop)(k:Nat)(ys:List Tree)(ux:Value)(news:List Value):Prop where
 elts:∀x∈ys,jo k x
 len:news.length=ys.length*k
 one:∀u∈news,u.oneCell'=true
 rep:∀(j:Nat) (T:Tree) (u:Value),(dL ys)[j]? =some T->news[j]? =some u->cr w ok T u
 shape:∃A c,ux= .slice A ys.length c/\(A=none->ys=[])/\∀a,A=some a->∀(j:Nat) (u:Value),news[j]? =some u->w.cell? (a.add j)=some u
theorem Ol{k:Nat}{x:aJ}{ys:List Tree}{p:List Prop}(hk:0<k)(h:NH st k x=some (ys,p))(hp:b8 p)(bH:∀id o,st id=some o->S id=some o)(hS:aY F S m w){ux:Value}
 (hx:aO S m w (okB F S m w) x ux):∃news,Src w (okB F S m w) k ys ux news:=by
 unfold NH at h;split at h
 ·rename_i k' xs;obtain⟨h1,h2⟩:=gL h;have h1:=qJ h1;subst h1;simp only[qb,qD] at h2;obtain⟨rfl,rfl⟩:=h2;cases hx with
  |t _ _ hT=>
   cases hT with
   |bX _ _ A c us hk u5 hn hm hA hl jL=>
    have sx:=vO u5;refine⟨us,u5,hl,fun u hu=> ?_,jL,A,c,rfl,fun e=> ?_,fun a ha j u hu=> ?_⟩
    ·obtain⟨j,hj,rfl⟩:=q9.1 hu;have lQ:j< (dL xs).length:=oM;exact(jL j _ _ (qa lQ) (qa hj)).one (NV u5 _ (zB _))
    ·by_cases dh:xs=[]
     ·exact dh
     obtain⟨b,o,h,_⟩:=hA dh;rw[e] at h;cases h
    by_cases dh:xs=[]
    ·subst dh;have:us=[]:=qP (by simpa using hl);subst this;simp at hu
    obtain⟨b,o,h,_,bT⟩:=hA dh;rw[ha] at h;cases h;rw[rM];exact bT j u hu
 ·simp only[qb,qD] at h;obtain⟨rfl,rfl⟩:=h;have:=aO.bq hx;subst this;exact⟨[],fun x hx=>by simp at hx,sM,fun u hu=>by simp at hu,fun j T u h=>by simp[dL] at h,none,0,rfl,fun _=>rfl,fun a ha=>by cases ha⟩
 ·rename_i id n;split at h;rotate_left
  ·cases h
  rename_i k' fz xs hs;obtain⟨h1,h2⟩:=gL h;have h1:=qJ h1;subst h1;simp only[qb,qD] at h2;obtain⟨rfl,rfl⟩:=h2;simp only[b8] at hp;obtain⟨hn,-⟩:=hp;have cK:=bH id _ hs;cases hx with
  |fH _ _ L lF=>rw[cK] at lF;cases lF
  |aF _ _ k0 N6 N7 L lF yT AI=>
   rw[cK] at lF;cases lF;have hL:=AI hn;obtain⟨a1,a2,a3,a4,a5⟩:=hS.cN id _ cK;have sx:=vO a2;rcases a5 with⟨a5,a6⟩| ⟨b,us,e,h1,h2,h3,h4,h5⟩
   ·have hx:xs=[]:=qP (by rw[a6] at a3;omega);subst hx;refine⟨[],a2,sM,fun u hu=>by simp at hu,fun j T u h=>by simp[dL] at h,none,L.2,?_,fun _=>rfl,fun a ha=>by cases ha⟩;rw[<-hL,ia,a5,hn];rfl
   have hle:xs.length*k<=us.size:=by rw[h3];exact zi k a3
   refine⟨us.toList.take (xs.length*k),a2,by simp;omega,fun u hu=> ?_,fun j T u hT hu=> ?_,⟨some ⟨b,0,none⟩,L.2,?_,fun e=>absurd e sM,fun a ha j u hu=> ?_⟩⟩
   ·obtain⟨j,hj⟩:=zA (qF hu);exact h4 j u (by simpa using hj)
   ·rw[qB] at hu;split at hu
    ·exact h5 j T u hT (by simpa using hu)
    cases hu
   ·rw[<-hL,ia,h1,hn];rfl
   cases ha;rw[rM,zw];rw[qB] at hu;split at hu
   ·simp only[World.cell?,h2];simpa using hu
   cases hu
 cases h
theorem Src.first{ok:Nat->Prop}{k:Nat}{ys:List Tree}{ux:Value}{news:List Value}(h:Src w ok k ys ux news)(w':World)(hw:∀a,w'.cell? a=w.cell? a):
 (Builtin.firstCells k ys.length ux).run P w'= .ok news.toArray w'/\(Builtin.lenOf ux).run P w'= .ok ys.length w':=by
 obtain⟨A,c,rfl,hA,hc⟩:=h.shape;refine⟨?_,by simp[Builtin.lenOf]⟩;cases A with
 |none=>
  have:=hA rfl;subst this;have:news=[]:=qP (by simpa using h.len);subst this;simp[Builtin.firstCells]
 |some a=>exact run_firstCells_some w' k ys.length a ys.length c news h.len (fun j v hv=>by rw[hw];exact hc a rfl j v hv)
theorem T0(b:Nat):AD b<=1099511627776:=by unfold AD;cases Nat.ble b 128<;>decide
theorem T1{n b:Nat}(h:n<=AD b)(hb:b<=16384):n*b<=140737488355328:=by
 unfold AD at h;cases q:Nat.ble b 128 with
 |true=>
  rw[q] at h;exact qC (Nat.mul_le_mul h (qy q)) dM
 |false=>
  rw[q] at h;exact qC (Nat.mul_le_mul h hb) dM
theorem T2{t ty e:TypeId}{i:TypeInfo}{z:Value}(ht:P.underlying t=some (.slice e))(hi:P.info? e=some i)(hz:i.zero=some z){ok:Nat->Prop}{k:Nat}(hk:i.size=k)
 {ys:List Tree} {ux:Value} {news:List Value} (hs:Src w ok k ys ux news) (hb:i.bytes<=16384) (L:Option Nat×Nat) (n:Nat) (olds:List Value) (vV:olds.length=n*k) (mI:n<=L.2) (fI:n+ys.length<=AD i.bytes)
 (hL:(L=(none,0)/\olds=[])\/∃b cur e',L.1=some b/\w.heap[b]? =some (.cells cur e' (0,0))/\cur.size=L.2*k/\olds=cur.toList.take (n*k)):
 (n+ys.length<=L.2/\((L=(none,0)/\(Builtin.append_ #[t,t] ty #[ia L n,ux]).run P w= .ok (ia L (n+ys.length)) w)\/
  ∃b cur e',L.1=some b/\w.heap[b]? =some (.cells cur e' (0,0))/\
   (Builtin.append_ #[t,t] ty #[ia L n,ux]).run P w= .ok (ia L (n+ys.length)) (w.setRow b (cur.toList.take (n*k)++news++cur.toList.drop (n*k+news.length)).toArray)))\/
 (L.2<n+ys.length/\∃cap,n+ys.length<=cap/\cap<=maxLen/\
  (Builtin.append_ #[t,t] ty #[ia L n,ux]).run P w= .ok (ia (some w.heap.size,cap) (n+ys.length)) (w.drew.alloc (.cells (olds.toArray++news.toArray++Builtin.zeroCells z.cells (cap- (n+ys.length))) e))):=by
 have Hq:=qC fI (T0 _);have fV:kT P e=some k:=by simp[kT,hi,hk]
 have hd:=hs.first (P:=P) w (fun _=>rfl);by_cases iH:n+ys.length<=L.2
 ·refine .inl ⟨iH,?_⟩;rcases hL with⟨rfl,h0⟩| ⟨b,cur,e',h1,h2,h3,h4⟩
  ·left;refine⟨rfl,?_⟩;simp only at iH;have hy:ys.length=0:=oM;have hn:n=0:=oM;have dh:news=[]:=qP (by rw[hs.len,hy];simp);rw[hy] at hd|-;subst hn;simp[Builtin.append_,run_underlying ht,lD fV,hd.1,hd.2,ia]
  right;refine⟨b,cur,e',h1,h2,?_⟩;have Hr:n*k+news.length<=cur.size:=by rw[hs.len,h3,<-Nat.add_mul];exact zi _ iH
  have bH:=run_storeCells_at P b (n*k) e' news 0 cur w h2 (by simpa using Hr) hs.one;simp only[Nat.add_zero] at bH;simp[Builtin.append_,run_underlying ht,lD fV,hd.1,hd.2,ia,iH,h1,rM,bH]
 refine .inr ⟨oM,grownCap w (n+ys.length) L.2 e,grownCap_ge _ _ _ _,grownCap_le_maxLen _ _ _ _ (by simp only[maxLen];omega),?_⟩;have AJ:=hs.first (P:=P) w.drew (fun _=>rfl);have Om:¬(9223372036854775807< ((n:Int)+(ys.length:Int))):=oM;have On:¬(281474976710656<Builtin.nextslicecap (n+ys.length) L.2*i.bytes):=by
  have:=growslice_fits (need:=n+ys.length) (old:=L.2) (bytes:=i.bytes) oM (by
   have:=T1 fI hb;omega)
  omega
 have hold:(Builtin.firstCells k n (ia L n)).run P w.drew= .ok olds.toArray w.drew:=by
  rcases hL with⟨rfl,h0⟩| ⟨b,cur,e',h1,h2,h3,h4⟩
  ·subst h0;simp at vV;simp[ia,Builtin.firstCells]
  rw[ia,h1];refine run_firstCells_some w.drew k n _ _ _ olds vV (fun j v hv=> ?_);rw[rM,zw];subst h4;rw[qB] at hv;split at hv
  ·show w.cell? _=_;simp only[World.cell?,h2];simpa using hv
  cases hv
 have pV:vL P e=some z:=by simp[vL,hi,hz]
 have Kg:ia L n= .slice (L.1.map fun b=>⟨b,0,none⟩) n L.2:=rfl;simp only[Builtin.append_,ia] at hold|-;simp[run_underlying ht,lD fV,hd.2,iH,Om,On,typeInfo,hi,Question.forced,hold,AJ.1,BX pV,newRow,grownCap];rw[<-Array.append_assoc,List.append_toArray olds news]
theorem x3B{t ty e:TypeId}{i:TypeInfo}{z:Value}(ht:P.underlying t=some (.slice e))(hi:P.info? e=some i)(hz:i.zero=some z){ok:Nat->Prop}{k:Nat}(hk:i.size=k)
 {ys:List Tree} {ux:Value} {news:List Value} (hs:Src w ok k ys ux news) (hb:i.bytes<=16384) (A:Option Addr) (n:Nat) (olds:List Value) (vV:olds.length=n*k) (Hs:0<ys.length) (fI:n+ys.length<=AD i.bytes)
 (hA:n≠0->∃a,A=some a/\∀(j:Nat) (u:Value),olds[j]? =some u->w.cell? (a.add j)=some u):
 ∃cap,n+ys.length<=cap/\cap<=maxLen/\
  (Builtin.append_ #[t,t] ty #[.slice A n n,ux]).run P w= .ok (ia (some w.heap.size,cap) (n+ys.length)) (w.drew.alloc (.cells (olds.toArray++news.toArray++Builtin.zeroCells z.cells (cap- (n+ys.length))) e)):=by
 have Hq:=qC fI (T0 _);have fV:kT P e=some k:=by simp[kT,hi,hk]
 have hd:=hs.first (P:=P) w (fun _=>rfl);have iH:¬(n+ys.length<=n):=oM;refine⟨grownCap w (n+ys.length) n e,grownCap_ge _ _ _ _,grownCap_le_maxLen _ _ _ _ (by simp only[maxLen];omega),?_⟩;have AJ:=hs.first (P:=P) w.drew (fun _=>rfl);have Om:¬(9223372036854775807< ((n:Int)+(ys.length:Int))):=oM;have On:¬(281474976710656<Builtin.nextslicecap (n+ys.length) n*i.bytes):=by
  have:=growslice_fits (need:=n+ys.length) (old:=n) (bytes:=i.bytes) oM (by
   have:=T1 fI hb;omega)
  omega
 have hold:(Builtin.firstCells k n (.slice A n n)).run P w.drew= .ok olds.toArray w.drew:=by
  by_cases h0:n=0
  ·subst h0;have:olds=[]:=qP (by simpa using vV);subst this;cases A with
   |none=>simp[Builtin.firstCells]
   |some a=>exact run_firstCells_some w.drew k 0 _ _ _ [] sM (fun j v hv=>by simp at hv)
  obtain⟨a,rfl,hc⟩:=hA h0;exact run_firstCells_some w.drew k n _ _ _ olds vV (fun j v hv=>hc j v hv)
 have pV:vL P e=some z:=by simp[vL,hi,hz]
 simp only[Builtin.append_,ia] at hold|-;simp[run_underlying ht,lD fV,hd.2,iH,Om,On,typeInfo,hi,Question.forced,hold,AJ.1,BX pV,newRow,grownCap];rw[<-Array.append_assoc,List.append_toArray olds news]
theorem jo.append{k:Nat}{xs ys:List Tree}(h1:∀x∈xs,jo k x)(h2:∀x∈ys,jo k x):∀x∈xs++ys,jo k x:=fun x hx=>(qn.1 hx).elim (h1 x) (h2 x)
theorem Ht{ok:Nat->Prop}{k n:Nat}{xs ys:List Tree}{olds news rest:List Value}(ha:∀x∈xs,jo k x)(hn:n=xs.length)(vV:olds.length=n*k)
 (hr:∀(j:Nat) (T:Tree) (u:Value),(dL xs)[j]? =some T->olds[j]? =some u->cr w ok T u) (jL:∀(j:Nat) (T:Tree) (u:Value),(dL ys)[j]? =some T->news[j]? =some u->cr w ok T u)
 (Dn:∀x∈ys,jo k x) (hl:news.length=ys.length*k) (j:Nat) (T:Tree) (u:Value) (hT:(dL (xs++ys))[j]? =some T) (hu:(olds++news++rest)[j]? =some u):cr w ok T u:=by
 have ng:=vO ha;have AK:=vO Dn;rw[Tr] at hT;by_cases c1:j<n*k
 ·rw[qx (by rw[ng,<-hn];exact c1)] at hT;rw[qx (by simp;omega),qx oM] at hu;exact hr j T u hT hu
 have hj:j< (dL xs++dL ys).length:=(qA.1 hT).1;simp only[qf,ng,AK,<-hn] at hj;rw[qK (by rw[ng,<-hn];omega),ng,<-hn] at hT;rw[qx (by simp;omega),qK oM,vV] at hu;exact jL _ T u hT hu
theorem x3C(hS:aY F S m w){id:Nat}{o o':Ob}(bn:S id=some o)(fQ:o.len<o'.len)(gA:o.same o')(uY:o.live=true)(us:Array Value)(e:TypeId)(cap:Nat)
 (bR:aK F S m w (bO S id o') (place m id (some w.heap.size,cap)) (w.alloc (.cells us e))->
  mZ (bO S id o') (place m id (some w.heap.size,cap)) (w.alloc (.cells us e)) (okB F (bO S id o') (place m id (some w.heap.size,cap)) (w.alloc (.cells us e))) o' (some w.heap.size,cap) []):
 aY F (bO S id o') (place m id (some w.heap.size,cap)) (w.alloc (.cells us e))/\aK F S m w (bO S id o') (place m id (some w.heap.size,cap)) (w.alloc (.cells us e)):=by
 have hF:aK F S m w (bO S id o') (place m id (some w.heap.size,cap)) (w.alloc (.cells us e)):=by
  refine⟨rfl,rfl,rfl,sM,fun b hb _=>dz w _ b hb,fun i oi hi=> ?_,fun i oi hi hn=> ?_⟩
  ·by_cases e:i=id
   ·subst e;rw[bn] at hi;cases hi;exact⟨o',iV _ _ _,oM,fun e=>oM,fun h=>(by rw[uY] at h;cases h),fun b hb=> .inr (.inl (by rw[rL] at hb;simp at hb;omega)),gA⟩
   exact⟨oi,by rw[eC e];exact hi,qp _,fun _=>vN e,fun h=>h,fun b hb=> .inl ((mj e).1 hb),oi.dw⟩
  by_cases e:i=id
  ·subst e;rw[bn] at hn;cases hn
  rw[eC e] at hi;rw[hi] at hn;cases hn
 refine⟨⟨fun i oi hi=> ?_,fun i j oi oj c hi hj h1 h2=> ?_,fun i oi c hi hm yQ=> ?_,fun i oi c hi hm=> ?_,fun c hc=>zu (hS.low c hc) hF.size,hS.held hF⟩,hF⟩
 ·by_cases e:i=id
  ·subst e;rw[iV] at hi;cases hi;rw[o8,z23];exact bR hF
  rw[eC e] at hi;rw[vN e,EZ e];exact(hS.cN i oi hi).cF hF (fun b hm=>dz w _ b (hS.lt i oi b hi hm))
 ·by_cases e:i=id
  ·by_cases e':j=id
   ·rw[e,e']
   subst e;rw[rL] at h1;rw[mj e'] at h2;rw[eC e'] at hj;have:=hS.lt j oj c hj h2;simp at h1;omega
  by_cases e':j=id
  ·subst e';rw[rL] at h2;rw[mj e] at h1;rw[eC e] at hi;have:=hS.lt i oi c hi h1;simp at h2;omega
  rw[mj e] at h1;rw[mj e'] at h2;rw[eC e] at hi;rw[eC e'] at hj;exact hS.inj i j oi oj c hi hj h1 h2
 ·by_cases e:i=id
  ·subst e;rw[rL] at hm;have:=hS.low c yQ;simp at hm;omega
  rw[eC e] at hi;rw[mj e] at hm;exact hS.eD i oi c hi hm yQ
 by_cases e:i=id
 ·subst e;rw[rL] at hm;simp at hm;rw[<-hm];simp
 rw[eC e] at hi;rw[mj e] at hm;exact zu (hS.lt i oi c hi hm) hF.size
theorem Ce:aK F S m w S m w.drew:=⟨rfl,rfl,rfl,qp _,fun _ _ _=>rfl,fun id o h=>⟨o,h,qp _,fun _=>rfl,fun h=>h,fun _ q=> .inl q,o.dw⟩,fun id o h h'=>by rw[h'] at h;cases h⟩
theorem aY.drew(hS:aY F S m w):aY F S m w.drew:=⟨fun id o h=>(hS.cN id o h).cF Ce (fun _ _=>rfl),hS.inj,hS.eD,hS.lt,hS.low,hS.held Ce⟩
theorem y1W{ts:Array TypeId}{ty:TypeId}{s x:aJ}{bf:Nat}{δ:Dl}(h:NI P ts s x st bf=some δ)(hc:b8 δ.jW)(bH:∀id o,st id=some o->S id=some o)(hS:aY F S m w)(bn:S bf=none)
 {us ux:Value} (hs:aO S m w (okB F S m w) s us) (hx:aO S m w (okB F S m w) x ux):iL F S m w δ.wr δ.val ((Builtin.append_ ts ty #[us,ux]).run P w):=by
 unfold NI at h;split at h;rotate_left
 ·cases h
 rename_i tS tX E8;simp only[qw] at h;obtain⟨e,he,k,hk,b,hb,z,hz,⟨ys,p⟩,sy,h⟩:=h;obtain⟨bY,h2⟩:=gL h;clear h;simp only at h2;simp only[qq] at bY;obtain⟨⟨⟨ht,kX⟩,Cf⟩,iM⟩:=bY;have ht:=qJ ht;subst ht;have kX:=Cc kX;have Cf:=qy Cf;have iM:=qJ iM;have hu:=E7 he;obtain⟨zv,pV,zs,rQ,rfl,oN⟩:=B1 hz;simp only[qj] at iM;have Oo:ts=#[tS,tS]:=by
  apply Array.ext';simpa using E8
 subst Oo;obtain⟨i,hi,xI,Oq,uq⟩:∃i,P.info? e=some i/\i.size=k/\i.bytes=b/\i.zero=some zv:=by
  unfold kT at hk;unfold GA at hb;unfold vL at pV;cases hi:P.info? e with
  |none=>simp[hi] at hk
  |some i=>simp[hi] at hk hb pV;exact⟨i,rfl,hk,hb,pV⟩
 have ur:∀q:Nat,(Builtin.zeroCells zv.cells q).toList=fW zs q:=fun q=>by
  have:=Hh zv.cells q;simp only[Builtin.zeroCells];rw[this,rQ]
 split at h2
 ·simp only[qb] at h2;subst h2;rw[rO] at hc;simp only[b8] at hc;obtain⟨hp,fI,-⟩:=hc;obtain⟨news,kZ⟩:=Ol kX sy hp bH hS hx;have:=aO.bq hs;subst this;have cQ:=T2 (ty:=ty) hu hi uq xI kZ oM (none,0) 0 [] sM sM (by rw[Oq];simpa using fI) (.inl ⟨rfl,rfl⟩);simp only[zw] at cQ;rcases cQ with⟨lR,⟨_,cQ⟩| ⟨b,cur,e',h1,_⟩⟩| ⟨lR,cap,mI,hm,cQ⟩
  ·have hy:ys=[]:=qP oM;subst hy;have hF:=GW (F:=F) (S:=S) (m:=m) (w:=w) (w':=w) (o:= .aF k false []) (L:=(none,0)) bn rfl rfl rfl (qp _) (fun _ _=>rfl) (fun b hb=>by simp at hb);refine⟨_,w,place m bf (none,0),cQ,hS.new bn hF (fun _ _=>rfl) (fun b hb=>by simp at hb) ⟨kX,fun x hx=>by simp at hx,sM,by simp[maxLen],.inl ⟨rfl,rfl⟩⟩,hF,?_⟩;exact .aF bf 0 k false [] (none,0) (iV _ _ _) (qp _) (fun _=>o8 _ _ _)
  ·simp at h1
  have hlen:(news++fW zs (cap-ys.length)).length=cap*k:=by
   rw[qf,kZ.len,B8,iM,<-Nat.add_mul];congr 1;omega
  obtain⟨n1,n2,n3⟩:=Kc hS.drew bn (xs:=ys) kX kZ.elts cap mI hm hlen
   (fun u hu=>(qn.1 hu).elim (kZ.one u) (fun h=>oN u (B9 h))) (fun j T u hT hu=>by
    rw[qx (by rw[kZ.len,<-vO kZ.elts];exact(qA.1 hT).1)] at hu;exact Ce.tree (kZ.rep j T u hT hu)) e
  have nK:(([]:List Value).toArray++news.toArray++Builtin.zeroCells zv.cells (cap-ys.length))=(news++fW zs (cap-ys.length)).toArray:=by
   apply Array.ext';simp[ur]
  rw[nK] at cQ;exact⟨_,_,_,cQ,n1,Ce.trans hS n2,n3 _⟩
 ·rename_i id n;split at h2;rotate_left
  ·cases h2
  rename_i k' xs b9;obtain⟨tu,h⟩:=gL h2;have tu:=qJ tu;subst tu;simp only[qb] at h;subst h;rw[rO] at hc;simp only[b8] at hc;obtain⟨hp,hn,fI,-⟩:=hc;obtain⟨news,kZ⟩:=Ol kX sy hp bH hS hx;have cK:=bH id _ b9;have vU:id≠bf:=fun e=>by subst e;rw[bn] at cK;cases cK
  cases hs with
  |fH _ _ L lF=>rw[cK] at lF;cases lF
  |aF _ _ k0 N6 N7 L lF yT AI=>
   rw[cK] at lF;cases lF;have hL:=AI hn;obtain⟨a1,a2,a3,a4,a5⟩:=hS.cN id _ cK;rw[hL] at a3 a4 a5;have sx:=vO a2;obtain⟨olds,BR,Gz,ho3,T3⟩:∃olds:List Value,olds.length=n*k/\((L=(none,0)/\olds=[])\/∃b cur e',L.1=some b/\w.heap[b]? =some (.cells cur e' (0,0))/\cur.size=L.2*k/\olds=cur.toList.take (n*k))/\
    (∀u∈olds,u.oneCell'=true)/\(∀(j:Nat) (T:Tree) (u:Value),(dL xs)[j]? =some T->olds[j]? =some u->cr w (okB F S m w) T u):=by
    rcases a5 with⟨a5,a6⟩| ⟨b,cur,e',h1,h2,h3,h4,h5⟩
    ·have hx:xs=[]:=qP (by rw[a6] at a3;omega);subst hx;exact⟨[],by simp[hn],.inl ⟨Prod.ext a5 a6,rfl⟩,fun u hu=>by simp at hu,fun j T u h=>by simp[dL] at h⟩
    have hle:n*k<=cur.size:=by rw[h3];exact zi k oM
    refine⟨cur.toList.take (n*k),by simp;omega,.inr ⟨b,cur,e',h1,h2,h3,rfl⟩,fun u hu=> ?_,fun j T u hT hu=> ?_⟩
    ·obtain⟨j,hj⟩:=zA (qF hu);exact h4 j u (by simpa using hj)
    rw[qB] at hu;split at hu
    ·exact h5 j T u hT (by simpa using hu)
    cases hu
   have cQ:=T2 (ty:=ty) hu hi uq xI kZ oM L n olds BR oM (by rw[Oq];exact fI) Gz;have AL:=jo.append a2 kZ.elts;have j8:(xs++ys).length=n+ys.length:=by simp[hn]
   rcases cQ with⟨lR,⟨AM,cQ⟩| ⟨b,cur,e',h1,h2,cQ⟩⟩| ⟨lR,cap,mI,hm,cQ⟩
   ·subst AM;simp only at lR;have hy:ys=[]:=qP oM;subst hy;have he:app S [(id,Ob.aF k false (xs++[]))]=S:=by
     funext j;show bO S id (.aF k false (xs++[])) j=S j;by_cases e:j=id
     ·subst e;rw[iV,qL,cK]
     rw[eC e]
    refine⟨_,w,m,cQ,?_,?_,?_⟩
    ·rw[he];exact hS
    ·rw[he];exact aK.refl F S m w
    rw[he];exact .aF id _ k false xs _ cK (by simp[hn]) (fun _=>hL)
   ·have mh:cur.size=L.2*k/\olds=cur.toList.take (n*k):=by
     rcases Gz with⟨hq,_⟩| ⟨b0,Ot,e0,q1,q2,q3,q4⟩
     ·rw[hq] at h1;cases h1
     rw[h1] at q1;cases q1;rw[h2] at q2;cases q2;exact⟨q3,q4⟩
    have Hr:n*k+news.length<=cur.size:=by rw[kZ.len,mh.1,<-Nat.add_mul];exact zi _ lR
    have Cg:∀(j:Nat) (u:Value),cur[j]? =some u->u.oneCell'=true:=by
     rcases a5 with⟨a5,_⟩| ⟨b0,Ot,e0,q1,q2,q3,q4,q5⟩
     ·rw[a5] at h1;cases h1
     rw[h1] at q1;cases q1;rw[h2] at q2;cases q2;exact q4
    have key:=wM (o':= .aF k false (xs++ys)) hS cK rfl (by rw[hL];exact h1) (w':=w.setRow b (cur.toList.take (n*k)++news++cur.toList.drop (n*k+news.length)).toArray)
     rfl rfl rfl sM (fun c hc=>G9 w b c _ hc) (by simp[Ob.len]) (by simp[Ob.same]) (fun hF=>by
      rw[hL];refine⟨kX,AL,oM,a4,.inr ⟨b,_,e',h1,setRow_heap w b cur _ e' _ h2,by simp;omega,fun j u hu=> ?_,fun j T u hT hu=> ?_⟩⟩
      ·have hu:(cur.toList.take (n*k)++news++cur.toList.drop (n*k+news.length))[j]? =some u:=by simpa using hu
       rcases qn.1 (qr hu) with hu|hu
       ·rcases qn.1 hu with hu|hu
        ·obtain⟨q,hq⟩:=zA (qF hu);exact Cg q u (by simpa using hq)
        exact kZ.one u hu
       obtain⟨q,hq⟩:=zA (qE hu);exact Cg q u (by simpa using hq)
      have hu:(olds++news++cur.toList.drop (n*k+news.length))[j]? =some u:=by rw[mh.2];simpa using hu
      exact hF.tree (Ht a2 hn BR T3 kZ.rep kZ.elts kZ.len j T u hT hu))
    refine⟨_,_,m,cQ,key.1,key.2,?_⟩;exact .aF id _ k false (xs++ys) L (iV _ _ _) (by rw[j8];exact qp _) (fun _=>hL)
   have Ou:(fW zs (cap- (n+ys.length))).length=(cap- (n+ys.length))*k:=by rw[B8,iM]
   have nK:(olds.toArray++news.toArray++Builtin.zeroCells zv.cells (cap- (n+ys.length)))=(olds++news++fW zs (cap- (n+ys.length))).toArray:=by
    apply Array.ext';simp[ur]
   rw[nK] at cQ;have key:=x3C (o':= .aF k false (xs++ys)) hS.drew cK (by simp[Ob.len];omega) (by simp[Ob.same]) rfl (olds++news++fW zs (cap- (n+ys.length))).toArray e cap (fun hF=>by
    refine⟨kX,AL,by rw[j8];exact mI,hm,.inr ⟨w.heap.size,_,e,rfl,fA w.drew _,?_,fun j u hu=> ?_,fun j T u hT hu=> ?_⟩⟩
    ·simp only[zN,qf,BR,kZ.len,Ou,<-Nat.add_mul];congr 1;omega
    ·have hu:(olds++news++fW zs (cap- (n+ys.length)))[j]? =some u:=by simpa using hu
     rcases qn.1 (qr hu) with hu|hu
     ·exact(qn.1 hu).elim (ho3 u) (kZ.one u)
     exact oN u (B9 hu)
    have hu:(olds++news++fW zs (cap- (n+ys.length)))[j]? =some u:=by simpa using hu
    exact hF.tree (Ce.tree (Ht a2 hn BR T3 kZ.rep kZ.elts kZ.len j T u hT hu)))
   refine⟨_,_,_,cQ,key.1,Ce.trans hS key.2,?_⟩;exact .aF id _ k false (xs++ys) _ (iV _ _ _) (by rw[j8];exact qp _) (fun _=>o8 _ _ _)
 ·rename_i k' xs;obtain⟨tu,h⟩:=gL h2;have tu:=qJ tu;subst tu;simp only[qb] at h;subst h;rw[rO] at hc;simp only[b8] at hc;obtain⟨hp,Hs,fI,-⟩:=hc;obtain⟨news,kZ⟩:=Ol kX sy hp bH hS hx;cases hs with
  |xl _ _ _ hT G3=>
  obtain⟨A0,rfl⟩:=G3;generalize hn:xs.length=n at hT;cases hT with
  |bX _ _ A c olds hk u5 tg E5 hA hl jL=>
  obtain⟨cap,mI,hm,cQ⟩:=x3B (ty:=ty) hu hi uq xI kZ oM A0 xs.length olds hl Hs (by rw[Oq];exact fI) (fun dh=>by
   obtain⟨b,o,rfl,_,bT⟩:=hA (fun e=>dh (by rw[e];rfl));exact⟨_,rfl,fun j u hj=>by rw[rM];exact bT j u hj⟩)
  have AL:=jo.append u5 kZ.elts;have j8:(xs++ys).length=xs.length+ys.length:=qf;have hlen:(olds++news++fW zs (cap- (xs.length+ys.length))).length=cap*k:=by
   rw[qf,qf,hl,kZ.len,B8,iM,<-Nat.add_mul,<-Nat.add_mul];congr 1;omega
  have iW:∀u∈olds,u.oneCell'=true:=fun u hu=>by
   obtain⟨j,hj,rfl⟩:=q9.1 hu;have lQ:j< (dL xs).length:=by rw[vO u5];omega
   exact(jL j _ _ (qa lQ) (qa hj)).one (NV u5 _ (zB _))
  obtain⟨n1,n2,n3⟩:=Kc hS.drew bn (xs:=xs++ys) kX AL cap (by rw[j8];exact mI) hm hlen
   (fun u hu=>(qn.1 hu).elim (fun h=>(qn.1 h).elim (iW u) (kZ.one u)) (fun h=>oN u (B9 h)))
   (fun j T u hT hu=>Ce.tree (Ht u5 rfl hl jL kZ.rep kZ.elts kZ.len j T u hT hu)) e
  have nK:(olds.toArray++news.toArray++Builtin.zeroCells zv.cells (cap- (xs.length+ys.length)))=(olds++news++fW zs (cap- (xs.length+ys.length))).toArray:=by
   apply Array.ext';simp[ur]
  rw[nK] at cQ;rw[j8] at n3;exact⟨_,_,_,cQ,n1,Ce.trans hS n2,n3 _⟩
 cases h2
end Go.Ab
end
section
namespace Go.Ab
variable {P:Program} {w:World} {F:eL P} {S st:bQ} {m:Place}
theorem Ci{i:Nat}:∀{l:List aJ},i∈rK l↔∃v∈l,i∈lP v
 | []=>by simp[rK]
 |v::l=>by simp[rK,Ci (l:=l)]
theorem aO.restrict{st':bQ}{ok ok':Nat->Prop}(dF:∀b,ok b->ok' b){v:aJ}{u:Value}(h:aO S m w ok v u):(∀id∈lP v,st' id=S id)->aO st' m w ok' v u:=by
 induction h with
 |t T u hT=>intro _;exact .t T u (hT.mono dF (fun _ _ _ _ h=>h))
 |xl k xs u hT hc=>intro _;exact .xl k xs u (hT.mono dF (fun _ _ _ _ h=>h)) hc
 |aF id n k fz xs L h1 h2 h3=>intro hi;exact .aF id n k fz xs L ((hi id (by simp[lP])).trans h1) h2 h3
 |ptr id off cs b h1 h2=>intro hi;exact .ptr id off cs b ((hi id (by simp[lP])).trans h1) h2
 |jv id n cs b h1 h2=>intro hi;exact .jv id n cs b ((hi id (by simp[lP])).trans h1) h2
 |iT id n L h1=>intro hi;exact .iT id n L ((hi id (by simp[lP])).trans h1)
 |cM id n i sub k fz xs b h1 h2 h3=>intro hi;exact .cM id n i sub k fz xs b ((hi id (by simp[lP])).trans h1) h2 h3
 |cZ id fz xs hh L h1 h2=>intro hi;exact .cZ id fz xs hh L ((hi id (by simp[lP])).trans h1) h2
 |eG id i fz xs hh b h1 h2=>intro hi;exact .eG id i fz xs hh b ((hi id (by simp[lP])).trans h1) h2
 |ec cs b o us h1 h2 h3 h4 h5=>intro _;exact .ec cs b o us (dF _ h1) h2 h3 h4 (fun j T u a b=>(h5 j T u a b).mono dF (fun _ _ _ _ h=>h))
 |agg cs us h1 _ h3 ih=>intro hi;exact .agg cs us h1 (fun i v u a b=>ih i v u a b (fun id bn=>hi id (by simp only[lP];exact Ci.2 ⟨v,qr a,bn⟩))) h3
 |fn f cap us h1 _ ih=>intro hi;exact .fn f cap us h1 (fun i v u a b=>ih i v u a b (fun id bn=>hi id (by simp only[lP];exact Ci.2 ⟨v,qr a,bn⟩)))
 |aZ vs us h1 _ ih=>intro hi;exact .aZ vs us h1 (fun i v u a b=>ih i v u a b (fun id bn=>hi id (by simp only[lP];exact Ci.2 ⟨v,qr a,bn⟩)))
 |cond c v u _ h0 ih=>intro hi;exact .cond c v u (fun e=>ih e (fun id bn=>hi id (by simpa[lP] using bn))) h0
 |cH u=>intro _;exact .cH u
 |fH id n L h1=>intro hi;exact .fH id n L ((hi id (by simp[lP])).trans h1)
 |eT id n i sub b o h1=>intro hi;exact .eT id n i sub b o ((hi id (by simp[lP])).trans h1)
 |eZ b=>intro _;exact .eZ b
 |kS t u=>intro _;exact .kS t u
 |tail id n i k fz xs L h1 h2 h3 h4=>intro hi;exact .tail id n i k fz xs L ((hi id (by simp[lP])).trans h1) h2 h3 h4
 |fP id n i k L h1=>intro hi;exact .fP id n i k L ((hi id (by simp[lP])).trans h1)
 |fO id o b u h1 h2 h3=>intro hi;exact .fO id o b u ((hi id (by simp[lP])).trans h1) h2 h3
 |gN id off b h1=>intro hi;exact .gN id off b ((hi id (by simp[lP])).trans h1)
 |yl id Y pre h1=>intro hi;exact .yl id Y pre ((hi id (by simp[lP])).trans h1)
theorem T4{st':bQ}{m':Place}{w':World}{ok ok':Nat->Prop}{v:aJ}{u:Value}(hf:Nk v=true)(h:aO S m w ok v u):aO st' m' w' ok' v u:=by
 have tree:∀(T:Tree) (u:Value),T.free=true->cr w ok T u->cr w' ok' T u:=by
  intro T u hT h;cases h with
  |sc _ h=>exact .sc _ h
  |bX=>simp[Tree.free] at hT
  |agg cs us hl hc h1=>
   refine .agg cs us hl hc (fun i T u a b=> ?_);have h2:=h1 i T u a b;have h3:=qS.1 hT T (qr a);cases h2 with
   |sc _ h=>exact .sc _ h
   |bX=>simp at h3
   |agg=>simp at h3
 cases h with
 |t T u hT=>exact .t T u (tree T u hf hT)
 |aZ vs us hl h1=>
  refine .aZ vs us hl (fun i v u a b=> ?_);have h2:=h1 i v u a b;have h3:=qS.1 hf v (qr a);cases h2 with
  |t T u hT=>exact .t T u (tree T u h3 hT)
  |kS t u=>exact .kS t u
  |_=>simp at h3
 |_=>simp[Nk] at hf
theorem Kh{S S':bQ}:∀{wr:List (Nat×Ob)} {id:Nat},(id∈wr.map (·.1)\/S id=S' id)->app S wr id=app S' wr id
 | [],id,h=>by simpa[app] using h
 | (i,o)::wr,id,h=>by
  simp only[app];apply Kh;by_cases e:id=i
  ·subst e;right;rw[iV,iV]
  rcases h with h|h
  ·simp only[qU,qg] at h;exact .inl (h.resolve_left e)
  right;rw[eC e,eC e,h]
theorem tv{S:bQ}:∀{wr:List (Nat×Ob)} {id:Nat},id∉wr.map (·.1)->app S wr id=S id
 | [],id,_=>rfl
 | (i,o)::wr,id,h=>by
  simp only[qU,qg,not_or] at h;simp only[app];rw[tv h.2,eC h.1]
theorem T6{S:bQ}:∀{wr:List (Nat×Ob)} {id:Nat},id∈wr.map (·.1)->∃o,app S wr id=some o
 | [],id,h=>by simp at h
 | (i,o)::wr,id,h=>by
  simp only[app];by_cases hm:id∈wr.map (·.1)
  ·exact T6 hm
  simp only[qU,qg] at h;have e:=h.resolve_right hm;subst e;exact⟨o,by rw[tv hm,iV]⟩
theorem tV.Hu{ok ok':Nat->Prop}(dF:∀b,ok b->ok' b){k:Nat}{xs:List Tree}{L:Option Nat×Nat}(h:tV w ok k xs L):tV w ok' k xs L:=by
 obtain⟨a1,a2,a3,a4,a5⟩:=h;refine⟨a1,a2,a3,a4,a5.imp (fun h=>h) ?_⟩;rintro⟨b,us,e,h1,h2,h3,h4,h5⟩;exact⟨b,us,e,h1,h2,h3,h4,fun j T u p q=>(h5 j T u p q).mono dF (fun _ _ _ _ h=>h)⟩
theorem mG.tq{st':bQ}{m':Place}{ok ok':Nat->Prop}(dF:∀b,ok b->ok' b){v:MV}{u:Value}{c:Option Nat}(h:mG S m w ok v u c):mG st' m' w ok' v u c:=by
 cases v with
 |im T=>exact⟨h.1.mono dF (fun _ _ _ _ h=>h),h.2⟩
 |cp cs=>
  refine⟨?_,h.2⟩;cases h.1 with
  |ec _ b o us h1 h2 h3 h4 h5=>exact .ec cs b o us (dF _ h1) h2 h3 h4 (fun j T u a b=>(h5 j T u a b).mono dF (fun _ _ _ _ h=>h))
 |bx cs=>
  obtain⟨b,us,e,h1,h2,h3,h4,h5,h6⟩:=h;exact⟨b,us,e,h1,h2,h3,h4,h5,fun i T u p q=>(h6 i T u p q).mono dF (fun _ _ _ _ h=>h)⟩
 |rw k xs=>
  obtain⟨L,h1,h2,h3⟩:=h;exact⟨L,h1,h2,h3.Hu dF⟩
def AO:Ob->List Nat
 | .box cs=>rK cs
 | .cZ _ _ (some (_,r,_))=>[r]
 | .mp _ (some (_,v))=>lP v
 | .fG iJ _ _=>[iJ]
 |_=>[]
theorem mZ.tq{st':bQ}{m':Place}{ok ok':Nat->Prop}(dF:∀b,ok b->ok' b){o:Ob}{L:Option Nat×Nat}{g:List Nat}(h:mZ S m w ok o L g)
 (hv:∀v u,(∀i∈lP v,i∈AO o)->aO S m w ok v u->aO st' m' w ok' v u) (hm:∀iJ n s,o= .fG iJ n s->m' iJ=m iJ/\∀es hh,S iJ=some (.mp es hh)->∃es hh,st' iJ=some (.mp es hh)):mZ st' m' w ok' o L g:=by
 cases o with
 |box cs=>
  obtain⟨b,us,e,h1,h2,h3,h4⟩:=h;exact⟨b,us,e,h1,h2,h3,fun i v u p q=>⟨hv v u (fun j hj=>Ci.2 ⟨v,qr p,hj⟩) (h4 i v u p q).1,(h4 i v u p q).2⟩⟩
 |cZ fz xs hh=>
  obtain⟨⟨b,us,e,h1,h2,h3,h4⟩,q⟩:=h;refine⟨⟨b,us,e,h1,h2,h3,fun i v u p q=>⟨hv v u (fun j hj=> ?_) (h4 i v u p q).1,(h4 i v u p q).2⟩⟩,q⟩;have kC:=qr p
  match hh with
  |none=>obtain⟨T,_,rfl⟩:=qO.1 kC;simp[lP] at hj
  |some (a,r,n)=>
   rcases zl kC with kC|rfl
   ·obtain⟨T,_,rfl⟩:=qO.1 kC;simp[lP] at hj
   simpa[lP,AO] using hj
 |aF k fz xs=>exact tV.Hu dF h
 |gone=>exact h
 |fo s pos=>exact h
 |mp es hh=>
  obtain⟨b,bJ,bl,h1,h2,h3,h4,h5,h6,h7⟩:=h;refine⟨b,bJ,bl,h1,h2,h3,h4,h5,h6,fun i x e p q=> ?_⟩;obtain⟨q1,q2,q3⟩:=h7 i x e p q;refine⟨q1,q2,?_⟩
  match hh with
  |none=>exact mG.tq dF q3
  |some (k',v')=>exact⟨fun e=>⟨hv v' _ (fun j hj=>hj) (q3.1 e).1,(q3.1 e).2⟩,fun e=>(q3.2 e).tq dF⟩
 |fG iJ n seen=>
  obtain⟨b,bm,h1,h2,⟨es,hh,h3⟩,h4⟩:=h;obtain⟨e1,e2⟩:=hm iJ n seen rfl;exact⟨b,bm,h1,by rw[e1];exact h2,e2 es hh h3,h4⟩
 |ext Y pre=>exact⟨h.1,h.2.1,fun b hD=>dF b (h.2.2 b hD)⟩
theorem mZ.ext{st':bQ}{m':Place}{ok ok':Nat->Prop}(hs:∀id o,S id=some o->st' id=some o/\m' id=m id)(dF:∀b,ok b->ok' b){o:Ob}{L:Option Nat×Nat}{g:List Nat}(h:mZ S m w ok o L g):mZ st' m' w ok' o L g:=by
 refine h.tq dF (fun v u _ hv=>hv.ext hs dF) (fun iJ n s e=> ?_);subst e;obtain⟨b,bm,h1,h2,⟨es,hh,h3⟩,h4⟩:=h;exact⟨(hs _ _ h3).2,fun yU wL h'=>⟨yU,wL,(hs _ _ h').1⟩⟩
def Cj(F:eL P)(S sub:bQ)(m:Place):eL P:=⟨fun b=>F b\/∃id o,S id=some o/\o.live=true/\m.has id b/\sub id=none,fun b=>F.Gy b\/∃id o,S id=some o/\o.live=true/\m.has id b/\sub id=none/\∀x,¬F.kR b x,F.kR,fun b o h=> .inl (F.sub b o h),fun b h=>h.imp (F.sup b) (fun⟨i,o,q1,q2,q3,q4,_⟩=>⟨i,o,q1,q2,q3,q4⟩),F.tab,fun b o h hb=>hb.elim (F.Td b o h) (fun⟨_,_,_,_,_,_,hn⟩=>hn o h),F.Nd,F.BQ,F.lo⟩
theorem Ki{sub:bQ}(fc:∀id o,sub id=some o->S id=some o){b:Nat}(h:okB F S m w b):okB (Cj F S sub m) sub m w b:=by
 obtain⟨h1,h2,h3⟩:=h;refine⟨h1,fun hf=> ?_,fun id o ho hl=>h3 id o (fc id o ho) hl⟩;rcases hf with hf| ⟨id,o,ho,hl,hm,_⟩
 ·exact h2 hf
 exact h3 id o ho hl hm
theorem aY.off{sub:bQ}(hS:aY F S m w)(fc:∀id o,sub id=some o->S id=some o)(kV:∀id o,sub id=some o->∀i∈AO o,sub i=S i):
 aY (Cj F S sub m) sub m w:=by
 refine⟨fun id o ho=> ?_,fun i j oi oj b hi hj=>hS.inj i j oi oj b (fc _ _ hi) (fc _ _ hj),fun id o b ho hm hf=> ?_,fun id o b ho hm=>hS.lt id o b (fc id o ho) hm,fun b hf=> ?_,fun b o h=>hS.hold b o h⟩
 ·refine(hS.cN id o (fc id o ho)).tq (fun b hb=>Ki fc hb) (fun v u k7 hv=>hv.restrict (fun b hb=>Ki fc hb) (fun i hi=>kV id o ho i (k7 i hi))) (fun iJ n s e=>⟨rfl,fun es hh h=>⟨es,hh,?_⟩⟩);subst e;rw[kV id _ ho iJ (by simp[AO])];exact h
 ·rcases hf with hf| ⟨i,oi,hi,hl,nG,hn⟩
  ·exact hS.eD id o b (fc id o ho) hm hf
  have:=hS.inj id i _ _ b (fc id o ho) hi hm nG;subst this;rw[ho] at hn;cases hn
 rcases hf with hf| ⟨i,oi,hi,hl,hm,_⟩
 ·exact hS.low b hf
 exact hS.lt i oi b hi hm
theorem T7{sub:bQ}{wr:List (Nat×Ob)}{m1:Place}{w':World}{res:aJ}{v:Value}(hS:aY F S m w)(fc:∀id o,sub id=some o->S id=some o)
 (Hv:∀id∈wr.map (·.1),sub id=S id) (h1:aY (Cj F S sub m) (app sub wr) m1 w') (h2:aK (Cj F S sub m) sub m w (app sub wr) m1 w')
 (h3:aO (app sub wr) m1 w' (okB (Cj F S sub m) (app sub wr) m1 w') res v):
 ∃m2,aY F (app S wr) m2 w'/\aK F S m w (app S wr) m2 w'/\aO (app S wr) m2 w' (okB F (app S wr) m2 w') res v:=by
 let m2:Place:=⟨fun id=>if(app sub wr id).isSome then m1 id else m id,fun id=>if(app sub wr id).isSome then m1.g id else m.g id⟩
 have u6:∀id o,app sub wr id=some o->m2 id=m1 id:=fun id o h=>by simp[m2,h]
 have nI:∀id,app sub wr id=none->m2 id=m id:=fun id h=>by simp[m2,h]
 have Hw:∀id o,app sub wr id=some o->m2.g id=m1.g id:=fun id o h=>by simp[m2,h]
 have Ck:∀id,app sub wr id=none->m2.g id=m.g id:=fun id h=>by simp[m2,h]
 have sA:∀id o b,app sub wr id=some o->(m2.has id b↔m1.has id b):=fun id o b h=>by unfold Place.has;rw[u6 id o h,Hw id o h]
 have nM:∀id b,app sub wr id=none->(m2.has id b↔m.has id b):=fun id b h=>by unfold Place.has;rw[nI id h,Ck id h]
 have Kj:∀id o,app sub wr id=some o->app S wr id=some o:=by
  intro id o h;by_cases hm:id∈wr.map (·.1)
  ·rw[<-h];exact Kh (.inl hm)
  rw[tv hm] at h|-;exact fc id o h
 have jM:∀id,app sub wr id=none->app S wr id=S id/\sub id=none:=by
  intro id h;have hm:id∉wr.map (·.1):=fun hm=>by obtain⟨o,ho⟩:=T6 (S:=sub) hm;rw[h] at ho;cases ho
  rw[tv hm] at h;exact⟨tv hm,h⟩
 have hF:aK F S m w (app S wr) m2 w':=by
  refine⟨h2.os,h2.tape,h2.output,h2.size,fun b hb hf=> ?_,fun id o ho=> ?_,fun id o ho hn b hb=> ?_⟩
  ·refine h2.block b hb ?_;rcases hf with hf|hf
   ·exact .inl (.inl hf)
   exact .inr fun id o ho hl=>hf id o (fc id o ho) hl
  ·cases hs:sub id with
   |some o'=>
    have:=fc id o' hs;rw[ho] at this;cases this;obtain⟨o1,k1,k2,k3,k4,k5,k6⟩:=h2.bW id o hs;exact⟨o1,Kj id o1 k1,k2,fun e=>by rw[u6 id o1 k1];exact k3 e,k4,fun b hb=>(k5 b ((sA id o1 b k1).1 hb)).imp (fun h=>h) (fun h=>h.imp (fun h=>h) (fun⟨i,oi,q1,q2,q3⟩=>⟨i,oi,fc i oi q1,q2,q3⟩)),k6⟩
   |none=>
    have hm:id∉wr.map (·.1):=fun hm=>by have:=Hv id hm;rw[hs,ho] at this;cases this
    have hn:app sub wr id=none:=by rw[tv hm];exact hs
    exact⟨o,by rw[tv hm];exact ho,qp _,fun _=>nI id hn,fun h=>h,fun b hb=> .inl ((nM id b hn).1 hb),o.dw⟩
  cases hs:app sub wr id with
  |some o1=>
   have rP:sub id=none:=by
    cases hh:sub id with
    |none=>rfl
    |some o'=>have:=fc id o' hh;rw[hn] at this;cases this
   rw[sA id o1 b hs] at hb;exact(h2.new id o1 hs rP b hb).imp (fun h=>h) (fun⟨i,oi,q1,q2,q3⟩=>⟨i,oi,fc i oi q1,q2,q3⟩)
  |none=>
   have:=(jM id hs).1;rw[ho,hn] at this;cases this
 have dF:∀b,okB (Cj F S sub m) (app sub wr) m1 w' b->okB F (app S wr) m2 w' b:=by
  rintro b ⟨b1,b2,b3⟩;refine⟨b1,fun hf=>b2 (.inl hf),fun id o ho hl hm=> ?_⟩;cases hs:app sub wr id with
  |some o1=>
   have:=Kj id o1 hs;rw[ho] at this;cases this;rw[sA id o b hs] at hm;exact b3 id o hs hl hm
  |none=>
   have hr:=jM id hs;rw[hr.1] at ho;rw[nM id b hs] at hm;exact b2 (.inr ⟨id,o,ho,hl,hm,hr.2,fun x hx=>hS.eD id o b ho hm (F.sub b x hx)⟩)
 have xJ:∀id o,app sub wr id=some o->app S wr id=some o/\m2 id=m1 id:=fun id o h=>⟨Kj id o h,u6 id o h⟩
 refine⟨m2,⟨fun id o ho=> ?_,fun i j oi oj b hi hj uw wN=> ?_,fun id o b ho hm hf=> ?_,fun id o b ho hm=> ?_,fun b hf=>zu (hS.low b hf) h2.size,hS.held hF⟩,hF,h3.ext xJ dF⟩
 ·cases hs:app sub wr id with
  |some o1=>
   have:=Kj id o1 hs;rw[ho] at this;cases this;rw[u6 id o hs,Hw id o hs];exact(h1.cN id o hs).ext xJ dF
  |none=>
   have hr:=jM id hs;rw[hr.1] at ho;rw[nI id hs,Ck id hs];refine(hS.cN id o ho).cF hF (fun b hb=> ?_);refine h2.block b (hS.lt id o b ho hb) (.inr fun i oi hi hl uw=> ?_);have:=hS.inj id i _ _ b ho (fc i oi hi) hb uw;subst this;rw[hr.2] at hi;cases hi
 ·have mixed:∀i j oi oj,app S wr i=some oi->app S wr j=some oj->m2.has i b->m2.has j b->∀o1,app sub wr i=some o1->app sub wr j=none->i=j:=by
   intro i j oi oj hi hj uw wN o1 rR cK;have hr:=jM j cK;rw[hr.1] at hj;rw[nM j b cK] at wN;rw[sA i o1 b rR] at uw;have fQ:=hS.lt j oj b hj wN;cases Ov:sub i with
   |some o0=>
    obtain⟨_,_,_,_,_,k5,_⟩:=h2.bW i o0 Ov;rcases k5 b uw with k5|k5| ⟨i',yP,q1,q2,q3⟩
    ·exact hS.inj i j _ _ b (fc i o0 Ov) hj k5 wN
    ·omega
    have:=hS.inj i' j _ _ b (fc i' yP q1) hj q3 wN;subst this;rw[hr.2] at q1;cases q1
   |none=>
    rcases h2.new i o1 rR Ov b uw with q| ⟨i',yP,q1,q2,q3⟩
    ·omega
    have:=hS.inj i' j _ _ b (fc i' yP q1) hj q3 wN;subst this;rw[hr.2] at q1;cases q1
  cases rR:app sub wr i with
  |some o1=>
   cases cK:app sub wr j with
   |some o2=>
    rw[sA i o1 b rR] at uw;rw[sA j o2 b cK] at wN;exact h1.inj i j o1 o2 b rR cK uw wN
   |none=>exact mixed i j oi oj hi hj uw wN o1 rR cK
  |none=>
   cases cK:app sub wr j with
   |some o2=>exact(mixed j i oj oi hj hi wN uw o2 cK rR).symm
   |none=>
    rw[(jM i rR).1] at hi;rw[(jM j cK).1] at hj;rw[nM i b rR] at uw;rw[nM j b cK] at wN;exact hS.inj i j oi oj b hi hj uw wN
 ·cases hs:app sub wr id with
  |some o1=>
   rw[sA id o1 b hs] at hm;exact h1.eD id o1 b hs hm (.inl hf)
  |none=>
   rw[(jM id hs).1] at ho;rw[nM id b hs] at hm;exact hS.eD id o b ho hm hf
 cases hs:app sub wr id with
 |some o1=>
  rw[sA id o1 b hs] at hm;exact h1.lt id o1 b hs hm
 |none=>
  rw[(jM id hs).1] at ho;rw[nM id b hs] at hm;exact zu (hS.lt id o b ho hm) h2.size
def w2r(P:Program)(F:eL P)(S:bQ)(m:Place)(w:World)(wr:List (Nat×Ob))(val:aJ)(f:FuncId)(args:Array Value):Prop:=
 Calls P f args w fun e w'=> ∃v m',e= .returned v/\aY F (app S wr) m' w'/\aK F S m w (app S wr) m' w'/\aO (app S wr) m' w' (okB F (app S wr) m' w') val v
theorem T8:∀{l:List Nat} {r:List (Nat×Ob)},ET st l=some r->r.map (·.1)=l/\∀x∈r,st x.1=some x.2
 | [],r,h=>by simp[ET] at h;subst h;simp
 |i::l,r,h=>by
  simp only[ET] at h;split at h
  ·rename_i o r' h1 h2;simp only[qb] at h;subst h;obtain⟨a,b⟩:=T8 h2;refine⟨by simp[a],fun x hx=> ?_⟩;rcases qg.1 hx with rfl|hx
   ·exact h1
   exact b x hx
  cases h
theorem T9:∀{l:List (Nat×Ob)} {S:bQ} {i:Nat},(∀x∈l,st x.1=some x.2)->(S i=st i\/i∈l.map (·.1))->app S l i=st i
 | [],S,i,h,h'=>by
  rcases h' with h'|h'
  ·exact h'
  simp at h'
 | (j,o)::l,S,i,h,h'=>by
  simp only[app];refine T9 (fun x hx=>h x (qR _ hx)) ?_;by_cases e:i=j
  ·subst e;left;simp[bO];exact(h (i,o) sM).symm
  rcases h' with h'|h'
  ·left;simp only[bO,kQ e,cond_false];exact h'
  right;simpa[e] using h'
theorem x0e{l:List Nat}{r:List (Nat×Ob)}(h:ET st l=some r):only st l=app emp r:=by
 obtain⟨a,b⟩:=T8 h;funext i;by_cases hi:lN l i=true
 ·rw[T9 b (.inr (by rw[a];exact pS.1 hi))];simp[only,hi]
 have oq:i∉r.map (·.1):=by rw[a];exact fun h=>hi (pS.2 h)
 rw[tv oq];simp[only,zK _▸hi,emp]
theorem y5c{f:FuncId}{jw:List aJ}{bf:Nat}{c:nc}{δ:Dl}(h:EU P f jw st bf c=some δ)(hc:b8 δ.jW)(bH:∀id o,st id=some o->S id=some o)(sB:∀id∈c.need,st id=S id)
 (hS:aY F S m w) (eP:∀id,bf<=id->id<bf+8->S id=none) {us:List Value} (hl:us.length=jw.length)
 (hr:∀(i:Nat) (v:aJ) (u:Value),jw[i]? =some v->us[i]? =some u->aO S m w (okB F S m w) v u):td P f=true/\w2r P F S m w δ.wr δ.val f us.toArray:=by
 have h3:c.mode=3\/c.mode≠3:=oM;have red:∃c':nc,c'.mode≠3/\c'.need=c.need/\∃δ',EU P f jw st bf c'=some δ'/\b8 δ'.jW/\δ'.wr=δ.wr/\δ'.val=δ.val:=by
  rcases h3 with h3|h3
  ·refine⟨⟨2,c.need,c.res,c.wr⟩,(fun hh=>by cases hh),rfl,?_⟩;unfold EU at h;rw[h3] at h;simp only at h;split at h
   ·rename_i l hl;obtain⟨bY,h⟩:=gL h;simp only[qb] at h;subst h;refine⟨⟨c.res,c.wr,[td P f=true,FC P f jw (only st c.need) c.res (app (only st c.need) c.wr)]⟩,?_,?_,rfl,rfl⟩
    ·unfold EU;simp only;rw[bY];rfl
    rw[x0e hl];exact hc
   cases h
  exact⟨c,h3,rfl,δ,h,hc,rfl,rfl⟩
 obtain⟨c,hm3,nN,δ',h,hc,ew,ev⟩:=red;rw[<-ew,<-ev]
 replace sB:∀id∈c.need,st id=S id:=by rw[nN];exact sB
 clear nN ew ev;unfold EU at h;split at h
 ·split at h;rotate_left
  ·cases h
  rename_i vs g p rP;obtain⟨bY,h⟩:=gL h;simp only[qq] at bY;simp only[qb] at h;subst h;simp only[b8] at hc;rw[rO] at hc;simp only[b8] at hc;obtain⟨jq,hp,Hy,-⟩:=hc;refine⟨jq,?_⟩;obtain⟨q1,q2,q3⟩:=G6 bH hS rP hp hl hr;obtain⟨r1,r2,r3,r4⟩:=z17 g S hS q2;have k7:rK vs=[]:=by simpa using bY.2
  have Ow:aY F emp m w:=⟨fun id o h=>(by cases h),fun i j oi oj b h=>(by cases h),fun id o b h=>(by cases h),fun id o b h=>(by cases h),hS.low,hS.hold⟩
  refine(Hy F m w us Ow q1.symm (fun i v u hv hu=> ?_)).mono ?_
  ·refine(q3 g q2 (fun x hx=>hx) i v u hv hu).restrict (fun b hb=>⟨hb.1,hb.2.1,fun id o h=>by cases h⟩) (fun id bn=> ?_);have:id∈rK vs:=Ci.2 ⟨v,qr hv,bn⟩;rw[k7] at this;cases this
  rintro e w' ⟨v,m',he,h1,h2,h3⟩;have gh:∀b,b<w.heap.size->w'.heap[b]? =w.heap[b]? :=fun b hb=>h2.block b hb (.inr fun id o h=>by cases h)
  have hF:aK F S m w S m w':=⟨h2.os,h2.tape,h2.output,h2.size,fun b hb _=>gh b hb,fun id o h=>⟨o,h,qp _,fun _=>rfl,fun h=>h,fun _ q=> .inl q,o.dw⟩,fun id o h h'=>by rw[h'] at h;cases h⟩
  exact⟨v,m,he,⟨fun id o ho=>(hS.cN id o ho).cF hF (fun b hb=>gh b (hS.lt id o b ho hb)),hS.inj,hS.eD,fun id o b ho hm=>zu (hS.lt id o b ho hm) h2.size,fun b hb=>zu (hS.low b hb) h2.size,hS.held hF⟩,hF,T4 bY.1 h3⟩
 ·split at h;rotate_left
  ·cases h
  rename_i vs g p rP;obtain⟨bY,h⟩:=gL h;simp only[qq] at bY;simp only[qb] at h;subst h;simp only[b8] at hc;rw[rO] at hc;simp only[b8] at hc;obtain⟨jq,hp,Hy,-⟩:=hc;refine⟨jq,?_⟩;obtain⟨q1,q2,q3⟩:=G6 bH hS rP hp hl hr;obtain⟨r1,r2,r3,r4⟩:=z17 g S hS q2;have k7:rK vs=[]:=by simpa using bY.2
  have fc:∀id o,emp id=some o->app S g id=some o:=fun id o h=>by cases h
  have AH:∀id∈c.wr.map (·.1),S id=none:=by
   intro id bn;obtain⟨x,hx,rfl⟩:=qO.1 bn;have:=qS.1 bY.1 x hx;simp only[qq] at this;exact eP x.1 (qy this.1) (ze (qy this.2))
  refine(Hy (Cj F (app S g) emp m) m w us (r1.off fc (fun id o h=>by cases h)) q1.symm (fun i v u hv hu=> ?_)).mono ?_
  ·refine(q3 g q2 (fun x hx=>hx) i v u hv hu).restrict (fun b hb=>Ki fc hb) (fun id bn=> ?_);have:id∈rK vs:=Ci.2 ⟨v,qr hv,bn⟩;rw[k7] at this;cases this
  rintro e w' ⟨v,m',he,h1,h2,h3⟩;obtain⟨m2,k1,k2,k3⟩:=T7 r1 fc (fun id bn=>by
   have h0:=AH id bn;have:id∉g.map (·.1):=fun hm=>by
    obtain⟨x,hx,rfl⟩:=qO.1 hm;obtain⟨k,fz,xs,hk,_⟩:=q2 x.1 x.2 hx;rw[h0] at hk;cases hk
   rw[r4 id this,h0];rfl) h1 h2 h3
  exact⟨v,m2,he,by rw[B0];exact k1,by rw[B0];exact r2.trans hS k2,by rw[B0];exact k3⟩
 ·rename_i hh;exact absurd hh hm3
 obtain⟨bY,h⟩:=gL h;simp only[qq] at bY;simp only[qb] at h;subst h;simp only[b8] at hc;obtain⟨jq,Hy,-⟩:=hc;refine⟨jq,?_⟩;have fc:∀id o,only st c.need id=some o->S id=some o:=fun id o h=>bH id o (NS h).1
 have kC:∀id,lN c.need id=true->only st c.need id=S id:=fun id h=>by rw[Tp (pS.1 h)];exact sB id (pS.1 h)
 have kV:∀id o,only st c.need id=some o->∀i∈AO o,only st c.need i=S i:=by
  intro id o h i hi;obtain⟨h1,h2⟩:=NS h;have:=qS.1 bY.2 id h2;rw[h1] at this;cases o with
  |box cs=>exact kC i (qS.1 this i hi)
  |fG iJ n s=>simp only[AO,qv] at hi;subst hi;exact kC _ this
  |cZ fz xs hh=>cases hh<;>first| (simp[AO] at hi;done)|cases this
  |mp es hh=>cases hh<;>first| (simp[AO] at hi;done)|cases this
  |_=>simp[AO] at hi
 refine(Hy (Cj F S (only st c.need) m) m w us (hS.off fc kV) hl (fun i v u hv hu=> ?_)).mono ?_
 ·refine(hr i v u hv hu).restrict (fun b hb=>Ki fc hb) (fun id bn=> ?_);exact kC id (qS.1 bY.1.2 id (Ci.2 ⟨v,qr hv,bn⟩))
 rintro e w' ⟨v,m',he,h1,h2,h3⟩;obtain⟨m2,k1,k2,k3⟩:=T7 hS fc (fun id bn=>by
  obtain⟨x,hx,rfl⟩:=qO.1 bn;have:=qS.1 bY.1.1 x hx;simp only[qM,qq] at this;rcases this with h|h
  ·exact kC x.1 h
  have h0:=eP x.1 (qy h.1) (ze (qy h.2));rw[h0];cases hh:only st c.need x.1 with
  |none=>rfl
  |some o=>have:=fc _ _ hh;rw[h0] at this;cases this) h1 h2 h3
 exact⟨v,m2,he,k1,k2,k3⟩
theorem GJ.mono{P:Program}{u:Value}{args:Array Value}{w:World}{R R':Ending->World->Prop}(h:GJ P u args w R)(hr:∀e w',R e w'->R' e w'):GJ P u args w R':=by
 obtain⟨t,cap,nx,h1,h2,h3⟩:=h;refine⟨t,cap,nx,h1,h2,?_⟩;cases nx<;>first|exact h3|exact CallsIn.mono h3 hr|exact RoundIn.mono h3 hr
theorem x0f{w w':World}{ok ok':Nat->Prop}{T:Tree}{u:Value}(hT:T.free=true)(h:cr w ok T u):cr w' ok' T u:=by
 have:=T4 (st':=fun _=>none) (m':=⟨fun _=>(none,0),fun _=>[]⟩) (w':=w') (ok':=ok') (S:=fun _=>none) (m:=⟨fun _=>(none,0),fun _=>[]⟩) (v:= .t T) hT (.t T u h);cases this with
 |t _ _ h=>exact h
theorem x3E{id:Nat}{Y:nF}{pre pre':List (List Tree)}{w':World}{g':List Nat}(hS:aY F S m w)(bn:S id=some (.ext Y pre))(Dj:w'.os=w.os)(nH:w'.tape=w.tape)(nI:w'.output=w.output)
 (fV:w.heap.size<=w'.heap.size) (hb:∀b,b<w.heap.size->b∉m.g id->w'.heap[b]? =w.heap[b]?) (Dw:∀b∈g',b∈m.g id\/(w.heap.size<=b/\b<w'.heap.size)) (hh:Y.holds pre' g' w'):
 aY F (bO S id (.ext Y pre')) ⟨m.f,fun j=>if j=id then g' else m.g j⟩ w'/\aK F S m w (bO S id (.ext Y pre')) ⟨m.f,fun j=>if j=id then g' else m.g j⟩ w':=by
 have hO:=hS.cN id _ bn;have jN:∀b,(Place.mk m.f (fun j=>if j=id then g' else m.g j)).has id b↔b∈g':=fun b=>by
  unfold Place.has;simp only[if_true];rw[show(m.f id).1=none from hO.1];simp
 have dh:∀i b,i≠id->((Place.mk m.f (fun j=>if j=id then g' else m.g j)).has i b↔m.has i b):=fun i b e=>by
  unfold Place.has;simp only[if_neg e]
 have sC:∀b,b∈m.g id->m.has id b:=fun b h=> .inr h
 have hF:aK F S m w (bO S id (.ext Y pre')) ⟨m.f,fun j=>if j=id then g' else m.g j⟩ w':=by
  refine⟨Dj,nH,nI,fV,fun b fQ hf=>hb b fQ (fun hg=> ?_),fun i o ho=> ?_,fun i o ho hn=> ?_⟩
  ·rcases hf with hf|hf
   ·exact hS.eD id _ b bn (sC b hg) hf
   exact hf id _ bn rfl (sC b hg)
  ·by_cases e:i=id
   ·subst e;rw[bn] at ho;cases ho;refine⟨_,iV _ _ _,qp _,fun _=>rfl,(fun h=>by cases h),fun b q=> ?_,rfl⟩;rcases Dw b ((jN b).1 q) with q|q
    ·exact .inl (sC b q)
    exact .inr (.inl q.1)
   exact⟨o,by rw[eC e];exact ho,qp _,fun _=>rfl,fun h=>h,fun b q=> .inl ((dh i b e).1 q),o.dw⟩
  by_cases e:i=id
  ·subst e;rw[bn] at hn;cases hn
  rw[eC e] at ho;rw[ho] at hn;cases hn
 have old:∀i o,i≠id->bO S id (.ext Y pre') i=some o->S i=some o:=fun i o e h=>by rwa [eC e] at h
 refine⟨⟨fun i o ho=> ?_,fun i j oi oj b hi hj h1 h2=> ?_,fun i o b ho hm hf=> ?_,fun i o b ho hm=> ?_,fun b h=>zu (hS.low b h) fV,hS.held hF⟩,hF⟩
 ·by_cases e:i=id
  ·subst e;rw[iV] at ho;cases ho;refine⟨hO.1,?_,fun b hD=>hF.ok (hO.2.2 b hD)⟩;simp only[if_true];exact hh
  have ho:=old i o e ho;show mZ _ _ _ _ o (m.f i) ((fun j=>if j=id then g' else m.g j) i);simp only[if_neg e];refine(hS.cN i o ho).cF hF (fun b uw=>hb b (hS.lt i o b ho uw) (fun hg=>e (hS.inj i id _ _ b ho bn uw (sC b hg))))
 ·by_cases e1:i=id<;>by_cases e2:j=id
  ·rw[e1,e2]
  ·exfalso;have lQ:=old j oj e2 hj;have rS:=(dh j b e2).1 h2;rw[e1] at h1;rcases Dw b ((jN b).1 h1) with q|q
   ·exact e2 (hS.inj j id _ _ b lQ bn rS (sC b q))
   have:=hS.lt j _ b lQ rS;omega
  ·exfalso;have oq:=old i oi e1 hi;have th:=(dh i b e1).1 h1;rw[e2] at h2;rcases Dw b ((jN b).1 h2) with q|q
   ·exact e1 (hS.inj i id _ _ b oq bn th (sC b q))
   have:=hS.lt i _ b oq th;omega
  exact hS.inj i j _ _ b (old i oi e1 hi) (old j oj e2 hj) ((dh i b e1).1 h1) ((dh j b e2).1 h2)
 ·by_cases e:i=id
  ·subst e;rcases Dw b ((jN b).1 hm) with q|q
   ·exact hS.eD i _ b bn (sC b q) hf
   have:=hS.low b hf;omega
  exact hS.eD i o b (old i o e ho) ((dh i b e).1 hm) hf
 by_cases e:i=id
 ·subst e;rcases Dw b ((jN b).1 hm) with q|q
  ·have:=hS.lt i _ b bn (sC b q);omega
  exact q.2
 have:=hS.lt i o b (old i o e ho) ((dh i b e).1 hm);omega
theorem y3v{id:Nat}{jw:List aJ}{δ:Dl}(h:NQ P id jw st=some δ)(hc:b8 δ.jW)(bH:∀id o,st id=some o->S id=some o)(hS:aY F S m w){us:List Value}(hl:us.length=jw.length)
 (hr:∀(i:Nat) (v:aJ) (u:Value),jw[i]? =some v->us[i]? =some u->aO S m w (okB F S m w) v u) {uf:Value} (hf:aO S m w (okB F S m w) (.yl id) uf):
 GJ P uf us.toArray w (fun e w'=> ∃v m',e= .returned v/\aY F (app S δ.wr) m' w'/\aK F S m w (app S δ.wr) m' w'/\aO (app S δ.wr) m' w' (okB F (app S δ.wr) m' w') δ.val v):=by
 unfold NQ at h;split at h;rotate_left
 ·cases h
 rename_i Y pre xs h1 h2;obtain⟨Hz,h⟩:=gL h;simp only[qb] at h;subst h;have bn:=bH id _ h1;cases hf with
 |yl _ Y' pre' hs=>
 rw[bn] at hs;cases hs;obtain⟨hY,hA,-⟩:=hc;have hO:=hS.cN id _ bn;have hx:=GV h2;subst hx;refine(hY pre xs us (m.g id) w hA hO.2.1 (fun b hb=>hS.lt id _ b bn (.inr hb)) (by simpa using hl) (fun i x u hx hu=> ?_)).mono ?_
 ·have:=hr i (.t x) u (by rw[zj,hx];rfl) hu;cases this with
  |t _ _ hT=>exact x0f (qS.1 Hz x (qr hx)) hT
 rintro e w' ⟨rfl,k1,k2,k3,k4,k5,g',g1,g2,k6⟩;obtain⟨q1,q2⟩:=x3E (pre':=pre++[xs]) hS bn k1 k2 k3 k4 k5 g2 k6;exact⟨_,_,rfl,q1,q2,.t _ _ (.sc _ rfl)⟩
end Go.Ab
end
section
namespace Go.Ab
variable {P:Program} {w:World} {F:eL P} {S st:bQ} {m:Place}
theorem y0N(n:Nat)(X:Tree):dL (List.replicate n X)=fW X.cells n:=by
 induction n with
 |zero=>rfl
 |succ n ih=>simp[qH,dL,fW,ih]
theorem Ua(hS:aY F S m w){id bf:Nat}{o o':Ob}(bn:S id=some o)(hn:S bf=none)(uY:o.live=true)(jN:o.same .gone)(hlen:o.len<18446744073709551616)
 (bR:aK F S m w (bO (bO S id .gone) bf o') (place (place m id (none,0)) bf (m id)) w->mZ (bO (bO S id .gone) bf o') (place (place m id (none,0)) bf (m id)) w (okB F (bO (bO S id .gone) bf o') (place (place m id (none,0)) bf (m id)) w) o' (m id) []):
 aY F (bO (bO S id .gone) bf o') (place (place m id (none,0)) bf (m id)) w/\aK F S m w (bO (bO S id .gone) bf o') (place (place m id (none,0)) bf (m id)) w:=by
 have dh:id≠bf:=fun e=>by subst e;rw[hn] at bn;cases bn
 have Cl:∀b,¬(place (place m id (none,0)) bf (m id)).has id b:=fun b hb=>by
  rw[mj dh,rL] at hb;cases hb
 have hF:aK F S m w (bO (bO S id .gone) bf o') (place (place m id (none,0)) bf (m id)) w:=by
  refine⟨rfl,rfl,rfl,qp _,fun _ _ _=>rfl,fun i oi ho=> ?_,fun i oi ho o9 b hb=> ?_⟩
  ·have u6:i≠bf:=fun e=>by subst e;rw[hn] at ho;cases ho
   by_cases e:i=id
   ·subst e;rw[bn] at ho;cases ho;exact⟨.gone,by rw[eC u6,iV],Nat.le_of_lt hlen,fun e=>absurd e (Nat.ne_of_lt hlen),fun _=>rfl,fun b hb=>absurd hb (Cl b),jN⟩
   exact⟨oi,by rw[eC u6,eC e];exact ho,qp _,fun _=>by rw[vN u6,vN e],fun h=>h,fun b hb=> .inl (by rwa [mj u6,mj e] at hb),oi.dw⟩
  by_cases e:i=bf
  ·subst e;rw[rL] at hb;exact .inr ⟨id,_,bn,uY,.inl hb⟩
  rw[eC e] at ho;by_cases e2:i=id
  ·subst e2;rw[bn] at o9;cases o9
  rw[eC e2] at ho;rw[ho] at o9;cases o9
 have key:∀i oi b,bO (bO S id .gone) bf o' i=some oi->(place (place m id (none,0)) bf (m id)).has i b->∃i0 o0,S i0=some o0/\m.has i0 b/\((i=bf/\i0=id)\/(i≠bf/\i≠id/\i0=i)):=by
  intro i oi b hi hb;by_cases e:i=bf
  ·subst e;rw[rL] at hb;exact⟨id,_,bn,.inl hb,.inl ⟨rfl,rfl⟩⟩
  rw[eC e] at hi;by_cases e2:i=id
  ·subst e2;exact absurd hb (Cl b)
  rw[eC e2] at hi;rw[mj e,mj e2] at hb;exact⟨i,oi,hi,hb,.inr ⟨e,e2,rfl⟩⟩
 refine⟨⟨fun i oi ho=> ?_,fun i i' oi yP b hi oq h1 h2=> ?_,fun i oi b ho hb=> ?_,fun i oi b ho hb=> ?_,hS.low,hS.hold⟩,hF⟩
 ·by_cases e:i=bf
  ·subst e;rw[iV] at ho;cases ho;rw[o8,z23];exact bR hF
  rw[eC e] at ho;rw[vN e,EZ e];by_cases e2:i=id
  ·subst e2;rw[iV] at ho;cases ho;rw[o8];exact rfl
  rw[eC e2] at ho;rw[vN e2,EZ e2];exact(hS.cN i oi ho).cF hF (fun b _=>rfl)
 ·obtain⟨i0,o0,q1,q2,q3⟩:=key i oi b hi h1;obtain⟨i1,o1,r1,r2,r3⟩:=key i' yP b oq h2;have:=hS.inj i0 i1 _ _ b q1 r1 q2 r2;rcases q3 with⟨rfl,rfl⟩| ⟨q3,q4,rfl⟩<;>rcases r3 with⟨rfl,rfl⟩| ⟨r3,r4,rfl⟩
  ·rfl
  ·exact absurd this.symm r4
  ·exact absurd this q4
  exact this
 ·obtain⟨i0,o0,q1,q2,_⟩:=key i oi b ho hb;exact hS.eD i0 _ b q1 q2
 obtain⟨i0,o0,q1,q2,_⟩:=key i oi b ho hb;exact hS.lt i0 _ b q1 q2
theorem Ub(hS:aY F S m w){id bf k j:Nat}{xs:List Tree}(bn:S id=some (.aF k false xs))(hn:S bf=none)(hj:j<=xs.length):
 aY F (bO (bO S id .gone) bf (.aF k false (xs.take j))) (place (place m id (none,0)) bf (m id)) w/\aK F S m w (bO (bO S id .gone) bf (.aF k false (xs.take j))) (place (place m id (none,0)) bf (m id)) w:=by
 obtain⟨a1,a2,a3,a4,a5⟩:=hS.cN id _ bn;refine Ua hS bn hn rfl trivial (by simp only[Ob.len];simp only[maxLen] at a4;omega) (fun hF=> ?_);refine⟨a1,fun x hx=>a2 x (qF hx),by rw[qz];omega,a4,a5.imp (fun h=>h) ?_⟩;rintro⟨b,us,e,h1,h2,h3,h4,h5⟩;refine⟨b,us,e,h1,h2,h3,h4,fun q T u p r=> ?_⟩;rw[G7 a2,qB] at p;split at p
 ·exact hF.tree (h5 q T u p r)
 cases p
theorem y3w{t:TypeId}{x:aJ}{lo hi mx:Option aJ}{bf:Nat}{δ:Dl}(h:JW P t x lo hi mx st bf=some δ)(hc:b8 δ.jW)(bH:∀id o,st id=some o->S id=some o)(hS:aY F S m w)(vU:S bf=none)
 {ux:Value} {vR vS:Option Value} (hx:aO S m w (okB F S m w) x ux) (BZ:lo=none->vR=none) (J7:∀v,lo=some v->∃u,vR=some u/\aO S m w (okB F S m w) v u)
 (J8:hi=none->vS=none) (E4:∀v,hi=some v->∃u,vS=some u/\aO S m w (okB F S m w) v u):
 mx=none/\iL F S m w δ.wr δ.val ((Instr.sliceAt t ux vR vS none).run P w):=by
 unfold JW at h;split at h
 ·rename_i l h1 h2;refine⟨rfl,?_⟩;obtain⟨ql,rfl,e1⟩:=E2 h1 BZ J7;obtain⟨qh,rfl,e2⟩:=E2 h2 J8 E4;split at h;rotate_left
  ·cases h
  rename_i e id n hu;split at h;rotate_left
  ·cases h
  rename_i k fz xs hs;obtain⟨hz,h⟩:=gL h;have hz:=BY hz;have:=fS h;subst this;simp only[b8] at hc;obtain⟨hn,c1,c2,-⟩:=hc;have cK:=bH id _ hs;cases hx with
  |fH _ _ L b9=>rw[cK] at b9;cases b9
  |aF _ _ k' iU xs' L b9 tg fu=>
   rw[cK] at b9;cases b9;have hL:=fu hn;obtain⟨a1,a2,a3,a4,a5⟩:=hS.cN id _ cK;rw[hL] at a3 a5;refine iL.same hS ⟨BO L k n l.toNat,?_,.tail id n l.toNat k fz xs L cK tg oM fu⟩;obtain⟨⟨k1,l1⟩,rfl,rfl⟩:∃p:IntKind×Int,ql=some p/\p.2=l:=by
    cases ql with
    |none=>cases e1
    |some p=>exact⟨p,rfl,by simpa using e1.symm⟩
   obtain rfl:qh=none:=by cases qh with|none=>rfl|some p=>cases e2
   have hb:=G8 (P:=P) (w:=w) true n L.2 oM (some (k1,l1)) none l1 (n:Int) rfl rfl c1 c2 oM;have pW:(Instr.sliceBounds true n L.2 (some (.int k1 l1)) none none).run P w= .ok (l1.toNat,n,L.2) w:=by simpa using hb
   rw[E3 hu];obtain⟨L1,L2⟩:=L;cases L1 with
   |none=>simp[Instr.slice,run_underlying hu,pW,lD hz,ia,BO]
   |some b=>
    simp[Instr.slice,run_underlying hu,pW,lD hz,ia,BO,rM]
 ·rename_i l h1 h2;refine⟨rfl,?_⟩;obtain⟨ql,rfl,e1⟩:=E2 h1 BZ J7;obtain⟨qh,rfl,e2⟩:=E2 h2 J8 E4;split at h;rotate_left
  ·cases h
  rename_i e id n hu;split at h;rotate_left
  ·cases h
  rename_i k xs hs;obtain⟨hz,h⟩:=gL h;have hz:=BY hz;simp only[qb] at h;subst h;simp only[b8] at hc;obtain⟨hn,c1,c2,-⟩:=hc;have cK:=bH id _ hs;have dh:id≠bf:=fun e=>by subst e;rw[vU] at cK;cases cK
  cases hx with
  |fH _ _ L b9=>rw[cK] at b9;cases b9
  |aF _ _ k' iU xs' L b9 tg fu=>
   rw[cK] at b9;cases b9;have hL:=fu hn;obtain⟨a1,a2,a3,a4,a5⟩:=hS.cN id _ cK;rw[hL] at a3 a5;obtain⟨r1,r2⟩:=Ub hS cK vU (show l.toNat<=xs.length by omega);obtain rfl:ql=none:=by cases ql with|none=>rfl|some p=>cases e1
   obtain⟨⟨k1,l1⟩,rfl,rfl⟩:∃p:IntKind×Int,qh=some p/\p.2=l:=by
    cases qh with
    |none=>cases e2
    |some p=>exact⟨p,rfl,by simpa using e2.symm⟩
   have hb:=G8 (P:=P) (w:=w) true n L.2 oM none (some (k1,l1)) 0 l1 rfl rfl oM c1 oM;have pW:(Instr.sliceBounds true n L.2 none (some (.int k1 l1)) none).run P w= .ok (0,l1.toNat,L.2) w:=by simpa using hb
   refine⟨ia L l1.toNat,w,_,?_,r1,r2,?_⟩
   ·rw[E3 hu];obtain⟨L1,L2⟩:=L;cases L1 with
    |none=>simp[Instr.slice,run_underlying hu,pW,lD hz,ia]
    |some b=>
     simp[Instr.slice,run_underlying hu,pW,lD hz,ia,Addr.add]
   refine .aF bf l1.toNat k false (xs.take l1.toNat) L (iV _ _ _) (by simp;omega) (fun _=> ?_);rw[o8];exact hL
 cases h
theorem y3x{t ty:TypeId}{x:aJ}{δ:Dl}(h:NJ P t x st=some δ)(hc:b8 δ.jW)(bH:∀id o,st id=some o->S id=some o)(hS:aY F S m w)
 {ux:Value} (hx:aO S m w (okB F S m w) x ux):iL F S m w δ.wr δ.val ((Builtin.clear_ #[t] ty #[ux]).run P w):=by
 unfold NJ at h;simp only[qw] at h;obtain⟨e,he,k,hk,ag,kU,z,hz,X,hX,h⟩:=h;split at h;rotate_left
 ·cases h
 rename_i id n i;split at h;rotate_left
 ·cases h
 rename_i k' xs hs;obtain⟨bY,h'⟩:=gL h;clear h;simp only[qq] at bY;have e1:=qJ bY.1;have iM:=qJ bY.2;simp only[qb] at h';subst h';subst e1;simp only[b8] at hc;obtain⟨hn,u6,-⟩:=hc;have hu:=E7 he;obtain⟨zv,pV,zs,rQ,rfl,oN⟩:=B1 hz;have iM:zs.length=k:=by simpa using iM
 have E6:=Kf hX (fun T hT=>by
  obtain⟨v,_,rfl⟩:=qO.1 hT;rfl)
 have cK:=bH id _ hs;have hXE:jo k X:=⟨by rw[E6];simp[iM],fun T hT=>by rw[E6] at hT;obtain⟨v,_,rfl⟩:=qO.1 hT;rfl⟩
 cases hx with
 |fP _ _ _ _ L b9=>rw[cK] at b9;cases b9
 |tail _ _ _ k' iU xs' L b9 tg oq fu=>
  rw[cK] at b9;cases b9;have hL:=fu hn;obtain⟨a1,a2,a3,a4,a5⟩:=hS.cN id _ cK;rw[hL] at a3 a4 a5;have hlen:(xs.take i++List.replicate (n-i) X).length=xs.length:=by simp;omega
  have hE':∀x∈xs.take i++List.replicate (n-i) X,jo k x:=fun x hx=>by
   rcases qn.1 hx with hx|hx
   ·exact a2 x (qF hx)
   rw[(zY.1 hx).2];exact hXE
  by_cases h0:n-i=0
  ·have e:xs.take i++List.replicate (n-i) X=xs:=by rw[h0,List.replicate_zero,qL,qk oM]
   have e2:app S [(id,.aF k false (xs.take i++List.replicate (n-i) X))]=S:=by
    rw[e];funext j;show bO S id _ j=S j;by_cases hj:j=id
    ·subst hj;rw[iV,cK]
    rw[eC hj]
   refine⟨.tuple #[],w,m,?_,by rw[e2];exact hS,by rw[e2];exact aK.refl F S m w,.aZ [] [] rfl (fun i v u hv=>by simp at hv)⟩;unfold BO;rw[h0];cases Fa:(if L.2=i then L.1.map fun b=>(⟨b,0,none⟩:Addr) else L.1.map fun b=>⟨b,i*k,none⟩) with
   |none=>simp[Builtin.clear_,run_underlying hu]
   |some q=>simp[Builtin.clear_,run_underlying hu]
  rcases a5 with⟨a5,a6⟩| ⟨b,us,e',h1,h2,h3,h4,h5⟩
  ·omega
  have mI:L.2≠i:=oM;have Cd:(fW zs (n-i)).length=(n-i)*k:=by rw[B8,iM]
  have hmul:i*k+(n-i)*k=n*k:=by rw[<-Nat.add_mul];congr 1;omega
  have fI:n*k<=us.size:=by rw[h3];exact zi k oM
  have mL:∀u∈fW zs (n-i),u.oneCell'=true:=fun u hu=>oN u (B9 hu)
  have Dx:=run_storeCells_at P b (i*k) e' (fW zs (n-i)) 0 us w h2 (by rw[Cd];omega) mL;simp only[Nat.add_zero] at Dx;have HA:(Builtin.zeroCells zv.cells (n-i)).toList=fW zs (n-i):=by
   unfold Builtin.zeroCells;rw[Hh,rQ]
  have cQ:(Builtin.clear_ #[t] ty #[BO L k n i]).run P w= .ok (.tuple #[]) (w.setRow b (us.toList.take (i*k)++fW zs (n-i)++us.toList.drop (i*k+(fW zs (n-i)).length)).toArray):=by
   unfold BO;rw[if_neg mI,h1];obtain⟨q,hq⟩:∃q,n-i=q+1:=⟨n-i- 1,oM⟩
   rw[hq] at Dx HA|-;simp only[jd];simp[Builtin.clear_,run_underlying hu,BX pV,HA,Dx]
  have sx:dL (xs.take i++List.replicate (n-i) X)=(dL xs).take (i*k)++fW (zs.map .sc) (n-i):=by
   rw[Tr,G7 a2,y0N,E6]
  have Dr:=vO a2;have key:=wM (o':= .aF k false (xs.take i++List.replicate (n-i) X)) hS cK rfl (by rw[hL];exact h1) (w':=w.setRow b (us.toList.take (i*k)++fW zs (n-i)++us.toList.drop (i*k+(fW zs (n-i)).length)).toArray)
   rfl rfl rfl sM (fun c hc=>G9 w b c _ hc) (by simp only[Ob.len];omega) (by simp[Ob.same]) (fun hF=>by
    rw[hL];refine⟨a1,hE',by rw[hlen];exact a3,a4,.inr ⟨b,_,e',h1,setRow_heap w b us _ e' _ h2,?_,fun j u hu=> ?_,fun j T u hT hu=> ?_⟩⟩
    ·simp only[zN,qf,qz,qT,Cd,Array.length_toList];omega
    ·have hu:(us.toList.take (i*k)++fW zs (n-i)++us.toList.drop (i*k+(fW zs (n-i)).length))[j]? =some u:=by simpa using hu
     rcases qn.1 (qr hu) with hu|hu
     ·rcases qn.1 hu with hu|hu
      ·obtain⟨q,hq⟩:=zA (qF hu);exact h4 q u (by simpa using hq)
      exact mL u hu
     obtain⟨q,hq⟩:=zA (qE hu);exact h4 q u (by simpa using hq)
    have hu:(us.toList.take (i*k)++fW zs (n-i)++us.toList.drop (i*k+(fW zs (n-i)).length))[j]? =some u:=by simpa using hu
    rw[sx] at hT;have B7:i*k<=(dL xs).length:=by rw[Dr];exact zi k oM
    have HB:i*k<=us.toList.length:=by simp;omega
    rw[qI] at hu;by_cases hj:j<i*k
    ·rw[qx (by rw[qz];omega),qB,if_pos hj] at hT hu;exact hF.tree (h5 j T u hT (by simpa using hu))
    rw[qK (by rw[qz];omega),qz,Nat.min_eq_left B7] at hT;rw[qK (by rw[qz];omega),qz,Nat.min_eq_left HB] at hu;rw[N8,zj,qe] at hT;obtain⟨v,hv,rfl⟩:=hT;have fQ:=(qA.1 hv).1;rw[qx fQ,hv] at hu;cases hu;exact .sc u (mL u (qr hv)))
  exact⟨.tuple #[],_,m,cQ,key.1,key.2,.aZ [] [] rfl (fun i v u hv=>by simp at hv)⟩
theorem y3y{t:TypeId}{x:aJ}{bf:Nat}{δ:Dl}(h:JX P t x bf=some δ)(hS:aY F S m w)(bn:S bf=none){ux:Value}(hx:aO S m w (okB F S m w) x ux):
 iL F S m w δ.wr δ.val ((Instr.range t ux).run P w):=by
 unfold JX at h;split at h;rotate_left
 ·cases h
 rename_i s hu;simp only[qb] at h;subst h;have:=aO.bq hx;subst this;have hF:=GW (F:=F) (S:=S) (m:=m) (w:=w) (w':=w.alloc (.stringIter s 0)) (o:= .fo s 0) (L:=(some w.heap.size,0)) bn rfl rfl rfl sM (fun b hb=>dz w _ b hb) (fun b hb=>by simp at hb;omega);have h1:=hS.new bn hF (fun b hb=>dz w _ b hb) (fun b hb=>by simp at hb;omega) ⟨w.heap.size,rfl,fA w _⟩;refine⟨.pointer (some ⟨w.heap.size,0,none⟩),w.alloc (.stringIter s 0),place m bf (some w.heap.size,0),?_,h1,hF,.fO bf _ w.heap.size _ (iV _ _ _) (by rw[o8]) rfl⟩;simp[Instr.range,run_underlying hu]
theorem y5d{it:aJ}{isStr:Bool}{c:eW}{δ:Dl}(h:NK it isStr st c=some δ)(hc:b8 δ.jW)(bH:∀id o,st id=some o->S id=some o)(hS:aY F S m w)
 {ui:Value} (hi:aO S m w (okB F S m w) it ui) (ty:TypeId):iL F S m w δ.wr δ.val ((Instr.next ui isStr ty).run P w):=by
 unfold NK at h;split at h;rotate_left
 ·cases h
 rename_i id;split at h;rotate_left
 ·cases h
 rename_i s p hs;obtain⟨Oy,h'⟩:=gL h;clear h;have h:=h';clear h';subst Oy;have cK:=bH id _ hs;cases hi with
 |fO _ o b u ho hm hu=>
  rw[cK] at ho;cases ho;simp only[Ay,qb] at hu;subst hu;obtain⟨b',q1,q2⟩:=hS.cN id _ cK;rw[hm] at q1;cases q1;cases ng:c.fx.isEmpty with
  |true=>
   rw[ng,cond_true] at h;simp only[qb] at h;subst h;simp only[b8] at hc;obtain⟨hp,-⟩:=hc;have key:=wM (o':= .fo s (p+(Utf8.decode s p).2)) hS cK rfl hm (w':=w.putObj b (.stringIter s (p+(Utf8.decode s p).2))) rfl rfl rfl sM (fun c hc=>World.putObj_heap_other hc) (qp _) trivial
    (fun hF=>⟨b,hm,World.putObj_heap_same (qY.1 q2).1⟩)
   refine⟨.tuple #[.bool true,.int .i64 (p:Int),.int .i32 ((Utf8.decode s p).1:Int)],_,m,?_,key.1,key.2,.aZ _ [.bool true,.int .i64 (p:Int),.int .i32 ((Utf8.decode s p).1:Int)] rfl (fun i v u hv hu=> ?_)⟩
   ·simp[Instr.next,getObj,Sem.run_bind,Sem.run,q2,hp,setObj,World.putObj,goInt,Result.andThen]
   match i with
   |0=>cases hv;cases hu;exact .t _ _ (.sc _ rfl)
   |1=>cases hv;cases hu;exact .t _ _ (.sc _ rfl)
   |2=>cases hv;cases hu;exact .t _ _ (.sc _ rfl)
   |i+3=>cases hv
  |false=>
   rw[ng,cond_false] at h;simp only[qb] at h;subst h;simp only[b8] at hc;obtain⟨hp,-⟩:=hc;refine⟨.tuple #[.bool false],w,m,?_,hS,aK.refl F S m w,.aZ _ [.bool false] rfl (fun i v u hv hu=> ?_)⟩
   ·have Cm:¬p<s.size:=oM;simp[Instr.next,getObj,Sem.run_bind,Sem.run,q2,Cm,Result.andThen]
   match i with
   |0=>cases hv;cases hu;exact .t _ _ (.sc _ rfl)
   |i+1=>cases hv
end Go.Ab
end
section
namespace Go.Ab
variable {P:Program} {w:World} {F:eL P} {S st:bQ} {m:Place}
theorem Oz:∀{es:List (Int×MV)} {n:Int} {v:MV},wH es n=some v->∃i:Nat,es[i]? =some (n,v)/\∀(j:Nat) (x:Int×MV),j<i->es[j]? =some x->x.1≠n
 | [],n,v,h=>by simp[wH] at h
 | (k',v')::l,n,v,h=>by
  simp only[wH] at h;split at h
  ·rename_i e;cases h;exact⟨0,by simp[e],fun j x h=>oM⟩
  rename_i e;obtain⟨i,h1,h2⟩:=Oz h;refine⟨i+1,by simpa using h1,fun j x hj hk=> ?_⟩;cases j with
  |zero=>simp only[zC,qb] at hk;subst hk;exact fun hh=>e hh.symm
  |succ j=>exact h2 j x oM (by simpa using hk)
theorem OA:∀{es:List (Int×MV)} {n:Int},wH es n=none->∀x∈es,x.1≠n
 | [],n,_,x,hx=>by simp at hx
 | (k',v')::l,n,h,x,hx=>by
  simp only[wH] at h;split at h
  ·cases h
  rename_i e;rcases qg.1 hx with rfl|hx
  ·exact fun hh=>e hh.symm
  exact OA h x hx
theorem Uc:∀{es:List (Int×MV)} {n:Int} {v v0:MV} {i:Nat},es[i]? =some (n,v0)->(∀(j:Nat) (x:Int×MV),j<i->es[j]? =some x->x.1≠n)->wI es n v=es.set i (n,v)
 | [],n,v,v0,i,h,_=>by simp at h
 | (k',v')::l,n,v,v0,0,h,_=>by
  simp only[zC,qb,qD] at h;simp[wI,h.1]
 | (k',v')::l,n,v,v0,i+1,h,hj=>by
  have e:n≠k':=fun hh=>hj 0 (k',v') oM rfl hh.symm
  simp only[wI,if_neg e,List.set_cons_succ];rw[Uc (by simpa using h) (fun j x fQ hx=>hj (j+1) x oM (by simpa using hx))]
theorem Ud:∀{es:List (Int×MV)} {n:Int} {v:MV},(∀x∈es,x.1≠n)->wI es n v=es++[(n,v)]
 | [],n,v,_=>rfl
 | (k',v')::l,n,v,h=>by
  have e:n≠k':=fun hh=>h (k',v') sM hh.symm
  simp only[wI,if_neg e,qm];rw[Ud (fun x hx=>h x (by simp[hx]))]
def Dy(es:List (Int×MV))(bJ:List MapEntry):Prop:=bJ.length=es.length/\∀(i:Nat) (x:Int×MV) (e:MapEntry),es[i]? =some x->bJ[i]? =some e->e.key= .int .i64 x.1
theorem Dy.tail{x:Int×MV}{es:List (Int×MV)}{e:MapEntry}{bJ:List MapEntry}(h:Dy (x::es) (e::bJ)):e.key= .int .i64 x.1/\Dy es bJ:=
 ⟨h.2 0 x e rfl rfl,by simpa using h.1,fun i y f h1 h2=>h.2 (i+1) y f (by simpa using h1) (by simpa using h2)⟩
theorem OB:∀{es:List (Int×MV)} {bJ:List MapEntry} {n:Int} {v:MV} {i i0:Nat} {e:MapEntry},Dy es bJ->es[i]? =some (n,v)->(∀(j:Nat) (x:Int×MV),j<i->es[j]? =some x->x.1≠n)->bJ[i]? =some e->
 Instr.findNow (.int .i64) (.int .i64 n) bJ i0=some (some (i0+i,e.val))
 | [],_,n,v,i,i0,e,_,h,_,_=>by simp at h
 |x::es,[],n,v,i,i0,e,hk,_,_,_=>by have:=hk.1;simp at this
 |x::es,f::bJ,n,v,0,i0,e,hk,h,hj,he=>by
  obtain⟨h1,_⟩:=hk.tail;simp only[zC,qb] at h he;subst h he;simp[Instr.findNow,Instr.sameNow,h1]
 |x::es,f::bJ,n,v,i+1,i0,e,hk,h,hj,he=>by
  obtain⟨h1,h2⟩:=hk.tail;have dh:x.1≠n:=hj 0 x oM rfl;have hb:(n==x.1)=false:=by simpa using fun h=>dh h.symm
  have ih:=OB (i0:=i0+1) h2 (by simpa using h) (fun j y fQ hy=>hj (j+1) y oM (by simpa using hy)) (by simpa using he);simp only[Instr.findNow,Instr.sameNow,h1,if_true,hb];rw[ih];simp only[qb,qD,and_true];omega
theorem OC:∀{es:List (Int×MV)} {bJ:List MapEntry} {n:Int} {i0:Nat},Dy es bJ->(∀x∈es,x.1≠n)->Instr.findNow (.int .i64) (.int .i64 n) bJ i0=some none
 | [],[],n,i0,_,_=>by simp[Instr.findNow]
 | [],_::_,n,i0,hk,_=>by have:=hk.1;simp at this
 |x::es,[],n,i0,hk,_=>by have:=hk.1;simp at this
 |x::es,f::bJ,n,i0,hk,h=>by
  obtain⟨h1,h2⟩:=hk.tail;have dh:x.1≠n:=h x sM;have hb:(n==x.1)=false:=by simpa using fun h=>dh h.symm
  simp only[Instr.findNow,Instr.sameNow,h1,if_true,hb];exact OC h2 (fun y hy=>h y (by simp[hy]))
theorem Ue{t e:TypeId}(h:JY P t=some e):∃k,P.underlying t=some (.map k e)/\P.underlying k=some (.int .i64):=by
 unfold JY at h;split at h
 ·rename_i k e' hu;split at h
  ·rename_i hk;cases h;exact⟨k,hu,hk⟩
  cases h
 cases h
theorem Uf{b:Bool}{f:Nat}{k:TypeId}{n:Int}(hk:P.underlying k=some (.int .i64)):(Instr.checkKey b (f+1) k (.int .i64 n)).run P w= .ok () w:=by
 simp[Instr.checkKey,run_underlying hk]
theorem OD{b:Nat}{bJ:List MapEntry}{c:Nat}(h:w.heap[b]? =some (.map bJ.toArray c)):(getObj b).run P w= .ok (.map bJ.toArray c) w:=by simp[getObj,Sem.run,h]
theorem OE{k:TypeId}{n:Int}{bJ:List MapEntry}{r:Option (Nat×Value)}(hk:P.underlying k=some (.int .i64))(h:Instr.findNow (.int .i64) (.int .i64 n) bJ 0=some r):(Instr.findKey k (.int .i64 n) bJ).run P w= .ok r w:=by
 simp[Instr.findKey,run_underlying hk,h]
theorem Ug{t k e:TypeId}{n:Int}{b c:Nat}{bJ:List MapEntry}{ok:Bool}{r:Option (Nat×Value)}{z:Value}(hu:P.underlying t=some (.map k e))(hk:P.underlying k=some (.int .i64))(hb:w.heap[b]? =some (.map bJ.toArray c))
 (hf:Instr.findNow (.int .i64) (.int .i64 n) bJ 0=some r) (hz:r=none->vL P e=some z):
 (Instr.lookup t (.map (some b)) (.int .i64 n) ok).run P w= .ok (if ok then .tuple #[(match r with|some p=>p.2|none=>z),.bool r.isSome] else(match r with|some p=>p.2|none=>z)) w:=by
 have hc:=Uf (P:=P) (w:=w) (b:=bJ.toArray.isEmpty) (f:=9999) (n:=n) hk;have HC:=OE (P:=P) (w:=w) hk hf;unfold Instr.lookup;simp only[Sem.run_bind,run_underlying hu,Result.andThen_ok,OD hb,Sem.run_pure,hc,HC];cases r with
 |some p=>cases ok<;>simp
 |none=>
  have:=BX (w:=w) (hz rfl);cases ok<;>simp[this]
def Cn(st:bQ)(m:Place)(w:World)(ok:Nat->Prop)(es:List (Int×MV))(h:Option (Int×aJ))(L:Option Nat×Nat)(g:List Nat)(b:Nat)(bJ:List MapEntry)(bl:Nat->Option Nat):Prop:=
 L.1=some b/\w.heap[b]? =some (.map bJ.toArray bJ.length)/\bJ.length=es.length/\
  (∀i j c,i<es.length->j<es.length->bl i=some c->bl j=some c->i=j)/\(∀i c,i<es.length->bl i=some c->c∈g/\c≠b)/\
  (∀(i j:Nat) (x y:Int×MV),es[i]? =some x->es[j]? =some y->x.1=y.1->i=j)/\
  ∀i x e,es[i]? =some x->bJ[i]? =some e->e.key= .int .i64 x.1/\e.born=i/\EP st m w ok h x.1 x.2 e.val (bl i)
variable {es:List (Int×MV)} {h:Option (Int×aJ)} {b:Nat} {bJ:List MapEntry} {bl:Nat->Option Nat} {id:Nat}
theorem Cn.keys{ok:Nat->Prop}{L:Option Nat×Nat}{g:List Nat}(hM:Cn S m w ok es h L g b bJ bl):Dy es bJ:=⟨hM.2.2.1,fun i x e h1 h2=>(hM.2.2.2.2.2.2 i x e h1 h2).1⟩
theorem Fb{es:List (Int×MV)}{i p:Nat}{y x:Int×MV}(hi:i<es.length)(h:(es.set i y)[p]? =some x):(p=i/\x=y)\/(p≠i/\es[p]? =some x):=by
 rw[zz] at h;by_cases e:i=p
 ·subst e;rw[if_pos rfl,if_pos hi] at h;exact .inl ⟨rfl,by simpa using h.symm⟩
 rw[if_neg e] at h;exact .inr ⟨fun hh=>e hh.symm,h⟩
def OG(es:List (Int×MV))(bJ gi:List MapEntry)(n:Int)(u:Value):Prop:=
 (∃i v0,es[i]? =some (n,v0)/\(∀(j:Nat) (x:Int×MV),j<i->es[j]? =some x->x.1≠n)/\gi=bJ.modify i fun e=>{e with key:= .int .i64 n,val:=u})\/
 ((∀x∈es,x.1≠n)/\gi=bJ++[{key:= .int .i64 n,val:=u,born:=bJ.length}])
theorem y8K{t k e:TypeId}{n:Int}(hu:P.underlying t=some (.map k e))(hk:P.underlying k=some (.int .i64))(hb:w.heap[b]? =some (.map bJ.toArray bJ.length))(hK:Dy es bJ)(u:Value):
 ∃gi,OG es bJ gi n u/\(Instr.mapUpdate t (.map (some b)) (.int .i64 n) u).run P w= .ok () (w.putObj b (.map gi.toArray gi.length)):=by
 have hc:=Uf (P:=P) (w:=w) (b:=false) (f:=9999) (n:=n) hk;have mK:∀(o:Go.Obj),(setObj b o).run P w= .ok () (w.putObj b o):=fun o=>by simp[setObj,Sem.run,hb,World.putObj]
 cases hl:wH es n with
 |some v0=>
  obtain⟨i,h1,h2⟩:=Oz hl;have j7:i<bJ.length:=by rw[hK.1];exact(qA.1 h1).1
  have he:bJ[i]? =some bJ[i]:=qa j7;have hf:=OB (i0:=0) hK h1 h2 he;have HC:=OE (P:=P) (w:=w) hk hf;have OH:bJ[i].key= .int .i64 n:=hK.2 i _ _ h1 he;refine⟨_,.inl ⟨i,v0,h1,h2,rfl⟩,?_⟩;unfold Instr.mapUpdate;simp only[Sem.run_bind,run_underlying hu,Result.andThen_ok,OD hb,hc,HC,zw];have jN:Instr.sameBits 10000 (Value.int .i64 n) (Value.int .i64 n)=true:=by simp[Instr.sameBits]
  simp only[List.getElem?_toArray,he,jd,zG,OH,Instr.keyThatStays,jN,if_true,Sem.run_pure,Result.andThen_ok,mK];have e1:bJ.toArray.modify i (fun e=>{key:=Value.int .i64 n,val:=u,born:=e.born})=(bJ.modify i fun e=>{key:=Value.int .i64 n,val:=u,born:=e.born}).toArray:=by
   apply Array.ext';simp
  rw[e1];simp
 |none=>
  have h1:=OA hl;have hf:=OC (i0:=0) hK h1;have HC:=OE (P:=P) (w:=w) hk hf;refine⟨_,.inr ⟨h1,rfl⟩,?_⟩;unfold Instr.mapUpdate;simp only[Sem.run_bind,run_underlying hu,Result.andThen_ok,OD hb,hc,HC,mK];simp
theorem Cn.put{ok:Nat->Prop}{L:Option Nat×Nat}{g:List Nat}(hM:Cn S m w ok es h L g b bJ bl){gi:List MapEntry}{n:Int}{u:Value}(hU:OG es bJ gi n u)(hh:b8 (NO n h)){S':bQ}{m':Place}{w':World}{ok':Nat->Prop}{g':List Nat}
 {v:MV} {c:Option Nat} (HD:∀v' u' c',mG S m w ok v' u' c'->(∀b',c'=some b'->b'∈g/\b'≠b)->mG S' m' w' ok' v' u' c') (hv:mG S' m' w' ok' v u c) (hc:∀b',c=some b'->b'∈g'/\b'∉g/\b'≠b) (hg:∀x∈g,x∈g')
 (hw:w'.heap[b]? =some (.map gi.toArray gi.length)):Tf S' m' w' ok' (wI es n v) none L g':=by
 obtain⟨m1,m2,m3,m4,m5,m6,m7⟩:=hM;have other:∀i x e,es[i]? =some x->bJ[i]? =some e->x.1≠n->mG S' m' w' ok' x.2 e.val (bl i):=by
  intro i x e hx he dh;obtain⟨q1,q2,q3⟩:=m7 i x e hx he;have j7:i<es.length:=(qA.1 hx).1;refine HD _ _ _ ?_ (fun b' pW=>m5 i b' j7 pW)
  match h,hh,q3 with
  |none,_,q3=>exact q3
  |some (n',v'),hh,q3=>exact q3.2 (fun e=>dh (e.trans hh.1.symm))
 rcases hU with⟨i,v0,h1,h2,rfl⟩| ⟨h1,rfl⟩
 ·have j7:i<es.length:=(qA.1 h1).1;rw[Uc h1 h2];refine⟨b,_,fun q=>if q=i then c else bl q,m1,hw,by simpa using m3,fun p q c' hp hq e1 e2=> ?_,fun p c' hp e1=> ?_,fun p q x y hx hy oO=> ?_,fun p x f hx hf=> ?_⟩
  ·simp only[zt] at hp hq;by_cases ep:p=i
   ·by_cases eq:q=i
    ·rw[ep,eq]
    simp only[ep,if_true] at e1;simp only[eq,if_false] at e2;exact absurd (m5 q c' hq e2).1 (hc c' e1).2.1
   by_cases eq:q=i
   ·simp only[ep,if_false] at e1;simp only[eq,if_true] at e2;exact absurd (m5 p c' hp e1).1 (hc c' e2).2.1
   simp only[ep,if_false] at e1;simp only[eq,if_false] at e2;exact m4 p q c' hp hq e1 e2
  ·simp only[zt] at hp;by_cases ep:p=i
   ·simp only[ep,if_true] at e1;exact⟨(hc c' e1).1,(hc c' e1).2.2⟩
   simp only[ep,if_false] at e1;exact⟨hg _ (m5 p c' hp e1).1,(m5 p c' hp e1).2⟩
  ·rcases Fb j7 hx with⟨rfl,rfl⟩| ⟨a,kD⟩<;>rcases Fb j7 hy with⟨rfl,rfl⟩| ⟨a',xK⟩
   ·rfl
   ·exact m6 _ _ _ _ h1 xK oO
   ·exact m6 _ _ _ _ kD h1 oO
   exact m6 _ _ _ _ kD xK oO
  rw[List.getElem?_modify] at hf;rcases Fb j7 hx with⟨rfl,rfl⟩| ⟨a,kD⟩
  ·simp only[if_true,Option.map_eq_map,qe] at hf;obtain⟨f0,Oc,rfl⟩:=hf;obtain⟨q1,q2,_⟩:=m7 p _ f0 h1 Oc;exact⟨rfl,q2,by show mG S' m' w' ok' v u _;simpa using hv⟩
  have en:¬i=p:=fun hh=>a hh.symm
  simp only[en,if_false] at hf;have hf:bJ[p]? =some f:=by simpa using hf
  obtain⟨q1,q2,_⟩:=m7 p x f kD hf;refine⟨q1,q2,?_⟩;have:=other p x f kD hf (fun hh=>a (m6 p i x _ kD h1 hh));show mG S' m' w' ok' x.2 f.val _;simpa[a] using this
 rw[Ud h1];have last:∀(p:Nat) (x:Int×MV),(es++[(n,v)])[p]? =some x->(p=es.length/\x=(n,v))\/(p<es.length/\es[p]? =some x):=by
  intro p x hx;by_cases hp:p<es.length
  ·rw[qx hp] at hx;exact .inr ⟨hp,hx⟩
  have:p< (es++[(n,v)]).length:=(qA.1 hx).1;simp at this;have e:p=es.length:=oM;subst e;exact .inl ⟨rfl,by simpa using hx.symm⟩
 refine⟨b,_,fun q=>if q=es.length then c else bl q,m1,hw,by simp[m3],fun p q c' hp hq e1 e2=> ?_,fun p c' hp e1=> ?_,fun p q x y hx hy oO=> ?_,fun p x f hx hf=> ?_⟩
 ·simp only[qf,qi,zg] at hp hq;by_cases ep:p=es.length
  ·by_cases eq:q=es.length
   ·rw[ep,eq]
   simp only[ep,if_true] at e1;simp only[eq,if_false] at e2;exact absurd (m5 q c' oM e2).1 (hc c' e1).2.1
  by_cases eq:q=es.length
  ·simp only[ep,if_false] at e1;simp only[eq,if_true] at e2;exact absurd (m5 p c' oM e1).1 (hc c' e2).2.1
  simp only[ep,if_false] at e1;simp only[eq,if_false] at e2;exact m4 p q c' oM oM e1 e2
 ·simp only[qf,qi,zg] at hp;by_cases ep:p=es.length
  ·simp only[ep,if_true] at e1;exact⟨(hc c' e1).1,(hc c' e1).2.2⟩
  simp only[ep,if_false] at e1;exact⟨hg _ (m5 p c' oM e1).1,(m5 p c' oM e1).2⟩
 ·rcases last p x hx with⟨rfl,rfl⟩| ⟨a,kD⟩<;>rcases last q y hy with⟨rfl,rfl⟩| ⟨a',xK⟩
  ·rfl
  ·exact absurd oO.symm (h1 y (qr xK))
  ·exact absurd oO (h1 x (qr kD))
  exact m6 _ _ _ _ kD xK oO
 rcases last p x hx with⟨rfl,rfl⟩| ⟨a,kD⟩
 ·rw[qK oM,m3,Nat.sub_self] at hf;simp only[zC,qb] at hf;subst hf;exact⟨rfl,rfl,by show mG S' m' w' ok' v u _;simpa using hv⟩
 rw[qx oM] at hf;obtain⟨q1,q2,_⟩:=m7 p x f kD hf;refine⟨q1,q2,?_⟩;have dh:p≠es.length:=oM;have:=other p x f kD hf (h1 x (qr kD));show mG S' m' w' ok' x.2 f.val _;simpa[dh] using this
theorem x0h(hS:aY F S m w)(bn:S id=some (.mp es h))(hM:Cn S m w (okB F S m w) es h (m id) (m.g id) b bJ bl){gi:List MapEntry}{n:Int}{u:Value}(hU:OG es bJ gi n u)(hh:b8 (NO n h)){v:MV}
 (hv:∀S' m' w',aK F S m w S' m' w'->mG S' m' w' (okB F S' m' w') v u none):
 aY F (bO S id (.mp (wI es n v) none)) m (w.putObj b (.map gi.toArray gi.length))/\aK F S m w (bO S id (.mp (wI es n v) none)) m (w.putObj b (.map gi.toArray gi.length)):=by
 have fQ:b<w.heap.size:=(qY.1 hM.2.1).1;refine wM hS bn rfl hM.1 rfl rfl rfl sM (fun c hc=>World.putObj_heap_other hc) (qp _) trivial (fun hF=> ?_);exact hM.put hU hh (fun v' u' c' hr hc=>hr.cF hF (fun b' pW=>World.putObj_heap_other (hc b' pW).2)) (hv _ _ _ hF) (fun b' pW=>by cases pW) (fun x hx=>hx) (World.putObj_heap_same fQ)
theorem Uh{ok:Nat->Prop}{q bb:Bool}{v:aJ}{u:Value}(h:aO S m w ok v u):aO S m w ok (NM q v bb) (if q then .tuple #[u,.bool bb] else u):=by
 cases q with
 |false=>exact h
 |true=>
  refine .aZ [v,.t (.sc (.bool bb))] [u,.bool bb] rfl (fun i v' u' hv hu=> ?_)
  match i with
  |0=>cases hv;cases hu;exact h
  |1=>cases hv;cases hu;exact .t _ _ (.sc _ rfl)
  |i+2=>cases hv
theorem Ui{x:Value}{ok:Nat->Prop}(hS:aY F S m w)(bn:S id=some (.mp es h))(hx:aO S m w ok (.fO id) x):∃b bJ bl,x= .map (some b)/\Cn S m w (okB F S m w) es h (m id) (m.g id) b bJ bl:=by
 obtain⟨b,bJ,bl,hM⟩:=hS.cN id _ bn;cases hx with
 |fO _ o b' _ hs hm hu=>
  rw[bn] at hs;cases hs;simp only[Ay,qb] at hu;subst hu;rw[hM.1] at hm;cases hm;exact⟨b,bJ,bl,rfl,hM⟩
theorem Cn.at{ok:Nat->Prop}{L:Option Nat×Nat}{g:List Nat}(hM:Cn S m w ok es h L g b bJ bl){i:Nat}{x:Int×MV}(hi:es[i]? =some x):∃e,bJ[i]? =some e/\e.key= .int .i64 x.1/\e.born=i/\EP S m w ok h x.1 x.2 e.val (bl i):=by
 have j7:i<bJ.length:=by rw[hM.2.2.1];exact(qA.1 hi).1
 exact⟨bJ[i],qa j7,hM.2.2.2.2.2.2 i x _ hi (qa j7)⟩
theorem y1X{t:TypeId}{x k:aJ}{q:Bool}{bf:Nat}{c:eW}{δ:Dl}(hk:NN P t x k q st bf c=some δ)(hc:b8 δ.jW)(bH:∀id o,st id=some o->S id=some o)(hS:aY F S m w)(vU:S bf=none)
 {ux uk:Value} (hx:aO S m w (okB F S m w) x ux) (HE:aO S m w (okB F S m w) k uk):iL F S m w δ.wr δ.val ((Instr.lookup t ux uk q).run P w):=by
 unfold NN at hk;split at hk;rotate_left
 ·cases hk
 rename_i e id n co OI Kk;split at hk;rotate_left
 ·cases hk
 rename_i es hs;have bn:=bH id _ hs;obtain⟨kt,hu,Kl⟩:=Ue OI;have:=aO.bq HE;subst this;obtain⟨b,bJ,bl,rfl,hM⟩:=Ui hS bn hx;have found:∀v,wH es n=some v->∃i e,es[i]? =some (n,v)/\(∀(j:Nat) (x:Int×MV),j<i->es[j]? =some x->x.1≠n)/\bJ[i]? =some e/\mG S m w (okB F S m w) v e.val (bl i)/\
  (Instr.lookup t (.map (some b)) (.int .i64 n) q).run P w= .ok (if q then .tuple #[e.val,.bool true] else e.val) w:=by
  intro v hv;obtain⟨i,h1,h2⟩:=Oz hv;obtain⟨e,he,_,_,hr⟩:=hM.at h1;exact⟨i,e,h1,h2,he,hr,Ug (z:= .bool false) hu Kl hM.2.1 (OB (i0:=0) hM.keys h1 h2 he) (fun h=>by cases h)⟩
 split at hk
 ·simp only[qw] at hk;obtain⟨z,hz,hk⟩:=hk;obtain⟨oN,hk⟩:=gL hk;have:=fS hk;subst this;simp only[b8] at hc;have cQ:=Ug (P:=P) (ok:=q) hu Kl hM.2.1 (OC (i0:=0) hM.keys (OA hc.1)) (fun _=>hz);exact iL.same hS ⟨_,cQ,Uh (.t _ _ (.sc _ oN))⟩
 ·split at hk
  ·rename_i T hT;have:=fS hk;subst this;simp only[b8] at hc;obtain⟨i,e,h1,h2,h3,h4,h5⟩:=found _ hc.1;exact iL.same hS ⟨_,h5,Uh (.t _ _ h4.1)⟩
  cases hk
 cases hk
theorem Uj{t:TypeId}{x k v:aJ}{c:eW}{δ:Dl}(hk:JZ P t x k v st c=some δ)(hc:b8 δ.jW)(bH:∀id o,st id=some o->S id=some o)(hS:aY F S m w)
 {ux uk uv:Value} (hx:aO S m w (okB F S m w) x ux) (HE:aO S m w (okB F S m w) k uk) (hv:aO S m w (okB F S m w) v uv):
 δ.val= .cH/\∃w' m',(Instr.mapUpdate t ux uk uv).run P w= .ok () w'/\aY F (app S δ.wr) m' w'/\aK F S m w (app S δ.wr) m' w':=by
 unfold JZ at hk;split at hk;rotate_left
 ·cases hk
 rename_i e id n OI;split at hk;rotate_left
 ·cases hk
 rename_i es h hs;have bn:=bH id _ hs;obtain⟨kt,hu,Kl⟩:=Ue OI;have:=aO.bq HE;subst this;obtain⟨b,bJ,bl,rfl,hM⟩:=Ui hS bn hx;obtain⟨gi,hU,cQ⟩:=y8K hu Kl hM.2.1 hM.keys uv (n:=n);split at hk
 ·rename_i T;simp only[qb] at hk;subst hk;cases hv with
  |t _ _ hT=>
   obtain⟨r1,r2⟩:=x0h hS bn hM hU hc (v:= .im T) (fun S' m' w' hF=>⟨hF.tree hT,rfl⟩);exact⟨rfl,_,m,cQ,r1,r2⟩
 cases hk
theorem y0O{t:TypeId}{r:Option Operand}{bf:Nat}{δ:Dl}(hk:NL P t r bf=some δ)(hS:aY F S m w)(bn:S bf=none)(ρ:Operand->Value):iL F S m w δ.wr δ.val ((Instr.makeMap t (r.map ρ)).run P w):=by
 unfold NL at hk;split at hk;rotate_left
 ·cases hk
 simp only[qb] at hk;subst hk;have hF:=GW (F:=F) (S:=S) (m:=m) (w:=w) (w':=w.alloc (.map #[] 0)) (o:= .mp [] none) (L:=(some w.heap.size,0)) bn rfl rfl rfl sM (fun b hb=>dz w _ b hb) (fun b hb=>by simp at hb;omega);have h1:=hS.new bn hF (fun b hb=>dz w _ b hb) (fun b hb=>by simp at hb;omega) ⟨w.heap.size,[],fun _=>none,rfl,fA w _,rfl,fun i j c h=>by simp at h,fun i c h=>by simp at h,fun i j x y h=>by simp at h,fun i x e h=>by simp at h⟩;refine⟨.map (some w.heap.size),w.alloc (.map #[] 0),place m bf (some w.heap.size,0),?_,h1,hF,.fO bf _ w.heap.size _ (iV _ _ _) (by rw[o8]) rfl⟩;simp[Instr.makeMap]
end Go.Ab
end
