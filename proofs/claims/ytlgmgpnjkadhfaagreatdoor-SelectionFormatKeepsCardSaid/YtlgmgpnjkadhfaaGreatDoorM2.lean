/- The operations that make or write memory. -/
import Derived.Test.YtlgmgpnjkadhfaaGreatDoorM1
import Derived.IntWalk
import Derived.Laws.Append
import Derived.RangeFuncRecord
section
set_option linter.unusedVariables false
namespace Go.Ab
variable {P:Program} {w:World} {F:Fen P} {S st:Store} {m:Place}
theorem z1s(S:Store)(f g:List (Nat×Ob)):app S (f++g)=app (app S f) g:=by
 induction f generalizing S with
 |nil=>rfl
 |cons x f ih=>obtain⟨i,o⟩:=x;exact ih _
def CRel(st:Store)(m:Place)(w:World)(ok:Nat→Prop)(cs:List AVal)(us:List Value):Prop:=
 us.length=cs.length∧∀(i:Nat) (v:AVal) (u:Value),cs[i]? =some v→us[i]? =some u→VRel st m w ok v u∧u.oneCell'=true
theorem z2G{α:Type}{l r new:List α}{off:Nat}(h:z3K l off new=some r):off+new.length≤l.length∧r=l.take off++new++l.drop (off+new.length):=by
 unfold z3K at h
 obtain⟨h1,h2⟩:=z0k h
 exact⟨Nat.le_of_ble_eq_true h1,by simp only[Option.some.injEq] at h2;exact h2.symm⟩
theorem CRel.splice{ok:Nat→Prop}{cs new:List AVal}{us vs:List Value}{off:Nat}(h:CRel S m w ok cs us)(hn:CRel S m w ok new vs)(hle:off+new.length≤cs.length):
 CRel S m w ok (cs.take off++new++cs.drop (off+new.length)) (us.take off++vs++us.drop (off+vs.length)):=by
 obtain⟨h1,h2⟩:=h
 obtain⟨n1,n2⟩:=hn
 refine⟨by simp[h1,n1],fun i v u hv hu=> ?_⟩
 rw[n1] at hu
 by_cases a:i<off
 ·have l1:i< (cs.take off++new).length:=by simp;omega
  have l2:i< (us.take off++vs).length:=by simp[n1,h1];omega
  rw[List.getElem?_append_left l1,List.getElem?_append_left (by simp;omega),List.getElem?_take,if_pos a] at hv
  rw[List.getElem?_append_left l2,List.getElem?_append_left (by simp[h1];omega),List.getElem?_take,if_pos a] at hu
  exact h2 i v u hv hu
 ·by_cases b:i<off+new.length
  ·have e1:(cs.take off).length=off:=by simp;omega
   have e2:(us.take off).length=off:=by simp[h1];omega
   rw[List.getElem?_append_left (by simp;omega),List.getElem?_append_right (by omega),e1] at hv
   rw[List.getElem?_append_left (by simp[n1,h1];omega),List.getElem?_append_right (by omega),e2] at hu
   exact n2 _ v u hv hu
  ·have e1:(cs.take off++new).length=off+new.length:=by simp;omega
   have e2:(us.take off++vs).length=off+new.length:=by simp[h1,n1];omega
   rw[List.getElem?_append_right (by omega),e1,List.getElem?_drop] at hv
   rw[List.getElem?_append_right (by omega),e2,List.getElem?_drop] at hu
   exact h2 _ v u hv hu
theorem y0t:∀(vs:List Value) (i off:Nat) (cs:Array Value),off+i+vs.length≤cs.size→
 ((vs.zipIdx i).foldl (fun(cs:Array Value) (x:Value×Nat)=>cs.setIfInBounds (off+x.2) x.1) cs).toList=cs.toList.take (off+i)++vs++cs.toList.drop (off+i+vs.length)
 | [],i,off,cs,_=>by simp
 |v::vs,i,off,cs,h=>by
  have ih:=y0t vs (i+1) off (cs.setIfInBounds (off+i) v) (by simp at h⊢;omega)
  simp only[List.zipIdx_cons,List.foldl_cons]
  rw[ih]
  have:=list_seg_step cs.toList (off+i) v vs (by simp at h⊢;omega)
  simpa[Array.toList_setIfInBounds,Nat.add_assoc] using this
theorem z49{ok:Nat→Prop}{place:Nat→Option (Nat×Nat)}:∀(parts:List (Nat×AVal)) (uparts:List (Nat×Value)) (cs cs':List AVal) (us:List Value),fillV place cs parts=some cs'→
 uparts.length=parts.length→(∀(i:Nat) (p:Nat×AVal) (q:Nat×Value),parts[i]? =some p→uparts[i]? =some q→p.1=q.1∧VRel S m w ok p.2 q.2∧(cellsV p.2).all z0H=true)→
 CRel S m w ok cs us→∃us':List Value,Instr.fill place us.toArray uparts=some us'.toArray∧CRel S m w ok cs' us'
 | [],uparts,cs,cs',us,h,hl,_,hc=>by
  have:uparts=[]:=List.eq_nil_of_length_eq_zero (by simpa using hl)
  subst this
  simp only[fillV,Option.some.injEq] at h
  subst h
  exact⟨us,rfl,hc⟩
 | (i,v)::parts,uparts,cs,cs',us,h,hl,hr,hc=>by
  match uparts,hl with
  | (i',u)::uparts,hl=>
   obtain⟨e1,hv,hcell⟩:=hr 0 (i,v) (i',u) rfl rfl
   simp only at e1 hv hcell
   subst e1
   simp only[fillV] at h
   split at h
   ·cases h
   rename_i off size hp
   obtain⟨hsz,h⟩:=z0k h
   have hsz:=Nat.eq_of_beq_eq_true hsz
   split at h
   rotate_left
   ·cases h
   rename_i cells hset
   obtain⟨hle,rfl⟩:=z2G hset
   obtain⟨vs,hvs,hvl,hvr⟩:=VRel.cellsOf hv hcell
   have hspl:=hc.splice ⟨hvl,hvr⟩ hle
   obtain⟨us',h1,h2⟩:=z49 parts uparts _ cs' _ h (by simpa using hl) (fun j p q hp hq=>hr (j+1) p q hp hq) hspl
   refine⟨us',?_,h2⟩
   simp only[Instr.fill,hp]
   have hus:u.cells.size=size:=by rw[hvs];simp[hvl,hsz]
   have hle':¬(off+u.cells.size>us.toArray.size):=by rw[hus];simp only[List.size_toArray,hc.1];omega
   have hcond:(decide (u.cells.size≠size)||decide (off+u.cells.size>us.toArray.size))=false:=by simp[hus];simp[hc.1];omega
   rw[if_neg (by simpa using hcond)]
   rw[←h1]
   congr 1
   apply Array.ext'
   have:=y0t vs 0 off us.toArray (by simp[hvl,hc.1];omega)
   rw[hvs,←Array.foldl_toList,Array.toList_zipIdx]
   simpa using this
theorem z02(w:World)(o:Go.Obj)(b:Nat)(h:b<w.heap.size):(w.alloc o).heap[b]? =w.heap[b]? :=Go.RowKit.Below.heap_alloc w o b h
theorem z1I(w:World)(o:Go.Obj):(w.alloc o).heap[w.heap.size]? =some o:=by
 show(w.heap.push o)[w.heap.size]? =_
 simp
theorem z7e{nid:Nat}(hid:S nid=none)(o:Ob)(us:Array Value)(e:TypeId)(cap:Nat):
 FrameExt F S m w (upd S nid o) (place m nid (some w.heap.size,cap)) (w.alloc (.cells us e)):=
 z4t hid rfl rfl rfl (by simp) (fun b hb=>z02 w _ b hb) (fun b hb=>by simp at hb;omega)
theorem y2T(hS:SRel F S m w){nid:Nat}(hid:S nid=none){cs:List AVal}{us:List Value}(hc:CRel S m w (okB F S m w) cs us)(e:TypeId):
 SRel F (upd S nid (.box cs)) (place m nid (some w.heap.size,0)) (w.alloc (.cells us.toArray e))∧
 FrameExt F S m w (upd S nid (.box cs)) (place m nid (some w.heap.size,0)) (w.alloc (.cells us.toArray e))∧
 VRel (upd S nid (.box cs)) (place m nid (some w.heap.size,0)) (w.alloc (.cells us.toArray e)) (okB F (upd S nid (.box cs)) (place m nid (some w.heap.size,0)) (w.alloc (.cells us.toArray e))) (.ptr nid 0) (.pointer (some ⟨w.heap.size,0,none⟩)):=by
 have hF:=z7e (F:=F) (S:=S) (m:=m) (w:=w) hid (.box cs) us.toArray e 0
 refine⟨hS.new hid hF (fun b hb=>z02 w _ b hb) (fun b hb=>by simp at hb;omega) ?_,hF,.ptr nid 0 cs _ (z0i _ _ _) (by rw[z0s])⟩
 exact⟨w.heap.size,us.toArray,e,rfl,z1I w _,by simp[hc.1],fun i v u hv hu=>⟨hF.val (hc.2 i v u hv (by simpa using hu)).1,(hc.2 i v u hv (by simpa using hu)).2⟩⟩
theorem z7f(hS:SRel F S m w){nid:Nat}(hid:S nid=none){k:Nat}{xs:List Tree}(hk:0<k)(hx:∀x∈xs,Elt k x)(cap:Nat)(hcap:xs.length≤cap)(hm:cap≤maxLen){us:List Value}(hl:us.length=cap*k)
 (h1:∀u∈us,u.oneCell'=true) (hr:∀(j:Nat) (T:Tree) (u:Value),(flat xs)[j]? =some T→us[j]? =some u→TRep w (okB F S m w) T u) (e:TypeId):
 SRel F (upd S nid (.row k false xs)) (place m nid (some w.heap.size,cap)) (w.alloc (.cells us.toArray e))∧
 FrameExt F S m w (upd S nid (.row k false xs)) (place m nid (some w.heap.size,cap)) (w.alloc (.cells us.toArray e))∧
 ∀ok,VRel (upd S nid (.row k false xs)) (place m nid (some w.heap.size,cap)) (w.alloc (.cells us.toArray e)) ok (.row nid xs.length) (.slice (some ⟨w.heap.size,0,none⟩) xs.length cap):=by
 have hF:=z7e (F:=F) (S:=S) (m:=m) (w:=w) hid (.row k false xs) us.toArray e cap
 refine⟨hS.new hid hF (fun b hb=>z02 w _ b hb) (fun b hb=>by simp at hb;omega) ?_,hF,fun ok=> ?_⟩
 ·refine⟨hk,hx,hcap,hm,.inr ⟨w.heap.size,us.toArray,e,rfl,z1I w _,by simp[hl],fun j u hu=>h1 u (List.mem_of_getElem? (by simpa using hu)),fun j T u hj hu=>hF.tree (hr j T u hj (by simpa using hu))⟩⟩
 ·exact .row nid xs.length k false xs (some w.heap.size,cap) (z0i _ _ _) (Nat.le_refl _) (fun _=>z0s _ _ _)
theorem z1g{t:TypeId}{z:List Tree}(h:z3J P t=some z):∃v,tzero P t=some v∧∃vs:List Value,v.cells=vs.toArray∧z=vs.map .sc∧∀u∈vs,u.oneCell'=true:=by
 unfold z3J at h
 simp only[Option.bind_eq_some_iff] at h
 obtain⟨v,h1,h2⟩:=h
 simp only[y6e] at h2
 split at h2
 ·rename_i hall
  simp only[Option.some.injEq] at h2
  refine⟨v,h1,v.cells.toList,by simp,h2.symm,fun u hu=>by simpa using List.all_eq_true.1 hall u hu⟩
 ·cases h2
theorem CRel.scs{ok:Nat→Prop}{vs:List Value}(h:∀u∈vs,u.oneCell'=true):CRel S m w ok ((vs.map Tree.sc).map AVal.t) vs:=by
 refine⟨by simp,fun i v u hv hu=> ?_⟩
 simp only[List.map_map,List.getElem?_map,Option.map_eq_some_iff] at hv
 obtain⟨a,ha,rfl⟩:=hv
 rw[hu] at ha;cases ha
 have:=h _ (List.mem_of_getElem? hu)
 exact⟨.t _ _ (.sc _ this),this⟩
theorem z8f{e:TypeId}{nid:Nat}{δ:Dl}(h:y2I P e nid=some δ)(hS:SRel F S m w)(hid:S nid=none):Done F S m w δ.wr δ.val ((Instr.alloc e true (.tuple #[])).run P w):=by
 unfold y2I at h
 simp only[Option.bind_eq_some_iff] at h
 obtain⟨z,hz,h⟩:=h
 simp only[Option.some.injEq] at h
 subst h
 obtain⟨v,hv,vs,hvs,rfl,h1⟩:=z1g hz
 obtain⟨r1,r2,r3⟩:=y2T hS hid (CRel.scs h1) e
 exact⟨_,_,_,by simp[Instr.alloc,z0M hv,newVar,newRow,hvs],r1,r2,r3⟩
theorem y1Z{e:TypeId}{x:AVal}{nid:Nat}{δ:Dl}(h:boxK x nid=some δ)(hS:SRel F S m w)(hid:S nid=none){u:Value}(hx:VRel S m w (okB F S m w) x u):
 Done F S m w δ.wr δ.val ((Instr.box e u).run P w):=by
 unfold boxK at h
 obtain⟨hc,h⟩:=z0k h
 simp only[Option.some.injEq] at h
 subst h
 obtain⟨us,hus,hl,hr⟩:=VRel.cellsOf hx hc
 obtain⟨r1,r2,r3⟩:=y2T hS hid ⟨hl,hr⟩ e
 exact⟨_,_,_,by simp[Instr.box,newVar,newRow,hus],r1,r2,r3⟩
theorem z8g{t:TypeId}{parts:List (Nat×AVal)}{δ:Dl}(h:y2H P t parts=some δ)(hS:SRel F S m w){uparts:Array (Nat×Value)}(hl:uparts.size=parts.length)
 (hr:∀(i:Nat) (p:Nat×AVal) (q:Nat×Value),parts[i]? =some p→uparts[i]? =some q→p.1=q.1∧VRel S m w (okB F S m w) p.2 q.2):
 Done F S m w δ.wr δ.val ((Instr.build t uparts).run P w):=by
 unfold y2H at h
 simp only[Option.bind_eq_some_iff] at h
 obtain⟨z,hz,place,hp,h⟩:=h
 obtain⟨hall,h⟩:=z0k h
 simp only[Option.bind_eq_some_iff] at h
 obtain⟨cs,hf,h⟩:=h
 have:=z0d h;subst this
 obtain⟨v,hv,vs,hvs,rfl,h1⟩:=z1g hz
 obtain⟨us',hfill,hrel⟩:=z49 (ok:=okB F S m w) parts uparts.toList _ cs vs hf (by simpa using hl) (fun i p q hp hq=>by
  obtain⟨a,b⟩:=hr i p q hp (by simpa using hq)
  exact⟨a,b,List.all_eq_true.1 hall p (List.mem_of_getElem? hp)⟩) (CRel.scs h1)
 have hb:P.built t uparts.toList=some us'.toArray:=by
  unfold tzero at hv
  cases hi:P.info? t with
  |none=>simp[hi] at hv
  |some i=>
   simp only[hi,Option.bind_some] at hv
   unfold y2D at hp
   split at hp
   ·rename_i fs hu
    simp only[Option.map_eq_some_iff] at hp
    obtain⟨ps,hps,rfl⟩:=hp
    unfold z4H at hps
    simp only[Program.built,hi,hu,hv,hps,hvs]
    simpa using hfill
   ·rename_i n e hu
    simp only[Option.map_eq_some_iff] at hp
    obtain⟨s,hs,rfl⟩:=hp
    unfold tsz at hs
    cases hie:P.info? e with
    |none=>simp[hie] at hs
    |some ie=>
     simp[hie] at hs
     subst hs
     simp only[Program.built,hi,hu,hv,hie,hvs]
     exact hfill
   ·cases hp
 exact Done.same hS ⟨_,run_build w t uparts _ hb,VRel.aggV hrel.1 hrel.2⟩
end Go.Ab
end
section
set_option linter.unusedVariables false
namespace Go.Ab
variable {P:Program} {w:World} {F:Fen P} {S st:Store} {m:Place}
theorem z0N(hS:SRel F S m w){id b:Nat}{o o':Ob}(hid:S id=some o)(hlive:o.live=true)(hb:(m id).1=some b){w':World}
 (hos:w'.os=w.os) (htape:w'.tape=w.tape) (hout:w'.output=w.output) (hsz:w'.heap.size=w.heap.size) (hheap:∀c,c≠b→w'.heap[c]? =w.heap[c]?)
 (hlen:o.len≤o'.len) (hsh:o.same o')
 (ho':FrameExt F S m w (upd S id o') m w'→ORel (upd S id o') m w' (okB F (upd S id o') m w') o' (m id) (m.g id)):
 SRel F (upd S id o') m w'∧FrameExt F S m w (upd S id o') m w':=by
 have hF:FrameExt F S m w (upd S id o') m w':=by
  refine⟨hos,htape,hout,by omega,fun c hc hf=>hheap c ?_,fun i oi hi=> ?_,fun i oi hi hn=> ?_⟩
  ·rintro rfl
   rcases hf with hf|hf
   ·exact hS.avoid id o c hid (.inl hb) hf
   ·exact hf id o hid hlive (.inl hb)
  ·by_cases e:i=id
   ·subst e
    rw[hid] at hi;cases hi
    exact⟨o',z0i _ _ _,by omega,fun _=>rfl,fun h=>(by rw[hlive] at h;cases h),fun _ q=> .inl q,hsh⟩
   ·refine⟨oi,by rw[z0h e];exact hi,Nat.le_refl _,fun _=>rfl,fun h=>h,fun _ q=> .inl q,oi.same_refl⟩
  ·by_cases e:i=id
   ·subst e;rw[hid] at hn;cases hn
   ·rw[z0h e] at hi;rw[hi] at hn;cases hn
 have back:∀i oi,upd S id o' i=some oi→∃oi',S i=some oi':=by
  intro i oi h
  by_cases e:i=id
  ·subst e;exact⟨_,hid⟩
  ·rw[z0h e] at h;exact⟨_,h⟩
 refine⟨⟨fun i oi hi=> ?_,fun i j oi oj c hi hj h1 h2=> ?_,fun i oi c hi hm hFb=> ?_,fun i oi c hi hm=> ?_,fun c hc=>by rw[hsz];exact hS.low c hc,hS.held hF⟩,hF⟩
 ·by_cases e:i=id
  ·subst e
   rw[z0i] at hi;cases hi
   exact ho' hF
  ·rw[z0h e] at hi
   exact(hS.objs i oi hi).persist hF (fun c hc=>hheap c (fun e'=>by subst e';exact e (hS.inj i id _ _ _ hi hid hc (.inl hb))))
 ·obtain⟨_,hi'⟩:=back i oi hi
  obtain⟨_,hj'⟩:=back j oj hj
  exact hS.inj i j _ _ c hi' hj' h1 h2
 ·obtain⟨_,hi'⟩:=back i oi hi
  exact hS.avoid i _ c hi' hm hFb
 ·obtain⟨_,hi'⟩:=back i oi hi
  rw[hsz];exact hS.lt i _ c hi' hm
theorem z2o(w:World)(b c:Nat)(cs:Array Value)(h:c≠b):(w.setRow b cs).heap[c]? =w.heap[c]? :=setRow_other w b c cs h
theorem z2H{t:TypeId}{sz:Nat}(hsz:tsz P t=some sz){b off:Nat}{cur:Array Value}{e:TypeId}(hh:w.heap[b]? =some (.cells cur e (0,0))){u:Value}{vs:List Value}(hu:u.cells=vs.toArray)
 (hl:vs.length=sz) (hle:off+vs.length≤cur.size) (h1:∀v∈vs,v.oneCell'=true):
 (storeVar t ⟨b,off,none⟩ u).run P w= .ok () (w.setRow b (cur.toList.take off++vs++cur.toList.drop (off+vs.length)).toArray):=by
 have:=run_storeCells_at P b off e vs 0 cur w hh (by simpa using hle) h1
 simp only[Nat.add_zero] at this
 simp[storeVar,z0l hsz,hu,hl,this]
theorem y0u{ok:Nat→Prop}{cs:List AVal}{Ts:List Tree}(h:allT cs=some Ts){us:List Value}(hl:us.length=cs.length)
 (hr:∀(i:Nat) (v:AVal) (u:Value),cs[i]? =some v→us[i]? =some u→VRel S m w ok v u∧u.oneCell'=true):
 Ts.length=us.length∧(∀(i:Nat) (T:Tree) (u:Value),Ts[i]? =some T→us[i]? =some u→TRep w ok T u):=by
 have:=z1G h
 subst this
 simp only[List.length_map] at hl
 refine⟨hl.symm,fun i T u hT hu=> ?_⟩
 have:=(hr i (.t T) u (by simp[hT]) hu).1
 cases this with
 |t _ _ h=>exact h
theorem y0v{k:Nat}:∀{xs:List Tree} {i:Nat} {X X':Tree},(∀x∈xs,Elt k x)→xs[i]? =some X→X'.cells.length=k→
 flat (xs.set i X')=(flat xs).take (i*k)++X'.cells++(flat xs).drop (i*k+k)
 | [],i,X,X',_,h,_=>by simp at h
 |x::xs,0,X,X',h,hX,hl=>by
  have h1:=(h x (by simp)).1
  simp only[List.set_cons_zero,flat,Nat.zero_mul,List.take_zero,List.nil_append,Nat.zero_add]
  rw[List.drop_append,h1,List.drop_of_length_le (l:=x.cells) (by omega)]
  simp
 |x::xs,i+1,X,X',h,hX,hl=>by
  have h1:=(h x (by simp)).1
  simp at hX
  have ih:=y0v (xs:=xs) (X':=X') (fun y hy=>h y (by simp[hy])) hX hl
  simp only[List.set_cons_succ,flat,ih]
  rw[List.take_append,List.take_of_length_le (l:=x.cells) (by rw[h1,Nat.add_mul];omega),List.drop_append,List.drop_of_length_le (l:=x.cells) (by rw[h1,Nat.add_mul];omega),h1]
  simp only[List.nil_append,List.append_assoc]
  rw[show(i+1)*k-k=i*k by rw[Nat.add_mul];omega,show(i+1)*k+k-k=i*k+k by rw[Nat.add_mul];omega]
theorem z7g{k:Nat}{X X':Tree}{sub:Nat}{new:List Tree}(hX:Elt k X)(hn:∀T∈new,T.isCell=true)(h:z66 X sub new=some X'):
 sub+new.length≤k∧X'.cells=X.cells.take sub++new++X.cells.drop (sub+new.length)∧Elt k X':=by
 unfold z66 at h
 split at h
 ·rename_i cs
  simp only[Option.map_eq_some_iff] at h
  obtain⟨r,hr,rfl⟩:=h
  obtain⟨h1,rfl⟩:=z2G hr
  have hl:cs.length=k:=hX.1
  refine⟨by omega,rfl,?_,fun T hT=> ?_⟩
  ·simp[Tree.cells];omega
  ·simp only[Tree.cells,List.mem_append] at hT
   rcases hT with(hT|hT)|hT
   ·exact hX.2 T (List.mem_of_mem_take hT)
   ·exact hn T hT
   ·exact hX.2 T (List.mem_of_mem_drop hT)
 ·rename_i hna
  split at h
  ·rename_i T
   obtain⟨h1,h2⟩:=z0k h
   have h1:=Nat.eq_of_beq_eq_true h1
   simp only[Option.some.injEq] at h2
   subst h2;subst h1
   have hT:=hn T (by simp)
   have hTc:T.cells=[T]:=by cases T<;>first|rfl|simp[Tree.isCell] at hT
   have hXc:X.cells=[X]:=by cases X<;>first|rfl|exact absurd rfl (hna _)
   have hk:=hX.1
   rw[hXc] at hk
   simp at hk
   subst hk
   exact⟨by simp,by rw[hTc,hXc];simp,by rw[Elt,hTc];exact⟨rfl,fun U hU=>by simp at hU;subst hU;exact hT⟩⟩
  ·cases h
theorem y0w{xs:List Tree}{i:Nat}{T:Tree}:matC (xs.set i T) none=(matC xs none).set i (.t T):=by simp[matC,List.map_set]
theorem z8h{t:TypeId}{sz id i:Nat}{v:AVal}{xs xs':List Tree}{h':Option (Nat×Nat×Nat)}(hsz:tsz P t=some sz)(h1:sz=1)(hs2:S id=some (.mat false xs none))(hi:i<xs.length)(hcv:cellsV v=[v])(hcell:z0H v=true)
 (hx:matC xs' h'=(matC xs none).set i v) (hxl:xs'.length=xs.length) (hxc:∀x∈xs',x.isCell=true) (hS:SRel F S m w) {ua uv:Value} (ha:VRel S m w (okB F S m w) (.mptr id i) ua) (hv:VRel S m w (okB F S m w) v uv):
 ∃w' m',(Instr.storeAt t ua uv).run P w= .ok () w'∧SRel F (app S [(id,.mat false xs' h')]) m' w'∧FrameExt F S m w (app S [(id,.mat false xs' h')]) m' w':=by
 obtain⟨vs,hvs,hvl,hvr⟩:=VRel.cellsOf hv (by rw[hcv];simp[hcell])
 rw[hcv] at hvl hvr
 cases ha with
 |mptr _ _ fz0 xs0 hh0 b hs' hm=>
  obtain⟨⟨b',us,e,q1,q2,q3,q4⟩,r1,r2,r3⟩:=hS.objs id _ hs2
  rw[hm] at q1;cases q1
  rw[z1F] at q3
  have hrun:=z2H (P:=P) hsz (off:=i) q2 hvs (by rw[hvl];simp[h1]) (by rw[hvl];simp;omega) (fun u hu=>by
   obtain⟨j,hj,rfl⟩:=List.mem_iff_getElem.1 hu
   exact(hvr j _ _ (List.getElem?_eq_getElem (by omega)) (List.getElem?_eq_getElem hj)).2)
  have key:=z0N (o':= .mat false xs' h') hS hs2 rfl hm (w':=w.setRow b (us.toList.take i++vs++us.toList.drop (i+vs.length)).toArray)
   rfl rfl rfl (by simp) (fun c hc=>z2o w b c _ hc) (by simp[Ob.len];omega) (by simp[Ob.same];omega) (fun hF=>by
    have hcr:CRel S m w (okB F S m w) (matC xs none) us.toList:=⟨by rw[z1F];simpa using q3,fun i v u a b=>q4 i v u a (by simpa using b)⟩
    have:=hcr.splice ⟨hvl,hvr⟩ (off:=i) (by rw[z1F];simp;omega)
    have es:(matC xs none).take i++[v]++(matC xs none).drop (i+[v].length)=(matC xs none).set i v:=by
     rw[List.set_eq_take_append_cons_drop,if_pos (by rw[z1F];exact hi)];simp
    rw[es,←hx] at this
    exact⟨⟨b,_,e,hm,setRow_heap w b us _ e _ q2,by simpa using this.1,fun i v u a b=>⟨hF.val (this.2 i v u a (by simpa using b)).1,(this.2 i v u a (by simpa using b)).2⟩⟩,by rw[r1,hxl],by rw[hxl];exact r2,hxc⟩)
  exact⟨w.setRow b (us.toList.take i++vs++us.toList.drop (i+vs.length)).toArray,m,by simp[Instr.storeAt,Instr.sureAddr,hrun],key.1,key.2⟩
theorem z8i{t:TypeId}{a v:AVal}{c:Orc}{δ:Dl}(h:y2E P t a v st c=some δ)(hc:All δ.cnd)(hst:∀id o,st id=some o→S id=some o)(hS:SRel F S m w)
 {ua uv:Value} (ha:VRel S m w (okB F S m w) a ua) (hv:VRel S m w (okB F S m w) v uv):
 ∃w' m',(Instr.storeAt t ua uv).run P w= .ok () w'∧SRel F (app S δ.wr) m' w'∧FrameExt F S m w (app S δ.wr) m' w'∧δ.val= .junk:=by
 unfold y2E at h
 split at h
 ·rename_i sz id off hsz
  split at h
  rotate_left
  ·cases h
  rename_i cs hs
  simp only at h
  obtain⟨hcond,h⟩:=z0k h
  simp only[Bool.and_eq_true] at hcond
  have hlen:=Nat.eq_of_beq_eq_true hcond.1
  simp only[Option.bind_eq_some_iff] at h
  obtain⟨cs',hset,h⟩:=h
  simp only[Option.some.injEq] at h
  subst h
  obtain⟨hle,rfl⟩:=z2G hset
  have hs2:=hst id _ hs
  obtain⟨vs,hvs,hvl,hvr⟩:=VRel.cellsOf hv hcond.2
  cases ha with
  |ptrG _ _ _ hs'=>rw[hs2] at hs';cases hs'
  |ptr _ _ cs0 b hs' hm=>
   obtain⟨b',us,e,h1,h2,h3,h4⟩:=hS.objs id _ hs2
   rw[hm] at h1;cases h1
   have hrun:=z2H (P:=P) hsz (off:=off) h2 hvs (by rw[hvl,hlen]) (by rw[hvl,h3];omega) (fun u hu=>by
    obtain⟨i,hi,rfl⟩:=List.mem_iff_getElem.1 hu
    exact(hvr i _ _ (List.getElem?_eq_getElem (by omega)) (List.getElem?_eq_getElem hi)).2)
   have key:=z0N (o':= .box (cs.take off++cellsV v++cs.drop (off+(cellsV v).length))) hS hs2 rfl hm (w':=w.setRow b (us.toList.take off++vs++us.toList.drop (off+vs.length)).toArray)
    rfl rfl rfl (by simp) (fun c hc=>z2o w b c _ hc) (by simp[Ob.len]) (by simp[Ob.same];omega) (fun hF=>by
     have hcr:CRel S m w (okB F S m w) cs us.toList:=⟨by simpa using h3,fun i v u a b=>h4 i v u a (by simpa using b)⟩
     have:=hcr.splice ⟨hvl,hvr⟩ hle
     exact⟨b,_,e,hm,setRow_heap w b us _ e _ h2,by simpa using this.1,fun i v u a b=>⟨hF.val (this.2 i v u a (by simpa using b)).1,(this.2 i v u a (by simpa using b)).2⟩⟩)
   exact⟨w.setRow b (us.toList.take off++vs++us.toList.drop (off+vs.length)).toArray,m,by simp[Instr.storeAt,Instr.sureAddr,hrun],key.1,key.2,rfl⟩
 ·rename_i sz id n i sub hsz
  split at h
  rotate_left
  ·cases h
  rename_i k xs hs
  simp only at h
  split at h
  rotate_left
  ·cases h
  rename_i v' f p hsnap
  simp only[Option.bind_eq_some_iff] at h
  obtain⟨new,hnew,h⟩:=h
  obtain⟨hcond,h⟩:=z0k h
  simp only[Bool.and_eq_true,Bool.not_eq_true'] at hcond
  obtain⟨⟨hlen,hcell⟩,hnotid⟩:=hcond
  have hlen:=Nat.eq_of_beq_eq_true hlen
  simp only[Option.bind_eq_some_iff] at h
  obtain⟨X',hset,h⟩:=h
  simp only[Option.some.injEq] at h
  subst h
  rw[z0A] at hc
  simp only[All] at hc
  obtain⟨hp,hn,hX,-⟩:=hc
  generalize eltOf c xs i=X at hset hX
  have hs2:=hst id _ hs
  have hsn:=z0u hst hS hsnap hp hv
  obtain⟨r1,r2,r3,r4⟩:=z1f f S hS hsn.1
  have hv':=hsn.2 f hsn.1 (fun x hx=>hx)
  have hcells:∀T∈new,T.isCell=true:=fun T hT=>List.all_eq_true.1 hcell T hT
  have hcv:(cellsV v').all z0H=true:=by
   rw[z1G hnew]
   simpa[z0H] using hcell
  obtain⟨vs,hvs,hvl,hvr⟩:=VRel.cellsOf hv' hcv
  obtain⟨t1,t2⟩:=y0u hnew hvl hvr
  have hid:app S f id=some (.row k false xs):=by
   rw[r4 id (fun hmem=>by
    have:=z0D.2 hmem
    rw[this] at hnotid;cases hnotid)]
   exact hs2
  cases ha with
  |eptrG _ _ _ _ _ _ hs0=>rw[hs2] at hs0;cases hs0
  |eptr _ _ _ _ k0 fz0 xs0 b hs0 hn0 hu0=>
   rw[hs2] at hs0;cases hs0
   have hm:=hu0 hn
   obtain⟨a1,a2,a3,a4,a5⟩:=r1.objs id _ hid
   rcases a5 with⟨a5,_⟩| ⟨b',us,e,h1,h2,h3,h4,h5⟩
   ·rw[hm] at a5;cases a5
   rw[hm] at h1;cases h1
   have hE:=a2 X (List.mem_of_getElem? hX)
   obtain⟨s1,s2,s3⟩:=z7g hE hcells hset
   have hil:i<xs.length:=(List.getElem?_eq_some_iff.1 hX).1
   have hbig:(i+1)*k≤us.size:=by rw[h3];exact Nat.mul_le_mul_right k (by omega)
   rw[Nat.add_mul] at hbig
   have hvs1:∀u∈vs,u.oneCell'=true:=fun u hu=>by
    obtain⟨q,hq,rfl⟩:=List.mem_iff_getElem.1 hu
    exact(hvr q _ _ (List.getElem?_eq_getElem (by omega)) (List.getElem?_eq_getElem hq)).2
   have hrun:=z2H (P:=P) hsz (off:=i*k+sub) h2 hvs (by rw[←t1,hlen]) (by omega) hvs1
   have hfl:flat (xs.set i X')=(flat xs).take (i*k+sub)++new++(flat xs).drop (i*k+sub+new.length):=by
    rw[y0v a2 hX s3.1,s2]
    have e1:X.cells.take sub=((flat xs).drop (i*k)).take sub:=by
     apply List.ext_getElem?
     intro j
     simp only[List.getElem?_take,List.getElem?_drop]
     split
     ·rename_i hj
      rw[z3a a2 hX (by omega)]
     ·rfl
    have e2:X.cells.drop (sub+new.length)++(flat xs).drop (i*k+k)=(flat xs).drop (i*k+sub+new.length):=by
     have hfl:=z1c a2
     have hxl:(i+1)*k≤(flat xs).length:=by rw[hfl];exact Nat.mul_le_mul_right k (by omega)
     rw[Nat.add_mul] at hxl
     apply List.ext_getElem?
     intro j
     by_cases hj:sub+new.length+j<k
     ·rw[List.getElem?_append_left (by simp[hE.1];omega),List.getElem?_drop,List.getElem?_drop,show i*k+sub+new.length+j=i*k+(sub+new.length+j) by omega,z3a a2 hX hj]
     ·rw[List.getElem?_append_right (by simp[hE.1];omega),List.getElem?_drop,List.getElem?_drop]
      simp only[List.length_drop,hE.1]
      congr 1
      omega
    rw[e1]
    simp only[List.append_assoc]
    rw[e2]
    rw[←List.append_assoc,←List.take_add]
   have key:=z0N (o':= .row k false (xs.set i X')) r1 hid rfl hm (w':=w.setRow b (us.toList.take (i*k+sub)++vs++us.toList.drop (i*k+sub+vs.length)).toArray)
    rfl rfl rfl (by simp) (fun c hc=>z2o w b c _ hc) (by simp[Ob.len]) (by simp[Ob.same]) (fun hF=>by
     refine⟨a1,fun x hx=> ?_,by simpa using a3,a4,.inr ⟨b,_,e,hm,setRow_heap w b us _ e _ h2,by simp;omega,fun j u hu=> ?_,fun j T u hT hu=> ?_⟩⟩
     ·rcases List.mem_or_eq_of_mem_set hx with hx|rfl
      ·exact a2 x hx
      ·exact s3
     ·have hu:(us.toList.take (i*k+sub)++vs++us.toList.drop (i*k+sub+vs.length))[j]? =some u:=by simpa using hu
      rcases List.mem_append.1 (List.mem_of_getElem? hu) with hu|hu
      ·rcases List.mem_append.1 hu with hu|hu
       ·obtain⟨q,hq⟩:=List.getElem?_of_mem (List.mem_of_mem_take hu)
        exact h4 q u (by simpa using hq)
       ·exact hvs1 u hu
      ·obtain⟨q,hq⟩:=List.getElem?_of_mem (List.mem_of_mem_drop hu)
       exact h4 q u (by simpa using hq)
     ·have hu:(us.toList.take (i*k+sub)++vs++us.toList.drop (i*k+sub+vs.length))[j]? =some u:=by simpa using hu
      rw[hfl] at hT
      have hfll:=z1c a2
      have hxl:(i+1)*k≤(flat xs).length:=by rw[hfll];exact Nat.mul_le_mul_right k (by omega)
      rw[Nat.add_mul] at hxl
      refine hF.tree ?_
      by_cases c1:j<i*k+sub
      ·rw[List.getElem?_append_left (by simp;omega),List.getElem?_append_left (by simp;omega),List.getElem?_take,if_pos c1] at hT
       rw[List.getElem?_append_left (by simp;omega),List.getElem?_append_left (by simp;omega),List.getElem?_take,if_pos c1] at hu
       exact h5 j T u hT (by simpa using hu)
      ·by_cases c2:j<i*k+sub+new.length
       ·have q1:((flat xs).take (i*k+sub)).length=i*k+sub:=by simp;omega
        have q2:(us.toList.take (i*k+sub)).length=i*k+sub:=by simp;omega
        rw[List.getElem?_append_left (by simp;omega),List.getElem?_append_right (by omega),q1] at hT
        rw[List.getElem?_append_left (by simp;omega),List.getElem?_append_right (by omega),q2] at hu
        exact t2 _ T u hT hu
       ·have q1:((flat xs).take (i*k+sub)++new).length=i*k+sub+new.length:=by simp;omega
        have q2:(us.toList.take (i*k+sub)++vs).length=i*k+sub+vs.length:=by simp;omega
        rw[List.getElem?_append_right (by omega),q1,List.getElem?_drop] at hT
        rw[List.getElem?_append_right (by omega),q2,List.getElem?_drop] at hu
        rw[t1] at hT
        exact h5 _ T u hT (by simpa using hu))
   refine⟨w.setRow b (us.toList.take (i*k+sub)++vs++us.toList.drop (i*k+sub+vs.length)).toArray,m,by simp[Instr.storeAt,Instr.sureAddr,hrun],?_,?_,rfl⟩
   ·rw[z1s];exact key.1
   ·rw[z1s];exact r2.trans hS key.2
 ·rename_i sz id i hsz
  split at h
  rotate_left
  ·cases h
  rename_i xs hs
  obtain⟨h1,h⟩:=z0k h
  have h1:=Nat.eq_of_beq_eq_true h1
  have hs2:=hst id _ hs
  obtain⟨_,_,_,r3⟩:=hS.objs id _ hs2
  split at h
  ·rename_i r n _
   cases hb:Nat.beq r id with
   |true=>rw[hb] at h;cases h
   |false=>
   rw[hb] at h
   simp only[cond_false,Option.some.injEq] at h
   subst h
   obtain⟨w',m',k1,k2,k3⟩:=z8h (xs':=xs) (h':=some (i,r,n)) hsz h1 hs2 hc.1 rfl rfl rfl rfl r3 hS ha hv
   exact⟨w',m',k1,k2,k3,rfl⟩
  ·rename_i T _
   obtain⟨hT,h⟩:=z0k h
   simp only[Option.some.injEq] at h
   subst h
   obtain⟨w',m',k1,k2,k3⟩:=z8h (xs':=xs.set i T) (h':=none) hsz h1 hs2 hc.1 (by cases T<;>first|rfl|simp[Tree.isCell] at hT) (by simpa[z0H] using hT) y0w (by simp) (fun x hx=>by
    rcases List.mem_or_eq_of_mem_set hx with hx|rfl
    ·exact r3 x hx
    ·exact hT) hS ha hv
   exact⟨w',m',k1,k2,k3,rfl⟩
  ·cases h
 ·cases h
end Go.Ab
end
section
set_option linter.unusedVariables false
namespace Go.Ab
variable {P:Program} {w:World} {F:Fen P} {S st:Store} {m:Place}
theorem z2c{α:Type}(l:List α)(n:Nat):(repl l n).length=n*l.length:=by
 induction n with
 |zero=>simp[repl]
 |succ n ih=>simp[repl,ih,Nat.add_mul];omega
theorem z3R{α:Type}[Inhabited α](l:List α):∀(n j:Nat),j<n*l.length→(repl l n)[j]? =some (l[j%l.length]!)
 |0,j,h=>by simp at h
 |n+1,j,h=>by
  by_cases hj:j<l.length
  ·simp only[repl]
   rw[List.getElem?_append_left hj,Nat.mod_eq_of_lt hj,List.getElem?_eq_getElem hj,List.getElem!_eq_getElem?_getD,List.getElem?_eq_getElem hj]
   rfl
  ·simp only[repl]
   have hs:(n+1)*l.length=n*l.length+l.length:=Nat.succ_mul _ _
   rw[List.getElem?_append_right (by omega),z3R l n (j-l.length) (by omega)]
   rw[Nat.mod_eq_sub_mod (a:=j) (by omega)]
theorem z2p(z:Array Value)(n:Nat):(Array.range (n*z.size)).map (fun i=>z[i%z.size]!)=(repl z.toList n).toArray:=by
 apply Array.ext_getElem?
 intro j
 simp only[Array.getElem?_map,List.getElem?_toArray]
 by_cases hj:j<n*z.size
 ·rw[z3R z.toList n j (by simpa using hj)]
  simp[hj,getElem!_def]
 ·rw[List.getElem?_eq_none (by rw[z2c];simpa using hj)]
  simp[hj]
theorem z3q(f:Nat→Value):(Array.range 0).map f=#[]:=by simp[Array.range]
theorem z7h{α β:Type}(f:α→β)(l:List α)(n:Nat):repl (l.map f) n=(repl l n).map f:=by
 induction n with
 |zero=>rfl
 |succ n ih=>simp[repl,ih]
theorem z2d{α:Type}{l:List α}{n:Nat}{x:α}(h:x∈repl l n):x∈l:=by
 induction n with
 |zero=>simp[repl] at h
 |succ n ih=>
  simp only[repl,List.mem_append] at h
  exact h.elim id ih
theorem z20{k:Nat}(h:Nat.blt 0 k=true):0<k:=Nat.lt_of_succ_le (Nat.le_of_ble_eq_true h)
theorem z5a{ag:Bool}{l:List Tree}{x:Tree}(h:mkT ag l=some x)(hc:∀T∈l,T.isCell=true):x.cells=l:=by
 cases ag with
 |true=>simp[mkT] at h;subst h;rfl
 |false=>
  match l with
  | [T]=>
   simp[mkT] at h;subst h
   have hT:=hc T (by simp)
   cases T<;>first|rfl|simp[Tree.isCell] at hT
  | []=>simp[mkT] at h
  |_::_::_=>simp[mkT] at h
theorem z4u{ag:Bool}{k:Nat}:∀{n:Nat} {l xs:List Tree},group ag k n l=some xs→(∀T∈l,T.isCell=true)→flat xs=l∧xs.length=n∧∀x∈xs,Elt k x
 |0,[],xs,h,_=>by simp[group] at h;subst h;exact⟨rfl,rfl,fun x hx=>by simp at hx⟩
 |0,_::_,xs,h,_=>by simp[group] at h
 |n+1,l,xs,h,hc=>by
  simp only[group] at h
  split at h
  rotate_left
  ·cases h
  rename_i x r h1 h2
  obtain⟨h3,h4⟩:=z0k h
  simp only[Option.some.injEq] at h4
  subst h4
  have h3:=Nat.eq_of_beq_eq_true h3
  have hcx:=z5a h1 (fun T hT=>hc T (List.mem_of_mem_take hT))
  obtain⟨g1,g2,g3⟩:=z4u h2 (fun T hT=>hc T (List.mem_of_mem_drop hT))
  refine⟨by simp[flat,hcx,g1],by simp[g2],fun y hy=> ?_⟩
  simp only[List.mem_cons] at hy
  rcases hy with rfl|hy
  ·exact⟨by rw[hcx];exact h3,fun T hT=>hc T (List.mem_of_mem_take (hcx▸hT))⟩
  ·exact g3 y hy
theorem z1U{t e:TypeId}(h:telem P t=some e):P.underlying t=some (.slice e):=by
 unfold telem at h
 split at h
 ·rename_i e' hu;simp at h;subst h;exact hu
 ·cases h
theorem z8j{α β:Type}{l:List α}{r:List β}{i:Nat}{p:α×β}(h:(l.zip r)[i]? =some p):l[i]? =some p.1∧r[i]? =some p.2:=by
 rw[List.getElem?_zip_eq_some] at h
 exact h
theorem z4v{t:TypeId}{len nid:Nat}{parts:List (Nat×AVal)}{δ:Dl}(h:z3u P t len parts st nid=some δ)(hc:All δ.cnd)(hst:∀id o,st id=some o→S id=some o)(hS:SRel F S m w)(hid:S nid=none)
 {uparts:Array (Nat×Value)} (hl:uparts.size=parts.length)
 (hr:∀(i:Nat) (p:Nat×AVal) (q:Nat×Value),parts[i]? =some p→uparts[i]? =some q→p.1=q.1∧VRel S m w (okB F S m w) p.2 q.2):
 Done F S m w δ.wr δ.val ((Instr.buildSlice t len uparts).run P w):=by
 unfold z3u at h
 simp only[Option.bind_eq_some_iff] at h
 obtain⟨e,he,k,hk,ag,hag,z,hz,h⟩:=h
 split at h
 rotate_left
 ·cases h
 rename_i vs f p hsn
 obtain⟨hcond,h⟩:=z0k h
 simp only[Bool.and_eq_true] at hcond
 obtain⟨⟨⟨hbig,hk0⟩,hzl⟩,hcell⟩:=hcond
 have hbig:=Nat.le_of_ble_eq_true hbig
 have hk0:0<k:=z20 hk0
 have hzl:=Nat.eq_of_beq_eq_true hzl
 simp only[Option.bind_eq_some_iff] at h
 obtain⟨cs,hf,ts,hts,xs,hxs,h⟩:=h
 simp only[Option.some.injEq] at h
 subst h
 have hu:=z1U he
 obtain⟨zv,hzv,zs,hzs,rfl,hz1⟩:=z1g hz
 simp only[List.length_map] at hzl
 have hsnap:=z10 (us:=uparts.toList.map (·.2)) hst hS hsn hc (by simp[hl]) (fun i v u hv hu'=>by
  simp only[List.getElem?_map,Option.map_eq_some_iff] at hv hu'
  obtain⟨a,ha,rfl⟩:=hv
  obtain⟨b,hb,rfl⟩:=hu'
  exact(hr i a b ha (by simpa using hb)).2)
 obtain⟨q1,q2,q3⟩:=hsnap
 obtain⟨r1,r2,r3,r4⟩:=z1f f S hS q2
 have hvl:vs.length=parts.length:=by rw[q1];simp[hl]
 have hparts:((parts.map (·.1)).zip vs).length=parts.length:=by simp[hvl]
 obtain⟨us',hfill,hcr⟩:=z49 (ok:=okB F (app S f) m w) ((parts.map (·.1)).zip vs) uparts.toList _ cs (repl zs len) hf (by rw[hparts];simpa using hl) (fun i p q hp hq=>by
  obtain⟨h1,h2⟩:=z8j hp
  simp only[List.getElem?_map,Option.map_eq_some_iff] at h1
  obtain⟨a,ha,ha'⟩:=h1
  have hq':uparts[i]? =some q:=by simpa using hq
  refine⟨by rw[←ha'];exact(hr i a q ha hq').1,q3 f q2 (fun x hx=>hx) i p.2 q.2 h2 (by simp[hq']),List.all_eq_true.1 hcell p.2 (List.mem_of_getElem? h2)⟩)
  (by rw[z7h];exact CRel.scs (fun u hu=>hz1 u (z2d hu)))
 obtain⟨t1,t2⟩:=y0u hts hcr.1 hcr.2
 have hus1:∀u∈us',u.oneCell'=true:=fun u hu=>by
  obtain⟨i,hi,rfl⟩:=List.mem_iff_getElem.1 hu
  have:i<cs.length:=by rw[←hcr.1];exact hi
  exact(hcr.2 i _ _ (List.getElem?_eq_getElem this) (List.getElem?_eq_getElem hi)).2
 have hcellT:∀T∈ts,T.isCell=true:=fun T hT=>by
  obtain⟨i,hi,rfl⟩:=List.mem_iff_getElem.1 hT
  have h1:=t2 i _ _ (List.getElem?_eq_getElem hi) (List.getElem?_eq_getElem (by omega))
  have h2:=hus1 us'[i] (List.getElem_mem _)
  generalize ts[i]=T at h1
  generalize us'[i]=u at h1 h2
  cases h1 with
  |agg=>simp[Value.oneCell'] at h2
  |sc=>rfl
  |lst=>rfl
 obtain⟨g1,g2,g3⟩:=z4u hxs hcellT
 have hlen:us'.length=len*k:=by rw[←t1,←g1,z1c g3,g2]
 have hnid:app S f nid=none:=by
  rw[r4 nid (fun hmem=>by
   obtain⟨x,hx,hx'⟩:=List.mem_map.1 hmem
   obtain⟨k',fz,xs',h1,_⟩:=q2 x.1 x.2 hx
   rw[hx',hid] at h1;cases h1)]
  exact hid
 obtain⟨n1,n2,n3⟩:=z7f r1 hnid (xs:=xs) hk0 g3 len (by omega) (by simp only[maxLen];have:len≤len*k:=Nat.le_mul_of_pos_right _ hk0;omega) hlen hus1 (fun j T u hT hu=>t2 j T u (by rw[←g1];exact hT) hu) e
 refine⟨.slice (some ⟨w.heap.size,0,none⟩) len len,w.alloc (.cells us'.toArray e),place m nid (some w.heap.size,len),?_,by rw[z1s];exact n1,by rw[z1s];exact r2.trans hS n2,by rw[z1s];have:=n3 (okB F (app (app S f) [(nid,Ob.row k false xs)]) (place m nid (some w.heap.size,len)) (w.alloc (Obj.cells us'.toArray e)));rw[g2] at this;exact this⟩
 have hzsz:zv.cells.size=k:=by rw[hzs];simpa using hzl
 have hng:¬(len*k>2^24):=by omega
 have hfill':Instr.fill (fun i=>some (i*k,k)) ((Array.range (len*k)).map (fun i=>zv.cells[i%zv.cells.size]!)) uparts.toList=some us'.toArray:=by
  rw[←hfill,←hzsz,z2p,hzs]
 by_cases h0:len*k=0
 ·have hl0:len=0:=by
   rcases Nat.mul_eq_zero.1 h0 with h|h
   ·exact h
   ·omega
  subst hl0
  have hf0:Instr.fill (fun i=>some (i*k,k)) #[] uparts.toList=some us'.toArray:=hfill
  simp[Instr.buildSlice,run_underlying hu,z0l hk,z3q,hf0,newRow]
 ·simp only[Instr.buildSlice,Sem.run_bind,run_underlying hu,z0l hk,Result.andThen_ok]
  simp only[hng,if_false,h0,Sem.run_bind,z0M hzv,Result.andThen_ok,Sem.run_pure,hfill']
  simp[newRow]
theorem y6S(hS:SRel F S m w){nid:Nat}(hid:S nid=none){cs:List AVal}{us:List Value}(hc:CRel S m w (okB F S m w) cs us)(e:TypeId)(n:Nat):
 SRel F (upd S nid (.box cs)) (place m nid (some w.heap.size,n)) (w.alloc (.cells us.toArray e))∧
 FrameExt F S m w (upd S nid (.box cs)) (place m nid (some w.heap.size,n)) (w.alloc (.cells us.toArray e))∧
 ∀ok,VRel (upd S nid (.box cs)) (place m nid (some w.heap.size,n)) (w.alloc (.cells us.toArray e)) ok (.bsl nid n) (.slice (some ⟨w.heap.size,0,none⟩) n n):=by
 have hF:=z7e (F:=F) (S:=S) (m:=m) (w:=w) hid (.box cs) us.toArray e n
 refine⟨hS.new hid hF (fun b hb=>z02 w _ b hb) (fun b hb=>by simp at hb;omega) ?_,hF,fun ok=> .bsl nid n cs _ (z0i _ _ _) (z0s _ _ _)⟩
 exact⟨w.heap.size,us.toArray,e,rfl,z1I w _,by simp[hc.1],fun i v u hv hu=>⟨hF.val (hc.2 i v u hv (by simpa using hu)).1,(hc.2 i v u hv (by simpa using hu)).2⟩⟩
theorem z5F{t:TypeId}{len nid:Nat}{parts:List (Nat×AVal)}{δ:Dl}(h:z5x P t len parts nid=some δ)(hS:SRel F S m w)(hid:S nid=none)
 {uparts:Array (Nat×Value)} (hl:uparts.size=parts.length)
 (hr:∀(i:Nat) (p:Nat×AVal) (q:Nat×Value),parts[i]? =some p→uparts[i]? =some q→p.1=q.1∧VRel S m w (okB F S m w) p.2 q.2):
 Done F S m w δ.wr δ.val ((Instr.buildSlice t len uparts).run P w):=by
 unfold z5x at h
 simp only[Option.bind_eq_some_iff] at h
 obtain⟨e,he,k,hk,z,hz,h⟩:=h
 obtain⟨hcond,h⟩:=z0k h
 simp only[Bool.and_eq_true] at hcond
 obtain⟨⟨⟨hbig,hk0⟩,hzl⟩,hcell⟩:=hcond
 have hbig:=Nat.le_of_ble_eq_true hbig
 have hk0:0<len*k:=z20 hk0
 have hzl:=Nat.eq_of_beq_eq_true hzl
 simp only[Option.bind_eq_some_iff] at h
 obtain⟨cs,hf,h⟩:=h
 simp only[Option.some.injEq] at h
 subst h
 have hu:=z1U he
 obtain⟨zv,hzv,zs,hzs,rfl,hz1⟩:=z1g hz
 simp only[List.length_map] at hzl
 obtain⟨us',hfill,hcr⟩:=z49 (ok:=okB F S m w) parts uparts.toList _ cs (repl zs len) hf (by simpa using hl) (fun i p q hp hq=>by
  obtain⟨a,b⟩:=hr i p q hp (by simpa using hq)
  exact⟨a,b,List.all_eq_true.1 hcell p (List.mem_of_getElem? hp)⟩)
  (by rw[z7h];exact CRel.scs (fun u hu=>hz1 u (z2d hu)))
 obtain⟨n1,n2,n3⟩:=y6S hS hid hcr e len
 refine⟨.slice (some ⟨w.heap.size,0,none⟩) len len,w.alloc (.cells us'.toArray e),place m nid (some w.heap.size,len),?_,n1,n2,n3 _⟩
 have hzsz:zv.cells.size=k:=by rw[hzs];simpa using hzl
 have hng:¬(len*k>2^24):=by omega
 have hfill':Instr.fill (fun i=>some (i*k,k)) ((Array.range (len*k)).map (fun i=>zv.cells[i%zv.cells.size]!)) uparts.toList=some us'.toArray:=by
  rw[←hfill,←hzsz,z2p,hzs]
 simp only[Instr.buildSlice,Sem.run_bind,run_underlying hu,z0l hk,Result.andThen_ok]
 simp only[hng,if_false,show¬len*k=0 by omega,Sem.run_bind,z0M hzv,Result.andThen_ok,Sem.run_pure,hfill']
 simp[newRow]
theorem z9y:∀{l l':List Tree},TWs l l'→l.length=l'.length∧∀(i:Nat) (T T':Tree),l[i]? =some T→l'[i]? =some T'→(T=T'∨(T= .sc (.slice none 0 0)∧∃k,0<k∧T'= .lst k []))
 | [],[],_=>⟨rfl,fun i T T' h=>by simp at h⟩
 |T::l,T'::l',h=>by
  obtain⟨a,b⟩:=z9y h.2
  refine⟨by simp[a],fun i S S' h1 h2=> ?_⟩
  cases i with
  |zero=>simp at h1 h2;subst h1;subst h2;exact h.1
  |succ i=>exact b i S S' (by simpa using h1) (by simpa using h2)
 | [],_::_,h=>h.elim
 |_::_,[],h=>h.elim
theorem y40(l:List Tree):TWs l l:=by
 induction l with
 |nil=>trivial
 |cons T l ih=>exact⟨.inl rfl,ih⟩
theorem z3r{t e:TypeId}{k b:Nat}{zv:Value}{zs:List Value}{n mm:Int}{k1 k2:IntKind}(hu:P.underlying t=some (.slice e))(hk:tsz P e=some k)(hb:tby P e=some b)(hzv:tzero P e=some zv)(hzs:zv.cells=zs.toArray)
 (hzl:zs.length=k) (hk0:0<k) (hb256:b≤256) (c1:0≤n) (c2:n≤mm) (c3:mm≤1099511627776):
 (Instr.makeSlice t (.int k1 n) (.int k2 mm)).run P w= .ok (.slice (some ⟨w.heap.size,0,none⟩) n.toNat mm.toNat) (w.alloc (.cells (repl zs mm.toNat).toArray e)):=by
 have hzsz:zv.cells.size=k:=by rw[hzs];simpa using hzl
 have w1:IntKind.i64.wrap n=n:=IntWalk.i64_in n (by omega)
 have w2:IntKind.i64.wrap mm=mm:=IntWalk.i64_in mm (by omega)
 have hbm:(b:Int)*mm≤2^48:=by
  have h1:(b:Int)*mm≤256*mm:=Int.mul_le_mul_of_nonneg_right (by omega) (by omega)
  omega
 have hi:∃i,P.info? e=some i∧i.bytes=b:=by
  unfold tby at hb
  cases hi:P.info? e with
  |none=>simp[hi] at hb
  |some i=>simp[hi] at hb;exact⟨i,rfl,hb⟩
 obtain⟨i,hi1,hi2⟩:=hi
 have t1:¬(mm<0):=by omega
 have t2:¬(n<0):=by omega
 have t3:¬(n>mm):=by omega
 have t4:¬((b:Int)*mm>2^48):=by omega
 have hrange:(Array.range (mm.toNat*k)).map (fun i=>zv.cells[i%zv.cells.size]!)=(repl zs mm.toNat).toArray:=by
  rw[←hzsz,z2p,hzs]
 by_cases h0:mm.toNat*k=0
 ·have hm0:mm.toNat=0:=by
   rcases Nat.mul_eq_zero.1 h0 with h|h
   ·exact h
   ·omega
  obtain rfl:mm=0:=by omega
  obtain rfl:n=0:=by omega
  simp[Instr.makeSlice,run_underlying hu,asInt,asIntOf,typeInfo,hi1,w1,z0l hk,newRow,repl,z3q]
 ·simp only[Instr.makeSlice,Sem.run_bind,run_underlying hu,asInt,asIntOf,Sem.run_pure,Result.andThen_ok,typeInfo,run_program,hi1,hi2,w1,w2]
  simp only[t1,t2,t3,t4,decide_false,Bool.or_self,Bool.false_eq_true,if_false,Sem.run_bind,run_askRoom,Result.andThen_ok,z0l hk,h0,z0M hzv,Sem.run_pure,hrange,newRow,run_newObj]
  rfl
theorem y6T(hS:SRel F S m w){nid:Nat}(hid:S nid=none){xs:List Tree}{us:List Value}(hx:∀x∈xs,x.isCell=true)(hl:us.length=xs.length)(hm:xs.length≤maxLen)(h1:∀u∈us,u.oneCell'=true)
 (hr:∀(i:Nat) (T:Tree) (u:Value),xs[i]? =some T→us[i]? =some u→TRep w (okB F S m w) T u) (e:TypeId):
 SRel F (upd S nid (.mat false xs none)) (place m nid (some w.heap.size,xs.length)) (w.alloc (.cells us.toArray e))∧
 FrameExt F S m w (upd S nid (.mat false xs none)) (place m nid (some w.heap.size,xs.length)) (w.alloc (.cells us.toArray e))∧
 ∀ok,VRel (upd S nid (.mat false xs none)) (place m nid (some w.heap.size,xs.length)) (w.alloc (.cells us.toArray e)) ok (.mat nid) (.slice (some ⟨w.heap.size,0,none⟩) xs.length xs.length):=by
 have hF:=z7e (F:=F) (S:=S) (m:=m) (w:=w) hid (.mat false xs none) us.toArray e xs.length
 refine⟨hS.new hid hF (fun b hb=>z02 w _ b hb) (fun b hb=>by simp at hb;omega) ?_,hF,fun ok=> ?_⟩
 ·refine⟨⟨w.heap.size,us.toArray,e,rfl,z1I w _,by simp[z1F,hl],fun i v u hv hu=> ?_⟩,rfl,hm,hx⟩
  simp only[matC,List.getElem?_map,Option.map_eq_some_iff] at hv
  obtain⟨T,hT,rfl⟩:=hv
  have hu':us[i]? =some u:=by simpa using hu
  exact⟨.t _ _ (hF.tree (hr i T u hT hu')),h1 u (List.mem_of_getElem? hu')⟩
 ·exact .mat nid false xs none (some w.heap.size,xs.length) (z0i _ _ _) (z0s _ _ _)
theorem z45{t:TypeId}{l c:AVal}{nid:Nat}{orc:Orc}{δ:Dl}(h:z4s P t l c nid orc=some δ)(hc:All δ.cnd)(hS:SRel F S m w)(hid:S nid=none)
 {ul uc:Value} (hl:VRel S m w (okB F S m w) l ul) (hcv:VRel S m w (okB F S m w) c uc):Done F S m w δ.wr δ.val ((Instr.makeSlice t ul uc).run P w):=by
 unfold z4s at h
 simp only[Option.bind_eq_some_iff] at h
 obtain⟨e,he,k,hk,b,hb,ag,hag,z,hz,x,hx,h⟩:=h
 split at h
 rotate_left
 ·cases h
 rename_i k1 n k2 mm
 cases hfx: !orc.fx.isEmpty with
 |true=>
  rw[hfx,cond_true] at h
  split at h
  rotate_left
  ·cases h
  rename_i y _
  obtain⟨hcond,h⟩:=z0k h
  simp only[Bool.and_eq_true] at hcond
  obtain⟨⟨⟨hk1,hzl⟩,hb256⟩,hyc⟩:=hcond
  have hk1:=Nat.eq_of_beq_eq_true hk1
  have hzl:=Nat.eq_of_beq_eq_true hzl
  have hb256:=Nat.le_of_ble_eq_true hb256
  simp only[Option.some.injEq] at h
  subst h
  simp only[All] at hc
  obtain⟨c1,c2,c3,c4,-⟩:=hc
  subst c2
  have:=VRel.sc_inv hl;subst this
  have:=VRel.sc_inv hcv;subst this
  have hu:=z1U he
  obtain⟨zv,hzv,zs,hzs,rfl,hz1⟩:=z1g hz
  simp only[List.length_map] at hzl
  have hxc:=z5a hx (fun T hT=>by
   obtain⟨v,_,rfl⟩:=List.mem_map.1 hT
   rfl)
  rw[hxc] at c4
  obtain⟨ty1,ty2⟩:=z9y c4
  have hyy:y.cells=[y]:=by cases y<;>first|rfl|simp[Tree.isCell] at hyc
  rw[hyy] at ty2
  have hus1:∀u∈repl zs n.toNat,u.oneCell'=true:=fun u hu=>hz1 u (z2d hu)
  have hrl:(repl zs n.toNat).length=n.toNat:=by rw[z2c,hzl,Nat.mul_one]
  obtain⟨n1,n2,n3⟩:=y6T hS hid (xs:=List.replicate n.toNat y) (us:=repl zs n.toNat) (fun z' hz'=>by rw[(List.mem_replicate.1 hz').2];exact hyc) (by rw[hrl];simp) (by simp only[maxLen,List.length_replicate];omega) hus1 (fun j T u hT hu=>by
   have hT':=List.getElem?_replicate.symm.trans hT
   split at hT'
   rotate_left
   ·cases hT'
   rename_i hj
   cases hT'
   have e2:=z3R zs n.toNat j (by rw[hzl];omega)
   rw[hu,hzl,Nat.mod_one] at e2
   have e4:zs[0]? =some u:=by
    rw[e2,List.getElem!_eq_getElem?_getD,List.getElem?_eq_getElem (by omega)];rfl
   have h1:(zs.map Tree.sc)[0]? =some (Tree.sc u):=by rw[List.getElem?_map,e4];rfl
   rcases ty2 0 _ y h1 rfl with e'| ⟨e',k',hk',e''⟩
   ·rw[←e'];exact .sc _ (hus1 _ (List.mem_of_getElem? hu))
   ·rw[e'']
    simp only[Tree.sc.injEq] at e'
    rw[e']
    exact .lst k' [] none 0 [] hk' (fun x hx=>by simp at hx) (Nat.le_refl _) (by simp[maxLen]) (fun h=>absurd rfl h) (by simp) (fun j T u hT=>by simp[flat] at hT)) e
  refine⟨_,_,_,z3r hu hk hb hzv hzs (by rw[hzl,hk1]) (by omega) hb256 c1 (Int.le_refl _) c3,n1,n2,by have:=n3 (okB F (app S [(nid,Ob.mat false (List.replicate n.toNat y) none)]) (place m nid (some w.heap.size,(List.replicate n.toNat y).length)) (w.alloc (Obj.cells (repl zs n.toNat).toArray e)));simp only[List.length_replicate] at this⊢;exact this⟩
 |false=>
 rw[hfx,cond_false] at h
 obtain⟨hcond,h⟩:=z0k h
 simp only[Bool.and_eq_true] at hcond
 obtain⟨⟨hk0,hzl⟩,hb256⟩:=hcond
 have hk0:0<k:=z20 hk0
 have hzl:=Nat.eq_of_beq_eq_true hzl
 have hb256:=Nat.le_of_ble_eq_true hb256
 simp only[Option.some.injEq] at h
 subst h
 rw[z0A] at hc
 simp only[All] at hc
 obtain⟨⟨c1,c2,c3,-⟩,c4⟩:=hc
 have:=VRel.sc_inv hl;subst this
 have:=VRel.sc_inv hcv;subst this
 have hu:=z1U he
 obtain⟨zv,hzv,zs,hzs,rfl,hz1⟩:=z1g hz
 simp only[List.length_map] at hzl
 have hxc:=z5a hx (fun T hT=>by
  obtain⟨v,_,rfl⟩:=List.mem_map.1 hT
  rfl)
 have hy:TWs x.cells (orc.elt.getD x).cells:=by
  cases ho:orc.elt with
  |none=>exact y40 _
  |some y=>rw[ho] at c4;exact c4.1
 generalize orc.elt.getD x=y at*
 rw[hxc] at hy
 obtain⟨ty1,ty2⟩:=z9y hy
 simp only[List.length_map] at ty1
 have hE:Elt k y:=⟨by rw[←ty1];exact hzl,fun T hT=>by
  obtain⟨q,hq,e⟩:=List.mem_iff_getElem.1 hT
  have h1:(zs.map Tree.sc)[q]? =some (Tree.sc zs[q]):=by rw[List.getElem?_map,List.getElem?_eq_getElem (by omega)];rfl
  rcases ty2 q _ T h1 (by rw[List.getElem?_eq_getElem hq,e]) with e'| ⟨_,k',_,e'⟩
  ·rw[←e'];rfl
  ·rw[e'];rfl⟩
 have hflat:∀q:Nat,flat (List.replicate q y)=repl y.cells q:=by
  intro q
  induction q with
  |zero=>rfl
  |succ q ih=>simp[List.replicate_succ,flat,repl,ih]
 have hus1:∀u∈repl zs mm.toNat,u.oneCell'=true:=fun u hu=>hz1 u (z2d hu)
 have hrl:(repl zs mm.toNat).length=mm.toNat*k:=by rw[z2c,hzl]
 obtain⟨n1,n2,n3⟩:=z7f hS hid (xs:=List.replicate n.toNat y) hk0 (fun z' hz'=>by rw[(List.mem_replicate.1 hz').2];exact hE) mm.toNat (by simp;omega) (by simp only[maxLen];omega) hrl hus1 (fun j T u hT hu=>by
  rw[hflat] at hT
  have hyl:y.cells.length=k:=hE.1
  have hj:j<n.toNat*k:=by have:=(List.getElem?_eq_some_iff.1 hT).1;rw[z2c,hyl] at this;exact this
  have hnm:n.toNat*k≤mm.toNat*k:=Nat.mul_le_mul_right k (by omega)
  have e1:=z3R y.cells n.toNat j (by rw[hyl];exact hj)
  have e2:=z3R zs mm.toNat j (by rw[hzl];omega)
  rw[hT,hyl] at e1
  rw[hu,hzl] at e2
  have hjk:j%k<k:=Nat.mod_lt _ hk0
  have e3:y.cells[j%k]? =some T:=by
   rw[e1,List.getElem!_eq_getElem?_getD,List.getElem?_eq_getElem (by omega)];rfl
  have e4:zs[j%k]? =some u:=by
   rw[e2,List.getElem!_eq_getElem?_getD,List.getElem?_eq_getElem (by omega)];rfl
  have h1:(zs.map Tree.sc)[j%k]? =some (Tree.sc u):=by rw[List.getElem?_map,e4];rfl
  rcases ty2 (j%k) _ T h1 e3 with e'| ⟨e',k',hk',e''⟩
  ·rw[←e'];exact .sc _ (hus1 _ (List.mem_of_getElem? hu))
  ·rw[e'']
   simp only[Tree.sc.injEq] at e'
   rw[e']
   exact .lst k' [] none 0 [] hk' (fun x hx=>by simp at hx) (Nat.le_refl _) (by simp[maxLen]) (fun h=>absurd rfl h) (by simp) (fun j T u hT=>by simp[flat] at hT)) e
 exact⟨.slice (some ⟨w.heap.size,0,none⟩) n.toNat mm.toNat,_,_,z3r hu hk hb hzv hzs hzl hk0 hb256 c1 c2 c3,n1,n2,by have:=n3 (okB F (app S [(nid,Ob.row k false (List.replicate n.toNat y))]) (place m nid (some w.heap.size,mm.toNat)) (w.alloc (Obj.cells (repl zs mm.toNat).toArray e)));simp only[List.length_replicate] at this;exact this⟩
end Go.Ab
end
section
set_option linter.unusedVariables false
namespace Go.Ab
variable {P:Program} {w:World} {F:Fen P} {S st:Store} {m:Place}
structure Src(w:World)(ok:Nat→Prop)(k:Nat)(ys:List Tree)(ux:Value)(news:List Value):Prop where
 elts:∀x∈ys,Elt k x
 len:news.length=ys.length*k
 one:∀u∈news,u.oneCell'=true
 rep:∀(j:Nat) (T:Tree) (u:Value),(flat ys)[j]? =some T→news[j]? =some u→TRep w ok T u
 shape:∃A c,ux= .slice A ys.length c∧(A=none→ys=[])∧∀a,A=some a→∀(j:Nat) (u:Value),news[j]? =some u→w.cell? (a.add j)=some u
theorem z5G{k:Nat}{x:AVal}{ys:List Tree}{p:List Prop}(hk:0<k)(h:srcOf st k x=some (ys,p))(hp:All p)(hst:∀id o,st id=some o→S id=some o)(hS:SRel F S m w){ux:Value}
 (hx:VRel S m w (okB F S m w) x ux):∃news,Src w (okB F S m w) k ys ux news:=by
 unfold srcOf at h
 split at h
 ·rename_i k' xs
  obtain⟨h1,h2⟩:=z0k h
  have h1:=Nat.eq_of_beq_eq_true h1
  subst h1
  simp only[Option.some.injEq,Prod.mk.injEq] at h2
  obtain⟨rfl,rfl⟩:=h2
  cases hx with
  |t _ _ hT=>
   cases hT with
   |lst _ _ A c us hk hxx hn hm hA hl hrep=>
    have hfl:=z1c hxx
    refine⟨us,hxx,hl,fun u hu=> ?_,hrep,A,c,rfl,fun e=> ?_,fun a ha j u hu=> ?_⟩
    ·obtain⟨j,hj,rfl⟩:=List.mem_iff_getElem.1 hu
     have hj':j< (flat xs).length:=by omega
     exact(hrep j _ _ (List.getElem?_eq_getElem hj') (List.getElem?_eq_getElem hj)).one (z5A hxx _ (List.getElem_mem _))
    ·by_cases hne:xs=[]
     ·exact hne
     ·obtain⟨b,o,h,_⟩:=hA hne
      rw[e] at h;cases h
    ·by_cases hne:xs=[]
     ·subst hne
      have:us=[]:=List.eq_nil_of_length_eq_zero (by simpa using hl)
      subst this;simp at hu
     ·obtain⟨b,o,h,_,hcell⟩:=hA hne
      rw[ha] at h;cases h
      rw[z0P];exact hcell j u hu
 ·simp only[Option.some.injEq,Prod.mk.injEq] at h
  obtain⟨rfl,rfl⟩:=h
  have:=VRel.sc_inv hx;subst this
  exact⟨[],fun x hx=>by simp at hx,by simp,fun u hu=>by simp at hu,fun j T u h=>by simp[flat] at h,none,0,rfl,fun _=>rfl,fun a ha=>by cases ha⟩
 ·rename_i id n
  split at h
  rotate_left
  ·cases h
  rename_i k' fz xs hs
  obtain⟨h1,h2⟩:=z0k h
  have h1:=Nat.eq_of_beq_eq_true h1
  subst h1
  simp only[Option.some.injEq,Prod.mk.injEq] at h2
  obtain⟨rfl,rfl⟩:=h2
  simp only[All] at hp
  obtain⟨hn,-⟩:=hp
  have hs2:=hst id _ hs
  cases hx with
  |rowG _ _ L hs0=>rw[hs2] at hs0;cases hs0
  |row _ _ k0 fz0 xs0 L hs0 hn0 hu0=>
   rw[hs2] at hs0;cases hs0
   have hL:=hu0 hn
   obtain⟨a1,a2,a3,a4,a5⟩:=hS.objs id _ hs2
   have hfl:=z1c a2
   rcases a5 with⟨a5,a6⟩| ⟨b,us,e,h1,h2,h3,h4,h5⟩
   ·have hx:xs=[]:=List.eq_nil_of_length_eq_zero (by rw[a6] at a3;omega)
    subst hx
    refine⟨[],a2,by simp,fun u hu=>by simp at hu,fun j T u h=>by simp[flat] at h,none,L.2,?_,fun _=>rfl,fun a ha=>by cases ha⟩
    rw[←hL,z0B,a5,hn];rfl
   ·have hle:xs.length*k≤us.size:=by rw[h3];exact Nat.mul_le_mul_right k a3
    refine⟨us.toList.take (xs.length*k),a2,by simp;omega,fun u hu=> ?_,fun j T u hT hu=> ?_,⟨some ⟨b,0,none⟩,L.2,?_,fun e=>absurd e (by simp),fun a ha j u hu=> ?_⟩⟩
    ·obtain⟨j,hj⟩:=List.getElem?_of_mem (List.mem_of_mem_take hu)
     exact h4 j u (by simpa using hj)
    ·rw[List.getElem?_take] at hu
     split at hu
     ·exact h5 j T u hT (by simpa using hu)
     ·cases hu
    ·rw[←hL,z0B,h1,hn];rfl
    ·cases ha
     rw[z0P,Nat.zero_add]
     rw[List.getElem?_take] at hu
     split at hu
     ·simp only[World.cell?,h2];simpa using hu
     ·cases hu
 ·cases h
theorem Src.first{ok:Nat→Prop}{k:Nat}{ys:List Tree}{ux:Value}{news:List Value}(h:Src w ok k ys ux news)(w':World)(hw:∀a,w'.cell? a=w.cell? a):
 (Builtin.firstCells k ys.length ux).run P w'= .ok news.toArray w'∧(Builtin.lenOf ux).run P w'= .ok ys.length w':=by
 obtain⟨A,c,rfl,hA,hc⟩:=h.shape
 refine⟨?_,by simp[Builtin.lenOf]⟩
 cases A with
 |none=>
  have:=hA rfl
  subst this
  have:news=[]:=List.eq_nil_of_length_eq_zero (by simpa using h.len)
  subst this
  simp[Builtin.firstCells]
 |some a=>exact run_firstCells_some w' k ys.length a ys.length c news h.len (fun j v hv=>by rw[hw];exact hc a rfl j v hv)
theorem z8k(b:Nat):z3L b≤1099511627776:=by unfold z3L;cases Nat.ble b 128<;>decide
theorem z6x{n b:Nat}(h:n≤z3L b)(hb:b≤16384):n*b≤140737488355328:=by
 unfold z3L at h
 cases q:Nat.ble b 128 with
 |true=>
  rw[q] at h
  exact Nat.le_trans (Nat.mul_le_mul h (Nat.le_of_ble_eq_true q)) (by decide)
 |false=>
  rw[q] at h
  exact Nat.le_trans (Nat.mul_le_mul h hb) (by decide)
theorem y2U{t ty e:TypeId}{i:TypeInfo}{z:Value}(ht:P.underlying t=some (.slice e))(hi:P.info? e=some i)(hz:i.zero=some z){ok:Nat→Prop}{k:Nat}(hk:i.size=k)
 {ys:List Tree} {ux:Value} {news:List Value} (hs:Src w ok k ys ux news) (hb:i.bytes≤16384) (L:Option Nat×Nat) (n:Nat) (olds:List Value) (hlo:olds.length=n*k) (hcap:n≤L.2) (hbig:n+ys.length≤z3L i.bytes)
 (hL:(L=(none,0)∧olds=[])∨∃b cur e',L.1=some b∧w.heap[b]? =some (.cells cur e' (0,0))∧cur.size=L.2*k∧olds=cur.toList.take (n*k)):
 (n+ys.length≤L.2∧((L=(none,0)∧(Builtin.append_ #[t,t] ty #[z0B L n,ux]).run P w= .ok (z0B L (n+ys.length)) w)∨
  ∃b cur e',L.1=some b∧w.heap[b]? =some (.cells cur e' (0,0))∧
   (Builtin.append_ #[t,t] ty #[z0B L n,ux]).run P w= .ok (z0B L (n+ys.length)) (w.setRow b (cur.toList.take (n*k)++news++cur.toList.drop (n*k+news.length)).toArray)))∨
 (L.2<n+ys.length∧∃cap,n+ys.length≤cap∧cap≤maxLen∧
  (Builtin.append_ #[t,t] ty #[z0B L n,ux]).run P w= .ok (z0B (some w.heap.size,cap) (n+ys.length)) (w.drew.alloc (.cells (olds.toArray++news.toArray++Builtin.zeroCells z.cells (cap- (n+ys.length))) e))):=by
 have hbig1:=Nat.le_trans hbig (z8k _)
 have hsz:tsz P e=some k:=by simp[tsz,hi,hk]
 have hd:=hs.first (P:=P) w (fun _=>rfl)
 by_cases hroom:n+ys.length≤L.2
 ·refine .inl ⟨hroom,?_⟩
  rcases hL with⟨rfl,h0⟩| ⟨b,cur,e',h1,h2,h3,h4⟩
  ·left
   refine⟨rfl,?_⟩
   simp only at hroom
   have hy:ys.length=0:=by omega
   have hn:n=0:=by omega
   have hne:news=[]:=List.eq_nil_of_length_eq_zero (by rw[hs.len,hy];simp)
   rw[hy] at hd⊢
   subst hn
   simp[Builtin.append_,run_underlying ht,z0l hsz,hd.1,hd.2,z0B]
  ·right
   refine⟨b,cur,e',h1,h2,?_⟩
   have hfit:n*k+news.length≤cur.size:=by rw[hs.len,h3,←Nat.add_mul];exact Nat.mul_le_mul_right _ hroom
   have hst:=run_storeCells_at P b (n*k) e' news 0 cur w h2 (by simpa using hfit) hs.one
   simp only[Nat.add_zero] at hst
   simp[Builtin.append_,run_underlying ht,z0l hsz,hd.1,hd.2,z0B,hroom,h1,z0P,hst]
 ·refine .inr ⟨by omega,grownCap w (n+ys.length) L.2 e,grownCap_ge _ _ _ _,grownCap_le_maxLen _ _ _ _ (by simp only[maxLen];omega),?_⟩
  have hd':=hs.first (P:=P) w.drew (fun _=>rfl)
  have h63:¬(9223372036854775807< ((n:Int)+(ys.length:Int))):=by omega
  have h48:¬(281474976710656<Builtin.nextslicecap (n+ys.length) L.2*i.bytes):=by
   have:=growslice_fits (need:=n+ys.length) (old:=L.2) (bytes:=i.bytes) (by omega) (by
    have:=z6x hbig hb
    omega)
   omega
  have hold:(Builtin.firstCells k n (z0B L n)).run P w.drew= .ok olds.toArray w.drew:=by
   rcases hL with⟨rfl,h0⟩| ⟨b,cur,e',h1,h2,h3,h4⟩
   ·subst h0
    simp at hlo
    simp[z0B,Builtin.firstCells]
   ·rw[z0B,h1]
    refine run_firstCells_some w.drew k n _ _ _ olds hlo (fun j v hv=> ?_)
    rw[z0P,Nat.zero_add]
    subst h4
    rw[List.getElem?_take] at hv
    split at hv
    ·show w.cell? _=_
     simp only[World.cell?,h2];simpa using hv
    ·cases hv
  have hzv:tzero P e=some z:=by simp[tzero,hi,hz]
  have hrv:z0B L n= .slice (L.1.map fun b=>⟨b,0,none⟩) n L.2:=rfl
  simp only[Builtin.append_,z0B] at hold⊢
  simp[run_underlying ht,z0l hsz,hd.2,hroom,h63,h48,typeInfo,hi,Question.forced,hold,hd'.1,z0M hzv,newRow,grownCap]
  rw[←Array.append_assoc,List.append_toArray olds news]
theorem y41{t ty e:TypeId}{i:TypeInfo}{z:Value}(ht:P.underlying t=some (.slice e))(hi:P.info? e=some i)(hz:i.zero=some z){ok:Nat→Prop}{k:Nat}(hk:i.size=k)
 {ys:List Tree} {ux:Value} {news:List Value} (hs:Src w ok k ys ux news) (hb:i.bytes≤16384) (A:Option Addr) (n:Nat) (olds:List Value) (hlo:olds.length=n*k) (hpos:0<ys.length) (hbig:n+ys.length≤z3L i.bytes)
 (hA:n≠0→∃a,A=some a∧∀(j:Nat) (u:Value),olds[j]? =some u→w.cell? (a.add j)=some u):
 ∃cap,n+ys.length≤cap∧cap≤maxLen∧
  (Builtin.append_ #[t,t] ty #[.slice A n n,ux]).run P w= .ok (z0B (some w.heap.size,cap) (n+ys.length)) (w.drew.alloc (.cells (olds.toArray++news.toArray++Builtin.zeroCells z.cells (cap- (n+ys.length))) e)):=by
 have hbig1:=Nat.le_trans hbig (z8k _)
 have hsz:tsz P e=some k:=by simp[tsz,hi,hk]
 have hd:=hs.first (P:=P) w (fun _=>rfl)
 have hroom:¬(n+ys.length≤n):=by omega
 refine⟨grownCap w (n+ys.length) n e,grownCap_ge _ _ _ _,grownCap_le_maxLen _ _ _ _ (by simp only[maxLen];omega),?_⟩
 have hd':=hs.first (P:=P) w.drew (fun _=>rfl)
 have h63:¬(9223372036854775807< ((n:Int)+(ys.length:Int))):=by omega
 have h48:¬(281474976710656<Builtin.nextslicecap (n+ys.length) n*i.bytes):=by
  have:=growslice_fits (need:=n+ys.length) (old:=n) (bytes:=i.bytes) (by omega) (by
   have:=z6x hbig hb
   omega)
  omega
 have hold:(Builtin.firstCells k n (.slice A n n)).run P w.drew= .ok olds.toArray w.drew:=by
  by_cases h0:n=0
  ·subst h0
   have:olds=[]:=List.eq_nil_of_length_eq_zero (by simpa using hlo)
   subst this
   cases A with
   |none=>simp[Builtin.firstCells]
   |some a=>exact run_firstCells_some w.drew k 0 _ _ _ [] (by simp) (fun j v hv=>by simp at hv)
  ·obtain⟨a,rfl,hc⟩:=hA h0
   exact run_firstCells_some w.drew k n _ _ _ olds hlo (fun j v hv=>hc j v hv)
 have hzv:tzero P e=some z:=by simp[tzero,hi,hz]
 simp only[Builtin.append_,z0B] at hold⊢
 simp[run_underlying ht,z0l hsz,hd.2,hroom,h63,h48,typeInfo,hi,Question.forced,hold,hd'.1,z0M hzv,newRow,grownCap]
 rw[←Array.append_assoc,List.append_toArray olds news]
theorem Elt.append{k:Nat}{xs ys:List Tree}(h1:∀x∈xs,Elt k x)(h2:∀x∈ys,Elt k x):∀x∈xs++ys,Elt k x:=fun x hx=>(List.mem_append.1 hx).elim (h1 x) (h2 x)
theorem z3w{ok:Nat→Prop}{k n:Nat}{xs ys:List Tree}{olds news rest:List Value}(ha:∀x∈xs,Elt k x)(hn:n=xs.length)(hlo:olds.length=n*k)
 (hr:∀(j:Nat) (T:Tree) (u:Value),(flat xs)[j]? =some T→olds[j]? =some u→TRep w ok T u) (hrep:∀(j:Nat) (T:Tree) (u:Value),(flat ys)[j]? =some T→news[j]? =some u→TRep w ok T u)
 (hel:∀x∈ys,Elt k x) (hl:news.length=ys.length*k) (j:Nat) (T:Tree) (u:Value) (hT:(flat (xs++ys))[j]? =some T) (hu:(olds++news++rest)[j]? =some u):TRep w ok T u:=by
 have hfx:=z1c ha
 have hfy:=z1c hel
 rw[z5B] at hT
 by_cases c1:j<n*k
 ·rw[List.getElem?_append_left (by rw[hfx,←hn];exact c1)] at hT
  rw[List.getElem?_append_left (by simp;omega),List.getElem?_append_left (by omega)] at hu
  exact hr j T u hT hu
 ·have hj:j< (flat xs++flat ys).length:=(List.getElem?_eq_some_iff.1 hT).1
  simp only[List.length_append,hfx,hfy,←hn] at hj
  rw[List.getElem?_append_right (by rw[hfx,←hn];omega),hfx,←hn] at hT
  rw[List.getElem?_append_left (by simp;omega),List.getElem?_append_right (by omega),hlo] at hu
  exact hrep _ T u hT hu
theorem y42(hS:SRel F S m w){id:Nat}{o o':Ob}(hid:S id=some o)(hlt:o.len<o'.len)(hsh:o.same o')(hlv:o.live=true)(us:Array Value)(e:TypeId)(cap:Nat)
 (ho':FrameExt F S m w (upd S id o') (place m id (some w.heap.size,cap)) (w.alloc (.cells us e))→
  ORel (upd S id o') (place m id (some w.heap.size,cap)) (w.alloc (.cells us e)) (okB F (upd S id o') (place m id (some w.heap.size,cap)) (w.alloc (.cells us e))) o' (some w.heap.size,cap) []):
 SRel F (upd S id o') (place m id (some w.heap.size,cap)) (w.alloc (.cells us e))∧FrameExt F S m w (upd S id o') (place m id (some w.heap.size,cap)) (w.alloc (.cells us e)):=by
 have hF:FrameExt F S m w (upd S id o') (place m id (some w.heap.size,cap)) (w.alloc (.cells us e)):=by
  refine⟨rfl,rfl,rfl,by simp,fun b hb _=>z02 w _ b hb,fun i oi hi=> ?_,fun i oi hi hn=> ?_⟩
  ·by_cases e:i=id
   ·subst e
    rw[hid] at hi;cases hi
    exact⟨o',z0i _ _ _,by omega,fun e=>by omega,fun h=>(by rw[hlv] at h;cases h),fun b hb=> .inr (.inl (by rw[z0r] at hb;simp at hb;omega)),hsh⟩
   ·exact⟨oi,by rw[z0h e];exact hi,Nat.le_refl _,fun _=>z0J e,fun h=>h,fun b hb=> .inl ((z0o e).1 hb),oi.same_refl⟩
  ·by_cases e:i=id
   ·subst e;rw[hid] at hn;cases hn
   ·rw[z0h e] at hi;rw[hi] at hn;cases hn
 refine⟨⟨fun i oi hi=> ?_,fun i j oi oj c hi hj h1 h2=> ?_,fun i oi c hi hm hFb=> ?_,fun i oi c hi hm=> ?_,fun c hc=>Nat.lt_of_lt_of_le (hS.low c hc) hF.size,hS.held hF⟩,hF⟩
 ·by_cases e:i=id
  ·subst e
   rw[z0i] at hi;cases hi
   rw[z0s,z1H];exact ho' hF
  ·rw[z0h e] at hi
   rw[z0J e,z1C e]
   exact(hS.objs i oi hi).persist hF (fun b hm=>z02 w _ b (hS.lt i oi b hi hm))
 ·by_cases e:i=id
  ·by_cases e':j=id
   ·rw[e,e']
   ·subst e
    rw[z0r] at h1
    rw[z0o e'] at h2
    rw[z0h e'] at hj
    have:=hS.lt j oj c hj h2
    simp at h1;omega
  ·by_cases e':j=id
   ·subst e'
    rw[z0r] at h2
    rw[z0o e] at h1
    rw[z0h e] at hi
    have:=hS.lt i oi c hi h1
    simp at h2;omega
   ·rw[z0o e] at h1
    rw[z0o e'] at h2
    rw[z0h e] at hi
    rw[z0h e'] at hj
    exact hS.inj i j oi oj c hi hj h1 h2
 ·by_cases e:i=id
  ·subst e
   rw[z0r] at hm
   have:=hS.low c hFb
   simp at hm;omega
  ·rw[z0h e] at hi
   rw[z0o e] at hm
   exact hS.avoid i oi c hi hm hFb
 ·by_cases e:i=id
  ·subst e
   rw[z0r] at hm
   simp at hm;rw[←hm];simp
  ·rw[z0h e] at hi
   rw[z0o e] at hm
   exact Nat.lt_of_lt_of_le (hS.lt i oi c hi hm) hF.size
theorem drewF:FrameExt F S m w S m w.drew:=⟨rfl,rfl,rfl,Nat.le_refl _,fun _ _ _=>rfl,fun id o h=>⟨o,h,Nat.le_refl _,fun _=>rfl,fun h=>h,fun _ q=> .inl q,o.same_refl⟩,fun id o h h'=>by rw[h'] at h;cases h⟩
theorem SRel.drew(hS:SRel F S m w):SRel F S m w.drew:=⟨fun id o h=>(hS.objs id o h).persist drewF (fun _ _=>rfl),hS.inj,hS.avoid,hS.lt,hS.low,hS.held drewF⟩
theorem z7i{ts:Array TypeId}{ty:TypeId}{s x:AVal}{nid:Nat}{δ:Dl}(h:z9r P ts s x st nid=some δ)(hc:All δ.cnd)(hst:∀id o,st id=some o→S id=some o)(hS:SRel F S m w)(hid:S nid=none)
 {us ux:Value} (hs:VRel S m w (okB F S m w) s us) (hx:VRel S m w (okB F S m w) x ux):Done F S m w δ.wr δ.val ((Builtin.append_ ts ty #[us,ux]).run P w):=by
 unfold z9r at h
 split at h
 rotate_left
 ·cases h
 rename_i tS tX hts
 simp only[Option.bind_eq_some_iff] at h
 obtain⟨e,he,k,hk,b,hb,z,hz,⟨ys,p⟩,hsrc,h⟩:=h
 obtain⟨hcond,h2⟩:=z0k h
 clear h
 simp only at h2
 simp only[Bool.and_eq_true] at hcond
 obtain⟨⟨⟨ht,hk0⟩,hb128⟩,hzl⟩:=hcond
 have ht:=Nat.eq_of_beq_eq_true ht
 subst ht
 have hk0:=z20 hk0
 have hb128:=Nat.le_of_ble_eq_true hb128
 have hzl:=Nat.eq_of_beq_eq_true hzl
 have hu:=z1U he
 obtain⟨zv,hzv,zs,hzs,rfl,hz1⟩:=z1g hz
 simp only[List.length_map] at hzl
 have htsa:ts=#[tS,tS]:=by
  apply Array.ext'
  simpa using hts
 subst htsa
 obtain⟨i,hi,hik,hib,hizero⟩:∃i,P.info? e=some i∧i.size=k∧i.bytes=b∧i.zero=some zv:=by
  unfold tsz at hk
  unfold tby at hb
  unfold tzero at hzv
  cases hi:P.info? e with
  |none=>simp[hi] at hk
  |some i=>simp[hi] at hk hb hzv;exact⟨i,rfl,hk,hb,hzv⟩
 have hzeros:∀q:Nat,(Builtin.zeroCells zv.cells q).toList=repl zs q:=fun q=>by
  have:=z2p zv.cells q
  simp only[Builtin.zeroCells]
  rw[this,hzs]
 split at h2
 ·
  simp only[Option.some.injEq] at h2
  subst h2
  rw[z0A] at hc
  simp only[All] at hc
  obtain⟨hp,hbig,-⟩:=hc
  obtain⟨news,hsr⟩:=z5G hk0 hsrc hp hst hS hx
  have:=VRel.sc_inv hs;subst this
  have hrun:=y2U (ty:=ty) hu hi hizero hik hsr (by omega) (none,0) 0 [] (by simp) (by simp) (by rw[hib];simpa using hbig) (.inl ⟨rfl,rfl⟩)
  simp only[Nat.zero_add] at hrun
  rcases hrun with⟨hr1,⟨_,hrun⟩| ⟨b,cur,e',h1,_⟩⟩| ⟨hr1,cap,hcap,hm,hrun⟩
  ·have hy:ys=[]:=List.eq_nil_of_length_eq_zero (by omega)
   subst hy
   have hF:=z4t (F:=F) (S:=S) (m:=m) (w:=w) (w':=w) (o:= .row k false []) (L:=(none,0)) hid rfl rfl rfl (Nat.le_refl _) (fun _ _=>rfl) (fun b hb=>by simp at hb)
   refine⟨_,w,place m nid (none,0),hrun,hS.new hid hF (fun _ _=>rfl) (fun b hb=>by simp at hb) ⟨hk0,fun x hx=>by simp at hx,by simp,by simp[maxLen],.inl ⟨rfl,rfl⟩⟩,hF,?_⟩
   exact .row nid 0 k false [] (none,0) (z0i _ _ _) (Nat.le_refl _) (fun _=>z0s _ _ _)
  ·simp at h1
  ·have hlen:(news++repl zs (cap-ys.length)).length=cap*k:=by
    rw[List.length_append,hsr.len,z2c,hzl,←Nat.add_mul];congr 1;omega
   obtain⟨n1,n2,n3⟩:=z7f hS.drew hid (xs:=ys) hk0 hsr.elts cap hcap hm hlen
    (fun u hu=>(List.mem_append.1 hu).elim (hsr.one u) (fun h=>hz1 u (z2d h))) (fun j T u hT hu=>by
     rw[List.getElem?_append_left (by rw[hsr.len,←z1c hsr.elts];exact(List.getElem?_eq_some_iff.1 hT).1)] at hu
     exact drewF.tree (hsr.rep j T u hT hu)) e
   have ecells:(([]:List Value).toArray++news.toArray++Builtin.zeroCells zv.cells (cap-ys.length))=(news++repl zs (cap-ys.length)).toArray:=by
    apply Array.ext'
    simp[hzeros]
   rw[ecells] at hrun
   exact⟨_,_,_,hrun,n1,drewF.trans hS n2,n3 _⟩
 ·
  rename_i id n
  split at h2
  rotate_left
  ·cases h2
  rename_i k' xs hs'
  obtain⟨hkk,h⟩:=z0k h2
  have hkk:=Nat.eq_of_beq_eq_true hkk
  subst hkk
  simp only[Option.some.injEq] at h
  subst h
  rw[z0A] at hc
  simp only[All] at hc
  obtain⟨hp,hn,hbig,-⟩:=hc
  obtain⟨news,hsr⟩:=z5G hk0 hsrc hp hst hS hx
  have hs2:=hst id _ hs'
  have hnid:id≠nid:=fun e=>by subst e;rw[hid] at hs2;cases hs2
  cases hs with
  |rowG _ _ L hs0=>rw[hs2] at hs0;cases hs0
  |row _ _ k0 fz0 xs0 L hs0 hn0 hu0=>
   rw[hs2] at hs0;cases hs0
   have hL:=hu0 hn
   obtain⟨a1,a2,a3,a4,a5⟩:=hS.objs id _ hs2
   rw[hL] at a3 a4 a5
   have hfl:=z1c a2
   obtain⟨olds,ho1,ho2,ho3,ho4⟩:∃olds:List Value,olds.length=n*k∧((L=(none,0)∧olds=[])∨∃b cur e',L.1=some b∧w.heap[b]? =some (.cells cur e' (0,0))∧cur.size=L.2*k∧olds=cur.toList.take (n*k))∧
    (∀u∈olds,u.oneCell'=true)∧(∀(j:Nat) (T:Tree) (u:Value),(flat xs)[j]? =some T→olds[j]? =some u→TRep w (okB F S m w) T u):=by
    rcases a5 with⟨a5,a6⟩| ⟨b,cur,e',h1,h2,h3,h4,h5⟩
    ·have hx:xs=[]:=List.eq_nil_of_length_eq_zero (by rw[a6] at a3;omega)
     subst hx
     exact⟨[],by simp[hn],.inl ⟨Prod.ext a5 a6,rfl⟩,fun u hu=>by simp at hu,fun j T u h=>by simp[flat] at h⟩
    ·have hle:n*k≤cur.size:=by rw[h3];exact Nat.mul_le_mul_right k (by omega)
     refine⟨cur.toList.take (n*k),by simp;omega,.inr ⟨b,cur,e',h1,h2,h3,rfl⟩,fun u hu=> ?_,fun j T u hT hu=> ?_⟩
     ·obtain⟨j,hj⟩:=List.getElem?_of_mem (List.mem_of_mem_take hu)
      exact h4 j u (by simpa using hj)
     ·rw[List.getElem?_take] at hu
      split at hu
      ·exact h5 j T u hT (by simpa using hu)
      ·cases hu
   have hrun:=y2U (ty:=ty) hu hi hizero hik hsr (by omega) L n olds ho1 (by omega) (by rw[hib];exact hbig) ho2
   have helt:=Elt.append a2 hsr.elts
   have hlen2:(xs++ys).length=n+ys.length:=by simp[hn]
   rcases hrun with⟨hr1,⟨hL0,hrun⟩| ⟨b,cur,e',h1,h2,hrun⟩⟩| ⟨hr1,cap,hcap,hm,hrun⟩
   ·
    subst hL0
    simp only at hr1
    have hy:ys=[]:=List.eq_nil_of_length_eq_zero (by omega)
    subst hy
    have he:app S [(id,Ob.row k false (xs++[]))]=S:=by
     funext j
     show upd S id (.row k false (xs++[])) j=S j
     by_cases e:j=id
     ·subst e;rw[z0i,List.append_nil,hs2]
     ·rw[z0h e]
    refine⟨_,w,m,hrun,?_,?_,?_⟩
    ·rw[he];exact hS
    ·rw[he];exact FrameExt.refl F S m w
    ·rw[he];exact .row id _ k false xs _ hs2 (by simp[hn]) (fun _=>hL)
   ·
    have hcs:cur.size=L.2*k∧olds=cur.toList.take (n*k):=by
     rcases ho2 with⟨hq,_⟩| ⟨b0,cur0,e0,q1,q2,q3,q4⟩
     ·rw[hq] at h1;cases h1
     ·rw[h1] at q1;cases q1
      rw[h2] at q2;cases q2
      exact⟨q3,q4⟩
    have hfit:n*k+news.length≤cur.size:=by rw[hsr.len,hcs.1,←Nat.add_mul];exact Nat.mul_le_mul_right _ hr1
    have hcur1:∀(j:Nat) (u:Value),cur[j]? =some u→u.oneCell'=true:=by
     rcases a5 with⟨a5,_⟩| ⟨b0,cur0,e0,q1,q2,q3,q4,q5⟩
     ·rw[a5] at h1;cases h1
     ·rw[h1] at q1;cases q1
      rw[h2] at q2;cases q2
      exact q4
    have key:=z0N (o':= .row k false (xs++ys)) hS hs2 rfl (by rw[hL];exact h1) (w':=w.setRow b (cur.toList.take (n*k)++news++cur.toList.drop (n*k+news.length)).toArray)
     rfl rfl rfl (by simp) (fun c hc=>z2o w b c _ hc) (by simp[Ob.len]) (by simp[Ob.same]) (fun hF=>by
      rw[hL]
      refine⟨hk0,helt,by omega,a4,.inr ⟨b,_,e',h1,setRow_heap w b cur _ e' _ h2,by simp;omega,fun j u hu=> ?_,fun j T u hT hu=> ?_⟩⟩
      ·have hu:(cur.toList.take (n*k)++news++cur.toList.drop (n*k+news.length))[j]? =some u:=by simpa using hu
       rcases List.mem_append.1 (List.mem_of_getElem? hu) with hu|hu
       ·rcases List.mem_append.1 hu with hu|hu
        ·obtain⟨q,hq⟩:=List.getElem?_of_mem (List.mem_of_mem_take hu)
         exact hcur1 q u (by simpa using hq)
        ·exact hsr.one u hu
       ·obtain⟨q,hq⟩:=List.getElem?_of_mem (List.mem_of_mem_drop hu)
        exact hcur1 q u (by simpa using hq)
      ·have hu:(olds++news++cur.toList.drop (n*k+news.length))[j]? =some u:=by rw[hcs.2];simpa using hu
       exact hF.tree (z3w a2 hn ho1 ho4 hsr.rep hsr.elts hsr.len j T u hT hu))
    refine⟨_,_,m,hrun,key.1,key.2,?_⟩
    exact .row id _ k false (xs++ys) L (z0i _ _ _) (by rw[hlen2];exact Nat.le_refl _) (fun _=>hL)
   ·
    have hzl':(repl zs (cap- (n+ys.length))).length=(cap- (n+ys.length))*k:=by rw[z2c,hzl]
    have ecells:(olds.toArray++news.toArray++Builtin.zeroCells zv.cells (cap- (n+ys.length)))=(olds++news++repl zs (cap- (n+ys.length))).toArray:=by
     apply Array.ext'
     simp[hzeros]
    rw[ecells] at hrun
    have key:=y42 (o':= .row k false (xs++ys)) hS.drew hs2 (by simp[Ob.len];omega) (by simp[Ob.same]) rfl (olds++news++repl zs (cap- (n+ys.length))).toArray e cap (fun hF=>by
     refine⟨hk0,helt,by rw[hlen2];exact hcap,hm,.inr ⟨w.heap.size,_,e,rfl,z1I w.drew _,?_,fun j u hu=> ?_,fun j T u hT hu=> ?_⟩⟩
     ·simp only[List.size_toArray,List.length_append,ho1,hsr.len,hzl',←Nat.add_mul]
      congr 1;omega
     ·have hu:(olds++news++repl zs (cap- (n+ys.length)))[j]? =some u:=by simpa using hu
      rcases List.mem_append.1 (List.mem_of_getElem? hu) with hu|hu
      ·exact(List.mem_append.1 hu).elim (ho3 u) (hsr.one u)
      ·exact hz1 u (z2d hu)
     ·have hu:(olds++news++repl zs (cap- (n+ys.length)))[j]? =some u:=by simpa using hu
      exact hF.tree (drewF.tree (z3w a2 hn ho1 ho4 hsr.rep hsr.elts hsr.len j T u hT hu)))
    refine⟨_,_,_,hrun,key.1,drewF.trans hS key.2,?_⟩
    exact .row id _ k false (xs++ys) _ (z0i _ _ _) (by rw[hlen2];exact Nat.le_refl _) (fun _=>z0s _ _ _)
 ·
  rename_i k' xs
  obtain⟨hkk,h⟩:=z0k h2
  have hkk:=Nat.eq_of_beq_eq_true hkk
  subst hkk
  simp only[Option.some.injEq] at h
  subst h
  rw[z0A] at hc
  simp only[All] at hc
  obtain⟨hp,hpos,hbig,-⟩:=hc
  obtain⟨news,hsr⟩:=z5G hk0 hsrc hp hst hS hx
  cases hs with
  |xl _ _ _ hT hcc=>
  obtain⟨A0,rfl⟩:=hcc
  generalize hn:xs.length=n at hT
  cases hT with
  |lst _ _ A c olds hk hxx hn' hm2 hA hl hrep=>
  obtain⟨cap,hcap,hm,hrun⟩:=y41 (ty:=ty) hu hi hizero hik hsr (by omega) A0 xs.length olds hl hpos (by rw[hib];exact hbig) (fun hne=>by
   obtain⟨b,o,rfl,_,hcell⟩:=hA (fun e=>hne (by rw[e];rfl))
   exact⟨_,rfl,fun j u hj=>by rw[z0P];exact hcell j u hj⟩)
  have helt:=Elt.append hxx hsr.elts
  have hlen2:(xs++ys).length=xs.length+ys.length:=List.length_append
  have hlen:(olds++news++repl zs (cap- (xs.length+ys.length))).length=cap*k:=by
   rw[List.length_append,List.length_append,hl,hsr.len,z2c,hzl,←Nat.add_mul,←Nat.add_mul];congr 1;omega
  have hone:∀u∈olds,u.oneCell'=true:=fun u hu=>by
   obtain⟨j,hj,rfl⟩:=List.mem_iff_getElem.1 hu
   have hj':j< (flat xs).length:=by rw[z1c hxx];omega
   exact(hrep j _ _ (List.getElem?_eq_getElem hj') (List.getElem?_eq_getElem hj)).one (z5A hxx _ (List.getElem_mem _))
  obtain⟨n1,n2,n3⟩:=z7f hS.drew hid (xs:=xs++ys) hk0 helt cap (by rw[hlen2];exact hcap) hm hlen
   (fun u hu=>(List.mem_append.1 hu).elim (fun h=>(List.mem_append.1 h).elim (hone u) (hsr.one u)) (fun h=>hz1 u (z2d h)))
   (fun j T u hT hu=>drewF.tree (z3w hxx rfl hl hrep hsr.rep hsr.elts hsr.len j T u hT hu)) e
  have ecells:(olds.toArray++news.toArray++Builtin.zeroCells zv.cells (cap- (xs.length+ys.length)))=(olds++news++repl zs (cap- (xs.length+ys.length))).toArray:=by
   apply Array.ext'
   simp[hzeros]
  rw[ecells] at hrun
  rw[hlen2] at n3
  exact⟨_,_,_,hrun,n1,drewF.trans hS n2,n3 _⟩
 ·cases h2
end Go.Ab
end
section
set_option linter.unusedVariables false
namespace Go.Ab
variable {P:Program} {w:World} {F:Fen P} {S st:Store} {m:Place}
theorem z2e{i:Nat}:∀{l:List AVal},i∈idsL l↔∃v∈l,i∈idsV v
 | []=>by simp[idsL]
 |v::l=>by simp[idsL,z2e (l:=l)]
theorem VRel.restrict{st':Store}{ok ok':Nat→Prop}(hok:∀b,ok b→ok' b){v:AVal}{u:Value}(h:VRel S m w ok v u):(∀id∈idsV v,st' id=S id)→VRel st' m w ok' v u:=by
 induction h with
 |t T u hT=>intro _;exact .t T u (hT.mono hok (fun _ _ _ _ h=>h))
 |xl k xs u hT hc=>intro _;exact .xl k xs u (hT.mono hok (fun _ _ _ _ h=>h)) hc
 |row id n k fz xs L h1 h2 h3=>intro hi;exact .row id n k fz xs L ((hi id (by simp[idsV])).trans h1) h2 h3
 |ptr id off cs b h1 h2=>intro hi;exact .ptr id off cs b ((hi id (by simp[idsV])).trans h1) h2
 |bsl id n cs b h1 h2=>intro hi;exact .bsl id n cs b ((hi id (by simp[idsV])).trans h1) h2
 |bslG id n L h1=>intro hi;exact .bslG id n L ((hi id (by simp[idsV])).trans h1)
 |eptr id n i sub k fz xs b h1 h2 h3=>intro hi;exact .eptr id n i sub k fz xs b ((hi id (by simp[idsV])).trans h1) h2 h3
 |mat id fz xs hh L h1 h2=>intro hi;exact .mat id fz xs hh L ((hi id (by simp[idsV])).trans h1) h2
 |mptr id i fz xs hh b h1 h2=>intro hi;exact .mptr id i fz xs hh b ((hi id (by simp[idsV])).trans h1) h2
 |cptr cs b o us h1 h2 h3 h4 h5=>intro _;exact .cptr cs b o us (hok _ h1) h2 h3 h4 (fun j T u a b=>(h5 j T u a b).mono hok (fun _ _ _ _ h=>h))
 |agg cs us h1 _ h3 ih=>intro hi;exact .agg cs us h1 (fun i v u a b=>ih i v u a b (fun id hid=>hi id (by simp only[idsV];exact z2e.2 ⟨v,List.mem_of_getElem? a,hid⟩))) h3
 |fn f cap us h1 _ ih=>intro hi;exact .fn f cap us h1 (fun i v u a b=>ih i v u a b (fun id hid=>hi id (by simp only[idsV];exact z2e.2 ⟨v,List.mem_of_getElem? a,hid⟩)))
 |tup vs us h1 _ ih=>intro hi;exact .tup vs us h1 (fun i v u a b=>ih i v u a b (fun id hid=>hi id (by simp only[idsV];exact z2e.2 ⟨v,List.mem_of_getElem? a,hid⟩)))
 |cond c v u _ h0 ih=>intro hi;exact .cond c v u (fun e=>ih e (fun id hid=>hi id (by simpa[idsV] using hid))) h0
 |junk u=>intro _;exact .junk u
 |rowG id n L h1=>intro hi;exact .rowG id n L ((hi id (by simp[idsV])).trans h1)
 |eptrG id n i sub b o h1=>intro hi;exact .eptrG id n i sub b o ((hi id (by simp[idsV])).trans h1)
 |anyB b=>intro _;exact .anyB b
 |ifc t u=>intro _;exact .ifc t u
 |tail id n i k fz xs L h1 h2 h3 h4=>intro hi;exact .tail id n i k fz xs L ((hi id (by simp[idsV])).trans h1) h2 h3 h4
 |tailG id n i k L h1=>intro hi;exact .tailG id n i k L ((hi id (by simp[idsV])).trans h1)
 |hdl id o b u h1 h2 h3=>intro hi;exact .hdl id o b u ((hi id (by simp[idsV])).trans h1) h2 h3
 |ptrG id off b h1=>intro hi;exact .ptrG id off b ((hi id (by simp[idsV])).trans h1)
 |yl id Y pre h1=>intro hi;exact .yl id Y pre ((hi id (by simp[idsV])).trans h1)
theorem z5H{st':Store}{m':Place}{w':World}{ok ok':Nat→Prop}{v:AVal}{u:Value}(hf:z9q v=true)(h:VRel S m w ok v u):VRel st' m' w' ok' v u:=by
 have tree:∀(T:Tree) (u:Value),T.free=true→TRep w ok T u→TRep w' ok' T u:=by
  intro T u hT h
  cases h with
  |sc _ h=>exact .sc _ h
  |lst=>simp[Tree.free] at hT
  |agg cs us hl hc h1=>
   refine .agg cs us hl hc (fun i T u a b=> ?_)
   have h2:=h1 i T u a b
   have h3:=List.all_eq_true.1 hT T (List.mem_of_getElem? a)
   cases h2 with
   |sc _ h=>exact .sc _ h
   |lst=>simp at h3
   |agg=>simp at h3
 cases h with
 |t T u hT=>exact .t T u (tree T u hf hT)
 |tup vs us hl h1=>
  refine .tup vs us hl (fun i v u a b=> ?_)
  have h2:=h1 i v u a b
  have h3:=List.all_eq_true.1 hf v (List.mem_of_getElem? a)
  cases h2 with
  |t T u hT=>exact .t T u (tree T u h3 hT)
  |ifc t u=>exact .ifc t u
  |_=>simp at h3
 |_=>simp[z9q] at hf
theorem y0x{S S':Store}:∀{wr:List (Nat×Ob)} {id:Nat},(id∈wr.map (·.1)∨S id=S' id)→app S wr id=app S' wr id
 | [],id,h=>by simpa[app] using h
 | (i,o)::wr,id,h=>by
  simp only[app]
  apply y0x
  by_cases e:id=i
  ·subst e;right;rw[z0i,z0i]
  ·rcases h with h|h
   ·simp only[List.map_cons,List.mem_cons] at h
    exact .inl (h.resolve_left e)
   ·right;rw[z0h e,z0h e,h]
theorem z1n{S:Store}:∀{wr:List (Nat×Ob)} {id:Nat},id∉wr.map (·.1)→app S wr id=S id
 | [],id,_=>rfl
 | (i,o)::wr,id,h=>by
  simp only[List.map_cons,List.mem_cons,not_or] at h
  simp only[app]
  rw[z1n h.2,z0h h.1]
theorem y0y{S:Store}:∀{wr:List (Nat×Ob)} {id:Nat},id∈wr.map (·.1)→∃o,app S wr id=some o
 | [],id,h=>by simp at h
 | (i,o)::wr,id,h=>by
  simp only[app]
  by_cases hm:id∈wr.map (·.1)
  ·exact y0y hm
  ·simp only[List.map_cons,List.mem_cons] at h
   have e:=h.resolve_right hm
   subst e
   exact⟨o,by rw[z1n hm,z0i]⟩
theorem RowAt.okTo{ok ok':Nat→Prop}(hok:∀b,ok b→ok' b){k:Nat}{xs:List Tree}{L:Option Nat×Nat}(h:RowAt w ok k xs L):RowAt w ok' k xs L:=by
 obtain⟨a1,a2,a3,a4,a5⟩:=h
 refine⟨a1,a2,a3,a4,a5.imp (fun h=>h) ?_⟩
 rintro⟨b,us,e,h1,h2,h3,h4,h5⟩
 exact⟨b,us,e,h1,h2,h3,h4,fun j T u p q=>(h5 j T u p q).mono hok (fun _ _ _ _ h=>h)⟩
theorem MRel.tq{st':Store}{m':Place}{ok ok':Nat→Prop}(hok:∀b,ok b→ok' b){v:MV}{u:Value}{c:Option Nat}(h:MRel S m w ok v u c):MRel st' m' w ok' v u c:=by
 cases v with
 |im T=>exact⟨h.1.mono hok (fun _ _ _ _ h=>h),h.2⟩
 |cp cs=>
  refine⟨?_,h.2⟩
  cases h.1 with
  |cptr _ b o us h1 h2 h3 h4 h5=>exact .cptr cs b o us (hok _ h1) h2 h3 h4 (fun j T u a b=>(h5 j T u a b).mono hok (fun _ _ _ _ h=>h))
 |bx cs=>
  obtain⟨b,us,e,h1,h2,h3,h4,h5,h6⟩:=h
  exact⟨b,us,e,h1,h2,h3,h4,h5,fun i T u p q=>(h6 i T u p q).mono hok (fun _ _ _ _ h=>h)⟩
 |rw k xs=>
  obtain⟨L,h1,h2,h3⟩:=h
  exact⟨L,h1,h2,h3.okTo hok⟩
def idsO:Ob→List Nat
 | .box cs=>idsL cs
 | .mat _ _ (some (_,r,_))=>[r]
 | .mp _ (some (_,v))=>idsV v
 | .miter mid _ _=>[mid]
 |_=>[]
theorem ORel.tq{st':Store}{m':Place}{ok ok':Nat→Prop}(hok:∀b,ok b→ok' b){o:Ob}{L:Option Nat×Nat}{g:List Nat}(h:ORel S m w ok o L g)
 (hv:∀v u,(∀i∈idsV v,i∈idsO o)→VRel S m w ok v u→VRel st' m' w ok' v u) (hm:∀mid n s,o= .miter mid n s→m' mid=m mid∧∀es hh,S mid=some (.mp es hh)→∃es hh,st' mid=some (.mp es hh)):ORel st' m' w ok' o L g:=by
 cases o with
 |box cs=>
  obtain⟨b,us,e,h1,h2,h3,h4⟩:=h
  exact⟨b,us,e,h1,h2,h3,fun i v u p q=>⟨hv v u (fun j hj=>z2e.2 ⟨v,List.mem_of_getElem? p,hj⟩) (h4 i v u p q).1,(h4 i v u p q).2⟩⟩
 |mat fz xs hh=>
  obtain⟨⟨b,us,e,h1,h2,h3,h4⟩,q⟩:=h
  refine⟨⟨b,us,e,h1,h2,h3,fun i v u p q=>⟨hv v u (fun j hj=> ?_) (h4 i v u p q).1,(h4 i v u p q).2⟩⟩,q⟩
  have hmem:=List.mem_of_getElem? p
  match hh with
  |none=>obtain⟨T,_,rfl⟩:=List.mem_map.1 hmem;simp[idsV] at hj
  |some (a,r,n)=>
   rcases List.mem_or_eq_of_mem_set hmem with hmem|rfl
   ·obtain⟨T,_,rfl⟩:=List.mem_map.1 hmem;simp[idsV] at hj
   ·simpa[idsV,idsO] using hj
 |row k fz xs=>exact RowAt.okTo hok h
 |gone=>exact h
 |siter s pos=>exact h
 |mp es hh=>
  obtain⟨b,ents,bl,h1,h2,h3,h4,h5,h6,h7⟩:=h
  refine⟨b,ents,bl,h1,h2,h3,h4,h5,h6,fun i x e p q=> ?_⟩
  obtain⟨q1,q2,q3⟩:=h7 i x e p q
  refine⟨q1,q2,?_⟩
  match hh with
  |none=>exact MRel.tq hok q3
  |some (k',v')=>exact⟨fun e=>⟨hv v' _ (fun j hj=>hj) (q3.1 e).1,(q3.1 e).2⟩,fun e=>(q3.2 e).tq hok⟩
 |miter mid n seen=>
  obtain⟨b,bm,h1,h2,⟨es,hh,h3⟩,h4⟩:=h
  obtain⟨e1,e2⟩:=hm mid n seen rfl
  exact⟨b,bm,h1,by rw[e1];exact h2,e2 es hh h3,h4⟩
 |ext Y pre=>exact⟨h.1,h.2.1,fun b hD=>hok b (h.2.2 b hD)⟩
theorem ORel.ext{st':Store}{m':Place}{ok ok':Nat→Prop}(hs:∀id o,S id=some o→st' id=some o∧m' id=m id)(hok:∀b,ok b→ok' b){o:Ob}{L:Option Nat×Nat}{g:List Nat}(h:ORel S m w ok o L g):ORel st' m' w ok' o L g:=by
 refine h.tq hok (fun v u _ hv=>hv.ext hs hok) (fun mid n s e=> ?_)
 subst e
 obtain⟨b,bm,h1,h2,⟨es,hh,h3⟩,h4⟩:=h
 exact⟨(hs _ _ h3).2,fun es' hh' h'=>⟨es',hh',(hs _ _ h').1⟩⟩
def offB(F:Fen P)(S sub:Store)(m:Place):Fen P:=⟨fun b=>F b∨∃id o,S id=some o∧o.live=true∧m.has id b∧sub id=none,fun b=>F.bar b∨∃id o,S id=some o∧o.live=true∧m.has id b∧sub id=none∧∀x,¬F.says b x,F.says,fun b o h=> .inl (F.sub b o h),fun b h=>h.imp (F.sup b) (fun⟨i,o,q1,q2,q3,q4,_⟩=>⟨i,o,q1,q2,q3,q4⟩),F.tab,fun b o h hb=>hb.elim (F.opn b o h) (fun⟨_,_,_,_,_,_,hn⟩=>hn o h),F.cel,F.rnd,F.lo⟩
theorem y0z{sub:Store}(hsub:∀id o,sub id=some o→S id=some o){b:Nat}(h:okB F S m w b):okB (offB F S sub m) sub m w b:=by
 obtain⟨h1,h2,h3⟩:=h
 refine⟨h1,fun hf=> ?_,fun id o ho hl=>h3 id o (hsub id o ho) hl⟩
 rcases hf with hf| ⟨id,o,ho,hl,hm,_⟩
 ·exact h2 hf
 ·exact h3 id o ho hl hm
theorem SRel.off{sub:Store}(hS:SRel F S m w)(hsub:∀id o,sub id=some o→S id=some o)(hcl:∀id o,sub id=some o→∀i∈idsO o,sub i=S i):
 SRel (offB F S sub m) sub m w:=by
 refine⟨fun id o ho=> ?_,fun i j oi oj b hi hj=>hS.inj i j oi oj b (hsub _ _ hi) (hsub _ _ hj),fun id o b ho hm hf=> ?_,fun id o b ho hm=>hS.lt id o b (hsub id o ho) hm,fun b hf=> ?_,fun b o h=>hS.hold b o h⟩
 ·refine(hS.objs id o (hsub id o ho)).tq (fun b hb=>y0z hsub hb) (fun v u hids hv=>hv.restrict (fun b hb=>y0z hsub hb) (fun i hi=>hcl id o ho i (hids i hi))) (fun mid n s e=>⟨rfl,fun es hh h=>⟨es,hh,?_⟩⟩)
  subst e
  rw[hcl id _ ho mid (by simp[idsO])];exact h
 ·rcases hf with hf| ⟨i,oi,hi,hl,hm',hn⟩
  ·exact hS.avoid id o b (hsub id o ho) hm hf
  ·have:=hS.inj id i _ _ b (hsub id o ho) hi hm hm'
   subst this
   rw[ho] at hn;cases hn
 ·rcases hf with hf| ⟨i,oi,hi,hl,hm,_⟩
  ·exact hS.low b hf
  ·exact hS.lt i oi b hi hm
theorem z8l{sub:Store}{wr:List (Nat×Ob)}{m1:Place}{w':World}{res:AVal}{v:Value}(hS:SRel F S m w)(hsub:∀id o,sub id=some o→S id=some o)
 (hwr:∀id∈wr.map (·.1),sub id=S id) (h1:SRel (offB F S sub m) (app sub wr) m1 w') (h2:FrameExt (offB F S sub m) sub m w (app sub wr) m1 w')
 (h3:VRel (app sub wr) m1 w' (okB (offB F S sub m) (app sub wr) m1 w') res v):
 ∃m2,SRel F (app S wr) m2 w'∧FrameExt F S m w (app S wr) m2 w'∧VRel (app S wr) m2 w' (okB F (app S wr) m2 w') res v:=by
 let m2:Place:=⟨fun id=>if(app sub wr id).isSome then m1 id else m id,fun id=>if(app sub wr id).isSome then m1.g id else m.g id⟩
 have hin:∀id o,app sub wr id=some o→m2 id=m1 id:=fun id o h=>by simp[m2,h]
 have hout:∀id,app sub wr id=none→m2 id=m id:=fun id h=>by simp[m2,h]
 have hing:∀id o,app sub wr id=some o→m2.g id=m1.g id:=fun id o h=>by simp[m2,h]
 have houtg:∀id,app sub wr id=none→m2.g id=m.g id:=fun id h=>by simp[m2,h]
 have hinh:∀id o b,app sub wr id=some o→(m2.has id b↔m1.has id b):=fun id o b h=>by unfold Place.has;rw[hin id o h,hing id o h]
 have houth:∀id b,app sub wr id=none→(m2.has id b↔m.has id b):=fun id b h=>by unfold Place.has;rw[hout id h,houtg id h]
 have hS2:∀id o,app sub wr id=some o→app S wr id=some o:=by
  intro id o h
  by_cases hm:id∈wr.map (·.1)
  ·rw[←h];exact y0x (.inl hm)
  ·rw[z1n hm] at h⊢
   exact hsub id o h
 have hrest:∀id,app sub wr id=none→app S wr id=S id∧sub id=none:=by
  intro id h
  have hm:id∉wr.map (·.1):=fun hm=>by obtain⟨o,ho⟩:=y0y (S:=sub) hm;rw[h] at ho;cases ho
  rw[z1n hm] at h
  exact⟨z1n hm,h⟩
 have hF:FrameExt F S m w (app S wr) m2 w':=by
  refine⟨h2.os,h2.tape,h2.output,h2.size,fun b hb hf=> ?_,fun id o ho=> ?_,fun id o ho hn b hb=> ?_⟩
  ·refine h2.block b hb ?_
   rcases hf with hf|hf
   ·exact .inl (.inl hf)
   ·exact .inr fun id o ho hl=>hf id o (hsub id o ho) hl
  ·cases hs:sub id with
   |some o'=>
    have:=hsub id o' hs
    rw[ho] at this;cases this
    obtain⟨o1,k1,k2,k3,k4,k5,k6⟩:=h2.keep id o hs
    exact⟨o1,hS2 id o1 k1,k2,fun e=>by rw[hin id o1 k1];exact k3 e,k4,fun b hb=>(k5 b ((hinh id o1 b k1).1 hb)).imp (fun h=>h) (fun h=>h.imp (fun h=>h) (fun⟨i,oi,q1,q2,q3⟩=>⟨i,oi,hsub i oi q1,q2,q3⟩)),k6⟩
   |none=>
    have hm:id∉wr.map (·.1):=fun hm=>by have:=hwr id hm;rw[hs,ho] at this;cases this
    have hn:app sub wr id=none:=by rw[z1n hm];exact hs
    exact⟨o,by rw[z1n hm];exact ho,Nat.le_refl _,fun _=>hout id hn,fun h=>h,fun b hb=> .inl ((houth id b hn).1 hb),o.same_refl⟩
  ·cases hs:app sub wr id with
   |some o1=>
    have hsn:sub id=none:=by
     cases hh:sub id with
     |none=>rfl
     |some o'=>have:=hsub id o' hh;rw[hn] at this;cases this
    rw[hinh id o1 b hs] at hb
    exact(h2.new id o1 hs hsn b hb).imp (fun h=>h) (fun⟨i,oi,q1,q2,q3⟩=>⟨i,oi,hsub i oi q1,q2,q3⟩)
   |none=>
    have:=(hrest id hs).1
    rw[ho,hn] at this;cases this
 have hok:∀b,okB (offB F S sub m) (app sub wr) m1 w' b→okB F (app S wr) m2 w' b:=by
  rintro b ⟨b1,b2,b3⟩
  refine⟨b1,fun hf=>b2 (.inl hf),fun id o ho hl hm=> ?_⟩
  cases hs:app sub wr id with
  |some o1=>
   have:=hS2 id o1 hs
   rw[ho] at this;cases this
   rw[hinh id o b hs] at hm
   exact b3 id o hs hl hm
  |none=>
   have hr:=hrest id hs
   rw[hr.1] at ho
   rw[houth id b hs] at hm
   exact b2 (.inr ⟨id,o,ho,hl,hm,hr.2,fun x hx=>hS.avoid id o b ho hm (F.sub b x hx)⟩)
 have hext:∀id o,app sub wr id=some o→app S wr id=some o∧m2 id=m1 id:=fun id o h=>⟨hS2 id o h,hin id o h⟩
 refine⟨m2,⟨fun id o ho=> ?_,fun i j oi oj b hi hj hbi hbj=> ?_,fun id o b ho hm hf=> ?_,fun id o b ho hm=> ?_,fun b hf=>Nat.lt_of_lt_of_le (hS.low b hf) h2.size,hS.held hF⟩,hF,h3.ext hext hok⟩
 ·cases hs:app sub wr id with
  |some o1=>
   have:=hS2 id o1 hs
   rw[ho] at this;cases this
   rw[hin id o hs,hing id o hs]
   exact(h1.objs id o hs).ext hext hok
  |none=>
   have hr:=hrest id hs
   rw[hr.1] at ho
   rw[hout id hs,houtg id hs]
   refine(hS.objs id o ho).persist hF (fun b hb=> ?_)
   refine h2.block b (hS.lt id o b ho hb) (.inr fun i oi hi hl hbi=> ?_)
   have:=hS.inj id i _ _ b ho (hsub i oi hi) hb hbi
   subst this
   rw[hr.2] at hi;cases hi
 ·
  have mixed:∀i j oi oj,app S wr i=some oi→app S wr j=some oj→m2.has i b→m2.has j b→∀o1,app sub wr i=some o1→app sub wr j=none→i=j:=by
   intro i j oi oj hi hj hbi hbj o1 hs1 hs2
   have hr:=hrest j hs2
   rw[hr.1] at hj
   rw[houth j b hs2] at hbj
   rw[hinh i o1 b hs1] at hbi
   have hlt:=hS.lt j oj b hj hbj
   cases hsi:sub i with
   |some o0=>
    obtain⟨_,_,_,_,_,k5,_⟩:=h2.keep i o0 hsi
    rcases k5 b hbi with k5|k5| ⟨i',oi',q1,q2,q3⟩
    ·exact hS.inj i j _ _ b (hsub i o0 hsi) hj k5 hbj
    ·omega
    ·have:=hS.inj i' j _ _ b (hsub i' oi' q1) hj q3 hbj
     subst this
     rw[hr.2] at q1;cases q1
   |none=>
    rcases h2.new i o1 hs1 hsi b hbi with q| ⟨i',oi',q1,q2,q3⟩
    ·omega
    ·have:=hS.inj i' j _ _ b (hsub i' oi' q1) hj q3 hbj
     subst this
     rw[hr.2] at q1;cases q1
  cases hs1:app sub wr i with
  |some o1=>
   cases hs2:app sub wr j with
   |some o2=>
    rw[hinh i o1 b hs1] at hbi
    rw[hinh j o2 b hs2] at hbj
    exact h1.inj i j o1 o2 b hs1 hs2 hbi hbj
   |none=>exact mixed i j oi oj hi hj hbi hbj o1 hs1 hs2
  |none=>
   cases hs2:app sub wr j with
   |some o2=>exact(mixed j i oj oi hj hi hbj hbi o2 hs2 hs1).symm
   |none=>
    rw[(hrest i hs1).1] at hi
    rw[(hrest j hs2).1] at hj
    rw[houth i b hs1] at hbi
    rw[houth j b hs2] at hbj
    exact hS.inj i j oi oj b hi hj hbi hbj
 ·cases hs:app sub wr id with
  |some o1=>
   rw[hinh id o1 b hs] at hm
   exact h1.avoid id o1 b hs hm (.inl hf)
  |none=>
   rw[(hrest id hs).1] at ho
   rw[houth id b hs] at hm
   exact hS.avoid id o b ho hm hf
 ·cases hs:app sub wr id with
  |some o1=>
   rw[hinh id o1 b hs] at hm
   exact h1.lt id o1 b hs hm
  |none=>
   rw[(hrest id hs).1] at ho
   rw[houth id b hs] at hm
   exact Nat.lt_of_lt_of_le (hS.lt id o b ho hm) h2.size
def Back(P:Program)(F:Fen P)(S:Store)(m:Place)(w:World)(wr:List (Nat×Ob))(val:AVal)(f:FuncId)(args:Array Value):Prop:=
 Calls P f args w fun e w'=> ∃v m',e= .returned v∧SRel F (app S wr) m' w'∧FrameExt F S m w (app S wr) m' w'∧VRel (app S wr) m' w' (okB F (app S wr) m' w') val v
theorem y0A:∀{l:List Nat} {r:List (Nat×Ob)},lookL st l=some r→r.map (·.1)=l∧∀x∈r,st x.1=some x.2
 | [],r,h=>by simp[lookL] at h;subst h;simp
 |i::l,r,h=>by
  simp only[lookL] at h
  split at h
  ·rename_i o r' h1 h2
   simp only[Option.some.injEq] at h
   subst h
   obtain⟨a,b⟩:=y0A h2
   refine⟨by simp[a],fun x hx=> ?_⟩
   rcases List.mem_cons.1 hx with rfl|hx
   ·exact h1
   ·exact b x hx
  ·cases h
theorem y2V:∀{l:List (Nat×Ob)} {S:Store} {i:Nat},(∀x∈l,st x.1=some x.2)→(S i=st i∨i∈l.map (·.1))→app S l i=st i
 | [],S,i,h,h'=>by
  rcases h' with h'|h'
  ·exact h'
  ·simp at h'
 | (j,o)::l,S,i,h,h'=>by
  simp only[app]
  refine y2V (fun x hx=>h x (List.mem_cons_of_mem _ hx)) ?_
  by_cases e:i=j
  ·subst e;left;simp[upd];exact(h (i,o) (by simp)).symm
  ·rcases h' with h'|h'
   ·left;simp only[upd,z0L e,cond_false];exact h'
   ·right;simpa[e] using h'
theorem y2W{l:List Nat}{r:List (Nat×Ob)}(h:lookL st l=some r):only st l=app emp r:=by
 obtain⟨a,b⟩:=y0A h
 funext i
 by_cases hi:hasId l i=true
 ·rw[y2V b (.inr (by rw[a];exact z0D.1 hi))]
  simp[only,hi]
 ·have hi':i∉r.map (·.1):=by rw[a];exact fun h=>hi (z0D.2 h)
  rw[z1n hi']
  simp[only,Bool.not_eq_true _▸hi,emp]
theorem z9z{f:FuncId}{vals:List AVal}{nid:Nat}{c:CallOrc}{δ:Dl}(h:callK P f vals st nid c=some δ)(hc:All δ.cnd)(hst:∀id o,st id=some o→S id=some o)(hneed:∀id∈c.need,st id=S id)
 (hS:SRel F S m w) (hfresh:∀id,nid≤id→id<nid+8→S id=none) {us:List Value} (hl:us.length=vals.length)
 (hr:∀(i:Nat) (v:AVal) (u:Value),vals[i]? =some v→us[i]? =some u→VRel S m w (okB F S m w) v u):z00 P f=true∧Back P F S m w δ.wr δ.val f us.toArray:=by
 have h3:c.mode=3∨c.mode≠3:=by omega
 have red:∃c':CallOrc,c'.mode≠3∧c'.need=c.need∧∃δ',callK P f vals st nid c'=some δ'∧All δ'.cnd∧δ'.wr=δ.wr∧δ'.val=δ.val:=by
  rcases h3 with h3|h3
  ·refine⟨⟨2,c.need,c.res,c.wr⟩,(fun hh=>by cases hh),rfl,?_⟩
   unfold callK at h
   rw[h3] at h
   simp only at h
   split at h
   ·rename_i l hl
    obtain⟨hcond,h⟩:=z0k h
    simp only[Option.some.injEq] at h
    subst h
    refine⟨⟨c.res,c.wr,[z00 P f=true,FC P f vals (only st c.need) c.res (app (only st c.need) c.wr)]⟩,?_,?_,rfl,rfl⟩
    ·unfold callK
     simp only
     rw[hcond];rfl
    ·rw[y2W hl];exact hc
   ·cases h
  ·exact⟨c,h3,rfl,δ,h,hc,rfl,rfl⟩
 obtain⟨c,hm3,hnd,δ',h,hc,ew,ev⟩:=red
 rw[←ew,←ev]
 replace hneed:∀id∈c.need,st id=S id:=by rw[hnd];exact hneed
 clear hnd ew ev
 unfold callK at h
 split at h
 ·
  split at h
  rotate_left
  ·cases h
  rename_i vs g p hsn
  obtain⟨hcond,h⟩:=z0k h
  simp only[Bool.and_eq_true] at hcond
  simp only[Option.some.injEq] at h
  subst h
  simp only[All] at hc
  rw[z0A] at hc
  simp only[All] at hc
  obtain⟨hcall,hp,hFC,-⟩:=hc
  refine⟨hcall,?_⟩
  obtain⟨q1,q2,q3⟩:=z10 hst hS hsn hp hl hr
  obtain⟨r1,r2,r3,r4⟩:=z1f g S hS q2
  have hids:idsL vs=[]:=by simpa using hcond.2
  have hemp:SRel F emp m w:=⟨fun id o h=>(by cases h),fun i j oi oj b h=>(by cases h),fun id o b h=>(by cases h),fun id o b h=>(by cases h),hS.low,hS.hold⟩
  refine(hFC F m w us hemp q1.symm (fun i v u hv hu=> ?_)).mono ?_
  ·refine(q3 g q2 (fun x hx=>hx) i v u hv hu).restrict (fun b hb=>⟨hb.1,hb.2.1,fun id o h=>by cases h⟩) (fun id hid=> ?_)
   have:id∈idsL vs:=z2e.2 ⟨v,List.mem_of_getElem? hv,hid⟩
   rw[hids] at this;cases this
  ·rintro e w' ⟨v,m',he,h1,h2,h3⟩
   have hall:∀b,b<w.heap.size→w'.heap[b]? =w.heap[b]? :=fun b hb=>h2.block b hb (.inr fun id o h=>by cases h)
   have hF:FrameExt F S m w S m w':=⟨h2.os,h2.tape,h2.output,h2.size,fun b hb _=>hall b hb,fun id o h=>⟨o,h,Nat.le_refl _,fun _=>rfl,fun h=>h,fun _ q=> .inl q,o.same_refl⟩,fun id o h h'=>by rw[h'] at h;cases h⟩
   exact⟨v,m,he,⟨fun id o ho=>(hS.objs id o ho).persist hF (fun b hb=>hall b (hS.lt id o b ho hb)),hS.inj,hS.avoid,fun id o b ho hm=>Nat.lt_of_lt_of_le (hS.lt id o b ho hm) h2.size,fun b hb=>Nat.lt_of_lt_of_le (hS.low b hb) h2.size,hS.held hF⟩,hF,z5H hcond.1 h3⟩
 ·
  split at h
  rotate_left
  ·cases h
  rename_i vs g p hsn
  obtain⟨hcond,h⟩:=z0k h
  simp only[Bool.and_eq_true] at hcond
  simp only[Option.some.injEq] at h
  subst h
  simp only[All] at hc
  rw[z0A] at hc
  simp only[All] at hc
  obtain⟨hcall,hp,hFC,-⟩:=hc
  refine⟨hcall,?_⟩
  obtain⟨q1,q2,q3⟩:=z10 hst hS hsn hp hl hr
  obtain⟨r1,r2,r3,r4⟩:=z1f g S hS q2
  have hids:idsL vs=[]:=by simpa using hcond.2
  have hsub:∀id o,emp id=some o→app S g id=some o:=fun id o h=>by cases h
  have hnew:∀id∈c.wr.map (·.1),S id=none:=by
   intro id hid
   obtain⟨x,hx,rfl⟩:=List.mem_map.1 hid
   have:=List.all_eq_true.1 hcond.1 x hx
   simp only[Bool.and_eq_true] at this
   exact hfresh x.1 (Nat.le_of_ble_eq_true this.1) (Nat.lt_of_succ_le (Nat.le_of_ble_eq_true this.2))
  refine(hFC (offB F (app S g) emp m) m w us (r1.off hsub (fun id o h=>by cases h)) q1.symm (fun i v u hv hu=> ?_)).mono ?_
  ·refine(q3 g q2 (fun x hx=>hx) i v u hv hu).restrict (fun b hb=>y0z hsub hb) (fun id hid=> ?_)
   have:id∈idsL vs:=z2e.2 ⟨v,List.mem_of_getElem? hv,hid⟩
   rw[hids] at this;cases this
  ·rintro e w' ⟨v,m',he,h1,h2,h3⟩
   obtain⟨m2,k1,k2,k3⟩:=z8l r1 hsub (fun id hid=>by
    have h0:=hnew id hid
    have:id∉g.map (·.1):=fun hm=>by
     obtain⟨x,hx,rfl⟩:=List.mem_map.1 hm
     obtain⟨k,fz,xs,hk,_⟩:=q2 x.1 x.2 hx
     rw[h0] at hk;cases hk
    rw[r4 id this,h0];rfl) h1 h2 h3
   exact⟨v,m2,he,by rw[z1s];exact k1,by rw[z1s];exact r2.trans hS k2,by rw[z1s];exact k3⟩
 ·rename_i hh;exact absurd hh hm3
 ·
  obtain⟨hcond,h⟩:=z0k h
  simp only[Bool.and_eq_true] at hcond
  simp only[Option.some.injEq] at h
  subst h
  simp only[All] at hc
  obtain⟨hcall,hFC,-⟩:=hc
  refine⟨hcall,?_⟩
  have hsub:∀id o,only st c.need id=some o→S id=some o:=fun id o h=>hst id o (z5z h).1
  have hmem:∀id,hasId c.need id=true→only st c.need id=S id:=fun id h=>by rw[y0q (z0D.1 h)];exact hneed id (z0D.1 h)
  have hcl:∀id o,only st c.need id=some o→∀i∈idsO o,only st c.need i=S i:=by
   intro id o h i hi
   obtain⟨h1,h2⟩:=z5z h
   have:=List.all_eq_true.1 hcond.2 id h2
   rw[h1] at this
   cases o with
   |box cs=>exact hmem i (List.all_eq_true.1 this i hi)
   |miter mid n s=>simp only[idsO,List.mem_singleton] at hi;subst hi;exact hmem _ this
   |mat fz xs hh=>cases hh<;>first| (simp[idsO] at hi;done)|cases this
   |mp es hh=>cases hh<;>first| (simp[idsO] at hi;done)|cases this
   |_=>simp[idsO] at hi
  refine(hFC (offB F S (only st c.need) m) m w us (hS.off hsub hcl) hl (fun i v u hv hu=> ?_)).mono ?_
  ·refine(hr i v u hv hu).restrict (fun b hb=>y0z hsub hb) (fun id hid=> ?_)
   exact hmem id (List.all_eq_true.1 hcond.1.2 id (z2e.2 ⟨v,List.mem_of_getElem? hv,hid⟩))
  ·rintro e w' ⟨v,m',he,h1,h2,h3⟩
   obtain⟨m2,k1,k2,k3⟩:=z8l hS hsub (fun id hid=>by
    obtain⟨x,hx,rfl⟩:=List.mem_map.1 hid
    have:=List.all_eq_true.1 hcond.1.1 x hx
    simp only[Bool.or_eq_true,Bool.and_eq_true] at this
    rcases this with h|h
    ·exact hmem x.1 h
    ·have h0:=hfresh x.1 (Nat.le_of_ble_eq_true h.1) (Nat.lt_of_succ_le (Nat.le_of_ble_eq_true h.2))
     rw[h0]
     cases hh:only st c.need x.1 with
     |none=>rfl
     |some o=>have:=hsub _ _ hh;rw[h0] at this;cases this) h1 h2 h3
   exact⟨v,m2,he,k1,k2,k3⟩
theorem CallV.mono{P:Program}{u:Value}{args:Array Value}{w:World}{R R':Ending→World→Prop}(h:CallV P u args w R)(hr:∀e w',R e w'→R' e w'):CallV P u args w R':=by
 obtain⟨t,cap,nx,h1,h2,h3⟩:=h
 refine⟨t,cap,nx,h1,h2,?_⟩
 cases nx<;>first|exact h3|exact CallsIn.mono h3 hr|exact RoundIn.mono h3 hr
theorem y2X{w w':World}{ok ok':Nat→Prop}{T:Tree}{u:Value}(hT:T.free=true)(h:TRep w ok T u):TRep w' ok' T u:=by
 have:=z5H (st':=fun _=>none) (m':=⟨fun _=>(none,0),fun _=>[]⟩) (w':=w') (ok':=ok') (S:=fun _=>none) (m:=⟨fun _=>(none,0),fun _=>[]⟩) (v:= .t T) hT (.t T u h)
 cases this with
 |t _ _ h=>exact h
theorem y43{id:Nat}{Y:YSpec}{pre pre':List (List Tree)}{w':World}{g':List Nat}(hS:SRel F S m w)(hid:S id=some (.ext Y pre))(hos:w'.os=w.os)(htape:w'.tape=w.tape)(hout:w'.output=w.output)
 (hsz:w.heap.size≤w'.heap.size) (hb:∀b,b<w.heap.size→b∉m.g id→w'.heap[b]? =w.heap[b]?) (hg1:∀b∈g',b∈m.g id∨(w.heap.size≤b∧b<w'.heap.size)) (hh:Y.holds pre' g' w'):
 SRel F (upd S id (.ext Y pre')) ⟨m.f,fun j=>if j=id then g' else m.g j⟩ w'∧FrameExt F S m w (upd S id (.ext Y pre')) ⟨m.f,fun j=>if j=id then g' else m.g j⟩ w':=by
 have hO:=hS.objs id _ hid
 have hsame:∀b,(Place.mk m.f (fun j=>if j=id then g' else m.g j)).has id b↔b∈g':=fun b=>by
  unfold Place.has
  simp only[if_true]
  rw[show(m.f id).1=none from hO.1];simp
 have hne:∀i b,i≠id→((Place.mk m.f (fun j=>if j=id then g' else m.g j)).has i b↔m.has i b):=fun i b e=>by
  unfold Place.has
  simp only[if_neg e]
 have hgid:∀b,b∈m.g id→m.has id b:=fun b h=> .inr h
 have hF:FrameExt F S m w (upd S id (.ext Y pre')) ⟨m.f,fun j=>if j=id then g' else m.g j⟩ w':=by
  refine⟨hos,htape,hout,hsz,fun b hlt hf=>hb b hlt (fun hg=> ?_),fun i o ho=> ?_,fun i o ho hn=> ?_⟩
  ·rcases hf with hf|hf
   ·exact hS.avoid id _ b hid (hgid b hg) hf
   ·exact hf id _ hid rfl (hgid b hg)
  ·by_cases e:i=id
   ·subst e
    rw[hid] at ho;cases ho
    refine⟨_,z0i _ _ _,Nat.le_refl _,fun _=>rfl,(fun h=>by cases h),fun b q=> ?_,rfl⟩
    rcases hg1 b ((hsame b).1 q) with q|q
    ·exact .inl (hgid b q)
    ·exact .inr (.inl q.1)
   ·exact⟨o,by rw[z0h e];exact ho,Nat.le_refl _,fun _=>rfl,fun h=>h,fun b q=> .inl ((hne i b e).1 q),o.same_refl⟩
  ·by_cases e:i=id
   ·subst e;rw[hid] at hn;cases hn
   ·rw[z0h e] at ho;rw[ho] at hn;cases hn
 have old:∀i o,i≠id→upd S id (.ext Y pre') i=some o→S i=some o:=fun i o e h=>by rwa [z0h e] at h
 refine⟨⟨fun i o ho=> ?_,fun i j oi oj b hi hj h1 h2=> ?_,fun i o b ho hm hf=> ?_,fun i o b ho hm=> ?_,fun b h=>Nat.lt_of_lt_of_le (hS.low b h) hsz,hS.held hF⟩,hF⟩
 ·by_cases e:i=id
  ·subst e
   rw[z0i] at ho;cases ho
   refine⟨hO.1,?_,fun b hD=>hF.ok (hO.2.2 b hD)⟩
   simp only[if_true];exact hh
  ·have ho:=old i o e ho
   show ORel _ _ _ _ o (m.f i) ((fun j=>if j=id then g' else m.g j) i)
   simp only[if_neg e]
   refine(hS.objs i o ho).persist hF (fun b hbi=>hb b (hS.lt i o b ho hbi) (fun hg=>e (hS.inj i id _ _ b ho hid hbi (hgid b hg))))
 ·by_cases e1:i=id<;>by_cases e2:j=id
  ·rw[e1,e2]
  ·exfalso
   have hj':=old j oj e2 hj
   have h2':=(hne j b e2).1 h2
   rw[e1] at h1
   rcases hg1 b ((hsame b).1 h1) with q|q
   ·exact e2 (hS.inj j id _ _ b hj' hid h2' (hgid b q))
   ·have:=hS.lt j _ b hj' h2';omega
  ·exfalso
   have hi':=old i oi e1 hi
   have h1':=(hne i b e1).1 h1
   rw[e2] at h2
   rcases hg1 b ((hsame b).1 h2) with q|q
   ·exact e1 (hS.inj i id _ _ b hi' hid h1' (hgid b q))
   ·have:=hS.lt i _ b hi' h1';omega
  ·exact hS.inj i j _ _ b (old i oi e1 hi) (old j oj e2 hj) ((hne i b e1).1 h1) ((hne j b e2).1 h2)
 ·by_cases e:i=id
  ·subst e
   rcases hg1 b ((hsame b).1 hm) with q|q
   ·exact hS.avoid i _ b hid (hgid b q) hf
   ·have:=hS.low b hf;omega
  ·exact hS.avoid i o b (old i o e ho) ((hne i b e).1 hm) hf
 ·by_cases e:i=id
  ·subst e
   rcases hg1 b ((hsame b).1 hm) with q|q
   ·have:=hS.lt i _ b hid (hgid b q);omega
   ·exact q.2
  ·have:=hS.lt i o b (old i o e ho) ((hne i b e).1 hm);omega
theorem z8m{id:Nat}{vals:List AVal}{δ:Dl}(h:y2M P id vals st=some δ)(hc:All δ.cnd)(hst:∀id o,st id=some o→S id=some o)(hS:SRel F S m w){us:List Value}(hl:us.length=vals.length)
 (hr:∀(i:Nat) (v:AVal) (u:Value),vals[i]? =some v→us[i]? =some u→VRel S m w (okB F S m w) v u) {uf:Value} (hf:VRel S m w (okB F S m w) (.yl id) uf):
 CallV P uf us.toArray w (fun e w'=> ∃v m',e= .returned v∧SRel F (app S δ.wr) m' w'∧FrameExt F S m w (app S δ.wr) m' w'∧VRel (app S δ.wr) m' w' (okB F (app S δ.wr) m' w') δ.val v):=by
 unfold y2M at h
 split at h
 rotate_left
 ·cases h
 rename_i Y pre xs h1 h2
 obtain⟨hfree,h⟩:=z0k h
 simp only[Option.some.injEq] at h
 subst h
 have hid:=hst id _ h1
 cases hf with
 |yl _ Y' pre' hs=>
 rw[hid] at hs;cases hs
 obtain⟨hY,hA,-⟩:=hc
 have hO:=hS.objs id _ hid
 have hx:=z1G h2
 subst hx
 refine(hY pre xs us (m.g id) w hA hO.2.1 (fun b hb=>hS.lt id _ b hid (.inr hb)) (by simpa using hl) (fun i x u hx hu=> ?_)).mono ?_
 ·have:=hr i (.t x) u (by rw[List.getElem?_map,hx];rfl) hu
  cases this with
  |t _ _ hT=>exact y2X (List.all_eq_true.1 hfree x (List.mem_of_getElem? hx)) hT
 ·rintro e w' ⟨rfl,k1,k2,k3,k4,k5,g',g1,g2,k6⟩
  obtain⟨q1,q2⟩:=y43 (pre':=pre++[xs]) hS hid k1 k2 k3 k4 k5 g2 k6
  exact⟨_,_,rfl,q1,q2,.t _ _ (.sc _ rfl)⟩
end Go.Ab
end
section
set_option linter.unusedVariables false
namespace Go.Ab
variable {P:Program} {w:World} {F:Fen P} {S st:Store} {m:Place}
theorem z6r(n:Nat)(X:Tree):flat (List.replicate n X)=repl X.cells n:=by
 induction n with
 |zero=>rfl
 |succ n ih=>simp[List.replicate_succ,flat,repl,ih]
theorem y2Y(hS:SRel F S m w){id nid:Nat}{o o':Ob}(hid:S id=some o)(hn:S nid=none)(hlv:o.live=true)(hsame:o.same .gone)(hlen:o.len<18446744073709551616)
 (ho':FrameExt F S m w (upd (upd S id .gone) nid o') (place (place m id (none,0)) nid (m id)) w→ORel (upd (upd S id .gone) nid o') (place (place m id (none,0)) nid (m id)) w (okB F (upd (upd S id .gone) nid o') (place (place m id (none,0)) nid (m id)) w) o' (m id) []):
 SRel F (upd (upd S id .gone) nid o') (place (place m id (none,0)) nid (m id)) w∧FrameExt F S m w (upd (upd S id .gone) nid o') (place (place m id (none,0)) nid (m id)) w:=by
 have hne:id≠nid:=fun e=>by subst e;rw[hn] at hid;cases hid
 have hself:∀b,¬(place (place m id (none,0)) nid (m id)).has id b:=fun b hb=>by
  rw[z0o hne,z0r] at hb;cases hb
 have hF:FrameExt F S m w (upd (upd S id .gone) nid o') (place (place m id (none,0)) nid (m id)) w:=by
  refine⟨rfl,rfl,rfl,Nat.le_refl _,fun _ _ _=>rfl,fun i oi ho=> ?_,fun i oi ho hnone b hb=> ?_⟩
  ·have hin:i≠nid:=fun e=>by subst e;rw[hn] at ho;cases ho
   by_cases e:i=id
   ·subst e
    rw[hid] at ho;cases ho
    exact⟨.gone,by rw[z0h hin,z0i],Nat.le_of_lt hlen,fun e=>absurd e (Nat.ne_of_lt hlen),fun _=>rfl,fun b hb=>absurd hb (hself b),hsame⟩
   ·exact⟨oi,by rw[z0h hin,z0h e];exact ho,Nat.le_refl _,fun _=>by rw[z0J hin,z0J e],fun h=>h,fun b hb=> .inl (by rwa [z0o hin,z0o e] at hb),oi.same_refl⟩
  ·by_cases e:i=nid
   ·subst e
    rw[z0r] at hb
    exact .inr ⟨id,_,hid,hlv,.inl hb⟩
   ·rw[z0h e] at ho
    by_cases e2:i=id
    ·subst e2;rw[hid] at hnone;cases hnone
    ·rw[z0h e2] at ho;rw[ho] at hnone;cases hnone
 have key:∀i oi b,upd (upd S id .gone) nid o' i=some oi→(place (place m id (none,0)) nid (m id)).has i b→∃i0 o0,S i0=some o0∧m.has i0 b∧((i=nid∧i0=id)∨(i≠nid∧i≠id∧i0=i)):=by
  intro i oi b hi hb
  by_cases e:i=nid
  ·subst e
   rw[z0r] at hb
   exact⟨id,_,hid,.inl hb,.inl ⟨rfl,rfl⟩⟩
  ·rw[z0h e] at hi
   by_cases e2:i=id
   ·subst e2;exact absurd hb (hself b)
   ·rw[z0h e2] at hi
    rw[z0o e,z0o e2] at hb
    exact⟨i,oi,hi,hb,.inr ⟨e,e2,rfl⟩⟩
 refine⟨⟨fun i oi ho=> ?_,fun i i' oi oi' b hi hi' h1 h2=> ?_,fun i oi b ho hb=> ?_,fun i oi b ho hb=> ?_,hS.low,hS.hold⟩,hF⟩
 ·by_cases e:i=nid
  ·subst e
   rw[z0i] at ho;cases ho
   rw[z0s,z1H]
   exact ho' hF
  ·rw[z0h e] at ho
   rw[z0J e,z1C e]
   by_cases e2:i=id
   ·subst e2
    rw[z0i] at ho;cases ho
    rw[z0s];exact rfl
   ·rw[z0h e2] at ho
    rw[z0J e2,z1C e2]
    exact(hS.objs i oi ho).persist hF (fun b _=>rfl)
 ·obtain⟨i0,o0,q1,q2,q3⟩:=key i oi b hi h1
  obtain⟨i1,o1,r1,r2,r3⟩:=key i' oi' b hi' h2
  have:=hS.inj i0 i1 _ _ b q1 r1 q2 r2
  rcases q3 with⟨rfl,rfl⟩| ⟨q3,q4,rfl⟩<;>rcases r3 with⟨rfl,rfl⟩| ⟨r3,r4,rfl⟩
  ·rfl
  ·exact absurd this.symm r4
  ·exact absurd this q4
  ·exact this
 ·obtain⟨i0,o0,q1,q2,_⟩:=key i oi b ho hb
  exact hS.avoid i0 _ b q1 q2
 ·obtain⟨i0,o0,q1,q2,_⟩:=key i oi b ho hb
  exact hS.lt i0 _ b q1 q2
theorem z6y(hS:SRel F S m w){id nid k j:Nat}{xs:List Tree}(hid:S id=some (.row k false xs))(hn:S nid=none)(hj:j≤xs.length):
 SRel F (upd (upd S id .gone) nid (.row k false (xs.take j))) (place (place m id (none,0)) nid (m id)) w∧FrameExt F S m w (upd (upd S id .gone) nid (.row k false (xs.take j))) (place (place m id (none,0)) nid (m id)) w:=by
 obtain⟨a1,a2,a3,a4,a5⟩:=hS.objs id _ hid
 refine y2Y hS hid hn rfl trivial (by simp only[Ob.len];simp only[maxLen] at a4;omega) (fun hF=> ?_)
 refine⟨a1,fun x hx=>a2 x (List.mem_of_mem_take hx),by rw[List.length_take];omega,a4,a5.imp (fun h=>h) ?_⟩
 rintro⟨b,us,e,h1,h2,h3,h4,h5⟩
 refine⟨b,us,e,h1,h2,h3,h4,fun q T u p r=> ?_⟩
 rw[z3P a2,List.getElem?_take] at p
 split at p
 ·exact hF.tree (h5 q T u p r)
 ·cases p
theorem z8n{t:TypeId}{x:AVal}{lo hi mx:Option AVal}{nid:Nat}{δ:Dl}(h:y0m P t x lo hi mx st nid=some δ)(hc:All δ.cnd)(hst:∀id o,st id=some o→S id=some o)(hS:SRel F S m w)(hnid:S nid=none)
 {ux:Value} {ulo uhi:Option Value} (hx:VRel S m w (okB F S m w) x ux) (hln:lo=none→ulo=none) (hls:∀v,lo=some v→∃u,ulo=some u∧VRel S m w (okB F S m w) v u)
 (hhn:hi=none→uhi=none) (hhs:∀v,hi=some v→∃u,uhi=some u∧VRel S m w (okB F S m w) v u):
 mx=none∧Done F S m w δ.wr δ.val ((Instr.sliceAt t ux ulo uhi none).run P w):=by
 unfold y0m at h
 split at h
 ·rename_i l h1 h2
  refine⟨rfl,?_⟩
  obtain⟨ql,rfl,e1⟩:=z2n h1 hln hls
  obtain⟨qh,rfl,e2⟩:=z2n h2 hhn hhs
  split at h
  rotate_left
  ·cases h
  rename_i e id n hu
  split at h
  rotate_left
  ·cases h
  rename_i k fz xs hs
  obtain⟨hz,h⟩:=z0k h
  have hz:=z2Z hz
  have:=z0d h;subst this
  simp only[All] at hc
  obtain⟨hn,c1,c2,-⟩:=hc
  have hs2:=hst id _ hs
  cases hx with
  |rowG _ _ L hs'=>rw[hs2] at hs';cases hs'
  |row _ _ k' fz' xs' L hs' hn' hu'=>
   rw[hs2] at hs';cases hs'
   have hL:=hu' hn
   obtain⟨a1,a2,a3,a4,a5⟩:=hS.objs id _ hs2
   rw[hL] at a3 a5
   refine Done.same hS ⟨z2W L k n l.toNat,?_,.tail id n l.toNat k fz xs L hs2 hn' (by omega) hu'⟩
   obtain⟨⟨k1,l1⟩,rfl,rfl⟩:∃p:IntKind×Int,ql=some p∧p.2=l:=by
    cases ql with
    |none=>cases e1
    |some p=>exact⟨p,rfl,by simpa using e1.symm⟩
   obtain rfl:qh=none:=by cases qh with|none=>rfl|some p=>cases e2
   have hb:=z2m (P:=P) (w:=w) true n L.2 (by omega) (some (k1,l1)) none l1 (n:Int) rfl rfl c1 c2 (by omega)
   have hb':(Instr.sliceBounds true n L.2 (some (.int k1 l1)) none none).run P w= .ok (l1.toNat,n,L.2) w:=by simpa using hb
   rw[z1i hu]
   obtain⟨L1,L2⟩:=L
   cases L1 with
   |none=>simp[Instr.slice,run_underlying hu,hb',z0l hz,z0B,z2W]
   |some b=>
    simp[Instr.slice,run_underlying hu,hb',z0l hz,z0B,z2W,z0P]
 ·rename_i l h1 h2
  refine⟨rfl,?_⟩
  obtain⟨ql,rfl,e1⟩:=z2n h1 hln hls
  obtain⟨qh,rfl,e2⟩:=z2n h2 hhn hhs
  split at h
  rotate_left
  ·cases h
  rename_i e id n hu
  split at h
  rotate_left
  ·cases h
  rename_i k xs hs
  obtain⟨hz,h⟩:=z0k h
  have hz:=z2Z hz
  simp only[Option.some.injEq] at h
  subst h
  simp only[All] at hc
  obtain⟨hn,c1,c2,-⟩:=hc
  have hs2:=hst id _ hs
  have hne:id≠nid:=fun e=>by subst e;rw[hnid] at hs2;cases hs2
  cases hx with
  |rowG _ _ L hs'=>rw[hs2] at hs';cases hs'
  |row _ _ k' fz' xs' L hs' hn' hu'=>
   rw[hs2] at hs';cases hs'
   have hL:=hu' hn
   obtain⟨a1,a2,a3,a4,a5⟩:=hS.objs id _ hs2
   rw[hL] at a3 a5
   obtain⟨r1,r2⟩:=z6y hS hs2 hnid (show l.toNat≤xs.length by omega)
   obtain rfl:ql=none:=by cases ql with|none=>rfl|some p=>cases e1
   obtain⟨⟨k1,l1⟩,rfl,rfl⟩:∃p:IntKind×Int,qh=some p∧p.2=l:=by
    cases qh with
    |none=>cases e2
    |some p=>exact⟨p,rfl,by simpa using e2.symm⟩
   have hb:=z2m (P:=P) (w:=w) true n L.2 (by omega) none (some (k1,l1)) 0 l1 rfl rfl (by omega) c1 (by omega)
   have hb':(Instr.sliceBounds true n L.2 none (some (.int k1 l1)) none).run P w= .ok (0,l1.toNat,L.2) w:=by simpa using hb
   refine⟨z0B L l1.toNat,w,_,?_,r1,r2,?_⟩
   ·rw[z1i hu]
    obtain⟨L1,L2⟩:=L
    cases L1 with
    |none=>simp[Instr.slice,run_underlying hu,hb',z0l hz,z0B]
    |some b=>
     simp[Instr.slice,run_underlying hu,hb',z0l hz,z0B,Addr.add]
   ·refine .row nid l1.toNat k false (xs.take l1.toNat) L (z0i _ _ _) (by simp;omega) (fun _=> ?_)
    rw[z0s];exact hL
 ·cases h
theorem z8o{t ty:TypeId}{x:AVal}{δ:Dl}(h:y2J P t x st=some δ)(hc:All δ.cnd)(hst:∀id o,st id=some o→S id=some o)(hS:SRel F S m w)
 {ux:Value} (hx:VRel S m w (okB F S m w) x ux):Done F S m w δ.wr δ.val ((Builtin.clear_ #[t] ty #[ux]).run P w):=by
 unfold y2J at h
 simp only[Option.bind_eq_some_iff] at h
 obtain⟨e,he,k,hk,ag,hag,z,hz,X,hX,h⟩:=h
 split at h
 rotate_left
 ·cases h
 rename_i id n i
 split at h
 rotate_left
 ·cases h
 rename_i k' xs hs
 obtain⟨hcond,h'⟩:=z0k h
 clear h
 simp only[Bool.and_eq_true] at hcond
 have e1:=Nat.eq_of_beq_eq_true hcond.1
 have hzl:=Nat.eq_of_beq_eq_true hcond.2
 simp only[Option.some.injEq] at h'
 subst h'
 subst e1
 simp only[All] at hc
 obtain⟨hn,hin,-⟩:=hc
 have hu:=z1U he
 obtain⟨zv,hzv,zs,hzs,rfl,hz1⟩:=z1g hz
 have hzl:zs.length=k:=by simpa using hzl
 have hXc:=z5a hX (fun T hT=>by
  obtain⟨v,_,rfl⟩:=List.mem_map.1 hT
  rfl)
 have hs2:=hst id _ hs
 have hXE:Elt k X:=⟨by rw[hXc];simp[hzl],fun T hT=>by rw[hXc] at hT;obtain⟨v,_,rfl⟩:=List.mem_map.1 hT;rfl⟩
 cases hx with
 |tailG _ _ _ _ L hs'=>rw[hs2] at hs';cases hs'
 |tail _ _ _ k' fz' xs' L hs' hn' hi' hu'=>
  rw[hs2] at hs';cases hs'
  have hL:=hu' hn
  obtain⟨a1,a2,a3,a4,a5⟩:=hS.objs id _ hs2
  rw[hL] at a3 a4 a5
  have hlen:(xs.take i++List.replicate (n-i) X).length=xs.length:=by simp;omega
  have hE':∀x∈xs.take i++List.replicate (n-i) X,Elt k x:=fun x hx=>by
   rcases List.mem_append.1 hx with hx|hx
   ·exact a2 x (List.mem_of_mem_take hx)
   ·rw[(List.mem_replicate.1 hx).2];exact hXE
  by_cases h0:n-i=0
  ·have e:xs.take i++List.replicate (n-i) X=xs:=by rw[h0,List.replicate_zero,List.append_nil,List.take_of_length_le (by omega)]
   have e2:app S [(id,.row k false (xs.take i++List.replicate (n-i) X))]=S:=by
    rw[e]
    funext j
    show upd S id _ j=S j
    by_cases hj:j=id
    ·subst hj;rw[z0i,hs2]
    ·rw[z0h hj]
   refine⟨.tuple #[],w,m,?_,by rw[e2];exact hS,by rw[e2];exact FrameExt.refl F S m w,.tup [] [] rfl (fun i v u hv=>by simp at hv)⟩
   unfold z2W
   rw[h0]
   cases hc1:(if L.2=i then L.1.map fun b=>(⟨b,0,none⟩:Addr) else L.1.map fun b=>⟨b,i*k,none⟩) with
   |none=>simp[Builtin.clear_,run_underlying hu]
   |some q=>simp[Builtin.clear_,run_underlying hu]
  ·rcases a5 with⟨a5,a6⟩| ⟨b,us,e',h1,h2,h3,h4,h5⟩
   ·omega
   have hcap:L.2≠i:=by omega
   have hrl:(repl zs (n-i)).length=(n-i)*k:=by rw[z2c,hzl]
   have hmul:i*k+(n-i)*k=n*k:=by rw[←Nat.add_mul];congr 1;omega
   have hbig:n*k≤us.size:=by rw[h3];exact Nat.mul_le_mul_right k (by omega)
   have hus1:∀u∈repl zs (n-i),u.oneCell'=true:=fun u hu=>hz1 u (z2d hu)
   have hst':=run_storeCells_at P b (i*k) e' (repl zs (n-i)) 0 us w h2 (by rw[hrl];omega) hus1
   simp only[Nat.add_zero] at hst'
   have hzc:(Builtin.zeroCells zv.cells (n-i)).toList=repl zs (n-i):=by
    unfold Builtin.zeroCells
    rw[z2p,hzs]
   have hrun:(Builtin.clear_ #[t] ty #[z2W L k n i]).run P w= .ok (.tuple #[]) (w.setRow b (us.toList.take (i*k)++repl zs (n-i)++us.toList.drop (i*k+(repl zs (n-i)).length)).toArray):=by
    unfold z2W
    rw[if_neg hcap,h1]
    obtain⟨q,hq⟩:∃q,n-i=q+1:=⟨n-i- 1,by omega⟩
    rw[hq] at hst' hzc⊢
    simp only[Option.map_some]
    simp[Builtin.clear_,run_underlying hu,z0M hzv,hzc,hst']
   have hfl:flat (xs.take i++List.replicate (n-i) X)=(flat xs).take (i*k)++repl (zs.map .sc) (n-i):=by
    rw[z5B,z3P a2,z6r,hXc]
   have hfll:=z1c a2
   have key:=z0N (o':= .row k false (xs.take i++List.replicate (n-i) X)) hS hs2 rfl (by rw[hL];exact h1) (w':=w.setRow b (us.toList.take (i*k)++repl zs (n-i)++us.toList.drop (i*k+(repl zs (n-i)).length)).toArray)
    rfl rfl rfl (by simp) (fun c hc=>z2o w b c _ hc) (by simp only[Ob.len];omega) (by simp[Ob.same]) (fun hF=>by
     rw[hL]
     refine⟨a1,hE',by rw[hlen];exact a3,a4,.inr ⟨b,_,e',h1,setRow_heap w b us _ e' _ h2,?_,fun j u hu=> ?_,fun j T u hT hu=> ?_⟩⟩
     ·simp only[List.size_toArray,List.length_append,List.length_take,List.length_drop,hrl,Array.length_toList];omega
     ·have hu:(us.toList.take (i*k)++repl zs (n-i)++us.toList.drop (i*k+(repl zs (n-i)).length))[j]? =some u:=by simpa using hu
      rcases List.mem_append.1 (List.mem_of_getElem? hu) with hu|hu
      ·rcases List.mem_append.1 hu with hu|hu
       ·obtain⟨q,hq⟩:=List.getElem?_of_mem (List.mem_of_mem_take hu)
        exact h4 q u (by simpa using hq)
       ·exact hus1 u hu
      ·obtain⟨q,hq⟩:=List.getElem?_of_mem (List.mem_of_mem_drop hu)
       exact h4 q u (by simpa using hq)
     ·have hu:(us.toList.take (i*k)++repl zs (n-i)++us.toList.drop (i*k+(repl zs (n-i)).length))[j]? =some u:=by simpa using hu
      rw[hfl] at hT
      have hxl:i*k≤(flat xs).length:=by rw[hfll];exact Nat.mul_le_mul_right k (by omega)
      have hul:i*k≤us.toList.length:=by simp;omega
      rw[List.append_assoc] at hu
      by_cases hj:j<i*k
      ·rw[List.getElem?_append_left (by rw[List.length_take];omega),List.getElem?_take,if_pos hj] at hT hu
       exact hF.tree (h5 j T u hT (by simpa using hu))
      ·rw[List.getElem?_append_right (by rw[List.length_take];omega),List.length_take,Nat.min_eq_left hxl] at hT
       rw[List.getElem?_append_right (by rw[List.length_take];omega),List.length_take,Nat.min_eq_left hul] at hu
       rw[z7h,List.getElem?_map,Option.map_eq_some_iff] at hT
       obtain⟨v,hv,rfl⟩:=hT
       have hlt:=(List.getElem?_eq_some_iff.1 hv).1
       rw[List.getElem?_append_left hlt,hv] at hu
       cases hu
       exact .sc u (hus1 u (List.mem_of_getElem? hv)))
   exact⟨.tuple #[],_,m,hrun,key.1,key.2,.tup [] [] rfl (fun i v u hv=>by simp at hv)⟩
theorem z8p{t:TypeId}{x:AVal}{nid:Nat}{δ:Dl}(h:y0n P t x nid=some δ)(hS:SRel F S m w)(hid:S nid=none){ux:Value}(hx:VRel S m w (okB F S m w) x ux):
 Done F S m w δ.wr δ.val ((Instr.range t ux).run P w):=by
 unfold y0n at h
 split at h
 rotate_left
 ·cases h
 rename_i s hu
 simp only[Option.some.injEq] at h
 subst h
 have:=VRel.sc_inv hx;subst this
 have hF:=z4t (F:=F) (S:=S) (m:=m) (w:=w) (w':=w.alloc (.stringIter s 0)) (o:= .siter s 0) (L:=(some w.heap.size,0)) hid rfl rfl rfl (by simp) (fun b hb=>z02 w _ b hb) (fun b hb=>by simp at hb;omega)
 have h1:=hS.new hid hF (fun b hb=>z02 w _ b hb) (fun b hb=>by simp at hb;omega) ⟨w.heap.size,rfl,z1I w _⟩
 refine⟨.pointer (some ⟨w.heap.size,0,none⟩),w.alloc (.stringIter s 0),place m nid (some w.heap.size,0),?_,h1,hF,.hdl nid _ w.heap.size _ (z0i _ _ _) (by rw[z0s]) rfl⟩
 simp[Instr.range,run_underlying hu]
theorem z9A{it:AVal}{isStr:Bool}{c:Orc}{δ:Dl}(h:nextK it isStr st c=some δ)(hc:All δ.cnd)(hst:∀id o,st id=some o→S id=some o)(hS:SRel F S m w)
 {ui:Value} (hi:VRel S m w (okB F S m w) it ui) (ty:TypeId):Done F S m w δ.wr δ.val ((Instr.next ui isStr ty).run P w):=by
 unfold nextK at h
 split at h
 rotate_left
 ·cases h
 rename_i id
 split at h
 rotate_left
 ·cases h
 rename_i s p hs
 obtain⟨hstr,h'⟩:=z0k h
 clear h
 have h:=h'
 clear h'
 subst hstr
 have hs2:=hst id _ hs
 cases hi with
 |hdl _ o b u ho hm hu=>
  rw[hs2] at ho;cases ho
  simp only[z3p,Option.some.injEq] at hu
  subst hu
  obtain⟨b',q1,q2⟩:=hS.objs id _ hs2
  rw[hm] at q1;cases q1
  cases hfx:c.fx.isEmpty with
  |true=>
   rw[hfx,cond_true] at h
   simp only[Option.some.injEq] at h
   subst h
   simp only[All] at hc
   obtain⟨hp,-⟩:=hc
   have key:=z0N (o':= .siter s (p+(Utf8.decode s p).2)) hS hs2 rfl hm (w':=w.putObj b (.stringIter s (p+(Utf8.decode s p).2))) rfl rfl rfl (by simp) (fun c hc=>World.putObj_heap_other hc) (Nat.le_refl _) trivial
    (fun hF=>⟨b,hm,World.putObj_heap_same (Array.getElem?_eq_some_iff.1 q2).1⟩)
   refine⟨.tuple #[.bool true,.int .i64 (p:Int),.int .i32 ((Utf8.decode s p).1:Int)],_,m,?_,key.1,key.2,.tup _ [.bool true,.int .i64 (p:Int),.int .i32 ((Utf8.decode s p).1:Int)] rfl (fun i v u hv hu=> ?_)⟩
   ·simp[Instr.next,getObj,Sem.run_bind,Sem.run,q2,hp,setObj,World.putObj,goInt,Result.andThen]
   ·match i with
    |0=>cases hv;cases hu;exact .t _ _ (.sc _ rfl)
    |1=>cases hv;cases hu;exact .t _ _ (.sc _ rfl)
    |2=>cases hv;cases hu;exact .t _ _ (.sc _ rfl)
    |i+3=>cases hv
  |false=>
   rw[hfx,cond_false] at h
   simp only[Option.some.injEq] at h
   subst h
   simp only[All] at hc
   obtain⟨hp,-⟩:=hc
   refine⟨.tuple #[.bool false],w,m,?_,hS,FrameExt.refl F S m w,.tup _ [.bool false] rfl (fun i v u hv hu=> ?_)⟩
   ·have hp':¬p<s.size:=by omega
    simp[Instr.next,getObj,Sem.run_bind,Sem.run,q2,hp',Result.andThen]
   ·match i with
    |0=>cases hv;cases hu;exact .t _ _ (.sc _ rfl)
    |i+1=>cases hv
end Go.Ab
end
