/- Maps keyed by integers: what is looked up, stored, taken out and gone through. -/
import Derived.Test.YtlgmgpnjkadhfaaGreatDoorM1
import Derived.TacticsIn
import Derived.OrdersIn
import Derived.ChangeArms
import Derived.ChangeOld
import Derived.WideShapes
import Derived.DataReads
import Derived.DataElems
import Derived.Below
import Derived.RangeFuncRecord
import Derived.RangeFuncLeaves
import Derived.KernelRfl
import Derived.Test.YtlgmgpnjkadhfaaGreatDoorProg
set_option linter.unusedVariables false
set_option linter.unusedSimpArgs false
section
namespace Go.Ab
variable {P:Program} {w:World} {F:Fen P} {S st:Store} {m:Place}
theorem z3b:∀{es:List (Int×MV)} {n:Int} {v:MV},lookE es n=some v->∃i:Nat,es[i]? =some (n,v)/\∀(j:Nat) (x:Int×MV),j<i->es[j]? =some x->x.1≠n
 | [],n,v,h=>by simp[lookE] at h
 | (k',v')::l,n,v,h=>by
  simp only[lookE] at h
  split at h
  ·rename_i e
   cases h
   exact⟨0,by simp[e],fun j x h=>by omega⟩
  ·rename_i e
   obtain⟨i,h1,h2⟩:=z3b h
   refine⟨i+1,by simpa using h1,fun j x hj hk=> ?_⟩
   cases j with
   |zero=>simp only[zw,qb] at hk;subst hk;exact fun hh=>e hh.symm
   |succ j=>exact h2 j x (by omega) (by simpa using hk)
theorem z4y:∀{es:List (Int×MV)} {n:Int},lookE es n=none->∀x∈es,x.1≠n
 | [],n,_,x,hx=>by simp at hx
 | (k',v')::l,n,h,x,hx=>by
  simp only[lookE] at h
  split at h
  ·cases h
  ·rename_i e
   rcases qj.1 hx with rfl|hx
   ·exact fun hh=>e hh.symm
   ·exact z4y h x hx
theorem y0M:∀{es:List (Int×MV)} {n:Int} {v v0:MV} {i:Nat},es[i]? =some (n,v0)->(∀(j:Nat) (x:Int×MV),j<i->es[j]? =some x->x.1≠n)->putE es n v=es.set i (n,v)
 | [],n,v,v0,i,h,_=>by simp at h
 | (k',v')::l,n,v,v0,0,h,_=>by
  simp only[zw,qb,qF] at h
  simp[putE,h.1]
 | (k',v')::l,n,v,v0,i+1,h,hj=>by
  have e:n≠k':=fun hh=>hj 0 (k',v') (by omega) rfl hh.symm
  simp only[putE,if_neg e,List.set_cons_succ]
  rw[y0M (by simpa using h) (fun j x hlt hx=>hj (j+1) x (by omega) (by simpa using hx))]
theorem y0N:∀{es:List (Int×MV)} {n:Int} {v:MV},(∀x∈es,x.1≠n)->putE es n v=es++[(n,v)]
 | [],n,v,_=>rfl
 | (k',v')::l,n,v,h=>by
  have e:n≠k':=fun hh=>h (k',v') (by simp) hh.symm
  simp only[putE,if_neg e,qg]
  rw[y0N (fun x hx=>h x (by simp[hx]))]
def z3r(es:List (Int×MV))(ents:List MapEntry):Prop:=ents.length=es.length/\∀(i:Nat) (x:Int×MV) (e:MapEntry),es[i]? =some x->ents[i]? =some e->e.key= .int .i64 x.1
theorem z3r.tail{x:Int×MV}{es:List (Int×MV)}{e:MapEntry}{ents:List MapEntry}(h:z3r (x::es) (e::ents)):e.key= .int .i64 x.1/\z3r es ents:=
 ⟨h.2 0 x e rfl rfl,by simpa using h.1,fun i y f h1 h2=>h.2 (i+1) y f (by simpa using h1) (by simpa using h2)⟩
theorem z20:∀{es:List (Int×MV)} {ents:List MapEntry} {n:Int} {v:MV} {i i0:Nat} {e:MapEntry},z3r es ents->es[i]? =some (n,v)->(∀(j:Nat) (x:Int×MV),j<i->es[j]? =some x->x.1≠n)->ents[i]? =some e->
 Instr.findNow (.int .i64) (.int .i64 n) ents i0=some (some (i0+i,e.val))
 | [],_,n,v,i,i0,e,_,h,_,_=>by simp at h
 |x::es,[],n,v,i,i0,e,hk,_,_,_=>by have:=hk.1;simp at this
 |x::es,f::ents,n,v,0,i0,e,hk,h,hj,he=>by
  obtain⟨h1,_⟩:=hk.tail
  simp only[zw,qb] at h he
  subst h he
  simp[Instr.findNow,Instr.sameNow,h1]
 |x::es,f::ents,n,v,i+1,i0,e,hk,h,hj,he=>by
  obtain⟨h1,h2⟩:=hk.tail
  have hne:x.1≠n:=hj 0 x (by omega) rfl
  have hb:(n==x.1)=false:=by simpa using fun h=>hne h.symm
  have ih:=z20 (i0:=i0+1) h2 (by simpa using h) (fun j y hlt hy=>hj (j+1) y (by omega) (by simpa using hy)) (by simpa using he)
  simp only[Instr.findNow,Instr.sameNow,h1,if_true,hb]
  rw[ih]
  simp only[qb,qF,and_true]
  omega
theorem z22:∀{es:List (Int×MV)} {ents:List MapEntry} {n:Int} {i0:Nat},z3r es ents->(∀x∈es,x.1≠n)->Instr.findNow (.int .i64) (.int .i64 n) ents i0=some none
 | [],[],n,i0,_,_=>by simp[Instr.findNow]
 | [],_::_,n,i0,hk,_=>by have:=hk.1;simp at this
 |x::es,[],n,i0,hk,_=>by have:=hk.1;simp at this
 |x::es,f::ents,n,i0,hk,h=>by
  obtain⟨h1,h2⟩:=hk.tail
  have hne:x.1≠n:=h x (by simp)
  have hb:(n==x.1)=false:=by simpa using fun h=>hne h.symm
  simp only[Instr.findNow,Instr.sameNow,h1,if_true,hb]
  exact z22 h2 (fun y hy=>h y (by simp[hy]))
theorem z4R{t e:TypeId}(h:z7h P t=some e):∃k,P.underlying t=some (.map k e)/\P.underlying k=some (.int .i64):=by
 unfold z7h at h
 split at h
 ·rename_i k e' hu
  split at h
  ·rename_i hk;cases h;exact⟨k,hu,hk⟩
  ·cases h
 ·cases h
theorem z4S{b:Bool}{f:Nat}{k:TypeId}{n:Int}(hk:P.underlying k=some (.int .i64)):(Instr.checkKey b (f+1) k (.int .i64 n)).run P w= .ok () w:=by
 simp[Instr.checkKey,run_underlying hk]
theorem z4z{b:Nat}{ents:List MapEntry}{c:Nat}(h:w.heap[b]? =some (.map ents.toArray c)):(getObj b).run P w= .ok (.map ents.toArray c) w:=by simp[getObj,Sem.run,h]
theorem z3s{k:TypeId}{n:Int}{ents:List MapEntry}{r:Option (Nat×Value)}(hk:P.underlying k=some (.int .i64))(h:Instr.findNow (.int .i64) (.int .i64 n) ents 0=some r):(Instr.findKey k (.int .i64 n) ents).run P w= .ok r w:=by
 simp[Instr.findKey,run_underlying hk,h]
theorem z6G{t k e:TypeId}{n:Int}{b c:Nat}{ents:List MapEntry}{ok:Bool}{r:Option (Nat×Value)}{z:Value}(hu:P.underlying t=some (.map k e))(hk:P.underlying k=some (.int .i64))(hb:w.heap[b]? =some (.map ents.toArray c))
 (hf:Instr.findNow (.int .i64) (.int .i64 n) ents 0=some r) (hz:r=none->tzero P e=some z):
 (Instr.lookup t (.map (some b)) (.int .i64 n) ok).run P w= .ok (if ok then .tuple #[(match r with|some p=>p.2|none=>z),.bool r.isSome] else(match r with|some p=>p.2|none=>z)) w:=by
 have hc:=z4S (P:=P) (w:=w) (b:=ents.toArray.isEmpty) (f:=9999) (n:=n) hk
 have hfk:=z3s (P:=P) (w:=w) hk hf
 unfold Instr.lookup
 simp only[Sem.run_bind,run_underlying hu,Result.andThen_ok,z4z hb,Sem.run_pure,hc,hfk]
 cases r with
 |some p=>cases ok<;>simp
 |none=>
  have:=z0L (w:=w) (hz rfl)
  cases ok<;>simp[this]
def MapD(st:Store)(m:Place)(w:World)(ok:Nat->Prop)(es:List (Int×MV))(h:Option (Int×AVal))(L:Option Nat×Nat)(g:List Nat)(b:Nat)(ents:List MapEntry)(bl:Nat->Option Nat):Prop:=
 L.1=some b/\w.heap[b]? =some (.map ents.toArray ents.length)/\ents.length=es.length/\
  (∀i j c,i<es.length->j<es.length->bl i=some c->bl j=some c->i=j)/\(∀i c,i<es.length->bl i=some c->c∈g/\c≠b)/\
  (∀(i j:Nat) (x y:Int×MV),es[i]? =some x->es[j]? =some y->x.1=y.1->i=j)/\
  ∀i x e,es[i]? =some x->ents[i]? =some e->e.key= .int .i64 x.1/\e.born=i/\HRel st m w ok h x.1 x.2 e.val (bl i)
variable {es:List (Int×MV)} {h:Option (Int×AVal)} {b:Nat} {ents:List MapEntry} {bl:Nat->Option Nat} {id:Nat}
theorem MapD.keys{ok:Nat->Prop}{L:Option Nat×Nat}{g:List Nat}(hM:MapD S m w ok es h L g b ents bl):z3r es ents:=⟨hM.2.2.1,fun i x e h1 h2=>(hM.2.2.2.2.2.2 i x e h1 h2).1⟩
def z2h(m:Place)(id:Nat)(g:List Nat):Place:=⟨m.f,fun j=>bif Nat.beq j id then g else m.g j⟩
theorem z7s(m:Place)(id j:Nat)(g:List Nat):z2h m id g j=m j:=rfl
theorem z5N(m:Place)(id:Nat)(g:List Nat):(z2h m id g).g id=g:=by simp[z2h]
theorem z8z{m:Place}{id j:Nat}{g:List Nat}(h:j≠id):(z2h m id g).g j=m.g j:=by simp[z2h,z0O h]
theorem z5O{m:Place}{id b:Nat}{g:List Nat}:(z2h m id g).has id b↔(m id).1=some b\/b∈g:=by unfold Place.has;rw[z5N];rfl
theorem z3O{m:Place}{id j b:Nat}{g:List Nat}(h:j≠id):(z2h m id g).has j b↔m.has j b:=by unfold Place.has;rw[z8z h];rfl
theorem y3e{es:List (Int×MV)}{i p:Nat}{y x:Int×MV}(hi:i<es.length)(h:(es.set i y)[p]? =some x):(p=i/\x=y)\/(p≠i/\es[p]? =some x):=by
 rw[zu] at h
 by_cases e:i=p
 ·subst e
  rw[if_pos rfl,if_pos hi] at h
  exact .inl ⟨rfl,by simpa using h.symm⟩
 ·rw[if_neg e] at h
  exact .inr ⟨fun hh=>e hh.symm,h⟩
def UpRel(es:List (Int×MV))(ents ents':List MapEntry)(n:Int)(u:Value):Prop:=
 (∃i v0,es[i]? =some (n,v0)/\(∀(j:Nat) (x:Int×MV),j<i->es[j]? =some x->x.1≠n)/\ents'=ents.modify i fun e=>{e with key:= .int .i64 n,val:=u})\/
 ((∀x∈es,x.1≠n)/\ents'=ents++[{key:= .int .i64 n,val:=u,born:=ents.length}])
theorem y2b{t k e:TypeId}{n:Int}(hu:P.underlying t=some (.map k e))(hk:P.underlying k=some (.int .i64))(hb:w.heap[b]? =some (.map ents.toArray ents.length))(hK:z3r es ents)(u:Value):
 ∃ents',UpRel es ents ents' n u/\(Instr.mapUpdate t (.map (some b)) (.int .i64 n) u).run P w= .ok () (w.putObj b (.map ents'.toArray ents'.length)):=by
 have hc:=z4S (P:=P) (w:=w) (b:=false) (f:=9999) (n:=n) hk
 have hset:∀(o:Go.Obj),(setObj b o).run P w= .ok () (w.putObj b o):=fun o=>by simp[setObj,Sem.run,hb,World.putObj]
 cases hl:lookE es n with
 |some v0=>
  obtain⟨i,h1,h2⟩:=z3b hl
  have hil:i<ents.length:=by rw[hK.1];exact(qB.1 h1).1
  have he:ents[i]? =some ents[i]:=qa hil
  have hf:=z20 (i0:=0) hK h1 h2 he
  have hfk:=z3s (P:=P) (w:=w) hk hf
  have hkey:ents[i].key= .int .i64 n:=hK.2 i _ _ h1 he
  refine⟨_,.inl ⟨i,v0,h1,h2,rfl⟩,?_⟩
  unfold Instr.mapUpdate
  simp only[Sem.run_bind,run_underlying hu,Result.andThen_ok,z4z hb,hc,hfk,zq]
  have hsame:Instr.sameBits 10000 (Value.int .i64 n) (Value.int .i64 n)=true:=by simp[Instr.sameBits]
  simp only[List.getElem?_toArray,he,ja,zx,hkey,Instr.keyThatStays,hsame,if_true,Sem.run_pure,Result.andThen_ok,hset]
  have e1:ents.toArray.modify i (fun e=>{key:=Value.int .i64 n,val:=u,born:=e.born})=(ents.modify i fun e=>{key:=Value.int .i64 n,val:=u,born:=e.born}).toArray:=by
   apply Array.ext';simp
  rw[e1]
  simp
 |none=>
  have h1:=z4y hl
  have hf:=z22 (i0:=0) hK h1
  have hfk:=z3s (P:=P) (w:=w) hk hf
  refine⟨_,.inr ⟨h1,rfl⟩,?_⟩
  unfold Instr.mapUpdate
  simp only[Sem.run_bind,run_underlying hu,Result.andThen_ok,z4z hb,hc,hfk,hset]
  simp
theorem MapD.put{ok:Nat->Prop}{L:Option Nat×Nat}{g:List Nat}(hM:MapD S m w ok es h L g b ents bl){ents':List MapEntry}{n:Int}{u:Value}(hU:UpRel es ents ents' n u)(hh:All (holeC n h)){S':Store}{m':Place}{w':World}{ok':Nat->Prop}{g':List Nat}
 {v:MV} {c:Option Nat} (hpers:∀v' u' c',MRel S m w ok v' u' c'->(∀b',c'=some b'->b'∈g/\b'≠b)->MRel S' m' w' ok' v' u' c') (hv:MRel S' m' w' ok' v u c) (hc:∀b',c=some b'->b'∈g'/\b'∉g/\b'≠b) (hg:∀x∈g,x∈g')
 (hw:w'.heap[b]? =some (.map ents'.toArray ents'.length)):MapAt S' m' w' ok' (putE es n v) none L g':=by
 obtain⟨m1,m2,m3,m4,m5,m6,m7⟩:=hM
 have other:∀i x e,es[i]? =some x->ents[i]? =some e->x.1≠n->MRel S' m' w' ok' x.2 e.val (bl i):=by
  intro i x e hx he hne
  obtain⟨q1,q2,q3⟩:=m7 i x e hx he
  have hil:i<es.length:=(qB.1 hx).1
  refine hpers _ _ _ ?_ (fun b' hb'=>m5 i b' hil hb')
  match h,hh,q3 with
  |none,_,q3=>exact q3
  |some (n',v'),hh,q3=>exact q3.2 (fun e=>hne (e.trans hh.1.symm))
 rcases hU with⟨i,v0,h1,h2,rfl⟩| ⟨h1,rfl⟩
 ·have hil:i<es.length:=(qB.1 h1).1
  rw[y0M h1 h2]
  refine⟨b,_,fun q=>if q=i then c else bl q,m1,hw,by simpa using m3,fun p q c' hp hq e1 e2=> ?_,fun p c' hp e1=> ?_,fun p q x y hx hy hxy=> ?_,fun p x f hx hf=> ?_⟩
  ·simp only[zl] at hp hq
   by_cases ep:p=i
   ·by_cases eq:q=i
    ·rw[ep,eq]
    ·simp only[ep,if_true] at e1
     simp only[eq,if_false] at e2
     exact absurd (m5 q c' hq e2).1 (hc c' e1).2.1
   ·by_cases eq:q=i
    ·simp only[ep,if_false] at e1
     simp only[eq,if_true] at e2
     exact absurd (m5 p c' hp e1).1 (hc c' e2).2.1
    ·simp only[ep,if_false] at e1
     simp only[eq,if_false] at e2
     exact m4 p q c' hp hq e1 e2
  ·simp only[zl] at hp
   by_cases ep:p=i
   ·simp only[ep,if_true] at e1
    exact⟨(hc c' e1).1,(hc c' e1).2.2⟩
   ·simp only[ep,if_false] at e1
    exact⟨hg _ (m5 p c' hp e1).1,(m5 p c' hp e1).2⟩
  ·rcases y3e hil hx with⟨rfl,rfl⟩| ⟨a,hx2⟩<;>rcases y3e hil hy with⟨rfl,rfl⟩| ⟨a',hy2⟩
   ·rfl
   ·exact m6 _ _ _ _ h1 hy2 hxy
   ·exact m6 _ _ _ _ hx2 h1 hxy
   ·exact m6 _ _ _ _ hx2 hy2 hxy
  ·rw[List.getElem?_modify] at hf
   rcases y3e hil hx with⟨rfl,rfl⟩| ⟨a,hx2⟩
   ·simp only[if_true,Option.map_eq_map,qe] at hf
    obtain⟨f0,hf0,rfl⟩:=hf
    obtain⟨q1,q2,_⟩:=m7 p _ f0 h1 hf0
    exact⟨rfl,q2,by show MRel S' m' w' ok' v u _;simpa using hv⟩
   ·have en:¬i=p:=fun hh=>a hh.symm
    simp only[en,if_false] at hf
    have hf:ents[p]? =some f:=by simpa using hf
    obtain⟨q1,q2,_⟩:=m7 p x f hx2 hf
    refine⟨q1,q2,?_⟩
    have:=other p x f hx2 hf (fun hh=>a (m6 p i x _ hx2 h1 hh))
    show MRel S' m' w' ok' x.2 f.val _
    simpa[a] using this
 ·rw[y0N h1]
  have last:∀(p:Nat) (x:Int×MV),(es++[(n,v)])[p]? =some x->(p=es.length/\x=(n,v))\/(p<es.length/\es[p]? =some x):=by
   intro p x hx
   by_cases hp:p<es.length
   ·rw[qz hp] at hx;exact .inr ⟨hp,hx⟩
   ·have:p< (es++[(n,v)]).length:=(qB.1 hx).1
    simp at this
    have e:p=es.length:=by omega
    subst e
    exact .inl ⟨rfl,by simpa using hx.symm⟩
  refine⟨b,_,fun q=>if q=es.length then c else bl q,m1,hw,by simp[m3],fun p q c' hp hq e1 e2=> ?_,fun p c' hp e1=> ?_,fun p q x y hx hy hxy=> ?_,fun p x f hx hf=> ?_⟩
  ·simp only[qf,qi,zf] at hp hq
   by_cases ep:p=es.length
   ·by_cases eq:q=es.length
    ·rw[ep,eq]
    ·simp only[ep,if_true] at e1
     simp only[eq,if_false] at e2
     exact absurd (m5 q c' (by omega) e2).1 (hc c' e1).2.1
   ·by_cases eq:q=es.length
    ·simp only[ep,if_false] at e1
     simp only[eq,if_true] at e2
     exact absurd (m5 p c' (by omega) e1).1 (hc c' e2).2.1
    ·simp only[ep,if_false] at e1
     simp only[eq,if_false] at e2
     exact m4 p q c' (by omega) (by omega) e1 e2
  ·simp only[qf,qi,zf] at hp
   by_cases ep:p=es.length
   ·simp only[ep,if_true] at e1
    exact⟨(hc c' e1).1,(hc c' e1).2.2⟩
   ·simp only[ep,if_false] at e1
    exact⟨hg _ (m5 p c' (by omega) e1).1,(m5 p c' (by omega) e1).2⟩
  ·rcases last p x hx with⟨rfl,rfl⟩| ⟨a,hx2⟩<;>rcases last q y hy with⟨rfl,rfl⟩| ⟨a',hy2⟩
   ·rfl
   ·exact absurd hxy.symm (h1 y (qq hy2))
   ·exact absurd hxy (h1 x (qq hx2))
   ·exact m6 _ _ _ _ hx2 hy2 hxy
  ·rcases last p x hx with⟨rfl,rfl⟩| ⟨a,hx2⟩
   ·rw[qH (by omega),m3,Nat.sub_self] at hf
    simp only[zw,qb] at hf
    subst hf
    exact⟨rfl,rfl,by show MRel S' m' w' ok' v u _;simpa using hv⟩
   ·rw[qz (by omega)] at hf
    obtain⟨q1,q2,_⟩:=m7 p x f hx2 hf
    refine⟨q1,q2,?_⟩
    have hne:p≠es.length:=by omega
    have:=other p x f hx2 hf (h1 x (qq hx2))
    show MRel S' m' w' ok' x.2 f.val _
    simpa[hne] using this
theorem y3f(hS:SRel F S m w)(hid:S id=some (.mp es h))(hM:MapD S m w (okB F S m w) es h (m id) (m.g id) b ents bl){ents':List MapEntry}{n:Int}{u:Value}(hU:UpRel es ents ents' n u)(hh:All (holeC n h)){v:MV}
 (hv:∀S' m' w',FrameExt F S m w S' m' w'->MRel S' m' w' (okB F S' m' w') v u none):
 SRel F (upd S id (.mp (putE es n v) none)) m (w.putObj b (.map ents'.toArray ents'.length))/\FrameExt F S m w (upd S id (.mp (putE es n v) none)) m (w.putObj b (.map ents'.toArray ents'.length)):=by
 have hlt:b<w.heap.size:=(qY.1 hM.2.1).1
 refine z0P hS hid rfl hM.1 rfl rfl rfl (by simp) (fun c hc=>World.putObj_heap_other hc) (qr _) trivial (fun hF=> ?_)
 exact hM.put hU hh (fun v' u' c' hr hc=>hr.persist hF (fun b' hb'=>World.putObj_heap_other (hc b' hb').2)) (hv _ _ _ hF) (fun b' hb'=>by cases hb') (fun x hx=>hx) (World.putObj_heap_same hlt)
theorem y5L(hS:SRel F S m w)(hid:S id=some (.mp es h))(hM:MapD S m w (okB F S m w) es h (m id) (m.g id) b ents bl){ents':List MapEntry}{n:Int}{u:Value}(hU:UpRel es ents ents' n u)(hh:All (holeC n h)){v:MV}
 {r:Nat} {o:Ob} (hr:S r=some o) (hlive:o.live=true) (hsame:o.same .gone) (hlen:o.len<18446744073709551616) (hri:r≠id) {G:List Nat} {c:Option Nat} (hG:∀x∈G,(m r).1=some x) (hcG:∀x,c=some x->x∈G)
 (hv:∀S' m' w',FrameExt F S m w S' m' w'->(∀x,(m r).1=some x->w'.heap[x]? =w.heap[x]? /\(x∉G->okB F S' m' w' x))->MRel S' m' w' (okB F S' m' w') v u c):
 ∃m',SRel F (upd (upd S r .gone) id (.mp (putE es n v) none)) m' (w.putObj b (.map ents'.toArray ents'.length))/\FrameExt F S m w (upd (upd S r .gone) id (.mp (putE es n v) none)) m' (w.putObj b (.map ents'.toArray ents'.length)):=by
 have hlt:b<w.heap.size:=(qY.1 hM.2.1).1
 have hmain:=hM.1
 refine⟨z2h (place m r (none,0)) id (G++m.g id),?_⟩
 have hir:id≠r:=fun e=>hri e.symm
 have has_id:∀x,(z2h (place m r (none,0)) id (G++m.g id)).has id x↔(m id).1=some x\/x∈G\/x∈m.g id:=fun x=>by
  rw[z5O,z06 hir,qm]
 have has_r:∀x,¬(z2h (place m r (none,0)) id (G++m.g id)).has r x:=fun x hx=>by
  rw[z3O hri,z0r] at hx;cases hx
 have has_ne:∀j x,j≠id->j≠r->((z2h (place m r (none,0)) id (G++m.g id)).has j x↔m.has j x):=fun j x h1 h2=>by rw[z3O h1,z0o h2]
 have at_id:z2h (place m r (none,0)) id (G++m.g id) id=m id:=by rw[z7s,z06 hir]
 have rb:∀x,(m r).1=some x->x≠b/\x∉m.g id:=fun x hx=>⟨fun e=>hri (hS.inj r id _ _ x hr hid (.inl hx) (.inl (by rw[e];exact hmain))),fun e=>hri (hS.inj r id _ _ x hr hid (.inl hx) (.inr e))⟩
 have hF:FrameExt F S m w (upd (upd S r .gone) id (.mp (putE es n v) none)) (z2h (place m r (none,0)) id (G++m.g id)) (w.putObj b (.map ents'.toArray ents'.length)):=by
  refine⟨rfl,rfl,rfl,by simp,fun c hc hf=>World.putObj_heap_other ?_,fun j oj hj=> ?_,fun j oj hj hjn x hx=> ?_⟩
  ·rintro rfl
   rcases hf with hf|hf
   ·exact hS.avoid id _ c hid (.inl hmain) hf
   ·exact hf id _ hid rfl (.inl hmain)
  ·by_cases e:j=id
   ·subst e
    rw[hid] at hj;cases hj
    refine⟨_,z0n _ _ _,qr _,fun _=>at_id,fun h=>h,fun x hx=> ?_,trivial⟩
    rcases(has_id x).1 hx with h|h|h
    ·exact .inl (.inl h)
    ·exact .inr (.inr ⟨r,o,hr,hlive,.inl (hG x h)⟩)
    ·exact .inl (.inr h)
   ·by_cases e2:j=r
    ·subst e2
     rw[hr] at hj;cases hj
     exact⟨.gone,by rw[z0l e,z0n],Nat.le_of_lt hlen,fun e=>absurd e (Nat.ne_of_lt hlen),fun _=>rfl,fun x hx=>absurd hx (has_r x),hsame⟩
    ·exact⟨oj,by rw[z0l e,z0l e2];exact hj,qr _,fun _=>by rw[z7s,z06 e2],fun h=>h,fun x hx=> .inl ((has_ne j x e e2).1 hx),oj.same_refl⟩
  ·by_cases e:j=id
   ·subst e;rw[hid] at hjn;cases hjn
   ·rw[z0l e] at hj
    by_cases e2:j=r
    ·subst e2;rw[hr] at hjn;cases hjn
    ·rw[z0l e2] at hj;rw[hj] at hjn;cases hjn
 have key:∀j oj x,upd (upd S r .gone) id (.mp (putE es n v) none) j=some oj->(z2h (place m r (none,0)) id (G++m.g id)).has j x->
  ∃j0 o0,S j0=some o0/\m.has j0 x/\((j=id/\j0=r)\/(j≠r/\j0=j)):=by
  intro j oj x hj hx
  by_cases e:j=id
  ·subst e
   rcases(has_id x).1 hx with h|h|h
   ·exact⟨j,_,hid,.inl h,.inr ⟨hir,rfl⟩⟩
   ·exact⟨r,_,hr,.inl (hG x h),.inl ⟨rfl,rfl⟩⟩
   ·exact⟨j,_,hid,.inr h,.inr ⟨hir,rfl⟩⟩
  ·rw[z0l e] at hj
   by_cases e2:j=r
   ·subst e2;exact absurd hx (has_r x)
   ·rw[z0l e2] at hj
    exact⟨j,oj,hj,(has_ne j x e e2).1 hx,.inr ⟨e2,rfl⟩⟩
 refine⟨⟨fun j oj hj=> ?_,fun j j' oj oj' x hj hj' h1 h2=> ?_,fun j oj x hj hx=> ?_,fun j oj x hj hx=> ?_,fun x hx=>by simpa using hS.low x hx,hS.held hF⟩,hF⟩
 ·by_cases e:j=id
  ·subst e
   rw[z0n] at hj;cases hj
   rw[at_id,z5N]
   refine hM.put hU hh (fun v' u' c' hr hc=>hr.persist hF (fun b' hb'=>World.putObj_heap_other (hc b' hb').2)) (hv _ _ _ hF (fun x hx=> ?_)) (fun b' hb'=> ?_) (fun x hx=>qm.2 (.inr hx)) (World.putObj_heap_same hlt)
   ·refine⟨World.putObj_heap_other (rb x hx).1,fun hxG=>⟨by simpa using hS.lt r _ x hr (.inl hx),fun hf=>hS.avoid r _ x hr (.inl hx) (F.sup x hf),fun q oq hq hl hh=> ?_⟩⟩
    obtain⟨j0,o0,q1,q2,q3⟩:=key q oq x hq hh
    have hj0:=hS.inj j0 r _ _ x q1 hr q2 (.inl hx)
    rcases q3 with⟨rfl,_⟩| ⟨q4,q5⟩
    ·rcases(has_id x).1 hh with h|h|h
     ·exact(rb x hx).1 (by rw[hmain] at h;cases h;rfl)
     ·exact hxG h
     ·exact(rb x hx).2 h
    ·exact q4 (q5.symm.trans hj0)
   ·have:=hG b' (hcG b' hb')
    exact⟨qm.2 (.inl (hcG b' hb')),(rb b' this).2,(rb b' this).1⟩
  ·rw[z0l e] at hj
   rw[z7s,z8z e]
   by_cases e2:j=r
   ·subst e2
    rw[z0n] at hj;cases hj
    rw[z0y];exact rfl
   ·rw[z0l e2] at hj
    rw[z06 e2,z1S e2]
    refine(hS.objs j oj hj).persist hF (fun c hc=>World.putObj_heap_other (fun e'=> ?_))
    exact e (hS.inj j id _ _ c hj hid hc (.inl (by rw[e'];exact hmain)))
 ·obtain⟨j0,o0,q1,q2,q3⟩:=key j oj x hj h1
  obtain⟨j1,o1,r1,r2,r3⟩:=key j' oj' x hj' h2
  have:=hS.inj j0 j1 _ _ x q1 r1 q2 r2
  rcases q3 with⟨rfl,rfl⟩| ⟨a,rfl⟩<;>rcases r3 with⟨rfl,rfl⟩| ⟨a',rfl⟩
  ·rfl
  ·exact absurd this.symm a'
  ·exact absurd this a
  ·exact this
 ·obtain⟨j0,o0,q1,q2,_⟩:=key j oj x hj hx
  exact hS.avoid j0 _ x q1 q2
 ·obtain⟨j0,o0,q1,q2,_⟩:=key j oj x hj hx
  simpa using hS.lt j0 _ x q1 q2
theorem z8A{ok:Nat->Prop}{q bb:Bool}{v:AVal}{u:Value}(h:VRel S m w ok v u):VRel S m w ok (tupOk q v bb) (if q then .tuple #[u,.bool bb] else u):=by
 cases q with
 |false=>exact h
 |true=>
  refine .tup [v,.t (.sc (.bool bb))] [u,.bool bb] rfl (fun i v' u' hv hu=> ?_)
  match i with
  |0=>cases hv;cases hu;exact h
  |1=>cases hv;cases hu;exact .t _ _ (.sc _ rfl)
  |i+2=>cases hv
theorem y3g{x:Value}{ok:Nat->Prop}(hS:SRel F S m w)(hid:S id=some (.mp es h))(hx:VRel S m w ok (.hdl id) x):∃b ents bl,x= .map (some b)/\MapD S m w (okB F S m w) es h (m id) (m.g id) b ents bl:=by
 obtain⟨b,ents,bl,hM⟩:=hS.objs id _ hid
 cases hx with
 |hdl _ o b' _ hs hm hu=>
  rw[hid] at hs;cases hs
  simp only[z3E,qb] at hu
  subst hu
  rw[hM.1] at hm;cases hm
  exact⟨b,ents,bl,rfl,hM⟩
theorem MapD.at{ok:Nat->Prop}{L:Option Nat×Nat}{g:List Nat}(hM:MapD S m w ok es h L g b ents bl){i:Nat}{x:Int×MV}(hi:es[i]? =some x):∃e,ents[i]? =some e/\e.key= .int .i64 x.1/\e.born=i/\HRel S m w ok h x.1 x.2 e.val (bl i):=by
 have hil:i<ents.length:=by rw[hM.2.2.1];exact(qB.1 hi).1
 exact⟨ents[i],qa hil,hM.2.2.2.2.2.2 i x _ hi (qa hil)⟩
theorem z7t{t:TypeId}{x k:AVal}{q:Bool}{nid:Nat}{c:Orc}{δ:Dl}(hk:z9E P t x k q st nid c=some δ)(hc:All δ.cnd)(hst:∀id o,st id=some o->S id=some o)(hS:SRel F S m w)(hnid:S nid=none)
 {ux uk:Value} (hx:VRel S m w (okB F S m w) x ux) (hki:VRel S m w (okB F S m w) k uk):Done F S m w δ.wr δ.val ((Instr.lookup t ux uk q).run P w):=by
 unfold z9E at hk
 split at hk
 rotate_left
 ·cases hk
 rename_i e id n co hme hco
 split at hk
 rotate_left
 ·cases hk
 rename_i es hs
 have hid:=hst id _ hs
 obtain⟨kt,hu,hkt⟩:=z4R hme
 have:=VRel.sc_inv hki;subst this
 obtain⟨b,ents,bl,rfl,hM⟩:=y3g hS hid hx
 have found:∀v,lookE es n=some v->∃i e,es[i]? =some (n,v)/\(∀(j:Nat) (x:Int×MV),j<i->es[j]? =some x->x.1≠n)/\ents[i]? =some e/\MRel S m w (okB F S m w) v e.val (bl i)/\
  (Instr.lookup t (.map (some b)) (.int .i64 n) q).run P w= .ok (if q then .tuple #[e.val,.bool true] else e.val) w:=by
  intro v hv
  obtain⟨i,h1,h2⟩:=z3b hv
  obtain⟨e,he,_,_,hr⟩:=hM.at h1
  exact⟨i,e,h1,h2,he,hr,z6G (z:= .bool false) hu hkt hM.2.1 (z20 (i0:=0) hM.keys h1 h2 he) (fun h=>by cases h)⟩
 split at hk
 ·
  simp only[qv] at hk
  obtain⟨z,hz,hk⟩:=hk
  obtain⟨hz1,hk⟩:=z0j hk
  have:=z0f hk;subst this
  simp only[All] at hc
  have hrun:=z6G (P:=P) (ok:=q) hu hkt hM.2.1 (z22 (i0:=0) hM.keys (z4y hc.1)) (fun _=>hz)
  exact Done.same hS ⟨_,hrun,z8A (.t _ _ (.sc _ hz1))⟩
 ·
  split at hk
  ·rename_i T hT
   have:=z0f hk;subst this
   simp only[All] at hc
   obtain⟨i,e,h1,h2,h3,h4,h5⟩:=found _ hc.1
   exact Done.same hS ⟨_,h5,z8A (.t _ _ h4.1)⟩
  ·cases hk
 ·cases hk
theorem z3P{t:TypeId}{x k v:AVal}{c:Orc}{δ:Dl}(hk:z7j P t x k v st c=some δ)(hc:All δ.cnd)(hst:∀id o,st id=some o->S id=some o)(hS:SRel F S m w)
 {ux uk uv:Value} (hx:VRel S m w (okB F S m w) x ux) (hki:VRel S m w (okB F S m w) k uk) (hv:VRel S m w (okB F S m w) v uv):
 δ.val= .junk/\∃w' m',(Instr.mapUpdate t ux uk uv).run P w= .ok () w'/\SRel F (app S δ.wr) m' w'/\FrameExt F S m w (app S δ.wr) m' w':=by
 unfold z7j at hk
 split at hk
 rotate_left
 ·cases hk
 rename_i e id n hme
 split at hk
 rotate_left
 ·cases hk
 rename_i es h hs
 have hid:=hst id _ hs
 obtain⟨kt,hu,hkt⟩:=z4R hme
 have:=VRel.sc_inv hki;subst this
 obtain⟨b,ents,bl,rfl,hM⟩:=y3g hS hid hx
 obtain⟨ents',hU,hrun⟩:=y2b hu hkt hM.2.1 hM.keys uv (n:=n)
 split at hk
 ·rename_i T
  simp only[qb] at hk
  subst hk
  cases hv with
  |t _ _ hT=>
   obtain⟨r1,r2⟩:=y3f hS hid hM hU hc (v:= .im T) (fun S' m' w' hF=>⟨hF.tree hT,rfl⟩)
   exact⟨rfl,_,m,hrun,r1,r2⟩
 ·cases hk
theorem z6z{t:TypeId}{r:Option Operand}{nid:Nat}{δ:Dl}(hk:z7i P t r nid=some δ)(hS:SRel F S m w)(hid:S nid=none)(ρ:Operand->Value):Done F S m w δ.wr δ.val ((Instr.makeMap t (r.map ρ)).run P w):=by
 unfold z7i at hk
 split at hk
 rotate_left
 ·cases hk
 simp only[qb] at hk
 subst hk
 have hF:=z5E (F:=F) (S:=S) (m:=m) (w:=w) (w':=w.alloc (.map #[] 0)) (o:= .mp [] none) (L:=(some w.heap.size,0)) hid rfl rfl rfl (by simp) (fun b hb=>z1e w _ b hb) (fun b hb=>by simp at hb;omega)
 have h1:=hS.new hid hF (fun b hb=>z1e w _ b hb) (fun b hb=>by simp at hb;omega) ⟨w.heap.size,[],fun _=>none,rfl,z10 w _,rfl,fun i j c h=>by simp at h,fun i c h=>by simp at h,fun i j x y h=>by simp at h,fun i x e h=>by simp at h⟩
 refine⟨.map (some w.heap.size),w.alloc (.map #[] 0),place m nid (some w.heap.size,0),?_,h1,hF,.hdl nid _ w.heap.size _ (z0n _ _ _) (by rw[z0y]) rfl⟩
 simp[Instr.makeMap]
theorem z9N{x:Go.Obj}(hb:w.heap[b]? =some x):w.putObj b x=w:=by
 have e:w.heap.setIfInBounds b x=w.heap:=by
  apply Array.ext_getElem?
  intro i
  rw[Array.getElem?_setIfInBounds]
  split
  ·rename_i hi;subst hi
   rw[hb];simp[(qY.1 hb).1]
  ·rfl
 unfold World.putObj
 rw[e]
theorem z9O{ents:List MapEntry}{i:Nat}{e:MapEntry}{f:MapEntry->MapEntry}(he:ents[i]? =some e)(hf:f e=e):ents.modify i f=ents:=by
 apply List.ext_getElem?
 intro j
 rw[List.getElem?_modify]
 by_cases h:i=j
 ·subst h;simp[he,hf]
 ·simp[h]
theorem y5M(hS:SRel F S m w){n:Int}{v:AVal}{v0 mv:MV}{i:Nat}(hid:S id=some (.mp es (some (n,v))))(hi:es[i]? =some (n,v0))(hj:∀(j:Nat) (x:Int×MV),j<i->es[j]? =some x->x.1≠n)
 {r:Nat} {o:Ob} (hr:S r=some o) (hlive:o.live=true) (hsame:o.same .gone) (hlen:o.len<18446744073709551616) (hri:r≠id)
 (hv:∀u,VRel S m w (okB F S m w) v u->∀S' m' w',FrameExt F S m w S' m' w'->(∀x,(m r).1=some x->w'.heap[x]? =w.heap[x]?)->MRel S' m' w' (okB F S' m' w') mv u (m r).1):
 ∃m',SRel F (upd (upd S r .gone) id (.mp (putE es n mv) none)) m' w/\FrameExt F S m w (upd (upd S r .gone) id (.mp (putE es n mv) none)) m' w:=by
 obtain⟨b,ents,bl,hM⟩:=hS.objs id _ hid
 have hM:MapD S m w (okB F S m w) es (some (n,v)) (m id) (m.g id) b ents bl:=hM
 obtain⟨e,he,k1,k2,k3⟩:=hM.at hi
 have hvu:=(k3.1 rfl).1
 have hmod:ents.modify i (fun e'=>{e' with key:= .int .i64 n,val:=e.val})=ents:=z9O he (by rw[<-k1])
 have hU:UpRel es ents ents n e.val:= .inl ⟨i,v0,hi,hj,hmod.symm⟩
 have hp:=z9N hM.2.1
 obtain⟨m',h1,h2⟩:=y5L hS hid hM hU (show All (holeC n (some (n,v))) from⟨rfl,trivial⟩) hr hlive hsame hlen hri (v:=mv) (G:=(m r).1.toList) (c:=(m r).1) (fun x hx=>by simpa using hx) (fun x hx=>by simpa using hx) (fun S' m' w' hF hx=>hv _ hvu S' m' w' hF (fun x h=>(hx x h).1))
 rw[hp] at h1 h2
 exact⟨m',h1,h2⟩
end Go.Ab
end
section
namespace Go.Ab
variable {P:Program} {w:World} {F:Fen P} {S st:Store} {m:Place}
theorem Up.of_done{o:Oper}{a:Act}{wr:List (Nat×Ob)}{val:AVal}{r:Result Value}(he:(execOp a.eval o).run P w=r.andThen fun v w'=> .ok (.value v) w')(hd:Done F S m w wr val r):
 Up P F S m w wr val o a:=by
 obtain⟨v,w',m',rfl,h1,h2,h3⟩:=hd
 exact Up.value he h1 h2 h3
theorem Done.of_pure{val:AVal}{wr:List (Nat×Ob)}{r:Result Value}(hS:SRel F S m w)(h:∃v,r= .ok v w/\VRel S m w (okB F S m w) val v/\wr=[]):Done F S m w wr val r:=by
 obtain⟨v,h1,h2,rfl⟩:=h
 exact Done.same hS ⟨v,h1,h2⟩
theorem z8B{α:Type}{ps:Array (Nat×Operand)}{ρ:Eval}{a:Act}{ok:Nat->Prop}(hr:∀x∈(ps.toList.map (·.2)),VRel S m w ok (ρ x) (a.eval x)):
 (ps.map fun(i,x)=>(i,a.eval x)).size=(ps.toList.map fun(i,x)=>(i,ρ x)).length/\
 ∀(i:Nat) (p:Nat×AVal) (q:Nat×Value),(ps.toList.map fun(i,x)=>(i,ρ x))[i]? =some p->(ps.map fun(i,x)=>(i,a.eval x))[i]? =some q->p.1=q.1/\VRel S m w ok p.2 q.2:=by
 refine⟨by simp,fun i p q hp hq=> ?_⟩
 simp only[q9,qe] at hp
 obtain⟨x,hx,rfl⟩:=hp
 simp only[Array.getElem?_map,qe] at hq
 obtain⟨y,hy,rfl⟩:=hq
 have e:ps.toList[i]? =ps[i]? :=by simp
 have hm:=qq hx
 rw[e,hy] at hx
 cases hx
 exact⟨rfl,hr _ (qy.2 ⟨_,hm,rfl⟩)⟩
theorem z5h{args:Array Operand}{ρ:Eval}{a:Act}{ok:Nat->Prop}(hr:∀x∈args.toList,VRel S m w ok (ρ x) (a.eval x)):
 (args.toList.map a.eval).length=(args.toList.map ρ).length/\
 ∀(i:Nat) (v:AVal) (u:Value),(args.toList.map ρ)[i]? =some v->(args.toList.map a.eval)[i]? =some u->VRel S m w ok v u:=by
 refine⟨by simp,fun i v u hv hu=> ?_⟩
 simp only[q9,qe] at hv hu
 obtain⟨x,hx,rfl⟩:=hv
 obtain⟨y,hy,rfl⟩:=hu
 rw[hx] at hy;cases hy
 exact hr _ (qq hx)
theorem arr1{α:Type}{a:Array α}{x:α}(h:a.toList=[x]):a=#[x]:=Array.ext' (by simpa using h)
theorem arr2{α:Type}{a:Array α}{x y:α}(h:a.toList=[x,y]):a=#[x,y]:=Array.ext' (by simpa using h)
theorem y3h{f:FuncId}{fn:Func}{c:Code}(hf:P.funcs[f]? =some fn)(hname:(fn.name== "runtime.NumGoroutine")=false)(hb:fn.body=some c)(args:Array Value)(w:World):
 (callFunc f args).run P w= .ok (.enter f args) w:=by
 have h1:fn.name≠ "runtime.NumGoroutine" :=by simpa using hname
 simp[callFunc,hf,h1,hb]
theorem y0O{st:Store}{ok:Nat->Prop}{v:AVal}{u:Value}(h:VRel st m w ok v u):∀{l:List (Nat×Nat)} {i:Nat},VRel st m w ok (fixW l i v) u
 | [],i=>h
 | (j,k)::l,i=>by
  unfold fixW
  cases hc:(Nat.beq i j&&Nat.blt 0 k) with
  |false=>exact y0O h
  |true=>
   simp only[qn] at hc
   simp only[cond_true]
   split
   ·cases h with
    |t _ _ hT=>
     cases hT with
     |sc _ _=>exact .t _ _ (.lst _ [] none 0 [] (zd (qx hc.2)) (fun x hx=>by simp at hx) (qr _) (by simp[maxLen]) (fun h=>absurd rfl h) (by simp) (fun j T u hT=>by simp[flat] at hT))
   ·exact h
theorem y3i{o:Oper}{ρ:Eval}{nid:Nat}{c:Orc}{δ:Dl}(h:aop P o.op o.type ρ st nid c=some δ)(hc:All δ.cnd)(hst:∀id o,st id=some o->S id=some o)
 (hneed:∀co,c.call=some co->∀id∈co.need,st id=S id) (hS:SRel F S m w) (hfresh:∀id,nid<=id->id<nid+8->S id=none) {a:Act}
 (hr:∀x∈o.op.operands.toList,VRel S m w (okB F S m w) (ρ x) (a.eval x)):Up P F S m w δ.wr δ.val o a:=by
 obtain⟨dst,op,type,pos,after,guard⟩:=o
 have hid:S nid=none:=hfresh nid (qr _) (by omega)
 cases op with
 |move x=>
  have:=z0f h;subst this
  exact Up.same hS (by simp[execOp]) (hr x (by simp[Op.operands]))
 |assign x=>
  have:=z0f h;subst this
  exact Up.same hS (by simp[execOp]) (hr x (by simp[Op.operands]))
 |alloc e=>exact Up.of_done (by simp[execOp]) (z8o h hS hid)
 |box e x=>exact Up.of_done (by simp[execOp]) (y2a (P:=P) (e:=e) h hS hid (hr x (by simp[Op.operands])))
 |build t ps=>
  have:=z8B (α:=Nat) (ps:=ps) (ρ:=ρ) (a:=a) (fun x hx=>hr x (by simpa[Op.operands] using hx))
  exact Up.of_done (by simp[execOp]) (z8p h hS this.1 this.2)
 |buildSlice t len ps=>
  have:=z8B (α:=Nat) (ps:=ps) (ρ:=ρ) (a:=a) (fun x hx=>hr x (by simpa[Op.operands] using hx))
  simp only[aop] at h
  cases hel:c.elt.isSome with
  |true=>
   rw[hel,cond_true] at h
   exact Up.of_done (by simp[execOp]) (z5K (uparts:=ps.map fun(i,x)=>(i,a.eval x)) h hS hid this.1 this.2)
  |false=>
  rw[hel,cond_false] at h
  exact Up.of_done (by simp[execOp]) (z4x (uparts:=ps.map fun(i,x)=>(i,a.eval x)) h hc hst hS hid (by rw[qk];exact this.1) (fun i p q hp hq=>by
   rw[q9,qe] at hp
   obtain⟨p0,hp0,rfl⟩:=hp
   obtain⟨e,hv⟩:=this.2 i p0 q hp0 hq
   exact⟨e,y0O hv⟩))
 |load t x=>exact Up.of_done (by simp[execOp]) (Done.of_pure hS (z5H h hc hst hS (hr x (by simp[Op.operands]))))
 |store t x y=>
  obtain⟨w',m',h1,h2,h3,h4⟩:=z8r h hc hst hS (hr x (by simp[Op.operands])) (hr y (by simp[Op.operands]))
  rw[h4]
  exact Up.skip (by simp[execOp,h1]) h2 h3
 |nilCheck x=>
  have hx:=hr x (by simp[Op.operands])
  simp only[aop] at h
  split at h
  ·rename_i id off he
   have:=z0f h;subst this
   rw[he] at hx
   generalize hu:a.eval x=u at hx
   refine Up.same hS (v:=u) ?_ hx
   cases hx with
   |ptr _ _ cs b hs hm=>simp[execOp,hu]
   |ptrG _ _ b hs=>simp[execOp,hu]
  ·rename_i id n i sub he
   have:=z0f h;subst this
   rw[he] at hx
   generalize hu:a.eval x=u at hx
   refine Up.same hS (v:=u) ?_ hx
   cases hx with
   |eptr _ _ _ _ k fz xs b hs hn hu'=>simp[execOp,hu]
   |eptrG _ _ _ _ b o hs=>simp[execOp,hu]
  ·rename_i cs he
   have:=z0f h;subst this
   rw[he] at hx
   generalize hu:a.eval x=u at hx
   refine Up.same hS (v:=u) ?_ hx
   cases hx with
   |cptr _ b o us h1 h2 h3 h4 h5=>simp[execOp,hu]
  ·rename_i f cap he
   have:=z0f h;subst this
   rw[he] at hx
   generalize hu:a.eval x=u at hx
   refine Up.same hS (v:=u) ?_ hx
   cases hx with
   |fn _ _ us h1 h2=>simp[execOp,hu]
  ·rename_i id i he
   have:=z0f h;subst this
   rw[he] at hx
   generalize hu:a.eval x=u at hx
   refine Up.same hS (v:=u) ?_ hx
   cases hx with
   |mptr _ _ fz xs hh b hs hm=>simp[execOp,hu]
  ·rename_i id he
   have:=z0f h;subst this
   rw[he] at hx
   generalize hu:a.eval x=u at hx
   refine Up.same hS (v:=u) ?_ hx
   cases hx with
   |yl _ Y pre hs=>rcases Y.kind with⟨_,_,hk⟩| ⟨_,hk⟩<;>simp[execOp,hu,hk]
  ·cases h
 |binOp b t x y yt=>
  have hb:∃v,(do eqGuard b t x y (a.eval x) (a.eval y);binOp b t (a.eval x) (a.eval y)).run P w= .ok v w/\VRel S m w (okB F S m w) δ.val v/\δ.wr=[]:=by
   have h:(bif c.fx.isEmpty then binIf P b t y (ρ x) (ρ y) else binNE P b t (ρ x) (ρ y))=some δ:=h
   cases hf:c.fx.isEmpty
   ·rw[hf] at h;exact z9J (ox:=x) (oy:=y) h hc (hr x (by simp[Op.operands])) (hr y (by simp[Op.operands]))
   ·rw[hf] at h;exact z9I (ox:=x) (oy:=y) h hc (hr x (by simp[Op.operands])) (hr y (by simp[Op.operands]))
  refine Up.of_done (r:=(do eqGuard b t x y (a.eval x) (a.eval y);binOp b t (a.eval x) (a.eval y)).run P w) ?_ (Done.of_pure hS hb)
  simp only[execOp]
  rw[Sem.run_bind]
  rfl
 |unOp u t x=>exact Up.of_done (by simp[execOp]) (Done.of_pure hS (y24 (P:=P) h (hr x (by simp[Op.operands]))))
 |convert s d x=>exact Up.of_done (by simp[execOp]) (Done.of_pure hS (z9H h hc hst hS (hr x (by simp[Op.operands]))))
 |makeFunc fn first cap=>
  cases fn with
  |func f=>
   simp only[aop] at h
   obtain⟨h1,h2⟩:=z0j h
   have:=z0f h2;subst this
   have hf:first=#[]:=by simpa using h1
   subst hf
   have:=z5h (args:=cap) (ρ:=ρ) (a:=a) (fun x hx=>hr x (by simp[Op.operands];simpa using hx))
   refine Up.same hS (v:= .func (.func f) #[] (cap.map a.eval)) (by simp[execOp,Instr.makeFunc]) ?_
   have:=VRel.fn (st:=S) (m:=m) (w:=w) (ok:=okB F S m w) f (cap.toList.map ρ) (cap.toList.map a.eval) this.1 this.2
   have e:(cap.toList.map a.eval).toArray=cap.map a.eval:=by apply Array.ext';simp
   rw[e] at this
   exact this
  |_=>simp[aop] at h
 |makeSlice t l k=>exact Up.of_done (by simp[execOp]) (z5d h hc hS hid (hr l (by simp[Op.operands])) (hr k (by simp[Op.operands])))
 |slice t x lo hi mx=>
  have hx:=hr x (by simp[Op.operands])
  cases mx with
  |some z=>
   have h:y0w P t (ρ x) (lo.map ρ) (hi.map ρ) (ρ z)=some δ:=h
   exact Up.of_done (by simp[execOp]) (z8m (ulo:=lo.map a.eval) (uhi:=hi.map a.eval) h hc hS hx (fun e=>by simpa using e) (fun v hv=>by
    simp only[qe] at hv
    obtain⟨y,rfl,rfl⟩:=hv
    exact⟨a.eval y,rfl,hr y (by simp[Op.operands])⟩) (hr z (by simp[Op.operands])))
  |none=>
  have h:(bif c.fx.isEmpty then y0v P t (ρ x) (lo.map ρ) (hi.map ρ) none st else y0x P t (ρ x) (lo.map ρ) (hi.map ρ) none st nid)=some δ:=h
  cases hfx:c.fx.isEmpty with
  |false=>
   rw[hfx,cond_false] at h
   have:=z8w (ulo:=lo.map a.eval) (uhi:=hi.map a.eval) h hc hst hS hid hx (fun e=>by simpa using e) (fun v hv=>by
    simp only[qe] at hv
    obtain⟨y,rfl,rfl⟩:=hv
    exact⟨a.eval y,rfl,hr y (by simp[Op.operands])⟩) (fun e=>by simpa using e) (fun v hv=>by
    simp only[qe] at hv
    obtain⟨y,rfl,rfl⟩:=hv
    exact⟨a.eval y,rfl,hr y (by simp[Op.operands])⟩)
   obtain⟨hm,hd⟩:=this
   exact Up.of_done (by simp[execOp]) hd
  |true=>
  rw[hfx,cond_true] at h
  have:=z8n (ulo:=lo.map a.eval) (uhi:=hi.map a.eval) h hc hst hS hx (fun e=>by simpa using e) (fun v hv=>by
   simp only[qe] at hv
   obtain⟨y,rfl,rfl⟩:=hv
   exact⟨a.eval y,rfl,hr y (by simp[Op.operands])⟩) (fun e=>by simpa using e) (fun v hv=>by
   simp only[qe] at hv
   obtain⟨y,rfl,rfl⟩:=hv
   exact⟨a.eval y,rfl,hr y (by simp[Op.operands])⟩)
  obtain⟨hm,hd⟩:=this
  exact Up.of_done (by simp[execOp]) hd
 |range t x=>
  have h:(bif c.fx.isEmpty then y0y P t (ρ x) nid else none)=some δ:=h
  cases hf:c.fx.isEmpty
  ·rw[hf] at h;cases h
  ·rw[hf] at h;exact Up.of_done (by simp[execOp]) (z8y h hS hid (hr x (by simp[Op.operands])))
 |makeMap t r=>exact Up.of_done (r:=(Instr.makeMap t (r.map a.eval)).run P w) (by simp[execOp]) (z6z h hS hid a.eval)
 |lookup t x k q=>exact Up.of_done (by simp[execOp]) (z7t h hc hst hS hid (hr x (by simp[Op.operands])) (hr k (by simp[Op.operands])))
 |mapUpdate t x k v=>
  obtain⟨h1,w',m',h2,h3,h4⟩:=z3P (c:=c) h hc hst hS (hr x (by simp[Op.operands])) (hr k (by simp[Op.operands])) (hr v (by simp[Op.operands]))
  rw[h1]
  exact Up.skip (by simp[execOp,h2]) h3 h4
 |insert t x k v=>
  obtain⟨h1,w',m',h2,h3,h4⟩:=z3P (c:=c) h hc hst hS (hr x (by simp[Op.operands])) (hr k (by simp[Op.operands])) (hr v (by simp[Op.operands]))
  rw[h1]
  exact Up.skip (by simp[execOp,h2]) h3 h4
 |entry it=>cases h
 |next it s=>exact Up.of_done (by simp[execOp]) (z9M h hc hst hS (hr it (by simp[Op.operands])) type)
 |fieldAddr s x f=>exact Up.of_done (by simp[execOp]) (Done.of_pure hS (z5b h hS (hr x (by simp[Op.operands]))))
 |field s x f=>exact Up.of_done (by simp[execOp]) (Done.of_pure hS (z8j h (hr x (by simp[Op.operands]))))
 |indexAddr t x i=>exact Up.of_done (by simp[execOp]) (Done.of_pure hS (z5c h hc hst hS (hr x (by simp[Op.operands])) (hr i (by simp[Op.operands]))))
 |index t x i=>exact Up.of_done (by simp[execOp]) (Done.of_pure hS (z8k h hc (hr x (by simp[Op.operands])) (hr i (by simp[Op.operands]))))
 |extract t i=>
  have hx:=hr t (by simp[Op.operands])
  simp only[aop] at h
  split at h
  ·rename_i vs he
   simp only[qv] at h
   obtain⟨v,hv,h⟩:=h
   have:=z0f h;subst this
   rw[he] at hx
   generalize hu:a.eval t=u at hx
   cases hx with
   |tup _ us hl h1=>
    have hil:i<us.length:=by rw[hl];exact(qB.1 hv).1
    refine Up.same hS (v:=us[i]) ?_ (h1 i v _ hv (qa hil))
    simp[execOp,Instr.extract,hu,hil]
  ·cases h
 |call cl=>
  obtain⟨callee,args,argTypes⟩:=cl
  cases callee with
  |value f=>
   simp only[aop] at h
   split at h
   rotate_left
   ·rename_i yid he
    have hf:=hr f (by simp[Op.operands,Call.operands])
    rw[he] at hf
    have hargs:=z5h (args:=args) (ρ:=ρ) (a:=a) (fun x hx=>hr x (by simp[Op.operands,Call.operands];right;simpa using hx))
    obtain⟨t,cp,nx,e1,e2,e3⟩:=z8v (us:=args.toList.map a.eval) h hc hst hS (by simp) hargs.2 hf
    intro next Q hn
    have hrun:(execOp a.eval ⟨dst,.call ⟨.value f,args,argTypes⟩,type,pos,after,guard⟩).run P w= .ok nx w:=by
     have e:args.map a.eval=(args.toList.map a.eval).toArray:=by apply Array.ext';simp
     simp only[execOp,resolve,e1,Deferred.ofValue,Sem.run_bind,Sem.run_pure,Result.andThen_ok,Array.empty_append,e]
     exact e2
    rw[hrun]
    cases nx with
    |enter f2 bs=>
     refine⟨fun h=>by simp[fw,Fence.wide] at h,CallsIn.mono (F:=fw F) e3 ?_⟩
     rintro e w' ⟨v,m',rfl,k1,k2,k3⟩
     exact hn v w' m' k1 k2 k3
    |round l2 f2 tm2 as2 b2=>
     refine⟨fun h=>by simp[fw,Fence.wide] at h,RoundIn.mono (F:=fw F) e3 ?_⟩
     rintro e w' ⟨v,m',rfl,k1,k2,k3⟩
     exact hn v w' m' k1 k2 k3
    |_=>exact e3.elim
   ·cases h
   rename_i fid cap co he hco
   have hf:=hr f (by simp[Op.operands,Call.operands])
   rw[he] at hf
   generalize hu:a.eval f=uf at hf
   cases hf with
   |fn _ _ us hl h1=>
    have hargs:=z5h (args:=args) (ρ:=ρ) (a:=a) (fun x hx=>hr x (by simp[Op.operands,Call.operands];right;simpa using hx))
    obtain⟨hcall,hback⟩:=z9L (us:=args.toList.map a.eval++us) h hc hst (hneed co hco) hS hfresh (by simp[hl]) (fun i v u hv hu'=>by
     by_cases hi:i<args.toList.length
     ·rw[qz (by simpa using hi)] at hv hu'
      exact hargs.2 i v u hv hu'
     ·rw[qH (by simpa using hi)] at hv hu'
      simp only[qk] at hv hu'
      exact h1 _ v u hv hu')
    unfold z00 at hcall
    split at hcall
    rotate_left
    ·cases hcall
    rename_i fn hfn
    simp only[qn,zh] at hcall
    obtain⟨code,hcode⟩:=zz.1 hcall.1
    intro next Q hn
    have hrun:(execOp a.eval ⟨dst,.call ⟨.value f,args,argTypes⟩,type,pos,after,guard⟩).run P w= .ok (.enter fid (args.toList.map a.eval++us).toArray) w:=by
     have e:args.map a.eval++us.toArray=(args.toList.map a.eval++us).toArray:=by apply Array.ext';simp
     simp only[execOp,resolve,hu,Deferred.ofValue,Sem.run_bind,Sem.run_pure,Result.andThen_ok,invoke,Array.empty_append,e]
     exact y3h hfn hcall.2 hcode _ w
    rw[hrun,Oper.uponIn_enter]
    refine⟨fun h=>by simp[fw,Fence.wide] at h,CallsIn.mono (F:=fw F) (callsIn_wide.2 hback) ?_⟩
    rintro e w' ⟨v,m',rfl,k1,k2,k3⟩
    exact hn v w' m' k1 k2 k3
  |invoke r mth=>simp[aop] at h
  |builtin b=>
   have hargs:=z5h (args:=args) (ρ:=ρ) (a:=a) (fun x hx=>hr x (by simp[Op.operands,Call.operands];simpa using hx))
   cases b with
   |len=>
    simp only[aop] at h
    split at h
    rotate_left
    ·cases h
    rename_i x t hx ht
    obtain rfl:=arr1 hx
    obtain rfl:=arr1 ht
    refine Up.of_done ?_ (Done.of_pure hS (y18 (ty:=type) h (hr x (by simp[Op.operands,Call.operands]))))
    simp[execOp,resolve,invoke,builtin]
   |append=>
    simp only[aop] at h
    split at h
    rotate_left
    ·cases h
    rename_i s x hx
    obtain rfl:=arr2 hx
    refine Up.of_done ?_ (z7r (ty:=type) h hc hst hS hid (hr s (by simp[Op.operands,Call.operands])) (hr x (by simp[Op.operands,Call.operands])))
    simp[execOp,resolve,invoke,builtin]
   |clear=>
    simp only[aop] at h
    split at h
    rotate_left
    ·cases h
    rename_i x t hx ht
    obtain rfl:=arr1 hx
    obtain rfl:=arr1 ht
    refine Up.of_done ?_ (z8x (ty:=type) h hc hst hS (hr x (by simp[Op.operands,Call.operands])))
    simp[execOp,resolve,invoke,builtin]
   |max=>
    simp only[aop] at h
    refine Up.of_done ?_ (Done.of_pure hS (z3M (P:=P) h hargs.1 hargs.2 argTypes type))
    have e:(args.toList.map a.eval).toArray=args.map a.eval:=by apply Array.ext';simp
    rw[e]
    simp[execOp,resolve,invoke,builtin]
   |min=>
    simp only[aop] at h
    refine Up.of_done ?_ (Done.of_pure hS (z3M (P:=P) h hargs.1 hargs.2 argTypes type))
    have e:(args.toList.map a.eval).toArray=args.map a.eval:=by apply Array.ext';simp
    rw[e]
    simp[execOp,resolve,invoke,builtin]
   |_=>simp[aop] at h
 |_=>simp[aop] at h
end Go.Ab
end
section
namespace Go.Ab
variable {P:Program} {w:World} {F:Fen P} {S st:Store} {m:Place}
def z1k(S:Store)(m:Place)(w:World)(ok:Nat->Prop)(sl:List (Nat×AVal))(tmps:Array Value):Prop:=∀t,VRel S m w ok (get sl t) (tmps.getD t undef)
theorem y3j{ok:Nat->Prop}{sl:List (Nat×AVal)}{a:Act}{x:Operand}(h:∀t,x= .tmp t->VRel S m w ok (get sl t) (a.tmps.getD t undef)):VRel S m w ok (ev sl x) (a.eval x):=by
 cases x with
 |tmp t=>exact h t rfl
 |func f=>exact .fn f [] [] rfl (fun i v u h=>by simp at h)
 |global g=>exact .junk _
 |const v=>
  cases v with
  |agg cs=>
   simp only[ev,Act.eval]
   cases hh:cs.toList.all Value.oneCell' with
   |false=>exact .junk _
   |true=>
    have h1:∀u∈cs.toList,u.oneCell'=true:=fun u hu=>qQ.1 hh u hu
    have hT:TRep w ok (.agg (cs.toList.map .sc)) (.agg cs.toList.toArray):=by
     refine .agg _ _ (by simp) (fun T hT=> ?_) (fun i T u hT hu=> ?_)
     ·obtain⟨v,_,rfl⟩:=qy.1 hT;rfl
     ·simp only[q9,qe] at hT
      obtain⟨v,hv,rfl⟩:=hT
      rw[hu] at hv;cases hv
      exact .sc _ (h1 _ (qq hu))
    simpa using VRel.t (st:=S) (m:=m) _ _ hT
  |tuple _=>exact .junk _
  |_=>exact .t _ _ (.sc _ rfl)
theorem z7u{ρ:Eval}:∀{l:List Operand},All (reqs ρ l)->∀x∈l,∀c v,ρ x= .cond c v->c=true
 | [],_,x,hx,_,_,_=>by simp at hx
 |y::l,h,x,hx,c,v,he=>by
  simp only[reqs] at h
  simp only[qj] at hx
  rcases hx with rfl|hx
  ·rw[he] at h
   exact h.1
  ·split at h
   ·exact z7u h.2 x hx c v he
   ·exact z7u h x hx c v he
theorem z7v{ok:Nat->Prop}{v:AVal}{u:Value}(h:VRel S m w ok v u)(hc:∀c v',v= .cond c v'->c=true):VRel S m w ok (bare v) u:=by
 cases h with
 |cond c v u h1 h0=>exact h1 (hc c v rfl)
 |t T u h=>exact .t T u h
 |xl k xs u h hc=>exact .xl k xs u h hc
 |row id n k fz xs L h1 h2 h3=>exact .row id n k fz xs L h1 h2 h3
 |ptr id off cs b h1 h2=>exact .ptr id off cs b h1 h2
 |bsl id n cs b h1 h2=>exact .bsl id n cs b h1 h2
 |bslG id n L h1=>exact .bslG id n L h1
 |eptr id n i sub k fz xs b h1 h2 h3=>exact .eptr id n i sub k fz xs b h1 h2 h3
 |mat id fz xs hh L h1 h2=>exact .mat id fz xs hh L h1 h2
 |mptr id i fz xs hh b h1 h2=>exact .mptr id i fz xs hh b h1 h2
 |cptr cs b o us h1 h2 h3 h4 h5=>exact .cptr cs b o us h1 h2 h3 h4 h5
 |agg cs us h1 h2 h3=>exact .agg cs us h1 h2 h3
 |fn f cap us h1 h2=>exact .fn f cap us h1 h2
 |tup vs us h1 h2=>exact .tup vs us h1 h2
 |junk u=>exact .junk u
 |rowG id n L h1=>exact .rowG id n L h1
 |eptrG id n i sub b o h1=>exact .eptrG id n i sub b o h1
 |anyB b=>exact .anyB b
 |ifc t u=>exact .ifc t u
 |tail id n i k fz xs L h1 h2 h3 h4=>exact .tail id n i k fz xs L h1 h2 h3 h4
 |tailG id n i k L h1=>exact .tailG id n i k L h1
 |hdl id o b u h1 h2 h3=>exact .hdl id o b u h1 h2 h3
 |ptrG id off b h1=>exact .ptrG id off b h1
 |yl id Y pre h1=>exact .yl id Y pre h1
theorem y5N{ok:Nat->Prop}{k i:Nat}{v:AVal}{u:Value}(h:VRel S m w ok v u):VRel S m w ok (fix1 k i v) u:=by
 have nl:∀{k:Nat} {u:Value},0<k->u= .slice none 0 0->TRep w ok (.lst k []) u:=fun hk e=>by
  subst e
  exact .lst _ [] none 0 [] hk (fun x hx=>by simp at hx) (qr _) (by simp[maxLen]) (fun h=>absurd rfl h) (by simp) (fun j T u hT=>by simp[flat] at hT)
 have pos:∀{k:Nat},Nat.blt 0 k=true->0<k:=fun h=>zd (qx h)
 cases h with
 |t T u hT=>
  cases T with
  |agg cs=>
   simp only[fix1]
   split
   ·rename_i hc
    cases hk:Nat.blt 0 k with
    |false=>exact .t _ _ hT
    |true=>
     cases hT with
     |agg _ us hl hcell hr=>
      refine .t _ _ (.agg _ us (by simp[hl]) (fun T' hT'=> ?_) (fun j T' u' hj hu=> ?_))
      ·rcases ze hT' with h|rfl
       ·exact hcell _ h
       ·rfl
      ·rw[zu] at hj
       split at hj
       ·rename_i hij
        subst hij
        split at hj
        ·cases hj
         have:=hr i _ u' hc hu
         cases this with
         |sc=>exact nl (pos hk) rfl
        ·cases hj
       ·exact hr j T' u' hj hu
   ·exact .t _ _ hT
  |sc v=>exact .t _ _ hT
  |lst k xs=>exact .t _ _ hT
 |agg cs us hl hr h1=>
  simp only[fix1]
  split
  ·rename_i hc
   cases hk:Nat.blt 0 k with
   |false=>exact .agg cs us hl hr h1
   |true=>
    refine .agg _ us (by simp[hl]) (fun j T' u' hj hu=> ?_) h1
    rw[zu] at hj
    split at hj
    ·rename_i hij
     subst hij
     split at hj
     ·cases hj
      have:=hr i _ u' hc hu
      cases this with
      |t _ _ hT=>
       cases hT with
       |sc=>exact .t _ _ (nl (pos hk) rfl)
     ·cases hj
    ·exact hr j T' u' hj hu
  ·exact .agg cs us hl hr h1
 |row id n k fz xs L h1 h2 h3=>exact .row id n k fz xs L h1 h2 h3
 |ptr id off cs b h1 h2=>exact .ptr id off cs b h1 h2
 |bsl id n cs b h1 h2=>exact .bsl id n cs b h1 h2
 |bslG id n L h1=>exact .bslG id n L h1
 |eptr id n i sub k fz xs b h1 h2 h3=>exact .eptr id n i sub k fz xs b h1 h2 h3
 |mat id fz xs hh L h1 h2=>exact .mat id fz xs hh L h1 h2
 |mptr id i fz xs hh b h1 h2=>exact .mptr id i fz xs hh b h1 h2
 |cptr cs b o us h1 h2 h3 h4 h5=>exact .cptr cs b o us h1 h2 h3 h4 h5
 |fn f cap us h1 h2=>exact .fn f cap us h1 h2
 |tup vs us h1 h2=>exact .tup vs us h1 h2
 |cond c v u h1 h0=>exact .cond c v u h1 h0
 |junk u=>exact .junk u
 |rowG id n L h1=>exact .rowG id n L h1
 |eptrG id n i sub b o h1=>exact .eptrG id n i sub b o h1
 |anyB b=>exact .anyB b
 |ifc t u=>exact .ifc t u
 |tail id n i k fz xs L h1 h2 h3 h4=>exact .tail id n i k fz xs L h1 h2 h3 h4
 |tailG id n i k L h1=>exact .tailG id n i k L h1
 |xl k xs u h hc=>exact .xl k xs u h hc
 |hdl id o b u h1 h2 h3=>exact .hdl id o b u h1 h2 h3
 |ptrG id off b h1=>exact .ptrG id off b h1
 |yl id Y pre h1=>exact .yl id Y pre h1
theorem y0P{ok:Nat->Prop}:∀{l:List (Nat×Nat)} {v:AVal} {u:Value},VRel S m w ok v u->VRel S m w ok (fixN l v) u
 | [],v,u,h=>h
 | (i,k)::l,v,u,h=>y0P (l:=l) (y5N h)
theorem z5P{s:St}{o:Oper}{nid:Nat}{c:Orc}{r:Res}(h:exec0 P s o nid c=some r)(hc:All r.cnd)(hag:∀id∈r.need,s.st id=S id)(hS:SRel F S m w)
 (hfresh:∀id,nid<=id->id<nid+8->S id=none) {a:Act} (hr:∀x∈o.op.operands.toList,VRel S m w (okB F S m w) (ev s.sl x) (a.eval x)):Up P F S m w r.wr r.val o a:=by
 unfold exec0 at h
 simp only at h
 split at h
 ·rename_i g x y hop
  simp only[qe] at h
  obtain⟨δ,hδ,rfl⟩:=h
  unfold pickK at hδ
  split at hδ
  rotate_left
  ·cases hδ
  rename_i gb xb yb hg hx hy
  simp only[qb] at hδ
  subst hδ
  rw[z0C,z0C] at hc
  obtain⟨⟨c1,c2⟩,c3⟩:=hc
  have rg:=hr g (by simp[hop,Op.operands])
  have rx:=hr x (by simp[hop,Op.operands])
  have ry:=hr y (by simp[hop,Op.operands])
  have vg:=z7v rg (fun k v he=>by rw[he] at c1;exact c1.1)
  rw[hg] at vg
  have eg:=VRel.sc_inv vg
  have val:∀(z:AVal) (zb:Bool) (u:Value),VRel S m w (okB F S m w) z u->bare z= .t (.sc (.bool zb))->(∀k v,z= .cond k v->k=true)->u= .bool zb:=by
   intro z zb u hz hb hk
   have:=z7v hz hk
   rw[hb] at this
   exact VRel.sc_inv this
  cases gb with
  |true=>
   have ex:=val (ev s.sl x) xb _ rx hx (fun k v he=>by rw[he] at c2;exact c2.1 rfl)
   refine Up.same hS (v:= .bool xb) ?_ (.t _ _ (.sc _ rfl))
   simp[execOp,hop,eg,asBool,ex]
  |false=>
   have ey:=val (ev s.sl y) yb _ ry hy (fun k v he=>by rw[he] at c3;exact c3.1 rfl)
   refine Up.same hS (v:= .bool yb) ?_ (.t _ _ (.sc _ rfl))
   simp[execOp,hop,eg,asBool,ey]
 ·rename_i hnp
  simp only[qe] at h
  obtain⟨δ,hδ,rfl⟩:=h
  simp only at hc hag
  rw[z0C,z0C,z0C] at hc
  obtain⟨⟨⟨c1,c2⟩,c3⟩,c4⟩:=hc
  have hwr:c.wr.getD δ.wr=δ.wr:=by
   cases hh:c.wr with
   |none=>rfl
   |some v=>rw[hh] at c4;exact c4.1
  simp only[hwr]
  have hUp:Up P F S m w δ.wr δ.val o a:=by
   refine y3i (st:=only s.st (y0z (ev s.sl) o.op c)) hδ c2 (fun id ob hid=> ?_) (fun co hco id hid=> ?_) hS hfresh (fun x hx=> ?_)
   ·obtain⟨h1,h2⟩:=z5D hid
    rw[<-hag id h2];exact h1
   ·have hn:id∈y0z (ev s.sl) o.op c:=by
     unfold y0z
     simp[hco,hid]
    rw[y0B hn];exact hag id hn
   ·exact z7v (hr x hx) (fun k v he=>z7u c1 x hx k v he)
  have hUp2:Up P F S m w δ.wr (c.val.getD δ.val) o a:=by
   cases hh:c.val with
   |none=>exact hUp
   |some v=>
    rw[hh] at c3
    intro next Q hnext
    exact hUp next Q (fun v' w' m' q1 q2 q3=>hnext v' w' m' q1 q2 (c3.1 _ _ _ _ _ q3))
  intro next Q hnext
  exact hUp2 next Q (fun v' w' m' q1 q2 q3=>hnext v' w' m' q1 q2 (y0P q3))
theorem y5O{ops:List Oper}{o:Oper}{t:Nat}(h:Operand.tmp t∈o.op.operands.toList):t∈looks ops o:=by
 unfold looks
 exact zV _ (List.mem_filterMap.2 ⟨.tmp t,h,rfl⟩)
theorem z6H{ops:List Oper}{tmps:Array Value}{j d:Nat}{g:Bool}(h:z8i ops j=some d)(hv:tmps.getD d undef= .bool g):yielded ops.toArray tmps j=some g:=by
 unfold yielded z8i at*
 have e:(ops.toArray[j]?).bind (·.dst)=some d:=by simpa using h
 rw[e]
 have:tmps[d]? =some (.bool g):=by
  cases hh:tmps[d]? with
  |none=>simp[hh,undef] at hv
  |some v=>simp[hh] at hv;rw[hv]
 simp[this]
theorem z4T{ops:List Oper}{s:St}{o:Oper}{e:Bool}(hg:z5C ops s.sl o=some (some e)){a:Act}(hr:∀t∈looks ops o,VRel S m w (okB F S m w) (get s.sl t) (a.tmps.getD t undef)):
 Region.wanted o (yielded ops.toArray a.tmps)=e\/(e=false/\Region.wanted o (yielded ops.toArray a.tmps)=false):=by
 unfold z5C at hg
 split at hg
 ·cases hg
 rename_i j want hgd
 split at hg
 ·cases hg
 rename_i d hd
 have hdl:d∈looks ops o:=by unfold looks;rw[hgd];simp[hd]
 have hv:=hr d hdl
 split at hg
 ·rename_i g hget
  simp only[qb] at hg
  rw[hget] at hv
  have hy:=z6H hd (VRel.sc_inv hv)
  left
  simp only[Region.wanted,hgd,hy]
  rw[<-hg]
  cases g<;>cases want<;>rfl
 ·rename_i cc g hget
  simp only[qb] at hg
  rw[hget] at hv
  cases hv with
  |cond _ _ _ h1 h0=>
   cases cc with
   |true=>
    have hy:=z6H hd (VRel.sc_inv (h1 rfl))
    left
    simp only[Region.wanted,hgd,hy]
    rw[<-hg]
    cases g<;>cases want<;>rfl
   |false=>
    have hu:=h0 rfl
    right
    refine⟨by rw[<-hg];rfl,?_⟩
    have hy:yielded ops.toArray a.tmps j=none:=by
     unfold yielded z8i at*
     have e:(ops.toArray[j]?).bind (·.dst)=some d:=by simpa using hd
     rw[e]
     cases hh:a.tmps[d]? with
     |none=>simp[hh]
     |some v=>simp[hh] at hu;simp[hh,hu,undef]
    simp[Region.wanted,hgd,hy]
 ·cases hg
theorem z7w{s:St}{o:Oper}{nid:Nat}{c:Orc}{r:Res}(h:exec0 P s o nid c=some r):∀cl,o.op≠ .defer cl:=by
 intro cl e
 unfold exec0 at h
 rw[e] at h
 simp[aop] at h
theorem z6I{s:St}{o:Oper}{nid:Nat}{c:Orc}{r:Res}(h:exec0 P s o nid c=some r){wr:List (Nat×Ob)}{val:AVal}{a:Act}(hu:Up P F S m w wr val o a){K:Act->World->Prop}{Q:Exit->Act->World->Prop}
 (hK:∀v w' m',SRel F (app S wr) m' w'->FrameExt F S m w (app S wr) m' w'->VRel (app S wr) m' w' (okB F (app S wr) m' w') val v->K (a.put o.dst v) w'):o.wpIn (fw F) 0 P a w K Q:=by
 refine⟨fun f _=>trivial,?_⟩
 rw[Oper.semAt_eq _ _ _ (z7w h)]
 exact hu K Q hK
theorem y3k{ops:List Oper}{s:St}{o:Oper}{nid:Nat}{c:Orc}{r:Res}(h:y22 P ops s o nid c=some r)(hc:All r.cnd)(hag:∀id∈r.need,s.st id=S id)(hS:SRel F S m w)
 (hfresh:∀id,nid<=id->id<nid+8->S id=none) {a:Act} (hr:∀t∈looks ops o,VRel S m w (okB F S m w) (get s.sl t) (a.tmps.getD t undef))
 {K:Act->World->Prop} {Q:Exit->Act->World->Prop}
 (hK:∀v w' m',SRel F (app S r.wr) m' w'->FrameExt F S m w (app S r.wr) m' w'->VRel (app S r.wr) m' w' (okB F (app S r.wr) m' w') r.val v->K (a.put o.dst v) w'):
 if Region.wanted o (yielded ops.toArray a.tmps) then o.wpIn (fw F) 0 P a w K Q else(∀f,o.about P w a.eval=some f->(fw F).fn f)/\K (a.put o.dst undef) w:=by
 have hops:∀x∈o.op.operands.toList,VRel S m w (okB F S m w) (ev s.sl x) (a.eval x):=fun x hx=>y3j (fun t e=>by subst e;exact hr t (y5O hx))
 unfold y22 at h
 split at h
 ·rename_i r0 hg h0
  simp only[qb] at h
  subst h
  have hng:o.guard=none:=by
   unfold z5C at hg
   split at hg
   ·assumption
   ·split at hg
    ·cases hg
    ·split at hg<;>cases hg
  rw[if_pos (by simp[Region.wanted,hng])]
  exact z6I h0 (z5P h0 hc hag hS hfresh hops) hK
 ·rename_i e r0 hg h0
  simp only[qb] at h
  subst h
  simp only at hc hag hK
  rw[z0C] at hc
  obtain⟨c1,c2⟩:=hc
  have hmap:∀l:List Prop,e=true->All (l.map fun p=>e=true->p)->All l:=by
   intro l he
   induction l with
   |nil=>exact fun _=>trivial
   |cons p l ih=>intro h;exact⟨h.1 he,ih h.2⟩
  have hw:=z4T hg hr
  cases e with
  |true=>
   have hw':Region.wanted o (yielded ops.toArray a.tmps)=true:=by
    rcases hw with h|h
    ·exact h
    ·cases h.1
   rw[if_pos hw']
   exact z6I h0 (z5P h0 (hmap _ rfl c1) hag hS hfresh hops) (fun v w' m' k1 k2 k3=>hK v w' m' k1 k2 (.cond true _ v (fun _=>k3) (fun h=>by cases h)))
  |false=>
   have hw':Region.wanted o (yielded ops.toArray a.tmps)=false:=by
    rcases hw with h|h
    ·exact h
    ·exact h.2
   rw[if_neg (by rw[hw'];simp)]
   have hwr:r0.wr=[]:=by
    cases hh:r0.wr with
    |nil=>rfl
    |cons x l=>rw[hh] at c2;exact absurd c2.1 (by simp)
   rw[hwr] at hK
   exact⟨fun _ _=>trivial,hK undef w m hS (FrameExt.refl F S m w) (.cond false _ _ (fun h=>by cases h) (fun _=>rfl))⟩
 ·cases h
theorem y0Q{ops:List Oper}{s:St}{o:Oper}{nid:Nat}{c:Orc}{r:Res}(h:exec1 P ops s o nid c=some r)(hc:All r.cnd)(hag:∀id∈r.need,s.st id=S id)(hS:SRel F S m w)
 (hfresh:∀id,nid<=id->id<nid+8->S id=none) {a:Act} (hr:∀t∈looks ops o,VRel S m w (okB F S m w) (get s.sl t) (a.tmps.getD t undef))
 {K:Act->World->Prop} {Q:Exit->Act->World->Prop}
 (hK:∀v w' m',SRel F (app S r.wr) m' w'->FrameExt F S m w (app S r.wr) m' w'->VRel (app S r.wr) m' w' (okB F (app S r.wr) m' w') r.val v->K (a.put o.dst v) w'):
 if Region.wanted o (yielded ops.toArray a.tmps) then o.wpIn (fw F) 0 P a w K Q else(∀f,o.about P w a.eval=some f->(fw F).fn f)/\K (a.put o.dst undef) w:=by
 unfold exec1 at h
 split at h
 ·rename_i v hv
  split at h
  ·rename_i e hg
   simp only[qb] at h
   subst h
   obtain⟨he,-⟩:=hc
   have hw:=z4T hg hr
   have hw':Region.wanted o (yielded ops.toArray a.tmps)=false:=by
    rcases hw with h|h
    ·rw[h];exact he
    ·exact h.2
   rw[if_neg (by rw[hw'];simp)]
   exact⟨fun _ _=>trivial,hK undef w m hS (FrameExt.refl F S m w) (.cond e _ _ (fun h=>by rw[he] at h;cases h) (fun _=>rfl))⟩
  ·cases h
 ·exact y3k h hc hag hS hfresh hr hK
def markD(D:Nat):Deferred:={target:= .collected D,args:=#[]}
def Marks(F:Fen P)(st:Store)(m:Place)(w:World)(ds:List Deferred):Prop:=
 (∃l:List Nat,ds=l.map markD/\l.Nodup/\∀D∈l,F.lo<=D/\(∀id o,st id=some o->¬m.has id D)/\w.heap[D]? =some (.deferred (some [])))/\
  F.lo<=w.heap.size/\∀l,F.rnd=some l->(∀id o,st id=some o->¬m.has id l)/\∃r,w.heap[l]? =some (.loop r)
theorem Marks.nil{F:Fen P}{st:Store}{m:Place}{w:World}(h1:F.lo<=w.heap.size)(h2:∀l,F.rnd=some l->(∀id o,st id=some o->¬m.has id l)/\∃r,w.heap[l]? =some (.loop r)):Marks F st m w []:=⟨⟨[],rfl,List.nodup_nil,fun D h=>by cases h⟩,h1,h2⟩
theorem Marks.ext{F:Fen P}{st st':Store}{m m':Place}{w w':World}{ds:List Deferred}(h:Marks F st m w ds)(hF:FrameExt F st m w st' m' w'):Marks F st' m' w' ds:=by
 obtain⟨⟨l,h1,h2,h3⟩,h4,h5⟩:=h
 have key:∀D x,w.heap[D]? =some x->(∀id o,st id=some o->¬m.has id D)->(∀id o,st' id=some o->¬m'.has id D)/\w'.heap[D]? =some x:=by
  intro D x q3 q2
  have hlt:D<w.heap.size:=(qY.1 q3).1
  refine⟨fun id o ho hm=> ?_,(hF.block D hlt (.inr fun id o ho _=>q2 id o ho)).trans q3⟩
  cases hs:st id with
  |none=>
   rcases hF.new id o ho hs D hm with h| ⟨i,oi,k1,_,k2⟩
   ·omega
   ·exact q2 i oi k1 k2
  |some o0=>
   obtain⟨o',_,_,_,_,hp,_⟩:=hF.keep id o0 hs
   rcases hp D hm with h|h| ⟨i,oi,k1,_,k2⟩
   ·exact q2 id o0 hs h
   ·omega
   ·exact q2 i oi k1 k2
 refine⟨⟨l,h1,h2,fun D hD=> ?_⟩,qM h4 hF.size,fun l hl=> ?_⟩
 ·obtain⟨q1,q2,q3⟩:=h3 D hD
  exact⟨q1,key D _ q3 q2⟩
 ·obtain⟨q2,r,q3⟩:=h5 l hl
  obtain⟨k1,k2⟩:=key l _ q3 q2
  exact⟨k1,r,k2⟩
structure Rel(F:Fen P)(n:Nat)(s:St)(m:Place)(a:Act)(w:World):Prop where
 slots:z1k s.st m w (okB F s.st m w) s.sl a.tmps
 size:a.tmps.size=n
 defers:Marks F s.st m w a.defers
 srel:SRel F s.st m w
 fresh:∀id,s.nx<=id->s.st id=none
theorem y0R(a:Act)(d:Option Tmp)(v:Value):(a.put d v).tmps.size=a.tmps.size:=by cases d<;>simp[Act.put]
theorem z6J(a:Act)(d:Option Tmp)(v:Value):(a.put d v).defers=a.defers:=by cases d<;>rfl
theorem y0S(a:Act)(d:Option Tmp)(v:Value)(t:Nat)(h:∀d',d=some d'->d'<a.tmps.size):(a.put d v).tmps.getD t undef=if d=some t then v else a.tmps.getD t undef:=by
 cases d with
 |none=>simp[Act.put]
 |some d=>
  have hd:=h d rfl
  by_cases e:d=t
  ·subst e
   simp[Act.put,hd]
  ·simp[Act.put,e,Array.getElem?_setIfInBounds_ne e]
theorem y3l(sl:List (Nat×AVal))(d:Option Nat)(v:AVal)(t:Nat):get (put sl d v) t=if d=some t then v else get sl t:=by
 cases d with
 |none=>simp[put]
 |some d=>
  simp only[put,get]
  by_cases e:d=t
  ·subst e;simp
  ·rw[z0O e];simp[e]
theorem z1k.put{ok:Nat->Prop}{sl:List (Nat×AVal)}{a:Act}{o:Oper}{n:Nat}(hd:dstOk n o=true)(hn:a.tmps.size=n){val:AVal}{v:Value}(h:z1k S m w ok sl a.tmps)(hv:VRel S m w ok val v):
 z1k S m w ok (Ab.put sl o.dst val) (a.put o.dst v).tmps:=by
 intro t
 rw[y3l,y0S _ _ _ _ (fun d hd'=>by
  unfold dstOk at hd
  rw[hd'] at hd
  rw[hn];exact zd (qx hd))]
 split
 ·exact hv
 ·exact h t
theorem y3m{r:Res}{k:Nat}(h:(r.wr.all fun x=>Nat.blt x.1 k)=true){id:Nat}(hid:k<=id):app S r.wr id=S id:=by
 apply z1o
 intro hm
 obtain⟨x,hx,rfl⟩:=qy.1 hm
 have h1:=qQ.1 h x hx
 have:=zd (qx h1)
 omega
theorem y3n{ops:List Oper}{orcs:List (Nat×Orc)}{nx n:Nat}{ds:List Deferred}{Q:Exit->Act->World->Prop}:∀(rest:List Oper) (i:Nat) (s s':St) (rs:List Res),runL P ops orcs nx i rest s=some (s',rs)->All (allC rs)->
 (rest.all (dstOk n))=true->∀(m:Place) (a:Act) (w:World),z1k s.st m w (okB F s.st m w) s.sl a.tmps->a.tmps.size=n->a.defers=ds->SRel F s.st m w->(∀id,nx+8*i<=id->s.st id=none)->
 (∀m' a' w',z1k s'.st m' w' (okB F s'.st m' w') s'.sl a'.tmps->a'.tmps.size=n->a'.defers=ds->SRel F s'.st m' w'->(∀id,nx+8*(i+rest.length)<=id->s'.st id=none)->FrameExt F s.st m w s'.st m' w'->Q .normal a' w')->
 wpListIn (fw F) 0 P ops.toArray Q rest a w
 | [],i,s,s',rs,h,_,_,m,a,w,h1,h2,h3,h4,h5,hQ=>by
  simp only[runL,qb,qF] at h
  obtain⟨rfl,rfl⟩:=h
  exact hQ m a w h1 h2 h3 h4 h5 (FrameExt.refl F _ m w)
 |o::rest,i,s,s',rs,h,hc,hd,m,a,w,h1,h2,h3,h4,h5,hQ=>by
  simp only[runL] at h
  split at h
  rotate_left
  ·cases h
  rename_i r hr
  cases hk:(r.wr.all fun x=>Nat.blt x.1 (nx+8*i+8)) with
  |false=>rw[hk] at h;cases h
  |true=>
   rw[hk] at h
   simp only[Bool.not_true,cond_false] at h
   split at h
   rotate_left
   ·cases h
   rename_i s2 rs2 hrun
   simp only[qb,qF] at h
   obtain⟨rfl,rfl⟩:=h
   simp only[allC] at hc
   rw[z0C] at hc
   simp only[List.all_cons,qn] at hd
   unfold wpListIn
   refine y0Q hr hc.1 (fun _ _=>rfl) h4 (fun id q1 q2=>h5 id (by omega)) (fun t _=>h1 t) (fun v w' m' k1 k2 k3=> ?_)
   refine y3n (ds:=ds) rest (i+1) _ s2 rs2 hrun hc.2 hd.2 m' _ w' ?_ (by rw[y0R];exact h2) (by rw[z6J];exact h3) k1 (fun id hid=> ?_) (fun m'' a'' w'' q1 q2 q3 q4 q5 q6=> ?_)
   ·exact z1k.put hd.1 h2 (fun t=>k2.val (h1 t)) k3
   ·show app s.st r.wr id=none
    rw[y3m hk (by omega)];exact h5 id (by omega)
   ·exact hQ m'' a'' w'' q1 q2 q3 q4 (fun id hid=>q5 id (by simp only[qi] at hid;omega)) (k2.trans h4 q6)
theorem z5Q:∀(keys:List Nat) (sl:List (Nat×AVal)) (t:Nat),get (keepS sl keys) t=get sl t\/get (keepS sl keys) t= .junk
 | [],sl,t=> .inr rfl
 |k::keys,sl,t=>by
  simp only[keepS,get]
  by_cases e:k=t
  ·subst e;left;simp
  ·rw[z0O e];exact z5Q keys sl t
theorem z1k.keep{ok:Nat->Prop}{sl:List (Nat×AVal)}{tmps:Array Value}(h:z1k S m w ok sl tmps)(keys:List Nat):z1k S m w ok (keepS sl keys) tmps:=by
 intro t
 rcases z5Q keys sl t with e|e
 ·rw[e];exact h t
 ·rw[e];exact .junk _
theorem y3o{n:Nat}{ops:List Oper}{orcs:List (Nat×Orc)}{keys:List Nat}{s s':St}{C:List Prop}(h:runR P n ops false orcs keys s=some (s',C))(hC:All C){m:Place}{a:Act}{w:World}(hs:Rel F n s m a w)
 {Q:Exit->Act->World->Prop} (hQ:∀m' a' w',Rel F n s' m' a' w'->FrameExt F s.st m w s'.st m' w'->Q .normal a' w') (id:Nat):(Code.region id ops.toArray false).wpIn (fw F) 0 P Q a w:=by
 unfold runR at h
 split at h
 rotate_left
 ·cases h
 rename_i s2 rs hrun
 obtain⟨h1,h2⟩:=z0j h
 simp only[qn] at h1
 simp only[qb,qF] at h2
 obtain⟨rfl,rfl⟩:=h2
 refine wpIn_region_list ?_
 refine y3n ops 0 s s2 rs hrun hC h1.1 m a w hs.slots hs.size rfl hs.srel (fun id hid=>hs.fresh id (by omega)) (fun m' a' w' q1 q2 q3 q4 q5 q6=> ?_)
 exact hQ m' a' w' ⟨q1.keep keys,q2,by rw[q3];exact hs.defers.ext q6,q4,fun id hid=>q5 id (by simp only at hid;omega)⟩ q6
end Go.Ab
end
section
namespace Go.Ab
variable {P:Program} {w:World} {F:Fen P} {S st:Store} {m:Place}
def look{β:Type}(d:β)(f:Nat->Option β):Nat->β
 |0=>d
 |k+1=>(f k).getD (look d f k)
theorem z1l{β:Type}{d:β}{f g:Nat->Option β}:∀{k:Nat},(∀i,i<k->f i=g i)->look d f k=look d g k
 |0,_=>rfl
 |k+1,h=>by simp only[look,h k (by omega),z1l (k:=k) (fun i hi=>h i (by omega))]
theorem z2t{β:Type}{d:β}{f:Nat->Option β}{i:Nat}:∀{k:Nat},i<=k->(∀j,i<=j->j<k->f j=none)->look d f k=look d f i
 |0,h,_=>by simp[Nat.le_zero.1 h]
 |k+1,h,hf=>by
  by_cases e:i=k+1
  ·rw[e]
  ·simp only[look,hf k (by omega) (by omega)]
   exact z2t (by omega) (fun j h1 h2=>hf j h1 (by omega))
theorem y0T{β:Type}{d:β}{f:Nat->Option β}{i k:Nat}{v:β}(hi:i<k)(hv:f i=some v)(hf:∀j,i<j->j<k->f j=none):look d f k=v:=by
 rw[z2t (i:=i+1) hi (fun j h1 h2=>hf j (by omega) h2)]
 simp only[look,hv,zx]
def Trace(P:Program)(ops:List Oper)(orcs:List (Nat×Orc))(nx:Nat):Nat->List Oper->St->List Res->St->Prop
 |_,[],s,rs,s'=>rs=[]/\s'=s
 |i,o::l,s,rs,s'=> ∃r rs',rs=r::rs'/\exec1 P ops s o (nx+8*i) (orcAt orcs i)=some r/\(r.wr.all fun x=>Nat.blt x.1 (nx+8*i+8))=true/\
  Trace P ops orcs nx (i+1) l ⟨put s.sl o.dst r.val,app s.st r.wr,s.nx⟩ rs' s'
theorem y0U:∀{ops:List Oper} {orcs:List (Nat×Orc)} {nx:Nat} (l:List Oper) (i:Nat) (s s':St) (rs:List Res),runL P ops orcs nx i l s=some (s',rs)->Trace P ops orcs nx i l s rs s'
 |ops,orcs,nx,[],i,s,s',rs,h=>by
  simp only[runL,qb,qF] at h
  exact⟨h.2.symm,h.1.symm⟩
 |ops,orcs,nx,o::l,i,s,s',rs,h=>by
  simp only[runL] at h
  split at h
  rotate_left
  ·cases h
  rename_i r hr
  cases hk:(r.wr.all fun x=>Nat.blt x.1 (nx+8*i+8)) with
  |false=>rw[hk] at h;cases h
  |true=>
   rw[hk] at h
   simp only[Bool.not_true,cond_false] at h
   split at h
   rotate_left
   ·cases h
   rename_i s2 rs2 hrun
   simp only[qb,qF] at h
   obtain⟨rfl,rfl⟩:=h
   exact⟨r,rs2,rfl,hr,hk,y0U l (i+1) _ _ _ hrun⟩
def wSlot(ops:List Oper)(rs:List Res)(t:Nat)(i:Nat):Option AVal:=
 match ops[i]?,rs[i]? with
 |some o,some r=>if o.dst=some t then some r.val else none
 |_,_=>none
def wObj(rs:List Res)(id:Nat)(i:Nat):Option (Option Ob):=
 match rs[i]? with
 |some r=>if hasId (wrIds r) id then some (app emp r.wr id) else none
 |none=>none
theorem y3p{S:Store}{wr:List (Nat×Ob)}{id:Nat}(h:id∈wr.map (·.1)):app S wr id=app emp wr id:=y0I (.inl h)
theorem z4A{β:Type}{d:β}{f:Nat->Option β}:∀(k:Nat),look d f (k+1)=look ((f 0).getD d) (fun i=>f (i+1)) k
 |0=>rfl
 |k+1=>by
  rw[look,z4A k]
  rfl
theorem z9P{ops:List Oper}{rs:List Res}{o:Oper}{r:Res}{sl:List (Nat×AVal)}{t:Nat}:
 (wSlot (o::ops) (r::rs) t 0).getD (get sl t)=get (put sl o.dst r.val) t:=by
 rw[y3l]
 simp only[wSlot,zw]
 split<;>simp_all
theorem y2c{rs:List Res}{r:Res}{S:Store}{id:Nat}:(wObj (r::rs) id 0).getD (S id)=app S r.wr id:=by
 simp only[wObj,zw]
 cases h:hasId (wrIds r) id with
 |true=>
  have:=z0E.1 h
  exact(y3p this).symm
 |false=>
  have:id∉wrIds r:=fun hm=>by rw[z0E.2 hm] at h;cases h
  exact(z1o this).symm
theorem z3t{ops:List Oper}{orcs:List (Nat×Orc)}{nx:Nat}:∀(l:List Oper) (i:Nat) (s s':St) (rs:List Res),Trace P ops orcs nx i l s rs s'->
 rs.length=l.length/\((∀t,get s'.sl t=look (get s.sl t) (wSlot l rs t) l.length)/\(∀id,s'.st id=look (s.st id) (wObj rs id) l.length))/\
 ∀(j:Nat) (o:Oper) (r:Res),l[j]? =some o->rs[j]? =some r->∃sj:St,exec1 P ops sj o (nx+8*(i+j)) (orcAt orcs (i+j))=some r/\(r.wr.all fun x=>Nat.blt x.1 (nx+8*(i+j)+8))=true/\
  (∀t,get sj.sl t=look (get s.sl t) (wSlot l rs t) j)/\(∀id,sj.st id=look (s.st id) (wObj rs id) j)
 | [],i,s,s',rs,h=>by
  obtain⟨rfl,rfl⟩:=h
  exact⟨rfl,⟨fun t=>rfl,fun id=>rfl⟩,fun j o r h=>by simp at h⟩
 |o0::l,i,s,s',rs,h=>by
  obtain⟨r0,rs',rfl,he,hk,ht⟩:=h
  obtain⟨ih1,⟨ih3,ih4⟩,ih2⟩:=z3t l (i+1) _ s' rs' ht
  have shS:∀t k,look (get s.sl t) (wSlot (o0::l) (r0::rs') t) (k+1)=look (get (put s.sl o0.dst r0.val) t) (wSlot l rs' t) k:=fun t k=>by
   rw[z4A,z9P]
   exact z1l (fun i _=>by simp[wSlot])
  have shO:∀id k,look (s.st id) (wObj (r0::rs') id) (k+1)=look (app s.st r0.wr id) (wObj rs' id) k:=fun id k=>by
   rw[z4A,y2c]
   exact z1l (fun i _=>by simp[wObj])
  refine⟨by simp[ih1],⟨fun t=>by rw[qi,shS];exact ih3 t,fun id=>by rw[qi,shO];exact ih4 id⟩,fun j o r ho hr=> ?_⟩
  cases j with
  |zero=>
   simp at ho hr
   subst ho;subst hr
   exact⟨s,he,hk,fun t=>rfl,fun id=>rfl⟩
  |succ j=>
   simp at ho hr
   obtain⟨sj,h1,h2,h3,h4⟩:=ih2 j o r ho hr
   exact⟨sj,by rw[show i+(j+1)=i+1+j by omega];exact h1,by rw[show i+(j+1)=i+1+j by omega];exact h2,fun t=>by rw[h3,shS],fun id=>by rw[h4,shO]⟩
def y7a(ops:List Oper)(E:Nat->Bool):Prop:=∀j o,ops[j]? =some o->E j=true->∀e∈o.after.toList,Region.binds .any e=true->E e.on=true
theorem z4U{E:Nat->Bool}{ms:List Nat}(hms:∀(j:Nat),E j=true->∀i,Nat.testBit (ms.getD j 0) i=true->E i=true):∀(es:List Edge) (s0:Nat),(∀i,Nat.testBit s0 i=true->E i=true)->
 (∀e∈es,Region.binds .any e=true->E e.on=true)->∀i,Nat.testBit (es.foldl (fun s e=>bif Region.binds .any e then s|||2^e.on|||ms.getD e.on 0 else s) s0) i=true->E i=true
 | [],s0,h0,_,i,h=>h0 i h
 |e::es,s0,h0,he,i,h=>by
  simp only[List.foldl_cons] at h
  refine z4U hms es _ (fun i hi=> ?_) (fun e' h'=>he e' (by simp[h'])) i h
  cases hb:Region.binds .any e with
  |false=>rw[hb] at hi;exact h0 i hi
  |true=>
   rw[hb] at hi
   simp only[cond_true,Nat.testBit_or,qD,Nat.testBit_two_pow,decide_eq_true_eq] at hi
   have hE:=he e (by simp) hb
   rcases hi with(hi|hi)|hi
   ·exact h0 i hi
   ·rw[<-hi];exact hE
   ·exact hms e.on hE i hi
theorem z7x{E:Nat->Bool}:∀(l:List Oper) (ms:List Nat),(∀(j:Nat),E j=true->∀i,Nat.testBit (ms.getD j 0) i=true->E i=true)->
 (∀(j:Nat) (o:Oper),l[j]? =some o->E (ms.length+j)=true->∀e∈o.after.toList,Region.binds .any e=true->E e.on=true)->
 ∀(j:Nat),E j=true->∀i,Nat.testBit ((masks l ms).getD j 0) i=true->E i=true
 | [],ms,h,_=>h
 |o::l,ms,h,hl=>by
  refine z7x l (ms++[y0A ms o]) (fun j hj i hi=> ?_) (fun j o' ho' hj=> ?_)
  ·by_cases c:j<ms.length
   ·rw[qc,qz c] at hi
    exact h j hj i (by rw[qc];exact hi)
   ·by_cases c2:j=ms.length
    ·subst c2
     rw[qc,qH (qr _)] at hi
     simp only[Nat.sub_self,zw,zx] at hi
     exact z4U h o.after.toList 0 (fun i hi=>by simp at hi) (hl 0 o (by simp) (by simpa using hj)) i hi
    ·rw[qc,zT (by simp;omega)] at hi
     simp at hi
  ·exact hl (j+1) o' (by simpa using ho') (by simp only[qf,zS] at hj;rw[show ms.length+(j+1)=ms.length+1+j by omega];exact hj)
theorem z4V{ops:List Oper}{nid i:Nat}{o:Oper}{r:Res}:∀{l:List Oper} {rs:List Res} {ms:List Nat},z2W ops nid i o r l rs ms=true->
 ∀(q:Nat) (o':Oper) (r':Res),l[q]? =some o'->rs[q]? =some r'->Nat.testBit (ms.getD q 0) i=true\/apart ops nid o o' r r'=true
 | [],_,_,_,q,o',r',h,_=>by simp at h
 |_::_,[],_,_,q,o',r',_,h=>by simp at h
 |o1::l,r1::rs,[],h,_,_,_,_,_=>by simp[z2W] at h
 |o1::l,r1::rs,mk::ms,h,q,o',r',ho,hr=>by
  simp only[z2W,qn,qD] at h
  cases q with
  |zero=>simp at ho hr;subst ho;subst hr;simpa using h.1
  |succ q=>simp at ho hr;simpa using z4V h.2 q o' r' ho hr
theorem z5R{ops:List Oper}{nx:Nat}:∀{k:Nat} {l:List Oper} {rs:List Res} {ms:List Nat},z3J ops nx k l rs ms=true->
 ∀(p q:Nat) (o o':Oper) (r r':Res),p<q->l[p]? =some o->rs[p]? =some r->l[q]? =some o'->rs[q]? =some r'->Nat.testBit (ms.getD q 0) (k+p)=true\/apart ops (nx+8*(k+p)) o o' r r'=true
 |k,[],_,_,_,p,q,o,o',r,r',_,h,_,_,_=>by simp at h
 |k,_::_,[],_,_,p,q,o,o',r,r',_,_,h,_,_=>by simp at h
 |k,_::_,_::_,[],h,_,_,_,_,_,_,_,_,_,_,_=>by simp[z3J] at h
 |k,o1::l,r1::rs,m1::ms,h,p,q,o,o',r,r',hpq,ho,hr,ho',hr'=>by
  simp only[z3J,qn] at h
  cases q with
  |zero=>omega
  |succ q=>
   cases p with
   |zero=>
    simp at ho hr ho' hr';subst ho;subst hr
    simpa using z4V h.1 q o' r' ho' hr'
   |succ p=>
    simp at ho hr ho' hr'
    have:=z5R h.2 p q o o' r r' (by omega) ho hr ho' hr'
    rw[show k+1+p=k+(p+1) by omega] at this
    simpa using this
theorem z5S:∀{k:Nat} {l:List Oper},z3I k l=true->∀(q:Nat) (o:Oper),l[q]? =some o->∀e∈o.after.toList,Region.binds .any e=true->e.on<k+q
 |k,[],_,q,o,h,_,_,_=>by simp at h
 |k,o1::l,h,q,o,ho,e,he,hb=>by
  simp only[z3I,qn] at h
  cases q with
  |zero=>
   simp at ho;subst ho
   have:=qQ.1 h.1 e he
   simp only[hb,Bool.not_true,Bool.false_or] at this
   exact zd (qx this)
  |succ q=>
   simp at ho
   have:=z5S h.2 q o ho e he hb
   omega
section
variable (ops:List Oper) (rs:List Res) (s:St)
def slE(E:Nat->Bool)(t:Nat):AVal:=look (get s.sl t) (fun i=>bif E i then wSlot ops rs t i else none) ops.length
def stE(E:Nat->Bool)(id:Nat):Option Ob:=look (s.st id) (fun i=>bif E i then wObj rs id i else none) ops.length
structure RelE(F:Fen P)(N:Nat)(ds:List Deferred)(m0:Place)(w0:World)(E:Nat->Bool)(a:Act)(w:World):Prop where
 ex:∃m,(∀t,VRel (stE ops rs s E) m w (okB F (stE ops rs s E) m w) (slE ops rs s E t) (a.tmps.getD t undef))/\SRel F (stE ops rs s E) m w/\FrameExt F s.st m0 w0 (stE ops rs s E) m w
 size:a.tmps.size=N
 defers:a.defers=ds
end
theorem z3c{ops:List Oper}{rs:List Res}{t j:Nat}(h:∀o,ops[j]? =some o->o.dst≠some t):wSlot ops rs t j=none:=by
 unfold wSlot
 split
 ·rename_i o r ho hr
  rw[if_neg (h o ho)]
 ·rfl
theorem z2u{rs:List Res}{id j:Nat}(h:∀r,rs[j]? =some r->id∉wrIds r):wObj rs id j=none:=by
 unfold wObj
 split
 ·rename_i r hr
  have:hasId (wrIds r) id=false:=by
   cases hh:hasId (wrIds r) id with
   |false=>rfl
   |true=>exact absurd (z0E.1 hh) (h r hr)
  rw[this];rfl
 ·rfl
theorem z6K{a b:List Nat}(h:metL a b=false){i:Nat}(ha:i∈a):i∉b:=by
 intro hb
 unfold metL at h
 have:=List.any_eq_false.1 h i ha
 rw[z0E.2 hb] at this
 exact this rfl
structure Apart(ops:List Oper)(nid:Nat)(o o':Oper)(r r':Res):Prop where
 d1:∀d,o.dst=some d->d∉looks ops o'/\o'.dst≠some d
 d2:∀d,o'.dst=some d->d∉looks ops o
 w1:∀i∈wrIds r,i∉r'.need/\i∉wrIds r'
 w2:∀i∈wrIds r',i∉r.need
 w3:∀i∈wrIds r',¬(nid<=i/\i<nid+8)
theorem y2d{ops:List Oper}{nid:Nat}{o o':Oper}{r r':Res}(h:apart ops nid o o' r r'=true):Apart ops nid o o' r r':=by
 unfold apart at h
 simp only[Bool.and_eq_true,Bool.not_eq_true'] at h
 obtain⟨⟨⟨⟨h1,h2⟩,h3⟩,h4⟩,h5⟩:=h
 refine⟨fun d hd=> ?_,fun d hd=> ?_,fun i hi=> ?_,fun i hi=>z6K h4 hi,fun i hi hlt=> ?_⟩
 ·rw[hd] at h1
  simp only[Bool.or_eq_false_iff] at h1
  refine⟨fun hm=>(by rw[z0E.2 hm] at h1;cases h1.1),fun he=> ?_⟩
  rw[he] at h1
  simp at h1
 ·rw[hd] at h2
  simp only at h2
  exact fun hm=>(by rw[z0E.2 hm] at h2;cases h2)
 ·have:=z6K h3 hi
  simp only[List.mem_append,not_or] at this
  exact this
 ·have:=List.any_eq_false.1 h5 i hi
  simp only[Bool.and_eq_true,not_and] at this
  exact this (Nat.ble_eq_true_of_le hlt.1) (Nat.ble_eq_true_of_le hlt.2)
theorem y3q{ops:List Oper}{orcs:List (Nat×Orc)}{s s':St}{rs:List Res}{N:Nat}{ds:List Deferred}{m0:Place}{w0:World}(htr:Trace P ops orcs s.nx 0 ops s rs s')(hd:ops.all (dstOk N)=true)(hok:z6A ops s.nx rs=true)(hC:All (allC rs))
 (hfresh:∀id,s.nx<=id->s.st id=none) {E:Nat->Bool} (hlt:∀j,E j=true->j<ops.length) (hcl:y7a ops E) {i:Nat} {oi:Oper} (hi:ops[i]? =some oi) (hEi:E i=false)
 (hpre:∀e∈oi.after.toList,Region.binds .any e=true->E e.on=true) {a:Act} {w:World} (hrel:RelE ops rs s F N ds m0 w0 E a w) (hs0:SRel F s.st m0 w0) {Q:Exit->Act->World->Prop} {K:Act->World->Prop}
 (hK:∀a' w',RelE ops rs s F N ds m0 w0 (fun j=>bif Nat.beq j i then true else E j) a' w'->K a' w'):wpOpIn (fw F) 0 P ops.toArray Q i K a w:=by
 obtain⟨hlen,-,hst⟩:=z3t ops 0 s s' rs htr
 have hil:i<ops.length:=(List.getElem?_eq_some_iff.1 hi).1
 have hri:rs[i]? =some rs[i]:=List.getElem?_eq_getElem (by omega)
 generalize hr:rs[i]=ri at hri
 obtain⟨si,hex,hwlt,hsl,hso⟩:=hst i oi ri hi hri
 rw[Nat.zero_add] at hex hwlt
 have hallr:∀(q:Nat) (o:Oper) (r:Res),ops[q]? =some o->rs[q]? =some r->(r.wr.all fun x=>Nat.blt x.1 (s.nx+8*q+8))=true:=fun q o r ho hr=>by
  obtain⟨_,_,h,_⟩:=hst q o r ho hr
  rwa [Nat.zero_add] at h
 unfold z6A at hok
 simp only[Bool.and_eq_true] at hok
 have mk1:∀j,E j=true->∀k,Nat.testBit ((masks ops []).getD j 0) k=true->E k=true:=
  z7x ops [] (fun j hj k hk=>by simp at hk) (fun j o ho hj e he hb=>hcl j o ho (by simpa using hj) e he hb)
 have mk2:∀k,k≠i->Nat.testBit ((masks ops []).getD i 0) k=true->E k=true:=by
  intro k hki hk
  have:=z7x (E:=fun j=>bif Nat.beq j i then true else E j) ops [] (fun j hj k hk=>by simp at hk) (fun j o ho hj e he hb=>by
   simp only[List.length_nil,Nat.zero_add] at hj
   by_cases c:j=i
   ·subst c
    rw[hi] at ho;cases ho
    have h1:=hpre e he hb
    simp only[h1]
    cases Nat.beq e.on j<;>rfl
   ·simp only[z0O c,cond_false] at hj
    have h1:=hcl j o ho hj e he hb
    simp only[h1]
    cases Nat.beq e.on i<;>rfl) i (by simp) k hk
  simp only[z0O hki,cond_false] at this;exact this
 have ap:∀p q o o' r r',p<q->ops[p]? =some o->rs[p]? =some r->ops[q]? =some o'->rs[q]? =some r'->Nat.testBit ((masks ops []).getD q 0) p=false->Apart ops (s.nx+8*p) o o' r r':=by
  intro p q o o' r r' hpq ho hr ho' hr' hb
  have:=z5R hok.2 p q o o' r r' hpq ho hr ho' hr'
  rw[Nat.zero_add] at this
  rcases this with h|h
  ·rw[hb] at h;cases h
  ·exact y2d h
 have later:∀j o r,i<j->E j=true->ops[j]? =some o->rs[j]? =some r->Apart ops (s.nx+8*i) oi o ri r:=fun j o r hij hEj ho hr=>ap i j oi o ri r hij hi hri ho hr (by
  cases hh:Nat.testBit ((masks ops []).getD j 0) i with
  |false=>rfl
  |true=>have:=mk1 j hEj i hh;rw[hEi] at this;cases this)
 have earlier:∀j o r,j<i->E j=false->ops[j]? =some o->rs[j]? =some r->Apart ops (s.nx+8*j) o oi r ri:=fun j o r hji hEj ho hr=>ap j i o oi r ri hji ho hr hi hri (by
  cases hh:Nat.testBit ((masks ops []).getD i 0) j with
  |false=>rfl
  |true=>have:=mk2 j (by omega) hh;rw[hEj] at this;cases this)
 have rsome:∀j,j<ops.length->∃o r,ops[j]? =some o/\rs[j]? =some r:=fun j hj=>⟨ops[j],rs[j],List.getElem?_eq_getElem hj,List.getElem?_eq_getElem (by omega)⟩
 obtain⟨⟨m,hv,hS,hF⟩,hsz,hdf⟩:=hrel
 have e1:∀t∈looks ops oi,slE ops rs s E t=get si.sl t:=by
  intro t ht
  rw[hsl]
  unfold slE
  rw[z2t (i:=i) (Nat.le_of_lt hil) (fun j hij hjn=>by
   by_cases c:j=i
   ·subst c;rw[hEi];rfl
   ·cases hEj:E j with
    |false=>rfl
    |true=>
     obtain⟨o,r,ho,hr⟩:=rsome j hjn
     have:=later j o r (by omega) hEj ho hr
     exact z3c (fun o' ho' he=>by rw[ho] at ho';cases ho';exact this.d2 t he ht))]
  refine z1l (fun j hji=> ?_)
  cases hEj:E j with
  |true=>rfl
  |false=>
   obtain⟨o,r,ho,hr⟩:=rsome j (by omega)
   have:=earlier j o r hji hEj ho hr
   exact(z3c (fun o' ho' he=>by rw[ho] at ho';cases ho';exact(this.d1 t he).1 ht)).symm
 have e2:∀id∈ri.need,si.st id=stE ops rs s E id:=by
  intro id hid
  rw[hso]
  unfold stE
  rw[z2t (k:=ops.length) (i:=i) (Nat.le_of_lt hil) (fun j hij hjn=>by
   by_cases c:j=i
   ·subst c;rw[hEi];rfl
   ·cases hEj:E j with
    |false=>rfl
    |true=>
     obtain⟨o,r,ho,hr⟩:=rsome j hjn
     have:=later j o r (by omega) hEj ho hr
     exact z2u (fun r' hr' hm=>by rw[hr] at hr';cases hr';exact this.w2 id hm hid))]
  refine(z1l (fun j hji=> ?_)).symm
  cases hEj:E j with
  |true=>rfl
  |false=>
   obtain⟨o,r,ho,hr⟩:=rsome j (by omega)
   have:=earlier j o r hji hEj ho hr
   exact(z2u (fun r' hr' hm=>by rw[hr] at hr';cases hr';exact(this.w1 id hm).1 hid)).symm
 have e3:∀id,s.nx+8*i<=id->id<s.nx+8*i+8->stE ops rs s E id=none:=by
  intro id h1 h2
  unfold stE
  rw[z2t (i:=0) (Nat.zero_le _) (fun j _ hjn=>by
   cases hEj:E j with
   |false=>rfl
   |true=>
    obtain⟨o,r,ho,hr⟩:=rsome j hjn
    refine z2u (fun r' hr' hm=> ?_)
    rw[hr] at hr';cases hr'
    have hji:j≠i:=fun e=>by subst e;rw[hEi] at hEj;cases hEj
    by_cases c:j<i
    ·obtain⟨x,hx,rfl⟩:=List.mem_map.1 hm
     have:=Nat.lt_of_succ_le (Nat.le_of_ble_eq_true (List.all_eq_true.1 (hallr j o r ho hr) x hx))
     omega
    ·exact(later j o r (by omega) hEj ho hr).w3 id hm ⟨h1,h2⟩)]
  exact hfresh id (by omega)
 have e4:app (stE ops rs s E) ri.wr=stE ops rs s (fun j=>bif Nat.beq j i then true else E j):=by
  funext id
  by_cases hm:id∈wrIds ri
  ·rw[y3p hm]
   unfold stE
   refine(y0T hil (by simp[wObj,hri,z0E.2 hm]) (fun j hij hjn=> ?_)).symm
   simp only[z0O (by omega:j≠i),cond_false]
   cases hEj:E j with
   |false=>rfl
   |true=>
    obtain⟨o,r,ho,hr⟩:=rsome j hjn
    have:=later j o r hij hEj ho hr
    exact z2u (fun r' hr' hm'=>by rw[hr] at hr';cases hr';exact(this.w1 id hm).2 hm')
  ·rw[z1o hm]
   unfold stE
   refine z1l (fun j hjn=> ?_)
   by_cases c:j=i
   ·subst c
    rw[hEi]
    simp only[cond_false,Nat.beq_refl,cond_true]
    exact(z2u (fun r' hr' hm'=>by rw[hri] at hr';cases hr';exact hm hm')).symm
   ·simp only[z0O c,cond_false]
 have e5:∀t,slE ops rs s (fun j=>bif Nat.beq j i then true else E j) t=if oi.dst=some t then ri.val else slE ops rs s E t:=by
  intro t
  by_cases hm:oi.dst=some t
  ·rw[if_pos hm]
   unfold slE
   refine y0T hil (by simp[wSlot,hi,hri,hm]) (fun j hij hjn=> ?_)
   simp only[z0O (by omega:j≠i),cond_false]
   cases hEj:E j with
   |false=>rfl
   |true=>
    obtain⟨o,r,ho,hr⟩:=rsome j hjn
    have:=later j o r hij hEj ho hr
    exact z3c (fun o' ho' he=>by rw[ho] at ho';cases ho';exact(this.d1 t hm).2 he)
  ·rw[if_neg hm]
   unfold slE
   refine z1l (fun j hjn=> ?_)
   by_cases c:j=i
   ·subst c
    rw[hEi]
    simp only[cond_false,Nat.beq_refl,cond_true]
    exact z3c (fun o' ho' he=>by rw[hi] at ho';cases ho';exact hm he)
   ·simp only[z0O c,cond_false]
 have hCi:All ri.cnd:=by
  have:∀(l:List Res) (q:Nat) (r:Res),All (allC l)->l[q]? =some r->All r.cnd:=by
   intro l
   induction l with
   |nil=>intro q r _ h;simp at h
   |cons r0 l ih=>
    intro q r h hq
    simp only[allC] at h
    rw[z0C] at h
    cases q with
    |zero=>simp at hq;subst hq;exact h.1
    |succ q=>simp at hq;exact ih q r h.2 hq
  exact this rs i ri hC hri
 unfold wpOpIn
 have hai:ops.toArray[i]? =some oi:=by simpa using hi
 simp only[hai]
 refine y0Q hex hCi e2 hS (fun id h1 h2=>e3 id h1 h2) (fun t ht=>by rw[<-e1 t ht];exact hv t) (fun v w' m' k1 k2 k3=> ?_)
 rw[e4] at k1 k2 k3
 refine hK _ _ ⟨⟨m',fun t=> ?_,k1,hF.trans hs0 k2⟩,by rw[y0R];exact hsz,by rw[z6J];exact hdf⟩
 rw[e5,y0S _ _ _ _ (fun d hd'=>by
  have:=List.all_eq_true.1 hd oi (List.mem_of_getElem? hi)
  unfold dstOk at this
  rw[hd'] at this
  rw[hsz];exact Nat.lt_of_succ_le (Nat.le_of_ble_eq_true this))]
 split
 ·exact k3
 ·exact k2.val (hv t)
def z01(n:Nat)(listed:Array Bool):Nat->Bool:=fun j=>Nat.blt j n&&listed.getD j false
theorem y2e{ops:List Oper}{orcs:List (Nat×Orc)}{s s':St}{rs:List Res}{N:Nat}{ds:List Deferred}{m0:Place}{w0:World}(htr:Trace P ops orcs s.nx 0 ops s rs s')(hd:ops.all (dstOk N)=true)(hok:z6A ops s.nx rs=true)(hC:All (allC rs))
 (hfresh:∀id,s.nx<=id->s.st id=none) (hs0:SRel F s.st m0 w0) {Q:Exit->Act->World->Prop} (hQ:∀E a w,(∀j,j<ops.length->E j=true)->RelE ops rs s F N ds m0 w0 E a w->Q .normal a w):
 ∀(fuel:Nat) (listed:Array Bool) (a:Act) (w:World),listed.size=ops.length->listed.toList.count false=fuel->y7a ops (z01 ops.length listed)->RelE ops rs s F N ds m0 w0 (z01 ops.length listed) a w->
  wpAnyIn (fw F) 0 P .any ops.toArray Q fuel listed a w:=by
 have hedge:z3I 0 ops=true:=by
  unfold z6A at hok
  simp only[Bool.and_eq_true] at hok
  exact hok.1
 have hget:∀(listed:Array Bool) (j:Nat),listed.size=ops.length->j<ops.length->listed.getD j true=z01 ops.length listed j:=by
  intro listed j hl hj
  have h1:Nat.blt j ops.length=true:=Nat.ble_eq_true_of_le hj
  have h2:j<listed.size:=by omega
  simp[z01,h1,h2]
 have ready_mem:∀(listed:Array Bool) (i:Nat),listed.size=ops.length->(i∈Region.ready .any ops.toArray listed↔
  ∃o,ops[i]? =some o/\z01 ops.length listed i=false/\∀e∈o.after.toList,Region.binds .any e=true->z01 ops.length listed e.on=true):=by
  intro listed i hl
  unfold Region.ready
  simp only[List.mem_filter,List.mem_range,List.size_toArray,Bool.and_eq_true,Bool.not_eq_true']
  constructor
  ·rintro⟨h1,h2,h3⟩
   rw[hget listed i hl h1] at h2
   refine⟨ops[i],List.getElem?_eq_getElem h1,h2,fun e he hb=> ?_⟩
   simp only[List.getElem?_toArray,List.getElem?_eq_getElem h1,Option.map_some,Option.getD_some,Array.all_eq_true',Bool.or_eq_true,Bool.not_eq_true'] at h3
   have h4:=h3 e (by simpa using he)
   rw[hb] at h4
   have h5:=h4.resolve_left (by simp)
   have h6:e.on<listed.size:=by
    rcases Nat.lt_or_ge e.on listed.size with h|h
    ·exact h
    ·simp[Array.getElem?_eq_none h] at h5
   have h7:Nat.blt e.on ops.length=true:=Nat.ble_eq_true_of_le (by omega)
   simp only[z01,h7,Bool.true_and]
   exact h5
  ·rintro⟨o,h1,h2,h3⟩
   have hi:i<ops.length:=(List.getElem?_eq_some_iff.1 h1).1
   refine⟨hi,by rw[hget listed i hl hi];exact h2,?_⟩
   simp only[List.getElem?_toArray,h1,Option.map_some,Option.getD_some,Array.all_eq_true',Bool.or_eq_true,Bool.not_eq_true']
   intro e he
   cases hb:Region.binds .any e with
   |false=>exact .inl rfl
   |true=>
    right
    have:=h3 e (by simpa using he) hb
    simp only[z01,Bool.and_eq_true] at this
    exact this.2
 have allDone:∀(listed:Array Bool),listed.size=ops.length->Region.ready .any ops.toArray listed=[]->∀j,j<ops.length->z01 ops.length listed j=true:=by
  intro listed hl hr j
  induction j using Nat.strongRecOn with
  |_ j ih=>
   intro hj
   cases hh:z01 ops.length listed j with
   |true=>rfl
   |false=>
    have:j∈Region.ready .any ops.toArray listed:=(ready_mem listed j hl).2 ⟨ops[j],List.getElem?_eq_getElem hj,hh,fun e he hb=>by
     have:=z5S hedge j ops[j] (List.getElem?_eq_getElem hj) e he hb
     rw[Nat.zero_add] at this
     exact ih e.on this (by omega)⟩
    rw[hr] at this
    cases this
 intro fuel
 induction fuel with
 |zero=>
  intro listed a w hl hcnt hcl hrel
  have hall:∀j,j<ops.length->z01 ops.length listed j=true:=by
   intro j hj
   rw[<-hget listed j hl hj]
   have hjl:j<listed.size:=by omega
   cases hh:listed.getD j true with
   |true=>rfl
   |false=>
    have hm:false∈listed.toList:=by
     have:listed[j]=false:=by simpa[hjl] using hh
     rw[<-this]
     simp
    have:=List.count_pos_iff.2 hm
    omega
  refine⟨?_,hQ _ a w hall hrel⟩
  cases hr:Region.ready .any ops.toArray listed with
  |nil=>rfl
  |cons i l=>
   have:i∈Region.ready .any ops.toArray listed:=by rw[hr];simp
   obtain⟨o,h1,h2,_⟩:=(ready_mem listed i hl).1 this
   have:=hall i (List.getElem?_eq_some_iff.1 h1).1
   rw[h2] at this;cases this
 |succ fuel ih=>
  intro listed a w hl hcnt hcl hrel
  refine⟨fun hr=>hQ _ a w (allDone listed hl hr) hrel,fun i hi=> ?_⟩
  obtain⟨o,h1,h2,h3⟩:=(ready_mem listed i hl).1 hi
  have hil:i<ops.length:=(List.getElem?_eq_some_iff.1 h1).1
  have hset:z01 ops.length (listed.setIfInBounds i true)=fun j=>bif Nat.beq j i then true else z01 ops.length listed j:=by
   funext j
   by_cases c:j=i
   ·subst c
    have h4:Nat.blt j ops.length=true:=Nat.ble_eq_true_of_le hil
    simp[z01,h4,hl,hil]
   ·rw[z0O c]
    simp[z01,Array.getElem?_setIfInBounds_ne (Ne.symm c)]
  refine y3q htr hd hok hC hfresh (fun j hj=> ?_) hcl h1 h2 h3 hrel hs0 (fun a' w' hr'=> ?_)
  ·simp only[z01,Bool.and_eq_true] at hj
   exact Nat.lt_of_succ_le (Nat.le_of_ble_eq_true hj.1)
  ·refine ih _ a' w' (by simpa using hl) ?_ ?_ (by rw[hset];exact hr')
   ·have hil':i<listed.toList.length:=by simp;omega
    have hli:listed.toList[i]=false:=by
     have:=hget listed i hl hil
     rw[h2] at this
     have hjl:i<listed.size:=by omega
     simpa[hjl] using this
    rw[Array.toList_setIfInBounds,List.count_set hil',hli,hcnt]
    simp
   ·rw[hset]
    intro j o' ho' hj e he hb
    by_cases c:j=i
    ·subst c
     rw[h1] at ho';cases ho'
     have:=h3 e he hb
     simp only[this]
     cases Nat.beq e.on j<;>rfl
    ·simp only[z0O c,cond_false] at hj
     have:=hcl j o' ho' hj e he hb
     simp only[this]
     cases Nat.beq e.on i<;>rfl
theorem y3r{n:Nat}{ops:List Oper}{orcs:List (Nat×Orc)}{keys:List Nat}{s s':St}{C:List Prop}(hm:P.follows .mixedOrders=true)(h:runR P n ops true orcs keys s=some (s',C))(hC:All C){m:Place}{a:Act}{w:World}(hs:Rel F n s m a w)
 {Q:Exit->Act->World->Prop} (hQ:∀m' a' w',Rel F n s' m' a' w'->FrameExt F s.st m w s'.st m' w'->Q .normal a' w') (id:Nat):(Code.region id ops.toArray true).wpIn (fw F) 0 P Q a w:=by
 unfold runR at h
 split at h
 rotate_left
 ·cases h
 rename_i s2 rs hrun
 obtain⟨h1,h2⟩:=z0j h
 simp only[Bool.and_eq_true,Bool.not_true,Bool.false_or] at h1
 simp only[Option.some.injEq,Prod.mk.injEq] at h2
 obtain⟨rfl,rfl⟩:=h2
 have htr:=y0U ops 0 s s2 rs hrun
 obtain⟨hlen,⟨hfs,hfo⟩,hsj⟩:=z3t ops 0 s s2 rs htr
 refine wpIn_region_any hm ?_
 have hdr:FrameExt F s.st m w s.st m w.drew:=⟨rfl,rfl,rfl,Nat.le_refl _,fun _ _ _=>rfl,fun id o h=>⟨o,h,Nat.le_refl _,fun _=>rfl,fun h=>h,fun _ q=> .inl q,o.same_refl⟩,fun id o h h'=>by rw[h'] at h;cases h⟩
 have hsz:ops.toArray.size=ops.length:=by simp
 have hE0:∀j,z01 ops.length (Array.replicate ops.length false) j=false:=by
  intro j
  simp only[z01]
  cases hb:Nat.blt j ops.length with
  |false=>rfl
  |true=>
   have:j<ops.length:=Nat.lt_of_succ_le (Nat.le_of_ble_eq_true hb)
   simp[this]
 have l0:∀{β:Type} (d:β) (f:Nat->Option β) k,(∀j,j<k->f j=none)->look d f k=d:=fun d f k hf=>z2t (i:=0) (Nat.zero_le _) (fun j _ hj=>hf j hj)
 have hst0:stE ops rs s (z01 ops.length (Array.replicate ops.length false))=s.st:=by
  funext id
  exact l0 _ _ _ (fun j _=>by rw[hE0];rfl)
 have hsl0:∀t,slE ops rs s (z01 ops.length (Array.replicate ops.length false)) t=get s.sl t:=fun t=>l0 _ _ _ (fun j _=>by rw[hE0];rfl)
 have key:=y2e (P:=P) (F:=F) (N:=n) (ds:=a.defers) (m0:=m) (w0:=w) (Q:=Q) htr h1.1 h1.2 hC hs.fresh hs.srel (fun E a' w' hE hr=>by
  obtain⟨⟨m',q1,q2,q3⟩,q4,q5⟩:=hr
  have hst:stE ops rs s E=s2.st:=by
   funext id
   rw[hfo id]
   exact z1l (fun j hj=>by rw[hE j hj];rfl)
  have hsl:∀t,slE ops rs s E t=get s2.sl t:=fun t=>by
   rw[hfs t]
   exact z1l (fun j hj=>by rw[hE j hj];rfl)
  rw[hst] at q1 q2 q3
  refine hQ m' a' w' ⟨z1k.keep (fun t=>by rw[<-hsl t];exact q1 t) keys,q4,by rw[q5];exact hs.defers.ext q3,q2,fun id hid=> ?_⟩ q3
  simp only at hid|-
  rw[hfo id]
  rw[l0 _ _ _ (fun j hj=> ?_)]
  ·exact hs.fresh id (by omega)
  ·refine z2u (fun r hr hmem=> ?_)
   obtain⟨sj,_,hw,_⟩:=hsj j ops[j] r (List.getElem?_eq_getElem hj) hr
   obtain⟨x,hx,rfl⟩:=List.mem_map.1 hmem
   have:=Nat.lt_of_succ_le (Nat.le_of_ble_eq_true (List.all_eq_true.1 hw x hx))
   omega) ops.length (Array.replicate ops.length false) a {w with drawn:=w.drawn+1} (by simp) (by simp) (fun j o ho hj=>by rw[hE0] at hj;cases hj) ?_
 ·rw[hsz];exact key
 ·refine⟨⟨m,fun t=> ?_,?_,?_⟩,hs.size,rfl⟩
  ·rw[hst0,hsl0]
   exact hdr.val (hs.slots t)
  ·rw[hst0]
   exact⟨fun id o h=>(hs.srel.objs id o h).persist hdr (fun _ _=>rfl),hs.srel.inj,hs.srel.avoid,hs.srel.lt,hs.srel.low,hs.srel.held hdr⟩
  ·rw[hst0];exact hdr
end Go.Ab
end
section
namespace Go.Ab
variable {P:Program} {w:World} {F:Fen P} {S st:Store} {m:Place}
def lk:List (Nat×Nat)->Nat->Option Nat
 | [],_=>none
 | (i,j)::l,x=>bif Nat.beq i x then some j else lk l x
mutual
def renV (τ : List (Nat × Nat)) : AVal -> Option AVal
  | .t T => some (.t T)
  | .row id n => (lk τ id).map (.row · n)
  | .ptr id off => (lk τ id).map (.ptr · off)
  | .eptr id n i sub => (lk τ id).map (.eptr · n i sub)
  | .cptr cs => some (.cptr cs)
  | .agg cs => (renL τ cs).map .agg
  | .fn f cap => (renL τ cap).map (.fn f)
  | .tup vs => (renL τ vs).map .tup
  | .cond c v => (renV τ v).map (.cond c)
  | .mat id => (lk τ id).map .mat
  | .mptr id i => (lk τ id).map (.mptr · i)
  | .anyB => some .anyB
  | .ifc => some .ifc
  | .tail id n i => (lk τ id).map (.tail · n i)
  | .hdl id => (lk τ id).map .hdl
  | .xl k xs => some (.xl k xs)
  | .yl id => (lk τ id).map .yl
  | .bsl id n => (lk τ id).map (.bsl · n)
  | .junk => some .junk
def renL(τ:List (Nat×Nat)):List AVal->Option (List AVal)
 | []=>some []
 |v::l=>match renV τ v,renL τ l with
  |some v',some l'=>some (v'::l')
  |_,_=>none
end
def renO(τ:List (Nat×Nat)):Ob->Option Ob
 | .box cs=>(renL τ cs).map .box
 | .row k fz xs=>some (.row k fz xs)
 | .mat fz xs none=>some (.mat fz xs none)
 | .mat fz xs (some (i,r,n))=>(lk τ r).map fun j=> .mat fz xs (some (i,j,n))
 | .gone=>some .gone
 | .siter s pos=>some (.siter s pos)
 | .mp es none=>some (.mp es none)
 | .mp es (some (k,v))=>(renV τ v).map fun v'=> .mp es (some (k,v'))
 | .miter mid n seen=>(lk τ mid).map fun j=> .miter j n seen
 | .ext Y pre=>some (.ext Y pre)
theorem z9Q{τ:List (Nat×Nat)}{es:List (Int×MV)}{h:Option (Int×AVal)}{o':Ob}(ho:renO τ (.mp es h)=some o'):∃h',o'= .mp es h':=by
 cases h with
 |none=>simp only[renO,qb] at ho;exact⟨none,ho.symm⟩
 |some q=>
  obtain⟨k,v⟩:=q
  simp only[renO,qe] at ho
  obtain⟨v',_,rfl⟩:=ho
  exact⟨_,rfl⟩
theorem y5P{τ:List (Nat×Nat)}{o o':Ob}{b:Nat}{u:Value}(ho:renO τ o=some o')(hu:z3E o b=some u):z3E o' b=some u:=by
 cases o with
 |siter s pos=>simp only[renO,qb] at ho;subst ho;exact hu
 |mp es h=>obtain⟨h',rfl⟩:=z9Q ho;exact hu
 |miter mid n s=>simp only[renO,qe] at ho;obtain⟨j,_,rfl⟩:=ho;exact hu
 |_=>simp[z3E] at hu
theorem z7y{τ:List (Nat×Nat)}{fz:Bool}{xs:List Tree}{hh:Option (Nat×Nat×Nat)}{o':Ob}(h:renO τ (.mat fz xs hh)=some o'):∃hh',o'= .mat fz xs hh':=by
 cases hh with
 |none=>simp only[renO,qb] at h;exact⟨none,h.symm⟩
 |some q=>
  obtain⟨i,r,n⟩:=q
  simp only[renO,qe] at h
  obtain⟨j,_,rfl⟩:=h
  exact⟨_,rfl⟩
def z0p(τ:List (Nat×Nat))(st:Store):List (Nat×Nat)->Option (List (Nat×Ob))
 | []=>some []
 | (i,j)::l=>match st i with
  |some o=>match renO τ o,z0p τ st l with
   |some o',some r=>some ((j,o')::r)
   |_,_=>none
  |none=>none
def z3Q(τ:List (Nat×Nat))(sl:List (Nat×AVal)):List Nat->Option (List (Nat×AVal))
 | []=>some []
 |k::l=>match renV τ (get sl k),z3Q τ sl l with
  |some v,some r=>some ((k,v)::r)
  |_,_=>none
def z1L:List Nat->Bool
 | []=>true
 |i::l=> !(hasId l i)&&z1L l
def renSt(l0:List (Nat×Ob))(τ:List (Nat×Nat))(keys:List Nat)(nx:Nat)(s:St):Option (List (Nat×AVal)×List (Nat×Ob)):=
 bif z1L (τ.map (·.1))&&z1L (τ.map (·.2))&&τ.all (fun p=>Nat.blt p.2 nx)&&l0.all (fun x=>match lk τ x.1 with|some j=>Nat.beq j x.1|none=>false) then
  match z0p τ s.st τ,z3Q τ s.sl keys with
  |some l,some sl=>some (sl,l)
  |_,_=>none
 else none
theorem z8C:∀{τ:List (Nat×Nat)} {i j:Nat},lk τ i=some j->(i,j)∈τ
 | [],i,j,h=>by simp[lk] at h
 | (a,b)::τ,i,j,h=>by
  simp only[lk] at h
  by_cases e:a=i
  ·subst e;simp at h;subst h;simp
  ·rw[z0O e] at h
   exact qC _ (z8C h)
def Ren(τ:List (Nat×Nat))(st st':Store)(m m':Place):Prop:=∀i j,lk τ i=some j->∀o,st i=some o->(∃o',renO τ o=some o'/\st' j=some o')/\m' j=m i
theorem z11{τ:List (Nat×Nat)}:∀{l l':List AVal},renL τ l=some l'->l'.length=l.length/\∀(i:Nat) (v':AVal),l'[i]? =some v'->∃v,l[i]? =some v/\renV τ v=some v'
 | [],l',h=>by
  simp only[renL,qb] at h
  subst h
  exact⟨rfl,fun i v' h=>by simp at h⟩
 |v::l,l',h=>by
  simp only[renL] at h
  split at h
  rotate_left
  ·cases h
  rename_i v1 l1 h1 h2
  simp only[qb] at h
  subst h
  obtain⟨k1,k2⟩:=z11 h2
  refine⟨by simp[k1],fun i v' hv=> ?_⟩
  cases i with
  |zero=>simp at hv;subst hv;exact⟨v,rfl,h1⟩
  |succ i=>simp at hv;simpa using k2 i v' hv
theorem VRel.ren{τ:List (Nat×Nat)}{st':Store}{m':Place}{ok ok':Nat->Prop}(hR:Ren τ S st' m m')(hok:∀b,ok b->ok' b){v:AVal}{u:Value}(h:VRel S m w ok v u):
 ∀{v':AVal},renV τ v=some v'->VRel st' m' w ok' v' u:=by
 induction h with
 |t T u hT=>intro v' h;simp only[renV,qb] at h;subst h;exact .t T u (hT.mono hok (fun _ _ _ _ h=>h))
 |xl k xs u hT hc=>intro v' h;simp only[renV,qb] at h;subst h;exact .xl k xs u (hT.mono hok (fun _ _ _ _ h=>h)) hc
 |row id n k fz xs L h1 h2 h3=>
  intro v' h
  simp only[renV,qe] at h
  obtain⟨j,hj,rfl⟩:=h
  obtain⟨⟨o',ho',hs⟩,hm⟩:=hR id j hj _ h1
  simp only[renO,qb] at ho'
  subst ho'
  exact .row j n k fz xs L hs h2 (fun e=>by rw[hm];exact h3 e)
 |ptr id off cs b h1 h2=>
  intro v' h
  simp only[renV,qe] at h
  obtain⟨j,hj,rfl⟩:=h
  obtain⟨⟨o',ho',hs⟩,hm⟩:=hR id j hj _ h1
  simp only[renO,qe] at ho'
  obtain⟨cs',_,rfl⟩:=ho'
  exact .ptr j off cs' b hs (by rw[hm];exact h2)
 |bsl id n cs b h1 h2=>
  intro v' h
  simp only[renV,qe] at h
  obtain⟨j,hj,rfl⟩:=h
  obtain⟨⟨o',ho',hs⟩,hm⟩:=hR id j hj _ h1
  simp only[renO,qe] at ho'
  obtain⟨cs',_,rfl⟩:=ho'
  exact .bsl j n cs' b hs (by rw[hm];exact h2)
 |bslG id n L h1=>
  intro v' h
  simp only[renV,qe] at h
  obtain⟨j,hj,rfl⟩:=h
  obtain⟨⟨o',ho',hs⟩,hm⟩:=hR id j hj _ h1
  simp only[renO,qb] at ho'
  subst ho'
  exact .bslG j n L hs
 |eptr id n i sub k fz xs b h1 h2 h3=>
  intro v' h
  simp only[renV,qe] at h
  obtain⟨j,hj,rfl⟩:=h
  obtain⟨⟨o',ho',hs⟩,hm⟩:=hR id j hj _ h1
  simp only[renO,qb] at ho'
  subst ho'
  exact .eptr j n i sub k fz xs b hs h2 (fun e=>by rw[hm];exact h3 e)
 |mat id fz xs hh L h1 h2=>
  intro v' h
  simp only[renV,qe] at h
  obtain⟨j,hj,rfl⟩:=h
  obtain⟨⟨o',ho',hs⟩,hm⟩:=hR id j hj _ h1
  obtain⟨hh',rfl⟩:=z7y ho'
  exact .mat j fz xs hh' L hs (by rw[hm];exact h2)
 |mptr id i fz xs hh b h1 h2=>
  intro v' h
  simp only[renV,qe] at h
  obtain⟨j,hj,rfl⟩:=h
  obtain⟨⟨o',ho',hs⟩,hm⟩:=hR id j hj _ h1
  obtain⟨hh',rfl⟩:=z7y ho'
  exact .mptr j i fz xs hh' b hs (by rw[hm];exact h2)
 |rowG id n L h1=>
  intro v' h
  simp only[renV,qe] at h
  obtain⟨j,hj,rfl⟩:=h
  obtain⟨⟨o',ho',hs⟩,hm⟩:=hR id j hj _ h1
  simp only[renO,qb] at ho'
  subst ho'
  exact .rowG j n L hs
 |eptrG id n i sub b o h1=>
  intro v' h
  simp only[renV,qe] at h
  obtain⟨j,hj,rfl⟩:=h
  obtain⟨⟨o',ho',hs⟩,hm⟩:=hR id j hj _ h1
  simp only[renO,qb] at ho'
  subst ho'
  exact .eptrG j n i sub b o hs
 |anyB b=>intro v' h;simp only[renV,qb] at h;subst h;exact .anyB b
 |ifc t u=>intro v' h;simp only[renV,qb] at h;subst h;exact .ifc t u
 |tail id n i k fz xs L h1 h2 h3 h4=>
  intro v' h
  simp only[renV,qe] at h
  obtain⟨j,hj,rfl⟩:=h
  obtain⟨⟨o',ho',hs⟩,hm⟩:=hR id j hj _ h1
  simp only[renO,qb] at ho'
  subst ho'
  exact .tail j n i k fz xs L hs h2 h3 (fun e=>by rw[hm];exact h4 e)
 |tailG id n i k L h1=>
  intro v' h
  simp only[renV,qe] at h
  obtain⟨j,hj,rfl⟩:=h
  obtain⟨⟨o',ho',hs⟩,hm⟩:=hR id j hj _ h1
  simp only[renO,qb] at ho'
  subst ho'
  exact .tailG j n i k L hs
 |hdl id o b u h1 h2 h3=>
  intro v' h
  simp only[renV,qe] at h
  obtain⟨j,hj,rfl⟩:=h
  obtain⟨⟨o',ho',hs⟩,hm⟩:=hR id j hj _ h1
  exact .hdl j _ b u hs (by rw[hm];exact h2) (y5P ho' h3)
 |ptrG id off b h1=>
  intro v' h
  simp only[renV,qe] at h
  obtain⟨j,hj,rfl⟩:=h
  obtain⟨⟨o',ho',hs⟩,hm⟩:=hR id j hj _ h1
  simp only[renO,qb] at ho'
  subst ho'
  exact .ptrG j off b hs
 |yl id Y pre h1=>
  intro v' h
  simp only[renV,qe] at h
  obtain⟨j,hj,rfl⟩:=h
  obtain⟨⟨o',ho',hs⟩,hm⟩:=hR id j hj _ h1
  simp only[renO,qb] at ho'
  subst ho'
  exact .yl j Y pre hs
 |cptr cs b o us h1 h2 h3 h4 h5=>
  intro v' h
  simp only[renV,qb] at h
  subst h
  exact .cptr cs b o us (hok _ h1) h2 h3 h4 (fun j T u a b=>(h5 j T u a b).mono hok (fun _ _ _ _ h=>h))
 |agg cs us h1 _ h3 ih=>
  intro v' h
  simp only[renV,qe] at h
  obtain⟨l,hl,rfl⟩:=h
  obtain⟨k1,k2⟩:=z11 hl
  refine .agg l us (by rw[h1,k1]) (fun i v' u hv hu=> ?_) h3
  obtain⟨v,hv1,hv2⟩:=k2 i v' hv
  exact ih i v u hv1 hu hv2
 |fn f cap us h1 _ ih=>
  intro v' h
  simp only[renV,qe] at h
  obtain⟨l,hl,rfl⟩:=h
  obtain⟨k1,k2⟩:=z11 hl
  refine .fn f l us (by rw[h1,k1]) (fun i v' u hv hu=> ?_)
  obtain⟨v,hv1,hv2⟩:=k2 i v' hv
  exact ih i v u hv1 hu hv2
 |tup vs us h1 _ ih=>
  intro v' h
  simp only[renV,qe] at h
  obtain⟨l,hl,rfl⟩:=h
  obtain⟨k1,k2⟩:=z11 hl
  refine .tup l us (by rw[h1,k1]) (fun i v' u hv hu=> ?_)
  obtain⟨v,hv1,hv2⟩:=k2 i v' hv
  exact ih i v u hv1 hu hv2
 |cond c v u _ h0 ih=>
  intro v' h
  simp only[renV,qe] at h
  obtain⟨v1,hv1,rfl⟩:=h
  exact .cond c v1 u (fun e=>ih e hv1) h0
 |junk u=>intro v' h;simp only[renV,qb] at h;subst h;exact .junk u
theorem z1U{l:List Nat}:z1L l=true↔l.Nodup:=by
 induction l with
 |nil=>simp[z1L]
 |cons i l ih=>
  simp only[z1L,qn,zh,List.nodup_cons,ih]
  constructor
  ·rintro⟨h1,h2⟩
   exact⟨fun hm=>(by rw[z0E.2 hm] at h1;cases h1),h2⟩
  ·rintro⟨h1,h2⟩
   refine⟨?_,h2⟩
   cases hh:hasId l i with
   |false=>rfl
   |true=>exact absurd (z0E.1 hh) h1
def inv(τ:List (Nat×Nat)):List (Nat×Nat):=τ.map fun p=>(p.2,p.1)
theorem z3R:∀{τ:List (Nat×Nat)},(τ.map (·.1)).Nodup->∀{i j:Nat},(i,j)∈τ->lk τ i=some j
 | [],_,i,j,h=>by simp at h
 | (a,b)::τ,hn,i,j,h=>by
  simp only[qZ,List.nodup_cons] at hn
  simp only[qj,qF] at h
  simp only[lk]
  rcases h with⟨rfl,rfl⟩|h
  ·simp
  ·have:a≠i:=fun e=>hn.1 (e▸qy.2 ⟨(i,j),h,rfl⟩)
   rw[z0O this]
   exact z3R hn.2 h
theorem z4W{τ:List (Nat×Nat)}(h2:(τ.map (·.2)).Nodup){i j:Nat}(h:lk τ i=some j):lk (inv τ) j=some i:=by
 refine z3R (by simpa[inv,Function.comp_def] using h2) ?_
 exact qy.2 ⟨(i,j),z8C h,rfl⟩
theorem z5T{τ:List (Nat×Nat)}:∀{l:List (Nat×Nat)} {r:List (Nat×Ob)},z0p τ S l=some r->r.map (·.1)=l.map (·.2)/\
 ∀i j,(i,j)∈l->∃o o',S i=some o/\renO τ o=some o'/\(j,o')∈r
 | [],r,h=>by
  simp only[z0p,qb] at h
  subst h
  exact⟨rfl,fun i j h=>by simp at h⟩
 | (a,b)::l,r,h=>by
  simp only[z0p] at h
  split at h
  rotate_left
  ·cases h
  rename_i o ho
  split at h
  rotate_left
  ·cases h
  rename_i o' r' h1 h2
  simp only[qb] at h
  subst h
  obtain⟨k1,k2⟩:=z5T h2
  refine⟨by simp[k1],fun i j hij=> ?_⟩
  simp only[qj,qF] at hij
  rcases hij with⟨rfl,rfl⟩|hij
  ·exact⟨o,o',ho,h1,by simp⟩
  ·obtain⟨o1,o2,q1,q2,q3⟩:=k2 i j hij
   exact⟨o1,o2,q1,q2,by simp[q3]⟩
theorem z9R{S:Store}:∀{l:List (Nat×Ob)},(l.map (·.1)).Nodup->∀{i:Nat} {o:Ob},(i,o)∈l->app S l i=some o
 | [],_,i,o,h=>by simp at h
 | (a,b)::l,hn,i,o,h=>by
  simp only[qZ,List.nodup_cons] at hn
  simp only[qj,qF] at h
  simp only[app]
  rcases h with⟨rfl,rfl⟩|h
  ·rw[z1o hn.1,z0n]
  ·exact z9R hn.2 h
theorem z1M{l:List (Nat×Ob)}{i:Nat}{o:Ob}(h:app emp l i=some o):i∈l.map (·.1):=by
 by_cases hm:i∈l.map (·.1)
 ·exact hm
 ·rw[z1o hm] at h;cases h
theorem ORel.ren {τ : List (Nat × Nat)} {st' : Store} {m' : Place} {ok ok' : Nat -> Prop} (hR : Ren τ S st' m m') (hok : ∀ b, ok b -> ok' b) {o o' : Ob} {L : Option Nat × Nat} {g : List Nat} (h : ORel S m w ok o L g) (ho : renO τ o = some o') : ORel st' m' w ok' o' L g := by
  cases o with
  | box cs =>
    simp only [renO, qe] at ho
    obtain ⟨cs', hcs, rfl⟩ := ho
    obtain ⟨k1, k2⟩ := z11 hcs
    obtain ⟨b, us, e, h1, h2, h3, h4⟩ := h
    refine ⟨b, us, e, h1, h2, by rw [h3, k1], fun i v' u hv hu => ?_⟩
    obtain ⟨v, hv1, hv2⟩ := k2 i v' hv
    obtain ⟨q1, q2⟩ := h4 i v u hv1 hu
    exact ⟨q1.ren hR hok hv2, q2⟩
  | mat fz xs hh =>
    obtain ⟨⟨b, us, e, h1, h2, h3, h4⟩, q⟩ := h
    cases hh with
    | none =>
      simp only [renO, qb] at ho
      subst ho
      refine ⟨⟨b, us, e, h1, h2, h3, fun i v' u hv hu => ?_⟩, q⟩
      obtain ⟨q1, q2⟩ := h4 i v' u hv hu
      refine ⟨q1.ren hR hok ?_, q2⟩
      obtain ⟨T, _, rfl⟩ := qy.1 (qq hv)
      rfl
    | some p =>
      obtain ⟨k, r, n⟩ := p
      simp only [renO, qe] at ho
      obtain ⟨j, hj, rfl⟩ := ho
      refine ⟨⟨b, us, e, h1, h2, by rw [h3, z1I, z1I], fun i v' u hv hu => ?_⟩, q⟩
      simp only [matC, zu] at hv
      split at hv
      · rename_i hik
        split at hv
        · rename_i hlt
          simp only [qb] at hv
          subst hv; subst hik
          obtain ⟨q1, q2⟩ := h4 k (.row r n) u (by simp only [matC, zu, if_true]; rw [if_pos hlt]) hu
          exact ⟨q1.ren hR hok (by simp [renV, hj]), q2⟩
        · cases hv
      · rename_i hik
        obtain ⟨q1, q2⟩ := h4 i v' u (by simp only [matC, zu]; rw [if_neg hik]; exact hv) hu
        refine ⟨q1.ren hR hok ?_, q2⟩
        obtain ⟨T, _, rfl⟩ := qy.1 (qq hv)
        rfl
  | row k fz xs =>
    simp only [renO, qb] at ho
    subst ho
    obtain ⟨a1, a2, a3, a4, a5⟩ := h
    refine ⟨a1, a2, a3, a4, a5.imp (fun h => h) ?_⟩
    rintro ⟨b, us, e, h1, h2, h3, h4, h5⟩
    exact ⟨b, us, e, h1, h2, h3, h4, fun j T u p q => (h5 j T u p q).mono hok (fun _ _ _ _ h => h)⟩
  | gone =>
    simp only [renO, qb] at ho
    subst ho
    exact h
  | siter s pos =>
    simp only [renO, qb] at ho
    subst ho
    exact h
  | mp es hh =>
    obtain ⟨b, ents, bl, h1, h2, h3, h4, h5, h6, h7⟩ := h
    cases hh with
    | none =>
      simp only [renO, qb] at ho
      subst ho
      refine ⟨b, ents, bl, h1, h2, h3, h4, h5, h6, fun i x e p q => ?_⟩
      obtain ⟨q1, q2, q3⟩ := h7 i x e p q
      exact ⟨q1, q2, MRel.tq hok q3⟩
    | some q =>
      obtain ⟨k, v⟩ := q
      simp only [renO, qe] at ho
      obtain ⟨v', hv, rfl⟩ := ho
      refine ⟨b, ents, bl, h1, h2, h3, h4, h5, h6, fun i x e p q => ?_⟩
      obtain ⟨q1, q2, q3⟩ := h7 i x e p q
      exact ⟨q1, q2, fun e => ⟨(q3.1 e).1.ren hR hok hv, (q3.1 e).2⟩, fun e => (q3.2 e).tq hok⟩
  | miter mid n seen =>
    simp only [renO, qe] at ho
    obtain ⟨j, hj, rfl⟩ := ho
    obtain ⟨b, bm, h1, h2, ⟨es, hh, h3⟩, h4⟩ := h
    obtain ⟨⟨o', ho', hs⟩, hm⟩ := hR mid j hj _ h3
    obtain ⟨hh', rfl⟩ := z9Q ho'
    exact ⟨b, bm, h1, by rw [hm]; exact h2, ⟨_, _, hs⟩, h4⟩
  | ext Y pre =>
    simp only [renO, qb] at ho
    subst ho
    exact ⟨h.1, h.2.1, fun b hD => hok b (h.2.2 b hD)⟩
theorem z12{τ:List (Nat×Nat)}{o o':Ob}(h:renO τ o=some o'):o.len=o'.len/\o.live=o'.live/\o.same o':=by
 cases o with
 |box cs=>
  simp only[renO,qe] at h
  obtain⟨cs',hcs,rfl⟩:=h
  obtain⟨k1,k2⟩:=z11 hcs
  exact⟨rfl,rfl,k1.symm⟩
 |mat fz xs hh=>
  obtain⟨hh',rfl⟩:=z7y h
  exact⟨rfl,rfl,rfl⟩
 |row k fz xs=>
  simp only[renO,qb] at h
  subst h
  exact⟨rfl,rfl,rfl⟩
 |gone=>
  simp only[renO,qb] at h
  subst h
  exact⟨rfl,rfl,trivial⟩
 |siter s pos=>
  simp only[renO,qb] at h
  subst h
  exact⟨rfl,rfl,trivial⟩
 |mp es hh=>
  obtain⟨hh',rfl⟩:=z9Q h
  exact⟨rfl,rfl,trivial⟩
 |miter mid n s=>
  simp only[renO,qe] at h
  obtain⟨j,hj,rfl⟩:=h
  exact⟨rfl,rfl,trivial⟩
 |ext Y pre=>
  simp only[renO,qb] at h
  subst h
  exact⟨rfl,rfl,rfl⟩
def z0V(τ:List (Nat×Nat))(m:Place):Place:=⟨fun j=>match lk (inv τ) j with|some i=>m i|none=>(none,0),fun j=>match lk (inv τ) j with|some i=>m.g i|none=>[]⟩
theorem z3S{τ:List (Nat×Nat)}{r:List (Nat×Ob)}(h1:(τ.map (·.1)).Nodup)(h2:(τ.map (·.2)).Nodup)(hr:z0p τ S τ=some r):
 Ren τ S (app emp r) m (z0V τ m)/\(∀j o',app emp r j=some o'->∃i o,lk τ i=some j/\S i=some o/\renO τ o=some o'/\z0V τ m j=m i/\(z0V τ m).g j=m.g i):=by
 obtain⟨k1,k2⟩:=z5T hr
 have hnd:(r.map (·.1)).Nodup:=by rw[k1];exact h2
 have hpl:∀i j,lk τ i=some j->z0V τ m j=m i:=fun i j h=>by simp only[z0V,z4W h2 h]
 have hpg:∀i j,lk τ i=some j->(z0V τ m).g j=m.g i:=fun i j h=>by simp only[z0V,z4W h2 h]
 refine⟨fun i j hij o ho=> ?_,fun j o' ho'=> ?_⟩
 ·obtain⟨o1,o2,q1,q2,q3⟩:=k2 i j (z8C hij)
  rw[ho] at q1;cases q1
  exact⟨⟨o2,q2,z9R hnd q3⟩,hpl i j hij⟩
 ·have hm:=z1M ho'
  rw[k1] at hm
  obtain⟨p,hp,rfl⟩:=qy.1 hm
  have hl:=z3R h1 (i:=p.1) (j:=p.2) hp
  obtain⟨o1,o2,q1,q2,q3⟩:=k2 p.1 p.2 hp
  have:=z9R (S:=emp) hnd q3
  rw[ho'] at this;cases this
  exact⟨p.1,o1,hl,q1,q2,hpl _ _ hl,hpg _ _ hl⟩
theorem z3T{m m':Place}{i j b:Nat}(h1:m' j=m i)(h2:m'.g j=m.g i):m'.has j b↔m.has i b:=by unfold Place.has;rw[h1,h2]
theorem z1u{τ:List (Nat×Nat)}(h2:(τ.map (·.2)).Nodup){i j b:Nat}(h:lk τ i=some j):(z0V τ m).has j b↔m.has i b:=z3T (by simp only[z0V,z4W h2 h]) (by simp only[z0V,z4W h2 h])
theorem SRel.ren{τ:List (Nat×Nat)}{r:List (Nat×Ob)}(hS:SRel F S m w)(h1:(τ.map (·.1)).Nodup)(h2:(τ.map (·.2)).Nodup)(hr:z0p τ S τ=some r):
 SRel F (app emp r) (z0V τ m) w/\∀b,okB F S m w b->okB F (app emp r) (z0V τ m) w b:=by
 obtain⟨hR,hb⟩:=z3S (m:=m) h1 h2 hr
 have hok:∀b,okB F S m w b->okB F (app emp r) (z0V τ m) w b:=by
  rintro b ⟨b1,b2,b3⟩
  refine⟨b1,b2,fun j o' ho' hl hm=> ?_⟩
  obtain⟨i,o,q1,q2,q3,q4,q5⟩:=hb j o' ho'
  rw[z3T q4 q5] at hm
  exact b3 i o q2 (by rw[(z12 q3).2.1];exact hl) hm
 refine⟨⟨fun j o' ho'=> ?_,fun j j' oj oj' b hj hj' hb1 hb2=> ?_,fun j o' b ho' hm hf=> ?_,fun j o' b ho' hm=> ?_,hS.low,hS.hold⟩,hok⟩
 ·obtain⟨i,o,q1,q2,q3,q4,q5⟩:=hb j o' ho'
  rw[q4,q5]
  exact(hS.objs i o q2).ren hR hok q3
 ·obtain⟨i,o,q1,q2,q3,q4,q5⟩:=hb j oj hj
  obtain⟨i',o',q1',q2',q3',q4',q5'⟩:=hb j' oj' hj'
  rw[z3T q4 q5] at hb1
  rw[z3T q4' q5'] at hb2
  have:=hS.inj i i' o o' b q2 q2' hb1 hb2
  subst this
  rw[q1] at q1';cases q1';rfl
 ·obtain⟨i,o,q1,q2,q3,q4,q5⟩:=hb j o' ho'
  rw[z3T q4 q5] at hm
  exact hS.avoid i o b q2 hm hf
 ·obtain⟨i,o,q1,q2,q3,q4,q5⟩:=hb j o' ho'
  rw[z3T q4 q5] at hm
  exact hS.lt i o b q2 hm
theorem z4X{τ:List (Nat×Nat)}{sl:List (Nat×AVal)}:∀{keys:List Nat} {r:List (Nat×AVal)},z3Q τ sl keys=some r->∀t,get r t= .junk\/renV τ (get sl t)=some (get r t)
 | [],r,h,t=>by
  simp only[z3Q,qb] at h
  subst h;exact .inl rfl
 |k::keys,r,h,t=>by
  simp only[z3Q] at h
  split at h
  rotate_left
  ·cases h
  rename_i v r' h1 h2
  simp only[qb] at h
  subst h
  simp only[get]
  by_cases e:k=t
  ·subst e;right;simpa using h1
  ·rw[z0O e];exact z4X h2 t
def Sim(P:Program)(n:Nat)(l0:List (Nat×Ob))(c:Code)(s:St)(Q:Exit->St->Prop):Prop:=
 ∀(F:Fen P) (m0:Place) (w0:World) (m:Place) (a:Act) (w:World),SRel F (app emp l0) m0 w0->Rel F n s m a w->FrameExt F (app emp l0) m0 w0 s.st m w->
  c.wpIn (fw F) 0 P (fun e a' w'=> ∃s' m',Rel F n s' m' a' w'/\FrameExt F (app emp l0) m0 w0 s'.st m' w'/\Q e s') a w
def z0Q(P:Program)(n:Nat)(l0:List (Nat×Ob))(c:Code)(s:St)(Q:Exit->St->Prop):Prop:=
 ∀(F:Fen P) (m0:Place) (w0:World) (m:Place) (a:Act) (w:World),SRel F (app emp l0) m0 w0->Rel F n s m a w->FrameExt F (app emp l0) m0 w0 s.st m w->
  ∀(b:Frame) (k:List Item) (cs:List Frame),b.roundOf=F.rnd->∃e a' w',(∃s' m',Rel F n s' m' a' w'/\FrameExt F (app emp l0) m0 w0 s'.st m' w'/\Q e s')/\
   ArrivesIn (Machine.fenced P (fw F)) P (lone (b.atR a (.code c:: .inLoop c::k)) cs w) b k cs e a' w'
theorem y7M{F:Fen P}(n:Nat):(fw F).room n:=fun d h=>by simp[fw,Fence.wide] at h
variable {n:Nat} {l0:List (Nat×Ob)} {s:St} {Q:Exit->St->Prop}
def andThen(R:St->Prop)(Q:Exit->St->Prop):Exit->St->Prop
 | .normal,s=>R s
 |e,s=>Q e s
def inBlk(id:Nat)(Q:Exit->St->Prop):Exit->St->Prop
 | .exit i,s=>if i=id then Q .normal s else Q (.exit i) s
 |e,s=>Q e s
theorem Sim.seq{x y:Code}(h:Sim P n l0 x s (andThen (fun s'=>Sim P n l0 y s' Q) Q)):Sim P n l0 (.seq x y) s Q:=by
 intro F m0 w0 m a w h0 h1 h2
 refine wpIn_seq (wpIn_mono (h F m0 w0 m a w h0 h1 h2) ?_)
 rintro e a' w' ⟨s',m',q1,q2,q3⟩
 cases e with
 |normal=>exact q3 F m0 w0 m' a' w' h0 q1 q2
 |_=>exact⟨s',m',q1,q2,q3⟩
theorem Sim.skip(h:Q .normal s):Sim P n l0 .skip s Q:=fun F m0 w0 m a w h0 h1 h2=>wpIn_skip ⟨s,m,h1,h2,h⟩
theorem Sim.ret(h:Q .ret s):Sim P n l0 .ret s Q:=fun F m0 w0 m a w h0 h1 h2=>wpIn_ret ⟨s,m,h1,h2,h⟩
theorem Sim.exit{id:Nat}(h:Q (.exit id) s):Sim P n l0 (.exit id) s Q:=fun F m0 w0 m a w h0 h1 h2=>wpIn_exit ⟨s,m,h1,h2,h⟩
theorem Sim.block{id:Nat}{c:Code}(h:Sim P n l0 c s (inBlk id Q)):Sim P n l0 (.block id c) s Q:=by
 intro F m0 w0 m a w h0 h1 h2
 refine wpIn_block (wpIn_mono (h F m0 w0 m a w h0 h1 h2) ?_)
 rintro e a' w' ⟨s',m',q1,q2,q3⟩
 cases e with
 |exit i=>
  simp only[inBlk] at q3
  simp only[Exit.inBlock]
  split
  ·rename_i hi;rw[if_pos hi] at q3;exact⟨s',m',q1,q2,q3⟩
  ·rename_i hi;rw[if_neg hi] at q3;exact⟨s',m',q1,q2,q3⟩
 |_=>exact⟨s',m',q1,q2,q3⟩
theorem Sim.cond{c:Operand}{x y:Code}{b:Bool}(hb:ev s.sl c= .t (.sc (.bool b)))(ht:b=true->Sim P n l0 x s Q)(hf:b=false->Sim P n l0 y s Q):Sim P n l0 (.cond c x y) s Q:=by
 intro F m0 w0 m a w h0 h1 h2
 have hv:VRel s.st m w (okB F s.st m w) (ev s.sl c) (a.eval c):=y3j (fun t _=>h1.slots t)
 rw[hb] at hv
 have:=VRel.sc_inv hv
 exact wpIn_cond_split this (fun e=>ht e F m0 w0 m a w h0 h1 h2) (fun e=>hf e F m0 w0 m a w h0 h1 h2)
theorem Sim.condAny{c:Operand}{x y:Code}(hb:ev s.sl c= .anyB)(ht:Sim P n l0 x s Q)(hf:Sim P n l0 y s Q):Sim P n l0 (.cond c x y) s Q:=by
 intro F m0 w0 m a w h0 h1 h2
 have hv:VRel s.st m w (okB F s.st m w) (ev s.sl c) (a.eval c):=y3j (fun t _=>h1.slots t)
 rw[hb] at hv
 generalize hu:a.eval c=u at hv
 cases hv with
 |anyB b=>exact wpIn_cond_split hu (fun e=>ht F m0 w0 m a w h0 h1 h2) (fun e=>hf F m0 w0 m a w h0 h1 h2)
theorem Sim.loop{c:Code}(h:z0Q P n l0 c s Q):Sim P n l0 (.loop c) s Q:=by
 intro F m0 w0 m a w h0 h1 h2 b k cs hro hb hr
 obtain⟨e,a',w',q,arr⟩:=h F m0 w0 m a w h0 h1 h2 b k cs hro
 exact⟨e,a',w',q,.of_steps (.one (fenced_calm hb hr rfl) stepR_loop) arr⟩
theorem z0Q.step{c:Code}(h:Sim P n l0 c s (andThen (fun s'=>z0Q P n l0 c s' Q) Q)):z0Q P n l0 c s Q:=by
 intro F m0 w0 m a w h0 h1 h2 b k cs hro
 have hr:(fw F).room (cs.length+1+0):=y7M _
 have hb:(fw F).fn b.fn:=trivial
 obtain⟨e,a₁,w₁,⟨s',m',q1,q2,q3⟩,harr⟩:=h F m0 w0 m a w h0 h1 h2 b (.inLoop c::k) cs hro hb hr
 cases e with
 |normal=>
  obtain⟨e₂,a₂,w₂,hq₂,harr₂⟩:=q3 F m0 w0 m' a₁ w₁ h0 q1 q2 b k cs hro
  exact⟨e₂,a₂,w₂,hq₂,.of_steps (StepsIn.trans harr (.one (fenced_calm hb hr rfl) stepR_inLoop)) harr₂⟩
 |exit id=>exact⟨_,a₁,w₁,⟨s',m',q1,q2,q3⟩,.pass (x:= .inLoop c) rfl (fun _ _=> .inl (by simp)) harr⟩
 |goto l=>exact⟨_,a₁,w₁,⟨s',m',q1,q2,q3⟩,.pass (x:= .inLoop c) rfl (fun _ _=> .inl (by simp)) harr⟩
 |ret=>exact⟨_,a₁,w₁,⟨s',m',q1,q2,q3⟩,.pass (x:= .inLoop c) rfl (fun _ _=> .inl (by simp)) harr⟩
 |panic ch=>exact⟨_,a₁,w₁,⟨s',m',q1,q2,q3⟩,.pass (x:= .inLoop c) rfl (fun _ _=> .inl (by simp)) harr⟩
 |outgrown=>exact⟨_,a₁,w₁,⟨s',m',q1,q2,q3⟩,.pass (x:= .inLoop c) rfl (fun _ _=> .inl (by simp)) harr⟩
def Le(n:Nat)(l0:List (Nat×Ob))(s s':St):Prop:=∀{P:Program} (F:Fen P) (m0:Place) (w0:World) (m:Place) (a:Act) (w:World),SRel F (app emp l0) m0 w0->Rel F n s m a w->FrameExt F (app emp l0) m0 w0 s.st m w->
 ∃m',Rel F n s' m' a w/\FrameExt F (app emp l0) m0 w0 s'.st m' w
theorem Le.refl(s:St):Le n l0 s s:=fun F m0 w0 m a w _ h1 h2=>⟨m,h1,h2⟩
theorem Le.trans{s1 s2 s3:St}(h:Le n l0 s1 s2)(k:Le n l0 s2 s3):Le n l0 s1 s3:=fun F m0 w0 m a w h0 h1 h2=>by
 obtain⟨m',q1,q2⟩:=h F m0 w0 m a w h0 h1 h2
 exact k F m0 w0 m' a w h0 q1 q2
theorem Sim.weaken{c:Code}{s':St}(h:Le n l0 s s')(k:Sim P n l0 c s' Q):Sim P n l0 c s Q:=fun F m0 w0 m a w h0 h1 h2=>by
 obtain⟨m',q1,q2⟩:=h F m0 w0 m a w h0 h1 h2
 exact k F m0 w0 m' a w h0 q1 q2
theorem z0Q.weaken{c:Code}{s':St}(h:Le n l0 s s')(k:z0Q P n l0 c s' Q):z0Q P n l0 c s Q:=fun F m0 w0 m a w h0 h1 h2=>by
 obtain⟨m',q1,q2⟩:=h F m0 w0 m a w h0 h1 h2
 exact k F m0 w0 m' a w h0 q1 q2
theorem Le.ren{τ:List (Nat×Nat)}{keys:List Nat}{nx:Nat}{sl:List (Nat×AVal)}{l:List (Nat×Ob)}(h:renSt l0 τ keys nx s=some (sl,l)):Le n l0 s ⟨sl,app emp l,nx⟩:=by
 intro P F m0 w0 m a w h0 h1 h2
 unfold renSt at h
 obtain⟨hc,h⟩:=z0j h
 simp only[qn] at hc
 obtain⟨⟨⟨c1,c2⟩,c3⟩,c4⟩:=hc
 split at h
 rotate_left
 ·cases h
 rename_i l' sl' hst hsl
 simp only[qb,qF] at h
 obtain⟨rfl,rfl⟩:=h
 have n1:=z1U.1 c1
 have n2:=z1U.1 c2
 obtain⟨hR,hb⟩:=z3S (m:=m) n1 n2 hst
 obtain⟨hS,hok⟩:=h1.srel.ren n1 n2 hst
 have hkeep:∀id,id∈l0.map (·.1)->lk τ id=some id:=by
  intro id hid
  obtain⟨x,hx,rfl⟩:=qy.1 hid
  have:=qQ.1 c4 x hx
  split at this
  ·rename_i j hj;rw[hj,qE this]
  ·cases this
 refine⟨z0V τ m,⟨fun t=> ?_,h1.size,(by
  obtain⟨⟨l,e1,e2,e3⟩,e4,e5⟩:=h1.defers
  have key:∀D,(∀id o,s.st id=some o->¬m.has id D)->∀j o',app emp l' j=some o'->¬(z0V τ m).has j D:=fun D q j o' ho' hm=>by
   obtain⟨i',o1,p1,p2,p3,p4,p5⟩:=hb j o' ho'
   exact q i' o1 p2 ((z3T p4 p5).1 hm)
  exact⟨⟨l,e1,e2,fun D hD=>⟨(e3 D hD).1,key D (e3 D hD).2.1,(e3 D hD).2.2⟩⟩,e4,fun l hl=>⟨key l (e5 l hl).1,(e5 l hl).2⟩⟩),hS,fun id hid=> ?_⟩,⟨h2.os,h2.tape,h2.output,h2.size,h2.block,fun id o ho=> ?_,fun id o' ho' hn b hbk=> ?_⟩⟩
 ·rcases z4X hsl t with e|e
  ·rw[e];exact .junk _
  ·exact(h1.slots t).ren hR hok e
 ·show app emp l' id=none
  cases hh:app emp l' id with
  |none=>rfl
  |some o=>
   obtain⟨i,o1,q1,_⟩:=hb id o hh
   have:=zd (qx (qQ.1 c3 (i,id) (z8C q1)))
   simp only at this hid
   omega
 ·have hl:=hkeep id (z1M ho)
  obtain⟨o1,k1,k2,k3,k4,k5,k6⟩:=h2.keep id o ho
  obtain⟨⟨o2,q1,q2⟩,q3⟩:=hR id id hl o1 k1
  obtain⟨r1,r2,r3⟩:=z12 q1
  refine⟨o2,q2,by omega,fun e=>by rw[q3];exact k3 (by omega),fun e=>by rw[<-r2];exact k4 e,fun b hbk=>k5 b (by obtain⟨i',o',p1,p2,p3,p4,p5⟩:=hb id o2 q2;have hi:i'=id:=(by have:=z4W n2 p1;rw[z4W n2 hl] at this;cases this;rfl);subst hi;exact(z3T p4 p5).1 hbk),?_⟩
  exact Ob.same_trans k6 r3
 ·obtain⟨i,o,q1,q2,q3,q4,q5⟩:=hb id o' ho'
  rw[z3T q4 q5] at hbk
  cases h3:app emp l0 i with
  |none=>exact h2.new i o q2 h3 b hbk
  |some o0=>
   have:=hkeep i (z1M h3)
   rw[this] at q1;cases q1
   rw[h3] at hn;cases hn
def z2J:Nat->List AVal->List (Nat×AVal)
 |_,[]=>[]
 |i,v::l=>(i,v)::z2J (i+1) l
theorem z4Y:∀(l:List AVal) (i t:Nat),get (z2J i l) t=if i<=t then(l[t-i]?).getD .junk else .junk
 | [],i,t=>by simp[z2J,get]
 |v::l,i,t=>by
  simp only[z2J,get]
  by_cases e:i=t
  ·subst e;simp
  ·rw[z0O e,cond_false,z4Y l (i+1) t]
   by_cases h:i<=t
   ·rw[if_pos (by omega),if_pos h,show t-i=(t- (i+1))+1 by omega]
    simp
   ·rw[if_neg (by omega),if_neg h]
end Go.Ab
end
section
namespace Go.Ab
variable {P:Program} {w:World} {F:Fen P} {S st:Store} {m:Place}
theorem FC.ren{f:FuncId}{args args':List AVal}{res res':AVal}{l0 l0' l1 l1':List (Nat×Ob)}(h:FC P f args (app emp l0) res (app emp l1))(τ0 τ:List (Nat×Nat))
 (c:(z1L (τ0.map (·.1))&&z1L (τ0.map (·.2))&&z1L (τ.map (·.1))&&z1L (τ.map (·.2))&&τ0.all (fun p=>match lk τ p.1 with|some j=>Nat.beq j p.2|none=>false))=true)
 (h0:z0p (inv τ0) (app emp l0') (inv τ0)=some l0) (ha:renL (inv τ0) args'=some args) (hl0:l0'.all (fun x=>hasId (τ0.map (·.2)) x.1)=true)
 (h1:z0p τ (app emp l1) τ=some l1') (hr:renV τ res=some res'):FC P f args' (app emp l0') res' (app emp l1'):=by
 simp only[qn] at c
 obtain⟨⟨⟨⟨c1,c2⟩,c3⟩,c4⟩,c5⟩:=c
 have n1:=z1U.1 c1
 have n2:=z1U.1 c2
 have n3:=z1U.1 c3
 have n4:=z1U.1 c4
 have i1:((inv τ0).map (·.1)).Nodup:=by simpa[inv,Function.comp_def] using n2
 have i2:((inv τ0).map (·.2)).Nodup:=by simpa[inv,Function.comp_def] using n1
 have ii:inv (inv τ0)=τ0:=by simp[inv,Function.comp_def]
 have hext:∀i j,lk τ0 i=some j->lk τ i=some j:=by
  intro i j hij
  have:=qQ.1 c5 (i,j) (z8C hij)
  simp only at this
  split at this
  ·rename_i j' hj;rw[hj,qE this]
  ·cases this
 have hin:∀j o,app emp l0' j=some o->∃i,lk (inv τ0) j=some i:=by
  intro j o hj
  obtain⟨x,hx,rfl⟩:=qy.1 (z1M hj)
  have:=z0E.1 (qQ.1 hl0 x hx)
  obtain⟨p,hp,hp'⟩:=qy.1 this
  refine⟨p.1,z3R i1 (qy.2 ⟨p,hp,by rw[hp']⟩)⟩
 intro F m w us hS hl hv
 obtain⟨hR0,hb0⟩:=z3S (m:=m) i1 i2 h0
 obtain⟨hS0,hok0⟩:=hS.ren i1 i2 h0
 obtain⟨a1,a2⟩:=z11 ha
 refine(h F (z0V (inv τ0) m) w us hS0 (by rw[hl,a1]) (fun i v u hi hu=> ?_)).mono ?_
 ·obtain⟨v',q1,q2⟩:=a2 i v hi
  exact(hv i v' u q1 hu).ren hR0 hok0 q2
 ·rintro e w' ⟨v,m1,he,k1,k2,k3⟩
  obtain⟨hR1,hb1⟩:=z3S (m:=m1) n3 n4 h1
  obtain⟨hS1,hok1⟩:=k1.ren n3 n4 h1
  refine⟨v,z0V τ m1,he,hS1,⟨k2.os,k2.tape,k2.output,k2.size,fun b hb hf=> ?_,fun j o' ho'=> ?_,fun j o' ho' hn b hbk=> ?_⟩,k3.ren hR1 hok1 hr⟩
  ·refine k2.block b hb ?_
   rcases hf with hf|hf
   ·exact .inl hf
   ·refine .inr fun i o ho hlv hm=> ?_
    obtain⟨j,o1,q1,q2,q3,q4⟩:=hb0 i o ho
    rw[z1u i2 q1] at hm
    exact hf j o1 q2 (by rw[(z12 q3).2.1];exact hlv) hm
  ·obtain⟨i,hi⟩:=hin j o' ho'
   obtain⟨⟨o,q1,q2⟩,q3⟩:=hR0 j i hi o' ho'
   obtain⟨o1,r1,r2,r3,r4,r5,r6⟩:=k2.keep i o q2
   have hij:lk τ i=some j:=hext i j (by have:=z4W i2 hi;rw[ii] at this;exact this)
   obtain⟨⟨o2,s1,s2⟩,s3⟩:=hR1 i j hij o1 r1
   obtain⟨t1,t2,t3⟩:=z12 q1
   obtain⟨u1,u2,u3⟩:=z12 s1
   rw[q3] at r3
   refine⟨o2,s2,by omega,fun e=>by rw[s3];exact r3 (by omega),fun e=>by rw[<-u2];exact r4 (by rw[<-t2];exact e),fun b hbk=> ?_,?_⟩
   ·rcases r5 b ((z1u n4 hij).1 hbk) with r5|r5| ⟨i',oi,p1,p2,p3⟩
    ·exact .inl ((z1u i2 hi).1 r5)
    ·exact .inr (.inl r5)
    ·obtain⟨j',o1,p4,p5,p6,p7⟩:=hb0 i' oi p1
     exact .inr (.inr ⟨j',o1,p5,by rw[(z12 p6).2.1];exact p2,(z1u i2 p4).1 p3⟩)
   exact Ob.same_trans t3 (Ob.same_trans r6 u3)
  ·obtain⟨i,o,q1,q2,q3,q4⟩:=hb1 j o' ho'
   rw[z1u n4 q1] at hbk
   have hnone:app emp l0 i=none:=by
    cases h2:app emp l0 i with
    |none=>rfl
    |some o0=>
     obtain⟨j',o1,r1,r2,r3,r4⟩:=hb0 i o0 h2
     have:=hext i j' (by have:=z4W i2 r1;rw[ii] at this;exact this)
     rw[q1] at this;cases this
     rw[hn] at r2;cases r2
   rcases k2.new i o q2 hnone b hbk with p| ⟨i',oi,p1,p2,p3⟩
   ·exact .inl p
   ·obtain⟨j',o1,r1,r2,r3,r4⟩:=hb0 i' oi p1
    exact .inr ⟨j',o1,r2,by rw[(z12 r3).2.1];exact p2,(z1u i2 r1).1 p3⟩
def snapR(st:Store):AVal->Option (AVal×List (Nat×Ob)×List Prop)
 | .tup vs=>(snaps st vs).map fun(vs,f,c)=>(.tup vs,f,c)
 |v=>snap st v
variable {n:Nat} {l0:List (Nat×Ob)} {s:St} {Q:Exit->St->Prop}
theorem Rel.len{a:Act}{t k:Nat}{xs:List Tree}(h:Rel F n s m a w)(hg:get s.sl t= .t (.lst k xs)):xs.length<=9223372036854775807:=by
 have:=h.slots t
 rw[hg] at this
 cases this with
 |t _ _ hT=>
  generalize a.tmps.getD t undef=u at hT
  cases hT with
  |lst _ _ A c us hk hx hn hm hA hl hr=>simp only[maxLen] at hm;omega
theorem Sim.len{c:Code}{t k:Nat}{xs:List Tree}(hg:get s.sl t= .t (.lst k xs))(h:xs.length<=9223372036854775807->Sim P n l0 c s Q):Sim P n l0 c s Q:=
 fun F m0 w0 m a w h0 h1 h2=>h (h1.len hg) F m0 w0 m a w h0 h1 h2
theorem z5U{id k:Nat}(hid:S id=none)(hS:SRel F S m w)(hk:0<k):SRel F (upd S id (.row k false [])) (place m id (none,0)) w/\FrameExt F S m w (upd S id (.row k false [])) (place m id (none,0)) w:=by
 have hF:=z5E (F:=F) (S:=S) (m:=m) (w:=w) (w':=w) (o:= .row k false []) (L:=(none,0)) hid rfl rfl rfl (qr _) (fun _ _=>rfl) (fun b hb=>by simp at hb)
 exact⟨hS.new hid hF (fun _ _=>rfl) (fun b hb=>by simp at hb) ⟨hk,fun x hx=>by simp at hx,by simp,by simp[maxLen],.inl ⟨rfl,rfl⟩⟩,hF⟩
theorem Le.nilRow{t k id:Nat}(hg:get s.sl t= .t (.sc (.slice none 0 0)))(hid:Nat.ble s.nx id=true)(hk:Nat.blt 0 k=true):
 Le n l0 s ⟨(t,.row id 0)::s.sl,upd s.st id (.row k false []),id+1⟩:=by
 intro P F m0 w0 m a w h0 h1 h2
 have hid:=qx hid
 obtain⟨k1,k2⟩:=z5U (k:=k) (h1.fresh id hid) h1.srel (z2Z hk)
 refine⟨place m id (none,0),⟨fun t'=> ?_,h1.size,h1.defers.ext k2,k1,fun id' hid'=> ?_⟩,h2.trans h0 k2⟩
 ·simp only[get]
  by_cases e:t=t'
  ·subst e
   have:=h1.slots t
   rw[hg] at this
   have hu:=VRel.sc_inv this
   simp only[Nat.beq_refl,cond_true]
   rw[hu]
   exact .row id 0 k false [] (none,0) (z0n _ _ _) (qr _) (fun _=>z0y _ _ _)
  ·rw[z0O e,cond_false]
   exact k2.val (h1.slots t')
 ·show upd s.st id _ id'=none
  simp only at hid'
  rw[z0l (by omega)]
  exact h1.fresh id' (by omega)
theorem Le.nilBox{b i k id:Nat}{cs:List AVal}(hb:s.st b=some (.box cs))(hg:cs[i]? =some (.t (.sc (.slice none 0 0))))(hid:Nat.ble s.nx id=true)(hk:Nat.blt 0 k=true):
 Le n l0 s ⟨s.sl,upd (upd s.st id (.row k false [])) b (.box (cs.set i (.row id 0))),id+1⟩:=by
 intro P F m0 w0 m a w h0 h1 h2
 have hid:=qx hid
 have hbid:b≠id:=fun e=>by subst e;rw[h1.fresh b hid] at hb;cases hb
 obtain⟨k1,k2⟩:=z5U (k:=k) (h1.fresh id hid) h1.srel (z2Z hk)
 have hb':upd s.st id (.row k false []) b=some (.box cs):=by rw[z0l hbid];exact hb
 obtain⟨bb,us,e,q1,q2,q3,q4⟩:=k1.objs b _ hb'
 have key:=z0P (o':= .box (cs.set i (.row id 0))) k1 hb' rfl q1 (w':=w) rfl rfl rfl rfl (fun _ _=>rfl) (by simp[Ob.len]) (by simp[Ob.same]) (fun hF=>by
  refine⟨bb,us,e,q1,q2,by simp[q3],fun j v u hv hu=> ?_⟩
  rw[zu] at hv
  split at hv
  ·rename_i hij
   subst hij
   split at hv
   ·simp only[qb] at hv
    subst hv
    obtain⟨r1,r2⟩:=q4 i _ u hg hu
    have:=VRel.sc_inv r1
    subst this
    exact⟨.row id 0 k false [] (none,0) (by rw[z0l (Ne.symm hbid)];exact z0n _ _ _) (qr _) (fun _=>z0y _ _ _),rfl⟩
   ·cases hv
  ·obtain⟨r1,r2⟩:=q4 j v u hv hu
   exact⟨hF.val r1,r2⟩)
 refine⟨_,⟨fun t'=>key.2.val (k2.val (h1.slots t')),h1.size,h1.defers.ext (k2.trans h1.srel key.2),key.1,fun id' hid'=> ?_⟩,h2.trans h0 (k2.trans h1.srel key.2)⟩
 show upd (upd s.st id _) b _ id'=none
 simp only at hid'
 rw[z0l (fun e=>by subst e;rw[h1.fresh id' (by omega)] at hb;cases hb),z0l (by omega)]
 exact h1.fresh id' (by omega)
theorem y5Q{α:Type}{c:Code}(S:α->St)(I:α->Prop)(μ:α->Nat)(round:∀a,I a->(∀b,I b->μ b<μ a->z0Q P n l0 c (S b) Q)->z0Q P n l0 c (S a) Q)(a:α)(ha:I a):z0Q P n l0 c (S a) Q:=by
 have key:∀N a,μ a=N->I a->z0Q P n l0 c (S a) Q:=by
  intro N
  induction N using Nat.strongRecOn with
  |_ N ih=>intro a hN hI;exact round a hI (fun b hb hlt=>ih (μ b) (hN▸hlt) b rfl hb)
 exact key _ a rfl ha
theorem nw{z:Int}(h: -9223372036854775808<=z/\z<=9223372036854775807):AVal.t (.sc (.int .i64 z))=AVal.t (.sc (.int .i64 (IntKind.i64.wrap z))):=by rw[IntWalk.i64_in z h]
theorem y7N{α:Type}[Inhabited α]{f:α->Tree}{l:List α}{j:Int}(h0:0<=j)(h:j<l.length):(l.map f)[j.toNat]? =some (f (l.getD j.toNat default)):=by
 have hl:j.toNat<l.length:=by omega
 simp[qa hl,List.getD]
theorem y5R{α:Type}[Inhabited α]{f:α->Tree}{l:List α}{j:Int}{k:Nat}(e:j=k)(h:k<l.length):(l.map f)[j.toNat]? =some (f (l.getD k default)):=by
 subst e
 simp[qa h,List.getD]
def slt(x y:ByteArray):Bool:=Op.bytesLess x.toList y.toList
def seq(x y:ByteArray):Bool:=x.toList==y.toList
end Go.Ab
end
section
namespace Go.Ab
variable {P:Program} {W:World}
def y3s(W:World)(Ts:List Tree)(cs:List Value):Prop:=
 cs.length=Ts.length/\∀(j:Nat) (T:Tree) (u:Value),Ts[j]? =some T->cs[j]? =some u->TRep W (fun b=>b<W.heap.size) T u
theorem y0V{W:World}{T:Tree}{v:Value}(hT:T.cells=[T])(h:TRep W (fun b=>b<W.heap.size) T v):y3s W T.cells [v]:=by
 rw[hT]
 refine⟨rfl,fun j T' u h1 h2=> ?_⟩
 cases j with
 |zero=>simp at h1 h2;subst h1;subst h2;exact h
 |succ j=>simp at h1
theorem elt1{v:Value}:Elt 1 (.sc v):=⟨rfl,fun T hT=>by simp[Tree.cells] at hT;subst hT;rfl⟩
theorem y3t{α:Type}(n:Nat)(p:Nat->α->Prop)(h:∀i,i<n->∃a,p i a):∃l:List α,l.length=n/\∀i a,l[i]? =some a->p i a:=by
 induction n with
 |zero=>exact⟨[],rfl,fun i a h=>by simp at h⟩
 |succ n ih=>
  obtain⟨l,hl,hp⟩:=ih (fun i hi=>h i (by omega))
  obtain⟨a,ha⟩:=h n (by omega)
  refine⟨l++[a],by simp[hl],fun i b hb=> ?_⟩
  by_cases hi:i<l.length
  ·rw[qz hi] at hb;exact hp i b hb
  ·rw[qH (by omega)] at hb
   by_cases e:i=n
   ·subst e;rw[hl] at hb;simp at hb;subst hb;exact ha
   ·have:([a]:List α)[i-l.length]? =none:=by simp;omega
    rw[this] at hb;cases hb
theorem z5V{w w':World}{b c:Nat}(h:w.heap[b]? =w'.heap[b]?):w.cell? ⟨b,c,none⟩=w'.cell? ⟨b,c,none⟩:=by
 unfold World.cell?
 simp only[h]
theorem z8D{w:World}{b c:Nat}{v:Value}(h:w.cell? ⟨b,c,none⟩=some v):∃o,w.heap[b]? =some o/\∃us e z,o= .cells us e z:=by
 unfold World.cell? at h
 split at h
 ·rename_i us e z hb;exact⟨_,hb,us,e,z,rfl⟩
 ·cases h
structure TabW(P:Program)(W:World):Prop where
 utf:∀a b,P.globalNamed "unicode/utf8.first" =some a->P.globalNamed "unicode/utf8.acceptRanges" =some b->Lib.Utf8Tabs a b W
 var:∀p∈z7e,∀a,P.globalNamed p.1=some a->∃cs,W.var? P p.1=some cs/\p.2 cs
def tabG(P:Program)(b:Nat):Prop:=P.globalNamed "unicode/utf8.first" =some b\/P.globalNamed "unicode/utf8.acceptRanges" =some b\/∃p∈z7e,P.globalNamed p.1=some b
def fenW(P:Program)(W:World)(hT:TabW P W):Fen P where
 mem b:=∃o,W.heap[b]? =some o/\tabG P b
 bar _:=False
 says b o:=(∃us e z,o= .cells us e z)/\W.heap[b]? =some o/\tabG P b
 sub _ o h:=⟨o,h.2⟩
 sup _ h:=h.elim
 opn _ _ _ h:=h.elim
 cel _ _ h:=h.1
 rnd:=none
 lo:=0
 tab:=by
  refine⟨fun a b ha hb=> ?_,fun p hp a ha=> ?_⟩
  ·have h:=hT.utf a b ha hb
   obtain⟨x,hx,cx⟩:=z8D (h.1 0 (by decide))
   obtain⟨y,hy,cy⟩:=z8D (h.2 0 (by decide)).1
   refine⟨x,y,⟨cx,hx,.inl ha⟩,⟨cy,hy,.inr (.inl hb)⟩,fun w h1 h2=>⟨fun c hc=> ?_,fun i hi=>⟨?_,?_⟩⟩⟩
   ·rw[z5V (h1.trans hx.symm)];exact h.1 c hc
   ·rw[z5V (h2.trans hy.symm)];exact(h.2 i hi).1
   ·rw[z5V (h2.trans hy.symm)];exact(h.2 i hi).2
  ·obtain⟨cs,h1,h2⟩:=hT.var p hp a ha
   unfold World.var? at h1
   rw[ha] at h1
   simp only[Option.bind_some] at h1
   split at h1
   ·rename_i cs' e z hc
    cases h1
    exact⟨cs,e,z,⟨⟨_,_,_,rfl⟩,hc,.inr (.inr ⟨p,hp,ha⟩)⟩,h2⟩
   ·cases h1
theorem FC.law{f:FuncId}{args:List AVal}{v:Value}{us:List Value}(h:FC P f args emp (.t (.sc v)) emp)(hT:TabW P W)(hl:us.length=args.length)
 (hv:∀(i:Nat) (a:AVal) (u:Value),args[i]? =some a->us[i]? =some u->∃T,a= .t T/\TRep W (fun b=>b<W.heap.size) T u):
 Calls P f us.toArray W fun e w'=>e= .returned v/\RowKit.Below W.heap.size W w':=by
 have hS:SRel (fenW P W hT) emp ⟨fun _=>(none,0),fun _=>[]⟩ W:=⟨fun id o h=>(by cases h),fun i j oi oj b h=>(by cases h),fun id o b h=>(by cases h),fun id o b h=>(by cases h),fun b ⟨o,h,_⟩=>(qY.1 h).1,fun b o h=>h.2.1⟩
 refine(h (fenW P W hT) _ W us hS hl (fun i a u ha hu=> ?_)).mono ?_
 ·obtain⟨T,rfl,hT'⟩:=hv i a u ha hu
  exact .t T u (hT'.mono (fun b hb=>⟨hb,fun h=>h,fun id o h=>by cases h⟩) (fun _ _ _ _ h=>h))
 ·rintro e w' ⟨u,m',rfl,k1,k2,k3⟩
  have:=VRel.sc_inv k3
  subst this
  exact⟨rfl,k2.os,k2.tape,k2.output,k2.size,fun b hb=>k2.block b hb (.inr fun id o h=>by cases h)⟩
theorem y9l{F:Fen P}{st:Store}{m:Place}{w:World}(hS:SRel F st m w):TabW P w:=
 ⟨fun a b ha hb=>by
  obtain⟨x,y,h1,h2,h3⟩:=F.tab.utf a b ha hb
  exact h3 w (hS.hold a x h1) (hS.hold b y h2),fun p hp a ha=>by
  obtain⟨cs,e,z,h1,h2⟩:=F.tab.var p hp a ha
  refine⟨cs,?_,h2⟩
  unfold World.var?
  rw[ha]
  simp only[Option.bind_some,hS.hold a _ h1]⟩
theorem FC.ofTabR{f:FuncId}{args:List AVal}{us:List Value}{res:AVal}{R:Value->Prop}(ha:∀(st:Store) (m:Place) (w:World) (ok:Nat->Prop) (xs:List Value),xs.length=args.length->
 (∀(i:Nat) (a:AVal) (u:Value),args[i]? =some a->xs[i]? =some u->VRel st m w ok a u)->xs=us)
 (hr:∀(st:Store) (m:Place) (w:World) (ok:Nat->Prop) (v:Value),R v->VRel st m w ok res v)
 (h:∀w,TabW P w->Calls P f us.toArray w fun e w'=>(∃v,e= .returned v/\R v)/\RowKit.Below w.heap.size w w'):FC P f args emp res emp:=by
 intro F m w xs hS hl hv
 have hx:=ha emp m w _ xs hl hv
 subst hx
 refine(h w (y9l hS)).mono ?_
 rintro e w' ⟨⟨v,rfl,hR⟩,hb⟩
 obtain⟨b1,b2,b3,b4,b5⟩:=hb
 have hF:FrameExt F emp m w emp m w':=⟨b1,b2,b3,b4,fun b hb _=>b5 b hb,fun id o h=>(by cases h),fun id o h=>(by cases h)⟩
 exact⟨v,m,rfl,⟨fun id o h=>(by cases h),fun i j oi oj b h=>(by cases h),fun id o b h=>(by cases h),fun id o b h=>(by cases h),fun b h=>zn (hS.low b h) b4,hS.held hF⟩,hF,hr _ _ _ _ v hR⟩
theorem FC.ofTab{f:FuncId}{args:List AVal}{us:List Value}{res:AVal}{v:Value}(ha:∀(st:Store) (m:Place) (w:World) (ok:Nat->Prop) (xs:List Value),xs.length=args.length->
 (∀(i:Nat) (a:AVal) (u:Value),args[i]? =some a->xs[i]? =some u->VRel st m w ok a u)->xs=us)
 (hr:∀(st:Store) (m:Place) (w:World) (ok:Nat->Prop),VRel st m w ok res v)
 (h:∀w,TabW P w->Calls P f us.toArray w fun e w'=>e= .returned v/\RowKit.Below w.heap.size w w'):FC P f args emp res emp:=
 FC.ofTabR (R:=fun u=>u=v) ha (fun st m w ok u hu=>by rw[hu];exact hr st m w ok) (fun w hT=>(h w hT).mono fun e w' k=>⟨⟨v,k.1,rfl⟩,k.2⟩)
end Go.Ab
end
section
namespace Go.Ab
open Go
variable {P:Program} {n:Nat} {l0:List (Nat×Ob)} {s:St}
theorem Le.fz{id k:Nat}{xs:List Tree}(hid:s.st id=some (.row k false xs)):Le n l0 s ⟨s.sl,upd s.st id (.row k true xs),s.nx⟩:=by
 intro P F m0 w0 m a w h0 h1 h2
 obtain⟨r1,r2⟩:=freeze h1.srel hid
 refine⟨m,⟨fun t'=>r2.val (h1.slots t'),h1.size,h1.defers.ext r2,r1,fun i hi=> ?_⟩,h2.trans h0 r2⟩
 have hi':s.nx<=i:=hi
 have:i≠id:=fun e=>by subst e;rw[h1.fresh i hi] at hid;cases hid
 show upd s.st id (.row k true xs) i=none
 rw[z0l this]
 exact h1.fresh i hi
end Go.Ab
end
section
namespace Go.Ab
variable {P:Program} {w w':World} {F:Fen P} {st:Store} {m:Place} {ok ok':Nat->Prop}
def Still(ok:Nat->Prop)(w w':World):Prop:=∀b us e z,ok b->w.heap[b]? =some (.cells us e z)->w'.heap[b]? =w.heap[b]?
theorem z7z{b o:Nat}{u:Value}(h:w.cell? ⟨b,o,none⟩=some u):∃us e z,w.heap[b]? =some (.cells us e z):=by
 unfold World.cell? at h
 split at h
 ·rename_i c e z hb;exact⟨c,e,z,hb⟩
 ·cases h
theorem Still.cell(h:Still ok w w'){b o:Nat}{u:Value}(hb:ok b)(hc:w.cell? ⟨b,o,none⟩=some u):w'.cell? ⟨b,o,none⟩=some u:=by
 obtain⟨us,e,z,hh⟩:=z7z hc
 rw[z2V (h b us e z hb hh)];exact hc
theorem TRep.still(hok:∀b,ok b->ok' b)(hs:Still ok w w'){T:Tree}{v:Value}(h:TRep w ok T v):TRep w' ok' T v:=h.mono hok (fun b o u hb hc=>hs.cell hb hc)
theorem VRel.still(hok:∀b,ok b->ok' b)(hs:Still ok w w'){v:AVal}{u:Value}(h:VRel st m w ok v u):VRel st m w' ok' v u:=by
 induction h with
 |t T u hT=>exact .t T u (hT.still hok hs)
 |xl k xs u hT hc=>exact .xl k xs u (hT.still hok hs) hc
 |row id n k fz xs L h1 h2 h3=>exact .row id n k fz xs L h1 h2 h3
 |ptr id off cs b h1 h2=>exact .ptr id off cs b h1 h2
 |bsl id n cs b h1 h2=>exact .bsl id n cs b h1 h2
 |bslG id n L h1=>exact .bslG id n L h1
 |eptr id n i sub k fz xs b h1 h2 h3=>exact .eptr id n i sub k fz xs b h1 h2 h3
 |mat id fz xs hh L h1 h2=>exact .mat id fz xs hh L h1 h2
 |mptr id i fz xs hh b h1 h2=>exact .mptr id i fz xs hh b h1 h2
 |cptr cs b o us h1 h2 h3 h4 h5=>exact .cptr cs b o us (hok _ h1) h2 h3 (fun j u hu=>hs.cell h1 (h4 j u hu)) (fun j T u a b=>(h5 j T u a b).still hok hs)
 |agg cs us h1 _ h3 ih=>exact .agg cs us h1 ih h3
 |fn f cap us h1 _ ih=>exact .fn f cap us h1 ih
 |tup vs us h1 _ ih=>exact .tup vs us h1 ih
 |cond c v u _ h0 ih=>exact .cond c v u ih h0
 |junk u=>exact .junk u
 |rowG id n L h1=>exact .rowG id n L h1
 |eptrG id n i sub b o h1=>exact .eptrG id n i sub b o h1
 |anyB b=>exact .anyB b
 |ifc t u=>exact .ifc t u
 |tail id n i k fz xs L h1 h2 h3 h4=>exact .tail id n i k fz xs L h1 h2 h3 h4
 |tailG id n i k L h1=>exact .tailG id n i k L h1
 |hdl id o b u h1 h2 h3=>exact .hdl id o b u h1 h2 h3
 |ptrG id off b h1=>exact .ptrG id off b h1
 |yl id Y pre h1=>exact .yl id Y pre h1
theorem RowAt.still(hok:∀b,ok b->ok' b)(hs:Still ok w w'){k:Nat}{xs:List Tree}{L:Option Nat×Nat}(hb:∀b,L.1=some b->w'.heap[b]? =w.heap[b]?)(h:RowAt w ok k xs L):RowAt w' ok' k xs L:=by
 obtain⟨a1,a2,a3,a4,a5⟩:=h
 refine⟨a1,a2,a3,a4,a5.imp (fun h=>h) ?_⟩
 rintro⟨b,us,e,h1,h2,h3,h4,h5⟩
 exact⟨b,us,e,h1,(hb b h1).trans h2,h3,h4,fun j T u p q=>(h5 j T u p q).still hok hs⟩
theorem MRel.still(hok:∀b,ok b->ok' b)(hs:Still ok w w'){v:MV}{u:Value}{c:Option Nat}(hb:∀b,c=some b->w'.heap[b]? =w.heap[b]?)(h:MRel st m w ok v u c):MRel st m w' ok' v u c:=by
 cases v with
 |im T=>exact⟨h.1.still hok hs,h.2⟩
 |cp cs=>exact⟨h.1.still hok hs,h.2⟩
 |bx cs=>
  obtain⟨b,us,e,h1,h2,h3,h4,h5,h6⟩:=h
  exact⟨b,us,e,h1,h2,(hb b h1).trans h3,h4,h5,fun i T u p q=>(h6 i T u p q).still hok hs⟩
 |rw k xs=>
  obtain⟨L,h1,h2,h3⟩:=h
  exact⟨L,h1,h2,h3.still hok hs (fun b e=>hb b (h2.symm.trans e))⟩
theorem ORel.still(hok:∀b,ok b->ok' b)(hs:Still ok w w'){o:Ob}{L:Option Nat×Nat}{g:List Nat}(hx:∀Y pre,o= .ext Y pre->Y.holds pre g w->(∀b,Y.D b->ok b)->Y.holds pre g w')(hb:∀b,(L.1=some b\/b∈g)->w'.heap[b]? =w.heap[b]?)(h:ORel st m w ok o L g):ORel st m w' ok' o L g:=by
 cases o with
 |box cs=>
  obtain⟨b,us,e,h1,h2,h3,h4⟩:=h
  exact⟨b,us,e,h1,(hb b (.inl h1)).trans h2,h3,fun i v u p q=>⟨(h4 i v u p q).1.still hok hs,(h4 i v u p q).2⟩⟩
 |mat fz xs hh=>
  obtain⟨⟨b,us,e,h1,h2,h3,h4⟩,q⟩:=h
  exact⟨⟨b,us,e,h1,(hb b (.inl h1)).trans h2,h3,fun i v u p q=>⟨(h4 i v u p q).1.still hok hs,(h4 i v u p q).2⟩⟩,q⟩
 |row k fz xs=>exact RowAt.still hok hs (fun b e=>hb b (.inl e)) h
 |gone=>exact h
 |siter s pos=>
  obtain⟨b,h1,h2⟩:=h
  exact⟨b,h1,(hb b (.inl h1)).trans h2⟩
 |mp es hh=>
  obtain⟨b,ents,bl,h1,h2,h3,h4,h5,h6,h7⟩:=h
  refine⟨b,ents,bl,h1,(hb b (.inl h1)).trans h2,h3,h4,h5,h6,fun i x e p q=> ?_⟩
  obtain⟨q1,q2,q3⟩:=h7 i x e p q
  have hbl:∀b',bl i=some b'->w'.heap[b']? =w.heap[b']? :=fun b' e'=>hb b' (.inr (h5 i b' (qB.1 p).1 e').1)
  refine⟨q1,q2,?_⟩
  match hh with
  |none=>exact MRel.still hok hs hbl q3
  |some (k',v')=>exact⟨fun e=>⟨(q3.1 e).1.still hok hs,(q3.1 e).2⟩,fun e=>(q3.2 e).still hok hs hbl⟩
 |miter mid n seen=>
  obtain⟨b,bm,h1,h2,h3,h4⟩:=h
  exact⟨b,bm,h1,h2,h3,(hb b (.inl h1)).trans h4⟩
 |ext Y pre=>
  exact⟨h.1,hx Y pre rfl h.2.1 h.2.2,fun b hD=>hok b (h.2.2 b hD)⟩
theorem okB.grow(hsz:w.heap.size<=w'.heap.size){b:Nat}(h:okB F st m w b):okB F st m w' b:=⟨by have:=h.1;omega,h.2⟩
theorem SRel.still(hS:SRel F st m w)(hs:Still (okB F st m w) w w')(hx:∀id Y pre,st id=some (.ext Y pre)->Y.holds pre (m.g id) w->(∀b,Y.D b->okB F st m w b)->Y.holds pre (m.g id) w')(hsz:w.heap.size<=w'.heap.size)(hb:∀id o b,st id=some o->m.has id b->w'.heap[b]? =w.heap[b]?)(hh:∀b o,F.says b o->w'.heap[b]? =some o):SRel F st m w':=
 ⟨fun id o ho=>(hS.objs id o ho).still (fun b h=>h.grow hsz) hs (fun Y pre e=>hx id Y pre (e▸ho)) (fun b h=>hb id o b ho h),hS.inj,hS.avoid,fun id o b ho h=>zn (hS.lt id o b ho h) hsz,fun b h=>zn (hS.low b h) hsz,hh⟩
theorem z1v{D:Nat}{o:Obj}{b:Nat}(h:b≠D):(w.putObj D o).heap[b]? =w.heap[b]? :=World.putObj_heap_other h
theorem y5S(hS:SRel F st m w){D:Nat}(hD:w.heap[D]? =some (.deferred (some [])))(hn:∀id o,st id=some o->¬m.has id D):
 SRel F st m (w.putObj D (.deferred none))/\Still (okB F st m w) w (w.putObj D (.deferred none)):=by
 have hs:Still (okB F st m w) w (w.putObj D (.deferred none)):=fun b us e z _ hc=>z1v (fun e=>by subst e;rw[hD] at hc;cases hc)
 refine⟨hS.still hs (fun id Y pre hi hh _=>Y.stabD _ _ _ _ D hh hD (fun hg=>hn id _ hi (.inr hg)) (by simp) (fun b hb=>z1v hb)) (by simp) (fun id o b ho hb=>z1v (fun e=>hn id o ho (e▸hb))) (fun b o h=> ?_),hs⟩
 rw[z1v (fun e=> ?_)]
 ·exact hS.hold b o h
 ·subst e
  obtain⟨us,e,z,rfl⟩:=F.cel b o h
  have:=hS.hold b _ h
  rw[hD] at this;cases this
theorem z23{fn:Func}{tmps:Array Value}{R:Ending->World->Prop}{l0:List (Nat×Ob)}{m0:Place}{w0:World}(hlo:F.lo=w0.heap.size){sl:List (Nat×AVal)}:∀(l:List Nat) (w:World),l.Nodup->
 (∀D∈l,F.lo<=D/\(∀id o,st id=some o->¬m.has id D)/\w.heap[D]? =some (.deferred (some [])))->SRel F st m w->z1k st m w (okB F st m w) sl tmps->FrameExt F (app emp l0) m0 w0 st m w->
 (∀w',SRel F st m w'->z1k st m w' (okB F st m w') sl tmps->FrameExt F (app emp l0) m0 w0 st m w'->∃v,(results fn tmps).run P w'= .ok v w'/\R (.returned v) w')->LeavesInM Fence.wide 0 P fn tmps R (l.map markD) .returning w
 | [],w,_,_,hS,hsl,hF,hR=>by
  obtain⟨v,h1,h2⟩:=hR w hS hsl hF
  exact⟨v,h1,h2⟩
 |D::l,w,hn,hl,hS,hsl,hF,hR=>by
  rw[List.nodup_cons] at hn
  obtain⟨d1,d2,d3⟩:=hl D List.mem_cons_self
  obtain⟨k1,k2⟩:=y5S hS d3 d2
  refine⟨by simp,.inl ⟨D,_,rfl,run_takeDeferred d3,?_⟩⟩
  refine z23 hlo l _ hn.2 (fun D' hD'=> ?_) k1 (fun t=>(hsl t).still (fun b h=>h.grow (by simp)) k2) ?_ hR
  ·obtain⟨e1,e2,e3⟩:=hl D' (qC _ hD')
   exact⟨e1,e2,(z1v (fun e=>hn.1 (by rw[<-e];exact hD'))).trans e3⟩
  ·refine⟨hF.os,hF.tape,hF.output,by simpa using hF.size,fun b hb hf=> ?_,hF.keep,hF.new⟩
   rw[z1v (fun e=>by omega)]
   exact hF.block b hb hf
end Go.Ab
end
section
namespace Go.Ab
open Go
variable {P:Program} {n:Nat} {l0:List (Nat×Ob)} {s:St}
theorem y3u{ty:TypeId}{u v:Value}{w:World}(h:(Instr.loadAt ty u).run P w= .ok v w):∃a,u= .pointer (some a)/\(loadVar ty a).run P w= .ok v w:=by
 unfold Instr.loadAt at h
 cases u with
 |pointer p=>
  cases p with
  |some a=>exact⟨a,rfl,by simpa[Instr.sureAddr] using h⟩
  |none=>simp[Instr.sureAddr,stuck] at h
 |_=>simp[Instr.sureAddr,stuck] at h
def z4Z(P:Program)(sl:List (Nat×AVal))(st:Store):List ResultVar->Option (List AVal)
 | []=>some []
 | .tmp t::l=>(z4Z P sl st l).map (get sl t:: ·)
 | .cell t ty::l=>match loadK P ty (get sl t) st Orc.no,z4Z P sl st l with
  |some ⟨v,_,[]⟩,some vs=>some (v::vs)
  |_,_=>none
def resM(P:Program)(rs:List ResultVar)(sl:List (Nat×AVal))(st:Store):Option AVal:=
 match z4Z P sl st rs with
 |some [v]=>some v
 |some vs=>some (.tup vs)
 |none=>none
def FinM(P:Program)(n:Nat)(l0:List (Nat×Ob))(rs:List ResultVar)(res:AVal)(l1:List (Nat×Ob))(e:Exit)(s:St):Prop:=
 (e= .ret\/e= .normal)/\∃s' r0 s2,Le n l0 s s'/\resM P rs s'.sl s'.st=some r0/\Le 1 l0 ⟨[(0,r0)],s'.st,s'.nx⟩ s2/\s2.st=app emp l1/\get s2.sl 0=res
theorem FinM.here{rs:List ResultVar}{res:AVal}{l1:List (Nat×Ob)}{e:Exit}{s':St}(he:e= .ret\/e= .normal)(h:Le n l0 s s')(hs:s'.st=app emp l1)(hr:resM P rs s'.sl s'.st=some res):FinM P n l0 rs res l1 e s:=
 ⟨he,s',res,⟨[(0,res)],s'.st,s'.nx⟩,h,hr,Le.refl _,hs,by simp[get]⟩
theorem FinM.le{rs:List ResultVar}{res:AVal}{l1:List (Nat×Ob)}{e:Exit}{s':St}(h:Le n l0 s s')(k:FinM P n l0 rs res l1 e s'):FinM P n l0 rs res l1 e s:=by
 obtain⟨k1,s2,r0,s3,k2,k3,k4⟩:=k
 exact⟨k1,s2,r0,s3,h.trans k2,k3,k4⟩
theorem z4B{F:Fen P}{m:Place}{w:World}{a:Act}{sl:List (Nat×AVal)}{st:Store}(hS:SRel F st m w)(hsl:∀t,VRel st m w (okB F st m w) (get sl t) (a.tmps.getD t undef))
 (g:ResultVar->Sem Value) (g1:∀t,g (.tmp t)=pure (a.tmps.getD t undef)) (g2:∀t ty b v,a.tmps.getD t undef= .pointer (some b)->(loadVar ty b).run P w= .ok v w->(g (.cell t ty)).run P w= .ok v w):
 ∀(rs:List ResultVar) (vs:List AVal),z4Z P sl st rs=some vs->∃us,(rs.mapM g).run P w= .ok us w/\us.length=vs.length/\∀(i:Nat) (v:AVal) (u:Value),vs[i]? =some v->us[i]? =some u->VRel st m w (okB F st m w) v u
 | [],vs,h=>by
  simp only[z4Z,qb] at h
  subst h
  exact⟨[],by simp,rfl,fun i v u hv=>by simp at hv⟩
 | .tmp t::l,vs,h=>by
  simp only[z4Z,qe] at h
  obtain⟨vs',h1,rfl⟩:=h
  obtain⟨us,q1,q2,q3⟩:=z4B hS hsl g g1 g2 l vs' h1
  refine⟨a.tmps.getD t undef::us,by rw[List.mapM_cons,g1];simp only[Sem.run_bind,Sem.run_pure,Result.andThen_ok,q1],by simp[q2],fun i v u hv hu=> ?_⟩
  cases i with
  |zero=>simp only[zw,qb] at hv hu;subst hv;subst hu;exact hsl t
  |succ i=>exact q3 i v u (by simpa using hv) (by simpa using hu)
 | .cell t ty::l,vs,h=>by
  simp only[z4Z] at h
  split at h
  ·rename_i v0 wr vs' hk h1
   simp only[qb] at h
   subst h
   obtain⟨us,q1,q2,q3⟩:=z4B hS hsl g g1 g2 l vs' h1
   obtain⟨v,r1,r2,_⟩:=z5H hk trivial (fun _ _ h=>h) hS (hsl t)
   obtain⟨b,hb,r3⟩:=y3u r1
   refine⟨v::us,by rw[List.mapM_cons];simp only[Sem.run_bind,Sem.run_pure,g2 t ty b v hb r3,Result.andThen_ok,q1],by simp[q2],fun i v' u hv hu=> ?_⟩
   cases i with
   |zero=>simp only[zw,qb] at hv hu;subst hv;subst hu;exact r2
   |succ i=>exact q3 i v' u (by simpa using hv) (by simpa using hu)
  ·cases h
theorem FC.of_simM{f:FuncId}{fn:Func}{c:Code}{args:List AVal}{res:AVal}{l1:List (Nat×Ob)}{nx:Nat}(hf:P.funcs[f]? =some fn)(hb:fn.body=some c)(hn:(args.length).ble fn.ntmps=true)
 (hnx:l0.all (fun x=>Nat.blt x.1 nx)=true) (h:Sim P fn.ntmps l0 c ⟨z2J 0 args,app emp l0,nx⟩ (FinM P fn.ntmps l0 fn.results.toList res l1)):FC P f args (app emp l0) res (app emp l1):=by
 intro F₀ m w us hS hl hr
 obtain⟨F,hF⟩:∃F:Fen P,F={F₀ with rnd:=none,lo:=w.heap.size}:=⟨_,rfl⟩
 have key:∀(F:Fen P),F.rnd=none->F.lo=w.heap.size->SRel F (app emp l0) m w->(∀(i:Nat) (v:AVal) (u:Value),args[i]? =some v->us[i]? =some u->VRel (app emp l0) m w (okB F (app emp l0) m w) v u)->
  Calls P f us.toArray w fun e w'=> ∃v m',e= .returned v/\SRel F (app emp l1) m' w'/\FrameExt F (app emp l0) m w (app emp l1) m' w'/\VRel (app emp l1) m' w' (okB F (app emp l1) m' w') res v:=by
  clear hF F hS hr F₀
  intro F hrnd hlo hS hr
  have hfw:fw F=Fence.wide:=by unfold fw;rw[hrnd];rfl
  have hn:=qx hn
  refine(callsIn_wide (n:=0)).1 (callsIn_of_wp_marks hf hb trivial ?_ rfl)
  have hrel:Rel F fn.ntmps ⟨z2J 0 args,app emp l0,nx⟩ m {tmps:=us.toArray++Array.replicate (fn.ntmps-us.toArray.size) undef,defers:=[]} w:=by
   refine⟨fun t=> ?_,by simp;omega,Marks.nil (by omega) (fun l hl=>by rw[hrnd] at hl;cases hl),hS,fun id hid=> ?_⟩
   ·rw[z4Y,if_pos (qR _),Nat.sub_zero]
    cases ha:args[t]? with
    |none=>exact .junk _
    |some v=>
     have hlt:t<us.length:=by rw[hl];exact(qB.1 ha).1
     have:=hr t v us[t] ha (qa hlt)
     have e:(us.toArray++Array.replicate (fn.ntmps-us.toArray.size) undef).getD t undef=us[t]:=by
      have hlt':t< (us.toArray++Array.replicate (fn.ntmps-us.toArray.size) undef).size:=by simp;omega
      simp[Array.getElem?_append,hlt]
     rw[e];exact this
   ·show app emp l0 id=none
    cases hh:app emp l0 id with
    |none=>rfl
    |some o=>
     obtain⟨x,hx,rfl⟩:=qy.1 (z1M hh)
     have:=zd (qx (qQ.1 hnx x hx))
     simp only at hid
     omega
  have hsim:=h F m w m _ w hS hrel (FrameExt.refl F _ m w)
  rw[hfw] at hsim
  refine wpIn_mono hsim ?_
  rintro e a' w' ⟨s,m1,q1,q2,he,s',r0,s2,hle,hres,hle2,hst,hg⟩
  obtain⟨m2,r1,r2⟩:=hle F m w m1 a' w' hS q1 q2
  suffices hlv:LeavesInM Fence.wide 0 P fn a'.tmps (fun e w'=> ∃v m',e= .returned v/\SRel F (app emp l1) m' w'/\FrameExt F (app emp l0) m w (app emp l1) m' w'/\VRel (app emp l1) m' w' (okB F (app emp l1) m' w') res v) a'.defers .returning w' by
   rcases he with rfl|rfl
   ·exact hlv
   ·exact hlv
  obtain⟨⟨ds,hd1,hd2,hd3⟩,-,-⟩:=r1.defers
  rw[hd1]
  refine z23 hlo ds w' hd2 hd3 r1.srel r1.slots r2 (fun w' g1 g2 g3=> ?_)
  have r1:Rel F fn.ntmps s' m2 {tmps:=a'.tmps,defers:=[]} w':=⟨g2,r1.size,Marks.nil (by have:=g3.size;omega) (fun l hl=>by rw[hrnd] at hl;cases hl),g1,r1.fresh⟩
  have r2:=g3
  have hrun:∃v,(results fn a'.tmps).run P w'= .ok v w'/\VRel s'.st m2 w' (okB F s'.st m2 w') r0 v:=by
   unfold resM at hres
   have key:∀vs,z4Z P s'.sl s'.st fn.results.toList=some vs->∃us:List Value,(results fn a'.tmps).run P w'= .ok (if h:us.toArray.size=1 then us.toArray[0] else .tuple us.toArray) w'/\us.length=vs.length/\
    ∀(i:Nat) (v:AVal) (u:Value),vs[i]? =some v->us[i]? =some u->VRel s'.st m2 w' (okB F s'.st m2 w') v u:=by
    intro vs hvs
    have e2:fn.results=fn.results.toList.toArray:=by simp
    have hg:∀(g:ResultVar->Sem Value),(∀t,g (.tmp t)=pure (a'.tmps.getD t undef))->(∀t ty b v,a'.tmps.getD t undef= .pointer (some b)->(loadVar ty b).run P w'= .ok v w'->(g (.cell t ty)).run P w'= .ok v w')->∃us:List Value,(fn.results.toList.mapM g).run P w'= .ok us w'/\us.length=vs.length/\
     ∀(i:Nat) (v:AVal) (u:Value),vs[i]? =some v->us[i]? =some u->VRel s'.st m2 w' (okB F s'.st m2 w') v u:=fun g g1 g2=>z4B r1.srel r1.slots (a:=a') g g1 g2 fn.results.toList vs hvs
    obtain⟨us,u1,u2,u3⟩:=hg (fun| .tmp t=>pure (a'.tmps.getD t undef)| .cell t type=>do loadVar type (<-asAddr (a'.tmps.getD t undef))) (fun t=>rfl) (fun t ty b v hb hl=>by
     have hb':(a'.tmps[t]?).getD undef= .pointer (some b):=by simpa using hb
     simp[hb',asAddr,hl])
    refine⟨us,?_,u2,u3⟩
    unfold results
    rw[e2,List.mapM_toArray]
    simp only[Sem.run_bind,Sem.run_map]
    erw [u1]
    simp only[Result.andThen_ok,Sem.run_pure]
   split at hres
   ·rename_i v hv
    simp only[qb] at hres
    subst hres
    obtain⟨us,u1,u2,u3⟩:=key _ hv
    match us,u2 with
    | [u],_=>exact⟨u,by rw[u1];rfl,u3 0 v u rfl rfl⟩
   ·rename_i vs hne hvs
    simp only[qb] at hres
    subst hres
    obtain⟨us,u1,u2,u3⟩:=key _ hvs
    have h1:us.toArray.size≠1:=by
     intro e
     simp at e
     match vs,u2 with
     | [v],_=>exact hne v rfl
     | [],u2=>simp at u2;rw[u2] at e;cases e
     |_::_::_,u2=>rw[e] at u2;simp at u2
    exact⟨_,by rw[u1,dif_neg h1],.tup _ _ (by simpa using u2) u3⟩
   ·cases hres
  obtain⟨v,hv1,hv2⟩:=hrun
  have hrel2:Rel F 1 ⟨[(0,r0)],s'.st,s'.nx⟩ m2 {tmps:=#[v],defers:=[]} w':=by
   refine⟨fun t=> ?_,rfl,Marks.nil (by have:=g3.size;omega) (fun l hl=>by rw[hrnd] at hl;cases hl),r1.srel,r1.fresh⟩
   simp only[get]
   by_cases e:0=t
   ·subst e;simpa using hv2
   ·rw[z0O e,cond_false];exact .junk _
  obtain⟨m3,t1,t2⟩:=hle2 F m w m2 _ w' hS hrel2 r2
  have hv3:=t1.slots 0
  rw[hg] at hv3
  have hv3:VRel s2.st m3 w' (okB F s2.st m3 w') res v:=by simpa using hv3
  rw[hst] at hv3 t2
  have hs1:=t1.srel
  rw[hst] at hs1
  exact⟨v,hv1,v,m3,rfl,hs1,t2,hv3⟩
 have hS':SRel F (app emp l0) m w:=by rw[hF];exact⟨hS.objs,hS.inj,hS.avoid,hS.lt,hS.low,hS.hold⟩
 refine(key F (by rw[hF]) (by rw[hF]) hS' (by rw[hF];exact hr)).mono ?_
 rintro e w' ⟨v,m',rfl,k1,k2,k3⟩
 rw[hF] at k1 k2 k3
 exact⟨v,m',rfl,⟨k1.objs,k1.inj,k1.avoid,k1.lt,k1.low,k1.hold⟩,⟨k2.os,k2.tape,k2.output,k2.size,k2.block,k2.keep,k2.new⟩,k3⟩
end Go.Ab
end
section
namespace Go.Ab
variable {P:Program} {w:World} {F:Fen P} {S st:Store} {m:Place}
variable {n:Nat} {l0:List (Nat×Ob)} {s:St} {Q:Exit->St->Prop}
theorem Le.slot{t:Nat}{v v':AVal}(hg:get s.sl t=v)(hv:∀st m w ok u,VRel st m w ok v u->VRel st m w ok v' u):Le n l0 s ⟨(t,v')::s.sl,s.st,s.nx⟩:=by
 intro P F m0 w0 m a w h0 h1 h2
 refine⟨m,⟨fun t'=> ?_,h1.size,h1.defers,h1.srel,h1.fresh⟩,h2⟩
 simp only[get]
 by_cases e:t=t'
 ·subst e
  have:=h1.slots t
  rw[hg] at this
  simp only[Nat.beq_refl,cond_true]
  exact hv _ _ _ _ _ this
 ·rw[z0O e,cond_false];exact h1.slots t'
theorem y3v{k:Nat}(hk:0<k):∀(st:Store) (m:Place) (w:World) (ok:Nat->Prop) (u:Value),VRel st m w ok (.t (.sc (.slice none 0 0))) u->VRel st m w ok (.t (.lst k [])) u:=by
 intro st m w ok u h
 have:=VRel.sc_inv h
 subst this
 exact .t _ _ (.lst k [] none 0 [] hk (fun x hx=>by simp at hx) (qr _) (by simp[maxLen]) (fun h=>absurd rfl h) (by simp) (fun j T u hT=>by simp[flat] at hT))
theorem Le.nilLst{t k:Nat}(hg:get s.sl t= .t (.sc (.slice none 0 0)))(hk:Nat.blt 0 k=true):Le n l0 s ⟨(t,.t (.lst k []))::s.sl,s.st,s.nx⟩:=
 Le.slot hg (y3v (z2Z hk))
theorem Le.freeze{t:Nat}{v v':AVal}{g:List (Nat×Ob)}{p:List Prop}(hg:get s.sl t=v)(hs:snap s.st v=some (v',g,p))(hp:All p)(hn:g.all (fun x=>Nat.blt x.1 s.nx)=true):Le n l0 s ⟨(t,v')::s.sl,app s.st g,s.nx⟩:=by
 intro P F m0 w0 m a w h0 h1 h2
 have hv:=h1.slots t
 rw[hg] at hv
 have hk:=z0u (fun _ _ h=>h) h1.srel hs hp hv
 obtain⟨r1,r2,r3,r4⟩:=z1d g s.st h1.srel hk.1
 refine⟨m,⟨fun t'=> ?_,h1.size,h1.defers.ext r2,r1,fun id hid=> ?_⟩,h2.trans h0 r2⟩
 ·simp only[get]
  by_cases e:t=t'
  ·subst e
   simp only[Nat.beq_refl,cond_true]
   exact hk.2 g hk.1 (fun x hx=>hx)
  ·rw[z0O e,cond_false]
   exact r2.val (h1.slots t')
 ·show app s.st g id=none
  have hid':s.nx<=id:=hid
  have hm:id∉g.map (·.1):=fun hm=>by
   obtain⟨x,hx,rfl⟩:=qy.1 hm
   have h1:=qQ.1 hn x hx
   have:x.1<s.nx:=zd (qx h1)
   omega
  rw[r4 id hm]
  exact h1.fresh id hid
theorem z9S{S:Store}{m:Place}{w:World}{P:Program}{F:Fen P}(hS:SRel F S m w){v v':AVal}{f:List (Nat×Ob)}{p:List Prop}(h:snapR S v=some (v',f,p))(hp:All p){u:Value}
 (hv:VRel S m w (okB F S m w) v u):y0C F S m w v' f u:=by
 cases v with
 |tup vs=>
  simp only[snapR,qe] at h
  obtain⟨⟨vs',f',p'⟩,h1,h2⟩:=h
  simp only[qF] at h2
  obtain⟨rfl,rfl,rfl⟩:=h2
  cases hv with
  |tup _ us' hl' h1'=>
   have:=z1Z (fun _ _ h=>h) hS h1 hp hl' h1'
   exact⟨this.2.1,fun g' hg hfg=> .tup vs' us' this.1.symm (fun i v u hv hu=>this.2.2 g' hg hfg i v u hv hu)⟩
 |t T=>simp only[snapR] at h;exact z0u (fun _ _ h=>h) hS h hp hv
 |row id n=>simp only[snapR] at h;exact z0u (fun _ _ h=>h) hS h hp hv
 |ptr id off=>simp only[snapR] at h;exact z0u (fun _ _ h=>h) hS h hp hv
 |eptr id n i sub=>simp only[snapR] at h;exact z0u (fun _ _ h=>h) hS h hp hv
 |mat id=>simp only[snapR] at h;exact z0u (fun _ _ h=>h) hS h hp hv
 |mptr id i=>simp only[snapR] at h;exact z0u (fun _ _ h=>h) hS h hp hv
 |cptr cs=>simp only[snapR] at h;exact z0u (fun _ _ h=>h) hS h hp hv
 |agg cs=>simp only[snapR] at h;exact z0u (fun _ _ h=>h) hS h hp hv
 |fn f cap=>simp only[snapR] at h;exact z0u (fun _ _ h=>h) hS h hp hv
 |cond c v=>simp only[snapR] at h;exact z0u (fun _ _ h=>h) hS h hp hv
 |junk=>simp only[snapR] at h;exact z0u (fun _ _ h=>h) hS h hp hv
 |anyB=>simp only[snapR] at h;exact z0u (fun _ _ h=>h) hS h hp hv
 |ifc=>simp only[snapR] at h;exact z0u (fun _ _ h=>h) hS h hp hv
 |tail id n i=>simp only[snapR] at h;exact z0u (fun _ _ h=>h) hS h hp hv
 |hdl id=>simp only[snapR] at h;exact z0u (fun _ _ h=>h) hS h hp hv
 |xl k xs=>simp only[snapR] at h;exact z0u (fun _ _ h=>h) hS h hp hv
 |yl id=>simp only[snapR] at h;exact z0u (fun _ _ h=>h) hS h hp hv
 |bsl id n=>simp only[snapR] at h;exact z0u (fun _ _ h=>h) hS h hp hv
theorem Le.freezeR{t:Nat}{v v':AVal}{g:List (Nat×Ob)}{p:List Prop}(hg:get s.sl t=v)(hs:snapR s.st v=some (v',g,p))(hp:All p)(hn:g.all (fun x=>Nat.blt x.1 s.nx)=true):Le n l0 s ⟨(t,v')::s.sl,app s.st g,s.nx⟩:=by
 intro P F m0 w0 m a w h0 h1 h2
 have hv:=h1.slots t
 rw[hg] at hv
 have hk:=z9S h1.srel hs hp hv
 obtain⟨r1,r2,r3,r4⟩:=z1d g s.st h1.srel hk.1
 refine⟨m,⟨fun t'=> ?_,h1.size,h1.defers.ext r2,r1,fun id hid=> ?_⟩,h2.trans h0 r2⟩
 ·simp only[get]
  by_cases e:t=t'
  ·subst e
   simp only[Nat.beq_refl,cond_true]
   exact hk.2 g hk.1 (fun x hx=>hx)
  ·rw[z0O e,cond_false]
   exact r2.val (h1.slots t')
 ·show app s.st g id=none
  have hid':s.nx<=id:=hid
  have hm:id∉g.map (·.1):=fun hm=>by
   obtain⟨x,hx,rfl⟩:=qy.1 hm
   have h1:=qQ.1 hn x hx
   have:x.1<s.nx:=zd (qx h1)
   omega
  rw[r4 id hm]
  exact h1.fresh id hid
theorem y7O{α:Type}{f:α->Tree}{l:List α}:AVal.t (.sc (.int .i64 (l.length:Int)))=AVal.t (.sc (.int .i64 ((l.map f).length:Int))):=by simp
theorem z7A{α:Type}[Inhabited α]{f:α->Tree}{l:List α}{k:Nat}(h:k<l.length):(l.map f)[k]? =some (f (l.getD k default)):=by
 simp[qa h,List.getD]
theorem y7P{id n i j k:Nat}(h:i=j):AVal.eptr id n i k=AVal.eptr id n j k:=by rw[h]
theorem y9m{k:IntKind}{a b:Int}:AVal.t (.sc (.int k (max a b)))=AVal.t (.sc (.int k (if b>a then b else a))):=by
 congr 3;split<;>omega
theorem y9n{k:IntKind}{a b:Int}:AVal.t (.sc (.int k (min a b)))=AVal.t (.sc (.int k (if b<a then b else a))):=by
 congr 3;split<;>omega
theorem z6L{α:Type}{f:α->Tree}{l l':List α}{ys:List Tree}{id k:Nat}(h:l'.map f=ys):[(id,Ob.row k false ((l++l').map f))]=[(id,Ob.row k false (l.map f++ys))]:=by
 rw[qU,h]
theorem y3w{α:Type}{f:α->Tree}{l:List α}{x:α}{X:Tree}{id k i:Nat}(h:f x=X):[(id,Ob.row k false ((l.set i x).map f))]=[(id,Ob.row k false ((l.map f).set i X))]:=by
 rw[List.map_set,h]
theorem y7Q{α:Type}{f:α->Tree}{l:List α}{i k:Nat}:AVal.t (.lst k ((l.drop i).map f))=AVal.t (.lst k ((l.map f).drop i)):=by rw[List.map_drop]
theorem y7R{α:Type}{f:α->Tree}{l:List α}{i k:Nat}:AVal.t (.lst k ((l.take i).map f))=AVal.t (.lst k ((l.map f).take i)):=by rw[List.map_take]
theorem y7S{α:Type}{f:α->Tree}{l:List α}{i j k:Nat}:AVal.t (.lst k (((l.take i).drop j).map f))=AVal.t (.lst k (((l.map f).take i).drop j)):=by rw[List.map_drop,List.map_take]
theorem Weak.of_eq{d v:AVal}(h:v=d):Weak d v:=by subst h;exact fun _ _ _ _ _ h=>h
theorem z3U{k:Nat}(hk:0<k):(Tree.sc (.slice none 0 0)=Tree.lst k []\/(Tree.sc (.slice none 0 0)= .sc (.slice none 0 0)/\∃k',0<k'/\Tree.lst k []= .lst k' [])):= .inr ⟨rfl,k,hk,rfl⟩
end Go.Ab
end
section
namespace Go.Ab
open Go
variable {P:Program} {w:World} {F:Fen P} {S st:Store} {m:Place}
variable {n:Nat} {l0:List (Nat×Ob)} {s:St}
theorem Elt.of_cell{x:Tree}(h:x.isCell=true):Elt 1 x:=by
 cases x with
 |agg cs=>simp[Tree.isCell] at h
 |sc v=>exact⟨rfl,fun T hT=>by simp[Tree.cells] at hT;subst hT;exact h⟩
 |lst k xs=>exact⟨rfl,fun T hT=>by simp[Tree.cells] at hT;subst hT;exact h⟩
theorem y2f{x:Tree}(h:x.isCell=true):x.cells=[x]:=by cases x<;>first|rfl|simp[Tree.isCell] at h
theorem z6M:∀{xs:List Tree},(∀x∈xs,x.isCell=true)->flat xs=xs
 | [],_=>rfl
 |x::xs,h=>by
  rw[flat,y2f (h x (by simp)),z6M (fun y hy=>h y (by simp[hy]))];rfl
theorem y3x(hS:SRel F S m w){id i r q k:Nat}{xs ys:List Tree}{fz:Bool}(hid:S id=some (.mat false xs (some (i,r,q))))(hr:S r=some (.row k fz ys))(hq:q=ys.length):
 SRel F (upd (upd S r (.row k true ys)) id (.mat false (xs.set i (.lst k ys)) none)) m w/\FrameExt F S m w (upd (upd S r (.row k true ys)) id (.mat false (xs.set i (.lst k ys)) none)) m w:=by
 have hne:id≠r:=fun e=>by subst e;rw[hid] at hr;cases hr
 obtain⟨f1,f2⟩:=freeze hS hr
 have hid1:upd S r (.row k true ys) id=some (.mat false xs (some (i,r,q))):=by rw[z0l hne];exact hid
 obtain⟨⟨b,us,e,q1,q2,q3,q4⟩,p1,p2,p3⟩:=f1.objs id _ hid1
 have hT:=z7m f1 (z0n S r (.row k true ys))
 have key:=z0P (o':= .mat false (xs.set i (.lst k ys)) none) f1 hid1 rfl q1 (w':=w) rfl rfl rfl rfl (fun _ _=>rfl) (by simp[Ob.len]) (by simp[Ob.same]) (fun hF=>by
  refine⟨⟨b,us,e,q1,q2,by rw[q3,z1I,z1I];simp,fun j v u hv hu=> ?_⟩,by simpa using p1,by simpa using p2,fun x hx=> ?_⟩
  ·rw[y0H,zu] at hv
   split at hv
   ·rename_i hij
    split at hv
    ·rename_i hlt
     simp only[qb] at hv
     subst hv;subst hij
     obtain⟨r1,r2⟩:=q4 i (.row r q) u (by simp only[matC,zu,if_true];rw[if_pos (by simpa[matC] using hlt)]) hu
     refine⟨?_,r2⟩
     cases r1 with
     |rowG _ _ L hs'=>rw[z0n] at hs';cases hs'
     |row _ _ k' fz' ys' L hs' hn' hu'=>
      rw[z0n] at hs'
      cases hs'
      have hL:=hu' hq
      rw[hL,<-hq] at hT
      exact hF.val (.t _ _ hT)
    ·cases hv
   ·rename_i hij
    obtain⟨r1,r2⟩:=q4 j v u (by simp only[matC,zu];rw[if_neg hij];exact hv) hu
    exact⟨hF.val r1,r2⟩
  ·rcases ze hx with hx|rfl
   ·exact p3 x hx
   ·rfl)
 exact⟨key.1,f2.trans hS key.2⟩
theorem Le.matClose{id i r q k:Nat}{xs ys:List Tree}{fz:Bool}(hid:s.st id=some (.mat false xs (some (i,r,q))))(hr:s.st r=some (.row k fz ys))(hq:q=ys.length){xs':List Tree}(hx:xs.set i (.lst k ys)=xs'):
 Le n l0 s ⟨s.sl,upd (upd s.st r (.row k true ys)) id (.mat false xs' none),s.nx⟩:=by
 subst hx
 intro P F m0 w0 m a w h0 h1 h2
 obtain⟨r1,r2⟩:=y3x h1.srel hid hr hq
 refine⟨m,⟨fun t'=>r2.val (h1.slots t'),h1.size,h1.defers.ext r2,r1,fun j hj=> ?_⟩,h2.trans h0 r2⟩
 have hj':s.nx<=j:=hj
 have e1:j≠id:=fun e=>by subst e;rw[h1.fresh j hj] at hid;cases hid
 have e2:j≠r:=fun e=>by subst e;rw[h1.fresh j hj] at hr;cases hr
 show upd (upd s.st r (.row k true ys)) id _ j=none
 rw[z0l e1,z0l e2]
 exact h1.fresh j hj
theorem y2g(hS:SRel F S m w){id:Nat}{xs:List Tree}(hid:S id=some (.mat false xs none)):
 SRel F (upd S id (.mat true xs none)) m w/\FrameExt F S m w (upd S id (.mat true xs none)) m w/\TRep w (okB F (upd S id (.mat true xs none)) m w) (.lst 1 xs) (z0D (m id) xs.length):=by
 obtain⟨⟨b,us,e,q1,q2,q3,q4⟩,p1,p2,p3⟩:=hS.objs id _ hid
 obtain⟨k1,k2⟩:=z0P (o':= .mat true xs none) hS hid rfl q1 (w':=w) rfl rfl rfl rfl (fun _ _=>rfl) (by simp[Ob.len]) (by simp[Ob.same]) (fun hF=>by
  refine⟨⟨b,us,e,q1,q2,q3,fun j v u hv hu=> ?_⟩,p1,p2,p3⟩
  obtain⟨r1,r2⟩:=q4 j v u hv hu
  exact⟨hF.val r1,r2⟩)
 refine⟨k1,k2,?_⟩
 have hid':upd S id (.mat true xs none) id=some (.mat true xs none):=z0n _ _ _
 obtain⟨⟨b',us',e',q1',q2',q3',q4'⟩,_⟩:=k1.objs id _ hid'
 rw[q1] at q1';cases q1'
 rw[z1I] at q3'
 have hrv:z0D (m id) xs.length= .slice (some ⟨b,0,none⟩) xs.length (m id).2:=by simp[z0D,q1]
 rw[hrv]
 refine .lst 1 xs _ _ us'.toList (by decide) (fun x hx=>Elt.of_cell (p3 x hx)) (by omega) (by omega) (fun _=>⟨b,0,rfl,⟨?_,?_,?_⟩,?_⟩) (by simp;omega) (fun j T u hj hu=> ?_)
 ·exact(qY.1 q2').1
 ·exact fun hb=>k1.avoid id _ b hid' (.inl q1) (F.sup b hb)
 ·intro i o hi hl hb
  have:=k1.inj id i _ _ b hid' hi (.inl q1) hb
  subst this
  rw[hid'] at hi;cases hi
  simp[Ob.live] at hl
 ·intro j u hu
  simp only[World.cell?,q2'];simpa using hu
 ·rw[z6M p3] at hj
  have hv:(matC xs none)[j]? =some (.t T):=by simp[matC,hj]
  obtain⟨r1,_⟩:=q4' j _ u hv (by simpa using hu)
  cases r1 with
  |t _ _ hT=>exact hT
theorem Le.matFreeze{t id:Nat}{xs:List Tree}(hg:get s.sl t= .mat id)(hid:s.st id=some (.mat false xs none)):Le n l0 s ⟨(t,.t (.lst 1 xs))::s.sl,upd s.st id (.mat true xs none),s.nx⟩:=by
 intro P F m0 w0 m a w h0 h1 h2
 obtain⟨r1,r2,r3⟩:=y2g h1.srel hid
 refine⟨m,⟨fun t'=> ?_,h1.size,h1.defers.ext r2,r1,fun j hj=> ?_⟩,h2.trans h0 r2⟩
 ·simp only[get]
  by_cases e:t=t'
  ·subst e
   simp only[Nat.beq_refl,cond_true]
   have hv:=h1.slots t
   rw[hg] at hv
   generalize a.tmps.getD t undef=u at hv|-
   cases hv with
   |mat _ fz xs' hh L hs' hm=>
    rw[hid] at hs';cases hs'
    subst hm
    exact .t _ _ r3
  ·rw[z0O e,cond_false];exact r2.val (h1.slots t')
 ·show upd s.st id _ j=none
  rw[z0l (fun e=>by subst e;rw[h1.fresh j hj] at hid;cases hid)]
  exact h1.fresh j hj
end Go.Ab
end
section
namespace Go.Ab
open Go
variable {P:Program} {w:World} {F:Fen P} {S st:Store} {m:Place}
variable {n:Nat} {l0:List (Nat×Ob)} {s:St} {Q:Exit->St->Prop}
structure Ox where
 o:Orc
 cs:List Prop
 h:All cs
inductive LeI where
 |nR (t k:Nat)
 |nL (t k:Nat)
 |nB (b i k:Nat)
 |fz (id:Nat)
 |fr (t:Nat) (p:List Prop) (h:All p)
 |eq (t:Nat) (d v:AVal) (h:Weak d v)
 |er (id:Nat) (xs ys:List Tree) (h:xs=ys)
 |kp (ts:List Nat)
 |eb (b i:Nat) (v v':AVal) (h:v=v')
 |mc (id:Nat) (xs':List Tree) (p:List Prop) (h:All p)
 |mf (t:Nat)
 |fR (t:Nat) (p:List Prop) (h:All p)
 |mv (t i j:Nat) (h:i=j)
 |mput (id:Nat) (es':List (Int×MV)) (p:List Prop) (h:All p)
 |mfz (id:Nat) (es':List (Int×MV)) (p:List Prop) (h:All p)
 |me (id:Nat) (es es':List (Int×MV)) (h:es=es')
 |cb (b i:Nat) (ag:Bool) (k:Nat) (p:List Prop) (h:All p)
inductive It where
 |r (xs:List (Nat×Ox))
 |t
 |f
 |u
 |le (x:LeI)
inductive Fr where
 |seq (c:Code)
 |blk (i:Nat)
 |loop (c:Code)
inductive Ctl where
 |run (c:Code)
 |out (e:Exit)
instance:Inhabited Ctl:=⟨.run .skip⟩
structure Cfg where
 ctl:Ctl
 K:List Fr
 s:St
instance:Inhabited Cfg:=⟨⟨default,[],⟨[],emp,0⟩⟩⟩
inductive At where
 |br (b:Bool) (x y:Code) (K:List Fr) (s:St)
 |any (x y:Code) (K:List Fr) (s:St)
 |loop (c:Code) (K:List Fr) (s:St)
 |back (c:Code) (K:List Fr) (s:St)
 |fin (e:Exit) (s:St)
 |mid (c:Code) (K:List Fr) (s:St)
def leR(s:St):LeI->Option (St×List Prop)
 | .nR t k=>match get s.sl t with
  | .t (.sc (.slice none 0 0))=>bif Nat.blt 0 k then some (⟨(t,.row s.nx 0)::s.sl,upd s.st s.nx (.row k false []),s.nx+1⟩,[]) else none
  |_=>none
 | .nL t k=>match get s.sl t with
  | .t (.sc (.slice none 0 0))=>bif Nat.blt 0 k then some (⟨(t,.t (.lst k []))::s.sl,s.st,s.nx⟩,[]) else none
  |_=>none
 | .nB b i k=>match s.st b with
  |some (.box cs)=>match cs[i]? with
   |some (.t (.sc (.slice none 0 0)))=>bif Nat.blt 0 k then some (⟨s.sl,upd (upd s.st s.nx (.row k false [])) b (.box (cs.set i (.row s.nx 0))),s.nx+1⟩,[]) else none
   |_=>none
  |_=>none
 | .fz id=>match s.st id with
  |some (.row k false xs)=>some (⟨s.sl,upd s.st id (.row k true xs),s.nx⟩,[])
  |_=>none
 | .fr t _ _=>match snap s.st (get s.sl t) with
  |some (v',g,p)=>bif g.all (fun x=>Nat.blt x.1 s.nx) then some (⟨(t,v')::s.sl,app s.st g,s.nx⟩,p) else none
  |none=>none
 | .eq t _ v _=>some (⟨(t,v)::s.sl,s.st,s.nx⟩,[Weak (get s.sl t) v])
 | .er id _ ys _=>match s.st id with
  |some (.row k fz xs)=>some (⟨s.sl,upd s.st id (.row k fz ys),s.nx⟩,[xs=ys])
  |_=>none
 | .kp ts=>some (⟨keepS s.sl ts,s.st,s.nx⟩,[])
 | .mc id xs' _ _=>match s.st id with
  |some (.mat false xs (some (i,r,q)))=>match s.st r with
   |some (.row k _ ys)=>some (⟨s.sl,upd (upd s.st r (.row k true ys)) id (.mat false xs' none),s.nx⟩,[q=ys.length,xs.set i (.lst k ys)=xs'])
   |_=>none
  |_=>none
 | .mf t=>match get s.sl t with
  | .mat id=>match s.st id with
   |some (.mat false xs none)=>some (⟨(t,.t (.lst 1 xs))::s.sl,upd s.st id (.mat true xs none),s.nx⟩,[])
   |_=>none
  |_=>none
 | .fR t _ _=>match snapR s.st (get s.sl t) with
  |some (v',g,p)=>bif g.all (fun x=>Nat.blt x.1 s.nx) then some (⟨(t,v')::s.sl,app s.st g,s.nx⟩,p) else none
  |none=>none
 | .mv t _ _ _=>match get s.sl t with
  | .row id q=>match s.st id with
   |some (.row k false xs)=>some (⟨(t,.row s.nx q)::s.sl,upd (upd s.st id .gone) s.nx (.row k false xs),s.nx+1⟩,[q=xs.length])
   |_=>none
  |_=>none
 | .mput _ _ _ _=>none
 | .mfz _ _ _ _=>none
 | .me _ _ _ _=>none
 | .eb b i _ v' _=>match s.st b with
  |some (.box cs)=>match cs[i]? with
   |some v0=>some (⟨s.sl,upd s.st b (.box (cs.set i v')),s.nx⟩,[v0=v'])
   |none=>none
  |_=>none
 | .cb b0 i ag k _ _=>match s.st b0 with
  |some (.box cs0)=>match cs0[i]? with
   |some (.bsl id q)=>match s.st id with
    |some (.box cs)=>match snapL s.st cs with
     |some (cs',g,p)=>bif !(Nat.beq b0 id)&&(g.all (fun x=>Nat.blt x.1 s.nx&&(!(Nat.beq x.1 id)&& !(Nat.beq x.1 b0)))&&(Nat.blt 0 k&&(Nat.ble (q*k) 16777216&&Nat.beq cs.length (q*k)))) then
      (allT cs').bind fun ts=>(group ag k q ts).bind fun xs=>some (⟨s.sl,upd (upd (upd (app s.st g) id .gone) s.nx (.row k false xs)) b0 (.box (cs0.set i (.row s.nx q))),s.nx+1⟩,p) else none
     |none=>none
    |_=>none
   |_=>none
  |_=>none
def leC:LeI->List Prop
 | .cb _ _ _ _ p _=>p
 | .fr _ p _=>p
 | .eq _ d v _=>[Weak d v]
 | .er _ xs ys _=>[xs=ys]
 | .eb _ _ v v' _=>[v=v']
 | .mc _ _ p _=>p
 | .fR _ p _=>p
 | .mv _ i j _=>[i=j]
 | .mput _ _ p _=>p
 | .mfz _ _ p _=>p
 | .me _ es es' _=>[es=es']
 |_=>[]
def runA(P:Program)(n:Nat)(ops:List Oper)(draw:Bool)(orcs:List (Nat×Orc))(s:St):Option (St×List Prop):=
 match runL P ops orcs s.nx 0 ops s with
 |some (s',rs)=>bif (ops.all (dstOk n))&&(!draw||z6A ops s.nx rs) then some (⟨s'.sl,s'.st,s.nx+8*ops.length⟩,allC rs) else none
 |none=>none
def oxO:List (Nat×Ox)->List (Nat×Orc)
 | []=>[]
 | (i,x)::l=>(i,x.o)::oxO l
def apC:List Prop->List Prop->List Prop
 | [],t=>t
 |p::l,t=>p::apC l t
def oxC:List (Nat×Ox)->List Prop->List Prop
 | [],t=>t
 | (_,x)::l,t=>apC x.cs (oxC l t)
def csL:List It->List Prop
 | []=>[]
 | .r xs::l=>oxC xs (csL l)
 | .le x::l=>apC (leC x) (csL l)
 |_::l=>csL l
inductive OutR where
 |fin
 |back (c:Code) (K:List Fr)
 |go (ctl:Ctl) (K:List Fr)
def outS(e:Exit):List Fr->OutR
 | []=> .fin
 | .seq c::K=>match e with
  | .normal=> .go (.run c) K
  |e=> .go (.out e) K
 | .blk i::K=>match e with
  | .exit j=>bif Nat.beq j i then .go (.out .normal) K else .go (.out (.exit j)) K
  |e=> .go (.out e) K
 | .loop c::K=>match e with
  | .normal=> .back c K
  |e=> .go (.out e) K
def go(P:Program)(n:Nat):Nat->List It->Ctl->List Fr->St->List Prop->Option (At×List Prop)
 |0,_,_,_,_,_=>none
 |fuel+1,.le x::sc,ctl,K,s,acc=>match leR s x with
  |some (s',C)=>go P n fuel sc ctl K s' (acc++C)
  |none=>none
 |fuel+1,sc,.run c,K,s,acc=>match c with
  | .seq x y=>go P n fuel sc (.run x) (.seq y::K) s acc
  | .skip=>go P n fuel sc (.out .normal) K s acc
  | .ret=>go P n fuel sc (.out .ret) K s acc
  | .exit i=>go P n fuel sc (.out (.exit i)) K s acc
  | .block i c=>go P n fuel sc (.run c) (.blk i::K) s acc
  | .loop c=>match sc with
   | []=>some (.loop c K s,acc)
   | .u::sc=>go P n fuel sc (.run c) (.loop c::K) s acc
   |_=>none
  | .cond c x y=>match ev s.sl c with
   | .t (.sc (.bool b))=>match sc with
    | []=>some (.br b x y K s,acc)
    | .t::sc=>bif b then go P n fuel sc (.run x) K s acc else none
    | .f::sc=>bif b then none else go P n fuel sc (.run y) K s acc
    |_=>none
   | .anyB=>match sc with
    | []=>some (.any x y K s,acc)
    |_=>none
   |_=>none
  | .region id ops draw=>match sc with
   | []=>some (.mid (.region id ops draw) K s,acc)
   | .r xs::sc=>match runA P n ops.toList draw (oxO xs) s with
    |some (s',C)=>go P n fuel sc (.out .normal) K s' (acc++C)
    |none=>none
   |_=>none
  | .rangeFunc g ps a b=>match sc with
   | []=>some (.mid (.rangeFunc g ps a b) K s,acc)
   |_=>none
  |_=>none
 |fuel+1,sc,.out e,K,s,acc=>match outS e K with
  | .fin=>match sc with
   | []=>some (.fin e s,acc)
   |_=>none
  | .back c K=>match sc with
   | []=>some (.back c K s,acc)
   | .u::sc=>go P n fuel sc (.run c) (.loop c::K) s acc
   |_=>none
  | .go ctl K=>go P n fuel sc ctl K s acc
def wrapK(P:Program)(n:Nat)(l0:List (Nat×Ob)):List Fr->(Exit->St->Prop)->Exit->St->Prop
 | [],Q=>Q
 | .seq c::K,Q=>andThen (fun s=>Sim P n l0 c s (wrapK P n l0 K Q)) (wrapK P n l0 K Q)
 | .blk i::K,Q=>inBlk i (wrapK P n l0 K Q)
 | .loop c::K,Q=>andThen (fun s=>z0Q P n l0 c s (wrapK P n l0 K Q)) (wrapK P n l0 K Q)
def z2K(n:Nat)(l0:List (Nat×Ob))(Q:Exit->St->Prop):Prop:=∀e s s',Le n l0 s s'->Q e s'->Q e s
def CtlG(P:Program)(n:Nat)(l0:List (Nat×Ob))(Q:Exit->St->Prop):Ctl->List Fr->St->Prop
 | .run c,K,s=>Sim P n l0 c s (wrapK P n l0 K Q)
 | .out e,K,s=>wrapK P n l0 K Q e s
def AtG(P:Program)(n:Nat)(l0:List (Nat×Ob))(Q:Exit->St->Prop):At->Prop
 | .any x y K s=>Sim P n l0 x s (wrapK P n l0 K Q)/\Sim P n l0 y s (wrapK P n l0 K Q)
 | .br b x y K s=>(b=true->Sim P n l0 x s (wrapK P n l0 K Q))/\(b=false->Sim P n l0 y s (wrapK P n l0 K Q))
 | .loop c K s=>z0Q P n l0 c s (wrapK P n l0 K Q)
 | .back c K s=>z0Q P n l0 c s (wrapK P n l0 K Q)
 | .fin e s=>Q e s
 | .mid c K s=>Sim P n l0 c s (wrapK P n l0 K Q)
theorem z3d(hQ:z2K n l0 Q):∀(K:List Fr),z2K n l0 (wrapK P n l0 K Q)
 | []=>hQ
 | .seq c::K=>fun e s s' h k=>by
  cases e with
  |normal=>exact Sim.weaken h k
  |_=>exact z3d hQ K _ s s' h k
 | .blk i::K=>fun e s s' h k=>by
  cases e with
  |exit j=>
   simp only[wrapK,inBlk] at k|-
   split
   ·rename_i hj;rw[if_pos hj] at k;exact z3d hQ K _ s s' h k
   ·rename_i hj;rw[if_neg hj] at k;exact z3d hQ K _ s s' h k
  |_=>exact z3d hQ K _ s s' h k
 | .loop c::K=>fun e s s' h k=>by
  cases e with
  |normal=>exact z0Q.weaken h k
  |_=>exact z3d hQ K _ s s' h k
theorem y3y(hQ:z2K n l0 Q){ctl:Ctl}{K:List Fr}{s s':St}(h:Le n l0 s s')(k:CtlG P n l0 Q ctl K s'):CtlG P n l0 Q ctl K s:=by
 cases ctl with
 |run c=>exact Sim.weaken h k
 |out e=>exact z3d hQ K e s s' h k
theorem Le.row{id k:Nat}{fz:Bool}{xs ys:List Tree}(hid:s.st id=some (.row k fz xs))(h:xs=ys):Le n l0 s ⟨s.sl,upd s.st id (.row k fz ys),s.nx⟩:=by
 have e:upd s.st id (.row k fz ys)=s.st:=by
  funext j
  unfold upd
  by_cases hj:j=id
  ·subst hj;simp[hid,h]
  ·rw[z0O hj];rfl
 rw[e]
 exact fun P F m0 w0 m a w h0 h1 h2=>⟨m,h1,h2⟩
theorem Le.boxE{b i:Nat}{cs:List AVal}{v0 v:AVal}(hb:s.st b=some (.box cs))(hi:cs[i]? =some v0)(h:v0=v):Le n l0 s ⟨s.sl,upd s.st b (.box (cs.set i v)),s.nx⟩:=by
 subst h
 have e0:cs.set i v0=cs:=by
  apply List.ext_getElem?
  intro j
  rw[zu]
  split
  ·rename_i hj;subst hj
   have:=(qB.1 hi).1
   rw[if_pos this,hi]
  ·rfl
 have e:upd s.st b (.box (cs.set i v0))=s.st:=by
  funext j
  unfold upd
  by_cases hj:j=b
  ·subst hj;simp[hb,e0]
  ·rw[z0O hj];rfl
 rw[e]
 exact fun P F m0 w0 m a w h0 h1 h2=>⟨m,h1,h2⟩
theorem Le.keep(ts:List Nat):Le n l0 s ⟨keepS s.sl ts,s.st,s.nx⟩:=by
 intro P F m0 w0 m a w h0 h1 h2
 exact⟨m,⟨h1.slots.keep ts,h1.size,h1.defers,h1.srel,h1.fresh⟩,h2⟩
theorem Le.mvRow{t id q k:Nat}{xs:List Tree}(hg:get s.sl t= .row id q)(hs:s.st id=some (.row k false xs))(hq:q=xs.length):
 Le n l0 s ⟨(t,.row s.nx q)::s.sl,upd (upd s.st id .gone) s.nx (.row k false xs),s.nx+1⟩:=by
 intro P F m0 w0 m a w h0 h1 h2
 have hn:s.st s.nx=none:=h1.fresh s.nx (qr _)
 obtain⟨k1,k2⟩:=z6F h1.srel hs hn (qr xs.length)
 rw[List.take_length] at k1 k2
 refine⟨_,⟨fun t'=> ?_,h1.size,h1.defers.ext k2,k1,fun id' hid'=> ?_⟩,h2.trans h0 k2⟩
 ·simp only[get]
  by_cases e:t=t'
  ·subst e
   have hv:=h1.slots t
   rw[hg] at hv
   simp only[Nat.beq_refl,cond_true]
   generalize a.tmps.getD t undef=u at hv
   cases hv with
   |row _ _ k' fz' xs' L hs' hn' hu'=>
    rw[hs] at hs';cases hs'
    have:=hu' hq
    exact .row s.nx q k false xs L (z0n _ _ _) (by omega) (fun _=>by rw[z0y];exact this)
   |rowG _ _ L hs'=>rw[hs] at hs';cases hs'
  ·rw[z0O e,cond_false]
   exact k2.val (h1.slots t')
 ·show upd (upd s.st id .gone) s.nx _ id'=none
  simp only at hid'
  have hne:id'≠id:=fun e=>by subst e;rw[h1.fresh id' (by omega)] at hs;cases hs
  rw[z0l (by omega),z0l hne]
  exact h1.fresh id' (by omega)
theorem Le.closeB{b0 i id q k:Nat}{ag:Bool}{cs0 cs cs':List AVal}{g:List (Nat×Ob)}{p:List Prop}{ts xs:List Tree}(hb0:s.st b0=some (.box cs0))(hg:cs0[i]? =some (.bsl id q))(hs:s.st id=some (.box cs))(e1:snapL s.st cs=some (cs',g,p))(hp:All p)
 (hne0:b0≠id) (hk:g.all (fun x=>Nat.blt x.1 s.nx&&(!(Nat.beq x.1 id)&& !(Nat.beq x.1 b0)))=true) (hk0:0<k) (hbig:q*k<=16777216) (hcl:cs.length=q*k) (e2:allT cs'=some ts) (e3:group ag k q ts=some xs):
 Le n l0 s ⟨s.sl,upd (upd (upd (app s.st g) id .gone) s.nx (.row k false xs)) b0 (.box (cs0.set i (.row s.nx q))),s.nx+1⟩:=by
 intro P F m0 w0 m a w h0 h1 h2
 obtain⟨bb,us0,e0,p1,p2,p3,p4⟩:=h1.srel.objs b0 _ hb0
 have hil:i<us0.size:=by rw[p3];exact(qB.1 hg).1
 have hu0:us0[i]? =some us0[i]:=z7 hil
 have hv:=(p4 i _ _ hg hu0).1
 generalize hw0:us0[i]=u0 at hv
 rw[hw0] at hu0
 cases hv with
 |bslG _ _ L hs'=>rw[hs] at hs';cases hs'
 |bsl _ _ cs1 b hs' hm=>
 rw[hs] at hs';cases hs'
 obtain⟨b',us,e,q1,q2,q3,q4⟩:=h1.srel.objs id _ hs
 rw[hm] at q1;cases q1
 have hsn:=z3p (fun _ _ h=>h) h1.srel e1 hp (us:=us.toList) (by simp[q3]) (fun i v u hv hu=>(q4 i v u hv (by simpa using hu)).1)
 obtain⟨r1,r2,r3,r4⟩:=z1d g s.st h1.srel hsn.2.1
 have hno:∀j,j∈g.map (·.1)->j<s.nx/\j≠id/\j≠b0:=fun j hj=>by
  obtain⟨x,hx,rfl⟩:=qy.1 hj
  have:=qQ.1 hk x hx
  simp only[qn,zh] at this
  exact⟨zd (qx this.1),fun e=>by rw[e] at this;simp at this,fun e=>by rw[e] at this;simp at this⟩
 have hidg:app s.st g id=some (.box cs):=by rw[r4 id (fun h=>(hno id h).2.1 rfl)];exact hs
 have hn:app s.st g s.nx=none:=by rw[r4 s.nx (fun h=>absurd (hno _ h).1 (Nat.lt_irrefl _))];exact h1.fresh s.nx (qr _)
 have hbn:b0≠s.nx:=fun e=>by rw[e,h1.fresh s.nx (qr _)] at hb0;cases hb0
 have hts:=z2X e2
 have hrep:∀(j:Nat) (T:Tree) (u:Value),ts[j]? =some T->us[j]? =some u->TRep w (okB F (app s.st g) m w) T u:=fun j T u hT hu=>by
  have:=hsn.2.2 g hsn.2.1 (fun x hx=>hx) j (.t T) u (by rw[hts,q9,hT];rfl) (by simpa using hu)
  cases this with
  |t _ _ h=>exact h
 have hone:∀(j:Nat) (u:Value),us[j]? =some u->u.oneCell'=true:=fun j u hu=>by
  have hj:j<cs.length:=by rw[<-q3];exact(qY.1 hu).1
  exact(q4 j _ u (qa hj) hu).2
 have htl:ts.length=us.size:=by have:=hsn.1;rw[hts] at this;simpa using this
 have hcellT:∀T∈ts,T.isCell=true:=fun T hT=>by
  obtain⟨j,hj,rfl⟩:=zg.1 hT
  have hj':j<us.size:=by rw[<-htl];exact hj
  have a1:=hrep j _ us[j] (qa hj) (z7 hj')
  have a2:=hone j us[j] (z7 hj')
  generalize ts[j]=T at a1
  generalize us[j]=u at a1 a2
  cases a1 with
  |agg=>simp[Value.oneCell'] at a2
  |sc=>rfl
  |lst=>rfl
 obtain⟨g1,g2,g3⟩:=z4w e3 hcellT
 obtain⟨k1,k2⟩:=y3d (o':= .row k false xs) r1 hidg hn rfl trivial (by simp[Ob.len]) (fun hF=>by
  refine⟨hk0,g3,by rw[g2,hm];exact qr _,?_,.inr ⟨b,us,e,by rw[hm],q2,by rw[q3,hcl,hm],hone,fun j T u hj hu=>hF.tree (hrep j T u (by rw[<-g1];exact hj) hu)⟩⟩
  have:=Nat.le_mul_of_pos_right q hk0
  rw[hm];simp only[maxLen];omega)
 have hb':upd (upd (app s.st g) id .gone) s.nx (.row k false xs) b0=some (.box cs0):=by rw[z0l hbn,z0l hne0,r4 b0 (fun h=>(hno _ h).2.2 rfl)];exact hb0
 obtain⟨bb',us',e',s1,s2,s3,s4⟩:=k1.objs b0 _ hb'
 have s1':=s1
 rw[z06 hbn,z06 hne0,p1] at s1'
 cases s1'
 have hss:=p2.symm.trans s2
 simp only[qb,Go.Obj.cells.injEq] at hss
 have key:=z0P (o':= .box (cs0.set i (.row s.nx q))) k1 hb' rfl s1 (w':=w) rfl rfl rfl rfl (fun _ _=>rfl) (by simp[Ob.len]) (by simp[Ob.same]) (fun hF=>by
  refine⟨bb,us',e',s1,s2,by simp[s3],fun j v u hv hu=> ?_⟩
  rw[zu] at hv
  split at hv
  ·rename_i hij
   subst hij
   split at hv
   ·simp only[qb] at hv
    subst hv
    rw[<-hss.1,hu0] at hu
    cases hu
    exact⟨.row s.nx q k false xs (some b,q) (by rw[z0l (Ne.symm hbn)];exact z0n _ _ _) (by omega) (fun _=>by rw[z0y];exact hm),rfl⟩
   ·cases hv
  ·obtain⟨t1,t2⟩:=s4 j v u hv hu
   exact⟨hF.val t1,t2⟩)
 have k3:=(r2.trans h1.srel k2).trans h1.srel key.2
 refine⟨_,⟨fun t'=>k3.val (h1.slots t'),h1.size,h1.defers.ext k3,key.1,fun id' hid'=> ?_⟩,h2.trans h0 k3⟩
 show upd (upd (upd (app s.st g) id .gone) s.nx _) b0 _ id'=none
 simp only at hid'
 have hne:∀x ob,s.st x=some ob->id'≠x:=fun x ob hx e=>by subst e;rw[h1.fresh id' (by omega)] at hx;cases hx
 rw[z0l (hne _ _ hb0),z0l (by omega),z0l (hne _ _ hs),r4 id' (fun h=>by have:=(hno _ h).1;omega)]
 exact h1.fresh id' (by omega)
theorem y3z{S:Store}{nx id i:Nat}{o o':Ob}(h:∀id,nx<=id->S id=none)(hi:S i=some o')(hid:nx<=id):upd S i o id=none:=by
 have:id≠i:=fun e=>by subst e;rw[h id hid] at hi;cases hi
 rw[z0l this];exact h id hid
theorem Le.ghost'{S':Store}(h:∀{P:Program} (F:Fen P) (m:Place) (w:World),SRel F s.st m w->(∀id,s.nx<=id->s.st id=none)->(∀id,s.nx<=id->S' id=none)/\∃m',SRel F S' m' w/\FrameExt F s.st m w S' m' w):Le n l0 s ⟨s.sl,S',s.nx⟩:=by
 intro P F m0 w0 m a w h0 h1 h2
 obtain⟨hn,m',k1,k2⟩:=h F m w h1.srel h1.fresh
 exact⟨m',⟨fun t=>k2.val (h1.slots t),h1.size,h1.defers.ext k2,k1,hn⟩,h2.trans h0 k2⟩
theorem Le.mput{id r:Nat}{es es':List (Int×MV)}{k:Int}{v:AVal}{o:Ob}{mv:MV}(hid:s.st id=some (.mp es (some (k,v))))(hr:s.st r=some o)(hlive:o.live=true)(hsame:o.same .gone)
 (hlen:∀{P:Program} (F:Fen P) (m:Place) (w:World),SRel F s.st m w->o.len<18446744073709551616) (hri:r≠id) (hl:(lookE es k).isSome=true) (he:putE es k mv=es')
 (hv:∀{P:Program} (F:Fen P) (m:Place) (w:World),SRel F s.st m w->∀u,VRel s.st m w (okB F s.st m w) v u->∀S' m' w',FrameExt F s.st m w S' m' w'->(∀x,(m r).1=some x->w'.heap[x]? =w.heap[x]?)->MRel S' m' w' (okB F S' m' w') mv u (m r).1):
 Le n l0 s ⟨s.sl,upd (upd s.st r .gone) id (.mp es' none),s.nx⟩:=by
 subst he
 obtain⟨v0,hv0⟩:=zz.1 hl
 obtain⟨i,h1,h2⟩:=z3b hv0
 refine Le.ghost' (fun F m w hS hf=>⟨fun id' hid'=> ?_,y5M hS hid h1 h2 hr hlive hsame (hlen F m w hS) hri (hv F m w hS)⟩)
 have e1:id'≠id:=fun e=>by subst e;rw[hf id' hid'] at hid;cases hid
 rw[z0l e1]
 exact y3z hf hr hid'
theorem z8E{x:LeI}{s':St}{C:List Prop}(h:leR s x=some (s',C))(hC:All C):Le n l0 s s':=by
 cases x with
 |nR t k=>
  simp only[leR] at h
  split at h
  ·rename_i hg
   obtain⟨hk,h⟩:=z0j h
   cases h
   exact Le.nilRow hg (by simp) hk
  ·cases h
 |nL t k=>
  simp only[leR] at h
  split at h
  ·rename_i hg
   obtain⟨hk,h⟩:=z0j h
   cases h
   exact Le.nilLst hg hk
  ·cases h
 |nB b i k=>
  simp only[leR] at h
  split at h
  ·rename_i cs hb
   split at h
   ·rename_i hg
    obtain⟨hk,h⟩:=z0j h
    cases h
    exact Le.nilBox hb hg (by simp) hk
   ·cases h
  ·cases h
 |fz id=>
  simp only[leR] at h
  split at h
  ·rename_i hb;cases h;exact Le.fz hb
  ·cases h
 |fr t p hp=>
  simp only[leR] at h
  split at h
  ·rename_i v' g p hs
   obtain⟨hk,h⟩:=z0j h
   cases h
   exact Le.freeze rfl hs hC hk
  ·cases h
 |fR t p hp=>
  simp only[leR] at h
  split at h
  ·rename_i v' g p hs
   obtain⟨hk,h⟩:=z0j h
   cases h
   exact Le.freezeR rfl hs hC hk
  ·cases h
 |eq t d v hw=>
  simp only[leR] at h
  cases h
  exact Le.slot rfl hC.1
 |er id xs ys he=>
  simp only[leR] at h
  split at h
  ·rename_i hb;cases h;exact Le.row hb hC.1
  ·cases h
 |kp ts=>
  simp only[leR] at h
  cases h
  exact Le.keep ts
 |mc id xs' p hp=>
  simp only[leR] at h
  split at h
  ·rename_i hid
   split at h
   ·rename_i hr
    cases h
    exact Le.matClose hid hr hC.1 hC.2.1
   ·cases h
  ·cases h
 |mf t=>
  simp only[leR] at h
  split at h
  ·rename_i hg
   split at h
   ·rename_i hid;cases h;exact Le.matFreeze hg hid
   ·cases h
  ·cases h
 |cb b0 i ag k p hp=>
  simp only[leR] at h
  split at h
  rotate_left
  ·cases h
  rename_i cs0 hb0
  split at h
  rotate_left
  ·cases h
  rename_i id q hg
  split at h
  rotate_left
  ·cases h
  rename_i cs hs
  split at h
  rotate_left
  ·cases h
  rename_i cs' g p hsn
  obtain⟨hk,h⟩:=z0j h
  simp only[qv] at h
  obtain⟨ts,h1,xs,h2,h⟩:=h
  cases h
  simp only[qn,zh] at hk
  obtain⟨c1,c2,c3,c4,c5⟩:=hk
  exact Le.closeB hb0 hg hs hsn hC (fun e=>by rw[e] at c1;simp at c1) c2 (z2Z c3) (qx c4) (qE c5) h1 h2
 |mv t i j he=>
  simp only[leR] at h
  split at h
  ·rename_i hg
   split at h
   ·rename_i hid;cases h;exact Le.mvRow hg hid hC.1
   ·cases h
  ·cases h
 |mput id es' p hp=>cases h
 |mfz id es' p hp=>cases h
 |me id es1 es' he=>cases h
 |eb b i v v' he=>
  simp only[leR] at h
  split at h
  ·rename_i cs hb
   split at h
   ·rename_i v0 hi;cases h;exact Le.boxE hb hi hC.1
   ·cases h
  ·cases h
theorem z3V:∀(ks:List Nat) (sl:List (Nat×AVal)) (t:Nat),t∈ks->get (keepS sl ks) t=get sl t
 |k::ks,sl,t,h=>by
  simp only[keepS,get]
  by_cases e:k=t
  ·subst e;simp
  ·rw[z0O e]
   rcases qj.1 h with h|h
   ·exact absurd h.symm e
   ·exact z3V ks sl t h
theorem y3A:∀(sl:List (Nat×AVal)) (t:Nat),t∉sl.map (·.1)->get sl t= .junk
 | [],t,h=>rfl
 | (k,v)::sl,t,h=>by
  simp only[qZ,qj,not_or] at h
  simp only[get]
  rw[z0O (Ne.symm h.1)]
  exact y3A sl t h.2
theorem z3n(sl:List (Nat×AVal))(t:Nat):get (keepS sl (sl.map (·.1))) t=get sl t:=by
 by_cases h:t∈sl.map (·.1)
 ·exact z3V _ _ _ h
 ·rcases z5Q (sl.map (·.1)) sl t with e|e
  ·exact e
  ·rw[e,y3A sl t h]
theorem Rel.slots_eq{sl sl':List (Nat×AVal)}{st:Store}{nx:Nat}{a:Act}(h:Rel F n ⟨sl,st,nx⟩ m a w)(e:∀t,get sl' t=get sl t):Rel F n ⟨sl',st,nx⟩ m a w:=
 ⟨fun t=>by rw[e];exact h.slots t,h.size,h.defers,h.srel,h.fresh⟩
theorem y5T(hm:P.follows .mixedOrders=true){id:Nat}{ops:Array Oper}{draw:Bool}{orcs:List (Nat×Orc)}{s':St}{C:List Prop}(h:runA P n ops.toList draw orcs s=some (s',C))(hC:All C)(hq:Q .normal s'):
 Sim P n l0 (.region id ops draw) s Q:=by
 unfold runA at h
 split at h
 rotate_left
 ·cases h
 rename_i s2 rs hrun
 obtain⟨h1,h2⟩:=z0j h
 cases h2
 have hR:runR P n ops.toList draw orcs (s2.sl.map (·.1)) s=some (⟨keepS s2.sl (s2.sl.map (·.1)),s2.st,s.nx+8*ops.toList.length⟩,allC rs):=by
  unfold runR
  rw[hrun]
  simp only[h1,cond_true]
 intro F m0 w0 m a w h0 r1 r2
 cases draw with
 |false=>
  have:=y3o hR hC r1 (Q:=fun e a' w'=> ∃s' m',Rel F n s' m' a' w'/\FrameExt F (app emp l0) m0 w0 s'.st m' w'/\Q e s') (fun m' a' w' q1 q2=>⟨⟨s2.sl,s2.st,s.nx+8*ops.toList.length⟩,m',q1.slots_eq (fun t=>(z3n _ t).symm),r2.trans h0 q2,hq⟩) id
  simpa using this
 |true=>
  have:=y3r hm hR hC r1 (Q:=fun e a' w'=> ∃s' m',Rel F n s' m' a' w'/\FrameExt F (app emp l0) m0 w0 s'.st m' w'/\Q e s') (fun m' a' w' q1 q2=>⟨⟨s2.sl,s2.st,s.nx+8*ops.toList.length⟩,m',q1.slots_eq (fun t=>(z3n _ t).symm),r2.trans h0 q2,hq⟩) id
  simpa using this
theorem z5W{a b:List Prop}:All (a++b)↔All a/\All b:=z0C
theorem y5U{e:Exit}{K:List Fr}(h:outS e K= .fin):K=[]:=by
 cases K with
 |nil=>rfl
 |cons f K=>
  cases f with
  |seq c=>cases e<;>simp[outS] at h
  |blk i=>
   cases e with
   |exit j=>simp only[outS] at h;cases hj:Nat.beq j i<;>rw[hj] at h<;>simp at h
   |_=>simp[outS] at h
  |loop c=>cases e<;>simp[outS] at h
theorem z8F{e:Exit}{K K':List Fr}{c:Code}(h:outS e K= .back c K')(hA:z0Q P n l0 c s (wrapK P n l0 K' Q)):wrapK P n l0 K Q e s:=by
 cases K with
 |nil=>simp[outS] at h
 |cons f K=>
  cases f with
  |seq c=>cases e<;>simp[outS] at h
  |blk i=>
   cases e with
   |exit j=>simp only[outS] at h;cases hj:Nat.beq j i<;>rw[hj] at h<;>simp at h
   |_=>simp[outS] at h
  |loop c=>
   cases e with
   |normal=>simp only[outS] at h;cases h;exact hA
   |_=>simp[outS] at h
theorem y7T{e:Exit}{K K':List Fr}{ctl:Ctl}(h:outS e K= .go ctl K')(hA:CtlG P n l0 Q ctl K' s):wrapK P n l0 K Q e s:=by
 cases K with
 |nil=>simp[outS] at h
 |cons f K=>
  cases f with
  |seq c=>cases e<;>(simp only[outS] at h;cases h;exact hA)
  |blk i=>
   cases e with
   |exit j=>
    simp only[outS] at h
    show inBlk i _ (.exit j) s
    simp only[inBlk]
    cases hj:Nat.beq j i with
    |true=>rw[hj] at h;cases h;rw[if_pos (qE hj)];exact hA
    |false=>rw[hj] at h;cases h;rw[if_neg (fun e=>by subst e;simp at hj)];exact hA
   |_=>simp only[outS] at h;cases h;exact hA
  |loop c=>
   cases e with
   |normal=>simp[outS] at h
   |_=>simp only[outS] at h;cases h;exact hA
theorem y5V(hm:P.follows .mixedOrders=true)(hQ:z2K n l0 Q):∀(fuel:Nat) (sc:List It) (ctl:Ctl) (K:List Fr) (s:St) (acc:List Prop) (a:At) (C:List Prop),
 go P n fuel sc ctl K s acc=some (a,C)->All C->AtG P n l0 Q a->All acc/\CtlG P n l0 Q ctl K s:=by
 intro fuel
 induction fuel with
 |zero=>intro sc ctl K s acc a C h;simp[go] at h
 |succ fuel ih=>
  intro sc ctl K s acc a C h hC hA
  unfold go at h
  split at h
  ·cases h
  ·
   rename_i x sc' K' s' acc' hfu
   cases hfu
   split at h
   ·rename_i s2 C2 hle
    obtain⟨q1,q2⟩:=ih _ _ _ _ _ _ _ h hC hA
    rw[z5W] at q1
    exact⟨q1.1,y3y hQ (z8E hle q1.2) q2⟩
   ·cases h
  ·
   rename_i fuel2 c hfu _
   cases hfu
   split at h
   ·obtain⟨q1,q2⟩:=ih _ _ _ _ _ _ _ h hC hA;exact⟨q1,Sim.seq q2⟩
   ·obtain⟨q1,q2⟩:=ih _ _ _ _ _ _ _ h hC hA;exact⟨q1,Sim.skip q2⟩
   ·obtain⟨q1,q2⟩:=ih _ _ _ _ _ _ _ h hC hA;exact⟨q1,Sim.ret q2⟩
   ·obtain⟨q1,q2⟩:=ih _ _ _ _ _ _ _ h hC hA;exact⟨q1,Sim.exit q2⟩
   ·obtain⟨q1,q2⟩:=ih _ _ _ _ _ _ _ h hC hA;exact⟨q1,Sim.block q2⟩
   ·split at h
    ·cases h;exact⟨hC,Sim.loop hA⟩
    ·obtain⟨q1,q2⟩:=ih _ _ _ _ _ _ _ h hC hA;exact⟨q1,Sim.loop (z0Q.step q2)⟩
    ·cases h
   ·split at h
    ·rename_i b hb
     split at h
     ·cases h;exact⟨hC,Sim.cond hb hA.1 hA.2⟩
     ·cases b with
      |true=>obtain⟨q1,q2⟩:=ih _ _ _ _ _ _ _ h hC hA;exact⟨q1,Sim.cond hb (fun _=>q2) (fun e=>by cases e)⟩
      |false=>cases h
     ·cases b with
      |false=>obtain⟨q1,q2⟩:=ih _ _ _ _ _ _ _ h hC hA;exact⟨q1,Sim.cond hb (fun e=>by cases e) (fun _=>q2)⟩
      |true=>cases h
     ·cases h
    ·rename_i hb
     split at h
     ·cases h;exact⟨hC,Sim.condAny hb hA.1 hA.2⟩
     ·cases h
    ·cases h
   ·split at h
    ·cases h;exact⟨hC,hA⟩
    ·split at h
     ·rename_i s2 C2 hr
      obtain⟨q1,q2⟩:=ih _ _ _ _ _ _ _ h hC hA
      rw[z5W] at q1
      exact⟨q1.1,y5T hm hr q1.2 q2⟩
     ·cases h
    ·cases h
   ·split at h
    ·cases h;exact⟨hC,hA⟩
    ·cases h
   ·cases h
  ·
   rename_i fuel2 e hfu _
   cases hfu
   split at h
   ·rename_i ho
    split at h
    ·cases h;exact⟨hC,by rw[y5U ho];exact hA⟩
    ·cases h
   ·rename_i c K' ho
    split at h
    ·cases h;exact⟨hC,z8F ho hA⟩
    ·obtain⟨q1,q2⟩:=ih _ _ _ _ _ _ _ h hC hA;exact⟨q1,z8F ho (z0Q.step q2)⟩
    ·cases h
   ·rename_i ctl K' ho
    obtain⟨q1,q2⟩:=ih _ _ _ _ _ _ _ h hC hA
    exact⟨q1,y7T ho q2⟩
end Go.Ab
end
section
namespace Go.Ab
open Go
variable {P:Program} {n:Nat} {l0:List (Nat×Ob)} {Q:Exit->St->Prop}
abbrev VI(x:Int):AVal:= .t (.sc (.int .i64 x))
abbrev VB(b:Bool):AVal:= .t (.sc (.bool b))
abbrev VS(s:ByteArray):AVal:= .t (.sc (.string s))
abbrev VN:AVal:= .t (.sc (.slice none 0 0))
abbrev VL{α:Type}(k:Nat)(f:α->Tree)(l:List α):AVal:= .t (.lst k (l.map f))
abbrev TI(x:Int):Tree:= .sc (.int .i64 x)
abbrev TB(b:Bool):Tree:= .sc (.bool b)
abbrev TS(s:ByteArray):Tree:= .sc (.string s)
abbrev TN:Tree:= .sc (.slice none 0 0)
abbrev TL{α:Type}(k:Nat)(f:α->Tree)(l:List α):Tree:= .lst k (l.map f)
abbrev OR{α:Type}(k:Nat)(f:α->Tree)(l:List α):Ob:= .row k false (l.map f)
abbrev OF{α:Type}(k:Nat)(f:α->Tree)(l:List α):Ob:= .row k true (l.map f)
structure SimC(P:Program)(n:Nat)(l0:List (Nat×Ob))(Q:Exit->St->Prop)(c:Cfg):Prop where
 run:P.follows .mixedOrders=true->z2K n l0 Q->CtlG P n l0 Q c.ctl c.K c.s
def runP(P:Program)(n:Nat)(sc:List It)(c:Cfg):Option (At×List Prop):=go P n 100000 sc c.ctl c.K c.s []
theorem y3B:∀(x:LeI),All (leC x)
 | .fr _ p h=>h
 | .eq _ d v h=>⟨h,trivial⟩
 | .er _ xs ys h=>⟨h,trivial⟩
 | .nR _ _=>trivial
 | .nL _ _=>trivial
 | .nB _ _ _=>trivial
 | .fz _=>trivial
 | .kp _=>trivial
 | .eb _ _ _ _ h=>⟨h,trivial⟩
 | .mc _ _ _ h=>h
 | .fR _ _ h=>h
 | .mv _ _ _ h=>⟨h,trivial⟩
 | .mf _=>trivial
 | .mput _ _ _ h=>h
 | .mfz _ _ _ h=>h
 | .me _ _ _ h=>⟨h,trivial⟩
 | .cb _ _ _ _ _ h=>h
theorem z7B:∀{l t:List Prop},All l->All t->All (apC l t)
 | [],t,_,h=>h
 |p::l,t,hp,h=>⟨hp.1,z7B hp.2 h⟩
theorem y3C:∀(l:List (Nat×Ox)) {t:List Prop},All t->All (oxC l t)
 | [],t,h=>h
 | (_,x)::l,t,h=>z7B x.h (y3C l h)
theorem z13:∀(sc:List It),All (csL sc)
 | []=>trivial
 | .r xs::l=>y3C xs (z13 l)
 | .le x::l=>z7B (y3B x) (z13 l)
 | .t::l=>z13 l
 | .f::l=>z13 l
 | .u::l=>z13 l
theorem z2v{sc:List It}{c:Cfg}{a:At}{C:List Prop}(h:runP P n sc c=some (a,C))(hC:All C)(hA:P.follows .mixedOrders=true->z2K n l0 Q->AtG P n l0 Q a):SimC P n l0 Q c:=
 ⟨fun hm hQ=>(y5V hm hQ _ _ _ _ _ _ _ _ h hC (hA hm hQ)).2⟩
def brQ:Option (At×List Prop)->Option (Bool×List Prop)
 |some (.br b _ _ _ _,C)=>some (b,C)
 |_=>none
def brX(v:Bool):Option (At×List Prop)->Cfg
 |some (.br _ x y K s,_)=>⟨.run (bif v then x else y),K,s⟩
 |_=>default
theorem SimC.br{c:Cfg}(sc:List It)(b:Bool)(ht:b=true->SimC P n l0 Q (brX true (runP P n sc c)))(hf:b=false->SimC P n l0 Q (brX false (runP P n sc c)))
 (h:brQ (runP P n sc c)=some (b,csL sc):=by kernel_rfl):SimC P n l0 Q c:=by
 generalize hr:runP P n sc c=r at*
 match r,h with
 |some (.br b' x y K s,C),h=>
  simp only[brQ,qb,qF] at h
  obtain⟨rfl,rfl⟩:=h
  exact z2v hr (z13 sc) (fun hm hQ=>⟨fun e=>(ht e).run hm hQ,fun e=>(hf e).run hm hQ⟩)
class BP(b:Bool)(t f:outParam Prop):Prop where
 t:b=true->t
 f:b=false->f
instance (priority:=10) BP.any (b:Bool):BP b (b=true) (b=false):=⟨id,id⟩
instance (priority:=100) BP.dec (p:Prop) [Decidable p]:BP (decide p) p (¬p):=⟨of_decide_eq_true,of_decide_eq_false⟩
instance BP.ilt (a b:Int) [Decidable (a<b)]:BP (decide (a<b)) (a<b) (b<=a):=⟨of_decide_eq_true,fun h=>Int.not_lt.1 (of_decide_eq_false h)⟩
instance BP.ile (a b:Int) [Decidable (a<=b)]:BP (decide (a<=b)) (a<=b) (b<a):=⟨of_decide_eq_true,fun h=>Int.not_le.1 (of_decide_eq_false h)⟩
instance BP.not (b:Bool) {t f:Prop} [h:BP b t f]:BP (!b) f t:=⟨fun e=>h.f (by simpa using e),fun e=>h.t (by simpa using e)⟩
instance BP.and (a b:Bool) {t f t' f':Prop} [h:BP a t f] [k:BP b t' f']:BP (a&&b) (t/\t') (f\/f'):=⟨fun e=>by rw[qn] at e;exact⟨h.t e.1,k.t e.2⟩,fun e=>by rw[Bool.and_eq_false_iff] at e;exact e.imp h.f k.f⟩
instance BP.or (a b:Bool) {t f t' f':Prop} [h:BP a t f] [k:BP b t' f']:BP (a||b) (t\/t') (f/\f'):=⟨fun e=>by rw[qD] at e;exact e.imp h.t k.t,fun e=>by rw[zN] at e;exact⟨h.f e.1,k.f e.2⟩⟩
instance BP.beq {α:Type} [BEq α] [LawfulBEq α] (a b:α):BP (a==b) (a=b) (¬a=b):=⟨fun e=>beq_iff_eq.1 e,fun e=>beq_eq_false_iff_ne.1 e⟩
instance BP.bne {α:Type} [BEq α] [LawfulBEq α] (a b:α):BP (a !=b) (¬a=b) (a=b):=⟨fun e=>bne_iff_ne.1 e,fun e=>bne_eq_false_iff_eq.1 e⟩
theorem SimC.bp{c:Cfg}(sc:List It)(b:Bool){t f:Prop}[hb:BP b t f](ht:t->SimC P n l0 Q (brX true (runP P n sc c)))(hf:f->SimC P n l0 Q (brX false (runP P n sc c)))
 (h:brQ (runP P n sc c)=some (b,csL sc):=by kernel_rfl):SimC P n l0 Q c:=SimC.br sc b (fun e=>ht (hb.t e)) (fun e=>hf (hb.f e)) h
def anQ:Option (At×List Prop)->Option (List Prop)
 |some (.any _ _ _ _,C)=>some C
 |_=>none
def anX(v:Bool):Option (At×List Prop)->Cfg
 |some (.any x y K s,_)=>⟨.run (bif v then x else y),K,s⟩
 |_=>default
theorem SimC.any{c:Cfg}(sc:List It)(ht:SimC P n l0 Q (anX true (runP P n sc c)))(hf:SimC P n l0 Q (anX false (runP P n sc c)))
 (h:anQ (runP P n sc c)=some (csL sc):=by kernel_rfl):SimC P n l0 Q c:=by
 generalize hr:runP P n sc c=r at*
 match r,h with
 |some (.any x y K s,C),h=>
  simp only[anQ,qb] at h
  subst h
  exact z2v hr (z13 sc) (fun hm hQ=>⟨ht.run hm hQ,hf.run hm hQ⟩)
def mkSt(p:List (Nat×AVal)×List (Nat×Ob))(nx:Nat):St:=⟨p.1,app emp p.2,nx⟩
def idT:List (Nat×Ob)->List (Nat×Nat)
 | []=>[]
 | (i,_)::l=>(i,i)::idT l
def keysT:List (Nat×AVal)->List Nat
 | []=>[]
 | (i,_)::l=>i::keysT l
def lpQ(l0:List (Nat×Ob))(nx:Nat)(p:List (Nat×AVal)×List (Nat×Ob)):Option (At×List Prop)->Option ((List (Nat×AVal)×List (Nat×Ob))×List Prop)
 |some (.loop _ _ s,C)=>match renSt l0 (idT p.2) (keysT p.1) nx s with
  |some p=>some (p,C)
  |none=>none
 |_=>none
def lpC:Option (At×List Prop)->Code
 |some (.loop c _ _,_)=>c
 |_=>default
def lpK:Option (At×List Prop)->List Fr
 |some (.loop _ K _,_)=>K
 |_=>[]
theorem SimC.loop{c:Cfg}{α:Type}(sc:List It)(nx:Nat)(S:α->List (Nat×AVal)×List (Nat×Ob))(I:α->Prop)(μ:α->Nat)(a:α)(ha:I a)
 (round:∀a,I a->(∀b,I b->μ b<μ a->z0Q P n l0 (lpC (runP P n sc c)) (mkSt (S b) nx) (wrapK P n l0 (lpK (runP P n sc c)) Q))->
  SimC P n l0 Q ⟨.run (lpC (runP P n sc c)),.loop (lpC (runP P n sc c))::lpK (runP P n sc c),mkSt (S a) nx⟩)
 (h:lpQ l0 nx (S a) (runP P n sc c)=some (S a,csL sc):=by kernel_rfl):SimC P n l0 Q c:=by
 generalize hr:runP P n sc c=r at*
 match r,h with
 |some (.loop x K s,C),h=>
  simp only[lpQ] at h
  split at h
  ·rename_i p hp
   simp only[qb,qF] at h
   obtain⟨rfl,rfl⟩:=h
   refine z2v hr (z13 sc) (fun hm hQ=> ?_)
   have hle:Le n l0 s (mkSt (S a) nx):=Le.ren hp
   refine z0Q.weaken hle ?_
   exact y5Q (fun a=>mkSt (S a) nx) I μ (fun a hI ih=>z0Q.step ((round a hI ih).run hm hQ)) a ha
  ·cases h
def bkQ(l0:List (Nat×Ob))(τ:List (Nat×Nat))(nx:Nat)(p:List (Nat×AVal)×List (Nat×Ob)):Option (At×List Prop)->Option ((List (Nat×AVal)×List (Nat×Ob))×List Prop)
 |some (.back _ _ s,C)=>match renSt l0 τ (keysT p.1) nx s with
  |some p=>some (p,C)
  |none=>none
 |_=>none
def bkC:Option (At×List Prop)->Option (Code×List Fr)
 |some (.back c K _,_)=>some (c,K)
 |_=>none
theorem SimC.back{c:Cfg}(sc:List It)(τ:List (Nat×Nat)){p:List (Nat×AVal)×List (Nat×Ob)}{nx:Nat}{body:Code}{K:List Fr}(ih:z0Q P n l0 body (mkSt p nx) (wrapK P n l0 K Q))
 (h:bkQ l0 τ nx p (runP P n sc c)=some (p,csL sc):=by kernel_rfl) (hc:bkC (runP P n sc c)=some (body,K):=by kernel_rfl):SimC P n l0 Q c:=by
 generalize hr:runP P n sc c=r at*
 match r,h,hc with
 |some (.back x K' s,C),h,hc=>
  simp only[bkC,qb,qF] at hc
  obtain⟨rfl,rfl⟩:=hc
  simp only[bkQ] at h
  split at h
  ·rename_i p' hp
   simp only[qb,qF] at h
   obtain⟨rfl,rfl⟩:=h
   exact z2v hr (z13 sc) (fun hm hQ=>z0Q.weaken (Le.ren hp) ih)
  ·cases h
abbrev FinX:=FinM
theorem y7U{rv:List ResultVar}{res:AVal}{l1:List (Nat×Ob)}:z2K n l0 (FinX P n l0 rv res l1):=fun _ _ _ h k=>FinM.le h k
def resX(P:Program)(rv:List ResultVar)(sl:List (Nat×AVal))(l:List (Nat×Ob)):Option AVal:=resM P rv sl (app emp l)
def y3D:List ResultVar->List Nat
 | []=>[]
 | .tmp t::l=>t::y3D l
 | .cell t _::l=>t::y3D l
def nxOf:List (Nat×Ob)->Nat
 | []=>0
 | (i,_)::l=>bif Nat.blt i (nxOf l) then nxOf l else i+1
def nxT:List (Nat×Nat)->Nat
 | []=>0
 | (_,i)::l=>bif Nat.blt i (nxT l) then nxT l else i+1
def isEnd:Exit->Bool
 | .ret=>true
 | .normal=>true
 |_=>false
def fnQ(P:Program)(l0:List (Nat×Ob))(τ:List (Nat×Nat))(rv:List ResultVar):Option (At×List Prop)->Option (AVal×List (Nat×Ob)×List Prop)
 |some (.fin e s,C)=>bif isEnd e then match renSt l0 τ (y3D rv) (nxT τ) s with
  |some (sl,l)=>match resX P rv sl l with
   |some r=>some (r,l,C)
   |none=>none
  |none=>none
  else none
 |_=>none
theorem y0W{e:Exit}(h:isEnd e=true):e= .ret\/e= .normal:=by cases e<;>simp[isEnd] at h|-
theorem SimC.finE{c:Cfg}{rv:List ResultVar}{res:AVal}{l1:List (Nat×Ob)}{β:Type}(sc:List It)(τ:List (Nat×Nat))(R:β->AVal×List (Nat×Ob))(x y:β)(e:y=x)
 (h:fnQ P l0 τ rv (runP P n sc c)=some ((R x).1,(R x).2,csL sc):=by kernel_rfl) (hR:R y=(res,l1):=by kernel_rfl):SimC P n l0 (FinX P n l0 rv res l1) c:=by
 subst e
 rw[hR] at h
 generalize hr:runP P n sc c=r at*
 match r,h with
 |some (.fin e s,C),h=>
  simp only[fnQ] at h
  cases he:isEnd e with
  |false=>rw[he] at h;cases h
  |true=>
   rw[he] at h
   simp only[cond_true] at h
   split at h
   ·rename_i sl l hs
    split at h
    ·rename_i r hres
     simp only[qb,qF] at h
     obtain⟨rfl,rfl,rfl⟩:=h
     exact z2v hr (z13 sc) (fun hm hQ=>FinM.here (y0W he) (Le.ren hs) rfl hres)
    ·cases h
   ·cases h
theorem SimC.fin{c:Cfg}{rv:List ResultVar}{res:AVal}{l1:List (Nat×Ob)}(sc:List It)(τ:List (Nat×Nat))(h:fnQ P l0 τ rv (runP P n sc c)=some (res,l1,csL sc):=by kernel_rfl):SimC P n l0 (FinX P n l0 rv res l1) c:=
 SimC.finE sc τ (fun z=>z) (res,l1) (res,l1) rfl h rfl
def leS(s:St):List LeI->Option (St×List Prop)
 | []=>some (s,[])
 |x::l=>match leR s x with
  |some (s',C)=>match leS s' l with
   |some (s2,C2)=>some (s2,apC C C2)
   |none=>none
  |none=>none
def leCs:List LeI->List Prop
 | []=>[]
 |x::l=>apC (leC x) (leCs l)
theorem y0X:∀l:List LeI,All (leCs l)
 | []=>trivial
 |x::l=>z7B (y3B x) (y0X l)
theorem z9T:∀{l t:List Prop},All (apC l t)->All l/\All t
 | [],_,h=>⟨trivial,h⟩
 |_::_,_,h=>⟨⟨h.1,(z9T h.2).1⟩,(z9T h.2).2⟩
theorem z8G:∀{l:List LeI} {s s':St} {C:List Prop},leS s l=some (s',C)->All C->Le n l0 s s'
 | [],s,s',C,h,_=>by
  simp only[leS,qb,qF] at h
  obtain⟨rfl,rfl⟩:=h
  exact Le.refl _
 |x::l,s,s',C,h,hC=>by
  simp only[leS] at h
  split at h
  ·rename_i s1 C1 h1
   split at h
   ·rename_i s2 C2 h2
    simp only[qb,qF] at h
    obtain⟨rfl,rfl⟩:=h
    obtain⟨q1,q2⟩:=z9T hC
    exact Le.trans (z8E h1 q1) (z8G h2 q2)
   ·cases h
  ·cases h
def fvQ(P:Program)(l0:List (Nat×Ob))(les:List LeI)(τ:List (Nat×Nat))(rv:List ResultVar):Option (At×List Prop)->Option (AVal×List (Nat×Ob)×List Prop×List Prop)
 |some (.fin e s,C)=>bif isEnd e then match resM P rv s.sl s.st with
  |some r0=>match leS ⟨[(0,r0)],s.st,s.nx⟩ les with
   |some (s2,D)=>match renSt l0 τ [0] (nxT τ) s2 with
    |some (sl,l)=>some (get sl 0,l,C,D)
    |none=>none
   |none=>none
  |none=>none
  else none
 |_=>none
theorem SimC.finVE{c:Cfg}{rv:List ResultVar}{res:AVal}{l1:List (Nat×Ob)}{β:Type}(sc:List It)(les:List LeI)(τ:List (Nat×Nat))(R:β->AVal×List (Nat×Ob))(x y:β)(e:y=x)
 (h:fvQ P l0 les τ rv (runP P n sc c)=some ((R x).1,(R x).2,csL sc,leCs les):=by kernel_rfl) (hR:R y=(res,l1):=by kernel_rfl):SimC P n l0 (FinX P n l0 rv res l1) c:=by
 subst e
 rw[hR] at h
 generalize hr:runP P n sc c=r at*
 match r,h with
 |some (.fin e s,C),h=>
  simp only[fvQ] at h
  cases he:isEnd e with
  |false=>rw[he] at h;cases h
  |true=>
   rw[he] at h
   simp only[cond_true] at h
   split at h
   ·rename_i r0 hr0
    split at h
    ·rename_i s2 D hD
     split at h
     ·rename_i sl l hs
      simp only[qb,qF] at h
      obtain⟨rfl,rfl,rfl,rfl⟩:=h
      exact z2v hr (z13 sc) (fun hm hQ=>⟨y0W he,s,r0,⟨sl,app emp l,nxT τ⟩,Le.refl _,hr0,Le.trans (z8G hD (y0X les)) (Le.ren hs),rfl,rfl⟩)
     ·cases h
    ·cases h
   ·cases h
theorem SimC.finV{c:Cfg}{rv:List ResultVar}{res:AVal}{l1:List (Nat×Ob)}(sc:List It)(les:List LeI)(τ:List (Nat×Nat))(h:fvQ P l0 les τ rv (runP P n sc c)=some (res,l1,csL sc,leCs les):=by kernel_rfl):SimC P n l0 (FinX P n l0 rv res l1) c:=
 SimC.finVE sc les τ (fun z=>z) (res,l1) (res,l1) rfl h rfl
theorem SimC.at{c:Cfg}(nx:Nat)(τ:List (Nat×Nat))(p:List (Nat×AVal)×List (Nat×Ob))(k:SimC P n l0 Q ⟨c.ctl,c.K,mkSt p nx⟩)(h:renSt l0 τ (keysT p.1) nx c.s=some p:=by kernel_rfl):SimC P n l0 Q c:=
 ⟨fun hm hQ=>y3y hQ (Le.ren h) (k.run hm hQ)⟩
theorem SimC.len{x:Code}{K:List Fr}{s:St}{α:Type}(t:Nat){k:Nat}{f:α->Tree}{l:List α}(h:l.length<=9223372036854775807->SimC P n l0 Q ⟨.run x,K,s⟩)(hg:get s.sl t=VL k f l:=by rfl):SimC P n l0 Q ⟨.run x,K,s⟩:=
 ⟨fun hm hQ=>Sim.len (t:=t) (k:=k) (xs:=l.map f) hg (fun hl=>(h (by simpa using hl)).run hm hQ)⟩
def y3E(fn:Func):Code:=fn.body.getD default
theorem FC.go{f:FuncId}{args:List AVal}{res:AVal}{l1:List (Nat×Ob)}(fn:Func)(h:SimC P fn.ntmps l0 (FinX P fn.ntmps l0 fn.results.toList res l1) ⟨.run (y3E fn),[],⟨z2J 0 args,app emp l0,nxOf l0⟩⟩)
 (hf:P.funcs[f]? =some fn:=by kernel_rfl) (hn:((args.length).ble fn.ntmps&&fn.body.isSome)=true:=by kernel_rfl) (hm:P.follows .mixedOrders=true:=by kernel_rfl):FC P f args (app emp l0) res (app emp l1):=by
 simp only[qn] at hn
 obtain⟨c,hb⟩:=zz.1 hn.2
 have hc:y3E fn=c:=by unfold y3E;rw[hb];rfl
 have hx:∀l:List (Nat×Ob),l.all (fun x=>Nat.blt x.1 (nxOf l))=true:=by
  have key:∀l:List (Nat×Ob),∀x∈l,x.1<nxOf l:=by
   intro l
   induction l with
   |nil=>intro x h;simp at h
   |cons y l ih=>
    intro x hx
    obtain⟨i,o⟩:=y
    simp only[nxOf]
    cases hh:Nat.blt i (nxOf l) with
    |true=>
     have:=zd (qx hh)
     rcases qj.1 hx with rfl|hx
     ·exact this
     ·exact ih x hx
    |false=>
     rcases qj.1 hx with rfl|hx
     ·exact Nat.lt_succ_self _
     ·have h1:=ih x hx
      have h2:¬(i<nxOf l):=fun h=>by rw[show Nat.blt i (nxOf l)=true from zR h] at hh;cases hh
      simp only[cond_false]
      omega
  intro l
  exact qQ.2 fun x hx=>zR (key l x hx)
 have h:=h.run hm y7U
 simp only[CtlG,wrapK,hc] at h
 exact FC.of_simM hf hb hn.1 (hx l0) h
end Go.Ab
end
section
namespace Go.Ab
open Go
variable {P:Program}
structure Px(p:Prop) where
 o:Orc
 cs:List Prop
 h:p->All cs
def gdC(e:Bool):List Prop->List Prop
 | []=>[]
 |p::l=>(e=true->p)::gdC e l
theorem y3F{e:Bool}:∀{l:List Prop},(e=true->All l)->All (gdC e l)
 | [],_=>trivial
 |p::l,h=>⟨fun he=>(h he).1,y3F fun he=>(h he).2⟩
def X{p:Prop}(x:Px p)(h:p:=by first|with_reducible exact True.intro|omega| (and_intros<;>first|omega|with_reducible rfl|with_reducible assumption|with_reducible exact True.intro| (simp only[qk];omega)| (simp[-List.getD_eq_getElem?_getD];omega)| (simp;omega)| (simp;done))):Ox:=⟨x.o,x.cs,x.h h⟩
def oV(v:AVal):Orc:=⟨some v,none,none,none,[]⟩
def oE(x:Tree):Orc:=⟨none,none,some x,none,[]⟩
def Xc(p:Prop):Px p:=⟨Orc.no,[p],fun h=>⟨h,trivial⟩⟩
def X0:Px True:=⟨Orc.no,[],fun _=>trivial⟩
def Xa{p q:Prop}(x:Px p)(y:Px q):Px (p/\q):=⟨y.o,x.cs++y.cs,fun h=>z5W.2 ⟨x.h h.1,y.h h.2⟩⟩
def Xn(a:Int):Px (-9223372036854775808<=a/\a<=9223372036854775807):=⟨oV (VI a),[Weak (VI (IntKind.i64.wrap a)) (VI a)],fun h=>⟨Weak.of_eq (nw h),trivial⟩⟩
def Xmax(a b:Int):Px True:=⟨oV (VI (max a b)),[Weak (VI (if b>a then b else a)) (VI (max a b))],fun _=>⟨Weak.of_eq y9m,trivial⟩⟩
def Xmin(a b:Int):Px True:=⟨oV (VI (min a b)),[Weak (VI (if b<a then b else a)) (VI (min a b))],fun _=>⟨Weak.of_eq y9n,trivial⟩⟩
def Xl{α:Type}(f:α->Tree)(l:List α):Px True:=⟨oV (VI (l.length:Int)),[Weak (VI ((l.map f).length:Int)) (VI (l.length:Int))],fun _=>⟨Weak.of_eq y7O,trivial⟩⟩
def Xi{α:Type}[Inhabited α](f:α->Tree)(l:List α)(j:Int):Px (0<=j/\j< (l.length:Int)):=
 ⟨oE (f (l.getD j.toNat default)),[0<=j,(l.map f)[j.toNat]? =some (f (l.getD j.toNat default))],fun h=>⟨h.1,y7N h.1 h.2,trivial⟩⟩
def Xi'{α:Type}[Inhabited α](f:α->Tree)(l:List α)(j:Int)(k:Nat):Px (j=(k:Int)/\k<l.length):=
 ⟨oE (f (l.getD k default)),[0<=j,(l.map f)[j.toNat]? =some (f (l.getD k default))],fun h=>⟨by omega,y5R h.1 h.2,trivial⟩⟩
def Xp{α:Type}(f:α->Tree)(o:List α)(j:Int):Px (0<=j/\j< (o.length:Int)):=
 ⟨Orc.no,[o.length=(o.map f).length,0<=j,j< (o.length:Int)],fun h=>⟨qk _|>.symm,h.1,h.2,trivial⟩⟩
def Xp'{α:Type}(f:α->Tree)(id:Nat)(o:List α)(j:Int)(k:Nat):Px (j=(k:Int)/\k<o.length):=
 ⟨oV (.eptr id o.length k 0),[o.length=(o.map f).length,0<=j,j< (o.length:Int),Weak (.eptr id o.length j.toNat 0) (.eptr id o.length k 0)],
  fun h=>⟨qk _|>.symm,by omega,by omega,Weak.of_eq (y7P (by omega)),trivial⟩⟩
def Xe{α:Type}[Inhabited α](f:α->Tree)(o:List α)(i:Nat):Px (i<o.length):=
 ⟨oE (f (o.getD i default)),[o.length=(o.map f).length,(o.map f)[i]? =some (f (o.getD i default))],fun h=>⟨qk _|>.symm,z7A h,trivial⟩⟩
def Xs{α:Type}[Inhabited α](k:Nat)(f:α->Tree)(id:Nat)(o:List α)(i:Nat)(x:α)(g:List (Nat×Ob):=[]):Px (i<o.length):=
 ⟨⟨none,some (g++[(id,.row k false ((o.set i x).map f))]),some (f (o.getD i default)),none,[]⟩,
  [o.length=(o.map f).length,(o.map f)[i]? =some (f (o.getD i default)),g++[(id,Ob.row k false ((o.set i x).map f))]=g++[(id,Ob.row k false ((o.map f).set i (f x)))]],
  fun h=>⟨qk _|>.symm,z7A h,by rw[y3w rfl],trivial⟩⟩
def Xst{α:Type}(f:α->Tree)(k:Nat)(l:List α)(hi:Int):Px (0<=hi/\hi<=(l.length:Int)):=
 ⟨oV (VL k f (l.take hi.toNat)),[0<=hi,hi<=(((l.map f).length:Nat):Int),Weak (.t (.lst k ((l.map f).take hi.toNat))) (VL k f (l.take hi.toNat))],fun h=>⟨h.1,by rw[qk];exact h.2,Weak.of_eq y7R,trivial⟩⟩
def Xsd{α:Type}(f:α->Tree)(k:Nat)(l:List α)(lo:Int):Px (0<=lo/\lo<=(l.length:Int)):=
 ⟨oV (VL k f (l.drop lo.toNat)),[0<=lo,lo<=(((l.map f).length:Nat):Int),Weak (.t (.lst k ((l.map f).drop lo.toNat))) (VL k f (l.drop lo.toNat))],fun h=>⟨h.1,by rw[qk];exact h.2,Weak.of_eq y7Q,trivial⟩⟩
def Xsb{α:Type}(f:α->Tree)(k:Nat)(l:List α)(lo hi:Int):Px (0<=lo/\lo<=hi/\hi<=(l.length:Int)):=
 ⟨oV (VL k f ((l.take hi.toNat).drop lo.toNat)),[0<=lo,lo<=hi,hi<=(((l.map f).length:Nat):Int),Weak (.t (.lst k (((l.map f).take hi.toNat).drop lo.toNat))) (VL k f ((l.take hi.toNat).drop lo.toNat))],
  fun h=>⟨h.1,h.2.1,by rw[qk];exact h.2.2,Weak.of_eq y7S,trivial⟩⟩
def rowC{p:Prop}{α:Type}(f:α->Tree)(o:List α)(x:Px p):Px p:=⟨x.o,(o.length=(o.map f).length)::x.cs,fun h=>⟨qk _|>.symm,x.h h⟩⟩
theorem lm{α:Type}{n:Nat}{f:α->Tree}{o:List α}(h:n=o.length:=by first|with_reducible rfl|omega| (simp;done)| (simp[-List.getD_eq_getElem?_getD];omega)| (simp;omega)):n=(o.map f).length:=by rw[qk];exact h
def rowX{p:Prop}{α:Type}(n:Nat)(f:α->Tree)(o:List α)(x:Px p)(h:n=o.length:=by first|omega| (simp;done)| (simp[-List.getD_eq_getElem?_getD];omega)| (simp;omega)):Px p:=⟨x.o,(n=(o.map f).length)::x.cs,fun hp=>⟨by rw[qk];exact h,x.h hp⟩⟩
def Xen{α:Type}[Inhabited α](n:Nat)(f:α->Tree)(o:List α)(i:Nat):Px (n=o.length/\i<o.length):=
 ⟨oE (f (o.getD i default)),[n=(o.map f).length,(o.map f)[i]? =some (f (o.getD i default))],fun h=>⟨by rw[qk];exact h.1,z7A h.2,trivial⟩⟩
def Xpn{α:Type}(n:Nat)(f:α->Tree)(o:List α)(j:Int):Px (n=o.length/\0<=j/\j< (n:Int)):=
 ⟨Orc.no,[n=(o.map f).length,0<=j,j< (n:Int)],fun h=>⟨by rw[qk];exact h.1,h.2.1,h.2.2,trivial⟩⟩
def Xsn{α:Type}[Inhabited α](n k:Nat)(f:α->Tree)(id:Nat)(o:List α)(i:Nat)(x:α)(g:List (Nat×Ob):=[]):Px (n=o.length/\i<o.length):=
 ⟨⟨none,some (g++[(id,.row k false ((o.set i x).map f))]),some (f (o.getD i default)),none,[]⟩,
  [n=(o.map f).length,(o.map f)[i]? =some (f (o.getD i default)),g++[(id,Ob.row k false ((o.set i x).map f))]=g++[(id,Ob.row k false ((o.map f).set i (f x)))]],
  fun h=>⟨by rw[qk];exact h.1,z7A h.2,by rw[y3w rfl],trivial⟩⟩
def Xb(s:ByteArray)(j:Int):Px (0<=j/\j< (s.size:Int)):=⟨Orc.no,[0<=j,j< (s.size:Int)],fun h=>⟨h.1,h.2,trivial⟩⟩
def Xan{α:Type}(f:α->Tree)(id:Nat)(ys:List α):Px (ys.length<=1099511627776):=
 ⟨oV (.row id ys.length),[(ys.map f).length<=1099511627776,Weak (.row id (ys.map f).length) (.row id ys.length)],fun h=>⟨by rw[qk];exact h,Weak.of_eq (by rw[qk]),trivial⟩⟩
def Xap{α:Type}(k:Nat)(f:α->Tree)(id:Nat)(o ys:List α):Px (o.length+ys.length<=1099511627776):=
 ⟨⟨some (.row id (o++ys).length),some [(id,.row k false ((o++ys).map f))],none,none,[]⟩,
  [o.length=(o.map f).length,o.length+(ys.map f).length<=1099511627776,Weak (.row id (o.length+(ys.map f).length)) (.row id (o++ys).length),[(id,Ob.row k false ((o++ys).map f))]=[(id,Ob.row k false (o.map f++ys.map f))]],
  fun h=>⟨qk _|>.symm,by rw[qk];exact h,Weak.of_eq (by simp),z6L rfl,trivial⟩⟩
def XapB{α:Type}(k:Nat)(f:α->Tree)(id:Nat)(o ys:List α):Px (o.length+ys.length<=8589934592):=
 ⟨⟨some (.row id (o++ys).length),some [(id,.row k false ((o++ys).map f))],none,none,[]⟩,
  [o.length=(o.map f).length,o.length+(ys.map f).length<=8589934592,Weak (.row id (o.length+(ys.map f).length)) (.row id (o++ys).length),[(id,Ob.row k false ((o++ys).map f))]=[(id,Ob.row k false (o.map f++ys.map f))]],
  fun h=>⟨qk _|>.symm,by rw[qk];exact h,Weak.of_eq (by simp),z6L rfl,trivial⟩⟩
def Xmk{α:Type}(k:Nat)(f:α->Tree)(id:Nat)(n m:Int)(z:α):Px (0<=n/\n<=m/\m<=1099511627776):=
 ⟨⟨none,some [(id,.row k false ((List.replicate n.toNat z).map f))],none,none,[]⟩,[0<=n,n<=m,m<=1099511627776,[(id,Ob.row k false ((List.replicate n.toNat z).map f))]=[(id,Ob.row k false (List.replicate n.toNat (f z)))]],
  fun h=>⟨h.1,h.2.1,h.2.2,by rw[List.map_replicate],trivial⟩⟩
def Xmz{α:Type}(k:Nat)(f:α->Tree)(id:Nat)(n m:Int)(z:α)(zs:List Tree)(hz:TWs zs (f z).cells):Px (0<=n/\n<=m/\m<=1099511627776):=
 ⟨⟨none,some [(id,.row k false ((List.replicate n.toNat z).map f))],some (f z),none,[]⟩,[0<=n,n<=m,m<=1099511627776,TWs zs (f z).cells,[(id,Ob.row k false ((List.replicate n.toNat z).map f))]=[(id,Ob.row k false (List.replicate n.toNat (f z)))]],
  fun h=>⟨h.1,h.2.1,h.2.2,hz,by rw[List.map_replicate],trivial⟩⟩
def Xbsl:Px True:=⟨⟨none,none,some (.sc (.bool true)),none,[]⟩,[],fun _=>trivial⟩
def Xf(l:List (Nat×Nat)):Px True:=⟨⟨none,none,none,none,l⟩,[],fun _=>trivial⟩
def Xtl{α:Type}(f:α->Tree)(n:Nat)(o:List α)(l:Int):Px (n=o.length/\0<=l/\l<=(n:Int)):=
 ⟨⟨none,none,none,none,[(0,0)]⟩,[n=(o.map f).length,0<=l,l<=(n:Int)],fun h=>⟨by rw[qk];exact h.1,h.2.1,h.2.2,trivial⟩⟩
def rpC(e:Bool):Nat->List Prop->List Prop
 |0,l=>l
 |k+1,l=>(e=true)::rpC e k l
theorem y3G{e:Bool}(he:e=true){l:List Prop}(h:All l):∀k,All (rpC e k l)
 |0=>h
 |k+1=>⟨he,y3G he h k⟩
def Xv{p:Prop}(k:Nat)(e:Bool)(x:Px p)(h:e=true->p:=by first| (intro _;with_reducible exact True.intro)| (intro hg;(try simp[-List.getD_eq_getElem?_getD] at hg);first|omega| (and_intros<;>first|omega|with_reducible rfl|with_reducible assumption|with_reducible exact True.intro| (simp only[qk];omega)| (simp[-List.getD_eq_getElem?_getD];omega)| (simp;omega)| (simp[hg];done)))):Ox:=
 ⟨x.o,gdC e (rpC e k x.cs),y3F fun he=>y3G he (x.h (h he)) k⟩
def Xk(g:Bool):Px True:=⟨Orc.no,[g=true->g=true],fun _=>⟨id,trivial⟩⟩
def Xk'(g:Bool):Px True:=⟨Orc.no,[g=false->(!g)=true],fun _=>⟨fun h=>by simp[h],trivial⟩⟩
def Xka(e g:Bool):Ox:=⟨Orc.no,[e=true->e=true,e=true->g=true->(e&&g)=true],⟨id,fun h k=>by rw[h,k];rfl,trivial⟩⟩
def Xko(e g:Bool):Ox:=⟨Orc.no,[e=true->e=true,e=true->g=false->(e&& !g)=true],⟨id,fun h k=>by rw[h,k];rfl,trivial⟩⟩
theorem FC.nil{f:FuncId}{args:List AVal}{res:AVal}{st st':Store}(i k:Nat)(h:FC P f args st res st')(hi:args[i]? =some (.t (.lst k [])):=by kernel_rfl)(hk:Nat.blt 0 k=true:=by kernel_rfl):FC P f (args.set i VN) st res st':=by
 intro F m w us hS hl hv
 refine h F m w us hS (by simpa using hl) (fun j v u hj hu=> ?_)
 by_cases e:i=j
 ·subst e
  rw[hi] at hj
  cases hj
  have hlt:=(qB.1 hi).1
  have:=hv i VN u (by simp[hlt]) hu
  exact y3v (zd (qx hk)) _ _ _ _ _ this
 ·exact hv j v u (by rw[List.getElem?_set_ne e];exact hj) hu
def Xc0{p:Prop}{f:FuncId}{args:List AVal}{res:AVal}(h:FC P f args emp res emp)(x:Px p)(hc:z00 P f=true:=by kernel_rfl):Px p:=
 ⟨⟨none,none,none,some ⟨0,[],res,[]⟩,[]⟩,(z00 P f=true)::(x.cs++[FC P f args emp res emp]),fun hp=>⟨hc,z5W.2 ⟨x.h hp,h,trivial⟩⟩⟩
def z1P:Nat->List (Nat×Ob)->List (Nat×Nat)->List (Nat×Nat)
 |_,[],_=>[]
 |nid,(i,_)::l,τ=>match lk τ i with
  |some _=>z1P nid l τ
  |none=>(i,nid)::z1P (nid+1) l τ
def orL{α:Type}(o:Option (List α)):List α:=o.getD []
def orV(o:Option AVal):AVal:=o.getD .junk
def ck1(τ:List (Nat×Nat))(res:AVal)(l1:List (Nat×Ob)):Bool:=z1L (τ.map (·.1))&&z1L (τ.map (·.2))&&(z0p τ (app emp l1) τ).isSome&&(renV τ res).isSome
theorem z8H{args:List AVal}(h:renL [] args=some args):renL (inv []) args=some args:=h
theorem FC.fresh{f:FuncId}{args:List AVal}{res:AVal}{l1:List (Nat×Ob)}(τ:List (Nat×Nat))(h:FC P f args emp res (app emp l1))(ha:renL [] args=some args)(hk:ck1 τ res l1=true):
 FC P f args emp (orV (renV τ res)) (app emp (orL (z0p τ (app emp l1) τ))):=by
 simp only[ck1,qn] at hk
 obtain⟨⟨⟨k1,k2⟩,k3⟩,k4⟩:=hk
 obtain⟨l',e3⟩:=zz.1 k3
 obtain⟨r',e4⟩:=zz.1 k4
 refine FC.ren (l0:=[]) (l0':=[]) h [] τ (by simp[z1L,k1,k2]) rfl (z8H ha) rfl ?_ ?_
 ·rw[e3];rfl
 ·rw[e4];rfl
def Xc1{p:Prop}{f:FuncId}{args:List AVal}{res:AVal}{l1:List (Nat×Ob)}(nid:Nat)(h:FC P f args emp res (app emp l1))(x:Px p)(ha:renL [] args=some args:=by kernel_rfl)
 (hk:ck1 (z1P nid l1 []) res l1=true:=by kernel_rfl) (hc:z00 P f=true:=by kernel_rfl):Px p:=
 ⟨⟨none,none,none,some ⟨1,[],orV (renV (z1P nid l1 []) res),orL (z0p (z1P nid l1 []) (app emp l1) (z1P nid l1 []))⟩,[]⟩,
  (z00 P f=true)::(x.cs++[FC P f args emp (orV (renV (z1P nid l1 []) res)) (app emp (orL (z0p (z1P nid l1 []) (app emp l1) (z1P nid l1 []))))]),
  fun hp=>⟨hc,z5W.2 ⟨x.h hp,FC.fresh _ h ha hk,trivial⟩⟩⟩
def sndL:List (Nat×Nat)->List Nat
 | []=>[]
 | (_,j)::l=>j::sndL l
def ck3(τ0 τ:List (Nat×Nat))(args:List AVal)(l0:List (Nat×Ob))(res:AVal)(l1:List (Nat×Ob)):Bool:=
 (z1L (τ0.map (·.1))&&z1L (τ0.map (·.2))&&z1L (τ.map (·.1))&&z1L (τ.map (·.2))&&τ0.all (fun p=>match lk τ p.1 with|some j=>Nat.beq j p.2|none=>false))&&
  (orL (z0p τ0 (app emp l0) τ0)).all (fun x=>hasId (τ0.map (·.2)) x.1)&&(z0p τ (app emp l1) τ).isSome&&(renV τ res).isSome&&
  (orL (z0p τ0 (app emp l0) τ0)).all (fun x=>hasId ((orL (z0p τ (app emp l1) τ)).map (·.1)) x.1)
theorem y0Y{a b:List (Nat×Ob)}(h:∀x∈a,x.1∈b.map (·.1)):app (app emp a) b=app emp b:=by
 funext i
 by_cases hi:i∈b.map (·.1)
 ·exact y0I (.inl hi)
 ·rw[z1o hi,z1o hi]
  refine z1o (fun hm=> ?_)
  obtain⟨x,hx,rfl⟩:=qy.1 hm
  exact hi (h x hx)
theorem FC.obj{f:FuncId}{args:List AVal}{res:AVal}{l0 l1:List (Nat×Ob)}(τ0 τ:List (Nat×Nat))(h:FC P f args (app emp l0) res (app emp l1))(hk:ck3 τ0 τ args l0 res l1=true)
 (h0:z0p (inv τ0) (app emp (orL (z0p τ0 (app emp l0) τ0))) (inv τ0)=some l0) (ha:renL (inv τ0) (orL (renL τ0 args))=some args):
 FC P f (orL (renL τ0 args)) (app emp (orL (z0p τ0 (app emp l0) τ0))) (orV (renV τ res)) (app (app emp (orL (z0p τ0 (app emp l0) τ0))) (orL (z0p τ (app emp l1) τ))):=by
 simp only[ck3,qn] at hk
 obtain⟨⟨⟨⟨k1,k2⟩,k3⟩,k4⟩,k5⟩:=hk
 obtain⟨l',e3⟩:=zz.1 k3
 obtain⟨r',e4⟩:=zz.1 k4
 rw[y0Y (fun x hx=>z0E.1 (qQ.1 k5 x hx))]
 refine FC.ren h τ0 τ (by simp only[qn];exact k1) h0 ha k2 ?_ ?_
 ·rw[e3];rfl
 ·rw[e4];rfl
def Xc3{p:Prop}{f:FuncId}{args:List AVal}{res:AVal}{l0 l1:List (Nat×Ob)}(nid:Nat)(τ0:List (Nat×Nat))(h:FC P f args (app emp l0) res (app emp l1))(x:Px p)
 (hk:ck3 τ0 (τ0++z1P nid l1 τ0) args l0 res l1=true:=by kernel_rfl)
 (h0:z0p (inv τ0) (app emp (orL (z0p τ0 (app emp l0) τ0))) (inv τ0)=some l0:=by kernel_rfl) (ha:renL (inv τ0) (orL (renL τ0 args))=some args:=by kernel_rfl) (hc:z00 P f=true:=by kernel_rfl):Px p:=
 ⟨⟨none,none,none,some ⟨3,sndL τ0,orV (renV (τ0++z1P nid l1 τ0) res),orL (z0p (τ0++z1P nid l1 τ0) (app emp l1) (τ0++z1P nid l1 τ0))⟩,[]⟩,
  [z00 P f=true,FC P f (orL (renL τ0 args)) (app emp (orL (z0p τ0 (app emp l0) τ0))) (orV (renV (τ0++z1P nid l1 τ0) res)) (app (app emp (orL (z0p τ0 (app emp l0) τ0))) (orL (z0p (τ0++z1P nid l1 τ0) (app emp l1) (τ0++z1P nid l1 τ0))))],
  fun hp=>⟨hc,FC.obj _ _ h hk h0 ha,trivial⟩⟩
theorem FC.objr{f:FuncId}{args:List AVal}{res:AVal}{l0:List (Nat×Ob)}(τ0:List (Nat×Nat))(h:FC P f args (app emp l0) res (app emp l0))(hk:ck3 τ0 τ0 args l0 res l0=true)
 (h0:z0p (inv τ0) (app emp (orL (z0p τ0 (app emp l0) τ0))) (inv τ0)=some l0) (ha:renL (inv τ0) (orL (renL τ0 args))=some args):
 FC P f (orL (renL τ0 args)) (app emp (orL (z0p τ0 (app emp l0) τ0))) (orV (renV τ0 res)) (app (app emp (orL (z0p τ0 (app emp l0) τ0))) []):=by
 have:=FC.obj τ0 τ0 h hk h0 ha
 simp only[ck3,qn] at hk
 rw[y0Y (fun x hx=>z0E.1 (qQ.1 hk.2 x hx))] at this
 exact this
def Xc4{p:Prop}{f:FuncId}{args:List AVal}{res:AVal}{l0:List (Nat×Ob)}(τ0:List (Nat×Nat))(h:FC P f args (app emp l0) res (app emp l0))(x:Px p)
 (hk:ck3 τ0 τ0 args l0 res l0=true:=by kernel_rfl)
 (h0:z0p (inv τ0) (app emp (orL (z0p τ0 (app emp l0) τ0))) (inv τ0)=some l0:=by kernel_rfl) (ha:renL (inv τ0) (orL (renL τ0 args))=some args:=by kernel_rfl) (hc:z00 P f=true:=by kernel_rfl):Px p:=
 ⟨⟨none,none,none,some ⟨3,sndL τ0,orV (renV τ0 res),[]⟩,[]⟩,
  [z00 P f=true,FC P f (orL (renL τ0 args)) (app emp (orL (z0p τ0 (app emp l0) τ0))) (orV (renV τ0 res)) (app (app emp (orL (z0p τ0 (app emp l0) τ0))) [])],
  fun hp=>⟨hc,FC.objr _ h hk h0 ha,trivial⟩⟩
theorem pr{α β:Type}{a b:α}{c d:β}(h:a=b)(k:c=d):(a,c)=(b,d):=by rw[h,k]
theorem y5W{z:Int}(h:0<=z/\z<=2147483647):IntKind.i32.wrap z=z:=by unfold IntKind.wrap;simp[IntKind.bits,IntKind.signed];omega
def Xcv(k:IntKind)(z:Int):Px (k.wrap z=z):=⟨oV (.t (.sc (.int k z))),[Weak (.t (.sc (.int k (k.wrap z)))) (.t (.sc (.int k z)))],fun h=>⟨Weak.of_eq (by rw[h]),trivial⟩⟩
def intsB(s:ByteArray):List Int:=s.data.toList.map fun b=>(b.toNat:Int)
def Xbit(k:IntKind)(y z:Int):Px (y=z):=⟨oV (.t (.sc (.int k z))),[Weak (.t (.sc (.int k y))) (.t (.sc (.int k z)))],fun h=>⟨Weak.of_eq (by rw[h]),trivial⟩⟩
def Xsh(k:IntKind)(b y z:Int):Px (0<=b/\y=z):=⟨oV (.t (.sc (.int k z))),[0<=b,Weak (.t (.sc (.int k y))) (.t (.sc (.int k z)))],fun h=>⟨h.1,Weak.of_eq (by rw[h.2]),trivial⟩⟩
end Go.Ab
end
section
namespace Go.Ch
open Go Go.Ab
structure Attr where
 name:ByteArray
 val:ByteArray
abbrev mt:ByteArray:={data:=#[]}
instance:Inhabited Attr:=⟨⟨mt,mt⟩⟩
def attrT(a:Attr):Tree:= .agg [.sc (.string a.name),.sc (.string a.val)]
theorem y3H{a b:ByteArray}(h:a.toList=b.toList):a=b:=by
 rw[ByteArray.toList_eq,ByteArray.toList_eq] at h
 obtain⟨⟨x⟩⟩:=a
 obtain⟨⟨y⟩⟩:=b
 simpa using h
theorem z0z{a b:ByteArray}:seq a b=true↔a=b:=by
 unfold seq
 rw[beq_iff_eq]
 exact⟨y3H,fun h=>by rw[h]⟩
theorem z1b{a b:ByteArray}:seq a b=false↔a≠b:=by
 rw[<-Bool.not_eq_true,z0z]
theorem y7b:∀x:List UInt8,Op.bytesLess x x=false
 | []=>rfl
 |a::x=>by simp[Op.bytesLess,y7b x]
theorem y0Z:∀x y z:List UInt8,Op.bytesLess x y=true->Op.bytesLess y z=true->Op.bytesLess x z=true
 |_,_,[],_,h=>by cases‹List UInt8›<;>simp[Op.bytesLess] at h
 | [],_,_::_,_,_=>rfl
 |a::x,[],_::_,h,_=>by simp[Op.bytesLess] at h
 |a::x,b::y,c::z,h1,h2=>by
  simp only[Op.bytesLess,qD,decide_eq_true_eq,qn,beq_iff_eq,UInt8.lt_iff_toNat_lt,<-UInt8.toNat_inj] at h1 h2|-
  rcases h1 with h1| ⟨h1,h1'⟩
  ·rcases h2 with h2| ⟨h2,h2'⟩<;>(left;omega)
  ·rcases h2 with h2| ⟨h2,h2'⟩
   ·left;omega
   ·right;exact⟨by omega,y0Z x y z h1' h2'⟩
theorem y7c:∀x y:List UInt8,Op.bytesLess x y=false->Op.bytesLess y x=false->x=y
 | [],[],_,_=>rfl
 | [],_::_,h,_=>by simp[Op.bytesLess] at h
 |_::_,[],_,h=>by simp[Op.bytesLess] at h
 |a::x,b::y,h1,h2=>by
  simp only[Op.bytesLess,zN,decide_eq_false_iff_not,Bool.and_eq_false_iff,beq_eq_false_iff_ne,UInt8.lt_iff_toNat_lt,ne_eq,<-UInt8.toNat_inj] at h1 h2
  have e:a.toNat=b.toNat:=by omega
  have h1':Op.bytesLess x y=false:=by rcases h1.2 with h|h;exact absurd e h;exact h
  have h2':Op.bytesLess y x=false:=by rcases h2.2 with h|h;exact absurd e.symm h;exact h
  rw[UInt8.toNat_inj.1 e,y7c x y h1' h2']
theorem z9U(a:ByteArray):slt a a=false:=y7b _
theorem z2w{a b c:ByteArray}(h:slt a b=true)(k:slt b c=true):slt a c=true:=y0Z _ _ _ h k
theorem z9V{a b:ByteArray}(h:slt a b=false)(k:slt b a=false):a=b:=y3H (y7c _ _ h k)
theorem z1Q{a b:ByteArray}(h:slt a b=true):a≠b:=fun e=>by subst e;rw[z9U] at h;cases h
theorem y3I{a b:ByteArray}(h:slt a b=true):slt b a=false:=by
 cases k:slt b a with
 |false=>rfl
 |true=>have:=z2w h k;rw[z9U] at this;cases this
def Above(n:ByteArray)(l:List Attr):Prop:=∀a∈l,slt n a.name=true
def z2i:List Attr->Prop
 | []=>True
 |a::l=>Above a.name l/\z2i l
def look:List Attr->ByteArray->Option ByteArray
 | [],_=>none
 |a::l,n=>if a.name=n then some a.val else look l n
theorem z0U{l:List Attr}{n:ByteArray}(h:∀a∈l,a.name≠n):look l n=none:=by
 induction l with
 |nil=>rfl
 |cons a l ih=>rw[look,if_neg (h a (by simp))];exact ih (fun b hb=>h b (by simp[hb]))
theorem y5X{l:List Attr}{n v:ByteArray}(h:look l n=some v):(⟨n,v⟩:Attr)∈l:=by
 induction l with
 |nil=>cases h
 |cons a l ih=>
  rw[look] at h
  split at h
  ·rename_i hn
   cases h
   subst hn
   exact List.mem_cons_self
  ·exact qC _ (ih h)
theorem z9W{l:List Attr}(hs:z2i l){a:Attr}(h:a∈l):look l a.name=some a.val:=by
 induction l with
 |nil=>cases h
 |cons b l ih=>
  rw[look]
  rcases qj.1 h with rfl|h
  ·rw[if_pos rfl]
  ·rw[if_neg (z1Q (hs.1 a h))];exact ih hs.2 h
theorem z4C:∀{a b:List Attr},z2i a->z2i b->(∀n,look a n=look b n)->a=b
 | [],[],_,_,_=>rfl
 | [],y::b,_,_,h=>by have:=h y.name;simp[look] at this
 |x::a,[],_,_,h=>by have:=h x.name;simp[look] at this
 |x::a,y::b,ha,hb,h=>by
  have hxy:x.name=y.name:=by
   refine z9V ?_ ?_
   ·cases k:slt x.name y.name with
    |false=>rfl
    |true=>
     have h1:=h x.name
     rw[look,if_pos rfl,look,if_neg (fun e=>z1Q k e.symm),z0U (fun z hz e=>z1Q (z2w k (hb.1 z hz)) e.symm)] at h1
     cases h1
   ·cases k:slt y.name x.name with
    |false=>rfl
    |true=>
     have h1:=h y.name
     rw[look,if_neg (fun e=>z1Q k e.symm),z0U (fun z hz e=>z1Q (z2w k (ha.1 z hz)) e.symm),look,if_pos rfl] at h1
     cases h1
  have hv:x.val=y.val:=by
   have h1:=h x.name
   rw[look,if_pos rfl,look,if_pos hxy.symm] at h1
   exact Option.some.inj h1
  have e:x=y:=by cases x;cases y;simp_all
  subst e
  rw[z4C ha.2 hb.2 (fun n=> ?_)]
  by_cases hn:x.name=n
  ·subst hn
   rw[z0U (fun z hz e=>z1Q (ha.1 z hz) e.symm),z0U (fun z hz e=>z1Q (hb.1 z hz) e.symm)]
  ·have h1:=h n
   rwa [look,if_neg hn,look,if_neg hn] at h1
def bothL:List Attr->List Attr->List (Attr×Attr)
 | [],[]=>[]
 | [],y::b=>(default,y)::bothL [] b
 |x::a,[]=>(x,default)::bothL a []
 |x::a,y::b=>
  if slt x.name y.name=true then(x,default)::bothL a (y::b)
  else if slt y.name x.name=true then(default,y)::bothL (x::a) b
  else(x,y)::bothL a b
termination_by a b=>a.length+b.length
theorem y3J:∀a b:List Attr,(bothL a b).length<=a.length+b.length:=by
 intro a b
 induction a,b using bothL.induct with
 |case1=>simp[bothL]
 |case2 y b ih=>simp only[bothL,qi] at ih|-;omega
 |case3 x a ih=>simp only[bothL,qi] at ih|-;omega
 |case4 x a y b h ih=>rw[bothL,if_pos h];simp only[qi] at ih|-;omega
 |case5 x a y b h k ih=>rw[bothL,if_neg h,if_pos k];simp only[qi] at ih|-;omega
 |case6 x a y b h k ih=>rw[bothL,if_neg h,if_neg k];simp only[qi] at ih|-;omega
def Named(l:List Attr):Prop:=∀a∈l,a.name≠mt
def Fair(g:Attr->Attr->Option Attr):Prop:=∀x y z,g x y=some z->z.name=if y.name=mt then x.name else y.name
def fm(g:Attr->Attr->Option Attr)(a b:List Attr):List Attr:=(bothL a b).filterMap fun p=>g p.1 p.2
def at2(g:Attr->Attr->Option Attr)(n:ByteArray):Option ByteArray->Option ByteArray->Option ByteArray
 |none,none=>none
 |some v,none=>(g ⟨n,v⟩ default).map (·.val)
 |none,some w=>(g default ⟨n,w⟩).map (·.val)
 |some v,some w=>(g ⟨n,v⟩ ⟨n,w⟩).map (·.val)
theorem z14{g:Attr->Attr->Option Attr}{x y:Attr}{l:List (Attr×Attr)}:((x,y)::l).filterMap (fun p=>g p.1 p.2)=(g x y).toList++l.filterMap (fun p=>g p.1 p.2):=by
 rw[List.filterMap_cons]
 cases g x y<;>rfl
theorem z3W{o:Option Attr}{l:List Attr}{k n:ByteArray}(h:∀z,o=some z->z.name=k):look (o.toList++l) n=if k=n then(o.map (·.val)).or (look l n) else look l n:=by
 cases o with
 |none=>simp
 |some z=>
  have:=h z rfl
  subst this
  simp[look]
theorem z24{o:Option Attr}{l:List Attr}{k n:ByteArray}(h:∀z,o=some z->z.name=k)(hn:slt n k=true)(hl:Above n l):Above n (o.toList++l):=by
 intro a ha
 rcases qm.1 ha with ha|ha
 ·rw[h a (by simpa using ha)];exact hn
 ·exact hl a ha
theorem z2x{o:Option Attr}{l:List Attr}{k:ByteArray}(h:∀z,o=some z->z.name=k)(hl:Above k l)(hs:z2i l):z2i (o.toList++l):=by
 cases o with
 |none=>exact hs
 |some z=>exact⟨by rw[h z rfl];exact hl,hs⟩
theorem z7C{a:Attr}{l:List Attr}:look (a::l) a.name=some a.val:=by rw[look,if_pos rfl]
theorem z7D{a:Attr}{l:List Attr}{n:ByteArray}(h:a.name≠n):look (a::l) n=look l n:=by rw[look,if_neg h]
theorem y3K{g:Attr->Attr->Option Attr}(hg:Fair g):∀(a b:List Attr),z2i a->z2i b->Named a->Named b->
 z2i (fm g a b)/\(∀n,Above n a->Above n b->Above n (fm g a b))/\∀n,look (fm g a b) n=at2 g n (look a n) (look b n):=by
 intro a b
 induction a,b using bothL.induct with
 |case1=>intro _ _ _ _;exact⟨by simp[fm,bothL,z2i],fun n _ _=>by simp[fm,bothL,Above],fun n=>by simp[fm,bothL,look,at2]⟩
 |case2 y b ih=>
  intro _ hb _ nb
  obtain⟨i1,i2,i3⟩:=ih trivial hb.2 (fun _ h=>by cases h) (fun a h=>nb a (by simp[h]))
  have hk:∀z,g default y=some z->z.name=y.name:=fun z hz=>by rw[hg _ _ z hz,if_neg (nb y (by simp))]
  have e:fm g [] (y::b)=(g default y).toList++fm g [] b:=by unfold fm;rw[bothL,z14]
  rw[e]
  refine⟨z2x hk (i2 _ (fun _ h=>by cases h) hb.1) i1,fun n h1 h2=>z24 hk (h2 y (by simp)) (i2 n h1 (fun a h=>h2 a (by simp[h]))),fun n=> ?_⟩
  rw[z3W hk,i3]
  simp only[look]
  by_cases h:y.name=n
  ·subst h
   rw[z0U (l:=b) (fun z hz e=>z1Q (hb.1 z hz) e.symm)]
   simp[at2]
  ·simp only[if_neg h]
 |case3 x a ih=>
  intro ha _ na _
  obtain⟨i1,i2,i3⟩:=ih ha.2 trivial (fun a h=>na a (by simp[h])) (fun _ h=>by cases h)
  have hk:∀z,g x default=some z->z.name=x.name:=fun z hz=>by rw[hg _ _ z hz];exact if_pos rfl
  have e:fm g (x::a) []=(g x default).toList++fm g a []:=by unfold fm;rw[bothL,z14]
  rw[e]
  refine⟨z2x hk (i2 _ ha.1 (fun _ h=>by cases h)) i1,fun n h1 h2=>z24 hk (h1 x (by simp)) (i2 n (fun a h=>h1 a (by simp[h])) h2),fun n=> ?_⟩
  rw[z3W hk,i3]
  simp only[look]
  by_cases h:x.name=n
  ·subst h
   rw[z0U (l:=a) (fun z hz e=>z1Q (ha.1 z hz) e.symm)]
   simp[at2]
  ·simp only[if_neg h]
 |case4 x a y b h ih=>
  intro ha hb na nb
  obtain⟨i1,i2,i3⟩:=ih ha.2 hb (fun a h=>na a (by simp[h])) nb
  have hk:∀z,g x default=some z->z.name=x.name:=fun z hz=>by rw[hg _ _ z hz];exact if_pos rfl
  have e:fm g (x::a) (y::b)=(g x default).toList++fm g a (y::b):=by unfold fm;rw[bothL,if_pos h,z14]
  have hxb:Above x.name (y::b):=fun z hz=>by
   rcases qj.1 hz with rfl|hz
   ·exact h
   ·exact z2w h (hb.1 z hz)
  rw[e]
  refine⟨z2x hk (i2 _ ha.1 hxb) i1,fun n h1 h2=>z24 hk (h1 x (by simp)) (i2 n (fun a h=>h1 a (by simp[h])) h2),fun n=> ?_⟩
  rw[z3W hk,i3]
  by_cases hn:x.name=n
  ·subst hn
   rw[z0U (l:=y::b) (fun z hz e=>z1Q (hxb z hz) e.symm),z0U (l:=a) (fun z hz e=>z1Q (ha.1 z hz) e.symm),z7C]
   simp[at2]
  ·rw[if_neg hn,z7D hn]
 |case5 x a y b h k ih=>
  intro ha hb na nb
  obtain⟨i1,i2,i3⟩:=ih ha hb.2 na (fun a h=>nb a (by simp[h]))
  have hk:∀z,g default y=some z->z.name=y.name:=fun z hz=>by rw[hg _ _ z hz,if_neg (nb y (by simp))]
  have e:fm g (x::a) (y::b)=(g default y).toList++fm g (x::a) b:=by unfold fm;rw[bothL,if_neg h,if_pos k,z14]
  have hya:Above y.name (x::a):=fun z hz=>by
   rcases qj.1 hz with rfl|hz
   ·exact k
   ·exact z2w k (ha.1 z hz)
  rw[e]
  refine⟨z2x hk (i2 _ hya hb.1) i1,fun n h1 h2=>z24 hk (h2 y (by simp)) (i2 n h1 (fun a h=>h2 a (by simp[h]))),fun n=> ?_⟩
  rw[z3W hk,i3]
  by_cases hn:y.name=n
  ·subst hn
   rw[z0U (l:=x::a) (fun z hz e=>z1Q (hya z hz) e.symm),z0U (l:=b) (fun z hz e=>z1Q (hb.1 z hz) e.symm),z7C]
   simp[at2]
  ·rw[if_neg hn,z7D (a:=y) hn]
 |case6 x a y b h k ih=>
  intro ha hb na nb
  obtain⟨i1,i2,i3⟩:=ih ha.2 hb.2 (fun a h=>na a (by simp[h])) (fun a h=>nb a (by simp[h]))
  have hxy:x.name=y.name:=z9V (by simpa using h) (by simpa using k)
  have hk:∀z,g x y=some z->z.name=x.name:=fun z hz=>by rw[hg _ _ z hz,if_neg (nb y (by simp)),hxy]
  have e:fm g (x::a) (y::b)=(g x y).toList++fm g a b:=by unfold fm;rw[bothL,if_neg h,if_neg k,z14]
  rw[e]
  refine⟨z2x hk (i2 _ ha.1 (by rw[hxy];exact hb.1)) i1,fun n h1 h2=>z24 hk (h1 x (by simp)) (i2 n (fun a h=>h1 a (by simp[h])) (fun a h=>h2 a (by simp[h]))),fun n=> ?_⟩
  rw[z3W hk,i3]
  by_cases hn:x.name=n
  ·subst hn
   have ey:(⟨x.name,y.val⟩:Attr)=y:=by rw[hxy]
   have hl:look (y::b) x.name=some y.val:=by rw[hxy];exact z7C
   rw[hl,z7C,z0U (l:=a) (fun z hz e=>z1Q (ha.1 z hz) e.symm),z0U (l:=b) (fun z hz e=>z1Q (hb.1 z hz) (by rw[<-hxy,e]))]
   simp[at2,ey]
  ·rw[if_neg hn,z7D hn,z7D (a:=y) (by rw[<-hxy];exact hn)]
theorem dflt:(default:Attr)=⟨mt,mt⟩:=rfl
def rawG(x y:Attr):Option Attr:=if y.name=mt then some x else if y.val=mt then none else some y
def botG(x y:Attr):Option Attr:=some (if y.name=mt then x else y)
def wioG(x y:Attr):Option Attr:=if y.name=mt then some x else none
theorem z1p:Fair rawG:=by intro x y z h;unfold rawG at h;(repeat' split at h)<;>simp_all
theorem y00:Fair botG:=by intro x y z h;unfold botG at h;(repeat' split at h)<;>simp_all
theorem y01:Fair wioG:=by intro x y z h;unfold wioG at h;(repeat' split at h)<;>simp_all
section
variable (NP VP:ByteArray->Prop)
def Q(e:Bool)(n v:ByteArray):Prop:=NP n/\(VP v\/(e=true/\v=mt))
def V(e:Bool)(l:List Attr):Prop:=z2i l/\∀a∈l,Q NP VP e a.name a.val
end
section
variable {NP VP:ByteArray->Prop} (hN:¬NP mt) (hV:¬VP mt)
include hN
theorem V.named{e:Bool}{l:List Attr}(h:V NP VP e l):Named l:=fun a ha e'=>hN (by have:=(h.2 a ha).1;rwa [e'] at this)
omit hN in
theorem V.look{e:Bool}{l:List Attr}(h:V NP VP e l){n v:ByteArray}(hl:look l n=some v):Q NP VP e n v:=h.2 ⟨n,v⟩ (y5X hl)
theorem z1F{e1 e2:Bool}{g:Attr->Attr->Option Attr}(hg:Fair g){a b:List Attr}(ha:V NP VP e1 a)(hb:V NP VP e2 b)(n:ByteArray):
 Go.Ch.look (fm g a b) n=at2 g n (Go.Ch.look a n) (Go.Ch.look b n):=(y3K hg a b ha.1 hb.1 (ha.named hN) (hb.named hN)).2.2 n
theorem fm_V{e1 e2 e3:Bool}{g:Attr->Attr->Option Attr}(hg:Fair g){a b:List Attr}(ha:V NP VP e1 a)(hb:V NP VP e2 b)
 (h1:∀n v z,n≠mt->Q NP VP e1 n v->at2 g n (some v) none=some z->Q NP VP e3 n z)
 (h2:∀n v z,n≠mt->Q NP VP e2 n v->at2 g n none (some v)=some z->Q NP VP e3 n z)
 (h3:∀n v w z,n≠mt->Q NP VP e1 n v->Q NP VP e2 n w->at2 g n (some v) (some w)=some z->Q NP VP e3 n z):V NP VP e3 (fm g a b):=by
 have hm:=y3K hg a b ha.1 hb.1 (ha.named hN) (hb.named hN)
 refine⟨hm.1,fun z hz=> ?_⟩
 have hl:=z9W hm.1 hz
 rw[hm.2.2] at hl
 have hq:∀{e v},Q NP VP e z.name v->z.name≠mt:=fun q e=>hN (e▸q.1)
 cases h4:Go.Ch.look a z.name with
 |none=>
  cases h5:Go.Ch.look b z.name with
  |none=>rw[h4,h5] at hl;cases hl
  |some w=>rw[h4,h5] at hl;exact h2 _ _ _ (hq (hb.look h5)) (hb.look h5) hl
 |some v=>
  cases h5:Go.Ch.look b z.name with
  |none=>rw[h4,h5] at hl;exact h1 _ _ _ (hq (ha.look h4)) (ha.look h4) hl
  |some w=>rw[h4,h5] at hl;exact h3 _ _ _ _ (hq (ha.look h4)) (ha.look h4) (hb.look h5) hl
theorem q_ne{e:Bool}{n v:ByteArray}(h:Q NP VP e n v):n≠mt:=fun e=>hN (e▸h.1)
theorem raw_V{l c:List Attr}(hl:V NP VP false l)(hc:V NP VP true c):V NP VP false (fm rawG l c):=by
 refine fm_V hN z1p hl hc (fun n v z hn q h=> ?_) (fun n v z hn q h=> ?_) (fun n v w z hn q r h=> ?_)
 ·simp[at2,rawG,dflt] at h;subst h;exact q
 ·simp[at2,rawG,dflt,hn] at h;obtain⟨_,⟨h1,rfl⟩,rfl⟩:=h;simp_all[Q]
 ·simp[at2,rawG,dflt,hn] at h;obtain⟨_,⟨h1,rfl⟩,rfl⟩:=h;simp_all[Q]
theorem bot_V{a b:List Attr}(ha:V NP VP true a)(hb:V NP VP true b):V NP VP true (fm botG a b):=by
 refine fm_V hN y00 ha hb (fun n v z hn q h=> ?_) (fun n v z hn q h=> ?_) (fun n v w z hn q r h=> ?_)
 ·simp[at2,botG,dflt] at h;subst h;exact q
 ·simp[at2,botG,dflt,hn] at h;subst h;exact q
 ·simp[at2,botG,dflt,hn] at h;subst h;exact r
theorem wio_V{a b:List Attr}(ha:V NP VP true a)(hb:V NP VP true b):V NP VP true (fm wioG a b):=by
 refine fm_V hN y01 ha hb (fun n v z hn q h=> ?_) (fun n v z hn q h=> ?_) (fun n v w z hn q r h=> ?_)
 ·simp[at2,wioG,dflt] at h;subst h;exact q
 ·simp[at2,wioG,dflt,hn] at h
 ·simp[at2,wioG,dflt,hn] at h
include hV
omit hN in
theorem q_val{n v:ByteArray}(h:Q NP VP false n v):v≠mt:=fun e=>by
 rcases h.2 with h|h
 ·exact hV (e▸h)
 ·cases h.1
omit hV in
theorem y2h{l a b:List Attr}(hl:V NP VP false l)(ha:V NP VP true a)(hb:V NP VP true b):fm rawG (fm rawG l a) b=fm rawG (fm rawG l b) (fm wioG a b):=by
 have h1:=raw_V hN hl ha
 have h2:=raw_V hN hl hb
 have h3:=wio_V hN ha hb
 refine z4C (raw_V hN h1 hb).1 (raw_V hN h2 h3).1 (fun n=> ?_)
 rw[z1F hN z1p h1 hb,z1F hN z1p h2 h3,z1F hN z1p hl ha,z1F hN z1p hl hb,z1F hN y01 ha hb]
 cases k2:look a n with
 |none=>
  cases k3:look b n with
  |none=>cases look l n<;>simp[at2,rawG,dflt]
  |some w=>
   have hn:=q_ne hN (hb.look k3)
   by_cases hw:w=mt<;>cases look l n<;>simp[at2,rawG,wioG,dflt,hn,hw]
 |some v=>
  have hn:=q_ne hN (ha.look k2)
  cases k3:look b n with
  |none=>by_cases hv:v=mt<;>cases look l n<;>simp[at2,rawG,wioG,dflt,hn,hv]
  |some w=>by_cases hv:v=mt<;>by_cases hw:w=mt<;>cases look l n<;>simp[at2,rawG,wioG,dflt,hn,hv,hw]
omit hV in
theorem y3L{l a b:List Attr}(hl:V NP VP false l)(ha:V NP VP true a)(hb:V NP VP true b):fm rawG l (fm botG a b)=fm rawG (fm rawG l a) b:=by
 have h1:=raw_V hN hl ha
 have h3:=bot_V hN ha hb
 refine z4C (raw_V hN hl h3).1 (raw_V hN h1 hb).1 (fun n=> ?_)
 rw[z1F hN z1p h1 hb,z1F hN z1p hl h3,z1F hN z1p hl ha,z1F hN y00 ha hb]
 cases k2:look a n with
 |none=>
  cases k3:look b n with
  |none=>cases look l n<;>simp[at2,rawG,dflt]
  |some w=>
   have hn:=q_ne hN (hb.look k3)
   by_cases hw:w=mt<;>cases look l n<;>simp[at2,rawG,botG,dflt,hn,hw]
 |some v=>
  have hn:=q_ne hN (ha.look k2)
  cases k3:look b n with
  |none=>by_cases hv:v=mt<;>cases look l n<;>simp[at2,rawG,botG,dflt,hn,hv]
  |some w=>by_cases hv:v=mt<;>by_cases hw:w=mt<;>cases look l n<;>simp[at2,rawG,botG,dflt,hn,hv,hw]
end
end Go.Ch
end
section
set_option maxRecDepth 100000
set_option maxHeartbeats 4000000
open Go Go.Proofs Go.Ab
namespace Go.Ch
theorem z2j{s:ByteArray}:seq s {data:=#[]}=decide (s.size=0):=by
 by_cases h:s.size=0
 ·rw[decide_eq_true h,z0z]
  obtain⟨⟨l⟩⟩:=s
  cases l with
  |nil=>rfl
  |cons a l=>simp[ByteArray.size] at h
 ·rw[decide_eq_false h,z1b]
  intro e;subst e;exact h rfl
theorem z7E{s:ByteArray}(h:seq s {data:=#[]}=false):(0:Int)< (s.size:Int):=by
 rw[z2j,decide_eq_false_iff_not] at h;omega
def byt(s:ByteArray)(i:Nat):Nat:=((s[i]?).getD 0).toNat
def badC(b:Nat):Prop:=(b<97\/122<b)/\(b<48\/57<b)/\b≠46/\b≠45
instance (b:Nat):Decidable (badC b):=by unfold badC;infer_instance
def nmS(s:ByteArray)(i:Nat):Bool:=if i<s.size then(if badC (byt s i) then false else nmS s (i+1)) else true
termination_by s.size-i
def z1g(s:ByteArray):Bool:=decide (1<=s.size/\s.size<=24/\97<=byt s 0/\byt s 0<=122)&&nmS s 0
def vlS(s:ByteArray)(i:Nat):Bool:=if i<s.size then(if byt s i<32\/126<byt s i then false else vlS s (i+1)) else true
termination_by s.size-i
def valGo(s:ByteArray):Bool:=decide (1<=s.size/\s.size<=200)&&vlS s 0
def nmR(s:ByteArray)(i:Nat):Bool:=if i<s.size then(if(byt s i<97\/122<byt s i)/\(i=0\/(byt s i≠46/\byt s i≠45/\(byt s i<48\/57<byt s i))) then false else nmR s (i+1)) else true
termination_by s.size-i
def z3X(s:ByteArray):Bool:=nmR s 0&&decide (1<=s.size/\s.size<=24)
def valRf(s:ByteArray):Bool:=vlS s 0&&decide (1<=s.size/\s.size<=200)
theorem y7V(s:ByteArray)(i:Nat)(h:0<i):nmR s i=nmS s i:=by
 induction i using nmS.induct (s:=s) with
 |case1 i hi hb=>rw[nmR,nmS,if_pos hi,if_pos hi,if_pos hb,if_pos];unfold badC at hb;omega
 |case2 i hi hb ih=>rw[nmR,nmS,if_pos hi,if_pos hi,if_neg hb,if_neg];exact ih (by omega);unfold badC at hb;omega
 |case3 i hi=>rw[nmR,nmS,if_neg hi,if_neg hi]
theorem y3M(s:ByteArray):z3X s=z1g s:=by
 unfold z3X z1g
 by_cases h:1<=s.size
 ·rw[nmR,if_pos (by omega),y7V s (0+1) (by omega)]
  by_cases h2:97<=byt s 0/\byt s 0<=122
  ·have e:nmS s 0=nmS s (0+1):=by rw[nmS,if_pos (by omega),if_neg (by unfold badC;omega)]
   rw[if_neg (by omega),e,Bool.and_comm]
   congr 1
   simp[h2]
  ·rw[if_pos (by omega),decide_eq_false (by omega:¬(1<=s.size/\s.size<=24/\97<=byt s 0/\byt s 0<=122))]
   simp
 ·rw[decide_eq_false (by omega),decide_eq_false (by omega)];simp
theorem y5Y(s:ByteArray):valRf s=valGo s:=by unfold valRf valGo;rw[Bool.and_comm]
theorem byt0(s:ByteArray)(i:Nat):((s[i]?).getD 0).toNat=byt s i:=rfl
theorem z9X(s:ByteArray):FC Tryz.prog 137 [VS s] (app emp []) (VB (z1g s)) (app emp []):=by
 refine .go Tryz.f137 ?_
 refine .bp [.r [],.r [(4,Xv 1 (!(seq s ({data:=#[]}))) X0),(5,Xv 1 (!(seq s ({data:=#[]}))) X0),(6,X (Xk' (seq s ({data:=#[]})))),(9,Xv 1 (!(seq s ({data:=#[]})||decide ((s.size:Int)> 24))) (Xb s 0) (fun hg=>by(try simp only[decide_eq_true_eq,decide_eq_false_iff_not,Int.not_lt,Int.not_le,gt_iff_lt,zh,zL,qD,zN] at hg);exact⟨(by first|omega| (simp;omega)| (simp;done)|assumption),(z7E (by first|exact hg|exact hg.1|exact hg.1.1))⟩)),(10,Xv 1 (!(seq s ({data:=#[]})||decide ((s.size:Int)> 24))) X0),(11,X (Xk' (seq s ({data:=#[]})||decide ((s.size:Int)> 24)))),(14,Xv 1 (!((seq s ({data:=#[]})||decide ((s.size:Int)> 24))||decide (((((s[0]?).getD 0).toNat:Nat):Int)< 97))) (Xb s 0) (fun hg=>by(try simp only[decide_eq_true_eq,decide_eq_false_iff_not,Int.not_lt,Int.not_le,gt_iff_lt,zh,zL,qD,zN] at hg);exact⟨(by first|omega| (simp;omega)| (simp;done)|assumption),(z7E (by first|exact hg|exact hg.1|exact hg.1.1))⟩)),(15,Xv 1 (!((seq s ({data:=#[]})||decide ((s.size:Int)> 24))||decide (((((s[0]?).getD 0).toNat:Nat):Int)< 97))) X0),(16,X (Xk' ((seq s ({data:=#[]})||decide ((s.size:Int)> 24))||decide (((((s[0]?).getD 0).toNat:Nat):Int)< 97))))]] (((seq s ({data:=#[]})||decide ((s.size:Int)> 24))||decide (((((s[0]?).getD 0).toNat:Nat):Int)< 97))||decide (((((s[0]?).getD 0).toNat:Nat):Int)> 122)) (fun h1=> ?_) (fun h1=> ?_)
 ·
  have e1:((z1g s):Bool)=false:=by
   simp only[byt0,z2j,decide_eq_true_eq] at h1;unfold z1g;rw[decide_eq_false (by omega)];rfl
  exact .finE [.r []] [] (fun z0:Bool=>(VB z0,[])) _ _ e1
 ·
  refine .loop (α:=Nat) [.r []] 168 (fun i=>([(0,VS s),(23,VI (s.size:Int)),(24,VI (i:Int))],[])) (fun i=>i<=s.size/\nmS s 0=nmS s i) (fun i=>s.size-i) (0:Nat) ?_ ?_
  ·
   exact⟨by omega,rfl⟩
  rintro i I4 ih4
  try dsimp only at I4
  refine .bp [.r []] (decide ((i:Int)< (s.size:Int))) (fun h4=> ?_) (fun h4=> ?_)
  ·
   refine .bp [.r [],.r [(2,X (Xb s (i:Int)))],.r [(4,Xv 1 (!(decide (((((s[i]?).getD 0).toNat:Nat):Int)< 97))) X0),(5,X (Xk' (decide (((((s[i]?).getD 0).toNat:Nat):Int)< 97)))),(8,Xv 1 (decide (((((s[i]?).getD 0).toNat:Nat):Int)< 97)||decide (((((s[i]?).getD 0).toNat:Nat):Int)> 122)) X0),(9,Xv 1 (decide (((((s[i]?).getD 0).toNat:Nat):Int)< 97)||decide (((((s[i]?).getD 0).toNat:Nat):Int)> 122)) X0),(11,Xv 1 ((decide (((((s[i]?).getD 0).toNat:Nat):Int)< 97)||decide (((((s[i]?).getD 0).toNat:Nat):Int)> 122))&& !(decide (((((s[i]?).getD 0).toNat:Nat):Int)< 48))) X0),(12,Xko (decide (((((s[i]?).getD 0).toNat:Nat):Int)< 97)||decide (((((s[i]?).getD 0).toNat:Nat):Int)> 122)) (decide (((((s[i]?).getD 0).toNat:Nat):Int)< 48))),(13,X (Xk (decide (((((s[i]?).getD 0).toNat:Nat):Int)< 97)||decide (((((s[i]?).getD 0).toNat:Nat):Int)> 122)))),(16,Xv 1 ((decide (((((s[i]?).getD 0).toNat:Nat):Int)< 97)||decide (((((s[i]?).getD 0).toNat:Nat):Int)> 122))&&(decide (((((s[i]?).getD 0).toNat:Nat):Int)< 48)||decide (((((s[i]?).getD 0).toNat:Nat):Int)> 57))) X0),(17,X (Xk ((decide (((((s[i]?).getD 0).toNat:Nat):Int)< 97)||decide (((((s[i]?).getD 0).toNat:Nat):Int)> 122))&&(decide (((((s[i]?).getD 0).toNat:Nat):Int)< 48)||decide (((((s[i]?).getD 0).toNat:Nat):Int)> 57))))),(20,Xv 1 (((decide (((((s[i]?).getD 0).toNat:Nat):Int)< 97)||decide (((((s[i]?).getD 0).toNat:Nat):Int)> 122))&&(decide (((((s[i]?).getD 0).toNat:Nat):Int)< 48)||decide (((((s[i]?).getD 0).toNat:Nat):Int)> 57)))&&(((((s[i]?).getD 0).toNat:Nat):Int) !=46)) X0),(21,X (Xk (((decide (((((s[i]?).getD 0).toNat:Nat):Int)< 97)||decide (((((s[i]?).getD 0).toNat:Nat):Int)> 122))&&(decide (((((s[i]?).getD 0).toNat:Nat):Int)< 48)||decide (((((s[i]?).getD 0).toNat:Nat):Int)> 57)))&&(((((s[i]?).getD 0).toNat:Nat):Int) !=46))))]] ((((decide (((((s[i]?).getD 0).toNat:Nat):Int)< 97)||decide (((((s[i]?).getD 0).toNat:Nat):Int)> 122))&&(decide (((((s[i]?).getD 0).toNat:Nat):Int)< 48)||decide (((((s[i]?).getD 0).toNat:Nat):Int)> 57)))&&(((((s[i]?).getD 0).toNat:Nat):Int) !=46))&&(((((s[i]?).getD 0).toNat:Nat):Int) !=45)) (fun h7=> ?_) (fun h7=> ?_)
   ·
    have e2:((z1g s):Bool)=false:=by
     simp only[byt0] at h7;unfold z1g;rw[I4.2,nmS,if_pos (by omega),if_pos (by unfold badC;omega)];simp
    exact .finE [.r []] [] (fun z0:Bool=>(VB z0,[])) _ _ e2
   ·
    refine .back [.r [(0,X (Xn ((i:Int)+1)))]] [] (ih4 ((i+1):Nat) ?_ ?_)
    ·
     simp only[byt0] at h7;refine⟨by omega,?_⟩;rw[I4.2,nmS,if_pos (by omega),if_neg (by unfold badC;omega)]
    ·
     ((try dsimp only);omega)
  ·
   have e3:((z1g s):Bool)=true:=by
    simp only[byt0,z2j,decide_eq_false_iff_not] at h1;unfold z1g;rw[I4.2,nmS,if_neg (by omega),decide_eq_true (by omega)];rfl
   exact .finE [.r []] [] (fun z0:Bool=>(VB z0,[])) _ _ e3
theorem z3e(s:ByteArray):FC Tryz.prog 60 [VS s] (app emp []) (VB (valGo s)) (app emp []):=by
 refine .go Tryz.f60 ?_
 refine .bp [.r [],.r [(4,Xv 1 (!(seq s ({data:=#[]}))) X0),(5,Xv 1 (!(seq s ({data:=#[]}))) X0),(6,X (Xk' (seq s ({data:=#[]}))))]] (seq s ({data:=#[]})||decide ((s.size:Int)> 200)) (fun h1=> ?_) (fun h1=> ?_)
 ·
  have e1:((valGo s):Bool)=false:=by
   simp only[z2j,decide_eq_true_eq] at h1;unfold valGo;rw[decide_eq_false (by omega)];rfl
  exact .finE [.r []] [] (fun z0:Bool=>(VB z0,[])) _ _ e1
 ·
  refine .loop (α:=Nat) [.r []] 88 (fun i=>([(0,VS s),(12,VI (s.size:Int)),(13,VI (i:Int))],[])) (fun i=>i<=s.size/\vlS s 0=vlS s i) (fun i=>s.size-i) (0:Nat) ?_ ?_
  ·
   exact⟨by omega,rfl⟩
  rintro i I4 ih4
  try dsimp only at I4
  refine .bp [.r []] (decide ((i:Int)< (s.size:Int))) (fun h4=> ?_) (fun h4=> ?_)
  ·
   refine .bp [.r [],.r [(2,X (Xb s (i:Int))),(7,Xv 2 (!(decide (((((s[i]?).getD 0).toNat:Nat):Int)< 32))) (Xb s (i:Int))),(8,Xv 1 (!(decide (((((s[i]?).getD 0).toNat:Nat):Int)< 32))) X0),(9,X (Xk' (decide (((((s[i]?).getD 0).toNat:Nat):Int)< 32))))]] (decide (((((s[i]?).getD 0).toNat:Nat):Int)< 32)||decide (((((s[i]?).getD 0).toNat:Nat):Int)> 126)) (fun h6=> ?_) (fun h6=> ?_)
   ·
    have e2:((valGo s):Bool)=false:=by
     simp only[byt0] at h6;unfold valGo;rw[I4.2,vlS,if_pos (by omega),if_pos (by omega)];simp
    exact .finE [.r []] [] (fun z0:Bool=>(VB z0,[])) _ _ e2
   ·
    refine .back [.r [(0,X (Xn ((i:Int)+1)))]] [] (ih4 ((i+1):Nat) ?_ ?_)
    ·
     simp only[byt0] at h6;refine⟨by omega,?_⟩;rw[I4.2,vlS,if_pos (by omega),if_neg (by omega)]
    ·
     ((try dsimp only);omega)
  ·
   have e3:((valGo s):Bool)=true:=by
    simp only[z2j,decide_eq_false_iff_not] at h1;unfold valGo;rw[I4.2,vlS,if_neg (by omega),decide_eq_true (by omega)];rfl
   exact .finE [.r []] [] (fun z0:Bool=>(VB z0,[])) _ _ e3
theorem y5Z(s:ByteArray)(hs:s.size<=9223372036854775807):FC Tryz.prog 16 [VS s] (app emp []) (VB (z3X s)) (app emp []):=by
 refine .go Tryz.f16 ?_
 refine .loop (α:=Nat) [.r [],.r []] 32 (fun i=>([(0,VS s),(6,VI (s.size:Int)),(7,VI (i:Int))],[])) (fun i=>i<=s.size/\nmR s 0=nmR s i) (fun i=>s.size-i) (0:Nat) ?_ ?_
 ·
  exact⟨by omega,rfl⟩
 rintro i I2 ih2
 try dsimp only at I2
 refine .bp [.r []] (decide ((i:Int)< (s.size:Int))) (fun h2=> ?_) (fun h2=> ?_)
 ·
  refine .bp [.r [],.r [(2,X (Xb s (i:Int))),(7,Xv 2 (decide (((((s[i]?).getD 0).toNat:Nat):Int)>=97)) (Xb s (i:Int))),(8,Xv 1 (decide (((((s[i]?).getD 0).toNat:Nat):Int)>=97)) X0),(9,X (Xk (decide (((((s[i]?).getD 0).toNat:Nat):Int)>=97))))],.r [(4,Xv 1 (!(decide (((((s[i]?).getD 0).toNat:Nat):Int)>=97)&&decide (((((s[i]?).getD 0).toNat:Nat):Int)<=122))) X0),(5,Xv 1 (!(decide (((((s[i]?).getD 0).toNat:Nat):Int)>=97)&&decide (((((s[i]?).getD 0).toNat:Nat):Int)<=122))) X0),(8,Xv 2 ((!(decide (((((s[i]?).getD 0).toNat:Nat):Int)>=97)&&decide (((((s[i]?).getD 0).toNat:Nat):Int)<=122)))&& !((i:Int)==0)) (Xb s (i:Int))),(9,Xv 1 ((!(decide (((((s[i]?).getD 0).toNat:Nat):Int)>=97)&&decide (((((s[i]?).getD 0).toNat:Nat):Int)<=122)))&& !((i:Int)==0)) X0),(10,Xv 1 ((!(decide (((((s[i]?).getD 0).toNat:Nat):Int)>=97)&&decide (((((s[i]?).getD 0).toNat:Nat):Int)<=122)))&& !((i:Int)==0)) X0),(13,Xv 2 (((!(decide (((((s[i]?).getD 0).toNat:Nat):Int)>=97)&&decide (((((s[i]?).getD 0).toNat:Nat):Int)<=122)))&& !((i:Int)==0))&&(((((s[i]?).getD 0).toNat:Nat):Int) !=46)) (Xb s (i:Int))),(14,Xv 1 (((!(decide (((((s[i]?).getD 0).toNat:Nat):Int)>=97)&&decide (((((s[i]?).getD 0).toNat:Nat):Int)<=122)))&& !((i:Int)==0))&&(((((s[i]?).getD 0).toNat:Nat):Int) !=46)) X0),(15,Xka ((!(decide (((((s[i]?).getD 0).toNat:Nat):Int)>=97)&&decide (((((s[i]?).getD 0).toNat:Nat):Int)<=122)))&& !((i:Int)==0)) (((((s[i]?).getD 0).toNat:Nat):Int) !=46)),(16,Xv 1 ((!(decide (((((s[i]?).getD 0).toNat:Nat):Int)>=97)&&decide (((((s[i]?).getD 0).toNat:Nat):Int)<=122)))&& !((i:Int)==0)) X0),(19,Xv 2 (((!(decide (((((s[i]?).getD 0).toNat:Nat):Int)>=97)&&decide (((((s[i]?).getD 0).toNat:Nat):Int)<=122)))&& !((i:Int)==0))&&((((((s[i]?).getD 0).toNat:Nat):Int) !=46)&&(((((s[i]?).getD 0).toNat:Nat):Int) !=45))) (Xb s (i:Int))),(20,Xv 1 (((!(decide (((((s[i]?).getD 0).toNat:Nat):Int)>=97)&&decide (((((s[i]?).getD 0).toNat:Nat):Int)<=122)))&& !((i:Int)==0))&&((((((s[i]?).getD 0).toNat:Nat):Int) !=46)&&(((((s[i]?).getD 0).toNat:Nat):Int) !=45))) X0),(21,Xv 1 (((!(decide (((((s[i]?).getD 0).toNat:Nat):Int)>=97)&&decide (((((s[i]?).getD 0).toNat:Nat):Int)<=122)))&& !((i:Int)==0))&&((((((s[i]?).getD 0).toNat:Nat):Int) !=46)&&(((((s[i]?).getD 0).toNat:Nat):Int) !=45))) X0),(24,Xv 2 ((((!(decide (((((s[i]?).getD 0).toNat:Nat):Int)>=97)&&decide (((((s[i]?).getD 0).toNat:Nat):Int)<=122)))&& !((i:Int)==0))&&((((((s[i]?).getD 0).toNat:Nat):Int) !=46)&&(((((s[i]?).getD 0).toNat:Nat):Int) !=45)))&& !(decide (((((s[i]?).getD 0).toNat:Nat):Int)< 48))) (Xb s (i:Int))),(25,Xv 1 ((((!(decide (((((s[i]?).getD 0).toNat:Nat):Int)>=97)&&decide (((((s[i]?).getD 0).toNat:Nat):Int)<=122)))&& !((i:Int)==0))&&((((((s[i]?).getD 0).toNat:Nat):Int) !=46)&&(((((s[i]?).getD 0).toNat:Nat):Int) !=45)))&& !(decide (((((s[i]?).getD 0).toNat:Nat):Int)< 48))) X0),(26,Xko (((!(decide (((((s[i]?).getD 0).toNat:Nat):Int)>=97)&&decide (((((s[i]?).getD 0).toNat:Nat):Int)<=122)))&& !((i:Int)==0))&&((((((s[i]?).getD 0).toNat:Nat):Int) !=46)&&(((((s[i]?).getD 0).toNat:Nat):Int) !=45))) (decide (((((s[i]?).getD 0).toNat:Nat):Int)< 48))),(27,Xka ((!(decide (((((s[i]?).getD 0).toNat:Nat):Int)>=97)&&decide (((((s[i]?).getD 0).toNat:Nat):Int)<=122)))&& !((i:Int)==0)) ((((((s[i]?).getD 0).toNat:Nat):Int) !=46)&&(((((s[i]?).getD 0).toNat:Nat):Int) !=45))),(28,Xko (!(decide (((((s[i]?).getD 0).toNat:Nat):Int)>=97)&&decide (((((s[i]?).getD 0).toNat:Nat):Int)<=122))) ((i:Int)==0)),(29,X (Xk (!(decide (((((s[i]?).getD 0).toNat:Nat):Int)>=97)&&decide (((((s[i]?).getD 0).toNat:Nat):Int)<=122)))))]] (!(decide (((((s[i]?).getD 0).toNat:Nat):Int)>=97)&&decide (((((s[i]?).getD 0).toNat:Nat):Int)<=122))&&(((i:Int)==0)|| (((((((s[i]?).getD 0).toNat:Nat):Int) !=46)&&(((((s[i]?).getD 0).toNat:Nat):Int) !=45))&&(decide (((((s[i]?).getD 0).toNat:Nat):Int)< 48)||decide (((((s[i]?).getD 0).toNat:Nat):Int)> 57))))) (fun h5=> ?_) (fun h5=> ?_)
  ·
   have e1:((z3X s):Bool)=false:=by
    simp only[byt0] at h5;unfold z3X;rw[I2.2,nmR,if_pos (by omega),if_pos (by omega)];simp
   exact .finE [.r []] [] (fun z0:Bool=>(VB z0,[])) _ _ e1
  ·
   refine .back [.r [(0,X (Xn ((i:Int)+1)))]] [] (ih2 ((i+1):Nat) ?_ ?_)
   ·
    simp only[byt0] at h5;refine⟨by omega,?_⟩;rw[I2.2,nmR,if_pos (by omega),if_neg (by omega)]
   ·
    ((try dsimp only);omega)
 ·
  have e2:((z3X s):Bool)=(decide ((s.size:Int)>=1)&&decide ((s.size:Int)<=24)):=by
   unfold z3X;rw[I2.2,nmR,if_neg (by omega),zi];simp;omega
  exact .finE [.r [(5,Xv 1 (decide ((s.size:Int)>=1)) X0),(6,Xv 1 (decide ((s.size:Int)>=1)) X0),(7,X (Xk (decide ((s.size:Int)>=1))))]] [] (fun z0:Bool=>(VB z0,[])) _ _ e2
theorem y3N(s:ByteArray)(hs:s.size<=9223372036854775807):FC Tryz.prog 56 [VS s] (app emp []) (VB (valRf s)) (app emp []):=by
 refine .go Tryz.f56 ?_
 refine .loop (α:=Nat) [.r [],.r []] 32 (fun i=>([(0,VS s),(5,VI (s.size:Int)),(6,VI (i:Int))],[])) (fun i=>i<=s.size/\vlS s 0=vlS s i) (fun i=>s.size-i) (0:Nat) ?_ ?_
 ·
  exact⟨by omega,rfl⟩
 rintro i I2 ih2
 try dsimp only at I2
 refine .bp [.r []] (decide ((i:Int)< (s.size:Int))) (fun h2=> ?_) (fun h2=> ?_)
 ·
  refine .bp [.r [],.r [(2,X (Xb s (i:Int))),(7,Xv 2 (!(decide (((((s[i]?).getD 0).toNat:Nat):Int)< 32))) (Xb s (i:Int))),(8,Xv 1 (!(decide (((((s[i]?).getD 0).toNat:Nat):Int)< 32))) X0),(9,X (Xk' (decide (((((s[i]?).getD 0).toNat:Nat):Int)< 32))))]] (decide (((((s[i]?).getD 0).toNat:Nat):Int)< 32)||decide (((((s[i]?).getD 0).toNat:Nat):Int)> 126)) (fun h4=> ?_) (fun h4=> ?_)
  ·
   have e1:((valRf s):Bool)=false:=by
    simp only[byt0] at h4;unfold valRf;rw[I2.2,vlS,if_pos (by omega),if_pos (by omega)];simp
   exact .finE [.r []] [] (fun z0:Bool=>(VB z0,[])) _ _ e1
  ·
   refine .back [.r [(0,X (Xn ((i:Int)+1)))]] [] (ih2 ((i+1):Nat) ?_ ?_)
   ·
    simp only[byt0] at h4;refine⟨by omega,?_⟩;rw[I2.2,vlS,if_pos (by omega),if_neg (by omega)]
   ·
    ((try dsimp only);omega)
 ·
  have e2:((valRf s):Bool)=(decide ((s.size:Int)>=1)&&decide ((s.size:Int)<=200)):=by
   unfold valRf;rw[I2.2,vlS,if_neg (by omega),zi];simp;omega
  exact .finE [.r [(5,Xv 1 (decide ((s.size:Int)>=1)) X0),(6,Xv 1 (decide ((s.size:Int)>=1)) X0),(7,X (Xk (decide ((s.size:Int)>=1))))]] [] (fun z0:Bool=>(VB z0,[])) _ _ e2
def chkA(e:Bool)(l:List Attr)(i:Nat):Int:=
 if i<l.length then
  if z1g (l.getD i default).name=false then 9
  else if valGo (l.getD i default).val=false/\(e=false\/seq (l.getD i default).val {data:=#[]}=false) then 23
  else if 0<i/\(slt (l.getD i default).name (l.getD (i- 1) default).name=true\/seq (l.getD i default).name (l.getD (i- 1) default).name=true) then 5
  else chkA e l (i+1)
 else 0
termination_by l.length-i
def Szd(l:List Attr):Prop:=∀a∈l,a.name.size<=9223372036854775807/\a.val.size<=9223372036854775807
theorem Szd.at{l:List Attr}(h:Szd l){i:Nat}(hi:i<l.length):(l.getD i default).name.size<=9223372036854775807/\(l.getD i default).val.size<=9223372036854775807:=by
 rw[show l.getD i default=l[i] by simp[List.getD,qa hi]]
 exact h _ (zp hi)
theorem y7d(l:List Attr)(e:Bool):FC Tryz.prog 82 [VL 2 attrT l,VB e] (app emp []) (VI (chkA e l 0)) (app emp []):=by
 refine .go Tryz.f82 ?_
 refine .len 0 (fun hl0=> ?_)
 refine .loop (α:=Nat) [.r [],.r [(1,X (Xl attrT l))]] 32 (fun i=>([(0,VL 2 attrT l),(1,VB e),(7,VL 2 attrT l),(8,VI (l.length:Int)),(9,VI (i:Int))],[])) (fun i=>i<=l.length/\chkA e l 0=chkA e l i) (fun i=>l.length-i) (0:Nat) ?_ ?_
 ·
  exact⟨by omega,rfl⟩
 rintro i I2 ih2
 try dsimp only at I2
 refine .bp [.r []] (decide ((i:Int)< (l.length:Int))) (fun h2=> ?_) (fun h2=> ?_)
 ·
  refine .bp [.r [(1,X (Xi attrT l (i:Int)))],.r [(2,X (Xc0 (z9X (((l.getD i default)).name)) X0))]] (!(z1g (((l.getD i default)).name))) (fun h4=> ?_) (fun h4=> ?_)
  ·
   have e1:((chkA e l 0):Int)=9:=by
    rw[I2.2,chkA,if_pos (by omega),if_pos h4]
   exact .finE [.r []] [] (fun z0:Int=>(VI z0,[])) _ _ e1
  ·
   refine .bp [.r [(2,X (Xc0 (z3e (((l.getD i default)).val)) X0)),(6,Xv 1 (!(valGo (((l.getD i default)).val))) X0),(8,Xv 1 ((!(valGo (((l.getD i default)).val)))&&e) X0),(9,Xv 1 ((!(valGo (((l.getD i default)).val)))&&e) X0),(10,Xka (!(valGo (((l.getD i default)).val))) e),(11,Xv 1 (!(valGo (((l.getD i default)).val))) X0),(12,X (Xk (!(valGo (((l.getD i default)).val)))))]] (!(valGo (((l.getD i default)).val))&& !(e&&seq (((l.getD i default)).val) ({data:=#[]}))) (fun h6=> ?_) (fun h6=> ?_)
   ·
    have e2:((chkA e l 0):Int)=23:=by
     rw[I2.2,chkA,if_pos (by omega),if_neg (by rw[h4];decide),if_pos h6]
    exact .finE [.r []] [] (fun z0:Int=>(VI z0,[])) _ _ e2
   ·
    refine .bp [.r [(4,Xv 1 (decide ((i:Int)> 0)) X0),(7,Xv 1 (decide ((i:Int)> 0)) (Xn ((i:Int)- 1))),(8,Xv 2 (decide ((i:Int)> 0)) (Xi' attrT l ((i:Int)- 1) (i- 1))),(9,Xv 1 (decide ((i:Int)> 0)) X0),(10,Xv 1 (decide ((i:Int)> 0)) X0),(11,Xv 2 (decide ((i:Int)> 0)) X0),(12,X (Xk (decide ((i:Int)> 0))))]] (decide ((i:Int)> 0)&&(slt (((l.getD i default)).name) (((l.getD (i- 1) default)).name)||seq (((l.getD i default)).name) (((l.getD (i- 1) default)).name))) (fun h8=> ?_) (fun h8=> ?_)
    ·
     have e3:((chkA e l 0):Int)=5:=by
      rw[I2.2,chkA,if_pos (by omega),if_neg (by rw[h4];decide),if_neg (by clear ih2;rintro⟨a,b⟩;simp_all),if_pos ⟨by omega,h8.2⟩]
     exact .finE [.r []] [] (fun z0:Int=>(VI z0,[])) _ _ e3
    ·
     refine .back [.r [(0,X (Xn ((i:Int)+1)))]] [] (ih2 ((i+1):Nat) ?_ ?_)
     ·
      refine⟨by omega,?_⟩;rw[I2.2,chkA,if_pos (by omega),if_neg (by rw[h4];decide),if_neg (by clear ih2;rintro⟨a,b⟩;simp_all),if_neg (by clear ih2;rintro⟨a,b⟩;rcases h8 with h| ⟨h,h2⟩;omega;rcases b with b|b<;>simp_all)]
     ·
      ((try dsimp only);omega)
 ·
  have e4:((chkA e l 0):Int)=0:=by
   rw[I2.2,chkA,if_neg (by omega)]
  exact .finE [.r []] [] (fun z0:Int=>(VI z0,[])) _ _ e4
theorem z15(l:List Attr):FC Tryz.prog 61 [VL 2 attrT l] (app emp []) (VI (chkA false l 0)) (app emp []):=by
 refine .go Tryz.f61 ?_
 refine .len 0 (fun hl0=> ?_)
 exact .fin [.r [],.r [(1,X (Xc0 (y7d l false) X0))]] []
theorem z02(l:List Attr):FC Tryz.prog 40 [VL 2 attrT l] (app emp []) (VI (chkA true l 0)) (app emp []):=by
 refine .go Tryz.f40 ?_
 refine .len 0 (fun hl0=> ?_)
 exact .fin [.r [],.r [(1,X (Xc0 (y7d l true) X0))]] []
def errA(e:Bool)(l:List Attr)(i:Nat):Int:=
 if i<l.length then
  if z3X (l.getD i default).name=false then 9
  else if valRf (l.getD i default).val=false/\(e=false\/seq (l.getD i default).val {data:=#[]}=false) then 23
  else if 0<i/\slt (l.getD (i- 1) default).name (l.getD i default).name=false then 5
  else errA e l (i+1)
 else 0
termination_by l.length-i
theorem y7e(a b:ByteArray):(slt a b=true\/seq a b=true)↔slt b a=false:=by
 constructor
 ·rintro(h|h)
  ·exact y3I h
  ·rw[z0z] at h;subst h;exact z9U _
 ·intro h
  cases k:slt a b with
  |true=>exact .inl rfl
  |false=>exact .inr (z0z.2 (z9V k h))
theorem z2L(e:Bool)(l:List Attr):∀(n i:Nat),l.length-i=n->errA e l i=chkA e l i
 |0,i,h=>by rw[errA,chkA,if_neg (by omega),if_neg (by omega)]
 |n+1,i,h=>by
  have hi:i<l.length:=by omega
  rw[errA,chkA,if_pos hi,if_pos hi,z2L e l n (i+1) (by omega)]
  simp only[y3M,y5Y,y7e]
def sameA(a b:List Attr)(i:Nat):Bool:=
 if i<a.length then(if(a.getD i default).name=(b.getD i default).name/\(a.getD i default).val=(b.getD i default).val then sameA a b (i+1) else false) else true
termination_by a.length-i
def sameL(a b:List Attr):Bool:=decide (a.length=b.length)&&sameA a b 0
def getA(l:List Attr)(n:ByteArray)(i:Nat):ByteArray:=
 if i<l.length then(if(l.getD i default).name=n then(l.getD i default).val else getA l n (i+1)) else mt
termination_by l.length-i
theorem z3u{l:List Attr}{i:Nat}(h:i<l.length):l.drop i=l.getD i default::l.drop (i+1):=by
 rw[zk h];simp[List.getD,qa h]
theorem z3Y{l:List Attr}{i:Nat}(h:¬i<l.length):l.drop i=[]:=qL (by omega)
theorem fm_a{g:Attr->Attr->Option Attr}{a b:List Attr}{i j:Nat}(hi:i<a.length)(h:b.length<=j\/slt (a.getD i default).name (b.getD j default).name=true):
 fm g (a.drop i) (b.drop j)=(g (a.getD i default) ⟨mt,mt⟩).toList++fm g (a.drop (i+1)) (b.drop j):=by
 unfold fm
 rw[z3u hi]
 by_cases hj:j<b.length
 ·rw[z3u hj,bothL,if_pos (by rcases h with h|h;omega;exact h),z14];rfl
 ·rw[z3Y hj,bothL,z14];rfl
theorem fm_b{g:Attr->Attr->Option Attr}{a b:List Attr}{i j:Nat}(hj:j<b.length)(h0:i<a.length->slt (a.getD i default).name (b.getD j default).name=false)(h:a.length<=i\/slt (b.getD j default).name (a.getD i default).name=true):
 fm g (a.drop i) (b.drop j)=(g ⟨mt,mt⟩ (b.getD j default)).toList++fm g (a.drop i) (b.drop (j+1)):=by
 unfold fm
 rw[z3u hj]
 by_cases hi:i<a.length
 ·rw[z3u hi,bothL,if_neg (by rw[h0 hi];decide),if_pos (by rcases h with h|h;omega;exact h),z14];rfl
 ·rw[z3Y hi,bothL,z14];rfl
theorem fm_ab{g:Attr->Attr->Option Attr}{a b:List Attr}{i j:Nat}(hi:i<a.length)(hj:j<b.length)(h0:slt (a.getD i default).name (b.getD j default).name=false)(h:slt (b.getD j default).name (a.getD i default).name=false):
 fm g (a.drop i) (b.drop j)=(g (a.getD i default) (b.getD j default)).toList++fm g (a.drop (i+1)) (b.drop (j+1)):=by
 unfold fm
 rw[z3u hi,z3u hj,bothL,if_neg (by rw[h0];decide),if_neg (by rw[h];decide),z14]
theorem y7f{g:Attr->Attr->Option Attr}{a b:List Attr}{i j:Nat}(hi:a.length<=i)(hj:b.length<=j):fm g (a.drop i) (b.drop j)=[]:=by
 unfold fm
 rw[z3Y (by omega),z3Y (by omega),bothL];rfl
theorem z5X{o:Option Attr}:o.toList.length<=1:=by cases o<;>simp
theorem z7F(l:List Attr)(e:Bool)(hz:Szd l):FC Tryz.prog 26 [VL 2 attrT l,VB e] (app emp []) (VI (errA e l 0)) (app emp []):=by
 refine .go Tryz.f26 ?_
 refine .len 0 (fun hl0=> ?_)
 refine .loop (α:=Nat) [.r [],.r [(1,X (Xl attrT l))]] 32 (fun i=>([(0,VL 2 attrT l),(1,VB e),(7,VI (l.length:Int)),(8,VI (i:Int))],[])) (fun i=>i<=l.length/\errA e l 0=errA e l i) (fun i=>l.length-i) (0:Nat) ?_ ?_
 ·
  exact⟨by omega,rfl⟩
 rintro i I2 ih2
 try dsimp only at I2
 refine .bp [.r []] (decide ((i:Int)< (l.length:Int))) (fun h2=> ?_) (fun h2=> ?_)
 ·
  have hza:=hz.at (i:=i) (by omega)
  refine .bp [.r [],.r [(2,X (Xi attrT l (i:Int))),(5,X (Xc0 (y5Z (((l.getD i default)).name) (by(first|omega|with_reducible exact fun h=>h| (intro hq;rw[hq];done)| (intro hq;rw[hq];rfl)| (simp only[qk];done)| (simp only[qk];omega)| (simp;omega)| (simp;done)))) X0))]] (!(z3X (((l.getD i default)).name))) (fun h4=> ?_) (fun h4=> ?_)
  ·
   have e1:((errA e l 0):Int)=9:=by
    rw[I2.2,errA,if_pos (by omega),if_pos h4]
   exact .finE [.r []] [] (fun z0:Int=>(VI z0,[])) _ _ e1
  ·
   refine .bp [.r [(2,X (Xi attrT l (i:Int))),(5,X (Xc0 (y3N (((l.getD i default)).val) (by(first|omega|with_reducible exact fun h=>h| (intro hq;rw[hq];done)| (intro hq;rw[hq];rfl)| (simp only[qk];done)| (simp only[qk];omega)| (simp;omega)| (simp;done)))) X0)),(10,Xv 2 (!(valRf (((l.getD i default)).val))) (Xi attrT l (i:Int))),(11,Xv 1 (!(valRf (((l.getD i default)).val))) X0),(12,Xv 1 (!(valRf (((l.getD i default)).val))) X0),(13,Xv 1 (!(valRf (((l.getD i default)).val))) X0),(14,Xv 1 (!(valRf (((l.getD i default)).val))) X0),(16,Xv 1 ((!(valRf (((l.getD i default)).val)))&& !(!(seq (((l.getD i default)).val) ({data:=#[]})))) X0),(17,Xko (!(valRf (((l.getD i default)).val))) (!(seq (((l.getD i default)).val) ({data:=#[]})))),(18,X (Xk (!(valRf (((l.getD i default)).val)))))]] (!(valRf (((l.getD i default)).val))&&(!(seq (((l.getD i default)).val) ({data:=#[]}))|| !e)) (fun h6=> ?_) (fun h6=> ?_)
   ·
    have e2:((errA e l 0):Int)=23:=by
     rw[I2.2,errA,if_pos (by omega),if_neg (by rw[h4];decide),if_pos ⟨h6.1,h6.2.symm⟩]
    exact .finE [.r []] [] (fun z0:Int=>(VI z0,[])) _ _ e2
   ·
    refine .bp [.r [(5,Xv 1 (decide ((i:Int)> 0)) (Xn ((i:Int)- 1))),(6,Xv 2 (decide ((i:Int)> 0)) (Xi' attrT l ((i:Int)- 1) (i- 1))),(7,Xv 1 (decide ((i:Int)> 0)) X0),(8,Xv 1 (decide ((i:Int)> 0)) X0),(11,Xv 2 (decide ((i:Int)> 0)) (Xi attrT l (i:Int))),(12,Xv 1 (decide ((i:Int)> 0)) X0),(13,Xv 1 (decide ((i:Int)> 0)) X0),(14,Xv 2 (decide ((i:Int)> 0)) X0),(15,X (Xk (decide ((i:Int)> 0))))]] (decide ((i:Int)> 0)&& !(slt (((l.getD (i- 1) default)).name) (((l.getD i default)).name))) (fun h8=> ?_) (fun h8=> ?_)
    ·
     have e3:((errA e l 0):Int)=5:=by
      rw[I2.2,errA,if_pos (by omega),if_neg (by rw[h4];decide),if_neg (by clear ih2;rintro⟨a,b⟩;simp_all),if_pos ⟨by omega,h8.2⟩]
     exact .finE [.r []] [] (fun z0:Int=>(VI z0,[])) _ _ e3
    ·
     refine .back [.r [(0,X (Xn ((i:Int)+1)))]] [] (ih2 ((i+1):Nat) ?_ ?_)
     ·
      refine⟨by omega,?_⟩;rw[I2.2,errA,if_pos (by omega),if_neg (by rw[h4];decide),if_neg (by clear ih2;rintro⟨a,b⟩;simp_all),if_neg (by clear ih2;rintro⟨a,b⟩;rcases h8 with h|h;omega;rw[b] at h;cases h)]
     ·
      ((try dsimp only);omega)
 ·
  have e4:((errA e l 0):Int)=0:=by
   rw[I2.2,errA,if_neg (by omega)]
  exact .finE [.r []] [] (fun z0:Int=>(VI z0,[])) _ _ e4
theorem z40(l:List Attr)(n:ByteArray):FC Tryz.prog 65 [VL 2 attrT l,VS n] (app emp []) (VS (getA l n 0)) (app emp []):=by
 refine .go Tryz.f65 ?_
 refine .len 0 (fun hl0=> ?_)
 refine .loop (α:=Nat) [.r [],.r [(1,X (Xl attrT l))]] 32 (fun i=>([(1,VS n),(7,VL 2 attrT l),(8,VI (l.length:Int)),(9,VI (i:Int))],[])) (fun i=>i<=l.length/\getA l n 0=getA l n i) (fun i=>l.length-i) (0:Nat) ?_ ?_
 ·
  exact⟨by omega,rfl⟩
 rintro i I2 ih2
 try dsimp only at I2
 refine .bp [.r []] (decide ((i:Int)< (l.length:Int))) (fun h2=> ?_) (fun h2=> ?_)
 ·
  refine .bp [.r [(0,X (Xi attrT l (i:Int)))],.r []] (seq (((l.getD i default)).name) n) (fun h4=> ?_) (fun h4=> ?_)
  ·
   have e1:((getA l n 0):ByteArray)=((l.getD i default)).val:=by
    rw[I2.2,getA,if_pos (by omega),if_pos (z0z.1 h4)]
   exact .finE [.r []] [] (fun z0:ByteArray=>(VS z0,[])) _ _ e1
  ·
   refine .back [.r [(0,X (Xn ((i:Int)+1)))]] [] (ih2 ((i+1):Nat) ?_ ?_)
   ·
    refine⟨by omega,?_⟩;rw[I2.2,getA,if_pos (by omega),if_neg (z1b.1 h4)]
   ·
    ((try dsimp only);omega)
 ·
  have e2:((getA l n 0):ByteArray)={data:=#[]}:=by
   rw[I2.2,getA,if_neg (by omega)]
  exact .finE [.r []] [] (fun z0:ByteArray=>(VS z0,[])) _ _ e2
end Go.Ch
end
