/- An owned row that nobody writes from here on. -/
import Derived.Test.YtjeknifdbllieaaGreatDoorM5
import Derived.RangeFuncLeaves
import Derived.KernelRfl
import Derived.Test.YtjeknifdbllieaaGreatDoorProg
import Derived.Maps.RangeRun
import Derived.Shelf.Unicode.DecodeSlow
import Derived.Lib.TrimUEq
import Derived.Lib.QuoteLoop
import Derived.Lib.ValidLaws
import Derived.Lib.ValidAsc
set_option linter.unusedVariables false
set_option linter.unusedSimpArgs false
section
namespace Go.Ab
open Go
variable {P:Program} {n:Nat} {l0:List (Nat×Ob)} {s:St}
theorem Le.fz{id k:Nat}{xs:List Tree}(hid:s.st id=some (.row k false xs)):Le n l0 s ⟨s.sl,upd s.st id (.row k true xs),s.nx⟩:=by
 intro P F m0 w0 m a w h0 h1 h2
 obtain⟨r1,r2⟩:=freeze h1.srel hid
 refine⟨m,⟨fun t'=>r2.val (h1.slots t'),h1.size,h1.defers.ext r2,r1,fun i hi=> ?_⟩,h2.trans h0 r2⟩
 have hi':s.nx<=i:=hi
 have:i≠id:=fun e=>by subst e;rw[h1.fresh i hi] at hid;cases hid
 show upd s.st id (.row k true xs) i=none
 rw[z0l this]
 exact h1.fresh i hi
end Go.Ab
end
section
namespace Go.Ab
variable {P:Program} {w w':World} {F:Fen P} {st:z0m} {m:Place} {ok ok':Nat->Prop}
def z9O(ok:Nat->Prop)(w w':World):Prop:=∀b us e z,ok b->w.heap[b]? =some (.cells us e z)->w'.heap[b]? =w.heap[b]?
theorem y04{b o:Nat}{u:Value}(h:w.cell? ⟨b,o,none⟩=some u):∃us e z,w.heap[b]? =some (.cells us e z):=by
 unfold World.cell? at h
 split at h
 ·rename_i c e z hb;exact⟨c,e,z,hb⟩
 ·cases h
theorem z9O.cell(h:z9O ok w w'){b o:Nat}{u:Value}(hb:ok b)(hc:w.cell? ⟨b,o,none⟩=some u):w'.cell? ⟨b,o,none⟩=some u:=by
 obtain⟨us,e,z,hh⟩:=y04 hc
 rw[z4W (h b us e z hb hh)];exact hc
theorem TRep.still(hok:∀b,ok b->ok' b)(hs:z9O ok w w'){T:Tree}{v:Value}(h:TRep w ok T v):TRep w' ok' T v:=h.mono hok (fun b o u hb hc=>hs.cell hb hc)
theorem VRel.still(hok:∀b,ok b->ok' b)(hs:z9O ok w w'){v:AVal}{u:Value}(h:VRel st m w ok v u):VRel st m w' ok' v u:=by
 induction h with
 |t T u hT=>exact .t T u (hT.still hok hs)
 |xl k xs u hT hc=>exact .xl k xs u (hT.still hok hs) hc
 |row id n k fz xs L h1 h2 h3=>exact .row id n k fz xs L h1 h2 h3
 |ptr id off cs b h1 h2=>exact .ptr id off cs b h1 h2
 |bsl id n cs b h1 h2=>exact .bsl id n cs b h1 h2
 |bslG id n L h1=>exact .bslG id n L h1
 |eptr id n i sub k fz xs b h1 h2 h3=>exact .eptr id n i sub k fz xs b h1 h2 h3
 |mat id fz xs hh L h1 h2=>exact .mat id fz xs hh L h1 h2
 |mptr id i fz xs hh b h1 h2=>exact .mptr id i fz xs hh b h1 h2
 |cptr cs b o us h1 h2 h3 h4 h5=>exact .cptr cs b o us (hok _ h1) h2 h3 (fun j u hu=>hs.cell h1 (h4 j u hu)) (fun j T u a b=>(h5 j T u a b).still hok hs)
 |agg cs us h1 _ h3 ih=>exact .agg cs us h1 ih h3
 |fn f cap us h1 _ ih=>exact .fn f cap us h1 ih
 |tup vs us h1 _ ih=>exact .tup vs us h1 ih
 |cond c v u _ h0 ih=>exact .cond c v u ih h0
 |junk u=>exact .junk u
 |rowG id n L h1=>exact .rowG id n L h1
 |eptrG id n i sub b o h1=>exact .eptrG id n i sub b o h1
 |anyB b=>exact .anyB b
 |ifc t u=>exact .ifc t u
 |tail id n i k fz xs L h1 h2 h3 h4=>exact .tail id n i k fz xs L h1 h2 h3 h4
 |tailG id n i k L h1=>exact .tailG id n i k L h1
 |hdl id o b u h1 h2 h3=>exact .hdl id o b u h1 h2 h3
 |ptrG id off b h1=>exact .ptrG id off b h1
 |yl id Y pre h1=>exact .yl id Y pre h1
theorem z3M.still(hok:∀b,ok b->ok' b)(hs:z9O ok w w'){k:Nat}{xs:List Tree}{L:Option Nat×Nat}(hb:∀b,L.1=some b->w'.heap[b]? =w.heap[b]?)(h:z3M w ok k xs L):z3M w' ok' k xs L:=by
 obtain⟨a1,a2,a3,a4,a5⟩:=h
 refine⟨a1,a2,a3,a4,a5.imp (fun h=>h) ?_⟩
 rintro⟨b,us,e,h1,h2,h3,h4,h5⟩
 exact⟨b,us,e,h1,(hb b h1).trans h2,h3,h4,fun j T u p q=>(h5 j T u p q).still hok hs⟩
theorem z5I.still(hok:∀b,ok b->ok' b)(hs:z9O ok w w'){v:MV}{u:Value}{c:Option Nat}(hb:∀b,c=some b->w'.heap[b]? =w.heap[b]?)(h:z5I st m w ok v u c):z5I st m w' ok' v u c:=by
 cases v with
 |im T=>exact⟨h.1.still hok hs,h.2⟩
 |cp cs=>exact⟨h.1.still hok hs,h.2⟩
 |bx cs=>
  obtain⟨b,us,e,h1,h2,h3,h4,h5,h6⟩:=h
  exact⟨b,us,e,h1,h2,(hb b h1).trans h3,h4,h5,fun i T u p q=>(h6 i T u p q).still hok hs⟩
 |rw k xs=>
  obtain⟨L,h1,h2,h3⟩:=h
  exact⟨L,h1,h2,h3.still hok hs (fun b e=>hb b (h2.symm.trans e))⟩
theorem z7Z.still(hok:∀b,ok b->ok' b)(hs:z9O ok w w'){o:Ob}{L:Option Nat×Nat}{g:List Nat}(hx:∀Y pre,o= .ext Y pre->Y.holds pre g w->(∀b,Y.D b->ok b)->Y.holds pre g w')(hb:∀b,(L.1=some b\/b∈g)->w'.heap[b]? =w.heap[b]?)(h:z7Z st m w ok o L g):z7Z st m w' ok' o L g:=by
 cases o with
 |box cs=>
  obtain⟨b,us,e,h1,h2,h3,h4⟩:=h
  exact⟨b,us,e,h1,(hb b (.inl h1)).trans h2,h3,fun i v u p q=>⟨(h4 i v u p q).1.still hok hs,(h4 i v u p q).2⟩⟩
 |mat fz xs hh=>
  obtain⟨⟨b,us,e,h1,h2,h3,h4⟩,q⟩:=h
  exact⟨⟨b,us,e,h1,(hb b (.inl h1)).trans h2,h3,fun i v u p q=>⟨(h4 i v u p q).1.still hok hs,(h4 i v u p q).2⟩⟩,q⟩
 |row k fz xs=>exact z3M.still hok hs (fun b e=>hb b (.inl e)) h
 |gone=>exact h
 |siter s pos=>
  obtain⟨b,h1,h2⟩:=h
  exact⟨b,h1,(hb b (.inl h1)).trans h2⟩
 |mp es hh=>
  obtain⟨b,ents,bl,h1,h2,h3,h4,h5,h6,h7⟩:=h
  refine⟨b,ents,bl,h1,(hb b (.inl h1)).trans h2,h3,h4,h5,h6,fun i x e p q=> ?_⟩
  obtain⟨q1,q2,q3⟩:=h7 i x e p q
  have hbl:∀b',bl i=some b'->w'.heap[b']? =w.heap[b']? :=fun b' e'=>hb b' (.inr (h5 i b' (qt.1 p).1 e').1)
  refine⟨q1,q2,?_⟩
  match hh with
  |none=>exact z5I.still hok hs hbl q3
  |some (k',v')=>exact⟨fun e=>⟨(q3.1 e).1.still hok hs,(q3.1 e).2⟩,fun e=>(q3.2 e).still hok hs hbl⟩
 |miter mid n seen=>
  obtain⟨b,bm,h1,h2,h3,h4⟩:=h
  exact⟨b,bm,h1,h2,h3,(hb b (.inl h1)).trans h4⟩
 |ext Y pre=>
  exact⟨h.1,hx Y pre rfl h.2.1 h.2.2,fun b hD=>hok b (h.2.2 b hD)⟩
theorem okB.grow(hsz:w.heap.size<=w'.heap.size){b:Nat}(h:okB F st m w b):okB F st m w' b:=⟨by have:=h.1;omega,h.2⟩
theorem SRel.still(hS:SRel F st m w)(hs:z9O (okB F st m w) w w')(hx:∀id Y pre,st id=some (.ext Y pre)->Y.holds pre (m.g id) w->(∀b,Y.D b->okB F st m w b)->Y.holds pre (m.g id) w')(hsz:w.heap.size<=w'.heap.size)(hb:∀id o b,st id=some o->m.has id b->w'.heap[b]? =w.heap[b]?)(hh:∀b o,F.says b o->w'.heap[b]? =some o):SRel F st m w':=
 ⟨fun id o ho=>(hS.objs id o ho).still (fun b h=>h.grow hsz) hs (fun Y pre e=>hx id Y pre (e▸ho)) (fun b h=>hb id o b ho h),hS.inj,hS.avoid,fun id o b ho h=>zm (hS.lt id o b ho h) hsz,fun b h=>zm (hS.low b h) hsz,hh⟩
theorem z2p{D:Nat}{o:Obj}{b:Nat}(h:b≠D):(w.putObj D o).heap[b]? =w.heap[b]? :=World.putObj_heap_other h
theorem x1V(hS:SRel F st m w){D:Nat}(hD:w.heap[D]? =some (.deferred (some [])))(hn:∀id o,st id=some o->¬m.has id D):
 SRel F st m (w.putObj D (.deferred none))/\z9O (okB F st m w) w (w.putObj D (.deferred none)):=by
 have hs:z9O (okB F st m w) w (w.putObj D (.deferred none)):=fun b us e z _ hc=>z2p (fun e=>by subst e;rw[hD] at hc;cases hc)
 refine⟨hS.still hs (fun id Y pre hi hh _=>Y.stabD _ _ _ _ D hh hD (fun hg=>hn id _ hi (.inr hg)) (by simp) (fun b hb=>z2p hb)) (by simp) (fun id o b ho hb=>z2p (fun e=>hn id o ho (e▸hb))) (fun b o h=> ?_),hs⟩
 rw[z2p (fun e=> ?_)]
 ·exact hS.hold b o h
 ·subst e
  obtain⟨us,e,z,rfl⟩:=F.cel b o h
  have:=hS.hold b _ h
  rw[hD] at this;cases this
theorem z43{fn:Func}{tmps:Array Value}{R:Ending->World->Prop}{l0:List (Nat×Ob)}{m0:Place}{w0:World}(hlo:F.lo=w0.heap.size){sl:List (Nat×AVal)}:∀(l:List Nat) (w:World),l.Nodup->
 (∀D∈l,F.lo<=D/\(∀id o,st id=some o->¬m.has id D)/\w.heap[D]? =some (.deferred (some [])))->SRel F st m w->z1X st m w (okB F st m w) sl tmps->FrameExt F (app emp l0) m0 w0 st m w->
 (∀w',SRel F st m w'->z1X st m w' (okB F st m w') sl tmps->FrameExt F (app emp l0) m0 w0 st m w'->∃v,(results fn tmps).run P w'= .ok v w'/\R (.returned v) w')->LeavesInM Fence.wide 0 P fn tmps R (l.map x6r) .returning w
 | [],w,_,_,hS,hsl,hF,hR=>by
  obtain⟨v,h1,h2⟩:=hR w hS hsl hF
  exact⟨v,h1,h2⟩
 |D::l,w,hn,hl,hS,hsl,hF,hR=>by
  rw[List.nodup_cons] at hn
  obtain⟨d1,d2,d3⟩:=hl D zF
  obtain⟨k1,k2⟩:=x1V hS d3 d2
  refine⟨by simp,.inl ⟨D,_,rfl,run_takeDeferred d3,?_⟩⟩
  refine z43 hlo l _ hn.2 (fun D' hD'=> ?_) k1 (fun t=>(hsl t).still (fun b h=>h.grow (by simp)) k2) ?_ hR
  ·obtain⟨e1,e2,e3⟩:=hl D' (qU _ hD')
   exact⟨e1,e2,(z2p (fun e=>hn.1 (by rw[<-e];exact hD'))).trans e3⟩
  ·refine⟨hF.os,hF.tape,hF.output,by simpa using hF.size,fun b hb hf=> ?_,hF.keep,hF.new⟩
   rw[z2p (fun e=>by omega)]
   exact hF.block b hb hf
end Go.Ab
end
section
namespace Go.Ab
open Go
variable {P:Program} {n:Nat} {l0:List (Nat×Ob)} {s:St}
theorem y86{ty:TypeId}{u v:Value}{w:World}(h:(Instr.loadAt ty u).run P w= .ok v w):∃a,u= .pointer (some a)/\(loadVar ty a).run P w= .ok v w:=by
 unfold Instr.loadAt at h
 cases u with
 |pointer p=>
  cases p with
  |some a=>exact⟨a,rfl,by simpa[Instr.sureAddr] using h⟩
  |none=>simp[Instr.sureAddr,stuck] at h
 |_=>simp[Instr.sureAddr,stuck] at h
def z7O(P:Program)(sl:List (Nat×AVal))(st:z0m):List ResultVar->Option (List AVal)
 | []=>some []
 | .tmp t::l=>(z7O P sl st l).map (get sl t:: ·)
 | .cell t ty::l=>match y8r P ty (get sl t) st Orc.no,z7O P sl st l with
  |some ⟨v,_,[]⟩,some vs=>some (v::vs)
  |_,_=>none
def x6s(P:Program)(rs:List ResultVar)(sl:List (Nat×AVal))(st:z0m):Option AVal:=
 match z7O P sl st rs with
 |some [v]=>some v
 |some vs=>some (.tup vs)
 |none=>none
def x1W(P:Program)(n:Nat)(l0:List (Nat×Ob))(rs:List ResultVar)(res:AVal)(l1:List (Nat×Ob))(e:Exit)(s:St):Prop:=
 (e= .ret\/e= .normal)/\∃s' r0 s2,Le n l0 s s'/\x6s P rs s'.sl s'.st=some r0/\Le 1 l0 ⟨[(0,r0)],s'.st,s'.nx⟩ s2/\s2.st=app emp l1/\get s2.sl 0=res
theorem x1W.here{rs:List ResultVar}{res:AVal}{l1:List (Nat×Ob)}{e:Exit}{s':St}(he:e= .ret\/e= .normal)(h:Le n l0 s s')(hs:s'.st=app emp l1)(hr:x6s P rs s'.sl s'.st=some res):x1W P n l0 rs res l1 e s:=
 ⟨he,s',res,⟨[(0,res)],s'.st,s'.nx⟩,h,hr,Le.refl _,hs,by simp[get]⟩
theorem x1W.le{rs:List ResultVar}{res:AVal}{l1:List (Nat×Ob)}{e:Exit}{s':St}(h:Le n l0 s s')(k:x1W P n l0 rs res l1 e s'):x1W P n l0 rs res l1 e s:=by
 obtain⟨k1,s2,r0,s3,k2,k3,k4⟩:=k
 exact⟨k1,s2,r0,s3,h.trans k2,k3,k4⟩
theorem z7o{F:Fen P}{m:Place}{w:World}{a:Act}{sl:List (Nat×AVal)}{st:z0m}(hS:SRel F st m w)(hsl:∀t,VRel st m w (okB F st m w) (get sl t) (a.tmps.getD t undef))
 (g:ResultVar->Sem Value) (g1:∀t,g (.tmp t)=pure (a.tmps.getD t undef)) (g2:∀t ty b v,a.tmps.getD t undef= .pointer (some b)->(loadVar ty b).run P w= .ok v w->(g (.cell t ty)).run P w= .ok v w):
 ∀(rs:List ResultVar) (vs:List AVal),z7O P sl st rs=some vs->∃us,(rs.mapM g).run P w= .ok us w/\us.length=vs.length/\∀(i:Nat) (v:AVal) (u:Value),vs[i]? =some v->us[i]? =some u->VRel st m w (okB F st m w) v u
 | [],vs,h=>by
  simp only[z7O,qa] at h
  subst h
  exact⟨[],by simp,rfl,fun i v u hv=>by simp at hv⟩
 | .tmp t::l,vs,h=>by
  simp only[z7O,qd] at h
  obtain⟨vs',h1,rfl⟩:=h
  obtain⟨us,q1,q2,q3⟩:=z7o hS hsl g g1 g2 l vs' h1
  refine⟨a.tmps.getD t undef::us,by rw[List.mapM_cons,g1];simp only[Sem.run_bind,Sem.run_pure,Result.andThen_ok,q1],by simp[q2],fun i v u hv hu=> ?_⟩
  cases i with
  |zero=>simp only[zr,qa] at hv hu;subst hv;subst hu;exact hsl t
  |succ i=>exact q3 i v u (by simpa using hv) (by simpa using hu)
 | .cell t ty::l,vs,h=>by
  simp only[z7O] at h
  split at h
  ·rename_i v0 wr vs' hk h1
   simp only[qa] at h
   subst h
   obtain⟨us,q1,q2,q3⟩:=z7o hS hsl g g1 g2 l vs' h1
   obtain⟨v,r1,r2,_⟩:=z8J hk trivial (fun _ _ h=>h) hS (hsl t)
   obtain⟨b,hb,r3⟩:=y86 r1
   refine⟨v::us,by rw[List.mapM_cons];simp only[Sem.run_bind,Sem.run_pure,g2 t ty b v hb r3,Result.andThen_ok,q1],by simp[q2],fun i v' u hv hu=> ?_⟩
   cases i with
   |zero=>simp only[zr,qa] at hv hu;subst hv;subst hu;exact r2
   |succ i=>exact q3 i v' u (by simpa using hv) (by simpa using hu)
  ·cases h
theorem FC.of_simM{f:FuncId}{fn:Func}{c:Code}{args:List AVal}{res:AVal}{l1:List (Nat×Ob)}{nx:Nat}(hf:P.funcs[f]? =some fn)(hb:fn.body=some c)(hn:(args.length).ble fn.ntmps=true)
 (hnx:l0.all (fun x=>Nat.blt x.1 nx)=true) (h:Sim P fn.ntmps l0 c ⟨z4s 0 args,app emp l0,nx⟩ (x1W P fn.ntmps l0 fn.results.toList res l1)):FC P f args (app emp l0) res (app emp l1):=by
 intro F₀ m w us hS hl hr
 obtain⟨F,hF⟩:∃F:Fen P,F={F₀ with rnd:=none,lo:=w.heap.size}:=⟨_,rfl⟩
 have key:∀(F:Fen P),F.rnd=none->F.lo=w.heap.size->SRel F (app emp l0) m w->(∀(i:Nat) (v:AVal) (u:Value),args[i]? =some v->us[i]? =some u->VRel (app emp l0) m w (okB F (app emp l0) m w) v u)->
  Calls P f us.toArray w fun e w'=> ∃v m',e= .returned v/\SRel F (app emp l1) m' w'/\FrameExt F (app emp l0) m w (app emp l1) m' w'/\VRel (app emp l1) m' w' (okB F (app emp l1) m' w') res v:=by
  clear hF F hS hr F₀
  intro F hrnd hlo hS hr
  have hfw:fw F=Fence.wide:=by unfold fw;rw[hrnd];rfl
  have hn:=qv hn
  refine(callsIn_wide (n:=0)).1 (callsIn_of_wp_marks hf hb trivial ?_ rfl)
  have hrel:Rel F fn.ntmps ⟨z4s 0 args,app emp l0,nx⟩ m {tmps:=us.toArray++Array.replicate (fn.ntmps-us.toArray.size) undef,defers:=[]} w:=by
   refine⟨fun t=> ?_,by simp;omega,y01.nil (by omega) (fun l hl=>by rw[hrnd] at hl;cases hl),hS,fun id hid=> ?_⟩
   ·rw[z7N,if_pos (qS _),Nat.sub_zero]
    cases ha:args[t]? with
    |none=>exact .junk _
    |some v=>
     have hlt:t<us.length:=by rw[hl];exact(qt.1 ha).1
     have:=hr t v us[t] ha (qb hlt)
     have e:(us.toArray++Array.replicate (fn.ntmps-us.toArray.size) undef).getD t undef=us[t]:=by
      have hlt':t< (us.toArray++Array.replicate (fn.ntmps-us.toArray.size) undef).size:=by simp;omega
      simp[Array.getElem?_append,hlt]
     rw[e];exact this
   ·show app emp l0 id=none
    cases hh:app emp l0 id with
    |none=>rfl
    |some o=>
     obtain⟨x,hx,rfl⟩:=qI.1 (z2L hh)
     have:=q9 (qv (qN.1 hnx x hx))
     simp only at hid
     omega
  have hsim:=h F m w m _ w hS hrel (FrameExt.refl F _ m w)
  rw[hfw] at hsim
  refine wpIn_mono hsim ?_
  rintro e a' w' ⟨s,m1,q1,q2,he,s',r0,s2,hle,hres,hle2,hst,hg⟩
  obtain⟨m2,r1,r2⟩:=hle F m w m1 a' w' hS q1 q2
  suffices hlv:LeavesInM Fence.wide 0 P fn a'.tmps (fun e w'=> ∃v m',e= .returned v/\SRel F (app emp l1) m' w'/\FrameExt F (app emp l0) m w (app emp l1) m' w'/\VRel (app emp l1) m' w' (okB F (app emp l1) m' w') res v) a'.defers .returning w' by
   rcases he with rfl|rfl
   ·exact hlv
   ·exact hlv
  obtain⟨⟨ds,hd1,hd2,hd3⟩,-,-⟩:=r1.defers
  rw[hd1]
  refine z43 hlo ds w' hd2 hd3 r1.srel r1.slots r2 (fun w' g1 g2 g3=> ?_)
  have r1:Rel F fn.ntmps s' m2 {tmps:=a'.tmps,defers:=[]} w':=⟨g2,r1.size,y01.nil (by have:=g3.size;omega) (fun l hl=>by rw[hrnd] at hl;cases hl),g1,r1.fresh⟩
  have r2:=g3
  have hrun:∃v,(results fn a'.tmps).run P w'= .ok v w'/\VRel s'.st m2 w' (okB F s'.st m2 w') r0 v:=by
   unfold x6s at hres
   have key:∀vs,z7O P s'.sl s'.st fn.results.toList=some vs->∃us:List Value,(results fn a'.tmps).run P w'= .ok (if h:us.toArray.size=1 then us.toArray[0] else .tuple us.toArray) w'/\us.length=vs.length/\
    ∀(i:Nat) (v:AVal) (u:Value),vs[i]? =some v->us[i]? =some u->VRel s'.st m2 w' (okB F s'.st m2 w') v u:=by
    intro vs hvs
    have e2:fn.results=fn.results.toList.toArray:=by simp
    have hg:∀(g:ResultVar->Sem Value),(∀t,g (.tmp t)=pure (a'.tmps.getD t undef))->(∀t ty b v,a'.tmps.getD t undef= .pointer (some b)->(loadVar ty b).run P w'= .ok v w'->(g (.cell t ty)).run P w'= .ok v w')->∃us:List Value,(fn.results.toList.mapM g).run P w'= .ok us w'/\us.length=vs.length/\
     ∀(i:Nat) (v:AVal) (u:Value),vs[i]? =some v->us[i]? =some u->VRel s'.st m2 w' (okB F s'.st m2 w') v u:=fun g g1 g2=>z7o r1.srel r1.slots (a:=a') g g1 g2 fn.results.toList vs hvs
    obtain⟨us,u1,u2,u3⟩:=hg (fun| .tmp t=>pure (a'.tmps.getD t undef)| .cell t type=>do loadVar type (<-asAddr (a'.tmps.getD t undef))) (fun t=>rfl) (fun t ty b v hb hl=>by
     have hb':(a'.tmps[t]?).getD undef= .pointer (some b):=by simpa using hb
     simp[hb',asAddr,hl])
    refine⟨us,?_,u2,u3⟩
    unfold results
    rw[e2,List.mapM_toArray]
    simp only[Sem.run_bind,Sem.run_map]
    erw [u1]
    simp only[Result.andThen_ok,Sem.run_pure]
   split at hres
   ·rename_i v hv
    simp only[qa] at hres
    subst hres
    obtain⟨us,u1,u2,u3⟩:=key _ hv
    match us,u2 with
    | [u],_=>exact⟨u,by rw[u1];rfl,u3 0 v u rfl rfl⟩
   ·rename_i vs hne hvs
    simp only[qa] at hres
    subst hres
    obtain⟨us,u1,u2,u3⟩:=key _ hvs
    have h1:us.toArray.size≠1:=by
     intro e
     simp at e
     match vs,u2 with
     | [v],_=>exact hne v rfl
     | [],u2=>simp at u2;rw[u2] at e;cases e
     |_::_::_,u2=>rw[e] at u2;simp at u2
    exact⟨_,by rw[u1,dif_neg h1],.tup _ _ (by simpa using u2) u3⟩
   ·cases hres
  obtain⟨v,hv1,hv2⟩:=hrun
  have hrel2:Rel F 1 ⟨[(0,r0)],s'.st,s'.nx⟩ m2 {tmps:=#[v],defers:=[]} w':=by
   refine⟨fun t=> ?_,rfl,y01.nil (by have:=g3.size;omega) (fun l hl=>by rw[hrnd] at hl;cases hl),r1.srel,r1.fresh⟩
   simp only[get]
   by_cases e:0=t
   ·subst e;simpa using hv2
   ·rw[z1e e,cond_false];exact .junk _
  obtain⟨m3,t1,t2⟩:=hle2 F m w m2 _ w' hS hrel2 r2
  have hv3:=t1.slots 0
  rw[hg] at hv3
  have hv3:VRel s2.st m3 w' (okB F s2.st m3 w') res v:=by simpa using hv3
  rw[hst] at hv3 t2
  have hs1:=t1.srel
  rw[hst] at hs1
  exact⟨v,hv1,v,m3,rfl,hs1,t2,hv3⟩
 have hS':SRel F (app emp l0) m w:=by rw[hF];exact⟨hS.objs,hS.inj,hS.avoid,hS.lt,hS.low,hS.hold⟩
 refine(key F (by rw[hF]) (by rw[hF]) hS' (by rw[hF];exact hr)).mono ?_
 rintro e w' ⟨v,m',rfl,k1,k2,k3⟩
 rw[hF] at k1 k2 k3
 exact⟨v,m',rfl,⟨k1.objs,k1.inj,k1.avoid,k1.lt,k1.low,k1.hold⟩,⟨k2.os,k2.tape,k2.output,k2.size,k2.block,k2.keep,k2.new⟩,k3⟩
end Go.Ab
end
section
namespace Go.Ab
variable {P:Program} {w:World} {F:Fen P} {S st:z0m} {m:Place}
variable {n:Nat} {l0:List (Nat×Ob)} {s:St} {Q:Exit->St->Prop}
theorem Le.slot{t:Nat}{v v':AVal}(hg:get s.sl t=v)(hv:∀st m w ok u,VRel st m w ok v u->VRel st m w ok v' u):Le n l0 s ⟨(t,v')::s.sl,s.st,s.nx⟩:=by
 intro P F m0 w0 m a w h0 h1 h2
 refine⟨m,⟨fun t'=> ?_,h1.size,h1.defers,h1.srel,h1.fresh⟩,h2⟩
 simp only[get]
 by_cases e:t=t'
 ·subst e
  have:=h1.slots t
  rw[hg] at this
  simp only[Nat.beq_refl,cond_true]
  exact hv _ _ _ _ _ this
 ·rw[z1e e,cond_false];exact h1.slots t'
theorem y87{k:Nat}(hk:0<k):∀(st:z0m) (m:Place) (w:World) (ok:Nat->Prop) (u:Value),VRel st m w ok (.t (.sc (.slice none 0 0))) u->VRel st m w ok (.t (.lst k [])) u:=by
 intro st m w ok u h
 have:=VRel.sc_inv h
 subst this
 exact .t _ _ (.lst k [] none 0 [] hk (fun x hx=>by simp at hx) (qn _) (by simp[maxLen]) (fun h=>absurd rfl h) (by simp) (fun j T u hT=>by simp[z1y] at hT))
theorem Le.nilLst{t k:Nat}(hg:get s.sl t= .t (.sc (.slice none 0 0)))(hk:Nat.blt 0 k=true):Le n l0 s ⟨(t,.t (.lst k []))::s.sl,s.st,s.nx⟩:=
 Le.slot hg (y87 (z40 hk))
theorem Le.freeze{t:Nat}{v v':AVal}{g:List (Nat×Ob)}{p:List Prop}(hg:get s.sl t=v)(hs:z70 s.st v=some (v',g,p))(hp:All p)(hn:g.all (fun x=>Nat.blt x.1 s.nx)=true):Le n l0 s ⟨(t,v')::s.sl,app s.st g,s.nx⟩:=by
 intro P F m0 w0 m a w h0 h1 h2
 have hv:=h1.slots t
 rw[hg] at hv
 have hk:=z0H (fun _ _ h=>h) h1.srel hs hp hv
 obtain⟨r1,r2,r3,r4⟩:=z1T g s.st h1.srel hk.1
 refine⟨m,⟨fun t'=> ?_,h1.size,h1.defers.ext r2,r1,fun id hid=> ?_⟩,h2.trans h0 r2⟩
 ·simp only[get]
  by_cases e:t=t'
  ·subst e
   simp only[Nat.beq_refl,cond_true]
   exact hk.2 g hk.1 (fun x hx=>hx)
  ·rw[z1e e,cond_false]
   exact r2.val (h1.slots t')
 ·show app s.st g id=none
  have hid':s.nx<=id:=hid
  have hm:id∉g.map (·.1):=fun hm=>by
   obtain⟨x,hx,rfl⟩:=qI.1 hm
   have h1:=qN.1 hn x hx
   have:x.1<s.nx:=q9 (qv h1)
   omega
  rw[r4 id hm]
  exact h1.fresh id hid
theorem y4h{S:z0m}{m:Place}{w:World}{P:Program}{F:Fen P}(hS:SRel F S m w){v v':AVal}{f:List (Nat×Ob)}{p:List Prop}(h:z3v S v=some (v',f,p))(hp:All p){u:Value}
 (hv:VRel S m w (okB F S m w) v u):y5g F S m w v' f u:=by
 cases v with
 |tup vs=>
  simp only[z3v,qd] at h
  obtain⟨⟨vs',f',p'⟩,h1,h2⟩:=h
  simp only[qD] at h2
  obtain⟨rfl,rfl,rfl⟩:=h2
  cases hv with
  |tup _ us' hl' h1'=>
   have:=z3f (fun _ _ h=>h) hS h1 hp hl' h1'
   exact⟨this.2.1,fun g' hg hfg=> .tup vs' us' this.1.symm (fun i v u hv hu=>this.2.2 g' hg hfg i v u hv hu)⟩
 |t T=>simp only[z3v] at h;exact z0H (fun _ _ h=>h) hS h hp hv
 |row id n=>simp only[z3v] at h;exact z0H (fun _ _ h=>h) hS h hp hv
 |ptr id off=>simp only[z3v] at h;exact z0H (fun _ _ h=>h) hS h hp hv
 |eptr id n i sub=>simp only[z3v] at h;exact z0H (fun _ _ h=>h) hS h hp hv
 |mat id=>simp only[z3v] at h;exact z0H (fun _ _ h=>h) hS h hp hv
 |mptr id i=>simp only[z3v] at h;exact z0H (fun _ _ h=>h) hS h hp hv
 |cptr cs=>simp only[z3v] at h;exact z0H (fun _ _ h=>h) hS h hp hv
 |agg cs=>simp only[z3v] at h;exact z0H (fun _ _ h=>h) hS h hp hv
 |fn f cap=>simp only[z3v] at h;exact z0H (fun _ _ h=>h) hS h hp hv
 |cond c v=>simp only[z3v] at h;exact z0H (fun _ _ h=>h) hS h hp hv
 |junk=>simp only[z3v] at h;exact z0H (fun _ _ h=>h) hS h hp hv
 |anyB=>simp only[z3v] at h;exact z0H (fun _ _ h=>h) hS h hp hv
 |ifc=>simp only[z3v] at h;exact z0H (fun _ _ h=>h) hS h hp hv
 |tail id n i=>simp only[z3v] at h;exact z0H (fun _ _ h=>h) hS h hp hv
 |hdl id=>simp only[z3v] at h;exact z0H (fun _ _ h=>h) hS h hp hv
 |xl k xs=>simp only[z3v] at h;exact z0H (fun _ _ h=>h) hS h hp hv
 |yl id=>simp only[z3v] at h;exact z0H (fun _ _ h=>h) hS h hp hv
 |bsl id n=>simp only[z3v] at h;exact z0H (fun _ _ h=>h) hS h hp hv
theorem Le.freezeR{t:Nat}{v v':AVal}{g:List (Nat×Ob)}{p:List Prop}(hg:get s.sl t=v)(hs:z3v s.st v=some (v',g,p))(hp:All p)(hn:g.all (fun x=>Nat.blt x.1 s.nx)=true):Le n l0 s ⟨(t,v')::s.sl,app s.st g,s.nx⟩:=by
 intro P F m0 w0 m a w h0 h1 h2
 have hv:=h1.slots t
 rw[hg] at hv
 have hk:=y4h h1.srel hs hp hv
 obtain⟨r1,r2,r3,r4⟩:=z1T g s.st h1.srel hk.1
 refine⟨m,⟨fun t'=> ?_,h1.size,h1.defers.ext r2,r1,fun id hid=> ?_⟩,h2.trans h0 r2⟩
 ·simp only[get]
  by_cases e:t=t'
  ·subst e
   simp only[Nat.beq_refl,cond_true]
   exact hk.2 g hk.1 (fun x hx=>hx)
  ·rw[z1e e,cond_false]
   exact r2.val (h1.slots t')
 ·show app s.st g id=none
  have hid':s.nx<=id:=hid
  have hm:id∉g.map (·.1):=fun hm=>by
   obtain⟨x,hx,rfl⟩:=qI.1 hm
   have h1:=qN.1 hn x hx
   have:x.1<s.nx:=q9 (qv h1)
   omega
  rw[r4 id hm]
  exact h1.fresh id hid
theorem x4u{α:Type}{f:α->Tree}{l:List α}:AVal.t (.sc (.int .i64 (l.length:Int)))=AVal.t (.sc (.int .i64 ((l.map f).length:Int))):=by simp
theorem y05{α:Type}[Inhabited α]{f:α->Tree}{l:List α}{k:Nat}(h:k<l.length):(l.map f)[k]? =some (f (l.getD k default)):=by
 simp[qb h,List.getD]
theorem x4v{id n i j k:Nat}(h:i=j):AVal.eptr id n i k=AVal.eptr id n j k:=by rw[h]
theorem x6t{k:IntKind}{a b:Int}:AVal.t (.sc (.int k (max a b)))=AVal.t (.sc (.int k (if b>a then b else a))):=by
 congr 3;split<;>omega
theorem x6u{k:IntKind}{a b:Int}:AVal.t (.sc (.int k (min a b)))=AVal.t (.sc (.int k (if b<a then b else a))):=by
 congr 3;split<;>omega
theorem z94{α:Type}{f:α->Tree}{l l':List α}{ys:List Tree}{id k:Nat}(h:l'.map f=ys):[(id,Ob.row k false ((l++l').map f))]=[(id,Ob.row k false (l.map f++ys))]:=by
 rw[zj,h]
theorem y88{α:Type}{f:α->Tree}{l:List α}{x:α}{X:Tree}{id k i:Nat}(h:f x=X):[(id,Ob.row k false ((l.set i x).map f))]=[(id,Ob.row k false ((l.map f).set i X))]:=by
 rw[List.map_set,h]
theorem x4w{α:Type}{f:α->Tree}{l:List α}{i k:Nat}:AVal.t (.lst k ((l.drop i).map f))=AVal.t (.lst k ((l.map f).drop i)):=by rw[List.map_drop]
theorem x4x{α:Type}{f:α->Tree}{l:List α}{i k:Nat}:AVal.t (.lst k ((l.take i).map f))=AVal.t (.lst k ((l.map f).take i)):=by rw[List.map_take]
theorem x4y{α:Type}{f:α->Tree}{l:List α}{i j k:Nat}:AVal.t (.lst k (((l.take i).drop j).map f))=AVal.t (.lst k (((l.map f).take i).drop j)):=by rw[List.map_drop,List.map_take]
theorem z5o.of_eq{d v:AVal}(h:v=d):z5o d v:=by subst h;exact fun _ _ _ _ _ h=>h
theorem z02{k:Nat}(hk:0<k):(Tree.sc (.slice none 0 0)=Tree.lst k []\/(Tree.sc (.slice none 0 0)= .sc (.slice none 0 0)/\∃k',0<k'/\Tree.lst k []= .lst k' [])):= .inr ⟨rfl,k,hk,rfl⟩
end Go.Ab
end
section
namespace Go.Ab
open Go
variable {P:Program} {w:World} {F:Fen P} {S st:z0m} {m:Place}
variable {n:Nat} {l0:List (Nat×Ob)} {s:St}
theorem Elt.of_cell{x:Tree}(h:x.isCell=true):Elt 1 x:=by
 cases x with
 |agg cs=>simp[Tree.isCell] at h
 |sc v=>exact⟨rfl,fun T hT=>by simp[Tree.cells] at hT;subst hT;exact h⟩
 |lst k xs=>exact⟨rfl,fun T hT=>by simp[Tree.cells] at hT;subst hT;exact h⟩
theorem y7n{x:Tree}(h:x.isCell=true):x.cells=[x]:=by cases x<;>first|rfl|simp[Tree.isCell] at h
theorem z95:∀{xs:List Tree},(∀x∈xs,x.isCell=true)->z1y xs=xs
 | [],_=>rfl
 |x::xs,h=>by
  rw[z1y,y7n (h x (by simp)),z95 (fun y hy=>h y (by simp[hy]))];rfl
theorem y89(hS:SRel F S m w){id i r q k:Nat}{xs ys:List Tree}{fz:Bool}(hid:S id=some (.mat false xs (some (i,r,q))))(hr:S r=some (.row k fz ys))(hq:q=ys.length):
 SRel F (upd (upd S r (.row k true ys)) id (.mat false (xs.set i (.lst k ys)) none)) m w/\FrameExt F S m w (upd (upd S r (.row k true ys)) id (.mat false (xs.set i (.lst k ys)) none)) m w:=by
 have hne:id≠r:=fun e=>by subst e;rw[hid] at hr;cases hr
 obtain⟨f1,f2⟩:=freeze hS hr
 have hid1:upd S r (.row k true ys) id=some (.mat false xs (some (i,r,q))):=by rw[z0l hne];exact hid
 obtain⟨⟨b,us,e,q1,q2,q3,q4⟩,p1,p2,p3⟩:=f1.objs id _ hid1
 have hT:=z8e f1 (z0n S r (.row k true ys))
 have key:=z09 (o':= .mat false (xs.set i (.lst k ys)) none) f1 hid1 rfl q1 (w':=w) rfl rfl rfl rfl (fun _ _=>rfl) (by simp[Ob.len]) (by simp[Ob.same]) (fun hF=>by
  refine⟨⟨b,us,e,q1,q2,by rw[q3,z2F,z2F];simp,fun j v u hv hu=> ?_⟩,by simpa using p1,by simpa using p2,fun x hx=> ?_⟩
  ·rw[y5l,zq] at hv
   split at hv
   ·rename_i hij
    split at hv
    ·rename_i hlt
     simp only[qa] at hv
     subst hv;subst hij
     obtain⟨r1,r2⟩:=q4 i (.row r q) u (by simp only[z8c,zq,if_true];rw[if_pos (by simpa[z8c] using hlt)]) hu
     refine⟨?_,r2⟩
     cases r1 with
     |rowG _ _ L hs'=>rw[z0n] at hs';cases hs'
     |row _ _ k' fz' ys' L hs' hn' hu'=>
      rw[z0n] at hs'
      cases hs'
      have hL:=hu' hq
      rw[hL,<-hq] at hT
      exact hF.val (.t _ _ hT)
    ·cases hv
   ·rename_i hij
    obtain⟨r1,r2⟩:=q4 j v u (by simp only[z8c,zq];rw[if_neg hij];exact hv) hu
    exact⟨hF.val r1,r2⟩
  ·rcases zh hx with hx|rfl
   ·exact p3 x hx
   ·rfl)
 exact⟨key.1,f2.trans hS key.2⟩
theorem Le.matClose{id i r q k:Nat}{xs ys:List Tree}{fz:Bool}(hid:s.st id=some (.mat false xs (some (i,r,q))))(hr:s.st r=some (.row k fz ys))(hq:q=ys.length){xs':List Tree}(hx:xs.set i (.lst k ys)=xs'):
 Le n l0 s ⟨s.sl,upd (upd s.st r (.row k true ys)) id (.mat false xs' none),s.nx⟩:=by
 subst hx
 intro P F m0 w0 m a w h0 h1 h2
 obtain⟨r1,r2⟩:=y89 h1.srel hid hr hq
 refine⟨m,⟨fun t'=>r2.val (h1.slots t'),h1.size,h1.defers.ext r2,r1,fun j hj=> ?_⟩,h2.trans h0 r2⟩
 have hj':s.nx<=j:=hj
 have e1:j≠id:=fun e=>by subst e;rw[h1.fresh j hj] at hid;cases hid
 have e2:j≠r:=fun e=>by subst e;rw[h1.fresh j hj] at hr;cases hr
 show upd (upd s.st r (.row k true ys)) id _ j=none
 rw[z0l e1,z0l e2]
 exact h1.fresh j hj
theorem y7o(hS:SRel F S m w){id:Nat}{xs:List Tree}(hid:S id=some (.mat false xs none)):
 SRel F (upd S id (.mat true xs none)) m w/\FrameExt F S m w (upd S id (.mat true xs none)) m w/\TRep w (okB F (upd S id (.mat true xs none)) m w) (.lst 1 xs) (z0J (m id) xs.length):=by
 obtain⟨⟨b,us,e,q1,q2,q3,q4⟩,p1,p2,p3⟩:=hS.objs id _ hid
 obtain⟨k1,k2⟩:=z09 (o':= .mat true xs none) hS hid rfl q1 (w':=w) rfl rfl rfl rfl (fun _ _=>rfl) (by simp[Ob.len]) (by simp[Ob.same]) (fun hF=>by
  refine⟨⟨b,us,e,q1,q2,q3,fun j v u hv hu=> ?_⟩,p1,p2,p3⟩
  obtain⟨r1,r2⟩:=q4 j v u hv hu
  exact⟨hF.val r1,r2⟩)
 refine⟨k1,k2,?_⟩
 have hid':upd S id (.mat true xs none) id=some (.mat true xs none):=z0n _ _ _
 obtain⟨⟨b',us',e',q1',q2',q3',q4'⟩,_⟩:=k1.objs id _ hid'
 rw[q1] at q1';cases q1'
 rw[z2F] at q3'
 have hrv:z0J (m id) xs.length= .slice (some ⟨b,0,none⟩) xs.length (m id).2:=by simp[z0J,q1]
 rw[hrv]
 refine .lst 1 xs _ _ us'.toList (by decide) (fun x hx=>Elt.of_cell (p3 x hx)) (by omega) (by omega) (fun _=>⟨b,0,rfl,⟨?_,?_,?_⟩,?_⟩) (by simp;omega) (fun j T u hj hu=> ?_)
 ·exact(qT.1 q2').1
 ·exact fun hb=>k1.avoid id _ b hid' (.inl q1) (F.sup b hb)
 ·intro i o hi hl hb
  have:=k1.inj id i _ _ b hid' hi (.inl q1) hb
  subst this
  rw[hid'] at hi;cases hi
  simp[Ob.live] at hl
 ·intro j u hu
  simp only[World.cell?,q2'];simpa using hu
 ·rw[z95 p3] at hj
  have hv:(z8c xs none)[j]? =some (.t T):=by simp[z8c,hj]
  obtain⟨r1,_⟩:=q4' j _ u hv (by simpa using hu)
  cases r1 with
  |t _ _ hT=>exact hT
theorem Le.matFreeze{t id:Nat}{xs:List Tree}(hg:get s.sl t= .mat id)(hid:s.st id=some (.mat false xs none)):Le n l0 s ⟨(t,.t (.lst 1 xs))::s.sl,upd s.st id (.mat true xs none),s.nx⟩:=by
 intro P F m0 w0 m a w h0 h1 h2
 obtain⟨r1,r2,r3⟩:=y7o h1.srel hid
 refine⟨m,⟨fun t'=> ?_,h1.size,h1.defers.ext r2,r1,fun j hj=> ?_⟩,h2.trans h0 r2⟩
 ·simp only[get]
  by_cases e:t=t'
  ·subst e
   simp only[Nat.beq_refl,cond_true]
   have hv:=h1.slots t
   rw[hg] at hv
   generalize a.tmps.getD t undef=u at hv|-
   cases hv with
   |mat _ fz xs' hh L hs' hm=>
    rw[hid] at hs';cases hs'
    subst hm
    exact .t _ _ r3
  ·rw[z1e e,cond_false];exact r2.val (h1.slots t')
 ·show upd s.st id _ j=none
  rw[z0l (fun e=>by subst e;rw[h1.fresh j hj] at hid;cases hid)]
  exact h1.fresh j hj
end Go.Ab
end
section
namespace Go.Ab
open Go
variable {P:Program} {w:World} {F:Fen P} {S st:z0m} {m:Place}
variable {n:Nat} {l0:List (Nat×Ob)} {s:St} {Q:Exit->St->Prop}
structure Ox where
 o:Orc
 cs:List Prop
 h:All cs
inductive LeI where
 |nR (t k:Nat)
 |nL (t k:Nat)
 |nB (b i k:Nat)
 |fz (id:Nat)
 |fr (t:Nat) (p:List Prop) (h:All p)
 |eq (t:Nat) (d v:AVal) (h:z5o d v)
 |er (id:Nat) (xs ys:List Tree) (h:xs=ys)
 |kp (ts:List Nat)
 |eb (b i:Nat) (v v':AVal) (h:v=v')
 |mc (id:Nat) (xs':List Tree) (p:List Prop) (h:All p)
 |mf (t:Nat)
 |fR (t:Nat) (p:List Prop) (h:All p)
 |mv (t i j:Nat) (h:i=j)
 |mput (id:Nat) (es':List (Int×MV)) (p:List Prop) (h:All p)
 |mfz (id:Nat) (es':List (Int×MV)) (p:List Prop) (h:All p)
 |me (id:Nat) (es es':List (Int×MV)) (h:es=es')
 |cb (b i:Nat) (ag:Bool) (k:Nat) (p:List Prop) (h:All p)
inductive It where
 |r (xs:List (Nat×Ox))
 |t
 |f
 |u
 |le (x:LeI)
inductive Fr where
 |seq (c:Code)
 |blk (i:Nat)
 |loop (c:Code)
inductive Ctl where
 |run (c:Code)
 |out (e:Exit)
instance:Inhabited Ctl:=⟨.run .skip⟩
structure Cfg where
 ctl:Ctl
 K:List Fr
 s:St
instance:Inhabited Cfg:=⟨⟨default,[],⟨[],emp,0⟩⟩⟩
inductive At where
 |br (b:Bool) (x y:Code) (K:List Fr) (s:St)
 |any (x y:Code) (K:List Fr) (s:St)
 |loop (c:Code) (K:List Fr) (s:St)
 |back (c:Code) (K:List Fr) (s:St)
 |fin (e:Exit) (s:St)
 |mid (c:Code) (K:List Fr) (s:St)
def leR(s:St):LeI->Option (St×List Prop)
 | .nR t k=>match get s.sl t with
  | .t (.sc (.slice none 0 0))=>bif Nat.blt 0 k then some (⟨(t,.row s.nx 0)::s.sl,upd s.st s.nx (.row k false []),s.nx+1⟩,[]) else none
  |_=>none
 | .nL t k=>match get s.sl t with
  | .t (.sc (.slice none 0 0))=>bif Nat.blt 0 k then some (⟨(t,.t (.lst k []))::s.sl,s.st,s.nx⟩,[]) else none
  |_=>none
 | .nB b i k=>match s.st b with
  |some (.box cs)=>match cs[i]? with
   |some (.t (.sc (.slice none 0 0)))=>bif Nat.blt 0 k then some (⟨s.sl,upd (upd s.st s.nx (.row k false [])) b (.box (cs.set i (.row s.nx 0))),s.nx+1⟩,[]) else none
   |_=>none
  |_=>none
 | .fz id=>match s.st id with
  |some (.row k false xs)=>some (⟨s.sl,upd s.st id (.row k true xs),s.nx⟩,[])
  |_=>none
 | .fr t _ _=>match z70 s.st (get s.sl t) with
  |some (v',g,p)=>bif g.all (fun x=>Nat.blt x.1 s.nx) then some (⟨(t,v')::s.sl,app s.st g,s.nx⟩,p) else none
  |none=>none
 | .eq t _ v _=>some (⟨(t,v)::s.sl,s.st,s.nx⟩,[z5o (get s.sl t) v])
 | .er id _ ys _=>match s.st id with
  |some (.row k fz xs)=>some (⟨s.sl,upd s.st id (.row k fz ys),s.nx⟩,[xs=ys])
  |_=>none
 | .kp ts=>some (⟨z71 s.sl ts,s.st,s.nx⟩,[])
 | .mc id xs' _ _=>match s.st id with
  |some (.mat false xs (some (i,r,q)))=>match s.st r with
   |some (.row k _ ys)=>some (⟨s.sl,upd (upd s.st r (.row k true ys)) id (.mat false xs' none),s.nx⟩,[q=ys.length,xs.set i (.lst k ys)=xs'])
   |_=>none
  |_=>none
 | .mf t=>match get s.sl t with
  | .mat id=>match s.st id with
   |some (.mat false xs none)=>some (⟨(t,.t (.lst 1 xs))::s.sl,upd s.st id (.mat true xs none),s.nx⟩,[])
   |_=>none
  |_=>none
 | .fR t _ _=>match z3v s.st (get s.sl t) with
  |some (v',g,p)=>bif g.all (fun x=>Nat.blt x.1 s.nx) then some (⟨(t,v')::s.sl,app s.st g,s.nx⟩,p) else none
  |none=>none
 | .mv t _ _ _=>match get s.sl t with
  | .row id q=>match s.st id with
   |some (.row k false xs)=>some (⟨(t,.row s.nx q)::s.sl,upd (upd s.st id .gone) s.nx (.row k false xs),s.nx+1⟩,[q=xs.length])
   |_=>none
  |_=>none
 | .mput id es' _ _=>match s.st id with
  |some (.mp es (some (n,.ptr r 0)))=>match s.st r with
   |some (.box cs)=>bif Nat.beq r id|| !(cs.all z08) then none else(y17 cs).bind fun Ts=>some (⟨s.sl,upd (upd s.st r .gone) id (.mp es' none),s.nx⟩,[(z3d es n).isSome=true,z5Z es n (.bx Ts)=es'])
   |_=>none
  |some (.mp es (some (n,.row r q)))=>match s.st r with
   |some (.row k false xs)=>bif Nat.beq r id then none else some (⟨s.sl,upd (upd s.st r .gone) id (.mp es' none),s.nx⟩,[q=xs.length,(z3d es n).isSome=true,z5Z es n (.rw k xs)=es'])
   |_=>none
  |_=>none
 | .mfz id es' _ _=>match s.st id with
  |some (.mp es none)=>some (⟨s.sl,upd s.st id (.mp es' none),s.nx⟩,[(es.map fun x=>(x.1,frz x.2))=es'])
  |_=>none
 | .me id _ es' _=>match s.st id with
  |some (.mp es h)=>some (⟨s.sl,upd s.st id (.mp es' h),s.nx⟩,[es=es'])
  |_=>none
 | .eb b i _ v' _=>match s.st b with
  |some (.box cs)=>match cs[i]? with
   |some v0=>some (⟨s.sl,upd s.st b (.box (cs.set i v')),s.nx⟩,[v0=v'])
   |none=>none
  |_=>none
 | .cb b0 i ag k _ _=>match s.st b0 with
  |some (.box cs0)=>match cs0[i]? with
   |some (.bsl id q)=>match s.st id with
    |some (.box cs)=>match y3W s.st cs with
     |some (cs',g,p)=>bif !(Nat.beq b0 id)&&(g.all (fun x=>Nat.blt x.1 s.nx&&(!(Nat.beq x.1 id)&& !(Nat.beq x.1 b0)))&&(Nat.blt 0 k&&(Nat.ble (q*k) 16777216&&Nat.beq cs.length (q*k)))) then
      (y17 cs').bind fun ts=>(y19 ag k q ts).bind fun xs=>some (⟨s.sl,upd (upd (upd (app s.st g) id .gone) s.nx (.row k false xs)) b0 (.box (cs0.set i (.row s.nx q))),s.nx+1⟩,p) else none
     |none=>none
    |_=>none
   |_=>none
  |_=>none
def leC:LeI->List Prop
 | .cb _ _ _ _ p _=>p
 | .fr _ p _=>p
 | .eq _ d v _=>[z5o d v]
 | .er _ xs ys _=>[xs=ys]
 | .eb _ _ v v' _=>[v=v']
 | .mc _ _ p _=>p
 | .fR _ p _=>p
 | .mv _ i j _=>[i=j]
 | .mput _ _ p _=>p
 | .mfz _ _ p _=>p
 | .me _ es es' _=>[es=es']
 |_=>[]
def x7V(P:Program)(n:Nat)(ops:List Oper)(draw:Bool)(orcs:List (Nat×Orc))(s:St):Option (St×List Prop):=
 match z3e P ops orcs s.nx 0 ops s with
 |some (s',rs)=>bif (ops.all (y2d n))&&(!draw||z9T ops s.nx rs) then some (⟨s'.sl,s'.st,s.nx+8*ops.length⟩,x1v rs) else none
 |none=>none
def oxO:List (Nat×Ox)->List (Nat×Orc)
 | []=>[]
 | (i,x)::l=>(i,x.o)::oxO l
def apC:List Prop->List Prop->List Prop
 | [],t=>t
 |p::l,t=>p::apC l t
def oxC:List (Nat×Ox)->List Prop->List Prop
 | [],t=>t
 | (_,x)::l,t=>apC x.cs (oxC l t)
def csL:List It->List Prop
 | []=>[]
 | .r xs::l=>oxC xs (csL l)
 | .le x::l=>apC (leC x) (csL l)
 |_::l=>csL l
inductive OutR where
 |fin
 |back (c:Code) (K:List Fr)
 |go (ctl:Ctl) (K:List Fr)
def z96(e:Exit):List Fr->OutR
 | []=> .fin
 | .seq c::K=>match e with
  | .normal=> .go (.run c) K
  |e=> .go (.out e) K
 | .blk i::K=>match e with
  | .exit j=>bif Nat.beq j i then .go (.out .normal) K else .go (.out (.exit j)) K
  |e=> .go (.out e) K
 | .loop c::K=>match e with
  | .normal=> .back c K
  |e=> .go (.out e) K
def go(P:Program)(n:Nat):Nat->List It->Ctl->List Fr->St->List Prop->Option (At×List Prop)
 |0,_,_,_,_,_=>none
 |fuel+1,.le x::sc,ctl,K,s,acc=>match leR s x with
  |some (s',C)=>go P n fuel sc ctl K s' (acc++C)
  |none=>none
 |fuel+1,sc,.run c,K,s,acc=>match c with
  | .seq x y=>go P n fuel sc (.run x) (.seq y::K) s acc
  | .skip=>go P n fuel sc (.out .normal) K s acc
  | .ret=>go P n fuel sc (.out .ret) K s acc
  | .exit i=>go P n fuel sc (.out (.exit i)) K s acc
  | .block i c=>go P n fuel sc (.run c) (.blk i::K) s acc
  | .loop c=>match sc with
   | []=>some (.loop c K s,acc)
   | .u::sc=>go P n fuel sc (.run c) (.loop c::K) s acc
   |_=>none
  | .cond c x y=>match ev s.sl c with
   | .t (.sc (.bool b))=>match sc with
    | []=>some (.br b x y K s,acc)
    | .t::sc=>bif b then go P n fuel sc (.run x) K s acc else none
    | .f::sc=>bif b then none else go P n fuel sc (.run y) K s acc
    |_=>none
   | .anyB=>match sc with
    | []=>some (.any x y K s,acc)
    |_=>none
   |_=>none
  | .region id ops draw=>match sc with
   | []=>some (.mid (.region id ops draw) K s,acc)
   | .r xs::sc=>match x7V P n ops.toList draw (oxO xs) s with
    |some (s',C)=>go P n fuel sc (.out .normal) K s' (acc++C)
    |none=>none
   |_=>none
  | .rangeFunc g ps a b=>match sc with
   | []=>some (.mid (.rangeFunc g ps a b) K s,acc)
   |_=>none
  |_=>none
 |fuel+1,sc,.out e,K,s,acc=>match z96 e K with
  | .fin=>match sc with
   | []=>some (.fin e s,acc)
   |_=>none
  | .back c K=>match sc with
   | []=>some (.back c K s,acc)
   | .u::sc=>go P n fuel sc (.run c) (.loop c::K) s acc
   |_=>none
  | .go ctl K=>go P n fuel sc ctl K s acc
def z3w(P:Program)(n:Nat)(l0:List (Nat×Ob)):List Fr->(Exit->St->Prop)->Exit->St->Prop
 | [],Q=>Q
 | .seq c::K,Q=>andThen (fun s=>Sim P n l0 c s (z3w P n l0 K Q)) (z3w P n l0 K Q)
 | .blk i::K,Q=>y7m i (z3w P n l0 K Q)
 | .loop c::K,Q=>andThen (fun s=>z1k P n l0 c s (z3w P n l0 K Q)) (z3w P n l0 K Q)
def z4t(n:Nat)(l0:List (Nat×Ob))(Q:Exit->St->Prop):Prop:=∀e s s',Le n l0 s s'->Q e s'->Q e s
def x6c(P:Program)(n:Nat)(l0:List (Nat×Ob))(Q:Exit->St->Prop):Ctl->List Fr->St->Prop
 | .run c,K,s=>Sim P n l0 c s (z3w P n l0 K Q)
 | .out e,K,s=>z3w P n l0 K Q e s
def AtG(P:Program)(n:Nat)(l0:List (Nat×Ob))(Q:Exit->St->Prop):At->Prop
 | .any x y K s=>Sim P n l0 x s (z3w P n l0 K Q)/\Sim P n l0 y s (z3w P n l0 K Q)
 | .br b x y K s=>(b=true->Sim P n l0 x s (z3w P n l0 K Q))/\(b=false->Sim P n l0 y s (z3w P n l0 K Q))
 | .loop c K s=>z1k P n l0 c s (z3w P n l0 K Q)
 | .back c K s=>z1k P n l0 c s (z3w P n l0 K Q)
 | .fin e s=>Q e s
 | .mid c K s=>Sim P n l0 c s (z3w P n l0 K Q)
theorem z5u(hQ:z4t n l0 Q):∀(K:List Fr),z4t n l0 (z3w P n l0 K Q)
 | []=>hQ
 | .seq c::K=>fun e s s' h k=>by
  cases e with
  |normal=>exact Sim.weaken h k
  |_=>exact z5u hQ K _ s s' h k
 | .blk i::K=>fun e s s' h k=>by
  cases e with
  |exit j=>
   simp only[z3w,y7m] at k|-
   split
   ·rename_i hj;rw[if_pos hj] at k;exact z5u hQ K _ s s' h k
   ·rename_i hj;rw[if_neg hj] at k;exact z5u hQ K _ s s' h k
  |_=>exact z5u hQ K _ s s' h k
 | .loop c::K=>fun e s s' h k=>by
  cases e with
  |normal=>exact z1k.weaken h k
  |_=>exact z5u hQ K _ s s' h k
theorem y9a(hQ:z4t n l0 Q){ctl:Ctl}{K:List Fr}{s s':St}(h:Le n l0 s s')(k:x6c P n l0 Q ctl K s'):x6c P n l0 Q ctl K s:=by
 cases ctl with
 |run c=>exact Sim.weaken h k
 |out e=>exact z5u hQ K e s s' h k
theorem Le.row{id k:Nat}{fz:Bool}{xs ys:List Tree}(hid:s.st id=some (.row k fz xs))(h:xs=ys):Le n l0 s ⟨s.sl,upd s.st id (.row k fz ys),s.nx⟩:=by
 have e:upd s.st id (.row k fz ys)=s.st:=by
  funext j
  unfold upd
  by_cases hj:j=id
  ·subst hj;simp[hid,h]
  ·rw[z1e hj];rfl
 rw[e]
 exact fun P F m0 w0 m a w h0 h1 h2=>⟨m,h1,h2⟩
theorem Le.boxE{b i:Nat}{cs:List AVal}{v0 v:AVal}(hb:s.st b=some (.box cs))(hi:cs[i]? =some v0)(h:v0=v):Le n l0 s ⟨s.sl,upd s.st b (.box (cs.set i v)),s.nx⟩:=by
 subst h
 have e0:cs.set i v0=cs:=by
  apply List.ext_getElem?
  intro j
  rw[zq]
  split
  ·rename_i hj;subst hj
   have:=(qt.1 hi).1
   rw[if_pos this,hi]
  ·rfl
 have e:upd s.st b (.box (cs.set i v0))=s.st:=by
  funext j
  unfold upd
  by_cases hj:j=b
  ·subst hj;simp[hb,e0]
  ·rw[z1e hj];rfl
 rw[e]
 exact fun P F m0 w0 m a w h0 h1 h2=>⟨m,h1,h2⟩
theorem Le.keep(ts:List Nat):Le n l0 s ⟨z71 s.sl ts,s.st,s.nx⟩:=by
 intro P F m0 w0 m a w h0 h1 h2
 exact⟨m,⟨h1.slots.keep ts,h1.size,h1.defers,h1.srel,h1.fresh⟩,h2⟩
theorem Le.mvRow{t id q k:Nat}{xs:List Tree}(hg:get s.sl t= .row id q)(hs:s.st id=some (.row k false xs))(hq:q=xs.length):
 Le n l0 s ⟨(t,.row s.nx q)::s.sl,upd (upd s.st id .gone) s.nx (.row k false xs),s.nx+1⟩:=by
 intro P F m0 w0 m a w h0 h1 h2
 have hn:s.st s.nx=none:=h1.fresh s.nx (qn _)
 obtain⟨k1,k2⟩:=z9Y h1.srel hs hn (qn xs.length)
 rw[List.take_length] at k1 k2
 refine⟨_,⟨fun t'=> ?_,h1.size,h1.defers.ext k2,k1,fun id' hid'=> ?_⟩,h2.trans h0 k2⟩
 ·simp only[get]
  by_cases e:t=t'
  ·subst e
   have hv:=h1.slots t
   rw[hg] at hv
   simp only[Nat.beq_refl,cond_true]
   generalize a.tmps.getD t undef=u at hv
   cases hv with
   |row _ _ k' fz' xs' L hs' hn' hu'=>
    rw[hs] at hs';cases hs'
    have:=hu' hq
    exact .row s.nx q k false xs L (z0n _ _ _) (by omega) (fun _=>by rw[z0E];exact this)
   |rowG _ _ L hs'=>rw[hs] at hs';cases hs'
  ·rw[z1e e,cond_false]
   exact k2.val (h1.slots t')
 ·show upd (upd s.st id .gone) s.nx _ id'=none
  simp only at hid'
  have hne:id'≠id:=fun e=>by subst e;rw[h1.fresh id' (by omega)] at hs;cases hs
  rw[z0l (by omega),z0l hne]
  exact h1.fresh id' (by omega)
theorem Le.closeB{b0 i id q k:Nat}{ag:Bool}{cs0 cs cs':List AVal}{g:List (Nat×Ob)}{p:List Prop}{ts xs:List Tree}(hb0:s.st b0=some (.box cs0))(hg:cs0[i]? =some (.bsl id q))(hs:s.st id=some (.box cs))(e1:y3W s.st cs=some (cs',g,p))(hp:All p)
 (hne0:b0≠id) (hk:g.all (fun x=>Nat.blt x.1 s.nx&&(!(Nat.beq x.1 id)&& !(Nat.beq x.1 b0)))=true) (hk0:0<k) (hbig:q*k<=16777216) (hcl:cs.length=q*k) (e2:y17 cs'=some ts) (e3:y19 ag k q ts=some xs):
 Le n l0 s ⟨s.sl,upd (upd (upd (app s.st g) id .gone) s.nx (.row k false xs)) b0 (.box (cs0.set i (.row s.nx q))),s.nx+1⟩:=by
 intro P F m0 w0 m a w h0 h1 h2
 obtain⟨bb,us0,e0,p1,p2,p3,p4⟩:=h1.srel.objs b0 _ hb0
 have hil:i<us0.size:=by rw[p3];exact(qt.1 hg).1
 have hu0:us0[i]? =some us0[i]:=zt hil
 have hv:=(p4 i _ _ hg hu0).1
 generalize hw0:us0[i]=u0 at hv
 rw[hw0] at hu0
 cases hv with
 |bslG _ _ L hs'=>rw[hs] at hs';cases hs'
 |bsl _ _ cs1 b hs' hm=>
 rw[hs] at hs';cases hs'
 obtain⟨b',us,e,q1,q2,q3,q4⟩:=h1.srel.objs id _ hs
 rw[hm] at q1;cases q1
 have hsn:=z51 (fun _ _ h=>h) h1.srel e1 hp (us:=us.toList) (by simp[q3]) (fun i v u hv hu=>(q4 i v u hv (by simpa using hu)).1)
 obtain⟨r1,r2,r3,r4⟩:=z1T g s.st h1.srel hsn.2.1
 have hno:∀j,j∈g.map (·.1)->j<s.nx/\j≠id/\j≠b0:=fun j hj=>by
  obtain⟨x,hx,rfl⟩:=qI.1 hj
  have:=qN.1 hk x hx
  simp only[qm,ze] at this
  exact⟨q9 (qv this.1),fun e=>by rw[e] at this;simp at this,fun e=>by rw[e] at this;simp at this⟩
 have hidg:app s.st g id=some (.box cs):=by rw[r4 id (fun h=>(hno id h).2.1 rfl)];exact hs
 have hn:app s.st g s.nx=none:=by rw[r4 s.nx (fun h=>absurd (hno _ h).1 (Nat.lt_irrefl _))];exact h1.fresh s.nx (qn _)
 have hbn:b0≠s.nx:=fun e=>by rw[e,h1.fresh s.nx (qn _)] at hb0;cases hb0
 have hts:=z2I e2
 have hrep:∀(j:Nat) (T:Tree) (u:Value),ts[j]? =some T->us[j]? =some u->TRep w (okB F (app s.st g) m w) T u:=fun j T u hT hu=>by
  have:=hsn.2.2 g hsn.2.1 (fun x hx=>hx) j (.t T) u (by rw[hts,qY,hT];rfl) (by simpa using hu)
  cases this with
  |t _ _ h=>exact h
 have hone:∀(j:Nat) (u:Value),us[j]? =some u->u.oneCell'=true:=fun j u hu=>by
  have hj:j<cs.length:=by rw[<-q3];exact(qT.1 hu).1
  exact(q4 j _ u (qb hj) hu).2
 have htl:ts.length=us.size:=by have:=hsn.1;rw[hts] at this;simpa using this
 have hcellT:∀T∈ts,T.isCell=true:=fun T hT=>by
  obtain⟨j,hj,rfl⟩:=zd.1 hT
  have hj':j<us.size:=by rw[<-htl];exact hj
  have a1:=hrep j _ us[j] (qb hj) (zt hj')
  have a2:=hone j us[j] (zt hj')
  generalize ts[j]=T at a1
  generalize us[j]=u at a1 a2
  cases a1 with
  |agg=>simp[Value.oneCell'] at a2
  |sc=>rfl
  |lst=>rfl
 obtain⟨g1,g2,g3⟩:=z7l e3 hcellT
 obtain⟨k1,k2⟩:=y8O (o':= .row k false xs) r1 hidg hn rfl trivial (by simp[Ob.len]) (fun hF=>by
  refine⟨hk0,g3,by rw[g2,hm];exact qn _,?_,.inr ⟨b,us,e,by rw[hm],q2,by rw[q3,hcl,hm],hone,fun j T u hj hu=>hF.tree (hrep j T u (by rw[<-g1];exact hj) hu)⟩⟩
  have:=Nat.le_mul_of_pos_right q hk0
  rw[hm];simp only[maxLen];omega)
 have hb':upd (upd (app s.st g) id .gone) s.nx (.row k false xs) b0=some (.box cs0):=by rw[z0l hbn,z0l hne0,r4 b0 (fun h=>(hno _ h).2.2 rfl)];exact hb0
 obtain⟨bb',us',e',s1,s2,s3,s4⟩:=k1.objs b0 _ hb'
 have s1':=s1
 rw[z01 hbn,z01 hne0,p1] at s1'
 cases s1'
 have hss:=p2.symm.trans s2
 simp only[qa,Go.Obj.cells.injEq] at hss
 have key:=z09 (o':= .box (cs0.set i (.row s.nx q))) k1 hb' rfl s1 (w':=w) rfl rfl rfl rfl (fun _ _=>rfl) (by simp[Ob.len]) (by simp[Ob.same]) (fun hF=>by
  refine⟨bb,us',e',s1,s2,by simp[s3],fun j v u hv hu=> ?_⟩
  rw[zq] at hv
  split at hv
  ·rename_i hij
   subst hij
   split at hv
   ·simp only[qa] at hv
    subst hv
    rw[<-hss.1,hu0] at hu
    cases hu
    exact⟨.row s.nx q k false xs (some b,q) (by rw[z0l (Ne.symm hbn)];exact z0n _ _ _) (by omega) (fun _=>by rw[z0E];exact hm),rfl⟩
   ·cases hv
  ·obtain⟨t1,t2⟩:=s4 j v u hv hu
   exact⟨hF.val t1,t2⟩)
 have k3:=(r2.trans h1.srel k2).trans h1.srel key.2
 refine⟨_,⟨fun t'=>k3.val (h1.slots t'),h1.size,h1.defers.ext k3,key.1,fun id' hid'=> ?_⟩,h2.trans h0 k3⟩
 show upd (upd (upd (app s.st g) id .gone) s.nx _) b0 _ id'=none
 simp only at hid'
 have hne:∀x ob,s.st x=some ob->id'≠x:=fun x ob hx e=>by subst e;rw[h1.fresh id' (by omega)] at hx;cases hx
 rw[z0l (hne _ _ hb0),z0l (by omega),z0l (hne _ _ hs),r4 id' (fun h=>by have:=(hno _ h).1;omega)]
 exact h1.fresh id' (by omega)
theorem y2D{S:z0m}{nx id i:Nat}{o o':Ob}(h:∀id,nx<=id->S id=none)(hi:S i=some o')(hid:nx<=id):upd S i o id=none:=by
 have:id≠i:=fun e=>by subst e;rw[h id hid] at hi;cases hi
 rw[z0l this];exact h id hid
theorem Le.ghost'{S':z0m}(h:∀{P:Program} (F:Fen P) (m:Place) (w:World),SRel F s.st m w->(∀id,s.nx<=id->s.st id=none)->(∀id,s.nx<=id->S' id=none)/\∃m',SRel F S' m' w/\FrameExt F s.st m w S' m' w):Le n l0 s ⟨s.sl,S',s.nx⟩:=by
 intro P F m0 w0 m a w h0 h1 h2
 obtain⟨hn,m',k1,k2⟩:=h F m w h1.srel h1.fresh
 exact⟨m',⟨fun t=>k2.val (h1.slots t),h1.size,h1.defers.ext k2,k1,hn⟩,h2.trans h0 k2⟩
theorem Le.mput{id r:Nat}{es es':List (Int×MV)}{k:Int}{v:AVal}{o:Ob}{mv:MV}(hid:s.st id=some (.mp es (some (k,v))))(hr:s.st r=some o)(hlive:o.live=true)(hsame:o.same .gone)
 (hlen:∀{P:Program} (F:Fen P) (m:Place) (w:World),SRel F s.st m w->o.len<18446744073709551616) (hri:r≠id) (hl:(z3d es k).isSome=true) (he:z5Z es k mv=es')
 (hv:∀{P:Program} (F:Fen P) (m:Place) (w:World),SRel F s.st m w->∀u,VRel s.st m w (okB F s.st m w) v u->∀S' m' w',FrameExt F s.st m w S' m' w'->(∀x,(m r).1=some x->w'.heap[x]? =w.heap[x]?)->z5I S' m' w' (okB F S' m' w') mv u (m r).1):
 Le n l0 s ⟨s.sl,upd (upd s.st r .gone) id (.mp es' none),s.nx⟩:=by
 subst he
 obtain⟨v0,hv0⟩:=zf.1 hl
 obtain⟨i,h1,h2⟩:=z5q hv0
 refine Le.ghost' (fun F m w hS hf=>⟨fun id' hid'=> ?_,x1O hS hid h1 h2 hr hlive hsame (hlen F m w hS) hri (hv F m w hS)⟩)
 have e1:id'≠id:=fun e=>by subst e;rw[hf id' hid'] at hid;cases hid
 rw[z0l e1]
 exact y2D hf hr hid'
theorem y2E{x:LeI}{s':St}{C:List Prop}(h:leR s x=some (s',C))(hC:All C):Le n l0 s s':=by
 cases x with
 |nR t k=>
  simp only[leR] at h
  split at h
  ·rename_i hg
   obtain⟨hk,h⟩:=z0q h
   cases h
   exact Le.nilRow hg (by simp) hk
  ·cases h
 |nL t k=>
  simp only[leR] at h
  split at h
  ·rename_i hg
   obtain⟨hk,h⟩:=z0q h
   cases h
   exact Le.nilLst hg hk
  ·cases h
 |nB b i k=>
  simp only[leR] at h
  split at h
  ·rename_i cs hb
   split at h
   ·rename_i hg
    obtain⟨hk,h⟩:=z0q h
    cases h
    exact Le.nilBox hb hg (by simp) hk
   ·cases h
  ·cases h
 |fz id=>
  simp only[leR] at h
  split at h
  ·rename_i hb;cases h;exact Le.fz hb
  ·cases h
 |fr t p hp=>
  simp only[leR] at h
  split at h
  ·rename_i v' g p hs
   obtain⟨hk,h⟩:=z0q h
   cases h
   exact Le.freeze rfl hs hC hk
  ·cases h
 |fR t p hp=>
  simp only[leR] at h
  split at h
  ·rename_i v' g p hs
   obtain⟨hk,h⟩:=z0q h
   cases h
   exact Le.freezeR rfl hs hC hk
  ·cases h
 |eq t d v hw=>
  simp only[leR] at h
  cases h
  exact Le.slot rfl hC.1
 |er id xs ys he=>
  simp only[leR] at h
  split at h
  ·rename_i hb;cases h;exact Le.row hb hC.1
  ·cases h
 |kp ts=>
  simp only[leR] at h
  cases h
  exact Le.keep ts
 |mc id xs' p hp=>
  simp only[leR] at h
  split at h
  ·rename_i hid
   split at h
   ·rename_i hr
    cases h
    exact Le.matClose hid hr hC.1 hC.2.1
   ·cases h
  ·cases h
 |mf t=>
  simp only[leR] at h
  split at h
  ·rename_i hg
   split at h
   ·rename_i hid;cases h;exact Le.matFreeze hg hid
   ·cases h
  ·cases h
 |cb b0 i ag k p hp=>
  simp only[leR] at h
  split at h
  rotate_left
  ·cases h
  rename_i cs0 hb0
  split at h
  rotate_left
  ·cases h
  rename_i id q hg
  split at h
  rotate_left
  ·cases h
  rename_i cs hs
  split at h
  rotate_left
  ·cases h
  rename_i cs' g p hsn
  obtain⟨hk,h⟩:=z0q h
  simp only[qr] at h
  obtain⟨ts,h1,xs,h2,h⟩:=h
  cases h
  simp only[qm,ze] at hk
  obtain⟨c1,c2,c3,c4,c5⟩:=hk
  exact Le.closeB hb0 hg hs hsn hC (fun e=>by rw[e] at c1;simp at c1) c2 (z40 c3) (qv c4) (qF c5) h1 h2
 |mv t i j he=>
  simp only[leR] at h
  split at h
  ·rename_i hg
   split at h
   ·rename_i hid;cases h;exact Le.mvRow hg hid hC.1
   ·cases h
  ·cases h
 |mput id es' p hp=>
  simp only[leR] at h
  split at h
  ·rename_i es k r hid
   split at h
   ·rename_i cs hr
    cases hri:(Nat.beq r id|| !cs.all z08) with
    |true=>rw[hri] at h;cases h
    |false=>
     rw[hri,cond_false] at h
     simp only[qr,qa,qD] at h
     obtain⟨Ts,hTs,rfl,rfl⟩:=h
     simp only[zu] at hri
     have hne:r≠id:=fun e=>by subst e;simp at hri
     obtain⟨c1,c2,-⟩:=hC
     have hcs:=z2I hTs
     subst hcs
     refine @Le.mput _ _ _ _ _ _ _ _ _ _ (.bx Ts) hid hr rfl trivial (fun F m w hS=>by simp[Ob.len]) hne c1 c2 (@fun P F m w hS u hv S' m' w' hF hx=> ?_)
     obtain⟨bb,us,ty,q1,q2,q3,q4⟩:=hS.objs r _ hr
     have huv:u= .pointer (some ⟨bb,0,none⟩):=by
      cases hv with
      |ptrG _ _ _ hs'=>rw[hr] at hs';cases hs'
      |ptr _ _ cs' b' hs' hm=>rw[q1] at hm;cases hm;rfl
     refine⟨bb,us,ty,q1,huv,(hx bb q1).trans q2,by simpa using q3,fun T hT=> ?_,fun i T u a b'=>hF.tree ?_⟩
     ·have:=hri.2
      simp only[zw,qN] at this
      exact this (.t T) (qI.2 ⟨T,hT,rfl⟩)
     ·have:=(q4 i (.t T) u (by simp[a]) b').1
      cases this with
      |t _ _ h=>exact h
   ·cases h
  ·rename_i es k r q hid
   split at h
   ·rename_i k' xs hr
    cases hri:Nat.beq r id with
    |true=>rw[hri] at h;cases h
    |false=>
     rw[hri,cond_false] at h
     simp only[qa,qD] at h
     obtain⟨rfl,rfl⟩:=h
     have hne:r≠id:=fun e=>by subst e;simp at hri
     obtain⟨c0,c1,c2,-⟩:=hC
     refine @Le.mput _ _ _ _ _ _ _ _ _ _ (.rw k' xs) hid hr rfl trivial (@fun P F m w hS=> ?_) hne c1 c2 (@fun P F m w hS u hv S' m' w' hF hx=> ?_)
     ·obtain⟨_,_,a3,a4,_⟩:=hS.objs r _ hr
      simp only[maxLen] at a4;simp only[Ob.len];omega
     ·refine⟨m r,?_,rfl,z3M.persist hF (hS.objs r _ hr) hx⟩
      cases hv with
      |rowG _ _ L hs'=>rw[hr] at hs';cases hs'
      |row _ _ k'' fz' xs' L hs' hn' hu'=>
       rw[hr] at hs';cases hs'
       rw[hu' c0,c0]
   ·cases h
  ·cases h
 |mfz id es' p hp=>
  simp only[leR] at h
  split at h
  ·rename_i es hid
   simp only[qa,qD] at h
   obtain⟨rfl,rfl⟩:=h
   obtain⟨rfl,-⟩:=hC
   exact Le.ghost' (fun F m w hS hf=>⟨fun id' hid'=>y2D hf hid hid',x1P hS hid⟩)
  ·cases h
 |me id es1 es' he=>
  simp only[leR] at h
  split at h
  ·rename_i es hh hid
   simp only[qa,qD] at h
   obtain⟨rfl,rfl⟩:=h
   obtain⟨rfl,-⟩:=hC
   have e:upd s.st id (.mp es hh)=s.st:=by
    funext j
    unfold upd
    by_cases hj:j=id
    ·subst hj;simp[hid]
    ·rw[z1e hj];rfl
   rw[e]
   exact fun P F m0 w0 m a w h0 h1 h2=>⟨m,h1,h2⟩
  ·cases h
 |eb b i v v' he=>
  simp only[leR] at h
  split at h
  ·rename_i cs hb
   split at h
   ·rename_i v0 hi;cases h;exact Le.boxE hb hi hC.1
   ·cases h
  ·cases h
theorem z6F:∀(ks:List Nat) (sl:List (Nat×AVal)) (t:Nat),t∈ks->get (z71 sl ks) t=get sl t
 |k::ks,sl,t,h=>by
  simp only[z71,get]
  by_cases e:k=t
  ·subst e;simp
  ·rw[z1e e]
   rcases qg.1 h with h|h
   ·exact absurd h.symm e
   ·exact z6F ks sl t h
theorem y9b:∀(sl:List (Nat×AVal)) (t:Nat),t∉sl.map (·.1)->get sl t= .junk
 | [],t,h=>rfl
 | (k,v)::sl,t,h=>by
  simp only[qZ,qg,not_or] at h
  simp only[get]
  rw[z1e (Ne.symm h.1)]
  exact y9b sl t h.2
theorem z5R(sl:List (Nat×AVal))(t:Nat):get (z71 sl (sl.map (·.1))) t=get sl t:=by
 by_cases h:t∈sl.map (·.1)
 ·exact z6F _ _ _ h
 ·rcases z8R (sl.map (·.1)) sl t with e|e
  ·exact e
  ·rw[e,y9b sl t h]
theorem Rel.slots_eq{sl sl':List (Nat×AVal)}{st:z0m}{nx:Nat}{a:Act}(h:Rel F n ⟨sl,st,nx⟩ m a w)(e:∀t,get sl' t=get sl t):Rel F n ⟨sl',st,nx⟩ m a w:=
 ⟨fun t=>by rw[e];exact h.slots t,h.size,h.defers,h.srel,h.fresh⟩
theorem x1X(hm:P.follows .mixedOrders=true){id:Nat}{ops:Array Oper}{draw:Bool}{orcs:List (Nat×Orc)}{s':St}{C:List Prop}(h:x7V P n ops.toList draw orcs s=some (s',C))(hC:All C)(hq:Q .normal s'):
 Sim P n l0 (.region id ops draw) s Q:=by
 unfold x7V at h
 split at h
 rotate_left
 ·cases h
 rename_i s2 rs hrun
 obtain⟨h1,h2⟩:=z0q h
 cases h2
 have hR:x6b P n ops.toList draw orcs (s2.sl.map (·.1)) s=some (⟨z71 s2.sl (s2.sl.map (·.1)),s2.st,s.nx+8*ops.toList.length⟩,x1v rs):=by
  unfold x6b
  rw[hrun]
  simp only[h1,cond_true]
 intro F m0 w0 m a w h0 r1 r2
 cases draw with
 |false=>
  have:=y8X hR hC r1 (Q:=fun e a' w'=> ∃s' m',Rel F n s' m' a' w'/\FrameExt F (app emp l0) m0 w0 s'.st m' w'/\Q e s') (fun m' a' w' q1 q2=>⟨⟨s2.sl,s2.st,s.nx+8*ops.toList.length⟩,m',q1.slots_eq (fun t=>(z5R _ t).symm),r2.trans h0 q2,hq⟩) id
  simpa using this
 |true=>
  have:=y82 hm hR hC r1 (Q:=fun e a' w'=> ∃s' m',Rel F n s' m' a' w'/\FrameExt F (app emp l0) m0 w0 s'.st m' w'/\Q e s') (fun m' a' w' q1 q2=>⟨⟨s2.sl,s2.st,s.nx+8*ops.toList.length⟩,m',q1.slots_eq (fun t=>(z5R _ t).symm),r2.trans h0 q2,hq⟩) id
  simpa using this
theorem z8Y{a b:List Prop}:All (a++b)↔All a/\All b:=z0N
theorem x1Y{e:Exit}{K:List Fr}(h:z96 e K= .fin):K=[]:=by
 cases K with
 |nil=>rfl
 |cons f K=>
  cases f with
  |seq c=>cases e<;>simp[z96] at h
  |blk i=>
   cases e with
   |exit j=>simp only[z96] at h;cases hj:Nat.beq j i<;>rw[hj] at h<;>simp at h
   |_=>simp[z96] at h
  |loop c=>cases e<;>simp[z96] at h
theorem y2F{e:Exit}{K K':List Fr}{c:Code}(h:z96 e K= .back c K')(hA:z1k P n l0 c s (z3w P n l0 K' Q)):z3w P n l0 K Q e s:=by
 cases K with
 |nil=>simp[z96] at h
 |cons f K=>
  cases f with
  |seq c=>cases e<;>simp[z96] at h
  |blk i=>
   cases e with
   |exit j=>simp only[z96] at h;cases hj:Nat.beq j i<;>rw[hj] at h<;>simp at h
   |_=>simp[z96] at h
  |loop c=>
   cases e with
   |normal=>simp only[z96] at h;cases h;exact hA
   |_=>simp[z96] at h
theorem x4z{e:Exit}{K K':List Fr}{ctl:Ctl}(h:z96 e K= .go ctl K')(hA:x6c P n l0 Q ctl K' s):z3w P n l0 K Q e s:=by
 cases K with
 |nil=>simp[z96] at h
 |cons f K=>
  cases f with
  |seq c=>cases e<;>(simp only[z96] at h;cases h;exact hA)
  |blk i=>
   cases e with
   |exit j=>
    simp only[z96] at h
    show y7m i _ (.exit j) s
    simp only[y7m]
    cases hj:Nat.beq j i with
    |true=>rw[hj] at h;cases h;rw[if_pos (qF hj)];exact hA
    |false=>rw[hj] at h;cases h;rw[if_neg (fun e=>by subst e;simp at hj)];exact hA
   |_=>simp only[z96] at h;cases h;exact hA
  |loop c=>
   cases e with
   |normal=>simp[z96] at h
   |_=>simp only[z96] at h;cases h;exact hA
theorem x1Z(hm:P.follows .mixedOrders=true)(hQ:z4t n l0 Q):∀(fuel:Nat) (sc:List It) (ctl:Ctl) (K:List Fr) (s:St) (acc:List Prop) (a:At) (C:List Prop),
 go P n fuel sc ctl K s acc=some (a,C)->All C->AtG P n l0 Q a->All acc/\x6c P n l0 Q ctl K s:=by
 intro fuel
 induction fuel with
 |zero=>intro sc ctl K s acc a C h;simp[go] at h
 |succ fuel ih=>
  intro sc ctl K s acc a C h hC hA
  unfold go at h
  split at h
  ·cases h
  ·
   rename_i x sc' K' s' acc' hfu
   cases hfu
   split at h
   ·rename_i s2 C2 hle
    obtain⟨q1,q2⟩:=ih _ _ _ _ _ _ _ h hC hA
    rw[z8Y] at q1
    exact⟨q1.1,y9a hQ (y2E hle q1.2) q2⟩
   ·cases h
  ·
   rename_i fuel2 c hfu _
   cases hfu
   split at h
   ·obtain⟨q1,q2⟩:=ih _ _ _ _ _ _ _ h hC hA;exact⟨q1,Sim.seq q2⟩
   ·obtain⟨q1,q2⟩:=ih _ _ _ _ _ _ _ h hC hA;exact⟨q1,Sim.skip q2⟩
   ·obtain⟨q1,q2⟩:=ih _ _ _ _ _ _ _ h hC hA;exact⟨q1,Sim.ret q2⟩
   ·obtain⟨q1,q2⟩:=ih _ _ _ _ _ _ _ h hC hA;exact⟨q1,Sim.exit q2⟩
   ·obtain⟨q1,q2⟩:=ih _ _ _ _ _ _ _ h hC hA;exact⟨q1,Sim.block q2⟩
   ·split at h
    ·cases h;exact⟨hC,Sim.loop hA⟩
    ·obtain⟨q1,q2⟩:=ih _ _ _ _ _ _ _ h hC hA;exact⟨q1,Sim.loop (z1k.step q2)⟩
    ·cases h
   ·split at h
    ·rename_i b hb
     split at h
     ·cases h;exact⟨hC,Sim.cond hb hA.1 hA.2⟩
     ·cases b with
      |true=>obtain⟨q1,q2⟩:=ih _ _ _ _ _ _ _ h hC hA;exact⟨q1,Sim.cond hb (fun _=>q2) (fun e=>by cases e)⟩
      |false=>cases h
     ·cases b with
      |false=>obtain⟨q1,q2⟩:=ih _ _ _ _ _ _ _ h hC hA;exact⟨q1,Sim.cond hb (fun e=>by cases e) (fun _=>q2)⟩
      |true=>cases h
     ·cases h
    ·rename_i hb
     split at h
     ·cases h;exact⟨hC,Sim.condAny hb hA.1 hA.2⟩
     ·cases h
    ·cases h
   ·split at h
    ·cases h;exact⟨hC,hA⟩
    ·split at h
     ·rename_i s2 C2 hr
      obtain⟨q1,q2⟩:=ih _ _ _ _ _ _ _ h hC hA
      rw[z8Y] at q1
      exact⟨q1.1,x1X hm hr q1.2 q2⟩
     ·cases h
    ·cases h
   ·split at h
    ·cases h;exact⟨hC,hA⟩
    ·cases h
   ·cases h
  ·
   rename_i fuel2 e hfu _
   cases hfu
   split at h
   ·rename_i ho
    split at h
    ·cases h;exact⟨hC,by rw[x1Y ho];exact hA⟩
    ·cases h
   ·rename_i c K' ho
    split at h
    ·cases h;exact⟨hC,y2F ho hA⟩
    ·obtain⟨q1,q2⟩:=ih _ _ _ _ _ _ _ h hC hA;exact⟨q1,y2F ho (z1k.step q2)⟩
    ·cases h
   ·rename_i ctl K' ho
    obtain⟨q1,q2⟩:=ih _ _ _ _ _ _ _ h hC hA
    exact⟨q1,x4z ho q2⟩
end Go.Ab
end
section
namespace Go.Ab
open Go
variable {P:Program} {n:Nat} {l0:List (Nat×Ob)} {Q:Exit->St->Prop}
abbrev VI(x:Int):AVal:= .t (.sc (.int .i64 x))
abbrev VB(b:Bool):AVal:= .t (.sc (.bool b))
abbrev VS(s:ByteArray):AVal:= .t (.sc (.string s))
abbrev VN:AVal:= .t (.sc (.slice none 0 0))
abbrev VL{α:Type}(k:Nat)(f:α->Tree)(l:List α):AVal:= .t (.lst k (l.map f))
abbrev TI(x:Int):Tree:= .sc (.int .i64 x)
abbrev TB(b:Bool):Tree:= .sc (.bool b)
abbrev TS(s:ByteArray):Tree:= .sc (.string s)
abbrev TN:Tree:= .sc (.slice none 0 0)
abbrev TL{α:Type}(k:Nat)(f:α->Tree)(l:List α):Tree:= .lst k (l.map f)
abbrev OR{α:Type}(k:Nat)(f:α->Tree)(l:List α):Ob:= .row k false (l.map f)
abbrev OF{α:Type}(k:Nat)(f:α->Tree)(l:List α):Ob:= .row k true (l.map f)
structure SimC(P:Program)(n:Nat)(l0:List (Nat×Ob))(Q:Exit->St->Prop)(c:Cfg):Prop where
 run:P.follows .mixedOrders=true->z4t n l0 Q->x6c P n l0 Q c.ctl c.K c.s
def z7c(P:Program)(n:Nat)(sc:List It)(c:Cfg):Option (At×List Prop):=go P n 100000 sc c.ctl c.K c.s []
theorem y9c:∀(x:LeI),All (leC x)
 | .fr _ p h=>h
 | .eq _ d v h=>⟨h,trivial⟩
 | .er _ xs ys h=>⟨h,trivial⟩
 | .nR _ _=>trivial
 | .nL _ _=>trivial
 | .nB _ _ _=>trivial
 | .fz _=>trivial
 | .kp _=>trivial
 | .eb _ _ _ _ h=>⟨h,trivial⟩
 | .mc _ _ _ h=>h
 | .fR _ _ h=>h
 | .mv _ _ _ h=>⟨h,trivial⟩
 | .mf _=>trivial
 | .mput _ _ _ h=>h
 | .mfz _ _ _ h=>h
 | .me _ _ _ h=>⟨h,trivial⟩
 | .cb _ _ _ _ _ h=>h
theorem y06:∀{l t:List Prop},All l->All t->All (apC l t)
 | [],t,_,h=>h
 |p::l,t,hp,h=>⟨hp.1,y06 hp.2 h⟩
theorem y9d:∀(l:List (Nat×Ox)) {t:List Prop},All t->All (oxC l t)
 | [],t,h=>h
 | (_,x)::l,t,h=>y06 x.h (y9d l h)
theorem z3l:∀(sc:List It),All (csL sc)
 | []=>trivial
 | .r xs::l=>y9d xs (z3l l)
 | .le x::l=>y06 (y9c x) (z3l l)
 | .t::l=>z3l l
 | .f::l=>z3l l
 | .u::l=>z3l l
theorem z36{sc:List It}{c:Cfg}{a:At}{C:List Prop}(h:z7c P n sc c=some (a,C))(hC:All C)(hA:P.follows .mixedOrders=true->z4t n l0 Q->AtG P n l0 Q a):SimC P n l0 Q c:=
 ⟨fun hm hQ=>(x1Z hm hQ _ _ _ _ _ _ _ _ h hC (hA hm hQ)).2⟩
def brQ:Option (At×List Prop)->Option (Bool×List Prop)
 |some (.br b _ _ _ _,C)=>some (b,C)
 |_=>none
def brX(v:Bool):Option (At×List Prop)->Cfg
 |some (.br _ x y K s,_)=>⟨.run (bif v then x else y),K,s⟩
 |_=>default
theorem SimC.br{c:Cfg}(sc:List It)(b:Bool)(ht:b=true->SimC P n l0 Q (brX true (z7c P n sc c)))(hf:b=false->SimC P n l0 Q (brX false (z7c P n sc c)))
 (h:brQ (z7c P n sc c)=some (b,csL sc):=by kernel_rfl):SimC P n l0 Q c:=by
 generalize hr:z7c P n sc c=r at*
 match r,h with
 |some (.br b' x y K s,C),h=>
  simp only[brQ,qa,qD] at h
  obtain⟨rfl,rfl⟩:=h
  exact z36 hr (z3l sc) (fun hm hQ=>⟨fun e=>(ht e).run hm hQ,fun e=>(hf e).run hm hQ⟩)
class BP(b:Bool)(t f:outParam Prop):Prop where
 t:b=true->t
 f:b=false->f
instance (priority:=10) BP.any (b:Bool):BP b (b=true) (b=false):=⟨id,id⟩
instance (priority:=100) BP.dec (p:Prop) [Decidable p]:BP (decide p) p (¬p):=⟨of_decide_eq_true,of_decide_eq_false⟩
instance BP.ilt (a b:Int) [Decidable (a<b)]:BP (decide (a<b)) (a<b) (b<=a):=⟨of_decide_eq_true,fun h=>Int.not_lt.1 (of_decide_eq_false h)⟩
instance BP.ile (a b:Int) [Decidable (a<=b)]:BP (decide (a<=b)) (a<=b) (b<a):=⟨of_decide_eq_true,fun h=>Int.not_le.1 (of_decide_eq_false h)⟩
instance BP.not (b:Bool) {t f:Prop} [h:BP b t f]:BP (!b) f t:=⟨fun e=>h.f (by simpa using e),fun e=>h.t (by simpa using e)⟩
instance BP.and (a b:Bool) {t f t' f':Prop} [h:BP a t f] [k:BP b t' f']:BP (a&&b) (t/\t') (f\/f'):=⟨fun e=>by rw[qm] at e;exact⟨h.t e.1,k.t e.2⟩,fun e=>by rw[Bool.and_eq_false_iff] at e;exact e.imp h.f k.f⟩
instance BP.or (a b:Bool) {t f t' f':Prop} [h:BP a t f] [k:BP b t' f']:BP (a||b) (t\/t') (f/\f'):=⟨fun e=>by rw[qH] at e;exact e.imp h.t k.t,fun e=>by rw[zu] at e;exact⟨h.f e.1,k.f e.2⟩⟩
instance BP.beq {α:Type} [BEq α] [LawfulBEq α] (a b:α):BP (a==b) (a=b) (¬a=b):=⟨fun e=>beq_iff_eq.1 e,fun e=>beq_eq_false_iff_ne.1 e⟩
instance BP.bne {α:Type} [BEq α] [LawfulBEq α] (a b:α):BP (a !=b) (¬a=b) (a=b):=⟨fun e=>bne_iff_ne.1 e,fun e=>bne_eq_false_iff_eq.1 e⟩
theorem SimC.bp{c:Cfg}(sc:List It)(b:Bool){t f:Prop}[hb:BP b t f](ht:t->SimC P n l0 Q (brX true (z7c P n sc c)))(hf:f->SimC P n l0 Q (brX false (z7c P n sc c)))
 (h:brQ (z7c P n sc c)=some (b,csL sc):=by kernel_rfl):SimC P n l0 Q c:=SimC.br sc b (fun e=>ht (hb.t e)) (fun e=>hf (hb.f e)) h
def anQ:Option (At×List Prop)->Option (List Prop)
 |some (.any _ _ _ _,C)=>some C
 |_=>none
def anX(v:Bool):Option (At×List Prop)->Cfg
 |some (.any x y K s,_)=>⟨.run (bif v then x else y),K,s⟩
 |_=>default
theorem SimC.any{c:Cfg}(sc:List It)(ht:SimC P n l0 Q (anX true (z7c P n sc c)))(hf:SimC P n l0 Q (anX false (z7c P n sc c)))
 (h:anQ (z7c P n sc c)=some (csL sc):=by kernel_rfl):SimC P n l0 Q c:=by
 generalize hr:z7c P n sc c=r at*
 match r,h with
 |some (.any x y K s,C),h=>
  simp only[anQ,qa] at h
  subst h
  exact z36 hr (z3l sc) (fun hm hQ=>⟨ht.run hm hQ,hf.run hm hQ⟩)
def x6d(p:List (Nat×AVal)×List (Nat×Ob))(nx:Nat):St:=⟨p.1,app emp p.2,nx⟩
def idT:List (Nat×Ob)->List (Nat×Nat)
 | []=>[]
 | (i,_)::l=>(i,i)::idT l
def x10:List (Nat×AVal)->List Nat
 | []=>[]
 | (i,_)::l=>i::x10 l
def lpQ(l0:List (Nat×Ob))(nx:Nat)(p:List (Nat×AVal)×List (Nat×Ob)):Option (At×List Prop)->Option ((List (Nat×AVal)×List (Nat×Ob))×List Prop)
 |some (.loop _ _ s,C)=>match y4e l0 (idT p.2) (x10 p.1) nx s with
  |some p=>some (p,C)
  |none=>none
 |_=>none
def lpC:Option (At×List Prop)->Code
 |some (.loop c _ _,_)=>c
 |_=>default
def lpK:Option (At×List Prop)->List Fr
 |some (.loop _ K _,_)=>K
 |_=>[]
theorem SimC.loop{c:Cfg}{α:Type}(sc:List It)(nx:Nat)(S:α->List (Nat×AVal)×List (Nat×Ob))(I:α->Prop)(μ:α->Nat)(a:α)(ha:I a)
 (round:∀a,I a->(∀b,I b->μ b<μ a->z1k P n l0 (lpC (z7c P n sc c)) (x6d (S b) nx) (z3w P n l0 (lpK (z7c P n sc c)) Q))->
  SimC P n l0 Q ⟨.run (lpC (z7c P n sc c)),.loop (lpC (z7c P n sc c))::lpK (z7c P n sc c),x6d (S a) nx⟩)
 (h:lpQ l0 nx (S a) (z7c P n sc c)=some (S a,csL sc):=by kernel_rfl):SimC P n l0 Q c:=by
 generalize hr:z7c P n sc c=r at*
 match r,h with
 |some (.loop x K s,C),h=>
  simp only[lpQ] at h
  split at h
  ·rename_i p hp
   simp only[qa,qD] at h
   obtain⟨rfl,rfl⟩:=h
   refine z36 hr (z3l sc) (fun hm hQ=> ?_)
   have hle:Le n l0 s (x6d (S a) nx):=Le.ren hp
   refine z1k.weaken hle ?_
   exact x1T (fun a=>x6d (S a) nx) I μ (fun a hI ih=>z1k.step ((round a hI ih).run hm hQ)) a ha
  ·cases h
def bkQ(l0:List (Nat×Ob))(τ:List (Nat×Nat))(nx:Nat)(p:List (Nat×AVal)×List (Nat×Ob)):Option (At×List Prop)->Option ((List (Nat×AVal)×List (Nat×Ob))×List Prop)
 |some (.back _ _ s,C)=>match y4e l0 τ (x10 p.1) nx s with
  |some p=>some (p,C)
  |none=>none
 |_=>none
def bkC:Option (At×List Prop)->Option (Code×List Fr)
 |some (.back c K _,_)=>some (c,K)
 |_=>none
theorem SimC.back{c:Cfg}(sc:List It)(τ:List (Nat×Nat)){p:List (Nat×AVal)×List (Nat×Ob)}{nx:Nat}{body:Code}{K:List Fr}(ih:z1k P n l0 body (x6d p nx) (z3w P n l0 K Q))
 (h:bkQ l0 τ nx p (z7c P n sc c)=some (p,csL sc):=by kernel_rfl) (hc:bkC (z7c P n sc c)=some (body,K):=by kernel_rfl):SimC P n l0 Q c:=by
 generalize hr:z7c P n sc c=r at*
 match r,h,hc with
 |some (.back x K' s,C),h,hc=>
  simp only[bkC,qa,qD] at hc
  obtain⟨rfl,rfl⟩:=hc
  simp only[bkQ] at h
  split at h
  ·rename_i p' hp
   simp only[qa,qD] at h
   obtain⟨rfl,rfl⟩:=h
   exact z36 hr (z3l sc) (fun hm hQ=>z1k.weaken (Le.ren hp) ih)
  ·cases h
abbrev x6e:=x1W
theorem x4A{rv:List ResultVar}{res:AVal}{l1:List (Nat×Ob)}:z4t n l0 (x6e P n l0 rv res l1):=fun _ _ _ h k=>x1W.le h k
def x9F(P:Program)(rv:List ResultVar)(sl:List (Nat×AVal))(l:List (Nat×Ob)):Option AVal:=x6s P rv sl (app emp l)
def y9e:List ResultVar->List Nat
 | []=>[]
 | .tmp t::l=>t::y9e l
 | .cell t _::l=>t::y9e l
def x11:List (Nat×Ob)->Nat
 | []=>0
 | (i,_)::l=>bif Nat.blt i (x11 l) then x11 l else i+1
def nxT:List (Nat×Nat)->Nat
 | []=>0
 | (_,i)::l=>bif Nat.blt i (nxT l) then nxT l else i+1
def y7p:Exit->Bool
 | .ret=>true
 | .normal=>true
 |_=>false
def fnQ(P:Program)(l0:List (Nat×Ob))(τ:List (Nat×Nat))(rv:List ResultVar):Option (At×List Prop)->Option (AVal×List (Nat×Ob)×List Prop)
 |some (.fin e s,C)=>bif y7p e then match y4e l0 τ (y9e rv) (nxT τ) s with
  |some (sl,l)=>match x9F P rv sl l with
   |some r=>some (r,l,C)
   |none=>none
  |none=>none
  else none
 |_=>none
theorem y5C{e:Exit}(h:y7p e=true):e= .ret\/e= .normal:=by cases e<;>simp[y7p] at h|-
theorem SimC.finE{c:Cfg}{rv:List ResultVar}{res:AVal}{l1:List (Nat×Ob)}{β:Type}(sc:List It)(τ:List (Nat×Nat))(R:β->AVal×List (Nat×Ob))(x y:β)(e:y=x)
 (h:fnQ P l0 τ rv (z7c P n sc c)=some ((R x).1,(R x).2,csL sc):=by kernel_rfl) (hR:R y=(res,l1):=by kernel_rfl):SimC P n l0 (x6e P n l0 rv res l1) c:=by
 subst e
 rw[hR] at h
 generalize hr:z7c P n sc c=r at*
 match r,h with
 |some (.fin e s,C),h=>
  simp only[fnQ] at h
  cases he:y7p e with
  |false=>rw[he] at h;cases h
  |true=>
   rw[he] at h
   simp only[cond_true] at h
   split at h
   ·rename_i sl l hs
    split at h
    ·rename_i r hres
     simp only[qa,qD] at h
     obtain⟨rfl,rfl,rfl⟩:=h
     exact z36 hr (z3l sc) (fun hm hQ=>x1W.here (y5C he) (Le.ren hs) rfl hres)
    ·cases h
   ·cases h
theorem SimC.fin{c:Cfg}{rv:List ResultVar}{res:AVal}{l1:List (Nat×Ob)}(sc:List It)(τ:List (Nat×Nat))(h:fnQ P l0 τ rv (z7c P n sc c)=some (res,l1,csL sc):=by kernel_rfl):SimC P n l0 (x6e P n l0 rv res l1) c:=
 SimC.finE sc τ (fun z=>z) (res,l1) (res,l1) rfl h rfl
def leS(s:St):List LeI->Option (St×List Prop)
 | []=>some (s,[])
 |x::l=>match leR s x with
  |some (s',C)=>match leS s' l with
   |some (s2,C2)=>some (s2,apC C C2)
   |none=>none
  |none=>none
def x7J:List LeI->List Prop
 | []=>[]
 |x::l=>apC (leC x) (x7J l)
theorem y5D:∀l:List LeI,All (x7J l)
 | []=>trivial
 |x::l=>y06 (y9c x) (y5D l)
theorem y4i:∀{l t:List Prop},All (apC l t)->All l/\All t
 | [],_,h=>⟨trivial,h⟩
 |_::_,_,h=>⟨⟨h.1,(y4i h.2).1⟩,(y4i h.2).2⟩
theorem y2G:∀{l:List LeI} {s s':St} {C:List Prop},leS s l=some (s',C)->All C->Le n l0 s s'
 | [],s,s',C,h,_=>by
  simp only[leS,qa,qD] at h
  obtain⟨rfl,rfl⟩:=h
  exact Le.refl _
 |x::l,s,s',C,h,hC=>by
  simp only[leS] at h
  split at h
  ·rename_i s1 C1 h1
   split at h
   ·rename_i s2 C2 h2
    simp only[qa,qD] at h
    obtain⟨rfl,rfl⟩:=h
    obtain⟨q1,q2⟩:=y4i hC
    exact Le.trans (y2E h1 q1) (y2G h2 q2)
   ·cases h
  ·cases h
def fvQ(P:Program)(l0:List (Nat×Ob))(les:List LeI)(τ:List (Nat×Nat))(rv:List ResultVar):Option (At×List Prop)->Option (AVal×List (Nat×Ob)×List Prop×List Prop)
 |some (.fin e s,C)=>bif y7p e then match x6s P rv s.sl s.st with
  |some r0=>match leS ⟨[(0,r0)],s.st,s.nx⟩ les with
   |some (s2,D)=>match y4e l0 τ [0] (nxT τ) s2 with
    |some (sl,l)=>some (get sl 0,l,C,D)
    |none=>none
   |none=>none
  |none=>none
  else none
 |_=>none
theorem SimC.finVE{c:Cfg}{rv:List ResultVar}{res:AVal}{l1:List (Nat×Ob)}{β:Type}(sc:List It)(les:List LeI)(τ:List (Nat×Nat))(R:β->AVal×List (Nat×Ob))(x y:β)(e:y=x)
 (h:fvQ P l0 les τ rv (z7c P n sc c)=some ((R x).1,(R x).2,csL sc,x7J les):=by kernel_rfl) (hR:R y=(res,l1):=by kernel_rfl):SimC P n l0 (x6e P n l0 rv res l1) c:=by
 subst e
 rw[hR] at h
 generalize hr:z7c P n sc c=r at*
 match r,h with
 |some (.fin e s,C),h=>
  simp only[fvQ] at h
  cases he:y7p e with
  |false=>rw[he] at h;cases h
  |true=>
   rw[he] at h
   simp only[cond_true] at h
   split at h
   ·rename_i r0 hr0
    split at h
    ·rename_i s2 D hD
     split at h
     ·rename_i sl l hs
      simp only[qa,qD] at h
      obtain⟨rfl,rfl,rfl,rfl⟩:=h
      exact z36 hr (z3l sc) (fun hm hQ=>⟨y5C he,s,r0,⟨sl,app emp l,nxT τ⟩,Le.refl _,hr0,Le.trans (y2G hD (y5D les)) (Le.ren hs),rfl,rfl⟩)
     ·cases h
    ·cases h
   ·cases h
theorem SimC.finV{c:Cfg}{rv:List ResultVar}{res:AVal}{l1:List (Nat×Ob)}(sc:List It)(les:List LeI)(τ:List (Nat×Nat))(h:fvQ P l0 les τ rv (z7c P n sc c)=some (res,l1,csL sc,x7J les):=by kernel_rfl):SimC P n l0 (x6e P n l0 rv res l1) c:=
 SimC.finVE sc les τ (fun z=>z) (res,l1) (res,l1) rfl h rfl
theorem SimC.at{c:Cfg}(nx:Nat)(τ:List (Nat×Nat))(p:List (Nat×AVal)×List (Nat×Ob))(k:SimC P n l0 Q ⟨c.ctl,c.K,x6d p nx⟩)(h:y4e l0 τ (x10 p.1) nx c.s=some p:=by kernel_rfl):SimC P n l0 Q c:=
 ⟨fun hm hQ=>y9a hQ (Le.ren h) (k.run hm hQ)⟩
theorem SimC.len{x:Code}{K:List Fr}{s:St}{α:Type}(t:Nat){k:Nat}{f:α->Tree}{l:List α}(h:l.length<=9223372036854775807->SimC P n l0 Q ⟨.run x,K,s⟩)(hg:get s.sl t=VL k f l:=by rfl):SimC P n l0 Q ⟨.run x,K,s⟩:=
 ⟨fun hm hQ=>Sim.len (t:=t) (k:=k) (xs:=l.map f) hg (fun hl=>(h (by simpa using hl)).run hm hQ)⟩
def y9f(fn:Func):Code:=fn.body.getD default
theorem FC.go{f:FuncId}{args:List AVal}{res:AVal}{l1:List (Nat×Ob)}(fn:Func)(h:SimC P fn.ntmps l0 (x6e P fn.ntmps l0 fn.results.toList res l1) ⟨.run (y9f fn),[],⟨z4s 0 args,app emp l0,x11 l0⟩⟩)
 (hf:P.funcs[f]? =some fn:=by kernel_rfl) (hn:((args.length).ble fn.ntmps&&fn.body.isSome)=true:=by kernel_rfl) (hm:P.follows .mixedOrders=true:=by kernel_rfl):FC P f args (app emp l0) res (app emp l1):=by
 simp only[qm] at hn
 obtain⟨c,hb⟩:=zf.1 hn.2
 have hc:y9f fn=c:=by unfold y9f;rw[hb];rfl
 have hx:∀l:List (Nat×Ob),l.all (fun x=>Nat.blt x.1 (x11 l))=true:=by
  have key:∀l:List (Nat×Ob),∀x∈l,x.1<x11 l:=by
   intro l
   induction l with
   |nil=>intro x h;simp at h
   |cons y l ih=>
    intro x hx
    obtain⟨i,o⟩:=y
    simp only[x11]
    cases hh:Nat.blt i (x11 l) with
    |true=>
     have:=q9 (qv hh)
     rcases qg.1 hx with rfl|hx
     ·exact this
     ·exact ih x hx
    |false=>
     rcases qg.1 hx with rfl|hx
     ·exact Nat.lt_succ_self _
     ·have h1:=ih x hx
      have h2:¬(i<x11 l):=fun h=>by rw[show Nat.blt i (x11 l)=true from zD h] at hh;cases hh
      simp only[cond_false]
      omega
  intro l
  exact qN.2 fun x hx=>zD (key l x hx)
 have h:=h.run hm x4A
 simp only[x6c,z3w,hc] at h
 exact FC.of_simM hf hb hn.1 (hx l0) h
end Go.Ab
end
section
namespace Go.Ab
open Go
variable {P:Program}
structure Px(p:Prop) where
 o:Orc
 cs:List Prop
 h:p->All cs
def gdC(e:Bool):List Prop->List Prop
 | []=>[]
 |p::l=>(e=true->p)::gdC e l
theorem y9g{e:Bool}:∀{l:List Prop},(e=true->All l)->All (gdC e l)
 | [],_=>trivial
 |p::l,h=>⟨fun he=>(h he).1,y9g fun he=>(h he).2⟩
def X{p:Prop}(x:Px p)(h:p:=by first|with_reducible exact True.intro|omega| (and_intros<;>first|omega|with_reducible rfl|with_reducible assumption|with_reducible exact True.intro| (simp only[qk];omega)| (simp[-List.getD_eq_getElem?_getD];omega)| (simp;omega)| (simp;done))):Ox:=⟨x.o,x.cs,x.h h⟩
def oV(v:AVal):Orc:=⟨some v,none,none,none,[]⟩
def oE(x:Tree):Orc:=⟨none,none,some x,none,[]⟩
def Xc(p:Prop):Px p:=⟨Orc.no,[p],fun h=>⟨h,trivial⟩⟩
def X0:Px True:=⟨Orc.no,[],fun _=>trivial⟩
def Xa{p q:Prop}(x:Px p)(y:Px q):Px (p/\q):=⟨y.o,x.cs++y.cs,fun h=>z8Y.2 ⟨x.h h.1,y.h h.2⟩⟩
def Xn(a:Int):Px (-9223372036854775808<=a/\a<=9223372036854775807):=⟨oV (VI a),[z5o (VI (IntKind.i64.wrap a)) (VI a)],fun h=>⟨z5o.of_eq (nw h),trivial⟩⟩
def x7W(a b:Int):Px True:=⟨oV (VI (max a b)),[z5o (VI (if b>a then b else a)) (VI (max a b))],fun _=>⟨z5o.of_eq x6t,trivial⟩⟩
def y8h(a b:Int):Px True:=⟨oV (VI (min a b)),[z5o (VI (if b<a then b else a)) (VI (min a b))],fun _=>⟨z5o.of_eq x6u,trivial⟩⟩
def Xl{α:Type}(f:α->Tree)(l:List α):Px True:=⟨oV (VI (l.length:Int)),[z5o (VI ((l.map f).length:Int)) (VI (l.length:Int))],fun _=>⟨z5o.of_eq x4u,trivial⟩⟩
def Xi{α:Type}[Inhabited α](f:α->Tree)(l:List α)(j:Int):Px (0<=j/\j< (l.length:Int)):=
 ⟨oE (f (l.getD j.toNat default)),[0<=j,(l.map f)[j.toNat]? =some (f (l.getD j.toNat default))],fun h=>⟨h.1,x4t h.1 h.2,trivial⟩⟩
def Xi'{α:Type}[Inhabited α](f:α->Tree)(l:List α)(j:Int)(k:Nat):Px (j=(k:Int)/\k<l.length):=
 ⟨oE (f (l.getD k default)),[0<=j,(l.map f)[j.toNat]? =some (f (l.getD k default))],fun h=>⟨by omega,x1U h.1 h.2,trivial⟩⟩
def Xp{α:Type}(f:α->Tree)(o:List α)(j:Int):Px (0<=j/\j< (o.length:Int)):=
 ⟨Orc.no,[o.length=(o.map f).length,0<=j,j< (o.length:Int)],fun h=>⟨qk _|>.symm,h.1,h.2,trivial⟩⟩
def Xp'{α:Type}(f:α->Tree)(id:Nat)(o:List α)(j:Int)(k:Nat):Px (j=(k:Int)/\k<o.length):=
 ⟨oV (.eptr id o.length k 0),[o.length=(o.map f).length,0<=j,j< (o.length:Int),z5o (.eptr id o.length j.toNat 0) (.eptr id o.length k 0)],
  fun h=>⟨qk _|>.symm,by omega,by omega,z5o.of_eq (x4v (by omega)),trivial⟩⟩
def Xe{α:Type}[Inhabited α](f:α->Tree)(o:List α)(i:Nat):Px (i<o.length):=
 ⟨oE (f (o.getD i default)),[o.length=(o.map f).length,(o.map f)[i]? =some (f (o.getD i default))],fun h=>⟨qk _|>.symm,y05 h,trivial⟩⟩
def Xs{α:Type}[Inhabited α](k:Nat)(f:α->Tree)(id:Nat)(o:List α)(i:Nat)(x:α)(g:List (Nat×Ob):=[]):Px (i<o.length):=
 ⟨⟨none,some (g++[(id,.row k false ((o.set i x).map f))]),some (f (o.getD i default)),none,[]⟩,
  [o.length=(o.map f).length,(o.map f)[i]? =some (f (o.getD i default)),g++[(id,Ob.row k false ((o.set i x).map f))]=g++[(id,Ob.row k false ((o.map f).set i (f x)))]],
  fun h=>⟨qk _|>.symm,y05 h,by rw[y88 rfl],trivial⟩⟩
def Xst{α:Type}(f:α->Tree)(k:Nat)(l:List α)(hi:Int):Px (0<=hi/\hi<=(l.length:Int)):=
 ⟨oV (VL k f (l.take hi.toNat)),[0<=hi,hi<=(((l.map f).length:Nat):Int),z5o (.t (.lst k ((l.map f).take hi.toNat))) (VL k f (l.take hi.toNat))],fun h=>⟨h.1,by rw[qk];exact h.2,z5o.of_eq x4x,trivial⟩⟩
def Xsd{α:Type}(f:α->Tree)(k:Nat)(l:List α)(lo:Int):Px (0<=lo/\lo<=(l.length:Int)):=
 ⟨oV (VL k f (l.drop lo.toNat)),[0<=lo,lo<=(((l.map f).length:Nat):Int),z5o (.t (.lst k ((l.map f).drop lo.toNat))) (VL k f (l.drop lo.toNat))],fun h=>⟨h.1,by rw[qk];exact h.2,z5o.of_eq x4w,trivial⟩⟩
def Xsb{α:Type}(f:α->Tree)(k:Nat)(l:List α)(lo hi:Int):Px (0<=lo/\lo<=hi/\hi<=(l.length:Int)):=
 ⟨oV (VL k f ((l.take hi.toNat).drop lo.toNat)),[0<=lo,lo<=hi,hi<=(((l.map f).length:Nat):Int),z5o (.t (.lst k (((l.map f).take hi.toNat).drop lo.toNat))) (VL k f ((l.take hi.toNat).drop lo.toNat))],
  fun h=>⟨h.1,h.2.1,by rw[qk];exact h.2.2,z5o.of_eq x4y,trivial⟩⟩
def z0Y{p:Prop}{α:Type}(f:α->Tree)(o:List α)(x:Px p):Px p:=⟨x.o,(o.length=(o.map f).length)::x.cs,fun h=>⟨qk _|>.symm,x.h h⟩⟩
theorem lm{α:Type}{n:Nat}{f:α->Tree}{o:List α}(h:n=o.length:=by first|with_reducible rfl|omega| (simp;done)| (simp[-List.getD_eq_getElem?_getD];omega)| (simp;omega)):n=(o.map f).length:=by rw[qk];exact h
def x7X{p:Prop}{α:Type}(n:Nat)(f:α->Tree)(o:List α)(x:Px p)(h:n=o.length:=by first|omega| (simp;done)| (simp[-List.getD_eq_getElem?_getD];omega)| (simp;omega)):Px p:=⟨x.o,(n=(o.map f).length)::x.cs,fun hp=>⟨by rw[qk];exact h,x.h hp⟩⟩
def Xen{α:Type}[Inhabited α](n:Nat)(f:α->Tree)(o:List α)(i:Nat):Px (n=o.length/\i<o.length):=
 ⟨oE (f (o.getD i default)),[n=(o.map f).length,(o.map f)[i]? =some (f (o.getD i default))],fun h=>⟨by rw[qk];exact h.1,y05 h.2,trivial⟩⟩
def Xpn{α:Type}(n:Nat)(f:α->Tree)(o:List α)(j:Int):Px (n=o.length/\0<=j/\j< (n:Int)):=
 ⟨Orc.no,[n=(o.map f).length,0<=j,j< (n:Int)],fun h=>⟨by rw[qk];exact h.1,h.2.1,h.2.2,trivial⟩⟩
def Xsn{α:Type}[Inhabited α](n k:Nat)(f:α->Tree)(id:Nat)(o:List α)(i:Nat)(x:α)(g:List (Nat×Ob):=[]):Px (n=o.length/\i<o.length):=
 ⟨⟨none,some (g++[(id,.row k false ((o.set i x).map f))]),some (f (o.getD i default)),none,[]⟩,
  [n=(o.map f).length,(o.map f)[i]? =some (f (o.getD i default)),g++[(id,Ob.row k false ((o.set i x).map f))]=g++[(id,Ob.row k false ((o.map f).set i (f x)))]],
  fun h=>⟨by rw[qk];exact h.1,y05 h.2,by rw[y88 rfl],trivial⟩⟩
def Xb(s:ByteArray)(j:Int):Px (0<=j/\j< (s.size:Int)):=⟨Orc.no,[0<=j,j< (s.size:Int)],fun h=>⟨h.1,h.2,trivial⟩⟩
def Xan{α:Type}(f:α->Tree)(id:Nat)(ys:List α):Px (ys.length<=1099511627776):=
 ⟨oV (.row id ys.length),[(ys.map f).length<=1099511627776,z5o (.row id (ys.map f).length) (.row id ys.length)],fun h=>⟨by rw[qk];exact h,z5o.of_eq (by rw[qk]),trivial⟩⟩
def Xap{α:Type}(k:Nat)(f:α->Tree)(id:Nat)(o ys:List α):Px (o.length+ys.length<=1099511627776):=
 ⟨⟨some (.row id (o++ys).length),some [(id,.row k false ((o++ys).map f))],none,none,[]⟩,
  [o.length=(o.map f).length,o.length+(ys.map f).length<=1099511627776,z5o (.row id (o.length+(ys.map f).length)) (.row id (o++ys).length),[(id,Ob.row k false ((o++ys).map f))]=[(id,Ob.row k false (o.map f++ys.map f))]],
  fun h=>⟨qk _|>.symm,by rw[qk];exact h,z5o.of_eq (by simp),z94 rfl,trivial⟩⟩
def x7K{α:Type}(k:Nat)(f:α->Tree)(id:Nat)(o ys:List α):Px (o.length+ys.length<=8589934592):=
 ⟨⟨some (.row id (o++ys).length),some [(id,.row k false ((o++ys).map f))],none,none,[]⟩,
  [o.length=(o.map f).length,o.length+(ys.map f).length<=8589934592,z5o (.row id (o.length+(ys.map f).length)) (.row id (o++ys).length),[(id,Ob.row k false ((o++ys).map f))]=[(id,Ob.row k false (o.map f++ys.map f))]],
  fun h=>⟨qk _|>.symm,by rw[qk];exact h,z5o.of_eq (by simp),z94 rfl,trivial⟩⟩
def Xmk{α:Type}(k:Nat)(f:α->Tree)(id:Nat)(n m:Int)(z:α):Px (0<=n/\n<=m/\m<=1099511627776):=
 ⟨⟨none,some [(id,.row k false ((List.replicate n.toNat z).map f))],none,none,[]⟩,[0<=n,n<=m,m<=1099511627776,[(id,Ob.row k false ((List.replicate n.toNat z).map f))]=[(id,Ob.row k false (List.replicate n.toNat (f z)))]],
  fun h=>⟨h.1,h.2.1,h.2.2,by rw[List.map_replicate],trivial⟩⟩
def Xmz{α:Type}(k:Nat)(f:α->Tree)(id:Nat)(n m:Int)(z:α)(zs:List Tree)(hz:TWs zs (f z).cells):Px (0<=n/\n<=m/\m<=1099511627776):=
 ⟨⟨none,some [(id,.row k false ((List.replicate n.toNat z).map f))],some (f z),none,[]⟩,[0<=n,n<=m,m<=1099511627776,TWs zs (f z).cells,[(id,Ob.row k false ((List.replicate n.toNat z).map f))]=[(id,Ob.row k false (List.replicate n.toNat (f z)))]],
  fun h=>⟨h.1,h.2.1,h.2.2,hz,by rw[List.map_replicate],trivial⟩⟩
def x9t{α:Type}(k:Nat)(f:α->Tree)(id:Nat)(n m:Int)(z:α)(zs:List Tree)(hz:TWs zs (f z).cells):Px (0<=n/\n<=m/\m<=8589934592):=
 ⟨⟨none,some [(id,.row k false ((List.replicate n.toNat z).map f))],some (f z),none,[]⟩,[0<=n,n<=m,m<=8589934592,TWs zs (f z).cells,[(id,Ob.row k false ((List.replicate n.toNat z).map f))]=[(id,Ob.row k false (List.replicate n.toNat (f z)))]],
  fun h=>⟨h.1,h.2.1,h.2.2,hz,by rw[List.map_replicate],trivial⟩⟩
def x9G:Px True:=⟨⟨none,none,some (.sc (.bool true)),none,[]⟩,[],fun _=>trivial⟩
def Xf(l:List (Nat×Nat)):Px True:=⟨⟨none,none,none,none,l⟩,[],fun _=>trivial⟩
def Xtl{α:Type}(f:α->Tree)(n:Nat)(o:List α)(l:Int):Px (n=o.length/\0<=l/\l<=(n:Int)):=
 ⟨⟨none,none,none,none,[(0,0)]⟩,[n=(o.map f).length,0<=l,l<=(n:Int)],fun h=>⟨by rw[qk];exact h.1,h.2.1,h.2.2,trivial⟩⟩
def rpC(e:Bool):Nat->List Prop->List Prop
 |0,l=>l
 |k+1,l=>(e=true)::rpC e k l
theorem y9h{e:Bool}(he:e=true){l:List Prop}(h:All l):∀k,All (rpC e k l)
 |0=>h
 |k+1=>⟨he,y9h he h k⟩
def Xv{p:Prop}(k:Nat)(e:Bool)(x:Px p)(h:e=true->p:=by first| (intro _;with_reducible exact True.intro)| (intro hg;(try simp[-List.getD_eq_getElem?_getD] at hg);first|omega| (and_intros<;>first|omega|with_reducible rfl|with_reducible assumption|with_reducible exact True.intro| (simp only[qk];omega)| (simp[-List.getD_eq_getElem?_getD];omega)| (simp;omega)| (simp[hg];done)))):Ox:=
 ⟨x.o,gdC e (rpC e k x.cs),y9g fun he=>y9h he (x.h (h he)) k⟩
def Xk(g:Bool):Px True:=⟨Orc.no,[g=true->g=true],fun _=>⟨id,trivial⟩⟩
def Xk'(g:Bool):Px True:=⟨Orc.no,[g=false->(!g)=true],fun _=>⟨fun h=>by simp[h],trivial⟩⟩
def Xka(e g:Bool):Ox:=⟨Orc.no,[e=true->e=true,e=true->g=true->(e&&g)=true],⟨id,fun h k=>by rw[h,k];rfl,trivial⟩⟩
def Xko(e g:Bool):Ox:=⟨Orc.no,[e=true->e=true,e=true->g=false->(e&& !g)=true],⟨id,fun h k=>by rw[h,k];rfl,trivial⟩⟩
theorem FC.nil{f:FuncId}{args:List AVal}{res:AVal}{st st':z0m}(i k:Nat)(h:FC P f args st res st')(hi:args[i]? =some (.t (.lst k [])):=by kernel_rfl)(hk:Nat.blt 0 k=true:=by kernel_rfl):FC P f (args.set i VN) st res st':=by
 intro F m w us hS hl hv
 refine h F m w us hS (by simpa using hl) (fun j v u hj hu=> ?_)
 by_cases e:i=j
 ·subst e
  rw[hi] at hj
  cases hj
  have hlt:=(qt.1 hi).1
  have:=hv i VN u (by simp[hlt]) hu
  exact y87 (q9 (qv hk)) _ _ _ _ _ this
 ·exact hv j v u (by rw[List.getElem?_set_ne e];exact hj) hu
def Xc0{p:Prop}{f:FuncId}{args:List AVal}{res:AVal}(h:FC P f args emp res emp)(x:Px p)(hc:z1C P f=true:=by kernel_rfl):Px p:=
 ⟨⟨none,none,none,some ⟨0,[],res,[]⟩,[]⟩,(z1C P f=true)::(x.cs++[FC P f args emp res emp]),fun hp=>⟨hc,z8Y.2 ⟨x.h hp,h,trivial⟩⟩⟩
def z2Y:Nat->List (Nat×Ob)->List (Nat×Nat)->List (Nat×Nat)
 |_,[],_=>[]
 |nid,(i,_)::l,τ=>match lk τ i with
  |some _=>z2Y nid l τ
  |none=>(i,nid)::z2Y (nid+1) l τ
def orL{α:Type}(o:Option (List α)):List α:=o.getD []
def orV(o:Option AVal):AVal:=o.getD .junk
def ck1(τ:List (Nat×Nat))(res:AVal)(l1:List (Nat×Ob)):Bool:=z2K (τ.map (·.1))&&z2K (τ.map (·.2))&&(z0A τ (app emp l1) τ).isSome&&(z3D τ res).isSome
theorem y2H{args:List AVal}(h:z75 [] args=some args):z75 (inv []) args=some args:=h
theorem FC.fresh{f:FuncId}{args:List AVal}{res:AVal}{l1:List (Nat×Ob)}(τ:List (Nat×Nat))(h:FC P f args emp res (app emp l1))(ha:z75 [] args=some args)(hk:ck1 τ res l1=true):
 FC P f args emp (orV (z3D τ res)) (app emp (orL (z0A τ (app emp l1) τ))):=by
 simp only[ck1,qm] at hk
 obtain⟨⟨⟨k1,k2⟩,k3⟩,k4⟩:=hk
 obtain⟨l',e3⟩:=zf.1 k3
 obtain⟨r',e4⟩:=zf.1 k4
 refine FC.ren (l0:=[]) (l0':=[]) h [] τ (by simp[z2K,k1,k2]) rfl (y2H ha) rfl ?_ ?_
 ·rw[e3];rfl
 ·rw[e4];rfl
def Xc1{p:Prop}{f:FuncId}{args:List AVal}{res:AVal}{l1:List (Nat×Ob)}(nid:Nat)(h:FC P f args emp res (app emp l1))(x:Px p)(ha:z75 [] args=some args:=by kernel_rfl)
 (hk:ck1 (z2Y nid l1 []) res l1=true:=by kernel_rfl) (hc:z1C P f=true:=by kernel_rfl):Px p:=
 ⟨⟨none,none,none,some ⟨1,[],orV (z3D (z2Y nid l1 []) res),orL (z0A (z2Y nid l1 []) (app emp l1) (z2Y nid l1 []))⟩,[]⟩,
  (z1C P f=true)::(x.cs++[FC P f args emp (orV (z3D (z2Y nid l1 []) res)) (app emp (orL (z0A (z2Y nid l1 []) (app emp l1) (z2Y nid l1 []))))]),
  fun hp=>⟨hc,z8Y.2 ⟨x.h hp,FC.fresh _ h ha hk,trivial⟩⟩⟩
def x7Y:List (Nat×Nat)->List Nat
 | []=>[]
 | (_,j)::l=>j::x7Y l
def ck3(τ0 τ:List (Nat×Nat))(args:List AVal)(l0:List (Nat×Ob))(res:AVal)(l1:List (Nat×Ob)):Bool:=
 (z2K (τ0.map (·.1))&&z2K (τ0.map (·.2))&&z2K (τ.map (·.1))&&z2K (τ.map (·.2))&&τ0.all (fun p=>match lk τ p.1 with|some j=>Nat.beq j p.2|none=>false))&&
  (orL (z0A τ0 (app emp l0) τ0)).all (fun x=>z2A (τ0.map (·.2)) x.1)&&(z0A τ (app emp l1) τ).isSome&&(z3D τ res).isSome&&
  (orL (z0A τ0 (app emp l0) τ0)).all (fun x=>z2A ((orL (z0A τ (app emp l1) τ)).map (·.1)) x.1)
theorem y5E{a b:List (Nat×Ob)}(h:∀x∈a,x.1∈b.map (·.1)):app (app emp a) b=app emp b:=by
 funext i
 by_cases hi:i∈b.map (·.1)
 ·exact y5n (.inl hi)
 ·rw[z16 hi,z16 hi]
  refine z16 (fun hm=> ?_)
  obtain⟨x,hx,rfl⟩:=qI.1 hm
  exact hi (h x hx)
theorem FC.obj{f:FuncId}{args:List AVal}{res:AVal}{l0 l1:List (Nat×Ob)}(τ0 τ:List (Nat×Nat))(h:FC P f args (app emp l0) res (app emp l1))(hk:ck3 τ0 τ args l0 res l1=true)
 (h0:z0A (inv τ0) (app emp (orL (z0A τ0 (app emp l0) τ0))) (inv τ0)=some l0) (ha:z75 (inv τ0) (orL (z75 τ0 args))=some args):
 FC P f (orL (z75 τ0 args)) (app emp (orL (z0A τ0 (app emp l0) τ0))) (orV (z3D τ res)) (app (app emp (orL (z0A τ0 (app emp l0) τ0))) (orL (z0A τ (app emp l1) τ))):=by
 simp only[ck3,qm] at hk
 obtain⟨⟨⟨⟨k1,k2⟩,k3⟩,k4⟩,k5⟩:=hk
 obtain⟨l',e3⟩:=zf.1 k3
 obtain⟨r',e4⟩:=zf.1 k4
 rw[y5E (fun x hx=>z0S.1 (qN.1 k5 x hx))]
 refine FC.ren h τ0 τ (by simp only[qm];exact k1) h0 ha k2 ?_ ?_
 ·rw[e3];rfl
 ·rw[e4];rfl
def Xc3{p:Prop}{f:FuncId}{args:List AVal}{res:AVal}{l0 l1:List (Nat×Ob)}(nid:Nat)(τ0:List (Nat×Nat))(h:FC P f args (app emp l0) res (app emp l1))(x:Px p)
 (hk:ck3 τ0 (τ0++z2Y nid l1 τ0) args l0 res l1=true:=by kernel_rfl)
 (h0:z0A (inv τ0) (app emp (orL (z0A τ0 (app emp l0) τ0))) (inv τ0)=some l0:=by kernel_rfl) (ha:z75 (inv τ0) (orL (z75 τ0 args))=some args:=by kernel_rfl) (hc:z1C P f=true:=by kernel_rfl):Px p:=
 ⟨⟨none,none,none,some ⟨3,x7Y τ0,orV (z3D (τ0++z2Y nid l1 τ0) res),orL (z0A (τ0++z2Y nid l1 τ0) (app emp l1) (τ0++z2Y nid l1 τ0))⟩,[]⟩,
  [z1C P f=true,FC P f (orL (z75 τ0 args)) (app emp (orL (z0A τ0 (app emp l0) τ0))) (orV (z3D (τ0++z2Y nid l1 τ0) res)) (app (app emp (orL (z0A τ0 (app emp l0) τ0))) (orL (z0A (τ0++z2Y nid l1 τ0) (app emp l1) (τ0++z2Y nid l1 τ0))))],
  fun hp=>⟨hc,FC.obj _ _ h hk h0 ha,trivial⟩⟩
theorem FC.objr{f:FuncId}{args:List AVal}{res:AVal}{l0:List (Nat×Ob)}(τ0:List (Nat×Nat))(h:FC P f args (app emp l0) res (app emp l0))(hk:ck3 τ0 τ0 args l0 res l0=true)
 (h0:z0A (inv τ0) (app emp (orL (z0A τ0 (app emp l0) τ0))) (inv τ0)=some l0) (ha:z75 (inv τ0) (orL (z75 τ0 args))=some args):
 FC P f (orL (z75 τ0 args)) (app emp (orL (z0A τ0 (app emp l0) τ0))) (orV (z3D τ0 res)) (app (app emp (orL (z0A τ0 (app emp l0) τ0))) []):=by
 have:=FC.obj τ0 τ0 h hk h0 ha
 simp only[ck3,qm] at hk
 rw[y5E (fun x hx=>z0S.1 (qN.1 hk.2 x hx))] at this
 exact this
def Xc4{p:Prop}{f:FuncId}{args:List AVal}{res:AVal}{l0:List (Nat×Ob)}(τ0:List (Nat×Nat))(h:FC P f args (app emp l0) res (app emp l0))(x:Px p)
 (hk:ck3 τ0 τ0 args l0 res l0=true:=by kernel_rfl)
 (h0:z0A (inv τ0) (app emp (orL (z0A τ0 (app emp l0) τ0))) (inv τ0)=some l0:=by kernel_rfl) (ha:z75 (inv τ0) (orL (z75 τ0 args))=some args:=by kernel_rfl) (hc:z1C P f=true:=by kernel_rfl):Px p:=
 ⟨⟨none,none,none,some ⟨3,x7Y τ0,orV (z3D τ0 res),[]⟩,[]⟩,
  [z1C P f=true,FC P f (orL (z75 τ0 args)) (app emp (orL (z0A τ0 (app emp l0) τ0))) (orV (z3D τ0 res)) (app (app emp (orL (z0A τ0 (app emp l0) τ0))) [])],
  fun hp=>⟨hc,FC.objr _ h hk h0 ha,trivial⟩⟩
theorem pr{α β:Type}{a b:α}{c d:β}(h:a=b)(k:c=d):(a,c)=(b,d):=by rw[h,k]
theorem x12{z:Int}(h:0<=z/\z<=2147483647):IntKind.i32.wrap z=z:=by unfold IntKind.wrap;simp[IntKind.bits,IntKind.signed];omega
def Xcv(k:IntKind)(z:Int):Px (k.wrap z=z):=⟨oV (.t (.sc (.int k z))),[z5o (.t (.sc (.int k (k.wrap z)))) (.t (.sc (.int k z)))],fun h=>⟨z5o.of_eq (by rw[h]),trivial⟩⟩
def x9H(k:IntKind)(y z:Int):Px (y=z):=⟨oV (.t (.sc (.int k z))),[z5o (.t (.sc (.int k y))) (.t (.sc (.int k z)))],fun h=>⟨z5o.of_eq (by rw[h]),trivial⟩⟩
def Xsh(k:IntKind)(b y z:Int):Px (0<=b/\y=z):=⟨oV (.t (.sc (.int k z))),[0<=b,z5o (.t (.sc (.int k y))) (.t (.sc (.int k z)))],fun h=>⟨h.1,z5o.of_eq (by rw[h.2]),trivial⟩⟩
end Go.Ab
end
section
namespace Go.Ch
open Go Go.Ab
structure Attr where
 name:ByteArray
 val:ByteArray
abbrev mt:ByteArray:={data:=#[]}
instance:Inhabited Attr:=⟨⟨mt,mt⟩⟩
def z0a(a:Attr):Tree:= .agg [.sc (.string a.name),.sc (.string a.val)]
theorem y9i{a b:ByteArray}(h:a.toList=b.toList):a=b:=by
 rw[ByteArray.toList_eq,ByteArray.toList_eq] at h
 obtain⟨⟨x⟩⟩:=a
 obtain⟨⟨y⟩⟩:=b
 simpa using h
theorem z0M{a b:ByteArray}:seq a b=true↔a=b:=by
 unfold seq
 rw[beq_iff_eq]
 exact⟨y9i,fun h=>by rw[h]⟩
theorem z1V{a b:ByteArray}:seq a b=false↔a≠b:=by
 rw[<-Bool.not_eq_true,z0M]
theorem x3v:∀x:List UInt8,Op.bytesLess x x=false
 | []=>rfl
 |a::x=>by simp[Op.bytesLess,x3v x]
theorem y5F:∀x y z:List UInt8,Op.bytesLess x y=true->Op.bytesLess y z=true->Op.bytesLess x z=true
 |_,_,[],_,h=>by cases‹List UInt8›<;>simp[Op.bytesLess] at h
 | [],_,_::_,_,_=>rfl
 |a::x,[],_::_,h,_=>by simp[Op.bytesLess] at h
 |a::x,b::y,c::z,h1,h2=>by
  simp only[Op.bytesLess,qH,decide_eq_true_eq,qm,beq_iff_eq,UInt8.lt_iff_toNat_lt,<-UInt8.toNat_inj] at h1 h2|-
  rcases h1 with h1| ⟨h1,h1'⟩
  ·rcases h2 with h2| ⟨h2,h2'⟩<;>(left;omega)
  ·rcases h2 with h2| ⟨h2,h2'⟩
   ·left;omega
   ·right;exact⟨by omega,y5F x y z h1' h2'⟩
theorem x3w:∀x y:List UInt8,Op.bytesLess x y=false->Op.bytesLess y x=false->x=y
 | [],[],_,_=>rfl
 | [],_::_,h,_=>by simp[Op.bytesLess] at h
 |_::_,[],_,h=>by simp[Op.bytesLess] at h
 |a::x,b::y,h1,h2=>by
  simp only[Op.bytesLess,zu,decide_eq_false_iff_not,Bool.and_eq_false_iff,beq_eq_false_iff_ne,UInt8.lt_iff_toNat_lt,ne_eq,<-UInt8.toNat_inj] at h1 h2
  have e:a.toNat=b.toNat:=by omega
  have h1':Op.bytesLess x y=false:=by rcases h1.2 with h|h;exact absurd e h;exact h
  have h2':Op.bytesLess y x=false:=by rcases h2.2 with h|h;exact absurd e.symm h;exact h
  rw[UInt8.toNat_inj.1 e,x3w x y h1' h2']
theorem y4j(a:ByteArray):slt a a=false:=x3v _
theorem z37{a b c:ByteArray}(h:slt a b=true)(k:slt b c=true):slt a c=true:=y5F _ _ _ h k
theorem y4k{a b:ByteArray}(h:slt a b=false)(k:slt b a=false):a=b:=y9i (x3w _ _ h k)
theorem z2Z{a b:ByteArray}(h:slt a b=true):a≠b:=fun e=>by subst e;rw[y4j] at h;cases h
theorem y9j{a b:ByteArray}(h:slt a b=true):slt b a=false:=by
 cases k:slt b a with
 |false=>rfl
 |true=>have:=z37 h k;rw[y4j] at this;cases this
def z9P(n:ByteArray)(l:List Attr):Prop:=∀a∈l,slt n a.name=true
def z3E:List Attr->Prop
 | []=>True
 |a::l=>z9P a.name l/\z3E l
def look:List Attr->ByteArray->Option ByteArray
 | [],_=>none
 |a::l,n=>if a.name=n then some a.val else look l n
theorem z1q{l:List Attr}{n:ByteArray}(h:∀a∈l,a.name≠n):look l n=none:=by
 induction l with
 |nil=>rfl
 |cons a l ih=>rw[look,if_neg (h a (by simp))];exact ih (fun b hb=>h b (by simp[hb]))
theorem x13{l:List Attr}{n v:ByteArray}(h:look l n=some v):(⟨n,v⟩:Attr)∈l:=by
 induction l with
 |nil=>cases h
 |cons a l ih=>
  rw[look] at h
  split at h
  ·rename_i hn
   cases h
   subst hn
   exact zF
  ·exact qU _ (ih h)
theorem y4l{l:List Attr}(hs:z3E l){a:Attr}(h:a∈l):look l a.name=some a.val:=by
 induction l with
 |nil=>cases h
 |cons b l ih=>
  rw[look]
  rcases qg.1 h with rfl|h
  ·rw[if_pos rfl]
  ·rw[if_neg (z2Z (hs.1 a h))];exact ih hs.2 h
theorem z97:∀{a b:List Attr},z3E a->z3E b->(∀n,look a n=look b n)->a=b
 | [],[],_,_,_=>rfl
 | [],y::b,_,_,h=>by have:=h y.name;simp[look] at this
 |x::a,[],_,_,h=>by have:=h x.name;simp[look] at this
 |x::a,y::b,ha,hb,h=>by
  have hxy:x.name=y.name:=by
   refine y4k ?_ ?_
   ·cases k:slt x.name y.name with
    |false=>rfl
    |true=>
     have h1:=h x.name
     rw[look,if_pos rfl,look,if_neg (fun e=>z2Z k e.symm),z1q (fun z hz e=>z2Z (z37 k (hb.1 z hz)) e.symm)] at h1
     cases h1
   ·cases k:slt y.name x.name with
    |false=>rfl
    |true=>
     have h1:=h y.name
     rw[look,if_neg (fun e=>z2Z k e.symm),z1q (fun z hz e=>z2Z (z37 k (ha.1 z hz)) e.symm),look,if_pos rfl] at h1
     cases h1
  have hv:x.val=y.val:=by
   have h1:=h x.name
   rw[look,if_pos rfl,look,if_pos hxy.symm] at h1
   exact Option.some.inj h1
  have e:x=y:=by cases x;cases y;simp_all
  subst e
  rw[z97 ha.2 hb.2 (fun n=> ?_)]
  by_cases hn:x.name=n
  ·subst hn
   rw[z1q (fun z hz e=>z2Z (ha.1 z hz) e.symm),z1q (fun z hz e=>z2Z (hb.1 z hz) e.symm)]
  ·have h1:=h n
   rwa [look,if_neg hn,look,if_neg hn] at h1
def z2g:List Attr->List Attr->List (Attr×Attr)
 | [],[]=>[]
 | [],y::b=>(default,y)::z2g [] b
 |x::a,[]=>(x,default)::z2g a []
 |x::a,y::b=>
  if slt x.name y.name=true then(x,default)::z2g a (y::b)
  else if slt y.name x.name=true then(default,y)::z2g (x::a) b
  else(x,y)::z2g a b
termination_by a b=>a.length+b.length
theorem y9k:∀a b:List Attr,(z2g a b).length<=a.length+b.length:=by
 intro a b
 induction a,b using z2g.induct with
 |case1=>simp[z2g]
 |case2 y b ih=>simp only[z2g,qi] at ih|-;omega
 |case3 x a ih=>simp only[z2g,qi] at ih|-;omega
 |case4 x a y b h ih=>rw[z2g,if_pos h];simp only[qi] at ih|-;omega
 |case5 x a y b h k ih=>rw[z2g,if_neg h,if_pos k];simp only[qi] at ih|-;omega
 |case6 x a y b h k ih=>rw[z2g,if_neg h,if_neg k];simp only[qi] at ih|-;omega
def x4B(l:List Attr):Prop:=∀a∈l,a.name≠mt
def x6f(g:Attr->Attr->Option Attr):Prop:=∀x y z,g x y=some z->z.name=if y.name=mt then x.name else y.name
def fm(g:Attr->Attr->Option Attr)(a b:List Attr):List Attr:=(z2g a b).filterMap fun p=>g p.1 p.2
def at2(g:Attr->Attr->Option Attr)(n:ByteArray):Option ByteArray->Option ByteArray->Option ByteArray
 |none,none=>none
 |some v,none=>(g ⟨n,v⟩ default).map (·.val)
 |none,some w=>(g default ⟨n,w⟩).map (·.val)
 |some v,some w=>(g ⟨n,v⟩ ⟨n,w⟩).map (·.val)
theorem z3m{g:Attr->Attr->Option Attr}{x y:Attr}{l:List (Attr×Attr)}:((x,y)::l).filterMap (fun p=>g p.1 p.2)=(g x y).toList++l.filterMap (fun p=>g p.1 p.2):=by
 rw[List.filterMap_cons]
 cases g x y<;>rfl
theorem z6G{o:Option Attr}{l:List Attr}{k n:ByteArray}(h:∀z,o=some z->z.name=k):look (o.toList++l) n=if k=n then(o.map (·.val)).or (look l n) else look l n:=by
 cases o with
 |none=>simp
 |some z=>
  have:=h z rfl
  subst this
  simp[look]
theorem z44{o:Option Attr}{l:List Attr}{k n:ByteArray}(h:∀z,o=some z->z.name=k)(hn:slt n k=true)(hl:z9P n l):z9P n (o.toList++l):=by
 intro a ha
 rcases qj.1 ha with ha|ha
 ·rw[h a (by simpa using ha)];exact hn
 ·exact hl a ha
theorem z38{o:Option Attr}{l:List Attr}{k:ByteArray}(h:∀z,o=some z->z.name=k)(hl:z9P k l)(hs:z3E l):z3E (o.toList++l):=by
 cases o with
 |none=>exact hs
 |some z=>exact⟨by rw[h z rfl];exact hl,hs⟩
theorem y07{a:Attr}{l:List Attr}:look (a::l) a.name=some a.val:=by rw[look,if_pos rfl]
theorem y08{a:Attr}{l:List Attr}{n:ByteArray}(h:a.name≠n):look (a::l) n=look l n:=by rw[look,if_neg h]
theorem y9l{g:Attr->Attr->Option Attr}(hg:x6f g):∀(a b:List Attr),z3E a->z3E b->x4B a->x4B b->
 z3E (fm g a b)/\(∀n,z9P n a->z9P n b->z9P n (fm g a b))/\∀n,look (fm g a b) n=at2 g n (look a n) (look b n):=by
 intro a b
 induction a,b using z2g.induct with
 |case1=>intro _ _ _ _;exact⟨by simp[fm,z2g,z3E],fun n _ _=>by simp[fm,z2g,z9P],fun n=>by simp[fm,z2g,look,at2]⟩
 |case2 y b ih=>
  intro _ hb _ nb
  obtain⟨i1,i2,i3⟩:=ih trivial hb.2 (fun _ h=>by cases h) (fun a h=>nb a (by simp[h]))
  have hk:∀z,g default y=some z->z.name=y.name:=fun z hz=>by rw[hg _ _ z hz,if_neg (nb y (by simp))]
  have e:fm g [] (y::b)=(g default y).toList++fm g [] b:=by unfold fm;rw[z2g,z3m]
  rw[e]
  refine⟨z38 hk (i2 _ (fun _ h=>by cases h) hb.1) i1,fun n h1 h2=>z44 hk (h2 y (by simp)) (i2 n h1 (fun a h=>h2 a (by simp[h]))),fun n=> ?_⟩
  rw[z6G hk,i3]
  simp only[look]
  by_cases h:y.name=n
  ·subst h
   rw[z1q (l:=b) (fun z hz e=>z2Z (hb.1 z hz) e.symm)]
   simp[at2]
  ·simp only[if_neg h]
 |case3 x a ih=>
  intro ha _ na _
  obtain⟨i1,i2,i3⟩:=ih ha.2 trivial (fun a h=>na a (by simp[h])) (fun _ h=>by cases h)
  have hk:∀z,g x default=some z->z.name=x.name:=fun z hz=>by rw[hg _ _ z hz];exact if_pos rfl
  have e:fm g (x::a) []=(g x default).toList++fm g a []:=by unfold fm;rw[z2g,z3m]
  rw[e]
  refine⟨z38 hk (i2 _ ha.1 (fun _ h=>by cases h)) i1,fun n h1 h2=>z44 hk (h1 x (by simp)) (i2 n (fun a h=>h1 a (by simp[h])) h2),fun n=> ?_⟩
  rw[z6G hk,i3]
  simp only[look]
  by_cases h:x.name=n
  ·subst h
   rw[z1q (l:=a) (fun z hz e=>z2Z (ha.1 z hz) e.symm)]
   simp[at2]
  ·simp only[if_neg h]
 |case4 x a y b h ih=>
  intro ha hb na nb
  obtain⟨i1,i2,i3⟩:=ih ha.2 hb (fun a h=>na a (by simp[h])) nb
  have hk:∀z,g x default=some z->z.name=x.name:=fun z hz=>by rw[hg _ _ z hz];exact if_pos rfl
  have e:fm g (x::a) (y::b)=(g x default).toList++fm g a (y::b):=by unfold fm;rw[z2g,if_pos h,z3m]
  have hxb:z9P x.name (y::b):=fun z hz=>by
   rcases qg.1 hz with rfl|hz
   ·exact h
   ·exact z37 h (hb.1 z hz)
  rw[e]
  refine⟨z38 hk (i2 _ ha.1 hxb) i1,fun n h1 h2=>z44 hk (h1 x (by simp)) (i2 n (fun a h=>h1 a (by simp[h])) h2),fun n=> ?_⟩
  rw[z6G hk,i3]
  by_cases hn:x.name=n
  ·subst hn
   rw[z1q (l:=y::b) (fun z hz e=>z2Z (hxb z hz) e.symm),z1q (l:=a) (fun z hz e=>z2Z (ha.1 z hz) e.symm),y07]
   simp[at2]
  ·rw[if_neg hn,y08 hn]
 |case5 x a y b h k ih=>
  intro ha hb na nb
  obtain⟨i1,i2,i3⟩:=ih ha hb.2 na (fun a h=>nb a (by simp[h]))
  have hk:∀z,g default y=some z->z.name=y.name:=fun z hz=>by rw[hg _ _ z hz,if_neg (nb y (by simp))]
  have e:fm g (x::a) (y::b)=(g default y).toList++fm g (x::a) b:=by unfold fm;rw[z2g,if_neg h,if_pos k,z3m]
  have hya:z9P y.name (x::a):=fun z hz=>by
   rcases qg.1 hz with rfl|hz
   ·exact k
   ·exact z37 k (ha.1 z hz)
  rw[e]
  refine⟨z38 hk (i2 _ hya hb.1) i1,fun n h1 h2=>z44 hk (h2 y (by simp)) (i2 n h1 (fun a h=>h2 a (by simp[h]))),fun n=> ?_⟩
  rw[z6G hk,i3]
  by_cases hn:y.name=n
  ·subst hn
   rw[z1q (l:=x::a) (fun z hz e=>z2Z (hya z hz) e.symm),z1q (l:=b) (fun z hz e=>z2Z (hb.1 z hz) e.symm),y07]
   simp[at2]
  ·rw[if_neg hn,y08 (a:=y) hn]
 |case6 x a y b h k ih=>
  intro ha hb na nb
  obtain⟨i1,i2,i3⟩:=ih ha.2 hb.2 (fun a h=>na a (by simp[h])) (fun a h=>nb a (by simp[h]))
  have hxy:x.name=y.name:=y4k (by simpa using h) (by simpa using k)
  have hk:∀z,g x y=some z->z.name=x.name:=fun z hz=>by rw[hg _ _ z hz,if_neg (nb y (by simp)),hxy]
  have e:fm g (x::a) (y::b)=(g x y).toList++fm g a b:=by unfold fm;rw[z2g,if_neg h,if_neg k,z3m]
  rw[e]
  refine⟨z38 hk (i2 _ ha.1 (by rw[hxy];exact hb.1)) i1,fun n h1 h2=>z44 hk (h1 x (by simp)) (i2 n (fun a h=>h1 a (by simp[h])) (fun a h=>h2 a (by simp[h]))),fun n=> ?_⟩
  rw[z6G hk,i3]
  by_cases hn:x.name=n
  ·subst hn
   have ey:(⟨x.name,y.val⟩:Attr)=y:=by rw[hxy]
   have hl:look (y::b) x.name=some y.val:=by rw[hxy];exact y07
   rw[hl,y07,z1q (l:=a) (fun z hz e=>z2Z (ha.1 z hz) e.symm),z1q (l:=b) (fun z hz e=>z2Z (hb.1 z hz) (by rw[<-hxy,e]))]
   simp[at2,ey]
  ·rw[if_neg hn,y08 hn,y08 (a:=y) (by rw[<-hxy];exact hn)]
theorem y7q:(default:Attr)=⟨mt,mt⟩:=rfl
def z2e(x y:Attr):Option Attr:=if y.name=mt then some x else if y.val=mt then none else some y
def z7p(x y:Attr):Option Attr:=some (if y.name=mt then x else y)
def z3N(x y:Attr):Option Attr:=if y.name=mt then some x else none
theorem z6H:x6f z2e:=by intro x y z h;unfold z2e at h;(repeat' split at h)<;>simp_all
theorem x14:x6f z7p:=by intro x y z h;unfold z7p at h;(repeat' split at h)<;>simp_all
theorem y5G:x6f z3N:=by intro x y z h;unfold z3N at h;(repeat' split at h)<;>simp_all
section
variable (NP VP:ByteArray->Prop)
def Q(e:Bool)(n v:ByteArray):Prop:=NP n/\(VP v\/(e=true/\v=mt))
def V(e:Bool)(l:List Attr):Prop:=z3E l/\∀a∈l,Q NP VP e a.name a.val
end
section
variable {NP VP:ByteArray->Prop} (hN:¬NP mt) (hV:¬VP mt)
include hN
theorem V.named{e:Bool}{l:List Attr}(h:V NP VP e l):x4B l:=fun a ha e'=>hN (by have:=(h.2 a ha).1;rwa [e'] at this)
omit hN in
theorem V.look{e:Bool}{l:List Attr}(h:V NP VP e l){n v:ByteArray}(hl:look l n=some v):Q NP VP e n v:=h.2 ⟨n,v⟩ (x13 hl)
theorem z8Z{e1 e2:Bool}{g:Attr->Attr->Option Attr}(hg:x6f g){a b:List Attr}(ha:V NP VP e1 a)(hb:V NP VP e2 b)(n:ByteArray):
 Go.Ch.look (fm g a b) n=at2 g n (Go.Ch.look a n) (Go.Ch.look b n):=(y9l hg a b ha.1 hb.1 (ha.named hN) (hb.named hN)).2.2 n
theorem x7Z{e1 e2 e3:Bool}{g:Attr->Attr->Option Attr}(hg:x6f g){a b:List Attr}(ha:V NP VP e1 a)(hb:V NP VP e2 b)
 (h1:∀n v z,n≠mt->Q NP VP e1 n v->at2 g n (some v) none=some z->Q NP VP e3 n z)
 (h2:∀n v z,n≠mt->Q NP VP e2 n v->at2 g n none (some v)=some z->Q NP VP e3 n z)
 (h3:∀n v w z,n≠mt->Q NP VP e1 n v->Q NP VP e2 n w->at2 g n (some v) (some w)=some z->Q NP VP e3 n z):V NP VP e3 (fm g a b):=by
 have hm:=y9l hg a b ha.1 hb.1 (ha.named hN) (hb.named hN)
 refine⟨hm.1,fun z hz=> ?_⟩
 have hl:=y4l hm.1 hz
 rw[hm.2.2] at hl
 have hq:∀{e v},Q NP VP e z.name v->z.name≠mt:=fun q e=>hN (e▸q.1)
 cases h4:Go.Ch.look a z.name with
 |none=>
  cases h5:Go.Ch.look b z.name with
  |none=>rw[h4,h5] at hl;cases hl
  |some w=>rw[h4,h5] at hl;exact h2 _ _ _ (hq (hb.look h5)) (hb.look h5) hl
 |some v=>
  cases h5:Go.Ch.look b z.name with
  |none=>rw[h4,h5] at hl;exact h1 _ _ _ (hq (ha.look h4)) (ha.look h4) hl
  |some w=>rw[h4,h5] at hl;exact h3 _ _ _ _ (hq (ha.look h4)) (ha.look h4) (hb.look h5) hl
theorem x9u{e:Bool}{n v:ByteArray}(h:Q NP VP e n v):n≠mt:=fun e=>hN (e▸h.1)
theorem y2I{l c:List Attr}(hl:V NP VP false l)(hc:V NP VP true c):V NP VP false (fm z2e l c):=by
 refine x7Z hN z6H hl hc (fun n v z hn q h=> ?_) (fun n v z hn q h=> ?_) (fun n v w z hn q r h=> ?_)
 ·simp[at2,z2e,y7q] at h;subst h;exact q
 ·simp[at2,z2e,y7q,hn] at h;obtain⟨_,⟨h1,rfl⟩,rfl⟩:=h;simp_all[Q]
 ·simp[at2,z2e,y7q,hn] at h;obtain⟨_,⟨h1,rfl⟩,rfl⟩:=h;simp_all[Q]
theorem x6v{a b:List Attr}(ha:V NP VP true a)(hb:V NP VP true b):V NP VP true (fm z7p a b):=by
 refine x7Z hN x14 ha hb (fun n v z hn q h=> ?_) (fun n v z hn q h=> ?_) (fun n v w z hn q r h=> ?_)
 ·simp[at2,z7p,y7q] at h;subst h;exact q
 ·simp[at2,z7p,y7q,hn] at h;subst h;exact q
 ·simp[at2,z7p,y7q,hn] at h;subst h;exact r
theorem x15{a b:List Attr}(ha:V NP VP true a)(hb:V NP VP true b):V NP VP true (fm z3N a b):=by
 refine x7Z hN y5G ha hb (fun n v z hn q h=> ?_) (fun n v z hn q h=> ?_) (fun n v w z hn q r h=> ?_)
 ·simp[at2,z3N,y7q] at h;subst h;exact q
 ·simp[at2,z3N,y7q,hn] at h
 ·simp[at2,z3N,y7q,hn] at h
include hV
omit hV in
theorem z98{l a b:List Attr}(hl:V NP VP false l)(ha:V NP VP true a)(hb:V NP VP true b):fm z2e (fm z2e l a) b=fm z2e (fm z2e l b) (fm z3N a b):=by
 have h1:=y2I hN hl ha
 have h2:=y2I hN hl hb
 have h3:=x15 hN ha hb
 refine z97 (y2I hN h1 hb).1 (y2I hN h2 h3).1 (fun n=> ?_)
 rw[z8Z hN z6H h1 hb,z8Z hN z6H h2 h3,z8Z hN z6H hl ha,z8Z hN z6H hl hb,z8Z hN y5G ha hb]
 cases k2:look a n with
 |none=>
  cases k3:look b n with
  |none=>cases look l n<;>simp[at2,z2e,y7q]
  |some w=>
   have hn:=x9u hN (hb.look k3)
   by_cases hw:w=mt<;>cases look l n<;>simp[at2,z2e,z3N,y7q,hn,hw]
 |some v=>
  have hn:=x9u hN (ha.look k2)
  cases k3:look b n with
  |none=>by_cases hv:v=mt<;>cases look l n<;>simp[at2,z2e,z3N,y7q,hn,hv]
  |some w=>by_cases hv:v=mt<;>by_cases hw:w=mt<;>cases look l n<;>simp[at2,z2e,z3N,y7q,hn,hv,hw]
end
end Go.Ch
end
section
set_option maxRecDepth 100000
set_option maxHeartbeats 4000000
open Go Go.Proofs Go.Ab
namespace Go.Ch
theorem z4J{s:ByteArray}:seq s {data:=#[]}=decide (s.size=0):=by
 by_cases h:s.size=0
 ·rw[decide_eq_true h,z0M]
  obtain⟨⟨l⟩⟩:=s
  cases l with
  |nil=>rfl
  |cons a l=>simp[ByteArray.size] at h
 ·rw[decide_eq_false h,z1V]
  intro e;subst e;exact h rfl
theorem y09{s:ByteArray}(h:seq s {data:=#[]}=false):(0:Int)< (s.size:Int):=by
 rw[z4J,decide_eq_false_iff_not] at h;omega
def byt(s:ByteArray)(i:Nat):Nat:=((s[i]?).getD 0).toNat
def x3x(b:Nat):Prop:=(b<97\/122<b)/\(b<48\/57<b)/\b≠46/\b≠45
instance (b:Nat):Decidable (x3x b):=by unfold x3x;infer_instance
def nmS(s:ByteArray)(i:Nat):Bool:=if i<s.size then(if x3x (byt s i) then false else nmS s (i+1)) else true
termination_by s.size-i
def z12(s:ByteArray):Bool:=decide (1<=s.size/\s.size<=24/\97<=byt s 0/\byt s 0<=122)&&nmS s 0
def vlS(s:ByteArray)(i:Nat):Bool:=if i<s.size then(if byt s i<32\/126<byt s i then false else vlS s (i+1)) else true
termination_by s.size-i
def z17(s:ByteArray):Bool:=decide (1<=s.size/\s.size<=200)&&vlS s 0
def nmR(s:ByteArray)(i:Nat):Bool:=if i<s.size then(if(byt s i<97\/122<byt s i)/\(i=0\/(byt s i≠46/\byt s i≠45/\(byt s i<48\/57<byt s i))) then false else nmR s (i+1)) else true
termination_by s.size-i
def y9m(s:ByteArray):Bool:=nmR s 0&&decide (1<=s.size/\s.size<=24)
def x4C(s:ByteArray):Bool:=vlS s 0&&decide (1<=s.size/\s.size<=200)
theorem x4D(s:ByteArray)(i:Nat)(h:0<i):nmR s i=nmS s i:=by
 induction i using nmS.induct (s:=s) with
 |case1 i hi hb=>rw[nmR,nmS,if_pos hi,if_pos hi,if_pos hb,if_pos];unfold x3x at hb;omega
 |case2 i hi hb ih=>rw[nmR,nmS,if_pos hi,if_pos hi,if_neg hb,if_neg];exact ih (by omega);unfold x3x at hb;omega
 |case3 i hi=>rw[nmR,nmS,if_neg hi,if_neg hi]
theorem y9n(s:ByteArray):y9m s=z12 s:=by
 unfold y9m z12
 by_cases h:1<=s.size
 ·rw[nmR,if_pos (by omega),x4D s (0+1) (by omega)]
  by_cases h2:97<=byt s 0/\byt s 0<=122
  ·have e:nmS s 0=nmS s (0+1):=by rw[nmS,if_pos (by omega),if_neg (by unfold x3x;omega)]
   rw[if_neg (by omega),e,Bool.and_comm]
   congr 1
   simp[h2]
  ·rw[if_pos (by omega),decide_eq_false (by omega:¬(1<=s.size/\s.size<=24/\97<=byt s 0/\byt s 0<=122))]
   simp
 ·rw[decide_eq_false (by omega),decide_eq_false (by omega)];simp
theorem x16(s:ByteArray):x4C s=z17 s:=by unfold x4C z17;rw[Bool.and_comm]
theorem x1w(s:ByteArray)(i:Nat):((s[i]?).getD 0).toNat=byt s i:=rfl
theorem y4m(s:ByteArray):FC Tryz.prog 196 [VS s] (app emp []) (VB (z12 s)) (app emp []):=by
 refine .go Tryz.f196 ?_
 refine .bp [.r [],.r [(4,Xv 1 (!(seq s ({data:=#[]}))) X0),(5,Xv 1 (!(seq s ({data:=#[]}))) X0),(6,X (Xk' (seq s ({data:=#[]})))),(9,Xv 1 (!(seq s ({data:=#[]})||decide ((s.size:Int)> 24))) (Xb s 0) (fun hg=>by(try simp only[decide_eq_true_eq,decide_eq_false_iff_not,Int.not_lt,Int.not_le,gt_iff_lt,ze,zw,qH,zu] at hg);exact⟨(by first|omega| (simp;omega)| (simp;done)|assumption),(y09 (by first|exact hg|exact hg.1|exact hg.1.1))⟩)),(10,Xv 1 (!(seq s ({data:=#[]})||decide ((s.size:Int)> 24))) X0),(11,X (Xk' (seq s ({data:=#[]})||decide ((s.size:Int)> 24)))),(14,Xv 1 (!((seq s ({data:=#[]})||decide ((s.size:Int)> 24))||decide (((((s[0]?).getD 0).toNat:Nat):Int)< 97))) (Xb s 0) (fun hg=>by(try simp only[decide_eq_true_eq,decide_eq_false_iff_not,Int.not_lt,Int.not_le,gt_iff_lt,ze,zw,qH,zu] at hg);exact⟨(by first|omega| (simp;omega)| (simp;done)|assumption),(y09 (by first|exact hg|exact hg.1|exact hg.1.1))⟩)),(15,Xv 1 (!((seq s ({data:=#[]})||decide ((s.size:Int)> 24))||decide (((((s[0]?).getD 0).toNat:Nat):Int)< 97))) X0),(16,X (Xk' ((seq s ({data:=#[]})||decide ((s.size:Int)> 24))||decide (((((s[0]?).getD 0).toNat:Nat):Int)< 97))))]] (((seq s ({data:=#[]})||decide ((s.size:Int)> 24))||decide (((((s[0]?).getD 0).toNat:Nat):Int)< 97))||decide (((((s[0]?).getD 0).toNat:Nat):Int)> 122)) (fun h1=> ?_) (fun h1=> ?_)
 ·
  have e1:((z12 s):Bool)=false:=by
   simp only[x1w,z4J,decide_eq_true_eq] at h1;unfold z12;rw[decide_eq_false (by omega)];rfl
  exact .finE [.r []] [] (fun z0:Bool=>(VB z0,[])) _ _ e1
 ·
  refine .loop (α:=Nat) [.r []] 168 (fun i=>([(0,VS s),(23,VI (s.size:Int)),(24,VI (i:Int))],[])) (fun i=>i<=s.size/\nmS s 0=nmS s i) (fun i=>s.size-i) (0:Nat) ?_ ?_
  ·
   exact⟨by omega,rfl⟩
  rintro i I4 ih4
  try dsimp only at I4
  refine .bp [.r []] (decide ((i:Int)< (s.size:Int))) (fun h4=> ?_) (fun h4=> ?_)
  ·
   refine .bp [.r [],.r [(2,X (Xb s (i:Int)))],.r [(4,Xv 1 (!(decide (((((s[i]?).getD 0).toNat:Nat):Int)< 97))) X0),(5,X (Xk' (decide (((((s[i]?).getD 0).toNat:Nat):Int)< 97)))),(8,Xv 1 (decide (((((s[i]?).getD 0).toNat:Nat):Int)< 97)||decide (((((s[i]?).getD 0).toNat:Nat):Int)> 122)) X0),(9,Xv 1 (decide (((((s[i]?).getD 0).toNat:Nat):Int)< 97)||decide (((((s[i]?).getD 0).toNat:Nat):Int)> 122)) X0),(11,Xv 1 ((decide (((((s[i]?).getD 0).toNat:Nat):Int)< 97)||decide (((((s[i]?).getD 0).toNat:Nat):Int)> 122))&& !(decide (((((s[i]?).getD 0).toNat:Nat):Int)< 48))) X0),(12,Xko (decide (((((s[i]?).getD 0).toNat:Nat):Int)< 97)||decide (((((s[i]?).getD 0).toNat:Nat):Int)> 122)) (decide (((((s[i]?).getD 0).toNat:Nat):Int)< 48))),(13,X (Xk (decide (((((s[i]?).getD 0).toNat:Nat):Int)< 97)||decide (((((s[i]?).getD 0).toNat:Nat):Int)> 122)))),(16,Xv 1 ((decide (((((s[i]?).getD 0).toNat:Nat):Int)< 97)||decide (((((s[i]?).getD 0).toNat:Nat):Int)> 122))&&(decide (((((s[i]?).getD 0).toNat:Nat):Int)< 48)||decide (((((s[i]?).getD 0).toNat:Nat):Int)> 57))) X0),(17,X (Xk ((decide (((((s[i]?).getD 0).toNat:Nat):Int)< 97)||decide (((((s[i]?).getD 0).toNat:Nat):Int)> 122))&&(decide (((((s[i]?).getD 0).toNat:Nat):Int)< 48)||decide (((((s[i]?).getD 0).toNat:Nat):Int)> 57))))),(20,Xv 1 (((decide (((((s[i]?).getD 0).toNat:Nat):Int)< 97)||decide (((((s[i]?).getD 0).toNat:Nat):Int)> 122))&&(decide (((((s[i]?).getD 0).toNat:Nat):Int)< 48)||decide (((((s[i]?).getD 0).toNat:Nat):Int)> 57)))&&(((((s[i]?).getD 0).toNat:Nat):Int) !=46)) X0),(21,X (Xk (((decide (((((s[i]?).getD 0).toNat:Nat):Int)< 97)||decide (((((s[i]?).getD 0).toNat:Nat):Int)> 122))&&(decide (((((s[i]?).getD 0).toNat:Nat):Int)< 48)||decide (((((s[i]?).getD 0).toNat:Nat):Int)> 57)))&&(((((s[i]?).getD 0).toNat:Nat):Int) !=46))))]] ((((decide (((((s[i]?).getD 0).toNat:Nat):Int)< 97)||decide (((((s[i]?).getD 0).toNat:Nat):Int)> 122))&&(decide (((((s[i]?).getD 0).toNat:Nat):Int)< 48)||decide (((((s[i]?).getD 0).toNat:Nat):Int)> 57)))&&(((((s[i]?).getD 0).toNat:Nat):Int) !=46))&&(((((s[i]?).getD 0).toNat:Nat):Int) !=45)) (fun h7=> ?_) (fun h7=> ?_)
   ·
    have e2:((z12 s):Bool)=false:=by
     simp only[x1w] at h7;unfold z12;rw[I4.2,nmS,if_pos (by omega),if_pos (by unfold x3x;omega)];simp
    exact .finE [.r []] [] (fun z0:Bool=>(VB z0,[])) _ _ e2
   ·
    refine .back [.r [(0,X (Xn ((i:Int)+1)))]] [] (ih4 ((i+1):Nat) ?_ ?_)
    ·
     simp only[x1w] at h7;refine⟨by omega,?_⟩;rw[I4.2,nmS,if_pos (by omega),if_neg (by unfold x3x;omega)]
    ·
     ((try dsimp only);omega)
  ·
   have e3:((z12 s):Bool)=true:=by
    simp only[x1w,z4J,decide_eq_false_iff_not] at h1;unfold z12;rw[I4.2,nmS,if_neg (by omega),decide_eq_true (by omega)];rfl
   exact .finE [.r []] [] (fun z0:Bool=>(VB z0,[])) _ _ e3
theorem z5v(s:ByteArray):FC Tryz.prog 122 [VS s] (app emp []) (VB (z17 s)) (app emp []):=by
 refine .go Tryz.f122 ?_
 refine .bp [.r [],.r [(4,Xv 1 (!(seq s ({data:=#[]}))) X0),(5,Xv 1 (!(seq s ({data:=#[]}))) X0),(6,X (Xk' (seq s ({data:=#[]}))))]] (seq s ({data:=#[]})||decide ((s.size:Int)> 200)) (fun h1=> ?_) (fun h1=> ?_)
 ·
  have e1:((z17 s):Bool)=false:=by
   simp only[z4J,decide_eq_true_eq] at h1;unfold z17;rw[decide_eq_false (by omega)];rfl
  exact .finE [.r []] [] (fun z0:Bool=>(VB z0,[])) _ _ e1
 ·
  refine .loop (α:=Nat) [.r []] 88 (fun i=>([(0,VS s),(12,VI (s.size:Int)),(13,VI (i:Int))],[])) (fun i=>i<=s.size/\vlS s 0=vlS s i) (fun i=>s.size-i) (0:Nat) ?_ ?_
  ·
   exact⟨by omega,rfl⟩
  rintro i I4 ih4
  try dsimp only at I4
  refine .bp [.r []] (decide ((i:Int)< (s.size:Int))) (fun h4=> ?_) (fun h4=> ?_)
  ·
   refine .bp [.r [],.r [(2,X (Xb s (i:Int))),(7,Xv 2 (!(decide (((((s[i]?).getD 0).toNat:Nat):Int)< 32))) (Xb s (i:Int))),(8,Xv 1 (!(decide (((((s[i]?).getD 0).toNat:Nat):Int)< 32))) X0),(9,X (Xk' (decide (((((s[i]?).getD 0).toNat:Nat):Int)< 32))))]] (decide (((((s[i]?).getD 0).toNat:Nat):Int)< 32)||decide (((((s[i]?).getD 0).toNat:Nat):Int)> 126)) (fun h6=> ?_) (fun h6=> ?_)
   ·
    have e2:((z17 s):Bool)=false:=by
     simp only[x1w] at h6;unfold z17;rw[I4.2,vlS,if_pos (by omega),if_pos (by omega)];simp
    exact .finE [.r []] [] (fun z0:Bool=>(VB z0,[])) _ _ e2
   ·
    refine .back [.r [(0,X (Xn ((i:Int)+1)))]] [] (ih4 ((i+1):Nat) ?_ ?_)
    ·
     simp only[x1w] at h6;refine⟨by omega,?_⟩;rw[I4.2,vlS,if_pos (by omega),if_neg (by omega)]
    ·
     ((try dsimp only);omega)
  ·
   have e3:((z17 s):Bool)=true:=by
    simp only[z4J,decide_eq_false_iff_not] at h1;unfold z17;rw[I4.2,vlS,if_neg (by omega),decide_eq_true (by omega)];rfl
   exact .finE [.r []] [] (fun z0:Bool=>(VB z0,[])) _ _ e3
def z1B(e:Bool)(l:List Attr)(i:Nat):Int:=
 if i<l.length then
  if z12 (l.getD i default).name=false then 9
  else if z17 (l.getD i default).val=false/\(e=false\/seq (l.getD i default).val {data:=#[]}=false) then 23
  else if 0<i/\(slt (l.getD i default).name (l.getD (i- 1) default).name=true\/seq (l.getD i default).name (l.getD (i- 1) default).name=true) then 5
  else z1B e l (i+1)
 else 0
termination_by l.length-i
def Szd(l:List Attr):Prop:=∀a∈l,a.name.size<=9223372036854775807/\a.val.size<=9223372036854775807
theorem x3y(l:List Attr)(e:Bool):FC Tryz.prog 133 [VL 2 z0a l,VB e] (app emp []) (VI (z1B e l 0)) (app emp []):=by
 refine .go Tryz.f133 ?_
 refine .len 0 (fun hl0=> ?_)
 refine .loop (α:=Nat) [.r [],.r [(1,X (Xl z0a l))]] 32 (fun i=>([(0,VL 2 z0a l),(1,VB e),(7,VL 2 z0a l),(8,VI (l.length:Int)),(9,VI (i:Int))],[])) (fun i=>i<=l.length/\z1B e l 0=z1B e l i) (fun i=>l.length-i) (0:Nat) ?_ ?_
 ·
  exact⟨by omega,rfl⟩
 rintro i I2 ih2
 try dsimp only at I2
 refine .bp [.r []] (decide ((i:Int)< (l.length:Int))) (fun h2=> ?_) (fun h2=> ?_)
 ·
  refine .bp [.r [(1,X (Xi z0a l (i:Int)))],.r [(2,X (Xc0 (y4m (((l.getD i default)).name)) X0))]] (!(z12 (((l.getD i default)).name))) (fun h4=> ?_) (fun h4=> ?_)
  ·
   have e1:((z1B e l 0):Int)=9:=by
    rw[I2.2,z1B,if_pos (by omega),if_pos h4]
   exact .finE [.r []] [] (fun z0:Int=>(VI z0,[])) _ _ e1
  ·
   refine .bp [.r [(2,X (Xc0 (z5v (((l.getD i default)).val)) X0)),(6,Xv 1 (!(z17 (((l.getD i default)).val))) X0),(8,Xv 1 ((!(z17 (((l.getD i default)).val)))&&e) X0),(9,Xv 1 ((!(z17 (((l.getD i default)).val)))&&e) X0),(10,Xka (!(z17 (((l.getD i default)).val))) e),(11,Xv 1 (!(z17 (((l.getD i default)).val))) X0),(12,X (Xk (!(z17 (((l.getD i default)).val)))))]] (!(z17 (((l.getD i default)).val))&& !(e&&seq (((l.getD i default)).val) ({data:=#[]}))) (fun h6=> ?_) (fun h6=> ?_)
   ·
    have e2:((z1B e l 0):Int)=23:=by
     rw[I2.2,z1B,if_pos (by omega),if_neg (by rw[h4];decide),if_pos h6]
    exact .finE [.r []] [] (fun z0:Int=>(VI z0,[])) _ _ e2
   ·
    refine .bp [.r [(4,Xv 1 (decide ((i:Int)> 0)) X0),(7,Xv 1 (decide ((i:Int)> 0)) (Xn ((i:Int)- 1))),(8,Xv 2 (decide ((i:Int)> 0)) (Xi' z0a l ((i:Int)- 1) (i- 1))),(9,Xv 1 (decide ((i:Int)> 0)) X0),(10,Xv 1 (decide ((i:Int)> 0)) X0),(11,Xv 2 (decide ((i:Int)> 0)) X0),(12,X (Xk (decide ((i:Int)> 0))))]] (decide ((i:Int)> 0)&&(slt (((l.getD i default)).name) (((l.getD (i- 1) default)).name)||seq (((l.getD i default)).name) (((l.getD (i- 1) default)).name))) (fun h8=> ?_) (fun h8=> ?_)
    ·
     have e3:((z1B e l 0):Int)=5:=by
      rw[I2.2,z1B,if_pos (by omega),if_neg (by rw[h4];decide),if_neg (by clear ih2;rintro⟨a,b⟩;simp_all),if_pos ⟨by omega,h8.2⟩]
     exact .finE [.r []] [] (fun z0:Int=>(VI z0,[])) _ _ e3
    ·
     refine .back [.r [(0,X (Xn ((i:Int)+1)))]] [] (ih2 ((i+1):Nat) ?_ ?_)
     ·
      refine⟨by omega,?_⟩;rw[I2.2,z1B,if_pos (by omega),if_neg (by rw[h4];decide),if_neg (by clear ih2;rintro⟨a,b⟩;simp_all),if_neg (by clear ih2;rintro⟨a,b⟩;rcases h8 with h| ⟨h,h2⟩;omega;rcases b with b|b<;>simp_all)]
     ·
      ((try dsimp only);omega)
 ·
  have e4:((z1B e l 0):Int)=0:=by
   rw[I2.2,z1B,if_neg (by omega)]
  exact .finE [.r []] [] (fun z0:Int=>(VI z0,[])) _ _ e4
theorem z39(l:List Attr):FC Tryz.prog 74 [VL 2 z0a l] (app emp []) (VI (z1B false l 0)) (app emp []):=by
 refine .go Tryz.f74 ?_
 refine .len 0 (fun hl0=> ?_)
 exact .fin [.r [],.r [(1,X (Xc0 (x3y l false) X0))]] []
theorem z03(l:List Attr):FC Tryz.prog 68 [VL 2 z0a l] (app emp []) (VI (z1B true l 0)) (app emp []):=by
 refine .go Tryz.f68 ?_
 refine .len 0 (fun hl0=> ?_)
 exact .fin [.r [],.r [(1,X (Xc0 (x3y l true) X0))]] []
def x7L(e:Bool)(l:List Attr)(i:Nat):Int:=
 if i<l.length then
  if y9m (l.getD i default).name=false then 9
  else if x4C (l.getD i default).val=false/\(e=false\/seq (l.getD i default).val {data:=#[]}=false) then 23
  else if 0<i/\slt (l.getD (i- 1) default).name (l.getD i default).name=false then 5
  else x7L e l (i+1)
 else 0
termination_by l.length-i
theorem x3z(a b:ByteArray):(slt a b=true\/seq a b=true)↔slt b a=false:=by
 constructor
 ·rintro(h|h)
  ·exact y9j h
  ·rw[z0M] at h;subst h;exact y4j _
 ·intro h
  cases k:slt a b with
  |true=>exact .inl rfl
  |false=>exact .inr (z0M.2 (y4k k h))
theorem z4u(e:Bool)(l:List Attr):∀(n i:Nat),l.length-i=n->x7L e l i=z1B e l i
 |0,i,h=>by rw[x7L,z1B,if_neg (by omega),if_neg (by omega)]
 |n+1,i,h=>by
  have hi:i<l.length:=by omega
  rw[x7L,z1B,if_pos hi,if_pos hi,z4u e l n (i+1) (by omega)]
  simp only[y9n,x16,x3z]
def z45(a b:List Attr)(i:Nat):Bool:=
 if i<a.length then(if(a.getD i default).name=(b.getD i default).name/\(a.getD i default).val=(b.getD i default).val then z45 a b (i+1) else false) else true
termination_by a.length-i
def z0O(a b:List Attr):Bool:=decide (a.length=b.length)&&z45 a b 0
def z19(l:List Attr)(n:ByteArray)(i:Nat):ByteArray:=
 if i<l.length then(if(l.getD i default).name=n then(l.getD i default).val else z19 l n (i+1)) else mt
termination_by l.length-i
theorem z7q{l:List Attr}{i:Nat}(h:i<l.length):l.drop i=l.getD i default::l.drop (i+1):=by
 rw[zi h];simp[List.getD,qb h]
theorem z8j{l:List Attr}{i:Nat}(h:¬i<l.length):l.drop i=[]:=qM (by omega)
theorem x9I{g:Attr->Attr->Option Attr}{a b:List Attr}{i j:Nat}(hi:i<a.length)(h:b.length<=j\/slt (a.getD i default).name (b.getD j default).name=true):
 fm g (a.drop i) (b.drop j)=(g (a.getD i default) ⟨mt,mt⟩).toList++fm g (a.drop (i+1)) (b.drop j):=by
 unfold fm
 rw[z7q hi]
 by_cases hj:j<b.length
 ·rw[z7q hj,z2g,if_pos (by rcases h with h|h;omega;exact h),z3m];rfl
 ·rw[z8j hj,z2g,z3m];rfl
theorem x9J{g:Attr->Attr->Option Attr}{a b:List Attr}{i j:Nat}(hj:j<b.length)(h0:i<a.length->slt (a.getD i default).name (b.getD j default).name=false)(h:a.length<=i\/slt (b.getD j default).name (a.getD i default).name=true):
 fm g (a.drop i) (b.drop j)=(g ⟨mt,mt⟩ (b.getD j default)).toList++fm g (a.drop i) (b.drop (j+1)):=by
 unfold fm
 rw[z7q hj]
 by_cases hi:i<a.length
 ·rw[z7q hi,z2g,if_neg (by rw[h0 hi];decide),if_pos (by rcases h with h|h;omega;exact h),z3m];rfl
 ·rw[z8j hi,z2g,z3m];rfl
theorem x70{g:Attr->Attr->Option Attr}{a b:List Attr}{i j:Nat}(hi:i<a.length)(hj:j<b.length)(h0:slt (a.getD i default).name (b.getD j default).name=false)(h:slt (b.getD j default).name (a.getD i default).name=false):
 fm g (a.drop i) (b.drop j)=(g (a.getD i default) (b.getD j default)).toList++fm g (a.drop (i+1)) (b.drop (j+1)):=by
 unfold fm
 rw[z7q hi,z7q hj,z2g,if_neg (by rw[h0];decide),if_neg (by rw[h];decide),z3m]
theorem x3A{g:Attr->Attr->Option Attr}{a b:List Attr}{i j:Nat}(hi:a.length<=i)(hj:b.length<=j):fm g (a.drop i) (b.drop j)=[]:=by
 unfold fm
 rw[z8j (by omega),z8j (by omega),z2g];rfl
theorem z80{o:Option Attr}:o.toList.length<=1:=by cases o<;>simp
theorem z47(a b:List Attr):FC Tryz.prog 55 [VL 2 z0a a,VL 2 z0a b] (app emp []) (VB (z0O a b)) (app emp []):=by
 refine .go Tryz.f55 ?_
 refine .len 0 (fun hl0=> ?_)
 refine .len 1 (fun hl1=> ?_)
 refine .bp [.r [],.r [(1,X (Xl z0a a)),(3,X (Xl z0a b))]] ((a.length:Int) !=(b.length:Int)) (fun h1=> ?_) (fun h1=> ?_)
 ·
  have e1:((z0O a b):Bool)=false:=by
   unfold z0O;rw[decide_eq_false (by omega)];rfl
  exact .finE [.r []] [] (fun z0:Bool=>(VB z0,[])) _ _ e1
 ·
  refine .loop (α:=Nat) [.r [(1,X (Xl z0a a))]] 72 (fun i=>([(0,VL 2 z0a a),(1,VL 2 z0a b),(12,VI (a.length:Int)),(13,VI (i:Int))],[])) (fun i=>i<=a.length/\z45 a b 0=z45 a b i) (fun i=>a.length-i) (0:Nat) ?_ ?_
  ·
   exact⟨by omega,rfl⟩
  rintro i I4 ih4
  try dsimp only at I4
  refine .bp [.r []] (decide ((i:Int)< (a.length:Int))) (fun h4=> ?_) (fun h4=> ?_)
  ·
   refine .bp [.r [],.r [(2,X (Xi z0a a (i:Int))),(6,X (Xi z0a b (i:Int)))]] (!(seq (((a.getD i default)).name) (((b.getD i default)).name)&&(seq (((a.getD i default)).val) (((b.getD i default)).val)&&true))) (fun h6=> ?_) (fun h6=> ?_)
   ·
    have e2:((z0O a b):Bool)=false:=by
     unfold z0O;rw[I4.2,z45,if_pos (by omega),if_neg (by clear ih4;simp only[z1V,z0M] at h6;rintro⟨x,y⟩;simp_all)];simp
    exact .finE [.r []] [] (fun z0:Bool=>(VB z0,[])) _ _ e2
   ·
    refine .back [.r [(0,X (Xn ((i:Int)+1)))]] [] (ih4 ((i+1):Nat) ?_ ?_)
    ·
     refine⟨by omega,?_⟩;rw[I4.2,z45,if_pos (by omega),if_pos (by clear ih4;simp only[z1V,z0M] at h6;simp_all)]
    ·
     ((try dsimp only);omega)
  ·
   have e3:((z0O a b):Bool)=true:=by
    unfold z0O;rw[I4.2,z45,if_neg (by omega),decide_eq_true (by omega)];rfl
   exact .finE [.r []] [] (fun z0:Bool=>(VB z0,[])) _ _ e3
theorem z7P(l:List Attr)(n:ByteArray):FC Tryz.prog 127 [VL 2 z0a l,VS n] (app emp []) (VS (z19 l n 0)) (app emp []):=by
 refine .go Tryz.f127 ?_
 refine .len 0 (fun hl0=> ?_)
 refine .loop (α:=Nat) [.r [],.r [(1,X (Xl z0a l))]] 32 (fun i=>([(1,VS n),(7,VL 2 z0a l),(8,VI (l.length:Int)),(9,VI (i:Int))],[])) (fun i=>i<=l.length/\z19 l n 0=z19 l n i) (fun i=>l.length-i) (0:Nat) ?_ ?_
 ·
  exact⟨by omega,rfl⟩
 rintro i I2 ih2
 try dsimp only at I2
 refine .bp [.r []] (decide ((i:Int)< (l.length:Int))) (fun h2=> ?_) (fun h2=> ?_)
 ·
  refine .bp [.r [(0,X (Xi z0a l (i:Int)))],.r []] (seq (((l.getD i default)).name) n) (fun h4=> ?_) (fun h4=> ?_)
  ·
   have e1:((z19 l n 0):ByteArray)=((l.getD i default)).val:=by
    rw[I2.2,z19,if_pos (by omega),if_pos (z0M.1 h4)]
   exact .finE [.r []] [] (fun z0:ByteArray=>(VS z0,[])) _ _ e1
  ·
   refine .back [.r [(0,X (Xn ((i:Int)+1)))]] [] (ih2 ((i+1):Nat) ?_ ?_)
   ·
    refine⟨by omega,?_⟩;rw[I2.2,z19,if_pos (by omega),if_neg (z1V.1 h4)]
   ·
    ((try dsimp only);omega)
 ·
  have e2:((z19 l n 0):ByteArray)={data:=#[]}:=by
   rw[I2.2,z19,if_neg (by omega)]
  exact .finE [.r []] [] (fun z0:ByteArray=>(VS z0,[])) _ _ e2
theorem y4n(f:FuncId)(g:Attr->Attr->Option Attr)(hfc:z1C Tryz.prog f=true)(hf:∀(o:List Attr) (x y:Attr),o.length<1099511627776->FC Tryz.prog f [.t (z0a x),.t (z0a y),.ptr 0 0] (app emp [(0,.box [.row 1 o.length]),(1,.row 2 false (List.map z0a o))]) (.tup []) (app emp [(0,.box [.row 1 (o++(g x y).toList).length]),(1,.row 2 false (List.map z0a (o++(g x y).toList)))]))(a b o:List Attr)(hn:o.length+a.length+b.length<1099511627776):FC Tryz.prog 104 [VL 2 z0a a,VL 2 z0a b,.fn f [.ptr 0 0]] (app emp [(0,.box [.row 1 o.length]),(1,OR 2 z0a o)]) (.tup []) (app emp [(0,.box [.row 1 ((o++fm g a b).length)]),(1,OR 2 z0a (o++fm g a b))]):=by
 refine .go Tryz.f104 ?_
 refine .len 0 (fun hl0=> ?_)
 refine .len 1 (fun hl1=> ?_)
 refine .loop (α:=Nat×Nat×(List Attr)) [.r []] 18 (fun(i,j,p)=>([(0,VL 2 z0a a),(1,VL 2 z0a b),(2,.fn f [.ptr 0 0]),(6,VI (i:Int)),(7,VI (j:Int))],[(0,.box [.row 1 p.length]),(1,OR 2 z0a p)])) (fun(i,j,p)=>i<=a.length/\j<=b.length/\p.length<=o.length+i+j/\o++fm g a b=p++fm g (a.drop i) (b.drop j)) (fun(i,j,p)=>(a.length-i)+(b.length-j)) (0,0,o) ?_ ?_
 ·
  exact⟨by omega,by omega,by omega,rfl⟩
 rintro⟨i,j,p⟩ I1 ih1
 try dsimp only at I1
 refine .bp [.r [(2,X (Xl z0a a)),(7,Xv 1 (!(decide ((i:Int)< (a.length:Int)))) (Xl z0a b)),(8,Xv 2 (!(decide ((i:Int)< (a.length:Int)))) X0),(9,X (Xk' (decide ((i:Int)< (a.length:Int)))))]] (decide ((i:Int)< (a.length:Int))||decide ((j:Int)< (b.length:Int))) (fun h1=> ?_) (fun h1=> ?_)
 ·
  refine .bp [.r [(2,X (Xl z0a b)),(7,Xv 1 (!((j:Int)==(b.length:Int))) (Xl z0a a)),(8,Xv 2 (!((j:Int)==(b.length:Int))) X0),(9,Xv 1 (!((j:Int)==(b.length:Int))) X0),(12,Xv 2 ((!((j:Int)==(b.length:Int)))&&(decide ((i:Int)< (a.length:Int)))) (Xi z0a a (i:Int))),(13,Xv 1 ((!((j:Int)==(b.length:Int)))&&(decide ((i:Int)< (a.length:Int)))) X0),(14,Xv 1 ((!((j:Int)==(b.length:Int)))&&(decide ((i:Int)< (a.length:Int)))) X0),(17,Xv 2 ((!((j:Int)==(b.length:Int)))&&(decide ((i:Int)< (a.length:Int)))) (Xi z0a b (j:Int))),(18,Xv 1 ((!((j:Int)==(b.length:Int)))&&(decide ((i:Int)< (a.length:Int)))) X0),(19,Xv 1 ((!((j:Int)==(b.length:Int)))&&(decide ((i:Int)< (a.length:Int)))) X0),(20,Xv 2 ((!((j:Int)==(b.length:Int)))&&(decide ((i:Int)< (a.length:Int)))) X0),(21,Xka (!((j:Int)==(b.length:Int))) (decide ((i:Int)< (a.length:Int)))),(22,X (Xk' ((j:Int)==(b.length:Int))))]] (((j:Int)==(b.length:Int))|| (decide ((i:Int)< (a.length:Int))&&slt (((a.getD i default)).name) (((b.getD j default)).name))) (fun h4=> ?_) (fun h4=> ?_)
  ·
   refine .back [.r [(3,X (Xi z0a a (i:Int))),(6,X (Xc3 338 [(0,0),(1,1)] (hf p ((a.getD i default)) ({name:={data:=#[]},val:={data:=#[]}}:Attr) (by first|omega| (simp;omega))) X0 (hc:=hfc)))],.r [(1,X (Xn ((i:Int)+1)))]] [(0,0),(1,1)] (ih1 ((i+1),j,(p++(g ((a.getD i default)) ({name:={data:=#[]},val:={data:=#[]}}:Attr)).toList)) ?_ ?_)
   ·
    have hi:i<a.length:=by omega
    have hg:=z80 (o:=g (a.getD i default) ⟨{data:=#[]},{data:=#[]}⟩)
    have e:=x9I (g:=g) (a:=a) (b:=b) (j:=j) hi (by rcases h4 with h|h;(left;omega);exact .inr h.2)
    refine⟨by omega,by omega,by simp only[qf];omega,?_⟩
    rw[I1.2.2.2,e,qO]
   ·
    ((try dsimp only);omega)
  ·
   refine .bp [.r [(2,X (Xl z0a a)),(7,Xv 2 (!((i:Int)==(a.length:Int))) (Xi z0a b (j:Int))),(8,Xv 1 (!((i:Int)==(a.length:Int))) X0),(9,Xv 1 (!((i:Int)==(a.length:Int))) X0),(12,Xv 2 (!((i:Int)==(a.length:Int))) (Xi z0a a (i:Int))),(13,Xv 1 (!((i:Int)==(a.length:Int))) X0),(14,Xv 1 (!((i:Int)==(a.length:Int))) X0),(15,Xv 2 (!((i:Int)==(a.length:Int))) X0),(16,X (Xk' ((i:Int)==(a.length:Int))))]] (((i:Int)==(a.length:Int))||slt (((b.getD j default)).name) (((a.getD i default)).name)) (fun h7=> ?_) (fun h7=> ?_)
   ·
    refine .back [.r [(4,X (Xi z0a b (j:Int))),(6,X (Xc3 482 [(0,0),(1,1)] (hf p ({name:={data:=#[]},val:={data:=#[]}}:Attr) ((b.getD j default)) (by first|omega| (simp;omega))) X0 (hc:=hfc)))],.r [(1,X (Xn ((j:Int)+1)))]] [(0,0),(1,1)] (ih1 (i,(j+1),(p++(g ({name:={data:=#[]},val:={data:=#[]}}:Attr) ((b.getD j default))).toList)) ?_ ?_)
    ·
     have hj:j<b.length:=by omega
     have hg:=z80 (o:=g ⟨{data:=#[]},{data:=#[]}⟩ (b.getD j default))
     have e:=x9J (g:=g) (a:=a) (b:=b) (i:=i) hj (fun hi=>by rcases h4.2 with h|h;omega;exact h) (by rcases h7 with h|h;(left;omega);exact .inr h)
     refine⟨by omega,by omega,by simp only[qf];omega,?_⟩
     rw[I1.2.2.2,e,qO]
    ·
     ((try dsimp only);omega)
   ·
    refine .back [.r [(3,X (Xi z0a a (i:Int))),(7,X (Xi z0a b (j:Int))),(9,X (Xc3 506 [(0,0),(1,1)] (hf p ((a.getD i default)) ((b.getD j default)) (by first|omega| (simp;omega))) X0 (hc:=hfc)))],.r [(1,X (Xn ((i:Int)+1))),(3,X (Xn ((j:Int)+1)))]] [(0,0),(1,1)] (ih1 ((i+1),(j+1),(p++(g ((a.getD i default)) ((b.getD j default))).toList)) ?_ ?_)
    ·
     have hi:i<a.length:=by omega
     have hj:j<b.length:=by omega
     have hg:=z80 (o:=g (a.getD i default) (b.getD j default))
     have e:=x70 (g:=g) (a:=a) (b:=b) hi hj (by rcases h4.2 with h|h;omega;exact h) h7.2
     refine⟨by omega,by omega,by simp only[qf];omega,?_⟩
     rw[I1.2.2.2,e,qO]
    ·
     ((try dsimp only);omega)
 ·
  have e1:((o++fm g a b).length:Nat)=p.length:=by
   rw[I1.2.2.2,x3A (by omega) (by omega),qQ]
  have e2:((o++fm g a b):List Attr)=p:=by
   rw[I1.2.2.2,x3A (by omega) (by omega),qQ]
  exact .finE [] [(0,0),(1,1)] (fun((z0,z1):Nat×(List Attr))=>(.tup [],[(0,.box [.row 1 z0]),(1,OR 2 z0a z1)])) _ _ (pr e1 e2)
theorem x4E(o:List Attr)(x y:Attr)(hn:o.length<1099511627776):FC Tryz.prog 105 [.t (z0a x),.t (z0a y),.ptr 0 0] (app emp [(0,.box [.row 1 o.length]),(1,OR 2 z0a o)]) (.tup []) (app emp [(0,.box [.row 1 ((o++(z2e x y).toList).length)]),(1,OR 2 z0a (o++(z2e x y).toList))]):=by
 refine .go Tryz.f105 ?_
 refine .bp [.r [],.r []] (seq y.name ({data:=#[]})) (fun h1=> ?_) (fun h1=> ?_)
 ·
  have e1:((o++(z2e x y).toList).length:Nat)=(o++[x]).length:=by
   simp only[z0M,z1V] at*;unfold z2e;(repeat' split)<;>simp_all
  have e2:((o++(z2e x y).toList):List Attr)=(o++[x]):=by
   simp only[z0M,z1V] at*;unfold z2e;(repeat' split)<;>simp_all
  exact .finE [.r [(3,X (z0Y z0a [x] (Xap 2 z0a 1 o [x])))]] [(0,0),(1,1)] (fun((z0,z1):Nat×(List Attr))=>(.tup [],[(0,.box [.row 1 z0]),(1,OR 2 z0a z1)])) _ _ (pr e1 e2)
 ·
  refine .bp [.r []] (!(seq y.val ({data:=#[]}))) (fun h3=> ?_) (fun h3=> ?_)
  ·
   have e3:((o++(z2e x y).toList).length:Nat)=(o++[y]).length:=by
    simp only[z0M,z1V] at*;unfold z2e;(repeat' split)<;>simp_all
   have e4:((o++(z2e x y).toList):List Attr)=(o++[y]):=by
    simp only[z0M,z1V] at*;unfold z2e;(repeat' split)<;>simp_all
   exact .finE [.r [(3,X (z0Y z0a [y] (Xap 2 z0a 1 o [y])))]] [(0,0),(1,1)] (fun((z0,z1):Nat×(List Attr))=>(.tup [],[(0,.box [.row 1 z0]),(1,OR 2 z0a z1)])) _ _ (pr e3 e4)
  ·
   have e5:((o++(z2e x y).toList).length:Nat)=o.length:=by
    simp only[z0M,z1V] at*;unfold z2e;(repeat' split)<;>simp_all
   have e6:((o++(z2e x y).toList):List Attr)=o:=by
    simp only[z0M,z1V] at*;unfold z2e;(repeat' split)<;>simp_all
   exact .finE [] [(0,0),(1,1)] (fun((z0,z1):Nat×(List Attr))=>(.tup [],[(0,.box [.row 1 z0]),(1,OR 2 z0a z1)])) _ _ (pr e5 e6)
theorem x4F(o:List Attr)(x y:Attr)(hn:o.length<1099511627776):FC Tryz.prog 145 [.t (z0a x),.t (z0a y),.ptr 0 0] (app emp [(0,.box [.row 1 o.length]),(1,OR 2 z0a o)]) (.tup []) (app emp [(0,.box [.row 1 ((o++(z3N x y).toList).length)]),(1,OR 2 z0a (o++(z3N x y).toList))]):=by
 refine .go Tryz.f145 ?_
 refine .bp [.r [],.r []] (seq y.name ({data:=#[]})) (fun h1=> ?_) (fun h1=> ?_)
 ·
  have e1:((o++(z3N x y).toList).length:Nat)=(o++[x]).length:=by
   simp only[z0M,z1V] at*;unfold z3N;(repeat' split)<;>simp_all
  have e2:((o++(z3N x y).toList):List Attr)=(o++[x]):=by
   simp only[z0M,z1V] at*;unfold z3N;(repeat' split)<;>simp_all
  exact .finE [.r [(3,X (z0Y z0a [x] (Xap 2 z0a 1 o [x])))]] [(0,0),(1,1)] (fun((z0,z1):Nat×(List Attr))=>(.tup [],[(0,.box [.row 1 z0]),(1,OR 2 z0a z1)])) _ _ (pr e1 e2)
 ·
  have e3:((o++(z3N x y).toList).length:Nat)=o.length:=by
   simp only[z0M,z1V] at*;unfold z3N;(repeat' split)<;>simp_all
  have e4:((o++(z3N x y).toList):List Attr)=o:=by
   simp only[z0M,z1V] at*;unfold z3N;(repeat' split)<;>simp_all
  exact .finE [] [(0,0),(1,1)] (fun((z0,z1):Nat×(List Attr))=>(.tup [],[(0,.box [.row 1 z0]),(1,OR 2 z0a z1)])) _ _ (pr e3 e4)
theorem x4G(o:List Attr)(x y:Attr)(hn:o.length<1099511627776):FC Tryz.prog 237 [.t (z0a x),.t (z0a y),.ptr 0 0] (app emp [(0,.box [.row 1 o.length]),(1,OR 2 z0a o)]) (.tup []) (app emp [(0,.box [.row 1 ((o++(z7p x y).toList).length)]),(1,OR 2 z0a (o++(z7p x y).toList))]):=by
 refine .go Tryz.f237 ?_
 refine .bp [.r [],.r []] (seq y.name ({data:=#[]})) (fun h1=> ?_) (fun h1=> ?_)
 ·
  have e1:((o++(z7p x y).toList).length:Nat)=(o++[x]).length:=by
   simp only[z0M,z1V] at*;unfold z7p;(repeat' split)<;>simp_all
  have e2:((o++(z7p x y).toList):List Attr)=(o++[x]):=by
   simp only[z0M,z1V] at*;unfold z7p;(repeat' split)<;>simp_all
  exact .finE [.r [],.r [(3,X (z0Y z0a [x] (Xap 2 z0a 1 o [x])))]] [(0,0),(1,1)] (fun((z0,z1):Nat×(List Attr))=>(.tup [],[(0,.box [.row 1 z0]),(1,OR 2 z0a z1)])) _ _ (pr e1 e2)
 ·
  have e3:((o++(z7p x y).toList).length:Nat)=(o++[y]).length:=by
   simp only[z0M,z1V] at*;unfold z7p;(repeat' split)<;>simp_all
  have e4:((o++(z7p x y).toList):List Attr)=(o++[y]):=by
   simp only[z0M,z1V] at*;unfold z7p;(repeat' split)<;>simp_all
  exact .finE [.r [(3,X (z0Y z0a [y] (Xap 2 z0a 1 o [y])))]] [(0,0),(1,1)] (fun((z0,z1):Nat×(List Attr))=>(.tup [],[(0,.box [.row 1 z0]),(1,OR 2 z0a z1)])) _ _ (pr e3 e4)
theorem z81(a b:List Attr)(hn:a.length+b.length<1099511627776):FC Tryz.prog 50 [VL 2 z0a a,VL 2 z0a b] (app emp []) (VL 2 z0a (fm z2e a b)) (app emp []):=by
 refine .go Tryz.f50 ?_
 refine .len 0 (fun hl0=> ?_)
 refine .len 1 (fun hl1=> ?_)
 exact .fin [.r [],.r [],.le (.nB 8 0 2),.r [(3,X (Xc3 41 [(0,8),(1,16)] (y4n 105 z2e (by kernel_rfl) x4E a b [] (by simp;omega)) X0))],.r [],.le (.fr 4 [(((fm z2e a b).length):Nat)=(List.map z0a (fm z2e a b)).length] ⟨lm,trivial⟩)] []
theorem z99(a b:List Attr)(hn:a.length+b.length<1099511627776):FC Tryz.prog 83 [VL 2 z0a a,VL 2 z0a b] (app emp []) (VL 2 z0a (fm z3N a b)) (app emp []):=by
 refine .go Tryz.f83 ?_
 refine .len 0 (fun hl0=> ?_)
 refine .len 1 (fun hl1=> ?_)
 exact .fin [.r [],.r [],.le (.nB 8 0 2),.r [(3,X (Xc3 41 [(0,8),(1,16)] (y4n 145 z3N (by kernel_rfl) x4F a b [] (by simp;omega)) X0))],.r [],.le (.fr 4 [(((fm z3N a b).length):Nat)=(List.map z0a (fm z3N a b)).length] ⟨lm,trivial⟩)] []
theorem x17(a b:List Attr)(hn:a.length+b.length<1099511627776):FC Tryz.prog 195 [VL 2 z0a a,VL 2 z0a b] (app emp []) (VL 2 z0a (fm z7p a b)) (app emp []):=by
 refine .go Tryz.f195 ?_
 refine .len 0 (fun hl0=> ?_)
 refine .len 1 (fun hl1=> ?_)
 exact .fin [.r [],.r [],.le (.nB 8 0 2),.r [(3,X (Xc3 41 [(0,8),(1,16)] (y4n 237 z7p (by kernel_rfl) x4G a b [] (by simp;omega)) X0))],.r [],.le (.fr 4 [(((fm z7p a b).length):Nat)=(List.map z0a (fm z7p a b)).length] ⟨lm,trivial⟩)] []
def z55(a b:List Attr):Int:=if z1B true a 0=0 then z1B true b 0 else z1B true a 0
def z56(a b:List Attr):List Attr:=if z1B true a 0=0/\z1B true b 0=0 then fm z3N a b else[]
def z57(a b:List Attr):List Attr:=if z1B true a 0=0/\z1B true b 0=0 then b else[]
theorem x4H(a b:List Attr)(hn:a.length+b.length<1099511627776):FC Tryz.prog 41 [VL 2 z0a a,VL 2 z0a b] (app emp []) (.tup [VL 2 z0a (z56 a b),VL 2 z0a (z57 a b),VI (z55 a b)]) (app emp []):=by
 refine .go Tryz.f41 ?_
 refine .len 0 (fun hl0=> ?_)
 refine .len 1 (fun hl1=> ?_)
 refine .bp [.r [],.r [(1,X (Xc0 (z03 a) X0))],.r []] ((z1B true a 0) !=0) (fun h2=> ?_) (fun h2=> ?_)
 ·
  have e1:((z56 a b):List Attr)=[]:=by
   simp only[z56,z57,z55];((repeat' split)<;>first|rfl|omega| (simp_all;done)| (simp_all;omega))
  have e2:((z57 a b):List Attr)=[]:=by
   simp only[z56,z57,z55];((repeat' split)<;>first|rfl|omega| (simp_all;done)| (simp_all;omega))
  have e3:((z55 a b):Int)=(z1B true a 0):=by
   simp only[z56,z57,z55];((repeat' split)<;>first|rfl|omega| (simp_all;done)| (simp_all;omega))
  exact .finE [.r [],.le (.nL 4 2),.le (.nL 5 2)] [] (fun((z0,z1,z2):(List Attr)×(List Attr)×Int)=>(.tup [VL 2 z0a z0,VL 2 z0a z1,VI z2],[])) _ _ (pr e1 (pr e2 e3))
 ·
  refine .bp [.r [(1,X (Xc0 (z03 b) X0))],.r []] ((z1B true b 0) !=0) (fun h5=> ?_) (fun h5=> ?_)
  ·
   have e4:((z56 a b):List Attr)=[]:=by
    simp only[z56,z57,z55];((repeat' split)<;>first|rfl|omega| (simp_all;done)| (simp_all;omega))
   have e5:((z57 a b):List Attr)=[]:=by
    simp only[z56,z57,z55];((repeat' split)<;>first|rfl|omega| (simp_all;done)| (simp_all;omega))
   have e6:((z55 a b):Int)=(z1B true b 0):=by
    simp only[z56,z57,z55];((repeat' split)<;>first|rfl|omega| (simp_all;done)| (simp_all;omega))
   exact .finE [.r [],.le (.nL 4 2),.le (.nL 5 2)] [] (fun((z0,z1,z2):(List Attr)×(List Attr)×Int)=>(.tup [VL 2 z0a z0,VL 2 z0a z1,VI z2],[])) _ _ (pr e4 (pr e5 e6))
  ·
   have e7:((z56 a b):List Attr)=(fm z3N a b):=by
    simp only[z56,z57,z55];((repeat' split)<;>first|rfl|omega| (simp_all;done)| (simp_all;omega))
   have e8:((z57 a b):List Attr)=b:=by
    simp only[z56,z57,z55];((repeat' split)<;>first|rfl|omega| (simp_all;done)| (simp_all;omega))
   have e9:((z55 a b):Int)=0:=by
    simp only[z56,z57,z55];((repeat' split)<;>first|rfl|omega| (simp_all;done)| (simp_all;omega))
   exact .finE [.r [(2,X (Xc1 120 (z99 a b (by omega)) X0)),(4,X (Xan z0a 136 b))],.le (.fr 5 [(b.length:Nat)=(List.map z0a b).length] ⟨lm,trivial⟩)] [] (fun((z0,z1,z2):(List Attr)×(List Attr)×Int)=>(.tup [VL 2 z0a z0,VL 2 z0a z1,VI z2],[])) _ _ (pr e7 (pr e8 e9))
end Go.Ch
end
section
namespace Go.Ch
open Go Go.Ab
def z0B(z:Int):Tree:= .sc (.int .i64 z)
def z82(s:ByteArray):Tree:= .sc (.string s)
def z76(x y:Int):Int:=if x<y then-1 else if x>y then 1 else 0
def orL:List Int->Int
 | []=>0
 |x::l=>if x≠0 then x else orL l
theorem x3B{l:List Int}{i:Nat}(h:i<l.length):orL (l.drop i)=if l.getD i default≠0 then l.getD i default else orL (l.drop (i+1)):=by
 rw[zi h,orL]
 simp[List.getD,qb h]
theorem x4I(a b:Int):orL [a,b]=if a≠0 then a else b:=by
 by_cases h:a=0
 ·by_cases k:b=0<;>simp[orL,h,k]
 ·simp[orL,h]
end Go.Ch
end
section
namespace Go.Ab
open Go
variable {P:Program} {w:World} {F:Fen P} {S:z0m} {m:Place} {n:Nat} {l0:List (Nat×Ob)} {s:St} {Q:Exit->St->Prop}
end Go.Ab
end
section
namespace Go.Ab
open Go
variable {P:Program}
def Xm0(es:List (Int×MV))(n:Int):Px (z3d es n=none):=⟨⟨none,none,none,some ⟨0,[],.junk,[]⟩,[]⟩,[z3d es n=none],fun h=>⟨h,trivial⟩⟩
def Xmu{β:Type}(f:β->Int×MV)(l l':List β)(n:Int)(id:Nat)(v:MV):Px (z5Z (l.map f) n v=l'.map f):=
 ⟨⟨none,some [(id,.mp (l'.map f) none)],none,none,[]⟩,[[(id,Ob.mp (l'.map f) none)]=[(id,Ob.mp (z5Z (l.map f) n v) none)]],fun h=>⟨by rw[h],trivial⟩⟩
end Go.Ab
end
section
namespace Go.Ch
open Go Go.Ab
structure DOp where
 clock:Int
 site:Int
 kind:Int
 itm:Int
 prt:Int
 plc:ByteArray
 nm:ByteArray
 vl:ByteArray
 deriving DecidableEq
instance:Inhabited DOp:=⟨⟨0,0,0,0,0,mt,mt,mt⟩⟩
def z0R(o:DOp):Tree:= .agg [TI o.clock,TI o.site,TI o.kind,TI o.itm,TI o.prt,TS o.plc,TS o.nm,TS o.vl]
structure DItem where
 item:Int
 parent:Int
 place:ByteArray
 attrs:List Attr
instance:Inhabited DItem:=⟨⟨0,0,mt,[]⟩⟩
def plS(s:ByteArray)(i:Nat):Bool:=if i<s.size then(if byt s i<97\/122<byt s i then false else plS s (i+1)) else true
termination_by s.size-i
def z4K(s:ByteArray):Bool:=decide (1<=s.size/\s.size<=200/\byt s (s.size- 1)≠97)&&plS s 0
def z7Q(a b:DOp):Int:=orL [z76 a.clock b.clock,z76 a.site b.site]
def ltO(a b:DOp):Prop:=a.clock<b.clock\/(a.clock=b.clock/\a.site<b.site)
instance (a b:DOp):Decidable (ltO a b):=by unfold ltO;infer_instance
theorem z48{a b:DOp}:z7Q a b<0↔ltO a b:=by
 unfold z7Q ltO z76
 rw[x4I]
 split<;>split<;>(try split)<;>(try split)<;>omega
theorem y2J{a b:DOp}:0<=z7Q a b↔¬ltO a b:=by rw[<-z48];omega
theorem z6I{a b c:DOp}(h:ltO a b)(k:ltO b c):ltO a c:=by unfold ltO at*;omega
theorem y4o(a:DOp):¬ltO a a:=by unfold ltO;omega
def opE(o:DOp):Int:=
 if o.kind≠0/\o.kind≠1 then 8
 else if o.clock<1\/1073741824<o.clock\/o.site<0\/1000<o.site\/o.itm<1\/1073741824<o.itm then 2
 else if(o.kind=0/\(seq o.nm mt=false\/seq o.vl mt=false))\/(o.kind=1/\(o.prt≠0\/seq o.plc mt=false)) then 4
 else if o.kind=0/\(o.prt< -1\/1073741824<o.prt) then 2
 else if(o.kind=0/\z4K o.plc=false)\/(o.kind=1/\z12 o.nm=false) then 9
 else if o.kind=1/\seq o.vl mt=false/\z17 o.vl=false then 23
 else 0
def z2E(l:List DOp)(i:Nat):Int:=
 if i<l.length then
  if opE (l.getD i default)≠0 then opE (l.getD i default)
  else if 0<i/\¬ltO (l.getD (i- 1) default) (l.getD i default) then 5
  else z2E l (i+1)
 else 0
termination_by l.length-i
def z0p:List DOp->List DOp->Option (List DOp)
 | [],[]=>some []
 |a::l,[]=>(z0p l []).map (a:: ·)
 | [],b::r=>(z0p [] r).map (b:: ·)
 |a::l,b::r=>
  if ltO a b then(z0p l (b::r)).map (a:: ·)
  else if ltO b a then(z0p (a::l) r).map (b:: ·)
  else if a=b then(z0p l r).map (a:: ·) else none
termination_by a b=>a.length+b.length
theorem y4p{x y:List DOp}(h:0<x.length)(hy:y.length=0\/ltO (x.getD 0 default) (y.getD 0 default)):z0p x y=(z0p (x.drop 1) y).map (x.getD 0 default:: ·):=by
 cases x with
 |nil=>simp at h
 |cons a l=>
  cases y with
  |nil=>simp[z0p]
  |cons b r=>simp only[zy] at hy;rw[z0p,if_pos (by simpa using hy)];rfl
theorem y2K{x y:List DOp}(h:0<y.length)(hx:x.length=0\/ltO (y.getD 0 default) (x.getD 0 default)):z0p x y=(z0p x (y.drop 1)).map (y.getD 0 default:: ·):=by
 cases y with
 |nil=>simp at h
 |cons b r=>
  cases x with
  |nil=>simp[z0p]
  |cons a l=>
   simp only[zy] at hx
   have hx:ltO b a:=by simpa using hx
   rw[z0p,if_neg (by unfold ltO at*;omega),if_pos hx];rfl
theorem y4q{x y:List DOp}(h:0<x.length)(h':0<y.length)(h1:¬ltO (x.getD 0 default) (y.getD 0 default))(h2:¬ltO (y.getD 0 default) (x.getD 0 default)):
 z0p x y=if x.getD 0 default=y.getD 0 default then(z0p (x.drop 1) (y.drop 1)).map (x.getD 0 default:: ·) else none:=by
 cases x with
 |nil=>simp at h
 |cons a l=>
  cases y with
  |nil=>simp at h'
  |cons b r=>simp only[zy] at h1 h2;rw[z0p,if_neg h1,if_neg h2];rfl
theorem y9o{a b:DOp}(h1:a.clock=b.clock)(h2:a.site=b.site)(h3:a.kind=b.kind)(h4:a.itm=b.itm)(h5:a.prt=b.prt)(h6:a.plc=b.plc)(h7:a.nm=b.nm)(h8:a.vl=b.vl):a=b:=by
 cases a;cases b;simp_all
def NPg(s:ByteArray):Prop:=z12 s=true
def VPg(s:ByteArray):Prop:=z17 s=true
theorem y7r:¬NPg mt:=by
 unfold NPg z12
 rw[decide_eq_false (by intro h;have:=h.1;simp[ByteArray.size] at this)]
 decide
abbrev VG:=V NPg VPg
theorem z3n{a:Attr}{l:List Attr}{k:Nat}:(a::l).getD (k+1) default=l.getD k default:=by simp[List.getD]
theorem y7s{a:Attr}{l:List Attr}:(a::l).getD 0 default=a:=rfl
theorem z6J:∀{l:List Attr},(∀k,k+1<l.length->slt (l.getD k default).name (l.getD (k+1) default).name=true)->z3E l
 | [],_=>trivial
 | [a],_=>⟨fun b hb=>(by cases hb),trivial⟩
 |a::b::l,h=>by
  have ih:=z6J (l:=b::l) (fun k hk=>by have:=h (k+1) (by simp at hk|-;omega);simpa using this)
  have h0:=h 0 (by simp)
  simp only[y7s,z3n] at h0
  refine⟨fun c hc=> ?_,ih⟩
  rcases qg.1 hc with rfl|hc
  ·exact h0
  ·exact z37 h0 (ih.1 c hc)
theorem z6K:∀{l:List Attr},z3E l->∀k,k+1<l.length->slt (l.getD k default).name (l.getD (k+1) default).name=true
 | [],_,k,hk=>by simp at hk
 |a::l,h,0,hk=>by
  cases l with
  |nil=>simp at hk
  |cons b l=>exact h.1 b (by simp)
 |a::l,h,k+1,hk=>by
  have:=z6K h.2 k (by simp at hk;omega)
  rw[z3n,z3n];exact this
theorem x18{l:List Attr}{k:Nat}(h:k<l.length):l.getD k default∈l:=by
 rw[show l.getD k default=l[k] by simp[List.getD,qb h]]
 exact zA h
theorem x19{l:List Attr}{a:Attr}(h:a∈l):∃k,k<l.length/\l.getD k default=a:=by
 obtain⟨k,hk,e⟩:=zd.1 h
 exact⟨k,hk,by rw[<-e];simp[List.getD,qb hk]⟩
theorem y5H(e:Bool)(l:List Attr):∀(n i:Nat),l.length-i=n->(z1B e l i=0↔∀k,i<=k->k<l.length->Q NPg VPg e (l.getD k default).name (l.getD k default).val/\(0<k->slt (l.getD (k- 1) default).name (l.getD k default).name=true))
 |0,i,h=>by
  rw[z1B,if_neg (by omega)]
  exact⟨fun _ k h1 h2=>by omega,fun _=>rfl⟩
 |n+1,i,h=>by
  have hi:i<l.length:=by omega
  have ih:=y5H e l n (i+1) (by omega)
  rw[z1B,if_pos hi]
  have step:(∀k,i<=k->k<l.length->Q NPg VPg e (l.getD k default).name (l.getD k default).val/\(0<k->slt (l.getD (k- 1) default).name (l.getD k default).name=true))↔
   (Q NPg VPg e (l.getD i default).name (l.getD i default).val/\(0<i->slt (l.getD (i- 1) default).name (l.getD i default).name=true))/\z1B e l (i+1)=0:=by
   rw[ih]
   constructor
   ·exact fun h=>⟨h i (qn _) hi,fun k h1 h2=>h k (by omega) h2⟩
   ·rintro⟨h1,h2⟩ k h3 h4
    by_cases e:k=i
    ·subst e;exact h1
    ·exact h2 k (by omega) h4
  rw[step]
  generalize(l.getD i default)=x
  generalize(l.getD (i- 1) default)=y
  unfold Q NPg VPg
  have hm:seq x.val {data:=#[]}=true↔x.val=mt:=z0M
  have hm2:seq x.val {data:=#[]}=false↔x.val≠mt:=z1V
  simp only[x3z,hm2]
  cases h1:z12 x.name with
  |false=>simp
  |true=>
   rw[if_neg (by decide)]
   cases h2:z17 x.val with
   |false=>
    by_cases h3:e=false\/x.val≠mt
    ·rw[if_pos ⟨rfl,h3⟩]
     constructor
     ·intro h;cases h
     ·rintro⟨⟨⟨_,h| ⟨h,h'⟩⟩,_⟩,_⟩
      ·cases h
      ·rcases h3 with h3|h3
       ·rw[h3] at h;cases h
       ·exact absurd h' h3
    ·rw[if_neg (fun h=>h3 h.2)]
     have he:e=true:=by cases e with|true=>rfl|false=>exact absurd (.inl rfl) h3
     have hx:x.val=mt:=qc fun h=>h3 (.inr h)
     by_cases h4:0<i/\slt y.name x.name=false
     ·rw[if_pos h4]
      constructor
      ·intro h;cases h
      ·rintro⟨⟨_,h⟩,_⟩;rw[h h4.1] at h4;cases h4.2
     ·rw[if_neg h4]
      refine⟨fun h=>⟨⟨⟨rfl,.inr ⟨he,hx⟩⟩,fun h0=> ?_⟩,h⟩,fun h=>h.2⟩
      cases h5:slt y.name x.name with
      |true=>rfl
      |false=>exact absurd ⟨h0,h5⟩ h4
   |true=>
    rw[if_neg (fun h=>by cases h.1)]
    by_cases h4:0<i/\slt y.name x.name=false
    ·rw[if_pos h4]
     constructor
     ·intro h;cases h
     ·rintro⟨⟨_,h⟩,_⟩;rw[h h4.1] at h4;cases h4.2
    ·rw[if_neg h4]
     refine⟨fun h=>⟨⟨⟨rfl,.inl rfl⟩,fun h0=> ?_⟩,h⟩,fun h=>h.2⟩
     cases h5:slt y.name x.name with
     |true=>rfl
     |false=>exact absurd ⟨h0,h5⟩ h4
theorem z1z{e:Bool}{l:List Attr}:z1B e l 0=0↔VG e l:=by
 rw[y5H e l l.length 0 (by omega)]
 constructor
 ·intro h
  refine⟨z6J (fun k hk=>(h (k+1) (by omega) hk).2 (by omega)),fun a ha=> ?_⟩
  obtain⟨k,hk,rfl⟩:=x19 ha
  exact(h k (by omega) hk).1
 ·intro h k _ hk
  refine⟨h.2 _ (x18 hk),fun h0=> ?_⟩
  have:=z6K h.1 (k- 1) (by omega)
  rw[show k- 1+1=k by omega] at this
  exact this
theorem y0a(a:List Attr):∀(n i:Nat),a.length-i=n->z45 a a i=true
 |0,i,h=>by rw[z45,if_neg (by omega)]
 |n+1,i,h=>by
  have hi:i<a.length:=by omega
  rw[z45,if_pos hi,if_pos ⟨rfl,rfl⟩,y0a a n (i+1) (by omega)]
theorem z4a(a:List Attr):z0O a a=true:=by unfold z0O;rw[y0a a _ 0 rfl];simp
structure Elem where
 char:Int
 ref:Int
 attrs:List Attr
instance:Inhabited Elem:=⟨⟨0,0,[]⟩⟩
def z0c(e:Elem):Tree:= .agg [.sc (.int .i64 e.char),.sc (.int .i64 e.ref),.lst 2 (e.attrs.map z0a)]
def z4v(c:Int):Prop:=c=9\/c=10\/(32<=c/\c<127)\/(160<=c/\c<55296)\/(57343<c/\c<=1114111)
instance (c:Int):Decidable (z4v c):=by unfold z4v;infer_instance
def z05(x:Elem):Int:=
 if x.char=0↔x.ref=0 then 4
 else if(x.ref=0/\¬z4v x.char)\/(x.ref≠0/\(x.ref<1\/1073741824<x.ref)) then 2
 else z1B false x.attrs 0
theorem z83{x:Elem}(h:x.char=0↔x.ref=0):z05 x=4:=by unfold z05;rw[if_pos h]
theorem z3O{x:Elem}(h:¬(x.char=0↔x.ref=0))(h2:(x.ref=0/\¬z4v x.char)\/(x.ref≠0/\(x.ref<1\/1073741824<x.ref))):z05 x=2:=by unfold z05;rw[if_neg h,if_pos h2]
theorem z58{x:Elem}(h:¬(x.char=0↔x.ref=0))(h3:¬x.ref=0\/z4v x.char)(h4:x.ref=0\/(1<=x.ref/\x.ref<=1073741824)):z05 x=z1B false x.attrs 0:=by
 unfold z05
 rw[if_neg h,if_neg]
 rintro(⟨a,b⟩| ⟨a,b⟩)
 ·rcases h3 with h3|h3
  ·exact h3 a
  ·exact b h3
 ·rcases h4 with h4|h4
  ·exact a h4
  ·omega
def z5J(l:List Elem)(i:Nat):Int:=if i<l.length then(if z05 (l.getD i default)=0 then z5J l (i+1) else z05 (l.getD i default)) else 0
termination_by l.length-i
def SzE(l:List Elem):Prop:=∀x∈l,Szd x.attrs
theorem z49{l:List Elem}{k:Nat}(h:k<l.length):l.getD k default∈l:=by
 rw[show l.getD k default=l[k] by simp[List.getD,qb h]]
 exact zA h
def y7t(x y:Elem):Bool:=(x.char==y.char&&x.ref==y.ref)&&z0O x.attrs y.attrs
def z5S(a b:List Elem)(i:Nat):Bool:=if i<a.length then(if y7t (a.getD i default) (b.getD i default)=true then z5S a b (i+1) else false) else true
termination_by a.length-i
def z4w(a b:List Elem):Bool:=decide (a.length=b.length)&&z5S a b 0
theorem y7u(x:Elem):y7t x x=true:=by unfold y7t;rw[z4a];simp
theorem z84(a:List Elem):∀(n i:Nat),a.length-i=n->z5S a a i=true
 |0,i,h=>by rw[z5S,if_neg (by omega)]
 |n+1,i,h=>by
  have hi:i<a.length:=by omega
  rw[z5S,if_pos hi,if_pos (y7u _),z84 a n (i+1) (by omega)]
theorem y7v(a:List Elem):z4w a a=true:=by unfold z4w;rw[z84 a _ 0 rfl];simp
theorem y2L(a b:List Attr):∀(n i:Nat),a.length-i=n->z45 a b i=true->∀k,i<=k->k<a.length->a.getD k default=b.getD k default
 |0,i,h,_=>fun k h1 h2=>by omega
 |n+1,i,h,hs=>by
  have hi:i<a.length:=by omega
  rw[z45,if_pos hi] at hs
  split at hs
  ·rename_i he
   intro k h1 h2
   by_cases e:k=i
   ·subst e
    generalize a.getD k default=x at*
    generalize b.getD k default=y at*
    cases x;cases y;simp_all
   ·exact y2L a b n (i+1) (by omega) hs k (by omega) h2
  ·cases hs
theorem x2a{a b:List Attr}:z0O a b=true↔a=b:=by
 constructor
 ·intro h
  unfold z0O at h
  simp only[qm,decide_eq_true_eq] at h
  refine List.ext_getElem h.1 (fun k h1 h2=> ?_)
  have:=y2L a b _ 0 rfl h.2 k (by omega) h1
  simpa[List.getD,qb h1,qb h2] using this
 ·intro h;subst h;exact z4a _
theorem y2M(l:List Elem):∀(n i:Nat),l.length-i=n->(z5J l i=0↔∀k,i<=k->k<l.length->z05 (l.getD k default)=0)
 |0,i,h=>by rw[z5J,if_neg (by omega)];exact⟨fun _ k h1 h2=>by omega,fun _=>rfl⟩
 |n+1,i,h=>by
  have hi:i<l.length:=by omega
  have ih:=y2M l n (i+1) (by omega)
  rw[z5J,if_pos hi]
  by_cases e:z05 (l.getD i default)=0
  ·rw[if_pos e,ih]
   constructor
   ·intro h k h1 h2
    by_cases ek:k=i
    ·subst ek;exact e
    ·exact h k (by omega) h2
   ·exact fun h k h1 h2=>h k (by omega) h2
  ·rw[if_neg e]
   exact⟨fun h=>absurd h e,fun h=>h i (qn _) hi⟩
theorem x2b{l:List Elem}:z5J l 0=0↔∀x∈l,z05 x=0:=by
 rw[y2M l _ 0 rfl]
 constructor
 ·intro h x hx
  obtain⟨k,hk,e⟩:=zd.1 hx
  have:=h k (by omega) hk
  rw[<-e]
  simpa[List.getD,qb hk] using this
 ·exact fun h k _ hk=>h _ (z49 hk)
theorem x4J{x:Elem}(h:z05 x=0):VG false x.attrs:=by
 unfold z05 at h
 split at h
 ·omega
 ·split at h
  ·omega
  ·exact z1z.1 h
end Go.Ch
end
section
set_option maxRecDepth 100000
set_option maxHeartbeats 4000000
open Go Go.Proofs Go.Ab
namespace Go.Ch
theorem y9p(c:Int):FC Tryz.prog 124 [VI c] (app emp []) (VB (decide (z4v c))) (app emp []):=by
 refine .go Tryz.f124 ?_
 have e1:((decide (z4v c)):Bool)=(((((c==9)|| (c==10))|| (decide (c>=32)&&decide (c<127)))|| (decide (c>=160)&&decide (c<55296)))|| (decide (c>57343)&&decide (c<=1114111))):=by
  rw[zl,decide_eq_true_iff];unfold z4v;simp only[qH,qm,decide_eq_true_eq,beq_iff_eq];constructor<;>intro hh<;>omega
 exact .finE [.r [],.r [(4,Xv 1 (!(c==9)) X0),(5,X (Xk' (c==9))),(8,Xv 1 (!((c==9)|| (c==10))) X0),(9,Xv 1 (!((c==9)|| (c==10))) X0),(11,Xv 1 ((!((c==9)|| (c==10)))&&(decide (c>=32))) X0),(12,Xka (!((c==9)|| (c==10))) (decide (c>=32))),(13,X (Xk' ((c==9)|| (c==10)))),(16,Xv 1 (!(((c==9)|| (c==10))|| (decide (c>=32)&&decide (c<127)))) X0),(17,Xv 1 (!(((c==9)|| (c==10))|| (decide (c>=32)&&decide (c<127)))) X0),(19,Xv 1 ((!(((c==9)|| (c==10))|| (decide (c>=32)&&decide (c<127))))&&(decide (c>=160))) X0),(20,Xka (!(((c==9)|| (c==10))|| (decide (c>=32)&&decide (c<127)))) (decide (c>=160))),(21,X (Xk' (((c==9)|| (c==10))|| (decide (c>=32)&&decide (c<127))))),(24,Xv 1 (!((((c==9)|| (c==10))|| (decide (c>=32)&&decide (c<127)))|| (decide (c>=160)&&decide (c<55296)))) X0),(25,Xv 1 (!((((c==9)|| (c==10))|| (decide (c>=32)&&decide (c<127)))|| (decide (c>=160)&&decide (c<55296)))) X0),(27,Xv 1 ((!((((c==9)|| (c==10))|| (decide (c>=32)&&decide (c<127)))|| (decide (c>=160)&&decide (c<55296))))&&(decide (c>57343))) X0),(28,Xka (!((((c==9)|| (c==10))|| (decide (c>=32)&&decide (c<127)))|| (decide (c>=160)&&decide (c<55296)))) (decide (c>57343))),(29,X (Xk' ((((c==9)|| (c==10))|| (decide (c>=32)&&decide (c<127)))|| (decide (c>=160)&&decide (c<55296)))))]] [] (fun z0:Bool=>(VB z0,[])) _ _ e1
theorem z2q{a b:Int}:((a !=0)=(b !=0))↔(a=0↔b=0):=by
 rw[zl];simp;omega
theorem y9q(x:Elem):FC Tryz.prog 160 [.t (z0c x)] (app emp []) (VI (z05 x)) (app emp []):=by
 refine .go Tryz.f160 ?_
 refine .bp [.r [],.r []] ((x.char !=0)==(x.ref !=0)) (fun h1=> ?_) (fun h1=> ?_)
 ·
  have e1:((z05 x):Int)=4:=by
   first|exact z83 (z2q.1 h1)|exact z3O (fun h=>h1 (z2q.2 h)) (.inl h3)|exact z3O (fun h=>h1 (z2q.2 h)) (.inr h4)|exact z58 (fun h=>h1 (z2q.2 h)) h3 h4| (exfalso;simp_all;done)
  exact .finE [.r []] [] (fun z0:Int=>(VI z0,[])) _ _ e1
 ·
  refine .bp [.r [(5,Xv 1 (x.ref==0) X0),(6,Xv 1 (x.ref==0) (Xc0 (y9p x.char) X0)),(7,Xv 1 (x.ref==0) X0),(8,X (Xk (x.ref==0)))]] ((x.ref==0)&& !(decide (z4v x.char))) (fun h3=> ?_) (fun h3=> ?_)
  ·
   refine .bp [] ((x.ref==0)&& !(decide (z4v x.char))) (fun h3=> ?_) (fun h3=> ?_)
   ·
    have e2:((z05 x):Int)=2:=by
     first|exact z83 (z2q.1 h1)|exact z3O (fun h=>h1 (z2q.2 h)) (.inl h3)|exact z3O (fun h=>h1 (z2q.2 h)) (.inr h4)|exact z58 (fun h=>h1 (z2q.2 h)) h3 h4| (exfalso;simp_all;done)
    exact .finE [.r []] [] (fun z0:Int=>(VI z0,[])) _ _ e2
   ·
    have e3:((z05 x):Int)=(z1B false x.attrs 0):=by
     first|exact z83 (z2q.1 h1)|exact z3O (fun h=>h1 (z2q.2 h)) (.inl h3)|exact z3O (fun h=>h1 (z2q.2 h)) (.inr h4)|exact z58 (fun h=>h1 (z2q.2 h)) h3 h4| (exfalso;simp_all;done)
    exact .finE [.r [(2,X (Xc0 (z39 x.attrs) X0))]] [] (fun z0:Int=>(VI z0,[])) _ _ e3
  ·
   refine .bp [.r [(5,Xv 1 (x.ref !=0) X0),(6,Xv 1 (x.ref !=0) X0),(7,Xv 1 (x.ref !=0) X0),(9,Xv 1 ((x.ref !=0)&& !(decide (x.ref<1))) X0),(10,Xv 1 ((x.ref !=0)&& !(decide (x.ref<1))) X0),(11,Xko (x.ref !=0) (decide (x.ref<1))),(12,X (Xk (x.ref !=0)))]] ((x.ref !=0)&&(decide (x.ref<1)||decide (x.ref>1073741824))) (fun h4=> ?_) (fun h4=> ?_)
   ·
    have e4:((z05 x):Int)=2:=by
     first|exact z83 (z2q.1 h1)|exact z3O (fun h=>h1 (z2q.2 h)) (.inl h3)|exact z3O (fun h=>h1 (z2q.2 h)) (.inr h4)|exact z58 (fun h=>h1 (z2q.2 h)) h3 h4| (exfalso;simp_all;done)
    exact .finE [.r []] [] (fun z0:Int=>(VI z0,[])) _ _ e4
   ·
    have e5:((z05 x):Int)=(z1B false x.attrs 0):=by
     first|exact z83 (z2q.1 h1)|exact z3O (fun h=>h1 (z2q.2 h)) (.inl h3)|exact z3O (fun h=>h1 (z2q.2 h)) (.inr h4)|exact z58 (fun h=>h1 (z2q.2 h)) h3 h4| (exfalso;simp_all;done)
    exact .finE [.r [(2,X (Xc0 (z39 x.attrs) X0))]] [] (fun z0:Int=>(VI z0,[])) _ _ e5
theorem z7R(l:List Elem):FC Tryz.prog 199 [VL 3 z0c l] (app emp []) (VI (z5J l 0)) (app emp []):=by
 refine .go Tryz.f199 ?_
 refine .len 0 (fun hl0=> ?_)
 refine .loop (α:=Nat) [.r [],.r [(1,X (Xl z0c l))]] 32 (fun i=>([(6,VL 3 z0c l),(7,VI (l.length:Int)),(8,VI (i:Int))],[])) (fun i=>i<=l.length/\z5J l 0=z5J l i) (fun i=>l.length-i) (0:Nat) ?_ ?_
 ·
  exact⟨by omega,rfl⟩
 rintro i I2 ih2
 try dsimp only at I2
 refine .bp [.r []] (decide ((i:Int)< (l.length:Int))) (fun h2=> ?_) (fun h2=> ?_)
 ·
  refine .bp [.r [(0,X (Xi z0c l (i:Int)))],.r [(1,X (Xc0 (y9q ((l.getD i default))) X0))],.r []] ((z05 ((l.getD i default))) !=0) (fun h5=> ?_) (fun h5=> ?_)
  ·
   have e1:((z5J l 0):Int)=(z05 ((l.getD i default))):=by
    rw[I2.2,z5J];((repeat' split)<;>first|rfl|omega| (simp_all;done)| (simp_all;omega))
   exact .finE [.r []] [] (fun z0:Int=>(VI z0,[])) _ _ e1
  ·
   refine .back [.r [(0,X (Xn ((i:Int)+1)))]] [] (ih2 ((i+1):Nat) ?_ ?_)
   ·
    refine⟨by omega,?_⟩;rw[I2.2,z5J,if_pos (by omega),if_pos (by omega)]
   ·
    ((try dsimp only);omega)
 ·
  have e2:((z5J l 0):Int)=0:=by
   rw[I2.2,z5J];((repeat' split)<;>first|rfl|omega| (simp_all;done)| (simp_all;omega))
  exact .finE [.r []] [] (fun z0:Int=>(VI z0,[])) _ _ e2
theorem z59(a b:List Attr):FC Tryz.prog 140 [VL 2 z0a a,VL 2 z0a b] (app emp []) (VB (z0O a b)) (app emp []):=by
 refine .go Tryz.f140 ?_
 refine .len 0 (fun hl0=> ?_)
 refine .len 1 (fun hl1=> ?_)
 refine .bp [.r [],.r [(1,X (Xl z0a a)),(3,X (Xl z0a b))]] ((a.length:Int) !=(b.length:Int)) (fun h1=> ?_) (fun h1=> ?_)
 ·
  have e1:((z0O a b):Bool)=false:=by
   unfold z0O;rw[decide_eq_false (by omega)];rfl
  exact .finE [.r []] [] (fun z0:Bool=>(VB z0,[])) _ _ e1
 ·
  refine .loop (α:=Nat) [.r [(1,X (Xl z0a a))]] 72 (fun i=>([(0,VL 2 z0a a),(1,VL 2 z0a b),(12,VI (a.length:Int)),(13,VI (i:Int))],[])) (fun i=>i<=a.length/\z45 a b 0=z45 a b i) (fun i=>a.length-i) (0:Nat) ?_ ?_
  ·
   exact⟨by omega,rfl⟩
  rintro i I4 ih4
  try dsimp only at I4
  refine .bp [.r []] (decide ((i:Int)< (a.length:Int))) (fun h4=> ?_) (fun h4=> ?_)
  ·
   refine .bp [.r [],.r [(2,X (Xi z0a a (i:Int))),(6,X (Xi z0a b (i:Int)))]] (!(seq (((a.getD i default)).name) (((b.getD i default)).name)&&(seq (((a.getD i default)).val) (((b.getD i default)).val)&&true))) (fun h6=> ?_) (fun h6=> ?_)
   ·
    have e2:((z0O a b):Bool)=false:=by
     unfold z0O;rw[I4.2,z45,if_pos (by omega),if_neg (by clear ih4;simp only[z1V,z0M] at h6;rintro⟨x,y⟩;simp_all)];simp
    exact .finE [.r []] [] (fun z0:Bool=>(VB z0,[])) _ _ e2
   ·
    refine .back [.r [(0,X (Xn ((i:Int)+1)))]] [] (ih4 ((i+1):Nat) ?_ ?_)
    ·
     refine⟨by omega,?_⟩;rw[I4.2,z45,if_pos (by omega),if_pos (by clear ih4;simp only[z1V,z0M] at h6;simp_all)]
    ·
     ((try dsimp only);omega)
  ·
   have e3:((z0O a b):Bool)=true:=by
    unfold z0O;rw[I4.2,z45,if_neg (by omega),decide_eq_true (by omega)];rfl
   exact .finE [.r []] [] (fun z0:Bool=>(VB z0,[])) _ _ e3
theorem y4r(x y:Elem):FC Tryz.prog 115 [.t (z0c x),.t (z0c y)] (app emp []) (VB (y7t x y)) (app emp []):=by
 refine .go Tryz.f115 ?_
 have e1:((y7t x y):Bool)=(((x.char==y.char)&&(x.ref==y.ref))&&(z0O x.attrs y.attrs)):=by
  rfl
 exact .finE [.r [],.r [(7,Xv 1 (x.char==y.char) X0),(9,Xv 1 (x.char==y.char) X0),(10,Xv 2 (x.char==y.char) X0),(11,X (Xk (x.char==y.char))),(14,Xv 1 ((x.char==y.char)&&(x.ref==y.ref)) X0),(16,Xv 1 ((x.char==y.char)&&(x.ref==y.ref)) X0),(17,Xv 2 ((x.char==y.char)&&(x.ref==y.ref)) (Xc0 (z47 x.attrs y.attrs) X0)),(18,X (Xk ((x.char==y.char)&&(x.ref==y.ref))))]] [] (fun z0:Bool=>(VB z0,[])) _ _ e1
theorem y4s(a b:List Elem):FC Tryz.prog 56 [VL 3 z0c a,VL 3 z0c b] (app emp []) (VB (z4w a b)) (app emp []):=by
 refine .go Tryz.f56 ?_
 refine .len 0 (fun hl0=> ?_)
 refine .len 1 (fun hl1=> ?_)
 refine .bp [.r [],.r [(1,X (Xl z0c a)),(3,X (Xl z0c b))]] ((a.length:Int) !=(b.length:Int)) (fun h1=> ?_) (fun h1=> ?_)
 ·
  have e1:((z4w a b):Bool)=false:=by
   unfold z4w;rw[decide_eq_false (by omega)];rfl
  exact .finE [.r []] [] (fun z0:Bool=>(VB z0,[])) _ _ e1
 ·
  refine .loop (α:=Nat) [.r [(1,X (Xl z0c a))]] 72 (fun i=>([(0,VL 3 z0c a),(1,VL 3 z0c b),(12,VI (a.length:Int)),(13,VI (i:Int))],[])) (fun i=>i<=a.length/\z5S a b 0=z5S a b i) (fun i=>a.length-i) (0:Nat) ?_ ?_
  ·
   exact⟨by omega,rfl⟩
  rintro i I4 ih4
  try dsimp only at I4
  refine .bp [.r []] (decide ((i:Int)< (a.length:Int))) (fun h4=> ?_) (fun h4=> ?_)
  ·
   refine .bp [.r [],.r [(2,X (Xi z0c a (i:Int))),(6,X (Xi z0c b (i:Int))),(8,X (Xc0 (y4r ((a.getD i default)) ((b.getD i default))) X0))]] (!(y7t ((a.getD i default)) ((b.getD i default)))) (fun h6=> ?_) (fun h6=> ?_)
   ·
    have e2:((z4w a b):Bool)=false:=by
     unfold z4w;rw[I4.2,z5S,if_pos (by omega),if_neg (by rw[h6];decide)];simp
    exact .finE [.r []] [] (fun z0:Bool=>(VB z0,[])) _ _ e2
   ·
    refine .back [.r [(0,X (Xn ((i:Int)+1)))]] [] (ih4 ((i+1):Nat) ?_ ?_)
    ·
     refine⟨by omega,?_⟩;rw[I4.2,z5S,if_pos (by omega),if_pos h6]
    ·
     ((try dsimp only);omega)
  ·
   have e3:((z4w a b):Bool)=true:=by
    unfold z4w;rw[I4.2,z5S,if_neg (by omega),decide_eq_true (by omega)];rfl
   exact .finE [.r []] [] (fun z0:Bool=>(VB z0,[])) _ _ e3
end Go.Ch
end
section
namespace Go.Ch
open Go Go.Ab
inductive U where
 |K
 |A
 |C
abbrev rep(n:Nat)(x:U):List U:=List.replicate n x
theorem z5w(n:Nat)(x:U):rep (n+1) x=x::rep n x:=rfl
def z77:List U->Nat
 | []=>0
 | .A::u=>z77 u
 | .K::u=>z77 u+1
 | .C::u=>z77 u+1
def z6L:List U->Nat
 | []=>0
 | .C::u=>z6L u
 | .K::u=>z6L u+1
 | .A::u=>z6L u+1
structure AxStep where
 kind:Int
 n:Int
instance:Inhabited AxStep:=⟨⟨0,0⟩⟩
def z0P(s:AxStep):Tree:= .agg [.sc (.int .i64 s.kind),.sc (.int .i64 s.n)]
def uOf(k:Int):U:=if k=1 then .A else if k=2 then .C else .K
def ex:List AxStep->List U
 | []=>[]
 |s::l=>rep s.n.toNat (uOf s.kind)++ex l
def Ok1(s:AxStep):Prop:=0<=s.kind/\s.kind<=2/\1<=s.n
def Nx(s t:AxStep):Prop:=s.kind≠t.kind/\¬(s.kind=2/\t.kind=1)
def y2N:List AxStep->Prop
 | []=>True
 | [s]=>Ok1 s
 |s::t::l=>Ok1 s/\Nx s t/\y2N (t::l)
theorem y2N.head{s:AxStep}{l:List AxStep}(h:y2N (s::l)):Ok1 s:=by
 cases l with
 |nil=>exact h
 |cons t l=>exact h.1
theorem y2N.tail{s:AxStep}{l:List AxStep}(h:y2N (s::l)):y2N l:=by
 cases l with
 |nil=>trivial
 |cons t l=>exact h.2.2
theorem x2c{s:AxStep}(h:Ok1 s):s.kind=0\/s.kind=1\/s.kind=2:=by have:=h.1;have:=h.2.1;omega
structure Wr where
 out:List AxStep
 add:Int
 cut:Int
def y4t(l:List AxStep)(i:Nat)(b a:Int):Int:=
 if i<l.length then
  if(l.getD i default).kind<0\/2< (l.getD i default).kind then 8
  else if(l.getD i default).n<1\/2147483647< (l.getD i default).n then 2
  else if 0<i/\((l.getD (i- 1) default).kind=(l.getD i default).kind\/((l.getD (i- 1) default).kind=2/\(l.getD i default).kind=1)) then 5
  else y4t l (i+1) (if(l.getD i default).kind≠1 then min (b+(l.getD i default).n) 2147483648 else b) (if(l.getD i default).kind≠2 then min (a+(l.getD i default).n) 2147483648 else a)
 else if 2147483647<b\/2147483647<a then 3 else 0
termination_by l.length-i
def z13(l:List AxStep):Int:=y4t l 0 0 0
def y2O(l:List AxStep)(i:Nat):Prop:=∀k,i<=k->k<l.length->Ok1 (l.getD k default)/\(0<k->Nx (l.getD (k- 1) default) (l.getD k default))
theorem y1a{l:List AxStep}{i:Nat}(h:i<l.length):l.drop i=l.getD i default::l.drop (i+1):=by
 rw[zi h];simp[List.getD,qb h]
theorem z6M{l:List AxStep}{i:Nat}(h:¬i<l.length):l.drop i=[]:=qM (by omega)
theorem x71(n:Nat)(u:List U):z77 (rep n .K++u)=n+z77 u:=by
 induction n with
 |zero=>simp
 |succ n ih=>rw[z5w,qy,z77,ih];omega
theorem x72(n:Nat)(u:List U):z77 (rep n .A++u)=z77 u:=by
 induction n with
 |zero=>simp
 |succ n ih=>rw[z5w,qy,z77,ih]
theorem x73(n:Nat)(u:List U):z77 (rep n .C++u)=n+z77 u:=by
 induction n with
 |zero=>simp
 |succ n ih=>rw[z5w,qy,z77,ih];omega
theorem x74(n:Nat)(u:List U):z6L (rep n .K++u)=n+z6L u:=by
 induction n with
 |zero=>simp
 |succ n ih=>rw[z5w,qy,z6L,ih];omega
theorem x75(n:Nat)(u:List U):z6L (rep n .A++u)=n+z6L u:=by
 induction n with
 |zero=>simp
 |succ n ih=>rw[z5w,qy,z6L,ih];omega
theorem x76(n:Nat)(u:List U):z6L (rep n .C++u)=z6L u:=by
 induction n with
 |zero=>simp
 |succ n ih=>rw[z5w,qy,z6L,ih]
theorem y9r(n:Nat)(k:Int)(u:List U):(z77 (rep n (uOf k)++u):Int)=(if k=1 then(0:Int) else(n:Int))+z77 u:=by
 unfold uOf
 by_cases h1:k=1
 ·rw[if_pos h1,if_pos h1,x72];omega
 ·rw[if_neg h1,if_neg h1]
  by_cases h2:k=2
  ·rw[if_pos h2,x73];omega
  ·rw[if_neg h2,x71];omega
theorem y4u(n:Nat)(k:Int)(u:List U):(z6L (rep n (uOf k)++u):Int)=(if k=2 then(0:Int) else(n:Int))+z6L u:=by
 unfold uOf
 by_cases h1:k=1
 ·rw[if_pos h1,x75,if_neg (by omega)];omega
 ·rw[if_neg h1]
  by_cases h2:k=2
  ·rw[if_pos h2,if_pos h2,x76];omega
  ·rw[if_neg h2,if_neg h2,x74];omega
theorem y5I(l:List AxStep):∀(m i:Nat) (b a:Int),l.length-i=m->0<=b->0<=a->b<=2147483648->a<=2147483648->
 (y4t l i b a=0↔y2O l i/\b+z77 (ex (l.drop i))<=2147483647/\a+z6L (ex (l.drop i))<=2147483647)
 |0,i,b,a,h,hb,ha,hb2,ha2=>by
  rw[y4t,if_neg (by omega),z6M (by omega)]
  simp only[ex,z77,z6L]
  split
  ·constructor
   ·intro h;omega
   ·rintro⟨_,h1,h2⟩;omega
  ·exact⟨fun _=>⟨fun k h1 h2=>by omega,by omega,by omega⟩,fun _=>rfl⟩
 |m+1,i,b,a,h,hb,ha,hb2,ha2=>by
  have hi:i<l.length:=by omega
  rw[y4t,if_pos hi]
  have step:y2O l i↔(Ok1 (l.getD i default)/\(0<i->Nx (l.getD (i- 1) default) (l.getD i default)))/\y2O l (i+1):=by
   constructor
   ·exact fun h=>⟨h i (qn _) hi,fun k h1 h2=>h k (by omega) h2⟩
   ·rintro⟨h1,h2⟩ k h3 h4
    by_cases e:k=i
    ·subst e;exact h1
    ·exact h2 k (by omega) h4
  rw[step,y1a hi]
  simp only[ex]
  rw[y9r,y4u]
  have ih:=fun b' a'=>y5I l m (i+1) b' a' (by omega)
  generalize l.getD i default=x at*
  generalize l.getD (i- 1) default=y at*
  unfold Ok1 Nx
  by_cases c1:x.kind<0\/2<x.kind
  ·rw[if_pos c1];constructor
   ·intro h;omega
   ·rintro⟨⟨⟨h,_⟩,_⟩,_⟩;omega
  rw[if_neg c1]
  have n0:(z77 (ex (l.drop (i+1))):Int)>=0:=Int.natCast_nonneg _
  have n1:(z6L (ex (l.drop (i+1))):Int)>=0:=Int.natCast_nonneg _
  by_cases c2:x.n<1\/2147483647<x.n
  ·rw[if_pos c2];constructor
   ·intro h;omega
   ·rintro⟨⟨⟨h,_⟩,_⟩,h1,h2⟩
    exfalso
    by_cases k1:x.kind=1
    ·rw[if_neg (by omega)] at h2;omega
    ·rw[if_neg k1] at h1;omega
  rw[if_neg c2]
  have hn:(x.n.toNat:Int)=x.n:=zY (by omega)
  rw[hn]
  by_cases c3:0<i/\(y.kind=x.kind\/(y.kind=2/\x.kind=1))
  ·rw[if_pos c3];constructor
   ·intro h;omega
   ·rintro⟨⟨⟨_,h⟩,_⟩,_⟩
    have:=h c3.1
    rcases c3.2 with q|q
    ·exact absurd q this.1
    ·exact absurd q this.2
  rw[if_neg c3,ih _ _ (by split<;>omega) (by split<;>omega) (by split<;>omega) (by split<;>omega)]
  constructor
  ·rintro⟨f,h1,h2⟩
   refine⟨⟨⟨⟨by omega,by omega,by omega⟩,fun h0=>⟨fun e=>c3 ⟨h0,.inl e⟩,fun e=>c3 ⟨h0,.inr e⟩⟩⟩,f⟩,?_,?_⟩
   ·by_cases k1:x.kind=1
    ·rw[if_pos k1];rw[if_neg (by omega)] at h1;omega
    ·rw[if_neg k1];rw[if_pos k1] at h1;omega
   ·by_cases k1:x.kind=2
    ·rw[if_pos k1];rw[if_neg (by omega)] at h2;omega
    ·rw[if_neg k1];rw[if_pos k1] at h2;omega
  ·rintro⟨⟨_,f⟩,h1,h2⟩
   refine⟨f,?_,?_⟩
   ·by_cases k1:x.kind=1
    ·rw[if_pos k1] at h1;rw[if_neg (by omega)];omega
    ·rw[if_neg k1] at h1;rw[if_pos k1];omega
   ·by_cases k1:x.kind=2
    ·rw[if_pos k1] at h2;rw[if_neg (by omega)];omega
    ·rw[if_neg k1] at h2;rw[if_pos k1];omega
theorem y0b:∀{l:List AxStep},y2O l 0->y2N l
 | [],_=>trivial
 | [s],h=>(h 0 (qn _) (by simp)).1
 |s::t::l,h=>by
  have h0:=h 0 (qn _) (by simp)
  have h1:=h 1 (by omega) (by simp)
  refine⟨h0.1,h1.2 (by omega),y0b (l:=t::l) (fun k _ hk=> ?_)⟩
  have:=h (k+1) (by omega) (by simp at hk|-;omega)
  refine⟨by simpa using this.1,fun hk0=> ?_⟩
  obtain⟨m,rfl⟩:∃m,k=m+1:=⟨k- 1,by omega⟩
  simpa using this.2 (by omega)
theorem z7r:∀{l:List AxStep},y2N l->y2O l 0
 | [],_=>fun k _ hk=>by simp at hk
 |s::l,h=>by
  have ih:=z7r h.tail
  intro k _ hk
  cases k with
  |zero=>exact⟨h.head,fun h=>absurd h (by decide)⟩
  |succ k=>
   have:=ih k (by omega) (by simpa using hk)
   refine⟨by simpa using this.1,fun _=> ?_⟩
   cases k with
   |zero=>
    cases l with
    |nil=>simp at hk
    |cons t l=>exact h.2.1
   |succ k=>simpa using this.2 (by omega)
def z4O(l:List AxStep):Prop:=y2N l/\z77 (ex l)<=2147483647/\z6L (ex l)<=2147483647
theorem z5a{l:List AxStep}:z13 l=0↔z4O l:=by
 unfold z13 z4O
 rw[y5I l _ 0 0 0 rfl (by decide) (by decide) (by decide) (by decide),List.drop_zero]
 constructor
 ·rintro⟨a,b,c⟩;exact⟨y0b a,by omega,by omega⟩
 ·rintro⟨a,b,c⟩;exact⟨z7r a,by omega,by omega⟩
end Go.Ch
end
section
set_option maxRecDepth 100000
set_option maxHeartbeats 4000000
open Go Go.Proofs Go.Ab
namespace Go.Ch
theorem z4b(l:List AxStep):FC Tryz.prog 136 [VL 2 z0P l] (app emp []) (VI (z13 l)) (app emp []):=by
 refine .go Tryz.f136 ?_
 refine .len 0 (fun hl0=> ?_)
 refine .loop (α:=Int×Int×Nat) [.r [],.r [],.r [(1,X (Xl z0P l))]] 48 (fun(b,a,i)=>([(0,VL 2 z0P l),(3,VI b),(4,VI a),(7,VL 2 z0P l),(8,VI (l.length:Int)),(9,VI (i:Int))],[])) (fun(b,a,i)=>i<=l.length/\0<=b/\b<=2147483648/\0<=a/\a<=2147483648/\z13 l=y4t l i b a) (fun(b,a,i)=>l.length-i) (0,0,0) ?_ ?_
 ·
  exact⟨by omega,by decide,by decide,by decide,by decide,rfl⟩
 rintro⟨b,a,i⟩ I3 ih3
 try dsimp only at I3
 refine .bp [.r []] (decide ((i:Int)< (l.length:Int))) (fun h3=> ?_) (fun h3=> ?_)
 ·
  refine .bp [.r [(1,X (Xi z0P l (i:Int)))],.r [(5,Xv 1 (!(decide ((((l.getD i default)).kind)< 0))) X0),(6,Xv 1 (!(decide ((((l.getD i default)).kind)< 0))) X0),(7,X (Xk' (decide ((((l.getD i default)).kind)< 0))))]] (decide ((((l.getD i default)).kind)< 0)||decide ((((l.getD i default)).kind)> 2)) (fun h5=> ?_) (fun h5=> ?_)
  ·
   have e1:((z13 l):Int)=8:=by
    rw[I3.2.2.2.2.2,y4t];((repeat' split)<;>first|rfl|omega| (simp_all;done)| (simp_all;omega))
   exact .finE [.r []] [] (fun z0:Int=>(VI z0,[])) _ _ e1
  ·
   refine .bp [.r [(5,Xv 1 (!(decide ((((l.getD i default)).n)< 1))) X0),(6,Xv 1 (!(decide ((((l.getD i default)).n)< 1))) X0),(7,X (Xk' (decide ((((l.getD i default)).n)< 1))))]] (decide ((((l.getD i default)).n)< 1)||decide ((((l.getD i default)).n)> 2147483647)) (fun h7=> ?_) (fun h7=> ?_)
   ·
    have e2:((z13 l):Int)=2:=by
     rw[I3.2.2.2.2.2,y4t];((repeat' split)<;>first|rfl|omega| (simp_all;done)| (simp_all;omega))
    exact .finE [.r []] [] (fun z0:Int=>(VI z0,[])) _ _ e2
   ·
    refine .bp [.r [(5,Xv 1 (decide ((i:Int)> 0)) (Xn ((i:Int)- 1))),(6,Xv 2 (decide ((i:Int)> 0)) (Xi' z0P l ((i:Int)- 1) (i- 1))),(7,Xv 1 (decide ((i:Int)> 0)) X0),(8,Xv 1 (decide ((i:Int)> 0)) X0),(10,Xv 1 (decide ((i:Int)> 0)) X0),(11,Xv 2 (decide ((i:Int)> 0)) X0),(12,Xv 1 (decide ((i:Int)> 0)) X0),(15,Xv 1 ((decide ((i:Int)> 0))&& !((((l.getD (i- 1) default)).kind)==(((l.getD i default)).kind))) (Xn ((i:Int)- 1))),(16,Xv 2 ((decide ((i:Int)> 0))&& !((((l.getD (i- 1) default)).kind)==(((l.getD i default)).kind))) (Xi' z0P l ((i:Int)- 1) (i- 1))),(17,Xv 1 ((decide ((i:Int)> 0))&& !((((l.getD (i- 1) default)).kind)==(((l.getD i default)).kind))) X0),(18,Xv 1 ((decide ((i:Int)> 0))&& !((((l.getD (i- 1) default)).kind)==(((l.getD i default)).kind))) X0),(19,Xv 1 ((decide ((i:Int)> 0))&& !((((l.getD (i- 1) default)).kind)==(((l.getD i default)).kind))) X0),(20,Xv 1 ((decide ((i:Int)> 0))&& !((((l.getD (i- 1) default)).kind)==(((l.getD i default)).kind))) X0),(22,Xv 1 (((decide ((i:Int)> 0))&& !((((l.getD (i- 1) default)).kind)==(((l.getD i default)).kind)))&&((((l.getD (i- 1) default)).kind)==2)) X0),(23,Xv 1 (((decide ((i:Int)> 0))&& !((((l.getD (i- 1) default)).kind)==(((l.getD i default)).kind)))&&((((l.getD (i- 1) default)).kind)==2)) X0),(24,Xka ((decide ((i:Int)> 0))&& !((((l.getD (i- 1) default)).kind)==(((l.getD i default)).kind))) ((((l.getD (i- 1) default)).kind)==2)),(25,Xko (decide ((i:Int)> 0)) ((((l.getD (i- 1) default)).kind)==(((l.getD i default)).kind))),(26,X (Xk (decide ((i:Int)> 0))))]] (decide ((i:Int)> 0)&&(((((l.getD (i- 1) default)).kind)==(((l.getD i default)).kind))|| (((((l.getD (i- 1) default)).kind)==2)&&((((l.getD i default)).kind)==1)))) (fun h9=> ?_) (fun h9=> ?_)
    ·
     have e3:((z13 l):Int)=5:=by
      rw[I3.2.2.2.2.2,y4t];((repeat' split)<;>first|rfl|omega| (simp_all;done)| (simp_all;omega))
     exact .finE [.r []] [] (fun z0:Int=>(VI z0,[])) _ _ e3
    ·
     refine .bp [.r []] ((((l.getD i default)).kind) !=1) (fun h11=> ?_) (fun h11=> ?_)
     ·
      refine .bp [.r [(3,X (Xn (b+(((l.getD i default)).n)))),(4,X (y8h (b+(((l.getD i default)).n)) 2147483648))],.r []] ((((l.getD i default)).kind) !=2) (fun h13=> ?_) (fun h13=> ?_)
      ·
       refine .at 568 [(80,80)] ([(0,VL 2 z0P l),(3,VI (min (b+(((l.getD i default)).n)) 2147483648)),(4,VI a),(6,.ptr 80 0),(7,VL 2 z0P l),(8,VI (l.length:Int)),(9,VI (i:Int)),(70,VB ((((l.getD i default)).kind) !=2))],[(80,.box [VI (((l.getD i default)).kind),VI (((l.getD i default)).n)])]) ?_
       refine .back [.r [(3,X (Xn (a+(((l.getD i default)).n)))),(4,X (y8h (a+(((l.getD i default)).n)) 2147483648))],.r [(0,X (Xn ((i:Int)+1)))]] [] (ih3 ((min (b+(((l.getD i default)).n)) 2147483648),(min (a+(((l.getD i default)).n)) 2147483648),(i+1)) ?_ ?_)
       ·
        refine⟨by omega,by omega,by omega,by omega,by omega,?_⟩;rw[I3.2.2.2.2.2,y4t];((repeat' split)<;>first|rfl|omega| (simp_all;done)| (simp_all;omega))
       ·
        ((try dsimp only);omega)
      ·
       refine .at 568 [(80,80)] ([(0,VL 2 z0P l),(3,VI (min (b+(((l.getD i default)).n)) 2147483648)),(4,VI a),(6,.ptr 80 0),(7,VL 2 z0P l),(8,VI (l.length:Int)),(9,VI (i:Int)),(70,VB ((((l.getD i default)).kind) !=2))],[(80,.box [VI (((l.getD i default)).kind),VI (((l.getD i default)).n)])]) ?_
       refine .back [.r [(0,X (Xn ((i:Int)+1)))]] [] (ih3 ((min (b+(((l.getD i default)).n)) 2147483648),a,(i+1)) ?_ ?_)
       ·
        refine⟨by omega,by omega,by omega,by omega,by omega,?_⟩;rw[I3.2.2.2.2.2,y4t];((repeat' split)<;>first|rfl|omega| (simp_all;done)| (simp_all;omega))
       ·
        ((try dsimp only);omega)
     ·
      refine .bp [.r []] ((((l.getD i default)).kind) !=2) (fun h13=> ?_) (fun h13=> ?_)
      ·
       refine .at 520 [(80,80)] ([(0,VL 2 z0P l),(3,VI b),(4,VI a),(6,.ptr 80 0),(7,VL 2 z0P l),(8,VI (l.length:Int)),(9,VI (i:Int)),(70,VB ((((l.getD i default)).kind) !=2))],[(80,.box [VI (((l.getD i default)).kind),VI (((l.getD i default)).n)])]) ?_
       refine .back [.r [(3,X (Xn (a+(((l.getD i default)).n)))),(4,X (y8h (a+(((l.getD i default)).n)) 2147483648))],.r [(0,X (Xn ((i:Int)+1)))]] [] (ih3 (b,(min (a+(((l.getD i default)).n)) 2147483648),(i+1)) ?_ ?_)
       ·
        refine⟨by omega,by omega,by omega,by omega,by omega,?_⟩;rw[I3.2.2.2.2.2,y4t];((repeat' split)<;>first|rfl|omega| (simp_all;done)| (simp_all;omega))
       ·
        ((try dsimp only);omega)
      ·
       refine .at 520 [(80,80)] ([(0,VL 2 z0P l),(3,VI b),(4,VI a),(6,.ptr 80 0),(7,VL 2 z0P l),(8,VI (l.length:Int)),(9,VI (i:Int)),(70,VB ((((l.getD i default)).kind) !=2))],[(80,.box [VI (((l.getD i default)).kind),VI (((l.getD i default)).n)])]) ?_
       refine .back [.r [(0,X (Xn ((i:Int)+1)))]] [] (ih3 (b,a,(i+1)) ?_ ?_)
       ·
        refine⟨by omega,by omega,by omega,by omega,by omega,?_⟩;rw[I3.2.2.2.2.2,y4t];((repeat' split)<;>first|rfl|omega| (simp_all;done)| (simp_all;omega))
       ·
        ((try dsimp only);omega)
 ·
  refine .bp [.r [(4,Xv 1 (!(decide (b>2147483647))) X0),(5,X (Xk' (decide (b>2147483647))))]] (decide (b>2147483647)||decide (a>2147483647)) (fun h16=> ?_) (fun h16=> ?_)
  ·
   have e4:((z13 l):Int)=3:=by
    rw[I3.2.2.2.2.2,y4t];((repeat' split)<;>first|rfl|omega| (simp_all;done)| (simp_all;omega))
   exact .finE [.r []] [] (fun z0:Int=>(VI z0,[])) _ _ e4
  ·
   have e5:((z13 l):Int)=0:=by
    rw[I3.2.2.2.2.2,y4t];((repeat' split)<;>first|rfl|omega| (simp_all;done)| (simp_all;omega))
   exact .finE [.r []] [] (fun z0:Int=>(VI z0,[])) _ _ e5
theorem x77{l:List AxStep}{i:Nat}(h:i<l.length):ex (l.drop i)=rep (l.getD i default).n.toNat (uOf (l.getD i default).kind)++ex (l.drop (i+1)):=by rw[y1a h];rfl
def z3o(l:List AxStep):Int:=(z77 (ex l):Int)
def z2M(l:List AxStep):Int:=(z6L (ex l):Int)
theorem y2P{l:List AxStep}{i:Nat}(h:i<l.length)(hf:y2N l):(z77 (ex (l.drop i)):Int)=(if(l.getD i default).kind=1 then 0 else(l.getD i default).n)+z77 (ex (l.drop (i+1)))/\
 (z6L (ex (l.drop i)):Int)=(if(l.getD i default).kind=2 then 0 else(l.getD i default).n)+z6L (ex (l.drop (i+1)))/\1<=(l.getD i default).n/\0<=(l.getD i default).kind/\(l.getD i default).kind<=2:=by
 have h1:=((z7r hf) i (qS _) h).1
 have hn:((l.getD i default).n.toNat:Int)=(l.getD i default).n:=zY (by have:=h1.2.2;omega)
 rw[x77 h,y9r,y4u,hn]
 exact⟨rfl,rfl,h1.2.2,h1.1,h1.2.1⟩
theorem x3C{l:List AxStep}{i:Nat}(h:l.length<=i):ex (l.drop i)=[]:=by rw[qM h];rfl
theorem y2Q(l:List AxStep)(hv:z4O l):FC Tryz.prog 238 [VL 2 z0P l] (app emp []) (.tup [VI (z3o l),VI (z2M l)]) (app emp []):=by
 refine .go Tryz.f238 ?_
 refine .len 0 (fun hl0=> ?_)
 refine .loop (α:=Int×Int×Nat) [.r [],.r [],.r [(1,X (Xl z0P l))]] 56 (fun(b,a,i)=>([(4,VI b),(5,VI a),(8,VL 2 z0P l),(9,VI (l.length:Int)),(10,VI (i:Int))],[])) (fun(b,a,i)=>i<=l.length/\0<=b/\0<=a/\z3o l=b+z77 (ex (l.drop i))/\z2M l=a+z6L (ex (l.drop i))) (fun(b,a,i)=>l.length-i) (0,0,0) ?_ ?_
 ·
  exact⟨by omega,by decide,by decide,by simp[z3o],by simp[z2M]⟩
 rintro⟨b,a,i⟩ I3 ih3
 try dsimp only at I3
 have hv1:z3o l<=2147483647:=by have:=hv.2.1;unfold z3o;omega
 have hv2:z2M l<=2147483647:=by have:=hv.2.2;unfold z2M;omega
 refine .bp [.r []] (decide ((i:Int)< (l.length:Int))) (fun h3=> ?_) (fun h3=> ?_)
 ·
  have hst:=y2P (l:=l) (i:=i) (by omega) hv.1
  refine .bp [.r [(0,X (Xi z0P l (i:Int)))],.r []] ((((l.getD i default)).kind) !=1) (fun h5=> ?_) (fun h5=> ?_)
  ·
   refine .bp [.r [(3,X (Xn (b+(((l.getD i default)).n))))],.r []] ((((l.getD i default)).kind) !=2) (fun h7=> ?_) (fun h7=> ?_)
   ·
    refine .back [.r [(3,X (Xn (a+(((l.getD i default)).n))))],.r [(0,X (Xn ((i:Int)+1)))]] [] (ih3 ((b+(((l.getD i default)).n)),(a+(((l.getD i default)).n)),(i+1)) ?_ ?_)
    ·
     obtain⟨s1,s2,s3,s4,s5⟩:=hst
     first|rw[if_pos (by omega)] at s1|rw[if_neg (by omega)] at s1
     first|rw[if_pos (by omega)] at s2|rw[if_neg (by omega)] at s2
     refine⟨by omega,by omega,by omega,by omega,by omega⟩
    ·
     ((try dsimp only);omega)
   ·
    refine .back [.r [(0,X (Xn ((i:Int)+1)))]] [] (ih3 ((b+(((l.getD i default)).n)),a,(i+1)) ?_ ?_)
    ·
     obtain⟨s1,s2,s3,s4,s5⟩:=hst
     first|rw[if_pos (by omega)] at s1|rw[if_neg (by omega)] at s1
     first|rw[if_pos (by omega)] at s2|rw[if_neg (by omega)] at s2
     refine⟨by omega,by omega,by omega,by omega,by omega⟩
    ·
     ((try dsimp only);omega)
  ·
   refine .bp [.r []] ((((l.getD i default)).kind) !=2) (fun h7=> ?_) (fun h7=> ?_)
   ·
    refine .back [.r [(3,X (Xn (a+(((l.getD i default)).n))))],.r [(0,X (Xn ((i:Int)+1)))]] [] (ih3 (b,(a+(((l.getD i default)).n)),(i+1)) ?_ ?_)
    ·
     obtain⟨s1,s2,s3,s4,s5⟩:=hst
     first|rw[if_pos (by omega)] at s1|rw[if_neg (by omega)] at s1
     first|rw[if_pos (by omega)] at s2|rw[if_neg (by omega)] at s2
     refine⟨by omega,by omega,by omega,by omega,by omega⟩
    ·
     ((try dsimp only);omega)
   ·
    refine .back [.r [(0,X (Xn ((i:Int)+1)))]] [] (ih3 (b,a,(i+1)) ?_ ?_)
    ·
     obtain⟨s1,s2,s3,s4,s5⟩:=hst
     first|rw[if_pos (by omega)] at s1|rw[if_neg (by omega)] at s1
     first|rw[if_pos (by omega)] at s2|rw[if_neg (by omega)] at s2
     refine⟨by omega,by omega,by omega,by omega,by omega⟩
    ·
     ((try dsimp only);omega)
 ·
  have e1:((z3o l):Int)=b:=by
   have:=x3C (l:=l) (i:=i) (by omega)
   rw[this] at I3
   have i1:=I3.2.2.2.1
   have i2:=I3.2.2.2.2
   simp only[z77,z6L] at i1 i2
   omega
  have e2:((z2M l):Int)=a:=by
   have:=x3C (l:=l) (i:=i) (by omega)
   rw[this] at I3
   have i1:=I3.2.2.2.1
   have i2:=I3.2.2.2.2
   simp only[z77,z6L] at i1 i2
   omega
  exact .finE [.r []] [] (fun((z0,z1):Int×Int)=>(.tup [VI z0,VI z1],[])) _ _ (pr e1 e2)
theorem y2R(l:List AxStep)(hv:z4O l):FC Tryz.prog 206 [VL 2 z0P l] (app emp []) (.tup [VI (z3o l),VI (z2M l),VI 0]) (app emp []):=by
 refine .go Tryz.f206 ?_
 refine .len 0 (fun hl0=> ?_)
 have hc:=z5a.2 hv
 refine .bp [.r [],.r [(1,X (Xc0 (z4b l) X0))],.r []] ((z13 l) !=0) (fun h2=> ?_) (fun h2=> ?_)
 ·
  exfalso
  omega
 ·
  exact .fin [.r [(1,X (Xc0 (y2Q l (by assumption)) X0))],.r []] []
end Go.Ch
end
section
namespace Go.Ch
open Go Go.Ab
section
variable {w:Wr} {ps qs:List AxStep} {pu qu:Int} {T:Nat} {G:Wr}
end
section
variable {x y:Wr} {ps qs:List AxStep} {pu qu:Int} {T:Nat} {G1 G2:Wr}
end
end Go.Ch
end
section

end
section
namespace Go.Ch
open Go Go.Ab
def z0C:List AxStep->Int->Int->Int->Int
 | [],_,_,_=> -1
 |s::l,p,fr,tq=>if s.kind=1 then z0C l p fr (tq+s.n) else if s.kind=0 then(if p<fr+s.n then tq+p-fr else z0C l p (fr+s.n) (tq+s.n)) else(if p<fr+s.n then-1 else z0C l p (fr+s.n) tq)
def y7w:List AxStep->Int->Bool->Int->Int->Int
 | [],_,_,_,tq=>tq
 |s::l,at_,r,fr,tq=>y7w l at_ r (if s.kind=1 then fr else fr+s.n) (if s.kind=1/\(fr<at_\/(fr=at_/\r=true)) then tq+s.n else if s.kind=0 then tq+min s.n (max 0 (at_-fr)) else tq)
theorem x3D:∀{l:List AxStep} (hl:y2N l) (a:Int) (r:Bool) (fr tq:Int),tq<=y7w l a r fr tq
 | [],_,a,r,fr,tq=>zz _
 |s::l,hl,a,r,fr,tq=>by
  have ih:=x3D hl.tail a r (if s.kind=1 then fr else fr+s.n) (if s.kind=1/\(fr<a\/(fr=a/\r=true)) then tq+s.n else if s.kind=0 then tq+min s.n (max 0 (a-fr)) else tq)
  have hn:=hl.head.2.2
  rw[y7w]
  refine Int.le_trans ?_ ih
  split
  ·omega
  ·split<;>omega
theorem y5J:∀{l:List AxStep} (hl:y2N l) (a fr tq tq':Int),tq<=tq'->y7w l a false fr tq<=y7w l a true fr tq'
 | [],_,a,fr,tq,tq',h=>h
 |s::l,hl,a,fr,tq,tq',h=>by
  have hn:=hl.head.2.2
  rw[y7w,y7w]
  refine y5J hl.tail a _ _ _ ?_
  by_cases k1:s.kind=1
  ·by_cases c:fr<a
   ·rw[if_pos ⟨k1,.inl c⟩,if_pos ⟨k1,.inl c⟩];omega
   ·have n1:¬(s.kind=1/\(fr<a\/(fr=a/\false=true))):=by
     rintro⟨_,h|h⟩
     ·omega
     ·cases h.2
    have k0:¬s.kind=0:=by omega
    rw[if_neg n1,if_neg k0]
    split
    ·omega
    ·exact h
  ·rw[if_neg (show¬(s.kind=1/\(fr<a\/(fr=a/\false=true))) from fun e=>k1 e.1),if_neg (show¬(s.kind=1/\(fr<a\/(fr=a/\true=true))) from fun e=>k1 e.1)]
   split<;>omega
theorem y5K:∀{l:List AxStep} (hl:y2N l) (a:Int) (r:Bool) (fr tq:Int),a<fr->y7w l a r fr tq=tq
 | [],_,a,r,fr,tq,h=>rfl
 |s::l,hl,a,r,fr,tq,h=>by
  have hn:=hl.head.2.2
  rw[y7w,if_neg (by omega:¬(s.kind=1/\(fr<a\/(fr=a/\r=true))))]
  rw[y5K hl.tail a r _ _ (by split<;>omega)]
  split<;>omega
theorem z6N:∀{l:List AxStep} (hl:y2N l) (p fr tq:Int),fr<=p->0<=z0C l p fr tq->y7w l p true fr tq<=z0C l p fr tq
 | [],_,p,fr,tq,h,h0=>by simp[z0C] at h0
 |s::l,hl,p,fr,tq,h,h0=>by
  have hn:=hl.head.2.2
  have hk:=x2c hl.head
  rw[z0C] at h0|-
  rw[y7w]
  by_cases k1:s.kind=1
  ·rw[if_pos k1] at h0|-
   rw[if_pos k1,if_pos ⟨k1,by rcases Int.lt_or_eq_of_le h with h|h;exact .inl h;exact .inr ⟨h,rfl⟩⟩]
   exact z6N hl.tail p fr _ h h0
  ·rw[if_neg k1] at h0|-
   rw[if_neg k1,if_neg (by omega:¬(s.kind=1/\(fr<p\/(fr=p/\true=true))))]
   by_cases k0:s.kind=0
   ·rw[if_pos k0] at h0|-
    rw[if_pos k0]
    by_cases c:p<fr+s.n
    ·rw[if_pos c] at h0|-
     rw[y5K hl.tail p true _ _ (by omega)];omega
    ·rw[if_neg c] at h0|-
     rw[show min s.n (max 0 (p-fr))=s.n by omega]
     exact z6N hl.tail p _ _ (by omega) h0
   ·rw[if_neg k0] at h0|-
    rw[if_neg k0]
    by_cases c:p<fr+s.n
    ·rw[if_pos c] at h0;omega
    ·rw[if_neg c] at h0|-
     exact z6N hl.tail p _ _ (by omega) h0
theorem z6O:∀{l:List AxStep} (hl:y2N l) (p q fr tq:Int),fr<=p->p<q->0<=z0C l p fr tq->z0C l p fr tq+1<=y7w l q false fr tq
 | [],_,p,q,fr,tq,h,hq,h0=>by simp[z0C] at h0
 |s::l,hl,p,q,fr,tq,h,hq,h0=>by
  have hn:=hl.head.2.2
  rw[z0C] at h0|-
  rw[y7w]
  by_cases k1:s.kind=1
  ·rw[if_pos k1] at h0|-
   rw[if_pos k1,if_pos ⟨k1,by omega⟩]
   exact z6O hl.tail p q fr _ h hq h0
  ·rw[if_neg k1] at h0|-
   rw[if_neg k1,if_neg (by omega:¬(s.kind=1/\(fr<q\/(fr=q/\false=true))))]
   by_cases k0:s.kind=0
   ·rw[if_pos k0] at h0|-
    rw[if_pos k0]
    by_cases c:p<fr+s.n
    ·rw[if_pos c] at h0|-
     have:=x3D hl.tail q false (fr+s.n) (tq+min s.n (max 0 (q-fr)))
     omega
    ·rw[if_neg c] at h0|-
     rw[show min s.n (max 0 (q-fr))=s.n by omega]
     exact z6O hl.tail p q _ _ (by omega) hq h0
   ·rw[if_neg k0] at h0|-
    rw[if_neg k0]
    by_cases c:p<fr+s.n
    ·rw[if_pos c] at h0;omega
    ·rw[if_neg c] at h0|-
     exact z6O hl.tail p q _ _ (by omega) hq h0
structure Cell where
 row:Int
 col:Int
 text:ByteArray
 ref:Int
 attrs:List Attr
instance:Inhabited Cell:=⟨⟨0,0,{data:=#[]},0,[]⟩⟩
structure Rect where
 row:Int
 col:Int
 h:Int
 w:Int
deriving DecidableEq
instance:Inhabited Rect:=⟨⟨0,0,0,0⟩⟩
structure Grid where
 rows:Int
 cols:Int
 cells:List Cell
 merges:List Rect
instance:Inhabited Grid:=⟨⟨0,0,[],[]⟩⟩
structure GEd where
 rows:List AxStep
 cols:List AxStep
 cells:List Cell
 split:List Rect
 merge:List Rect
instance:Inhabited GEd:=⟨⟨[],[],[],[],[]⟩⟩
def z0k(c:Cell):Tree:= .agg [TI c.row,TI c.col,TS c.text,TI c.ref,.lst 2 (c.attrs.map z0a)]
def z0t(r:Rect):Tree:= .agg [TI r.row,TI r.col,TI r.h,TI r.w]
def y1b(g:Grid):Tree:= .agg [TI g.rows,TI g.cols,.lst 5 (g.cells.map z0k),.lst 4 (g.merges.map z0t)]
def x2d(e:GEd):Tree:= .agg [.lst 2 (e.rows.map z0P),.lst 2 (e.cols.map z0P),.lst 5 (e.cells.map z0k),.lst 4 (e.split.map z0t),.lst 4 (e.merge.map z0t)]
def z5b(a b:Cell):Int:=orL [z76 a.row b.row,z76 a.col b.col]
def z1K(c:Cell):Bool:=(seq c.text {data:=#[]}&&c.ref==0)&&(c.attrs.length:Int)==0
def x2e(r:Rect)(m n:Int):Bool:=decide (0<=r.row/\0<=r.col/\1<=r.h/\1<=r.w/\r.row<m/\r.col<n/\r.h<=m-r.row/\r.w<=n-r.col)
def x78(a b:Rect):Bool:=decide (a.row<b.row+b.h/\b.row<a.row+a.h/\a.col<b.col+b.w/\b.col<a.col+a.w)
def x9K(a b:Rect):Bool:=decide (a.row<b.row\/(a.row=b.row/\a.col<b.col))
theorem x2f{a b:Rect}(h1:a.row=b.row)(h2:a.col=b.col)(h3:a.h=b.h)(h4:a.w=b.w):a=b:=by
 cases a;cases b;simp_all
def mvR(a:List AxStep)(p:Int):Int:=if 0<a.length then z0C a p 0 0 else p
def mvC(rows cols:List AxStep)(c:Cell):Option Cell:=
 if 0<rows.length/\mvR rows c.row<0 then none else if 0<cols.length/\mvR cols c.col<0 then none else some {c with row:=mvR rows c.row,col:=mvR cols c.col}
def y3O(l:List Cell)(rows cols:List AxStep):List Cell:=l.filterMap (mvC rows cols)
def PIn(a:List AxStep)(p:Int):Prop:=0<a.length->z4O a/\0<=p/\p<z3o a
def CAN(k:Nat)(l:List Cell):Prop:=∀c∈l,c.attrs.length<=k
theorem y2S{l:List Cell}{i:Nat}(h:i<l.length):l.getD i default∈l:=by
 rw[show l.getD i default=l[i] by simp[List.getD,qb h]];exact zA _
theorem z3p{l:List Cell}{rows cols:List AxStep}{i:Nat}(h:i<l.length):y3O (l.take (i+1)) rows cols=y3O (l.take i) rows cols++(mvC rows cols (l.getD i default)).toList:=by
 unfold y3O
 rw[qz h,List.filterMap_append]
 simp only[List.getD,qb h,zC]
 simp only[List.filterMap_cons,List.filterMap_nil]
 cases mvC rows cols l[i]<;>rfl
theorem y1c(l:List Cell)(rows cols:List AxStep):(y3O l rows cols).length<=l.length:=zV _ _
def y15(c:Cell)(k:List Cell->List Cell):List Cell->List Cell
 | []=>(if z1K c=true then[] else[c])++k []
 |x::l=>if z5b x c<0 then x::y15 c k l else if z5b x c=0 then(if z1K c=true then[] else[c])++k l else(if z1K c=true then[] else[c])++k (x::l)
def z6P:List Cell->List Cell->List Cell
 | [],l=>l
 |c::ns,l=>y15 c (z6P ns) l
theorem x2g{l:List Cell}{i:Nat}(h:i<l.length):l.drop i=l.getD i default::l.drop (i+1):=by
 rw[zi h];simp[List.getD,qb h]
theorem y2T{l:List Cell}{i:Nat}(h:l.length<=i):l.drop i=[]:=qM h
theorem x4K{c:Cell}{k:List Cell->List Cell}{l:List Cell}{j:Nat}(h:j<l.length)(h0:z5b (l.getD j default) c<0):y15 c k (l.drop j)=l.getD j default::y15 c k (l.drop (j+1)):=by
 rw[x2g h,y15,if_pos h0]
theorem y1d{c:Cell}{k:List Cell->List Cell}{l:List Cell}{j:Nat}(h:j<l.length)(h0:z5b (l.getD j default) c=0):y15 c k (l.drop j)=(if z1K c=true then[] else[c])++k (l.drop (j+1)):=by
 rw[x2g h,y15,if_neg (by omega),if_pos h0]
theorem y1e{c:Cell}{k:List Cell->List Cell}{l:List Cell}{j:Nat}(h:j<l.length->0<z5b (l.getD j default) c):y15 c k (l.drop j)=(if z1K c=true then[] else[c])++k (l.drop j):=by
 by_cases hj:j<l.length
 ·have:=h hj
  rw[x2g hj,y15,if_neg (by omega),if_neg (by omega)]
 ·rw[y2T (by omega),y15]
def y7x(a b:Cell):Bool:=(((a.row==b.row&&a.col==b.col)&&seq a.text b.text)&&a.ref==b.ref)&&z0O a.attrs b.attrs
theorem z0j{α:Type}[Inhabited α]{l:List α}{i:Nat}(h:i<l.length):l.getD i default∈l:=by
 rw[show l.getD i default=l[i] by simp[List.getD,qb h]];exact zA _
theorem z5x{α:Type}[Inhabited α]{l:List α}{i:Nat}(h:i<l.length):l.drop i=l.getD i default::l.drop (i+1):=by
 rw[zi h];simp[List.getD,qb h]
def z2a(a b:List Cell)(i:Nat):Bool:=if i<a.length then(if y7x (a.getD i default) (b.getD i default)=true then z2a a b (i+1) else false) else true
termination_by a.length-i
def z3F(a b:List Cell):Bool:=if a.length=b.length then z2a a b 0 else false
def z2b(a b:List Rect)(i:Nat):Bool:=if i<a.length then(if a.getD i default=b.getD i default then z2b a b (i+1) else false) else true
termination_by a.length-i
def z5T(a b:List Rect):Bool:=if a.length=b.length then z2b a b 0 else false
def z9Q(a b:Grid):Bool:=((a.rows==b.rows&&a.cols==b.cols)&&z3F a.cells b.cells)&&z5T a.merges b.merges
def x79(u:ByteArray):Int:=((Lib.decodeGo u).1:Int)
def x6w(u:ByteArray):Nat:=(Lib.decodeGo u).2
theorem x4L{u:ByteArray}(h:0<u.size):1<=x6w u/\x6w u<=u.size:=by
 unfold x6w Lib.decodeGo
 rw[if_neg (by omega)]
 have hl:u.data.toList.length=u.size:=by rw[Array.length_toList];rfl
 rw[Lib.decode_N]
 have h1:=Lib.decodeN_ge1 (u.data.toList.length-0) (u.data.toList.getD 0 0).toNat (u.data.toList.getD (0+1) 0).toNat (u.data.toList.getD (0+2) 0).toNat (u.data.toList.getD (0+3) 0).toNat
 have h2:=Lib.decodeN_width_le (u.data.toList.length-0) (u.data.toList.getD 0 0).toNat (u.data.toList.getD (0+1) 0).toNat (u.data.toList.getD (0+2) 0).toNat (u.data.toList.getD (0+3) 0).toNat (by omega)
 omega
def x8a(u:ByteArray):Prop:=(x79 u=65533/\x6w u=1)\/x79 u=10\/¬z4v (x79 u)
instance (u:ByteArray):Decidable (x8a u):=by unfold x8a z4v;infer_instance
def y1f(u:ByteArray):Bool:=if h:0<u.size then(if x8a u then false else y1f (u.extract (x6w u) u.size)) else true
termination_by u.size
decreasing_by
 have:=x4L h
 rw[ByteArray.size_extract]
 omega
theorem y9s{u:ByteArray}(h:¬0<u.size):y1f u=true:=by rw[y1f,dif_neg h]
def tailG(u:ByteArray)(p:Nat):ByteArray:=u.extract p u.size
theorem z8k(a b:Cell):z5b a b=if a.row<b.row then-1 else if a.row>b.row then 1 else if a.col<b.col then-1 else if a.col>b.col then 1 else 0:=by
 unfold z5b
 simp only[orL]
 unfold z76
 by_cases h1:a.row<b.row
 ·rw[if_pos h1,if_pos (by decide),if_pos h1]
 ·rw[if_neg h1,if_neg h1]
  by_cases h2:a.row>b.row
  ·rw[if_pos h2,if_pos (by decide),if_pos h2]
  ·rw[if_neg h2,if_neg (by decide),if_neg h2]
   by_cases h3:a.col<b.col
   ·rw[if_pos h3,if_pos (by decide)]
   ·rw[if_neg h3]
    by_cases h4:a.col>b.col
    ·rw[if_pos h4,if_pos (by decide)]
    ·rw[if_neg h4,if_neg (by decide)]
theorem y1g{a b:Cell}:z5b a b<0↔a.row<b.row\/(a.row=b.row/\a.col<b.col):=by
 rw[z8k];repeat' split
 all_goals omega
theorem y9t{a b:Cell}:z5b a b=0↔a.row=b.row/\a.col=b.col:=by
 rw[z8k];repeat' split
 all_goals omega
def z78(c:Cell)(m n:Int)(none:Bool):Int:=
 if c.row<0\/m<=c.row\/c.col<0\/n<=c.col then 2
 else if c.ref<0\/1073741824<c.ref then 2
 else if y1f c.text=false then 23
 else if¬z1B false c.attrs 0=0 then z1B false c.attrs 0
 else if z1K c=true/\none=false then 4 else 0
def z0V(l:List Cell)(m n:Int)(none:Bool)(i:Nat):Int:=
 if i<l.length then
  (if¬z78 (l.getD i default) m n none=0 then z78 (l.getD i default) m n none
   else if 0<i/\0<=z5b (l.getD (i- 1) default) (l.getD i default) then 5 else z0V l m n none (i+1))
 else 0
termination_by l.length-i
def SzC(l:List Cell):Prop:=∀c∈l,c.text.size<=9223372036854775807/\Szd c.attrs
def x9L(l:List Rect)(r:Rect):Bool:=l.any (fun q=>x78 q r)
def y9u(l:List Rect)(m n:Int)(i:Nat):Int:=
 if i<l.length then
  (if x2e (l.getD i default) m n=false then 2
   else if(l.getD i default).h=1/\(l.getD i default).w=1 then 4
   else if 0<i/\x9K (l.getD (i- 1) default) (l.getD i default)=false then 5
   else if x9L (l.take i) (l.getD i default)=true then 21
   else y9u l m n (i+1))
 else 0
termination_by l.length-i
def z18(g:Grid):Int:=
 if g.rows<0\/2147483647<g.rows\/g.cols<0\/2147483647<g.cols then 2
 else if¬z0V g.cells g.rows g.cols false 0=0 then z0V g.cells g.rows g.cols false 0
 else y9u g.merges g.rows g.cols 0
def z4P{α:Type}[Inhabited α](p:α->Bool)(l:List α)(i:Nat):Int:=if i<l.length then(if p (l.getD i default)=true then(i:Int) else z4P p l (i+1)) else-1
termination_by l.length-i
theorem y9v{α:Type}[Inhabited α](p:α->Bool){l:List α}:∀(n i:Nat),l.length-i=n->(0<=z4P p l i↔(l.drop i).any p=true)
 |0,i,h=>by rw[z4P,if_neg (by omega),qM (by omega)];simp
 |n+1,i,h=>by
  have hi:i<l.length:=by omega
  rw[z4P,if_pos hi,z5x hi,zH]
  by_cases hp:p (l.getD i default)=true
  ·rw[if_pos hp,hp];simp
  ·rw[if_neg hp,y9v p n (i+1) (by omega)]
   simp only[zJ] at hp
   rw[hp,Bool.false_or]
theorem y5L{α:Type}[Inhabited α](p:α->Bool)(l:List α):(0<=z4P p l 0)=((l.any p)=true):=propext (by rw[y9v p _ 0 rfl,List.drop_zero])
def z6Q(l:List Rect)(m n:Int)(i:Nat):Int:=if i<l.length then(if x2e (l.getD i default) m n=false then 2 else z6Q l m n (i+1)) else 0
termination_by l.length-i
def mgE(l:List Rect)(m n:Int)(i:Nat):Int:=if i<l.length then(if x2e (l.getD i default) m n=false then 2 else if(l.getD i default).h=1/\(l.getD i default).w=1 then 4 else mgE l m n (i+1)) else 0
termination_by l.length-i
def y4v(l:List Cell)(m n:Int)(i:Nat):Int:=if i<l.length then(if m<=(l.getD i default).row\/n<=(l.getD i default).col then 2 else y4v l m n (i+1)) else 0
termination_by l.length-i
theorem z6R{l:List Rect}{m n:Int}:∀(k i:Nat),l.length-i=k->z6Q l m n i=0->∀j,i<=j->j<l.length->x2e (l.getD j default) m n=true
 |0,i,h,_,j,h1,h2=>by omega
 |k+1,i,h,h0,j,h1,h2=>by
  rw[z6Q,if_pos (by omega)] at h0
  split at h0
  ·cases h0
  ·rename_i hb
   by_cases e:i=j
   ·rw[<-e];simpa using hb
   ·exact z6R k (i+1) (by omega) h0 j (by omega) h2
theorem y9w{l:List Rect}{m n:Int}:∀(k i:Nat),l.length-i=k->mgE l m n i=0->∀j,i<=j->j<l.length->x2e (l.getD j default) m n=true/\¬((l.getD j default).h=1/\(l.getD j default).w=1)
 |0,i,h,_,j,h1,h2=>by omega
 |k+1,i,h,h0,j,h1,h2=>by
  rw[mgE,if_pos (by omega)] at h0
  split at h0
  ·cases h0
  ·rename_i hb
   split at h0
   ·cases h0
   ·rename_i hc
    by_cases e:i=j
    ·rw[<-e];exact⟨by simpa using hb,hc⟩
    ·exact y9w k (i+1) (by omega) h0 j (by omega) h2
theorem y5M{l:List Cell}{m n:Int}:∀(k i:Nat),l.length-i=k->y4v l m n i=0->∀j,i<=j->j<l.length->(l.getD j default).row<m/\(l.getD j default).col<n
 |0,i,h,_,j,h1,h2=>by omega
 |k+1,i,h,h0,j,h1,h2=>by
  rw[y4v,if_pos (by omega)] at h0
  split at h0
  ·cases h0
  ·rename_i hb
   by_cases e:i=j
   ·rw[<-e];omega
   ·exact y5M k (i+1) (by omega) h0 j (by omega) h2
theorem z0T{α:Type}[Inhabited α]{l:List α}{x:α}(h:x∈l):∃j,j<l.length/\l.getD j default=x:=by
 obtain⟨j,hj,e⟩:=zd.1 h
 exact⟨j,hj,by rw[qe,qb hj];exact e⟩
structure EdOk(e:GEd):Prop where
 okr:z4O e.rows
 okc:z4O e.cols
 cells:z0V e.cells 2147483647 2147483647 true 0=0
 split:∀r∈e.split,x2e r 2147483647 2147483647=true
 merge:∀r∈e.merge,x2e r 2147483647 2147483647=true/\¬(r.h=1/\r.w=1)
def edE(e:GEd):Int:=
 if¬z13 e.rows=0 then z13 e.rows else if¬z13 e.cols=0 then z13 e.cols
 else if¬z0V e.cells 2147483647 2147483647 true 0=0 then z0V e.cells 2147483647 2147483647 true 0
 else if¬z6Q e.split 2147483647 2147483647 0=0 then z6Q e.split 2147483647 2147483647 0 else mgE e.merge 2147483647 2147483647 0
theorem y5N{e:GEd}(h:edE e=0):EdOk e:=by
 unfold edE at h
 split at h
 ·omega
 ·split at h
  ·omega
  ·split at h
   ·omega
   ·split at h
    ·omega
    ·refine⟨z5a.1 (by omega),z5a.1 (by omega),by omega,fun r hr=> ?_,fun r hr=> ?_⟩
     ·obtain⟨j,hj,rfl⟩:=z0T hr
      exact z6R _ 0 rfl (by omega) j (by omega) hj
     ·obtain⟨j,hj,rfl⟩:=z0T hr
      exact y9w _ 0 rfl h j (by omega) hj
def nwS(n:Int)(a:List AxStep):Int:=if 0<a.length then z2M a else n
structure FitOk(g:Grid)(e:GEd):Prop where
 rows:0<e.rows.length->z3o e.rows=g.rows
 cols:0<e.cols.length->z3o e.cols=g.cols
 cells:∀c∈e.cells,c.row<nwS g.rows e.rows/\c.col<nwS g.cols e.cols
 split:∀r∈e.split,x2e r (nwS g.rows e.rows) (nwS g.cols e.cols)=true
 merge:∀r∈e.merge,x2e r (nwS g.rows e.rows) (nwS g.cols e.cols)=true
def x6x(g:Grid)(e:GEd):Int:=
 if 0<e.rows.length/\¬z3o e.rows=g.rows then 14 else if 0<e.cols.length/\¬z3o e.cols=g.cols then 14
 else if¬y4v e.cells (nwS g.rows e.rows) (nwS g.cols e.cols) 0=0 then y4v e.cells (nwS g.rows e.rows) (nwS g.cols e.cols) 0
 else if¬z6Q e.split (nwS g.rows e.rows) (nwS g.cols e.cols) 0=0 then z6Q e.split (nwS g.rows e.rows) (nwS g.cols e.cols) 0
 else z6Q e.merge (nwS g.rows e.rows) (nwS g.cols e.cols) 0
theorem y9x{g:Grid}{e:GEd}(h:x6x g e=0):FitOk g e:=by
 unfold x6x at h
 split at h
 ·omega
 ·split at h
  ·omega
  ·split at h
   ·omega
   ·split at h
    ·omega
    ·refine⟨fun q=>by omega,fun q=>by omega,fun c hc=> ?_,fun r hr=> ?_,fun r hr=> ?_⟩
     ·obtain⟨j,hj,rfl⟩:=z0T hc
      exact y5M _ 0 rfl (by omega) j (by omega) hj
     ·obtain⟨j,hj,rfl⟩:=z0T hr
      exact z6R _ 0 rfl (by omega) j (by omega) hj
     ·obtain⟨j,hj,rfl⟩:=z0T hr
      exact z6R _ 0 rfl h j (by omega) hj
theorem x4M{l:List AxStep}(h:z4O l):0<=z2M l/\z2M l<=2147483647/\0<=z3o l/\z3o l<=2147483647:=by
 have:=h.2.1;have:=h.2.2
 unfold z2M z3o;omega
theorem x3E{n:Int}{a:List AxStep}(h:z4O a)(hn:0<=n/\n<=2147483647):0<=nwS n a/\nwS n a<=2147483647:=by
 have:=x4M h
 unfold nwS;split<;>omega
end Go.Ch
end
section
set_option maxRecDepth 100000
set_option maxHeartbeats 4000000
open Go Go.Proofs Go.Ab
namespace Go.Ch
theorem y5O(x:Int):FC Tryz.prog 224 [VI x] (app emp []) (VB false) (app emp []):=by
 refine .go Tryz.f224 ?_
 have e1:((x !=x):Bool)=false:=by
  simp
 exact .finE [.r [],.r []] [] (fun z0:Bool=>(VB z0,[])) _ _ e1.symm
theorem y1h(x y:Int):FC Tryz.prog 181 [VI x,VI y] (app emp []) (VI (z76 x y)) (app emp []):=by
 refine .go Tryz.f181 ?_
 refine .bp [.r [],.r [(1,X (Xc0 (y5O x) X0))],.r [(1,X (Xc0 (y5O y) X0))],.r [],.f,.r [],.f,.r []] (decide (x<y)) (fun h9=> ?_) (fun h9=> ?_)
 ·
  have e1:((z76 x y):Int)= -1:=by
   unfold z76;((repeat' split)<;>first|rfl|omega| (simp_all;done)| (simp_all;omega))
  exact .finE [.r []] [] (fun z0:Int=>(VI z0,[])) _ _ e1
 ·
  refine .bp [.r []] (decide (x>y)) (fun h11=> ?_) (fun h11=> ?_)
  ·
   have e2:((z76 x y):Int)=1:=by
    unfold z76;((repeat' split)<;>first|rfl|omega| (simp_all;done)| (simp_all;omega))
   exact .finE [.r []] [] (fun z0:Int=>(VI z0,[])) _ _ e2
  ·
   have e3:((z76 x y):Int)=0:=by
    unfold z76;((repeat' split)<;>first|rfl|omega| (simp_all;done)| (simp_all;omega))
   exact .finE [.r []] [] (fun z0:Int=>(VI z0,[])) _ _ e3
theorem x6y(l:List Int):FC Tryz.prog 180 [VL 1 z0B l] (app emp []) (VI (orL l)) (app emp []):=by
 refine .go Tryz.f180 ?_
 refine .len 0 (fun hl0=> ?_)
 refine .loop (α:=Nat) [.r [],.r [],.r [(1,X (Xl z0B l))]] 40 (fun i=>([(3,VI 0),(6,VL 1 z0B l),(7,VI (l.length:Int)),(8,VI (i:Int))],[])) (fun i=>i<=l.length/\orL l=orL (l.drop i)) (fun i=>l.length-i) (0:Nat) ?_ ?_
 ·
  exact⟨by omega,rfl⟩
 rintro i I3 ih3
 try dsimp only at I3
 refine .bp [.r []] (decide ((i:Int)< (l.length:Int))) (fun h3=> ?_) (fun h3=> ?_)
 ·
  refine .bp [.r [(0,X (Xi z0B l (i:Int)))],.r []] ((l.getD i default) !=0) (fun h5=> ?_) (fun h5=> ?_)
  ·
   have e1:((orL l):Int)=(l.getD i default):=by
    rw[I3.2,x3B (by omega),if_pos (by omega)]
   exact .finE [.r []] [] (fun z0:Int=>(VI z0,[])) _ _ e1
  ·
   refine .back [.r [(0,X (Xn ((i:Int)+1)))]] [] (ih3 ((i+1):Nat) ?_ ?_)
   ·
    refine⟨by omega,?_⟩
    rw[I3.2,x3B (by omega),if_neg (by omega)]
   ·
    ((try dsimp only);omega)
 ·
  have e2:((orL l):Int)=0:=by
   rw[I3.2,qM (by omega)];rfl
  exact .finE [.r []] [] (fun z0:Int=>(VI z0,[])) _ _ e2
theorem y1i(a b:Cell):FC Tryz.prog 202 [.t (z0k a),.t (z0k b)] (app emp []) (VI (z5b a b)) (app emp []):=by
 refine .go Tryz.f202 ?_
 have e1:((z5b a b):Int)=(orL [(z76 a.row b.row),(z76 a.col b.col)]):=by
  rfl
 exact .finE [.r [],.r [(4,X (Xc0 (y1h a.row b.row) X0)),(9,X (Xc0 (y1h a.col b.col) X0)),(11,X (Xc0 (x6y [(z76 a.row b.row),(z76 a.col b.col)]) (z0Y z0B [(z76 a.row b.row),(z76 a.col b.col)] X0)))]] [] (fun z0:Int=>(VI z0,[])) _ _ e1
theorem y1j(c:Cell):FC Tryz.prog 201 [.t (z0k c)] (app emp []) (VB (z1K c)) (app emp []):=by
 refine .go Tryz.f201 ?_
 have e1:((z1K c):Bool)=((seq c.text ({data:=#[]})&&(c.ref==0))&&((c.attrs.length:Int)==0)):=by
  rfl
 exact .finE [.r [],.r [(5,Xv 1 (seq c.text ({data:=#[]})) X0),(6,Xv 1 (seq c.text ({data:=#[]})) X0),(7,X (Xk (seq c.text ({data:=#[]})))),(10,Xv 1 (seq c.text ({data:=#[]})&&(c.ref==0)) X0),(11,Xv 1 (seq c.text ({data:=#[]})&&(c.ref==0)) (Xl z0a c.attrs)),(12,Xv 1 (seq c.text ({data:=#[]})&&(c.ref==0)) X0),(13,X (Xk (seq c.text ({data:=#[]})&&(c.ref==0))))]] [] (fun z0:Bool=>(VB z0,[])) _ _ e1
theorem y2U(s:ByteArray):FC Tryz.prog 203 [VS s] (app emp []) (VB (z4K s)) (app emp []):=by
 refine .go Tryz.f203 ?_
 refine .bp [.r [],.r [(4,Xv 1 (!(seq s ({data:=#[]}))) X0),(5,Xv 1 (!(seq s ({data:=#[]}))) X0),(6,X (Xk' (seq s ({data:=#[]})))),(10,Xv 1 (!(seq s ({data:=#[]})||decide ((s.size:Int)> 200))) X0),(11,Xv 1 (!(seq s ({data:=#[]})||decide ((s.size:Int)> 200))) (Xn ((s.size:Int)- 1)) (fun hg=>by(try simp only[decide_eq_true_eq,decide_eq_false_iff_not,Int.not_lt,Int.not_le,gt_iff_lt,ze,zw,qH,zu] at hg);exact(by have:=y09 hg.1;omega))),(12,Xv 2 (!(seq s ({data:=#[]})||decide ((s.size:Int)> 200))) (Xb s ((s.size:Int)- 1)) (fun hg=>by(try simp only[decide_eq_true_eq,decide_eq_false_iff_not,Int.not_lt,Int.not_le,gt_iff_lt,ze,zw,qH,zu] at hg);exact⟨(by have:=y09 hg.1;omega),(by omega)⟩)),(13,Xv 1 (!(seq s ({data:=#[]})||decide ((s.size:Int)> 200))) X0),(14,X (Xk' (seq s ({data:=#[]})||decide ((s.size:Int)> 200))))]] ((seq s ({data:=#[]})||decide ((s.size:Int)> 200))|| (((((s[(Int.toNat ((s.size:Int)- 1))]?).getD 0).toNat:Nat):Int)==97)) (fun h1=> ?_) (fun h1=> ?_)
 ·
  have e1:((z4K s):Bool)=false:=by
   have hs:((s.size:Int)- 1).toNat=s.size- 1:=by omega
   rw[hs] at h1;simp only[x1w,z4J,decide_eq_true_eq] at h1;unfold z4K;rw[decide_eq_false (fun q=>by omega)];rfl
  exact .finE [.r []] [] (fun z0:Bool=>(VB z0,[])) _ _ e1
 ·
  refine .loop (α:=Nat) [.r []] 152 (fun i=>([(0,VS s),(20,VI (s.size:Int)),(21,VI (i:Int))],[])) (fun i=>i<=s.size/\plS s 0=plS s i) (fun i=>s.size-i) (0:Nat) ?_ ?_
  ·
   exact⟨by omega,rfl⟩
  rintro i I4 ih4
  try dsimp only at I4
  refine .bp [.r []] (decide ((i:Int)< (s.size:Int))) (fun h4=> ?_) (fun h4=> ?_)
  ·
   refine .bp [.r [],.r [(2,X (Xb s (i:Int))),(7,Xv 2 (!(decide (((((s[i]?).getD 0).toNat:Nat):Int)< 97))) (Xb s (i:Int))),(8,Xv 1 (!(decide (((((s[i]?).getD 0).toNat:Nat):Int)< 97))) X0),(9,X (Xk' (decide (((((s[i]?).getD 0).toNat:Nat):Int)< 97))))]] (decide (((((s[i]?).getD 0).toNat:Nat):Int)< 97)||decide (((((s[i]?).getD 0).toNat:Nat):Int)> 122)) (fun h6=> ?_) (fun h6=> ?_)
   ·
    have e2:((z4K s):Bool)=false:=by
     simp only[x1w] at h6;unfold z4K;rw[I4.2,plS,if_pos (by omega),if_pos (by omega)];simp
    exact .finE [.r []] [] (fun z0:Bool=>(VB z0,[])) _ _ e2
   ·
    refine .back [.r [(0,X (Xn ((i:Int)+1)))]] [] (ih4 ((i+1):Nat) ?_ ?_)
    ·
     simp only[x1w] at h6;refine⟨by omega,?_⟩;rw[I4.2,plS,if_pos (by omega),if_neg (by omega)]
    ·
     ((try dsimp only);omega)
  ·
   have e3:((z4K s):Bool)=true:=by
    have hs:((s.size:Int)- 1).toNat=s.size- 1:=by omega
    rw[hs] at h1;simp only[x1w,z4J,decide_eq_false_iff_not] at h1;unfold z4K;rw[I4.2,plS,if_neg (by omega),decide_eq_true (by omega)];rfl
   exact .finE [.r []] [] (fun z0:Bool=>(VB z0,[])) _ _ e3
theorem z85(a b:DOp):FC Tryz.prog 114 [.t (z0R a),.t (z0R b)] (app emp []) (VI (z7Q a b)) (app emp []):=by
 refine .go Tryz.f114 ?_
 have e1:((z7Q a b):Int)=(orL [(z76 a.clock b.clock),(z76 a.site b.site)]):=by
  rfl
 exact .finE [.r [],.r [(4,X (Xc0 (y1h a.clock b.clock) X0)),(9,X (Xc0 (y1h a.site b.site) X0)),(11,X (Xc0 (x6y [(z76 a.clock b.clock),(z76 a.site b.site)]) (z0Y z0B [(z76 a.clock b.clock),(z76 a.site b.site)] X0)))]] [] (fun z0:Int=>(VI z0,[])) _ _ e1
theorem x8b(o:DOp):FC Tryz.prog 144 [.t (z0R o)] (app emp []) (VI (opE o)) (app emp []):=by
 refine .go Tryz.f144 ?_
 refine .bp [.r [],.r [(5,Xv 1 (o.kind !=0) X0),(6,Xv 1 (o.kind !=0) X0),(7,X (Xk (o.kind !=0)))]] ((o.kind !=0)&&(o.kind !=1)) (fun h1=> ?_) (fun h1=> ?_)
 ·
  have e1:((opE o):Int)=8:=by
   unfold opE
   (repeat' split)<;>first|rfl| (exfalso;omega)| (exfalso;simp_all;done)| (exfalso;simp_all;omega)|grind
  exact .finE [.r []] [] (fun z0:Int=>(VI z0,[])) _ _ e1
 ·
  refine .bp [.r [(5,Xv 1 (!(decide (o.clock<1))) X0),(6,Xv 1 (!(decide (o.clock<1))) X0),(7,X (Xk' (decide (o.clock<1)))),(10,Xv 1 (!(decide (o.clock<1)||decide (o.clock>1073741824))) X0),(11,Xv 1 (!(decide (o.clock<1)||decide (o.clock>1073741824))) X0),(12,X (Xk' (decide (o.clock<1)||decide (o.clock>1073741824)))),(15,Xv 1 (!((decide (o.clock<1)||decide (o.clock>1073741824))||decide (o.site<0))) X0),(16,Xv 1 (!((decide (o.clock<1)||decide (o.clock>1073741824))||decide (o.site<0))) X0),(17,X (Xk' ((decide (o.clock<1)||decide (o.clock>1073741824))||decide (o.site<0)))),(20,Xv 1 (!(((decide (o.clock<1)||decide (o.clock>1073741824))||decide (o.site<0))||decide (o.site>1000))) X0),(21,Xv 1 (!(((decide (o.clock<1)||decide (o.clock>1073741824))||decide (o.site<0))||decide (o.site>1000))) X0),(22,X (Xk' (((decide (o.clock<1)||decide (o.clock>1073741824))||decide (o.site<0))||decide (o.site>1000)))),(25,Xv 1 (!((((decide (o.clock<1)||decide (o.clock>1073741824))||decide (o.site<0))||decide (o.site>1000))||decide (o.itm<1))) X0),(26,Xv 1 (!((((decide (o.clock<1)||decide (o.clock>1073741824))||decide (o.site<0))||decide (o.site>1000))||decide (o.itm<1))) X0),(27,X (Xk' ((((decide (o.clock<1)||decide (o.clock>1073741824))||decide (o.site<0))||decide (o.site>1000))||decide (o.itm<1))))]] (((((decide (o.clock<1)||decide (o.clock>1073741824))||decide (o.site<0))||decide (o.site>1000))||decide (o.itm<1))||decide (o.itm>1073741824)) (fun h3=> ?_) (fun h3=> ?_)
  ·
   have e2:((opE o):Int)=2:=by
    unfold opE
    (repeat' split)<;>first|rfl| (exfalso;omega)| (exfalso;simp_all;done)| (exfalso;simp_all;omega)|grind
   exact .finE [.r []] [] (fun z0:Int=>(VI z0,[])) _ _ e2
  ·
   refine .bp [.r [(5,Xv 1 (o.kind==0) X0),(6,Xv 1 (o.kind==0) X0),(7,Xv 1 (o.kind==0) X0),(9,Xv 1 ((o.kind==0)&& !(!(seq o.nm ({data:=#[]})))) X0),(10,Xv 1 ((o.kind==0)&& !(!(seq o.nm ({data:=#[]})))) X0),(11,Xko (o.kind==0) (!(seq o.nm ({data:=#[]})))),(12,X (Xk (o.kind==0)))]] ((o.kind==0)&&(!(seq o.nm ({data:=#[]}))|| !(seq o.vl ({data:=#[]})))) (fun h5=> ?_) (fun h5=> ?_)
   ·
    refine .bp [] ((o.kind==0)&&(!(seq o.nm ({data:=#[]}))|| !(seq o.vl ({data:=#[]})))) (fun h5=> ?_) (fun h5=> ?_)
    ·
     have e3:((opE o):Int)=4:=by
      unfold opE
      (repeat' split)<;>first|rfl| (exfalso;omega)| (exfalso;simp_all;done)| (exfalso;simp_all;omega)|grind
     exact .finE [.r []] [] (fun z0:Int=>(VI z0,[])) _ _ e3
    ·
     refine .bp [.r [(5,Xv 1 (o.kind==0) X0),(6,Xv 1 (o.kind==0) X0),(7,Xv 1 (o.kind==0) X0),(9,Xv 1 ((o.kind==0)&& !(decide (o.prt< (-1)))) X0),(10,Xv 1 ((o.kind==0)&& !(decide (o.prt< (-1)))) X0),(11,Xko (o.kind==0) (decide (o.prt< (-1)))),(12,X (Xk (o.kind==0)))]] ((o.kind==0)&&(decide (o.prt< (-1))||decide (o.prt>1073741824))) (fun h8=> ?_) (fun h8=> ?_)
     ·
      have e4:((opE o):Int)=2:=by
       unfold opE
       (repeat' split)<;>first|rfl| (exfalso;omega)| (exfalso;simp_all;done)| (exfalso;simp_all;omega)|grind
      exact .finE [.r []] [] (fun z0:Int=>(VI z0,[])) _ _ e4
     ·
      refine .bp [.r [(5,Xv 1 (o.kind==0) X0),(6,Xv 1 (o.kind==0) (Xc0 (y2U o.plc) X0)),(7,Xv 1 (o.kind==0) X0),(8,X (Xk (o.kind==0)))]] ((o.kind==0)&& !(z4K o.plc)) (fun h10=> ?_) (fun h10=> ?_)
      ·
       refine .bp [] ((o.kind==0)&& !(z4K o.plc)) (fun h10=> ?_) (fun h10=> ?_)
       ·
        have e5:((opE o):Int)=9:=by
         unfold opE
         (repeat' split)<;>first|rfl| (exfalso;omega)| (exfalso;simp_all;done)| (exfalso;simp_all;omega)|grind
        exact .finE [.r []] [] (fun z0:Int=>(VI z0,[])) _ _ e5
       ·
        refine .bp [.r [(5,Xv 1 (o.kind==1) X0),(6,Xv 1 (o.kind==1) X0),(7,X (Xk (o.kind==1))),(10,Xv 1 ((o.kind==1)&& !(seq o.vl ({data:=#[]}))) X0),(11,Xv 1 ((o.kind==1)&& !(seq o.vl ({data:=#[]}))) (Xc0 (z5v o.vl) X0)),(12,Xv 1 ((o.kind==1)&& !(seq o.vl ({data:=#[]}))) X0),(13,X (Xk ((o.kind==1)&& !(seq o.vl ({data:=#[]})))))]] (((o.kind==1)&& !(seq o.vl ({data:=#[]})))&& !(z17 o.vl)) (fun h13=> ?_) (fun h13=> ?_)
        ·
         have e6:((opE o):Int)=23:=by
          unfold opE
          (repeat' split)<;>first|rfl| (exfalso;omega)| (exfalso;simp_all;done)| (exfalso;simp_all;omega)|grind
         exact .finE [.r []] [] (fun z0:Int=>(VI z0,[])) _ _ e6
        ·
         have e7:((opE o):Int)=0:=by
          unfold opE
          (repeat' split)<;>first|rfl| (exfalso;omega)| (exfalso;simp_all;done)| (exfalso;simp_all;omega)|grind
         exact .finE [.r []] [] (fun z0:Int=>(VI z0,[])) _ _ e7
      ·
       refine .bp [.r [(5,Xv 1 (o.kind==1) X0),(6,Xv 1 (o.kind==1) (Xc0 (y4m o.nm) X0)),(7,Xv 1 (o.kind==1) X0),(8,X (Xk (o.kind==1)))]] ((o.kind==1)&& !(z12 o.nm)) (fun h11=> ?_) (fun h11=> ?_)
       ·
        have e8:((opE o):Int)=9:=by
         unfold opE
         (repeat' split)<;>first|rfl| (exfalso;omega)| (exfalso;simp_all;done)| (exfalso;simp_all;omega)|grind
        exact .finE [.r []] [] (fun z0:Int=>(VI z0,[])) _ _ e8
       ·
        refine .bp [.r [(5,Xv 1 (o.kind==1) X0),(6,Xv 1 (o.kind==1) X0),(7,X (Xk (o.kind==1))),(10,Xv 1 ((o.kind==1)&& !(seq o.vl ({data:=#[]}))) X0),(11,Xv 1 ((o.kind==1)&& !(seq o.vl ({data:=#[]}))) (Xc0 (z5v o.vl) X0)),(12,Xv 1 ((o.kind==1)&& !(seq o.vl ({data:=#[]}))) X0),(13,X (Xk ((o.kind==1)&& !(seq o.vl ({data:=#[]})))))]] (((o.kind==1)&& !(seq o.vl ({data:=#[]})))&& !(z17 o.vl)) (fun h13=> ?_) (fun h13=> ?_)
        ·
         have e9:((opE o):Int)=23:=by
          unfold opE
          (repeat' split)<;>first|rfl| (exfalso;omega)| (exfalso;simp_all;done)| (exfalso;simp_all;omega)|grind
         exact .finE [.r []] [] (fun z0:Int=>(VI z0,[])) _ _ e9
        ·
         have e10:((opE o):Int)=0:=by
          unfold opE
          (repeat' split)<;>first|rfl| (exfalso;omega)| (exfalso;simp_all;done)| (exfalso;simp_all;omega)|grind
         exact .finE [.r []] [] (fun z0:Int=>(VI z0,[])) _ _ e10
   ·
    refine .bp [.r [(5,Xv 1 (o.kind==1) X0),(6,Xv 1 (o.kind==1) X0),(7,Xv 1 (o.kind==1) X0),(9,Xv 1 ((o.kind==1)&& !(o.prt !=0)) X0),(10,Xv 1 ((o.kind==1)&& !(o.prt !=0)) X0),(11,Xko (o.kind==1) (o.prt !=0)),(12,X (Xk (o.kind==1)))]] ((o.kind==1)&&((o.prt !=0)|| !(seq o.plc ({data:=#[]})))) (fun h6=> ?_) (fun h6=> ?_)
    ·
     have e11:((opE o):Int)=4:=by
      unfold opE
      (repeat' split)<;>first|rfl| (exfalso;omega)| (exfalso;simp_all;done)| (exfalso;simp_all;omega)|grind
     exact .finE [.r []] [] (fun z0:Int=>(VI z0,[])) _ _ e11
    ·
     refine .bp [.r [(5,Xv 1 (o.kind==0) X0),(6,Xv 1 (o.kind==0) X0),(7,Xv 1 (o.kind==0) X0),(9,Xv 1 ((o.kind==0)&& !(decide (o.prt< (-1)))) X0),(10,Xv 1 ((o.kind==0)&& !(decide (o.prt< (-1)))) X0),(11,Xko (o.kind==0) (decide (o.prt< (-1)))),(12,X (Xk (o.kind==0)))]] ((o.kind==0)&&(decide (o.prt< (-1))||decide (o.prt>1073741824))) (fun h8=> ?_) (fun h8=> ?_)
     ·
      have e12:((opE o):Int)=2:=by
       unfold opE
       (repeat' split)<;>first|rfl| (exfalso;omega)| (exfalso;simp_all;done)| (exfalso;simp_all;omega)|grind
      exact .finE [.r []] [] (fun z0:Int=>(VI z0,[])) _ _ e12
     ·
      refine .bp [.r [(5,Xv 1 (o.kind==0) X0),(6,Xv 1 (o.kind==0) (Xc0 (y2U o.plc) X0)),(7,Xv 1 (o.kind==0) X0),(8,X (Xk (o.kind==0)))]] ((o.kind==0)&& !(z4K o.plc)) (fun h10=> ?_) (fun h10=> ?_)
      ·
       refine .bp [] ((o.kind==0)&& !(z4K o.plc)) (fun h10=> ?_) (fun h10=> ?_)
       ·
        have e13:((opE o):Int)=9:=by
         unfold opE
         (repeat' split)<;>first|rfl| (exfalso;omega)| (exfalso;simp_all;done)| (exfalso;simp_all;omega)|grind
        exact .finE [.r []] [] (fun z0:Int=>(VI z0,[])) _ _ e13
       ·
        refine .bp [.r [(5,Xv 1 (o.kind==1) X0),(6,Xv 1 (o.kind==1) X0),(7,X (Xk (o.kind==1))),(10,Xv 1 ((o.kind==1)&& !(seq o.vl ({data:=#[]}))) X0),(11,Xv 1 ((o.kind==1)&& !(seq o.vl ({data:=#[]}))) (Xc0 (z5v o.vl) X0)),(12,Xv 1 ((o.kind==1)&& !(seq o.vl ({data:=#[]}))) X0),(13,X (Xk ((o.kind==1)&& !(seq o.vl ({data:=#[]})))))]] (((o.kind==1)&& !(seq o.vl ({data:=#[]})))&& !(z17 o.vl)) (fun h13=> ?_) (fun h13=> ?_)
        ·
         have e14:((opE o):Int)=23:=by
          unfold opE
          (repeat' split)<;>first|rfl| (exfalso;omega)| (exfalso;simp_all;done)| (exfalso;simp_all;omega)|grind
         exact .finE [.r []] [] (fun z0:Int=>(VI z0,[])) _ _ e14
        ·
         have e15:((opE o):Int)=0:=by
          unfold opE
          (repeat' split)<;>first|rfl| (exfalso;omega)| (exfalso;simp_all;done)| (exfalso;simp_all;omega)|grind
         exact .finE [.r []] [] (fun z0:Int=>(VI z0,[])) _ _ e15
      ·
       refine .bp [.r [(5,Xv 1 (o.kind==1) X0),(6,Xv 1 (o.kind==1) (Xc0 (y4m o.nm) X0)),(7,Xv 1 (o.kind==1) X0),(8,X (Xk (o.kind==1)))]] ((o.kind==1)&& !(z12 o.nm)) (fun h11=> ?_) (fun h11=> ?_)
       ·
        have e16:((opE o):Int)=9:=by
         unfold opE
         (repeat' split)<;>first|rfl| (exfalso;omega)| (exfalso;simp_all;done)| (exfalso;simp_all;omega)|grind
        exact .finE [.r []] [] (fun z0:Int=>(VI z0,[])) _ _ e16
       ·
        refine .bp [.r [(5,Xv 1 (o.kind==1) X0),(6,Xv 1 (o.kind==1) X0),(7,X (Xk (o.kind==1))),(10,Xv 1 ((o.kind==1)&& !(seq o.vl ({data:=#[]}))) X0),(11,Xv 1 ((o.kind==1)&& !(seq o.vl ({data:=#[]}))) (Xc0 (z5v o.vl) X0)),(12,Xv 1 ((o.kind==1)&& !(seq o.vl ({data:=#[]}))) X0),(13,X (Xk ((o.kind==1)&& !(seq o.vl ({data:=#[]})))))]] (((o.kind==1)&& !(seq o.vl ({data:=#[]})))&& !(z17 o.vl)) (fun h13=> ?_) (fun h13=> ?_)
        ·
         have e17:((opE o):Int)=23:=by
          unfold opE
          (repeat' split)<;>first|rfl| (exfalso;omega)| (exfalso;simp_all;done)| (exfalso;simp_all;omega)|grind
         exact .finE [.r []] [] (fun z0:Int=>(VI z0,[])) _ _ e17
        ·
         have e18:((opE o):Int)=0:=by
          unfold opE
          (repeat' split)<;>first|rfl| (exfalso;omega)| (exfalso;simp_all;done)| (exfalso;simp_all;omega)|grind
         exact .finE [.r []] [] (fun z0:Int=>(VI z0,[])) _ _ e18
theorem y2V(l:List DOp):FC Tryz.prog 81 [VL 8 z0R l] (app emp []) (VI (z2E l 0)) (app emp []):=by
 refine .go Tryz.f81 ?_
 refine .len 0 (fun hl0=> ?_)
 refine .loop (α:=Nat) [.r [],.r [(1,X (Xl z0R l))]] 32 (fun i=>([(0,VL 8 z0R l),(6,VL 8 z0R l),(7,VI (l.length:Int)),(8,VI (i:Int))],[])) (fun i=>i<=l.length/\z2E l 0=z2E l i) (fun i=>l.length-i) (0:Nat) ?_ ?_
 ·
  exact⟨by omega,rfl⟩
 rintro i I2 ih2
 try dsimp only at I2
 refine .bp [.r []] (decide ((i:Int)< (l.length:Int))) (fun h2=> ?_) (fun h2=> ?_)
 ·
  refine .bp [.r [(1,X (Xi z0R l (i:Int)))],.r [(1,X (Xc0 (x8b ((l.getD i default))) X0))],.r []] ((opE ((l.getD i default))) !=0) (fun h5=> ?_) (fun h5=> ?_)
  ·
   have e1:((z2E l 0):Int)=(opE ((l.getD i default))):=by
    rw[I2.2,z2E,if_pos (by omega),if_pos h5]
   exact .finE [.r []] [] (fun z0:Int=>(VI z0,[])) _ _ e1
  ·
   refine .bp [.r [(5,Xv 1 (decide ((i:Int)> 0)) (Xn ((i:Int)- 1))),(6,Xv 2 (decide ((i:Int)> 0)) (Xi' z0R l ((i:Int)- 1) (i- 1))),(7,Xv 1 (decide ((i:Int)> 0)) X0),(9,Xv 2 (decide ((i:Int)> 0)) (Xc0 (z85 ((l.getD (i- 1) default)) ((l.getD i default))) X0)),(10,Xv 1 (decide ((i:Int)> 0)) X0),(11,X (Xk (decide ((i:Int)> 0))))]] (decide ((i:Int)> 0)&&decide ((z7Q ((l.getD (i- 1) default)) ((l.getD i default)))>=0)) (fun h7=> ?_) (fun h7=> ?_)
   ·
    have e2:((z2E l 0):Int)=5:=by
     rw[I2.2,z2E,if_pos (by omega),if_neg (by rw[h5];decide),if_pos ⟨by omega,by rw[<-y2J];exact h7.2⟩]
    exact .finE [.r []] [] (fun z0:Int=>(VI z0,[])) _ _ e2
   ·
    refine .back [.r [(0,X (Xn ((i:Int)+1)))]] [] (ih2 ((i+1):Nat) ?_ ?_)
    ·
     refine⟨by omega,?_⟩;rw[I2.2,z2E,if_pos (by omega),if_neg (by rw[h5];decide),if_neg (by rw[<-y2J];clear ih2;rintro⟨a,b⟩;rcases h7 with h|h<;>omega)]
    ·
     ((try dsimp only);omega)
 ·
  have e3:((z2E l 0):Int)=0:=by
   rw[I2.2,z2E,if_neg (by omega)]
  exact .finE [.r []] [] (fun z0:Int=>(VI z0,[])) _ _ e3
theorem x2h(a b:List DOp)(hn:a.length+b.length<=1099511627776):FC Tryz.prog 54 [VL 8 z0R a,VL 8 z0R b] (app emp []) (.tup [VL 8 z0R ((z0p a b).getD []),VI (if(z0p a b).isSome then(0:Int) else 6)]) (app emp []):=by
 refine .go Tryz.f54 ?_
 refine .len 0 (fun hl0=> ?_)
 refine .len 1 (fun hl1=> ?_)
 refine .loop (α:=(List DOp)×(List DOp)×(List DOp)) [.r [],.r [],.le (.nR 6 8)] 25 (fun(x,y,o)=>([(0,VL 8 z0R x),(1,VL 8 z0R y),(6,.row 24 o.length)],[(24,OR 8 z0R o)])) (fun(x,y,o)=>o.length+x.length+y.length<=a.length+b.length/\z0p a b=(z0p x y).map (o++ ·)) (fun(x,y,o)=>x.length+y.length) (a,b,[]) ?_ ?_
 ·
  exact⟨by simp,by simp⟩
 rintro⟨x,y,o⟩ I2 ih2
 try dsimp only at I2
 refine .bp [.r [(1,X (Xl z0R x)),(5,Xv 1 (!(decide ((x.length:Int)> 0))) (Xl z0R y)),(6,Xv 1 (!(decide ((x.length:Int)> 0))) X0),(7,X (Xk' (decide ((x.length:Int)> 0))))]] (decide ((x.length:Int)> 0)||decide ((y.length:Int)> 0)) (fun h2=> ?_) (fun h2=> ?_)
 ·
  have hxy:=h2
  refine .bp [.r [(1,X (Xl z0R y)),(5,Xv 1 (!((y.length:Int)==0)) (Xl z0R x)),(6,Xv 1 (!((y.length:Int)==0)) X0),(7,Xv 1 (!((y.length:Int)==0)) X0),(9,Xv 1 ((!((y.length:Int)==0))&&(decide ((x.length:Int)> 0))) (Xi z0R x 0) (fun hg=>by(try simp only[decide_eq_true_eq,decide_eq_false_iff_not,Int.not_lt,Int.not_le,gt_iff_lt,ze,zw,qm,Bool.and_eq_false_iff,beq_iff_eq,beq_eq_false_iff_ne,ne_eq] at hg);exact⟨(by omega),(by omega)⟩)),(10,Xv 1 ((!((y.length:Int)==0))&&(decide ((x.length:Int)> 0))) X0),(12,Xv 1 ((!((y.length:Int)==0))&&(decide ((x.length:Int)> 0))) (Xi z0R y 0) (fun hg=>by(try simp only[decide_eq_true_eq,decide_eq_false_iff_not,Int.not_lt,Int.not_le,gt_iff_lt,ze,zw,qm,Bool.and_eq_false_iff,beq_iff_eq,beq_eq_false_iff_ne,ne_eq] at hg);exact⟨(by omega),(by omega)⟩)),(13,Xv 1 ((!((y.length:Int)==0))&&(decide ((x.length:Int)> 0))) X0),(14,Xv 2 ((!((y.length:Int)==0))&&(decide ((x.length:Int)> 0))) (Xc0 (z85 ((x.getD 0 default)) ((y.getD 0 default))) X0)),(15,Xv 1 ((!((y.length:Int)==0))&&(decide ((x.length:Int)> 0))) X0),(16,Xka (!((y.length:Int)==0)) (decide ((x.length:Int)> 0))),(17,X (Xk' ((y.length:Int)==0)))]] (((y.length:Int)==0)|| (decide ((x.length:Int)> 0)&&decide ((z7Q ((x.getD 0 default)) ((y.getD 0 default)))< 0))) (fun h4=> ?_) (fun h4=> ?_)
  ·
   refine .back [.r [(2,X (Xi z0R x 0)),(5,X (z0Y z0R [((x.getD 0 default))] (Xap 8 z0R 24 o [((x.getD 0 default))]))),(7,X (Xsd z0R 8 x 1))]] [(24,24)] (ih2 ((x.drop 1),y,(o++[((x.getD 0 default))])) ?_ ?_)
   ·
    have hl:y.length=0\/ltO (x.getD 0 default) (y.getD 0 default):=by(rw[<-z48];omega)
    refine⟨by simp;omega,?_⟩
    rw[I2.2,y4p (by omega) hl,Option.map_map];congr 1;funext z;simp
   ·
    (try dsimp only);simp;omega
  ·
   refine .bp [.r [(1,X (Xl z0R x)),(5,Xv 1 (!((x.length:Int)==0)) (Xi z0R y 0) (fun hg=>by(try simp only[ze,zw,beq_iff_eq,beq_eq_false_iff_ne,ne_eq] at hg);exact⟨(by omega),(by omega)⟩)),(6,Xv 1 (!((x.length:Int)==0)) X0),(8,Xv 1 (!((x.length:Int)==0)) (Xi z0R x 0) (fun hg=>by(try simp only[ze,zw,beq_iff_eq,beq_eq_false_iff_ne,ne_eq] at hg);exact⟨(by omega),(by omega)⟩)),(9,Xv 1 (!((x.length:Int)==0)) X0),(10,Xv 2 (!((x.length:Int)==0)) (Xc0 (z85 ((y.getD 0 default)) ((x.getD 0 default))) X0)),(11,Xv 1 (!((x.length:Int)==0)) X0),(12,X (Xk' ((x.length:Int)==0)))]] (((x.length:Int)==0)||decide ((z7Q ((y.getD 0 default)) ((x.getD 0 default)))< 0)) (fun h6=> ?_) (fun h6=> ?_)
   ·
    refine .back [.r [(2,X (Xi z0R y 0)),(5,X (z0Y z0R [((y.getD 0 default))] (Xap 8 z0R 24 o [((y.getD 0 default))]))),(7,X (Xsd z0R 8 y 1))]] [(24,24)] (ih2 (x,(y.drop 1),(o++[((y.getD 0 default))])) ?_ ?_)
    ·
     have hl:x.length=0\/ltO (y.getD 0 default) (x.getD 0 default):=by(rw[<-z48];omega)
     refine⟨by simp;omega,?_⟩
     rw[I2.2,y2K (by omega) hl,Option.map_map];congr 1;funext z;simp
    ·
     (try dsimp only);simp;omega
   ·
    have hx0:0<x.length:=by omega
    have hy0:0<y.length:=by omega
    have n1:¬ltO (x.getD 0 default) (y.getD 0 default):=by(rw[<-z48];omega)
    have n2:¬ltO (y.getD 0 default) (x.getD 0 default):=by(rw[<-z48];omega)
    have hu:=y4q hx0 hy0 n1 n2
    refine .bp [.r [(1,X (Xi z0R x 0)),(4,X (Xi z0R y 0))]] (!((((x.getD 0 default)).clock)==(((y.getD 0 default)).clock)&&((((x.getD 0 default)).site)==(((y.getD 0 default)).site)&&((((x.getD 0 default)).kind)==(((y.getD 0 default)).kind)&&((((x.getD 0 default)).itm)==(((y.getD 0 default)).itm)&&((((x.getD 0 default)).prt)==(((y.getD 0 default)).prt)&&(seq (((x.getD 0 default)).plc) (((y.getD 0 default)).plc)&&(seq (((x.getD 0 default)).nm) (((y.getD 0 default)).nm)&&(seq (((x.getD 0 default)).vl) (((y.getD 0 default)).vl)&&true))))))))) (fun h8=> ?_) (fun h8=> ?_)
    ·
     have e1:(((z0p a b).getD []):List DOp)=[]:=by
      have hne:¬x.getD 0 default=y.getD 0 default:=by
       intro e
       have s0:∀s,seq s s=true:=fun s=>z0M.2 rfl
       rw[e] at h8
       simp[s0] at h8
      rw[I2.2,hu,if_neg hne];rfl
     have e2:((if(z0p a b).isSome then(0:Int) else 6):Int)=6:=by
      have hne:¬x.getD 0 default=y.getD 0 default:=by
       intro e
       have s0:∀s,seq s s=true:=fun s=>z0M.2 rfl
       rw[e] at h8
       simp[s0] at h8
      rw[I2.2,hu,if_neg hne];rfl
     exact .finE [.r [],.le (.nL 4 8)] [] (fun((z0,z1):(List DOp)×Int)=>(.tup [VL 8 z0R z0,VI z1],[])) _ _ (pr e1 e2)
    ·
     refine .back [.r [(2,X (Xi z0R x 0)),(5,X (z0Y z0R [((x.getD 0 default))] (Xap 8 z0R 24 o [((x.getD 0 default))]))),(7,X (Xsd z0R 8 x 1)),(9,X (Xsd z0R 8 y 1))]] [(24,24)] (ih2 ((x.drop 1),(y.drop 1),(o++[((x.getD 0 default))])) ?_ ?_)
     ·
      obtain⟨q1,q2,q3,q4,q5,q6,q7,q8,-⟩:=h8
      rw[z0M] at q6 q7 q8
      refine⟨by simp;omega,?_⟩
      rw[I2.2,hu,if_pos (y9o q1 q2 q3 q4 q5 q6 q7 q8),Option.map_map];congr 1;funext z;simp
     ·
      (try dsimp only);simp;omega
 ·
  have e3:(((z0p a b).getD []):List DOp)=o:=by
   have hx0:x=[]:=qJ (by omega)
   have hy0:y=[]:=qJ (by omega)
   rw[I2.2,hx0,hy0];simp[z0p]
  have e4:((if(z0p a b).isSome then(0:Int) else 6):Int)=0:=by
   have hx0:x=[]:=qJ (by omega)
   have hy0:y=[]:=qJ (by omega)
   rw[I2.2,hx0,hy0];simp[z0p]
  exact .finE [.r [],.le (.fr 4 [(o.length:Nat)=(List.map z0R o).length] ⟨lm,trivial⟩)] [] (fun((z0,z1):(List DOp)×Int)=>(.tup [VL 8 z0R z0,VI z1],[])) _ _ (pr e3 e4)
theorem x2i(l:List AxStep)(p:Int)(hv:z4O l)(hp:0<=p/\p<=2147483647):FC Tryz.prog 244 [VL 2 z0P l,VI p] (app emp []) (VI (z0C l p 0 0)) (app emp []):=by
 refine .go Tryz.f244 ?_
 refine .len 0 (fun hl0=> ?_)
 have ca:=z5a.2 hv
 have hv1:z3o l<=2147483647:=by have:=hv.2.1;unfold z3o;omega
 have hv2:z2M l<=2147483647:=by have:=hv.2.2;unfold z2M;omega
 have o0:0<=z3o l:=by unfold z3o;omega
 have o1:0<=z2M l:=by unfold z2M;omega
 refine .loop (α:=Int×Int×Nat) [.r [],.r [],.r [(1,X (Xl z0P l))]] 48 (fun(fr,tq,i)=>([(1,VI p),(5,VI fr),(6,VI tq),(9,VL 2 z0P l),(10,VI (l.length:Int)),(11,VI (i:Int))],[])) (fun(fr,tq,i)=>i<=l.length/\0<=fr/\0<=tq/\fr+z77 (ex (l.drop i))=z3o l/\tq+z6L (ex (l.drop i))=z2M l/\fr<=p/\z0C l p 0 0=z0C (l.drop i) p fr tq) (fun(fr,tq,i)=>l.length-i) (0,0,0) ?_ ?_
 ·
  exact⟨by omega,by decide,by decide,by simp[z3o],by simp[z2M],by omega,rfl⟩
 rintro⟨fr,tq,i⟩ I3 ih3
 try dsimp only at I3
 refine .bp [.r []] (decide ((i:Int)< (l.length:Int))) (fun h3=> ?_) (fun h3=> ?_)
 ·
  have hst:=y2P (l:=l) (i:=i) (by omega) hv.1
  have hd:=y1a (l:=l) (i:=i) (by omega)
  refine .bp [.r [(0,X (Xi z0P l (i:Int)))],.r [],.r []] ((((l.getD i default)).kind)==1) (fun h8=> ?_) (fun h8=> ?_)
  ·
   refine .back [.r [(3,X (Xn (tq+(((l.getD i default)).n))))],.r [(0,X (Xn ((i:Int)+1)))]] [] (ih3 (fr,(tq+(((l.getD i default)).n)),(i+1)) ?_ ?_)
   ·
    obtain⟨s1,s2,s3,s4,s5⟩:=hst
    (first|rw[if_pos (by omega)] at s1|rw[if_neg (by omega)] at s1)
    (first|rw[if_pos (by omega)] at s2|rw[if_neg (by omega)] at s2)
    refine⟨by omega,by omega,by omega,by omega,by omega,by omega,?_⟩
    rw[I3.2.2.2.2.2.2,hd,z0C]
    ((repeat' split)<;>first|rfl|omega)
   ·
    ((try dsimp only);omega)
  ·
   refine .bp [.r []] ((((l.getD i default)).kind)==0) (fun h10=> ?_) (fun h10=> ?_)
   ·
    refine .bp [.r [(4,X (Xn (fr+(((l.getD i default)).n))))]] (decide (p< (fr+(((l.getD i default)).n)))) (fun h11=> ?_) (fun h11=> ?_)
    ·
     have e1:((z0C l p 0 0):Int)=((tq+p)- fr):=by
      first| (rw[I3.2.2.2.2.2.2,z6M (by omega)];rfl)| (rw[I3.2.2.2.2.2.2,hd,z0C];((repeat' split)<;>first|rfl|omega))
     exact .finE [.r [(2,X (Xn (tq+p))),(4,X (Xn ((tq+p)- fr)))]] [] (fun z0:Int=>(VI z0,[])) _ _ e1
    ·
     refine .back [.r [(3,X (Xn (tq+(((l.getD i default)).n))))],.r [(3,X (Xn (fr+(((l.getD i default)).n))))],.r [(0,X (Xn ((i:Int)+1)))]] [] (ih3 ((fr+(((l.getD i default)).n)),(tq+(((l.getD i default)).n)),(i+1)) ?_ ?_)
     ·
      obtain⟨s1,s2,s3,s4,s5⟩:=hst
      (first|rw[if_pos (by omega)] at s1|rw[if_neg (by omega)] at s1)
      (first|rw[if_pos (by omega)] at s2|rw[if_neg (by omega)] at s2)
      refine⟨by omega,by omega,by omega,by omega,by omega,by omega,?_⟩
      rw[I3.2.2.2.2.2.2,hd,z0C]
      ((repeat' split)<;>first|rfl|omega)
     ·
      ((try dsimp only);omega)
   ·
    refine .bp [.r [(4,X (Xn (fr+(((l.getD i default)).n))))]] (decide (p< (fr+(((l.getD i default)).n)))) (fun h6=> ?_) (fun h6=> ?_)
    ·
     have e2:((z0C l p 0 0):Int)= -1:=by
      first| (rw[I3.2.2.2.2.2.2,z6M (by omega)];rfl)| (rw[I3.2.2.2.2.2.2,hd,z0C];((repeat' split)<;>first|rfl|omega))
     exact .finE [.r []] [] (fun z0:Int=>(VI z0,[])) _ _ e2
    ·
     refine .back [.r [(3,X (Xn (fr+(((l.getD i default)).n))))],.r [(0,X (Xn ((i:Int)+1)))]] [] (ih3 ((fr+(((l.getD i default)).n)),tq,(i+1)) ?_ ?_)
     ·
      obtain⟨s1,s2,s3,s4,s5⟩:=hst
      (first|rw[if_pos (by omega)] at s1|rw[if_neg (by omega)] at s1)
      (first|rw[if_pos (by omega)] at s2|rw[if_neg (by omega)] at s2)
      refine⟨by omega,by omega,by omega,by omega,by omega,by omega,?_⟩
      rw[I3.2.2.2.2.2.2,hd,z0C]
      ((repeat' split)<;>first|rfl|omega)
     ·
      ((try dsimp only);omega)
 ·
  have e3:((z0C l p 0 0):Int)= -1:=by
   first| (rw[I3.2.2.2.2.2.2,z6M (by omega)];rfl)| (rw[I3.2.2.2.2.2.2,hd,z0C];((repeat' split)<;>first|rfl|omega))
  exact .finE [.r []] [] (fun z0:Int=>(VI z0,[])) _ _ e3
theorem z7s(l:List AxStep)(pl:List Int)(hv:z4O l)(hp:∀x∈pl,0<=x/\x<z3o l)(hlen:pl.length<=1000000000):FC Tryz.prog 208 [VL 2 z0P l,VL 1 z0B pl] (app emp []) (.tup [VL 1 z0B (List.map (fun x=>z0C l x 0 0) pl),VI 0]) (app emp []):=by
 refine .go Tryz.f208 ?_
 refine .len 0 (fun hl0=> ?_)
 refine .len 1 (fun hl1=> ?_)
 have ca:=z5a.2 hv
 have hv1:z3o l<=2147483647:=by have:=hv.2.1;unfold z3o;omega
 have hv2:z2M l<=2147483647:=by have:=hv.2.2;unfold z2M;omega
 have o0:0<=z3o l:=by unfold z3o;omega
 have o1:0<=z2M l:=by unfold z2M;omega
 refine .bp [.r [],.r [(1,X (Xc0 (z4b l) X0))],.r []] ((z13 l) !=0) (fun h2=> ?_) (fun h2=> ?_)
 ·
  exfalso
  omega
 ·
  refine .loop (α:=Nat×(List Int)) [.r [(1,X (Xc0 (y2Q l (by assumption)) X0))],.r [],.r [(1,X (Xl z0B pl))],.le (.nR 9 1)] 145 (fun(i,out)=>([(0,VL 2 z0P l),(7,VI (z3o l)),(9,.row 144 out.length),(22,VL 1 z0B pl),(23,VI (pl.length:Int)),(24,VI (i:Int))],[(144,OR 1 z0B out)])) (fun(i,out)=>i<=pl.length/\out=(pl.take i).map (fun x=>z0C l x 0 0)) (fun(i,out)=>pl.length-i) (0,[]) ?_ ?_
  ·
   exact⟨by omega,rfl⟩
  rintro⟨i,out⟩ I7 ih7
  try dsimp only at I7
  have ol:out.length=i:=by rw[I7.2];simp;omega
  refine .bp [.r []] (decide ((i:Int)< (pl.length:Int))) (fun h7=> ?_) (fun h7=> ?_)
  ·
   have hx:=hp (pl.getD i default) (by rw[show pl.getD i default=pl[i] by simp[List.getD,qb (show i<pl.length by omega)]];exact zA _)
   refine .bp [.r [(0,X (Xi z0B pl (i:Int)))],.r [(5,Xv 2 (!(decide ((pl.getD i default)< 0))) X0),(6,X (Xk' (decide ((pl.getD i default)< 0))))]] (decide ((pl.getD i default)< 0)||decide ((pl.getD i default)>=(z3o l))) (fun h9=> ?_) (fun h9=> ?_)
   ·
    exfalso
    omega
   ·
    refine .back [.r [(3,X (Xc0 (x2i l (pl.getD i default) (by assumption) (by omega)) X0)),(5,X (z0Y z0B [(z0C l (pl.getD i default) 0 0)] (Xap 1 z0B 144 out [(z0C l (pl.getD i default) 0 0)])))],.r [(0,X (Xn ((i:Int)+1)))]] [(144,144)] (ih7 ((i+1),(out++[(z0C l (pl.getD i default) 0 0)])) ?_ ?_)
    ·
     refine⟨by omega,?_⟩
     rw[I7.2,qz (show i<pl.length by omega),zj]
     simp[List.getD,qb (show i<pl.length by omega)]
    ·
     ((try dsimp only);omega)
  ·
   have e1:((List.map (fun x=>z0C l x 0 0) pl):List Int)=out:=by
    rw[I7.2,qp (by omega)]
   exact .finE [.r [],.le (.fr 4 [(out.length:Nat)=(List.map z0B out).length] ⟨lm,trivial⟩)] [] (fun z0:List Int=>(.tup [VL 1 z0B z0,VI 0],[])) _ _ e1
end Go.Ch
end
section
namespace Go.Ch
open Go Go.Ab
def y4w(l:List Cell):Prop:=∀c∈l,c.text.size=0
structure LiteE(e:GEd):Prop where
 sp:e.split.length=0
 me:e.merge.length=0
 tx:y4w e.cells
 ln:e.cells.length<=1048576
def z1Z(x:Grid)(e:GEd):Int:=if z18 x≠0 then z18 x else if edE e≠0 then edE e else x6x x e
def y5P(x:Grid)(e:GEd):Int:=if z1Z x e≠0 then 0 else nwS x.rows e.rows
def y5Q(x:Grid)(e:GEd):Int:=if z1Z x e≠0 then 0 else nwS x.cols e.cols
theorem y5R{x:Grid}{e:GEd}{k:Int}(h:z1Z x e=k)(hk:k≠0):y5P x e=0/\y5Q x e=0/\z1Z x e=k:=by
 unfold y5P y5Q
 rw[h,if_pos hk,if_pos hk];exact⟨rfl,rfl,rfl⟩
theorem x6z{x:Grid}{e:GEd}(h:z18 x≠0):y5P x e=0/\y5Q x e=0/\z1Z x e=z18 x:=y5R (by unfold z1Z;rw[if_pos h]) h
theorem x6A{x:Grid}{e:GEd}(h:z18 x=0)(h2:edE e≠0):y5P x e=0/\y5Q x e=0/\z1Z x e=edE e:=y5R (by unfold z1Z;rw[if_neg (fun q=>q h),if_pos h2]) h2
theorem x6B{x:Grid}{e:GEd}(h:z18 x=0)(h2:edE e=0)(h3:¬(0<e.rows.length->z3o e.rows=x.rows)\/¬(0<e.cols.length->z3o e.cols=x.cols)):y5P x e=0/\y5Q x e=0/\z1Z x e=14:=
 y5R (by
  unfold z1Z x6x
  rw[if_neg (fun q=>q h),if_neg (fun q=>q h2)]
  split
  ·rfl
  ·rename_i q
   rw[if_pos]
   rcases h3 with z|z
   ·exact absurd (fun a=>qc fun b=>q ⟨a,b⟩) z
   ·exact qc fun w=>z (fun a=>qc fun b=>w ⟨a,b⟩)) (by decide)
theorem x3F{x:Grid}{e:GEd}(h:z18 x=0)(h2:edE e=0)(h3:(0<e.rows.length->z3o e.rows=x.rows)/\(0<e.cols.length->z3o e.cols=x.cols))(q1:e.split.length=0)(q2:e.merge.length=0):z1Z x e=y4v e.cells (nwS x.rows e.rows) (nwS x.cols e.cols) 0:=by
 have i1:z6Q e.split (nwS x.rows e.rows) (nwS x.cols e.cols) 0=0:=by rw[z6Q,if_neg (by omega)]
 have i2:z6Q e.merge (nwS x.rows e.rows) (nwS x.cols e.cols) 0=0:=by rw[z6Q,if_neg (by omega)]
 unfold z1Z x6x
 rw[if_neg (fun q=>q h),if_neg (fun q=>q h2),if_neg (fun q=>q.2 (h3.1 q.1)),if_neg (fun q=>q.2 (h3.2 q.1)),i1,i2]
 split
 ·rfl
 ·rename_i q
  rw[if_neg (fun z=>z rfl)]
  exact(qc q).symm
theorem x6C{x:Grid}{e:GEd}(h:z18 x=0)(h2:edE e=0)(h3:(0<e.rows.length->z3o e.rows=x.rows)/\(0<e.cols.length->z3o e.cols=x.cols))(q1:e.split.length=0)(q2:e.merge.length=0)(hc:y4v e.cells (nwS x.rows e.rows) (nwS x.cols e.cols) 0=2):y5P x e=0/\y5Q x e=0/\z1Z x e=2:=
 y5R ((x3F h h2 h3 q1 q2).trans hc) (by decide)
theorem x6D{x:Grid}{e:GEd}(h:z18 x=0)(h2:edE e=0)(h3:(0<e.rows.length->z3o e.rows=x.rows)/\(0<e.cols.length->z3o e.cols=x.cols))(q1:e.split.length=0)(q2:e.merge.length=0)(hc:y4v e.cells (nwS x.rows e.rows) (nwS x.cols e.cols) 0=0):y5P x e=nwS x.rows e.rows/\y5Q x e=nwS x.cols e.cols/\z1Z x e=0:=by
 have e0:=(x3F h h2 h3 q1 q2).trans hc
 unfold y5P y5Q
 rw[e0,if_neg (fun q=>q rfl),if_neg (fun q=>q rfl)]
 exact⟨rfl,rfl,rfl⟩
def y9y(g:Grid)(e:GEd):Grid:=⟨nwS g.rows e.rows,nwS g.cols e.cols,z6P e.cells (y3O g.cells e.rows e.cols),[]⟩
structure RawT(g:Grid)(e:GEd):Prop where
 vr:0<e.rows.length->z4O e.rows
 vk:0<e.cols.length->z4O e.cols
 l1:g.cells.length<=1048576
 l2:e.cells.length<=1048576
 a1:CAN 1000000000000 g.cells
 a2:CAN 1000000000000 e.cells
 p1:∀c∈g.cells,PIn e.rows c.row
 p2:∀c∈g.cells,PIn e.cols c.col
 q1:g.merges.length=0
 q2:e.merge.length=0
theorem y5S{l:List Cell}{m n:Int}{o:Bool}:∀(k i:Nat),l.length-i=k->z0V l m n o i=0->∀j,i<=j->j<l.length->z78 (l.getD j default) m n o=0
 |0,i,h,_,j,h1,h2=>by omega
 |k+1,i,h,h0,j,h1,h2=>by
  rw[z0V,if_pos (by omega)] at h0
  split at h0
  ·rename_i q;exact absurd h0 q
  ·rename_i q
   split at h0
   ·cases h0
   ·by_cases e:i=j
    ·rw[<-e];exact qc q
    ·exact y5S k (i+1) (by omega) h0 j (by omega) h2
theorem y7y{x:Grid}(h:z18 x=0):∀c∈x.cells,0<=c.row/\c.row<x.rows/\0<=c.col/\c.col<x.cols:=by
 have hc:z0V x.cells x.rows x.cols false 0=0:=by
  unfold z18 at h
  split at h
  ·cases h
  ·split at h
   ·rename_i q;exact absurd h q
   ·rename_i q;exact qc q
 intro c hm
 obtain⟨j,hj,rfl⟩:=z0T hm
 have:=y5S _ 0 rfl hc j (qS _) hj
 unfold z78 at this
 split at this
 ·cases this
 ·omega
theorem RawT.of{x:Grid}{e:GEd}(h:z1Z x e=0)(hm:x.merges=[])(hl:LiteE e)(l1:x.cells.length<=1048576)(l2:e.cells.length<=1048576)(a1:∀c∈x.cells,c.attrs.length<=1048576)(a2:∀c∈e.cells,c.attrs.length<=1048576):RawT x e:=by
 unfold z1Z at h
 split at h
 ·rename_i q;exact absurd h q
 rename_i q
 have hg:z18 x=0:=qc q
 split at h
 ·rename_i q;exact absurd h q
 rename_i q
 have he:edE e=0:=qc q
 have ho:=y5N he
 have hf:=y9x h
 have hc:=y7y hg
 refine⟨fun _=>ho.okr,fun _=>ho.okc,l1,l2,fun c h=>by have:=a1 c h;omega,fun c h=>by have:=a2 c h;omega,fun c hm hp=>⟨ho.okr,?_⟩,fun c hm hp=>⟨ho.okc,?_⟩,by rw[hm];rfl,hl.me⟩
 ·have:=hc c hm;have:=hf.rows hp;omega
 ·have:=hc c hm;have:=hf.cols hp;omega
end Go.Ch
end
section
set_option maxRecDepth 100000
set_option maxHeartbeats 4000000
open Go Go.Proofs Go.Ab
namespace Go.Ch
theorem x2j(s:ByteArray)(hs:s.size=0):FC Tryz.prog 200 [VS s] (app emp []) (VB (y1f s)) (app emp []):=by
 refine .go Tryz.f200 ?_
 refine .loop (α:=ByteArray) [.r []] 8 (fun u=>([(0,VS u)],[])) (fun u=>u=s) (fun u=>u.size) (s:ByteArray) ?_ ?_
 ·
  rfl
 rintro u I1 ih1
 replace I1:u=s:=I1
 refine .bp [.r []] (!(seq u ({data:=#[]}))) (fun h1=> ?_) (fun h1=> ?_)
 ·
  exfalso
  rw[z4J,decide_eq_false_iff_not] at h1
  rw[I1] at h1;omega
 ·
  have e1:((y1f s):Bool)=true:=by
   rw[y9s (by omega)]
  exact .finE [.r []] [] (fun z0:Bool=>(VB z0,[])) _ _ e1
theorem y5T(l:List Cell)(m n:Int)(o:Bool)(hnt:y4w l):FC Tryz.prog 142 [VL 5 z0k l,VI m,VI n,VB o] (app emp []) (VI (z0V l m n o 0)) (app emp []):=by
 refine .go Tryz.f142 ?_
 refine .len 0 (fun hl0=> ?_)
 refine .loop (α:=Nat) [.r [],.r [(1,X (Xl z0k l))]] 32 (fun i=>([(0,VL 5 z0k l),(1,VI m),(2,VI n),(3,VB o),(12,VL 5 z0k l),(13,VI (l.length:Int)),(14,VI (i:Int))],[])) (fun i=>i<=l.length/\z0V l m n o 0=z0V l m n o i) (fun i=>l.length-i) (0:Nat) ?_ ?_
 ·
  exact⟨by omega,rfl⟩
 rintro i I2 ih2
 try dsimp only at I2
 refine .bp [.r []] (decide ((i:Int)< (l.length:Int))) (fun h2=> ?_) (fun h2=> ?_)
 ·
  have hx:z0V l m n o i=_:=z0V.eq_1 l m n o i
  rw[if_pos (by omega)] at hx
  unfold z78 at hx
  have hxt:(l.getD i default).text.size=0:=hnt _ (z0j (by omega))
  refine .bp [.r [(1,X (Xi z0k l (i:Int)))],.r [(5,Xv 1 (!(decide ((((l.getD i default)).row)< 0))) X0),(7,Xv 2 (!(decide ((((l.getD i default)).row)< 0))) X0),(8,X (Xk' (decide ((((l.getD i default)).row)< 0)))),(11,Xv 1 (!(decide ((((l.getD i default)).row)< 0)||decide ((((l.getD i default)).row)>=m))) X0),(12,Xv 1 (!(decide ((((l.getD i default)).row)< 0)||decide ((((l.getD i default)).row)>=m))) X0),(13,X (Xk' (decide ((((l.getD i default)).row)< 0)||decide ((((l.getD i default)).row)>=m)))),(16,Xv 1 (!((decide ((((l.getD i default)).row)< 0)||decide ((((l.getD i default)).row)>=m))||decide ((((l.getD i default)).col)< 0))) X0),(18,Xv 2 (!((decide ((((l.getD i default)).row)< 0)||decide ((((l.getD i default)).row)>=m))||decide ((((l.getD i default)).col)< 0))) X0),(19,X (Xk' ((decide ((((l.getD i default)).row)< 0)||decide ((((l.getD i default)).row)>=m))||decide ((((l.getD i default)).col)< 0))))]] (((decide ((((l.getD i default)).row)< 0)||decide ((((l.getD i default)).row)>=m))||decide ((((l.getD i default)).col)< 0))||decide ((((l.getD i default)).col)>=n)) (fun h4=> ?_) (fun h4=> ?_)
  ·
   have e1:((z0V l m n o 0):Int)=2:=by
    first| (rw[I2.2,hx];((repeat' split)<;>first|rfl|omega| (simp_all;done)| (simp_all;omega)))| (rw[I2.2,z0V,if_neg (by omega)])
   exact .finE [.r []] [] (fun z0:Int=>(VI z0,[])) _ _ e1
  ·
   refine .bp [.r [(5,Xv 1 (!(decide ((((l.getD i default)).ref)< 0))) X0),(6,Xv 1 (!(decide ((((l.getD i default)).ref)< 0))) X0),(7,X (Xk' (decide ((((l.getD i default)).ref)< 0))))]] (decide ((((l.getD i default)).ref)< 0)||decide ((((l.getD i default)).ref)> 1073741824)) (fun h6=> ?_) (fun h6=> ?_)
   ·
    have e2:((z0V l m n o 0):Int)=2:=by
     first| (rw[I2.2,hx];((repeat' split)<;>first|rfl|omega| (simp_all;done)| (simp_all;omega)))| (rw[I2.2,z0V,if_neg (by omega)])
    exact .finE [.r []] [] (fun z0:Int=>(VI z0,[])) _ _ e2
   ·
    refine .bp [.r [(2,X (Xc0 (x2j (((l.getD i default)).text) (by assumption)) X0))]] (!(y1f (((l.getD i default)).text))) (fun h8=> ?_) (fun h8=> ?_)
    ·
     have e3:((z0V l m n o 0):Int)=23:=by
      first| (rw[I2.2,hx];((repeat' split)<;>first|rfl|omega| (simp_all;done)| (simp_all;omega)))| (rw[I2.2,z0V,if_neg (by omega)])
     exact .finE [.r []] [] (fun z0:Int=>(VI z0,[])) _ _ e3
    ·
     refine .bp [.r [(2,X (Xc0 (z39 (((l.getD i default)).attrs)) X0))],.r []] ((z1B false (((l.getD i default)).attrs) 0) !=0) (fun h11=> ?_) (fun h11=> ?_)
     ·
      have e4:((z0V l m n o 0):Int)=(z1B false (((l.getD i default)).attrs) 0):=by
       first| (rw[I2.2,hx];((repeat' split)<;>first|rfl|omega| (simp_all;done)| (simp_all;omega)))| (rw[I2.2,z0V,if_neg (by omega)])
      exact .finE [.r []] [] (fun z0:Int=>(VI z0,[])) _ _ e4
     ·
      refine .bp [.r [(1,X (Xc0 (y1j ((l.getD i default))) X0)),(4,Xv 1 (z1K ((l.getD i default))) X0),(5,X (Xk (z1K ((l.getD i default)))))]] ((z1K ((l.getD i default)))&& !o) (fun h13=> ?_) (fun h13=> ?_)
      ·
       have e5:((z0V l m n o 0):Int)=4:=by
        first| (rw[I2.2,hx];((repeat' split)<;>first|rfl|omega| (simp_all;done)| (simp_all;omega)))| (rw[I2.2,z0V,if_neg (by omega)])
       exact .finE [.r []] [] (fun z0:Int=>(VI z0,[])) _ _ e5
      ·
       refine .bp [.r [(5,Xv 1 (decide ((i:Int)> 0)) (Xn ((i:Int)- 1))),(6,Xv 2 (decide ((i:Int)> 0)) (Xi' z0k l ((i:Int)- 1) (i- 1))),(7,Xv 1 (decide ((i:Int)> 0)) X0),(9,Xv 2 (decide ((i:Int)> 0)) (Xc0 (y1i ((l.getD (i- 1) default)) ((l.getD i default))) X0)),(10,Xv 1 (decide ((i:Int)> 0)) X0),(11,X (Xk (decide ((i:Int)> 0))))]] (decide ((i:Int)> 0)&&decide ((z5b ((l.getD (i- 1) default)) ((l.getD i default)))>=0)) (fun h15=> ?_) (fun h15=> ?_)
       ·
        have e6:((z0V l m n o 0):Int)=5:=by
         first| (rw[I2.2,hx];((repeat' split)<;>first|rfl|omega| (simp_all;done)| (simp_all;omega)))| (rw[I2.2,z0V,if_neg (by omega)])
        exact .finE [.r []] [] (fun z0:Int=>(VI z0,[])) _ _ e6
       ·
        refine .back [.r [(0,X (Xn ((i:Int)+1)))]] [] (ih2 ((i+1):Nat) ?_ ?_)
        ·
         refine⟨by omega,?_⟩
         rw[I2.2,hx]
         ((repeat' split)<;>first|rfl|omega| (simp_all;done)| (simp_all;omega))
        ·
         ((try dsimp only);omega)
 ·
  have e7:((z0V l m n o 0):Int)=0:=by
   first| (rw[I2.2,hx];((repeat' split)<;>first|rfl|omega| (simp_all;done)| (simp_all;omega)))| (rw[I2.2,z0V,if_neg (by omega)])
  exact .finE [.r []] [] (fun z0:Int=>(VI z0,[])) _ _ e7
theorem y1k(c:Cell)(h:c.attrs.length<=1000000000000):FC Tryz.prog 207 [.t (z0k c)] (app emp []) (.t (z0k c)) (app emp []):=by
 refine .go Tryz.f207 ?_
 exact .finV [.r [],.r [(2,X (Xan z0a 32 c.attrs))],.r []] [.fR 0 [(c.attrs.length:Nat)=(List.map z0a c.attrs).length] ⟨lm,trivial⟩] []
theorem z6S(n:Int)(a:List AxStep)(hv:0<a.length->z4O a):FC Tryz.prog 172 [VI n,VL 2 z0P a] (app emp []) (.tup [VI (if 0<a.length then z2M a else n),VB (decide (0<a.length->z3o a=n))]) (app emp []):=by
 refine .go Tryz.f172 ?_
 refine .len 1 (fun hl1=> ?_)
 refine .bp [.r [],.r [(1,X (Xl z0P a))]] ((a.length:Int)==0) (fun h1=> ?_) (fun h1=> ?_)
 ·
  have e1:((if 0<a.length then z2M a else n):Int)=n:=by
   first|rw[if_neg (by omega)]|exact decide_eq_true (fun h=>by omega)|exact(decide_eq_true (fun h=>by omega)).symm
  have e2:((decide (0<a.length->z3o a=n)):Bool)=true:=by
   first|rw[if_neg (by omega)]|exact decide_eq_true (fun h=>by omega)|exact(decide_eq_true (fun h=>by omega)).symm
  exact .finE [.r []] [] (fun((z0,z1):Int×Bool)=>(.tup [VI z0,VB z1],[])) _ _ (pr e1 e2)
 ·
  have ha:0<a.length:=by omega
  have hv2:=hv ha
  have e3:((if 0<a.length then z2M a else n):Int)=(z2M a):=by
   first|rw[if_pos (by omega)]| (rw[zl,decide_eq_true_eq,beq_iff_eq];exact⟨fun h=>h (by omega),fun h _=>h⟩)
  have e4:((decide (0<a.length->z3o a=n)):Bool)=((z3o a)==n):=by
   first|rw[if_pos (by omega)]| (rw[zl,decide_eq_true_eq,beq_iff_eq];exact⟨fun h=>h (by omega),fun h _=>h⟩)
  exact .finE [.r [(1,X (Xc0 (y2R a (by assumption)) X0))],.r []] [] (fun((z0,z1):Int×Bool)=>(.tup [VI z0,VB z1],[])) _ _ (pr e3 e4)
theorem x2k(l:List Cell)(rows cols:List AxStep)(hl:l.length<=100000000000)(ha:CAN 1000000000000 l)(hr:∀c∈l,PIn rows c.row)(hc:∀c∈l,PIn cols c.col):FC Tryz.prog 149 [VL 5 z0k l,VL 2 z0P rows,VL 2 z0P cols] (app emp []) (VL 5 z0k (y3O l rows cols)) (app emp []):=by
 refine .go Tryz.f149 ?_
 refine .len 0 (fun hl0=> ?_)
 refine .len 1 (fun hl1=> ?_)
 refine .len 2 (fun hl2=> ?_)
 refine .loop (α:=Nat×(List Cell)) [.r [],.r [],.r [(1,X (Xl z0k l))],.le (.nR 7 5)] 41 (fun(i,o)=>([(1,VL 2 z0P rows),(2,VL 2 z0P cols),(7,.row 40 o.length),(14,VL 5 z0k l),(15,VI (l.length:Int)),(16,VI (i:Int))],[(40,OR 5 z0k o)])) (fun(i,o)=>i<=l.length/\o=y3O (l.take i) rows cols) (fun(i,o)=>l.length-i) (0,[]) ?_ ?_
 ·
  exact⟨by omega,rfl⟩
 rintro⟨i,o⟩ I3 ih3
 try dsimp only at I3
 have ol:o.length<=i:=by rw[I3.2];have:=y1c (l.take i) rows cols;simp at this;omega
 refine .bp [.r []] (decide ((i:Int)< (l.length:Int))) (fun h3=> ?_) (fun h3=> ?_)
 ·
  have hm:=y2S (l:=l) (i:=i) (by omega)
  have ha1:=ha _ hm
  have hr1:=hr _ hm
  have hc1:=hc _ hm
  refine .bp [.r [(0,X (Xi z0k l (i:Int)))],.r [(1,X (Xc1 89 (y1k ((l.getD i default)) (by omega)) X0))],.r [(1,X (Xl z0P rows))]] (decide ((rows.length:Int)> 0)) (fun h6=> ?_) (fun h6=> ?_)
  ·
   obtain⟨hv1,hx1⟩:=hr1 (by omega)
   have hxx:∀x∈[(l.getD i default).row],0<=x/\x<z3o rows:=fun x hx=>by(have:=qA.1 hx;omega)
   refine .bp [.r [(4,X (Xc1 161 (z7s rows [(((l.getD i default))).row] (by assumption) (by assumption) (by simp)) (z0Y z0B [(((l.getD i default))).row] X0)))],.r [(4,Xv 1 (!false) (Xi z0B (List.map (fun x=>z0C rows x 0 0) [(((l.getD i default))).row]) 0)),(5,Xv 1 (!false) X0),(6,Xv 1 (!false) X0),(7,X (Xk' false))]] (false||decide (((List.map (fun x=>z0C rows x 0 0) [(((l.getD i default))).row]).getD 0 default)< 0)) (fun h8=> ?_) (fun h8=> ?_)
   ·
    refine .back [.r [(0,X (Xn ((i:Int)+1)))]] [(40,40)] (ih3 ((i+1),o) ?_ ?_)
    ·
     refine⟨by omega,?_⟩
     rw[z3p (by omega),<-I3.2]
     unfold mvC mvR
     simp only[qZ,zW,zy] at*
     (repeat' split)<;>first|rfl| (simp;done)| (exfalso;omega)| (exfalso;simp_all;done)| (exfalso;simp_all;omega)
    ·
     ((try dsimp only);omega)
   ·
    refine .bp [.r [(1,X (Xi z0B (List.map (fun x=>z0C rows x 0 0) [(((l.getD i default))).row]) 0))],.r [(1,X (Xl z0P cols))]] (decide ((cols.length:Int)> 0)) (fun h10=> ?_) (fun h10=> ?_)
    ·
     obtain⟨hv2,hx2⟩:=hc1 (by omega)
     have hyy:∀x∈[(l.getD i default).col],0<=x/\x<z3o cols:=fun x hx=>by(have:=qA.1 hx;omega)
     refine .bp [.r [(4,X (Xc1 369 (z7s cols [(((l.getD i default))).col] (by assumption) (by assumption) (by simp)) (z0Y z0B [(((l.getD i default))).col] X0)))],.r [(4,Xv 1 (!false) (Xi z0B (List.map (fun x=>z0C cols x 0 0) [(((l.getD i default))).col]) 0)),(5,Xv 1 (!false) X0),(6,Xv 1 (!false) X0),(7,X (Xk' false))]] (false||decide (((List.map (fun x=>z0C cols x 0 0) [(((l.getD i default))).col]).getD 0 default)< 0)) (fun h12=> ?_) (fun h12=> ?_)
     ·
      refine .back [.r [(0,X (Xn ((i:Int)+1)))]] [(40,40)] (ih3 ((i+1),o) ?_ ?_)
      ·
       refine⟨by omega,?_⟩
       rw[z3p (by omega),<-I3.2]
       unfold mvC mvR
       simp only[qZ,zW,zy] at*
       (repeat' split)<;>first|rfl| (simp;done)| (exfalso;omega)| (exfalso;simp_all;done)| (exfalso;simp_all;omega)
      ·
       ((try dsimp only);omega)
     ·
      refine .back [.r [(1,X (Xi z0B (List.map (fun x=>z0C cols x 0 0) [(((l.getD i default))).col]) 0))],.r [(3,X (z0Y z0k [({row:=((List.map (fun x=>z0C rows x 0 0) [(((l.getD i default))).row]).getD 0 default),col:=((List.map (fun x=>z0C cols x 0 0) [(((l.getD i default))).col]).getD 0 default),text:=(((l.getD i default))).text,ref:=(((l.getD i default))).ref,attrs:=(((l.getD i default))).attrs}:Cell)] (Xap 5 z0k 40 o [({row:=((List.map (fun x=>z0C rows x 0 0) [(((l.getD i default))).row]).getD 0 default),col:=((List.map (fun x=>z0C cols x 0 0) [(((l.getD i default))).col]).getD 0 default),text:=(((l.getD i default))).text,ref:=(((l.getD i default))).ref,attrs:=(((l.getD i default))).attrs}:Cell)])))],.r [(0,X (Xn ((i:Int)+1)))]] [(40,40)] (ih3 ((i+1),(o++[({row:=((List.map (fun x=>z0C rows x 0 0) [(((l.getD i default))).row]).getD 0 default),col:=((List.map (fun x=>z0C cols x 0 0) [(((l.getD i default))).col]).getD 0 default),text:=(((l.getD i default))).text,ref:=(((l.getD i default))).ref,attrs:=(((l.getD i default))).attrs}:Cell)])) ?_ ?_)
      ·
       refine⟨by omega,?_⟩
       rw[z3p (by omega),<-I3.2]
       unfold mvC mvR
       simp only[qZ,zW,zy] at*
       (repeat' split)<;>first|rfl| (simp;done)| (exfalso;omega)| (exfalso;simp_all;done)| (exfalso;simp_all;omega)
      ·
       ((try dsimp only);omega)
    ·
     refine .back [.r [(3,X (z0Y z0k [({row:=((List.map (fun x=>z0C rows x 0 0) [(((l.getD i default))).row]).getD 0 default),col:=(((l.getD i default))).col,text:=(((l.getD i default))).text,ref:=(((l.getD i default))).ref,attrs:=(((l.getD i default))).attrs}:Cell)] (Xap 5 z0k 40 o [({row:=((List.map (fun x=>z0C rows x 0 0) [(((l.getD i default))).row]).getD 0 default),col:=(((l.getD i default))).col,text:=(((l.getD i default))).text,ref:=(((l.getD i default))).ref,attrs:=(((l.getD i default))).attrs}:Cell)])))],.r [(0,X (Xn ((i:Int)+1)))]] [(40,40)] (ih3 ((i+1),(o++[({row:=((List.map (fun x=>z0C rows x 0 0) [(((l.getD i default))).row]).getD 0 default),col:=(((l.getD i default))).col,text:=(((l.getD i default))).text,ref:=(((l.getD i default))).ref,attrs:=(((l.getD i default))).attrs}:Cell)])) ?_ ?_)
     ·
      refine⟨by omega,?_⟩
      rw[z3p (by omega),<-I3.2]
      unfold mvC mvR
      simp only[qZ,zW,zy] at*
      (repeat' split)<;>first|rfl| (simp;done)| (exfalso;omega)| (exfalso;simp_all;done)| (exfalso;simp_all;omega)
     ·
      ((try dsimp only);omega)
  ·
   refine .bp [.r [(1,X (Xl z0P cols))]] (decide ((cols.length:Int)> 0)) (fun h10=> ?_) (fun h10=> ?_)
   ·
    obtain⟨hv2,hx2⟩:=hc1 (by omega)
    have hyy:∀x∈[(l.getD i default).col],0<=x/\x<z3o cols:=fun x hx=>by(have:=qA.1 hx;omega)
    refine .bp [.r [(4,X (Xc1 185 (z7s cols [(((l.getD i default))).col] (by assumption) (by assumption) (by simp)) (z0Y z0B [(((l.getD i default))).col] X0)))],.r [(4,Xv 1 (!false) (Xi z0B (List.map (fun x=>z0C cols x 0 0) [(((l.getD i default))).col]) 0)),(5,Xv 1 (!false) X0),(6,Xv 1 (!false) X0),(7,X (Xk' false))]] (false||decide (((List.map (fun x=>z0C cols x 0 0) [(((l.getD i default))).col]).getD 0 default)< 0)) (fun h12=> ?_) (fun h12=> ?_)
    ·
     refine .back [.r [(0,X (Xn ((i:Int)+1)))]] [(40,40)] (ih3 ((i+1),o) ?_ ?_)
     ·
      refine⟨by omega,?_⟩
      rw[z3p (by omega),<-I3.2]
      unfold mvC mvR
      simp only[qZ,zW,zy] at*
      (repeat' split)<;>first|rfl| (simp;done)| (exfalso;omega)| (exfalso;simp_all;done)| (exfalso;simp_all;omega)
     ·
      ((try dsimp only);omega)
    ·
     refine .back [.r [(1,X (Xi z0B (List.map (fun x=>z0C cols x 0 0) [(((l.getD i default))).col]) 0))],.r [(3,X (z0Y z0k [({row:=(((l.getD i default))).row,col:=((List.map (fun x=>z0C cols x 0 0) [(((l.getD i default))).col]).getD 0 default),text:=(((l.getD i default))).text,ref:=(((l.getD i default))).ref,attrs:=(((l.getD i default))).attrs}:Cell)] (Xap 5 z0k 40 o [({row:=(((l.getD i default))).row,col:=((List.map (fun x=>z0C cols x 0 0) [(((l.getD i default))).col]).getD 0 default),text:=(((l.getD i default))).text,ref:=(((l.getD i default))).ref,attrs:=(((l.getD i default))).attrs}:Cell)])))],.r [(0,X (Xn ((i:Int)+1)))]] [(40,40)] (ih3 ((i+1),(o++[({row:=(((l.getD i default))).row,col:=((List.map (fun x=>z0C cols x 0 0) [(((l.getD i default))).col]).getD 0 default),text:=(((l.getD i default))).text,ref:=(((l.getD i default))).ref,attrs:=(((l.getD i default))).attrs}:Cell)])) ?_ ?_)
     ·
      refine⟨by omega,?_⟩
      rw[z3p (by omega),<-I3.2]
      unfold mvC mvR
      simp only[qZ,zW,zy] at*
      (repeat' split)<;>first|rfl| (simp;done)| (exfalso;omega)| (exfalso;simp_all;done)| (exfalso;simp_all;omega)
     ·
      ((try dsimp only);omega)
   ·
    refine .back [.r [(3,X (z0Y z0k [(((l.getD i default)))] (Xap 5 z0k 40 o [(((l.getD i default)))])))],.r [(0,X (Xn ((i:Int)+1)))]] [(40,40)] (ih3 ((i+1),(o++[(((l.getD i default)))])) ?_ ?_)
    ·
     refine⟨by omega,?_⟩
     rw[z3p (by omega),<-I3.2]
     unfold mvC mvR
     simp only[qZ,zW,zy] at*
     (repeat' split)<;>first|rfl| (simp;done)| (exfalso;omega)| (exfalso;simp_all;done)| (exfalso;simp_all;omega)
    ·
     ((try dsimp only);omega)
 ·
  have e1:((y3O l rows cols):List Cell)=o:=by
   rw[I3.2,qp (by omega)]
  exact .finE [.r [],.le (.fr 6 [(o.length:Nat)=(List.map z0k o).length] ⟨lm,trivial⟩)] [] (fun z0:List Cell=>(VL 5 z0k z0,[])) _ _ e1
theorem x4N(l news:List Cell)(hl:l.length<=100000000000)(hn:news.length<=100000000000)(ha:CAN 1000000000000 news):FC Tryz.prog 173 [VL 5 z0k l,VL 5 z0k news] (app emp []) (VL 5 z0k (z6P news l)) (app emp []):=by
 refine .go Tryz.f173 ?_
 refine .len 0 (fun hl0=> ?_)
 refine .len 1 (fun hl1=> ?_)
 refine .loop (α:=Nat×Nat×(List Cell)) [.r [],.r [],.r [],.r [(1,X (Xl z0k news))],.le (.nR 5 5)] 49 (fun(i,k,o)=>([(0,VL 5 z0k l),(5,.row 48 o.length),(6,VI (i:Int)),(9,VL 5 z0k news),(10,VI (news.length:Int)),(11,VI (k:Int))],[(48,OR 5 z0k o)])) (fun(i,k,o)=>k<=news.length/\i<=l.length/\o.length<=i+k/\z6P news l=o++z6P (news.drop k) (l.drop i)) (fun(i,k,o)=>news.length-k) (0,0,[]) ?_ ?_
 ·
  exact⟨by omega,by omega,by simp,rfl⟩
 rintro⟨i,k,o⟩ I4 ih4
 try dsimp only at I4
 refine .bp [.r []] (decide ((k:Int)< (news.length:Int))) (fun h4=> ?_) (fun h4=> ?_)
 ·
  have hm:=ha _ (y2S (l:=news) (i:=k) (by omega))
  refine .loop (α:=Nat×(List Cell)) [.r [(0,X (Xi z0k news (k:Int)))]] 89 (fun(j,p)=>([(0,VL 5 z0k l),(5,.row 48 p.length),(6,VI (j:Int)),(8,.ptr 73 0),(9,VL 5 z0k news),(10,VI (news.length:Int)),(11,VI (k:Int))],[(48,OR 5 z0k p),(73,.box [VI (((news.getD k default)).row),VI (((news.getD k default)).col),VS (((news.getD k default)).text),VI (((news.getD k default)).ref),VL 2 z0a (((news.getD k default)).attrs)])])) (fun(j,p)=>j<=l.length/\p.length<=j+k/\z6P news l=p++y15 (news.getD k default) (z6P (news.drop (k+1))) (l.drop j)) (fun(j,p)=>l.length-j) (i,o) ?_ ?_
  ·
   exact⟨by omega,by omega,by rw[I4.2.2.2,x2g (l:=news) (by omega),z6P]⟩
  rintro⟨j,p⟩ I6 ih6
  try dsimp only at I6
  skip
  refine .bp [.r [(2,X (Xl z0k l)),(7,Xv 2 (decide ((j:Int)< (l.length:Int))) (Xi z0k l (j:Int))),(8,Xv 1 (decide ((j:Int)< (l.length:Int))) X0),(10,Xv 2 (decide ((j:Int)< (l.length:Int))) (Xc0 (y1i ((l.getD j default)) ((news.getD k default))) X0)),(11,Xv 1 (decide ((j:Int)< (l.length:Int))) X0),(12,X (Xk (decide ((j:Int)< (l.length:Int)))))]] (decide ((j:Int)< (l.length:Int))&&decide ((z5b ((l.getD j default)) ((news.getD k default)))< 0)) (fun h6=> ?_) (fun h6=> ?_)
  ·
   refine .back [.r [(3,X (Xi z0k l (j:Int))),(6,X (z0Y z0k [((l.getD j default))] (Xap 5 z0k 48 p [((l.getD j default))])))],.r [(1,X (Xn ((j:Int)+1)))]] [(48,48),(73,73)] (ih6 ((j+1),(p++[((l.getD j default))])) ?_ ?_)
   ·
    refine⟨by omega,by simp;omega,?_⟩
    rw[I6.2.2,x4K (by omega) (by omega),qO]
    rfl
   ·
    ((try dsimp only);omega)
  ·
   refine .bp [.r [(2,X (Xl z0k l)),(7,Xv 2 (decide ((j:Int)< (l.length:Int))) (Xi z0k l (j:Int))),(8,Xv 1 (decide ((j:Int)< (l.length:Int))) X0),(10,Xv 2 (decide ((j:Int)< (l.length:Int))) (Xc0 (y1i ((l.getD j default)) ((news.getD k default))) X0)),(11,Xv 1 (decide ((j:Int)< (l.length:Int))) X0),(12,X (Xk (decide ((j:Int)< (l.length:Int)))))]] (decide ((j:Int)< (l.length:Int))&&((z5b ((l.getD j default)) ((news.getD k default)))==0)) (fun h9=> ?_) (fun h9=> ?_)
   ·
    refine .bp [.r [(1,X (Xn ((j:Int)+1)))],.r [(1,X (Xc0 (y1j ((news.getD k default))) X0))]] (!(z1K ((news.getD k default)))) (fun h11=> ?_) (fun h11=> ?_)
    ·
     refine .back [.r [(2,X (Xc1 361 (y1k ((news.getD k default)) (by omega)) X0)),(4,X (z0Y z0k [((news.getD k default))] (Xap 5 z0k 48 p [((news.getD k default))])))],.r [(0,X (Xn ((k:Int)+1)))]] [(48,48)] (ih4 ((j+1),(k+1),(p++[((news.getD k default))])) ?_ ?_)
     ·
      refine⟨by omega,by omega,by((try simp only[qf,qi,zg]);omega),?_⟩
      rw[I6.2.2]
      (first|rw[y1d (by omega) (by omega)]|rw[y1e (fun h=>by omega)])
      (first|rw[if_pos (by assumption)]|rw[if_neg (by simp_all)])
      simp
     ·
      ((try dsimp only);omega)
    ·
     refine .back [.r [(0,X (Xn ((k:Int)+1)))]] [(48,48)] (ih4 ((j+1),(k+1),p) ?_ ?_)
     ·
      refine⟨by omega,by omega,by((try simp only[qf,qi,zg]);omega),?_⟩
      rw[I6.2.2]
      (first|rw[y1d (by omega) (by omega)]|rw[y1e (fun h=>by omega)])
      (first|rw[if_pos (by assumption)]|rw[if_neg (by simp_all)])
      simp
     ·
      ((try dsimp only);omega)
   ·
    refine .bp [.r [(1,X (Xc0 (y1j ((news.getD k default))) X0))]] (!(z1K ((news.getD k default)))) (fun h11=> ?_) (fun h11=> ?_)
    ·
     refine .back [.r [(2,X (Xc1 337 (y1k ((news.getD k default)) (by omega)) X0)),(4,X (z0Y z0k [((news.getD k default))] (Xap 5 z0k 48 p [((news.getD k default))])))],.r [(0,X (Xn ((k:Int)+1)))]] [(48,48)] (ih4 (j,(k+1),(p++[((news.getD k default))])) ?_ ?_)
     ·
      refine⟨by omega,by omega,by((try simp only[qf,qi,zg]);omega),?_⟩
      rw[I6.2.2]
      (first|rw[y1d (by omega) (by omega)]|rw[y1e (fun h=>by omega)])
      (first|rw[if_pos (by assumption)]|rw[if_neg (by simp_all)])
      simp
     ·
      ((try dsimp only);omega)
    ·
     refine .back [.r [(0,X (Xn ((k:Int)+1)))]] [(48,48)] (ih4 (j,(k+1),p) ?_ ?_)
     ·
      refine⟨by omega,by omega,by((try simp only[qf,qi,zg]);omega),?_⟩
      rw[I6.2.2]
      (first|rw[y1d (by omega) (by omega)]|rw[y1e (fun h=>by omega)])
      (first|rw[if_pos (by assumption)]|rw[if_neg (by simp_all)])
      simp
     ·
      ((try dsimp only);omega)
 ·
  have e1:((z6P news l):List Cell)=(o++(l.drop i)):=by
   rw[I4.2.2.2,y2T (l:=news) (by omega),z6P]
  exact .finE [.r [(3,X (Xsd z0k 5 l (i:Int))),(4,X (Xap 5 z0k 48 o (l.drop i)))],.le (.fr 4 [(((o++(l.drop i)).length):Nat)=(List.map z0k (o++(l.drop i))).length] ⟨lm,trivial⟩)] [] (fun z0:List Cell=>(VL 5 z0k z0,[])) _ _ e1
theorem y2W(x:Grid)(hm:x.merges=[])(hnt:y4w x.cells):FC Tryz.prog 98 [.t (y1b x)] (app emp []) (VI (z18 x)) (app emp []):=by
 refine .go Tryz.f98 ?_
 have hl:x.merges.length=0:=by rw[hm];rfl
 refine .bp [.r [],.r [(5,Xv 1 (!(decide (x.rows<0))) X0),(6,Xv 1 (!(decide (x.rows<0))) X0),(7,X (Xk' (decide (x.rows<0)))),(10,Xv 1 (!(decide (x.rows<0)||decide (x.rows>2147483647))) X0),(11,Xv 1 (!(decide (x.rows<0)||decide (x.rows>2147483647))) X0),(12,X (Xk' (decide (x.rows<0)||decide (x.rows>2147483647)))),(15,Xv 1 (!((decide (x.rows<0)||decide (x.rows>2147483647))||decide (x.cols<0))) X0),(16,Xv 1 (!((decide (x.rows<0)||decide (x.rows>2147483647))||decide (x.cols<0))) X0),(17,X (Xk' ((decide (x.rows<0)||decide (x.rows>2147483647))||decide (x.cols<0))))]] (((decide (x.rows<0)||decide (x.rows>2147483647))||decide (x.cols<0))||decide (x.cols>2147483647)) (fun h1=> ?_) (fun h1=> ?_)
 ·
  have e1:((z18 x):Int)=2:=by
   unfold z18;rw[if_pos (by omega)]
  exact .finE [.r []] [] (fun z0:Int=>(VI z0,[])) _ _ e1
 ·
  refine .bp [.r [(6,X (Xc0 (y5T x.cells x.rows x.cols false (by assumption)) X0))],.r []] ((z0V x.cells x.rows x.cols false 0) !=0) (fun h4=> ?_) (fun h4=> ?_)
  ·
   have e2:((z18 x):Int)=(z0V x.cells x.rows x.cols false 0):=by
    unfold z18;rw[if_neg (by omega),if_pos (by omega)]
   exact .finE [.r []] [] (fun z0:Int=>(VI z0,[])) _ _ e2
  ·
   refine .loop (α:=Nat) [.r [(2,X (Xl z0t x.merges))]] 272 (fun i=>([(1,.ptr 0 0),(35,VL 4 z0t x.merges),(36,VI (x.merges.length:Int)),(37,VI (i:Int))],[(0,.box [VI x.rows,VI x.cols,VL 5 z0k x.cells,VL 4 z0t x.merges])])) (fun i=>i=0) (fun i=>0) (0:Nat) ?_ ?_
   ·
    rfl
   rintro i I7 ih7
   try dsimp only at I7
   refine .bp [.r []] (decide ((i:Int)< (x.merges.length:Int))) (fun h7=> ?_) (fun h7=> ?_)
   ·
    exfalso
    omega
   ·
    have e3:((z18 x):Int)=0:=by
     unfold z18;rw[if_neg (by omega),if_neg (by omega),y9u,if_neg (by omega)]
    exact .finE [.r []] [] (fun z0:Int=>(VI z0,[])) _ _ e3
theorem z7S(e:GEd)(hl:LiteE e):FC Tryz.prog 80 [.t (x2d e)] (app emp []) (VI (edE e)) (app emp []):=by
 refine .go Tryz.f80 ?_
 have h1:=hl.sp
 have h2:=hl.me
 have hnt:=hl.tx
 have g1:z6Q e.split 2147483647 2147483647 0=0:=by rw[z6Q,if_neg (by omega)]
 have g2:mgE e.merge 2147483647 2147483647 0=0:=by rw[mgE,if_neg (by omega)]
 refine .bp [.r [],.r [],.u,.r [],.t,.r [(0,X (Xa (Xc ((0:Int)<=0)) (Xc ((0:Int)< ((2:Nat):Int)))) ⟨by decide,by decide⟩)],.r [(1,X (Xc0 (z4b e.rows) X0))],.r []] ((z13 e.rows) !=0) (fun h5=> ?_) (fun h5=> ?_)
 ·
  have e1:((edE e):Int)=(z13 e.rows):=by
   unfold edE;(repeat' split)<;>omega
  exact .finE [.r []] [] (fun z0:Int=>(VI z0,[])) _ _ e1
 ·
  refine .bp [.r [],.u,.r [],.t,.r [(0,X (Xa (Xc ((0:Int)<=1)) (Xc ((1:Int)< ((2:Nat):Int)))) ⟨by decide,by decide⟩)],.r [(1,X (Xc0 (z4b e.cols) X0))],.r []] ((z13 e.cols) !=0) (fun h5=> ?_) (fun h5=> ?_)
  ·
   have e2:((edE e):Int)=(z13 e.cols):=by
    unfold edE;(repeat' split)<;>omega
   exact .finE [.r []] [] (fun z0:Int=>(VI z0,[])) _ _ e2
  ·
   refine .bp [.r [],.u,.r [],.f,.r [(2,X (Xc0 (y5T e.cells 2147483647 2147483647 true (by assumption)) X0))],.r []] ((z0V e.cells 2147483647 2147483647 true 0) !=0) (fun h9=> ?_) (fun h9=> ?_)
   ·
    have e3:((edE e):Int)=(z0V e.cells 2147483647 2147483647 true 0):=by
     unfold edE;(repeat' split)<;>omega
    exact .finE [.r []] [] (fun z0:Int=>(VI z0,[])) _ _ e3
   ·
    refine .loop (α:=Nat) [.r [],.u,.r [],.t,.r [(1,X (Xa (Xc ((0:Int)<=0)) (Xc ((0:Int)< ((2:Nat):Int)))) ⟨by decide,by decide⟩)],.r [(1,X (Xl z0t e.split))]] 392 (fun j=>([(7,VI 0),(35,.t (.agg [TL 4 z0t e.split,TL 4 z0t e.merge])),(36,VI 0),(40,VL 4 z0t e.split),(41,VI (e.split.length:Int)),(42,VI (j:Int))],[])) (fun j=>j=0) (fun j=>0) (0:Nat) ?_ ?_
    ·
     rfl
    rintro j I15 ih15
    try dsimp only at I15
    refine .bp [.r []] (decide ((j:Int)< (e.split.length:Int))) (fun h15=> ?_) (fun h15=> ?_)
    ·
     exfalso
     omega
    ·
     refine .loop (α:=Nat) [.r [],.u,.r [],.t,.r [(1,X (Xa (Xc ((0:Int)<=1)) (Xc ((1:Int)< ((2:Nat):Int)))) ⟨by decide,by decide⟩)],.r [(1,X (Xl z0t e.merge))]] 480 (fun j=>([(7,VI 1),(35,.t (.agg [TL 4 z0t e.split,TL 4 z0t e.merge])),(36,VI 1),(40,VL 4 z0t e.merge),(41,VI (e.merge.length:Int)),(42,VI (j:Int))],[])) (fun j=>j=0) (fun j=>0) (0:Nat) ?_ ?_
     ·
      rfl
     rintro j I15 ih15
     try dsimp only at I15
     refine .bp [.r []] (decide ((j:Int)< (e.merge.length:Int))) (fun h15=> ?_) (fun h15=> ?_)
     ·
      exfalso
      omega
     ·
      have e4:((edE e):Int)=0:=by
       unfold edE;(repeat' split)<;>omega
      exact .finE [.r [],.u,.r [],.f,.r []] [] (fun z0:Int=>(VI z0,[])) _ _ e4
theorem x4O(x:Grid)(e:GEd)(hm:x.merges=[])(hnx:y4w x.cells)(hl:LiteE e):FC Tryz.prog 171 [.t (y1b x),.t (x2d e)] (app emp []) (.tup [VI (y5P x e),VI (y5Q x e),VI (z1Z x e)]) (app emp []):=by
 refine .go Tryz.f171 ?_
 have q1:=hl.sp
 have q2:=hl.me
 have q3:=hl.ln
 have hvr:0<e.rows.length->edE e=0->z4O e.rows:=fun _ h=>(y5N h).okr
 have hvc:0<e.cols.length->edE e=0->z4O e.cols:=fun _ h=>(y5N h).okc
 refine .bp [.r [],.r [(1,X (Xc0 (y2W x (by assumption) (by assumption)) X0))],.r []] ((z18 x) !=0) (fun h2=> ?_) (fun h2=> ?_)
 ·
  have T:=x6z (e:=e) h2
  have e1:((y5P x e):Int)=0:=by
   exact T.1
  have e2:((y5Q x e):Int)=0:=by
   exact T.2.1
  have e3:((z1Z x e):Int)=(z18 x):=by
   exact T.2.2
  exact .finE [.r []] [] (fun((z0,z1,z2):Int×Int×Int)=>(.tup [VI z0,VI z1,VI z2],[])) _ _ (pr e1 (pr e2 e3))
 ·
  refine .bp [.r [(1,X (Xc0 (z7S e (by assumption)) X0))],.r []] ((edE e) !=0) (fun h5=> ?_) (fun h5=> ?_)
  ·
   have T:=x6A (by omega) h5
   have e4:((y5P x e):Int)=0:=by
    exact T.1
   have e5:((y5Q x e):Int)=0:=by
    exact T.2.1
   have e6:((z1Z x e):Int)=(edE e):=by
    exact T.2.2
   exact .finE [.r []] [] (fun((z0,z1,z2):Int×Int×Int)=>(.tup [VI z0,VI z1,VI z2],[])) _ _ (pr e4 (pr e5 e6))
  ·
   have hv1:0<e.rows.length->z4O e.rows:=fun h=>hvr h (by omega)
   have hv2:0<e.cols.length->z4O e.cols:=fun h=>hvc h (by omega)
   refine .bp [.r [(4,X (Xc0 (z6S x.rows e.rows (by assumption)) X0))],.r [(4,X (Xc0 (z6S x.cols e.cols (by assumption)) X0))],.r [(4,Xv 1 (!(!(decide (0< (e.rows).length->z3o e.rows=x.rows)))) X0),(5,X (Xk' (!(decide (0< (e.rows).length->z3o e.rows=x.rows)))))]] (!(decide (0< (e.rows).length->z3o e.rows=x.rows))|| !(decide (0< (e.cols).length->z3o e.cols=x.cols))) (fun h9=> ?_) (fun h9=> ?_)
   ·
    have T:=x6B (by omega) (by omega) h9
    have e7:((y5P x e):Int)=0:=by
     exact T.1
    have e8:((y5Q x e):Int)=0:=by
     exact T.2.1
    have e9:((z1Z x e):Int)=14:=by
     exact T.2.2
    exact .finE [.r []] [] (fun((z0,z1,z2):Int×Int×Int)=>(.tup [VI z0,VI z1,VI z2],[])) _ _ (pr e7 (pr e8 e9))
   ·
    refine .loop (α:=Nat) [.r [(2,X (Xl z0k e.cells))]] 360 (fun i=>([(3,.ptr 8 0),(9,VI (if 0< (e.rows).length then z2M e.rows else x.rows)),(11,VI (if 0< (e.cols).length then z2M e.cols else x.cols)),(52,VL 5 z0k e.cells),(53,VI (e.cells.length:Int)),(54,VI (i:Int))],[(8,.box [VL 2 z0P e.rows,VL 2 z0P e.cols,VL 5 z0k e.cells,VL 4 z0t e.split,VL 4 z0t e.merge])])) (fun i=>i<=e.cells.length/\y4v e.cells (if 0< (e.rows).length then z2M e.rows else x.rows) (if 0< (e.cols).length then z2M e.cols else x.cols) 0=y4v e.cells (if 0< (e.rows).length then z2M e.rows else x.rows) (if 0< (e.cols).length then z2M e.cols else x.cols) i) (fun i=>e.cells.length-i) (0:Nat) ?_ ?_
    ·
     exact⟨by omega,rfl⟩
    rintro i I12 ih12
    try dsimp only at I12
    refine .bp [.r []] (decide ((i:Int)< (e.cells.length:Int))) (fun h12=> ?_) (fun h12=> ?_)
    ·
     refine .bp [.r [(0,X (Xi z0k e.cells (i:Int)))],.r [(6,Xv 1 (!(decide ((((e.cells.getD i default)).row)>=(if 0< (e.rows).length then z2M e.rows else x.rows)))) X0),(8,Xv 2 (!(decide ((((e.cells.getD i default)).row)>=(if 0< (e.rows).length then z2M e.rows else x.rows)))) X0),(9,X (Xk' (decide ((((e.cells.getD i default)).row)>=(if 0< (e.rows).length then z2M e.rows else x.rows)))))]] (decide ((((e.cells.getD i default)).row)>=(if 0< (e.rows).length then z2M e.rows else x.rows))||decide ((((e.cells.getD i default)).col)>=(if 0< (e.cols).length then z2M e.cols else x.cols))) (fun h14=> ?_) (fun h14=> ?_)
     ·
      have hcl:y4v e.cells (if 0< (e.rows).length then z2M e.rows else x.rows) (if 0< (e.cols).length then z2M e.cols else x.cols) 0=2:=by rw[I12.2,y4v,if_pos (by omega),if_pos (by omega)]
      have T:=x6C (by omega) (by omega) h9 q1 q2 hcl
      have e10:((y5P x e):Int)=0:=by
       exact T.1
      have e11:((y5Q x e):Int)=0:=by
       exact T.2.1
      have e12:((z1Z x e):Int)=2:=by
       exact T.2.2
      exact .finE [.r []] [] (fun((z0,z1,z2):Int×Int×Int)=>(.tup [VI z0,VI z1,VI z2],[])) _ _ (pr e10 (pr e11 e12))
     ·
      refine .back [.r [(0,X (Xn ((i:Int)+1)))]] [(8,8)] (ih12 ((i+1):Nat) ?_ ?_)
      ·
       refine⟨by omega,?_⟩
       rw[I12.2,y4v,if_pos (by omega),if_neg (by omega)]
      ·
       ((try dsimp only);omega)
    ·
     refine .loop (α:=Nat) [.r [],.u,.r [],.t,.r [(0,X (Xa (Xc ((0:Int)<=0)) (Xc ((0:Int)< ((2:Nat):Int)))) ⟨by decide,by decide⟩)],.r [(1,X (Xl z0t e.split))]] 464 (fun j=>([(9,VI (if 0< (e.rows).length then z2M e.rows else x.rows)),(11,VI (if 0< (e.cols).length then z2M e.cols else x.cols)),(73,.t (.agg [TL 4 z0t e.split,TL 4 z0t e.merge])),(74,VI 0),(77,VL 4 z0t e.split),(78,VI (e.split.length:Int)),(79,VI (j:Int))],[])) (fun j=>j=0) (fun j=>0) (0:Nat) ?_ ?_
     ·
      rfl
     rintro j I21 ih21
     try dsimp only at I21
     refine .bp [.r []] (decide ((j:Int)< (e.split.length:Int))) (fun h21=> ?_) (fun h21=> ?_)
     ·
      exfalso
      omega
     ·
      refine .loop (α:=Nat) [.r [],.u,.r [],.t,.r [(0,X (Xa (Xc ((0:Int)<=1)) (Xc ((1:Int)< ((2:Nat):Int)))) ⟨by decide,by decide⟩)],.r [(1,X (Xl z0t e.merge))]] 536 (fun j=>([(9,VI (if 0< (e.rows).length then z2M e.rows else x.rows)),(11,VI (if 0< (e.cols).length then z2M e.cols else x.cols)),(73,.t (.agg [TL 4 z0t e.split,TL 4 z0t e.merge])),(74,VI 1),(77,VL 4 z0t e.merge),(78,VI (e.merge.length:Int)),(79,VI (j:Int))],[])) (fun j=>j=0) (fun j=>0) (0:Nat) ?_ ?_
      ·
       rfl
      rintro j I21 ih21
      try dsimp only at I21
      refine .bp [.r []] (decide ((j:Int)< (e.merge.length:Int))) (fun h21=> ?_) (fun h21=> ?_)
      ·
       exfalso
       omega
      ·
       have hcl:y4v e.cells (if 0< (e.rows).length then z2M e.rows else x.rows) (if 0< (e.cols).length then z2M e.cols else x.cols) 0=0:=by rw[I12.2,y4v,if_neg (by omega)]
       have T:=x6D (by omega) (by omega) h9 q1 q2 hcl
       have e13:((y5P x e):Int)=(if 0< (e.rows).length then z2M e.rows else x.rows):=by
        exact T.1
       have e14:((y5Q x e):Int)=(if 0< (e.cols).length then z2M e.cols else x.cols):=by
        exact T.2.1
       have e15:((z1Z x e):Int)=0:=by
        exact T.2.2
       exact .finE [.r [],.u,.r [],.f,.r []] [] (fun((z0,z1,z2):Int×Int×Int)=>(.tup [VI z0,VI z1,VI z2],[])) _ _ (pr e13 (pr e14 e15))
theorem x6E(x:Grid)(e:GEd)(hm:x.merges=[])(hnx:y4w x.cells)(hl:LiteE e):FC Tryz.prog 109 [.t (y1b x),.t (x2d e)] (app emp []) (VI (z1Z x e)) (app emp []):=by
 refine .go Tryz.f109 ?_
 exact .fin [.r [],.r [(2,X (Xc0 (x4O x e (by assumption) (by assumption) (by assumption)) X0))],.r []] []
end Go.Ch
end
