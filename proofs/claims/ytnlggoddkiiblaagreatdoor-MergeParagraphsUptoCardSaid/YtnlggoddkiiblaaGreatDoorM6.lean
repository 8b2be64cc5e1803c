/- An owned row that nobody writes from here on. -/
import Derived.Test.YtnlggoddkiiblaaGreatDoorM1
import Derived.Test.YtnlggoddkiiblaaGreatDoorM2
import Derived.Test.YtnlggoddkiiblaaGreatDoorM3
import Derived.Test.YtnlggoddkiiblaaGreatDoorM4
import Derived.Test.YtnlggoddkiiblaaGreatDoorM5
import Derived.RangeFuncRecord
import Derived.RangeFuncLeaves
import Derived.KernelRfl
import Derived.Test.YtnlggoddkiiblaaGreatDoorProg
set_option linter.unusedVariables false
set_option linter.unusedSimpArgs false
section
namespace Go.Ab
open Go
variable {P:Program} {n:Nat} {l0:List (Nat×Ob)} {s:St}
theorem Le.fz{id k:Nat}{xs:List Tree}(hid:s.st id=some (.row k false xs)):Le n l0 s ⟨s.sl,upd s.st id (.row k true xs),s.nx⟩:=by
 intro P F m0 w0 m a w h0 h1 h2
 obtain⟨r1,r2⟩:=freeze h1.srel hid
 refine⟨m,⟨fun t'=>r2.val (h1.slots t'),h1.size,h1.defers.ext r2,r1,fun i hi=> ?_⟩,h2.trans h0 r2⟩
 have hi':s.nx<=i:=hi
 have:i≠id:=fun e=>by subst e;rw[h1.fresh i hi] at hid;cases hid
 show upd s.st id (.row k true xs) i=none
 rw[z0k this]
 exact h1.fresh i hi
end Go.Ab
end
section
namespace Go.Ab
variable {P:Program} {w w':World} {F:Fen P} {st:Store} {m:Place} {ok ok':Nat->Prop}
def Still(ok:Nat->Prop)(w w':World):Prop:=∀b us e z,ok b->w.heap[b]? =some (.cells us e z)->w'.heap[b]? =w.heap[b]?
theorem z7I{b o:Nat}{u:Value}(h:w.cell? ⟨b,o,none⟩=some u):∃us e z,w.heap[b]? =some (.cells us e z):=by
 unfold World.cell? at h
 split at h
 ·rename_i c e z hb;exact⟨c,e,z,hb⟩
 ·cases h
theorem Still.cell(h:Still ok w w'){b o:Nat}{u:Value}(hb:ok b)(hc:w.cell? ⟨b,o,none⟩=some u):w'.cell? ⟨b,o,none⟩=some u:=by
 obtain⟨us,e,z,hh⟩:=z7I hc
 rw[z3f (h b us e z hb hh)];exact hc
theorem TRep.still(hok:∀b,ok b->ok' b)(hs:Still ok w w'){T:Tree}{v:Value}(h:TRep w ok T v):TRep w' ok' T v:=h.mono hok (fun b o u hb hc=>hs.cell hb hc)
theorem VRel.still(hok:∀b,ok b->ok' b)(hs:Still ok w w'){v:AVal}{u:Value}(h:VRel st m w ok v u):VRel st m w' ok' v u:=by
 induction h with
 |t T u hT=>exact .t T u (hT.still hok hs)
 |xl k xs u hT hc=>exact .xl k xs u (hT.still hok hs) hc
 |row id n k fz xs L h1 h2 h3=>exact .row id n k fz xs L h1 h2 h3
 |ptr id off cs b h1 h2=>exact .ptr id off cs b h1 h2
 |bsl id n cs b h1 h2=>exact .bsl id n cs b h1 h2
 |bslG id n L h1=>exact .bslG id n L h1
 |eptr id n i sub k fz xs b h1 h2 h3=>exact .eptr id n i sub k fz xs b h1 h2 h3
 |mat id fz xs hh L h1 h2=>exact .mat id fz xs hh L h1 h2
 |mptr id i fz xs hh b h1 h2=>exact .mptr id i fz xs hh b h1 h2
 |cptr cs b o us h1 h2 h3 h4 h5=>exact .cptr cs b o us (hok _ h1) h2 h3 (fun j u hu=>hs.cell h1 (h4 j u hu)) (fun j T u a b=>(h5 j T u a b).still hok hs)
 |agg cs us h1 _ h3 ih=>exact .agg cs us h1 ih h3
 |fn f cap us h1 _ ih=>exact .fn f cap us h1 ih
 |tup vs us h1 _ ih=>exact .tup vs us h1 ih
 |cond c v u _ h0 ih=>exact .cond c v u ih h0
 |junk u=>exact .junk u
 |rowG id n L h1=>exact .rowG id n L h1
 |eptrG id n i sub b o h1=>exact .eptrG id n i sub b o h1
 |anyB b=>exact .anyB b
 |ifc t u=>exact .ifc t u
 |tail id n i k fz xs L h1 h2 h3 h4=>exact .tail id n i k fz xs L h1 h2 h3 h4
 |tailG id n i k L h1=>exact .tailG id n i k L h1
 |hdl id o b u h1 h2 h3=>exact .hdl id o b u h1 h2 h3
 |ptrG id off b h1=>exact .ptrG id off b h1
 |yl id Y pre h1=>exact .yl id Y pre h1
theorem RowAt.still(hok:∀b,ok b->ok' b)(hs:Still ok w w'){k:Nat}{xs:List Tree}{L:Option Nat×Nat}(hb:∀b,L.1=some b->w'.heap[b]? =w.heap[b]?)(h:RowAt w ok k xs L):RowAt w' ok' k xs L:=by
 obtain⟨a1,a2,a3,a4,a5⟩:=h
 refine⟨a1,a2,a3,a4,a5.imp (fun h=>h) ?_⟩
 rintro⟨b,us,e,h1,h2,h3,h4,h5⟩
 exact⟨b,us,e,h1,(hb b h1).trans h2,h3,h4,fun j T u p q=>(h5 j T u p q).still hok hs⟩
theorem MRel.still(hok:∀b,ok b->ok' b)(hs:Still ok w w'){v:MV}{u:Value}{c:Option Nat}(hb:∀b,c=some b->w'.heap[b]? =w.heap[b]?)(h:MRel st m w ok v u c):MRel st m w' ok' v u c:=by
 cases v with
 |im T=>exact⟨h.1.still hok hs,h.2⟩
 |cp cs=>exact⟨h.1.still hok hs,h.2⟩
 |bx cs=>
  obtain⟨b,us,e,h1,h2,h3,h4,h5,h6⟩:=h
  exact⟨b,us,e,h1,h2,(hb b h1).trans h3,h4,h5,fun i T u p q=>(h6 i T u p q).still hok hs⟩
 |rw k xs=>
  obtain⟨L,h1,h2,h3⟩:=h
  exact⟨L,h1,h2,h3.still hok hs (fun b e=>hb b (h2.symm.trans e))⟩
theorem ORel.still(hok:∀b,ok b->ok' b)(hs:Still ok w w'){o:Ob}{L:Option Nat×Nat}{g:List Nat}(hx:∀Y pre,o= .ext Y pre->Y.holds pre g w->(∀b,Y.D b->ok b)->Y.holds pre g w')(hb:∀b,(L.1=some b\/b∈g)->w'.heap[b]? =w.heap[b]?)(h:ORel st m w ok o L g):ORel st m w' ok' o L g:=by
 cases o with
 |box cs=>
  obtain⟨b,us,e,h1,h2,h3,h4⟩:=h
  exact⟨b,us,e,h1,(hb b (.inl h1)).trans h2,h3,fun i v u p q=>⟨(h4 i v u p q).1.still hok hs,(h4 i v u p q).2⟩⟩
 |mat fz xs hh=>
  obtain⟨⟨b,us,e,h1,h2,h3,h4⟩,q⟩:=h
  exact⟨⟨b,us,e,h1,(hb b (.inl h1)).trans h2,h3,fun i v u p q=>⟨(h4 i v u p q).1.still hok hs,(h4 i v u p q).2⟩⟩,q⟩
 |row k fz xs=>exact RowAt.still hok hs (fun b e=>hb b (.inl e)) h
 |gone=>exact h
 |siter s pos=>
  obtain⟨b,h1,h2⟩:=h
  exact⟨b,h1,(hb b (.inl h1)).trans h2⟩
 |mp es hh=>
  obtain⟨b,ents,bl,h1,h2,h3,h4,h5,h6,h7⟩:=h
  refine⟨b,ents,bl,h1,(hb b (.inl h1)).trans h2,h3,h4,h5,h6,fun i x e p q=> ?_⟩
  obtain⟨q1,q2,q3⟩:=h7 i x e p q
  have hbl:∀b',bl i=some b'->w'.heap[b']? =w.heap[b']? :=fun b' e'=>hb b' (.inr (h5 i b' (qx.1 p).1 e').1)
  refine⟨q1,q2,?_⟩
  match hh with
  |none=>exact MRel.still hok hs hbl q3
  |some (k',v')=>exact⟨fun e=>⟨(q3.1 e).1.still hok hs,(q3.1 e).2⟩,fun e=>(q3.2 e).still hok hs hbl⟩
 |miter mid n seen=>
  obtain⟨b,bm,h1,h2,h3,h4⟩:=h
  exact⟨b,bm,h1,h2,h3,(hb b (.inl h1)).trans h4⟩
 |ext Y pre=>
  exact⟨h.1,hx Y pre rfl h.2.1 h.2.2,fun b hD=>hok b (h.2.2 b hD)⟩
theorem okB.grow(hsz:w.heap.size<=w'.heap.size){b:Nat}(h:okB F st m w b):okB F st m w' b:=⟨by have:=h.1;omega,h.2⟩
theorem SRel.still(hS:SRel F st m w)(hs:Still (okB F st m w) w w')(hx:∀id Y pre,st id=some (.ext Y pre)->Y.holds pre (m.g id) w->(∀b,Y.D b->okB F st m w b)->Y.holds pre (m.g id) w')(hsz:w.heap.size<=w'.heap.size)(hb:∀id o b,st id=some o->m.has id b->w'.heap[b]? =w.heap[b]?)(hh:∀b o,F.says b o->w'.heap[b]? =some o):SRel F st m w':=
 ⟨fun id o ho=>(hS.objs id o ho).still (fun b h=>h.grow hsz) hs (fun Y pre e=>hx id Y pre (e▸ho)) (fun b h=>hb id o b ho h),hS.inj,hS.avoid,fun id o b ho h=>zr (hS.lt id o b ho h) hsz,fun b h=>zr (hS.low b h) hsz,hh⟩
theorem z1w{D:Nat}{o:Obj}{b:Nat}(h:b≠D):(w.putObj D o).heap[b]? =w.heap[b]? :=World.putObj_heap_other h
theorem y6k(hS:SRel F st m w){D:Nat}(hD:w.heap[D]? =some (.deferred (some [])))(hn:∀id o,st id=some o->¬m.has id D):
 SRel F st m (w.putObj D (.deferred none))/\Still (okB F st m w) w (w.putObj D (.deferred none)):=by
 have hs:Still (okB F st m w) w (w.putObj D (.deferred none)):=fun b us e z _ hc=>z1w (fun e=>by subst e;rw[hD] at hc;cases hc)
 refine⟨hS.still hs (fun id Y pre hi hh _=>Y.stabD _ _ _ _ D hh hD (fun hg=>hn id _ hi (.inr hg)) (by simp) (fun b hb=>z1w hb)) (by simp) (fun id o b ho hb=>z1w (fun e=>hn id o ho (e▸hb))) (fun b o h=> ?_),hs⟩
 rw[z1w (fun e=> ?_)]
 ·exact hS.hold b o h
 ·subst e
  obtain⟨us,e,z,rfl⟩:=F.cel b o h
  have:=hS.hold b _ h
  rw[hD] at this;cases this
theorem z3n{fn:Func}{tmps:Array Value}{R:Ending->World->Prop}{l0:List (Nat×Ob)}{m0:Place}{w0:World}(hlo:F.lo=w0.heap.size){sl:List (Nat×AVal)}:∀(l:List Nat) (w:World),l.Nodup->
 (∀D∈l,F.lo<=D/\(∀id o,st id=some o->¬m.has id D)/\w.heap[D]? =some (.deferred (some [])))->SRel F st m w->z1n st m w (okB F st m w) sl tmps->FrameExt F (app emp l0) m0 w0 st m w->
 (∀w',SRel F st m w'->z1n st m w' (okB F st m w') sl tmps->FrameExt F (app emp l0) m0 w0 st m w'->∃v,(results fn tmps).run P w'= .ok v w'/\R (.returned v) w')->LeavesInM Fence.wide 0 P fn tmps R (l.map markD) .returning w
 | [],w,_,_,hS,hsl,hF,hR=>by
  obtain⟨v,h1,h2⟩:=hR w hS hsl hF
  exact⟨v,h1,h2⟩
 |D::l,w,hn,hl,hS,hsl,hF,hR=>by
  rw[List.nodup_cons] at hn
  obtain⟨d1,d2,d3⟩:=hl D List.mem_cons_self
  obtain⟨k1,k2⟩:=y6k hS d3 d2
  refine⟨by simp,.inl ⟨D,_,rfl,run_takeDeferred d3,?_⟩⟩
  refine z3n hlo l _ hn.2 (fun D' hD'=> ?_) k1 (fun t=>(hsl t).still (fun b h=>h.grow (by simp)) k2) ?_ hR
  ·obtain⟨e1,e2,e3⟩:=hl D' (qJ _ hD')
   exact⟨e1,e2,(z1w (fun e=>hn.1 (by rw[<-e];exact hD'))).trans e3⟩
  ·refine⟨hF.os,hF.tape,hF.output,by simpa using hF.size,fun b hb hf=> ?_,hF.keep,hF.new⟩
   rw[z1w (fun e=>by omega)]
   exact hF.block b hb hf
end Go.Ab
end
section
namespace Go.Ab
open Go
variable {P:Program} {n:Nat} {l0:List (Nat×Ob)} {s:St}
theorem y3S{ty:TypeId}{u v:Value}{w:World}(h:(Instr.loadAt ty u).run P w= .ok v w):∃a,u= .pointer (some a)/\(loadVar ty a).run P w= .ok v w:=by
 unfold Instr.loadAt at h
 cases u with
 |pointer p=>
  cases p with
  |some a=>exact⟨a,rfl,by simpa[Instr.sureAddr] using h⟩
  |none=>simp[Instr.sureAddr,stuck] at h
 |_=>simp[Instr.sureAddr,stuck] at h
def z5f(P:Program)(sl:List (Nat×AVal))(st:Store):List ResultVar->Option (List AVal)
 | []=>some []
 | .tmp t::l=>(z5f P sl st l).map (get sl t:: ·)
 | .cell t ty::l=>match loadK P ty (get sl t) st Orc.no,z5f P sl st l with
  |some ⟨v,_,[]⟩,some vs=>some (v::vs)
  |_,_=>none
def resM(P:Program)(rs:List ResultVar)(sl:List (Nat×AVal))(st:Store):Option AVal:=
 match z5f P sl st rs with
 |some [v]=>some v
 |some vs=>some (.tup vs)
 |none=>none
def FinM(P:Program)(n:Nat)(l0:List (Nat×Ob))(rs:List ResultVar)(res:AVal)(l1:List (Nat×Ob))(e:Exit)(s:St):Prop:=
 (e= .ret\/e= .normal)/\∃s' r0 s2,Le n l0 s s'/\resM P rs s'.sl s'.st=some r0/\Le 1 l0 ⟨[(0,r0)],s'.st,s'.nx⟩ s2/\s2.st=app emp l1/\get s2.sl 0=res
theorem FinM.here{rs:List ResultVar}{res:AVal}{l1:List (Nat×Ob)}{e:Exit}{s':St}(he:e= .ret\/e= .normal)(h:Le n l0 s s')(hs:s'.st=app emp l1)(hr:resM P rs s'.sl s'.st=some res):FinM P n l0 rs res l1 e s:=
 ⟨he,s',res,⟨[(0,res)],s'.st,s'.nx⟩,h,hr,Le.refl _,hs,by simp[get]⟩
theorem FinM.le{rs:List ResultVar}{res:AVal}{l1:List (Nat×Ob)}{e:Exit}{s':St}(h:Le n l0 s s')(k:FinM P n l0 rs res l1 e s'):FinM P n l0 rs res l1 e s:=by
 obtain⟨k1,s2,r0,s3,k2,k3,k4⟩:=k
 exact⟨k1,s2,r0,s3,h.trans k2,k3,k4⟩
theorem z4V{F:Fen P}{m:Place}{w:World}{a:Act}{sl:List (Nat×AVal)}{st:Store}(hS:SRel F st m w)(hsl:∀t,VRel st m w (okB F st m w) (get sl t) (a.tmps.getD t undef))
 (g:ResultVar->Sem Value) (g1:∀t,g (.tmp t)=pure (a.tmps.getD t undef)) (g2:∀t ty b v,a.tmps.getD t undef= .pointer (some b)->(loadVar ty b).run P w= .ok v w->(g (.cell t ty)).run P w= .ok v w):
 ∀(rs:List ResultVar) (vs:List AVal),z5f P sl st rs=some vs->∃us,(rs.mapM g).run P w= .ok us w/\us.length=vs.length/\∀(i:Nat) (v:AVal) (u:Value),vs[i]? =some v->us[i]? =some u->VRel st m w (okB F st m w) v u
 | [],vs,h=>by
  simp only[z5f,qb] at h
  subst h
  exact⟨[],by simp,rfl,fun i v u hv=>by simp at hv⟩
 | .tmp t::l,vs,h=>by
  simp only[z5f,qf] at h
  obtain⟨vs',h1,rfl⟩:=h
  obtain⟨us,q1,q2,q3⟩:=z4V hS hsl g g1 g2 l vs' h1
  refine⟨a.tmps.getD t undef::us,by rw[List.mapM_cons,g1];simp only[Sem.run_bind,Sem.run_pure,Result.andThen_ok,q1],by simp[q2],fun i v u hv hu=> ?_⟩
  cases i with
  |zero=>simp only[zC,qb] at hv hu;subst hv;subst hu;exact hsl t
  |succ i=>exact q3 i v u (by simpa using hv) (by simpa using hu)
 | .cell t ty::l,vs,h=>by
  simp only[z5f] at h
  split at h
  ·rename_i v0 wr vs' hk h1
   simp only[qb] at h
   subst h
   obtain⟨us,q1,q2,q3⟩:=z4V hS hsl g g1 g2 l vs' h1
   obtain⟨v,r1,r2,_⟩:=z5Z hk trivial (fun _ _ h=>h) hS (hsl t)
   obtain⟨b,hb,r3⟩:=y3S r1
   refine⟨v::us,by rw[List.mapM_cons];simp only[Sem.run_bind,Sem.run_pure,g2 t ty b v hb r3,Result.andThen_ok,q1],by simp[q2],fun i v' u hv hu=> ?_⟩
   cases i with
   |zero=>simp only[zC,qb] at hv hu;subst hv;subst hu;exact r2
   |succ i=>exact q3 i v' u (by simpa using hv) (by simpa using hu)
  ·cases h
theorem FC.of_simM{f:FuncId}{fn:Func}{c:Code}{args:List AVal}{res:AVal}{l1:List (Nat×Ob)}{nx:Nat}(hf:P.funcs[f]? =some fn)(hb:fn.body=some c)(hn:(args.length).ble fn.ntmps=true)
 (hnx:l0.all (fun x=>Nat.blt x.1 nx)=true) (h:Sim P fn.ntmps l0 c ⟨z2X 0 args,app emp l0,nx⟩ (FinM P fn.ntmps l0 fn.results.toList res l1)):FC P f args (app emp l0) res (app emp l1):=by
 intro F₀ m w us hS hl hr
 obtain⟨F,hF⟩:∃F:Fen P,F={F₀ with rnd:=none,lo:=w.heap.size}:=⟨_,rfl⟩
 have key:∀(F:Fen P),F.rnd=none->F.lo=w.heap.size->SRel F (app emp l0) m w->(∀(i:Nat) (v:AVal) (u:Value),args[i]? =some v->us[i]? =some u->VRel (app emp l0) m w (okB F (app emp l0) m w) v u)->
  Calls P f us.toArray w fun e w'=> ∃v m',e= .returned v/\SRel F (app emp l1) m' w'/\FrameExt F (app emp l0) m w (app emp l1) m' w'/\VRel (app emp l1) m' w' (okB F (app emp l1) m' w') res v:=by
  clear hF F hS hr F₀
  intro F hrnd hlo hS hr
  have hfw:fw F=Fence.wide:=by unfold fw;rw[hrnd];rfl
  have hn:=qG hn
  refine(callsIn_wide (n:=0)).1 (callsIn_of_wp_marks hf hb trivial ?_ rfl)
  have hrel:Rel F fn.ntmps ⟨z2X 0 args,app emp l0,nx⟩ m {tmps:=us.toArray++Array.replicate (fn.ntmps-us.toArray.size) undef,defers:=[]} w:=by
   refine⟨fun t=> ?_,by simp;omega,Marks.nil (by omega) (fun l hl=>by rw[hrnd] at hl;cases hl),hS,fun id hid=> ?_⟩
   ·rw[z5e,if_pos (qp _),Nat.sub_zero]
    cases ha:args[t]? with
    |none=>exact .junk _
    |some v=>
     have hlt:t<us.length:=by rw[hl];exact(qx.1 ha).1
     have:=hr t v us[t] ha (qa hlt)
     have e:(us.toArray++Array.replicate (fn.ntmps-us.toArray.size) undef).getD t undef=us[t]:=by
      have hlt':t< (us.toArray++Array.replicate (fn.ntmps-us.toArray.size) undef).size:=by simp;omega
      simp[Array.getElem?_append,hlt]
     rw[e];exact this
   ·show app emp l0 id=none
    cases hh:app emp l0 id with
    |none=>rfl
    |some o=>
     obtain⟨x,hx,rfl⟩:=qy.1 (z1N hh)
     have:=zi (qG (qY.1 hnx x hx))
     simp only at hid
     omega
  have hsim:=h F m w m _ w hS hrel (FrameExt.refl F _ m w)
  rw[hfw] at hsim
  refine wpIn_mono hsim ?_
  rintro e a' w' ⟨s,m1,q1,q2,he,s',r0,s2,hle,hres,hle2,hst,hg⟩
  obtain⟨m2,r1,r2⟩:=hle F m w m1 a' w' hS q1 q2
  suffices hlv:LeavesInM Fence.wide 0 P fn a'.tmps (fun e w'=> ∃v m',e= .returned v/\SRel F (app emp l1) m' w'/\FrameExt F (app emp l0) m w (app emp l1) m' w'/\VRel (app emp l1) m' w' (okB F (app emp l1) m' w') res v) a'.defers .returning w' by
   rcases he with rfl|rfl
   ·exact hlv
   ·exact hlv
  obtain⟨⟨ds,hd1,hd2,hd3⟩,-,-⟩:=r1.defers
  rw[hd1]
  refine z3n hlo ds w' hd2 hd3 r1.srel r1.slots r2 (fun w' g1 g2 g3=> ?_)
  have r1:Rel F fn.ntmps s' m2 {tmps:=a'.tmps,defers:=[]} w':=⟨g2,r1.size,Marks.nil (by have:=g3.size;omega) (fun l hl=>by rw[hrnd] at hl;cases hl),g1,r1.fresh⟩
  have r2:=g3
  have hrun:∃v,(results fn a'.tmps).run P w'= .ok v w'/\VRel s'.st m2 w' (okB F s'.st m2 w') r0 v:=by
   unfold resM at hres
   have key:∀vs,z5f P s'.sl s'.st fn.results.toList=some vs->∃us:List Value,(results fn a'.tmps).run P w'= .ok (if h:us.toArray.size=1 then us.toArray[0] else .tuple us.toArray) w'/\us.length=vs.length/\
    ∀(i:Nat) (v:AVal) (u:Value),vs[i]? =some v->us[i]? =some u->VRel s'.st m2 w' (okB F s'.st m2 w') v u:=by
    intro vs hvs
    have e2:fn.results=fn.results.toList.toArray:=by simp
    have hg:∀(g:ResultVar->Sem Value),(∀t,g (.tmp t)=pure (a'.tmps.getD t undef))->(∀t ty b v,a'.tmps.getD t undef= .pointer (some b)->(loadVar ty b).run P w'= .ok v w'->(g (.cell t ty)).run P w'= .ok v w')->∃us:List Value,(fn.results.toList.mapM g).run P w'= .ok us w'/\us.length=vs.length/\
     ∀(i:Nat) (v:AVal) (u:Value),vs[i]? =some v->us[i]? =some u->VRel s'.st m2 w' (okB F s'.st m2 w') v u:=fun g g1 g2=>z4V r1.srel r1.slots (a:=a') g g1 g2 fn.results.toList vs hvs
    obtain⟨us,u1,u2,u3⟩:=hg (fun| .tmp t=>pure (a'.tmps.getD t undef)| .cell t type=>do loadVar type (<-asAddr (a'.tmps.getD t undef))) (fun t=>rfl) (fun t ty b v hb hl=>by
     have hb':(a'.tmps[t]?).getD undef= .pointer (some b):=by simpa using hb
     simp[hb',asAddr,hl])
    refine⟨us,?_,u2,u3⟩
    unfold results
    rw[e2,List.mapM_toArray]
    simp only[Sem.run_bind,Sem.run_map]
    erw [u1]
    simp only[Result.andThen_ok,Sem.run_pure]
   split at hres
   ·rename_i v hv
    simp only[qb] at hres
    subst hres
    obtain⟨us,u1,u2,u3⟩:=key _ hv
    match us,u2 with
    | [u],_=>exact⟨u,by rw[u1];rfl,u3 0 v u rfl rfl⟩
   ·rename_i vs hne hvs
    simp only[qb] at hres
    subst hres
    obtain⟨us,u1,u2,u3⟩:=key _ hvs
    have h1:us.toArray.size≠1:=by
     intro e
     simp at e
     match vs,u2 with
     | [v],_=>exact hne v rfl
     | [],u2=>simp at u2;rw[u2] at e;cases e
     |_::_::_,u2=>rw[e] at u2;simp at u2
    exact⟨_,by rw[u1,dif_neg h1],.tup _ _ (by simpa using u2) u3⟩
   ·cases hres
  obtain⟨v,hv1,hv2⟩:=hrun
  have hrel2:Rel F 1 ⟨[(0,r0)],s'.st,s'.nx⟩ m2 {tmps:=#[v],defers:=[]} w':=by
   refine⟨fun t=> ?_,rfl,Marks.nil (by have:=g3.size;omega) (fun l hl=>by rw[hrnd] at hl;cases hl),r1.srel,r1.fresh⟩
   simp only[get]
   by_cases e:0=t
   ·subst e;simpa using hv2
   ·rw[z0P e,cond_false];exact .junk _
  obtain⟨m3,t1,t2⟩:=hle2 F m w m2 _ w' hS hrel2 r2
  have hv3:=t1.slots 0
  rw[hg] at hv3
  have hv3:VRel s2.st m3 w' (okB F s2.st m3 w') res v:=by simpa using hv3
  rw[hst] at hv3 t2
  have hs1:=t1.srel
  rw[hst] at hs1
  exact⟨v,hv1,v,m3,rfl,hs1,t2,hv3⟩
 have hS':SRel F (app emp l0) m w:=by rw[hF];exact⟨hS.objs,hS.inj,hS.avoid,hS.lt,hS.low,hS.hold⟩
 refine(key F (by rw[hF]) (by rw[hF]) hS' (by rw[hF];exact hr)).mono ?_
 rintro e w' ⟨v,m',rfl,k1,k2,k3⟩
 rw[hF] at k1 k2 k3
 exact⟨v,m',rfl,⟨k1.objs,k1.inj,k1.avoid,k1.lt,k1.low,k1.hold⟩,⟨k2.os,k2.tape,k2.output,k2.size,k2.block,k2.keep,k2.new⟩,k3⟩
end Go.Ab
end
section
namespace Go.Ab
variable {P:Program} {w:World} {F:Fen P} {S st:Store} {m:Place}
variable {n:Nat} {l0:List (Nat×Ob)} {s:St} {Q:Exit->St->Prop}
theorem Le.slot{t:Nat}{v v':AVal}(hg:get s.sl t=v)(hv:∀st m w ok u,VRel st m w ok v u->VRel st m w ok v' u):Le n l0 s ⟨(t,v')::s.sl,s.st,s.nx⟩:=by
 intro P F m0 w0 m a w h0 h1 h2
 refine⟨m,⟨fun t'=> ?_,h1.size,h1.defers,h1.srel,h1.fresh⟩,h2⟩
 simp only[get]
 by_cases e:t=t'
 ·subst e
  have:=h1.slots t
  rw[hg] at this
  simp only[Nat.beq_refl,cond_true]
  exact hv _ _ _ _ _ this
 ·rw[z0P e,cond_false];exact h1.slots t'
theorem y3T{k:Nat}(hk:0<k):∀(st:Store) (m:Place) (w:World) (ok:Nat->Prop) (u:Value),VRel st m w ok (.t (.sc (.slice none 0 0))) u->VRel st m w ok (.t (.lst k [])) u:=by
 intro st m w ok u h
 have:=VRel.sc_inv h
 subst this
 exact .t _ _ (.lst k [] none 0 [] hk (fun x hx=>by simp at hx) (qr _) (by simp[maxLen]) (fun h=>absurd rfl h) (by simp) (fun j T u hT=>by simp[flat] at hT))
theorem Le.nilLst{t k:Nat}(hg:get s.sl t= .t (.sc (.slice none 0 0)))(hk:Nat.blt 0 k=true):Le n l0 s ⟨(t,.t (.lst k []))::s.sl,s.st,s.nx⟩:=
 Le.slot hg (y3T (z3k hk))
theorem Le.freeze{t:Nat}{v v':AVal}{g:List (Nat×Ob)}{p:List Prop}(hg:get s.sl t=v)(hs:snap s.st v=some (v',g,p))(hp:All p)(hn:g.all (fun x=>Nat.blt x.1 s.nx)=true):Le n l0 s ⟨(t,v')::s.sl,app s.st g,s.nx⟩:=by
 intro P F m0 w0 m a w h0 h1 h2
 have hv:=h1.slots t
 rw[hg] at hv
 have hk:=z0v (fun _ _ h=>h) h1.srel hs hp hv
 obtain⟨r1,r2,r3,r4⟩:=z1g g s.st h1.srel hk.1
 refine⟨m,⟨fun t'=> ?_,h1.size,h1.defers.ext r2,r1,fun id hid=> ?_⟩,h2.trans h0 r2⟩
 ·simp only[get]
  by_cases e:t=t'
  ·subst e
   simp only[Nat.beq_refl,cond_true]
   exact hk.2 g hk.1 (fun x hx=>hx)
  ·rw[z0P e,cond_false]
   exact r2.val (h1.slots t')
 ·show app s.st g id=none
  have hid':s.nx<=id:=hid
  have hm:id∉g.map (·.1):=fun hm=>by
   obtain⟨x,hx,rfl⟩:=qy.1 hm
   have h1:=qY.1 hn x hx
   have:x.1<s.nx:=zi (qG h1)
   omega
  rw[r4 id hm]
  exact h1.fresh id hid
theorem y0i{S:Store}{m:Place}{w:World}{P:Program}{F:Fen P}(hS:SRel F S m w){v v':AVal}{f:List (Nat×Ob)}{p:List Prop}(h:snapR S v=some (v',f,p))(hp:All p){u:Value}
 (hv:VRel S m w (okB F S m w) v u):y07 F S m w v' f u:=by
 cases v with
 |tup vs=>
  simp only[snapR,qf] at h
  obtain⟨⟨vs',f',p'⟩,h1,h2⟩:=h
  simp only[qR] at h2
  obtain⟨rfl,rfl,rfl⟩:=h2
  cases hv with
  |tup _ us' hl' h1'=>
   have:=z17 (fun _ _ h=>h) hS h1 hp hl' h1'
   exact⟨this.2.1,fun g' hg hfg=> .tup vs' us' this.1.symm (fun i v u hv hu=>this.2.2 g' hg hfg i v u hv hu)⟩
 |t T=>simp only[snapR] at h;exact z0v (fun _ _ h=>h) hS h hp hv
 |row id n=>simp only[snapR] at h;exact z0v (fun _ _ h=>h) hS h hp hv
 |ptr id off=>simp only[snapR] at h;exact z0v (fun _ _ h=>h) hS h hp hv
 |eptr id n i sub=>simp only[snapR] at h;exact z0v (fun _ _ h=>h) hS h hp hv
 |mat id=>simp only[snapR] at h;exact z0v (fun _ _ h=>h) hS h hp hv
 |mptr id i=>simp only[snapR] at h;exact z0v (fun _ _ h=>h) hS h hp hv
 |cptr cs=>simp only[snapR] at h;exact z0v (fun _ _ h=>h) hS h hp hv
 |agg cs=>simp only[snapR] at h;exact z0v (fun _ _ h=>h) hS h hp hv
 |fn f cap=>simp only[snapR] at h;exact z0v (fun _ _ h=>h) hS h hp hv
 |cond c v=>simp only[snapR] at h;exact z0v (fun _ _ h=>h) hS h hp hv
 |junk=>simp only[snapR] at h;exact z0v (fun _ _ h=>h) hS h hp hv
 |anyB=>simp only[snapR] at h;exact z0v (fun _ _ h=>h) hS h hp hv
 |ifc=>simp only[snapR] at h;exact z0v (fun _ _ h=>h) hS h hp hv
 |tail id n i=>simp only[snapR] at h;exact z0v (fun _ _ h=>h) hS h hp hv
 |hdl id=>simp only[snapR] at h;exact z0v (fun _ _ h=>h) hS h hp hv
 |xl k xs=>simp only[snapR] at h;exact z0v (fun _ _ h=>h) hS h hp hv
 |yl id=>simp only[snapR] at h;exact z0v (fun _ _ h=>h) hS h hp hv
 |bsl id n=>simp only[snapR] at h;exact z0v (fun _ _ h=>h) hS h hp hv
theorem Le.freezeR{t:Nat}{v v':AVal}{g:List (Nat×Ob)}{p:List Prop}(hg:get s.sl t=v)(hs:snapR s.st v=some (v',g,p))(hp:All p)(hn:g.all (fun x=>Nat.blt x.1 s.nx)=true):Le n l0 s ⟨(t,v')::s.sl,app s.st g,s.nx⟩:=by
 intro P F m0 w0 m a w h0 h1 h2
 have hv:=h1.slots t
 rw[hg] at hv
 have hk:=y0i h1.srel hs hp hv
 obtain⟨r1,r2,r3,r4⟩:=z1g g s.st h1.srel hk.1
 refine⟨m,⟨fun t'=> ?_,h1.size,h1.defers.ext r2,r1,fun id hid=> ?_⟩,h2.trans h0 r2⟩
 ·simp only[get]
  by_cases e:t=t'
  ·subst e
   simp only[Nat.beq_refl,cond_true]
   exact hk.2 g hk.1 (fun x hx=>hx)
  ·rw[z0P e,cond_false]
   exact r2.val (h1.slots t')
 ·show app s.st g id=none
  have hid':s.nx<=id:=hid
  have hm:id∉g.map (·.1):=fun hm=>by
   obtain⟨x,hx,rfl⟩:=qy.1 hm
   have h1:=qY.1 hn x hx
   have:x.1<s.nx:=zi (qG h1)
   omega
  rw[r4 id hm]
  exact h1.fresh id hid
theorem y8l{α:Type}{f:α->Tree}{l:List α}:AVal.t (.sc (.int .i64 (l.length:Int)))=AVal.t (.sc (.int .i64 ((l.map f).length:Int))):=by simp
theorem z7J{α:Type}[Inhabited α]{f:α->Tree}{l:List α}{k:Nat}(h:k<l.length):(l.map f)[k]? =some (f (l.getD k default)):=by
 simp[qa h,List.getD]
theorem y8m{id n i j k:Nat}(h:i=j):AVal.eptr id n i k=AVal.eptr id n j k:=by rw[h]
theorem y8n{k:IntKind}{a b c:Int}:AVal.t (.sc (.int k (max (max a b) c)))=AVal.t (.sc (.int k (if c>(if b>a then b else a) then c else(if b>a then b else a)))):=by
 congr 3;(repeat' split)<;>omega
theorem y9J{k:IntKind}{a b:Int}:AVal.t (.sc (.int k (min a b)))=AVal.t (.sc (.int k (if b<a then b else a))):=by
 congr 3;split<;>omega
theorem z6W{α:Type}{f:α->Tree}{l l':List α}{ys:List Tree}{id k:Nat}(h:l'.map f=ys):[(id,Ob.row k false ((l++l').map f))]=[(id,Ob.row k false (l.map f++ys))]:=by
 rw[zg,h]
theorem y3U{α:Type}{f:α->Tree}{l:List α}{x:α}{X:Tree}{id k i:Nat}(h:f x=X):[(id,Ob.row k false ((l.set i x).map f))]=[(id,Ob.row k false ((l.map f).set i X))]:=by
 rw[List.map_set,h]
theorem y8o{α:Type}{f:α->Tree}{l:List α}{i k:Nat}:AVal.t (.lst k ((l.drop i).map f))=AVal.t (.lst k ((l.map f).drop i)):=by rw[List.map_drop]
theorem y8p{α:Type}{f:α->Tree}{l:List α}{i k:Nat}:AVal.t (.lst k ((l.take i).map f))=AVal.t (.lst k ((l.map f).take i)):=by rw[List.map_take]
theorem y8q{α:Type}{f:α->Tree}{l:List α}{i j k:Nat}:AVal.t (.lst k (((l.take i).drop j).map f))=AVal.t (.lst k (((l.map f).take i).drop j)):=by rw[List.map_drop,List.map_take]
theorem Weak.of_eq{d v:AVal}(h:v=d):Weak d v:=by subst h;exact fun _ _ _ _ _ h=>h
theorem z3b{k:Nat}(hk:0<k):(Tree.sc (.slice none 0 0)=Tree.lst k []\/(Tree.sc (.slice none 0 0)= .sc (.slice none 0 0)/\∃k',0<k'/\Tree.lst k []= .lst k' [])):= .inr ⟨rfl,k,hk,rfl⟩
end Go.Ab
end
section
namespace Go.Ab
open Go
variable {P:Program} {w:World} {F:Fen P} {S st:Store} {m:Place}
variable {n:Nat} {l0:List (Nat×Ob)} {s:St}
theorem Elt.of_cell{x:Tree}(h:x.isCell=true):Elt 1 x:=by
 cases x with
 |agg cs=>simp[Tree.isCell] at h
 |sc v=>exact⟨rfl,fun T hT=>by simp[Tree.cells] at hT;subst hT;exact h⟩
 |lst k xs=>exact⟨rfl,fun T hT=>by simp[Tree.cells] at hT;subst hT;exact h⟩
theorem y2O{x:Tree}(h:x.isCell=true):x.cells=[x]:=by cases x<;>first|rfl|simp[Tree.isCell] at h
theorem z6X:∀{xs:List Tree},(∀x∈xs,x.isCell=true)->flat xs=xs
 | [],_=>rfl
 |x::xs,h=>by
  rw[flat,y2O (h x (by simp)),z6X (fun y hy=>h y (by simp[hy]))];rfl
theorem y3V(hS:SRel F S m w){id i r q k:Nat}{xs ys:List Tree}{fz:Bool}(hid:S id=some (.mat false xs (some (i,r,q))))(hr:S r=some (.row k fz ys))(hq:q=ys.length):
 SRel F (upd (upd S r (.row k true ys)) id (.mat false (xs.set i (.lst k ys)) none)) m w/\FrameExt F S m w (upd (upd S r (.row k true ys)) id (.mat false (xs.set i (.lst k ys)) none)) m w:=by
 have hne:id≠r:=fun e=>by subst e;rw[hid] at hr;cases hr
 obtain⟨f1,f2⟩:=freeze hS hr
 have hid1:upd S r (.row k true ys) id=some (.mat false xs (some (i,r,q))):=by rw[z0k hne];exact hid
 obtain⟨⟨b,us,e,q1,q2,q3,q4⟩,p1,p2,p3⟩:=f1.objs id _ hid1
 have hT:=z5t f1 (z0m S r (.row k true ys))
 have key:=z0F (o':= .mat false (xs.set i (.lst k ys)) none) f1 hid1 rfl q1 (w':=w) rfl rfl rfl rfl (fun _ _=>rfl) (by simp[Ob.len]) (by simp[Ob.same]) (fun hF=>by
  refine⟨⟨b,us,e,q1,q2,by rw[q3,z1K,z1K];simp,fun j v u hv hu=> ?_⟩,by simpa using p1,by simpa using p2,fun x hx=> ?_⟩
  ·rw[y1c,zy] at hv
   split at hv
   ·rename_i hij
    split at hv
    ·rename_i hlt
     simp only[qb] at hv
     subst hv;subst hij
     obtain⟨r1,r2⟩:=q4 i (.row r q) u (by simp only[matC,zy,if_true];rw[if_pos (by simpa[matC] using hlt)]) hu
     refine⟨?_,r2⟩
     cases r1 with
     |rowG _ _ L hs'=>rw[z0m] at hs';cases hs'
     |row _ _ k' fz' ys' L hs' hn' hu'=>
      rw[z0m] at hs'
      cases hs'
      have hL:=hu' hq
      rw[hL,<-hq] at hT
      exact hF.val (.t _ _ hT)
    ·cases hv
   ·rename_i hij
    obtain⟨r1,r2⟩:=q4 j v u (by simp only[matC,zy];rw[if_neg hij];exact hv) hu
    exact⟨hF.val r1,r2⟩
  ·rcases zu hx with hx|rfl
   ·exact p3 x hx
   ·rfl)
 exact⟨key.1,f2.trans hS key.2⟩
theorem Le.matClose{id i r q k:Nat}{xs ys:List Tree}{fz:Bool}(hid:s.st id=some (.mat false xs (some (i,r,q))))(hr:s.st r=some (.row k fz ys))(hq:q=ys.length){xs':List Tree}(hx:xs.set i (.lst k ys)=xs'):
 Le n l0 s ⟨s.sl,upd (upd s.st r (.row k true ys)) id (.mat false xs' none),s.nx⟩:=by
 subst hx
 intro P F m0 w0 m a w h0 h1 h2
 obtain⟨r1,r2⟩:=y3V h1.srel hid hr hq
 refine⟨m,⟨fun t'=>r2.val (h1.slots t'),h1.size,h1.defers.ext r2,r1,fun j hj=> ?_⟩,h2.trans h0 r2⟩
 have hj':s.nx<=j:=hj
 have e1:j≠id:=fun e=>by subst e;rw[h1.fresh j hj] at hid;cases hid
 have e2:j≠r:=fun e=>by subst e;rw[h1.fresh j hj] at hr;cases hr
 show upd (upd s.st r (.row k true ys)) id _ j=none
 rw[z0k e1,z0k e2]
 exact h1.fresh j hj
theorem y2P(hS:SRel F S m w){id:Nat}{xs:List Tree}(hid:S id=some (.mat false xs none)):
 SRel F (upd S id (.mat true xs none)) m w/\FrameExt F S m w (upd S id (.mat true xs none)) m w/\TRep w (okB F (upd S id (.mat true xs none)) m w) (.lst 1 xs) (z0y (m id) xs.length):=by
 obtain⟨⟨b,us,e,q1,q2,q3,q4⟩,p1,p2,p3⟩:=hS.objs id _ hid
 obtain⟨k1,k2⟩:=z0F (o':= .mat true xs none) hS hid rfl q1 (w':=w) rfl rfl rfl rfl (fun _ _=>rfl) (by simp[Ob.len]) (by simp[Ob.same]) (fun hF=>by
  refine⟨⟨b,us,e,q1,q2,q3,fun j v u hv hu=> ?_⟩,p1,p2,p3⟩
  obtain⟨r1,r2⟩:=q4 j v u hv hu
  exact⟨hF.val r1,r2⟩)
 refine⟨k1,k2,?_⟩
 have hid':upd S id (.mat true xs none) id=some (.mat true xs none):=z0m _ _ _
 obtain⟨⟨b',us',e',q1',q2',q3',q4'⟩,_⟩:=k1.objs id _ hid'
 rw[q1] at q1';cases q1'
 rw[z1K] at q3'
 have hrv:z0y (m id) xs.length= .slice (some ⟨b,0,none⟩) xs.length (m id).2:=by simp[z0y,q1]
 rw[hrv]
 refine .lst 1 xs _ _ us'.toList (by decide) (fun x hx=>Elt.of_cell (p3 x hx)) (by omega) (by omega) (fun _=>⟨b,0,rfl,⟨?_,?_,?_⟩,?_⟩) (by simp;omega) (fun j T u hj hu=> ?_)
 ·exact(za.1 q2').1
 ·exact fun hb=>k1.avoid id _ b hid' (.inl q1) (F.sup b hb)
 ·intro i o hi hl hb
  have:=k1.inj id i _ _ b hid' hi (.inl q1) hb
  subst this
  rw[hid'] at hi;cases hi
  simp[Ob.live] at hl
 ·intro j u hu
  simp only[World.cell?,q2'];simpa using hu
 ·rw[z6X p3] at hj
  have hv:(matC xs none)[j]? =some (.t T):=by simp[matC,hj]
  obtain⟨r1,_⟩:=q4' j _ u hv (by simpa using hu)
  cases r1 with
  |t _ _ hT=>exact hT
theorem Le.matFreeze{t id:Nat}{xs:List Tree}(hg:get s.sl t= .mat id)(hid:s.st id=some (.mat false xs none)):Le n l0 s ⟨(t,.t (.lst 1 xs))::s.sl,upd s.st id (.mat true xs none),s.nx⟩:=by
 intro P F m0 w0 m a w h0 h1 h2
 obtain⟨r1,r2,r3⟩:=y2P h1.srel hid
 refine⟨m,⟨fun t'=> ?_,h1.size,h1.defers.ext r2,r1,fun j hj=> ?_⟩,h2.trans h0 r2⟩
 ·simp only[get]
  by_cases e:t=t'
  ·subst e
   simp only[Nat.beq_refl,cond_true]
   have hv:=h1.slots t
   rw[hg] at hv
   generalize a.tmps.getD t undef=u at hv|-
   cases hv with
   |mat _ fz xs' hh L hs' hm=>
    rw[hid] at hs';cases hs'
    subst hm
    exact .t _ _ r3
  ·rw[z0P e,cond_false];exact r2.val (h1.slots t')
 ·show upd s.st id _ j=none
  rw[z0k (fun e=>by subst e;rw[h1.fresh j hj] at hid;cases hid)]
  exact h1.fresh j hj
end Go.Ab
end
section
namespace Go.Ab
open Go
variable {P:Program} {w:World} {F:Fen P} {S st:Store} {m:Place}
variable {n:Nat} {l0:List (Nat×Ob)} {s:St} {Q:Exit->St->Prop}
structure Ox where
 o:Orc
 cs:List Prop
 h:All cs
inductive LeI where
 |nR (t k:Nat)
 |nL (t k:Nat)
 |nB (b i k:Nat)
 |fz (id:Nat)
 |fr (t:Nat) (p:List Prop) (h:All p)
 |eq (t:Nat) (d v:AVal) (h:Weak d v)
 |er (id:Nat) (xs ys:List Tree) (h:xs=ys)
 |kp (ts:List Nat)
 |eb (b i:Nat) (v v':AVal) (h:v=v')
 |mc (id:Nat) (xs':List Tree) (p:List Prop) (h:All p)
 |mf (t:Nat)
 |fR (t:Nat) (p:List Prop) (h:All p)
 |mv (t i j:Nat) (h:i=j)
 |mput (id:Nat) (es':List (Int×MV)) (p:List Prop) (h:All p)
 |mfz (id:Nat) (es':List (Int×MV)) (p:List Prop) (h:All p)
 |me (id:Nat) (es es':List (Int×MV)) (h:es=es')
 |cb (b i:Nat) (ag:Bool) (k:Nat) (p:List Prop) (h:All p)
inductive It where
 |r (xs:List (Nat×Ox))
 |t
 |f
 |u
 |le (x:LeI)
inductive Fr where
 |seq (c:Code)
 |blk (i:Nat)
 |loop (c:Code)
inductive Ctl where
 |run (c:Code)
 |out (e:Exit)
instance:Inhabited Ctl:=⟨.run .skip⟩
structure Cfg where
 ctl:Ctl
 K:List Fr
 s:St
instance:Inhabited Cfg:=⟨⟨default,[],⟨[],emp,0⟩⟩⟩
inductive At where
 |br (b:Bool) (x y:Code) (K:List Fr) (s:St)
 |any (x y:Code) (K:List Fr) (s:St)
 |loop (c:Code) (K:List Fr) (s:St)
 |back (c:Code) (K:List Fr) (s:St)
 |fin (e:Exit) (s:St)
 |mid (c:Code) (K:List Fr) (s:St)
def leR(s:St):LeI->Option (St×List Prop)
 | .nR t k=>match get s.sl t with
  | .t (.sc (.slice none 0 0))=>bif Nat.blt 0 k then some (⟨(t,.row s.nx 0)::s.sl,upd s.st s.nx (.row k false []),s.nx+1⟩,[]) else none
  |_=>none
 | .nL t k=>match get s.sl t with
  | .t (.sc (.slice none 0 0))=>bif Nat.blt 0 k then some (⟨(t,.t (.lst k []))::s.sl,s.st,s.nx⟩,[]) else none
  |_=>none
 | .nB b i k=>match s.st b with
  |some (.box cs)=>match cs[i]? with
   |some (.t (.sc (.slice none 0 0)))=>bif Nat.blt 0 k then some (⟨s.sl,upd (upd s.st s.nx (.row k false [])) b (.box (cs.set i (.row s.nx 0))),s.nx+1⟩,[]) else none
   |_=>none
  |_=>none
 | .fz id=>match s.st id with
  |some (.row k false xs)=>some (⟨s.sl,upd s.st id (.row k true xs),s.nx⟩,[])
  |_=>none
 | .fr t _ _=>match snap s.st (get s.sl t) with
  |some (v',g,p)=>bif g.all (fun x=>Nat.blt x.1 s.nx) then some (⟨(t,v')::s.sl,app s.st g,s.nx⟩,p) else none
  |none=>none
 | .eq t _ v _=>some (⟨(t,v)::s.sl,s.st,s.nx⟩,[Weak (get s.sl t) v])
 | .er id _ ys _=>match s.st id with
  |some (.row k fz xs)=>some (⟨s.sl,upd s.st id (.row k fz ys),s.nx⟩,[xs=ys])
  |_=>none
 | .kp ts=>some (⟨keepS s.sl ts,s.st,s.nx⟩,[])
 | .mc id xs' _ _=>match s.st id with
  |some (.mat false xs (some (i,r,q)))=>match s.st r with
   |some (.row k _ ys)=>some (⟨s.sl,upd (upd s.st r (.row k true ys)) id (.mat false xs' none),s.nx⟩,[q=ys.length,xs.set i (.lst k ys)=xs'])
   |_=>none
  |_=>none
 | .mf t=>match get s.sl t with
  | .mat id=>match s.st id with
   |some (.mat false xs none)=>some (⟨(t,.t (.lst 1 xs))::s.sl,upd s.st id (.mat true xs none),s.nx⟩,[])
   |_=>none
  |_=>none
 | .fR t _ _=>match snapR s.st (get s.sl t) with
  |some (v',g,p)=>bif g.all (fun x=>Nat.blt x.1 s.nx) then some (⟨(t,v')::s.sl,app s.st g,s.nx⟩,p) else none
  |none=>none
 | .mv t _ _ _=>match get s.sl t with
  | .row id q=>match s.st id with
   |some (.row k false xs)=>some (⟨(t,.row s.nx q)::s.sl,upd (upd s.st id .gone) s.nx (.row k false xs),s.nx+1⟩,[q=xs.length])
   |_=>none
  |_=>none
 | .mput _ _ _ _=>none
 | .mfz _ _ _ _=>none
 | .me _ _ _ _=>none
 | .eb b i _ v' _=>match s.st b with
  |some (.box cs)=>match cs[i]? with
   |some v0=>some (⟨s.sl,upd s.st b (.box (cs.set i v')),s.nx⟩,[v0=v'])
   |none=>none
  |_=>none
 | .cb b0 i ag k _ _=>match s.st b0 with
  |some (.box cs0)=>match cs0[i]? with
   |some (.bsl id q)=>match s.st id with
    |some (.box cs)=>match snapL s.st cs with
     |some (cs',g,p)=>bif !(Nat.beq b0 id)&&(g.all (fun x=>Nat.blt x.1 s.nx&&(!(Nat.beq x.1 id)&& !(Nat.beq x.1 b0)))&&(Nat.blt 0 k&&(Nat.ble (q*k) 16777216&&Nat.beq cs.length (q*k)))) then
      (allT cs').bind fun ts=>(group ag k q ts).bind fun xs=>some (⟨s.sl,upd (upd (upd (app s.st g) id .gone) s.nx (.row k false xs)) b0 (.box (cs0.set i (.row s.nx q))),s.nx+1⟩,p) else none
     |none=>none
    |_=>none
   |_=>none
  |_=>none
def leC:LeI->List Prop
 | .cb _ _ _ _ p _=>p
 | .fr _ p _=>p
 | .eq _ d v _=>[Weak d v]
 | .er _ xs ys _=>[xs=ys]
 | .eb _ _ v v' _=>[v=v']
 | .mc _ _ p _=>p
 | .fR _ p _=>p
 | .mv _ i j _=>[i=j]
 | .mput _ _ p _=>p
 | .mfz _ _ p _=>p
 | .me _ es es' _=>[es=es']
 |_=>[]
def runA(P:Program)(n:Nat)(ops:List Oper)(draw:Bool)(orcs:List (Nat×Orc))(s:St):Option (St×List Prop):=
 match runL P ops orcs s.nx 0 ops s with
 |some (s',rs)=>bif (ops.all (dstOk n))&&(!draw||z6L ops s.nx rs) then some (⟨s'.sl,s'.st,s.nx+8*ops.length⟩,allC rs) else none
 |none=>none
def oxO:List (Nat×Ox)->List (Nat×Orc)
 | []=>[]
 | (i,x)::l=>(i,x.o)::oxO l
def apC:List Prop->List Prop->List Prop
 | [],t=>t
 |p::l,t=>p::apC l t
def oxC:List (Nat×Ox)->List Prop->List Prop
 | [],t=>t
 | (_,x)::l,t=>apC x.cs (oxC l t)
def csL:List It->List Prop
 | []=>[]
 | .r xs::l=>oxC xs (csL l)
 | .le x::l=>apC (leC x) (csL l)
 |_::l=>csL l
inductive OutR where
 |fin
 |back (c:Code) (K:List Fr)
 |go (ctl:Ctl) (K:List Fr)
def outS(e:Exit):List Fr->OutR
 | []=> .fin
 | .seq c::K=>match e with
  | .normal=> .go (.run c) K
  |e=> .go (.out e) K
 | .blk i::K=>match e with
  | .exit j=>bif Nat.beq j i then .go (.out .normal) K else .go (.out (.exit j)) K
  |e=> .go (.out e) K
 | .loop c::K=>match e with
  | .normal=> .back c K
  |e=> .go (.out e) K
def go(P:Program)(n:Nat):Nat->List It->Ctl->List Fr->St->List Prop->Option (At×List Prop)
 |0,_,_,_,_,_=>none
 |fuel+1,.le x::sc,ctl,K,s,acc=>match leR s x with
  |some (s',C)=>go P n fuel sc ctl K s' (acc++C)
  |none=>none
 |fuel+1,sc,.run c,K,s,acc=>match c with
  | .seq x y=>go P n fuel sc (.run x) (.seq y::K) s acc
  | .skip=>go P n fuel sc (.out .normal) K s acc
  | .ret=>go P n fuel sc (.out .ret) K s acc
  | .exit i=>go P n fuel sc (.out (.exit i)) K s acc
  | .block i c=>go P n fuel sc (.run c) (.blk i::K) s acc
  | .loop c=>match sc with
   | []=>some (.loop c K s,acc)
   | .u::sc=>go P n fuel sc (.run c) (.loop c::K) s acc
   |_=>none
  | .cond c x y=>match ev s.sl c with
   | .t (.sc (.bool b))=>match sc with
    | []=>some (.br b x y K s,acc)
    | .t::sc=>bif b then go P n fuel sc (.run x) K s acc else none
    | .f::sc=>bif b then none else go P n fuel sc (.run y) K s acc
    |_=>none
   | .anyB=>match sc with
    | []=>some (.any x y K s,acc)
    |_=>none
   |_=>none
  | .region id ops draw=>match sc with
   | []=>some (.mid (.region id ops draw) K s,acc)
   | .r xs::sc=>match runA P n ops.toList draw (oxO xs) s with
    |some (s',C)=>go P n fuel sc (.out .normal) K s' (acc++C)
    |none=>none
   |_=>none
  | .rangeFunc g ps a b=>match sc with
   | []=>some (.mid (.rangeFunc g ps a b) K s,acc)
   |_=>none
  |_=>none
 |fuel+1,sc,.out e,K,s,acc=>match outS e K with
  | .fin=>match sc with
   | []=>some (.fin e s,acc)
   |_=>none
  | .back c K=>match sc with
   | []=>some (.back c K s,acc)
   | .u::sc=>go P n fuel sc (.run c) (.loop c::K) s acc
   |_=>none
  | .go ctl K=>go P n fuel sc ctl K s acc
def wrapK(P:Program)(n:Nat)(l0:List (Nat×Ob)):List Fr->(Exit->St->Prop)->Exit->St->Prop
 | [],Q=>Q
 | .seq c::K,Q=>andThen (fun s=>Sim P n l0 c s (wrapK P n l0 K Q)) (wrapK P n l0 K Q)
 | .blk i::K,Q=>inBlk i (wrapK P n l0 K Q)
 | .loop c::K,Q=>andThen (fun s=>z0Q P n l0 c s (wrapK P n l0 K Q)) (wrapK P n l0 K Q)
def z2Y(n:Nat)(l0:List (Nat×Ob))(Q:Exit->St->Prop):Prop:=∀e s s',Le n l0 s s'->Q e s'->Q e s
def CtlG(P:Program)(n:Nat)(l0:List (Nat×Ob))(Q:Exit->St->Prop):Ctl->List Fr->St->Prop
 | .run c,K,s=>Sim P n l0 c s (wrapK P n l0 K Q)
 | .out e,K,s=>wrapK P n l0 K Q e s
def AtG(P:Program)(n:Nat)(l0:List (Nat×Ob))(Q:Exit->St->Prop):At->Prop
 | .any x y K s=>Sim P n l0 x s (wrapK P n l0 K Q)/\Sim P n l0 y s (wrapK P n l0 K Q)
 | .br b x y K s=>(b=true->Sim P n l0 x s (wrapK P n l0 K Q))/\(b=false->Sim P n l0 y s (wrapK P n l0 K Q))
 | .loop c K s=>z0Q P n l0 c s (wrapK P n l0 K Q)
 | .back c K s=>z0Q P n l0 c s (wrapK P n l0 K Q)
 | .fin e s=>Q e s
 | .mid c K s=>Sim P n l0 c s (wrapK P n l0 K Q)
theorem z3D(hQ:z2Y n l0 Q):∀(K:List Fr),z2Y n l0 (wrapK P n l0 K Q)
 | []=>hQ
 | .seq c::K=>fun e s s' h k=>by
  cases e with
  |normal=>exact Sim.weaken h k
  |_=>exact z3D hQ K _ s s' h k
 | .blk i::K=>fun e s s' h k=>by
  cases e with
  |exit j=>
   simp only[wrapK,inBlk] at k|-
   split
   ·rename_i hj;rw[if_pos hj] at k;exact z3D hQ K _ s s' h k
   ·rename_i hj;rw[if_neg hj] at k;exact z3D hQ K _ s s' h k
  |_=>exact z3D hQ K _ s s' h k
 | .loop c::K=>fun e s s' h k=>by
  cases e with
  |normal=>exact z0Q.weaken h k
  |_=>exact z3D hQ K _ s s' h k
theorem y3W(hQ:z2Y n l0 Q){ctl:Ctl}{K:List Fr}{s s':St}(h:Le n l0 s s')(k:CtlG P n l0 Q ctl K s'):CtlG P n l0 Q ctl K s:=by
 cases ctl with
 |run c=>exact Sim.weaken h k
 |out e=>exact z3D hQ K e s s' h k
theorem Le.row{id k:Nat}{fz:Bool}{xs ys:List Tree}(hid:s.st id=some (.row k fz xs))(h:xs=ys):Le n l0 s ⟨s.sl,upd s.st id (.row k fz ys),s.nx⟩:=by
 have e:upd s.st id (.row k fz ys)=s.st:=by
  funext j
  unfold upd
  by_cases hj:j=id
  ·subst hj;simp[hid,h]
  ·rw[z0P hj];rfl
 rw[e]
 exact fun P F m0 w0 m a w h0 h1 h2=>⟨m,h1,h2⟩
theorem Le.boxE{b i:Nat}{cs:List AVal}{v0 v:AVal}(hb:s.st b=some (.box cs))(hi:cs[i]? =some v0)(h:v0=v):Le n l0 s ⟨s.sl,upd s.st b (.box (cs.set i v)),s.nx⟩:=by
 subst h
 have e0:cs.set i v0=cs:=by
  apply List.ext_getElem?
  intro j
  rw[zy]
  split
  ·rename_i hj;subst hj
   have:=(qx.1 hi).1
   rw[if_pos this,hi]
  ·rfl
 have e:upd s.st b (.box (cs.set i v0))=s.st:=by
  funext j
  unfold upd
  by_cases hj:j=b
  ·subst hj;simp[hb,e0]
  ·rw[z0P hj];rfl
 rw[e]
 exact fun P F m0 w0 m a w h0 h1 h2=>⟨m,h1,h2⟩
theorem Le.keep(ts:List Nat):Le n l0 s ⟨keepS s.sl ts,s.st,s.nx⟩:=by
 intro P F m0 w0 m a w h0 h1 h2
 exact⟨m,⟨h1.slots.keep ts,h1.size,h1.defers,h1.srel,h1.fresh⟩,h2⟩
theorem Le.mvRow{t id q k:Nat}{xs:List Tree}(hg:get s.sl t= .row id q)(hs:s.st id=some (.row k false xs))(hq:q=xs.length):
 Le n l0 s ⟨(t,.row s.nx q)::s.sl,upd (upd s.st id .gone) s.nx (.row k false xs),s.nx+1⟩:=by
 intro P F m0 w0 m a w h0 h1 h2
 have hn:s.st s.nx=none:=h1.fresh s.nx (qr _)
 obtain⟨k1,k2⟩:=z6Q h1.srel hs hn (qr xs.length)
 rw[List.take_length] at k1 k2
 refine⟨_,⟨fun t'=> ?_,h1.size,h1.defers.ext k2,k1,fun id' hid'=> ?_⟩,h2.trans h0 k2⟩
 ·simp only[get]
  by_cases e:t=t'
  ·subst e
   have hv:=h1.slots t
   rw[hg] at hv
   simp only[Nat.beq_refl,cond_true]
   generalize a.tmps.getD t undef=u at hv
   cases hv with
   |row _ _ k' fz' xs' L hs' hn' hu'=>
    rw[hs] at hs';cases hs'
    have:=hu' hq
    exact .row s.nx q k false xs L (z0m _ _ _) (by omega) (fun _=>by rw[z0x];exact this)
   |rowG _ _ L hs'=>rw[hs] at hs';cases hs'
  ·rw[z0P e,cond_false]
   exact k2.val (h1.slots t')
 ·show upd (upd s.st id .gone) s.nx _ id'=none
  simp only at hid'
  have hne:id'≠id:=fun e=>by subst e;rw[h1.fresh id' (by omega)] at hs;cases hs
  rw[z0k (by omega),z0k hne]
  exact h1.fresh id' (by omega)
theorem Le.closeB{b0 i id q k:Nat}{ag:Bool}{cs0 cs cs':List AVal}{g:List (Nat×Ob)}{p:List Prop}{ts xs:List Tree}(hb0:s.st b0=some (.box cs0))(hg:cs0[i]? =some (.bsl id q))(hs:s.st id=some (.box cs))(e1:snapL s.st cs=some (cs',g,p))(hp:All p)
 (hne0:b0≠id) (hk:g.all (fun x=>Nat.blt x.1 s.nx&&(!(Nat.beq x.1 id)&& !(Nat.beq x.1 b0)))=true) (hk0:0<k) (hbig:q*k<=16777216) (hcl:cs.length=q*k) (e2:allT cs'=some ts) (e3:group ag k q ts=some xs):
 Le n l0 s ⟨s.sl,upd (upd (upd (app s.st g) id .gone) s.nx (.row k false xs)) b0 (.box (cs0.set i (.row s.nx q))),s.nx+1⟩:=by
 intro P F m0 w0 m a w h0 h1 h2
 obtain⟨bb,us0,e0,p1,p2,p3,p4⟩:=h1.srel.objs b0 _ hb0
 have hil:i<us0.size:=by rw[p3];exact(qx.1 hg).1
 have hu0:us0[i]? =some us0[i]:=zK hil
 have hv:=(p4 i _ _ hg hu0).1
 generalize hw0:us0[i]=u0 at hv
 rw[hw0] at hu0
 cases hv with
 |bslG _ _ L hs'=>rw[hs] at hs';cases hs'
 |bsl _ _ cs1 b hs' hm=>
 rw[hs] at hs';cases hs'
 obtain⟨b',us,e,q1,q2,q3,q4⟩:=h1.srel.objs id _ hs
 rw[hm] at q1;cases q1
 have hsn:=z3W (fun _ _ h=>h) h1.srel e1 hp (us:=us.toList) (by simp[q3]) (fun i v u hv hu=>(q4 i v u hv (by simpa using hu)).1)
 obtain⟨r1,r2,r3,r4⟩:=z1g g s.st h1.srel hsn.2.1
 have hno:∀j,j∈g.map (·.1)->j<s.nx/\j≠id/\j≠b0:=fun j hj=>by
  obtain⟨x,hx,rfl⟩:=qy.1 hj
  have:=qY.1 hk x hx
  simp only[qd,qv] at this
  exact⟨zi (qG this.1),fun e=>by rw[e] at this;simp at this,fun e=>by rw[e] at this;simp at this⟩
 have hidg:app s.st g id=some (.box cs):=by rw[r4 id (fun h=>(hno id h).2.1 rfl)];exact hs
 have hn:app s.st g s.nx=none:=by rw[r4 s.nx (fun h=>absurd (hno _ h).1 (Nat.lt_irrefl _))];exact h1.fresh s.nx (qr _)
 have hbn:b0≠s.nx:=fun e=>by rw[e,h1.fresh s.nx (qr _)] at hb0;cases hb0
 have hts:=z3h e2
 have hrep:∀(j:Nat) (T:Tree) (u:Value),ts[j]? =some T->us[j]? =some u->TRep w (okB F (app s.st g) m w) T u:=fun j T u hT hu=>by
  have:=hsn.2.2 g hsn.2.1 (fun x hx=>hx) j (.t T) u (by rw[hts,ze,hT];rfl) (by simpa using hu)
  cases this with
  |t _ _ h=>exact h
 have hone:∀(j:Nat) (u:Value),us[j]? =some u->u.oneCell'=true:=fun j u hu=>by
  have hj:j<cs.length:=by rw[<-q3];exact(za.1 hu).1
  exact(q4 j _ u (qa hj) hu).2
 have htl:ts.length=us.size:=by have:=hsn.1;rw[hts] at this;simpa using this
 have hcellT:∀T∈ts,T.isCell=true:=fun T hT=>by
  obtain⟨j,hj,rfl⟩:=zn.1 hT
  have hj':j<us.size:=by rw[<-htl];exact hj
  have a1:=hrep j _ us[j] (qa hj) (zK hj')
  have a2:=hone j us[j] (zK hj')
  generalize ts[j]=T at a1
  generalize us[j]=u at a1 a2
  cases a1 with
  |agg=>simp[Value.oneCell'] at a2
  |sc=>rfl
  |lst=>rfl
 obtain⟨g1,g2,g3⟩:=z4Q e3 hcellT
 obtain⟨k1,k2⟩:=y3D (o':= .row k false xs) r1 hidg hn rfl trivial (by simp[Ob.len]) (fun hF=>by
  refine⟨hk0,g3,by rw[g2,hm];exact qr _,?_,.inr ⟨b,us,e,by rw[hm],q2,by rw[q3,hcl,hm],hone,fun j T u hj hu=>hF.tree (hrep j T u (by rw[<-g1];exact hj) hu)⟩⟩
  have:=Nat.le_mul_of_pos_right q hk0
  rw[hm];simp only[maxLen];omega)
 have hb':upd (upd (app s.st g) id .gone) s.nx (.row k false xs) b0=some (.box cs0):=by rw[z0k hbn,z0k hne0,r4 b0 (fun h=>(hno _ h).2.2 rfl)];exact hb0
 obtain⟨bb',us',e',s1,s2,s3,s4⟩:=k1.objs b0 _ hb'
 have s1':=s1
 rw[z06 hbn,z06 hne0,p1] at s1'
 cases s1'
 have hss:=p2.symm.trans s2
 simp only[qb,Go.Obj.cells.injEq] at hss
 have key:=z0F (o':= .box (cs0.set i (.row s.nx q))) k1 hb' rfl s1 (w':=w) rfl rfl rfl rfl (fun _ _=>rfl) (by simp[Ob.len]) (by simp[Ob.same]) (fun hF=>by
  refine⟨bb,us',e',s1,s2,by simp[s3],fun j v u hv hu=> ?_⟩
  rw[zy] at hv
  split at hv
  ·rename_i hij
   subst hij
   split at hv
   ·simp only[qb] at hv
    subst hv
    rw[<-hss.1,hu0] at hu
    cases hu
    exact⟨.row s.nx q k false xs (some b,q) (by rw[z0k (Ne.symm hbn)];exact z0m _ _ _) (by omega) (fun _=>by rw[z0x];exact hm),rfl⟩
   ·cases hv
  ·obtain⟨t1,t2⟩:=s4 j v u hv hu
   exact⟨hF.val t1,t2⟩)
 have k3:=(r2.trans h1.srel k2).trans h1.srel key.2
 refine⟨_,⟨fun t'=>k3.val (h1.slots t'),h1.size,h1.defers.ext k3,key.1,fun id' hid'=> ?_⟩,h2.trans h0 k3⟩
 show upd (upd (upd (app s.st g) id .gone) s.nx _) b0 _ id'=none
 simp only at hid'
 have hne:∀x ob,s.st x=some ob->id'≠x:=fun x ob hx e=>by subst e;rw[h1.fresh id' (by omega)] at hx;cases hx
 rw[z0k (hne _ _ hb0),z0k (by omega),z0k (hne _ _ hs),r4 id' (fun h=>by have:=(hno _ h).1;omega)]
 exact h1.fresh id' (by omega)
theorem y3X{S:Store}{nx id i:Nat}{o o':Ob}(h:∀id,nx<=id->S id=none)(hi:S i=some o')(hid:nx<=id):upd S i o id=none:=by
 have:id≠i:=fun e=>by subst e;rw[h id hid] at hi;cases hi
 rw[z0k this];exact h id hid
theorem Le.ghost'{S':Store}(h:∀{P:Program} (F:Fen P) (m:Place) (w:World),SRel F s.st m w->(∀id,s.nx<=id->s.st id=none)->(∀id,s.nx<=id->S' id=none)/\∃m',SRel F S' m' w/\FrameExt F s.st m w S' m' w):Le n l0 s ⟨s.sl,S',s.nx⟩:=by
 intro P F m0 w0 m a w h0 h1 h2
 obtain⟨hn,m',k1,k2⟩:=h F m w h1.srel h1.fresh
 exact⟨m',⟨fun t=>k2.val (h1.slots t),h1.size,h1.defers.ext k2,k1,hn⟩,h2.trans h0 k2⟩
theorem Le.mput{id r:Nat}{es es':List (Int×MV)}{k:Int}{v:AVal}{o:Ob}{mv:MV}(hid:s.st id=some (.mp es (some (k,v))))(hr:s.st r=some o)(hlive:o.live=true)(hsame:o.same .gone)
 (hlen:∀{P:Program} (F:Fen P) (m:Place) (w:World),SRel F s.st m w->o.len<18446744073709551616) (hri:r≠id) (hl:(lookE es k).isSome=true) (he:putE es k mv=es')
 (hv:∀{P:Program} (F:Fen P) (m:Place) (w:World),SRel F s.st m w->∀u,VRel s.st m w (okB F s.st m w) v u->∀S' m' w',FrameExt F s.st m w S' m' w'->(∀x,(m r).1=some x->w'.heap[x]? =w.heap[x]?)->MRel S' m' w' (okB F S' m' w') mv u (m r).1):
 Le n l0 s ⟨s.sl,upd (upd s.st r .gone) id (.mp es' none),s.nx⟩:=by
 subst he
 obtain⟨v0,hv0⟩:=zM.1 hl
 obtain⟨i,h1,h2⟩:=z3B hv0
 refine Le.ghost' (fun F m w hS hf=>⟨fun id' hid'=> ?_,y6e hS hid h1 h2 hr hlive hsame (hlen F m w hS) hri (hv F m w hS)⟩)
 have e1:id'≠id:=fun e=>by subst e;rw[hf id' hid'] at hid;cases hid
 rw[z0k e1]
 exact y3X hf hr hid'
theorem z8T{x:LeI}{s':St}{C:List Prop}(h:leR s x=some (s',C))(hC:All C):Le n l0 s s':=by
 cases x with
 |nR t k=>
  simp only[leR] at h
  split at h
  ·rename_i hg
   obtain⟨hk,h⟩:=z0i h
   cases h
   exact Le.nilRow hg (by simp) hk
  ·cases h
 |nL t k=>
  simp only[leR] at h
  split at h
  ·rename_i hg
   obtain⟨hk,h⟩:=z0i h
   cases h
   exact Le.nilLst hg hk
  ·cases h
 |nB b i k=>
  simp only[leR] at h
  split at h
  ·rename_i cs hb
   split at h
   ·rename_i hg
    obtain⟨hk,h⟩:=z0i h
    cases h
    exact Le.nilBox hb hg (by simp) hk
   ·cases h
  ·cases h
 |fz id=>
  simp only[leR] at h
  split at h
  ·rename_i hb;cases h;exact Le.fz hb
  ·cases h
 |fr t p hp=>
  simp only[leR] at h
  split at h
  ·rename_i v' g p hs
   obtain⟨hk,h⟩:=z0i h
   cases h
   exact Le.freeze rfl hs hC hk
  ·cases h
 |fR t p hp=>
  simp only[leR] at h
  split at h
  ·rename_i v' g p hs
   obtain⟨hk,h⟩:=z0i h
   cases h
   exact Le.freezeR rfl hs hC hk
  ·cases h
 |eq t d v hw=>
  simp only[leR] at h
  cases h
  exact Le.slot rfl hC.1
 |er id xs ys he=>
  simp only[leR] at h
  split at h
  ·rename_i hb;cases h;exact Le.row hb hC.1
  ·cases h
 |kp ts=>
  simp only[leR] at h
  cases h
  exact Le.keep ts
 |mc id xs' p hp=>
  simp only[leR] at h
  split at h
  ·rename_i hid
   split at h
   ·rename_i hr
    cases h
    exact Le.matClose hid hr hC.1 hC.2.1
   ·cases h
  ·cases h
 |mf t=>
  simp only[leR] at h
  split at h
  ·rename_i hg
   split at h
   ·rename_i hid;cases h;exact Le.matFreeze hg hid
   ·cases h
  ·cases h
 |cb b0 i ag k p hp=>
  simp only[leR] at h
  split at h
  rotate_left
  ·cases h
  rename_i cs0 hb0
  split at h
  rotate_left
  ·cases h
  rename_i id q hg
  split at h
  rotate_left
  ·cases h
  rename_i cs hs
  split at h
  rotate_left
  ·cases h
  rename_i cs' g p hsn
  obtain⟨hk,h⟩:=z0i h
  simp only[qF] at h
  obtain⟨ts,h1,xs,h2,h⟩:=h
  cases h
  simp only[qd,qv] at hk
  obtain⟨c1,c2,c3,c4,c5⟩:=hk
  exact Le.closeB hb0 hg hs hsn hC (fun e=>by rw[e] at c1;simp at c1) c2 (z3k c3) (qG c4) (qO c5) h1 h2
 |mv t i j he=>
  simp only[leR] at h
  split at h
  ·rename_i hg
   split at h
   ·rename_i hid;cases h;exact Le.mvRow hg hid hC.1
   ·cases h
  ·cases h
 |mput id es' p hp=>cases h
 |mfz id es' p hp=>cases h
 |me id es1 es' he=>cases h
 |eb b i v v' he=>
  simp only[leR] at h
  split at h
  ·rename_i cs hb
   split at h
   ·rename_i v0 hi;cases h;exact Le.boxE hb hi hC.1
   ·cases h
  ·cases h
theorem z4n:∀(ks:List Nat) (sl:List (Nat×AVal)) (t:Nat),t∈ks->get (keepS sl ks) t=get sl t
 |k::ks,sl,t,h=>by
  simp only[keepS,get]
  by_cases e:k=t
  ·subst e;simp
  ·rw[z0P e]
   rcases qn.1 h with h|h
   ·exact absurd h.symm e
   ·exact z4n ks sl t h
theorem y3Y:∀(sl:List (Nat×AVal)) (t:Nat),t∉sl.map (·.1)->get sl t= .junk
 | [],t,h=>rfl
 | (k,v)::sl,t,h=>by
  simp only[q9,qn,not_or] at h
  simp only[get]
  rw[z0P (Ne.symm h.1)]
  exact y3Y sl t h.2
theorem z3S(sl:List (Nat×AVal))(t:Nat):get (keepS sl (sl.map (·.1))) t=get sl t:=by
 by_cases h:t∈sl.map (·.1)
 ·exact z4n _ _ _ h
 ·rcases z6a (sl.map (·.1)) sl t with e|e
  ·exact e
  ·rw[e,y3Y sl t h]
theorem Rel.slots_eq{sl sl':List (Nat×AVal)}{st:Store}{nx:Nat}{a:Act}(h:Rel F n ⟨sl,st,nx⟩ m a w)(e:∀t,get sl' t=get sl t):Rel F n ⟨sl',st,nx⟩ m a w:=
 ⟨fun t=>by rw[e];exact h.slots t,h.size,h.defers,h.srel,h.fresh⟩
theorem y6l(hm:P.follows .mixedOrders=true){id:Nat}{ops:Array Oper}{draw:Bool}{orcs:List (Nat×Orc)}{s':St}{C:List Prop}(h:runA P n ops.toList draw orcs s=some (s',C))(hC:All C)(hq:Q .normal s'):
 Sim P n l0 (.region id ops draw) s Q:=by
 unfold runA at h
 split at h
 rotate_left
 ·cases h
 rename_i s2 rs hrun
 obtain⟨h1,h2⟩:=z0i h
 cases h2
 have hR:runR P n ops.toList draw orcs (s2.sl.map (·.1)) s=some (⟨keepS s2.sl (s2.sl.map (·.1)),s2.st,s.nx+8*ops.toList.length⟩,allC rs):=by
  unfold runR
  rw[hrun]
  simp only[h1,cond_true]
 intro F m0 w0 m a w h0 r1 r2
 cases draw with
 |false=>
  have:=y3O hR hC r1 (Q:=fun e a' w'=> ∃s' m',Rel F n s' m' a' w'/\FrameExt F (app emp l0) m0 w0 s'.st m' w'/\Q e s') (fun m' a' w' q1 q2=>⟨⟨s2.sl,s2.st,s.nx+8*ops.toList.length⟩,m',q1.slots_eq (fun t=>(z3S _ t).symm),r2.trans h0 q2,hq⟩) id
  simpa using this
 |true=>
  have:=y3R hm hR hC r1 (Q:=fun e a' w'=> ∃s' m',Rel F n s' m' a' w'/\FrameExt F (app emp l0) m0 w0 s'.st m' w'/\Q e s') (fun m' a' w' q1 q2=>⟨⟨s2.sl,s2.st,s.nx+8*ops.toList.length⟩,m',q1.slots_eq (fun t=>(z3S _ t).symm),r2.trans h0 q2,hq⟩) id
  simpa using this
theorem z6g{a b:List Prop}:All (a++b)↔All a/\All b:=z0z
theorem y6m{e:Exit}{K:List Fr}(h:outS e K= .fin):K=[]:=by
 cases K with
 |nil=>rfl
 |cons f K=>
  cases f with
  |seq c=>cases e<;>simp[outS] at h
  |blk i=>
   cases e with
   |exit j=>simp only[outS] at h;cases hj:Nat.beq j i<;>rw[hj] at h<;>simp at h
   |_=>simp[outS] at h
  |loop c=>cases e<;>simp[outS] at h
theorem z8U{e:Exit}{K K':List Fr}{c:Code}(h:outS e K= .back c K')(hA:z0Q P n l0 c s (wrapK P n l0 K' Q)):wrapK P n l0 K Q e s:=by
 cases K with
 |nil=>simp[outS] at h
 |cons f K=>
  cases f with
  |seq c=>cases e<;>simp[outS] at h
  |blk i=>
   cases e with
   |exit j=>simp only[outS] at h;cases hj:Nat.beq j i<;>rw[hj] at h<;>simp at h
   |_=>simp[outS] at h
  |loop c=>
   cases e with
   |normal=>simp only[outS] at h;cases h;exact hA
   |_=>simp[outS] at h
theorem y8r{e:Exit}{K K':List Fr}{ctl:Ctl}(h:outS e K= .go ctl K')(hA:CtlG P n l0 Q ctl K' s):wrapK P n l0 K Q e s:=by
 cases K with
 |nil=>simp[outS] at h
 |cons f K=>
  cases f with
  |seq c=>cases e<;>(simp only[outS] at h;cases h;exact hA)
  |blk i=>
   cases e with
   |exit j=>
    simp only[outS] at h
    show inBlk i _ (.exit j) s
    simp only[inBlk]
    cases hj:Nat.beq j i with
    |true=>rw[hj] at h;cases h;rw[if_pos (qO hj)];exact hA
    |false=>rw[hj] at h;cases h;rw[if_neg (fun e=>by subst e;simp at hj)];exact hA
   |_=>simp only[outS] at h;cases h;exact hA
  |loop c=>
   cases e with
   |normal=>simp[outS] at h
   |_=>simp only[outS] at h;cases h;exact hA
theorem y6n(hm:P.follows .mixedOrders=true)(hQ:z2Y n l0 Q):∀(fuel:Nat) (sc:List It) (ctl:Ctl) (K:List Fr) (s:St) (acc:List Prop) (a:At) (C:List Prop),
 go P n fuel sc ctl K s acc=some (a,C)->All C->AtG P n l0 Q a->All acc/\CtlG P n l0 Q ctl K s:=by
 intro fuel
 induction fuel with
 |zero=>intro sc ctl K s acc a C h;simp[go] at h
 |succ fuel ih=>
  intro sc ctl K s acc a C h hC hA
  unfold go at h
  split at h
  ·cases h
  ·
   rename_i x sc' K' s' acc' hfu
   cases hfu
   split at h
   ·rename_i s2 C2 hle
    obtain⟨q1,q2⟩:=ih _ _ _ _ _ _ _ h hC hA
    rw[z6g] at q1
    exact⟨q1.1,y3W hQ (z8T hle q1.2) q2⟩
   ·cases h
  ·
   rename_i fuel2 c hfu _
   cases hfu
   split at h
   ·obtain⟨q1,q2⟩:=ih _ _ _ _ _ _ _ h hC hA;exact⟨q1,Sim.seq q2⟩
   ·obtain⟨q1,q2⟩:=ih _ _ _ _ _ _ _ h hC hA;exact⟨q1,Sim.skip q2⟩
   ·obtain⟨q1,q2⟩:=ih _ _ _ _ _ _ _ h hC hA;exact⟨q1,Sim.ret q2⟩
   ·obtain⟨q1,q2⟩:=ih _ _ _ _ _ _ _ h hC hA;exact⟨q1,Sim.exit q2⟩
   ·obtain⟨q1,q2⟩:=ih _ _ _ _ _ _ _ h hC hA;exact⟨q1,Sim.block q2⟩
   ·split at h
    ·cases h;exact⟨hC,Sim.loop hA⟩
    ·obtain⟨q1,q2⟩:=ih _ _ _ _ _ _ _ h hC hA;exact⟨q1,Sim.loop (z0Q.step q2)⟩
    ·cases h
   ·split at h
    ·rename_i b hb
     split at h
     ·cases h;exact⟨hC,Sim.cond hb hA.1 hA.2⟩
     ·cases b with
      |true=>obtain⟨q1,q2⟩:=ih _ _ _ _ _ _ _ h hC hA;exact⟨q1,Sim.cond hb (fun _=>q2) (fun e=>by cases e)⟩
      |false=>cases h
     ·cases b with
      |false=>obtain⟨q1,q2⟩:=ih _ _ _ _ _ _ _ h hC hA;exact⟨q1,Sim.cond hb (fun e=>by cases e) (fun _=>q2)⟩
      |true=>cases h
     ·cases h
    ·rename_i hb
     split at h
     ·cases h;exact⟨hC,Sim.condAny hb hA.1 hA.2⟩
     ·cases h
    ·cases h
   ·split at h
    ·cases h;exact⟨hC,hA⟩
    ·split at h
     ·rename_i s2 C2 hr
      obtain⟨q1,q2⟩:=ih _ _ _ _ _ _ _ h hC hA
      rw[z6g] at q1
      exact⟨q1.1,y6l hm hr q1.2 q2⟩
     ·cases h
    ·cases h
   ·split at h
    ·cases h;exact⟨hC,hA⟩
    ·cases h
   ·cases h
  ·
   rename_i fuel2 e hfu _
   cases hfu
   split at h
   ·rename_i ho
    split at h
    ·cases h;exact⟨hC,by rw[y6m ho];exact hA⟩
    ·cases h
   ·rename_i c K' ho
    split at h
    ·cases h;exact⟨hC,z8U ho hA⟩
    ·obtain⟨q1,q2⟩:=ih _ _ _ _ _ _ _ h hC hA;exact⟨q1,z8U ho (z0Q.step q2)⟩
    ·cases h
   ·rename_i ctl K' ho
    obtain⟨q1,q2⟩:=ih _ _ _ _ _ _ _ h hC hA
    exact⟨q1,y8r ho q2⟩
end Go.Ab
end
section
namespace Go.Ab
open Go
variable {P:Program} {n:Nat} {l0:List (Nat×Ob)} {Q:Exit->St->Prop}
abbrev VI(x:Int):AVal:= .t (.sc (.int .i64 x))
abbrev VB(b:Bool):AVal:= .t (.sc (.bool b))
abbrev VS(s:ByteArray):AVal:= .t (.sc (.string s))
abbrev VN:AVal:= .t (.sc (.slice none 0 0))
abbrev VL{α:Type}(k:Nat)(f:α->Tree)(l:List α):AVal:= .t (.lst k (l.map f))
abbrev TI(x:Int):Tree:= .sc (.int .i64 x)
abbrev TB(b:Bool):Tree:= .sc (.bool b)
abbrev TS(s:ByteArray):Tree:= .sc (.string s)
abbrev TN:Tree:= .sc (.slice none 0 0)
abbrev TL{α:Type}(k:Nat)(f:α->Tree)(l:List α):Tree:= .lst k (l.map f)
abbrev OR{α:Type}(k:Nat)(f:α->Tree)(l:List α):Ob:= .row k false (l.map f)
abbrev OF{α:Type}(k:Nat)(f:α->Tree)(l:List α):Ob:= .row k true (l.map f)
structure SimC(P:Program)(n:Nat)(l0:List (Nat×Ob))(Q:Exit->St->Prop)(c:Cfg):Prop where
 run:P.follows .mixedOrders=true->z2Y n l0 Q->CtlG P n l0 Q c.ctl c.K c.s
def runP(P:Program)(n:Nat)(sc:List It)(c:Cfg):Option (At×List Prop):=go P n 100000 sc c.ctl c.K c.s []
theorem y3Z:∀(x:LeI),All (leC x)
 | .fr _ p h=>h
 | .eq _ d v h=>⟨h,trivial⟩
 | .er _ xs ys h=>⟨h,trivial⟩
 | .nR _ _=>trivial
 | .nL _ _=>trivial
 | .nB _ _ _=>trivial
 | .fz _=>trivial
 | .kp _=>trivial
 | .eb _ _ _ _ h=>⟨h,trivial⟩
 | .mc _ _ _ h=>h
 | .fR _ _ h=>h
 | .mv _ _ _ h=>⟨h,trivial⟩
 | .mf _=>trivial
 | .mput _ _ _ h=>h
 | .mfz _ _ _ h=>h
 | .me _ _ _ h=>⟨h,trivial⟩
 | .cb _ _ _ _ _ h=>h
theorem z7K:∀{l t:List Prop},All l->All t->All (apC l t)
 | [],t,_,h=>h
 |p::l,t,hp,h=>⟨hp.1,z7K hp.2 h⟩
theorem y30:∀(l:List (Nat×Ox)) {t:List Prop},All t->All (oxC l t)
 | [],t,h=>h
 | (_,x)::l,t,h=>z7K x.h (y30 l h)
theorem z2b:∀(sc:List It),All (csL sc)
 | []=>trivial
 | .r xs::l=>y30 xs (z2b l)
 | .le x::l=>z7K (y3Z x) (z2b l)
 | .t::l=>z2b l
 | .f::l=>z2b l
 | .u::l=>z2b l
theorem z2J{sc:List It}{c:Cfg}{a:At}{C:List Prop}(h:runP P n sc c=some (a,C))(hC:All C)(hA:P.follows .mixedOrders=true->z2Y n l0 Q->AtG P n l0 Q a):SimC P n l0 Q c:=
 ⟨fun hm hQ=>(y6n hm hQ _ _ _ _ _ _ _ _ h hC (hA hm hQ)).2⟩
def brQ:Option (At×List Prop)->Option (Bool×List Prop)
 |some (.br b _ _ _ _,C)=>some (b,C)
 |_=>none
def brX(v:Bool):Option (At×List Prop)->Cfg
 |some (.br _ x y K s,_)=>⟨.run (bif v then x else y),K,s⟩
 |_=>default
theorem SimC.br{c:Cfg}(sc:List It)(b:Bool)(ht:b=true->SimC P n l0 Q (brX true (runP P n sc c)))(hf:b=false->SimC P n l0 Q (brX false (runP P n sc c)))
 (h:brQ (runP P n sc c)=some (b,csL sc):=by kernel_rfl):SimC P n l0 Q c:=by
 generalize hr:runP P n sc c=r at*
 match r,h with
 |some (.br b' x y K s,C),h=>
  simp only[brQ,qb,qR] at h
  obtain⟨rfl,rfl⟩:=h
  exact z2J hr (z2b sc) (fun hm hQ=>⟨fun e=>(ht e).run hm hQ,fun e=>(hf e).run hm hQ⟩)
class BP(b:Bool)(t f:outParam Prop):Prop where
 t:b=true->t
 f:b=false->f
instance (priority:=10) BP.any (b:Bool):BP b (b=true) (b=false):=⟨id,id⟩
instance (priority:=100) BP.dec (p:Prop) [Decidable p]:BP (decide p) p (¬p):=⟨of_decide_eq_true,of_decide_eq_false⟩
instance BP.ilt (a b:Int) [Decidable (a<b)]:BP (decide (a<b)) (a<b) (b<=a):=⟨of_decide_eq_true,fun h=>zk.1 (of_decide_eq_false h)⟩
instance BP.ile (a b:Int) [Decidable (a<=b)]:BP (decide (a<=b)) (a<=b) (b<a):=⟨of_decide_eq_true,fun h=>zl.1 (of_decide_eq_false h)⟩
instance BP.not (b:Bool) {t f:Prop} [h:BP b t f]:BP (!b) f t:=⟨fun e=>h.f (by simpa using e),fun e=>h.t (by simpa using e)⟩
instance BP.and (a b:Bool) {t f t' f':Prop} [h:BP a t f] [k:BP b t' f']:BP (a&&b) (t/\t') (f\/f'):=⟨fun e=>by rw[qd] at e;exact⟨h.t e.1,k.t e.2⟩,fun e=>by rw[qz] at e;exact e.imp h.f k.f⟩
instance BP.or (a b:Bool) {t f t' f':Prop} [h:BP a t f] [k:BP b t' f']:BP (a||b) (t\/t') (f/\f'):=⟨fun e=>by rw[qS] at e;exact e.imp h.t k.t,fun e=>by rw[zQ] at e;exact⟨h.f e.1,k.f e.2⟩⟩
instance BP.beq {α:Type} [BEq α] [LawfulBEq α] (a b:α):BP (a==b) (a=b) (¬a=b):=⟨fun e=>beq_iff_eq.1 e,fun e=>beq_eq_false_iff_ne.1 e⟩
instance BP.bne {α:Type} [BEq α] [LawfulBEq α] (a b:α):BP (a !=b) (¬a=b) (a=b):=⟨fun e=>bne_iff_ne.1 e,fun e=>bne_eq_false_iff_eq.1 e⟩
theorem SimC.bp{c:Cfg}(sc:List It)(b:Bool){t f:Prop}[hb:BP b t f](ht:t->SimC P n l0 Q (brX true (runP P n sc c)))(hf:f->SimC P n l0 Q (brX false (runP P n sc c)))
 (h:brQ (runP P n sc c)=some (b,csL sc):=by kernel_rfl):SimC P n l0 Q c:=SimC.br sc b (fun e=>ht (hb.t e)) (fun e=>hf (hb.f e)) h
def anQ:Option (At×List Prop)->Option (List Prop)
 |some (.any _ _ _ _,C)=>some C
 |_=>none
def anX(v:Bool):Option (At×List Prop)->Cfg
 |some (.any x y K s,_)=>⟨.run (bif v then x else y),K,s⟩
 |_=>default
theorem SimC.any{c:Cfg}(sc:List It)(ht:SimC P n l0 Q (anX true (runP P n sc c)))(hf:SimC P n l0 Q (anX false (runP P n sc c)))
 (h:anQ (runP P n sc c)=some (csL sc):=by kernel_rfl):SimC P n l0 Q c:=by
 generalize hr:runP P n sc c=r at*
 match r,h with
 |some (.any x y K s,C),h=>
  simp only[anQ,qb] at h
  subst h
  exact z2J hr (z2b sc) (fun hm hQ=>⟨ht.run hm hQ,hf.run hm hQ⟩)
def mkSt(p:List (Nat×AVal)×List (Nat×Ob))(nx:Nat):St:=⟨p.1,app emp p.2,nx⟩
def idT:List (Nat×Ob)->List (Nat×Nat)
 | []=>[]
 | (i,_)::l=>(i,i)::idT l
def keysT:List (Nat×AVal)->List Nat
 | []=>[]
 | (i,_)::l=>i::keysT l
def lpQ(l0:List (Nat×Ob))(nx:Nat)(p:List (Nat×AVal)×List (Nat×Ob)):Option (At×List Prop)->Option ((List (Nat×AVal)×List (Nat×Ob))×List Prop)
 |some (.loop _ _ s,C)=>match renSt l0 (idT p.2) (keysT p.1) nx s with
  |some p=>some (p,C)
  |none=>none
 |_=>none
def lpC:Option (At×List Prop)->Code
 |some (.loop c _ _,_)=>c
 |_=>default
def lpK:Option (At×List Prop)->List Fr
 |some (.loop _ K _,_)=>K
 |_=>[]
theorem SimC.loop{c:Cfg}{α:Type}(sc:List It)(nx:Nat)(S:α->List (Nat×AVal)×List (Nat×Ob))(I:α->Prop)(μ:α->Nat)(a:α)(ha:I a)
 (round:∀a,I a->(∀b,I b->μ b<μ a->z0Q P n l0 (lpC (runP P n sc c)) (mkSt (S b) nx) (wrapK P n l0 (lpK (runP P n sc c)) Q))->
  SimC P n l0 Q ⟨.run (lpC (runP P n sc c)),.loop (lpC (runP P n sc c))::lpK (runP P n sc c),mkSt (S a) nx⟩)
 (h:lpQ l0 nx (S a) (runP P n sc c)=some (S a,csL sc):=by kernel_rfl):SimC P n l0 Q c:=by
 generalize hr:runP P n sc c=r at*
 match r,h with
 |some (.loop x K s,C),h=>
  simp only[lpQ] at h
  split at h
  ·rename_i p hp
   simp only[qb,qR] at h
   obtain⟨rfl,rfl⟩:=h
   refine z2J hr (z2b sc) (fun hm hQ=> ?_)
   have hle:Le n l0 s (mkSt (S a) nx):=Le.ren hp
   refine z0Q.weaken hle ?_
   exact y6i (fun a=>mkSt (S a) nx) I μ (fun a hI ih=>z0Q.step ((round a hI ih).run hm hQ)) a ha
  ·cases h
def bkQ(l0:List (Nat×Ob))(τ:List (Nat×Nat))(nx:Nat)(p:List (Nat×AVal)×List (Nat×Ob)):Option (At×List Prop)->Option ((List (Nat×AVal)×List (Nat×Ob))×List Prop)
 |some (.back _ _ s,C)=>match renSt l0 τ (keysT p.1) nx s with
  |some p=>some (p,C)
  |none=>none
 |_=>none
def bkC:Option (At×List Prop)->Option (Code×List Fr)
 |some (.back c K _,_)=>some (c,K)
 |_=>none
theorem SimC.back{c:Cfg}(sc:List It)(τ:List (Nat×Nat)){p:List (Nat×AVal)×List (Nat×Ob)}{nx:Nat}{body:Code}{K:List Fr}(ih:z0Q P n l0 body (mkSt p nx) (wrapK P n l0 K Q))
 (h:bkQ l0 τ nx p (runP P n sc c)=some (p,csL sc):=by kernel_rfl) (hc:bkC (runP P n sc c)=some (body,K):=by kernel_rfl):SimC P n l0 Q c:=by
 generalize hr:runP P n sc c=r at*
 match r,h,hc with
 |some (.back x K' s,C),h,hc=>
  simp only[bkC,qb,qR] at hc
  obtain⟨rfl,rfl⟩:=hc
  simp only[bkQ] at h
  split at h
  ·rename_i p' hp
   simp only[qb,qR] at h
   obtain⟨rfl,rfl⟩:=h
   exact z2J hr (z2b sc) (fun hm hQ=>z0Q.weaken (Le.ren hp) ih)
  ·cases h
abbrev FinX:=FinM
theorem y8s{rv:List ResultVar}{res:AVal}{l1:List (Nat×Ob)}:z2Y n l0 (FinX P n l0 rv res l1):=fun _ _ _ h k=>FinM.le h k
def resX(P:Program)(rv:List ResultVar)(sl:List (Nat×AVal))(l:List (Nat×Ob)):Option AVal:=resM P rv sl (app emp l)
def y31:List ResultVar->List Nat
 | []=>[]
 | .tmp t::l=>t::y31 l
 | .cell t _::l=>t::y31 l
def nxOf:List (Nat×Ob)->Nat
 | []=>0
 | (i,_)::l=>bif Nat.blt i (nxOf l) then nxOf l else i+1
def nxT:List (Nat×Nat)->Nat
 | []=>0
 | (_,i)::l=>bif Nat.blt i (nxT l) then nxT l else i+1
def isEnd:Exit->Bool
 | .ret=>true
 | .normal=>true
 |_=>false
def fnQ(P:Program)(l0:List (Nat×Ob))(τ:List (Nat×Nat))(rv:List ResultVar):Option (At×List Prop)->Option (AVal×List (Nat×Ob)×List Prop)
 |some (.fin e s,C)=>bif isEnd e then match renSt l0 τ (y31 rv) (nxT τ) s with
  |some (sl,l)=>match resX P rv sl l with
   |some r=>some (r,l,C)
   |none=>none
  |none=>none
  else none
 |_=>none
theorem y1q{e:Exit}(h:isEnd e=true):e= .ret\/e= .normal:=by cases e<;>simp[isEnd] at h|-
theorem SimC.finE{c:Cfg}{rv:List ResultVar}{res:AVal}{l1:List (Nat×Ob)}{β:Type}(sc:List It)(τ:List (Nat×Nat))(R:β->AVal×List (Nat×Ob))(x y:β)(e:y=x)
 (h:fnQ P l0 τ rv (runP P n sc c)=some ((R x).1,(R x).2,csL sc):=by kernel_rfl) (hR:R y=(res,l1):=by kernel_rfl):SimC P n l0 (FinX P n l0 rv res l1) c:=by
 subst e
 rw[hR] at h
 generalize hr:runP P n sc c=r at*
 match r,h with
 |some (.fin e s,C),h=>
  simp only[fnQ] at h
  cases he:isEnd e with
  |false=>rw[he] at h;cases h
  |true=>
   rw[he] at h
   simp only[cond_true] at h
   split at h
   ·rename_i sl l hs
    split at h
    ·rename_i r hres
     simp only[qb,qR] at h
     obtain⟨rfl,rfl,rfl⟩:=h
     exact z2J hr (z2b sc) (fun hm hQ=>FinM.here (y1q he) (Le.ren hs) rfl hres)
    ·cases h
   ·cases h
theorem SimC.fin{c:Cfg}{rv:List ResultVar}{res:AVal}{l1:List (Nat×Ob)}(sc:List It)(τ:List (Nat×Nat))(h:fnQ P l0 τ rv (runP P n sc c)=some (res,l1,csL sc):=by kernel_rfl):SimC P n l0 (FinX P n l0 rv res l1) c:=
 SimC.finE sc τ (fun z=>z) (res,l1) (res,l1) rfl h rfl
def leS(s:St):List LeI->Option (St×List Prop)
 | []=>some (s,[])
 |x::l=>match leR s x with
  |some (s',C)=>match leS s' l with
   |some (s2,C2)=>some (s2,apC C C2)
   |none=>none
  |none=>none
def leCs:List LeI->List Prop
 | []=>[]
 |x::l=>apC (leC x) (leCs l)
theorem y1r:∀l:List LeI,All (leCs l)
 | []=>trivial
 |x::l=>z7K (y3Z x) (y1r l)
theorem y0j:∀{l t:List Prop},All (apC l t)->All l/\All t
 | [],_,h=>⟨trivial,h⟩
 |_::_,_,h=>⟨⟨h.1,(y0j h.2).1⟩,(y0j h.2).2⟩
theorem z8V:∀{l:List LeI} {s s':St} {C:List Prop},leS s l=some (s',C)->All C->Le n l0 s s'
 | [],s,s',C,h,_=>by
  simp only[leS,qb,qR] at h
  obtain⟨rfl,rfl⟩:=h
  exact Le.refl _
 |x::l,s,s',C,h,hC=>by
  simp only[leS] at h
  split at h
  ·rename_i s1 C1 h1
   split at h
   ·rename_i s2 C2 h2
    simp only[qb,qR] at h
    obtain⟨rfl,rfl⟩:=h
    obtain⟨q1,q2⟩:=y0j hC
    exact Le.trans (z8T h1 q1) (z8V h2 q2)
   ·cases h
  ·cases h
def fvQ(P:Program)(l0:List (Nat×Ob))(les:List LeI)(τ:List (Nat×Nat))(rv:List ResultVar):Option (At×List Prop)->Option (AVal×List (Nat×Ob)×List Prop×List Prop)
 |some (.fin e s,C)=>bif isEnd e then match resM P rv s.sl s.st with
  |some r0=>match leS ⟨[(0,r0)],s.st,s.nx⟩ les with
   |some (s2,D)=>match renSt l0 τ [0] (nxT τ) s2 with
    |some (sl,l)=>some (get sl 0,l,C,D)
    |none=>none
   |none=>none
  |none=>none
  else none
 |_=>none
theorem SimC.finVE{c:Cfg}{rv:List ResultVar}{res:AVal}{l1:List (Nat×Ob)}{β:Type}(sc:List It)(les:List LeI)(τ:List (Nat×Nat))(R:β->AVal×List (Nat×Ob))(x y:β)(e:y=x)
 (h:fvQ P l0 les τ rv (runP P n sc c)=some ((R x).1,(R x).2,csL sc,leCs les):=by kernel_rfl) (hR:R y=(res,l1):=by kernel_rfl):SimC P n l0 (FinX P n l0 rv res l1) c:=by
 subst e
 rw[hR] at h
 generalize hr:runP P n sc c=r at*
 match r,h with
 |some (.fin e s,C),h=>
  simp only[fvQ] at h
  cases he:isEnd e with
  |false=>rw[he] at h;cases h
  |true=>
   rw[he] at h
   simp only[cond_true] at h
   split at h
   ·rename_i r0 hr0
    split at h
    ·rename_i s2 D hD
     split at h
     ·rename_i sl l hs
      simp only[qb,qR] at h
      obtain⟨rfl,rfl,rfl,rfl⟩:=h
      exact z2J hr (z2b sc) (fun hm hQ=>⟨y1q he,s,r0,⟨sl,app emp l,nxT τ⟩,Le.refl _,hr0,Le.trans (z8V hD (y1r les)) (Le.ren hs),rfl,rfl⟩)
     ·cases h
    ·cases h
   ·cases h
theorem SimC.finV{c:Cfg}{rv:List ResultVar}{res:AVal}{l1:List (Nat×Ob)}(sc:List It)(les:List LeI)(τ:List (Nat×Nat))(h:fvQ P l0 les τ rv (runP P n sc c)=some (res,l1,csL sc,leCs les):=by kernel_rfl):SimC P n l0 (FinX P n l0 rv res l1) c:=
 SimC.finVE sc les τ (fun z=>z) (res,l1) (res,l1) rfl h rfl
theorem SimC.at{c:Cfg}(nx:Nat)(τ:List (Nat×Nat))(p:List (Nat×AVal)×List (Nat×Ob))(k:SimC P n l0 Q ⟨c.ctl,c.K,mkSt p nx⟩)(h:renSt l0 τ (keysT p.1) nx c.s=some p:=by kernel_rfl):SimC P n l0 Q c:=
 ⟨fun hm hQ=>y3W hQ (Le.ren h) (k.run hm hQ)⟩
theorem SimC.len{x:Code}{K:List Fr}{s:St}{α:Type}(t:Nat){k:Nat}{f:α->Tree}{l:List α}(h:l.length<=9223372036854775807->SimC P n l0 Q ⟨.run x,K,s⟩)(hg:get s.sl t=VL k f l:=by rfl):SimC P n l0 Q ⟨.run x,K,s⟩:=
 ⟨fun hm hQ=>Sim.len (t:=t) (k:=k) (xs:=l.map f) hg (fun hl=>(h (by simpa using hl)).run hm hQ)⟩
def y32(fn:Func):Code:=fn.body.getD default
theorem FC.go{f:FuncId}{args:List AVal}{res:AVal}{l1:List (Nat×Ob)}(fn:Func)(h:SimC P fn.ntmps l0 (FinX P fn.ntmps l0 fn.results.toList res l1) ⟨.run (y32 fn),[],⟨z2X 0 args,app emp l0,nxOf l0⟩⟩)
 (hf:P.funcs[f]? =some fn:=by kernel_rfl) (hn:((args.length).ble fn.ntmps&&fn.body.isSome)=true:=by kernel_rfl) (hm:P.follows .mixedOrders=true:=by kernel_rfl):FC P f args (app emp l0) res (app emp l1):=by
 simp only[qd] at hn
 obtain⟨c,hb⟩:=zM.1 hn.2
 have hc:y32 fn=c:=by unfold y32;rw[hb];rfl
 have hx:∀l:List (Nat×Ob),l.all (fun x=>Nat.blt x.1 (nxOf l))=true:=by
  have key:∀l:List (Nat×Ob),∀x∈l,x.1<nxOf l:=by
   intro l
   induction l with
   |nil=>intro x h;simp at h
   |cons y l ih=>
    intro x hx
    obtain⟨i,o⟩:=y
    simp only[nxOf]
    cases hh:Nat.blt i (nxOf l) with
    |true=>
     have:=zi (qG hh)
     rcases qn.1 hx with rfl|hx
     ·exact this
     ·exact ih x hx
    |false=>
     rcases qn.1 hx with rfl|hx
     ·exact Nat.lt_succ_self _
     ·have h1:=ih x hx
      have h2:¬(i<nxOf l):=fun h=>by rw[show Nat.blt i (nxOf l)=true from zT h] at hh;cases hh
      simp only[cond_false]
      omega
  intro l
  exact qY.2 fun x hx=>zT (key l x hx)
 have h:=h.run hm y8s
 simp only[CtlG,wrapK,hc] at h
 exact FC.of_simM hf hb hn.1 (hx l0) h
end Go.Ab
end
section
namespace Go.Ab
open Go
variable {P:Program}
structure Px(p:Prop) where
 o:Orc
 cs:List Prop
 h:p->All cs
def gdC(e:Bool):List Prop->List Prop
 | []=>[]
 |p::l=>(e=true->p)::gdC e l
theorem y0k{e:Bool}:∀{l:List Prop},(e=true->All l)->All (gdC e l)
 | [],_=>trivial
 |p::l,h=>⟨fun he=>(h he).1,y0k fun he=>(h he).2⟩
def X{p:Prop}(x:Px p)(h:p:=by first|with_reducible exact True.intro|omega| (and_intros<;>first|omega|with_reducible rfl|with_reducible assumption|with_reducible exact True.intro| (simp only[qg];omega)| (simp[-List.getD_eq_getElem?_getD];omega)| (simp;omega)| (simp;done))):Ox:=⟨x.o,x.cs,x.h h⟩
def Xg{p:Prop}(e:Bool)(x:Px p)(h:e=true->p:=by first| (intro _;with_reducible exact True.intro)| (intro hg;(try simp[-List.getD_eq_getElem?_getD] at hg);first|omega| (and_intros<;>first|omega|with_reducible rfl|with_reducible assumption|with_reducible exact True.intro| (simp only[qg];omega)| (simp[-List.getD_eq_getElem?_getD];omega)| (simp;omega)| (simp[hg];done)))):Ox:=⟨x.o,gdC e x.cs,y0k fun he=>x.h (h he)⟩
def oV(v:AVal):Orc:=⟨some v,none,none,none,[]⟩
def oE(x:Tree):Orc:=⟨none,none,some x,none,[]⟩
def Xc(p:Prop):Px p:=⟨Orc.no,[p],fun h=>⟨h,trivial⟩⟩
def X0:Px True:=⟨Orc.no,[],fun _=>trivial⟩
def Xa{p q:Prop}(x:Px p)(y:Px q):Px (p/\q):=⟨y.o,x.cs++y.cs,fun h=>z6g.2 ⟨x.h h.1,y.h h.2⟩⟩
def Xn(a:Int):Px (-9223372036854775808<=a/\a<=9223372036854775807):=⟨oV (VI a),[Weak (VI (IntKind.i64.wrap a)) (VI a)],fun h=>⟨Weak.of_eq (nw h),trivial⟩⟩
def Xmax3(a b c:Int):Px True:=⟨oV (VI (max (max a b) c)),[Weak (VI (if c>(if b>a then b else a) then c else(if b>a then b else a))) (VI (max (max a b) c))],fun _=>⟨Weak.of_eq y8n,trivial⟩⟩
def Xmin(a b:Int):Px True:=⟨oV (VI (min a b)),[Weak (VI (if b<a then b else a)) (VI (min a b))],fun _=>⟨Weak.of_eq y9J,trivial⟩⟩
def Xl{α:Type}(f:α->Tree)(l:List α):Px True:=⟨oV (VI (l.length:Int)),[Weak (VI ((l.map f).length:Int)) (VI (l.length:Int))],fun _=>⟨Weak.of_eq y8l,trivial⟩⟩
def Xi{α:Type}[Inhabited α](f:α->Tree)(l:List α)(j:Int):Px (0<=j/\j< (l.length:Int)):=
 ⟨oE (f (l.getD j.toNat default)),[0<=j,(l.map f)[j.toNat]? =some (f (l.getD j.toNat default))],fun h=>⟨h.1,y8k h.1 h.2,trivial⟩⟩
def Xi'{α:Type}[Inhabited α](f:α->Tree)(l:List α)(j:Int)(k:Nat):Px (j=(k:Int)/\k<l.length):=
 ⟨oE (f (l.getD k default)),[0<=j,(l.map f)[j.toNat]? =some (f (l.getD k default))],fun h=>⟨by omega,y6j h.1 h.2,trivial⟩⟩
def Xp{α:Type}(f:α->Tree)(o:List α)(j:Int):Px (0<=j/\j< (o.length:Int)):=
 ⟨Orc.no,[o.length=(o.map f).length,0<=j,j< (o.length:Int)],fun h=>⟨qg _|>.symm,h.1,h.2,trivial⟩⟩
def Xp'{α:Type}(f:α->Tree)(id:Nat)(o:List α)(j:Int)(k:Nat):Px (j=(k:Int)/\k<o.length):=
 ⟨oV (.eptr id o.length k 0),[o.length=(o.map f).length,0<=j,j< (o.length:Int),Weak (.eptr id o.length j.toNat 0) (.eptr id o.length k 0)],
  fun h=>⟨qg _|>.symm,by omega,by omega,Weak.of_eq (y8m (by omega)),trivial⟩⟩
def Xe{α:Type}[Inhabited α](f:α->Tree)(o:List α)(i:Nat):Px (i<o.length):=
 ⟨oE (f (o.getD i default)),[o.length=(o.map f).length,(o.map f)[i]? =some (f (o.getD i default))],fun h=>⟨qg _|>.symm,z7J h,trivial⟩⟩
def Xs{α:Type}[Inhabited α](k:Nat)(f:α->Tree)(id:Nat)(o:List α)(i:Nat)(x:α)(g:List (Nat×Ob):=[]):Px (i<o.length):=
 ⟨⟨none,some (g++[(id,.row k false ((o.set i x).map f))]),some (f (o.getD i default)),none,[]⟩,
  [o.length=(o.map f).length,(o.map f)[i]? =some (f (o.getD i default)),g++[(id,Ob.row k false ((o.set i x).map f))]=g++[(id,Ob.row k false ((o.map f).set i (f x)))]],
  fun h=>⟨qg _|>.symm,z7J h,by rw[y3U rfl],trivial⟩⟩
def Xst{α:Type}(f:α->Tree)(k:Nat)(l:List α)(hi:Int):Px (0<=hi/\hi<=(l.length:Int)):=
 ⟨oV (VL k f (l.take hi.toNat)),[0<=hi,hi<=(((l.map f).length:Nat):Int),Weak (.t (.lst k ((l.map f).take hi.toNat))) (VL k f (l.take hi.toNat))],fun h=>⟨h.1,by rw[qg];exact h.2,Weak.of_eq y8p,trivial⟩⟩
def Xsd{α:Type}(f:α->Tree)(k:Nat)(l:List α)(lo:Int):Px (0<=lo/\lo<=(l.length:Int)):=
 ⟨oV (VL k f (l.drop lo.toNat)),[0<=lo,lo<=(((l.map f).length:Nat):Int),Weak (.t (.lst k ((l.map f).drop lo.toNat))) (VL k f (l.drop lo.toNat))],fun h=>⟨h.1,by rw[qg];exact h.2,Weak.of_eq y8o,trivial⟩⟩
def Xsb{α:Type}(f:α->Tree)(k:Nat)(l:List α)(lo hi:Int):Px (0<=lo/\lo<=hi/\hi<=(l.length:Int)):=
 ⟨oV (VL k f ((l.take hi.toNat).drop lo.toNat)),[0<=lo,lo<=hi,hi<=(((l.map f).length:Nat):Int),Weak (.t (.lst k (((l.map f).take hi.toNat).drop lo.toNat))) (VL k f ((l.take hi.toNat).drop lo.toNat))],
  fun h=>⟨h.1,h.2.1,by rw[qg];exact h.2.2,Weak.of_eq y8q,trivial⟩⟩
def rowC{p:Prop}{α:Type}(f:α->Tree)(o:List α)(x:Px p):Px p:=⟨x.o,(o.length=(o.map f).length)::x.cs,fun h=>⟨qg _|>.symm,x.h h⟩⟩
theorem lm{α:Type}{n:Nat}{f:α->Tree}{o:List α}(h:n=o.length:=by first|with_reducible rfl|omega| (simp;done)| (simp[-List.getD_eq_getElem?_getD];omega)| (simp;omega)):n=(o.map f).length:=by rw[qg];exact h
def rowX{p:Prop}{α:Type}(n:Nat)(f:α->Tree)(o:List α)(x:Px p)(h:n=o.length:=by first|omega| (simp;done)| (simp[-List.getD_eq_getElem?_getD];omega)| (simp;omega)):Px p:=⟨x.o,(n=(o.map f).length)::x.cs,fun hp=>⟨by rw[qg];exact h,x.h hp⟩⟩
def Xen{α:Type}[Inhabited α](n:Nat)(f:α->Tree)(o:List α)(i:Nat):Px (n=o.length/\i<o.length):=
 ⟨oE (f (o.getD i default)),[n=(o.map f).length,(o.map f)[i]? =some (f (o.getD i default))],fun h=>⟨by rw[qg];exact h.1,z7J h.2,trivial⟩⟩
def Xpn{α:Type}(n:Nat)(f:α->Tree)(o:List α)(j:Int):Px (n=o.length/\0<=j/\j< (n:Int)):=
 ⟨Orc.no,[n=(o.map f).length,0<=j,j< (n:Int)],fun h=>⟨by rw[qg];exact h.1,h.2.1,h.2.2,trivial⟩⟩
def Xsn{α:Type}[Inhabited α](n k:Nat)(f:α->Tree)(id:Nat)(o:List α)(i:Nat)(x:α)(g:List (Nat×Ob):=[]):Px (n=o.length/\i<o.length):=
 ⟨⟨none,some (g++[(id,.row k false ((o.set i x).map f))]),some (f (o.getD i default)),none,[]⟩,
  [n=(o.map f).length,(o.map f)[i]? =some (f (o.getD i default)),g++[(id,Ob.row k false ((o.set i x).map f))]=g++[(id,Ob.row k false ((o.map f).set i (f x)))]],
  fun h=>⟨by rw[qg];exact h.1,z7J h.2,by rw[y3U rfl],trivial⟩⟩
def Xb(s:ByteArray)(j:Int):Px (0<=j/\j< (s.size:Int)):=⟨Orc.no,[0<=j,j< (s.size:Int)],fun h=>⟨h.1,h.2,trivial⟩⟩
def Xan{α:Type}(f:α->Tree)(id:Nat)(ys:List α):Px (ys.length<=1099511627776):=
 ⟨oV (.row id ys.length),[(ys.map f).length<=1099511627776,Weak (.row id (ys.map f).length) (.row id ys.length)],fun h=>⟨by rw[qg];exact h,Weak.of_eq (by rw[qg]),trivial⟩⟩
def Xap{α:Type}(k:Nat)(f:α->Tree)(id:Nat)(o ys:List α):Px (o.length+ys.length<=1099511627776):=
 ⟨⟨some (.row id (o++ys).length),some [(id,.row k false ((o++ys).map f))],none,none,[]⟩,
  [o.length=(o.map f).length,o.length+(ys.map f).length<=1099511627776,Weak (.row id (o.length+(ys.map f).length)) (.row id (o++ys).length),[(id,Ob.row k false ((o++ys).map f))]=[(id,Ob.row k false (o.map f++ys.map f))]],
  fun h=>⟨qg _|>.symm,by rw[qg];exact h,Weak.of_eq (by simp),z6W rfl,trivial⟩⟩
def XapB{α:Type}(k:Nat)(f:α->Tree)(id:Nat)(o ys:List α):Px (o.length+ys.length<=8589934592):=
 ⟨⟨some (.row id (o++ys).length),some [(id,.row k false ((o++ys).map f))],none,none,[]⟩,
  [o.length=(o.map f).length,o.length+(ys.map f).length<=8589934592,Weak (.row id (o.length+(ys.map f).length)) (.row id (o++ys).length),[(id,Ob.row k false ((o++ys).map f))]=[(id,Ob.row k false (o.map f++ys.map f))]],
  fun h=>⟨qg _|>.symm,by rw[qg];exact h,Weak.of_eq (by simp),z6W rfl,trivial⟩⟩
def Xmk{α:Type}(k:Nat)(f:α->Tree)(id:Nat)(n m:Int)(z:α):Px (0<=n/\n<=m/\m<=1099511627776):=
 ⟨⟨none,some [(id,.row k false ((List.replicate n.toNat z).map f))],none,none,[]⟩,[0<=n,n<=m,m<=1099511627776,[(id,Ob.row k false ((List.replicate n.toNat z).map f))]=[(id,Ob.row k false (List.replicate n.toNat (f z)))]],
  fun h=>⟨h.1,h.2.1,h.2.2,by rw[List.map_replicate],trivial⟩⟩
def Xmz{α:Type}(k:Nat)(f:α->Tree)(id:Nat)(n m:Int)(z:α)(zs:List Tree)(hz:TWs zs (f z).cells):Px (0<=n/\n<=m/\m<=1099511627776):=
 ⟨⟨none,some [(id,.row k false ((List.replicate n.toNat z).map f))],some (f z),none,[]⟩,[0<=n,n<=m,m<=1099511627776,TWs zs (f z).cells,[(id,Ob.row k false ((List.replicate n.toNat z).map f))]=[(id,Ob.row k false (List.replicate n.toNat (f z)))]],
  fun h=>⟨h.1,h.2.1,h.2.2,hz,by rw[List.map_replicate],trivial⟩⟩
def Xbsl:Px True:=⟨⟨none,none,some (.sc (.bool true)),none,[]⟩,[],fun _=>trivial⟩
def Xf(l:List (Nat×Nat)):Px True:=⟨⟨none,none,none,none,l⟩,[],fun _=>trivial⟩
def Xtl{α:Type}(f:α->Tree)(n:Nat)(o:List α)(l:Int):Px (n=o.length/\0<=l/\l<=(n:Int)):=
 ⟨⟨none,none,none,none,[(0,0)]⟩,[n=(o.map f).length,0<=l,l<=(n:Int)],fun h=>⟨by rw[qg];exact h.1,h.2.1,h.2.2,trivial⟩⟩
def rpC(e:Bool):Nat->List Prop->List Prop
 |0,l=>l
 |k+1,l=>(e=true)::rpC e k l
theorem y33{e:Bool}(he:e=true){l:List Prop}(h:All l):∀k,All (rpC e k l)
 |0=>h
 |k+1=>⟨he,y33 he h k⟩
def Xv{p:Prop}(k:Nat)(e:Bool)(x:Px p)(h:e=true->p:=by first| (intro _;with_reducible exact True.intro)| (intro hg;(try simp[-List.getD_eq_getElem?_getD] at hg);first|omega| (and_intros<;>first|omega|with_reducible rfl|with_reducible assumption|with_reducible exact True.intro| (simp only[qg];omega)| (simp[-List.getD_eq_getElem?_getD];omega)| (simp;omega)| (simp[hg];done)))):Ox:=
 ⟨x.o,gdC e (rpC e k x.cs),y0k fun he=>y33 he (x.h (h he)) k⟩
def Xk(g:Bool):Px True:=⟨Orc.no,[g=true->g=true],fun _=>⟨id,trivial⟩⟩
def Xk'(g:Bool):Px True:=⟨Orc.no,[g=false->(!g)=true],fun _=>⟨fun h=>by simp[h],trivial⟩⟩
def Xka(e g:Bool):Ox:=⟨Orc.no,[e=true->e=true,e=true->g=true->(e&&g)=true],⟨id,fun h k=>by rw[h,k];rfl,trivial⟩⟩
def Xko(e g:Bool):Ox:=⟨Orc.no,[e=true->e=true,e=true->g=false->(e&& !g)=true],⟨id,fun h k=>by rw[h,k];rfl,trivial⟩⟩
theorem y8t{α:Type}[Inhabited α]{f:α->Tree}{l:List α}{k i r n:Nat}(h:k<l.length)(hk:k≠i):(matC (l.map f) (some (i,r,n)))[k]? =some (.t (f (l.getD k default))):=by
 simp only[matC,zy]
 rw[if_neg (fun e=>hk e.symm)]
 simp[List.getD,qa h]
def Xmm{α:Type}(f:α->Tree)(id:Nat)(n m:Int)(z:α)(zs:List Tree)(hz:TWs zs (f z).cells):Px (0<=n/\n=m/\m<=1099511627776):=
 ⟨⟨none,some [(id,.mat false ((List.replicate n.toNat z).map f) none)],some (f z),none,[(0,0)]⟩,[0<=n,n=m,m<=1099511627776,TWs zs (f z).cells,[(id,Ob.mat false ((List.replicate n.toNat z).map f) none)]=[(id,Ob.mat false (List.replicate n.toNat (f z)) none)]],
  fun h=>⟨h.1,h.2.1,h.2.2,hz,by rw[List.map_replicate],trivial⟩⟩
def Xmi{α:Type}(f:α->Tree)(l:List α)(j:Int):Px (0<=j/\j< (l.length:Int)):=⟨Orc.no,[0<=j,j< ((l.map f).length:Int)],fun h=>⟨h.1,by rw[qg];exact h.2,trivial⟩⟩
def Xml'{α:Type}[Inhabited α](f:α->Tree)(l:List α)(k i r n:Nat):Px (k<l.length/\k≠i):=⟨⟨none,none,some (f (l.getD k default)),none,[]⟩,[(matC (l.map f) (some (i,r,n)))[k]? =some (.t (f (l.getD k default)))],fun h=>⟨y8t h.1 h.2,trivial⟩⟩
def Xmh{α:Type}(f:α->Tree)(l:List α)(k i:Nat):Px (k=i/\i<l.length):=⟨Orc.no,[k=i,i< (l.map f).length],fun h=>⟨h.1,by rw[qg];exact h.2,trivial⟩⟩
def Xms{α:Type}(f:α->Tree)(l:List α)(k:Nat):Px (k<l.length):=⟨Orc.no,[k< (l.map f).length],fun h=>⟨by rw[qg];exact h,trivial⟩⟩
theorem mc_ok{α β:Type}{f:α->Tree}{g:β->Tree}{l:List α}{x:α}{o:List β}{q i k:Nat}(hq:q=o.length)(hx:f x= .lst k (o.map g)):All [q=(o.map g).length,(l.map f).set i (.lst k (o.map g))=(l.set i x).map f]:=
 ⟨by rw[qg];exact hq,by rw[List.map_set,hx],trivial⟩
theorem FC.nil{f:FuncId}{args:List AVal}{res:AVal}{st st':Store}(i k:Nat)(h:FC P f args st res st')(hi:args[i]? =some (.t (.lst k [])):=by kernel_rfl)(hk:Nat.blt 0 k=true:=by kernel_rfl):FC P f (args.set i VN) st res st':=by
 intro F m w us hS hl hv
 refine h F m w us hS (by simpa using hl) (fun j v u hj hu=> ?_)
 by_cases e:i=j
 ·subst e
  rw[hi] at hj
  cases hj
  have hlt:=(qx.1 hi).1
  have:=hv i VN u (by simp[hlt]) hu
  exact y3T (zi (qG hk)) _ _ _ _ _ this
 ·exact hv j v u (by rw[List.getElem?_set_ne e];exact hj) hu
def Xc0{p:Prop}{f:FuncId}{args:List AVal}{res:AVal}(h:FC P f args emp res emp)(x:Px p)(hc:z02 P f=true:=by kernel_rfl):Px p:=
 ⟨⟨none,none,none,some ⟨0,[],res,[]⟩,[]⟩,(z02 P f=true)::(x.cs++[FC P f args emp res emp]),fun hp=>⟨hc,z6g.2 ⟨x.h hp,h,trivial⟩⟩⟩
def z1W:Nat->List (Nat×Ob)->List (Nat×Nat)->List (Nat×Nat)
 |_,[],_=>[]
 |nid,(i,_)::l,τ=>match lk τ i with
  |some _=>z1W nid l τ
  |none=>(i,nid)::z1W (nid+1) l τ
def orL{α:Type}(o:Option (List α)):List α:=o.getD []
def orV(o:Option AVal):AVal:=o.getD .junk
def ck1(τ:List (Nat×Nat))(res:AVal)(l1:List (Nat×Ob)):Bool:=z1M (τ.map (·.1))&&z1M (τ.map (·.2))&&(z0p τ (app emp l1) τ).isSome&&(renV τ res).isSome
theorem z8W{args:List AVal}(h:renL [] args=some args):renL (inv []) args=some args:=h
theorem FC.fresh{f:FuncId}{args:List AVal}{res:AVal}{l1:List (Nat×Ob)}(τ:List (Nat×Nat))(h:FC P f args emp res (app emp l1))(ha:renL [] args=some args)(hk:ck1 τ res l1=true):
 FC P f args emp (orV (renV τ res)) (app emp (orL (z0p τ (app emp l1) τ))):=by
 simp only[ck1,qd] at hk
 obtain⟨⟨⟨k1,k2⟩,k3⟩,k4⟩:=hk
 obtain⟨l',e3⟩:=zM.1 k3
 obtain⟨r',e4⟩:=zM.1 k4
 refine FC.ren (l0:=[]) (l0':=[]) h [] τ (by simp[z1M,k1,k2]) rfl (z8W ha) rfl ?_ ?_
 ·rw[e3];rfl
 ·rw[e4];rfl
def Xc1{p:Prop}{f:FuncId}{args:List AVal}{res:AVal}{l1:List (Nat×Ob)}(nid:Nat)(h:FC P f args emp res (app emp l1))(x:Px p)(ha:renL [] args=some args:=by kernel_rfl)
 (hk:ck1 (z1W nid l1 []) res l1=true:=by kernel_rfl) (hc:z02 P f=true:=by kernel_rfl):Px p:=
 ⟨⟨none,none,none,some ⟨1,[],orV (renV (z1W nid l1 []) res),orL (z0p (z1W nid l1 []) (app emp l1) (z1W nid l1 []))⟩,[]⟩,
  (z02 P f=true)::(x.cs++[FC P f args emp (orV (renV (z1W nid l1 []) res)) (app emp (orL (z0p (z1W nid l1 []) (app emp l1) (z1W nid l1 []))))]),
  fun hp=>⟨hc,z6g.2 ⟨x.h hp,FC.fresh _ h ha hk,trivial⟩⟩⟩
def sndL:List (Nat×Nat)->List Nat
 | []=>[]
 | (_,j)::l=>j::sndL l
def ck3(τ0 τ:List (Nat×Nat))(args:List AVal)(l0:List (Nat×Ob))(res:AVal)(l1:List (Nat×Ob)):Bool:=
 (z1M (τ0.map (·.1))&&z1M (τ0.map (·.2))&&z1M (τ.map (·.1))&&z1M (τ.map (·.2))&&τ0.all (fun p=>match lk τ p.1 with|some j=>Nat.beq j p.2|none=>false))&&
  (orL (z0p τ0 (app emp l0) τ0)).all (fun x=>hasId (τ0.map (·.2)) x.1)&&(z0p τ (app emp l1) τ).isSome&&(renV τ res).isSome&&
  (orL (z0p τ0 (app emp l0) τ0)).all (fun x=>hasId ((orL (z0p τ (app emp l1) τ)).map (·.1)) x.1)
theorem y1s{a b:List (Nat×Ob)}(h:∀x∈a,x.1∈b.map (·.1)):app (app emp a) b=app emp b:=by
 funext i
 by_cases hi:i∈b.map (·.1)
 ·exact y1d (.inl hi)
 ·rw[z1q hi,z1q hi]
  refine z1q (fun hm=> ?_)
  obtain⟨x,hx,rfl⟩:=qy.1 hm
  exact hi (h x hx)
theorem FC.obj{f:FuncId}{args:List AVal}{res:AVal}{l0 l1:List (Nat×Ob)}(τ0 τ:List (Nat×Nat))(h:FC P f args (app emp l0) res (app emp l1))(hk:ck3 τ0 τ args l0 res l1=true)
 (h0:z0p (inv τ0) (app emp (orL (z0p τ0 (app emp l0) τ0))) (inv τ0)=some l0) (ha:renL (inv τ0) (orL (renL τ0 args))=some args):
 FC P f (orL (renL τ0 args)) (app emp (orL (z0p τ0 (app emp l0) τ0))) (orV (renV τ res)) (app (app emp (orL (z0p τ0 (app emp l0) τ0))) (orL (z0p τ (app emp l1) τ))):=by
 simp only[ck3,qd] at hk
 obtain⟨⟨⟨⟨k1,k2⟩,k3⟩,k4⟩,k5⟩:=hk
 obtain⟨l',e3⟩:=zM.1 k3
 obtain⟨r',e4⟩:=zM.1 k4
 rw[y1s (fun x hx=>z0C.1 (qY.1 k5 x hx))]
 refine FC.ren h τ0 τ (by simp only[qd];exact k1) h0 ha k2 ?_ ?_
 ·rw[e3];rfl
 ·rw[e4];rfl
def Xc3{p:Prop}{f:FuncId}{args:List AVal}{res:AVal}{l0 l1:List (Nat×Ob)}(nid:Nat)(τ0:List (Nat×Nat))(h:FC P f args (app emp l0) res (app emp l1))(x:Px p)
 (hk:ck3 τ0 (τ0++z1W nid l1 τ0) args l0 res l1=true:=by kernel_rfl)
 (h0:z0p (inv τ0) (app emp (orL (z0p τ0 (app emp l0) τ0))) (inv τ0)=some l0:=by kernel_rfl) (ha:renL (inv τ0) (orL (renL τ0 args))=some args:=by kernel_rfl) (hc:z02 P f=true:=by kernel_rfl):Px p:=
 ⟨⟨none,none,none,some ⟨3,sndL τ0,orV (renV (τ0++z1W nid l1 τ0) res),orL (z0p (τ0++z1W nid l1 τ0) (app emp l1) (τ0++z1W nid l1 τ0))⟩,[]⟩,
  [z02 P f=true,FC P f (orL (renL τ0 args)) (app emp (orL (z0p τ0 (app emp l0) τ0))) (orV (renV (τ0++z1W nid l1 τ0) res)) (app (app emp (orL (z0p τ0 (app emp l0) τ0))) (orL (z0p (τ0++z1W nid l1 τ0) (app emp l1) (τ0++z1W nid l1 τ0))))],
  fun hp=>⟨hc,FC.obj _ _ h hk h0 ha,trivial⟩⟩
theorem FC.objr{f:FuncId}{args:List AVal}{res:AVal}{l0:List (Nat×Ob)}(τ0:List (Nat×Nat))(h:FC P f args (app emp l0) res (app emp l0))(hk:ck3 τ0 τ0 args l0 res l0=true)
 (h0:z0p (inv τ0) (app emp (orL (z0p τ0 (app emp l0) τ0))) (inv τ0)=some l0) (ha:renL (inv τ0) (orL (renL τ0 args))=some args):
 FC P f (orL (renL τ0 args)) (app emp (orL (z0p τ0 (app emp l0) τ0))) (orV (renV τ0 res)) (app (app emp (orL (z0p τ0 (app emp l0) τ0))) []):=by
 have:=FC.obj τ0 τ0 h hk h0 ha
 simp only[ck3,qd] at hk
 rw[y1s (fun x hx=>z0C.1 (qY.1 hk.2 x hx))] at this
 exact this
def Xc4{p:Prop}{f:FuncId}{args:List AVal}{res:AVal}{l0:List (Nat×Ob)}(τ0:List (Nat×Nat))(h:FC P f args (app emp l0) res (app emp l0))(x:Px p)
 (hk:ck3 τ0 τ0 args l0 res l0=true:=by kernel_rfl)
 (h0:z0p (inv τ0) (app emp (orL (z0p τ0 (app emp l0) τ0))) (inv τ0)=some l0:=by kernel_rfl) (ha:renL (inv τ0) (orL (renL τ0 args))=some args:=by kernel_rfl) (hc:z02 P f=true:=by kernel_rfl):Px p:=
 ⟨⟨none,none,none,some ⟨3,sndL τ0,orV (renV τ0 res),[]⟩,[]⟩,
  [z02 P f=true,FC P f (orL (renL τ0 args)) (app emp (orL (z0p τ0 (app emp l0) τ0))) (orV (renV τ0 res)) (app (app emp (orL (z0p τ0 (app emp l0) τ0))) [])],
  fun hp=>⟨hc,FC.objr _ h hk h0 ha,trivial⟩⟩
theorem pr{α β:Type}{a b:α}{c d:β}(h:a=b)(k:c=d):(a,c)=(b,d):=by rw[h,k]
theorem y8u{z:Int}(h:0<=z/\z<=255):IntKind.u8.wrap z=z:=by unfold IntKind.wrap;simp[IntKind.bits,IntKind.signed];omega
theorem y1t{z:Int}(h:0<=z/\z<=4294967295):IntKind.u32.wrap z=z:=by unfold IntKind.wrap;simp[IntKind.bits,IntKind.signed];omega
theorem y1u{z:Int}(h:0<=z/\z<=2147483647):IntKind.i32.wrap z=z:=by unfold IntKind.wrap;simp[IntKind.bits,IntKind.signed];omega
def Xcv(k:IntKind)(z:Int):Px (k.wrap z=z):=⟨oV (.t (.sc (.int k z))),[Weak (.t (.sc (.int k (k.wrap z)))) (.t (.sc (.int k z)))],fun h=>⟨Weak.of_eq (by rw[h]),trivial⟩⟩
def byteT(z:Int):Tree:= .sc (.int .u8 z)
def intsB(s:ByteArray):List Int:=s.data.toList.map fun b=>(b.toNat:Int)
def Xstr(n:Nat)(l:List Int)(s:ByteArray):Px (n=l.length/\l=intsB s):=
 ⟨oE (.sc (.string s)),[n=(l.map byteT).length,l.map byteT=z5S s],fun h=>⟨by rw[qg];exact h.1,by rw[h.2];unfold intsB z5S;rw[jc];rfl,trivial⟩⟩
def Xbit(k:IntKind)(y z:Int):Px (y=z):=⟨oV (.t (.sc (.int k z))),[Weak (.t (.sc (.int k y))) (.t (.sc (.int k z)))],fun h=>⟨Weak.of_eq (by rw[h]),trivial⟩⟩
def Xsh(k:IntKind)(b y z:Int):Px (0<=b/\y=z):=⟨oV (.t (.sc (.int k z))),[0<=b,Weak (.t (.sc (.int k y))) (.t (.sc (.int k z)))],fun h=>⟨h.1,Weak.of_eq (by rw[h.2]),trivial⟩⟩
set_option maxRecDepth 100000 in
theorem y9K:∀x:_root_.Fin 256,andI .u8 ((x.val:Nat):Int) 63=(((x.val%64:Nat)):Int):=by decide
set_option maxRecDepth 100000 in
theorem y9L:∀x:_root_.Fin 64,orI .u8 128 ((x.val:Nat):Int)=((128+x.val:Nat):Int):=by decide
set_option maxRecDepth 100000 in
theorem y9M:∀x:_root_.Fin 32,orI .u8 192 ((x.val:Nat):Int)=((192+x.val:Nat):Int):=by decide
set_option maxRecDepth 100000 in
theorem y9N:∀x:_root_.Fin 16,orI .u8 224 ((x.val:Nat):Int)=((224+x.val:Nat):Int):=by decide
set_option maxRecDepth 100000 in
theorem y9O:∀x:_root_.Fin 8,orI .u8 240 ((x.val:Nat):Int)=((240+x.val:Nat):Int):=by decide
theorem and63{x:Int}(h:0<=x/\x<256):andI .u8 x 63=x%64:=by
 have:=y9K ⟨x.toNat,by omega⟩
 simp only[show((x.toNat:Nat):Int)=x by omega] at this
 rw[this];omega
theorem or128{x:Int}(h:0<=x/\x<64):orI .u8 128 x=128+x:=by
 have:=y9L ⟨x.toNat,by omega⟩
 simp only[show((x.toNat:Nat):Int)=x by omega] at this
 rw[this];omega
theorem or192{x:Int}(h:0<=x/\x<32):orI .u8 192 x=192+x:=by
 have:=y9M ⟨x.toNat,by omega⟩
 simp only[show((x.toNat:Nat):Int)=x by omega] at this
 rw[this];omega
theorem or224{x:Int}(h:0<=x/\x<16):orI .u8 224 x=224+x:=by
 have:=y9N ⟨x.toNat,by omega⟩
 simp only[show((x.toNat:Nat):Int)=x by omega] at this
 rw[this];omega
theorem or240{x:Int}(h:0<=x/\x<8):orI .u8 240 x=240+x:=by
 have:=y9O ⟨x.toNat,by omega⟩
 simp only[show((x.toNat:Nat):Int)=x by omega] at this
 rw[this];omega
theorem shr6{r:Int}:r.fdiv (2^(min (6:Int).toNat IntKind.i32.bits))=r/64:=by
 show r.fdiv 64=r/64
 exact Int.fdiv_eq_ediv_of_nonneg r (by decide)
theorem shr12{r:Int}:r.fdiv (2^(min (12:Int).toNat IntKind.i32.bits))=r/4096:=by
 show r.fdiv 4096=r/4096
 exact Int.fdiv_eq_ediv_of_nonneg r (by decide)
theorem shr18{r:Int}:r.fdiv (2^(min (18:Int).toNat IntKind.i32.bits))=r/262144:=by
 show r.fdiv 262144=r/262144
 exact Int.fdiv_eq_ediv_of_nonneg r (by decide)
theorem u8mod{r:Int}:IntKind.u8.wrap r=r%256:=by unfold IntKind.wrap;simp[IntKind.bits,IntKind.signed]
end Go.Ab
end
section
namespace Go.Ch
open Go Go.Ab
structure Attr where
 name:ByteArray
 val:ByteArray
abbrev mt:ByteArray:={data:=#[]}
instance:Inhabited Attr:=⟨⟨mt,mt⟩⟩
def attrT(a:Attr):Tree:= .agg [.sc (.string a.name),.sc (.string a.val)]
theorem y34{a b:ByteArray}(h:a.toList=b.toList):a=b:=by
 rw[ByteArray.toList_eq,ByteArray.toList_eq] at h
 obtain⟨⟨x⟩⟩:=a
 obtain⟨⟨y⟩⟩:=b
 simpa using h
theorem z0q{a b:ByteArray}:seq a b=true↔a=b:=by
 unfold seq
 rw[beq_iff_eq]
 exact⟨y34,fun h=>by rw[h]⟩
theorem z0H{a b:ByteArray}:seq a b=false↔a≠b:=by
 rw[<-Bool.not_eq_true,z0q]
theorem y7M:∀x:List UInt8,Op.bytesLess x x=false
 | []=>rfl
 |a::x=>by simp[Op.bytesLess,y7M x]
theorem y1v:∀x y z:List UInt8,Op.bytesLess x y=true->Op.bytesLess y z=true->Op.bytesLess x z=true
 |_,_,[],_,h=>by cases‹List UInt8›<;>simp[Op.bytesLess] at h
 | [],_,_::_,_,_=>rfl
 |a::x,[],_::_,h,_=>by simp[Op.bytesLess] at h
 |a::x,b::y,c::z,h1,h2=>by
  simp only[Op.bytesLess,qS,decide_eq_true_eq,qd,beq_iff_eq,UInt8.lt_iff_toNat_lt,<-UInt8.toNat_inj] at h1 h2|-
  rcases h1 with h1| ⟨h1,h1'⟩
  ·rcases h2 with h2| ⟨h2,h2'⟩<;>(left;omega)
  ·rcases h2 with h2| ⟨h2,h2'⟩
   ·left;omega
   ·right;exact⟨by omega,y1v x y z h1' h2'⟩
theorem y7N:∀x y:List UInt8,Op.bytesLess x y=false->Op.bytesLess y x=false->x=y
 | [],[],_,_=>rfl
 | [],_::_,h,_=>by simp[Op.bytesLess] at h
 |_::_,[],_,h=>by simp[Op.bytesLess] at h
 |a::x,b::y,h1,h2=>by
  simp only[Op.bytesLess,zQ,decide_eq_false_iff_not,qz,beq_eq_false_iff_ne,UInt8.lt_iff_toNat_lt,ne_eq,<-UInt8.toNat_inj] at h1 h2
  have e:a.toNat=b.toNat:=by omega
  have h1':Op.bytesLess x y=false:=by rcases h1.2 with h|h;exact absurd e h;exact h
  have h2':Op.bytesLess y x=false:=by rcases h2.2 with h|h;exact absurd e.symm h;exact h
  rw[UInt8.toNat_inj.1 e,y7N x y h1' h2']
theorem y0l(a:ByteArray):slt a a=false:=y7M _
theorem z2c{a b c:ByteArray}(h:slt a b=true)(k:slt b c=true):slt a c=true:=y1v _ _ _ h k
theorem z7L{a b:ByteArray}(h:slt a b=false)(k:slt b a=false):a=b:=y34 (y7N _ _ h k)
theorem z1r{a b:ByteArray}(h:slt a b=true):a≠b:=fun e=>by subst e;rw[y0l] at h;cases h
theorem y35{a b:ByteArray}(h:slt a b=true):slt b a=false:=by
 cases k:slt b a with
 |false=>rfl
 |true=>have:=z2c h k;rw[y0l] at this;cases this
def Above(n:ByteArray)(l:List Attr):Prop:=∀a∈l,slt n a.name=true
def z1c:List Attr->Prop
 | []=>True
 |a::l=>Above a.name l/\z1c l
def look:List Attr->ByteArray->Option ByteArray
 | [],_=>none
 |a::l,n=>if a.name=n then some a.val else look l n
theorem z0I{l:List Attr}{n:ByteArray}(h:∀a∈l,a.name≠n):look l n=none:=by
 induction l with
 |nil=>rfl
 |cons a l ih=>rw[look,if_neg (h a (by simp))];exact ih (fun b hb=>h b (by simp[hb]))
theorem y6o{l:List Attr}{n v:ByteArray}(h:look l n=some v):(⟨n,v⟩:Attr)∈l:=by
 induction l with
 |nil=>cases h
 |cons a l ih=>
  rw[look] at h
  split at h
  ·rename_i hn
   cases h
   subst hn
   exact List.mem_cons_self
  ·exact qJ _ (ih h)
theorem z6h{l:List Attr}(hs:z1c l){a:Attr}(h:a∈l):look l a.name=some a.val:=by
 induction l with
 |nil=>cases h
 |cons b l ih=>
  rw[look]
  rcases qn.1 h with rfl|h
  ·rw[if_pos rfl]
  ·rw[if_neg (z1r (hs.1 a h))];exact ih hs.2 h
theorem z2K:∀{a b:List Attr},z1c a->z1c b->(∀n,look a n=look b n)->a=b
 | [],[],_,_,_=>rfl
 | [],y::b,_,_,h=>by have:=h y.name;simp[look] at this
 |x::a,[],_,_,h=>by have:=h x.name;simp[look] at this
 |x::a,y::b,ha,hb,h=>by
  have hxy:x.name=y.name:=by
   refine z7L ?_ ?_
   ·cases k:slt x.name y.name with
    |false=>rfl
    |true=>
     have h1:=h x.name
     rw[look,if_pos rfl,look,if_neg (fun e=>z1r k e.symm),z0I (fun z hz e=>z1r (z2c k (hb.1 z hz)) e.symm)] at h1
     cases h1
   ·cases k:slt y.name x.name with
    |false=>rfl
    |true=>
     have h1:=h y.name
     rw[look,if_neg (fun e=>z1r k e.symm),z0I (fun z hz e=>z1r (z2c k (ha.1 z hz)) e.symm),look,if_pos rfl] at h1
     cases h1
  have hv:x.val=y.val:=by
   have h1:=h x.name
   rw[look,if_pos rfl,look,if_pos hxy.symm] at h1
   exact Option.some.inj h1
  have e:x=y:=by cases x;cases y;simp_all
  subst e
  rw[z2K ha.2 hb.2 (fun n=> ?_)]
  by_cases hn:x.name=n
  ·subst hn
   rw[z0I (fun z hz e=>z1r (ha.1 z hz) e.symm),z0I (fun z hz e=>z1r (hb.1 z hz) e.symm)]
  ·have h1:=h n
   rwa [look,if_neg hn,look,if_neg hn] at h1
def bothL:List Attr->List Attr->List (Attr×Attr)
 | [],[]=>[]
 | [],y::b=>(default,y)::bothL [] b
 |x::a,[]=>(x,default)::bothL a []
 |x::a,y::b=>
  if slt x.name y.name=true then(x,default)::bothL a (y::b)
  else if slt y.name x.name=true then(default,y)::bothL (x::a) b
  else(x,y)::bothL a b
termination_by a b=>a.length+b.length
theorem y36:∀a b:List Attr,(bothL a b).length<=a.length+b.length:=by
 intro a b
 induction a,b using bothL.induct with
 |case1=>simp[bothL]
 |case2 y b ih=>simp only[bothL,qi] at ih|-;omega
 |case3 x a ih=>simp only[bothL,qi] at ih|-;omega
 |case4 x a y b h ih=>rw[bothL,if_pos h];simp only[qi] at ih|-;omega
 |case5 x a y b h k ih=>rw[bothL,if_neg h,if_pos k];simp only[qi] at ih|-;omega
 |case6 x a y b h k ih=>rw[bothL,if_neg h,if_neg k];simp only[qi] at ih|-;omega
def Named(l:List Attr):Prop:=∀a∈l,a.name≠mt
def Fair(g:Attr->Attr->Option Attr):Prop:=∀x y z,g x y=some z->z.name=if y.name=mt then x.name else y.name
def fm(g:Attr->Attr->Option Attr)(a b:List Attr):List Attr:=(bothL a b).filterMap fun p=>g p.1 p.2
def at2(g:Attr->Attr->Option Attr)(n:ByteArray):Option ByteArray->Option ByteArray->Option ByteArray
 |none,none=>none
 |some v,none=>(g ⟨n,v⟩ default).map (·.val)
 |none,some w=>(g default ⟨n,w⟩).map (·.val)
 |some v,some w=>(g ⟨n,v⟩ ⟨n,w⟩).map (·.val)
theorem z2d{g:Attr->Attr->Option Attr}{x y:Attr}{l:List (Attr×Attr)}:((x,y)::l).filterMap (fun p=>g p.1 p.2)=(g x y).toList++l.filterMap (fun p=>g p.1 p.2):=by
 rw[List.filterMap_cons]
 cases g x y<;>rfl
theorem z4o{o:Option Attr}{l:List Attr}{k n:ByteArray}(h:∀z,o=some z->z.name=k):look (o.toList++l) n=if k=n then(o.map (·.val)).or (look l n) else look l n:=by
 cases o with
 |none=>simp
 |some z=>
  have:=h z rfl
  subst this
  simp[look]
theorem z3o{o:Option Attr}{l:List Attr}{k n:ByteArray}(h:∀z,o=some z->z.name=k)(hn:slt n k=true)(hl:Above n l):Above n (o.toList++l):=by
 intro a ha
 rcases qm.1 ha with ha|ha
 ·rw[h a (by simpa using ha)];exact hn
 ·exact hl a ha
theorem z2L{o:Option Attr}{l:List Attr}{k:ByteArray}(h:∀z,o=some z->z.name=k)(hl:Above k l)(hs:z1c l):z1c (o.toList++l):=by
 cases o with
 |none=>exact hs
 |some z=>exact⟨by rw[h z rfl];exact hl,hs⟩
theorem z7M{a:Attr}{l:List Attr}:look (a::l) a.name=some a.val:=by rw[look,if_pos rfl]
theorem z7N{a:Attr}{l:List Attr}{n:ByteArray}(h:a.name≠n):look (a::l) n=look l n:=by rw[look,if_neg h]
theorem y37{g:Attr->Attr->Option Attr}(hg:Fair g):∀(a b:List Attr),z1c a->z1c b->Named a->Named b->
 z1c (fm g a b)/\(∀n,Above n a->Above n b->Above n (fm g a b))/\∀n,look (fm g a b) n=at2 g n (look a n) (look b n):=by
 intro a b
 induction a,b using bothL.induct with
 |case1=>intro _ _ _ _;exact⟨by simp[fm,bothL,z1c],fun n _ _=>by simp[fm,bothL,Above],fun n=>by simp[fm,bothL,look,at2]⟩
 |case2 y b ih=>
  intro _ hb _ nb
  obtain⟨i1,i2,i3⟩:=ih trivial hb.2 (fun _ h=>by cases h) (fun a h=>nb a (by simp[h]))
  have hk:∀z,g default y=some z->z.name=y.name:=fun z hz=>by rw[hg _ _ z hz,if_neg (nb y (by simp))]
  have e:fm g [] (y::b)=(g default y).toList++fm g [] b:=by unfold fm;rw[bothL,z2d]
  rw[e]
  refine⟨z2L hk (i2 _ (fun _ h=>by cases h) hb.1) i1,fun n h1 h2=>z3o hk (h2 y (by simp)) (i2 n h1 (fun a h=>h2 a (by simp[h]))),fun n=> ?_⟩
  rw[z4o hk,i3]
  simp only[look]
  by_cases h:y.name=n
  ·subst h
   rw[z0I (l:=b) (fun z hz e=>z1r (hb.1 z hz) e.symm)]
   simp[at2]
  ·simp only[if_neg h]
 |case3 x a ih=>
  intro ha _ na _
  obtain⟨i1,i2,i3⟩:=ih ha.2 trivial (fun a h=>na a (by simp[h])) (fun _ h=>by cases h)
  have hk:∀z,g x default=some z->z.name=x.name:=fun z hz=>by rw[hg _ _ z hz];exact if_pos rfl
  have e:fm g (x::a) []=(g x default).toList++fm g a []:=by unfold fm;rw[bothL,z2d]
  rw[e]
  refine⟨z2L hk (i2 _ ha.1 (fun _ h=>by cases h)) i1,fun n h1 h2=>z3o hk (h1 x (by simp)) (i2 n (fun a h=>h1 a (by simp[h])) h2),fun n=> ?_⟩
  rw[z4o hk,i3]
  simp only[look]
  by_cases h:x.name=n
  ·subst h
   rw[z0I (l:=a) (fun z hz e=>z1r (ha.1 z hz) e.symm)]
   simp[at2]
  ·simp only[if_neg h]
 |case4 x a y b h ih=>
  intro ha hb na nb
  obtain⟨i1,i2,i3⟩:=ih ha.2 hb (fun a h=>na a (by simp[h])) nb
  have hk:∀z,g x default=some z->z.name=x.name:=fun z hz=>by rw[hg _ _ z hz];exact if_pos rfl
  have e:fm g (x::a) (y::b)=(g x default).toList++fm g a (y::b):=by unfold fm;rw[bothL,if_pos h,z2d]
  have hxb:Above x.name (y::b):=fun z hz=>by
   rcases qn.1 hz with rfl|hz
   ·exact h
   ·exact z2c h (hb.1 z hz)
  rw[e]
  refine⟨z2L hk (i2 _ ha.1 hxb) i1,fun n h1 h2=>z3o hk (h1 x (by simp)) (i2 n (fun a h=>h1 a (by simp[h])) h2),fun n=> ?_⟩
  rw[z4o hk,i3]
  by_cases hn:x.name=n
  ·subst hn
   rw[z0I (l:=y::b) (fun z hz e=>z1r (hxb z hz) e.symm),z0I (l:=a) (fun z hz e=>z1r (ha.1 z hz) e.symm),z7M]
   simp[at2]
  ·rw[if_neg hn,z7N hn]
 |case5 x a y b h k ih=>
  intro ha hb na nb
  obtain⟨i1,i2,i3⟩:=ih ha hb.2 na (fun a h=>nb a (by simp[h]))
  have hk:∀z,g default y=some z->z.name=y.name:=fun z hz=>by rw[hg _ _ z hz,if_neg (nb y (by simp))]
  have e:fm g (x::a) (y::b)=(g default y).toList++fm g (x::a) b:=by unfold fm;rw[bothL,if_neg h,if_pos k,z2d]
  have hya:Above y.name (x::a):=fun z hz=>by
   rcases qn.1 hz with rfl|hz
   ·exact k
   ·exact z2c k (ha.1 z hz)
  rw[e]
  refine⟨z2L hk (i2 _ hya hb.1) i1,fun n h1 h2=>z3o hk (h2 y (by simp)) (i2 n h1 (fun a h=>h2 a (by simp[h]))),fun n=> ?_⟩
  rw[z4o hk,i3]
  by_cases hn:y.name=n
  ·subst hn
   rw[z0I (l:=x::a) (fun z hz e=>z1r (hya z hz) e.symm),z0I (l:=b) (fun z hz e=>z1r (hb.1 z hz) e.symm),z7M]
   simp[at2]
  ·rw[if_neg hn,z7N (a:=y) hn]
 |case6 x a y b h k ih=>
  intro ha hb na nb
  obtain⟨i1,i2,i3⟩:=ih ha.2 hb.2 (fun a h=>na a (by simp[h])) (fun a h=>nb a (by simp[h]))
  have hxy:x.name=y.name:=z7L (by simpa using h) (by simpa using k)
  have hk:∀z,g x y=some z->z.name=x.name:=fun z hz=>by rw[hg _ _ z hz,if_neg (nb y (by simp)),hxy]
  have e:fm g (x::a) (y::b)=(g x y).toList++fm g a b:=by unfold fm;rw[bothL,if_neg h,if_neg k,z2d]
  rw[e]
  refine⟨z2L hk (i2 _ ha.1 (by rw[hxy];exact hb.1)) i1,fun n h1 h2=>z3o hk (h1 x (by simp)) (i2 n (fun a h=>h1 a (by simp[h])) (fun a h=>h2 a (by simp[h]))),fun n=> ?_⟩
  rw[z4o hk,i3]
  by_cases hn:x.name=n
  ·subst hn
   have ey:(⟨x.name,y.val⟩:Attr)=y:=by rw[hxy]
   have hl:look (y::b) x.name=some y.val:=by rw[hxy];exact z7M
   rw[hl,z7M,z0I (l:=a) (fun z hz e=>z1r (ha.1 z hz) e.symm),z0I (l:=b) (fun z hz e=>z1r (hb.1 z hz) (by rw[<-hxy,e]))]
   simp[at2,ey]
  ·rw[if_neg hn,z7N hn,z7N (a:=y) (by rw[<-hxy];exact hn)]
theorem dflt:(default:Attr)=⟨mt,mt⟩:=rfl
def rawG(x y:Attr):Option Attr:=if y.name=mt then some x else if y.val=mt then none else some y
def chgG(x y:Attr):Option Attr:=if y.name=mt then some ⟨x.name,mt⟩ else if x.name=y.name/\x.val=y.val then none else some y
def botG(x y:Attr):Option Attr:=some (if y.name=mt then x else y)
def wioG(x y:Attr):Option Attr:=if y.name=mt then some x else none
theorem z1d:Fair rawG:=by intro x y z h;unfold rawG at h;(repeat' split at h)<;>simp_all
theorem z7O:Fair chgG:=by intro x y z h;unfold chgG at h;(repeat' split at h)<;>simp_all<;>subst h<;>simp_all
theorem y1w:Fair botG:=by intro x y z h;unfold botG at h;(repeat' split at h)<;>simp_all
theorem y1x:Fair wioG:=by intro x y z h;unfold wioG at h;(repeat' split at h)<;>simp_all
section
variable (NP VP:ByteArray->Prop)
def Q(e:Bool)(n v:ByteArray):Prop:=NP n/\(VP v\/(e=true/\v=mt))
def V(e:Bool)(l:List Attr):Prop:=z1c l/\∀a∈l,Q NP VP e a.name a.val
end
section
variable {NP VP:ByteArray->Prop} (hN:¬NP mt) (hV:¬VP mt)
include hN
theorem V.named{e:Bool}{l:List Attr}(h:V NP VP e l):Named l:=fun a ha e'=>hN (by have:=(h.2 a ha).1;rwa [e'] at this)
omit hN in
theorem V.look{e:Bool}{l:List Attr}(h:V NP VP e l){n v:ByteArray}(hl:look l n=some v):Q NP VP e n v:=h.2 ⟨n,v⟩ (y6o hl)
theorem z1j{e1 e2:Bool}{g:Attr->Attr->Option Attr}(hg:Fair g){a b:List Attr}(ha:V NP VP e1 a)(hb:V NP VP e2 b)(n:ByteArray):
 Go.Ch.look (fm g a b) n=at2 g n (Go.Ch.look a n) (Go.Ch.look b n):=(y37 hg a b ha.1 hb.1 (ha.named hN) (hb.named hN)).2.2 n
theorem fm_V{e1 e2 e3:Bool}{g:Attr->Attr->Option Attr}(hg:Fair g){a b:List Attr}(ha:V NP VP e1 a)(hb:V NP VP e2 b)
 (h1:∀n v z,n≠mt->Q NP VP e1 n v->at2 g n (some v) none=some z->Q NP VP e3 n z)
 (h2:∀n v z,n≠mt->Q NP VP e2 n v->at2 g n none (some v)=some z->Q NP VP e3 n z)
 (h3:∀n v w z,n≠mt->Q NP VP e1 n v->Q NP VP e2 n w->at2 g n (some v) (some w)=some z->Q NP VP e3 n z):V NP VP e3 (fm g a b):=by
 have hm:=y37 hg a b ha.1 hb.1 (ha.named hN) (hb.named hN)
 refine⟨hm.1,fun z hz=> ?_⟩
 have hl:=z6h hm.1 hz
 rw[hm.2.2] at hl
 have hq:∀{e v},Q NP VP e z.name v->z.name≠mt:=fun q e=>hN (e▸q.1)
 cases h4:Go.Ch.look a z.name with
 |none=>
  cases h5:Go.Ch.look b z.name with
  |none=>rw[h4,h5] at hl;cases hl
  |some w=>rw[h4,h5] at hl;exact h2 _ _ _ (hq (hb.look h5)) (hb.look h5) hl
 |some v=>
  cases h5:Go.Ch.look b z.name with
  |none=>rw[h4,h5] at hl;exact h1 _ _ _ (hq (ha.look h4)) (ha.look h4) hl
  |some w=>rw[h4,h5] at hl;exact h3 _ _ _ _ (hq (ha.look h4)) (ha.look h4) (hb.look h5) hl
theorem q_ne{e:Bool}{n v:ByteArray}(h:Q NP VP e n v):n≠mt:=fun e=>hN (e▸h.1)
theorem raw_V{l c:List Attr}(hl:V NP VP false l)(hc:V NP VP true c):V NP VP false (fm rawG l c):=by
 refine fm_V hN z1d hl hc (fun n v z hn q h=> ?_) (fun n v z hn q h=> ?_) (fun n v w z hn q r h=> ?_)
 ·simp[at2,rawG,dflt] at h;subst h;exact q
 ·simp[at2,rawG,dflt,hn] at h;obtain⟨_,⟨h1,rfl⟩,rfl⟩:=h;simp_all[Q]
 ·simp[at2,rawG,dflt,hn] at h;obtain⟨_,⟨h1,rfl⟩,rfl⟩:=h;simp_all[Q]
theorem chg_V{a b:List Attr}(ha:V NP VP false a)(hb:V NP VP false b):V NP VP true (fm chgG a b):=by
 refine fm_V hN z7O ha hb (fun n v z hn q h=> ?_) (fun n v z hn q h=> ?_) (fun n v w z hn q r h=> ?_)
 ·simp[at2,chgG,dflt] at h;subst h;exact⟨q.1,.inr ⟨rfl,rfl⟩⟩
 ·simp[at2,chgG,dflt,hn] at h;obtain⟨_,⟨h1,rfl⟩,rfl⟩:=h;simp_all[Q]
 ·simp[at2,chgG,dflt,hn] at h;obtain⟨_,⟨h1,rfl⟩,rfl⟩:=h;simp_all[Q]
theorem bot_V{a b:List Attr}(ha:V NP VP true a)(hb:V NP VP true b):V NP VP true (fm botG a b):=by
 refine fm_V hN y1w ha hb (fun n v z hn q h=> ?_) (fun n v z hn q h=> ?_) (fun n v w z hn q r h=> ?_)
 ·simp[at2,botG,dflt] at h;subst h;exact q
 ·simp[at2,botG,dflt,hn] at h;subst h;exact q
 ·simp[at2,botG,dflt,hn] at h;subst h;exact r
theorem wio_V{a b:List Attr}(ha:V NP VP true a)(hb:V NP VP true b):V NP VP true (fm wioG a b):=by
 refine fm_V hN y1x ha hb (fun n v z hn q h=> ?_) (fun n v z hn q h=> ?_) (fun n v w z hn q r h=> ?_)
 ·simp[at2,wioG,dflt] at h;subst h;exact q
 ·simp[at2,wioG,dflt,hn] at h
 ·simp[at2,wioG,dflt,hn] at h
include hV
omit hN in
theorem q_val{n v:ByteArray}(h:Q NP VP false n v):v≠mt:=fun e=>by
 rcases h.2 with h|h
 ·exact hV (e▸h)
 ·cases h.1
theorem z4p{a b:List Attr}(ha:V NP VP false a)(hb:V NP VP false b):fm rawG a (fm chgG a b)=b:=by
 have hc:=chg_V hN ha hb
 refine z2K (raw_V hN ha hc).1 hb.1 (fun n=> ?_)
 rw[z1j hN z1d ha hc,z1j hN z7O ha hb]
 cases h1:look a n with
 |none=>
  cases h2:look b n with
  |none=>rfl
  |some w=>
   have hn:=q_ne hN (hb.look h2)
   have hw:=q_val hV (hb.look h2)
   simp[at2,rawG,chgG,dflt,hn,hw,Ne.symm hn]
 |some v=>
  have hn:=q_ne hN (ha.look h1)
  cases h2:look b n with
  |none=>simp[at2,rawG,chgG,dflt,hn]
  |some w=>
   have hw:=q_val hV (hb.look h2)
   by_cases hwv:v=w
   ·subst hwv;simp[at2,rawG,chgG,dflt,hn,hw]
   ·simp[at2,rawG,chgG,dflt,hn,hw,hwv]
theorem z6i{a b:List Attr}(ha:V NP VP false a)(hb:V NP VP false b){x:Attr}(hx:x∈fm chgG a b):(look a x.name).getD mt≠(look b x.name).getD mt:=by
 have hc:=chg_V hN ha hb
 have hl:=z6h hc.1 hx
 rw[z1j hN z7O ha hb] at hl
 cases h1:look a x.name with
 |none=>
  cases h2:look b x.name with
  |none=>rw[h1,h2] at hl;cases hl
  |some w=>exact fun e=>q_val hV (hb.look h2) e.symm
 |some v=>
  cases h2:look b x.name with
  |none=>exact q_val hV (ha.look h1)
  |some w=>
   rw[h1,h2] at hl
   intro e
   simp only[Option.getD_some] at e
   subst e
   simp[at2,chgG,q_ne hN (ha.look h1)] at hl
omit hV in
theorem y2Q{l a b:List Attr}(hl:V NP VP false l)(ha:V NP VP true a)(hb:V NP VP true b):fm rawG (fm rawG l a) b=fm rawG (fm rawG l b) (fm wioG a b):=by
 have h1:=raw_V hN hl ha
 have h2:=raw_V hN hl hb
 have h3:=wio_V hN ha hb
 refine z2K (raw_V hN h1 hb).1 (raw_V hN h2 h3).1 (fun n=> ?_)
 rw[z1j hN z1d h1 hb,z1j hN z1d h2 h3,z1j hN z1d hl ha,z1j hN z1d hl hb,z1j hN y1x ha hb]
 cases k2:look a n with
 |none=>
  cases k3:look b n with
  |none=>cases look l n<;>simp[at2,rawG,dflt]
  |some w=>
   have hn:=q_ne hN (hb.look k3)
   by_cases hw:w=mt<;>cases look l n<;>simp[at2,rawG,wioG,dflt,hn,hw]
 |some v=>
  have hn:=q_ne hN (ha.look k2)
  cases k3:look b n with
  |none=>by_cases hv:v=mt<;>cases look l n<;>simp[at2,rawG,wioG,dflt,hn,hv]
  |some w=>by_cases hv:v=mt<;>by_cases hw:w=mt<;>cases look l n<;>simp[at2,rawG,wioG,dflt,hn,hv,hw]
omit hV in
theorem y38{l a b:List Attr}(hl:V NP VP false l)(ha:V NP VP true a)(hb:V NP VP true b):fm rawG l (fm botG a b)=fm rawG (fm rawG l a) b:=by
 have h1:=raw_V hN hl ha
 have h3:=bot_V hN ha hb
 refine z2K (raw_V hN hl h3).1 (raw_V hN h1 hb).1 (fun n=> ?_)
 rw[z1j hN z1d h1 hb,z1j hN z1d hl h3,z1j hN z1d hl ha,z1j hN y1w ha hb]
 cases k2:look a n with
 |none=>
  cases k3:look b n with
  |none=>cases look l n<;>simp[at2,rawG,dflt]
  |some w=>
   have hn:=q_ne hN (hb.look k3)
   by_cases hw:w=mt<;>cases look l n<;>simp[at2,rawG,botG,dflt,hn,hw]
 |some v=>
  have hn:=q_ne hN (ha.look k2)
  cases k3:look b n with
  |none=>by_cases hv:v=mt<;>cases look l n<;>simp[at2,rawG,botG,dflt,hn,hv]
  |some w=>by_cases hv:v=mt<;>by_cases hw:w=mt<;>cases look l n<;>simp[at2,rawG,botG,dflt,hn,hv,hw]
end
end Go.Ch
end
section
set_option maxRecDepth 100000
set_option maxHeartbeats 4000000
open Go Go.Proofs Go.Ab
namespace Go.Ch
theorem z3T{s:ByteArray}:seq s {data:=#[]}=decide (s.size=0):=by
 by_cases h:s.size=0
 ·rw[decide_eq_true h,z0q]
  obtain⟨⟨l⟩⟩:=s
  cases l with
  |nil=>rfl
  |cons a l=>simp[ByteArray.size] at h
 ·rw[decide_eq_false h,z0H]
  intro e;subst e;exact h rfl
theorem z7P{s:ByteArray}(h:seq s {data:=#[]}=false):(0:Int)< (s.size:Int):=by
 rw[z3T,decide_eq_false_iff_not] at h;omega
def byt(s:ByteArray)(i:Nat):Nat:=((s[i]?).getD 0).toNat
def badC(b:Nat):Prop:=(b<97\/122<b)/\(b<48\/57<b)/\b≠46/\b≠45
instance (b:Nat):Decidable (badC b):=by unfold badC;infer_instance
def nmS(s:ByteArray)(i:Nat):Bool:=if i<s.size then(if badC (byt s i) then false else nmS s (i+1)) else true
termination_by s.size-i
def z1k(s:ByteArray):Bool:=decide (1<=s.size/\s.size<=24/\97<=byt s 0/\byt s 0<=122)&&nmS s 0
def vlS(s:ByteArray)(i:Nat):Bool:=if i<s.size then(if byt s i<32\/126<byt s i then false else vlS s (i+1)) else true
termination_by s.size-i
def valGo(s:ByteArray):Bool:=decide (1<=s.size/\s.size<=200)&&vlS s 0
def nmR(s:ByteArray)(i:Nat):Bool:=if i<s.size then(if(byt s i<97\/122<byt s i)/\(i=0\/(byt s i≠46/\byt s i≠45/\(byt s i<48\/57<byt s i))) then false else nmR s (i+1)) else true
termination_by s.size-i
def z4q(s:ByteArray):Bool:=nmR s 0&&decide (1<=s.size/\s.size<=24)
def valRf(s:ByteArray):Bool:=vlS s 0&&decide (1<=s.size/\s.size<=200)
theorem y8v(s:ByteArray)(i:Nat)(h:0<i):nmR s i=nmS s i:=by
 induction i using nmS.induct (s:=s) with
 |case1 i hi hb=>rw[nmR,nmS,if_pos hi,if_pos hi,if_pos hb,if_pos];unfold badC at hb;omega
 |case2 i hi hb ih=>rw[nmR,nmS,if_pos hi,if_pos hi,if_neg hb,if_neg];exact ih (by omega);unfold badC at hb;omega
 |case3 i hi=>rw[nmR,nmS,if_neg hi,if_neg hi]
theorem y39(s:ByteArray):z4q s=z1k s:=by
 unfold z4q z1k
 by_cases h:1<=s.size
 ·rw[nmR,if_pos (by omega),y8v s (0+1) (by omega)]
  by_cases h2:97<=byt s 0/\byt s 0<=122
  ·have e:nmS s 0=nmS s (0+1):=by rw[nmS,if_pos (by omega),if_neg (by unfold badC;omega)]
   rw[if_neg (by omega),e,Bool.and_comm]
   congr 1
   simp[h2]
  ·rw[if_pos (by omega),decide_eq_false (by omega:¬(1<=s.size/\s.size<=24/\97<=byt s 0/\byt s 0<=122))]
   simp
 ·rw[decide_eq_false (by omega),decide_eq_false (by omega)];simp
theorem y6p(s:ByteArray):valRf s=valGo s:=by unfold valRf valGo;rw[Bool.and_comm]
theorem byt0(s:ByteArray)(i:Nat):((s[i]?).getD 0).toNat=byt s i:=rfl
theorem y0m(s:ByteArray):FC Tryz.prog 178 [VS s] (app emp []) (VB (z1k s)) (app emp []):=by
 refine .go Tryz.f178 ?_
 refine .bp [.r [],.r [(4,Xv 1 (!(seq s ({data:=#[]}))) X0),(5,Xv 1 (!(seq s ({data:=#[]}))) X0),(6,X (Xk' (seq s ({data:=#[]})))),(9,Xv 1 (!(seq s ({data:=#[]})||decide ((s.size:Int)> 24))) (Xb s 0) (fun hg=>by(try simp only[decide_eq_true_eq,decide_eq_false_iff_not,zk,zl,gt_iff_lt,qv,qI,qS,zQ] at hg);exact⟨(by first|omega| (simp;omega)| (simp;done)|assumption),(z7P (by first|exact hg|exact hg.1|exact hg.1.1))⟩)),(10,Xv 1 (!(seq s ({data:=#[]})||decide ((s.size:Int)> 24))) X0),(11,X (Xk' (seq s ({data:=#[]})||decide ((s.size:Int)> 24)))),(14,Xv 1 (!((seq s ({data:=#[]})||decide ((s.size:Int)> 24))||decide (((((s[0]?).getD 0).toNat:Nat):Int)< 97))) (Xb s 0) (fun hg=>by(try simp only[decide_eq_true_eq,decide_eq_false_iff_not,zk,zl,gt_iff_lt,qv,qI,qS,zQ] at hg);exact⟨(by first|omega| (simp;omega)| (simp;done)|assumption),(z7P (by first|exact hg|exact hg.1|exact hg.1.1))⟩)),(15,Xv 1 (!((seq s ({data:=#[]})||decide ((s.size:Int)> 24))||decide (((((s[0]?).getD 0).toNat:Nat):Int)< 97))) X0),(16,X (Xk' ((seq s ({data:=#[]})||decide ((s.size:Int)> 24))||decide (((((s[0]?).getD 0).toNat:Nat):Int)< 97))))]] (((seq s ({data:=#[]})||decide ((s.size:Int)> 24))||decide (((((s[0]?).getD 0).toNat:Nat):Int)< 97))||decide (((((s[0]?).getD 0).toNat:Nat):Int)> 122)) (fun h1=> ?_) (fun h1=> ?_)
 ·
  have e1:((z1k s):Bool)=false:=by
   simp only[byt0,z3T,decide_eq_true_eq] at h1;unfold z1k;rw[decide_eq_false (by omega)];rfl
  exact .finE [.r []] [] (fun z0:Bool=>(VB z0,[])) _ _ e1
 ·
  refine .loop (α:=Nat) [.r []] 168 (fun i=>([(0,VS s),(23,VI (s.size:Int)),(24,VI (i:Int))],[])) (fun i=>i<=s.size/\nmS s 0=nmS s i) (fun i=>s.size-i) (0:Nat) ?_ ?_
  ·
   exact⟨by omega,rfl⟩
  rintro i I4 ih4
  try dsimp only at I4
  refine .bp [.r []] (decide ((i:Int)< (s.size:Int))) (fun h4=> ?_) (fun h4=> ?_)
  ·
   refine .bp [.r [],.r [(2,X (Xb s (i:Int)))],.r [(4,Xv 1 (!(decide (((((s[i]?).getD 0).toNat:Nat):Int)< 97))) X0),(5,X (Xk' (decide (((((s[i]?).getD 0).toNat:Nat):Int)< 97)))),(8,Xv 1 (decide (((((s[i]?).getD 0).toNat:Nat):Int)< 97)||decide (((((s[i]?).getD 0).toNat:Nat):Int)> 122)) X0),(9,Xv 1 (decide (((((s[i]?).getD 0).toNat:Nat):Int)< 97)||decide (((((s[i]?).getD 0).toNat:Nat):Int)> 122)) X0),(11,Xv 1 ((decide (((((s[i]?).getD 0).toNat:Nat):Int)< 97)||decide (((((s[i]?).getD 0).toNat:Nat):Int)> 122))&& !(decide (((((s[i]?).getD 0).toNat:Nat):Int)< 48))) X0),(12,Xko (decide (((((s[i]?).getD 0).toNat:Nat):Int)< 97)||decide (((((s[i]?).getD 0).toNat:Nat):Int)> 122)) (decide (((((s[i]?).getD 0).toNat:Nat):Int)< 48))),(13,X (Xk (decide (((((s[i]?).getD 0).toNat:Nat):Int)< 97)||decide (((((s[i]?).getD 0).toNat:Nat):Int)> 122)))),(16,Xv 1 ((decide (((((s[i]?).getD 0).toNat:Nat):Int)< 97)||decide (((((s[i]?).getD 0).toNat:Nat):Int)> 122))&&(decide (((((s[i]?).getD 0).toNat:Nat):Int)< 48)||decide (((((s[i]?).getD 0).toNat:Nat):Int)> 57))) X0),(17,X (Xk ((decide (((((s[i]?).getD 0).toNat:Nat):Int)< 97)||decide (((((s[i]?).getD 0).toNat:Nat):Int)> 122))&&(decide (((((s[i]?).getD 0).toNat:Nat):Int)< 48)||decide (((((s[i]?).getD 0).toNat:Nat):Int)> 57))))),(20,Xv 1 (((decide (((((s[i]?).getD 0).toNat:Nat):Int)< 97)||decide (((((s[i]?).getD 0).toNat:Nat):Int)> 122))&&(decide (((((s[i]?).getD 0).toNat:Nat):Int)< 48)||decide (((((s[i]?).getD 0).toNat:Nat):Int)> 57)))&&(((((s[i]?).getD 0).toNat:Nat):Int) !=46)) X0),(21,X (Xk (((decide (((((s[i]?).getD 0).toNat:Nat):Int)< 97)||decide (((((s[i]?).getD 0).toNat:Nat):Int)> 122))&&(decide (((((s[i]?).getD 0).toNat:Nat):Int)< 48)||decide (((((s[i]?).getD 0).toNat:Nat):Int)> 57)))&&(((((s[i]?).getD 0).toNat:Nat):Int) !=46))))]] ((((decide (((((s[i]?).getD 0).toNat:Nat):Int)< 97)||decide (((((s[i]?).getD 0).toNat:Nat):Int)> 122))&&(decide (((((s[i]?).getD 0).toNat:Nat):Int)< 48)||decide (((((s[i]?).getD 0).toNat:Nat):Int)> 57)))&&(((((s[i]?).getD 0).toNat:Nat):Int) !=46))&&(((((s[i]?).getD 0).toNat:Nat):Int) !=45)) (fun h7=> ?_) (fun h7=> ?_)
   ·
    have e2:((z1k s):Bool)=false:=by
     simp only[byt0] at h7;unfold z1k;rw[I4.2,nmS,if_pos (by omega),if_pos (by unfold badC;omega)];simp
    exact .finE [.r []] [] (fun z0:Bool=>(VB z0,[])) _ _ e2
   ·
    refine .back [.r [(0,X (Xn ((i:Int)+1)))]] [] (ih4 ((i+1):Nat) ?_ ?_)
    ·
     simp only[byt0] at h7;refine⟨by omega,?_⟩;rw[I4.2,nmS,if_pos (by omega),if_neg (by unfold badC;omega)]
    ·
     ((try dsimp only);omega)
  ·
   have e3:((z1k s):Bool)=true:=by
    simp only[byt0,z3T,decide_eq_false_iff_not] at h1;unfold z1k;rw[I4.2,nmS,if_neg (by omega),decide_eq_true (by omega)];rfl
   exact .finE [.r []] [] (fun z0:Bool=>(VB z0,[])) _ _ e3
theorem z3E(s:ByteArray):FC Tryz.prog 51 [VS s] (app emp []) (VB (valGo s)) (app emp []):=by
 refine .go Tryz.f51 ?_
 refine .bp [.r [],.r [(4,Xv 1 (!(seq s ({data:=#[]}))) X0),(5,Xv 1 (!(seq s ({data:=#[]}))) X0),(6,X (Xk' (seq s ({data:=#[]}))))]] (seq s ({data:=#[]})||decide ((s.size:Int)> 200)) (fun h1=> ?_) (fun h1=> ?_)
 ·
  have e1:((valGo s):Bool)=false:=by
   simp only[z3T,decide_eq_true_eq] at h1;unfold valGo;rw[decide_eq_false (by omega)];rfl
  exact .finE [.r []] [] (fun z0:Bool=>(VB z0,[])) _ _ e1
 ·
  refine .loop (α:=Nat) [.r []] 88 (fun i=>([(0,VS s),(12,VI (s.size:Int)),(13,VI (i:Int))],[])) (fun i=>i<=s.size/\vlS s 0=vlS s i) (fun i=>s.size-i) (0:Nat) ?_ ?_
  ·
   exact⟨by omega,rfl⟩
  rintro i I4 ih4
  try dsimp only at I4
  refine .bp [.r []] (decide ((i:Int)< (s.size:Int))) (fun h4=> ?_) (fun h4=> ?_)
  ·
   refine .bp [.r [],.r [(2,X (Xb s (i:Int))),(7,Xv 2 (!(decide (((((s[i]?).getD 0).toNat:Nat):Int)< 32))) (Xb s (i:Int))),(8,Xv 1 (!(decide (((((s[i]?).getD 0).toNat:Nat):Int)< 32))) X0),(9,X (Xk' (decide (((((s[i]?).getD 0).toNat:Nat):Int)< 32))))]] (decide (((((s[i]?).getD 0).toNat:Nat):Int)< 32)||decide (((((s[i]?).getD 0).toNat:Nat):Int)> 126)) (fun h6=> ?_) (fun h6=> ?_)
   ·
    have e2:((valGo s):Bool)=false:=by
     simp only[byt0] at h6;unfold valGo;rw[I4.2,vlS,if_pos (by omega),if_pos (by omega)];simp
    exact .finE [.r []] [] (fun z0:Bool=>(VB z0,[])) _ _ e2
   ·
    refine .back [.r [(0,X (Xn ((i:Int)+1)))]] [] (ih4 ((i+1):Nat) ?_ ?_)
    ·
     simp only[byt0] at h6;refine⟨by omega,?_⟩;rw[I4.2,vlS,if_pos (by omega),if_neg (by omega)]
    ·
     ((try dsimp only);omega)
  ·
   have e3:((valGo s):Bool)=true:=by
    simp only[z3T,decide_eq_false_iff_not] at h1;unfold valGo;rw[I4.2,vlS,if_neg (by omega),decide_eq_true (by omega)];rfl
   exact .finE [.r []] [] (fun z0:Bool=>(VB z0,[])) _ _ e3
theorem y6q(s:ByteArray)(hs:s.size<=9223372036854775807):FC Tryz.prog 44 [VS s] (app emp []) (VB (z4q s)) (app emp []):=by
 refine .go Tryz.f44 ?_
 refine .loop (α:=Nat) [.r [],.r []] 32 (fun i=>([(0,VS s),(6,VI (s.size:Int)),(7,VI (i:Int))],[])) (fun i=>i<=s.size/\nmR s 0=nmR s i) (fun i=>s.size-i) (0:Nat) ?_ ?_
 ·
  exact⟨by omega,rfl⟩
 rintro i I2 ih2
 try dsimp only at I2
 refine .bp [.r []] (decide ((i:Int)< (s.size:Int))) (fun h2=> ?_) (fun h2=> ?_)
 ·
  refine .bp [.r [],.r [(2,X (Xb s (i:Int))),(7,Xv 2 (decide (((((s[i]?).getD 0).toNat:Nat):Int)>=97)) (Xb s (i:Int))),(8,Xv 1 (decide (((((s[i]?).getD 0).toNat:Nat):Int)>=97)) X0),(9,X (Xk (decide (((((s[i]?).getD 0).toNat:Nat):Int)>=97))))],.r [(4,Xv 1 (!(decide (((((s[i]?).getD 0).toNat:Nat):Int)>=97)&&decide (((((s[i]?).getD 0).toNat:Nat):Int)<=122))) X0),(5,Xv 1 (!(decide (((((s[i]?).getD 0).toNat:Nat):Int)>=97)&&decide (((((s[i]?).getD 0).toNat:Nat):Int)<=122))) X0),(8,Xv 2 ((!(decide (((((s[i]?).getD 0).toNat:Nat):Int)>=97)&&decide (((((s[i]?).getD 0).toNat:Nat):Int)<=122)))&& !((i:Int)==0)) (Xb s (i:Int))),(9,Xv 1 ((!(decide (((((s[i]?).getD 0).toNat:Nat):Int)>=97)&&decide (((((s[i]?).getD 0).toNat:Nat):Int)<=122)))&& !((i:Int)==0)) X0),(10,Xv 1 ((!(decide (((((s[i]?).getD 0).toNat:Nat):Int)>=97)&&decide (((((s[i]?).getD 0).toNat:Nat):Int)<=122)))&& !((i:Int)==0)) X0),(13,Xv 2 (((!(decide (((((s[i]?).getD 0).toNat:Nat):Int)>=97)&&decide (((((s[i]?).getD 0).toNat:Nat):Int)<=122)))&& !((i:Int)==0))&&(((((s[i]?).getD 0).toNat:Nat):Int) !=46)) (Xb s (i:Int))),(14,Xv 1 (((!(decide (((((s[i]?).getD 0).toNat:Nat):Int)>=97)&&decide (((((s[i]?).getD 0).toNat:Nat):Int)<=122)))&& !((i:Int)==0))&&(((((s[i]?).getD 0).toNat:Nat):Int) !=46)) X0),(15,Xka ((!(decide (((((s[i]?).getD 0).toNat:Nat):Int)>=97)&&decide (((((s[i]?).getD 0).toNat:Nat):Int)<=122)))&& !((i:Int)==0)) (((((s[i]?).getD 0).toNat:Nat):Int) !=46)),(16,Xv 1 ((!(decide (((((s[i]?).getD 0).toNat:Nat):Int)>=97)&&decide (((((s[i]?).getD 0).toNat:Nat):Int)<=122)))&& !((i:Int)==0)) X0),(19,Xv 2 (((!(decide (((((s[i]?).getD 0).toNat:Nat):Int)>=97)&&decide (((((s[i]?).getD 0).toNat:Nat):Int)<=122)))&& !((i:Int)==0))&&((((((s[i]?).getD 0).toNat:Nat):Int) !=46)&&(((((s[i]?).getD 0).toNat:Nat):Int) !=45))) (Xb s (i:Int))),(20,Xv 1 (((!(decide (((((s[i]?).getD 0).toNat:Nat):Int)>=97)&&decide (((((s[i]?).getD 0).toNat:Nat):Int)<=122)))&& !((i:Int)==0))&&((((((s[i]?).getD 0).toNat:Nat):Int) !=46)&&(((((s[i]?).getD 0).toNat:Nat):Int) !=45))) X0),(21,Xv 1 (((!(decide (((((s[i]?).getD 0).toNat:Nat):Int)>=97)&&decide (((((s[i]?).getD 0).toNat:Nat):Int)<=122)))&& !((i:Int)==0))&&((((((s[i]?).getD 0).toNat:Nat):Int) !=46)&&(((((s[i]?).getD 0).toNat:Nat):Int) !=45))) X0),(24,Xv 2 ((((!(decide (((((s[i]?).getD 0).toNat:Nat):Int)>=97)&&decide (((((s[i]?).getD 0).toNat:Nat):Int)<=122)))&& !((i:Int)==0))&&((((((s[i]?).getD 0).toNat:Nat):Int) !=46)&&(((((s[i]?).getD 0).toNat:Nat):Int) !=45)))&& !(decide (((((s[i]?).getD 0).toNat:Nat):Int)< 48))) (Xb s (i:Int))),(25,Xv 1 ((((!(decide (((((s[i]?).getD 0).toNat:Nat):Int)>=97)&&decide (((((s[i]?).getD 0).toNat:Nat):Int)<=122)))&& !((i:Int)==0))&&((((((s[i]?).getD 0).toNat:Nat):Int) !=46)&&(((((s[i]?).getD 0).toNat:Nat):Int) !=45)))&& !(decide (((((s[i]?).getD 0).toNat:Nat):Int)< 48))) X0),(26,Xko (((!(decide (((((s[i]?).getD 0).toNat:Nat):Int)>=97)&&decide (((((s[i]?).getD 0).toNat:Nat):Int)<=122)))&& !((i:Int)==0))&&((((((s[i]?).getD 0).toNat:Nat):Int) !=46)&&(((((s[i]?).getD 0).toNat:Nat):Int) !=45))) (decide (((((s[i]?).getD 0).toNat:Nat):Int)< 48))),(27,Xka ((!(decide (((((s[i]?).getD 0).toNat:Nat):Int)>=97)&&decide (((((s[i]?).getD 0).toNat:Nat):Int)<=122)))&& !((i:Int)==0)) ((((((s[i]?).getD 0).toNat:Nat):Int) !=46)&&(((((s[i]?).getD 0).toNat:Nat):Int) !=45))),(28,Xko (!(decide (((((s[i]?).getD 0).toNat:Nat):Int)>=97)&&decide (((((s[i]?).getD 0).toNat:Nat):Int)<=122))) ((i:Int)==0)),(29,X (Xk (!(decide (((((s[i]?).getD 0).toNat:Nat):Int)>=97)&&decide (((((s[i]?).getD 0).toNat:Nat):Int)<=122)))))]] (!(decide (((((s[i]?).getD 0).toNat:Nat):Int)>=97)&&decide (((((s[i]?).getD 0).toNat:Nat):Int)<=122))&&(((i:Int)==0)|| (((((((s[i]?).getD 0).toNat:Nat):Int) !=46)&&(((((s[i]?).getD 0).toNat:Nat):Int) !=45))&&(decide (((((s[i]?).getD 0).toNat:Nat):Int)< 48)||decide (((((s[i]?).getD 0).toNat:Nat):Int)> 57))))) (fun h5=> ?_) (fun h5=> ?_)
  ·
   have e1:((z4q s):Bool)=false:=by
    simp only[byt0] at h5;unfold z4q;rw[I2.2,nmR,if_pos (by omega),if_pos (by omega)];simp
   exact .finE [.r []] [] (fun z0:Bool=>(VB z0,[])) _ _ e1
  ·
   refine .back [.r [(0,X (Xn ((i:Int)+1)))]] [] (ih2 ((i+1):Nat) ?_ ?_)
   ·
    simp only[byt0] at h5;refine⟨by omega,?_⟩;rw[I2.2,nmR,if_pos (by omega),if_neg (by omega)]
   ·
    ((try dsimp only);omega)
 ·
  have e2:((z4q s):Bool)=(decide ((s.size:Int)>=1)&&decide ((s.size:Int)<=24)):=by
   unfold z4q;rw[I2.2,nmR,if_neg (by omega),zj];simp;omega
  exact .finE [.r [(5,Xv 1 (decide ((s.size:Int)>=1)) X0),(6,Xv 1 (decide ((s.size:Int)>=1)) X0),(7,X (Xk (decide ((s.size:Int)>=1))))]] [] (fun z0:Bool=>(VB z0,[])) _ _ e2
theorem y4a(s:ByteArray)(hs:s.size<=9223372036854775807):FC Tryz.prog 45 [VS s] (app emp []) (VB (valRf s)) (app emp []):=by
 refine .go Tryz.f45 ?_
 refine .loop (α:=Nat) [.r [],.r []] 32 (fun i=>([(0,VS s),(5,VI (s.size:Int)),(6,VI (i:Int))],[])) (fun i=>i<=s.size/\vlS s 0=vlS s i) (fun i=>s.size-i) (0:Nat) ?_ ?_
 ·
  exact⟨by omega,rfl⟩
 rintro i I2 ih2
 try dsimp only at I2
 refine .bp [.r []] (decide ((i:Int)< (s.size:Int))) (fun h2=> ?_) (fun h2=> ?_)
 ·
  refine .bp [.r [],.r [(2,X (Xb s (i:Int))),(7,Xv 2 (!(decide (((((s[i]?).getD 0).toNat:Nat):Int)< 32))) (Xb s (i:Int))),(8,Xv 1 (!(decide (((((s[i]?).getD 0).toNat:Nat):Int)< 32))) X0),(9,X (Xk' (decide (((((s[i]?).getD 0).toNat:Nat):Int)< 32))))]] (decide (((((s[i]?).getD 0).toNat:Nat):Int)< 32)||decide (((((s[i]?).getD 0).toNat:Nat):Int)> 126)) (fun h4=> ?_) (fun h4=> ?_)
  ·
   have e1:((valRf s):Bool)=false:=by
    simp only[byt0] at h4;unfold valRf;rw[I2.2,vlS,if_pos (by omega),if_pos (by omega)];simp
   exact .finE [.r []] [] (fun z0:Bool=>(VB z0,[])) _ _ e1
  ·
   refine .back [.r [(0,X (Xn ((i:Int)+1)))]] [] (ih2 ((i+1):Nat) ?_ ?_)
   ·
    simp only[byt0] at h4;refine⟨by omega,?_⟩;rw[I2.2,vlS,if_pos (by omega),if_neg (by omega)]
   ·
    ((try dsimp only);omega)
 ·
  have e2:((valRf s):Bool)=(decide ((s.size:Int)>=1)&&decide ((s.size:Int)<=200)):=by
   unfold valRf;rw[I2.2,vlS,if_neg (by omega),zj];simp;omega
  exact .finE [.r [(5,Xv 1 (decide ((s.size:Int)>=1)) X0),(6,Xv 1 (decide ((s.size:Int)>=1)) X0),(7,X (Xk (decide ((s.size:Int)>=1))))]] [] (fun z0:Bool=>(VB z0,[])) _ _ e2
def chkA(e:Bool)(l:List Attr)(i:Nat):Int:=
 if i<l.length then
  if z1k (l.getD i default).name=false then 9
  else if valGo (l.getD i default).val=false/\(e=false\/seq (l.getD i default).val {data:=#[]}=false) then 23
  else if 0<i/\(slt (l.getD i default).name (l.getD (i- 1) default).name=true\/seq (l.getD i default).name (l.getD (i- 1) default).name=true) then 5
  else chkA e l (i+1)
 else 0
termination_by l.length-i
def Szd(l:List Attr):Prop:=∀a∈l,a.name.size<=9223372036854775807/\a.val.size<=9223372036854775807
theorem Szd.at{l:List Attr}(h:Szd l){i:Nat}(hi:i<l.length):(l.getD i default).name.size<=9223372036854775807/\(l.getD i default).val.size<=9223372036854775807:=by
 rw[show l.getD i default=l[i] by simp[List.getD,qa hi]]
 exact h _ (zx hi)
theorem y7O(l:List Attr)(e:Bool):FC Tryz.prog 107 [VL 2 attrT l,VB e] (app emp []) (VI (chkA e l 0)) (app emp []):=by
 refine .go Tryz.f107 ?_
 refine .len 0 (fun hl0=> ?_)
 refine .loop (α:=Nat) [.r [],.r [(1,X (Xl attrT l))]] 32 (fun i=>([(0,VL 2 attrT l),(1,VB e),(7,VL 2 attrT l),(8,VI (l.length:Int)),(9,VI (i:Int))],[])) (fun i=>i<=l.length/\chkA e l 0=chkA e l i) (fun i=>l.length-i) (0:Nat) ?_ ?_
 ·
  exact⟨by omega,rfl⟩
 rintro i I2 ih2
 try dsimp only at I2
 refine .bp [.r []] (decide ((i:Int)< (l.length:Int))) (fun h2=> ?_) (fun h2=> ?_)
 ·
  refine .bp [.r [(1,X (Xi attrT l (i:Int)))],.r [(2,X (Xc0 (y0m (((l.getD i default)).name)) X0))]] (!(z1k (((l.getD i default)).name))) (fun h4=> ?_) (fun h4=> ?_)
  ·
   have e1:((chkA e l 0):Int)=9:=by
    rw[I2.2,chkA,if_pos (by omega),if_pos h4]
   exact .finE [.r []] [] (fun z0:Int=>(VI z0,[])) _ _ e1
  ·
   refine .bp [.r [(2,X (Xc0 (z3E (((l.getD i default)).val)) X0)),(6,Xv 1 (!(valGo (((l.getD i default)).val))) X0),(8,Xv 1 ((!(valGo (((l.getD i default)).val)))&&e) X0),(9,Xv 1 ((!(valGo (((l.getD i default)).val)))&&e) X0),(10,Xka (!(valGo (((l.getD i default)).val))) e),(11,Xv 1 (!(valGo (((l.getD i default)).val))) X0),(12,X (Xk (!(valGo (((l.getD i default)).val)))))]] (!(valGo (((l.getD i default)).val))&& !(e&&seq (((l.getD i default)).val) ({data:=#[]}))) (fun h6=> ?_) (fun h6=> ?_)
   ·
    have e2:((chkA e l 0):Int)=23:=by
     rw[I2.2,chkA,if_pos (by omega),if_neg (by rw[h4];decide),if_pos h6]
    exact .finE [.r []] [] (fun z0:Int=>(VI z0,[])) _ _ e2
   ·
    refine .bp [.r [(4,Xv 1 (decide ((i:Int)> 0)) X0),(7,Xv 1 (decide ((i:Int)> 0)) (Xn ((i:Int)- 1))),(8,Xv 2 (decide ((i:Int)> 0)) (Xi' attrT l ((i:Int)- 1) (i- 1))),(9,Xv 1 (decide ((i:Int)> 0)) X0),(10,Xv 1 (decide ((i:Int)> 0)) X0),(11,Xv 2 (decide ((i:Int)> 0)) X0),(12,X (Xk (decide ((i:Int)> 0))))]] (decide ((i:Int)> 0)&&(slt (((l.getD i default)).name) (((l.getD (i- 1) default)).name)||seq (((l.getD i default)).name) (((l.getD (i- 1) default)).name))) (fun h8=> ?_) (fun h8=> ?_)
    ·
     have e3:((chkA e l 0):Int)=5:=by
      rw[I2.2,chkA,if_pos (by omega),if_neg (by rw[h4];decide),if_neg (by clear ih2;rintro⟨a,b⟩;simp_all),if_pos ⟨by omega,h8.2⟩]
     exact .finE [.r []] [] (fun z0:Int=>(VI z0,[])) _ _ e3
    ·
     refine .back [.r [(0,X (Xn ((i:Int)+1)))]] [] (ih2 ((i+1):Nat) ?_ ?_)
     ·
      refine⟨by omega,?_⟩;rw[I2.2,chkA,if_pos (by omega),if_neg (by rw[h4];decide),if_neg (by clear ih2;rintro⟨a,b⟩;simp_all),if_neg (by clear ih2;rintro⟨a,b⟩;rcases h8 with h| ⟨h,h2⟩;omega;rcases b with b|b<;>simp_all)]
     ·
      ((try dsimp only);omega)
 ·
  have e4:((chkA e l 0):Int)=0:=by
   rw[I2.2,chkA,if_neg (by omega)]
  exact .finE [.r []] [] (fun z0:Int=>(VI z0,[])) _ _ e4
theorem z3p(l:List Attr):FC Tryz.prog 52 [VL 2 attrT l] (app emp []) (VI (chkA false l 0)) (app emp []):=by
 refine .go Tryz.f52 ?_
 refine .len 0 (fun hl0=> ?_)
 exact .fin [.r [],.r [(1,X (Xc0 (y7O l false) X0))]] []
theorem z1B(l:List Attr):FC Tryz.prog 132 [VL 2 attrT l] (app emp []) (VI (chkA true l 0)) (app emp []):=by
 refine .go Tryz.f132 ?_
 refine .len 0 (fun hl0=> ?_)
 exact .fin [.r [],.r [(1,X (Xc0 (y7O l true) X0))]] []
def errA(e:Bool)(l:List Attr)(i:Nat):Int:=
 if i<l.length then
  if z4q (l.getD i default).name=false then 9
  else if valRf (l.getD i default).val=false/\(e=false\/seq (l.getD i default).val {data:=#[]}=false) then 23
  else if 0<i/\slt (l.getD (i- 1) default).name (l.getD i default).name=false then 5
  else errA e l (i+1)
 else 0
termination_by l.length-i
theorem y7P(a b:ByteArray):(slt a b=true\/seq a b=true)↔slt b a=false:=by
 constructor
 ·rintro(h|h)
  ·exact y35 h
  ·rw[z0q] at h;subst h;exact y0l _
 ·intro h
  cases k:slt a b with
  |true=>exact .inl rfl
  |false=>exact .inr (z0q.2 (z7L k h))
theorem z2Z(e:Bool)(l:List Attr):∀(n i:Nat),l.length-i=n->errA e l i=chkA e l i
 |0,i,h=>by rw[errA,chkA,if_neg (by omega),if_neg (by omega)]
 |n+1,i,h=>by
  have hi:i<l.length:=by omega
  rw[errA,chkA,if_pos hi,if_pos hi,z2Z e l n (i+1) (by omega)]
  simp only[y39,y6p,y7P]
def sameA(a b:List Attr)(i:Nat):Bool:=
 if i<a.length then(if(a.getD i default).name=(b.getD i default).name/\(a.getD i default).val=(b.getD i default).val then sameA a b (i+1) else false) else true
termination_by a.length-i
def sameL(a b:List Attr):Bool:=decide (a.length=b.length)&&sameA a b 0
def getA(l:List Attr)(n:ByteArray)(i:Nat):ByteArray:=
 if i<l.length then(if(l.getD i default).name=n then(l.getD i default).val else getA l n (i+1)) else mt
termination_by l.length-i
theorem z31{l:List Attr}{i:Nat}(h:i<l.length):l.drop i=l.getD i default::l.drop (i+1):=by
 rw[zt h];simp[List.getD,qa h]
theorem z4r{l:List Attr}{i:Nat}(h:¬i<l.length):l.drop i=[]:=qT (by omega)
theorem fm_a{g:Attr->Attr->Option Attr}{a b:List Attr}{i j:Nat}(hi:i<a.length)(h:b.length<=j\/slt (a.getD i default).name (b.getD j default).name=true):
 fm g (a.drop i) (b.drop j)=(g (a.getD i default) ⟨mt,mt⟩).toList++fm g (a.drop (i+1)) (b.drop j):=by
 unfold fm
 rw[z31 hi]
 by_cases hj:j<b.length
 ·rw[z31 hj,bothL,if_pos (by rcases h with h|h;omega;exact h),z2d];rfl
 ·rw[z4r hj,bothL,z2d];rfl
theorem fm_b{g:Attr->Attr->Option Attr}{a b:List Attr}{i j:Nat}(hj:j<b.length)(h0:i<a.length->slt (a.getD i default).name (b.getD j default).name=false)(h:a.length<=i\/slt (b.getD j default).name (a.getD i default).name=true):
 fm g (a.drop i) (b.drop j)=(g ⟨mt,mt⟩ (b.getD j default)).toList++fm g (a.drop i) (b.drop (j+1)):=by
 unfold fm
 rw[z31 hj]
 by_cases hi:i<a.length
 ·rw[z31 hi,bothL,if_neg (by rw[h0 hi];decide),if_pos (by rcases h with h|h;omega;exact h),z2d];rfl
 ·rw[z4r hi,bothL,z2d];rfl
theorem fm_ab{g:Attr->Attr->Option Attr}{a b:List Attr}{i j:Nat}(hi:i<a.length)(hj:j<b.length)(h0:slt (a.getD i default).name (b.getD j default).name=false)(h:slt (b.getD j default).name (a.getD i default).name=false):
 fm g (a.drop i) (b.drop j)=(g (a.getD i default) (b.getD j default)).toList++fm g (a.drop (i+1)) (b.drop (j+1)):=by
 unfold fm
 rw[z31 hi,z31 hj,bothL,if_neg (by rw[h0];decide),if_neg (by rw[h];decide),z2d]
theorem y7Q{g:Attr->Attr->Option Attr}{a b:List Attr}{i j:Nat}(hi:a.length<=i)(hj:b.length<=j):fm g (a.drop i) (b.drop j)=[]:=by
 unfold fm
 rw[z4r (by omega),z4r (by omega),bothL];rfl
theorem z6j{o:Option Attr}:o.toList.length<=1:=by cases o<;>simp
theorem z7Q(l:List Attr)(e:Bool)(hz:Szd l):FC Tryz.prog 20 [VL 2 attrT l,VB e] (app emp []) (VI (errA e l 0)) (app emp []):=by
 refine .go Tryz.f20 ?_
 refine .len 0 (fun hl0=> ?_)
 refine .loop (α:=Nat) [.r [],.r [(1,X (Xl attrT l))]] 32 (fun i=>([(0,VL 2 attrT l),(1,VB e),(7,VI (l.length:Int)),(8,VI (i:Int))],[])) (fun i=>i<=l.length/\errA e l 0=errA e l i) (fun i=>l.length-i) (0:Nat) ?_ ?_
 ·
  exact⟨by omega,rfl⟩
 rintro i I2 ih2
 try dsimp only at I2
 refine .bp [.r []] (decide ((i:Int)< (l.length:Int))) (fun h2=> ?_) (fun h2=> ?_)
 ·
  have hza:=hz.at (i:=i) (by omega)
  refine .bp [.r [],.r [(2,X (Xi attrT l (i:Int))),(5,X (Xc0 (y6q (((l.getD i default)).name) (by(first|omega|with_reducible exact fun h=>h| (intro hq;rw[hq];done)| (intro hq;rw[hq];rfl)| (simp only[qg];done)| (simp only[qg];omega)| (simp;omega)| (simp;done)))) X0))]] (!(z4q (((l.getD i default)).name))) (fun h4=> ?_) (fun h4=> ?_)
  ·
   have e1:((errA e l 0):Int)=9:=by
    rw[I2.2,errA,if_pos (by omega),if_pos h4]
   exact .finE [.r []] [] (fun z0:Int=>(VI z0,[])) _ _ e1
  ·
   refine .bp [.r [(2,X (Xi attrT l (i:Int))),(5,X (Xc0 (y4a (((l.getD i default)).val) (by(first|omega|with_reducible exact fun h=>h| (intro hq;rw[hq];done)| (intro hq;rw[hq];rfl)| (simp only[qg];done)| (simp only[qg];omega)| (simp;omega)| (simp;done)))) X0)),(10,Xv 2 (!(valRf (((l.getD i default)).val))) (Xi attrT l (i:Int))),(11,Xv 1 (!(valRf (((l.getD i default)).val))) X0),(12,Xv 1 (!(valRf (((l.getD i default)).val))) X0),(13,Xv 1 (!(valRf (((l.getD i default)).val))) X0),(14,Xv 1 (!(valRf (((l.getD i default)).val))) X0),(16,Xv 1 ((!(valRf (((l.getD i default)).val)))&& !(!(seq (((l.getD i default)).val) ({data:=#[]})))) X0),(17,Xko (!(valRf (((l.getD i default)).val))) (!(seq (((l.getD i default)).val) ({data:=#[]})))),(18,X (Xk (!(valRf (((l.getD i default)).val)))))]] (!(valRf (((l.getD i default)).val))&&(!(seq (((l.getD i default)).val) ({data:=#[]}))|| !e)) (fun h6=> ?_) (fun h6=> ?_)
   ·
    have e2:((errA e l 0):Int)=23:=by
     rw[I2.2,errA,if_pos (by omega),if_neg (by rw[h4];decide),if_pos ⟨h6.1,h6.2.symm⟩]
    exact .finE [.r []] [] (fun z0:Int=>(VI z0,[])) _ _ e2
   ·
    refine .bp [.r [(5,Xv 1 (decide ((i:Int)> 0)) (Xn ((i:Int)- 1))),(6,Xv 2 (decide ((i:Int)> 0)) (Xi' attrT l ((i:Int)- 1) (i- 1))),(7,Xv 1 (decide ((i:Int)> 0)) X0),(8,Xv 1 (decide ((i:Int)> 0)) X0),(11,Xv 2 (decide ((i:Int)> 0)) (Xi attrT l (i:Int))),(12,Xv 1 (decide ((i:Int)> 0)) X0),(13,Xv 1 (decide ((i:Int)> 0)) X0),(14,Xv 2 (decide ((i:Int)> 0)) X0),(15,X (Xk (decide ((i:Int)> 0))))]] (decide ((i:Int)> 0)&& !(slt (((l.getD (i- 1) default)).name) (((l.getD i default)).name))) (fun h8=> ?_) (fun h8=> ?_)
    ·
     have e3:((errA e l 0):Int)=5:=by
      rw[I2.2,errA,if_pos (by omega),if_neg (by rw[h4];decide),if_neg (by clear ih2;rintro⟨a,b⟩;simp_all),if_pos ⟨by omega,h8.2⟩]
     exact .finE [.r []] [] (fun z0:Int=>(VI z0,[])) _ _ e3
    ·
     refine .back [.r [(0,X (Xn ((i:Int)+1)))]] [] (ih2 ((i+1):Nat) ?_ ?_)
     ·
      refine⟨by omega,?_⟩;rw[I2.2,errA,if_pos (by omega),if_neg (by rw[h4];decide),if_neg (by clear ih2;rintro⟨a,b⟩;simp_all),if_neg (by clear ih2;rintro⟨a,b⟩;rcases h8 with h|h;omega;rw[b] at h;cases h)]
     ·
      ((try dsimp only);omega)
 ·
  have e4:((errA e l 0):Int)=0:=by
   rw[I2.2,errA,if_neg (by omega)]
  exact .finE [.r []] [] (fun z0:Int=>(VI z0,[])) _ _ e4
theorem z8X(a b:List Attr):FC Tryz.prog 89 [VL 2 attrT a,VL 2 attrT b] (app emp []) (VB (sameL a b)) (app emp []):=by
 refine .go Tryz.f89 ?_
 refine .len 0 (fun hl0=> ?_)
 refine .len 1 (fun hl1=> ?_)
 refine .bp [.r [],.r [(1,X (Xl attrT a)),(3,X (Xl attrT b))]] ((a.length:Int) !=(b.length:Int)) (fun h1=> ?_) (fun h1=> ?_)
 ·
  have e1:((sameL a b):Bool)=false:=by
   unfold sameL;rw[decide_eq_false (by omega)];rfl
  exact .finE [.r []] [] (fun z0:Bool=>(VB z0,[])) _ _ e1
 ·
  refine .loop (α:=Nat) [.r [(1,X (Xl attrT a))]] 72 (fun i=>([(0,VL 2 attrT a),(1,VL 2 attrT b),(12,VI (a.length:Int)),(13,VI (i:Int))],[])) (fun i=>i<=a.length/\sameA a b 0=sameA a b i) (fun i=>a.length-i) (0:Nat) ?_ ?_
  ·
   exact⟨by omega,rfl⟩
  rintro i I4 ih4
  try dsimp only at I4
  refine .bp [.r []] (decide ((i:Int)< (a.length:Int))) (fun h4=> ?_) (fun h4=> ?_)
  ·
   refine .bp [.r [],.r [(2,X (Xi attrT a (i:Int))),(6,X (Xi attrT b (i:Int)))]] (!(seq (((a.getD i default)).name) (((b.getD i default)).name)&&(seq (((a.getD i default)).val) (((b.getD i default)).val)&&true))) (fun h6=> ?_) (fun h6=> ?_)
   ·
    have e2:((sameL a b):Bool)=false:=by
     unfold sameL;rw[I4.2,sameA,if_pos (by omega),if_neg (by clear ih4;simp only[z0H,z0q] at h6;rintro⟨x,y⟩;simp_all)];simp
    exact .finE [.r []] [] (fun z0:Bool=>(VB z0,[])) _ _ e2
   ·
    refine .back [.r [(0,X (Xn ((i:Int)+1)))]] [] (ih4 ((i+1):Nat) ?_ ?_)
    ·
     refine⟨by omega,?_⟩;rw[I4.2,sameA,if_pos (by omega),if_pos (by clear ih4;simp only[z0H,z0q] at h6;simp_all)]
    ·
     ((try dsimp only);omega)
  ·
   have e3:((sameL a b):Bool)=true:=by
    unfold sameL;rw[I4.2,sameA,if_neg (by omega),decide_eq_true (by omega)];rfl
   exact .finE [.r []] [] (fun z0:Bool=>(VB z0,[])) _ _ e3
theorem z5g(l:List Attr)(n:ByteArray):FC Tryz.prog 57 [VL 2 attrT l,VS n] (app emp []) (VS (getA l n 0)) (app emp []):=by
 refine .go Tryz.f57 ?_
 refine .len 0 (fun hl0=> ?_)
 refine .loop (α:=Nat) [.r [],.r [(1,X (Xl attrT l))]] 32 (fun i=>([(1,VS n),(7,VL 2 attrT l),(8,VI (l.length:Int)),(9,VI (i:Int))],[])) (fun i=>i<=l.length/\getA l n 0=getA l n i) (fun i=>l.length-i) (0:Nat) ?_ ?_
 ·
  exact⟨by omega,rfl⟩
 rintro i I2 ih2
 try dsimp only at I2
 refine .bp [.r []] (decide ((i:Int)< (l.length:Int))) (fun h2=> ?_) (fun h2=> ?_)
 ·
  refine .bp [.r [(0,X (Xi attrT l (i:Int)))],.r []] (seq (((l.getD i default)).name) n) (fun h4=> ?_) (fun h4=> ?_)
  ·
   have e1:((getA l n 0):ByteArray)=((l.getD i default)).val:=by
    rw[I2.2,getA,if_pos (by omega),if_pos (z0q.1 h4)]
   exact .finE [.r []] [] (fun z0:ByteArray=>(VS z0,[])) _ _ e1
  ·
   refine .back [.r [(0,X (Xn ((i:Int)+1)))]] [] (ih2 ((i+1):Nat) ?_ ?_)
   ·
    refine⟨by omega,?_⟩;rw[I2.2,getA,if_pos (by omega),if_neg (z0H.1 h4)]
   ·
    ((try dsimp only);omega)
 ·
  have e2:((getA l n 0):ByteArray)={data:=#[]}:=by
   rw[I2.2,getA,if_neg (by omega)]
  exact .finE [.r []] [] (fun z0:ByteArray=>(VS z0,[])) _ _ e2
theorem z7R(f:FuncId)(g:Attr->Attr->Option Attr)(hfc:z02 Tryz.prog f=true)(hf:∀(o:List Attr) (x y:Attr),o.length<1099511627776->FC Tryz.prog f [.t (attrT x),.t (attrT y),.ptr 0 0] (app emp [(0,.box [.row 1 o.length]),(1,.row 2 false (List.map attrT o))]) (.tup []) (app emp [(0,.box [.row 1 (o++(g x y).toList).length]),(1,.row 2 false (List.map attrT (o++(g x y).toList)))]))(a b o:List Attr)(hn:o.length+a.length+b.length<1099511627776):FC Tryz.prog 108 [VL 2 attrT a,VL 2 attrT b,.fn f [.ptr 0 0]] (app emp [(0,.box [.row 1 o.length]),(1,OR 2 attrT o)]) (.tup []) (app emp [(0,.box [.row 1 ((o++fm g a b).length)]),(1,OR 2 attrT (o++fm g a b))]):=by
 refine .go Tryz.f108 ?_
 refine .len 0 (fun hl0=> ?_)
 refine .len 1 (fun hl1=> ?_)
 refine .loop (α:=Nat×Nat×(List Attr)) [.r []] 18 (fun(i,j,p)=>([(0,VL 2 attrT a),(1,VL 2 attrT b),(2,.fn f [.ptr 0 0]),(6,VI (i:Int)),(7,VI (j:Int))],[(0,.box [.row 1 p.length]),(1,OR 2 attrT p)])) (fun(i,j,p)=>i<=a.length/\j<=b.length/\p.length<=o.length+i+j/\o++fm g a b=p++fm g (a.drop i) (b.drop j)) (fun(i,j,p)=>(a.length-i)+(b.length-j)) (0,0,o) ?_ ?_
 ·
  exact⟨by omega,by omega,by omega,rfl⟩
 rintro⟨i,j,p⟩ I1 ih1
 try dsimp only at I1
 refine .bp [.r [(2,X (Xl attrT a)),(7,Xv 1 (!(decide ((i:Int)< (a.length:Int)))) (Xl attrT b)),(8,Xv 2 (!(decide ((i:Int)< (a.length:Int)))) X0),(9,X (Xk' (decide ((i:Int)< (a.length:Int)))))]] (decide ((i:Int)< (a.length:Int))||decide ((j:Int)< (b.length:Int))) (fun h1=> ?_) (fun h1=> ?_)
 ·
  refine .bp [.r [(2,X (Xl attrT b)),(7,Xv 1 (!((j:Int)==(b.length:Int))) (Xl attrT a)),(8,Xv 2 (!((j:Int)==(b.length:Int))) X0),(9,Xv 1 (!((j:Int)==(b.length:Int))) X0),(12,Xv 2 ((!((j:Int)==(b.length:Int)))&&(decide ((i:Int)< (a.length:Int)))) (Xi attrT a (i:Int))),(13,Xv 1 ((!((j:Int)==(b.length:Int)))&&(decide ((i:Int)< (a.length:Int)))) X0),(14,Xv 1 ((!((j:Int)==(b.length:Int)))&&(decide ((i:Int)< (a.length:Int)))) X0),(17,Xv 2 ((!((j:Int)==(b.length:Int)))&&(decide ((i:Int)< (a.length:Int)))) (Xi attrT b (j:Int))),(18,Xv 1 ((!((j:Int)==(b.length:Int)))&&(decide ((i:Int)< (a.length:Int)))) X0),(19,Xv 1 ((!((j:Int)==(b.length:Int)))&&(decide ((i:Int)< (a.length:Int)))) X0),(20,Xv 2 ((!((j:Int)==(b.length:Int)))&&(decide ((i:Int)< (a.length:Int)))) X0),(21,Xka (!((j:Int)==(b.length:Int))) (decide ((i:Int)< (a.length:Int)))),(22,X (Xk' ((j:Int)==(b.length:Int))))]] (((j:Int)==(b.length:Int))|| (decide ((i:Int)< (a.length:Int))&&slt (((a.getD i default)).name) (((b.getD j default)).name))) (fun h4=> ?_) (fun h4=> ?_)
  ·
   refine .back [.r [(3,X (Xi attrT a (i:Int))),(6,X (Xc3 338 [(0,0),(1,1)] (hf p ((a.getD i default)) ({name:={data:=#[]},val:={data:=#[]}}:Attr) (by first|omega| (simp;omega))) X0 (hc:=hfc)))],.r [(1,X (Xn ((i:Int)+1)))]] [(0,0),(1,1)] (ih1 ((i+1),j,(p++(g ((a.getD i default)) ({name:={data:=#[]},val:={data:=#[]}}:Attr)).toList)) ?_ ?_)
   ·
    have hi:i<a.length:=by omega
    have hg:=z6j (o:=g (a.getD i default) ⟨{data:=#[]},{data:=#[]}⟩)
    have e:=fm_a (g:=g) (a:=a) (b:=b) (j:=j) hi (by rcases h4 with h|h;(left;omega);exact .inr h.2)
    refine⟨by omega,by omega,by simp only[qc];omega,?_⟩
    rw[I1.2.2.2,e,qE]
   ·
    ((try dsimp only);omega)
  ·
   refine .bp [.r [(2,X (Xl attrT a)),(7,Xv 2 (!((i:Int)==(a.length:Int))) (Xi attrT b (j:Int))),(8,Xv 1 (!((i:Int)==(a.length:Int))) X0),(9,Xv 1 (!((i:Int)==(a.length:Int))) X0),(12,Xv 2 (!((i:Int)==(a.length:Int))) (Xi attrT a (i:Int))),(13,Xv 1 (!((i:Int)==(a.length:Int))) X0),(14,Xv 1 (!((i:Int)==(a.length:Int))) X0),(15,Xv 2 (!((i:Int)==(a.length:Int))) X0),(16,X (Xk' ((i:Int)==(a.length:Int))))]] (((i:Int)==(a.length:Int))||slt (((b.getD j default)).name) (((a.getD i default)).name)) (fun h7=> ?_) (fun h7=> ?_)
   ·
    refine .back [.r [(4,X (Xi attrT b (j:Int))),(6,X (Xc3 482 [(0,0),(1,1)] (hf p ({name:={data:=#[]},val:={data:=#[]}}:Attr) ((b.getD j default)) (by first|omega| (simp;omega))) X0 (hc:=hfc)))],.r [(1,X (Xn ((j:Int)+1)))]] [(0,0),(1,1)] (ih1 (i,(j+1),(p++(g ({name:={data:=#[]},val:={data:=#[]}}:Attr) ((b.getD j default))).toList)) ?_ ?_)
    ·
     have hj:j<b.length:=by omega
     have hg:=z6j (o:=g ⟨{data:=#[]},{data:=#[]}⟩ (b.getD j default))
     have e:=fm_b (g:=g) (a:=a) (b:=b) (i:=i) hj (fun hi=>by rcases h4.2 with h|h;omega;exact h) (by rcases h7 with h|h;(left;omega);exact .inr h)
     refine⟨by omega,by omega,by simp only[qc];omega,?_⟩
     rw[I1.2.2.2,e,qE]
    ·
     ((try dsimp only);omega)
   ·
    refine .back [.r [(3,X (Xi attrT a (i:Int))),(7,X (Xi attrT b (j:Int))),(9,X (Xc3 506 [(0,0),(1,1)] (hf p ((a.getD i default)) ((b.getD j default)) (by first|omega| (simp;omega))) X0 (hc:=hfc)))],.r [(1,X (Xn ((i:Int)+1))),(3,X (Xn ((j:Int)+1)))]] [(0,0),(1,1)] (ih1 ((i+1),(j+1),(p++(g ((a.getD i default)) ((b.getD j default))).toList)) ?_ ?_)
    ·
     have hi:i<a.length:=by omega
     have hj:j<b.length:=by omega
     have hg:=z6j (o:=g (a.getD i default) (b.getD j default))
     have e:=fm_ab (g:=g) (a:=a) (b:=b) hi hj (by rcases h4.2 with h|h;omega;exact h) h7.2
     refine⟨by omega,by omega,by simp only[qc];omega,?_⟩
     rw[I1.2.2.2,e,qE]
    ·
     ((try dsimp only);omega)
 ·
  have e1:((o++fm g a b).length:Nat)=p.length:=by
   rw[I1.2.2.2,y7Q (by omega) (by omega),qQ]
  have e2:((o++fm g a b):List Attr)=p:=by
   rw[I1.2.2.2,y7Q (by omega) (by omega),qQ]
  exact .finE [] [(0,0),(1,1)] (fun((z0,z1):Nat×(List Attr))=>(.tup [],[(0,.box [.row 1 z0]),(1,OR 2 attrT z1)])) _ _ (pr e1 e2)
theorem y8w(o:List Attr)(x y:Attr)(hn:o.length<1099511627776):FC Tryz.prog 109 [.t (attrT x),.t (attrT y),.ptr 0 0] (app emp [(0,.box [.row 1 o.length]),(1,OR 2 attrT o)]) (.tup []) (app emp [(0,.box [.row 1 ((o++(rawG x y).toList).length)]),(1,OR 2 attrT (o++(rawG x y).toList))]):=by
 refine .go Tryz.f109 ?_
 refine .bp [.r [],.r []] (seq y.name ({data:=#[]})) (fun h1=> ?_) (fun h1=> ?_)
 ·
  have e1:((o++(rawG x y).toList).length:Nat)=(o++[x]).length:=by
   simp only[z0q,z0H] at*;unfold rawG;(repeat' split)<;>simp_all
  have e2:((o++(rawG x y).toList):List Attr)=(o++[x]):=by
   simp only[z0q,z0H] at*;unfold rawG;(repeat' split)<;>simp_all
  exact .finE [.r [(3,X (rowC attrT [x] (Xap 2 attrT 1 o [x])))]] [(0,0),(1,1)] (fun((z0,z1):Nat×(List Attr))=>(.tup [],[(0,.box [.row 1 z0]),(1,OR 2 attrT z1)])) _ _ (pr e1 e2)
 ·
  refine .bp [.r []] (!(seq y.val ({data:=#[]}))) (fun h3=> ?_) (fun h3=> ?_)
  ·
   have e3:((o++(rawG x y).toList).length:Nat)=(o++[y]).length:=by
    simp only[z0q,z0H] at*;unfold rawG;(repeat' split)<;>simp_all
   have e4:((o++(rawG x y).toList):List Attr)=(o++[y]):=by
    simp only[z0q,z0H] at*;unfold rawG;(repeat' split)<;>simp_all
   exact .finE [.r [(3,X (rowC attrT [y] (Xap 2 attrT 1 o [y])))]] [(0,0),(1,1)] (fun((z0,z1):Nat×(List Attr))=>(.tup [],[(0,.box [.row 1 z0]),(1,OR 2 attrT z1)])) _ _ (pr e3 e4)
  ·
   have e5:((o++(rawG x y).toList).length:Nat)=o.length:=by
    simp only[z0q,z0H] at*;unfold rawG;(repeat' split)<;>simp_all
   have e6:((o++(rawG x y).toList):List Attr)=o:=by
    simp only[z0q,z0H] at*;unfold rawG;(repeat' split)<;>simp_all
   exact .finE [] [(0,0),(1,1)] (fun((z0,z1):Nat×(List Attr))=>(.tup [],[(0,.box [.row 1 z0]),(1,OR 2 attrT z1)])) _ _ (pr e5 e6)
theorem y8x(o:List Attr)(x y:Attr)(hn:o.length<1099511627776):FC Tryz.prog 219 [.t (attrT x),.t (attrT y),.ptr 0 0] (app emp [(0,.box [.row 1 o.length]),(1,OR 2 attrT o)]) (.tup []) (app emp [(0,.box [.row 1 ((o++(chgG x y).toList).length)]),(1,OR 2 attrT (o++(chgG x y).toList))]):=by
 refine .go Tryz.f219 ?_
 refine .bp [.r [],.r []] (seq y.name ({data:=#[]})) (fun h1=> ?_) (fun h1=> ?_)
 ·
  have e1:((o++(chgG x y).toList).length:Nat)=(o++[({name:=x.name,val:={data:=#[]}}:Attr)]).length:=by
   simp only[z0q,z0H] at*;unfold chgG;(repeat' split)<;>simp_all
  have e2:((o++(chgG x y).toList):List Attr)=(o++[({name:=x.name,val:={data:=#[]}}:Attr)]):=by
   simp only[z0q,z0H] at*;unfold chgG;(repeat' split)<;>simp_all
  exact .finE [.r [(5,X (rowC attrT [({name:=x.name,val:={data:=#[]}}:Attr)] (Xap 2 attrT 1 o [({name:=x.name,val:={data:=#[]}}:Attr)])))]] [(0,0),(1,1)] (fun((z0,z1):Nat×(List Attr))=>(.tup [],[(0,.box [.row 1 z0]),(1,OR 2 attrT z1)])) _ _ (pr e1 e2)
 ·
  refine .bp [.r []] (!(seq x.name y.name&&(seq x.val y.val&&true))) (fun h3=> ?_) (fun h3=> ?_)
  ·
   have e3:((o++(chgG x y).toList).length:Nat)=(o++[y]).length:=by
    simp only[z0q,z0H] at*;unfold chgG;(repeat' split)<;>simp_all
   have e4:((o++(chgG x y).toList):List Attr)=(o++[y]):=by
    simp only[z0q,z0H] at*;unfold chgG;(repeat' split)<;>simp_all
   exact .finE [.r [(3,X (rowC attrT [y] (Xap 2 attrT 1 o [y])))]] [(0,0),(1,1)] (fun((z0,z1):Nat×(List Attr))=>(.tup [],[(0,.box [.row 1 z0]),(1,OR 2 attrT z1)])) _ _ (pr e3 e4)
  ·
   have e5:((o++(chgG x y).toList).length:Nat)=o.length:=by
    simp only[z0q,z0H] at*;unfold chgG;(repeat' split)<;>simp_all
   have e6:((o++(chgG x y).toList):List Attr)=o:=by
    simp only[z0q,z0H] at*;unfold chgG;(repeat' split)<;>simp_all
   exact .finE [] [(0,0),(1,1)] (fun((z0,z1):Nat×(List Attr))=>(.tup [],[(0,.box [.row 1 z0]),(1,OR 2 attrT z1)])) _ _ (pr e5 e6)
theorem y8y(o:List Attr)(x y:Attr)(hn:o.length<1099511627776):FC Tryz.prog 182 [.t (attrT x),.t (attrT y),.ptr 0 0] (app emp [(0,.box [.row 1 o.length]),(1,OR 2 attrT o)]) (.tup []) (app emp [(0,.box [.row 1 ((o++(wioG x y).toList).length)]),(1,OR 2 attrT (o++(wioG x y).toList))]):=by
 refine .go Tryz.f182 ?_
 refine .bp [.r [],.r []] (seq y.name ({data:=#[]})) (fun h1=> ?_) (fun h1=> ?_)
 ·
  have e1:((o++(wioG x y).toList).length:Nat)=(o++[x]).length:=by
   simp only[z0q,z0H] at*;unfold wioG;(repeat' split)<;>simp_all
  have e2:((o++(wioG x y).toList):List Attr)=(o++[x]):=by
   simp only[z0q,z0H] at*;unfold wioG;(repeat' split)<;>simp_all
  exact .finE [.r [(3,X (rowC attrT [x] (Xap 2 attrT 1 o [x])))]] [(0,0),(1,1)] (fun((z0,z1):Nat×(List Attr))=>(.tup [],[(0,.box [.row 1 z0]),(1,OR 2 attrT z1)])) _ _ (pr e1 e2)
 ·
  have e3:((o++(wioG x y).toList).length:Nat)=o.length:=by
   simp only[z0q,z0H] at*;unfold wioG;(repeat' split)<;>simp_all
  have e4:((o++(wioG x y).toList):List Attr)=o:=by
   simp only[z0q,z0H] at*;unfold wioG;(repeat' split)<;>simp_all
  exact .finE [] [(0,0),(1,1)] (fun((z0,z1):Nat×(List Attr))=>(.tup [],[(0,.box [.row 1 z0]),(1,OR 2 attrT z1)])) _ _ (pr e3 e4)
theorem y8z(o:List Attr)(x y:Attr)(hn:o.length<1099511627776):FC Tryz.prog 183 [.t (attrT x),.t (attrT y),.ptr 0 0] (app emp [(0,.box [.row 1 o.length]),(1,OR 2 attrT o)]) (.tup []) (app emp [(0,.box [.row 1 ((o++(botG x y).toList).length)]),(1,OR 2 attrT (o++(botG x y).toList))]):=by
 refine .go Tryz.f183 ?_
 refine .bp [.r [],.r []] (seq y.name ({data:=#[]})) (fun h1=> ?_) (fun h1=> ?_)
 ·
  have e1:((o++(botG x y).toList).length:Nat)=(o++[x]).length:=by
   simp only[z0q,z0H] at*;unfold botG;(repeat' split)<;>simp_all
  have e2:((o++(botG x y).toList):List Attr)=(o++[x]):=by
   simp only[z0q,z0H] at*;unfold botG;(repeat' split)<;>simp_all
  exact .finE [.r [],.r [(3,X (rowC attrT [x] (Xap 2 attrT 1 o [x])))]] [(0,0),(1,1)] (fun((z0,z1):Nat×(List Attr))=>(.tup [],[(0,.box [.row 1 z0]),(1,OR 2 attrT z1)])) _ _ (pr e1 e2)
 ·
  have e3:((o++(botG x y).toList).length:Nat)=(o++[y]).length:=by
   simp only[z0q,z0H] at*;unfold botG;(repeat' split)<;>simp_all
  have e4:((o++(botG x y).toList):List Attr)=(o++[y]):=by
   simp only[z0q,z0H] at*;unfold botG;(repeat' split)<;>simp_all
  exact .finE [.r [(3,X (rowC attrT [y] (Xap 2 attrT 1 o [y])))]] [(0,0),(1,1)] (fun((z0,z1):Nat×(List Attr))=>(.tup [],[(0,.box [.row 1 z0]),(1,OR 2 attrT z1)])) _ _ (pr e3 e4)
theorem z4s(a b:List Attr)(hn:a.length+b.length<1099511627776):FC Tryz.prog 58 [VL 2 attrT a,VL 2 attrT b] (app emp []) (VL 2 attrT (fm rawG a b)) (app emp []):=by
 refine .go Tryz.f58 ?_
 refine .len 0 (fun hl0=> ?_)
 refine .len 1 (fun hl1=> ?_)
 exact .fin [.r [],.r [],.le (.nB 8 0 2),.r [(3,X (Xc3 41 [(0,8),(1,16)] (z7R 109 rawG (by kernel_rfl) y8w a b [] (by simp;omega)) X0))],.r [],.le (.fr 4 [(((fm rawG a b).length):Nat)=(List.map attrT (fm rawG a b)).length] ⟨lm,trivial⟩)] []
theorem z3q(a b:List Attr)(hn:a.length+b.length<1099511627776):FC Tryz.prog 158 [VL 2 attrT a,VL 2 attrT b] (app emp []) (VL 2 attrT (fm chgG a b)) (app emp []):=by
 refine .go Tryz.f158 ?_
 refine .len 0 (fun hl0=> ?_)
 refine .len 1 (fun hl1=> ?_)
 exact .fin [.r [],.r [],.le (.nB 8 0 2),.r [(3,X (Xc3 41 [(0,8),(1,16)] (z7R 219 chgG (by kernel_rfl) y8x a b [] (by simp;omega)) X0))],.r [],.le (.fr 4 [(((fm chgG a b).length):Nat)=(List.map attrT (fm chgG a b)).length] ⟨lm,trivial⟩)] []
theorem y2R(a b:List Attr)(hn:a.length+b.length<1099511627776):FC Tryz.prog 119 [VL 2 attrT a,VL 2 attrT b] (app emp []) (VL 2 attrT (fm wioG a b)) (app emp []):=by
 refine .go Tryz.f119 ?_
 refine .len 0 (fun hl0=> ?_)
 refine .len 1 (fun hl1=> ?_)
 exact .fin [.r [],.r [],.le (.nB 8 0 2),.r [(3,X (Xc3 41 [(0,8),(1,16)] (z7R 182 wioG (by kernel_rfl) y8y a b [] (by simp;omega)) X0))],.r [],.le (.fr 4 [(((fm wioG a b).length):Nat)=(List.map attrT (fm wioG a b)).length] ⟨lm,trivial⟩)] []
theorem y6r(a b:List Attr)(hn:a.length+b.length<1099511627776):FC Tryz.prog 121 [VL 2 attrT a,VL 2 attrT b] (app emp []) (VL 2 attrT (fm botG a b)) (app emp []):=by
 refine .go Tryz.f121 ?_
 refine .len 0 (fun hl0=> ?_)
 refine .len 1 (fun hl1=> ?_)
 exact .fin [.r [],.r [],.le (.nB 8 0 2),.r [(3,X (Xc3 41 [(0,8),(1,16)] (z7R 183 botG (by kernel_rfl) y8z a b [] (by simp;omega)) X0))],.r [],.le (.fr 4 [(((fm botG a b).length):Nat)=(List.map attrT (fm botG a b)).length] ⟨lm,trivial⟩)] []

end Go.Ch
end
section
namespace Go.Ch
open Go Go.Ab
def NPg(s:ByteArray):Prop:=z1k s=true
def VPg(s:ByteArray):Prop:=valGo s=true
theorem np_mt:¬NPg mt:=by
 unfold NPg z1k
 rw[decide_eq_false (by intro h;have:=h.1;simp[ByteArray.size] at this)]
 decide
theorem vp_mt:¬VPg mt:=by
 unfold VPg valGo
 rw[decide_eq_false (by intro h;have:=h.1;simp[ByteArray.size] at this)]
 decide
abbrev VG:=V NPg VPg
theorem z2e{a:Attr}{l:List Attr}{k:Nat}:(a::l).getD (k+1) default=l.getD k default:=by simp[List.getD]
theorem y2S{a:Attr}{l:List Attr}:(a::l).getD 0 default=a:=rfl
theorem z4t:∀{l:List Attr},(∀k,k+1<l.length->slt (l.getD k default).name (l.getD (k+1) default).name=true)->z1c l
 | [],_=>trivial
 | [a],_=>⟨fun b hb=>(by cases hb),trivial⟩
 |a::b::l,h=>by
  have ih:=z4t (l:=b::l) (fun k hk=>by have:=h (k+1) (by simp at hk|-;omega);simpa using this)
  have h0:=h 0 (by simp)
  simp only[y2S,z2e] at h0
  refine⟨fun c hc=> ?_,ih⟩
  rcases qn.1 hc with rfl|hc
  ·exact h0
  ·exact z2c h0 (ih.1 c hc)
theorem z4u:∀{l:List Attr},z1c l->∀k,k+1<l.length->slt (l.getD k default).name (l.getD (k+1) default).name=true
 | [],_,k,hk=>by simp at hk
 |a::l,h,0,hk=>by
  cases l with
  |nil=>simp at hk
  |cons b l=>exact h.1 b (by simp)
 |a::l,h,k+1,hk=>by
  have:=z4u h.2 k (by simp at hk;omega)
  rw[z2e,z2e];exact this
theorem y6s{l:List Attr}{k:Nat}(h:k<l.length):l.getD k default∈l:=by
 rw[show l.getD k default=l[k] by simp[List.getD,qa h]]
 exact zx h
theorem y6t{l:List Attr}{a:Attr}(h:a∈l):∃k,k<l.length/\l.getD k default=a:=by
 obtain⟨k,hk,e⟩:=zn.1 h
 exact⟨k,hk,by rw[<-e];simp[List.getD,qa hk]⟩
theorem y1y(e:Bool)(l:List Attr):∀(n i:Nat),l.length-i=n->(chkA e l i=0↔∀k,i<=k->k<l.length->Q NPg VPg e (l.getD k default).name (l.getD k default).val/\(0<k->slt (l.getD (k- 1) default).name (l.getD k default).name=true))
 |0,i,h=>by
  rw[chkA,if_neg (by omega)]
  exact⟨fun _ k h1 h2=>by omega,fun _=>rfl⟩
 |n+1,i,h=>by
  have hi:i<l.length:=by omega
  have ih:=y1y e l n (i+1) (by omega)
  rw[chkA,if_pos hi]
  have step:(∀k,i<=k->k<l.length->Q NPg VPg e (l.getD k default).name (l.getD k default).val/\(0<k->slt (l.getD (k- 1) default).name (l.getD k default).name=true))↔
   (Q NPg VPg e (l.getD i default).name (l.getD i default).val/\(0<i->slt (l.getD (i- 1) default).name (l.getD i default).name=true))/\chkA e l (i+1)=0:=by
   rw[ih]
   constructor
   ·exact fun h=>⟨h i (qr _) hi,fun k h1 h2=>h k (by omega) h2⟩
   ·rintro⟨h1,h2⟩ k h3 h4
    by_cases e:k=i
    ·subst e;exact h1
    ·exact h2 k (by omega) h4
  rw[step]
  generalize(l.getD i default)=x
  generalize(l.getD (i- 1) default)=y
  unfold Q NPg VPg
  have hm:seq x.val {data:=#[]}=true↔x.val=mt:=z0q
  have hm2:seq x.val {data:=#[]}=false↔x.val≠mt:=z0H
  simp only[y7P,hm2]
  cases h1:z1k x.name with
  |false=>simp
  |true=>
   rw[if_neg (by decide)]
   cases h2:valGo x.val with
   |false=>
    by_cases h3:e=false\/x.val≠mt
    ·rw[if_pos ⟨rfl,h3⟩]
     constructor
     ·intro h;cases h
     ·rintro⟨⟨⟨_,h| ⟨h,h'⟩⟩,_⟩,_⟩
      ·cases h
      ·rcases h3 with h3|h3
       ·rw[h3] at h;cases h
       ·exact absurd h' h3
    ·rw[if_neg (fun h=>h3 h.2)]
     have he:e=true:=by cases e with|true=>rfl|false=>exact absurd (.inl rfl) h3
     have hx:x.val=mt:=qk fun h=>h3 (.inr h)
     by_cases h4:0<i/\slt y.name x.name=false
     ·rw[if_pos h4]
      constructor
      ·intro h;cases h
      ·rintro⟨⟨_,h⟩,_⟩;rw[h h4.1] at h4;cases h4.2
     ·rw[if_neg h4]
      refine⟨fun h=>⟨⟨⟨rfl,.inr ⟨he,hx⟩⟩,fun h0=> ?_⟩,h⟩,fun h=>h.2⟩
      cases h5:slt y.name x.name with
      |true=>rfl
      |false=>exact absurd ⟨h0,h5⟩ h4
   |true=>
    rw[if_neg (fun h=>by cases h.1)]
    by_cases h4:0<i/\slt y.name x.name=false
    ·rw[if_pos h4]
     constructor
     ·intro h;cases h
     ·rintro⟨⟨_,h⟩,_⟩;rw[h h4.1] at h4;cases h4.2
    ·rw[if_neg h4]
     refine⟨fun h=>⟨⟨⟨rfl,.inl rfl⟩,fun h0=> ?_⟩,h⟩,fun h=>h.2⟩
     cases h5:slt y.name x.name with
     |true=>rfl
     |false=>exact absurd ⟨h0,h5⟩ h4
theorem z1H{e:Bool}{l:List Attr}:chkA e l 0=0↔VG e l:=by
 rw[y1y e l l.length 0 (by omega)]
 constructor
 ·intro h
  refine⟨z4t (fun k hk=>(h (k+1) (by omega) hk).2 (by omega)),fun a ha=> ?_⟩
  obtain⟨k,hk,rfl⟩:=y6t ha
  exact(h k (by omega) hk).1
 ·intro h k _ hk
  refine⟨h.2 _ (y6s hk),fun h0=> ?_⟩
  have:=z4u h.1 (k- 1) (by omega)
  rw[show k- 1+1=k by omega] at this
  exact this
theorem z6Y(a:List Attr):∀(n i:Nat),a.length-i=n->sameA a a i=true
 |0,i,h=>by rw[sameA,if_neg (by omega)]
 |n+1,i,h=>by
  have hi:i<a.length:=by omega
  rw[sameA,if_pos hi,if_pos ⟨rfl,rfl⟩,z6Y a n (i+1) (by omega)]
theorem z14(a:List Attr):sameL a a=true:=by unfold sameL;rw[z6Y a _ 0 rfl];simp
theorem z8Y(l:List Attr)(x:ByteArray):∀(n i:Nat),l.length-i=n->getA l x i=(look (l.drop i) x).getD mt
 |0,i,h=>by rw[getA,if_neg (by omega),z4r (by omega)];rfl
 |n+1,i,h=>by
  have hi:i<l.length:=by omega
  rw[getA,if_pos hi,z31 hi,look]
  split
  ·rfl
  ·exact z8Y l x n (i+1) (by omega)
theorem z7S(l:List Attr)(x:ByteArray):getA l x 0=(look l x).getD mt:=z8Y l x _ 0 rfl
structure Elem where
 char:Int
 ref:Int
 attrs:List Attr
instance:Inhabited Elem:=⟨⟨0,0,[]⟩⟩
def elemT(e:Elem):Tree:= .agg [.sc (.int .i64 e.char),.sc (.int .i64 e.ref),.lst 2 (e.attrs.map attrT)]
def CharP(c:Int):Prop:=c=9\/c=10\/(32<=c/\c<127)\/(160<=c/\c<55296)\/(57343<c/\c<=1114111)
instance (c:Int):Decidable (CharP c):=by unfold CharP;infer_instance
def elemE(x:Elem):Int:=
 if x.char=0↔x.ref=0 then 4
 else if(x.ref=0/\¬CharP x.char)\/(x.ref≠0/\(x.ref<1\/1073741824<x.ref)) then 2
 else chkA false x.attrs 0
theorem z6k{x:Elem}(h:x.char=0↔x.ref=0):elemE x=4:=by unfold elemE;rw[if_pos h]
theorem z2A{x:Elem}(h:¬(x.char=0↔x.ref=0))(h2:(x.ref=0/\¬CharP x.char)\/(x.ref≠0/\(x.ref<1\/1073741824<x.ref))):elemE x=2:=by unfold elemE;rw[if_neg h,if_pos h2]
theorem z32{x:Elem}(h:¬(x.char=0↔x.ref=0))(h3:¬x.ref=0\/CharP x.char)(h4:x.ref=0\/(1<=x.ref/\x.ref<=1073741824)):elemE x=chkA false x.attrs 0:=by
 unfold elemE
 rw[if_neg h,if_neg]
 rintro(⟨a,b⟩| ⟨a,b⟩)
 ·rcases h3 with h3|h3
  ·exact h3 a
  ·exact b h3
 ·rcases h4 with h4|h4
  ·exact a h4
  ·omega
def partE(l:List Elem)(i:Nat):Int:=if i<l.length then(if elemE (l.getD i default)=0 then partE l (i+1) else elemE (l.getD i default)) else 0
termination_by l.length-i
def SzE(l:List Elem):Prop:=∀x∈l,Szd x.attrs
theorem z1O{l:List Elem}{k:Nat}(h:k<l.length):l.getD k default∈l:=by
 rw[show l.getD k default=l[k] by simp[List.getD,qa h]]
 exact zx h
def sameE(x y:Elem):Bool:=(x.char==y.char&&x.ref==y.ref)&&sameL x.attrs y.attrs
def z2f(a b:List Elem)(i:Nat):Bool:=if i<a.length then(if sameE (a.getD i default) (b.getD i default)=true then z2f a b (i+1) else false) else true
termination_by a.length-i
def sameF(a b:List Elem):Bool:=decide (a.length=b.length)&&z2f a b 0
theorem y2T(x:Elem):sameE x x=true:=by unfold sameE;rw[z14];simp
theorem z6l(a:List Elem):∀(n i:Nat),a.length-i=n->z2f a a i=true
 |0,i,h=>by rw[z2f,if_neg (by omega)]
 |n+1,i,h=>by
  have hi:i<a.length:=by omega
  rw[z2f,if_pos hi,if_pos (y2T _),z6l a n (i+1) (by omega)]
theorem y2U(a:List Elem):sameF a a=true:=by unfold sameF;rw[z6l a _ 0 rfl];simp
theorem z8Z(a b:List Attr):∀(n i:Nat),a.length-i=n->sameA a b i=true->∀k,i<=k->k<a.length->a.getD k default=b.getD k default
 |0,i,h,_=>fun k h1 h2=>by omega
 |n+1,i,h,hs=>by
  have hi:i<a.length:=by omega
  rw[sameA,if_pos hi] at hs
  split at hs
  ·rename_i he
   intro k h1 h2
   by_cases e:k=i
   ·subst e
    generalize a.getD k default=x at*
    generalize b.getD k default=y at*
    cases x;cases y;simp_all
   ·exact z8Z a b n (i+1) (by omega) hs k (by omega) h2
  ·cases hs
theorem z5x{a b:List Attr}:sameL a b=true↔a=b:=by
 constructor
 ·intro h
  unfold sameL at h
  simp only[qd,decide_eq_true_eq] at h
  refine List.ext_getElem h.1 (fun k h1 h2=> ?_)
  have:=z8Z a b _ 0 rfl h.2 k (by omega) h1
  simpa[List.getD,qa h1,qa h2] using this
 ·intro h;subst h;exact z14 _
theorem z80(l:List Elem):∀(n i:Nat),l.length-i=n->(partE l i=0↔∀k,i<=k->k<l.length->elemE (l.getD k default)=0)
 |0,i,h=>by rw[partE,if_neg (by omega)];exact⟨fun _ k h1 h2=>by omega,fun _=>rfl⟩
 |n+1,i,h=>by
  have hi:i<l.length:=by omega
  have ih:=z80 l n (i+1) (by omega)
  rw[partE,if_pos hi]
  by_cases e:elemE (l.getD i default)=0
  ·rw[if_pos e,ih]
   constructor
   ·intro h k h1 h2
    by_cases ek:k=i
    ·subst ek;exact e
    ·exact h k (by omega) h2
   ·exact fun h k h1 h2=>h k (by omega) h2
  ·rw[if_neg e]
   exact⟨fun h=>absurd h e,fun h=>h i (qr _) hi⟩
theorem z2s{l:List Elem}:partE l 0=0↔∀x∈l,elemE x=0:=by
 rw[z80 l _ 0 rfl]
 constructor
 ·intro h x hx
  obtain⟨k,hk,e⟩:=zn.1 hx
  have:=h k (by omega) hk
  rw[<-e]
  simpa[List.getD,qa hk] using this
 ·exact fun h k _ hk=>h _ (z1O hk)
theorem z7T{x:Elem}(h:elemE x=0):VG false x.attrs:=by
 unfold elemE at h
 split at h
 ·omega
 ·split at h
  ·omega
  ·exact z1H.1 h
end Go.Ch
end
section
set_option maxRecDepth 100000
set_option maxHeartbeats 4000000
open Go Go.Proofs Go.Ab
namespace Go.Ch
theorem y4b(c:Int):FC Tryz.prog 53 [VI c] (app emp []) (VB (decide (CharP c))) (app emp []):=by
 refine .go Tryz.f53 ?_
 have e1:((decide (CharP c)):Bool)=(((((c==9)|| (c==10))|| (decide (c>=32)&&decide (c<127)))|| (decide (c>=160)&&decide (c<55296)))|| (decide (c>57343)&&decide (c<=1114111))):=by
  rw[zj,decide_eq_true_iff];unfold CharP;simp only[qS,qd,decide_eq_true_eq,beq_iff_eq];constructor<;>intro hh<;>omega
 exact .finE [.r [],.r [(4,Xv 1 (!(c==9)) X0),(5,X (Xk' (c==9))),(8,Xv 1 (!((c==9)|| (c==10))) X0),(9,Xv 1 (!((c==9)|| (c==10))) X0),(11,Xv 1 ((!((c==9)|| (c==10)))&&(decide (c>=32))) X0),(12,Xka (!((c==9)|| (c==10))) (decide (c>=32))),(13,X (Xk' ((c==9)|| (c==10)))),(16,Xv 1 (!(((c==9)|| (c==10))|| (decide (c>=32)&&decide (c<127)))) X0),(17,Xv 1 (!(((c==9)|| (c==10))|| (decide (c>=32)&&decide (c<127)))) X0),(19,Xv 1 ((!(((c==9)|| (c==10))|| (decide (c>=32)&&decide (c<127))))&&(decide (c>=160))) X0),(20,Xka (!(((c==9)|| (c==10))|| (decide (c>=32)&&decide (c<127)))) (decide (c>=160))),(21,X (Xk' (((c==9)|| (c==10))|| (decide (c>=32)&&decide (c<127))))),(24,Xv 1 (!((((c==9)|| (c==10))|| (decide (c>=32)&&decide (c<127)))|| (decide (c>=160)&&decide (c<55296)))) X0),(25,Xv 1 (!((((c==9)|| (c==10))|| (decide (c>=32)&&decide (c<127)))|| (decide (c>=160)&&decide (c<55296)))) X0),(27,Xv 1 ((!((((c==9)|| (c==10))|| (decide (c>=32)&&decide (c<127)))|| (decide (c>=160)&&decide (c<55296))))&&(decide (c>57343))) X0),(28,Xka (!((((c==9)|| (c==10))|| (decide (c>=32)&&decide (c<127)))|| (decide (c>=160)&&decide (c<55296)))) (decide (c>57343))),(29,X (Xk' ((((c==9)|| (c==10))|| (decide (c>=32)&&decide (c<127)))|| (decide (c>=160)&&decide (c<55296)))))]] [] (fun z0:Bool=>(VB z0,[])) _ _ e1
theorem fc_in(x a b:Int):FC Tryz.prog 7 [VI x,VI a,VI b] (app emp []) (VB (decide (a<=x/\x<=b))) (app emp []):=by
 refine .go Tryz.f7 ?_
 have e1:((decide (a<=x/\x<=b)):Bool)=(decide (x>=a)&&decide (x<=b)):=by
  rw[zj];simp;try omega
 exact .finE [.r [],.r [(6,Xv 2 (decide (x>=a)) X0),(7,X (Xk (decide (x>=a))))]] [] (fun z0:Bool=>(VB z0,[])) _ _ e1
theorem y6u(c:Int):FC Tryz.prog 22 [VI c] (app emp []) (VB (decide (CharP c))) (app emp []):=by
 refine .go Tryz.f22 ?_
 have e1:((decide (CharP c)):Bool)=(((((c==9)|| (c==10))|| (decide (32<=c/\c<=126)))|| (decide (160<=c/\c<=55295)))|| (decide (57344<=c/\c<=1114111))):=by
  rw[zj,decide_eq_true_iff];unfold CharP;simp only[qS,qd,decide_eq_true_eq,beq_iff_eq];constructor<;>intro hh<;>omega
 exact .finE [.r [],.r [(4,Xv 1 (!(c==9)) X0),(5,X (Xk' (c==9))),(8,Xv 1 (!((c==9)|| (c==10))) (Xc0 (fc_in c 32 126) X0)),(9,X (Xk' ((c==9)|| (c==10)))),(12,Xv 1 (!(((c==9)|| (c==10))|| (decide (32<=c/\c<=126)))) (Xc0 (fc_in c 160 55295) X0)),(13,X (Xk' (((c==9)|| (c==10))|| (decide (32<=c/\c<=126))))),(16,Xv 1 (!((((c==9)|| (c==10))|| (decide (32<=c/\c<=126)))|| (decide (160<=c/\c<=55295)))) (Xc0 (fc_in c 57344 1114111) X0)),(17,X (Xk' ((((c==9)|| (c==10))|| (decide (32<=c/\c<=126)))|| (decide (160<=c/\c<=55295)))))]] [] (fun z0:Bool=>(VB z0,[])) _ _ e1
theorem z1x{a b:Int}:((a !=0)=(b !=0))↔(a=0↔b=0):=by
 rw[zj];simp;omega
theorem y4c(x:Elem):FC Tryz.prog 84 [.t (elemT x)] (app emp []) (VI (elemE x)) (app emp []):=by
 refine .go Tryz.f84 ?_
 refine .bp [.r [],.r []] ((x.char !=0)==(x.ref !=0)) (fun h1=> ?_) (fun h1=> ?_)
 ·
  have e1:((elemE x):Int)=4:=by
   first|exact z6k (z1x.1 h1)|exact z2A (fun h=>h1 (z1x.2 h)) (.inl h3)|exact z2A (fun h=>h1 (z1x.2 h)) (.inr h4)|exact z32 (fun h=>h1 (z1x.2 h)) h3 h4| (exfalso;simp_all;done)
  exact .finE [.r []] [] (fun z0:Int=>(VI z0,[])) _ _ e1
 ·
  refine .bp [.r [(5,Xv 1 (x.ref==0) X0),(6,Xv 1 (x.ref==0) (Xc0 (y4b x.char) X0)),(7,Xv 1 (x.ref==0) X0),(8,X (Xk (x.ref==0)))]] ((x.ref==0)&& !(decide (CharP x.char))) (fun h3=> ?_) (fun h3=> ?_)
  ·
   refine .bp [] ((x.ref==0)&& !(decide (CharP x.char))) (fun h3=> ?_) (fun h3=> ?_)
   ·
    have e2:((elemE x):Int)=2:=by
     first|exact z6k (z1x.1 h1)|exact z2A (fun h=>h1 (z1x.2 h)) (.inl h3)|exact z2A (fun h=>h1 (z1x.2 h)) (.inr h4)|exact z32 (fun h=>h1 (z1x.2 h)) h3 h4| (exfalso;simp_all;done)
    exact .finE [.r []] [] (fun z0:Int=>(VI z0,[])) _ _ e2
   ·
    have e3:((elemE x):Int)=(chkA false x.attrs 0):=by
     first|exact z6k (z1x.1 h1)|exact z2A (fun h=>h1 (z1x.2 h)) (.inl h3)|exact z2A (fun h=>h1 (z1x.2 h)) (.inr h4)|exact z32 (fun h=>h1 (z1x.2 h)) h3 h4| (exfalso;simp_all;done)
    exact .finE [.r [(2,X (Xc0 (z3p x.attrs) X0))]] [] (fun z0:Int=>(VI z0,[])) _ _ e3
  ·
   refine .bp [.r [(5,Xv 1 (x.ref !=0) X0),(6,Xv 1 (x.ref !=0) X0),(7,Xv 1 (x.ref !=0) X0),(9,Xv 1 ((x.ref !=0)&& !(decide (x.ref<1))) X0),(10,Xv 1 ((x.ref !=0)&& !(decide (x.ref<1))) X0),(11,Xko (x.ref !=0) (decide (x.ref<1))),(12,X (Xk (x.ref !=0)))]] ((x.ref !=0)&&(decide (x.ref<1)||decide (x.ref>1073741824))) (fun h4=> ?_) (fun h4=> ?_)
   ·
    have e4:((elemE x):Int)=2:=by
     first|exact z6k (z1x.1 h1)|exact z2A (fun h=>h1 (z1x.2 h)) (.inl h3)|exact z2A (fun h=>h1 (z1x.2 h)) (.inr h4)|exact z32 (fun h=>h1 (z1x.2 h)) h3 h4| (exfalso;simp_all;done)
    exact .finE [.r []] [] (fun z0:Int=>(VI z0,[])) _ _ e4
   ·
    have e5:((elemE x):Int)=(chkA false x.attrs 0):=by
     first|exact z6k (z1x.1 h1)|exact z2A (fun h=>h1 (z1x.2 h)) (.inl h3)|exact z2A (fun h=>h1 (z1x.2 h)) (.inr h4)|exact z32 (fun h=>h1 (z1x.2 h)) h3 h4| (exfalso;simp_all;done)
    exact .finE [.r [(2,X (Xc0 (z3p x.attrs) X0))]] [] (fun z0:Int=>(VI z0,[])) _ _ e5
theorem z1P(l:List Elem):FC Tryz.prog 40 [VL 3 elemT l] (app emp []) (VI (partE l 0)) (app emp []):=by
 refine .go Tryz.f40 ?_
 refine .len 0 (fun hl0=> ?_)
 refine .loop (α:=Nat) [.r [],.r [(1,X (Xl elemT l))]] 32 (fun i=>([(6,VL 3 elemT l),(7,VI (l.length:Int)),(8,VI (i:Int))],[])) (fun i=>i<=l.length/\partE l 0=partE l i) (fun i=>l.length-i) (0:Nat) ?_ ?_
 ·
  exact⟨by omega,rfl⟩
 rintro i I2 ih2
 try dsimp only at I2
 refine .bp [.r []] (decide ((i:Int)< (l.length:Int))) (fun h2=> ?_) (fun h2=> ?_)
 ·
  refine .bp [.r [(0,X (Xi elemT l (i:Int)))],.r [(1,X (Xc0 (y4c ((l.getD i default))) X0))],.r []] ((elemE ((l.getD i default))) !=0) (fun h5=> ?_) (fun h5=> ?_)
  ·
   have e1:((partE l 0):Int)=(elemE ((l.getD i default))):=by
    rw[I2.2,partE];((repeat' split)<;>first|rfl|omega| (simp_all;done)| (simp_all;omega))
   exact .finE [.r []] [] (fun z0:Int=>(VI z0,[])) _ _ e1
  ·
   refine .back [.r [(0,X (Xn ((i:Int)+1)))]] [] (ih2 ((i+1):Nat) ?_ ?_)
   ·
    refine⟨by omega,?_⟩;rw[I2.2,partE,if_pos (by omega),if_pos (by omega)]
   ·
    ((try dsimp only);omega)
 ·
  have e2:((partE l 0):Int)=0:=by
   rw[I2.2,partE];((repeat' split)<;>first|rfl|omega| (simp_all;done)| (simp_all;omega))
  exact .finE [.r []] [] (fun z0:Int=>(VI z0,[])) _ _ e2
theorem z2g(a b:List Attr):FC Tryz.prog 76 [VL 2 attrT a,VL 2 attrT b] (app emp []) (VB (sameL a b)) (app emp []):=by
 refine .go Tryz.f76 ?_
 refine .len 0 (fun hl0=> ?_)
 refine .len 1 (fun hl1=> ?_)
 refine .bp [.r [],.r [(1,X (Xl attrT a)),(3,X (Xl attrT b))]] ((a.length:Int) !=(b.length:Int)) (fun h1=> ?_) (fun h1=> ?_)
 ·
  have e1:((sameL a b):Bool)=false:=by
   unfold sameL;rw[decide_eq_false (by omega)];rfl
  exact .finE [.r []] [] (fun z0:Bool=>(VB z0,[])) _ _ e1
 ·
  refine .loop (α:=Nat) [.r [(1,X (Xl attrT a))]] 72 (fun i=>([(0,VL 2 attrT a),(1,VL 2 attrT b),(12,VI (a.length:Int)),(13,VI (i:Int))],[])) (fun i=>i<=a.length/\sameA a b 0=sameA a b i) (fun i=>a.length-i) (0:Nat) ?_ ?_
  ·
   exact⟨by omega,rfl⟩
  rintro i I4 ih4
  try dsimp only at I4
  refine .bp [.r []] (decide ((i:Int)< (a.length:Int))) (fun h4=> ?_) (fun h4=> ?_)
  ·
   refine .bp [.r [],.r [(2,X (Xi attrT a (i:Int))),(6,X (Xi attrT b (i:Int)))]] (!(seq (((a.getD i default)).name) (((b.getD i default)).name)&&(seq (((a.getD i default)).val) (((b.getD i default)).val)&&true))) (fun h6=> ?_) (fun h6=> ?_)
   ·
    have e2:((sameL a b):Bool)=false:=by
     unfold sameL;rw[I4.2,sameA,if_pos (by omega),if_neg (by clear ih4;simp only[z0H,z0q] at h6;rintro⟨x,y⟩;simp_all)];simp
    exact .finE [.r []] [] (fun z0:Bool=>(VB z0,[])) _ _ e2
   ·
    refine .back [.r [(0,X (Xn ((i:Int)+1)))]] [] (ih4 ((i+1):Nat) ?_ ?_)
    ·
     refine⟨by omega,?_⟩;rw[I4.2,sameA,if_pos (by omega),if_pos (by clear ih4;simp only[z0H,z0q] at h6;simp_all)]
    ·
     ((try dsimp only);omega)
  ·
   have e3:((sameL a b):Bool)=true:=by
    unfold sameL;rw[I4.2,sameA,if_neg (by omega),decide_eq_true (by omega)];rfl
   exact .finE [.r []] [] (fun z0:Bool=>(VB z0,[])) _ _ e3
theorem y0n(x y:Elem):FC Tryz.prog 42 [.t (elemT x),.t (elemT y)] (app emp []) (VB (sameE x y)) (app emp []):=by
 refine .go Tryz.f42 ?_
 have e1:((sameE x y):Bool)=(((x.char==y.char)&&(x.ref==y.ref))&&(sameL x.attrs y.attrs)):=by
  rfl
 exact .finE [.r [],.r [(7,Xv 1 (x.char==y.char) X0),(9,Xv 1 (x.char==y.char) X0),(10,Xv 2 (x.char==y.char) X0),(11,X (Xk (x.char==y.char))),(14,Xv 1 ((x.char==y.char)&&(x.ref==y.ref)) X0),(16,Xv 1 ((x.char==y.char)&&(x.ref==y.ref)) X0),(17,Xv 2 ((x.char==y.char)&&(x.ref==y.ref)) (Xc0 (z8X x.attrs y.attrs) X0)),(18,X (Xk ((x.char==y.char)&&(x.ref==y.ref))))]] [] (fun z0:Bool=>(VB z0,[])) _ _ e1
theorem y0o(a b:List Elem):FC Tryz.prog 16 [VL 3 elemT a,VL 3 elemT b] (app emp []) (VB (sameF a b)) (app emp []):=by
 refine .go Tryz.f16 ?_
 refine .len 0 (fun hl0=> ?_)
 refine .len 1 (fun hl1=> ?_)
 refine .bp [.r [],.r [(1,X (Xl elemT a)),(3,X (Xl elemT b))]] ((a.length:Int) !=(b.length:Int)) (fun h1=> ?_) (fun h1=> ?_)
 ·
  have e1:((sameF a b):Bool)=false:=by
   unfold sameF;rw[decide_eq_false (by omega)];rfl
  exact .finE [.r []] [] (fun z0:Bool=>(VB z0,[])) _ _ e1
 ·
  refine .loop (α:=Nat) [.r [(1,X (Xl elemT a))]] 72 (fun i=>([(0,VL 3 elemT a),(1,VL 3 elemT b),(12,VI (a.length:Int)),(13,VI (i:Int))],[])) (fun i=>i<=a.length/\z2f a b 0=z2f a b i) (fun i=>a.length-i) (0:Nat) ?_ ?_
  ·
   exact⟨by omega,rfl⟩
  rintro i I4 ih4
  try dsimp only at I4
  refine .bp [.r []] (decide ((i:Int)< (a.length:Int))) (fun h4=> ?_) (fun h4=> ?_)
  ·
   refine .bp [.r [],.r [(2,X (Xi elemT a (i:Int))),(6,X (Xi elemT b (i:Int))),(8,X (Xc0 (y0n ((a.getD i default)) ((b.getD i default))) X0))]] (!(sameE ((a.getD i default)) ((b.getD i default)))) (fun h6=> ?_) (fun h6=> ?_)
   ·
    have e2:((sameF a b):Bool)=false:=by
     unfold sameF;rw[I4.2,z2f,if_pos (by omega),if_neg (by rw[h6];decide)];simp
    exact .finE [.r []] [] (fun z0:Bool=>(VB z0,[])) _ _ e2
   ·
    refine .back [.r [(0,X (Xn ((i:Int)+1)))]] [] (ih4 ((i+1):Nat) ?_ ?_)
    ·
     refine⟨by omega,?_⟩;rw[I4.2,z2f,if_pos (by omega),if_pos h6]
    ·
     ((try dsimp only);omega)
  ·
   have e3:((sameF a b):Bool)=true:=by
    unfold sameF;rw[I4.2,z2f,if_neg (by omega),decide_eq_true (by omega)];rfl
   exact .finE [.r []] [] (fun z0:Bool=>(VB z0,[])) _ _ e3
end Go.Ch
end
section
namespace Go.Ch
open Go Go.Ab
structure DStep where
 kind:Int
 n:Int
 attrs:List Attr
 elems:List Elem
instance:Inhabited DStep:=⟨⟨0,0,[],[]⟩⟩
def z0c(s:DStep):Tree:= .agg [.sc (.int .i64 s.kind),.sc (.int .i64 s.n),.lst 2 (s.attrs.map attrT),.lst 3 (s.elems.map elemT)]
def AN(n:Nat)(l:List Elem):Prop:=∀x∈l,x.attrs.length<=n
def stepD(s:DStep):Int:=
 if s.kind=1 then(if s.n≠0\/0<s.attrs.length then 4 else if s.elems.length=0 then 11 else partE s.elems 0)
 else if s.kind=0\/s.kind=2 then
  (if 0<s.elems.length\/(s.kind=2/\0<s.attrs.length) then 4 else if s.n<1\/2147483647<s.n then 2 else chkA true s.attrs 0)
 else 8
def szD(s:DStep):Int:=if s.kind=1 then(s.elems.length:Int) else s.n
def DOk(s:DStep):Prop:=
 (s.kind=1/\s.n=0/\s.attrs=[]/\s.elems≠[]/\∀x∈s.elems,elemE x=0)\/
 ((s.kind=0\/s.kind=2)/\s.elems=[]/\(s.kind=2->s.attrs=[])/\1<=s.n/\s.n<=2147483647/\VG true s.attrs)
theorem len0{α:Type}{l:List α}:¬0<l.length↔l=[]:=by
 rw[Nat.not_lt,Nat.le_zero,zN]
theorem z0J{s:DStep}:stepD s=0↔DOk s:=by
 unfold stepD DOk
 by_cases k1:s.kind=1
 ·rw[if_pos k1]
  by_cases c1:s.n≠0\/0<s.attrs.length
  ·rw[if_pos c1]
   constructor
   ·intro h;omega
   ·rintro(⟨_,h1,h2,_⟩| ⟨h,_⟩)
    ·rw[h2] at c1;simp at c1;omega
    ·omega
  rw[if_neg c1]
  by_cases c2:s.elems.length=0
  ·rw[if_pos c2]
   constructor
   ·intro h;omega
   ·rintro(⟨_,_,_,h,_⟩| ⟨h,_⟩)
    ·exact absurd (zN.1 c2) h
    ·omega
  rw[if_neg c2,z2s]
  have ha:s.attrs=[]:=len0.1 (by omega)
  constructor
  ·intro h
   exact .inl ⟨k1,by omega,ha,fun e=>c2 (by rw[e];rfl),h⟩
  ·rintro(⟨_,_,_,_,h⟩| ⟨h,_⟩)
   ·exact h
   ·omega
 rw[if_neg k1]
 by_cases k2:s.kind=0\/s.kind=2
 ·rw[if_pos k2]
  by_cases c1:0<s.elems.length\/(s.kind=2/\0<s.attrs.length)
  ·rw[if_pos c1]
   constructor
   ·intro h;omega
   ·rintro(⟨h,_⟩| ⟨_,h1,h2,_⟩)
    ·omega
    ·rcases c1 with c| ⟨c,d⟩
     ·rw[h1] at c;simp at c
     ·rw[h2 c] at d;simp at d
  rw[if_neg c1]
  by_cases c2:s.n<1\/2147483647<s.n
  ·rw[if_pos c2]
   constructor
   ·intro h;omega
   ·rintro(⟨h,_⟩| ⟨_,_,_,h1,h2,_⟩)<;>omega
  rw[if_neg c2,z1H]
  constructor
  ·intro h
   exact .inr ⟨k2,len0.1 (by omega),fun h2=>len0.1 (by omega),by omega,by omega,h⟩
  ·rintro(⟨h,_⟩| ⟨_,_,_,_,_,h⟩)
   ·omega
   ·exact h
 ·rw[if_neg k2]
  constructor
  ·intro h;omega
  ·rintro(⟨h,_⟩| ⟨h,_⟩)
   ·omega
   ·exact absurd h k2
theorem z0V{s:DStep}(h:stepD s=0):(s.kind=0\/s.kind=1\/s.kind=2)/\0<=s.n/\s.n<=2147483647/\1<=szD s/\szD s<=max 2147483647 s.elems.length:=by
 unfold szD
 rcases z0J.1 h with⟨k,n,a,e,_⟩| ⟨k,_,_,n1,n2,_⟩
 ·have:0<s.elems.length:=List.length_pos_iff.2 e
  rw[if_pos k];omega
 ·rw[if_neg (by omega)];omega
def adjD(w x:DStep):Bool:=((w.kind==x.kind)&&((x.kind !=0)||sameL w.attrs x.attrs))|| ((w.kind==2)&&(x.kind==1))
theorem z4v{w x:DStep}:adjD w x=true↔(w.kind=x.kind/\(¬x.kind=0\/sameL w.attrs x.attrs=true))\/(w.kind=2/\x.kind=1):=by
 unfold adjD;simp
theorem z3r{w x:DStep}(h:(¬w.kind=x.kind\/(x.kind=0/\sameL w.attrs x.attrs=false))/\(¬w.kind=2\/¬x.kind=1)):¬adjD w x=true:=by
 rw[z4v]
 rintro(⟨a,b⟩| ⟨a,b⟩)
 ·rcases h.1 with c| ⟨c,d⟩
  ·exact c a
  ·rcases b with b|b
   ·exact b c
   ·rw[d] at b;cases b
 ·rcases h.2 with c|c
  ·exact c a
  ·exact c b
def DN(n:Nat)(l:List DStep):Prop:=∀s∈l,s.elems.length<=n/\s.attrs.length<=n/\AN n s.elems
theorem DN.at_{n:Nat}{l:List DStep}(h:DN n l){k:Nat}(hk:k<l.length):(l.getD k default).elems.length<=n/\(l.getD k default).attrs.length<=n/\AN n (l.getD k default).elems:=by
 refine h _ ?_
 rw[show l.getD k default=l[k] by simp[List.getD,qa hk]]
 exact zx hk
def chkD(l:List DStep)(i:Nat)(b a:Int):Int:=
 if i<l.length then
  if stepD (l.getD i default)≠0 then stepD (l.getD i default)
  else if 0<i/\adjD (l.getD (i- 1) default) (l.getD i default)=true then 5
  else chkD l (i+1) (if(l.getD i default).kind≠1 then min (b+(l.getD i default).n) 2147483648 else b) (if(l.getD i default).kind≠2 then min (a+szD (l.getD i default)) 2147483648 else a)
 else if 2147483647<b\/2147483647<a then 3 else 0
termination_by l.length-i
def z0W(l:List DStep):Int:=chkD l 0 0 0
def oS(s:DStep):Int:=if s.kind=1 then 0 else s.n
def nS(s:DStep):Int:=if s.kind=2 then 0 else szD s
def oldD:List DStep->Int
 | []=>0
 |s::l=>oS s+oldD l
def newD:List DStep->Int
 | []=>0
 |s::l=>nS s+newD l
def DForm:List DStep->Prop
 | []=>True
 | [s]=>DOk s
 |s::t::l=>DOk s/\adjD s t=false/\DForm (t::l)
def z33(l:List DStep)(i:Nat):Prop:=∀k,i<=k->k<l.length->DOk (l.getD k default)/\(0<k->adjD (l.getD (k- 1) default) (l.getD k default)=false)
theorem dropD{α:Type}[Inhabited α]{l:List α}{i:Nat}(h:i<l.length):l.drop i=l.getD i default::l.drop (i+1):=by
 rw[zt h];simp[List.getD,qa h]
theorem oS_nn{s:DStep}(h:DOk s):0<=oS s/\0<=nS s:=by
 have:=z0V (z0J.2 h)
 unfold oS nS
 constructor<;>split<;>omega
theorem y1z{l:List DStep}{i:Nat}(h:z33 l i):∀s∈l.drop i,DOk s:=by
 intro s hs
 obtain⟨k,hk,e⟩:=zn.1 hs
 rw[zI] at hk
 have:=(h (i+k) (by omega) (by omega)).1
 rw[List.getElem_drop] at e
 rw[<-e]
 simpa[List.getD,qa (show i+k<l.length by omega)] using this
theorem z4W:∀{l:List DStep},(∀s∈l,DOk s)->0<=oldD l/\0<=newD l
 | [],_=>⟨zO _,zO _⟩
 |s::l,h=>by
  have h1:=oS_nn (h s (by simp))
  have h2:=z4W (l:=l) (fun t ht=>h t (by simp[ht]))
  simp only[oldD,newD];omega
theorem y1A(l:List DStep):∀(m i:Nat) (b a:Int),l.length-i=m->0<=b->0<=a->b<=2147483648->a<=2147483648->
 (chkD l i b a=0↔z33 l i/\b+oldD (l.drop i)<=2147483647/\a+newD (l.drop i)<=2147483647)
 |0,i,b,a,h,hb,ha,hb2,ha2=>by
  rw[chkD,if_neg (by omega),qT (by omega)]
  simp only[oldD,newD]
  split
  ·constructor
   ·intro h;omega
   ·rintro⟨_,h1,h2⟩;omega
  ·exact⟨fun _=>⟨fun k h1 h2=>by omega,by omega,by omega⟩,fun _=>rfl⟩
 |m+1,i,b,a,h,hb,ha,hb2,ha2=>by
  have hi:i<l.length:=by omega
  rw[chkD,if_pos hi]
  have step:z33 l i↔(DOk (l.getD i default)/\(0<i->adjD (l.getD (i- 1) default) (l.getD i default)=false))/\z33 l (i+1):=by
   constructor
   ·exact fun h=>⟨h i (qr _) hi,fun k h1 h2=>h k (by omega) h2⟩
   ·rintro⟨h1,h2⟩ k h3 h4
    by_cases e:k=i
    ·subst e;exact h1
    ·exact h2 k (by omega) h4
  rw[step,dropD hi]
  simp only[oldD,newD]
  have ih:=fun b' a'=>y1A l m (i+1) b' a' (by omega)
  have nn:=fun f:z33 l (i+1)=>z4W (y1z f)
  generalize l.getD i default=x at*
  generalize l.getD (i- 1) default=y at*
  by_cases c1:stepD x≠0
  ·rw[if_pos c1];constructor
   ·intro h;exact absurd h c1
   ·rintro⟨⟨⟨h,_⟩,_⟩,_⟩;exact absurd (z0J.2 h) c1
  rw[if_neg c1]
  have hs:=z0J.1 (by omega:stepD x=0)
  have hz:=z0V (by omega:stepD x=0)
  by_cases c3:0<i/\adjD y x=true
  ·rw[if_pos c3];constructor
   ·intro h;omega
   ·rintro⟨⟨⟨_,h⟩,_⟩,_⟩
    have:=h c3.1
    rw[c3.2] at this;cases this
  rw[if_neg c3,ih _ _ (by split<;>omega) (by split<;>omega) (by split<;>omega) (by split<;>omega)]
  unfold oS nS
  constructor
  ·rintro⟨f,h1,h2⟩
   obtain⟨n0,n1⟩:=nn f
   refine⟨⟨⟨hs,fun h0=> ?_⟩,f⟩,?_,?_⟩
   ·cases e:adjD y x
    ·rfl
    ·exact absurd ⟨h0,e⟩ c3
   ·by_cases k1:x.kind=1
    ·rw[if_pos k1];rw[if_neg (by omega)] at h1;omega
    ·rw[if_neg k1];rw[if_pos k1] at h1;omega
   ·by_cases k1:x.kind=2
    ·rw[if_pos k1];rw[if_neg (by omega)] at h2;omega
    ·rw[if_neg k1];rw[if_pos k1] at h2;omega
  ·rintro⟨⟨_,f⟩,h1,h2⟩
   obtain⟨n0,n1⟩:=nn f
   refine⟨f,?_,?_⟩
   ·by_cases k1:x.kind=1
    ·rw[if_pos k1] at h1;rw[if_neg (by omega)];omega
    ·rw[if_neg k1] at h1;rw[if_pos k1];omega
   ·by_cases k1:x.kind=2
    ·rw[if_pos k1] at h2;rw[if_neg (by omega)];omega
    ·rw[if_neg k1] at h2;rw[if_pos k1];omega
theorem z6m:∀{l:List DStep},z33 l 0->DForm l
 | [],_=>trivial
 | [s],h=>(h 0 (qr _) (by simp)).1
 |s::t::l,h=>by
  refine⟨(h 0 (qr _) (by simp)).1,(h 1 (by omega) (by simp)).2 (by omega),z6m (fun k h1 h2=> ?_)⟩
  have h2':k+1< (s::t::l).length:=by simp at h2|-;omega
  have:=h (k+1) (by omega) h2'
  simp only[List.getD_cons_succ] at this
  refine⟨this.1,fun h0=> ?_⟩
  have e:=this.2 (by omega)
  rw[show k+1- 1=(k- 1)+1 by omega,List.getD_cons_succ] at e
  exact e
theorem z2h:∀{l:List DStep},DForm l->z33 l 0
 | [],_=>fun k h1 h2=>by simp at h2
 | [s],h=>fun k h1 h2=>by
  have:k=0:=by simp at h2;omega
  subst this
  exact⟨h,fun h0=>by omega⟩
 |s::t::l,h=>fun k h1 h2=>by
  obtain⟨a,b,c⟩:=h
  rcases k with _|k
  ·exact⟨a,fun h0=>by omega⟩
  ·have:=z2h c k (qp _) (by simp at h2|-;omega)
   rw[List.getD_cons_succ]
   refine⟨this.1,fun _=> ?_⟩
   rcases k with _|k
   ·exact b
   ·rw[Nat.add_sub_cancel,List.getD_cons_succ]
    have e:=this.2 (by omega)
    rw[Nat.add_sub_cancel] at e
    exact e
def z0D(l:List DStep):Prop:=DForm l/\oldD l<=2147483647/\newD l<=2147483647
theorem z0S{l:List DStep}:z0W l=0↔z0D l:=by
 unfold z0W z0D
 rw[y1A l _ 0 0 0 rfl (zO _) (zO _) (by decide) (by decide)]
 simp only[zS,Int.zero_add]
 exact⟨fun h=>⟨z6m h.1,h.2⟩,fun h=>⟨z2h h.1,h.2⟩⟩
theorem DForm.all{l:List DStep}(h:DForm l):∀s∈l,DOk s:=by
 have:=y1z (z2h h)
 simpa using this
theorem z15{l:List DStep}{i:Nat}(h:i<l.length)(hf:DForm l):oldD (l.drop i)=(if(l.getD i default).kind=1 then 0 else(l.getD i default).n)+oldD (l.drop (i+1))/\
 newD (l.drop i)=(if(l.getD i default).kind=2 then 0 else szD (l.getD i default))+newD (l.drop (i+1))/\DOk (l.getD i default)/\0<=oldD (l.drop (i+1))/\0<=newD (l.drop (i+1))/\0<=(l.getD i default).n/\1<=szD (l.getD i default)/\((l.getD i default).kind=0\/(l.getD i default).kind=1\/(l.getD i default).kind=2):=by
 have h1:=((z2h hf) i (qp _) h).1
 have h2:=z0V (z0J.2 h1)
 have h3:=z4W (l:=l.drop (i+1)) (fun s hs=>hf.all s (zc hs))
 rw[dropD h]
 exact⟨rfl,rfl,h1,h3.1,h3.2,h2.2.1,h2.2.2.2.1,h2.1⟩
theorem dend{l:List DStep}{i:Nat}(h:l.length<=i):oldD (l.drop i)=0/\newD (l.drop i)=0:=by rw[qT h];exact⟨rfl,rfl⟩
def adjR(w x:DStep):Prop:=if x.kind=1 then w.kind≠0 else if x.kind=2 then w.kind=2 else w.kind=0/\sameL w.attrs x.attrs=true
instance (w x:DStep):Decidable (adjR w x):=by unfold adjR;infer_instance
inductive DU where
 |K (c:List Attr)
 |A (e:Elem)
 |C
def exS(s:DStep):List DU:=if s.kind=1 then s.elems.map .A else if s.kind=2 then List.replicate s.n.toNat .C else List.replicate s.n.toNat (.K s.attrs)
def exD:List DStep->List DU
 | []=>[]
 |s::l=>exS s++exD l
theorem z4X(a b:List DStep):exD (a++b)=exD a++exD b:=by
 induction a with
 |nil=>rfl
 |cons s a ih=>simp[exD,ih]
def chgE(c:List Attr)(x:Elem):Elem:=⟨x.char,x.ref,fm rawG x.attrs c⟩
def z0h:List DU->List Elem->List Elem
 | [],_=>[]
 | .A e::u,l=>e::z0h u l
 | .K c::u,x::l=>chgE c x::z0h u l
 | .C::u,_::l=>z0h u l
 | .K _::u,[]=>z0h u []
 | .C::u,[]=>z0h u []
def oldN:List DU->Nat
 | []=>0
 | .A _::u=>oldN u
 |_::u=>oldN u+1
def newN:List DU->Nat
 | []=>0
 | .C::u=>newN u
 |_::u=>newN u+1
def UOk:List DU->Prop
 | []=>True
 | .K c::u=>VG true c/\UOk u
 |_::u=>UOk u
inductive DSw:List DU->List DU->Prop
 |refl (u:List DU):DSw u u
 |cons (x:DU) {u v:List DU} (h:DSw u v):DSw (x::u) (x::v)
 |swap (e:Elem) (u:List DU):DSw (.A e:: .C::u) (.C:: .A e::u)
 |symm {u v:List DU} (h:DSw u v):DSw v u
 |trans {u v w:List DU} (h:DSw u v) (k:DSw v w):DSw u w
theorem DSw.left(w:List DU){u v:List DU}(h:DSw u v):DSw (w++u) (w++v):=by
 induction w with
 |nil=>exact h
 |cons x w ih=>exact .cons x ih
theorem DSw.right(w:List DU){u v:List DU}(h:DSw u v):DSw (u++w) (v++w):=by
 induction h with
 |refl u=>exact .refl _
 |cons x _ ih=>exact .cons x ih
 |swap e u=>exact .swap e _
 |symm _ ih=>exact .symm ih
 |trans _ _ a b=>exact .trans a b
theorem z81{u v:List DU}(h:DSw u v):∀l,z0h u l=z0h v l:=by
 induction h with
 |refl u=>exact fun _=>rfl
 |cons x _ ih=>
  intro l
  cases x<;>cases l<;>simp[z0h,ih]
 |swap e u=>intro l;cases l<;>simp[z0h]
 |symm _ ih=>exact fun l=>(ih l).symm
 |trans _ _ a b=>exact fun l=>(a l).trans (b l)
theorem y1B{u v:List DU}(h:DSw u v):oldN u=oldN v/\newN u=newN v:=by
 induction h with
 |refl u=>exact⟨rfl,rfl⟩
 |cons x _ ih=>cases x<;>simp[oldN,newN,ih.1,ih.2]
 |swap e u=>exact⟨rfl,rfl⟩
 |symm _ ih=>exact⟨ih.1.symm,ih.2.symm⟩
 |trans _ _ a b=>exact⟨a.1.trans b.1,a.2.trans b.2⟩
theorem y6v(e:List Elem)(u:List DU):DSw (.C::(e.map .A++u)) (e.map .A++ .C::u):=by
 induction e with
 |nil=>exact .refl _
 |cons x e ih=>exact .trans (.symm (.swap x _)) (.cons _ ih)
theorem y4d(c:Nat)(e:List Elem)(u:List DU):DSw (List.replicate c .C++(e.map .A++u)) (e.map .A++(List.replicate c .C++u)):=by
 induction c with
 |zero=>exact .refl _
 |succ c ih=>exact .trans (.cons _ ih) (y6v e _)
theorem z2M(e:List Elem)(u:List DU)(l:List Elem):z0h (e.map .A++u) l=e++z0h u l:=by
 induction e with
 |nil=>rfl
 |cons x e ih=>simp[z0h,ih]
theorem z2N(n:Nat)(c:List Attr)(u:List DU):∀l:List Elem,z0h (List.replicate n (.K c)++u) l=(l.take n).map (chgE c)++z0h u (l.drop n):=by
 induction n with
 |zero=>intro l;simp
 |succ n ih=>
  intro l
  cases l with
  |nil=>have:=ih [];simpa[z0h,qo] using this
  |cons x l=>simp[z0h,qo,ih]
theorem y4e(n:Nat)(u:List DU):∀l:List Elem,z0h (List.replicate n .C++u) l=z0h u (l.drop n):=by
 induction n with
 |zero=>intro l;simp
 |succ n ih=>
  intro l
  cases l with
  |nil=>have:=ih [];simpa[z0h,qo] using this
  |cons x l=>simp[z0h,qo,ih]
def rawD(l:List Elem)(d:List DStep):List Elem:=z0h (exD d) l
theorem y9P{d:List DStep}{i:Nat}(h:i<d.length)(l:List Elem):z0h (exD (d.drop i)) l=
 if(d.getD i default).kind=1 then(d.getD i default).elems++z0h (exD (d.drop (i+1))) l
 else if(d.getD i default).kind=2 then z0h (exD (d.drop (i+1))) (l.drop (d.getD i default).n.toNat)
 else(l.take (d.getD i default).n.toNat).map (chgE (d.getD i default).attrs)++z0h (exD (d.drop (i+1))) (l.drop (d.getD i default).n.toNat):=by
 rw[dropD h,exD]
 unfold exS
 split
 ·rw[z2M]
 ·split
  ·rw[y4e]
  ·rw[z2N]
end Go.Ch
end
section
set_option maxRecDepth 100000
set_option maxHeartbeats 4000000
open Go Go.Proofs Go.Ab
namespace Go.Ch
theorem z4w{α:Type}[Inhabited α]{l:List α}{i n:Nat}{z x:α}(hn:n=l.length)(hi:i<n)(hx:x=l.getD i default):(l.take i++List.replicate (n-i) z).set i x=l.take (i+1)++List.replicate (n- (i+1)) z:=by
 subst hn
 have h1:(l.take i).length=i:=by simp;omega
 rw[List.set_append,if_neg (by omega),h1,Nat.sub_self,show l.length-i=(l.length- (i+1))+1 by omega,qo,List.set_cons_zero,qD hi,hx,qE]
 simp only[List.getD,qa hi,zE]
 rfl
theorem y0p(l:List Elem)(hn:l.length<=1000000000000)(hs:AN 400000000000 l):FC Tryz.prog 82 [VL 3 elemT l] (app emp []) (VL 3 elemT l) (app emp []):=by
 refine .go Tryz.f82 ?_
 refine .len 0 (fun hl0=> ?_)
 refine .loop (α:=Nat×(List Elem)) [.r [],.r [(1,X (Xl elemT l)),(2,X (Xmz 3 elemT 24 (l.length:Int) (l.length:Int) ({char:=0,ref:=0,attrs:=[]}:Elem) [TI 0,TI 0,TN] ⟨.inl rfl,⟨.inl rfl,⟨z3b (by decide),trivial⟩⟩⟩))],.r [(1,X (Xl elemT l))]] 64 (fun(i,o)=>([(3,.row 24 l.length),(9,VL 3 elemT l),(10,VI (l.length:Int)),(11,VI (i:Int))],[(24,OR 3 elemT o)])) (fun(i,o)=>i<=l.length/\o=l.take i++List.replicate (l.length-i) ({char:=0,ref:=0,attrs:=[]}:Elem)) (fun(i,o)=>l.length-i) (0,(List.replicate l.length ({char:=0,ref:=0,attrs:=[]}:Elem))) ?_ ?_
 ·
  exact⟨by omega,by simp⟩
 rintro⟨i,o⟩ I3 ih3
 try dsimp only at I3
 have ol:o.length=l.length:=by rw[I3.2];simp;omega
 refine .bp [.r []] (decide ((i:Int)< (l.length:Int))) (fun h3=> ?_) (fun h3=> ?_)
 ·
  have hx:=hs _ (z1O (l:=l) (k:=i) (by omega))
  refine .back [.r [(1,X (Xi elemT l (i:Int)))],.r [(8,X (Xan attrT 184 (((l.getD i default)).attrs))),(10,X (Xpn l.length elemT o (i:Int))),(11,X (rowC attrT (((l.getD i default)).attrs) (Xsn l.length 3 elemT 24 o i ((l.getD i default)) [(184,OF 2 attrT (((l.getD i default)).attrs))])))],.r [(0,X (Xn ((i:Int)+1)))]] [(24,24)] (ih3 ((i+1),(o.set i ((l.getD i default)))) ?_ ?_)
  ·
   refine⟨by omega,?_⟩
   rw[I3.2]
   exact z4w rfl (by omega) rfl
  ·
   ((try dsimp only);omega)
 ·
  have e1:(l:List Elem)=o:=by
   rw[I3.2,qw (by omega),show l.length-i=0 by omega];simp
  exact .finE [.r [],.le (.fr 2 [(l.length:Nat)=(List.map elemT o).length] ⟨lm,trivial⟩)] [] (fun z0:List Elem=>(VL 3 elemT z0,[])) _ _ e1
theorem y6w{l:List Elem}{i:Nat}{z:Elem}{f:Elem->Elem}(hi:i<l.length){y:Elem}(hy:y=f (l.getD i default)):((l.take i).map f++List.replicate (l.length-i) z).set i y=(l.take (i+1)).map f++List.replicate (l.length- (i+1)) z:=by
 have h1:((l.take i).map f).length=i:=by simp;omega
 rw[List.set_append,if_neg (by omega),h1,Nat.sub_self,show l.length-i=(l.length- (i+1))+1 by omega,qo,List.set_cons_zero,qD hi,hy,zg,qE]
 simp only[List.getD,qa hi,zE]
 rfl
theorem z6Z(l:List Elem)(c:List Attr)(hn:l.length<=1000000000000)(hs:∀x∈l,x.attrs.length+c.length<1099511627776):FC Tryz.prog 122 [VL 3 elemT l,VL 2 attrT c] (app emp []) (VL 3 elemT (List.map (chgE c) l)) (app emp []):=by
 refine .go Tryz.f122 ?_
 refine .len 0 (fun hl0=> ?_)
 refine .len 1 (fun hl1=> ?_)
 refine .loop (α:=Nat×(List Elem)) [.r [],.r [(1,X (Xl elemT l)),(2,X (Xmz 3 elemT 24 (l.length:Int) (l.length:Int) ({char:=0,ref:=0,attrs:=[]}:Elem) [TI 0,TI 0,TN] ⟨.inl rfl,⟨.inl rfl,⟨z3b (by decide),trivial⟩⟩⟩))],.r [(1,X (Xl elemT l))]] 64 (fun(i,o)=>([(1,VL 2 attrT c),(5,.row 24 l.length),(11,VL 3 elemT l),(12,VI (l.length:Int)),(13,VI (i:Int))],[(24,OR 3 elemT o)])) (fun(i,o)=>i<=l.length/\o=(l.take i).map (chgE c)++List.replicate (l.length-i) ({char:=0,ref:=0,attrs:=[]}:Elem)) (fun(i,o)=>l.length-i) (0,(List.replicate l.length ({char:=0,ref:=0,attrs:=[]}:Elem))) ?_ ?_
 ·
  exact⟨by omega,by simp⟩
 rintro⟨i,o⟩ I3 ih3
 try dsimp only at I3
 have ol:o.length=l.length:=by rw[I3.2];simp;omega
 refine .bp [.r []] (decide ((i:Int)< (l.length:Int))) (fun h3=> ?_) (fun h3=> ?_)
 ·
  have hx:=hs _ (z1O (l:=l) (k:=i) (by omega))
  refine .back [.r [(1,X (Xi elemT l (i:Int)))],.r [(3,X (Xc1 144 (z4s (((l.getD i default)).attrs) c (by omega)) X0))],.r [(3,X (Xpn l.length elemT o (i:Int))),(4,X (Xsn l.length 3 elemT 24 o i ({char:=((l.getD i default)).char,ref:=((l.getD i default)).ref,attrs:=(fm rawG (((l.getD i default)).attrs) c)}:Elem)))],.r [(0,X (Xn ((i:Int)+1)))]] [(24,24)] (ih3 ((i+1),(o.set i ({char:=((l.getD i default)).char,ref:=((l.getD i default)).ref,attrs:=(fm rawG (((l.getD i default)).attrs) c)}:Elem))) ?_ ?_)
  ·
   refine⟨by omega,?_⟩
   rw[I3.2]
   exact y6w (by omega) rfl
  ·
   ((try dsimp only);omega)
 ·
  have e1:((List.map (chgE c) l):List Elem)=o:=by
   rw[I3.2,qw (by omega),show l.length-i=0 by omega];simp
  exact .finE [.r [],.le (.fr 4 [(l.length:Nat)=(List.map elemT o).length] ⟨lm,trivial⟩)] [] (fun z0:List Elem=>(VL 3 elemT z0,[])) _ _ e1
def ltr(s:ByteArray)(i:Nat):Elem:=⟨(byt s i:Int),0,[]⟩
def z0j(s:ByteArray):List Elem:=(List.range s.size).map (ltr s)
theorem z3F(s:ByteArray)(hs:s.size<=1000000000):FC Tryz.prog 15 [VS s] (app emp []) (VL 3 elemT (z0j s)) (app emp []):=by
 refine .go Tryz.f15 ?_
 refine .loop (α:=Nat×(List Elem)) [.r [],.r [],.r [],.le (.nR 3 3)] 41 (fun(i,o)=>([(0,VS s),(3,.row 40 o.length),(6,VI (s.size:Int)),(7,VI (i:Int))],[(40,OR 3 elemT o)])) (fun(i,o)=>i<=s.size/\o=(List.range i).map (ltr s)) (fun(i,o)=>s.size-i) (0,[]) ?_ ?_
 ·
  exact⟨by omega,rfl⟩
 rintro⟨i,o⟩ I3 ih3
 try dsimp only at I3
 have ol:o.length=i:=by rw[I3.2];simp
 refine .bp [.r []] (decide ((i:Int)< (s.size:Int))) (fun h3=> ?_) (fun h3=> ?_)
 ·
  refine .back [.r [],.r [(3,X (Xb s (i:Int))),(4,X (Xn ((((s[i]?).getD 0).toNat:Nat):Int)) (by have:=UInt8.toNat_lt ((s[i]?).getD 0);omega)),(5,X (Xf [(2,2)])),(7,X (rowC elemT [({char:=((((s[i]?).getD 0).toNat:Nat):Int),ref:=0,attrs:=[]}:Elem)] (Xap 3 elemT 40 o [({char:=((((s[i]?).getD 0).toNat:Nat):Int),ref:=0,attrs:=[]}:Elem)])))],.r [(0,X (Xn ((i:Int)+1)))]] [(40,40)] (ih3 ((i+1),(o++[({char:=((((s[i]?).getD 0).toNat:Nat):Int),ref:=0,attrs:=[]}:Elem)])) ?_ ?_)
  ·
   refine⟨by omega,?_⟩
   rw[I3.2,List.range_succ,zg]
   rfl
  ·
   ((try dsimp only);omega)
 ·
  have e1:((z0j s):List Elem)=o:=by
   rw[I3.2,show i=s.size by omega];rfl
  exact .finE [.r [],.le (.fr 2 [(o.length:Nat)=(List.map elemT o).length] ⟨lm,trivial⟩)] [] (fun z0:List Elem=>(VL 3 elemT z0,[])) _ _ e1
theorem y4f(x:DStep):FC Tryz.prog 179 [.t (z0c x)] (app emp []) (VI (stepD x)) (app emp []):=by
 refine .go Tryz.f179 ?_
 refine .bp [.r [],.r [],.r []] (x.kind==0) (fun h2=> ?_) (fun h2=> ?_)
 ·
  refine .bp [] (x.kind==0) (fun h2=> ?_) (fun h2=> ?_)
  ·
   refine .bp [.r [(2,X (Xl elemT x.elems)),(6,Xv 1 (!(decide ((x.elems.length:Int)> 0))) X0),(7,Xv 1 (!(decide ((x.elems.length:Int)> 0))) X0),(8,Xv 1 (!(decide ((x.elems.length:Int)> 0))) X0),(10,Xv 1 ((!(decide ((x.elems.length:Int)> 0)))&&(x.kind==2)) X0),(11,Xv 1 ((!(decide ((x.elems.length:Int)> 0)))&&(x.kind==2)) (Xl attrT x.attrs)),(12,Xv 1 ((!(decide ((x.elems.length:Int)> 0)))&&(x.kind==2)) X0),(13,Xka (!(decide ((x.elems.length:Int)> 0))) (x.kind==2)),(14,X (Xk' (decide ((x.elems.length:Int)> 0))))]] (decide ((x.elems.length:Int)> 0)|| ((x.kind==2)&&decide ((x.attrs.length:Int)> 0))) (fun h4=> ?_) (fun h4=> ?_)
   ·
    have e1:((stepD x):Int)=4:=by
     unfold stepD;((repeat' split)<;>first|rfl|omega| (simp_all;done)| (simp_all;omega))
    exact .finE [.r []] [] (fun z0:Int=>(VI z0,[])) _ _ e1
   ·
    refine .bp [.r [(5,Xv 1 (!(decide (x.n<1))) X0),(6,Xv 1 (!(decide (x.n<1))) X0),(7,X (Xk' (decide (x.n<1))))]] (decide (x.n<1)||decide (x.n>2147483647)) (fun h6=> ?_) (fun h6=> ?_)
    ·
     have e2:((stepD x):Int)=2:=by
      unfold stepD;((repeat' split)<;>first|rfl|omega| (simp_all;done)| (simp_all;omega))
     exact .finE [.r []] [] (fun z0:Int=>(VI z0,[])) _ _ e2
    ·
     have e3:((stepD x):Int)=(chkA true x.attrs 0):=by
      unfold stepD;((repeat' split)<;>first|rfl|omega| (simp_all;done)| (simp_all;omega))
     exact .finE [.r [(2,X (Xc0 (z1B x.attrs) X0))]] [] (fun z0:Int=>(VI z0,[])) _ _ e3
  ·
   refine .bp [.r []] (x.kind==1) (fun h9=> ?_) (fun h9=> ?_)
   ·
    refine .bp [.r [(5,Xv 1 (!(x.n !=0)) X0),(6,Xv 1 (!(x.n !=0)) (Xl attrT x.attrs)),(7,Xv 1 (!(x.n !=0)) X0),(8,X (Xk' (x.n !=0)))]] ((x.n !=0)||decide ((x.attrs.length:Int)> 0)) (fun h10=> ?_) (fun h10=> ?_)
    ·
     have e4:((stepD x):Int)=4:=by
      unfold stepD;((repeat' split)<;>first|rfl|omega| (simp_all;done)| (simp_all;omega))
     exact .finE [.r []] [] (fun z0:Int=>(VI z0,[])) _ _ e4
    ·
     refine .bp [.r [(2,X (Xl elemT x.elems))]] ((x.elems.length:Int)==0) (fun h12=> ?_) (fun h12=> ?_)
     ·
      have e5:((stepD x):Int)=11:=by
       unfold stepD;((repeat' split)<;>first|rfl|omega| (simp_all;done)| (simp_all;omega))
      exact .finE [.r []] [] (fun z0:Int=>(VI z0,[])) _ _ e5
     ·
      have e6:((stepD x):Int)=(partE x.elems 0):=by
       unfold stepD;((repeat' split)<;>first|rfl|omega| (simp_all;done)| (simp_all;omega))
      exact .finE [.r [(2,X (Xc0 (z1P x.elems) X0))]] [] (fun z0:Int=>(VI z0,[])) _ _ e6
   ·
    have e7:((stepD x):Int)=8:=by
     unfold stepD;((repeat' split)<;>first|rfl|omega| (simp_all;done)| (simp_all;omega))
    exact .finE [.r []] [] (fun z0:Int=>(VI z0,[])) _ _ e7
 ·
  refine .bp [.r []] (x.kind==2) (fun h3=> ?_) (fun h3=> ?_)
  ·
   refine .bp [.r [(2,X (Xl elemT x.elems)),(6,Xv 1 (!(decide ((x.elems.length:Int)> 0))) X0),(7,Xv 1 (!(decide ((x.elems.length:Int)> 0))) X0),(8,Xv 1 (!(decide ((x.elems.length:Int)> 0))) X0),(10,Xv 1 ((!(decide ((x.elems.length:Int)> 0)))&&(x.kind==2)) X0),(11,Xv 1 ((!(decide ((x.elems.length:Int)> 0)))&&(x.kind==2)) (Xl attrT x.attrs)),(12,Xv 1 ((!(decide ((x.elems.length:Int)> 0)))&&(x.kind==2)) X0),(13,Xka (!(decide ((x.elems.length:Int)> 0))) (x.kind==2)),(14,X (Xk' (decide ((x.elems.length:Int)> 0))))]] (decide ((x.elems.length:Int)> 0)|| ((x.kind==2)&&decide ((x.attrs.length:Int)> 0))) (fun h4=> ?_) (fun h4=> ?_)
   ·
    have e8:((stepD x):Int)=4:=by
     unfold stepD;((repeat' split)<;>first|rfl|omega| (simp_all;done)| (simp_all;omega))
    exact .finE [.r []] [] (fun z0:Int=>(VI z0,[])) _ _ e8
   ·
    refine .bp [.r [(5,Xv 1 (!(decide (x.n<1))) X0),(6,Xv 1 (!(decide (x.n<1))) X0),(7,X (Xk' (decide (x.n<1))))]] (decide (x.n<1)||decide (x.n>2147483647)) (fun h6=> ?_) (fun h6=> ?_)
    ·
     have e9:((stepD x):Int)=2:=by
      unfold stepD;((repeat' split)<;>first|rfl|omega| (simp_all;done)| (simp_all;omega))
     exact .finE [.r []] [] (fun z0:Int=>(VI z0,[])) _ _ e9
    ·
     have e10:((stepD x):Int)=(chkA true x.attrs 0):=by
      unfold stepD;((repeat' split)<;>first|rfl|omega| (simp_all;done)| (simp_all;omega))
     exact .finE [.r [(2,X (Xc0 (z1B x.attrs) X0))]] [] (fun z0:Int=>(VI z0,[])) _ _ e10
  ·
   refine .bp [.r []] (x.kind==1) (fun h9=> ?_) (fun h9=> ?_)
   ·
    refine .bp [.r [(5,Xv 1 (!(x.n !=0)) X0),(6,Xv 1 (!(x.n !=0)) (Xl attrT x.attrs)),(7,Xv 1 (!(x.n !=0)) X0),(8,X (Xk' (x.n !=0)))]] ((x.n !=0)||decide ((x.attrs.length:Int)> 0)) (fun h10=> ?_) (fun h10=> ?_)
    ·
     have e11:((stepD x):Int)=4:=by
      unfold stepD;((repeat' split)<;>first|rfl|omega| (simp_all;done)| (simp_all;omega))
     exact .finE [.r []] [] (fun z0:Int=>(VI z0,[])) _ _ e11
    ·
     refine .bp [.r [(2,X (Xl elemT x.elems))]] ((x.elems.length:Int)==0) (fun h12=> ?_) (fun h12=> ?_)
     ·
      have e12:((stepD x):Int)=11:=by
       unfold stepD;((repeat' split)<;>first|rfl|omega| (simp_all;done)| (simp_all;omega))
      exact .finE [.r []] [] (fun z0:Int=>(VI z0,[])) _ _ e12
     ·
      have e13:((stepD x):Int)=(partE x.elems 0):=by
       unfold stepD;((repeat' split)<;>first|rfl|omega| (simp_all;done)| (simp_all;omega))
      exact .finE [.r [(2,X (Xc0 (z1P x.elems) X0))]] [] (fun z0:Int=>(VI z0,[])) _ _ e13
   ·
    have e14:((stepD x):Int)=8:=by
     unfold stepD;((repeat' split)<;>first|rfl|omega| (simp_all;done)| (simp_all;omega))
    exact .finE [.r []] [] (fun z0:Int=>(VI z0,[])) _ _ e14
theorem z20(x:DStep):FC Tryz.prog 180 [.t (z0c x)] (app emp []) (VI (szD x)) (app emp []):=by
 refine .go Tryz.f180 ?_
 refine .bp [.r [],.r []] (x.kind==1) (fun h1=> ?_) (fun h1=> ?_)
 ·
  have e1:((szD x):Int)=(x.elems.length:Int):=by
   unfold szD;((repeat' split)<;>first|rfl|omega| (simp_all;done)| (simp_all;omega))
  exact .finE [.r [(2,X (Xl elemT x.elems))]] [] (fun z0:Int=>(VI z0,[])) _ _ e1
 ·
  have e2:((szD x):Int)=x.n:=by
   unfold szD;((repeat' split)<;>first|rfl|omega| (simp_all;done)| (simp_all;omega))
  exact .finE [.r []] [] (fun z0:Int=>(VI z0,[])) _ _ e2
theorem z1Q(l:List DStep)(hd:DN 400000000000 l):FC Tryz.prog 112 [VL 4 z0c l] (app emp []) (VI (z0W l)) (app emp []):=by
 refine .go Tryz.f112 ?_
 refine .len 0 (fun hl0=> ?_)
 refine .loop (α:=Int×Int×Nat) [.r [],.r [],.r [(1,X (Xl z0c l))]] 48 (fun(b,a,i)=>([(0,VL 4 z0c l),(3,VI b),(4,VI a),(9,VL 4 z0c l),(10,VI (l.length:Int)),(11,VI (i:Int))],[])) (fun(b,a,i)=>i<=l.length/\0<=b/\b<=2147483648/\0<=a/\a<=2147483648/\z0W l=chkD l i b a) (fun(b,a,i)=>l.length-i) (0,0,0) ?_ ?_
 ·
  exact⟨by omega,by decide,by decide,by decide,by decide,rfl⟩
 rintro⟨b,a,i⟩ I3 ih3
 try dsimp only at I3
 refine .bp [.r []] (decide ((i:Int)< (l.length:Int))) (fun h3=> ?_) (fun h3=> ?_)
 ·
  refine .bp [.r [(1,X (Xi z0c l (i:Int)))],.r [(1,X (Xc0 (y4f ((l.getD i default))) X0))],.r []] ((stepD ((l.getD i default))) !=0) (fun h6=> ?_) (fun h6=> ?_)
  ·
   have e1:((z0W l):Int)=(stepD ((l.getD i default))):=by
    rw[I3.2.2.2.2.2,chkD];((repeat' split)<;>first|rfl|omega| (simp_all;done)| (simp_all;omega))
   exact .finE [.r []] [] (fun z0:Int=>(VI z0,[])) _ _ e1
  ·
   have hz:=z0V (s:=l.getD i default) (by omega)
   obtain⟨hx,_,_⟩:=hd.at_ (k:=i) (by omega)
   refine .bp [.r []] (decide ((i:Int)> 0)) (fun h8=> ?_) (fun h8=> ?_)
   ·
    refine .bp [.r [(2,X (Xn ((i:Int)- 1))),(3,X (Xi' z0c l ((i:Int)- 1) (i- 1)))],.r [(7,Xv 1 ((((l.getD (i- 1) default)).kind)==(((l.getD i default)).kind)) X0),(8,Xv 1 ((((l.getD (i- 1) default)).kind)==(((l.getD i default)).kind)) X0),(9,Xv 1 ((((l.getD (i- 1) default)).kind)==(((l.getD i default)).kind)) X0),(11,Xv 1 (((((l.getD (i- 1) default)).kind)==(((l.getD i default)).kind))&& !((((l.getD i default)).kind) !=0)) X0),(13,Xv 1 (((((l.getD (i- 1) default)).kind)==(((l.getD i default)).kind))&& !((((l.getD i default)).kind) !=0)) X0),(14,Xv 2 (((((l.getD (i- 1) default)).kind)==(((l.getD i default)).kind))&& !((((l.getD i default)).kind) !=0)) (Xc0 (z2g (((l.getD (i- 1) default)).attrs) (((l.getD i default)).attrs)) X0)),(15,Xko ((((l.getD (i- 1) default)).kind)==(((l.getD i default)).kind)) ((((l.getD i default)).kind) !=0)),(16,X (Xk ((((l.getD (i- 1) default)).kind)==(((l.getD i default)).kind)))),(19,Xv 1 (!(((((l.getD (i- 1) default)).kind)==(((l.getD i default)).kind))&&(((((l.getD i default)).kind) !=0)|| (sameL (((l.getD (i- 1) default)).attrs) (((l.getD i default)).attrs))))) X0),(20,Xv 1 (!(((((l.getD (i- 1) default)).kind)==(((l.getD i default)).kind))&&(((((l.getD i default)).kind) !=0)|| (sameL (((l.getD (i- 1) default)).attrs) (((l.getD i default)).attrs))))) X0),(21,Xv 1 (!(((((l.getD (i- 1) default)).kind)==(((l.getD i default)).kind))&&(((((l.getD i default)).kind) !=0)|| (sameL (((l.getD (i- 1) default)).attrs) (((l.getD i default)).attrs))))) X0),(23,Xv 1 ((!(((((l.getD (i- 1) default)).kind)==(((l.getD i default)).kind))&&(((((l.getD i default)).kind) !=0)|| (sameL (((l.getD (i- 1) default)).attrs) (((l.getD i default)).attrs)))))&&((((l.getD (i- 1) default)).kind)==2)) X0),(24,Xv 1 ((!(((((l.getD (i- 1) default)).kind)==(((l.getD i default)).kind))&&(((((l.getD i default)).kind) !=0)|| (sameL (((l.getD (i- 1) default)).attrs) (((l.getD i default)).attrs)))))&&((((l.getD (i- 1) default)).kind)==2)) X0),(25,Xka (!(((((l.getD (i- 1) default)).kind)==(((l.getD i default)).kind))&&(((((l.getD i default)).kind) !=0)|| (sameL (((l.getD (i- 1) default)).attrs) (((l.getD i default)).attrs))))) ((((l.getD (i- 1) default)).kind)==2)),(26,X (Xk' (((((l.getD (i- 1) default)).kind)==(((l.getD i default)).kind))&&(((((l.getD i default)).kind) !=0)|| (sameL (((l.getD (i- 1) default)).attrs) (((l.getD i default)).attrs))))))]] ((((((l.getD (i- 1) default)).kind)==(((l.getD i default)).kind))&&(((((l.getD i default)).kind) !=0)|| (sameL (((l.getD (i- 1) default)).attrs) (((l.getD i default)).attrs))))|| (((((l.getD (i- 1) default)).kind)==2)&&((((l.getD i default)).kind)==1))) (fun h10=> ?_) (fun h10=> ?_)
    ·
     have e2:((z0W l):Int)=5:=by
      rw[I3.2.2.2.2.2,chkD,if_pos (by omega),if_neg (by omega),if_pos ⟨by omega,z4v.2 h10⟩]
     exact .finE [.r []] [] (fun z0:Int=>(VI z0,[])) _ _ e2
    ·
     refine .bp [.r []] ((((l.getD i default)).kind) !=1) (fun h12=> ?_) (fun h12=> ?_)
     ·
      refine .bp [.r [(3,X (Xn (b+(((l.getD i default)).n)))),(4,X (Xmin (b+(((l.getD i default)).n)) 2147483648))],.r []] ((((l.getD i default)).kind) !=2) (fun h14=> ?_) (fun h14=> ?_)
      ·
       refine .at 528 [(80,80)] ([(0,VL 4 z0c l),(3,VI (min (b+(((l.getD i default)).n)) 2147483648)),(4,VI a),(6,.ptr 80 0),(9,VL 4 z0c l),(10,VI (l.length:Int)),(11,VI (i:Int)),(65,VB ((((l.getD i default)).kind) !=2))],[(80,.box [VI (((l.getD i default)).kind),VI (((l.getD i default)).n),VL 2 attrT (((l.getD i default)).attrs),VL 3 elemT (((l.getD i default)).elems)])]) ?_
       refine .back [.r [(2,X (Xc0 (z20 ((l.getD i default))) X0)),(3,X (Xn (a+(szD ((l.getD i default)))))),(4,X (Xmin (a+(szD ((l.getD i default)))) 2147483648))],.r [(0,X (Xn ((i:Int)+1)))]] [] (ih3 ((min (b+(((l.getD i default)).n)) 2147483648),(min (a+(szD ((l.getD i default)))) 2147483648),(i+1)) ?_ ?_)
       ·
        refine⟨by omega,by omega,by omega,by omega,by omega,?_⟩
        rw[I3.2.2.2.2.2,chkD,if_pos (by omega),if_neg (by omega),if_neg (by first|omega|exact fun hh=>z3r h10 hh.2)]
        ((repeat' split)<;>first|rfl|omega| (simp_all;done)| (simp_all;omega))
       ·
        ((try dsimp only);omega)
      ·
       refine .at 528 [(80,80)] ([(0,VL 4 z0c l),(3,VI (min (b+(((l.getD i default)).n)) 2147483648)),(4,VI a),(6,.ptr 80 0),(9,VL 4 z0c l),(10,VI (l.length:Int)),(11,VI (i:Int)),(65,VB ((((l.getD i default)).kind) !=2))],[(80,.box [VI (((l.getD i default)).kind),VI (((l.getD i default)).n),VL 2 attrT (((l.getD i default)).attrs),VL 3 elemT (((l.getD i default)).elems)])]) ?_
       refine .back [.r [(0,X (Xn ((i:Int)+1)))]] [] (ih3 ((min (b+(((l.getD i default)).n)) 2147483648),a,(i+1)) ?_ ?_)
       ·
        refine⟨by omega,by omega,by omega,by omega,by omega,?_⟩
        rw[I3.2.2.2.2.2,chkD,if_pos (by omega),if_neg (by omega),if_neg (by first|omega|exact fun hh=>z3r h10 hh.2)]
        ((repeat' split)<;>first|rfl|omega| (simp_all;done)| (simp_all;omega))
       ·
        ((try dsimp only);omega)
     ·
      refine .bp [.r []] ((((l.getD i default)).kind) !=2) (fun h14=> ?_) (fun h14=> ?_)
      ·
       refine .at 480 [(80,80)] ([(0,VL 4 z0c l),(3,VI b),(4,VI a),(6,.ptr 80 0),(9,VL 4 z0c l),(10,VI (l.length:Int)),(11,VI (i:Int)),(65,VB ((((l.getD i default)).kind) !=2))],[(80,.box [VI (((l.getD i default)).kind),VI (((l.getD i default)).n),VL 2 attrT (((l.getD i default)).attrs),VL 3 elemT (((l.getD i default)).elems)])]) ?_
       refine .back [.r [(2,X (Xc0 (z20 ((l.getD i default))) X0)),(3,X (Xn (a+(szD ((l.getD i default)))))),(4,X (Xmin (a+(szD ((l.getD i default)))) 2147483648))],.r [(0,X (Xn ((i:Int)+1)))]] [] (ih3 (b,(min (a+(szD ((l.getD i default)))) 2147483648),(i+1)) ?_ ?_)
       ·
        refine⟨by omega,by omega,by omega,by omega,by omega,?_⟩
        rw[I3.2.2.2.2.2,chkD,if_pos (by omega),if_neg (by omega),if_neg (by first|omega|exact fun hh=>z3r h10 hh.2)]
        ((repeat' split)<;>first|rfl|omega| (simp_all;done)| (simp_all;omega))
       ·
        ((try dsimp only);omega)
      ·
       refine .at 480 [(80,80)] ([(0,VL 4 z0c l),(3,VI b),(4,VI a),(6,.ptr 80 0),(9,VL 4 z0c l),(10,VI (l.length:Int)),(11,VI (i:Int)),(65,VB ((((l.getD i default)).kind) !=2))],[(80,.box [VI (((l.getD i default)).kind),VI (((l.getD i default)).n),VL 2 attrT (((l.getD i default)).attrs),VL 3 elemT (((l.getD i default)).elems)])]) ?_
       refine .back [.r [(0,X (Xn ((i:Int)+1)))]] [] (ih3 (b,a,(i+1)) ?_ ?_)
       ·
        refine⟨by omega,by omega,by omega,by omega,by omega,?_⟩
        rw[I3.2.2.2.2.2,chkD,if_pos (by omega),if_neg (by omega),if_neg (by first|omega|exact fun hh=>z3r h10 hh.2)]
        ((repeat' split)<;>first|rfl|omega| (simp_all;done)| (simp_all;omega))
       ·
        ((try dsimp only);omega)
   ·
    refine .bp [.r []] ((((l.getD i default)).kind) !=1) (fun h12=> ?_) (fun h12=> ?_)
    ·
     refine .bp [.r [(3,X (Xn (b+(((l.getD i default)).n)))),(4,X (Xmin (b+(((l.getD i default)).n)) 2147483648))],.r []] ((((l.getD i default)).kind) !=2) (fun h14=> ?_) (fun h14=> ?_)
     ·
      refine .back [.r [(2,X (Xc0 (z20 ((l.getD i default))) X0)),(3,X (Xn (a+(szD ((l.getD i default)))))),(4,X (Xmin (a+(szD ((l.getD i default)))) 2147483648))],.r [(0,X (Xn ((i:Int)+1)))]] [] (ih3 ((min (b+(((l.getD i default)).n)) 2147483648),(min (a+(szD ((l.getD i default)))) 2147483648),(i+1)) ?_ ?_)
      ·
       refine⟨by omega,by omega,by omega,by omega,by omega,?_⟩
       rw[I3.2.2.2.2.2,chkD,if_pos (by omega),if_neg (by omega),if_neg (by first|omega|exact fun hh=>z3r h10 hh.2)]
       ((repeat' split)<;>first|rfl|omega| (simp_all;done)| (simp_all;omega))
      ·
       ((try dsimp only);omega)
     ·
      refine .back [.r [(0,X (Xn ((i:Int)+1)))]] [] (ih3 ((min (b+(((l.getD i default)).n)) 2147483648),a,(i+1)) ?_ ?_)
      ·
       refine⟨by omega,by omega,by omega,by omega,by omega,?_⟩
       rw[I3.2.2.2.2.2,chkD,if_pos (by omega),if_neg (by omega),if_neg (by first|omega|exact fun hh=>z3r h10 hh.2)]
       ((repeat' split)<;>first|rfl|omega| (simp_all;done)| (simp_all;omega))
      ·
       ((try dsimp only);omega)
    ·
     refine .bp [.r []] ((((l.getD i default)).kind) !=2) (fun h14=> ?_) (fun h14=> ?_)
     ·
      refine .back [.r [(2,X (Xc0 (z20 ((l.getD i default))) X0)),(3,X (Xn (a+(szD ((l.getD i default)))))),(4,X (Xmin (a+(szD ((l.getD i default)))) 2147483648))],.r [(0,X (Xn ((i:Int)+1)))]] [] (ih3 (b,(min (a+(szD ((l.getD i default)))) 2147483648),(i+1)) ?_ ?_)
      ·
       refine⟨by omega,by omega,by omega,by omega,by omega,?_⟩
       rw[I3.2.2.2.2.2,chkD,if_pos (by omega),if_neg (by omega),if_neg (by first|omega|exact fun hh=>z3r h10 hh.2)]
       ((repeat' split)<;>first|rfl|omega| (simp_all;done)| (simp_all;omega))
      ·
       ((try dsimp only);omega)
     ·
      refine .back [.r [(0,X (Xn ((i:Int)+1)))]] [] (ih3 (b,a,(i+1)) ?_ ?_)
      ·
       refine⟨by omega,by omega,by omega,by omega,by omega,?_⟩
       rw[I3.2.2.2.2.2,chkD,if_pos (by omega),if_neg (by omega),if_neg (by first|omega|exact fun hh=>z3r h10 hh.2)]
       ((repeat' split)<;>first|rfl|omega| (simp_all;done)| (simp_all;omega))
      ·
       ((try dsimp only);omega)
 ·
  refine .bp [.r [(4,Xv 1 (!(decide (b>2147483647))) X0),(5,X (Xk' (decide (b>2147483647))))]] (decide (b>2147483647)||decide (a>2147483647)) (fun h17=> ?_) (fun h17=> ?_)
  ·
   have e3:((z0W l):Int)=3:=by
    rw[I3.2.2.2.2.2,chkD];((repeat' split)<;>first|rfl|omega| (simp_all;done)| (simp_all;omega))
   exact .finE [.r []] [] (fun z0:Int=>(VI z0,[])) _ _ e3
  ·
   have e4:((z0W l):Int)=0:=by
    rw[I3.2.2.2.2.2,chkD];((repeat' split)<;>first|rfl|omega| (simp_all;done)| (simp_all;omega))
   exact .finE [.r []] [] (fun z0:Int=>(VI z0,[])) _ _ e4
theorem z4x(l:List DStep)(hv:z0D l):FC Tryz.prog 113 [VL 4 z0c l] (app emp []) (.tup [VI (oldD l),VI (newD l)]) (app emp []):=by
 refine .go Tryz.f113 ?_
 refine .len 0 (fun hl0=> ?_)
 refine .loop (α:=Int×Int×Nat) [.r [],.r [],.r [(1,X (Xl z0c l))]] 56 (fun(b,a,i)=>([(4,VI b),(5,VI a),(8,VL 4 z0c l),(9,VI (l.length:Int)),(10,VI (i:Int))],[])) (fun(b,a,i)=>i<=l.length/\0<=b/\0<=a/\oldD l=b+oldD (l.drop i)/\newD l=a+newD (l.drop i)) (fun(b,a,i)=>l.length-i) (0,0,0) ?_ ?_
 ·
  exact⟨by omega,by decide,by decide,by simp,by simp⟩
 rintro⟨b,a,i⟩ I3 ih3
 try dsimp only at I3
 have hv1:=hv.2.1
 have hv2:=hv.2.2
 refine .bp [.r []] (decide ((i:Int)< (l.length:Int))) (fun h3=> ?_) (fun h3=> ?_)
 ·
  have hst:=z15 (l:=l) (i:=i) (by omega) hv.1
  refine .bp [.r [(0,X (Xi z0c l (i:Int)))],.r []] ((((l.getD i default)).kind) !=1) (fun h5=> ?_) (fun h5=> ?_)
  ·
   have s1:=hst.1
   rw[if_neg (by omega)] at s1
   refine .bp [.r [(3,X (Xn (b+(((l.getD i default)).n))))],.r []] ((((l.getD i default)).kind) !=2) (fun h7=> ?_) (fun h7=> ?_)
   ·
    have s2:=hst.2.1
    rw[if_neg (by omega)] at s2
    refine .back [.r [(2,X (Xc0 (z20 ((l.getD i default))) X0)),(3,X (Xn (a+(szD ((l.getD i default))))))],.r [(0,X (Xn ((i:Int)+1)))]] [] (ih3 ((b+(((l.getD i default)).n)),(a+(szD ((l.getD i default)))),(i+1)) ?_ ?_)
    ·
     obtain⟨s1,s2,s3,s4,s5,s6,s7,s8⟩:=hst
     first|rw[if_pos (by omega)] at s1|rw[if_neg (by omega)] at s1
     first|rw[if_pos (by omega)] at s2|rw[if_neg (by omega)] at s2
     refine⟨by omega,by omega,by omega,by omega,by omega⟩
    ·
     ((try dsimp only);omega)
   ·
    refine .back [.r [(0,X (Xn ((i:Int)+1)))]] [] (ih3 ((b+(((l.getD i default)).n)),a,(i+1)) ?_ ?_)
    ·
     obtain⟨s1,s2,s3,s4,s5,s6,s7,s8⟩:=hst
     first|rw[if_pos (by omega)] at s1|rw[if_neg (by omega)] at s1
     first|rw[if_pos (by omega)] at s2|rw[if_neg (by omega)] at s2
     refine⟨by omega,by omega,by omega,by omega,by omega⟩
    ·
     ((try dsimp only);omega)
  ·
   refine .bp [.r []] ((((l.getD i default)).kind) !=2) (fun h7=> ?_) (fun h7=> ?_)
   ·
    have s2:=hst.2.1
    rw[if_neg (by omega)] at s2
    refine .back [.r [(2,X (Xc0 (z20 ((l.getD i default))) X0)),(3,X (Xn (a+(szD ((l.getD i default))))))],.r [(0,X (Xn ((i:Int)+1)))]] [] (ih3 (b,(a+(szD ((l.getD i default)))),(i+1)) ?_ ?_)
    ·
     obtain⟨s1,s2,s3,s4,s5,s6,s7,s8⟩:=hst
     first|rw[if_pos (by omega)] at s1|rw[if_neg (by omega)] at s1
     first|rw[if_pos (by omega)] at s2|rw[if_neg (by omega)] at s2
     refine⟨by omega,by omega,by omega,by omega,by omega⟩
    ·
     ((try dsimp only);omega)
   ·
    refine .back [.r [(0,X (Xn ((i:Int)+1)))]] [] (ih3 (b,a,(i+1)) ?_ ?_)
    ·
     obtain⟨s1,s2,s3,s4,s5,s6,s7,s8⟩:=hst
     first|rw[if_pos (by omega)] at s1|rw[if_neg (by omega)] at s1
     first|rw[if_pos (by omega)] at s2|rw[if_neg (by omega)] at s2
     refine⟨by omega,by omega,by omega,by omega,by omega⟩
    ·
     ((try dsimp only);omega)
 ·
  have e1:((oldD l):Int)=b:=by
   have hE:=dend (l:=l) (i:=i) (by omega)
   omega
  have e2:((newD l):Int)=a:=by
   have hE:=dend (l:=l) (i:=i) (by omega)
   omega
  exact .finE [.r []] [] (fun((z0,z1):Int×Int)=>(.tup [VI z0,VI z1],[])) _ _ (pr e1 e2)
theorem y8A(f:List Elem)(l:List DStep)(hv:z0D l)(hd:DN 400000000000 l)(ha:AN 400000000000 f)(hlen:oldD l=f.length):FC Tryz.prog 137 [VL 3 elemT f,VL 4 z0c l] (app emp []) (VL 3 elemT (rawD f l)) (app emp []):=by
 refine .go Tryz.f137 ?_
 refine .len 0 (fun hl0=> ?_)
 refine .len 1 (fun hl1=> ?_)
 refine .loop (α:=(List Elem)×Nat×(List Elem)) [.r [],.r [],.r [(1,X (Xl z0c l))],.le (.nR 5 3)] 41 (fun(r,i,o)=>([(0,VL 3 elemT r),(5,.row 40 o.length),(8,VL 4 z0c l),(9,VI (l.length:Int)),(10,VI (i:Int))],[(40,OR 3 elemT o)])) (fun(r,i,o)=>i<=l.length/\AN 400000000000 r/\oldD (l.drop i)=r.length/\o.length+newD (l.drop i)=newD l/\rawD f l=o++z0h (exD (l.drop i)) r) (fun(r,i,o)=>l.length-i) (f,0,[]) ?_ ?_
 ·
  exact⟨by omega,ha,by simpa using hlen,by simp,by simp[rawD]⟩
 rintro⟨r,i,o⟩ I3 ih3
 try dsimp only at I3
 have hv1:=hv.2.1
 have hv2:=hv.2.2
 refine .bp [.r []] (decide ((i:Int)< (l.length:Int))) (fun h3=> ?_) (fun h3=> ?_)
 ·
  have hst:=z15 (l:=l) (i:=i) (by omega) hv.1
  obtain⟨hx,hx2,hx3⟩:=hd.at_ (k:=i) (by omega)
  have hr:=y9P (d:=l) (i:=i) (by omega) r
  refine .bp [.r [(0,X (Xi z0c l (i:Int)))],.r [],.r []] ((((l.getD i default)).kind)==0) (fun h7=> ?_) (fun h7=> ?_)
  ·
   obtain⟨s1,s2,s3,s4,s5,s6,s7,s8⟩:=hst
   rw[if_neg (by omega)] at s1 s2
   have hz:szD (l.getD i default)=(l.getD i default).n:=by unfold szD;rw[if_neg (by omega)]
   have hl8:(r.take (l.getD i default).n.toNat).length=(l.getD i default).n.toNat:=by rw[qX];omega
   have hs8:∀x∈r.take (l.getD i default).n.toNat,x.attrs.length+(l.getD i default).attrs.length<1099511627776:=fun x hx=>by have:=I3.2.1 x (qL hx);omega
   refine .back [.r [(4,X (Xst elemT 3 r (((l.getD i default)).n))),(7,X (Xc1 169 (z6Z (r.take (Int.toNat (((l.getD i default)).n))) (((l.getD i default)).attrs) (by omega) (by assumption)) X0)),(8,X (Xap 3 elemT 40 o (List.map (chgE (((l.getD i default)).attrs)) (r.take (Int.toNat (((l.getD i default)).n))))))],.r [(3,X (Xsd elemT 3 r (((l.getD i default)).n)))],.r [(0,X (Xn ((i:Int)+1)))]] [(40,40)] (ih3 ((r.drop (Int.toNat (((l.getD i default)).n))),(i+1),(o++(List.map (chgE (((l.getD i default)).attrs)) (r.take (Int.toNat (((l.getD i default)).n)))))) ?_ ?_)
   ·
    refine⟨by omega,fun x hx=>I3.2.1 x (zc hx),by(rw[zI];omega),by(simp only[qc,qg];omega),?_⟩
    rw[I3.2.2.2.2,hr,if_neg (by omega),if_neg (by omega),qE]
   ·
    show l.length- (i+1)< l.length-i;omega
  ·
   refine .bp [.r []] ((((l.getD i default)).kind)==1) (fun h10=> ?_) (fun h10=> ?_)
   ·
    obtain⟨s1,s2,s3,s4,s5,s6,s7,s8⟩:=hst
    rw[if_pos (by omega)] at s1
    rw[if_neg (by omega)] at s2
    have hz:szD (l.getD i default)=(l.getD i default).elems.length:=by unfold szD;rw[if_pos (by omega)]
    refine .back [.r [(3,X (Xc1 153 (y0p (((l.getD i default)).elems) (by omega) (by assumption)) X0)),(4,X (Xap 3 elemT 40 o (((l.getD i default)).elems)))],.r [(0,X (Xn ((i:Int)+1)))]] [(40,40)] (ih3 (r,(i+1),(o++(((l.getD i default)).elems))) ?_ ?_)
    ·
     refine⟨by omega,I3.2.1,by omega,by(simp only[qc];omega),?_⟩
     rw[I3.2.2.2.2,hr,if_pos (by omega),qE]
    ·
     show l.length- (i+1)< l.length-i;omega
   ·
    obtain⟨s1,s2,s3,s4,s5,s6,s7,s8⟩:=hst
    rw[if_neg (by omega)] at s1
    rw[if_pos (by omega)] at s2
    refine .back [.r [(3,X (Xsd elemT 3 r (((l.getD i default)).n)))],.r [(0,X (Xn ((i:Int)+1)))]] [(40,40)] (ih3 ((r.drop (Int.toNat (((l.getD i default)).n))),(i+1),o) ?_ ?_)
    ·
     refine⟨by omega,fun x hx=>I3.2.1 x (zc hx),by(rw[zI];omega),by omega,?_⟩
     rw[I3.2.2.2.2,hr,if_neg (by omega),if_pos (by omega)]
    ·
     show l.length- (i+1)< l.length-i;omega
 ·
  have e1:((rawD f l):List Elem)=o:=by
   rw[I3.2.2.2.2,qT (by omega)];simp[exD,z0h]
  exact .finE [.r [],.le (.fr 4 [(o.length:Nat)=(List.map elemT o).length] ⟨lm,trivial⟩)] [] (fun z0:List Elem=>(VL 3 elemT z0,[])) _ _ e1

end Go.Ch
end
section
namespace Go.Ch
open Go Go.Ab
structure DWr where
 out:List DStep
 add:List Elem
 cut:Int
def z0b(w:DWr):List DStep:=w.out++(if 0<w.add.length then[⟨1,0,[],w.add⟩] else[])++(if 0<w.cut then[⟨2,w.cut,[],[]⟩] else[])
def keepD(l:List DStep)(n:Int)(c:List Attr):List DStep:=
 if 0<l.length/\(l.getD (l.length- 1) default).kind=0/\sameL (l.getD (l.length- 1) default).attrs c=true then
  l.set (l.length- 1) ⟨(l.getD (l.length- 1) default).kind,(l.getD (l.length- 1) default).n+n,(l.getD (l.length- 1) default).attrs,(l.getD (l.length- 1) default).elems⟩
 else l++[⟨0,n,c,[]⟩]
theorem z60(w:DWr):(z0b w).length<=w.out.length+2:=by
 unfold z0b;simp only[qc];split<;>split<;>simp
theorem y4g(l:List DStep)(n:Int)(c:List Attr):(keepD l n c).length<=l.length+1:=by
 unfold keepD;split<;>simp
def DOkW(s:DStep):Prop:=
 (s.kind=1/\s.n=0/\s.attrs=[]/\s.elems≠[]/\∀x∈s.elems,elemE x=0)\/
 ((s.kind=0\/s.kind=2)/\s.elems=[]/\(s.kind=2->s.attrs=[])/\1<=s.n/\VG true s.attrs)
def AdjOk:List DStep->Prop
 | []=>True
 | [_]=>True
 |s::t::l=>adjD s t=false/\AdjOk (t::l)
theorem z4y:∀{l:List DStep} {s:DStep},AdjOk l->(∀t,l.getLast? =some t->adjD t s=false)->AdjOk (l++[s])
 | [],s,_,_=>trivial
 | [x],s,_,h=>⟨h x rfl,trivial⟩
 |x::y::l,s,hf,h=>⟨hf.1,z4y (l:=y::l) hf.2 (fun t ht=>h t (by simpa[List.getLast?_cons_cons] using ht))⟩
theorem y6x{w x x':DStep}(k:x'.kind=x.kind)(a:x'.attrs=x.attrs):adjD w x'=adjD w x:=by unfold adjD;rw[k,a]
theorem y1C:∀{l:List DStep} {s s':DStep},AdjOk (l++[s])->s'.kind=s.kind->s'.attrs=s.attrs->AdjOk (l++[s'])
 | [],s,s',_,_,_=>trivial
 | [x],s,s',h,k,a=>⟨by rw[y6x k a];exact h.1,trivial⟩
 |x::y::l,s,s',h,k,a=>⟨h.1,y1C (l:=y::l) h.2 k a⟩
theorem y1D:∀{l:List DStep},(∀s∈l,DOk s)->AdjOk l->DForm l
 | [],_,_=>trivial
 | [s],h,_=>h s (by simp)
 |s::t::l,h,k=>⟨h s (by simp),k.1,y1D (fun x hx=>h x (by simp at hx|-;exact .inr hx)) k.2⟩
theorem okW{s:DStep}(h:DOk s):DOkW s:=by
 rcases h with h| ⟨a,b,c,d,e,f⟩
 ·exact .inl h
 ·exact .inr ⟨a,b,c,d,f⟩
theorem oSW{s:DStep}(h:DOkW s):0<=oS s/\0<=nS s/\(s.kind≠1->oS s=s.n)/\0<=s.n:=by
 unfold oS nS szD
 rcases h with⟨k,n,a,e,_⟩| ⟨k,_,_,n1,_⟩
 ·have:0<s.elems.length:=List.length_pos_iff.2 e
  rw[if_pos k,if_neg (by omega),if_pos k]
  exact⟨zO _,by omega,fun q=>absurd k q,by omega⟩
 ·have k1:¬s.kind=1:=by omega
  simp only[if_neg k1]
  refine⟨by omega,by(split<;>omega),fun _=>trivial,by omega⟩
theorem sumsW:∀{l:List DStep},(∀s∈l,DOkW s)->0<=oldD l/\0<=newD l/\∀s∈l,s.kind≠1->s.n<=oldD l
 | [],_=>⟨zO _,zO _,fun s hs=>by cases hs⟩
 |s::l,h=>by
  have h1:=oSW (h s (by simp))
  have h2:=sumsW (l:=l) (fun t ht=>h t (by simp[ht]))
  simp only[oldD,newD]
  refine⟨by omega,by omega,fun t ht k=> ?_⟩
  rcases qn.1 ht with rfl|ht
  ·have:=h1.2.2.1 k;omega
  ·have:=h2.2.2 t ht k;omega
theorem y6y{l:List DStep}(h:∀s∈l,DOkW s)(ha:AdjOk l)(h1:oldD l<=2147483647)(h2:newD l<=2147483647):z0D l:=by
 refine⟨y1D (fun s hs=> ?_) ha,h1,h2⟩
 rcases h s hs with q| ⟨a,b,c,d,e⟩
 ·exact .inl q
 ·have:=(sumsW h).2.2 s hs (by omega)
  exact .inr ⟨a,b,c,d,by omega,e⟩
theorem z0E(u v:List DU):oldN (u++v)=oldN u+oldN v:=by
 induction u with
 |nil=>simp[oldN]
 |cons x u ih=>cases x<;>simp[oldN,ih]<;>omega
theorem z1C(u v:List DU):newN (u++v)=newN u+newN v:=by
 induction u with
 |nil=>simp[newN]
 |cons x u ih=>cases x<;>simp[newN,ih]<;>omega
theorem z1S(e:List Elem):oldN (e.map .A)=0/\newN (e.map .A)=e.length:=by
 induction e with
 |nil=>exact⟨rfl,rfl⟩
 |cons x e ih=>simp[oldN,newN,ih]
theorem z2B(n:Nat):oldN (List.replicate n .C)=n/\newN (List.replicate n .C)=0:=by
 induction n with
 |zero=>exact⟨rfl,rfl⟩
 |succ n ih=>simp[qo,oldN,newN,ih]
theorem z1t(n:Nat)(c:List Attr):oldN (List.replicate n (.K c))=n/\newN (List.replicate n (.K c))=n:=by
 induction n with
 |zero=>exact⟨rfl,rfl⟩
 |succ n ih=>simp[qo,oldN,newN,ih]
theorem y9Q{s:DStep}(h:DOkW s):(oldN (exS s):Int)=oS s/\(newN (exS s):Int)=nS s:=by
 unfold exS oS nS szD
 rcases h with⟨k,n,a,e,_⟩| ⟨k,_,_,n1,_⟩
 ·rw[if_pos k,if_pos k,if_neg (by omega),if_pos k,(z1S _).1,(z1S _).2];exact⟨rfl,rfl⟩
 ·have k1:¬s.kind=1:=by omega
  by_cases k2:s.kind=2
  ·simp only[if_neg k1,if_pos k2]
   rw[(z2B _).1,(z2B _).2];omega
  ·simp only[if_neg k1,if_neg k2]
   rw[(z1t _ _).1,(z1t _ _).2];omega
theorem z82:∀{l:List DStep},(∀s∈l,DOkW s)->(oldN (exD l):Int)=oldD l/\(newN (exD l):Int)=newD l
 | [],_=>⟨rfl,rfl⟩
 |s::l,h=>by
  have h1:=y9Q (h s (by simp))
  have h2:=z82 (l:=l) (fun t ht=>h t (by simp[ht]))
  simp only[exD,oldD,newD]
  rw[z0E,z1C]
  omega
def exDW(w:DWr):List DU:=exD w.out++(w.add.map .A++List.replicate w.cut.toNat .C)
structure GoodD(w:DWr):Prop where
 ok:∀s∈w.out,DOkW s
 adj:AdjOk w.out
 last:∀t,w.out.getLast? =some t->t.kind=0
 add:∀x∈w.add,elemE x=0
 cut:0<=w.cut
theorem y7R:GoodD ⟨[],[],0⟩:=⟨fun s h=>(by cases h),trivial,fun t h=>(by cases h),fun x h=>(by cases h),zO _⟩
theorem z6n{w:DWr}(h:GoodD w):exD (z0b w)=exDW w:=by
 have h2:=h.cut
 unfold z0b exDW
 rw[z4X,z4X,qE]
 congr 2
 ·split
  ·simp[exD,exS]
  ·rw[show w.add=[] from len0.1 (by omega)];rfl
 ·split
  ·simp[exD,exS]
  ·rw[show w.cut.toNat=0 by omega];rfl
theorem adj_1{t s:DStep}(h:t.kind≠s.kind)(h2:¬(t.kind=2/\s.kind=1)):adjD t s=false:=by
 cases e:adjD t s
 ·rfl
 ·rcases z4v.1 e with⟨a,_⟩|a
  ·exact absurd a h
  ·exact absurd a h2
theorem z5h:VG true []:=(z1H (e:=true) (l:=[])).1 (by rw[chkA];rfl)
theorem z4z{w:DWr}(h:GoodD w):(∀s∈z0b w,DOkW s)/\AdjOk (z0b w):=by
 have h2:=h.cut
 have o1:0<w.add.length->DOkW ⟨1,0,[],w.add⟩:=fun q=> .inl ⟨rfl,rfl,rfl,List.length_pos_iff.1 q,h.add⟩
 have o2:0<w.cut->DOkW ⟨2,w.cut,[],[]⟩:=fun q=> .inr ⟨.inr rfl,rfl,fun _=>rfl,q,z5h⟩
 refine⟨fun s hs=> ?_,?_⟩
 ·unfold z0b at hs
  simp only[qm] at hs
  rcases hs with(hs|hs)|hs
  ·exact h.ok s hs
  ·split at hs
   ·rename_i q;rw[qK] at hs;subst hs;exact o1 q
   ·cases hs
  ·split at hs
   ·rename_i q;rw[qK] at hs;subst hs;exact o2 q
   ·cases hs
 ·unfold z0b
  by_cases ha:0<w.add.length
  ·rw[if_pos ha]
   have f1:AdjOk (w.out++[⟨1,0,[],w.add⟩]):=z4y h.adj (fun t ht=>by
    have:=h.last t ht
    exact adj_1 (by simp only;omega) (by omega))
   by_cases hc:0<w.cut
   ·rw[if_pos hc]
    refine z4y f1 (fun t ht=> ?_)
    rw[List.getLast?_concat] at ht
    cases ht
    exact adj_1 (by show(1:Int)≠2;decide) (by show¬((1:Int)=2/\(2:Int)=1);decide)
   ·rw[if_neg hc,qQ];exact f1
  ·rw[if_neg ha,qQ]
   by_cases hc:0<w.cut
   ·rw[if_pos hc]
    refine z4y h.adj (fun t ht=> ?_)
    have:=h.last t ht
    exact adj_1 (by simp only;omega) (by omega)
   ·rw[if_neg hc,qQ];exact h.adj
theorem lastD{l:List DStep}(h:0<l.length):l=l.take (l.length- 1)++[l.getD (l.length- 1) default]:=by
 conv=>lhs;rw[<-List.take_append_drop (l.length- 1) l]
 congr 1
 rw[zt (by omega),qT (by omega)]
 simp[List.getD,qa (show l.length- 1<l.length by omega)]
theorem z83{l:List DStep}(h:0<l.length):l.getD (l.length- 1) default∈l:=by
 rw[show l.getD (l.length- 1) default=l[l.length- 1] by simp[List.getD,qa (show l.length- 1<l.length by omega)]]
 exact zx _
theorem setD{l:List DStep}(h:0<l.length)(s:DStep):l.set (l.length- 1) s=l.take (l.length- 1)++[s]:=by
 rw[List.set_eq_take_append_cons_drop,if_pos (by omega),qT (by omega)]
theorem y6z{l:List DStep}{n:Int}{c:List Attr}(ho:∀s∈l,DOkW s)(hf:AdjOk l)(hn:1<=n)(hc:VG true c):
 (∀s∈keepD l n c,DOkW s)/\AdjOk (keepD l n c)/\(∀t,(keepD l n c).getLast? =some t->t.kind=0)/\exD (keepD l n c)=exD l++List.replicate n.toNat (.K c):=by
 unfold keepD
 split
 ·rename_i hc
  obtain⟨h0,hk,ha⟩:=hc
  rw[z5x] at ha
  generalize hx:l.getD (l.length- 1) default=x at hk ha|-
  have hl:=lastD h0
  rw[hx] at hl
  rw[setD h0]
  have hox:DOkW x:=ho x (by rw[hl];simp)
  have hx2:x.elems=[]/\1<=x.n/\VG true x.attrs:=by
   rcases hox with⟨k,_⟩| ⟨_,a,_,b,d⟩
   ·omega
   ·exact⟨a,b,d⟩
  refine⟨fun s hs=> ?_,y1C (s:=x) (by rw[<-hl];exact hf) rfl rfl,fun t ht=> ?_,?_⟩
  ·rw[qm] at hs
   rcases hs with hs|hs
   ·exact ho s (qL hs)
   ·rw[qK] at hs;subst hs
    exact .inr ⟨.inl hk,hx2.1,fun q=>by simp only at q;omega,by simp only;omega,hx2.2.2⟩
  ·rw[List.getLast?_concat] at ht;cases ht;exact hk
  ·conv=>rhs;rw[hl]
   rw[z4X,z4X,qE]
   congr 1
   simp only[exD,qQ,exS]
   rw[if_neg (by omega),if_neg (by omega),if_neg (by omega),if_neg (by omega),ha,show(x.n+n).toNat=x.n.toNat+n.toNat by omega]
   exact List.replicate_append_replicate.symm
 ·rename_i hq
  refine⟨fun s hs=> ?_,z4y hf (fun t ht=> ?_),fun t ht=> ?_,by rw[z4X];simp[exD,exS]⟩
  ·rw[qm] at hs
   rcases hs with hs|hs
   ·exact ho s hs
   ·rw[qK] at hs;subst hs
    exact .inr ⟨.inl rfl,rfl,fun q=>(by cases q),hn,hc⟩
  ·have h0:0<l.length:=by
    rcases l with _| ⟨y,l⟩
    ·cases ht
    ·simp
   have hl:l.getLast? =some (l.getD (l.length- 1) default):=by
    conv=>lhs;rw[lastD h0]
    rw[List.getLast?_concat]
   rw[hl] at ht
   cases ht
   cases e:adjD (l.getD (l.length- 1) default) ⟨0,n,c,[]⟩
   ·rfl
   ·rcases z4v.1 e with⟨a,b|b⟩| ⟨_,b⟩
    ·exact absurd rfl b
    ·exact absurd ⟨h0,a,b⟩ hq
    ·cases b
  ·rw[List.getLast?_concat] at ht;cases ht;rfl
theorem GoodD.keep{w:DWr}{n:Int}{c:List Attr}(h:GoodD w)(hn:1<=n)(hc:VG true c):
 GoodD ⟨keepD (z0b w) n c,[],0⟩/\exDW ⟨keepD (z0b w) n c,[],0⟩=exDW w++List.replicate n.toNat (.K c):=by
 obtain⟨q1,q2,q3,q4⟩:=y6z (z4z h).1 (z4z h).2 hn hc
 refine⟨⟨q1,q2,q3,fun x hx=>(by cases hx),zO _⟩,?_⟩
 rw[<-z6n h,<-q4]
 simp[exDW]
theorem GoodD.elems{w:DWr}{e:List Elem}(h:GoodD w)(he:∀x∈e,elemE x=0):
 GoodD ⟨w.out,w.add++e,w.cut⟩/\DSw (exDW ⟨w.out,w.add++e,w.cut⟩) (exDW w++e.map .A):=by
 refine⟨⟨h.ok,h.adj,h.last,fun x hx=> ?_,h.cut⟩,?_⟩
 ·rcases qm.1 hx with hx|hx
  ·exact h.add x hx
  ·exact he x hx
 ·unfold exDW
  simp only[zg,qE]
  refine .left _ (.left _ ?_)
  have:=y4d w.cut.toNat e []
  simp only[qQ] at this
  exact .symm this
theorem GoodD.cuts{w:DWr}{n:Int}(h:GoodD w)(hn:0<=n):
 GoodD ⟨w.out,w.add,w.cut+n⟩/\exDW ⟨w.out,w.add,w.cut+n⟩=exDW w++List.replicate n.toNat .C:=by
 have h2:=h.cut
 refine⟨⟨h.ok,h.adj,h.last,h.add,by simp only;omega⟩,?_⟩
 unfold exDW
 simp only[qE]
 rw[show(w.cut+n).toNat=w.cut.toNat+n.toNat by omega,<-List.replicate_append_replicate]
theorem GoodD.valid{w:DWr}{u:List DU}(h:GoodD w)(hs:DSw (exDW w) u)(h1:oldN u<=2147483647)(h2:newN u<=2147483647):
 z0D (z0b w)/\DSw (exD (z0b w)) u/\oldD (z0b w)=oldN u/\newD (z0b w)=newN u:=by
 have hk:=z4z h
 have he:=z6n h
 have hl:=y1B hs
 have hd:=z82 hk.1
 rw[he] at hd
 refine⟨y6y hk.1 hk.2 (by omega) (by omega),by rw[he];exact hs,by omega,by omega⟩
end Go.Ch
end
section
set_option maxRecDepth 100000
set_option maxHeartbeats 4000000
open Go Go.Proofs Go.Ab
namespace Go.Ch
theorem z6o(o:List DStep)(a:List Elem)(c:Int)(ho:o.length<=100000000000):FC Tryz.prog 181 [.ptr 0 0] (app emp [(0,.box [.row 1 o.length,.row 2 a.length,VI c]),(1,OR 4 z0c o),(2,OR 3 elemT a)]) (.tup []) (app emp [(0,.box [.row 1 ((z0b ⟨o,a,c⟩).length),.row 3 0,VI 0]),(1,OR 4 z0c (z0b ⟨o,a,c⟩)),(2,OF 3 elemT a),(3,OR 3 elemT [])]):=by
 refine .go Tryz.f181 ?_
 refine .bp [.r []] (decide ((a.length:Int)> 0)) (fun h0=> ?_) (fun h0=> ?_)
 ·
  refine .bp [.r [(9,X (Xf [(2,2)])),(10,X (rowC elemT a X0)),(11,X (rowC z0c [({kind:=1,n:=0,attrs:=[],elems:=a}:DStep)] (Xap 4 z0c 1 o [({kind:=1,n:=0,attrs:=[],elems:=a}:DStep)])))],.r []] (decide (c>0)) (fun h2=> ?_) (fun h2=> ?_)
  ·
   have e1:((z0b ⟨o,a,c⟩).length:Nat)=((o++[({kind:=1,n:=0,attrs:=[],elems:=a}:DStep)])++[({kind:=2,n:=c,attrs:=[],elems:=[]}:DStep)]).length:=by
    unfold z0b;simp only;(repeat (first|rw[if_pos (by omega)]|rw[if_neg (by omega)]));try simp
   have e2:((z0b ⟨o,a,c⟩):List DStep)=((o++[({kind:=1,n:=0,attrs:=[],elems:=a}:DStep)])++[({kind:=2,n:=c,attrs:=[],elems:=[]}:DStep)]):=by
    unfold z0b;simp only;(repeat (first|rw[if_pos (by omega)]|rw[if_neg (by omega)]));try simp
   exact .finE [.r [(9,X (Xf [(2,2),(3,3)])),(11,X (rowC z0c [({kind:=2,n:=c,attrs:=[],elems:=[]}:DStep)] (Xap 4 z0c 1 (o++[({kind:=1,n:=0,attrs:=[],elems:=a}:DStep)]) [({kind:=2,n:=c,attrs:=[],elems:=[]}:DStep)])))],.r [],.le (.nB 0 1 3)] [(0,0),(1,1),(2,2),(395,3)] (fun((z0,z1):Nat×(List DStep))=>(.tup [],[(0,.box [.row 1 z0,.row 3 0,VI 0]),(1,OR 4 z0c z1),(2,OF 3 elemT a),(3,OR 3 elemT [])])) _ _ (pr e1 e2)
  ·
   have e3:((z0b ⟨o,a,c⟩).length:Nat)=(o++[({kind:=1,n:=0,attrs:=[],elems:=a}:DStep)]).length:=by
    unfold z0b;simp only;(repeat (first|rw[if_pos (by omega)]|rw[if_neg (by omega)]));try simp
   have e4:((z0b ⟨o,a,c⟩):List DStep)=(o++[({kind:=1,n:=0,attrs:=[],elems:=a}:DStep)]):=by
    unfold z0b;simp only;(repeat (first|rw[if_pos (by omega)]|rw[if_neg (by omega)]));try simp
   exact .finE [.r [],.le (.nB 0 1 3)] [(0,0),(1,1),(2,2),(275,3)] (fun((z0,z1):Nat×(List DStep))=>(.tup [],[(0,.box [.row 1 z0,.row 3 0,VI 0]),(1,OR 4 z0c z1),(2,OF 3 elemT a),(3,OR 3 elemT [])])) _ _ (pr e3 e4)
 ·
  refine .bp [.r []] (decide (c>0)) (fun h2=> ?_) (fun h2=> ?_)
  ·
   have e5:((z0b ⟨o,a,c⟩).length:Nat)=(o++[({kind:=2,n:=c,attrs:=[],elems:=[]}:DStep)]).length:=by
    unfold z0b;simp only;(repeat (first|rw[if_pos (by omega)]|rw[if_neg (by omega)]));try simp
   have e6:((z0b ⟨o,a,c⟩):List DStep)=(o++[({kind:=2,n:=c,attrs:=[],elems:=[]}:DStep)]):=by
    unfold z0b;simp only;(repeat (first|rw[if_pos (by omega)]|rw[if_neg (by omega)]));try simp
   exact .finE [.r [(9,X (Xf [(2,2),(3,3)])),(11,X (rowC z0c [({kind:=2,n:=c,attrs:=[],elems:=[]}:DStep)] (Xap 4 z0c 1 o [({kind:=2,n:=c,attrs:=[],elems:=[]}:DStep)])))],.r [],.le (.nB 0 1 3),.le (.fz 2)] [(0,0),(1,1),(2,2),(275,3)] (fun((z0,z1):Nat×(List DStep))=>(.tup [],[(0,.box [.row 1 z0,.row 3 0,VI 0]),(1,OR 4 z0c z1),(2,OF 3 elemT a),(3,OR 3 elemT [])])) _ _ (pr e5 e6)
  ·
   have e7:((z0b ⟨o,a,c⟩).length:Nat)=o.length:=by
    unfold z0b;simp only;(repeat (first|rw[if_pos (by omega)]|rw[if_neg (by omega)]));try simp
   have e8:((z0b ⟨o,a,c⟩):List DStep)=o:=by
    unfold z0b;simp only;(repeat (first|rw[if_pos (by omega)]|rw[if_neg (by omega)]));try simp
   exact .finE [.r [],.le (.nB 0 1 3),.le (.fz 2)] [(0,0),(1,1),(2,2),(155,3)] (fun((z0,z1):Nat×(List DStep))=>(.tup [],[(0,.box [.row 1 z0,.row 3 0,VI 0]),(1,OR 4 z0c z1),(2,OF 3 elemT a),(3,OR 3 elemT [])])) _ _ (pr e7 e8)
theorem z2O(o:List DStep)(a:List Elem)(c:Int)(e:List Elem)(hs:AN 400000000000 e)(ho:a.length+e.length<=100000000000):FC Tryz.prog 117 [.ptr 0 0,VL 3 elemT e] (app emp [(0,.box [.row 1 o.length,.row 2 a.length,VI c]),(1,OR 4 z0c o),(2,OR 3 elemT a)]) (.tup []) (app emp [(0,.box [.row 1 o.length,.row 2 ((a++e).length),VI c]),(1,OR 4 z0c o),(2,OR 3 elemT (a++e))]):=by
 refine .go Tryz.f117 ?_
 refine .len 1 (fun hl1=> ?_)
 exact .fin [.r [(6,X (Xc1 51 (y0p e (by omega) (by assumption)) X0)),(7,X (Xap 3 elemT 2 a e))]] [(0,0),(1,1),(2,2)]
theorem kbd{l:List DStep}(h:∀s∈l,0<=s.n/\s.n<=10000000000):∀s∈l,0<=s.n/\s.n<=1000000000000000000:=fun s hs=>by have:=h s hs;omega
theorem z23(o:List DStep)(a:List Elem)(c:Int)(n:Int)(l:List Attr)(ho:o.length<=100000000000)(hl:l.length<=400000000000)(hn:1<=n/\n<=100000000000)(hk:∀s∈z0b ⟨o,a,c⟩,0<=s.n/\s.n<=1000000000000000000):FC Tryz.prog 118 [.ptr 0 0,VI n,VL 2 attrT l] (app emp [(0,.box [.row 1 o.length,.row 2 a.length,VI c]),(1,OR 4 z0c o),(2,OR 3 elemT a)]) (.tup []) (app emp [(0,.box [.row 1 ((keepD (z0b ⟨o,a,c⟩) n l).length),.row 3 0,VI 0]),(1,OR 4 z0c (keepD (z0b ⟨o,a,c⟩) n l)),(2,OF 3 elemT a),(3,OR 3 elemT [])]):=by
 refine .go Tryz.f118 ?_
 refine .len 2 (fun hl2=> ?_)
 have hfl:=z60 ⟨o,a,c⟩
 simp only at hfl
 refine .bp [.r []] (n==0) (fun h0=> ?_) (fun h0=> ?_)
 ·
  exfalso
  omega
 ·
  have hlast:=fun h:0< (z0b ⟨o,a,c⟩).length=>hk _ (z83 h)
  refine .bp [.r [(1,X (Xc3 27 [(0,0),(1,1),(2,2)] (z6o o a c (by omega)) X0))],.r [(5,X (Xn (((z0b ⟨o,a,c⟩).length:Int)- 1)))],.r [(4,Xv 1 (decide ((((z0b ⟨o,a,c⟩).length:Int)- 1)>=0)) X0),(5,Xv 1 (decide ((((z0b ⟨o,a,c⟩).length:Int)- 1)>=0)) X0),(6,Xv 1 (decide ((((z0b ⟨o,a,c⟩).length:Int)- 1)>=0)) X0),(8,Xv 2 (decide ((((z0b ⟨o,a,c⟩).length:Int)- 1)>=0)) (Xp' z0c 1 (z0b ⟨o,a,c⟩) (((z0b ⟨o,a,c⟩).length:Int)- 1) (((z0b ⟨o,a,c⟩).length)- 1))),(9,Xv 1 (decide ((((z0b ⟨o,a,c⟩).length:Int)- 1)>=0)) X0),(10,Xv 1 (decide ((((z0b ⟨o,a,c⟩).length:Int)- 1)>=0)) (Xe z0c (z0b ⟨o,a,c⟩) (((z0b ⟨o,a,c⟩).length)- 1))),(11,Xv 1 (decide ((((z0b ⟨o,a,c⟩).length:Int)- 1)>=0)) X0),(12,X (Xk (decide ((((z0b ⟨o,a,c⟩).length:Int)- 1)>=0)))),(15,Xv 1 (decide ((((z0b ⟨o,a,c⟩).length:Int)- 1)>=0)&&(((((z0b ⟨o,a,c⟩).getD (((z0b ⟨o,a,c⟩).length)- 1) default)).kind)==0)) X0),(16,Xv 1 (decide ((((z0b ⟨o,a,c⟩).length:Int)- 1)>=0)&&(((((z0b ⟨o,a,c⟩).getD (((z0b ⟨o,a,c⟩).length)- 1) default)).kind)==0)) X0),(17,Xv 1 (decide ((((z0b ⟨o,a,c⟩).length:Int)- 1)>=0)&&(((((z0b ⟨o,a,c⟩).getD (((z0b ⟨o,a,c⟩).length)- 1) default)).kind)==0)) X0),(19,Xv 2 (decide ((((z0b ⟨o,a,c⟩).length:Int)- 1)>=0)&&(((((z0b ⟨o,a,c⟩).getD (((z0b ⟨o,a,c⟩).length)- 1) default)).kind)==0)) (Xp' z0c 1 (z0b ⟨o,a,c⟩) (((z0b ⟨o,a,c⟩).length:Int)- 1) (((z0b ⟨o,a,c⟩).length)- 1))),(20,Xv 1 (decide ((((z0b ⟨o,a,c⟩).length:Int)- 1)>=0)&&(((((z0b ⟨o,a,c⟩).getD (((z0b ⟨o,a,c⟩).length)- 1) default)).kind)==0)) X0),(21,Xv 1 (decide ((((z0b ⟨o,a,c⟩).length:Int)- 1)>=0)&&(((((z0b ⟨o,a,c⟩).getD (((z0b ⟨o,a,c⟩).length)- 1) default)).kind)==0)) (Xe z0c (z0b ⟨o,a,c⟩) (((z0b ⟨o,a,c⟩).length)- 1))),(23,Xv 2 (decide ((((z0b ⟨o,a,c⟩).length:Int)- 1)>=0)&&(((((z0b ⟨o,a,c⟩).getD (((z0b ⟨o,a,c⟩).length)- 1) default)).kind)==0)) (Xc0 (z2g ((((z0b ⟨o,a,c⟩).getD (((z0b ⟨o,a,c⟩).length)- 1) default)).attrs) l) X0)),(24,X (Xk (decide ((((z0b ⟨o,a,c⟩).length:Int)- 1)>=0)&&(((((z0b ⟨o,a,c⟩).getD (((z0b ⟨o,a,c⟩).length)- 1) default)).kind)==0))))]] ((decide ((((z0b ⟨o,a,c⟩).length:Int)- 1)>=0)&&(((((z0b ⟨o,a,c⟩).getD (((z0b ⟨o,a,c⟩).length)- 1) default)).kind)==0))&&(sameL ((((z0b ⟨o,a,c⟩).getD (((z0b ⟨o,a,c⟩).length)- 1) default)).attrs) l)) (fun h3=> ?_) (fun h3=> ?_)
  ·
   have e1:((keepD (z0b ⟨o,a,c⟩) n l).length:Nat)=(z0b ⟨o,a,c⟩).length:=by
    unfold keepD;((repeat' split)<;>first|rfl|omega| (simp_all;done)| (simp_all;omega))
   have e2:((keepD (z0b ⟨o,a,c⟩) n l):List DStep)=((z0b ⟨o,a,c⟩).set (((z0b ⟨o,a,c⟩).length)- 1) ({kind:=(((z0b ⟨o,a,c⟩).getD (((z0b ⟨o,a,c⟩).length)- 1) default)).kind,n:=(((((z0b ⟨o,a,c⟩).getD (((z0b ⟨o,a,c⟩).length)- 1) default)).n)+n),attrs:=(((z0b ⟨o,a,c⟩).getD (((z0b ⟨o,a,c⟩).length)- 1) default)).attrs,elems:=(((z0b ⟨o,a,c⟩).getD (((z0b ⟨o,a,c⟩).length)- 1) default)).elems}:DStep)):=by
    unfold keepD;((repeat' split)<;>first|rfl|omega| (simp_all;done)| (simp_all;omega))
   exact .finE [.r [(5,X (Xp' z0c 1 (z0b ⟨o,a,c⟩) (((z0b ⟨o,a,c⟩).length:Int)- 1) (((z0b ⟨o,a,c⟩).length)- 1))),(7,X (Xe z0c (z0b ⟨o,a,c⟩) (((z0b ⟨o,a,c⟩).length)- 1))),(9,X (Xn (((((z0b ⟨o,a,c⟩).getD (((z0b ⟨o,a,c⟩).length)- 1) default)).n)+n))),(10,X (Xp' z0c 1 (z0b ⟨o,a,c⟩) (((z0b ⟨o,a,c⟩).length:Int)- 1) (((z0b ⟨o,a,c⟩).length)- 1))),(12,X (Xs 4 z0c 1 (z0b ⟨o,a,c⟩) (((z0b ⟨o,a,c⟩).length)- 1) ({kind:=(((z0b ⟨o,a,c⟩).getD (((z0b ⟨o,a,c⟩).length)- 1) default)).kind,n:=(((((z0b ⟨o,a,c⟩).getD (((z0b ⟨o,a,c⟩).length)- 1) default)).n)+n),attrs:=(((z0b ⟨o,a,c⟩).getD (((z0b ⟨o,a,c⟩).length)- 1) default)).attrs,elems:=(((z0b ⟨o,a,c⟩).getD (((z0b ⟨o,a,c⟩).length)- 1) default)).elems}:DStep)))]] [(0,0),(1,1),(2,2),(27,3)] (fun((z0,z1):Nat×(List DStep))=>(.tup [],[(0,.box [.row 1 z0,.row 3 0,VI 0]),(1,OR 4 z0c z1),(2,OF 3 elemT a),(3,OR 3 elemT [])])) _ _ (pr e1 e2)
  ·
   have e3:((keepD (z0b ⟨o,a,c⟩) n l).length:Nat)=((z0b ⟨o,a,c⟩)++[({kind:=0,n:=n,attrs:=l,elems:=[]}:DStep)]).length:=by
    unfold keepD;((repeat' split)<;>first|rfl|omega| (simp_all;done)| (simp_all;omega))
   have e4:((keepD (z0b ⟨o,a,c⟩) n l):List DStep)=((z0b ⟨o,a,c⟩)++[({kind:=0,n:=n,attrs:=l,elems:=[]}:DStep)]):=by
    unfold keepD;((repeat' split)<;>first|rfl|omega| (simp_all;done)| (simp_all;omega))
   exact .finE [.r [(7,X (Xan attrT 347 l)),(8,X (Xf [(3,3)])),(9,X (rowC attrT l X0)),(10,X (rowC z0c [({kind:=0,n:=n,attrs:=l,elems:=[]}:DStep)] (Xap 4 z0c 1 (z0b ⟨o,a,c⟩) [({kind:=0,n:=n,attrs:=l,elems:=[]}:DStep)])))]] [(0,0),(1,1),(2,2),(27,3)] (fun((z0,z1):Nat×(List DStep))=>(.tup [],[(0,.box [.row 1 z0,.row 3 0,VI 0]),(1,OR 4 z0c z1),(2,OF 3 elemT a),(3,OR 3 elemT [])])) _ _ (pr e3 e4)
theorem z5y(o:List DStep)(a:List Elem)(c:Int)(ho:o.length<=100000000000)(hc:z0W (z0b ⟨o,a,c⟩)=0)(hd:DN 400000000000 (z0b ⟨o,a,c⟩)):FC Tryz.prog 120 [.ptr 0 0] (app emp [(0,.box [.row 1 o.length,.row 2 a.length,VI c]),(1,OR 4 z0c o),(2,OR 3 elemT a)]) (.tup [.row 1 ((z0b ⟨o,a,c⟩).length),VI 0]) (app emp [(0,.box [.row 1 ((z0b ⟨o,a,c⟩).length),.row 3 0,VI 0]),(1,OR 4 z0c (z0b ⟨o,a,c⟩)),(2,OF 3 elemT a),(3,OR 3 elemT [])]):=by
 refine .go Tryz.f120 ?_
 refine .bp [.r [],.r [(1,X (Xc3 27 [(0,0),(1,1),(2,2)] (z6o o a c (by omega)) X0))],.r [(4,X (Xc0 (z1Q (z0b ⟨o,a,c⟩) (by assumption)) (rowC z0c (z0b ⟨o,a,c⟩) X0)))]] ((z0W (z0b ⟨o,a,c⟩)) !=0) (fun h2=> ?_) (fun h2=> ?_)
 ·
  exfalso
  omega
 ·
  exact .fin [.r []] [(0,0),(1,1),(2,2),(27,3)]
end Go.Ch
end
section
namespace Go.Ch
open Go Go.Ab
def putU(w:DWr):DU->DWr
 | .K c=>⟨keepD (z0b w) 1 c,[],0⟩
 | .A e=>⟨w.out,w.add++[e],w.cut⟩
 | .C=>⟨w.out,w.add,w.cut+1⟩
def foldD(w:DWr):List DU->DWr
 | []=>w
 |u::us=>foldD (putU w u) us
theorem y1E(e:List Elem)(us:List DU):∀w:DWr,foldD w (e.map .A++us)=foldD ⟨w.out,w.add++e,w.cut⟩ us:=by
 induction e with
 |nil=>intro w;simp
 |cons x e ih=>intro w;simp only[q9,qe,foldD,putU];rw[ih];simp
theorem y6A(n:Nat)(us:List DU):∀w:DWr,foldD w (List.replicate n .C++us)=foldD ⟨w.out,w.add,w.cut+n⟩ us:=by
 induction n with
 |zero=>intro w;simp
 |succ n ih=>intro w;simp only[qo,qe,foldD,putU];rw[ih];simp only;rw[show w.cut+1+(n:Int)=w.cut+((n+1:Nat):Int) by omega]
theorem y2V(l:List DStep):z0b ⟨l,[],0⟩=l:=by simp[z0b]
theorem y0q{l:List DStep}{m n:Int}{c:List Attr}:keepD (keepD l m c) n c=keepD l (m+n) c:=by
 unfold keepD
 by_cases h:0<l.length/\(l.getD (l.length- 1) default).kind=0/\sameL (l.getD (l.length- 1) default).attrs c=true
 ·rw[if_pos h,if_pos h,setD h.1,setD h.1]
  generalize l.getD (l.length- 1) default=x at*
  have e:∀y:DStep,(List.take (l.length- 1) l++[y]).getD ((List.take (l.length- 1) l++[y]).length- 1) default=y:=fun y=>by simp
  rw[e,if_pos ⟨by simp,h.2.1,h.2.2⟩,setD (by simp)]
  have t:∀y:DStep,(List.take (l.length- 1) l++[y]).take ((List.take (l.length- 1) l++[y]).length- 1)=List.take (l.length- 1) l:=fun y=>by simp
  rw[t,Int.add_assoc]
 ·rw[if_neg h,if_neg h]
  have e:∀y:DStep,(l++[y]).getD ((l++[y]).length- 1) default=y:=fun y=>by simp
  rw[e,if_pos ⟨by simp,rfl,z14 c⟩,setD (by simp)]
  simp
theorem z7U(c:List Attr)(us:List DU):∀(n:Nat) (w:DWr),foldD w (List.replicate (n+1) (.K c)++us)=foldD ⟨keepD (z0b w) ((n+1:Nat):Int) c,[],0⟩ us
 |0,w=>by simp[foldD,putU]
 |n+1,w=>by
  rw[qo,qe,foldD,z7U c us n]
  simp only[putU]
  rw[y2V,y0q,show(1:Int)+((n+1:Nat):Int)=((n+1+1:Nat):Int) by omega]
def z0G:DU->Prop
 | .K c=>VG true c/\c.length<=400000000000
 | .A e=>elemE e=0/\e.attrs.length<=400000000000
 | .C=>True
structure WBd(w:DWr):Prop where
 out:DN 400000000000 w.out
 add:AN 400000000000 w.add
theorem WBd.flush{w:DWr}(h:WBd w)(hl:w.add.length<=400000000000):DN 400000000000 (z0b w):=by
 intro s hs
 unfold z0b at hs
 simp only[qm] at hs
 rcases hs with(hs|hs)|hs
 ·exact h.out s hs
 ·split at hs
  ·rw[qK] at hs;subst hs;exact⟨hl,by simp,h.add⟩
  ·cases hs
 ·split at hs
  ·rw[qK] at hs;subst hs;exact⟨by simp,by simp,fun x hx=>by cases hx⟩
  ·cases hs
theorem WBd.keep{w:DWr}{n:Int}{c:List Attr}(h:WBd w)(hl:w.add.length<=400000000000)(hc:c.length<=400000000000):WBd ⟨keepD (z0b w) n c,[],0⟩:=by
 have hf:=h.flush hl
 refine⟨fun s hs=> ?_,fun x hx=>by cases hx⟩
 simp only at hs
 unfold keepD at hs
 split at hs
 ·rename_i q
  rw[setD q.1,qm] at hs
  rcases hs with hs|hs
  ·exact hf s (qL hs)
  ·rw[qK] at hs;subst hs
   have:=hf _ (z83 q.1)
   exact this
 ·rw[qm] at hs
  rcases hs with hs|hs
  ·exact hf s hs
  ·rw[qK] at hs;subst hs;exact⟨by simp,hc,fun x hx=>by cases hx⟩
theorem y8B{s:DStep}(h:DOkW s):1<=(exS s).length/\(s.kind≠1->s.n<=(exS s).length)/\0<=s.n/\(s.kind=1->s.n=0):=by
 unfold exS
 rcases h with⟨k,n,a,e,_⟩| ⟨k,_,_,n1,_⟩
 ·rw[if_pos k,qg]
  have:0<s.elems.length:=List.length_pos_iff.2 e
  exact⟨this,fun q=>absurd k q,by omega,fun _=>n⟩
 ·have k1:¬s.kind=1:=by omega
  rw[if_neg k1]
  refine⟨?_,fun _=> ?_,by omega,fun q=>absurd q k1⟩<;>split<;>simp<;>omega
theorem y0r:∀{l:List DStep},(∀s∈l,DOkW s)->l.length<=(exD l).length/\∀s∈l,0<=s.n/\s.n<=((exD l).length:Int)
 | [],_=>⟨qr _,fun s hs=>by cases hs⟩
 |s::l,h=>by
  have h1:=y8B (h s (by simp))
  have h2:=y0r (l:=l) (fun t ht=>h t (by simp[ht]))
  simp only[exD,qc,qi]
  refine⟨by omega,fun t ht=> ?_⟩
  rcases qn.1 ht with rfl|ht
  ·refine⟨h1.2.2.1,?_⟩
   by_cases k:t.kind=1
   ·have:=h1.2.2.2 k;omega
   ·have:=h1.2.1 k;omega
  ·have:=h2.2 t ht;omega
structure DI(w:DWr)(us:List DU)(T:Nat)(G:DWr):Prop where
 good:GoodD w
 wb:WBd w
 units:∀u∈us,z0G u
 len:(exDW w).length+us.length=T
 small:T<=8589934592
 eq:foldD w us=G
variable {w G:DWr} {us:List DU} {T:Nat}
theorem DI.bd(h:DI w us T G):w.out.length<=T/\w.add.length<=T/\0<=w.cut/\w.cut<=T/\us.length<=T/\T<=8589934592/\w.add.length+us.length<=T/\w.cut+us.length<=T:=by
 have h1:=(y0r h.good.ok).1
 have h2:=h.good.cut
 have h3:=h.len
 have h4:=h.small
 unfold exDW at h3
 simp only[qc,qW,qg] at h3
 omega
theorem DI.fl(h:DI w us T G):(∀s∈z0b w,0<=s.n/\s.n<=10000000000)/\DN 400000000000 (z0b w):=by
 have hb:=h.bd
 refine⟨fun s hs=> ?_,h.wb.flush (by omega)⟩
 have h1:=(y0r (z4z h.good).1).2 s hs
 rw[z6n h.good] at h1
 have h3:=h.len
 omega
theorem DI.keep{n:Nat}{c:List Attr}(h:DI w (List.replicate (n+1) (.K c)++us) T G):DI ⟨keepD (z0b w) ((n+1:Nat):Int) c,[],0⟩ us T G:=by
 have hu:=h.units (.K c) (by rw[qo];simp)
 have hb:=h.bd
 obtain⟨g1,g2⟩:=h.good.keep (n:=((n+1:Nat):Int)) (by omega) hu.1
 refine⟨g1,h.wb.keep (by omega) hu.2,fun u hu=>h.units u (by simp[hu]),?_,h.small,?_⟩
 ·have h3:=h.len
  rw[g2]
  simp only[qc,qW] at h3|-
  omega
 ·rw[<-h.eq,z7U]
theorem y4h{u v:List DU}(h:DSw u v):u.length=v.length:=by
 induction h with
 |refl u=>rfl
 |cons x _ ih=>simp[ih]
 |swap e u=>rfl
 |symm _ ih=>exact ih.symm
 |trans _ _ a b=>exact a.trans b
theorem DI.elems{e:List Elem}(h:DI w (e.map .A++us) T G):DI ⟨w.out,w.add++e,w.cut⟩ us T G:=by
 have hu:∀x∈e,z0G (.A x):=fun x hx=>h.units (.A x) (by simp[hx])
 obtain⟨g1,g2⟩:=h.good.elems (e:=e) (fun x hx=>(hu x hx).1)
 refine⟨g1,⟨h.wb.out,fun x hx=> ?_⟩,fun u hu=>h.units u (by simp[hu]),?_,h.small,?_⟩
 ·rcases qm.1 hx with hx|hx
  ·exact h.wb.add x hx
  ·exact(hu x hx).2
 ·have h3:=h.len
  rw[y4h g2]
  simp only[qc,qg] at h3|-
  omega
 ·rw[<-h.eq,y1E]
theorem DI.cuts{n:Nat}(h:DI w (List.replicate n .C++us) T G):DI ⟨w.out,w.add,w.cut+n⟩ us T G:=by
 obtain⟨g1,g2⟩:=h.good.cuts (n:=(n:Int)) (by omega)
 refine⟨g1,⟨h.wb.out,h.wb.add⟩,fun u hu=>h.units u (by simp[hu]),?_,h.small,?_⟩
 ·have h3:=h.len
  rw[g2]
  simp only[qc,qW] at h3|-
  omega
 ·rw[<-h.eq,y6A]
theorem DI.done(h:DI w [] T G):w=G:=h.eq
def doneD(us:List DU):List DStep:=z0b (foldD ⟨[],[],0⟩ us)
theorem DI.start(h:∀u∈us,z0G u)(hs:us.length<=8589934592):DI ⟨[],[],0⟩ us us.length (foldD ⟨[],[],0⟩ us):=
 ⟨y7R,⟨fun s h=>(by cases h),fun x h=>(by cases h)⟩,h,by simp[exDW,exD],hs,rfl⟩
theorem y1F:∀(us:List DU) (w:DWr),GoodD w->(∀u∈us,z0G u)->GoodD (foldD w us)/\DSw (exDW (foldD w us)) (exDW w++us)
 | [],w,h,_=>⟨h,by simp only[foldD,qQ];exact .refl _⟩
 |u::us,w,h,hu=>by
  have h0:=hu u (by simp)
  have hp:GoodD (putU w u)/\DSw (exDW (putU w u)) (exDW w++[u]):=by
   cases u with
   |K c=>
    obtain⟨g1,g2⟩:=h.keep (n:=1) (by decide) h0.1
    exact⟨g1,by simp only[putU];rw[g2];exact .refl _⟩
   |A e=>
    obtain⟨g1,g2⟩:=h.elems (e:=[e]) (fun x hx=>by rw[qK] at hx;subst hx;exact h0.1)
    exact⟨g1,g2⟩
   |C=>
    obtain⟨g1,g2⟩:=h.cuts (n:=1) (by decide)
    exact⟨g1,by simp only[putU];rw[g2];exact .refl _⟩
  obtain⟨q1,q2⟩:=y1F us (putU w u) hp.1 (fun v hv=>hu v (by simp[hv]))
  refine⟨q1,.trans q2 ?_⟩
  have:=hp.2.right us
  simpa using this
theorem z1Y(h:∀u∈us,z0G u)(h1:oldN us<=2147483647)(h2:newN us<=2147483647):
 z0D (doneD us)/\DSw (exD (doneD us)) us/\oldD (doneD us)=oldN us/\newD (doneD us)=newN us:=by
 obtain⟨q1,q2⟩:=y1F us ⟨[],[],0⟩ y7R h
 exact q1.valid (by simpa[exDW,exD] using q2) h1 h2
theorem y0s(us:List DU):us.length<=oldN us+newN us:=by
 induction us with
 |nil=>simp[oldN]
 |cons u us ih=>cases u<;>simp[oldN,newN]<;>omega
end Go.Ch
end
section
namespace Go.Ch
open Go Go.Ab
theorem z0Z(g:Attr->Attr->Option Attr)(a b:List Attr):(fm g a b).length<=a.length+b.length:=by
 unfold fm
 exact zd (jb _ _) (y36 a b)
def KOk(us:List DU):Prop:=(∀c,DU.K c∈us->VG true c/\c.length<=100000000000)/\(∀e,DU.A e∈us->elemE e=0/\e.attrs.length<=100000000000)
def EOk(r:List Elem):Prop:=∀x∈r,elemE x=0/\x.attrs.length<=100000000000
theorem KOk.tail{u:DU}{us:List DU}(h:KOk (u::us)):KOk us:=⟨fun c hc=>h.1 c (by simp[hc]),fun e he=>h.2 e (by simp[he])⟩
theorem EOk.tail{x:Elem}{r:List Elem}(h:EOk (x::r)):EOk r:=fun y hy=>h y (by simp[hy])
theorem z2P:∀(us:List DU) (r:List Elem),oldN us=r.length->(z0h us r).length=newN us
 | [],r,h=>by simp[z0h,newN]
 | .A e::us,r,h=>by
  have:=z2P us r (by simpa[oldN] using h)
  simp[z0h,newN,this]
 | .K c::us,[],h=>by simp[oldN] at h
 | .C::us,[],h=>by simp[oldN] at h
 | .K c::us,x::r,h=>by
  have:=z2P us r (by simpa[oldN] using h)
  simp[z0h,newN,this]
 | .C::us,x::r,h=>by
  have:=z2P us r (by simpa[oldN] using h)
  simp[z0h,newN,this]
theorem y8C{x:Elem}{c:List Attr}(h:elemE x=0)(hc:VG true c):elemE (chgE c x)=0:=by
 have v:=raw_V np_mt (z7T h) hc
 unfold elemE at h|-
 unfold chgE
 simp only
 split at h
 ·omega
 ·rename_i q1
  rw[if_neg q1]
  split at h
  ·omega
  ·rename_i q2
   rw[if_neg q2]
   exact z1H.2 v
theorem exD_K{l:List DStep}(h:∀s∈l,DOk s)(hd:DN 100000000000 l):KOk (exD l):=by
 induction l with
 |nil=>exact⟨fun c hc=>by simp[exD] at hc,fun c hc=>by simp[exD] at hc⟩
 |cons s l ih=>
  obtain⟨i1,i2⟩:=ih (fun t ht=>h t (by simp[ht])) (fun t ht=>hd t (by simp[ht]))
  have hs:=h s (by simp)
  obtain⟨b1,b2,b3⟩:=hd s (by simp)
  refine⟨fun c hc=> ?_,fun e he=> ?_⟩
  ·simp only[exD,qm] at hc
   rcases hc with hc|hc
   ·unfold exS at hc
    rcases hs with⟨k,_⟩| ⟨k,_,_,_,_,v⟩
    ·rw[if_pos k] at hc;simp at hc
    ·rw[if_neg (by omega)] at hc
     split at hc
     ·simp[zJ] at hc
     ·have:=zf hc
      cases this
      exact⟨v,b2⟩
   ·exact i1 c hc
  ·simp only[exD,qm] at he
   rcases he with he|he
   ·unfold exS at he
    rcases hs with⟨k,_,_,_,q⟩| ⟨k,_⟩
    ·rw[if_pos k,qy] at he
     obtain⟨x,hx,e1⟩:=he
     cases e1
     exact⟨q _ hx,b3 _ hx⟩
    ·rw[if_neg (by omega)] at he
     split at he
     ·simp[zJ] at he
     ·simp[zJ] at he
   ·exact i2 e he
theorem y7S{us:List DU}(h:KOk us):UOk us:=by
 induction us with
 |nil=>trivial
 |cons u us ih=>
  cases u with
  |K c=>exact⟨(h.1 c (by simp)).1,ih h.tail⟩
  |A e=>exact ih h.tail
  |C=>exact ih h.tail
variable {w G:DWr} {us:List DU} {T:Nat}
theorem DN.mono{m n:Nat}{l:List DStep}(h:DN m l)(hm:m<=n):DN n l:=fun s hs=>⟨zd (h s hs).1 hm,zd (h s hs).2.1 hm,fun x hx=>zd ((h s hs).2.2 x hx) hm⟩
end Go.Ch
end
section
namespace Go.Ch
open Go Go.Ab
def z1F(l:List Elem):Tree:= .lst 3 (l.map elemT)
def boolT(b:Bool):Tree:= .sc (.bool b)
def z2t(l:List Attr):Tree:= .lst 2 (l.map attrT)
structure Act where
 ins:List (List Elem)
 cut:List Bool
 set:List (List Attr)
def actR(x:Act)(i:Nat):List DU:=
 if i<x.cut.length then(x.ins.getD i default).map .A++((if x.cut.getD i default=true then .C else .K (x.set.getD i default))::actR x (i+1))
 else(x.ins.getD i default).map .A
termination_by x.cut.length-i
variable {w G:DWr} {us:List DU} {T:Nat}
theorem DI.keep1{c:List Attr}(h:DI w (.K c::us) T G):DI ⟨keepD (z0b w) 1 c,[],0⟩ us T G:=DI.keep (n:=0) h
theorem DI.cut1(h:DI w (.C::us) T G):DI ⟨w.out,w.add,w.cut+1⟩ us T G:=DI.cuts (n:=1) h
end Go.Ch
end
section

end
section
namespace Go.Ch
open Go Go.Ab
inductive U where
 |K
 |A
 |C
abbrev rep(n:Nat)(x:U):List U:=List.replicate n x
theorem z3G(n:Nat)(x:U):rep (n+1) x=x::rep n x:=rfl
def oldU:List U->Nat
 | []=>0
 | .A::u=>oldU u
 | .K::u=>oldU u+1
 | .C::u=>oldU u+1
def newU:List U->Nat
 | []=>0
 | .C::u=>newU u
 | .K::u=>newU u+1
 | .A::u=>newU u+1
structure AxStep where
 kind:Int
 n:Int
instance:Inhabited AxStep:=⟨⟨0,0⟩⟩
def stepT(s:AxStep):Tree:= .agg [.sc (.int .i64 s.kind),.sc (.int .i64 s.n)]
def uOf(k:Int):U:=if k=1 then .A else if k=2 then .C else .K
def ex:List AxStep->List U
 | []=>[]
 |s::l=>rep s.n.toNat (uOf s.kind)++ex l
def Ok1(s:AxStep):Prop:=0<=s.kind/\s.kind<=2/\1<=s.n
def Nx(s t:AxStep):Prop:=s.kind≠t.kind/\¬(s.kind=2/\t.kind=1)
def Form:List AxStep->Prop
 | []=>True
 | [s]=>Ok1 s
 |s::t::l=>Ok1 s/\Nx s t/\Form (t::l)
theorem Form.head{s:AxStep}{l:List AxStep}(h:Form (s::l)):Ok1 s:=by
 cases l with
 |nil=>exact h
 |cons t l=>exact h.1
theorem Form.tail{s:AxStep}{l:List AxStep}(h:Form (s::l)):Form l:=by
 cases l with
 |nil=>trivial
 |cons t l=>exact h.2.2
theorem kinds{s:AxStep}(h:Ok1 s):s.kind=0\/s.kind=1\/s.kind=2:=by have:=h.1;have:=h.2.1;omega
structure Wr where
 out:List AxStep
 add:Int
 cut:Int
def chkX(l:List AxStep)(i:Nat)(b a:Int):Int:=
 if i<l.length then
  if(l.getD i default).kind<0\/2< (l.getD i default).kind then 8
  else if(l.getD i default).n<1\/2147483647< (l.getD i default).n then 2
  else if 0<i/\((l.getD (i- 1) default).kind=(l.getD i default).kind\/((l.getD (i- 1) default).kind=2/\(l.getD i default).kind=1)) then 5
  else chkX l (i+1) (if(l.getD i default).kind≠1 then min (b+(l.getD i default).n) 2147483648 else b) (if(l.getD i default).kind≠2 then min (a+(l.getD i default).n) 2147483648 else a)
 else if 2147483647<b\/2147483647<a then 3 else 0
termination_by l.length-i
def z1D(l:List AxStep):Int:=chkX l 0 0 0
def z84(l:List AxStep)(i:Nat):Prop:=∀k,i<=k->k<l.length->Ok1 (l.getD k default)/\(0<k->Nx (l.getD (k- 1) default) (l.getD k default))
theorem z7V{l:List AxStep}{i:Nat}(h:i<l.length):l.drop i=l.getD i default::l.drop (i+1):=by
 rw[zt h];simp[List.getD,qa h]
theorem z4A{l:List AxStep}{i:Nat}(h:¬i<l.length):l.drop i=[]:=qT (by omega)
theorem old_K(n:Nat)(u:List U):oldU (rep n .K++u)=n+oldU u:=by
 induction n with
 |zero=>simp
 |succ n ih=>rw[z3G,qe,oldU,ih];omega
theorem old_A(n:Nat)(u:List U):oldU (rep n .A++u)=oldU u:=by
 induction n with
 |zero=>simp
 |succ n ih=>rw[z3G,qe,oldU,ih]
theorem old_C(n:Nat)(u:List U):oldU (rep n .C++u)=n+oldU u:=by
 induction n with
 |zero=>simp
 |succ n ih=>rw[z3G,qe,oldU,ih];omega
theorem new_K(n:Nat)(u:List U):newU (rep n .K++u)=n+newU u:=by
 induction n with
 |zero=>simp
 |succ n ih=>rw[z3G,qe,newU,ih];omega
theorem new_A(n:Nat)(u:List U):newU (rep n .A++u)=n+newU u:=by
 induction n with
 |zero=>simp
 |succ n ih=>rw[z3G,qe,newU,ih];omega
theorem new_C(n:Nat)(u:List U):newU (rep n .C++u)=newU u:=by
 induction n with
 |zero=>simp
 |succ n ih=>rw[z3G,qe,newU,ih]
theorem y4i(n:Nat)(k:Int)(u:List U):(oldU (rep n (uOf k)++u):Int)=(if k=1 then(0:Int) else(n:Int))+oldU u:=by
 unfold uOf
 by_cases h1:k=1
 ·rw[if_pos h1,if_pos h1,old_A];omega
 ·rw[if_neg h1,if_neg h1]
  by_cases h2:k=2
  ·rw[if_pos h2,old_C];omega
  ·rw[if_neg h2,old_K];omega
theorem y4j(n:Nat)(k:Int)(u:List U):(newU (rep n (uOf k)++u):Int)=(if k=2 then(0:Int) else(n:Int))+newU u:=by
 unfold uOf
 by_cases h1:k=1
 ·rw[if_pos h1,new_A,if_neg (by omega)];omega
 ·rw[if_neg h1]
  by_cases h2:k=2
  ·rw[if_pos h2,if_pos h2,new_C];omega
  ·rw[if_neg h2,if_neg h2,new_K];omega
theorem y1G(l:List AxStep):∀(m i:Nat) (b a:Int),l.length-i=m->0<=b->0<=a->b<=2147483648->a<=2147483648->
 (chkX l i b a=0↔z84 l i/\b+oldU (ex (l.drop i))<=2147483647/\a+newU (ex (l.drop i))<=2147483647)
 |0,i,b,a,h,hb,ha,hb2,ha2=>by
  rw[chkX,if_neg (by omega),z4A (by omega)]
  simp only[ex,oldU,newU]
  split
  ·constructor
   ·intro h;omega
   ·rintro⟨_,h1,h2⟩;omega
  ·exact⟨fun _=>⟨fun k h1 h2=>by omega,by omega,by omega⟩,fun _=>rfl⟩
 |m+1,i,b,a,h,hb,ha,hb2,ha2=>by
  have hi:i<l.length:=by omega
  rw[chkX,if_pos hi]
  have step:z84 l i↔(Ok1 (l.getD i default)/\(0<i->Nx (l.getD (i- 1) default) (l.getD i default)))/\z84 l (i+1):=by
   constructor
   ·exact fun h=>⟨h i (qr _) hi,fun k h1 h2=>h k (by omega) h2⟩
   ·rintro⟨h1,h2⟩ k h3 h4
    by_cases e:k=i
    ·subst e;exact h1
    ·exact h2 k (by omega) h4
  rw[step,z7V hi]
  simp only[ex]
  rw[y4i,y4j]
  have ih:=fun b' a'=>y1G l m (i+1) b' a' (by omega)
  generalize l.getD i default=x at*
  generalize l.getD (i- 1) default=y at*
  unfold Ok1 Nx
  by_cases c1:x.kind<0\/2<x.kind
  ·rw[if_pos c1];constructor
   ·intro h;omega
   ·rintro⟨⟨⟨h,_⟩,_⟩,_⟩;omega
  rw[if_neg c1]
  have n0:(oldU (ex (l.drop (i+1))):Int)>=0:=Int.natCast_nonneg _
  have n1:(newU (ex (l.drop (i+1))):Int)>=0:=Int.natCast_nonneg _
  by_cases c2:x.n<1\/2147483647<x.n
  ·rw[if_pos c2];constructor
   ·intro h;omega
   ·rintro⟨⟨⟨h,_⟩,_⟩,h1,h2⟩
    exfalso
    by_cases k1:x.kind=1
    ·rw[if_neg (by omega)] at h2;omega
    ·rw[if_neg k1] at h1;omega
  rw[if_neg c2]
  have hn:(x.n.toNat:Int)=x.n:=Int.toNat_of_nonneg (by omega)
  rw[hn]
  by_cases c3:0<i/\(y.kind=x.kind\/(y.kind=2/\x.kind=1))
  ·rw[if_pos c3];constructor
   ·intro h;omega
   ·rintro⟨⟨⟨_,h⟩,_⟩,_⟩
    have:=h c3.1
    rcases c3.2 with q|q
    ·exact absurd q this.1
    ·exact absurd q this.2
  rw[if_neg c3,ih _ _ (by split<;>omega) (by split<;>omega) (by split<;>omega) (by split<;>omega)]
  constructor
  ·rintro⟨f,h1,h2⟩
   refine⟨⟨⟨⟨by omega,by omega,by omega⟩,fun h0=>⟨fun e=>c3 ⟨h0,.inl e⟩,fun e=>c3 ⟨h0,.inr e⟩⟩⟩,f⟩,?_,?_⟩
   ·by_cases k1:x.kind=1
    ·rw[if_pos k1];rw[if_neg (by omega)] at h1;omega
    ·rw[if_neg k1];rw[if_pos k1] at h1;omega
   ·by_cases k1:x.kind=2
    ·rw[if_pos k1];rw[if_neg (by omega)] at h2;omega
    ·rw[if_neg k1];rw[if_pos k1] at h2;omega
  ·rintro⟨⟨_,f⟩,h1,h2⟩
   refine⟨f,?_,?_⟩
   ·by_cases k1:x.kind=1
    ·rw[if_pos k1] at h1;rw[if_neg (by omega)];omega
    ·rw[if_neg k1] at h1;rw[if_pos k1];omega
   ·by_cases k1:x.kind=2
    ·rw[if_pos k1] at h2;rw[if_neg (by omega)];omega
    ·rw[if_neg k1] at h2;rw[if_pos k1];omega
theorem z61:∀{l:List AxStep},z84 l 0->Form l
 | [],_=>trivial
 | [s],h=>(h 0 (qr _) (by simp)).1
 |s::t::l,h=>by
  have h0:=h 0 (qr _) (by simp)
  have h1:=h 1 (by omega) (by simp)
  refine⟨h0.1,h1.2 (by omega),z61 (l:=t::l) (fun k _ hk=> ?_)⟩
  have:=h (k+1) (by omega) (by simp at hk|-;omega)
  refine⟨by simpa using this.1,fun hk0=> ?_⟩
  obtain⟨m,rfl⟩:∃m,k=m+1:=⟨k- 1,by omega⟩
  simpa using this.2 (by omega)
theorem z4Y:∀{l:List AxStep},Form l->z84 l 0
 | [],_=>fun k _ hk=>by simp at hk
 |s::l,h=>by
  have ih:=z4Y h.tail
  intro k _ hk
  cases k with
  |zero=>exact⟨h.head,fun h=>absurd h (by decide)⟩
  |succ k=>
   have:=ih k (by omega) (by simpa using hk)
   refine⟨by simpa using this.1,fun _=> ?_⟩
   cases k with
   |zero=>
    cases l with
    |nil=>simp at hk
    |cons t l=>exact h.2.1
   |succ k=>simpa using this.2 (by omega)
def Valid(l:List AxStep):Prop:=Form l/\oldU (ex l)<=2147483647/\newU (ex l)<=2147483647
theorem z3s{l:List AxStep}:z1D l=0↔Valid l:=by
 unfold z1D Valid
 rw[y1G l _ 0 0 0 rfl (by decide) (by decide) (by decide) (by decide),zS]
 constructor
 ·rintro⟨a,b,c⟩;exact⟨z61 a,by omega,by omega⟩
 ·rintro⟨a,b,c⟩;exact⟨z4Y a,by omega,by omega⟩
def ru(l:List AxStep)(u:Int):List U:=(ex l).drop u.toNat
def intT(z:Int):Tree:= .sc (.int .i64 z)
def strT(s:ByteArray):Tree:= .sc (.string s)
def cmpI(x y:Int):Int:=if x<y then-1 else if x>y then 1 else 0
def orL:List Int->Int
 | []=>0
 |x::l=>if x≠0 then x else orL l
theorem y7T{l:List Int}{i:Nat}(h:i<l.length):orL (l.drop i)=if l.getD i default≠0 then l.getD i default else orL (l.drop (i+1)):=by
 rw[zt h,orL]
 simp[List.getD,qa h]
theorem y8D(a b:Int):orL [a,b]=if a≠0 then a else b:=by
 by_cases h:a=0
 ·by_cases k:b=0<;>simp[orL,h,k]
 ·simp[orL,h]
end Go.Ch
end
section

end
section
namespace Go.Ch
open Go Go.Ab
def onB:ByteArray:={data:=#[111,110]}
def UnitS:DU->Prop
 | .K c=>VG true c/\c.length<=100
 | .A e=>elemE e=0/\e.attrs.length<=100
 | .C=>True
theorem UnitS.ok{u:DU}(h:UnitS u):z0G u:=by
 cases u with
 |K c=>exact⟨h.1,by have:=h.2;omega⟩
 |A e=>exact⟨h.1,by have:=h.2;omega⟩
 |C=>trivial
theorem z0e{α:Type}[Inhabited α]{l:List α}{k:Nat}(h:k<l.length):l.getD k default∈l:=by
 rw[show l.getD k default=l[k] by simp[List.getD,qa h]]
 exact zx h
theorem z3t{u v:List DU}(h:DSw u v):∀x,x∈u↔x∈v:=by
 induction h with
 |refl u=>exact fun x=>Iff.rfl
 |cons y _ ih=>intro x;simp[ih x]
 |swap e u=>intro x;simp only[qn];constructor<;>rintro(h|h|h)<;>simp[h]
 |symm _ ih=>exact fun x=>(ih x).symm
 |trans _ _ a b=>exact fun x=>(a x).trans (b x)
theorem y4k{l:List DStep}{s:DStep}(h:s∈l){u:DU}(hu:u∈exS s):u∈exD l:=by
 induction l with
 |nil=>cases h
 |cons t l ih=>
  simp only[exD,qm]
  rcases qn.1 h with rfl|h
  ·exact .inl hu
  ·exact .inr (ih h)
theorem y1H:∀{l:List DStep},(∀s∈l,DOk s)->∀s∈l,nS s<=newD l
 | [],_,s,h=>by cases h
 |t::l,h,s,hs=>by
  have h1:=oS_nn (h t (by simp))
  have h2:=z4W (l:=l) (fun t ht=>h t (by simp[ht]))
  simp only[newD]
  rcases qn.1 hs with rfl|hs
  ·omega
  ·have:=y1H (l:=l) (fun t ht=>h t (by simp[ht])) s hs;omega
theorem dn_of{l:List DStep}{us:List DU}(hv:z0D l)(hs:DSw (exD l) us)(hu:∀u∈us,UnitS u):DN 100000000000 l:=by
 intro s hs'
 have ho:=hv.1.all s hs'
 have hn:=y1H hv.1.all s hs'
 have v2:=hv.2.2
 have hm:=fun u hu'=>hu u ((z3t hs u).1 (y4k hs' (u:=u) hu'))
 unfold exS at hm
 unfold nS szD at hn
 rcases ho with⟨k,n,a,e,q⟩| ⟨k,a,b,n1,n2,v⟩
 ·rw[if_neg (by omega),if_pos k] at hn
  rw[if_pos k] at hm
  refine⟨by omega,by rw[a];simp,fun x hx=> ?_⟩
  have:=(hm (.A x) (qy.2 ⟨x,hx,rfl⟩)).2
  omega
 ·rw[if_neg (by omega)] at hm
  refine⟨by rw[a];simp,?_,fun x hx=>by rw[a] at hx;cases hx⟩
  by_cases k2:s.kind=2
  ·rw[b k2];simp
  ·rw[if_neg k2] at hm
   have:=(hm (.K s.attrs) (by rw[zJ];exact⟨by omega,rfl⟩)).2
   omega
end Go.Ch
end
section
namespace Go.Ch
open Go Go.Ab
variable {w G:DWr} {us:List DU} {T:Nat}
theorem DI.all:∀{us:List DU} {w:DWr},DI w us T G->DI G [] T G
 | [],w,h=>by have:=h.done;subst this;exact h
 | .K c::us,w,h=>DI.all h.keep1
 | .A e::us,w,h=>DI.all (DI.elems (e:=[e]) h)
 | .C::us,w,h=>DI.all h.cut1
theorem y1I(hu:∀u∈us,z0G u)(hs:us.length<=8589934592):DN 400000000000 (doneD us):=(DI.start hu hs).all.fl.2
theorem y7U(s:ByteArray)(n:Nat):AN n (z0j s):=fun x hx=>by
 obtain⟨i,_,rfl⟩:=qy.1 hx
 simp[ltr]
end Go.Ch
end
section
namespace Go.Ch
open Go Go.Ab
def z0g:List DU->List DU->List DU
 | .C::p,q=> .C::z0g p q
 |p,.A e::q=> .A e::z0g p q
 | .K c::p,.K d::q=> .K (fm botG c d)::z0g p q
 | .K _::p,.C::q=> .C::z0g p q
 | .A e::p,.K d::q=> .A (chgE d e)::z0g p q
 | .A _::p,.C::q=>z0g p q
 |p,[]=>p
 | [],_=>[]
termination_by p q=>p.length+q.length
theorem y4l{x:Elem}{c d:List Attr}(hx:VG false x.attrs)(hc:VG true c)(hd:VG true d):chgE (fm botG c d) x=chgE d (chgE c x):=by
 unfold chgE
 simp only
 rw[y38 np_mt hx hc hd]
theorem z08:∀(n:Nat) (p q:List DU) (l:List Elem),p.length+q.length<=n->oldN p=l.length->newN p=oldN q->UOk p->UOk q->(∀x∈l,VG false x.attrs)->
 z0h (z0g p q) l=z0h q (z0h p l)
 |n,.C::p,q,[],hn,ho,_,_,_,_=>by simp[oldN] at ho
 |n,.C::p,q,x::l,hn,ho,hm,hp,hq,hl=>by
  simp only[qi] at hn
  obtain⟨n,rfl⟩:∃k,n=k+1:=⟨n- 1,by omega⟩
  rw[z0g]
  simp only[z0h]
  exact z08 n p q l (by omega) (by simpa[oldN] using ho) (by simpa[newN] using hm) hp hq (fun y hy=>hl y (by simp[hy]))
 |n,[],.A e::q,l,hn,ho,hm,hp,hq,hl=>by
  simp only[qi] at hn
  obtain⟨n,rfl⟩:∃k,n=k+1:=⟨n- 1,by omega⟩
  rw[z0g]
  ·simp only[z0h]
   rw[z08 n [] q l (by simp only[zh] at hn|-;omega) ho (by simpa[oldN] using hm) hp hq hl]
   simp[z0h]
  ·intro p hp;cases hp
 |n,.A a::p,.A e::q,l,hn,ho,hm,hp,hq,hl=>by
  simp only[qi] at hn
  obtain⟨n,rfl⟩:∃k,n=k+1:=⟨n- 1,by omega⟩
  rw[z0g]
  ·simp only[z0h]
   rw[z08 n (.A a::p) q l (by simp only[qi];omega) ho (by simpa[oldN] using hm) hp hq hl]
   simp[z0h]
  ·intro p hp;cases hp
 |n,.K c::p,.A e::q,l,hn,ho,hm,hp,hq,hl=>by
  simp only[qi] at hn
  obtain⟨n,rfl⟩:∃k,n=k+1:=⟨n- 1,by omega⟩
  rw[z0g]
  ·simp only[z0h]
   rw[z08 n (.K c::p) q l (by simp only[qi];omega) ho (by simpa[oldN] using hm) hp hq hl]
  ·intro p hp;cases hp
 |n,.K c::p,.K d::q,[],hn,ho,hm,hp,hq,hl=>by simp[oldN] at ho
 |n,.K c::p,.K d::q,x::l,hn,ho,hm,hp,hq,hl=>by
  simp only[qi] at hn
  obtain⟨n,rfl⟩:∃k,n=k+1:=⟨n- 1,by omega⟩
  rw[z0g]
  simp only[z0h]
  rw[z08 n p q l (by omega) (by simpa[oldN] using ho) (by simpa[newN,oldN] using hm) hp.2 hq.2 (fun y hy=>hl y (by simp[hy])),y4l (hl x (by simp)) hp.1 hq.1]
 |n,.K c::p,.C::q,[],hn,ho,hm,hp,hq,hl=>by simp[oldN] at ho
 |n,.K c::p,.C::q,x::l,hn,ho,hm,hp,hq,hl=>by
  simp only[qi] at hn
  obtain⟨n,rfl⟩:∃k,n=k+1:=⟨n- 1,by omega⟩
  rw[z0g]
  simp only[z0h]
  exact z08 n p q l (by omega) (by simpa[oldN] using ho) (by simpa[newN,oldN] using hm) hp.2 hq (fun y hy=>hl y (by simp[hy]))
 |n,.A a::p,.K d::q,l,hn,ho,hm,hp,hq,hl=>by
  simp only[qi] at hn
  obtain⟨n,rfl⟩:∃k,n=k+1:=⟨n- 1,by omega⟩
  rw[z0g]
  simp only[z0h]
  rw[z08 n p q l (by omega) (by simpa[oldN] using ho) (by simpa[newN,oldN] using hm) hp hq.2 hl]
 |n,.A a::p,.C::q,l,hn,ho,hm,hp,hq,hl=>by
  simp only[qi] at hn
  obtain⟨n,rfl⟩:∃k,n=k+1:=⟨n- 1,by omega⟩
  rw[z0g]
  simp only[z0h]
  exact z08 n p q l (by omega) (by simpa[oldN] using ho) (by simpa[newN,oldN] using hm) hp hq hl
 |n,[],[],l,hn,ho,hm,hp,hq,hl=>by simp[z0g,z0h]
 |n,[],.K d::q,l,hn,ho,hm,hp,hq,hl=>by simp[oldN,newN] at hm
 |n,[],.C::q,l,hn,ho,hm,hp,hq,hl=>by simp[oldN,newN] at hm
 |n,.K c::p,[],l,hn,ho,hm,hp,hq,hl=>by simp[oldN,newN] at hm
 |n,.A c::p,[],l,hn,ho,hm,hp,hq,hl=>by simp[oldN,newN] at hm
end Go.Ch
end
