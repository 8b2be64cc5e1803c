/- An owned row that nobody writes from here on. -/
import Derived.Test.YtfihplmfjihpeaaGreatDoorM5
import Derived.RangeFuncLeaves
import Derived.KernelRfl
import Derived.Test.YtfihplmfjihpeaaGreatDoorProg
import Derived.Maps.RangeRun
import Derived.Shelf.Unicode.DecodeSlow
import Derived.Lib.TrimUEq
import Derived.Lib.QuoteLoop
import Derived.Lib.ValidLaws
import Derived.Lib.ValidAsc
section
set_option linter.unusedVariables false
namespace Go.Ab
open Go
variable {P:Program} {n:Nat} {l0:List (Nat×Ob)} {s:St}
theorem Le.fz{id k:Nat}{xs:List Tree}(hid:s.st id=some (.row k false xs)):Le n l0 s ⟨s.sl,upd s.st id (.row k true xs),s.nx⟩:=by
 intro P F m0 w0 m a w h0 h1 h2
 obtain⟨r1,r2⟩:=freeze h1.srel hid
 refine⟨m,⟨fun t'=>r2.val (h1.slots t'),h1.size,h1.defers.ext r2,r1,fun i hi=> ?_⟩,h2.trans h0 r2⟩
 have hi':s.nx≤i:=hi
 have:i≠id:=fun e=>by subst e;rw[h1.fresh i hi] at hid;cases hid
 show upd s.st id (.row k true xs) i=none
 rw[upd_ne this]
 exact h1.fresh i hi
end Go.Ab
end
section
set_option linter.unusedVariables false
namespace Go.Ab
variable {P:Program} {w w':World} {F:Fen P} {st:Store} {m:Place} {ok ok':Nat→Prop}
def Still(ok:Nat→Prop)(w w':World):Prop:=∀b us e z,ok b→w.heap[b]? =some (.cells us e z)→w'.heap[b]? =w.heap[b]?
theorem cells_of_cell{b o:Nat}{u:Value}(h:w.cell? ⟨b,o,none⟩=some u):∃us e z,w.heap[b]? =some (.cells us e z):=by
 unfold World.cell? at h
 split at h
 ·rename_i c e z hb;exact⟨c,e,z,hb⟩
 ·cases h
theorem Still.cell(h:Still ok w w'){b o:Nat}{u:Value}(hb:ok b)(hc:w.cell? ⟨b,o,none⟩=some u):w'.cell? ⟨b,o,none⟩=some u:=by
 obtain⟨us,e,z,hh⟩:=cells_of_cell hc
 rw[cell_of_heap (h b us e z hb hh)];exact hc
theorem TRep.still(hok:∀b,ok b→ok' b)(hs:Still ok w w'){T:Tree}{v:Value}(h:TRep w ok T v):TRep w' ok' T v:=h.mono hok (fun b o u hb hc=>hs.cell hb hc)
theorem VRel.still(hok:∀b,ok b→ok' b)(hs:Still ok w w'){v:AVal}{u:Value}(h:VRel st m w ok v u):VRel st m w' ok' v u:=by
 induction h with
 |t T u hT=>exact .t T u (hT.still hok hs)
 |xl k xs u hT hc=>exact .xl k xs u (hT.still hok hs) hc
 |row id n k fz xs L h1 h2 h3=>exact .row id n k fz xs L h1 h2 h3
 |ptr id off cs b h1 h2=>exact .ptr id off cs b h1 h2
 |bsl id n cs b h1 h2=>exact .bsl id n cs b h1 h2
 |psl id n cs b c h1 h2 h3=>exact .psl id n cs b c h1 h2 h3
 |bslG id n L h1=>exact .bslG id n L h1
 |pslG id n L h1=>exact .pslG id n L h1
 |eptr id n i sub k fz xs b h1 h2 h3=>exact .eptr id n i sub k fz xs b h1 h2 h3
 |mat id fz xs hh L h1 h2=>exact .mat id fz xs hh L h1 h2
 |mptr id i fz xs hh b h1 h2=>exact .mptr id i fz xs hh b h1 h2
 |cptr cs b o us h1 h2 h3 h4 h5=>exact .cptr cs b o us (hok _ h1) h2 h3 (fun j u hu=>hs.cell h1 (h4 j u hu)) (fun j T u a b=>(h5 j T u a b).still hok hs)
 |agg cs us h1 _ h3 ih=>exact .agg cs us h1 ih h3
 |fn f cap us h1 _ ih=>exact .fn f cap us h1 ih
 |tup vs us h1 _ ih=>exact .tup vs us h1 ih
 |cond c v u _ h0 ih=>exact .cond c v u ih h0
 |junk u=>exact .junk u
 |rowG id n L h1=>exact .rowG id n L h1
 |eptrG id n i sub b o h1=>exact .eptrG id n i sub b o h1
 |anyB b=>exact .anyB b
 |ifc t u=>exact .ifc t u
 |tail id n i k fz xs L h1 h2 h3 h4=>exact .tail id n i k fz xs L h1 h2 h3 h4
 |tailG id n i k L h1=>exact .tailG id n i k L h1
 |hdl id o b u h1 h2 h3=>exact .hdl id o b u h1 h2 h3
 |ptrG id off b h1=>exact .ptrG id off b h1
 |yl id Y pre h1=>exact .yl id Y pre h1
theorem RowAt.still(hok:∀b,ok b→ok' b)(hs:Still ok w w'){k:Nat}{xs:List Tree}{L:Option Nat×Nat}(hb:∀b,L.1=some b→w'.heap[b]? =w.heap[b]?)(h:RowAt w ok k xs L):RowAt w' ok' k xs L:=by
 obtain⟨a1,a2,a3,a4,a5⟩:=h
 refine⟨a1,a2,a3,a4,a5.imp (fun h=>h) ?_⟩
 rintro⟨b,us,e,h1,h2,h3,h4,h5⟩
 exact⟨b,us,e,h1,(hb b h1).trans h2,h3,h4,fun j T u p q=>(h5 j T u p q).still hok hs⟩
theorem MRel.still(hok:∀b,ok b→ok' b)(hs:Still ok w w'){v:MV}{u:Value}{c:Option Nat}(hb:∀b,c=some b→w'.heap[b]? =w.heap[b]?)(h:MRel st m w ok v u c):MRel st m w' ok' v u c:=by
 cases v with
 |im T=>exact⟨h.1.still hok hs,h.2⟩
 |cp cs=>exact⟨h.1.still hok hs,h.2⟩
 |bx cs=>
  obtain⟨b,us,e,h1,h2,h3,h4,h5,h6⟩:=h
  exact⟨b,us,e,h1,h2,(hb b h1).trans h3,h4,h5,fun i T u p q=>(h6 i T u p q).still hok hs⟩
 |rw k xs=>
  obtain⟨L,h1,h2,h3⟩:=h
  exact⟨L,h1,h2,h3.still hok hs (fun b e=>hb b (h2.symm.trans e))⟩
theorem ORel.still(hok:∀b,ok b→ok' b)(hs:Still ok w w'){o:Ob}{L:Option Nat×Nat}{g:List Nat}(hx:∀Y pre,o= .ext Y pre→Y.holds pre g w→(∀b,Y.D b→ok b)→Y.holds pre g w')(hb:∀b,(L.1=some b∨b∈g)→w'.heap[b]? =w.heap[b]?)(h:ORel st m w ok o L g):ORel st m w' ok' o L g:=by
 cases o with
 |box cs=>
  obtain⟨b,us,e,h1,h2,h3,h4⟩:=h
  exact⟨b,us,e,h1,(hb b (.inl h1)).trans h2,h3,fun i v u p q=>⟨(h4 i v u p q).1.still hok hs,(h4 i v u p q).2⟩⟩
 |mat fz xs hh=>
  obtain⟨⟨b,us,e,h1,h2,h3,h4⟩,q⟩:=h
  exact⟨⟨b,us,e,h1,(hb b (.inl h1)).trans h2,h3,fun i v u p q=>⟨(h4 i v u p q).1.still hok hs,(h4 i v u p q).2⟩⟩,q⟩
 |row k fz xs=>exact RowAt.still hok hs (fun b e=>hb b (.inl e)) h
 |gone=>exact h
 |siter s pos=>
  obtain⟨b,h1,h2⟩:=h
  exact⟨b,h1,(hb b (.inl h1)).trans h2⟩
 |mp es hh=>
  obtain⟨b,ents,bl,h1,h2,h3,h4,h5,h6,h7⟩:=h
  refine⟨b,ents,bl,h1,(hb b (.inl h1)).trans h2,h3,h4,h5,h6,fun i x e p q=> ?_⟩
  obtain⟨q1,q2,q3⟩:=h7 i x e p q
  have hbl:∀b',bl i=some b'→w'.heap[b']? =w.heap[b']? :=fun b' e'=>hb b' (.inr (h5 i b' (List.getElem?_eq_some_iff.1 p).1 e').1)
  refine⟨q1,q2,?_⟩
  match hh with
  |none=>exact MRel.still hok hs hbl q3
  |some (k',v')=>exact⟨fun e=>⟨(q3.1 e).1.still hok hs,(q3.1 e).2⟩,fun e=>(q3.2 e).still hok hs hbl⟩
 |miter mid n seen=>
  obtain⟨b,bm,h1,h2,h3,h4⟩:=h
  exact⟨b,bm,h1,h2,h3,(hb b (.inl h1)).trans h4⟩
 |pool es hh=>
  obtain⟨h1,h2,h3,h4⟩:=h
  refine⟨h1,h2,fun x hx hr=>⟨(h3 x hx hr).1,?_⟩,fun b r e=>(h4 b r e).still hok hs⟩
  obtain⟨us,e,q1,q2,q3,q4⟩:=(h3 x hx hr).2
  exact⟨us,e,(hb _ (.inr (h3 x hx hr).1)).trans q1,q2,q3,fun i T u p q=>⟨(q4 i T u p q).1.still hok hs,(q4 i T u p q).2⟩⟩
 |ext Y pre=>
  exact⟨h.1,hx Y pre rfl h.2.1 h.2.2,fun b hD=>hok b (h.2.2 b hD)⟩
theorem okB.grow(hsz:w.heap.size≤w'.heap.size){b:Nat}(h:okB F st m w b):okB F st m w' b:=⟨by have:=h.1;omega,h.2⟩
theorem SRel.still(hS:SRel F st m w)(hs:Still (okB F st m w) w w')(hx:∀id Y pre,st id=some (.ext Y pre)→Y.holds pre (m.g id) w→(∀b,Y.D b→okB F st m w b)→Y.holds pre (m.g id) w')(hsz:w.heap.size≤w'.heap.size)(hb:∀id o b,st id=some o→m.has id b→w'.heap[b]? =w.heap[b]?)(hh:∀b o,F.says b o→w'.heap[b]? =some o):SRel F st m w':=
 ⟨fun id o ho=>(hS.objs id o ho).still (fun b h=>h.grow hsz) hs (fun Y pre e=>hx id Y pre (e▸ho)) (fun b h=>hb id o b ho h),hS.inj,hS.avoid,fun id o b ho h=>Nat.lt_of_lt_of_le (hS.lt id o b ho h) hsz,fun b h=>Nat.lt_of_lt_of_le (hS.low b h) hsz,hh⟩
theorem putObj_other{D:Nat}{o:Obj}{b:Nat}(h:b≠D):(w.putObj D o).heap[b]? =w.heap[b]? :=World.putObj_heap_other h
theorem put_mark(hS:SRel F st m w){D:Nat}(hD:w.heap[D]? =some (.deferred (some [])))(hn:∀id o,st id=some o→¬m.has id D):
 SRel F st m (w.putObj D (.deferred none))∧Still (okB F st m w) w (w.putObj D (.deferred none)):=by
 have hs:Still (okB F st m w) w (w.putObj D (.deferred none)):=fun b us e z _ hc=>putObj_other (fun e=>by subst e;rw[hD] at hc;cases hc)
 refine⟨hS.still hs (fun id Y pre hi hh _=>Y.stabD _ _ _ _ D hh hD (fun hg=>hn id _ hi (.inr hg)) (by simp) (fun b hb=>putObj_other hb)) (by simp) (fun id o b ho hb=>putObj_other (fun e=>hn id o ho (e▸hb))) (fun b o h=> ?_),hs⟩
 rw[putObj_other (fun e=> ?_)]
 ·exact hS.hold b o h
 ·subst e
  obtain⟨us,e,z,rfl⟩:=F.cel b o h
  have:=hS.hold b _ h
  rw[hD] at this;cases this
theorem LeavesInM_marks{fn:Func}{tmps:Array Value}{R:Ending→World→Prop}{l0:List (Nat×Ob)}{m0:Place}{w0:World}(hlo:F.lo=w0.heap.size){sl:List (Nat×AVal)}:∀(l:List Nat) (w:World),l.Nodup→
 (∀D∈l,F.lo≤D∧(∀id o,st id=some o→¬m.has id D)∧w.heap[D]? =some (.deferred (some [])))→SRel F st m w→SlotsRel st m w (okB F st m w) sl tmps→FrameExt F (app emp l0) m0 w0 st m w→
 (∀w',SRel F st m w'→SlotsRel st m w' (okB F st m w') sl tmps→FrameExt F (app emp l0) m0 w0 st m w'→∃v,(results fn tmps).run P w'= .ok v w'∧R (.returned v) w')→LeavesInM Fence.wide 0 P fn tmps R (l.map markD) .returning w
 | [],w,_,_,hS,hsl,hF,hR=>by
  obtain⟨v,h1,h2⟩:=hR w hS hsl hF
  exact⟨v,h1,h2⟩
 |D::l,w,hn,hl,hS,hsl,hF,hR=>by
  rw[List.nodup_cons] at hn
  obtain⟨d1,d2,d3⟩:=hl D List.mem_cons_self
  obtain⟨k1,k2⟩:=put_mark hS d3 d2
  refine⟨by simp,.inl ⟨D,_,rfl,run_takeDeferred d3,?_⟩⟩
  refine LeavesInM_marks hlo l _ hn.2 (fun D' hD'=> ?_) k1 (fun t=>(hsl t).still (fun b h=>h.grow (by simp)) k2) ?_ hR
  ·obtain⟨e1,e2,e3⟩:=hl D' (List.mem_cons_of_mem _ hD')
   exact⟨e1,e2,(putObj_other (fun e=>hn.1 (by rw[←e];exact hD'))).trans e3⟩
  ·refine⟨hF.os,hF.tape,hF.output,by simpa using hF.size,fun b hb hf=> ?_,hF.keep,hF.new⟩
   rw[putObj_other (fun e=>by omega)]
   exact hF.block b hb hf
end Go.Ab
end
section
set_option linter.unusedVariables false
namespace Go.Ab
open Go
variable {P:Program} {n:Nat} {l0:List (Nat×Ob)} {s:St}
theorem loadAt_ok{ty:TypeId}{u v:Value}{w:World}(h:(Instr.loadAt ty u).run P w= .ok v w):∃a,u= .pointer (some a)∧(loadVar ty a).run P w= .ok v w:=by
 unfold Instr.loadAt at h
 cases u with
 |pointer p=>
  cases p with
  |some a=>exact⟨a,rfl,by simpa[Instr.sureAddr] using h⟩
  |none=>simp[Instr.sureAddr,stuck] at h
 |_=>simp[Instr.sureAddr,stuck] at h
def loadsM(P:Program)(sl:List (Nat×AVal))(st:Store):List ResultVar→Option (List AVal)
 | []=>some []
 | .tmp t::l=>(loadsM P sl st l).map (get sl t:: ·)
 | .cell t ty::l=>match loadK P ty (get sl t) st Orc.no,loadsM P sl st l with
  |some ⟨v,_,[]⟩,some vs=>some (v::vs)
  |_,_=>none
def resM(P:Program)(rs:List ResultVar)(sl:List (Nat×AVal))(st:Store):Option AVal:=
 match loadsM P sl st rs with
 |some [v]=>some v
 |some vs=>some (.tup vs)
 |none=>none
def FinM(P:Program)(n:Nat)(l0:List (Nat×Ob))(rs:List ResultVar)(res:AVal)(l1:List (Nat×Ob))(e:Exit)(s:St):Prop:=
 (e= .ret∨e= .normal)∧∃s' r0 s2,Le n l0 s s'∧resM P rs s'.sl s'.st=some r0∧Le 1 l0 ⟨[(0,r0)],s'.st,s'.nx⟩ s2∧s2.st=app emp l1∧get s2.sl 0=res
theorem FinM.here{rs:List ResultVar}{res:AVal}{l1:List (Nat×Ob)}{e:Exit}{s':St}(he:e= .ret∨e= .normal)(h:Le n l0 s s')(hs:s'.st=app emp l1)(hr:resM P rs s'.sl s'.st=some res):FinM P n l0 rs res l1 e s:=
 ⟨he,s',res,⟨[(0,res)],s'.st,s'.nx⟩,h,hr,Le.refl _,hs,by simp[get]⟩
theorem FinM.le{rs:List ResultVar}{res:AVal}{l1:List (Nat×Ob)}{e:Exit}{s':St}(h:Le n l0 s s')(k:FinM P n l0 rs res l1 e s'):FinM P n l0 rs res l1 e s:=by
 obtain⟨k1,s2,r0,s3,k2,k3,k4⟩:=k
 exact⟨k1,s2,r0,s3,h.trans k2,k3,k4⟩
theorem loadsM_run{F:Fen P}{m:Place}{w:World}{a:Act}{sl:List (Nat×AVal)}{st:Store}(hS:SRel F st m w)(hsl:∀t,VRel st m w (okB F st m w) (get sl t) (a.tmps.getD t undef))
 (g:ResultVar→Sem Value) (g1:∀t,g (.tmp t)=pure (a.tmps.getD t undef)) (g2:∀t ty b v,a.tmps.getD t undef= .pointer (some b)→(loadVar ty b).run P w= .ok v w→(g (.cell t ty)).run P w= .ok v w):
 ∀(rs:List ResultVar) (vs:List AVal),loadsM P sl st rs=some vs→∃us,(rs.mapM g).run P w= .ok us w∧us.length=vs.length∧∀(i:Nat) (v:AVal) (u:Value),vs[i]? =some v→us[i]? =some u→VRel st m w (okB F st m w) v u
 | [],vs,h=>by
  simp only[loadsM,Option.some.injEq] at h
  subst h
  exact⟨[],by simp,rfl,fun i v u hv=>by simp at hv⟩
 | .tmp t::l,vs,h=>by
  simp only[loadsM,Option.map_eq_some_iff] at h
  obtain⟨vs',h1,rfl⟩:=h
  obtain⟨us,q1,q2,q3⟩:=loadsM_run hS hsl g g1 g2 l vs' h1
  refine⟨a.tmps.getD t undef::us,by rw[List.mapM_cons,g1];simp only[Sem.run_bind,Sem.run_pure,Result.andThen_ok,q1],by simp[q2],fun i v u hv hu=> ?_⟩
  cases i with
  |zero=>simp only[List.getElem?_cons_zero,Option.some.injEq] at hv hu;subst hv;subst hu;exact hsl t
  |succ i=>exact q3 i v u (by simpa using hv) (by simpa using hu)
 | .cell t ty::l,vs,h=>by
  simp only[loadsM] at h
  split at h
  ·rename_i v0 wr vs' hk h1
   simp only[Option.some.injEq] at h
   subst h
   obtain⟨us,q1,q2,q3⟩:=loadsM_run hS hsl g g1 g2 l vs' h1
   obtain⟨v,r1,r2,_⟩:=loadK_sound hk trivial (fun _ _ h=>h) hS (hsl t)
   obtain⟨b,hb,r3⟩:=loadAt_ok r1
   refine⟨v::us,by rw[List.mapM_cons];simp only[Sem.run_bind,Sem.run_pure,g2 t ty b v hb r3,Result.andThen_ok,q1],by simp[q2],fun i v' u hv hu=> ?_⟩
   cases i with
   |zero=>simp only[List.getElem?_cons_zero,Option.some.injEq] at hv hu;subst hv;subst hu;exact r2
   |succ i=>exact q3 i v' u (by simpa using hv) (by simpa using hu)
  ·cases h
theorem FCX.of_simM{Z:Type}{f:FuncId}{fn:Func}{c:Code}{args:List AVal}{R:Z→Prop}{res:Z→AVal}{l1:Z→List (Nat×Ob)}{nx:Nat}(hf:P.funcs[f]? =some fn)(hb:fn.body=some c)(hn:(args.length).ble fn.ntmps=true)
 (hnx:l0.all (fun x=>Nat.blt x.1 nx)=true) (h:Sim P fn.ntmps l0 c ⟨argSlots 0 args,app emp l0,nx⟩ (fun e s=> ∃z,R z∧FinM P fn.ntmps l0 fn.results.toList (res z) (l1 z) e s)):FCX P f args (app emp l0) R res (fun z=>app emp (l1 z)):=by
 intro F₀ m w us hS hl hr
 obtain⟨F,hF⟩:∃F:Fen P,F={F₀ with rnd:=none,lo:=w.heap.size}:=⟨_,rfl⟩
 have key:∀(F:Fen P),F.rnd=none→F.lo=w.heap.size→SRel F (app emp l0) m w→(∀(i:Nat) (v:AVal) (u:Value),args[i]? =some v→us[i]? =some u→VRel (app emp l0) m w (okB F (app emp l0) m w) v u)→
  Calls P f us.toArray w fun e w'=> ∃z v m',R z∧e= .returned v∧SRel F (app emp (l1 z)) m' w'∧FrameExt F (app emp l0) m w (app emp (l1 z)) m' w'∧VRel (app emp (l1 z)) m' w' (okB F (app emp (l1 z)) m' w') (res z) v:=by
  clear hF F hS hr F₀
  intro F hrnd hlo hS hr
  have hfw:fw F=Fence.wide:=by unfold fw;rw[hrnd];rfl
  have hn:=Nat.le_of_ble_eq_true hn
  refine(callsIn_wide (n:=0)).1 (callsIn_of_wp_marks hf hb trivial ?_ rfl)
  have hrel:Rel F fn.ntmps ⟨argSlots 0 args,app emp l0,nx⟩ m {tmps:=us.toArray++Array.replicate (fn.ntmps-us.toArray.size) undef,defers:=[]} w:=by
   refine⟨fun t=> ?_,by simp;omega,Marks.nil (by omega) (fun l hl=>by rw[hrnd] at hl;cases hl),hS,fun id hid=> ?_⟩
   ·rw[argSlots_get,if_pos (Nat.zero_le _),Nat.sub_zero]
    cases ha:args[t]? with
    |none=>exact .junk _
    |some v=>
     have hlt:t<us.length:=by rw[hl];exact(List.getElem?_eq_some_iff.1 ha).1
     have:=hr t v us[t] ha (List.getElem?_eq_getElem hlt)
     have e:(us.toArray++Array.replicate (fn.ntmps-us.toArray.size) undef).getD t undef=us[t]:=by
      have hlt':t< (us.toArray++Array.replicate (fn.ntmps-us.toArray.size) undef).size:=by simp;omega
      simp[Array.getElem?_append,hlt]
     rw[e];exact this
   ·show app emp l0 id=none
    cases hh:app emp l0 id with
    |none=>rfl
    |some o=>
     obtain⟨x,hx,rfl⟩:=List.mem_map.1 (app_emp_some hh)
     have:=Nat.lt_of_succ_le (Nat.le_of_ble_eq_true (List.all_eq_true.1 hnx x hx))
     simp only at hid
     omega
  have hsim:=h F m w m _ w hS hrel (FrameExt.refl F _ m w)
  rw[hfw] at hsim
  refine wpIn_mono hsim ?_
  rintro e a' w' ⟨s,m1,q1,q2,z,hz,he,s',r0,s2,hle,hres,hle2,hst,hg⟩
  obtain⟨m2,r1,r2⟩:=hle F m w m1 a' w' hS q1 q2
  suffices hlv:LeavesInM Fence.wide 0 P fn a'.tmps (fun e w'=> ∃z v m',R z∧e= .returned v∧SRel F (app emp (l1 z)) m' w'∧FrameExt F (app emp l0) m w (app emp (l1 z)) m' w'∧VRel (app emp (l1 z)) m' w' (okB F (app emp (l1 z)) m' w') (res z) v) a'.defers .returning w' by
   rcases he with rfl|rfl
   ·exact hlv
   ·exact hlv
  obtain⟨⟨ds,hd1,hd2,hd3⟩,-,-⟩:=r1.defers
  rw[hd1]
  refine LeavesInM_marks hlo ds w' hd2 hd3 r1.srel r1.slots r2 (fun w' g1 g2 g3=> ?_)
  have r1:Rel F fn.ntmps s' m2 {tmps:=a'.tmps,defers:=[]} w':=⟨g2,r1.size,Marks.nil (by have:=g3.size;omega) (fun l hl=>by rw[hrnd] at hl;cases hl),g1,r1.fresh⟩
  have r2:=g3
  have hrun:∃v,(results fn a'.tmps).run P w'= .ok v w'∧VRel s'.st m2 w' (okB F s'.st m2 w') r0 v:=by
   unfold resM at hres
   have key:∀vs,loadsM P s'.sl s'.st fn.results.toList=some vs→∃us:List Value,(results fn a'.tmps).run P w'= .ok (if h:us.toArray.size=1 then us.toArray[0] else .tuple us.toArray) w'∧us.length=vs.length∧
    ∀(i:Nat) (v:AVal) (u:Value),vs[i]? =some v→us[i]? =some u→VRel s'.st m2 w' (okB F s'.st m2 w') v u:=by
    intro vs hvs
    have e2:fn.results=fn.results.toList.toArray:=by simp
    have hg:∀(g:ResultVar→Sem Value),(∀t,g (.tmp t)=pure (a'.tmps.getD t undef))→(∀t ty b v,a'.tmps.getD t undef= .pointer (some b)→(loadVar ty b).run P w'= .ok v w'→(g (.cell t ty)).run P w'= .ok v w')→∃us:List Value,(fn.results.toList.mapM g).run P w'= .ok us w'∧us.length=vs.length∧
     ∀(i:Nat) (v:AVal) (u:Value),vs[i]? =some v→us[i]? =some u→VRel s'.st m2 w' (okB F s'.st m2 w') v u:=fun g g1 g2=>loadsM_run r1.srel r1.slots (a:=a') g g1 g2 fn.results.toList vs hvs
    obtain⟨us,u1,u2,u3⟩:=hg (fun| .tmp t=>pure (a'.tmps.getD t undef)| .cell t type=>do loadVar type (←asAddr (a'.tmps.getD t undef))) (fun t=>rfl) (fun t ty b v hb hl=>by
     have hb':(a'.tmps[t]?).getD undef= .pointer (some b):=by simpa using hb
     simp[hb',asAddr,hl])
    refine⟨us,?_,u2,u3⟩
    unfold results
    rw[e2,List.mapM_toArray]
    simp only[Sem.run_bind,Sem.run_map]
    erw [u1]
    simp only[Result.andThen_ok,Sem.run_pure]
   split at hres
   ·rename_i v hv
    simp only[Option.some.injEq] at hres
    subst hres
    obtain⟨us,u1,u2,u3⟩:=key _ hv
    match us,u2 with
    | [u],_=>exact⟨u,by rw[u1];rfl,u3 0 v u rfl rfl⟩
   ·rename_i vs hne hvs
    simp only[Option.some.injEq] at hres
    subst hres
    obtain⟨us,u1,u2,u3⟩:=key _ hvs
    have h1:us.toArray.size≠1:=by
     intro e
     simp at e
     match vs,u2 with
     | [v],_=>exact hne v rfl
     | [],u2=>simp at u2;rw[u2] at e;cases e
     |_::_::_,u2=>rw[e] at u2;simp at u2
    exact⟨_,by rw[u1,dif_neg h1],.tup _ _ (by simpa using u2) u3⟩
   ·cases hres
  obtain⟨v,hv1,hv2⟩:=hrun
  have hrel2:Rel F 1 ⟨[(0,r0)],s'.st,s'.nx⟩ m2 {tmps:=#[v],defers:=[]} w':=by
   refine⟨fun t=> ?_,rfl,Marks.nil (by have:=g3.size;omega) (fun l hl=>by rw[hrnd] at hl;cases hl),r1.srel,r1.fresh⟩
   simp only[get]
   by_cases e:0=t
   ·subst e;simpa using hv2
   ·rw[beq_ne e,cond_false];exact .junk _
  obtain⟨m3,t1,t2⟩:=hle2 F m w m2 _ w' hS hrel2 r2
  have hv3:=t1.slots 0
  rw[hg] at hv3
  have hv3:VRel s2.st m3 w' (okB F s2.st m3 w') (res z) v:=by simpa using hv3
  rw[hst] at hv3 t2
  have hs1:=t1.srel
  rw[hst] at hs1
  exact⟨v,hv1,z,v,m3,hz,rfl,hs1,t2,hv3⟩
 have hS':SRel F (app emp l0) m w:=by rw[hF];exact⟨hS.objs,hS.inj,hS.avoid,hS.lt,hS.low,hS.hold⟩
 refine(key F (by rw[hF]) (by rw[hF]) hS' (by rw[hF];exact hr)).mono ?_
 rintro e w' ⟨z,v,m',hz,rfl,k1,k2,k3⟩
 rw[hF] at k1 k2 k3
 exact⟨z,v,m',hz,rfl,⟨k1.objs,k1.inj,k1.avoid,k1.lt,k1.low,k1.hold⟩,⟨k2.os,k2.tape,k2.output,k2.size,k2.block,k2.keep,k2.new⟩,k3⟩
theorem FC.of_simM{f:FuncId}{fn:Func}{c:Code}{args:List AVal}{res:AVal}{l1:List (Nat×Ob)}{nx:Nat}(hf:P.funcs[f]? =some fn)(hb:fn.body=some c)(hn:(args.length).ble fn.ntmps=true)
 (hnx:l0.all (fun x=>Nat.blt x.1 nx)=true) (h:Sim P fn.ntmps l0 c ⟨argSlots 0 args,app emp l0,nx⟩ (FinM P fn.ntmps l0 fn.results.toList res l1)):FC P f args (app emp l0) res (app emp l1):=
 FCX.one (R:=fun _=>True) (FCX.of_simM hf hb hn hnx (h.mono fun e s q=>⟨(),trivial,q⟩))
end Go.Ab
end
section
set_option linter.unusedVariables false
namespace Go.Ab
variable {P:Program} {w:World} {F:Fen P} {S st:Store} {m:Place}
variable {n:Nat} {l0:List (Nat×Ob)} {s:St} {Q:Exit→St→Prop}
theorem Le.slot{t:Nat}{v v':AVal}(hg:get s.sl t=v)(hv:∀st m w ok u,VRel st m w ok v u→VRel st m w ok v' u):Le n l0 s ⟨(t,v')::s.sl,s.st,s.nx⟩:=by
 intro P F m0 w0 m a w h0 h1 h2
 refine⟨m,⟨fun t'=> ?_,h1.size,h1.defers,h1.srel,h1.fresh⟩,h2⟩
 simp only[get]
 by_cases e:t=t'
 ·subst e
  have:=h1.slots t
  rw[hg] at this
  simp only[Nat.beq_refl,cond_true]
  exact hv _ _ _ _ _ this
 ·rw[beq_ne e,cond_false];exact h1.slots t'
theorem nil_lst{k:Nat}(hk:0<k):∀(st:Store) (m:Place) (w:World) (ok:Nat→Prop) (u:Value),VRel st m w ok (.t (.sc (.slice none 0 0))) u→VRel st m w ok (.t (.lst k [])) u:=by
 intro st m w ok u h
 have:=VRel.sc_inv h
 subst this
 exact .t _ _ (.lst k [] none 0 [] hk (fun x hx=>by simp at hx) (Nat.le_refl _) (by simp[maxLen]) (fun h=>absurd rfl h) (by simp) (fun j T u hT=>by simp[flat] at hT))
theorem Le.nilLst{t k:Nat}(hg:get s.sl t= .t (.sc (.slice none 0 0)))(hk:Nat.blt 0 k=true):Le n l0 s ⟨(t,.t (.lst k []))::s.sl,s.st,s.nx⟩:=
 Le.slot hg (nil_lst (blt_pos hk))
theorem Le.freeze{t:Nat}{v v':AVal}{g:List (Nat×Ob)}{p:List Prop}(hg:get s.sl t=v)(hs:snap s.st v=some (v',g,p))(hp:All p)(hn:g.all (fun x=>Nat.blt x.1 s.nx)=true):Le n l0 s ⟨(t,v')::s.sl,app s.st g,s.nx⟩:=by
 intro P F m0 w0 m a w h0 h1 h2
 have hv:=h1.slots t
 rw[hg] at hv
 have hk:=snap_sound (fun _ _ h=>h) h1.srel hs hp hv
 obtain⟨r1,r2,r3,r4⟩:=freezeAll g s.st h1.srel hk.1
 refine⟨m,⟨fun t'=> ?_,h1.size,h1.defers.ext r2,r1,fun id hid=> ?_⟩,h2.trans h0 r2⟩
 ·simp only[get]
  by_cases e:t=t'
  ·subst e
   simp only[Nat.beq_refl,cond_true]
   exact hk.2 g hk.1 (fun x hx=>hx)
  ·rw[beq_ne e,cond_false]
   exact r2.val (h1.slots t')
 ·show app s.st g id=none
  have hid':s.nx≤id:=hid
  have hm:id∉g.map (·.1):=fun hm=>by
   obtain⟨x,hx,rfl⟩:=List.mem_map.1 hm
   have h1:=List.all_eq_true.1 hn x hx
   have:x.1<s.nx:=Nat.lt_of_succ_le (Nat.le_of_ble_eq_true h1)
   omega
  rw[r4 id hm]
  exact h1.fresh id hid
theorem snapR_sound{S:Store}{m:Place}{w:World}{P:Program}{F:Fen P}(hS:SRel F S m w){v v':AVal}{f:List (Nat×Ob)}{p:List Prop}(h:snapR S v=some (v',f,p))(hp:All p){u:Value}
 (hv:VRel S m w (okB F S m w) v u):SnapOk F S m w v' f u:=by
 cases v with
 |tup vs=>
  simp only[snapR,Option.map_eq_some_iff] at h
  obtain⟨⟨vs',f',p'⟩,h1,h2⟩:=h
  simp only[Prod.mk.injEq] at h2
  obtain⟨rfl,rfl,rfl⟩:=h2
  cases hv with
  |tup _ us' hl' h1'=>
   have:=snaps_sound (fun _ _ h=>h) hS h1 hp hl' h1'
   exact⟨this.2.1,fun g' hg hfg=> .tup vs' us' this.1.symm (fun i v u hv hu=>this.2.2 g' hg hfg i v u hv hu)⟩
 |t T=>simp only[snapR] at h;exact snap_sound (fun _ _ h=>h) hS h hp hv
 |row id n=>simp only[snapR] at h;exact snap_sound (fun _ _ h=>h) hS h hp hv
 |ptr id off=>simp only[snapR] at h;exact snap_sound (fun _ _ h=>h) hS h hp hv
 |eptr id n i sub=>simp only[snapR] at h;exact snap_sound (fun _ _ h=>h) hS h hp hv
 |mat id=>simp only[snapR] at h;exact snap_sound (fun _ _ h=>h) hS h hp hv
 |mptr id i=>simp only[snapR] at h;exact snap_sound (fun _ _ h=>h) hS h hp hv
 |cptr cs=>simp only[snapR] at h;exact snap_sound (fun _ _ h=>h) hS h hp hv
 |agg cs=>simp only[snapR] at h;exact snap_sound (fun _ _ h=>h) hS h hp hv
 |fn f cap=>simp only[snapR] at h;exact snap_sound (fun _ _ h=>h) hS h hp hv
 |cond c v=>simp only[snapR] at h;exact snap_sound (fun _ _ h=>h) hS h hp hv
 |junk=>simp only[snapR] at h;exact snap_sound (fun _ _ h=>h) hS h hp hv
 |anyB=>simp only[snapR] at h;exact snap_sound (fun _ _ h=>h) hS h hp hv
 |ifc=>simp only[snapR] at h;exact snap_sound (fun _ _ h=>h) hS h hp hv
 |tail id n i=>simp only[snapR] at h;exact snap_sound (fun _ _ h=>h) hS h hp hv
 |hdl id=>simp only[snapR] at h;exact snap_sound (fun _ _ h=>h) hS h hp hv
 |xl k xs=>simp only[snapR] at h;exact snap_sound (fun _ _ h=>h) hS h hp hv
 |yl id=>simp only[snapR] at h;exact snap_sound (fun _ _ h=>h) hS h hp hv
 |bsl id n=>simp only[snapR] at h;exact snap_sound (fun _ _ h=>h) hS h hp hv
 |psl id n=>simp only[snapR] at h;exact snap_sound (fun _ _ h=>h) hS h hp hv
theorem Le.freezeR{t:Nat}{v v':AVal}{g:List (Nat×Ob)}{p:List Prop}(hg:get s.sl t=v)(hs:snapR s.st v=some (v',g,p))(hp:All p)(hn:g.all (fun x=>Nat.blt x.1 s.nx)=true):Le n l0 s ⟨(t,v')::s.sl,app s.st g,s.nx⟩:=by
 intro P F m0 w0 m a w h0 h1 h2
 have hv:=h1.slots t
 rw[hg] at hv
 have hk:=snapR_sound h1.srel hs hp hv
 obtain⟨r1,r2,r3,r4⟩:=freezeAll g s.st h1.srel hk.1
 refine⟨m,⟨fun t'=> ?_,h1.size,h1.defers.ext r2,r1,fun id hid=> ?_⟩,h2.trans h0 r2⟩
 ·simp only[get]
  by_cases e:t=t'
  ·subst e
   simp only[Nat.beq_refl,cond_true]
   exact hk.2 g hk.1 (fun x hx=>hx)
  ·rw[beq_ne e,cond_false]
   exact r2.val (h1.slots t')
 ·show app s.st g id=none
  have hid':s.nx≤id:=hid
  have hm:id∉g.map (·.1):=fun hm=>by
   obtain⟨x,hx,rfl⟩:=List.mem_map.1 hm
   have h1:=List.all_eq_true.1 hn x hx
   have:x.1<s.nx:=Nat.lt_of_succ_le (Nat.le_of_ble_eq_true h1)
   omega
  rw[r4 id hm]
  exact h1.fresh id hid
theorem len_map{α:Type}{f:α→Tree}{l:List α}:AVal.t (.sc (.int .i64 (l.length:Int)))=AVal.t (.sc (.int .i64 ((l.map f).length:Int))):=by simp
theorem quo_nn{a b:Int}(h:0≤a∧0<b∧a≤9223372036854775807):AVal.t (.sc (.int .i64 (a/b)))=AVal.t (.sc (.int .i64 (IntKind.i64.wrap (a.tdiv b)))):=by
 obtain⟨h1,h2,h3⟩:=h
 rw[Int.tdiv_eq_ediv_of_nonneg h1]
 have:=Int.ediv_nonneg h1 (Int.le_of_lt h2)
 have:=Int.ediv_le_self b h1
 exact nw ⟨by omega,by omega⟩
theorem rem_nn{a b:Int}(h:0≤a):AVal.t (.sc (.int .i64 (a%b)))=AVal.t (.sc (.int .i64 (a.tmod b))):=by
 rw[Int.tmod_eq_emod_of_nonneg h]
theorem elt_nat{α:Type}[Inhabited α]{f:α→Tree}{l:List α}{k:Nat}(h:k<l.length):(l.map f)[k]? =some (f (l.getD k default)):=by
 simp[List.getElem?_eq_getElem h,List.getD]
theorem eptr_eq{id n i j k:Nat}(h:i=j):AVal.eptr id n i k=AVal.eptr id n j k:=by rw[h]
theorem min_if{k:IntKind}{a b:Int}:AVal.t (.sc (.int k (min a b)))=AVal.t (.sc (.int k (if b<a then b else a))):=by
 congr 3;split<;>omega
theorem row_append{α:Type}{f:α→Tree}{l l':List α}{ys:List Tree}{id k:Nat}(h:l'.map f=ys):[(id,Ob.row k false ((l++l').map f))]=[(id,Ob.row k false (l.map f++ys))]:=by
 rw[List.map_append,h]
theorem row_set{α:Type}{f:α→Tree}{l:List α}{x:α}{X:Tree}{id k i:Nat}(h:f x=X):[(id,Ob.row k false ((l.set i x).map f))]=[(id,Ob.row k false ((l.map f).set i X))]:=by
 rw[List.map_set,h]
theorem sl_drop{α:Type}{f:α→Tree}{l:List α}{i k:Nat}:AVal.t (.lst k ((l.drop i).map f))=AVal.t (.lst k ((l.map f).drop i)):=by rw[List.map_drop]
theorem sl_take{α:Type}{f:α→Tree}{l:List α}{i k:Nat}:AVal.t (.lst k ((l.take i).map f))=AVal.t (.lst k ((l.map f).take i)):=by rw[List.map_take]
theorem Weak.of_eq{d v:AVal}(h:v=d):Weak d v:=by subst h;exact fun _ _ _ _ _ h=>h
theorem tw_nil{k:Nat}(hk:0<k):(Tree.sc (.slice none 0 0)=Tree.lst k []∨(Tree.sc (.slice none 0 0)= .sc (.slice none 0 0)∧∃k',0<k'∧Tree.lst k []= .lst k' [])):= .inr ⟨rfl,k,hk,rfl⟩
end Go.Ab
end
section
set_option linter.unusedVariables false
namespace Go.Ab
open Go
variable {P:Program} {w:World} {F:Fen P} {S st:Store} {m:Place}
variable {n:Nat} {l0:List (Nat×Ob)} {s:St}
theorem Elt.of_cell{x:Tree}(h:x.isCell=true):Elt 1 x:=by
 cases x with
 |agg cs=>simp[Tree.isCell] at h
 |sc v=>exact⟨rfl,fun T hT=>by simp[Tree.cells] at hT;subst hT;exact h⟩
 |lst k xs=>exact⟨rfl,fun T hT=>by simp[Tree.cells] at hT;subst hT;exact h⟩
theorem cells_cell{x:Tree}(h:x.isCell=true):x.cells=[x]:=by cases x<;>first|rfl|simp[Tree.isCell] at h
theorem flat_cells:∀{xs:List Tree},(∀x∈xs,x.isCell=true)→flat xs=xs
 | [],_=>rfl
 |x::xs,h=>by
  rw[flat,cells_cell (h x (by simp)),flat_cells (fun y hy=>h y (by simp[hy]))];rfl
theorem mat_close(hS:SRel F S m w){id i r q k:Nat}{xs ys:List Tree}{fz:Bool}(hid:S id=some (.mat false xs (some (i,r,q))))(hr:S r=some (.row k fz ys))(hq:q=ys.length):
 SRel F (upd (upd S r (.row k true ys)) id (.mat false (xs.set i (.lst k ys)) none)) m w∧FrameExt F S m w (upd (upd S r (.row k true ys)) id (.mat false (xs.set i (.lst k ys)) none)) m w:=by
 have hne:id≠r:=fun e=>by subst e;rw[hid] at hr;cases hr
 obtain⟨f1,f2⟩:=freeze hS hr
 have hid1:upd S r (.row k true ys) id=some (.mat false xs (some (i,r,q))):=by rw[upd_ne hne];exact hid
 obtain⟨⟨b,us,e,q1,q2,q3,q4⟩,p1,p2,p3⟩:=f1.objs id _ hid1
 have hT:=row_tree f1 (upd_same S r (.row k true ys))
 have key:=rewrite_obj (o':= .mat false (xs.set i (.lst k ys)) none) f1 hid1 rfl q1 (w':=w) rfl rfl rfl rfl (fun _ _=>rfl) (by simp[Ob.len]) (by simp[Ob.same]) (fun hF=>by
  refine⟨⟨b,us,e,q1,q2,by rw[matC_len] at q3⊢;rw[List.length_set];exact q3,fun j v u hv hu=> ?_⟩,by simpa using p1,by simpa using p2,fun x hx=> ?_⟩
  ·rw[matC_set,List.getElem?_set] at hv
   split at hv
   ·rename_i hij
    split at hv
    ·rename_i hlt
     simp only[Option.some.injEq] at hv
     subst hv;subst hij
     obtain⟨r1,r2⟩:=q4 i (.row r q) u (by simp only[matC,List.getElem?_set,if_true];rw[if_pos (by simpa[matC] using hlt)]) hu
     refine⟨?_,r2⟩
     cases r1 with
     |rowG _ _ L hs'=>rw[upd_same] at hs';cases hs'
     |row _ _ k' fz' ys' L hs' hn' hu'=>
      rw[upd_same] at hs'
      cases hs'
      have hL:=hu' hq
      rw[hL,←hq] at hT
      exact hF.val (.t _ _ hT)
    ·cases hv
   ·rename_i hij
    obtain⟨r1,r2⟩:=q4 j v u (by simp only[matC,List.getElem?_set];rw[if_neg hij];exact hv) hu
    exact⟨hF.val r1,r2⟩
  ·rcases List.mem_or_eq_of_mem_set hx with hx|rfl
   ·exact p3 x hx
   ·rfl)
 exact⟨key.1,f2.trans hS key.2⟩
theorem Le.matClose{id i r q k:Nat}{xs ys:List Tree}{fz:Bool}(hid:s.st id=some (.mat false xs (some (i,r,q))))(hr:s.st r=some (.row k fz ys))(hq:q=ys.length){xs':List Tree}(hx:xs.set i (.lst k ys)=xs'):
 Le n l0 s ⟨s.sl,upd (upd s.st r (.row k true ys)) id (.mat false xs' none),s.nx⟩:=by
 subst hx
 intro P F m0 w0 m a w h0 h1 h2
 obtain⟨r1,r2⟩:=mat_close h1.srel hid hr hq
 refine⟨m,⟨fun t'=>r2.val (h1.slots t'),h1.size,h1.defers.ext r2,r1,fun j hj=> ?_⟩,h2.trans h0 r2⟩
 have hj':s.nx≤j:=hj
 have e1:j≠id:=fun e=>by subst e;rw[h1.fresh j hj] at hid;cases hid
 have e2:j≠r:=fun e=>by subst e;rw[h1.fresh j hj] at hr;cases hr
 show upd (upd s.st r (.row k true ys)) id _ j=none
 rw[upd_ne e1,upd_ne e2]
 exact h1.fresh j hj
theorem mat_freeze(hS:SRel F S m w){id:Nat}{xs:List Tree}(hid:S id=some (.mat false xs none)):
 SRel F (upd S id (.mat true xs none)) m w∧FrameExt F S m w (upd S id (.mat true xs none)) m w∧TRep w (okB F (upd S id (.mat true xs none)) m w) (.lst 1 xs) (rowVal (m id) xs.length):=by
 obtain⟨⟨b,us,e,q1,q2,q3,q4⟩,p1,p2,p3⟩:=hS.objs id _ hid
 obtain⟨k1,k2⟩:=rewrite_obj (o':= .mat true xs none) hS hid rfl q1 (w':=w) rfl rfl rfl rfl (fun _ _=>rfl) (by simp[Ob.len]) (by simp[Ob.same]) (fun hF=>by
  refine⟨⟨b,us,e,q1,q2,q3,fun j v u hv hu=> ?_⟩,p1,p2,p3⟩
  obtain⟨r1,r2⟩:=q4 j v u hv hu
  exact⟨hF.val r1,r2⟩)
 refine⟨k1,k2,?_⟩
 have hid':upd S id (.mat true xs none) id=some (.mat true xs none):=upd_same _ _ _
 obtain⟨⟨b',us',e',q1',q2',q3',q4'⟩,_⟩:=k1.objs id _ hid'
 rw[q1] at q1';cases q1'
 rw[matC_len] at q3'
 have hrv:rowVal (m id) xs.length= .slice (some ⟨b,0,none⟩) xs.length (m id).2:=by simp[rowVal,q1]
 rw[hrv]
 have hg:∀(j:Nat) (u:Value),(us'.toList.take xs.length)[j]? =some u→us'[j]? =some u:=fun j u hu=>by
  rw[List.getElem?_take] at hu
  split at hu
  ·simpa using hu
  ·cases hu
 refine .lst 1 xs _ _ (us'.toList.take xs.length) (by decide) (fun x hx=>Elt.of_cell (p3 x hx)) (by omega) (by omega) (fun _=>⟨b,0,rfl,⟨?_,?_,?_⟩,?_⟩) (by simp;omega) (fun j T u hj hu=> ?_)
 ·exact(Array.getElem?_eq_some_iff.1 q2').1
 ·exact fun hb=>k1.avoid id _ b hid' (.inl q1) (F.sup b hb)
 ·intro i o hi hl hb
  have:=k1.inj id i _ _ b hid' hi (.inl q1) hb
  subst this
  rw[hid'] at hi;cases hi
  simp[Ob.live] at hl
 ·intro j u hu
  simp only[World.cell?,q2'];simpa using hg j u hu
 ·rw[flat_cells p3] at hj
  have hv:(matC xs none)[j]? =some (.t T):=by simp[matC,hj]
  obtain⟨r1,_⟩:=q4' j _ u hv (hg j u hu)
  cases r1 with
  |t _ _ hT=>exact hT
theorem Le.matFreeze{t id:Nat}{xs:List Tree}(hg:get s.sl t= .mat id)(hid:s.st id=some (.mat false xs none)):Le n l0 s ⟨(t,.t (.lst 1 xs))::s.sl,upd s.st id (.mat true xs none),s.nx⟩:=by
 intro P F m0 w0 m a w h0 h1 h2
 obtain⟨r1,r2,r3⟩:=mat_freeze h1.srel hid
 refine⟨m,⟨fun t'=> ?_,h1.size,h1.defers.ext r2,r1,fun j hj=> ?_⟩,h2.trans h0 r2⟩
 ·simp only[get]
  by_cases e:t=t'
  ·subst e
   simp only[Nat.beq_refl,cond_true]
   have hv:=h1.slots t
   rw[hg] at hv
   generalize a.tmps.getD t undef=u at hv⊢
   cases hv with
   |mat _ fz xs' hh L hs' hm=>
    rw[hid] at hs';cases hs'
    subst hm
    exact .t _ _ r3
  ·rw[beq_ne e,cond_false];exact r2.val (h1.slots t')
 ·show upd s.st id _ j=none
  rw[upd_ne (fun e=>by subst e;rw[h1.fresh j hj] at hid;cases hid)]
  exact h1.fresh j hj
end Go.Ab
end
section
set_option linter.unusedVariables false
namespace Go.Ab
variable {P:Program} {w:World} {F:Fen P} {S st:Store} {m:Place}
theorem regroup(hS:SRel F S m w){S':Store}{m':Place}
 (hk:∀id o,S id=some o→∃o',S' id=some o'∧o.len≤o'.len∧(o.len=o'.len→m' id=m id)∧(o.live=false→o'.live=false)∧o.same o')
 (hsrc:∀id o b,S' id=some o→m'.has id b→∃id0 o0,S id0=some o0∧o0.live=true∧m.has id0 b∨(id0=id∧S id0=some o0∧m.has id0 b))
 (hinj:∀i j oi oj b,S' i=some oi→S' j=some oj→m'.has i b→m'.has j b→i=j)
 (ho:FrameExt F S m w S' m' w→∀id o,S' id=some o→ORel S' m' w (okB F S' m' w) o (m' id) (m'.g id)):SRel F S' m' w∧FrameExt F S m w S' m' w:=by
 have hF:FrameExt F S m w S' m' w:=by
  refine⟨rfl,rfl,rfl,Nat.le_refl _,fun _ _ _=>rfl,fun id o h=> ?_,fun id o h hn b hb=> ?_⟩
  ·obtain⟨o',q1,q2,q3,q4,q5⟩:=hk id o h
   refine⟨o',q1,q2,q3,q4,fun b hb=> ?_,q5⟩
   obtain⟨i0,o0,h'|h'⟩:=hsrc id o' b q1 hb
   ·exact .inr (.inr ⟨i0,o0,h'⟩)
   ·obtain⟨rfl,_,h3⟩:=h';exact .inl h3
  ·obtain⟨i0,o0,h'|h'⟩:=hsrc id o b h hb
   ·exact .inr ⟨i0,o0,h'⟩
   ·obtain⟨rfl,h2,_⟩:=h';rw[hn] at h2;cases h2
 refine⟨⟨ho hF,hinj,fun id o b h hb=> ?_,fun id o b h hb=> ?_,hS.low,hS.hold⟩,hF⟩
 ·obtain⟨i0,o0,h'|h'⟩:=hsrc id o b h hb
  ·exact hS.avoid i0 o0 b h'.1 h'.2.2
  ·exact hS.avoid i0 o0 b h'.2.1 h'.2.2
 ·obtain⟨i0,o0,h'|h'⟩:=hsrc id o b h hb
  ·exact hS.lt i0 o0 b h'.1 h'.2.2
  ·exact hS.lt i0 o0 b h'.2.1 h'.2.2
def lookP(es:List (Nat×List Tree))(b:Nat):Option (List Tree):=(es.find? fun x=>x.1==b).map (·.2)
def setP(es:List (Nat×List Tree))(b:Nat)(Ts:List Tree):List (Nat×List Tree):=es.map fun x=>if x.1=b then(b,Ts) else x
theorem lookP_mem{es:List (Nat×List Tree)}{b:Nat}{Ts:List Tree}(h:lookP es b=some Ts):(b,Ts)∈es:=by
 simp only[lookP,Option.map_eq_some_iff] at h
 obtain⟨⟨b',Ts'⟩,h1,rfl⟩:=h
 have h2:=List.mem_of_find?_eq_some h1
 have h3:=List.find?_some h1
 simp only[beq_iff_eq] at h3
 subst h3;exact h2
theorem setP_keys(es:List (Nat×List Tree))(b:Nat)(Ts:List Tree):(setP es b Ts).map (·.1)=es.map (·.1):=by
 simp only[setP,List.map_map]
 apply List.map_congr_left
 intro x _
 simp only[Function.comp]
 split
 ·rename_i h;exact h.symm
 ·rfl
theorem pool_new(hS:SRel F S m w){nx:Nat}(hn:S nx=none):SRel F (upd S nx (.pool [] none)) (place m nx (none,0)) w∧FrameExt F S m w (upd S nx (.pool [] none)) (place m nx (none,0)) w:=by
 have hF:=ext_new (F:=F) (m:=m) (w:=w) (w':=w) (o:= .pool [] none) (L:=(none,0)) hn rfl rfl rfl (Nat.le_refl _) (fun _ _=>rfl) (fun b h=>by cases h)
 exact⟨hS.new hn hF (fun _ _=>rfl) (fun b h=>by cases h) ⟨rfl,List.nodup_nil,(fun x hx=>by cases hx),(fun b r h=>by cases h)⟩,hF⟩
theorem pool_pin(hS:SRel F S m w){p r b:Nat}{es:List (Nat×List Tree)}{cs:List AVal}(T:List Tree)(hp:S p=some (.pool es none))(hr:S r=some (.box cs))(hb:(m r).1=some b):
 b∉es.map (·.1)∧SRel F (upd S p (.pool (es++[(b,T)]) (some (b,r)))) m w∧FrameExt F S m w (upd S p (.pool (es++[(b,T)]) (some (b,r)))) m w:=by
 obtain⟨h1,h2,h3,h4⟩:=hS.objs p _ hp
 have hpr:p≠r:=fun e=>by subst e;rw[hp] at hr;cases hr
 have hnb:b∉es.map (·.1):=fun h=>by
  obtain⟨x,hx,rfl⟩:=List.mem_map.1 h
  exact hpr (hS.inj p r _ _ x.1 hp hr (.inr (h3 x hx (fun r e=>by cases e)).1) (.inl hb))
 refine⟨hnb,regroup hS (fun id o h=> ?_) (fun id o b' h hb'=> ?_) (fun i j oi oj b' hi hj q1 q2=> ?_) (fun hF id o h=> ?_)⟩
 ·by_cases e:id=p
  ·subst e;rw[hp] at h;cases h;exact⟨_,upd_same _ _ _,Nat.le_refl _,fun _=>rfl,fun h=>h,trivial⟩
  ·exact⟨o,by rw[upd_ne e];exact h,Nat.le_refl _,fun _=>rfl,fun h=>h,o.same_refl⟩
 ·by_cases e:id=p
  ·subst e;exact⟨id,_,.inr ⟨rfl,hp,hb'⟩⟩
  ·rw[upd_ne e] at h;exact⟨id,_,.inr ⟨rfl,h,hb'⟩⟩
 ·have back:∀i oi,upd S p (.pool (es++[(b,T)]) (some (b,r))) i=some oi→∃o0,S i=some o0:=fun i oi hi=>by
   by_cases e:i=p
   ·subst e;exact⟨_,hp⟩
   ·rw[upd_ne e] at hi;exact⟨_,hi⟩
  obtain⟨_,h5⟩:=back i oi hi
  obtain⟨_,h6⟩:=back j oj hj
  exact hS.inj i j _ _ b' h5 h6 q1 q2
 ·by_cases e:id=p
  ·subst e
   rw[upd_same] at h;cases h
   refine⟨h1,?_,fun x hx hh=> ?_,fun b' r' e=> ?_⟩
   ·rw[List.map_append,List.nodup_append]
    refine⟨h2,by simp,fun x hx y hy=> ?_⟩
    simp only[List.map_cons,List.map_nil,List.mem_singleton] at hy
    subst hy
    exact fun e=>hnb (e▸hx)
   ·rcases List.mem_append.1 hx with hx|hx
    ·obtain⟨q1,q2⟩:=h3 x hx (fun r e=>by cases e)
     exact⟨q1,q2.persist hF rfl⟩
    ·simp only[List.mem_singleton] at hx
     subst hx
     exact absurd rfl (hh r)
   ·simp only[Option.some.injEq,Prod.mk.injEq] at e
    obtain⟨rfl,rfl⟩:=e
    exact .ptr r 0 cs b (by rw[upd_ne (Ne.symm hpr)];exact hr) hb
  ·rw[upd_ne e] at h
   exact(hS.objs id o h).persist hF (fun _ _=>rfl)
theorem pool_out(hS:SRel F S m w){p b nx:Nat}{es:List (Nat×List Tree)}{Ts:List Tree}(hp:S p=some (.pool es none))(hl:(b,Ts)∈es)(hn:S nx=none):
 SRel F (upd (upd S nx (.box (Ts.map .t))) p (.pool es (some (b,nx)))) (place (placeG m p ((m.g p).filter (·≠b))) nx (some b,roomy)) w∧
  FrameExt F S m w (upd (upd S nx (.box (Ts.map .t))) p (.pool es (some (b,nx)))) (place (placeG m p ((m.g p).filter (·≠b))) nx (some b,roomy)) w:=by
 obtain⟨h1,h2,h3,h4⟩:=hS.objs p _ hp
 have hpn:p≠nx:=fun e=>by subst e;rw[hp] at hn;cases hn
 obtain⟨hbg,us,ty,p1,p2,p3,p4⟩:=h3 _ hl (fun r e=>by cases e)
 generalize hm':place (placeG m p ((m.g p).filter (·≠b))) nx (some b,roomy)=m'
 have has_nx:∀c,m'.has nx c↔b=c:=fun c=>by subst hm';rw[place_has_same];simp
 have has_p:∀c,m'.has p c↔c∈m.g p∧c≠b:=fun c=>by
  subst hm';rw[place_has_ne hpn,placeG_has_same,h1];simp
 have has_ne:∀j c,j≠p→j≠nx→(m'.has j c↔m.has j c):=fun j c e1 e2=>by subst hm';rw[place_has_ne e2,placeG_has_ne e1]
 have m_ne:∀j,j≠nx→m' j=m j:=fun j e=>by subst hm';rw[place_ne e,placeG_f]
 have at_cases:∀id o,upd (upd S nx (.box (Ts.map .t))) p (.pool es (some (b,nx))) id=some o→(id=p∧o= .pool es (some (b,nx)))∨(id=nx∧o= .box (Ts.map .t))∨(id≠p∧id≠nx∧S id=some o):=fun id o h=>by
  by_cases e:id=p
  ·subst e;rw[upd_same] at h;cases h;exact .inl ⟨rfl,rfl⟩
  ·rw[upd_ne e] at h
   by_cases e2:id=nx
   ·subst e2;rw[upd_same] at h;cases h;exact .inr (.inl ⟨rfl,rfl⟩)
   ·rw[upd_ne e2] at h;exact .inr (.inr ⟨e,e2,h⟩)
 refine regroup hS (fun id o h=> ?_) (fun id o c h hc=> ?_) (fun i j oi oj c hi hj q1 q2=> ?_) (fun hF id o h=> ?_)
 ·have hne:id≠nx:=fun e=>by subst e;rw[hn] at h;cases h
  by_cases e:id=p
  ·subst e;rw[hp] at h;cases h;exact⟨_,upd_same _ _ _,Nat.le_refl _,fun _=>m_ne id hne,fun h=>h,trivial⟩
  ·exact⟨o,by rw[upd_ne e,upd_ne hne];exact h,Nat.le_refl _,fun _=>m_ne id hne,fun h=>h,o.same_refl⟩
 ·rcases at_cases id o h with⟨rfl,rfl⟩| ⟨rfl,rfl⟩| ⟨e1,e2,h'⟩
  ·exact⟨_,_,.inr ⟨rfl,hp,.inr ((has_p c).1 hc).1⟩⟩
  ·have:=(has_nx c).1 hc
   subst this
   exact⟨p,_,.inl ⟨hp,rfl,.inr hbg⟩⟩
  ·exact⟨id,_,.inr ⟨rfl,h',(has_ne id c e1 e2).1 hc⟩⟩
 ·have src:∀i oi,upd (upd S nx (.box (Ts.map .t))) p (.pool es (some (b,nx))) i=some oi→m'.has i c→(i=nx∧c=b)∨(i≠nx∧(i=p→c≠b)∧∃o0,S i=some o0∧m.has i c):=fun i oi hi hc=>by
   rcases at_cases i oi hi with⟨rfl,rfl⟩| ⟨rfl,rfl⟩| ⟨e1,e2,h'⟩
   ·have:=(has_p c).1 hc
    exact .inr ⟨hpn,fun _=>this.2,_,hp,.inr this.1⟩
   ·exact .inl ⟨rfl,((has_nx c).1 hc).symm⟩
   ·exact .inr ⟨e2,fun e=>absurd e e1,_,h',(has_ne i c e1 e2).1 hc⟩
  rcases src i oi hi q1 with⟨rfl,rfl⟩| ⟨a1,a2,o0,a3,a4⟩<;>rcases src j oj hj q2 with⟨rfl,r2⟩| ⟨b1,b2,o1,b3,b4⟩
  ·rfl
  ·have:=hS.inj j p _ _ c b3 hp b4 (.inr hbg)
   exact absurd rfl (b2 this)
  ·subst r2
   have:=hS.inj i p _ _ c a3 hp a4 (.inr hbg)
   exact absurd rfl (a2 this)
  ·exact hS.inj i j _ _ c a3 b3 a4 b4
 ·rcases at_cases id o h with⟨rfl,rfl⟩| ⟨rfl,rfl⟩| ⟨e1,e2,h'⟩
  ·rw[m_ne id hpn]
   refine⟨h1,h2,fun x hx hh=> ?_,fun b' r' e=> ?_⟩
   ·obtain⟨q1,q2⟩:=h3 x hx (fun r e=>by cases e)
    refine⟨?_,q2.persist hF rfl⟩
    have hxb:x.1≠b:=fun e=>hh nx (by rw[e])
    rcases(has_p x.1).2 ⟨q1,hxb⟩ with h5|h5
    ·rw[m_ne id hpn,h1] at h5;cases h5
    ·exact h5
   ·simp only[Option.some.injEq,Prod.mk.injEq] at e
    obtain⟨rfl,rfl⟩:=e
    refine .ptr nx 0 (Ts.map .t) b (by rw[upd_ne (Ne.symm hpn)];exact upd_same _ _ _) ?_
    subst hm';rw[place_same]
  ·have e1:m' id=(some b,roomy):=by subst hm';rw[place_same]
   rw[e1]
   refine⟨b,us,ty,rfl,p1,⟨by simpa using p2,.inr (Nat.le_refl _)⟩,fun i v u hv hu=> ?_⟩
   simp only[List.getElem?_map,Option.map_eq_some_iff] at hv
   obtain⟨T,hT,rfl⟩:=hv
   exact⟨.t _ _ (hF.tree (p4 i T u hT hu).1),(p4 i T u hT hu).2⟩
  ·rw[m_ne id e2]
   have:m'.g id=m.g id:=by subst hm';rw[place_g_ne e2,placeG_ne e1]
   rw[this]
   exact(hS.objs id o h').persist hF (fun _ _=>rfl)
theorem pool_back(hS:SRel F S m w){p b r:Nat}{es:List (Nat×List Tree)}{cs:List AVal}{Ts:List Tree}(hp:S p=some (.pool es (some (b,r))))(hr:S r=some (.box cs))(hT:allT cs=some Ts)(hc:∀T∈Ts,T.isCell=true):
 SRel F (upd (upd S r .gone) p (.pool (setP es b Ts) none)) (placeG (place m r (none,0)) p (b::m.g p)) w∧FrameExt F S m w (upd (upd S r .gone) p (.pool (setP es b Ts) none)) (placeG (place m r (none,0)) p (b::m.g p)) w:=by
 obtain⟨h1,h2,h3,h4⟩:=hS.objs p _ hp
 have hpr:p≠r:=fun e=>by subst e;rw[hp] at hr;cases hr
 have hb:(m r).1=some b:=by
  cases h4 b r rfl with
  |ptr _ _ _ _ hs hm=>exact hm
  |ptrG _ _ _ hs=>rw[hr] at hs;cases hs
 obtain⟨b',us,ty,p1,p2,p3,p4⟩:=hS.objs r _ hr
 rw[hb] at p1;cases p1
 have:=allT_some hT
 subst this
 generalize hm':placeG (place m r (none,0)) p (b::m.g p)=m'
 have has_r:∀c,¬m'.has r c:=fun c=>by subst hm';rw[placeG_has_ne (Ne.symm hpr),place_has_same];intro h;cases h
 have has_p:∀c,m'.has p c↔c=b∨c∈m.g p:=fun c=>by subst hm';rw[placeG_has_same,place_ne hpr,h1];simp
 have has_ne:∀j c,j≠p→j≠r→(m'.has j c↔m.has j c):=fun j c e1 e2=>by subst hm';rw[placeG_has_ne e1,place_has_ne e2]
 have m_ne:∀j,j≠r→m' j=m j:=fun j e=>by subst hm';rw[placeG_f,place_ne e]
 have at_cases:∀id o,upd (upd S r .gone) p (.pool (setP es b Ts) none) id=some o→(id=p∧o= .pool (setP es b Ts) none)∨(id=r∧o= .gone)∨(id≠p∧id≠r∧S id=some o):=fun id o h=>by
  by_cases e:id=p
  ·subst e;rw[upd_same] at h;cases h;exact .inl ⟨rfl,rfl⟩
  ·rw[upd_ne e] at h
   by_cases e2:id=r
   ·subst e2;rw[upd_same] at h;cases h;exact .inr (.inl ⟨rfl,rfl⟩)
   ·rw[upd_ne e2] at h;exact .inr (.inr ⟨e,e2,h⟩)
 have src:∀i oi c,upd (upd S r .gone) p (.pool (setP es b Ts) none) i=some oi→m'.has i c→∃i0 o0,S i0=some o0∧m.has i0 c∧o0.live=true∧(i=p∧i0=r)∨(i0=i∧i≠r∧S i0=some o0∧m.has i0 c):=fun i oi c hi hc=>by
  rcases at_cases i oi hi with⟨rfl,rfl⟩| ⟨rfl,rfl⟩| ⟨e1,e2,h'⟩
  ·rcases(has_p c).1 hc with rfl|h
   ·exact⟨r,_,.inl ⟨hr,.inl hb,rfl,rfl,rfl⟩⟩
   ·exact⟨_,_,.inr ⟨rfl,hpr,hp,.inr h⟩⟩
  ·exact absurd hc (has_r c)
  ·exact⟨_,_,.inr ⟨rfl,e2,h',(has_ne i c e1 e2).1 hc⟩⟩
 refine regroup hS (fun id o h=> ?_) (fun id o c h hc=> ?_) (fun i j oi oj c hi hj q1 q2=> ?_) (fun hF id o h=> ?_)
 ·by_cases e:id=p
  ·subst e;rw[hp] at h;cases h;exact⟨_,upd_same _ _ _,Nat.le_refl _,fun _=>m_ne id hpr,fun h=>h,trivial⟩
  ·by_cases e2:id=r
   ·subst e2;rw[hr] at h;cases h
    exact⟨.gone,by rw[upd_ne e,upd_same],by simp[Ob.len],fun e=>by simp[Ob.len] at e,fun _=>rfl,trivial⟩
   ·exact⟨o,by rw[upd_ne e,upd_ne e2];exact h,Nat.le_refl _,fun _=>m_ne id e2,fun h=>h,o.same_refl⟩
 ·obtain⟨i0,o0,h'|h'⟩:=src id o c h hc
  ·exact⟨i0,o0,.inl ⟨h'.1,h'.2.2.1,h'.2.1⟩⟩
  ·exact⟨i0,o0,.inr ⟨h'.1,h'.2.2⟩⟩
 ·obtain⟨i0,o0,h'|h'⟩:=src i oi c hi q1<;>obtain⟨j0,o1,k'|k'⟩:=src j oj c hj q2
  ·rw[h'.2.2.2.1,k'.2.2.2.1]
  ·have:=hS.inj i0 j0 _ _ c h'.1 k'.2.2.1 h'.2.1 k'.2.2.2
   exact absurd (k'.1.symm.trans (this.symm.trans h'.2.2.2.2)) k'.2.1
  ·have:=hS.inj i0 j0 _ _ c h'.2.2.1 k'.1 h'.2.2.2 k'.2.1
   exact absurd (h'.1.symm.trans (this.trans k'.2.2.2.2)) h'.2.1
  ·have:=hS.inj i0 j0 _ _ c h'.2.2.1 k'.2.2.1 h'.2.2.2 k'.2.2.2
   exact h'.1.symm.trans (this.trans k'.1)
 ·rcases at_cases id o h with⟨rfl,rfl⟩| ⟨rfl,rfl⟩| ⟨e1,e2,h'⟩
  ·rw[m_ne id hpr]
   have hg:m'.g id=b::m.g id:=by subst hm';rw[placeG_same]
   rw[hg]
   refine⟨h1,by rw[setP_keys];exact h2,fun x hx _=> ?_,fun b' r' e=>by cases e⟩
   obtain⟨y,hy,rfl⟩:=List.mem_map.1 hx
   split
   ·refine⟨List.mem_cons_self,us,ty,p2,by simpa using p3.1,hc,fun i T u a b'=> ?_⟩
    obtain⟨q1,q2⟩:=p4 i (.t T) u (by simp[a]) b'
    cases q1 with
    |t _ _ q1=>exact⟨hF.tree q1,q2⟩
   ·rename_i hyb
    obtain⟨q1,q2⟩:=h3 y hy (fun r' e=>by simp only[Option.some.injEq,Prod.mk.injEq] at e;exact hyb e.1.symm)
    exact⟨List.mem_cons_of_mem _ q1,q2.persist hF rfl⟩
  ·have:m' id=(none,0):=by subst hm';rw[placeG_f,place_same]
   rw[this];exact rfl
  ·rw[m_ne id e2]
   have:m'.g id=m.g id:=by subst hm';rw[placeG_ne e1,place_g_ne e2]
   rw[this]
   exact(hS.objs id o h').persist hF (fun _ _=>rfl)
end Go.Ab
end
section
set_option linter.unusedVariables false
namespace Go.Ab
open Go
variable {P:Program} {w:World} {F:Fen P} {S st:Store} {m:Place}
variable {n:Nat} {l0:List (Nat×Ob)} {s:St} {Q:Exit→St→Prop}
structure Ox where
 o:Orc
 cs:List Prop
 h:All cs
inductive LeI where
 |nR (t k:Nat)
 |nL (t k:Nat)
 |nB (b i k:Nat)
 |fz (id:Nat)
 |fr (t:Nat) (p:List Prop) (h:All p)
 |eq (t:Nat) (d v:AVal) (h:Weak d v)
 |er (id:Nat) (xs ys:List Tree) (h:xs=ys)
 |kp (ts:List Nat)
 |eb (b i:Nat) (v v':AVal) (h:v=v')
 |mc (id:Nat) (xs':List Tree) (p:List Prop) (h:All p)
 |mf (t:Nat)
 |fR (t:Nat) (p:List Prop) (h:All p)
 |mv (t i j:Nat) (h:i=j)
 |mput (id:Nat) (es':List (Int×MV)) (p:List Prop) (h:All p)
 |mfz (id:Nat) (es':List (Int×MV)) (p:List Prop) (h:All p)
 |me (id:Nat) (es es':List (Int×MV)) (h:es=es')
 |cb (b i:Nat) (ag:Bool) (k:Nat) (p:List Prop) (h:All p)
 |pnew
 |pout (p t:Nat) (cs:List Tree) (q:List Prop) (h:All q)
 |pback (p:Nat) (es':List (Nat×List Tree)) (q:List Prop) (h:All q)
 |pe (p:Nat) (es es':List (Nat×List Tree)) (h:es=es')
inductive It where
 |r (xs:List (Nat×Ox))
 |t
 |f
 |u
 |le (x:LeI)
inductive Fr where
 |seq (c:Code)
 |blk (i:Nat)
 |loop (c:Code)
inductive Ctl where
 |run (c:Code)
 |out (e:Exit)
instance:Inhabited Ctl:=⟨.run .skip⟩
structure Cfg where
 ctl:Ctl
 K:List Fr
 s:St
instance:Inhabited Cfg:=⟨⟨default,[],⟨[],emp,0⟩⟩⟩
inductive At where
 |br (b:Bool) (x y:Code) (K:List Fr) (s:St)
 |any (x y:Code) (K:List Fr) (s:St)
 |loop (c:Code) (K:List Fr) (s:St)
 |back (c:Code) (K:List Fr) (s:St)
 |fin (e:Exit) (s:St)
 |mid (c:Code) (K:List Fr) (s:St)
def leR(s:St):LeI→Option (St×List Prop)
 | .nR t k=>match get s.sl t with
  | .t (.sc (.slice none 0 0))=>bif Nat.blt 0 k then some (⟨(t,.row s.nx 0)::s.sl,upd s.st s.nx (.row k false []),s.nx+1⟩,[]) else none
  |_=>none
 | .nL t k=>match get s.sl t with
  | .t (.sc (.slice none 0 0))=>bif Nat.blt 0 k then some (⟨(t,.t (.lst k []))::s.sl,s.st,s.nx⟩,[]) else none
  |_=>none
 | .nB b i k=>match s.st b with
  |some (.box cs)=>match cs[i]? with
   |some (.t (.sc (.slice none 0 0)))=>bif Nat.blt 0 k then some (⟨s.sl,upd (upd s.st s.nx (.row k false [])) b (.box (cs.set i (.row s.nx 0))),s.nx+1⟩,[]) else none
   |_=>none
  |_=>none
 | .fz id=>match s.st id with
  |some (.row k false xs)=>some (⟨s.sl,upd s.st id (.row k true xs),s.nx⟩,[])
  |_=>none
 | .fr t _ _=>match snap s.st (get s.sl t) with
  |some (v',g,p)=>bif g.all (fun x=>Nat.blt x.1 s.nx) then some (⟨(t,v')::s.sl,app s.st g,s.nx⟩,p) else none
  |none=>none
 | .eq t _ v _=>some (⟨(t,v)::s.sl,s.st,s.nx⟩,[Weak (get s.sl t) v])
 | .er id _ ys _=>match s.st id with
  |some (.row k fz xs)=>some (⟨s.sl,upd s.st id (.row k fz ys),s.nx⟩,[xs=ys])
  |_=>none
 | .kp ts=>some (⟨keepS s.sl ts,s.st,s.nx⟩,[])
 | .mc id xs' _ _=>match s.st id with
  |some (.mat false xs (some (i,r,q)))=>match s.st r with
   |some (.row k _ ys)=>some (⟨s.sl,upd (upd s.st r (.row k true ys)) id (.mat false xs' none),s.nx⟩,[q=ys.length,xs.set i (.lst k ys)=xs'])
   |_=>none
  |_=>none
 | .mf t=>match get s.sl t with
  | .mat id=>match s.st id with
   |some (.mat false xs none)=>some (⟨(t,.t (.lst 1 xs))::s.sl,upd s.st id (.mat true xs none),s.nx⟩,[])
   |_=>none
  |_=>none
 | .fR t _ _=>match snapR s.st (get s.sl t) with
  |some (v',g,p)=>bif g.all (fun x=>Nat.blt x.1 s.nx) then some (⟨(t,v')::s.sl,app s.st g,s.nx⟩,p) else none
  |none=>none
 | .mv t _ _ _=>match get s.sl t with
  | .row id q=>match s.st id with
   |some (.row k false xs)=>some (⟨(t,.row s.nx q)::s.sl,upd (upd s.st id .gone) s.nx (.row k false xs),s.nx+1⟩,[q=xs.length])
   |_=>none
  |_=>none
 | .mput id es' _ _=>match s.st id with
  |some (.mp es (some (n,.ptr r 0)))=>match s.st r with
   |some (.box cs)=>bif Nat.beq r id|| !(cs.all isCellV) then none else(allT cs).bind fun Ts=>some (⟨s.sl,upd (upd s.st r .gone) id (.mp es' none),s.nx⟩,[(lookE es n).isSome=true,putE es n (.bx Ts)=es'])
   |_=>none
  |some (.mp es (some (n,.row r q)))=>match s.st r with
   |some (.row k false xs)=>bif Nat.beq r id then none else some (⟨s.sl,upd (upd s.st r .gone) id (.mp es' none),s.nx⟩,[q=xs.length,(lookE es n).isSome=true,putE es n (.rw k xs)=es'])
   |_=>none
  |_=>none
 | .mfz id es' _ _=>match s.st id with
  |some (.mp es none)=>some (⟨s.sl,upd s.st id (.mp es' none),s.nx⟩,[(es.map fun x=>(x.1,frz x.2))=es'])
  |_=>none
 | .me id _ es' _=>match s.st id with
  |some (.mp es h)=>some (⟨s.sl,upd s.st id (.mp es' h),s.nx⟩,[es=es'])
  |_=>none
 | .eb b i _ v' _=>match s.st b with
  |some (.box cs)=>match cs[i]? with
   |some v0=>some (⟨s.sl,upd s.st b (.box (cs.set i v')),s.nx⟩,[v0=v'])
   |none=>none
  |_=>none
 | .cb b0 i ag k _ _=>match s.st b0 with
  |some (.box cs0)=>match cs0[i]? with
   |some (.bsl id q)=>match s.st id with
    |some (.box cs)=>match snapL s.st cs with
     |some (cs',g,p)=>bif !(Nat.beq b0 id)&&(g.all (fun x=>Nat.blt x.1 s.nx&&(!(Nat.beq x.1 id)&& !(Nat.beq x.1 b0)))&&(Nat.blt 0 k&&(Nat.ble (q*k) 16777216&&Nat.beq cs.length (q*k)))) then
      (allT cs').bind fun ts=>(group ag k q ts).bind fun xs=>some (⟨s.sl,upd (upd (upd (app s.st g) id .gone) s.nx (.row k false xs)) b0 (.box (cs0.set i (.row s.nx q))),s.nx+1⟩,p) else none
     |none=>none
    |_=>none
   |_=>none
  |_=>none
 | .pnew=>some (⟨s.sl,upd s.st s.nx (.pool [] none),s.nx+1⟩,[])
 | .pout p t cs _ _=>match get s.sl t with
  | .t (.sc (.pointer (some ⟨b,0,none⟩)))=>match s.st p with
   |some (.pool es none)=>some (⟨(t,.ptr s.nx 0)::s.sl,upd (upd s.st s.nx (.box (cs.map .t))) p (.pool es (some (b,s.nx))),s.nx+1⟩,[lookP es b=some cs])
   |_=>none
  |_=>none
 | .pback p es' _ _=>match s.st p with
  |some (.pool es (some (b,r)))=>match s.st r with
   |some (.box cs)=>(allT cs).bind fun Ts=>some (⟨s.sl,upd (upd s.st r .gone) p (.pool es' none),s.nx⟩,[setP es b Ts=es',∀T∈Ts,T.isCell=true])
   |_=>none
  |_=>none
 | .pe p _ es' _=>match s.st p with
  |some (.pool es h)=>some (⟨s.sl,upd s.st p (.pool es' h),s.nx⟩,[es=es'])
  |_=>none
def leC:LeI→List Prop
 | .cb _ _ _ _ p _=>p
 | .fr _ p _=>p
 | .eq _ d v _=>[Weak d v]
 | .er _ xs ys _=>[xs=ys]
 | .eb _ _ v v' _=>[v=v']
 | .mc _ _ p _=>p
 | .fR _ p _=>p
 | .mv _ i j _=>[i=j]
 | .mput _ _ p _=>p
 | .mfz _ _ p _=>p
 | .me _ es es' _=>[es=es']
 | .pout _ _ _ q _=>q
 | .pback _ _ q _=>q
 | .pe _ es es' _=>[es=es']
 |_=>[]
def runA(P:Program)(n:Nat)(ops:List Oper)(draw:Bool)(orcs:List (Nat×Orc))(s:St):Option (St×List Prop):=
 match runL P ops orcs s.nx 0 ops s with
 |some (s',rs)=>bif (ops.all (dstOk n))&&(!draw||drawOk ops s.nx rs) then some (⟨s'.sl,s'.st,s.nx+8*ops.length⟩,allC rs) else none
 |none=>none
def oxO:List (Nat×Ox)→List (Nat×Orc)
 | []=>[]
 | (i,x)::l=>(i,x.o)::oxO l
def apC:List Prop→List Prop→List Prop
 | [],t=>t
 |p::l,t=>p::apC l t
def oxC:List (Nat×Ox)→List Prop→List Prop
 | [],t=>t
 | (_,x)::l,t=>apC x.cs (oxC l t)
def csL:List It→List Prop
 | []=>[]
 | .r xs::l=>oxC xs (csL l)
 | .le x::l=>apC (leC x) (csL l)
 |_::l=>csL l
inductive OutR where
 |fin
 |back (c:Code) (K:List Fr)
 |go (ctl:Ctl) (K:List Fr)
def outS(e:Exit):List Fr→OutR
 | []=> .fin
 | .seq c::K=>match e with
  | .normal=> .go (.run c) K
  |e=> .go (.out e) K
 | .blk i::K=>match e with
  | .exit j=>bif Nat.beq j i then .go (.out .normal) K else .go (.out (.exit j)) K
  |e=> .go (.out e) K
 | .loop c::K=>match e with
  | .normal=> .back c K
  |e=> .go (.out e) K
def go(P:Program)(n:Nat):Nat→List It→Ctl→List Fr→St→List Prop→Option (At×List Prop)
 |0,_,_,_,_,_=>none
 |fuel+1,.le x::sc,ctl,K,s,acc=>match leR s x with
  |some (s',C)=>go P n fuel sc ctl K s' (acc++C)
  |none=>none
 |fuel+1,sc,.run c,K,s,acc=>match c with
  | .seq x y=>go P n fuel sc (.run x) (.seq y::K) s acc
  | .skip=>go P n fuel sc (.out .normal) K s acc
  | .ret=>go P n fuel sc (.out .ret) K s acc
  | .exit i=>go P n fuel sc (.out (.exit i)) K s acc
  | .block i c=>go P n fuel sc (.run c) (.blk i::K) s acc
  | .loop c=>match sc with
   | []=>some (.loop c K s,acc)
   | .u::sc=>go P n fuel sc (.run c) (.loop c::K) s acc
   |_=>none
  | .cond c x y=>match ev s.sl c with
   | .t (.sc (.bool b))=>match sc with
    | []=>some (.br b x y K s,acc)
    | .t::sc=>bif b then go P n fuel sc (.run x) K s acc else none
    | .f::sc=>bif b then none else go P n fuel sc (.run y) K s acc
    |_=>none
   | .anyB=>match sc with
    | []=>some (.any x y K s,acc)
    |_=>none
   |_=>none
  | .region id ops draw=>match sc with
   | []=>some (.mid (.region id ops draw) K s,acc)
   | .r xs::sc=>match runA P n ops.toList draw (oxO xs) s with
    |some (s',C)=>go P n fuel sc (.out .normal) K s' (acc++C)
    |none=>none
   |_=>none
  | .rangeFunc g ps a b=>match sc with
   | []=>some (.mid (.rangeFunc g ps a b) K s,acc)
   |_=>none
  |_=>none
 |fuel+1,sc,.out e,K,s,acc=>match outS e K with
  | .fin=>match sc with
   | []=>some (.fin e s,acc)
   |_=>none
  | .back c K=>match sc with
   | []=>some (.back c K s,acc)
   | .u::sc=>go P n fuel sc (.run c) (.loop c::K) s acc
   |_=>none
  | .go ctl K=>go P n fuel sc ctl K s acc
def wrapK(P:Program)(n:Nat)(l0:List (Nat×Ob)):List Fr→(Exit→St→Prop)→Exit→St→Prop
 | [],Q=>Q
 | .seq c::K,Q=>andThen (fun s=>Sim P n l0 c s (wrapK P n l0 K Q)) (wrapK P n l0 K Q)
 | .blk i::K,Q=>inBlk i (wrapK P n l0 K Q)
 | .loop c::K,Q=>andThen (fun s=>LoopSim P n l0 c s (wrapK P n l0 K Q)) (wrapK P n l0 K Q)
def LeClosed(n:Nat)(l0:List (Nat×Ob))(Q:Exit→St→Prop):Prop:=∀e s s',Le n l0 s s'→Q e s'→Q e s
def CtlG(P:Program)(n:Nat)(l0:List (Nat×Ob))(Q:Exit→St→Prop):Ctl→List Fr→St→Prop
 | .run c,K,s=>Sim P n l0 c s (wrapK P n l0 K Q)
 | .out e,K,s=>wrapK P n l0 K Q e s
def AtG(P:Program)(n:Nat)(l0:List (Nat×Ob))(Q:Exit→St→Prop):At→Prop
 | .any x y K s=>Sim P n l0 x s (wrapK P n l0 K Q)∧Sim P n l0 y s (wrapK P n l0 K Q)
 | .br b x y K s=>(b=true→Sim P n l0 x s (wrapK P n l0 K Q))∧(b=false→Sim P n l0 y s (wrapK P n l0 K Q))
 | .loop c K s=>LoopSim P n l0 c s (wrapK P n l0 K Q)
 | .back c K s=>LoopSim P n l0 c s (wrapK P n l0 K Q)
 | .fin e s=>Q e s
 | .mid c K s=>Sim P n l0 c s (wrapK P n l0 K Q)
theorem wrapK_le(hQ:LeClosed n l0 Q):∀(K:List Fr),LeClosed n l0 (wrapK P n l0 K Q)
 | []=>hQ
 | .seq c::K=>fun e s s' h k=>by
  cases e with
  |normal=>exact Sim.weaken h k
  |_=>exact wrapK_le hQ K _ s s' h k
 | .blk i::K=>fun e s s' h k=>by
  cases e with
  |exit j=>
   simp only[wrapK,inBlk] at k⊢
   split
   ·rename_i hj;rw[if_pos hj] at k;exact wrapK_le hQ K _ s s' h k
   ·rename_i hj;rw[if_neg hj] at k;exact wrapK_le hQ K _ s s' h k
  |_=>exact wrapK_le hQ K _ s s' h k
 | .loop c::K=>fun e s s' h k=>by
  cases e with
  |normal=>exact LoopSim.weaken h k
  |_=>exact wrapK_le hQ K _ s s' h k
theorem CtlG_le(hQ:LeClosed n l0 Q){ctl:Ctl}{K:List Fr}{s s':St}(h:Le n l0 s s')(k:CtlG P n l0 Q ctl K s'):CtlG P n l0 Q ctl K s:=by
 cases ctl with
 |run c=>exact Sim.weaken h k
 |out e=>exact wrapK_le hQ K e s s' h k
theorem Le.row{id k:Nat}{fz:Bool}{xs ys:List Tree}(hid:s.st id=some (.row k fz xs))(h:xs=ys):Le n l0 s ⟨s.sl,upd s.st id (.row k fz ys),s.nx⟩:=by
 have e:upd s.st id (.row k fz ys)=s.st:=by
  funext j
  unfold upd
  by_cases hj:j=id
  ·subst hj;simp[hid,h]
  ·rw[beq_ne hj];rfl
 rw[e]
 exact fun P F m0 w0 m a w h0 h1 h2=>⟨m,h1,h2⟩
theorem Le.boxE{b i:Nat}{cs:List AVal}{v0 v:AVal}(hb:s.st b=some (.box cs))(hi:cs[i]? =some v0)(h:v0=v):Le n l0 s ⟨s.sl,upd s.st b (.box (cs.set i v)),s.nx⟩:=by
 subst h
 have e0:cs.set i v0=cs:=by
  apply List.ext_getElem?
  intro j
  rw[List.getElem?_set]
  split
  ·rename_i hj;subst hj
   have:=(List.getElem?_eq_some_iff.1 hi).1
   rw[if_pos this,hi]
  ·rfl
 have e:upd s.st b (.box (cs.set i v0))=s.st:=by
  funext j
  unfold upd
  by_cases hj:j=b
  ·subst hj;simp[hb,e0]
  ·rw[beq_ne hj];rfl
 rw[e]
 exact fun P F m0 w0 m a w h0 h1 h2=>⟨m,h1,h2⟩
theorem Le.keep(ts:List Nat):Le n l0 s ⟨keepS s.sl ts,s.st,s.nx⟩:=by
 intro P F m0 w0 m a w h0 h1 h2
 exact⟨m,⟨h1.slots.keep ts,h1.size,h1.defers,h1.srel,h1.fresh⟩,h2⟩
theorem Le.mvRow{t id q k:Nat}{xs:List Tree}(hg:get s.sl t= .row id q)(hs:s.st id=some (.row k false xs))(hq:q=xs.length):
 Le n l0 s ⟨(t,.row s.nx q)::s.sl,upd (upd s.st id .gone) s.nx (.row k false xs),s.nx+1⟩:=by
 intro P F m0 w0 m a w h0 h1 h2
 have hn:s.st s.nx=none:=h1.fresh s.nx (Nat.le_refl _)
 obtain⟨k1,k2⟩:=shrink_obj h1.srel hs hn (Nat.le_refl xs.length)
 rw[List.take_length] at k1 k2
 refine⟨_,⟨fun t'=> ?_,h1.size,h1.defers.ext k2,k1,fun id' hid'=> ?_⟩,h2.trans h0 k2⟩
 ·simp only[get]
  by_cases e:t=t'
  ·subst e
   have hv:=h1.slots t
   rw[hg] at hv
   simp only[Nat.beq_refl,cond_true]
   generalize a.tmps.getD t undef=u at hv
   cases hv with
   |row _ _ k' fz' xs' L hs' hn' hu'=>
    rw[hs] at hs';cases hs'
    have:=hu' hq
    exact .row s.nx q k false xs L (upd_same _ _ _) (by omega) (fun _=>by rw[place_same];exact this)
   |rowG _ _ L hs'=>rw[hs] at hs';cases hs'
  ·rw[beq_ne e,cond_false]
   exact k2.val (h1.slots t')
 ·show upd (upd s.st id .gone) s.nx _ id'=none
  simp only at hid'
  have hne:id'≠id:=fun e=>by subst e;rw[h1.fresh id' (by omega)] at hs;cases hs
  rw[upd_ne (by omega),upd_ne hne]
  exact h1.fresh id' (by omega)
theorem Le.closeB{b0 i id q k:Nat}{ag:Bool}{cs0 cs cs':List AVal}{g:List (Nat×Ob)}{p:List Prop}{ts xs:List Tree}(hb0:s.st b0=some (.box cs0))(hg:cs0[i]? =some (.bsl id q))(hs:s.st id=some (.box cs))(e1:snapL s.st cs=some (cs',g,p))(hp:All p)
 (hne0:b0≠id) (hk:g.all (fun x=>Nat.blt x.1 s.nx&&(!(Nat.beq x.1 id)&& !(Nat.beq x.1 b0)))=true) (hk0:0<k) (hbig:q*k≤16777216) (hcl:cs.length=q*k) (e2:allT cs'=some ts) (e3:group ag k q ts=some xs):
 Le n l0 s ⟨s.sl,upd (upd (upd (app s.st g) id .gone) s.nx (.row k false xs)) b0 (.box (cs0.set i (.row s.nx q))),s.nx+1⟩:=by
 intro P F m0 w0 m a w h0 h1 h2
 obtain⟨bb,us0,e0,p1,p2,p3,p4⟩:=h1.srel.objs b0 _ hb0
 have hil:i<us0.size:=Nat.lt_of_lt_of_le (List.getElem?_eq_some_iff.1 hg).1 p3.1
 have hu0:us0[i]? =some us0[i]:=Array.getElem?_eq_getElem hil
 have hv:=(p4 i _ _ hg hu0).1
 generalize hw0:us0[i]=u0 at hv
 rw[hw0] at hu0
 cases hv with
 |bslG _ _ L hs'=>rw[hs] at hs';cases hs'
 |bsl _ _ cs1 b hs' hm=>
 rw[hs] at hs';cases hs'
 obtain⟨b',us,e,q1,q2,q3,q4⟩:=h1.srel.objs id _ hs
 have q3:us.size=cs.length:=q3.2.resolve_right (fun z=>by
  rw[hm] at z
  have:=Nat.le_mul_of_pos_right q hk0
  simp only[roomy] at z;omega)
 rw[hm] at q1;cases q1
 have hsn:=snapL_sound (fun _ _ h=>h) h1.srel e1 hp (us:=us.toList) (by simp[q3]) (fun i v u hv hu=>(q4 i v u hv (by simpa using hu)).1)
 obtain⟨r1,r2,r3,r4⟩:=freezeAll g s.st h1.srel hsn.2.1
 have hno:∀j,j∈g.map (·.1)→j<s.nx∧j≠id∧j≠b0:=fun j hj=>by
  obtain⟨x,hx,rfl⟩:=List.mem_map.1 hj
  have:=List.all_eq_true.1 hk x hx
  simp only[Bool.and_eq_true,Bool.not_eq_true'] at this
  exact⟨Nat.lt_of_succ_le (Nat.le_of_ble_eq_true this.1),fun e=>by rw[e] at this;simp at this,fun e=>by rw[e] at this;simp at this⟩
 have hidg:app s.st g id=some (.box cs):=by rw[r4 id (fun h=>(hno id h).2.1 rfl)];exact hs
 have hn:app s.st g s.nx=none:=by rw[r4 s.nx (fun h=>absurd (hno _ h).1 (Nat.lt_irrefl _))];exact h1.fresh s.nx (Nat.le_refl _)
 have hbn:b0≠s.nx:=fun e=>by rw[e,h1.fresh s.nx (Nat.le_refl _)] at hb0;cases hb0
 have hts:=allT_some e2
 have hrep:∀(j:Nat) (T:Tree) (u:Value),ts[j]? =some T→us[j]? =some u→TRep w (okB F (app s.st g) m w) T u:=fun j T u hT hu=>by
  have:=hsn.2.2 g hsn.2.1 (fun x hx=>hx) j (.t T) u (by rw[hts,List.getElem?_map,hT];rfl) (by simpa using hu)
  cases this with
  |t _ _ h=>exact h
 have hone:∀(j:Nat) (u:Value),us[j]? =some u→u.oneCell'=true:=fun j u hu=>by
  have hj:j<cs.length:=by rw[←q3];exact(Array.getElem?_eq_some_iff.1 hu).1
  exact(q4 j _ u (List.getElem?_eq_getElem hj) hu).2
 have htl:ts.length=us.size:=by have:=hsn.1;rw[hts] at this;simpa using this
 have hcellT:∀T∈ts,T.isCell=true:=fun T hT=>by
  obtain⟨j,hj,rfl⟩:=List.mem_iff_getElem.1 hT
  have hj':j<us.size:=by rw[←htl];exact hj
  have a1:=hrep j _ us[j] (List.getElem?_eq_getElem hj) (Array.getElem?_eq_getElem hj')
  have a2:=hone j us[j] (Array.getElem?_eq_getElem hj')
  generalize ts[j]=T at a1
  generalize us[j]=u at a1 a2
  cases a1 with
  |agg=>simp[Value.oneCell'] at a2
  |sc=>rfl
  |lst=>rfl
 obtain⟨g1,g2,g3⟩:=group_some e3 hcellT
 obtain⟨k1,k2⟩:=move_to (o':= .row k false xs) r1 hidg hn rfl trivial (by simp[Ob.len]) (fun hF=>by
  refine⟨hk0,g3,by rw[g2,hm];exact Nat.le_refl _,?_,.inr ⟨b,us,e,by rw[hm],q2,by rw[q3,hcl,hm],hone,fun j T u hj hu=>hF.tree (hrep j T u (by rw[←g1];exact hj) hu)⟩⟩
  have:=Nat.le_mul_of_pos_right q hk0
  rw[hm];simp only[maxLen];omega)
 have hb':upd (upd (app s.st g) id .gone) s.nx (.row k false xs) b0=some (.box cs0):=by rw[upd_ne hbn,upd_ne hne0,r4 b0 (fun h=>(hno _ h).2.2 rfl)];exact hb0
 obtain⟨bb',us',e',s1,s2,s3,s4⟩:=k1.objs b0 _ hb'
 have s1':=s1
 rw[place_ne hbn,place_ne hne0,p1] at s1'
 cases s1'
 have hss:=p2.symm.trans s2
 simp only[Option.some.injEq,Go.Obj.cells.injEq] at hss
 have key:=rewrite_obj (o':= .box (cs0.set i (.row s.nx q))) k1 hb' rfl s1 (w':=w) rfl rfl rfl rfl (fun _ _=>rfl) (by simp[Ob.len]) (by simp[Ob.same]) (fun hF=>by
  refine⟨bb,us',e',s1,s2,by simp[s3],fun j v u hv hu=> ?_⟩
  rw[List.getElem?_set] at hv
  split at hv
  ·rename_i hij
   subst hij
   split at hv
   ·simp only[Option.some.injEq] at hv
    subst hv
    rw[←hss.1,hu0] at hu
    cases hu
    exact⟨.row s.nx q k false xs (some b,q) (by rw[upd_ne (Ne.symm hbn)];exact upd_same _ _ _) (by omega) (fun _=>by rw[place_same];exact hm),rfl⟩
   ·cases hv
  ·obtain⟨t1,t2⟩:=s4 j v u hv hu
   exact⟨hF.val t1,t2⟩)
 have k3:=(r2.trans h1.srel k2).trans h1.srel key.2
 refine⟨_,⟨fun t'=>k3.val (h1.slots t'),h1.size,h1.defers.ext k3,key.1,fun id' hid'=> ?_⟩,h2.trans h0 k3⟩
 show upd (upd (upd (app s.st g) id .gone) s.nx _) b0 _ id'=none
 simp only at hid'
 have hne:∀x ob,s.st x=some ob→id'≠x:=fun x ob hx e=>by subst e;rw[h1.fresh id' (by omega)] at hx;cases hx
 rw[upd_ne (hne _ _ hb0),upd_ne (by omega),upd_ne (hne _ _ hs),r4 id' (fun h=>by have:=(hno _ h).1;omega)]
 exact h1.fresh id' (by omega)
theorem upd_fresh{S:Store}{nx id i:Nat}{o o':Ob}(h:∀id,nx≤id→S id=none)(hi:S i=some o')(hid:nx≤id):upd S i o id=none:=by
 have:id≠i:=fun e=>by subst e;rw[h id hid] at hi;cases hi
 rw[upd_ne this];exact h id hid
theorem Le.ghost'{S':Store}(h:∀{P:Program} (F:Fen P) (m:Place) (w:World),SRel F s.st m w→(∀id,s.nx≤id→s.st id=none)→(∀id,s.nx≤id→S' id=none)∧∃m',SRel F S' m' w∧FrameExt F s.st m w S' m' w):Le n l0 s ⟨s.sl,S',s.nx⟩:=by
 intro P F m0 w0 m a w h0 h1 h2
 obtain⟨hn,m',k1,k2⟩:=h F m w h1.srel h1.fresh
 exact⟨m',⟨fun t=>k2.val (h1.slots t),h1.size,h1.defers.ext k2,k1,hn⟩,h2.trans h0 k2⟩
theorem Le.mput{id r:Nat}{es es':List (Int×MV)}{k:Int}{v:AVal}{o:Ob}{mv:MV}(hid:s.st id=some (.mp es (some (k,v))))(hr:s.st r=some o)(hlive:o.live=true)(hsame:o.same .gone)
 (hlen:∀{P:Program} (F:Fen P) (m:Place) (w:World),SRel F s.st m w→o.len<18446744073709551616) (hri:r≠id) (hl:(lookE es k).isSome=true) (he:putE es k mv=es')
 (hv:∀{P:Program} (F:Fen P) (m:Place) (w:World),SRel F s.st m w→∀u,VRel s.st m w (okB F s.st m w) v u→∀S' m' w',FrameExt F s.st m w S' m' w'→(∀x,(m r).1=some x→w'.heap[x]? =w.heap[x]?)→MRel S' m' w' (okB F S' m' w') mv u (m r).1):
 Le n l0 s ⟨s.sl,upd (upd s.st r .gone) id (.mp es' none),s.nx⟩:=by
 subst he
 obtain⟨v0,hv0⟩:=Option.isSome_iff_exists.1 hl
 obtain⟨i,h1,h2⟩:=lookE_some hv0
 refine Le.ghost' (fun F m w hS hf=>⟨fun id' hid'=> ?_,put_back hS hid h1 h2 hr hlive hsame (hlen F m w hS) hri (hv F m w hS)⟩)
 have e1:id'≠id:=fun e=>by subst e;rw[hf id' hid'] at hid;cases hid
 rw[upd_ne e1]
 exact upd_fresh hf hr hid'
theorem Le.pnew:Le n l0 s ⟨s.sl,upd s.st s.nx (.pool [] none),s.nx+1⟩:=by
 intro P F m0 w0 m a w h0 h1 h2
 obtain⟨k1,k2⟩:=pool_new h1.srel (h1.fresh s.nx (Nat.le_refl _))
 exact⟨_,⟨fun t=>k2.val (h1.slots t),h1.size,h1.defers.ext k2,k1,fun id hid=>by simp only at hid⊢;rw[upd_ne (by omega)];exact h1.fresh id (by omega)⟩,h2.trans h0 k2⟩
theorem Le.pout{p t b:Nat}{es:List (Nat×List Tree)}{cs:List Tree}(hg:get s.sl t= .t (.sc (.pointer (some ⟨b,0,none⟩))))(hp:s.st p=some (.pool es none))(hl:lookP es b=some cs):
 Le n l0 s ⟨(t,.ptr s.nx 0)::s.sl,upd (upd s.st s.nx (.box (cs.map .t))) p (.pool es (some (b,s.nx))),s.nx+1⟩:=by
 intro P F m0 w0 m a w h0 h1 h2
 have hn:s.st s.nx=none:=h1.fresh s.nx (Nat.le_refl _)
 obtain⟨k1,k2⟩:=pool_out h1.srel hp (lookP_mem hl) hn
 have hpn:p≠s.nx:=fun e=>by rw[e,hn] at hp;cases hp
 refine⟨_,⟨fun t'=> ?_,h1.size,h1.defers.ext k2,k1,fun id hid=> ?_⟩,h2.trans h0 k2⟩
 ·simp only[get]
  by_cases e:t=t'
  ·subst e
   have hv:=h1.slots t
   rw[hg] at hv
   have hv:=VRel.sc_inv hv
   simp only[Nat.beq_refl,cond_true]
   rw[hv]
   exact .ptr s.nx 0 (cs.map .t) b (by rw[upd_ne (Ne.symm hpn)];exact upd_same _ _ _) (by rw[place_same])
  ·rw[beq_ne e,cond_false]
   exact k2.val (h1.slots t')
 ·show upd (upd s.st s.nx _) p _ id=none
  simp only at hid
  have hne:id≠p:=fun e=>by subst e;rw[h1.fresh id (by omega)] at hp;cases hp
  rw[upd_ne hne,upd_ne (by omega)]
  exact h1.fresh id (by omega)
theorem Le.pback{p b r:Nat}{es:List (Nat×List Tree)}{cs:List AVal}{Ts:List Tree}(hp:s.st p=some (.pool es (some (b,r))))(hr:s.st r=some (.box cs))(hT:allT cs=some Ts)(hc:∀T∈Ts,T.isCell=true):
 Le n l0 s ⟨s.sl,upd (upd s.st r .gone) p (.pool (setP es b Ts) none),s.nx⟩:=
 Le.ghost' (fun F m w hS hf=>⟨fun id' hid'=>by
  have e1:id'≠p:=fun e=>by subst e;rw[hf id' hid'] at hp;cases hp
  rw[upd_ne e1]
  exact upd_fresh hf hr hid',_,pool_back hS hp hr hT hc⟩)
theorem leR_sound{x:LeI}{s':St}{C:List Prop}(h:leR s x=some (s',C))(hC:All C):Le n l0 s s':=by
 cases x with
 |nR t k=>
  simp only[leR] at h
  split at h
  ·rename_i hg
   obtain⟨hk,h⟩:=bif_some h
   cases h
   exact Le.nilRow hg (by simp) hk
  ·cases h
 |nL t k=>
  simp only[leR] at h
  split at h
  ·rename_i hg
   obtain⟨hk,h⟩:=bif_some h
   cases h
   exact Le.nilLst hg hk
  ·cases h
 |nB b i k=>
  simp only[leR] at h
  split at h
  ·rename_i cs hb
   split at h
   ·rename_i hg
    obtain⟨hk,h⟩:=bif_some h
    cases h
    exact Le.nilBox hb hg (by simp) hk
   ·cases h
  ·cases h
 |fz id=>
  simp only[leR] at h
  split at h
  ·rename_i hb;cases h;exact Le.fz hb
  ·cases h
 |fr t p hp=>
  simp only[leR] at h
  split at h
  ·rename_i v' g p hs
   obtain⟨hk,h⟩:=bif_some h
   cases h
   exact Le.freeze rfl hs hC hk
  ·cases h
 |fR t p hp=>
  simp only[leR] at h
  split at h
  ·rename_i v' g p hs
   obtain⟨hk,h⟩:=bif_some h
   cases h
   exact Le.freezeR rfl hs hC hk
  ·cases h
 |eq t d v hw=>
  simp only[leR] at h
  cases h
  exact Le.slot rfl hC.1
 |er id xs ys he=>
  simp only[leR] at h
  split at h
  ·rename_i hb;cases h;exact Le.row hb hC.1
  ·cases h
 |kp ts=>
  simp only[leR] at h
  cases h
  exact Le.keep ts
 |mc id xs' p hp=>
  simp only[leR] at h
  split at h
  ·rename_i hid
   split at h
   ·rename_i hr
    cases h
    exact Le.matClose hid hr hC.1 hC.2.1
   ·cases h
  ·cases h
 |mf t=>
  simp only[leR] at h
  split at h
  ·rename_i hg
   split at h
   ·rename_i hid;cases h;exact Le.matFreeze hg hid
   ·cases h
  ·cases h
 |cb b0 i ag k p hp=>
  simp only[leR] at h
  split at h
  rotate_left
  ·cases h
  rename_i cs0 hb0
  split at h
  rotate_left
  ·cases h
  rename_i id q hg
  split at h
  rotate_left
  ·cases h
  rename_i cs hs
  split at h
  rotate_left
  ·cases h
  rename_i cs' g p hsn
  obtain⟨hk,h⟩:=bif_some h
  simp only[Option.bind_eq_some_iff] at h
  obtain⟨ts,h1,xs,h2,h⟩:=h
  cases h
  simp only[Bool.and_eq_true,Bool.not_eq_true'] at hk
  obtain⟨c1,c2,c3,c4,c5⟩:=hk
  exact Le.closeB hb0 hg hs hsn hC (fun e=>by rw[e] at c1;simp at c1) c2 (blt_pos c3) (Nat.le_of_ble_eq_true c4) (Nat.eq_of_beq_eq_true c5) h1 h2
 |mv t i j he=>
  simp only[leR] at h
  split at h
  ·rename_i hg
   split at h
   ·rename_i hid;cases h;exact Le.mvRow hg hid hC.1
   ·cases h
  ·cases h
 |mput id es' p hp=>
  simp only[leR] at h
  split at h
  ·rename_i es k r hid
   split at h
   ·rename_i cs hr
    cases hri:(Nat.beq r id|| !cs.all isCellV) with
    |true=>rw[hri] at h;cases h
    |false=>
     rw[hri,cond_false] at h
     simp only[Option.bind_eq_some_iff,Option.some.injEq,Prod.mk.injEq] at h
     obtain⟨Ts,hTs,rfl,rfl⟩:=h
     simp only[Bool.or_eq_false_iff] at hri
     have hne:r≠id:=fun e=>by subst e;simp at hri
     obtain⟨c1,c2,-⟩:=hC
     have hcs:=allT_some hTs
     subst hcs
     refine @Le.mput _ _ _ _ _ _ _ _ _ _ (.bx Ts) hid hr rfl trivial (fun F m w hS=>by simp[Ob.len]) hne c1 c2 (@fun P F m w hS u hv S' m' w' hF hx=> ?_)
     obtain⟨bb,us,ty,q1,q2,q3,q4⟩:=hS.objs r _ hr
     have huv:u= .pointer (some ⟨bb,0,none⟩):=by
      cases hv with
      |ptrG _ _ _ hs'=>rw[hr] at hs';cases hs'
      |ptr _ _ cs' b' hs' hm=>rw[q1] at hm;cases hm;rfl
     refine⟨bb,us,ty,q1,huv,(hx bb q1).trans q2,by simpa using q3.1,fun T hT=> ?_,fun i T u a b'=>hF.tree ?_⟩
     ·have:=hri.2
      simp only[Bool.not_eq_false',List.all_eq_true] at this
      exact this (.t T) (List.mem_map.2 ⟨T,hT,rfl⟩)
     ·have:=(q4 i (.t T) u (by simp[a]) b').1
      cases this with
      |t _ _ h=>exact h
   ·cases h
  ·rename_i es k r q hid
   split at h
   ·rename_i k' xs hr
    cases hri:Nat.beq r id with
    |true=>rw[hri] at h;cases h
    |false=>
     rw[hri,cond_false] at h
     simp only[Option.some.injEq,Prod.mk.injEq] at h
     obtain⟨rfl,rfl⟩:=h
     have hne:r≠id:=fun e=>by subst e;simp at hri
     obtain⟨c0,c1,c2,-⟩:=hC
     refine @Le.mput _ _ _ _ _ _ _ _ _ _ (.rw k' xs) hid hr rfl trivial (@fun P F m w hS=> ?_) hne c1 c2 (@fun P F m w hS u hv S' m' w' hF hx=> ?_)
     ·obtain⟨_,_,a3,a4,_⟩:=hS.objs r _ hr
      simp only[maxLen] at a4;simp only[Ob.len];omega
     ·refine⟨m r,?_,rfl,RowAt.persist hF (hS.objs r _ hr) hx⟩
      cases hv with
      |rowG _ _ L hs'=>rw[hr] at hs';cases hs'
      |row _ _ k'' fz' xs' L hs' hn' hu'=>
       rw[hr] at hs';cases hs'
       rw[hu' c0,c0]
   ·cases h
  ·cases h
 |mfz id es' p hp=>
  simp only[leR] at h
  split at h
  ·rename_i es hid
   simp only[Option.some.injEq,Prod.mk.injEq] at h
   obtain⟨rfl,rfl⟩:=h
   obtain⟨rfl,-⟩:=hC
   exact Le.ghost' (fun F m w hS hf=>⟨fun id' hid'=>upd_fresh hf hid hid',free_all hS hid⟩)
  ·cases h
 |pnew=>
  simp only[leR,Option.some.injEq,Prod.mk.injEq] at h
  obtain⟨rfl,rfl⟩:=h
  exact Le.pnew
 |pout p t cs q hq=>
  simp only[leR] at h
  split at h
  ·rename_i b hg
   split at h
   ·rename_i es hp
    simp only[Option.some.injEq,Prod.mk.injEq] at h
    obtain⟨rfl,rfl⟩:=h
    exact Le.pout hg hp hC.1
   ·cases h
  ·cases h
 |pback p es' q hq=>
  simp only[leR] at h
  split at h
  ·rename_i es b r hp
   split at h
   ·rename_i cs hr
    simp only[Option.bind_eq_some_iff,Option.some.injEq,Prod.mk.injEq] at h
    obtain⟨Ts,hTs,rfl,rfl⟩:=h
    obtain⟨rfl,hcell,-⟩:=hC
    exact Le.pback hp hr hTs hcell
   ·cases h
  ·cases h
 |pe id es1 es' he=>
  simp only[leR] at h
  split at h
  ·rename_i es hh hid
   simp only[Option.some.injEq,Prod.mk.injEq] at h
   obtain⟨rfl,rfl⟩:=h
   obtain⟨rfl,-⟩:=hC
   have e:upd s.st id (.pool es hh)=s.st:=by
    funext j
    unfold upd
    by_cases hj:j=id
    ·subst hj;simp[hid]
    ·rw[beq_ne hj];rfl
   rw[e]
   exact fun P F m0 w0 m a w h0 h1 h2=>⟨m,h1,h2⟩
  ·cases h
 |me id es1 es' he=>
  simp only[leR] at h
  split at h
  ·rename_i es hh hid
   simp only[Option.some.injEq,Prod.mk.injEq] at h
   obtain⟨rfl,rfl⟩:=h
   obtain⟨rfl,-⟩:=hC
   have e:upd s.st id (.mp es hh)=s.st:=by
    funext j
    unfold upd
    by_cases hj:j=id
    ·subst hj;simp[hid]
    ·rw[beq_ne hj];rfl
   rw[e]
   exact fun P F m0 w0 m a w h0 h1 h2=>⟨m,h1,h2⟩
  ·cases h
 |eb b i v v' he=>
  simp only[leR] at h
  split at h
  ·rename_i cs hb
   split at h
   ·rename_i v0 hi;cases h;exact Le.boxE hb hi hC.1
   ·cases h
  ·cases h
theorem get_keepS_all:∀(ks:List Nat) (sl:List (Nat×AVal)) (t:Nat),t∈ks→get (keepS sl ks) t=get sl t
 |k::ks,sl,t,h=>by
  simp only[keepS,get]
  by_cases e:k=t
  ·subst e;simp
  ·rw[beq_ne e]
   rcases List.mem_cons.1 h with h|h
   ·exact absurd h.symm e
   ·exact get_keepS_all ks sl t h
theorem get_not:∀(sl:List (Nat×AVal)) (t:Nat),t∉sl.map (·.1)→get sl t= .junk
 | [],t,h=>rfl
 | (k,v)::sl,t,h=>by
  simp only[List.map_cons,List.mem_cons,not_or] at h
  simp only[get]
  rw[beq_ne (Ne.symm h.1)]
  exact get_not sl t h.2
theorem get_keepS_keys(sl:List (Nat×AVal))(t:Nat):get (keepS sl (sl.map (·.1))) t=get sl t:=by
 by_cases h:t∈sl.map (·.1)
 ·exact get_keepS_all _ _ _ h
 ·rcases keepS_get (sl.map (·.1)) sl t with e|e
  ·exact e
  ·rw[e,get_not sl t h]
theorem Rel.slots_eq{sl sl':List (Nat×AVal)}{st:Store}{nx:Nat}{a:Act}(h:Rel F n ⟨sl,st,nx⟩ m a w)(e:∀t,get sl' t=get sl t):Rel F n ⟨sl',st,nx⟩ m a w:=
 ⟨fun t=>by rw[e];exact h.slots t,h.size,h.defers,h.srel,h.fresh⟩
theorem runA_sim(hm:P.follows .mixedOrders=true){id:Nat}{ops:Array Oper}{draw:Bool}{orcs:List (Nat×Orc)}{s':St}{C:List Prop}(h:runA P n ops.toList draw orcs s=some (s',C))(hC:All C)(hq:Q .normal s'):
 Sim P n l0 (.region id ops draw) s Q:=by
 unfold runA at h
 split at h
 rotate_left
 ·cases h
 rename_i s2 rs hrun
 obtain⟨h1,h2⟩:=bif_some h
 cases h2
 have hR:runR P n ops.toList draw orcs (s2.sl.map (·.1)) s=some (⟨keepS s2.sl (s2.sl.map (·.1)),s2.st,s.nx+8*ops.toList.length⟩,allC rs):=by
  unfold runR
  rw[hrun]
  simp only[h1,cond_true]
 intro F m0 w0 m a w h0 r1 r2
 cases draw with
 |false=>
  have:=runR_text hR hC r1 (Q:=fun e a' w'=> ∃s' m',Rel F n s' m' a' w'∧FrameExt F (app emp l0) m0 w0 s'.st m' w'∧Q e s') (fun m' a' w' q1 q2=>⟨⟨s2.sl,s2.st,s.nx+8*ops.toList.length⟩,m',q1.slots_eq (fun t=>(get_keepS_keys _ t).symm),r2.trans h0 q2,hq⟩) id
  simpa using this
 |true=>
  have:=runR_draw hm hR hC r1 (Q:=fun e a' w'=> ∃s' m',Rel F n s' m' a' w'∧FrameExt F (app emp l0) m0 w0 s'.st m' w'∧Q e s') (fun m' a' w' q1 q2=>⟨⟨s2.sl,s2.st,s.nx+8*ops.toList.length⟩,m',q1.slots_eq (fun t=>(get_keepS_keys _ t).symm),r2.trans h0 q2,hq⟩) id
  simpa using this
theorem All_app{a b:List Prop}:All (a++b)↔All a∧All b:=All_append
theorem outS_fin{e:Exit}{K:List Fr}(h:outS e K= .fin):K=[]:=by
 cases K with
 |nil=>rfl
 |cons f K=>
  cases f with
  |seq c=>cases e<;>simp[outS] at h
  |blk i=>
   cases e with
   |exit j=>simp only[outS] at h;cases hj:Nat.beq j i<;>rw[hj] at h<;>simp at h
   |_=>simp[outS] at h
  |loop c=>cases e<;>simp[outS] at h
theorem outS_back{e:Exit}{K K':List Fr}{c:Code}(h:outS e K= .back c K')(hA:LoopSim P n l0 c s (wrapK P n l0 K' Q)):wrapK P n l0 K Q e s:=by
 cases K with
 |nil=>simp[outS] at h
 |cons f K=>
  cases f with
  |seq c=>cases e<;>simp[outS] at h
  |blk i=>
   cases e with
   |exit j=>simp only[outS] at h;cases hj:Nat.beq j i<;>rw[hj] at h<;>simp at h
   |_=>simp[outS] at h
  |loop c=>
   cases e with
   |normal=>simp only[outS] at h;cases h;exact hA
   |_=>simp[outS] at h
theorem outS_go{e:Exit}{K K':List Fr}{ctl:Ctl}(h:outS e K= .go ctl K')(hA:CtlG P n l0 Q ctl K' s):wrapK P n l0 K Q e s:=by
 cases K with
 |nil=>simp[outS] at h
 |cons f K=>
  cases f with
  |seq c=>cases e<;>(simp only[outS] at h;cases h;exact hA)
  |blk i=>
   cases e with
   |exit j=>
    simp only[outS] at h
    show inBlk i _ (.exit j) s
    simp only[inBlk]
    cases hj:Nat.beq j i with
    |true=>rw[hj] at h;cases h;rw[if_pos (Nat.eq_of_beq_eq_true hj)];exact hA
    |false=>rw[hj] at h;cases h;rw[if_neg (fun e=>by subst e;simp at hj)];exact hA
   |_=>simp only[outS] at h;cases h;exact hA
  |loop c=>
   cases e with
   |normal=>simp[outS] at h
   |_=>simp only[outS] at h;cases h;exact hA
theorem go_sound(hm:P.follows .mixedOrders=true)(hQ:LeClosed n l0 Q):∀(fuel:Nat) (sc:List It) (ctl:Ctl) (K:List Fr) (s:St) (acc:List Prop) (a:At) (C:List Prop),
 go P n fuel sc ctl K s acc=some (a,C)→All C→AtG P n l0 Q a→All acc∧CtlG P n l0 Q ctl K s:=by
 intro fuel
 induction fuel with
 |zero=>intro sc ctl K s acc a C h;simp[go] at h
 |succ fuel ih=>
  intro sc ctl K s acc a C h hC hA
  unfold go at h
  split at h
  ·cases h
  ·
   rename_i x sc' K' s' acc' hfu
   cases hfu
   split at h
   ·rename_i s2 C2 hle
    obtain⟨q1,q2⟩:=ih _ _ _ _ _ _ _ h hC hA
    rw[All_app] at q1
    exact⟨q1.1,CtlG_le hQ (leR_sound hle q1.2) q2⟩
   ·cases h
  ·
   rename_i fuel2 c hfu _
   cases hfu
   split at h
   ·obtain⟨q1,q2⟩:=ih _ _ _ _ _ _ _ h hC hA;exact⟨q1,Sim.seq q2⟩
   ·obtain⟨q1,q2⟩:=ih _ _ _ _ _ _ _ h hC hA;exact⟨q1,Sim.skip q2⟩
   ·obtain⟨q1,q2⟩:=ih _ _ _ _ _ _ _ h hC hA;exact⟨q1,Sim.ret q2⟩
   ·obtain⟨q1,q2⟩:=ih _ _ _ _ _ _ _ h hC hA;exact⟨q1,Sim.exit q2⟩
   ·obtain⟨q1,q2⟩:=ih _ _ _ _ _ _ _ h hC hA;exact⟨q1,Sim.block q2⟩
   ·split at h
    ·cases h;exact⟨hC,Sim.loop hA⟩
    ·obtain⟨q1,q2⟩:=ih _ _ _ _ _ _ _ h hC hA;exact⟨q1,Sim.loop (LoopSim.step q2)⟩
    ·cases h
   ·split at h
    ·rename_i b hb
     split at h
     ·cases h;exact⟨hC,Sim.cond hb hA.1 hA.2⟩
     ·cases b with
      |true=>obtain⟨q1,q2⟩:=ih _ _ _ _ _ _ _ h hC hA;exact⟨q1,Sim.cond hb (fun _=>q2) (fun e=>by cases e)⟩
      |false=>cases h
     ·cases b with
      |false=>obtain⟨q1,q2⟩:=ih _ _ _ _ _ _ _ h hC hA;exact⟨q1,Sim.cond hb (fun e=>by cases e) (fun _=>q2)⟩
      |true=>cases h
     ·cases h
    ·rename_i hb
     split at h
     ·cases h;exact⟨hC,Sim.condAny hb hA.1 hA.2⟩
     ·cases h
    ·cases h
   ·split at h
    ·cases h;exact⟨hC,hA⟩
    ·split at h
     ·rename_i s2 C2 hr
      obtain⟨q1,q2⟩:=ih _ _ _ _ _ _ _ h hC hA
      rw[All_app] at q1
      exact⟨q1.1,runA_sim hm hr q1.2 q2⟩
     ·cases h
    ·cases h
   ·split at h
    ·cases h;exact⟨hC,hA⟩
    ·cases h
   ·cases h
  ·
   rename_i fuel2 e hfu _
   cases hfu
   split at h
   ·rename_i ho
    split at h
    ·cases h;exact⟨hC,by rw[outS_fin ho];exact hA⟩
    ·cases h
   ·rename_i c K' ho
    split at h
    ·cases h;exact⟨hC,outS_back ho hA⟩
    ·obtain⟨q1,q2⟩:=ih _ _ _ _ _ _ _ h hC hA;exact⟨q1,outS_back ho (LoopSim.step q2)⟩
    ·cases h
   ·rename_i ctl K' ho
    obtain⟨q1,q2⟩:=ih _ _ _ _ _ _ _ h hC hA
    exact⟨q1,outS_go ho q2⟩
end Go.Ab
end
section
set_option linter.unusedVariables false
namespace Go.Ab
open Go
variable {P:Program} {n:Nat} {l0:List (Nat×Ob)} {Q:Exit→St→Prop}
abbrev VI(x:Int):AVal:= .t (.sc (.int .i64 x))
abbrev VB(b:Bool):AVal:= .t (.sc (.bool b))
abbrev VS(s:ByteArray):AVal:= .t (.sc (.string s))
abbrev VN:AVal:= .t (.sc (.slice none 0 0))
abbrev VL{α:Type}(k:Nat)(f:α→Tree)(l:List α):AVal:= .t (.lst k (l.map f))
abbrev TI(x:Int):Tree:= .sc (.int .i64 x)
abbrev TB(b:Bool):Tree:= .sc (.bool b)
abbrev TS(s:ByteArray):Tree:= .sc (.string s)
abbrev TN:Tree:= .sc (.slice none 0 0)
abbrev TL{α:Type}(k:Nat)(f:α→Tree)(l:List α):Tree:= .lst k (l.map f)
abbrev OR{α:Type}(k:Nat)(f:α→Tree)(l:List α):Ob:= .row k false (l.map f)
abbrev OF{α:Type}(k:Nat)(f:α→Tree)(l:List α):Ob:= .row k true (l.map f)
structure SimC(P:Program)(n:Nat)(l0:List (Nat×Ob))(Q:Exit→St→Prop)(c:Cfg):Prop where
 run:P.follows .mixedOrders=true→LeClosed n l0 Q→CtlG P n l0 Q c.ctl c.K c.s
def runP(P:Program)(n:Nat)(sc:List It)(c:Cfg):Option (At×List Prop):=go P n 100000 sc c.ctl c.K c.s []
theorem leC_all:∀(x:LeI),All (leC x)
 | .fr _ p h=>h
 | .eq _ d v h=>⟨h,trivial⟩
 | .er _ xs ys h=>⟨h,trivial⟩
 | .nR _ _=>trivial
 | .nL _ _=>trivial
 | .nB _ _ _=>trivial
 | .fz _=>trivial
 | .kp _=>trivial
 | .eb _ _ _ _ h=>⟨h,trivial⟩
 | .mc _ _ _ h=>h
 | .fR _ _ h=>h
 | .mv _ _ _ h=>⟨h,trivial⟩
 | .mf _=>trivial
 | .mput _ _ _ h=>h
 | .mfz _ _ _ h=>h
 | .me _ _ _ h=>⟨h,trivial⟩
 | .cb _ _ _ _ _ h=>h
 | .pnew=>trivial
 | .pout _ _ _ _ h=>h
 | .pback _ _ _ h=>h
 | .pe _ _ _ h=>⟨h,trivial⟩
theorem apC_all:∀{l t:List Prop},All l→All t→All (apC l t)
 | [],t,_,h=>h
 |p::l,t,hp,h=>⟨hp.1,apC_all hp.2 h⟩
theorem oxC_all:∀(l:List (Nat×Ox)) {t:List Prop},All t→All (oxC l t)
 | [],t,h=>h
 | (_,x)::l,t,h=>apC_all x.h (oxC_all l h)
theorem csL_all:∀(sc:List It),All (csL sc)
 | []=>trivial
 | .r xs::l=>oxC_all xs (csL_all l)
 | .le x::l=>apC_all (leC_all x) (csL_all l)
 | .t::l=>csL_all l
 | .f::l=>csL_all l
 | .u::l=>csL_all l
theorem run_sound{sc:List It}{c:Cfg}{a:At}{C:List Prop}(h:runP P n sc c=some (a,C))(hC:All C)(hA:P.follows .mixedOrders=true→LeClosed n l0 Q→AtG P n l0 Q a):SimC P n l0 Q c:=
 ⟨fun hm hQ=>(go_sound hm hQ _ _ _ _ _ _ _ _ h hC (hA hm hQ)).2⟩
def brQ:Option (At×List Prop)→Option (Bool×List Prop)
 |some (.br b _ _ _ _,C)=>some (b,C)
 |_=>none
def brX(v:Bool):Option (At×List Prop)→Cfg
 |some (.br _ x y K s,_)=>⟨.run (bif v then x else y),K,s⟩
 |_=>default
theorem SimC.br{c:Cfg}(sc:List It)(b:Bool)(ht:b=true→SimC P n l0 Q (brX true (runP P n sc c)))(hf:b=false→SimC P n l0 Q (brX false (runP P n sc c)))
 (h:brQ (runP P n sc c)=some (b,csL sc):=by kernel_rfl):SimC P n l0 Q c:=by
 generalize hr:runP P n sc c=r at*
 match r,h with
 |some (.br b' x y K s,C),h=>
  simp only[brQ,Option.some.injEq,Prod.mk.injEq] at h
  obtain⟨rfl,rfl⟩:=h
  exact run_sound hr (csL_all sc) (fun hm hQ=>⟨fun e=>(ht e).run hm hQ,fun e=>(hf e).run hm hQ⟩)
class BP(b:Bool)(t f:outParam Prop):Prop where
 t:b=true→t
 f:b=false→f
instance (priority:=10) BP.any (b:Bool):BP b (b=true) (b=false):=⟨id,id⟩
instance (priority:=100) BP.dec (p:Prop) [Decidable p]:BP (decide p) p (¬p):=⟨of_decide_eq_true,of_decide_eq_false⟩
instance BP.ilt (a b:Int) [Decidable (a<b)]:BP (decide (a<b)) (a<b) (b≤a):=⟨of_decide_eq_true,fun h=>Int.not_lt.1 (of_decide_eq_false h)⟩
instance BP.ile (a b:Int) [Decidable (a≤b)]:BP (decide (a≤b)) (a≤b) (b<a):=⟨of_decide_eq_true,fun h=>Int.not_le.1 (of_decide_eq_false h)⟩
instance BP.not (b:Bool) {t f:Prop} [h:BP b t f]:BP (!b) f t:=⟨fun e=>h.f (by simpa using e),fun e=>h.t (by simpa using e)⟩
instance BP.and (a b:Bool) {t f t' f':Prop} [h:BP a t f] [k:BP b t' f']:BP (a&&b) (t∧t') (f∨f'):=⟨fun e=>by rw[Bool.and_eq_true] at e;exact⟨h.t e.1,k.t e.2⟩,fun e=>by rw[Bool.and_eq_false_iff] at e;exact e.imp h.f k.f⟩
instance BP.or (a b:Bool) {t f t' f':Prop} [h:BP a t f] [k:BP b t' f']:BP (a||b) (t∨t') (f∧f'):=⟨fun e=>by rw[Bool.or_eq_true] at e;exact e.imp h.t k.t,fun e=>by rw[Bool.or_eq_false_iff] at e;exact⟨h.f e.1,k.f e.2⟩⟩
instance BP.beq {α:Type} [BEq α] [LawfulBEq α] (a b:α):BP (a==b) (a=b) (¬a=b):=⟨fun e=>beq_iff_eq.1 e,fun e=>beq_eq_false_iff_ne.1 e⟩
instance BP.bne {α:Type} [BEq α] [LawfulBEq α] (a b:α):BP (a !=b) (¬a=b) (a=b):=⟨fun e=>bne_iff_ne.1 e,fun e=>bne_eq_false_iff_eq.1 e⟩
theorem SimC.bp{c:Cfg}(sc:List It)(b:Bool){t f:Prop}[hb:BP b t f](ht:t→SimC P n l0 Q (brX true (runP P n sc c)))(hf:f→SimC P n l0 Q (brX false (runP P n sc c)))
 (h:brQ (runP P n sc c)=some (b,csL sc):=by kernel_rfl):SimC P n l0 Q c:=SimC.br sc b (fun e=>ht (hb.t e)) (fun e=>hf (hb.f e)) h
def mdQ:Option (At×List Prop)→Option (List Prop)
 |some (.mid _ _ _,C)=>some C
 |_=>none
def mdX:Option (At×List Prop)→Cfg
 |some (.mid c K s,_)=>⟨.run c,K,s⟩
 |_=>default
theorem SimC.mid{c:Cfg}(sc:List It)(k:SimC P n l0 Q (mdX (runP P n sc c)))(h:mdQ (runP P n sc c)=some (csL sc):=by kernel_rfl):SimC P n l0 Q c:=by
 generalize hr:runP P n sc c=r at*
 match r,h with
 |some (.mid x K s,C),h=>
  simp only[mdQ,Option.some.injEq] at h
  subst h
  exact run_sound hr (csL_all sc) (fun hm hQ=>k.run hm hQ)
def mkSt(p:List (Nat×AVal)×List (Nat×Ob))(nx:Nat):St:=⟨p.1,app emp p.2,nx⟩
def idT:List (Nat×Ob)→List (Nat×Nat)
 | []=>[]
 | (i,_)::l=>(i,i)::idT l
def keysT:List (Nat×AVal)→List Nat
 | []=>[]
 | (i,_)::l=>i::keysT l
def lpQ(l0:List (Nat×Ob))(nx:Nat)(p:List (Nat×AVal)×List (Nat×Ob)):Option (At×List Prop)→Option ((List (Nat×AVal)×List (Nat×Ob))×List Prop)
 |some (.loop _ _ s,C)=>match renSt l0 (idT p.2) (keysT p.1) nx s with
  |some p=>some (p,C)
  |none=>none
 |_=>none
def lpC:Option (At×List Prop)→Code
 |some (.loop c _ _,_)=>c
 |_=>default
def lpK:Option (At×List Prop)→List Fr
 |some (.loop _ K _,_)=>K
 |_=>[]
theorem SimC.loop{c:Cfg}{α:Type}(sc:List It)(nx:Nat)(S:α→List (Nat×AVal)×List (Nat×Ob))(I:α→Prop)(μ:α→Nat)(a:α)(ha:I a)
 (round:∀a,I a→(∀b,I b→μ b<μ a→LoopSim P n l0 (lpC (runP P n sc c)) (mkSt (S b) nx) (wrapK P n l0 (lpK (runP P n sc c)) Q))→
  SimC P n l0 Q ⟨.run (lpC (runP P n sc c)),.loop (lpC (runP P n sc c))::lpK (runP P n sc c),mkSt (S a) nx⟩)
 (h:lpQ l0 nx (S a) (runP P n sc c)=some (S a,csL sc):=by kernel_rfl):SimC P n l0 Q c:=by
 generalize hr:runP P n sc c=r at*
 match r,h with
 |some (.loop x K s,C),h=>
  simp only[lpQ] at h
  split at h
  ·rename_i p hp
   simp only[Option.some.injEq,Prod.mk.injEq] at h
   obtain⟨rfl,rfl⟩:=h
   refine run_sound hr (csL_all sc) (fun hm hQ=> ?_)
   have hle:Le n l0 s (mkSt (S a) nx):=Le.ren hp
   refine LoopSim.weaken hle ?_
   exact loop_ind (fun a=>mkSt (S a) nx) I μ (fun a hI ih=>LoopSim.step ((round a hI ih).run hm hQ)) a ha
  ·cases h
def bkQ(l0:List (Nat×Ob))(τ:List (Nat×Nat))(nx:Nat)(p:List (Nat×AVal)×List (Nat×Ob)):Option (At×List Prop)→Option ((List (Nat×AVal)×List (Nat×Ob))×List Prop)
 |some (.back _ _ s,C)=>match renSt l0 τ (keysT p.1) nx s with
  |some p=>some (p,C)
  |none=>none
 |_=>none
def bkC:Option (At×List Prop)→Option (Code×List Fr)
 |some (.back c K _,_)=>some (c,K)
 |_=>none
theorem SimC.back{c:Cfg}(sc:List It)(τ:List (Nat×Nat)){p:List (Nat×AVal)×List (Nat×Ob)}{nx:Nat}{body:Code}{K:List Fr}(ih:LoopSim P n l0 body (mkSt p nx) (wrapK P n l0 K Q))
 (h:bkQ l0 τ nx p (runP P n sc c)=some (p,csL sc):=by kernel_rfl) (hc:bkC (runP P n sc c)=some (body,K):=by kernel_rfl):SimC P n l0 Q c:=by
 generalize hr:runP P n sc c=r at*
 match r,h,hc with
 |some (.back x K' s,C),h,hc=>
  simp only[bkC,Option.some.injEq,Prod.mk.injEq] at hc
  obtain⟨rfl,rfl⟩:=hc
  simp only[bkQ] at h
  split at h
  ·rename_i p' hp
   simp only[Option.some.injEq,Prod.mk.injEq] at h
   obtain⟨rfl,rfl⟩:=h
   exact run_sound hr (csL_all sc) (fun hm hQ=>LoopSim.weaken (Le.ren hp) ih)
  ·cases h
abbrev FinX:=FinM
theorem FinX_le{rv:List ResultVar}{res:AVal}{l1:List (Nat×Ob)}:LeClosed n l0 (FinX P n l0 rv res l1):=fun _ _ _ h k=>FinM.le h k
def resX(P:Program)(rv:List ResultVar)(sl:List (Nat×AVal))(l:List (Nat×Ob)):Option AVal:=resM P rv sl (app emp l)
def rvKeys:List ResultVar→List Nat
 | []=>[]
 | .tmp t::l=>t::rvKeys l
 | .cell t _::l=>t::rvKeys l
def nxOf:List (Nat×Ob)→Nat
 | []=>0
 | (i,_)::l=>bif Nat.blt i (nxOf l) then nxOf l else i+1
def nxT:List (Nat×Nat)→Nat
 | []=>0
 | (_,i)::l=>bif Nat.blt i (nxT l) then nxT l else i+1
def isEnd:Exit→Bool
 | .ret=>true
 | .normal=>true
 |_=>false
def fnQ(P:Program)(l0:List (Nat×Ob))(τ:List (Nat×Nat))(rv:List ResultVar):Option (At×List Prop)→Option (AVal×List (Nat×Ob)×List Prop)
 |some (.fin e s,C)=>bif isEnd e then match renSt l0 τ (rvKeys rv) (nxT τ) s with
  |some (sl,l)=>match resX P rv sl l with
   |some r=>some (r,l,C)
   |none=>none
  |none=>none
  else none
 |_=>none
theorem isEnd_or{e:Exit}(h:isEnd e=true):e= .ret∨e= .normal:=by cases e<;>simp[isEnd] at h⊢
theorem SimC.finE{c:Cfg}{rv:List ResultVar}{res:AVal}{l1:List (Nat×Ob)}{β:Type}(sc:List It)(τ:List (Nat×Nat))(R:β→AVal×List (Nat×Ob))(x y:β)(e:y=x)
 (h:fnQ P l0 τ rv (runP P n sc c)=some ((R x).1,(R x).2,csL sc):=by kernel_rfl) (hR:R y=(res,l1):=by kernel_rfl):SimC P n l0 (FinX P n l0 rv res l1) c:=by
 subst e
 rw[hR] at h
 generalize hr:runP P n sc c=r at*
 match r,h with
 |some (.fin e s,C),h=>
  simp only[fnQ] at h
  cases he:isEnd e with
  |false=>rw[he] at h;cases h
  |true=>
   rw[he] at h
   simp only[cond_true] at h
   split at h
   ·rename_i sl l hs
    split at h
    ·rename_i r hres
     simp only[Option.some.injEq,Prod.mk.injEq] at h
     obtain⟨rfl,rfl,rfl⟩:=h
     exact run_sound hr (csL_all sc) (fun hm hQ=>FinM.here (isEnd_or he) (Le.ren hs) rfl hres)
    ·cases h
   ·cases h
theorem SimC.fin{c:Cfg}{rv:List ResultVar}{res:AVal}{l1:List (Nat×Ob)}(sc:List It)(τ:List (Nat×Nat))(h:fnQ P l0 τ rv (runP P n sc c)=some (res,l1,csL sc):=by kernel_rfl):SimC P n l0 (FinX P n l0 rv res l1) c:=
 SimC.finE sc τ (fun z=>z) (res,l1) (res,l1) rfl h rfl
def leS(s:St):List LeI→Option (St×List Prop)
 | []=>some (s,[])
 |x::l=>match leR s x with
  |some (s',C)=>match leS s' l with
   |some (s2,C2)=>some (s2,apC C C2)
   |none=>none
  |none=>none
def leCs:List LeI→List Prop
 | []=>[]
 |x::l=>apC (leC x) (leCs l)
theorem leCs_all:∀l:List LeI,All (leCs l)
 | []=>trivial
 |x::l=>apC_all (leC_all x) (leCs_all l)
theorem apC_inv:∀{l t:List Prop},All (apC l t)→All l∧All t
 | [],_,h=>⟨trivial,h⟩
 |_::_,_,h=>⟨⟨h.1,(apC_inv h.2).1⟩,(apC_inv h.2).2⟩
theorem leS_sound:∀{l:List LeI} {s s':St} {C:List Prop},leS s l=some (s',C)→All C→Le n l0 s s'
 | [],s,s',C,h,_=>by
  simp only[leS,Option.some.injEq,Prod.mk.injEq] at h
  obtain⟨rfl,rfl⟩:=h
  exact Le.refl _
 |x::l,s,s',C,h,hC=>by
  simp only[leS] at h
  split at h
  ·rename_i s1 C1 h1
   split at h
   ·rename_i s2 C2 h2
    simp only[Option.some.injEq,Prod.mk.injEq] at h
    obtain⟨rfl,rfl⟩:=h
    obtain⟨q1,q2⟩:=apC_inv hC
    exact Le.trans (leR_sound h1 q1) (leS_sound h2 q2)
   ·cases h
  ·cases h
def fvQ(P:Program)(l0:List (Nat×Ob))(les:List LeI)(τ:List (Nat×Nat))(rv:List ResultVar):Option (At×List Prop)→Option (AVal×List (Nat×Ob)×List Prop×List Prop)
 |some (.fin e s,C)=>bif isEnd e then match resM P rv s.sl s.st with
  |some r0=>match leS ⟨[(0,r0)],s.st,s.nx⟩ les with
   |some (s2,D)=>match renSt l0 τ [0] (nxT τ) s2 with
    |some (sl,l)=>some (get sl 0,l,C,D)
    |none=>none
   |none=>none
  |none=>none
  else none
 |_=>none
theorem SimC.finVE{c:Cfg}{rv:List ResultVar}{res:AVal}{l1:List (Nat×Ob)}{β:Type}(sc:List It)(les:List LeI)(τ:List (Nat×Nat))(R:β→AVal×List (Nat×Ob))(x y:β)(e:y=x)
 (h:fvQ P l0 les τ rv (runP P n sc c)=some ((R x).1,(R x).2,csL sc,leCs les):=by kernel_rfl) (hR:R y=(res,l1):=by kernel_rfl):SimC P n l0 (FinX P n l0 rv res l1) c:=by
 subst e
 rw[hR] at h
 generalize hr:runP P n sc c=r at*
 match r,h with
 |some (.fin e s,C),h=>
  simp only[fvQ] at h
  cases he:isEnd e with
  |false=>rw[he] at h;cases h
  |true=>
   rw[he] at h
   simp only[cond_true] at h
   split at h
   ·rename_i r0 hr0
    split at h
    ·rename_i s2 D hD
     split at h
     ·rename_i sl l hs
      simp only[Option.some.injEq,Prod.mk.injEq] at h
      obtain⟨rfl,rfl,rfl,rfl⟩:=h
      exact run_sound hr (csL_all sc) (fun hm hQ=>⟨isEnd_or he,s,r0,⟨sl,app emp l,nxT τ⟩,Le.refl _,hr0,Le.trans (leS_sound hD (leCs_all les)) (Le.ren hs),rfl,rfl⟩)
     ·cases h
    ·cases h
   ·cases h
theorem SimC.finV{c:Cfg}{rv:List ResultVar}{res:AVal}{l1:List (Nat×Ob)}(sc:List It)(les:List LeI)(τ:List (Nat×Nat))(h:fvQ P l0 les τ rv (runP P n sc c)=some (res,l1,csL sc,leCs les):=by kernel_rfl):SimC P n l0 (FinX P n l0 rv res l1) c:=
 SimC.finVE sc les τ (fun z=>z) (res,l1) (res,l1) rfl h rfl
theorem SimC.at{c:Cfg}(nx:Nat)(τ:List (Nat×Nat))(p:List (Nat×AVal)×List (Nat×Ob))(k:SimC P n l0 Q ⟨c.ctl,c.K,mkSt p nx⟩)(h:renSt l0 τ (keysT p.1) nx c.s=some p:=by kernel_rfl):SimC P n l0 Q c:=
 ⟨fun hm hQ=>CtlG_le hQ (Le.ren h) (k.run hm hQ)⟩
theorem SimC.len{x:Code}{K:List Fr}{s:St}{α:Type}(t:Nat){k:Nat}{f:α→Tree}{l:List α}(h:l.length≤9223372036854775807→SimC P n l0 Q ⟨.run x,K,s⟩)(hg:get s.sl t=VL k f l:=by rfl):SimC P n l0 Q ⟨.run x,K,s⟩:=
 ⟨fun hm hQ=>Sim.len (t:=t) (k:=k) (xs:=l.map f) hg (fun hl=>(h (by simpa using hl)).run hm hQ)⟩
def bodyOf(fn:Func):Code:=fn.body.getD default
theorem nxOf_all:∀l:List (Nat×Ob),l.all (fun x=>Nat.blt x.1 (nxOf l))=true:=by
 have key:∀l:List (Nat×Ob),∀x∈l,x.1<nxOf l:=by
  intro l
  induction l with
  |nil=>intro x h;simp at h
  |cons y l ih=>
   intro x hx
   obtain⟨i,o⟩:=y
   simp only[nxOf]
   cases hh:Nat.blt i (nxOf l) with
   |true=>
    have:=Nat.lt_of_succ_le (Nat.le_of_ble_eq_true hh)
    rcases List.mem_cons.1 hx with rfl|hx
    ·exact this
    ·exact ih x hx
   |false=>
    rcases List.mem_cons.1 hx with rfl|hx
    ·exact Nat.lt_succ_self _
    ·have h1:=ih x hx
     have h2:¬(i<nxOf l):=fun h=>by rw[show Nat.blt i (nxOf l)=true from Nat.ble_eq_true_of_le h] at hh;cases hh
     simp only[cond_false]
     omega
 intro l
 exact List.all_eq_true.2 fun x hx=>Nat.ble_eq_true_of_le (key l x hx)
theorem FC.go{f:FuncId}{args:List AVal}{res:AVal}{l1:List (Nat×Ob)}(fn:Func)(h:SimC P fn.ntmps l0 (FinX P fn.ntmps l0 fn.results.toList res l1) ⟨.run (bodyOf fn),[],⟨argSlots 0 args,app emp l0,nxOf l0⟩⟩)
 (hf:P.funcs[f]? =some fn:=by kernel_rfl) (hn:((args.length).ble fn.ntmps&&fn.body.isSome)=true:=by kernel_rfl) (hm:P.follows .mixedOrders=true:=by kernel_rfl):FC P f args (app emp l0) res (app emp l1):=by
 simp only[Bool.and_eq_true] at hn
 obtain⟨c,hb⟩:=Option.isSome_iff_exists.1 hn.2
 have hc:bodyOf fn=c:=by unfold bodyOf;rw[hb];rfl
 have h:=h.run hm FinX_le
 simp only[CtlG,wrapK,hc] at h
 exact FC.of_simM hf hb hn.1 (nxOf_all l0) h
def FinZ(P:Program)(n:Nat)(l0:List (Nat×Ob))(rv:List ResultVar){Z:Type}(R:Z→Prop)(res:Z→AVal)(l1:Z→List (Nat×Ob))(e:Exit)(s:St):Prop:=∃z,R z∧FinX P n l0 rv (res z) (l1 z) e s
theorem FinZ_le{rv:List ResultVar}{Z:Type}{R:Z→Prop}{res:Z→AVal}{l1:Z→List (Nat×Ob)}:LeClosed n l0 (FinZ P n l0 rv R res l1):=fun _ _ _ h ⟨z,hz,k⟩=>⟨z,hz,FinM.le h k⟩
theorem FCX.go{Z:Type}{f:FuncId}{args:List AVal}{R:Z→Prop}{res:Z→AVal}{l1:Z→List (Nat×Ob)}(fn:Func)(h:SimC P fn.ntmps l0 (FinZ P fn.ntmps l0 fn.results.toList R res l1) ⟨.run (bodyOf fn),[],⟨argSlots 0 args,app emp l0,nxOf l0⟩⟩)
 (hf:P.funcs[f]? =some fn:=by kernel_rfl) (hn:((args.length).ble fn.ntmps&&fn.body.isSome)=true:=by kernel_rfl) (hm:P.follows .mixedOrders=true:=by kernel_rfl):FCX P f args (app emp l0) R res (fun z=>app emp (l1 z)):=by
 simp only[Bool.and_eq_true] at hn
 obtain⟨c,hb⟩:=Option.isSome_iff_exists.1 hn.2
 have hc:bodyOf fn=c:=by unfold bodyOf;rw[hb];rfl
 have h:=h.run hm FinZ_le
 simp only[CtlG,wrapK,hc] at h
 exact FCX.of_simM hf hb hn.1 (nxOf_all l0) h
theorem LoopSim.mono{c:Code}{s:St}{Q':Exit→St→Prop}(h:LoopSim P n l0 c s Q)(hq:∀e s,Q e s→Q' e s):LoopSim P n l0 c s Q':=fun F m0 w0 m a w h0 h1 h2 b k cs hro=>by
 obtain⟨e,a',w',⟨s',m',q1,q2,q3⟩,harr⟩:=h F m0 w0 m a w h0 h1 h2 b k cs hro
 exact⟨e,a',w',⟨s',m',q1,q2,hq e s' q3⟩,harr⟩
theorem wrapK_mono{Q':Exit→St→Prop}(hq:∀e s,Q e s→Q' e s):∀(K:List Fr) (e:Exit) (s:St),wrapK P n l0 K Q e s→wrapK P n l0 K Q' e s
 | [],e,s,h=>hq e s h
 | .seq c::K,e,s,h=>by
  cases e with
  |normal=>exact Sim.mono h (wrapK_mono hq K)
  |_=>exact wrapK_mono hq K _ s h
 | .blk i::K,e,s,h=>by
  cases e with
  |exit j=>
   simp only[wrapK,inBlk] at h⊢
   split
   ·rename_i q;rw[if_pos q] at h;exact wrapK_mono hq K _ s h
   ·rename_i q;rw[if_neg q] at h;exact wrapK_mono hq K _ s h
  |_=>exact wrapK_mono hq K _ s h
 | .loop c::K,e,s,h=>by
  cases e with
  |normal=>exact LoopSim.mono h (wrapK_mono hq K)
  |_=>exact wrapK_mono hq K _ s h
theorem CtlG_mono{Q':Exit→St→Prop}(hq:∀e s,Q e s→Q' e s){ctl:Ctl}{K:List Fr}{s:St}(h:CtlG P n l0 Q ctl K s):CtlG P n l0 Q' ctl K s:=by
 cases ctl with
 |run c=>exact Sim.mono h (wrapK_mono hq K)
 |out e=>exact wrapK_mono hq K e s h
theorem SimC.pick{c:Cfg}{rv:List ResultVar}{Z:Type}{R:Z→Prop}{res:Z→AVal}{l1:Z→List (Nat×Ob)}(z:Z)(hz:R z)(k:SimC P n l0 (FinX P n l0 rv (res z) (l1 z)) c):SimC P n l0 (FinZ P n l0 rv R res l1) c:=
 ⟨fun hm hQ=>CtlG_mono (fun e s h=>⟨z,hz,h⟩) (k.run hm FinX_le)⟩
end Go.Ab
end
section
set_option linter.unusedVariables false
namespace Go.Ab
open Go
variable {P:Program}
structure Px(p:Prop) where
 o:Orc
 cs:List Prop
 h:p→All cs
def gdC(e:Bool):List Prop→List Prop
 | []=>[]
 |p::l=>(e=true→p)::gdC e l
theorem gdC_all{e:Bool}:∀{l:List Prop},(e=true→All l)→All (gdC e l)
 | [],_=>trivial
 |p::l,h=>⟨fun he=>(h he).1,gdC_all fun he=>(h he).2⟩
def X{p:Prop}(x:Px p)(h:p:=by first|with_reducible exact True.intro|omega| (and_intros<;>first|omega|with_reducible rfl|with_reducible assumption|with_reducible exact True.intro| (simp only[List.length_map];omega)| (simp[-List.getD_eq_getElem?_getD];omega)| (simp;omega)| (simp;done))):Ox:=⟨x.o,x.cs,x.h h⟩
def oV(v:AVal):Orc:=⟨some v,none,none,none,[]⟩
def oE(x:Tree):Orc:=⟨none,none,some x,none,[]⟩
def Xc(p:Prop):Px p:=⟨Orc.no,[p],fun h=>⟨h,trivial⟩⟩
def X0:Px True:=⟨Orc.no,[],fun _=>trivial⟩
def Xa{p q:Prop}(x:Px p)(y:Px q):Px (p∧q):=⟨y.o,x.cs++y.cs,fun h=>All_app.2 ⟨x.h h.1,y.h h.2⟩⟩
def Xn(a:Int):Px (-9223372036854775808≤a∧a≤9223372036854775807):=⟨oV (VI a),[Weak (VI (IntKind.i64.wrap a)) (VI a)],fun h=>⟨Weak.of_eq (nw h),trivial⟩⟩
def Xquo(a b:Int):Px (0≤a∧0<b∧a≤9223372036854775807):=⟨oV (VI (a/b)),[b≠0,Weak (VI (IntKind.i64.wrap (a.tdiv b))) (VI (a/b))],fun h=>⟨by omega,Weak.of_eq (quo_nn h),trivial⟩⟩
def Xrem(a b:Int):Px (0≤a∧0<b):=⟨oV (VI (a%b)),[b≠0,Weak (VI (a.tmod b)) (VI (a%b))],fun h=>⟨by omega,Weak.of_eq (rem_nn h.1),trivial⟩⟩
def Xmin(a b:Int):Px True:=⟨oV (VI (min a b)),[Weak (VI (if b<a then b else a)) (VI (min a b))],fun _=>⟨Weak.of_eq min_if,trivial⟩⟩
def Xl{α:Type}(f:α→Tree)(l:List α):Px True:=⟨oV (VI (l.length:Int)),[Weak (VI ((l.map f).length:Int)) (VI (l.length:Int))],fun _=>⟨Weak.of_eq len_map,trivial⟩⟩
def Xi{α:Type}[Inhabited α](f:α→Tree)(l:List α)(j:Int):Px (0≤j∧j< (l.length:Int)):=
 ⟨oE (f (l.getD j.toNat default)),[0≤j,(l.map f)[j.toNat]? =some (f (l.getD j.toNat default))],fun h=>⟨h.1,elt_map h.1 h.2,trivial⟩⟩
def Xi'{α:Type}[Inhabited α](f:α→Tree)(l:List α)(j:Int)(k:Nat):Px (j=(k:Int)∧k<l.length):=
 ⟨oE (f (l.getD k default)),[0≤j,(l.map f)[j.toNat]? =some (f (l.getD k default))],fun h=>⟨by omega,elt_map' h.1 h.2,trivial⟩⟩
def Xp{α:Type}(f:α→Tree)(o:List α)(j:Int):Px (0≤j∧j< (o.length:Int)):=
 ⟨Orc.no,[o.length=(o.map f).length,0≤j,j< (o.length:Int)],fun h=>⟨List.length_map _|>.symm,h.1,h.2,trivial⟩⟩
def Xp'{α:Type}(f:α→Tree)(id:Nat)(o:List α)(j:Int)(k:Nat):Px (j=(k:Int)∧k<o.length):=
 ⟨oV (.eptr id o.length k 0),[o.length=(o.map f).length,0≤j,j< (o.length:Int),Weak (.eptr id o.length j.toNat 0) (.eptr id o.length k 0)],
  fun h=>⟨List.length_map _|>.symm,by omega,by omega,Weak.of_eq (eptr_eq (by omega)),trivial⟩⟩
def Xe{α:Type}[Inhabited α](f:α→Tree)(o:List α)(i:Nat):Px (i<o.length):=
 ⟨oE (f (o.getD i default)),[o.length=(o.map f).length,(o.map f)[i]? =some (f (o.getD i default))],fun h=>⟨List.length_map _|>.symm,elt_nat h,trivial⟩⟩
def Xs{α:Type}[Inhabited α](k:Nat)(f:α→Tree)(id:Nat)(o:List α)(i:Nat)(x:α)(g:List (Nat×Ob):=[]):Px (i<o.length):=
 ⟨⟨none,some (g++[(id,.row k false ((o.set i x).map f))]),some (f (o.getD i default)),none,[]⟩,
  [o.length=(o.map f).length,(o.map f)[i]? =some (f (o.getD i default)),g++[(id,Ob.row k false ((o.set i x).map f))]=g++[(id,Ob.row k false ((o.map f).set i (f x)))]],
  fun h=>⟨List.length_map _|>.symm,elt_nat h,by rw[row_set rfl],trivial⟩⟩
def Xst{α:Type}(f:α→Tree)(k:Nat)(l:List α)(hi:Int):Px (0≤hi∧hi≤(l.length:Int)):=
 ⟨oV (VL k f (l.take hi.toNat)),[0≤hi,hi≤(((l.map f).length:Nat):Int),Weak (.t (.lst k ((l.map f).take hi.toNat))) (VL k f (l.take hi.toNat))],fun h=>⟨h.1,by rw[List.length_map];exact h.2,Weak.of_eq sl_take,trivial⟩⟩
def Xsd{α:Type}(f:α→Tree)(k:Nat)(l:List α)(lo:Int):Px (0≤lo∧lo≤(l.length:Int)):=
 ⟨oV (VL k f (l.drop lo.toNat)),[0≤lo,lo≤(((l.map f).length:Nat):Int),Weak (.t (.lst k ((l.map f).drop lo.toNat))) (VL k f (l.drop lo.toNat))],fun h=>⟨h.1,by rw[List.length_map];exact h.2,Weak.of_eq sl_drop,trivial⟩⟩
def rowC{p:Prop}{α:Type}(f:α→Tree)(o:List α)(x:Px p):Px p:=⟨x.o,(o.length=(o.map f).length)::x.cs,fun h=>⟨List.length_map _|>.symm,x.h h⟩⟩
theorem lm{α:Type}{n:Nat}{f:α→Tree}{o:List α}(h:n=o.length:=by first|with_reducible rfl|omega| (simp;done)| (simp[-List.getD_eq_getElem?_getD];omega)| (simp;omega)):n=(o.map f).length:=by rw[List.length_map];exact h
def rowX{p:Prop}{α:Type}(n:Nat)(f:α→Tree)(o:List α)(x:Px p)(h:n=o.length:=by first|omega| (simp;done)| (simp[-List.getD_eq_getElem?_getD];omega)| (simp;omega)):Px p:=⟨x.o,(n=(o.map f).length)::x.cs,fun hp=>⟨by rw[List.length_map];exact h,x.h hp⟩⟩
def Xen{α:Type}[Inhabited α](n:Nat)(f:α→Tree)(o:List α)(i:Nat):Px (n=o.length∧i<o.length):=
 ⟨oE (f (o.getD i default)),[n=(o.map f).length,(o.map f)[i]? =some (f (o.getD i default))],fun h=>⟨by rw[List.length_map];exact h.1,elt_nat h.2,trivial⟩⟩
def Xpn{α:Type}(n:Nat)(f:α→Tree)(o:List α)(j:Int):Px (n=o.length∧0≤j∧j< (n:Int)):=
 ⟨Orc.no,[n=(o.map f).length,0≤j,j< (n:Int)],fun h=>⟨by rw[List.length_map];exact h.1,h.2.1,h.2.2,trivial⟩⟩
def Xsn{α:Type}[Inhabited α](n k:Nat)(f:α→Tree)(id:Nat)(o:List α)(i:Nat)(x:α)(g:List (Nat×Ob):=[]):Px (n=o.length∧i<o.length):=
 ⟨⟨none,some (g++[(id,.row k false ((o.set i x).map f))]),some (f (o.getD i default)),none,[]⟩,
  [n=(o.map f).length,(o.map f)[i]? =some (f (o.getD i default)),g++[(id,Ob.row k false ((o.set i x).map f))]=g++[(id,Ob.row k false ((o.map f).set i (f x)))]],
  fun h=>⟨by rw[List.length_map];exact h.1,elt_nat h.2,by rw[row_set rfl],trivial⟩⟩
def Xb(s:ByteArray)(j:Int):Px (0≤j∧j< (s.size:Int)):=⟨Orc.no,[0≤j,j< (s.size:Int)],fun h=>⟨h.1,h.2,trivial⟩⟩
def Xan{α:Type}(f:α→Tree)(id:Nat)(ys:List α):Px (ys.length≤1099511627776):=
 ⟨oV (.row id ys.length),[(ys.map f).length≤1099511627776,Weak (.row id (ys.map f).length) (.row id ys.length)],fun h=>⟨by rw[List.length_map];exact h,Weak.of_eq (by rw[List.length_map]),trivial⟩⟩
def XanB{α:Type}(f:α→Tree)(id:Nat)(ys:List α):Px (ys.length≤8589934592):=
 ⟨oV (.row id ys.length),[(ys.map f).length≤8589934592,Weak (.row id (ys.map f).length) (.row id ys.length)],fun h=>⟨by rw[List.length_map];exact h,Weak.of_eq (by rw[List.length_map]),trivial⟩⟩
def Xap{α:Type}(k:Nat)(f:α→Tree)(id:Nat)(o ys:List α):Px (o.length+ys.length≤1099511627776):=
 ⟨⟨some (.row id (o++ys).length),some [(id,.row k false ((o++ys).map f))],none,none,[]⟩,
  [o.length=(o.map f).length,o.length+(ys.map f).length≤1099511627776,Weak (.row id (o.length+(ys.map f).length)) (.row id (o++ys).length),[(id,Ob.row k false ((o++ys).map f))]=[(id,Ob.row k false (o.map f++ys.map f))]],
  fun h=>⟨List.length_map _|>.symm,by rw[List.length_map];exact h,Weak.of_eq (by simp),row_append rfl,trivial⟩⟩
def XapB{α:Type}(k:Nat)(f:α→Tree)(id:Nat)(o ys:List α):Px (o.length+ys.length≤8589934592):=
 ⟨⟨some (.row id (o++ys).length),some [(id,.row k false ((o++ys).map f))],none,none,[]⟩,
  [o.length=(o.map f).length,o.length+(ys.map f).length≤8589934592,Weak (.row id (o.length+(ys.map f).length)) (.row id (o++ys).length),[(id,Ob.row k false ((o++ys).map f))]=[(id,Ob.row k false (o.map f++ys.map f))]],
  fun h=>⟨List.length_map _|>.symm,by rw[List.length_map];exact h,Weak.of_eq (by simp),row_append rfl,trivial⟩⟩
def Xmk{α:Type}(k:Nat)(f:α→Tree)(id:Nat)(n m:Int)(z:α):Px (0≤n∧n≤m∧m≤1099511627776):=
 ⟨⟨none,some [(id,.row k false ((List.replicate n.toNat z).map f))],none,none,[]⟩,[0≤n,n≤m,m≤1099511627776,[(id,Ob.row k false ((List.replicate n.toNat z).map f))]=[(id,Ob.row k false (List.replicate n.toNat (f z)))]],
  fun h=>⟨h.1,h.2.1,h.2.2,by rw[List.map_replicate],trivial⟩⟩
def Xmz{α:Type}(k:Nat)(f:α→Tree)(id:Nat)(n m:Int)(z:α)(zs:List Tree)(hz:TWs zs (f z).cells):Px (0≤n∧n≤m∧m≤1099511627776):=
 ⟨⟨none,some [(id,.row k false ((List.replicate n.toNat z).map f))],some (f z),none,[]⟩,[0≤n,n≤m,m≤1099511627776,TWs zs (f z).cells,[(id,Ob.row k false ((List.replicate n.toNat z).map f))]=[(id,Ob.row k false (List.replicate n.toNat (f z)))]],
  fun h=>⟨h.1,h.2.1,h.2.2,hz,by rw[List.map_replicate],trivial⟩⟩
def XmzB{α:Type}(k:Nat)(f:α→Tree)(id:Nat)(n m:Int)(z:α)(zs:List Tree)(hz:TWs zs (f z).cells):Px (0≤n∧n≤m∧m≤8589934592):=
 ⟨⟨none,some [(id,.row k false ((List.replicate n.toNat z).map f))],some (f z),none,[]⟩,[0≤n,n≤m,m≤8589934592,TWs zs (f z).cells,[(id,Ob.row k false ((List.replicate n.toNat z).map f))]=[(id,Ob.row k false (List.replicate n.toNat (f z)))]],
  fun h=>⟨h.1,h.2.1,h.2.2,hz,by rw[List.map_replicate],trivial⟩⟩
def Xf(l:List (Nat×Nat)):Px True:=⟨⟨none,none,none,none,l⟩,[],fun _=>trivial⟩
def Xw'(d v:AVal):Px (Weak d v):=⟨oV v,[Weak d v],fun h=>⟨h,trivial⟩⟩
def Xtl{α:Type}(f:α→Tree)(n:Nat)(o:List α)(l:Int):Px (n=o.length∧0≤l∧l≤(n:Int)):=
 ⟨⟨none,none,none,none,[(0,0)]⟩,[n=(o.map f).length,0≤l,l≤(n:Int)],fun h=>⟨by rw[List.length_map];exact h.1,h.2.1,h.2.2,trivial⟩⟩
def rpC(e:Bool):Nat→List Prop→List Prop
 |0,l=>l
 |k+1,l=>(e=true)::rpC e k l
theorem rpC_all{e:Bool}(he:e=true){l:List Prop}(h:All l):∀k,All (rpC e k l)
 |0=>h
 |k+1=>⟨he,rpC_all he h k⟩
def Xv{p:Prop}(k:Nat)(e:Bool)(x:Px p)(h:e=true→p:=by first| (intro _;with_reducible exact True.intro)| (intro hg;(try simp[-List.getD_eq_getElem?_getD] at hg);first|omega| (and_intros<;>first|omega|with_reducible rfl|with_reducible assumption|with_reducible exact True.intro| (simp only[List.length_map];omega)| (simp[-List.getD_eq_getElem?_getD];omega)| (simp;omega)| (simp[hg];done)))):Ox:=
 ⟨x.o,gdC e (rpC e k x.cs),gdC_all fun he=>rpC_all he (x.h (h he)) k⟩
def Xk(g:Bool):Px True:=⟨Orc.no,[g=true→g=true],fun _=>⟨id,trivial⟩⟩
def Xk'(g:Bool):Px True:=⟨Orc.no,[g=false→(!g)=true],fun _=>⟨fun h=>by simp[h],trivial⟩⟩
def Xka(e g:Bool):Ox:=⟨Orc.no,[e=true→e=true,e=true→g=true→(e&&g)=true],⟨id,fun h k=>by rw[h,k];rfl,trivial⟩⟩
def Xko(e g:Bool):Ox:=⟨Orc.no,[e=true→e=true,e=true→g=false→(e&& !g)=true],⟨id,fun h k=>by rw[h,k];rfl,trivial⟩⟩
theorem FC.nil{f:FuncId}{args:List AVal}{res:AVal}{st st':Store}(i k:Nat)(h:FC P f args st res st')(hi:args[i]? =some (.t (.lst k [])):=by kernel_rfl)(hk:Nat.blt 0 k=true:=by kernel_rfl):FC P f (args.set i VN) st res st':=by
 intro F m w us hS hl hv
 refine h F m w us hS (by simpa using hl) (fun j v u hj hu=> ?_)
 by_cases e:i=j
 ·subst e
  rw[hi] at hj
  cases hj
  have hlt:=(List.getElem?_eq_some_iff.1 hi).1
  have:=hv i VN u (by simp[hlt]) hu
  exact nil_lst (Nat.lt_of_succ_le (Nat.le_of_ble_eq_true hk)) _ _ _ _ _ this
 ·exact hv j v u (by rw[List.getElem?_set_ne e];exact hj) hu
def Xc0{p:Prop}{f:FuncId}{args:List AVal}{res:AVal}(h:FC P f args emp res emp)(x:Px p)(hc:callable P f=true:=by kernel_rfl):Px p:=
 ⟨⟨none,none,none,some ⟨0,[],res,[]⟩,[]⟩,(callable P f=true)::(x.cs++[FC P f args emp res emp]),fun hp=>⟨hc,All_app.2 ⟨x.h hp,h,trivial⟩⟩⟩
def freshT:Nat→List (Nat×Ob)→List (Nat×Nat)→List (Nat×Nat)
 |_,[],_=>[]
 |nid,(i,_)::l,τ=>match lk τ i with
  |some _=>freshT nid l τ
  |none=>(i,nid)::freshT (nid+1) l τ
def orL{α:Type}(o:Option (List α)):List α:=o.getD []
def orV(o:Option AVal):AVal:=o.getD .junk
def ck1(τ:List (Nat×Nat))(res:AVal)(l1:List (Nat×Ob)):Bool:=nodupB (τ.map (·.1))&&nodupB (τ.map (·.2))&&(renStore τ (app emp l1) τ).isSome&&(renV τ res).isSome
theorem renL_nil_inv{args:List AVal}(h:renL [] args=some args):renL (inv []) args=some args:=h
theorem FC.fresh{f:FuncId}{args:List AVal}{res:AVal}{l1:List (Nat×Ob)}(τ:List (Nat×Nat))(h:FC P f args emp res (app emp l1))(ha:renL [] args=some args)(hk:ck1 τ res l1=true):
 FC P f args emp (orV (renV τ res)) (app emp (orL (renStore τ (app emp l1) τ))):=by
 simp only[ck1,Bool.and_eq_true] at hk
 obtain⟨⟨⟨k1,k2⟩,k3⟩,k4⟩:=hk
 obtain⟨l',e3⟩:=Option.isSome_iff_exists.1 k3
 obtain⟨r',e4⟩:=Option.isSome_iff_exists.1 k4
 refine FC.ren (l0:=[]) (l0':=[]) h [] τ (by simp[nodupB,k1,k2]) rfl (renL_nil_inv ha) rfl ?_ ?_
 ·rw[e3];rfl
 ·rw[e4];rfl
def Xc1{p:Prop}{f:FuncId}{args:List AVal}{res:AVal}{l1:List (Nat×Ob)}(nid:Nat)(h:FC P f args emp res (app emp l1))(x:Px p)(ha:renL [] args=some args:=by kernel_rfl)
 (hk:ck1 (freshT nid l1 []) res l1=true:=by kernel_rfl) (hc:callable P f=true:=by kernel_rfl):Px p:=
 ⟨⟨none,none,none,some ⟨1,[],orV (renV (freshT nid l1 []) res),orL (renStore (freshT nid l1 []) (app emp l1) (freshT nid l1 []))⟩,[]⟩,
  (callable P f=true)::(x.cs++[FC P f args emp (orV (renV (freshT nid l1 []) res)) (app emp (orL (renStore (freshT nid l1 []) (app emp l1) (freshT nid l1 []))))]),
  fun hp=>⟨hc,All_app.2 ⟨x.h hp,FC.fresh _ h ha hk,trivial⟩⟩⟩
def sndL:List (Nat×Nat)→List Nat
 | []=>[]
 | (_,j)::l=>j::sndL l
def ck3(τ0 τ:List (Nat×Nat))(args:List AVal)(l0:List (Nat×Ob))(res:AVal)(l1:List (Nat×Ob)):Bool:=
 (nodupB (τ0.map (·.1))&&nodupB (τ0.map (·.2))&&nodupB (τ.map (·.1))&&nodupB (τ.map (·.2))&&τ0.all (fun p=>match lk τ p.1 with|some j=>Nat.beq j p.2|none=>false))&&
  (orL (renStore τ0 (app emp l0) τ0)).all (fun x=>hasId (τ0.map (·.2)) x.1)&&(renStore τ (app emp l1) τ).isSome&&(renV τ res).isSome&&
  (orL (renStore τ0 (app emp l0) τ0)).all (fun x=>hasId ((orL (renStore τ (app emp l1) τ)).map (·.1)) x.1)
theorem app_over{a b:List (Nat×Ob)}(h:∀x∈a,x.1∈b.map (·.1)):app (app emp a) b=app emp b:=by
 funext i
 by_cases hi:i∈b.map (·.1)
 ·exact app_at (.inl hi)
 ·rw[app_not hi,app_not hi]
  refine app_not (fun hm=> ?_)
  obtain⟨x,hx,rfl⟩:=List.mem_map.1 hm
  exact hi (h x hx)
theorem FC.obj{f:FuncId}{args:List AVal}{res:AVal}{l0 l1:List (Nat×Ob)}(τ0 τ:List (Nat×Nat))(h:FC P f args (app emp l0) res (app emp l1))(hk:ck3 τ0 τ args l0 res l1=true)
 (h0:renStore (inv τ0) (app emp (orL (renStore τ0 (app emp l0) τ0))) (inv τ0)=some l0) (ha:renL (inv τ0) (orL (renL τ0 args))=some args):
 FC P f (orL (renL τ0 args)) (app emp (orL (renStore τ0 (app emp l0) τ0))) (orV (renV τ res)) (app (app emp (orL (renStore τ0 (app emp l0) τ0))) (orL (renStore τ (app emp l1) τ))):=by
 simp only[ck3,Bool.and_eq_true] at hk
 obtain⟨⟨⟨⟨k1,k2⟩,k3⟩,k4⟩,k5⟩:=hk
 obtain⟨l',e3⟩:=Option.isSome_iff_exists.1 k3
 obtain⟨r',e4⟩:=Option.isSome_iff_exists.1 k4
 rw[app_over (fun x hx=>hasId_iff.1 (List.all_eq_true.1 k5 x hx))]
 refine FC.ren h τ0 τ (by simp only[Bool.and_eq_true];exact k1) h0 ha k2 ?_ ?_
 ·rw[e3];rfl
 ·rw[e4];rfl
def Xc3{p:Prop}{f:FuncId}{args:List AVal}{res:AVal}{l0 l1:List (Nat×Ob)}(nid:Nat)(τ0:List (Nat×Nat))(h:FC P f args (app emp l0) res (app emp l1))(x:Px p)
 (hk:ck3 τ0 (τ0++freshT nid l1 τ0) args l0 res l1=true:=by kernel_rfl)
 (h0:renStore (inv τ0) (app emp (orL (renStore τ0 (app emp l0) τ0))) (inv τ0)=some l0:=by kernel_rfl) (ha:renL (inv τ0) (orL (renL τ0 args))=some args:=by kernel_rfl) (hc:callable P f=true:=by kernel_rfl):Px p:=
 ⟨⟨none,none,none,some ⟨3,sndL τ0,orV (renV (τ0++freshT nid l1 τ0) res),orL (renStore (τ0++freshT nid l1 τ0) (app emp l1) (τ0++freshT nid l1 τ0))⟩,[]⟩,
  [callable P f=true,FC P f (orL (renL τ0 args)) (app emp (orL (renStore τ0 (app emp l0) τ0))) (orV (renV (τ0++freshT nid l1 τ0) res)) (app (app emp (orL (renStore τ0 (app emp l0) τ0))) (orL (renStore (τ0++freshT nid l1 τ0) (app emp l1) (τ0++freshT nid l1 τ0))))],
  fun hp=>⟨hc,FC.obj _ _ h hk h0 ha,trivial⟩⟩
theorem FC.objr{f:FuncId}{args:List AVal}{res:AVal}{l0:List (Nat×Ob)}(τ0:List (Nat×Nat))(h:FC P f args (app emp l0) res (app emp l0))(hk:ck3 τ0 τ0 args l0 res l0=true)
 (h0:renStore (inv τ0) (app emp (orL (renStore τ0 (app emp l0) τ0))) (inv τ0)=some l0) (ha:renL (inv τ0) (orL (renL τ0 args))=some args):
 FC P f (orL (renL τ0 args)) (app emp (orL (renStore τ0 (app emp l0) τ0))) (orV (renV τ0 res)) (app (app emp (orL (renStore τ0 (app emp l0) τ0))) []):=by
 have:=FC.obj τ0 τ0 h hk h0 ha
 simp only[ck3,Bool.and_eq_true] at hk
 rw[app_over (fun x hx=>hasId_iff.1 (List.all_eq_true.1 hk.2 x hx))] at this
 exact this
def Xc4{p:Prop}{f:FuncId}{args:List AVal}{res:AVal}{l0:List (Nat×Ob)}(τ0:List (Nat×Nat))(h:FC P f args (app emp l0) res (app emp l0))(x:Px p)
 (hk:ck3 τ0 τ0 args l0 res l0=true:=by kernel_rfl)
 (h0:renStore (inv τ0) (app emp (orL (renStore τ0 (app emp l0) τ0))) (inv τ0)=some l0:=by kernel_rfl) (ha:renL (inv τ0) (orL (renL τ0 args))=some args:=by kernel_rfl) (hc:callable P f=true:=by kernel_rfl):Px p:=
 ⟨⟨none,none,none,some ⟨3,sndL τ0,orV (renV τ0 res),[]⟩,[]⟩,
  [callable P f=true,FC P f (orL (renL τ0 args)) (app emp (orL (renStore τ0 (app emp l0) τ0))) (orV (renV τ0 res)) (app (app emp (orL (renStore τ0 (app emp l0) τ0))) [])],
  fun hp=>⟨hc,FC.objr _ h hk h0 ha,trivial⟩⟩
theorem pr{α β:Type}{a b:α}{c d:β}(h:a=b)(k:c=d):(a,c)=(b,d):=by rw[h,k]
def Xcv(k:IntKind)(z:Int):Px (k.wrap z=z):=⟨oV (.t (.sc (.int k z))),[Weak (.t (.sc (.int k (k.wrap z)))) (.t (.sc (.int k z)))],fun h=>⟨Weak.of_eq (by rw[h]),trivial⟩⟩
def Xsh(k:IntKind)(b y z:Int):Px (0≤b∧y=z):=⟨oV (.t (.sc (.int k z))),[0≤b,Weak (.t (.sc (.int k y))) (.t (.sc (.int k z)))],fun h=>⟨h.1,Weak.of_eq (by rw[h.2]),trivial⟩⟩
end Go.Ab
end
section
set_option linter.unusedVariables false
set_option linter.unusedSimpArgs false
namespace Go.Ch
open Go Go.Ab
structure Attr where
 name:ByteArray
 val:ByteArray
abbrev mt:ByteArray:={data:=#[]}
instance:Inhabited Attr:=⟨⟨mt,mt⟩⟩
def attrT(a:Attr):Tree:= .agg [.sc (.string a.name),.sc (.string a.val)]
theorem byt_ext{a b:ByteArray}(h:a.toList=b.toList):a=b:=by
 rw[ByteArray.toList_eq,ByteArray.toList_eq] at h
 obtain⟨⟨x⟩⟩:=a
 obtain⟨⟨y⟩⟩:=b
 simpa using h
theorem seq_iff{a b:ByteArray}:seq a b=true↔a=b:=by
 unfold seq
 rw[beq_iff_eq]
 exact⟨byt_ext,fun h=>by rw[h]⟩
theorem seq_no{a b:ByteArray}:seq a b=false↔a≠b:=by
 rw[←Bool.not_eq_true,seq_iff]
theorem bl_irr:∀x:List UInt8,Op.bytesLess x x=false
 | []=>rfl
 |a::x=>by simp[Op.bytesLess,bl_irr x]
theorem bl_trans:∀x y z:List UInt8,Op.bytesLess x y=true→Op.bytesLess y z=true→Op.bytesLess x z=true
 |_,_,[],_,h=>by cases‹List UInt8›<;>simp[Op.bytesLess] at h
 | [],_,_::_,_,_=>rfl
 |a::x,[],_::_,h,_=>by simp[Op.bytesLess] at h
 |a::x,b::y,c::z,h1,h2=>by
  simp only[Op.bytesLess,Bool.or_eq_true,decide_eq_true_eq,Bool.and_eq_true,beq_iff_eq,UInt8.lt_iff_toNat_lt,←UInt8.toNat_inj] at h1 h2⊢
  rcases h1 with h1| ⟨h1,h1'⟩
  ·rcases h2 with h2| ⟨h2,h2'⟩<;>(left;omega)
  ·rcases h2 with h2| ⟨h2,h2'⟩
   ·left;omega
   ·right;exact⟨by omega,bl_trans x y z h1' h2'⟩
theorem bl_tri:∀x y:List UInt8,Op.bytesLess x y=false→Op.bytesLess y x=false→x=y
 | [],[],_,_=>rfl
 | [],_::_,h,_=>by simp[Op.bytesLess] at h
 |_::_,[],_,h=>by simp[Op.bytesLess] at h
 |a::x,b::y,h1,h2=>by
  simp only[Op.bytesLess,Bool.or_eq_false_iff,decide_eq_false_iff_not,Bool.and_eq_false_iff,beq_eq_false_iff_ne,UInt8.lt_iff_toNat_lt,ne_eq,←UInt8.toNat_inj] at h1 h2
  have e:a.toNat=b.toNat:=by omega
  have h1':Op.bytesLess x y=false:=by rcases h1.2 with h|h;exact absurd e h;exact h
  have h2':Op.bytesLess y x=false:=by rcases h2.2 with h|h;exact absurd e.symm h;exact h
  rw[UInt8.toNat_inj.1 e,bl_tri x y h1' h2']
theorem slt_irr(a:ByteArray):slt a a=false:=bl_irr _
theorem slt_trans{a b c:ByteArray}(h:slt a b=true)(k:slt b c=true):slt a c=true:=bl_trans _ _ _ h k
theorem slt_tri{a b:ByteArray}(h:slt a b=false)(k:slt b a=false):a=b:=byt_ext (bl_tri _ _ h k)
theorem slt_ne{a b:ByteArray}(h:slt a b=true):a≠b:=fun e=>by subst e;rw[slt_irr] at h;cases h
theorem slt_asymm{a b:ByteArray}(h:slt a b=true):slt b a=false:=by
 cases k:slt b a with
 |false=>rfl
 |true=>have:=slt_trans h k;rw[slt_irr] at this;cases this
def Above(n:ByteArray)(l:List Attr):Prop:=∀a∈l,slt n a.name=true
def Sorted:List Attr→Prop
 | []=>True
 |a::l=>Above a.name l∧Sorted l
def look:List Attr→ByteArray→Option ByteArray
 | [],_=>none
 |a::l,n=>if a.name=n then some a.val else look l n
def bothL:List Attr→List Attr→List (Attr×Attr)
 | [],[]=>[]
 | [],y::b=>(default,y)::bothL [] b
 |x::a,[]=>(x,default)::bothL a []
 |x::a,y::b=>
  if slt x.name y.name=true then(x,default)::bothL a (y::b)
  else if slt y.name x.name=true then(default,y)::bothL (x::a) b
  else(x,y)::bothL a b
termination_by a b=>a.length+b.length
theorem bothL_len:∀a b:List Attr,(bothL a b).length≤a.length+b.length:=by
 intro a b
 induction a,b using bothL.induct with
 |case1=>simp[bothL]
 |case2 y b ih=>simp only[bothL,List.length_cons] at ih⊢;omega
 |case3 x a ih=>simp only[bothL,List.length_cons] at ih⊢;omega
 |case4 x a y b h ih=>rw[bothL,if_pos h];simp only[List.length_cons] at ih⊢;omega
 |case5 x a y b h k ih=>rw[bothL,if_neg h,if_pos k];simp only[List.length_cons] at ih⊢;omega
 |case6 x a y b h k ih=>rw[bothL,if_neg h,if_neg k];simp only[List.length_cons] at ih⊢;omega
def fm(g:Attr→Attr→Option Attr)(a b:List Attr):List Attr:=(bothL a b).filterMap fun p=>g p.1 p.2
def at2(g:Attr→Attr→Option Attr)(n:ByteArray):Option ByteArray→Option ByteArray→Option ByteArray
 |none,none=>none
 |some v,none=>(g ⟨n,v⟩ default).map (·.val)
 |none,some w=>(g default ⟨n,w⟩).map (·.val)
 |some v,some w=>(g ⟨n,v⟩ ⟨n,w⟩).map (·.val)
theorem fm_cons{g:Attr→Attr→Option Attr}{x y:Attr}{l:List (Attr×Attr)}:((x,y)::l).filterMap (fun p=>g p.1 p.2)=(g x y).toList++l.filterMap (fun p=>g p.1 p.2):=by
 rw[List.filterMap_cons]
 cases g x y<;>rfl
def rawG(x y:Attr):Option Attr:=if y.name=mt then some x else if y.val=mt then none else some y
def chgG(x y:Attr):Option Attr:=if y.name=mt then some ⟨x.name,mt⟩ else if x.name=y.name∧x.val=y.val then none else some y
section
variable (NP VP:ByteArray→Prop)
def Q(e:Bool)(n v:ByteArray):Prop:=NP n∧(VP v∨(e=true∧v=mt))
def V(e:Bool)(l:List Attr):Prop:=Sorted l∧∀a∈l,Q NP VP e a.name a.val
end
section
variable {NP VP:ByteArray→Prop} (hN:¬NP mt) (hV:¬VP mt)
include hN
include hV
end
end Go.Ch
end
section
set_option linter.unusedVariables false
set_option linter.unusedSimpArgs false
set_option maxRecDepth 100000
set_option maxHeartbeats 4000000
open Go Go.Proofs Go.Ab
namespace Go.Ch
theorem seq_mt{s:ByteArray}:seq s {data:=#[]}=decide (s.size=0):=by
 by_cases h:s.size=0
 ·rw[decide_eq_true h,seq_iff]
  obtain⟨⟨l⟩⟩:=s
  cases l with
  |nil=>rfl
  |cons a l=>simp[ByteArray.size] at h
 ·rw[decide_eq_false h,seq_no]
  intro e;subst e;exact h rfl
theorem str_pos{s:ByteArray}(h:seq s {data:=#[]}=false):(0:Int)< (s.size:Int):=by
 rw[seq_mt,decide_eq_false_iff_not] at h;omega
def byt(s:ByteArray)(i:Nat):Nat:=((s[i]?).getD 0).toNat
def badC(b:Nat):Prop:=(b<97∨122<b)∧(b<48∨57<b)∧b≠46∧b≠45
instance (b:Nat):Decidable (badC b):=by unfold badC;infer_instance
def nmS(s:ByteArray)(i:Nat):Bool:=if i<s.size then(if badC (byt s i) then false else nmS s (i+1)) else true
termination_by s.size-i
def nameGo(s:ByteArray):Bool:=decide (1≤s.size∧s.size≤24∧97≤byt s 0∧byt s 0≤122)&&nmS s 0
def vlS(s:ByteArray)(i:Nat):Bool:=if i<s.size then(if byt s i<32∨126<byt s i then false else vlS s (i+1)) else true
termination_by s.size-i
def valGo(s:ByteArray):Bool:=decide (1≤s.size∧s.size≤200)&&vlS s 0
def nmR(s:ByteArray)(i:Nat):Bool:=if i<s.size then(if(byt s i<97∨122<byt s i)∧(i=0∨(byt s i≠46∧byt s i≠45∧(byt s i<48∨57<byt s i))) then false else nmR s (i+1)) else true
termination_by s.size-i
def nameRf(s:ByteArray):Bool:=nmR s 0&&decide (1≤s.size∧s.size≤24)
def valRf(s:ByteArray):Bool:=vlS s 0&&decide (1≤s.size∧s.size≤200)
theorem nmR_pos(s:ByteArray)(i:Nat)(h:0<i):nmR s i=nmS s i:=by
 induction i using nmS.induct (s:=s) with
 |case1 i hi hb=>rw[nmR,nmS,if_pos hi,if_pos hi,if_pos hb,if_pos];unfold badC at hb;omega
 |case2 i hi hb ih=>rw[nmR,nmS,if_pos hi,if_pos hi,if_neg hb,if_neg];exact ih (by omega);unfold badC at hb;omega
 |case3 i hi=>rw[nmR,nmS,if_neg hi,if_neg hi]
theorem nameRf_eq(s:ByteArray):nameRf s=nameGo s:=by
 unfold nameRf nameGo
 by_cases h:1≤s.size
 ·rw[nmR,if_pos (by omega),nmR_pos s (0+1) (by omega)]
  by_cases h2:97≤byt s 0∧byt s 0≤122
  ·have e:nmS s 0=nmS s (0+1):=by rw[nmS,if_pos (by omega),if_neg (by unfold badC;omega)]
   rw[if_neg (by omega),e,Bool.and_comm]
   congr 1
   simp[h2]
  ·rw[if_pos (by omega),decide_eq_false (by omega:¬(1≤s.size∧s.size≤24∧97≤byt s 0∧byt s 0≤122))]
   simp
 ·rw[decide_eq_false (by omega),decide_eq_false (by omega)];simp
theorem valRf_eq(s:ByteArray):valRf s=valGo s:=by unfold valRf valGo;rw[Bool.and_comm]
theorem byt0(s:ByteArray)(i:Nat):((s[i]?).getD 0).toNat=byt s i:=rfl
theorem fc_name(s:ByteArray):FC Tryz.prog 155 [VS s] (app emp []) (VB (nameGo s)) (app emp []):=by
 refine .go Tryz.f155 ?_
 refine .bp [.r [],.r [(4,Xv 1 (!(seq s ({data:=#[]}))) X0),(5,Xv 1 (!(seq s ({data:=#[]}))) X0),(6,X (Xk' (seq s ({data:=#[]})))),(9,Xv 1 (!(seq s ({data:=#[]})||decide ((s.size:Int)> 24))) (Xb s 0) (fun hg=>by(try simp only[decide_eq_true_eq,decide_eq_false_iff_not,Int.not_lt,Int.not_le,gt_iff_lt,Bool.not_eq_true',Bool.not_eq_false',Bool.or_eq_true,Bool.or_eq_false_iff] at hg);exact⟨(by first|omega| (simp;omega)| (simp;done)|assumption),(str_pos (by first|exact hg|exact hg.1|exact hg.1.1))⟩)),(10,Xv 1 (!(seq s ({data:=#[]})||decide ((s.size:Int)> 24))) X0),(11,X (Xk' (seq s ({data:=#[]})||decide ((s.size:Int)> 24)))),(14,Xv 1 (!((seq s ({data:=#[]})||decide ((s.size:Int)> 24))||decide (((((s[0]?).getD 0).toNat:Nat):Int)< 97))) (Xb s 0) (fun hg=>by(try simp only[decide_eq_true_eq,decide_eq_false_iff_not,Int.not_lt,Int.not_le,gt_iff_lt,Bool.not_eq_true',Bool.not_eq_false',Bool.or_eq_true,Bool.or_eq_false_iff] at hg);exact⟨(by first|omega| (simp;omega)| (simp;done)|assumption),(str_pos (by first|exact hg|exact hg.1|exact hg.1.1))⟩)),(15,Xv 1 (!((seq s ({data:=#[]})||decide ((s.size:Int)> 24))||decide (((((s[0]?).getD 0).toNat:Nat):Int)< 97))) X0),(16,X (Xk' ((seq s ({data:=#[]})||decide ((s.size:Int)> 24))||decide (((((s[0]?).getD 0).toNat:Nat):Int)< 97))))]] (((seq s ({data:=#[]})||decide ((s.size:Int)> 24))||decide (((((s[0]?).getD 0).toNat:Nat):Int)< 97))||decide (((((s[0]?).getD 0).toNat:Nat):Int)> 122)) (fun h1=> ?_) (fun h1=> ?_)
 ·
  have e1:((nameGo s):Bool)=false:=by
   simp only[byt0,seq_mt,decide_eq_true_eq] at h1;unfold nameGo;rw[decide_eq_false (by omega)];rfl
  exact .finE [.r []] [] (fun z0:Bool=>(VB z0,[])) _ _ e1
 ·
  refine .loop (α:=Nat) [.r []] 168 (fun i=>([(0,VS s),(23,VI (s.size:Int)),(24,VI (i:Int))],[])) (fun i=>i≤s.size∧nmS s 0=nmS s i) (fun i=>s.size-i) (0:Nat) ?_ ?_
  ·
   exact⟨by omega,rfl⟩
  rintro i I4 ih4
  try dsimp only at I4
  refine .bp [.r []] (decide ((i:Int)< (s.size:Int))) (fun h4=> ?_) (fun h4=> ?_)
  ·
   refine .bp [.r [],.r [(2,X (Xb s (i:Int)))],.r [(4,Xv 1 (!(decide (((((s[i]?).getD 0).toNat:Nat):Int)< 97))) X0),(5,X (Xk' (decide (((((s[i]?).getD 0).toNat:Nat):Int)< 97)))),(8,Xv 1 (decide (((((s[i]?).getD 0).toNat:Nat):Int)< 97)||decide (((((s[i]?).getD 0).toNat:Nat):Int)> 122)) X0),(9,Xv 1 (decide (((((s[i]?).getD 0).toNat:Nat):Int)< 97)||decide (((((s[i]?).getD 0).toNat:Nat):Int)> 122)) X0),(11,Xv 1 ((decide (((((s[i]?).getD 0).toNat:Nat):Int)< 97)||decide (((((s[i]?).getD 0).toNat:Nat):Int)> 122))&& !(decide (((((s[i]?).getD 0).toNat:Nat):Int)< 48))) X0),(12,Xko (decide (((((s[i]?).getD 0).toNat:Nat):Int)< 97)||decide (((((s[i]?).getD 0).toNat:Nat):Int)> 122)) (decide (((((s[i]?).getD 0).toNat:Nat):Int)< 48))),(13,X (Xk (decide (((((s[i]?).getD 0).toNat:Nat):Int)< 97)||decide (((((s[i]?).getD 0).toNat:Nat):Int)> 122)))),(16,Xv 1 ((decide (((((s[i]?).getD 0).toNat:Nat):Int)< 97)||decide (((((s[i]?).getD 0).toNat:Nat):Int)> 122))&&(decide (((((s[i]?).getD 0).toNat:Nat):Int)< 48)||decide (((((s[i]?).getD 0).toNat:Nat):Int)> 57))) X0),(17,X (Xk ((decide (((((s[i]?).getD 0).toNat:Nat):Int)< 97)||decide (((((s[i]?).getD 0).toNat:Nat):Int)> 122))&&(decide (((((s[i]?).getD 0).toNat:Nat):Int)< 48)||decide (((((s[i]?).getD 0).toNat:Nat):Int)> 57))))),(20,Xv 1 (((decide (((((s[i]?).getD 0).toNat:Nat):Int)< 97)||decide (((((s[i]?).getD 0).toNat:Nat):Int)> 122))&&(decide (((((s[i]?).getD 0).toNat:Nat):Int)< 48)||decide (((((s[i]?).getD 0).toNat:Nat):Int)> 57)))&&(((((s[i]?).getD 0).toNat:Nat):Int) !=46)) X0),(21,X (Xk (((decide (((((s[i]?).getD 0).toNat:Nat):Int)< 97)||decide (((((s[i]?).getD 0).toNat:Nat):Int)> 122))&&(decide (((((s[i]?).getD 0).toNat:Nat):Int)< 48)||decide (((((s[i]?).getD 0).toNat:Nat):Int)> 57)))&&(((((s[i]?).getD 0).toNat:Nat):Int) !=46))))]] ((((decide (((((s[i]?).getD 0).toNat:Nat):Int)< 97)||decide (((((s[i]?).getD 0).toNat:Nat):Int)> 122))&&(decide (((((s[i]?).getD 0).toNat:Nat):Int)< 48)||decide (((((s[i]?).getD 0).toNat:Nat):Int)> 57)))&&(((((s[i]?).getD 0).toNat:Nat):Int) !=46))&&(((((s[i]?).getD 0).toNat:Nat):Int) !=45)) (fun h7=> ?_) (fun h7=> ?_)
   ·
    have e2:((nameGo s):Bool)=false:=by
     simp only[byt0] at h7;unfold nameGo;rw[I4.2,nmS,if_pos (by omega),if_pos (by unfold badC;omega)];simp
    exact .finE [.r []] [] (fun z0:Bool=>(VB z0,[])) _ _ e2
   ·
    refine .back [.r [(0,X (Xn ((i:Int)+1)))]] [] (ih4 ((i+1):Nat) ?_ ?_)
    ·
     simp only[byt0] at h7;refine⟨by omega,?_⟩;rw[I4.2,nmS,if_pos (by omega),if_neg (by unfold badC;omega)]
    ·
     ((try dsimp only);omega)
  ·
   have e3:((nameGo s):Bool)=true:=by
    simp only[byt0,seq_mt,decide_eq_false_iff_not] at h1;unfold nameGo;rw[I4.2,nmS,if_neg (by omega),decide_eq_true (by omega)];rfl
   exact .finE [.r []] [] (fun z0:Bool=>(VB z0,[])) _ _ e3
theorem fc_value(s:ByteArray):FC Tryz.prog 156 [VS s] (app emp []) (VB (valGo s)) (app emp []):=by
 refine .go Tryz.f156 ?_
 refine .bp [.r [],.r [(4,Xv 1 (!(seq s ({data:=#[]}))) X0),(5,Xv 1 (!(seq s ({data:=#[]}))) X0),(6,X (Xk' (seq s ({data:=#[]}))))]] (seq s ({data:=#[]})||decide ((s.size:Int)> 200)) (fun h1=> ?_) (fun h1=> ?_)
 ·
  have e1:((valGo s):Bool)=false:=by
   simp only[seq_mt,decide_eq_true_eq] at h1;unfold valGo;rw[decide_eq_false (by omega)];rfl
  exact .finE [.r []] [] (fun z0:Bool=>(VB z0,[])) _ _ e1
 ·
  refine .loop (α:=Nat) [.r []] 88 (fun i=>([(0,VS s),(12,VI (s.size:Int)),(13,VI (i:Int))],[])) (fun i=>i≤s.size∧vlS s 0=vlS s i) (fun i=>s.size-i) (0:Nat) ?_ ?_
  ·
   exact⟨by omega,rfl⟩
  rintro i I4 ih4
  try dsimp only at I4
  refine .bp [.r []] (decide ((i:Int)< (s.size:Int))) (fun h4=> ?_) (fun h4=> ?_)
  ·
   refine .bp [.r [],.r [(2,X (Xb s (i:Int))),(7,Xv 2 (!(decide (((((s[i]?).getD 0).toNat:Nat):Int)< 32))) (Xb s (i:Int))),(8,Xv 1 (!(decide (((((s[i]?).getD 0).toNat:Nat):Int)< 32))) X0),(9,X (Xk' (decide (((((s[i]?).getD 0).toNat:Nat):Int)< 32))))]] (decide (((((s[i]?).getD 0).toNat:Nat):Int)< 32)||decide (((((s[i]?).getD 0).toNat:Nat):Int)> 126)) (fun h6=> ?_) (fun h6=> ?_)
   ·
    have e2:((valGo s):Bool)=false:=by
     simp only[byt0] at h6;unfold valGo;rw[I4.2,vlS,if_pos (by omega),if_pos (by omega)];simp
    exact .finE [.r []] [] (fun z0:Bool=>(VB z0,[])) _ _ e2
   ·
    refine .back [.r [(0,X (Xn ((i:Int)+1)))]] [] (ih4 ((i+1):Nat) ?_ ?_)
    ·
     simp only[byt0] at h6;refine⟨by omega,?_⟩;rw[I4.2,vlS,if_pos (by omega),if_neg (by omega)]
    ·
     ((try dsimp only);omega)
  ·
   have e3:((valGo s):Bool)=true:=by
    simp only[seq_mt,decide_eq_false_iff_not] at h1;unfold valGo;rw[I4.2,vlS,if_neg (by omega),decide_eq_true (by omega)];rfl
   exact .finE [.r []] [] (fun z0:Bool=>(VB z0,[])) _ _ e3
def chkA(e:Bool)(l:List Attr)(i:Nat):Int:=
 if i<l.length then
  if nameGo (l.getD i default).name=false then 9
  else if valGo (l.getD i default).val=false∧(e=false∨seq (l.getD i default).val {data:=#[]}=false) then 23
  else if 0<i∧(slt (l.getD i default).name (l.getD (i- 1) default).name=true∨seq (l.getD i default).name (l.getD (i- 1) default).name=true) then 5
  else chkA e l (i+1)
 else 0
termination_by l.length-i
def Szd(l:List Attr):Prop:=∀a∈l,a.name.size≤9223372036854775807∧a.val.size≤9223372036854775807
theorem fc_chk(l:List Attr)(e:Bool):FC Tryz.prog 104 [VL 2 attrT l,VB e] (app emp []) (VI (chkA e l 0)) (app emp []):=by
 refine .go Tryz.f104 ?_
 refine .len 0 (fun hl0=> ?_)
 refine .loop (α:=Nat) [.r [],.r [(1,X (Xl attrT l))]] 32 (fun i=>([(0,VL 2 attrT l),(1,VB e),(7,VL 2 attrT l),(8,VI (l.length:Int)),(9,VI (i:Int))],[])) (fun i=>i≤l.length∧chkA e l 0=chkA e l i) (fun i=>l.length-i) (0:Nat) ?_ ?_
 ·
  exact⟨by omega,rfl⟩
 rintro i I2 ih2
 try dsimp only at I2
 refine .bp [.r []] (decide ((i:Int)< (l.length:Int))) (fun h2=> ?_) (fun h2=> ?_)
 ·
  refine .bp [.r [(1,X (Xi attrT l (i:Int)))],.r [(2,X (Xc0 (fc_name (((l.getD i default)).name)) X0))]] (!(nameGo (((l.getD i default)).name))) (fun h4=> ?_) (fun h4=> ?_)
  ·
   have e1:((chkA e l 0):Int)=9:=by
    rw[I2.2,chkA,if_pos (by omega),if_pos h4]
   exact .finE [.r []] [] (fun z0:Int=>(VI z0,[])) _ _ e1
  ·
   refine .bp [.r [(2,X (Xc0 (fc_value (((l.getD i default)).val)) X0)),(6,Xv 1 (!(valGo (((l.getD i default)).val))) X0),(8,Xv 1 ((!(valGo (((l.getD i default)).val)))&&e) X0),(9,Xv 1 ((!(valGo (((l.getD i default)).val)))&&e) X0),(10,Xka (!(valGo (((l.getD i default)).val))) e),(11,Xv 1 (!(valGo (((l.getD i default)).val))) X0),(12,X (Xk (!(valGo (((l.getD i default)).val)))))]] (!(valGo (((l.getD i default)).val))&& !(e&&seq (((l.getD i default)).val) ({data:=#[]}))) (fun h6=> ?_) (fun h6=> ?_)
   ·
    have e2:((chkA e l 0):Int)=23:=by
     rw[I2.2,chkA,if_pos (by omega),if_neg (by rw[h4];decide),if_pos h6]
    exact .finE [.r []] [] (fun z0:Int=>(VI z0,[])) _ _ e2
   ·
    refine .bp [.r [(4,Xv 1 (decide ((i:Int)> 0)) X0),(7,Xv 1 (decide ((i:Int)> 0)) (Xn ((i:Int)- 1))),(8,Xv 2 (decide ((i:Int)> 0)) (Xi' attrT l ((i:Int)- 1) (i- 1))),(9,Xv 1 (decide ((i:Int)> 0)) X0),(10,Xv 1 (decide ((i:Int)> 0)) X0),(11,Xv 2 (decide ((i:Int)> 0)) X0),(12,X (Xk (decide ((i:Int)> 0))))]] (decide ((i:Int)> 0)&&(slt (((l.getD i default)).name) (((l.getD (i- 1) default)).name)||seq (((l.getD i default)).name) (((l.getD (i- 1) default)).name))) (fun h8=> ?_) (fun h8=> ?_)
    ·
     have e3:((chkA e l 0):Int)=5:=by
      rw[I2.2,chkA,if_pos (by omega),if_neg (by rw[h4];decide),if_neg (by clear ih2;rintro⟨a,b⟩;simp_all),if_pos ⟨by omega,h8.2⟩]
     exact .finE [.r []] [] (fun z0:Int=>(VI z0,[])) _ _ e3
    ·
     refine .back [.r [(0,X (Xn ((i:Int)+1)))]] [] (ih2 ((i+1):Nat) ?_ ?_)
     ·
      refine⟨by omega,?_⟩;rw[I2.2,chkA,if_pos (by omega),if_neg (by rw[h4];decide),if_neg (by clear ih2;rintro⟨a,b⟩;simp_all),if_neg (by clear ih2;rintro⟨a,b⟩;rcases h8 with h| ⟨h,h2⟩;omega;rcases b with b|b<;>simp_all)]
     ·
      ((try dsimp only);omega)
 ·
  have e4:((chkA e l 0):Int)=0:=by
   rw[I2.2,chkA,if_neg (by omega)]
  exact .finE [.r []] [] (fun z0:Int=>(VI z0,[])) _ _ e4
theorem fc_acheck(l:List Attr):FC Tryz.prog 63 [VL 2 attrT l] (app emp []) (VI (chkA false l 0)) (app emp []):=by
 refine .go Tryz.f63 ?_
 refine .len 0 (fun hl0=> ?_)
 exact .fin [.r [],.r [(1,X (Xc0 (fc_chk l false) X0))]] []
theorem fc_acheckChange(l:List Attr):FC Tryz.prog 78 [VL 2 attrT l] (app emp []) (VI (chkA true l 0)) (app emp []):=by
 refine .go Tryz.f78 ?_
 refine .len 0 (fun hl0=> ?_)
 exact .fin [.r [],.r [(1,X (Xc0 (fc_chk l true) X0))]] []
def errA(e:Bool)(l:List Attr)(i:Nat):Int:=
 if i<l.length then
  if nameRf (l.getD i default).name=false then 9
  else if valRf (l.getD i default).val=false∧(e=false∨seq (l.getD i default).val {data:=#[]}=false) then 23
  else if 0<i∧slt (l.getD (i- 1) default).name (l.getD i default).name=false then 5
  else errA e l (i+1)
 else 0
termination_by l.length-i
theorem slt_or(a b:ByteArray):(slt a b=true∨seq a b=true)↔slt b a=false:=by
 constructor
 ·rintro(h|h)
  ·exact slt_asymm h
  ·rw[seq_iff] at h;subst h;exact slt_irr _
 ·intro h
  cases k:slt a b with
  |true=>exact .inl rfl
  |false=>exact .inr (seq_iff.2 (slt_tri k h))
theorem errA_eq(e:Bool)(l:List Attr):∀(n i:Nat),l.length-i=n→errA e l i=chkA e l i
 |0,i,h=>by rw[errA,chkA,if_neg (by omega),if_neg (by omega)]
 |n+1,i,h=>by
  have hi:i<l.length:=by omega
  rw[errA,chkA,if_pos hi,if_pos hi,errA_eq e l n (i+1) (by omega)]
  simp only[nameRf_eq,valRf_eq,slt_or]
def sameA(a b:List Attr)(i:Nat):Bool:=
 if i<a.length then(if(a.getD i default).name=(b.getD i default).name∧(a.getD i default).val=(b.getD i default).val then sameA a b (i+1) else false) else true
termination_by a.length-i
def sameL(a b:List Attr):Bool:=decide (a.length=b.length)&&sameA a b 0
theorem drop_at{l:List Attr}{i:Nat}(h:i<l.length):l.drop i=l.getD i default::l.drop (i+1):=by
 rw[List.drop_eq_getElem_cons h];simp[List.getD,List.getElem?_eq_getElem h]
theorem drop_end{l:List Attr}{i:Nat}(h:¬i<l.length):l.drop i=[]:=List.drop_eq_nil_of_le (by omega)
theorem fm_a{g:Attr→Attr→Option Attr}{a b:List Attr}{i j:Nat}(hi:i<a.length)(h:b.length≤j∨slt (a.getD i default).name (b.getD j default).name=true):
 fm g (a.drop i) (b.drop j)=(g (a.getD i default) ⟨mt,mt⟩).toList++fm g (a.drop (i+1)) (b.drop j):=by
 unfold fm
 rw[drop_at hi]
 by_cases hj:j<b.length
 ·rw[drop_at hj,bothL,if_pos (by rcases h with h|h;omega;exact h),fm_cons];rfl
 ·rw[drop_end hj,bothL,fm_cons];rfl
theorem fm_b{g:Attr→Attr→Option Attr}{a b:List Attr}{i j:Nat}(hj:j<b.length)(h0:i<a.length→slt (a.getD i default).name (b.getD j default).name=false)(h:a.length≤i∨slt (b.getD j default).name (a.getD i default).name=true):
 fm g (a.drop i) (b.drop j)=(g ⟨mt,mt⟩ (b.getD j default)).toList++fm g (a.drop i) (b.drop (j+1)):=by
 unfold fm
 rw[drop_at hj]
 by_cases hi:i<a.length
 ·rw[drop_at hi,bothL,if_neg (by rw[h0 hi];decide),if_pos (by rcases h with h|h;omega;exact h),fm_cons];rfl
 ·rw[drop_end hi,bothL,fm_cons];rfl
theorem fm_ab{g:Attr→Attr→Option Attr}{a b:List Attr}{i j:Nat}(hi:i<a.length)(hj:j<b.length)(h0:slt (a.getD i default).name (b.getD j default).name=false)(h:slt (b.getD j default).name (a.getD i default).name=false):
 fm g (a.drop i) (b.drop j)=(g (a.getD i default) (b.getD j default)).toList++fm g (a.drop (i+1)) (b.drop (j+1)):=by
 unfold fm
 rw[drop_at hi,drop_at hj,bothL,if_neg (by rw[h0];decide),if_neg (by rw[h];decide),fm_cons]
theorem fm_end{g:Attr→Attr→Option Attr}{a b:List Attr}{i j:Nat}(hi:a.length≤i)(hj:b.length≤j):fm g (a.drop i) (b.drop j)=[]:=by
 unfold fm
 rw[drop_end (by omega),drop_end (by omega),bothL];rfl
theorem toList_le{o:Option Attr}:o.toList.length≤1:=by cases o<;>simp
end Go.Ch
end
section
set_option linter.unusedVariables false
set_option linter.unusedSimpArgs false
set_option maxRecDepth 100000
set_option maxHeartbeats 4000000
open Go Go.Proofs Go.Ab
namespace Go.Ch
theorem fc_both(f:FuncId)(g:Attr→Attr→Option Attr)(hfc:callable Tryz.prog f=true)(hf:∀(o:List Attr) (x y:Attr),o.length<1099511627776→FC Tryz.prog f [.t (attrT x),.t (attrT y),.ptr 0 0] (app emp [(0,.box [.row 1 o.length]),(1,.row 2 false (List.map attrT o))]) (.tup []) (app emp [(0,.box [.row 1 (o++(g x y).toList).length]),(1,.row 2 false (List.map attrT (o++(g x y).toList)))]))(a b o:List Attr)(hn:o.length+a.length+b.length<1099511627776):FC Tryz.prog 81 [VL 2 attrT a,VL 2 attrT b,.fn f [.ptr 0 0]] (app emp [(0,.box [.row 1 o.length]),(1,OR 2 attrT o)]) (.tup []) (app emp [(0,.box [.row 1 ((o++fm g a b).length)]),(1,OR 2 attrT (o++fm g a b))]):=by
 refine .go Tryz.f81 ?_
 refine .len 0 (fun hl0=> ?_)
 refine .len 1 (fun hl1=> ?_)
 refine .loop (α:=Nat×Nat×(List Attr)) [.r []] 18 (fun(i,j,p)=>([(0,VL 2 attrT a),(1,VL 2 attrT b),(2,.fn f [.ptr 0 0]),(6,VI (i:Int)),(7,VI (j:Int))],[(0,.box [.row 1 p.length]),(1,OR 2 attrT p)])) (fun(i,j,p)=>i≤a.length∧j≤b.length∧p.length≤o.length+i+j∧o++fm g a b=p++fm g (a.drop i) (b.drop j)) (fun(i,j,p)=>(a.length-i)+(b.length-j)) (0,0,o) ?_ ?_
 ·
  exact⟨by omega,by omega,by omega,rfl⟩
 rintro⟨i,j,p⟩ I1 ih1
 try dsimp only at I1
 refine .bp [.r [(2,X (Xl attrT a)),(7,Xv 1 (!(decide ((i:Int)< (a.length:Int)))) (Xl attrT b)),(8,Xv 2 (!(decide ((i:Int)< (a.length:Int)))) X0),(9,X (Xk' (decide ((i:Int)< (a.length:Int)))))]] (decide ((i:Int)< (a.length:Int))||decide ((j:Int)< (b.length:Int))) (fun h1=> ?_) (fun h1=> ?_)
 ·
  refine .bp [.r [(2,X (Xl attrT b)),(7,Xv 1 (!((j:Int)==(b.length:Int))) (Xl attrT a)),(8,Xv 2 (!((j:Int)==(b.length:Int))) X0),(9,Xv 1 (!((j:Int)==(b.length:Int))) X0),(12,Xv 2 ((!((j:Int)==(b.length:Int)))&&(decide ((i:Int)< (a.length:Int)))) (Xi attrT a (i:Int))),(13,Xv 1 ((!((j:Int)==(b.length:Int)))&&(decide ((i:Int)< (a.length:Int)))) X0),(14,Xv 1 ((!((j:Int)==(b.length:Int)))&&(decide ((i:Int)< (a.length:Int)))) X0),(17,Xv 2 ((!((j:Int)==(b.length:Int)))&&(decide ((i:Int)< (a.length:Int)))) (Xi attrT b (j:Int))),(18,Xv 1 ((!((j:Int)==(b.length:Int)))&&(decide ((i:Int)< (a.length:Int)))) X0),(19,Xv 1 ((!((j:Int)==(b.length:Int)))&&(decide ((i:Int)< (a.length:Int)))) X0),(20,Xv 2 ((!((j:Int)==(b.length:Int)))&&(decide ((i:Int)< (a.length:Int)))) X0),(21,Xka (!((j:Int)==(b.length:Int))) (decide ((i:Int)< (a.length:Int)))),(22,X (Xk' ((j:Int)==(b.length:Int))))]] (((j:Int)==(b.length:Int))|| (decide ((i:Int)< (a.length:Int))&&slt (((a.getD i default)).name) (((b.getD j default)).name))) (fun h4=> ?_) (fun h4=> ?_)
  ·
   refine .back [.r [(3,X (Xi attrT a (i:Int))),(6,X (Xc3 338 [(0,0),(1,1)] (hf p ((a.getD i default)) ({name:={data:=#[]},val:={data:=#[]}}:Attr) (by first|omega| (simp;omega))) X0 (hc:=hfc)))],.r [(1,X (Xn ((i:Int)+1)))]] [(0,0),(1,1)] (ih1 ((i+1),j,(p++(g ((a.getD i default)) ({name:={data:=#[]},val:={data:=#[]}}:Attr)).toList)) ?_ ?_)
   ·
    have hi:i<a.length:=by omega
    have hg:=toList_le (o:=g (a.getD i default) ⟨{data:=#[]},{data:=#[]}⟩)
    have e:=fm_a (g:=g) (a:=a) (b:=b) (j:=j) hi (by rcases h4 with h|h;(left;omega);exact .inr h.2)
    refine⟨by omega,by omega,by simp only[List.length_append];omega,?_⟩
    rw[I1.2.2.2,e,List.append_assoc]
   ·
    ((try dsimp only);omega)
  ·
   refine .bp [.r [(2,X (Xl attrT a)),(7,Xv 2 (!((i:Int)==(a.length:Int))) (Xi attrT b (j:Int))),(8,Xv 1 (!((i:Int)==(a.length:Int))) X0),(9,Xv 1 (!((i:Int)==(a.length:Int))) X0),(12,Xv 2 (!((i:Int)==(a.length:Int))) (Xi attrT a (i:Int))),(13,Xv 1 (!((i:Int)==(a.length:Int))) X0),(14,Xv 1 (!((i:Int)==(a.length:Int))) X0),(15,Xv 2 (!((i:Int)==(a.length:Int))) X0),(16,X (Xk' ((i:Int)==(a.length:Int))))]] (((i:Int)==(a.length:Int))||slt (((b.getD j default)).name) (((a.getD i default)).name)) (fun h7=> ?_) (fun h7=> ?_)
   ·
    refine .back [.r [(4,X (Xi attrT b (j:Int))),(6,X (Xc3 482 [(0,0),(1,1)] (hf p ({name:={data:=#[]},val:={data:=#[]}}:Attr) ((b.getD j default)) (by first|omega| (simp;omega))) X0 (hc:=hfc)))],.r [(1,X (Xn ((j:Int)+1)))]] [(0,0),(1,1)] (ih1 (i,(j+1),(p++(g ({name:={data:=#[]},val:={data:=#[]}}:Attr) ((b.getD j default))).toList)) ?_ ?_)
    ·
     have hj:j<b.length:=by omega
     have hg:=toList_le (o:=g ⟨{data:=#[]},{data:=#[]}⟩ (b.getD j default))
     have e:=fm_b (g:=g) (a:=a) (b:=b) (i:=i) hj (fun hi=>by rcases h4.2 with h|h;omega;exact h) (by rcases h7 with h|h;(left;omega);exact .inr h)
     refine⟨by omega,by omega,by simp only[List.length_append];omega,?_⟩
     rw[I1.2.2.2,e,List.append_assoc]
    ·
     ((try dsimp only);omega)
   ·
    refine .back [.r [(3,X (Xi attrT a (i:Int))),(7,X (Xi attrT b (j:Int))),(9,X (Xc3 506 [(0,0),(1,1)] (hf p ((a.getD i default)) ((b.getD j default)) (by first|omega| (simp;omega))) X0 (hc:=hfc)))],.r [(1,X (Xn ((i:Int)+1))),(3,X (Xn ((j:Int)+1)))]] [(0,0),(1,1)] (ih1 ((i+1),(j+1),(p++(g ((a.getD i default)) ((b.getD j default))).toList)) ?_ ?_)
    ·
     have hi:i<a.length:=by omega
     have hj:j<b.length:=by omega
     have hg:=toList_le (o:=g (a.getD i default) (b.getD j default))
     have e:=fm_ab (g:=g) (a:=a) (b:=b) hi hj (by rcases h4.2 with h|h;omega;exact h) h7.2
     refine⟨by omega,by omega,by simp only[List.length_append];omega,?_⟩
     rw[I1.2.2.2,e,List.append_assoc]
    ·
     ((try dsimp only);omega)
 ·
  have e1:((o++fm g a b).length:Nat)=p.length:=by
   rw[I1.2.2.2,fm_end (by omega) (by omega),List.append_nil]
  have e2:((o++fm g a b):List Attr)=p:=by
   rw[I1.2.2.2,fm_end (by omega) (by omega),List.append_nil]
  exact .finE [] [(0,0),(1,1)] (fun((z0,z1):Nat×(List Attr))=>(.tup [],[(0,.box [.row 1 z0]),(1,OR 2 attrT z1)])) _ _ (pr e1 e2)
theorem fc_rawG(o:List Attr)(x y:Attr)(hn:o.length<1099511627776):FC Tryz.prog 82 [.t (attrT x),.t (attrT y),.ptr 0 0] (app emp [(0,.box [.row 1 o.length]),(1,OR 2 attrT o)]) (.tup []) (app emp [(0,.box [.row 1 ((o++(rawG x y).toList).length)]),(1,OR 2 attrT (o++(rawG x y).toList))]):=by
 refine .go Tryz.f82 ?_
 refine .bp [.r [],.r []] (seq y.name ({data:=#[]})) (fun h1=> ?_) (fun h1=> ?_)
 ·
  have e1:((o++(rawG x y).toList).length:Nat)=(o++[x]).length:=by
   simp only[seq_iff,seq_no] at*;unfold rawG;(repeat' split)<;>simp_all
  have e2:((o++(rawG x y).toList):List Attr)=(o++[x]):=by
   simp only[seq_iff,seq_no] at*;unfold rawG;(repeat' split)<;>simp_all
  exact .finE [.r [(3,X (rowC attrT [x] (Xap 2 attrT 1 o [x])))]] [(0,0),(1,1)] (fun((z0,z1):Nat×(List Attr))=>(.tup [],[(0,.box [.row 1 z0]),(1,OR 2 attrT z1)])) _ _ (pr e1 e2)
 ·
  refine .bp [.r []] (!(seq y.val ({data:=#[]}))) (fun h3=> ?_) (fun h3=> ?_)
  ·
   have e3:((o++(rawG x y).toList).length:Nat)=(o++[y]).length:=by
    simp only[seq_iff,seq_no] at*;unfold rawG;(repeat' split)<;>simp_all
   have e4:((o++(rawG x y).toList):List Attr)=(o++[y]):=by
    simp only[seq_iff,seq_no] at*;unfold rawG;(repeat' split)<;>simp_all
   exact .finE [.r [(3,X (rowC attrT [y] (Xap 2 attrT 1 o [y])))]] [(0,0),(1,1)] (fun((z0,z1):Nat×(List Attr))=>(.tup [],[(0,.box [.row 1 z0]),(1,OR 2 attrT z1)])) _ _ (pr e3 e4)
  ·
   have e5:((o++(rawG x y).toList).length:Nat)=o.length:=by
    simp only[seq_iff,seq_no] at*;unfold rawG;(repeat' split)<;>simp_all
   have e6:((o++(rawG x y).toList):List Attr)=o:=by
    simp only[seq_iff,seq_no] at*;unfold rawG;(repeat' split)<;>simp_all
   exact .finE [] [(0,0),(1,1)] (fun((z0,z1):Nat×(List Attr))=>(.tup [],[(0,.box [.row 1 z0]),(1,OR 2 attrT z1)])) _ _ (pr e5 e6)
theorem fc_chgG(o:List Attr)(x y:Attr)(hn:o.length<1099511627776):FC Tryz.prog 95 [.t (attrT x),.t (attrT y),.ptr 0 0] (app emp [(0,.box [.row 1 o.length]),(1,OR 2 attrT o)]) (.tup []) (app emp [(0,.box [.row 1 ((o++(chgG x y).toList).length)]),(1,OR 2 attrT (o++(chgG x y).toList))]):=by
 refine .go Tryz.f95 ?_
 refine .bp [.r [],.r []] (seq y.name ({data:=#[]})) (fun h1=> ?_) (fun h1=> ?_)
 ·
  have e1:((o++(chgG x y).toList).length:Nat)=(o++[({name:=x.name,val:={data:=#[]}}:Attr)]).length:=by
   simp only[seq_iff,seq_no] at*;unfold chgG;(repeat' split)<;>simp_all
  have e2:((o++(chgG x y).toList):List Attr)=(o++[({name:=x.name,val:={data:=#[]}}:Attr)]):=by
   simp only[seq_iff,seq_no] at*;unfold chgG;(repeat' split)<;>simp_all
  exact .finE [.r [(5,X (rowC attrT [({name:=x.name,val:={data:=#[]}}:Attr)] (Xap 2 attrT 1 o [({name:=x.name,val:={data:=#[]}}:Attr)])))]] [(0,0),(1,1)] (fun((z0,z1):Nat×(List Attr))=>(.tup [],[(0,.box [.row 1 z0]),(1,OR 2 attrT z1)])) _ _ (pr e1 e2)
 ·
  refine .bp [.r []] (!(seq x.name y.name&&(seq x.val y.val&&true))) (fun h3=> ?_) (fun h3=> ?_)
  ·
   have e3:((o++(chgG x y).toList).length:Nat)=(o++[y]).length:=by
    simp only[seq_iff,seq_no] at*;unfold chgG;(repeat' split)<;>simp_all
   have e4:((o++(chgG x y).toList):List Attr)=(o++[y]):=by
    simp only[seq_iff,seq_no] at*;unfold chgG;(repeat' split)<;>simp_all
   exact .finE [.r [(3,X (rowC attrT [y] (Xap 2 attrT 1 o [y])))]] [(0,0),(1,1)] (fun((z0,z1):Nat×(List Attr))=>(.tup [],[(0,.box [.row 1 z0]),(1,OR 2 attrT z1)])) _ _ (pr e3 e4)
  ·
   have e5:((o++(chgG x y).toList).length:Nat)=o.length:=by
    simp only[seq_iff,seq_no] at*;unfold chgG;(repeat' split)<;>simp_all
   have e6:((o++(chgG x y).toList):List Attr)=o:=by
    simp only[seq_iff,seq_no] at*;unfold chgG;(repeat' split)<;>simp_all
   exact .finE [] [(0,0),(1,1)] (fun((z0,z1):Nat×(List Attr))=>(.tup [],[(0,.box [.row 1 z0]),(1,OR 2 attrT z1)])) _ _ (pr e5 e6)
theorem fc_raw(a b:List Attr)(hn:a.length+b.length<1099511627776):FC Tryz.prog 40 [VL 2 attrT a,VL 2 attrT b] (app emp []) (VL 2 attrT (fm rawG a b)) (app emp []):=by
 refine .go Tryz.f40 ?_
 refine .len 0 (fun hl0=> ?_)
 refine .len 1 (fun hl1=> ?_)
 exact .fin [.r [],.r [],.le (.nB 8 0 2),.r [(3,X (Xc3 41 [(0,8),(1,16)] (fc_both 82 rawG (by kernel_rfl) fc_rawG a b [] (by simp;omega)) X0))],.r [],.le (.fr 4 [(((fm rawG a b).length):Nat)=(List.map attrT (fm rawG a b)).length] ⟨lm,trivial⟩)] []
theorem fc_change(a b:List Attr)(hn:a.length+b.length<1099511627776):FC Tryz.prog 54 [VL 2 attrT a,VL 2 attrT b] (app emp []) (VL 2 attrT (fm chgG a b)) (app emp []):=by
 refine .go Tryz.f54 ?_
 refine .len 0 (fun hl0=> ?_)
 refine .len 1 (fun hl1=> ?_)
 exact .fin [.r [],.r [],.le (.nB 8 0 2),.r [(3,X (Xc3 41 [(0,8),(1,16)] (fc_both 95 chgG (by kernel_rfl) fc_chgG a b [] (by simp;omega)) X0))],.r [],.le (.fr 4 [(((fm chgG a b).length):Nat)=(List.map attrT (fm chgG a b)).length] ⟨lm,trivial⟩)] []
end Go.Ch
end
section
set_option linter.unusedVariables false
set_option linter.unusedSimpArgs false
set_option maxRecDepth 100000
set_option maxHeartbeats 4000000
open Go Go.Proofs Go.Ab
namespace Go.Ch
end Go.Ch
end
section
set_option linter.unusedVariables false
namespace Go.Ch
open Go Go.Ab
def intT(z:Int):Tree:= .sc (.int .i64 z)
def cmpI(x y:Int):Int:=if x<y then-1 else if x>y then 1 else 0
def orL:List Int→Int
 | []=>0
 |x::l=>if x≠0 then x else orL l
theorem orL_at{l:List Int}{i:Nat}(h:i<l.length):orL (l.drop i)=if l.getD i default≠0 then l.getD i default else orL (l.drop (i+1)):=by
 rw[List.drop_eq_getElem_cons h,orL]
 simp[List.getD,List.getElem?_eq_getElem h]
theorem orL_two(a b:Int):orL [a,b]=if a≠0 then a else b:=by
 by_cases h:a=0
 ·by_cases k:b=0<;>simp[orL,h,k]
 ·simp[orL,h]
end Go.Ch
end
section
set_option linter.unusedVariables false
namespace Go.Ab
open Go
variable {P:Program} {w:World} {F:Fen P} {S:Store} {m:Place} {n:Nat} {l0:List (Nat×Ob)} {s:St} {Q:Exit→St→Prop}
end Go.Ab
end
section
set_option linter.unusedVariables false
namespace Go.Ab
open Go
variable {P:Program}
def Xm0(es:List (Int×MV))(n:Int):Px (lookE es n=none):=⟨⟨none,none,none,some ⟨0,[],.junk,[]⟩,[]⟩,[lookE es n=none],fun h=>⟨h,trivial⟩⟩
def Xmu{β:Type}(f:β→Int×MV)(l l':List β)(n:Int)(id:Nat)(v:MV):Px (putE (l.map f) n v=l'.map f):=
 ⟨⟨none,some [(id,.mp (l'.map f) none)],none,none,[]⟩,[[(id,Ob.mp (l'.map f) none)]=[(id,Ob.mp (putE (l.map f) n v) none)]],fun h=>⟨by rw[h],trivial⟩⟩
def Xsm{α:Type}(f:α→Tree)(k:Nat)(l:List α)(hi:Int):Px (0≤hi∧hi≤(l.length:Int)):=
 ⟨oV (.xl k ((l.take hi.toNat).map f)),[0≤hi,hi≤(((l.map f).length:Nat):Int),hi=hi,Weak (.xl k ((l.map f).take hi.toNat)) (.xl k ((l.take hi.toNat).map f))],
  fun h=>⟨h.1,by rw[List.length_map];exact h.2,rfl,Weak.of_eq (by rw[List.map_take]),trivial⟩⟩
def Xax{α:Type}(k:Nat)(f:α→Tree)(id:Nat)(o ys:List α):Px (0<ys.length∧o.length+ys.length≤1099511627776):=
 ⟨⟨some (.row id (o++ys).length),some [(id,.row k false ((o++ys).map f))],none,none,[]⟩,
  [0< (ys.map f).length,(o.map f).length+(ys.map f).length≤1099511627776,Weak (.row id ((o.map f).length+(ys.map f).length)) (.row id (o++ys).length),[(id,Ob.row k false ((o++ys).map f))]=[(id,Ob.row k false (o.map f++ys.map f))]],
  fun h=>⟨by rw[List.length_map];exact h.1,by rw[List.length_map,List.length_map];exact h.2,Weak.of_eq (by simp),row_append rfl,trivial⟩⟩
end Go.Ab
end
section
set_option linter.unusedVariables false
set_option linter.unusedSimpArgs false
namespace Go.Ch
open Go Go.Ab
structure DOp where
 clock:Int
 site:Int
 kind:Int
 itm:Int
 prt:Int
 plc:ByteArray
 nm:ByteArray
 vl:ByteArray
 deriving DecidableEq
instance:Inhabited DOp:=⟨⟨0,0,0,0,0,mt,mt,mt⟩⟩
def dopT(o:DOp):Tree:= .agg [TI o.clock,TI o.site,TI o.kind,TI o.itm,TI o.prt,TS o.plc,TS o.nm,TS o.vl]
structure DItem where
 item:Int
 parent:Int
 place:ByteArray
 attrs:List Attr
instance:Inhabited DItem:=⟨⟨0,0,mt,[]⟩⟩
def plS(s:ByteArray)(i:Nat):Bool:=if i<s.size then(if byt s i<97∨122<byt s i then false else plS s (i+1)) else true
termination_by s.size-i
def placeB(s:ByteArray):Bool:=decide (1≤s.size∧s.size≤200∧byt s (s.size- 1)≠97)&&plS s 0
def stampC(a b:DOp):Int:=orL [cmpI a.clock b.clock,cmpI a.site b.site]
def ltO(a b:DOp):Prop:=a.clock<b.clock∨(a.clock=b.clock∧a.site<b.site)
instance (a b:DOp):Decidable (ltO a b):=by unfold ltO;infer_instance
theorem stampC_lt{a b:DOp}:stampC a b<0↔ltO a b:=by
 unfold stampC ltO cmpI
 rw[orL_two]
 split<;>split<;>(try split)<;>(try split)<;>omega
theorem stampC_ge{a b:DOp}:0≤stampC a b↔¬ltO a b:=by rw[←stampC_lt];omega
def opE(o:DOp):Int:=
 if o.kind≠0∧o.kind≠1 then 8
 else if o.clock<1∨1073741824<o.clock∨o.site<0∨1000<o.site∨o.itm<1∨1073741824<o.itm then 2
 else if(o.kind=0∧(seq o.nm mt=false∨seq o.vl mt=false))∨(o.kind=1∧(o.prt≠0∨seq o.plc mt=false)) then 4
 else if o.kind=0∧(o.prt< -1∨1073741824<o.prt) then 2
 else if(o.kind=0∧placeB o.plc=false)∨(o.kind=1∧nameGo o.nm=false) then 9
 else if o.kind=1∧seq o.vl mt=false∧valGo o.vl=false then 23
 else 0
def drawE(l:List DOp)(i:Nat):Int:=
 if i<l.length then
  if opE (l.getD i default)≠0 then opE (l.getD i default)
  else if 0<i∧¬ltO (l.getD (i- 1) default) (l.getD i default) then 5
  else drawE l (i+1)
 else 0
termination_by l.length-i
def unionO:List DOp→List DOp→Option (List DOp)
 | [],[]=>some []
 |a::l,[]=>(unionO l []).map (a:: ·)
 | [],b::r=>(unionO [] r).map (b:: ·)
 |a::l,b::r=>
  if ltO a b then(unionO l (b::r)).map (a:: ·)
  else if ltO b a then(unionO (a::l) r).map (b:: ·)
  else if a=b then(unionO l r).map (a:: ·) else none
termination_by a b=>a.length+b.length
theorem unionO_left{x y:List DOp}(h:0<x.length)(hy:y.length=0∨ltO (x.getD 0 default) (y.getD 0 default)):unionO x y=(unionO (x.drop 1) y).map (x.getD 0 default:: ·):=by
 cases x with
 |nil=>simp at h
 |cons a l=>
  cases y with
  |nil=>simp[unionO]
  |cons b r=>simp only[List.getD_cons_zero] at hy;rw[unionO,if_pos (by simpa using hy)];rfl
theorem unionO_right{x y:List DOp}(h:0<y.length)(hx:x.length=0∨ltO (y.getD 0 default) (x.getD 0 default)):unionO x y=(unionO x (y.drop 1)).map (y.getD 0 default:: ·):=by
 cases y with
 |nil=>simp at h
 |cons b r=>
  cases x with
  |nil=>simp[unionO]
  |cons a l=>
   simp only[List.getD_cons_zero] at hx
   have hx:ltO b a:=by simpa using hx
   rw[unionO,if_neg (by unfold ltO at*;omega),if_pos hx];rfl
theorem unionO_both{x y:List DOp}(h:0<x.length)(h':0<y.length)(h1:¬ltO (x.getD 0 default) (y.getD 0 default))(h2:¬ltO (y.getD 0 default) (x.getD 0 default)):
 unionO x y=if x.getD 0 default=y.getD 0 default then(unionO (x.drop 1) (y.drop 1)).map (x.getD 0 default:: ·) else none:=by
 cases x with
 |nil=>simp at h
 |cons a l=>
  cases y with
  |nil=>simp at h'
  |cons b r=>simp only[List.getD_cons_zero] at h1 h2;rw[unionO,if_neg h1,if_neg h2];rfl
theorem dop_ext{a b:DOp}(h1:a.clock=b.clock)(h2:a.site=b.site)(h3:a.kind=b.kind)(h4:a.itm=b.itm)(h5:a.prt=b.prt)(h6:a.plc=b.plc)(h7:a.nm=b.nm)(h8:a.vl=b.vl):a=b:=by
 cases a;cases b;simp_all
end Go.Ch
end
section
set_option linter.unusedVariables false
set_option linter.unusedSimpArgs false
namespace Go.Ch
open Go Go.Ab
def NPg(s:ByteArray):Prop:=nameGo s=true
def VPg(s:ByteArray):Prop:=valGo s=true
abbrev VG:=V NPg VPg
theorem getD_cons_succ'{a:Attr}{l:List Attr}{k:Nat}:(a::l).getD (k+1) default=l.getD k default:=by simp[List.getD]
theorem getD_zero'{a:Attr}{l:List Attr}:(a::l).getD 0 default=a:=rfl
theorem sorted_of_adj:∀{l:List Attr},(∀k,k+1<l.length→slt (l.getD k default).name (l.getD (k+1) default).name=true)→Sorted l
 | [],_=>trivial
 | [a],_=>⟨fun b hb=>(by cases hb),trivial⟩
 |a::b::l,h=>by
  have ih:=sorted_of_adj (l:=b::l) (fun k hk=>by have:=h (k+1) (by simp at hk⊢;omega);simpa using this)
  have h0:=h 0 (by simp)
  simp only[getD_zero',getD_cons_succ'] at h0
  refine⟨fun c hc=> ?_,ih⟩
  rcases List.mem_cons.1 hc with rfl|hc
  ·exact h0
  ·exact slt_trans h0 (ih.1 c hc)
theorem adj_of_sorted:∀{l:List Attr},Sorted l→∀k,k+1<l.length→slt (l.getD k default).name (l.getD (k+1) default).name=true
 | [],_,k,hk=>by simp at hk
 |a::l,h,0,hk=>by
  cases l with
  |nil=>simp at hk
  |cons b l=>exact h.1 b (by simp)
 |a::l,h,k+1,hk=>by
  have:=adj_of_sorted h.2 k (by simp at hk;omega)
  rw[getD_cons_succ',getD_cons_succ'];exact this
theorem getD_mem{l:List Attr}{k:Nat}(h:k<l.length):l.getD k default∈l:=by
 rw[show l.getD k default=l[k] by simp[List.getD,List.getElem?_eq_getElem h]]
 exact List.getElem_mem h
theorem mem_getD{l:List Attr}{a:Attr}(h:a∈l):∃k,k<l.length∧l.getD k default=a:=by
 obtain⟨k,hk,e⟩:=List.mem_iff_getElem.1 h
 exact⟨k,hk,by rw[←e];simp[List.getD,List.getElem?_eq_getElem hk]⟩
theorem chkA_all(e:Bool)(l:List Attr):∀(n i:Nat),l.length-i=n→(chkA e l i=0↔∀k,i≤k→k<l.length→Q NPg VPg e (l.getD k default).name (l.getD k default).val∧(0<k→slt (l.getD (k- 1) default).name (l.getD k default).name=true))
 |0,i,h=>by
  rw[chkA,if_neg (by omega)]
  exact⟨fun _ k h1 h2=>by omega,fun _=>rfl⟩
 |n+1,i,h=>by
  have hi:i<l.length:=by omega
  have ih:=chkA_all e l n (i+1) (by omega)
  rw[chkA,if_pos hi]
  have step:(∀k,i≤k→k<l.length→Q NPg VPg e (l.getD k default).name (l.getD k default).val∧(0<k→slt (l.getD (k- 1) default).name (l.getD k default).name=true))↔
   (Q NPg VPg e (l.getD i default).name (l.getD i default).val∧(0<i→slt (l.getD (i- 1) default).name (l.getD i default).name=true))∧chkA e l (i+1)=0:=by
   rw[ih]
   constructor
   ·exact fun h=>⟨h i (Nat.le_refl _) hi,fun k h1 h2=>h k (by omega) h2⟩
   ·rintro⟨h1,h2⟩ k h3 h4
    by_cases e:k=i
    ·subst e;exact h1
    ·exact h2 k (by omega) h4
  rw[step]
  generalize(l.getD i default)=x
  generalize(l.getD (i- 1) default)=y
  unfold Q NPg VPg
  have hm:seq x.val {data:=#[]}=true↔x.val=mt:=seq_iff
  have hm2:seq x.val {data:=#[]}=false↔x.val≠mt:=seq_no
  simp only[slt_or,hm2]
  cases h1:nameGo x.name with
  |false=>simp
  |true=>
   rw[if_neg (by decide)]
   cases h2:valGo x.val with
   |false=>
    by_cases h3:e=false∨x.val≠mt
    ·rw[if_pos ⟨rfl,h3⟩]
     constructor
     ·intro h;cases h
     ·rintro⟨⟨⟨_,h| ⟨h,h'⟩⟩,_⟩,_⟩
      ·cases h
      ·rcases h3 with h3|h3
       ·rw[h3] at h;cases h
       ·exact absurd h' h3
    ·rw[if_neg (fun h=>h3 h.2)]
     have he:e=true:=by cases e with|true=>rfl|false=>exact absurd (.inl rfl) h3
     have hx:x.val=mt:=Classical.byContradiction fun h=>h3 (.inr h)
     by_cases h4:0<i∧slt y.name x.name=false
     ·rw[if_pos h4]
      constructor
      ·intro h;cases h
      ·rintro⟨⟨_,h⟩,_⟩;rw[h h4.1] at h4;cases h4.2
     ·rw[if_neg h4]
      refine⟨fun h=>⟨⟨⟨rfl,.inr ⟨he,hx⟩⟩,fun h0=> ?_⟩,h⟩,fun h=>h.2⟩
      cases h5:slt y.name x.name with
      |true=>rfl
      |false=>exact absurd ⟨h0,h5⟩ h4
   |true=>
    rw[if_neg (fun h=>by cases h.1)]
    by_cases h4:0<i∧slt y.name x.name=false
    ·rw[if_pos h4]
     constructor
     ·intro h;cases h
     ·rintro⟨⟨_,h⟩,_⟩;rw[h h4.1] at h4;cases h4.2
    ·rw[if_neg h4]
     refine⟨fun h=>⟨⟨⟨rfl,.inl rfl⟩,fun h0=> ?_⟩,h⟩,fun h=>h.2⟩
     cases h5:slt y.name x.name with
     |true=>rfl
     |false=>exact absurd ⟨h0,h5⟩ h4
theorem chk_iff{e:Bool}{l:List Attr}:chkA e l 0=0↔VG e l:=by
 rw[chkA_all e l l.length 0 (by omega)]
 constructor
 ·intro h
  refine⟨sorted_of_adj (fun k hk=>(h (k+1) (by omega) hk).2 (by omega)),fun a ha=> ?_⟩
  obtain⟨k,hk,rfl⟩:=mem_getD ha
  exact(h k (by omega) hk).1
 ·intro h k _ hk
  refine⟨h.2 _ (getD_mem hk),fun h0=> ?_⟩
  have:=adj_of_sorted h.1 (k- 1) (by omega)
  rw[show k- 1+1=k by omega] at this
  exact this
theorem sameA_self(a:List Attr):∀(n i:Nat),a.length-i=n→sameA a a i=true
 |0,i,h=>by rw[sameA,if_neg (by omega)]
 |n+1,i,h=>by
  have hi:i<a.length:=by omega
  rw[sameA,if_pos hi,if_pos ⟨rfl,rfl⟩,sameA_self a n (i+1) (by omega)]
theorem sameL_self(a:List Attr):sameL a a=true:=by unfold sameL;rw[sameA_self a _ 0 rfl];simp
end Go.Ch
end
section
set_option linter.unusedVariables false
set_option linter.unusedSimpArgs false
namespace Go.Ch
open Go Go.Ab
structure Elem where
 char:Int
 ref:Int
 attrs:List Attr
instance:Inhabited Elem:=⟨⟨0,0,[]⟩⟩
def elemT(e:Elem):Tree:= .agg [.sc (.int .i64 e.char),.sc (.int .i64 e.ref),.lst 2 (e.attrs.map attrT)]
def CharP(c:Int):Prop:=c=9∨c=10∨(32≤c∧c<127)∨(160≤c∧c<55296)∨(57343<c∧c≤1114111)
instance (c:Int):Decidable (CharP c):=by unfold CharP;infer_instance
def elemE(x:Elem):Int:=
 if x.char=0↔x.ref=0 then 4
 else if(x.ref=0∧¬CharP x.char)∨(x.ref≠0∧(x.ref<1∨1073741824<x.ref)) then 2
 else chkA false x.attrs 0
theorem elemE_4{x:Elem}(h:x.char=0↔x.ref=0):elemE x=4:=by unfold elemE;rw[if_pos h]
theorem elemE_2{x:Elem}(h:¬(x.char=0↔x.ref=0))(h2:(x.ref=0∧¬CharP x.char)∨(x.ref≠0∧(x.ref<1∨1073741824<x.ref))):elemE x=2:=by unfold elemE;rw[if_neg h,if_pos h2]
theorem elemE_c{x:Elem}(h:¬(x.char=0↔x.ref=0))(h3:¬x.ref=0∨CharP x.char)(h4:x.ref=0∨(1≤x.ref∧x.ref≤1073741824)):elemE x=chkA false x.attrs 0:=by
 unfold elemE
 rw[if_neg h,if_neg]
 rintro(⟨a,b⟩| ⟨a,b⟩)
 ·rcases h3 with h3|h3
  ·exact h3 a
  ·exact b h3
 ·rcases h4 with h4|h4
  ·exact a h4
  ·omega
def partE(l:List Elem)(i:Nat):Int:=if i<l.length then(if elemE (l.getD i default)=0 then partE l (i+1) else elemE (l.getD i default)) else 0
termination_by l.length-i
def SzE(l:List Elem):Prop:=∀x∈l,Szd x.attrs
theorem getDE_mem{l:List Elem}{k:Nat}(h:k<l.length):l.getD k default∈l:=by
 rw[show l.getD k default=l[k] by simp[List.getD,List.getElem?_eq_getElem h]]
 exact List.getElem_mem h
theorem sameA_all(a b:List Attr):∀(n i:Nat),a.length-i=n→sameA a b i=true→∀k,i≤k→k<a.length→a.getD k default=b.getD k default
 |0,i,h,_=>fun k h1 h2=>by omega
 |n+1,i,h,hs=>by
  have hi:i<a.length:=by omega
  rw[sameA,if_pos hi] at hs
  split at hs
  ·rename_i he
   intro k h1 h2
   by_cases e:k=i
   ·subst e
    generalize a.getD k default=x at*
    generalize b.getD k default=y at*
    cases x;cases y;simp_all
   ·exact sameA_all a b n (i+1) (by omega) hs k (by omega) h2
  ·cases hs
theorem sameL_eq{a b:List Attr}:sameL a b=true↔a=b:=by
 constructor
 ·intro h
  unfold sameL at h
  simp only[Bool.and_eq_true,decide_eq_true_eq] at h
  refine List.ext_getElem h.1 (fun k h1 h2=> ?_)
  have:=sameA_all a b _ 0 rfl h.2 k (by omega) h1
  simpa[List.getD,List.getElem?_eq_getElem h1,List.getElem?_eq_getElem h2] using this
 ·intro h;subst h;exact sameL_self _
theorem partE_all(l:List Elem):∀(n i:Nat),l.length-i=n→(partE l i=0↔∀k,i≤k→k<l.length→elemE (l.getD k default)=0)
 |0,i,h=>by rw[partE,if_neg (by omega)];exact⟨fun _ k h1 h2=>by omega,fun _=>rfl⟩
 |n+1,i,h=>by
  have hi:i<l.length:=by omega
  have ih:=partE_all l n (i+1) (by omega)
  rw[partE,if_pos hi]
  by_cases e:elemE (l.getD i default)=0
  ·rw[if_pos e,ih]
   constructor
   ·intro h k h1 h2
    by_cases ek:k=i
    ·subst ek;exact e
    ·exact h k (by omega) h2
   ·exact fun h k h1 h2=>h k (by omega) h2
  ·rw[if_neg e]
   exact⟨fun h=>absurd h e,fun h=>h i (Nat.le_refl _) hi⟩
theorem part_iff{l:List Elem}:partE l 0=0↔∀x∈l,elemE x=0:=by
 rw[partE_all l _ 0 rfl]
 constructor
 ·intro h x hx
  obtain⟨k,hk,e⟩:=List.mem_iff_getElem.1 hx
  have:=h k (by omega) hk
  rw[←e]
  simpa[List.getD,List.getElem?_eq_getElem hk] using this
 ·exact fun h k _ hk=>h _ (getDE_mem hk)
end Go.Ch
end
section
set_option linter.unusedVariables false
set_option linter.unusedSimpArgs false
set_option maxRecDepth 100000
set_option maxHeartbeats 4000000
open Go Go.Proofs Go.Ab
namespace Go.Ch
theorem fc_char(c:Int):FC Tryz.prog 62 [VI c] (app emp []) (VB (decide (CharP c))) (app emp []):=by
 refine .go Tryz.f62 ?_
 have e1:((decide (CharP c)):Bool)=(((((c==9)|| (c==10))|| (decide (c≥32)&&decide (c<127)))|| (decide (c≥160)&&decide (c<55296)))|| (decide (c>57343)&&decide (c≤1114111))):=by
  rw[Bool.eq_iff_iff,decide_eq_true_iff];unfold CharP;simp only[Bool.or_eq_true,Bool.and_eq_true,decide_eq_true_eq,beq_iff_eq];constructor<;>intro hh<;>omega
 exact .finE [.r [],.r [(4,Xv 1 (!(c==9)) X0),(5,X (Xk' (c==9))),(8,Xv 1 (!((c==9)|| (c==10))) X0),(9,Xv 1 (!((c==9)|| (c==10))) X0),(11,Xv 1 ((!((c==9)|| (c==10)))&&(decide (c≥32))) X0),(12,Xka (!((c==9)|| (c==10))) (decide (c≥32))),(13,X (Xk' ((c==9)|| (c==10)))),(16,Xv 1 (!(((c==9)|| (c==10))|| (decide (c≥32)&&decide (c<127)))) X0),(17,Xv 1 (!(((c==9)|| (c==10))|| (decide (c≥32)&&decide (c<127)))) X0),(19,Xv 1 ((!(((c==9)|| (c==10))|| (decide (c≥32)&&decide (c<127))))&&(decide (c≥160))) X0),(20,Xka (!(((c==9)|| (c==10))|| (decide (c≥32)&&decide (c<127)))) (decide (c≥160))),(21,X (Xk' (((c==9)|| (c==10))|| (decide (c≥32)&&decide (c<127))))),(24,Xv 1 (!((((c==9)|| (c==10))|| (decide (c≥32)&&decide (c<127)))|| (decide (c≥160)&&decide (c<55296)))) X0),(25,Xv 1 (!((((c==9)|| (c==10))|| (decide (c≥32)&&decide (c<127)))|| (decide (c≥160)&&decide (c<55296)))) X0),(27,Xv 1 ((!((((c==9)|| (c==10))|| (decide (c≥32)&&decide (c<127)))|| (decide (c≥160)&&decide (c<55296))))&&(decide (c>57343))) X0),(28,Xka (!((((c==9)|| (c==10))|| (decide (c≥32)&&decide (c<127)))|| (decide (c≥160)&&decide (c<55296)))) (decide (c>57343))),(29,X (Xk' ((((c==9)|| (c==10))|| (decide (c≥32)&&decide (c<127)))|| (decide (c≥160)&&decide (c<55296)))))]] [] (fun z0:Bool=>(VB z0,[])) _ _ e1
theorem nz_iff{a b:Int}:((a !=0)=(b !=0))↔(a=0↔b=0):=by
 rw[Bool.eq_iff_iff];simp;omega
theorem fc_elem(x:Elem):FC Tryz.prog 28 [.t (elemT x)] (app emp []) (VI (elemE x)) (app emp []):=by
 refine .go Tryz.f28 ?_
 refine .bp [.r [],.r []] ((x.char !=0)==(x.ref !=0)) (fun h1=> ?_) (fun h1=> ?_)
 ·
  have e1:((elemE x):Int)=4:=by
   first|exact elemE_4 (nz_iff.1 h1)|exact elemE_2 (fun h=>h1 (nz_iff.2 h)) (.inl h3)|exact elemE_2 (fun h=>h1 (nz_iff.2 h)) (.inr h4)|exact elemE_c (fun h=>h1 (nz_iff.2 h)) h3 h4| (exfalso;simp_all;done)
  exact .finE [.r []] [] (fun z0:Int=>(VI z0,[])) _ _ e1
 ·
  refine .bp [.r [(5,Xv 1 (x.ref==0) X0),(6,Xv 1 (x.ref==0) (Xc0 (fc_char x.char) X0)),(7,Xv 1 (x.ref==0) X0),(8,X (Xk (x.ref==0)))]] ((x.ref==0)&& !(decide (CharP x.char))) (fun h3=> ?_) (fun h3=> ?_)
  ·
   refine .bp [] ((x.ref==0)&& !(decide (CharP x.char))) (fun h3=> ?_) (fun h3=> ?_)
   ·
    have e2:((elemE x):Int)=2:=by
     first|exact elemE_4 (nz_iff.1 h1)|exact elemE_2 (fun h=>h1 (nz_iff.2 h)) (.inl h3)|exact elemE_2 (fun h=>h1 (nz_iff.2 h)) (.inr h4)|exact elemE_c (fun h=>h1 (nz_iff.2 h)) h3 h4| (exfalso;simp_all;done)
    exact .finE [.r []] [] (fun z0:Int=>(VI z0,[])) _ _ e2
   ·
    have e3:((elemE x):Int)=(chkA false x.attrs 0):=by
     first|exact elemE_4 (nz_iff.1 h1)|exact elemE_2 (fun h=>h1 (nz_iff.2 h)) (.inl h3)|exact elemE_2 (fun h=>h1 (nz_iff.2 h)) (.inr h4)|exact elemE_c (fun h=>h1 (nz_iff.2 h)) h3 h4| (exfalso;simp_all;done)
    exact .finE [.r [(2,X (Xc0 (fc_acheck x.attrs) X0))]] [] (fun z0:Int=>(VI z0,[])) _ _ e3
  ·
   refine .bp [.r [(5,Xv 1 (x.ref !=0) X0),(6,Xv 1 (x.ref !=0) X0),(7,Xv 1 (x.ref !=0) X0),(9,Xv 1 ((x.ref !=0)&& !(decide (x.ref<1))) X0),(10,Xv 1 ((x.ref !=0)&& !(decide (x.ref<1))) X0),(11,Xko (x.ref !=0) (decide (x.ref<1))),(12,X (Xk (x.ref !=0)))]] ((x.ref !=0)&&(decide (x.ref<1)||decide (x.ref>1073741824))) (fun h4=> ?_) (fun h4=> ?_)
   ·
    have e4:((elemE x):Int)=2:=by
     first|exact elemE_4 (nz_iff.1 h1)|exact elemE_2 (fun h=>h1 (nz_iff.2 h)) (.inl h3)|exact elemE_2 (fun h=>h1 (nz_iff.2 h)) (.inr h4)|exact elemE_c (fun h=>h1 (nz_iff.2 h)) h3 h4| (exfalso;simp_all;done)
    exact .finE [.r []] [] (fun z0:Int=>(VI z0,[])) _ _ e4
   ·
    have e5:((elemE x):Int)=(chkA false x.attrs 0):=by
     first|exact elemE_4 (nz_iff.1 h1)|exact elemE_2 (fun h=>h1 (nz_iff.2 h)) (.inl h3)|exact elemE_2 (fun h=>h1 (nz_iff.2 h)) (.inr h4)|exact elemE_c (fun h=>h1 (nz_iff.2 h)) h3 h4| (exfalso;simp_all;done)
    exact .finE [.r [(2,X (Xc0 (fc_acheck x.attrs) X0))]] [] (fun z0:Int=>(VI z0,[])) _ _ e5
theorem fc_checkPart(l:List Elem):FC Tryz.prog 14 [VL 3 elemT l] (app emp []) (VI (partE l 0)) (app emp []):=by
 refine .go Tryz.f14 ?_
 refine .len 0 (fun hl0=> ?_)
 refine .loop (α:=Nat) [.r [],.r [(1,X (Xl elemT l))]] 32 (fun i=>([(6,VL 3 elemT l),(7,VI (l.length:Int)),(8,VI (i:Int))],[])) (fun i=>i≤l.length∧partE l 0=partE l i) (fun i=>l.length-i) (0:Nat) ?_ ?_
 ·
  exact⟨by omega,rfl⟩
 rintro i I2 ih2
 try dsimp only at I2
 refine .bp [.r []] (decide ((i:Int)< (l.length:Int))) (fun h2=> ?_) (fun h2=> ?_)
 ·
  refine .bp [.r [(0,X (Xi elemT l (i:Int)))],.r [(1,X (Xc0 (fc_elem ((l.getD i default))) X0))],.r []] ((elemE ((l.getD i default))) !=0) (fun h5=> ?_) (fun h5=> ?_)
  ·
   have e1:((partE l 0):Int)=(elemE ((l.getD i default))):=by
    rw[I2.2,partE];((repeat' split)<;>first|rfl|omega| (simp_all;done)| (simp_all;omega))
   exact .finE [.r []] [] (fun z0:Int=>(VI z0,[])) _ _ e1
  ·
   refine .back [.r [(0,X (Xn ((i:Int)+1)))]] [] (ih2 ((i+1):Nat) ?_ ?_)
   ·
    refine⟨by omega,?_⟩;rw[I2.2,partE,if_pos (by omega),if_pos (by omega)]
   ·
    ((try dsimp only);omega)
 ·
  have e2:((partE l 0):Int)=0:=by
   rw[I2.2,partE];((repeat' split)<;>first|rfl|omega| (simp_all;done)| (simp_all;omega))
  exact .finE [.r []] [] (fun z0:Int=>(VI z0,[])) _ _ e2
theorem fc_attrSame(a b:List Attr):FC Tryz.prog 30 [VL 2 attrT a,VL 2 attrT b] (app emp []) (VB (sameL a b)) (app emp []):=by
 refine .go Tryz.f30 ?_
 refine .len 0 (fun hl0=> ?_)
 refine .len 1 (fun hl1=> ?_)
 refine .bp [.r [],.r [(1,X (Xl attrT a)),(3,X (Xl attrT b))]] ((a.length:Int) !=(b.length:Int)) (fun h1=> ?_) (fun h1=> ?_)
 ·
  have e1:((sameL a b):Bool)=false:=by
   unfold sameL;rw[decide_eq_false (by omega)];rfl
  exact .finE [.r []] [] (fun z0:Bool=>(VB z0,[])) _ _ e1
 ·
  refine .loop (α:=Nat) [.r [(1,X (Xl attrT a))]] 72 (fun i=>([(0,VL 2 attrT a),(1,VL 2 attrT b),(12,VI (a.length:Int)),(13,VI (i:Int))],[])) (fun i=>i≤a.length∧sameA a b 0=sameA a b i) (fun i=>a.length-i) (0:Nat) ?_ ?_
  ·
   exact⟨by omega,rfl⟩
  rintro i I4 ih4
  try dsimp only at I4
  refine .bp [.r []] (decide ((i:Int)< (a.length:Int))) (fun h4=> ?_) (fun h4=> ?_)
  ·
   refine .bp [.r [],.r [(2,X (Xi attrT a (i:Int))),(6,X (Xi attrT b (i:Int)))]] (!(seq (((a.getD i default)).name) (((b.getD i default)).name)&&(seq (((a.getD i default)).val) (((b.getD i default)).val)&&true))) (fun h6=> ?_) (fun h6=> ?_)
   ·
    have e2:((sameL a b):Bool)=false:=by
     unfold sameL;rw[I4.2,sameA,if_pos (by omega),if_neg (by clear ih4;simp only[seq_no,seq_iff] at h6;rintro⟨x,y⟩;simp_all)];simp
    exact .finE [.r []] [] (fun z0:Bool=>(VB z0,[])) _ _ e2
   ·
    refine .back [.r [(0,X (Xn ((i:Int)+1)))]] [] (ih4 ((i+1):Nat) ?_ ?_)
    ·
     refine⟨by omega,?_⟩;rw[I4.2,sameA,if_pos (by omega),if_pos (by clear ih4;simp only[seq_no,seq_iff] at h6;simp_all)]
    ·
     ((try dsimp only);omega)
  ·
   have e3:((sameL a b):Bool)=true:=by
    unfold sameL;rw[I4.2,sameA,if_neg (by omega),decide_eq_true (by omega)];rfl
   exact .finE [.r []] [] (fun z0:Bool=>(VB z0,[])) _ _ e3
end Go.Ch
end
section
set_option linter.unusedVariables false
set_option linter.unusedSimpArgs false
namespace Go.Ch
open Go Go.Ab
inductive U where
 |K
 |A
 |C
abbrev rep(n:Nat)(x:U):List U:=List.replicate n x
theorem rep_succ(n:Nat)(x:U):rep (n+1) x=x::rep n x:=rfl
def oldU:List U→Nat
 | []=>0
 | .A::u=>oldU u
 | .K::u=>oldU u+1
 | .C::u=>oldU u+1
def newU:List U→Nat
 | []=>0
 | .C::u=>newU u
 | .K::u=>newU u+1
 | .A::u=>newU u+1
end Go.Ch
end
section
set_option linter.unusedVariables false
set_option linter.unusedSimpArgs false
namespace Go.Ch
open Go Go.Ab
structure AxStep where
 kind:Int
 n:Int
instance:Inhabited AxStep:=⟨⟨0,0⟩⟩
def stepT(s:AxStep):Tree:= .agg [.sc (.int .i64 s.kind),.sc (.int .i64 s.n)]
def uOf(k:Int):U:=if k=1 then .A else if k=2 then .C else .K
def ex:List AxStep→List U
 | []=>[]
 |s::l=>rep s.n.toNat (uOf s.kind)++ex l
def Ok1(s:AxStep):Prop:=0≤s.kind∧s.kind≤2∧1≤s.n
def Nx(s t:AxStep):Prop:=s.kind≠t.kind∧¬(s.kind=2∧t.kind=1)
def Form:List AxStep→Prop
 | []=>True
 | [s]=>Ok1 s
 |s::t::l=>Ok1 s∧Nx s t∧Form (t::l)
theorem Form.head{s:AxStep}{l:List AxStep}(h:Form (s::l)):Ok1 s:=by
 cases l with
 |nil=>exact h
 |cons t l=>exact h.1
theorem Form.tail{s:AxStep}{l:List AxStep}(h:Form (s::l)):Form l:=by
 cases l with
 |nil=>trivial
 |cons t l=>exact h.2.2
structure Wr where
 out:List AxStep
 add:Int
 cut:Int
end Go.Ch
end
section
set_option linter.unusedVariables false
set_option linter.unusedSimpArgs false
namespace Go.Ch
open Go Go.Ab
def chkX(l:List AxStep)(i:Nat)(b a:Int):Int:=
 if i<l.length then
  if(l.getD i default).kind<0∨2< (l.getD i default).kind then 8
  else if(l.getD i default).n<1∨2147483647< (l.getD i default).n then 2
  else if 0<i∧((l.getD (i- 1) default).kind=(l.getD i default).kind∨((l.getD (i- 1) default).kind=2∧(l.getD i default).kind=1)) then 5
  else chkX l (i+1) (if(l.getD i default).kind≠1 then min (b+(l.getD i default).n) 2147483648 else b) (if(l.getD i default).kind≠2 then min (a+(l.getD i default).n) 2147483648 else a)
 else if 2147483647<b∨2147483647<a then 3 else 0
termination_by l.length-i
def checkX(l:List AxStep):Int:=chkX l 0 0 0
def FormAt(l:List AxStep)(i:Nat):Prop:=∀k,i≤k→k<l.length→Ok1 (l.getD k default)∧(0<k→Nx (l.getD (k- 1) default) (l.getD k default))
theorem drop_ats{l:List AxStep}{i:Nat}(h:i<l.length):l.drop i=l.getD i default::l.drop (i+1):=by
 rw[List.drop_eq_getElem_cons h];simp[List.getD,List.getElem?_eq_getElem h]
theorem drop_ends{l:List AxStep}{i:Nat}(h:¬i<l.length):l.drop i=[]:=List.drop_eq_nil_of_le (by omega)
theorem old_K(n:Nat)(u:List U):oldU (rep n .K++u)=n+oldU u:=by
 induction n with
 |zero=>simp
 |succ n ih=>rw[rep_succ,List.cons_append,oldU,ih];omega
theorem old_A(n:Nat)(u:List U):oldU (rep n .A++u)=oldU u:=by
 induction n with
 |zero=>simp
 |succ n ih=>rw[rep_succ,List.cons_append,oldU,ih]
theorem old_C(n:Nat)(u:List U):oldU (rep n .C++u)=n+oldU u:=by
 induction n with
 |zero=>simp
 |succ n ih=>rw[rep_succ,List.cons_append,oldU,ih];omega
theorem new_K(n:Nat)(u:List U):newU (rep n .K++u)=n+newU u:=by
 induction n with
 |zero=>simp
 |succ n ih=>rw[rep_succ,List.cons_append,newU,ih];omega
theorem new_A(n:Nat)(u:List U):newU (rep n .A++u)=n+newU u:=by
 induction n with
 |zero=>simp
 |succ n ih=>rw[rep_succ,List.cons_append,newU,ih];omega
theorem new_C(n:Nat)(u:List U):newU (rep n .C++u)=newU u:=by
 induction n with
 |zero=>simp
 |succ n ih=>rw[rep_succ,List.cons_append,newU,ih]
theorem old_rep(n:Nat)(k:Int)(u:List U):(oldU (rep n (uOf k)++u):Int)=(if k=1 then(0:Int) else(n:Int))+oldU u:=by
 unfold uOf
 by_cases h1:k=1
 ·rw[if_pos h1,if_pos h1,old_A];omega
 ·rw[if_neg h1,if_neg h1]
  by_cases h2:k=2
  ·rw[if_pos h2,old_C];omega
  ·rw[if_neg h2,old_K];omega
theorem new_rep(n:Nat)(k:Int)(u:List U):(newU (rep n (uOf k)++u):Int)=(if k=2 then(0:Int) else(n:Int))+newU u:=by
 unfold uOf
 by_cases h1:k=1
 ·rw[if_pos h1,new_A,if_neg (by omega)];omega
 ·rw[if_neg h1]
  by_cases h2:k=2
  ·rw[if_pos h2,if_pos h2,new_C];omega
  ·rw[if_neg h2,if_neg h2,new_K];omega
theorem chkX_all(l:List AxStep):∀(m i:Nat) (b a:Int),l.length-i=m→0≤b→0≤a→b≤2147483648→a≤2147483648→
 (chkX l i b a=0↔FormAt l i∧b+oldU (ex (l.drop i))≤2147483647∧a+newU (ex (l.drop i))≤2147483647)
 |0,i,b,a,h,hb,ha,hb2,ha2=>by
  rw[chkX,if_neg (by omega),drop_ends (by omega)]
  simp only[ex,oldU,newU]
  split
  ·constructor
   ·intro h;omega
   ·rintro⟨_,h1,h2⟩;omega
  ·exact⟨fun _=>⟨fun k h1 h2=>by omega,by omega,by omega⟩,fun _=>rfl⟩
 |m+1,i,b,a,h,hb,ha,hb2,ha2=>by
  have hi:i<l.length:=by omega
  rw[chkX,if_pos hi]
  have step:FormAt l i↔(Ok1 (l.getD i default)∧(0<i→Nx (l.getD (i- 1) default) (l.getD i default)))∧FormAt l (i+1):=by
   constructor
   ·exact fun h=>⟨h i (Nat.le_refl _) hi,fun k h1 h2=>h k (by omega) h2⟩
   ·rintro⟨h1,h2⟩ k h3 h4
    by_cases e:k=i
    ·subst e;exact h1
    ·exact h2 k (by omega) h4
  rw[step,drop_ats hi]
  simp only[ex]
  rw[old_rep,new_rep]
  have ih:=fun b' a'=>chkX_all l m (i+1) b' a' (by omega)
  generalize l.getD i default=x at*
  generalize l.getD (i- 1) default=y at*
  unfold Ok1 Nx
  by_cases c1:x.kind<0∨2<x.kind
  ·rw[if_pos c1];constructor
   ·intro h;omega
   ·rintro⟨⟨⟨h,_⟩,_⟩,_⟩;omega
  rw[if_neg c1]
  have n0:(oldU (ex (l.drop (i+1))):Int)≥0:=Int.natCast_nonneg _
  have n1:(newU (ex (l.drop (i+1))):Int)≥0:=Int.natCast_nonneg _
  by_cases c2:x.n<1∨2147483647<x.n
  ·rw[if_pos c2];constructor
   ·intro h;omega
   ·rintro⟨⟨⟨h,_⟩,_⟩,h1,h2⟩
    exfalso
    by_cases k1:x.kind=1
    ·rw[if_neg (by omega)] at h2;omega
    ·rw[if_neg k1] at h1;omega
  rw[if_neg c2]
  have hn:(x.n.toNat:Int)=x.n:=Int.toNat_of_nonneg (by omega)
  rw[hn]
  by_cases c3:0<i∧(y.kind=x.kind∨(y.kind=2∧x.kind=1))
  ·rw[if_pos c3];constructor
   ·intro h;omega
   ·rintro⟨⟨⟨_,h⟩,_⟩,_⟩
    have:=h c3.1
    rcases c3.2 with q|q
    ·exact absurd q this.1
    ·exact absurd q this.2
  rw[if_neg c3,ih _ _ (by split<;>omega) (by split<;>omega) (by split<;>omega) (by split<;>omega)]
  constructor
  ·rintro⟨f,h1,h2⟩
   refine⟨⟨⟨⟨by omega,by omega,by omega⟩,fun h0=>⟨fun e=>c3 ⟨h0,.inl e⟩,fun e=>c3 ⟨h0,.inr e⟩⟩⟩,f⟩,?_,?_⟩
   ·by_cases k1:x.kind=1
    ·rw[if_pos k1];rw[if_neg (by omega)] at h1;omega
    ·rw[if_neg k1];rw[if_pos k1] at h1;omega
   ·by_cases k1:x.kind=2
    ·rw[if_pos k1];rw[if_neg (by omega)] at h2;omega
    ·rw[if_neg k1];rw[if_pos k1] at h2;omega
  ·rintro⟨⟨_,f⟩,h1,h2⟩
   refine⟨f,?_,?_⟩
   ·by_cases k1:x.kind=1
    ·rw[if_pos k1] at h1;rw[if_neg (by omega)];omega
    ·rw[if_neg k1] at h1;rw[if_pos k1];omega
   ·by_cases k1:x.kind=2
    ·rw[if_pos k1] at h2;rw[if_neg (by omega)];omega
    ·rw[if_neg k1] at h2;rw[if_pos k1];omega
theorem form_of_at:∀{l:List AxStep},FormAt l 0→Form l
 | [],_=>trivial
 | [s],h=>(h 0 (Nat.le_refl _) (by simp)).1
 |s::t::l,h=>by
  have h0:=h 0 (Nat.le_refl _) (by simp)
  have h1:=h 1 (by omega) (by simp)
  refine⟨h0.1,h1.2 (by omega),form_of_at (l:=t::l) (fun k _ hk=> ?_)⟩
  have:=h (k+1) (by omega) (by simp at hk⊢;omega)
  refine⟨by simpa using this.1,fun hk0=> ?_⟩
  obtain⟨m,rfl⟩:∃m,k=m+1:=⟨k- 1,by omega⟩
  simpa using this.2 (by omega)
theorem at_of_form:∀{l:List AxStep},Form l→FormAt l 0
 | [],_=>fun k _ hk=>by simp at hk
 |s::l,h=>by
  have ih:=at_of_form h.tail
  intro k _ hk
  cases k with
  |zero=>exact⟨h.head,fun h=>absurd h (by decide)⟩
  |succ k=>
   have:=ih k (by omega) (by simpa using hk)
   refine⟨by simpa using this.1,fun _=> ?_⟩
   cases k with
   |zero=>
    cases l with
    |nil=>simp at hk
    |cons t l=>exact h.2.1
   |succ k=>simpa using this.2 (by omega)
def Valid(l:List AxStep):Prop:=Form l∧oldU (ex l)≤2147483647∧newU (ex l)≤2147483647
theorem check_iff{l:List AxStep}:checkX l=0↔Valid l:=by
 unfold checkX Valid
 rw[chkX_all l _ 0 0 0 rfl (by decide) (by decide) (by decide) (by decide),List.drop_zero]
 constructor
 ·rintro⟨a,b,c⟩;exact⟨form_of_at a,by omega,by omega⟩
 ·rintro⟨a,b,c⟩;exact⟨at_of_form a,by omega,by omega⟩
def ru(l:List AxStep)(u:Int):List U:=(ex l).drop u.toNat
end Go.Ch
end
section
set_option linter.unusedVariables false
set_option linter.unusedSimpArgs false
set_option maxRecDepth 100000
set_option maxHeartbeats 4000000
open Go Go.Proofs Go.Ab
namespace Go.Ch
theorem fc_axCheck(l:List AxStep):FC Tryz.prog 119 [VL 2 stepT l] (app emp []) (VI (checkX l)) (app emp []):=by
 refine .go Tryz.f119 ?_
 refine .len 0 (fun hl0=> ?_)
 refine .loop (α:=Int×Int×Nat) [.r [],.r [],.r [(1,X (Xl stepT l))]] 48 (fun(b,a,i)=>([(0,VL 2 stepT l),(3,VI b),(4,VI a),(7,VL 2 stepT l),(8,VI (l.length:Int)),(9,VI (i:Int))],[])) (fun(b,a,i)=>i≤l.length∧0≤b∧b≤2147483648∧0≤a∧a≤2147483648∧checkX l=chkX l i b a) (fun(b,a,i)=>l.length-i) (0,0,0) ?_ ?_
 ·
  exact⟨by omega,by decide,by decide,by decide,by decide,rfl⟩
 rintro⟨b,a,i⟩ I3 ih3
 try dsimp only at I3
 refine .bp [.r []] (decide ((i:Int)< (l.length:Int))) (fun h3=> ?_) (fun h3=> ?_)
 ·
  refine .bp [.r [(1,X (Xi stepT l (i:Int)))],.r [(5,Xv 1 (!(decide ((((l.getD i default)).kind)< 0))) X0),(6,Xv 1 (!(decide ((((l.getD i default)).kind)< 0))) X0),(7,X (Xk' (decide ((((l.getD i default)).kind)< 0))))]] (decide ((((l.getD i default)).kind)< 0)||decide ((((l.getD i default)).kind)> 2)) (fun h5=> ?_) (fun h5=> ?_)
  ·
   have e1:((checkX l):Int)=8:=by
    rw[I3.2.2.2.2.2,chkX];((repeat' split)<;>first|rfl|omega| (simp_all;done)| (simp_all;omega))
   exact .finE [.r []] [] (fun z0:Int=>(VI z0,[])) _ _ e1
  ·
   refine .bp [.r [(5,Xv 1 (!(decide ((((l.getD i default)).n)< 1))) X0),(6,Xv 1 (!(decide ((((l.getD i default)).n)< 1))) X0),(7,X (Xk' (decide ((((l.getD i default)).n)< 1))))]] (decide ((((l.getD i default)).n)< 1)||decide ((((l.getD i default)).n)> 2147483647)) (fun h7=> ?_) (fun h7=> ?_)
   ·
    have e2:((checkX l):Int)=2:=by
     rw[I3.2.2.2.2.2,chkX];((repeat' split)<;>first|rfl|omega| (simp_all;done)| (simp_all;omega))
    exact .finE [.r []] [] (fun z0:Int=>(VI z0,[])) _ _ e2
   ·
    refine .bp [.r [(5,Xv 1 (decide ((i:Int)> 0)) (Xn ((i:Int)- 1))),(6,Xv 2 (decide ((i:Int)> 0)) (Xi' stepT l ((i:Int)- 1) (i- 1))),(7,Xv 1 (decide ((i:Int)> 0)) X0),(8,Xv 1 (decide ((i:Int)> 0)) X0),(10,Xv 1 (decide ((i:Int)> 0)) X0),(11,Xv 2 (decide ((i:Int)> 0)) X0),(12,Xv 1 (decide ((i:Int)> 0)) X0),(15,Xv 1 ((decide ((i:Int)> 0))&& !((((l.getD (i- 1) default)).kind)==(((l.getD i default)).kind))) (Xn ((i:Int)- 1))),(16,Xv 2 ((decide ((i:Int)> 0))&& !((((l.getD (i- 1) default)).kind)==(((l.getD i default)).kind))) (Xi' stepT l ((i:Int)- 1) (i- 1))),(17,Xv 1 ((decide ((i:Int)> 0))&& !((((l.getD (i- 1) default)).kind)==(((l.getD i default)).kind))) X0),(18,Xv 1 ((decide ((i:Int)> 0))&& !((((l.getD (i- 1) default)).kind)==(((l.getD i default)).kind))) X0),(19,Xv 1 ((decide ((i:Int)> 0))&& !((((l.getD (i- 1) default)).kind)==(((l.getD i default)).kind))) X0),(20,Xv 1 ((decide ((i:Int)> 0))&& !((((l.getD (i- 1) default)).kind)==(((l.getD i default)).kind))) X0),(22,Xv 1 (((decide ((i:Int)> 0))&& !((((l.getD (i- 1) default)).kind)==(((l.getD i default)).kind)))&&((((l.getD (i- 1) default)).kind)==2)) X0),(23,Xv 1 (((decide ((i:Int)> 0))&& !((((l.getD (i- 1) default)).kind)==(((l.getD i default)).kind)))&&((((l.getD (i- 1) default)).kind)==2)) X0),(24,Xka ((decide ((i:Int)> 0))&& !((((l.getD (i- 1) default)).kind)==(((l.getD i default)).kind))) ((((l.getD (i- 1) default)).kind)==2)),(25,Xko (decide ((i:Int)> 0)) ((((l.getD (i- 1) default)).kind)==(((l.getD i default)).kind))),(26,X (Xk (decide ((i:Int)> 0))))]] (decide ((i:Int)> 0)&&(((((l.getD (i- 1) default)).kind)==(((l.getD i default)).kind))|| (((((l.getD (i- 1) default)).kind)==2)&&((((l.getD i default)).kind)==1)))) (fun h9=> ?_) (fun h9=> ?_)
    ·
     have e3:((checkX l):Int)=5:=by
      rw[I3.2.2.2.2.2,chkX];((repeat' split)<;>first|rfl|omega| (simp_all;done)| (simp_all;omega))
     exact .finE [.r []] [] (fun z0:Int=>(VI z0,[])) _ _ e3
    ·
     refine .bp [.r []] ((((l.getD i default)).kind) !=1) (fun h11=> ?_) (fun h11=> ?_)
     ·
      refine .bp [.r [(3,X (Xn (b+(((l.getD i default)).n)))),(4,X (Xmin (b+(((l.getD i default)).n)) 2147483648))],.r []] ((((l.getD i default)).kind) !=2) (fun h13=> ?_) (fun h13=> ?_)
      ·
       refine .at 568 [(80,80)] ([(0,VL 2 stepT l),(3,VI (min (b+(((l.getD i default)).n)) 2147483648)),(4,VI a),(6,.ptr 80 0),(7,VL 2 stepT l),(8,VI (l.length:Int)),(9,VI (i:Int)),(70,VB ((((l.getD i default)).kind) !=2))],[(80,.box [VI (((l.getD i default)).kind),VI (((l.getD i default)).n)])]) ?_
       refine .back [.r [(3,X (Xn (a+(((l.getD i default)).n)))),(4,X (Xmin (a+(((l.getD i default)).n)) 2147483648))],.r [(0,X (Xn ((i:Int)+1)))]] [] (ih3 ((min (b+(((l.getD i default)).n)) 2147483648),(min (a+(((l.getD i default)).n)) 2147483648),(i+1)) ?_ ?_)
       ·
        refine⟨by omega,by omega,by omega,by omega,by omega,?_⟩;rw[I3.2.2.2.2.2,chkX];((repeat' split)<;>first|rfl|omega| (simp_all;done)| (simp_all;omega))
       ·
        ((try dsimp only);omega)
      ·
       refine .at 568 [(80,80)] ([(0,VL 2 stepT l),(3,VI (min (b+(((l.getD i default)).n)) 2147483648)),(4,VI a),(6,.ptr 80 0),(7,VL 2 stepT l),(8,VI (l.length:Int)),(9,VI (i:Int)),(70,VB ((((l.getD i default)).kind) !=2))],[(80,.box [VI (((l.getD i default)).kind),VI (((l.getD i default)).n)])]) ?_
       refine .back [.r [(0,X (Xn ((i:Int)+1)))]] [] (ih3 ((min (b+(((l.getD i default)).n)) 2147483648),a,(i+1)) ?_ ?_)
       ·
        refine⟨by omega,by omega,by omega,by omega,by omega,?_⟩;rw[I3.2.2.2.2.2,chkX];((repeat' split)<;>first|rfl|omega| (simp_all;done)| (simp_all;omega))
       ·
        ((try dsimp only);omega)
     ·
      refine .bp [.r []] ((((l.getD i default)).kind) !=2) (fun h13=> ?_) (fun h13=> ?_)
      ·
       refine .at 520 [(80,80)] ([(0,VL 2 stepT l),(3,VI b),(4,VI a),(6,.ptr 80 0),(7,VL 2 stepT l),(8,VI (l.length:Int)),(9,VI (i:Int)),(70,VB ((((l.getD i default)).kind) !=2))],[(80,.box [VI (((l.getD i default)).kind),VI (((l.getD i default)).n)])]) ?_
       refine .back [.r [(3,X (Xn (a+(((l.getD i default)).n)))),(4,X (Xmin (a+(((l.getD i default)).n)) 2147483648))],.r [(0,X (Xn ((i:Int)+1)))]] [] (ih3 (b,(min (a+(((l.getD i default)).n)) 2147483648),(i+1)) ?_ ?_)
       ·
        refine⟨by omega,by omega,by omega,by omega,by omega,?_⟩;rw[I3.2.2.2.2.2,chkX];((repeat' split)<;>first|rfl|omega| (simp_all;done)| (simp_all;omega))
       ·
        ((try dsimp only);omega)
      ·
       refine .at 520 [(80,80)] ([(0,VL 2 stepT l),(3,VI b),(4,VI a),(6,.ptr 80 0),(7,VL 2 stepT l),(8,VI (l.length:Int)),(9,VI (i:Int)),(70,VB ((((l.getD i default)).kind) !=2))],[(80,.box [VI (((l.getD i default)).kind),VI (((l.getD i default)).n)])]) ?_
       refine .back [.r [(0,X (Xn ((i:Int)+1)))]] [] (ih3 (b,a,(i+1)) ?_ ?_)
       ·
        refine⟨by omega,by omega,by omega,by omega,by omega,?_⟩;rw[I3.2.2.2.2.2,chkX];((repeat' split)<;>first|rfl|omega| (simp_all;done)| (simp_all;omega))
       ·
        ((try dsimp only);omega)
 ·
  refine .bp [.r [(4,Xv 1 (!(decide (b>2147483647))) X0),(5,X (Xk' (decide (b>2147483647))))]] (decide (b>2147483647)||decide (a>2147483647)) (fun h16=> ?_) (fun h16=> ?_)
  ·
   have e4:((checkX l):Int)=3:=by
    rw[I3.2.2.2.2.2,chkX];((repeat' split)<;>first|rfl|omega| (simp_all;done)| (simp_all;omega))
   exact .finE [.r []] [] (fun z0:Int=>(VI z0,[])) _ _ e4
  ·
   have e5:((checkX l):Int)=0:=by
    rw[I3.2.2.2.2.2,chkX];((repeat' split)<;>first|rfl|omega| (simp_all;done)| (simp_all;omega))
   exact .finE [.r []] [] (fun z0:Int=>(VI z0,[])) _ _ e5
theorem ex_at{l:List AxStep}{i:Nat}(h:i<l.length):ex (l.drop i)=rep (l.getD i default).n.toNat (uOf (l.getD i default).kind)++ex (l.drop (i+1)):=by rw[drop_ats h];rfl
def oldI(l:List AxStep):Int:=(oldU (ex l):Int)
def newI(l:List AxStep):Int:=(newU (ex l):Int)
theorem lens_step{l:List AxStep}{i:Nat}(h:i<l.length)(hf:Form l):(oldU (ex (l.drop i)):Int)=(if(l.getD i default).kind=1 then 0 else(l.getD i default).n)+oldU (ex (l.drop (i+1)))∧
 (newU (ex (l.drop i)):Int)=(if(l.getD i default).kind=2 then 0 else(l.getD i default).n)+newU (ex (l.drop (i+1)))∧1≤(l.getD i default).n∧0≤(l.getD i default).kind∧(l.getD i default).kind≤2:=by
 have h1:=((at_of_form hf) i (Nat.zero_le _) h).1
 have hn:((l.getD i default).n.toNat:Int)=(l.getD i default).n:=Int.toNat_of_nonneg (by have:=h1.2.2;omega)
 rw[ex_at h,old_rep,new_rep,hn]
 exact⟨rfl,rfl,h1.2.2,h1.1,h1.2.1⟩
theorem ex_end{l:List AxStep}{i:Nat}(h:l.length≤i):ex (l.drop i)=[]:=by rw[List.drop_eq_nil_of_le h];rfl
theorem fc_axLens(l:List AxStep)(hv:Valid l):FC Tryz.prog 204 [VL 2 stepT l] (app emp []) (.tup [VI (oldI l),VI (newI l)]) (app emp []):=by
 refine .go Tryz.f204 ?_
 refine .len 0 (fun hl0=> ?_)
 refine .loop (α:=Int×Int×Nat) [.r [],.r [],.r [(1,X (Xl stepT l))]] 56 (fun(b,a,i)=>([(4,VI b),(5,VI a),(8,VL 2 stepT l),(9,VI (l.length:Int)),(10,VI (i:Int))],[])) (fun(b,a,i)=>i≤l.length∧0≤b∧0≤a∧oldI l=b+oldU (ex (l.drop i))∧newI l=a+newU (ex (l.drop i))) (fun(b,a,i)=>l.length-i) (0,0,0) ?_ ?_
 ·
  exact⟨by omega,by decide,by decide,by simp[oldI],by simp[newI]⟩
 rintro⟨b,a,i⟩ I3 ih3
 try dsimp only at I3
 have hv1:oldI l≤2147483647:=by have:=hv.2.1;unfold oldI;omega
 have hv2:newI l≤2147483647:=by have:=hv.2.2;unfold newI;omega
 refine .bp [.r []] (decide ((i:Int)< (l.length:Int))) (fun h3=> ?_) (fun h3=> ?_)
 ·
  have hst:=lens_step (l:=l) (i:=i) (by omega) hv.1
  refine .bp [.r [(0,X (Xi stepT l (i:Int)))],.r []] ((((l.getD i default)).kind) !=1) (fun h5=> ?_) (fun h5=> ?_)
  ·
   refine .bp [.r [(3,X (Xn (b+(((l.getD i default)).n))))],.r []] ((((l.getD i default)).kind) !=2) (fun h7=> ?_) (fun h7=> ?_)
   ·
    refine .back [.r [(3,X (Xn (a+(((l.getD i default)).n))))],.r [(0,X (Xn ((i:Int)+1)))]] [] (ih3 ((b+(((l.getD i default)).n)),(a+(((l.getD i default)).n)),(i+1)) ?_ ?_)
    ·
     obtain⟨s1,s2,s3,s4,s5⟩:=hst
     first|rw[if_pos (by omega)] at s1|rw[if_neg (by omega)] at s1
     first|rw[if_pos (by omega)] at s2|rw[if_neg (by omega)] at s2
     refine⟨by omega,by omega,by omega,by omega,by omega⟩
    ·
     ((try dsimp only);omega)
   ·
    refine .back [.r [(0,X (Xn ((i:Int)+1)))]] [] (ih3 ((b+(((l.getD i default)).n)),a,(i+1)) ?_ ?_)
    ·
     obtain⟨s1,s2,s3,s4,s5⟩:=hst
     first|rw[if_pos (by omega)] at s1|rw[if_neg (by omega)] at s1
     first|rw[if_pos (by omega)] at s2|rw[if_neg (by omega)] at s2
     refine⟨by omega,by omega,by omega,by omega,by omega⟩
    ·
     ((try dsimp only);omega)
  ·
   refine .bp [.r []] ((((l.getD i default)).kind) !=2) (fun h7=> ?_) (fun h7=> ?_)
   ·
    refine .back [.r [(3,X (Xn (a+(((l.getD i default)).n))))],.r [(0,X (Xn ((i:Int)+1)))]] [] (ih3 (b,(a+(((l.getD i default)).n)),(i+1)) ?_ ?_)
    ·
     obtain⟨s1,s2,s3,s4,s5⟩:=hst
     first|rw[if_pos (by omega)] at s1|rw[if_neg (by omega)] at s1
     first|rw[if_pos (by omega)] at s2|rw[if_neg (by omega)] at s2
     refine⟨by omega,by omega,by omega,by omega,by omega⟩
    ·
     ((try dsimp only);omega)
   ·
    refine .back [.r [(0,X (Xn ((i:Int)+1)))]] [] (ih3 (b,a,(i+1)) ?_ ?_)
    ·
     obtain⟨s1,s2,s3,s4,s5⟩:=hst
     first|rw[if_pos (by omega)] at s1|rw[if_neg (by omega)] at s1
     first|rw[if_pos (by omega)] at s2|rw[if_neg (by omega)] at s2
     refine⟨by omega,by omega,by omega,by omega,by omega⟩
    ·
     ((try dsimp only);omega)
 ·
  have e1:((oldI l):Int)=b:=by
   have:=ex_end (l:=l) (i:=i) (by omega)
   rw[this] at I3
   have i1:=I3.2.2.2.1
   have i2:=I3.2.2.2.2
   simp only[oldU,newU] at i1 i2
   omega
  have e2:((newI l):Int)=a:=by
   have:=ex_end (l:=l) (i:=i) (by omega)
   rw[this] at I3
   have i1:=I3.2.2.2.1
   have i2:=I3.2.2.2.2
   simp only[oldU,newU] at i1 i2
   omega
  exact .finE [.r []] [] (fun((z0,z1):Int×Int)=>(.tup [VI z0,VI z1],[])) _ _ (pr e1 e2)
theorem fc_axLengths(l:List AxStep)(hv:Valid l):FC Tryz.prog 165 [VL 2 stepT l] (app emp []) (.tup [VI (oldI l),VI (newI l),VI 0]) (app emp []):=by
 refine .go Tryz.f165 ?_
 refine .len 0 (fun hl0=> ?_)
 have hc:=check_iff.2 hv
 refine .bp [.r [],.r [(1,X (Xc0 (fc_axCheck l) X0))],.r []] ((checkX l) !=0) (fun h2=> ?_) (fun h2=> ?_)
 ·
  exfalso
  omega
 ·
  exact .fin [.r [(1,X (Xc0 (fc_axLens l (by assumption)) X0))],.r []] []
end Go.Ch
end
section
set_option linter.unusedVariables false
set_option linter.unusedSimpArgs false
namespace Go.Ch
open Go Go.Ab
section
variable {w:Wr} {ps qs:List AxStep} {pu qu:Int} {T:Nat} {G:Wr}
end
section
variable {x y:Wr} {ps qs:List AxStep} {pu qu:Int} {T:Nat} {G1 G2:Wr}
end
end Go.Ch
end
section

end
section
set_option linter.unusedVariables false
set_option linter.unusedSimpArgs false
namespace Go.Ch
open Go Go.Ab
def placeS:List AxStep→Int→Int→Int→Int
 | [],_,_,_=> -1
 |s::l,p,fr,tq=>if s.kind=1 then placeS l p fr (tq+s.n) else if s.kind=0 then(if p<fr+s.n then tq+p-fr else placeS l p (fr+s.n) (tq+s.n)) else(if p<fr+s.n then-1 else placeS l p (fr+s.n) tq)
end Go.Ch
end
section
set_option linter.unusedVariables false
namespace Go.Ch
open Go Go.Ab
structure Cell where
 row:Int
 col:Int
 text:ByteArray
 ref:Int
 attrs:List Attr
instance:Inhabited Cell:=⟨⟨0,0,{data:=#[]},0,[]⟩⟩
structure Rect where
 row:Int
 col:Int
 h:Int
 w:Int
deriving DecidableEq
instance:Inhabited Rect:=⟨⟨0,0,0,0⟩⟩
structure Grid where
 rows:Int
 cols:Int
 cells:List Cell
 merges:List Rect
instance:Inhabited Grid:=⟨⟨0,0,[],[]⟩⟩
structure GEd where
 rows:List AxStep
 cols:List AxStep
 cells:List Cell
 split:List Rect
 merge:List Rect
instance:Inhabited GEd:=⟨⟨[],[],[],[],[]⟩⟩
def cellT(c:Cell):Tree:= .agg [TI c.row,TI c.col,TS c.text,TI c.ref,.lst 2 (c.attrs.map attrT)]
def rectT(r:Rect):Tree:= .agg [TI r.row,TI r.col,TI r.h,TI r.w]
def gridT(g:Grid):Tree:= .agg [TI g.rows,TI g.cols,.lst 5 (g.cells.map cellT),.lst 4 (g.merges.map rectT)]
def gedT(e:GEd):Tree:= .agg [.lst 2 (e.rows.map stepT),.lst 2 (e.cols.map stepT),.lst 5 (e.cells.map cellT),.lst 4 (e.split.map rectT),.lst 4 (e.merge.map rectT)]
def ordC(a b:Cell):Int:=orL [cmpI a.row b.row,cmpI a.col b.col]
def emptyC(c:Cell):Bool:=(seq c.text {data:=#[]}&&c.ref==0)&&(c.attrs.length:Int)==0
def insB(r:Rect)(m n:Int):Bool:=decide (0≤r.row∧0≤r.col∧1≤r.h∧1≤r.w∧r.row<m∧r.col<n∧r.h≤m-r.row∧r.w≤n-r.col)
def meetB(a b:Rect):Bool:=decide (a.row<b.row+b.h∧b.row<a.row+a.h∧a.col<b.col+b.w∧b.col<a.col+a.w)
def befB(a b:Rect):Bool:=decide (a.row<b.row∨(a.row=b.row∧a.col<b.col))
def mvR(a:List AxStep)(p:Int):Int:=if 0<a.length then placeS a p 0 0 else p
def mvC(rows cols:List AxStep)(c:Cell):Option Cell:=
 if 0<rows.length∧mvR rows c.row<0 then none else if 0<cols.length∧mvR cols c.col<0 then none else some {c with row:=mvR rows c.row,col:=mvR cols c.col}
def movL(l:List Cell)(rows cols:List AxStep):List Cell:=l.filterMap (mvC rows cols)
def PIn(a:List AxStep)(p:Int):Prop:=0<a.length→Valid a∧0≤p∧p<oldI a
def CAN(k:Nat)(l:List Cell):Prop:=∀c∈l,c.attrs.length≤k
theorem getDC_mem{l:List Cell}{i:Nat}(h:i<l.length):l.getD i default∈l:=by
 rw[show l.getD i default=l[i] by simp[List.getD,List.getElem?_eq_getElem h]];exact List.getElem_mem _
theorem movL_succ{l:List Cell}{rows cols:List AxStep}{i:Nat}(h:i<l.length):movL (l.take (i+1)) rows cols=movL (l.take i) rows cols++(mvC rows cols (l.getD i default)).toList:=by
 unfold movL
 rw[List.take_succ_eq_append_getElem h,List.filterMap_append]
 simp only[List.getD,List.getElem?_eq_getElem h,Option.getD_some]
 simp only[List.filterMap_cons,List.filterMap_nil]
 cases mvC rows cols l[i]<;>rfl
theorem movL_len(l:List Cell)(rows cols:List AxStep):(movL l rows cols).length≤l.length:=List.length_filterMap_le _ _
def putC(c:Cell)(k:List Cell→List Cell):List Cell→List Cell
 | []=>(if emptyC c=true then[] else[c])++k []
 |x::l=>if ordC x c<0 then x::putC c k l else if ordC x c=0 then(if emptyC c=true then[] else[c])++k l else(if emptyC c=true then[] else[c])++k (x::l)
def putL:List Cell→List Cell→List Cell
 | [],l=>l
 |c::ns,l=>putC c (putL ns) l
theorem dropC{l:List Cell}{i:Nat}(h:i<l.length):l.drop i=l.getD i default::l.drop (i+1):=by
 rw[List.drop_eq_getElem_cons h];simp[List.getD,List.getElem?_eq_getElem h]
theorem dropC_end{l:List Cell}{i:Nat}(h:l.length≤i):l.drop i=[]:=List.drop_eq_nil_of_le h
theorem putC_lt{c:Cell}{k:List Cell→List Cell}{l:List Cell}{j:Nat}(h:j<l.length)(h0:ordC (l.getD j default) c<0):putC c k (l.drop j)=l.getD j default::putC c k (l.drop (j+1)):=by
 rw[dropC h,putC,if_pos h0]
theorem putC_eq{c:Cell}{k:List Cell→List Cell}{l:List Cell}{j:Nat}(h:j<l.length)(h0:ordC (l.getD j default) c=0):putC c k (l.drop j)=(if emptyC c=true then[] else[c])++k (l.drop (j+1)):=by
 rw[dropC h,putC,if_neg (by omega),if_pos h0]
theorem putC_gt{c:Cell}{k:List Cell→List Cell}{l:List Cell}{j:Nat}(h:j<l.length→0<ordC (l.getD j default) c):putC c k (l.drop j)=(if emptyC c=true then[] else[c])++k (l.drop j):=by
 by_cases hj:j<l.length
 ·have:=h hj
  rw[dropC hj,putC,if_neg (by omega),if_neg (by omega)]
 ·rw[dropC_end (by omega),putC]
end Go.Ch
end
section
set_option linter.unusedVariables false
namespace Go.Ch
open Go Go.Ab
theorem getDX_mem{α:Type}[Inhabited α]{l:List α}{i:Nat}(h:i<l.length):l.getD i default∈l:=by
 rw[show l.getD i default=l[i] by simp[List.getD,List.getElem?_eq_getElem h]];exact List.getElem_mem _
theorem drop_succD{α:Type}[Inhabited α]{l:List α}{i:Nat}(h:i<l.length):l.drop i=l.getD i default::l.drop (i+1):=by
 rw[List.drop_eq_getElem_cons h];simp[List.getD,List.getElem?_eq_getElem h]
end Go.Ch
end
section
set_option linter.unusedVariables false
set_option linter.unusedSimpArgs false
namespace Go.Ch
open Go Go.Ab
def decR(u:ByteArray):Int:=((Lib.decodeGo u).1:Int)
def decW(u:ByteArray):Nat:=(Lib.decodeGo u).2
theorem decW_bd{u:ByteArray}(h:0<u.size):1≤decW u∧decW u≤u.size:=by
 unfold decW Lib.decodeGo
 rw[if_neg (by omega)]
 have hl:u.data.toList.length=u.size:=by rw[Array.length_toList];rfl
 rw[Lib.decode_N]
 have h1:=Lib.decodeN_ge1 (u.data.toList.length-0) (u.data.toList.getD 0 0).toNat (u.data.toList.getD (0+1) 0).toNat (u.data.toList.getD (0+2) 0).toNat (u.data.toList.getD (0+3) 0).toNat
 have h2:=Lib.decodeN_width_le (u.data.toList.length-0) (u.data.toList.getD 0 0).toNat (u.data.toList.getD (0+1) 0).toNat (u.data.toList.getD (0+2) 0).toNat (u.data.toList.getD (0+3) 0).toNat (by omega)
 omega
def badT(u:ByteArray):Prop:=(decR u=65533∧decW u=1)∨decR u=10∨¬CharP (decR u)
instance (u:ByteArray):Decidable (badT u):=by unfold badT CharP;infer_instance
def textG(u:ByteArray):Bool:=if h:0<u.size then(if badT u then false else textG (u.extract (decW u) u.size)) else true
termination_by u.size
decreasing_by
 have:=decW_bd h
 rw[ByteArray.size_extract]
 omega
theorem textG_end{u:ByteArray}(h:¬0<u.size):textG u=true:=by rw[textG,dif_neg h]
def tailG(u:ByteArray)(p:Nat):ByteArray:=u.extract p u.size
end Go.Ch
end
section
set_option linter.unusedVariables false
namespace Go.Ch
open Go Go.Ab
def cellE(c:Cell)(m n:Int)(none:Bool):Int:=
 if c.row<0∨m≤c.row∨c.col<0∨n≤c.col then 2
 else if c.ref<0∨1073741824<c.ref then 2
 else if textG c.text=false then 23
 else if¬chkA false c.attrs 0=0 then chkA false c.attrs 0
 else if emptyC c=true∧none=false then 4 else 0
def cellsE(l:List Cell)(m n:Int)(none:Bool)(i:Nat):Int:=
 if i<l.length then
  (if¬cellE (l.getD i default) m n none=0 then cellE (l.getD i default) m n none
   else if 0<i∧0≤ordC (l.getD (i- 1) default) (l.getD i default) then 5 else cellsE l m n none (i+1))
 else 0
termination_by l.length-i
def SzC(l:List Cell):Prop:=∀c∈l,c.text.size≤9223372036854775807∧Szd c.attrs
def anyM(l:List Rect)(r:Rect):Bool:=l.any (fun q=>meetB q r)
def mergE(l:List Rect)(m n:Int)(i:Nat):Int:=
 if i<l.length then
  (if insB (l.getD i default) m n=false then 2
   else if(l.getD i default).h=1∧(l.getD i default).w=1 then 4
   else if 0<i∧befB (l.getD (i- 1) default) (l.getD i default)=false then 5
   else if anyM (l.take i) (l.getD i default)=true then 21
   else mergE l m n (i+1))
 else 0
termination_by l.length-i
def gridE(g:Grid):Int:=
 if g.rows<0∨2147483647<g.rows∨g.cols<0∨2147483647<g.cols then 2
 else if¬cellsE g.cells g.rows g.cols false 0=0 then cellsE g.cells g.rows g.cols false 0
 else mergE g.merges g.rows g.cols 0
def idxF{α:Type}[Inhabited α](p:α→Bool)(l:List α)(i:Nat):Int:=if i<l.length then(if p (l.getD i default)=true then(i:Int) else idxF p l (i+1)) else-1
termination_by l.length-i
theorem idxF_ge{α:Type}[Inhabited α](p:α→Bool){l:List α}:∀(n i:Nat),l.length-i=n→(0≤idxF p l i↔(l.drop i).any p=true)
 |0,i,h=>by rw[idxF,if_neg (by omega),List.drop_eq_nil_of_le (by omega)];simp
 |n+1,i,h=>by
  have hi:i<l.length:=by omega
  rw[idxF,if_pos hi,drop_succD hi,List.any_cons]
  by_cases hp:p (l.getD i default)=true
  ·rw[if_pos hp,hp];simp
  ·rw[if_neg hp,idxF_ge p n (i+1) (by omega)]
   simp only[Bool.not_eq_true] at hp
   rw[hp,Bool.false_or]
theorem idxF_any{α:Type}[Inhabited α](p:α→Bool)(l:List α):(0≤idxF p l 0)=((l.any p)=true):=propext (by rw[idxF_ge p _ 0 rfl,List.drop_zero])
end Go.Ch
end
section
set_option linter.unusedVariables false
namespace Go.Ch
open Go Go.Ab
def insQE(l:List Rect)(m n:Int)(i:Nat):Int:=if i<l.length then(if insB (l.getD i default) m n=false then 2 else insQE l m n (i+1)) else 0
termination_by l.length-i
def mgE(l:List Rect)(m n:Int)(i:Nat):Int:=if i<l.length then(if insB (l.getD i default) m n=false then 2 else if(l.getD i default).h=1∧(l.getD i default).w=1 then 4 else mgE l m n (i+1)) else 0
termination_by l.length-i
def celF(l:List Cell)(m n:Int)(i:Nat):Int:=if i<l.length then(if m≤(l.getD i default).row∨n≤(l.getD i default).col then 2 else celF l m n (i+1)) else 0
termination_by l.length-i
theorem insQE_all{l:List Rect}{m n:Int}:∀(k i:Nat),l.length-i=k→insQE l m n i=0→∀j,i≤j→j<l.length→insB (l.getD j default) m n=true
 |0,i,h,_,j,h1,h2=>by omega
 |k+1,i,h,h0,j,h1,h2=>by
  rw[insQE,if_pos (by omega)] at h0
  split at h0
  ·cases h0
  ·rename_i hb
   by_cases e:i=j
   ·rw[←e];simpa using hb
   ·exact insQE_all k (i+1) (by omega) h0 j (by omega) h2
theorem mgE_all{l:List Rect}{m n:Int}:∀(k i:Nat),l.length-i=k→mgE l m n i=0→∀j,i≤j→j<l.length→insB (l.getD j default) m n=true∧¬((l.getD j default).h=1∧(l.getD j default).w=1)
 |0,i,h,_,j,h1,h2=>by omega
 |k+1,i,h,h0,j,h1,h2=>by
  rw[mgE,if_pos (by omega)] at h0
  split at h0
  ·cases h0
  ·rename_i hb
   split at h0
   ·cases h0
   ·rename_i hc
    by_cases e:i=j
    ·rw[←e];exact⟨by simpa using hb,hc⟩
    ·exact mgE_all k (i+1) (by omega) h0 j (by omega) h2
theorem celF_all{l:List Cell}{m n:Int}:∀(k i:Nat),l.length-i=k→celF l m n i=0→∀j,i≤j→j<l.length→(l.getD j default).row<m∧(l.getD j default).col<n
 |0,i,h,_,j,h1,h2=>by omega
 |k+1,i,h,h0,j,h1,h2=>by
  rw[celF,if_pos (by omega)] at h0
  split at h0
  ·cases h0
  ·rename_i hb
   by_cases e:i=j
   ·rw[←e];omega
   ·exact celF_all k (i+1) (by omega) h0 j (by omega) h2
theorem mem_getDX{α:Type}[Inhabited α]{l:List α}{x:α}(h:x∈l):∃j,j<l.length∧l.getD j default=x:=by
 obtain⟨j,hj,e⟩:=List.mem_iff_getElem.1 h
 exact⟨j,hj,by rw[List.getD_eq_getElem?_getD,List.getElem?_eq_getElem hj];exact e⟩
structure EdOk(e:GEd):Prop where
 okr:Valid e.rows
 okc:Valid e.cols
 cells:cellsE e.cells 2147483647 2147483647 true 0=0
 split:∀r∈e.split,insB r 2147483647 2147483647=true
 merge:∀r∈e.merge,insB r 2147483647 2147483647=true∧¬(r.h=1∧r.w=1)
def edE(e:GEd):Int:=
 if¬checkX e.rows=0 then checkX e.rows else if¬checkX e.cols=0 then checkX e.cols
 else if¬cellsE e.cells 2147483647 2147483647 true 0=0 then cellsE e.cells 2147483647 2147483647 true 0
 else if¬insQE e.split 2147483647 2147483647 0=0 then insQE e.split 2147483647 2147483647 0 else mgE e.merge 2147483647 2147483647 0
theorem edE_ok{e:GEd}(h:edE e=0):EdOk e:=by
 unfold edE at h
 split at h
 ·omega
 ·split at h
  ·omega
  ·split at h
   ·omega
   ·split at h
    ·omega
    ·refine⟨check_iff.1 (by omega),check_iff.1 (by omega),by omega,fun r hr=> ?_,fun r hr=> ?_⟩
     ·obtain⟨j,hj,rfl⟩:=mem_getDX hr
      exact insQE_all _ 0 rfl (by omega) j (by omega) hj
     ·obtain⟨j,hj,rfl⟩:=mem_getDX hr
      exact mgE_all _ 0 rfl h j (by omega) hj
def nwS(n:Int)(a:List AxStep):Int:=if 0<a.length then newI a else n
structure FitOk(g:Grid)(e:GEd):Prop where
 rows:0<e.rows.length→oldI e.rows=g.rows
 cols:0<e.cols.length→oldI e.cols=g.cols
 cells:∀c∈e.cells,c.row<nwS g.rows e.rows∧c.col<nwS g.cols e.cols
 split:∀r∈e.split,insB r (nwS g.rows e.rows) (nwS g.cols e.cols)=true
 merge:∀r∈e.merge,insB r (nwS g.rows e.rows) (nwS g.cols e.cols)=true
def fitE(g:Grid)(e:GEd):Int:=
 if 0<e.rows.length∧¬oldI e.rows=g.rows then 14 else if 0<e.cols.length∧¬oldI e.cols=g.cols then 14
 else if¬celF e.cells (nwS g.rows e.rows) (nwS g.cols e.cols) 0=0 then celF e.cells (nwS g.rows e.rows) (nwS g.cols e.cols) 0
 else if¬insQE e.split (nwS g.rows e.rows) (nwS g.cols e.cols) 0=0 then insQE e.split (nwS g.rows e.rows) (nwS g.cols e.cols) 0
 else insQE e.merge (nwS g.rows e.rows) (nwS g.cols e.cols) 0
theorem fitE_ok{g:Grid}{e:GEd}(h:fitE g e=0):FitOk g e:=by
 unfold fitE at h
 split at h
 ·omega
 ·split at h
  ·omega
  ·split at h
   ·omega
   ·split at h
    ·omega
    ·refine⟨fun q=>by omega,fun q=>by omega,fun c hc=> ?_,fun r hr=> ?_,fun r hr=> ?_⟩
     ·obtain⟨j,hj,rfl⟩:=mem_getDX hc
      exact celF_all _ 0 rfl (by omega) j (by omega) hj
     ·obtain⟨j,hj,rfl⟩:=mem_getDX hr
      exact insQE_all _ 0 rfl (by omega) j (by omega) hj
     ·obtain⟨j,hj,rfl⟩:=mem_getDX hr
      exact insQE_all _ 0 rfl h j (by omega) hj
end Go.Ch
end
section
set_option linter.unusedVariables false
set_option linter.unusedSimpArgs false
set_option maxRecDepth 100000
set_option maxHeartbeats 4000000
open Go Go.Proofs Go.Ab
namespace Go.Ch
theorem fc_isNaN(x:Int):FC Tryz.prog 171 [VI x] (app emp []) (VB false) (app emp []):=by
 refine .go Tryz.f171 ?_
 have e1:((x !=x):Bool)=false:=by
  simp
 exact .finE [.r [],.r []] [] (fun z0:Bool=>(VB z0,[])) _ _ e1.symm
theorem fc_cmpI(x y:Int):FC Tryz.prog 135 [VI x,VI y] (app emp []) (VI (cmpI x y)) (app emp []):=by
 refine .go Tryz.f135 ?_
 refine .bp [.r [],.r [(1,X (Xc0 (fc_isNaN x) X0))],.r [(1,X (Xc0 (fc_isNaN y) X0))],.r [],.f,.r [],.f,.r []] (decide (x<y)) (fun h9=> ?_) (fun h9=> ?_)
 ·
  have e1:((cmpI x y):Int)= -1:=by
   unfold cmpI;((repeat' split)<;>first|rfl|omega| (simp_all;done)| (simp_all;omega))
  exact .finE [.r []] [] (fun z0:Int=>(VI z0,[])) _ _ e1
 ·
  refine .bp [.r []] (decide (x>y)) (fun h11=> ?_) (fun h11=> ?_)
  ·
   have e2:((cmpI x y):Int)=1:=by
    unfold cmpI;((repeat' split)<;>first|rfl|omega| (simp_all;done)| (simp_all;omega))
   exact .finE [.r []] [] (fun z0:Int=>(VI z0,[])) _ _ e2
  ·
   have e3:((cmpI x y):Int)=0:=by
    unfold cmpI;((repeat' split)<;>first|rfl|omega| (simp_all;done)| (simp_all;omega))
   exact .finE [.r []] [] (fun z0:Int=>(VI z0,[])) _ _ e3
theorem fc_or(l:List Int):FC Tryz.prog 134 [VL 1 intT l] (app emp []) (VI (orL l)) (app emp []):=by
 refine .go Tryz.f134 ?_
 refine .len 0 (fun hl0=> ?_)
 refine .loop (α:=Nat) [.r [],.r [],.r [(1,X (Xl intT l))]] 40 (fun i=>([(3,VI 0),(6,VL 1 intT l),(7,VI (l.length:Int)),(8,VI (i:Int))],[])) (fun i=>i≤l.length∧orL l=orL (l.drop i)) (fun i=>l.length-i) (0:Nat) ?_ ?_
 ·
  exact⟨by omega,rfl⟩
 rintro i I3 ih3
 try dsimp only at I3
 refine .bp [.r []] (decide ((i:Int)< (l.length:Int))) (fun h3=> ?_) (fun h3=> ?_)
 ·
  refine .bp [.r [(0,X (Xi intT l (i:Int)))],.r []] ((l.getD i default) !=0) (fun h5=> ?_) (fun h5=> ?_)
  ·
   have e1:((orL l):Int)=(l.getD i default):=by
    rw[I3.2,orL_at (by omega),if_pos (by omega)]
   exact .finE [.r []] [] (fun z0:Int=>(VI z0,[])) _ _ e1
  ·
   refine .back [.r [(0,X (Xn ((i:Int)+1)))]] [] (ih3 ((i+1):Nat) ?_ ?_)
   ·
    refine⟨by omega,?_⟩
    rw[I3.2,orL_at (by omega),if_neg (by omega)]
   ·
    ((try dsimp only);omega)
 ·
  have e2:((orL l):Int)=0:=by
   rw[I3.2,List.drop_eq_nil_of_le (by omega)];rfl
  exact .finE [.r []] [] (fun z0:Int=>(VI z0,[])) _ _ e2
theorem fc_order(a b:Cell):FC Tryz.prog 159 [.t (cellT a),.t (cellT b)] (app emp []) (VI (ordC a b)) (app emp []):=by
 refine .go Tryz.f159 ?_
 have e1:((ordC a b):Int)=(orL [(cmpI a.row b.row),(cmpI a.col b.col)]):=by
  rfl
 exact .finE [.r [],.r [(4,X (Xc0 (fc_cmpI a.row b.row) X0)),(9,X (Xc0 (fc_cmpI a.col b.col) X0)),(11,X (Xc0 (fc_or [(cmpI a.row b.row),(cmpI a.col b.col)]) (rowC intT [(cmpI a.row b.row),(cmpI a.col b.col)] X0)))]] [] (fun z0:Int=>(VI z0,[])) _ _ e1
theorem fc_empty(c:Cell):FC Tryz.prog 158 [.t (cellT c)] (app emp []) (VB (emptyC c)) (app emp []):=by
 refine .go Tryz.f158 ?_
 have e1:((emptyC c):Bool)=((seq c.text ({data:=#[]})&&(c.ref==0))&&((c.attrs.length:Int)==0)):=by
  rfl
 exact .finE [.r [],.r [(5,Xv 1 (seq c.text ({data:=#[]})) X0),(6,Xv 1 (seq c.text ({data:=#[]})) X0),(7,X (Xk (seq c.text ({data:=#[]})))),(10,Xv 1 (seq c.text ({data:=#[]})&&(c.ref==0)) X0),(11,Xv 1 (seq c.text ({data:=#[]})&&(c.ref==0)) (Xl attrT c.attrs)),(12,Xv 1 (seq c.text ({data:=#[]})&&(c.ref==0)) X0),(13,X (Xk (seq c.text ({data:=#[]})&&(c.ref==0))))]] [] (fun z0:Bool=>(VB z0,[])) _ _ e1
end Go.Ch
end
section
set_option linter.unusedVariables false
set_option linter.unusedSimpArgs false
set_option maxRecDepth 100000
set_option maxHeartbeats 4000000
open Go Go.Proofs Go.Ab
namespace Go.Ch
theorem fc_rplace(s:ByteArray):FC Tryz.prog 161 [VS s] (app emp []) (VB (placeB s)) (app emp []):=by
 refine .go Tryz.f161 ?_
 refine .bp [.r [],.r [(4,Xv 1 (!(seq s ({data:=#[]}))) X0),(5,Xv 1 (!(seq s ({data:=#[]}))) X0),(6,X (Xk' (seq s ({data:=#[]})))),(10,Xv 1 (!(seq s ({data:=#[]})||decide ((s.size:Int)> 200))) X0),(11,Xv 1 (!(seq s ({data:=#[]})||decide ((s.size:Int)> 200))) (Xn ((s.size:Int)- 1)) (fun hg=>by(try simp only[decide_eq_true_eq,decide_eq_false_iff_not,Int.not_lt,Int.not_le,gt_iff_lt,Bool.not_eq_true',Bool.not_eq_false',Bool.or_eq_true,Bool.or_eq_false_iff] at hg);exact(by have:=str_pos hg.1;omega))),(12,Xv 2 (!(seq s ({data:=#[]})||decide ((s.size:Int)> 200))) (Xb s ((s.size:Int)- 1)) (fun hg=>by(try simp only[decide_eq_true_eq,decide_eq_false_iff_not,Int.not_lt,Int.not_le,gt_iff_lt,Bool.not_eq_true',Bool.not_eq_false',Bool.or_eq_true,Bool.or_eq_false_iff] at hg);exact⟨(by have:=str_pos hg.1;omega),(by omega)⟩)),(13,Xv 1 (!(seq s ({data:=#[]})||decide ((s.size:Int)> 200))) X0),(14,X (Xk' (seq s ({data:=#[]})||decide ((s.size:Int)> 200))))]] ((seq s ({data:=#[]})||decide ((s.size:Int)> 200))|| (((((s[(Int.toNat ((s.size:Int)- 1))]?).getD 0).toNat:Nat):Int)==97)) (fun h1=> ?_) (fun h1=> ?_)
 ·
  have e1:((placeB s):Bool)=false:=by
   have hs:((s.size:Int)- 1).toNat=s.size- 1:=by omega
   rw[hs] at h1;simp only[byt0,seq_mt,decide_eq_true_eq] at h1;unfold placeB;rw[decide_eq_false (fun q=>by omega)];rfl
  exact .finE [.r []] [] (fun z0:Bool=>(VB z0,[])) _ _ e1
 ·
  refine .loop (α:=Nat) [.r []] 152 (fun i=>([(0,VS s),(20,VI (s.size:Int)),(21,VI (i:Int))],[])) (fun i=>i≤s.size∧plS s 0=plS s i) (fun i=>s.size-i) (0:Nat) ?_ ?_
  ·
   exact⟨by omega,rfl⟩
  rintro i I4 ih4
  try dsimp only at I4
  refine .bp [.r []] (decide ((i:Int)< (s.size:Int))) (fun h4=> ?_) (fun h4=> ?_)
  ·
   refine .bp [.r [],.r [(2,X (Xb s (i:Int))),(7,Xv 2 (!(decide (((((s[i]?).getD 0).toNat:Nat):Int)< 97))) (Xb s (i:Int))),(8,Xv 1 (!(decide (((((s[i]?).getD 0).toNat:Nat):Int)< 97))) X0),(9,X (Xk' (decide (((((s[i]?).getD 0).toNat:Nat):Int)< 97))))]] (decide (((((s[i]?).getD 0).toNat:Nat):Int)< 97)||decide (((((s[i]?).getD 0).toNat:Nat):Int)> 122)) (fun h6=> ?_) (fun h6=> ?_)
   ·
    have e2:((placeB s):Bool)=false:=by
     simp only[byt0] at h6;unfold placeB;rw[I4.2,plS,if_pos (by omega),if_pos (by omega)];simp
    exact .finE [.r []] [] (fun z0:Bool=>(VB z0,[])) _ _ e2
   ·
    refine .back [.r [(0,X (Xn ((i:Int)+1)))]] [] (ih4 ((i+1):Nat) ?_ ?_)
    ·
     simp only[byt0] at h6;refine⟨by omega,?_⟩;rw[I4.2,plS,if_pos (by omega),if_neg (by omega)]
    ·
     ((try dsimp only);omega)
  ·
   have e3:((placeB s):Bool)=true:=by
    have hs:((s.size:Int)- 1).toNat=s.size- 1:=by omega
    rw[hs] at h1;simp only[byt0,seq_mt,decide_eq_false_iff_not] at h1;unfold placeB;rw[I4.2,plS,if_neg (by omega),decide_eq_true (by omega)];rfl
   exact .finE [.r []] [] (fun z0:Bool=>(VB z0,[])) _ _ e3
theorem fc_stamps(a b:DOp):FC Tryz.prog 91 [.t (dopT a),.t (dopT b)] (app emp []) (VI (stampC a b)) (app emp []):=by
 refine .go Tryz.f91 ?_
 have e1:((stampC a b):Int)=(orL [(cmpI a.clock b.clock),(cmpI a.site b.site)]):=by
  rfl
 exact .finE [.r [],.r [(4,X (Xc0 (fc_cmpI a.clock b.clock) X0)),(9,X (Xc0 (fc_cmpI a.site b.site) X0)),(11,X (Xc0 (fc_or [(cmpI a.clock b.clock),(cmpI a.site b.site)]) (rowC intT [(cmpI a.clock b.clock),(cmpI a.site b.site)] X0)))]] [] (fun z0:Int=>(VI z0,[])) _ _ e1
theorem fc_op(o:DOp):FC Tryz.prog 114 [.t (dopT o)] (app emp []) (VI (opE o)) (app emp []):=by
 refine .go Tryz.f114 ?_
 refine .bp [.r [],.r [(5,Xv 1 (o.kind !=0) X0),(6,Xv 1 (o.kind !=0) X0),(7,X (Xk (o.kind !=0)))]] ((o.kind !=0)&&(o.kind !=1)) (fun h1=> ?_) (fun h1=> ?_)
 ·
  have e1:((opE o):Int)=8:=by
   unfold opE
   (repeat' split)<;>first|rfl| (exfalso;omega)| (exfalso;simp_all;done)| (exfalso;simp_all;omega)|grind
  exact .finE [.r []] [] (fun z0:Int=>(VI z0,[])) _ _ e1
 ·
  refine .bp [.r [(5,Xv 1 (!(decide (o.clock<1))) X0),(6,Xv 1 (!(decide (o.clock<1))) X0),(7,X (Xk' (decide (o.clock<1)))),(10,Xv 1 (!(decide (o.clock<1)||decide (o.clock>1073741824))) X0),(11,Xv 1 (!(decide (o.clock<1)||decide (o.clock>1073741824))) X0),(12,X (Xk' (decide (o.clock<1)||decide (o.clock>1073741824)))),(15,Xv 1 (!((decide (o.clock<1)||decide (o.clock>1073741824))||decide (o.site<0))) X0),(16,Xv 1 (!((decide (o.clock<1)||decide (o.clock>1073741824))||decide (o.site<0))) X0),(17,X (Xk' ((decide (o.clock<1)||decide (o.clock>1073741824))||decide (o.site<0)))),(20,Xv 1 (!(((decide (o.clock<1)||decide (o.clock>1073741824))||decide (o.site<0))||decide (o.site>1000))) X0),(21,Xv 1 (!(((decide (o.clock<1)||decide (o.clock>1073741824))||decide (o.site<0))||decide (o.site>1000))) X0),(22,X (Xk' (((decide (o.clock<1)||decide (o.clock>1073741824))||decide (o.site<0))||decide (o.site>1000)))),(25,Xv 1 (!((((decide (o.clock<1)||decide (o.clock>1073741824))||decide (o.site<0))||decide (o.site>1000))||decide (o.itm<1))) X0),(26,Xv 1 (!((((decide (o.clock<1)||decide (o.clock>1073741824))||decide (o.site<0))||decide (o.site>1000))||decide (o.itm<1))) X0),(27,X (Xk' ((((decide (o.clock<1)||decide (o.clock>1073741824))||decide (o.site<0))||decide (o.site>1000))||decide (o.itm<1))))]] (((((decide (o.clock<1)||decide (o.clock>1073741824))||decide (o.site<0))||decide (o.site>1000))||decide (o.itm<1))||decide (o.itm>1073741824)) (fun h3=> ?_) (fun h3=> ?_)
  ·
   have e2:((opE o):Int)=2:=by
    unfold opE
    (repeat' split)<;>first|rfl| (exfalso;omega)| (exfalso;simp_all;done)| (exfalso;simp_all;omega)|grind
   exact .finE [.r []] [] (fun z0:Int=>(VI z0,[])) _ _ e2
  ·
   refine .bp [.r [(5,Xv 1 (o.kind==0) X0),(6,Xv 1 (o.kind==0) X0),(7,Xv 1 (o.kind==0) X0),(9,Xv 1 ((o.kind==0)&& !(!(seq o.nm ({data:=#[]})))) X0),(10,Xv 1 ((o.kind==0)&& !(!(seq o.nm ({data:=#[]})))) X0),(11,Xko (o.kind==0) (!(seq o.nm ({data:=#[]})))),(12,X (Xk (o.kind==0)))]] ((o.kind==0)&&(!(seq o.nm ({data:=#[]}))|| !(seq o.vl ({data:=#[]})))) (fun h5=> ?_) (fun h5=> ?_)
   ·
    refine .bp [] ((o.kind==0)&&(!(seq o.nm ({data:=#[]}))|| !(seq o.vl ({data:=#[]})))) (fun h5=> ?_) (fun h5=> ?_)
    ·
     have e3:((opE o):Int)=4:=by
      unfold opE
      (repeat' split)<;>first|rfl| (exfalso;omega)| (exfalso;simp_all;done)| (exfalso;simp_all;omega)|grind
     exact .finE [.r []] [] (fun z0:Int=>(VI z0,[])) _ _ e3
    ·
     refine .bp [.r [(5,Xv 1 (o.kind==0) X0),(6,Xv 1 (o.kind==0) X0),(7,Xv 1 (o.kind==0) X0),(9,Xv 1 ((o.kind==0)&& !(decide (o.prt< (-1)))) X0),(10,Xv 1 ((o.kind==0)&& !(decide (o.prt< (-1)))) X0),(11,Xko (o.kind==0) (decide (o.prt< (-1)))),(12,X (Xk (o.kind==0)))]] ((o.kind==0)&&(decide (o.prt< (-1))||decide (o.prt>1073741824))) (fun h8=> ?_) (fun h8=> ?_)
     ·
      have e4:((opE o):Int)=2:=by
       unfold opE
       (repeat' split)<;>first|rfl| (exfalso;omega)| (exfalso;simp_all;done)| (exfalso;simp_all;omega)|grind
      exact .finE [.r []] [] (fun z0:Int=>(VI z0,[])) _ _ e4
     ·
      refine .bp [.r [(5,Xv 1 (o.kind==0) X0),(6,Xv 1 (o.kind==0) (Xc0 (fc_rplace o.plc) X0)),(7,Xv 1 (o.kind==0) X0),(8,X (Xk (o.kind==0)))]] ((o.kind==0)&& !(placeB o.plc)) (fun h10=> ?_) (fun h10=> ?_)
      ·
       refine .bp [] ((o.kind==0)&& !(placeB o.plc)) (fun h10=> ?_) (fun h10=> ?_)
       ·
        have e5:((opE o):Int)=9:=by
         unfold opE
         (repeat' split)<;>first|rfl| (exfalso;omega)| (exfalso;simp_all;done)| (exfalso;simp_all;omega)|grind
        exact .finE [.r []] [] (fun z0:Int=>(VI z0,[])) _ _ e5
       ·
        refine .bp [.r [(5,Xv 1 (o.kind==1) X0),(6,Xv 1 (o.kind==1) X0),(7,X (Xk (o.kind==1))),(10,Xv 1 ((o.kind==1)&& !(seq o.vl ({data:=#[]}))) X0),(11,Xv 1 ((o.kind==1)&& !(seq o.vl ({data:=#[]}))) (Xc0 (fc_value o.vl) X0)),(12,Xv 1 ((o.kind==1)&& !(seq o.vl ({data:=#[]}))) X0),(13,X (Xk ((o.kind==1)&& !(seq o.vl ({data:=#[]})))))]] (((o.kind==1)&& !(seq o.vl ({data:=#[]})))&& !(valGo o.vl)) (fun h13=> ?_) (fun h13=> ?_)
        ·
         have e6:((opE o):Int)=23:=by
          unfold opE
          (repeat' split)<;>first|rfl| (exfalso;omega)| (exfalso;simp_all;done)| (exfalso;simp_all;omega)|grind
         exact .finE [.r []] [] (fun z0:Int=>(VI z0,[])) _ _ e6
        ·
         have e7:((opE o):Int)=0:=by
          unfold opE
          (repeat' split)<;>first|rfl| (exfalso;omega)| (exfalso;simp_all;done)| (exfalso;simp_all;omega)|grind
         exact .finE [.r []] [] (fun z0:Int=>(VI z0,[])) _ _ e7
      ·
       refine .bp [.r [(5,Xv 1 (o.kind==1) X0),(6,Xv 1 (o.kind==1) (Xc0 (fc_name o.nm) X0)),(7,Xv 1 (o.kind==1) X0),(8,X (Xk (o.kind==1)))]] ((o.kind==1)&& !(nameGo o.nm)) (fun h11=> ?_) (fun h11=> ?_)
       ·
        have e8:((opE o):Int)=9:=by
         unfold opE
         (repeat' split)<;>first|rfl| (exfalso;omega)| (exfalso;simp_all;done)| (exfalso;simp_all;omega)|grind
        exact .finE [.r []] [] (fun z0:Int=>(VI z0,[])) _ _ e8
       ·
        refine .bp [.r [(5,Xv 1 (o.kind==1) X0),(6,Xv 1 (o.kind==1) X0),(7,X (Xk (o.kind==1))),(10,Xv 1 ((o.kind==1)&& !(seq o.vl ({data:=#[]}))) X0),(11,Xv 1 ((o.kind==1)&& !(seq o.vl ({data:=#[]}))) (Xc0 (fc_value o.vl) X0)),(12,Xv 1 ((o.kind==1)&& !(seq o.vl ({data:=#[]}))) X0),(13,X (Xk ((o.kind==1)&& !(seq o.vl ({data:=#[]})))))]] (((o.kind==1)&& !(seq o.vl ({data:=#[]})))&& !(valGo o.vl)) (fun h13=> ?_) (fun h13=> ?_)
        ·
         have e9:((opE o):Int)=23:=by
          unfold opE
          (repeat' split)<;>first|rfl| (exfalso;omega)| (exfalso;simp_all;done)| (exfalso;simp_all;omega)|grind
         exact .finE [.r []] [] (fun z0:Int=>(VI z0,[])) _ _ e9
        ·
         have e10:((opE o):Int)=0:=by
          unfold opE
          (repeat' split)<;>first|rfl| (exfalso;omega)| (exfalso;simp_all;done)| (exfalso;simp_all;omega)|grind
         exact .finE [.r []] [] (fun z0:Int=>(VI z0,[])) _ _ e10
   ·
    refine .bp [.r [(5,Xv 1 (o.kind==1) X0),(6,Xv 1 (o.kind==1) X0),(7,Xv 1 (o.kind==1) X0),(9,Xv 1 ((o.kind==1)&& !(o.prt !=0)) X0),(10,Xv 1 ((o.kind==1)&& !(o.prt !=0)) X0),(11,Xko (o.kind==1) (o.prt !=0)),(12,X (Xk (o.kind==1)))]] ((o.kind==1)&&((o.prt !=0)|| !(seq o.plc ({data:=#[]})))) (fun h6=> ?_) (fun h6=> ?_)
    ·
     have e11:((opE o):Int)=4:=by
      unfold opE
      (repeat' split)<;>first|rfl| (exfalso;omega)| (exfalso;simp_all;done)| (exfalso;simp_all;omega)|grind
     exact .finE [.r []] [] (fun z0:Int=>(VI z0,[])) _ _ e11
    ·
     refine .bp [.r [(5,Xv 1 (o.kind==0) X0),(6,Xv 1 (o.kind==0) X0),(7,Xv 1 (o.kind==0) X0),(9,Xv 1 ((o.kind==0)&& !(decide (o.prt< (-1)))) X0),(10,Xv 1 ((o.kind==0)&& !(decide (o.prt< (-1)))) X0),(11,Xko (o.kind==0) (decide (o.prt< (-1)))),(12,X (Xk (o.kind==0)))]] ((o.kind==0)&&(decide (o.prt< (-1))||decide (o.prt>1073741824))) (fun h8=> ?_) (fun h8=> ?_)
     ·
      have e12:((opE o):Int)=2:=by
       unfold opE
       (repeat' split)<;>first|rfl| (exfalso;omega)| (exfalso;simp_all;done)| (exfalso;simp_all;omega)|grind
      exact .finE [.r []] [] (fun z0:Int=>(VI z0,[])) _ _ e12
     ·
      refine .bp [.r [(5,Xv 1 (o.kind==0) X0),(6,Xv 1 (o.kind==0) (Xc0 (fc_rplace o.plc) X0)),(7,Xv 1 (o.kind==0) X0),(8,X (Xk (o.kind==0)))]] ((o.kind==0)&& !(placeB o.plc)) (fun h10=> ?_) (fun h10=> ?_)
      ·
       refine .bp [] ((o.kind==0)&& !(placeB o.plc)) (fun h10=> ?_) (fun h10=> ?_)
       ·
        have e13:((opE o):Int)=9:=by
         unfold opE
         (repeat' split)<;>first|rfl| (exfalso;omega)| (exfalso;simp_all;done)| (exfalso;simp_all;omega)|grind
        exact .finE [.r []] [] (fun z0:Int=>(VI z0,[])) _ _ e13
       ·
        refine .bp [.r [(5,Xv 1 (o.kind==1) X0),(6,Xv 1 (o.kind==1) X0),(7,X (Xk (o.kind==1))),(10,Xv 1 ((o.kind==1)&& !(seq o.vl ({data:=#[]}))) X0),(11,Xv 1 ((o.kind==1)&& !(seq o.vl ({data:=#[]}))) (Xc0 (fc_value o.vl) X0)),(12,Xv 1 ((o.kind==1)&& !(seq o.vl ({data:=#[]}))) X0),(13,X (Xk ((o.kind==1)&& !(seq o.vl ({data:=#[]})))))]] (((o.kind==1)&& !(seq o.vl ({data:=#[]})))&& !(valGo o.vl)) (fun h13=> ?_) (fun h13=> ?_)
        ·
         have e14:((opE o):Int)=23:=by
          unfold opE
          (repeat' split)<;>first|rfl| (exfalso;omega)| (exfalso;simp_all;done)| (exfalso;simp_all;omega)|grind
         exact .finE [.r []] [] (fun z0:Int=>(VI z0,[])) _ _ e14
        ·
         have e15:((opE o):Int)=0:=by
          unfold opE
          (repeat' split)<;>first|rfl| (exfalso;omega)| (exfalso;simp_all;done)| (exfalso;simp_all;omega)|grind
         exact .finE [.r []] [] (fun z0:Int=>(VI z0,[])) _ _ e15
      ·
       refine .bp [.r [(5,Xv 1 (o.kind==1) X0),(6,Xv 1 (o.kind==1) (Xc0 (fc_name o.nm) X0)),(7,Xv 1 (o.kind==1) X0),(8,X (Xk (o.kind==1)))]] ((o.kind==1)&& !(nameGo o.nm)) (fun h11=> ?_) (fun h11=> ?_)
       ·
        have e16:((opE o):Int)=9:=by
         unfold opE
         (repeat' split)<;>first|rfl| (exfalso;omega)| (exfalso;simp_all;done)| (exfalso;simp_all;omega)|grind
        exact .finE [.r []] [] (fun z0:Int=>(VI z0,[])) _ _ e16
       ·
        refine .bp [.r [(5,Xv 1 (o.kind==1) X0),(6,Xv 1 (o.kind==1) X0),(7,X (Xk (o.kind==1))),(10,Xv 1 ((o.kind==1)&& !(seq o.vl ({data:=#[]}))) X0),(11,Xv 1 ((o.kind==1)&& !(seq o.vl ({data:=#[]}))) (Xc0 (fc_value o.vl) X0)),(12,Xv 1 ((o.kind==1)&& !(seq o.vl ({data:=#[]}))) X0),(13,X (Xk ((o.kind==1)&& !(seq o.vl ({data:=#[]})))))]] (((o.kind==1)&& !(seq o.vl ({data:=#[]})))&& !(valGo o.vl)) (fun h13=> ?_) (fun h13=> ?_)
        ·
         have e17:((opE o):Int)=23:=by
          unfold opE
          (repeat' split)<;>first|rfl| (exfalso;omega)| (exfalso;simp_all;done)| (exfalso;simp_all;omega)|grind
         exact .finE [.r []] [] (fun z0:Int=>(VI z0,[])) _ _ e17
        ·
         have e18:((opE o):Int)=0:=by
          unfold opE
          (repeat' split)<;>first|rfl| (exfalso;omega)| (exfalso;simp_all;done)| (exfalso;simp_all;omega)|grind
         exact .finE [.r []] [] (fun z0:Int=>(VI z0,[])) _ _ e18
theorem fc_dcheck(l:List DOp):FC Tryz.prog 73 [VL 8 dopT l] (app emp []) (VI (drawE l 0)) (app emp []):=by
 refine .go Tryz.f73 ?_
 refine .len 0 (fun hl0=> ?_)
 refine .loop (α:=Nat) [.r [],.r [(1,X (Xl dopT l))]] 32 (fun i=>([(0,VL 8 dopT l),(6,VL 8 dopT l),(7,VI (l.length:Int)),(8,VI (i:Int))],[])) (fun i=>i≤l.length∧drawE l 0=drawE l i) (fun i=>l.length-i) (0:Nat) ?_ ?_
 ·
  exact⟨by omega,rfl⟩
 rintro i I2 ih2
 try dsimp only at I2
 refine .bp [.r []] (decide ((i:Int)< (l.length:Int))) (fun h2=> ?_) (fun h2=> ?_)
 ·
  refine .bp [.r [(1,X (Xi dopT l (i:Int)))],.r [(1,X (Xc0 (fc_op ((l.getD i default))) X0))],.r []] ((opE ((l.getD i default))) !=0) (fun h5=> ?_) (fun h5=> ?_)
  ·
   have e1:((drawE l 0):Int)=(opE ((l.getD i default))):=by
    rw[I2.2,drawE,if_pos (by omega),if_pos h5]
   exact .finE [.r []] [] (fun z0:Int=>(VI z0,[])) _ _ e1
  ·
   refine .bp [.r [(5,Xv 1 (decide ((i:Int)> 0)) (Xn ((i:Int)- 1))),(6,Xv 2 (decide ((i:Int)> 0)) (Xi' dopT l ((i:Int)- 1) (i- 1))),(7,Xv 1 (decide ((i:Int)> 0)) X0),(9,Xv 2 (decide ((i:Int)> 0)) (Xc0 (fc_stamps ((l.getD (i- 1) default)) ((l.getD i default))) X0)),(10,Xv 1 (decide ((i:Int)> 0)) X0),(11,X (Xk (decide ((i:Int)> 0))))]] (decide ((i:Int)> 0)&&decide ((stampC ((l.getD (i- 1) default)) ((l.getD i default)))≥0)) (fun h7=> ?_) (fun h7=> ?_)
   ·
    have e2:((drawE l 0):Int)=5:=by
     rw[I2.2,drawE,if_pos (by omega),if_neg (by rw[h5];decide),if_pos ⟨by omega,by rw[←stampC_ge];exact h7.2⟩]
    exact .finE [.r []] [] (fun z0:Int=>(VI z0,[])) _ _ e2
   ·
    refine .back [.r [(0,X (Xn ((i:Int)+1)))]] [] (ih2 ((i+1):Nat) ?_ ?_)
    ·
     refine⟨by omega,?_⟩;rw[I2.2,drawE,if_pos (by omega),if_neg (by rw[h5];decide),if_neg (by rw[←stampC_ge];clear ih2;rintro⟨a,b⟩;rcases h7 with h|h<;>omega)]
    ·
     ((try dsimp only);omega)
 ·
  have e3:((drawE l 0):Int)=0:=by
   rw[I2.2,drawE,if_neg (by omega)]
  exact .finE [.r []] [] (fun z0:Int=>(VI z0,[])) _ _ e3
theorem fc_dboth(a b:List DOp)(hn:a.length+b.length≤1099511627776):FC Tryz.prog 44 [VL 8 dopT a,VL 8 dopT b] (app emp []) (.tup [VL 8 dopT ((unionO a b).getD []),VI (if(unionO a b).isSome then(0:Int) else 6)]) (app emp []):=by
 refine .go Tryz.f44 ?_
 refine .len 0 (fun hl0=> ?_)
 refine .len 1 (fun hl1=> ?_)
 refine .loop (α:=(List DOp)×(List DOp)×(List DOp)) [.r [],.r [],.le (.nR 6 8)] 25 (fun(x,y,o)=>([(0,VL 8 dopT x),(1,VL 8 dopT y),(6,.row 24 o.length)],[(24,OR 8 dopT o)])) (fun(x,y,o)=>o.length+x.length+y.length≤a.length+b.length∧unionO a b=(unionO x y).map (o++ ·)) (fun(x,y,o)=>x.length+y.length) (a,b,[]) ?_ ?_
 ·
  exact⟨by simp,by simp⟩
 rintro⟨x,y,o⟩ I2 ih2
 try dsimp only at I2
 refine .bp [.r [(1,X (Xl dopT x)),(5,Xv 1 (!(decide ((x.length:Int)> 0))) (Xl dopT y)),(6,Xv 1 (!(decide ((x.length:Int)> 0))) X0),(7,X (Xk' (decide ((x.length:Int)> 0))))]] (decide ((x.length:Int)> 0)||decide ((y.length:Int)> 0)) (fun h2=> ?_) (fun h2=> ?_)
 ·
  have hxy:=h2
  refine .bp [.r [(1,X (Xl dopT y)),(5,Xv 1 (!((y.length:Int)==0)) (Xl dopT x)),(6,Xv 1 (!((y.length:Int)==0)) X0),(7,Xv 1 (!((y.length:Int)==0)) X0),(9,Xv 1 ((!((y.length:Int)==0))&&(decide ((x.length:Int)> 0))) (Xi dopT x 0) (fun hg=>by(try simp only[decide_eq_true_eq,decide_eq_false_iff_not,Int.not_lt,Int.not_le,gt_iff_lt,Bool.not_eq_true',Bool.not_eq_false',Bool.and_eq_true,Bool.and_eq_false_iff,beq_iff_eq,beq_eq_false_iff_ne,ne_eq] at hg);exact⟨(by omega),(by omega)⟩)),(10,Xv 1 ((!((y.length:Int)==0))&&(decide ((x.length:Int)> 0))) X0),(12,Xv 1 ((!((y.length:Int)==0))&&(decide ((x.length:Int)> 0))) (Xi dopT y 0) (fun hg=>by(try simp only[decide_eq_true_eq,decide_eq_false_iff_not,Int.not_lt,Int.not_le,gt_iff_lt,Bool.not_eq_true',Bool.not_eq_false',Bool.and_eq_true,Bool.and_eq_false_iff,beq_iff_eq,beq_eq_false_iff_ne,ne_eq] at hg);exact⟨(by omega),(by omega)⟩)),(13,Xv 1 ((!((y.length:Int)==0))&&(decide ((x.length:Int)> 0))) X0),(14,Xv 2 ((!((y.length:Int)==0))&&(decide ((x.length:Int)> 0))) (Xc0 (fc_stamps ((x.getD 0 default)) ((y.getD 0 default))) X0)),(15,Xv 1 ((!((y.length:Int)==0))&&(decide ((x.length:Int)> 0))) X0),(16,Xka (!((y.length:Int)==0)) (decide ((x.length:Int)> 0))),(17,X (Xk' ((y.length:Int)==0)))]] (((y.length:Int)==0)|| (decide ((x.length:Int)> 0)&&decide ((stampC ((x.getD 0 default)) ((y.getD 0 default)))< 0))) (fun h4=> ?_) (fun h4=> ?_)
  ·
   refine .back [.r [(2,X (Xi dopT x 0)),(5,X (rowC dopT [((x.getD 0 default))] (Xap 8 dopT 24 o [((x.getD 0 default))]))),(7,X (Xsd dopT 8 x 1))]] [(24,24)] (ih2 ((x.drop 1),y,(o++[((x.getD 0 default))])) ?_ ?_)
   ·
    have hl:y.length=0∨ltO (x.getD 0 default) (y.getD 0 default):=by(rw[←stampC_lt];omega)
    refine⟨by simp;omega,?_⟩
    rw[I2.2,unionO_left (by omega) hl,Option.map_map];congr 1;funext z;simp
   ·
    (try dsimp only);simp;omega
  ·
   refine .bp [.r [(1,X (Xl dopT x)),(5,Xv 1 (!((x.length:Int)==0)) (Xi dopT y 0) (fun hg=>by(try simp only[Bool.not_eq_true',Bool.not_eq_false',beq_iff_eq,beq_eq_false_iff_ne,ne_eq] at hg);exact⟨(by omega),(by omega)⟩)),(6,Xv 1 (!((x.length:Int)==0)) X0),(8,Xv 1 (!((x.length:Int)==0)) (Xi dopT x 0) (fun hg=>by(try simp only[Bool.not_eq_true',Bool.not_eq_false',beq_iff_eq,beq_eq_false_iff_ne,ne_eq] at hg);exact⟨(by omega),(by omega)⟩)),(9,Xv 1 (!((x.length:Int)==0)) X0),(10,Xv 2 (!((x.length:Int)==0)) (Xc0 (fc_stamps ((y.getD 0 default)) ((x.getD 0 default))) X0)),(11,Xv 1 (!((x.length:Int)==0)) X0),(12,X (Xk' ((x.length:Int)==0)))]] (((x.length:Int)==0)||decide ((stampC ((y.getD 0 default)) ((x.getD 0 default)))< 0)) (fun h6=> ?_) (fun h6=> ?_)
   ·
    refine .back [.r [(2,X (Xi dopT y 0)),(5,X (rowC dopT [((y.getD 0 default))] (Xap 8 dopT 24 o [((y.getD 0 default))]))),(7,X (Xsd dopT 8 y 1))]] [(24,24)] (ih2 (x,(y.drop 1),(o++[((y.getD 0 default))])) ?_ ?_)
    ·
     have hl:x.length=0∨ltO (y.getD 0 default) (x.getD 0 default):=by(rw[←stampC_lt];omega)
     refine⟨by simp;omega,?_⟩
     rw[I2.2,unionO_right (by omega) hl,Option.map_map];congr 1;funext z;simp
    ·
     (try dsimp only);simp;omega
   ·
    have hx0:0<x.length:=by omega
    have hy0:0<y.length:=by omega
    have n1:¬ltO (x.getD 0 default) (y.getD 0 default):=by(rw[←stampC_lt];omega)
    have n2:¬ltO (y.getD 0 default) (x.getD 0 default):=by(rw[←stampC_lt];omega)
    have hu:=unionO_both hx0 hy0 n1 n2
    refine .bp [.r [(1,X (Xi dopT x 0)),(4,X (Xi dopT y 0))]] (!((((x.getD 0 default)).clock)==(((y.getD 0 default)).clock)&&((((x.getD 0 default)).site)==(((y.getD 0 default)).site)&&((((x.getD 0 default)).kind)==(((y.getD 0 default)).kind)&&((((x.getD 0 default)).itm)==(((y.getD 0 default)).itm)&&((((x.getD 0 default)).prt)==(((y.getD 0 default)).prt)&&(seq (((x.getD 0 default)).plc) (((y.getD 0 default)).plc)&&(seq (((x.getD 0 default)).nm) (((y.getD 0 default)).nm)&&(seq (((x.getD 0 default)).vl) (((y.getD 0 default)).vl)&&true))))))))) (fun h8=> ?_) (fun h8=> ?_)
    ·
     have e1:(((unionO a b).getD []):List DOp)=[]:=by
      have hne:¬x.getD 0 default=y.getD 0 default:=by
       intro e
       have s0:∀s,seq s s=true:=fun s=>seq_iff.2 rfl
       rw[e] at h8
       simp[s0] at h8
      rw[I2.2,hu,if_neg hne];rfl
     have e2:((if(unionO a b).isSome then(0:Int) else 6):Int)=6:=by
      have hne:¬x.getD 0 default=y.getD 0 default:=by
       intro e
       have s0:∀s,seq s s=true:=fun s=>seq_iff.2 rfl
       rw[e] at h8
       simp[s0] at h8
      rw[I2.2,hu,if_neg hne];rfl
     exact .finE [.r [],.le (.nL 4 8)] [] (fun((z0,z1):(List DOp)×Int)=>(.tup [VL 8 dopT z0,VI z1],[])) _ _ (pr e1 e2)
    ·
     refine .back [.r [(2,X (Xi dopT x 0)),(5,X (rowC dopT [((x.getD 0 default))] (Xap 8 dopT 24 o [((x.getD 0 default))]))),(7,X (Xsd dopT 8 x 1)),(9,X (Xsd dopT 8 y 1))]] [(24,24)] (ih2 ((x.drop 1),(y.drop 1),(o++[((x.getD 0 default))])) ?_ ?_)
     ·
      obtain⟨q1,q2,q3,q4,q5,q6,q7,q8,-⟩:=h8
      rw[seq_iff] at q6 q7 q8
      refine⟨by simp;omega,?_⟩
      rw[I2.2,hu,if_pos (dop_ext q1 q2 q3 q4 q5 q6 q7 q8),Option.map_map];congr 1;funext z;simp
     ·
      (try dsimp only);simp;omega
 ·
  have e3:(((unionO a b).getD []):List DOp)=o:=by
   have hx0:x=[]:=List.eq_nil_of_length_eq_zero (by omega)
   have hy0:y=[]:=List.eq_nil_of_length_eq_zero (by omega)
   rw[I2.2,hx0,hy0];simp[unionO]
  have e4:((if(unionO a b).isSome then(0:Int) else 6):Int)=0:=by
   have hx0:x=[]:=List.eq_nil_of_length_eq_zero (by omega)
   have hy0:y=[]:=List.eq_nil_of_length_eq_zero (by omega)
   rw[I2.2,hx0,hy0];simp[unionO]
  exact .finE [.r [],.le (.fr 4 [(o.length:Nat)=(List.map dopT o).length] ⟨lm,trivial⟩)] [] (fun((z0,z1):(List DOp)×Int)=>(.tup [VL 8 dopT z0,VI z1],[])) _ _ (pr e3 e4)
end Go.Ch
end
section
set_option linter.unusedVariables false
set_option linter.unusedSimpArgs false
set_option maxRecDepth 100000
set_option maxHeartbeats 4000000
open Go Go.Proofs Go.Ab
namespace Go.Ch
theorem fc_place(l:List AxStep)(p:Int)(hv:Valid l)(hp:0≤p∧p≤2147483647):FC Tryz.prog 205 [VL 2 stepT l,VI p] (app emp []) (VI (placeS l p 0 0)) (app emp []):=by
 refine .go Tryz.f205 ?_
 refine .len 0 (fun hl0=> ?_)
 have ca:=check_iff.2 hv
 have hv1:oldI l≤2147483647:=by have:=hv.2.1;unfold oldI;omega
 have hv2:newI l≤2147483647:=by have:=hv.2.2;unfold newI;omega
 have o0:0≤oldI l:=by unfold oldI;omega
 have o1:0≤newI l:=by unfold newI;omega
 refine .loop (α:=Int×Int×Nat) [.r [],.r [],.r [(1,X (Xl stepT l))]] 48 (fun(fr,tq,i)=>([(1,VI p),(5,VI fr),(6,VI tq),(9,VL 2 stepT l),(10,VI (l.length:Int)),(11,VI (i:Int))],[])) (fun(fr,tq,i)=>i≤l.length∧0≤fr∧0≤tq∧fr+oldU (ex (l.drop i))=oldI l∧tq+newU (ex (l.drop i))=newI l∧fr≤p∧placeS l p 0 0=placeS (l.drop i) p fr tq) (fun(fr,tq,i)=>l.length-i) (0,0,0) ?_ ?_
 ·
  exact⟨by omega,by decide,by decide,by simp[oldI],by simp[newI],by omega,rfl⟩
 rintro⟨fr,tq,i⟩ I3 ih3
 try dsimp only at I3
 refine .bp [.r []] (decide ((i:Int)< (l.length:Int))) (fun h3=> ?_) (fun h3=> ?_)
 ·
  have hst:=lens_step (l:=l) (i:=i) (by omega) hv.1
  have hd:=drop_ats (l:=l) (i:=i) (by omega)
  refine .bp [.r [(0,X (Xi stepT l (i:Int)))],.r [],.r []] ((((l.getD i default)).kind)==1) (fun h8=> ?_) (fun h8=> ?_)
  ·
   refine .back [.r [(3,X (Xn (tq+(((l.getD i default)).n))))],.r [(0,X (Xn ((i:Int)+1)))]] [] (ih3 (fr,(tq+(((l.getD i default)).n)),(i+1)) ?_ ?_)
   ·
    obtain⟨s1,s2,s3,s4,s5⟩:=hst
    (first|rw[if_pos (by omega)] at s1|rw[if_neg (by omega)] at s1)
    (first|rw[if_pos (by omega)] at s2|rw[if_neg (by omega)] at s2)
    refine⟨by omega,by omega,by omega,by omega,by omega,by omega,?_⟩
    rw[I3.2.2.2.2.2.2,hd,placeS]
    ((repeat' split)<;>first|rfl|omega)
   ·
    ((try dsimp only);omega)
  ·
   refine .bp [.r []] ((((l.getD i default)).kind)==0) (fun h10=> ?_) (fun h10=> ?_)
   ·
    refine .bp [.r [(4,X (Xn (fr+(((l.getD i default)).n))))]] (decide (p< (fr+(((l.getD i default)).n)))) (fun h11=> ?_) (fun h11=> ?_)
    ·
     have e1:((placeS l p 0 0):Int)=((tq+p)- fr):=by
      first| (rw[I3.2.2.2.2.2.2,drop_ends (by omega)];rfl)| (rw[I3.2.2.2.2.2.2,hd,placeS];((repeat' split)<;>first|rfl|omega))
     exact .finE [.r [(2,X (Xn (tq+p))),(4,X (Xn ((tq+p)- fr)))]] [] (fun z0:Int=>(VI z0,[])) _ _ e1
    ·
     refine .back [.r [(3,X (Xn (tq+(((l.getD i default)).n))))],.r [(3,X (Xn (fr+(((l.getD i default)).n))))],.r [(0,X (Xn ((i:Int)+1)))]] [] (ih3 ((fr+(((l.getD i default)).n)),(tq+(((l.getD i default)).n)),(i+1)) ?_ ?_)
     ·
      obtain⟨s1,s2,s3,s4,s5⟩:=hst
      (first|rw[if_pos (by omega)] at s1|rw[if_neg (by omega)] at s1)
      (first|rw[if_pos (by omega)] at s2|rw[if_neg (by omega)] at s2)
      refine⟨by omega,by omega,by omega,by omega,by omega,by omega,?_⟩
      rw[I3.2.2.2.2.2.2,hd,placeS]
      ((repeat' split)<;>first|rfl|omega)
     ·
      ((try dsimp only);omega)
   ·
    refine .bp [.r [(4,X (Xn (fr+(((l.getD i default)).n))))]] (decide (p< (fr+(((l.getD i default)).n)))) (fun h6=> ?_) (fun h6=> ?_)
    ·
     have e2:((placeS l p 0 0):Int)= -1:=by
      first| (rw[I3.2.2.2.2.2.2,drop_ends (by omega)];rfl)| (rw[I3.2.2.2.2.2.2,hd,placeS];((repeat' split)<;>first|rfl|omega))
     exact .finE [.r []] [] (fun z0:Int=>(VI z0,[])) _ _ e2
    ·
     refine .back [.r [(3,X (Xn (fr+(((l.getD i default)).n))))],.r [(0,X (Xn ((i:Int)+1)))]] [] (ih3 ((fr+(((l.getD i default)).n)),tq,(i+1)) ?_ ?_)
     ·
      obtain⟨s1,s2,s3,s4,s5⟩:=hst
      (first|rw[if_pos (by omega)] at s1|rw[if_neg (by omega)] at s1)
      (first|rw[if_pos (by omega)] at s2|rw[if_neg (by omega)] at s2)
      refine⟨by omega,by omega,by omega,by omega,by omega,by omega,?_⟩
      rw[I3.2.2.2.2.2.2,hd,placeS]
      ((repeat' split)<;>first|rfl|omega)
     ·
      ((try dsimp only);omega)
 ·
  have e3:((placeS l p 0 0):Int)= -1:=by
   first| (rw[I3.2.2.2.2.2.2,drop_ends (by omega)];rfl)| (rw[I3.2.2.2.2.2.2,hd,placeS];((repeat' split)<;>first|rfl|omega))
  exact .finE [.r []] [] (fun z0:Int=>(VI z0,[])) _ _ e3
theorem fc_axApply(l:List AxStep)(pl:List Int)(hv:Valid l)(hp:∀x∈pl,0≤x∧x<oldI l)(hlen:pl.length≤1000000000):FC Tryz.prog 167 [VL 2 stepT l,VL 1 intT pl] (app emp []) (.tup [VL 1 intT (List.map (fun x=>placeS l x 0 0) pl),VI 0]) (app emp []):=by
 refine .go Tryz.f167 ?_
 refine .len 0 (fun hl0=> ?_)
 refine .len 1 (fun hl1=> ?_)
 have ca:=check_iff.2 hv
 have hv1:oldI l≤2147483647:=by have:=hv.2.1;unfold oldI;omega
 have hv2:newI l≤2147483647:=by have:=hv.2.2;unfold newI;omega
 have o0:0≤oldI l:=by unfold oldI;omega
 have o1:0≤newI l:=by unfold newI;omega
 refine .bp [.r [],.r [(1,X (Xc0 (fc_axCheck l) X0))],.r []] ((checkX l) !=0) (fun h2=> ?_) (fun h2=> ?_)
 ·
  exfalso
  omega
 ·
  refine .loop (α:=Nat×(List Int)) [.r [(1,X (Xc0 (fc_axLens l (by assumption)) X0))],.r [],.r [(1,X (Xl intT pl))],.le (.nR 9 1)] 145 (fun(i,out)=>([(0,VL 2 stepT l),(7,VI (oldI l)),(9,.row 144 out.length),(22,VL 1 intT pl),(23,VI (pl.length:Int)),(24,VI (i:Int))],[(144,OR 1 intT out)])) (fun(i,out)=>i≤pl.length∧out=(pl.take i).map (fun x=>placeS l x 0 0)) (fun(i,out)=>pl.length-i) (0,[]) ?_ ?_
  ·
   exact⟨by omega,rfl⟩
  rintro⟨i,out⟩ I7 ih7
  try dsimp only at I7
  have ol:out.length=i:=by rw[I7.2];simp;omega
  refine .bp [.r []] (decide ((i:Int)< (pl.length:Int))) (fun h7=> ?_) (fun h7=> ?_)
  ·
   have hx:=hp (pl.getD i default) (by rw[show pl.getD i default=pl[i] by simp[List.getD,List.getElem?_eq_getElem (show i<pl.length by omega)]];exact List.getElem_mem _)
   refine .bp [.r [(0,X (Xi intT pl (i:Int)))],.r [(5,Xv 2 (!(decide ((pl.getD i default)< 0))) X0),(6,X (Xk' (decide ((pl.getD i default)< 0))))]] (decide ((pl.getD i default)< 0)||decide ((pl.getD i default)≥(oldI l))) (fun h9=> ?_) (fun h9=> ?_)
   ·
    exfalso
    omega
   ·
    refine .back [.r [(3,X (Xc0 (fc_place l (pl.getD i default) (by assumption) (by omega)) X0)),(5,X (rowC intT [(placeS l (pl.getD i default) 0 0)] (Xap 1 intT 144 out [(placeS l (pl.getD i default) 0 0)])))],.r [(0,X (Xn ((i:Int)+1)))]] [(144,144)] (ih7 ((i+1),(out++[(placeS l (pl.getD i default) 0 0)])) ?_ ?_)
    ·
     refine⟨by omega,?_⟩
     rw[I7.2,List.take_succ_eq_append_getElem (show i<pl.length by omega),List.map_append]
     simp[List.getD,List.getElem?_eq_getElem (show i<pl.length by omega)]
    ·
     ((try dsimp only);omega)
  ·
   have e1:((List.map (fun x=>placeS l x 0 0) pl):List Int)=out:=by
    rw[I7.2,List.take_of_length_le (by omega)]
   exact .finE [.r [],.le (.fr 4 [(out.length:Nat)=(List.map intT out).length] ⟨lm,trivial⟩)] [] (fun z0:List Int=>(.tup [VL 1 intT z0,VI 0],[])) _ _ e1
end Go.Ch
end
section
set_option linter.unusedVariables false
namespace Go.Ch
open Go Go.Ab
def NoTx(l:List Cell):Prop:=∀c∈l,c.text.size=0
structure LiteE(e:GEd):Prop where
 sp:e.split.length=0
 me:e.merge.length=0
 tx:NoTx e.cells
 ln:e.cells.length≤1048576
def fitsE(x:Grid)(e:GEd):Int:=if gridE x≠0 then gridE x else if edE e≠0 then edE e else fitE x e
def fitM(x:Grid)(e:GEd):Int:=if fitsE x e≠0 then 0 else nwS x.rows e.rows
def fitN(x:Grid)(e:GEd):Int:=if fitsE x e≠0 then 0 else nwS x.cols e.cols
theorem fits_0{x:Grid}{e:GEd}{k:Int}(h:fitsE x e=k)(hk:k≠0):fitM x e=0∧fitN x e=0∧fitsE x e=k:=by
 unfold fitM fitN
 rw[h,if_pos hk,if_pos hk];exact⟨rfl,rfl,rfl⟩
theorem fits_1{x:Grid}{e:GEd}(h:gridE x≠0):fitM x e=0∧fitN x e=0∧fitsE x e=gridE x:=fits_0 (by unfold fitsE;rw[if_pos h]) h
theorem fits_2{x:Grid}{e:GEd}(h:gridE x=0)(h2:edE e≠0):fitM x e=0∧fitN x e=0∧fitsE x e=edE e:=fits_0 (by unfold fitsE;rw[if_neg (fun q=>q h),if_pos h2]) h2
theorem fits_3{x:Grid}{e:GEd}(h:gridE x=0)(h2:edE e=0)(h3:¬(0<e.rows.length→oldI e.rows=x.rows)∨¬(0<e.cols.length→oldI e.cols=x.cols)):fitM x e=0∧fitN x e=0∧fitsE x e=14:=
 fits_0 (by
  unfold fitsE fitE
  rw[if_neg (fun q=>q h),if_neg (fun q=>q h2)]
  split
  ·rfl
  ·rename_i q
   rw[if_pos]
   rcases h3 with z|z
   ·exact absurd (fun a=>Classical.byContradiction fun b=>q ⟨a,b⟩) z
   ·exact Classical.byContradiction fun w=>z (fun a=>Classical.byContradiction fun b=>w ⟨a,b⟩)) (by decide)
theorem fits_e{x:Grid}{e:GEd}(h:gridE x=0)(h2:edE e=0)(h3:(0<e.rows.length→oldI e.rows=x.rows)∧(0<e.cols.length→oldI e.cols=x.cols))(q1:e.split.length=0)(q2:e.merge.length=0):fitsE x e=celF e.cells (nwS x.rows e.rows) (nwS x.cols e.cols) 0:=by
 have i1:insQE e.split (nwS x.rows e.rows) (nwS x.cols e.cols) 0=0:=by rw[insQE,if_neg (by omega)]
 have i2:insQE e.merge (nwS x.rows e.rows) (nwS x.cols e.cols) 0=0:=by rw[insQE,if_neg (by omega)]
 unfold fitsE fitE
 rw[if_neg (fun q=>q h),if_neg (fun q=>q h2),if_neg (fun q=>q.2 (h3.1 q.1)),if_neg (fun q=>q.2 (h3.2 q.1)),i1,i2]
 split
 ·rfl
 ·rename_i q
  rw[if_neg (fun z=>z rfl)]
  exact(Classical.byContradiction q).symm
theorem fits_4{x:Grid}{e:GEd}(h:gridE x=0)(h2:edE e=0)(h3:(0<e.rows.length→oldI e.rows=x.rows)∧(0<e.cols.length→oldI e.cols=x.cols))(q1:e.split.length=0)(q2:e.merge.length=0)(hc:celF e.cells (nwS x.rows e.rows) (nwS x.cols e.cols) 0=2):fitM x e=0∧fitN x e=0∧fitsE x e=2:=
 fits_0 ((fits_e h h2 h3 q1 q2).trans hc) (by decide)
theorem fits_5{x:Grid}{e:GEd}(h:gridE x=0)(h2:edE e=0)(h3:(0<e.rows.length→oldI e.rows=x.rows)∧(0<e.cols.length→oldI e.cols=x.cols))(q1:e.split.length=0)(q2:e.merge.length=0)(hc:celF e.cells (nwS x.rows e.rows) (nwS x.cols e.cols) 0=0):fitM x e=nwS x.rows e.rows∧fitN x e=nwS x.cols e.cols∧fitsE x e=0:=by
 have e0:=(fits_e h h2 h3 q1 q2).trans hc
 unfold fitM fitN
 rw[e0,if_neg (fun q=>q rfl),if_neg (fun q=>q rfl)]
 exact⟨rfl,rfl,rfl⟩
def rawT(g:Grid)(e:GEd):Grid:=⟨nwS g.rows e.rows,nwS g.cols e.cols,putL e.cells (movL g.cells e.rows e.cols),[]⟩
structure RawT(g:Grid)(e:GEd):Prop where
 vr:0<e.rows.length→Valid e.rows
 vk:0<e.cols.length→Valid e.cols
 l1:g.cells.length≤1048576
 l2:e.cells.length≤1048576
 a1:CAN 1000000000000 g.cells
 a2:CAN 1000000000000 e.cells
 p1:∀c∈g.cells,PIn e.rows c.row
 p2:∀c∈g.cells,PIn e.cols c.col
 q1:g.merges.length=0
 q2:e.merge.length=0
theorem cells_in{l:List Cell}{m n:Int}{o:Bool}:∀(k i:Nat),l.length-i=k→cellsE l m n o i=0→∀j,i≤j→j<l.length→cellE (l.getD j default) m n o=0
 |0,i,h,_,j,h1,h2=>by omega
 |k+1,i,h,h0,j,h1,h2=>by
  rw[cellsE,if_pos (by omega)] at h0
  split at h0
  ·rename_i q;exact absurd h0 q
  ·rename_i q
   split at h0
   ·cases h0
   ·by_cases e:i=j
    ·rw[←e];exact Classical.byContradiction q
    ·exact cells_in k (i+1) (by omega) h0 j (by omega) h2
theorem grid_cells{x:Grid}(h:gridE x=0):∀c∈x.cells,0≤c.row∧c.row<x.rows∧0≤c.col∧c.col<x.cols:=by
 have hc:cellsE x.cells x.rows x.cols false 0=0:=by
  unfold gridE at h
  split at h
  ·cases h
  ·split at h
   ·rename_i q;exact absurd h q
   ·rename_i q;exact Classical.byContradiction q
 intro c hm
 obtain⟨j,hj,rfl⟩:=mem_getDX hm
 have:=cells_in _ 0 rfl hc j (Nat.zero_le _) hj
 unfold cellE at this
 split at this
 ·cases this
 ·omega
theorem RawT.of{x:Grid}{e:GEd}(h:fitsE x e=0)(hm:x.merges=[])(hl:LiteE e)(l1:x.cells.length≤1048576)(l2:e.cells.length≤1048576)(a1:∀c∈x.cells,c.attrs.length≤1048576)(a2:∀c∈e.cells,c.attrs.length≤1048576):RawT x e:=by
 unfold fitsE at h
 split at h
 ·rename_i q;exact absurd h q
 rename_i q
 have hg:gridE x=0:=Classical.byContradiction q
 split at h
 ·rename_i q;exact absurd h q
 rename_i q
 have he:edE e=0:=Classical.byContradiction q
 have ho:=edE_ok he
 have hf:=fitE_ok h
 have hc:=grid_cells hg
 refine⟨fun _=>ho.okr,fun _=>ho.okc,l1,l2,fun c h=>by have:=a1 c h;omega,fun c h=>by have:=a2 c h;omega,fun c hm hp=>⟨ho.okr,?_⟩,fun c hm hp=>⟨ho.okc,?_⟩,by rw[hm];rfl,hl.me⟩
 ·have:=hc c hm;have:=hf.rows hp;omega
 ·have:=hc c hm;have:=hf.cols hp;omega
end Go.Ch
end
section
set_option linter.unusedVariables false
set_option linter.unusedSimpArgs false
set_option maxRecDepth 100000
set_option maxHeartbeats 4000000
open Go Go.Proofs Go.Ab
namespace Go.Ch
theorem fc_textT(s:ByteArray)(hs:s.size=0):FC Tryz.prog 157 [VS s] (app emp []) (VB (textG s)) (app emp []):=by
 refine .go Tryz.f157 ?_
 refine .loop (α:=ByteArray) [.r []] 8 (fun u=>([(0,VS u)],[])) (fun u=>u=s) (fun u=>u.size) (s:ByteArray) ?_ ?_
 ·
  rfl
 rintro u I1 ih1
 replace I1:u=s:=I1
 refine .bp [.r []] (!(seq u ({data:=#[]}))) (fun h1=> ?_) (fun h1=> ?_)
 ·
  exfalso
  rw[seq_mt,decide_eq_false_iff_not] at h1
  rw[I1] at h1;omega
 ·
  have e1:((textG s):Bool)=true:=by
   rw[textG_end (by omega)]
  exact .finE [.r []] [] (fun z0:Bool=>(VB z0,[])) _ _ e1
theorem fc_cells(l:List Cell)(m n:Int)(o:Bool)(hnt:NoTx l):FC Tryz.prog 108 [VL 5 cellT l,VI m,VI n,VB o] (app emp []) (VI (cellsE l m n o 0)) (app emp []):=by
 refine .go Tryz.f108 ?_
 refine .len 0 (fun hl0=> ?_)
 refine .loop (α:=Nat) [.r [],.r [(1,X (Xl cellT l))]] 32 (fun i=>([(0,VL 5 cellT l),(1,VI m),(2,VI n),(3,VB o),(12,VL 5 cellT l),(13,VI (l.length:Int)),(14,VI (i:Int))],[])) (fun i=>i≤l.length∧cellsE l m n o 0=cellsE l m n o i) (fun i=>l.length-i) (0:Nat) ?_ ?_
 ·
  exact⟨by omega,rfl⟩
 rintro i I2 ih2
 try dsimp only at I2
 refine .bp [.r []] (decide ((i:Int)< (l.length:Int))) (fun h2=> ?_) (fun h2=> ?_)
 ·
  have hx:cellsE l m n o i=_:=cellsE.eq_1 l m n o i
  rw[if_pos (by omega)] at hx
  unfold cellE at hx
  have hxt:(l.getD i default).text.size=0:=hnt _ (getDX_mem (by omega))
  refine .bp [.r [(1,X (Xi cellT l (i:Int)))],.r [(5,Xv 1 (!(decide ((((l.getD i default)).row)< 0))) X0),(7,Xv 2 (!(decide ((((l.getD i default)).row)< 0))) X0),(8,X (Xk' (decide ((((l.getD i default)).row)< 0)))),(11,Xv 1 (!(decide ((((l.getD i default)).row)< 0)||decide ((((l.getD i default)).row)≥m))) X0),(12,Xv 1 (!(decide ((((l.getD i default)).row)< 0)||decide ((((l.getD i default)).row)≥m))) X0),(13,X (Xk' (decide ((((l.getD i default)).row)< 0)||decide ((((l.getD i default)).row)≥m)))),(16,Xv 1 (!((decide ((((l.getD i default)).row)< 0)||decide ((((l.getD i default)).row)≥m))||decide ((((l.getD i default)).col)< 0))) X0),(18,Xv 2 (!((decide ((((l.getD i default)).row)< 0)||decide ((((l.getD i default)).row)≥m))||decide ((((l.getD i default)).col)< 0))) X0),(19,X (Xk' ((decide ((((l.getD i default)).row)< 0)||decide ((((l.getD i default)).row)≥m))||decide ((((l.getD i default)).col)< 0))))]] (((decide ((((l.getD i default)).row)< 0)||decide ((((l.getD i default)).row)≥m))||decide ((((l.getD i default)).col)< 0))||decide ((((l.getD i default)).col)≥n)) (fun h4=> ?_) (fun h4=> ?_)
  ·
   have e1:((cellsE l m n o 0):Int)=2:=by
    first| (rw[I2.2,hx];((repeat' split)<;>first|rfl|omega| (simp_all;done)| (simp_all;omega)))| (rw[I2.2,cellsE,if_neg (by omega)])
   exact .finE [.r []] [] (fun z0:Int=>(VI z0,[])) _ _ e1
  ·
   refine .bp [.r [(5,Xv 1 (!(decide ((((l.getD i default)).ref)< 0))) X0),(6,Xv 1 (!(decide ((((l.getD i default)).ref)< 0))) X0),(7,X (Xk' (decide ((((l.getD i default)).ref)< 0))))]] (decide ((((l.getD i default)).ref)< 0)||decide ((((l.getD i default)).ref)> 1073741824)) (fun h6=> ?_) (fun h6=> ?_)
   ·
    have e2:((cellsE l m n o 0):Int)=2:=by
     first| (rw[I2.2,hx];((repeat' split)<;>first|rfl|omega| (simp_all;done)| (simp_all;omega)))| (rw[I2.2,cellsE,if_neg (by omega)])
    exact .finE [.r []] [] (fun z0:Int=>(VI z0,[])) _ _ e2
   ·
    refine .bp [.r [(2,X (Xc0 (fc_textT (((l.getD i default)).text) (by assumption)) X0))]] (!(textG (((l.getD i default)).text))) (fun h8=> ?_) (fun h8=> ?_)
    ·
     have e3:((cellsE l m n o 0):Int)=23:=by
      first| (rw[I2.2,hx];((repeat' split)<;>first|rfl|omega| (simp_all;done)| (simp_all;omega)))| (rw[I2.2,cellsE,if_neg (by omega)])
     exact .finE [.r []] [] (fun z0:Int=>(VI z0,[])) _ _ e3
    ·
     refine .bp [.r [(2,X (Xc0 (fc_acheck (((l.getD i default)).attrs)) X0))],.r []] ((chkA false (((l.getD i default)).attrs) 0) !=0) (fun h11=> ?_) (fun h11=> ?_)
     ·
      have e4:((cellsE l m n o 0):Int)=(chkA false (((l.getD i default)).attrs) 0):=by
       first| (rw[I2.2,hx];((repeat' split)<;>first|rfl|omega| (simp_all;done)| (simp_all;omega)))| (rw[I2.2,cellsE,if_neg (by omega)])
      exact .finE [.r []] [] (fun z0:Int=>(VI z0,[])) _ _ e4
     ·
      refine .bp [.r [(1,X (Xc0 (fc_empty ((l.getD i default))) X0)),(4,Xv 1 (emptyC ((l.getD i default))) X0),(5,X (Xk (emptyC ((l.getD i default)))))]] ((emptyC ((l.getD i default)))&& !o) (fun h13=> ?_) (fun h13=> ?_)
      ·
       have e5:((cellsE l m n o 0):Int)=4:=by
        first| (rw[I2.2,hx];((repeat' split)<;>first|rfl|omega| (simp_all;done)| (simp_all;omega)))| (rw[I2.2,cellsE,if_neg (by omega)])
       exact .finE [.r []] [] (fun z0:Int=>(VI z0,[])) _ _ e5
      ·
       refine .bp [.r [(5,Xv 1 (decide ((i:Int)> 0)) (Xn ((i:Int)- 1))),(6,Xv 2 (decide ((i:Int)> 0)) (Xi' cellT l ((i:Int)- 1) (i- 1))),(7,Xv 1 (decide ((i:Int)> 0)) X0),(9,Xv 2 (decide ((i:Int)> 0)) (Xc0 (fc_order ((l.getD (i- 1) default)) ((l.getD i default))) X0)),(10,Xv 1 (decide ((i:Int)> 0)) X0),(11,X (Xk (decide ((i:Int)> 0))))]] (decide ((i:Int)> 0)&&decide ((ordC ((l.getD (i- 1) default)) ((l.getD i default)))≥0)) (fun h15=> ?_) (fun h15=> ?_)
       ·
        have e6:((cellsE l m n o 0):Int)=5:=by
         first| (rw[I2.2,hx];((repeat' split)<;>first|rfl|omega| (simp_all;done)| (simp_all;omega)))| (rw[I2.2,cellsE,if_neg (by omega)])
        exact .finE [.r []] [] (fun z0:Int=>(VI z0,[])) _ _ e6
       ·
        refine .back [.r [(0,X (Xn ((i:Int)+1)))]] [] (ih2 ((i+1):Nat) ?_ ?_)
        ·
         refine⟨by omega,?_⟩
         rw[I2.2,hx]
         ((repeat' split)<;>first|rfl|omega| (simp_all;done)| (simp_all;omega))
        ·
         ((try dsimp only);omega)
 ·
  have e7:((cellsE l m n o 0):Int)=0:=by
   first| (rw[I2.2,hx];((repeat' split)<;>first|rfl|omega| (simp_all;done)| (simp_all;omega)))| (rw[I2.2,cellsE,if_neg (by omega)])
  exact .finE [.r []] [] (fun z0:Int=>(VI z0,[])) _ _ e7
theorem fc_clone(c:Cell)(h:c.attrs.length≤1000000000000):FC Tryz.prog 166 [.t (cellT c)] (app emp []) (.t (cellT c)) (app emp []):=by
 refine .go Tryz.f166 ?_
 exact .finV [.r [],.r [(2,X (Xan attrT 32 c.attrs))],.r []] [.fR 0 [(c.attrs.length:Nat)=(List.map attrT c.attrs).length] ⟨lm,trivial⟩] []
theorem fc_axsize(n:Int)(a:List AxStep)(hv:0<a.length→Valid a):FC Tryz.prog 125 [VI n,VL 2 stepT a] (app emp []) (.tup [VI (if 0<a.length then newI a else n),VB (decide (0<a.length→oldI a=n))]) (app emp []):=by
 refine .go Tryz.f125 ?_
 refine .len 1 (fun hl1=> ?_)
 refine .bp [.r [],.r [(1,X (Xl stepT a))]] ((a.length:Int)==0) (fun h1=> ?_) (fun h1=> ?_)
 ·
  have e1:((if 0<a.length then newI a else n):Int)=n:=by
   first|rw[if_neg (by omega)]|exact decide_eq_true (fun h=>by omega)|exact(decide_eq_true (fun h=>by omega)).symm
  have e2:((decide (0<a.length→oldI a=n)):Bool)=true:=by
   first|rw[if_neg (by omega)]|exact decide_eq_true (fun h=>by omega)|exact(decide_eq_true (fun h=>by omega)).symm
  exact .finE [.r []] [] (fun((z0,z1):Int×Bool)=>(.tup [VI z0,VB z1],[])) _ _ (pr e1 e2)
 ·
  have ha:0<a.length:=by omega
  have hv2:=hv ha
  have e3:((if 0<a.length then newI a else n):Int)=(newI a):=by
   first|rw[if_pos (by omega)]| (rw[Bool.eq_iff_iff,decide_eq_true_eq,beq_iff_eq];exact⟨fun h=>h (by omega),fun h _=>h⟩)
  have e4:((decide (0<a.length→oldI a=n)):Bool)=((oldI a)==n):=by
   first|rw[if_pos (by omega)]| (rw[Bool.eq_iff_iff,decide_eq_true_eq,beq_iff_eq];exact⟨fun h=>h (by omega),fun h _=>h⟩)
  exact .finE [.r [(1,X (Xc0 (fc_axLengths a (by assumption)) X0))],.r []] [] (fun((z0,z1):Int×Bool)=>(.tup [VI z0,VB z1],[])) _ _ (pr e3 e4)
end Go.Ch
end
section
set_option linter.unusedVariables false
set_option linter.unusedSimpArgs false
set_option maxRecDepth 100000
set_option maxHeartbeats 4000000
open Go Go.Proofs Go.Ab
namespace Go.Ch
theorem fc_moved(l:List Cell)(rows cols:List AxStep)(hl:l.length≤100000000000)(ha:CAN 1000000000000 l)(hr:∀c∈l,PIn rows c.row)(hc:∀c∈l,PIn cols c.col):FC Tryz.prog 127 [VL 5 cellT l,VL 2 stepT rows,VL 2 stepT cols] (app emp []) (VL 5 cellT (movL l rows cols)) (app emp []):=by
 refine .go Tryz.f127 ?_
 refine .len 0 (fun hl0=> ?_)
 refine .len 1 (fun hl1=> ?_)
 refine .len 2 (fun hl2=> ?_)
 refine .loop (α:=Nat×(List Cell)) [.r [],.r [],.r [(1,X (Xl cellT l))],.le (.nR 7 5)] 41 (fun(i,o)=>([(1,VL 2 stepT rows),(2,VL 2 stepT cols),(7,.row 40 o.length),(14,VL 5 cellT l),(15,VI (l.length:Int)),(16,VI (i:Int))],[(40,OR 5 cellT o)])) (fun(i,o)=>i≤l.length∧o=movL (l.take i) rows cols) (fun(i,o)=>l.length-i) (0,[]) ?_ ?_
 ·
  exact⟨by omega,rfl⟩
 rintro⟨i,o⟩ I3 ih3
 try dsimp only at I3
 have ol:o.length≤i:=by rw[I3.2];have:=movL_len (l.take i) rows cols;simp at this;omega
 refine .bp [.r []] (decide ((i:Int)< (l.length:Int))) (fun h3=> ?_) (fun h3=> ?_)
 ·
  have hm:=getDC_mem (l:=l) (i:=i) (by omega)
  have ha1:=ha _ hm
  have hr1:=hr _ hm
  have hc1:=hc _ hm
  refine .bp [.r [(0,X (Xi cellT l (i:Int)))],.r [(1,X (Xc1 89 (fc_clone ((l.getD i default)) (by omega)) X0))],.r [(1,X (Xl stepT rows))]] (decide ((rows.length:Int)> 0)) (fun h6=> ?_) (fun h6=> ?_)
  ·
   obtain⟨hv1,hx1⟩:=hr1 (by omega)
   have hxx:∀x∈[(l.getD i default).row],0≤x∧x<oldI rows:=fun x hx=>by(have:=List.mem_singleton.1 hx;omega)
   refine .bp [.r [(4,X (Xc1 161 (fc_axApply rows [(((l.getD i default))).row] (by assumption) (by assumption) (by simp)) (rowC intT [(((l.getD i default))).row] X0)))],.r [(4,Xv 1 (!false) (Xi intT (List.map (fun x=>placeS rows x 0 0) [(((l.getD i default))).row]) 0)),(5,Xv 1 (!false) X0),(6,Xv 1 (!false) X0),(7,X (Xk' false))]] (false||decide (((List.map (fun x=>placeS rows x 0 0) [(((l.getD i default))).row]).getD 0 default)< 0)) (fun h8=> ?_) (fun h8=> ?_)
   ·
    refine .back [.r [(0,X (Xn ((i:Int)+1)))]] [(40,40)] (ih3 ((i+1),o) ?_ ?_)
    ·
     refine⟨by omega,?_⟩
     rw[movL_succ (by omega),←I3.2]
     unfold mvC mvR
     simp only[List.map_cons,List.map_nil,List.getD_cons_zero] at*
     (repeat' split)<;>first|rfl| (simp;done)| (exfalso;omega)| (exfalso;simp_all;done)| (exfalso;simp_all;omega)
    ·
     ((try dsimp only);omega)
   ·
    refine .bp [.r [(1,X (Xi intT (List.map (fun x=>placeS rows x 0 0) [(((l.getD i default))).row]) 0))],.r [(1,X (Xl stepT cols))]] (decide ((cols.length:Int)> 0)) (fun h10=> ?_) (fun h10=> ?_)
    ·
     obtain⟨hv2,hx2⟩:=hc1 (by omega)
     have hyy:∀x∈[(l.getD i default).col],0≤x∧x<oldI cols:=fun x hx=>by(have:=List.mem_singleton.1 hx;omega)
     refine .bp [.r [(4,X (Xc1 369 (fc_axApply cols [(((l.getD i default))).col] (by assumption) (by assumption) (by simp)) (rowC intT [(((l.getD i default))).col] X0)))],.r [(4,Xv 1 (!false) (Xi intT (List.map (fun x=>placeS cols x 0 0) [(((l.getD i default))).col]) 0)),(5,Xv 1 (!false) X0),(6,Xv 1 (!false) X0),(7,X (Xk' false))]] (false||decide (((List.map (fun x=>placeS cols x 0 0) [(((l.getD i default))).col]).getD 0 default)< 0)) (fun h12=> ?_) (fun h12=> ?_)
     ·
      refine .back [.r [(0,X (Xn ((i:Int)+1)))]] [(40,40)] (ih3 ((i+1),o) ?_ ?_)
      ·
       refine⟨by omega,?_⟩
       rw[movL_succ (by omega),←I3.2]
       unfold mvC mvR
       simp only[List.map_cons,List.map_nil,List.getD_cons_zero] at*
       (repeat' split)<;>first|rfl| (simp;done)| (exfalso;omega)| (exfalso;simp_all;done)| (exfalso;simp_all;omega)
      ·
       ((try dsimp only);omega)
     ·
      refine .back [.r [(1,X (Xi intT (List.map (fun x=>placeS cols x 0 0) [(((l.getD i default))).col]) 0))],.r [(3,X (rowC cellT [({row:=((List.map (fun x=>placeS rows x 0 0) [(((l.getD i default))).row]).getD 0 default),col:=((List.map (fun x=>placeS cols x 0 0) [(((l.getD i default))).col]).getD 0 default),text:=(((l.getD i default))).text,ref:=(((l.getD i default))).ref,attrs:=(((l.getD i default))).attrs}:Cell)] (Xap 5 cellT 40 o [({row:=((List.map (fun x=>placeS rows x 0 0) [(((l.getD i default))).row]).getD 0 default),col:=((List.map (fun x=>placeS cols x 0 0) [(((l.getD i default))).col]).getD 0 default),text:=(((l.getD i default))).text,ref:=(((l.getD i default))).ref,attrs:=(((l.getD i default))).attrs}:Cell)])))],.r [(0,X (Xn ((i:Int)+1)))]] [(40,40)] (ih3 ((i+1),(o++[({row:=((List.map (fun x=>placeS rows x 0 0) [(((l.getD i default))).row]).getD 0 default),col:=((List.map (fun x=>placeS cols x 0 0) [(((l.getD i default))).col]).getD 0 default),text:=(((l.getD i default))).text,ref:=(((l.getD i default))).ref,attrs:=(((l.getD i default))).attrs}:Cell)])) ?_ ?_)
      ·
       refine⟨by omega,?_⟩
       rw[movL_succ (by omega),←I3.2]
       unfold mvC mvR
       simp only[List.map_cons,List.map_nil,List.getD_cons_zero] at*
       (repeat' split)<;>first|rfl| (simp;done)| (exfalso;omega)| (exfalso;simp_all;done)| (exfalso;simp_all;omega)
      ·
       ((try dsimp only);omega)
    ·
     refine .back [.r [(3,X (rowC cellT [({row:=((List.map (fun x=>placeS rows x 0 0) [(((l.getD i default))).row]).getD 0 default),col:=(((l.getD i default))).col,text:=(((l.getD i default))).text,ref:=(((l.getD i default))).ref,attrs:=(((l.getD i default))).attrs}:Cell)] (Xap 5 cellT 40 o [({row:=((List.map (fun x=>placeS rows x 0 0) [(((l.getD i default))).row]).getD 0 default),col:=(((l.getD i default))).col,text:=(((l.getD i default))).text,ref:=(((l.getD i default))).ref,attrs:=(((l.getD i default))).attrs}:Cell)])))],.r [(0,X (Xn ((i:Int)+1)))]] [(40,40)] (ih3 ((i+1),(o++[({row:=((List.map (fun x=>placeS rows x 0 0) [(((l.getD i default))).row]).getD 0 default),col:=(((l.getD i default))).col,text:=(((l.getD i default))).text,ref:=(((l.getD i default))).ref,attrs:=(((l.getD i default))).attrs}:Cell)])) ?_ ?_)
     ·
      refine⟨by omega,?_⟩
      rw[movL_succ (by omega),←I3.2]
      unfold mvC mvR
      simp only[List.map_cons,List.map_nil,List.getD_cons_zero] at*
      (repeat' split)<;>first|rfl| (simp;done)| (exfalso;omega)| (exfalso;simp_all;done)| (exfalso;simp_all;omega)
     ·
      ((try dsimp only);omega)
  ·
   refine .bp [.r [(1,X (Xl stepT cols))]] (decide ((cols.length:Int)> 0)) (fun h10=> ?_) (fun h10=> ?_)
   ·
    obtain⟨hv2,hx2⟩:=hc1 (by omega)
    have hyy:∀x∈[(l.getD i default).col],0≤x∧x<oldI cols:=fun x hx=>by(have:=List.mem_singleton.1 hx;omega)
    refine .bp [.r [(4,X (Xc1 185 (fc_axApply cols [(((l.getD i default))).col] (by assumption) (by assumption) (by simp)) (rowC intT [(((l.getD i default))).col] X0)))],.r [(4,Xv 1 (!false) (Xi intT (List.map (fun x=>placeS cols x 0 0) [(((l.getD i default))).col]) 0)),(5,Xv 1 (!false) X0),(6,Xv 1 (!false) X0),(7,X (Xk' false))]] (false||decide (((List.map (fun x=>placeS cols x 0 0) [(((l.getD i default))).col]).getD 0 default)< 0)) (fun h12=> ?_) (fun h12=> ?_)
    ·
     refine .back [.r [(0,X (Xn ((i:Int)+1)))]] [(40,40)] (ih3 ((i+1),o) ?_ ?_)
     ·
      refine⟨by omega,?_⟩
      rw[movL_succ (by omega),←I3.2]
      unfold mvC mvR
      simp only[List.map_cons,List.map_nil,List.getD_cons_zero] at*
      (repeat' split)<;>first|rfl| (simp;done)| (exfalso;omega)| (exfalso;simp_all;done)| (exfalso;simp_all;omega)
     ·
      ((try dsimp only);omega)
    ·
     refine .back [.r [(1,X (Xi intT (List.map (fun x=>placeS cols x 0 0) [(((l.getD i default))).col]) 0))],.r [(3,X (rowC cellT [({row:=(((l.getD i default))).row,col:=((List.map (fun x=>placeS cols x 0 0) [(((l.getD i default))).col]).getD 0 default),text:=(((l.getD i default))).text,ref:=(((l.getD i default))).ref,attrs:=(((l.getD i default))).attrs}:Cell)] (Xap 5 cellT 40 o [({row:=(((l.getD i default))).row,col:=((List.map (fun x=>placeS cols x 0 0) [(((l.getD i default))).col]).getD 0 default),text:=(((l.getD i default))).text,ref:=(((l.getD i default))).ref,attrs:=(((l.getD i default))).attrs}:Cell)])))],.r [(0,X (Xn ((i:Int)+1)))]] [(40,40)] (ih3 ((i+1),(o++[({row:=(((l.getD i default))).row,col:=((List.map (fun x=>placeS cols x 0 0) [(((l.getD i default))).col]).getD 0 default),text:=(((l.getD i default))).text,ref:=(((l.getD i default))).ref,attrs:=(((l.getD i default))).attrs}:Cell)])) ?_ ?_)
     ·
      refine⟨by omega,?_⟩
      rw[movL_succ (by omega),←I3.2]
      unfold mvC mvR
      simp only[List.map_cons,List.map_nil,List.getD_cons_zero] at*
      (repeat' split)<;>first|rfl| (simp;done)| (exfalso;omega)| (exfalso;simp_all;done)| (exfalso;simp_all;omega)
     ·
      ((try dsimp only);omega)
   ·
    refine .back [.r [(3,X (rowC cellT [(((l.getD i default)))] (Xap 5 cellT 40 o [(((l.getD i default)))])))],.r [(0,X (Xn ((i:Int)+1)))]] [(40,40)] (ih3 ((i+1),(o++[(((l.getD i default)))])) ?_ ?_)
    ·
     refine⟨by omega,?_⟩
     rw[movL_succ (by omega),←I3.2]
     unfold mvC mvR
     simp only[List.map_cons,List.map_nil,List.getD_cons_zero] at*
     (repeat' split)<;>first|rfl| (simp;done)| (exfalso;omega)| (exfalso;simp_all;done)| (exfalso;simp_all;omega)
    ·
     ((try dsimp only);omega)
 ·
  have e1:((movL l rows cols):List Cell)=o:=by
   rw[I3.2,List.take_of_length_le (by omega)]
  exact .finE [.r [],.le (.fr 6 [(o.length:Nat)=(List.map cellT o).length] ⟨lm,trivial⟩)] [] (fun z0:List Cell=>(VL 5 cellT z0,[])) _ _ e1
theorem fc_gput(l news:List Cell)(hl:l.length≤100000000000)(hn:news.length≤100000000000)(ha:CAN 1000000000000 news):FC Tryz.prog 126 [VL 5 cellT l,VL 5 cellT news] (app emp []) (VL 5 cellT (putL news l)) (app emp []):=by
 refine .go Tryz.f126 ?_
 refine .len 0 (fun hl0=> ?_)
 refine .len 1 (fun hl1=> ?_)
 refine .loop (α:=Nat×Nat×(List Cell)) [.r [],.r [],.r [],.r [(1,X (Xl cellT news))],.le (.nR 5 5)] 49 (fun(i,k,o)=>([(0,VL 5 cellT l),(5,.row 48 o.length),(6,VI (i:Int)),(9,VL 5 cellT news),(10,VI (news.length:Int)),(11,VI (k:Int))],[(48,OR 5 cellT o)])) (fun(i,k,o)=>k≤news.length∧i≤l.length∧o.length≤i+k∧putL news l=o++putL (news.drop k) (l.drop i)) (fun(i,k,o)=>news.length-k) (0,0,[]) ?_ ?_
 ·
  exact⟨by omega,by omega,by simp,rfl⟩
 rintro⟨i,k,o⟩ I4 ih4
 try dsimp only at I4
 refine .bp [.r []] (decide ((k:Int)< (news.length:Int))) (fun h4=> ?_) (fun h4=> ?_)
 ·
  have hm:=ha _ (getDC_mem (l:=news) (i:=k) (by omega))
  refine .loop (α:=Nat×(List Cell)) [.r [(0,X (Xi cellT news (k:Int)))]] 89 (fun(j,p)=>([(0,VL 5 cellT l),(5,.row 48 p.length),(6,VI (j:Int)),(8,.ptr 73 0),(9,VL 5 cellT news),(10,VI (news.length:Int)),(11,VI (k:Int))],[(48,OR 5 cellT p),(73,.box [VI (((news.getD k default)).row),VI (((news.getD k default)).col),VS (((news.getD k default)).text),VI (((news.getD k default)).ref),VL 2 attrT (((news.getD k default)).attrs)])])) (fun(j,p)=>j≤l.length∧p.length≤j+k∧putL news l=p++putC (news.getD k default) (putL (news.drop (k+1))) (l.drop j)) (fun(j,p)=>l.length-j) (i,o) ?_ ?_
  ·
   exact⟨by omega,by omega,by rw[I4.2.2.2,dropC (l:=news) (by omega),putL]⟩
  rintro⟨j,p⟩ I6 ih6
  try dsimp only at I6
  skip
  refine .bp [.r [(2,X (Xl cellT l)),(7,Xv 2 (decide ((j:Int)< (l.length:Int))) (Xi cellT l (j:Int))),(8,Xv 1 (decide ((j:Int)< (l.length:Int))) X0),(10,Xv 2 (decide ((j:Int)< (l.length:Int))) (Xc0 (fc_order ((l.getD j default)) ((news.getD k default))) X0)),(11,Xv 1 (decide ((j:Int)< (l.length:Int))) X0),(12,X (Xk (decide ((j:Int)< (l.length:Int)))))]] (decide ((j:Int)< (l.length:Int))&&decide ((ordC ((l.getD j default)) ((news.getD k default)))< 0)) (fun h6=> ?_) (fun h6=> ?_)
  ·
   refine .back [.r [(3,X (Xi cellT l (j:Int))),(6,X (rowC cellT [((l.getD j default))] (Xap 5 cellT 48 p [((l.getD j default))])))],.r [(1,X (Xn ((j:Int)+1)))]] [(48,48),(73,73)] (ih6 ((j+1),(p++[((l.getD j default))])) ?_ ?_)
   ·
    refine⟨by omega,by simp;omega,?_⟩
    rw[I6.2.2,putC_lt (by omega) (by omega),List.append_assoc]
    rfl
   ·
    ((try dsimp only);omega)
  ·
   refine .bp [.r [(2,X (Xl cellT l)),(7,Xv 2 (decide ((j:Int)< (l.length:Int))) (Xi cellT l (j:Int))),(8,Xv 1 (decide ((j:Int)< (l.length:Int))) X0),(10,Xv 2 (decide ((j:Int)< (l.length:Int))) (Xc0 (fc_order ((l.getD j default)) ((news.getD k default))) X0)),(11,Xv 1 (decide ((j:Int)< (l.length:Int))) X0),(12,X (Xk (decide ((j:Int)< (l.length:Int)))))]] (decide ((j:Int)< (l.length:Int))&&((ordC ((l.getD j default)) ((news.getD k default)))==0)) (fun h9=> ?_) (fun h9=> ?_)
   ·
    refine .bp [.r [(1,X (Xn ((j:Int)+1)))],.r [(1,X (Xc0 (fc_empty ((news.getD k default))) X0))]] (!(emptyC ((news.getD k default)))) (fun h11=> ?_) (fun h11=> ?_)
    ·
     refine .back [.r [(2,X (Xc1 361 (fc_clone ((news.getD k default)) (by omega)) X0)),(4,X (rowC cellT [((news.getD k default))] (Xap 5 cellT 48 p [((news.getD k default))])))],.r [(0,X (Xn ((k:Int)+1)))]] [(48,48)] (ih4 ((j+1),(k+1),(p++[((news.getD k default))])) ?_ ?_)
     ·
      refine⟨by omega,by omega,by((try simp only[List.length_append,List.length_cons,List.length_nil]);omega),?_⟩
      rw[I6.2.2]
      (first|rw[putC_eq (by omega) (by omega)]|rw[putC_gt (fun h=>by omega)])
      (first|rw[if_pos (by assumption)]|rw[if_neg (by simp_all)])
      simp
     ·
      ((try dsimp only);omega)
    ·
     refine .back [.r [(0,X (Xn ((k:Int)+1)))]] [(48,48)] (ih4 ((j+1),(k+1),p) ?_ ?_)
     ·
      refine⟨by omega,by omega,by((try simp only[List.length_append,List.length_cons,List.length_nil]);omega),?_⟩
      rw[I6.2.2]
      (first|rw[putC_eq (by omega) (by omega)]|rw[putC_gt (fun h=>by omega)])
      (first|rw[if_pos (by assumption)]|rw[if_neg (by simp_all)])
      simp
     ·
      ((try dsimp only);omega)
   ·
    refine .bp [.r [(1,X (Xc0 (fc_empty ((news.getD k default))) X0))]] (!(emptyC ((news.getD k default)))) (fun h11=> ?_) (fun h11=> ?_)
    ·
     refine .back [.r [(2,X (Xc1 337 (fc_clone ((news.getD k default)) (by omega)) X0)),(4,X (rowC cellT [((news.getD k default))] (Xap 5 cellT 48 p [((news.getD k default))])))],.r [(0,X (Xn ((k:Int)+1)))]] [(48,48)] (ih4 (j,(k+1),(p++[((news.getD k default))])) ?_ ?_)
     ·
      refine⟨by omega,by omega,by((try simp only[List.length_append,List.length_cons,List.length_nil]);omega),?_⟩
      rw[I6.2.2]
      (first|rw[putC_eq (by omega) (by omega)]|rw[putC_gt (fun h=>by omega)])
      (first|rw[if_pos (by assumption)]|rw[if_neg (by simp_all)])
      simp
     ·
      ((try dsimp only);omega)
    ·
     refine .back [.r [(0,X (Xn ((k:Int)+1)))]] [(48,48)] (ih4 (j,(k+1),p) ?_ ?_)
     ·
      refine⟨by omega,by omega,by((try simp only[List.length_append,List.length_cons,List.length_nil]);omega),?_⟩
      rw[I6.2.2]
      (first|rw[putC_eq (by omega) (by omega)]|rw[putC_gt (fun h=>by omega)])
      (first|rw[if_pos (by assumption)]|rw[if_neg (by simp_all)])
      simp
     ·
      ((try dsimp only);omega)
 ·
  have e1:((putL news l):List Cell)=(o++(l.drop i)):=by
   rw[I4.2.2.2,dropC_end (l:=news) (by omega),putL]
  exact .finE [.r [(3,X (Xsd cellT 5 l (i:Int))),(4,X (Xap 5 cellT 48 o (l.drop i)))],.le (.fr 4 [(((o++(l.drop i)).length):Nat)=(List.map cellT (o++(l.drop i))).length] ⟨lm,trivial⟩)] [] (fun z0:List Cell=>(VL 5 cellT z0,[])) _ _ e1
end Go.Ch
end
section
set_option linter.unusedVariables false
set_option linter.unusedSimpArgs false
set_option maxRecDepth 100000
set_option maxHeartbeats 4000000
open Go Go.Proofs Go.Ab
namespace Go.Ch
theorem fc_gcheck(x:Grid)(hm:x.merges=[])(hnt:NoTx x.cells):FC Tryz.prog 71 [.t (gridT x)] (app emp []) (VI (gridE x)) (app emp []):=by
 refine .go Tryz.f71 ?_
 have hl:x.merges.length=0:=by rw[hm];rfl
 refine .bp [.r [],.r [(5,Xv 1 (!(decide (x.rows<0))) X0),(6,Xv 1 (!(decide (x.rows<0))) X0),(7,X (Xk' (decide (x.rows<0)))),(10,Xv 1 (!(decide (x.rows<0)||decide (x.rows>2147483647))) X0),(11,Xv 1 (!(decide (x.rows<0)||decide (x.rows>2147483647))) X0),(12,X (Xk' (decide (x.rows<0)||decide (x.rows>2147483647)))),(15,Xv 1 (!((decide (x.rows<0)||decide (x.rows>2147483647))||decide (x.cols<0))) X0),(16,Xv 1 (!((decide (x.rows<0)||decide (x.rows>2147483647))||decide (x.cols<0))) X0),(17,X (Xk' ((decide (x.rows<0)||decide (x.rows>2147483647))||decide (x.cols<0))))]] (((decide (x.rows<0)||decide (x.rows>2147483647))||decide (x.cols<0))||decide (x.cols>2147483647)) (fun h1=> ?_) (fun h1=> ?_)
 ·
  have e1:((gridE x):Int)=2:=by
   unfold gridE;rw[if_pos (by omega)]
  exact .finE [.r []] [] (fun z0:Int=>(VI z0,[])) _ _ e1
 ·
  refine .bp [.r [(6,X (Xc0 (fc_cells x.cells x.rows x.cols false (by assumption)) X0))],.r []] ((cellsE x.cells x.rows x.cols false 0) !=0) (fun h4=> ?_) (fun h4=> ?_)
  ·
   have e2:((gridE x):Int)=(cellsE x.cells x.rows x.cols false 0):=by
    unfold gridE;rw[if_neg (by omega),if_pos (by omega)]
   exact .finE [.r []] [] (fun z0:Int=>(VI z0,[])) _ _ e2
  ·
   refine .loop (α:=Nat) [.r [(2,X (Xl rectT x.merges))]] 272 (fun i=>([(1,.ptr 0 0),(35,VL 4 rectT x.merges),(36,VI (x.merges.length:Int)),(37,VI (i:Int))],[(0,.box [VI x.rows,VI x.cols,VL 5 cellT x.cells,VL 4 rectT x.merges])])) (fun i=>i=0) (fun i=>0) (0:Nat) ?_ ?_
   ·
    rfl
   rintro i I7 ih7
   try dsimp only at I7
   refine .bp [.r []] (decide ((i:Int)< (x.merges.length:Int))) (fun h7=> ?_) (fun h7=> ?_)
   ·
    exfalso
    omega
   ·
    have e3:((gridE x):Int)=0:=by
     unfold gridE;rw[if_neg (by omega),if_neg (by omega),mergE,if_neg (by omega)]
    exact .finE [.r []] [] (fun z0:Int=>(VI z0,[])) _ _ e3
theorem fc_checkEdit(e:GEd)(hl:LiteE e):FC Tryz.prog 79 [.t (gedT e)] (app emp []) (VI (edE e)) (app emp []):=by
 refine .go Tryz.f79 ?_
 have h1:=hl.sp
 have h2:=hl.me
 have hnt:=hl.tx
 have g1:insQE e.split 2147483647 2147483647 0=0:=by rw[insQE,if_neg (by omega)]
 have g2:mgE e.merge 2147483647 2147483647 0=0:=by rw[mgE,if_neg (by omega)]
 refine .bp [.r [],.r [],.u,.r [],.t,.r [(0,X (Xa (Xc ((0:Int)≤0)) (Xc ((0:Int)< ((2:Nat):Int)))) ⟨by decide,by decide⟩)],.r [(1,X (Xc0 (fc_axCheck e.rows) X0))],.r []] ((checkX e.rows) !=0) (fun h5=> ?_) (fun h5=> ?_)
 ·
  have e1:((edE e):Int)=(checkX e.rows):=by
   unfold edE;(repeat' split)<;>omega
  exact .finE [.r []] [] (fun z0:Int=>(VI z0,[])) _ _ e1
 ·
  refine .bp [.r [],.u,.r [],.t,.r [(0,X (Xa (Xc ((0:Int)≤1)) (Xc ((1:Int)< ((2:Nat):Int)))) ⟨by decide,by decide⟩)],.r [(1,X (Xc0 (fc_axCheck e.cols) X0))],.r []] ((checkX e.cols) !=0) (fun h5=> ?_) (fun h5=> ?_)
  ·
   have e2:((edE e):Int)=(checkX e.cols):=by
    unfold edE;(repeat' split)<;>omega
   exact .finE [.r []] [] (fun z0:Int=>(VI z0,[])) _ _ e2
  ·
   refine .bp [.r [],.u,.r [],.f,.r [(2,X (Xc0 (fc_cells e.cells 2147483647 2147483647 true (by assumption)) X0))],.r []] ((cellsE e.cells 2147483647 2147483647 true 0) !=0) (fun h9=> ?_) (fun h9=> ?_)
   ·
    have e3:((edE e):Int)=(cellsE e.cells 2147483647 2147483647 true 0):=by
     unfold edE;(repeat' split)<;>omega
    exact .finE [.r []] [] (fun z0:Int=>(VI z0,[])) _ _ e3
   ·
    refine .loop (α:=Nat) [.r [],.u,.r [],.t,.r [(1,X (Xa (Xc ((0:Int)≤0)) (Xc ((0:Int)< ((2:Nat):Int)))) ⟨by decide,by decide⟩)],.r [(1,X (Xl rectT e.split))]] 392 (fun j=>([(7,VI 0),(35,.t (.agg [TL 4 rectT e.split,TL 4 rectT e.merge])),(36,VI 0),(40,VL 4 rectT e.split),(41,VI (e.split.length:Int)),(42,VI (j:Int))],[])) (fun j=>j=0) (fun j=>0) (0:Nat) ?_ ?_
    ·
     rfl
    rintro j I15 ih15
    try dsimp only at I15
    refine .bp [.r []] (decide ((j:Int)< (e.split.length:Int))) (fun h15=> ?_) (fun h15=> ?_)
    ·
     exfalso
     omega
    ·
     refine .loop (α:=Nat) [.r [],.u,.r [],.t,.r [(1,X (Xa (Xc ((0:Int)≤1)) (Xc ((1:Int)< ((2:Nat):Int)))) ⟨by decide,by decide⟩)],.r [(1,X (Xl rectT e.merge))]] 480 (fun j=>([(7,VI 1),(35,.t (.agg [TL 4 rectT e.split,TL 4 rectT e.merge])),(36,VI 1),(40,VL 4 rectT e.merge),(41,VI (e.merge.length:Int)),(42,VI (j:Int))],[])) (fun j=>j=0) (fun j=>0) (0:Nat) ?_ ?_
     ·
      rfl
     rintro j I15 ih15
     try dsimp only at I15
     refine .bp [.r []] (decide ((j:Int)< (e.merge.length:Int))) (fun h15=> ?_) (fun h15=> ?_)
     ·
      exfalso
      omega
     ·
      have e4:((edE e):Int)=0:=by
       unfold edE;(repeat' split)<;>omega
      exact .finE [.r [],.u,.r [],.f,.r []] [] (fun z0:Int=>(VI z0,[])) _ _ e4
theorem fc_fits(x:Grid)(e:GEd)(hm:x.merges=[])(hnx:NoTx x.cells)(hl:LiteE e):FC Tryz.prog 124 [.t (gridT x),.t (gedT e)] (app emp []) (.tup [VI (fitM x e),VI (fitN x e),VI (fitsE x e)]) (app emp []):=by
 refine .go Tryz.f124 ?_
 have q1:=hl.sp
 have q2:=hl.me
 have q3:=hl.ln
 have hvr:0<e.rows.length→edE e=0→Valid e.rows:=fun _ h=>(edE_ok h).okr
 have hvc:0<e.cols.length→edE e=0→Valid e.cols:=fun _ h=>(edE_ok h).okc
 refine .bp [.r [],.r [(1,X (Xc0 (fc_gcheck x (by assumption) (by assumption)) X0))],.r []] ((gridE x) !=0) (fun h2=> ?_) (fun h2=> ?_)
 ·
  have T:=fits_1 (e:=e) h2
  have e1:((fitM x e):Int)=0:=by
   exact T.1
  have e2:((fitN x e):Int)=0:=by
   exact T.2.1
  have e3:((fitsE x e):Int)=(gridE x):=by
   exact T.2.2
  exact .finE [.r []] [] (fun((z0,z1,z2):Int×Int×Int)=>(.tup [VI z0,VI z1,VI z2],[])) _ _ (pr e1 (pr e2 e3))
 ·
  refine .bp [.r [(1,X (Xc0 (fc_checkEdit e (by assumption)) X0))],.r []] ((edE e) !=0) (fun h5=> ?_) (fun h5=> ?_)
  ·
   have T:=fits_2 (by omega) h5
   have e4:((fitM x e):Int)=0:=by
    exact T.1
   have e5:((fitN x e):Int)=0:=by
    exact T.2.1
   have e6:((fitsE x e):Int)=(edE e):=by
    exact T.2.2
   exact .finE [.r []] [] (fun((z0,z1,z2):Int×Int×Int)=>(.tup [VI z0,VI z1,VI z2],[])) _ _ (pr e4 (pr e5 e6))
  ·
   have hv1:0<e.rows.length→Valid e.rows:=fun h=>hvr h (by omega)
   have hv2:0<e.cols.length→Valid e.cols:=fun h=>hvc h (by omega)
   refine .bp [.r [(4,X (Xc0 (fc_axsize x.rows e.rows (by assumption)) X0))],.r [(4,X (Xc0 (fc_axsize x.cols e.cols (by assumption)) X0))],.r [(4,Xv 1 (!(!(decide (0< (e.rows).length→oldI e.rows=x.rows)))) X0),(5,X (Xk' (!(decide (0< (e.rows).length→oldI e.rows=x.rows)))))]] (!(decide (0< (e.rows).length→oldI e.rows=x.rows))|| !(decide (0< (e.cols).length→oldI e.cols=x.cols))) (fun h9=> ?_) (fun h9=> ?_)
   ·
    have T:=fits_3 (by omega) (by omega) h9
    have e7:((fitM x e):Int)=0:=by
     exact T.1
    have e8:((fitN x e):Int)=0:=by
     exact T.2.1
    have e9:((fitsE x e):Int)=14:=by
     exact T.2.2
    exact .finE [.r []] [] (fun((z0,z1,z2):Int×Int×Int)=>(.tup [VI z0,VI z1,VI z2],[])) _ _ (pr e7 (pr e8 e9))
   ·
    refine .loop (α:=Nat) [.r [(2,X (Xl cellT e.cells))]] 360 (fun i=>([(3,.ptr 8 0),(9,VI (if 0< (e.rows).length then newI e.rows else x.rows)),(11,VI (if 0< (e.cols).length then newI e.cols else x.cols)),(52,VL 5 cellT e.cells),(53,VI (e.cells.length:Int)),(54,VI (i:Int))],[(8,.box [VL 2 stepT e.rows,VL 2 stepT e.cols,VL 5 cellT e.cells,VL 4 rectT e.split,VL 4 rectT e.merge])])) (fun i=>i≤e.cells.length∧celF e.cells (if 0< (e.rows).length then newI e.rows else x.rows) (if 0< (e.cols).length then newI e.cols else x.cols) 0=celF e.cells (if 0< (e.rows).length then newI e.rows else x.rows) (if 0< (e.cols).length then newI e.cols else x.cols) i) (fun i=>e.cells.length-i) (0:Nat) ?_ ?_
    ·
     exact⟨by omega,rfl⟩
    rintro i I12 ih12
    try dsimp only at I12
    refine .bp [.r []] (decide ((i:Int)< (e.cells.length:Int))) (fun h12=> ?_) (fun h12=> ?_)
    ·
     refine .bp [.r [(0,X (Xi cellT e.cells (i:Int)))],.r [(6,Xv 1 (!(decide ((((e.cells.getD i default)).row)≥(if 0< (e.rows).length then newI e.rows else x.rows)))) X0),(8,Xv 2 (!(decide ((((e.cells.getD i default)).row)≥(if 0< (e.rows).length then newI e.rows else x.rows)))) X0),(9,X (Xk' (decide ((((e.cells.getD i default)).row)≥(if 0< (e.rows).length then newI e.rows else x.rows)))))]] (decide ((((e.cells.getD i default)).row)≥(if 0< (e.rows).length then newI e.rows else x.rows))||decide ((((e.cells.getD i default)).col)≥(if 0< (e.cols).length then newI e.cols else x.cols))) (fun h14=> ?_) (fun h14=> ?_)
     ·
      have hcl:celF e.cells (if 0< (e.rows).length then newI e.rows else x.rows) (if 0< (e.cols).length then newI e.cols else x.cols) 0=2:=by rw[I12.2,celF,if_pos (by omega),if_pos (by omega)]
      have T:=fits_4 (by omega) (by omega) h9 q1 q2 hcl
      have e10:((fitM x e):Int)=0:=by
       exact T.1
      have e11:((fitN x e):Int)=0:=by
       exact T.2.1
      have e12:((fitsE x e):Int)=2:=by
       exact T.2.2
      exact .finE [.r []] [] (fun((z0,z1,z2):Int×Int×Int)=>(.tup [VI z0,VI z1,VI z2],[])) _ _ (pr e10 (pr e11 e12))
     ·
      refine .back [.r [(0,X (Xn ((i:Int)+1)))]] [(8,8)] (ih12 ((i+1):Nat) ?_ ?_)
      ·
       refine⟨by omega,?_⟩
       rw[I12.2,celF,if_pos (by omega),if_neg (by omega)]
      ·
       ((try dsimp only);omega)
    ·
     refine .loop (α:=Nat) [.r [],.u,.r [],.t,.r [(0,X (Xa (Xc ((0:Int)≤0)) (Xc ((0:Int)< ((2:Nat):Int)))) ⟨by decide,by decide⟩)],.r [(1,X (Xl rectT e.split))]] 464 (fun j=>([(9,VI (if 0< (e.rows).length then newI e.rows else x.rows)),(11,VI (if 0< (e.cols).length then newI e.cols else x.cols)),(73,.t (.agg [TL 4 rectT e.split,TL 4 rectT e.merge])),(74,VI 0),(77,VL 4 rectT e.split),(78,VI (e.split.length:Int)),(79,VI (j:Int))],[])) (fun j=>j=0) (fun j=>0) (0:Nat) ?_ ?_
     ·
      rfl
     rintro j I21 ih21
     try dsimp only at I21
     refine .bp [.r []] (decide ((j:Int)< (e.split.length:Int))) (fun h21=> ?_) (fun h21=> ?_)
     ·
      exfalso
      omega
     ·
      refine .loop (α:=Nat) [.r [],.u,.r [],.t,.r [(0,X (Xa (Xc ((0:Int)≤1)) (Xc ((1:Int)< ((2:Nat):Int)))) ⟨by decide,by decide⟩)],.r [(1,X (Xl rectT e.merge))]] 536 (fun j=>([(9,VI (if 0< (e.rows).length then newI e.rows else x.rows)),(11,VI (if 0< (e.cols).length then newI e.cols else x.cols)),(73,.t (.agg [TL 4 rectT e.split,TL 4 rectT e.merge])),(74,VI 1),(77,VL 4 rectT e.merge),(78,VI (e.merge.length:Int)),(79,VI (j:Int))],[])) (fun j=>j=0) (fun j=>0) (0:Nat) ?_ ?_
      ·
       rfl
      rintro j I21 ih21
      try dsimp only at I21
      refine .bp [.r []] (decide ((j:Int)< (e.merge.length:Int))) (fun h21=> ?_) (fun h21=> ?_)
      ·
       exfalso
       omega
      ·
       have hcl:celF e.cells (if 0< (e.rows).length then newI e.rows else x.rows) (if 0< (e.cols).length then newI e.cols else x.cols) 0=0:=by rw[I12.2,celF,if_neg (by omega)]
       have T:=fits_5 (by omega) (by omega) h9 q1 q2 hcl
       have e13:((fitM x e):Int)=(if 0< (e.rows).length then newI e.rows else x.rows):=by
        exact T.1
       have e14:((fitN x e):Int)=(if 0< (e.cols).length then newI e.cols else x.cols):=by
        exact T.2.1
       have e15:((fitsE x e):Int)=0:=by
        exact T.2.2
       exact .finE [.r [],.u,.r [],.f,.r []] [] (fun((z0,z1,z2):Int×Int×Int)=>(.tup [VI z0,VI z1,VI z2],[])) _ _ (pr e13 (pr e14 e15))
theorem fc_fit(x:Grid)(e:GEd)(hm:x.merges=[])(hnx:NoTx x.cells)(hl:LiteE e):FC Tryz.prog 86 [.t (gridT x),.t (gedT e)] (app emp []) (VI (fitsE x e)) (app emp []):=by
 refine .go Tryz.f86 ?_
 exact .fin [.r [],.r [(2,X (Xc0 (fc_fits x e (by assumption) (by assumption) (by assumption)) X0))],.r []] []
end Go.Ch
end
