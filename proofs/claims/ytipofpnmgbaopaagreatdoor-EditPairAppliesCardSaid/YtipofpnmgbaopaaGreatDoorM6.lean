/- An owned row that nobody writes from here on. -/
import Derived.Test.YtipofpnmgbaopaaGreatDoorM5
import Derived.RangeFuncLeaves
import Derived.KernelRfl
import Derived.Test.YtipofpnmgbaopaaGreatDoorProg
import Derived.Maps.RangeRun
import Derived.Shelf.Unicode.DecodeSlow
import Derived.Lib.TrimUEq
import Derived.Lib.QuoteLoop
import Derived.Lib.ValidLaws
import Derived.Lib.ValidAsc
set_option linter.unusedVariables false
set_option linter.unusedSimpArgs false
section
namespace Go.Ab
open Go
variable {P:Program} {n:Nat} {l0:List (Nat×Ob)} {s:St}
theorem Le.fz{id k:Nat}{xs:List Tree}(bn:s.st id=some (.aF k false xs)):Le n l0 s ⟨s.sl,bO s.st id (.aF k true xs),s.nx⟩:=by
 intro P F m0 w0 m a w h0 h1 h2;obtain⟨r1,r2⟩:=freeze h1.eH bn;refine⟨m,⟨fun t'=>r2.val (h1.dS t'),h1.size,h1.defers.ext r2,r1,fun i hi=> ?_⟩,h2.trans h0 r2⟩;have oq:s.nx<=i:=hi;have:i≠id:=fun e=>by subst e;rw[h1.fresh i hi] at bn;cases bn
 show bO s.st id (.aF k true xs) i=none;rw[eC this];exact h1.fresh i hi
end Go.Ab
end
section
namespace Go.Ab
variable {P:Program} {w w':World} {F:eL P} {st:bQ} {m:Place} {ok ok':Nat->Prop}
def y5(ok:Nat->Prop)(w w':World):Prop:=∀b us e z,ok b->w.heap[b]? =some (.cells us e z)->w'.heap[b]? =w.heap[b]?
theorem y14{b o:Nat}{u:Value}(h:w.cell? ⟨b,o,none⟩=some u):∃us e z,w.heap[b]? =some (.cells us e z):=by
 unfold World.cell? at h;split at h
 ·rename_i c e z hb;exact⟨c,e,z,hb⟩
 cases h
theorem y5.cell(h:y5 ok w w'){b o:Nat}{u:Value}(hb:ok b)(hc:w.cell? ⟨b,o,none⟩=some u):w'.cell? ⟨b,o,none⟩=some u:=by
 obtain⟨us,e,z,hh⟩:=y14 hc;rw[Nj (h b us e z hb hh)];exact hc
theorem cr.still(dF:∀b,ok b->ok' b)(hs:y5 ok w w'){T:Tree}{v:Value}(h:cr w ok T v):cr w' ok' T v:=h.mono dF (fun b o u hb hc=>hs.cell hb hc)
theorem aO.still(dF:∀b,ok b->ok' b)(hs:y5 ok w w'){v:aJ}{u:Value}(h:aO st m w ok v u):aO st m w' ok' v u:=by
 induction h with
 |t T u hT=>exact .t T u (hT.still dF hs)
 |xl k xs u hT hc=>exact .xl k xs u (hT.still dF hs) hc
 |aF id n k fz xs L h1 h2 h3=>exact .aF id n k fz xs L h1 h2 h3
 |ptr id off cs b h1 h2=>exact .ptr id off cs b h1 h2
 |jv id n cs b h1 h2=>exact .jv id n cs b h1 h2
 |iT id n L h1=>exact .iT id n L h1
 |cM id n i sub k fz xs b h1 h2 h3=>exact .cM id n i sub k fz xs b h1 h2 h3
 |cZ id fz xs hh L h1 h2=>exact .cZ id fz xs hh L h1 h2
 |eG id i fz xs hh b h1 h2=>exact .eG id i fz xs hh b h1 h2
 |ec cs b o us h1 h2 h3 h4 h5=>exact .ec cs b o us (dF _ h1) h2 h3 (fun j u hu=>hs.cell h1 (h4 j u hu)) (fun j T u a b=>(h5 j T u a b).still dF hs)
 |agg cs us h1 _ h3 ih=>exact .agg cs us h1 ih h3
 |fn f cap us h1 _ ih=>exact .fn f cap us h1 ih
 |aZ vs us h1 _ ih=>exact .aZ vs us h1 ih
 |cond c v u _ h0 ih=>exact .cond c v u ih h0
 |cH u=>exact .cH u
 |fH id n L h1=>exact .fH id n L h1
 |eT id n i sub b o h1=>exact .eT id n i sub b o h1
 |eZ b=>exact .eZ b
 |kS t u=>exact .kS t u
 |tail id n i k fz xs L h1 h2 h3 h4=>exact .tail id n i k fz xs L h1 h2 h3 h4
 |fP id n i k L h1=>exact .fP id n i k L h1
 |fO id o b u h1 h2 h3=>exact .fO id o b u h1 h2 h3
 |gN id off b h1=>exact .gN id off b h1
 |yl id Y pre h1=>exact .yl id Y pre h1
theorem tV.still(dF:∀b,ok b->ok' b)(hs:y5 ok w w'){k:Nat}{xs:List Tree}{L:Option Nat×Nat}(hb:∀b,L.1=some b->w'.heap[b]? =w.heap[b]?)(h:tV w ok k xs L):tV w' ok' k xs L:=by
 obtain⟨a1,a2,a3,a4,a5⟩:=h;refine⟨a1,a2,a3,a4,a5.imp (fun h=>h) ?_⟩;rintro⟨b,us,e,h1,h2,h3,h4,h5⟩;exact⟨b,us,e,h1,(hb b h1).trans h2,h3,h4,fun j T u p q=>(h5 j T u p q).still dF hs⟩
theorem mG.still(dF:∀b,ok b->ok' b)(hs:y5 ok w w'){v:MV}{u:Value}{c:Option Nat}(hb:∀b,c=some b->w'.heap[b]? =w.heap[b]?)(h:mG st m w ok v u c):mG st m w' ok' v u c:=by
 cases v with
 |im T=>exact⟨h.1.still dF hs,h.2⟩
 |cp cs=>exact⟨h.1.still dF hs,h.2⟩
 |bx cs=>
  obtain⟨b,us,e,h1,h2,h3,h4,h5,h6⟩:=h;exact⟨b,us,e,h1,h2,(hb b h1).trans h3,h4,h5,fun i T u p q=>(h6 i T u p q).still dF hs⟩
 |rw k xs=>
  obtain⟨L,h1,h2,h3⟩:=h;exact⟨L,h1,h2,h3.still dF hs (fun b e=>hb b (h2.symm.trans e))⟩
theorem mZ.still(dF:∀b,ok b->ok' b)(hs:y5 ok w w'){o:Ob}{L:Option Nat×Nat}{g:List Nat}(hx:∀Y pre,o= .ext Y pre->Y.holds pre g w->(∀b,Y.D b->ok b)->Y.holds pre g w')(hb:∀b,(L.1=some b\/b∈g)->w'.heap[b]? =w.heap[b]?)(h:mZ st m w ok o L g):mZ st m w' ok' o L g:=by
 cases o with
 |box cs=>
  obtain⟨b,us,e,h1,h2,h3,h4⟩:=h;exact⟨b,us,e,h1,(hb b (.inl h1)).trans h2,h3,fun i v u p q=>⟨(h4 i v u p q).1.still dF hs,(h4 i v u p q).2⟩⟩
 |cZ fz xs hh=>
  obtain⟨⟨b,us,e,h1,h2,h3,h4⟩,q⟩:=h;exact⟨⟨b,us,e,h1,(hb b (.inl h1)).trans h2,h3,fun i v u p q=>⟨(h4 i v u p q).1.still dF hs,(h4 i v u p q).2⟩⟩,q⟩
 |aF k fz xs=>exact tV.still dF hs (fun b e=>hb b (.inl e)) h
 |gone=>exact h
 |fo s pos=>
  obtain⟨b,h1,h2⟩:=h;exact⟨b,h1,(hb b (.inl h1)).trans h2⟩
 |mp es hh=>
  obtain⟨b,bJ,bl,h1,h2,h3,h4,h5,h6,h7⟩:=h;refine⟨b,bJ,bl,h1,(hb b (.inl h1)).trans h2,h3,h4,h5,h6,fun i x e p q=> ?_⟩;obtain⟨q1,q2,q3⟩:=h7 i x e p q;have K9:∀b',bl i=some b'->w'.heap[b']? =w.heap[b']? :=fun b' e'=>hb b' (.inr (h5 i b' (qA.1 p).1 e').1)
  refine⟨q1,q2,?_⟩
  match hh with
  |none=>exact mG.still dF hs K9 q3
  |some (k',v')=>exact⟨fun e=>⟨(q3.1 e).1.still dF hs,(q3.1 e).2⟩,fun e=>(q3.2 e).still dF hs K9⟩
 |fG iJ n seen=>
  obtain⟨b,bm,h1,h2,h3,h4⟩:=h;exact⟨b,bm,h1,h2,h3,(hb b (.inl h1)).trans h4⟩
 |ext Y pre=>
  exact⟨h.1,hx Y pre rfl h.2.1 h.2.2,fun b hD=>dF b (h.2.2 b hD)⟩
theorem okB.grow(fV:w.heap.size<=w'.heap.size){b:Nat}(h:okB F st m w b):okB F st m w' b:=⟨by have:=h.1;omega,h.2⟩
theorem aY.still(hS:aY F st m w)(hs:y5 (okB F st m w) w w')(hx:∀id Y pre,st id=some (.ext Y pre)->Y.holds pre (m.g id) w->(∀b,Y.D b->okB F st m w b)->Y.holds pre (m.g id) w')(fV:w.heap.size<=w'.heap.size)(hb:∀id o b,st id=some o->m.has id b->w'.heap[b]? =w.heap[b]?)(hh:∀b o,F.kR b o->w'.heap[b]? =some o):aY F st m w':=
 ⟨fun id o ho=>(hS.cN id o ho).still (fun b h=>h.grow fV) hs (fun Y pre e=>hx id Y pre (e▸ho)) (fun b h=>hb id o b ho h),hS.inj,hS.eD,fun id o b ho h=>zu (hS.lt id o b ho h) fV,fun b h=>zu (hS.low b h) fV,hh⟩
theorem FB{D:Nat}{o:Obj}{b:Nat}(h:b≠D):(w.putObj D o).heap[b]? =w.heap[b]? :=World.putObj_heap_other h
theorem x3K(hS:aY F st m w){D:Nat}(hD:w.heap[D]? =some (.deferred (some [])))(hn:∀id o,st id=some o->¬m.has id D):
 aY F st m (w.putObj D (.deferred none))/\y5 (okB F st m w) w (w.putObj D (.deferred none)):=by
 have hs:y5 (okB F st m w) w (w.putObj D (.deferred none)):=fun b us e z _ hc=>FB (fun e=>by subst e;rw[hD] at hc;cases hc)
 refine⟨hS.still hs (fun id Y pre hi hh _=>Y.Gx _ _ _ _ D hh hD (fun hg=>hn id _ hi (.inr hg)) sM (fun b hb=>FB hb)) sM (fun id o b ho hb=>FB (fun e=>hn id o ho (e▸hb))) (fun b o h=> ?_),hs⟩;rw[FB (fun e=> ?_)]
 ·exact hS.hold b o h
 subst e;obtain⟨us,e,z,rfl⟩:=F.Nd b o h;have:=hS.hold b _ h;rw[hD] at this;cases this
theorem Wo{fn:Func}{tmps:Array Value}{R:Ending->World->Prop}{l0:List (Nat×Ob)}{m0:Place}{w0:World}(vV:F.lo=w0.heap.size){sl:List (Nat×aJ)}:∀(l:List Nat) (w:World),l.Nodup->
 (∀D∈l,F.lo<=D/\(∀id o,st id=some o->¬m.has id D)/\w.heap[D]? =some (.deferred (some [])))->aY F st m w->we st m w (okB F st m w) sl tmps->aK F (app emp l0) m0 w0 st m w->
 (∀w',aY F st m w'->we st m w' (okB F st m w') sl tmps->aK F (app emp l0) m0 w0 st m w'->∃v,(results fn tmps).run P w'= .ok v w'/\R (.returned v) w')->LeavesInM Fence.wide 0 P fn tmps R (l.map VJ) .returning w
 | [],w,_,_,hS,iY,hF,hR=>by
  obtain⟨v,h1,h2⟩:=hR w hS iY hF;exact⟨v,h1,h2⟩
 |D::l,w,hn,hl,hS,iY,hF,hR=>by
  rw[List.nodup_cons] at hn;obtain⟨d1,d2,d3⟩:=hl D zQ;obtain⟨k1,k2⟩:=x3K hS d3 d2;refine⟨sM,.inl ⟨D,_,rfl,run_takeDeferred d3,?_⟩⟩;refine Wo vV l _ hn.2 (fun D' Wp=> ?_) k1 (fun t=>(iY t).still (fun b h=>h.grow sM) k2) ?_ hR
  ·obtain⟨e1,e2,e3⟩:=hl D' (qR _ Wp);exact⟨e1,e2,(FB (fun e=>hn.1 (by rw[<-e];exact Wp))).trans e3⟩
  refine⟨hF.os,hF.tape,hF.output,by simpa using hF.size,fun b hb hf=> ?_,hF.bW,hF.new⟩;rw[FB (fun e=>oM)];exact hF.block b hb hf
end Go.Ab
end
section
namespace Go.Ab
open Go
variable {P:Program} {n:Nat} {l0:List (Nat×Ob)} {s:St}
theorem x0z{ty:TypeId}{u v:Value}{w:World}(h:(Instr.loadAt ty u).run P w= .ok v w):∃a,u= .pointer (some a)/\(loadVar ty a).run P w= .ok v w:=by
 unfold Instr.loadAt at h;cases u with
 |pointer p=>
  cases p with
  |some a=>exact⟨a,rfl,by simpa[Instr.sureAddr] using h⟩
  |none=>simp[Instr.sureAddr,stuck] at h
 |_=>simp[Instr.sureAddr,stuck] at h
def Cz(P:Program)(sl:List (Nat×aJ))(st:bQ):List ResultVar->Option (List aJ)
 | []=>some []
 | .tmp t::l=>(Cz P sl st l).map (get sl t:: ·)
 | .cell t ty::l=>match GF P ty (get sl t) st eW.no,Cz P sl st l with
  |some ⟨v,_,[]⟩,some vs=>some (v::vs)
  |_,_=>none
def Ip(P:Program)(rs:List ResultVar)(sl:List (Nat×aJ))(st:bQ):Option aJ:=
 match Cz P sl st rs with
 |some [v]=>some v
 |some vs=>some (.aZ vs)
 |none=>none
def Bf(P:Program)(n:Nat)(l0:List (Nat×Ob))(rs:List ResultVar)(res:aJ)(l1:List (Nat×Ob))(e:Exit)(s:St):Prop:=
 (e= .ret\/e= .normal)/\∃s' r0 s2,Le n l0 s s'/\Ip P rs s'.sl s'.st=some r0/\Le 1 l0 ⟨[(0,r0)],s'.st,s'.nx⟩ s2/\s2.st=app emp l1/\get s2.sl 0=res
theorem Bf.here{rs:List ResultVar}{res:aJ}{l1:List (Nat×Ob)}{e:Exit}{s':St}(he:e= .ret\/e= .normal)(h:Le n l0 s s')(hs:s'.st=app emp l1)(hr:Ip P rs s'.sl s'.st=some res):Bf P n l0 rs res l1 e s:=
 ⟨he,s',res,⟨[(0,res)],s'.st,s'.nx⟩,h,hr,Le.refl _,hs,by simp[get]⟩
theorem Bf.le{rs:List ResultVar}{res:aJ}{l1:List (Nat×Ob)}{e:Exit}{s':St}(h:Le n l0 s s')(k:Bf P n l0 rs res l1 e s'):Bf P n l0 rs res l1 e s:=by
 obtain⟨k1,s2,r0,s3,k2,k3,k4⟩:=k;exact⟨k1,s2,r0,s3,h.trans k2,k3,k4⟩
theorem z70{F:eL P}{m:Place}{w:World}{a:Act}{sl:List (Nat×aJ)}{st:bQ}(hS:aY F st m w)(iY:∀t,aO st m w (okB F st m w) (get sl t) (a.tmps.getD t undef))
 (g:ResultVar->Sem Value) (g1:∀t,g (.tmp t)=pure (a.tmps.getD t undef)) (g2:∀t ty b v,a.tmps.getD t undef= .pointer (some b)->(loadVar ty b).run P w= .ok v w->(g (.cell t ty)).run P w= .ok v w):
 ∀(rs:List ResultVar) (vs:List aJ),Cz P sl st rs=some vs->∃us,(rs.mapM g).run P w= .ok us w/\us.length=vs.length/\∀(i:Nat) (v:aJ) (u:Value),vs[i]? =some v->us[i]? =some u->aO st m w (okB F st m w) v u
 | [],vs,h=>by
  simp only[Cz,qb] at h;subst h;exact⟨[],sM,rfl,fun i v u hv=>by simp at hv⟩
 | .tmp t::l,vs,h=>by
  simp only[Cz,qe] at h;obtain⟨ud,h1,rfl⟩:=h;obtain⟨us,q1,q2,q3⟩:=z70 hS iY g g1 g2 l ud h1;refine⟨a.tmps.getD t undef::us,by rw[List.mapM_cons,g1];simp only[Sem.run_bind,Sem.run_pure,Result.andThen_ok,q1],by simp[q2],fun i v u hv hu=> ?_⟩;cases i with
  |zero=>simp only[zC,qb] at hv hu;subst hv;subst hu;exact iY t
  |succ i=>exact q3 i v u (by simpa using hv) (by simpa using hu)
 | .cell t ty::l,vs,h=>by
  simp only[Cz] at h;split at h
  ·rename_i v0 wr ud hk h1;simp only[qb] at h;subst h;obtain⟨us,q1,q2,q3⟩:=z70 hS iY g g1 g2 l ud h1;obtain⟨v,r1,r2,_⟩:=Tt hk trivial (fun _ _ h=>h) hS (iY t);obtain⟨b,hb,r3⟩:=x0z r1;refine⟨v::us,by rw[List.mapM_cons];simp only[Sem.run_bind,Sem.run_pure,g2 t ty b v hb r3,Result.andThen_ok,q1],by simp[q2],fun i v' u hv hu=> ?_⟩;cases i with
   |zero=>simp only[zC,qb] at hv hu;subst hv;subst hu;exact r2
   |succ i=>exact q3 i v' u (by simpa using hv) (by simpa using hu)
  cases h
theorem FC.Bg{f:FuncId}{fn:Func}{c:Code}{args:List aJ}{res:aJ}{l1:List (Nat×Ob)}{nx:Nat}(hf:P.funcs[f]? =some fn)(hb:fn.body=some c)(hn:(args.length).ble fn.ntmps=true)
 (Qf:l0.all (fun x=>Nat.blt x.1 nx)=true) (h:gm P fn.ntmps l0 c ⟨DP 0 args,app emp l0,nx⟩ (Bf P fn.ntmps l0 fn.results.toList res l1)):FC P f args (app emp l0) res (app emp l1):=by
 intro F₀ m w us hS hl hr;obtain⟨F,hF⟩:∃F:eL P,F={F₀ with BQ:=none,lo:=w.heap.size}:=⟨_,rfl⟩
 have key:∀(F:eL P),F.BQ=none->F.lo=w.heap.size->aY F (app emp l0) m w->(∀(i:Nat) (v:aJ) (u:Value),args[i]? =some v->us[i]? =some u->aO (app emp l0) m w (okB F (app emp l0) m w) v u)->
  Calls P f us.toArray w fun e w'=> ∃v m',e= .returned v/\aY F (app emp l1) m' w'/\aK F (app emp l0) m w (app emp l1) m' w'/\aO (app emp l1) m' w' (okB F (app emp l1) m' w') res v:=by
  clear hF F hS hr F₀;intro F Bh vV hS hr;have hfw:fw F=Fence.wide:=by unfold fw;rw[Bh];rfl
  have hn:=qy hn;refine(callsIn_wide (n:=0)).1 (callsIn_of_wp_marks hf hb trivial ?_ rfl);have lS:Rel F fn.ntmps ⟨DP 0 args,app emp l0,nx⟩ m {tmps:=us.toArray++Array.replicate (fn.ntmps-us.toArray.size) undef,defers:=[]} w:=by
   refine⟨fun t=> ?_,by simp;omega,A4.nil oM (fun l hl=>by rw[Bh] at hl;cases hl),hS,fun id bn=> ?_⟩
   ·rw[Wc,if_pos (qG _),Nat.sub_zero];cases ha:args[t]? with
    |none=>exact .cH _
    |some v=>
     have fQ:t<us.length:=by rw[hl];exact(qA.1 ha).1
     have:=hr t v us[t] ha (qa fQ);have e:(us.toArray++Array.replicate (fn.ntmps-us.toArray.size) undef).getD t undef=us[t]:=by
      have GX:t< (us.toArray++Array.replicate (fn.ntmps-us.toArray.size) undef).size:=by simp;omega
      simp[Array.getElem?_append,fQ]
     rw[e];exact this
   show app emp l0 id=none;cases hh:app emp l0 id with
   |none=>rfl
   |some o=>
    obtain⟨x,hx,rfl⟩:=qO.1 (z25 hh);have:=ze (qy (qS.1 Qf x hx));simp only at bn;omega
  have Iq:=h F m w m _ w hS lS (aK.refl F _ m w);rw[hfw] at Iq;refine wpIn_mono Iq ?_;rintro e a' w' ⟨s,m1,q1,q2,he,s',r0,s2,hle,rA,Qg,bH,hg⟩;obtain⟨m2,r1,r2⟩:=hle F m w m1 a' w' hS q1 q2;suffices uY:LeavesInM Fence.wide 0 P fn a'.tmps (fun e w'=> ∃v m',e= .returned v/\aY F (app emp l1) m' w'/\aK F (app emp l0) m w (app emp l1) m' w'/\aO (app emp l1) m' w' (okB F (app emp l1) m' w') res v) a'.defers .returning w' by
   rcases he with rfl|rfl
   ·exact uY
   exact uY
  obtain⟨⟨ds,Fe,vo,hd3⟩,-,-⟩:=r1.defers;rw[Fe];refine Wo vV ds w' vo hd3 r1.eH r1.dS r2 (fun w' g1 g2 g3=> ?_);have r1:Rel F fn.ntmps s' m2 {tmps:=a'.tmps,defers:=[]} w':=⟨g2,r1.size,A4.nil (by have:=g3.size;omega) (fun l hl=>by rw[Bh] at hl;cases hl),g1,r1.fresh⟩
  have r2:=g3;have cQ:∃v,(results fn a'.tmps).run P w'= .ok v w'/\aO s'.st m2 w' (okB F s'.st m2 w') r0 v:=by
   unfold Ip at rA;have key:∀vs,Cz P s'.sl s'.st fn.results.toList=some vs->∃us:List Value,(results fn a'.tmps).run P w'= .ok (if h:us.toArray.size=1 then us.toArray[0] else .tuple us.toArray) w'/\us.length=vs.length/\
    ∀(i:Nat) (v:aJ) (u:Value),vs[i]? =some v->us[i]? =some u->aO s'.st m2 w' (okB F s'.st m2 w') v u:=by
    intro vs kW;have e2:fn.results=fn.results.toList.toArray:=sM;have hg:∀(g:ResultVar->Sem Value),(∀t,g (.tmp t)=pure (a'.tmps.getD t undef))->(∀t ty b v,a'.tmps.getD t undef= .pointer (some b)->(loadVar ty b).run P w'= .ok v w'->(g (.cell t ty)).run P w'= .ok v w')->∃us:List Value,(fn.results.toList.mapM g).run P w'= .ok us w'/\us.length=vs.length/\
     ∀(i:Nat) (v:aJ) (u:Value),vs[i]? =some v->us[i]? =some u->aO s'.st m2 w' (okB F s'.st m2 w') v u:=fun g g1 g2=>z70 r1.eH r1.dS (a:=a') g g1 g2 fn.results.toList vs kW
    obtain⟨us,u1,u2,u3⟩:=hg (fun| .tmp t=>pure (a'.tmps.getD t undef)| .cell t type=>do loadVar type (<-asAddr (a'.tmps.getD t undef))) (fun t=>rfl) (fun t ty b v hb hl=>by
     have pW:(a'.tmps[t]?).getD undef= .pointer (some b):=by simpa using hb
     simp[pW,asAddr,hl])
    refine⟨us,?_,u2,u3⟩;unfold results;rw[e2,List.mapM_toArray];simp only[Sem.run_bind,Sem.run_map];erw [u1];simp only[Result.andThen_ok,Sem.run_pure]
   split at rA
   ·rename_i v hv;simp only[qb] at rA;subst rA;obtain⟨us,u1,u2,u3⟩:=key _ hv
    match us,u2 with
    | [u],_=>exact⟨u,by rw[u1];rfl,u3 0 v u rfl rfl⟩
   ·rename_i vs dh kW;simp only[qb] at rA;subst rA;obtain⟨us,u1,u2,u3⟩:=key _ kW;have h1:us.toArray.size≠1:=by
     intro e;simp at e
     match vs,u2 with
     | [v],_=>exact dh v rfl
     | [],u2=>simp at u2;rw[u2] at e;cases e
     |_::_::_,u2=>rw[e] at u2;simp at u2
    exact⟨_,by rw[u1,dif_neg h1],.aZ _ _ (by simpa using u2) u3⟩
   cases rA
  obtain⟨v,rz,mQ⟩:=cQ;have Ir:Rel F 1 ⟨[(0,r0)],s'.st,s'.nx⟩ m2 {tmps:=#[v],defers:=[]} w':=by
   refine⟨fun t=> ?_,rfl,A4.nil (by have:=g3.size;omega) (fun l hl=>by rw[Bh] at hl;cases hl),r1.eH,r1.fresh⟩;simp only[get];by_cases e:0=t
   ·subst e;simpa using mQ
   rw[kQ e,cond_false];exact .cH _
  obtain⟨m3,t1,t2⟩:=Qg F m w m2 _ w' hS Ir r2;have Is:=t1.dS 0;rw[hg] at Is;have Is:aO s2.st m3 w' (okB F s2.st m3 w') res v:=by simpa using Is
  rw[bH] at Is t2;have rR:=t1.eH;rw[bH] at rR;exact⟨v,rz,v,m3,rfl,rR,t2,Is⟩
 have hS':aY F (app emp l0) m w:=by rw[hF];exact⟨hS.cN,hS.inj,hS.eD,hS.lt,hS.low,hS.hold⟩
 refine(key F (by rw[hF]) (by rw[hF]) hS' (by rw[hF];exact hr)).mono ?_;rintro e w' ⟨v,m',rfl,k1,k2,k3⟩;rw[hF] at k1 k2 k3;exact⟨v,m',rfl,⟨k1.cN,k1.inj,k1.eD,k1.lt,k1.low,k1.hold⟩,⟨k2.os,k2.tape,k2.output,k2.size,k2.block,k2.bW,k2.new⟩,k3⟩
end Go.Ab
end
section
namespace Go.Ab
variable {P:Program} {w:World} {F:eL P} {S st:bQ} {m:Place}
variable {n:Nat} {l0:List (Nat×Ob)} {s:St} {Q:Exit->St->Prop}
theorem Le.slot{t:Nat}{v v':aJ}(hg:get s.sl t=v)(hv:∀st m w ok u,aO st m w ok v u->aO st m w ok v' u):Le n l0 s ⟨(t,v')::s.sl,s.st,s.nx⟩:=by
 intro P F m0 w0 m a w h0 h1 h2;refine⟨m,⟨fun t'=> ?_,h1.size,h1.defers,h1.eH,h1.fresh⟩,h2⟩;simp only[get];by_cases e:t=t'
 ·subst e;have:=h1.dS t;rw[hg] at this;simp only[Nat.beq_refl,cond_true];exact hv _ _ _ _ _ this
 rw[kQ e,cond_false];exact h1.dS t'
theorem Wq{k:Nat}(hk:0<k):∀(st:bQ) (m:Place) (w:World) (ok:Nat->Prop) (u:Value),aO st m w ok (.t (.sc (.slice none 0 0))) u->aO st m w ok (.t (.bX k [])) u:=by
 intro st m w ok u h;have:=aO.bq h;subst this;exact .t _ _ (.bX k [] none 0 [] hk (fun x hx=>by simp at hx) (qp _) (by simp[maxLen]) (fun h=>absurd rfl h) sM (fun j T u hT=>by simp[dL] at hT))
theorem Le.DS{t k:Nat}(hg:get s.sl t= .t (.sc (.slice none 0 0)))(hk:Nat.blt 0 k=true):Le n l0 s ⟨(t,.t (.bX k []))::s.sl,s.st,s.nx⟩:=
 Le.slot hg (Wq (Cc hk))
theorem Le.freeze{t:Nat}{v v':aJ}{g:List (Nat×Ob)}{p:List Prop}(hg:get s.sl t=v)(hs:mH s.st v=some (v',g,p))(hp:b8 p)(hn:g.all (fun x=>Nat.blt x.1 s.nx)=true):Le n l0 s ⟨(t,v')::s.sl,app s.st g,s.nx⟩:=by
 intro P F m0 w0 m a w h0 h1 h2;have hv:=h1.dS t;rw[hg] at hv;have hk:=oP (fun _ _ h=>h) h1.eH hs hp hv;obtain⟨r1,r2,r3,r4⟩:=z17 g s.st h1.eH hk.1;refine⟨m,⟨fun t'=> ?_,h1.size,h1.defers.ext r2,r1,fun id bn=> ?_⟩,h2.trans h0 r2⟩
 ·simp only[get];by_cases e:t=t'
  ·subst e;simp only[Nat.beq_refl,cond_true];exact hk.2 g hk.1 (fun x hx=>hx)
  rw[kQ e,cond_false];exact r2.val (h1.dS t')
 show app s.st g id=none;have lB:s.nx<=id:=bn;have hm:id∉g.map (·.1):=fun hm=>by
  obtain⟨x,hx,rfl⟩:=qO.1 hm;have h1:=qS.1 hn x hx;have:x.1<s.nx:=ze (qy h1);omega
 rw[r4 id hm];exact h1.fresh id bn
theorem y5j{S:bQ}{m:Place}{w:World}{P:Program}{F:eL P}(hS:aY F S m w){v v':aJ}{f:List (Nat×Ob)}{p:List Prop}(h:oA S v=some (v',f,p))(hp:b8 p){u:Value}
 (hv:aO S m w (okB F S m w) v u):J6 F S m w v' f u:=by
 cases v with
 |aZ vs=>
  simp only[oA,qe] at h;obtain⟨⟨ud,f',p'⟩,h1,h2⟩:=h;simp only[qD] at h2;obtain⟨rfl,rfl,rfl⟩:=h2;cases hv with
  |aZ _ mJ xz th=>
   have:=G6 (fun _ _ h=>h) hS h1 hp xz th;exact⟨this.2.1,fun g' hg xE=> .aZ ud mJ this.1.symm (fun i v u hv hu=>this.2.2 g' hg xE i v u hv hu)⟩
 |t T=>simp only[oA] at h;exact oP (fun _ _ h=>h) hS h hp hv
 |aF id n=>simp only[oA] at h;exact oP (fun _ _ h=>h) hS h hp hv
 |ptr id off=>simp only[oA] at h;exact oP (fun _ _ h=>h) hS h hp hv
 |cM id n i sub=>simp only[oA] at h;exact oP (fun _ _ h=>h) hS h hp hv
 |cZ id=>simp only[oA] at h;exact oP (fun _ _ h=>h) hS h hp hv
 |eG id i=>simp only[oA] at h;exact oP (fun _ _ h=>h) hS h hp hv
 |ec cs=>simp only[oA] at h;exact oP (fun _ _ h=>h) hS h hp hv
 |agg cs=>simp only[oA] at h;exact oP (fun _ _ h=>h) hS h hp hv
 |fn f cap=>simp only[oA] at h;exact oP (fun _ _ h=>h) hS h hp hv
 |cond c v=>simp only[oA] at h;exact oP (fun _ _ h=>h) hS h hp hv
 |cH=>simp only[oA] at h;exact oP (fun _ _ h=>h) hS h hp hv
 |eZ=>simp only[oA] at h;exact oP (fun _ _ h=>h) hS h hp hv
 |kS=>simp only[oA] at h;exact oP (fun _ _ h=>h) hS h hp hv
 |tail id n i=>simp only[oA] at h;exact oP (fun _ _ h=>h) hS h hp hv
 |fO id=>simp only[oA] at h;exact oP (fun _ _ h=>h) hS h hp hv
 |xl k xs=>simp only[oA] at h;exact oP (fun _ _ h=>h) hS h hp hv
 |yl id=>simp only[oA] at h;exact oP (fun _ _ h=>h) hS h hp hv
 |jv id n=>simp only[oA] at h;exact oP (fun _ _ h=>h) hS h hp hv
theorem Le.Bi{t:Nat}{v v':aJ}{g:List (Nat×Ob)}{p:List Prop}(hg:get s.sl t=v)(hs:oA s.st v=some (v',g,p))(hp:b8 p)(hn:g.all (fun x=>Nat.blt x.1 s.nx)=true):Le n l0 s ⟨(t,v')::s.sl,app s.st g,s.nx⟩:=by
 intro P F m0 w0 m a w h0 h1 h2;have hv:=h1.dS t;rw[hg] at hv;have hk:=y5j h1.eH hs hp hv;obtain⟨r1,r2,r3,r4⟩:=z17 g s.st h1.eH hk.1;refine⟨m,⟨fun t'=> ?_,h1.size,h1.defers.ext r2,r1,fun id bn=> ?_⟩,h2.trans h0 r2⟩
 ·simp only[get];by_cases e:t=t'
  ·subst e;simp only[Nat.beq_refl,cond_true];exact hk.2 g hk.1 (fun x hx=>hx)
  rw[kQ e,cond_false];exact r2.val (h1.dS t')
 show app s.st g id=none;have lB:s.nx<=id:=bn;have hm:id∉g.map (·.1):=fun hm=>by
  obtain⟨x,hx,rfl⟩:=qO.1 hm;have h1:=qS.1 hn x hx;have:x.1<s.nx:=ze (qy h1);omega
 rw[r4 id hm];exact h1.fresh id bn
theorem x6K{α:Type}{f:α->Tree}{l:List α}:aJ.t (.sc (.int .i64 (l.length:Int)))=aJ.t (.sc (.int .i64 ((l.map f).length:Int))):=sM
theorem La{α:Type}[Inhabited α]{f:α->Tree}{l:List α}{k:Nat}(h:k<l.length):(l.map f)[k]? =some (f (l.getD k default)):=by
 simp[qa h,List.getD]
theorem x6L{id n i j k:Nat}(h:i=j):aJ.cM id n i k=aJ.cM id n j k:=by rw[h]
theorem x84{k:IntKind}{a b:Int}:aJ.t (.sc (.int k (max a b)))=aJ.t (.sc (.int k (if b>a then b else a))):=by
 congr 3;split<;>omega
theorem x85{k:IntKind}{a b:Int}:aJ.t (.sc (.int k (min a b)))=aJ.t (.sc (.int k (if b<a then b else a))):=by
 congr 3;split<;>omega
theorem Ws{α:Type}{f:α->Tree}{l l':List α}{ys:List Tree}{id k:Nat}(h:l'.map f=ys):[(id,Ob.aF k false ((l++l').map f))]=[(id,Ob.aF k false (l.map f++ys))]:=by
 rw[zo,h]
theorem Wt{α:Type}{f:α->Tree}{l:List α}{x:α}{X:Tree}{id k i:Nat}(h:f x=X):[(id,Ob.aF k false ((l.set i x).map f))]=[(id,Ob.aF k false ((l.map f).set i X))]:=by
 rw[List.map_set,h]
theorem x6M{α:Type}{f:α->Tree}{l:List α}{i k:Nat}:aJ.t (.bX k ((l.drop i).map f))=aJ.t (.bX k ((l.map f).drop i)):=by rw[List.map_drop]
theorem x6N{α:Type}{f:α->Tree}{l:List α}{i k:Nat}:aJ.t (.bX k ((l.take i).map f))=aJ.t (.bX k ((l.map f).take i)):=by rw[List.map_take]
theorem x6O{α:Type}{f:α->Tree}{l:List α}{i j k:Nat}:aJ.t (.bX k (((l.take i).drop j).map f))=aJ.t (.bX k (((l.map f).take i).drop j)):=by rw[List.map_drop,List.map_take]
theorem jA.of_eq{d v:aJ}(h:v=d):jA d v:=by subst h;exact fun _ _ _ _ _ h=>h
theorem jQ{k:Nat}(hk:0<k):(Tree.sc (.slice none 0 0)=Tree.bX k []\/(Tree.sc (.slice none 0 0)= .sc (.slice none 0 0)/\∃k',0<k'/\Tree.bX k []= .bX k' [])):= .inr ⟨rfl,k,hk,rfl⟩
end Go.Ab
end
section
namespace Go.Ab
open Go
variable {P:Program} {w:World} {F:eL P} {S st:bQ} {m:Place}
variable {n:Nat} {l0:List (Nat×Ob)} {s:St}
theorem jo.Bj{x:Tree}(h:x.bZ=true):jo 1 x:=by
 cases x with
 |agg cs=>simp[Tree.bZ] at h
 |sc v=>exact⟨rfl,fun T hT=>by simp[Tree.cells] at hT;subst hT;exact h⟩
 |bX k xs=>exact⟨rfl,fun T hT=>by simp[Tree.cells] at hT;subst hT;exact h⟩
theorem y8P{x:Tree}(h:x.bZ=true):x.cells=[x]:=by cases x<;>first|rfl|simp[Tree.bZ] at h
theorem Wu:∀{xs:List Tree},(∀x∈xs,x.bZ=true)->dL xs=xs
 | [],_=>rfl
 |x::xs,h=>by
  rw[dL,y8P (h x sM),Wu (fun y hy=>h y (by simp[hy]))];rfl
theorem x0C(hS:aY F S m w){id i r q k:Nat}{xs ys:List Tree}{fz:Bool}(bn:S id=some (.cZ false xs (some (i,r,q))))(hr:S r=some (.aF k fz ys))(hq:q=ys.length):
 aY F (bO (bO S r (.aF k true ys)) id (.cZ false (xs.set i (.bX k ys)) none)) m w/\aK F S m w (bO (bO S r (.aF k true ys)) id (.cZ false (xs.set i (.bX k ys)) none)) m w:=by
 have dh:id≠r:=fun e=>by subst e;rw[bn] at hr;cases hr
 obtain⟨f1,f2⟩:=freeze hS hr;have Iu:bO S r (.aF k true ys) id=some (.cZ false xs (some (i,r,q))):=by rw[eC dh];exact bn
 obtain⟨⟨b,us,e,q1,q2,q3,q4⟩,p1,p2,p3⟩:=f1.cN id _ Iu;have hT:=NX f1 (iV S r (.aF k true ys));have key:=wM (o':= .cZ false (xs.set i (.bX k ys)) none) f1 Iu rfl q1 (w':=w) rfl rfl rfl rfl (fun _ _=>rfl) (by simp[Ob.len]) (by simp[Ob.same]) (fun hF=>by
  refine⟨⟨b,us,e,q1,q2,by rw[q3,yK,yK];simp,fun j v u hv hu=> ?_⟩,by simpa using p1,by simpa using p2,fun x hx=> ?_⟩
  ·rw[TR,zz] at hv;split at hv
   ·rename_i jr;split at hv
    ·rename_i fQ;simp only[qb] at hv;subst hv;subst jr;obtain⟨r1,r2⟩:=q4 i (.aF r q) u (by simp only[mY,zz,if_true];rw[if_pos (by simpa[mY] using fQ)]) hu;refine⟨?_,r2⟩;cases r1 with
     |fH _ _ L b9=>rw[iV] at b9;cases b9
     |aF _ _ k' iU ys' L b9 tg fu=>
      rw[iV] at b9;cases b9;have hL:=fu hq;rw[hL,<-hq] at hT;exact hF.val (.t _ _ hT)
    cases hv
   rename_i jr;obtain⟨r1,r2⟩:=q4 j v u (by simp only[mY,zz];rw[if_neg jr];exact hv) hu;exact⟨hF.val r1,r2⟩
  rcases zl hx with hx|rfl
  ·exact p3 x hx
  rfl)
 exact⟨key.1,f2.trans hS key.2⟩
theorem Le.xZ{id i r q k:Nat}{xs ys:List Tree}{fz:Bool}(bn:s.st id=some (.cZ false xs (some (i,r,q))))(hr:s.st r=some (.aF k fz ys))(hq:q=ys.length){xs':List Tree}(hx:xs.set i (.bX k ys)=xs'):
 Le n l0 s ⟨s.sl,bO (bO s.st r (.aF k true ys)) id (.cZ false xs' none),s.nx⟩:=by
 subst hx;intro P F m0 w0 m a w h0 h1 h2;obtain⟨r1,r2⟩:=x0C h1.eH bn hr hq;refine⟨m,⟨fun t'=>r2.val (h1.dS t'),h1.size,h1.defers.ext r2,r1,fun j hj=> ?_⟩,h2.trans h0 r2⟩;have lQ:s.nx<=j:=hj;have e1:j≠id:=fun e=>by subst e;rw[h1.fresh j hj] at bn;cases bn
 have e2:j≠r:=fun e=>by subst e;rw[h1.fresh j hj] at hr;cases hr
 show bO (bO s.st r (.aF k true ys)) id _ j=none;rw[eC e1,eC e2];exact h1.fresh j hj
theorem y8Q(hS:aY F S m w){id:Nat}{xs:List Tree}(bn:S id=some (.cZ false xs none)):
 aY F (bO S id (.cZ true xs none)) m w/\aK F S m w (bO S id (.cZ true xs none)) m w/\cr w (okB F (bO S id (.cZ true xs none)) m w) (.bX 1 xs) (ia (m id) xs.length):=by
 obtain⟨⟨b,us,e,q1,q2,q3,q4⟩,p1,p2,p3⟩:=hS.cN id _ bn;obtain⟨k1,k2⟩:=wM (o':= .cZ true xs none) hS bn rfl q1 (w':=w) rfl rfl rfl rfl (fun _ _=>rfl) (by simp[Ob.len]) (by simp[Ob.same]) (fun hF=>by
  refine⟨⟨b,us,e,q1,q2,q3,fun j v u hv hu=> ?_⟩,p1,p2,p3⟩;obtain⟨r1,r2⟩:=q4 j v u hv hu;exact⟨hF.val r1,r2⟩)
 refine⟨k1,k2,?_⟩;have lB:bO S id (.cZ true xs none) id=some (.cZ true xs none):=iV _ _ _;obtain⟨⟨b',mJ,e',Ih,K7,Wa,P6⟩,_⟩:=k1.cN id _ lB;rw[q1] at Ih;cases Ih;rw[yK] at Wa;have Kg:ia (m id) xs.length= .slice (some ⟨b,0,none⟩) xs.length (m id).2:=by simp[ia,q1]
 rw[Kg];refine .bX 1 xs _ _ mJ.toList dM (fun x hx=>jo.Bj (p3 x hx)) oM oM (fun _=>⟨b,0,rfl,⟨?_,?_,?_⟩,?_⟩) (by simp;omega) (fun j T u hj hu=> ?_)
 ·exact(qY.1 K7).1
 ·exact fun hb=>k1.eD id _ b lB (.inl q1) (F.sup b hb)
 ·intro i o hi hl hb;have:=k1.inj id i _ _ b lB hi (.inl q1) hb;subst this;rw[lB] at hi;cases hi;simp[Ob.live] at hl
 ·intro j u hu;simp only[World.cell?,K7];simpa using hu
 rw[Wu p3] at hj;have hv:(mY xs none)[j]? =some (.t T):=by simp[mY,hj]
 obtain⟨r1,_⟩:=P6 j _ u hv (by simpa using hu);cases r1 with
 |t _ _ hT=>exact hT
theorem Le.wh{t id:Nat}{xs:List Tree}(hg:get s.sl t= .cZ id)(bn:s.st id=some (.cZ false xs none)):Le n l0 s ⟨(t,.t (.bX 1 xs))::s.sl,bO s.st id (.cZ true xs none),s.nx⟩:=by
 intro P F m0 w0 m a w h0 h1 h2;obtain⟨r1,r2,r3⟩:=y8Q h1.eH bn;refine⟨m,⟨fun t'=> ?_,h1.size,h1.defers.ext r2,r1,fun j hj=> ?_⟩,h2.trans h0 r2⟩
 ·simp only[get];by_cases e:t=t'
  ·subst e;simp only[Nat.beq_refl,cond_true];have hv:=h1.dS t;rw[hg] at hv;generalize a.tmps.getD t undef=u at hv|-;cases hv with
   |cZ _ fz xs' hh L b9 hm=>
    rw[bn] at b9;cases b9;subst hm;exact .t _ _ r3
  rw[kQ e,cond_false];exact r2.val (h1.dS t')
 show bO s.st id _ j=none;rw[eC (fun e=>by subst e;rw[h1.fresh j hj] at bn;cases bn)];exact h1.fresh j hj
end Go.Ab
end
section
namespace Go.Ab
open Go
variable {P:Program} {w:World} {F:eL P} {S st:bQ} {m:Place}
variable {n:Nat} {l0:List (Nat×Ob)} {s:St} {Q:Exit->St->Prop}
structure Ox where
 o:eW
 cs:List Prop
 h:b8 cs
inductive wV where
 |nR (t k:Nat)
 |nL (t k:Nat)
 |nB (b i k:Nat)
 |fz (id:Nat)
 |fr (t:Nat) (p:List Prop) (h:b8 p)
 |eq (t:Nat) (d v:aJ) (h:jA d v)
 |er (id:Nat) (xs ys:List Tree) (h:xs=ys)
 |kp (ts:List Nat)
 |eb (b i:Nat) (v v':aJ) (h:v=v')
 |mc (id:Nat) (xs':List Tree) (p:List Prop) (h:b8 p)
 |mf (t:Nat)
 |fR (t:Nat) (p:List Prop) (h:b8 p)
 |mv (t i j:Nat) (h:i=j)
 |Bk (id:Nat) (yU:List (Int×MV)) (p:List Prop) (h:b8 p)
 |Lb (id:Nat) (yU:List (Int×MV)) (p:List Prop) (h:b8 p)
 |me (id:Nat) (es yU:List (Int×MV)) (h:es=yU)
 |cb (b i:Nat) (ag:Bool) (k:Nat) (p:List Prop) (h:b8 p)
inductive It where
 |r (xs:List (Nat×Ox))
 |t
 |f
 |u
 |le (x:wV)
inductive Fr where
 |seq (c:Code)
 |DT (i:Nat)
 |loop (c:Code)
inductive CA where
 |run (c:Code)
 |out (e:Exit)
instance:Inhabited CA:=⟨.run .skip⟩
structure r9 where
 o4:CA
 K:List Fr
 s:St
instance:Inhabited r9:=⟨⟨default,[],⟨[],emp,0⟩⟩⟩
inductive At where
 |br (b:Bool) (x y:Code) (K:List Fr) (s:St)
 |any (x y:Code) (K:List Fr) (s:St)
 |loop (c:Code) (K:List Fr) (s:St)
 |back (c:Code) (K:List Fr) (s:St)
 |fin (e:Exit) (s:St)
 |iJ (c:Code) (K:List Fr) (s:St)
def sH(s:St):wV->Option (St×List Prop)
 | .nR t k=>match get s.sl t with
  | .t (.sc (.slice none 0 0))=>bif Nat.blt 0 k then some (⟨(t,.aF s.nx 0)::s.sl,bO s.st s.nx (.aF k false []),s.nx+1⟩,[]) else none
  |_=>none
 | .nL t k=>match get s.sl t with
  | .t (.sc (.slice none 0 0))=>bif Nat.blt 0 k then some (⟨(t,.t (.bX k []))::s.sl,s.st,s.nx⟩,[]) else none
  |_=>none
 | .nB b i k=>match s.st b with
  |some (.box cs)=>match cs[i]? with
   |some (.t (.sc (.slice none 0 0)))=>bif Nat.blt 0 k then some (⟨s.sl,bO (bO s.st s.nx (.aF k false [])) b (.box (cs.set i (.aF s.nx 0))),s.nx+1⟩,[]) else none
   |_=>none
  |_=>none
 | .fz id=>match s.st id with
  |some (.aF k false xs)=>some (⟨s.sl,bO s.st id (.aF k true xs),s.nx⟩,[])
  |_=>none
 | .fr t _ _=>match mH s.st (get s.sl t) with
  |some (v',g,p)=>bif g.all (fun x=>Nat.blt x.1 s.nx) then some (⟨(t,v')::s.sl,app s.st g,s.nx⟩,p) else none
  |none=>none
 | .eq t _ v _=>some (⟨(t,v)::s.sl,s.st,s.nx⟩,[jA (get s.sl t) v])
 | .er id _ ys _=>match s.st id with
  |some (.aF k fz xs)=>some (⟨s.sl,bO s.st id (.aF k fz ys),s.nx⟩,[xs=ys])
  |_=>none
 | .kp ts=>some (⟨wJ s.sl ts,s.st,s.nx⟩,[])
 | .mc id xs' _ _=>match s.st id with
  |some (.cZ false xs (some (i,r,q)))=>match s.st r with
   |some (.aF k _ ys)=>some (⟨s.sl,bO (bO s.st r (.aF k true ys)) id (.cZ false xs' none),s.nx⟩,[q=ys.length,xs.set i (.bX k ys)=xs'])
   |_=>none
  |_=>none
 | .mf t=>match get s.sl t with
  | .cZ id=>match s.st id with
   |some (.cZ false xs none)=>some (⟨(t,.t (.bX 1 xs))::s.sl,bO s.st id (.cZ true xs none),s.nx⟩,[])
   |_=>none
  |_=>none
 | .fR t _ _=>match oA s.st (get s.sl t) with
  |some (v',g,p)=>bif g.all (fun x=>Nat.blt x.1 s.nx) then some (⟨(t,v')::s.sl,app s.st g,s.nx⟩,p) else none
  |none=>none
 | .mv t _ _ _=>match get s.sl t with
  | .aF id q=>match s.st id with
   |some (.aF k false xs)=>some (⟨(t,.aF s.nx q)::s.sl,bO (bO s.st id .gone) s.nx (.aF k false xs),s.nx+1⟩,[q=xs.length])
   |_=>none
  |_=>none
 | .Bk _ _ _ _=>none
 | .Lb _ _ _ _=>none
 | .me _ _ _ _=>none
 | .eb b i _ v' _=>match s.st b with
  |some (.box cs)=>match cs[i]? with
   |some v0=>some (⟨s.sl,bO s.st b (.box (cs.set i v')),s.nx⟩,[v0=v'])
   |none=>none
  |_=>none
 | .cb b0 i ag k _ _=>match s.st b0 with
  |some (.box yS)=>match yS[i]? with
   |some (.jv id q)=>match s.st id with
    |some (.box cs)=>match Dg s.st cs with
     |some (iK,g,p)=>bif !(Nat.beq b0 id)&&(g.all (fun x=>Nat.blt x.1 s.nx&&(!(Nat.beq x.1 id)&& !(Nat.beq x.1 b0)))&&(Nat.blt 0 k&&(Nat.ble (q*k) 16777216&&Nat.beq cs.length (q*k)))) then
      (wG iK).bind fun ts=>(BU ag k q ts).bind fun xs=>some (⟨s.sl,bO (bO (bO (app s.st g) id .gone) s.nx (.aF k false xs)) b0 (.box (yS.set i (.aF s.nx q))),s.nx+1⟩,p) else none
     |none=>none
    |_=>none
   |_=>none
  |_=>none
def Qh:wV->List Prop
 | .cb _ _ _ _ p _=>p
 | .fr _ p _=>p
 | .eq _ d v _=>[jA d v]
 | .er _ xs ys _=>[xs=ys]
 | .eb _ _ v v' _=>[v=v']
 | .mc _ _ p _=>p
 | .fR _ p _=>p
 | .mv _ i j _=>[i=j]
 | .Bk _ _ p _=>p
 | .Lb _ _ p _=>p
 | .me _ es yU _=>[es=yU]
 |_=>[]
def Qi(P:Program)(n:Nat)(ops:List Oper)(draw:Bool)(fC:List (Nat×eW))(s:St):Option (St×List Prop):=
 match gK P ops fC s.nx 0 ops s with
 |some (s',rs)=>bif (ops.all (BV n))&&(!draw||EX ops s.nx rs) then some (⟨s'.sl,s'.st,s.nx+8*ops.length⟩,yO rs) else none
 |none=>none
def Wv:List (Nat×Ox)->List (Nat×eW)
 | []=>[]
 | (i,x)::l=>(i,x.o)::Wv l
def DV:List Prop->List Prop->List Prop
 | [],t=>t
 |p::l,t=>p::DV l t
def Qj:List (Nat×Ox)->List Prop->List Prop
 | [],t=>t
 | (_,x)::l,t=>DV x.cs (Qj l t)
def vp:List It->List Prop
 | []=>[]
 | .r xs::l=>Qj xs (vp l)
 | .le x::l=>DV (Qh x) (vp l)
 |_::l=>vp l
inductive Qk where
 |fin
 |back (c:Code) (K:List Fr)
 |go (o4:CA) (K:List Fr)
def pF(e:Exit):List Fr->Qk
 | []=> .fin
 | .seq c::K=>match e with
  | .normal=> .go (.run c) K
  |e=> .go (.out e) K
 | .DT i::K=>match e with
  | .exit j=>bif Nat.beq j i then .go (.out .normal) K else .go (.out (.exit j)) K
  |e=> .go (.out e) K
 | .loop c::K=>match e with
  | .normal=> .back c K
  |e=> .go (.out e) K
def go(P:Program)(n:Nat):Nat->List It->CA->List Fr->St->List Prop->Option (At×List Prop)
 |0,_,_,_,_,_=>none
 |fuel+1,.le x::sc,o4,K,s,acc=>match sH s x with
  |some (s',C)=>go P n fuel sc o4 K s' (acc++C)
  |none=>none
 |fuel+1,sc,.run c,K,s,acc=>match c with
  | .seq x y=>go P n fuel sc (.run x) (.seq y::K) s acc
  | .skip=>go P n fuel sc (.out .normal) K s acc
  | .ret=>go P n fuel sc (.out .ret) K s acc
  | .exit i=>go P n fuel sc (.out (.exit i)) K s acc
  | .block i c=>go P n fuel sc (.run c) (.DT i::K) s acc
  | .loop c=>match sc with
   | []=>some (.loop c K s,acc)
   | .u::sc=>go P n fuel sc (.run c) (.loop c::K) s acc
   |_=>none
  | .cond c x y=>match ev s.sl c with
   | .t (.sc (.bool b))=>match sc with
    | []=>some (.br b x y K s,acc)
    | .t::sc=>bif b then go P n fuel sc (.run x) K s acc else none
    | .f::sc=>bif b then none else go P n fuel sc (.run y) K s acc
    |_=>none
   | .eZ=>match sc with
    | []=>some (.any x y K s,acc)
    |_=>none
   |_=>none
  | .region id ops draw=>match sc with
   | []=>some (.iJ (.region id ops draw) K s,acc)
   | .r xs::sc=>match Qi P n ops.toList draw (Wv xs) s with
    |some (s',C)=>go P n fuel sc (.out .normal) K s' (acc++C)
    |none=>none
   |_=>none
  | .rangeFunc g ps a b=>match sc with
   | []=>some (.iJ (.rangeFunc g ps a b) K s,acc)
   |_=>none
  |_=>none
 |fuel+1,sc,.out e,K,s,acc=>match pF e K with
  | .fin=>match sc with
   | []=>some (.fin e s,acc)
   |_=>none
  | .back c K=>match sc with
   | []=>some (.back c K s,acc)
   | .u::sc=>go P n fuel sc (.run c) (.loop c::K) s acc
   |_=>none
  | .go o4 K=>go P n fuel sc o4 K s acc
def oB(P:Program)(n:Nat)(l0:List (Nat×Ob)):List Fr->(Exit->St->Prop)->Exit->St->Prop
 | [],Q=>Q
 | .seq c::K,Q=>andThen (fun s=>gm P n l0 c s (oB P n l0 K Q)) (oB P n l0 K Q)
 | .DT i::K,Q=>FA i (oB P n l0 K Q)
 | .loop c::K,Q=>andThen (fun s=>nY P n l0 c s (oB P n l0 K Q)) (oB P n l0 K Q)
def DW(n:Nat)(l0:List (Nat×Ob))(Q:Exit->St->Prop):Prop:=∀e s s',Le n l0 s s'->Q e s'->Q e s
def FD(P:Program)(n:Nat)(l0:List (Nat×Ob))(Q:Exit->St->Prop):CA->List Fr->St->Prop
 | .run c,K,s=>gm P n l0 c s (oB P n l0 K Q)
 | .out e,K,s=>oB P n l0 K Q e s
def Ww(P:Program)(n:Nat)(l0:List (Nat×Ob))(Q:Exit->St->Prop):At->Prop
 | .any x y K s=>gm P n l0 x s (oB P n l0 K Q)/\gm P n l0 y s (oB P n l0 K Q)
 | .br b x y K s=>(b=true->gm P n l0 x s (oB P n l0 K Q))/\(b=false->gm P n l0 y s (oB P n l0 K Q))
 | .loop c K s=>nY P n l0 c s (oB P n l0 K Q)
 | .back c K s=>nY P n l0 c s (oB P n l0 K Q)
 | .fin e s=>Q e s
 | .iJ c K s=>gm P n l0 c s (oB P n l0 K Q)
theorem FE(hQ:DW n l0 Q):∀(K:List Fr),DW n l0 (oB P n l0 K Q)
 | []=>hQ
 | .seq c::K=>fun e s s' h k=>by
  cases e with
  |normal=>exact gm.weaken h k
  |_=>exact FE hQ K _ s s' h k
 | .DT i::K=>fun e s s' h k=>by
  cases e with
  |exit j=>
   simp only[oB,FA] at k|-;split
   ·rename_i hj;rw[if_pos hj] at k;exact FE hQ K _ s s' h k
   rename_i hj;rw[if_neg hj] at k;exact FE hQ K _ s s' h k
  |_=>exact FE hQ K _ s s' h k
 | .loop c::K=>fun e s s' h k=>by
  cases e with
  |normal=>exact nY.weaken h k
  |_=>exact FE hQ K _ s s' h k
theorem Wx(hQ:DW n l0 Q){o4:CA}{K:List Fr}{s s':St}(h:Le n l0 s s')(k:FD P n l0 Q o4 K s'):FD P n l0 Q o4 K s:=by
 cases o4 with
 |run c=>exact gm.weaken h k
 |out e=>exact FE hQ K e s s' h k
theorem Le.aF{id k:Nat}{fz:Bool}{xs ys:List Tree}(bn:s.st id=some (.aF k fz xs))(h:xs=ys):Le n l0 s ⟨s.sl,bO s.st id (.aF k fz ys),s.nx⟩:=by
 have e:bO s.st id (.aF k fz ys)=s.st:=by
  funext j;unfold bO;by_cases hj:j=id
  ·subst hj;simp[bn,h]
  rw[kQ hj];rfl
 rw[e];exact fun P F m0 w0 m a w h0 h1 h2=>⟨m,h1,h2⟩
theorem Le.Ql{b i:Nat}{cs:List aJ}{v0 v:aJ}(hb:s.st b=some (.box cs))(hi:cs[i]? =some v0)(h:v0=v):Le n l0 s ⟨s.sl,bO s.st b (.box (cs.set i v)),s.nx⟩:=by
 subst h;have e0:cs.set i v0=cs:=by
  apply List.ext_getElem?;intro j;rw[zz];split
  ·rename_i hj;subst hj;have:=(qA.1 hi).1;rw[if_pos this,hi]
  rfl
 have e:bO s.st b (.box (cs.set i v0))=s.st:=by
  funext j;unfold bO;by_cases hj:j=b
  ·subst hj;simp[hb,e0]
  rw[kQ hj];rfl
 rw[e];exact fun P F m0 w0 m a w h0 h1 h2=>⟨m,h1,h2⟩
theorem Le.bW(ts:List Nat):Le n l0 s ⟨wJ s.sl ts,s.st,s.nx⟩:=by
 intro P F m0 w0 m a w h0 h1 h2;exact⟨m,⟨h1.dS.bW ts,h1.size,h1.defers,h1.eH,h1.fresh⟩,h2⟩
theorem Le.Iv{t id q k:Nat}{xs:List Tree}(hg:get s.sl t= .aF id q)(hs:s.st id=some (.aF k false xs))(hq:q=xs.length):
 Le n l0 s ⟨(t,.aF s.nx q)::s.sl,bO (bO s.st id .gone) s.nx (.aF k false xs),s.nx+1⟩:=by
 intro P F m0 w0 m a w h0 h1 h2;have hn:s.st s.nx=none:=h1.fresh s.nx (qp _);obtain⟨k1,k2⟩:=Ub h1.eH hs hn (qp xs.length);rw[List.take_length] at k1 k2;refine⟨_,⟨fun t'=> ?_,h1.size,h1.defers.ext k2,k1,fun sG lB=> ?_⟩,h2.trans h0 k2⟩
 ·simp only[get];by_cases e:t=t'
  ·subst e;have hv:=h1.dS t;rw[hg] at hv;simp only[Nat.beq_refl,cond_true];generalize a.tmps.getD t undef=u at hv;cases hv with
   |aF _ _ k' iU xs' L b9 tg fu=>
    rw[hs] at b9;cases b9;have:=fu hq;exact .aF s.nx q k false xs L (iV _ _ _) oM (fun _=>by rw[o8];exact this)
   |fH _ _ L b9=>rw[hs] at b9;cases b9
  rw[kQ e,cond_false];exact k2.val (h1.dS t')
 show bO (bO s.st id .gone) s.nx _ sG=none;simp only at lB;have dh:sG≠id:=fun e=>by subst e;rw[h1.fresh sG oM] at hs;cases hs
 rw[eC oM,eC dh];exact h1.fresh sG oM
theorem Le.DX{b0 i id q k:Nat}{ag:Bool}{yS cs iK:List aJ}{g:List (Nat×Ob)}{p:List Prop}{ts xs:List Tree}(wU:s.st b0=some (.box yS))(hg:yS[i]? =some (.jv id q))(hs:s.st id=some (.box cs))(e1:Dg s.st cs=some (iK,g,p))(hp:b8 p)
 (Iw:b0≠id) (hk:g.all (fun x=>Nat.blt x.1 s.nx&&(!(Nat.beq x.1 id)&& !(Nat.beq x.1 b0)))=true) (kX:0<k) (fI:q*k<=16777216) (kV:cs.length=q*k) (e2:wG iK=some ts) (e3:BU ag k q ts=some xs):
 Le n l0 s ⟨s.sl,bO (bO (bO (app s.st g) id .gone) s.nx (.aF k false xs)) b0 (.box (yS.set i (.aF s.nx q))),s.nx+1⟩:=by
 intro P F m0 w0 m a w h0 h1 h2;obtain⟨bb,Lc,e0,p1,p2,p3,p4⟩:=h1.eH.cN b0 _ wU;have j7:i<Lc.size:=by rw[p3];exact(qA.1 hg).1
 have AI:Lc[i]? =some Lc[i]:=zD j7;have hv:=(p4 i _ _ hg AI).1;generalize hw0:Lc[i]=u0 at hv;rw[hw0] at AI;cases hv with
 |iT _ _ L b9=>rw[hs] at b9;cases b9
 |jv _ _ cs1 b b9 hm=>
 rw[hs] at b9;cases b9;obtain⟨b',us,e,q1,q2,q3,q4⟩:=h1.eH.cN id _ hs;rw[hm] at q1;cases q1;have rP:=NY (fun _ _ h=>h) h1.eH e1 hp (us:=us.toList) (by simp[q3]) (fun i v u hv hu=>(q4 i v u hv (by simpa using hu)).1);obtain⟨r1,r2,r3,r4⟩:=z17 g s.st h1.eH rP.2.1;have wW:∀j,j∈g.map (·.1)->j<s.nx/\j≠id/\j≠b0:=fun j hj=>by
  obtain⟨x,hx,rfl⟩:=qO.1 hj;have:=qS.1 hk x hx;simp only[qq,zf] at this;exact⟨ze (qy this.1),fun e=>by rw[e] at this;simp at this,fun e=>by rw[e] at this;simp at this⟩
 have Qm:app s.st g id=some (.box cs):=by rw[r4 id (fun h=>(wW id h).2.1 rfl)];exact hs
 have hn:app s.st g s.nx=none:=by rw[r4 s.nx (fun h=>absurd (wW _ h).1 (Nat.lt_irrefl _))];exact h1.fresh s.nx (qp _)
 have HK:b0≠s.nx:=fun e=>by rw[e,h1.fresh s.nx (qp _)] at wU;cases wU
 have E8:=GV e2;have jL:∀(j:Nat) (T:Tree) (u:Value),ts[j]? =some T->us[j]? =some u->cr w (okB F (app s.st g) m w) T u:=fun j T u hT hu=>by
  have:=rP.2.2 g rP.2.1 (fun x hx=>hx) j (.t T) u (by rw[E8,zj,hT];rfl) (by simpa using hu);cases this with
  |t _ _ h=>exact h
 have iW:∀(j:Nat) (u:Value),us[j]? =some u->u.oneCell'=true:=fun j u hu=>by
  have hj:j<cs.length:=by rw[<-q3];exact(qY.1 hu).1
  exact(q4 j _ u (qa hj) hu).2
 have Qn:ts.length=us.size:=by have:=rP.1;rw[E8] at this;simpa using this
 have ug:∀T∈ts,T.bZ=true:=fun T hT=>by
  obtain⟨j,hj,rfl⟩:=q9.1 hT;have lQ:j<us.size:=by rw[<-Qn];exact hj
  have a1:=jL j _ us[j] (qa hj) (zD lQ);have a2:=iW j us[j] (zD lQ);generalize ts[j]=T at a1;generalize us[j]=u at a1 a2;cases a1 with
  |agg=>simp[Value.oneCell'] at a2
  |sc=>rfl
  |bX=>rfl
 obtain⟨g1,g2,g3⟩:=N9 e3 ug;obtain⟨k1,k2⟩:=Ua (o':= .aF k false xs) r1 Qm hn rfl trivial (by simp[Ob.len]) (fun hF=>by
  refine⟨kX,g3,by rw[g2,hm];exact qp _,?_,.inr ⟨b,us,e,by rw[hm],q2,by rw[q3,kV,hm],iW,fun j T u hj hu=>hF.tree (jL j T u (by rw[<-g1];exact hj) hu)⟩⟩;have:=Nat.le_mul_of_pos_right q kX;rw[hm];simp only[maxLen];omega)
 have pW:bO (bO (app s.st g) id .gone) s.nx (.aF k false xs) b0=some (.box yS):=by rw[eC HK,eC Iw,r4 b0 (fun h=>(wW _ h).2.2 rfl)];exact wU
 obtain⟨bb',mJ,e',s1,s2,s3,s4⟩:=k1.cN b0 _ pW;have Wy:=s1;rw[vN HK,vN Iw,p1] at Wy;cases Wy;have Wz:=p2.symm.trans s2;simp only[qb,Go.Obj.cells.injEq] at Wz;have key:=wM (o':= .box (yS.set i (.aF s.nx q))) k1 pW rfl s1 (w':=w) rfl rfl rfl rfl (fun _ _=>rfl) (by simp[Ob.len]) (by simp[Ob.same]) (fun hF=>by
  refine⟨bb,mJ,e',s1,s2,by simp[s3],fun j v u hv hu=> ?_⟩;rw[zz] at hv;split at hv
  ·rename_i jr;subst jr;split at hv
   ·simp only[qb] at hv;subst hv;rw[<-Wz.1,AI] at hu;cases hu;exact⟨.aF s.nx q k false xs (some b,q) (by rw[eC (Ne.symm HK)];exact iV _ _ _) oM (fun _=>by rw[o8];exact hm),rfl⟩
   cases hv
  obtain⟨t1,t2⟩:=s4 j v u hv hu;exact⟨hF.val t1,t2⟩)
 have k3:=(r2.trans h1.eH k2).trans h1.eH key.2;refine⟨_,⟨fun t'=>k3.val (h1.dS t'),h1.size,h1.defers.ext k3,key.1,fun sG lB=> ?_⟩,h2.trans h0 k3⟩;show bO (bO (bO (app s.st g) id .gone) s.nx _) b0 _ sG=none;simp only at lB;have dh:∀x ob,s.st x=some ob->sG≠x:=fun x ob hx e=>by subst e;rw[h1.fresh sG oM] at hx;cases hx
 rw[eC (dh _ _ wU),eC oM,eC (dh _ _ hs),r4 sG (fun h=>by have:=(wW _ h).1;omega)];exact h1.fresh sG oM
theorem WA{x:wV}{s':St}{C:List Prop}(h:sH s x=some (s',C))(hC:b8 C):Le n l0 s s':=by
 cases x with
 |nR t k=>
  simp only[sH] at h;split at h
  ·rename_i hg;obtain⟨hk,h⟩:=gL h;cases h;exact Le.DQ hg sM hk
  cases h
 |nL t k=>
  simp only[sH] at h;split at h
  ·rename_i hg;obtain⟨hk,h⟩:=gL h;cases h;exact Le.DS hg hk
  cases h
 |nB b i k=>
  simp only[sH] at h;split at h
  ·rename_i cs hb;split at h
   ·rename_i hg;obtain⟨hk,h⟩:=gL h;cases h;exact Le.DR hb hg sM hk
   cases h
  cases h
 |fz id=>
  simp only[sH] at h;split at h
  ·rename_i hb;cases h;exact Le.fz hb
  cases h
 |fr t p hp=>
  simp only[sH] at h;split at h
  ·rename_i v' g p hs;obtain⟨hk,h⟩:=gL h;cases h;exact Le.freeze rfl hs hC hk
  cases h
 |fR t p hp=>
  simp only[sH] at h;split at h
  ·rename_i v' g p hs;obtain⟨hk,h⟩:=gL h;cases h;exact Le.Bi rfl hs hC hk
  cases h
 |eq t d v hw=>
  simp only[sH] at h;cases h;exact Le.slot rfl hC.1
 |er id xs ys he=>
  simp only[sH] at h;split at h
  ·rename_i hb;cases h;exact Le.aF hb hC.1
  cases h
 |kp ts=>
  simp only[sH] at h;cases h;exact Le.bW ts
 |mc id xs' p hp=>
  simp only[sH] at h;split at h
  ·rename_i bn;split at h
   ·rename_i hr;cases h;exact Le.xZ bn hr hC.1 hC.2.1
   cases h
  cases h
 |mf t=>
  simp only[sH] at h;split at h
  ·rename_i hg;split at h
   ·rename_i bn;cases h;exact Le.wh hg bn
   cases h
  cases h
 |cb b0 i ag k p hp=>
  simp only[sH] at h;split at h;rotate_left
  ·cases h
  rename_i yS wU;split at h;rotate_left
  ·cases h
  rename_i id q hg;split at h;rotate_left
  ·cases h
  rename_i cs hs;split at h;rotate_left
  ·cases h
  rename_i iK g p rP;obtain⟨hk,h⟩:=gL h;simp only[qw] at h;obtain⟨ts,h1,xs,h2,h⟩:=h;cases h;simp only[qq,zf] at hk;obtain⟨c1,c2,c3,c4,c5⟩:=hk;exact Le.DX wU hg hs rP hC (fun e=>by rw[e] at c1;simp at c1) c2 (Cc c3) (qy c4) (qJ c5) h1 h2
 |mv t i j he=>
  simp only[sH] at h;split at h
  ·rename_i hg;split at h
   ·rename_i bn;cases h;exact Le.Iv hg bn hC.1
   cases h
  cases h
 |Bk id yU p hp=>cases h
 |Lb id yU p hp=>cases h
 |me id es1 yU he=>cases h
 |eb b i v v' he=>
  simp only[sH] at h;split at h
  ·rename_i cs hb;split at h
   ·rename_i v0 hi;cases h;exact Le.Ql hb hi hC.1
   cases h
  cases h
theorem z64:∀(ks:List Nat) (sl:List (Nat×aJ)) (t:Nat),t∈ks->get (wJ sl ks) t=get sl t
 |k::ks,sl,t,h=>by
  simp only[wJ,get];by_cases e:k=t
  ·subst e;simp
  rw[kQ e];rcases qg.1 h with h|h
  ·exact absurd h.symm e
  exact z64 ks sl t h
theorem WB:∀(sl:List (Nat×aJ)) (t:Nat),t∉sl.map (·.1)->get sl t= .cH
 | [],t,h=>rfl
 | (k,v)::sl,t,h=>by
  simp only[qU,qg,not_or] at h;simp only[get];rw[kQ (Ne.symm h.1)];exact WB sl t h.2
theorem WC(sl:List (Nat×aJ))(t:Nat):get (wJ sl (sl.map (·.1))) t=get sl t:=by
 by_cases h:t∈sl.map (·.1)
 ·exact z64 _ _ _ h
 rcases PS (sl.map (·.1)) sl t with e|e
 ·exact e
 rw[e,WB sl t h]
theorem Rel.sI{sl P7:List (Nat×aJ)}{st:bQ}{nx:Nat}{a:Act}(h:Rel F n ⟨sl,st,nx⟩ m a w)(e:∀t,get P7 t=get sl t):Rel F n ⟨P7,st,nx⟩ m a w:=
 ⟨fun t=>by rw[e];exact h.dS t,h.size,h.defers,h.eH,h.fresh⟩
theorem x3M(hm:P.follows .mixedOrders=true){id:Nat}{ops:Array Oper}{draw:Bool}{fC:List (Nat×eW)}{s':St}{C:List Prop}(h:Qi P n ops.toList draw fC s=some (s',C))(hC:b8 C)(hq:Q .normal s'):
 gm P n l0 (.region id ops draw) s Q:=by
 unfold Qi at h;split at h;rotate_left
 ·cases h
 rename_i s2 rs cQ;obtain⟨h1,h2⟩:=gL h;cases h2;have hR:EY P n ops.toList draw fC (s2.sl.map (·.1)) s=some (⟨wJ s2.sl (s2.sl.map (·.1)),s2.st,s.nx+8*ops.toList.length⟩,yO rs):=by
  unfold EY;rw[cQ];simp only[h1,cond_true]
 intro F m0 w0 m a w h0 r1 r2;cases draw with
 |false=>
  have:=x0q hR hC r1 (Q:=fun e a' w'=> ∃s' m',Rel F n s' m' a' w'/\aK F (app emp l0) m0 w0 s'.st m' w'/\Q e s') (fun m' a' w' q1 q2=>⟨⟨s2.sl,s2.st,s.nx+8*ops.toList.length⟩,m',q1.sI (fun t=>(WC _ t).symm),r2.trans h0 q2,hq⟩) id;simpa using this
 |true=>
  have:=x0v hm hR hC r1 (Q:=fun e a' w'=> ∃s' m',Rel F n s' m' a' w'/\aK F (app emp l0) m0 w0 s'.st m' w'/\Q e s') (fun m' a' w' q1 q2=>⟨⟨s2.sl,s2.st,s.nx+8*ops.toList.length⟩,m',q1.sI (fun t=>(WC _ t).symm),r2.trans h0 q2,hq⟩) id;simpa using this
theorem Ix{a b:List Prop}:b8 (a++b)↔b8 a/\b8 b:=rO
theorem x3N{e:Exit}{K:List Fr}(h:pF e K= .fin):K=[]:=by
 cases K with
 |nil=>rfl
 |cons f K=>
  cases f with
  |seq c=>cases e<;>simp[pF] at h
  |DT i=>
   cases e with
   |exit j=>simp only[pF] at h;cases hj:Nat.beq j i<;>rw[hj] at h<;>simp at h
   |_=>simp[pF] at h
  |loop c=>cases e<;>simp[pF] at h
theorem WD{e:Exit}{K K':List Fr}{c:Code}(h:pF e K= .back c K')(hA:nY P n l0 c s (oB P n l0 K' Q)):oB P n l0 K Q e s:=by
 cases K with
 |nil=>simp[pF] at h
 |cons f K=>
  cases f with
  |seq c=>cases e<;>simp[pF] at h
  |DT i=>
   cases e with
   |exit j=>simp only[pF] at h;cases hj:Nat.beq j i<;>rw[hj] at h<;>simp at h
   |_=>simp[pF] at h
  |loop c=>
   cases e with
   |normal=>simp only[pF] at h;cases h;exact hA
   |_=>simp[pF] at h
theorem x6P{e:Exit}{K K':List Fr}{o4:CA}(h:pF e K= .go o4 K')(hA:FD P n l0 Q o4 K' s):oB P n l0 K Q e s:=by
 cases K with
 |nil=>simp[pF] at h
 |cons f K=>
  cases f with
  |seq c=>cases e<;>(simp only[pF] at h;cases h;exact hA)
  |DT i=>
   cases e with
   |exit j=>
    simp only[pF] at h;show FA i _ (.exit j) s;simp only[FA];cases hj:Nat.beq j i with
    |true=>rw[hj] at h;cases h;rw[if_pos (qJ hj)];exact hA
    |false=>rw[hj] at h;cases h;rw[if_neg (fun e=>by subst e;simp at hj)];exact hA
   |_=>simp only[pF] at h;cases h;exact hA
  |loop c=>
   cases e with
   |normal=>simp[pF] at h
   |_=>simp only[pF] at h;cases h;exact hA
theorem x3O(hm:P.follows .mixedOrders=true)(hQ:DW n l0 Q):∀(fuel:Nat) (sc:List It) (o4:CA) (K:List Fr) (s:St) (acc:List Prop) (a:At) (C:List Prop),
 go P n fuel sc o4 K s acc=some (a,C)->b8 C->Ww P n l0 Q a->b8 acc/\FD P n l0 Q o4 K s:=by
 intro fuel;induction fuel with
 |zero=>intro sc o4 K s acc a C h;simp[go] at h
 |succ fuel ih=>
  intro sc o4 K s acc a C h hC hA;unfold go at h;split at h
  ·cases h
  ·rename_i x sc' K' s' w26 Iy;cases Iy;split at h
   ·rename_i s2 C2 hle;obtain⟨q1,q2⟩:=ih _ _ _ _ _ _ _ h hC hA;rw[Ix] at q1;exact⟨q1.1,Wx hQ (WA hle q1.2) q2⟩
   cases h
  ·rename_i Iz c Iy _;cases Iy;split at h
   ·obtain⟨q1,q2⟩:=ih _ _ _ _ _ _ _ h hC hA;exact⟨q1,gm.seq q2⟩
   ·obtain⟨q1,q2⟩:=ih _ _ _ _ _ _ _ h hC hA;exact⟨q1,gm.skip q2⟩
   ·obtain⟨q1,q2⟩:=ih _ _ _ _ _ _ _ h hC hA;exact⟨q1,gm.ret q2⟩
   ·obtain⟨q1,q2⟩:=ih _ _ _ _ _ _ _ h hC hA;exact⟨q1,gm.exit q2⟩
   ·obtain⟨q1,q2⟩:=ih _ _ _ _ _ _ _ h hC hA;exact⟨q1,gm.block q2⟩
   ·split at h
    ·cases h;exact⟨hC,gm.loop hA⟩
    ·obtain⟨q1,q2⟩:=ih _ _ _ _ _ _ _ h hC hA;exact⟨q1,gm.loop (nY.step q2)⟩
    cases h
   ·split at h
    ·rename_i b hb;split at h
     ·cases h;exact⟨hC,gm.cond hb hA.1 hA.2⟩
     ·cases b with
      |true=>obtain⟨q1,q2⟩:=ih _ _ _ _ _ _ _ h hC hA;exact⟨q1,gm.cond hb (fun _=>q2) (fun e=>by cases e)⟩
      |false=>cases h
     ·cases b with
      |false=>obtain⟨q1,q2⟩:=ih _ _ _ _ _ _ _ h hC hA;exact⟨q1,gm.cond hb (fun e=>by cases e) (fun _=>q2)⟩
      |true=>cases h
     cases h
    ·rename_i hb;split at h
     ·cases h;exact⟨hC,gm.Bb hb hA.1 hA.2⟩
     cases h
    cases h
   ·split at h
    ·cases h;exact⟨hC,hA⟩
    ·split at h
     ·rename_i s2 C2 hr;obtain⟨q1,q2⟩:=ih _ _ _ _ _ _ _ h hC hA;rw[Ix] at q1;exact⟨q1.1,x3M hm hr q1.2 q2⟩
     cases h
    cases h
   ·split at h
    ·cases h;exact⟨hC,hA⟩
    cases h
   cases h
  rename_i Iz e Iy _;cases Iy;split at h
  ·rename_i ho;split at h
   ·cases h;exact⟨hC,by rw[x3N ho];exact hA⟩
   cases h
  ·rename_i c K' ho;split at h
   ·cases h;exact⟨hC,WD ho hA⟩
   ·obtain⟨q1,q2⟩:=ih _ _ _ _ _ _ _ h hC hA;exact⟨q1,WD ho (nY.step q2)⟩
   cases h
  rename_i o4 K' ho;obtain⟨q1,q2⟩:=ih _ _ _ _ _ _ _ h hC hA;exact⟨q1,x6P ho q2⟩
end Go.Ab
end
section
namespace Go.Ab
open Go
variable {P:Program} {n:Nat} {l0:List (Nat×Ob)} {Q:Exit->St->Prop}
abbrev VI(x:Int):aJ:= .t (.sc (.int .i64 x))
abbrev VB(b:Bool):aJ:= .t (.sc (.bool b))
abbrev VS(s:ByteArray):aJ:= .t (.sc (.string s))
abbrev VN:aJ:= .t (.sc (.slice none 0 0))
abbrev VL{α:Type}(k:Nat)(f:α->Tree)(l:List α):aJ:= .t (.bX k (l.map f))
abbrev TI(x:Int):Tree:= .sc (.int .i64 x)
abbrev TB(b:Bool):Tree:= .sc (.bool b)
abbrev TS(s:ByteArray):Tree:= .sc (.string s)
abbrev TN:Tree:= .sc (.slice none 0 0)
abbrev TL{α:Type}(k:Nat)(f:α->Tree)(l:List α):Tree:= .bX k (l.map f)
abbrev OR{α:Type}(k:Nat)(f:α->Tree)(l:List α):Ob:= .aF k false (l.map f)
abbrev OF{α:Type}(k:Nat)(f:α->Tree)(l:List α):Ob:= .aF k true (l.map f)
structure dX(P:Program)(n:Nat)(l0:List (Nat×Ob))(Q:Exit->St->Prop)(c:r9):Prop where
 run:P.follows .mixedOrders=true->DW n l0 Q->FD P n l0 Q c.o4 c.K c.s
def kK(P:Program)(n:Nat)(sc:List It)(c:r9):Option (At×List Prop):=go P n 100000 sc c.o4 c.K c.s []
theorem WE:∀(x:wV),b8 (Qh x)
 | .fr _ p h=>h
 | .eq _ d v h=>⟨h,trivial⟩
 | .er _ xs ys h=>⟨h,trivial⟩
 | .nR _ _=>trivial
 | .nL _ _=>trivial
 | .nB _ _ _=>trivial
 | .fz _=>trivial
 | .kp _=>trivial
 | .eb _ _ _ _ h=>⟨h,trivial⟩
 | .mc _ _ _ h=>h
 | .fR _ _ h=>h
 | .mv _ _ _ h=>⟨h,trivial⟩
 | .mf _=>trivial
 | .Bk _ _ _ h=>h
 | .Lb _ _ _ h=>h
 | .me _ _ _ h=>⟨h,trivial⟩
 | .cb _ _ _ _ _ h=>h
theorem Ld:∀{l t:List Prop},b8 l->b8 t->b8 (DV l t)
 | [],t,_,h=>h
 |p::l,t,hp,h=>⟨hp.1,Ld hp.2 h⟩
theorem WG:∀(l:List (Nat×Ox)) {t:List Prop},b8 t->b8 (Qj l t)
 | [],t,h=>h
 | (_,x)::l,t,h=>Ld x.h (WG l h)
theorem wX:∀(sc:List It),b8 (vp sc)
 | []=>trivial
 | .r xs::l=>WG xs (wX l)
 | .le x::l=>Ld (WE x) (wX l)
 | .t::l=>wX l
 | .f::l=>wX l
 | .u::l=>wX l
theorem DY{sc:List It}{c:r9}{a:At}{C:List Prop}(h:kK P n sc c=some (a,C))(hC:b8 C)(hA:P.follows .mixedOrders=true->DW n l0 Q->Ww P n l0 Q a):dX P n l0 Q c:=
 ⟨fun hm hQ=>(x3O hm hQ _ _ _ _ _ _ _ _ h hC (hA hm hQ)).2⟩
def Qo:Option (At×List Prop)->Option (Bool×List Prop)
 |some (.br b _ _ _ _,C)=>some (b,C)
 |_=>none
def Lf(v:Bool):Option (At×List Prop)->r9
 |some (.br _ x y K s,_)=>⟨.run (bif v then x else y),K,s⟩
 |_=>default
theorem dX.br{c:r9}(sc:List It)(b:Bool)(ht:b=true->dX P n l0 Q (Lf true (kK P n sc c)))(hf:b=false->dX P n l0 Q (Lf false (kK P n sc c)))
 (h:Qo (kK P n sc c)=some (b,vp sc):=by kernel_rfl):dX P n l0 Q c:=by
 generalize hr:kK P n sc c=r at*
 match r,h with
 |some (.br b' x y K s,C),h=>
  simp only[Qo,qb,qD] at h;obtain⟨rfl,rfl⟩:=h;exact DY hr (wX sc) (fun hm hQ=>⟨fun e=>(ht e).run hm hQ,fun e=>(hf e).run hm hQ⟩)
class BP(b:Bool)(t f:outParam Prop):Prop where
 t:b=true->t
 f:b=false->f
instance (priority:=10) BP.any (b:Bool):BP b (b=true) (b=false):=⟨id,id⟩
instance (priority:=100) BP.dec (p:Prop) [Decidable p]:BP (decide p) p (¬p):=⟨of_decide_eq_true,of_decide_eq_false⟩
instance BP.ilt (a b:Int) [Decidable (a<b)]:BP (decide (a<b)) (a<b) (b<=a):=⟨of_decide_eq_true,fun h=>Int.not_lt.1 (of_decide_eq_false h)⟩
instance BP.ile (a b:Int) [Decidable (a<=b)]:BP (decide (a<=b)) (a<=b) (b<a):=⟨of_decide_eq_true,fun h=>Int.not_le.1 (of_decide_eq_false h)⟩
instance BP.not (b:Bool) {t f:Prop} [h:BP b t f]:BP (!b) f t:=⟨fun e=>h.f (by simpa using e),fun e=>h.t (by simpa using e)⟩
instance BP.and (a b:Bool) {t f t' f':Prop} [h:BP a t f] [k:BP b t' f']:BP (a&&b) (t/\t') (f\/f'):=⟨fun e=>by rw[qq] at e;exact⟨h.t e.1,k.t e.2⟩,fun e=>by rw[Bool.and_eq_false_iff] at e;exact e.imp h.f k.f⟩
instance BP.or (a b:Bool) {t f t' f':Prop} [h:BP a t f] [k:BP b t' f']:BP (a||b) (t\/t') (f/\f'):=⟨fun e=>by rw[qM] at e;exact e.imp h.t k.t,fun e=>by rw[zV] at e;exact⟨h.f e.1,k.f e.2⟩⟩
instance BP.beq {α:Type} [BEq α] [LawfulBEq α] (a b:α):BP (a==b) (a=b) (¬a=b):=⟨fun e=>beq_iff_eq.1 e,fun e=>beq_eq_false_iff_ne.1 e⟩
instance BP.bne {α:Type} [BEq α] [LawfulBEq α] (a b:α):BP (a !=b) (¬a=b) (a=b):=⟨fun e=>bne_iff_ne.1 e,fun e=>bne_eq_false_iff_eq.1 e⟩
theorem dX.bp{c:r9}(sc:List It)(b:Bool){t f:Prop}[hb:BP b t f](ht:t->dX P n l0 Q (Lf true (kK P n sc c)))(hf:f->dX P n l0 Q (Lf false (kK P n sc c)))
 (h:Qo (kK P n sc c)=some (b,vp sc):=by kernel_rfl):dX P n l0 Q c:=dX.br sc b (fun e=>ht (hb.t e)) (fun e=>hf (hb.f e)) h
def WH:Option (At×List Prop)->Option (List Prop)
 |some (.any _ _ _ _,C)=>some C
 |_=>none
def WI(v:Bool):Option (At×List Prop)->r9
 |some (.any x y K s,_)=>⟨.run (bif v then x else y),K,s⟩
 |_=>default
theorem dX.any{c:r9}(sc:List It)(ht:dX P n l0 Q (WI true (kK P n sc c)))(hf:dX P n l0 Q (WI false (kK P n sc c)))
 (h:WH (kK P n sc c)=some (vp sc):=by kernel_rfl):dX P n l0 Q c:=by
 generalize hr:kK P n sc c=r at*
 match r,h with
 |some (.any x y K s,C),h=>
  simp only[WH,qb] at h;subst h;exact DY hr (wX sc) (fun hm hQ=>⟨ht.run hm hQ,hf.run hm hQ⟩)
def WJ:Option (At×List Prop)->Option (List Prop)
 |some (.iJ _ _ _,C)=>some C
 |_=>none
def mdX:Option (At×List Prop)->r9
 |some (.iJ c K s,_)=>⟨.run c,K,s⟩
 |_=>default
theorem dX.iJ{c:r9}(sc:List It)(k:dX P n l0 Q (mdX (kK P n sc c)))(h:WJ (kK P n sc c)=some (vp sc):=by kernel_rfl):dX P n l0 Q c:=by
 generalize hr:kK P n sc c=r at*
 match r,h with
 |some (.iJ x K s,C),h=>
  simp only[WJ,qb] at h;subst h;exact DY hr (wX sc) (fun hm hQ=>k.run hm hQ)
def FF(p:List (Nat×aJ)×List (Nat×Ob))(nx:Nat):St:=⟨p.1,app emp p.2,nx⟩
def WK:List (Nat×Ob)->List (Nat×Nat)
 | []=>[]
 | (i,_)::l=>(i,i)::WK l
def Lg:List (Nat×aJ)->List Nat
 | []=>[]
 | (i,_)::l=>i::Lg l
def WL(l0:List (Nat×Ob))(nx:Nat)(p:List (Nat×aJ)×List (Nat×Ob)):Option (At×List Prop)->Option ((List (Nat×aJ)×List (Nat×Ob))×List Prop)
 |some (.loop _ _ s,C)=>match DL l0 (WK p.2) (Lg p.1) nx s with
  |some p=>some (p,C)
  |none=>none
 |_=>none
def Qp:Option (At×List Prop)->Code
 |some (.loop c _ _,_)=>c
 |_=>default
def WM:Option (At×List Prop)->List Fr
 |some (.loop _ K _,_)=>K
 |_=>[]
theorem dX.loop{c:r9}{α:Type}(sc:List It)(nx:Nat)(S:α->List (Nat×aJ)×List (Nat×Ob))(I:α->Prop)(μ:α->Nat)(a:α)(ha:I a)
 (round:∀a,I a->(∀b,I b->μ b<μ a->nY P n l0 (Qp (kK P n sc c)) (FF (S b) nx) (oB P n l0 (WM (kK P n sc c)) Q))->
  dX P n l0 Q ⟨.run (Qp (kK P n sc c)),.loop (Qp (kK P n sc c))::WM (kK P n sc c),FF (S a) nx⟩)
 (h:WL l0 nx (S a) (kK P n sc c)=some (S a,vp sc):=by kernel_rfl):dX P n l0 Q c:=by
 generalize hr:kK P n sc c=r at*
 match r,h with
 |some (.loop x K s,C),h=>
  simp only[WL] at h;split at h
  ·rename_i p hp;simp only[qb,qD] at h;obtain⟨rfl,rfl⟩:=h;refine DY hr (wX sc) (fun hm hQ=> ?_);have hle:Le n l0 s (FF (S a) nx):=Le.nX hp;refine nY.weaken hle ?_;exact x3I (fun a=>FF (S a) nx) I μ (fun a hI ih=>nY.step ((round a hI ih).run hm hQ)) a ha
  cases h
def WN(l0:List (Nat×Ob))(τ:List (Nat×Nat))(nx:Nat)(p:List (Nat×aJ)×List (Nat×Ob)):Option (At×List Prop)->Option ((List (Nat×aJ)×List (Nat×Ob))×List Prop)
 |some (.back _ _ s,C)=>match DL l0 τ (Lg p.1) nx s with
  |some p=>some (p,C)
  |none=>none
 |_=>none
def WO:Option (At×List Prop)->Option (Code×List Fr)
 |some (.back c K _,_)=>some (c,K)
 |_=>none
theorem dX.back{c:r9}(sc:List It)(τ:List (Nat×Nat)){p:List (Nat×aJ)×List (Nat×Ob)}{nx:Nat}{body:Code}{K:List Fr}(ih:nY P n l0 body (FF p nx) (oB P n l0 K Q))
 (h:WN l0 τ nx p (kK P n sc c)=some (p,vp sc):=by kernel_rfl) (hc:WO (kK P n sc c)=some (body,K):=by kernel_rfl):dX P n l0 Q c:=by
 generalize hr:kK P n sc c=r at*
 match r,h,hc with
 |some (.back x K' s,C),h,hc=>
  simp only[WO,qb,qD] at hc;obtain⟨rfl,rfl⟩:=hc;simp only[WN] at h;split at h
  ·rename_i p' hp;simp only[qb,qD] at h;obtain⟨rfl,rfl⟩:=h;exact DY hr (wX sc) (fun hm hQ=>nY.weaken (Le.nX hp) ih)
  cases h
abbrev FG:=Bf
theorem x6Q{rv:List ResultVar}{res:aJ}{l1:List (Nat×Ob)}:DW n l0 (FG P n l0 rv res l1):=fun _ _ _ h k=>Bf.le h k
def w2u(P:Program)(rv:List ResultVar)(sl:List (Nat×aJ))(l:List (Nat×Ob)):Option aJ:=Ip P rv sl (app emp l)
def Qq:List ResultVar->List Nat
 | []=>[]
 | .tmp t::l=>t::Qq l
 | .cell t _::l=>t::Qq l
def Bl:List (Nat×Ob)->Nat
 | []=>0
 | (i,_)::l=>bif Nat.blt i (Bl l) then Bl l else i+1
def IA:List (Nat×Nat)->Nat
 | []=>0
 | (_,i)::l=>bif Nat.blt i (IA l) then IA l else i+1
def FH:Exit->Bool
 | .ret=>true
 | .normal=>true
 |_=>false
def Qr(P:Program)(l0:List (Nat×Ob))(τ:List (Nat×Nat))(rv:List ResultVar):Option (At×List Prop)->Option (aJ×List (Nat×Ob)×List Prop)
 |some (.fin e s,C)=>bif FH e then match DL l0 τ (Qq rv) (IA τ) s with
  |some (sl,l)=>match w2u P rv sl l with
   |some r=>some (r,l,C)
   |none=>none
  |none=>none
  else none
 |_=>none
theorem WQ{e:Exit}(h:FH e=true):e= .ret\/e= .normal:=by cases e<;>simp[FH] at h|-
theorem dX.aG{c:r9}{rv:List ResultVar}{res:aJ}{l1:List (Nat×Ob)}{β:Type}(sc:List It)(τ:List (Nat×Nat))(R:β->aJ×List (Nat×Ob))(x y:β)(e:y=x)
 (h:Qr P l0 τ rv (kK P n sc c)=some ((R x).1,(R x).2,vp sc):=by kernel_rfl) (hR:R y=(res,l1):=by kernel_rfl):dX P n l0 (FG P n l0 rv res l1) c:=by
 subst e;rw[hR] at h;generalize hr:kK P n sc c=r at*
 match r,h with
 |some (.fin e s,C),h=>
  simp only[Qr] at h;cases he:FH e with
  |false=>rw[he] at h;cases h
  |true=>
   rw[he] at h;simp only[cond_true] at h;split at h
   ·rename_i sl l hs;split at h
    ·rename_i r rA;simp only[qb,qD] at h;obtain⟨rfl,rfl,rfl⟩:=h;exact DY hr (wX sc) (fun hm hQ=>Bf.here (WQ he) (Le.nX hs) rfl rA)
    cases h
   cases h
theorem dX.fin{c:r9}{rv:List ResultVar}{res:aJ}{l1:List (Nat×Ob)}(sc:List It)(τ:List (Nat×Nat))(h:Qr P l0 τ rv (kK P n sc c)=some (res,l1,vp sc):=by kernel_rfl):dX P n l0 (FG P n l0 rv res l1) c:=
 dX.aG sc τ (fun z=>z) (res,l1) (res,l1) rfl h rfl
def IB(s:St):List wV->Option (St×List Prop)
 | []=>some (s,[])
 |x::l=>match sH s x with
  |some (s',C)=>match IB s' l with
   |some (s2,C2)=>some (s2,DV C C2)
   |none=>none
  |none=>none
def Lh:List wV->List Prop
 | []=>[]
 |x::l=>DV (Qh x) (Lh l)
theorem WR:∀l:List wV,b8 (Lh l)
 | []=>trivial
 |x::l=>Ld (WE x) (WR l)
theorem Qs:∀{l t:List Prop},b8 (DV l t)->b8 l/\b8 t
 | [],_,h=>⟨trivial,h⟩
 |_::_,_,h=>⟨⟨h.1,(Qs h.2).1⟩,(Qs h.2).2⟩
theorem WS:∀{l:List wV} {s s':St} {C:List Prop},IB s l=some (s',C)->b8 C->Le n l0 s s'
 | [],s,s',C,h,_=>by
  simp only[IB,qb,qD] at h;obtain⟨rfl,rfl⟩:=h;exact Le.refl _
 |x::l,s,s',C,h,hC=>by
  simp only[IB] at h;split at h
  ·rename_i s1 C1 h1;split at h
   ·rename_i s2 C2 h2;simp only[qb,qD] at h;obtain⟨rfl,rfl⟩:=h;obtain⟨q1,q2⟩:=Qs hC;exact Le.trans (WA h1 q1) (WS h2 q2)
   cases h
  cases h
def Qt(P:Program)(l0:List (Nat×Ob))(Bm:List wV)(τ:List (Nat×Nat))(rv:List ResultVar):Option (At×List Prop)->Option (aJ×List (Nat×Ob)×List Prop×List Prop)
 |some (.fin e s,C)=>bif FH e then match Ip P rv s.sl s.st with
  |some r0=>match IB ⟨[(0,r0)],s.st,s.nx⟩ Bm with
   |some (s2,D)=>match DL l0 τ [0] (IA τ) s2 with
    |some (sl,l)=>some (get sl 0,l,C,D)
    |none=>none
   |none=>none
  |none=>none
  else none
 |_=>none
theorem dX.bA{c:r9}{rv:List ResultVar}{res:aJ}{l1:List (Nat×Ob)}{β:Type}(sc:List It)(Bm:List wV)(τ:List (Nat×Nat))(R:β->aJ×List (Nat×Ob))(x y:β)(e:y=x)
 (h:Qt P l0 Bm τ rv (kK P n sc c)=some ((R x).1,(R x).2,vp sc,Lh Bm):=by kernel_rfl) (hR:R y=(res,l1):=by kernel_rfl):dX P n l0 (FG P n l0 rv res l1) c:=by
 subst e;rw[hR] at h;generalize hr:kK P n sc c=r at*
 match r,h with
 |some (.fin e s,C),h=>
  simp only[Qt] at h;cases he:FH e with
  |false=>rw[he] at h;cases h
  |true=>
   rw[he] at h;simp only[cond_true] at h;split at h
   ·rename_i r0 hr0;split at h
    ·rename_i s2 D hD;split at h
     ·rename_i sl l hs;simp only[qb,qD] at h;obtain⟨rfl,rfl,rfl,rfl⟩:=h;exact DY hr (wX sc) (fun hm hQ=>⟨WQ he,s,r0,⟨sl,app emp l,IA τ⟩,Le.refl _,hr0,Le.trans (WS hD (WR Bm)) (Le.nX hs),rfl,rfl⟩)
     cases h
    cases h
   cases h
theorem dX.Qu{c:r9}{rv:List ResultVar}{res:aJ}{l1:List (Nat×Ob)}(sc:List It)(Bm:List wV)(τ:List (Nat×Nat))(h:Qt P l0 Bm τ rv (kK P n sc c)=some (res,l1,vp sc,Lh Bm):=by kernel_rfl):dX P n l0 (FG P n l0 rv res l1) c:=
 dX.bA sc Bm τ (fun z=>z) (res,l1) (res,l1) rfl h rfl
theorem dX.at{c:r9}(nx:Nat)(τ:List (Nat×Nat))(p:List (Nat×aJ)×List (Nat×Ob))(k:dX P n l0 Q ⟨c.o4,c.K,FF p nx⟩)(h:DL l0 τ (Lg p.1) nx c.s=some p:=by kernel_rfl):dX P n l0 Q c:=
 ⟨fun hm hQ=>Wx hQ (Le.nX h) (k.run hm hQ)⟩
theorem dX.len{x:Code}{K:List Fr}{s:St}{α:Type}(t:Nat){k:Nat}{f:α->Tree}{l:List α}(h:l.length<=9223372036854775807->dX P n l0 Q ⟨.run x,K,s⟩)(hg:get s.sl t=VL k f l:=by rfl):dX P n l0 Q ⟨.run x,K,s⟩:=
 ⟨fun hm hQ=>gm.len (t:=t) (k:=k) (xs:=l.map f) hg (fun hl=>(h (by simpa using hl)).run hm hQ)⟩
def Qv(fn:Func):Code:=fn.body.getD default
theorem FC.go{f:FuncId}{args:List aJ}{res:aJ}{l1:List (Nat×Ob)}(fn:Func)(h:dX P fn.ntmps l0 (FG P fn.ntmps l0 fn.results.toList res l1) ⟨.run (Qv fn),[],⟨DP 0 args,app emp l0,Bl l0⟩⟩)
 (hf:P.funcs[f]? =some fn:=by kernel_rfl) (hn:((args.length).ble fn.ntmps&&fn.body.isSome)=true:=by kernel_rfl) (hm:P.follows .mixedOrders=true:=by kernel_rfl):FC P f args (app emp l0) res (app emp l1):=by
 simp only[qq] at hn;obtain⟨c,hb⟩:=zn.1 hn.2;have hc:Qv fn=c:=by unfold Qv;rw[hb];rfl
 have hx:∀l:List (Nat×Ob),l.all (fun x=>Nat.blt x.1 (Bl l))=true:=by
  have key:∀l:List (Nat×Ob),∀x∈l,x.1<Bl l:=by
   intro l;induction l with
   |nil=>intro x h;simp at h
   |cons y l ih=>
    intro x hx;obtain⟨i,o⟩:=y;simp only[Bl];cases hh:Nat.blt i (Bl l) with
    |true=>
     have:=ze (qy hh);rcases qg.1 hx with rfl|hx
     ·exact this
     exact ih x hx
    |false=>
     rcases qg.1 hx with rfl|hx
     ·exact Nat.lt_succ_self _
     have h1:=ih x hx;have h2:¬(i<Bl l):=fun h=>by rw[show Nat.blt i (Bl l)=true from zM h] at hh;cases hh
     simp only[cond_false];omega
  intro l;exact qS.2 fun x hx=>zM (key l x hx)
 have h:=h.run hm x6Q;simp only[FD,oB,hc] at h;exact FC.Bg hf hb hn.1 (hx l0) h
end Go.Ab
end
section
namespace Go.Ab
open Go
variable {P:Program}
structure Px(p:Prop) where
 o:eW
 cs:List Prop
 h:p->b8 cs
def Qw(e:Bool):List Prop->List Prop
 | []=>[]
 |p::l=>(e=true->p)::Qw e l
theorem WT{e:Bool}:∀{l:List Prop},(e=true->b8 l)->b8 (Qw e l)
 | [],_=>trivial
 |p::l,h=>⟨fun he=>(h he).1,WT fun he=>(h he).2⟩
def X{p:Prop}(x:Px p)(h:p:=by first|with_reducible exact True.intro|omega| (and_intros<;>first|omega|with_reducible rfl|with_reducible assumption|with_reducible exact True.intro| (simp only[qj];omega)| (simp[-List.getD_eq_getElem?_getD];omega)| (simp;omega)| (simp;done))):Ox:=⟨x.o,x.cs,x.h h⟩
def oV(v:aJ):eW:=⟨some v,none,none,none,[]⟩
def oE(x:Tree):eW:=⟨none,none,some x,none,[]⟩
def Xc(p:Prop):Px p:=⟨eW.no,[p],fun h=>⟨h,trivial⟩⟩
def X0:Px True:=⟨eW.no,[],fun _=>trivial⟩
def Xa{p q:Prop}(x:Px p)(y:Px q):Px (p/\q):=⟨y.o,x.cs++y.cs,fun h=>Ix.2 ⟨x.h h.1,y.h h.2⟩⟩
def Xn(a:Int):Px (-9223372036854775808<=a/\a<=9223372036854775807):=⟨oV (VI a),[jA (VI (IntKind.i64.wrap a)) (VI a)],fun h=>⟨jA.of_eq (nw h),trivial⟩⟩
def Li(a b:Int):Px True:=⟨oV (VI (max a b)),[jA (VI (if b>a then b else a)) (VI (max a b))],fun _=>⟨jA.of_eq x84,trivial⟩⟩
def vq(a b:Int):Px True:=⟨oV (VI (min a b)),[jA (VI (if b<a then b else a)) (VI (min a b))],fun _=>⟨jA.of_eq x85,trivial⟩⟩
def Xl{α:Type}(f:α->Tree)(l:List α):Px True:=⟨oV (VI (l.length:Int)),[jA (VI ((l.map f).length:Int)) (VI (l.length:Int))],fun _=>⟨jA.of_eq x6K,trivial⟩⟩
def Xi{α:Type}[Inhabited α](f:α->Tree)(l:List α)(j:Int):Px (0<=j/\j< (l.length:Int)):=
 ⟨oE (f (l.getD j.toNat default)),[0<=j,(l.map f)[j.toNat]? =some (f (l.getD j.toNat default))],fun h=>⟨h.1,x6J h.1 h.2,trivial⟩⟩
def yV{α:Type}[Inhabited α](f:α->Tree)(l:List α)(j:Int)(k:Nat):Px (j=(k:Int)/\k<l.length):=
 ⟨oE (f (l.getD k default)),[0<=j,(l.map f)[j.toNat]? =some (f (l.getD k default))],fun h=>⟨oM,x3J h.1 h.2,trivial⟩⟩
def Xp{α:Type}(f:α->Tree)(o:List α)(j:Int):Px (0<=j/\j< (o.length:Int)):=
 ⟨eW.no,[o.length=(o.map f).length,0<=j,j< (o.length:Int)],fun h=>⟨qj _|>.symm,h.1,h.2,trivial⟩⟩
def DZ{α:Type}(f:α->Tree)(id:Nat)(o:List α)(j:Int)(k:Nat):Px (j=(k:Int)/\k<o.length):=
 ⟨oV (.cM id o.length k 0),[o.length=(o.map f).length,0<=j,j< (o.length:Int),jA (.cM id o.length j.toNat 0) (.cM id o.length k 0)],
  fun h=>⟨qj _|>.symm,oM,oM,jA.of_eq (x6L oM),trivial⟩⟩
def Xe{α:Type}[Inhabited α](f:α->Tree)(o:List α)(i:Nat):Px (i<o.length):=
 ⟨oE (f (o.getD i default)),[o.length=(o.map f).length,(o.map f)[i]? =some (f (o.getD i default))],fun h=>⟨qj _|>.symm,La h,trivial⟩⟩
def Xs{α:Type}[Inhabited α](k:Nat)(f:α->Tree)(id:Nat)(o:List α)(i:Nat)(x:α)(g:List (Nat×Ob):=[]):Px (i<o.length):=
 ⟨⟨none,some (g++[(id,.aF k false ((o.set i x).map f))]),some (f (o.getD i default)),none,[]⟩,
  [o.length=(o.map f).length,(o.map f)[i]? =some (f (o.getD i default)),g++[(id,Ob.aF k false ((o.set i x).map f))]=g++[(id,Ob.aF k false ((o.map f).set i (f x)))]],
  fun h=>⟨qj _|>.symm,La h,by rw[Wt rfl],trivial⟩⟩
def Xst{α:Type}(f:α->Tree)(k:Nat)(l:List α)(hi:Int):Px (0<=hi/\hi<=(l.length:Int)):=
 ⟨oV (VL k f (l.take hi.toNat)),[0<=hi,hi<=(((l.map f).length:Nat):Int),jA (.t (.bX k ((l.map f).take hi.toNat))) (VL k f (l.take hi.toNat))],fun h=>⟨h.1,by rw[qj];exact h.2,jA.of_eq x6N,trivial⟩⟩
def y7{α:Type}(f:α->Tree)(k:Nat)(l:List α)(lo:Int):Px (0<=lo/\lo<=(l.length:Int)):=
 ⟨oV (VL k f (l.drop lo.toNat)),[0<=lo,lo<=(((l.map f).length:Nat):Int),jA (.t (.bX k ((l.map f).drop lo.toNat))) (VL k f (l.drop lo.toNat))],fun h=>⟨h.1,by rw[qj];exact h.2,jA.of_eq x6M,trivial⟩⟩
def Qx{α:Type}(f:α->Tree)(k:Nat)(l:List α)(lo hi:Int):Px (0<=lo/\lo<=hi/\hi<=(l.length:Int)):=
 ⟨oV (VL k f ((l.take hi.toNat).drop lo.toNat)),[0<=lo,lo<=hi,hi<=(((l.map f).length:Nat):Int),jA (.t (.bX k (((l.map f).take hi.toNat).drop lo.toNat))) (VL k f ((l.take hi.toNat).drop lo.toNat))],
  fun h=>⟨h.1,h.2.1,by rw[qj];exact h.2.2,jA.of_eq x6O,trivial⟩⟩
def cg{p:Prop}{α:Type}(f:α->Tree)(o:List α)(x:Px p):Px p:=⟨x.o,(o.length=(o.map f).length)::x.cs,fun h=>⟨qj _|>.symm,x.h h⟩⟩
theorem lm{α:Type}{n:Nat}{f:α->Tree}{o:List α}(h:n=o.length:=by first|with_reducible rfl|omega| (simp;done)| (simp[-List.getD_eq_getElem?_getD];omega)| (simp;omega)):n=(o.map f).length:=by rw[qj];exact h
def Qy{p:Prop}{α:Type}(n:Nat)(f:α->Tree)(o:List α)(x:Px p)(h:n=o.length:=by first|omega| (simp;done)| (simp[-List.getD_eq_getElem?_getD];omega)| (simp;omega)):Px p:=⟨x.o,(n=(o.map f).length)::x.cs,fun hp=>⟨by rw[qj];exact h,x.h hp⟩⟩
def CB{α:Type}[Inhabited α](n:Nat)(f:α->Tree)(o:List α)(i:Nat):Px (n=o.length/\i<o.length):=
 ⟨oE (f (o.getD i default)),[n=(o.map f).length,(o.map f)[i]? =some (f (o.getD i default))],fun h=>⟨by rw[qj];exact h.1,La h.2,trivial⟩⟩
def nr{α:Type}(n:Nat)(f:α->Tree)(o:List α)(j:Int):Px (n=o.length/\0<=j/\j< (n:Int)):=
 ⟨eW.no,[n=(o.map f).length,0<=j,j< (n:Int)],fun h=>⟨by rw[qj];exact h.1,h.2.1,h.2.2,trivial⟩⟩
def tE{α:Type}[Inhabited α](n k:Nat)(f:α->Tree)(id:Nat)(o:List α)(i:Nat)(x:α)(g:List (Nat×Ob):=[]):Px (n=o.length/\i<o.length):=
 ⟨⟨none,some (g++[(id,.aF k false ((o.set i x).map f))]),some (f (o.getD i default)),none,[]⟩,
  [n=(o.map f).length,(o.map f)[i]? =some (f (o.getD i default)),g++[(id,Ob.aF k false ((o.set i x).map f))]=g++[(id,Ob.aF k false ((o.map f).set i (f x)))]],
  fun h=>⟨by rw[qj];exact h.1,La h.2,by rw[Wt rfl],trivial⟩⟩
def Xb(s:ByteArray)(j:Int):Px (0<=j/\j< (s.size:Int)):=⟨eW.no,[0<=j,j< (s.size:Int)],fun h=>⟨h.1,h.2,trivial⟩⟩
def o5{α:Type}(f:α->Tree)(id:Nat)(ys:List α):Px (ys.length<=1099511627776):=
 ⟨oV (.aF id ys.length),[(ys.map f).length<=1099511627776,jA (.aF id (ys.map f).length) (.aF id ys.length)],fun h=>⟨by rw[qj];exact h,jA.of_eq (by rw[qj]),trivial⟩⟩
def fK{α:Type}(k:Nat)(f:α->Tree)(id:Nat)(o ys:List α):Px (o.length+ys.length<=1099511627776):=
 ⟨⟨some (.aF id (o++ys).length),some [(id,.aF k false ((o++ys).map f))],none,none,[]⟩,
  [o.length=(o.map f).length,o.length+(ys.map f).length<=1099511627776,jA (.aF id (o.length+(ys.map f).length)) (.aF id (o++ys).length),[(id,Ob.aF k false ((o++ys).map f))]=[(id,Ob.aF k false (o.map f++ys.map f))]],
  fun h=>⟨qj _|>.symm,by rw[qj];exact h,jA.of_eq sM,Ws rfl,trivial⟩⟩
def Ks{α:Type}(k:Nat)(f:α->Tree)(id:Nat)(o ys:List α):Px (o.length+ys.length<=8589934592):=
 ⟨⟨some (.aF id (o++ys).length),some [(id,.aF k false ((o++ys).map f))],none,none,[]⟩,
  [o.length=(o.map f).length,o.length+(ys.map f).length<=8589934592,jA (.aF id (o.length+(ys.map f).length)) (.aF id (o++ys).length),[(id,Ob.aF k false ((o++ys).map f))]=[(id,Ob.aF k false (o.map f++ys.map f))]],
  fun h=>⟨qj _|>.symm,by rw[qj];exact h,jA.of_eq sM,Ws rfl,trivial⟩⟩
def Qz{α:Type}(k:Nat)(f:α->Tree)(id:Nat)(n m:Int)(z:α):Px (0<=n/\n<=m/\m<=1099511627776):=
 ⟨⟨none,some [(id,.aF k false ((List.replicate n.toNat z).map f))],none,none,[]⟩,[0<=n,n<=m,m<=1099511627776,[(id,Ob.aF k false ((List.replicate n.toNat z).map f))]=[(id,Ob.aF k false (List.replicate n.toNat (f z)))]],
  fun h=>⟨h.1,h.2.1,h.2.2,by rw[List.map_replicate],trivial⟩⟩
def IC{α:Type}(k:Nat)(f:α->Tree)(id:Nat)(n m:Int)(z:α)(zs:List Tree)(hz:yM zs (f z).cells):Px (0<=n/\n<=m/\m<=1099511627776):=
 ⟨⟨none,some [(id,.aF k false ((List.replicate n.toNat z).map f))],some (f z),none,[]⟩,[0<=n,n<=m,m<=1099511627776,yM zs (f z).cells,[(id,Ob.aF k false ((List.replicate n.toNat z).map f))]=[(id,Ob.aF k false (List.replicate n.toNat (f z)))]],
  fun h=>⟨h.1,h.2.1,h.2.2,hz,by rw[List.map_replicate],trivial⟩⟩
def WU{α:Type}(k:Nat)(f:α->Tree)(id:Nat)(n m:Int)(z:α)(zs:List Tree)(hz:yM zs (f z).cells):Px (0<=n/\n<=m/\m<=8589934592):=
 ⟨⟨none,some [(id,.aF k false ((List.replicate n.toNat z).map f))],some (f z),none,[]⟩,[0<=n,n<=m,m<=8589934592,yM zs (f z).cells,[(id,Ob.aF k false ((List.replicate n.toNat z).map f))]=[(id,Ob.aF k false (List.replicate n.toNat (f z)))]],
  fun h=>⟨h.1,h.2.1,h.2.2,hz,by rw[List.map_replicate],trivial⟩⟩
def w2v:Px True:=⟨⟨none,none,some (.sc (.bool true)),none,[]⟩,[],fun _=>trivial⟩
def Xf(l:List (Nat×Nat)):Px True:=⟨⟨none,none,none,none,l⟩,[],fun _=>trivial⟩
def Uq{α:Type}(f:α->Tree)(n:Nat)(o:List α)(l:Int):Px (n=o.length/\0<=l/\l<=(n:Int)):=
 ⟨⟨none,none,none,none,[(0,0)]⟩,[n=(o.map f).length,0<=l,l<=(n:Int)],fun h=>⟨by rw[qj];exact h.1,h.2.1,h.2.2,trivial⟩⟩
def w2w{α:Type}(f:α->Tree)(n i:Nat)(o:List α):Px (n=o.length/\i<=n):=⟨eW.no,[n=(o.map f).length,i<=n],fun h=>⟨by rw[qj];exact h.1,h.2,trivial⟩⟩
theorem x86{α:Type}{f:α->Tree}{n i:Nat}{o:List α}{X:Tree}{h:Int}(e1:h.toNat=i)(e2:i<=o.length):((o.map f).take i++List.replicate (n-i) X).take h.toNat=(o.take i).map f:=by
 rw[e1,jj (by simp;omega),List.take_take,Nat.min_self,List.map_take]
def w0G{α:Type}(f:α->Tree)(k id bf n i:Nat)(o:List α)(X:Tree)(h:Int):Px (n=o.length/\0<=h/\h<=(n:Int)/\h.toNat=i/\i<=n):=
 ⟨⟨some (.aF bf (o.take i).length),some [(id,.gone),(bf,.aF k false ((o.take i).map f))],none,none,[(0,0)]⟩,
  [n=((o.map f).take i++List.replicate (n-i) X).length,0<=h,h<=(n:Int),jA (.aF bf h.toNat) (.aF bf (o.take i).length),[(id,Ob.gone),(bf,.aF k false ((o.take i).map f))]=[(id,Ob.gone),(bf,.aF k false (((o.map f).take i++List.replicate (n-i) X).take h.toNat))]],
  fun p=>⟨by simp;omega,p.2.1,p.2.2.1,jA.of_eq (by rw[qz];congr 1;omega),by rw[x86 p.2.2.2.1 oM],trivial⟩⟩
def QA{α:Type}(f:α->Tree)(l:List α):Px (l≠[]):=⟨⟨none,none,none,none,[(0,0)]⟩,[(l.map f).length≠0],fun h=>⟨fun e=>h (qZ.1 (by rwa [qj] at e)),trivial⟩⟩
def QB(e:Bool):Nat->List Prop->List Prop
 |0,l=>l
 |k+1,l=>(e=true)::QB e k l
theorem WV{e:Bool}(he:e=true){l:List Prop}(h:b8 l):∀k,b8 (QB e k l)
 |0=>h
 |k+1=>⟨he,WV he h k⟩
def Xv{p:Prop}(k:Nat)(e:Bool)(x:Px p)(h:e=true->p:=by first| (intro _;with_reducible exact True.intro)| (intro hg;(try simp[-List.getD_eq_getElem?_getD] at hg);first|omega| (and_intros<;>first|omega|with_reducible rfl|with_reducible assumption|with_reducible exact True.intro| (simp only[qj];omega)| (simp[-List.getD_eq_getElem?_getD];omega)| (simp;omega)| (simp[hg];done)))):Ox:=
 ⟨x.o,Qw e (QB e k x.cs),WT fun he=>WV he (x.h (h he)) k⟩
def Xk(g:Bool):Px True:=⟨eW.no,[g=true->g=true],fun _=>⟨id,trivial⟩⟩
def b7(g:Bool):Px True:=⟨eW.no,[g=false->(!g)=true],fun _=>⟨fun h=>by simp[h],trivial⟩⟩
def kH(e g:Bool):Ox:=⟨eW.no,[e=true->e=true,e=true->g=true->(e&&g)=true],⟨id,fun h k=>by rw[h,k];rfl,trivial⟩⟩
def x5(e g:Bool):Ox:=⟨eW.no,[e=true->e=true,e=true->g=false->(e&& !g)=true],⟨id,fun h k=>by rw[h,k];rfl,trivial⟩⟩
theorem FC.nil{f:FuncId}{args:List aJ}{res:aJ}{st st':bQ}(i k:Nat)(h:FC P f args st res st')(hi:args[i]? =some (.t (.bX k [])):=by kernel_rfl)(hk:Nat.blt 0 k=true:=by kernel_rfl):FC P f (args.set i VN) st res st':=by
 intro F m w us hS hl hv;refine h F m w us hS (by simpa using hl) (fun j v u hj hu=> ?_);by_cases e:i=j
 ·subst e;rw[hi] at hj;cases hj;have fQ:=(qA.1 hi).1;have:=hv i VN u (by simp[fQ]) hu;exact Wq (ze (qy hk)) _ _ _ _ _ this
 exact hv j v u (by rw[List.getElem?_set_ne e];exact hj) hu
def aW{p:Prop}{f:FuncId}{args:List aJ}{res:aJ}(h:FC P f args emp res emp)(x:Px p)(hc:td P f=true:=by kernel_rfl):Px p:=
 ⟨⟨none,none,none,some ⟨0,[],res,[]⟩,[]⟩,(td P f=true)::(x.cs++[FC P f args emp res emp]),fun hp=>⟨hc,Ix.2 ⟨x.h hp,h,trivial⟩⟩⟩
def tF:Nat->List (Nat×Ob)->List (Nat×Nat)->List (Nat×Nat)
 |_,[],_=>[]
 |bf,(i,_)::l,τ=>match lk τ i with
  |some _=>tF bf l τ
  |none=>(i,bf)::tF (bf+1) l τ
def gP{α:Type}(o:Option (List α)):List α:=o.getD []
def Bn(o:Option aJ):aJ:=o.getD .cH
def QC(τ:List (Nat×Nat))(res:aJ)(l1:List (Nat×Ob)):Bool:=z24 (τ.map (·.1))&&z24 (τ.map (·.2))&&(jH τ (app emp l1) τ).isSome&&(iq τ res).isSome
theorem y3G{args:List aJ}(h:mP [] args=some args):mP (inv []) args=some args:=h
theorem FC.fresh{f:FuncId}{args:List aJ}{res:aJ}{l1:List (Nat×Ob)}(τ:List (Nat×Nat))(h:FC P f args emp res (app emp l1))(ha:mP [] args=some args)(hk:QC τ res l1=true):
 FC P f args emp (Bn (iq τ res)) (app emp (gP (jH τ (app emp l1) τ))):=by
 simp only[QC,qq] at hk;obtain⟨⟨⟨k1,k2⟩,k3⟩,k4⟩:=hk;obtain⟨l',e3⟩:=zn.1 k3;obtain⟨r',e4⟩:=zn.1 k4;refine FC.nX (l0:=[]) (Ik:=[]) h [] τ (by simp[z24,k1,k2]) rfl (y3G ha) rfl ?_ ?_
 ·rw[e3];rfl
 rw[e4];rfl
def bV{p:Prop}{f:FuncId}{args:List aJ}{res:aJ}{l1:List (Nat×Ob)}(bf:Nat)(h:FC P f args emp res (app emp l1))(x:Px p)(ha:mP [] args=some args:=by kernel_rfl)
 (hk:QC (tF bf l1 []) res l1=true:=by kernel_rfl) (hc:td P f=true:=by kernel_rfl):Px p:=
 ⟨⟨none,none,none,some ⟨1,[],Bn (iq (tF bf l1 []) res),gP (jH (tF bf l1 []) (app emp l1) (tF bf l1 []))⟩,[]⟩,
  (td P f=true)::(x.cs++[FC P f args emp (Bn (iq (tF bf l1 []) res)) (app emp (gP (jH (tF bf l1 []) (app emp l1) (tF bf l1 []))))]),
  fun hp=>⟨hc,Ix.2 ⟨x.h hp,FC.fresh _ h ha hk,trivial⟩⟩⟩
def QD:List (Nat×Nat)->List Nat
 | []=>[]
 | (_,j)::l=>j::QD l
def FI(τ0 τ:List (Nat×Nat))(args:List aJ)(l0:List (Nat×Ob))(res:aJ)(l1:List (Nat×Ob)):Bool:=
 (z24 (τ0.map (·.1))&&z24 (τ0.map (·.2))&&z24 (τ.map (·.1))&&z24 (τ.map (·.2))&&τ0.all (fun p=>match lk τ p.1 with|some j=>Nat.beq j p.2|none=>false))&&
  (gP (jH τ0 (app emp l0) τ0)).all (fun x=>lN (τ0.map (·.2)) x.1)&&(jH τ (app emp l1) τ).isSome&&(iq τ res).isSome&&
  (gP (jH τ0 (app emp l0) τ0)).all (fun x=>lN ((gP (jH τ (app emp l1) τ)).map (·.1)) x.1)
theorem WW{a b:List (Nat×Ob)}(h:∀x∈a,x.1∈b.map (·.1)):app (app emp a) b=app emp b:=by
 funext i;by_cases hi:i∈b.map (·.1)
 ·exact Kh (.inl hi)
 rw[tv hi,tv hi];refine tv (fun hm=> ?_);obtain⟨x,hx,rfl⟩:=qO.1 hm;exact hi (h x hx)
theorem FC.obj{f:FuncId}{args:List aJ}{res:aJ}{l0 l1:List (Nat×Ob)}(τ0 τ:List (Nat×Nat))(h:FC P f args (app emp l0) res (app emp l1))(hk:FI τ0 τ args l0 res l1=true)
 (h0:jH (inv τ0) (app emp (gP (jH τ0 (app emp l0) τ0))) (inv τ0)=some l0) (ha:mP (inv τ0) (gP (mP τ0 args))=some args):
 FC P f (gP (mP τ0 args)) (app emp (gP (jH τ0 (app emp l0) τ0))) (Bn (iq τ res)) (app (app emp (gP (jH τ0 (app emp l0) τ0))) (gP (jH τ (app emp l1) τ))):=by
 simp only[FI,qq] at hk;obtain⟨⟨⟨⟨k1,k2⟩,k3⟩,k4⟩,k5⟩:=hk;obtain⟨l',e3⟩:=zn.1 k3;obtain⟨r',e4⟩:=zn.1 k4;rw[WW (fun x hx=>pS.1 (qS.1 k5 x hx))];refine FC.nX h τ0 τ (by simp only[qq];exact k1) h0 ha k2 ?_ ?_
 ·rw[e3];rfl
 rw[e4];rfl
def dV{p:Prop}{f:FuncId}{args:List aJ}{res:aJ}{l0 l1:List (Nat×Ob)}(bf:Nat)(τ0:List (Nat×Nat))(h:FC P f args (app emp l0) res (app emp l1))(x:Px p)
 (hk:FI τ0 (τ0++tF bf l1 τ0) args l0 res l1=true:=by kernel_rfl)
 (h0:jH (inv τ0) (app emp (gP (jH τ0 (app emp l0) τ0))) (inv τ0)=some l0:=by kernel_rfl) (ha:mP (inv τ0) (gP (mP τ0 args))=some args:=by kernel_rfl) (hc:td P f=true:=by kernel_rfl):Px p:=
 ⟨⟨none,none,none,some ⟨3,QD τ0,Bn (iq (τ0++tF bf l1 τ0) res),gP (jH (τ0++tF bf l1 τ0) (app emp l1) (τ0++tF bf l1 τ0))⟩,[]⟩,
  [td P f=true,FC P f (gP (mP τ0 args)) (app emp (gP (jH τ0 (app emp l0) τ0))) (Bn (iq (τ0++tF bf l1 τ0) res)) (app (app emp (gP (jH τ0 (app emp l0) τ0))) (gP (jH (τ0++tF bf l1 τ0) (app emp l1) (τ0++tF bf l1 τ0))))],
  fun hp=>⟨hc,FC.obj _ _ h hk h0 ha,trivial⟩⟩
theorem FC.QE{f:FuncId}{args:List aJ}{res:aJ}{l0:List (Nat×Ob)}(τ0:List (Nat×Nat))(h:FC P f args (app emp l0) res (app emp l0))(hk:FI τ0 τ0 args l0 res l0=true)
 (h0:jH (inv τ0) (app emp (gP (jH τ0 (app emp l0) τ0))) (inv τ0)=some l0) (ha:mP (inv τ0) (gP (mP τ0 args))=some args):
 FC P f (gP (mP τ0 args)) (app emp (gP (jH τ0 (app emp l0) τ0))) (Bn (iq τ0 res)) (app (app emp (gP (jH τ0 (app emp l0) τ0))) []):=by
 have:=FC.obj τ0 τ0 h hk h0 ha;simp only[FI,qq] at hk;rw[WW (fun x hx=>pS.1 (qS.1 hk.2 x hx))] at this;exact this
def gB{p:Prop}{f:FuncId}{args:List aJ}{res:aJ}{l0:List (Nat×Ob)}(τ0:List (Nat×Nat))(h:FC P f args (app emp l0) res (app emp l0))(x:Px p)
 (hk:FI τ0 τ0 args l0 res l0=true:=by kernel_rfl)
 (h0:jH (inv τ0) (app emp (gP (jH τ0 (app emp l0) τ0))) (inv τ0)=some l0:=by kernel_rfl) (ha:mP (inv τ0) (gP (mP τ0 args))=some args:=by kernel_rfl) (hc:td P f=true:=by kernel_rfl):Px p:=
 ⟨⟨none,none,none,some ⟨3,QD τ0,Bn (iq τ0 res),[]⟩,[]⟩,
  [td P f=true,FC P f (gP (mP τ0 args)) (app emp (gP (jH τ0 (app emp l0) τ0))) (Bn (iq τ0 res)) (app (app emp (gP (jH τ0 (app emp l0) τ0))) [])],
  fun hp=>⟨hc,FC.QE _ h hk h0 ha,trivial⟩⟩
theorem pr{α β:Type}{a b:α}{c d:β}(h:a=b)(k:c=d):(a,c)=(b,d):=by rw[h,k]
theorem x3R{z:Int}(h:0<=z/\z<=2147483647):IntKind.i32.wrap z=z:=by unfold IntKind.wrap;simp[IntKind.bits,IntKind.signed];omega
def Lj(k:IntKind)(z:Int):Px (k.wrap z=z):=⟨oV (.t (.sc (.int k z))),[jA (.t (.sc (.int k (k.wrap z)))) (.t (.sc (.int k z)))],fun h=>⟨jA.of_eq (by rw[h]),trivial⟩⟩
def w2x(k:IntKind)(y z:Int):Px (y=z):=⟨oV (.t (.sc (.int k z))),[jA (.t (.sc (.int k y))) (.t (.sc (.int k z)))],fun h=>⟨jA.of_eq (by rw[h]),trivial⟩⟩
def Ll(k:IntKind)(b y z:Int):Px (0<=b/\y=z):=⟨oV (.t (.sc (.int k z))),[0<=b,jA (.t (.sc (.int k y))) (.t (.sc (.int k z)))],fun h=>⟨h.1,jA.of_eq (by rw[h.2]),trivial⟩⟩
end Go.Ab
end
section
namespace Go.Ch
open Go Go.Ab
structure aI where
 name:ByteArray
 val:ByteArray
abbrev mt:ByteArray:={data:=#[]}
instance:Inhabited aI:=⟨⟨mt,mt⟩⟩
def aS(a:aI):Tree:= .agg [.sc (.string a.name),.sc (.string a.val)]
theorem WX{a b:ByteArray}(h:a.toList=b.toList):a=b:=by
 rw[ByteArray.toList_eq,ByteArray.toList_eq] at h;obtain⟨⟨x⟩⟩:=a;obtain⟨⟨y⟩⟩:=b;simpa using h
theorem kj{a b:ByteArray}:seq a b=true↔a=b:=by
 unfold seq;rw[beq_iff_eq];exact⟨WX,fun h=>by rw[h]⟩
theorem nZ{a b:ByteArray}:seq a b=false↔a≠b:=by
 rw[<-Bool.not_eq_true,kj]
theorem WY:∀x:List UInt8,Op.bytesLess x x=false
 | []=>rfl
 |a::x=>by simp[Op.bytesLess,WY x]
theorem WZ:∀x y z:List UInt8,Op.bytesLess x y=true->Op.bytesLess y z=true->Op.bytesLess x z=true
 |_,_,[],_,h=>by cases‹List UInt8›<;>simp[Op.bytesLess] at h
 | [],_,_::_,_,_=>rfl
 |a::x,[],_::_,h,_=>by simp[Op.bytesLess] at h
 |a::x,b::y,c::z,h1,h2=>by
  simp only[Op.bytesLess,qM,decide_eq_true_eq,qq,beq_iff_eq,UInt8.lt_iff_toNat_lt,<-UInt8.toNat_inj] at h1 h2|-;rcases h1 with h1| ⟨h1,th⟩
  ·rcases h2 with h2| ⟨h2,rS⟩<;>(left;omega)
  rcases h2 with h2| ⟨h2,rS⟩
  ·left;omega
  right;exact⟨oM,WZ x y z th rS⟩
theorem W0:∀x y:List UInt8,Op.bytesLess x y=false->Op.bytesLess y x=false->x=y
 | [],[],_,_=>rfl
 | [],_::_,h,_=>by simp[Op.bytesLess] at h
 |_::_,[],_,h=>by simp[Op.bytesLess] at h
 |a::x,b::y,h1,h2=>by
  simp only[Op.bytesLess,zV,decide_eq_false_iff_not,Bool.and_eq_false_iff,beq_eq_false_iff_ne,UInt8.lt_iff_toNat_lt,ne_eq,<-UInt8.toNat_inj] at h1 h2;have e:a.toNat=b.toNat:=oM;have th:Op.bytesLess x y=false:=by rcases h1.2 with h|h;exact absurd e h;exact h
  have rS:Op.bytesLess y x=false:=by rcases h2.2 with h|h;exact absurd e.symm h;exact h
  rw[UInt8.toNat_inj.1 e,W0 x y th rS]
theorem QF(a:ByteArray):slt a a=false:=WY _
theorem FJ{a b c:ByteArray}(h:slt a b=true)(k:slt b c=true):slt a c=true:=WZ _ _ _ h k
theorem QG{a b:ByteArray}(h:slt a b=false)(k:slt b a=false):a=b:=WX (W0 _ _ h k)
theorem tG{a b:ByteArray}(h:slt a b=true):a≠b:=fun e=>by subst e;rw[QF] at h;cases h
theorem x0M{a b:ByteArray}(h:slt a b=true):slt b a=false:=by
 cases k:slt b a with
 |false=>rfl
 |true=>have:=FJ h k;rw[QF] at this;cases this
def y8(n:ByteArray)(l:List aI):Prop:=∀a∈l,slt n a.name=true
def vt:List aI->Prop
 | []=>True
 |a::l=>y8 a.name l/\vt l
def look:List aI->ByteArray->Option ByteArray
 | [],_=>none
 |a::l,n=>if a.name=n then some a.val else look l n
theorem wY{l:List aI}{n:ByteArray}(h:∀a∈l,a.name≠n):look l n=none:=by
 induction l with
 |nil=>rfl
 |cons a l ih=>rw[look,if_neg (h a sM)];exact ih (fun b hb=>h b (by simp[hb]))
theorem x3S{l:List aI}{n v:ByteArray}(h:look l n=some v):(⟨n,v⟩:aI)∈l:=by
 induction l with
 |nil=>cases h
 |cons a l ih=>
  rw[look] at h;split at h
  ·rename_i hn;cases h;subst hn;exact zQ
  exact qR _ (ih h)
theorem y5n{l:List aI}(hs:vt l){a:aI}(h:a∈l):look l a.name=some a.val:=by
 induction l with
 |nil=>cases h
 |cons b l ih=>
  rw[look];rcases qg.1 h with rfl|h
  ·rw[if_pos rfl]
  rw[if_neg (tG (hs.1 a h))];exact ih hs.2 h
theorem W2:∀{a b:List aI},vt a->vt b->(∀n,look a n=look b n)->a=b
 | [],[],_,_,_=>rfl
 | [],y::b,_,_,h=>by have:=h y.name;simp[look] at this
 |x::a,[],_,_,h=>by have:=h x.name;simp[look] at this
 |x::a,y::b,ha,hb,h=>by
  have oO:x.name=y.name:=by
   refine QG ?_ ?_
   ·cases k:slt x.name y.name with
    |false=>rfl
    |true=>
     have h1:=h x.name;rw[look,if_pos rfl,look,if_neg (fun e=>tG k e.symm),wY (fun z hz e=>tG (FJ k (hb.1 z hz)) e.symm)] at h1;cases h1
   cases k:slt y.name x.name with
   |false=>rfl
   |true=>
    have h1:=h y.name;rw[look,if_neg (fun e=>tG k e.symm),wY (fun z hz e=>tG (FJ k (ha.1 z hz)) e.symm),look,if_pos rfl] at h1;cases h1
  have hv:x.val=y.val:=by
   have h1:=h x.name;rw[look,if_pos rfl,look,if_pos oO.symm] at h1;exact Option.some.inj h1
  have e:x=y:=by cases x;cases y;simp_all
  subst e;rw[W2 ha.2 hb.2 (fun n=> ?_)];by_cases hn:x.name=n
  ·subst hn;rw[wY (fun z hz e=>tG (ha.1 z hz) e.symm),wY (fun z hz e=>tG (hb.1 z hz) e.symm)]
  have h1:=h n;rwa [look,if_neg hn,look,if_neg hn] at h1
def kL:List aI->List aI->List (aI×aI)
 | [],[]=>[]
 | [],y::b=>(default,y)::kL [] b
 |x::a,[]=>(x,default)::kL a []
 |x::a,y::b=>
  if slt x.name y.name=true then(x,default)::kL a (y::b)
  else if slt y.name x.name=true then(default,y)::kL (x::a) b
  else(x,y)::kL a b
termination_by a b=>a.length+b.length
theorem x0N:∀a b:List aI,(kL a b).length<=a.length+b.length:=by
 intro a b;induction a,b using kL.induct with
 |case1=>simp[kL]
 |case2 y b ih=>simp only[kL,qi] at ih|-;omega
 |case3 x a ih=>simp only[kL,qi] at ih|-;omega
 |case4 x a y b h ih=>rw[kL,if_pos h];simp only[qi] at ih|-;omega
 |case5 x a y b h k ih=>rw[kL,if_neg h,if_pos k];simp only[qi] at ih|-;omega
 |case6 x a y b h k ih=>rw[kL,if_neg h,if_neg k];simp only[qi] at ih|-;omega
def QH(l:List aI):Prop:=∀a∈l,a.name≠mt
def FK(g:aI->aI->Option aI):Prop:=∀x y z,g x y=some z->z.name=if y.name=mt then x.name else y.name
def fm(g:aI->aI->Option aI)(a b:List aI):List aI:=(kL a b).filterMap fun p=>g p.1 p.2
def l6(g:aI->aI->Option aI)(n:ByteArray):Option ByteArray->Option ByteArray->Option ByteArray
 |none,none=>none
 |some v,none=>(g ⟨n,v⟩ default).map (·.val)
 |none,some w=>(g default ⟨n,w⟩).map (·.val)
 |some v,some w=>(g ⟨n,v⟩ ⟨n,w⟩).map (·.val)
theorem x6{g:aI->aI->Option aI}{x y:aI}{l:List (aI×aI)}:((x,y)::l).filterMap (fun p=>g p.1 p.2)=(g x y).toList++l.filterMap (fun p=>g p.1 p.2):=by
 rw[List.filterMap_cons];cases g x y<;>rfl
theorem ID{o:Option aI}{l:List aI}{k n:ByteArray}(h:∀z,o=some z->z.name=k):look (o.toList++l) n=if k=n then(o.map (·.val)).or (look l n) else look l n:=by
 cases o with
 |none=>simp
 |some z=>
  have:=h z rfl;subst this;simp[look]
theorem IE{o:Option aI}{l:List aI}{k n:ByteArray}(h:∀z,o=some z->z.name=k)(hn:slt n k=true)(hl:y8 n l):y8 n (o.toList++l):=by
 intro a ha;rcases qn.1 ha with ha|ha
 ·rw[h a (by simpa using ha)];exact hn
 exact hl a ha
theorem IF{o:Option aI}{l:List aI}{k:ByteArray}(h:∀z,o=some z->z.name=k)(hl:y8 k l)(hs:vt l):vt (o.toList++l):=by
 cases o with
 |none=>exact hs
 |some z=>exact⟨by rw[h z rfl];exact hl,hs⟩
theorem Lm{a:aI}{l:List aI}:look (a::l) a.name=some a.val:=by rw[look,if_pos rfl]
theorem Ln{a:aI}{l:List aI}{n:ByteArray}(h:a.name≠n):look (a::l) n=look l n:=by rw[look,if_neg h]
theorem W3{g:aI->aI->Option aI}(hg:FK g):∀(a b:List aI),vt a->vt b->QH a->QH b->
 vt (fm g a b)/\(∀n,y8 n a->y8 n b->y8 n (fm g a b))/\∀n,look (fm g a b) n=l6 g n (look a n) (look b n):=by
 intro a b;induction a,b using kL.induct with
 |case1=>intro _ _ _ _;exact⟨by simp[fm,kL,vt],fun n _ _=>by simp[fm,kL,y8],fun n=>by simp[fm,kL,look,l6]⟩
 |case2 y b ih=>
  intro _ hb _ nb;obtain⟨i1,i2,i3⟩:=ih trivial hb.2 (fun _ h=>by cases h) (fun a h=>nb a (by simp[h]));have hk:∀z,g default y=some z->z.name=y.name:=fun z hz=>by rw[hg _ _ z hz,if_neg (nb y sM)]
  have e:fm g [] (y::b)=(g default y).toList++fm g [] b:=by unfold fm;rw[kL,x6]
  rw[e];refine⟨IF hk (i2 _ (fun _ h=>by cases h) hb.1) i1,fun n h1 h2=>IE hk (h2 y sM) (i2 n h1 (fun a h=>h2 a (by simp[h]))),fun n=> ?_⟩;rw[ID hk,i3];simp only[look];by_cases h:y.name=n
  ·subst h;rw[wY (l:=b) (fun z hz e=>tG (hb.1 z hz) e.symm)];simp[l6]
  simp only[if_neg h]
 |case3 x a ih=>
  intro ha _ na _;obtain⟨i1,i2,i3⟩:=ih ha.2 trivial (fun a h=>na a (by simp[h])) (fun _ h=>by cases h);have hk:∀z,g x default=some z->z.name=x.name:=fun z hz=>by rw[hg _ _ z hz];exact if_pos rfl
  have e:fm g (x::a) []=(g x default).toList++fm g a []:=by unfold fm;rw[kL,x6]
  rw[e];refine⟨IF hk (i2 _ ha.1 (fun _ h=>by cases h)) i1,fun n h1 h2=>IE hk (h1 x sM) (i2 n (fun a h=>h1 a (by simp[h])) h2),fun n=> ?_⟩;rw[ID hk,i3];simp only[look];by_cases h:x.name=n
  ·subst h;rw[wY (l:=a) (fun z hz e=>tG (ha.1 z hz) e.symm)];simp[l6]
  simp only[if_neg h]
 |case4 x a y b h ih=>
  intro ha hb na nb;obtain⟨i1,i2,i3⟩:=ih ha.2 hb (fun a h=>na a (by simp[h])) nb;have hk:∀z,g x default=some z->z.name=x.name:=fun z hz=>by rw[hg _ _ z hz];exact if_pos rfl
  have e:fm g (x::a) (y::b)=(g x default).toList++fm g a (y::b):=by unfold fm;rw[kL,if_pos h,x6]
  have W4:y8 x.name (y::b):=fun z hz=>by
   rcases qg.1 hz with rfl|hz
   ·exact h
   exact FJ h (hb.1 z hz)
  rw[e];refine⟨IF hk (i2 _ ha.1 W4) i1,fun n h1 h2=>IE hk (h1 x sM) (i2 n (fun a h=>h1 a (by simp[h])) h2),fun n=> ?_⟩;rw[ID hk,i3];by_cases hn:x.name=n
  ·subst hn;rw[wY (l:=y::b) (fun z hz e=>tG (W4 z hz) e.symm),wY (l:=a) (fun z hz e=>tG (ha.1 z hz) e.symm),Lm];simp[l6]
  rw[if_neg hn,Ln hn]
 |case5 x a y b h k ih=>
  intro ha hb na nb;obtain⟨i1,i2,i3⟩:=ih ha hb.2 na (fun a h=>nb a (by simp[h]));have hk:∀z,g default y=some z->z.name=y.name:=fun z hz=>by rw[hg _ _ z hz,if_neg (nb y sM)]
  have e:fm g (x::a) (y::b)=(g default y).toList++fm g (x::a) b:=by unfold fm;rw[kL,if_neg h,if_pos k,x6]
  have W5:y8 y.name (x::a):=fun z hz=>by
   rcases qg.1 hz with rfl|hz
   ·exact k
   exact FJ k (ha.1 z hz)
  rw[e];refine⟨IF hk (i2 _ W5 hb.1) i1,fun n h1 h2=>IE hk (h2 y sM) (i2 n h1 (fun a h=>h2 a (by simp[h]))),fun n=> ?_⟩;rw[ID hk,i3];by_cases hn:y.name=n
  ·subst hn;rw[wY (l:=x::a) (fun z hz e=>tG (W5 z hz) e.symm),wY (l:=b) (fun z hz e=>tG (hb.1 z hz) e.symm),Lm];simp[l6]
  rw[if_neg hn,Ln (a:=y) hn]
 |case6 x a y b h k ih=>
  intro ha hb na nb;obtain⟨i1,i2,i3⟩:=ih ha.2 hb.2 (fun a h=>na a (by simp[h])) (fun a h=>nb a (by simp[h]));have oO:x.name=y.name:=QG (by simpa using h) (by simpa using k);have hk:∀z,g x y=some z->z.name=x.name:=fun z hz=>by rw[hg _ _ z hz,if_neg (nb y sM),oO]
  have e:fm g (x::a) (y::b)=(g x y).toList++fm g a b:=by unfold fm;rw[kL,if_neg h,if_neg k,x6]
  rw[e];refine⟨IF hk (i2 _ ha.1 (by rw[oO];exact hb.1)) i1,fun n h1 h2=>IE hk (h1 x sM) (i2 n (fun a h=>h1 a (by simp[h])) (fun a h=>h2 a (by simp[h]))),fun n=> ?_⟩;rw[ID hk,i3];by_cases hn:x.name=n
  ·subst hn;have ey:(⟨x.name,y.val⟩:aI)=y:=by rw[oO]
   have hl:look (y::b) x.name=some y.val:=by rw[oO];exact Lm
   rw[hl,Lm,wY (l:=a) (fun z hz e=>tG (ha.1 z hz) e.symm),wY (l:=b) (fun z hz e=>tG (hb.1 z hz) (by rw[<-oO,e]))];simp[l6,ey]
  rw[if_neg hn,Ln hn,Ln (a:=y) (by rw[<-oO];exact hn)]
theorem wj:(default:aI)=⟨mt,mt⟩:=rfl
def eY(x y:aI):Option aI:=if y.name=mt then some x else if y.val=mt then none else some y
def l7(x y:aI):Option aI:=some (if y.name=mt then x else y)
def iw(x y:aI):Option aI:=if y.name=mt then some x else none
theorem z66:FK eY:=by intro x y z h;unfold eY at h;(repeat' split at h)<;>simp_all
theorem x3T:FK l7:=by intro x y z h;unfold l7 at h;(repeat' split at h)<;>simp_all
theorem W6:FK iw:=by intro x y z h;unfold iw at h;(repeat' split at h)<;>simp_all
section
variable (NP VP:ByteArray->Prop)
def Q(e:Bool)(n v:ByteArray):Prop:=NP n/\(VP v\/(e=true/\v=mt))
def V(e:Bool)(l:List aI):Prop:=vt l/\∀a∈l,Q NP VP e a.name a.val
end
section
variable {NP VP:ByteArray->Prop} (hN:¬NP mt) (hV:¬VP mt)
include hN
theorem V.named{e:Bool}{l:List aI}(h:V NP VP e l):QH l:=fun a ha e'=>hN (by have:=(h.2 a ha).1;rwa [e'] at this)
omit hN in
theorem V.look{e:Bool}{l:List aI}(h:V NP VP e l){n v:ByteArray}(hl:look l n=some v):Q NP VP e n v:=h.2 ⟨n,v⟩ (x3S hl)
theorem IG{e1 e2:Bool}{g:aI->aI->Option aI}(hg:FK g){a b:List aI}(ha:V NP VP e1 a)(hb:V NP VP e2 b)(n:ByteArray):
 Go.Ch.look (fm g a b) n=l6 g n (Go.Ch.look a n) (Go.Ch.look b n):=(W3 hg a b ha.1 hb.1 (ha.named hN) (hb.named hN)).2.2 n
theorem QI{e1 e2 e3:Bool}{g:aI->aI->Option aI}(hg:FK g){a b:List aI}(ha:V NP VP e1 a)(hb:V NP VP e2 b)
 (h1:∀n v z,n≠mt->Q NP VP e1 n v->l6 g n (some v) none=some z->Q NP VP e3 n z)
 (h2:∀n v z,n≠mt->Q NP VP e2 n v->l6 g n none (some v)=some z->Q NP VP e3 n z)
 (h3:∀n v w z,n≠mt->Q NP VP e1 n v->Q NP VP e2 n w->l6 g n (some v) (some w)=some z->Q NP VP e3 n z):V NP VP e3 (fm g a b):=by
 have hm:=W3 hg a b ha.1 hb.1 (ha.named hN) (hb.named hN);refine⟨hm.1,fun z hz=> ?_⟩;have hl:=y5n hm.1 hz;rw[hm.2.2] at hl;have hq:∀{e v},Q NP VP e z.name v->z.name≠mt:=fun q e=>hN (e▸q.1)
 cases h4:Go.Ch.look a z.name with
 |none=>
  cases h5:Go.Ch.look b z.name with
  |none=>rw[h4,h5] at hl;cases hl
  |some w=>rw[h4,h5] at hl;exact h2 _ _ _ (hq (hb.look h5)) (hb.look h5) hl
 |some v=>
  cases h5:Go.Ch.look b z.name with
  |none=>rw[h4,h5] at hl;exact h1 _ _ _ (hq (ha.look h4)) (ha.look h4) hl
  |some w=>rw[h4,h5] at hl;exact h3 _ _ _ _ (hq (ha.look h4)) (ha.look h4) (hb.look h5) hl
theorem W7{e:Bool}{n v:ByteArray}(h:Q NP VP e n v):n≠mt:=fun e=>hN (e▸h.1)
theorem CC{l c:List aI}(hl:V NP VP false l)(hc:V NP VP true c):V NP VP false (fm eY l c):=by
 refine QI hN z66 hl hc (fun n v z hn q h=> ?_) (fun n v z hn q h=> ?_) (fun n v w z hn q r h=> ?_)
 ·simp[l6,eY,wj] at h;subst h;exact q
 ·simp[l6,eY,wj,hn] at h;obtain⟨_,⟨h1,rfl⟩,rfl⟩:=h;simp_all[Q]
 simp[l6,eY,wj,hn] at h;obtain⟨_,⟨h1,rfl⟩,rfl⟩:=h;simp_all[Q]
theorem W8{a b:List aI}(ha:V NP VP true a)(hb:V NP VP true b):V NP VP true (fm l7 a b):=by
 refine QI hN x3T ha hb (fun n v z hn q h=> ?_) (fun n v z hn q h=> ?_) (fun n v w z hn q r h=> ?_)
 ·simp[l6,l7,wj] at h;subst h;exact q
 ·simp[l6,l7,wj,hn] at h;subst h;exact q
 simp[l6,l7,wj,hn] at h;subst h;exact r
theorem Lo{a b:List aI}(ha:V NP VP true a)(hb:V NP VP true b):V NP VP true (fm iw a b):=by
 refine QI hN W6 ha hb (fun n v z hn q h=> ?_) (fun n v z hn q h=> ?_) (fun n v w z hn q r h=> ?_)
 ·simp[l6,iw,wj] at h;subst h;exact q
 ·simp[l6,iw,wj,hn] at h
 simp[l6,iw,wj,hn] at h
include hV
omit hV in
theorem W9{l a b:List aI}(hl:V NP VP false l)(ha:V NP VP true a)(hb:V NP VP true b):fm eY (fm eY l a) b=fm eY (fm eY l b) (fm iw a b):=by
 have h1:=CC hN hl ha;have h2:=CC hN hl hb;have h3:=Lo hN ha hb;refine W2 (CC hN h1 hb).1 (CC hN h2 h3).1 (fun n=> ?_);rw[IG hN z66 h1 hb,IG hN z66 h2 h3,IG hN z66 hl ha,IG hN z66 hl hb,IG hN W6 ha hb];cases k2:look a n with
 |none=>
  cases k3:look b n with
  |none=>cases look l n<;>simp[l6,eY,wj]
  |some w=>
   have hn:=W7 hN (hb.look k3);by_cases hw:w=mt<;>cases look l n<;>simp[l6,eY,iw,wj,hn,hw]
 |some v=>
  have hn:=W7 hN (ha.look k2);cases k3:look b n with
  |none=>by_cases hv:v=mt<;>cases look l n<;>simp[l6,eY,iw,wj,hn,hv]
  |some w=>by_cases hv:v=mt<;>by_cases hw:w=mt<;>cases look l n<;>simp[l6,eY,iw,wj,hn,hv,hw]
end
end Go.Ch
end
section
set_option maxRecDepth 100000
set_option maxHeartbeats 4000000
open Go Go.Proofs Go.Ab
namespace Go.Ch
theorem z44{s:ByteArray}:seq s {data:=#[]}=decide (s.size=0):=by
 by_cases h:s.size=0
 ·rw[decide_eq_true h,kj];obtain⟨⟨l⟩⟩:=s;cases l with
  |nil=>rfl
  |cons a l=>simp[ByteArray.size] at h
 rw[decide_eq_false h,nZ];intro e;subst e;exact h rfl
theorem Lp{s:ByteArray}(h:seq s {data:=#[]}=false):(0:Int)< (s.size:Int):=by
 rw[z44,decide_eq_false_iff_not] at h;omega
def gQ(s:ByteArray)(i:Nat):Nat:=((s[i]?).getD 0).toNat
def CD(b:Nat):Prop:=(b<97\/122<b)/\(b<48\/57<b)/\b≠46/\b≠45
instance (b:Nat):Decidable (CD b):=by unfold CD;infer_instance
def uF(s:ByteArray)(i:Nat):Bool:=if i<s.size then(if CD (gQ s i) then false else uF s (i+1)) else true
termination_by s.size-i
def oC(s:ByteArray):Bool:=decide (1<=s.size/\s.size<=24/\97<=gQ s 0/\gQ s 0<=122)&&uF s 0
def CE(s:ByteArray)(i:Nat):Bool:=if i<s.size then(if gQ s i<32\/126<gQ s i then false else CE s (i+1)) else true
termination_by s.size-i
def j4(s:ByteArray):Bool:=decide (1<=s.size/\s.size<=200)&&CE s 0
def D0(s:ByteArray)(i:Nat):Bool:=if i<s.size then(if(gQ s i<97\/122<gQ s i)/\(i=0\/(gQ s i≠46/\gQ s i≠45/\(gQ s i<48\/57<gQ s i))) then false else D0 s (i+1)) else true
termination_by s.size-i
def QJ(s:ByteArray):Bool:=D0 s 0&&decide (1<=s.size/\s.size<=24)
def QK(s:ByteArray):Bool:=CE s 0&&decide (1<=s.size/\s.size<=200)
theorem x6T(s:ByteArray)(i:Nat)(h:0<i):D0 s i=uF s i:=by
 induction i using uF.induct (s:=s) with
 |case1 i hi hb=>rw[D0,uF,if_pos hi,if_pos hi,if_pos hb,if_pos];unfold CD at hb;omega
 |case2 i hi hb ih=>rw[D0,uF,if_pos hi,if_pos hi,if_neg hb,if_neg];exact ih oM;unfold CD at hb;omega
 |case3 i hi=>rw[D0,uF,if_neg hi,if_neg hi]
theorem x0Q(s:ByteArray):QJ s=oC s:=by
 unfold QJ oC;by_cases h:1<=s.size
 ·rw[D0,if_pos oM,x6T s (0+1) oM];by_cases h2:97<=gQ s 0/\gQ s 0<=122
  ·have e:uF s 0=uF s (0+1):=by rw[uF,if_pos oM,if_neg (by unfold CD;omega)]
   rw[if_neg oM,e,Bool.and_comm];congr 1;simp[h2]
  rw[if_pos oM,decide_eq_false (by omega:¬(1<=s.size/\s.size<=24/\97<=gQ s 0/\gQ s 0<=122))];simp
 rw[decide_eq_false oM,decide_eq_false oM];simp
theorem x3V(s:ByteArray):QK s=j4 s:=by unfold QK j4;rw[Bool.and_comm]
theorem y9(s:ByteArray)(i:Nat):((s[i]?).getD 0).toNat=gQ s i:=rfl
theorem QL(s:ByteArray):FC Tryz.prog 182 [VS s] (app emp []) (VB (oC s)) (app emp []):=by
 refine .go Tryz.f182 ?_;refine .bp [.r [],.r [(4,Xv 1 (!(seq s ({data:=#[]}))) X0),(5,Xv 1 (!(seq s ({data:=#[]}))) X0),(6,X (b7 (seq s ({data:=#[]})))),(9,Xv 1 (!(seq s ({data:=#[]})||decide ((s.size:Int)> 24))) (Xb s 0) (fun hg=>by(try simp only[decide_eq_true_eq,decide_eq_false_iff_not,Int.not_lt,Int.not_le,gt_iff_lt,zf,zT,qM,zV] at hg);exact⟨(by first|omega| (simp;omega)| (simp;done)|assumption),(Lp (by first|exact hg|exact hg.1|exact hg.1.1))⟩)),(10,Xv 1 (!(seq s ({data:=#[]})||decide ((s.size:Int)> 24))) X0),(11,X (b7 (seq s ({data:=#[]})||decide ((s.size:Int)> 24)))),(14,Xv 1 (!((seq s ({data:=#[]})||decide ((s.size:Int)> 24))||decide (((((s[0]?).getD 0).toNat:Nat):Int)< 97))) (Xb s 0) (fun hg=>by(try simp only[decide_eq_true_eq,decide_eq_false_iff_not,Int.not_lt,Int.not_le,gt_iff_lt,zf,zT,qM,zV] at hg);exact⟨(by first|omega| (simp;omega)| (simp;done)|assumption),(Lp (by first|exact hg|exact hg.1|exact hg.1.1))⟩)),(15,Xv 1 (!((seq s ({data:=#[]})||decide ((s.size:Int)> 24))||decide (((((s[0]?).getD 0).toNat:Nat):Int)< 97))) X0),(16,X (b7 ((seq s ({data:=#[]})||decide ((s.size:Int)> 24))||decide (((((s[0]?).getD 0).toNat:Nat):Int)< 97))))]] (((seq s ({data:=#[]})||decide ((s.size:Int)> 24))||decide (((((s[0]?).getD 0).toNat:Nat):Int)< 97))||decide (((((s[0]?).getD 0).toNat:Nat):Int)> 122)) (fun h1=> ?_) (fun h1=> ?_)
 ·have e1:((oC s):Bool)=false:=by
   simp only[y9,z44,decide_eq_true_eq] at h1;unfold oC;rw[decide_eq_false (by omega)];rfl
  exact .aG [.r []] [] (fun z0:Bool=>(VB z0,[])) _ _ e1
 refine .loop (α:=Nat) [.r []] 168 (fun i=>([(0,VS s),(23,VI (s.size:Int)),(24,VI (i:Int))],[])) (fun i=>i<=s.size/\uF s 0=uF s i) (fun i=>s.size-i) (0:Nat) ?_ ?_
 ·exact⟨by omega,rfl⟩
 rintro i I4 kJ;try dsimp only at I4
 refine .bp [.r []] (decide ((i:Int)< (s.size:Int))) (fun h4=> ?_) (fun h4=> ?_)
 ·refine .bp [.r [],.r [(2,X (Xb s (i:Int)))],.r [(4,Xv 1 (!(decide (((((s[i]?).getD 0).toNat:Nat):Int)< 97))) X0),(5,X (b7 (decide (((((s[i]?).getD 0).toNat:Nat):Int)< 97)))),(8,Xv 1 (decide (((((s[i]?).getD 0).toNat:Nat):Int)< 97)||decide (((((s[i]?).getD 0).toNat:Nat):Int)> 122)) X0),(9,Xv 1 (decide (((((s[i]?).getD 0).toNat:Nat):Int)< 97)||decide (((((s[i]?).getD 0).toNat:Nat):Int)> 122)) X0),(11,Xv 1 ((decide (((((s[i]?).getD 0).toNat:Nat):Int)< 97)||decide (((((s[i]?).getD 0).toNat:Nat):Int)> 122))&& !(decide (((((s[i]?).getD 0).toNat:Nat):Int)< 48))) X0),(12,x5 (decide (((((s[i]?).getD 0).toNat:Nat):Int)< 97)||decide (((((s[i]?).getD 0).toNat:Nat):Int)> 122)) (decide (((((s[i]?).getD 0).toNat:Nat):Int)< 48))),(13,X (Xk (decide (((((s[i]?).getD 0).toNat:Nat):Int)< 97)||decide (((((s[i]?).getD 0).toNat:Nat):Int)> 122)))),(16,Xv 1 ((decide (((((s[i]?).getD 0).toNat:Nat):Int)< 97)||decide (((((s[i]?).getD 0).toNat:Nat):Int)> 122))&&(decide (((((s[i]?).getD 0).toNat:Nat):Int)< 48)||decide (((((s[i]?).getD 0).toNat:Nat):Int)> 57))) X0),(17,X (Xk ((decide (((((s[i]?).getD 0).toNat:Nat):Int)< 97)||decide (((((s[i]?).getD 0).toNat:Nat):Int)> 122))&&(decide (((((s[i]?).getD 0).toNat:Nat):Int)< 48)||decide (((((s[i]?).getD 0).toNat:Nat):Int)> 57))))),(20,Xv 1 (((decide (((((s[i]?).getD 0).toNat:Nat):Int)< 97)||decide (((((s[i]?).getD 0).toNat:Nat):Int)> 122))&&(decide (((((s[i]?).getD 0).toNat:Nat):Int)< 48)||decide (((((s[i]?).getD 0).toNat:Nat):Int)> 57)))&&(((((s[i]?).getD 0).toNat:Nat):Int) !=46)) X0),(21,X (Xk (((decide (((((s[i]?).getD 0).toNat:Nat):Int)< 97)||decide (((((s[i]?).getD 0).toNat:Nat):Int)> 122))&&(decide (((((s[i]?).getD 0).toNat:Nat):Int)< 48)||decide (((((s[i]?).getD 0).toNat:Nat):Int)> 57)))&&(((((s[i]?).getD 0).toNat:Nat):Int) !=46))))]] ((((decide (((((s[i]?).getD 0).toNat:Nat):Int)< 97)||decide (((((s[i]?).getD 0).toNat:Nat):Int)> 122))&&(decide (((((s[i]?).getD 0).toNat:Nat):Int)< 48)||decide (((((s[i]?).getD 0).toNat:Nat):Int)> 57)))&&(((((s[i]?).getD 0).toNat:Nat):Int) !=46))&&(((((s[i]?).getD 0).toNat:Nat):Int) !=45)) (fun h7=> ?_) (fun h7=> ?_)
  ·have e2:((oC s):Bool)=false:=by
    simp only[y9] at h7;unfold oC;rw[I4.2,uF,if_pos (by omega),if_pos (by unfold CD;omega)];simp
   exact .aG [.r []] [] (fun z0:Bool=>(VB z0,[])) _ _ e2
  refine .back [.r [(0,X (Xn ((i:Int)+1)))]] [] (kJ ((i+1):Nat) ?_ ?_)
  ·simp only[y9] at h7;refine⟨by omega,?_⟩;rw[I4.2,uF,if_pos (by omega),if_neg (by unfold CD;omega)]
  ((try dsimp only);omega)
 have e3:((oC s):Bool)=true:=by
  simp only[y9,z44,decide_eq_false_iff_not] at h1;unfold oC;rw[I4.2,uF,if_neg (by omega),decide_eq_true (by omega)];rfl
 exact .aG [.r []] [] (fun z0:Bool=>(VB z0,[])) _ _ e3
theorem FL(s:ByteArray):FC Tryz.prog 132 [VS s] (app emp []) (VB (j4 s)) (app emp []):=by
 refine .go Tryz.f132 ?_;refine .bp (let a:=seq s ({data:=#[]});[.r [],.r [(4,Xv 1 (!a) X0),(5,Xv 1 (!a) X0),(6,X (b7 a))]]) (seq s ({data:=#[]})||decide ((s.size:Int)> 200)) (fun h1=> ?_) (fun h1=> ?_)
 ·have e1:((j4 s):Bool)=false:=by
   simp only[z44,decide_eq_true_eq] at h1;unfold j4;rw[decide_eq_false oM];rfl
  exact .aG [.r []] [] (fun z0:Bool=>(VB z0,[])) _ _ e1
 refine .loop (α:=Nat) [.r []] 88 (fun i=>([(0,VS s),(12,VI (s.size:Int)),(13,VI (i:Int))],[])) (fun i=>i<=s.size/\CE s 0=CE s i) (fun i=>s.size-i) (0:Nat) ?_ ?_
 ·exact⟨oM,rfl⟩
 rintro i I4 kJ;try dsimp only at I4
 refine .bp [.r []] (decide ((i:Int)< (s.size:Int))) (fun h4=> ?_) (fun h4=> ?_)
 ·refine .bp (let a:=decide (((((s[i]?).getD 0).toNat:Nat):Int)< 32);[.r [],.r [(2,X (Xb s (i:Int))),(7,Xv 2 (!a) (Xb s (i:Int))),(8,Xv 1 (!a) X0),(9,X (b7 a))]]) (decide (((((s[i]?).getD 0).toNat:Nat):Int)< 32)||decide (((((s[i]?).getD 0).toNat:Nat):Int)> 126)) (fun h6=> ?_) (fun h6=> ?_)
  ·have e2:((j4 s):Bool)=false:=by
    simp only[y9] at h6;unfold j4;rw[I4.2,CE,if_pos oM,if_pos oM];simp
   exact .aG [.r []] [] (fun z0:Bool=>(VB z0,[])) _ _ e2
  refine .back [.r [(0,X (Xn ((i:Int)+1)))]] [] (kJ ((i+1):Nat) ?_ ?_)
  ·simp only[y9] at h6;refine⟨oM,?_⟩;rw[I4.2,CE,if_pos oM,if_neg oM]
  exact tO
 have e3:((j4 s):Bool)=true:=by
  simp only[z44,decide_eq_false_iff_not] at h1;unfold j4;rw[I4.2,CE,if_neg oM,decide_eq_true oM];rfl
 exact .aG [.r []] [] (fun z0:Bool=>(VB z0,[])) _ _ e3
def dO(e:Bool)(l:List aI)(i:Nat):Int:=
 if i<l.length then
  if oC (l.getD i default).name=false then 9
  else if j4 (l.getD i default).val=false/\(e=false\/seq (l.getD i default).val {data:=#[]}=false) then 23
  else if 0<i/\(slt (l.getD i default).name (l.getD (i- 1) default).name=true\/seq (l.getD i default).name (l.getD (i- 1) default).name=true) then 5
  else dO e l (i+1)
 else 0
termination_by l.length-i
def Lr(l:List aI):Prop:=∀a∈l,a.name.size<=9223372036854775807/\a.val.size<=9223372036854775807
theorem Xd(l:List aI)(e:Bool):FC Tryz.prog 113 [VL 2 aS l,VB e] (app emp []) (VI (dO e l 0)) (app emp []):=by
 refine .go Tryz.f113 ?_;refine .len 0 (fun dQ=> ?_);refine .loop (α:=Nat) [.r [],.r [(1,X (Xl aS l))]] 32 (fun i=>([(0,VL 2 aS l),(1,VB e),(7,VL 2 aS l),(8,VI (l.length:Int)),(9,VI (i:Int))],[])) (fun i=>i<=l.length/\dO e l 0=dO e l i) (fun i=>l.length-i) (0:Nat) ?_ ?_
 ·exact⟨by omega,rfl⟩
 rintro i I2 ic;try dsimp only at I2
 refine .bp [.r []] (decide ((i:Int)< (l.length:Int))) (fun h2=> ?_) (fun h2=> ?_)
 ·refine .bp [.r [(1,X (Xi aS l (i:Int)))],.r [(2,X (aW (QL (((l.getD i default)).name)) X0))]] (!(oC (((l.getD i default)).name))) (fun h4=> ?_) (fun h4=> ?_)
  ·have e1:((dO e l 0):Int)=9:=by
    rw[I2.2,dO,if_pos (by omega),if_pos h4]
   exact .aG [.r []] [] (fun z0:Int=>(VI z0,[])) _ _ e1
  refine .bp [.r [(2,X (aW (FL (((l.getD i default)).val)) X0)),(6,Xv 1 (!(j4 (((l.getD i default)).val))) X0),(8,Xv 1 ((!(j4 (((l.getD i default)).val)))&&e) X0),(9,Xv 1 ((!(j4 (((l.getD i default)).val)))&&e) X0),(10,kH (!(j4 (((l.getD i default)).val))) e),(11,Xv 1 (!(j4 (((l.getD i default)).val))) X0),(12,X (Xk (!(j4 (((l.getD i default)).val)))))]] (!(j4 (((l.getD i default)).val))&& !(e&&seq (((l.getD i default)).val) ({data:=#[]}))) (fun h6=> ?_) (fun h6=> ?_)
  ·have e2:((dO e l 0):Int)=23:=by
    rw[I2.2,dO,if_pos (by omega),if_neg (by rw[h4];decide),if_pos h6]
   exact .aG [.r []] [] (fun z0:Int=>(VI z0,[])) _ _ e2
  refine .bp [.r [(4,Xv 1 (decide ((i:Int)> 0)) X0),(7,Xv 1 (decide ((i:Int)> 0)) (Xn ((i:Int)- 1))),(8,Xv 2 (decide ((i:Int)> 0)) (yV aS l ((i:Int)- 1) (i- 1))),(9,Xv 1 (decide ((i:Int)> 0)) X0),(10,Xv 1 (decide ((i:Int)> 0)) X0),(11,Xv 2 (decide ((i:Int)> 0)) X0),(12,X (Xk (decide ((i:Int)> 0))))]] (decide ((i:Int)> 0)&&(slt (((l.getD i default)).name) (((l.getD (i- 1) default)).name)||seq (((l.getD i default)).name) (((l.getD (i- 1) default)).name))) (fun h8=> ?_) (fun h8=> ?_)
  ·have e3:((dO e l 0):Int)=5:=by
    rw[I2.2,dO,if_pos (by omega),if_neg (by rw[h4];decide),if_neg (by clear ic;rintro⟨a,b⟩;simp_all),if_pos ⟨by omega,h8.2⟩]
   exact .aG [.r []] [] (fun z0:Int=>(VI z0,[])) _ _ e3
  refine .back [.r [(0,X (Xn ((i:Int)+1)))]] [] (ic ((i+1):Nat) ?_ ?_)
  ·refine⟨by omega,?_⟩;rw[I2.2,dO,if_pos (by omega),if_neg (by rw[h4];decide),if_neg (by clear ic;rintro⟨a,b⟩;simp_all),if_neg (by clear ic;rintro⟨a,b⟩;rcases h8 with h| ⟨h,h2⟩;omega;rcases b with b|b<;>simp_all)]
  ((try dsimp only);omega)
 have e4:((dO e l 0):Int)=0:=by
  rw[I2.2,dO,if_neg (by omega)]
 exact .aG [.r []] [] (fun z0:Int=>(VI z0,[])) _ _ e4
theorem FM(l:List aI):FC Tryz.prog 57 [VL 2 aS l] (app emp []) (VI (dO false l 0)) (app emp []):=by
 refine .go Tryz.f57 ?_;refine .len 0 (fun dQ=> ?_);exact .fin [.r [],.r [(1,X (aW (Xd l false) X0))]] []
theorem CF(l:List aI):FC Tryz.prog 78 [VL 2 aS l] (app emp []) (VI (dO true l 0)) (app emp []):=by
 refine .go Tryz.f78 ?_;refine .len 0 (fun dQ=> ?_);exact .fin [.r [],.r [(1,X (aW (Xd l true) X0))]] []
def Ls(e:Bool)(l:List aI)(i:Nat):Int:=
 if i<l.length then
  if QJ (l.getD i default).name=false then 9
  else if QK (l.getD i default).val=false/\(e=false\/seq (l.getD i default).val {data:=#[]}=false) then 23
  else if 0<i/\slt (l.getD (i- 1) default).name (l.getD i default).name=false then 5
  else Ls e l (i+1)
 else 0
termination_by l.length-i
theorem Xg(a b:ByteArray):(slt a b=true\/seq a b=true)↔slt b a=false:=by
 constructor
 ·rintro(h|h)
  ·exact x0M h
  rw[kj] at h;subst h;exact QF _
 intro h;cases k:slt a b with
 |true=>exact .inl rfl
 |false=>exact .inr (kj.2 (QG k h))
theorem Bo(e:Bool)(l:List aI):∀(n i:Nat),l.length-i=n->Ls e l i=dO e l i
 |0,i,h=>by rw[Ls,dO,if_neg oM,if_neg oM]
 |n+1,i,h=>by
  have hi:i<l.length:=oM;rw[Ls,dO,if_pos hi,if_pos hi,Bo e l n (i+1) oM];simp only[x0Q,x3V,Xg]
def sJ(a b:List aI)(i:Nat):Bool:=
 if i<a.length then(if(a.getD i default).name=(b.getD i default).name/\(a.getD i default).val=(b.getD i default).val then sJ a b (i+1) else false) else true
termination_by a.length-i
def iN(a b:List aI):Bool:=decide (a.length=b.length)&&sJ a b 0
def iZ(l:List aI)(n:ByteArray)(i:Nat):ByteArray:=
 if i<l.length then(if(l.getD i default).name=n then(l.getD i default).val else iZ l n (i+1)) else mt
termination_by l.length-i
theorem z72{l:List aI}{i:Nat}(h:i<l.length):l.drop i=l.getD i default::l.drop (i+1):=by
 rw[zh h];simp[List.getD,qa h]
theorem Lt{l:List aI}{i:Nat}(h:¬i<l.length):l.drop i=[]:=qN oM
theorem w2y{g:aI->aI->Option aI}{a b:List aI}{i j:Nat}(hi:i<a.length)(h:b.length<=j\/slt (a.getD i default).name (b.getD j default).name=true):
 fm g (a.drop i) (b.drop j)=(g (a.getD i default) ⟨mt,mt⟩).toList++fm g (a.drop (i+1)) (b.drop j):=by
 unfold fm;rw[z72 hi];by_cases hj:j<b.length
 ·rw[z72 hj,kL,if_pos (by rcases h with h|h;omega;exact h),x6];rfl
 rw[Lt hj,kL,x6];rfl
theorem w2z{g:aI->aI->Option aI}{a b:List aI}{i j:Nat}(hj:j<b.length)(h0:i<a.length->slt (a.getD i default).name (b.getD j default).name=false)(h:a.length<=i\/slt (b.getD j default).name (a.getD i default).name=true):
 fm g (a.drop i) (b.drop j)=(g ⟨mt,mt⟩ (b.getD j default)).toList++fm g (a.drop i) (b.drop (j+1)):=by
 unfold fm;rw[z72 hj];by_cases hi:i<a.length
 ·rw[z72 hi,kL,if_neg (by rw[h0 hi];decide),if_pos (by rcases h with h|h;omega;exact h),x6];rfl
 rw[Lt hi,kL,x6];rfl
theorem w0J{g:aI->aI->Option aI}{a b:List aI}{i j:Nat}(hi:i<a.length)(hj:j<b.length)(h0:slt (a.getD i default).name (b.getD j default).name=false)(h:slt (b.getD j default).name (a.getD i default).name=false):
 fm g (a.drop i) (b.drop j)=(g (a.getD i default) (b.getD j default)).toList++fm g (a.drop (i+1)) (b.drop (j+1)):=by
 unfold fm;rw[z72 hi,z72 hj,kL,if_neg (by rw[h0];decide),if_neg (by rw[h];decide),x6]
theorem Xh{g:aI->aI->Option aI}{a b:List aI}{i j:Nat}(hi:a.length<=i)(hj:b.length<=j):fm g (a.drop i) (b.drop j)=[]:=by
 unfold fm;rw[Lt oM,Lt oM,kL];rfl
theorem QM{o:Option aI}:o.toList.length<=1:=by cases o<;>simp
theorem Vs(a b:List aI):FC Tryz.prog 11 [VL 2 aS a,VL 2 aS b] (app emp []) (VB (iN a b)) (app emp []):=by
 refine .go Tryz.f11 ?_;refine .len 0 (fun dQ=> ?_);refine .len 1 (fun gW=> ?_);refine .bp [.r [],.r [(1,X (Xl aS a)),(3,X (Xl aS b))]] ((a.length:Int) !=(b.length:Int)) (fun h1=> ?_) (fun h1=> ?_)
 ·have e1:((iN a b):Bool)=false:=by
   unfold iN;rw[decide_eq_false oM];rfl
  exact .aG [.r []] [] (fun z0:Bool=>(VB z0,[])) _ _ e1
 refine .loop (α:=Nat) [.r [(1,X (Xl aS a))]] 72 (fun i=>([(0,VL 2 aS a),(1,VL 2 aS b),(12,VI (a.length:Int)),(13,VI (i:Int))],[])) (fun i=>i<=a.length/\sJ a b 0=sJ a b i) (fun i=>a.length-i) (0:Nat) ?_ ?_
 ·exact⟨oM,rfl⟩
 rintro i I4 kJ;try dsimp only at I4
 refine .bp [.r []] (decide ((i:Int)< (a.length:Int))) (fun h4=> ?_) (fun h4=> ?_)
 ·refine .bp [.r [],.r [(2,X (Xi aS a (i:Int))),(6,X (Xi aS b (i:Int)))]] (!(seq (((a.getD i default)).name) (((b.getD i default)).name)&&(seq (((a.getD i default)).val) (((b.getD i default)).val)&&true))) (fun h6=> ?_) (fun h6=> ?_)
  ·have e2:((iN a b):Bool)=false:=by
    unfold iN;rw[I4.2,sJ,if_pos oM,if_neg (by clear kJ;simp only[nZ,kj] at h6;rintro⟨x,y⟩;simp_all)];simp
   exact .aG [.r []] [] (fun z0:Bool=>(VB z0,[])) _ _ e2
  refine .back [.r [(0,X (Xn ((i:Int)+1)))]] [] (kJ ((i+1):Nat) ?_ ?_)
  ·refine⟨oM,?_⟩;rw[I4.2,sJ,if_pos oM,if_pos (by clear kJ;simp only[nZ,kj] at h6;simp_all)]
  exact tO
 have e3:((iN a b):Bool)=true:=by
  unfold iN;rw[I4.2,sJ,if_neg oM,decide_eq_true oM];rfl
 exact .aG [.r []] [] (fun z0:Bool=>(VB z0,[])) _ _ e3
theorem CG(l:List aI)(n:ByteArray):FC Tryz.prog 137 [VL 2 aS l,VS n] (app emp []) (VS (iZ l n 0)) (app emp []):=by
 refine .go Tryz.f137 ?_;refine .len 0 (fun dQ=> ?_);refine .loop (α:=Nat) [.r [],.r [(1,X (Xl aS l))]] 32 (fun i=>([(1,VS n),(7,VL 2 aS l),(8,VI (l.length:Int)),(9,VI (i:Int))],[])) (fun i=>i<=l.length/\iZ l n 0=iZ l n i) (fun i=>l.length-i) (0:Nat) ?_ ?_
 ·exact⟨oM,rfl⟩
 rintro i I2 ic;try dsimp only at I2
 refine .bp [.r []] (decide ((i:Int)< (l.length:Int))) (fun h2=> ?_) (fun h2=> ?_)
 ·refine .bp [.r [(0,X (Xi aS l (i:Int)))],.r []] (seq (((l.getD i default)).name) n) (fun h4=> ?_) (fun h4=> ?_)
  ·have e1:((iZ l n 0):ByteArray)=((l.getD i default)).val:=by
    rw[I2.2,iZ,if_pos oM,if_pos (kj.1 h4)]
   exact .aG [.r []] [] (fun z0:ByteArray=>(VS z0,[])) _ _ e1
  refine .back [.r [(0,X (Xn ((i:Int)+1)))]] [] (ic ((i+1):Nat) ?_ ?_)
  ·refine⟨oM,?_⟩;rw[I2.2,iZ,if_pos oM,if_neg (nZ.1 h4)]
  exact tO
 have e2:((iZ l n 0):ByteArray)={data:=#[]}:=by
  rw[I2.2,iZ,if_neg oM]
 exact .aG [.r []] [] (fun z0:ByteArray=>(VS z0,[])) _ _ e2
theorem QN(f:FuncId)(g:aI->aI->Option aI)(QO:td Tryz.prog f=true)(hf:∀(o:List aI) (x y:aI),o.length<1099511627776->FC Tryz.prog f [.t (aS x),.t (aS y),.ptr 0 0] (app emp [(0,.box [.aF 1 o.length]),(1,.aF 2 false (List.map aS o))]) (.aZ []) (app emp [(0,.box [.aF 1 (o++(g x y).toList).length]),(1,.aF 2 false (List.map aS (o++(g x y).toList)))]))(a b o:List aI)(hn:o.length+a.length+b.length<1099511627776):FC Tryz.prog 102 [VL 2 aS a,VL 2 aS b,.fn f [.ptr 0 0]] (app emp [(0,.box [.aF 1 o.length]),(1,OR 2 aS o)]) (.aZ []) (app emp [(0,.box [.aF 1 ((o++fm g a b).length)]),(1,OR 2 aS (o++fm g a b))]):=by
 refine .go Tryz.f102 ?_;refine .len 0 (fun dQ=> ?_);refine .len 1 (fun gW=> ?_);refine .loop (α:=Nat×Nat×(List aI)) [.r []] 18 (fun(i,j,p)=>([(0,VL 2 aS a),(1,VL 2 aS b),(2,.fn f [.ptr 0 0]),(6,VI (i:Int)),(7,VI (j:Int))],[(0,.box [.aF 1 p.length]),(1,OR 2 aS p)])) (fun(i,j,p)=>i<=a.length/\j<=b.length/\p.length<=o.length+i+j/\o++fm g a b=p++fm g (a.drop i) (b.drop j)) (fun(i,j,p)=>(a.length-i)+(b.length-j)) (0,0,o) ?_ ?_
 ·exact⟨by omega,by omega,by omega,rfl⟩
 rintro⟨i,j,p⟩ I1 xY;try dsimp only at I1
 refine .bp [.r [(2,X (Xl aS a)),(7,Xv 1 (!(decide ((i:Int)< (a.length:Int)))) (Xl aS b)),(8,Xv 2 (!(decide ((i:Int)< (a.length:Int)))) X0),(9,X (b7 (decide ((i:Int)< (a.length:Int)))))]] (decide ((i:Int)< (a.length:Int))||decide ((j:Int)< (b.length:Int))) (fun h1=> ?_) (fun h1=> ?_)
 ·refine .bp [.r [(2,X (Xl aS b)),(7,Xv 1 (!((j:Int)==(b.length:Int))) (Xl aS a)),(8,Xv 2 (!((j:Int)==(b.length:Int))) X0),(9,Xv 1 (!((j:Int)==(b.length:Int))) X0),(12,Xv 2 ((!((j:Int)==(b.length:Int)))&&(decide ((i:Int)< (a.length:Int)))) (Xi aS a (i:Int))),(13,Xv 1 ((!((j:Int)==(b.length:Int)))&&(decide ((i:Int)< (a.length:Int)))) X0),(14,Xv 1 ((!((j:Int)==(b.length:Int)))&&(decide ((i:Int)< (a.length:Int)))) X0),(17,Xv 2 ((!((j:Int)==(b.length:Int)))&&(decide ((i:Int)< (a.length:Int)))) (Xi aS b (j:Int))),(18,Xv 1 ((!((j:Int)==(b.length:Int)))&&(decide ((i:Int)< (a.length:Int)))) X0),(19,Xv 1 ((!((j:Int)==(b.length:Int)))&&(decide ((i:Int)< (a.length:Int)))) X0),(20,Xv 2 ((!((j:Int)==(b.length:Int)))&&(decide ((i:Int)< (a.length:Int)))) X0),(21,kH (!((j:Int)==(b.length:Int))) (decide ((i:Int)< (a.length:Int)))),(22,X (b7 ((j:Int)==(b.length:Int))))]] (((j:Int)==(b.length:Int))|| (decide ((i:Int)< (a.length:Int))&&slt (((a.getD i default)).name) (((b.getD j default)).name))) (fun h4=> ?_) (fun h4=> ?_)
  ·refine .back [.r [(3,X (Xi aS a (i:Int))),(6,X (dV 338 [(0,0),(1,1)] (hf p ((a.getD i default)) ({name:={data:=#[]},val:={data:=#[]}}:aI) (by first|omega| (simp;omega))) X0 (hc:=QO)))],.r [(1,X (Xn ((i:Int)+1)))]] [(0,0),(1,1)] (xY ((i+1),j,(p++(g ((a.getD i default)) ({name:={data:=#[]},val:={data:=#[]}}:aI)).toList)) ?_ ?_)
   ·have hi:i<a.length:=by omega
    have hg:=QM (o:=g (a.getD i default) ⟨{data:=#[]},{data:=#[]}⟩);have e:=w2y (g:=g) (a:=a) (b:=b) (j:=j) hi (by rcases h4 with h|h;(left;omega);exact .inr h.2);refine⟨by omega,by omega,by simp only[qf];omega,?_⟩;rw[I1.2.2.2,e,qI]
   ((try dsimp only);omega)
  refine .bp [.r [(2,X (Xl aS a)),(7,Xv 2 (!((i:Int)==(a.length:Int))) (Xi aS b (j:Int))),(8,Xv 1 (!((i:Int)==(a.length:Int))) X0),(9,Xv 1 (!((i:Int)==(a.length:Int))) X0),(12,Xv 2 (!((i:Int)==(a.length:Int))) (Xi aS a (i:Int))),(13,Xv 1 (!((i:Int)==(a.length:Int))) X0),(14,Xv 1 (!((i:Int)==(a.length:Int))) X0),(15,Xv 2 (!((i:Int)==(a.length:Int))) X0),(16,X (b7 ((i:Int)==(a.length:Int))))]] (((i:Int)==(a.length:Int))||slt (((b.getD j default)).name) (((a.getD i default)).name)) (fun h7=> ?_) (fun h7=> ?_)
  ·refine .back [.r [(4,X (Xi aS b (j:Int))),(6,X (dV 482 [(0,0),(1,1)] (hf p ({name:={data:=#[]},val:={data:=#[]}}:aI) ((b.getD j default)) (by first|omega| (simp;omega))) X0 (hc:=QO)))],.r [(1,X (Xn ((j:Int)+1)))]] [(0,0),(1,1)] (xY (i,(j+1),(p++(g ({name:={data:=#[]},val:={data:=#[]}}:aI) ((b.getD j default))).toList)) ?_ ?_)
   ·have hj:j<b.length:=by omega
    have hg:=QM (o:=g ⟨{data:=#[]},{data:=#[]}⟩ (b.getD j default));have e:=w2z (g:=g) (a:=a) (b:=b) (i:=i) hj (fun hi=>by rcases h4.2 with h|h;omega;exact h) (by rcases h7 with h|h;(left;omega);exact .inr h);refine⟨by omega,by omega,by simp only[qf];omega,?_⟩;rw[I1.2.2.2,e,qI]
   ((try dsimp only);omega)
  refine .back [.r [(3,X (Xi aS a (i:Int))),(7,X (Xi aS b (j:Int))),(9,X (dV 506 [(0,0),(1,1)] (hf p ((a.getD i default)) ((b.getD j default)) (by first|omega| (simp;omega))) X0 (hc:=QO)))],.r [(1,X (Xn ((i:Int)+1))),(3,X (Xn ((j:Int)+1)))]] [(0,0),(1,1)] (xY ((i+1),(j+1),(p++(g ((a.getD i default)) ((b.getD j default))).toList)) ?_ ?_)
  ·have hi:i<a.length:=by omega
   have hj:j<b.length:=by omega
   have hg:=QM (o:=g (a.getD i default) (b.getD j default));have e:=w0J (g:=g) (a:=a) (b:=b) hi hj (by rcases h4.2 with h|h;omega;exact h) h7.2;refine⟨by omega,by omega,by simp only[qf];omega,?_⟩;rw[I1.2.2.2,e,qI]
  ((try dsimp only);omega)
 have e1:((o++fm g a b).length:Nat)=p.length:=by
  rw[I1.2.2.2,Xh (by omega) (by omega),qL]
 have e2:((o++fm g a b):List aI)=p:=by
  rw[I1.2.2.2,Xh (by omega) (by omega),qL]
 exact .aG [] [(0,0),(1,1)] (fun((z0,z1):Nat×(List aI))=>(.aZ [],[(0,.box [.aF 1 z0]),(1,OR 2 aS z1)])) _ _ (pr e1 e2)
theorem x6U(o:List aI)(x y:aI)(hn:o.length<1099511627776):FC Tryz.prog 103 [.t (aS x),.t (aS y),.ptr 0 0] (app emp [(0,.box [.aF 1 o.length]),(1,OR 2 aS o)]) (.aZ []) (app emp [(0,.box [.aF 1 ((o++(eY x y).toList).length)]),(1,OR 2 aS (o++(eY x y).toList))]):=by
 refine .go Tryz.f103 ?_;refine .bp [.r [],.r []] (seq y.name ({data:=#[]})) (fun h1=> ?_) (fun h1=> ?_)
 ·have e1:((o++(eY x y).toList).length:Nat)=(o++[x]).length:=by
   simp only[kj,nZ] at*;unfold eY;(repeat' split)<;>simp_all
  have e2:((o++(eY x y).toList):List aI)=(o++[x]):=by
   simp only[kj,nZ] at*;unfold eY;(repeat' split)<;>simp_all
  exact .aG [.r [(3,X (cg aS [x] (fK 2 aS 1 o [x])))]] [(0,0),(1,1)] (fun((z0,z1):Nat×(List aI))=>(.aZ [],[(0,.box [.aF 1 z0]),(1,OR 2 aS z1)])) _ _ (pr e1 e2)
 refine .bp [.r []] (!(seq y.val ({data:=#[]}))) (fun h3=> ?_) (fun h3=> ?_)
 ·have e3:((o++(eY x y).toList).length:Nat)=(o++[y]).length:=by
   simp only[kj,nZ] at*;unfold eY;(repeat' split)<;>simp_all
  have e4:((o++(eY x y).toList):List aI)=(o++[y]):=by
   simp only[kj,nZ] at*;unfold eY;(repeat' split)<;>simp_all
  exact .aG [.r [(3,X (cg aS [y] (fK 2 aS 1 o [y])))]] [(0,0),(1,1)] (fun((z0,z1):Nat×(List aI))=>(.aZ [],[(0,.box [.aF 1 z0]),(1,OR 2 aS z1)])) _ _ (pr e3 e4)
 have e5:((o++(eY x y).toList).length:Nat)=o.length:=by
  simp only[kj,nZ] at*;unfold eY;(repeat' split)<;>simp_all
 have e6:((o++(eY x y).toList):List aI)=o:=by
  simp only[kj,nZ] at*;unfold eY;(repeat' split)<;>simp_all
 exact .aG [] [(0,0),(1,1)] (fun((z0,z1):Nat×(List aI))=>(.aZ [],[(0,.box [.aF 1 z0]),(1,OR 2 aS z1)])) _ _ (pr e5 e6)
theorem x6V(o:List aI)(x y:aI)(hn:o.length<1099511627776):FC Tryz.prog 151 [.t (aS x),.t (aS y),.ptr 0 0] (app emp [(0,.box [.aF 1 o.length]),(1,OR 2 aS o)]) (.aZ []) (app emp [(0,.box [.aF 1 ((o++(iw x y).toList).length)]),(1,OR 2 aS (o++(iw x y).toList))]):=by
 refine .go Tryz.f151 ?_;refine .bp [.r [],.r []] (seq y.name ({data:=#[]})) (fun h1=> ?_) (fun h1=> ?_)
 ·have e1:((o++(iw x y).toList).length:Nat)=(o++[x]).length:=by
   simp only[kj,nZ] at*;unfold iw;(repeat' split)<;>simp_all
  have e2:((o++(iw x y).toList):List aI)=(o++[x]):=by
   simp only[kj,nZ] at*;unfold iw;(repeat' split)<;>simp_all
  exact .aG [.r [(3,X (cg aS [x] (fK 2 aS 1 o [x])))]] [(0,0),(1,1)] (fun((z0,z1):Nat×(List aI))=>(.aZ [],[(0,.box [.aF 1 z0]),(1,OR 2 aS z1)])) _ _ (pr e1 e2)
 have e3:((o++(iw x y).toList).length:Nat)=o.length:=by
  simp only[kj,nZ] at*;unfold iw;(repeat' split)<;>simp_all
 have e4:((o++(iw x y).toList):List aI)=o:=by
  simp only[kj,nZ] at*;unfold iw;(repeat' split)<;>simp_all
 exact .aG [] [(0,0),(1,1)] (fun((z0,z1):Nat×(List aI))=>(.aZ [],[(0,.box [.aF 1 z0]),(1,OR 2 aS z1)])) _ _ (pr e3 e4)
theorem x6W(o:List aI)(x y:aI)(hn:o.length<1099511627776):FC Tryz.prog 231 [.t (aS x),.t (aS y),.ptr 0 0] (app emp [(0,.box [.aF 1 o.length]),(1,OR 2 aS o)]) (.aZ []) (app emp [(0,.box [.aF 1 ((o++(l7 x y).toList).length)]),(1,OR 2 aS (o++(l7 x y).toList))]):=by
 refine .go Tryz.f231 ?_;refine .bp [.r [],.r []] (seq y.name ({data:=#[]})) (fun h1=> ?_) (fun h1=> ?_)
 ·have e1:((o++(l7 x y).toList).length:Nat)=(o++[x]).length:=by
   simp only[kj,nZ] at*;unfold l7;(repeat' split)<;>simp_all
  have e2:((o++(l7 x y).toList):List aI)=(o++[x]):=by
   simp only[kj,nZ] at*;unfold l7;(repeat' split)<;>simp_all
  exact .aG [.r [],.r [(3,X (cg aS [x] (fK 2 aS 1 o [x])))]] [(0,0),(1,1)] (fun((z0,z1):Nat×(List aI))=>(.aZ [],[(0,.box [.aF 1 z0]),(1,OR 2 aS z1)])) _ _ (pr e1 e2)
 have e3:((o++(l7 x y).toList).length:Nat)=(o++[y]).length:=by
  simp only[kj,nZ] at*;unfold l7;(repeat' split)<;>simp_all
 have e4:((o++(l7 x y).toList):List aI)=(o++[y]):=by
  simp only[kj,nZ] at*;unfold l7;(repeat' split)<;>simp_all
 exact .aG [.r [(3,X (cg aS [y] (fK 2 aS 1 o [y])))]] [(0,0),(1,1)] (fun((z0,z1):Nat×(List aI))=>(.aZ [],[(0,.box [.aF 1 z0]),(1,OR 2 aS z1)])) _ _ (pr e3 e4)
theorem DC(a b:List aI)(hn:a.length+b.length<1099511627776):FC Tryz.prog 52 [VL 2 aS a,VL 2 aS b] (app emp []) (VL 2 aS (fm eY a b)) (app emp []):=by
 refine .go Tryz.f52 ?_;refine .len 0 (fun dQ=> ?_);refine .len 1 (fun gW=> ?_);exact .fin [.r [],.r [],.le (.nB 8 0 2),.r [(3,X (dV 41 [(0,8),(1,16)] (QN 103 eY (by kernel_rfl) x6U a b [] (by simp;omega)) X0))],.r [],.le (.fr 4 [(((fm eY a b).length):Nat)=(List.map aS (fm eY a b)).length] ⟨lm,trivial⟩)] []
theorem Xj(a b:List aI)(hn:a.length+b.length<1099511627776):FC Tryz.prog 91 [VL 2 aS a,VL 2 aS b] (app emp []) (VL 2 aS (fm iw a b)) (app emp []):=by
 refine .go Tryz.f91 ?_;refine .len 0 (fun dQ=> ?_);refine .len 1 (fun gW=> ?_);exact .fin [.r [],.r [],.le (.nB 8 0 2),.r [(3,X (dV 41 [(0,8),(1,16)] (QN 151 iw (by kernel_rfl) x6V a b [] (by simp;omega)) X0))],.r [],.le (.fr 4 [(((fm iw a b).length):Nat)=(List.map aS (fm iw a b)).length] ⟨lm,trivial⟩)] []
theorem x3W(a b:List aI)(hn:a.length+b.length<1099511627776):FC Tryz.prog 196 [VL 2 aS a,VL 2 aS b] (app emp []) (VL 2 aS (fm l7 a b)) (app emp []):=by
 refine .go Tryz.f196 ?_;refine .len 0 (fun dQ=> ?_);refine .len 1 (fun gW=> ?_);exact .fin [.r [],.r [],.le (.nB 8 0 2),.r [(3,X (dV 41 [(0,8),(1,16)] (QN 231 l7 (by kernel_rfl) x6W a b [] (by simp;omega)) X0))],.r [],.le (.fr 4 [(((fm l7 a b).length):Nat)=(List.map aS (fm l7 a b)).length] ⟨lm,trivial⟩)] []
def uG(a b:List aI):Int:=if dO true a 0=0 then dO true b 0 else dO true a 0
def uH(a b:List aI):List aI:=if dO true a 0=0/\dO true b 0=0 then fm iw a b else[]
def uI(a b:List aI):List aI:=if dO true a 0=0/\dO true b 0=0 then b else[]
theorem x6X(a b:List aI)(hn:a.length+b.length<1099511627776):FC Tryz.prog 46 [VL 2 aS a,VL 2 aS b] (app emp []) (.aZ [VL 2 aS (uH a b),VL 2 aS (uI a b),VI (uG a b)]) (app emp []):=by
 refine .go Tryz.f46 ?_;refine .len 0 (fun dQ=> ?_);refine .len 1 (fun gW=> ?_);refine .bp [.r [],.r [(1,X (aW (CF a) X0))],.r []] ((dO true a 0) !=0) (fun h2=> ?_) (fun h2=> ?_)
 ·have e1:((uH a b):List aI)=[]:=by
   simp only[uH,uI,uG];exact iF
  have e2:((uI a b):List aI)=[]:=by
   simp only[uH,uI,uG];exact iF
  have e3:((uG a b):Int)=(dO true a 0):=by
   simp only[uH,uI,uG];exact iF
  exact .aG [.r [],.le (.nL 4 2),.le (.nL 5 2)] [] (fun((z0,z1,z2):(List aI)×(List aI)×Int)=>(.aZ [VL 2 aS z0,VL 2 aS z1,VI z2],[])) _ _ (pr e1 (pr e2 e3))
 refine .bp [.r [(1,X (aW (CF b) X0))],.r []] ((dO true b 0) !=0) (fun h5=> ?_) (fun h5=> ?_)
 ·have e4:((uH a b):List aI)=[]:=by
   simp only[uH,uI,uG];exact iF
  have e5:((uI a b):List aI)=[]:=by
   simp only[uH,uI,uG];exact iF
  have e6:((uG a b):Int)=(dO true b 0):=by
   simp only[uH,uI,uG];exact iF
  exact .aG [.r [],.le (.nL 4 2),.le (.nL 5 2)] [] (fun((z0,z1,z2):(List aI)×(List aI)×Int)=>(.aZ [VL 2 aS z0,VL 2 aS z1,VI z2],[])) _ _ (pr e4 (pr e5 e6))
 have e7:((uH a b):List aI)=(fm iw a b):=by
  simp only[uH,uI,uG];exact iF
 have e8:((uI a b):List aI)=b:=by
  simp only[uH,uI,uG];exact iF
 have e9:((uG a b):Int)=0:=by
  simp only[uH,uI,uG];exact iF
 exact .aG [.r [(2,X (bV 120 (Xj a b oM) X0)),(4,X (o5 aS 136 b))],.le (.fr 5 [(b.length:Nat)=(List.map aS b).length] ⟨lm,trivial⟩)] [] (fun((z0,z1,z2):(List aI)×(List aI)×Int)=>(.aZ [VL 2 aS z0,VL 2 aS z1,VI z2],[])) _ _ (pr e7 (pr e8 e9))
end Go.Ch
end
section
namespace Go.Ch
open Go Go.Ab
def bC(z:Int):Tree:= .sc (.int .i64 z)
def n5(s:ByteArray):Tree:= .sc (.string s)
def nt(x y:Int):Int:=if x<y then-1 else if x>y then 1 else 0
def gP:List Int->Int
 | []=>0
 |x::l=>if x≠0 then x else gP l
theorem Xm{l:List Int}{i:Nat}(h:i<l.length):gP (l.drop i)=if l.getD i default≠0 then l.getD i default else gP (l.drop (i+1)):=by
 rw[zh h,gP];simp[List.getD,qa h]
theorem x6Y(a b:Int):gP [a,b]=if a≠0 then a else b:=by
 by_cases h:a=0
 ·by_cases k:b=0<;>simp[gP,h,k]
 simp[gP,h]
end Go.Ch
end
section
namespace Go.Ab
open Go
variable {P:Program} {w:World} {F:eL P} {S:bQ} {m:Place} {n:Nat} {l0:List (Nat×Ob)} {s:St} {Q:Exit->St->Prop}
end Go.Ab
end
section
namespace Go.Ab
open Go
variable {P:Program}
def UK(es:List (Int×MV))(n:Int):Px (wH es n=none):=⟨⟨none,none,none,some ⟨0,[],.cH,[]⟩,[]⟩,[wH es n=none],fun h=>⟨h,trivial⟩⟩
def UL{β:Type}(f:β->Int×MV)(l l':List β)(n:Int)(id:Nat)(v:MV):Px (wI (l.map f) n v=l'.map f):=
 ⟨⟨none,some [(id,.mp (l'.map f) none)],none,none,[]⟩,[[(id,Ob.mp (l'.map f) none)]=[(id,Ob.mp (wI (l.map f) n v) none)]],fun h=>⟨by rw[h],trivial⟩⟩
end Go.Ab
end
section
namespace Go.Ch
open Go Go.Ab
structure fN where
 clock:Int
 aC:Int
 af:Int
 tH:Int
 prt:Int
 nu:ByteArray
 nm:ByteArray
 vl:ByteArray
 deriving DecidableEq
instance:Inhabited fN:=⟨⟨0,0,0,0,0,mt,mt,mt⟩⟩
def cm(o:fN):Tree:= .agg [TI o.clock,TI o.aC,TI o.af,TI o.tH,TI o.prt,TS o.nu,TS o.nm,TS o.vl]
structure II where
 item:Int
 parent:Int
 place:ByteArray
 ah:List aI
instance:Inhabited II:=⟨⟨0,0,mt,[]⟩⟩
def D3(s:ByteArray)(i:Nat):Bool:=if i<s.size then(if gQ s i<97\/122<gQ s i then false else D3 s (i+1)) else true
termination_by s.size-i
def z45(s:ByteArray):Bool:=decide (1<=s.size/\s.size<=200/\gQ s (s.size- 1)≠97)&&D3 s 0
def CH(a b:fN):Int:=gP [nt a.clock b.clock,nt a.aC b.aC]
def iB(a b:fN):Prop:=a.clock<b.clock\/(a.clock=b.clock/\a.aC<b.aC)
instance (a b:fN):Decidable (iB a b):=by unfold iB;infer_instance
theorem IJ{a b:fN}:CH a b<0↔iB a b:=by
 unfold CH iB nt;rw[x6Y];split<;>split<;>(try split)<;>(try split)<;>omega
theorem Xo{a b:fN}:0<=CH a b↔¬iB a b:=by rw[<-IJ];omega
theorem z67{a b c:fN}(h:iB a b)(k:iB b c):iB a c:=by unfold iB at*;omega
theorem QS(a:fN):¬iB a a:=by unfold iB;omega
def gZ(o:fN):Int:=
 if o.af≠0/\o.af≠1 then 8
 else if o.clock<1\/1073741824<o.clock\/o.aC<0\/1000<o.aC\/o.tH<1\/1073741824<o.tH then 2
 else if(o.af=0/\(seq o.nm mt=false\/seq o.vl mt=false))\/(o.af=1/\(o.prt≠0\/seq o.nu mt=false)) then 4
 else if o.af=0/\(o.prt< -1\/1073741824<o.prt) then 2
 else if(o.af=0/\z45 o.nu=false)\/(o.af=1/\oC o.nm=false) then 9
 else if o.af=1/\seq o.vl mt=false/\j4 o.vl=false then 23
 else 0
def lX(l:List fN)(i:Nat):Int:=
 if i<l.length then
  if gZ (l.getD i default)≠0 then gZ (l.getD i default)
  else if 0<i/\¬iB (l.getD (i- 1) default) (l.getD i default) then 5
  else lX l (i+1)
 else 0
termination_by l.length-i
def dN:List fN->List fN->Option (List fN)
 | [],[]=>some []
 |a::l,[]=>(dN l []).map (a:: ·)
 | [],b::r=>(dN [] r).map (b:: ·)
 |a::l,b::r=>
  if iB a b then(dN l (b::r)).map (a:: ·)
  else if iB b a then(dN (a::l) r).map (b:: ·)
  else if a=b then(dN l r).map (a:: ·) else none
termination_by a b=>a.length+b.length
theorem y5r{x y:List fN}(h:0<x.length)(hy:y.length=0\/iB (x.getD 0 default) (y.getD 0 default)):dN x y=(dN (x.drop 1) y).map (x.getD 0 default:: ·):=by
 cases x with
 |nil=>simp at h
 |cons a l=>
  cases y with
  |nil=>simp[dN]
  |cons b r=>simp only[za] at hy;rw[dN,if_pos (by simpa using hy)];rfl
theorem y3J{x y:List fN}(h:0<y.length)(hx:x.length=0\/iB (y.getD 0 default) (x.getD 0 default)):dN x y=(dN x (y.drop 1)).map (y.getD 0 default:: ·):=by
 cases y with
 |nil=>simp at h
 |cons b r=>
  cases x with
  |nil=>simp[dN]
  |cons a l=>
   simp only[za] at hx;have hx:iB b a:=by simpa using hx
   rw[dN,if_neg (by unfold iB at*;omega),if_pos hx];rfl
theorem y5s{x y:List fN}(h:0<x.length)(h':0<y.length)(h1:¬iB (x.getD 0 default) (y.getD 0 default))(h2:¬iB (y.getD 0 default) (x.getD 0 default)):
 dN x y=if x.getD 0 default=y.getD 0 default then(dN (x.drop 1) (y.drop 1)).map (x.getD 0 default:: ·) else none:=by
 cases x with
 |nil=>simp at h
 |cons a l=>
  cases y with
  |nil=>simp at h'
  |cons b r=>simp only[za] at h1 h2;rw[dN,if_neg h1,if_neg h2];rfl
theorem Xq{a b:fN}(h1:a.clock=b.clock)(h2:a.aC=b.aC)(h3:a.af=b.af)(h4:a.tH=b.tH)(h5:a.prt=b.prt)(h6:a.nu=b.nu)(h7:a.nm=b.nm)(h8:a.vl=b.vl):a=b:=by
 cases a;cases b;simp_all
def CJ(s:ByteArray):Prop:=oC s=true
def FN(s:ByteArray):Prop:=j4 s=true
theorem FO:¬CJ mt:=by
 unfold CJ oC;rw[decide_eq_false (by intro h;have:=h.1;simp[ByteArray.size] at this)];decide
abbrev VG:=V CJ FN
theorem QT{a:aI}{l:List aI}{k:Nat}:(a::l).getD (k+1) default=l.getD k default:=by simp[List.getD]
theorem y8U{a:aI}{l:List aI}:(a::l).getD 0 default=a:=rfl
theorem Xr:∀{l:List aI},(∀k,k+1<l.length->slt (l.getD k default).name (l.getD (k+1) default).name=true)->vt l
 | [],_=>trivial
 | [a],_=>⟨fun b hb=>(by cases hb),trivial⟩
 |a::b::l,h=>by
  have ih:=Xr (l:=b::l) (fun k hk=>by have:=h (k+1) (by simp at hk|-;omega);simpa using this);have h0:=h 0 sM;simp only[y8U,QT] at h0;refine⟨fun c hc=> ?_,ih⟩;rcases qg.1 hc with rfl|hc
  ·exact h0
  exact FJ h0 (ih.1 c hc)
theorem Xt:∀{l:List aI},vt l->∀k,k+1<l.length->slt (l.getD k default).name (l.getD (k+1) default).name=true
 | [],_,k,hk=>by simp at hk
 |a::l,h,0,hk=>by
  cases l with
  |nil=>simp at hk
  |cons b l=>exact h.1 b sM
 |a::l,h,k+1,hk=>by
  have:=Xt h.2 k (by simp at hk;omega);rw[QT,QT];exact this
theorem x3X{l:List aI}{k:Nat}(h:k<l.length):l.getD k default∈l:=by
 rw[show l.getD k default=l[k] by simp[List.getD,qa h]];exact zB h
theorem x3Y{l:List aI}{a:aI}(h:a∈l):∃k,k<l.length/\l.getD k default=a:=by
 obtain⟨k,hk,e⟩:=q9.1 h;exact⟨k,hk,by rw[<-e];simp[List.getD,qa hk]⟩
theorem Xu(e:Bool)(l:List aI):∀(n i:Nat),l.length-i=n->(dO e l i=0↔∀k,i<=k->k<l.length->Q CJ FN e (l.getD k default).name (l.getD k default).val/\(0<k->slt (l.getD (k- 1) default).name (l.getD k default).name=true))
 |0,i,h=>by
  rw[dO,if_neg oM];exact⟨fun _ k h1 h2=>oM,fun _=>rfl⟩
 |n+1,i,h=>by
  have hi:i<l.length:=oM;have ih:=Xu e l n (i+1) oM;rw[dO,if_pos hi];have step:(∀k,i<=k->k<l.length->Q CJ FN e (l.getD k default).name (l.getD k default).val/\(0<k->slt (l.getD (k- 1) default).name (l.getD k default).name=true))↔
   (Q CJ FN e (l.getD i default).name (l.getD i default).val/\(0<i->slt (l.getD (i- 1) default).name (l.getD i default).name=true))/\dO e l (i+1)=0:=by
   rw[ih];constructor
   ·exact fun h=>⟨h i (qp _) hi,fun k h1 h2=>h k oM h2⟩
   rintro⟨h1,h2⟩ k h3 h4;by_cases e:k=i
   ·subst e;exact h1
   exact h2 k oM h4
  rw[step];generalize(l.getD i default)=x;generalize(l.getD (i- 1) default)=y;unfold Q CJ FN;have hm:seq x.val {data:=#[]}=true↔x.val=mt:=kj;have E5:seq x.val {data:=#[]}=false↔x.val≠mt:=nZ;simp only[Xg,E5];cases h1:oC x.name with
  |false=>simp
  |true=>
   rw[if_neg dM];cases h2:j4 x.val with
   |false=>
    by_cases h3:e=false\/x.val≠mt
    ·rw[if_pos ⟨rfl,h3⟩];constructor
     ·intro h;cases h
     rintro⟨⟨⟨_,h| ⟨h,h'⟩⟩,_⟩,_⟩
     ·cases h
     rcases h3 with h3|h3
     ·rw[h3] at h;cases h
     exact absurd h' h3
    rw[if_neg (fun h=>h3 h.2)];have he:e=true:=by cases e with|true=>rfl|false=>exact absurd (.inl rfl) h3
    have hx:x.val=mt:=qc fun h=>h3 (.inr h)
    by_cases h4:0<i/\slt y.name x.name=false
    ·rw[if_pos h4];constructor
     ·intro h;cases h
     rintro⟨⟨_,h⟩,_⟩;rw[h h4.1] at h4;cases h4.2
    rw[if_neg h4];refine⟨fun h=>⟨⟨⟨rfl,.inr ⟨he,hx⟩⟩,fun h0=> ?_⟩,h⟩,fun h=>h.2⟩;cases h5:slt y.name x.name with
    |true=>rfl
    |false=>exact absurd ⟨h0,h5⟩ h4
   |true=>
    rw[if_neg (fun h=>by cases h.1)];by_cases h4:0<i/\slt y.name x.name=false
    ·rw[if_pos h4];constructor
     ·intro h;cases h
     rintro⟨⟨_,h⟩,_⟩;rw[h h4.1] at h4;cases h4.2
    rw[if_neg h4];refine⟨fun h=>⟨⟨⟨rfl,.inl rfl⟩,fun h0=> ?_⟩,h⟩,fun h=>h.2⟩;cases h5:slt y.name x.name with
    |true=>rfl
    |false=>exact absurd ⟨h0,h5⟩ h4
theorem oW{e:Bool}{l:List aI}:dO e l 0=0↔VG e l:=by
 rw[Xu e l l.length 0 oM];constructor
 ·intro h;refine⟨Xr (fun k hk=>(h (k+1) oM hk).2 oM),fun a ha=> ?_⟩;obtain⟨k,hk,rfl⟩:=x3Y ha;exact(h k oM hk).1
 intro h k _ hk;refine⟨h.2 _ (x3X hk),fun h0=> ?_⟩;have:=Xt h.1 (k- 1) oM;rw[show k- 1+1=k by omega] at this;exact this
theorem Xw(a:List aI):∀(n i:Nat),a.length-i=n->sJ a a i=true
 |0,i,h=>by rw[sJ,if_neg oM]
 |n+1,i,h=>by
  have hi:i<a.length:=oM;rw[sJ,if_pos hi,if_pos ⟨rfl,rfl⟩,Xw a n (i+1) oM]
theorem KX(a:List aI):iN a a=true:=by unfold iN;rw[Xw a _ 0 rfl];simp
structure aL where
 aT:Int
 bh:Int
 ah:List aI
instance:Inhabited aL:=⟨⟨0,0,[]⟩⟩
def aU(e:aL):Tree:= .agg [.sc (.int .i64 e.aT),.sc (.int .i64 e.bh),.bX 2 (e.ah.map aS)]
def rB(c:Int):Prop:=c=9\/c=10\/(32<=c/\c<127)\/(160<=c/\c<55296)\/(57343<c/\c<=1114111)
instance (c:Int):Decidable (rB c):=by unfold rB;infer_instance
def gC(x:aL):Int:=
 if x.aT=0↔x.bh=0 then 4
 else if(x.bh=0/\¬rB x.aT)\/(x.bh≠0/\(x.bh<1\/1073741824<x.bh)) then 2
 else dO false x.ah 0
theorem IK{x:aL}(h:x.aT=0↔x.bh=0):gC x=4:=by unfold gC;rw[if_pos h]
theorem z37{x:aL}(h:¬(x.aT=0↔x.bh=0))(h2:(x.bh=0/\¬rB x.aT)\/(x.bh≠0/\(x.bh<1\/1073741824<x.bh))):gC x=2:=by unfold gC;rw[if_neg h,if_pos h2]
theorem D4{x:aL}(h:¬(x.aT=0↔x.bh=0))(h3:¬x.bh=0\/rB x.aT)(h4:x.bh=0\/(1<=x.bh/\x.bh<=1073741824)):gC x=dO false x.ah 0:=by
 unfold gC;rw[if_neg h,if_neg];rintro(⟨a,b⟩| ⟨a,b⟩)
 ·rcases h3 with h3|h3
  ·exact h3 a
  exact b h3
 rcases h4 with h4|h4
 ·exact a h4
 omega
def z54(l:List aL)(i:Nat):Int:=if i<l.length then(if gC (l.getD i default)=0 then z54 l (i+1) else gC (l.getD i default)) else 0
termination_by l.length-i
def SzE(l:List aL):Prop:=∀x∈l,Lr x.ah
theorem IL{l:List aL}{k:Nat}(h:k<l.length):l.getD k default∈l:=by
 rw[show l.getD k default=l[k] by simp[List.getD,qa h]];exact zB h
def FP(x y:aL):Bool:=(x.aT==y.aT&&x.bh==y.bh)&&iN x.ah y.ah
def Aa(a b:List aL)(i:Nat):Bool:=if i<a.length then(if FP (a.getD i default) (b.getD i default)=true then Aa a b (i+1) else false) else true
termination_by a.length-i
def wT(a b:List aL):Bool:=decide (a.length=b.length)&&Aa a b 0
theorem y8W(x:aL):FP x x=true:=by unfold FP;rw[KX];simp
theorem Xx(a:List aL):∀(n i:Nat),a.length-i=n->Aa a a i=true
 |0,i,h=>by rw[Aa,if_neg oM]
 |n+1,i,h=>by
  have hi:i<a.length:=oM;rw[Aa,if_pos hi,if_pos (y8W _),Xx a n (i+1) oM]
theorem y8X(a:List aL):wT a a=true:=by unfold wT;rw[Xx a _ 0 rfl];simp
theorem Xy(a b:List aI):∀(n i:Nat),a.length-i=n->sJ a b i=true->∀k,i<=k->k<a.length->a.getD k default=b.getD k default
 |0,i,h,_=>fun k h1 h2=>oM
 |n+1,i,h,hs=>by
  have hi:i<a.length:=oM;rw[sJ,if_pos hi] at hs;split at hs
  ·rename_i he;intro k h1 h2;by_cases e:k=i
   ·subst e;generalize a.getD k default=x at*
    generalize b.getD k default=y at*
    cases x;cases y;simp_all
   exact Xy a b n (i+1) oM hs k oM h2
  cases hs
theorem x3Z{a b:List aI}:iN a b=true↔a=b:=by
 constructor
 ·intro h;unfold iN at h;simp only[qq,decide_eq_true_eq] at h;refine List.ext_getElem h.1 (fun k h1 h2=> ?_);have:=Xy a b _ 0 rfl h.2 k oM h1;simpa[List.getD,qa h1,qa h2] using this
 intro h;subst h;exact KX _
theorem Xz(l:List aL):∀(n i:Nat),l.length-i=n->(z54 l i=0↔∀k,i<=k->k<l.length->gC (l.getD k default)=0)
 |0,i,h=>by rw[z54,if_neg oM];exact⟨fun _ k h1 h2=>oM,fun _=>rfl⟩
 |n+1,i,h=>by
  have hi:i<l.length:=oM;have ih:=Xz l n (i+1) oM;rw[z54,if_pos hi];by_cases e:gC (l.getD i default)=0
  ·rw[if_pos e,ih];constructor
   ·intro h k h1 h2;by_cases ek:k=i
    ·subst ek;exact e
    exact h k oM h2
   exact fun h k h1 h2=>h k oM h2
  rw[if_neg e];exact⟨fun h=>absurd h e,fun h=>h i (qp _) hi⟩
theorem x30{l:List aL}:z54 l 0=0↔∀x∈l,gC x=0:=by
 rw[Xz l _ 0 rfl];constructor
 ·intro h x hx;obtain⟨k,hk,e⟩:=q9.1 hx;have:=h k oM hk;rw[<-e];simpa[List.getD,qa hk] using this
 exact fun h k _ hk=>h _ (IL hk)
theorem x6Z{x:aL}(h:gC x=0):VG false x.ah:=by
 unfold gC at h;split at h
 ·omega
 split at h
 ·omega
 exact oW.1 h
end Go.Ch
end
section
set_option maxRecDepth 100000
set_option maxHeartbeats 4000000
open Go Go.Proofs Go.Ab
namespace Go.Ch
theorem XA(c:Int):FC Tryz.prog 134 [VI c] (app emp []) (VB (decide (rB c))) (app emp []):=by
 refine .go Tryz.f134 ?_;have e1:((decide (rB c)):Bool)=(((((c==9)|| (c==10))|| (decide (c>=32)&&decide (c<127)))|| (decide (c>=160)&&decide (c<55296)))|| (decide (c>57343)&&decide (c<=1114111))):=by
  rw[zp,decide_eq_true_iff];unfold rB;simp only[qM,qq,decide_eq_true_eq,beq_iff_eq];constructor<;>intro hh<;>omega
 exact .aG (let d:=(c==9)|| (c==10);let a:=d|| (decide (c>=32)&&decide (c<127));let b:=a|| (decide (c>=160)&&decide (c<55296));[.r [],.r [(4,Xv 1 (!(c==9)) X0),(5,X (b7 (c==9))),(8,Xv 1 (!d) X0),(9,Xv 1 (!d) X0),(11,Xv 1 ((!d)&&(decide (c>=32))) X0),(12,kH (!d) (decide (c>=32))),(13,X (b7 d)),(16,Xv 1 (!a) X0),(17,Xv 1 (!a) X0),(19,Xv 1 ((!a)&&(decide (c>=160))) X0),(20,kH (!a) (decide (c>=160))),(21,X (b7 a)),(24,Xv 1 (!b) X0),(25,Xv 1 (!b) X0),(27,Xv 1 ((!b)&&(decide (c>57343))) X0),(28,kH (!b) (decide (c>57343))),(29,X (b7 b))]]) [] (fun z0:Bool=>(VB z0,[])) _ _ e1
theorem pG{a b:Int}:((a !=0)=(b !=0))↔(a=0↔b=0):=by
 rw[zp];simp;omega
theorem XB(x:aL):FC Tryz.prog 117 [.t (aU x)] (app emp []) (VI (gC x)) (app emp []):=by
 refine .go Tryz.f117 ?_;refine .bp [.r [],.r []] ((x.aT !=0)==(x.bh !=0)) (fun h1=> ?_) (fun h1=> ?_)
 ·have e1:((gC x):Int)=4:=by
   first|exact IK (pG.1 h1)|exact z37 (fun h=>h1 (pG.2 h)) (.inl h3)|exact z37 (fun h=>h1 (pG.2 h)) (.inr h4)|exact D4 (fun h=>h1 (pG.2 h)) h3 h4| (exfalso;simp_all;done)
  exact .aG [.r []] [] (fun z0:Int=>(VI z0,[])) _ _ e1
 refine .bp (let a:=x.bh==0;[.r [(5,Xv 1 a X0),(6,Xv 1 a (aW (XA x.aT) X0)),(7,Xv 1 a X0),(8,X (Xk a))]]) ((x.bh==0)&& !(decide (rB x.aT))) (fun h3=> ?_) (fun h3=> ?_)
 ·refine .bp [] ((x.bh==0)&& !(decide (rB x.aT))) (fun h3=> ?_) (fun h3=> ?_)
  ·have e2:((gC x):Int)=2:=by
    first|exact IK (pG.1 h1)|exact z37 (fun h=>h1 (pG.2 h)) (.inl h3)|exact z37 (fun h=>h1 (pG.2 h)) (.inr h4)|exact D4 (fun h=>h1 (pG.2 h)) h3 h4| (exfalso;simp_all;done)
   exact .aG [.r []] [] (fun z0:Int=>(VI z0,[])) _ _ e2
  have e3:((gC x):Int)=(dO false x.ah 0):=by
   first|exact IK (pG.1 h1)|exact z37 (fun h=>h1 (pG.2 h)) (.inl h3)|exact z37 (fun h=>h1 (pG.2 h)) (.inr h4)|exact D4 (fun h=>h1 (pG.2 h)) h3 h4| (exfalso;simp_all;done)
  exact .aG [.r [(2,X (aW (FM x.ah) X0))]] [] (fun z0:Int=>(VI z0,[])) _ _ e3
 refine .bp (let a:=x.bh !=0;let b:=decide (x.bh<1);[.r [(5,Xv 1 a X0),(6,Xv 1 a X0),(7,Xv 1 a X0),(9,Xv 1 (a&& !b) X0),(10,Xv 1 (a&& !b) X0),(11,x5 a b),(12,X (Xk a))]]) ((x.bh !=0)&&(decide (x.bh<1)||decide (x.bh>1073741824))) (fun h4=> ?_) (fun h4=> ?_)
 ·have e4:((gC x):Int)=2:=by
   first|exact IK (pG.1 h1)|exact z37 (fun h=>h1 (pG.2 h)) (.inl h3)|exact z37 (fun h=>h1 (pG.2 h)) (.inr h4)|exact D4 (fun h=>h1 (pG.2 h)) h3 h4| (exfalso;simp_all;done)
  exact .aG [.r []] [] (fun z0:Int=>(VI z0,[])) _ _ e4
 have e5:((gC x):Int)=(dO false x.ah 0):=by
  first|exact IK (pG.1 h1)|exact z37 (fun h=>h1 (pG.2 h)) (.inl h3)|exact z37 (fun h=>h1 (pG.2 h)) (.inr h4)|exact D4 (fun h=>h1 (pG.2 h)) h3 h4| (exfalso;simp_all;done)
 exact .aG [.r [(2,X (aW (FM x.ah) X0))]] [] (fun z0:Int=>(VI z0,[])) _ _ e5
theorem XC(l:List aL):FC Tryz.prog 199 [VL 3 aU l] (app emp []) (VI (z54 l 0)) (app emp []):=by
 refine .go Tryz.f199 ?_;refine .len 0 (fun dQ=> ?_);refine .loop (α:=Nat) [.r [],.r [(1,X (Xl aU l))]] 32 (fun i=>([(6,VL 3 aU l),(7,VI (l.length:Int)),(8,VI (i:Int))],[])) (fun i=>i<=l.length/\z54 l 0=z54 l i) (fun i=>l.length-i) (0:Nat) ?_ ?_
 ·exact⟨oM,rfl⟩
 rintro i I2 ic;try dsimp only at I2
 refine .bp [.r []] (decide ((i:Int)< (l.length:Int))) (fun h2=> ?_) (fun h2=> ?_)
 ·refine .bp [.r [(0,X (Xi aU l (i:Int)))],.r [(1,X (aW (XB ((l.getD i default))) X0))],.r []] ((gC ((l.getD i default))) !=0) (fun h5=> ?_) (fun h5=> ?_)
  ·have e1:((z54 l 0):Int)=(gC ((l.getD i default))):=by
    rw[I2.2,z54];exact iF
   exact .aG [.r []] [] (fun z0:Int=>(VI z0,[])) _ _ e1
  refine .back [.r [(0,X (Xn ((i:Int)+1)))]] [] (ic ((i+1):Nat) ?_ ?_)
  ·refine⟨oM,?_⟩;rw[I2.2,z54,if_pos oM,if_pos oM]
  exact tO
 have e2:((z54 l 0):Int)=0:=by
  rw[I2.2,z54];exact iF
 exact .aG [.r []] [] (fun z0:Int=>(VI z0,[])) _ _ e2
theorem QU(a b:List aI):FC Tryz.prog 149 [VL 2 aS a,VL 2 aS b] (app emp []) (VB (iN a b)) (app emp []):=by
 refine .go Tryz.f149 ?_;refine .len 0 (fun dQ=> ?_);refine .len 1 (fun gW=> ?_);refine .bp [.r [],.r [(1,X (Xl aS a)),(3,X (Xl aS b))]] ((a.length:Int) !=(b.length:Int)) (fun h1=> ?_) (fun h1=> ?_)
 ·have e1:((iN a b):Bool)=false:=by
   unfold iN;rw[decide_eq_false oM];rfl
  exact .aG [.r []] [] (fun z0:Bool=>(VB z0,[])) _ _ e1
 refine .loop (α:=Nat) [.r [(1,X (Xl aS a))]] 72 (fun i=>([(0,VL 2 aS a),(1,VL 2 aS b),(12,VI (a.length:Int)),(13,VI (i:Int))],[])) (fun i=>i<=a.length/\sJ a b 0=sJ a b i) (fun i=>a.length-i) (0:Nat) ?_ ?_
 ·exact⟨oM,rfl⟩
 rintro i I4 kJ;try dsimp only at I4
 refine .bp [.r []] (decide ((i:Int)< (a.length:Int))) (fun h4=> ?_) (fun h4=> ?_)
 ·refine .bp [.r [],.r [(2,X (Xi aS a (i:Int))),(6,X (Xi aS b (i:Int)))]] (!(seq (((a.getD i default)).name) (((b.getD i default)).name)&&(seq (((a.getD i default)).val) (((b.getD i default)).val)&&true))) (fun h6=> ?_) (fun h6=> ?_)
  ·have e2:((iN a b):Bool)=false:=by
    unfold iN;rw[I4.2,sJ,if_pos oM,if_neg (by clear kJ;simp only[nZ,kj] at h6;rintro⟨x,y⟩;simp_all)];simp
   exact .aG [.r []] [] (fun z0:Bool=>(VB z0,[])) _ _ e2
  refine .back [.r [(0,X (Xn ((i:Int)+1)))]] [] (kJ ((i+1):Nat) ?_ ?_)
  ·refine⟨oM,?_⟩;rw[I4.2,sJ,if_pos oM,if_pos (by clear kJ;simp only[nZ,kj] at h6;simp_all)]
  exact tO
 have e3:((iN a b):Bool)=true:=by
  unfold iN;rw[I4.2,sJ,if_neg oM,decide_eq_true oM];rfl
 exact .aG [.r []] [] (fun z0:Bool=>(VB z0,[])) _ _ e3
theorem y5t(x y:aL):FC Tryz.prog 27 [.t (aU x),.t (aU y)] (app emp []) (VB (FP x y)) (app emp []):=by
 refine .go Tryz.f27 ?_;have e1:((FP x y):Bool)=(((x.aT==y.aT)&&(x.bh==y.bh))&&(iN x.ah y.ah)):=by
  rfl
 exact .aG (let a:=x.aT==y.aT;let b:=a&&(x.bh==y.bh);[.r [],.r [(7,Xv 1 a X0),(9,Xv 1 a X0),(10,Xv 2 a X0),(11,X (Xk a)),(14,Xv 1 b X0),(16,Xv 1 b X0),(17,Xv 2 b (aW (Vs x.ah y.ah) X0)),(18,X (Xk b))]]) [] (fun z0:Bool=>(VB z0,[])) _ _ e1
theorem y5u(a b:List aL):FC Tryz.prog 10 [VL 3 aU a,VL 3 aU b] (app emp []) (VB (wT a b)) (app emp []):=by
 refine .go Tryz.f10 ?_;refine .len 0 (fun dQ=> ?_);refine .len 1 (fun gW=> ?_);refine .bp [.r [],.r [(1,X (Xl aU a)),(3,X (Xl aU b))]] ((a.length:Int) !=(b.length:Int)) (fun h1=> ?_) (fun h1=> ?_)
 ·have e1:((wT a b):Bool)=false:=by
   unfold wT;rw[decide_eq_false oM];rfl
  exact .aG [.r []] [] (fun z0:Bool=>(VB z0,[])) _ _ e1
 refine .loop (α:=Nat) [.r [(1,X (Xl aU a))]] 72 (fun i=>([(0,VL 3 aU a),(1,VL 3 aU b),(12,VI (a.length:Int)),(13,VI (i:Int))],[])) (fun i=>i<=a.length/\Aa a b 0=Aa a b i) (fun i=>a.length-i) (0:Nat) ?_ ?_
 ·exact⟨oM,rfl⟩
 rintro i I4 kJ;try dsimp only at I4
 refine .bp [.r []] (decide ((i:Int)< (a.length:Int))) (fun h4=> ?_) (fun h4=> ?_)
 ·refine .bp [.r [],.r [(2,X (Xi aU a (i:Int))),(6,X (Xi aU b (i:Int))),(8,X (aW (y5t ((a.getD i default)) ((b.getD i default))) X0))]] (!(FP ((a.getD i default)) ((b.getD i default)))) (fun h6=> ?_) (fun h6=> ?_)
  ·have e2:((wT a b):Bool)=false:=by
    unfold wT;rw[I4.2,Aa,if_pos oM,if_neg (by rw[h6];decide)];simp
   exact .aG [.r []] [] (fun z0:Bool=>(VB z0,[])) _ _ e2
  refine .back [.r [(0,X (Xn ((i:Int)+1)))]] [] (kJ ((i+1):Nat) ?_ ?_)
  ·refine⟨oM,?_⟩;rw[I4.2,Aa,if_pos oM,if_pos h6]
  exact tO
 have e3:((wT a b):Bool)=true:=by
  unfold wT;rw[I4.2,Aa,if_neg oM,decide_eq_true oM];rfl
 exact .aG [.r []] [] (fun z0:Bool=>(VB z0,[])) _ _ e3
end Go.Ch
end
section
namespace Go.Ch
open Go Go.Ab
inductive U where
 |K
 |A
 |C
inductive Sw:List U->List U->Prop
 |refl (u:List U):Sw u u
 |cons (x:U) {u v:List U} (h:Sw u v):Sw (x::u) (x::v)
 |swap (u:List U):Sw (.A:: .C::u) (.C:: .A::u)
 |symm {u v:List U} (h:Sw u v):Sw v u
 |trans {u v w:List U} (h:Sw u v) (k:Sw v w):Sw u w
theorem Sw.left(w:List U){u v:List U}(h:Sw u v):Sw (w++u) (w++v):=by
 induction w with
 |nil=>exact h
 |cons x w ih=>exact .cons x ih
theorem Sw.right(w:List U){u v:List U}(h:Sw u v):Sw (u++w) (v++w):=by
 induction h with
 |refl u=>exact .refl _
 |cons x _ ih=>exact .cons x ih
 |swap u=>exact .swap _
 |symm _ ih=>exact .symm ih
 |trans _ _ a b=>exact .trans a b
abbrev rep(n:Nat)(x:U):List U:=List.replicate n x
theorem oD(n:Nat)(x:U):rep (n+1) x=x::rep n x:=rfl
theorem x60(a:Nat)(u:List U):Sw (.C::(rep a .A++u)) (rep a .A++ .C::u):=by
 induction a with
 |zero=>exact .refl _
 |succ a ih=>exact .trans (.symm (.swap _)) (.cons _ ih)
theorem x31(c a:Nat)(u:List U):Sw (rep c .C++(rep a .A++u)) (rep a .A++(rep c .C++u)):=by
 induction c with
 |zero=>exact .refl _
 |succ c ih=>exact .trans (.cons _ ih) (x60 a _)
def QV:List (Nat×Nat)->List (Nat×Nat)
 | []=>[]
 | (a,c)::r=>(a+1,c)::r
def QW:List (Nat×Nat)->List (Nat×Nat)
 | []=>[]
 | (a,c)::r=>(a,c+1)::r
def lK:List U->List (Nat×Nat)
 | []=>[(0,0)]
 | .K::u=>(0,0)::lK u
 | .A::u=>QV (lK u)
 | .C::u=>QW (lK u)
theorem QX(u:List U):∃a c r,lK u=(a,c)::r:=by
 induction u with
 |nil=>exact⟨0,0,[],rfl⟩
 |cons x u ih=>
  obtain⟨a,c,r,h⟩:=ih;cases x<;>simp[lK,QV,QW,h]
theorem x63{u v:List U}(h:Sw u v):lK u=lK v:=by
 induction h with
 |refl u=>rfl
 |cons x _ ih=>cases x<;>simp[lK,ih]
 |swap u=>obtain⟨a,c,r,h⟩:=QX u;simp[lK,h,QV,QW]
 |symm _ ih=>exact ih.symm
 |trans _ _ a b=>exact a.trans b
def iC:List U->List U->List U
 | .C::p,q=> .C::iC p q
 | [],q=>q
 | .K::p,[]=> .K::iC p []
 | .A::p,[]=> .A::iC p []
 | .K::p,.A::q=> .A::iC (.K::p) q
 | .A::p,.A::q=> .A::iC (.A::p) q
 | .K::p,.K::q=> .K::iC p q
 | .K::p,.C::q=> .C::iC p q
 | .A::p,.K::q=> .A::iC p q
 | .A::p,.C::q=>iC p q
termination_by p q=>p.length+q.length
theorem IM(p q:List U):Sw (iC p (.A::q)) (.A::iC p q):=by
 induction p with
 |nil=>simp only[iC];exact .refl _
 |cons x p ih=>
  cases x with
  |C=>simp only[iC];exact .trans (.cons _ ih) (.symm (.swap _))
  |K=>simp only[iC];exact .refl _
  |A=>simp only[iC];exact .refl _
theorem XD{q q':List U}(h:Sw q q'):∀p,Sw (iC p q) (iC p q'):=by
 induction h with
 |refl u=>exact fun q=> .refl _
 | @cons x u v _ ih=>
  intro p;induction p with
  |nil=>have:=ih [];simp only[iC] at this|-;exact .cons _ this
  |cons y p QY=>
   cases y with
   |C=>simp only[iC];exact .cons _ QY
   |K=>
    cases x with
    |A=>simp only[iC];exact .cons _ (ih _)
    |K=>simp only[iC];exact .cons _ (ih _)
    |C=>simp only[iC];exact .cons _ (ih _)
   |A=>
    cases x with
    |A=>simp only[iC];exact .cons _ (ih _)
    |K=>simp only[iC];exact .cons _ (ih _)
    |C=>simp only[iC];exact ih _
 |swap u=>
  intro p;induction p with
  |nil=>simp only[iC];exact .swap _
  |cons y p QY=>
   cases y with
   |C=>simp only[iC];exact .cons _ QY
   |K=>simp only[iC];exact .trans (.swap _) (.cons _ (.symm (IM _ _)))
   |A=>simp only[iC];exact .symm (IM _ _)
 |symm _ ih=>exact fun q=> .symm (ih q)
 |trans _ _ a b=>exact fun q=> .trans (a q) (b q)
def cS:List U->Nat
 | []=>0
 | .A::u=>cS u
 | .K::u=>cS u+1
 | .C::u=>cS u+1
def eV:List U->Nat
 | []=>0
 | .C::u=>eV u
 | .K::u=>eV u+1
 | .A::u=>eV u+1
theorem Lu{u v:List U}(h:Sw u v):cS u=cS v/\eV u=eV v:=by
 induction h with
 |refl u=>exact⟨rfl,rfl⟩
 |cons x _ ih=>cases x<;>simp[cS,eV,ih.1,ih.2]
 |swap u=>exact⟨rfl,rfl⟩
 |symm _ ih=>exact⟨ih.1.symm,ih.2.symm⟩
 |trans _ _ a b=>exact⟨a.1.trans b.1,a.2.trans b.2⟩
def cL:List U->List U->List U×List U
 | .A::p,q=>(.A::(cL p q).1,.K::(cL p q).2)
 |p,.A::q=>(.K::(cL p q).1,.A::(cL p q).2)
 | .K::p,.K::q=>(.K::(cL p q).1,.K::(cL p q).2)
 | .K::p,.C::q=>((cL p q).1,.C::(cL p q).2)
 | .C::p,.K::q=>(.C::(cL p q).1,(cL p q).2)
 | .C::p,.C::q=>cL p q
 |_,_=>([],[])
termination_by p q=>p.length+q.length
theorem XE(n:Nat):∀(p q:List U),p.length+q.length<=n->cS p=cS q->
 Sw (iC p (cL p q).2) (iC q (cL p q).1)/\cS (cL p q).2=eV p/\cS (cL p q).1=eV q/\eV (cL p q).1=eV (cL p q).2:=by
 induction n with
 |zero=>
  intro p q hn _;have h1:p=[]:=qZ.1 oM;have h2:q=[]:=qZ.1 oM;subst h1;subst h2;simp[cL,iC,cS,eV];exact .refl _
 |succ n ih=>
  intro p q hn h
  match p,q with
  | .A::p,q=>
   obtain⟨i1,i2,i3,i4⟩:=ih p q (by simp at hn;omega) (by simpa[cS] using h);simp only[cL,iC,cS,eV];exact⟨.trans (.cons _ i1) (.symm (IM _ _)),oM,oM,oM⟩
  | [],.A::q=>
   obtain⟨i1,i2,i3,i4⟩:=ih [] q (by simp at hn;simp;omega) (by simpa[cS] using h);simp only[cL,iC,cS,eV] at i1 i2 i3 i4|-;exact⟨.cons _ i1,oM,oM,oM⟩
  | .K::p,.A::q=>
   obtain⟨i1,i2,i3,i4⟩:=ih (.K::p) q (by simp at hn|-;omega) (by simpa[cS] using h);simp only[cL,cS,eV] at i1 i2 i3 i4|-;refine⟨.trans (IM _ _) ?_,oM,oM,oM⟩;simp only[iC];exact .cons _ i1
  | .C::p,.A::q=>
   obtain⟨i1,i2,i3,i4⟩:=ih (.C::p) q (by simp at hn|-;omega) (by simpa[cS] using h);simp only[cL,cS,eV] at i1 i2 i3 i4|-;refine⟨.trans (IM _ _) ?_,oM,oM,oM⟩;simp only[iC] at i1|-;exact .cons _ i1
  | .K::p,.K::q=>
   obtain⟨i1,i2,i3,i4⟩:=ih p q (by simp at hn;omega) (by simpa[cS] using h);simp only[cL,iC,cS,eV];exact⟨.cons _ i1,oM,oM,oM⟩
  | .K::p,.C::q=>
   obtain⟨i1,i2,i3,i4⟩:=ih p q (by simp at hn;omega) (by simpa[cS] using h);simp only[cL,iC,cS,eV];exact⟨.cons _ i1,oM,oM,oM⟩
  | .C::p,.K::q=>
   obtain⟨i1,i2,i3,i4⟩:=ih p q (by simp at hn;omega) (by simpa[cS] using h);simp only[cL,iC,cS,eV];exact⟨.cons _ i1,oM,oM,oM⟩
  | .C::p,.C::q=>
   obtain⟨i1,i2,i3,i4⟩:=ih p q (by simp at hn;omega) (by simpa[cS] using h);simp only[cL,iC,cS,eV];exact⟨.cons _ i1,oM,oM,oM⟩
  | [],[]=>simp[cL,iC,cS,eV];exact .refl _
  | [],.K::q=>simp[cS] at h
  | [],.C::q=>simp[cS] at h
  | .K::p,[]=>simp[cS] at h
  | .C::p,[]=>simp[cS] at h
structure aA where
 af:Int
 n:Int
instance:Inhabited aA:=⟨⟨0,0⟩⟩
def bk(s:aA):Tree:= .agg [.sc (.int .i64 s.af),.sc (.int .i64 s.n)]
def j5(k:Int):U:=if k=1 then .A else if k=2 then .C else .K
def ex:List aA->List U
 | []=>[]
 |s::l=>rep s.n.toNat (j5 s.af)++ex l
theorem x7(a b:List aA):ex (a++b)=ex a++ex b:=by
 induction a with
 |nil=>rfl
 |cons s a ih=>simp[ex,ih]
def wk(s:aA):Prop:=0<=s.af/\s.af<=2/\1<=s.n
def Nx(s t:aA):Prop:=s.af≠t.af/\¬(s.af=2/\t.af=1)
theorem Lv{k n:Int}(h:0<=k/\k<=2)(hn:1<=n):wk ⟨k,n⟩:=⟨h.1,h.2,hn⟩
theorem Lw{s:aA}{k n:Int}(h:s.af≠k)(h2:¬(s.af=2/\k=1)):Nx s ⟨k,n⟩:=⟨h,h2⟩
def jk:List aA->Prop
 | []=>True
 | [s]=>wk s
 |s::t::l=>wk s/\Nx s t/\jk (t::l)
theorem jk.head{s:aA}{l:List aA}(h:jk (s::l)):wk s:=by
 cases l with
 |nil=>exact h
 |cons t l=>exact h.1
theorem jk.tail{s:aA}{l:List aA}(h:jk (s::l)):jk l:=by
 cases l with
 |nil=>trivial
 |cons t l=>exact h.2.2
theorem jk.all:∀{l:List aA},jk l->∀s∈l,wk s
 | [],_,s,h=>by cases h
 |t::l,h,s,hs=>by
  rcases qg.1 hs with rfl|hs
  ·exact h.head
  exact h.tail.all s hs
theorem IN:∀{l:List aA} {s:aA},jk l->wk s->(∀t,l.getLast? =some t->Nx t s)->jk (l++[s])
 | [],s,_,h,_=>h
 | [t],s,h1,h2,h3=>⟨h1,h3 t rfl,h2⟩
 |t::t'::l,s,h1,h2,h3=>⟨h1.1,h1.2.1,IN (l:=t'::l) h1.2.2 h2 (fun x hx=>h3 x (by simpa using hx))⟩
theorem XF:∀{l:List aA} {s s':aA},jk (l++[s])->s'.af=s.af->1<=s'.n->jk (l++[s'])
 | [],s,s',h,e,hn=>⟨by rw[e];exact h.1,by rw[e];exact h.2.1,hn⟩
 | [t],s,s',h,e,hn=>⟨h.1,by unfold Nx;rw[e];exact h.2.1,by have:=h.2.2;exact⟨by rw[e];exact this.1,by rw[e];exact this.2.1,hn⟩⟩
 |t::t'::l,s,s',h,e,hn=>⟨h.1,h.2.1,XF (l:=t'::l) h.2.2 e hn⟩
theorem QZ(m n:Nat)(x:U):rep (m+n) x=rep m x++rep n x:=List.replicate_append_replicate.symm
def tI(k:Int)(n:Nat):List aA:=if n=0 then[] else[⟨k,n⟩]
def wm(k:Nat):List (Nat×Nat)->List aA
 | []=>tI 0 k
 | (a,c)::r=>if a=0/\c=0 then(if r=[] then tI 0 k else wm (k+1) r) else tI 0 k++tI 1 a++tI 2 c++(if r=[] then[] else wm 1 r)
theorem x64(n:Nat)(u:List U):lK (rep n .K++u)=List.replicate n (0,0)++lK u:=by
 induction n with
 |zero=>rfl
 |succ n ih=>rw[oD,qm,lK,ih];rfl
theorem XG(n:Nat){u:List U}{a c:Nat}{r:List (Nat×Nat)}(h:lK u=(a,c)::r):lK (rep n .A++u)=(a+n,c)::r:=by
 induction n with
 |zero=>exact h
 |succ n ih=>rw[oD,qm,lK,ih];rfl
theorem Q0(n:Nat){u:List U}{a c:Nat}{r:List (Nat×Nat)}(h:lK u=(a,c)::r):lK (rep n .C++u)=(a,c+n)::r:=by
 induction n with
 |zero=>exact h
 |succ n ih=>rw[oD,qm,lK,ih];rfl
theorem x65(n k:Nat)(l:List (Nat×Nat))(hl:l≠[]):wm k (List.replicate n (0,0)++l)=wm (k+n) l:=by
 induction n generalizing k with
 |zero=>rfl
 |succ n ih=>
  have dh:List.replicate n (0,0)++l≠[]:=by simp[hl]
  rw[qH,qm,wm,if_pos ⟨rfl,rfl⟩,if_neg dh,ih];congr 1;omega
theorem CK:j5 0= .K:=rfl
theorem Bp:j5 1= .A:=rfl
theorem IP:j5 2= .C:=rfl
theorem Ad{s:aA}(h:wk s):s.af=0\/s.af=1\/s.af=2:=by have:=h.1;have:=h.2.1;omega
theorem x0V{l:List aA}(h:jk l){a c:Nat}{r:List (Nat×Nat)}(e:lK (ex l)=(a,c)::r):
 (∀s l',l=s::l'->s.af=0->a=0/\c=0)/\(∀s l',l=s::l'->s.af≠1->a=0)/\(∀s l',l=s::l'->s.af≠0->a≠0\/c≠0)/\(l=[]->a=0/\c=0/\r=[]):=by
 cases l with
 |nil=>simp[ex,lK] at e;refine⟨fun s l' h=>(by cases h),fun s l' h=>(by cases h),fun s l' h=>(by cases h),fun _=>⟨e.1.1.symm,e.1.2.symm,e.2⟩⟩
 |cons s l=>
  have ok:=h.head;obtain⟨m,hm⟩:∃m,s.n.toNat=m+1:=⟨s.n.toNat- 1,by have:=ok.2.2;omega⟩
  obtain⟨a',c',r',e'⟩:=QX (ex l);simp only[ex] at e;refine⟨fun t l' h' hk=> ?_,fun t l' h' hk=> ?_,fun t l' h' hk=> ?_,fun h'=>by cases h'⟩
  ·cases h';rw[hk,CK,hm,oD,qm,lK] at e;simp only[jf,qD] at e;exact⟨e.1.1.symm,e.1.2.symm⟩
  ·cases h';rcases Ad ok with k0|k1|k2
   ·rw[k0,CK,hm,oD,qm,lK] at e;simp only[jf,qD] at e;exact e.1.1.symm
   ·exact absurd k1 hk
   rw[k2,IP,Q0 _ e'] at e;simp only[jf,qD] at e;rw[<-e.1.1];cases l with
   |nil=>simp[ex,lK] at e';exact e'.1.1.symm
   |cons t l=>
    have nx:=h.2.1;have kt:=Ad h.2.2.head;have k0:t.af=0:=by
     rcases kt with q|q|q
     ·exact q
     ·exact absurd ⟨k2,q⟩ nx.2
     exact absurd (k2.trans q.symm) nx.1
    have okt:=h.2.2.head;obtain⟨m',nG⟩:∃m',t.n.toNat=m'+1:=⟨t.n.toNat- 1,by have:=okt.2.2;omega⟩
    simp only[ex] at e';rw[k0,CK,nG,oD,qm,lK] at e';simp only[jf,qD] at e';exact e'.1.1.symm
  cases h';rcases Ad ok with k0|k1|k2
  ·exact absurd k0 hk
  ·rw[k1,Bp,XG _ e'] at e;simp only[jf,qD] at e;left;omega
  rw[k2,IP,Q0 _ e'] at e;simp only[jf,qD] at e;right;omega
theorem Q1:∀{l:List aA},jk l->wm 0 (lK (ex l))=l/\∀k,0<k->(∀s l',l=s::l'->s.af≠0)->wm k (lK (ex l))=⟨0,k⟩::l
 | [],_=>⟨rfl,fun k hk _=>by simp only[ex,lK,wm];rw[if_pos ⟨trivial,trivial⟩,if_pos trivial,tI,if_neg oM]⟩
 |s::l,h=>by
  obtain⟨i1,i2⟩:=Q1 h.tail;have ok:=h.head;have hn:(s.n.toNat:Int)=s.n:=zL (by have:=ok.2.2;omega);have yT:s.n.toNat≠0:=by have:=ok.2.2;omega
  obtain⟨a,c,r,e⟩:=QX (ex l);obtain⟨q1,q2,q3,q4⟩:=x0V h.tail e;obtain⟨kd,n⟩:=s;simp only[ex] at hn yT|-;have main:kd≠0->∀k,wm k (lK (rep n.toNat (j5 kd)++ex l))=tI 0 k++⟨kd,n⟩::l:=by
   intro hk k;rcases Ad ok with k0|k1|k2
   ·exact absurd k0 hk
   ·simp only at k1;have ha:a=0:=by
     cases l with
     |nil=>exact(q4 rfl).1
     |cons t l=>exact q2 t l rfl (fun ht=>h.2.1.1 (by rw[ht,k1]))
    subst ha;rw[k1,Bp,XG _ e,wm,if_neg oM];rw[e,wm] at i1;rw[<-i1];have e1:tI 1 (0+n.toNat)=[⟨1,n⟩]:=by rw[tI,if_neg oM,zw,hn]
    rw[e1];by_cases hc:c=0
    ·subst hc;cases r<;>simp[tI]
    simp[tI,hc]
   simp only at k2;have hac:a=0/\c=0:=by
    cases l with
    |nil=>exact⟨(q4 rfl).1,(q4 rfl).2.1⟩
    |cons t l=>
     refine q1 t l rfl ?_;have nx:=h.2.1;rcases Ad h.2.2.head with q|q|q
     ·exact q
     ·exact absurd ⟨k2,q⟩ nx.2
     exact absurd (k2.trans q.symm) nx.1
   obtain⟨rfl,rfl⟩:=hac;rw[k2,IP,Q0 _ e,wm,if_neg oM];rw[e,wm,if_pos ⟨rfl,rfl⟩] at i1;rw[<-i1];have e1:tI 2 (0+n.toNat)=[⟨2,n⟩]:=by rw[tI,if_neg oM,zw,hn]
   rw[e1];cases r with
   |nil=>simp[tI]
   |cons x r=>simp[tI]
  refine⟨?_,fun k hk hs=> ?_⟩
  ·by_cases k0:kd=0
   ·subst k0;rw[CK,x64,x65 _ _ _ (by rw[e];simp)];have:=i2 (0+n.toNat) oM (fun t l' ht=>by subst ht;exact fun hk=>h.2.1.1 hk.symm);rw[this,zw,hn]
   rw[main k0];rfl
  rw[main (hs _ _ rfl),tI,if_neg oM];rfl
theorem y5z{a b:List aA}(ha:jk a)(hb:jk b)(h:Sw (ex a) (ex b)):a=b:=by
 rw[<-(Q1 ha).1,<-(Q1 hb).1,x63 h]
structure Wr where
 out:List aA
 add:Int
 cut:Int
def dm(w:Wr):List aA:=w.out++(if 0<w.add then[⟨1,w.add⟩] else[])++(if 0<w.cut then[⟨2,w.cut⟩] else[])
def kM(l:List aA)(n:Int):List aA:=
 if 0<l.length/\(l.getD (l.length- 1) default).af=0 then l.set (l.length- 1) ⟨(l.getD (l.length- 1) default).af,(l.getD (l.length- 1) default).n+n⟩ else l++[⟨0,n⟩]
def de(w:Wr)(k n:Int):Wr:=
 if n=0 then w else if k=1 then⟨w.out,w.add+n,w.cut⟩ else if k=2 then⟨w.out,w.add,w.cut+n⟩ else⟨kM (dm w) n,0,0⟩
def mw(w:Wr):List U:=ex w.out++(rep w.add.toNat .A++rep w.cut.toNat .C)
structure js(w:Wr):Prop where
 form:jk w.out
 last:∀t,w.out.getLast? =some t->t.af=0
 add:0<=w.add
 cut:0<=w.cut
theorem Q2{w:Wr}(h:js w):ex (dm w)=mw w:=by
 have h1:=h.add;have h2:=h.cut;unfold dm mw;rw[x7,x7,qI];congr 2
 ·split
  ·simp[ex,j5]
  rw[show w.add.toNat=0 by omega];rfl
 split
 ·simp[ex,j5]
 rw[show w.cut.toNat=0 by omega];rfl
theorem Q3{w:Wr}(h:js w):jk (dm w):=by
 have h1:=h.add;have h2:=h.cut;unfold dm;by_cases ha:0<w.add
 ·rw[if_pos ha];have f1:jk (w.out++[⟨1,w.add⟩]):=IN h.form (Lv oM oM) (fun t ht=>by
   have:=h.last t ht;exact Lw oM oM)
  by_cases hc:0<w.cut
  ·rw[if_pos hc];refine IN f1 (Lv oM oM) (fun t ht=> ?_);rw[zU] at ht;cases ht;exact Lw (by show(1:Int)≠2;decide) (by show¬((1:Int)=2/\(2:Int)=1);decide)
  rw[if_neg hc,qL];exact f1
 rw[if_neg ha,qL];by_cases hc:0<w.cut
 ·rw[if_pos hc];refine IN h.form (Lv oM oM) (fun t ht=> ?_);have:=h.last t ht;exact Lw oM oM
 rw[if_neg hc,qL];exact h.form
theorem XH{l:List aA}(h:0<l.length):l=l.take (l.length- 1)++[l.getD (l.length- 1) default]:=by
 conv=>lhs;rw[<-List.take_append_drop (l.length- 1) l]
 congr 1;rw[zh oM,qN oM];simp[List.getD,qa (show l.length- 1<l.length by omega)]
theorem x34{l:List aA}(h:0<l.length)(s:aA):l.set (l.length- 1) s=l.take (l.length- 1)++[s]:=by
 rw[List.set_eq_take_append_cons_drop,if_pos oM,qN oM]
theorem y3O{l:List aA}(h:0<l.length):l.getLast? =some (l.getD (l.length- 1) default):=by
 conv=>lhs;rw[XH h]
 rw[zU]
theorem x35{l:List aA}{n:Int}(hf:jk l)(hn:1<=n):jk (kM l n)/\(∀t,(kM l n).getLast? =some t->t.af=0)/\ex (kM l n)=ex l++rep n.toNat .K:=by
 unfold kM;split
 ·rename_i hc;obtain⟨h0,hk⟩:=hc;generalize hx:l.getD (l.length- 1) default=x at hk|-;have hl:=XH h0;rw[hx] at hl;rw[x34 h0];have Lx:wk x:=hf.all x (by rw[hl];simp);refine⟨XF (s:=x) (by rw[<-hl];exact hf) rfl (by have:=Lx.2.2;simp only;omega),fun t ht=> ?_,?_⟩
  ·rw[zU] at ht;cases ht;exact hk
  conv=>rhs;rw[hl]
  rw[x7,x7,qI];congr 1;simp only[ex,qL];rw[hk,CK,show(x.n+n).toNat=x.n.toNat+n.toNat by have:=Lx.2.2;omega];exact List.replicate_append_replicate.symm
 rename_i hc;refine⟨IN hf (Lv dM hn) (fun t ht=> ?_),fun t ht=> ?_,by rw[x7];simp[ex,j5]⟩
 ·have h0:0<l.length:=by
   rcases l with _| ⟨y,l⟩
   ·cases ht
   ·simp
  rw[y3O h0] at ht;cases ht;exact Lw (fun hh=>hc ⟨h0,hh⟩) oM
 rw[zU] at ht;cases ht;rfl
theorem D5{w:Wr}{k n:Int}(h:js w)(hk:0<=k/\k<=2)(hn:0<=n):js (de w k n)/\Sw (mw (de w k n)) (mw w++rep n.toNat (j5 k))/\(mw (de w k n)).length=(mw w).length+n.toNat:=by
 have h1:=h.add;have h2:=h.cut;unfold de;by_cases n0:n=0
 ·subst n0;rw[if_pos rfl];exact⟨h,by simp;exact .refl _,sM⟩
 rw[if_neg n0];by_cases k1:k=1
 ·subst k1;rw[if_pos rfl];refine⟨⟨h.form,h.last,by simp only;omega,h2⟩,?_,?_⟩
  ·unfold mw;simp only;rw[show(w.add+n).toNat=w.add.toNat+n.toNat by omega,QZ,Bp];simp only[qI];refine .left _ (.left _ ?_);have:=x31 w.cut.toNat n.toNat [];simp only[qL] at this;exact .symm this
  unfold mw;simp only[qf,zd];omega
 rw[if_neg k1];by_cases k2:k=2
 ·subst k2;rw[if_pos rfl];refine⟨⟨h.form,h.last,h1,by simp only;omega⟩,?_,?_⟩
  ·unfold mw;simp only;rw[show(w.cut+n).toNat=w.cut.toNat+n.toNat by omega,QZ,IP];simp only[qI];exact .refl _
  unfold mw;simp only[qf,zd];omega
 rw[if_neg k2];have k0:k=0:=oM;subst k0;obtain⟨q1,q2,q3⟩:=x35 (Q3 h) (n:=n) oM;rw[Q2 h] at q3;have e:mw ⟨kM (dm w) n,0,0⟩=mw w++rep n.toNat .K:=by
  rw[<-q3];simp[mw]
 refine⟨⟨q1,q2,zm _,zm _⟩,?_,?_⟩
 ·rw[e];exact .refl _
 rw[e];simp
def x8:U->Int
 | .K=>0
 | .A=>1
 | .C=>2
theorem x66(u:U):j5 (x8 u)=u:=by cases u<;>rfl
theorem x89(u:U):0<=x8 u/\x8 u<=2:=by cases u<;>decide
def z49(w:Wr):List U->Wr
 | []=>w
 |u::us=>z49 (de w (x8 u) 1) us
theorem D6(w:Wr)(a b:List U):z49 w (a++b)=z49 (z49 w a) b:=by
 induction a generalizing w with
 |nil=>rfl
 |cons u a ih=>exact ih _
theorem x36{w:Wr}(h:js w)(us:List U):js (z49 w us)/\Sw (mw (z49 w us)) (mw w++us):=by
 induction us generalizing w with
 |nil=>simp[z49];exact⟨h,.refl _⟩
 |cons u us ih=>
  obtain⟨a,b,_⟩:=D5 (n:=1) h (x89 u) dM;obtain⟨c,d⟩:=ih a;refine⟨c,.trans d ?_⟩;rw[x66] at b;have:=Sw.right us b;simpa using this
theorem y8Z(l:List aA):dm ⟨l,0,0⟩=l:=by simp[dm]
theorem y5A{l:List aA}{m n:Int}:kM (kM l m) n=kM l (m+n):=by
 unfold kM;by_cases hc:0<l.length/\(l.getD (l.length- 1) default).af=0
 ·rw[if_pos hc,if_pos hc];have hl:(l.set (l.length- 1) ⟨(l.getD (l.length- 1) default).af,(l.getD (l.length- 1) default).n+m⟩).length=l.length:=sM;have hg:(l.set (l.length- 1) ⟨(l.getD (l.length- 1) default).af,(l.getD (l.length- 1) default).n+m⟩).getD (l.length- 1) default=⟨(l.getD (l.length- 1) default).af,(l.getD (l.length- 1) default).n+m⟩:=by
   have h0:l.length- 1<l.length:=oM;simp[List.getD,h0]
  rw[hl,hg,if_pos ⟨hc.1,hc.2⟩,List.set_set];simp only;congr 2;omega
 rw[if_neg hc,if_neg hc];have hl:(l++[(⟨0,m⟩:aA)]).length=l.length+1:=sM;have hg:(l++[(⟨0,m⟩:aA)]).getD (l.length+1- 1) default=⟨0,m⟩:=sM;rw[hl,hg,if_pos ⟨oM,rfl⟩];simp[List.set_append_right]
theorem x9a(w:Wr)(n:Int):de w 1 n=⟨w.out,w.add+n,w.cut⟩:=by
 unfold de;by_cases h:n=0
 ·rw[if_pos h,h,Int.add_zero]
 rw[if_neg h];rfl
theorem x9b(w:Wr)(n:Int):de w 2 n=⟨w.out,w.add,w.cut+n⟩:=by
 unfold de;by_cases h:n=0
 ·rw[if_pos h,h,Int.add_zero]
 rw[if_neg h];rfl
theorem Q4(w:Wr){n:Int}(h:n≠0):de w 0 n=⟨kM (dm w) n,0,0⟩:=by
 unfold de;rw[if_neg h];rfl
theorem x37(w:Wr)(x:U)(m:Nat):z49 w (rep m x)=de w (x8 x) m:=by
 have one:∀m:Nat,de (de w (x8 x) (m:Int)) (x8 x) 1=de w (x8 x) ((m+1:Nat):Int):=by
  intro m;cases x with
  |A=>simp only[x8,x9a,Wr.mk.injEq,true_and,and_true];omega
  |C=>simp only[x8,x9b,Wr.mk.injEq,true_and,and_true];omega
  |K=>
   by_cases h0:m=0
   ·subst h0;simp[de]
   simp only[x8];rw[Q4 w (by omega:(m:Int)≠0),Q4 _ (by decide:(1:Int)≠0),Q4 w (by omega:((m+1:Nat):Int)≠0),y8Z,y5A];congr 2
 induction m with
 |zero=>simp[z49,de]
 |succ m ih=>
  rw[show rep (m+1) x=rep m x++[x] from List.replicate_succ',D6,ih];exact one m
def FQ(us:List U):List aA:=dm (z49 ⟨[],0,0⟩ us)
theorem Q5:js ⟨[],0,0⟩:=⟨trivial,fun t ht=>(by cases ht),zm _,zm _⟩
theorem wZ(us:List U):jk (FQ us)/\Sw (ex (FQ us)) us:=by
 obtain⟨a,b⟩:=x36 Q5 us;exact⟨Q3 a,by unfold FQ;rw[Q2 a];exact .trans b (by simp[mw,ex];exact .refl _)⟩
def uJ(l:List aA)(i:Nat)(b a:Int):Int:=
 if i<l.length then
  if(l.getD i default).af<0\/2< (l.getD i default).af then 8
  else if(l.getD i default).n<1\/2147483647< (l.getD i default).n then 2
  else if 0<i/\((l.getD (i- 1) default).af=(l.getD i default).af\/((l.getD (i- 1) default).af=2/\(l.getD i default).af=1)) then 5
  else uJ l (i+1) (if(l.getD i default).af≠1 then min (b+(l.getD i default).n) 2147483648 else b) (if(l.getD i default).af≠2 then min (a+(l.getD i default).n) 2147483648 else a)
 else if 2147483647<b\/2147483647<a then 3 else 0
termination_by l.length-i
def jT(l:List aA):Int:=uJ l 0 0 0
def IQ(l:List aA)(i:Nat):Prop:=∀k,i<=k->k<l.length->wk (l.getD k default)/\(0<k->Nx (l.getD (k- 1) default) (l.getD k default))
theorem Q6{l:List aA}{i:Nat}(h:i<l.length):l.drop i=l.getD i default::l.drop (i+1):=by
 rw[zh h];simp[List.getD,qa h]
theorem Ly{l:List aA}{i:Nat}(h:¬i<l.length):l.drop i=[]:=qN oM
theorem w0K(n:Nat)(u:List U):cS (rep n .K++u)=n+cS u:=by
 induction n with
 |zero=>simp
 |succ n ih=>rw[oD,qm,cS,ih];omega
theorem Q7(n:Nat)(u:List U):cS (rep n .A++u)=cS u:=by
 induction n with
 |zero=>simp
 |succ n ih=>rw[oD,qm,cS,ih]
theorem w0L(n:Nat)(u:List U):cS (rep n .C++u)=n+cS u:=by
 induction n with
 |zero=>simp
 |succ n ih=>rw[oD,qm,cS,ih];omega
theorem w0M(n:Nat)(u:List U):eV (rep n .K++u)=n+eV u:=by
 induction n with
 |zero=>simp
 |succ n ih=>rw[oD,qm,eV,ih];omega
theorem w0N(n:Nat)(u:List U):eV (rep n .A++u)=n+eV u:=by
 induction n with
 |zero=>simp
 |succ n ih=>rw[oD,qm,eV,ih];omega
theorem w0O(n:Nat)(u:List U):eV (rep n .C++u)=eV u:=by
 induction n with
 |zero=>simp
 |succ n ih=>rw[oD,qm,eV,ih]
theorem D7(n:Nat)(k:Int)(u:List U):(cS (rep n (j5 k)++u):Int)=(if k=1 then(0:Int) else(n:Int))+cS u:=by
 unfold j5;by_cases h1:k=1
 ·rw[if_pos h1,if_pos h1,Q7];omega
 rw[if_neg h1,if_neg h1];by_cases h2:k=2
 ·rw[if_pos h2,w0L];omega
 rw[if_neg h2,w0K];omega
theorem LA(n:Nat)(k:Int)(u:List U):(eV (rep n (j5 k)++u):Int)=(if k=2 then(0:Int) else(n:Int))+eV u:=by
 unfold j5;by_cases h1:k=1
 ·rw[if_pos h1,w0N,if_neg oM];omega
 rw[if_neg h1];by_cases h2:k=2
 ·rw[if_pos h2,if_pos h2,w0O];omega
 rw[if_neg h2,if_neg h2,w0M];omega
theorem XI(l:List aA):∀(m i:Nat) (b a:Int),l.length-i=m->0<=b->0<=a->b<=2147483648->a<=2147483648->
 (uJ l i b a=0↔IQ l i/\b+cS (ex (l.drop i))<=2147483647/\a+eV (ex (l.drop i))<=2147483647)
 |0,i,b,a,h,hb,ha,xT,DH=>by
  rw[uJ,if_neg oM,Ly oM];simp only[ex,cS,eV];split
  ·constructor
   ·intro h;omega
   rintro⟨_,h1,h2⟩;omega
  exact⟨fun _=>⟨fun k h1 h2=>oM,oM,oM⟩,fun _=>rfl⟩
 |m+1,i,b,a,h,hb,ha,xT,DH=>by
  have hi:i<l.length:=oM;rw[uJ,if_pos hi];have step:IQ l i↔(wk (l.getD i default)/\(0<i->Nx (l.getD (i- 1) default) (l.getD i default)))/\IQ l (i+1):=by
   constructor
   ·exact fun h=>⟨h i (qp _) hi,fun k h1 h2=>h k oM h2⟩
   rintro⟨h1,h2⟩ k h3 h4;by_cases e:k=i
   ·subst e;exact h1
   exact h2 k oM h4
  rw[step,Q6 hi];simp only[ex];rw[D7,LA];have ih:=fun b' a'=>XI l m (i+1) b' a' oM
  generalize l.getD i default=x at*
  generalize l.getD (i- 1) default=y at*
  unfold wk Nx;by_cases c1:x.af<0\/2<x.af
  ·rw[if_pos c1];constructor
   ·intro h;omega
   rintro⟨⟨⟨h,_⟩,_⟩,_⟩;omega
  rw[if_neg c1];have n0:(cS (ex (l.drop (i+1))):Int)>=0:=Int.natCast_nonneg _;have n1:(eV (ex (l.drop (i+1))):Int)>=0:=Int.natCast_nonneg _;by_cases c2:x.n<1\/2147483647<x.n
  ·rw[if_pos c2];constructor
   ·intro h;omega
   rintro⟨⟨⟨h,_⟩,_⟩,h1,h2⟩;exfalso;by_cases k1:x.af=1
   ·rw[if_neg oM] at h2;omega
   rw[if_neg k1] at h1;omega
  rw[if_neg c2];have hn:(x.n.toNat:Int)=x.n:=zL oM;rw[hn];by_cases c3:0<i/\(y.af=x.af\/(y.af=2/\x.af=1))
  ·rw[if_pos c3];constructor
   ·intro h;omega
   rintro⟨⟨⟨_,h⟩,_⟩,_⟩;have:=h c3.1;rcases c3.2 with q|q
   ·exact absurd q this.1
   exact absurd q this.2
  rw[if_neg c3,ih _ _ (by split<;>omega) (by split<;>omega) (by split<;>omega) (by split<;>omega)];constructor
  ·rintro⟨f,h1,h2⟩;refine⟨⟨⟨⟨oM,oM,oM⟩,fun h0=>⟨fun e=>c3 ⟨h0,.inl e⟩,fun e=>c3 ⟨h0,.inr e⟩⟩⟩,f⟩,?_,?_⟩
   ·by_cases k1:x.af=1
    ·rw[if_pos k1];rw[if_neg oM] at h1;omega
    rw[if_neg k1];rw[if_pos k1] at h1;omega
   by_cases k1:x.af=2
   ·rw[if_pos k1];rw[if_neg oM] at h2;omega
   rw[if_neg k1];rw[if_pos k1] at h2;omega
  rintro⟨⟨_,f⟩,h1,h2⟩;refine⟨f,?_,?_⟩
  ·by_cases k1:x.af=1
   ·rw[if_pos k1] at h1;rw[if_neg oM];omega
   rw[if_neg k1] at h1;rw[if_pos k1];omega
  by_cases k1:x.af=2
  ·rw[if_pos k1] at h2;rw[if_neg oM];omega
  rw[if_neg k1] at h2;rw[if_pos k1];omega
theorem XJ:∀{l:List aA},IQ l 0->jk l
 | [],_=>trivial
 | [s],h=>(h 0 (qp _) sM).1
 |s::t::l,h=>by
  have h0:=h 0 (qp _) sM;have h1:=h 1 oM sM;refine⟨h0.1,h1.2 oM,XJ (l:=t::l) (fun k _ hk=> ?_)⟩;have:=h (k+1) oM (by simp at hk|-;omega);refine⟨by simpa using this.1,fun kX=> ?_⟩;obtain⟨m,rfl⟩:∃m,k=m+1:=⟨k- 1,oM⟩
  simpa using this.2 oM
theorem D8:∀{l:List aA},jk l->IQ l 0
 | [],_=>fun k _ hk=>by simp at hk
 |s::l,h=>by
  have ih:=D8 h.tail;intro k _ hk;cases k with
  |zero=>exact⟨h.head,fun h=>absurd h dM⟩
  |succ k=>
   have:=ih k oM (by simpa using hk);refine⟨by simpa using this.1,fun _=> ?_⟩;cases k with
   |zero=>
    cases l with
    |nil=>simp at hk
    |cons t l=>exact h.2.1
   |succ k=>simpa using this.2 oM
def eR(l:List aA):Prop:=jk l/\cS (ex l)<=2147483647/\eV (ex l)<=2147483647
theorem wo{l:List aA}:jT l=0↔eR l:=by
 unfold jT eR;rw[XI l _ 0 0 0 rfl dM dM dM dM,List.drop_zero];constructor
 ·rintro⟨a,b,c⟩;exact⟨XJ a,oM,oM⟩
 rintro⟨a,b,c⟩;exact⟨D8 a,oM,oM⟩
theorem XK(l:List aA):(ex l).length<=cS (ex l)+eV (ex l):=by
 generalize ex l=u;induction u with
 |nil=>simp
 |cons x u ih=>cases x<;>simp only[cS,eV,qi]<;>omega
theorem FR{l:List aA}(h:jk l):l.length<=(ex l).length:=by
 induction l with
 |nil=>simp
 |cons s l ih=>
  have:=ih h.tail;have:=h.head.2.2;simp only[ex,qi,qf,zd];omega
theorem XL{l:List aA}{s:aA}(h:s∈l):s.n<=((ex l).length:Int):=by
 induction l with
 |nil=>cases h
 |cons t l ih=>
  simp only[ex,qf,zd];rcases qg.1 h with rfl|h
  ·omega
  have:=ih h;omega
def ru(l:List aA)(u:Int):List U:=(ex l).drop u.toNat
structure gR(l:List aA)(u:Int):Prop where
 form:jk l
 pos:0<=u
 nil:l.length=0->u=0
 lt:0<l.length->u< (l.getD 0 default).n
theorem Q8{l:List aA}(h:jk l):gR l 0:=⟨h,zm _,fun _=>rfl,fun h0=>by
 have:=(D8 h) 0 (qp _) h0;have:=this.1.2.2;omega⟩
theorem x9(l:List aA):ru l 0=ex l:=rfl
theorem IS{l:List aA}{u:Int}(h:l.length=0):ru l u=[]:=by
 have:l=[]:=qZ.1 h;subst this;simp[ru,ex]
theorem D9{l:List aA}{u:Int}(h:gR l u)(h0:0<l.length):
 ru l u=rep ((l.getD 0 default).n-u).toNat (j5 (l.getD 0 default).af)++ex (l.drop 1):=by
 have h1:=h.lt h0;have h2:=h.pos;cases l with
 |nil=>simp at h0
 |cons s l=>
  simp only[za] at h1|-;unfold ru;rw[ex,zJ (by simp;omega),List.drop_replicate];congr 2;omega
theorem gR.ok{l:List aA}{u:Int}(h:gR l u)(h0:0<l.length):wk (l.getD 0 default):=((D8 h.form) 0 (qp _) h0).1
theorem gR.take{l:List aA}{u n:Int}(h:gR l u)(h0:0<l.length)(hn:0<=n)(hl:n<=(l.getD 0 default).n-u):
 (u+n=(l.getD 0 default).n->gR (l.drop 1) 0/\rep n.toNat (j5 (l.getD 0 default).af)++ru (l.drop 1) 0=ru l u)/\
 (u+n≠(l.getD 0 default).n->gR l (u+n)/\rep n.toNat (j5 (l.getD 0 default).af)++ru l (u+n)=ru l u):=by
 have h1:=h.lt h0;have h2:=h.pos;constructor
 ·intro e;refine⟨Q8 ?_,?_⟩
  ·cases l with
   |nil=>trivial
   |cons s l=>exact h.form.tail
  rw[D9 h h0,x9];congr 2;omega
 intro e;have g:gR l (u+n):=⟨h.form,oM,fun hh=>oM,fun _=>oM⟩
 refine⟨g,?_⟩;rw[D9 h h0,D9 g h0,<-List.append_assoc,<-QZ];congr 2;omega
def NoC:List U->Prop
 | .C::_=>False
 |_=>True
theorem XM(n:Nat)(p q:List U):cL (rep n .A++p) q=(rep n .A++(cL p q).1,rep n .K++(cL p q).2):=by
 induction n with
 |zero=>rfl
 |succ n ih=>rw[oD,qm,cL,ih];rfl
def XN:List U->Prop
 | .A::_=>False
 |_=>True
theorem XO(n:Nat){p:List U}(hp:XN p)(q:List U):cL p (rep n .A++q)=(rep n .K++(cL p q).1,rep n .A++(cL p q).2):=by
 induction n with
 |zero=>rfl
 |succ n ih=>
  rw[oD,qm];cases p with
  |nil=>simp only[cL];rw[ih];rfl
  |cons x p=>cases x with
   |A=>exact hp.elim
   |K=>simp only[cL];rw[ih];rfl
   |C=>simp only[cL];rw[ih];rfl
theorem w0P(n:Nat)(s t:Int)(hs:s≠1)(ht:t≠1)(p q:List U):cL (rep n (j5 s)++p) (rep n (j5 t)++q)=
 ((if t=2 then[] else rep n (j5 s))++(cL p q).1,(if s=2 then[] else rep n (j5 t))++(cL p q).2):=by
 induction n with
 |zero=>simp
 |succ n ih=>
  rw[oD,oD,qm,qm];unfold j5 at*
  rw[if_neg hs,if_neg ht] at*
  by_cases h2:s=2<;>by_cases h3:t=2<;>simp only[h2,h3,if_true,if_false,cL,oD,qm,List.nil_append] at ih|- <;>simp[ih]
theorem XP{l:List aA}{u:Int}(h:gR l u)(hk:0<l.length->(l.getD 0 default).af≠1):XN (ru l u):=by
 by_cases h0:0<l.length
 ·have h1:=h.lt h0;obtain⟨m,hm⟩:∃m,((l.getD 0 default).n-u).toNat=m+1:=⟨((l.getD 0 default).n-u).toNat- 1,oM⟩
  rw[D9 h h0,hm,oD,qm];unfold j5;rw[if_neg (hk h0)];split<;>trivial
 rw[IS oM];trivial
theorem FT{w:Wr}{k n:Int}(hk:0<=k/\k<=2)(hn:0<=n):z49 w (rep n.toNat (j5 k))=de w k n:=by
 rw[x37,zL hn];congr 1;unfold j5;split
 ·rename_i h;rw[h];rfl
 split
 ·rename_i h;rw[h];rfl
 show(0:Int)=k;omega
end Go.Ch
end
section
set_option maxRecDepth 100000
set_option maxHeartbeats 4000000
open Go Go.Proofs Go.Ab
namespace Go.Ch
theorem Ae(l:List aA):FC Tryz.prog 145 [VL 2 bk l] (app emp []) (VI (jT l)) (app emp []):=by
 refine .go Tryz.f145 ?_;refine .len 0 (fun dQ=> ?_);refine .loop (α:=Int×Int×Nat) [.r [],.r [],.r [(1,X (Xl bk l))]] 48 (fun(b,a,i)=>([(0,VL 2 bk l),(3,VI b),(4,VI a),(7,VL 2 bk l),(8,VI (l.length:Int)),(9,VI (i:Int))],[])) (fun(b,a,i)=>i<=l.length/\0<=b/\b<=2147483648/\0<=a/\a<=2147483648/\jT l=uJ l i b a) (fun(b,a,i)=>l.length-i) (0,0,0) ?_ ?_
 ·exact⟨by omega,by decide,by decide,by decide,by decide,rfl⟩
 rintro⟨b,a,i⟩ I3 cC;try dsimp only at I3
 refine .bp [.r []] (decide ((i:Int)< (l.length:Int))) (fun h3=> ?_) (fun h3=> ?_)
 ·refine .bp [.r [(1,X (Xi bk l (i:Int)))],.r [(5,Xv 1 (!(decide ((((l.getD i default)).af)< 0))) X0),(6,Xv 1 (!(decide ((((l.getD i default)).af)< 0))) X0),(7,X (b7 (decide ((((l.getD i default)).af)< 0))))]] (decide ((((l.getD i default)).af)< 0)||decide ((((l.getD i default)).af)> 2)) (fun h5=> ?_) (fun h5=> ?_)
  ·have e1:((jT l):Int)=8:=by
    rw[I3.2.2.2.2.2,uJ];((repeat' split)<;>first|rfl|omega| (simp_all;done)| (simp_all;omega))
   exact .aG [.r []] [] (fun z0:Int=>(VI z0,[])) _ _ e1
  refine .bp [.r [(5,Xv 1 (!(decide ((((l.getD i default)).n)< 1))) X0),(6,Xv 1 (!(decide ((((l.getD i default)).n)< 1))) X0),(7,X (b7 (decide ((((l.getD i default)).n)< 1))))]] (decide ((((l.getD i default)).n)< 1)||decide ((((l.getD i default)).n)> 2147483647)) (fun h7=> ?_) (fun h7=> ?_)
  ·have e2:((jT l):Int)=2:=by
    rw[I3.2.2.2.2.2,uJ];((repeat' split)<;>first|rfl|omega| (simp_all;done)| (simp_all;omega))
   exact .aG [.r []] [] (fun z0:Int=>(VI z0,[])) _ _ e2
  refine .bp [.r [(5,Xv 1 (decide ((i:Int)> 0)) (Xn ((i:Int)- 1))),(6,Xv 2 (decide ((i:Int)> 0)) (yV bk l ((i:Int)- 1) (i- 1))),(7,Xv 1 (decide ((i:Int)> 0)) X0),(8,Xv 1 (decide ((i:Int)> 0)) X0),(10,Xv 1 (decide ((i:Int)> 0)) X0),(11,Xv 2 (decide ((i:Int)> 0)) X0),(12,Xv 1 (decide ((i:Int)> 0)) X0),(15,Xv 1 ((decide ((i:Int)> 0))&& !((((l.getD (i- 1) default)).af)==(((l.getD i default)).af))) (Xn ((i:Int)- 1))),(16,Xv 2 ((decide ((i:Int)> 0))&& !((((l.getD (i- 1) default)).af)==(((l.getD i default)).af))) (yV bk l ((i:Int)- 1) (i- 1))),(17,Xv 1 ((decide ((i:Int)> 0))&& !((((l.getD (i- 1) default)).af)==(((l.getD i default)).af))) X0),(18,Xv 1 ((decide ((i:Int)> 0))&& !((((l.getD (i- 1) default)).af)==(((l.getD i default)).af))) X0),(19,Xv 1 ((decide ((i:Int)> 0))&& !((((l.getD (i- 1) default)).af)==(((l.getD i default)).af))) X0),(20,Xv 1 ((decide ((i:Int)> 0))&& !((((l.getD (i- 1) default)).af)==(((l.getD i default)).af))) X0),(22,Xv 1 (((decide ((i:Int)> 0))&& !((((l.getD (i- 1) default)).af)==(((l.getD i default)).af)))&&((((l.getD (i- 1) default)).af)==2)) X0),(23,Xv 1 (((decide ((i:Int)> 0))&& !((((l.getD (i- 1) default)).af)==(((l.getD i default)).af)))&&((((l.getD (i- 1) default)).af)==2)) X0),(24,kH ((decide ((i:Int)> 0))&& !((((l.getD (i- 1) default)).af)==(((l.getD i default)).af))) ((((l.getD (i- 1) default)).af)==2)),(25,x5 (decide ((i:Int)> 0)) ((((l.getD (i- 1) default)).af)==(((l.getD i default)).af))),(26,X (Xk (decide ((i:Int)> 0))))]] (decide ((i:Int)> 0)&&(((((l.getD (i- 1) default)).af)==(((l.getD i default)).af))|| (((((l.getD (i- 1) default)).af)==2)&&((((l.getD i default)).af)==1)))) (fun h9=> ?_) (fun h9=> ?_)
  ·have e3:((jT l):Int)=5:=by
    rw[I3.2.2.2.2.2,uJ];((repeat' split)<;>first|rfl|omega| (simp_all;done)| (simp_all;omega))
   exact .aG [.r []] [] (fun z0:Int=>(VI z0,[])) _ _ e3
  refine .bp [.r []] ((((l.getD i default)).af) !=1) (fun gO=> ?_) (fun gO=> ?_)
  ·refine .bp [.r [(3,X (Xn (b+(((l.getD i default)).n)))),(4,X (vq (b+(((l.getD i default)).n)) 2147483648))],.r []] ((((l.getD i default)).af) !=2) (fun fe=> ?_) (fun fe=> ?_)
   ·refine .at 568 [(80,80)] ([(0,VL 2 bk l),(3,VI (min (b+(((l.getD i default)).n)) 2147483648)),(4,VI a),(6,.ptr 80 0),(7,VL 2 bk l),(8,VI (l.length:Int)),(9,VI (i:Int)),(70,VB ((((l.getD i default)).af) !=2))],[(80,.box [VI (((l.getD i default)).af),VI (((l.getD i default)).n)])]) ?_;refine .back [.r [(3,X (Xn (a+(((l.getD i default)).n)))),(4,X (vq (a+(((l.getD i default)).n)) 2147483648))],.r [(0,X (Xn ((i:Int)+1)))]] [] (cC ((min (b+(((l.getD i default)).n)) 2147483648),(min (a+(((l.getD i default)).n)) 2147483648),(i+1)) ?_ ?_)
    ·refine⟨by omega,by omega,by omega,by omega,by omega,?_⟩;rw[I3.2.2.2.2.2,uJ];((repeat' split)<;>first|rfl|omega| (simp_all;done)| (simp_all;omega))
    ((try dsimp only);omega)
   refine .at 568 [(80,80)] ([(0,VL 2 bk l),(3,VI (min (b+(((l.getD i default)).n)) 2147483648)),(4,VI a),(6,.ptr 80 0),(7,VL 2 bk l),(8,VI (l.length:Int)),(9,VI (i:Int)),(70,VB ((((l.getD i default)).af) !=2))],[(80,.box [VI (((l.getD i default)).af),VI (((l.getD i default)).n)])]) ?_;refine .back [.r [(0,X (Xn ((i:Int)+1)))]] [] (cC ((min (b+(((l.getD i default)).n)) 2147483648),a,(i+1)) ?_ ?_)
   ·refine⟨by omega,by omega,by omega,by omega,by omega,?_⟩;rw[I3.2.2.2.2.2,uJ];((repeat' split)<;>first|rfl|omega| (simp_all;done)| (simp_all;omega))
   ((try dsimp only);omega)
  refine .bp [.r []] ((((l.getD i default)).af) !=2) (fun fe=> ?_) (fun fe=> ?_)
  ·refine .at 520 [(80,80)] ([(0,VL 2 bk l),(3,VI b),(4,VI a),(6,.ptr 80 0),(7,VL 2 bk l),(8,VI (l.length:Int)),(9,VI (i:Int)),(70,VB ((((l.getD i default)).af) !=2))],[(80,.box [VI (((l.getD i default)).af),VI (((l.getD i default)).n)])]) ?_;refine .back [.r [(3,X (Xn (a+(((l.getD i default)).n)))),(4,X (vq (a+(((l.getD i default)).n)) 2147483648))],.r [(0,X (Xn ((i:Int)+1)))]] [] (cC (b,(min (a+(((l.getD i default)).n)) 2147483648),(i+1)) ?_ ?_)
   ·refine⟨by omega,by omega,by omega,by omega,by omega,?_⟩;rw[I3.2.2.2.2.2,uJ];((repeat' split)<;>first|rfl|omega| (simp_all;done)| (simp_all;omega))
   ((try dsimp only);omega)
  refine .at 520 [(80,80)] ([(0,VL 2 bk l),(3,VI b),(4,VI a),(6,.ptr 80 0),(7,VL 2 bk l),(8,VI (l.length:Int)),(9,VI (i:Int)),(70,VB ((((l.getD i default)).af) !=2))],[(80,.box [VI (((l.getD i default)).af),VI (((l.getD i default)).n)])]) ?_;refine .back [.r [(0,X (Xn ((i:Int)+1)))]] [] (cC (b,a,(i+1)) ?_ ?_)
  ·refine⟨by omega,by omega,by omega,by omega,by omega,?_⟩;rw[I3.2.2.2.2.2,uJ];((repeat' split)<;>first|rfl|omega| (simp_all;done)| (simp_all;omega))
  ((try dsimp only);omega)
 refine .bp [.r [(4,Xv 1 (!(decide (b>2147483647))) X0),(5,X (b7 (decide (b>2147483647))))]] (decide (b>2147483647)||decide (a>2147483647)) (fun eO=> ?_) (fun eO=> ?_)
 ·have e4:((jT l):Int)=3:=by
   rw[I3.2.2.2.2.2,uJ];((repeat' split)<;>first|rfl|omega| (simp_all;done)| (simp_all;omega))
  exact .aG [.r []] [] (fun z0:Int=>(VI z0,[])) _ _ e4
 have e5:((jT l):Int)=0:=by
  rw[I3.2.2.2.2.2,uJ];((repeat' split)<;>first|rfl|omega| (simp_all;done)| (simp_all;omega))
 exact .aG [.r []] [] (fun z0:Int=>(VI z0,[])) _ _ e5
theorem w0Q{l:List aA}{i:Nat}(h:i<l.length):ex (l.drop i)=rep (l.getD i default).n.toNat (j5 (l.getD i default).af)++ex (l.drop (i+1)):=by rw[Q6 h];rfl
def cz(l:List aA):Int:=(cS (ex l):Int)
def eS(l:List aA):Int:=(eV (ex l):Int)
theorem XQ{l:List aA}{i:Nat}(h:i<l.length)(hf:jk l):(cS (ex (l.drop i)):Int)=(if(l.getD i default).af=1 then 0 else(l.getD i default).n)+cS (ex (l.drop (i+1)))/\
 (eV (ex (l.drop i)):Int)=(if(l.getD i default).af=2 then 0 else(l.getD i default).n)+eV (ex (l.drop (i+1)))/\1<=(l.getD i default).n/\0<=(l.getD i default).af/\(l.getD i default).af<=2:=by
 have h1:=((D8 hf) i (qG _) h).1;have hn:((l.getD i default).n.toNat:Int)=(l.getD i default).n:=zL (by have:=h1.2.2;omega);rw[w0Q h,D7,LA,hn];exact⟨rfl,rfl,h1.2.2,h1.1,h1.2.1⟩
theorem XR{l:List aA}{i:Nat}(h:l.length<=i):ex (l.drop i)=[]:=by rw[qN h];rfl
theorem LB(l:List aA)(hv:eR l):FC Tryz.prog 232 [VL 2 bk l] (app emp []) (.aZ [VI (cz l),VI (eS l)]) (app emp []):=by
 refine .go Tryz.f232 ?_;refine .len 0 (fun dQ=> ?_);refine .loop (α:=Int×Int×Nat) [.r [],.r [],.r [(1,X (Xl bk l))]] 56 (fun(b,a,i)=>([(4,VI b),(5,VI a),(8,VL 2 bk l),(9,VI (l.length:Int)),(10,VI (i:Int))],[])) (fun(b,a,i)=>i<=l.length/\0<=b/\0<=a/\cz l=b+cS (ex (l.drop i))/\eS l=a+eV (ex (l.drop i))) (fun(b,a,i)=>l.length-i) (0,0,0) ?_ ?_
 ·exact⟨oM,dM,dM,by simp[cz],by simp[eS]⟩
 rintro⟨b,a,i⟩ I3 cC;try dsimp only at I3
 have rz:cz l<=2147483647:=by have:=hv.2.1;unfold cz;omega
 have mQ:eS l<=2147483647:=by have:=hv.2.2;unfold eS;omega
 refine .bp [.r []] (decide ((i:Int)< (l.length:Int))) (fun h3=> ?_) (fun h3=> ?_)
 ·have bH:=XQ (l:=l) (i:=i) oM hv.1;refine .bp [.r [(0,X (Xi bk l (i:Int)))],.r []] ((((l.getD i default)).af) !=1) (fun h5=> ?_) (fun h5=> ?_)
  ·refine .bp [.r [(3,X (Xn (b+(((l.getD i default)).n))))],.r []] ((((l.getD i default)).af) !=2) (fun h7=> ?_) (fun h7=> ?_)
   ·refine .back [.r [(3,X (Xn (a+(((l.getD i default)).n))))],.r [(0,X (Xn ((i:Int)+1)))]] [] (cC ((b+(((l.getD i default)).n)),(a+(((l.getD i default)).n)),(i+1)) ?_ ?_)
    ·obtain⟨s1,s2,s3,s4,s5⟩:=bH
     first|rw[if_pos oM] at s1|rw[if_neg oM] at s1
     first|rw[if_pos oM] at s2|rw[if_neg oM] at s2
     refine⟨oM,oM,oM,oM,oM⟩
    exact tO
   refine .back [.r [(0,X (Xn ((i:Int)+1)))]] [] (cC ((b+(((l.getD i default)).n)),a,(i+1)) ?_ ?_)
   ·obtain⟨s1,s2,s3,s4,s5⟩:=bH
    first|rw[if_pos oM] at s1|rw[if_neg oM] at s1
    first|rw[if_pos oM] at s2|rw[if_neg oM] at s2
    refine⟨oM,oM,oM,oM,oM⟩
   exact tO
  refine .bp [.r []] ((((l.getD i default)).af) !=2) (fun h7=> ?_) (fun h7=> ?_)
  ·refine .back [.r [(3,X (Xn (a+(((l.getD i default)).n))))],.r [(0,X (Xn ((i:Int)+1)))]] [] (cC (b,(a+(((l.getD i default)).n)),(i+1)) ?_ ?_)
   ·obtain⟨s1,s2,s3,s4,s5⟩:=bH
    first|rw[if_pos oM] at s1|rw[if_neg oM] at s1
    first|rw[if_pos oM] at s2|rw[if_neg oM] at s2
    refine⟨oM,oM,oM,oM,oM⟩
   exact tO
  refine .back [.r [(0,X (Xn ((i:Int)+1)))]] [] (cC (b,a,(i+1)) ?_ ?_)
  ·obtain⟨s1,s2,s3,s4,s5⟩:=bH
   first|rw[if_pos oM] at s1|rw[if_neg oM] at s1
   first|rw[if_pos oM] at s2|rw[if_neg oM] at s2
   refine⟨oM,oM,oM,oM,oM⟩
  exact tO
 have e1:((cz l):Int)=b:=by
  have:=XR (l:=l) (i:=i) oM;rw[this] at I3;have i1:=I3.2.2.2.1;have i2:=I3.2.2.2.2;simp only[cS,eV] at i1 i2;omega
 have e2:((eS l):Int)=a:=by
  have:=XR (l:=l) (i:=i) oM;rw[this] at I3;have i1:=I3.2.2.2.1;have i2:=I3.2.2.2.2;simp only[cS,eV] at i1 i2;omega
 exact .aG [.r []] [] (fun((z0,z1):Int×Int)=>(.aZ [VI z0,VI z1],[])) _ _ (pr e1 e2)
theorem LC(l:List aA)(hv:eR l):FC Tryz.prog 202 [VL 2 bk l] (app emp []) (.aZ [VI (cz l),VI (eS l),VI 0]) (app emp []):=by
 refine .go Tryz.f202 ?_;refine .len 0 (fun dQ=> ?_);have hc:=wo.2 hv;refine .bp [.r [],.r [(1,X (aW (Ae l) X0))],.r []] ((jT l) !=0) (fun h2=> ?_) (fun h2=> ?_)
 ·exfalso;omega
 exact .fin [.r [(1,X (aW (LB l aM) X0))],.r []] []
def iD(l:List aA):Int:=if l.length=0 then-1 else(l.getD 0 default).af
def jU(l:List aA)(u n:Int):List aA:=if u+n=(l.getD 0 default).n then l.drop 1 else l
def ko(l:List aA)(u n:Int):Int:=if u+n=(l.getD 0 default).n then 0 else u+n
end Go.Ch
end
section
namespace Go.Ch
open Go Go.Ab
theorem XS{l:List aA}{u:Int}(h:gR l u):(iD l= -1/\l.length=0)\/(0<l.length/\iD l=(l.getD 0 default).af/\0<=(l.getD 0 default).af/\(l.getD 0 default).af<=2/\
 1<=(l.getD 0 default).n-u/\0<=u/\(l.getD 0 default).n-u<=(ru l u).length/\(l.getD 0 default).n<=(ex l).length):=by
 by_cases h0:l.length=0
 ·left;exact⟨by unfold iD;rw[if_pos h0],h0⟩
 right;have hp:0<l.length:=oM;have ok:=h.ok hp;have h1:=h.lt hp;refine⟨hp,by unfold iD;rw[if_neg h0],ok.1,ok.2.1,oM,h.pos,?_,?_⟩
 ·rw[D9 h hp];simp only[qf,zd];omega
 refine XL ?_;rw[show l.getD 0 default=l[0] by simp[List.getD,qa hp]];exact zB _
theorem LD(l:List aA)(u n:Int):(ex (jU l u n)).length<=(ex l).length:=by
 unfold jU;split
 ·cases l with
  |nil=>simp
  |cons s l=>simp[ex]
 exact qp _
theorem LF{l:List aA}{u n:Int}(h:gR l u)(h0:0<l.length)(hn:0<=n)(hl:n<=(l.getD 0 default).n-u):
 gR (jU l u n) (ko l u n)/\rep n.toNat (j5 (l.getD 0 default).af)++ru (jU l u n) (ko l u n)=ru l u:=by
 obtain⟨a,b⟩:=h.take h0 hn hl;unfold jU ko;by_cases e:u+n=(l.getD 0 default).n
 ·rw[if_pos e,if_pos e];exact a e
 rw[if_neg e,if_neg e];exact b e
def jm(ps:List aA)(pu:Int)(qs:List aA)(qu:Int):Nat:=(ru ps pu).length+(ru qs qu).length
theorem LG{n:Int}{k:Int}{u v:List U}(hn:0<=n)(h:rep n.toNat (j5 k)++u=v):(u.length:Int)+n=v.length:=by
 have:=congrArg List.length h;simp only[qf,zd] at this;omega
section
variable {w:Wr} {ps qs:List aA} {pu qu:Int} {T:Nat} {G:Wr}
end
def XT(a b:List aA):List aA:=FQ (iC (ex a) (ex b))
structure PI(x y:Wr)(ps:List aA)(pu:Int)(qs:List aA)(qu:Int)(T:Nat)(G1 G2:Wr):Prop where
 gx:js x
 gy:js y
 gp:gR ps pu
 gq:gR qs qu
 eq:cS (ru ps pu)=cS (ru qs qu)
 uC:(mw x).length+(ru ps pu).length+(ru qs qu).length<=T
 uD:(mw y).length+(ru ps pu).length+(ru qs qu).length<=T
 Bq:z49 x (cL (ru ps pu) (ru qs qu)).1=G1
 Bs:z49 y (cL (ru ps pu) (ru qs qu)).2=G2
 lp:(ex ps).length<=T
 lq:(ex qs).length<=T
section
variable {x y:Wr} {ps qs:List aA} {pu qu:Int} {T:Nat} {G1 G2:Wr}
theorem PI.Bt(h:PI x y ps pu qs qu T G1 G2)(h0:0<ps.length)(hk:(ps.getD 0 default).af=1):
 PI (de x 1 ((ps.getD 0 default).n-pu)) (de y 0 ((ps.getD 0 default).n-pu)) (jU ps pu ((ps.getD 0 default).n-pu)) (ko ps pu ((ps.getD 0 default).n-pu)) qs qu T G1 G2/\
 jm (jU ps pu ((ps.getD 0 default).n-pu)) (ko ps pu ((ps.getD 0 default).n-pu)) qs qu<jm ps pu qs qu:=by
 have hl:=h.gp.lt h0;obtain⟨g,e⟩:=LF (n:=(ps.getD 0 default).n-pu) h.gp h0 oM (Int.le_refl _);have tl:=LD ps pu ((ps.getD 0 default).n-pu);generalize hn:(ps.getD 0 default).n-pu=n at*
 generalize jU ps pu n=Q9 at*
 generalize ko ps pu n=Rc at*
 rw[hk,Bp] at e;have e2:=LG (k:=1) oM e;obtain⟨p1,p2,p3⟩:=D5 (k:=1) (n:=n) h.gx dM oM;obtain⟨r1,r2,r3⟩:=D5 (k:=0) (n:=n) h.gy dM oM;have hlen:=h.uC;have j8:=h.uD;have f1:=h.Bq;have f2:=h.Bs;rw[<-e,XM,D6,<-Bp,FT dM oM] at f1;rw[<-e,XM,D6,<-CK,FT dM oM] at f2;refine⟨⟨p1,r1,g,h.gq,?_,oM,oM,f1,f2,Nat.le_trans tl h.lp,h.lq⟩,by unfold jm;omega⟩;rw[<-h.eq,<-e,Q7]
theorem PI.Bu(h:PI x y ps pu qs qu T G1 G2)(hp:0<ps.length->(ps.getD 0 default).af≠1)(h0:0<qs.length)(hk:(qs.getD 0 default).af=1):
 PI (de x 0 ((qs.getD 0 default).n-qu)) (de y 1 ((qs.getD 0 default).n-qu)) ps pu (jU qs qu ((qs.getD 0 default).n-qu)) (ko qs qu ((qs.getD 0 default).n-qu)) T G1 G2/\
 jm ps pu (jU qs qu ((qs.getD 0 default).n-qu)) (ko qs qu ((qs.getD 0 default).n-qu))< jm ps pu qs qu:=by
 have hl:=h.gq.lt h0;obtain⟨g,e⟩:=LF (n:=(qs.getD 0 default).n-qu) h.gq h0 oM (Int.le_refl _);have tl:=LD qs qu ((qs.getD 0 default).n-qu);generalize hn:(qs.getD 0 default).n-qu=n at*
 generalize jU qs qu n=Re at*
 generalize ko qs qu n=Rf at*
 rw[hk,Bp] at e;have e2:=LG (k:=1) oM e;obtain⟨p1,p2,p3⟩:=D5 (k:=0) (n:=n) h.gx dM oM;obtain⟨r1,r2,r3⟩:=D5 (k:=1) (n:=n) h.gy dM oM;have hlen:=h.uC;have j8:=h.uD;have f1:=h.Bq;have f2:=h.Bs;rw[<-e,XO _ (XP h.gp hp),D6,<-CK,FT dM oM] at f1;rw[<-e,XO _ (XP h.gp hp),D6,<-Bp,FT dM oM] at f2;refine⟨⟨p1,r1,h.gp,g,?_,oM,oM,f1,f2,h.lp,Nat.le_trans tl h.lq⟩,by unfold jm;omega⟩;rw[h.eq,<-e,Q7]
theorem PI.two(h:PI x y ps pu qs qu T G1 G2)(hp:0<ps.length->(ps.getD 0 default).af≠1)(hq:0<qs.length->(qs.getD 0 default).af≠1)(h0:0<ps.length\/0<qs.length):0<ps.length/\0<qs.length:=by
 have heq:=h.eq;by_cases a:0<ps.length
 ·refine⟨a,?_⟩;by_cases b:0<qs.length
  ·exact b
  exfalso;rw[IS (l:=qs) oM,D9 h.gp a] at heq;have:=D7 ((ps.getD 0 default).n-pu).toNat (ps.getD 0 default).af (ex (ps.drop 1));rw[if_neg (hp a)] at this;have:=h.gp.lt a;simp only[cS] at heq;omega
 exfalso;have b:0<qs.length:=oM;rw[IS (l:=ps) oM,D9 h.gq b] at heq;have:=D7 ((qs.getD 0 default).n-qu).toNat (qs.getD 0 default).af (ex (qs.drop 1));rw[if_neg (hq b)] at this;have:=h.gq.lt b;simp only[cS] at heq;omega
theorem PI.both(h:PI x y ps pu qs qu T G1 G2)(a:0<ps.length)(b:0<qs.length)(hp:(ps.getD 0 default).af≠1)(hq:(qs.getD 0 default).af≠1){n:Int}(hn:n=min ((ps.getD 0 default).n-pu) ((qs.getD 0 default).n-qu)):
 PI (if(qs.getD 0 default).af=0 then de x (ps.getD 0 default).af n else x) (if(ps.getD 0 default).af=0 then de y (qs.getD 0 default).af n else y) (jU ps pu n) (ko ps pu n) (jU qs qu n) (ko qs qu n) T G1 G2/\
 jm (jU ps pu n) (ko ps pu n) (jU qs qu n) (ko qs qu n)< jm ps pu qs qu:=by
 have hl:=h.gp.lt a;have lU:=h.gq.lt b;have FU:=h.gp.ok a;have FV:=h.gq.ok b;obtain⟨g1,e1⟩:=LF (n:=n) h.gp a oM oM;obtain⟨g2,e2⟩:=LF (n:=n) h.gq b oM oM;have tl1:=LD ps pu n;have tl2:=LD qs qu n;have n0:1<=n:=oM;clear hn;generalize jU ps pu n=Q9 at*
 generalize ko ps pu n=Rc at*
 generalize jU qs qu n=Re at*
 generalize ko qs qu n=Rf at*
 have l1:=LG oM e1;have l2:=LG oM e2;have hlen:=h.uC;have j8:=h.uD;have heq:=h.eq;have f1:=h.Bq;have f2:=h.Bs;rw[<-e1,<-e2,w0P _ _ _ hp hq] at f1 f2;rw[<-e1,<-e2] at heq;have t1:=D7 n.toNat (ps.getD 0 default).af (ru Q9 Rc);have t2:=D7 n.toNat (qs.getD 0 default).af (ru Re Rf);rw[if_neg hp] at t1;rw[if_neg hq] at t2;have Rg:cS (ru Q9 Rc)=cS (ru Re Rf):=oM;obtain⟨p1,p2,p3⟩:=D5 (k:=(ps.getD 0 default).af) (n:=n) h.gx ⟨FU.1,FU.2.1⟩ oM;obtain⟨r1,r2,r3⟩:=D5 (k:=(qs.getD 0 default).af) (n:=n) h.gy ⟨FV.1,FV.2.1⟩ oM;have kq:(qs.getD 0 default).af=0\/(qs.getD 0 default).af=2:=by have:=FV.1;have:=FV.2.1;omega
 have kp:(ps.getD 0 default).af=0\/(ps.getD 0 default).af=2:=by have:=FU.1;have:=FU.2.1;omega
 refine⟨⟨?_,?_,g1,g2,Rg,?_,?_,?_,?_,Nat.le_trans tl1 h.lp,Nat.le_trans tl2 h.lq⟩,by unfold jm;omega⟩
 ·split;exact p1;exact h.gx
 ·split;exact r1;exact h.gy
 ·split<;>omega
 ·split<;>omega
 ·rcases kq with k|k
  ·rw[if_neg (show¬(qs.getD 0 default).af=2 by omega),D6,FT ⟨FU.1,FU.2.1⟩ oM] at f1;rw[if_pos k];exact f1
  rw[if_pos k] at f1;rw[if_neg (show¬(qs.getD 0 default).af=0 by omega)];exact f1
 rcases kp with k|k
 ·rw[if_neg (show¬(ps.getD 0 default).af=2 by omega),D6,FT ⟨FV.1,FV.2.1⟩ oM] at f2;rw[if_pos k];exact f2
 rw[if_pos k] at f2;rw[if_neg (show¬(ps.getD 0 default).af=0 by omega)];exact f2
theorem PI.done(h:PI x y ps pu qs qu T G1 G2)(a:ps.length=0)(b:qs.length=0):x=G1/\y=G2:=by
 have f1:=h.Bq;have f2:=h.Bs;rw[IS a,IS b] at f1 f2;simp only[cL,z49] at f1 f2;exact⟨f1,f2⟩
end
def z26(a b:List aA):List aA:=FQ (cL (ex a) (ex b)).1
def sK(a b:List aA):List aA:=FQ (cL (ex a) (ex b)).2
theorem PI.start{a b:List aA}(va:eR a)(vb:eR b)(hm:cz a=cz b):PI ⟨[],0,0⟩ ⟨[],0,0⟩ a 0 b 0 ((ex a).length+(ex b).length) (z49 ⟨[],0,0⟩ (cL (ex a) (ex b)).1) (z49 ⟨[],0,0⟩ (cL (ex a) (ex b)).2)/\(ex a).length+(ex b).length<=8589934588:=by
 have h1:=XK a;have h2:=XK b;refine⟨⟨Q5,Q5,Q8 va.1,Q8 vb.1,?_,by rw[x9,x9];simp[mw,ex],by rw[x9,x9];simp[mw,ex],by rw[x9,x9],by rw[x9,x9],oM,oM⟩,by have:=va.2.1;have:=va.2.2;have:=vb.2.1;have:=vb.2.2;omega⟩;rw[x9,x9];unfold cz at hm;omega
end Go.Ch
end
section

end
section
namespace Go.Ch
open Go Go.Ab
def dK:List aA->Int->Int->Int->Int
 | [],_,_,_=> -1
 |s::l,p,fr,tq=>if s.af=1 then dK l p fr (tq+s.n) else if s.af=0 then(if p<fr+s.n then tq+p-fr else dK l p (fr+s.n) (tq+s.n)) else(if p<fr+s.n then-1 else dK l p (fr+s.n) tq)
def wq:List aA->Int->Bool->Int->Int->Int
 | [],_,_,_,tq=>tq
 |s::l,at_,r,fr,tq=>wq l at_ r (if s.af=1 then fr else fr+s.n) (if s.af=1/\(fr<at_\/(fr=at_/\r=true)) then tq+s.n else if s.af=0 then tq+min s.n (max 0 (at_-fr)) else tq)
theorem XU:∀{l:List aA} (hl:jk l) (a:Int) (r:Bool) (fr tq:Int),tq<=wq l a r fr tq
 | [],_,a,r,fr,tq=>zm _
 |s::l,hl,a,r,fr,tq=>by
  have ih:=XU hl.tail a r (if s.af=1 then fr else fr+s.n) (if s.af=1/\(fr<a\/(fr=a/\r=true)) then tq+s.n else if s.af=0 then tq+min s.n (max 0 (a-fr)) else tq);have hn:=hl.head.2.2;rw[wq];refine Int.le_trans ?_ ih;split
  ·omega
  split<;>omega
theorem XV:∀{l:List aA} (hl:jk l) (a fr tq LH:Int),tq<=LH->wq l a false fr tq<=wq l a true fr LH
 | [],_,a,fr,tq,LH,h=>h
 |s::l,hl,a,fr,tq,LH,h=>by
  have hn:=hl.head.2.2;rw[wq,wq];refine XV hl.tail a _ _ _ ?_;by_cases k1:s.af=1
  ·by_cases c:fr<a
   ·rw[if_pos ⟨k1,.inl c⟩,if_pos ⟨k1,.inl c⟩];omega
   have n1:¬(s.af=1/\(fr<a\/(fr=a/\false=true))):=by
    rintro⟨_,h|h⟩
    ·omega
    ·cases h.2
   have k0:¬s.af=0:=oM;rw[if_neg n1,if_neg k0];split
   ·omega
   exact h
  rw[if_neg (show¬(s.af=1/\(fr<a\/(fr=a/\false=true))) from fun e=>k1 e.1),if_neg (show¬(s.af=1/\(fr<a\/(fr=a/\true=true))) from fun e=>k1 e.1)];split<;>omega
theorem XW:∀{l:List aA} (hl:jk l) (a:Int) (r:Bool) (fr tq:Int),a<fr->wq l a r fr tq=tq
 | [],_,a,r,fr,tq,h=>rfl
 |s::l,hl,a,r,fr,tq,h=>by
  have hn:=hl.head.2.2;rw[wq,if_neg (by omega:¬(s.af=1/\(fr<a\/(fr=a/\r=true))))];rw[XW hl.tail a r _ _ (by split<;>omega)];split<;>omega
theorem LI:∀{l:List aA} (hl:jk l) (p fr tq:Int),0<=tq->fr<=p-> -1<=dK l p fr tq
 | [],_,p,fr,tq,h,_=>by simp[dK]
 |s::l,hl,p,fr,tq,h,hp=>by
  have hn:=hl.head.2.2;rw[dK];split
  ·exact LI hl.tail p fr _ oM hp
  split
  ·split
   ·omega
   exact LI hl.tail p _ _ oM oM
  split
  ·omega
  exact LI hl.tail p _ _ h oM
theorem LJ:∀{l:List aA} (hl:jk l) (p fr tq:Int),fr<=p->0<=dK l p fr tq->wq l p true fr tq<=dK l p fr tq
 | [],_,p,fr,tq,h,h0=>by simp[dK] at h0
 |s::l,hl,p,fr,tq,h,h0=>by
  have hn:=hl.head.2.2;have hk:=Ad hl.head;rw[dK] at h0|-;rw[wq];by_cases k1:s.af=1
  ·rw[if_pos k1] at h0|-;rw[if_pos k1,if_pos ⟨k1,by rcases Int.lt_or_eq_of_le h with h|h;exact .inl h;exact .inr ⟨h,rfl⟩⟩];exact LJ hl.tail p fr _ h h0
  rw[if_neg k1] at h0|-;rw[if_neg k1,if_neg (by omega:¬(s.af=1/\(fr<p\/(fr=p/\true=true))))];by_cases k0:s.af=0
  ·rw[if_pos k0] at h0|-;rw[if_pos k0];by_cases c:p<fr+s.n
   ·rw[if_pos c] at h0|-;rw[XW hl.tail p true _ _ oM];omega
   rw[if_neg c] at h0|-;rw[show min s.n (max 0 (p-fr))=s.n by omega];exact LJ hl.tail p _ _ oM h0
  rw[if_neg k0] at h0|-;rw[if_neg k0];by_cases c:p<fr+s.n
  ·rw[if_pos c] at h0;omega
  rw[if_neg c] at h0|-;exact LJ hl.tail p _ _ oM h0
theorem LK:∀{l:List aA} (hl:jk l) (p q fr tq:Int),fr<=p->p<q->0<=dK l p fr tq->dK l p fr tq+1<=wq l q false fr tq
 | [],_,p,q,fr,tq,h,hq,h0=>by simp[dK] at h0
 |s::l,hl,p,q,fr,tq,h,hq,h0=>by
  have hn:=hl.head.2.2;rw[dK] at h0|-;rw[wq];by_cases k1:s.af=1
  ·rw[if_pos k1] at h0|-;rw[if_pos k1,if_pos ⟨k1,oM⟩];exact LK hl.tail p q fr _ h hq h0
  rw[if_neg k1] at h0|-;rw[if_neg k1,if_neg (by omega:¬(s.af=1/\(fr<q\/(fr=q/\false=true))))];by_cases k0:s.af=0
  ·rw[if_pos k0] at h0|-;rw[if_pos k0];by_cases c:p<fr+s.n
   ·rw[if_pos c] at h0|-;have:=XU hl.tail q false (fr+s.n) (tq+min s.n (max 0 (q-fr)));omega
   rw[if_neg c] at h0|-;rw[show min s.n (max 0 (q-fr))=s.n by omega];exact LK hl.tail p q _ _ oM hq h0
  rw[if_neg k0] at h0|-;rw[if_neg k0];by_cases c:p<fr+s.n
  ·rw[if_pos c] at h0;omega
  rw[if_neg c] at h0|-;exact LK hl.tail p q _ _ oM hq h0
structure Cell where
 aF:Int
 aV:Int
 text:ByteArray
 bh:Int
 ah:List aI
instance:Inhabited Cell:=⟨⟨0,0,{data:=#[]},0,[]⟩⟩
structure eo where
 aF:Int
 aV:Int
 h:Int
 w:Int
deriving DecidableEq
instance:Inhabited eo:=⟨⟨0,0,0,0⟩⟩
structure aX where
 ak:Int
 aj:Int
 cells:List Cell
 aH:List eo
instance:Inhabited aX:=⟨⟨0,0,[],[]⟩⟩
structure bP where
 ak:List aA
 aj:List aA
 cells:List Cell
 split:List eo
 merge:List eo
instance:Inhabited bP:=⟨⟨[],[],[],[],[]⟩⟩
def bg(c:Cell):Tree:= .agg [TI c.aF,TI c.aV,TS c.text,TI c.bh,.bX 2 (c.ah.map aS)]
def bE(r:eo):Tree:= .agg [TI r.aF,TI r.aV,TI r.h,TI r.w]
def Ea(g:aX):Tree:= .agg [TI g.ak,TI g.aj,.bX 5 (g.cells.map bg),.bX 4 (g.aH.map bE)]
def rW(e:bP):Tree:= .agg [.bX 2 (e.ak.map bk),.bX 2 (e.aj.map bk),.bX 5 (e.cells.map bg),.bX 4 (e.split.map bE),.bX 4 (e.merge.map bE)]
def eF(a b:Cell):Int:=gP [nt a.aF b.aF,nt a.aV b.aV]
def kr(c:Cell):Bool:=(seq c.text {data:=#[]}&&c.bh==0)&&(c.ah.length:Int)==0
def Bv(r:eo)(m n:Int):Bool:=decide (0<=r.aF/\0<=r.aV/\1<=r.h/\1<=r.w/\r.aF<m/\r.aV<n/\r.h<=m-r.aF/\r.w<=n-r.aV)
def w0R(a b:eo):Bool:=decide (a.aF<b.aF+b.h/\b.aF<a.aF+a.h/\a.aV<b.aV+b.w/\b.aV<a.aV+a.w)
def w2A(a b:eo):Bool:=decide (a.aF<b.aF\/(a.aF=b.aF/\a.aV<b.aV))
def fB(a:List aA)(p:Int):Int:=if 0<a.length then dK a p 0 0 else p
def j6(ak aj:List aA)(c:Cell):Option Cell:=
 if 0<ak.length/\fB ak c.aF<0 then none else if 0<aj.length/\fB aj c.aV<0 then none else some {c with aF:=fB ak c.aF,aV:=fB aj c.aV}
def dY(l:List Cell)(ak aj:List aA):List Cell:=l.filterMap (j6 ak aj)
def gv(a:List aA)(p:Int):Prop:=0<a.length->eR a/\0<=p/\p<cz a
def w5(k:Nat)(l:List Cell):Prop:=∀c∈l,c.ah.length<=k
theorem Rh{l:List Cell}{i:Nat}(h:i<l.length):l.getD i default∈l:=by
 rw[show l.getD i default=l[i] by simp[List.getD,qa h]];exact zB _
theorem vw{l:List Cell}{ak aj:List aA}{i:Nat}(h:i<l.length):dY (l.take (i+1)) ak aj=dY (l.take i) ak aj++(j6 ak aj (l.getD i default)).toList:=by
 unfold dY;rw[qt h,List.filterMap_append];simp only[List.getD,qa h,zG];simp only[List.filterMap_cons,List.filterMap_nil];cases j6 ak aj l[i]<;>rfl
theorem Af(l:List Cell)(ak aj:List aA):(dY l ak aj).length<=l.length:=je _ _
def pH(c:Cell)(k:List Cell->List Cell):List Cell->List Cell
 | []=>(if kr c=true then[] else[c])++k []
 |x::l=>if eF x c<0 then x::pH c k l else if eF x c=0 then(if kr c=true then[] else[c])++k l else(if kr c=true then[] else[c])++k (x::l)
def iy:List Cell->List Cell->List Cell
 | [],l=>l
 |c::ns,l=>pH c (iy ns) l
theorem LL{l:List Cell}{i:Nat}(h:i<l.length):l.drop i=l.getD i default::l.drop (i+1):=by
 rw[zh h];simp[List.getD,qa h]
theorem XX{l:List Cell}{i:Nat}(h:l.length<=i):l.drop i=[]:=qN h
theorem x69{c:Cell}{k:List Cell->List Cell}{l:List Cell}{j:Nat}(h:j<l.length)(h0:eF (l.getD j default) c<0):pH c k (l.drop j)=l.getD j default::pH c k (l.drop (j+1)):=by
 rw[LL h,pH,if_pos h0]
theorem LM{c:Cell}{k:List Cell->List Cell}{l:List Cell}{j:Nat}(h:j<l.length)(h0:eF (l.getD j default) c=0):pH c k (l.drop j)=(if kr c=true then[] else[c])++k (l.drop (j+1)):=by
 rw[LL h,pH,if_neg oM,if_pos h0]
theorem LN{c:Cell}{k:List Cell->List Cell}{l:List Cell}{j:Nat}(h:j<l.length->0<eF (l.getD j default) c):pH c k (l.drop j)=(if kr c=true then[] else[c])++k (l.drop j):=by
 by_cases hj:j<l.length
 ·have:=h hj;rw[LL hj,pH,if_neg oM,if_neg oM]
 rw[XX oM,pH]
theorem fE{α:Type}[Inhabited α]{l:List α}{i:Nat}(h:i<l.length):l.getD i default∈l:=by
 rw[show l.getD i default=l[i] by simp[List.getD,qa h]];exact zB _
theorem Ri{α:Type}[Inhabited α]{l:List α}{i:Nat}(h:i<l.length):l.take (i+1)=l.take i++[l.getD i default]:=by
 rw[qt h];simp[List.getD,qa h]
theorem Fj{α:Type}[Inhabited α]{l:List α}{i:Nat}(h:i<l.length):l.drop i=l.getD i default::l.drop (i+1):=by
 rw[zh h];simp[List.getD,qa h]
theorem Rj{α:Type}[Inhabited α](p:α->Bool){l:List α}{i:Nat}(h:i<l.length):(l.take (i+1)).filter p=(l.take i).filter p++(if p (l.getD i default)=true then[l.getD i default] else[]):=by
 rw[Ri h,zH];congr 1;rw[List.filter_cons,List.filter_nil]
def Bw(a:List aA):Int:=if 0<a.length then cz a else 2147483647
def pA(a b:List aA):List aA:=if a.length=0\/b.length=0 then a else z26 a b
def pB(a b:List aA):List aA:=if a.length=0\/b.length=0 then b else sK a b
structure rC(a b:List aA):Prop where
 va:eR a
 vb:eR b
 eq:cz a=cz b
 c1:jT (z26 a b)=0
 c2:jT (sK a b)=0
def Rk(u:ByteArray):Int:=((Lib.decodeGo u).1:Int)
def IT(u:ByteArray):Nat:=(Lib.decodeGo u).2
theorem x7a{u:ByteArray}(h:0<u.size):1<=IT u/\IT u<=u.size:=by
 unfold IT Lib.decodeGo;rw[if_neg oM];have hl:u.data.toList.length=u.size:=by rw[Array.length_toList];rfl
 rw[Lib.decode_N];have h1:=Lib.decodeN_ge1 (u.data.toList.length-0) (u.data.toList.getD 0 0).toNat (u.data.toList.getD (0+1) 0).toNat (u.data.toList.getD (0+2) 0).toNat (u.data.toList.getD (0+3) 0).toNat;have h2:=Lib.decodeN_width_le (u.data.toList.length-0) (u.data.toList.getD 0 0).toNat (u.data.toList.getD (0+1) 0).toNat (u.data.toList.getD (0+2) 0).toNat (u.data.toList.getD (0+3) 0).toNat oM;omega
def Rl(u:ByteArray):Prop:=(Rk u=65533/\IT u=1)\/Rk u=10\/¬rB (Rk u)
instance (u:ByteArray):Decidable (Rl u):=by unfold Rl rB;infer_instance
def Bx(u:ByteArray):Bool:=if h:0<u.size then(if Rl u then false else Bx (u.extract (IT u) u.size)) else true
termination_by u.size
decreasing_by
 have:=x7a h
 rw[ByteArray.size_extract]
 omega
theorem x0Y{u:ByteArray}(h:¬0<u.size):Bx u=true:=by rw[Bx,dif_neg h]
def fP(u:ByteArray)(p:Nat):ByteArray:=u.extract p u.size
theorem LO(a b:Cell):eF a b=if a.aF<b.aF then-1 else if a.aF>b.aF then 1 else if a.aV<b.aV then-1 else if a.aV>b.aV then 1 else 0:=by
 unfold eF;simp only[gP];unfold nt;by_cases h1:a.aF<b.aF
 ·rw[if_pos h1,if_pos dM,if_pos h1]
 rw[if_neg h1,if_neg h1];by_cases h2:a.aF>b.aF
 ·rw[if_pos h2,if_pos dM,if_pos h2]
 rw[if_neg h2,if_neg dM,if_neg h2];by_cases h3:a.aV<b.aV
 ·rw[if_pos h3,if_pos dM]
 rw[if_neg h3];by_cases h4:a.aV>b.aV
 ·rw[if_pos h4,if_pos dM]
 rw[if_neg h4,if_neg dM]
theorem z75{a b:Cell}:eF a b<0↔a.aF<b.aF\/(a.aF=b.aF/\a.aV<b.aV):=by
 rw[LO];repeat' split
 all_goals omega
theorem wu{a b:Cell}:eF a b=0↔a.aF=b.aF/\a.aV=b.aV:=by
 rw[LO];repeat' split
 all_goals omega
def pI(c:Cell)(m n:Int)(none:Bool):Int:=
 if c.aF<0\/m<=c.aF\/c.aV<0\/n<=c.aV then 2
 else if c.bh<0\/1073741824<c.bh then 2
 else if Bx c.text=false then 23
 else if¬dO false c.ah 0=0 then dO false c.ah 0
 else if kr c=true/\none=false then 4 else 0
def iO(l:List Cell)(m n:Int)(none:Bool)(i:Nat):Int:=
 if i<l.length then
  (if¬pI (l.getD i default) m n none=0 then pI (l.getD i default) m n none
   else if 0<i/\0<=eF (l.getD (i- 1) default) (l.getD i default) then 5 else iO l m n none (i+1))
 else 0
termination_by l.length-i
def SzC(l:List Cell):Prop:=∀c∈l,c.text.size<=9223372036854775807/\Lr c.ah
def w2B(l:List eo)(r:eo):Bool:=l.any (fun q=>w0R q r)
def IU(l:List eo)(m n:Int)(i:Nat):Int:=
 if i<l.length then
  (if Bv (l.getD i default) m n=false then 2
   else if(l.getD i default).h=1/\(l.getD i default).w=1 then 4
   else if 0<i/\w2A (l.getD (i- 1) default) (l.getD i default)=false then 5
   else if w2B (l.take i) (l.getD i default)=true then 21
   else IU l m n (i+1))
 else 0
termination_by l.length-i
def jI(g:aX):Int:=
 if g.ak<0\/2147483647<g.ak\/g.aj<0\/2147483647<g.aj then 2
 else if¬iO g.cells g.ak g.aj false 0=0 then iO g.cells g.ak g.aj false 0
 else IU g.aH g.ak g.aj 0
def gw{α:Type}[Inhabited α](p:α->Bool)(l:List α)(i:Nat):Int:=if i<l.length then(if p (l.getD i default)=true then(i:Int) else gw p l (i+1)) else-1
termination_by l.length-i
theorem XY{α:Type}[Inhabited α](p:α->Bool){l:List α}:∀(n i:Nat),l.length-i=n->(0<=gw p l i↔(l.drop i).any p=true)
 |0,i,h=>by rw[gw,if_neg oM,qN oM];simp
 |n+1,i,h=>by
  have hi:i<l.length:=oM;rw[gw,if_pos hi,Fj hi,zR];by_cases hp:p (l.getD i default)=true
  ·rw[if_pos hp,hp];simp
  rw[if_neg hp,XY p n (i+1) oM];simp only[zK] at hp;rw[hp,ji]
theorem XZ{α:Type}[Inhabited α](p:α->Bool)(l:List α):(0<=gw p l 0)=((l.any p)=true):=propext (by rw[XY p _ 0 rfl,List.drop_zero])
def z55(l:List eo)(m n:Int)(i:Nat):Int:=if i<l.length then(if Bv (l.getD i default) m n=false then 2 else z55 l m n (i+1)) else 0
termination_by l.length-i
def CL(l:List eo)(m n:Int)(i:Nat):Int:=if i<l.length then(if Bv (l.getD i default) m n=false then 2 else if(l.getD i default).h=1/\(l.getD i default).w=1 then 4 else CL l m n (i+1)) else 0
termination_by l.length-i
def sg(l:List Cell)(m n:Int)(i:Nat):Int:=if i<l.length then(if m<=(l.getD i default).aF\/n<=(l.getD i default).aV then 2 else sg l m n (i+1)) else 0
termination_by l.length-i
theorem LP{l:List eo}{m n:Int}:∀(k i:Nat),l.length-i=k->z55 l m n i=0->∀j,i<=j->j<l.length->Bv (l.getD j default) m n=true
 |0,i,h,_,j,h1,h2=>oM
 |k+1,i,h,h0,j,h1,h2=>by
  rw[z55,if_pos oM] at h0;split at h0
  ·cases h0
  rename_i hb;by_cases e:i=j
  ·rw[<-e];simpa using hb
  exact LP k (i+1) oM h0 j oM h2
theorem X1{l:List eo}{m n:Int}:∀(k i:Nat),l.length-i=k->CL l m n i=0->∀j,i<=j->j<l.length->Bv (l.getD j default) m n=true/\¬((l.getD j default).h=1/\(l.getD j default).w=1)
 |0,i,h,_,j,h1,h2=>oM
 |k+1,i,h,h0,j,h1,h2=>by
  rw[CL,if_pos oM] at h0;split at h0
  ·cases h0
  rename_i hb;split at h0
  ·cases h0
  rename_i hc;by_cases e:i=j
  ·rw[<-e];exact⟨by simpa using hb,hc⟩
  exact X1 k (i+1) oM h0 j oM h2
theorem X2{l:List Cell}{m n:Int}:∀(k i:Nat),l.length-i=k->sg l m n i=0->∀j,i<=j->j<l.length->(l.getD j default).aF<m/\(l.getD j default).aV<n
 |0,i,h,_,j,h1,h2=>oM
 |k+1,i,h,h0,j,h1,h2=>by
  rw[sg,if_pos oM] at h0;split at h0
  ·cases h0
  rename_i hb;by_cases e:i=j
  ·rw[<-e];omega
  exact X2 k (i+1) oM h0 j oM h2
theorem oF{α:Type}[Inhabited α]{l:List α}{x:α}(h:x∈l):∃j,j<l.length/\l.getD j default=x:=by
 obtain⟨j,hj,e⟩:=q9.1 h;exact⟨j,hj,by rw[qd,qa hj];exact e⟩
structure Eb(e:bP):Prop where
 w6:eR e.ak
 w8:eR e.aj
 cells:iO e.cells 2147483647 2147483647 true 0=0
 split:∀r∈e.split,Bv r 2147483647 2147483647=true
 merge:∀r∈e.merge,Bv r 2147483647 2147483647=true/\¬(r.h=1/\r.w=1)
def jF(e:bP):Int:=
 if¬jT e.ak=0 then jT e.ak else if¬jT e.aj=0 then jT e.aj
 else if¬iO e.cells 2147483647 2147483647 true 0=0 then iO e.cells 2147483647 2147483647 true 0
 else if¬z55 e.split 2147483647 2147483647 0=0 then z55 e.split 2147483647 2147483647 0 else CL e.merge 2147483647 2147483647 0
theorem LQ{e:bP}(h:jF e=0):Eb e:=by
 unfold jF at h;split at h
 ·omega
 split at h
 ·omega
 split at h
 ·omega
 split at h
 ·omega
 refine⟨wo.1 oM,wo.1 oM,oM,fun r hr=> ?_,fun r hr=> ?_⟩
 ·obtain⟨j,hj,rfl⟩:=oF hr;exact LP _ 0 rfl oM j oM hj
 obtain⟨j,hj,rfl⟩:=oF hr;exact X1 _ 0 rfl h j oM hj
def cU(n:Int)(a:List aA):Int:=if 0<a.length then eS a else n
structure yd(g:aX)(e:bP):Prop where
 ak:0<e.ak.length->cz e.ak=g.ak
 aj:0<e.aj.length->cz e.aj=g.aj
 cells:∀c∈e.cells,c.aF<cU g.ak e.ak/\c.aV<cU g.aj e.aj
 split:∀r∈e.split,Bv r (cU g.ak e.ak) (cU g.aj e.aj)=true
 merge:∀r∈e.merge,Bv r (cU g.ak e.ak) (cU g.aj e.aj)=true
def IV(g:aX)(e:bP):Int:=
 if 0<e.ak.length/\¬cz e.ak=g.ak then 14 else if 0<e.aj.length/\¬cz e.aj=g.aj then 14
 else if¬sg e.cells (cU g.ak e.ak) (cU g.aj e.aj) 0=0 then sg e.cells (cU g.ak e.ak) (cU g.aj e.aj) 0
 else if¬z55 e.split (cU g.ak e.ak) (cU g.aj e.aj) 0=0 then z55 e.split (cU g.ak e.ak) (cU g.aj e.aj) 0
 else z55 e.merge (cU g.ak e.ak) (cU g.aj e.aj) 0
theorem X3{g:aX}{e:bP}(h:IV g e=0):yd g e:=by
 unfold IV at h;split at h
 ·omega
 split at h
 ·omega
 split at h
 ·omega
 split at h
 ·omega
 refine⟨fun q=>oM,fun q=>oM,fun c hc=> ?_,fun r hr=> ?_,fun r hr=> ?_⟩
 ·obtain⟨j,hj,rfl⟩:=oF hc;exact X2 _ 0 rfl oM j oM hj
 ·obtain⟨j,hj,rfl⟩:=oF hr;exact LP _ 0 rfl oM j oM hj
 obtain⟨j,hj,rfl⟩:=oF hr;exact LP _ 0 rfl h j oM hj
theorem x7b{l:List aA}(h:eR l):0<=eS l/\eS l<=2147483647/\0<=cz l/\cz l<=2147483647:=by
 have:=h.2.1;have:=h.2.2;unfold eS cz;omega
theorem Ag{n:Int}{a:List aA}(h:eR a)(hn:0<=n/\n<=2147483647):0<=cU n a/\cU n a<=2147483647:=by
 have:=x7b h;unfold cU;split<;>omega
end Go.Ch
end
section
set_option maxRecDepth 100000
set_option maxHeartbeats 4000000
open Go Go.Proofs Go.Ab
namespace Go.Ch
theorem X4(x:Int):FC Tryz.prog 218 [VI x] (app emp []) (VB false) (app emp []):=by
 refine .go Tryz.f218 ?_;have e1:((x !=x):Bool)=false:=by
  simp
 exact .aG [.r [],.r []] [] (fun z0:Bool=>(VB z0,[])) _ _ e1.symm
theorem LR(x y:Int):FC Tryz.prog 176 [VI x,VI y] (app emp []) (VI (nt x y)) (app emp []):=by
 refine .go Tryz.f176 ?_;refine .bp [.r [],.r [(1,X (aW (X4 x) X0))],.r [(1,X (aW (X4 y) X0))],.r [],.f,.r [],.f,.r []] (decide (x<y)) (fun h9=> ?_) (fun h9=> ?_)
 ·have e1:((nt x y):Int)= -1:=by
   unfold nt;exact iF
  exact .aG [.r []] [] (fun z0:Int=>(VI z0,[])) _ _ e1
 refine .bp [.r []] (decide (x>y)) (fun gO=> ?_) (fun gO=> ?_)
 ·have e2:((nt x y):Int)=1:=by
   unfold nt;exact iF
  exact .aG [.r []] [] (fun z0:Int=>(VI z0,[])) _ _ e2
 have e3:((nt x y):Int)=0:=by
  unfold nt;exact iF
 exact .aG [.r []] [] (fun z0:Int=>(VI z0,[])) _ _ e3
theorem X5(l:List Int):FC Tryz.prog 175 [VL 1 bC l] (app emp []) (VI (gP l)) (app emp []):=by
 refine .go Tryz.f175 ?_;refine .len 0 (fun dQ=> ?_);refine .loop (α:=Nat) [.r [],.r [],.r [(1,X (Xl bC l))]] 40 (fun i=>([(3,VI 0),(6,VL 1 bC l),(7,VI (l.length:Int)),(8,VI (i:Int))],[])) (fun i=>i<=l.length/\gP l=gP (l.drop i)) (fun i=>l.length-i) (0:Nat) ?_ ?_
 ·exact⟨oM,rfl⟩
 rintro i I3 cC;try dsimp only at I3
 refine .bp [.r []] (decide ((i:Int)< (l.length:Int))) (fun h3=> ?_) (fun h3=> ?_)
 ·refine .bp [.r [(0,X (Xi bC l (i:Int)))],.r []] ((l.getD i default) !=0) (fun h5=> ?_) (fun h5=> ?_)
  ·have e1:((gP l):Int)=(l.getD i default):=by
    rw[I3.2,Xm oM,if_pos oM]
   exact .aG [.r []] [] (fun z0:Int=>(VI z0,[])) _ _ e1
  refine .back [.r [(0,X (Xn ((i:Int)+1)))]] [] (cC ((i+1):Nat) ?_ ?_)
  ·refine⟨oM,?_⟩;rw[I3.2,Xm oM,if_neg oM]
  exact tO
 have e2:((gP l):Int)=0:=by
  rw[I3.2,qN oM];rfl
 exact .aG [.r []] [] (fun z0:Int=>(VI z0,[])) _ _ e2
theorem IW(a b:Cell):FC Tryz.prog 185 [.t (bg a),.t (bg b)] (app emp []) (VI (eF a b)) (app emp []):=by
 refine .go Tryz.f185 ?_;have e1:((eF a b):Int)=(gP [(nt a.aF b.aF),(nt a.aV b.aV)]):=by
  rfl
 exact .aG [.r [],.r [(4,X (aW (LR a.aF b.aF) X0)),(9,X (aW (LR a.aV b.aV) X0)),(11,X (aW (X5 [(nt a.aF b.aF),(nt a.aV b.aV)]) (cg bC [(nt a.aF b.aF),(nt a.aV b.aV)] X0)))]] [] (fun z0:Int=>(VI z0,[])) _ _ e1
theorem Rm(c:Cell):FC Tryz.prog 184 [.t (bg c)] (app emp []) (VB (kr c)) (app emp []):=by
 refine .go Tryz.f184 ?_;have e1:((kr c):Bool)=((seq c.text ({data:=#[]})&&(c.bh==0))&&((c.ah.length:Int)==0)):=by
  rfl
 exact .aG (let a:=seq c.text ({data:=#[]})&&(c.bh==0);let b:=seq c.text ({data:=#[]});[.r [],.r [(5,Xv 1 b X0),(6,Xv 1 b X0),(7,X (Xk b)),(10,Xv 1 a X0),(11,Xv 1 a (Xl aS c.ah)),(12,Xv 1 a X0),(13,X (Xk a))]]) [] (fun z0:Bool=>(VB z0,[])) _ _ e1
theorem X6(s:ByteArray):FC Tryz.prog 187 [VS s] (app emp []) (VB (z45 s)) (app emp []):=by
 refine .go Tryz.f187 ?_;refine .bp [.r [],.r [(4,Xv 1 (!(seq s ({data:=#[]}))) X0),(5,Xv 1 (!(seq s ({data:=#[]}))) X0),(6,X (b7 (seq s ({data:=#[]})))),(10,Xv 1 (!(seq s ({data:=#[]})||decide ((s.size:Int)> 200))) X0),(11,Xv 1 (!(seq s ({data:=#[]})||decide ((s.size:Int)> 200))) (Xn ((s.size:Int)- 1)) (fun hg=>by(try simp only[decide_eq_true_eq,decide_eq_false_iff_not,Int.not_lt,Int.not_le,gt_iff_lt,zf,zT,qM,zV] at hg);exact(by have:=Lp hg.1;omega))),(12,Xv 2 (!(seq s ({data:=#[]})||decide ((s.size:Int)> 200))) (Xb s ((s.size:Int)- 1)) (fun hg=>by(try simp only[decide_eq_true_eq,decide_eq_false_iff_not,Int.not_lt,Int.not_le,gt_iff_lt,zf,zT,qM,zV] at hg);exact⟨(by have:=Lp hg.1;omega),(by omega)⟩)),(13,Xv 1 (!(seq s ({data:=#[]})||decide ((s.size:Int)> 200))) X0),(14,X (b7 (seq s ({data:=#[]})||decide ((s.size:Int)> 200))))]] ((seq s ({data:=#[]})||decide ((s.size:Int)> 200))|| (((((s[(Int.toNat ((s.size:Int)- 1))]?).getD 0).toNat:Nat):Int)==97)) (fun h1=> ?_) (fun h1=> ?_)
 ·have e1:((z45 s):Bool)=false:=by
   have hs:((s.size:Int)- 1).toNat=s.size- 1:=by omega
   rw[hs] at h1;simp only[y9,z44,decide_eq_true_eq] at h1;unfold z45;rw[decide_eq_false (fun q=>by omega)];rfl
  exact .aG [.r []] [] (fun z0:Bool=>(VB z0,[])) _ _ e1
 refine .loop (α:=Nat) [.r []] 152 (fun i=>([(0,VS s),(20,VI (s.size:Int)),(21,VI (i:Int))],[])) (fun i=>i<=s.size/\D3 s 0=D3 s i) (fun i=>s.size-i) (0:Nat) ?_ ?_
 ·exact⟨by omega,rfl⟩
 rintro i I4 kJ;try dsimp only at I4
 refine .bp [.r []] (decide ((i:Int)< (s.size:Int))) (fun h4=> ?_) (fun h4=> ?_)
 ·refine .bp [.r [],.r [(2,X (Xb s (i:Int))),(7,Xv 2 (!(decide (((((s[i]?).getD 0).toNat:Nat):Int)< 97))) (Xb s (i:Int))),(8,Xv 1 (!(decide (((((s[i]?).getD 0).toNat:Nat):Int)< 97))) X0),(9,X (b7 (decide (((((s[i]?).getD 0).toNat:Nat):Int)< 97))))]] (decide (((((s[i]?).getD 0).toNat:Nat):Int)< 97)||decide (((((s[i]?).getD 0).toNat:Nat):Int)> 122)) (fun h6=> ?_) (fun h6=> ?_)
  ·have e2:((z45 s):Bool)=false:=by
    simp only[y9] at h6;unfold z45;rw[I4.2,D3,if_pos (by omega),if_pos (by omega)];simp
   exact .aG [.r []] [] (fun z0:Bool=>(VB z0,[])) _ _ e2
  refine .back [.r [(0,X (Xn ((i:Int)+1)))]] [] (kJ ((i+1):Nat) ?_ ?_)
  ·simp only[y9] at h6;refine⟨by omega,?_⟩;rw[I4.2,D3,if_pos (by omega),if_neg (by omega)]
  ((try dsimp only);omega)
 have e3:((z45 s):Bool)=true:=by
  have hs:((s.size:Int)- 1).toNat=s.size- 1:=by omega
  rw[hs] at h1;simp only[y9,z44,decide_eq_false_iff_not] at h1;unfold z45;rw[I4.2,D3,if_neg (by omega),decide_eq_true (by omega)];rfl
 exact .aG [.r []] [] (fun z0:Bool=>(VB z0,[])) _ _ e3
theorem Rn(a b:fN):FC Tryz.prog 112 [.t (cm a),.t (cm b)] (app emp []) (VI (CH a b)) (app emp []):=by
 refine .go Tryz.f112 ?_;have e1:((CH a b):Int)=(gP [(nt a.clock b.clock),(nt a.aC b.aC)]):=by
  rfl
 exact .aG (let c:=nt a.clock b.clock;[.r [],.r [(4,X (aW (LR a.clock b.clock) X0)),(9,X (aW (LR a.aC b.aC) X0)),(11,X (aW (X5 [c,(nt a.aC b.aC)]) (cg bC [c,(nt a.aC b.aC)] X0)))]]) [] (fun z0:Int=>(VI z0,[])) _ _ e1
theorem w0U(o:fN):FC Tryz.prog 124 [.t (cm o)] (app emp []) (VI (gZ o)) (app emp []):=by
 refine .go Tryz.f124 ?_;refine .bp (let a:=o.af !=0;[.r [],.r [(5,Xv 1 a X0),(6,Xv 1 a X0),(7,X (Xk a))]]) ((o.af !=0)&&(o.af !=1)) (fun h1=> ?_) (fun h1=> ?_)
 ·have e1:((gZ o):Int)=8:=by
   unfold gZ
   (repeat' split)<;>first|rfl| (exfalso;omega)| (exfalso;simp_all;done)| (exfalso;simp_all;omega)|grind
  exact .aG [.r []] [] (fun z0:Int=>(VI z0,[])) _ _ e1
 refine .bp (let c:=decide (o.clock<1)||decide (o.clock>1073741824);let a:=c||decide (o.aC<0);let b:=a||decide (o.aC>1000);let d:=b||decide (o.tH<1);let e:=decide (o.clock<1);[.r [(5,Xv 1 (!e) X0),(6,Xv 1 (!e) X0),(7,X (b7 e)),(10,Xv 1 (!c) X0),(11,Xv 1 (!c) X0),(12,X (b7 c)),(15,Xv 1 (!a) X0),(16,Xv 1 (!a) X0),(17,X (b7 a)),(20,Xv 1 (!b) X0),(21,Xv 1 (!b) X0),(22,X (b7 b)),(25,Xv 1 (!d) X0),(26,Xv 1 (!d) X0),(27,X (b7 d))]]) (((((decide (o.clock<1)||decide (o.clock>1073741824))||decide (o.aC<0))||decide (o.aC>1000))||decide (o.tH<1))||decide (o.tH>1073741824)) (fun h3=> ?_) (fun h3=> ?_)
 ·have e2:((gZ o):Int)=2:=by
   unfold gZ
   (repeat' split)<;>first|rfl| (exfalso;omega)| (exfalso;simp_all;done)| (exfalso;simp_all;omega)|grind
  exact .aG [.r []] [] (fun z0:Int=>(VI z0,[])) _ _ e2
 refine .bp (let a:=o.af==0;let b:=!(seq o.nm ({data:=#[]}));[.r [(5,Xv 1 a X0),(6,Xv 1 a X0),(7,Xv 1 a X0),(9,Xv 1 (a&& !b) X0),(10,Xv 1 (a&& !b) X0),(11,x5 a b),(12,X (Xk a))]]) ((o.af==0)&&(!(seq o.nm ({data:=#[]}))|| !(seq o.vl ({data:=#[]})))) (fun h5=> ?_) (fun h5=> ?_)
 ·refine .bp [] ((o.af==0)&&(!(seq o.nm ({data:=#[]}))|| !(seq o.vl ({data:=#[]})))) (fun h5=> ?_) (fun h5=> ?_)
  ·have e3:((gZ o):Int)=4:=by
    unfold gZ
    (repeat' split)<;>first|rfl| (exfalso;omega)| (exfalso;simp_all;done)| (exfalso;simp_all;omega)|grind
   exact .aG [.r []] [] (fun z0:Int=>(VI z0,[])) _ _ e3
  refine .bp (let a:=o.af==0;let b:=decide (o.prt< (-1));[.r [(5,Xv 1 a X0),(6,Xv 1 a X0),(7,Xv 1 a X0),(9,Xv 1 (a&& !b) X0),(10,Xv 1 (a&& !b) X0),(11,x5 a b),(12,X (Xk a))]]) ((o.af==0)&&(decide (o.prt< (-1))||decide (o.prt>1073741824))) (fun h8=> ?_) (fun h8=> ?_)
  ·have e4:((gZ o):Int)=2:=by
    unfold gZ
    (repeat' split)<;>first|rfl| (exfalso;omega)| (exfalso;simp_all;done)| (exfalso;simp_all;omega)|grind
   exact .aG [.r []] [] (fun z0:Int=>(VI z0,[])) _ _ e4
  refine .bp (let a:=o.af==0;[.r [(5,Xv 1 a X0),(6,Xv 1 a (aW (X6 o.nu) X0)),(7,Xv 1 a X0),(8,X (Xk a))]]) ((o.af==0)&& !(z45 o.nu)) (fun eE=> ?_) (fun eE=> ?_)
  ·refine .bp [] ((o.af==0)&& !(z45 o.nu)) (fun eE=> ?_) (fun eE=> ?_)
   ·have e5:((gZ o):Int)=9:=by
     unfold gZ
     (repeat' split)<;>first|rfl| (exfalso;omega)| (exfalso;simp_all;done)| (exfalso;simp_all;omega)|grind
    exact .aG [.r []] [] (fun z0:Int=>(VI z0,[])) _ _ e5
   refine .bp (let a:=(o.af==1)&& !(seq o.vl ({data:=#[]}));[.r [(5,Xv 1 (o.af==1) X0),(6,Xv 1 (o.af==1) X0),(7,X (Xk (o.af==1))),(10,Xv 1 a X0),(11,Xv 1 a (aW (FL o.vl) X0)),(12,Xv 1 a X0),(13,X (Xk a))]]) (((o.af==1)&& !(seq o.vl ({data:=#[]})))&& !(j4 o.vl)) (fun fe=> ?_) (fun fe=> ?_)
   ·have e6:((gZ o):Int)=23:=by
     unfold gZ
     (repeat' split)<;>first|rfl| (exfalso;omega)| (exfalso;simp_all;done)| (exfalso;simp_all;omega)|grind
    exact .aG [.r []] [] (fun z0:Int=>(VI z0,[])) _ _ e6
   have e7:((gZ o):Int)=0:=by
    unfold gZ
    (repeat' split)<;>first|rfl| (exfalso;omega)| (exfalso;simp_all;done)| (exfalso;simp_all;omega)|grind
   exact .aG [.r []] [] (fun z0:Int=>(VI z0,[])) _ _ e7
  refine .bp (let a:=o.af==1;[.r [(5,Xv 1 a X0),(6,Xv 1 a (aW (QL o.nm) X0)),(7,Xv 1 a X0),(8,X (Xk a))]]) ((o.af==1)&& !(oC o.nm)) (fun gO=> ?_) (fun gO=> ?_)
  ·have e8:((gZ o):Int)=9:=by
    unfold gZ
    (repeat' split)<;>first|rfl| (exfalso;omega)| (exfalso;simp_all;done)| (exfalso;simp_all;omega)|grind
   exact .aG [.r []] [] (fun z0:Int=>(VI z0,[])) _ _ e8
  refine .bp (let a:=(o.af==1)&& !(seq o.vl ({data:=#[]}));[.r [(5,Xv 1 (o.af==1) X0),(6,Xv 1 (o.af==1) X0),(7,X (Xk (o.af==1))),(10,Xv 1 a X0),(11,Xv 1 a (aW (FL o.vl) X0)),(12,Xv 1 a X0),(13,X (Xk a))]]) (((o.af==1)&& !(seq o.vl ({data:=#[]})))&& !(j4 o.vl)) (fun fe=> ?_) (fun fe=> ?_)
  ·have e9:((gZ o):Int)=23:=by
    unfold gZ
    (repeat' split)<;>first|rfl| (exfalso;omega)| (exfalso;simp_all;done)| (exfalso;simp_all;omega)|grind
   exact .aG [.r []] [] (fun z0:Int=>(VI z0,[])) _ _ e9
  have kE:((gZ o):Int)=0:=by
   unfold gZ
   (repeat' split)<;>first|rfl| (exfalso;omega)| (exfalso;simp_all;done)| (exfalso;simp_all;omega)|grind
  exact .aG [.r []] [] (fun z0:Int=>(VI z0,[])) _ _ kE
 refine .bp (let a:=o.af==1;[.r [(5,Xv 1 a X0),(6,Xv 1 a X0),(7,Xv 1 a X0),(9,Xv 1 (a&& !(o.prt !=0)) X0),(10,Xv 1 (a&& !(o.prt !=0)) X0),(11,x5 a (o.prt !=0)),(12,X (Xk a))]]) ((o.af==1)&&((o.prt !=0)|| !(seq o.nu ({data:=#[]})))) (fun h6=> ?_) (fun h6=> ?_)
 ·have lg:((gZ o):Int)=4:=by
   unfold gZ
   (repeat' split)<;>first|rfl| (exfalso;omega)| (exfalso;simp_all;done)| (exfalso;simp_all;omega)|grind
  exact .aG [.r []] [] (fun z0:Int=>(VI z0,[])) _ _ lg
 refine .bp (let a:=o.af==0;let b:=decide (o.prt< (-1));[.r [(5,Xv 1 a X0),(6,Xv 1 a X0),(7,Xv 1 a X0),(9,Xv 1 (a&& !b) X0),(10,Xv 1 (a&& !b) X0),(11,x5 a b),(12,X (Xk a))]]) ((o.af==0)&&(decide (o.prt< (-1))||decide (o.prt>1073741824))) (fun h8=> ?_) (fun h8=> ?_)
 ·have lu:((gZ o):Int)=2:=by
   unfold gZ
   (repeat' split)<;>first|rfl| (exfalso;omega)| (exfalso;simp_all;done)| (exfalso;simp_all;omega)|grind
  exact .aG [.r []] [] (fun z0:Int=>(VI z0,[])) _ _ lu
 refine .bp (let a:=o.af==0;[.r [(5,Xv 1 a X0),(6,Xv 1 a (aW (X6 o.nu) X0)),(7,Xv 1 a X0),(8,X (Xk a))]]) ((o.af==0)&& !(z45 o.nu)) (fun eE=> ?_) (fun eE=> ?_)
 ·refine .bp [] ((o.af==0)&& !(z45 o.nu)) (fun eE=> ?_) (fun eE=> ?_)
  ·have nP:((gZ o):Int)=9:=by
    unfold gZ
    (repeat' split)<;>first|rfl| (exfalso;omega)| (exfalso;simp_all;done)| (exfalso;simp_all;omega)|grind
   exact .aG [.r []] [] (fun z0:Int=>(VI z0,[])) _ _ nP
  refine .bp (let a:=(o.af==1)&& !(seq o.vl ({data:=#[]}));[.r [(5,Xv 1 (o.af==1) X0),(6,Xv 1 (o.af==1) X0),(7,X (Xk (o.af==1))),(10,Xv 1 a X0),(11,Xv 1 a (aW (FL o.vl) X0)),(12,Xv 1 a X0),(13,X (Xk a))]]) (((o.af==1)&& !(seq o.vl ({data:=#[]})))&& !(j4 o.vl)) (fun fe=> ?_) (fun fe=> ?_)
  ·have nQ:((gZ o):Int)=23:=by
    unfold gZ
    (repeat' split)<;>first|rfl| (exfalso;omega)| (exfalso;simp_all;done)| (exfalso;simp_all;omega)|grind
   exact .aG [.r []] [] (fun z0:Int=>(VI z0,[])) _ _ nQ
  have pY:((gZ o):Int)=0:=by
   unfold gZ
   (repeat' split)<;>first|rfl| (exfalso;omega)| (exfalso;simp_all;done)| (exfalso;simp_all;omega)|grind
  exact .aG [.r []] [] (fun z0:Int=>(VI z0,[])) _ _ pY
 refine .bp (let a:=o.af==1;[.r [(5,Xv 1 a X0),(6,Xv 1 a (aW (QL o.nm) X0)),(7,Xv 1 a X0),(8,X (Xk a))]]) ((o.af==1)&& !(oC o.nm)) (fun gO=> ?_) (fun gO=> ?_)
 ·have xO:((gZ o):Int)=9:=by
   unfold gZ
   (repeat' split)<;>first|rfl| (exfalso;omega)| (exfalso;simp_all;done)| (exfalso;simp_all;omega)|grind
  exact .aG [.r []] [] (fun z0:Int=>(VI z0,[])) _ _ xO
 refine .bp (let a:=(o.af==1)&& !(seq o.vl ({data:=#[]}));[.r [(5,Xv 1 (o.af==1) X0),(6,Xv 1 (o.af==1) X0),(7,X (Xk (o.af==1))),(10,Xv 1 a X0),(11,Xv 1 a (aW (FL o.vl) X0)),(12,Xv 1 a X0),(13,X (Xk a))]]) (((o.af==1)&& !(seq o.vl ({data:=#[]})))&& !(j4 o.vl)) (fun fe=> ?_) (fun fe=> ?_)
 ·have xP:((gZ o):Int)=23:=by
   unfold gZ
   (repeat' split)<;>first|rfl| (exfalso;omega)| (exfalso;simp_all;done)| (exfalso;simp_all;omega)|grind
  exact .aG [.r []] [] (fun z0:Int=>(VI z0,[])) _ _ xP
 have xQ:((gZ o):Int)=0:=by
  unfold gZ
  (repeat' split)<;>first|rfl| (exfalso;omega)| (exfalso;simp_all;done)| (exfalso;simp_all;omega)|grind
 exact .aG [.r []] [] (fun z0:Int=>(VI z0,[])) _ _ xQ
theorem X7(l:List fN):FC Tryz.prog 65 [VL 8 cm l] (app emp []) (VI (lX l 0)) (app emp []):=by
 refine .go Tryz.f65 ?_;refine .len 0 (fun dQ=> ?_);refine .loop (α:=Nat) [.r [],.r [(1,X (Xl cm l))]] 32 (fun i=>([(0,VL 8 cm l),(6,VL 8 cm l),(7,VI (l.length:Int)),(8,VI (i:Int))],[])) (fun i=>i<=l.length/\lX l 0=lX l i) (fun i=>l.length-i) (0:Nat) ?_ ?_
 ·exact⟨by omega,rfl⟩
 rintro i I2 ic;try dsimp only at I2
 refine .bp [.r []] (decide ((i:Int)< (l.length:Int))) (fun h2=> ?_) (fun h2=> ?_)
 ·refine .bp [.r [(1,X (Xi cm l (i:Int)))],.r [(1,X (aW (w0U ((l.getD i default))) X0))],.r []] ((gZ ((l.getD i default))) !=0) (fun h5=> ?_) (fun h5=> ?_)
  ·have e1:((lX l 0):Int)=(gZ ((l.getD i default))):=by
    rw[I2.2,lX,if_pos (by omega),if_pos h5]
   exact .aG [.r []] [] (fun z0:Int=>(VI z0,[])) _ _ e1
  refine .bp [.r [(5,Xv 1 (decide ((i:Int)> 0)) (Xn ((i:Int)- 1))),(6,Xv 2 (decide ((i:Int)> 0)) (yV cm l ((i:Int)- 1) (i- 1))),(7,Xv 1 (decide ((i:Int)> 0)) X0),(9,Xv 2 (decide ((i:Int)> 0)) (aW (Rn ((l.getD (i- 1) default)) ((l.getD i default))) X0)),(10,Xv 1 (decide ((i:Int)> 0)) X0),(11,X (Xk (decide ((i:Int)> 0))))]] (decide ((i:Int)> 0)&&decide ((CH ((l.getD (i- 1) default)) ((l.getD i default)))>=0)) (fun h7=> ?_) (fun h7=> ?_)
  ·have e2:((lX l 0):Int)=5:=by
    rw[I2.2,lX,if_pos (by omega),if_neg (by rw[h5];decide),if_pos ⟨by omega,by rw[<-Xo];exact h7.2⟩]
   exact .aG [.r []] [] (fun z0:Int=>(VI z0,[])) _ _ e2
  refine .back [.r [(0,X (Xn ((i:Int)+1)))]] [] (ic ((i+1):Nat) ?_ ?_)
  ·refine⟨by omega,?_⟩;rw[I2.2,lX,if_pos (by omega),if_neg (by rw[h5];decide),if_neg (by rw[<-Xo];clear ic;rintro⟨a,b⟩;rcases h7 with h|h<;>omega)]
  ((try dsimp only);omega)
 have e3:((lX l 0):Int)=0:=by
  rw[I2.2,lX,if_neg (by omega)]
 exact .aG [.r []] [] (fun z0:Int=>(VI z0,[])) _ _ e3
theorem x4b(a b:List fN)(hn:a.length+b.length<=1099511627776):FC Tryz.prog 56 [VL 8 cm a,VL 8 cm b] (app emp []) (.aZ [VL 8 cm ((dN a b).getD []),VI (if(dN a b).isSome then(0:Int) else 6)]) (app emp []):=by
 refine .go Tryz.f56 ?_;refine .len 0 (fun dQ=> ?_);refine .len 1 (fun gW=> ?_);refine .loop (α:=(List fN)×(List fN)×(List fN)) [.r [],.r [],.le (.nR 6 8)] 25 (fun(x,y,o)=>([(0,VL 8 cm x),(1,VL 8 cm y),(6,.aF 24 o.length)],[(24,OR 8 cm o)])) (fun(x,y,o)=>o.length+x.length+y.length<=a.length+b.length/\dN a b=(dN x y).map (o++ ·)) (fun(x,y,o)=>x.length+y.length) (a,b,[]) ?_ ?_
 ·exact⟨by simp,by simp⟩
 rintro⟨x,y,o⟩ I2 ic;try dsimp only at I2
 refine .bp [.r [(1,X (Xl cm x)),(5,Xv 1 (!(decide ((x.length:Int)> 0))) (Xl cm y)),(6,Xv 1 (!(decide ((x.length:Int)> 0))) X0),(7,X (b7 (decide ((x.length:Int)> 0))))]] (decide ((x.length:Int)> 0)||decide ((y.length:Int)> 0)) (fun h2=> ?_) (fun h2=> ?_)
 ·have oO:=h2;refine .bp [.r [(1,X (Xl cm y)),(5,Xv 1 (!((y.length:Int)==0)) (Xl cm x)),(6,Xv 1 (!((y.length:Int)==0)) X0),(7,Xv 1 (!((y.length:Int)==0)) X0),(9,Xv 1 ((!((y.length:Int)==0))&&(decide ((x.length:Int)> 0))) (Xi cm x 0) (fun hg=>by(try simp only[decide_eq_true_eq,decide_eq_false_iff_not,Int.not_lt,Int.not_le,gt_iff_lt,zf,zT,qq,Bool.and_eq_false_iff,beq_iff_eq,beq_eq_false_iff_ne,ne_eq] at hg);exact⟨(by omega),(by omega)⟩)),(10,Xv 1 ((!((y.length:Int)==0))&&(decide ((x.length:Int)> 0))) X0),(12,Xv 1 ((!((y.length:Int)==0))&&(decide ((x.length:Int)> 0))) (Xi cm y 0) (fun hg=>by(try simp only[decide_eq_true_eq,decide_eq_false_iff_not,Int.not_lt,Int.not_le,gt_iff_lt,zf,zT,qq,Bool.and_eq_false_iff,beq_iff_eq,beq_eq_false_iff_ne,ne_eq] at hg);exact⟨(by omega),(by omega)⟩)),(13,Xv 1 ((!((y.length:Int)==0))&&(decide ((x.length:Int)> 0))) X0),(14,Xv 2 ((!((y.length:Int)==0))&&(decide ((x.length:Int)> 0))) (aW (Rn ((x.getD 0 default)) ((y.getD 0 default))) X0)),(15,Xv 1 ((!((y.length:Int)==0))&&(decide ((x.length:Int)> 0))) X0),(16,kH (!((y.length:Int)==0)) (decide ((x.length:Int)> 0))),(17,X (b7 ((y.length:Int)==0)))]] (((y.length:Int)==0)|| (decide ((x.length:Int)> 0)&&decide ((CH ((x.getD 0 default)) ((y.getD 0 default)))< 0))) (fun h4=> ?_) (fun h4=> ?_)
  ·refine .back [.r [(2,X (Xi cm x 0)),(5,X (cg cm [((x.getD 0 default))] (fK 8 cm 24 o [((x.getD 0 default))]))),(7,X (y7 cm 8 x 1))]] [(24,24)] (ic ((x.drop 1),y,(o++[((x.getD 0 default))])) ?_ ?_)
   ·have hl:y.length=0\/iB (x.getD 0 default) (y.getD 0 default):=by(rw[<-IJ];omega)
    refine⟨by simp;omega,?_⟩;rw[I2.2,y5r (by omega) hl,Option.map_map];congr 1;funext z;simp
   (try dsimp only);simp;omega
  refine .bp [.r [(1,X (Xl cm x)),(5,Xv 1 (!((x.length:Int)==0)) (Xi cm y 0) (fun hg=>by(try simp only[zf,zT,beq_iff_eq,beq_eq_false_iff_ne,ne_eq] at hg);exact⟨(by omega),(by omega)⟩)),(6,Xv 1 (!((x.length:Int)==0)) X0),(8,Xv 1 (!((x.length:Int)==0)) (Xi cm x 0) (fun hg=>by(try simp only[zf,zT,beq_iff_eq,beq_eq_false_iff_ne,ne_eq] at hg);exact⟨(by omega),(by omega)⟩)),(9,Xv 1 (!((x.length:Int)==0)) X0),(10,Xv 2 (!((x.length:Int)==0)) (aW (Rn ((y.getD 0 default)) ((x.getD 0 default))) X0)),(11,Xv 1 (!((x.length:Int)==0)) X0),(12,X (b7 ((x.length:Int)==0)))]] (((x.length:Int)==0)||decide ((CH ((y.getD 0 default)) ((x.getD 0 default)))< 0)) (fun h6=> ?_) (fun h6=> ?_)
  ·refine .back [.r [(2,X (Xi cm y 0)),(5,X (cg cm [((y.getD 0 default))] (fK 8 cm 24 o [((y.getD 0 default))]))),(7,X (y7 cm 8 y 1))]] [(24,24)] (ic (x,(y.drop 1),(o++[((y.getD 0 default))])) ?_ ?_)
   ·have hl:x.length=0\/iB (y.getD 0 default) (x.getD 0 default):=by(rw[<-IJ];omega)
    refine⟨by simp;omega,?_⟩;rw[I2.2,y3J (by omega) hl,Option.map_map];congr 1;funext z;simp
   (try dsimp only);simp;omega
  have Be:0<x.length:=by omega
  have IX:0<y.length:=by omega
  have n1:¬iB (x.getD 0 default) (y.getD 0 default):=by(rw[<-IJ];omega)
  have n2:¬iB (y.getD 0 default) (x.getD 0 default):=by(rw[<-IJ];omega)
  have hu:=y5s Be IX n1 n2;refine .bp [.r [(1,X (Xi cm x 0)),(4,X (Xi cm y 0))]] (!((((x.getD 0 default)).clock)==(((y.getD 0 default)).clock)&&((((x.getD 0 default)).aC)==(((y.getD 0 default)).aC)&&((((x.getD 0 default)).af)==(((y.getD 0 default)).af)&&((((x.getD 0 default)).tH)==(((y.getD 0 default)).tH)&&((((x.getD 0 default)).prt)==(((y.getD 0 default)).prt)&&(seq (((x.getD 0 default)).nu) (((y.getD 0 default)).nu)&&(seq (((x.getD 0 default)).nm) (((y.getD 0 default)).nm)&&(seq (((x.getD 0 default)).vl) (((y.getD 0 default)).vl)&&true))))))))) (fun h8=> ?_) (fun h8=> ?_)
  ·have e1:(((dN a b).getD []):List fN)=[]:=by
    have dh:¬x.getD 0 default=y.getD 0 default:=by
     intro e;have s0:∀s,seq s s=true:=fun s=>kj.2 rfl
     rw[e] at h8;simp[s0] at h8
    rw[I2.2,hu,if_neg dh];rfl
   have e2:((if(dN a b).isSome then(0:Int) else 6):Int)=6:=by
    have dh:¬x.getD 0 default=y.getD 0 default:=by
     intro e;have s0:∀s,seq s s=true:=fun s=>kj.2 rfl
     rw[e] at h8;simp[s0] at h8
    rw[I2.2,hu,if_neg dh];rfl
   exact .aG [.r [],.le (.nL 4 8)] [] (fun((z0,z1):(List fN)×Int)=>(.aZ [VL 8 cm z0,VI z1],[])) _ _ (pr e1 e2)
  refine .back [.r [(2,X (Xi cm x 0)),(5,X (cg cm [((x.getD 0 default))] (fK 8 cm 24 o [((x.getD 0 default))]))),(7,X (y7 cm 8 x 1)),(9,X (y7 cm 8 y 1))]] [(24,24)] (ic ((x.drop 1),(y.drop 1),(o++[((x.getD 0 default))])) ?_ ?_)
  ·obtain⟨q1,q2,q3,q4,q5,q6,q7,q8,-⟩:=h8;rw[kj] at q6 q7 q8;refine⟨by simp;omega,?_⟩;rw[I2.2,hu,if_pos (Xq q1 q2 q3 q4 q5 q6 q7 q8),Option.map_map];congr 1;funext z;simp
  (try dsimp only);simp;omega
 have e3:(((dN a b).getD []):List fN)=o:=by
  have Be:x=[]:=qP (by omega);have IX:y=[]:=qP (by omega);rw[I2.2,Be,IX];simp[dN]
 have e4:((if(dN a b).isSome then(0:Int) else 6):Int)=0:=by
  have Be:x=[]:=qP (by omega);have IX:y=[]:=qP (by omega);rw[I2.2,Be,IX];simp[dN]
 exact .aG [.r [],.le (.fr 4 [(o.length:Nat)=(List.map cm o).length] ⟨lm,trivial⟩)] [] (fun((z0,z1):(List fN)×Int)=>(.aZ [VL 8 cm z0,VI z1],[])) _ _ (pr e3 e4)
theorem x4c(l:List aA)(p:Int)(hv:eR l)(hp:0<=p/\p<=2147483647):FC Tryz.prog 238 [VL 2 bk l,VI p] (app emp []) (VI (dK l p 0 0)) (app emp []):=by
 refine .go Tryz.f238 ?_;refine .len 0 (fun dQ=> ?_);have ca:=wo.2 hv;have rz:cz l<=2147483647:=by have:=hv.2.1;unfold cz;omega
 have mQ:eS l<=2147483647:=by have:=hv.2.2;unfold eS;omega
 have o0:0<=cz l:=by unfold cz;omega
 have o1:0<=eS l:=by unfold eS;omega
 refine .loop (α:=Int×Int×Nat) [.r [],.r [],.r [(1,X (Xl bk l))]] 48 (fun(fr,tq,i)=>([(1,VI p),(5,VI fr),(6,VI tq),(9,VL 2 bk l),(10,VI (l.length:Int)),(11,VI (i:Int))],[])) (fun(fr,tq,i)=>i<=l.length/\0<=fr/\0<=tq/\fr+cS (ex (l.drop i))=cz l/\tq+eV (ex (l.drop i))=eS l/\fr<=p/\dK l p 0 0=dK (l.drop i) p fr tq) (fun(fr,tq,i)=>l.length-i) (0,0,0) ?_ ?_
 ·exact⟨oM,dM,dM,by simp[cz],by simp[eS],oM,rfl⟩
 rintro⟨fr,tq,i⟩ I3 cC;try dsimp only at I3
 refine .bp [.r []] (decide ((i:Int)< (l.length:Int))) (fun h3=> ?_) (fun h3=> ?_)
 ·have bH:=XQ (l:=l) (i:=i) oM hv.1;have hd:=Q6 (l:=l) (i:=i) oM;refine .bp [.r [(0,X (Xi bk l (i:Int)))],.r [],.r []] ((((l.getD i default)).af)==1) (fun h8=> ?_) (fun h8=> ?_)
  ·refine .back [.r [(3,X (Xn (tq+(((l.getD i default)).n))))],.r [(0,X (Xn ((i:Int)+1)))]] [] (cC (fr,(tq+(((l.getD i default)).n)),(i+1)) ?_ ?_)
   ·obtain⟨s1,s2,s3,s4,s5⟩:=bH
    (first|rw[if_pos oM] at s1|rw[if_neg oM] at s1)
    (first|rw[if_pos oM] at s2|rw[if_neg oM] at s2)
    refine⟨oM,oM,oM,oM,oM,oM,?_⟩;rw[I3.2.2.2.2.2.2,hd,dK]
    ((repeat' split)<;>first|rfl|omega)
   exact tO
  refine .bp [.r []] ((((l.getD i default)).af)==0) (fun eE=> ?_) (fun eE=> ?_)
  ·refine .bp [.r [(4,X (Xn (fr+(((l.getD i default)).n))))]] (decide (p< (fr+(((l.getD i default)).n)))) (fun gO=> ?_) (fun gO=> ?_)
   ·have e1:((dK l p 0 0):Int)=((tq+p)- fr):=by
     first| (rw[I3.2.2.2.2.2.2,Ly oM];rfl)| (rw[I3.2.2.2.2.2.2,hd,dK];((repeat' split)<;>first|rfl|omega))
    exact .aG [.r [(2,X (Xn (tq+p))),(4,X (Xn ((tq+p)- fr)))]] [] (fun z0:Int=>(VI z0,[])) _ _ e1
   refine .back (let a:=((l.getD i default)).n;[.r [(3,X (Xn (tq+a)))],.r [(3,X (Xn (fr+a)))],.r [(0,X (Xn ((i:Int)+1)))]]) [] (cC ((fr+(((l.getD i default)).n)),(tq+(((l.getD i default)).n)),(i+1)) ?_ ?_)
   ·obtain⟨s1,s2,s3,s4,s5⟩:=bH
    (first|rw[if_pos oM] at s1|rw[if_neg oM] at s1)
    (first|rw[if_pos oM] at s2|rw[if_neg oM] at s2)
    refine⟨oM,oM,oM,oM,oM,oM,?_⟩;rw[I3.2.2.2.2.2.2,hd,dK]
    ((repeat' split)<;>first|rfl|omega)
   exact tO
  refine .bp [.r [(4,X (Xn (fr+(((l.getD i default)).n))))]] (decide (p< (fr+(((l.getD i default)).n)))) (fun h6=> ?_) (fun h6=> ?_)
  ·have e2:((dK l p 0 0):Int)= -1:=by
    first| (rw[I3.2.2.2.2.2.2,Ly oM];rfl)| (rw[I3.2.2.2.2.2.2,hd,dK];((repeat' split)<;>first|rfl|omega))
   exact .aG [.r []] [] (fun z0:Int=>(VI z0,[])) _ _ e2
  refine .back [.r [(3,X (Xn (fr+(((l.getD i default)).n))))],.r [(0,X (Xn ((i:Int)+1)))]] [] (cC ((fr+(((l.getD i default)).n)),tq,(i+1)) ?_ ?_)
  ·obtain⟨s1,s2,s3,s4,s5⟩:=bH
   (first|rw[if_pos oM] at s1|rw[if_neg oM] at s1)
   (first|rw[if_pos oM] at s2|rw[if_neg oM] at s2)
   refine⟨oM,oM,oM,oM,oM,oM,?_⟩;rw[I3.2.2.2.2.2.2,hd,dK]
   ((repeat' split)<;>first|rfl|omega)
  exact tO
 have e3:((dK l p 0 0):Int)= -1:=by
  first| (rw[I3.2.2.2.2.2.2,Ly oM];rfl)| (rw[I3.2.2.2.2.2.2,hd,dK];((repeat' split)<;>first|rfl|omega))
 exact .aG [.r []] [] (fun z0:Int=>(VI z0,[])) _ _ e3
theorem FW(l:List aA)(pl:List Int)(hv:eR l)(hp:∀x∈pl,0<=x/\x<cz l)(hlen:pl.length<=1000000000):FC Tryz.prog 204 [VL 2 bk l,VL 1 bC pl] (app emp []) (.aZ [VL 1 bC (List.map (fun x=>dK l x 0 0) pl),VI 0]) (app emp []):=by
 refine .go Tryz.f204 ?_;refine .len 0 (fun dQ=> ?_);refine .len 1 (fun gW=> ?_);have ca:=wo.2 hv;have rz:cz l<=2147483647:=by have:=hv.2.1;unfold cz;omega
 have mQ:eS l<=2147483647:=by have:=hv.2.2;unfold eS;omega
 have o0:0<=cz l:=by unfold cz;omega
 have o1:0<=eS l:=by unfold eS;omega
 refine .bp [.r [],.r [(1,X (aW (Ae l) X0))],.r []] ((jT l) !=0) (fun h2=> ?_) (fun h2=> ?_)
 ·exfalso;omega
 refine .loop (α:=Nat×(List Int)) [.r [(1,X (aW (LB l aM) X0))],.r [],.r [(1,X (Xl bC pl))],.le (.nR 9 1)] 145 (fun(i,out)=>([(0,VL 2 bk l),(7,VI (cz l)),(9,.aF 144 out.length),(22,VL 1 bC pl),(23,VI (pl.length:Int)),(24,VI (i:Int))],[(144,OR 1 bC out)])) (fun(i,out)=>i<=pl.length/\out=(pl.take i).map (fun x=>dK l x 0 0)) (fun(i,out)=>pl.length-i) (0,[]) ?_ ?_
 ·exact⟨oM,rfl⟩
 rintro⟨i,out⟩ I7 wP;try dsimp only at I7
 have ol:out.length=i:=by rw[I7.2];simp;omega
 refine .bp [.r []] (decide ((i:Int)< (pl.length:Int))) (fun h7=> ?_) (fun h7=> ?_)
 ·have hx:=hp (pl.getD i default) (by rw[show pl.getD i default=pl[i] by simp[List.getD,qa (show i<pl.length by omega)]];exact zB _);refine .bp (let a:=decide ((pl.getD i default)< 0);[.r [(0,X (Xi bC pl (i:Int)))],.r [(5,Xv 2 (!a) X0),(6,X (b7 a))]]) (decide ((pl.getD i default)< 0)||decide ((pl.getD i default)>=(cz l))) (fun h9=> ?_) (fun h9=> ?_)
  ·exfalso;omega
  refine .back (let a:=pl.getD i default;[.r [(3,X (aW (x4c l a aM oM) X0)),(5,X (cg bC [(dK l a 0 0)] (fK 1 bC 144 out [(dK l a 0 0)])))],.r [(0,X (Xn ((i:Int)+1)))]]) [(144,144)] (wP ((i+1),(out++[(dK l (pl.getD i default) 0 0)])) ?_ ?_)
  ·refine⟨oM,?_⟩;rw[I7.2,qt (show i<pl.length by omega),zo];simp[List.getD,qa (show i<pl.length by omega)]
  exact tO
 have e1:((List.map (fun x=>dK l x 0 0) pl):List Int)=out:=by
  rw[I7.2,qk oM]
 exact .aG [.r [],.le (.fr 4 [(out.length:Nat)=(List.map bC out).length] ⟨lm,trivial⟩)] [] (fun z0:List Int=>(.aZ [VL 1 bC z0,VI 0],[])) _ _ e1
end Go.Ch
end
section
namespace Go.Ch
open Go Go.Ab
def pJ(l:List Cell):Prop:=∀c∈l,c.text.size=0
structure mz(e:bP):Prop where
 sp:e.split.length=0
 me:e.merge.length=0
 tx:pJ e.cells
 ln:e.cells.length<=1048576
def gX(x:aX)(e:bP):Int:=if jI x≠0 then jI x else if jF e≠0 then jF e else IV x e
def vz(x:aX)(e:bP):Int:=if gX x e≠0 then 0 else cU x.ak e.ak
def vA(x:aX)(e:bP):Int:=if gX x e≠0 then 0 else cU x.aj e.aj
theorem LS{x:aX}{e:bP}{k:Int}(h:gX x e=k)(hk:k≠0):vz x e=0/\vA x e=0/\gX x e=k:=by
 unfold vz vA;rw[h,if_pos hk,if_pos hk];exact⟨rfl,rfl,rfl⟩
theorem x9g{x:aX}{e:bP}(h:jI x≠0):vz x e=0/\vA x e=0/\gX x e=jI x:=LS (by unfold gX;rw[if_pos h]) h
theorem x9h{x:aX}{e:bP}(h:jI x=0)(h2:jF e≠0):vz x e=0/\vA x e=0/\gX x e=jF e:=LS (by unfold gX;rw[if_neg (fun q=>q h),if_pos h2]) h2
theorem x9i{x:aX}{e:bP}(h:jI x=0)(h2:jF e=0)(h3:¬(0<e.ak.length->cz e.ak=x.ak)\/¬(0<e.aj.length->cz e.aj=x.aj)):vz x e=0/\vA x e=0/\gX x e=14:=
 LS (by
  unfold gX IV;rw[if_neg (fun q=>q h),if_neg (fun q=>q h2)];split
  ·rfl
  rename_i q;rw[if_pos];rcases h3 with z|z
  ·exact absurd (fun a=>qc fun b=>q ⟨a,b⟩) z
  exact qc fun w=>z (fun a=>qc fun b=>w ⟨a,b⟩)) dM
theorem Ro{x:aX}{e:bP}(h:jI x=0)(h2:jF e=0)(h3:(0<e.ak.length->cz e.ak=x.ak)/\(0<e.aj.length->cz e.aj=x.aj))(q1:e.split.length=0)(q2:e.merge.length=0):gX x e=sg e.cells (cU x.ak e.ak) (cU x.aj e.aj) 0:=by
 have i1:z55 e.split (cU x.ak e.ak) (cU x.aj e.aj) 0=0:=by rw[z55,if_neg oM]
 have i2:z55 e.merge (cU x.ak e.ak) (cU x.aj e.aj) 0=0:=by rw[z55,if_neg oM]
 unfold gX IV;rw[if_neg (fun q=>q h),if_neg (fun q=>q h2),if_neg (fun q=>q.2 (h3.1 q.1)),if_neg (fun q=>q.2 (h3.2 q.1)),i1,i2];split
 ·rfl
 rename_i q;rw[if_neg (fun z=>z rfl)];exact(qc q).symm
theorem x9j{x:aX}{e:bP}(h:jI x=0)(h2:jF e=0)(h3:(0<e.ak.length->cz e.ak=x.ak)/\(0<e.aj.length->cz e.aj=x.aj))(q1:e.split.length=0)(q2:e.merge.length=0)(hc:sg e.cells (cU x.ak e.ak) (cU x.aj e.aj) 0=2):vz x e=0/\vA x e=0/\gX x e=2:=
 LS ((Ro h h2 h3 q1 q2).trans hc) dM
theorem x9k{x:aX}{e:bP}(h:jI x=0)(h2:jF e=0)(h3:(0<e.ak.length->cz e.ak=x.ak)/\(0<e.aj.length->cz e.aj=x.aj))(q1:e.split.length=0)(q2:e.merge.length=0)(hc:sg e.cells (cU x.ak e.ak) (cU x.aj e.aj) 0=0):vz x e=cU x.ak e.ak/\vA x e=cU x.aj e.aj/\gX x e=0:=by
 have e0:=(Ro h h2 h3 q1 q2).trans hc;unfold vz vA;rw[e0,if_neg (fun q=>q rfl),if_neg (fun q=>q rfl)];exact⟨rfl,rfl,rfl⟩
def kg(g:aX)(e:bP):aX:=⟨cU g.ak e.ak,cU g.aj e.aj,iy e.cells (dY g.cells e.ak e.aj),[]⟩
structure oU(g:aX)(e:bP):Prop where
 vr:0<e.ak.length->eR e.ak
 vk:0<e.aj.length->eR e.aj
 l1:g.cells.length<=1048576
 l2:e.cells.length<=1048576
 a1:w5 1000000000000 g.cells
 a2:w5 1000000000000 e.cells
 p1:∀c∈g.cells,gv e.ak c.aF
 p2:∀c∈g.cells,gv e.aj c.aV
 q1:g.aH.length=0
 q2:e.merge.length=0
theorem X8{l:List Cell}{m n:Int}{o:Bool}:∀(k i:Nat),l.length-i=k->iO l m n o i=0->∀j,i<=j->j<l.length->pI (l.getD j default) m n o=0
 |0,i,h,_,j,h1,h2=>oM
 |k+1,i,h,h0,j,h1,h2=>by
  rw[iO,if_pos oM] at h0;split at h0
  ·rename_i q;exact absurd h0 q
  rename_i q;split at h0
  ·cases h0
  by_cases e:i=j
  ·rw[<-e];exact qc q
  exact X8 k (i+1) oM h0 j oM h2
theorem y82{x:aX}(h:jI x=0):∀c∈x.cells,0<=c.aF/\c.aF<x.ak/\0<=c.aV/\c.aV<x.aj:=by
 have hc:iO x.cells x.ak x.aj false 0=0:=by
  unfold jI at h;split at h
  ·cases h
  split at h
  ·rename_i q;exact absurd h q
  rename_i q;exact qc q
 intro c hm;obtain⟨j,hj,rfl⟩:=oF hm;have:=X8 _ 0 rfl hc j (qG _) hj;unfold pI at this;split at this
 ·cases this
 omega
theorem oU.of{x:aX}{e:bP}(h:gX x e=0)(hm:x.aH=[])(hl:mz e)(l1:x.cells.length<=1048576)(l2:e.cells.length<=1048576)(a1:∀c∈x.cells,c.ah.length<=1048576)(a2:∀c∈e.cells,c.ah.length<=1048576):oU x e:=by
 unfold gX at h;split at h
 ·rename_i q;exact absurd h q
 rename_i q;have hg:jI x=0:=qc q;split at h
 ·rename_i q;exact absurd h q
 rename_i q;have he:jF e=0:=qc q;have ho:=LQ he;have hf:=X3 h;have hc:=y82 hg;refine⟨fun _=>ho.w6,fun _=>ho.w8,l1,l2,fun c h=>by have:=a1 c h;omega,fun c h=>by have:=a2 c h;omega,fun c hm hp=>⟨ho.w6,?_⟩,fun c hm hp=>⟨ho.w8,?_⟩,by rw[hm];rfl,hl.me⟩
 ·have:=hc c hm;have:=hf.ak hp;omega
 have:=hc c hm;have:=hf.aj hp;omega
end Go.Ch
end
section
set_option maxRecDepth 100000
set_option maxHeartbeats 4000000
open Go Go.Proofs Go.Ab
namespace Go.Ch
theorem x4d(s:ByteArray)(hs:s.size=0):FC Tryz.prog 183 [VS s] (app emp []) (VB (Bx s)) (app emp []):=by
 refine .go Tryz.f183 ?_;refine .loop (α:=ByteArray) [.r []] 8 (fun u=>([(0,VS u)],[])) (fun u=>u=s) (fun u=>u.size) (s:ByteArray) ?_ ?_
 ·rfl
 rintro u I1 xY
 replace I1:u=s:=I1
 refine .bp [.r []] (!(seq u ({data:=#[]}))) (fun h1=> ?_) (fun h1=> ?_)
 ·exfalso;rw[z44,decide_eq_false_iff_not] at h1;rw[I1] at h1;omega
 have e1:((Bx s):Bool)=true:=by
  rw[x0Y oM]
 exact .aG [.r []] [] (fun z0:Bool=>(VB z0,[])) _ _ e1
theorem X9(l:List Cell)(m n:Int)(o:Bool)(Rp:pJ l):FC Tryz.prog 118 [VL 5 bg l,VI m,VI n,VB o] (app emp []) (VI (iO l m n o 0)) (app emp []):=by
 refine .go Tryz.f118 ?_;refine .len 0 (fun dQ=> ?_);refine .loop (α:=Nat) [.r [],.r [(1,X (Xl bg l))]] 32 (fun i=>([(0,VL 5 bg l),(1,VI m),(2,VI n),(3,VB o),(12,VL 5 bg l),(13,VI (l.length:Int)),(14,VI (i:Int))],[])) (fun i=>i<=l.length/\iO l m n o 0=iO l m n o i) (fun i=>l.length-i) (0:Nat) ?_ ?_
 ·exact⟨by omega,rfl⟩
 rintro i I2 ic;try dsimp only at I2
 refine .bp [.r []] (decide ((i:Int)< (l.length:Int))) (fun h2=> ?_) (fun h2=> ?_)
 ·have hx:iO l m n o i=_:=iO.eq_1 l m n o i;rw[if_pos (by omega)] at hx;unfold pI at hx;have hxt:(l.getD i default).text.size=0:=Rp _ (fE (by omega));refine .bp [.r [(1,X (Xi bg l (i:Int)))],.r [(5,Xv 1 (!(decide ((((l.getD i default)).aF)< 0))) X0),(7,Xv 2 (!(decide ((((l.getD i default)).aF)< 0))) X0),(8,X (b7 (decide ((((l.getD i default)).aF)< 0)))),(11,Xv 1 (!(decide ((((l.getD i default)).aF)< 0)||decide ((((l.getD i default)).aF)>=m))) X0),(12,Xv 1 (!(decide ((((l.getD i default)).aF)< 0)||decide ((((l.getD i default)).aF)>=m))) X0),(13,X (b7 (decide ((((l.getD i default)).aF)< 0)||decide ((((l.getD i default)).aF)>=m)))),(16,Xv 1 (!((decide ((((l.getD i default)).aF)< 0)||decide ((((l.getD i default)).aF)>=m))||decide ((((l.getD i default)).aV)< 0))) X0),(18,Xv 2 (!((decide ((((l.getD i default)).aF)< 0)||decide ((((l.getD i default)).aF)>=m))||decide ((((l.getD i default)).aV)< 0))) X0),(19,X (b7 ((decide ((((l.getD i default)).aF)< 0)||decide ((((l.getD i default)).aF)>=m))||decide ((((l.getD i default)).aV)< 0))))]] (((decide ((((l.getD i default)).aF)< 0)||decide ((((l.getD i default)).aF)>=m))||decide ((((l.getD i default)).aV)< 0))||decide ((((l.getD i default)).aV)>=n)) (fun h4=> ?_) (fun h4=> ?_)
  ·have e1:((iO l m n o 0):Int)=2:=by
    first| (rw[I2.2,hx];((repeat' split)<;>first|rfl|omega| (simp_all;done)| (simp_all;omega)))| (rw[I2.2,iO,if_neg (by omega)])
   exact .aG [.r []] [] (fun z0:Int=>(VI z0,[])) _ _ e1
  refine .bp [.r [(5,Xv 1 (!(decide ((((l.getD i default)).bh)< 0))) X0),(6,Xv 1 (!(decide ((((l.getD i default)).bh)< 0))) X0),(7,X (b7 (decide ((((l.getD i default)).bh)< 0))))]] (decide ((((l.getD i default)).bh)< 0)||decide ((((l.getD i default)).bh)> 1073741824)) (fun h6=> ?_) (fun h6=> ?_)
  ·have e2:((iO l m n o 0):Int)=2:=by
    first| (rw[I2.2,hx];((repeat' split)<;>first|rfl|omega| (simp_all;done)| (simp_all;omega)))| (rw[I2.2,iO,if_neg (by omega)])
   exact .aG [.r []] [] (fun z0:Int=>(VI z0,[])) _ _ e2
  refine .bp [.r [(2,X (aW (x4d (((l.getD i default)).text) (by assumption)) X0))]] (!(Bx (((l.getD i default)).text))) (fun h8=> ?_) (fun h8=> ?_)
  ·have e3:((iO l m n o 0):Int)=23:=by
    first| (rw[I2.2,hx];((repeat' split)<;>first|rfl|omega| (simp_all;done)| (simp_all;omega)))| (rw[I2.2,iO,if_neg (by omega)])
   exact .aG [.r []] [] (fun z0:Int=>(VI z0,[])) _ _ e3
  refine .bp [.r [(2,X (aW (FM (((l.getD i default)).ah)) X0))],.r []] ((dO false (((l.getD i default)).ah) 0) !=0) (fun gO=> ?_) (fun gO=> ?_)
  ·have e4:((iO l m n o 0):Int)=(dO false (((l.getD i default)).ah) 0):=by
    first| (rw[I2.2,hx];((repeat' split)<;>first|rfl|omega| (simp_all;done)| (simp_all;omega)))| (rw[I2.2,iO,if_neg (by omega)])
   exact .aG [.r []] [] (fun z0:Int=>(VI z0,[])) _ _ e4
  refine .bp [.r [(1,X (aW (Rm ((l.getD i default))) X0)),(4,Xv 1 (kr ((l.getD i default))) X0),(5,X (Xk (kr ((l.getD i default)))))]] ((kr ((l.getD i default)))&& !o) (fun fe=> ?_) (fun fe=> ?_)
  ·have e5:((iO l m n o 0):Int)=4:=by
    first| (rw[I2.2,hx];((repeat' split)<;>first|rfl|omega| (simp_all;done)| (simp_all;omega)))| (rw[I2.2,iO,if_neg (by omega)])
   exact .aG [.r []] [] (fun z0:Int=>(VI z0,[])) _ _ e5
  refine .bp [.r [(5,Xv 1 (decide ((i:Int)> 0)) (Xn ((i:Int)- 1))),(6,Xv 2 (decide ((i:Int)> 0)) (yV bg l ((i:Int)- 1) (i- 1))),(7,Xv 1 (decide ((i:Int)> 0)) X0),(9,Xv 2 (decide ((i:Int)> 0)) (aW (IW ((l.getD (i- 1) default)) ((l.getD i default))) X0)),(10,Xv 1 (decide ((i:Int)> 0)) X0),(11,X (Xk (decide ((i:Int)> 0))))]] (decide ((i:Int)> 0)&&decide ((eF ((l.getD (i- 1) default)) ((l.getD i default)))>=0)) (fun ni=> ?_) (fun ni=> ?_)
  ·have e6:((iO l m n o 0):Int)=5:=by
    first| (rw[I2.2,hx];((repeat' split)<;>first|rfl|omega| (simp_all;done)| (simp_all;omega)))| (rw[I2.2,iO,if_neg (by omega)])
   exact .aG [.r []] [] (fun z0:Int=>(VI z0,[])) _ _ e6
  refine .back [.r [(0,X (Xn ((i:Int)+1)))]] [] (ic ((i+1):Nat) ?_ ?_)
  ·refine⟨by omega,?_⟩;rw[I2.2,hx]
   ((repeat' split)<;>first|rfl|omega| (simp_all;done)| (simp_all;omega))
  ((try dsimp only);omega)
 have e7:((iO l m n o 0):Int)=0:=by
  first| (rw[I2.2,hx];((repeat' split)<;>first|rfl|omega| (simp_all;done)| (simp_all;omega)))| (rw[I2.2,iO,if_neg (by omega)])
 exact .aG [.r []] [] (fun z0:Int=>(VI z0,[])) _ _ e7
theorem z80(c:Cell)(h:c.ah.length<=1000000000000):FC Tryz.prog 203 [.t (bg c)] (app emp []) (.t (bg c)) (app emp []):=by
 refine .go Tryz.f203 ?_;exact .Qu [.r [],.r [(2,X (o5 aS 32 c.ah))],.r []] [.fR 0 [(c.ah.length:Nat)=(List.map aS c.ah).length] ⟨lm,trivial⟩] []
theorem LU(n:Int)(a:List aA)(hv:0<a.length->eR a):FC Tryz.prog 167 [VI n,VL 2 bk a] (app emp []) (.aZ [VI (if 0<a.length then eS a else n),VB (decide (0<a.length->cz a=n))]) (app emp []):=by
 refine .go Tryz.f167 ?_;refine .len 1 (fun gW=> ?_);refine .bp [.r [],.r [(1,X (Xl bk a))]] ((a.length:Int)==0) (fun h1=> ?_) (fun h1=> ?_)
 ·have e1:((if 0<a.length then eS a else n):Int)=n:=by
   first|rw[if_neg oM]|exact decide_eq_true (fun h=>oM)|exact(decide_eq_true (fun h=>oM)).symm
  have e2:((decide (0<a.length->cz a=n)):Bool)=true:=by
   first|rw[if_neg oM]|exact decide_eq_true (fun h=>oM)|exact(decide_eq_true (fun h=>oM)).symm
  exact .aG [.r []] [] (fun((z0,z1):Int×Bool)=>(.aZ [VI z0,VB z1],[])) _ _ (pr e1 e2)
 have ha:0<a.length:=oM;have mQ:=hv ha;have e3:((if 0<a.length then eS a else n):Int)=(eS a):=by
  first|rw[if_pos oM]| (rw[zp,decide_eq_true_eq,beq_iff_eq];exact⟨fun h=>h oM,fun h _=>h⟩)
 have e4:((decide (0<a.length->cz a=n)):Bool)=((cz a)==n):=by
  first|rw[if_pos oM]| (rw[zp,decide_eq_true_eq,beq_iff_eq];exact⟨fun h=>h oM,fun h _=>h⟩)
 exact .aG [.r [(1,X (aW (LC a aM) X0))],.r []] [] (fun((z0,z1):Int×Bool)=>(.aZ [VI z0,VB z1],[])) _ _ (pr e3 e4)
end Go.Ch
end
