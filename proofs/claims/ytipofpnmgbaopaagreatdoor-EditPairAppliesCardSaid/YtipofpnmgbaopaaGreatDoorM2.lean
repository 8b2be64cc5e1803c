/- An operation, whatever it is, does what the evaluator says. -/
import Derived.Test.YtipofpnmgbaopaaGreatDoorM1
import Derived.TacticsIn
import Derived.OrdersIn
import Derived.ChangeArms
import Derived.ChangeOld
import Derived.WideShapes
import Derived.DataReads
import Derived.DataElems
import Derived.Test.YtipofpnmgbaopaaGreatDoorRows
set_option linter.unusedVariables false
set_option linter.unusedSimpArgs false
section
namespace Go.Ab
variable {P:Program} {w:World} {F:eL P} {S st:bQ} {m:Place}
theorem Up.bU{o:Oper}{a:Act}{wr:List (Nat×Ob)}{val:aJ}{r:Result Value}(he:(execOp a.eval o).run P w=r.andThen fun v w'=> .ok (.value v) w')(hd:iL F S m w wr val r):
 Up P F S m w wr val o a:=by
 obtain⟨v,w',m',rfl,h1,h2,h3⟩:=hd;exact Up.value he h1 h2 h3
theorem iL.fL{val:aJ}{wr:List (Nat×Ob)}{r:Result Value}(hS:aY F S m w)(h:∃v,r= .ok v w/\aO S m w (okB F S m w) val v/\wr=[]):iL F S m w wr val r:=by
 obtain⟨v,h1,h2,rfl⟩:=h;exact iL.same hS ⟨v,h1,h2⟩
theorem Vw{α:Type}{ps:Array (Nat×Operand)}{ρ:Dh}{a:Act}{ok:Nat->Prop}(hr:∀x∈(ps.toList.map (·.2)),aO S m w ok (ρ x) (a.eval x)):
 (ps.map fun(i,x)=>(i,a.eval x)).size=(ps.toList.map fun(i,x)=>(i,ρ x)).length/\
 ∀(i:Nat) (p:Nat×aJ) (q:Nat×Value),(ps.toList.map fun(i,x)=>(i,ρ x))[i]? =some p->(ps.map fun(i,x)=>(i,a.eval x))[i]? =some q->p.1=q.1/\aO S m w ok p.2 q.2:=by
 refine⟨sM,fun i p q hp hq=> ?_⟩;simp only[zj,qe] at hp;obtain⟨x,hx,rfl⟩:=hp;simp only[Array.getElem?_map,qe] at hq;obtain⟨y,hy,rfl⟩:=hq;have e:ps.toList[i]? =ps[i]? :=sM;have hm:=qr hx;rw[e,hy] at hx;cases hx;exact⟨rfl,hr _ (qO.2 ⟨_,hm,rfl⟩)⟩
theorem K0{args:Array Operand}{ρ:Dh}{a:Act}{ok:Nat->Prop}(hr:∀x∈args.toList,aO S m w ok (ρ x) (a.eval x)):
 (args.toList.map a.eval).length=(args.toList.map ρ).length/\
 ∀(i:Nat) (v:aJ) (u:Value),(args.toList.map ρ)[i]? =some v->(args.toList.map a.eval)[i]? =some u->aO S m w ok v u:=by
 refine⟨sM,fun i v u hv hu=> ?_⟩;simp only[zj,qe] at hv hu;obtain⟨x,hx,rfl⟩:=hv;obtain⟨y,hy,rfl⟩:=hu;rw[hx] at hy;cases hy;exact hr _ (qr hx)
theorem K1{α:Type}{a:Array α}{x:α}(h:a.toList=[x]):a=#[x]:=Array.ext' (by simpa using h)
theorem w2s{α:Type}{a:Array α}{x y:α}(h:a.toList=[x,y]):a=#[x,y]:=Array.ext' (by simpa using h)
theorem x0j{f:FuncId}{fn:Func}{c:Code}(hf:P.funcs[f]? =some fn)(H6:(fn.name== "runtime.NumGoroutine")=false)(hb:fn.body=some c)(args:Array Value)(w:World):
 (callFunc f args).run P w= .ok (.enter f args) w:=by
 have h1:fn.name≠ "runtime.NumGoroutine" :=by simpa using H6
 simp[callFunc,hf,h1,hb]
theorem Vx{st:bQ}{ok:Nat->Prop}{v:aJ}{u:Value}(h:aO st m w ok v u):∀{l:List (Nat×Nat)} {i:Nat},aO st m w ok (JO l i v) u
 | [],i=>h
 | (j,k)::l,i=>by
  unfold JO;cases hc:(Nat.beq i j&&Nat.blt 0 k) with
  |false=>exact Vx h
  |true=>
   simp only[qq] at hc;simp only[cond_true];split
   ·cases h with
    |t _ _ hT=>
     cases hT with
     |sc _ _=>exact .t _ _ (.bX _ [] none 0 [] (ze (qy hc.2)) (fun x hx=>by simp at hx) (qp _) (by simp[maxLen]) (fun h=>absurd rfl h) sM (fun j T u hT=>by simp[dL] at hT))
   exact h
theorem x0k{o:Oper}{ρ:Dh}{bf:Nat}{c:eW}{δ:Dl}(h:sv P o.op o.type ρ st bf c=some δ)(hc:b8 δ.jW)(bH:∀id o,st id=some o->S id=some o)
 (sB:∀co,c.call=some co->∀id∈co.need,st id=S id) (hS:aY F S m w) (eP:∀id,bf<=id->id<bf+8->S id=none) {a:Act}
 (hr:∀x∈o.op.operands.toList,aO S m w (okB F S m w) (ρ x) (a.eval x)):Up P F S m w δ.wr δ.val o a:=by
 obtain⟨dst,op,type,pos,after,guard⟩:=o;have bn:S bf=none:=eP bf (qp _) oM;cases op with
 |move x=>
  have:=fS h;subst this;exact Up.same hS (by simp[execOp]) (hr x (by simp[Op.operands]))
 |assign x=>
  have:=fS h;subst this;exact Up.same hS (by simp[execOp]) (hr x (by simp[Op.operands]))
 |alloc e=>exact Up.bU (by simp[execOp]) (y3m h hS bn)
 |box e x=>exact Up.bU (by simp[execOp]) (y8I (P:=P) (e:=e) h hS bn (hr x (by simp[Op.operands])))
 |build t ps=>
  have:=Vw (α:=Nat) (ps:=ps) (ρ:=ρ) (a:=a) (fun x hx=>hr x (by simpa[Op.operands] using hx));exact Up.bU (by simp[execOp]) (y3n h hS this.1 this.2)
 |buildSlice t len ps=>
  have:=Vw (α:=Nat) (ps:=ps) (ρ:=ρ) (a:=a) (fun x hx=>hr x (by simpa[Op.operands] using hx));simp only[sv] at h;cases Dn:c.xA.isSome with
  |true=>
   rw[Dn,cond_true] at h;exact Up.bU (by simp[execOp]) (z9x (bS:=ps.map fun(i,x)=>(i,a.eval x)) h hS bn this.1 this.2)
  |false=>
  rw[Dn,cond_false] at h;exact Up.bU (by simp[execOp]) (z7V (bS:=ps.map fun(i,x)=>(i,a.eval x)) h hc bH hS bn (by rw[qj];exact this.1) (fun i p q hp hq=>by
   rw[zj,qe] at hp;obtain⟨p0,hp0,rfl⟩:=hp;obtain⟨e,hv⟩:=this.2 i p0 q hp0 hq;exact⟨e,Vx hv⟩))
 |load t x=>exact Up.bU (by simp[execOp]) (iL.fL hS (Tt h hc bH hS (hr x (by simp[Op.operands]))))
 |store t x y=>
  obtain⟨w',m',h1,h2,h3,h4⟩:=y3p h hc bH hS (hr x (by simp[Op.operands])) (hr y (by simp[Op.operands]));rw[h4];exact Up.skip (by simp[execOp,h1]) h2 h3
 |nilCheck x=>
  have hx:=hr x (by simp[Op.operands]);simp only[sv] at h;split at h
  ·rename_i id off he;have:=fS h;subst this;rw[he] at hx;generalize hu:a.eval x=u at hx;refine Up.same hS (v:=u) ?_ hx;cases hx with
   |ptr _ _ cs b hs hm=>simp[execOp,hu]
   |gN _ _ b hs=>simp[execOp,hu]
  ·rename_i id n i sub he;have:=fS h;subst this;rw[he] at hx;generalize hu:a.eval x=u at hx;refine Up.same hS (v:=u) ?_ hx;cases hx with
   |cM _ _ _ _ k fz xs b hs hn fu=>simp[execOp,hu]
   |eT _ _ _ _ b o hs=>simp[execOp,hu]
  ·rename_i cs he;have:=fS h;subst this;rw[he] at hx;generalize hu:a.eval x=u at hx;refine Up.same hS (v:=u) ?_ hx;cases hx with
   |ec _ b o us h1 h2 h3 h4 h5=>simp[execOp,hu]
  ·rename_i f cap he;have:=fS h;subst this;rw[he] at hx;generalize hu:a.eval x=u at hx;refine Up.same hS (v:=u) ?_ hx;cases hx with
   |fn _ _ us h1 h2=>simp[execOp,hu]
  ·rename_i id i he;have:=fS h;subst this;rw[he] at hx;generalize hu:a.eval x=u at hx;refine Up.same hS (v:=u) ?_ hx;cases hx with
   |eG _ _ fz xs hh b hs hm=>simp[execOp,hu]
  ·rename_i id he;have:=fS h;subst this;rw[he] at hx;generalize hu:a.eval x=u at hx;refine Up.same hS (v:=u) ?_ hx;cases hx with
   |yl _ Y pre hs=>rcases Y.af with⟨_,_,hk⟩| ⟨_,hk⟩<;>simp[execOp,hu,hk]
  cases h
 |binOp b t x y yt=>
  have hb:∃v,(do eqGuard b t x y (a.eval x) (a.eval y);binOp b t (a.eval x) (a.eval y)).run P w= .ok v w/\aO S m w (okB F S m w) δ.val v/\δ.wr=[]:=by
   have h:(bif c.fx.isEmpty then JQ P b t y (ρ x) (ρ y) else JR P b t (ρ x) (ρ y))=some δ:=h;cases hf:c.fx.isEmpty
   ·rw[hf] at h;exact y5a (ox:=x) (oy:=y) h hc (hr x (by simp[Op.operands])) (hr y (by simp[Op.operands]))
   rw[hf] at h;exact y49 (ox:=x) (oy:=y) h hc (hr x (by simp[Op.operands])) (hr y (by simp[Op.operands]))
  refine Up.bU (r:=(do eqGuard b t x y (a.eval x) (a.eval y);binOp b t (a.eval x) (a.eval y)).run P w) ?_ (iL.fL hS hb);simp only[execOp];rw[Sem.run_bind];rfl
 |unOp u t x=>exact Up.bU (by simp[execOp]) (iL.fL hS (y98 (P:=P) h (hr x (by simp[Op.operands]))))
 |convert s d x=>exact Up.bU (by simp[execOp]) (iL.fL hS (y48 h hc bH hS (hr x (by simp[Op.operands]))))
 |makeFunc fn first cap=>
  cases fn with
  |func f=>
   simp only[sv] at h;obtain⟨h1,h2⟩:=gL h;have:=fS h2;subst this;have hf:first=#[]:=by simpa using h1
   subst hf;have:=K0 (args:=cap) (ρ:=ρ) (a:=a) (fun x hx=>hr x (by simp[Op.operands];simpa using hx));refine Up.same hS (v:= .func (.func f) #[] (cap.map a.eval)) (by simp[execOp,Instr.makeFunc]) ?_;have:=aO.fn (st:=S) (m:=m) (w:=w) (ok:=okB F S m w) f (cap.toList.map ρ) (cap.toList.map a.eval) this.1 this.2;have e:(cap.toList.map a.eval).toArray=cap.map a.eval:=by apply Array.ext';simp
   rw[e] at this;exact this
  |_=>simp[sv] at h
 |makeSlice t l k=>exact Up.bU (by simp[execOp]) (z8I h hc hS bn (hr l (by simp[Op.operands])) (hr k (by simp[Op.operands])))
 |slice t x lo hi mx=>
  have hx:=hr x (by simp[Op.operands]);cases mx with
  |some z=>
   have h:JU P t (ρ x) (lo.map ρ) (hi.map ρ) (ρ z)=some δ:=h;exact Up.bU (by simp[execOp]) (y3k (vR:=lo.map a.eval) (vS:=hi.map a.eval) h hc hS hx (fun e=>by simpa using e) (fun v hv=>by
    simp only[qe] at hv;obtain⟨y,rfl,rfl⟩:=hv;exact⟨a.eval y,rfl,hr y (by simp[Op.operands])⟩) (hr z (by simp[Op.operands])))
  |none=>
  have h:(bif c.fx.isEmpty then JT P t (ρ x) (lo.map ρ) (hi.map ρ) none st else JW P t (ρ x) (lo.map ρ) (hi.map ρ) none st bf)=some δ:=h;cases ng:c.fx.isEmpty with
  |false=>
   rw[ng,cond_false] at h;have:=y3w (vR:=lo.map a.eval) (vS:=hi.map a.eval) h hc bH hS bn hx (fun e=>by simpa using e) (fun v hv=>by
    simp only[qe] at hv;obtain⟨y,rfl,rfl⟩:=hv;exact⟨a.eval y,rfl,hr y (by simp[Op.operands])⟩) (fun e=>by simpa using e) (fun v hv=>by
    simp only[qe] at hv;obtain⟨y,rfl,rfl⟩:=hv;exact⟨a.eval y,rfl,hr y (by simp[Op.operands])⟩)
   obtain⟨hm,hd⟩:=this;exact Up.bU (by simp[execOp]) hd
  |true=>
  rw[ng,cond_true] at h;have:=y3l (vR:=lo.map a.eval) (vS:=hi.map a.eval) h hc bH hS hx (fun e=>by simpa using e) (fun v hv=>by
   simp only[qe] at hv;obtain⟨y,rfl,rfl⟩:=hv;exact⟨a.eval y,rfl,hr y (by simp[Op.operands])⟩) (fun e=>by simpa using e) (fun v hv=>by
   simp only[qe] at hv;obtain⟨y,rfl,rfl⟩:=hv;exact⟨a.eval y,rfl,hr y (by simp[Op.operands])⟩)
  obtain⟨hm,hd⟩:=this;exact Up.bU (by simp[execOp]) hd
 |range t x=>
  have h:(bif c.fx.isEmpty then JX P t (ρ x) bf else none)=some δ:=h;cases hf:c.fx.isEmpty
  ·rw[hf] at h;cases h
  rw[hf] at h;exact Up.bU (by simp[execOp]) (y3y h hS bn (hr x (by simp[Op.operands])))
 |makeMap t r=>exact Up.bU (r:=(Instr.makeMap t (r.map a.eval)).run P w) (by simp[execOp]) (y0O h hS bn a.eval)
 |lookup t x k q=>exact Up.bU (by simp[execOp]) (y1X h hc bH hS bn (hr x (by simp[Op.operands])) (hr k (by simp[Op.operands])))
 |mapUpdate t x k v=>
  obtain⟨h1,w',m',h2,h3,h4⟩:=Uj (c:=c) h hc bH hS (hr x (by simp[Op.operands])) (hr k (by simp[Op.operands])) (hr v (by simp[Op.operands]));rw[h1];exact Up.skip (by simp[execOp,h2]) h3 h4
 |insert t x k v=>
  obtain⟨h1,w',m',h2,h3,h4⟩:=Uj (c:=c) h hc bH hS (hr x (by simp[Op.operands])) (hr k (by simp[Op.operands])) (hr v (by simp[Op.operands]));rw[h1];exact Up.skip (by simp[execOp,h2]) h3 h4
 |entry it=>cases h
 |next it s=>exact Up.bU (by simp[execOp]) (y5d h hc bH hS (hr it (by simp[Op.operands])) type)
 |fieldAddr s x f=>exact Up.bU (by simp[execOp]) (iL.fL hS (z8G h hS (hr x (by simp[Op.operands]))))
 |field s x f=>exact Up.bU (by simp[execOp]) (iL.fL hS (y3g h (hr x (by simp[Op.operands]))))
 |indexAddr t x i=>exact Up.bU (by simp[execOp]) (iL.fL hS (z8H h hc bH hS (hr x (by simp[Op.operands])) (hr i (by simp[Op.operands]))))
 |index t x i=>exact Up.bU (by simp[execOp]) (iL.fL hS (y3h h hc (hr x (by simp[Op.operands])) (hr i (by simp[Op.operands]))))
 |extract t i=>
  have hx:=hr t (by simp[Op.operands]);simp only[sv] at h;split at h
  ·rename_i vs he;simp only[qw] at h;obtain⟨v,hv,h⟩:=h;have:=fS h;subst this;rw[he] at hx;generalize hu:a.eval t=u at hx;cases hx with
   |aZ _ us hl h1=>
    have j7:i<us.length:=by rw[hl];exact(qA.1 hv).1
    refine Up.same hS (v:=us[i]) ?_ (h1 i v _ hv (qa j7));simp[execOp,Instr.extract,hu,j7]
  cases h
 |call cl=>
  obtain⟨callee,args,argTypes⟩:=cl;cases callee with
  |value f=>
   simp only[sv] at h;split at h;rotate_left
   ·rename_i yid he;have hf:=hr f (by simp[Op.operands,Call.operands]);rw[he] at hf;have lz:=K0 (args:=args) (ρ:=ρ) (a:=a) (fun x hx=>hr x (by simp[Op.operands,Call.operands];right;simpa using hx));obtain⟨t,cp,nx,e1,e2,e3⟩:=y3v (us:=args.toList.map a.eval) h hc bH hS sM lz.2 hf;intro next Q hn;have cQ:(execOp a.eval ⟨dst,.call ⟨.value f,args,argTypes⟩,type,pos,after,guard⟩).run P w= .ok nx w:=by
     have e:args.map a.eval=(args.toList.map a.eval).toArray:=by apply Array.ext';simp
     simp only[execOp,resolve,e1,Deferred.ofValue,Sem.run_bind,Sem.run_pure,Result.andThen_ok,Array.empty_append,e];exact e2
    rw[cQ];cases nx with
    |enter f2 bs=>
     refine⟨fun h=>by simp[fw,Fence.wide] at h,CallsIn.mono (F:=fw F) e3 ?_⟩;rintro e w' ⟨v,m',rfl,k1,k2,k3⟩;exact hn v w' m' k1 k2 k3
    |round l2 f2 tm2 as2 b2=>
     refine⟨fun h=>by simp[fw,Fence.wide] at h,RoundIn.mono (F:=fw F) e3 ?_⟩;rintro e w' ⟨v,m',rfl,k1,k2,k3⟩;exact hn v w' m' k1 k2 k3
    |_=>exact e3.elim
   ·cases h
   rename_i fid cap co he Kk;have hf:=hr f (by simp[Op.operands,Call.operands]);rw[he] at hf;generalize hu:a.eval f=uf at hf;cases hf with
   |fn _ _ us hl h1=>
    have lz:=K0 (args:=args) (ρ:=ρ) (a:=a) (fun x hx=>hr x (by simp[Op.operands,Call.operands];right;simpa using hx));obtain⟨jq,H7⟩:=y5c (us:=args.toList.map a.eval++us) h hc bH (sB co Kk) hS eP (by simp[hl]) (fun i v u hv fu=>by
     by_cases hi:i<args.toList.length
     ·rw[qx (by simpa using hi)] at hv fu;exact lz.2 i v u hv fu
     rw[qK (by simpa using hi)] at hv fu;simp only[qj] at hv fu;exact h1 _ v u hv fu)
    unfold td at jq;split at jq;rotate_left
    ·cases jq
    rename_i fn PK;simp only[qq,zf] at jq;obtain⟨code,H8⟩:=zn.1 jq.1;intro next Q hn;have cQ:(execOp a.eval ⟨dst,.call ⟨.value f,args,argTypes⟩,type,pos,after,guard⟩).run P w= .ok (.enter fid (args.toList.map a.eval++us).toArray) w:=by
     have e:args.map a.eval++us.toArray=(args.toList.map a.eval++us).toArray:=by apply Array.ext';simp
     simp only[execOp,resolve,hu,Deferred.ofValue,Sem.run_bind,Sem.run_pure,Result.andThen_ok,invoke,Array.empty_append,e];exact x0j PK jq.2 H8 _ w
    rw[cQ,Oper.uponIn_enter];refine⟨fun h=>by simp[fw,Fence.wide] at h,CallsIn.mono (F:=fw F) (callsIn_wide.2 H7) ?_⟩;rintro e w' ⟨v,m',rfl,k1,k2,k3⟩;exact hn v w' m' k1 k2 k3
  |invoke r mth=>simp[sv] at h
  |builtin b=>
   have lz:=K0 (args:=args) (ρ:=ρ) (a:=a) (fun x hx=>hr x (by simp[Op.operands,Call.operands];simpa using hx));cases b with
   |len=>
    simp only[sv] at h;split at h;rotate_left
    ·cases h
    rename_i x t hx ht;obtain rfl:=K1 hx;obtain rfl:=K1 ht;refine Up.bU ?_ (iL.fL hS (y8G (ty:=type) h (hr x (by simp[Op.operands,Call.operands]))));simp[execOp,resolve,invoke,builtin]
   |append=>
    simp only[sv] at h;split at h;rotate_left
    ·cases h
    rename_i s x hx;obtain rfl:=w2s hx;refine Up.bU ?_ (y1W (ty:=type) h hc bH hS bn (hr s (by simp[Op.operands,Call.operands])) (hr x (by simp[Op.operands,Call.operands])));simp[execOp,resolve,invoke,builtin]
   |clear=>
    simp only[sv] at h;split at h;rotate_left
    ·cases h
    rename_i x t hx ht;obtain rfl:=K1 hx;obtain rfl:=K1 ht;refine Up.bU ?_ (y3x (ty:=type) h hc bH hS (hr x (by simp[Op.operands,Call.operands])));simp[execOp,resolve,invoke,builtin]
   |max=>
    simp only[sv] at h;refine Up.bU ?_ (iL.fL hS (TJ (P:=P) h lz.1 lz.2 argTypes type));have e:(args.toList.map a.eval).toArray=args.map a.eval:=by apply Array.ext';simp
    rw[e];simp[execOp,resolve,invoke,builtin]
   |min=>
    simp only[sv] at h;refine Up.bU ?_ (iL.fL hS (TJ (P:=P) h lz.1 lz.2 argTypes type));have e:(args.toList.map a.eval).toArray=args.map a.eval:=by apply Array.ext';simp
    rw[e];simp[execOp,resolve,invoke,builtin]
   |_=>simp[sv] at h
 |_=>simp[sv] at h
end Go.Ab
end
section
namespace Go.Ab
variable {P:Program} {w:World} {F:eL P} {S st:bQ} {m:Place}
def we(S:bQ)(m:Place)(w:World)(ok:Nat->Prop)(sl:List (Nat×aJ))(tmps:Array Value):Prop:=∀t,aO S m w ok (get sl t) (tmps.getD t undef)
theorem PL{ok:Nat->Prop}{sl:List (Nat×aJ)}{a:Act}{x:Operand}(h:∀t,x= .tmp t->aO S m w ok (get sl t) (a.tmps.getD t undef)):aO S m w ok (ev sl x) (a.eval x):=by
 cases x with
 |tmp t=>exact h t rfl
 |func f=>exact .fn f [] [] rfl (fun i v u h=>by simp at h)
 |global g=>exact .cH _
 |const v=>
  cases v with
  |agg cs=>
   simp only[ev,Act.eval];cases hh:cs.toList.all Value.oneCell' with
   |false=>exact .cH _
   |true=>
    have h1:∀u∈cs.toList,u.oneCell'=true:=fun u hu=>qS.1 hh u hu
    have hT:cr w ok (.agg (cs.toList.map .sc)) (.agg cs.toList.toArray):=by
     refine .agg _ _ sM (fun T hT=> ?_) (fun i T u hT hu=> ?_)
     ·obtain⟨v,_,rfl⟩:=qO.1 hT;rfl
     simp only[zj,qe] at hT;obtain⟨v,hv,rfl⟩:=hT;rw[hu] at hv;cases hv;exact .sc _ (h1 _ (qr hu))
    simpa using aO.t (st:=S) (m:=m) _ _ hT
  |tuple _=>exact .cH _
  |_=>exact .t _ _ (.sc _ rfl)
theorem PM{ρ:Dh}:∀{l:List Operand},b8 (GL ρ l)->∀x∈l,∀c v,ρ x= .cond c v->c=true
 | [],_,x,hx,_,_,_=>by simp at hx
 |y::l,h,x,hx,c,v,he=>by
  simp only[GL] at h;simp only[qg] at hx;rcases hx with rfl|hx
  ·rw[he] at h;exact h.1
  split at h
  ·exact PM h.2 x hx c v he
  exact PM h x hx c v he
theorem PN{ok:Nat->Prop}{v:aJ}{u:Value}(h:aO S m w ok v u)(hc:∀c v',v= .cond c v'->c=true):aO S m w ok (EV v) u:=by
 cases h with
 |cond c v u h1 h0=>exact h1 (hc c v rfl)
 |t T u h=>exact .t T u h
 |xl k xs u h hc=>exact .xl k xs u h hc
 |aF id n k fz xs L h1 h2 h3=>exact .aF id n k fz xs L h1 h2 h3
 |ptr id off cs b h1 h2=>exact .ptr id off cs b h1 h2
 |jv id n cs b h1 h2=>exact .jv id n cs b h1 h2
 |iT id n L h1=>exact .iT id n L h1
 |cM id n i sub k fz xs b h1 h2 h3=>exact .cM id n i sub k fz xs b h1 h2 h3
 |cZ id fz xs hh L h1 h2=>exact .cZ id fz xs hh L h1 h2
 |eG id i fz xs hh b h1 h2=>exact .eG id i fz xs hh b h1 h2
 |ec cs b o us h1 h2 h3 h4 h5=>exact .ec cs b o us h1 h2 h3 h4 h5
 |agg cs us h1 h2 h3=>exact .agg cs us h1 h2 h3
 |fn f cap us h1 h2=>exact .fn f cap us h1 h2
 |aZ vs us h1 h2=>exact .aZ vs us h1 h2
 |cH u=>exact .cH u
 |fH id n L h1=>exact .fH id n L h1
 |eT id n i sub b o h1=>exact .eT id n i sub b o h1
 |eZ b=>exact .eZ b
 |kS t u=>exact .kS t u
 |tail id n i k fz xs L h1 h2 h3 h4=>exact .tail id n i k fz xs L h1 h2 h3 h4
 |fP id n i k L h1=>exact .fP id n i k L h1
 |fO id o b u h1 h2 h3=>exact .fO id o b u h1 h2 h3
 |gN id off b h1=>exact .gN id off b h1
 |yl id Y pre h1=>exact .yl id Y pre h1
theorem x3F{ok:Nat->Prop}{k i:Nat}{v:aJ}{u:Value}(h:aO S m w ok v u):aO S m w ok (JN k i v) u:=by
 have nl:∀{k:Nat} {u:Value},0<k->u= .slice none 0 0->cr w ok (.bX k []) u:=fun hk e=>by
  subst e;exact .bX _ [] none 0 [] hk (fun x hx=>by simp at hx) (qp _) (by simp[maxLen]) (fun h=>absurd rfl h) sM (fun j T u hT=>by simp[dL] at hT)
 have pos:∀{k:Nat},Nat.blt 0 k=true->0<k:=fun h=>ze (qy h)
 cases h with
 |t T u hT=>
  cases T with
  |agg cs=>
   simp only[JN];split
   ·rename_i hc;cases hk:Nat.blt 0 k with
    |false=>exact .t _ _ hT
    |true=>
     cases hT with
     |agg _ us hl bT hr=>
      refine .t _ _ (.agg _ us (by simp[hl]) (fun T' Dv=> ?_) (fun j T' u' hj hu=> ?_))
      ·rcases zl Dv with h|rfl
       ·exact bT _ h
       rfl
      rw[zz] at hj;split at hj
      ·rename_i jr;subst jr;split at hj
       ·cases hj;have:=hr i _ u' hc hu;cases this with
        |sc=>exact nl (pos hk) rfl
       cases hj
      exact hr j T' u' hj hu
   exact .t _ _ hT
  |sc v=>exact .t _ _ hT
  |bX k xs=>exact .t _ _ hT
 |agg cs us hl hr h1=>
  simp only[JN];split
  ·rename_i hc;cases hk:Nat.blt 0 k with
   |false=>exact .agg cs us hl hr h1
   |true=>
    refine .agg _ us (by simp[hl]) (fun j T' u' hj hu=> ?_) h1;rw[zz] at hj;split at hj
    ·rename_i jr;subst jr;split at hj
     ·cases hj;have:=hr i _ u' hc hu;cases this with
      |t _ _ hT=>
       cases hT with
       |sc=>exact .t _ _ (nl (pos hk) rfl)
     cases hj
    exact hr j T' u' hj hu
  exact .agg cs us hl hr h1
 |aF id n k fz xs L h1 h2 h3=>exact .aF id n k fz xs L h1 h2 h3
 |ptr id off cs b h1 h2=>exact .ptr id off cs b h1 h2
 |jv id n cs b h1 h2=>exact .jv id n cs b h1 h2
 |iT id n L h1=>exact .iT id n L h1
 |cM id n i sub k fz xs b h1 h2 h3=>exact .cM id n i sub k fz xs b h1 h2 h3
 |cZ id fz xs hh L h1 h2=>exact .cZ id fz xs hh L h1 h2
 |eG id i fz xs hh b h1 h2=>exact .eG id i fz xs hh b h1 h2
 |ec cs b o us h1 h2 h3 h4 h5=>exact .ec cs b o us h1 h2 h3 h4 h5
 |fn f cap us h1 h2=>exact .fn f cap us h1 h2
 |aZ vs us h1 h2=>exact .aZ vs us h1 h2
 |cond c v u h1 h0=>exact .cond c v u h1 h0
 |cH u=>exact .cH u
 |fH id n L h1=>exact .fH id n L h1
 |eT id n i sub b o h1=>exact .eT id n i sub b o h1
 |eZ b=>exact .eZ b
 |kS t u=>exact .kS t u
 |tail id n i k fz xs L h1 h2 h3 h4=>exact .tail id n i k fz xs L h1 h2 h3 h4
 |fP id n i k L h1=>exact .fP id n i k L h1
 |xl k xs u h hc=>exact .xl k xs u h hc
 |fO id o b u h1 h2 h3=>exact .fO id o b u h1 h2 h3
 |gN id off b h1=>exact .gN id off b h1
 |yl id Y pre h1=>exact .yl id Y pre h1
theorem Vy{ok:Nat->Prop}:∀{l:List (Nat×Nat)} {v:aJ} {u:Value},aO S m w ok v u->aO S m w ok (Nl l v) u
 | [],v,u,h=>h
 | (i,k)::l,v,u,h=>Vy (l:=l) (x3F h)
theorem Vz{s:St}{o:Oper}{bf:Nat}{c:eW}{r:iu}(h:EW P s o bf c=some r)(hc:b8 r.jW)(kU:∀id∈r.need,s.st id=S id)(hS:aY F S m w)
 (eP:∀id,bf<=id->id<bf+8->S id=none) {a:Act} (hr:∀x∈o.op.operands.toList,aO S m w (okB F S m w) (ev s.sl x) (a.eval x)):Up P F S m w r.wr r.val o a:=by
 unfold EW at h;simp only at h;split at h
 ·rename_i g x y AZ;simp only[qe] at h;obtain⟨δ,hδ,rfl⟩:=h;unfold vM at hδ;split at hδ;rotate_left
  ·cases hδ
  rename_i gb xb yb hg hx hy;simp only[qb] at hδ;subst hδ;rw[rO,rO] at hc;obtain⟨⟨c1,c2⟩,c3⟩:=hc;have rg:=hr g (by simp[AZ,Op.operands]);have rx:=hr x (by simp[AZ,Op.operands]);have ry:=hr y (by simp[AZ,Op.operands]);have vg:=PN rg (fun k v he=>by rw[he] at c1;exact c1.1);rw[hg] at vg;have eg:=aO.bq vg;have val:∀(z:aJ) (zb:Bool) (u:Value),aO S m w (okB F S m w) z u->EV z= .t (.sc (.bool zb))->(∀k v,z= .cond k v->k=true)->u= .bool zb:=by
   intro z zb u hz hb hk;have:=PN hz hk;rw[hb] at this;exact aO.bq this
  cases gb with
  |true=>
   have ex:=val (ev s.sl x) xb _ rx hx (fun k v he=>by rw[he] at c2;exact c2.1 rfl);refine Up.same hS (v:= .bool xb) ?_ (.t _ _ (.sc _ rfl));simp[execOp,AZ,eg,asBool,ex]
  |false=>
   have ey:=val (ev s.sl y) yb _ ry hy (fun k v he=>by rw[he] at c3;exact c3.1 rfl);refine Up.same hS (v:= .bool yb) ?_ (.t _ _ (.sc _ rfl));simp[execOp,AZ,eg,asBool,ey]
 rename_i hnp;simp only[qe] at h;obtain⟨δ,hδ,rfl⟩:=h;simp only at hc kU;rw[rO,rO,rO] at hc;obtain⟨⟨⟨c1,c2⟩,c3⟩,c4⟩:=hc;have Hv:c.wr.getD δ.wr=δ.wr:=by
  cases hh:c.wr with
  |none=>rfl
  |some v=>rw[hh] at c4;exact c4.1
 simp only[Hv];have VA:Up P F S m w δ.wr δ.val o a:=by
  refine x0k (st:=only s.st (J1 (ev s.sl) o.op c)) hδ c2 (fun id ob bn=> ?_) (fun co Kk id bn=> ?_) hS eP (fun x hx=> ?_)
  ·obtain⟨h1,h2⟩:=NS bn;rw[<-kU id h2];exact h1
  ·have hn:id∈J1 (ev s.sl) o.op c:=by
    unfold J1;simp[Kk,bn]
   rw[Tp hn];exact kU id hn
  exact PN (hr x hx) (fun k v he=>PM c1 x hx k v he)
 have PO:Up P F S m w δ.wr (c.val.getD δ.val) o a:=by
  cases hh:c.val with
  |none=>exact VA
  |some v=>
   rw[hh] at c3;intro next Q xV;exact VA next Q (fun v' w' m' q1 q2 q3=>xV v' w' m' q1 q2 (c3.1 _ _ _ _ _ q3))
 intro next Q xV;exact PO next Q (fun v' w' m' q1 q2 q3=>xV v' w' m' q1 q2 (Vy q3))
theorem x3G{ops:List Oper}{o:Oper}{t:Nat}(h:Operand.tmp t∈o.op.operands.toList):t∈looks ops o:=by
 unfold looks;exact List.mem_append_left _ (zE.2 ⟨.tmp t,h,rfl⟩)
theorem VC{ops:List Oper}{tmps:Array Value}{j d:Nat}{g:Bool}(h:GM ops j=some d)(hv:tmps.getD d undef= .bool g):yielded ops.toArray tmps j=some g:=by
 unfold yielded GM at*
 have e:(ops.toArray[j]?).bind (·.dst)=some d:=by simpa using h
 rw[e];have:tmps[d]? =some (.bool g):=by
  cases hh:tmps[d]? with
  |none=>simp[hh,undef] at hv
  |some v=>simp[hh] at hv;rw[hv]
 simp[this]
theorem VE{ops:List Oper}{s:St}{o:Oper}{e:Bool}(hg:GN ops s.sl o=some (some e)){a:Act}(hr:∀t∈looks ops o,aO S m w (okB F S m w) (get s.sl t) (a.tmps.getD t undef)):
 Region.wanted o (yielded ops.toArray a.tmps)=e\/(e=false/\Region.wanted o (yielded ops.toArray a.tmps)=false):=by
 unfold GN at hg;split at hg
 ·cases hg
 rename_i j want K2;split at hg
 ·cases hg
 rename_i d hd;have fO:d∈looks ops o:=by unfold looks;rw[K2];simp[hd]
 have hv:=hr d fO;split at hg
 ·rename_i g oZ;simp only[qb] at hg;rw[oZ] at hv;have hy:=VC hd (aO.bq hv);left;simp only[Region.wanted,K2,hy];rw[<-hg];cases g<;>cases want<;>rfl
 ·rename_i cc g oZ;simp only[qb] at hg;rw[oZ] at hv;cases hv with
  |cond _ _ _ h1 h0=>
   cases cc with
   |true=>
    have hy:=VC hd (aO.bq (h1 rfl));left;simp only[Region.wanted,K2,hy];rw[<-hg];cases g<;>cases want<;>rfl
   |false=>
    have hu:=h0 rfl;right;refine⟨by rw[<-hg];rfl,?_⟩;have hy:yielded ops.toArray a.tmps j=none:=by
     unfold yielded GM at*
     have e:(ops.toArray[j]?).bind (·.dst)=some d:=by simpa using hd
     rw[e];cases hh:a.tmps[d]? with
     |none=>simp[hh]
     |some v=>simp[hh] at hu;simp[hh,hu,undef]
    simp[Region.wanted,K2,hy]
 cases hg
theorem y10{s:St}{o:Oper}{bf:Nat}{c:eW}{r:iu}(h:EW P s o bf c=some r):∀cl,o.op≠ .defer cl:=by
 intro cl e;unfold EW at h;rw[e] at h;simp[sv] at h
theorem VF{s:St}{o:Oper}{bf:Nat}{c:eW}{r:iu}(h:EW P s o bf c=some r){wr:List (Nat×Ob)}{val:aJ}{a:Act}(hu:Up P F S m w wr val o a){K:Act->World->Prop}{Q:Exit->Act->World->Prop}
 (hK:∀v w' m',aY F (app S wr) m' w'->aK F S m w (app S wr) m' w'->aO (app S wr) m' w' (okB F (app S wr) m' w') val v->K (a.put o.dst v) w'):o.wpIn (fw F) 0 P a w K Q:=by
 refine⟨fun f _=>trivial,?_⟩;rw[Oper.semAt_eq _ _ _ (y10 h)];exact hu K Q hK
theorem x0m{ops:List Oper}{s:St}{o:Oper}{bf:Nat}{c:eW}{r:iu}(h:NR P ops s o bf c=some r)(hc:b8 r.jW)(kU:∀id∈r.need,s.st id=S id)(hS:aY F S m w)
 (eP:∀id,bf<=id->id<bf+8->S id=none) {a:Act} (hr:∀t∈looks ops o,aO S m w (okB F S m w) (get s.sl t) (a.tmps.getD t undef))
 {K:Act->World->Prop} {Q:Exit->Act->World->Prop}
 (hK:∀v w' m',aY F (app S r.wr) m' w'->aK F S m w (app S r.wr) m' w'->aO (app S r.wr) m' w' (okB F (app S r.wr) m' w') r.val v->K (a.put o.dst v) w'):
 if Region.wanted o (yielded ops.toArray a.tmps) then o.wpIn (fw F) 0 P a w K Q else(∀f,o.about P w a.eval=some f->(fw F).fn f)/\K (a.put o.dst undef) w:=by
 have H9:∀x∈o.op.operands.toList,aO S m w (okB F S m w) (ev s.sl x) (a.eval x):=fun x hx=>PL (fun t e=>by subst e;exact hr t (x3G hx))
 unfold NR at h;split at h
 ·rename_i r0 hg h0;simp only[qb] at h;subst h;have Hi:o.guard=none:=by
   unfold GN at hg;split at hg
   ·assumption
   split at hg
   ·cases hg
   split at hg<;>cases hg
  rw[if_pos (by simp[Region.wanted,Hi])];exact VF h0 (Vz h0 hc kU hS eP H9) hK
 ·rename_i e r0 hg h0;simp only[qb] at h;subst h;simp only at hc kU hK;rw[rO] at hc;obtain⟨c1,c2⟩:=hc;have DA:∀l:List Prop,e=true->b8 (l.map fun p=>e=true->p)->b8 l:=by
   intro l he;induction l with
   |nil=>exact fun _=>trivial
   |cons p l ih=>intro h;exact⟨h.1 he,ih h.2⟩
  have hw:=VE hg hr;cases e with
  |true=>
   have rT:Region.wanted o (yielded ops.toArray a.tmps)=true:=by
    rcases hw with h|h
    ·exact h
    cases h.1
   rw[if_pos rT];exact VF h0 (Vz h0 (DA _ rfl c1) kU hS eP H9) (fun v w' m' k1 k2 k3=>hK v w' m' k1 k2 (.cond true _ v (fun _=>k3) (fun h=>by cases h)))
  |false=>
   have rT:Region.wanted o (yielded ops.toArray a.tmps)=false:=by
    rcases hw with h|h
    ·exact h
    exact h.2
   rw[if_neg (by rw[rT];simp)];have Hv:r0.wr=[]:=by
    cases hh:r0.wr with
    |nil=>rfl
    |cons x l=>rw[hh] at c2;exact absurd c2.1 sM
   rw[Hv] at hK;exact⟨fun _ _=>trivial,hK undef w m hS (aK.refl F S m w) (.cond false _ _ (fun h=>by cases h) (fun _=>rfl))⟩
 cases h
theorem VH{ops:List Oper}{s:St}{o:Oper}{bf:Nat}{c:eW}{r:iu}(h:GO P ops s o bf c=some r)(hc:b8 r.jW)(kU:∀id∈r.need,s.st id=S id)(hS:aY F S m w)
 (eP:∀id,bf<=id->id<bf+8->S id=none) {a:Act} (hr:∀t∈looks ops o,aO S m w (okB F S m w) (get s.sl t) (a.tmps.getD t undef))
 {K:Act->World->Prop} {Q:Exit->Act->World->Prop}
 (hK:∀v w' m',aY F (app S r.wr) m' w'->aK F S m w (app S r.wr) m' w'->aO (app S r.wr) m' w' (okB F (app S r.wr) m' w') r.val v->K (a.put o.dst v) w'):
 if Region.wanted o (yielded ops.toArray a.tmps) then o.wpIn (fw F) 0 P a w K Q else(∀f,o.about P w a.eval=some f->(fw F).fn f)/\K (a.put o.dst undef) w:=by
 unfold GO at h;split at h
 ·rename_i v hv;split at h
  ·rename_i e hg;simp only[qb] at h;subst h;obtain⟨he,-⟩:=hc;have hw:=VE hg hr;have rT:Region.wanted o (yielded ops.toArray a.tmps)=false:=by
    rcases hw with h|h
    ·rw[h];exact he
    exact h.2
   rw[if_neg (by rw[rT];simp)];exact⟨fun _ _=>trivial,hK undef w m hS (aK.refl F S m w) (.cond e _ _ (fun h=>by rw[he] at h;cases h) (fun _=>rfl))⟩
  cases h
 exact x0m h hc kU hS eP hr hK
def VJ(D:Nat):Deferred:={target:= .collected D,args:=#[]}
def A4(F:eL P)(st:bQ)(m:Place)(w:World)(ds:List Deferred):Prop:=
 (∃l:List Nat,ds=l.map VJ/\l.Nodup/\∀D∈l,F.lo<=D/\(∀id o,st id=some o->¬m.has id D)/\w.heap[D]? =some (.deferred (some [])))/\
  F.lo<=w.heap.size/\∀l,F.BQ=some l->(∀id o,st id=some o->¬m.has id l)/\∃r,w.heap[l]? =some (.loop r)
theorem A4.nil{F:eL P}{st:bQ}{m:Place}{w:World}(h1:F.lo<=w.heap.size)(h2:∀l,F.BQ=some l->(∀id o,st id=some o->¬m.has id l)/\∃r,w.heap[l]? =some (.loop r)):A4 F st m w []:=⟨⟨[],rfl,List.nodup_nil,fun D h=>by cases h⟩,h1,h2⟩
theorem A4.ext{F:eL P}{st st':bQ}{m m':Place}{w w':World}{ds:List Deferred}(h:A4 F st m w ds)(hF:aK F st m w st' m' w'):A4 F st' m' w' ds:=by
 obtain⟨⟨l,h1,h2,h3⟩,h4,h5⟩:=h;have key:∀D x,w.heap[D]? =some x->(∀id o,st id=some o->¬m.has id D)->(∀id o,st' id=some o->¬m'.has id D)/\w'.heap[D]? =some x:=by
  intro D x q3 q2;have fQ:D<w.heap.size:=(qY.1 q3).1;refine⟨fun id o ho hm=> ?_,(hF.block D fQ (.inr fun id o ho _=>q2 id o ho)).trans q3⟩;cases hs:st id with
  |none=>
   rcases hF.new id o ho hs D hm with h| ⟨i,oi,k1,_,k2⟩
   ·omega
   exact q2 i oi k1 k2
  |some o0=>
   obtain⟨o',_,_,_,_,hp,_⟩:=hF.bW id o0 hs;rcases hp D hm with h|h| ⟨i,oi,k1,_,k2⟩
   ·exact q2 id o0 hs h
   ·omega
   exact q2 i oi k1 k2
 refine⟨⟨l,h1,h2,fun D hD=> ?_⟩,qC h4 hF.size,fun l hl=> ?_⟩
 ·obtain⟨q1,q2,q3⟩:=h3 D hD;exact⟨q1,key D _ q3 q2⟩
 obtain⟨q2,r,q3⟩:=h5 l hl;obtain⟨k1,k2⟩:=key l _ q3 q2;exact⟨k1,r,k2⟩
structure Rel(F:eL P)(n:Nat)(s:St)(m:Place)(a:Act)(w:World):Prop where
 dS:we s.st m w (okB F s.st m w) s.sl a.tmps
 size:a.tmps.size=n
 defers:A4 F s.st m w a.defers
 eH:aY F s.st m w
 fresh:∀id,s.nx<=id->s.st id=none
theorem VK(a:Act)(d:Option Tmp)(v:Value):(a.put d v).tmps.size=a.tmps.size:=by cases d<;>simp[Act.put]
theorem VM(a:Act)(d:Option Tmp)(v:Value):(a.put d v).defers=a.defers:=by cases d<;>rfl
theorem VO(a:Act)(d:Option Tmp)(v:Value)(t:Nat)(h:∀d',d=some d'->d'<a.tmps.size):(a.put d v).tmps.getD t undef=if d=some t then v else a.tmps.getD t undef:=by
 cases d with
 |none=>simp[Act.put]
 |some d=>
  have hd:=h d rfl;by_cases e:d=t
  ·subst e;simp[Act.put,hd]
  simp[Act.put,e,Array.getElem?_setIfInBounds_ne e]
theorem VQ(sl:List (Nat×aJ))(d:Option Nat)(v:aJ)(t:Nat):get (put sl d v) t=if d=some t then v else get sl t:=by
 cases d with
 |none=>simp[put]
 |some d=>
  simp only[put,get];by_cases e:d=t
  ·subst e;simp
  rw[kQ e];simp[e]
theorem we.put{ok:Nat->Prop}{sl:List (Nat×aJ)}{a:Act}{o:Oper}{n:Nat}(hd:BV n o=true)(hn:a.tmps.size=n){val:aJ}{v:Value}(h:we S m w ok sl a.tmps)(hv:aO S m w ok val v):
 we S m w ok (Ab.put sl o.dst val) (a.put o.dst v).tmps:=by
 intro t;rw[VQ,VO _ _ _ _ (fun d AJ=>by
  unfold BV at hd;rw[AJ] at hd;rw[hn];exact ze (qy hd))]
 split
 ·exact hv
 exact h t
theorem x0o{r:iu}{k:Nat}(h:(r.wr.all fun x=>Nat.blt x.1 k)=true){id:Nat}(bn:k<=id):app S r.wr id=S id:=by
 apply tv;intro hm;obtain⟨x,hx,rfl⟩:=qO.1 hm;have h1:=qS.1 h x hx;have:=ze (qy h1);omega
theorem VR{ops:List Oper}{fC:List (Nat×eW)}{nx n:Nat}{ds:List Deferred}{Q:Exit->Act->World->Prop}:∀(rest:List Oper) (i:Nat) (s s':St) (rs:List iu),gK P ops fC nx i rest s=some (s',rs)->b8 (yO rs)->
 (rest.all (BV n))=true->∀(m:Place) (a:Act) (w:World),we s.st m w (okB F s.st m w) s.sl a.tmps->a.tmps.size=n->a.defers=ds->aY F s.st m w->(∀id,nx+8*i<=id->s.st id=none)->
 (∀m' a' w',we s'.st m' w' (okB F s'.st m' w') s'.sl a'.tmps->a'.tmps.size=n->a'.defers=ds->aY F s'.st m' w'->(∀id,nx+8*(i+rest.length)<=id->s'.st id=none)->aK F s.st m w s'.st m' w'->Q .normal a' w')->
 wpListIn (fw F) 0 P ops.toArray Q rest a w
 | [],i,s,s',rs,h,_,_,m,a,w,h1,h2,h3,h4,h5,hQ=>by
  simp only[gK,qb,qD] at h;obtain⟨rfl,rfl⟩:=h;exact hQ m a w h1 h2 h3 h4 h5 (aK.refl F _ m w)
 |o::rest,i,s,s',rs,h,hc,hd,m,a,w,h1,h2,h3,h4,h5,hQ=>by
  simp only[gK] at h;split at h;rotate_left
  ·cases h
  rename_i r hr;cases hk:(r.wr.all fun x=>Nat.blt x.1 (nx+8*i+8)) with
  |false=>rw[hk] at h;cases h
  |true=>
   rw[hk] at h;simp only[Bool.not_true,cond_false] at h;split at h;rotate_left
   ·cases h
   rename_i s2 PR cQ;simp only[qb,qD] at h;obtain⟨rfl,rfl⟩:=h;simp only[yO] at hc;rw[rO] at hc;simp only[List.all_cons,qq] at hd;unfold wpListIn;refine VH hr hc.1 (fun _ _=>rfl) h4 (fun id q1 q2=>h5 id oM) (fun t _=>h1 t) (fun v w' m' k1 k2 k3=> ?_);refine VR (ds:=ds) rest (i+1) _ s2 PR cQ hc.2 hd.2 m' _ w' ?_ (by rw[VK];exact h2) (by rw[VM];exact h3) k1 (fun id bn=> ?_) (fun m'' a'' w'' q1 q2 q3 q4 q5 q6=> ?_)
   ·exact we.put hd.1 h2 (fun t=>k2.val (h1 t)) k3
   ·show app s.st r.wr id=none;rw[x0o hk oM];exact h5 id oM
   exact hQ m'' a'' w'' q1 q2 q3 q4 (fun id bn=>q5 id (by simp only[qi] at bn;omega)) (k2.trans h4 q6)
theorem PS:∀(keys:List Nat) (sl:List (Nat×aJ)) (t:Nat),get (wJ sl keys) t=get sl t\/get (wJ sl keys) t= .cH
 | [],sl,t=> .inr rfl
 |k::keys,sl,t=>by
  simp only[wJ,get];by_cases e:k=t
  ·subst e;left;simp
  rw[kQ e];exact PS keys sl t
theorem we.bW{ok:Nat->Prop}{sl:List (Nat×aJ)}{tmps:Array Value}(h:we S m w ok sl tmps)(keys:List Nat):we S m w ok (wJ sl keys) tmps:=by
 intro t;rcases PS keys sl t with e|e
 ·rw[e];exact h t
 rw[e];exact .cH _
theorem x0q{n:Nat}{ops:List Oper}{fC:List (Nat×eW)}{keys:List Nat}{s s':St}{C:List Prop}(h:EY P n ops false fC keys s=some (s',C))(hC:b8 C){m:Place}{a:Act}{w:World}(hs:Rel F n s m a w)
 {Q:Exit->Act->World->Prop} (hQ:∀m' a' w',Rel F n s' m' a' w'->aK F s.st m w s'.st m' w'->Q .normal a' w') (id:Nat):(Code.region id ops.toArray false).wpIn (fw F) 0 P Q a w:=by
 unfold EY at h;split at h;rotate_left
 ·cases h
 rename_i s2 rs cQ;obtain⟨h1,h2⟩:=gL h;simp only[qq] at h1;simp only[qb,qD] at h2;obtain⟨rfl,rfl⟩:=h2;refine wpIn_region_list ?_;refine VR ops 0 s s2 rs cQ hC h1.1 m a w hs.dS hs.size rfl hs.eH (fun id bn=>hs.fresh id oM) (fun m' a' w' q1 q2 q3 q4 q5 q6=> ?_);exact hQ m' a' w' ⟨q1.bW keys,q2,by rw[q3];exact hs.defers.ext q6,q4,fun id bn=>q5 id (by simp only at bn;omega)⟩ q6
end Go.Ab
end
section
namespace Go.Ab
variable {P:Program} {w:World} {F:eL P} {S st:bQ} {m:Place}
def look{β:Type}(d:β)(f:Nat->Option β):Nat->β
 |0=>d
 |k+1=>(f k).getD (look d f k)
theorem A5{β:Type}{d:β}{f g:Nat->Option β}:∀{k:Nat},(∀i,i<k->f i=g i)->look d f k=look d g k
 |0,_=>rfl
 |k+1,h=>by simp only[look,h k oM,A5 (k:=k) (fun i hi=>h i oM)]
theorem Ft{β:Type}{d:β}{f:Nat->Option β}{i:Nat}:∀{k:Nat},i<=k->(∀j,i<=j->j<k->f j=none)->look d f k=look d f i
 |0,h,_=>by simp[Nat.le_zero.1 h]
 |k+1,h,hf=>by
  by_cases e:i=k+1
  ·rw[e]
  simp only[look,hf k oM oM];exact Ft oM (fun j h1 h2=>hf j h1 oM)
theorem VT{β:Type}{d:β}{f:Nat->Option β}{i k:Nat}{v:β}(hi:i<k)(hv:f i=some v)(hf:∀j,i<j->j<k->f j=none):look d f k=v:=by
 rw[Ft (i:=i+1) hi (fun j h1 h2=>hf j oM h2)];simp only[look,hv,zG]
def Ia(P:Program)(ops:List Oper)(fC:List (Nat×eW))(nx:Nat):Nat->List Oper->St->List iu->St->Prop
 |_,[],s,rs,s'=>rs=[]/\s'=s
 |i,o::l,s,rs,s'=> ∃r Cu,rs=r::Cu/\GO P ops s o (nx+8*i) (J2 fC i)=some r/\(r.wr.all fun x=>Nat.blt x.1 (nx+8*i+8))=true/\
  Ia P ops fC nx (i+1) l ⟨put s.sl o.dst r.val,app s.st r.wr,s.nx⟩ Cu s'
theorem VV:∀{ops:List Oper} {fC:List (Nat×eW)} {nx:Nat} (l:List Oper) (i:Nat) (s s':St) (rs:List iu),gK P ops fC nx i l s=some (s',rs)->Ia P ops fC nx i l s rs s'
 |ops,fC,nx,[],i,s,s',rs,h=>by
  simp only[gK,qb,qD] at h;exact⟨h.2.symm,h.1.symm⟩
 |ops,fC,nx,o::l,i,s,s',rs,h=>by
  simp only[gK] at h;split at h;rotate_left
  ·cases h
  rename_i r hr;cases hk:(r.wr.all fun x=>Nat.blt x.1 (nx+8*i+8)) with
  |false=>rw[hk] at h;cases h
  |true=>
   rw[hk] at h;simp only[Bool.not_true,cond_false] at h;split at h;rotate_left
   ·cases h
   rename_i s2 PR cQ;simp only[qb,qD] at h;obtain⟨rfl,rfl⟩:=h;exact⟨r,PR,rfl,hr,hk,VV l (i+1) _ _ _ cQ⟩
def xW(ops:List Oper)(rs:List iu)(t:Nat)(i:Nat):Option aJ:=
 match ops[i]?,rs[i]? with
 |some o,some r=>if o.dst=some t then some r.val else none
 |_,_=>none
def xX(rs:List iu)(id:Nat)(i:Nat):Option (Option Ob):=
 match rs[i]? with
 |some r=>if lN (tZ r) id then some (app emp r.wr id) else none
 |none=>none
theorem VX{S:bQ}{wr:List (Nat×Ob)}{id:Nat}(h:id∈wr.map (·.1)):app S wr id=app emp wr id:=Kh (.inl h)
theorem PT{β:Type}{d:β}{f:Nat->Option β}:∀(k:Nat),look d f (k+1)=look ((f 0).getD d) (fun i=>f (i+1)) k
 |0=>rfl
 |k+1=>by
  rw[look,PT k];rfl
theorem y5e{ops:List Oper}{rs:List iu}{o:Oper}{r:iu}{sl:List (Nat×aJ)}{t:Nat}:
 (xW (o::ops) (r::rs) t 0).getD (get sl t)=get (put sl o.dst r.val) t:=by
 rw[VQ];simp only[xW,zC];split<;>simp_all
theorem y8L{rs:List iu}{r:iu}{S:bQ}{id:Nat}:(xX (r::rs) id 0).getD (S id)=app S r.wr id:=by
 simp only[xX,zC];cases h:lN (tZ r) id with
 |true=>
  have:=pS.1 h;exact(VX this).symm
 |false=>
  have:id∉tZ r:=fun hm=>by rw[pS.2 hm] at h;cases h
  exact(tv this).symm
theorem PU{ops:List Oper}{fC:List (Nat×eW)}{nx:Nat}:∀(l:List Oper) (i:Nat) (s s':St) (rs:List iu),Ia P ops fC nx i l s rs s'->
 rs.length=l.length/\((∀t,get s'.sl t=look (get s.sl t) (xW l rs t) l.length)/\(∀id,s'.st id=look (s.st id) (xX rs id) l.length))/\
 ∀(j:Nat) (o:Oper) (r:iu),l[j]? =some o->rs[j]? =some r->∃sj:St,GO P ops sj o (nx+8*(i+j)) (J2 fC (i+j))=some r/\(r.wr.all fun x=>Nat.blt x.1 (nx+8*(i+j)+8))=true/\
  (∀t,get sj.sl t=look (get s.sl t) (xW l rs t) j)/\(∀id,sj.st id=look (s.st id) (xX rs id) j)
 | [],i,s,s',rs,h=>by
  obtain⟨rfl,rfl⟩:=h;exact⟨rfl,⟨fun t=>rfl,fun id=>rfl⟩,fun j o r h=>by simp at h⟩
 |o0::l,i,s,s',rs,h=>by
  obtain⟨r0,Cu,rfl,he,hk,ht⟩:=h;obtain⟨xY,⟨cC,kJ⟩,ic⟩:=PU l (i+1) _ s' Cu ht;have VY:∀t k,look (get s.sl t) (xW (o0::l) (r0::Cu) t) (k+1)=look (get (put s.sl o0.dst r0.val) t) (xW l Cu t) k:=fun t k=>by
   rw[PT,y5e];exact A5 (fun i _=>by simp[xW])
  have VZ:∀id k,look (s.st id) (xX (r0::Cu) id) (k+1)=look (app s.st r0.wr id) (xX Cu id) k:=fun id k=>by
   rw[PT,y8L];exact A5 (fun i _=>by simp[xX])
  refine⟨by simp[xY],⟨fun t=>by rw[qi,VY];exact cC t,fun id=>by rw[qi,VZ];exact kJ id⟩,fun j o r ho hr=> ?_⟩;cases j with
  |zero=>
   simp at ho hr;subst ho;subst hr;exact⟨s,he,hk,fun t=>rfl,fun id=>rfl⟩
  |succ j=>
   simp at ho hr;obtain⟨sj,h1,h2,h3,h4⟩:=ic j o r ho hr;exact⟨sj,by rw[show i+(j+1)=i+1+j by omega];exact h1,by rw[show i+(j+1)=i+1+j by omega];exact h2,fun t=>by rw[h3,VY],fun id=>by rw[h4,VZ]⟩
def V0(ops:List Oper)(E:Nat->Bool):Prop:=∀j o,ops[j]? =some o->E j=true->∀e∈o.after.toList,Region.binds .any e=true->E e.on=true
theorem V1{E:Nat->Bool}{ms:List Nat}(V2:∀(j:Nat),E j=true->∀i,Nat.testBit (ms.getD j 0) i=true->E i=true):∀(es:List Edge) (s0:Nat),(∀i,Nat.testBit s0 i=true->E i=true)->
 (∀e∈es,Region.binds .any e=true->E e.on=true)->∀i,Nat.testBit (es.foldl (fun s e=>bif Region.binds .any e then s|||2^e.on|||ms.getD e.on 0 else s) s0) i=true->E i=true
 | [],s0,h0,_,i,h=>h0 i h
 |e::es,s0,h0,he,i,h=>by
  simp only[List.foldl_cons] at h;refine V1 V2 es _ (fun i hi=> ?_) (fun e' h'=>he e' (by simp[h'])) i h;cases hb:Region.binds .any e with
  |false=>rw[hb] at hi;exact h0 i hi
  |true=>
   rw[hb] at hi;simp only[cond_true,Nat.testBit_or,qM,Nat.testBit_two_pow,decide_eq_true_eq] at hi;have hE:=he e sM hb;rcases hi with(hi|hi)|hi
   ·exact h0 i hi
   ·rw[<-hi];exact hE
   exact V2 e.on hE i hi
theorem PV{E:Nat->Bool}:∀(l:List Oper) (ms:List Nat),(∀(j:Nat),E j=true->∀i,Nat.testBit (ms.getD j 0) i=true->E i=true)->
 (∀(j:Nat) (o:Oper),l[j]? =some o->E (ms.length+j)=true->∀e∈o.after.toList,Region.binds .any e=true->E e.on=true)->
 ∀(j:Nat),E j=true->∀i,Nat.testBit ((BW l ms).getD j 0) i=true->E i=true
 | [],ms,h,_=>h
 |o::l,ms,h,hl=>by
  refine PV l (ms++[To ms o]) (fun j hj i hi=> ?_) (fun j o' bR hj=> ?_)
  ·by_cases c:j<ms.length
   ·rw[qd,qx c] at hi;exact h j hj i (by rw[qd];exact hi)
   by_cases c2:j=ms.length
   ·subst c2;rw[qd,qK (qp _)] at hi;simp only[Nat.sub_self,zC,zG] at hi;exact V1 h o.after.toList 0 (fun i hi=>by simp at hi) (hl 0 o sM (by simpa using hj)) i hi
   rw[qd,zP (by simp;omega)] at hi;simp at hi
  exact hl (j+1) o' (by simpa using bR) (by simp only[qf,List.length_singleton] at hj;rw[show ms.length+(j+1)=ms.length+1+j by omega];exact hj)
theorem V3{ops:List Oper}{bf i:Nat}{o:Oper}{r:iu}:∀{l:List Oper} {rs:List iu} {ms:List Nat},GS ops bf i o r l rs ms=true->
 ∀(q:Nat) (o':Oper) (r':iu),l[q]? =some o'->rs[q]? =some r'->Nat.testBit (ms.getD q 0) i=true\/GQ ops bf o o' r r'=true
 | [],_,_,_,q,o',r',h,_=>by simp at h
 |_::_,[],_,_,q,o',r',_,h=>by simp at h
 |o1::l,r1::rs,[],h,_,_,_,_,_=>by simp[GS] at h
 |o1::l,r1::rs,mk::ms,h,q,o',r',ho,hr=>by
  simp only[GS,qq,qM] at h;cases q with
  |zero=>simp at ho hr;subst ho;subst hr;simpa using h.1
  |succ q=>simp at ho hr;simpa using V3 h.2 q o' r' ho hr
theorem V4{ops:List Oper}{nx:Nat}:∀{k:Nat} {l:List Oper} {rs:List iu} {ms:List Nat},GU ops nx k l rs ms=true->
 ∀(p q:Nat) (o o':Oper) (r r':iu),p<q->l[p]? =some o->rs[p]? =some r->l[q]? =some o'->rs[q]? =some r'->Nat.testBit (ms.getD q 0) (k+p)=true\/GQ ops (nx+8*(k+p)) o o' r r'=true
 |k,[],_,_,_,p,q,o,o',r,r',_,h,_,_,_=>by simp at h
 |k,_::_,[],_,_,p,q,o,o',r,r',_,_,h,_,_=>by simp at h
 |k,_::_,_::_,[],h,_,_,_,_,_,_,_,_,_,_,_=>by simp[GU] at h
 |k,o1::l,r1::rs,m1::ms,h,p,q,o,o',r,r',uE,ho,hr,bR,jG=>by
  simp only[GU,qq] at h;cases q with
  |zero=>omega
  |succ q=>
   cases p with
   |zero=>
    simp at ho hr bR jG;subst ho;subst hr;simpa using V3 h.1 q o' r' bR jG
   |succ p=>
    simp at ho hr bR jG;have:=V4 h.2 p q o o' r r' oM ho hr bR jG;rw[show k+1+p=k+(p+1) by omega] at this;simpa using this
theorem V5:∀{k:Nat} {l:List Oper},GR k l=true->∀(q:Nat) (o:Oper),l[q]? =some o->∀e∈o.after.toList,Region.binds .any e=true->e.on<k+q
 |k,[],_,q,o,h,_,_,_=>by simp at h
 |k,o1::l,h,q,o,ho,e,he,hb=>by
  simp only[GR,qq] at h;cases q with
  |zero=>
   simp at ho;subst ho;have:=qS.1 h.1 e he;simp only[hb,Bool.not_true,ji] at this;exact ze (qy this)
  |succ q=>
   simp at ho;have:=V5 h.2 q o ho e he hb;omega
section
variable (ops:List Oper) (rs:List iu) (s:St)
def A6(E:Nat->Bool)(t:Nat):aJ:=look (get s.sl t) (fun i=>bif E i then xW ops rs t i else none) ops.length
def vi(E:Nat->Bool)(id:Nat):Option Ob:=look (s.st id) (fun i=>bif E i then xX rs id i else none) ops.length
structure A7(F:eL P)(N:Nat)(ds:List Deferred)(m0:Place)(w0:World)(E:Nat->Bool)(a:Act)(w:World):Prop where
 ex:∃m,(∀t,aO (vi ops rs s E) m w (okB F (vi ops rs s E) m w) (A6 ops rs s E t) (a.tmps.getD t undef))/\aY F (vi ops rs s E) m w/\aK F s.st m0 w0 (vi ops rs s E) m w
 size:a.tmps.size=N
 defers:a.defers=ds
end
theorem K4{ops:List Oper}{rs:List iu}{t j:Nat}(h:∀o,ops[j]? =some o->o.dst≠some t):xW ops rs t j=none:=by
 unfold xW;split
 ·rename_i o r ho hr;rw[if_neg (h o ho)]
 rfl
theorem Fu{rs:List iu}{id j:Nat}(h:∀r,rs[j]? =some r->id∉tZ r):xX rs id j=none:=by
 unfold xX;split
 ·rename_i r hr;have:lN (tZ r) id=false:=by
   cases hh:lN (tZ r) id with
   |false=>rfl
   |true=>exact absurd (pS.1 hh) (h r hr)
  rw[this];rfl
 rfl
theorem V6{a b:List Nat}(h:J3 a b=false){i:Nat}(ha:i∈a):i∉b:=by
 intro hb;unfold J3 at h;have:=List.any_eq_false.1 h i ha;rw[pS.2 hb] at this;exact this rfl
structure vm(ops:List Oper)(bf:Nat)(o o':Oper)(r r':iu):Prop where
 d1:∀d,o.dst=some d->d∉looks ops o'/\o'.dst≠some d
 d2:∀d,o'.dst=some d->d∉looks ops o
 w1:∀i∈tZ r,i∉r'.need/\i∉tZ r'
 w2:∀i∈tZ r',i∉r.need
 w3:∀i∈tZ r',¬(bf<=i/\i<bf+8)
theorem y8M{ops:List Oper}{bf:Nat}{o o':Oper}{r r':iu}(h:GQ ops bf o o' r r'=true):vm ops bf o o' r r':=by
 unfold GQ at h;simp only[Bool.and_eq_true,Bool.not_eq_true'] at h;obtain⟨⟨⟨⟨h1,h2⟩,h3⟩,h4⟩,h5⟩:=h;refine⟨fun d hd=> ?_,fun d hd=> ?_,fun i hi=> ?_,fun i hi=>V6 h4 hi,fun i hi fQ=> ?_⟩
 ·rw[hd] at h1;simp only[Bool.or_eq_false_iff] at h1;refine⟨fun hm=>(by rw[pS.2 hm] at h1;cases h1.1),fun he=> ?_⟩;rw[he] at h1;simp at h1
 ·rw[hd] at h2;simp only at h2;exact fun hm=>(by rw[pS.2 hm] at h2;cases h2)
 ·have:=V6 h3 hi;simp only[List.mem_append,not_or] at this;exact this
 have:=List.any_eq_false.1 h5 i hi;simp only[Bool.and_eq_true,not_and] at this;exact this (Nat.ble_eq_true_of_le fQ.1) (Nat.ble_eq_true_of_le fQ.2)
theorem x0u{ops:List Oper}{fC:List (Nat×eW)}{s s':St}{rs:List iu}{N:Nat}{ds:List Deferred}{m0:Place}{w0:World}(Fv:Ia P ops fC s.nx 0 ops s rs s')(hd:ops.all (BV N)=true)(dF:EX ops s.nx rs=true)(hC:b8 (yO rs))
 (eP:∀id,s.nx<=id->s.st id=none) {E:Nat->Bool} (fQ:∀j,E j=true->j<ops.length) (kV:V0 ops E) {i:Nat} {oi:Oper} (hi:ops[i]? =some oi) (Fw:E i=false)
 (PW:∀e∈oi.after.toList,Region.binds .any e=true->E e.on=true) {a:Act} {w:World} (lS:A7 ops rs s F N ds m0 w0 E a w) (lF:aY F s.st m0 w0) {Q:Exit->Act->World->Prop} {K:Act->World->Prop}
 (hK:∀a' w',A7 ops rs s F N ds m0 w0 (fun j=>bif Nat.beq j i then true else E j) a' w'->K a' w'):wpOpIn (fw F) 0 P ops.toArray Q i K a w:=by
 obtain⟨hlen,-,bH⟩:=PU ops 0 s s' rs Fv;have j7:i<ops.length:=(List.getElem?_eq_some_iff.1 hi).1;have Cv:rs[i]? =some rs[i]:=List.getElem?_eq_getElem oM;generalize hr:rs[i]=ri at Cv;obtain⟨si,hex,PX,iY,hso⟩:=bH i oi ri hi Cv;rw[Nat.zero_add] at hex PX;have Ib:∀(q:Nat) (o:Oper) (r:iu),ops[q]? =some o->rs[q]? =some r->(r.wr.all fun x=>Nat.blt x.1 (s.nx+8*q+8))=true:=fun q o r ho hr=>by
  obtain⟨_,_,h,_⟩:=bH q o r ho hr;rwa [Nat.zero_add] at h
 unfold EX at dF;simp only[Bool.and_eq_true] at dF;have V7:∀j,E j=true->∀k,Nat.testBit ((BW ops []).getD j 0) k=true->E k=true:=
  PV ops [] (fun j hj k hk=>by simp at hk) (fun j o ho hj e he hb=>kV j o ho (by simpa using hj) e he hb)
 have mk2:∀k,k≠i->Nat.testBit ((BW ops []).getD i 0) k=true->E k=true:=by
  intro k HE hk;have:=PV (E:=fun j=>bif Nat.beq j i then true else E j) ops [] (fun j hj k hk=>by simp at hk) (fun j o ho hj e he hb=>by
   simp only[List.length_nil,Nat.zero_add] at hj;by_cases c:j=i
   ·subst c;rw[hi] at ho;cases ho;have h1:=PW e he hb;simp only[h1];cases Nat.beq e.on j<;>rfl
   simp only[kQ c,cond_false] at hj;have h1:=kV j o ho hj e he hb;simp only[h1];cases Nat.beq e.on i<;>rfl) i sM k hk
  simp only[kQ HE,cond_false] at this;exact this
 have ap:∀p q o o' r r',p<q->ops[p]? =some o->rs[p]? =some r->ops[q]? =some o'->rs[q]? =some r'->Nat.testBit ((BW ops []).getD q 0) p=false->vm ops (s.nx+8*p) o o' r r':=by
  intro p q o o' r r' uE ho hr bR jG hb;have:=V4 dF.2 p q o o' r r' uE ho hr bR jG;rw[Nat.zero_add] at this;rcases this with h|h
  ·rw[hb] at h;cases h
  exact y8M h
 have later:∀j o r,i<j->E j=true->ops[j]? =some o->rs[j]? =some r->vm ops (s.nx+8*i) oi o ri r:=fun j o r jr rq ho hr=>ap i j oi o ri r jr hi Cv ho hr (by
  cases hh:Nat.testBit ((BW ops []).getD j 0) i with
  |false=>rfl
  |true=>have:=V7 j rq i hh;rw[Fw] at this;cases this)
 have vn:∀j o r,j<i->E j=false->ops[j]? =some o->rs[j]? =some r->vm ops (s.nx+8*j) o oi r ri:=fun j o r A8 rq ho hr=>ap j i o oi r ri A8 ho hr hi Cv (by
  cases hh:Nat.testBit ((BW ops []).getD i 0) j with
  |false=>rfl
  |true=>have:=mk2 j oM hh;rw[rq] at this;cases this)
 have nW:∀j,j<ops.length->∃o r,ops[j]? =some o/\rs[j]? =some r:=fun j hj=>⟨ops[j],rs[j],List.getElem?_eq_getElem hj,List.getElem?_eq_getElem oM⟩
 obtain⟨⟨m,hv,hS,hF⟩,fV,hdf⟩:=lS;have e1:∀t∈looks ops oi,A6 ops rs s E t=get si.sl t:=by
  intro t ht;rw[iY];unfold A6;rw[Ft (i:=i) (Nat.le_of_lt j7) (fun j jr lE=>by
   by_cases c:j=i
   ·subst c;rw[Fw];rfl
   cases rq:E j with
   |false=>rfl
   |true=>
    obtain⟨o,r,ho,hr⟩:=nW j lE;have:=later j o r oM rq ho hr;exact K4 (fun o' bR he=>by rw[ho] at bR;cases bR;exact this.d2 t he ht))]
  refine A5 (fun j A8=> ?_);cases rq:E j with
  |true=>rfl
  |false=>
   obtain⟨o,r,ho,hr⟩:=nW j oM;have:=vn j o r A8 rq ho hr;exact(K4 (fun o' bR he=>by rw[ho] at bR;cases bR;exact(this.d1 t he).1 ht)).symm
 have e2:∀id∈ri.need,si.st id=vi ops rs s E id:=by
  intro id bn;rw[hso];unfold vi;rw[Ft (k:=ops.length) (i:=i) (Nat.le_of_lt j7) (fun j jr lE=>by
   by_cases c:j=i
   ·subst c;rw[Fw];rfl
   cases rq:E j with
   |false=>rfl
   |true=>
    obtain⟨o,r,ho,hr⟩:=nW j lE;have:=later j o r oM rq ho hr;exact Fu (fun r' jG hm=>by rw[hr] at jG;cases jG;exact this.w2 id hm bn))]
  refine(A5 (fun j A8=> ?_)).symm;cases rq:E j with
  |true=>rfl
  |false=>
   obtain⟨o,r,ho,hr⟩:=nW j oM;have:=vn j o r A8 rq ho hr;exact(Fu (fun r' jG hm=>by rw[hr] at jG;cases jG;exact(this.w1 id hm).1 bn)).symm
 have e3:∀id,s.nx+8*i<=id->id<s.nx+8*i+8->vi ops rs s E id=none:=by
  intro id h1 h2;unfold vi;rw[Ft (i:=0) (Nat.zero_le _) (fun j _ lE=>by
   cases rq:E j with
   |false=>rfl
   |true=>
    obtain⟨o,r,ho,hr⟩:=nW j lE;refine Fu (fun r' jG hm=> ?_);rw[hr] at jG;cases jG;have A8:j≠i:=fun e=>by subst e;rw[Fw] at rq;cases rq
    by_cases c:j<i
    ·obtain⟨x,hx,rfl⟩:=List.mem_map.1 hm;have:=Nat.lt_of_succ_le (Nat.le_of_ble_eq_true (List.all_eq_true.1 (Ib j o r ho hr) x hx));omega
    exact(later j o r oM rq ho hr).w3 id hm ⟨h1,h2⟩)]
  exact eP id oM
 have e4:app (vi ops rs s E) ri.wr=vi ops rs s (fun j=>bif Nat.beq j i then true else E j):=by
  funext id;by_cases hm:id∈tZ ri
  ·rw[VX hm];unfold vi;refine(VT j7 (by simp[xX,Cv,pS.2 hm]) (fun j jr lE=> ?_)).symm;simp only[kQ (by omega:j≠i),cond_false];cases rq:E j with
   |false=>rfl
   |true=>
    obtain⟨o,r,ho,hr⟩:=nW j lE;have:=later j o r jr rq ho hr;exact Fu (fun r' jG nG=>by rw[hr] at jG;cases jG;exact(this.w1 id hm).2 nG)
  rw[tv hm];unfold vi;refine A5 (fun j lE=> ?_);by_cases c:j=i
  ·subst c;rw[Fw];simp only[cond_false,Nat.beq_refl,cond_true];exact(Fu (fun r' jG nG=>by rw[Cv] at jG;cases jG;exact hm nG)).symm
  simp only[kQ c,cond_false]
 have e5:∀t,A6 ops rs s (fun j=>bif Nat.beq j i then true else E j) t=if oi.dst=some t then ri.val else A6 ops rs s E t:=by
  intro t;by_cases hm:oi.dst=some t
  ·rw[if_pos hm];unfold A6;refine VT j7 (by simp[xW,hi,Cv,hm]) (fun j jr lE=> ?_);simp only[kQ (by omega:j≠i),cond_false];cases rq:E j with
   |false=>rfl
   |true=>
    obtain⟨o,r,ho,hr⟩:=nW j lE;have:=later j o r jr rq ho hr;exact K4 (fun o' bR he=>by rw[ho] at bR;cases bR;exact(this.d1 t hm).2 he)
  rw[if_neg hm];unfold A6;refine A5 (fun j lE=> ?_);by_cases c:j=i
  ·subst c;rw[Fw];simp only[cond_false,Nat.beq_refl,cond_true];exact K4 (fun o' bR he=>by rw[hi] at bR;cases bR;exact hm he)
  simp only[kQ c,cond_false]
 have hCi:b8 ri.jW:=by
  have:∀(l:List iu) (q:Nat) (r:iu),b8 (yO l)->l[q]? =some r->b8 r.jW:=by
   intro l;induction l with
   |nil=>intro q r _ h;simp at h
   |cons r0 l ih=>
    intro q r h hq;simp only[yO] at h;rw[rO] at h;cases q with
    |zero=>simp at hq;subst hq;exact h.1
    |succ q=>simp at hq;exact ih q r h.2 hq
  exact this rs i ri hC Cv
 unfold wpOpIn;have hai:ops.toArray[i]? =some oi:=by simpa using hi
 simp only[hai];refine VH hex hCi e2 hS (fun id h1 h2=>e3 id h1 h2) (fun t ht=>by rw[<-e1 t ht];exact hv t) (fun v w' m' k1 k2 k3=> ?_);rw[e4] at k1 k2 k3;refine hK _ _ ⟨⟨m',fun t=> ?_,k1,hF.trans lF k2⟩,by rw[VK];exact fV,by rw[VM];exact hdf⟩;rw[e5,VO _ _ _ _ (fun d AJ=>by
  have:=List.all_eq_true.1 hd oi (List.mem_of_getElem? hi);unfold BV at this;rw[AJ] at this;rw[fV];exact Nat.lt_of_succ_le (Nat.le_of_ble_eq_true this))]
 split
 ·exact k3
 exact k2.val (hv t)
def pE(n:Nat)(listed:Array Bool):Nat->Bool:=fun j=>Nat.blt j n&&listed.getD j false
theorem y8N{ops:List Oper}{fC:List (Nat×eW)}{s s':St}{rs:List iu}{N:Nat}{ds:List Deferred}{m0:Place}{w0:World}(Fv:Ia P ops fC s.nx 0 ops s rs s')(hd:ops.all (BV N)=true)(dF:EX ops s.nx rs=true)(hC:b8 (yO rs))
 (eP:∀id,s.nx<=id->s.st id=none) (lF:aY F s.st m0 w0) {Q:Exit->Act->World->Prop} (hQ:∀E a w,(∀j,j<ops.length->E j=true)->A7 ops rs s F N ds m0 w0 E a w->Q .normal a w):
 ∀(fuel:Nat) (listed:Array Bool) (a:Act) (w:World),listed.size=ops.length->listed.toList.count false=fuel->V0 ops (pE ops.length listed)->A7 ops rs s F N ds m0 w0 (pE ops.length listed) a w->
  wpAnyIn (fw F) 0 P .any ops.toArray Q fuel listed a w:=by
 have Ic:GR 0 ops=true:=by
  unfold EX at dF;simp only[Bool.and_eq_true] at dF;exact dF.1
 have oZ:∀(listed:Array Bool) (j:Nat),listed.size=ops.length->j<ops.length->listed.getD j true=pE ops.length listed j:=by
  intro listed j hl hj;have h1:Nat.blt j ops.length=true:=Nat.ble_eq_true_of_le hj;have h2:j<listed.size:=oM;simp[pE,h1,h2]
 have lZ:∀(listed:Array Bool) (i:Nat),listed.size=ops.length->(i∈Region.ready .any ops.toArray listed↔
  ∃o,ops[i]? =some o/\pE ops.length listed i=false/\∀e∈o.after.toList,Region.binds .any e=true->pE ops.length listed e.on=true):=by
  intro listed i hl;unfold Region.ready;simp only[List.mem_filter,List.mem_range,List.size_toArray,Bool.and_eq_true,Bool.not_eq_true'];constructor
  ·rintro⟨h1,h2,h3⟩;rw[oZ listed i hl h1] at h2;refine⟨ops[i],List.getElem?_eq_getElem h1,h2,fun e he hb=> ?_⟩;simp only[List.getElem?_toArray,List.getElem?_eq_getElem h1,Option.map_some,Option.getD_some,Array.all_eq_true',Bool.or_eq_true,Bool.not_eq_true'] at h3;have h4:=h3 e (by simpa using he);rw[hb] at h4;have h5:=h4.resolve_left sM;have h6:e.on<listed.size:=by
    rcases Nat.lt_or_ge e.on listed.size with h|h
    ·exact h
    simp[Array.getElem?_eq_none h] at h5
   have h7:Nat.blt e.on ops.length=true:=Nat.ble_eq_true_of_le oM;simp only[pE,h7,Bool.true_and];exact h5
  rintro⟨o,h1,h2,h3⟩;have hi:i<ops.length:=(List.getElem?_eq_some_iff.1 h1).1;refine⟨hi,by rw[oZ listed i hl hi];exact h2,?_⟩;simp only[List.getElem?_toArray,h1,Option.map_some,Option.getD_some,Array.all_eq_true',Bool.or_eq_true,Bool.not_eq_true'];intro e he;cases hb:Region.binds .any e with
  |false=>exact .inl rfl
  |true=>
   right;have:=h3 e (by simpa using he) hb;simp only[pE,Bool.and_eq_true] at this;exact this.2
 have A9:∀(listed:Array Bool),listed.size=ops.length->Region.ready .any ops.toArray listed=[]->∀j,j<ops.length->pE ops.length listed j=true:=by
  intro listed hl hr j;induction j using Nat.strongRecOn with
  |_ j ih=>
   intro hj;cases hh:pE ops.length listed j with
   |true=>rfl
   |false=>
    have:j∈Region.ready .any ops.toArray listed:=(lZ listed j hl).2 ⟨ops[j],List.getElem?_eq_getElem hj,hh,fun e he hb=>by
     have:=V5 Ic j ops[j] (List.getElem?_eq_getElem hj) e he hb;rw[Nat.zero_add] at this;exact ih e.on this oM⟩
    rw[hr] at this;cases this
 intro fuel;induction fuel with
 |zero=>
  intro listed a w hl Ie kV lS;have gh:∀j,j<ops.length->pE ops.length listed j=true:=by
   intro j hj;rw[<-oZ listed j hl hj];have PY:j<listed.size:=oM;cases hh:listed.getD j true with
   |true=>rfl
   |false=>
    have hm:false∈listed.toList:=by
     have:listed[j]=false:=by simpa[PY] using hh
     rw[<-this];simp
    have:=List.count_pos_iff.2 hm;omega
  refine⟨?_,hQ _ a w gh lS⟩;cases hr:Region.ready .any ops.toArray listed with
  |nil=>rfl
  |cons i l=>
   have:i∈Region.ready .any ops.toArray listed:=by rw[hr];simp
   obtain⟨o,h1,h2,_⟩:=(lZ listed i hl).1 this;have:=gh i (List.getElem?_eq_some_iff.1 h1).1;rw[h2] at this;cases this
 |succ fuel ih=>
  intro listed a w hl Ie kV lS;refine⟨fun hr=>hQ _ a w (A9 listed hl hr) lS,fun i hi=> ?_⟩;obtain⟨o,h1,h2,h3⟩:=(lZ listed i hl).1 hi;have j7:i<ops.length:=(List.getElem?_eq_some_iff.1 h1).1;have mK:pE ops.length (listed.setIfInBounds i true)=fun j=>bif Nat.beq j i then true else pE ops.length listed j:=by
   funext j;by_cases c:j=i
   ·subst c;have h4:Nat.blt j ops.length=true:=Nat.ble_eq_true_of_le j7;simp[pE,h4,hl,j7]
   rw[kQ c];simp[pE,Array.getElem?_setIfInBounds_ne (Ne.symm c)]
  refine x0u Fv hd dF hC eP (fun j hj=> ?_) kV h1 h2 h3 lS lF (fun a' w' jG=> ?_)
  ·simp only[pE,Bool.and_eq_true] at hj;exact Nat.lt_of_succ_le (Nat.le_of_ble_eq_true hj.1)
  refine ih _ a' w' (by simpa using hl) ?_ ?_ (by rw[mK];exact jG)
  ·have PZ:i<listed.toList.length:=by simp;omega
   have hli:listed.toList[i]=false:=by
    have:=oZ listed i hl j7;rw[h2] at this;have PY:i<listed.size:=oM;simpa[PY] using this
   rw[Array.toList_setIfInBounds,List.count_set PZ,hli,Ie];simp
  rw[mK];intro j o' bR hj e he hb;by_cases c:j=i
  ·subst c;rw[h1] at bR;cases bR;have:=h3 e he hb;simp only[this];cases Nat.beq e.on j<;>rfl
  simp only[kQ c,cond_false] at hj;have:=kV j o' bR hj e he hb;simp only[this];cases Nat.beq e.on i<;>rfl
theorem x0v{n:Nat}{ops:List Oper}{fC:List (Nat×eW)}{keys:List Nat}{s s':St}{C:List Prop}(hm:P.follows .mixedOrders=true)(h:EY P n ops true fC keys s=some (s',C))(hC:b8 C){m:Place}{a:Act}{w:World}(hs:Rel F n s m a w)
 {Q:Exit->Act->World->Prop} (hQ:∀m' a' w',Rel F n s' m' a' w'->aK F s.st m w s'.st m' w'->Q .normal a' w') (id:Nat):(Code.region id ops.toArray true).wpIn (fw F) 0 P Q a w:=by
 unfold EY at h;split at h;rotate_left
 ·cases h
 rename_i s2 rs cQ;obtain⟨h1,h2⟩:=gL h;simp only[Bool.and_eq_true,Bool.not_true,Bool.false_or] at h1;simp only[Option.some.injEq,Prod.mk.injEq] at h2;obtain⟨rfl,rfl⟩:=h2;have Fv:=VV ops 0 s s2 rs cQ;obtain⟨hlen,⟨AF,V8⟩,hsj⟩:=PU ops 0 s s2 rs Fv;refine wpIn_region_any hm ?_;have vX:aK F s.st m w s.st m w.drew:=⟨rfl,rfl,rfl,Nat.le_refl _,fun _ _ _=>rfl,fun id o h=>⟨o,h,Nat.le_refl _,fun _=>rfl,fun h=>h,fun _ q=> .inl q,o.dw⟩,fun id o h h'=>by rw[h'] at h;cases h⟩
 have fV:ops.toArray.size=ops.length:=sM;have DJ:∀j,pE ops.length (Array.replicate ops.length false) j=false:=by
  intro j;simp only[pE];cases hb:Nat.blt j ops.length with
  |false=>rfl
  |true=>
   have:j<ops.length:=Nat.lt_of_succ_le (Nat.le_of_ble_eq_true hb);simp[this]
 have l0:∀{β:Type} (d:β) (f:Nat->Option β) k,(∀j,j<k->f j=none)->look d f k=d:=fun d f k hf=>Ft (i:=0) (Nat.zero_le _) (fun j _ hj=>hf j hj)
 have DK:vi ops rs s (pE ops.length (Array.replicate ops.length false))=s.st:=by
  funext id;exact l0 _ _ _ (fun j _=>by rw[DJ];rfl)
 have P0:∀t,A6 ops rs s (pE ops.length (Array.replicate ops.length false)) t=get s.sl t:=fun t=>l0 _ _ _ (fun j _=>by rw[DJ];rfl)
 have key:=y8N (P:=P) (F:=F) (N:=n) (ds:=a.defers) (m0:=m) (w0:=w) (Q:=Q) Fv h1.1 h1.2 hC hs.fresh hs.eH (fun E a' w' hE hr=>by
  obtain⟨⟨m',q1,q2,q3⟩,q4,q5⟩:=hr;have bH:vi ops rs s E=s2.st:=by
   funext id;rw[V8 id];exact A5 (fun j hj=>by rw[hE j hj];rfl)
  have iY:∀t,A6 ops rs s E t=get s2.sl t:=fun t=>by
   rw[AF t];exact A5 (fun j hj=>by rw[hE j hj];rfl)
  rw[bH] at q1 q2 q3;refine hQ m' a' w' ⟨we.bW (fun t=>by rw[<-iY t];exact q1 t) keys,q4,by rw[q5];exact hs.defers.ext q3,q2,fun id bn=> ?_⟩ q3;simp only at bn|-;rw[V8 id];rw[l0 _ _ _ (fun j hj=> ?_)]
  ·exact hs.fresh id oM
  refine Fu (fun r hr kC=> ?_);obtain⟨sj,_,hw,_⟩:=hsj j ops[j] r (List.getElem?_eq_getElem hj) hr;obtain⟨x,hx,rfl⟩:=List.mem_map.1 kC;have:=Nat.lt_of_succ_le (Nat.le_of_ble_eq_true (List.all_eq_true.1 hw x hx));omega) ops.length (Array.replicate ops.length false) a {w with drawn:=w.drawn+1} sM sM (fun j o ho hj=>by rw[DJ] at hj;cases hj) ?_
 ·rw[fV];exact key
 refine⟨⟨m,fun t=> ?_,?_,?_⟩,hs.size,rfl⟩
 ·rw[DK,P0];exact vX.val (hs.dS t)
 ·rw[DK];exact⟨fun id o h=>(hs.eH.cN id o h).cF vX (fun _ _=>rfl),hs.eH.inj,hs.eH.eD,hs.eH.lt,hs.eH.low,hs.eH.held vX⟩
 rw[DK];exact vX
end Go.Ab
end
section
namespace Go.Ab
variable {P:Program} {w:World} {F:eL P} {S st:bQ} {m:Place}
def lk:List (Nat×Nat)->Nat->Option Nat
 | [],_=>none
 | (i,j)::l,x=>bif Nat.beq i x then some j else lk l x
mutual
def iq (τ : List (Nat × Nat)) : aJ -> Option aJ
  | .t T => some (.t T)
  | .aF id n => (lk τ id).map (.aF · n)
  | .ptr id off => (lk τ id).map (.ptr · off)
  | .cM id n i sub => (lk τ id).map (.cM · n i sub)
  | .ec cs => some (.ec cs)
  | .agg cs => (mP τ cs).map .agg
  | .fn f cap => (mP τ cap).map (.fn f)
  | .aZ vs => (mP τ vs).map .aZ
  | .cond c v => (iq τ v).map (.cond c)
  | .cZ id => (lk τ id).map .cZ
  | .eG id i => (lk τ id).map (.eG · i)
  | .eZ => some .eZ
  | .kS => some .kS
  | .tail id n i => (lk τ id).map (.tail · n i)
  | .fO id => (lk τ id).map .fO
  | .xl k xs => some (.xl k xs)
  | .yl id => (lk τ id).map .yl
  | .jv id n => (lk τ id).map (.jv · n)
  | .cH => some .cH
def mP(τ:List (Nat×Nat)):List aJ->Option (List aJ)
 | []=>some []
 |v::l=>match iq τ v,mP τ l with
  |some v',some l'=>some (v'::l')
  |_,_=>none
end
def iA(τ:List (Nat×Nat)):Ob->Option Ob
 | .box cs=>(mP τ cs).map .box
 | .aF k fz xs=>some (.aF k fz xs)
 | .cZ fz xs none=>some (.cZ fz xs none)
 | .cZ fz xs (some (i,r,n))=>(lk τ r).map fun j=> .cZ fz xs (some (i,j,n))
 | .gone=>some .gone
 | .fo s pos=>some (.fo s pos)
 | .mp es none=>some (.mp es none)
 | .mp es (some (k,v))=>(iq τ v).map fun v'=> .mp es (some (k,v'))
 | .fG iJ n seen=>(lk τ iJ).map fun j=> .fG j n seen
 | .ext Y pre=>some (.ext Y pre)
theorem P3{τ:List (Nat×Nat)}{es:List (Int×MV)}{h:Option (Int×aJ)}{o':Ob}(ho:iA τ (.mp es h)=some o'):∃h',o'= .mp es h':=by
 cases h with
 |none=>simp only[iA,qb] at ho;exact⟨none,ho.symm⟩
 |some q=>
  obtain⟨k,v⟩:=q;simp only[iA,qe] at ho;obtain⟨v',_,rfl⟩:=ho;exact⟨_,rfl⟩
theorem x3H{τ:List (Nat×Nat)}{o o':Ob}{b:Nat}{u:Value}(ho:iA τ o=some o')(hu:Ay o b=some u):Ay o' b=some u:=by
 cases o with
 |fo s pos=>simp only[iA,qb] at ho;subst ho;exact hu
 |mp es h=>obtain⟨h',rfl⟩:=P3 ho;exact hu
 |fG iJ n s=>simp only[iA,qe] at ho;obtain⟨j,_,rfl⟩:=ho;exact hu
 |_=>simp[Ay] at hu
theorem P4{τ:List (Nat×Nat)}{fz:Bool}{xs:List Tree}{hh:Option (Nat×Nat×Nat)}{o':Ob}(h:iA τ (.cZ fz xs hh)=some o'):∃wL,o'= .cZ fz xs wL:=by
 cases hh with
 |none=>simp only[iA,qb] at h;exact⟨none,h.symm⟩
 |some q=>
  obtain⟨i,r,n⟩:=q;simp only[iA,qe] at h;obtain⟨j,_,rfl⟩:=h;exact⟨_,rfl⟩
def jH(τ:List (Nat×Nat))(st:bQ):List (Nat×Nat)->Option (List (Nat×Ob))
 | []=>some []
 | (i,j)::l=>match st i with
  |some o=>match iA τ o,jH τ st l with
   |some o',some r=>some ((j,o')::r)
   |_,_=>none
  |none=>none
def z60(τ:List (Nat×Nat))(sl:List (Nat×aJ)):List Nat->Option (List (Nat×aJ))
 | []=>some []
 |k::l=>match iq τ (get sl k),z60 τ sl l with
  |some v,some r=>some ((k,v)::r)
  |_,_=>none
def z24:List Nat->Bool
 | []=>true
 |i::l=> !(lN l i)&&z24 l
def DL(l0:List (Nat×Ob))(τ:List (Nat×Nat))(keys:List Nat)(nx:Nat)(s:St):Option (List (Nat×aJ)×List (Nat×Ob)):=
 bif z24 (τ.map (·.1))&&z24 (τ.map (·.2))&&τ.all (fun p=>Nat.blt p.2 nx)&&l0.all (fun x=>match lk τ x.1 with|some j=>Nat.beq j x.1|none=>false) then
  match jH τ s.st τ,z60 τ s.sl keys with
  |some l,some sl=>some (sl,l)
  |_,_=>none
 else none
theorem Ig:∀{τ:List (Nat×Nat)} {i j:Nat},lk τ i=some j->(i,j)∈τ
 | [],i,j,h=>by simp[lk] at h
 | (a,b)::τ,i,j,h=>by
  simp only[lk] at h;by_cases e:a=i
  ·subst e;simp at h;subst h;simp
  rw[kQ e] at h;exact qR _ (Ig h)
def Ren(τ:List (Nat×Nat))(st st':bQ)(m m':Place):Prop:=∀i j,lk τ i=some j->∀o,st i=some o->(∃o',iA τ o=some o'/\st' j=some o')/\m' j=m i
theorem DM{τ:List (Nat×Nat)}:∀{l l':List aJ},mP τ l=some l'->l'.length=l.length/\∀(i:Nat) (v':aJ),l'[i]? =some v'->∃v,l[i]? =some v/\iq τ v=some v'
 | [],l',h=>by
  simp only[mP,qb] at h;subst h;exact⟨rfl,fun i v' h=>by simp at h⟩
 |v::l,l',h=>by
  simp only[mP] at h;split at h;rotate_left
  ·cases h
  rename_i v1 l1 h1 h2;simp only[qb] at h;subst h;obtain⟨k1,k2⟩:=DM h2;refine⟨by simp[k1],fun i v' hv=> ?_⟩;cases i with
  |zero=>simp at hv;subst hv;exact⟨v,rfl,h1⟩
  |succ i=>simp at hv;simpa using k2 i v' hv
theorem aO.nX{τ:List (Nat×Nat)}{st':bQ}{m':Place}{ok ok':Nat->Prop}(hR:Ren τ S st' m m')(dF:∀b,ok b->ok' b){v:aJ}{u:Value}(h:aO S m w ok v u):
 ∀{v':aJ},iq τ v=some v'->aO st' m' w ok' v' u:=by
 induction h with
 |t T u hT=>intro v' h;simp only[iq,qb] at h;subst h;exact .t T u (hT.mono dF (fun _ _ _ _ h=>h))
 |xl k xs u hT hc=>intro v' h;simp only[iq,qb] at h;subst h;exact .xl k xs u (hT.mono dF (fun _ _ _ _ h=>h)) hc
 |aF id n k fz xs L h1 h2 h3=>
  intro v' h;simp only[iq,qe] at h;obtain⟨j,hj,rfl⟩:=h;obtain⟨⟨o',bR,hs⟩,hm⟩:=hR id j hj _ h1;simp only[iA,qb] at bR;subst bR;exact .aF j n k fz xs L hs h2 (fun e=>by rw[hm];exact h3 e)
 |ptr id off cs b h1 h2=>
  intro v' h;simp only[iq,qe] at h;obtain⟨j,hj,rfl⟩:=h;obtain⟨⟨o',bR,hs⟩,hm⟩:=hR id j hj _ h1;simp only[iA,qe] at bR;obtain⟨iK,_,rfl⟩:=bR;exact .ptr j off iK b hs (by rw[hm];exact h2)
 |jv id n cs b h1 h2=>
  intro v' h;simp only[iq,qe] at h;obtain⟨j,hj,rfl⟩:=h;obtain⟨⟨o',bR,hs⟩,hm⟩:=hR id j hj _ h1;simp only[iA,qe] at bR;obtain⟨iK,_,rfl⟩:=bR;exact .jv j n iK b hs (by rw[hm];exact h2)
 |iT id n L h1=>
  intro v' h;simp only[iq,qe] at h;obtain⟨j,hj,rfl⟩:=h;obtain⟨⟨o',bR,hs⟩,hm⟩:=hR id j hj _ h1;simp only[iA,qb] at bR;subst bR;exact .iT j n L hs
 |cM id n i sub k fz xs b h1 h2 h3=>
  intro v' h;simp only[iq,qe] at h;obtain⟨j,hj,rfl⟩:=h;obtain⟨⟨o',bR,hs⟩,hm⟩:=hR id j hj _ h1;simp only[iA,qb] at bR;subst bR;exact .cM j n i sub k fz xs b hs h2 (fun e=>by rw[hm];exact h3 e)
 |cZ id fz xs hh L h1 h2=>
  intro v' h;simp only[iq,qe] at h;obtain⟨j,hj,rfl⟩:=h;obtain⟨⟨o',bR,hs⟩,hm⟩:=hR id j hj _ h1;obtain⟨wL,rfl⟩:=P4 bR;exact .cZ j fz xs wL L hs (by rw[hm];exact h2)
 |eG id i fz xs hh b h1 h2=>
  intro v' h;simp only[iq,qe] at h;obtain⟨j,hj,rfl⟩:=h;obtain⟨⟨o',bR,hs⟩,hm⟩:=hR id j hj _ h1;obtain⟨wL,rfl⟩:=P4 bR;exact .eG j i fz xs wL b hs (by rw[hm];exact h2)
 |fH id n L h1=>
  intro v' h;simp only[iq,qe] at h;obtain⟨j,hj,rfl⟩:=h;obtain⟨⟨o',bR,hs⟩,hm⟩:=hR id j hj _ h1;simp only[iA,qb] at bR;subst bR;exact .fH j n L hs
 |eT id n i sub b o h1=>
  intro v' h;simp only[iq,qe] at h;obtain⟨j,hj,rfl⟩:=h;obtain⟨⟨o',bR,hs⟩,hm⟩:=hR id j hj _ h1;simp only[iA,qb] at bR;subst bR;exact .eT j n i sub b o hs
 |eZ b=>intro v' h;simp only[iq,qb] at h;subst h;exact .eZ b
 |kS t u=>intro v' h;simp only[iq,qb] at h;subst h;exact .kS t u
 |tail id n i k fz xs L h1 h2 h3 h4=>
  intro v' h;simp only[iq,qe] at h;obtain⟨j,hj,rfl⟩:=h;obtain⟨⟨o',bR,hs⟩,hm⟩:=hR id j hj _ h1;simp only[iA,qb] at bR;subst bR;exact .tail j n i k fz xs L hs h2 h3 (fun e=>by rw[hm];exact h4 e)
 |fP id n i k L h1=>
  intro v' h;simp only[iq,qe] at h;obtain⟨j,hj,rfl⟩:=h;obtain⟨⟨o',bR,hs⟩,hm⟩:=hR id j hj _ h1;simp only[iA,qb] at bR;subst bR;exact .fP j n i k L hs
 |fO id o b u h1 h2 h3=>
  intro v' h;simp only[iq,qe] at h;obtain⟨j,hj,rfl⟩:=h;obtain⟨⟨o',bR,hs⟩,hm⟩:=hR id j hj _ h1;exact .fO j _ b u hs (by rw[hm];exact h2) (x3H bR h3)
 |gN id off b h1=>
  intro v' h;simp only[iq,qe] at h;obtain⟨j,hj,rfl⟩:=h;obtain⟨⟨o',bR,hs⟩,hm⟩:=hR id j hj _ h1;simp only[iA,qb] at bR;subst bR;exact .gN j off b hs
 |yl id Y pre h1=>
  intro v' h;simp only[iq,qe] at h;obtain⟨j,hj,rfl⟩:=h;obtain⟨⟨o',bR,hs⟩,hm⟩:=hR id j hj _ h1;simp only[iA,qb] at bR;subst bR;exact .yl j Y pre hs
 |ec cs b o us h1 h2 h3 h4 h5=>
  intro v' h;simp only[iq,qb] at h;subst h;exact .ec cs b o us (dF _ h1) h2 h3 h4 (fun j T u a b=>(h5 j T u a b).mono dF (fun _ _ _ _ h=>h))
 |agg cs us h1 _ h3 ih=>
  intro v' h;simp only[iq,qe] at h;obtain⟨l,hl,rfl⟩:=h;obtain⟨k1,k2⟩:=DM hl;refine .agg l us (by rw[h1,k1]) (fun i v' u hv hu=> ?_) h3;obtain⟨v,rz,mQ⟩:=k2 i v' hv;exact ih i v u rz hu mQ
 |fn f cap us h1 _ ih=>
  intro v' h;simp only[iq,qe] at h;obtain⟨l,hl,rfl⟩:=h;obtain⟨k1,k2⟩:=DM hl;refine .fn f l us (by rw[h1,k1]) (fun i v' u hv hu=> ?_);obtain⟨v,rz,mQ⟩:=k2 i v' hv;exact ih i v u rz hu mQ
 |aZ vs us h1 _ ih=>
  intro v' h;simp only[iq,qe] at h;obtain⟨l,hl,rfl⟩:=h;obtain⟨k1,k2⟩:=DM hl;refine .aZ l us (by rw[h1,k1]) (fun i v' u hv hu=> ?_);obtain⟨v,rz,mQ⟩:=k2 i v' hv;exact ih i v u rz hu mQ
 |cond c v u _ h0 ih=>
  intro v' h;simp only[iq,qe] at h;obtain⟨v1,rz,rfl⟩:=h;exact .cond c v1 u (fun e=>ih e rz) h0
 |cH u=>intro v' h;simp only[iq,qb] at h;subst h;exact .cH u
theorem Fx{l:List Nat}:z24 l=true↔l.Nodup:=by
 induction l with
 |nil=>simp[z24]
 |cons i l ih=>
  simp only[z24,qq,zf,List.nodup_cons,ih];constructor
  ·rintro⟨h1,h2⟩;exact⟨fun hm=>(by rw[pS.2 hm] at h1;cases h1),h2⟩
  rintro⟨h1,h2⟩;refine⟨?_,h2⟩;cases hh:lN l i with
  |false=>rfl
  |true=>exact absurd (pS.1 hh) h1
def inv(τ:List (Nat×Nat)):List (Nat×Nat):=τ.map fun p=>(p.2,p.1)
theorem K5:∀{τ:List (Nat×Nat)},(τ.map (·.1)).Nodup->∀{i j:Nat},(i,j)∈τ->lk τ i=some j
 | [],_,i,j,h=>by simp at h
 | (a,b)::τ,hn,i,j,h=>by
  simp only[qU,List.nodup_cons] at hn;simp only[qg,qD] at h;simp only[lk];rcases h with⟨rfl,rfl⟩|h
  ·simp
  have:a≠i:=fun e=>hn.1 (e▸qO.2 ⟨(i,j),h,rfl⟩)
  rw[kQ this];exact K5 hn.2 h
theorem Cw{τ:List (Nat×Nat)}(h2:(τ.map (·.2)).Nodup){i j:Nat}(h:lk τ i=some j):lk (inv τ) j=some i:=by
 refine K5 (by simpa[inv,Function.comp_def] using h2) ?_;exact qO.2 ⟨(i,j),Ig h,rfl⟩
theorem V9{τ:List (Nat×Nat)}:∀{l:List (Nat×Nat)} {r:List (Nat×Ob)},jH τ S l=some r->r.map (·.1)=l.map (·.2)/\
 ∀i j,(i,j)∈l->∃o o',S i=some o/\iA τ o=some o'/\(j,o')∈r
 | [],r,h=>by
  simp only[jH,qb] at h;subst h;exact⟨rfl,fun i j h=>by simp at h⟩
 | (a,b)::l,r,h=>by
  simp only[jH] at h;split at h;rotate_left
  ·cases h
  rename_i o ho;split at h;rotate_left
  ·cases h
  rename_i o' r' h1 h2;simp only[qb] at h;subst h;obtain⟨k1,k2⟩:=V9 h2;refine⟨by simp[k1],fun i j jr=> ?_⟩;simp only[qg,qD] at jr;rcases jr with⟨rfl,rfl⟩|jr
  ·exact⟨o,o',ho,h1,sM⟩
  obtain⟨o1,o2,q1,q2,q3⟩:=k2 i j jr;exact⟨o1,o2,q1,q2,by simp[q3]⟩
theorem P5{S:bQ}:∀{l:List (Nat×Ob)},(l.map (·.1)).Nodup->∀{i:Nat} {o:Ob},(i,o)∈l->app S l i=some o
 | [],_,i,o,h=>by simp at h
 | (a,b)::l,hn,i,o,h=>by
  simp only[qU,List.nodup_cons] at hn;simp only[qg,qD] at h;simp only[app];rcases h with⟨rfl,rfl⟩|h
  ·rw[tv hn.1,iV]
  exact P5 hn.2 h
theorem z25{l:List (Nat×Ob)}{i:Nat}{o:Ob}(h:app emp l i=some o):i∈l.map (·.1):=by
 by_cases hm:i∈l.map (·.1)
 ·exact hm
 rw[tv hm] at h;cases h
theorem mZ.nX {τ : List (Nat × Nat)} {st' : bQ} {m' : Place} {ok ok' : Nat -> Prop} (hR : Ren τ S st' m m') (dF : ∀ b, ok b -> ok' b) {o o' : Ob} {L : Option Nat × Nat} {g : List Nat} (h : mZ S m w ok o L g) (ho : iA τ o = some o') : mZ st' m' w ok' o' L g := by
  cases o with
  | box cs =>
    simp only [iA, qe] at ho
    obtain ⟨iK, mh, rfl⟩ := ho
    obtain ⟨k1, k2⟩ := DM mh
    obtain ⟨b, us, e, h1, h2, h3, h4⟩ := h
    refine ⟨b, us, e, h1, h2, by rw [h3, k1], fun i v' u hv hu => ?_⟩
    obtain ⟨v, rz, mQ⟩ := k2 i v' hv
    obtain ⟨q1, q2⟩ := h4 i v u rz hu
    exact ⟨q1.nX hR dF mQ, q2⟩
  | cZ fz xs hh =>
    obtain ⟨⟨b, us, e, h1, h2, h3, h4⟩, q⟩ := h
    cases hh with
    | none =>
      simp only [iA, qb] at ho
      subst ho
      refine ⟨⟨b, us, e, h1, h2, h3, fun i v' u hv hu => ?_⟩, q⟩
      obtain ⟨q1, q2⟩ := h4 i v' u hv hu
      refine ⟨q1.nX hR dF ?_, q2⟩
      obtain ⟨T, _, rfl⟩ := qO.1 (qr hv)
      rfl
    | some p =>
      obtain ⟨k, r, n⟩ := p
      simp only [iA, qe] at ho
      obtain ⟨j, hj, rfl⟩ := ho
      refine ⟨⟨b, us, e, h1, h2, by rw [h3, yK, yK], fun i v' u hv hu => ?_⟩, q⟩
      simp only [mY, zz] at hv
      split at hv
      · rename_i xI
        split at hv
        · rename_i fQ
          simp only [qb] at hv
          subst hv; subst xI
          obtain ⟨q1, q2⟩ := h4 k (.aF r n) u (by simp only [mY, zz, if_true]; rw [if_pos fQ]) hu
          exact ⟨q1.nX hR dF (by simp [iq, hj]), q2⟩
        · cases hv
      · rename_i xI
        obtain ⟨q1, q2⟩ := h4 i v' u (by simp only [mY, zz]; rw [if_neg xI]; exact hv) hu
        refine ⟨q1.nX hR dF ?_, q2⟩
        obtain ⟨T, _, rfl⟩ := qO.1 (qr hv)
        rfl
  | aF k fz xs =>
    simp only [iA, qb] at ho
    subst ho
    obtain ⟨a1, a2, a3, a4, a5⟩ := h
    refine ⟨a1, a2, a3, a4, a5.imp (fun h => h) ?_⟩
    rintro ⟨b, us, e, h1, h2, h3, h4, h5⟩
    exact ⟨b, us, e, h1, h2, h3, h4, fun j T u p q => (h5 j T u p q).mono dF (fun _ _ _ _ h => h)⟩
  | gone =>
    simp only [iA, qb] at ho
    subst ho
    exact h
  | fo s pos =>
    simp only [iA, qb] at ho
    subst ho
    exact h
  | mp es hh =>
    obtain ⟨b, bJ, bl, h1, h2, h3, h4, h5, h6, h7⟩ := h
    cases hh with
    | none =>
      simp only [iA, qb] at ho
      subst ho
      refine ⟨b, bJ, bl, h1, h2, h3, h4, h5, h6, fun i x e p q => ?_⟩
      obtain ⟨q1, q2, q3⟩ := h7 i x e p q
      exact ⟨q1, q2, mG.tq dF q3⟩
    | some q =>
      obtain ⟨k, v⟩ := q
      simp only [iA, qe] at ho
      obtain ⟨v', hv, rfl⟩ := ho
      refine ⟨b, bJ, bl, h1, h2, h3, h4, h5, h6, fun i x e p q => ?_⟩
      obtain ⟨q1, q2, q3⟩ := h7 i x e p q
      exact ⟨q1, q2, fun e => ⟨(q3.1 e).1.nX hR dF hv, (q3.1 e).2⟩, fun e => (q3.2 e).tq dF⟩
  | fG iJ n seen =>
    simp only [iA, qe] at ho
    obtain ⟨j, hj, rfl⟩ := ho
    obtain ⟨b, bm, h1, h2, ⟨es, hh, h3⟩, h4⟩ := h
    obtain ⟨⟨o', bR, hs⟩, hm⟩ := hR iJ j hj _ h3
    obtain ⟨wL, rfl⟩ := P3 bR
    exact ⟨b, bm, h1, by rw [hm]; exact h2, ⟨_, _, hs⟩, h4⟩
  | ext Y pre =>
    simp only [iA, qb] at ho
    subst ho
    exact ⟨h.1, h.2.1, fun b hD => dF b (h.2.2 b hD)⟩
theorem DO{τ:List (Nat×Nat)}{o o':Ob}(h:iA τ o=some o'):o.len=o'.len/\o.live=o'.live/\o.same o':=by
 cases o with
 |box cs=>
  simp only[iA,qe] at h;obtain⟨iK,mh,rfl⟩:=h;obtain⟨k1,k2⟩:=DM mh;exact⟨rfl,rfl,k1.symm⟩
 |cZ fz xs hh=>
  obtain⟨wL,rfl⟩:=P4 h;exact⟨rfl,rfl,rfl⟩
 |aF k fz xs=>
  simp only[iA,qb] at h;subst h;exact⟨rfl,rfl,rfl⟩
 |gone=>
  simp only[iA,qb] at h;subst h;exact⟨rfl,rfl,trivial⟩
 |fo s pos=>
  simp only[iA,qb] at h;subst h;exact⟨rfl,rfl,trivial⟩
 |mp es hh=>
  obtain⟨wL,rfl⟩:=P3 h;exact⟨rfl,rfl,trivial⟩
 |fG iJ n s=>
  simp only[iA,qe] at h;obtain⟨j,hj,rfl⟩:=h;exact⟨rfl,rfl,trivial⟩
 |ext Y pre=>
  simp only[iA,qb] at h;subst h;exact⟨rfl,rfl,rfl⟩
def sF(τ:List (Nat×Nat))(m:Place):Place:=⟨fun j=>match lk (inv τ) j with|some i=>m i|none=>(none,0),fun j=>match lk (inv τ) j with|some i=>m.g i|none=>[]⟩
theorem K6{τ:List (Nat×Nat)}{r:List (Nat×Ob)}(h1:(τ.map (·.1)).Nodup)(h2:(τ.map (·.2)).Nodup)(hr:jH τ S τ=some r):
 Ren τ S (app emp r) m (sF τ m)/\(∀j o',app emp r j=some o'->∃i o,lk τ i=some j/\S i=some o/\iA τ o=some o'/\sF τ m j=m i/\(sF τ m).g j=m.g i):=by
 obtain⟨k1,k2⟩:=V9 hr;have nN:(r.map (·.1)).Nodup:=by rw[k1];exact h2
 have tW:∀i j,lk τ i=some j->sF τ m j=m i:=fun i j h=>by simp only[sF,Cw h2 h]
 have hpg:∀i j,lk τ i=some j->(sF τ m).g j=m.g i:=fun i j h=>by simp only[sF,Cw h2 h]
 refine⟨fun i j jr o ho=> ?_,fun j o' bR=> ?_⟩
 ·obtain⟨o1,o2,q1,q2,q3⟩:=k2 i j (Ig jr);rw[ho] at q1;cases q1;exact⟨⟨o2,q2,P5 nN q3⟩,tW i j jr⟩
 have hm:=z25 bR;rw[k1] at hm;obtain⟨p,hp,rfl⟩:=qO.1 hm;have hl:=K5 h1 (i:=p.1) (j:=p.2) hp;obtain⟨o1,o2,q1,q2,q3⟩:=k2 p.1 p.2 hp;have:=P5 (S:=emp) nN q3;rw[bR] at this;cases this;exact⟨p.1,o1,hl,q1,q2,tW _ _ hl,hpg _ _ hl⟩
theorem Ba{m m':Place}{i j b:Nat}(h1:m' j=m i)(h2:m'.g j=m.g i):m'.has j b↔m.has i b:=by unfold Place.has;rw[h1,h2]
theorem Fy{τ:List (Nat×Nat)}(h2:(τ.map (·.2)).Nodup){i j b:Nat}(h:lk τ i=some j):(sF τ m).has j b↔m.has i b:=Ba (by simp only[sF,Cw h2 h]) (by simp only[sF,Cw h2 h])
theorem aY.nX{τ:List (Nat×Nat)}{r:List (Nat×Ob)}(hS:aY F S m w)(h1:(τ.map (·.1)).Nodup)(h2:(τ.map (·.2)).Nodup)(hr:jH τ S τ=some r):
 aY F (app emp r) (sF τ m) w/\∀b,okB F S m w b->okB F (app emp r) (sF τ m) w b:=by
 obtain⟨hR,hb⟩:=K6 (m:=m) h1 h2 hr;have dF:∀b,okB F S m w b->okB F (app emp r) (sF τ m) w b:=by
  rintro b ⟨b1,b2,b3⟩;refine⟨b1,b2,fun j o' bR hl hm=> ?_⟩;obtain⟨i,o,q1,q2,q3,q4,q5⟩:=hb j o' bR;rw[Ba q4 q5] at hm;exact b3 i o q2 (by rw[(DO q3).2.1];exact hl) hm
 refine⟨⟨fun j o' bR=> ?_,fun j j' oj Tq b hj lQ Fz xT=> ?_,fun j o' b bR hm hf=> ?_,fun j o' b bR hm=> ?_,hS.low,hS.hold⟩,dF⟩
 ·obtain⟨i,o,q1,q2,q3,q4,q5⟩:=hb j o' bR;rw[q4,q5];exact(hS.cN i o q2).nX hR dF q3
 ·obtain⟨i,o,q1,q2,q3,q4,q5⟩:=hb j oj hj;obtain⟨i',o',Ih,K7,Wa,P6,q5'⟩:=hb j' Tq lQ;rw[Ba q4 q5] at Fz;rw[Ba P6 q5'] at xT;have:=hS.inj i i' o o' b q2 K7 Fz xT;subst this;rw[q1] at Ih;cases Ih;rfl
 ·obtain⟨i,o,q1,q2,q3,q4,q5⟩:=hb j o' bR;rw[Ba q4 q5] at hm;exact hS.eD i o b q2 hm hf
 obtain⟨i,o,q1,q2,q3,q4,q5⟩:=hb j o' bR;rw[Ba q4 q5] at hm;exact hS.lt i o b q2 hm
theorem Wb{τ:List (Nat×Nat)}{sl:List (Nat×aJ)}:∀{keys:List Nat} {r:List (Nat×aJ)},z60 τ sl keys=some r->∀t,get r t= .cH\/iq τ (get sl t)=some (get r t)
 | [],r,h,t=>by
  simp only[z60,qb] at h;subst h;exact .inl rfl
 |k::keys,r,h,t=>by
  simp only[z60] at h;split at h;rotate_left
  ·cases h
  rename_i v r' h1 h2;simp only[qb] at h;subst h;simp only[get];by_cases e:k=t
  ·subst e;right;simpa using h1
  rw[kQ e];exact Wb h2 t
def gm(P:Program)(n:Nat)(l0:List (Nat×Ob))(c:Code)(s:St)(Q:Exit->St->Prop):Prop:=
 ∀(F:eL P) (m0:Place) (w0:World) (m:Place) (a:Act) (w:World),aY F (app emp l0) m0 w0->Rel F n s m a w->aK F (app emp l0) m0 w0 s.st m w->
  c.wpIn (fw F) 0 P (fun e a' w'=> ∃s' m',Rel F n s' m' a' w'/\aK F (app emp l0) m0 w0 s'.st m' w'/\Q e s') a w
def nY(P:Program)(n:Nat)(l0:List (Nat×Ob))(c:Code)(s:St)(Q:Exit->St->Prop):Prop:=
 ∀(F:eL P) (m0:Place) (w0:World) (m:Place) (a:Act) (w:World),aY F (app emp l0) m0 w0->Rel F n s m a w->aK F (app emp l0) m0 w0 s.st m w->
  ∀(b:Frame) (k:List Item) (cs:List Frame),b.roundOf=F.BQ->∃e a' w',(∃s' m',Rel F n s' m' a' w'/\aK F (app emp l0) m0 w0 s'.st m' w'/\Q e s')/\
   ArrivesIn (Machine.fenced P (fw F)) P (lone (b.atR a (.code c:: .inLoop c::k)) cs w) b k cs e a' w'
theorem x6I{F:eL P}(n:Nat):(fw F).room n:=fun d h=>by simp[fw,Fence.wide] at h
variable {n:Nat} {l0:List (Nat×Ob)} {s:St} {Q:Exit->St->Prop}
def andThen(R:St->Prop)(Q:Exit->St->Prop):Exit->St->Prop
 | .normal,s=>R s
 |e,s=>Q e s
def FA(id:Nat)(Q:Exit->St->Prop):Exit->St->Prop
 | .exit i,s=>if i=id then Q .normal s else Q (.exit i) s
 |e,s=>Q e s
theorem gm.seq{x y:Code}(h:gm P n l0 x s (andThen (fun s'=>gm P n l0 y s' Q) Q)):gm P n l0 (.seq x y) s Q:=by
 intro F m0 w0 m a w h0 h1 h2;refine wpIn_seq (wpIn_mono (h F m0 w0 m a w h0 h1 h2) ?_);rintro e a' w' ⟨s',m',q1,q2,q3⟩;cases e with
 |normal=>exact q3 F m0 w0 m' a' w' h0 q1 q2
 |_=>exact⟨s',m',q1,q2,q3⟩
theorem gm.skip(h:Q .normal s):gm P n l0 .skip s Q:=fun F m0 w0 m a w h0 h1 h2=>wpIn_skip ⟨s,m,h1,h2,h⟩
theorem gm.ret(h:Q .ret s):gm P n l0 .ret s Q:=fun F m0 w0 m a w h0 h1 h2=>wpIn_ret ⟨s,m,h1,h2,h⟩
theorem gm.exit{id:Nat}(h:Q (.exit id) s):gm P n l0 (.exit id) s Q:=fun F m0 w0 m a w h0 h1 h2=>wpIn_exit ⟨s,m,h1,h2,h⟩
theorem gm.block{id:Nat}{c:Code}(h:gm P n l0 c s (FA id Q)):gm P n l0 (.block id c) s Q:=by
 intro F m0 w0 m a w h0 h1 h2;refine wpIn_block (wpIn_mono (h F m0 w0 m a w h0 h1 h2) ?_);rintro e a' w' ⟨s',m',q1,q2,q3⟩;cases e with
 |exit i=>
  simp only[FA] at q3;simp only[Exit.inBlock];split
  ·rename_i hi;rw[if_pos hi] at q3;exact⟨s',m',q1,q2,q3⟩
  rename_i hi;rw[if_neg hi] at q3;exact⟨s',m',q1,q2,q3⟩
 |_=>exact⟨s',m',q1,q2,q3⟩
theorem gm.cond{c:Operand}{x y:Code}{b:Bool}(hb:ev s.sl c= .t (.sc (.bool b)))(ht:b=true->gm P n l0 x s Q)(hf:b=false->gm P n l0 y s Q):gm P n l0 (.cond c x y) s Q:=by
 intro F m0 w0 m a w h0 h1 h2;have hv:aO s.st m w (okB F s.st m w) (ev s.sl c) (a.eval c):=PL (fun t _=>h1.dS t);rw[hb] at hv;have:=aO.bq hv;exact wpIn_cond_split this (fun e=>ht e F m0 w0 m a w h0 h1 h2) (fun e=>hf e F m0 w0 m a w h0 h1 h2)
theorem gm.Bb{c:Operand}{x y:Code}(hb:ev s.sl c= .eZ)(ht:gm P n l0 x s Q)(hf:gm P n l0 y s Q):gm P n l0 (.cond c x y) s Q:=by
 intro F m0 w0 m a w h0 h1 h2;have hv:aO s.st m w (okB F s.st m w) (ev s.sl c) (a.eval c):=PL (fun t _=>h1.dS t);rw[hb] at hv;generalize hu:a.eval c=u at hv;cases hv with
 |eZ b=>exact wpIn_cond_split hu (fun e=>ht F m0 w0 m a w h0 h1 h2) (fun e=>hf F m0 w0 m a w h0 h1 h2)
theorem gm.loop{c:Code}(h:nY P n l0 c s Q):gm P n l0 (.loop c) s Q:=by
 intro F m0 w0 m a w h0 h1 h2 b k cs K8 hb hr;obtain⟨e,a',w',q,arr⟩:=h F m0 w0 m a w h0 h1 h2 b k cs K8;exact⟨e,a',w',q,.of_steps (.one (fenced_calm hb hr rfl) stepR_loop) arr⟩
theorem nY.step{c:Code}(h:gm P n l0 c s (andThen (fun s'=>nY P n l0 c s' Q) Q)):nY P n l0 c s Q:=by
 intro F m0 w0 m a w h0 h1 h2 b k cs K8;have hr:(fw F).room (cs.length+1+0):=x6I _;have hb:(fw F).fn b.fn:=trivial;obtain⟨e,a₁,w₁,⟨s',m',q1,q2,q3⟩,wg⟩:=h F m0 w0 m a w h0 h1 h2 b (.inLoop c::k) cs K8 hb hr;cases e with
 |normal=>
  obtain⟨e₂,a₂,w₂,Ii,Bd⟩:=q3 F m0 w0 m' a₁ w₁ h0 q1 q2 b k cs K8;exact⟨e₂,a₂,w₂,Ii,.of_steps (StepsIn.trans wg (.one (fenced_calm hb hr rfl) stepR_inLoop)) Bd⟩
 |exit id=>exact⟨_,a₁,w₁,⟨s',m',q1,q2,q3⟩,.pass (x:= .inLoop c) rfl (fun _ _=> .inl sM) wg⟩
 |goto l=>exact⟨_,a₁,w₁,⟨s',m',q1,q2,q3⟩,.pass (x:= .inLoop c) rfl (fun _ _=> .inl sM) wg⟩
 |ret=>exact⟨_,a₁,w₁,⟨s',m',q1,q2,q3⟩,.pass (x:= .inLoop c) rfl (fun _ _=> .inl sM) wg⟩
 |panic ch=>exact⟨_,a₁,w₁,⟨s',m',q1,q2,q3⟩,.pass (x:= .inLoop c) rfl (fun _ _=> .inl sM) wg⟩
 |outgrown=>exact⟨_,a₁,w₁,⟨s',m',q1,q2,q3⟩,.pass (x:= .inLoop c) rfl (fun _ _=> .inl sM) wg⟩
def Le(n:Nat)(l0:List (Nat×Ob))(s s':St):Prop:=∀{P:Program} (F:eL P) (m0:Place) (w0:World) (m:Place) (a:Act) (w:World),aY F (app emp l0) m0 w0->Rel F n s m a w->aK F (app emp l0) m0 w0 s.st m w->
 ∃m',Rel F n s' m' a w/\aK F (app emp l0) m0 w0 s'.st m' w
theorem Le.refl(s:St):Le n l0 s s:=fun F m0 w0 m a w _ h1 h2=>⟨m,h1,h2⟩
theorem Le.trans{s1 s2 s3:St}(h:Le n l0 s1 s2)(k:Le n l0 s2 s3):Le n l0 s1 s3:=fun F m0 w0 m a w h0 h1 h2=>by
 obtain⟨m',q1,q2⟩:=h F m0 w0 m a w h0 h1 h2;exact k F m0 w0 m' a w h0 q1 q2
theorem gm.weaken{c:Code}{s':St}(h:Le n l0 s s')(k:gm P n l0 c s' Q):gm P n l0 c s Q:=fun F m0 w0 m a w h0 h1 h2=>by
 obtain⟨m',q1,q2⟩:=h F m0 w0 m a w h0 h1 h2;exact k F m0 w0 m' a w h0 q1 q2
theorem nY.weaken{c:Code}{s':St}(h:Le n l0 s s')(k:nY P n l0 c s' Q):nY P n l0 c s Q:=fun F m0 w0 m a w h0 h1 h2=>by
 obtain⟨m',q1,q2⟩:=h F m0 w0 m a w h0 h1 h2;exact k F m0 w0 m' a w h0 q1 q2
theorem Le.nX{τ:List (Nat×Nat)}{keys:List Nat}{nx:Nat}{sl:List (Nat×aJ)}{l:List (Nat×Ob)}(h:DL l0 τ keys nx s=some (sl,l)):Le n l0 s ⟨sl,app emp l,nx⟩:=by
 intro P F m0 w0 m a w h0 h1 h2;unfold DL at h;obtain⟨hc,h⟩:=gL h;simp only[qq] at hc;obtain⟨⟨⟨c1,c2⟩,c3⟩,c4⟩:=hc;split at h;rotate_left
 ·cases h
 rename_i l' P7 bH iY;simp only[qb,qD] at h;obtain⟨rfl,rfl⟩:=h;have n1:=Fx.1 c1;have n2:=Fx.1 c2;obtain⟨hR,hb⟩:=K6 (m:=m) n1 n2 bH;obtain⟨hS,dF⟩:=h1.eH.nX n1 n2 bH;have Cx:∀id,id∈l0.map (·.1)->lk τ id=some id:=by
  intro id bn;obtain⟨x,hx,rfl⟩:=qO.1 bn;have:=qS.1 c4 x hx;split at this
  ·rename_i j hj;rw[hj,qJ this]
  cases this
 refine⟨sF τ m,⟨fun t=> ?_,h1.size,(by
  obtain⟨⟨l,e1,e2,e3⟩,e4,e5⟩:=h1.defers;have key:∀D,(∀id o,s.st id=some o->¬m.has id D)->∀j o',app emp l' j=some o'->¬(sF τ m).has j D:=fun D q j o' bR hm=>by
   obtain⟨i',o1,p1,p2,p3,p4,p5⟩:=hb j o' bR;exact q i' o1 p2 ((Ba p4 p5).1 hm)
  exact⟨⟨l,e1,e2,fun D hD=>⟨(e3 D hD).1,key D (e3 D hD).2.1,(e3 D hD).2.2⟩⟩,e4,fun l hl=>⟨key l (e5 l hl).1,(e5 l hl).2⟩⟩),hS,fun id bn=> ?_⟩,⟨h2.os,h2.tape,h2.output,h2.size,h2.block,fun id o ho=> ?_,fun id o' bR hn b xB=> ?_⟩⟩
 ·rcases Wb iY t with e|e
  ·rw[e];exact .cH _
  exact(h1.dS t).nX hR dF e
 ·show app emp l' id=none;cases hh:app emp l' id with
  |none=>rfl
  |some o=>
   obtain⟨i,o1,q1,_⟩:=hb id o hh;have:=ze (qy (qS.1 c3 (i,id) (Ig q1)));simp only at this bn;omega
 ·have hl:=Cx id (z25 ho);obtain⟨o1,k1,k2,k3,k4,k5,k6⟩:=h2.bW id o ho;obtain⟨⟨o2,q1,q2⟩,q3⟩:=hR id id hl o1 k1;obtain⟨r1,r2,r3⟩:=DO q1;refine⟨o2,q2,oM,fun e=>by rw[q3];exact k3 oM,fun e=>by rw[<-r2];exact k4 e,fun b xB=>k5 b (by obtain⟨i',o',p1,p2,p3,p4,p5⟩:=hb id o2 q2;have hi:i'=id:=(by have:=Cw n2 p1;rw[Cw n2 hl] at this;cases this;rfl);subst hi;exact(Ba p4 p5).1 xB),?_⟩;exact Ob.iS k6 r3
 obtain⟨i,o,q1,q2,q3,q4,q5⟩:=hb id o' bR;rw[Ba q4 q5] at xB;cases h3:app emp l0 i with
 |none=>exact h2.new i o q2 h3 b xB
 |some o0=>
  have:=Cx i (z25 h3);rw[this] at q1;cases q1;rw[h3] at hn;cases hn
def DP:Nat->List aJ->List (Nat×aJ)
 |_,[]=>[]
 |i,v::l=>(i,v)::DP (i+1) l
theorem Wc:∀(l:List aJ) (i t:Nat),get (DP i l) t=if i<=t then(l[t-i]?).getD .cH else .cH
 | [],i,t=>by simp[DP,get]
 |v::l,i,t=>by
  simp only[DP,get];by_cases e:i=t
  ·subst e;simp
  rw[kQ e,cond_false,Wc l (i+1) t];by_cases h:i<=t
  ·rw[if_pos oM,if_pos h,show t-i=(t- (i+1))+1 by omega];simp
  rw[if_neg oM,if_neg h]
end Go.Ab
end
section
namespace Go.Ab
variable {P:Program} {w:World} {F:eL P} {S st:bQ} {m:Place}
theorem FC.nX{f:FuncId}{args Cy:List aJ}{res Ij:aJ}{l0 Ik l1 Wd:List (Nat×Ob)}(h:FC P f args (app emp l0) res (app emp l1))(τ0 τ:List (Nat×Nat))
 (c:(z24 (τ0.map (·.1))&&z24 (τ0.map (·.2))&&z24 (τ.map (·.1))&&z24 (τ.map (·.2))&&τ0.all (fun p=>match lk τ p.1 with|some j=>Nat.beq j p.2|none=>false))=true)
 (h0:jH (inv τ0) (app emp Ik) (inv τ0)=some l0) (ha:mP (inv τ0) Cy=some args) (dQ:Ik.all (fun x=>lN (τ0.map (·.2)) x.1)=true)
 (h1:jH τ (app emp l1) τ=some Wd) (hr:iq τ res=some Ij):FC P f Cy (app emp Ik) Ij (app emp Wd):=by
 simp only[qq] at c;obtain⟨⟨⟨⟨c1,c2⟩,c3⟩,c4⟩,c5⟩:=c;have n1:=Fx.1 c1;have n2:=Fx.1 c2;have n3:=Fx.1 c3;have n4:=Fx.1 c4;have i1:((inv τ0).map (·.1)).Nodup:=by simpa[inv,Function.comp_def] using n2
 have i2:((inv τ0).map (·.2)).Nodup:=by simpa[inv,Function.comp_def] using n1
 have ii:inv (inv τ0)=τ0:=by simp[inv,Function.comp_def]
 have xJ:∀i j,lk τ0 i=some j->lk τ i=some j:=by
  intro i j jr;have:=qS.1 c5 (i,j) (Ig jr);simp only at this;split at this
  ·rename_i j' hj;rw[hj,qJ this]
  cases this
 have u6:∀j o,app emp Ik j=some o->∃i,lk (inv τ0) j=some i:=by
  intro j o hj;obtain⟨x,hx,rfl⟩:=qO.1 (z25 hj);have:=pS.1 (qS.1 dQ x hx);obtain⟨p,hp,Cm⟩:=qO.1 this;refine⟨p.1,K5 i1 (qO.2 ⟨p,hp,by rw[Cm]⟩)⟩
 intro F m w us hS hl hv;obtain⟨We,wU⟩:=K6 (m:=m) i1 i2 h0;obtain⟨hS0,P8⟩:=hS.nX i1 i2 h0;obtain⟨a1,a2⟩:=DM ha;refine(h F (sF (inv τ0) m) w us hS0 (by rw[hl,a1]) (fun i v u hi hu=> ?_)).mono ?_
 ·obtain⟨v',q1,q2⟩:=a2 i v hi;exact(hv i v' u q1 hu).nX We P8 q2
 rintro e w' ⟨v,m1,he,k1,k2,k3⟩;obtain⟨HG,Fz⟩:=K6 (m:=m1) n3 n4 h1;obtain⟨hS1,P9⟩:=k1.nX n3 n4 h1;refine⟨v,sF τ m1,he,hS1,⟨k2.os,k2.tape,k2.output,k2.size,fun b hb hf=> ?_,fun j o' bR=> ?_,fun j o' bR hn b xB=> ?_⟩,k3.nX HG P9 hr⟩
 ·refine k2.block b hb ?_;rcases hf with hf|hf
  ·exact .inl hf
  refine .inr fun i o ho uY hm=> ?_
  obtain⟨j,o1,q1,q2,q3,q4⟩:=wU i o ho;rw[Fy i2 q1] at hm;exact hf j o1 q2 (by rw[(DO q3).2.1];exact uY) hm
 ·obtain⟨i,hi⟩:=u6 j o' bR;obtain⟨⟨o,q1,q2⟩,q3⟩:=We j i hi o' bR;obtain⟨o1,r1,r2,r3,r4,r5,r6⟩:=k2.bW i o q2;have jr:lk τ i=some j:=xJ i j (by have:=Cw i2 hi;rw[ii] at this;exact this);obtain⟨⟨o2,s1,s2⟩,s3⟩:=HG i j jr o1 r1;obtain⟨t1,t2,t3⟩:=DO q1;obtain⟨u1,u2,u3⟩:=DO s1;rw[q3] at r3;refine⟨o2,s2,oM,fun e=>by rw[s3];exact r3 oM,fun e=>by rw[<-u2];exact r4 (by rw[<-t2];exact e),fun b xB=> ?_,?_⟩
  ·rcases r5 b ((Fy n4 jr).1 xB) with r5|r5| ⟨i',oi,p1,p2,p3⟩
   ·exact .inl ((Fy i2 hi).1 r5)
   ·exact .inr (.inl r5)
   obtain⟨j',o1,p4,p5,p6,p7⟩:=wU i' oi p1;exact .inr (.inr ⟨j',o1,p5,by rw[(DO p6).2.1];exact p2,(Fy i2 p4).1 p3⟩)
  exact Ob.iS t3 (Ob.iS r6 u3)
 obtain⟨i,o,q1,q2,q3,q4⟩:=Fz j o' bR;rw[Fy n4 q1] at xB;have o9:app emp l0 i=none:=by
  cases h2:app emp l0 i with
  |none=>rfl
  |some o0=>
   obtain⟨j',o1,r1,r2,r3,r4⟩:=wU i o0 h2;have:=xJ i j' (by have:=Cw i2 r1;rw[ii] at this;exact this);rw[q1] at this;cases this;rw[hn] at r2;cases r2
 rcases k2.new i o q2 o9 b xB with p| ⟨i',oi,p1,p2,p3⟩
 ·exact .inl p
 obtain⟨j',o1,r1,r2,r3,r4⟩:=wU i' oi p1;exact .inr ⟨j',o1,r2,by rw[(DO r3).2.1];exact p2,(Fy i2 r1).1 p3⟩
def oA(st:bQ):aJ->Option (aJ×List (Nat×Ob)×List Prop)
 | .aZ vs=>(BT st vs).map fun(vs,f,c)=>(.aZ vs,f,c)
 |v=>mH st v
variable {n:Nat} {l0:List (Nat×Ob)} {s:St} {Q:Exit->St->Prop}
theorem Rel.len{a:Act}{t k:Nat}{xs:List Tree}(h:Rel F n s m a w)(hg:get s.sl t= .t (.bX k xs)):xs.length<=9223372036854775807:=by
 have:=h.dS t;rw[hg] at this;cases this with
 |t _ _ hT=>
  generalize a.tmps.getD t undef=u at hT;cases hT with
  |bX _ _ A c us hk hx hn hm hA hl hr=>simp only[maxLen] at hm;omega
theorem gm.len{c:Code}{t k:Nat}{xs:List Tree}(hg:get s.sl t= .t (.bX k xs))(h:xs.length<=9223372036854775807->gm P n l0 c s Q):gm P n l0 c s Q:=
 fun F m0 w0 m a w h0 h1 h2=>h (h1.len hg) F m0 w0 m a w h0 h1 h2
theorem Wf{id k:Nat}(bn:S id=none)(hS:aY F S m w)(hk:0<k):aY F (bO S id (.aF k false [])) (place m id (none,0)) w/\aK F S m w (bO S id (.aF k false [])) (place m id (none,0)) w:=by
 have hF:=GW (F:=F) (S:=S) (m:=m) (w:=w) (w':=w) (o:= .aF k false []) (L:=(none,0)) bn rfl rfl rfl (qp _) (fun _ _=>rfl) (fun b hb=>by simp at hb);exact⟨hS.new bn hF (fun _ _=>rfl) (fun b hb=>by simp at hb) ⟨hk,fun x hx=>by simp at hx,sM,by simp[maxLen],.inl ⟨rfl,rfl⟩⟩,hF⟩
theorem Le.DQ{t k id:Nat}(hg:get s.sl t= .t (.sc (.slice none 0 0)))(bn:Nat.ble s.nx id=true)(hk:Nat.blt 0 k=true):
 Le n l0 s ⟨(t,.aF id 0)::s.sl,bO s.st id (.aF k false []),id+1⟩:=by
 intro P F m0 w0 m a w h0 h1 h2;have bn:=qy bn;obtain⟨k1,k2⟩:=Wf (k:=k) (h1.fresh id bn) h1.eH (Cc hk);refine⟨place m id (none,0),⟨fun t'=> ?_,h1.size,h1.defers.ext k2,k1,fun sG lB=> ?_⟩,h2.trans h0 k2⟩
 ·simp only[get];by_cases e:t=t'
  ·subst e;have:=h1.dS t;rw[hg] at this;have hu:=aO.bq this;simp only[Nat.beq_refl,cond_true];rw[hu];exact .aF id 0 k false [] (none,0) (iV _ _ _) (qp _) (fun _=>o8 _ _ _)
  rw[kQ e,cond_false];exact k2.val (h1.dS t')
 show bO s.st id _ sG=none;simp only at lB;rw[eC oM];exact h1.fresh sG oM
theorem Le.DR{b i k id:Nat}{cs:List aJ}(hb:s.st b=some (.box cs))(hg:cs[i]? =some (.t (.sc (.slice none 0 0))))(bn:Nat.ble s.nx id=true)(hk:Nat.blt 0 k=true):
 Le n l0 s ⟨s.sl,bO (bO s.st id (.aF k false [])) b (.box (cs.set i (.aF id 0))),id+1⟩:=by
 intro P F m0 w0 m a w h0 h1 h2;have bn:=qy bn;have Il:b≠id:=fun e=>by subst e;rw[h1.fresh b bn] at hb;cases hb
 obtain⟨k1,k2⟩:=Wf (k:=k) (h1.fresh id bn) h1.eH (Cc hk);have pW:bO s.st id (.aF k false []) b=some (.box cs):=by rw[eC Il];exact hb
 obtain⟨bb,us,e,q1,q2,q3,q4⟩:=k1.cN b _ pW;have key:=wM (o':= .box (cs.set i (.aF id 0))) k1 pW rfl q1 (w':=w) rfl rfl rfl rfl (fun _ _=>rfl) (by simp[Ob.len]) (by simp[Ob.same]) (fun hF=>by
  refine⟨bb,us,e,q1,q2,by simp[q3],fun j v u hv hu=> ?_⟩;rw[zz] at hv;split at hv
  ·rename_i jr;subst jr;split at hv
   ·simp only[qb] at hv;subst hv;obtain⟨r1,r2⟩:=q4 i _ u hg hu;have:=aO.bq r1;subst this;exact⟨.aF id 0 k false [] (none,0) (by rw[eC (Ne.symm Il)];exact iV _ _ _) (qp _) (fun _=>o8 _ _ _),rfl⟩
   cases hv
  obtain⟨r1,r2⟩:=q4 j v u hv hu;exact⟨hF.val r1,r2⟩)
 refine⟨_,⟨fun t'=>key.2.val (k2.val (h1.dS t')),h1.size,h1.defers.ext (k2.trans h1.eH key.2),key.1,fun sG lB=> ?_⟩,h2.trans h0 (k2.trans h1.eH key.2)⟩;show bO (bO s.st id _) b _ sG=none;simp only at lB;rw[eC (fun e=>by subst e;rw[h1.fresh sG oM] at hb;cases hb),eC oM];exact h1.fresh sG oM
theorem x3I{α:Type}{c:Code}(S:α->St)(I:α->Prop)(μ:α->Nat)(round:∀a,I a->(∀b,I b->μ b<μ a->nY P n l0 c (S b) Q)->nY P n l0 c (S a) Q)(a:α)(ha:I a):nY P n l0 c (S a) Q:=by
 have key:∀N a,μ a=N->I a->nY P n l0 c (S a) Q:=by
  intro N;induction N using Nat.strongRecOn with
  |_ N ih=>intro a hN hI;exact round a hI (fun b hb fQ=>ih (μ b) (hN▸fQ) b rfl hb)
 exact key _ a rfl ha
theorem nw{z:Int}(h: -9223372036854775808<=z/\z<=9223372036854775807):aJ.t (.sc (.int .i64 z))=aJ.t (.sc (.int .i64 (IntKind.i64.wrap z))):=by rw[IntWalk.i64_in z h]
theorem x6J{α:Type}[Inhabited α]{f:α->Tree}{l:List α}{j:Int}(h0:0<=j)(h:j<l.length):(l.map f)[j.toNat]? =some (f (l.getD j.toNat default)):=by
 have hl:j.toNat<l.length:=oM;simp[qa hl,List.getD]
theorem x3J{α:Type}[Inhabited α]{f:α->Tree}{l:List α}{j:Int}{k:Nat}(e:j=k)(h:k<l.length):(l.map f)[j.toNat]? =some (f (l.getD k default)):=by
 subst e;simp[qa h,List.getD]
def slt(x y:ByteArray):Bool:=Op.bytesLess x.toList y.toList
def seq(x y:ByteArray):Bool:=x.toList==y.toList
end Go.Ab
end
section
namespace Go.Ab
variable {P:Program} {W:World}
def Qa(W:World)(Ts:List Tree)(cs:List Value):Prop:=
 cs.length=Ts.length/\∀(j:Nat) (T:Tree) (u:Value),Ts[j]? =some T->cs[j]? =some u->cr W (fun b=>b<W.heap.size) T u
theorem Qb{W:World}{T:Tree}{v:Value}(hT:T.cells=[T])(h:cr W (fun b=>b<W.heap.size) T v):Qa W T.cells [v]:=by
 rw[hT];refine⟨rfl,fun j T' u h1 h2=> ?_⟩;cases j with
 |zero=>simp at h1 h2;subst h1;subst h2;exact h
 |succ j=>simp at h1
theorem w2t{v:Value}:jo 1 (.sc v):=⟨rfl,fun T hT=>by simp[Tree.cells] at hT;subst hT;rfl⟩
theorem Wg{α:Type}(n:Nat)(p:Nat->α->Prop)(h:∀i,i<n->∃a,p i a):∃l:List α,l.length=n/\∀i a,l[i]? =some a->p i a:=by
 induction n with
 |zero=>exact⟨[],rfl,fun i a h=>by simp at h⟩
 |succ n ih=>
  obtain⟨l,hl,hp⟩:=ih (fun i hi=>h i oM);obtain⟨a,ha⟩:=h n oM;refine⟨l++[a],by simp[hl],fun i b hb=> ?_⟩;by_cases hi:i<l.length
  ·rw[qx hi] at hb;exact hp i b hb
  rw[qK oM] at hb;by_cases e:i=n
  ·subst e;rw[hl] at hb;simp at hb;subst hb;exact ha
  have:([a]:List α)[i-l.length]? =none:=by simp;omega
  rw[this] at hb;cases hb
theorem Qc{w w':World}{b c:Nat}(h:w.heap[b]? =w'.heap[b]?):w.cell? ⟨b,c,none⟩=w'.cell? ⟨b,c,none⟩:=by
 unfold World.cell?;simp only[h]
theorem Wh{w:World}{b c:Nat}{v:Value}(h:w.cell? ⟨b,c,none⟩=some v):∃o,w.heap[b]? =some o/\∃us e z,o= .cells us e z:=by
 unfold World.cell? at h;split at h
 ·rename_i us e z hb;exact⟨_,hb,us,e,z,rfl⟩
 cases h
structure AY(P:Program)(W:World):Prop where
 Tb:∀a b,P.globalNamed "unicode/utf8.first" =some a->P.globalNamed "unicode/utf8.acceptRanges" =some b->Lib.Utf8Tabs a b W
 var:∀p∈JL,∀a,P.globalNamed p.1=some a->∃cs,W.var? P p.1=some cs/\p.2 cs
def Wi(P:Program)(b:Nat):Prop:=P.globalNamed "unicode/utf8.first" =some b\/P.globalNamed "unicode/utf8.acceptRanges" =some b\/∃p∈JL,P.globalNamed p.1=some b
def Wj(P:Program)(W:World)(hT:AY P W):eL P where
 mem b:=∃o,W.heap[b]? =some o/\Wi P b
 Gy _:=False
 kR b o:=(∃us e z,o= .cells us e z)/\W.heap[b]? =some o/\Wi P b
 sub _ o h:=⟨o,h.2⟩
 sup _ h:=h.elim
 Td _ _ _ h:=h.elim
 Nd _ _ h:=h.1
 BQ:=none
 lo:=0
 tab:=by
  refine⟨fun a b ha hb=> ?_,fun p hp a ha=> ?_⟩
  ·have h:=hT.Tb a b ha hb
   obtain⟨x,hx,cx⟩:=Wh (h.1 0 dM)
   obtain⟨y,hy,cy⟩:=Wh (h.2 0 dM).1
   refine⟨x,y,⟨cx,hx,.inl ha⟩,⟨cy,hy,.inr (.inl hb)⟩,fun w h1 h2=>⟨fun c hc=> ?_,fun i hi=>⟨?_,?_⟩⟩⟩
   ·rw[Qc (h1.trans hx.symm)];exact h.1 c hc
   ·rw[Qc (h2.trans hy.symm)];exact(h.2 i hi).1
   ·rw[Qc (h2.trans hy.symm)];exact(h.2 i hi).2
  ·obtain⟨cs,h1,h2⟩:=hT.var p hp a ha
   unfold World.var? at h1
   rw[ha] at h1
   simp only[Option.bind_some] at h1
   split at h1
   ·rename_i iK e z hc
    cases h1
    exact⟨cs,e,z,⟨⟨_,_,_,rfl⟩,hc,.inr (.inr ⟨p,hp,ha⟩)⟩,h2⟩
   ·cases h1
theorem FC.law{f:FuncId}{args:List aJ}{v:Value}{us:List Value}(h:FC P f args emp (.t (.sc v)) emp)(hT:AY P W)(hl:us.length=args.length)
 (hv:∀(i:Nat) (a:aJ) (u:Value),args[i]? =some a->us[i]? =some u->∃T,a= .t T/\cr W (fun b=>b<W.heap.size) T u):
 Calls P f us.toArray W fun e w'=>e= .returned v/\RowKit.Below W.heap.size W w':=by
 have hS:aY (Wj P W hT) emp ⟨fun _=>(none,0),fun _=>[]⟩ W:=⟨fun id o h=>(by cases h),fun i j oi oj b h=>(by cases h),fun id o b h=>(by cases h),fun id o b h=>(by cases h),fun b ⟨o,h,_⟩=>(qY.1 h).1,fun b o h=>h.2.1⟩
 refine(h (Wj P W hT) _ W us hS hl (fun i a u ha hu=> ?_)).mono ?_
 ·obtain⟨T,rfl,Dv⟩:=hv i a u ha hu;exact .t T u (Dv.mono (fun b hb=>⟨hb,fun h=>h,fun id o h=>by cases h⟩) (fun _ _ _ _ h=>h))
 rintro e w' ⟨u,m',rfl,k1,k2,k3⟩;have:=aO.bq k3;subst this;exact⟨rfl,k2.os,k2.tape,k2.output,k2.size,fun b hb=>k2.block b hb (.inr fun id o h=>by cases h)⟩
end Go.Ab
end
section
namespace Go.Ab
open Go Go.Proofs.YtipofpnmgbaopaaGreatDoor
variable {P:Program} {W:World}
def xU(P:Program)(t:TypeId)(k:Nat){α:Type}(f:α->Tree)(μ:α->Nat):Prop:=
 (∀a,jo k (f a))/\P.cellsOf t=k/\∀(H:Type) (enc:TypeId×Value->H) (W:World) (fuel:Nat) (cs:List Value) (x:DataW H×List MemPlace),
  DataW.trod enc P W 0 (fun _=>true) true fuel t cs=some x->∃a:α,Qa W (f a).cells cs/\μ a<=Rows.uptoBulk x.1
theorem Wk{H:Type}(d:DataW H):1<=Rows.uptoBulk d:=by
 cases d with
 |lit l=>cases l<;>simp[Rows.uptoBulk]
 |_=>simp[Rows.uptoBulk]
theorem xU.int{t:TypeId}{k:IntKind}(ht:P.underlying t=some (.int k))(hc:P.cellsOf t=1):xU P t 1 (fun z:Int=> .sc (.int k z)) (fun _=>1):=by
 refine⟨fun _=>w2t,hc,fun H enc W fuel cs x h=> ?_⟩;obtain⟨n,rfl,_,_⟩:=DataW.trod_int ht h;exact⟨n,Qb rfl (.sc _ rfl),Wk _⟩
theorem Wl{α H:Type}{μ:α->Nat}:∀{l:List α} {es:List (DataW H)},l.length=es.length->(∀(i:Nat) (a:α) (d:DataW H),l[i]? =some a->es[i]? =some d->μ a<=Rows.uptoBulk d)->(l.map μ).sum<=Rows.uptoBulkAll es
 | [],es,_,_=>sM
 |a::l,[],h,_=>by simp at h
 |a::l,d::es,h,hi=>by
  have h0:=hi 0 a d rfl rfl;have ih:=Wl (l:=l) (es:=es) (by simpa using h) (fun i a' d' h1 h2=>hi (i+1) a' d' (by simpa using h1) (by simpa using h2));simp only[qU,List.sum_cons,Rows.uptoBulkAll];omega
theorem xU.slice{t e:TypeId}{k:Nat}{α:Type}{f:α->Tree}{μ:α->Nat}(ht:P.underlying t=some (.slice e))(hk:0<k)(hc:P.cellsOf t=1)(he:xU P e k f μ):xU P t 1 (fun l:List α=> .bX k (l.map f)) (fun l=>(l.map μ).sum+1):=by
 obtain⟨h1,h2,h3⟩:=he;refine⟨fun l=>⟨rfl,fun T hT=>by simp[Tree.cells] at hT;subst hT;rfl⟩,hc,fun H enc W fuel cs x h=> ?_⟩;have hx:∀l:List α,∀x∈l.map f,jo k x:=fun l x hx=>by
  obtain⟨a,_,rfl⟩:=qO.1 hx;exact h1 a
 rcases DataW.trod_slice ht h with⟨rfl,Be⟩| ⟨a,len,cap,elems,rest,n,_,rfl,hxe,hb,hl,hm,hlen,Dn,_,_⟩
 ·refine⟨[],Qb rfl (.bX k [] none 0 [] hk (fun x hx=>by simp at hx) (qp _) (by simp[maxLen]) (fun h=>absurd rfl h) sM (fun j T u hT=>by simp[dL] at hT)),?_⟩;exact Wk _
 have key:∀i,i<len->∃y:α,(∃iK,iK.length=k/\(∀r,r<k->W.cell? (a.add (i*k+r))=iK[r]?)/\Qa W (f y).cells iK)/\∀d,(elems.map (·.1))[i]? =some d->μ y<=Rows.uptoBulk d:=by
  intro i hi;have h4:=Dn i hi;have h5:elems[i]? =some elems[i]:=by rw[qa oM]
  rw[h5,h2] at h4;obtain⟨iK,h6,h7⟩:=qw.1 h4;obtain⟨q1,q2,q3⟩:=World.cells?_some h6;obtain⟨y,hy,hμ⟩:=h3 H enc W n iK _ h7;refine⟨y,⟨iK,q2,fun r hr=> ?_,hy⟩,fun d hd=> ?_⟩
  ·rw[<-q3 r hr];rw[Addr.add_add]
  ·rw[zj,h5] at hd;simp only[jd,qb] at hd;subst hd;exact hμ
 obtain⟨l,gW,Im⟩:=Wg len _ key;have lU:=fun i a h=>(Im i a h).1
 have Io:l≠[]->∃u,W.cell? a=some u:=by
  intro dh;have h0:0<len:=by rw[<-gW];exact jb.2 dh
  obtain⟨iK,c1,c2,c3⟩:=lU 0 l[0] (by rw[qa oM]);have:=c2 0 hk;simp only[Nat.zero_mul,Nat.add_zero] at this;rw[qa oM] at this;have e:a.add 0=a:=by simp[Addr.add]
  rw[e] at this;exact⟨_,this⟩
 refine⟨l,Qb rfl ?_,?_⟩;rotate_left
 ·rw[hxe];simp only[Rows.uptoBulk];have:=Wl (μ:=μ) (l:=l) (es:=elems.map (·.1)) (by simp[gW,hlen]) (fun i y d h1 h2=>(Im i y h1).2 d h2);omega
 have oZ:∀j,j<len*k->∃u,W.cell? (a.add j)=some u/\∀T,(dL (l.map f))[j]? =some T->cr W (fun b=>b<W.heap.size) T u:=by
  intro j hj;have hi:j/k<len:=Nat.div_lt_of_lt_mul (by rw[Nat.mul_comm];exact hj);have hr:j%k<k:=Nat.mod_lt _ hk;have A8:j=j/k*k+j%k:=by rw[Nat.mul_comm];exact(Nat.div_add_mod j k).symm
  obtain⟨iK,c1,c2,c3⟩:=lU (j/k) l[j/k] (by rw[qa oM]);have c4:=c2 (j%k) hr;rw[<-A8,qa oM] at c4;refine⟨_,c4,fun T hT=> ?_⟩;rw[A8,E0 (hx l) (i:=j/k) (X:=f l[j/k]) (by simp[qa (show j/k<l.length by omega)]) hr] at hT;exact c3.2 (j%k) T _ hT (by rw[qa oM])
 obtain⟨us,hu1,Wm⟩:=Wg (len*k) _ oZ;have Wn:(l.map f).length=len:=by simp[gW]
 have:=cr.bX (w:=W) (ok:=fun b=>b<W.heap.size) k (l.map f) (some a) cap us hk (hx l) oM hm (fun dh=> ?_) (by rw[Wn];exact hu1) (fun j T u hT hu=>(Wm j u hu).2 T hT)
 ·rw[Wn] at this;exact this
 obtain⟨u,hu⟩:=Io (fun e=>dh (by rw[e];rfl));have hs:=World.cell?_spot hu;obtain⟨b,o,sp⟩:=a;simp only at hs;subst hs;refine⟨b,o,rfl,?_,fun j u hj=> ?_⟩
 ·simp only[World.cell?] at hu;by_cases hb:b<W.heap.size
  ·exact hb
  rw[Array.getElem?_eq_none oM] at hu;simp at hu
 have:=(Wm j u hj).1;rw[rM] at this;exact this
theorem xU.arg{t:TypeId}{α:Type}{f:α->Tree}{μ:α->Nat}(h:xU P t 1 f μ)(h1:∀a,(f a).bZ=true){H:Type}{enc:TypeId×Value->H}{v:Value}{d:DataW H}{ps:List MemPlace}(hd:DataW.Trod enc P W 0 (fun _=>true) true t v d ps)(hv:v.cells.toList=[v]):
 ∃a,cr W (fun b=>b<W.heap.size) (f a) v/\μ a<=Rows.uptoBulk d:=by
 obtain⟨fuel,hf⟩:=hd;obtain⟨a,⟨c1,c2⟩,c3⟩:=h.2.2 H enc W fuel _ _ hf;refine⟨a,c2 0 _ _ ?_ (by rw[hv];rfl),c3⟩;cases Qd:f a with
 |agg cs=>have:=h1 a;rw[Qd] at this;cases this
 |sc v=>rfl
 |bX k xs=>rfl
theorem Qe{α:Type}{μ:α->Nat}(hμ:∀a,1<=μ a)(l:List α):l.length<=(l.map μ).sum:=by
 induction l with
 |nil=>simp
 |cons b l ih=>have:=hμ b;simp only[qU,List.sum_cons,qi];omega
end Go.Ab
end
