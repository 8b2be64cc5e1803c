/- Contracts by other numbers; results as immutable data; nil as an empty row; lengths. -/
import Derived.Test.YtlgmgpnjkadhfaaGreatDoorM1
import Derived.Test.YtlgmgpnjkadhfaaGreatDoorM2
import Derived.Test.YtlgmgpnjkadhfaaGreatDoorM3
import Derived.ChangeArms
import Derived.ChangeOld
import Derived.WideShapes
import Derived.DataReads
import Derived.DataElems
import Derived.Below
import Derived.RangeFuncRecord
import Derived.RangeFuncLeaves
import Derived.KernelRfl
import Derived.Test.YtlgmgpnjkadhfaaGreatDoorProg
section
set_option linter.unusedVariables false
namespace Go.Ab
variable {P:Program} {w:World} {F:Fen P} {S st:Store} {m:Place}
theorem FC.ren{f:FuncId}{args args':List AVal}{res res':AVal}{l0 l0' l1 l1':List (Nat×Ob)}(h:FC P f args (app emp l0) res (app emp l1))(τ0 τ:List (Nat×Nat))
 (c:(z1K (τ0.map (·.1))&&z1K (τ0.map (·.2))&&z1K (τ.map (·.1))&&z1K (τ.map (·.2))&&τ0.all (fun p=>match lk τ p.1 with|some j=>Nat.beq j p.2|none=>false))=true)
 (h0:z0p (inv τ0) (app emp l0') (inv τ0)=some l0) (ha:renL (inv τ0) args'=some args) (hl0:l0'.all (fun x=>hasId (τ0.map (·.2)) x.1)=true)
 (h1:z0p τ (app emp l1) τ=some l1') (hr:renV τ res=some res'):FC P f args' (app emp l0') res' (app emp l1'):=by
 simp only[Bool.and_eq_true] at c
 obtain⟨⟨⟨⟨c1,c2⟩,c3⟩,c4⟩,c5⟩:=c
 have n1:=z1V.1 c1
 have n2:=z1V.1 c2
 have n3:=z1V.1 c3
 have n4:=z1V.1 c4
 have i1:((inv τ0).map (·.1)).Nodup:=by simpa[inv,Function.comp_def] using n2
 have i2:((inv τ0).map (·.2)).Nodup:=by simpa[inv,Function.comp_def] using n1
 have ii:inv (inv τ0)=τ0:=by simp[inv,Function.comp_def]
 have hext:∀i j,lk τ0 i=some j→lk τ i=some j:=by
  intro i j hij
  have:=List.all_eq_true.1 c5 (i,j) (z8s hij)
  simp only at this
  split at this
  ·rename_i j' hj;rw[hj,Nat.eq_of_beq_eq_true this]
  ·cases this
 have hin:∀j o,app emp l0' j=some o→∃i,lk (inv τ0) j=some i:=by
  intro j o hj
  obtain⟨x,hx,rfl⟩:=List.mem_map.1 (z1L hj)
  have:=z0D.1 (List.all_eq_true.1 hl0 x hx)
  obtain⟨p,hp,hp'⟩:=List.mem_map.1 this
  refine⟨p.1,z3U i1 (List.mem_map.2 ⟨p,hp,by rw[hp']⟩)⟩
 intro F m w us hS hl hv
 obtain⟨hR0,hb0⟩:=z3V (m:=m) i1 i2 h0
 obtain⟨hS0,hok0⟩:=hS.ren i1 i2 h0
 obtain⟨a1,a2⟩:=z13 ha
 refine(h F (z0T (inv τ0) m) w us hS0 (by rw[hl,a1]) (fun i v u hi hu=> ?_)).mono ?_
 ·obtain⟨v',q1,q2⟩:=a2 i v hi
  exact(hv i v' u q1 hu).ren hR0 hok0 q2
 ·rintro e w' ⟨v,m1,he,k1,k2,k3⟩
  obtain⟨hR1,hb1⟩:=z3V (m:=m1) n3 n4 h1
  obtain⟨hS1,hok1⟩:=k1.ren n3 n4 h1
  refine⟨v,z0T τ m1,he,hS1,⟨k2.os,k2.tape,k2.output,k2.size,fun b hb hf=> ?_,fun j o' ho'=> ?_,fun j o' ho' hn b hbk=> ?_⟩,k3.ren hR1 hok1 hr⟩
  ·refine k2.block b hb ?_
   rcases hf with hf|hf
   ·exact .inl hf
   ·refine .inr fun i o ho hlv hm=> ?_
    obtain⟨j,o1,q1,q2,q3,q4⟩:=hb0 i o ho
    rw[z1t i2 q1] at hm
    exact hf j o1 q2 (by rw[(z14 q3).2.1];exact hlv) hm
  ·obtain⟨i,hi⟩:=hin j o' ho'
   obtain⟨⟨o,q1,q2⟩,q3⟩:=hR0 j i hi o' ho'
   obtain⟨o1,r1,r2,r3,r4,r5,r6⟩:=k2.keep i o q2
   have hij:lk τ i=some j:=hext i j (by have:=z4P i2 hi;rw[ii] at this;exact this)
   obtain⟨⟨o2,s1,s2⟩,s3⟩:=hR1 i j hij o1 r1
   obtain⟨t1,t2,t3⟩:=z14 q1
   obtain⟨u1,u2,u3⟩:=z14 s1
   rw[q3] at r3
   refine⟨o2,s2,by omega,fun e=>by rw[s3];exact r3 (by omega),fun e=>by rw[←u2];exact r4 (by rw[←t2];exact e),fun b hbk=> ?_,?_⟩
   ·rcases r5 b ((z1t n4 hij).1 hbk) with r5|r5| ⟨i',oi,p1,p2,p3⟩
    ·exact .inl ((z1t i2 hi).1 r5)
    ·exact .inr (.inl r5)
    ·obtain⟨j',o1,p4,p5,p6,p7⟩:=hb0 i' oi p1
     exact .inr (.inr ⟨j',o1,p5,by rw[(z14 p6).2.1];exact p2,(z1t i2 p4).1 p3⟩)
   exact Ob.same_trans t3 (Ob.same_trans r6 u3)
  ·obtain⟨i,o,q1,q2,q3,q4⟩:=hb1 j o' ho'
   rw[z1t n4 q1] at hbk
   have hnone:app emp l0 i=none:=by
    cases h2:app emp l0 i with
    |none=>rfl
    |some o0=>
     obtain⟨j',o1,r1,r2,r3,r4⟩:=hb0 i o0 h2
     have:=hext i j' (by have:=z4P i2 r1;rw[ii] at this;exact this)
     rw[q1] at this;cases this
     rw[hn] at r2;cases r2
   rcases k2.new i o q2 hnone b hbk with p| ⟨i',oi,p1,p2,p3⟩
   ·exact .inl p
   ·obtain⟨j',o1,r1,r2,r3,r4⟩:=hb0 i' oi p1
    exact .inr ⟨j',o1,r2,by rw[(z14 r3).2.1];exact p2,(z1t i2 r1).1 p3⟩
def snapR(st:Store):AVal→Option (AVal×List (Nat×Ob)×List Prop)
 | .tup vs=>(snaps st vs).map fun(vs,f,c)=>(.tup vs,f,c)
 |v=>snap st v
variable {n:Nat} {l0:List (Nat×Ob)} {s:St} {Q:Exit→St→Prop}
theorem Rel.len{a:Act}{t k:Nat}{xs:List Tree}(h:Rel F n s m a w)(hg:get s.sl t= .t (.lst k xs)):xs.length≤9223372036854775807:=by
 have:=h.slots t
 rw[hg] at this
 cases this with
 |t _ _ hT=>
  generalize a.tmps.getD t undef=u at hT
  cases hT with
  |lst _ _ A c us hk hx hn hm hA hl hr=>simp only[maxLen] at hm;omega
theorem Sim.len{c:Code}{t k:Nat}{xs:List Tree}(hg:get s.sl t= .t (.lst k xs))(h:xs.length≤9223372036854775807→Sim P n l0 c s Q):Sim P n l0 c s Q:=
 fun F m0 w0 m a w h0 h1 h2=>h (h1.len hg) F m0 w0 m a w h0 h1 h2
theorem z5O{id k:Nat}(hid:S id=none)(hS:SRel F S m w)(hk:0<k):SRel F (upd S id (.row k false [])) (place m id (none,0)) w∧FrameExt F S m w (upd S id (.row k false [])) (place m id (none,0)) w:=by
 have hF:=z4t (F:=F) (S:=S) (m:=m) (w:=w) (w':=w) (o:= .row k false []) (L:=(none,0)) hid rfl rfl rfl (Nat.le_refl _) (fun _ _=>rfl) (fun b hb=>by simp at hb)
 exact⟨hS.new hid hF (fun _ _=>rfl) (fun b hb=>by simp at hb) ⟨hk,fun x hx=>by simp at hx,by simp,by simp[maxLen],.inl ⟨rfl,rfl⟩⟩,hF⟩
theorem Le.nilRow{t k id:Nat}(hg:get s.sl t= .t (.sc (.slice none 0 0)))(hid:Nat.ble s.nx id=true)(hk:Nat.blt 0 k=true):
 Le n l0 s ⟨(t,.row id 0)::s.sl,upd s.st id (.row k false []),id+1⟩:=by
 intro P F m0 w0 m a w h0 h1 h2
 have hid:=Nat.le_of_ble_eq_true hid
 obtain⟨k1,k2⟩:=z5O (k:=k) (h1.fresh id hid) h1.srel (z20 hk)
 refine⟨place m id (none,0),⟨fun t'=> ?_,h1.size,h1.defers.ext k2,k1,fun id' hid'=> ?_⟩,h2.trans h0 k2⟩
 ·simp only[get]
  by_cases e:t=t'
  ·subst e
   have:=h1.slots t
   rw[hg] at this
   have hu:=VRel.sc_inv this
   simp only[Nat.beq_refl,cond_true]
   rw[hu]
   exact .row id 0 k false [] (none,0) (z0i _ _ _) (Nat.le_refl _) (fun _=>z0s _ _ _)
  ·rw[z0L e,cond_false]
   exact k2.val (h1.slots t')
 ·show upd s.st id _ id'=none
  simp only at hid'
  rw[z0h (by omega)]
  exact h1.fresh id' (by omega)
theorem Le.nilBox{b i k id:Nat}{cs:List AVal}(hb:s.st b=some (.box cs))(hg:cs[i]? =some (.t (.sc (.slice none 0 0))))(hid:Nat.ble s.nx id=true)(hk:Nat.blt 0 k=true):
 Le n l0 s ⟨s.sl,upd (upd s.st id (.row k false [])) b (.box (cs.set i (.row id 0))),id+1⟩:=by
 intro P F m0 w0 m a w h0 h1 h2
 have hid:=Nat.le_of_ble_eq_true hid
 have hbid:b≠id:=fun e=>by subst e;rw[h1.fresh b hid] at hb;cases hb
 obtain⟨k1,k2⟩:=z5O (k:=k) (h1.fresh id hid) h1.srel (z20 hk)
 have hb':upd s.st id (.row k false []) b=some (.box cs):=by rw[z0h hbid];exact hb
 obtain⟨bb,us,e,q1,q2,q3,q4⟩:=k1.objs b _ hb'
 have key:=z0N (o':= .box (cs.set i (.row id 0))) k1 hb' rfl q1 (w':=w) rfl rfl rfl rfl (fun _ _=>rfl) (by simp[Ob.len]) (by simp[Ob.same]) (fun hF=>by
  refine⟨bb,us,e,q1,q2,by simp[q3],fun j v u hv hu=> ?_⟩
  rw[List.getElem?_set] at hv
  split at hv
  ·rename_i hij
   subst hij
   split at hv
   ·simp only[Option.some.injEq] at hv
    subst hv
    obtain⟨r1,r2⟩:=q4 i _ u hg hu
    have:=VRel.sc_inv r1
    subst this
    exact⟨.row id 0 k false [] (none,0) (by rw[z0h (Ne.symm hbid)];exact z0i _ _ _) (Nat.le_refl _) (fun _=>z0s _ _ _),rfl⟩
   ·cases hv
  ·obtain⟨r1,r2⟩:=q4 j v u hv hu
   exact⟨hF.val r1,r2⟩)
 refine⟨_,⟨fun t'=>key.2.val (k2.val (h1.slots t')),h1.size,h1.defers.ext (k2.trans h1.srel key.2),key.1,fun id' hid'=> ?_⟩,h2.trans h0 (k2.trans h1.srel key.2)⟩
 show upd (upd s.st id _) b _ id'=none
 simp only at hid'
 rw[z0h (fun e=>by subst e;rw[h1.fresh id' (by omega)] at hb;cases hb),z0h (by omega)]
 exact h1.fresh id' (by omega)
theorem y5a{α:Type}{c:Code}(S:α→St)(I:α→Prop)(μ:α→Nat)(round:∀a,I a→(∀b,I b→μ b<μ a→z0O P n l0 c (S b) Q)→z0O P n l0 c (S a) Q)(a:α)(ha:I a):z0O P n l0 c (S a) Q:=by
 have key:∀N a,μ a=N→I a→z0O P n l0 c (S a) Q:=by
  intro N
  induction N using Nat.strongRecOn with
  |_ N ih=>intro a hN hI;exact round a hI (fun b hb hlt=>ih (μ b) (hN▸hlt) b rfl hb)
 exact key _ a rfl ha
theorem nw{z:Int}(h: -9223372036854775808≤z∧z≤9223372036854775807):AVal.t (.sc (.int .i64 z))=AVal.t (.sc (.int .i64 (IntKind.i64.wrap z))):=by rw[IntWalk.i64_in z h]
theorem y6V{α:Type}[Inhabited α]{f:α→Tree}{l:List α}{j:Int}(h0:0≤j)(h:j<l.length):(l.map f)[j.toNat]? =some (f (l.getD j.toNat default)):=by
 have hl:j.toNat<l.length:=by omega
 simp[List.getElem?_eq_getElem hl,List.getD]
theorem y5b{α:Type}[Inhabited α]{f:α→Tree}{l:List α}{j:Int}{k:Nat}(e:j=k)(h:k<l.length):(l.map f)[j.toNat]? =some (f (l.getD k default)):=by
 subst e
 simp[List.getElem?_eq_getElem h,List.getD]
def slt(x y:ByteArray):Bool:=Op.bytesLess x.toList y.toList
def seq(x y:ByteArray):Bool:=x.toList==y.toList
end Go.Ab
end
section
set_option linter.unusedVariables false
namespace Go.Ab
variable {P:Program} {W:World}
def y3a(W:World)(Ts:List Tree)(cs:List Value):Prop:=
 cs.length=Ts.length∧∀(j:Nat) (T:Tree) (u:Value),Ts[j]? =some T→cs[j]? =some u→TRep W (fun b=>b<W.heap.size) T u
theorem y0L{W:World}{T:Tree}{v:Value}(hT:T.cells=[T])(h:TRep W (fun b=>b<W.heap.size) T v):y3a W T.cells [v]:=by
 rw[hT]
 refine⟨rfl,fun j T' u h1 h2=> ?_⟩
 cases j with
 |zero=>simp at h1 h2;subst h1;subst h2;exact h
 |succ j=>simp at h1
theorem elt1{v:Value}:Elt 1 (.sc v):=⟨rfl,fun T hT=>by simp[Tree.cells] at hT;subst hT;rfl⟩
theorem y3b{α:Type}(n:Nat)(p:Nat→α→Prop)(h:∀i,i<n→∃a,p i a):∃l:List α,l.length=n∧∀i a,l[i]? =some a→p i a:=by
 induction n with
 |zero=>exact⟨[],rfl,fun i a h=>by simp at h⟩
 |succ n ih=>
  obtain⟨l,hl,hp⟩:=ih (fun i hi=>h i (by omega))
  obtain⟨a,ha⟩:=h n (by omega)
  refine⟨l++[a],by simp[hl],fun i b hb=> ?_⟩
  by_cases hi:i<l.length
  ·rw[List.getElem?_append_left hi] at hb;exact hp i b hb
  ·rw[List.getElem?_append_right (by omega)] at hb
   by_cases e:i=n
   ·subst e;rw[hl] at hb;simp at hb;subst hb;exact ha
   ·have:([a]:List α)[i-l.length]? =none:=by simp;omega
    rw[this] at hb;cases hb
theorem z5P{w w':World}{b c:Nat}(h:w.heap[b]? =w'.heap[b]?):w.cell? ⟨b,c,none⟩=w'.cell? ⟨b,c,none⟩:=by
 unfold World.cell?
 simp only[h]
theorem z8t{w:World}{b c:Nat}{v:Value}(h:w.cell? ⟨b,c,none⟩=some v):∃o,w.heap[b]? =some o∧∃us e z,o= .cells us e z:=by
 unfold World.cell? at h
 split at h
 ·rename_i us e z hb;exact⟨_,hb,us,e,z,rfl⟩
 ·cases h
structure TabW(P:Program)(W:World):Prop where
 utf:∀a b,P.globalNamed "unicode/utf8.first" =some a→P.globalNamed "unicode/utf8.acceptRanges" =some b→Lib.Utf8Tabs a b W
 var:∀p∈z65,∀a,P.globalNamed p.1=some a→∃cs,W.var? P p.1=some cs∧p.2 cs
def tabG(P:Program)(b:Nat):Prop:=P.globalNamed "unicode/utf8.first" =some b∨P.globalNamed "unicode/utf8.acceptRanges" =some b∨∃p∈z65,P.globalNamed p.1=some b
def fenW(P:Program)(W:World)(hT:TabW P W):Fen P where
 mem b:=∃o,W.heap[b]? =some o∧tabG P b
 bar _:=False
 says b o:=(∃us e z,o= .cells us e z)∧W.heap[b]? =some o∧tabG P b
 sub _ o h:=⟨o,h.2⟩
 sup _ h:=h.elim
 opn _ _ _ h:=h.elim
 cel _ _ h:=h.1
 rnd:=none
 lo:=0
 tab:=by
  refine⟨fun a b ha hb=> ?_,fun p hp a ha=> ?_⟩
  ·have h:=hT.utf a b ha hb
   obtain⟨x,hx,cx⟩:=z8t (h.1 0 (by decide))
   obtain⟨y,hy,cy⟩:=z8t (h.2 0 (by decide)).1
   refine⟨x,y,⟨cx,hx,.inl ha⟩,⟨cy,hy,.inr (.inl hb)⟩,fun w h1 h2=>⟨fun c hc=> ?_,fun i hi=>⟨?_,?_⟩⟩⟩
   ·rw[z5P (h1.trans hx.symm)];exact h.1 c hc
   ·rw[z5P (h2.trans hy.symm)];exact(h.2 i hi).1
   ·rw[z5P (h2.trans hy.symm)];exact(h.2 i hi).2
  ·obtain⟨cs,h1,h2⟩:=hT.var p hp a ha
   unfold World.var? at h1
   rw[ha] at h1
   simp only[Option.bind_some] at h1
   split at h1
   ·rename_i cs' e z hc
    cases h1
    exact⟨cs,e,z,⟨⟨_,_,_,rfl⟩,hc,.inr (.inr ⟨p,hp,ha⟩)⟩,h2⟩
   ·cases h1
theorem FC.law{f:FuncId}{args:List AVal}{v:Value}{us:List Value}(h:FC P f args emp (.t (.sc v)) emp)(hT:TabW P W)(hl:us.length=args.length)
 (hv:∀(i:Nat) (a:AVal) (u:Value),args[i]? =some a→us[i]? =some u→∃T,a= .t T∧TRep W (fun b=>b<W.heap.size) T u):
 Calls P f us.toArray W fun e w'=>e= .returned v∧RowKit.Below W.heap.size W w':=by
 have hS:SRel (fenW P W hT) emp ⟨fun _=>(none,0),fun _=>[]⟩ W:=⟨fun id o h=>(by cases h),fun i j oi oj b h=>(by cases h),fun id o b h=>(by cases h),fun id o b h=>(by cases h),fun b ⟨o,h,_⟩=>(Array.getElem?_eq_some_iff.1 h).1,fun b o h=>h.2.1⟩
 refine(h (fenW P W hT) _ W us hS hl (fun i a u ha hu=> ?_)).mono ?_
 ·obtain⟨T,rfl,hT'⟩:=hv i a u ha hu
  exact .t T u (hT'.mono (fun b hb=>⟨hb,fun h=>h,fun id o h=>by cases h⟩) (fun _ _ _ _ h=>h))
 ·rintro e w' ⟨u,m',rfl,k1,k2,k3⟩
  have:=VRel.sc_inv k3
  subst this
  exact⟨rfl,k2.os,k2.tape,k2.output,k2.size,fun b hb=>k2.block b hb (.inr fun id o h=>by cases h)⟩
end Go.Ab
end
section
set_option linter.unusedVariables false
namespace Go.Ab
open Go
variable {P:Program} {n:Nat} {l0:List (Nat×Ob)} {s:St}
theorem Le.fz{id k:Nat}{xs:List Tree}(hid:s.st id=some (.row k false xs)):Le n l0 s ⟨s.sl,upd s.st id (.row k true xs),s.nx⟩:=by
 intro P F m0 w0 m a w h0 h1 h2
 obtain⟨r1,r2⟩:=freeze h1.srel hid
 refine⟨m,⟨fun t'=>r2.val (h1.slots t'),h1.size,h1.defers.ext r2,r1,fun i hi=> ?_⟩,h2.trans h0 r2⟩
 have hi':s.nx≤i:=hi
 have:i≠id:=fun e=>by subst e;rw[h1.fresh i hi] at hid;cases hid
 show upd s.st id (.row k true xs) i=none
 rw[z0h this]
 exact h1.fresh i hi
end Go.Ab
end
section
set_option linter.unusedVariables false
namespace Go.Ab
variable {P:Program} {w w':World} {F:Fen P} {st:Store} {m:Place} {ok ok':Nat→Prop}
def Still(ok:Nat→Prop)(w w':World):Prop:=∀b us e z,ok b→w.heap[b]? =some (.cells us e z)→w'.heap[b]? =w.heap[b]?
theorem z7s{b o:Nat}{u:Value}(h:w.cell? ⟨b,o,none⟩=some u):∃us e z,w.heap[b]? =some (.cells us e z):=by
 unfold World.cell? at h
 split at h
 ·rename_i c e z hb;exact⟨c,e,z,hb⟩
 ·cases h
theorem Still.cell(h:Still ok w w'){b o:Nat}{u:Value}(hb:ok b)(hc:w.cell? ⟨b,o,none⟩=some u):w'.cell? ⟨b,o,none⟩=some u:=by
 obtain⟨us,e,z,hh⟩:=z7s hc
 rw[z2X (h b us e z hb hh)];exact hc
theorem TRep.still(hok:∀b,ok b→ok' b)(hs:Still ok w w'){T:Tree}{v:Value}(h:TRep w ok T v):TRep w' ok' T v:=h.mono hok (fun b o u hb hc=>hs.cell hb hc)
theorem VRel.still(hok:∀b,ok b→ok' b)(hs:Still ok w w'){v:AVal}{u:Value}(h:VRel st m w ok v u):VRel st m w' ok' v u:=by
 induction h with
 |t T u hT=>exact .t T u (hT.still hok hs)
 |xl k xs u hT hc=>exact .xl k xs u (hT.still hok hs) hc
 |row id n k fz xs L h1 h2 h3=>exact .row id n k fz xs L h1 h2 h3
 |ptr id off cs b h1 h2=>exact .ptr id off cs b h1 h2
 |bsl id n cs b h1 h2=>exact .bsl id n cs b h1 h2
 |bslG id n L h1=>exact .bslG id n L h1
 |eptr id n i sub k fz xs b h1 h2 h3=>exact .eptr id n i sub k fz xs b h1 h2 h3
 |mat id fz xs hh L h1 h2=>exact .mat id fz xs hh L h1 h2
 |mptr id i fz xs hh b h1 h2=>exact .mptr id i fz xs hh b h1 h2
 |cptr cs b o us h1 h2 h3 h4 h5=>exact .cptr cs b o us (hok _ h1) h2 h3 (fun j u hu=>hs.cell h1 (h4 j u hu)) (fun j T u a b=>(h5 j T u a b).still hok hs)
 |agg cs us h1 _ h3 ih=>exact .agg cs us h1 ih h3
 |fn f cap us h1 _ ih=>exact .fn f cap us h1 ih
 |tup vs us h1 _ ih=>exact .tup vs us h1 ih
 |cond c v u _ h0 ih=>exact .cond c v u ih h0
 |junk u=>exact .junk u
 |rowG id n L h1=>exact .rowG id n L h1
 |eptrG id n i sub b o h1=>exact .eptrG id n i sub b o h1
 |anyB b=>exact .anyB b
 |ifc t u=>exact .ifc t u
 |tail id n i k fz xs L h1 h2 h3 h4=>exact .tail id n i k fz xs L h1 h2 h3 h4
 |tailG id n i k L h1=>exact .tailG id n i k L h1
 |hdl id o b u h1 h2 h3=>exact .hdl id o b u h1 h2 h3
 |ptrG id off b h1=>exact .ptrG id off b h1
 |yl id Y pre h1=>exact .yl id Y pre h1
theorem RowAt.still(hok:∀b,ok b→ok' b)(hs:Still ok w w'){k:Nat}{xs:List Tree}{L:Option Nat×Nat}(hb:∀b,L.1=some b→w'.heap[b]? =w.heap[b]?)(h:RowAt w ok k xs L):RowAt w' ok' k xs L:=by
 obtain⟨a1,a2,a3,a4,a5⟩:=h
 refine⟨a1,a2,a3,a4,a5.imp (fun h=>h) ?_⟩
 rintro⟨b,us,e,h1,h2,h3,h4,h5⟩
 exact⟨b,us,e,h1,(hb b h1).trans h2,h3,h4,fun j T u p q=>(h5 j T u p q).still hok hs⟩
theorem MRel.still(hok:∀b,ok b→ok' b)(hs:Still ok w w'){v:MV}{u:Value}{c:Option Nat}(hb:∀b,c=some b→w'.heap[b]? =w.heap[b]?)(h:MRel st m w ok v u c):MRel st m w' ok' v u c:=by
 cases v with
 |im T=>exact⟨h.1.still hok hs,h.2⟩
 |cp cs=>exact⟨h.1.still hok hs,h.2⟩
 |bx cs=>
  obtain⟨b,us,e,h1,h2,h3,h4,h5,h6⟩:=h
  exact⟨b,us,e,h1,h2,(hb b h1).trans h3,h4,h5,fun i T u p q=>(h6 i T u p q).still hok hs⟩
 |rw k xs=>
  obtain⟨L,h1,h2,h3⟩:=h
  exact⟨L,h1,h2,h3.still hok hs (fun b e=>hb b (h2.symm.trans e))⟩
theorem ORel.still(hok:∀b,ok b→ok' b)(hs:Still ok w w'){o:Ob}{L:Option Nat×Nat}{g:List Nat}(hx:∀Y pre,o= .ext Y pre→Y.holds pre g w→(∀b,Y.D b→ok b)→Y.holds pre g w')(hb:∀b,(L.1=some b∨b∈g)→w'.heap[b]? =w.heap[b]?)(h:ORel st m w ok o L g):ORel st m w' ok' o L g:=by
 cases o with
 |box cs=>
  obtain⟨b,us,e,h1,h2,h3,h4⟩:=h
  exact⟨b,us,e,h1,(hb b (.inl h1)).trans h2,h3,fun i v u p q=>⟨(h4 i v u p q).1.still hok hs,(h4 i v u p q).2⟩⟩
 |mat fz xs hh=>
  obtain⟨⟨b,us,e,h1,h2,h3,h4⟩,q⟩:=h
  exact⟨⟨b,us,e,h1,(hb b (.inl h1)).trans h2,h3,fun i v u p q=>⟨(h4 i v u p q).1.still hok hs,(h4 i v u p q).2⟩⟩,q⟩
 |row k fz xs=>exact RowAt.still hok hs (fun b e=>hb b (.inl e)) h
 |gone=>exact h
 |siter s pos=>
  obtain⟨b,h1,h2⟩:=h
  exact⟨b,h1,(hb b (.inl h1)).trans h2⟩
 |mp es hh=>
  obtain⟨b,ents,bl,h1,h2,h3,h4,h5,h6,h7⟩:=h
  refine⟨b,ents,bl,h1,(hb b (.inl h1)).trans h2,h3,h4,h5,h6,fun i x e p q=> ?_⟩
  obtain⟨q1,q2,q3⟩:=h7 i x e p q
  have hbl:∀b',bl i=some b'→w'.heap[b']? =w.heap[b']? :=fun b' e'=>hb b' (.inr (h5 i b' (List.getElem?_eq_some_iff.1 p).1 e').1)
  refine⟨q1,q2,?_⟩
  match hh with
  |none=>exact MRel.still hok hs hbl q3
  |some (k',v')=>exact⟨fun e=>⟨(q3.1 e).1.still hok hs,(q3.1 e).2⟩,fun e=>(q3.2 e).still hok hs hbl⟩
 |miter mid n seen=>
  obtain⟨b,bm,h1,h2,h3,h4⟩:=h
  exact⟨b,bm,h1,h2,h3,(hb b (.inl h1)).trans h4⟩
 |ext Y pre=>
  exact⟨h.1,hx Y pre rfl h.2.1 h.2.2,fun b hD=>hok b (h.2.2 b hD)⟩
theorem okB.grow(hsz:w.heap.size≤w'.heap.size){b:Nat}(h:okB F st m w b):okB F st m w' b:=⟨by have:=h.1;omega,h.2⟩
theorem SRel.still(hS:SRel F st m w)(hs:Still (okB F st m w) w w')(hx:∀id Y pre,st id=some (.ext Y pre)→Y.holds pre (m.g id) w→(∀b,Y.D b→okB F st m w b)→Y.holds pre (m.g id) w')(hsz:w.heap.size≤w'.heap.size)(hb:∀id o b,st id=some o→m.has id b→w'.heap[b]? =w.heap[b]?)(hh:∀b o,F.says b o→w'.heap[b]? =some o):SRel F st m w':=
 ⟨fun id o ho=>(hS.objs id o ho).still (fun b h=>h.grow hsz) hs (fun Y pre e=>hx id Y pre (e▸ho)) (fun b h=>hb id o b ho h),hS.inj,hS.avoid,fun id o b ho h=>Nat.lt_of_lt_of_le (hS.lt id o b ho h) hsz,fun b h=>Nat.lt_of_lt_of_le (hS.low b h) hsz,hh⟩
theorem z1u{D:Nat}{o:Obj}{b:Nat}(h:b≠D):(w.putObj D o).heap[b]? =w.heap[b]? :=World.putObj_heap_other h
theorem y5c(hS:SRel F st m w){D:Nat}(hD:w.heap[D]? =some (.deferred (some [])))(hn:∀id o,st id=some o→¬m.has id D):
 SRel F st m (w.putObj D (.deferred none))∧Still (okB F st m w) w (w.putObj D (.deferred none)):=by
 have hs:Still (okB F st m w) w (w.putObj D (.deferred none)):=fun b us e z _ hc=>z1u (fun e=>by subst e;rw[hD] at hc;cases hc)
 refine⟨hS.still hs (fun id Y pre hi hh _=>Y.stabD _ _ _ _ D hh hD (fun hg=>hn id _ hi (.inr hg)) (by simp) (fun b hb=>z1u hb)) (by simp) (fun id o b ho hb=>z1u (fun e=>hn id o ho (e▸hb))) (fun b o h=> ?_),hs⟩
 rw[z1u (fun e=> ?_)]
 ·exact hS.hold b o h
 ·subst e
  obtain⟨us,e,z,rfl⟩:=F.cel b o h
  have:=hS.hold b _ h
  rw[hD] at this;cases this
theorem z24{fn:Func}{tmps:Array Value}{R:Ending→World→Prop}{l0:List (Nat×Ob)}{m0:Place}{w0:World}(hlo:F.lo=w0.heap.size){sl:List (Nat×AVal)}:∀(l:List Nat) (w:World),l.Nodup→
 (∀D∈l,F.lo≤D∧(∀id o,st id=some o→¬m.has id D)∧w.heap[D]? =some (.deferred (some [])))→SRel F st m w→z1j st m w (okB F st m w) sl tmps→FrameExt F (app emp l0) m0 w0 st m w→
 (∀w',SRel F st m w'→z1j st m w' (okB F st m w') sl tmps→FrameExt F (app emp l0) m0 w0 st m w'→∃v,(results fn tmps).run P w'= .ok v w'∧R (.returned v) w')→LeavesInM Fence.wide 0 P fn tmps R (l.map markD) .returning w
 | [],w,_,_,hS,hsl,hF,hR=>by
  obtain⟨v,h1,h2⟩:=hR w hS hsl hF
  exact⟨v,h1,h2⟩
 |D::l,w,hn,hl,hS,hsl,hF,hR=>by
  rw[List.nodup_cons] at hn
  obtain⟨d1,d2,d3⟩:=hl D List.mem_cons_self
  obtain⟨k1,k2⟩:=y5c hS d3 d2
  refine⟨by simp,.inl ⟨D,_,rfl,run_takeDeferred d3,?_⟩⟩
  refine z24 hlo l _ hn.2 (fun D' hD'=> ?_) k1 (fun t=>(hsl t).still (fun b h=>h.grow (by simp)) k2) ?_ hR
  ·obtain⟨e1,e2,e3⟩:=hl D' (List.mem_cons_of_mem _ hD')
   exact⟨e1,e2,(z1u (fun e=>hn.1 (by rw[←e];exact hD'))).trans e3⟩
  ·refine⟨hF.os,hF.tape,hF.output,by simpa using hF.size,fun b hb hf=> ?_,hF.keep,hF.new⟩
   rw[z1u (fun e=>by omega)]
   exact hF.block b hb hf
end Go.Ab
end
section
set_option linter.unusedVariables false
namespace Go.Ab
open Go
variable {P:Program} {n:Nat} {l0:List (Nat×Ob)} {s:St}
theorem y3c{ty:TypeId}{u v:Value}{w:World}(h:(Instr.loadAt ty u).run P w= .ok v w):∃a,u= .pointer (some a)∧(loadVar ty a).run P w= .ok v w:=by
 unfold Instr.loadAt at h
 cases u with
 |pointer p=>
  cases p with
  |some a=>exact⟨a,rfl,by simpa[Instr.sureAddr] using h⟩
  |none=>simp[Instr.sureAddr,stuck] at h
 |_=>simp[Instr.sureAddr,stuck] at h
def z4S(P:Program)(sl:List (Nat×AVal))(st:Store):List ResultVar→Option (List AVal)
 | []=>some []
 | .tmp t::l=>(z4S P sl st l).map (get sl t:: ·)
 | .cell t ty::l=>match loadK P ty (get sl t) st Orc.no,z4S P sl st l with
  |some ⟨v,_,[]⟩,some vs=>some (v::vs)
  |_,_=>none
def resM(P:Program)(rs:List ResultVar)(sl:List (Nat×AVal))(st:Store):Option AVal:=
 match z4S P sl st rs with
 |some [v]=>some v
 |some vs=>some (.tup vs)
 |none=>none
def FinM(P:Program)(n:Nat)(l0:List (Nat×Ob))(rs:List ResultVar)(res:AVal)(l1:List (Nat×Ob))(e:Exit)(s:St):Prop:=
 (e= .ret∨e= .normal)∧∃s' r0 s2,Le n l0 s s'∧resM P rs s'.sl s'.st=some r0∧Le 1 l0 ⟨[(0,r0)],s'.st,s'.nx⟩ s2∧s2.st=app emp l1∧get s2.sl 0=res
theorem FinM.here{rs:List ResultVar}{res:AVal}{l1:List (Nat×Ob)}{e:Exit}{s':St}(he:e= .ret∨e= .normal)(h:Le n l0 s s')(hs:s'.st=app emp l1)(hr:resM P rs s'.sl s'.st=some res):FinM P n l0 rs res l1 e s:=
 ⟨he,s',res,⟨[(0,res)],s'.st,s'.nx⟩,h,hr,Le.refl _,hs,by simp[get]⟩
theorem FinM.le{rs:List ResultVar}{res:AVal}{l1:List (Nat×Ob)}{e:Exit}{s':St}(h:Le n l0 s s')(k:FinM P n l0 rs res l1 e s'):FinM P n l0 rs res l1 e s:=by
 obtain⟨k1,s2,r0,s3,k2,k3,k4⟩:=k
 exact⟨k1,s2,r0,s3,h.trans k2,k3,k4⟩
theorem z4x{F:Fen P}{m:Place}{w:World}{a:Act}{sl:List (Nat×AVal)}{st:Store}(hS:SRel F st m w)(hsl:∀t,VRel st m w (okB F st m w) (get sl t) (a.tmps.getD t undef))
 (g:ResultVar→Sem Value) (g1:∀t,g (.tmp t)=pure (a.tmps.getD t undef)) (g2:∀t ty b v,a.tmps.getD t undef= .pointer (some b)→(loadVar ty b).run P w= .ok v w→(g (.cell t ty)).run P w= .ok v w):
 ∀(rs:List ResultVar) (vs:List AVal),z4S P sl st rs=some vs→∃us,(rs.mapM g).run P w= .ok us w∧us.length=vs.length∧∀(i:Nat) (v:AVal) (u:Value),vs[i]? =some v→us[i]? =some u→VRel st m w (okB F st m w) v u
 | [],vs,h=>by
  simp only[z4S,Option.some.injEq] at h
  subst h
  exact⟨[],by simp,rfl,fun i v u hv=>by simp at hv⟩
 | .tmp t::l,vs,h=>by
  simp only[z4S,Option.map_eq_some_iff] at h
  obtain⟨vs',h1,rfl⟩:=h
  obtain⟨us,q1,q2,q3⟩:=z4x hS hsl g g1 g2 l vs' h1
  refine⟨a.tmps.getD t undef::us,by rw[List.mapM_cons,g1];simp only[Sem.run_bind,Sem.run_pure,Result.andThen_ok,q1],by simp[q2],fun i v u hv hu=> ?_⟩
  cases i with
  |zero=>simp only[List.getElem?_cons_zero,Option.some.injEq] at hv hu;subst hv;subst hu;exact hsl t
  |succ i=>exact q3 i v u (by simpa using hv) (by simpa using hu)
 | .cell t ty::l,vs,h=>by
  simp only[z4S] at h
  split at h
  ·rename_i v0 wr vs' hk h1
   simp only[Option.some.injEq] at h
   subst h
   obtain⟨us,q1,q2,q3⟩:=z4x hS hsl g g1 g2 l vs' h1
   obtain⟨v,r1,r2,_⟩:=z5C hk trivial (fun _ _ h=>h) hS (hsl t)
   obtain⟨b,hb,r3⟩:=y3c r1
   refine⟨v::us,by rw[List.mapM_cons];simp only[Sem.run_bind,Sem.run_pure,g2 t ty b v hb r3,Result.andThen_ok,q1],by simp[q2],fun i v' u hv hu=> ?_⟩
   cases i with
   |zero=>simp only[List.getElem?_cons_zero,Option.some.injEq] at hv hu;subst hv;subst hu;exact r2
   |succ i=>exact q3 i v' u (by simpa using hv) (by simpa using hu)
  ·cases h
theorem FC.of_simM{f:FuncId}{fn:Func}{c:Code}{args:List AVal}{res:AVal}{l1:List (Nat×Ob)}{nx:Nat}(hf:P.funcs[f]? =some fn)(hb:fn.body=some c)(hn:(args.length).ble fn.ntmps=true)
 (hnx:l0.all (fun x=>Nat.blt x.1 nx)=true) (h:Sim P fn.ntmps l0 c ⟨z2J 0 args,app emp l0,nx⟩ (FinM P fn.ntmps l0 fn.results.toList res l1)):FC P f args (app emp l0) res (app emp l1):=by
 intro F₀ m w us hS hl hr
 obtain⟨F,hF⟩:∃F:Fen P,F={F₀ with rnd:=none,lo:=w.heap.size}:=⟨_,rfl⟩
 have key:∀(F:Fen P),F.rnd=none→F.lo=w.heap.size→SRel F (app emp l0) m w→(∀(i:Nat) (v:AVal) (u:Value),args[i]? =some v→us[i]? =some u→VRel (app emp l0) m w (okB F (app emp l0) m w) v u)→
  Calls P f us.toArray w fun e w'=> ∃v m',e= .returned v∧SRel F (app emp l1) m' w'∧FrameExt F (app emp l0) m w (app emp l1) m' w'∧VRel (app emp l1) m' w' (okB F (app emp l1) m' w') res v:=by
  clear hF F hS hr F₀
  intro F hrnd hlo hS hr
  have hfw:fw F=Fence.wide:=by unfold fw;rw[hrnd];rfl
  have hn:=Nat.le_of_ble_eq_true hn
  refine(callsIn_wide (n:=0)).1 (callsIn_of_wp_marks hf hb trivial ?_ rfl)
  have hrel:Rel F fn.ntmps ⟨z2J 0 args,app emp l0,nx⟩ m {tmps:=us.toArray++Array.replicate (fn.ntmps-us.toArray.size) undef,defers:=[]} w:=by
   refine⟨fun t=> ?_,by simp;omega,Marks.nil (by omega) (fun l hl=>by rw[hrnd] at hl;cases hl),hS,fun id hid=> ?_⟩
   ·rw[z4R,if_pos (Nat.zero_le _),Nat.sub_zero]
    cases ha:args[t]? with
    |none=>exact .junk _
    |some v=>
     have hlt:t<us.length:=by rw[hl];exact(List.getElem?_eq_some_iff.1 ha).1
     have:=hr t v us[t] ha (List.getElem?_eq_getElem hlt)
     have e:(us.toArray++Array.replicate (fn.ntmps-us.toArray.size) undef).getD t undef=us[t]:=by
      have hlt':t< (us.toArray++Array.replicate (fn.ntmps-us.toArray.size) undef).size:=by simp;omega
      simp[Array.getElem?_append,hlt]
     rw[e];exact this
   ·show app emp l0 id=none
    cases hh:app emp l0 id with
    |none=>rfl
    |some o=>
     obtain⟨x,hx,rfl⟩:=List.mem_map.1 (z1L hh)
     have:=Nat.lt_of_succ_le (Nat.le_of_ble_eq_true (List.all_eq_true.1 hnx x hx))
     simp only at hid
     omega
  have hsim:=h F m w m _ w hS hrel (FrameExt.refl F _ m w)
  rw[hfw] at hsim
  refine wpIn_mono hsim ?_
  rintro e a' w' ⟨s,m1,q1,q2,he,s',r0,s2,hle,hres,hle2,hst,hg⟩
  obtain⟨m2,r1,r2⟩:=hle F m w m1 a' w' hS q1 q2
  suffices hlv:LeavesInM Fence.wide 0 P fn a'.tmps (fun e w'=> ∃v m',e= .returned v∧SRel F (app emp l1) m' w'∧FrameExt F (app emp l0) m w (app emp l1) m' w'∧VRel (app emp l1) m' w' (okB F (app emp l1) m' w') res v) a'.defers .returning w' by
   rcases he with rfl|rfl
   ·exact hlv
   ·exact hlv
  obtain⟨⟨ds,hd1,hd2,hd3⟩,-,-⟩:=r1.defers
  rw[hd1]
  refine z24 hlo ds w' hd2 hd3 r1.srel r1.slots r2 (fun w' g1 g2 g3=> ?_)
  have r1:Rel F fn.ntmps s' m2 {tmps:=a'.tmps,defers:=[]} w':=⟨g2,r1.size,Marks.nil (by have:=g3.size;omega) (fun l hl=>by rw[hrnd] at hl;cases hl),g1,r1.fresh⟩
  have r2:=g3
  have hrun:∃v,(results fn a'.tmps).run P w'= .ok v w'∧VRel s'.st m2 w' (okB F s'.st m2 w') r0 v:=by
   unfold resM at hres
   have key:∀vs,z4S P s'.sl s'.st fn.results.toList=some vs→∃us:List Value,(results fn a'.tmps).run P w'= .ok (if h:us.toArray.size=1 then us.toArray[0] else .tuple us.toArray) w'∧us.length=vs.length∧
    ∀(i:Nat) (v:AVal) (u:Value),vs[i]? =some v→us[i]? =some u→VRel s'.st m2 w' (okB F s'.st m2 w') v u:=by
    intro vs hvs
    have e2:fn.results=fn.results.toList.toArray:=by simp
    have hg:∀(g:ResultVar→Sem Value),(∀t,g (.tmp t)=pure (a'.tmps.getD t undef))→(∀t ty b v,a'.tmps.getD t undef= .pointer (some b)→(loadVar ty b).run P w'= .ok v w'→(g (.cell t ty)).run P w'= .ok v w')→∃us:List Value,(fn.results.toList.mapM g).run P w'= .ok us w'∧us.length=vs.length∧
     ∀(i:Nat) (v:AVal) (u:Value),vs[i]? =some v→us[i]? =some u→VRel s'.st m2 w' (okB F s'.st m2 w') v u:=fun g g1 g2=>z4x r1.srel r1.slots (a:=a') g g1 g2 fn.results.toList vs hvs
    obtain⟨us,u1,u2,u3⟩:=hg (fun| .tmp t=>pure (a'.tmps.getD t undef)| .cell t type=>do loadVar type (←asAddr (a'.tmps.getD t undef))) (fun t=>rfl) (fun t ty b v hb hl=>by
     have hb':(a'.tmps[t]?).getD undef= .pointer (some b):=by simpa using hb
     simp[hb',asAddr,hl])
    refine⟨us,?_,u2,u3⟩
    unfold results
    rw[e2,List.mapM_toArray]
    simp only[Sem.run_bind,Sem.run_map]
    erw [u1]
    simp only[Result.andThen_ok,Sem.run_pure]
   split at hres
   ·rename_i v hv
    simp only[Option.some.injEq] at hres
    subst hres
    obtain⟨us,u1,u2,u3⟩:=key _ hv
    match us,u2 with
    | [u],_=>exact⟨u,by rw[u1];rfl,u3 0 v u rfl rfl⟩
   ·rename_i vs hne hvs
    simp only[Option.some.injEq] at hres
    subst hres
    obtain⟨us,u1,u2,u3⟩:=key _ hvs
    have h1:us.toArray.size≠1:=by
     intro e
     simp at e
     match vs,u2 with
     | [v],_=>exact hne v rfl
     | [],u2=>simp at u2;rw[u2] at e;cases e
     |_::_::_,u2=>rw[e] at u2;simp at u2
    exact⟨_,by rw[u1,dif_neg h1],.tup _ _ (by simpa using u2) u3⟩
   ·cases hres
  obtain⟨v,hv1,hv2⟩:=hrun
  have hrel2:Rel F 1 ⟨[(0,r0)],s'.st,s'.nx⟩ m2 {tmps:=#[v],defers:=[]} w':=by
   refine⟨fun t=> ?_,rfl,Marks.nil (by have:=g3.size;omega) (fun l hl=>by rw[hrnd] at hl;cases hl),r1.srel,r1.fresh⟩
   simp only[get]
   by_cases e:0=t
   ·subst e;simpa using hv2
   ·rw[z0L e,cond_false];exact .junk _
  obtain⟨m3,t1,t2⟩:=hle2 F m w m2 _ w' hS hrel2 r2
  have hv3:=t1.slots 0
  rw[hg] at hv3
  have hv3:VRel s2.st m3 w' (okB F s2.st m3 w') res v:=by simpa using hv3
  rw[hst] at hv3 t2
  have hs1:=t1.srel
  rw[hst] at hs1
  exact⟨v,hv1,v,m3,rfl,hs1,t2,hv3⟩
 have hS':SRel F (app emp l0) m w:=by rw[hF];exact⟨hS.objs,hS.inj,hS.avoid,hS.lt,hS.low,hS.hold⟩
 refine(key F (by rw[hF]) (by rw[hF]) hS' (by rw[hF];exact hr)).mono ?_
 rintro e w' ⟨v,m',rfl,k1,k2,k3⟩
 rw[hF] at k1 k2 k3
 exact⟨v,m',rfl,⟨k1.objs,k1.inj,k1.avoid,k1.lt,k1.low,k1.hold⟩,⟨k2.os,k2.tape,k2.output,k2.size,k2.block,k2.keep,k2.new⟩,k3⟩
end Go.Ab
end
section
set_option linter.unusedVariables false
namespace Go.Ab
variable {P:Program} {w:World} {F:Fen P} {S st:Store} {m:Place}
variable {n:Nat} {l0:List (Nat×Ob)} {s:St} {Q:Exit→St→Prop}
theorem Le.slot{t:Nat}{v v':AVal}(hg:get s.sl t=v)(hv:∀st m w ok u,VRel st m w ok v u→VRel st m w ok v' u):Le n l0 s ⟨(t,v')::s.sl,s.st,s.nx⟩:=by
 intro P F m0 w0 m a w h0 h1 h2
 refine⟨m,⟨fun t'=> ?_,h1.size,h1.defers,h1.srel,h1.fresh⟩,h2⟩
 simp only[get]
 by_cases e:t=t'
 ·subst e
  have:=h1.slots t
  rw[hg] at this
  simp only[Nat.beq_refl,cond_true]
  exact hv _ _ _ _ _ this
 ·rw[z0L e,cond_false];exact h1.slots t'
theorem y3d{k:Nat}(hk:0<k):∀(st:Store) (m:Place) (w:World) (ok:Nat→Prop) (u:Value),VRel st m w ok (.t (.sc (.slice none 0 0))) u→VRel st m w ok (.t (.lst k [])) u:=by
 intro st m w ok u h
 have:=VRel.sc_inv h
 subst this
 exact .t _ _ (.lst k [] none 0 [] hk (fun x hx=>by simp at hx) (Nat.le_refl _) (by simp[maxLen]) (fun h=>absurd rfl h) (by simp) (fun j T u hT=>by simp[flat] at hT))
theorem Le.nilLst{t k:Nat}(hg:get s.sl t= .t (.sc (.slice none 0 0)))(hk:Nat.blt 0 k=true):Le n l0 s ⟨(t,.t (.lst k []))::s.sl,s.st,s.nx⟩:=
 Le.slot hg (y3d (z20 hk))
theorem Le.freeze{t:Nat}{v v':AVal}{g:List (Nat×Ob)}{p:List Prop}(hg:get s.sl t=v)(hs:snap s.st v=some (v',g,p))(hp:All p)(hn:g.all (fun x=>Nat.blt x.1 s.nx)=true):Le n l0 s ⟨(t,v')::s.sl,app s.st g,s.nx⟩:=by
 intro P F m0 w0 m a w h0 h1 h2
 have hv:=h1.slots t
 rw[hg] at hv
 have hk:=z0u (fun _ _ h=>h) h1.srel hs hp hv
 obtain⟨r1,r2,r3,r4⟩:=z1f g s.st h1.srel hk.1
 refine⟨m,⟨fun t'=> ?_,h1.size,h1.defers.ext r2,r1,fun id hid=> ?_⟩,h2.trans h0 r2⟩
 ·simp only[get]
  by_cases e:t=t'
  ·subst e
   simp only[Nat.beq_refl,cond_true]
   exact hk.2 g hk.1 (fun x hx=>hx)
  ·rw[z0L e,cond_false]
   exact r2.val (h1.slots t')
 ·show app s.st g id=none
  have hid':s.nx≤id:=hid
  have hm:id∉g.map (·.1):=fun hm=>by
   obtain⟨x,hx,rfl⟩:=List.mem_map.1 hm
   have h1:=List.all_eq_true.1 hn x hx
   have:x.1<s.nx:=Nat.lt_of_succ_le (Nat.le_of_ble_eq_true h1)
   omega
  rw[r4 id hm]
  exact h1.fresh id hid
theorem z9H{S:Store}{m:Place}{w:World}{P:Program}{F:Fen P}(hS:SRel F S m w){v v':AVal}{f:List (Nat×Ob)}{p:List Prop}(h:snapR S v=some (v',f,p))(hp:All p){u:Value}
 (hv:VRel S m w (okB F S m w) v u):y0r F S m w v' f u:=by
 cases v with
 |tup vs=>
  simp only[snapR,Option.map_eq_some_iff] at h
  obtain⟨⟨vs',f',p'⟩,h1,h2⟩:=h
  simp only[Prod.mk.injEq] at h2
  obtain⟨rfl,rfl,rfl⟩:=h2
  cases hv with
  |tup _ us' hl' h1'=>
   have:=z10 (fun _ _ h=>h) hS h1 hp hl' h1'
   exact⟨this.2.1,fun g' hg hfg=> .tup vs' us' this.1.symm (fun i v u hv hu=>this.2.2 g' hg hfg i v u hv hu)⟩
 |t T=>simp only[snapR] at h;exact z0u (fun _ _ h=>h) hS h hp hv
 |row id n=>simp only[snapR] at h;exact z0u (fun _ _ h=>h) hS h hp hv
 |ptr id off=>simp only[snapR] at h;exact z0u (fun _ _ h=>h) hS h hp hv
 |eptr id n i sub=>simp only[snapR] at h;exact z0u (fun _ _ h=>h) hS h hp hv
 |mat id=>simp only[snapR] at h;exact z0u (fun _ _ h=>h) hS h hp hv
 |mptr id i=>simp only[snapR] at h;exact z0u (fun _ _ h=>h) hS h hp hv
 |cptr cs=>simp only[snapR] at h;exact z0u (fun _ _ h=>h) hS h hp hv
 |agg cs=>simp only[snapR] at h;exact z0u (fun _ _ h=>h) hS h hp hv
 |fn f cap=>simp only[snapR] at h;exact z0u (fun _ _ h=>h) hS h hp hv
 |cond c v=>simp only[snapR] at h;exact z0u (fun _ _ h=>h) hS h hp hv
 |junk=>simp only[snapR] at h;exact z0u (fun _ _ h=>h) hS h hp hv
 |anyB=>simp only[snapR] at h;exact z0u (fun _ _ h=>h) hS h hp hv
 |ifc=>simp only[snapR] at h;exact z0u (fun _ _ h=>h) hS h hp hv
 |tail id n i=>simp only[snapR] at h;exact z0u (fun _ _ h=>h) hS h hp hv
 |hdl id=>simp only[snapR] at h;exact z0u (fun _ _ h=>h) hS h hp hv
 |xl k xs=>simp only[snapR] at h;exact z0u (fun _ _ h=>h) hS h hp hv
 |yl id=>simp only[snapR] at h;exact z0u (fun _ _ h=>h) hS h hp hv
 |bsl id n=>simp only[snapR] at h;exact z0u (fun _ _ h=>h) hS h hp hv
theorem Le.freezeR{t:Nat}{v v':AVal}{g:List (Nat×Ob)}{p:List Prop}(hg:get s.sl t=v)(hs:snapR s.st v=some (v',g,p))(hp:All p)(hn:g.all (fun x=>Nat.blt x.1 s.nx)=true):Le n l0 s ⟨(t,v')::s.sl,app s.st g,s.nx⟩:=by
 intro P F m0 w0 m a w h0 h1 h2
 have hv:=h1.slots t
 rw[hg] at hv
 have hk:=z9H h1.srel hs hp hv
 obtain⟨r1,r2,r3,r4⟩:=z1f g s.st h1.srel hk.1
 refine⟨m,⟨fun t'=> ?_,h1.size,h1.defers.ext r2,r1,fun id hid=> ?_⟩,h2.trans h0 r2⟩
 ·simp only[get]
  by_cases e:t=t'
  ·subst e
   simp only[Nat.beq_refl,cond_true]
   exact hk.2 g hk.1 (fun x hx=>hx)
  ·rw[z0L e,cond_false]
   exact r2.val (h1.slots t')
 ·show app s.st g id=none
  have hid':s.nx≤id:=hid
  have hm:id∉g.map (·.1):=fun hm=>by
   obtain⟨x,hx,rfl⟩:=List.mem_map.1 hm
   have h1:=List.all_eq_true.1 hn x hx
   have:x.1<s.nx:=Nat.lt_of_succ_le (Nat.le_of_ble_eq_true h1)
   omega
  rw[r4 id hm]
  exact h1.fresh id hid
theorem y6W{α:Type}{f:α→Tree}{l:List α}:AVal.t (.sc (.int .i64 (l.length:Int)))=AVal.t (.sc (.int .i64 ((l.map f).length:Int))):=by simp
theorem z7t{α:Type}[Inhabited α]{f:α→Tree}{l:List α}{k:Nat}(h:k<l.length):(l.map f)[k]? =some (f (l.getD k default)):=by
 simp[List.getElem?_eq_getElem h,List.getD]
theorem y6X{id n i j k:Nat}(h:i=j):AVal.eptr id n i k=AVal.eptr id n j k:=by rw[h]
theorem y8f{k:IntKind}{a b:Int}:AVal.t (.sc (.int k (max a b)))=AVal.t (.sc (.int k (if b>a then b else a))):=by
 congr 3;split<;>omega
theorem y8g{k:IntKind}{a b:Int}:AVal.t (.sc (.int k (min a b)))=AVal.t (.sc (.int k (if b<a then b else a))):=by
 congr 3;split<;>omega
theorem z6F{α:Type}{f:α→Tree}{l l':List α}{ys:List Tree}{id k:Nat}(h:l'.map f=ys):[(id,Ob.row k false ((l++l').map f))]=[(id,Ob.row k false (l.map f++ys))]:=by
 rw[List.map_append,h]
theorem y3e{α:Type}{f:α→Tree}{l:List α}{x:α}{X:Tree}{id k i:Nat}(h:f x=X):[(id,Ob.row k false ((l.set i x).map f))]=[(id,Ob.row k false ((l.map f).set i X))]:=by
 rw[List.map_set,h]
theorem y6Y{α:Type}{f:α→Tree}{l:List α}{i k:Nat}:AVal.t (.lst k ((l.drop i).map f))=AVal.t (.lst k ((l.map f).drop i)):=by rw[List.map_drop]
theorem y6Z{α:Type}{f:α→Tree}{l:List α}{i k:Nat}:AVal.t (.lst k ((l.take i).map f))=AVal.t (.lst k ((l.map f).take i)):=by rw[List.map_take]
theorem y60{α:Type}{f:α→Tree}{l:List α}{i j k:Nat}:AVal.t (.lst k (((l.take i).drop j).map f))=AVal.t (.lst k (((l.map f).take i).drop j)):=by rw[List.map_drop,List.map_take]
theorem Weak.of_eq{d v:AVal}(h:v=d):Weak d v:=by subst h;exact fun _ _ _ _ _ h=>h
theorem z3X{k:Nat}(hk:0<k):(Tree.sc (.slice none 0 0)=Tree.lst k []∨(Tree.sc (.slice none 0 0)= .sc (.slice none 0 0)∧∃k',0<k'∧Tree.lst k []= .lst k' [])):= .inr ⟨rfl,k,hk,rfl⟩
end Go.Ab
end
section
set_option linter.unusedVariables false
namespace Go.Ab
open Go
variable {P:Program} {w:World} {F:Fen P} {S st:Store} {m:Place}
variable {n:Nat} {l0:List (Nat×Ob)} {s:St}
theorem Elt.of_cell{x:Tree}(h:x.isCell=true):Elt 1 x:=by
 cases x with
 |agg cs=>simp[Tree.isCell] at h
 |sc v=>exact⟨rfl,fun T hT=>by simp[Tree.cells] at hT;subst hT;exact h⟩
 |lst k xs=>exact⟨rfl,fun T hT=>by simp[Tree.cells] at hT;subst hT;exact h⟩
theorem y14{x:Tree}(h:x.isCell=true):x.cells=[x]:=by cases x<;>first|rfl|simp[Tree.isCell] at h
theorem z6G:∀{xs:List Tree},(∀x∈xs,x.isCell=true)→flat xs=xs
 | [],_=>rfl
 |x::xs,h=>by
  rw[flat,y14 (h x (by simp)),z6G (fun y hy=>h y (by simp[hy]))];rfl
theorem y3f(hS:SRel F S m w){id i r q k:Nat}{xs ys:List Tree}{fz:Bool}(hid:S id=some (.mat false xs (some (i,r,q))))(hr:S r=some (.row k fz ys))(hq:q=ys.length):
 SRel F (upd (upd S r (.row k true ys)) id (.mat false (xs.set i (.lst k ys)) none)) m w∧FrameExt F S m w (upd (upd S r (.row k true ys)) id (.mat false (xs.set i (.lst k ys)) none)) m w:=by
 have hne:id≠r:=fun e=>by subst e;rw[hid] at hr;cases hr
 obtain⟨f1,f2⟩:=freeze hS hr
 have hid1:upd S r (.row k true ys) id=some (.mat false xs (some (i,r,q))):=by rw[z0h hne];exact hid
 obtain⟨⟨b,us,e,q1,q2,q3,q4⟩,p1,p2,p3⟩:=f1.objs id _ hid1
 have hT:=z48 f1 (z0i S r (.row k true ys))
 have key:=z0N (o':= .mat false (xs.set i (.lst k ys)) none) f1 hid1 rfl q1 (w':=w) rfl rfl rfl rfl (fun _ _=>rfl) (by simp[Ob.len]) (by simp[Ob.same]) (fun hF=>by
  refine⟨⟨b,us,e,q1,q2,by rw[q3,z1F,z1F];simp,fun j v u hv hu=> ?_⟩,by simpa using p1,by simpa using p2,fun x hx=> ?_⟩
  ·rw[y0w,List.getElem?_set] at hv
   split at hv
   ·rename_i hij
    split at hv
    ·rename_i hlt
     simp only[Option.some.injEq] at hv
     subst hv;subst hij
     obtain⟨r1,r2⟩:=q4 i (.row r q) u (by simp only[matC,List.getElem?_set,if_true];rw[if_pos (by simpa[matC] using hlt)]) hu
     refine⟨?_,r2⟩
     cases r1 with
     |rowG _ _ L hs'=>rw[z0i] at hs';cases hs'
     |row _ _ k' fz' ys' L hs' hn' hu'=>
      rw[z0i] at hs'
      cases hs'
      have hL:=hu' hq
      rw[hL,←hq] at hT
      exact hF.val (.t _ _ hT)
    ·cases hv
   ·rename_i hij
    obtain⟨r1,r2⟩:=q4 j v u (by simp only[matC,List.getElem?_set];rw[if_neg hij];exact hv) hu
    exact⟨hF.val r1,r2⟩
  ·rcases List.mem_or_eq_of_mem_set hx with hx|rfl
   ·exact p3 x hx
   ·rfl)
 exact⟨key.1,f2.trans hS key.2⟩
theorem Le.matClose{id i r q k:Nat}{xs ys:List Tree}{fz:Bool}(hid:s.st id=some (.mat false xs (some (i,r,q))))(hr:s.st r=some (.row k fz ys))(hq:q=ys.length){xs':List Tree}(hx:xs.set i (.lst k ys)=xs'):
 Le n l0 s ⟨s.sl,upd (upd s.st r (.row k true ys)) id (.mat false xs' none),s.nx⟩:=by
 subst hx
 intro P F m0 w0 m a w h0 h1 h2
 obtain⟨r1,r2⟩:=y3f h1.srel hid hr hq
 refine⟨m,⟨fun t'=>r2.val (h1.slots t'),h1.size,h1.defers.ext r2,r1,fun j hj=> ?_⟩,h2.trans h0 r2⟩
 have hj':s.nx≤j:=hj
 have e1:j≠id:=fun e=>by subst e;rw[h1.fresh j hj] at hid;cases hid
 have e2:j≠r:=fun e=>by subst e;rw[h1.fresh j hj] at hr;cases hr
 show upd (upd s.st r (.row k true ys)) id _ j=none
 rw[z0h e1,z0h e2]
 exact h1.fresh j hj
theorem y15(hS:SRel F S m w){id:Nat}{xs:List Tree}(hid:S id=some (.mat false xs none)):
 SRel F (upd S id (.mat true xs none)) m w∧FrameExt F S m w (upd S id (.mat true xs none)) m w∧TRep w (okB F (upd S id (.mat true xs none)) m w) (.lst 1 xs) (z0B (m id) xs.length):=by
 obtain⟨⟨b,us,e,q1,q2,q3,q4⟩,p1,p2,p3⟩:=hS.objs id _ hid
 obtain⟨k1,k2⟩:=z0N (o':= .mat true xs none) hS hid rfl q1 (w':=w) rfl rfl rfl rfl (fun _ _=>rfl) (by simp[Ob.len]) (by simp[Ob.same]) (fun hF=>by
  refine⟨⟨b,us,e,q1,q2,q3,fun j v u hv hu=> ?_⟩,p1,p2,p3⟩
  obtain⟨r1,r2⟩:=q4 j v u hv hu
  exact⟨hF.val r1,r2⟩)
 refine⟨k1,k2,?_⟩
 have hid':upd S id (.mat true xs none) id=some (.mat true xs none):=z0i _ _ _
 obtain⟨⟨b',us',e',q1',q2',q3',q4'⟩,_⟩:=k1.objs id _ hid'
 rw[q1] at q1';cases q1'
 rw[z1F] at q3'
 have hrv:z0B (m id) xs.length= .slice (some ⟨b,0,none⟩) xs.length (m id).2:=by simp[z0B,q1]
 rw[hrv]
 refine .lst 1 xs _ _ us'.toList (by decide) (fun x hx=>Elt.of_cell (p3 x hx)) (by omega) (by omega) (fun _=>⟨b,0,rfl,⟨?_,?_,?_⟩,?_⟩) (by simp;omega) (fun j T u hj hu=> ?_)
 ·exact(Array.getElem?_eq_some_iff.1 q2').1
 ·exact fun hb=>k1.avoid id _ b hid' (.inl q1) (F.sup b hb)
 ·intro i o hi hl hb
  have:=k1.inj id i _ _ b hid' hi (.inl q1) hb
  subst this
  rw[hid'] at hi;cases hi
  simp[Ob.live] at hl
 ·intro j u hu
  simp only[World.cell?,q2'];simpa using hu
 ·rw[z6G p3] at hj
  have hv:(matC xs none)[j]? =some (.t T):=by simp[matC,hj]
  obtain⟨r1,_⟩:=q4' j _ u hv (by simpa using hu)
  cases r1 with
  |t _ _ hT=>exact hT
theorem Le.matFreeze{t id:Nat}{xs:List Tree}(hg:get s.sl t= .mat id)(hid:s.st id=some (.mat false xs none)):Le n l0 s ⟨(t,.t (.lst 1 xs))::s.sl,upd s.st id (.mat true xs none),s.nx⟩:=by
 intro P F m0 w0 m a w h0 h1 h2
 obtain⟨r1,r2,r3⟩:=y15 h1.srel hid
 refine⟨m,⟨fun t'=> ?_,h1.size,h1.defers.ext r2,r1,fun j hj=> ?_⟩,h2.trans h0 r2⟩
 ·simp only[get]
  by_cases e:t=t'
  ·subst e
   simp only[Nat.beq_refl,cond_true]
   have hv:=h1.slots t
   rw[hg] at hv
   generalize a.tmps.getD t undef=u at hv⊢
   cases hv with
   |mat _ fz xs' hh L hs' hm=>
    rw[hid] at hs';cases hs'
    subst hm
    exact .t _ _ r3
  ·rw[z0L e,cond_false];exact r2.val (h1.slots t')
 ·show upd s.st id _ j=none
  rw[z0h (fun e=>by subst e;rw[h1.fresh j hj] at hid;cases hid)]
  exact h1.fresh j hj
end Go.Ab
end
section
set_option linter.unusedVariables false
namespace Go.Ab
open Go
variable {P:Program} {w:World} {F:Fen P} {S st:Store} {m:Place}
variable {n:Nat} {l0:List (Nat×Ob)} {s:St} {Q:Exit→St→Prop}
structure Ox where
 o:Orc
 cs:List Prop
 h:All cs
inductive LeI where
 |nR (t k:Nat)
 |nL (t k:Nat)
 |nB (b i k:Nat)
 |fz (id:Nat)
 |fr (t:Nat) (p:List Prop) (h:All p)
 |eq (t:Nat) (d v:AVal) (h:Weak d v)
 |er (id:Nat) (xs ys:List Tree) (h:xs=ys)
 |kp (ts:List Nat)
 |eb (b i:Nat) (v v':AVal) (h:v=v')
 |mc (id:Nat) (xs':List Tree) (p:List Prop) (h:All p)
 |mf (t:Nat)
 |fR (t:Nat) (p:List Prop) (h:All p)
 |mv (t i j:Nat) (h:i=j)
 |mput (id:Nat) (es':List (Int×MV)) (p:List Prop) (h:All p)
 |mfz (id:Nat) (es':List (Int×MV)) (p:List Prop) (h:All p)
 |me (id:Nat) (es es':List (Int×MV)) (h:es=es')
 |cb (b i:Nat) (ag:Bool) (k:Nat) (p:List Prop) (h:All p)
inductive It where
 |r (xs:List (Nat×Ox))
 |t
 |f
 |u
 |le (x:LeI)
inductive Fr where
 |seq (c:Code)
 |blk (i:Nat)
 |loop (c:Code)
inductive Ctl where
 |run (c:Code)
 |out (e:Exit)
instance:Inhabited Ctl:=⟨.run .skip⟩
structure Cfg where
 ctl:Ctl
 K:List Fr
 s:St
instance:Inhabited Cfg:=⟨⟨default,[],⟨[],emp,0⟩⟩⟩
inductive At where
 |br (b:Bool) (x y:Code) (K:List Fr) (s:St)
 |any (x y:Code) (K:List Fr) (s:St)
 |loop (c:Code) (K:List Fr) (s:St)
 |back (c:Code) (K:List Fr) (s:St)
 |fin (e:Exit) (s:St)
 |mid (c:Code) (K:List Fr) (s:St)
def leR(s:St):LeI→Option (St×List Prop)
 | .nR t k=>match get s.sl t with
  | .t (.sc (.slice none 0 0))=>bif Nat.blt 0 k then some (⟨(t,.row s.nx 0)::s.sl,upd s.st s.nx (.row k false []),s.nx+1⟩,[]) else none
  |_=>none
 | .nL t k=>match get s.sl t with
  | .t (.sc (.slice none 0 0))=>bif Nat.blt 0 k then some (⟨(t,.t (.lst k []))::s.sl,s.st,s.nx⟩,[]) else none
  |_=>none
 | .nB b i k=>match s.st b with
  |some (.box cs)=>match cs[i]? with
   |some (.t (.sc (.slice none 0 0)))=>bif Nat.blt 0 k then some (⟨s.sl,upd (upd s.st s.nx (.row k false [])) b (.box (cs.set i (.row s.nx 0))),s.nx+1⟩,[]) else none
   |_=>none
  |_=>none
 | .fz id=>match s.st id with
  |some (.row k false xs)=>some (⟨s.sl,upd s.st id (.row k true xs),s.nx⟩,[])
  |_=>none
 | .fr t _ _=>match snap s.st (get s.sl t) with
  |some (v',g,p)=>bif g.all (fun x=>Nat.blt x.1 s.nx) then some (⟨(t,v')::s.sl,app s.st g,s.nx⟩,p) else none
  |none=>none
 | .eq t _ v _=>some (⟨(t,v)::s.sl,s.st,s.nx⟩,[Weak (get s.sl t) v])
 | .er id _ ys _=>match s.st id with
  |some (.row k fz xs)=>some (⟨s.sl,upd s.st id (.row k fz ys),s.nx⟩,[xs=ys])
  |_=>none
 | .kp ts=>some (⟨keepS s.sl ts,s.st,s.nx⟩,[])
 | .mc id xs' _ _=>match s.st id with
  |some (.mat false xs (some (i,r,q)))=>match s.st r with
   |some (.row k _ ys)=>some (⟨s.sl,upd (upd s.st r (.row k true ys)) id (.mat false xs' none),s.nx⟩,[q=ys.length,xs.set i (.lst k ys)=xs'])
   |_=>none
  |_=>none
 | .mf t=>match get s.sl t with
  | .mat id=>match s.st id with
   |some (.mat false xs none)=>some (⟨(t,.t (.lst 1 xs))::s.sl,upd s.st id (.mat true xs none),s.nx⟩,[])
   |_=>none
  |_=>none
 | .fR t _ _=>match snapR s.st (get s.sl t) with
  |some (v',g,p)=>bif g.all (fun x=>Nat.blt x.1 s.nx) then some (⟨(t,v')::s.sl,app s.st g,s.nx⟩,p) else none
  |none=>none
 | .mv t _ _ _=>match get s.sl t with
  | .row id q=>match s.st id with
   |some (.row k false xs)=>some (⟨(t,.row s.nx q)::s.sl,upd (upd s.st id .gone) s.nx (.row k false xs),s.nx+1⟩,[q=xs.length])
   |_=>none
  |_=>none
 | .mput id es' _ _=>match s.st id with
  |some (.mp es (some (n,.ptr r 0)))=>match s.st r with
   |some (.box cs)=>bif Nat.beq r id|| !(cs.all z0H) then none else(allT cs).bind fun Ts=>some (⟨s.sl,upd (upd s.st r .gone) id (.mp es' none),s.nx⟩,[(lookE es n).isSome=true,putE es n (.bx Ts)=es'])
   |_=>none
  |some (.mp es (some (n,.row r q)))=>match s.st r with
   |some (.row k false xs)=>bif Nat.beq r id then none else some (⟨s.sl,upd (upd s.st r .gone) id (.mp es' none),s.nx⟩,[q=xs.length,(lookE es n).isSome=true,putE es n (.rw k xs)=es'])
   |_=>none
  |_=>none
 | .mfz id es' _ _=>match s.st id with
  |some (.mp es none)=>some (⟨s.sl,upd s.st id (.mp es' none),s.nx⟩,[(es.map fun x=>(x.1,frz x.2))=es'])
  |_=>none
 | .me id _ es' _=>match s.st id with
  |some (.mp es h)=>some (⟨s.sl,upd s.st id (.mp es' h),s.nx⟩,[es=es'])
  |_=>none
 | .eb b i _ v' _=>match s.st b with
  |some (.box cs)=>match cs[i]? with
   |some v0=>some (⟨s.sl,upd s.st b (.box (cs.set i v')),s.nx⟩,[v0=v'])
   |none=>none
  |_=>none
 | .cb b0 i ag k _ _=>match s.st b0 with
  |some (.box cs0)=>match cs0[i]? with
   |some (.bsl id q)=>match s.st id with
    |some (.box cs)=>match snapL s.st cs with
     |some (cs',g,p)=>bif !(Nat.beq b0 id)&&(g.all (fun x=>Nat.blt x.1 s.nx&&(!(Nat.beq x.1 id)&& !(Nat.beq x.1 b0)))&&(Nat.blt 0 k&&(Nat.ble (q*k) 16777216&&Nat.beq cs.length (q*k)))) then
      (allT cs').bind fun ts=>(group ag k q ts).bind fun xs=>some (⟨s.sl,upd (upd (upd (app s.st g) id .gone) s.nx (.row k false xs)) b0 (.box (cs0.set i (.row s.nx q))),s.nx+1⟩,p) else none
     |none=>none
    |_=>none
   |_=>none
  |_=>none
def leC:LeI→List Prop
 | .cb _ _ _ _ p _=>p
 | .fr _ p _=>p
 | .eq _ d v _=>[Weak d v]
 | .er _ xs ys _=>[xs=ys]
 | .eb _ _ v v' _=>[v=v']
 | .mc _ _ p _=>p
 | .fR _ p _=>p
 | .mv _ i j _=>[i=j]
 | .mput _ _ p _=>p
 | .mfz _ _ p _=>p
 | .me _ es es' _=>[es=es']
 |_=>[]
def runA(P:Program)(n:Nat)(ops:List Oper)(draw:Bool)(orcs:List (Nat×Orc))(s:St):Option (St×List Prop):=
 match runL P ops orcs s.nx 0 ops s with
 |some (s',rs)=>bif (ops.all (dstOk n))&&(!draw||z6t ops s.nx rs) then some (⟨s'.sl,s'.st,s.nx+8*ops.length⟩,allC rs) else none
 |none=>none
def oxO:List (Nat×Ox)→List (Nat×Orc)
 | []=>[]
 | (i,x)::l=>(i,x.o)::oxO l
def apC:List Prop→List Prop→List Prop
 | [],t=>t
 |p::l,t=>p::apC l t
def oxC:List (Nat×Ox)→List Prop→List Prop
 | [],t=>t
 | (_,x)::l,t=>apC x.cs (oxC l t)
def csL:List It→List Prop
 | []=>[]
 | .r xs::l=>oxC xs (csL l)
 | .le x::l=>apC (leC x) (csL l)
 |_::l=>csL l
inductive OutR where
 |fin
 |back (c:Code) (K:List Fr)
 |go (ctl:Ctl) (K:List Fr)
def outS(e:Exit):List Fr→OutR
 | []=> .fin
 | .seq c::K=>match e with
  | .normal=> .go (.run c) K
  |e=> .go (.out e) K
 | .blk i::K=>match e with
  | .exit j=>bif Nat.beq j i then .go (.out .normal) K else .go (.out (.exit j)) K
  |e=> .go (.out e) K
 | .loop c::K=>match e with
  | .normal=> .back c K
  |e=> .go (.out e) K
def go(P:Program)(n:Nat):Nat→List It→Ctl→List Fr→St→List Prop→Option (At×List Prop)
 |0,_,_,_,_,_=>none
 |fuel+1,.le x::sc,ctl,K,s,acc=>match leR s x with
  |some (s',C)=>go P n fuel sc ctl K s' (acc++C)
  |none=>none
 |fuel+1,sc,.run c,K,s,acc=>match c with
  | .seq x y=>go P n fuel sc (.run x) (.seq y::K) s acc
  | .skip=>go P n fuel sc (.out .normal) K s acc
  | .ret=>go P n fuel sc (.out .ret) K s acc
  | .exit i=>go P n fuel sc (.out (.exit i)) K s acc
  | .block i c=>go P n fuel sc (.run c) (.blk i::K) s acc
  | .loop c=>match sc with
   | []=>some (.loop c K s,acc)
   | .u::sc=>go P n fuel sc (.run c) (.loop c::K) s acc
   |_=>none
  | .cond c x y=>match ev s.sl c with
   | .t (.sc (.bool b))=>match sc with
    | []=>some (.br b x y K s,acc)
    | .t::sc=>bif b then go P n fuel sc (.run x) K s acc else none
    | .f::sc=>bif b then none else go P n fuel sc (.run y) K s acc
    |_=>none
   | .anyB=>match sc with
    | []=>some (.any x y K s,acc)
    |_=>none
   |_=>none
  | .region id ops draw=>match sc with
   | []=>some (.mid (.region id ops draw) K s,acc)
   | .r xs::sc=>match runA P n ops.toList draw (oxO xs) s with
    |some (s',C)=>go P n fuel sc (.out .normal) K s' (acc++C)
    |none=>none
   |_=>none
  | .rangeFunc g ps a b=>match sc with
   | []=>some (.mid (.rangeFunc g ps a b) K s,acc)
   |_=>none
  |_=>none
 |fuel+1,sc,.out e,K,s,acc=>match outS e K with
  | .fin=>match sc with
   | []=>some (.fin e s,acc)
   |_=>none
  | .back c K=>match sc with
   | []=>some (.back c K s,acc)
   | .u::sc=>go P n fuel sc (.run c) (.loop c::K) s acc
   |_=>none
  | .go ctl K=>go P n fuel sc ctl K s acc
def wrapK(P:Program)(n:Nat)(l0:List (Nat×Ob)):List Fr→(Exit→St→Prop)→Exit→St→Prop
 | [],Q=>Q
 | .seq c::K,Q=>andThen (fun s=>Sim P n l0 c s (wrapK P n l0 K Q)) (wrapK P n l0 K Q)
 | .blk i::K,Q=>inBlk i (wrapK P n l0 K Q)
 | .loop c::K,Q=>andThen (fun s=>z0O P n l0 c s (wrapK P n l0 K Q)) (wrapK P n l0 K Q)
def z2K(n:Nat)(l0:List (Nat×Ob))(Q:Exit→St→Prop):Prop:=∀e s s',Le n l0 s s'→Q e s'→Q e s
def CtlG(P:Program)(n:Nat)(l0:List (Nat×Ob))(Q:Exit→St→Prop):Ctl→List Fr→St→Prop
 | .run c,K,s=>Sim P n l0 c s (wrapK P n l0 K Q)
 | .out e,K,s=>wrapK P n l0 K Q e s
def AtG(P:Program)(n:Nat)(l0:List (Nat×Ob))(Q:Exit→St→Prop):At→Prop
 | .any x y K s=>Sim P n l0 x s (wrapK P n l0 K Q)∧Sim P n l0 y s (wrapK P n l0 K Q)
 | .br b x y K s=>(b=true→Sim P n l0 x s (wrapK P n l0 K Q))∧(b=false→Sim P n l0 y s (wrapK P n l0 K Q))
 | .loop c K s=>z0O P n l0 c s (wrapK P n l0 K Q)
 | .back c K s=>z0O P n l0 c s (wrapK P n l0 K Q)
 | .fin e s=>Q e s
 | .mid c K s=>Sim P n l0 c s (wrapK P n l0 K Q)
theorem z3f(hQ:z2K n l0 Q):∀(K:List Fr),z2K n l0 (wrapK P n l0 K Q)
 | []=>hQ
 | .seq c::K=>fun e s s' h k=>by
  cases e with
  |normal=>exact Sim.weaken h k
  |_=>exact z3f hQ K _ s s' h k
 | .blk i::K=>fun e s s' h k=>by
  cases e with
  |exit j=>
   simp only[wrapK,inBlk] at k⊢
   split
   ·rename_i hj;rw[if_pos hj] at k;exact z3f hQ K _ s s' h k
   ·rename_i hj;rw[if_neg hj] at k;exact z3f hQ K _ s s' h k
  |_=>exact z3f hQ K _ s s' h k
 | .loop c::K=>fun e s s' h k=>by
  cases e with
  |normal=>exact z0O.weaken h k
  |_=>exact z3f hQ K _ s s' h k
theorem y3g(hQ:z2K n l0 Q){ctl:Ctl}{K:List Fr}{s s':St}(h:Le n l0 s s')(k:CtlG P n l0 Q ctl K s'):CtlG P n l0 Q ctl K s:=by
 cases ctl with
 |run c=>exact Sim.weaken h k
 |out e=>exact z3f hQ K e s s' h k
theorem Le.row{id k:Nat}{fz:Bool}{xs ys:List Tree}(hid:s.st id=some (.row k fz xs))(h:xs=ys):Le n l0 s ⟨s.sl,upd s.st id (.row k fz ys),s.nx⟩:=by
 have e:upd s.st id (.row k fz ys)=s.st:=by
  funext j
  unfold upd
  by_cases hj:j=id
  ·subst hj;simp[hid,h]
  ·rw[z0L hj];rfl
 rw[e]
 exact fun P F m0 w0 m a w h0 h1 h2=>⟨m,h1,h2⟩
theorem Le.boxE{b i:Nat}{cs:List AVal}{v0 v:AVal}(hb:s.st b=some (.box cs))(hi:cs[i]? =some v0)(h:v0=v):Le n l0 s ⟨s.sl,upd s.st b (.box (cs.set i v)),s.nx⟩:=by
 subst h
 have e0:cs.set i v0=cs:=by
  apply List.ext_getElem?
  intro j
  rw[List.getElem?_set]
  split
  ·rename_i hj;subst hj
   have:=(List.getElem?_eq_some_iff.1 hi).1
   rw[if_pos this,hi]
  ·rfl
 have e:upd s.st b (.box (cs.set i v0))=s.st:=by
  funext j
  unfold upd
  by_cases hj:j=b
  ·subst hj;simp[hb,e0]
  ·rw[z0L hj];rfl
 rw[e]
 exact fun P F m0 w0 m a w h0 h1 h2=>⟨m,h1,h2⟩
theorem Le.keep(ts:List Nat):Le n l0 s ⟨keepS s.sl ts,s.st,s.nx⟩:=by
 intro P F m0 w0 m a w h0 h1 h2
 exact⟨m,⟨h1.slots.keep ts,h1.size,h1.defers,h1.srel,h1.fresh⟩,h2⟩
theorem Le.mvRow{t id q k:Nat}{xs:List Tree}(hg:get s.sl t= .row id q)(hs:s.st id=some (.row k false xs))(hq:q=xs.length):
 Le n l0 s ⟨(t,.row s.nx q)::s.sl,upd (upd s.st id .gone) s.nx (.row k false xs),s.nx+1⟩:=by
 intro P F m0 w0 m a w h0 h1 h2
 have hn:s.st s.nx=none:=h1.fresh s.nx (Nat.le_refl _)
 obtain⟨k1,k2⟩:=z6y h1.srel hs hn (Nat.le_refl xs.length)
 rw[List.take_length] at k1 k2
 refine⟨_,⟨fun t'=> ?_,h1.size,h1.defers.ext k2,k1,fun id' hid'=> ?_⟩,h2.trans h0 k2⟩
 ·simp only[get]
  by_cases e:t=t'
  ·subst e
   have hv:=h1.slots t
   rw[hg] at hv
   simp only[Nat.beq_refl,cond_true]
   generalize a.tmps.getD t undef=u at hv
   cases hv with
   |row _ _ k' fz' xs' L hs' hn' hu'=>
    rw[hs] at hs';cases hs'
    have:=hu' hq
    exact .row s.nx q k false xs L (z0i _ _ _) (by omega) (fun _=>by rw[z0s];exact this)
   |rowG _ _ L hs'=>rw[hs] at hs';cases hs'
  ·rw[z0L e,cond_false]
   exact k2.val (h1.slots t')
 ·show upd (upd s.st id .gone) s.nx _ id'=none
  simp only at hid'
  have hne:id'≠id:=fun e=>by subst e;rw[h1.fresh id' (by omega)] at hs;cases hs
  rw[z0h (by omega),z0h hne]
  exact h1.fresh id' (by omega)
theorem Le.closeB{b0 i id q k:Nat}{ag:Bool}{cs0 cs cs':List AVal}{g:List (Nat×Ob)}{p:List Prop}{ts xs:List Tree}(hb0:s.st b0=some (.box cs0))(hg:cs0[i]? =some (.bsl id q))(hs:s.st id=some (.box cs))(e1:snapL s.st cs=some (cs',g,p))(hp:All p)
 (hne0:b0≠id) (hk:g.all (fun x=>Nat.blt x.1 s.nx&&(!(Nat.beq x.1 id)&& !(Nat.beq x.1 b0)))=true) (hk0:0<k) (hbig:q*k≤16777216) (hcl:cs.length=q*k) (e2:allT cs'=some ts) (e3:group ag k q ts=some xs):
 Le n l0 s ⟨s.sl,upd (upd (upd (app s.st g) id .gone) s.nx (.row k false xs)) b0 (.box (cs0.set i (.row s.nx q))),s.nx+1⟩:=by
 intro P F m0 w0 m a w h0 h1 h2
 obtain⟨bb,us0,e0,p1,p2,p3,p4⟩:=h1.srel.objs b0 _ hb0
 have hil:i<us0.size:=by rw[p3];exact(List.getElem?_eq_some_iff.1 hg).1
 have hu0:us0[i]? =some us0[i]:=Array.getElem?_eq_getElem hil
 have hv:=(p4 i _ _ hg hu0).1
 generalize hw0:us0[i]=u0 at hv
 rw[hw0] at hu0
 cases hv with
 |bslG _ _ L hs'=>rw[hs] at hs';cases hs'
 |bsl _ _ cs1 b hs' hm=>
 rw[hs] at hs';cases hs'
 obtain⟨b',us,e,q1,q2,q3,q4⟩:=h1.srel.objs id _ hs
 rw[hm] at q1;cases q1
 have hsn:=z3v (fun _ _ h=>h) h1.srel e1 hp (us:=us.toList) (by simp[q3]) (fun i v u hv hu=>(q4 i v u hv (by simpa using hu)).1)
 obtain⟨r1,r2,r3,r4⟩:=z1f g s.st h1.srel hsn.2.1
 have hno:∀j,j∈g.map (·.1)→j<s.nx∧j≠id∧j≠b0:=fun j hj=>by
  obtain⟨x,hx,rfl⟩:=List.mem_map.1 hj
  have:=List.all_eq_true.1 hk x hx
  simp only[Bool.and_eq_true,Bool.not_eq_true'] at this
  exact⟨Nat.lt_of_succ_le (Nat.le_of_ble_eq_true this.1),fun e=>by rw[e] at this;simp at this,fun e=>by rw[e] at this;simp at this⟩
 have hidg:app s.st g id=some (.box cs):=by rw[r4 id (fun h=>(hno id h).2.1 rfl)];exact hs
 have hn:app s.st g s.nx=none:=by rw[r4 s.nx (fun h=>absurd (hno _ h).1 (Nat.lt_irrefl _))];exact h1.fresh s.nx (Nat.le_refl _)
 have hbn:b0≠s.nx:=fun e=>by rw[e,h1.fresh s.nx (Nat.le_refl _)] at hb0;cases hb0
 have hts:=z1G e2
 have hrep:∀(j:Nat) (T:Tree) (u:Value),ts[j]? =some T→us[j]? =some u→TRep w (okB F (app s.st g) m w) T u:=fun j T u hT hu=>by
  have:=hsn.2.2 g hsn.2.1 (fun x hx=>hx) j (.t T) u (by rw[hts,List.getElem?_map,hT];rfl) (by simpa using hu)
  cases this with
  |t _ _ h=>exact h
 have hone:∀(j:Nat) (u:Value),us[j]? =some u→u.oneCell'=true:=fun j u hu=>by
  have hj:j<cs.length:=by rw[←q3];exact(Array.getElem?_eq_some_iff.1 hu).1
  exact(q4 j _ u (List.getElem?_eq_getElem hj) hu).2
 have htl:ts.length=us.size:=by have:=hsn.1;rw[hts] at this;simpa using this
 have hcellT:∀T∈ts,T.isCell=true:=fun T hT=>by
  obtain⟨j,hj,rfl⟩:=List.mem_iff_getElem.1 hT
  have hj':j<us.size:=by rw[←htl];exact hj
  have a1:=hrep j _ us[j] (List.getElem?_eq_getElem hj) (Array.getElem?_eq_getElem hj')
  have a2:=hone j us[j] (Array.getElem?_eq_getElem hj')
  generalize ts[j]=T at a1
  generalize us[j]=u at a1 a2
  cases a1 with
  |agg=>simp[Value.oneCell'] at a2
  |sc=>rfl
  |lst=>rfl
 obtain⟨g1,g2,g3⟩:=z4u e3 hcellT
 obtain⟨k1,k2⟩:=y2Y (o':= .row k false xs) r1 hidg hn rfl trivial (by simp[Ob.len]) (fun hF=>by
  refine⟨hk0,g3,by rw[g2,hm];exact Nat.le_refl _,?_,.inr ⟨b,us,e,by rw[hm],q2,by rw[q3,hcl,hm],hone,fun j T u hj hu=>hF.tree (hrep j T u (by rw[←g1];exact hj) hu)⟩⟩
  have:=Nat.le_mul_of_pos_right q hk0
  rw[hm];simp only[maxLen];omega)
 have hb':upd (upd (app s.st g) id .gone) s.nx (.row k false xs) b0=some (.box cs0):=by rw[z0h hbn,z0h hne0,r4 b0 (fun h=>(hno _ h).2.2 rfl)];exact hb0
 obtain⟨bb',us',e',s1,s2,s3,s4⟩:=k1.objs b0 _ hb'
 have s1':=s1
 rw[z0J hbn,z0J hne0,p1] at s1'
 cases s1'
 have hss:=p2.symm.trans s2
 simp only[Option.some.injEq,Go.Obj.cells.injEq] at hss
 have key:=z0N (o':= .box (cs0.set i (.row s.nx q))) k1 hb' rfl s1 (w':=w) rfl rfl rfl rfl (fun _ _=>rfl) (by simp[Ob.len]) (by simp[Ob.same]) (fun hF=>by
  refine⟨bb,us',e',s1,s2,by simp[s3],fun j v u hv hu=> ?_⟩
  rw[List.getElem?_set] at hv
  split at hv
  ·rename_i hij
   subst hij
   split at hv
   ·simp only[Option.some.injEq] at hv
    subst hv
    rw[←hss.1,hu0] at hu
    cases hu
    exact⟨.row s.nx q k false xs (some b,q) (by rw[z0h (Ne.symm hbn)];exact z0i _ _ _) (by omega) (fun _=>by rw[z0s];exact hm),rfl⟩
   ·cases hv
  ·obtain⟨t1,t2⟩:=s4 j v u hv hu
   exact⟨hF.val t1,t2⟩)
 have k3:=(r2.trans h1.srel k2).trans h1.srel key.2
 refine⟨_,⟨fun t'=>k3.val (h1.slots t'),h1.size,h1.defers.ext k3,key.1,fun id' hid'=> ?_⟩,h2.trans h0 k3⟩
 show upd (upd (upd (app s.st g) id .gone) s.nx _) b0 _ id'=none
 simp only at hid'
 have hne:∀x ob,s.st x=some ob→id'≠x:=fun x ob hx e=>by subst e;rw[h1.fresh id' (by omega)] at hx;cases hx
 rw[z0h (hne _ _ hb0),z0h (by omega),z0h (hne _ _ hs),r4 id' (fun h=>by have:=(hno _ h).1;omega)]
 exact h1.fresh id' (by omega)
theorem z8u{S:Store}{nx id i:Nat}{o o':Ob}(h:∀id,nx≤id→S id=none)(hi:S i=some o')(hid:nx≤id):upd S i o id=none:=by
 have:id≠i:=fun e=>by subst e;rw[h id hid] at hi;cases hi
 rw[z0h this];exact h id hid
theorem Le.ghost'{S':Store}(h:∀{P:Program} (F:Fen P) (m:Place) (w:World),SRel F s.st m w→(∀id,s.nx≤id→s.st id=none)→(∀id,s.nx≤id→S' id=none)∧∃m',SRel F S' m' w∧FrameExt F s.st m w S' m' w):Le n l0 s ⟨s.sl,S',s.nx⟩:=by
 intro P F m0 w0 m a w h0 h1 h2
 obtain⟨hn,m',k1,k2⟩:=h F m w h1.srel h1.fresh
 exact⟨m',⟨fun t=>k2.val (h1.slots t),h1.size,h1.defers.ext k2,k1,hn⟩,h2.trans h0 k2⟩
theorem Le.mput{id r:Nat}{es es':List (Int×MV)}{k:Int}{v:AVal}{o:Ob}{mv:MV}(hid:s.st id=some (.mp es (some (k,v))))(hr:s.st r=some o)(hlive:o.live=true)(hsame:o.same .gone)
 (hlen:∀{P:Program} (F:Fen P) (m:Place) (w:World),SRel F s.st m w→o.len<18446744073709551616) (hri:r≠id) (hl:(lookE es k).isSome=true) (he:putE es k mv=es')
 (hv:∀{P:Program} (F:Fen P) (m:Place) (w:World),SRel F s.st m w→∀u,VRel s.st m w (okB F s.st m w) v u→∀S' m' w',FrameExt F s.st m w S' m' w'→(∀x,(m r).1=some x→w'.heap[x]? =w.heap[x]?)→MRel S' m' w' (okB F S' m' w') mv u (m r).1):
 Le n l0 s ⟨s.sl,upd (upd s.st r .gone) id (.mp es' none),s.nx⟩:=by
 subst he
 obtain⟨v0,hv0⟩:=Option.isSome_iff_exists.1 hl
 obtain⟨i,h1,h2⟩:=z3b hv0
 refine Le.ghost' (fun F m w hS hf=>⟨fun id' hid'=> ?_,y45 hS hid h1 h2 hr hlive hsame (hlen F m w hS) hri (hv F m w hS)⟩)
 have e1:id'≠id:=fun e=>by subst e;rw[hf id' hid'] at hid;cases hid
 rw[z0h e1]
 exact z8u hf hr hid'
theorem z8v{x:LeI}{s':St}{C:List Prop}(h:leR s x=some (s',C))(hC:All C):Le n l0 s s':=by
 cases x with
 |nR t k=>
  simp only[leR] at h
  split at h
  ·rename_i hg
   obtain⟨hk,h⟩:=z0k h
   cases h
   exact Le.nilRow hg (by simp) hk
  ·cases h
 |nL t k=>
  simp only[leR] at h
  split at h
  ·rename_i hg
   obtain⟨hk,h⟩:=z0k h
   cases h
   exact Le.nilLst hg hk
  ·cases h
 |nB b i k=>
  simp only[leR] at h
  split at h
  ·rename_i cs hb
   split at h
   ·rename_i hg
    obtain⟨hk,h⟩:=z0k h
    cases h
    exact Le.nilBox hb hg (by simp) hk
   ·cases h
  ·cases h
 |fz id=>
  simp only[leR] at h
  split at h
  ·rename_i hb;cases h;exact Le.fz hb
  ·cases h
 |fr t p hp=>
  simp only[leR] at h
  split at h
  ·rename_i v' g p hs
   obtain⟨hk,h⟩:=z0k h
   cases h
   exact Le.freeze rfl hs hC hk
  ·cases h
 |fR t p hp=>
  simp only[leR] at h
  split at h
  ·rename_i v' g p hs
   obtain⟨hk,h⟩:=z0k h
   cases h
   exact Le.freezeR rfl hs hC hk
  ·cases h
 |eq t d v hw=>
  simp only[leR] at h
  cases h
  exact Le.slot rfl hC.1
 |er id xs ys he=>
  simp only[leR] at h
  split at h
  ·rename_i hb;cases h;exact Le.row hb hC.1
  ·cases h
 |kp ts=>
  simp only[leR] at h
  cases h
  exact Le.keep ts
 |mc id xs' p hp=>
  simp only[leR] at h
  split at h
  ·rename_i hid
   split at h
   ·rename_i hr
    cases h
    exact Le.matClose hid hr hC.1 hC.2.1
   ·cases h
  ·cases h
 |mf t=>
  simp only[leR] at h
  split at h
  ·rename_i hg
   split at h
   ·rename_i hid;cases h;exact Le.matFreeze hg hid
   ·cases h
  ·cases h
 |cb b0 i ag k p hp=>
  simp only[leR] at h
  split at h
  rotate_left
  ·cases h
  rename_i cs0 hb0
  split at h
  rotate_left
  ·cases h
  rename_i id q hg
  split at h
  rotate_left
  ·cases h
  rename_i cs hs
  split at h
  rotate_left
  ·cases h
  rename_i cs' g p hsn
  obtain⟨hk,h⟩:=z0k h
  simp only[Option.bind_eq_some_iff] at h
  obtain⟨ts,h1,xs,h2,h⟩:=h
  cases h
  simp only[Bool.and_eq_true,Bool.not_eq_true'] at hk
  obtain⟨c1,c2,c3,c4,c5⟩:=hk
  exact Le.closeB hb0 hg hs hsn hC (fun e=>by rw[e] at c1;simp at c1) c2 (z20 c3) (Nat.le_of_ble_eq_true c4) (Nat.eq_of_beq_eq_true c5) h1 h2
 |mv t i j he=>
  simp only[leR] at h
  split at h
  ·rename_i hg
   split at h
   ·rename_i hid;cases h;exact Le.mvRow hg hid hC.1
   ·cases h
  ·cases h
 |mput id es' p hp=>
  simp only[leR] at h
  split at h
  ·rename_i es k r hid
   split at h
   ·rename_i cs hr
    cases hri:(Nat.beq r id|| !cs.all z0H) with
    |true=>rw[hri] at h;cases h
    |false=>
     rw[hri,cond_false] at h
     simp only[Option.bind_eq_some_iff,Option.some.injEq,Prod.mk.injEq] at h
     obtain⟨Ts,hTs,rfl,rfl⟩:=h
     simp only[Bool.or_eq_false_iff] at hri
     have hne:r≠id:=fun e=>by subst e;simp at hri
     obtain⟨c1,c2,-⟩:=hC
     have hcs:=z1G hTs
     subst hcs
     refine @Le.mput _ _ _ _ _ _ _ _ _ _ (.bx Ts) hid hr rfl trivial (fun F m w hS=>by simp[Ob.len]) hne c1 c2 (@fun P F m w hS u hv S' m' w' hF hx=> ?_)
     obtain⟨bb,us,ty,q1,q2,q3,q4⟩:=hS.objs r _ hr
     have huv:u= .pointer (some ⟨bb,0,none⟩):=by
      cases hv with
      |ptrG _ _ _ hs'=>rw[hr] at hs';cases hs'
      |ptr _ _ cs' b' hs' hm=>rw[q1] at hm;cases hm;rfl
     refine⟨bb,us,ty,q1,huv,(hx bb q1).trans q2,by simpa using q3,fun T hT=> ?_,fun i T u a b'=>hF.tree ?_⟩
     ·have:=hri.2
      simp only[Bool.not_eq_false',List.all_eq_true] at this
      exact this (.t T) (List.mem_map.2 ⟨T,hT,rfl⟩)
     ·have:=(q4 i (.t T) u (by simp[a]) b').1
      cases this with
      |t _ _ h=>exact h
   ·cases h
  ·rename_i es k r q hid
   split at h
   ·rename_i k' xs hr
    cases hri:Nat.beq r id with
    |true=>rw[hri] at h;cases h
    |false=>
     rw[hri,cond_false] at h
     simp only[Option.some.injEq,Prod.mk.injEq] at h
     obtain⟨rfl,rfl⟩:=h
     have hne:r≠id:=fun e=>by subst e;simp at hri
     obtain⟨c0,c1,c2,-⟩:=hC
     refine @Le.mput _ _ _ _ _ _ _ _ _ _ (.rw k' xs) hid hr rfl trivial (@fun P F m w hS=> ?_) hne c1 c2 (@fun P F m w hS u hv S' m' w' hF hx=> ?_)
     ·obtain⟨_,_,a3,a4,_⟩:=hS.objs r _ hr
      simp only[maxLen] at a4;simp only[Ob.len];omega
     ·refine⟨m r,?_,rfl,RowAt.persist hF (hS.objs r _ hr) hx⟩
      cases hv with
      |rowG _ _ L hs'=>rw[hr] at hs';cases hs'
      |row _ _ k'' fz' xs' L hs' hn' hu'=>
       rw[hr] at hs';cases hs'
       rw[hu' c0,c0]
   ·cases h
  ·cases h
 |mfz id es' p hp=>
  simp only[leR] at h
  split at h
  ·rename_i es hid
   simp only[Option.some.injEq,Prod.mk.injEq] at h
   obtain⟨rfl,rfl⟩:=h
   obtain⟨rfl,-⟩:=hC
   exact Le.ghost' (fun F m w hS hf=>⟨fun id' hid'=>z8u hf hid hid',y46 hS hid⟩)
  ·cases h
 |me id es1 es' he=>
  simp only[leR] at h
  split at h
  ·rename_i es hh hid
   simp only[Option.some.injEq,Prod.mk.injEq] at h
   obtain⟨rfl,rfl⟩:=h
   obtain⟨rfl,-⟩:=hC
   have e:upd s.st id (.mp es hh)=s.st:=by
    funext j
    unfold upd
    by_cases hj:j=id
    ·subst hj;simp[hid]
    ·rw[z0L hj];rfl
   rw[e]
   exact fun P F m0 w0 m a w h0 h1 h2=>⟨m,h1,h2⟩
  ·cases h
 |eb b i v v' he=>
  simp only[leR] at h
  split at h
  ·rename_i cs hb
   split at h
   ·rename_i v0 hi;cases h;exact Le.boxE hb hi hC.1
   ·cases h
  ·cases h
theorem z3Y:∀(ks:List Nat) (sl:List (Nat×AVal)) (t:Nat),t∈ks→get (keepS sl ks) t=get sl t
 |k::ks,sl,t,h=>by
  simp only[keepS,get]
  by_cases e:k=t
  ·subst e;simp
  ·rw[z0L e]
   rcases List.mem_cons.1 h with h|h
   ·exact absurd h.symm e
   ·exact z3Y ks sl t h
theorem y3h:∀(sl:List (Nat×AVal)) (t:Nat),t∉sl.map (·.1)→get sl t= .junk
 | [],t,h=>rfl
 | (k,v)::sl,t,h=>by
  simp only[List.map_cons,List.mem_cons,not_or] at h
  simp only[get]
  rw[z0L (Ne.symm h.1)]
  exact y3h sl t h.2
theorem z3s(sl:List (Nat×AVal))(t:Nat):get (keepS sl (sl.map (·.1))) t=get sl t:=by
 by_cases h:t∈sl.map (·.1)
 ·exact z3Y _ _ _ h
 ·rcases z5K (sl.map (·.1)) sl t with e|e
  ·exact e
  ·rw[e,y3h sl t h]
theorem Rel.slots_eq{sl sl':List (Nat×AVal)}{st:Store}{nx:Nat}{a:Act}(h:Rel F n ⟨sl,st,nx⟩ m a w)(e:∀t,get sl' t=get sl t):Rel F n ⟨sl',st,nx⟩ m a w:=
 ⟨fun t=>by rw[e];exact h.slots t,h.size,h.defers,h.srel,h.fresh⟩
theorem y5d(hm:P.follows .mixedOrders=true){id:Nat}{ops:Array Oper}{draw:Bool}{orcs:List (Nat×Orc)}{s':St}{C:List Prop}(h:runA P n ops.toList draw orcs s=some (s',C))(hC:All C)(hq:Q .normal s'):
 Sim P n l0 (.region id ops draw) s Q:=by
 unfold runA at h
 split at h
 rotate_left
 ·cases h
 rename_i s2 rs hrun
 obtain⟨h1,h2⟩:=z0k h
 cases h2
 have hR:runR P n ops.toList draw orcs (s2.sl.map (·.1)) s=some (⟨keepS s2.sl (s2.sl.map (·.1)),s2.st,s.nx+8*ops.toList.length⟩,allC rs):=by
  unfold runR
  rw[hrun]
  simp only[h1,cond_true]
 intro F m0 w0 m a w h0 r1 r2
 cases draw with
 |false=>
  have:=y26 hR hC r1 (Q:=fun e a' w'=> ∃s' m',Rel F n s' m' a' w'∧FrameExt F (app emp l0) m0 w0 s'.st m' w'∧Q e s') (fun m' a' w' q1 q2=>⟨⟨s2.sl,s2.st,s.nx+8*ops.toList.length⟩,m',q1.slots_eq (fun t=>(z3s _ t).symm),r2.trans h0 q2,hq⟩) id
  simpa using this
 |true=>
  have:=y29 hm hR hC r1 (Q:=fun e a' w'=> ∃s' m',Rel F n s' m' a' w'∧FrameExt F (app emp l0) m0 w0 s'.st m' w'∧Q e s') (fun m' a' w' q1 q2=>⟨⟨s2.sl,s2.st,s.nx+8*ops.toList.length⟩,m',q1.slots_eq (fun t=>(z3s _ t).symm),r2.trans h0 q2,hq⟩) id
  simpa using this
theorem z5Q{a b:List Prop}:All (a++b)↔All a∧All b:=z0A
theorem y5e{e:Exit}{K:List Fr}(h:outS e K= .fin):K=[]:=by
 cases K with
 |nil=>rfl
 |cons f K=>
  cases f with
  |seq c=>cases e<;>simp[outS] at h
  |blk i=>
   cases e with
   |exit j=>simp only[outS] at h;cases hj:Nat.beq j i<;>rw[hj] at h<;>simp at h
   |_=>simp[outS] at h
  |loop c=>cases e<;>simp[outS] at h
theorem z8w{e:Exit}{K K':List Fr}{c:Code}(h:outS e K= .back c K')(hA:z0O P n l0 c s (wrapK P n l0 K' Q)):wrapK P n l0 K Q e s:=by
 cases K with
 |nil=>simp[outS] at h
 |cons f K=>
  cases f with
  |seq c=>cases e<;>simp[outS] at h
  |blk i=>
   cases e with
   |exit j=>simp only[outS] at h;cases hj:Nat.beq j i<;>rw[hj] at h<;>simp at h
   |_=>simp[outS] at h
  |loop c=>
   cases e with
   |normal=>simp only[outS] at h;cases h;exact hA
   |_=>simp[outS] at h
theorem y61{e:Exit}{K K':List Fr}{ctl:Ctl}(h:outS e K= .go ctl K')(hA:CtlG P n l0 Q ctl K' s):wrapK P n l0 K Q e s:=by
 cases K with
 |nil=>simp[outS] at h
 |cons f K=>
  cases f with
  |seq c=>cases e<;>(simp only[outS] at h;cases h;exact hA)
  |blk i=>
   cases e with
   |exit j=>
    simp only[outS] at h
    show inBlk i _ (.exit j) s
    simp only[inBlk]
    cases hj:Nat.beq j i with
    |true=>rw[hj] at h;cases h;rw[if_pos (Nat.eq_of_beq_eq_true hj)];exact hA
    |false=>rw[hj] at h;cases h;rw[if_neg (fun e=>by subst e;simp at hj)];exact hA
   |_=>simp only[outS] at h;cases h;exact hA
  |loop c=>
   cases e with
   |normal=>simp[outS] at h
   |_=>simp only[outS] at h;cases h;exact hA
theorem y5f(hm:P.follows .mixedOrders=true)(hQ:z2K n l0 Q):∀(fuel:Nat) (sc:List It) (ctl:Ctl) (K:List Fr) (s:St) (acc:List Prop) (a:At) (C:List Prop),
 go P n fuel sc ctl K s acc=some (a,C)→All C→AtG P n l0 Q a→All acc∧CtlG P n l0 Q ctl K s:=by
 intro fuel
 induction fuel with
 |zero=>intro sc ctl K s acc a C h;simp[go] at h
 |succ fuel ih=>
  intro sc ctl K s acc a C h hC hA
  unfold go at h
  split at h
  ·cases h
  ·
   rename_i x sc' K' s' acc' hfu
   cases hfu
   split at h
   ·rename_i s2 C2 hle
    obtain⟨q1,q2⟩:=ih _ _ _ _ _ _ _ h hC hA
    rw[z5Q] at q1
    exact⟨q1.1,y3g hQ (z8v hle q1.2) q2⟩
   ·cases h
  ·
   rename_i fuel2 c hfu _
   cases hfu
   split at h
   ·obtain⟨q1,q2⟩:=ih _ _ _ _ _ _ _ h hC hA;exact⟨q1,Sim.seq q2⟩
   ·obtain⟨q1,q2⟩:=ih _ _ _ _ _ _ _ h hC hA;exact⟨q1,Sim.skip q2⟩
   ·obtain⟨q1,q2⟩:=ih _ _ _ _ _ _ _ h hC hA;exact⟨q1,Sim.ret q2⟩
   ·obtain⟨q1,q2⟩:=ih _ _ _ _ _ _ _ h hC hA;exact⟨q1,Sim.exit q2⟩
   ·obtain⟨q1,q2⟩:=ih _ _ _ _ _ _ _ h hC hA;exact⟨q1,Sim.block q2⟩
   ·split at h
    ·cases h;exact⟨hC,Sim.loop hA⟩
    ·obtain⟨q1,q2⟩:=ih _ _ _ _ _ _ _ h hC hA;exact⟨q1,Sim.loop (z0O.step q2)⟩
    ·cases h
   ·split at h
    ·rename_i b hb
     split at h
     ·cases h;exact⟨hC,Sim.cond hb hA.1 hA.2⟩
     ·cases b with
      |true=>obtain⟨q1,q2⟩:=ih _ _ _ _ _ _ _ h hC hA;exact⟨q1,Sim.cond hb (fun _=>q2) (fun e=>by cases e)⟩
      |false=>cases h
     ·cases b with
      |false=>obtain⟨q1,q2⟩:=ih _ _ _ _ _ _ _ h hC hA;exact⟨q1,Sim.cond hb (fun e=>by cases e) (fun _=>q2)⟩
      |true=>cases h
     ·cases h
    ·rename_i hb
     split at h
     ·cases h;exact⟨hC,Sim.condAny hb hA.1 hA.2⟩
     ·cases h
    ·cases h
   ·split at h
    ·cases h;exact⟨hC,hA⟩
    ·split at h
     ·rename_i s2 C2 hr
      obtain⟨q1,q2⟩:=ih _ _ _ _ _ _ _ h hC hA
      rw[z5Q] at q1
      exact⟨q1.1,y5d hm hr q1.2 q2⟩
     ·cases h
    ·cases h
   ·split at h
    ·cases h;exact⟨hC,hA⟩
    ·cases h
   ·cases h
  ·
   rename_i fuel2 e hfu _
   cases hfu
   split at h
   ·rename_i ho
    split at h
    ·cases h;exact⟨hC,by rw[y5e ho];exact hA⟩
    ·cases h
   ·rename_i c K' ho
    split at h
    ·cases h;exact⟨hC,z8w ho hA⟩
    ·obtain⟨q1,q2⟩:=ih _ _ _ _ _ _ _ h hC hA;exact⟨q1,z8w ho (z0O.step q2)⟩
    ·cases h
   ·rename_i ctl K' ho
    obtain⟨q1,q2⟩:=ih _ _ _ _ _ _ _ h hC hA
    exact⟨q1,y61 ho q2⟩
end Go.Ab
end
section
set_option linter.unusedVariables false
namespace Go.Ab
open Go
variable {P:Program} {n:Nat} {l0:List (Nat×Ob)} {Q:Exit→St→Prop}
abbrev VI(x:Int):AVal:= .t (.sc (.int .i64 x))
abbrev VB(b:Bool):AVal:= .t (.sc (.bool b))
abbrev VS(s:ByteArray):AVal:= .t (.sc (.string s))
abbrev VN:AVal:= .t (.sc (.slice none 0 0))
abbrev VL{α:Type}(k:Nat)(f:α→Tree)(l:List α):AVal:= .t (.lst k (l.map f))
abbrev TI(x:Int):Tree:= .sc (.int .i64 x)
abbrev TB(b:Bool):Tree:= .sc (.bool b)
abbrev TS(s:ByteArray):Tree:= .sc (.string s)
abbrev TN:Tree:= .sc (.slice none 0 0)
abbrev TL{α:Type}(k:Nat)(f:α→Tree)(l:List α):Tree:= .lst k (l.map f)
abbrev OR{α:Type}(k:Nat)(f:α→Tree)(l:List α):Ob:= .row k false (l.map f)
abbrev OF{α:Type}(k:Nat)(f:α→Tree)(l:List α):Ob:= .row k true (l.map f)
structure SimC(P:Program)(n:Nat)(l0:List (Nat×Ob))(Q:Exit→St→Prop)(c:Cfg):Prop where
 run:P.follows .mixedOrders=true→z2K n l0 Q→CtlG P n l0 Q c.ctl c.K c.s
def runP(P:Program)(n:Nat)(sc:List It)(c:Cfg):Option (At×List Prop):=go P n 100000 sc c.ctl c.K c.s []
theorem y3i:∀(x:LeI),All (leC x)
 | .fr _ p h=>h
 | .eq _ d v h=>⟨h,trivial⟩
 | .er _ xs ys h=>⟨h,trivial⟩
 | .nR _ _=>trivial
 | .nL _ _=>trivial
 | .nB _ _ _=>trivial
 | .fz _=>trivial
 | .kp _=>trivial
 | .eb _ _ _ _ h=>⟨h,trivial⟩
 | .mc _ _ _ h=>h
 | .fR _ _ h=>h
 | .mv _ _ _ h=>⟨h,trivial⟩
 | .mf _=>trivial
 | .mput _ _ _ h=>h
 | .mfz _ _ _ h=>h
 | .me _ _ _ h=>⟨h,trivial⟩
 | .cb _ _ _ _ _ h=>h
theorem z7u:∀{l t:List Prop},All l→All t→All (apC l t)
 | [],t,_,h=>h
 |p::l,t,hp,h=>⟨hp.1,z7u hp.2 h⟩
theorem y3j:∀(l:List (Nat×Ox)) {t:List Prop},All t→All (oxC l t)
 | [],t,h=>h
 | (_,x)::l,t,h=>z7u x.h (y3j l h)
theorem z15:∀(sc:List It),All (csL sc)
 | []=>trivial
 | .r xs::l=>y3j xs (z15 l)
 | .le x::l=>z7u (y3i x) (z15 l)
 | .t::l=>z15 l
 | .f::l=>z15 l
 | .u::l=>z15 l
theorem z2u{sc:List It}{c:Cfg}{a:At}{C:List Prop}(h:runP P n sc c=some (a,C))(hC:All C)(hA:P.follows .mixedOrders=true→z2K n l0 Q→AtG P n l0 Q a):SimC P n l0 Q c:=
 ⟨fun hm hQ=>(y5f hm hQ _ _ _ _ _ _ _ _ h hC (hA hm hQ)).2⟩
def brQ:Option (At×List Prop)→Option (Bool×List Prop)
 |some (.br b _ _ _ _,C)=>some (b,C)
 |_=>none
def brX(v:Bool):Option (At×List Prop)→Cfg
 |some (.br _ x y K s,_)=>⟨.run (bif v then x else y),K,s⟩
 |_=>default
theorem SimC.br{c:Cfg}(sc:List It)(b:Bool)(ht:b=true→SimC P n l0 Q (brX true (runP P n sc c)))(hf:b=false→SimC P n l0 Q (brX false (runP P n sc c)))
 (h:brQ (runP P n sc c)=some (b,csL sc):=by kernel_rfl):SimC P n l0 Q c:=by
 generalize hr:runP P n sc c=r at*
 match r,h with
 |some (.br b' x y K s,C),h=>
  simp only[brQ,Option.some.injEq,Prod.mk.injEq] at h
  obtain⟨rfl,rfl⟩:=h
  exact z2u hr (z15 sc) (fun hm hQ=>⟨fun e=>(ht e).run hm hQ,fun e=>(hf e).run hm hQ⟩)
class BP(b:Bool)(t f:outParam Prop):Prop where
 t:b=true→t
 f:b=false→f
instance (priority:=10) BP.any (b:Bool):BP b (b=true) (b=false):=⟨id,id⟩
instance (priority:=100) BP.dec (p:Prop) [Decidable p]:BP (decide p) p (¬p):=⟨of_decide_eq_true,of_decide_eq_false⟩
instance BP.ilt (a b:Int) [Decidable (a<b)]:BP (decide (a<b)) (a<b) (b≤a):=⟨of_decide_eq_true,fun h=>Int.not_lt.1 (of_decide_eq_false h)⟩
instance BP.ile (a b:Int) [Decidable (a≤b)]:BP (decide (a≤b)) (a≤b) (b<a):=⟨of_decide_eq_true,fun h=>Int.not_le.1 (of_decide_eq_false h)⟩
instance BP.not (b:Bool) {t f:Prop} [h:BP b t f]:BP (!b) f t:=⟨fun e=>h.f (by simpa using e),fun e=>h.t (by simpa using e)⟩
instance BP.and (a b:Bool) {t f t' f':Prop} [h:BP a t f] [k:BP b t' f']:BP (a&&b) (t∧t') (f∨f'):=⟨fun e=>by rw[Bool.and_eq_true] at e;exact⟨h.t e.1,k.t e.2⟩,fun e=>by rw[Bool.and_eq_false_iff] at e;exact e.imp h.f k.f⟩
instance BP.or (a b:Bool) {t f t' f':Prop} [h:BP a t f] [k:BP b t' f']:BP (a||b) (t∨t') (f∧f'):=⟨fun e=>by rw[Bool.or_eq_true] at e;exact e.imp h.t k.t,fun e=>by rw[Bool.or_eq_false_iff] at e;exact⟨h.f e.1,k.f e.2⟩⟩
instance BP.beq {α:Type} [BEq α] [LawfulBEq α] (a b:α):BP (a==b) (a=b) (¬a=b):=⟨fun e=>beq_iff_eq.1 e,fun e=>beq_eq_false_iff_ne.1 e⟩
instance BP.bne {α:Type} [BEq α] [LawfulBEq α] (a b:α):BP (a !=b) (¬a=b) (a=b):=⟨fun e=>bne_iff_ne.1 e,fun e=>bne_eq_false_iff_eq.1 e⟩
theorem SimC.bp{c:Cfg}(sc:List It)(b:Bool){t f:Prop}[hb:BP b t f](ht:t→SimC P n l0 Q (brX true (runP P n sc c)))(hf:f→SimC P n l0 Q (brX false (runP P n sc c)))
 (h:brQ (runP P n sc c)=some (b,csL sc):=by kernel_rfl):SimC P n l0 Q c:=SimC.br sc b (fun e=>ht (hb.t e)) (fun e=>hf (hb.f e)) h
def anQ:Option (At×List Prop)→Option (List Prop)
 |some (.any _ _ _ _,C)=>some C
 |_=>none
def anX(v:Bool):Option (At×List Prop)→Cfg
 |some (.any x y K s,_)=>⟨.run (bif v then x else y),K,s⟩
 |_=>default
theorem SimC.any{c:Cfg}(sc:List It)(ht:SimC P n l0 Q (anX true (runP P n sc c)))(hf:SimC P n l0 Q (anX false (runP P n sc c)))
 (h:anQ (runP P n sc c)=some (csL sc):=by kernel_rfl):SimC P n l0 Q c:=by
 generalize hr:runP P n sc c=r at*
 match r,h with
 |some (.any x y K s,C),h=>
  simp only[anQ,Option.some.injEq] at h
  subst h
  exact z2u hr (z15 sc) (fun hm hQ=>⟨ht.run hm hQ,hf.run hm hQ⟩)
def mkSt(p:List (Nat×AVal)×List (Nat×Ob))(nx:Nat):St:=⟨p.1,app emp p.2,nx⟩
def idT:List (Nat×Ob)→List (Nat×Nat)
 | []=>[]
 | (i,_)::l=>(i,i)::idT l
def keysT:List (Nat×AVal)→List Nat
 | []=>[]
 | (i,_)::l=>i::keysT l
def lpQ(l0:List (Nat×Ob))(nx:Nat)(p:List (Nat×AVal)×List (Nat×Ob)):Option (At×List Prop)→Option ((List (Nat×AVal)×List (Nat×Ob))×List Prop)
 |some (.loop _ _ s,C)=>match renSt l0 (idT p.2) (keysT p.1) nx s with
  |some p=>some (p,C)
  |none=>none
 |_=>none
def lpC:Option (At×List Prop)→Code
 |some (.loop c _ _,_)=>c
 |_=>default
def lpK:Option (At×List Prop)→List Fr
 |some (.loop _ K _,_)=>K
 |_=>[]
theorem SimC.loop{c:Cfg}{α:Type}(sc:List It)(nx:Nat)(S:α→List (Nat×AVal)×List (Nat×Ob))(I:α→Prop)(μ:α→Nat)(a:α)(ha:I a)
 (round:∀a,I a→(∀b,I b→μ b<μ a→z0O P n l0 (lpC (runP P n sc c)) (mkSt (S b) nx) (wrapK P n l0 (lpK (runP P n sc c)) Q))→
  SimC P n l0 Q ⟨.run (lpC (runP P n sc c)),.loop (lpC (runP P n sc c))::lpK (runP P n sc c),mkSt (S a) nx⟩)
 (h:lpQ l0 nx (S a) (runP P n sc c)=some (S a,csL sc):=by kernel_rfl):SimC P n l0 Q c:=by
 generalize hr:runP P n sc c=r at*
 match r,h with
 |some (.loop x K s,C),h=>
  simp only[lpQ] at h
  split at h
  ·rename_i p hp
   simp only[Option.some.injEq,Prod.mk.injEq] at h
   obtain⟨rfl,rfl⟩:=h
   refine z2u hr (z15 sc) (fun hm hQ=> ?_)
   have hle:Le n l0 s (mkSt (S a) nx):=Le.ren hp
   refine z0O.weaken hle ?_
   exact y5a (fun a=>mkSt (S a) nx) I μ (fun a hI ih=>z0O.step ((round a hI ih).run hm hQ)) a ha
  ·cases h
def bkQ(l0:List (Nat×Ob))(τ:List (Nat×Nat))(nx:Nat)(p:List (Nat×AVal)×List (Nat×Ob)):Option (At×List Prop)→Option ((List (Nat×AVal)×List (Nat×Ob))×List Prop)
 |some (.back _ _ s,C)=>match renSt l0 τ (keysT p.1) nx s with
  |some p=>some (p,C)
  |none=>none
 |_=>none
def bkC:Option (At×List Prop)→Option (Code×List Fr)
 |some (.back c K _,_)=>some (c,K)
 |_=>none
theorem SimC.back{c:Cfg}(sc:List It)(τ:List (Nat×Nat)){p:List (Nat×AVal)×List (Nat×Ob)}{nx:Nat}{body:Code}{K:List Fr}(ih:z0O P n l0 body (mkSt p nx) (wrapK P n l0 K Q))
 (h:bkQ l0 τ nx p (runP P n sc c)=some (p,csL sc):=by kernel_rfl) (hc:bkC (runP P n sc c)=some (body,K):=by kernel_rfl):SimC P n l0 Q c:=by
 generalize hr:runP P n sc c=r at*
 match r,h,hc with
 |some (.back x K' s,C),h,hc=>
  simp only[bkC,Option.some.injEq,Prod.mk.injEq] at hc
  obtain⟨rfl,rfl⟩:=hc
  simp only[bkQ] at h
  split at h
  ·rename_i p' hp
   simp only[Option.some.injEq,Prod.mk.injEq] at h
   obtain⟨rfl,rfl⟩:=h
   exact z2u hr (z15 sc) (fun hm hQ=>z0O.weaken (Le.ren hp) ih)
  ·cases h
abbrev FinX:=FinM
theorem y62{rv:List ResultVar}{res:AVal}{l1:List (Nat×Ob)}:z2K n l0 (FinX P n l0 rv res l1):=fun _ _ _ h k=>FinM.le h k
def resX(P:Program)(rv:List ResultVar)(sl:List (Nat×AVal))(l:List (Nat×Ob)):Option AVal:=resM P rv sl (app emp l)
def y3k:List ResultVar→List Nat
 | []=>[]
 | .tmp t::l=>t::y3k l
 | .cell t _::l=>t::y3k l
def nxOf:List (Nat×Ob)→Nat
 | []=>0
 | (i,_)::l=>bif Nat.blt i (nxOf l) then nxOf l else i+1
def nxT:List (Nat×Nat)→Nat
 | []=>0
 | (_,i)::l=>bif Nat.blt i (nxT l) then nxT l else i+1
def isEnd:Exit→Bool
 | .ret=>true
 | .normal=>true
 |_=>false
def fnQ(P:Program)(l0:List (Nat×Ob))(τ:List (Nat×Nat))(rv:List ResultVar):Option (At×List Prop)→Option (AVal×List (Nat×Ob)×List Prop)
 |some (.fin e s,C)=>bif isEnd e then match renSt l0 τ (y3k rv) (nxT τ) s with
  |some (sl,l)=>match resX P rv sl l with
   |some r=>some (r,l,C)
   |none=>none
  |none=>none
  else none
 |_=>none
theorem y0M{e:Exit}(h:isEnd e=true):e= .ret∨e= .normal:=by cases e<;>simp[isEnd] at h⊢
theorem SimC.finE{c:Cfg}{rv:List ResultVar}{res:AVal}{l1:List (Nat×Ob)}{β:Type}(sc:List It)(τ:List (Nat×Nat))(R:β→AVal×List (Nat×Ob))(x y:β)(e:y=x)
 (h:fnQ P l0 τ rv (runP P n sc c)=some ((R x).1,(R x).2,csL sc):=by kernel_rfl) (hR:R y=(res,l1):=by kernel_rfl):SimC P n l0 (FinX P n l0 rv res l1) c:=by
 subst e
 rw[hR] at h
 generalize hr:runP P n sc c=r at*
 match r,h with
 |some (.fin e s,C),h=>
  simp only[fnQ] at h
  cases he:isEnd e with
  |false=>rw[he] at h;cases h
  |true=>
   rw[he] at h
   simp only[cond_true] at h
   split at h
   ·rename_i sl l hs
    split at h
    ·rename_i r hres
     simp only[Option.some.injEq,Prod.mk.injEq] at h
     obtain⟨rfl,rfl,rfl⟩:=h
     exact z2u hr (z15 sc) (fun hm hQ=>FinM.here (y0M he) (Le.ren hs) rfl hres)
    ·cases h
   ·cases h
theorem SimC.fin{c:Cfg}{rv:List ResultVar}{res:AVal}{l1:List (Nat×Ob)}(sc:List It)(τ:List (Nat×Nat))(h:fnQ P l0 τ rv (runP P n sc c)=some (res,l1,csL sc):=by kernel_rfl):SimC P n l0 (FinX P n l0 rv res l1) c:=
 SimC.finE sc τ (fun z=>z) (res,l1) (res,l1) rfl h rfl
def leS(s:St):List LeI→Option (St×List Prop)
 | []=>some (s,[])
 |x::l=>match leR s x with
  |some (s',C)=>match leS s' l with
   |some (s2,C2)=>some (s2,apC C C2)
   |none=>none
  |none=>none
def leCs:List LeI→List Prop
 | []=>[]
 |x::l=>apC (leC x) (leCs l)
theorem y0N:∀l:List LeI,All (leCs l)
 | []=>trivial
 |x::l=>z7u (y3i x) (y0N l)
theorem z9I:∀{l t:List Prop},All (apC l t)→All l∧All t
 | [],_,h=>⟨trivial,h⟩
 |_::_,_,h=>⟨⟨h.1,(z9I h.2).1⟩,(z9I h.2).2⟩
theorem z8x:∀{l:List LeI} {s s':St} {C:List Prop},leS s l=some (s',C)→All C→Le n l0 s s'
 | [],s,s',C,h,_=>by
  simp only[leS,Option.some.injEq,Prod.mk.injEq] at h
  obtain⟨rfl,rfl⟩:=h
  exact Le.refl _
 |x::l,s,s',C,h,hC=>by
  simp only[leS] at h
  split at h
  ·rename_i s1 C1 h1
   split at h
   ·rename_i s2 C2 h2
    simp only[Option.some.injEq,Prod.mk.injEq] at h
    obtain⟨rfl,rfl⟩:=h
    obtain⟨q1,q2⟩:=z9I hC
    exact Le.trans (z8v h1 q1) (z8x h2 q2)
   ·cases h
  ·cases h
def fvQ(P:Program)(l0:List (Nat×Ob))(les:List LeI)(τ:List (Nat×Nat))(rv:List ResultVar):Option (At×List Prop)→Option (AVal×List (Nat×Ob)×List Prop×List Prop)
 |some (.fin e s,C)=>bif isEnd e then match resM P rv s.sl s.st with
  |some r0=>match leS ⟨[(0,r0)],s.st,s.nx⟩ les with
   |some (s2,D)=>match renSt l0 τ [0] (nxT τ) s2 with
    |some (sl,l)=>some (get sl 0,l,C,D)
    |none=>none
   |none=>none
  |none=>none
  else none
 |_=>none
theorem SimC.finVE{c:Cfg}{rv:List ResultVar}{res:AVal}{l1:List (Nat×Ob)}{β:Type}(sc:List It)(les:List LeI)(τ:List (Nat×Nat))(R:β→AVal×List (Nat×Ob))(x y:β)(e:y=x)
 (h:fvQ P l0 les τ rv (runP P n sc c)=some ((R x).1,(R x).2,csL sc,leCs les):=by kernel_rfl) (hR:R y=(res,l1):=by kernel_rfl):SimC P n l0 (FinX P n l0 rv res l1) c:=by
 subst e
 rw[hR] at h
 generalize hr:runP P n sc c=r at*
 match r,h with
 |some (.fin e s,C),h=>
  simp only[fvQ] at h
  cases he:isEnd e with
  |false=>rw[he] at h;cases h
  |true=>
   rw[he] at h
   simp only[cond_true] at h
   split at h
   ·rename_i r0 hr0
    split at h
    ·rename_i s2 D hD
     split at h
     ·rename_i sl l hs
      simp only[Option.some.injEq,Prod.mk.injEq] at h
      obtain⟨rfl,rfl,rfl,rfl⟩:=h
      exact z2u hr (z15 sc) (fun hm hQ=>⟨y0M he,s,r0,⟨sl,app emp l,nxT τ⟩,Le.refl _,hr0,Le.trans (z8x hD (y0N les)) (Le.ren hs),rfl,rfl⟩)
     ·cases h
    ·cases h
   ·cases h
theorem SimC.finV{c:Cfg}{rv:List ResultVar}{res:AVal}{l1:List (Nat×Ob)}(sc:List It)(les:List LeI)(τ:List (Nat×Nat))(h:fvQ P l0 les τ rv (runP P n sc c)=some (res,l1,csL sc,leCs les):=by kernel_rfl):SimC P n l0 (FinX P n l0 rv res l1) c:=
 SimC.finVE sc les τ (fun z=>z) (res,l1) (res,l1) rfl h rfl
theorem SimC.at{c:Cfg}(nx:Nat)(τ:List (Nat×Nat))(p:List (Nat×AVal)×List (Nat×Ob))(k:SimC P n l0 Q ⟨c.ctl,c.K,mkSt p nx⟩)(h:renSt l0 τ (keysT p.1) nx c.s=some p:=by kernel_rfl):SimC P n l0 Q c:=
 ⟨fun hm hQ=>y3g hQ (Le.ren h) (k.run hm hQ)⟩
theorem SimC.len{x:Code}{K:List Fr}{s:St}{α:Type}(t:Nat){k:Nat}{f:α→Tree}{l:List α}(h:l.length≤9223372036854775807→SimC P n l0 Q ⟨.run x,K,s⟩)(hg:get s.sl t=VL k f l:=by rfl):SimC P n l0 Q ⟨.run x,K,s⟩:=
 ⟨fun hm hQ=>Sim.len (t:=t) (k:=k) (xs:=l.map f) hg (fun hl=>(h (by simpa using hl)).run hm hQ)⟩
def y3l(fn:Func):Code:=fn.body.getD default
theorem FC.go{f:FuncId}{args:List AVal}{res:AVal}{l1:List (Nat×Ob)}(fn:Func)(h:SimC P fn.ntmps l0 (FinX P fn.ntmps l0 fn.results.toList res l1) ⟨.run (y3l fn),[],⟨z2J 0 args,app emp l0,nxOf l0⟩⟩)
 (hf:P.funcs[f]? =some fn:=by kernel_rfl) (hn:((args.length).ble fn.ntmps&&fn.body.isSome)=true:=by kernel_rfl) (hm:P.follows .mixedOrders=true:=by kernel_rfl):FC P f args (app emp l0) res (app emp l1):=by
 simp only[Bool.and_eq_true] at hn
 obtain⟨c,hb⟩:=Option.isSome_iff_exists.1 hn.2
 have hc:y3l fn=c:=by unfold y3l;rw[hb];rfl
 have hx:∀l:List (Nat×Ob),l.all (fun x=>Nat.blt x.1 (nxOf l))=true:=by
  have key:∀l:List (Nat×Ob),∀x∈l,x.1<nxOf l:=by
   intro l
   induction l with
   |nil=>intro x h;simp at h
   |cons y l ih=>
    intro x hx
    obtain⟨i,o⟩:=y
    simp only[nxOf]
    cases hh:Nat.blt i (nxOf l) with
    |true=>
     have:=Nat.lt_of_succ_le (Nat.le_of_ble_eq_true hh)
     rcases List.mem_cons.1 hx with rfl|hx
     ·exact this
     ·exact ih x hx
    |false=>
     rcases List.mem_cons.1 hx with rfl|hx
     ·exact Nat.lt_succ_self _
     ·have h1:=ih x hx
      have h2:¬(i<nxOf l):=fun h=>by rw[show Nat.blt i (nxOf l)=true from Nat.ble_eq_true_of_le h] at hh;cases hh
      simp only[cond_false]
      omega
  intro l
  exact List.all_eq_true.2 fun x hx=>Nat.ble_eq_true_of_le (key l x hx)
 have h:=h.run hm y62
 simp only[CtlG,wrapK,hc] at h
 exact FC.of_simM hf hb hn.1 (hx l0) h
end Go.Ab
end
section
set_option linter.unusedVariables false
namespace Go.Ab
open Go
variable {P:Program}
structure Px(p:Prop) where
 o:Orc
 cs:List Prop
 h:p→All cs
def gdC(e:Bool):List Prop→List Prop
 | []=>[]
 |p::l=>(e=true→p)::gdC e l
theorem y3m{e:Bool}:∀{l:List Prop},(e=true→All l)→All (gdC e l)
 | [],_=>trivial
 |p::l,h=>⟨fun he=>(h he).1,y3m fun he=>(h he).2⟩
def X{p:Prop}(x:Px p)(h:p:=by first|with_reducible exact True.intro|omega| (and_intros<;>first|omega|with_reducible rfl|with_reducible assumption|with_reducible exact True.intro| (simp only[List.length_map];omega)| (simp[-List.getD_eq_getElem?_getD];omega)| (simp;omega)| (simp;done))):Ox:=⟨x.o,x.cs,x.h h⟩
def oV(v:AVal):Orc:=⟨some v,none,none,none,[]⟩
def oE(x:Tree):Orc:=⟨none,none,some x,none,[]⟩
def Xc(p:Prop):Px p:=⟨Orc.no,[p],fun h=>⟨h,trivial⟩⟩
def X0:Px True:=⟨Orc.no,[],fun _=>trivial⟩
def Xa{p q:Prop}(x:Px p)(y:Px q):Px (p∧q):=⟨y.o,x.cs++y.cs,fun h=>z5Q.2 ⟨x.h h.1,y.h h.2⟩⟩
def Xn(a:Int):Px (-9223372036854775808≤a∧a≤9223372036854775807):=⟨oV (VI a),[Weak (VI (IntKind.i64.wrap a)) (VI a)],fun h=>⟨Weak.of_eq (nw h),trivial⟩⟩
def Xmax(a b:Int):Px True:=⟨oV (VI (max a b)),[Weak (VI (if b>a then b else a)) (VI (max a b))],fun _=>⟨Weak.of_eq y8f,trivial⟩⟩
def Xmin(a b:Int):Px True:=⟨oV (VI (min a b)),[Weak (VI (if b<a then b else a)) (VI (min a b))],fun _=>⟨Weak.of_eq y8g,trivial⟩⟩
def Xl{α:Type}(f:α→Tree)(l:List α):Px True:=⟨oV (VI (l.length:Int)),[Weak (VI ((l.map f).length:Int)) (VI (l.length:Int))],fun _=>⟨Weak.of_eq y6W,trivial⟩⟩
def Xi{α:Type}[Inhabited α](f:α→Tree)(l:List α)(j:Int):Px (0≤j∧j< (l.length:Int)):=
 ⟨oE (f (l.getD j.toNat default)),[0≤j,(l.map f)[j.toNat]? =some (f (l.getD j.toNat default))],fun h=>⟨h.1,y6V h.1 h.2,trivial⟩⟩
def Xi'{α:Type}[Inhabited α](f:α→Tree)(l:List α)(j:Int)(k:Nat):Px (j=(k:Int)∧k<l.length):=
 ⟨oE (f (l.getD k default)),[0≤j,(l.map f)[j.toNat]? =some (f (l.getD k default))],fun h=>⟨by omega,y5b h.1 h.2,trivial⟩⟩
def Xp{α:Type}(f:α→Tree)(o:List α)(j:Int):Px (0≤j∧j< (o.length:Int)):=
 ⟨Orc.no,[o.length=(o.map f).length,0≤j,j< (o.length:Int)],fun h=>⟨List.length_map _|>.symm,h.1,h.2,trivial⟩⟩
def Xp'{α:Type}(f:α→Tree)(id:Nat)(o:List α)(j:Int)(k:Nat):Px (j=(k:Int)∧k<o.length):=
 ⟨oV (.eptr id o.length k 0),[o.length=(o.map f).length,0≤j,j< (o.length:Int),Weak (.eptr id o.length j.toNat 0) (.eptr id o.length k 0)],
  fun h=>⟨List.length_map _|>.symm,by omega,by omega,Weak.of_eq (y6X (by omega)),trivial⟩⟩
def Xe{α:Type}[Inhabited α](f:α→Tree)(o:List α)(i:Nat):Px (i<o.length):=
 ⟨oE (f (o.getD i default)),[o.length=(o.map f).length,(o.map f)[i]? =some (f (o.getD i default))],fun h=>⟨List.length_map _|>.symm,z7t h,trivial⟩⟩
def Xs{α:Type}[Inhabited α](k:Nat)(f:α→Tree)(id:Nat)(o:List α)(i:Nat)(x:α)(g:List (Nat×Ob):=[]):Px (i<o.length):=
 ⟨⟨none,some (g++[(id,.row k false ((o.set i x).map f))]),some (f (o.getD i default)),none,[]⟩,
  [o.length=(o.map f).length,(o.map f)[i]? =some (f (o.getD i default)),g++[(id,Ob.row k false ((o.set i x).map f))]=g++[(id,Ob.row k false ((o.map f).set i (f x)))]],
  fun h=>⟨List.length_map _|>.symm,z7t h,by rw[y3e rfl],trivial⟩⟩
def Xst{α:Type}(f:α→Tree)(k:Nat)(l:List α)(hi:Int):Px (0≤hi∧hi≤(l.length:Int)):=
 ⟨oV (VL k f (l.take hi.toNat)),[0≤hi,hi≤(((l.map f).length:Nat):Int),Weak (.t (.lst k ((l.map f).take hi.toNat))) (VL k f (l.take hi.toNat))],fun h=>⟨h.1,by rw[List.length_map];exact h.2,Weak.of_eq y6Z,trivial⟩⟩
def Xsd{α:Type}(f:α→Tree)(k:Nat)(l:List α)(lo:Int):Px (0≤lo∧lo≤(l.length:Int)):=
 ⟨oV (VL k f (l.drop lo.toNat)),[0≤lo,lo≤(((l.map f).length:Nat):Int),Weak (.t (.lst k ((l.map f).drop lo.toNat))) (VL k f (l.drop lo.toNat))],fun h=>⟨h.1,by rw[List.length_map];exact h.2,Weak.of_eq y6Y,trivial⟩⟩
def Xsb{α:Type}(f:α→Tree)(k:Nat)(l:List α)(lo hi:Int):Px (0≤lo∧lo≤hi∧hi≤(l.length:Int)):=
 ⟨oV (VL k f ((l.take hi.toNat).drop lo.toNat)),[0≤lo,lo≤hi,hi≤(((l.map f).length:Nat):Int),Weak (.t (.lst k (((l.map f).take hi.toNat).drop lo.toNat))) (VL k f ((l.take hi.toNat).drop lo.toNat))],
  fun h=>⟨h.1,h.2.1,by rw[List.length_map];exact h.2.2,Weak.of_eq y60,trivial⟩⟩
def rowC{p:Prop}{α:Type}(f:α→Tree)(o:List α)(x:Px p):Px p:=⟨x.o,(o.length=(o.map f).length)::x.cs,fun h=>⟨List.length_map _|>.symm,x.h h⟩⟩
theorem lm{α:Type}{n:Nat}{f:α→Tree}{o:List α}(h:n=o.length:=by first|with_reducible rfl|omega| (simp;done)| (simp[-List.getD_eq_getElem?_getD];omega)| (simp;omega)):n=(o.map f).length:=by rw[List.length_map];exact h
def rowX{p:Prop}{α:Type}(n:Nat)(f:α→Tree)(o:List α)(x:Px p)(h:n=o.length:=by first|omega| (simp;done)| (simp[-List.getD_eq_getElem?_getD];omega)| (simp;omega)):Px p:=⟨x.o,(n=(o.map f).length)::x.cs,fun hp=>⟨by rw[List.length_map];exact h,x.h hp⟩⟩
def Xen{α:Type}[Inhabited α](n:Nat)(f:α→Tree)(o:List α)(i:Nat):Px (n=o.length∧i<o.length):=
 ⟨oE (f (o.getD i default)),[n=(o.map f).length,(o.map f)[i]? =some (f (o.getD i default))],fun h=>⟨by rw[List.length_map];exact h.1,z7t h.2,trivial⟩⟩
def Xpn{α:Type}(n:Nat)(f:α→Tree)(o:List α)(j:Int):Px (n=o.length∧0≤j∧j< (n:Int)):=
 ⟨Orc.no,[n=(o.map f).length,0≤j,j< (n:Int)],fun h=>⟨by rw[List.length_map];exact h.1,h.2.1,h.2.2,trivial⟩⟩
def Xsn{α:Type}[Inhabited α](n k:Nat)(f:α→Tree)(id:Nat)(o:List α)(i:Nat)(x:α)(g:List (Nat×Ob):=[]):Px (n=o.length∧i<o.length):=
 ⟨⟨none,some (g++[(id,.row k false ((o.set i x).map f))]),some (f (o.getD i default)),none,[]⟩,
  [n=(o.map f).length,(o.map f)[i]? =some (f (o.getD i default)),g++[(id,Ob.row k false ((o.set i x).map f))]=g++[(id,Ob.row k false ((o.map f).set i (f x)))]],
  fun h=>⟨by rw[List.length_map];exact h.1,z7t h.2,by rw[y3e rfl],trivial⟩⟩
def Xb(s:ByteArray)(j:Int):Px (0≤j∧j< (s.size:Int)):=⟨Orc.no,[0≤j,j< (s.size:Int)],fun h=>⟨h.1,h.2,trivial⟩⟩
def Xan{α:Type}(f:α→Tree)(id:Nat)(ys:List α):Px (ys.length≤1099511627776):=
 ⟨oV (.row id ys.length),[(ys.map f).length≤1099511627776,Weak (.row id (ys.map f).length) (.row id ys.length)],fun h=>⟨by rw[List.length_map];exact h,Weak.of_eq (by rw[List.length_map]),trivial⟩⟩
def Xap{α:Type}(k:Nat)(f:α→Tree)(id:Nat)(o ys:List α):Px (o.length+ys.length≤1099511627776):=
 ⟨⟨some (.row id (o++ys).length),some [(id,.row k false ((o++ys).map f))],none,none,[]⟩,
  [o.length=(o.map f).length,o.length+(ys.map f).length≤1099511627776,Weak (.row id (o.length+(ys.map f).length)) (.row id (o++ys).length),[(id,Ob.row k false ((o++ys).map f))]=[(id,Ob.row k false (o.map f++ys.map f))]],
  fun h=>⟨List.length_map _|>.symm,by rw[List.length_map];exact h,Weak.of_eq (by simp),z6F rfl,trivial⟩⟩
def XapB{α:Type}(k:Nat)(f:α→Tree)(id:Nat)(o ys:List α):Px (o.length+ys.length≤8589934592):=
 ⟨⟨some (.row id (o++ys).length),some [(id,.row k false ((o++ys).map f))],none,none,[]⟩,
  [o.length=(o.map f).length,o.length+(ys.map f).length≤8589934592,Weak (.row id (o.length+(ys.map f).length)) (.row id (o++ys).length),[(id,Ob.row k false ((o++ys).map f))]=[(id,Ob.row k false (o.map f++ys.map f))]],
  fun h=>⟨List.length_map _|>.symm,by rw[List.length_map];exact h,Weak.of_eq (by simp),z6F rfl,trivial⟩⟩
def Xmk{α:Type}(k:Nat)(f:α→Tree)(id:Nat)(n m:Int)(z:α):Px (0≤n∧n≤m∧m≤1099511627776):=
 ⟨⟨none,some [(id,.row k false ((List.replicate n.toNat z).map f))],none,none,[]⟩,[0≤n,n≤m,m≤1099511627776,[(id,Ob.row k false ((List.replicate n.toNat z).map f))]=[(id,Ob.row k false (List.replicate n.toNat (f z)))]],
  fun h=>⟨h.1,h.2.1,h.2.2,by rw[List.map_replicate],trivial⟩⟩
def Xmz{α:Type}(k:Nat)(f:α→Tree)(id:Nat)(n m:Int)(z:α)(zs:List Tree)(hz:TWs zs (f z).cells):Px (0≤n∧n≤m∧m≤1099511627776):=
 ⟨⟨none,some [(id,.row k false ((List.replicate n.toNat z).map f))],some (f z),none,[]⟩,[0≤n,n≤m,m≤1099511627776,TWs zs (f z).cells,[(id,Ob.row k false ((List.replicate n.toNat z).map f))]=[(id,Ob.row k false (List.replicate n.toNat (f z)))]],
  fun h=>⟨h.1,h.2.1,h.2.2,hz,by rw[List.map_replicate],trivial⟩⟩
def Xbsl:Px True:=⟨⟨none,none,some (.sc (.bool true)),none,[]⟩,[],fun _=>trivial⟩
def Xf(l:List (Nat×Nat)):Px True:=⟨⟨none,none,none,none,l⟩,[],fun _=>trivial⟩
def Xtl{α:Type}(f:α→Tree)(n:Nat)(o:List α)(l:Int):Px (n=o.length∧0≤l∧l≤(n:Int)):=
 ⟨⟨none,none,none,none,[(0,0)]⟩,[n=(o.map f).length,0≤l,l≤(n:Int)],fun h=>⟨by rw[List.length_map];exact h.1,h.2.1,h.2.2,trivial⟩⟩
def rpC(e:Bool):Nat→List Prop→List Prop
 |0,l=>l
 |k+1,l=>(e=true)::rpC e k l
theorem y3n{e:Bool}(he:e=true){l:List Prop}(h:All l):∀k,All (rpC e k l)
 |0=>h
 |k+1=>⟨he,y3n he h k⟩
def Xv{p:Prop}(k:Nat)(e:Bool)(x:Px p)(h:e=true→p:=by first| (intro _;with_reducible exact True.intro)| (intro hg;(try simp[-List.getD_eq_getElem?_getD] at hg);first|omega| (and_intros<;>first|omega|with_reducible rfl|with_reducible assumption|with_reducible exact True.intro| (simp only[List.length_map];omega)| (simp[-List.getD_eq_getElem?_getD];omega)| (simp;omega)| (simp[hg];done)))):Ox:=
 ⟨x.o,gdC e (rpC e k x.cs),y3m fun he=>y3n he (x.h (h he)) k⟩
def Xk(g:Bool):Px True:=⟨Orc.no,[g=true→g=true],fun _=>⟨id,trivial⟩⟩
def Xk'(g:Bool):Px True:=⟨Orc.no,[g=false→(!g)=true],fun _=>⟨fun h=>by simp[h],trivial⟩⟩
def Xka(e g:Bool):Ox:=⟨Orc.no,[e=true→e=true,e=true→g=true→(e&&g)=true],⟨id,fun h k=>by rw[h,k];rfl,trivial⟩⟩
def Xko(e g:Bool):Ox:=⟨Orc.no,[e=true→e=true,e=true→g=false→(e&& !g)=true],⟨id,fun h k=>by rw[h,k];rfl,trivial⟩⟩
theorem FC.nil{f:FuncId}{args:List AVal}{res:AVal}{st st':Store}(i k:Nat)(h:FC P f args st res st')(hi:args[i]? =some (.t (.lst k [])):=by kernel_rfl)(hk:Nat.blt 0 k=true:=by kernel_rfl):FC P f (args.set i VN) st res st':=by
 intro F m w us hS hl hv
 refine h F m w us hS (by simpa using hl) (fun j v u hj hu=> ?_)
 by_cases e:i=j
 ·subst e
  rw[hi] at hj
  cases hj
  have hlt:=(List.getElem?_eq_some_iff.1 hi).1
  have:=hv i VN u (by simp[hlt]) hu
  exact y3d (Nat.lt_of_succ_le (Nat.le_of_ble_eq_true hk)) _ _ _ _ _ this
 ·exact hv j v u (by rw[List.getElem?_set_ne e];exact hj) hu
def Xc0{p:Prop}{f:FuncId}{args:List AVal}{res:AVal}(h:FC P f args emp res emp)(x:Px p)(hc:z00 P f=true:=by kernel_rfl):Px p:=
 ⟨⟨none,none,none,some ⟨0,[],res,[]⟩,[]⟩,(z00 P f=true)::(x.cs++[FC P f args emp res emp]),fun hp=>⟨hc,z5Q.2 ⟨x.h hp,h,trivial⟩⟩⟩
def z1P:Nat→List (Nat×Ob)→List (Nat×Nat)→List (Nat×Nat)
 |_,[],_=>[]
 |nid,(i,_)::l,τ=>match lk τ i with
  |some _=>z1P nid l τ
  |none=>(i,nid)::z1P (nid+1) l τ
def orL{α:Type}(o:Option (List α)):List α:=o.getD []
def orV(o:Option AVal):AVal:=o.getD .junk
def ck1(τ:List (Nat×Nat))(res:AVal)(l1:List (Nat×Ob)):Bool:=z1K (τ.map (·.1))&&z1K (τ.map (·.2))&&(z0p τ (app emp l1) τ).isSome&&(renV τ res).isSome
theorem z8y{args:List AVal}(h:renL [] args=some args):renL (inv []) args=some args:=h
theorem FC.fresh{f:FuncId}{args:List AVal}{res:AVal}{l1:List (Nat×Ob)}(τ:List (Nat×Nat))(h:FC P f args emp res (app emp l1))(ha:renL [] args=some args)(hk:ck1 τ res l1=true):
 FC P f args emp (orV (renV τ res)) (app emp (orL (z0p τ (app emp l1) τ))):=by
 simp only[ck1,Bool.and_eq_true] at hk
 obtain⟨⟨⟨k1,k2⟩,k3⟩,k4⟩:=hk
 obtain⟨l',e3⟩:=Option.isSome_iff_exists.1 k3
 obtain⟨r',e4⟩:=Option.isSome_iff_exists.1 k4
 refine FC.ren (l0:=[]) (l0':=[]) h [] τ (by simp[z1K,k1,k2]) rfl (z8y ha) rfl ?_ ?_
 ·rw[e3];rfl
 ·rw[e4];rfl
def Xc1{p:Prop}{f:FuncId}{args:List AVal}{res:AVal}{l1:List (Nat×Ob)}(nid:Nat)(h:FC P f args emp res (app emp l1))(x:Px p)(ha:renL [] args=some args:=by kernel_rfl)
 (hk:ck1 (z1P nid l1 []) res l1=true:=by kernel_rfl) (hc:z00 P f=true:=by kernel_rfl):Px p:=
 ⟨⟨none,none,none,some ⟨1,[],orV (renV (z1P nid l1 []) res),orL (z0p (z1P nid l1 []) (app emp l1) (z1P nid l1 []))⟩,[]⟩,
  (z00 P f=true)::(x.cs++[FC P f args emp (orV (renV (z1P nid l1 []) res)) (app emp (orL (z0p (z1P nid l1 []) (app emp l1) (z1P nid l1 []))))]),
  fun hp=>⟨hc,z5Q.2 ⟨x.h hp,FC.fresh _ h ha hk,trivial⟩⟩⟩
def sndL:List (Nat×Nat)→List Nat
 | []=>[]
 | (_,j)::l=>j::sndL l
def ck3(τ0 τ:List (Nat×Nat))(args:List AVal)(l0:List (Nat×Ob))(res:AVal)(l1:List (Nat×Ob)):Bool:=
 (z1K (τ0.map (·.1))&&z1K (τ0.map (·.2))&&z1K (τ.map (·.1))&&z1K (τ.map (·.2))&&τ0.all (fun p=>match lk τ p.1 with|some j=>Nat.beq j p.2|none=>false))&&
  (orL (z0p τ0 (app emp l0) τ0)).all (fun x=>hasId (τ0.map (·.2)) x.1)&&(z0p τ (app emp l1) τ).isSome&&(renV τ res).isSome&&
  (orL (z0p τ0 (app emp l0) τ0)).all (fun x=>hasId ((orL (z0p τ (app emp l1) τ)).map (·.1)) x.1)
theorem y0O{a b:List (Nat×Ob)}(h:∀x∈a,x.1∈b.map (·.1)):app (app emp a) b=app emp b:=by
 funext i
 by_cases hi:i∈b.map (·.1)
 ·exact y0x (.inl hi)
 ·rw[z1n hi,z1n hi]
  refine z1n (fun hm=> ?_)
  obtain⟨x,hx,rfl⟩:=List.mem_map.1 hm
  exact hi (h x hx)
theorem FC.obj{f:FuncId}{args:List AVal}{res:AVal}{l0 l1:List (Nat×Ob)}(τ0 τ:List (Nat×Nat))(h:FC P f args (app emp l0) res (app emp l1))(hk:ck3 τ0 τ args l0 res l1=true)
 (h0:z0p (inv τ0) (app emp (orL (z0p τ0 (app emp l0) τ0))) (inv τ0)=some l0) (ha:renL (inv τ0) (orL (renL τ0 args))=some args):
 FC P f (orL (renL τ0 args)) (app emp (orL (z0p τ0 (app emp l0) τ0))) (orV (renV τ res)) (app (app emp (orL (z0p τ0 (app emp l0) τ0))) (orL (z0p τ (app emp l1) τ))):=by
 simp only[ck3,Bool.and_eq_true] at hk
 obtain⟨⟨⟨⟨k1,k2⟩,k3⟩,k4⟩,k5⟩:=hk
 obtain⟨l',e3⟩:=Option.isSome_iff_exists.1 k3
 obtain⟨r',e4⟩:=Option.isSome_iff_exists.1 k4
 rw[y0O (fun x hx=>z0D.1 (List.all_eq_true.1 k5 x hx))]
 refine FC.ren h τ0 τ (by simp only[Bool.and_eq_true];exact k1) h0 ha k2 ?_ ?_
 ·rw[e3];rfl
 ·rw[e4];rfl
def Xc3{p:Prop}{f:FuncId}{args:List AVal}{res:AVal}{l0 l1:List (Nat×Ob)}(nid:Nat)(τ0:List (Nat×Nat))(h:FC P f args (app emp l0) res (app emp l1))(x:Px p)
 (hk:ck3 τ0 (τ0++z1P nid l1 τ0) args l0 res l1=true:=by kernel_rfl)
 (h0:z0p (inv τ0) (app emp (orL (z0p τ0 (app emp l0) τ0))) (inv τ0)=some l0:=by kernel_rfl) (ha:renL (inv τ0) (orL (renL τ0 args))=some args:=by kernel_rfl) (hc:z00 P f=true:=by kernel_rfl):Px p:=
 ⟨⟨none,none,none,some ⟨3,sndL τ0,orV (renV (τ0++z1P nid l1 τ0) res),orL (z0p (τ0++z1P nid l1 τ0) (app emp l1) (τ0++z1P nid l1 τ0))⟩,[]⟩,
  [z00 P f=true,FC P f (orL (renL τ0 args)) (app emp (orL (z0p τ0 (app emp l0) τ0))) (orV (renV (τ0++z1P nid l1 τ0) res)) (app (app emp (orL (z0p τ0 (app emp l0) τ0))) (orL (z0p (τ0++z1P nid l1 τ0) (app emp l1) (τ0++z1P nid l1 τ0))))],
  fun hp=>⟨hc,FC.obj _ _ h hk h0 ha,trivial⟩⟩
theorem FC.objr{f:FuncId}{args:List AVal}{res:AVal}{l0:List (Nat×Ob)}(τ0:List (Nat×Nat))(h:FC P f args (app emp l0) res (app emp l0))(hk:ck3 τ0 τ0 args l0 res l0=true)
 (h0:z0p (inv τ0) (app emp (orL (z0p τ0 (app emp l0) τ0))) (inv τ0)=some l0) (ha:renL (inv τ0) (orL (renL τ0 args))=some args):
 FC P f (orL (renL τ0 args)) (app emp (orL (z0p τ0 (app emp l0) τ0))) (orV (renV τ0 res)) (app (app emp (orL (z0p τ0 (app emp l0) τ0))) []):=by
 have:=FC.obj τ0 τ0 h hk h0 ha
 simp only[ck3,Bool.and_eq_true] at hk
 rw[y0O (fun x hx=>z0D.1 (List.all_eq_true.1 hk.2 x hx))] at this
 exact this
def Xc4{p:Prop}{f:FuncId}{args:List AVal}{res:AVal}{l0:List (Nat×Ob)}(τ0:List (Nat×Nat))(h:FC P f args (app emp l0) res (app emp l0))(x:Px p)
 (hk:ck3 τ0 τ0 args l0 res l0=true:=by kernel_rfl)
 (h0:z0p (inv τ0) (app emp (orL (z0p τ0 (app emp l0) τ0))) (inv τ0)=some l0:=by kernel_rfl) (ha:renL (inv τ0) (orL (renL τ0 args))=some args:=by kernel_rfl) (hc:z00 P f=true:=by kernel_rfl):Px p:=
 ⟨⟨none,none,none,some ⟨3,sndL τ0,orV (renV τ0 res),[]⟩,[]⟩,
  [z00 P f=true,FC P f (orL (renL τ0 args)) (app emp (orL (z0p τ0 (app emp l0) τ0))) (orV (renV τ0 res)) (app (app emp (orL (z0p τ0 (app emp l0) τ0))) [])],
  fun hp=>⟨hc,FC.objr _ h hk h0 ha,trivial⟩⟩
theorem pr{α β:Type}{a b:α}{c d:β}(h:a=b)(k:c=d):(a,c)=(b,d):=by rw[h,k]
theorem y63{z:Int}(h:0≤z∧z≤255):IntKind.u8.wrap z=z:=by unfold IntKind.wrap;simp[IntKind.bits,IntKind.signed];omega
theorem y0P{z:Int}(h:0≤z∧z≤4294967295):IntKind.u32.wrap z=z:=by unfold IntKind.wrap;simp[IntKind.bits,IntKind.signed];omega
theorem z7v{z:Int}(h:0≤z∧z≤2147483647):IntKind.i32.wrap z=z:=by unfold IntKind.wrap;simp[IntKind.bits,IntKind.signed];omega
def Xcv(k:IntKind)(z:Int):Px (k.wrap z=z):=⟨oV (.t (.sc (.int k z))),[Weak (.t (.sc (.int k (k.wrap z)))) (.t (.sc (.int k z)))],fun h=>⟨Weak.of_eq (by rw[h]),trivial⟩⟩
def byteT(z:Int):Tree:= .sc (.int .u8 z)
def intsB(s:ByteArray):List Int:=s.data.toList.map fun b=>(b.toNat:Int)
def Xstr(n:Nat)(l:List Int)(s:ByteArray):Px (n=l.length∧l=intsB s):=
 ⟨oE (.sc (.string s)),[n=(l.map byteT).length,l.map byteT=z5w s],fun h=>⟨by rw[List.length_map];exact h.1,by rw[h.2];unfold intsB z5w;rw[List.map_map];rfl,trivial⟩⟩
def Xbit(k:IntKind)(y z:Int):Px (y=z):=⟨oV (.t (.sc (.int k z))),[Weak (.t (.sc (.int k y))) (.t (.sc (.int k z)))],fun h=>⟨Weak.of_eq (by rw[h]),trivial⟩⟩
def Xsh(k:IntKind)(b y z:Int):Px (0≤b∧y=z):=⟨oV (.t (.sc (.int k z))),[0≤b,Weak (.t (.sc (.int k y))) (.t (.sc (.int k z)))],fun h=>⟨h.1,Weak.of_eq (by rw[h.2]),trivial⟩⟩
set_option maxRecDepth 100000 in
theorem y8h:∀x:_root_.Fin 256,andI .u8 ((x.val:Nat):Int) 63=(((x.val%64:Nat)):Int):=by decide
set_option maxRecDepth 100000 in
theorem y8i:∀x:_root_.Fin 64,orI .u8 128 ((x.val:Nat):Int)=((128+x.val:Nat):Int):=by decide
set_option maxRecDepth 100000 in
theorem y8j:∀x:_root_.Fin 32,orI .u8 192 ((x.val:Nat):Int)=((192+x.val:Nat):Int):=by decide
set_option maxRecDepth 100000 in
theorem y8k:∀x:_root_.Fin 16,orI .u8 224 ((x.val:Nat):Int)=((224+x.val:Nat):Int):=by decide
set_option maxRecDepth 100000 in
theorem y8l:∀x:_root_.Fin 8,orI .u8 240 ((x.val:Nat):Int)=((240+x.val:Nat):Int):=by decide
theorem and63{x:Int}(h:0≤x∧x<256):andI .u8 x 63=x%64:=by
 have:=y8h ⟨x.toNat,by omega⟩
 simp only[show((x.toNat:Nat):Int)=x by omega] at this
 rw[this];omega
theorem or128{x:Int}(h:0≤x∧x<64):orI .u8 128 x=128+x:=by
 have:=y8i ⟨x.toNat,by omega⟩
 simp only[show((x.toNat:Nat):Int)=x by omega] at this
 rw[this];omega
theorem or192{x:Int}(h:0≤x∧x<32):orI .u8 192 x=192+x:=by
 have:=y8j ⟨x.toNat,by omega⟩
 simp only[show((x.toNat:Nat):Int)=x by omega] at this
 rw[this];omega
theorem or224{x:Int}(h:0≤x∧x<16):orI .u8 224 x=224+x:=by
 have:=y8k ⟨x.toNat,by omega⟩
 simp only[show((x.toNat:Nat):Int)=x by omega] at this
 rw[this];omega
theorem or240{x:Int}(h:0≤x∧x<8):orI .u8 240 x=240+x:=by
 have:=y8l ⟨x.toNat,by omega⟩
 simp only[show((x.toNat:Nat):Int)=x by omega] at this
 rw[this];omega
theorem shr6{r:Int}:r.fdiv (2^(min (6:Int).toNat IntKind.i32.bits))=r/64:=by
 show r.fdiv 64=r/64
 exact Int.fdiv_eq_ediv_of_nonneg r (by decide)
theorem shr12{r:Int}:r.fdiv (2^(min (12:Int).toNat IntKind.i32.bits))=r/4096:=by
 show r.fdiv 4096=r/4096
 exact Int.fdiv_eq_ediv_of_nonneg r (by decide)
theorem shr18{r:Int}:r.fdiv (2^(min (18:Int).toNat IntKind.i32.bits))=r/262144:=by
 show r.fdiv 262144=r/262144
 exact Int.fdiv_eq_ediv_of_nonneg r (by decide)
theorem u8mod{r:Int}:IntKind.u8.wrap r=r%256:=by unfold IntKind.wrap;simp[IntKind.bits,IntKind.signed]
end Go.Ab
end
section
set_option linter.unusedVariables false
set_option linter.unusedSimpArgs false
namespace Go.Ch
open Go Go.Ab
structure Attr where
 name:ByteArray
 val:ByteArray
abbrev mt:ByteArray:={data:=#[]}
instance:Inhabited Attr:=⟨⟨mt,mt⟩⟩
def attrT(a:Attr):Tree:= .agg [.sc (.string a.name),.sc (.string a.val)]
theorem y3o{a b:ByteArray}(h:a.toList=b.toList):a=b:=by
 rw[ByteArray.toList_eq,ByteArray.toList_eq] at h
 obtain⟨⟨x⟩⟩:=a
 obtain⟨⟨y⟩⟩:=b
 simpa using h
theorem z0x{a b:ByteArray}:seq a b=true↔a=b:=by
 unfold seq
 rw[beq_iff_eq]
 exact⟨y3o,fun h=>by rw[h]⟩
theorem z05{a b:ByteArray}:seq a b=false↔a≠b:=by
 rw[←Bool.not_eq_true,z0x]
theorem y6g:∀x:List UInt8,Op.bytesLess x x=false
 | []=>rfl
 |a::x=>by simp[Op.bytesLess,y6g x]
theorem y0Q:∀x y z:List UInt8,Op.bytesLess x y=true→Op.bytesLess y z=true→Op.bytesLess x z=true
 |_,_,[],_,h=>by cases‹List UInt8›<;>simp[Op.bytesLess] at h
 | [],_,_::_,_,_=>rfl
 |a::x,[],_::_,h,_=>by simp[Op.bytesLess] at h
 |a::x,b::y,c::z,h1,h2=>by
  simp only[Op.bytesLess,Bool.or_eq_true,decide_eq_true_eq,Bool.and_eq_true,beq_iff_eq,UInt8.lt_iff_toNat_lt,←UInt8.toNat_inj] at h1 h2⊢
  rcases h1 with h1| ⟨h1,h1'⟩
  ·rcases h2 with h2| ⟨h2,h2'⟩<;>(left;omega)
  ·rcases h2 with h2| ⟨h2,h2'⟩
   ·left;omega
   ·right;exact⟨by omega,y0Q x y z h1' h2'⟩
theorem y6h:∀x y:List UInt8,Op.bytesLess x y=false→Op.bytesLess y x=false→x=y
 | [],[],_,_=>rfl
 | [],_::_,h,_=>by simp[Op.bytesLess] at h
 |_::_,[],_,h=>by simp[Op.bytesLess] at h
 |a::x,b::y,h1,h2=>by
  simp only[Op.bytesLess,Bool.or_eq_false_iff,decide_eq_false_iff_not,Bool.and_eq_false_iff,beq_eq_false_iff_ne,UInt8.lt_iff_toNat_lt,ne_eq,←UInt8.toNat_inj] at h1 h2
  have e:a.toNat=b.toNat:=by omega
  have h1':Op.bytesLess x y=false:=by rcases h1.2 with h|h;exact absurd e h;exact h
  have h2':Op.bytesLess y x=false:=by rcases h2.2 with h|h;exact absurd e.symm h;exact h
  rw[UInt8.toNat_inj.1 e,y6h x y h1' h2']
theorem z9J(a:ByteArray):slt a a=false:=y6g _
theorem z2v{a b c:ByteArray}(h:slt a b=true)(k:slt b c=true):slt a c=true:=y0Q _ _ _ h k
theorem z9K{a b:ByteArray}(h:slt a b=false)(k:slt b a=false):a=b:=y3o (y6h _ _ h k)
theorem z1Q{a b:ByteArray}(h:slt a b=true):a≠b:=fun e=>by subst e;rw[z9J] at h;cases h
theorem y3p{a b:ByteArray}(h:slt a b=true):slt b a=false:=by
 cases k:slt b a with
 |false=>rfl
 |true=>have:=z2v h k;rw[z9J] at this;cases this
def Above(n:ByteArray)(l:List Attr):Prop:=∀a∈l,slt n a.name=true
def z2f:List Attr→Prop
 | []=>True
 |a::l=>Above a.name l∧z2f l
def look:List Attr→ByteArray→Option ByteArray
 | [],_=>none
 |a::l,n=>if a.name=n then some a.val else look l n
theorem z0R{l:List Attr}{n:ByteArray}(h:∀a∈l,a.name≠n):look l n=none:=by
 induction l with
 |nil=>rfl
 |cons a l ih=>rw[look,if_neg (h a (by simp))];exact ih (fun b hb=>h b (by simp[hb]))
theorem y0R{l:List Attr}{n v:ByteArray}(h:look l n=some v):(⟨n,v⟩:Attr)∈l:=by
 induction l with
 |nil=>cases h
 |cons a l ih=>
  rw[look] at h
  split at h
  ·rename_i hn
   cases h
   subst hn
   exact List.mem_cons_self
  ·exact List.mem_cons_of_mem _ (ih h)
theorem z9L{l:List Attr}(hs:z2f l){a:Attr}(h:a∈l):look l a.name=some a.val:=by
 induction l with
 |nil=>cases h
 |cons b l ih=>
  rw[look]
  rcases List.mem_cons.1 h with rfl|h
  ·rw[if_pos rfl]
  ·rw[if_neg (z1Q (hs.1 a h))];exact ih hs.2 h
theorem z6H:∀{a b:List Attr},z2f a→z2f b→(∀n,look a n=look b n)→a=b
 | [],[],_,_,_=>rfl
 | [],y::b,_,_,h=>by have:=h y.name;simp[look] at this
 |x::a,[],_,_,h=>by have:=h x.name;simp[look] at this
 |x::a,y::b,ha,hb,h=>by
  have hxy:x.name=y.name:=by
   refine z9K ?_ ?_
   ·cases k:slt x.name y.name with
    |false=>rfl
    |true=>
     have h1:=h x.name
     rw[look,if_pos rfl,look,if_neg (fun e=>z1Q k e.symm),z0R (fun z hz e=>z1Q (z2v k (hb.1 z hz)) e.symm)] at h1
     cases h1
   ·cases k:slt y.name x.name with
    |false=>rfl
    |true=>
     have h1:=h y.name
     rw[look,if_neg (fun e=>z1Q k e.symm),z0R (fun z hz e=>z1Q (z2v k (ha.1 z hz)) e.symm),look,if_pos rfl] at h1
     cases h1
  have hv:x.val=y.val:=by
   have h1:=h x.name
   rw[look,if_pos rfl,look,if_pos hxy.symm] at h1
   exact Option.some.inj h1
  have e:x=y:=by cases x;cases y;simp_all
  subst e
  rw[z6H ha.2 hb.2 (fun n=> ?_)]
  by_cases hn:x.name=n
  ·subst hn
   rw[z0R (fun z hz e=>z1Q (ha.1 z hz) e.symm),z0R (fun z hz e=>z1Q (hb.1 z hz) e.symm)]
  ·have h1:=h n
   rwa [look,if_neg hn,look,if_neg hn] at h1
def bothL:List Attr→List Attr→List (Attr×Attr)
 | [],[]=>[]
 | [],y::b=>(default,y)::bothL [] b
 |x::a,[]=>(x,default)::bothL a []
 |x::a,y::b=>
  if slt x.name y.name=true then(x,default)::bothL a (y::b)
  else if slt y.name x.name=true then(default,y)::bothL (x::a) b
  else(x,y)::bothL a b
termination_by a b=>a.length+b.length
theorem y3q:∀a b:List Attr,(bothL a b).length≤a.length+b.length:=by
 intro a b
 induction a,b using bothL.induct with
 |case1=>simp[bothL]
 |case2 y b ih=>simp only[bothL,List.length_cons] at ih⊢;omega
 |case3 x a ih=>simp only[bothL,List.length_cons] at ih⊢;omega
 |case4 x a y b h ih=>rw[bothL,if_pos h];simp only[List.length_cons] at ih⊢;omega
 |case5 x a y b h k ih=>rw[bothL,if_neg h,if_pos k];simp only[List.length_cons] at ih⊢;omega
 |case6 x a y b h k ih=>rw[bothL,if_neg h,if_neg k];simp only[List.length_cons] at ih⊢;omega
def Named(l:List Attr):Prop:=∀a∈l,a.name≠mt
def Fair(g:Attr→Attr→Option Attr):Prop:=∀x y z,g x y=some z→z.name=if y.name=mt then x.name else y.name
def fm(g:Attr→Attr→Option Attr)(a b:List Attr):List Attr:=(bothL a b).filterMap fun p=>g p.1 p.2
def at2(g:Attr→Attr→Option Attr)(n:ByteArray):Option ByteArray→Option ByteArray→Option ByteArray
 |none,none=>none
 |some v,none=>(g ⟨n,v⟩ default).map (·.val)
 |none,some w=>(g default ⟨n,w⟩).map (·.val)
 |some v,some w=>(g ⟨n,v⟩ ⟨n,w⟩).map (·.val)
theorem z16{g:Attr→Attr→Option Attr}{x y:Attr}{l:List (Attr×Attr)}:((x,y)::l).filterMap (fun p=>g p.1 p.2)=(g x y).toList++l.filterMap (fun p=>g p.1 p.2):=by
 rw[List.filterMap_cons]
 cases g x y<;>rfl
theorem z3Z{o:Option Attr}{l:List Attr}{k n:ByteArray}(h:∀z,o=some z→z.name=k):look (o.toList++l) n=if k=n then(o.map (·.val)).or (look l n) else look l n:=by
 cases o with
 |none=>simp
 |some z=>
  have:=h z rfl
  subst this
  simp[look]
theorem z25{o:Option Attr}{l:List Attr}{k n:ByteArray}(h:∀z,o=some z→z.name=k)(hn:slt n k=true)(hl:Above n l):Above n (o.toList++l):=by
 intro a ha
 rcases List.mem_append.1 ha with ha|ha
 ·rw[h a (by simpa using ha)];exact hn
 ·exact hl a ha
theorem z2w{o:Option Attr}{l:List Attr}{k:ByteArray}(h:∀z,o=some z→z.name=k)(hl:Above k l)(hs:z2f l):z2f (o.toList++l):=by
 cases o with
 |none=>exact hs
 |some z=>exact⟨by rw[h z rfl];exact hl,hs⟩
theorem z7w{a:Attr}{l:List Attr}:look (a::l) a.name=some a.val:=by rw[look,if_pos rfl]
theorem z7x{a:Attr}{l:List Attr}{n:ByteArray}(h:a.name≠n):look (a::l) n=look l n:=by rw[look,if_neg h]
theorem y3r{g:Attr→Attr→Option Attr}(hg:Fair g):∀(a b:List Attr),z2f a→z2f b→Named a→Named b→
 z2f (fm g a b)∧(∀n,Above n a→Above n b→Above n (fm g a b))∧∀n,look (fm g a b) n=at2 g n (look a n) (look b n):=by
 intro a b
 induction a,b using bothL.induct with
 |case1=>intro _ _ _ _;exact⟨by simp[fm,bothL,z2f],fun n _ _=>by simp[fm,bothL,Above],fun n=>by simp[fm,bothL,look,at2]⟩
 |case2 y b ih=>
  intro _ hb _ nb
  obtain⟨i1,i2,i3⟩:=ih trivial hb.2 (fun _ h=>by cases h) (fun a h=>nb a (by simp[h]))
  have hk:∀z,g default y=some z→z.name=y.name:=fun z hz=>by rw[hg _ _ z hz,if_neg (nb y (by simp))]
  have e:fm g [] (y::b)=(g default y).toList++fm g [] b:=by unfold fm;rw[bothL,z16]
  rw[e]
  refine⟨z2w hk (i2 _ (fun _ h=>by cases h) hb.1) i1,fun n h1 h2=>z25 hk (h2 y (by simp)) (i2 n h1 (fun a h=>h2 a (by simp[h]))),fun n=> ?_⟩
  rw[z3Z hk,i3]
  simp only[look]
  by_cases h:y.name=n
  ·subst h
   rw[z0R (l:=b) (fun z hz e=>z1Q (hb.1 z hz) e.symm)]
   simp[at2]
  ·simp only[if_neg h]
 |case3 x a ih=>
  intro ha _ na _
  obtain⟨i1,i2,i3⟩:=ih ha.2 trivial (fun a h=>na a (by simp[h])) (fun _ h=>by cases h)
  have hk:∀z,g x default=some z→z.name=x.name:=fun z hz=>by rw[hg _ _ z hz];exact if_pos rfl
  have e:fm g (x::a) []=(g x default).toList++fm g a []:=by unfold fm;rw[bothL,z16]
  rw[e]
  refine⟨z2w hk (i2 _ ha.1 (fun _ h=>by cases h)) i1,fun n h1 h2=>z25 hk (h1 x (by simp)) (i2 n (fun a h=>h1 a (by simp[h])) h2),fun n=> ?_⟩
  rw[z3Z hk,i3]
  simp only[look]
  by_cases h:x.name=n
  ·subst h
   rw[z0R (l:=a) (fun z hz e=>z1Q (ha.1 z hz) e.symm)]
   simp[at2]
  ·simp only[if_neg h]
 |case4 x a y b h ih=>
  intro ha hb na nb
  obtain⟨i1,i2,i3⟩:=ih ha.2 hb (fun a h=>na a (by simp[h])) nb
  have hk:∀z,g x default=some z→z.name=x.name:=fun z hz=>by rw[hg _ _ z hz];exact if_pos rfl
  have e:fm g (x::a) (y::b)=(g x default).toList++fm g a (y::b):=by unfold fm;rw[bothL,if_pos h,z16]
  have hxb:Above x.name (y::b):=fun z hz=>by
   rcases List.mem_cons.1 hz with rfl|hz
   ·exact h
   ·exact z2v h (hb.1 z hz)
  rw[e]
  refine⟨z2w hk (i2 _ ha.1 hxb) i1,fun n h1 h2=>z25 hk (h1 x (by simp)) (i2 n (fun a h=>h1 a (by simp[h])) h2),fun n=> ?_⟩
  rw[z3Z hk,i3]
  by_cases hn:x.name=n
  ·subst hn
   rw[z0R (l:=y::b) (fun z hz e=>z1Q (hxb z hz) e.symm),z0R (l:=a) (fun z hz e=>z1Q (ha.1 z hz) e.symm),z7w]
   simp[at2]
  ·rw[if_neg hn,z7x hn]
 |case5 x a y b h k ih=>
  intro ha hb na nb
  obtain⟨i1,i2,i3⟩:=ih ha hb.2 na (fun a h=>nb a (by simp[h]))
  have hk:∀z,g default y=some z→z.name=y.name:=fun z hz=>by rw[hg _ _ z hz,if_neg (nb y (by simp))]
  have e:fm g (x::a) (y::b)=(g default y).toList++fm g (x::a) b:=by unfold fm;rw[bothL,if_neg h,if_pos k,z16]
  have hya:Above y.name (x::a):=fun z hz=>by
   rcases List.mem_cons.1 hz with rfl|hz
   ·exact k
   ·exact z2v k (ha.1 z hz)
  rw[e]
  refine⟨z2w hk (i2 _ hya hb.1) i1,fun n h1 h2=>z25 hk (h2 y (by simp)) (i2 n h1 (fun a h=>h2 a (by simp[h]))),fun n=> ?_⟩
  rw[z3Z hk,i3]
  by_cases hn:y.name=n
  ·subst hn
   rw[z0R (l:=x::a) (fun z hz e=>z1Q (hya z hz) e.symm),z0R (l:=b) (fun z hz e=>z1Q (hb.1 z hz) e.symm),z7w]
   simp[at2]
  ·rw[if_neg hn,z7x (a:=y) hn]
 |case6 x a y b h k ih=>
  intro ha hb na nb
  obtain⟨i1,i2,i3⟩:=ih ha.2 hb.2 (fun a h=>na a (by simp[h])) (fun a h=>nb a (by simp[h]))
  have hxy:x.name=y.name:=z9K (by simpa using h) (by simpa using k)
  have hk:∀z,g x y=some z→z.name=x.name:=fun z hz=>by rw[hg _ _ z hz,if_neg (nb y (by simp)),hxy]
  have e:fm g (x::a) (y::b)=(g x y).toList++fm g a b:=by unfold fm;rw[bothL,if_neg h,if_neg k,z16]
  rw[e]
  refine⟨z2w hk (i2 _ ha.1 (by rw[hxy];exact hb.1)) i1,fun n h1 h2=>z25 hk (h1 x (by simp)) (i2 n (fun a h=>h1 a (by simp[h])) (fun a h=>h2 a (by simp[h]))),fun n=> ?_⟩
  rw[z3Z hk,i3]
  by_cases hn:x.name=n
  ·subst hn
   have ey:(⟨x.name,y.val⟩:Attr)=y:=by rw[hxy]
   have hl:look (y::b) x.name=some y.val:=by rw[hxy];exact z7w
   rw[hl,z7w,z0R (l:=a) (fun z hz e=>z1Q (ha.1 z hz) e.symm),z0R (l:=b) (fun z hz e=>z1Q (hb.1 z hz) (by rw[←hxy,e]))]
   simp[at2,ey]
  ·rw[if_neg hn,z7x hn,z7x (a:=y) (by rw[←hxy];exact hn)]
theorem dflt:(default:Attr)=⟨mt,mt⟩:=rfl
def rawG(x y:Attr):Option Attr:=if y.name=mt then some x else if y.val=mt then none else some y
def botG(x y:Attr):Option Attr:=some (if y.name=mt then x else y)
def wioG(x y:Attr):Option Attr:=if y.name=mt then some x else none
theorem z3g:Fair rawG:=by intro x y z h;unfold rawG at h;(repeat' split at h)<;>simp_all
theorem y5g:Fair botG:=by intro x y z h;unfold botG at h;(repeat' split at h)<;>simp_all
theorem y0S:Fair wioG:=by intro x y z h;unfold wioG at h;(repeat' split at h)<;>simp_all
section
variable (NP VP:ByteArray→Prop)
def Q(e:Bool)(n v:ByteArray):Prop:=NP n∧(VP v∨(e=true∧v=mt))
def V(e:Bool)(l:List Attr):Prop:=z2f l∧∀a∈l,Q NP VP e a.name a.val
end
section
variable {NP VP:ByteArray→Prop} (hN:¬NP mt) (hV:¬VP mt)
include hN
theorem V.named{e:Bool}{l:List Attr}(h:V NP VP e l):Named l:=fun a ha e'=>hN (by have:=(h.2 a ha).1;rwa [e'] at this)
omit hN in
theorem V.look{e:Bool}{l:List Attr}(h:V NP VP e l){n v:ByteArray}(hl:look l n=some v):Q NP VP e n v:=h.2 ⟨n,v⟩ (y0R hl)
theorem z4y{e1 e2:Bool}{g:Attr→Attr→Option Attr}(hg:Fair g){a b:List Attr}(ha:V NP VP e1 a)(hb:V NP VP e2 b)(n:ByteArray):
 Go.Ch.look (fm g a b) n=at2 g n (Go.Ch.look a n) (Go.Ch.look b n):=(y3r hg a b ha.1 hb.1 (ha.named hN) (hb.named hN)).2.2 n
theorem fm_V{e1 e2 e3:Bool}{g:Attr→Attr→Option Attr}(hg:Fair g){a b:List Attr}(ha:V NP VP e1 a)(hb:V NP VP e2 b)
 (h1:∀n v z,n≠mt→Q NP VP e1 n v→at2 g n (some v) none=some z→Q NP VP e3 n z)
 (h2:∀n v z,n≠mt→Q NP VP e2 n v→at2 g n none (some v)=some z→Q NP VP e3 n z)
 (h3:∀n v w z,n≠mt→Q NP VP e1 n v→Q NP VP e2 n w→at2 g n (some v) (some w)=some z→Q NP VP e3 n z):V NP VP e3 (fm g a b):=by
 have hm:=y3r hg a b ha.1 hb.1 (ha.named hN) (hb.named hN)
 refine⟨hm.1,fun z hz=> ?_⟩
 have hl:=z9L hm.1 hz
 rw[hm.2.2] at hl
 have hq:∀{e v},Q NP VP e z.name v→z.name≠mt:=fun q e=>hN (e▸q.1)
 cases h4:Go.Ch.look a z.name with
 |none=>
  cases h5:Go.Ch.look b z.name with
  |none=>rw[h4,h5] at hl;cases hl
  |some w=>rw[h4,h5] at hl;exact h2 _ _ _ (hq (hb.look h5)) (hb.look h5) hl
 |some v=>
  cases h5:Go.Ch.look b z.name with
  |none=>rw[h4,h5] at hl;exact h1 _ _ _ (hq (ha.look h4)) (ha.look h4) hl
  |some w=>rw[h4,h5] at hl;exact h3 _ _ _ _ (hq (ha.look h4)) (ha.look h4) (hb.look h5) hl
theorem q_ne{e:Bool}{n v:ByteArray}(h:Q NP VP e n v):n≠mt:=fun e=>hN (e▸h.1)
theorem raw_V{l c:List Attr}(hl:V NP VP false l)(hc:V NP VP true c):V NP VP false (fm rawG l c):=by
 refine fm_V hN z3g hl hc (fun n v z hn q h=> ?_) (fun n v z hn q h=> ?_) (fun n v w z hn q r h=> ?_)
 ·simp[at2,rawG,dflt] at h;subst h;exact q
 ·simp[at2,rawG,dflt,hn] at h;obtain⟨_,⟨h1,rfl⟩,rfl⟩:=h;simp_all[Q]
 ·simp[at2,rawG,dflt,hn] at h;obtain⟨_,⟨h1,rfl⟩,rfl⟩:=h;simp_all[Q]
theorem bot_V{a b:List Attr}(ha:V NP VP true a)(hb:V NP VP true b):V NP VP true (fm botG a b):=by
 refine fm_V hN y5g ha hb (fun n v z hn q h=> ?_) (fun n v z hn q h=> ?_) (fun n v w z hn q r h=> ?_)
 ·simp[at2,botG,dflt] at h;subst h;exact q
 ·simp[at2,botG,dflt,hn] at h;subst h;exact q
 ·simp[at2,botG,dflt,hn] at h;subst h;exact r
theorem wio_V{a b:List Attr}(ha:V NP VP true a)(hb:V NP VP true b):V NP VP true (fm wioG a b):=by
 refine fm_V hN y0S ha hb (fun n v z hn q h=> ?_) (fun n v z hn q h=> ?_) (fun n v w z hn q r h=> ?_)
 ·simp[at2,wioG,dflt] at h;subst h;exact q
 ·simp[at2,wioG,dflt,hn] at h
 ·simp[at2,wioG,dflt,hn] at h
include hV
omit hN in
theorem q_val{n v:ByteArray}(h:Q NP VP false n v):v≠mt:=fun e=>by
 rcases h.2 with h|h
 ·exact hV (e▸h)
 ·cases h.1
omit hV in
theorem y16{l a b:List Attr}(hl:V NP VP false l)(ha:V NP VP true a)(hb:V NP VP true b):fm rawG (fm rawG l a) b=fm rawG (fm rawG l b) (fm wioG a b):=by
 have h1:=raw_V hN hl ha
 have h2:=raw_V hN hl hb
 have h3:=wio_V hN ha hb
 refine z6H (raw_V hN h1 hb).1 (raw_V hN h2 h3).1 (fun n=> ?_)
 rw[z4y hN z3g h1 hb,z4y hN z3g h2 h3,z4y hN z3g hl ha,z4y hN z3g hl hb,z4y hN y0S ha hb]
 cases k2:look a n with
 |none=>
  cases k3:look b n with
  |none=>cases look l n<;>simp[at2,rawG,dflt]
  |some w=>
   have hn:=q_ne hN (hb.look k3)
   by_cases hw:w=mt<;>cases look l n<;>simp[at2,rawG,wioG,dflt,hn,hw]
 |some v=>
  have hn:=q_ne hN (ha.look k2)
  cases k3:look b n with
  |none=>by_cases hv:v=mt<;>cases look l n<;>simp[at2,rawG,wioG,dflt,hn,hv]
  |some w=>by_cases hv:v=mt<;>by_cases hw:w=mt<;>cases look l n<;>simp[at2,rawG,wioG,dflt,hn,hv,hw]
end
end Go.Ch
end
section
set_option linter.unusedVariables false
set_option linter.unusedSimpArgs false
set_option maxRecDepth 100000
set_option maxHeartbeats 4000000
open Go Go.Proofs Go.Ab
namespace Go.Ch
theorem z2T{s:ByteArray}:seq s {data:=#[]}=decide (s.size=0):=by
 by_cases h:s.size=0
 ·rw[decide_eq_true h,z0x]
  obtain⟨⟨l⟩⟩:=s
  cases l with
  |nil=>rfl
  |cons a l=>simp[ByteArray.size] at h
 ·rw[decide_eq_false h,z05]
  intro e;subst e;exact h rfl
theorem z7y{s:ByteArray}(h:seq s {data:=#[]}=false):(0:Int)< (s.size:Int):=by
 rw[z2T,decide_eq_false_iff_not] at h;omega
def byt(s:ByteArray)(i:Nat):Nat:=((s[i]?).getD 0).toNat
def badC(b:Nat):Prop:=(b<97∨122<b)∧(b<48∨57<b)∧b≠46∧b≠45
instance (b:Nat):Decidable (badC b):=by unfold badC;infer_instance
def nmS(s:ByteArray)(i:Nat):Bool:=if i<s.size then(if badC (byt s i) then false else nmS s (i+1)) else true
termination_by s.size-i
def z1d(s:ByteArray):Bool:=decide (1≤s.size∧s.size≤24∧97≤byt s 0∧byt s 0≤122)&&nmS s 0
def vlS(s:ByteArray)(i:Nat):Bool:=if i<s.size then(if byt s i<32∨126<byt s i then false else vlS s (i+1)) else true
termination_by s.size-i
def valGo(s:ByteArray):Bool:=decide (1≤s.size∧s.size≤200)&&vlS s 0
def nmR(s:ByteArray)(i:Nat):Bool:=if i<s.size then(if(byt s i<97∨122<byt s i)∧(i=0∨(byt s i≠46∧byt s i≠45∧(byt s i<48∨57<byt s i))) then false else nmR s (i+1)) else true
termination_by s.size-i
def z1M(s:ByteArray):Bool:=nmR s 0&&decide (1≤s.size∧s.size≤24)
def valRf(s:ByteArray):Bool:=vlS s 0&&decide (1≤s.size∧s.size≤200)
theorem y64(s:ByteArray)(i:Nat)(h:0<i):nmR s i=nmS s i:=by
 induction i using nmS.induct (s:=s) with
 |case1 i hi hb=>rw[nmR,nmS,if_pos hi,if_pos hi,if_pos hb,if_pos];unfold badC at hb;omega
 |case2 i hi hb ih=>rw[nmR,nmS,if_pos hi,if_pos hi,if_neg hb,if_neg];exact ih (by omega);unfold badC at hb;omega
 |case3 i hi=>rw[nmR,nmS,if_neg hi,if_neg hi]
theorem z8z(s:ByteArray):z1M s=z1d s:=by
 unfold z1M z1d
 by_cases h:1≤s.size
 ·rw[nmR,if_pos (by omega),y64 s (0+1) (by omega)]
  by_cases h2:97≤byt s 0∧byt s 0≤122
  ·have e:nmS s 0=nmS s (0+1):=by rw[nmS,if_pos (by omega),if_neg (by unfold badC;omega)]
   rw[if_neg (by omega),e,Bool.and_comm]
   congr 1
   simp[h2]
  ·rw[if_pos (by omega),decide_eq_false (by omega:¬(1≤s.size∧s.size≤24∧97≤byt s 0∧byt s 0≤122))]
   simp
 ·rw[decide_eq_false (by omega),decide_eq_false (by omega)];simp
theorem y5h(s:ByteArray):valRf s=valGo s:=by unfold valRf valGo;rw[Bool.and_comm]
theorem byt0(s:ByteArray)(i:Nat):((s[i]?).getD 0).toNat=byt s i:=rfl
theorem z9M(s:ByteArray):FC Tryz.prog 137 [VS s] (app emp []) (VB (z1d s)) (app emp []):=by
 refine .go Tryz.f137 ?_
 refine .bp [.r [],.r [(4,Xv 1 (!(seq s ({data:=#[]}))) X0),(5,Xv 1 (!(seq s ({data:=#[]}))) X0),(6,X (Xk' (seq s ({data:=#[]})))),(9,Xv 1 (!(seq s ({data:=#[]})||decide ((s.size:Int)> 24))) (Xb s 0) (fun hg=>by(try simp only[decide_eq_true_eq,decide_eq_false_iff_not,Int.not_lt,Int.not_le,gt_iff_lt,Bool.not_eq_true',Bool.not_eq_false',Bool.or_eq_true,Bool.or_eq_false_iff] at hg);exact⟨(by first|omega| (simp;omega)| (simp;done)|assumption),(z7y (by first|exact hg|exact hg.1|exact hg.1.1))⟩)),(10,Xv 1 (!(seq s ({data:=#[]})||decide ((s.size:Int)> 24))) X0),(11,X (Xk' (seq s ({data:=#[]})||decide ((s.size:Int)> 24)))),(14,Xv 1 (!((seq s ({data:=#[]})||decide ((s.size:Int)> 24))||decide (((((s[0]?).getD 0).toNat:Nat):Int)< 97))) (Xb s 0) (fun hg=>by(try simp only[decide_eq_true_eq,decide_eq_false_iff_not,Int.not_lt,Int.not_le,gt_iff_lt,Bool.not_eq_true',Bool.not_eq_false',Bool.or_eq_true,Bool.or_eq_false_iff] at hg);exact⟨(by first|omega| (simp;omega)| (simp;done)|assumption),(z7y (by first|exact hg|exact hg.1|exact hg.1.1))⟩)),(15,Xv 1 (!((seq s ({data:=#[]})||decide ((s.size:Int)> 24))||decide (((((s[0]?).getD 0).toNat:Nat):Int)< 97))) X0),(16,X (Xk' ((seq s ({data:=#[]})||decide ((s.size:Int)> 24))||decide (((((s[0]?).getD 0).toNat:Nat):Int)< 97))))]] (((seq s ({data:=#[]})||decide ((s.size:Int)> 24))||decide (((((s[0]?).getD 0).toNat:Nat):Int)< 97))||decide (((((s[0]?).getD 0).toNat:Nat):Int)> 122)) (fun h1=> ?_) (fun h1=> ?_)
 ·
  have e1:((z1d s):Bool)=false:=by
   simp only[byt0,z2T,decide_eq_true_eq] at h1;unfold z1d;rw[decide_eq_false (by omega)];rfl
  exact .finE [.r []] [] (fun z0:Bool=>(VB z0,[])) _ _ e1
 ·
  refine .loop (α:=Nat) [.r []] 168 (fun i=>([(0,VS s),(23,VI (s.size:Int)),(24,VI (i:Int))],[])) (fun i=>i≤s.size∧nmS s 0=nmS s i) (fun i=>s.size-i) (0:Nat) ?_ ?_
  ·
   exact⟨by omega,rfl⟩
  rintro i I4 ih4
  try dsimp only at I4
  refine .bp [.r []] (decide ((i:Int)< (s.size:Int))) (fun h4=> ?_) (fun h4=> ?_)
  ·
   refine .bp [.r [],.r [(2,X (Xb s (i:Int)))],.r [(4,Xv 1 (!(decide (((((s[i]?).getD 0).toNat:Nat):Int)< 97))) X0),(5,X (Xk' (decide (((((s[i]?).getD 0).toNat:Nat):Int)< 97)))),(8,Xv 1 (decide (((((s[i]?).getD 0).toNat:Nat):Int)< 97)||decide (((((s[i]?).getD 0).toNat:Nat):Int)> 122)) X0),(9,Xv 1 (decide (((((s[i]?).getD 0).toNat:Nat):Int)< 97)||decide (((((s[i]?).getD 0).toNat:Nat):Int)> 122)) X0),(11,Xv 1 ((decide (((((s[i]?).getD 0).toNat:Nat):Int)< 97)||decide (((((s[i]?).getD 0).toNat:Nat):Int)> 122))&& !(decide (((((s[i]?).getD 0).toNat:Nat):Int)< 48))) X0),(12,Xko (decide (((((s[i]?).getD 0).toNat:Nat):Int)< 97)||decide (((((s[i]?).getD 0).toNat:Nat):Int)> 122)) (decide (((((s[i]?).getD 0).toNat:Nat):Int)< 48))),(13,X (Xk (decide (((((s[i]?).getD 0).toNat:Nat):Int)< 97)||decide (((((s[i]?).getD 0).toNat:Nat):Int)> 122)))),(16,Xv 1 ((decide (((((s[i]?).getD 0).toNat:Nat):Int)< 97)||decide (((((s[i]?).getD 0).toNat:Nat):Int)> 122))&&(decide (((((s[i]?).getD 0).toNat:Nat):Int)< 48)||decide (((((s[i]?).getD 0).toNat:Nat):Int)> 57))) X0),(17,X (Xk ((decide (((((s[i]?).getD 0).toNat:Nat):Int)< 97)||decide (((((s[i]?).getD 0).toNat:Nat):Int)> 122))&&(decide (((((s[i]?).getD 0).toNat:Nat):Int)< 48)||decide (((((s[i]?).getD 0).toNat:Nat):Int)> 57))))),(20,Xv 1 (((decide (((((s[i]?).getD 0).toNat:Nat):Int)< 97)||decide (((((s[i]?).getD 0).toNat:Nat):Int)> 122))&&(decide (((((s[i]?).getD 0).toNat:Nat):Int)< 48)||decide (((((s[i]?).getD 0).toNat:Nat):Int)> 57)))&&(((((s[i]?).getD 0).toNat:Nat):Int) !=46)) X0),(21,X (Xk (((decide (((((s[i]?).getD 0).toNat:Nat):Int)< 97)||decide (((((s[i]?).getD 0).toNat:Nat):Int)> 122))&&(decide (((((s[i]?).getD 0).toNat:Nat):Int)< 48)||decide (((((s[i]?).getD 0).toNat:Nat):Int)> 57)))&&(((((s[i]?).getD 0).toNat:Nat):Int) !=46))))]] ((((decide (((((s[i]?).getD 0).toNat:Nat):Int)< 97)||decide (((((s[i]?).getD 0).toNat:Nat):Int)> 122))&&(decide (((((s[i]?).getD 0).toNat:Nat):Int)< 48)||decide (((((s[i]?).getD 0).toNat:Nat):Int)> 57)))&&(((((s[i]?).getD 0).toNat:Nat):Int) !=46))&&(((((s[i]?).getD 0).toNat:Nat):Int) !=45)) (fun h7=> ?_) (fun h7=> ?_)
   ·
    have e2:((z1d s):Bool)=false:=by
     simp only[byt0] at h7;unfold z1d;rw[I4.2,nmS,if_pos (by omega),if_pos (by unfold badC;omega)];simp
    exact .finE [.r []] [] (fun z0:Bool=>(VB z0,[])) _ _ e2
   ·
    refine .back [.r [(0,X (Xn ((i:Int)+1)))]] [] (ih4 ((i+1):Nat) ?_ ?_)
    ·
     simp only[byt0] at h7;refine⟨by omega,?_⟩;rw[I4.2,nmS,if_pos (by omega),if_neg (by unfold badC;omega)]
    ·
     ((try dsimp only);omega)
  ·
   have e3:((z1d s):Bool)=true:=by
    simp only[byt0,z2T,decide_eq_false_iff_not] at h1;unfold z1d;rw[I4.2,nmS,if_neg (by omega),decide_eq_true (by omega)];rfl
   exact .finE [.r []] [] (fun z0:Bool=>(VB z0,[])) _ _ e3
theorem z3h(s:ByteArray):FC Tryz.prog 60 [VS s] (app emp []) (VB (valGo s)) (app emp []):=by
 refine .go Tryz.f60 ?_
 refine .bp [.r [],.r [(4,Xv 1 (!(seq s ({data:=#[]}))) X0),(5,Xv 1 (!(seq s ({data:=#[]}))) X0),(6,X (Xk' (seq s ({data:=#[]}))))]] (seq s ({data:=#[]})||decide ((s.size:Int)> 200)) (fun h1=> ?_) (fun h1=> ?_)
 ·
  have e1:((valGo s):Bool)=false:=by
   simp only[z2T,decide_eq_true_eq] at h1;unfold valGo;rw[decide_eq_false (by omega)];rfl
  exact .finE [.r []] [] (fun z0:Bool=>(VB z0,[])) _ _ e1
 ·
  refine .loop (α:=Nat) [.r []] 88 (fun i=>([(0,VS s),(12,VI (s.size:Int)),(13,VI (i:Int))],[])) (fun i=>i≤s.size∧vlS s 0=vlS s i) (fun i=>s.size-i) (0:Nat) ?_ ?_
  ·
   exact⟨by omega,rfl⟩
  rintro i I4 ih4
  try dsimp only at I4
  refine .bp [.r []] (decide ((i:Int)< (s.size:Int))) (fun h4=> ?_) (fun h4=> ?_)
  ·
   refine .bp [.r [],.r [(2,X (Xb s (i:Int))),(7,Xv 2 (!(decide (((((s[i]?).getD 0).toNat:Nat):Int)< 32))) (Xb s (i:Int))),(8,Xv 1 (!(decide (((((s[i]?).getD 0).toNat:Nat):Int)< 32))) X0),(9,X (Xk' (decide (((((s[i]?).getD 0).toNat:Nat):Int)< 32))))]] (decide (((((s[i]?).getD 0).toNat:Nat):Int)< 32)||decide (((((s[i]?).getD 0).toNat:Nat):Int)> 126)) (fun h6=> ?_) (fun h6=> ?_)
   ·
    have e2:((valGo s):Bool)=false:=by
     simp only[byt0] at h6;unfold valGo;rw[I4.2,vlS,if_pos (by omega),if_pos (by omega)];simp
    exact .finE [.r []] [] (fun z0:Bool=>(VB z0,[])) _ _ e2
   ·
    refine .back [.r [(0,X (Xn ((i:Int)+1)))]] [] (ih4 ((i+1):Nat) ?_ ?_)
    ·
     simp only[byt0] at h6;refine⟨by omega,?_⟩;rw[I4.2,vlS,if_pos (by omega),if_neg (by omega)]
    ·
     ((try dsimp only);omega)
  ·
   have e3:((valGo s):Bool)=true:=by
    simp only[z2T,decide_eq_false_iff_not] at h1;unfold valGo;rw[I4.2,vlS,if_neg (by omega),decide_eq_true (by omega)];rfl
   exact .finE [.r []] [] (fun z0:Bool=>(VB z0,[])) _ _ e3
theorem y5i(s:ByteArray)(hs:s.size≤9223372036854775807):FC Tryz.prog 16 [VS s] (app emp []) (VB (z1M s)) (app emp []):=by
 refine .go Tryz.f16 ?_
 refine .loop (α:=Nat) [.r [],.r []] 32 (fun i=>([(0,VS s),(6,VI (s.size:Int)),(7,VI (i:Int))],[])) (fun i=>i≤s.size∧nmR s 0=nmR s i) (fun i=>s.size-i) (0:Nat) ?_ ?_
 ·
  exact⟨by omega,rfl⟩
 rintro i I2 ih2
 try dsimp only at I2
 refine .bp [.r []] (decide ((i:Int)< (s.size:Int))) (fun h2=> ?_) (fun h2=> ?_)
 ·
  refine .bp [.r [],.r [(2,X (Xb s (i:Int))),(7,Xv 2 (decide (((((s[i]?).getD 0).toNat:Nat):Int)≥97)) (Xb s (i:Int))),(8,Xv 1 (decide (((((s[i]?).getD 0).toNat:Nat):Int)≥97)) X0),(9,X (Xk (decide (((((s[i]?).getD 0).toNat:Nat):Int)≥97))))],.r [(4,Xv 1 (!(decide (((((s[i]?).getD 0).toNat:Nat):Int)≥97)&&decide (((((s[i]?).getD 0).toNat:Nat):Int)≤122))) X0),(5,Xv 1 (!(decide (((((s[i]?).getD 0).toNat:Nat):Int)≥97)&&decide (((((s[i]?).getD 0).toNat:Nat):Int)≤122))) X0),(8,Xv 2 ((!(decide (((((s[i]?).getD 0).toNat:Nat):Int)≥97)&&decide (((((s[i]?).getD 0).toNat:Nat):Int)≤122)))&& !((i:Int)==0)) (Xb s (i:Int))),(9,Xv 1 ((!(decide (((((s[i]?).getD 0).toNat:Nat):Int)≥97)&&decide (((((s[i]?).getD 0).toNat:Nat):Int)≤122)))&& !((i:Int)==0)) X0),(10,Xv 1 ((!(decide (((((s[i]?).getD 0).toNat:Nat):Int)≥97)&&decide (((((s[i]?).getD 0).toNat:Nat):Int)≤122)))&& !((i:Int)==0)) X0),(13,Xv 2 (((!(decide (((((s[i]?).getD 0).toNat:Nat):Int)≥97)&&decide (((((s[i]?).getD 0).toNat:Nat):Int)≤122)))&& !((i:Int)==0))&&(((((s[i]?).getD 0).toNat:Nat):Int) !=46)) (Xb s (i:Int))),(14,Xv 1 (((!(decide (((((s[i]?).getD 0).toNat:Nat):Int)≥97)&&decide (((((s[i]?).getD 0).toNat:Nat):Int)≤122)))&& !((i:Int)==0))&&(((((s[i]?).getD 0).toNat:Nat):Int) !=46)) X0),(15,Xka ((!(decide (((((s[i]?).getD 0).toNat:Nat):Int)≥97)&&decide (((((s[i]?).getD 0).toNat:Nat):Int)≤122)))&& !((i:Int)==0)) (((((s[i]?).getD 0).toNat:Nat):Int) !=46)),(16,Xv 1 ((!(decide (((((s[i]?).getD 0).toNat:Nat):Int)≥97)&&decide (((((s[i]?).getD 0).toNat:Nat):Int)≤122)))&& !((i:Int)==0)) X0),(19,Xv 2 (((!(decide (((((s[i]?).getD 0).toNat:Nat):Int)≥97)&&decide (((((s[i]?).getD 0).toNat:Nat):Int)≤122)))&& !((i:Int)==0))&&((((((s[i]?).getD 0).toNat:Nat):Int) !=46)&&(((((s[i]?).getD 0).toNat:Nat):Int) !=45))) (Xb s (i:Int))),(20,Xv 1 (((!(decide (((((s[i]?).getD 0).toNat:Nat):Int)≥97)&&decide (((((s[i]?).getD 0).toNat:Nat):Int)≤122)))&& !((i:Int)==0))&&((((((s[i]?).getD 0).toNat:Nat):Int) !=46)&&(((((s[i]?).getD 0).toNat:Nat):Int) !=45))) X0),(21,Xv 1 (((!(decide (((((s[i]?).getD 0).toNat:Nat):Int)≥97)&&decide (((((s[i]?).getD 0).toNat:Nat):Int)≤122)))&& !((i:Int)==0))&&((((((s[i]?).getD 0).toNat:Nat):Int) !=46)&&(((((s[i]?).getD 0).toNat:Nat):Int) !=45))) X0),(24,Xv 2 ((((!(decide (((((s[i]?).getD 0).toNat:Nat):Int)≥97)&&decide (((((s[i]?).getD 0).toNat:Nat):Int)≤122)))&& !((i:Int)==0))&&((((((s[i]?).getD 0).toNat:Nat):Int) !=46)&&(((((s[i]?).getD 0).toNat:Nat):Int) !=45)))&& !(decide (((((s[i]?).getD 0).toNat:Nat):Int)< 48))) (Xb s (i:Int))),(25,Xv 1 ((((!(decide (((((s[i]?).getD 0).toNat:Nat):Int)≥97)&&decide (((((s[i]?).getD 0).toNat:Nat):Int)≤122)))&& !((i:Int)==0))&&((((((s[i]?).getD 0).toNat:Nat):Int) !=46)&&(((((s[i]?).getD 0).toNat:Nat):Int) !=45)))&& !(decide (((((s[i]?).getD 0).toNat:Nat):Int)< 48))) X0),(26,Xko (((!(decide (((((s[i]?).getD 0).toNat:Nat):Int)≥97)&&decide (((((s[i]?).getD 0).toNat:Nat):Int)≤122)))&& !((i:Int)==0))&&((((((s[i]?).getD 0).toNat:Nat):Int) !=46)&&(((((s[i]?).getD 0).toNat:Nat):Int) !=45))) (decide (((((s[i]?).getD 0).toNat:Nat):Int)< 48))),(27,Xka ((!(decide (((((s[i]?).getD 0).toNat:Nat):Int)≥97)&&decide (((((s[i]?).getD 0).toNat:Nat):Int)≤122)))&& !((i:Int)==0)) ((((((s[i]?).getD 0).toNat:Nat):Int) !=46)&&(((((s[i]?).getD 0).toNat:Nat):Int) !=45))),(28,Xko (!(decide (((((s[i]?).getD 0).toNat:Nat):Int)≥97)&&decide (((((s[i]?).getD 0).toNat:Nat):Int)≤122))) ((i:Int)==0)),(29,X (Xk (!(decide (((((s[i]?).getD 0).toNat:Nat):Int)≥97)&&decide (((((s[i]?).getD 0).toNat:Nat):Int)≤122)))))]] (!(decide (((((s[i]?).getD 0).toNat:Nat):Int)≥97)&&decide (((((s[i]?).getD 0).toNat:Nat):Int)≤122))&&(((i:Int)==0)|| (((((((s[i]?).getD 0).toNat:Nat):Int) !=46)&&(((((s[i]?).getD 0).toNat:Nat):Int) !=45))&&(decide (((((s[i]?).getD 0).toNat:Nat):Int)< 48)||decide (((((s[i]?).getD 0).toNat:Nat):Int)> 57))))) (fun h5=> ?_) (fun h5=> ?_)
  ·
   have e1:((z1M s):Bool)=false:=by
    simp only[byt0] at h5;unfold z1M;rw[I2.2,nmR,if_pos (by omega),if_pos (by omega)];simp
   exact .finE [.r []] [] (fun z0:Bool=>(VB z0,[])) _ _ e1
  ·
   refine .back [.r [(0,X (Xn ((i:Int)+1)))]] [] (ih2 ((i+1):Nat) ?_ ?_)
   ·
    simp only[byt0] at h5;refine⟨by omega,?_⟩;rw[I2.2,nmR,if_pos (by omega),if_neg (by omega)]
   ·
    ((try dsimp only);omega)
 ·
  have e2:((z1M s):Bool)=(decide ((s.size:Int)≥1)&&decide ((s.size:Int)≤24)):=by
   unfold z1M;rw[I2.2,nmR,if_neg (by omega),Bool.eq_iff_iff];simp;omega
  exact .finE [.r [(5,Xv 1 (decide ((s.size:Int)≥1)) X0),(6,Xv 1 (decide ((s.size:Int)≥1)) X0),(7,X (Xk (decide ((s.size:Int)≥1))))]] [] (fun z0:Bool=>(VB z0,[])) _ _ e2
def chkA(e:Bool)(l:List Attr)(i:Nat):Int:=
 if i<l.length then
  if z1d (l.getD i default).name=false then 9
  else if valGo (l.getD i default).val=false∧(e=false∨seq (l.getD i default).val {data:=#[]}=false) then 23
  else if 0<i∧(slt (l.getD i default).name (l.getD (i- 1) default).name=true∨seq (l.getD i default).name (l.getD (i- 1) default).name=true) then 5
  else chkA e l (i+1)
 else 0
termination_by l.length-i
def Szd(l:List Attr):Prop:=∀a∈l,a.name.size≤9223372036854775807∧a.val.size≤9223372036854775807
theorem y6i(l:List Attr)(e:Bool):FC Tryz.prog 82 [VL 2 attrT l,VB e] (app emp []) (VI (chkA e l 0)) (app emp []):=by
 refine .go Tryz.f82 ?_
 refine .len 0 (fun hl0=> ?_)
 refine .loop (α:=Nat) [.r [],.r [(1,X (Xl attrT l))]] 32 (fun i=>([(0,VL 2 attrT l),(1,VB e),(7,VL 2 attrT l),(8,VI (l.length:Int)),(9,VI (i:Int))],[])) (fun i=>i≤l.length∧chkA e l 0=chkA e l i) (fun i=>l.length-i) (0:Nat) ?_ ?_
 ·
  exact⟨by omega,rfl⟩
 rintro i I2 ih2
 try dsimp only at I2
 refine .bp [.r []] (decide ((i:Int)< (l.length:Int))) (fun h2=> ?_) (fun h2=> ?_)
 ·
  refine .bp [.r [(1,X (Xi attrT l (i:Int)))],.r [(2,X (Xc0 (z9M (((l.getD i default)).name)) X0))]] (!(z1d (((l.getD i default)).name))) (fun h4=> ?_) (fun h4=> ?_)
  ·
   have e1:((chkA e l 0):Int)=9:=by
    rw[I2.2,chkA,if_pos (by omega),if_pos h4]
   exact .finE [.r []] [] (fun z0:Int=>(VI z0,[])) _ _ e1
  ·
   refine .bp [.r [(2,X (Xc0 (z3h (((l.getD i default)).val)) X0)),(6,Xv 1 (!(valGo (((l.getD i default)).val))) X0),(8,Xv 1 ((!(valGo (((l.getD i default)).val)))&&e) X0),(9,Xv 1 ((!(valGo (((l.getD i default)).val)))&&e) X0),(10,Xka (!(valGo (((l.getD i default)).val))) e),(11,Xv 1 (!(valGo (((l.getD i default)).val))) X0),(12,X (Xk (!(valGo (((l.getD i default)).val)))))]] (!(valGo (((l.getD i default)).val))&& !(e&&seq (((l.getD i default)).val) ({data:=#[]}))) (fun h6=> ?_) (fun h6=> ?_)
   ·
    have e2:((chkA e l 0):Int)=23:=by
     rw[I2.2,chkA,if_pos (by omega),if_neg (by rw[h4];decide),if_pos h6]
    exact .finE [.r []] [] (fun z0:Int=>(VI z0,[])) _ _ e2
   ·
    refine .bp [.r [(4,Xv 1 (decide ((i:Int)> 0)) X0),(7,Xv 1 (decide ((i:Int)> 0)) (Xn ((i:Int)- 1))),(8,Xv 2 (decide ((i:Int)> 0)) (Xi' attrT l ((i:Int)- 1) (i- 1))),(9,Xv 1 (decide ((i:Int)> 0)) X0),(10,Xv 1 (decide ((i:Int)> 0)) X0),(11,Xv 2 (decide ((i:Int)> 0)) X0),(12,X (Xk (decide ((i:Int)> 0))))]] (decide ((i:Int)> 0)&&(slt (((l.getD i default)).name) (((l.getD (i- 1) default)).name)||seq (((l.getD i default)).name) (((l.getD (i- 1) default)).name))) (fun h8=> ?_) (fun h8=> ?_)
    ·
     have e3:((chkA e l 0):Int)=5:=by
      rw[I2.2,chkA,if_pos (by omega),if_neg (by rw[h4];decide),if_neg (by clear ih2;rintro⟨a,b⟩;simp_all),if_pos ⟨by omega,h8.2⟩]
     exact .finE [.r []] [] (fun z0:Int=>(VI z0,[])) _ _ e3
    ·
     refine .back [.r [(0,X (Xn ((i:Int)+1)))]] [] (ih2 ((i+1):Nat) ?_ ?_)
     ·
      refine⟨by omega,?_⟩;rw[I2.2,chkA,if_pos (by omega),if_neg (by rw[h4];decide),if_neg (by clear ih2;rintro⟨a,b⟩;simp_all),if_neg (by clear ih2;rintro⟨a,b⟩;rcases h8 with h| ⟨h,h2⟩;omega;rcases b with b|b<;>simp_all)]
     ·
      ((try dsimp only);omega)
 ·
  have e4:((chkA e l 0):Int)=0:=by
   rw[I2.2,chkA,if_neg (by omega)]
  exact .finE [.r []] [] (fun z0:Int=>(VI z0,[])) _ _ e4
theorem z2x(l:List Attr):FC Tryz.prog 61 [VL 2 attrT l] (app emp []) (VI (chkA false l 0)) (app emp []):=by
 refine .go Tryz.f61 ?_
 refine .len 0 (fun hl0=> ?_)
 exact .fin [.r [],.r [(1,X (Xc0 (y6i l false) X0))]] []
theorem z04(l:List Attr):FC Tryz.prog 40 [VL 2 attrT l] (app emp []) (VI (chkA true l 0)) (app emp []):=by
 refine .go Tryz.f40 ?_
 refine .len 0 (fun hl0=> ?_)
 exact .fin [.r [],.r [(1,X (Xc0 (y6i l true) X0))]] []
def errA(e:Bool)(l:List Attr)(i:Nat):Int:=
 if i<l.length then
  if z1M (l.getD i default).name=false then 9
  else if valRf (l.getD i default).val=false∧(e=false∨seq (l.getD i default).val {data:=#[]}=false) then 23
  else if 0<i∧slt (l.getD (i- 1) default).name (l.getD i default).name=false then 5
  else errA e l (i+1)
 else 0
termination_by l.length-i
theorem y6j(a b:ByteArray):(slt a b=true∨seq a b=true)↔slt b a=false:=by
 constructor
 ·rintro(h|h)
  ·exact y3p h
  ·rw[z0x] at h;subst h;exact z9J _
 ·intro h
  cases k:slt a b with
  |true=>exact .inl rfl
  |false=>exact .inr (z0x.2 (z9K k h))
theorem z2L(e:Bool)(l:List Attr):∀(n i:Nat),l.length-i=n→errA e l i=chkA e l i
 |0,i,h=>by rw[errA,chkA,if_neg (by omega),if_neg (by omega)]
 |n+1,i,h=>by
  have hi:i<l.length:=by omega
  rw[errA,chkA,if_pos hi,if_pos hi,z2L e l n (i+1) (by omega)]
  simp only[z8z,y5h,y6j]
def sameA(a b:List Attr)(i:Nat):Bool:=
 if i<a.length then(if(a.getD i default).name=(b.getD i default).name∧(a.getD i default).val=(b.getD i default).val then sameA a b (i+1) else false) else true
termination_by a.length-i
def sameL(a b:List Attr):Bool:=decide (a.length=b.length)&&sameA a b 0
def getA(l:List Attr)(n:ByteArray)(i:Nat):ByteArray:=
 if i<l.length then(if(l.getD i default).name=n then(l.getD i default).val else getA l n (i+1)) else mt
termination_by l.length-i
theorem z3A{l:List Attr}{i:Nat}(h:i<l.length):l.drop i=l.getD i default::l.drop (i+1):=by
 rw[List.drop_eq_getElem_cons h];simp[List.getD,List.getElem?_eq_getElem h]
theorem z30{l:List Attr}{i:Nat}(h:¬i<l.length):l.drop i=[]:=List.drop_eq_nil_of_le (by omega)
theorem fm_a{g:Attr→Attr→Option Attr}{a b:List Attr}{i j:Nat}(hi:i<a.length)(h:b.length≤j∨slt (a.getD i default).name (b.getD j default).name=true):
 fm g (a.drop i) (b.drop j)=(g (a.getD i default) ⟨mt,mt⟩).toList++fm g (a.drop (i+1)) (b.drop j):=by
 unfold fm
 rw[z3A hi]
 by_cases hj:j<b.length
 ·rw[z3A hj,bothL,if_pos (by rcases h with h|h;omega;exact h),z16];rfl
 ·rw[z30 hj,bothL,z16];rfl
theorem fm_b{g:Attr→Attr→Option Attr}{a b:List Attr}{i j:Nat}(hj:j<b.length)(h0:i<a.length→slt (a.getD i default).name (b.getD j default).name=false)(h:a.length≤i∨slt (b.getD j default).name (a.getD i default).name=true):
 fm g (a.drop i) (b.drop j)=(g ⟨mt,mt⟩ (b.getD j default)).toList++fm g (a.drop i) (b.drop (j+1)):=by
 unfold fm
 rw[z3A hj]
 by_cases hi:i<a.length
 ·rw[z3A hi,bothL,if_neg (by rw[h0 hi];decide),if_pos (by rcases h with h|h;omega;exact h),z16];rfl
 ·rw[z30 hi,bothL,z16];rfl
theorem fm_ab{g:Attr→Attr→Option Attr}{a b:List Attr}{i j:Nat}(hi:i<a.length)(hj:j<b.length)(h0:slt (a.getD i default).name (b.getD j default).name=false)(h:slt (b.getD j default).name (a.getD i default).name=false):
 fm g (a.drop i) (b.drop j)=(g (a.getD i default) (b.getD j default)).toList++fm g (a.drop (i+1)) (b.drop (j+1)):=by
 unfold fm
 rw[z3A hi,z3A hj,bothL,if_neg (by rw[h0];decide),if_neg (by rw[h];decide),z16]
theorem y6k{g:Attr→Attr→Option Attr}{a b:List Attr}{i j:Nat}(hi:a.length≤i)(hj:b.length≤j):fm g (a.drop i) (b.drop j)=[]:=by
 unfold fm
 rw[z30 (by omega),z30 (by omega),bothL];rfl
theorem z5R{o:Option Attr}:o.toList.length≤1:=by cases o<;>simp
theorem z8A(a b:List Attr):FC Tryz.prog 44 [VL 2 attrT a,VL 2 attrT b] (app emp []) (VB (sameL a b)) (app emp []):=by
 refine .go Tryz.f44 ?_
 refine .len 0 (fun hl0=> ?_)
 refine .len 1 (fun hl1=> ?_)
 refine .bp [.r [],.r [(1,X (Xl attrT a)),(3,X (Xl attrT b))]] ((a.length:Int) !=(b.length:Int)) (fun h1=> ?_) (fun h1=> ?_)
 ·
  have e1:((sameL a b):Bool)=false:=by
   unfold sameL;rw[decide_eq_false (by omega)];rfl
  exact .finE [.r []] [] (fun z0:Bool=>(VB z0,[])) _ _ e1
 ·
  refine .loop (α:=Nat) [.r [(1,X (Xl attrT a))]] 72 (fun i=>([(0,VL 2 attrT a),(1,VL 2 attrT b),(12,VI (a.length:Int)),(13,VI (i:Int))],[])) (fun i=>i≤a.length∧sameA a b 0=sameA a b i) (fun i=>a.length-i) (0:Nat) ?_ ?_
  ·
   exact⟨by omega,rfl⟩
  rintro i I4 ih4
  try dsimp only at I4
  refine .bp [.r []] (decide ((i:Int)< (a.length:Int))) (fun h4=> ?_) (fun h4=> ?_)
  ·
   refine .bp [.r [],.r [(2,X (Xi attrT a (i:Int))),(6,X (Xi attrT b (i:Int)))]] (!(seq (((a.getD i default)).name) (((b.getD i default)).name)&&(seq (((a.getD i default)).val) (((b.getD i default)).val)&&true))) (fun h6=> ?_) (fun h6=> ?_)
   ·
    have e2:((sameL a b):Bool)=false:=by
     unfold sameL;rw[I4.2,sameA,if_pos (by omega),if_neg (by clear ih4;simp only[z05,z0x] at h6;rintro⟨x,y⟩;simp_all)];simp
    exact .finE [.r []] [] (fun z0:Bool=>(VB z0,[])) _ _ e2
   ·
    refine .back [.r [(0,X (Xn ((i:Int)+1)))]] [] (ih4 ((i+1):Nat) ?_ ?_)
    ·
     refine⟨by omega,?_⟩;rw[I4.2,sameA,if_pos (by omega),if_pos (by clear ih4;simp only[z05,z0x] at h6;simp_all)]
    ·
     ((try dsimp only);omega)
  ·
   have e3:((sameL a b):Bool)=true:=by
    unfold sameL;rw[I4.2,sameA,if_neg (by omega),decide_eq_true (by omega)];rfl
   exact .finE [.r []] [] (fun z0:Bool=>(VB z0,[])) _ _ e3
theorem z4T(l:List Attr)(n:ByteArray):FC Tryz.prog 65 [VL 2 attrT l,VS n] (app emp []) (VS (getA l n 0)) (app emp []):=by
 refine .go Tryz.f65 ?_
 refine .len 0 (fun hl0=> ?_)
 refine .loop (α:=Nat) [.r [],.r [(1,X (Xl attrT l))]] 32 (fun i=>([(1,VS n),(7,VL 2 attrT l),(8,VI (l.length:Int)),(9,VI (i:Int))],[])) (fun i=>i≤l.length∧getA l n 0=getA l n i) (fun i=>l.length-i) (0:Nat) ?_ ?_
 ·
  exact⟨by omega,rfl⟩
 rintro i I2 ih2
 try dsimp only at I2
 refine .bp [.r []] (decide ((i:Int)< (l.length:Int))) (fun h2=> ?_) (fun h2=> ?_)
 ·
  refine .bp [.r [(0,X (Xi attrT l (i:Int)))],.r []] (seq (((l.getD i default)).name) n) (fun h4=> ?_) (fun h4=> ?_)
  ·
   have e1:((getA l n 0):ByteArray)=((l.getD i default)).val:=by
    rw[I2.2,getA,if_pos (by omega),if_pos (z0x.1 h4)]
   exact .finE [.r []] [] (fun z0:ByteArray=>(VS z0,[])) _ _ e1
  ·
   refine .back [.r [(0,X (Xn ((i:Int)+1)))]] [] (ih2 ((i+1):Nat) ?_ ?_)
   ·
    refine⟨by omega,?_⟩;rw[I2.2,getA,if_pos (by omega),if_neg (z05.1 h4)]
   ·
    ((try dsimp only);omega)
 ·
  have e2:((getA l n 0):ByteArray)={data:=#[]}:=by
   rw[I2.2,getA,if_neg (by omega)]
  exact .finE [.r []] [] (fun z0:ByteArray=>(VS z0,[])) _ _ e2
end Go.Ch
end
