/- slices.Insert at nodes as a contract of this framework. -/
import Derived.Test.YtipofpnmgbaopaaGreatDoorM9b
import Derived.JoinedOf
import Derived.Ground.Names2Prog
set_option linter.unusedVariables false
set_option linter.unusedSimpArgs false
section
set_option maxRecDepth 100000
namespace Go.Ch
open Go Go.Proofs Go.Ab Go.RowKit
theorem Km{P:Program}{w:World}{g o:Nat}{cur:Array Value}{e:TypeId}{vs:List Value}(hg:w.heap[g]? =some (.cells cur e (0,0)))(hl:o+vs.length<=cur.size)(h1:∀v∈vs,v.oneCell'=true):
 w.setCells g o vs=w.setRow g (cur.toList.take o++vs++cur.toList.drop (o+vs.length)).toArray:=by
 have a:=run_storeCells_at P g o e vs 0 cur w hg (by simpa using hl) h1;have b:=run_storeCells_cells (P:=P) g o vs 0 w (fun j hj=>by
  unfold World.cell?;simp only[hg,Nat.add_zero];rw[zD oM];rfl) (fun j hj=>by
  unfold World.frozen?;simp only[hg];simp) h1
 rw[a] at b;simp only[Nat.add_zero] at b;injection b with _ b;exact b.symm
theorem z41(w:World)(g:Nat)(cs:Array Value):(w.setRow g cs).heap.size=w.heap.size:=by unfold World.setRow;simp
section
variable {P:Program} {S:bQ} {m:Ab.Place} {w:World} {F:eL P}
theorem x3a(hS:aY F S m w){id:Nat}{o o':Ob}(bn:S id=some o)(fQ:o.len<o'.len)(gA:o.same o')(uY:o.live=true)(cap:Nat){w':World}(Dj:w'.os=w.os)(nH:w'.tape=w.tape)(nI:w'.output=w.output)
 (fV:w'.heap.size=w.heap.size+1) (hold:∀c,c<w.heap.size->w'.heap[c]? =w.heap[c]?)
 (bR:aK F S m w (bO S id o') (place m id (some w.heap.size,cap)) w'->mZ (bO S id o') (place m id (some w.heap.size,cap)) w' (okB F (bO S id o') (place m id (some w.heap.size,cap)) w') o' (some w.heap.size,cap) []):
 aY F (bO S id o') (place m id (some w.heap.size,cap)) w'/\aK F S m w (bO S id o') (place m id (some w.heap.size,cap)) w':=by
 have hF:aK F S m w (bO S id o') (place m id (some w.heap.size,cap)) w':=by
  refine⟨Dj,nH,nI,oM,fun b hb _=>hold b hb,fun i oi hi=> ?_,fun i oi hi hn=> ?_⟩
  ·by_cases e:i=id
   ·subst e;rw[bn] at hi;cases hi;exact⟨o',iV _ _ _,oM,fun e=>oM,fun h=>(by rw[uY] at h;cases h),fun b hb=> .inr (.inl (by rw[rL] at hb;simp at hb;omega)),gA⟩
   exact⟨oi,by rw[eC e];exact hi,Nat.le_refl _,fun _=>vN e,fun h=>h,fun b hb=> .inl ((mj e).1 hb),oi.dw⟩
  by_cases e:i=id
  ·subst e;rw[bn] at hn;cases hn
  rw[eC e] at hi;rw[hi] at hn;cases hn
 refine⟨⟨fun i oi hi=> ?_,fun i j oi oj c hi hj h1 h2=> ?_,fun i oi c hi hm yQ=> ?_,fun i oi c hi hm=> ?_,fun c hc=>Nat.lt_of_lt_of_le (hS.low c hc) hF.size,hS.held hF⟩,hF⟩
 ·by_cases e:i=id
  ·subst e;rw[iV] at hi;cases hi;rw[o8,z23];exact bR hF
  rw[eC e] at hi;rw[vN e,EZ e];exact(hS.cN i oi hi).cF hF (fun b hm=>hold b (hS.lt i oi b hi hm))
 ·by_cases e:i=id
  ·by_cases e':j=id
   ·rw[e,e']
   subst e;rw[rL] at h1;rw[mj e'] at h2;rw[eC e'] at hj;have:=hS.lt j oj c hj h2;simp at h1;omega
  by_cases e':j=id
  ·subst e';rw[rL] at h2;rw[mj e] at h1;rw[eC e] at hi;have:=hS.lt i oi c hi h1;simp at h2;omega
  rw[mj e] at h1;rw[mj e'] at h2;rw[eC e] at hi;rw[eC e'] at hj;exact hS.inj i j oi oj c hi hj h1 h2
 ·by_cases e:i=id
  ·subst e;rw[rL] at hm;have:=hS.low c yQ;simp at hm;omega
  rw[eC e] at hi;rw[mj e] at hm;exact hS.eD i oi c hi hm yQ
 by_cases e:i=id
 ·subst e;rw[rL] at hm;simp at hm;omega
 rw[eC e] at hi;rw[mj e] at hm;have:=hS.lt i oi c hi hm;omega
end
theorem x3b{w:World}{ok:Nat->Prop}{k i:Nat}{xs:List Tree}{x:Tree}{cs vs rest:List Value}(ha:∀y∈xs,jo k y)(hx:jo k x)(hi:i<=xs.length)(kV:cs.length=xs.length*k)(lT:vs.length=k)
 (hr:∀(j:Nat) (T:Tree) (u:Value),(dL xs)[j]? =some T->cs[j]? =some u->cr w ok T u) (hv:∀(j:Nat) (T:Tree) (u:Value),(dL [x])[j]? =some T->vs[j]? =some u->cr w ok T u)
 (j:Nat) (T:Tree) (u:Value) (hT:(dL (xs.take i++x::xs.drop i))[j]? =some T) (hu:(cs.take (i*k)++(vs++cs.drop (i*k))++rest)[j]? =some u):cr w ok T u:=by
 have OJ:∀y∈[x],jo k y:=fun y hy=>by rw[List.mem_singleton] at hy;subst hy;exact hx
 have hle:i*k<=xs.length*k:=Nat.mul_le_mul_right k hi;refine Ht (xs:=xs.take i) (ys:=x::xs.drop i) (fun y hy=>ha y (List.mem_of_mem_take hy)) (n:=i) (by rw[List.length_take];omega) (by rw[List.length_take,kV];omega) (fun j T u h1 h2=> ?_) (fun j T u h1 h2=> ?_) (fun y hy=> ?_) (by rw[List.length_append,List.length_drop,List.length_cons,List.length_drop,kV,lT,Nat.add_mul,Nat.sub_mul];omega) j T u hT hu
 ·rw[G7 ha,List.getElem?_take] at h1;rw[List.getElem?_take] at h2;split at h1
  ·rename_i z;rw[if_pos z] at h2;exact hr j T u h1 h2
  cases h1
 ·have th:(dL ([x]++xs.drop i))[j]? =some T:=h1;refine Ht (xs:=[x]) (ys:=xs.drop i) (olds:=vs) (news:=cs.drop (i*k)) (rest:=[]) OJ (n:=1) rfl (by rw[lT];omega) hv (fun j T u h1 h2=> ?_) (fun y hy=>ha y (List.mem_of_mem_drop hy)) (by rw[List.length_drop,List.length_drop,kV,<-Nat.sub_mul]) j T u th (by rw[List.append_nil];exact h2);rw[TC ha,List.getElem?_drop] at h1;rw[List.getElem?_drop] at h2;exact hr _ T u h1 h2
 rcases List.mem_cons.1 hy with rfl|hy
 ·exact hx
 exact ha y (List.mem_of_mem_drop hy)
theorem Uk{l:List Node}:∀x∈l.map bz,jo 9 x:=fun x hx=>by
 obtain⟨r,_,rfl⟩:=List.mem_map.1 hx;exact⟨rfl,fun T hT=>by
  simp only[bz,Tree.cells,List.mem_cons,List.not_mem_nil,or_false] at hT;rcases hT with rfl|rfl|rfl|rfl|rfl|rfl|rfl|rfl|rfl<;>rfl⟩
theorem y9G{α:Type}{us cs vs:List α}{i n:Nat}(mh:cs=us.take (n*9))(kW:vs.length=9)(hi:i<n)(hu:(n+1)*9<=us.length):
 ((us.take ((i+1)*9)++cs.drop (i*9)++us.drop ((i+1)*9+(cs.drop (i*9)).length)).take (i*9)++vs++(us.take ((i+1)*9)++cs.drop (i*9)++us.drop ((i+1)*9+(cs.drop (i*9)).length)).drop (i*9+vs.length))=
  cs.take (i*9)++(vs++cs.drop (i*9))++us.drop ((i+1)*9+(cs.drop (i*9)).length):=by
 have t1:(us.take ((i+1)*9)).length=(i+1)*9:=by rw[List.length_take];omega
 rw[List.append_assoc (us.take ((i+1)*9)),List.take_append_of_le_length oM,List.take_take,Nat.min_eq_left oM,List.drop_append_of_le_length oM,kW,show i*9+9=(i+1)*9 by omega];rw[show(us.take ((i+1)*9)).drop ((i+1)*9)=[] from List.drop_eq_nil_of_le oM,List.nil_append];have e:us.take (i*9)=cs.take (i*9):=by rw[mh,List.take_take,Nat.min_eq_left oM]
 rw[e];simp only[List.append_assoc]
theorem x3c{α:Type}{R cs vs:List α}{i n:Nat}(mh:cs.length=n*9)(hR:R.take (i*9)=cs.take (i*9))(kW:vs.length=9)(hi:i<n)(hu:(n+1)*9<=R.length):
 ((R.take (i*9)++vs++R.drop (i*9+vs.length)).take ((i+1)*9)++cs.drop (i*9)++(R.take (i*9)++vs++R.drop (i*9+vs.length)).drop ((i+1)*9+(cs.drop (i*9)).length))=
  cs.take (i*9)++(vs++cs.drop (i*9))++(R.take (i*9)++vs++R.drop (i*9+vs.length)).drop ((i+1)*9+(cs.drop (i*9)).length):=by
 have t1:(R.take (i*9)++vs).length=(i+1)*9:=by rw[List.length_append,List.length_take,kW];omega
 rw[List.take_append_of_le_length oM,List.take_of_length_le oM,hR];simp only[List.append_assoc]
theorem Kn(k:Nat):(Builtin.zeroCells tw.cells k).size=k*9/\∀v∈(Builtin.zeroCells tw.cells k).toList,v.oneCell'=true:=by
 refine⟨by simp[Builtin.zeroCells,tw,Value.cells],fun v hv=> ?_⟩;have h9:tw.cells.size=9:=rfl;have key:∀i,i<9->(tw.cells[i]!).oneCell'=true:=dM;simp[Builtin.zeroCells] at hv;obtain⟨w,_,h⟩:=hv;rw[<-h,h9];exact key _ (Nat.mod_lt _ dM)
theorem x3d(l:List Node)(n:Node)(i:Nat)(hi:i<l.length)(hl:l.length<=1048576):
 FC Tryz.prog 101 [.aF 0 l.length,VI (i:Int),.aF 1 1] (app emp [(0,.aF 9 false (l.map bz)),(1,.aF 9 false [bz n])]) (.aF 0 (l.take i++n::l.drop i).length) (app emp [(0,.aF 9 false ((l.take i++n::l.drop i).map bz)),(1,.aF 9 true [bz n])]):=by
 intro F m w xs hS hlen hv
 match xs,hlen with
 | [x0,x1,x2],_=>
 have v0:=hv 0 _ _ rfl rfl;have v1:=hv 1 _ _ rfl rfl;have v2:=hv 2 _ _ rfl rfl;have v1:=aO.bq v1;subst v1;have lF:app emp [(0,Ob.aF 9 false (l.map bz)),(1,.aF 9 false [bz n])] 0=some (.aF 9 false (l.map bz)):=rfl;have rR:app emp [(0,Ob.aF 9 false (l.map bz)),(1,.aF 9 false [bz n])] 1=some (.aF 9 false [bz n]):=rfl;obtain⟨a1,a2,a3,a4,a5⟩:=hS.cN 0 _ lF;obtain⟨c1,c2,c3,c4,c5⟩:=hS.cN 1 _ rR;cases v0 with
 |fH _ _ L b9=>rw[lF] at b9;cases b9
 |aF _ _ k' iU xs' L b9 tg fu=>
 rw[lF] at b9;cases b9;cases v2 with
 |fH _ _ L b9=>rw[rR] at b9;cases b9
 |aF _ _ k2 fz2 xs2 L2 HF w24 OK=>
 rw[rR] at HF;cases HF;have hL:=fu sM;have Ul:=OK rfl;rw[hL] at a3 a4 a5;rw[Ul] at c3 c4 c5;rw[List.length_map] at a3;have c3:1<=L2.2:=c3;rcases a5 with⟨q1,q2⟩| ⟨b,us,e,h1,h2,h3,h4,h5⟩
 ·rw[q2] at a3;omega
 rcases c5 with⟨q1,q2⟩| ⟨vb,xL,e2,g1,g2,g3,g4,g5⟩
 ·rw[q2] at c3;omega
 obtain⟨L1,cap⟩:=L;obtain⟨L3,vc⟩:=L2;simp only at h1 g1 a3 a4 h3 c3 c4 g3;subst h1 g1;have Ko:vb≠b:=fun z=>by
  subst z;have:=hS.inj 0 1 _ _ vb lF rR (.inl (by rw[hL])) (.inl (by rw[Ul]));cases this
 have hb:b<w.heap.size:=(Array.getElem?_eq_some_iff.1 h2).1;have Um:vb<w.heap.size:=(Array.getElem?_eq_some_iff.1 g2).1;have HB:us.toList.length=us.size:=Array.length_toList;have OL:xL.toList.length=xL.size:=Array.length_toList;have mM:(us.toList.take (l.length*9)).length=l.length*9:=by rw[List.length_take,HB];omega
 have nO:(xL.toList.take 9).length=9:=by rw[List.length_take,OL];omega
 have bT:∀(c:Nat) (A:Array Value) (e:TypeId) (o:Nat),w.heap[c]? =some (.cells A e (0,0))->w.cell? ⟨c,o,none⟩=A[o]? :=fun c A e o h=>by
  unfold World.cell?;simp only[h];rfl
 have Dz:∀(c:Nat) (A:Array Value) (e:TypeId) (o:Nat),w.heap[c]? =some (.cells A e (0,0))->w.frozen? ⟨c,o,none⟩=false:=fun c A e o h=>by
  unfold World.frozen?;simp only[h];simp
 have mh:∀j v,(us.toList.take (l.length*9))[j]? =some v->w.cell? ⟨b,j,none⟩=some v:=fun j v hj=>by
  rw[List.getElem?_take] at hj;split at hj
  ·rw[bT b us e j h2];simpa using hj
  cases hj
 have kW:∀j v,(xL.toList.take 9)[j]? =some v->w.cell? ⟨vb,j,none⟩=some v:=fun j v hj=>by
  rw[List.getElem?_take] at hj;split at hj
  ·rw[bT vb xL e2 j g2];simpa using hj
  cases hj
 have vW:∀v∈us.toList.take (l.length*9),v.oneCell'=true:=fun v hv=>by
  obtain⟨j,hj⟩:=List.getElem?_of_mem (List.mem_of_mem_take hv);exact h4 j v (by simpa using hj)
 have xM:∀v∈xL.toList.take 9,v.oneCell'=true:=fun v hv=>by
  obtain⟨j,hj⟩:=List.getElem?_of_mem (List.mem_of_mem_take hv);exact g4 j v (by simpa using hj)
 have hr:∀(j:Nat) (T:Tree) (u:Value),(dL (l.map bz))[j]? =some T->(us.toList.take (l.length*9))[j]? =some u->cr w (okB F _ m w) T u:=fun j T u hT hu=>by
  rw[List.getElem?_take] at hu;split at hu
  ·exact h5 j T u hT (by simpa using hu)
  cases hu
 have Kg:∀(j:Nat) (T:Tree) (u:Value),(dL [bz n])[j]? =some T->(xL.toList.take 9)[j]? =some u->cr w (okB F _ m w) T u:=fun j T u hT hu=>by
  rw[List.getElem?_take] at hu;split at hu
  ·exact g5 j T u hT (by simpa using hu)
  cases hu
 have Co:(l.take i++n::l.drop i).length=l.length+1:=by rw[List.length_append,List.length_cons,List.length_take,List.length_drop];omega
 have DA:(l.take i++n::l.drop i).map bz=(l.map bz).take i++bz n::(l.map bz).drop i:=by rw[List.map_append,List.map_cons,List.map_take,List.map_drop]
 have hnE:jo 9 (bz n):=Uk (l:=[n]) _ sM;generalize OM:us.toList.take (l.length*9)=cs at*
 generalize w25:xL.toList.take 9=vs at*
 have cells:∀{S':bQ} {m':Ab.Place} {w':World},aK F (app emp [(0,Ob.aF 9 false (l.map bz)),(1,.aF 9 false [bz n])]) m w S' m' w'->∀(rest:List Value) (j:Nat) (T:Tree) (u:Value),(dL ((l.take i++n::l.drop i).map bz))[j]? =some T->
  (cs.take (i*9)++(vs++cs.drop (i*9))++rest)[j]? =some u->cr w' (okB F S' m' w') T u:=fun hF rest j T u hT hu=>by
  rw[DA] at hT;exact hF.tree (x3b (k:=9) a2 hnE (by rw[List.length_map];omega) (by rw[List.length_map];exact mM) nO hr Kg j T u hT hu)
 have elts:∀x∈(l.take i++n::l.drop i).map bz,jo 9 x:=Uk;have fin:∀{m':Ab.Place} {w':World},aY F (bO (app emp [(0,Ob.aF 9 false (l.map bz)),(1,.aF 9 false [bz n])]) 0 (.aF 9 false ((l.take i++n::l.drop i).map bz))) m' w'->
  aK F (app emp [(0,Ob.aF 9 false (l.map bz)),(1,.aF 9 false [bz n])]) m w (bO (app emp [(0,Ob.aF 9 false (l.map bz)),(1,.aF 9 false [bz n])]) 0 (.aF 9 false ((l.take i++n::l.drop i).map bz))) m' w'->
  ∃m2,aY F (app emp [(0,.aF 9 false ((l.take i++n::l.drop i).map bz)),(1,.aF 9 true [bz n])]) m2 w'/\aK F (app emp [(0,Ob.aF 9 false (l.map bz)),(1,.aF 9 false [bz n])]) m w (app emp [(0,.aF 9 false ((l.take i++n::l.drop i).map bz)),(1,.aF 9 true [bz n])]) m2 w'/\m2 0=m' 0:=fun r1 r2=>by
  obtain⟨f1,f2⟩:=Ab.freeze r1 (id:=1) (k:=9) (fz:=false) (xs:=[bz n]) rfl;have e:bO (bO (app emp [(0,Ob.aF 9 false (l.map bz)),(1,.aF 9 false [bz n])]) 0 (.aF 9 false ((l.take i++n::l.drop i).map bz))) 1 (.aF 9 true [bz n])=app emp [(0,.aF 9 false ((l.take i++n::l.drop i).map bz)),(1,.aF 9 true [bz n])]:=by
   funext j
   match j with
   |0=>rfl
   |1=>rfl
   |j+2=>rfl
  rw[e] at f1 f2;exact⟨_,f1,aK.trans hS r2 f2,rfl⟩
 have ea:([ia (some b,cap) l.length,Value.int .i64 i,ia (some vb,vc) 1].toArray:Array Value)=#[Value.slice (some ⟨b,0,none⟩) l.length cap,.int .i64 i,.slice (some ⟨vb,0,none⟩) 1 vc]:=by simp[ia]
 rw[ea];by_cases iH:l.length+1<=cap
 ·have key:=y4P b l.length cap i vb vc cs vs w hi iH (by unfold maxLen at a4;omega) Ko mM nO mh (fun j hj=>by rw[bT b us e j h2,Array.getElem?_eq_getElem oM];rfl) (fun j _=>Dz b us e j h2) kW vW xM
   e2 e xL.size us.size (by unfold World.shape?;rw[g2]) (by unfold World.shape?;rw[h2]) oM (Dz vb xL e2 0 g2) (Dz vb xL e2 _ g2)
  refine key.mono ?_;rintro ee w' ⟨rfl,rfl⟩;have d2:w.drew.heap[b]? =some (.cells us e (0,0)):=h2;have fO:(cs.drop (i*9)).length=(l.length-i)*9:=by rw[List.length_drop,mM];omega
  have s1:=Km (P:=Tryz.prog) (vs:=cs.drop (i*9)) (o:=(i+1)*9) d2 (by rw[fO];omega) (fun v hv=>vW v (List.mem_of_mem_drop hv));have r1:=setRow_heap w.drew b us (us.toList.take ((i+1)*9)++cs.drop (i*9)++us.toList.drop ((i+1)*9+(cs.drop (i*9)).length)).toArray e (0,0) d2;rw[<-s1] at r1;have hA:(us.toList.take ((i+1)*9)++cs.drop (i*9)++us.toList.drop ((i+1)*9+(cs.drop (i*9)).length)).toArray.size=us.size:=by
   simp only[List.size_toArray,List.length_append,List.length_take,List.length_drop,HB,mM];omega
  have s2:=Km (P:=Tryz.prog) (vs:=vs) (o:=i*9) r1 (by rw[hA,nO];omega) xM;have r2:=setRow_heap _ b _ ((us.toList.take ((i+1)*9)++cs.drop (i*9)++us.toList.drop ((i+1)*9+(cs.drop (i*9)).length)).toArray.toList.take (i*9)++vs++(us.toList.take ((i+1)*9)++cs.drop (i*9)++us.toList.drop ((i+1)*9+(cs.drop (i*9)).length)).toArray.toList.drop (i*9+vs.length)).toArray e (0,0) r1;rw[<-s2] at r2;have rT:(w.drew.setCells b ((i+1)*9) (cs.drop (i*9))).setCells b (i*9) vs=((w.drew.setRow b (us.toList.take ((i+1)*9)++cs.drop (i*9)++us.toList.drop ((i+1)*9+(cs.drop (i*9)).length)).toArray).setRow b
   ((us.toList.take ((i+1)*9)++cs.drop (i*9)++us.toList.drop ((i+1)*9+(cs.drop (i*9)).length)).toArray.toList.take (i*9)++vs++(us.toList.take ((i+1)*9)++cs.drop (i*9)++us.toList.drop ((i+1)*9+(cs.drop (i*9)).length)).toArray.toList.drop (i*9+vs.length)).toArray):=by rw[s2,s1]
  have gA:=y9G (vs:=vs) OM.symm nO hi oM;simp only[List.toList_toArray] at r2 rT;rw[gA] at r2 rT;have fV:(cs.take (i*9)++(vs++cs.drop (i*9))++us.toList.drop ((i+1)*9+(cs.drop (i*9)).length)).length=us.size:=by
   simp only[List.length_append,List.length_take,List.length_drop,HB,mM,nO];omega
  have r:=wM (o':= .aF 9 false ((l.take i++n::l.drop i).map bz)) hS lF rfl (by rw[hL]) (w':=(w.drew.setCells b ((i+1)*9) (cs.drop (i*9))).setCells b (i*9) vs) (by rw[rT];rfl) (by rw[rT];rfl) (by rw[rT];rfl)
   (by rw[rT,z41,z41];rfl) (fun c hc=>by rw[rT,setRow_other _ _ _ _ hc,setRow_other _ _ _ _ hc];rfl) (by simp only[Ob.len,List.length_map,Co];omega) (by simp[Ob.same]) (fun hF=>by
    rw[hL];refine⟨a1,elts,by rw[List.length_map,Co];exact iH,a4,.inr ⟨b,_,e,rfl,r2,by rw[List.size_toArray,fV];exact h3,fun j u hu=> ?_,fun j T u hT hu=>cells hF _ j T u hT (by simpa using hu)⟩⟩;have hm:=List.mem_of_getElem? (show(cs.take (i*9)++(vs++cs.drop (i*9))++us.toList.drop ((i+1)*9+(cs.drop (i*9)).length))[j]? =some u by simpa using hu);rcases List.mem_append.1 hm with hm|hm
    ·rcases List.mem_append.1 hm with hm|hm
     ·exact vW u (List.mem_of_mem_take hm)
     rcases List.mem_append.1 hm with hm|hm
     ·exact xM u hm
     exact vW u (List.mem_of_mem_drop hm)
    obtain⟨q,hq⟩:=List.getElem?_of_mem (List.mem_of_mem_drop hm);exact h4 q u (by simpa using hq))
  obtain⟨m2,f1,f2,f3⟩:=fin r.1 r.2;refine⟨_,m2,rfl,f1,f2,?_⟩;rw[Co];exact .aF 0 (l.length+1) 9 false _ (some b,cap) rfl (by rw[List.length_map,Co];exact Nat.le_refl _) (fun _=>by rw[f3,hL])
 have key:=y57 b l.length cap i vb vc cs vs w hi a3 oM oM mM nO mh kW vW xM;refine key.mono ?_;rintro ee w' ⟨rfl,rfl⟩;generalize hG:grownCap w (l.length+1) cap 45=G;have Un:l.length+1<=G:=by rw[<-hG];exact grownCap_ge w _ _ _
 have hGm:G<=maxLen:=by rw[<-hG];exact grownCap_le_maxLen w (l.length+1) cap 45 (by unfold maxLen;omega)
 generalize hR:(cs.take (i*9)).toArray++Builtin.zeroCells tw.cells (l.length+1-i)++Builtin.zeroCells tw.cells (G- (l.length+1))=R;have hRs:R.size=G*9:=by
  rw[<-hR,Array.size_append,Array.size_append,(Kn _).1,(Kn _).1,List.size_toArray,List.length_take,mM];omega
 have hRt:R.toList.take (i*9)=cs.take (i*9):=by
  rw[<-hR];simp only[Array.toList_append];rw[List.append_assoc,List.take_append_of_le_length (by rw[List.length_take,mM];omega),List.take_take,Nat.min_self]
 have HG:∀v∈R.toList,v.oneCell'=true:=fun v hv=>by
  rw[<-hR] at hv;simp only[Array.toList_append,List.mem_append,List.toList_toArray] at hv;rcases hv with(hv|hv)|hv
  ·exact vW v (List.mem_of_mem_take hv)
  ·exact(Kn _).2 v hv
  exact(Kn _).2 v hv
 have Kr:R.toList.length=R.size:=Array.length_toList;have d2:(w.alloc (.cells R 45)).drew.heap[w.heap.size]? =some (.cells R 45 (0,0)):=Ab.fA w _;have fO:(cs.drop (i*9)).length=(l.length-i)*9:=by rw[List.length_drop,mM];omega
 have s1:=Km (P:=Tryz.prog) (vs:=vs) (o:=i*9) d2 (by rw[nO];omega) xM;have r1:=setRow_heap (w.alloc (.cells R 45)).drew w.heap.size R (R.toList.take (i*9)++vs++R.toList.drop (i*9+vs.length)).toArray 45 (0,0) d2;rw[<-s1] at r1;have hA:(R.toList.take (i*9)++vs++R.toList.drop (i*9+vs.length)).toArray.size=R.size:=by
  simp only[List.size_toArray,List.length_append,List.length_take,List.length_drop,Kr,nO];omega
 have Uo:((w.alloc (.cells R 45)).drew.setCells w.heap.size (i*9) vs).drew.heap[w.heap.size]? =_:=r1;have s2:=Km (P:=Tryz.prog) (vs:=cs.drop (i*9)) (o:=(i+1)*9) Uo (by rw[hA,fO];omega) (fun v hv=>vW v (List.mem_of_mem_drop hv));have r2:=setRow_heap _ w.heap.size _ ((R.toList.take (i*9)++vs++R.toList.drop (i*9+vs.length)).toArray.toList.take ((i+1)*9)++cs.drop (i*9)++(R.toList.take (i*9)++vs++R.toList.drop (i*9+vs.length)).toArray.toList.drop ((i+1)*9+(cs.drop (i*9)).length)).toArray 45 (0,0) Uo;rw[<-s2] at r2;have hgl:=x3c (R:=R.toList) (vs:=vs) mM hRt nO hi oM;have rT:=s2;rw[s1] at rT;simp only[List.toList_toArray] at r2 rT;rw[hgl] at r2 rT;generalize jM:(R.toList.take (i*9)++vs++R.toList.drop (i*9+vs.length)).drop ((i+1)*9+(cs.drop (i*9)).length)=rest at r2 rT;have Cd:rest.length=G*9- (l.length+1)*9:=by
  rw[<-jM];simp only[List.length_append,List.length_take,List.length_drop,Kr,nO,mM];omega
 have fV:(cs.take (i*9)++(vs++cs.drop (i*9))++rest).length=G*9:=by
  simp only[List.length_append,List.length_take,List.length_drop,mM,nO,Cd];omega
 have hcW:∀c,c<w.heap.size->(((w.alloc (.cells R 45)).drew.setCells w.heap.size (i*9) vs).drew.setCells w.heap.size ((i+1)*9) (cs.drop (i*9))).heap[c]? =w.heap[c]? :=fun c hc=>by
  rw[s2,setRow_other _ _ _ _ oM];show((w.alloc (.cells R 45)).drew.setCells w.heap.size (i*9) vs).heap[c]? =_;rw[s1,setRow_other _ _ _ _ oM];exact Ab.dz w _ c hc
 have ON:(((w.alloc (.cells R 45)).drew.setCells w.heap.size (i*9) vs).drew.setCells w.heap.size ((i+1)*9) (cs.drop (i*9))).heap.size=w.heap.size+1:=by
  rw[s2,z41];show((w.alloc (.cells R 45)).drew.setCells w.heap.size (i*9) vs).heap.size=_;rw[s1,z41];show(w.alloc (.cells R 45)).heap.size=_;simp
 have DB:∀{α:Type} (f:World->α),(∀w:World,f w.drew=f w)->(∀(w:World) g A,f (w.setRow g A)=f w)->f (((w.alloc (.cells R 45)).drew.setCells w.heap.size (i*9) vs).drew.setCells w.heap.size ((i+1)*9) (cs.drop (i*9)))=f (w.alloc (.cells R 45)):=fun f f1 f2=>by
  rw[s2,f2,f1,s1,f2,f1]
 have r:=x3a (o':= .aF 9 false ((l.take i++n::l.drop i).map bz)) hS lF (by simp only[Ob.len,List.length_map,Co];omega) (by simp[Ob.same]) rfl G (DB (·.os) (fun _=>rfl) (fun _ _ _=>rfl)) (DB (·.tape) (fun _=>rfl) (fun _ _ _=>rfl)) (DB (·.output) (fun _=>rfl) (fun _ _ _=>rfl)) ON hcW
  (fun hF=>by
   refine⟨a1,elts,by rw[List.length_map,Co];exact Un,hGm,.inr ⟨_,_,45,rfl,r2,by rw[List.size_toArray,fV],fun j u hu=> ?_,fun j T u hT hu=>cells hF rest j T u hT (by simpa using hu)⟩⟩;have hm:=List.mem_of_getElem? (show(cs.take (i*9)++(vs++cs.drop (i*9))++rest)[j]? =some u by simpa using hu);rcases List.mem_append.1 hm with hm|hm
   ·rcases List.mem_append.1 hm with hm|hm
    ·exact vW u (List.mem_of_mem_take hm)
    rcases List.mem_append.1 hm with hm|hm
    ·exact xM u hm
    exact vW u (List.mem_of_mem_drop hm)
   rw[<-jM] at hm;have hm:=List.mem_of_mem_drop hm;rcases List.mem_append.1 hm with hm|hm
   ·rcases List.mem_append.1 hm with hm|hm
    ·exact HG u (List.mem_of_mem_take hm)
    exact xM u hm
   exact HG u (List.mem_of_mem_drop hm))
 obtain⟨m2,f1,f2,f3⟩:=fin r.1 r.2;refine⟨_,m2,rfl,f1,f2,?_⟩;rw[Co];exact .aF 0 (l.length+1) 9 false _ (some w.heap.size,G) rfl (by rw[List.length_map,Co];exact Nat.le_refl _) (fun _=>by rw[f3,o8])
end Go.Ch
end
section
set_option maxRecDepth 100000
set_option maxHeartbeats 4000000
open Go Go.Proofs Go.Ab
namespace Go.Ch
theorem y58(l:List aB)(hd:DN 400000000000 l)(hv:j9 l):FC Tryz.prog 104 [VL 4 bB l] (app emp []) (.aZ [VI (eu l),VI (eU l),VI 0]) (app emp []):=by
 refine .go Tryz.f104 ?_;refine .len 0 (fun dQ=> ?_);have hc:=wO.2 hv;refine .bp [.r [],.r [(1,X (aW (Cp l aM) X0))],.r []] ((k8 l) !=0) (fun h2=> ?_) (fun h2=> ?_)
 ·exfalso;omega
 exact .fin [.r [(1,X (aW (HH l aM) X0))],.r []] []
theorem x5l(l:List aB):FC Tryz.prog 105 [VL 4 bB l] (app emp []) (VB (u7 l)) (app emp []):=by
 refine .go Tryz.f105 ?_;refine .len 0 (fun dQ=> ?_);have e1:((u7 l):Bool)=(decide ((l.length:Int)> 0)&&((((l.getD (l.length- 1) default)).af)==0)):=by
  rfl
 exact .aG [.r [],.r [(1,X (Xl bB l)),(6,Xv 1 (decide ((l.length:Int)> 0)) (Xl bB l)),(7,Xv 1 (decide ((l.length:Int)> 0)) (Xn ((l.length:Int)- 1))),(8,Xv 2 (decide ((l.length:Int)> 0)) (yV bB l ((l.length:Int)- 1) (l.length- 1))),(9,Xv 1 (decide ((l.length:Int)> 0)) X0),(10,Xv 1 (decide ((l.length:Int)> 0)) X0),(11,Xv 1 (decide ((l.length:Int)> 0)) X0),(12,X (Xk (decide ((l.length:Int)> 0))))]] [] (fun z0:Bool=>(VB z0,[])) _ _ e1
theorem x3e(l:List Node)(n:Node)(j:Nat)(hl:l.length<=1048576)(hj:j=l.length):FC Tryz.prog 101 [.aF 0 l.length,VI (j:Int),.aF 1 1] (app emp [(0,OR 9 bz l),(1,OR 9 bz [n])]) (.aF 0 ((l++[n]).length)) (app emp [(0,OR 9 bz (l++[n])),(1,OF 9 bz [n])]):=by
 refine .go Tryz.f101 ?_;refine .bp [.r [],.r [(2,X (Uq bz l.length l (j:Int)))],.r [],.r [],.f,.r [],.r []] ((j:Int)==(l.length:Int)) (fun h6=> ?_) (fun h6=> ?_)
 ·exact .fin [.r [(2,X (cg bz [n] (Ks 9 bz 0 l [n])))],.le (.fz 1)] [(0,0),(1,1)]
 exfalso;omega
theorem x8A(l:List Node)(n:Node)(j:Nat)(hl:l.length<=1048576)(hj:j<=l.length):FC Tryz.prog 101 [.aF 0 l.length,VI (j:Int),.aF 1 1] (app emp [(0,.aF 9 false (l.map bz)),(1,.aF 9 false [bz n])]) (.aF 0 (l.take j++n::l.drop j).length) (app emp [(0,.aF 9 false ((l.take j++n::l.drop j).map bz)),(1,.aF 9 true [bz n])]):=by
 by_cases e:j=l.length
 ·have h:=x3e l n j hl e;have q:l.take j++n::l.drop j=l++[n]:=by rw[e,List.take_length,List.drop_length]
  rw[q];exact h
 exact x3d l n j oM hl
theorem y9H(l:List Node)(n:Node)(hl:l.length<=1048575)(hs:gH l)(hb:kf n):FC Tryz.prog 50 [.ptr 0 0,.t (bz n)] (app emp [(0,.box [.aF 1 l.length]),(1,OR 9 bz l)]) (VI (pe l n)) (app emp [(0,.box [.aF 1 ((oQ l n).length)]),(1,OR 9 bz (oQ l n))]):=by
 refine .go Tryz.f50 ?_;have gW:l.length<=1048576:=by omega
 refine .bp [.r [],.r [(5,X (aW (Kt ({aq:=l}:Doc) n.id (by assumption) (by assumption)) (cg bz l X0)))]] (decide ((rU (({aq:=l}:Doc)).aq n.id)>=0)) (fun h1=> ?_) (fun h1=> ?_)
 ·have T:=Ku (l:=l) (n:=n) (Kv.1 h1);have e1:((oQ l n).length:Nat)=l.length:=by
   rw[T.1]
  have e2:((oQ l n):List Node)=l:=by
   exact T.1
  have e3:((pe l n):Int)=6:=by
   exact T.2
  exact .aG [.r []] [(0,0),(1,1)] (fun((z0,z1,z2):Nat×(List Node)×Int)=>(VI z2,[(0,.box [.aF 1 z0]),(1,OR 9 bz z1)])) _ _ (pr e1 (pr e2 e3))
 have hh:eM l n.id=false:=Kw.1 h1;refine .bp [.r [(6,X (bV 122 (Ur n (by assumption)) X0)),(7,X (aW (Kx ({aq:=l}:Doc) n.af (lG n) (by assumption) (by assumption)) (cg bz l X0)))],.r []] ((gI (({aq:=l}:Doc)).aq n.af (lG n) 0) !=0) (fun h4=> ?_) (fun h4=> ?_)
 ·have T:=w0X hh h4;have e4:((oQ l n).length:Nat)=l.length:=by
   rw[T.1]
  have e5:((oQ l n):List Node)=l:=by
   exact T.1
  have e6:((pe l n):Int)=(gI (({aq:=l}:Doc)).aq n.af (lG n) 0):=by
   exact T.2
  exact .aG [.r []] [(0,0),(1,1)] (fun((z0,z1,z2):Nat×(List Node)×Int)=>(VI z2,[(0,.box [.aF 1 z0]),(1,OR 9 bz z1)])) _ _ (pr e4 (pr e5 e6))
 obtain⟨s1,s2,s3⟩:=xN l n.id;refine .loop (α:=Nat) [.r []] 170 (fun i=>([(0,.ptr 0 0),(3,.ptr 2 0),(6,VI (i:Int))],[(0,.box [.aF 1 l.length]),(1,OR 9 bz l),(2,.box [VI n.id,VI n.af,VL 2 aS n.ah,VL 3 aU n.aD,VI n.az.ak,VI n.az.aj,VL 5 bg n.az.cells,VL 4 bE n.az.aH,VL 8 cm n.draw])])) (fun i=>i<=bt l n.id) (fun i=>l.length-i) (0:Nat) ?_ ?_
 ·exact qG _
 rintro i I7 wP;try dsimp only at I7
 refine .bp [.r [(9,Xv 1 (decide ((i:Int)< (l.length:Int))) X0),(10,Xv 1 (decide ((i:Int)< (l.length:Int))) X0),(11,Xv 1 (decide ((i:Int)< (l.length:Int))) X0),(13,Xv 2 (decide ((i:Int)< (l.length:Int))) (Xp bz l (i:Int))),(14,Xv 1 (decide ((i:Int)< (l.length:Int))) X0),(15,Xv 1 (decide ((i:Int)< (l.length:Int))) (Xe bz l i)),(17,Xv 1 (decide ((i:Int)< (l.length:Int))) X0),(18,Xv 2 (decide ((i:Int)< (l.length:Int))) X0),(19,X (Xk (decide ((i:Int)< (l.length:Int)))))]] (decide ((i:Int)< (l.length:Int))&&decide ((((l.getD i default)).id)< n.id)) (fun h7=> ?_) (fun h7=> ?_)
 ·refine .back [.r [(1,X (Xn ((i:Int)+1)))]] [(0,0),(1,1),(2,2)] (wP ((i+1):Nat) ?_ ?_)
  ·exact Us hs (by omega) h7.2
  ((try dsimp only);omega)
 have hi:i=bt l n.id:=by(apply qc;intro q;have:=s2 i (by omega);rcases h7 with h|h<;>omega)
 have T:=w0Z hh h4;rw[<-hi] at T;have e7:((oQ l n).length:Nat)=((l).take i++n::(l).drop i).length:=by
  rw[T.1]
 have e8:((oQ l n):List Node)=((l).take i++n::(l).drop i):=by
  exact T.1
 have e9:((pe l n):Int)=0:=by
  exact T.2
 exact .aG [.r [(7,X (bV 386 (HI n (by assumption)) X0)),(9,X (dV 402 [(0,1),(1,394)] (x8A l n i (by omega) (by omega)) X0))],.r []] [(0,0),(1,1)] (fun((z0,z1,z2):Nat×(List Node)×Int)=>(VI z2,[(0,.box [.aF 1 z0]),(1,OR 9 bz z1)])) _ _ (pr e7 (pr e8 e9))
theorem x3f(l:List Node)(i:Nat)(s:List aB)(hi:i<l.length)(hb:Ut l i s):FC Tryz.prog 53 [.ptr 0 0,.cM 1 l.length i 0,VL 4 bB s] (app emp [(0,.box [.aF 1 l.length]),(1,OR 9 bz l)]) (VI (k9 l (l.getD i default) s)) (app emp [(0,.box [.aF 1 ((ot l i s).length)]),(1,OR 9 bz (ot l i s))]):=by
 refine .go Tryz.f53 ?_;refine .len 2 (fun lU=> ?_);obtain⟨gW,hs,hd,hv,hf⟩:=hb;refine .bp (let a:=((l.getD i default)).af;let b:=!(eX a);[.r [],.r [(3,X (Xe bz l i)),(4,X (aW (z82 a) X0))],.r [(4,Xv 1 b X0),(5,Xv 1 b X0),(6,Xv 1 b (Xe bz l i)),(7,Xv 1 b (aW (Uu a) X0)),(8,Xv 1 b X0),(9,X (Xk b))]]) (!(eX (((l.getD i default)).af))&& !(nh (((l.getD i default)).af))) (fun h2=> ?_) (fun h2=> ?_)
 ·have T:=HJ (i:=i) (w2C (s:=s) h2) dM;have e1:((ot l i s).length:Nat)=l.length:=by
   rw[T.1]
  have e2:((ot l i s):List Node)=l:=by
   exact T.1
  have e3:((k9 l (l.getD i default) s):Int)=8:=by
   exact T.2
  exact .aG [.r []] [(0,0),(1,1)] (fun((z0,z1,z2):Nat×(List Node)×Int)=>(VI z2,[(0,.box [.aF 1 z0]),(1,OR 9 bz z1)])) _ _ (pr e1 (pr e2 e3))
 refine .bp [.r [(1,X (aW (y58 s aM aM) X0))],.r [(4,X (Xe bz l i)),(5,X (Xl aU (((l.getD i default)).aD)))]] ((eu s) !=((((l.getD i default)).aD).length:Int)) (fun h5=> ?_) (fun h5=> ?_)
 ·have T:=HJ (i:=i) (w2D h2 h5) dM;have e4:((ot l i s).length:Nat)=l.length:=by
   rw[T.1]
  have e5:((ot l i s):List Node)=l:=by
   exact T.1
  have e6:((k9 l (l.getD i default) s):Int)=14:=by
   exact T.2
  exact .aG [.r []] [(0,0),(1,1)] (fun((z0,z1,z2):Nat×(List Node)×Int)=>(VI z2,[(0,.box [.aF 1 z0]),(1,OR 9 bz z1)])) _ _ (pr e4 (pr e5 e6))
 refine .bp (let a:=eX (((l.getD i default)).af);[.r [(3,Xv 1 a (aW (x5l s) X0)),(4,Xv 1 a X0),(5,X (Xk a))]]) ((eX (((l.getD i default)).af))&& !(u7 s)) (fun h7=> ?_) (fun h7=> ?_)
 ·have T:=HJ (i:=i) (w2E h2 h5 h7) dM;have e7:((ot l i s).length:Nat)=l.length:=by
   rw[T.1]
  have e8:((ot l i s):List Node)=l:=by
   exact T.1
  have e9:((k9 l (l.getD i default) s):Int)=4:=by
   exact T.2
  exact .aG [.r []] [(0,0),(1,1)] (fun((z0,z1,z2):Nat×(List Node)×Int)=>(VI z2,[(0,.box [.aF 1 z0]),(1,OR 9 bz z1)])) _ _ (pr e7 (pr e8 e9))
 have F:=w2F (l:=l) h2 h5 h7;refine .loop (α:=Nat) [.r [(1,X (Xl bB s))]] 338 (fun a=>([(0,.ptr 0 0),(1,.cM 1 l.length i 0),(2,VL 4 bB s),(7,VB (eX (((l.getD i default)).af))),(50,VL 4 bB s),(51,VI (s.length:Int)),(52,VI (a:Int))],[(0,.box [.aF 1 l.length]),(1,OR 9 bz l)])) (fun a=>a<=s.length/\Fc l (l.getD i default).af s=Fc l (l.getD i default).af (s.drop a)) (fun a=>s.length-a) (0:Nat) ?_ ?_
 ·exact⟨oM,rfl⟩
 rintro a mN pX;try dsimp only at mN
 refine .bp [.r []] (decide ((a:Int)< (s.length:Int))) (fun eE=> ?_) (fun eE=> ?_)
 ·have Fe:=(hd _ (fE (l:=s) (i:=a) oM)).1;refine .loop (α:=Nat) [.r [(0,X (Xi bB s (a:Int)))],.r [(2,X (Xl aU (((s.getD a default)).elems)))]] 410 (fun b=>([(0,.ptr 0 0),(1,.cM 1 l.length i 0),(2,VL 4 bB s),(7,VB (eX (((l.getD i default)).af))),(50,VL 4 bB s),(51,VI (s.length:Int)),(52,VI (a:Int)),(57,VL 3 aU (((s.getD a default)).elems)),(58,VI ((((s.getD a default)).elems).length:Int)),(59,VI (b:Int))],[(0,.box [.aF 1 l.length]),(1,OR 9 bz l)])) (fun b=>b<=(s.getD a default).elems.length/\Fc l (l.getD i default).af s=if rV (tC l (l.getD i default).af) ((s.getD a default).elems.drop b)≠0 then rV (tC l (l.getD i default).af) ((s.getD a default).elems.drop b) else Fc l (l.getD i default).af (s.drop (a+1))) (fun b=>(s.getD a default).elems.length-b) (0:Nat) ?_ ?_
  ·exact⟨oM,by rw[mN.2];exact Ff _ oM⟩
  rintro b dD gj;try dsimp only at dD
  refine .bp [.r []] (decide ((b:Int)< ((((s.getD a default)).elems).length:Int))) (fun fe=> ?_) (fun fe=> ?_)
  ·refine .bp (let c:=((((((s.getD a default)).elems).getD b default)).bh)==0;[.r [(0,X (Xi aU (((s.getD a default)).elems) (b:Int)))],.r [(5,Xv 1 c X0),(6,X (Xk c))]]) ((((((((s.getD a default)).elems).getD b default)).bh)==0)&& !(eX (((l.getD i default)).af))) (fun ni=> ?_) (fun ni=> ?_)
   ·have hx:tC l (l.getD i default).af ((s.getD a default).elems.getD b default)=8:=x9r ni;have T:=HJ (i:=i) (k:=8) (F.trans (dD.2.trans (by rw[Ff _ oM,hx];rfl))) dM;have kE:((ot l i s).length:Nat)=l.length:=by
     rw[T.1]
    have lg:((ot l i s):List Node)=l:=by
     exact T.1
    have lu:((k9 l (l.getD i default) s):Int)=8:=by
     exact T.2
    exact .aG [.r []] [(0,0),(1,1)] (fun((z0,z1,z2):Nat×(List Node)×Int)=>(VI z2,[(0,.box [.aF 1 z0]),(1,OR 9 bz z1)])) _ _ (pr kE (pr lg lu))
   refine .bp (let c:=(((((s.getD a default)).elems).getD b default));[.r [(6,X (Xe bz l i)),(9,X (bV 578 (OO [c] (by first|omega|simp)) (cg aU [c] X0))),(10,X (aW (Kx ({aq:=l}:Doc) (((l.getD i default)).af) (mo [c]) aM aM) (cg bz l (cg bC (mo [c]) X0))))],.r []]) ((gI (({aq:=l}:Doc)).aq (((l.getD i default)).af) (mo [(((((s.getD a default)).elems).getD b default))]) 0) !=0) (fun lV=> ?_) (fun lV=> ?_)
   ·have hx:tC l (l.getD i default).af ((s.getD a default).elems.getD b default)=gI l (l.getD i default).af (mo [((s.getD a default).elems.getD b default)]) 0:=Uv ni;have T:=HJ (i:=i) (F.trans (dD.2.trans (by rw[Ff _ oM,hx,if_pos lV,if_pos lV]))) lV;have nP:((ot l i s).length:Nat)=l.length:=by
     rw[T.1]
    have nQ:((ot l i s):List Node)=l:=by
     exact T.1
    have pY:((k9 l (l.getD i default) s):Int)=(gI (({aq:=l}:Doc)).aq (((l.getD i default)).af) (mo [(((((s.getD a default)).elems).getD b default))]) 0):=by
     exact T.2
    exact .aG [.r []] [(0,0),(1,1)] (fun((z0,z1,z2):Nat×(List Node)×Int)=>(VI z2,[(0,.box [.aF 1 z0]),(1,OR 9 bz z1)])) _ _ (pr nP (pr nQ pY))
   refine .back [.r [(0,X (Xn ((b:Int)+1)))]] [(0,0),(1,1)] (gj ((b+1):Nat) ?_ ?_)
   ·have hx:tC l (l.getD i default).af ((s.getD a default).elems.getD b default)=0:=(Uv ni).trans lV;exact⟨oM,dD.2.trans (by rw[Ff _ oM,hx];rfl)⟩
   exact tO
  refine .back [.r [(0,X (Xn ((a:Int)+1)))]] [(0,0),(1,1)] (pX ((a+1):Nat) ?_ ?_)
  ·exact⟨oM,dD.2.trans (by rw[z77 _ oM];rfl)⟩
  exact tO
 have T:=w00 (i:=i) (F.trans (mN.2.trans (z77 _ oM)));have xO:((ot l i s).length:Nat)=l.length:=by
  rw[T.1];exact zt ..
 have xP:((ot l i s):List Node)=(l.set i ({id:=((l.getD i default)).id,af:=((l.getD i default)).af,ah:=((l.getD i default)).ah,aD:=(jx (((l.getD i default)).aD) s),az:=(((l.getD i default)).az),draw:=((l.getD i default)).draw}:Node)):=by
  exact T.1
 have xQ:((k9 l (l.getD i default) s):Int)=0:=by
  exact T.2
 exact .aG (let a:=((l.getD i default));[.r [(4,X (Xe bz l i)),(6,X (bV 394 (x7p (a.aD) s aM aM aM oM) X0)),(9,X (Xs 9 bz 1 l i ({id:=a.id,af:=a.af,ah:=a.ah,aD:=(jx (a.aD) s),az:=(a.az),draw:=a.draw}:Node)))],.r []]) [(0,0),(1,1)] (fun((z0,z1,z2):Nat×(List Node)×Int)=>(VI z2,[(0,.box [.aF 1 z0]),(1,OR 9 bz z1)])) _ _ (pr xO (pr xP xQ))
theorem x3g(l:List Node)(i:Nat)(g:bP)(hi:i<l.length)(hb:Uw l i g):FC Tryz.prog 54 [.ptr 0 0,.cM 1 l.length i 0,.t (rW g)] (app emp [(0,.box [.aF 1 l.length]),(1,OR 9 bz l)]) (VI (lW l (l.getD i default) g)) (app emp [(0,.box [.aF 1 ((pn l i g).length)]),(1,OR 9 bz (pn l i g))]):=by
 refine .go Tryz.f54 ?_;obtain⟨gW,hs,hg,hm,hx,l1,l2,a1,a2,hk⟩:=hb;refine .bp [.r [],.r [(3,X (Xe bz l i)),(4,X (aW (OP (((l.getD i default)).af)) X0))]] (!(jX (((l.getD i default)).af))) (fun h1=> ?_) (fun h1=> ?_)
 ·have T:=Ky (i:=i) (w2G (g:=g) h1) dM;have e1:((pn l i g).length:Nat)=l.length:=by
   rw[T.1]
  have e2:((pn l i g):List Node)=l:=by
   exact T.1
  have e3:((lW l (l.getD i default) g):Int)=8:=by
   exact T.2
  exact .aG [.r []] [(0,0),(1,1)] (fun((z0,z1,z2):Nat×(List Node)×Int)=>(VI z2,[(0,.box [.aF 1 z0]),(1,OR 9 bz z1)])) _ _ (pr e1 (pr e2 e3))
 refine .bp [.r [(3,X (Xe bz l i)),(6,X (aW (Ux (((l.getD i default)).af) g.cells) X0))],.r []] ((z28 (((l.getD i default)).af) g.cells 0) !=0) (fun h4=> ?_) (fun h4=> ?_)
 ·have T:=Ky (i:=i) (w2H h1 h4) h4;have e4:((pn l i g).length:Nat)=l.length:=by
   rw[T.1]
  have e5:((pn l i g):List Node)=l:=by
   exact T.1
  have e6:((lW l (l.getD i default) g):Int)=(z28 (((l.getD i default)).af) g.cells 0):=by
   exact T.2
  exact .aG [.r []] [(0,0),(1,1)] (fun((z0,z1,z2):Nat×(List Node)×Int)=>(VI z2,[(0,.box [.aF 1 z0]),(1,OR 9 bz z1)])) _ _ (pr e4 (pr e5 e6))
 refine .bp [.r [(3,X (Xe bz l i)),(5,X (aW (x9l (((l.getD i default)).az) g aM aM aM) X0))],.r []] ((gX (((l.getD i default)).az) g) !=0) (fun h7=> ?_) (fun h7=> ?_)
 ·have T:=Ky (i:=i) (w2I h1 h4 h7) h7;have e7:((pn l i g).length:Nat)=l.length:=by
   rw[T.1]
  have e8:((pn l i g):List Node)=l:=by
   exact T.1
  have e9:((lW l (l.getD i default) g):Int)=(gX (((l.getD i default)).az) g):=by
   exact T.2
  exact .aG [.r []] [(0,0),(1,1)] (fun((z0,z1,z2):Nat×(List Node)×Int)=>(VI z2,[(0,.box [.aF 1 z0]),(1,OR 9 bz z1)])) _ _ (pr e7 (pr e8 e9))
 have F:=Uy (l:=l) h1 h4 h7;have hr:=oU.of h7 hm hg l1 l2 a1 a2;refine .loop (α:=Nat) [.r [(2,X (Xl bg g.cells))]] 250 (fun b=>([(0,.ptr 0 0),(1,.cM 1 l.length i 0),(5,.ptr 2 0),(43,VL 5 bg g.cells),(44,VI (g.cells.length:Int)),(45,VI (b:Int))],[(0,.box [.aF 1 l.length]),(1,OR 9 bz l),(2,.box [VL 2 bk g.ak,VL 2 bk g.aj,VL 5 bg g.cells,VL 4 bE g.split,VL 4 bE g.merge])])) (fun b=>b<=g.cells.length/\rV (yW l (l.getD i default).af) g.cells=rV (yW l (l.getD i default).af) (g.cells.drop b)) (fun b=>g.cells.length-b) (0:Nat) ?_ ?_
 ·exact⟨oM,rfl⟩
 rintro b mN pX;try dsimp only at mN
 refine .bp [.r []] (decide ((b:Int)< (g.cells.length:Int))) (fun eE=> ?_) (fun eE=> ?_)
 ·refine .bp [.r [(0,X (Xi bg g.cells (b:Int)))],.r []] ((((g.cells.getD b default)).bh)==0) (fun fJ=> ?_) (fun fJ=> ?_)
  ·refine .back [.r [(0,X (Xn ((b:Int)+1)))]] [(0,0),(1,1),(2,2)] (pX ((b+1):Nat) ?_ ?_)
   ·exact⟨oM,mN.2.trans (Uz _ oM (by first|exact OQ fJ|exact(Fg fJ).trans eN))⟩
   exact tO
  refine .bp (let a:=((g.cells.getD b default));[.r [(6,X (Xe bz l i)),(10,X (aW (Kx ({aq:=l}:Doc) (((l.getD i default)).af) [a.bh] aM aM) (cg bz l (cg bC [a.bh] X0))))],.r []]) ((gI (({aq:=l}:Doc)).aq (((l.getD i default)).af) [((g.cells.getD b default)).bh] 0) !=0) (fun eN=> ?_) (fun eN=> ?_)
  ·have hx:yW l (l.getD i default).af (g.cells.getD b default)=gI l (l.getD i default).af [(g.cells.getD b default).bh] 0:=Fg fJ;have T:=Ky (i:=i) (F.trans (mN.2.trans (by rw[Ff _ oM,hx,if_pos eN]))) eN;have kE:((pn l i g).length:Nat)=l.length:=by
    rw[T.1]
   have lg:((pn l i g):List Node)=l:=by
    exact T.1
   have lu:((lW l (l.getD i default) g):Int)=(gI (({aq:=l}:Doc)).aq (((l.getD i default)).af) [((g.cells.getD b default)).bh] 0):=by
    exact T.2
   exact .aG [.r []] [(0,0),(1,1)] (fun((z0,z1,z2):Nat×(List Node)×Int)=>(VI z2,[(0,.box [.aF 1 z0]),(1,OR 9 bz z1)])) _ _ (pr kE (pr lg lu))
  refine .back [.r [(0,X (Xn ((b:Int)+1)))]] [(0,0),(1,1),(2,2)] (pX ((b+1):Nat) ?_ ?_)
  ·exact⟨oM,mN.2.trans (Uz _ oM (by first|exact OQ fJ|exact(Fg fJ).trans eN))⟩
  exact tO
 refine .bp [.r [(3,X (Xe bz l i))]] ((((l.getD i default)).af)==2) (fun Fh=> ?_) (fun Fh=> ?_)
 ·have T:=w01 (i:=i) (F.trans (mN.2.trans (z77 _ oM)));have nP:((pn l i g).length:Nat)=l.length:=by
   rw[T.1];exact zt ..
  have nQ:((pn l i g):List Node)=(l.set i ({id:=((l.getD i default)).id,af:=((l.getD i default)).af,ah:=((l.getD i default)).ah,aD:=((l.getD i default)).aD,az:=((kg (((l.getD i default)).az) g)),draw:=((l.getD i default)).draw}:Node)):=by
   exact T.1
  have pY:((lW l (l.getD i default) g):Int)=0:=by
   exact T.2
  exact .aG (let a:=((l.getD i default));[.r [(4,X (Xe bz l i)),(6,X (bV 346 (x7f (a.az) g aM) X0)),(9,X (Xs 9 bz 1 l i ({id:=a.id,af:=a.af,ah:=a.ah,aD:=a.aD,az:=((kg (a.az) g)),draw:=a.draw}:Node)))],.r []]) [(0,0),(1,1)] (fun((z0,z1,z2):Nat×(List Node)×Int)=>(VI z2,[(0,.box [.aF 1 z0]),(1,OR 9 bz z1)])) _ _ (pr nP (pr nQ pY))
 exfalso;exact x9s h1 hk Fh
theorem x8B(l:List Node)(o:aP)(hb:iX l o):FC Tryz.prog 23 [.ptr 0 0,.t (bI o)] (app emp [(0,.box [.aF 1 l.length]),(1,OR 9 bz l)]) (VI (cV l o)) (app emp [(0,.box [.aF 1 ((cn l o).length)]),(1,OR 9 bz (cn l o))]):=by
 refine .go Tryz.f23 ?_;obtain⟨gW,lU,hs⟩:=hb.base;refine .bp [.r [],.r []] (o.af==0) (fun h1=> ?_) (fun h1=> ?_)
 ·have n1:=hb.nw;have T:=Fi (l:=l) h1;have e1:((cn l o).length:Nat)=(oQ l o.nw).length:=by
   rw[T.1]
  have e2:((cn l o):List Node)=(oQ l o.nw):=by
   exact T.1
  have e3:((cV l o):Int)=(pe l o.nw):=by
   exact T.2
  exact .aG [.r [(3,X (dV 66 [(0,0),(1,1)] (y9H l o.nw (by omega) (by assumption) (by assumption)) X0))]] [(0,0),(1,1)] (fun((z0,z1,z2):Nat×(List Node)×Int)=>(VI z2,[(0,.box [.aF 1 z0]),(1,OR 9 bz z1)])) _ _ (pr e1 (pr e2 e3))
 refine .bp [.r [(5,X (aW (Kt ({aq:=l}:Doc) o.ai (by assumption) (by assumption)) (cg bz l X0)))],.r []] (decide ((rU (({aq:=l}:Doc)).aq o.ai)< 0)) (fun h4=> ?_) (fun h4=> ?_)
 ·have T:=UA h1 (Kw.1 h4);have e4:((cn l o).length:Nat)=l.length:=by
   rw[T.1]
  have e5:((cn l o):List Node)=l:=by
   exact T.1
  have e6:((cV l o):Int)=7:=by
   exact T.2
  exact .aG [.r []] [(0,0),(1,1)] (fun((z0,z1,z2):Nat×(List Node)×Int)=>(VI z2,[(0,.box [.aF 1 z0]),(1,OR 9 bz z1)])) _ _ (pr e4 (pr e5 e6))
 have hh:=Kv.1 h4;have fQ:=(rX.1 hh).1;have HK:=hb.nd hh;refine .bp [.le (.eq 5 (VI (rU (({aq:=l}:Doc)).aq o.ai)) (VI ((bt l o.ai):Int)) (.of_eq (by rw[OS hh]))),.r [(5,X (Xp bz l ((bt l o.ai):Int)))],.r [],.r []] (o.af==1) (fun h8=> ?_) (fun h8=> ?_)
 ·have T:=UD hh h8;have e7:((cn l o).length:Nat)=l.length:=by
   rw[T.1];exact zt ..
  have e8:((cn l o):List Node)=(l.set (bt l o.ai) ({id:=((l.getD (bt l o.ai) default)).id,af:=((l.getD (bt l o.ai) default)).af,ah:=(fm eY (((l.getD (bt l o.ai) default)).ah) o.ah),aD:=((l.getD (bt l o.ai) default)).aD,az:=(((l.getD (bt l o.ai) default)).az),draw:=((l.getD (bt l o.ai) default)).draw}:Node)):=by
   exact T.1
  have e9:((cV l o):Int)=0:=by
   exact T.2
  exact .aG [.r [(4,X (Xe bz l (bt l o.ai))),(7,X (bV 258 (DC (((l.getD (bt l o.ai) default)).ah) o.ah (by omega)) X0)),(10,X (Xs 9 bz 1 l (bt l o.ai) ({id:=((l.getD (bt l o.ai) default)).id,af:=((l.getD (bt l o.ai) default)).af,ah:=(fm eY (((l.getD (bt l o.ai) default)).ah) o.ah),aD:=((l.getD (bt l o.ai) default)).aD,az:=(((l.getD (bt l o.ai) default)).az),draw:=((l.getD (bt l o.ai) default)).draw}:Node)))],.r []] [(0,0),(1,1)] (fun((z0,z1,z2):Nat×(List Node)×Int)=>(VI z2,[(0,.box [.aF 1 z0]),(1,OR 9 bz z1)])) _ _ (pr e7 (pr e8 e9))
 refine .bp [.r []] (o.af==2) (fun gO=> ?_) (fun gO=> ?_)
 ·have T:=Kz (l:=l) hh gO;have sx:=hb.fl hh gO;have kE:((cn l o).length:Nat)=(ot l (bt l o.ai) o.aQ).length:=by
   rw[T.1]
  have lg:((cn l o):List Node)=(ot l (bt l o.ai) o.aQ):=by
   exact T.1
  have lu:((cV l o):Int)=(k9 l ((l).getD (bt l o.ai) default) o.aQ):=by
   exact T.2
  exact .aG [.r [(4,X (dV 250 [(0,0),(1,1)] (x3f l (bt l o.ai) o.aQ (by assumption) (by assumption)) X0))]] [(0,0),(1,1)] (fun((z0,z1,z2):Nat×(List Node)×Int)=>(VI z2,[(0,.box [.aF 1 z0]),(1,OR 9 bz z1)])) _ _ (pr kE (pr lg lu))
 refine .bp [.r []] (o.af==3) (fun fe=> ?_) (fun fe=> ?_)
 ·have T:=KA (l:=l) hh fe;have KB:=hb.gr hh fe;have nP:((cn l o).length:Nat)=(pn l (bt l o.ai) o.az).length:=by
   rw[T.1]
  have nQ:((cn l o):List Node)=(pn l (bt l o.ai) o.az):=by
   exact T.1
  have pY:((cV l o):Int)=(lW l ((l).getD (bt l o.ai) default) o.az):=by
   exact T.2
  exact .aG [.r [(4,X (dV 266 [(0,0),(1,1)] (x3g l (bt l o.ai) o.az (by assumption) (by assumption)) X0))]] [(0,0),(1,1)] (fun((z0,z1,z2):Nat×(List Node)×Int)=>(VI z2,[(0,.box [.aF 1 z0]),(1,OR 9 bz z1)])) _ _ (pr nP (pr nQ pY))
 have tu:=hb.kd h1 h8 gO fe;refine .bp [.r [(3,X (Xe bz l (bt l o.ai))),(4,X (aW (UE (((l.getD (bt l o.ai) default)).af)) X0))]] (!(rY (((l.getD (bt l o.ai) default)).af))) (fun ni=> ?_) (fun ni=> ?_)
 ·have T:=w02 hh tu ni;have xO:((cn l o).length:Nat)=l.length:=by
   rw[T.1]
  have xP:((cn l o):List Node)=l:=by
   exact T.1
  have xQ:((cV l o):Int)=8:=by
   exact T.2
  exact .aG [.r []] [(0,0),(1,1)] (fun((z0,z1,z2):Nat×(List Node)×Int)=>(VI z2,[(0,.box [.aF 1 z0]),(1,OR 9 bz z1)])) _ _ (pr xO (pr xP xQ))
 have vX:=hb.dr hh tu;refine .bp [.r [(3,X (Xe bz l (bt l o.ai))),(6,X (bV 330 (x4b (((l.getD (bt l o.ai) default)).draw) o.draw (by first|omega| (simp;omega))) X0))],.r []] ((if(dN (((l.getD (bt l o.ai) default)).draw) o.draw).isSome then(0:Int) else 6)==0) (fun lV=> ?_) (fun lV=> ?_)
 ·have T:=UF (l:=l) hh tu ni;have HL:((cn l o).length:Nat)=l.length:=by
   rw[T.1 lV];exact zt ..
  have HM:((cn l o):List Node)=(l.set (bt l o.ai) ({id:=((l.getD (bt l o.ai) default)).id,af:=((l.getD (bt l o.ai) default)).af,ah:=((l.getD (bt l o.ai) default)).ah,aD:=((l.getD (bt l o.ai) default)).aD,az:=(((l.getD (bt l o.ai) default)).az),draw:=((dN (((l.getD (bt l o.ai) default)).draw) o.draw).getD [])}:Node)):=by
   exact T.1 lV
  have OT:((cV l o):Int)=(if(dN (((l.getD (bt l o.ai) default)).draw) o.draw).isSome then(0:Int) else 6):=by
   exact T.2.2
  exact .aG [.r [(4,X (Xs 9 bz 1 l (bt l o.ai) ({id:=((l.getD (bt l o.ai) default)).id,af:=((l.getD (bt l o.ai) default)).af,ah:=((l.getD (bt l o.ai) default)).ah,aD:=((l.getD (bt l o.ai) default)).aD,az:=(((l.getD (bt l o.ai) default)).az),draw:=((dN (((l.getD (bt l o.ai) default)).draw) o.draw).getD [])}:Node)))],.r []] [(0,0),(1,1)] (fun((z0,z1,z2):Nat×(List Node)×Int)=>(VI z2,[(0,.box [.aF 1 z0]),(1,OR 9 bz z1)])) _ _ (pr HL (pr HM OT))
 have T:=UF (l:=l) hh tu ni;have OU:((cn l o).length:Nat)=l.length:=by
  rw[T.2.1 lV]
 have OV:((cn l o):List Node)=l:=by
  exact T.2.1 lV
 have OW:((cV l o):Int)=(if(dN (((l.getD (bt l o.ai) default)).draw) o.draw).isSome then(0:Int) else 6):=by
  exact T.2.2
 exact .aG [.r []] [(0,0),(1,1)] (fun((z0,z1,z2):Nat×(List Node)×Int)=>(VI z2,[(0,.box [.aF 1 z0]),(1,OR 9 bz z1)])) _ _ (pr OU (pr OV OW))
theorem KC(d:Doc)(c:List aP)(hb:sD d c):FC Tryz.prog 8 [.t (gU d),VL 19 bI c] (app emp []) (.aZ [.t (gU (jB d c)),VI (gV d c)]) (app emp []):=by
 refine .go Tryz.f8 ?_;refine .len 1 (fun gW=> ?_);obtain⟨hd,ho,hr⟩:=hb;have UG:=hd.toDocB;refine .bp [.r [],.r [(1,X (aW (DD d aM) X0))],.r []] ((ez d) !=0) (fun h2=> ?_) (fun h2=> ?_)
 ·have T:=UH (c:=c) h2;have e1:((jB d c):Doc)=({aq:=[]}:Doc):=by
   exact T.1
  have e2:((gV d c):Int)=(ez d):=by
   exact T.2
  exact .bA [.r [(0,X (Xf [(0,9)]))]] [] [] (fun((z0,z1):Doc×Int)=>(.aZ [.t (gU z0),VI z1],[])) _ _ (pr e1 e2)
 refine .bp [.r [(1,X (aW (OX c aM) X0))],.r []] ((jC c 0) !=0) (fun h5=> ?_) (fun h5=> ?_)
 ·have T:=UI (d:=d) oM h5;have e3:((jB d c):Doc)=({aq:=[]}:Doc):=by
   exact T.1
  have e4:((gV d c):Int)=(jC c 0):=by
   exact T.2
  exact .bA [.r [(0,X (Xf [(0,9)]))]] [] [] (fun((z0,z1):Doc×Int)=>(.aZ [.t (gU z0),VI z1],[])) _ _ (pr e3 e4)
 refine .loop (α:=Nat×(List Node)) [.r [(1,X (bV 112 (x1h d aM) X0))],.r [(1,X (Xl bI c))]] 160 (fun(i,o)=>([(4,.ptr 8 0),(8,.ptr 120 0),(26,VL 19 bI c),(27,VI (c.length:Int)),(28,VI (i:Int))],[(8,.box [VN]),(113,OR 9 bz o),(120,.box [.aF 113 o.length])])) (fun(i,o)=>i<=c.length/\HN o (c.drop i)/\iz d.aq c=iz o (c.drop i)/\gK d.aq c=gK o (c.drop i)) (fun(i,o)=>c.length-i) (0,(d).aq) ?_ ?_
 ·exact⟨oM,hr oM oM,rfl,rfl⟩
 rintro⟨i,o⟩ I9 vY;try dsimp only at I9
 refine .bp [.r []] (decide ((i:Int)< (c.length:Int))) (fun h9=> ?_) (fun h9=> ?_)
 ·obtain⟨q1,q2,q3,q4⟩:=I9;rw[Fj oM] at q2 q3 q4;have iW:=q2.1;refine .bp [.r [(0,X (Xi bI c (i:Int)))],.r [(1,X (dV 208 [(0,120),(1,113)] (x8B o ((c.getD i default)) aM) X0))],.r []] ((cV o ((c.getD i default))) !=0) (fun fJ=> ?_) (fun fJ=> ?_)
  ·have T:=w03 (d:=d) (c:=c) oM oM (q3.trans (by rw[iz,if_pos fJ])) fJ;have e5:((jB d c):Doc)=({aq:=[]}:Doc):=by
    exact T.1
   have e6:((gV d c):Int)=(cV o ((c.getD i default))):=by
    exact T.2
   exact .bA [.r [(0,X (Xf [(0,9)]))]] [] [] (fun((z0,z1):Doc×Int)=>(.aZ [.t (gU z0),VI z1],[])) _ _ (pr e5 e6)
  refine .back [.r [(0,X (Xn ((i:Int)+1)))]] [(8,8),(113,113),(120,120)] (vY ((i+1),(cn o ((c.getD i default)))) ?_ ?_)
  ·rw[iz,if_neg oM] at q3;exact⟨oM,q2.2 fJ,q3,q4⟩
  exact tO
 have T:=OY (d:=d) (c:=c) oM oM (I9.2.2.1.trans (by rw[qN oM];try rfl)) (I9.2.2.2.trans (by rw[qN oM];try rfl));have e7:((jB d c):Doc)=({aq:=o}:Doc):=by
  exact T.1
 have e8:((gV d c):Int)=0:=by
  exact T.2
 exact .bA [.r []] [.fR 0 [(o.length:Nat)=(List.map bz o).length] ⟨lm,trivial⟩] [] (fun((z0,z1):Doc×Int)=>(.aZ [.t (gU z0),VI z1],[])) _ _ (pr e7 e8)
theorem UJ:FC Tryz.prog 13 [] (app emp []) (.t (gU gf)) (app emp []):=by
 refine .go Tryz.f13 ?_;have e1:(gf:Doc)=({aq:=[({id:=1,af:=0,ah:=[],aD:=[({aT:=0,bh:=2,ah:=[]}:aL)],az:=({ak:=0,aj:=0,cells:=[],aH:=[]}:aX),draw:=[]}:Node),({id:=2,af:=1,ah:=[],aD:=[({aT:=10,bh:=0,ah:=[]}:aL)],az:=({ak:=0,aj:=0,cells:=[],aH:=[]}:aX),draw:=[]}:Node)]}:Doc):=by
  rfl
 exact .bA [.r [],.r [(0,X (Xf [(2,2)])),(2,X (Xf [(2,2),(6,5),(7,4),(8,8)])),(3,X (Xf [(2,2)])),(5,X (Xf [(2,2),(6,5),(7,4),(8,8)])),(6,X (cg aU [({aT:=0,bh:=2,ah:=[]}:aL)] (cg aU [({aT:=10,bh:=0,ah:=[]}:aL)] X0)))]] [.fR 0 [(2:Nat)=(List.map bz [({id:=1,af:=0,ah:=[],aD:=[({aT:=0,bh:=2,ah:=[]}:aL)],az:=({ak:=0,aj:=0,cells:=[],aH:=[]}:aX),draw:=[]}:Node),({id:=2,af:=1,ah:=[],aD:=[({aT:=10,bh:=0,ah:=[]}:aL)],az:=({ak:=0,aj:=0,cells:=[],aH:=[]}:aX),draw:=[]}:Node)]).length] ⟨lm,trivial⟩] [] (fun z0:Doc=>(.t (gU z0),[])) _ _ e1
theorem x3h:FC Tryz.prog 13 [] (app emp []) (.agg [.jv 1 2]) (app emp [(0,.box [.jv 1 2]),(1,.box [VI 1,VI 0,VL 2 aS [],.aF 2 1,VI 0,VI 0,VL 5 bg [],VL 4 bE [],VL 8 cm [],VI 2,VI 1,VL 2 aS [],.aF 3 1,VI 0,VI 0,VL 5 bg [],VL 4 bE [],VL 8 cm []]),(2,OR 3 aU [({aT:=0,bh:=2,ah:=[]}:aL)]),(3,OR 3 aU [({aT:=10,bh:=0,ah:=[]}:aL)])]):=by
 refine .go Tryz.f13 ?_;exact .fin [.r [],.r [(0,X (Xf [(2,2)])),(2,X (Xf [(2,2),(6,5),(7,4),(8,8)])),(3,X (Xf [(2,2)])),(5,X (Xf [(2,2),(6,5),(7,4),(8,8)])),(6,X w2v)]] [(0,0),(56,1),(16,2),(40,3)]
theorem x8C:FC Tryz.prog 70 [.t (.agg [TI 1,TI 0,Ab.TB true]),.ptr 0 0,.ptr 1 0] (app emp [(0,.box [VI 2]),(1,.box [VB false])]) (VB true) (app emp [(0,.box [VI 2]),(1,.box [VB false])]):=by
 refine .go Tryz.f70 ?_;exact .fin [.r [],.r [],.f,.r []] [(0,0),(1,1)]
theorem x8D:FC Tryz.prog 70 [.t (.agg [TI 2,TI 1,Ab.TB true]),.ptr 0 0,.ptr 1 0] (app emp [(0,.box [VI 2]),(1,.box [VB false])]) (VB false) (app emp [(0,.box [VI 2]),(1,.box [VB true])]):=by
 refine .go Tryz.f70 ?_;exact .fin [.r [],.r [],.t,.r [],.r []] [(0,0),(1,1)]
theorem w13:FC Tryz.prog 128 [.t (.agg [TI 2,TI 1,Ab.TB true]),.ptr 0 0,.ptr 1 0,.ptr 2 0,.ptr 3 0] (app emp [(0,.box [.fO 4]),(1,.box [.fn 70 [.ptr 5 0,.ptr 6 0]]),(2,.box [VL 9 bz gf.aq]),(3,.box [.fn 128 [.ptr 0 0,.ptr 1 0,.ptr 2 0,.ptr 3 0]]),(4,.mp (List.map Cq [1]) none),(5,.box [VI 2]),(6,.box [VB false])]) (VB false) (app emp [(0,.box [.fO 4]),(1,.box [.fn 70 [.ptr 5 0,.ptr 6 0]]),(2,.box [VL 9 bz gf.aq]),(3,.box [.fn 128 [.ptr 0 0,.ptr 1 0,.ptr 2 0,.ptr 3 0]]),(4,.mp (List.map Cq [1,2]) none),(5,.box [VI 2]),(6,.box [VB true])]):=by
 refine .go Tryz.f128 ?_;exact .fin [.r [],.r [(3,X (UK (List.map Cq [1]) 2) (by kernel_rfl))],.f,.r [(3,X (UL Cq [1] [1,2] 2 4 (.im (Ab.TB true))) (by kernel_rfl))],.r [(2,X (dV 103 [(0,5),(1,6)] x8D X0))],.t,.r []] [(0,0),(1,1),(2,2),(3,3),(4,4),(5,5),(6,6)]
theorem w14:FC Tryz.prog 128 [.t (.agg [TI 1,TI 0,Ab.TB true]),.ptr 0 0,.ptr 1 0,.ptr 2 0,.ptr 3 0] (app emp [(0,.box [.fO 4]),(1,.box [.fn 70 [.ptr 5 0,.ptr 6 0]]),(2,.box [VL 9 bz gf.aq]),(3,.box [.fn 128 [.ptr 0 0,.ptr 1 0,.ptr 2 0,.ptr 3 0]]),(4,.mp (List.map Cq []) none),(5,.box [VI 2]),(6,.box [VB false])]) (VB false) (app emp [(0,.box [.fO 4]),(1,.box [.fn 70 [.ptr 5 0,.ptr 6 0]]),(2,.box [VL 9 bz gf.aq]),(3,.box [.fn 128 [.ptr 0 0,.ptr 1 0,.ptr 2 0,.ptr 3 0]]),(4,.mp (List.map Cq [1,2]) none),(5,.box [VI 2]),(6,.box [VB true])]):=by
 refine .go Tryz.f128 ?_;have hs:=KD KE;have hl:gf.aq.length<=1048576:=by decide
 refine .bp [.r [],.r [(3,X (UK (List.map Cq []) 1) (by kernel_rfl))],.f,.r [(3,X (UL Cq [] [1] 1 4 (.im (Ab.TB true))) (by kernel_rfl))],.r [(2,X (dV 103 [(0,5),(1,6)] x8C X0))],.f,.r [(3,X (aW (OZ gf 1 (by assumption) (by assumption)) X0))],.le (.eq 7 (VI (bt (gf).aq 1:Int)) (VI 0) (.of_eq (by kernel_rfl))),.r [(3,X (Xi bz gf.aq 0) ⟨(by first|omega| (simp;omega)| (simp;done)|assumption),(by decide)⟩)],.r [(2,X (bV 263 (OO (((gf.aq.getD 0 default)).aD) (by decide)) X0))],.u,.r []] (decide (0< ((mo (((gf.aq.getD 0 default)).aD)).length:Int))) (fun h9=> ?_) (fun h9=> ?_)
 ·exact .fin [.r [(0,X (Xp bC (mo (((gf.aq.getD 0 default)).aD)) 0)),(1,X (Xe bC (mo (((gf.aq.getD 0 default)).aD)) 0))],.le (.eq 11 (VI ((mo (((gf.aq.getD 0 default)).aD)).getD 0 default)) (VI 2) (.of_eq (by kernel_rfl))),.r [(7,X (dV 375 [(0,0),(1,1),(2,2),(3,3),(4,4),(5,5),(6,6)] w13 X0))],.t,.r []] [(0,0),(1,1),(2,2),(3,3),(4,4),(5,5),(6,6)]
 exfalso;exact absurd h9 (by decide)
theorem x5m:FC Tryz.prog 69 [.t (gU gf),.fn 70 [.ptr 0 0,.ptr 1 0]] (app emp [(0,.box [VI 2]),(1,.box [VB false])]) (.aZ []) (app emp [(0,.box [VI 2]),(1,.box [VB true])]):=by
 refine .go Tryz.f69 ?_;exact .fin [.r [],.r [],.r [],.r [],.r [(2,X (dV 82 [(0,26),(1,10),(2,2),(3,42),(4,18),(5,0),(6,1)] w14 X0))]] [(0,0),(1,1)]
theorem y9I:FC Tryz.prog 28 [.t (gU gf),VI 2] (app emp []) (VB true) (app emp []):=by
 refine .go Tryz.f28 ?_;have hb:=O0;refine .bp [.r [],.r [],.r [(1,X (aW (DD gf aM) X0))]] ((ez gf) !=0) (fun h2=> ?_) (fun h2=> ?_)
 ·exfalso;exact h2 KE
 exact .fin [.r [(2,X (dV 80 [(0,8),(1,24)] x5m X0))],.r []] []
theorem x8E:FC Tryz.prog 15 [] (app emp []) (VB true) (app emp []):=by
 refine .go Tryz.f15 ?_;have hb:=O0;have e1:(((((ez gf)==0)&&((gf.aq.length:Int)==2))||false):Bool)=true:=by
  rw[KE];rfl
 exact .aG (let a:=(ez gf)==0;let b:=a&&((gf.aq.length:Int)==2);[.r [],.r [(0,X (bV 8 UJ X0))],.r [(1,X (aW (DD gf aM) X0)),(5,Xv 1 a X0),(6,Xv 1 a (Xl bz gf.aq)),(7,Xv 1 a X0),(8,X (Xk a)),(11,Xv 1 b (aW y9I X0)),(12,X (Xk b))]]) [] (fun z0:Bool=>(VB z0,[])) _ _ e1.symm
theorem w0a(s:ByteArray):FC Tryz.prog 14 [VS s] (app emp []) (VL 2 aS (kF s)) (app emp []):=by
 refine .go Tryz.f14 ?_;have e1:((kF s):List aI)=[({name:=s,val:={data:=#[111,110]}}:aI)]:=by
  rfl
 exact .aG [.r [],.r [],.le (.fr 2 [(1:Nat)=(List.map aS [({name:=s,val:={data:=#[111,110]}}:aI)]).length] ⟨lm,trivial⟩)] [] (fun z0:List aI=>(VL 2 aS z0,[])) _ _ e1
theorem x5n:FC Tryz.prog 4 [] (app emp []) (VB true) (app emp []):=by
 refine .go Tryz.f4 ?_;have hp:=x9R;have e1:((((true&&((gV gf [({af:=1,ai:=2,nw:=({id:=0,af:=0,ah:=[],aD:=[],az:=({ak:=0,aj:=0,cells:=[],aH:=[]}:aX),draw:=[]}:Node),ah:=(kF ({data:=#[116,105,116,108,101]})),aQ:=[],az:=({ak:=[],aj:=[],cells:=[],split:=[],merge:=[]}:bP),draw:=[]}:aP)])==0))&&(((((jB gf [({af:=1,ai:=2,nw:=({id:=0,af:=0,ah:=[],aD:=[],az:=({ak:=0,aj:=0,cells:=[],aH:=[]}:aX),draw:=[]}:Node),ah:=(kF ({data:=#[116,105,116,108,101]})),aQ:=[],az:=({ak:=[],aj:=[],cells:=[],split:=[],merge:=[]}:bP),draw:=[]}:aP)])).aq).length:Int)==2))&&((((((((jB gf [({af:=1,ai:=2,nw:=({id:=0,af:=0,ah:=[],aD:=[],az:=({ak:=0,aj:=0,cells:=[],aH:=[]}:aX),draw:=[]}:Node),ah:=(kF ({data:=#[116,105,116,108,101]})),aQ:=[],az:=({ak:=[],aj:=[],cells:=[],split:=[],merge:=[]}:bP),draw:=[]}:aP)])).aq).getD 1 default)).ah).length:Int)==1)):Bool)=true:=by
  exact(by decide+kernel)
 exact .aG [.r [],.r [(0,X (bV 8 UJ X0)),(1,X (bV 16 (w0a ({data:=#[116,105,116,108,101]})) X0)),(2,X (Xf [(4,2),(5,3),(8,5),(9,4),(10,8),(12,4),(13,2),(14,2),(15,5),(16,4),(17,4),(18,8)])),(4,X (bV 40 (KC gf [({af:=1,ai:=2,nw:=({id:=0,af:=0,ah:=[],aD:=[],az:=({ak:=0,aj:=0,cells:=[],aH:=[]}:aX),draw:=[]}:Node),ah:=(kF ({data:=#[116,105,116,108,101]})),aQ:=[],az:=({ak:=[],aj:=[],cells:=[],split:=[],merge:=[]}:bP),draw:=[]}:aP)] hp) (cg bI [({af:=1,ai:=2,nw:=({id:=0,af:=0,ah:=[],aD:=[],az:=({ak:=0,aj:=0,cells:=[],aH:=[]}:aX),draw:=[]}:Node),ah:=(kF ({data:=#[116,105,116,108,101]})),aQ:=[],az:=({ak:=[],aj:=[],cells:=[],split:=[],merge:=[]}:bP),draw:=[]}:aP)] X0)))],.r [(0,X (aW x8E X0)),(3,Xv 1 true X0),(4,X (Xk true)),(7,Xv 1 (true&&((gV gf [({af:=1,ai:=2,nw:=({id:=0,af:=0,ah:=[],aD:=[],az:=({ak:=0,aj:=0,cells:=[],aH:=[]}:aX),draw:=[]}:Node),ah:=(kF ({data:=#[116,105,116,108,101]})),aQ:=[],az:=({ak:=[],aj:=[],cells:=[],split:=[],merge:=[]}:bP),draw:=[]}:aP)])==0)) X0),(8,Xv 1 (true&&((gV gf [({af:=1,ai:=2,nw:=({id:=0,af:=0,ah:=[],aD:=[],az:=({ak:=0,aj:=0,cells:=[],aH:=[]}:aX),draw:=[]}:Node),ah:=(kF ({data:=#[116,105,116,108,101]})),aQ:=[],az:=({ak:=[],aj:=[],cells:=[],split:=[],merge:=[]}:bP),draw:=[]}:aP)])==0)) (Xl bz (((jB gf [({af:=1,ai:=2,nw:=({id:=0,af:=0,ah:=[],aD:=[],az:=({ak:=0,aj:=0,cells:=[],aH:=[]}:aX),draw:=[]}:Node),ah:=(kF ({data:=#[116,105,116,108,101]})),aQ:=[],az:=({ak:=[],aj:=[],cells:=[],split:=[],merge:=[]}:bP),draw:=[]}:aP)])).aq))),(9,Xv 1 (true&&((gV gf [({af:=1,ai:=2,nw:=({id:=0,af:=0,ah:=[],aD:=[],az:=({ak:=0,aj:=0,cells:=[],aH:=[]}:aX),draw:=[]}:Node),ah:=(kF ({data:=#[116,105,116,108,101]})),aQ:=[],az:=({ak:=[],aj:=[],cells:=[],split:=[],merge:=[]}:bP),draw:=[]}:aP)])==0)) X0),(10,X (Xk (true&&((gV gf [({af:=1,ai:=2,nw:=({id:=0,af:=0,ah:=[],aD:=[],az:=({ak:=0,aj:=0,cells:=[],aH:=[]}:aX),draw:=[]}:Node),ah:=(kF ({data:=#[116,105,116,108,101]})),aQ:=[],az:=({ak:=[],aj:=[],cells:=[],split:=[],merge:=[]}:bP),draw:=[]}:aP)])==0)))),(13,Xv 1 ((true&&((gV gf [({af:=1,ai:=2,nw:=({id:=0,af:=0,ah:=[],aD:=[],az:=({ak:=0,aj:=0,cells:=[],aH:=[]}:aX),draw:=[]}:Node),ah:=(kF ({data:=#[116,105,116,108,101]})),aQ:=[],az:=({ak:=[],aj:=[],cells:=[],split:=[],merge:=[]}:bP),draw:=[]}:aP)])==0))&&(((((jB gf [({af:=1,ai:=2,nw:=({id:=0,af:=0,ah:=[],aD:=[],az:=({ak:=0,aj:=0,cells:=[],aH:=[]}:aX),draw:=[]}:Node),ah:=(kF ({data:=#[116,105,116,108,101]})),aQ:=[],az:=({ak:=[],aj:=[],cells:=[],split:=[],merge:=[]}:bP),draw:=[]}:aP)])).aq).length:Int)==2)) X0),(14,Xv 1 ((true&&((gV gf [({af:=1,ai:=2,nw:=({id:=0,af:=0,ah:=[],aD:=[],az:=({ak:=0,aj:=0,cells:=[],aH:=[]}:aX),draw:=[]}:Node),ah:=(kF ({data:=#[116,105,116,108,101]})),aQ:=[],az:=({ak:=[],aj:=[],cells:=[],split:=[],merge:=[]}:bP),draw:=[]}:aP)])==0))&&(((((jB gf [({af:=1,ai:=2,nw:=({id:=0,af:=0,ah:=[],aD:=[],az:=({ak:=0,aj:=0,cells:=[],aH:=[]}:aX),draw:=[]}:Node),ah:=(kF ({data:=#[116,105,116,108,101]})),aQ:=[],az:=({ak:=[],aj:=[],cells:=[],split:=[],merge:=[]}:bP),draw:=[]}:aP)])).aq).length:Int)==2)) (Xi bz (((jB gf [({af:=1,ai:=2,nw:=({id:=0,af:=0,ah:=[],aD:=[],az:=({ak:=0,aj:=0,cells:=[],aH:=[]}:aX),draw:=[]}:Node),ah:=(kF ({data:=#[116,105,116,108,101]})),aQ:=[],az:=({ak:=[],aj:=[],cells:=[],split:=[],merge:=[]}:bP),draw:=[]}:aP)])).aq) 1)),(15,Xv 1 ((true&&((gV gf [({af:=1,ai:=2,nw:=({id:=0,af:=0,ah:=[],aD:=[],az:=({ak:=0,aj:=0,cells:=[],aH:=[]}:aX),draw:=[]}:Node),ah:=(kF ({data:=#[116,105,116,108,101]})),aQ:=[],az:=({ak:=[],aj:=[],cells:=[],split:=[],merge:=[]}:bP),draw:=[]}:aP)])==0))&&(((((jB gf [({af:=1,ai:=2,nw:=({id:=0,af:=0,ah:=[],aD:=[],az:=({ak:=0,aj:=0,cells:=[],aH:=[]}:aX),draw:=[]}:Node),ah:=(kF ({data:=#[116,105,116,108,101]})),aQ:=[],az:=({ak:=[],aj:=[],cells:=[],split:=[],merge:=[]}:bP),draw:=[]}:aP)])).aq).length:Int)==2)) X0),(16,Xv 1 ((true&&((gV gf [({af:=1,ai:=2,nw:=({id:=0,af:=0,ah:=[],aD:=[],az:=({ak:=0,aj:=0,cells:=[],aH:=[]}:aX),draw:=[]}:Node),ah:=(kF ({data:=#[116,105,116,108,101]})),aQ:=[],az:=({ak:=[],aj:=[],cells:=[],split:=[],merge:=[]}:bP),draw:=[]}:aP)])==0))&&(((((jB gf [({af:=1,ai:=2,nw:=({id:=0,af:=0,ah:=[],aD:=[],az:=({ak:=0,aj:=0,cells:=[],aH:=[]}:aX),draw:=[]}:Node),ah:=(kF ({data:=#[116,105,116,108,101]})),aQ:=[],az:=({ak:=[],aj:=[],cells:=[],split:=[],merge:=[]}:bP),draw:=[]}:aP)])).aq).length:Int)==2)) X0),(17,Xv 1 ((true&&((gV gf [({af:=1,ai:=2,nw:=({id:=0,af:=0,ah:=[],aD:=[],az:=({ak:=0,aj:=0,cells:=[],aH:=[]}:aX),draw:=[]}:Node),ah:=(kF ({data:=#[116,105,116,108,101]})),aQ:=[],az:=({ak:=[],aj:=[],cells:=[],split:=[],merge:=[]}:bP),draw:=[]}:aP)])==0))&&(((((jB gf [({af:=1,ai:=2,nw:=({id:=0,af:=0,ah:=[],aD:=[],az:=({ak:=0,aj:=0,cells:=[],aH:=[]}:aX),draw:=[]}:Node),ah:=(kF ({data:=#[116,105,116,108,101]})),aQ:=[],az:=({ak:=[],aj:=[],cells:=[],split:=[],merge:=[]}:bP),draw:=[]}:aP)])).aq).length:Int)==2)) (Xl aS ((((((jB gf [({af:=1,ai:=2,nw:=({id:=0,af:=0,ah:=[],aD:=[],az:=({ak:=0,aj:=0,cells:=[],aH:=[]}:aX),draw:=[]}:Node),ah:=(kF ({data:=#[116,105,116,108,101]})),aQ:=[],az:=({ak:=[],aj:=[],cells:=[],split:=[],merge:=[]}:bP),draw:=[]}:aP)])).aq).getD 1 default)).ah))),(18,Xv 1 ((true&&((gV gf [({af:=1,ai:=2,nw:=({id:=0,af:=0,ah:=[],aD:=[],az:=({ak:=0,aj:=0,cells:=[],aH:=[]}:aX),draw:=[]}:Node),ah:=(kF ({data:=#[116,105,116,108,101]})),aQ:=[],az:=({ak:=[],aj:=[],cells:=[],split:=[],merge:=[]}:bP),draw:=[]}:aP)])==0))&&(((((jB gf [({af:=1,ai:=2,nw:=({id:=0,af:=0,ah:=[],aD:=[],az:=({ak:=0,aj:=0,cells:=[],aH:=[]}:aX),draw:=[]}:Node),ah:=(kF ({data:=#[116,105,116,108,101]})),aQ:=[],az:=({ak:=[],aj:=[],cells:=[],split:=[],merge:=[]}:bP),draw:=[]}:aP)])).aq).length:Int)==2)) X0),(19,X (Xk ((true&&((gV gf [({af:=1,ai:=2,nw:=({id:=0,af:=0,ah:=[],aD:=[],az:=({ak:=0,aj:=0,cells:=[],aH:=[]}:aX),draw:=[]}:Node),ah:=(kF ({data:=#[116,105,116,108,101]})),aQ:=[],az:=({ak:=[],aj:=[],cells:=[],split:=[],merge:=[]}:bP),draw:=[]}:aP)])==0))&&(((((jB gf [({af:=1,ai:=2,nw:=({id:=0,af:=0,ah:=[],aD:=[],az:=({ak:=0,aj:=0,cells:=[],aH:=[]}:aX),draw:=[]}:Node),ah:=(kF ({data:=#[116,105,116,108,101]})),aQ:=[],az:=({ak:=[],aj:=[],cells:=[],split:=[],merge:=[]}:bP),draw:=[]}:aP)])).aq).length:Int)==2))))]] [] (fun z0:Bool=>(VB z0,[])) _ _ e1.symm
theorem x5o(d:Doc)(aC:Int)(raw:List Int)(G:Nat->Doc->Prop)(hI:mO aC G)(hg:G 0 d):FC Tryz.prog 17 [.t (gU d),VI aC,VL 1 bC raw] (app emp []) (.t (gU (sE aC raw d 0))) (app emp []):=by
 refine .go Tryz.f17 ?_;refine .len 2 (fun lU=> ?_);refine .loop (α:=Nat×(List Node)) [.r [],.r []] 24 (fun(k,cR)=>([(1,VI aC),(2,VL 1 bC raw),(3,.ptr 0 0),(6,.ptr 8 0),(7,VI (k:Int))],[(0,.box [VL 9 bz cR]),(8,.box [VN])])) (fun(k,cR)=>k<=38/\sE aC raw d 0=sE aC raw ⟨cR⟩ k/\G k ⟨cR⟩) (fun(k,cR)=>raw.length-k) (0,d.aq) ?_ ?_
 ·exact⟨oM,rfl,hg⟩
 rintro⟨k,cR⟩ I2 ic;try dsimp only at I2
 refine .bp (let a:=decide (((k:Int)+2)< (raw.length:Int));[.r [(1,X (Xn ((k:Int)+2))),(3,X (Xl bC raw)),(7,Xv 1 a X0),(8,X (Xk a))]]) (decide (((k:Int)+2)< (raw.length:Int))&&decide ((k:Int)< 36)) (fun h2=> ?_) (fun h2=> ?_)
 ·have hD:=hI.doc I2.2.2;have hC:=hI.cmd (raw.getD (k+1) default) (raw.getD (k+2) default) I2.2.2;have hA:=hI.app (raw.getD k default) (raw.getD (k+1) default) (raw.getD (k+2) default) I2.2.2;refine .bp (let a:=({aq:=cR}:Doc);let b:=raw.getD (k+1) default;let c:=raw.getD (k+2) default;[.r [(5,X (Xi bC raw (k:Int))),(9,X (Xn ((k:Int)+1))),(10,X (Xi bC raw ((k:Int)+1))),(14,X (Xn ((k:Int)+2))),(15,X (Xi bC raw ((k:Int)+2))),(17,X (bV 232 (UM a aC (raw.getD k default) b c aM aM) X0)),(18,X (bV 240 (KC a (dR a aC (raw.getD k default) b c) aM) X0))],.r []]) ((gV ({aq:=cR}:Doc) (dR ({aq:=cR}:Doc) aC (raw.getD k default) (raw.getD (k+1) default) (raw.getD (k+2) default)))==0) (fun h5=> ?_) (fun h5=> ?_)
  ·have AP:=O1 (aC:=aC) (d:=⟨cR⟩) (show k+2<raw.length/\k<36 by omega);have bH:=hI.step (raw.getD k default) (raw.getD (k+1) default) (raw.getD (k+2) default) (show k<55 by omega) I2.2.2;refine .back [.r [],.r [(1,X (Xn ((k:Int)+3)))]] [(0,0),(8,8)] (ic ((k+3),((jB ({aq:=cR}:Doc) (dR ({aq:=cR}:Doc) aC (raw.getD k default) (raw.getD (k+1) default) (raw.getD (k+2) default)))).aq) ?_ ?_)
   ·
    first| (rw[KF h5] at AP bH;exact⟨oM,I2.2.1.trans AP,bH⟩)| (rw[O2 h5] at AP bH;exact⟨oM,I2.2.1.trans AP,bH⟩)
   exact tO
  have AP:=O1 (aC:=aC) (d:=⟨cR⟩) (show k+2<raw.length/\k<36 by omega);have bH:=hI.step (raw.getD k default) (raw.getD (k+1) default) (raw.getD (k+2) default) (show k<55 by omega) I2.2.2;refine .back [.r [(1,X (Xn ((k:Int)+3)))]] [(0,0),(8,8)] (ic ((k+3),cR) ?_ ?_)
  ·
   first| (rw[KF h5] at AP bH;exact⟨oM,I2.2.1.trans AP,bH⟩)| (rw[O2 h5] at AP bH;exact⟨oM,I2.2.1.trans AP,bH⟩)
  exact tO
 have e1:((sE aC raw d 0):Doc)=({aq:=cR}:Doc):=by
  exact I2.2.1.trans (UO oM)
 exact .bA [.r []] [] [] (fun z0:Doc=>(.t (gU z0),[])) _ _ e1
theorem y59(s:ByteArray)(hs:s.size<=1000000000):FC Tryz.prog 16 [VS s] (app emp []) (.aF 0 ((HO s).length)) (app emp [(0,OR 3 aU (HO s))]):=by
 refine .go Tryz.f16 ?_;refine .loop (α:=Nat×(List aL)) [.r [],.r [],.r [],.le (.nR 3 3)] 41 (fun(i,o)=>([(0,VS s),(3,.aF 40 o.length),(6,VI (s.size:Int)),(7,VI (i:Int))],[(40,OR 3 aU o)])) (fun(i,o)=>i<=s.size/\o=(List.range i).map (UP s)) (fun(i,o)=>s.size-i) (0,[]) ?_ ?_
 ·exact⟨oM,rfl⟩
 rintro⟨i,o⟩ I3 cC;try dsimp only at I3
 have ol:o.length=i:=by rw[I3.2];simp
 refine .bp [.r []] (decide ((i:Int)< (s.size:Int))) (fun h3=> ?_) (fun h3=> ?_)
 ·refine .back (let a:=((((s[i]?).getD 0).toNat:Nat):Int);let b:=({aT:=a,bh:=0,ah:=[]}:aL);[.r [],.r [(3,X (Xb s (i:Int))),(4,X (Xn a) (by have:=UInt8.toNat_lt ((s[i]?).getD 0);omega)),(5,X (Xf [(2,2)])),(7,X (cg aU [b] (fK 3 aU 40 o [b])))],.r [(0,X (Xn ((i:Int)+1)))]]) [(40,40)] (cC ((i+1),(o++[({aT:=((((s[i]?).getD 0).toNat:Nat):Int),bh:=0,ah:=[]}:aL)])) ?_ ?_)
  ·refine⟨oM,?_⟩;rw[I3.2,ja,zo];rfl
  exact tO
 have e1:((HO s):List aL)=o:=by
  first| (rw[I3.2,show i=s.size by omega];done)| (rw[I3.2,show i=s.size by omega];rfl)
 have e2:((HO s).length:Nat)=o.length:=by
  first| (rw[I3.2,show i=s.size by omega];done)| (rw[I3.2,show i=s.size by omega];rfl)
 exact .aG [.r []] [(40,0)] (fun((z0,z1):(List aL)×Nat)=>(.aF 0 z1,[(0,OR 3 aU z0)])) _ _ (pr e1 e2)
theorem w0b:FC Tryz.prog 16 [VS {data:=#[97,98,99]}] (app emp []) (.aF 0 3) (app emp [(0,OR 3 aU [({aT:=97,bh:=0,ah:=[]}:aL),({aT:=98,bh:=0,ah:=[]}:aL),({aT:=99,bh:=0,ah:=[]}:aL)])]):=by
 have h:=y59 {data:=#[97,98,99]} dM;have e:HO {data:=#[97,98,99]}=[({aT:=97,bh:=0,ah:=[]}:aL),({aT:=98,bh:=0,ah:=[]}:aL),({aT:=99,bh:=0,ah:=[]}:aL)]:=by kernel_rfl
 rw[e] at h;exact h
theorem x5p(raw:List Int)(G:Nat->Doc->Prop)(hI:mO 0 G)(hg:G 0 wQ):FC Tryz.prog 5 [VL 1 bC raw] (app emp []) (.t (gU (sE 0 raw wQ 0))) (app emp []):=by
 refine .go Tryz.f5 ?_;refine .len 0 (fun dQ=> ?_);have e1:((sE 0 raw wQ 0):Doc)=((sE 0 raw ({aq:=([({id:=1,af:=0,ah:=[],aD:=([({aT:=0,bh:=2,ah:=[]}:aL)]++[({aT:=0,bh:=3,ah:=[]}:aL)]),az:=({ak:=0,aj:=0,cells:=[],aH:=[]}:aX),draw:=[]}:Node),({id:=2,af:=1,ah:=[],aD:=([({aT:=97,bh:=0,ah:=[]}:aL),({aT:=98,bh:=0,ah:=[]}:aL),({aT:=99,bh:=0,ah:=[]}:aL)]++[({aT:=10,bh:=0,ah:=[]}:aL),({aT:=100,bh:=0,ah:=[]}:aL),({aT:=10,bh:=0,ah:=[]}:aL)]),az:=({ak:=0,aj:=0,cells:=[],aH:=[]}:aX),draw:=[]}:Node)]++[({id:=3,af:=10,ah:=[],aD:=[],az:=({ak:=0,aj:=0,cells:=[],aH:=[]}:aX),draw:=[]}:Node)])}:Doc) 0)):=by
  rfl
 exact .bA (let b:=({ak:=0,aj:=0,cells:=[],aH:=[]}:aX);let e:=({aT:=10,bh:=0,ah:=[]}:aL);let f:=({id:=3,af:=10,ah:=[],aD:=[],az:=b,draw:=[]}:Node);let g:=({aT:=100,bh:=0,ah:=[]}:aL);let a:=[({aT:=97,bh:=0,ah:=[]}:aL),({aT:=98,bh:=0,ah:=[]}:aL),({aT:=99,bh:=0,ah:=[]}:aL)]++[e,g,e];let k:=({aT:=0,bh:=3,ah:=[]}:aL);let c:=[({aT:=0,bh:=2,ah:=[]}:aL)]++[k];let d:=[({id:=1,af:=0,ah:=[],aD:=c,az:=b,draw:=[]}:Node),({id:=2,af:=1,ah:=[],aD:=a,az:=b,draw:=[]}:Node)]++[f];let m:=((2:Nat):Int);[.r [],.r [(0,X (bV 8 x3h X0))],.r [(4,X (Xa (Xc ((0:Int)<=0)) (Xc ((0:Int)< m))) ⟨dM,dM⟩),(7,X (Xf [(2,2)])),(9,X (cg aU [k] (fK 3 aU 10 [({aT:=0,bh:=2,ah:=[]}:aL)] [k]))),(10,X (Xa (Xc ((0:Int)<=0)) (Xc ((0:Int)< m))) ⟨dM,dM⟩)],.r [(2,X (bV 152 w0b X0)),(3,X (Xf [(2,2)])),(4,X (Xf [(2,2)])),(5,X (Xf [(2,2)])),(7,X (cg aU [e,g,e] (fK 3 aU 152 [({aT:=97,bh:=0,ah:=[]}:aL),({aT:=98,bh:=0,ah:=[]}:aL),({aT:=99,bh:=0,ah:=[]}:aL)] [e,g,e]))),(8,X (Xa (Xc ((0:Int)<=1)) (Xc ((1:Int)< m))) ⟨dM,dM⟩)],.le (.cb 16 0 true 9 [((c.length):Nat)=(List.map aU c).length,((a.length):Nat)=(List.map aU a).length] ⟨lm,lm,trivial⟩),.r [(2,X (Xf [(2,2),(3,3),(6,5),(7,4),(8,8)])),(4,X (cg bz [f] (Ks 9 bz 224 [({id:=1,af:=0,ah:=[],aD:=c,az:=b,draw:=[]}:Node),({id:=2,af:=1,ah:=[],aD:=a,az:=b,draw:=[]}:Node)] [f])))],.r [(2,X (bV 297 (x5o ({aq:=d}:Doc) 0 raw G hI (by exact hg)) (cg bz d X0)))]]) [] [] (fun z0:Doc=>(.t (gU z0),[])) _ _ e1
theorem y9J(d:Doc)(aC:Int)(raw:List Int)(g:Bool)(k0:Nat)(G:Nat->Doc->Prop)(hI:mO aC G)(hk:k0<=38)(hg:G k0 d):FC Tryz.prog 6 [.t (gU d),VI aC,VL 1 bC raw,VB g] (app emp []) (.aZ [VL 19 bI ((kG aC g raw [] d 0).1),.t (gU ((kG aC g raw [] d 0).2))]) (app emp []):=by
 refine .go Tryz.f6 ?_;refine .len 2 (fun lU=> ?_);refine .loop (α:=Nat×(List Node)×(List aP)) [.r [],.r [],.r [],.le (.nR 10 19)] 41 (fun(k,cR,c)=>([(1,VI aC),(2,VL 1 bC raw),(3,VB g),(4,.ptr 0 0),(9,.ptr 16 0),(10,.aF 40 c.length),(11,VI (k:Int))],[(0,.box [VL 9 bz cR]),(16,.box [VN]),(40,OR 19 bI c)])) (fun(k,cR,c)=>k<=17/\kG aC g raw [] d 0=kG aC g raw c ⟨cR⟩ k/\G (k0+k) ⟨cR⟩/\c.length<=k) (fun(k,cR,c)=>raw.length-k) (0,d.aq,[]) ?_ ?_
 ·exact⟨oM,rfl,hg,sM⟩
 rintro⟨k,cR,c⟩ I3 cC;try dsimp only at I3
 refine .bp (let a:=decide (((k:Int)+2)< (raw.length:Int));[.r [(1,X (Xn ((k:Int)+2))),(3,X (Xl bC raw)),(7,Xv 1 a X0),(8,X (Xk a))]]) (decide (((k:Int)+2)< (raw.length:Int))&&decide ((k:Int)< 15)) (fun h3=> ?_) (fun h3=> ?_)
 ·have hD:=hI.doc I3.2.2.1;have hC:=hI.cmd (raw.getD (k+1) default) (raw.getD (k+2) default) I3.2.2.1;have hA:=hI.app (raw.getD k default) (raw.getD (k+1) default) (raw.getD (k+2) default) I3.2.2.1;have hL:=UQ ⟨cR⟩ aC (raw.getD k default) (raw.getD (k+1) default) (raw.getD (k+2) default);refine .loop (α:=Bool×Nat) (let a:=raw.getD (k+1) default;let b:=raw.getD (k+2) default;[.r [(4,X (Xi bC raw (k:Int))),(8,X (Xn ((k:Int)+1))),(9,X (Xi bC raw ((k:Int)+1))),(13,X (Xn ((k:Int)+2))),(14,X (Xi bC raw ((k:Int)+2))),(16,X (bV 241 (UM ({aq:=cR}:Doc) aC (raw.getD k default) a b aM aM) X0))],.r [],.r [(1,X (Xl bI (dR ({aq:=cR}:Doc) aC (raw.getD k default) a b)))]]) 289 (fun(s,j)=>([(1,VI aC),(2,VL 1 bC raw),(3,VB g),(4,.ptr 0 0),(9,.ptr 16 0),(10,.aF 40 c.length),(11,VI (k:Int)),(12,VL 19 bI (dR ({aq:=cR}:Doc) aC (raw.getD k default) (raw.getD (k+1) default) (raw.getD (k+2) default))),(13,VB s),(46,VL 19 bI (dR ({aq:=cR}:Doc) aC (raw.getD k default) (raw.getD (k+1) default) (raw.getD (k+2) default))),(47,VI ((dR ({aq:=cR}:Doc) aC (raw.getD k default) (raw.getD (k+1) default) (raw.getD (k+2) default)).length:Int)),(48,VI (j:Int))],[(0,.box [VL 9 bz cR]),(16,.box [VN]),(40,OR 19 bI c)])) (fun(s,j)=>j<=(dR ⟨cR⟩ aC (raw.getD k default) (raw.getD (k+1) default) (raw.getD (k+2) default)).length/\s=Cr g (dR ⟨cR⟩ aC (raw.getD k default) (raw.getD (k+1) default) (raw.getD (k+2) default)) j) (fun(s,j)=>(dR ⟨cR⟩ aC (raw.getD k default) (raw.getD (k+1) default) (raw.getD (k+2) default)).length-j) (false,0) ?_ ?_
  ·exact⟨oM,rfl⟩
  rintro⟨s,j⟩ I8 u9;try dsimp only at I8
  refine .bp [.r []] (decide ((j:Int)< ((dR ({aq:=cR}:Doc) aC (raw.getD k default) (raw.getD (k+1) default) (raw.getD (k+2) default)).length:Int))) (fun h8=> ?_) (fun h8=> ?_)
  ·refine .back (let a:=dR ({aq:=cR}:Doc) aC (raw.getD k default) (raw.getD (k+1) default) (raw.getD (k+2) default);let b:=(((a.getD j default)).af)==3;[.r [(0,X (Xi bI a (j:Int)))],.r [(3,Xv 1 (!s) X0),(4,Xv 1 (!s) X0),(5,Xv 1 (!s) X0),(7,Xv 1 ((!s)&&b) X0),(8,kH (!s) b),(9,X (b7 s))],.r [(0,X (Xn ((j:Int)+1)))]]) [(0,0),(16,16),(40,40)] (u9 ((s|| ((((((dR ({aq:=cR}:Doc) aC (raw.getD k default) (raw.getD (k+1) default) (raw.getD (k+2) default)).getD j default)).af)==3)&& !g)),(j+1)) ?_ ?_)
   ·refine⟨oM,?_⟩;rw[x4L oM,<-I8.2];try(cases s<;>simp)
   exact tO
  have hs:s=Cr g (dR ⟨cR⟩ aC (raw.getD k default) (raw.getD (k+1) default) (raw.getD (k+2) default)) (dR ⟨cR⟩ aC (raw.getD k default) (raw.getD (k+1) default) (raw.getD (k+2) default)).length:=by rw[I8.2,show j=(dR ⟨cR⟩ aC (raw.getD k default) (raw.getD (k+1) default) (raw.getD (k+2) default)).length by omega]
  refine .bp (let b:=({aq:=cR}:Doc);let a:=dR b aC (raw.getD k default) (raw.getD (k+1) default) (raw.getD (k+2) default);[.r [(2,X (bV 313 (KC b a aM) X0))],.r [(4,Xv 1 ((gV b a)==0) X0),(5,X (Xk ((gV b a)==0)))]]) (((gV ({aq:=cR}:Doc) (dR ({aq:=cR}:Doc) aC (raw.getD k default) (raw.getD (k+1) default) (raw.getD (k+2) default)))==0)&& !s) (fun fe=> ?_) (fun fe=> ?_)
  ·have bH:=hI.step (raw.getD k default) (raw.getD (k+1) default) (raw.getD (k+2) default) (show k0+k<55 by omega) I3.2.2.1;have hr:k+2<raw.length/\k<15:=oM;refine .back [.r [],.r [(2,X (Ks 19 bI 40 c (dR ({aq:=cR}:Doc) aC (raw.getD k default) (raw.getD (k+1) default) (raw.getD (k+2) default))))],.r [(1,X (Xn ((k:Int)+3)))]] [(0,0),(16,16),(40,40)] (cC ((k+3),((jB ({aq:=cR}:Doc) (dR ({aq:=cR}:Doc) aC (raw.getD k default) (raw.getD (k+1) default) (raw.getD (k+2) default)))).aq,(c++(dR ({aq:=cR}:Doc) aC (raw.getD k default) (raw.getD (k+1) default) (raw.getD (k+2) default)))) ?_ ?_)
   ·rw[KF fe.1] at bH;exact⟨oM,I3.2.1.trans (O3 hr (w1V fe.1 (hs.symm.trans fe.2))),bH,by rw[qf];omega⟩
   exact tO
  have bH:=hI.step (raw.getD k default) (raw.getD (k+1) default) (raw.getD (k+2) default) (show k0+k<55 by omega) I3.2.2.1;have hr:k+2<raw.length/\k<15:=oM;refine .back [.r [(1,X (Xn ((k:Int)+3)))]] [(0,0),(16,16),(40,40)] (cC ((k+3),cR,c) ?_ ?_)
  ·exact⟨oM,I3.2.1.trans (O4 hr (w1W (fe.imp id hs.symm.trans))),hI.more (show k0+k<55 by omega) I3.2.2.1,oM⟩
  exact tO
 have e1:((kG aC g raw [] d 0).1:List aP)=c:=by
  rw[I3.2.1,KG oM]
 have e2:((kG aC g raw [] d 0).2:Doc)=({aq:=cR}:Doc):=by
  rw[I3.2.1,KG oM]
 exact .bA [.r [],.le (.fr 8 [(c.length:Nat)=(List.map bI c).length] ⟨lm,trivial⟩)] [] [] (fun((z0,z1):(List aP)×Doc)=>(.aZ [VL 19 bI z0,.t (gU z1)],[])) _ _ (pr e1 e2)
end Go.Ch
end
section
namespace Go.Ch
open Go Go.Ab
variable {U:US}
theorem y6a(p q:List DU):gu (dU p q)<=gu p+gu q:=by
 induction p,q using dU.induct with
 |case7 p dh=>rw[show dU p []=p by unfold dU;split<;>simp_all];omega
 |case8 q h1 h2=>rw[show dU [] q=[] by unfold dU;split<;>simp_all];simp[gu]
 |case2 p e q dh ih=>
  rw[dU];rotate_left
  ·exact dh
  simp only[gu] at*;omega
 |_=>rw[dU];simp only[gu] at*;omega
theorem UR(hU:UB U){p:Pl}{s:bM}{es:List aL}(hp:mq p)(hf:p.ai.aD.length<=1048576)(hn:∀x∈p.ai.aD,RU U x)(ha:HP U p.aR)
 (hs:0<=s.fr/\s.fr<=s.tq/\s.tq< (p.aN.length:Int)) (hl:es.length<=1048576) (he:∀x∈es,RU U x):∃us,jY U (rZ p s es) us/\gu us<=es.length:=by
 have hg:=KH hp hs;obtain⟨_,T⟩:=UT hU.len (n:=p.ai.aD.length) (k:=ou p.aN s.fr) (es:=es) (au:=p.aR) hg oM oM (UW hU ha) he;obtain⟨_,E⟩:=UX hU.len (f:=p.ai.aD) (pl:=(p.aN.take s.tq.toNat).drop s.fr.toNat) (au:=p.aR) oM (UY hU ha);have tf:=O5 (n:=p.ai.aD.length) (k:=(ou p.aN s.fr).toNat) (es:=es) (au:=p.aR) oM;have ef:=O6 p.ai.aD ((p.aN.take s.tq.toNat).drop s.fr.toNat) p.aR p.ai.aD.length;have tl:=T.lens;have el:=E.lens;obtain⟨P,p1,p2⟩:=UZ hU.len T E oM oM;obtain⟨J,j1,j2⟩:=U0 hU.len E P p1.symm;refine⟨_,J,?_⟩;have a1:=y6a (bD (pZ p.ai.aD ((p.aN.take s.tq.toNat).drop s.fr.toNat) p.aR)) (bD (jD (tD p.ai.aD.length (ou p.aN s.fr) es p.aR) (pZ p.ai.aD ((p.aN.take s.tq.toNat).drop s.fr.toNat) p.aR)));have a2:=DE E.sw;have a3:=DE P.sw;have a4:=(U1 (bD (tD p.ai.aD.length (ou p.aN s.fr) es p.aR)) (bD (pZ p.ai.aD ((p.aN.take s.tq.toNat).drop s.fr.toNat) p.aR))).1.1;have a5:=DE T.sw;omega
theorem DF{o:aP}(h:fF o=0)(hk:o.af≠0):1<=o.ai/\o.ai<=1073741824:=by
 unfold fF at h;split at h
 ·cases h
 split at h
 ·cases h
 (try rw[if_neg hk] at h)
 split at h
 ·cases h
 omega
def vZ(U:US)(s:Int)(c:List aP):Prop:=∀o∈c,fF o=0->Gd U s o
theorem vZ.nil{s:Int}:vZ U s []:=fun o ho=>by cases ho
theorem vZ.one{s:Int}{o:aP}(h:fF o=0->Gd U s o):vZ U s [o]:=fun x hx=>by rw[qv] at hx;subst hx;exact h
theorem vZ.two{s:Int}{o p:aP}(h:fF o=0->Gd U s o)(h2:fF p=0->Gd U s p):vZ U s [o,p]:=fun x hx=>by
 simp only[qg,qX,or_false] at hx;rcases hx with rfl|rfl
 ·exact h
 exact h2
theorem U2{s:Int}{k:Nat}{d:Doc}(hs:1<=s/\s<=1000)(h:PP U s k d.aq)(h0:ig d s=0):s*65536<=ij d s/\ij d s< (s+1)*65536:=by
 obtain⟨_,_,n3,_⟩:=HQ oM h h0;refine⟨?_,n3⟩;have hd:=h.doc;have hb:ov d.aq s d.aq.length%65536≠65535:=by
  intro q;rw[(O7 hd oM q).2] at h0;cases h0
 have e:ij d s=ov d.aq s d.aq.length+1:=(O8 hd oM hb).1;obtain⟨a,b⟩:=O9 d.aq s d.aq.length;rcases a with a| ⟨n,hn,q1,q2⟩<;>omega
theorem Pb(hU:UB U){s:Int}{k:Nat}{d:Doc}(h:PP U s k d.aq)(hk:k<=57){S:bM}{t au:ByteArray}(hz:au≠wR)(ht:wS t)(hl:t.size<=12):vZ U s (nT d S (kI t) au):=by
 unfold nT;split
 ·exact .nil
 rename_i q;have h0:dP d S au=0:=qc q;obtain⟨p1,p2,p3,p4,p5⟩:=z20 hU h oM (hU.no hz) h0;obtain⟨us,hd,ha⟩:=UR hU p1 p2 p3 p4 p5 (es:=v7 (bL d S au) S (kI t)) (by rw[HR,HT];omega) (Pc p1 p3 (Pd ht));rw[HR,HT] at ha;exact .one fun e=> .F _ _ us (DF e (show(2:Int)≠0 by decide)) hd oM
def w2Y:DU->Bool
 | .A _=>true
 |_=>false
theorem w0c{us:List DU}(h:∀u∈us,w2Y u=false):gu us=0:=by
 induction us with
 |nil=>rfl
 |cons u us ih=>
  have h1:=h u sM;have h2:=ih fun v hv=>h v (by simp[hv])
  cases u with
  |A e=>cases h1
  |K c=>exact h2
  |C=>exact h2
theorem w0d(hU:UB U){s:Int}{k:Nat}{d:Doc}(h:PP U s k d.aq)(hk:k<=57){S:bM}{c:List aI}(hn:Fk U c)(w:Int->Bool)(h0:nj d S c=0):vZ U s (yX (bL d S {data:=#[]}) c w):=by
 have h1:dP d S {data:=#[]}=0:=by
  apply qc;intro q;rw[KI q] at h0;exact q h0
 have h2:dO true c 0=0:=by rw[Fl h1] at h0;exact h0
 obtain⟨p1,p2,p3,p4,p5⟩:=z20 hU h oM (hU.no dM) h1;have r:=Pe hU (f:=oz w (bL d S {data:=#[]}).aN (bL d S {data:=#[]}).ai.aD.length (bL d S {data:=#[]}).aN.length) (n:=(bL d S {data:=#[]}).ai.aD.length) (Fm (oW.1 h2) hn) oM;refine .one fun e=> .F _ _ _ (DF e (show(2:Int)≠0 by decide)) r.1 ?_
 rw[w0c]
 ·omega
 intro u hu;obtain⟨i,_,rfl⟩:=qO.1 hu;unfold p8;split<;>rfl
theorem Pf(hU:UB U){s:Int}(hs:1<=s/\s<=1000){k:Nat}{d:Doc}(h:PP U s k d.aq)(hk:k<=57){S:bM}{n:Node}{au:ByteArray}(Pg:au≠wR)(hg:NG U n)(hz:NZ 10 n):vZ U s (jE d S n s au):=by
 unfold jE;split
 ·exact .nil
 rename_i q;have h0:jO d S n s au=0:=qc q;have h1:dP d S au=0:=by
  apply qc;intro z;rw[(Ph z).2.2] at h0;exact z h0
 have h2:ig d s=0:=by
  unfold jO at h0;rw[if_neg (fun z=>z h1)] at h0;split at h0
  ·cases h0
  split at h0
  ·rename_i z;exact absurd h0 z
  rename_i z;exact qc z
 obtain⟨p1,p2,p3,p4,p5⟩:=z20 hU h oM (hU.no Pg) h1;obtain⟨n1,n2,n3,n4⟩:=HQ oM h h2;obtain⟨us,hd,ha⟩:=UR hU p1 p2 p3 p4 p5 (es:=uz d S s au) (by simp[uz]) (fun x hx=>by
  rw[show x=⟨0,ij d s,lH (bL d S au) S.fr⟩ by simpa[uz] using hx];exact KJ oM (HU p1 p3 _))
 have e3:(uz d S s au).length=1:=rfl;exact .two (fun e=> .N _ ⟨hg.uA,hg.fl,hg.mg,hg.ce,hg.dr,hg.kd⟩ ⟨hz.fl,hz.ce,hz.dr,hz.ro,hz.co⟩ (Pj e) (U2 hs h h2)) (fun e=> .F _ _ us (DF e (show(2:Int)≠0 by decide)) hd oM)
theorem U3{k:Int}{g:bP}(h:fF (gY k g)=0):jF g=0:=by
 unfold fF at h;split at h
 ·cases h
 split at h
 ·cases h
 rw[if_neg (show¬(gY k g).af=0 from(by decide:¬(3:Int)=0))] at h;split at h
 ·cases h
 rwa [if_neg (show¬(gY k g).af=1 from(by decide:¬(3:Int)=1)),if_neg (show¬(gY k g).af=2 from(by decide:¬(3:Int)=2)),if_pos (show(gY k g).af=3 from rfl)] at h
theorem U4{s:Int}(i:Int){g:bP}(hl:p9 g):vZ U s [gY i g]:= .one fun e=> .G _ _ (DF e (show(3:Int)≠0 by decide)) (U3 e) hl
theorem x8F(hU:UB U){s:Int}(hs:1<=s/\s<=1000){k:Nat}{d:Doc}(h:PP U s k d.aq)(hk:k<=57)(i r c:Int):vZ U s (nU d i r c s):=by
 unfold nU;split
 ·exact .nil
 rename_i q;have h0:lI d i r c s=0:=qc fun z=>q (.inl z)
 have hi:¬0<=AQ d i r c:=fun z=>q (.inr z)
 have h2:ig d s=0:=by
  unfold lI at h0;split at h0
  ·rename_i z;exact absurd h0 z
  split at h0
  ·cases h0
  split at h0
  ·cases h0
  first|exact h0|rwa [if_neg hi] at h0
 exact .two (fun e=> .N _ ⟨VU.nil,fun x hx=>by rw[show x=⟨10,0,[]⟩ by simpa[xR] using hx];exact KK,rfl,(fun x hx=>by cases hx),(fun x hx=>by cases hx),by simp[xR]⟩ (yY (by simp[xR]) (by simp[xR]) (by simp[xR])) (Pj e) (U2 hs h h2)) (fun e=> .G _ _ (DF e (show(3:Int)≠0 by decide)) (U3 e) (U5 _ ⟨rfl,rfl⟩))
theorem uB{Q:List aP->Prop}{p:Prop}[Decidable p]{x y:List aP}(hx:p->Q x)(hy:¬p->Q y):Q (if p then x else y):=by
 split
 ·rename_i h;exact hx h
 rename_i h;exact hy h
theorem w0e(hN:UN U){s:Int}(hs:1<=s/\s<=1000){k:Nat}{d:Doc}(h:PP U s k d.aq)(hk:k<=57)(a b c:Int):vZ U s (dR d s a b c):=by
 have hU:=hN.toUB;have fmt:∀(S:bM) (cs:List aI) (w:Int->Bool),Fk U cs->vZ U s (if nj d S cs≠0 then[] else yX (bL d S {data:=#[]}) cs w):=fun S cs w hc=>
  uB (fun _=> .nil) (fun q=>w0d hU h hk hc w (qc q))
 unfold dR;refine uB (fun _=>Pb hU h hk dM (HV _) (U6 _)) (fun _=>uB (fun _=>Pb hU h hk dM KL dM) (fun _=>uB (fun _=>Pb hU h hk dM Pk dM) (fun _=>
  uB (fun _=>fmt _ _ _ (z33 hU ?_ ?_)) (fun _=>uB (fun _=>fmt _ _ _ (z33 hU ?_ ?_)) (fun _=>
  uB (fun _=>Pf hU hs h hk dM (U7 _ _) (U8 _ _)) (fun _=>uB (fun _=>Pf hU hs h hk dM (U9 hN _) (yY (by simp[nV]) (by simp[nV]) (by simp[nV]))) (fun _=>uB (fun _=>Pf hU hs h hk dM (Va hN) (yY (by simp[rj]) (by simp[rj]) (by simp[rj]))) (fun _=>
  uB (fun _=>uB (fun _=> .nil) (fun _=>U4 _ (Pm (KM _ _ _) sM (KN (KO _)) .nil))) (fun _=>uB (fun _=>uB (fun _=> .nil) (fun _=>U4 _ (Pm sM (KM _ _ _) .nil (KN (KO _))))) (fun _=>
  uB (fun _=>x8F hU hs h hk _ _ _) (fun _=>uB (fun _=> ?_) (fun _=> ?_))))))))))))
 ·exact KP hN.bo hN.si hN.ma (jZ _ dM)
 ·exact Fo dM dM dM (jZ _ dM)
 ·exact KP hN.he hN.li hN.al (jZ _ dM)
 ·exact Fo dM dM dM (jZ _ dM)
 ·refine .one fun e=> .D _ _ (DF e (show(4:Int)≠0 by decide)) (Vb e) (fun o ho=> ?_) (fun o ho=> ?_) sM
  ·rw[qv] at ho;subst ho;exact⟨(by decide:({data:=#[98]}:ByteArray).size<=100),(by decide:r8.size<=100),(by decide:r8.size<=100)⟩
  rw[qv] at ho;subst ho;rfl
 exact .one fun e=> .A _ _ (DF e (show(1:Int)≠0 by decide)) (Fm (oW.1 (Vc e)) (z33 hN.toUB hN.ti (Fo dM dM dM (jZ _ dM))))
theorem Vd(hN:UN U){s:Int}(hs:1<=s/\s<=1000){g:Bool}{raw:List Int}:∀(m:Nat) {k0 k:Nat} {c:List aP} {d:Doc},raw.length-k=m->k0<=38->k<=17->GK U s (k0+k) d->(∀o∈c,Gd U s o)->∀o∈(kG s g raw c d k).1,Gd U s o:=by
 intro m;induction m using Nat.strongRecOn with
 |_ m ih=>
  intro k0 k c d hm hk Fh hg hc;by_cases h:k+2<raw.length/\k<15
  ·by_cases h2:xS s g d (raw.getD k default) (raw.getD (k+1) default) (raw.getD (k+2) default)=true
   ·rw[O3 h h2];have rS:=h2;unfold xS at rS;rw[qq,decide_eq_true_eq] at rS;have h0:=rS.1;obtain⟨r1,r2⟩:=Pn hN oM hg h0;obtain⟨e1,e2,e3,e4⟩:=Po h0;refine ih _ oM (k0:=k0) rfl hk oM ⟨oM,r2⟩ (fun o ho=> ?_);rcases qn.1 ho with q|q
    ·exact hc o q
    exact w0e hN hs hg.2 hg.1 _ _ _ o q (DG.1 e2 o q)
   rw[O4 h h2];exact ih _ oM (k0:=k0) rfl hk oM ⟨oM,hg.2.mono oM⟩ hc
  rw[KG h];exact hc
end Go.Ch
end
section
namespace Go.Ch
open Go Go.Ab
variable {U:US} {s:Int}
theorem w0f{n:Int}{c:List aI}(hn:1<=n/\n<=1073741824)(hc:dO true c 0=0):fF (j0 n c)=0:=by
 unfold fF;rw[if_neg (by show¬((1:Int)< 0\/4< (1:Int));decide)];have hu:ve (j0 n c)=false:=by
  unfold ve j0;simp only[show((1:Int)==0)=false from rfl,show((1:Int) !=0)=true from rfl,show((1:Int) !=1)=false from rfl,show((1:Int) !=2)=true from rfl,show((1:Int) !=3)=true from rfl,show((1:Int) !=4)=true from rfl,Bool.false_and,Bool.true_and,ji];rw[show AR ⟨0,0,[],[],⟨0,0,[],[]⟩,[]⟩=true by decide+kernel,show HW ⟨[],[],[],[],[]⟩=false by decide+kernel];rfl
 rw[if_neg (by rw[hu];decide),if_neg (show¬(j0 n c).af=0 from(by decide:¬(1:Int)=0)),if_neg (by show¬(n<1\/1073741824<n);omega),if_pos (show(j0 n c).af=1 from rfl)];exact hc
theorem w0g{n:Int}{c:List fN}(hn:1<=n/\n<=1073741824)(hc:lX c 0=0):fF (j3 n c)=0:=by
 unfold fF;rw[if_neg (by show¬((4:Int)< 0\/4< (4:Int));decide)];have hu:ve (j3 n c)=false:=by
  unfold ve j3;simp only[show((4:Int)==0)=false from rfl,show((4:Int) !=0)=true from rfl,show((4:Int) !=1)=true from rfl,show((4:Int) !=2)=true from rfl,show((4:Int) !=3)=true from rfl,show((4:Int) !=4)=false from rfl,Bool.false_and,Bool.true_and,ji];rw[show AR ⟨0,0,[],[],⟨0,0,[],[]⟩,[]⟩=true by decide+kernel,show HW ⟨[],[],[],[],[]⟩=false by decide+kernel];rfl
 rw[if_neg (by rw[hu];decide),if_neg (show¬(j3 n c).af=0 from(by decide:¬(4:Int)=0)),if_neg (by show¬(n<1\/1073741824<n);omega),if_neg (show¬(j3 n c).af=1 from(by decide:¬(4:Int)=1)),if_neg (show¬(j3 n c).af=2 from(by decide:¬(4:Int)=2)),if_neg (show¬(j3 n c).af=3 from(by decide:¬(4:Int)=3))];exact hc
theorem w0h{n:Node}(hn:fT n=0):fF (nk n)=0:=by
 unfold fF;rw[if_neg (by show¬((0:Int)< 0\/4< (0:Int));decide)];have hu:ve (nk n)=false:=by
  unfold ve nk;simp only[show((0:Int)==0)=true from rfl,show((0:Int) !=0)=false from rfl,show((0:Int) !=1)=true from rfl,show((0:Int) !=2)=true from rfl,show((0:Int) !=3)=true from rfl,show((0:Int) !=4)=true from rfl,Bool.false_and,Bool.true_and,ji];rw[show HW ⟨[],[],[],[],[]⟩=false by decide+kernel];rfl
 rw[if_neg (by rw[hu];decide),if_pos (show(nk n).af=0 from rfl)];exact hn
theorem w0i{n:Int}{g:bP}(hn:1<=n/\n<=1073741824)(hg:jF g=0):fF (gY n g)=0:=by
 unfold fF;rw[if_neg (by show¬((3:Int)< 0\/4< (3:Int));decide)];have hu:ve (gY n g)=false:=by
  unfold ve gY;simp only[show((3:Int)==0)=false from rfl,show((3:Int) !=0)=true from rfl,show((3:Int) !=1)=true from rfl,show((3:Int) !=2)=true from rfl,show((3:Int) !=3)=false from rfl,show((3:Int) !=4)=true from rfl,Bool.false_and,Bool.true_and,ji];rw[show AR ⟨0,0,[],[],⟨0,0,[],[]⟩,[]⟩=true by decide+kernel];rfl
 rw[if_neg (by rw[hu];decide),if_neg (show¬(gY n g).af=0 from(by decide:¬(3:Int)=0)),if_neg (by show¬(n<1\/1073741824<n);omega),if_neg (show¬(gY n g).af=1 from(by decide:¬(3:Int)=1)),if_neg (show¬(gY n g).af=2 from(by decide:¬(3:Int)=2)),if_pos (show(gY n g).af=3 from rfl)];exact hg
theorem AS(hU:UB U){o:aP}(h:Gd U s o):fF o=0/\pq o:=by
 cases h with
 |N n hg hz hv hi=>exact⟨w0h hv,Pp hU hg hz dM⟩
 |A k c hk hc=>exact⟨w0f hk (oW.2 hc.g),Ve (by have:=hc.len hU.len;omega)⟩
 |F k st us hk hd ha=>exact⟨x94 hk hd,KQ hU hd⟩
 |D k c hk hc hz hs hl=>exact⟨w0g hk hc,Vf oM⟩
 |G k e hk he hl=>exact⟨w0i hk he,Pq hl⟩
theorem Vg(hU:UB U):∀(c:List aP) {l:List Node} {m:Nat},GP U m l->10<=m->m+12*c.length<=90000->l.length+c.length<=1000000->(∀o∈c,Gd U s o)->HN l c
 | [],l,m,_,_,_,_,_=>trivial
 |o::c,l,m,h,hm,hb,hl,hg=>by
  simp only[qi] at hb hl;have g0:=hg o sM;obtain⟨e0,l0⟩:=AS hU g0;refine⟨⟨oM,h.vd.pz,e0,l0,fun n hn=>⟨(h.nd n hn).1.b hU (h.nd n hn).2 oM,(h.nd n hn).1.lY,(h.nd n hn).1.kd⟩⟩,fun h0=> ?_⟩;obtain⟨k1,k2⟩:=KR h hm oM g0 h0;exact Vg hU c k1 oM oM oM (fun x hx=>hg x (by simp[hx]))
theorem Vh(hU:UB U){d:Doc}{m:Nat}{c:List aP}{l2:List Node}(h:GP U m d.aq)(hm:10<=m)(hb:m+12*c.length<=3000)(hl:d.aq.length<=90)(TD:c.length<=1000)(hg:∀o∈c,Gd U s o)(h0:iz d.aq c=0)(h2:gK d.aq c=l2):
 sD d c/\gV d c=0/\jB d c=⟨l2⟩:=by
 have hv:jC c 0=0:=DG.2 fun o ho=>(AS hU (hg o ho)).1
 have hd:ez d=0:=KS.2 h.vd;have r:=OY hd hv h0 h2;exact⟨⟨Pr hU (m:=m) (q:=100) oM oM oM h.nd,fun o ho=>(AS hU (hg o ho)).2,fun _ _=>Vg hU c h hm oM oM hg⟩,r.2,r.1⟩
theorem Vi{s:Int}:∀(c:List aP) {l:List Node} {m:Nat},GP U m l->10<=m->m+12*c.length<=100000->(∀o∈c,Gd U s o)->iz l c=0->GP U (m+12*c.length) (gK l c)/\(gK l c).length<=l.length+c.length
 | [],l,m,h,_,_,_,_=>⟨by simpa[gK] using h,by simp[gK]⟩
 |o::c,l,m,h,hm,hb,hg,h0=>by
  simp only[qi] at hb;obtain⟨a,b⟩:=HX.1 h0;obtain⟨k1,k2⟩:=KR h hm oM (hg o sM) a;obtain⟨i1,i2⟩:=Vi c k1 oM oM (fun x hx=>hg x (by simp[hx])) b;refine⟨?_,?_⟩
  ·rw[qi,show m+12*(c.length+1)=m+12+12*c.length by omega];exact i1
  rw[qi];show(gK (cn l o) c).length<=_;omega
def vf:US:=⟨UC++[],[]⟩
structure HY(U:US)(w:Bool)(raw p q:List Int)(d:Doc)(a b:List aP)(da db d2:Doc)(x y:List aP):Prop where
 hd:sE 0 raw wQ 0=d
 ha:(kG 1 w p [] d 0).1=a
 DH:(kG 1 w p [] d 0).2=da
 hb:(kG 2 w q [] d 0).1=b
 xT:(kG 2 w q [] d 0).2=db
 doc:fD d
 la:a.length<=17
 lb:b.length<=17
 oa:∀o∈a,vh o
 ob:∀o∈b,vh o
 ea:jC a 0=0
 eb:jC b 0=0
 mt:Fp U 1 2 a b
 ox:∀o∈x,vh o
 oy:∀o∈y,vh o
 hx:(jP a b).1=x
 hy:(jP a b).2=y
 apA:sD da y
 eA:gV da y=0
 dA:jB da y=d2
 apB:sD db x
 eB:gV db x=0
 dB:jB db x=d2
 l2:d2.aq.length<=1048576
 e2:ez d2=0
 b2:fD d2
theorem w0j{k:Nat}{d:Doc}(h:GK U 0 k d):GK U 2 k d:=⟨h.1,h.2.gp,h.2.len,fun n hn=>by have:=h.2.id n hn;omega⟩
theorem w2Z(w:Bool)(raw p q:List Int):∃d a b da db d2 x y k0,HY vf w raw p q d a b da db d2 x y/\k0<=38/\GK vf 1 k0 d/\GK vf 2 k0 d:=by
 have hN:UN vf:=Vj [] sM [] (fun v hv=>by cases hv);have hU:=hN.toUB;have hI:mO 0 (GK vf 0):=KT hN rfl (s:=0) oM;obtain⟨k0,hk,h0⟩:=hI.grown (raw:=raw) _ rfl oM (Vk hN);generalize hd:sE 0 raw wQ 0=d at h0;have h1:=x93 h0;have h2:=w0j h0;have start:∀{s:Int},GK vf s k0 d->CI vf s d.aq [] d:=fun h=>⟨h.2.mono (by have:=h.1;omega),rfl,rfl,fun o ho=>by cases ho⟩
 obtain⟨KU,Vl,Pt⟩:=Vm hN (s:=1) oM (g:=w) (raw:=p) (l:=d.aq) hk _ (k:=0) (c:=[]) rfl oM (qp _) h1 (start h1);obtain⟨KV,Vn,Pu⟩:=Vm hN (s:=2) oM (g:=w) (raw:=q) (l:=d.aq) hk _ (k:=0) (c:=[]) rfl oM (qp _) h2 (start h2);have g1:=Vd hN (s:=1) oM (g:=w) (raw:=p) _ (k0:=k0) (k:=0) (c:=[]) (d:=d) rfl hk oM h1 (fun o ho=>by cases ho);have g2:=Vd hN (s:=2) oM (g:=w) (raw:=q) _ (k0:=k0) (k:=0) (c:=[]) (d:=d) rfl hk oM h2 (fun o ho=>by cases ho);generalize ha:(kG 1 w p [] d 0).1=a at KU Vl g1;generalize DH:(kG 1 w p [] d 0).2=da at KU Pt;generalize hb:(kG 2 w q [] d 0).1=b at KV Vn g2;generalize xT:(kG 2 w q [] d 0).2=db at KV Pu;have lJ:GP vf 238 d.aq:=h0.2.gp.mono (by have:=h0.1;omega);obtain⟨m1,m2,⟨m3,m4⟩,m5,m6,m7,m8⟩:=Vo hU (s:=1) (t:=2) dM a lJ oM oM g1 g2 KU.e KV.e;rw[KU.l] at m6 m8;rw[KV.l] at m7 m8;have Vp:GP vf 238 da.aq:=Pt.gp.mono oM;have gpb:GP vf 238 db.aq:=Pu.gp.mono oM;have la:=Pt.len;have lb:=Pu.len;obtain⟨a1,a2,a3⟩:=Vh hU Vp oM oM oM oM m2 m6 rfl;obtain⟨b1,b2,b3⟩:=Vh hU gpb oM oM oM oM m1 m7 m8.symm;have gr:=Vi _ Vp oM oM m2 m6;have lr:=gr.2;refine⟨d,a,b,da,db,⟨gK da.aq (jP a b).2⟩,_,_,k0,⟨hd,ha,DH,hb,xT,hI.doc h0,Vl,Vn,fun o ho=>KW hU (g1 o ho) (AS hU (g1 o ho)).2,fun o ho=>KW hU (g2 o ho) (AS hU (g2 o ho)).2,DG.2 fun o ho=>(AS hU (g1 o ho)).1,DG.2 fun o ho=>(AS hU (g2 o ho)).1,m5,fun o ho=>KW hU (m1 o ho) (AS hU (m1 o ho)).2,fun o ho=>KW hU (m2 o ho) (AS hU (m2 o ho)).2,rfl,rfl,a1,a2,a3,b1,b2,b3,by show(gK da.aq (jP a b).2).length<=_;omega,KS.2 gr.1.vd,Pr hU (m:=238+12*(jP a b).2.length) (q:=100) oM oM (by show(gK da.aq (jP a b).2).length<=_;omega) gr.1.nd⟩,hk,h1,h2⟩
end Go.Ch
end
section
set_option maxRecDepth 100000
set_option maxHeartbeats 4000000
open Go Go.Proofs Go.Ab
namespace Go.Ch
theorem x3m(raw:List Int)(G:Nat->Doc->Prop)(hI:mO 0 G)(hg:G 0 wQ){d:Doc}(h:sE 0 raw wQ 0=d):FC Tryz.prog 5 [VL 1 bC raw] (app emp []) (.t (gU d)) (app emp []):=h▸x5p raw G hI hg
theorem Vq(d:Doc)(aC:Int)(raw:List Int)(k0:Nat)(G:Nat->Doc->Prop)(hI:mO aC G)(hk:k0<=38)(hg:G k0 d){c:List aP}{d2:Doc}(h1:(kG aC true raw [] d 0).1=c)(h2:(kG aC true raw [] d 0).2=d2):FC Tryz.prog 6 [.t (gU d),VI aC,VL 1 bC raw,VB true] (app emp []) (.aZ [VL 19 bI c,.t (gU d2)]) (app emp []):=by
 have h:=y9J d aC raw true k0 G hI hk hg;rw[h1,h2] at h;exact h
theorem Vr(d:Doc)(c:List aP)(hb:sD d c){d2:Doc}(h:jB d c=d2)(h0:gV d c=0):FC Tryz.prog 8 [.t (gU d),VL 19 bI c] (app emp []) (.aZ [.t (gU d2),VI 0]) (app emp []):=by
 have:=KC d c hb;rw[h,h0] at this;exact this
theorem x5q(raw p q:List Int)(d:Doc)(a b:List aP)(da db d2:Doc)(x y:List aP)(k0:Nat)(G G1 G2:Nat->Doc->Prop)(hI:mO 0 G)(hg:G 0 wQ)(Pv:mO 1 G1)(Pw:mO 2 G2)(hk:k0<=38)(Dw:G1 k0 d)(Fq:G2 k0 d)(hU:UB vf)(hx:HY vf true raw p q d a b da db d2 x y):FC Tryz.prog 3 [VL 1 bC raw,VL 1 bC p,VL 1 bC q] (app emp []) (VB true) (app emp []):=by
 refine .go Tryz.f3 ?_;refine .len 0 (fun dQ=> ?_);refine .len 1 (fun gW=> ?_);refine .len 2 (fun lU=> ?_);have hD:=hx.doc;have l2:=hx.l2;have la:=hx.la;have lb:=hx.lb;have e2:=hx.e2;have b2:=hx.b2;refine .bp (let e:=false||false;let c:=(e||false)|| ((ez d2) !=0);[.r [],.r [(0,X (aW x5n X0))],.f,.r [(1,X (bV 32 (x3m raw G hI hg hx.hd) X0))],.r [(2,X (bV 72 (Vq d 1 p k0 G1 Pv hk Dw hx.ha hx.DH) X0))],.r [(2,X (bV 144 (Vq d 2 q k0 G2 Pw hk Fq hx.hb hx.xT) X0))],.r [(2,X (bV 216 (x5h vf 1 2 a b x y hU oM oM hx.ea hx.eb hx.oa hx.ob hx.mt hx.hx hx.hy hx.ox hx.oy) X0))],.r [(2,X (bV 296 (Vr da y hx.apA hx.dA hx.eA) X0))],.r [(2,X (bV 368 (Vr db x hx.apB hx.dB hx.eB) X0))],.r [(4,Xv 1 (!false) X0),(5,X (b7 false)),(8,Xv 1 (!e) X0),(9,X (b7 e)),(12,Xv 1 (!(e||false)) (aW (DD d2 aM) X0)),(13,Xv 1 (!(e||false)) X0),(14,X (b7 (e||false))),(17,Xv 1 (!c) X0),(18,Xv 1 (!c) (Xl bz d2.aq)),(20,Xv 1 (!c) X0),(21,Xv 1 (!c) (Xl bz d2.aq)),(22,Xv 2 (!c) X0),(23,X (b7 c))]]) ((((false||false)||false)|| ((ez d2) !=0))|| ((d2.aq.length:Int) !=(d2.aq.length:Int))) (fun h9=> ?_) (fun h9=> ?_)
 ·exfalso;simp[e2] at h9
 refine .loop (α:=Nat) [.r [(2,X (Xl bz d2.aq))]] 648 (fun i=>([(15,.ptr 328 0),(17,.ptr 400 0),(83,VI (d2.aq.length:Int)),(84,VI (i:Int))],[(328,.box [VL 9 bz d2.aq]),(400,.box [VL 9 bz d2.aq])])) (fun i=>i<=d2.aq.length) (fun i=>d2.aq.length-i) (0:Nat) ?_ ?_
 ·exact qG _
 rintro i Cs AT;try dsimp only at Cs
 refine .bp [.r []] (decide ((i:Int)< (d2.aq.length:Int))) (fun fJ=> ?_) (fun fJ=> ?_)
 ·refine .bp (let a:=((d2.aq.getD i default));let b:=!(wT (a.aD) (a.aD))|| !(iN (a.ah) (a.ah));let c:=!(wT (a.aD) (a.aD));[.r [],.r [(3,X (Xi bz d2.aq (i:Int))),(8,X (Xi bz d2.aq (i:Int)))],.r [(4,X (aW (y5u (a.aD) (a.aD)) X0)),(8,Xv 1 (!c) X0),(10,Xv 1 (!c) X0),(11,Xv 2 (!c) (aW (Vs (a.ah) (a.ah)) X0)),(12,Xv 1 (!c) X0),(13,X (b7 c)),(16,Xv 1 (!b) X0),(18,Xv 1 (!b) X0),(19,Xv 2 (!b) (aW (x2Y (a.draw) (a.draw)) X0)),(20,Xv 1 (!b) X0),(21,X (b7 b))]]) ((!(wT (((d2.aq.getD i default)).aD) (((d2.aq.getD i default)).aD))|| !(iN (((d2.aq.getD i default)).ah) (((d2.aq.getD i default)).ah)))|| !(yZ (((d2.aq.getD i default)).draw) (((d2.aq.getD i default)).draw))) (fun ni=> ?_) (fun ni=> ?_)
  ·exfalso;simp[y8X,KX,y5Q] at ni
  refine .back [.r [(0,X (Xn ((i:Int)+1)))]] [(328,328),(400,400)] (AT ((i+1):Nat) ?_ ?_)
  ·omega
  exact tO
 exact .fin [.r []] []
theorem x5r(raw p q:List Int):FC Tryz.prog 3 [VL 1 bC raw,VL 1 bC p,VL 1 bC q] (app emp []) (VB true) (app emp []):=by
 have hN:UN vf:=Vj [] sM [] (fun v hv=>by cases hv);have hI:=KT hN rfl (s:=0) oM;have Pv:=KT hN rfl (s:=1) oM;have Pw:=KT hN rfl (s:=2) oM;obtain⟨d,a,b,da,db,d2,x,y,k0,hx,hk,h1,h2⟩:=w2Z true raw p q;exact x5q raw p q d a b da db d2 x y k0 _ _ _ hI (Vk hN) Pv Pw hk h1 h2 hN.toUB hx
end Go.Ch
end
section
namespace Go.Proofs.YtipofpnmgbaopaaGreatDoor.frame
open Go Go.Proofs
def rm(l:List Nat):List Char:=l.map Char.ofNat
def w1:List Char:=rm [104,97,114,110,101,115,115]
def w2:List Char:=rm [100,50,51,56,102,97,49,101,100,56,100,100,53,98,101,97,52,97,50,48,50,97,51,57,57,101,98,56,98,50,54,51,102,102,48,102,50,57,54,100,55,102,55,50,99,98,56,102,56,49,100,98,100,55,55,101,97,54,98,56,98,49,51,51]
def w3:List Char:=rm [99,117,116]
def sp:Char:=Char.ofNat 32
theorem w15(r:List Char):wordsSigns (sp::r)=[]::wordsSigns r:=rfl
theorem w20(c:Char)(r:List Char)(h:c≠sp):wordsSigns (c::r)=match wordsSigns r with
 |w::ws=>(c::w)::ws
 | []=>[[c]]:=by
 rw[wordsSigns.eq_def];split
 ·rename_i e;cases e
 ·rename_i e;simp only[List.cons.injEq] at e;exact absurd e.1 h
 rename_i e;simp only[List.cons.injEq] at e;obtain⟨rfl,rfl⟩:=e;rfl
theorem KY:∀(a:List Char),(a.all fun c=>c !=sp)=true->∀r,wordsSigns (a++sp::r)=a::wordsSigns r
 | [],_,r=>w15 r
 |c::a,h,r=>by
  simp only[List.all_cons,Bool.and_eq_true,bne_iff_ne] at h;rw[List.cons_append,w20 _ _ h.1,KY a h.2 r]
theorem tl(l:List Char):(String.ofList l).toList=l:=String.toList_ofList
theorem k1:("harness" :String).toList=w1:=tl w1
theorem k2:("cut" :String).toList=w3:=tl w3
theorem k3:("gc" :String).toList=rm [103,99]:=tl (rm [103,99])
theorem k4:("spec" :String).toList=rm [115,112,101,99]:=tl (rm [115,112,101,99])
theorem k5:("carried" :String).toList=rm [99,97,114,114,105,101,100]:=tl (rm [99,97,114,114,105,101,100])
theorem Vt(r:List (List Char)):stripLifts liftWords (w3::r)=([],w3::r):=by
 unfold liftWords;simp only[stripLifts];have key:∀l:List Nat,(w3==rm l)=false->∀(s:String),s=String.ofList (rm l)->(w3==s.toList)=false:=fun l h s e=>by rw[e,tl];exact h
 rw[if_neg (by rw[key [102,105,110,97,108,115] (by kernel_rfl) "finals" rfl];decide)];rw[if_neg (by rw[key [114,101,102,108,101,99,116,114,111,119,115] (by kernel_rfl) "reflectrows" rfl];decide)];rw[if_neg (by rw[key [108,101,97,110,114,111,119,115] (by kernel_rfl) "leanrows" rfl];decide)];rw[if_neg (by rw[key [111,110,101,98,117,105,108,100] (by kernel_rfl) "onebuild" rfl];decide)];rw[if_neg (by rw[key [112,117,98,108,105,99,115,117,109,115] (by kernel_rfl) "publicsums" rfl];decide)];rw[if_neg (by rw[key [101,113,103,117,97,114,100] (by kernel_rfl) "eqguard" rfl];decide)];rw[if_neg (by rw[key [111,119,110,117,110,115,97,102,101] (by kernel_rfl) "ownunsafe" rfl];decide)];rw[if_neg (by rw[key [108,105,98,98,101,115,105,100,101] (by kernel_rfl) "libbeside" rfl];decide)];rw[if_neg (by rw[key [111,119,110,98,101,115,105,100,101] (by kernel_rfl) "ownbeside" rfl];decide)];rw[if_neg (by rw[key [114,101,102,108,98,101,115,105,100,101] (by kernel_rfl) "reflbeside" rfl];decide)];rw[if_neg (by rw[key [97,108,105,97,115,101,115] (by kernel_rfl) "aliases" rfl];decide)];rw[if_neg (by rw[key [97,102,116,101,114,105,110,105,116] (by kernel_rfl) "afterinit" rfl];decide)];rw[if_neg (by rw[key [99,114,99,112,108,97,105,110] (by kernel_rfl) "crcplain" rfl];decide)];rw[if_neg (by rw[key [114,111,97,100,117,110,115,97,102,101] (by kernel_rfl) "roadunsafe" rfl];decide)];rw[if_neg (by rw[key [102,109,116,104,97,110,100,111,110] (by kernel_rfl) "fmthandon" rfl];decide)]
theorem Py{P:Program}{rest:List Char}(h:P.initOrder.toList=w1++sp::(w2++sp::(w3++sp::rest))):behindMainWord (wordsSigns P.initOrder.toList)=w3::wordsSigns rest:=by
 rw[h,KY w1 (by kernel_rfl),KY w2 (by kernel_rfl),KY w3 (by kernel_rfl)];unfold behindMainWord;rw[k1];exact if_pos (by kernel_rfl)
theorem may{P:Program}{rest:List Char}(h:P.initOrder.toList=w1++sp::(w2++sp::(w3++sp::rest)))(hl:P.laysLater=false)(hb:P.bearsReflect=false)(hd:P.doorFits []=true):P.mayEnter=true:=by
 unfold Program.mayEnter;rw[Py h];simp only[Vt,k2,k3,k4,k5,hl,hb,hd];have h1:(w3==rm [103,99])=false:=by kernel_rfl
 have h2:(w3==rm [115,112,101,99])=false:=by kernel_rfl
 have h3:(w3==rm [99,97,114,114,105,101,100])=false:=by kernel_rfl
 rw[h1,h2,h3];simp
theorem fin{P:Program}{rest:List Char}(h:P.initOrder.toList=w1++sp::(w2++sp::(w3++sp::rest))):P.liftsFinal=false:=by
 unfold Program.liftsFinal Program.headLifts;rw[Py h];simp only[Vt,k2,k5];have h3:(w3==rm [99,97,114,114,105,101,100])=false:=by kernel_rfl
 simp[h3]
theorem mk{P:Program}{rest:List Char}(h:P.initOrder.toList=w1++sp::(w2++sp::(w3++sp::rest))):P.make=some .cut:=by
 unfold Program.make;rw[Py h];simp only[k2,k3,k4,k5];have h1:(w3==rm [103,99])=false:=by kernel_rfl
 have h2:(w3==rm [115,112,101,99])=false:=by kernel_rfl
 rw[h1,h2];simp
theorem head:Tryz.pinned.checked.prog.initOrder=String.ofList (w1++sp::(w2++sp::(w3++sp::rm [97,116,32,99,104,97,110,99,101,114,121,47,99,104,97,110,99,101,114,121,107,101,101,112,49,46,69,100,105,116,80,97,105,114,65,112,112,108,105,101,115]))):=by kernel_rfl
set_option maxRecDepth 100000 in
theorem Pz:Tryz.pinned.checked.prog.initOrder.toList=w1++sp::(w2++sp::(w3++sp::rm [97,116,32,99,104,97,110,99,101,114,121,47,99,104,97,110,99,101,114,121,107,101,101,112,49,46,69,100,105,116,80,97,105,114,65,112,112,108,105,101,115])):=by rw[head,tl]
theorem later:Tryz.pinned.checked.prog.laysLater=false:=by kernel_rfl
theorem refl:Tryz.pinned.checked.prog.bearsReflect=false:=by kernel_rfl
theorem w21:Tryz.pinned.checked.prog.doorFits []=true:=by kernel_rfl
theorem mayEnter:Tryz.pinned.checked.prog.mayEnter=true:=may Pz later refl w21
theorem made:Tryz.pinned.checked.prog.make=some .cut:=mk Pz
theorem laid:laidOutB Tryz.pinned.checked.prog=true:=by kernel_rfl
theorem HZ:mapsRowed Tryz.pinned.checked.prog=true:=by kernel_rfl
theorem AU:Tryz.pinned.checked.prog.stops=[]:=by kernel_rfl
theorem AV:Tryz.pinned.checked.prog.stopKnobs=[]:=by kernel_rfl
theorem heard:Tryz.pinned.checked.prog.stopsHeard=true:=by kernel_rfl
theorem keys:Tryz.pinned.checked.prog.plainKeys=true:=by kernel_rfl
theorem AW:Tryz.pinned.checked.prog.liftsFinal=false:=fin Pz
end Go.Proofs.YtipofpnmgbaopaaGreatDoor.frame
end
section
namespace Go.Proofs
open Go.Shelf
def Tryz.mu:Go.Shelf.Ren:=⟨fun|260=>194|n=>n,fun|9=>9|21=>21|3=>3|4=>4|5=>5|119=>312|0=>0|46=>221|139=>315|138=>314|n=>n,fun|3=>0|4=>1|n=>n⟩
theorem Tryz.AX:Go.Proofs.Lays.n260 Tryz.prog Tryz.mu:={
 mixed:=by kernel_rfl
 f260:=Tryz.func194.trans (congrArg some (by kernel_rfl))
 t0:=Tryz.underlying0
 a0:=Tryz.isAgg0
 z0:=Tryz.sizeOf0
 v0:=Tryz.zeroValue0
 t3:=Tryz.underlying3
 a3:=Tryz.isAgg3
 z3:=Tryz.sizeOf3
 v3:=Tryz.zeroValue3
 t4:=Tryz.underlying4
 a4:=Tryz.isAgg4
 z4:=Tryz.sizeOf4
 v4:=Tryz.zeroValue4
 t5:=Tryz.underlying5
 a5:=Tryz.isAgg5
 z5:=Tryz.sizeOf5
 v5:=Tryz.zeroValue5
 t9:=Tryz.underlying9
 a9:=Tryz.isAgg9
 z9:=Tryz.sizeOf9
 v9:=Tryz.zeroValue9
 t21:=Tryz.underlying21
 a21:=Tryz.isAgg21
 z21:=Tryz.sizeOf21
 v21:=Tryz.zeroValue21
 t46:=Tryz.underlying221
 a46:=Tryz.isAgg221
 z46:=Tryz.sizeOf221
 v46:=Tryz.zeroValue221
 t119:=Tryz.underlying312
 a119:=Tryz.isAgg312
 z119:=Tryz.sizeOf312
 t138:=Tryz.underlying314
 a138:=Tryz.isAgg314
 z138:=Tryz.sizeOf314
 v138:=Tryz.zeroValue314
 t139:=Tryz.underlying315
 a139:=Tryz.isAgg315
 z139:=Tryz.sizeOf315
 v139:=Tryz.zeroValue315
 g3:=by kernel_rfl
 g4:=by kernel_rfl}
end Go.Proofs
end
