/- Documents: what the checks and the document's answers compute, in plain Lean. -/
import Derived.Test.YtnlggoddkiiblaaGreatDoorM1
import Derived.Test.YtnlggoddkiiblaaGreatDoorM2
import Derived.Test.YtnlggoddkiiblaaGreatDoorM3
import Derived.Test.YtnlggoddkiiblaaGreatDoorM4
import Derived.Test.YtnlggoddkiiblaaGreatDoorM5
import Derived.Test.YtnlggoddkiiblaaGreatDoorM6
import Derived.Test.YtnlggoddkiiblaaGreatDoorM7
import Derived.Lib.SlicesCompact
set_option linter.unusedVariables false
set_option linter.unusedSimpArgs false
section
namespace Go.Ch
open Go Go.Ab
structure Node where
 id:Int
 kind:Int
 attrs:List Attr
 flow:List Elem
 grid:Grid
 draw:List DOp
instance:Inhabited Node:=⟨⟨0,0,[],[],default,[]⟩⟩
def nodeT(n:Node):Tree:= .agg [TI n.id,TI n.kind,.lst 2 (n.attrs.map attrT),.lst 3 (n.flow.map elemT),TI n.grid.rows,TI n.grid.cols,.lst 5 (n.grid.cells.map cellT),.lst 4 (n.grid.merges.map rectT),.lst 8 (n.draw.map dopT)]
structure Doc where
 nodes:List Node
instance:Inhabited Doc:=⟨⟨[]⟩⟩
def docT(d:Doc):Tree:= .agg [.lst 9 (d.nodes.map nodeT)]
def hasT(k:Int):Bool:=((k==1||k==3)||k==4)||k==12
def hasL(k:Int):Bool:=k==0||k==7
def hasG(k:Int):Bool:=k==2||k==6
def hasD(k:Int):Bool:=(k==8||k==9)||k==10
def zeroG(g:Grid):Bool:=((g.rows==0&&g.cols==0)&&(g.cells.length:Int)==0)&&(g.merges.length:Int)==0
def permB(p k:Int):Bool:=
 if k=1\/k=6\/k=7\/k=11\/k=12 then p==0
 else if k=10 then(p==0||p==1)||p==3
 else if k=2 then p==1
 else if k=4 then p==1||p==3
 else if k=5 then hasT p
 else if k=3 then p==2
 else if k=8\/k=9 then p==7
 else false
def flowX(t:Bool)(f:List Elem)(i:Nat):Int:=
 if i<f.length then
  (if elemE (f.getD i default)≠0 then elemE (f.getD i default) else if t=false/\(f.getD i default).ref=0 then 8 else flowX t f (i+1))
 else 0
termination_by f.length-i
def flowZ(t:Bool)(f:List Elem):Int:=
 if flowX t f 0≠0 then flowX t f 0 else if t=true/\(f.length=0\/(f.getD (f.length- 1) default).char≠10) then 11 else 0
theorem z9t{t:Bool}{f:List Elem}{i:Nat}(h:i<f.length)(he:elemE (f.getD i default)≠0):flowX t f i=elemE (f.getD i default):=by rw[flowX,if_pos h,if_pos he]
theorem z7b{t:Bool}{f:List Elem}{i:Nat}(h:i<f.length)(he:elemE (f.getD i default)=0)(hk:t=false/\(f.getD i default).ref=0):flowX t f i=8:=by rw[flowX,if_pos h,if_neg (fun q=>q he),if_pos hk]
theorem z7c{t:Bool}{f:List Elem}{i:Nat}(h:i<f.length)(he:elemE (f.getD i default)=0)(hk:t=true\/(f.getD i default).ref≠0):flowX t f i=flowX t f (i+1):=by
 rw[flowX,if_pos h,if_neg (fun q=>q he),if_neg]
 rintro⟨a,b⟩;rcases hk with q|q
 ·rw[a] at q;cases q
 ·exact q b
theorem z9u{t:Bool}{f:List Elem}{i:Nat}(h:¬i<f.length):flowX t f i=0:=by rw[flowX,if_neg h]
theorem z6v{t:Bool}{f:List Elem}{e:Int}(h:flowX t f 0=e)(he:e≠0):flowZ t f=e:=by unfold flowZ;rw[h,if_pos he]
theorem z4G{t:Bool}{f:List Elem}(h:flowX t f 0=0):flowZ t f=if t=true/\(f.length=0\/(f.getD (f.length- 1) default).char≠10) then 11 else 0:=by unfold flowZ;rw[h,if_neg (fun q=>q rfl)]
def cellK(k:Int)(l:List Cell)(i:Nat):Int:=
 if i<l.length then
  (if(k=2/\(seq (l.getD i default).text {data:=#[]}=false\/0< (l.getD i default).attrs.length))\/(k=6/\(l.getD i default).ref≠0) then 4 else cellK k l (i+1))
 else 0
termination_by l.length-i
def nodeE(n:Node):Int:=
 if n.id<1\/1073741824<n.id then 2
 else if n.kind<0\/12<n.kind\/(n.id=1/\n.kind≠0)\/(n.id≠1/\n.kind=0) then 8
 else if chkA false n.attrs 0≠0 then chkA false n.attrs 0
 else if(0<n.flow.length/\hasT n.kind=false/\hasL n.kind=false)\/(zeroG n.grid=false/\hasG n.kind=false)\/(0<n.draw.length/\hasD n.kind=false) then 4
 else if hasT n.kind=true\/hasL n.kind=true then flowZ (hasT n.kind) n.flow
 else if hasG n.kind=true then(if gridE n.grid≠0 then gridE n.grid else cellK n.kind n.grid.cells 0)
 else drawE n.draw 0
def findD(l:List Node)(k:Int)(i:Nat):Int:=if i<l.length then(if(l.getD i default).id=k then(i:Int) else findD l k (i+1)) else-1
termination_by l.length-i
def refsF(f:List Elem):List Int:=f.filterMap fun x=>if x.ref≠0 then some x.ref else none
def refsC(l:List Cell):List Int:=l.filterMap fun x=>if x.ref≠0 then some x.ref else none
def refsN(n:Node):List Int:=refsF n.flow++refsC n.grid.cells
def refsE(l:List Node)(k:Int)(rs:List Int)(i:Nat):Int:=
 if i<rs.length then
  (if findD l (rs.getD i default) 0<0 then 7
   else if permB k (l.getD (findD l (rs.getD i default) 0).toNat default).kind=false then 8
   else refsE l k rs (i+1))
 else 0
termination_by rs.length-i
def z1f(l:List Node)(i:Nat):Int:=
 if i<l.length then
  (if nodeE (l.getD i default)≠0 then nodeE (l.getD i default)
   else if(i=0/\(l.getD 0 default).id≠1)\/(0<i/\(l.getD i default).id<=(l.getD (i- 1) default).id) then 5
   else z1f l (i+1))
 else 0
termination_by l.length-i
def z0X(l:List Node)(i:Nat):Int:=
 if i<l.length then
  (if refsE l (l.getD i default).kind (refsN (l.getD i default)) 0≠0 then refsE l (l.getD i default).kind (refsN (l.getD i default)) 0 else z0X l (i+1))
 else 0
termination_by l.length-i
def docE(d:Doc):Int:=
 if d.nodes.length=0 then 11
 else if z1f d.nodes 0≠0 then z1f d.nodes 0
 else z0X d.nodes 0
theorem y20{l:List Node}{i:Nat}(h:i<l.length)(he:nodeE (l.getD i default)≠0):z1f l i=nodeE (l.getD i default):=by rw[z1f,if_pos h,if_pos he]
theorem y21{l:List Node}{i:Nat}(h:i<l.length)(he:nodeE (l.getD i default)=0)(ho:(i=0/\(l.getD 0 default).id≠1)\/(0<i/\(l.getD i default).id<=(l.getD (i- 1) default).id)):z1f l i=5:=by rw[z1f,if_pos h,if_neg (fun q=>q he),if_pos ho]
theorem y0E{l:List Node}{i:Nat}(h:i<l.length)(he:nodeE (l.getD i default)=0)(ho:¬((i=0/\(l.getD 0 default).id≠1)\/(0<i/\(l.getD i default).id<=(l.getD (i- 1) default).id))):z1f l i=z1f l (i+1):=by rw[z1f,if_pos h,if_neg (fun q=>q he),if_neg ho]
theorem z40{l:List Node}{i:Nat}(h:¬i<l.length):z1f l i=0:=by rw[z1f,if_neg h]
theorem y6T{l:List Node}{i:Nat}(h:i<l.length)(he:refsE l (l.getD i default).kind (refsN (l.getD i default)) 0≠0):z0X l i=refsE l (l.getD i default).kind (refsN (l.getD i default)) 0:=by rw[z0X,if_pos h,if_pos he]
theorem y40{l:List Node}{i:Nat}(h:i<l.length)(he:refsE l (l.getD i default).kind (refsN (l.getD i default)) 0=0):z0X l i=z0X l (i+1):=by rw[z0X,if_pos h,if_neg (fun q=>q he)]
theorem y6U{l:List Node}{i:Nat}(h:¬i<l.length):z0X l i=0:=by rw[z0X,if_neg h]
theorem z7d{d:Doc}(h:d.nodes.length=0):docE d=11:=by unfold docE;rw[if_pos h]
theorem z9v{d:Doc}(h:¬d.nodes.length=0){e:Int}(he:z1f d.nodes 0=e)(hn:e≠0):docE d=e:=by unfold docE;rw[if_neg h,he,if_pos hn]
theorem z9w{d:Doc}(h:¬d.nodes.length=0){e:Int}(he:z1f d.nodes 0=0)(hr:z0X d.nodes 0=e):docE d=e:=by unfold docE;rw[if_neg h,he,if_neg (fun q=>q rfl),hr]
theorem y22{l:List Node}{k:Int}{rs:List Int}{i:Nat}(h:i<rs.length)(he:findD l (rs.getD i default) 0<0):refsE l k rs i=7:=by rw[refsE,if_pos h,if_pos he]
theorem y23{l:List Node}{k:Int}{rs:List Int}{i:Nat}(h:i<rs.length)(he:0<=findD l (rs.getD i default) 0)(hp:permB k (l.getD (findD l (rs.getD i default) 0).toNat default).kind=false):refsE l k rs i=8:=by rw[refsE,if_pos h,if_neg (by omega),if_pos hp]
theorem y24{l:List Node}{k:Int}{rs:List Int}{i:Nat}(h:i<rs.length)(he:0<=findD l (rs.getD i default) 0)(hp:permB k (l.getD (findD l (rs.getD i default) 0).toNat default).kind=true):refsE l k rs i=refsE l k rs (i+1):=by rw[refsE,if_pos h,if_neg (by omega),if_neg (by rw[hp];decide)]
theorem y41{l:List Node}{k:Int}{rs:List Int}{i:Nat}(h:¬i<rs.length):refsE l k rs i=0:=by rw[refsE,if_neg h]
structure NodeB(n:Node):Prop where
 at1:Szd n.attrs
 at2:n.attrs.length<=1048576
 fl1:SzE n.flow
 fl2:n.flow.length<=1048576
 fl3:∀x∈n.flow,x.attrs.length<=1048576
 ce1:SzC n.grid.cells
 ce2:n.grid.cells.length<=1048576
 ce3:∀c∈n.grid.cells,c.attrs.length<=1048576
 me:n.grid.merges.length<=1048576
 dr1:n.draw.length<=1048576
 dr2:∀o∈n.draw,o.plc.size<=1048576/\o.nm.size<=1048576/\o.vl.size<=1048576
def lenN(n:Node):Nat:=n.flow.length+n.grid.cells.length+n.draw.length
def lensN(l:List Node):Nat:=(l.map lenN).sum
structure DocB(d:Doc):Prop where
 len:d.nodes.length<=1048576
 all:∀n∈d.nodes,NodeB n
 sum:lensN d.nodes<=1048576
theorem z3x{l:List Node}{i:Nat}(h:i<l.length):l.getD i default∈l:=z0n h
theorem z4H{α β:Type}[Inhabited α]{l:List α}{i:Nat}(g:α->Option β)(h:i<l.length):(l.take (i+1)).filterMap g=(l.take i).filterMap g++(g (l.getD i default)).toList:=by
 have e:l.getD i default=l[i]:=by rw[qj,qa h];rfl
 rw[qD h,List.filterMap_append,e]
 congr 1
def SortN(l:List Node):Prop:=∀p q,p<q->q<l.length->(l.getD p default).id< (l.getD q default).id
def cmpN9(n:Node)(k:Int):Int:=if n.id<k then-1 else if n.id>k then 1 else 0
def lobN(l:List Node)(k:Int):Nat:=(l.takeWhile (fun n=>decide (n.id<k))).length
theorem z2z:∀(l:List Node) (k:Int),lobN l k<=l.length/\(∀i,i<lobN l k->(l.getD i default).id<k)/\(lobN l k<l.length->¬(l.getD (lobN l k) default).id<k)
 | [],k=>⟨qp _,fun i hi=>absurd hi (by simp[lobN]),fun h=>absurd h (by simp[lobN])⟩
 |c::l,k=>by
  obtain⟨h1,h2,h3⟩:=z2z l k
  by_cases hc:c.id<k
  ·have e:lobN (c::l) k=lobN l k+1:=by unfold lobN;rw[List.takeWhile_cons,if_pos (decide_eq_true hc)];rfl
   rw[e]
   refine⟨by simp;omega,fun i hi=> ?_,fun h=> ?_⟩
   ·cases i with
    |zero=>exact hc
    |succ i=>exact h2 i (by omega)
   ·exact h3 (by simpa using h)
  ·have e:lobN (c::l) k=0:=by unfold lobN;rw[List.takeWhile_cons,if_neg (by simpa using hc)];rfl
   rw[e]
   exact⟨qp _,fun i hi=>absurd hi (by omega),fun _=>hc⟩
theorem y42{l:List Node}{k:Int}{m:Nat}(hs:SortN l)(hm:m<l.length)(h:(l.getD m default).id<k):m<lobN l k:=by
 obtain⟨h1,h2,h3⟩:=z2z l k
 apply qk;intro q
 have h4:=h3 (by omega)
 by_cases e:lobN l k=m
 ·rw[e] at h4;exact h4 h
 ·have h5:=hs (lobN l k) m (by omega) hm
  omega
theorem y0F{l:List Node}{k:Int}{m:Nat}(h:¬(l.getD m default).id<k):lobN l k<=m:=by
 obtain⟨h1,h2,h3⟩:=z2z l k
 apply qk;intro q
 exact h (h2 m (by omega))
def hasN(l:List Node)(k:Int):Bool:=decide ((lobN l k:Int)< (l.length:Int))&&(cmpN9 (l.getD (lobN l k) default) k==0)
theorem y18{n:Node}{k:Int}:cmpN9 n k<0↔n.id<k:=by unfold cmpN9;split<;>(try split)<;>omega
theorem y6V{n:Node}{k:Int}:cmpN9 n k=0↔n.id=k:=by unfold cmpN9;split<;>(try split)<;>omega
theorem z03{l:List Node}{k:Int}:hasN l k=true↔lobN l k<l.length/\(l.getD (lobN l k) default).id=k:=by
 unfold hasN;rw[qd,decide_eq_true_eq,beq_iff_eq,y6V];omega
theorem z3y(l:List Node)(k:Int):∀(n i:Nat),l.length-i=n->(findD l k i= -1/\∀j,i<=j->j<l.length->(l.getD j default).id≠k)\/∃j:Nat,findD l k i=j/\i<=j/\j<l.length/\(l.getD j default).id=k
 |0,i,h=>by rw[findD,if_neg (by omega)];exact .inl ⟨rfl,fun j h1 h2=>by omega⟩
 |n+1,i,h=>by
  have hi:i<l.length:=by omega
  rw[findD,if_pos hi]
  by_cases e:(l.getD i default).id=k
  ·rw[if_pos e];exact .inr ⟨i,rfl,qr _,hi,e⟩
  ·rw[if_neg e]
   rcases z3y l k n (i+1) (by omega) with⟨a,b⟩| ⟨j,a,b,c,d⟩
   ·refine .inl ⟨a,fun j h1 h2=> ?_⟩
    by_cases q:j=i
    ·subst q;exact e
    ·exact b j (by omega) h2
   ·exact .inr ⟨j,a,by omega,c,d⟩
theorem y6W{l:List Node}{k:Int}(hs:SortN l)(h:hasN l k=true):findD l k 0=(lobN l k:Int):=by
 obtain⟨h1,h2⟩:=z03.1 h
 rcases z3y l k _ 0 rfl with⟨a,b⟩| ⟨j,a,b,c,d⟩
 ·exact absurd h2 (b _ (qp _) h1)
 ·rw[a]
  rcases Nat.lt_trichotomy j (lobN l k) with q|q|q
  ·have:=hs j _ q h1;omega
  ·rw[q]
  ·have:=hs _ j q c;omega
theorem y8M{l:List Node}{k:Int}(hs:SortN l)(h:hasN l k=false):findD l k 0<0:=by
 rcases z3y l k _ 0 rfl with⟨a,b⟩| ⟨j,a,b,c,d⟩
 ·rw[a];decide
 ·exfalso
  have h1:=y0F (l:=l) (k:=k) (m:=j) (by omega)
  obtain⟨s1,s2,s3⟩:=z2z l k
  have h2:lobN l k=j:=by
   apply qk;intro q
   have:=hs (lobN l k) j (by omega) c
   exact s3 (by omega) (by omega)
  have:hasN l k=true:=z03.2 ⟨by omega,by rw[h2];exact d⟩
  rw[h] at this;cases this
theorem z3M{l:List Node}:∀(n i:Nat),l.length-i=n->z1f l i=0->(∀j,i<=j->j<l.length->nodeE (l.getD j default)=0)/\(∀j,i<=j->j<l.length->(j=0->(l.getD 0 default).id=1)/\(0<j->(l.getD (j- 1) default).id< (l.getD j default).id))
 |0,i,h,_=>⟨fun j h1 h2=>by omega,fun j h1 h2=>by omega⟩
 |n+1,i,h,he=>by
  have hi:i<l.length:=by omega
  rw[z1f,if_pos hi] at he
  by_cases h1:nodeE (l.getD i default)≠0
  ·rw[if_pos h1] at he;exact absurd he h1
  ·rw[if_neg h1] at he
   split at he
   ·cases he
   ·rename_i h2
    obtain⟨a,b⟩:=z3M n (i+1) (by omega) he
    refine⟨fun j q1 q2=> ?_,fun j q1 q2=> ?_⟩
    ·by_cases q:j=i
     ·subst q;exact qk h1
     ·exact a j (by omega) q2
    ·by_cases q:j=i
     ·subst q
      exact⟨fun q3=>by omega,fun q3=>by omega⟩
     ·exact b j (by omega) q2
theorem y0G{l:List Node}(h:z1f l 0=0):SortN l:=by
 have h2:=(z3M _ 0 rfl h).2
 have key:∀d p,p+d+1<l.length->(l.getD p default).id< (l.getD (p+d+1) default).id:=by
  intro d
  induction d with
  |zero=>intro p hp;have:=(h2 (p+1) (qp _) hp).2 (by omega);rwa [show p+1- 1=p by omega] at this
  |succ d ih=>
   intro p hp
   have h3:=ih p (by omega)
   have h4:=(h2 (p+(d+1)+1) (qp _) hp).2 (by omega)
   rw[show p+(d+1)+1- 1=p+d+1 by omega] at h4
   omega
 intro p q hpq hq
 have:=key (q-p- 1) p (by omega)
 rwa [show p+(q-p- 1)+1=q by omega] at this
def NoTx(l:List Cell):Prop:=∀c∈l,c.text.size=0
structure LiteE(e:GEd):Prop where
 sp:e.split.length=0
 me:e.merge.length=0
 tx:NoTx e.cells
 ln:e.cells.length<=1048576
def fitsE(x:Grid)(e:GEd):Int:=if gridE x≠0 then gridE x else if edE e≠0 then edE e else fitE x e
def fitM(x:Grid)(e:GEd):Int:=if fitsE x e≠0 then 0 else nwS x.rows e.rows
def fitN(x:Grid)(e:GEd):Int:=if fitsE x e≠0 then 0 else nwS x.cols e.cols
theorem y19{x:Grid}{e:GEd}{k:Int}(h:fitsE x e=k)(hk:k≠0):fitM x e=0/\fitN x e=0/\fitsE x e=k:=by
 unfold fitM fitN
 rw[h,if_pos hk,if_pos hk];exact⟨rfl,rfl,rfl⟩
theorem y9W{x:Grid}{e:GEd}(h:gridE x≠0):fitM x e=0/\fitN x e=0/\fitsE x e=gridE x:=y19 (by unfold fitsE;rw[if_pos h]) h
theorem y9X{x:Grid}{e:GEd}(h:gridE x=0)(h2:edE e≠0):fitM x e=0/\fitN x e=0/\fitsE x e=edE e:=y19 (by unfold fitsE;rw[if_neg (fun q=>q h),if_pos h2]) h2
theorem y9Y{x:Grid}{e:GEd}(h:gridE x=0)(h2:edE e=0)(h3:¬(0<e.rows.length->oldI e.rows=x.rows)\/¬(0<e.cols.length->oldI e.cols=x.cols)):fitM x e=0/\fitN x e=0/\fitsE x e=14:=
 y19 (by
  unfold fitsE fitE
  rw[if_neg (fun q=>q h),if_neg (fun q=>q h2)]
  split
  ·rfl
  ·rename_i q
   rw[if_pos]
   rcases h3 with z|z
   ·exact absurd (fun a=>qk fun b=>q ⟨a,b⟩) z
   ·exact qk fun w=>z (fun a=>qk fun b=>w ⟨a,b⟩)) (by decide)
theorem y71{x:Grid}{e:GEd}(h:gridE x=0)(h2:edE e=0)(h3:(0<e.rows.length->oldI e.rows=x.rows)/\(0<e.cols.length->oldI e.cols=x.cols))(q1:e.split.length=0)(q2:e.merge.length=0):fitsE x e=celF e.cells (nwS x.rows e.rows) (nwS x.cols e.cols) 0:=by
 have i1:insQE e.split (nwS x.rows e.rows) (nwS x.cols e.cols) 0=0:=by rw[insQE,if_neg (by omega)]
 have i2:insQE e.merge (nwS x.rows e.rows) (nwS x.cols e.cols) 0=0:=by rw[insQE,if_neg (by omega)]
 unfold fitsE fitE
 rw[if_neg (fun q=>q h),if_neg (fun q=>q h2),if_neg (fun q=>q.2 (h3.1 q.1)),if_neg (fun q=>q.2 (h3.2 q.1)),i1,i2]
 split
 ·rfl
 ·rename_i q
  rw[if_neg (fun z=>z rfl)]
  exact(qk q).symm
theorem y9Z{x:Grid}{e:GEd}(h:gridE x=0)(h2:edE e=0)(h3:(0<e.rows.length->oldI e.rows=x.rows)/\(0<e.cols.length->oldI e.cols=x.cols))(q1:e.split.length=0)(q2:e.merge.length=0)(hc:celF e.cells (nwS x.rows e.rows) (nwS x.cols e.cols) 0=2):fitM x e=0/\fitN x e=0/\fitsE x e=2:=
 y19 ((y71 h h2 h3 q1 q2).trans hc) (by decide)
theorem y90{x:Grid}{e:GEd}(h:gridE x=0)(h2:edE e=0)(h3:(0<e.rows.length->oldI e.rows=x.rows)/\(0<e.cols.length->oldI e.cols=x.cols))(q1:e.split.length=0)(q2:e.merge.length=0)(hc:celF e.cells (nwS x.rows e.rows) (nwS x.cols e.cols) 0=0):fitM x e=nwS x.rows e.rows/\fitN x e=nwS x.cols e.cols/\fitsE x e=0:=by
 have e0:=(y71 h h2 h3 q1 q2).trans hc
 unfold fitM fitN
 rw[e0,if_neg (fun q=>q rfl),if_neg (fun q=>q rfl)]
 exact⟨rfl,rfl,rfl⟩
def rawT(g:Grid)(e:GEd):Grid:=⟨nwS g.rows e.rows,nwS g.cols e.cols,putL e.cells (movL g.cells e.rows e.cols),[]⟩
structure RawT(g:Grid)(e:GEd):Prop where
 vr:0<e.rows.length->Valid e.rows
 vk:0<e.cols.length->Valid e.cols
 l1:g.cells.length<=1048576
 l2:e.cells.length<=1048576
 a1:CAN 1000000000000 g.cells
 a2:CAN 1000000000000 e.cells
 p1:∀c∈g.cells,PIn e.rows c.row
 p2:∀c∈g.cells,PIn e.cols c.col
 q1:g.merges.length=0
 q2:e.merge.length=0
theorem y2a{l:List Cell}{m n:Int}{o:Bool}:∀(k i:Nat),l.length-i=k->z0O l m n o i=0->∀j,i<=j->j<l.length->cellE (l.getD j default) m n o=0
 |0,i,h,_,j,h1,h2=>by omega
 |k+1,i,h,h0,j,h1,h2=>by
  rw[z0O,if_pos (by omega)] at h0
  split at h0
  ·rename_i q;exact absurd h0 q
  ·rename_i q
   split at h0
   ·cases h0
   ·by_cases e:i=j
    ·rw[<-e];exact qk q
    ·exact y2a k (i+1) (by omega) h0 j (by omega) h2
theorem y25{x:Grid}(h:gridE x=0):∀c∈x.cells,0<=c.row/\c.row<x.rows/\0<=c.col/\c.col<x.cols:=by
 have hc:z0O x.cells x.rows x.cols false 0=0:=by
  unfold gridE at h
  split at h
  ·cases h
  ·split at h
   ·rename_i q;exact absurd h q
   ·rename_i q;exact qk q
 intro c hm
 obtain⟨j,hj,rfl⟩:=z0R hm
 have:=y2a _ 0 rfl hc j (qp _) hj
 unfold cellE at this
 split at this
 ·cases this
 ·omega
theorem RawT.of{x:Grid}{e:GEd}(h:fitsE x e=0)(hm:x.merges=[])(hl:LiteE e)(l1:x.cells.length<=1048576)(l2:e.cells.length<=1048576)(a1:∀c∈x.cells,c.attrs.length<=1048576)(a2:∀c∈e.cells,c.attrs.length<=1048576):RawT x e:=by
 unfold fitsE at h
 split at h
 ·rename_i q;exact absurd h q
 rename_i q
 have hg:gridE x=0:=qk q
 split at h
 ·rename_i q;exact absurd h q
 rename_i q
 have he:edE e=0:=qk q
 have ho:=y4Z he
 have hf:=y8K h
 have hc:=y25 hg
 refine⟨fun _=>ho.okr,fun _=>ho.okc,l1,l2,fun c h=>by have:=a1 c h;omega,fun c h=>by have:=a2 c h;omega,fun c hm hp=>⟨ho.okr,?_⟩,fun c hm hp=>⟨ho.okc,?_⟩,by rw[hm];rfl,hl.me⟩
 ·have:=hc c hm;have:=hf.rows hp;omega
 ·have:=hc c hm;have:=hf.cols hp;omega
structure EOp where
 kind:Int
 node:Int
 nw:Node
 attrs:List Attr
 steps:List DStep
 grid:GEd
 draw:List DOp
instance:Inhabited EOp:=⟨⟨0,0,default,[],[],default,[]⟩⟩
def eopT(o:EOp):Tree:= .agg [TI o.kind,TI o.node,TI o.nw.id,TI o.nw.kind,.lst 2 (o.nw.attrs.map attrT),.lst 3 (o.nw.flow.map elemT),TI o.nw.grid.rows,TI o.nw.grid.cols,.lst 5 (o.nw.grid.cells.map cellT),.lst 4 (o.nw.grid.merges.map rectT),.lst 8 (o.nw.draw.map dopT),
 .lst 2 (o.attrs.map attrT),.lst 4 (o.steps.map z0c),.lst 2 (o.grid.rows.map stepT),.lst 2 (o.grid.cols.map stepT),.lst 5 (o.grid.cells.map cellT),.lst 4 (o.grid.split.map rectT),.lst 4 (o.grid.merge.map rectT),.lst 8 (o.draw.map dopT)]
def z0K(n:Node):Bool:=((((n.id==0&&n.kind==0)&&sameL n.attrs [])&&((n.flow.length:Int)==0))&&zeroG n.grid)&&((n.draw.length:Int)==0)
def anyG(g:GEd):Bool:=decide ((g.rows.length:Int)+(g.cols.length:Int)+(g.cells.length:Int)+(g.split.length:Int)+(g.merge.length:Int)> 0)
def unuO(o:EOp):Bool:=
 (o.kind==0&&o.node !=0)|| (o.kind !=0&& !(z0K o.nw))|| (o.kind !=1&&decide ((o.attrs.length:Int)> 0))|| (o.kind !=2&&decide ((o.steps.length:Int)> 0))|| (o.kind !=3&&anyG o.grid)|| (o.kind !=4&&decide ((o.draw.length:Int)> 0))
def eopE(o:EOp):Int:=
 if o.kind<0\/4<o.kind then 8
 else if unuO o=true then 4
 else if o.kind=0 then nodeE o.nw
 else if o.node<1\/1073741824<o.node then 2
 else if o.kind=1 then chkA true o.attrs 0
 else if o.kind=2 then z0W o.steps
 else if o.kind=3 then edE o.grid
 else drawE o.draw 0
def eopsE(c:List EOp)(i:Nat):Int:=if i<c.length then(if eopE (c.getD i default)≠0 then eopE (c.getD i default) else eopsE c (i+1)) else 0
termination_by c.length-i
theorem y43{c:List EOp}{i:Nat}(h:i<c.length)(he:eopE (c.getD i default)≠0):eopsE c i=eopE (c.getD i default):=by rw[eopsE,if_pos h,if_pos he]
theorem y26{c:List EOp}{i:Nat}(h:i<c.length)(he:eopE (c.getD i default)=0):eopsE c i=eopsE c (i+1):=by rw[eopsE,if_pos h,if_neg (fun q=>q he)]
theorem y44{c:List EOp}{i:Nat}(h:¬i<c.length):eopsE c i=0:=by rw[eopsE,if_neg h]
def z1X{α:Type}(f:α->Int):List α->Int
 | []=>0
 |x::l=>if f x≠0 then f x else z1X f l
theorem z2S{α:Type}[Inhabited α](f:α->Int){l:List α}{i:Nat}(h:i<l.length):z1X f (l.drop i)=if f (l.getD i default)≠0 then f (l.getD i default) else z1X f (l.drop (i+1)):=by
 rw[show l.drop i=l.getD i default::l.drop (i+1) from by rw[zt h];simp[List.getD,qa h]];rfl
theorem z41{α:Type}(f:α->Int){l:List α}{i:Nat}(h:l.length<=i):z1X f (l.drop i)=0:=by rw[qT h];rfl
theorem z7e{α:Type}{f:α->Int}{l:List α}(h:∀x∈l,f x=0):z1X f l=0:=by
 induction l with
 |nil=>rfl
 |cons y l ih=>rw[z1X,if_neg (fun q=>q (h y List.mem_cons_self))];exact ih (fun x hx=>h x (qJ _ hx))
def newE(l:List Node)(k:Int)(x:Elem):Int:=if x.ref=0/\hasT k=false then 8 else refsE l k (refsF [x]) 0
def addsE(l:List Node)(k:Int)(s:List DStep):Int:=z1X (fun t:DStep=>z1X (newE l k) t.elems) s
def endsD(s:List DStep):Bool:=decide ((s.length:Int)> 0)&&((s.getD (s.length- 1) default).kind==0)
def z05(l:List Node)(n:Node)(s:List DStep):Int:=
 if hasT n.kind=false/\hasL n.kind=false then 8
 else if oldD s≠(n.flow.length:Int) then 14
 else if hasT n.kind=true/\endsD s=false then 4
 else addsE l n.kind s
def newC(l:List Node)(k:Int)(c:Cell):Int:=if c.ref=0 then 0 else refsE l k [c.ref] 0
def z1l(l:List Node)(n:Node)(g:GEd):Int:=
 if hasG n.kind=false then 8
 else if cellK n.kind g.cells 0≠0 then cellK n.kind g.cells 0
 else if fitsE n.grid g≠0 then fitsE n.grid g
 else z1X (newC l n.kind) g.cells
def insN(l:List Node)(n:Node):List Node:=l.take (lobN l n.id)++n::l.drop (lobN l n.id)
def adnE(l:List Node)(n:Node):Int:=if hasN l n.id=true then 6 else refsE l n.kind (refsN n) 0
def y2b(n:Node)(c:List DOp):Int:=if hasD n.kind=false then 8 else if(z0B n.draw c).isSome then 0 else 6
def oneE(l:List Node)(o:EOp):Int:=
 if o.kind=0 then adnE l o.nw
 else if hasN l o.node=false then 7
 else if o.kind=1 then 0
 else if o.kind=2 then z05 l (l.getD (lobN l o.node) default) o.steps
 else if o.kind=3 then z1l l (l.getD (lobN l o.node) default) o.grid
 else y2b (l.getD (lobN l o.node) default) o.draw
def oneN(n:Node)(o:EOp):Node:=
 if o.kind=1 then {n with attrs:=fm rawG n.attrs o.attrs}
 else if o.kind=2 then {n with flow:=rawD n.flow o.steps}
 else if o.kind=3 then {n with grid:=rawT n.grid o.grid}
 else {n with draw:=(z0B n.draw o.draw).getD []}
def oneL(l:List Node)(o:EOp):List Node:=
 if oneE l o≠0 then l else if o.kind=0 then insN l o.nw else l.set (lobN l o.node) (oneN (l.getD (lobN l o.node) default) o)
def runE:List Node->List EOp->Int
 |_,[]=>0
 |l,o::c=>if oneE l o≠0 then oneE l o else runE (oneL l o) c
def runL:List Node->List EOp->List Node
 |l,[]=>l
 |l,o::c=>runL (oneL l o) c
def appE(d:Doc)(c:List EOp):Int:=if docE d≠0 then docE d else if eopsE c 0≠0 then eopsE c 0 else runE d.nodes c
def appD(d:Doc)(c:List EOp):Doc:=if appE d c≠0 then⟨[]⟩ else⟨runL d.nodes c⟩
theorem z9x{c:List EOp}:∀(n i:Nat),c.length-i=n->(eopsE c i=0↔∀j,i<=j->j<c.length->eopE (c.getD j default)=0)
 |0,i,h=>by rw[eopsE,if_neg (by omega)];exact⟨fun _ j h1 h2=>by omega,fun _=>rfl⟩
 |n+1,i,h=>by
  have hi:i<c.length:=by omega
  rw[eopsE,if_pos hi]
  by_cases q:eopE (c.getD i default)≠0
  ·rw[if_pos q];exact⟨fun e=>absurd e q,fun e=>absurd (e i (qr _) hi) q⟩
  ·rw[if_neg q,z9x n (i+1) (by omega)]
   refine⟨fun e j h1 h2=> ?_,fun e j h1 h2=>e j (by omega) h2⟩
   by_cases z:j=i
   ·subst z;exact qk q
   ·exact e j (by omega) h2
theorem y6X{c:List EOp}:eopsE c 0=0↔∀o∈c,eopE o=0:=by
 rw[z9x _ 0 rfl]
 constructor
 ·intro h o ho
  obtain⟨j,hj,rfl⟩:∃j,j<c.length/\c.getD j default=o:=by
   obtain⟨j,hj,e⟩:=List.getElem_of_mem ho
   exact⟨j,hj,by simp[List.getD,hj,e]⟩
  exact h j (qp _) hj
 ·intro h j _ hj
  exact h _ (z0n hj)
def ixN(l:List Node)(k:Int):Int:=if hasN l k=true then(lobN l k:Int) else-1
theorem y0H{l:List Node}{k:Int}(h:hasN l k=true):ixN l k=(lobN l k:Int):=by unfold ixN;rw[if_pos h]
theorem y45{l:List Node}{k:Int}:0<=ixN l k↔hasN l k=true:=by
 unfold ixN;split
 ·rename_i h;exact⟨fun _=>h,fun _=>by omega⟩
 ·rename_i h;exact⟨fun q=>by omega,fun q=>absurd q h⟩
theorem y46{l:List Node}{k:Int}:ixN l k<0↔hasN l k=false:=by
 unfold ixN;split
 ·rename_i h;rw[h];exact⟨fun q=>by omega,fun q=>by cases q⟩
 ·rename_i h;exact⟨fun _=>by simpa using h,fun _=>by omega⟩
structure EopL(o:EOp):Prop where
 a:o.grid.rows.length<=1048576
 b:o.grid.cols.length<=1048576
 c:o.grid.cells.length<=1048576
 d:o.grid.split.length<=1048576
 e:o.grid.merge.length<=1048576
structure OpL(o:EOp):Prop where
 len:EopL o
 nb:NodeB o.nw
 nl:o.nw.grid.merges=[]/\NoTx o.nw.grid.cells
 at1:o.attrs.length<=1048576
 dn:DN 400000000000 o.steps
 gl:LiteE o.grid
 ga:∀c∈o.grid.cells,c.attrs.length<=1048576
 dr:o.draw.length<=1048576
structure DocL(d:Doc):Prop extends DocB d where
 lite:∀n∈d.nodes,n.grid.merges=[]/\NoTx n.grid.cells
def insR(l:List Node)(n:Node):List Node:=if adnE l n≠0 then l else insN l n
theorem ins_e{l:List Node}{n:Node}{k:Int}(h:adnE l n=k)(hk:k≠0):insR l n=l/\adnE l n=k:=by
 unfold insR;rw[h,if_pos hk];exact⟨rfl,rfl⟩
theorem ins_1{l:List Node}{n:Node}(h:hasN l n.id=true):insR l n=l/\adnE l n=6:=ins_e (by unfold adnE;rw[if_pos h]) (by decide)
theorem ins_f{l:List Node}{n:Node}(h:hasN l n.id=false):adnE l n=refsE l n.kind (refsN n) 0:=by unfold adnE;rw[if_neg (by rw[h];decide)]
theorem ins_2{l:List Node}{n:Node}(h:hasN l n.id=false)(h2:refsE l n.kind (refsN n) 0≠0):insR l n=l/\adnE l n=refsE l n.kind (refsN n) 0:=ins_e (ins_f h) h2
theorem ins_3{l:List Node}{n:Node}(h:hasN l n.id=false)(h2:refsE l n.kind (refsN n) 0=0)(h3:lobN l n.id=l.length):insR l n=l++[n]/\adnE l n=0:=by
 have e:=(ins_f h).trans h2
 unfold insR insN
 rw[e,if_neg (fun q=>q rfl),h3,List.take_length,List.drop_length]
 exact⟨rfl,rfl⟩
def z1p(l:List Node)(i:Nat)(s:List DStep):List Node:=
 if z05 l (l.getD i default) s≠0 then l else l.set i {(l.getD i default) with flow:=rawD (l.getD i default).flow s}
structure FlB(l:List Node)(i:Nat)(s:List DStep):Prop where
 len:l.length<=1048576
 sort:SortN l
 dn:DN 400000000000 s
 dv:z0D s
 an:AN 400000000000 (l.getD i default).flow
theorem z9y{l:List Node}{i:Nat}{s:List DStep}{k:Int}(h:z05 l (l.getD i default) s=k)(hk:k≠0):z1p l i s=l/\z05 l (l.getD i default) s=k:=by
 unfold z1p;rw[h,if_pos hk];exact⟨rfl,rfl⟩
theorem fl_ok{l:List Node}{i:Nat}{s:List DStep}(h:z05 l (l.getD i default) s=0):z1p l i s=l.set i {(l.getD i default) with flow:=rawD (l.getD i default).flow s}/\z05 l (l.getD i default) s=0:=by
 unfold z1p;rw[h,if_neg (fun q=>q rfl)];exact⟨rfl,rfl⟩
theorem fl_1{l:List Node}{n:Node}{s:List DStep}(h:hasT n.kind=false/\hasL n.kind=false):z05 l n s=8:=by unfold z05;rw[if_pos h]
theorem y47{a b:Bool}(h:a=true\/b=true):¬(a=false/\b=false):=by rintro⟨rfl,rfl⟩;rcases h with h|h<;>cases h
theorem fl_2{l:List Node}{n:Node}{s:List DStep}(h:hasT n.kind=true\/hasL n.kind=true)(h2:oldD s≠(n.flow.length:Int)):z05 l n s=14:=by unfold z05;rw[if_neg (y47 h),if_pos h2]
theorem fl_3{l:List Node}{n:Node}{s:List DStep}(h:hasT n.kind=true\/hasL n.kind=true)(h2:oldD s=(n.flow.length:Int))(h3:hasT n.kind=true/\endsD s=false):z05 l n s=4:=by
 unfold z05;rw[if_neg (y47 h),if_neg (fun q=>q h2),if_pos h3]
theorem fl_4{l:List Node}{n:Node}{s:List DStep}(h:hasT n.kind=true\/hasL n.kind=true)(h2:oldD s=(n.flow.length:Int))(h3:hasT n.kind=false\/endsD s=true):z05 l n s=addsE l n.kind s:=by
 unfold z05;rw[if_neg (y47 h),if_neg (fun q=>q h2),if_neg]
 rintro⟨a,b⟩;rcases h3 with q|q
 ·rw[a] at q;cases q
 ·rw[b] at q;cases q
theorem y91{l:List Node}{k:Int}{x:Elem}(h:x.ref=0/\hasT k=false):newE l k x=8:=by unfold newE;rw[if_pos h]
theorem y72{l:List Node}{k:Int}{x:Elem}(h:x.ref≠0\/hasT k=true):newE l k x=refsE l k (refsF [x]) 0:=by
 unfold newE;rw[if_neg]
 rintro⟨a,b⟩;rcases h with q|q
 ·exact q a
 ·rw[b] at q;cases q
def z1z(l:List Node)(i:Nat)(g:GEd):List Node:=
 if z1l l (l.getD i default) g≠0 then l else l.set i {(l.getD i default) with grid:=rawT (l.getD i default).grid g}
structure GrB(l:List Node)(i:Nat)(g:GEd):Prop where
 len:l.length<=1048576
 sort:SortN l
 gl:LiteE g
 m:(l.getD i default).grid.merges=[]
 tx:NoTx (l.getD i default).grid.cells
 l1:(l.getD i default).grid.cells.length<=1048576
 l2:g.cells.length<=1048576
 a1:∀c∈(l.getD i default).grid.cells,c.attrs.length<=1048576
 a2:∀c∈g.cells,c.attrs.length<=1048576
 k:(l.getD i default).kind≠6
theorem y2c{l:List Node}{i:Nat}{s:GEd}{k:Int}(h:z1l l (l.getD i default) s=k)(hk:k≠0):z1z l i s=l/\z1l l (l.getD i default) s=k:=by
 unfold z1z;rw[h,if_pos hk];exact⟨rfl,rfl⟩
theorem gr_ok{l:List Node}{i:Nat}{s:GEd}(h:z1l l (l.getD i default) s=0):z1z l i s=l.set i {(l.getD i default) with grid:=rawT (l.getD i default).grid s}/\z1l l (l.getD i default) s=0:=by
 unfold z1z;rw[h,if_neg (fun q=>q rfl)];exact⟨rfl,rfl⟩
theorem gr_1{l:List Node}{n:Node}{g:GEd}(h:hasG n.kind=false):z1l l n g=8:=by unfold z1l;rw[if_pos h]
theorem gr_2{l:List Node}{n:Node}{g:GEd}(h:hasG n.kind=true)(h2:cellK n.kind g.cells 0≠0):z1l l n g=cellK n.kind g.cells 0:=by unfold z1l;rw[if_neg (by rw[h];decide),if_pos h2]
theorem gr_3{l:List Node}{n:Node}{g:GEd}(h:hasG n.kind=true)(h2:cellK n.kind g.cells 0=0)(h3:fitsE n.grid g≠0):z1l l n g=fitsE n.grid g:=by
 unfold z1l;rw[if_neg (by rw[h];decide),if_neg (fun q=>q h2),if_pos h3]
theorem gr_4{l:List Node}{n:Node}{g:GEd}(h:hasG n.kind=true)(h2:cellK n.kind g.cells 0=0)(h3:fitsE n.grid g=0):z1l l n g=z1X (newC l n.kind) g.cells:=by
 unfold z1l;rw[if_neg (by rw[h];decide),if_neg (fun q=>q h2),if_neg (fun q=>q h3)]
theorem y48{l:List Node}{k:Int}{c:Cell}(h:c.ref≠0):newC l k c=refsE l k [c.ref] 0:=by unfold newC;rw[if_neg h]
theorem y73{l:List Node}{k:Int}{c:Cell}(h:c.ref=0):newC l k c=0:=by unfold newC;rw[if_pos h]
theorem y2d{α:Type}[Inhabited α](f:α->Int){l:List α}{i:Nat}(h:i<l.length)(h0:f (l.getD i default)=0):z1X f (l.drop i)=z1X f (l.drop (i+1)):=by rw[z2S f h,if_neg (fun q=>q h0)]
theorem y92{k:Int}(h:hasG k=true)(h6:k≠6)(h2:k≠2):False:=by
 unfold hasG at h;rw[qS,beq_iff_eq,beq_iff_eq] at h;omega
structure OneB(l:List Node)(o:EOp):Prop where
 len:l.length<=1048575
 sort:SortN l
 ok:eopE o=0
 op:OpL o
 all:∀n∈l,NodeB n/\(n.grid.merges=[]/\NoTx n.grid.cells)/\n.kind≠6
 last:o.kind=0->hasN l o.nw.id=false->lobN l o.nw.id=l.length
theorem OneB.base{l:List Node}{o:EOp}(h:OneB l o):l.length<=1048575/\l.length<=1048576/\SortN l:=⟨h.len,by have:=h.len;omega,h.sort⟩
theorem OneB.nw{l:List Node}{o:EOp}(h:OneB l o)(hk:o.kind=0):NodeB o.nw/\(hasN l o.nw.id=false->lobN l o.nw.id=l.length):=⟨h.op.nb,h.last hk⟩
theorem OneB.nd{l:List Node}{o:EOp}(h:OneB l o)(hh:hasN l o.node=true):(l.getD (lobN l o.node) default).attrs.length<=1048576/\o.attrs.length<=1048576:=
 ⟨(h.all _ (z0n (z03.1 hh).1)).1.at2,h.op.at1⟩
theorem OneB.fl{l:List Node}{o:EOp}(h:OneB l o)(hh:hasN l o.node=true)(hk:o.kind=2):FlB l (lobN l o.node) o.steps:=by
 have hn:=h.all _ (z0n (z03.1 hh).1)
 have he:=h.ok
 unfold eopE at he
 refine⟨h.base.2.1,h.sort,h.op.dn,z0S.1 ?_,fun x hx=>by have:=hn.1.fl3 x hx;omega⟩
 split at he
 ·cases he
 ·split at he
  ·cases he
  ·have k0:¬o.kind=0:=by omega
   have k1:¬o.kind=1:=by omega
   rw[if_neg k0] at he
   split at he
   ·cases he
   ·first|exact he| (rw[if_neg k1,if_pos hk] at he;exact he)
theorem OneB.gr{l:List Node}{o:EOp}(h:OneB l o)(hh:hasN l o.node=true)(hk:o.kind=3):GrB l (lobN l o.node) o.grid:=by
 have hn:=h.all _ (z0n (z03.1 hh).1)
 exact⟨h.base.2.1,h.sort,h.op.gl,hn.2.1.1,hn.2.1.2,hn.1.ce2,h.op.len.c,hn.1.ce3,h.op.ga,hn.2.2⟩
theorem OneB.kd{l:List Node}{o:EOp}(h:OneB l o)(h0:o.kind≠0)(h1:o.kind≠1)(h2:o.kind≠2)(h3:o.kind≠3):o.kind=4:=by
 have he:=h.ok
 unfold eopE at he
 split at he
 ·cases he
 ·omega
theorem OneB.dr{l:List Node}{o:EOp}(h:OneB l o)(hh:hasN l o.node=true)(hk:o.kind=4):(l.getD (lobN l o.node) default).draw.length<=1048576/\o.draw.length<=1048576:=
 ⟨(h.all _ (z0n (z03.1 hh).1)).1.dr1,h.op.dr⟩
theorem one_0{l:List Node}{o:EOp}(h:o.kind=0):oneL l o=insR l o.nw/\oneE l o=adnE l o.nw:=by
 have e:oneE l o=adnE l o.nw:=by unfold oneE;rw[if_pos h]
 refine⟨?_,e⟩
 unfold oneL insR;rw[e,if_pos h]
theorem one_e{l:List Node}{o:EOp}{k:Int}(h:oneE l o=k)(hk:k≠0):oneL l o=l/\oneE l o=k:=by
 unfold oneL;rw[h,if_pos hk];exact⟨rfl,rfl⟩
theorem one_1{l:List Node}{o:EOp}(h:o.kind≠0)(h2:hasN l o.node=false):oneL l o=l/\oneE l o=7:=one_e (by unfold oneE;rw[if_neg h,if_pos h2]) (by decide)
theorem one_s{l:List Node}{o:EOp}(h:o.kind≠0)(h0:oneE l o=0):oneL l o=l.set (lobN l o.node) (oneN (l.getD (lobN l o.node) default) o):=by
 unfold oneL;rw[h0,if_neg (fun q=>q rfl),if_neg h]
theorem one_2{l:List Node}{o:EOp}(h:hasN l o.node=true)(hk:o.kind=1):oneL l o=l.set (lobN l o.node) {(l.getD (lobN l o.node) default) with attrs:=fm rawG (l.getD (lobN l o.node) default).attrs o.attrs}/\oneE l o=0:=by
 have e:oneE l o=0:=by unfold oneE;rw[if_neg (by omega),if_neg (by rw[h];decide),if_pos hk]
 refine⟨(one_s (by omega) e).trans ?_,e⟩
 unfold oneN;rw[if_pos hk]
theorem one_3{l:List Node}{o:EOp}(h:hasN l o.node=true)(hk:o.kind=2):oneL l o=z1p l (lobN l o.node) o.steps/\oneE l o=z05 l (l.getD (lobN l o.node) default) o.steps:=by
 have e:oneE l o=z05 l (l.getD (lobN l o.node) default) o.steps:=by unfold oneE;rw[if_neg (by omega),if_neg (by rw[h];decide),if_neg (by omega),if_pos hk]
 refine⟨?_,e⟩
 unfold oneL z1p oneN;rw[e,if_neg (show¬o.kind=0 by omega),if_neg (show¬o.kind=1 by omega),if_pos hk]
theorem one_4{l:List Node}{o:EOp}(h:hasN l o.node=true)(hk:o.kind=3):oneL l o=z1z l (lobN l o.node) o.grid/\oneE l o=z1l l (l.getD (lobN l o.node) default) o.grid:=by
 have e:oneE l o=z1l l (l.getD (lobN l o.node) default) o.grid:=by unfold oneE;rw[if_neg (by omega),if_neg (by rw[h];decide),if_neg (by omega),if_neg (by omega),if_pos hk]
 refine⟨?_,e⟩
 unfold oneL z1z oneN;rw[e,if_neg (show¬o.kind=0 by omega),if_neg (show¬o.kind=1 by omega),if_neg (show¬o.kind=2 by omega),if_pos hk]
theorem one_d{l:List Node}{o:EOp}(h:hasN l o.node=true)(hk:o.kind=4):oneE l o=y2b (l.getD (lobN l o.node) default) o.draw:=by
 unfold oneE;rw[if_neg (by omega),if_neg (by rw[h];decide),if_neg (by omega),if_neg (by omega),if_neg (by omega)]
theorem one_5{l:List Node}{o:EOp}(h:hasN l o.node=true)(hk:o.kind=4)(hd:hasD (l.getD (lobN l o.node) default).kind=false):oneL l o=l/\oneE l o=8:=
 one_e ((one_d h hk).trans (by unfold y2b;rw[if_pos hd])) (by decide)
theorem one_6{l:List Node}{o:EOp}(h:hasN l o.node=true)(hk:o.kind=4)(hd:hasD (l.getD (lobN l o.node) default).kind=true):
 ((if(z0B (l.getD (lobN l o.node) default).draw o.draw).isSome then(0:Int) else 6)=0->oneL l o=l.set (lobN l o.node) {(l.getD (lobN l o.node) default) with draw:=(z0B (l.getD (lobN l o.node) default).draw o.draw).getD []})/\
 ((if(z0B (l.getD (lobN l o.node) default).draw o.draw).isSome then(0:Int) else 6)≠0->oneL l o=l)/\oneE l o=(if(z0B (l.getD (lobN l o.node) default).draw o.draw).isSome then(0:Int) else 6):=by
 have e:oneE l o=(if(z0B (l.getD (lobN l o.node) default).draw o.draw).isSome then(0:Int) else 6):=(one_d h hk).trans (by unfold y2b;rw[if_neg (by rw[hd];decide)])
 refine⟨fun h0=>(one_s (by omega) (e.trans h0)).trans ?_,fun h0=>(one_e e h0).1,e⟩
 unfold oneN;rw[if_neg (show¬o.kind=1 by omega),if_neg (show¬o.kind=2 by omega),if_neg (show¬o.kind=3 by omega)]
def RunB:List Node->List EOp->Prop
 |_,[]=>True
 |l,o::c=>OneB l o/\(oneE l o=0->RunB (oneL l o) c)
structure AppB(d:Doc)(c:List EOp):Prop where
 doc:DocL d
 ops:∀o∈c,OpL o
 run:docE d=0->eopsE c 0=0->RunB d.nodes c
theorem app_e{d:Doc}{c:List EOp}{k:Int}(h:appE d c=k)(hk:k≠0):appD d c=⟨[]⟩/\appE d c=k:=by
 unfold appD;rw[h,if_pos hk];exact⟨rfl,rfl⟩
theorem app_1{d:Doc}{c:List EOp}(h:docE d≠0):appD d c=⟨[]⟩/\appE d c=docE d:=app_e (by unfold appE;rw[if_pos h]) h
theorem app_2{d:Doc}{c:List EOp}(h:docE d=0)(h2:eopsE c 0≠0):appD d c=⟨[]⟩/\appE d c=eopsE c 0:=app_e (by unfold appE;rw[if_neg (fun q=>q h),if_pos h2]) h2
theorem app_r{d:Doc}{c:List EOp}(h:docE d=0)(h2:eopsE c 0=0):appE d c=runE d.nodes c:=by unfold appE;rw[if_neg (fun q=>q h),if_neg (fun q=>q h2)]
theorem app_3{d:Doc}{c:List EOp}{k:Int}(h:docE d=0)(h2:eopsE c 0=0)(h3:runE d.nodes c=k)(hk:k≠0):appD d c=⟨[]⟩/\appE d c=k:=app_e ((app_r h h2).trans h3) hk
theorem app_4{d:Doc}{c:List EOp}{l:List Node}(h:docE d=0)(h2:eopsE c 0=0)(h3:runE d.nodes c=0)(h4:runL d.nodes c=l):appD d c=⟨l⟩/\appE d c=0:=by
 have e:=(app_r h h2).trans h3
 unfold appD;rw[e,if_neg (fun q=>q rfl),h4];exact⟨rfl,rfl⟩
theorem z6w{d:Doc}(h:docE d=0):z1f d.nodes 0=0:=by
 unfold docE at h
 split at h
 ·cases h
 ·split at h
  ·rename_i q;exact absurd h q
  ·rename_i q;exact qk q
theorem z3N{d:Doc}(h:docE d=0):SortN d.nodes:=y0G (z6w h)
theorem y6Y{d:Doc}(h:docE d=0):∀n∈d.nodes,nodeE n=0:=by
 intro n hn
 obtain⟨j,hj,rfl⟩:=z0R hn
 exact(z3M _ 0 rfl (z6w h)).1 j (qp _) hj
def cutB:ByteArray:={data:=#[99,117,116]}
def addB:ByteArray:={data:=#[97,100,100]}
def hidB:ByteArray:={data:=#[104,105,100,100,101,110]}
def hasA(l:List Attr)(n:ByteArray):Bool:=l.any fun a=>seq a.name n
def gotA(l:List Attr)(n:ByteArray):Bool:=!(seq (getA l n 0) {data:=#[]})
theorem z9z{l:List Attr}{n:ByteArray}:hasA l n=false↔look l n=none:=by
 induction l with
 |nil=>simp[hasA,look]
 |cons x l ih=>
  unfold hasA at ih|-
  rw[zL,look]
  by_cases e:x.name=n
  ·rw[if_pos e,show seq x.name n=true from z0q.2 e];simp
  ·rw[if_neg e,show seq x.name n=false from z0H.2 e,Bool.false_or];exact ih
theorem y6Z{l:List Attr}{n:ByteArray}(h:VG false l):gotA l n=false↔look l n=none:=by
 unfold gotA
 rw[z7S]
 cases hl:look l n with
 |none=>simp only[Option.getD_none];simp;exact z0q.2 rfl
 |some v=>
  have hv:v≠mt:=q_val vp_mt (V.look h hl)
  simp only[zE]
  rw[show seq v {data:=#[]}=false from z0H.2 hv];simp
def hidX(x:Elem)(mode:Int):Bool:=(seq (getA x.attrs hidB 0) onB|| ((mode==0)&&gotA x.attrs cutB))|| ((mode==1)&&gotA x.attrs addB)
def visB(f:List Elem)(mode:Int)(i:Nat):Bool:=!(hidX (f.getD i default) mode)|| (decide ((i:Int)=(f.length:Int)- 1)&&decide ((f.getD i default).char=10))
def plcN(f:List Elem)(mode:Int)(i:Nat):List Nat:=(List.range i).filter (visB f mode)
def plcL(f:List Elem)(mode:Int)(i:Nat):List Int:=(plcN f mode i).map fun i:Nat=>(i:Int)
theorem z9A(f:List Elem)(mode:Int)(i:Nat):plcL f mode (i+1)=plcL f mode i++(if visB f mode i=true then[(i:Int)] else[]):=by
 unfold plcL plcN
 rw[List.range_succ,zp,zg,zA]
 cases visB f mode i<;>simp
theorem y2e(f:List Elem)(mode:Int)(i:Nat):(plcL f mode i).length<=i:=by
 unfold plcL plcN
 rw[qg]
 have:=z7 (visB f mode) (List.range i)
 rw[List.length_range] at this;exact this
theorem z8g{f:List Elem}{mode:Int}{i:Nat}(h:hidX (f.getD i default) mode=false\/(i:Int)=(f.length:Int)- 1/\(f.getD i default).char=10):visB f mode i=true:=by
 unfold visB
 rcases h with h| ⟨h,k⟩
 ·rw[h];rfl
 ·rw[decide_eq_true h,decide_eq_true k];simp
theorem y74{f:List Elem}{mode:Int}{i:Nat}(h:hidX (f.getD i default) mode=true/\(¬(i:Int)=(f.length:Int)- 1\/¬(f.getD i default).char=10)):visB f mode i=false:=by
 unfold visB
 rw[h.1]
 rcases h.2 with k|k
 ·rw[decide_eq_false k];simp
 ·rw[decide_eq_false k];simp
def mtB:ByteArray:={data:=#[]}
def gapP(pl:List Int)(k:Int):Int:=if k=0 then 0 else pl.getD (k- 1).toNat default+1
def markB(pl:List Int)(n:Nat):List Bool:=(List.range n).map fun i:Nat=>pl.any (fun p=>p==(i:Int))
def ersU(f:List Elem)(pl:List Int)(au:ByteArray)(i:Nat):DU:=
 if pl.any (fun p=>p==(i:Int))=true then(if(seq au mtB||seq (getA (f.getD i default).attrs addB 0) au)=true then .C else .K [⟨cutB,au⟩]) else .K []
def ersUs(f:List Elem)(pl:List Int)(au:ByteArray)(n:Nat):List DU:=(List.range n).map (ersU f pl au)
def ersS(f:List Elem)(pl:List Int)(au:ByteArray)(n:Nat):List DStep:=(ersUs f pl au n).map stepU
def ersD(f:List Elem)(pl:List Int)(au:ByteArray):List DStep:=tidyL (ersS f pl au f.length)
def typE(au:ByteArray)(x:Elem):Elem:={x with attrs:=fm rawG x.attrs [⟨addB,au⟩,⟨cutB,mtB⟩]}
def typS(n:Nat)(k:Int)(es:List Elem)(au:ByteArray):List DStep:=[⟨0,k,[],[]⟩,⟨1,0,[],es.map (typE au)⟩,⟨0,(n:Int)- k,[],[]⟩]
def typD(n:Nat)(k:Int)(es:List Elem)(au:ByteArray):List DStep:=tidyL (typS n k es au)
theorem y49(pl:List Int)(n:Nat):(markB pl n).length=n:=by simp[markB]
theorem y5a(n:Nat):markB [] n=List.replicate n false:=by
 unfold markB
 apply List.ext_getElem (by simp)
 intro i h1 h2
 simp
theorem y27{pl:List Int}{k n:Nat}(h:k<pl.length)(hp:0<=pl.getD k default/\pl.getD k default< (n:Int)):(markB (pl.take k) n).set (pl.getD k default).toNat true=markB (pl.take (k+1)) n:=by
 have e:pl.getD k default=pl[k]:=by rw[qj,qa h];rfl
 unfold markB
 apply List.ext_getElem (by simp)
 intro i h1 h2
 simp only[List.getElem_set,List.getElem_map,List.getElem_range]
 rw[qD h,List.any_append,zL,zX,zD,<-e]
 by_cases q:(pl.getD k default).toNat=i
 ·rw[if_pos q]
  have:(pl.getD k default==(i:Int))=true:=by rw[beq_iff_eq];omega
  rw[this,Bool.or_true]
 ·rw[if_neg q]
  have:(pl.getD k default==(i:Int))=false:=by rw[beq_eq_false_iff_ne];omega
  rw[this,zD]
theorem z6x(f:List Elem)(pl:List Int)(au:ByteArray)(i:Nat):ersS f pl au (i+1)=ersS f pl au i++[stepU (ersU f pl au i)]:=by
 unfold ersS ersUs
 rw[List.range_succ,zg,zg];rfl
theorem y2f(f:List Elem)(pl:List Int)(au:ByteArray)(i:Nat):(ersS f pl au i).length=i:=by simp[ersS,ersUs]
theorem y60{pl:List Int}{n i:Nat}(h:i<n):(markB pl n).getD i default=pl.any (fun p=>p==(i:Int)):=by
 unfold markB
 rw[qj,ze,List.getElem?_range h];rfl
theorem y8N(f:List Elem)(pl:List Int)(au:ByteArray)(n:Nat):DN 100000000000 (ersS f pl au n)/\elS (ersS f pl au n)=0:=by
 have hx:∀s∈ersS f pl au n,s.elems=[]/\s.attrs.length<=1:=by
  intro s hs
  unfold ersS ersUs at hs
  obtain⟨u,hu,rfl⟩:=qy.1 hs
  obtain⟨i,hi,rfl⟩:=qy.1 hu
  unfold ersU
  split
  ·split
   ·exact⟨rfl,by decide⟩
   ·exact⟨rfl,qr 1⟩
  ·exact⟨rfl,by decide⟩
 refine⟨fun s hs=> ?_,?_⟩
 ·obtain⟨h1,h2⟩:=hx s hs
  refine⟨by rw[h1];simp,by omega,?_⟩
  rw[h1];intro x hx;cases hx
 ·generalize ersS f pl au n=l at hx
  induction l with
  |nil=>rfl
  |cons s l ih=>
   rw[elS,(hx s List.mem_cons_self).1,ih (fun t ht=>hx t (qJ _ ht))];rfl
theorem ers_0{f:List Elem}{pl:List Int}{au:ByteArray}{i:Nat}(h:pl.any (fun p=>p==(i:Int))=false):stepU (ersU f pl au i)={kind:=0,n:=1,attrs:=[],elems:=[]}:=by
 unfold ersU;rw[if_neg (by rw[h];decide)];rfl
theorem ers_c{f:List Elem}{pl:List Int}{au:ByteArray}{i:Nat}(h:pl.any (fun p=>p==(i:Int))=true)(h2:seq au {data:=#[]}=true\/seq (getA (f.getD i default).attrs {data:=#[97,100,100]} 0) au=true):stepU (ersU f pl au i)={kind:=2,n:=1,attrs:=[],elems:=[]}:=by
 unfold ersU;rw[if_pos h,if_pos (by rw[qS];exact h2)];rfl
theorem ers_k{f:List Elem}{pl:List Int}{au:ByteArray}{i:Nat}(h:pl.any (fun p=>p==(i:Int))=true)(h2:seq au {data:=#[]}=false/\seq (getA (f.getD i default).attrs {data:=#[97,100,100]} 0) au=false):stepU (ersU f pl au i)={kind:=0,n:=1,attrs:=[{name:={data:=#[99,117,116]},val:=au}],elems:=[]}:=by
 unfold ersU;rw[if_pos h,if_neg]
 ·rfl
 ·rw[qS];rintro(q|q)
  ·rw[show seq au mtB=seq au {data:=#[]} from rfl,h2.1] at q;cases q
  ·rw[show addB=({data:=#[97,100,100]}:ByteArray) from rfl,h2.2] at q;cases q
theorem y5b{α:Type}[Inhabited α]{g:α->α}{l:List α}{i:Nat}(h:i<l.length):((l.take i).map g++l.drop i).getD i default=l.getD i default:=by
 rw[qj,qP (by simp;omega)]
 simp only[qg,qX,Nat.min_eq_left (Nat.le_of_lt h),Nat.sub_self]
 rw[qZ,qj];rfl
theorem z9B{α:Type}[Inhabited α]{g:α->α}{l:List α}{i:Nat}(h:i<l.length):((l.take i).map g++l.drop i).set i (g (l.getD i default))=(l.take (i+1)).map g++l.drop (i+1):=by
 have e:l.getD i default=l[i]:=by rw[qj,qa h];rfl
 rw[qD h,zg,qE,List.set_append_right _ _ (by simp;omega)]
 congr 1
 simp only[qg,qX,Nat.min_eq_left (Nat.le_of_lt h),Nat.sub_self]
 rw[z3L h,List.set_cons_zero,e];rfl
theorem y8O(n:Nat)(k:Int)(es:List Elem)(au:ByteArray)(he:es.length<=1048576)(ha:∀x∈es,x.attrs.length<=1048576):DN 100000000000 (typS n k es au)/\elS (typS n k es au)<=1048576:=by
 refine⟨fun s hs=> ?_,by simp[typS,elS];omega⟩
 unfold typS at hs
 simp only[qn,qV,or_false] at hs
 rcases hs with rfl|rfl|rfl
 ·exact⟨by simp,by simp,fun x hx=>by cases hx⟩
 ·refine⟨by simp;omega,by simp,fun x hx=> ?_⟩
  obtain⟨y,hy,rfl⟩:=qy.1 hx
  have h1:=ha y hy
  have h2:=z0Z rawG y.attrs [⟨addB,au⟩,⟨cutB,mtB⟩]
  show(fm rawG y.attrs [⟨addB,au⟩,⟨cutB,mtB⟩]).length<=_
  simp at h2;omega
 ·exact⟨by simp,by simp,fun x hx=>by cases hx⟩
theorem y93{n:Nat}{k:Int}{es o:List Elem}{au:ByteArray}(ho:o=es.map (typE au))(dn:DN 100000000000 (typS n k es au))(el:elS (typS n k es au)<=1048576):
 DN 100000000000 [{kind:=0,n:=k,attrs:=[],elems:=[]},{kind:=1,n:=0,attrs:=[],elems:=o},{kind:=0,n:=(n:Int)- k,attrs:=[],elems:=[]}]/\[({kind:=0,n:=k,attrs:=[],elems:=[]}:DStep),{kind:=1,n:=0,attrs:=[],elems:=o},{kind:=0,n:=(n:Int)- k,attrs:=[],elems:=[]}].length<=100000000/\
 elS [{kind:=0,n:=k,attrs:=[],elems:=[]},{kind:=1,n:=0,attrs:=[],elems:=o},{kind:=0,n:=(n:Int)- k,attrs:=[],elems:=[]}]<=10000000000:=by
 subst ho
 exact⟨dn,by simp,zd el (by decide)⟩
structure Pl where
 node:Node
 shown:List Int
 author:ByteArray
instance:Inhabited Pl:=⟨⟨default,[],{data:=#[]}⟩⟩
def plT(p:Pl):Tree:= .agg [TI p.node.id,TI p.node.kind,.lst 2 (p.node.attrs.map attrT),.lst 3 (p.node.flow.map elemT),TI p.node.grid.rows,TI p.node.grid.cols,.lst 5 (p.node.grid.cells.map cellT),.lst 4 (p.node.grid.merges.map rectT),.lst 8 (p.node.draw.map dopT),.lst 1 (p.shown.map intT),TS p.author]
structure Sel where
 nd:Int
 fr:Int
 tq:Int
instance:Inhabited Sel:=⟨⟨0,0,0⟩⟩
def selT(s:Sel):Tree:= .agg [TI s.nd,TI s.fr,TI s.tq]
def ndN(l:List Node)(k:Int):Node:=l.getD (lobN l k) default
def shwN(n:Node):List Int:=plcL n.flow 0 n.flow.length
def atE(d:Doc)(s:Sel)(au:ByteArray):Int:=
 if docE d≠0 then docE d
 else if hasN d.nodes s.nd=false then 7
 else if hasT (ndN d.nodes s.nd).kind=false then 8
 else if s.fr<0\/s.tq<s.fr\/((shwN (ndN d.nodes s.nd)).length:Int)<=s.tq then 2
 else if seq au {data:=#[]}=false/\valGo au=false then 23 else 0
def z6y:Pl:=⟨⟨0,0,[],[],⟨0,0,[],[]⟩,[]⟩,[],{data:=#[]}⟩
def atP(d:Doc)(s:Sel)(au:ByteArray):Pl:=if atE d s au≠0 then z6y else⟨ndN d.nodes s.nd,shwN (ndN d.nodes s.nd),au⟩
theorem at_e{d:Doc}{s:Sel}{au:ByteArray}{k:Int}(h:atE d s au=k)(hk:k≠0):atP d s au=z6y/\atE d s au=k:=by
 unfold atP;rw[h,if_pos hk];exact⟨rfl,rfl⟩
theorem at_1{d:Doc}{s:Sel}{au:ByteArray}(h:docE d≠0):atP d s au=z6y/\atE d s au=docE d:=at_e (by unfold atE;rw[if_pos h]) h
theorem at_2{d:Doc}{s:Sel}{au:ByteArray}(h:docE d=0)(h2:hasN d.nodes s.nd=false):atP d s au=z6y/\atE d s au=7:=at_e (by unfold atE;rw[if_neg (fun q=>q h),if_pos h2]) (by decide)
theorem at_3{d:Doc}{s:Sel}{au:ByteArray}(h:docE d=0)(h2:hasN d.nodes s.nd=true)(h3:hasT (d.nodes.getD (lobN d.nodes s.nd) default).kind=false):atP d s au=z6y/\atE d s au=8:=
 at_e (by unfold atE;rw[if_neg (fun q=>q h),if_neg (by rw[h2];decide),if_pos (show hasT (ndN d.nodes s.nd).kind=false from h3)]) (by decide)
theorem at_4{d:Doc}{s:Sel}{au:ByteArray}(h:docE d=0)(h2:hasN d.nodes s.nd=true)(h3:hasT (d.nodes.getD (lobN d.nodes s.nd) default).kind=true)
 (h4:(s.fr<0\/s.tq<s.fr)\/((plcL (d.nodes.getD (lobN d.nodes s.nd) default).flow 0 (d.nodes.getD (lobN d.nodes s.nd) default).flow.length).length:Int)<=s.tq):atP d s au=z6y/\atE d s au=2:=
 at_e (by unfold atE;rw[if_neg (fun q=>q h),if_neg (by rw[h2];decide),if_neg (by unfold ndN;rw[h3];decide),if_pos (by unfold shwN ndN;omega)]) (by decide)
theorem at_5{d:Doc}{s:Sel}{au:ByteArray}(h:docE d=0)(h2:hasN d.nodes s.nd=true)(h3:hasT (d.nodes.getD (lobN d.nodes s.nd) default).kind=true)
 (h4:(0<=s.fr/\s.fr<=s.tq)/\s.tq< ((plcL (d.nodes.getD (lobN d.nodes s.nd) default).flow 0 (d.nodes.getD (lobN d.nodes s.nd) default).flow.length).length:Int)) (h5:seq au {data:=#[]}=false/\valGo au=false):atP d s au=z6y/\atE d s au=23:=
 at_e (by unfold atE;rw[if_neg (fun q=>q h),if_neg (by rw[h2];decide),if_neg (by unfold ndN;rw[h3];decide),if_neg (by unfold shwN ndN;omega),if_pos h5]) (by decide)
theorem at_6{d:Doc}{s:Sel}{au:ByteArray}(h:docE d=0)(h2:hasN d.nodes s.nd=true)(h3:hasT (d.nodes.getD (lobN d.nodes s.nd) default).kind=true)
 (h4:(0<=s.fr/\s.fr<=s.tq)/\s.tq< ((plcL (d.nodes.getD (lobN d.nodes s.nd) default).flow 0 (d.nodes.getD (lobN d.nodes s.nd) default).flow.length).length:Int)) (h5:seq au {data:=#[]}=true\/valGo au=true):atP d s au=⟨ndN d.nodes s.nd,shwN (ndN d.nodes s.nd),au⟩/\atE d s au=0:=by
 have e:atE d s au=0:=by
  unfold atE;rw[if_neg (fun q=>q h),if_neg (by rw[h2];decide),if_neg (by unfold ndN;rw[h3];decide),if_neg (by unfold shwN ndN;omega),if_neg]
  rintro⟨a,b⟩;rcases h5 with q|q
  ·rw[a] at q;cases q
  ·rw[b] at q;cases q
 unfold atP;rw[e,if_neg (fun q=>q rfl)];exact⟨rfl,rfl⟩
def elemP(p:Pl)(k:Int):Elem:=if k<0\/(p.shown.length:Int)<=k then⟨10,0,[]⟩ else p.node.flow.getD (p.shown.getD k.toNat default).toNat default
structure PlB(p:Pl):Prop where
 len:p.node.flow.length<=1048576
 ok:∀x∈p.shown,0<=x/\x< (p.node.flow.length:Int)
 sl:p.shown.length<=1048576
 at1:∀x∈p.node.flow,x.attrs.length<=1048576
theorem z6z{p:Pl}(h:PlB p)(k:Int):(elemP p k).attrs.length<=1048576:=by
 unfold elemP;split
 ·simp
 ·rename_i q
  have hx:=h.ok _ (z0n (l:=p.shown) (i:=k.toNat) (by omega))
  exact h.at1 _ (z0n (by omega))
def sprL:List ByteArray:=[{data:=#[98,111,108,100]},{data:=#[105,116,97,108,105,99]},{data:=#[117,110,100,101,114]},{data:=#[115,116,114,105,107,101]},{data:=#[102,105,120,101,100]},{data:=#[114,97,105,115,101]},{data:=#[115,105,122,101]},{data:=#[99,111,108,111,117,114]},{data:=#[108,97,110,103]},{data:=#[115,116,121,108,101]}]
def sprB(n:ByteArray):Bool:=sprL.any fun y=>seq n y
def btwB(n:ByteArray):Bool:=
 (((seq n {data:=#[108,105,110,107]}||seq n {data:=#[108,111,99,107]})|| (decide ((n.size:Int)> 7)&&seq (n.extract 0 7) {data:=#[114,101,109,97,114,107,46]}))|| (decide ((n.size:Int)> 5)&&seq (n.extract 0 5) {data:=#[109,97,114,107,46]}))
def inhF(p:Pl)(k:Int):Elem:=if(elemP p (k- 1)).char=10 then elemP p k else elemP p (k- 1)
def inhG(r:Elem)(k:Int)(a:Attr):Bool:=(btwB a.name&&decide (k>0))&&seq (getA r.attrs a.name 0) a.val
def inhO(r:Elem)(k:Int)(o:List Attr)(l:List Attr):List Attr:=l.foldl (fun o a=>if inhG r k a=true then fm rawG o [a] else o) o
def inhB(p:Pl)(k:Int):List Attr:=if(inhF p k).char≠10 then(inhF p k).attrs.filter (fun a=>sprB a.name) else[]
def inhP(p:Pl)(k:Int):List Attr:=inhO (elemP p k) k (inhB p k) (elemP p (k- 1)).attrs
theorem z5H(p:Pl)(k:Int):inhB p k=if(elemP p (k- 1)).char=10 then(if(elemP p k).char≠10 then(elemP p k).attrs.filter (fun a=>sprB a.name) else[]) else(if(elemP p (k- 1)).char≠10 then(elemP p (k- 1)).attrs.filter (fun a=>sprB a.name) else[]):=by
 unfold inhB inhF
 by_cases h:(elemP p (k- 1)).char=10
 ·rw[if_pos h,if_pos h]
 ·rw[if_neg h,if_neg h]
theorem z3O{α:Type}[Inhabited α]{f:α->Bool}{l:List α}{i:Nat}(h:i<l.length)(h1:f (l.getD i default)=true):List.filter f [l[i]]=[l.getD i default]:=by
 have e:l.getD i default=l[i]:=by rw[qj,qa h];rfl
 rw[e] at h1|-;simp[h1]
theorem z3P{α:Type}[Inhabited α]{f:α->Bool}{l:List α}{i:Nat}(h:i<l.length)(h1:f (l.getD i default)=false):List.filter f [l[i]]=[]:=by
 have e:l.getD i default=l[i]:=by rw[qj,qa h];rfl
 rw[e] at h1;simp[h1]
theorem z0L{r:Elem}{k:Int}{o l:List Attr}{j:Nat}(h:j<l.length):inhO r k o (l.take (j+1))=if inhG r k (l.getD j default)=true then fm rawG (inhO r k o (l.take j)) [l.getD j default] else inhO r k o (l.take j):=by
 have e:l.getD j default=l[j]:=by rw[qj,qa h];rfl
 unfold inhO
 rw[qD h,List.foldl_append,e];rfl
theorem z5l{r:Elem}{k:Int}{a:Attr}(h:(btwB a.name=true/\0<k)/\seq (getA r.attrs a.name 0) a.val=true):inhG r k a=true:=by
 unfold inhG;rw[h.1.1,h.2,decide_eq_true (show k>0 from h.1.2)];rfl
theorem z5m{r:Elem}{k:Int}{a:Attr}(h:(btwB a.name=false\/k<=0)\/seq (getA r.attrs a.name 0) a.val=false):¬inhG r k a=true:=by
 unfold inhG;rw[qd,qd,decide_eq_true_eq]
 rintro⟨⟨a,b⟩,c⟩
 rcases h with(h|h)|h
 ·rw[a] at h;cases h
 ·omega
 ·rw[c] at h;cases h
theorem y5c{p:Pl}{k:Int}(h:(p.shown.length:Int)<=k):(elemP p k).char=10:=by unfold elemP;rw[if_pos (.inr h)]
def endK(p:Pl)(k:Nat):Nat:=if h:k<p.shown.length/\(elemP p k).char≠10 then endK p (k+1) else k
termination_by p.shown.length-k
theorem y8P{p:Pl}{k:Nat}(h:(elemP p k).char≠10):k<p.shown.length/\endK p k=endK p (k+1):=by
 have hl:k<p.shown.length:=qk fun q=>h (y5c (by omega))
 refine⟨hl,?_⟩
 conv=>lhs;rw[endK]
 rw[dif_pos ⟨hl,h⟩]
theorem y8Q{p:Pl}{k:Nat}(h:(elemP p k).char=10):endK p k=k:=by rw[endK,dif_neg (fun q=>q.2 h)]
def endL:List ByteArray:=[{data:=#[97,100,100]},{data:=#[99,117,116]},{data:=#[104,105,100,100,101,110]},{data:=#[108,111,99,107]},{data:=#[115,101,99,116,105,111,110]},{data:=#[98,114,101,97,107]},{data:=#[115,116,97,114,116]}]
def endG(a:Attr):Bool:=!(endL.any fun y=>seq a.name y)&& !(btwB a.name)
def endP(p:Pl)(k:Nat):List Attr:=(elemP p (endK p k)).attrs.filter endG
def opF(n:Int)(s:List DStep):EOp:=⟨2,n,⟨0,0,[],[],⟨0,0,[],[]⟩,[]⟩,[],s,⟨[],[],[],[],[]⟩,[]⟩
def ersP(p:Pl)(s:Sel):List DStep:=ersD p.node.flow ((p.shown.take s.tq.toNat).drop s.fr.toNat) p.author
def typP(p:Pl)(s:Sel)(es:List Elem):List DStep:=typD p.node.flow.length (gapP p.shown s.fr) es p.author
def stpP(p:Pl)(s:Sel)(es:List Elem):List DStep:=joinD (ersP p s) (z00 (typP p s es) (ersP p s))
def selP(s:Sel)(es:List Elem):Sel:=⟨s.nd,s.fr+es.length,s.fr+es.length⟩
structure StpB(p:Pl)(s:Sel)(es:List Elem):Prop where
 s1:0<=s.fr/\s.fr<=s.tq/\s.tq< (p.shown.length:Int)
 e1:es.length<=1048576
 e2:∀x∈es,x.attrs.length<=1048576
 v1:z0D (ersP p s)
 v2:z0D (typP p s es)
 v3:z0D (z00 (typP p s es) (ersP p s))
 d1:DN 100000000000 (ersP p s)
 d2:DN 100000000000 (typP p s es)
 d3:DN 100000000000 (z00 (typP p s es) (ersP p s))
 m1:oldD (typP p s es)=oldD (ersP p s)
 m2:newD (ersP p s)=oldD (z00 (typP p s es) (ersP p s))
 m3:newD (typP p s es)+newD (ersP p s)<=2147483647
theorem y5d{p:Pl}{s:Sel}(h:PlB p)(h2:0<=s.fr/\s.fr<=s.tq/\s.tq< (p.shown.length:Int)):0<=gapP p.shown s.fr/\gapP p.shown s.fr<=(p.node.flow.length:Int):=by
 unfold gapP;split
 ·omega
 ·have:=h.ok _ (z0n (l:=p.shown) (i:=(s.fr- 1).toNat) (by omega));omega
def mkE(l:List Attr)(c:Int):Elem:=⟨c,0,l⟩
def typX(p:Pl)(s:Sel)(x:Elem):Elem:=if x.char=10 then {x with attrs:=endP p s.tq.toNat} else x
def typEl(p:Pl)(s:Sel)(cs:List Int):List Elem:=(cs.map (mkE (inhP p s.fr))).map (typX p s)
def typeO(d:Doc)(s:Sel)(cs:List Int)(au:ByteArray):List EOp:=if atE d s au≠0 then[] else[opF s.nd (stpP (atP d s au) s (typEl (atP d s au) s cs))]
def typeS(d:Doc)(s:Sel)(cs:List Int)(au:ByteArray):Sel:=if atE d s au≠0 then⟨0,0,0⟩ else selP s (typEl (atP d s au) s cs)
structure TypB(d:Doc)(s:Sel)(cs:List Int)(au:ByteArray):Prop where
 p:PlB (atP d s au)
 c:chkA false (inhP (atP d s au) s.fr) 0=0
 l:(inhP (atP d s au) s.fr).length<=10000000
 r:0<=s.fr/\s.fr<=s.tq/\s.tq< ((atP d s au).shown.length:Int)
 s:StpB (atP d s au) s (typEl (atP d s au) s cs)
theorem y94{d:Doc}{s:Sel}{cs:List Int}{au:ByteArray}(h:atE d s au≠0):typeO d s cs au=[]/\typeS d s cs au=⟨0,0,0⟩:=by
 unfold typeO typeS;rw[if_pos h,if_pos h];exact⟨rfl,rfl⟩
theorem y2g{d:Doc}{s:Sel}{cs:List Int}{au:ByteArray}(h:atE d s au=0):typeO d s cs au=[opF s.nd (stpP (atP d s au) s (typEl (atP d s au) s cs))]/\typeS d s cs au=selP s (typEl (atP d s au) s cs):=by
 unfold typeO typeS;rw[if_neg (fun q=>q h),if_neg (fun q=>q h)];exact⟨rfl,rfl⟩
theorem y95{p:Pl}{s:Sel}{x:Elem}(h:x.char=10):typX p s x={char:=x.char,ref:=x.ref,attrs:=endP p s.tq.toNat}:=by unfold typX;rw[if_pos h]
theorem y96{p:Pl}{s:Sel}{x:Elem}(h:x.char≠10):typX p s x=x:=by unfold typX;rw[if_neg h]
theorem y5e{α:Type}[Inhabited α]{g:α->α}{l:List α}{i:Nat}(h:i<l.length)(h2:g (l.getD i default)=l.getD i default):(l.take i).map g++l.drop i=(l.take (i+1)).map g++l.drop (i+1):=by
 have e:l.getD i default=l[i]:=by rw[qj,qa h];rfl
 rw[qD h,zg,qE,z3L h]
 rw[e] at h2|-
 simp[h2]
theorem y75{a:Attr}(h:endL.any (fun y=>seq a.name y)=false/\btwB a.name=false):endG a=true:=by unfold endG;rw[h.1,h.2];rfl
theorem y76{a:Attr}(h:endL.any (fun y=>seq a.name y)=true\/btwB a.name=true):endG a=false:=by
 unfold endG;rcases h with h|h<;>rw[h]
 ·rfl
 ·simp
def kindB:ByteArray:={data:=#[107,105,110,100]}
def zeroN:Node:=⟨0,0,[],[],⟨0,0,[],[]⟩,[]⟩
theorem y61(s:ByteArray)(n:Nat):(s.extract n s.size).size=s.size-n:=by simp[zY]
theorem y8R(s:ByteArray):s.extract 0 s.size=s:=by simp


def shwB(f:List Elem)(i:Nat):Bool:=
 (bif hasA (f.getD i default).attrs cutB then false else !(seq (getA (f.getD i default).attrs hidB 0) onB))|| (decide ((i:Int)=(f.length:Int)- 1)&&((f.getD i default).char==10))
def shwR(f:List Elem)(i:Nat):List Int:=((List.range i).filter (shwB f)).map fun i:Nat=>(i:Int)
def nodeF(d:Doc)(k:Int):Node:=if findD d.nodes k 0<0 then zeroN else d.nodes.getD (findD d.nodes k 0).toNat default
def nodeH(d:Doc)(k:Int):Bool:=decide (0<=findD d.nodes k 0)
theorem y5f{d:Doc}{k:Int}{i:Nat}(h:findD d.nodes k 0=(i:Int)):nodeF d k=d.nodes.getD i default/\nodeH d k=true:=by
 unfold nodeF nodeH;rw[h,if_neg (by omega),decide_eq_true (by omega)];exact⟨rfl,rfl⟩
theorem y8S{d:Doc}{k:Int}(h:findD d.nodes k 0= -1):nodeF d k=zeroN/\nodeH d k=false:=by
 unfold nodeF nodeH;rw[h,if_pos (by omega),decide_eq_false (by omega)];exact⟨rfl,rfl⟩
def pickK(n:Node)(ks:List Int):List Int:=(ks.filter fun x=>n.kind==x).map fun _=>n.id
def opA(k:Int)(l:List Attr):EOp:=⟨1,k,⟨0,0,[],[],⟨0,0,[],[]⟩,[]⟩,l,[],⟨[],[],[],[],[]⟩,[]⟩
def z0s:Doc:=⟨[⟨1,0,[],[⟨0,2,[]⟩],⟨0,0,[],[]⟩,[]⟩,⟨2,1,[],[⟨10,0,[]⟩],⟨0,0,[],[]⟩,[]⟩]⟩
def baseD:Doc:=⟨[⟨1,0,[],[⟨0,2,[]⟩,⟨0,3,[]⟩],⟨0,0,[],[]⟩,[]⟩,⟨2,1,[],[⟨97,0,[]⟩,⟨98,0,[]⟩,⟨99,0,[]⟩,⟨10,0,[]⟩,⟨100,0,[]⟩,⟨10,0,[]⟩],⟨0,0,[],[]⟩,[]⟩,⟨3,10,[],[],⟨0,0,[],[]⟩,[]⟩]⟩
def node1:Node:=⟨1,0,[],[⟨0,2,[]⟩],⟨0,0,[],[]⟩,[]⟩
def node2:Node:=⟨2,1,[],[⟨10,0,[]⟩],⟨0,0,[],[]⟩,[]⟩
theorem z8h:docE z0s=0:=by decide+kernel
theorem y0I:DocL z0s:=by
 have hx:∀n∈z0s.nodes,n=node1\/n=node2:=fun n hn=>by
  have hn:n∈[node1,node2]:=hn
  simpa using hn
 refine⟨⟨by decide,fun n hn=> ?_,by decide⟩,fun n hn=> ?_⟩
 ·rcases hx n hn with rfl|rfl
  ·refine⟨(fun a h=>by cases h),by decide,fun x h=> ?_,by decide,fun x h=> ?_,(fun c h=>by cases h),by decide,(fun c h=>by cases h),by decide,by decide,(fun o h=>by cases h)⟩
   ·rw[show x=⟨0,2,[]⟩ by simpa[node1] using h];exact(fun a h=>by cases h)
   ·rw[show x=⟨0,2,[]⟩ by simpa[node1] using h];decide
  ·refine⟨(fun a h=>by cases h),by decide,fun x h=> ?_,by decide,fun x h=> ?_,(fun c h=>by cases h),by decide,(fun c h=>by cases h),by decide,by decide,(fun o h=>by cases h)⟩
   ·rw[show x=⟨10,0,[]⟩ by simpa[node2] using h];exact(fun a h=>by cases h)
   ·rw[show x=⟨10,0,[]⟩ by simpa[node2] using h];decide
 ·rcases hx n hn with rfl|rfl<;>exact⟨rfl,(fun c h=>by cases h)⟩
structure Vis where
 id:Int
 parent:Int
 vis:Bool
instance:Inhabited Vis:=⟨⟨0,0,false⟩⟩
def onM(k:Int):Int×MV:=(k,.im (Ab.TB true))
def onA(s:ByteArray):List Attr:=[⟨s,{data:=#[111,110]}⟩]
def probE:List EOp:=[opA 2 (onA {data:=#[116,105,116,108,101]})]
theorem y97:AppB z0s probE:=by
 have hl:=y0I
 have ho:OpL (opA 2 (onA {data:=#[116,105,116,108,101]})):=by
  refine⟨⟨by decide,by decide,by decide,by decide,by decide⟩,⟨(fun a h=>by cases h),by decide,(fun x h=>by cases h),by decide,(fun x h=>by cases h),(fun c h=>by cases h),by decide,(fun c h=>by cases h),by decide,by decide,(fun o h=>by cases h)⟩,⟨rfl,(fun c h=>by cases h)⟩,by decide,(fun s h=>by cases h),⟨rfl,rfl,(fun c h=>by cases h),by decide⟩,(fun c h=>by cases h),by decide⟩
 refine⟨hl,fun o h=> ?_,fun h1 h2=>⟨⟨by decide,z3N z8h,by decide+kernel,ho,fun n hn=>⟨hl.all n hn,hl.lite n hn,?_⟩,fun h=>absurd h (by decide)⟩,fun _=>trivial⟩⟩
 ·rw[show o=opA 2 (onA {data:=#[116,105,116,108,101]}) by simpa[probE] using h];exact ho
 ·have hn:n∈[node1,node2]:=hn
  simp only[qn,qV,or_false] at hn
  rcases hn with rfl|rfl<;>decide
end Go.Ch
end
section
namespace Go.Ch
open Go Go.Ab
structure US where
 nm:List ByteArray
 no:List ByteArray
instance:Membership ByteArray US:=⟨fun U s=>s∈U.nm⟩
def US.length(U:US):Nat:=U.nm.length
def NU(U:US)(s:ByteArray):Prop:=NPg s/\s∈U
def VW(U:US)(s:ByteArray):Prop:=VPg s/\s∉U.no
def VU(U:US)(e:Bool)(l:List Attr):Prop:=V (NU U) (VW U) e l
variable {U:US}
theorem nu_mt:¬NU U mt:=fun h=>np_mt h.1
theorem VU.g{e:Bool}{l:List Attr}(h:VU U e l):VG e l:=⟨h.1,fun a ha=>⟨(h.2 a ha).1.1,Or.imp (fun q:VW U a.val=>q.1) (fun q=>q) (h.2 a ha).2⟩⟩
theorem VU.nil{e:Bool}:VU U e []:=⟨z5h.1,fun a h=>by cases h⟩
theorem VU.sub{e:Bool}{l:List Attr}(h:VU U false l):VU U e l:=⟨h.1,fun a ha=>⟨(h.2 a ha).1,.inl ((h.2 a ha).2.resolve_right (fun q=>by cases q.1))⟩⟩
theorem y2h:∀{l:List Attr} {U:List ByteArray},z1c l->(∀a∈l,a.name∈U)->l.length<=U.length
 | [],U,_,_=>qp _
 |a::l,U,hs,hu=>by
  have:=y2h (l:=l) (U:=U.filter fun s=> !(seq s a.name)) hs.2 (fun b hb=>by
   have h1:=hs.1 b hb
   rw[zF]
   exact⟨hu b (by simp[hb]),by rw[z0H.2 (Ne.symm (z1r h1))];rfl⟩)
  have h2:=(List.length_filter_lt_length_iff_exists (l:=U) (p:=fun s=> !(seq s a.name))).2 ⟨a.name,hu a (by simp),by rw[z0q.2 rfl];decide⟩
  simp only[qi];omega
theorem VU.len{e:Bool}{l:List Attr}(h:VU U e l)(hU:U.length<=100):l.length<=100:=zd (y2h h.1 (fun a ha=>(h.2 a ha).1.2)) hU
def RU(U:US)(x:Elem):Prop:=elemE x=0/\VU U false x.attrs
def UU(U:US):DU->Prop
 | .K c=>VU U true c
 | .A e=>RU U e
 | .C=>True
theorem y62{x:Elem}{l:List Attr}(h:elemE x=0)(hl:VG false l):elemE ⟨x.char,x.ref,l⟩=0:=by
 unfold elemE at h|-
 split at h
 ·cases h
 ·rename_i h1
  split at h
  ·cases h
  ·rename_i h2
   rw[if_neg h1,if_neg h2];exact z1H.2 hl
theorem RU.chg{x:Elem}{c:List Attr}(h:RU U x)(hc:VU U true c):RU U (chgE c x):=by
 have:=raw_V nu_mt h.2 hc
 exact⟨y62 h.1 (VU.g this),this⟩
theorem UU.s(hU:U.length<=100){u:DU}(h:UU U u):UnitS u:=by
 cases u with
 |K c=>exact⟨VU.g h,VU.len h hU⟩
 |A e=>exact⟨h.1,VU.len h.2 hU⟩
 |C=>trivial
theorem all_cons{α:Type}{P:α->Prop}{x:α}{l:List α}(h:P x)(k:∀u∈l,P u):∀u∈x::l,P u:=fun u hu=>by
 rcases qn.1 hu with rfl|hu
 ·exact h
 ·exact k u hu
theorem z0w{α:Type}{P:α->Prop}{x:α}{l:List α}(h:∀u∈x::l,P u):∀u∈l,P u:=fun u hu=>h u (qJ _ hu)
theorem y28(p q:List DU)(hp:∀u∈p,UU U u)(hq:∀u∈q,UU U u):∀u∈z0g p q,UU U u:=by
 induction p,q using z0g.induct with
 |case1 q p ih=>rw[z0g];exact all_cons trivial (ih (z0w hp) hq)
 |case2 p e q hne ih=>
  rw[z0g]
  rotate_left
  ·exact hne
  exact all_cons (hq (.A e) (by simp)) (ih hp (z0w hq))
 |case3 c p d q ih=>rw[z0g];exact all_cons (bot_V nu_mt (hp (.K c) (by simp)) (hq (.K d) (by simp))) (ih (z0w hp) (z0w hq))
 |case4 c p q ih=>rw[z0g];exact all_cons trivial (ih (z0w hp) (z0w hq))
 |case5 e p d q ih=>rw[z0g];exact all_cons (RU.chg (hp (.A e) (by simp)) (hq (.K d) (by simp))) (ih (z0w hp) (z0w hq))
 |case6 e p q ih=>rw[z0g];exact ih (z0w hp) (z0w hq)
 |case7 p hne=>rw[show z0g p []=p by unfold z0g;split<;>simp_all];exact hp
 |case8 q h1 h2=>rw[show z0g [] q=[] by unfold z0g;split<;>simp_all];intro u hu;cases hu
def addN:List DU->Nat
 | []=>0
 | .A _::us=>addN us+1
 |_::us=>addN us
theorem y29(p q:List DU)(hp:∀u∈p,UU U u)(hq:∀u∈q,UU U u):∀u∈(z0a p q).1,UU U u:=by
 have h0:UU U (.K []):=VU.nil
 induction p,q using z0a.induct with
 |case1 e p q ih=>rw[z0a];exact all_cons (hp (.A e) (by simp)) (ih (z0w hp) hq)
 |case2 e q ih=>rw[z0a];exact all_cons h0 (ih hp (z0w hq))
 |case3 c p e q ih=>rw[z0a];exact all_cons h0 (ih hp (z0w hq))
 |case4 p e q ih=>rw[z0a];exact all_cons h0 (ih hp (z0w hq))
 |case5 c p d q ih=>rw[z0a];exact all_cons (wio_V nu_mt (hp (.K c) (by simp)) (hq (.K d) (by simp))) (ih (z0w hp) (z0w hq))
 |case6 c p q ih=>rw[z0a];exact ih (z0w hp) (z0w hq)
 |case7 p d q ih=>rw[z0a];exact all_cons trivial (ih (z0w hp) (z0w hq))
 |case8 p q ih=>rw[z0a];exact ih (z0w hp) (z0w hq)
 |case9 p hne=>rw[show z0a p []=([],[]) by unfold z0a;split<;>simp_all];intro u hu;cases hu
 |case10 q h1 h2=>rw[show z0a [] q=([],[]) by unfold z0a;split<;>simp_all];intro u hu;cases hu
theorem y3a(p q:List DU):newN (z0a p q).1<=newN q+addN p:=by
 induction p,q using z0a.induct with
 |case9 p hne=>rw[show z0a p []=([],[]) by unfold z0a;split<;>simp_all];simp[newN]
 |case10 q h1 h2=>rw[show z0a [] q=([],[]) by unfold z0a;split<;>simp_all];simp[newN]
 |_=>rw[z0a];simp only[newN,addN] at*;omega
theorem z1J:∀(us:List DU) (f:List Elem),(∀u∈us,UU U u)->(∀x∈f,RU U x)->∀x∈z0h us f,RU U x
 | [],f,_,_=>fun x h=>by cases h
 | .A e::us,f,hu,hf=>by rw[z0h];exact all_cons (hu (.A e) (by simp)) (z1J us f (z0w hu) hf)
 | .K c::us,y::f,hu,hf=>by rw[z0h];exact all_cons (RU.chg (hf y (by simp)) (hu (.K c) (by simp))) (z1J us f (z0w hu) (z0w hf))
 | .C::us,y::f,hu,hf=>by rw[z0h];exact z1J us f (z0w hu) (z0w hf)
 | .K c::us,[],hu,hf=>by rw[z0h];exact z1J us [] (z0w hu) hf
 | .C::us,[],hu,hf=>by rw[z0h];exact z1J us [] (z0w hu) hf
structure DU_(U:US)(l:List DStep)(us:List DU):Prop where
 v:z0D l
 sw:DSw (exD l) us
 all:∀u∈us,UU U u
theorem DU_.dn(hU:U.length<=100){l:List DStep}{us:List DU}(h:DU_ U l us):DN 100000000000 l:=dn_of h.v h.sw (fun u hu=>UU.s hU (h.all u hu))
theorem DU_.ex{l:List DStep}{us:List DU}(h:DU_ U l us):∀u∈exD l,UU U u:=fun u hu=>h.all u ((z3t h.sw u).1 hu)
theorem DU_.done(hU:U.length<=100){us:List DU}(hu:∀u∈us,UU U u)(h1:oldN us<=2147483647)(h2:newN us<=2147483647):DU_ U (doneD us) us:=by
 obtain⟨a,b,_⟩:=z1Y (fun u h=>(UU.s hU (hu u h)).ok) h1 h2
 exact⟨a,b,hu⟩
end Go.Ch
end
section
namespace Go.Ch
open Go Go.Ab
variable {U:US}
theorem y2i(a b:List DU):addN (a++b)=addN a+addN b:=by
 induction a with
 |nil=>simp[addN]
 |cons u a ih=>cases u<;>simp only[qe,addN,ih]<;>omega
theorem y8T(e:List Elem):addN (e.map .A)=e.length:=by
 induction e with
 |nil=>rfl
 |cons x e ih=>simp only[q9,addN,ih,qi]
theorem y8U(n:Nat)(c:List Attr):addN (List.replicate n (.K c))=0:=by
 induction n with
 |zero=>rfl
 |succ n ih=>rw[qo];exact ih
theorem y8V{u v:List DU}(h:DSw u v):addN u=addN v:=by
 induction h with
 |refl u=>rfl
 |cons x h ih=>cases x<;>simp only[addN,ih]
 |swap e u=>simp only[addN]
 |symm h ih=>exact ih.symm
 |trans h k i j=>exact i.trans j
theorem y98{w:DWr}{s:DStep}(h:(s.kind=0/\0<=s.n)\/s.kind=1):tdW w s=foldD w (exS s):=by
 unfold tdW exS
 rcases h with⟨k,n⟩|k
 ·rw[if_pos k,if_neg (show¬s.kind=1 by omega),if_neg (show¬s.kind=2 by omega)]
  by_cases h0:s.n=0
  ·rw[if_pos h0,h0];rfl
  ·rw[if_neg h0]
   obtain⟨m,hm⟩:∃m,s.n.toNat=m+1:=⟨s.n.toNat- 1,by omega⟩
   have:=z7U s.attrs [] m w
   rw[qQ] at this
   rw[hm,this,show((m+1:Nat):Int)=s.n by omega];rfl
 ·rw[if_neg (by omega),if_pos k,if_pos k]
  have:=y1E s.elems [] w
  rw[qQ] at this
  rw[this];rfl
theorem z9C:∀(a b:List DU) (w:DWr),foldD w (a++b)=foldD (foldD w a) b
 | [],b,w=>rfl
 |u::a,b,w=>z9C a b (putU w u)
theorem y2j:∀(d:List DStep) (w:DWr),(∀s∈d,((s.kind=0/\0<=s.n)\/s.kind=1)/\lenE s=0)->tidyG w d=if z0W (z0b (foldD w (exD d)))=0 then(z0b (foldD w (exD d)),0) else([],3)
 | [],w,_=>by rw[tidyG,exD,foldD]
 |s::d,w,h=>by
  obtain⟨h1,h2⟩:=h s (by simp)
  rw[y2X h2 (fun q=>by unfold tdBad at q;omega),y2j d _ (fun t ht=>h t (by simp[ht])),exD,z9C,y98 h1]
theorem y8W{d:List DStep}(h:∀s∈d,((s.kind=0/\0<=s.n)\/s.kind=1)/\lenE s=0)(hu:∀u∈exD d,z0G u)(h1:oldN (exD d)<=2147483647)(h2:newN (exD d)<=2147483647):tidyL d=doneD (exD d):=by
 have hv:=(z1Y hu h1 h2).1
 unfold tidyL
 rw[y2j d _ h,if_pos (show z0W (z0b (foldD ⟨[],[],0⟩ (exD d)))=0 from z0S.2 hv)];rfl
theorem z9D{n:Int}{c:List Attr}(h:0<=n/\n<=2147483647)(hc:VG true c):lenE ⟨0,n,c,[]⟩=0:=by
 by_cases h0:n=0
 ·subst h0
  unfold lenE
  have e:stepD ⟨0,0,c,[]⟩=2:=by unfold stepD;simp
  rw[if_pos (.inr ⟨(by decide:(0:Int)≠1),rfl,e⟩)];exact z1H.2 hc
 ·exact z6q (z0J.2 (.inr ⟨.inl rfl,rfl,fun q=>absurd (show(0:Int)=2 from q) (by decide),(by show(1:Int)<=n;omega),h.2,hc⟩))
theorem y5g{es:List Elem}(h:∀x∈es,elemE x=0):lenE ⟨1,0,[],es⟩=0:=by
 cases es with
 |nil=>
  unfold lenE
  have e:stepD ⟨1,0,[],[]⟩=11:=by unfold stepD;simp
  rw[if_pos (.inl ⟨rfl,rfl,e⟩)];exact z1H.2 z5h
 |cons x l=>exact z6q (z0J.2 (.inl ⟨rfl,rfl,rfl,by simp,h⟩))
def typUs(n:Nat)(k:Nat)(es:List Elem)(au:ByteArray):List DU:=List.replicate k (.K [])++((es.map (typE au)).map .A++List.replicate (n-k) (.K []))
theorem y2k{n:Nat}{k:Int}{es:List Elem}{au:ByteArray}(hk:0<=k/\k<=n):exD (typS n k es au)=typUs n k.toNat es au:=by
 unfold typS typUs
 simp only[exD,exS]
 rw[if_neg (by decide),if_neg (by decide),if_pos trivial,if_neg (by decide),if_neg (by decide),qQ,show((n:Int)- k).toNat=n-k.toNat by omega]
theorem z2j{n k:Nat}{es:List Elem}{au:ByteArray}(hk:k<=n):oldN (typUs n k es au)=n/\newN (typUs n k es au)=n+es.length/\addN (typUs n k es au)=es.length:=by
 unfold typUs
 have a:=z1S (es.map (typE au))
 have b:=z1t k []
 have c:=z1t (n-k) []
 simp only[z0E,z1C,y2i,y8T,y8U,a.1,a.2,b.1,b.2,c.1,c.2,qg]
 omega
theorem y5h{au:ByteArray}{x:Elem}(ha:VU U true [⟨addB,au⟩,⟨cutB,mtB⟩])(hx:RU U x):RU U (typE au x):=RU.chg hx ha
theorem y5i{n k:Nat}{es:List Elem}{au:ByteArray}(ha:VU U true [⟨addB,au⟩,⟨cutB,mtB⟩])(he:∀x∈es,RU U x):∀u∈typUs n k es au,UU U u:=by
 intro u hu
 unfold typUs at hu
 rcases qm.1 hu with hu|hu
 ·rw[zf hu];exact VU.nil
 ·rcases qm.1 hu with hu|hu
  ·obtain⟨y,hy,rfl⟩:=qy.1 hu
   obtain⟨x,hx,rfl⟩:=qy.1 hy
   exact y5h ha (he x hx)
  ·rw[zf hu];exact VU.nil
theorem y0J(hU:U.length<=100){n:Nat}{k:Int}{es:List Elem}{au:ByteArray}(hk:0<=k/\k<=n)(hn:n<=100000000)(hl:es.length<=100000000)(ha:VU U true [⟨addB,au⟩,⟨cutB,mtB⟩])(he:∀x∈es,RU U x):
 typD n k es au=doneD (typUs n k.toNat es au)/\DU_ U (typD n k es au) (typUs n k.toNat es au):=by
 have hf:=z2j (n:=n) (k:=k.toNat) (es:=es) (au:=au) (by omega)
 have hall:=y5i (n:=n) (k:=k.toNat) ha he
 have e:typD n k es au=doneD (typUs n k.toNat es au):=by
  unfold typD
  rw[y8W (d:=typS n k es au) (fun s hs=> ?_) (by rw[y2k hk];exact fun u hu=>(UU.s hU (hall u hu)).ok) (by rw[y2k hk];omega) (by rw[y2k hk];omega),y2k hk]
  unfold typS at hs
  simp only[qn,qV,or_false] at hs
  rcases hs with rfl|rfl|rfl
  ·exact⟨.inl ⟨rfl,hk.1⟩,z9D (by omega) z5h⟩
  ·refine⟨.inr rfl,y5g (fun x hx=> ?_)⟩
   obtain⟨y,hy,rfl⟩:=qy.1 hx
   exact(y5h ha (he y hy)).1
  ·exact⟨.inl ⟨rfl,(by show(0:Int)<=(n:Int)- k;omega)⟩,z9D (by omega) z5h⟩
 exact⟨e,by rw[e];exact .done hU hall (by omega) (by omega)⟩
theorem z2k(f:List Elem)(pl:List Int)(au:ByteArray)(n:Nat):oldN (ersUs f pl au n)=n/\newN (ersUs f pl au n)<=n/\addN (ersUs f pl au n)=0:=by
 unfold ersUs
 induction n with
 |zero=>exact⟨rfl,qr _,rfl⟩
 |succ n ih=>
  rw[List.range_succ,zg,z0E,z1C,y2i,q9,zV]
  obtain⟨a,b,c⟩:=ih
  rw[a,c]
  have:oldN [ersU f pl au n]=1/\newN [ersU f pl au n]<=1/\addN [ersU f pl au n]=0:=by unfold ersU;repeat' split<;>simp[oldN,newN,addN]
  omega
theorem y5j{f:List Elem}{pl:List Int}{au:ByteArray}(ha:seq au mtB=false->VU U true [⟨cutB,au⟩])(n:Nat):∀u∈ersUs f pl au n,UU U u:=by
 intro u hu
 unfold ersUs at hu
 obtain⟨i,_,rfl⟩:=qy.1 hu
 unfold ersU
 split
 ·split
  ·trivial
  ·rename_i h
   exact ha (by simp only[qS,not_or,zZ] at h;exact h.1)
 ·exact VU.nil
theorem y0K(hU:U.length<=100){f:List Elem}{pl:List Int}{au:ByteArray}(hn:f.length<=100000000)(ha:seq au mtB=false->VU U true [⟨cutB,au⟩]):
 ersD f pl au=doneD (ersUs f pl au f.length)/\DU_ U (ersD f pl au) (ersUs f pl au f.length):=by
 have hf:=z2k f pl au f.length
 have hall:=y5j (f:=f) (pl:=pl) ha f.length
 have hlen:(ersUs f pl au f.length).length=f.length:=by simp[ersUs]
 have e:ersD f pl au=doneD (ersUs f pl au f.length):=(z66 (fun u hu=>(UU.s hU (hall u hu)).ok) (by omega)).1
 exact⟨e,by rw[e];exact .done hU hall (by omega) (by omega)⟩
theorem DU_.lens{l:List DStep}{us:List DU}(h:DU_ U l us):oldD l=oldN us/\newD l=newN us:=by
 have a:=z62 h.v
 have b:=y1B h.sw
 omega
theorem z6A(hU:U.length<=100){a b:List DStep}{us vs:List DU}(ha:DU_ U a us)(hb:DU_ U b vs)(hm:oldN us=oldN vs)(hs:newN us+newN vs<=2147483647):
 DU_ U (z00 a b) (z0a (exD a) (exD b)).1/\oldD (z00 a b)=newD b/\newD (z00 a b)<=newD b+addN us:=by
 obtain⟨a1,a2⟩:=ha.lens
 obtain⟨b1,b2⟩:=hb.lens
 have P:=z64 ha.v hb.v (ha.dn hU) (hb.dn hU) (by omega) (by omega)
 have hn:=y3a (exD a) (exD b)
 have hd:DU_ U (z00 a b) (z0a (exD a) (exD b)).1:=⟨P.2.2.2.1,P.2.2.2.2.2.1,y29 _ _ ha.ex hb.ex⟩
 have l1:=hd.lens
 have l2:=z62 hb.v
 have l3:=y8V ha.sw
 exact⟨hd,P.2.2.2.2.2.2.2.1,by omega⟩
theorem z8i(hU:U.length<=100){a b:List DStep}{us vs:List DU}(ha:DU_ U a us)(hb:DU_ U b vs)(hm:newD a=oldD b):
 DU_ U (joinD a b) (z0g (exD a) (exD b))/\oldD (joinD a b)=oldD a/\newD (joinD a b)=newD b:=by
 have P:=z63 ha.v hb.v (ha.dn hU) (hb.dn hU) hm
 exact⟨⟨P.2.2.2.2.1,P.2.2.2.2.2.1,y28 _ _ ha.ex hb.ex⟩,P.2.2.2.2.2.2.1,P.2.2.2.2.2.2.2⟩
end Go.Ch
end
section
namespace Go.Ch
open Go Go.Ab
def zzB:ByteArray:={data:=#[122,122]}
structure UB(U:US):Prop where
 len:U.length<=100
 z:∀v∈U.no,v=zzB
 ad:addB∈U
 ct:cutB∈U
structure NG(U:US)(n:Node):Prop where
 at1:VU U false n.attrs
 fl:∀x∈n.flow,RU U x
 mg:n.grid.merges=[]
 ce:∀c∈n.grid.cells,c.attrs=[]/\c.text.size=0
 dr:∀o∈n.draw,o.plc.size<=100/\o.nm.size<=100/\o.vl.size<=100
 kd:n.kind≠6
structure NZ(m:Nat)(n:Node):Prop where
 fl:n.flow.length<=m
 ce:n.grid.cells.length<=m
 dr:n.draw.length<=m
variable {U:US}
theorem y77{e:Bool}{l:List Attr}(h:VG e l):Szd l:=fun a ha=>by
 obtain⟨h1,h2⟩:=h.2 a ha
 have n1:z1k a.name=true:=h1
 unfold z1k at n1
 rw[qd,decide_eq_true_eq] at n1
 refine⟨by omega,?_⟩
 rcases h2 with h2|h2
 ·have n2:valGo a.val=true:=h2
  unfold valGo at n2
  rw[qd,decide_eq_true_eq] at n2
  omega
 ·rw[h2.2];decide
theorem NG.b(hU:UB U){n:Node}{m:Nat}(h:NG U n)(hz:NZ m n)(hm:m<=1048576):NodeB n:=
 ⟨y77 h.at1.g,by have:=h.at1.len hU.len;omega,fun x hx=>y77 (h.fl x hx).2.g,zd hz.fl hm,fun x hx=>by have:=(h.fl x hx).2.len hU.len;omega,
  fun c hc=>⟨by rw[(h.ce c hc).2];decide,by rw[(h.ce c hc).1];exact(fun a ha=>by cases ha)⟩,zd hz.ce hm,fun c hc=>by rw[(h.ce c hc).1];decide,by rw[h.mg];decide,zd hz.dr hm,fun o ho=>by have:=h.dr o ho;omega⟩
theorem NG.lite{n:Node}(h:NG U n):n.grid.merges=[]/\NoTx n.grid.cells:=⟨h.mg,fun c hc=>(h.ce c hc).2⟩
theorem z7f{m:Nat}:∀{l:List Node},(∀n∈l,NZ m n)->lensN l<=l.length*(3*m)
 | [],_=>by simp[lensN]
 |n::l,h=>by
  have:=z7f (l:=l) (fun x hx=>h x (by simp[hx]))
  have hn:=h n (by simp)
  have e:lensN (n::l)=lenN n+lensN l:=by simp[lensN]
  rw[e,qi,zw,Nat.one_mul]
  have h1:=hn.fl
  have h2:=hn.ce
  have h3:=hn.dr
  unfold lenN;omega
theorem y5k(hU:UB U){d:Doc}{m q:Nat}(hm:m<=3000)(hq:q<=100)(hl:d.nodes.length<=q)(h:∀n∈d.nodes,NG U n/\NZ m n):DocL d:=by
 refine⟨⟨by omega,fun n hn=>(h n hn).1.b hU (h n hn).2 (by omega),?_⟩,fun n hn=>(h n hn).1.lite⟩
 have h1:=z7f (fun n hn=>(h n hn).2)
 have h2:d.nodes.length*(3*m)<=100*9000:=Nat.mul_le_mul (by omega) (by omega)
 omega
theorem V.filt{NP VP:ByteArray->Prop}{e:Bool}{p:Attr->Bool}:∀{l:List Attr},V NP VP e l->V NP VP e (l.filter p)
 | [],h=>h
 |a::l,h=>by
  have ih:=V.filt (p:=p) (l:=l) ⟨h.1.2,fun b hb=>h.2 b (by simp[hb])⟩
  rw[zA]
  split
  ·exact⟨⟨fun b hb=>h.1.1 b ((zF.1 hb).1),ih.1⟩,fun b hb=>by
    rcases qn.1 hb with rfl|hb
    ·exact h.2 b (by simp)
    ·exact ih.2 b hb⟩
  ·exact ih
theorem VU.one{l:List Attr}(h:VU U false l){a:Attr}(ha:a∈l):VU U true [a]:=
 ⟨⟨(fun b hb=>by cases hb),trivial⟩,fun b hb=>by
  rw[qK] at hb;subst hb
  exact(VU.sub (e:=true) h).2 b ha⟩
theorem y99:RU U ⟨10,0,[]⟩:=⟨by decide+kernel,VU.nil⟩
theorem y8X{d:Doc}{s:Sel}{au:ByteArray}(h:atE d s au=0):docE d=0/\hasN d.nodes s.nd=true/\hasT (ndN d.nodes s.nd).kind=true/\(0<=s.fr/\s.fr<=s.tq/\s.tq< ((shwN (ndN d.nodes s.nd)).length:Int))/\(seq au mtB=true\/valGo au=true)/\atP d s au=⟨ndN d.nodes s.nd,shwN (ndN d.nodes s.nd),au⟩:=by
 have e:atP d s au=⟨ndN d.nodes s.nd,shwN (ndN d.nodes s.nd),au⟩:=by unfold atP;rw[h,if_neg (fun q=>q rfl)]
 unfold atE at h
 split at h
 ·rename_i q;exact absurd h q
 rename_i h1
 split at h
 ·cases h
 rename_i h2
 split at h
 ·cases h
 rename_i h3
 split at h
 ·cases h
 rename_i h4
 split at h
 ·cases h
 rename_i h5
 refine⟨qk h1,by simpa using h2,by simpa using h3,by omega,?_,e⟩
 apply qk;intro q
 rw[not_or,zZ,zZ] at q
 exact h5 q
theorem y63{f:List Elem}{mode x:Int}{n:Nat}(h:x∈plcL f mode n):0<=x/\x<n:=by
 unfold plcL plcN at h
 obtain⟨i,hi,rfl⟩:=qy.1 h
 have:=List.mem_range.1 ((zF.1 hi).1)
 omega
theorem x0a(hU:UB U){n:Node}{au:ByteArray}(hn:NG U n)(hz:n.flow.length<=1048576):PlB ⟨n,shwN n,au⟩:=
 ⟨hz,fun x hx=>y63 hx,zd (y2e ..) hz,fun x hx=>by have:=(hn.fl x hx).2.len hU.len;omega⟩
theorem z4I{p:Pl}(hp:PlB p)(hn:∀x∈p.node.flow,RU U x)(k:Int):RU U (elemP p k):=by
 unfold elemP
 split
 ·exact y99
 ·rename_i q
  have h1:k.toNat<p.shown.length:=by omega
  have h2:=hp.ok _ (z0n h1)
  exact hn _ (z0n (by omega))
theorem y5l{r:Elem}{k:Int}:∀{l o:List Attr},VU U false o->(∀a∈l,VU U true [a])->VU U false (inhO r k o l)
 | [],o,ho,_=>ho
 |a::l,o,ho,hl=>by
  show VU U false (inhO r k (if inhG r k a=true then fm rawG o [a] else o) l)
  refine y5l ?_ (fun b hb=>hl b (by simp[hb]))
  split
  ·exact raw_V nu_mt ho (hl a (by simp))
  ·exact ho
theorem y5m{p:Pl}(hp:PlB p)(hn:∀x∈p.node.flow,RU U x)(k:Int):VU U false (inhP p k):=by
 unfold inhP
 have h1:=z4I hp hn (k- 1)
 refine y5l ?_ (fun a ha=>h1.2.one ha)
 unfold inhB
 split
 ·refine V.filt ?_
  unfold inhF;split
  ·exact(z4I hp hn k).2
  ·exact h1.2
 ·exact VU.nil
theorem y8Y{p:Pl}(hp:PlB p)(hn:∀x∈p.node.flow,RU U x)(k:Nat):VU U false (endP p k):=V.filt (z4I hp hn _).2
theorem y0L{c:Int}{l:List Attr}(hc:CharP c)(h0:c≠0)(hl:VU U false l):RU U ⟨c,0,l⟩:=by
 refine⟨?_,hl⟩
 rw[z32 (x:=⟨c,0,l⟩) (fun q=>h0 (q.2 rfl)) (.inr hc) (.inl rfl)]
 exact z1H.2 hl.g
theorem y2l{p:Pl}(hp:PlB p)(hn:∀x∈p.node.flow,RU U x){s:Sel}{cs:List Int}(hc:∀c∈cs,CharP c/\c≠0):∀x∈typEl p s cs,RU U x:=by
 intro x hx
 unfold typEl at hx
 obtain⟨y,hy,rfl⟩:=qy.1 hx
 obtain⟨c,hc',rfl⟩:=qy.1 hy
 obtain⟨q1,q2⟩:=hc c hc'
 unfold typX mkE
 split
 ·exact y0L q1 q2 (y8Y hp hn _)
 ·exact y0L q1 q2 (y5m hp hn _)
def AuB(U:US)(au:ByteArray):Prop:=(seq au mtB=true\/valGo au=true)/\au∉U.no
theorem z9E(hU:UB U){au:ByteArray}(ha:AuB U au):VU U true [⟨addB,au⟩,⟨cutB,mtB⟩]:=by
 refine⟨⟨fun b hb=> ?_,⟨(fun b hb=>by cases hb),trivial⟩⟩,fun b hb=> ?_⟩
 ·rw[qK] at hb;subst hb;exact(by decide+kernel:slt addB cutB=true)
 ·simp only[qn,qV,or_false] at hb
  rcases hb with rfl|rfl
  ·refine⟨⟨(by decide+kernel:z1k addB=true),hU.ad⟩,?_⟩
   rcases ha.1 with h|h
   ·exact .inr ⟨rfl,z0q.1 h⟩
   ·exact .inl ⟨h,ha.2⟩
  ·exact⟨⟨(by decide+kernel:z1k cutB=true),hU.ct⟩,.inr ⟨rfl,rfl⟩⟩
theorem y5n(hU:UB U){au:ByteArray}(ha:AuB U au)(h0:seq au mtB=false):VU U true [⟨cutB,au⟩]:=by
 have hv:valGo au=true:=ha.1.resolve_left (by rw[h0];decide)
 refine⟨⟨(fun b hb=>by cases hb),trivial⟩,fun b hb=> ?_⟩
 rw[qK] at hb;subst hb
 exact⟨⟨(by decide+kernel:z1k cutB=true),hU.ct⟩,.inl ⟨hv,ha.2⟩⟩
theorem y78(hU:UB U){p:Pl}{s:Sel}{es:List Elem}(hp:PlB p)(hf:p.node.flow.length<=1048576)(hn:∀x∈p.node.flow,RU U x)(ha:AuB U p.author)
 (hs:0<=s.fr/\s.fr<=s.tq/\s.tq< (p.shown.length:Int)) (hl:es.length<=1048576) (he:∀x∈es,RU U x):
 StpB p s es/\(∃us,DU_ U (stpP p s es) us)/\oldD (stpP p s es)=(p.node.flow.length:Int)/\newD (stpP p s es)<=p.node.flow.length+es.length:=by
 have hg:=y5d hp hs
 obtain⟨_,T⟩:=y0J hU.len (n:=p.node.flow.length) (k:=gapP p.shown s.fr) (es:=es) (au:=p.author) hg (by omega) (by omega) (z9E hU ha) he
 obtain⟨_,E⟩:=y0K hU.len (f:=p.node.flow) (pl:=(p.shown.take s.tq.toNat).drop s.fr.toNat) (au:=p.author) (by omega) (y5n hU ha)
 have tf:=z2j (n:=p.node.flow.length) (k:=(gapP p.shown s.fr).toNat) (es:=es) (au:=p.author) (by omega)
 have ef:=z2k p.node.flow ((p.shown.take s.tq.toNat).drop s.fr.toNat) p.author p.node.flow.length
 have tl:=T.lens
 have el:=E.lens
 obtain⟨P,p1,p2⟩:=z6A hU.len T E (by omega) (by omega)
 obtain⟨J,j1,j2⟩:=z8i hU.len E P p1.symm
 refine⟨⟨hs,hl,fun x hx=>by have:=(he x hx).2.len hU.len;omega,E.v,T.v,P.v,E.dn hU.len,T.dn hU.len,P.dn hU.len,?_,p1.symm,?_⟩,⟨_,J⟩,?_,?_⟩
 ·show oldD (typD _ _ _ _)=oldD (ersD _ _ _);omega
 ·show newD (typD _ _ _ _)+newD (ersD _ _ _)<=2147483647;omega
 ·refine(show oldD (stpP p s es)=oldD (ersD p.node.flow ((p.shown.take s.tq.toNat).drop s.fr.toNat) p.author) from j1).trans ?_
  omega
 ·refine Int.le_trans (Int.le_of_eq (show newD (stpP p s es)=newD (z00 (typD p.node.flow.length (gapP p.shown s.fr) es p.author) (ersD p.node.flow ((p.shown.take s.tq.toNat).drop s.fr.toNat) p.author)) from j2)) ?_
  omega
end Go.Ch
end
section
namespace Go.Ch
open Go Go.Ab
structure VD(l:List Node):Prop where
 ne:0<l.length
 one:(l.getD 0 default).id=1
 srt:SortN l
 node:∀n∈l,nodeE n=0
 refs:∀n∈l,∀r∈refsN n,∃m∈l,m.id=r/\permB n.kind m.kind=true
theorem y0M{l:List Node}(hs:SortN l){i j:Nat}(hi:i<l.length)(hj:j<l.length)(h:(l.getD i default).id=(l.getD j default).id):i=j:=by
 rcases Nat.lt_trichotomy i j with q|q|q
 ·have:=hs i j q hj;omega
 ·exact q
 ·have:=hs j i q hi;omega
theorem z9F{l:List Node}(hs:SortN l){k:Int}{rs:List Int}:∀(n i:Nat),rs.length-i=n->(refsE l k rs i=0↔∀j,i<=j->j<rs.length->∃m∈l,m.id=rs.getD j default/\permB k m.kind=true)
 |0,i,h=>by rw[refsE,if_neg (by omega)];exact⟨fun _ j h1 h2=>by omega,fun _=>rfl⟩
 |n+1,i,h=>by
  have hi:i<rs.length:=by omega
  have hm:rs.length- (i+1)=n:=by omega
  have key:(0<=findD l (rs.getD i default) 0/\permB k (l.getD (findD l (rs.getD i default) 0).toNat default).kind=true)↔∃m∈l,m.id=rs.getD i default/\permB k m.kind=true:=by
   rcases z3y l (rs.getD i default) _ 0 rfl with⟨a,b⟩| ⟨j,a,b,c,d⟩
   ·rw[a]
    refine⟨fun q=>absurd q.1 (by decide),?_⟩
    rintro⟨m,hm,h1,h2⟩
    obtain⟨x,hx,rfl⟩:=z0R hm
    exact absurd h1 (b x (qp _) hx)
   ·rw[a]
    refine⟨fun q=>⟨l.getD j default,z0n c,d,by simpa using q.2⟩,?_⟩
    rintro⟨m,hm,h1,h2⟩
    obtain⟨x,hx,rfl⟩:=z0R hm
    have:=y0M hs hx c (h1.trans d.symm)
    subst this
    exact⟨by omega,by simpa using h2⟩
  rw[refsE,if_pos hi]
  by_cases h1:findD l (rs.getD i default) 0<0
  ·rw[if_pos h1]
   exact⟨fun q=>(by cases q),fun q=>absurd ((key.2 (q i (qr _) hi)).1) (by omega)⟩
  ·rw[if_neg h1]
   by_cases h2:permB k (l.getD (findD l (rs.getD i default) 0).toNat default).kind=false
   ·rw[if_pos h2]
    refine⟨fun q=>(by cases q),fun q=> ?_⟩
    have:=(key.2 (q i (qr _) hi)).2
    rw[h2] at this;cases this
   ·rw[if_neg h2,z9F hs n (i+1) hm]
    refine⟨fun q j j1 j2=> ?_,fun q j j1 j2=>q j (by omega) j2⟩
    by_cases e:j=i
    ·subst e;exact key.1 ⟨by omega,by simpa using h2⟩
    ·exact q j (by omega) j2
theorem y2m{l:List Node}(hs:SortN l){k:Int}{rs:List Int}:refsE l k rs 0=0↔∀r∈rs,∃m∈l,m.id=r/\permB k m.kind=true:=by
 rw[z9F hs _ 0 rfl]
 refine⟨fun h r hr=> ?_,fun h j _ hj=>h _ (z0n hj)⟩
 obtain⟨j,hj,rfl⟩:=z0R hr
 exact h j (qp _) hj
theorem z36{l:List Node}:∀(n i:Nat),l.length-i=n->(z0X l i=0↔∀j,i<=j->j<l.length->refsE l (l.getD j default).kind (refsN (l.getD j default)) 0=0)
 |0,i,h=>by rw[z0X,if_neg (by omega)];exact⟨fun _ j h1 h2=>by omega,fun _=>rfl⟩
 |n+1,i,h=>by
  have hi:i<l.length:=by omega
  rw[z0X,if_pos hi]
  by_cases h1:refsE l (l.getD i default).kind (refsN (l.getD i default)) 0≠0
  ·rw[if_pos h1];exact⟨fun q=>absurd q h1,fun q=>absurd (q i (qr _) hi) h1⟩
  ·rw[if_neg h1,z36 n (i+1) (by omega)]
   refine⟨fun q j j1 j2=> ?_,fun q j j1 j2=>q j (by omega) j2⟩
   by_cases e:j=i
   ·subst e;exact qk h1
   ·exact q j (by omega) j2
theorem z7g{l:List Node}:∀(n i:Nat),l.length-i=n->(∀j,i<=j->j<l.length->nodeE (l.getD j default)=0/\¬((j=0/\(l.getD 0 default).id≠1)\/(0<j/\(l.getD j default).id<=(l.getD (j- 1) default).id)))->z1f l i=0
 |0,i,h,_=>by rw[z1f,if_neg (by omega)]
 |n+1,i,h,q=>by
  obtain⟨a,b⟩:=q i (qr _) (by omega)
  rw[z1f,if_pos (by omega),if_neg (fun z=>z a),if_neg b]
  exact z7g n (i+1) (by omega) (fun j j1 j2=>q j (by omega) j2)
theorem y0N{d:Doc}:docE d=0↔VD d.nodes:=by
 constructor
 ·intro h
  have hn:=z6w h
  have hs:=y0G hn
  have h0:0<d.nodes.length:=by
   apply qk;intro q
   rw[z7d (by omega)] at h;cases h
  refine⟨h0,((z3M _ 0 rfl hn).2 0 (qr _) h0).1 rfl,hs,y6Y h,fun n hn' r hr=> ?_⟩
  have ha:z0X d.nodes 0=0:=by
   unfold docE at h
   rw[if_neg (by omega),if_neg (fun q=>q hn)] at h;exact h
  obtain⟨j,hj,rfl⟩:=z0R hn'
  exact(y2m hs).1 ((z36 _ 0 rfl).1 ha j (qp _) hj) r hr
 ·intro h
  have hn:z1f d.nodes 0=0:=z7g _ 0 rfl (fun j _ hj=>⟨h.node _ (z0n hj),by
   rintro(⟨rfl,q⟩| ⟨q1,q2⟩)
   ·exact q h.one
   ·have:=h.srt (j- 1) j (by omega) hj;omega⟩)
  have ha:z0X d.nodes 0=0:=(z36 _ 0 rfl).2 (fun j _ hj=>(y2m h.srt).2 (h.refs _ (z0n hj)))
  unfold docE
  rw[if_neg (by have:=h.ne;omega),if_neg (fun q=>q hn),ha]
theorem VD.has{l:List Node}(h:VD l){k:Int}:hasN l k=true↔∃n∈l,n.id=k:=by
 rw[z03]
 constructor
 ·rintro⟨a,b⟩;exact⟨_,z0n a,b⟩
 ·rintro⟨n,hn,rfl⟩
  obtain⟨j,hj,rfl⟩:=z0R hn
  obtain⟨s1,s2,s3⟩:=z2z l (l.getD j default).id
  have h1:lobN l (l.getD j default).id<=j:=y0F (by omega)
  by_cases e:lobN l (l.getD j default).id=j
  ·rw[e];exact⟨hj,rfl⟩
  ·have:=h.srt _ j (show lobN l (l.getD j default).id<j by omega) hj
   exact absurd this (s3 (by omega))
theorem y3b{n:Node}(h:nodeE n=0):(1<=n.id/\n.id<=1073741824)/\(0<=n.kind/\n.kind<=12/\(n.id=1↔n.kind=0))/\VG false n.attrs/\
 ((0<n.flow.length->hasT n.kind=true\/hasL n.kind=true)/\(zeroG n.grid=false->hasG n.kind=true)/\(0<n.draw.length->hasD n.kind=true))/\
 ((hasT n.kind=true\/hasL n.kind=true)->flowZ (hasT n.kind) n.flow=0)/\(hasG n.kind=true->gridE n.grid=0/\cellK n.kind n.grid.cells 0=0)/\(hasD n.kind=true->drawE n.draw 0=0):=by
 unfold nodeE at h
 split at h
 ·cases h
 rename_i h1
 split at h
 ·cases h
 rename_i h2
 split at h
 ·rename_i q;exact absurd h q
 rename_i h3
 split at h
 ·cases h
 rename_i h4
 have h3:=z1H.1 (qk h3)
 refine⟨by omega,by omega,h3,⟨fun q=> ?_,fun q=> ?_,fun q=> ?_⟩,?_⟩
 ·apply qk;intro z
  rw[not_or,zZ,zZ] at z
  exact h4 (.inl ⟨q,z.1,z.2⟩)
 ·apply qk;intro z
  exact h4 (.inr (.inl ⟨q,by simpa using z⟩))
 ·apply qk;intro z
  exact h4 (.inr (.inr ⟨q,by simpa using z⟩))
 ·have kinds:∀k:Int,(hasT k=true\/hasL k=true->hasG k=false/\hasD k=false)/\(hasG k=true->hasD k=false):=fun k=>by
   unfold hasT hasL hasG hasD
   simp only[qS,beq_iff_eq,zQ,beq_eq_false_iff_ne]
   omega
  obtain⟨k1,k2⟩:=kinds n.kind
  split at h
  ·rename_i q
   obtain⟨z1,z2⟩:=k1 q
   exact⟨fun _=>h,(fun z=>by rw[z1] at z;cases z),(fun z=>by rw[z2] at z;cases z)⟩
  ·rename_i q
   split at h
   ·rename_i g
    have z2:=k2 g
    refine⟨fun z=>absurd z q,fun _=> ?_,(fun z=>by rw[z2] at z;cases z)⟩
    split at h
    ·rename_i z;exact absurd h z
    ·rename_i z;exact⟨qk z,h⟩
   ·rename_i g
    exact⟨fun z=>absurd z q,fun z=>absurd z g,fun _=>h⟩
theorem y8Z{n:Node}(h1:1<=n.id/\n.id<=1073741824)(h2:0<=n.kind/\n.kind<=12/\(n.id=1↔n.kind=0))(h3:VG false n.attrs)
 (h4:(0<n.flow.length->hasT n.kind=true\/hasL n.kind=true)/\(zeroG n.grid=false->hasG n.kind=true)/\(0<n.draw.length->hasD n.kind=true))
 (h5:(hasT n.kind=true\/hasL n.kind=true)->flowZ (hasT n.kind) n.flow=0) (h6:hasG n.kind=true->gridE n.grid=0/\cellK n.kind n.grid.cells 0=0) (h7:drawE n.draw 0=0\/hasT n.kind=true\/hasL n.kind=true\/hasG n.kind=true):nodeE n=0:=by
 unfold nodeE
 rw[if_neg (by omega),if_neg (by omega),if_neg (fun q=>q (z1H.2 h3)),if_neg]
 ·split
  ·rename_i q;exact h5 q
  ·rename_i q
   split
   ·rename_i g
    obtain⟨z1,z2⟩:=h6 g
    rw[if_neg (fun z=>z z1),z2]
   ·rename_i g
    rcases h7 with h7|h7|h7|h7
    ·exact h7
    ·exact absurd (.inl h7) q
    ·exact absurd (.inr h7) q
    ·exact absurd h7 g
 ·rintro(⟨a,b,c⟩| ⟨a,b⟩| ⟨a,b⟩)
  ·rcases h4.1 a with q|q
   ·rw[b] at q;cases q
   ·rw[c] at q;cases q
  ·have:=h4.2.1 a;rw[b] at this;cases this
  ·have:=h4.2.2 a;rw[b] at this;cases this

end Go.Ch
end
section
namespace Go.Ch
open Go Go.Ab
variable {U:US}
theorem z6B{t:Bool}{f:List Elem}:∀(n i:Nat),f.length-i=n->(flowX t f i=0↔∀j,i<=j->j<f.length->elemE (f.getD j default)=0/\(t=false->(f.getD j default).ref≠0))
 |0,i,h=>by rw[flowX,if_neg (by omega)];exact⟨fun _ j h1 h2=>by omega,fun _=>rfl⟩
 |n+1,i,h=>by
  have hi:i<f.length:=by omega
  have hm:f.length- (i+1)=n:=by omega
  by_cases h1:elemE (f.getD i default)≠0
  ·rw[z9t hi h1];exact⟨fun q=>absurd q h1,fun q=>absurd (q i (qr _) hi).1 h1⟩
  ·have h1':elemE (f.getD i default)=0:=qk h1
   by_cases h2:t=false/\(f.getD i default).ref=0
   ·rw[z7b hi h1' h2];exact⟨fun q=>(by cases q),fun q=>absurd h2.2 ((q i (qr _) hi).2 h2.1)⟩
   ·have h2':t=true\/(f.getD i default).ref≠0:=by
     cases t with
     |true=>exact .inl rfl
     |false=>exact .inr (fun q=>h2 ⟨rfl,q⟩)
    rw[z7c hi h1' h2',z6B n (i+1) hm]
    refine⟨fun q j j1 j2=> ?_,fun q j j1 j2=>q j (by omega) j2⟩
    by_cases e:j=i
    ·subst e;exact⟨h1',fun z z2=>h2 ⟨z,z2⟩⟩
    ·exact q j (by omega) j2
theorem y5o{t:Bool}{f:List Elem}:flowZ t f=0↔(∀x∈f,elemE x=0/\(t=false->x.ref≠0))/\(t=true->0<f.length/\(f.getD (f.length- 1) default).char=10):=by
 have hx:flowX t f 0=0↔∀x∈f,elemE x=0/\(t=false->x.ref≠0):=by
  rw[z6B _ 0 rfl]
  refine⟨fun h x hx=> ?_,fun h j _ hj=>h _ (z0n hj)⟩
  obtain⟨j,hj,rfl⟩:=z0R hx
  exact h j (qp _) hj
 by_cases h1:flowX t f 0=0
 ·rw[z4G h1]
  constructor
  ·intro h
   refine⟨hx.1 h1,fun ht=> ?_⟩
   split at h
   ·cases h
   ·rename_i q
    constructor
    ·apply qk;intro z;exact q ⟨ht,.inl (by omega)⟩
    ·apply qk;intro z;exact q ⟨ht,.inr z⟩
  ·rintro⟨_,h⟩
   rw[if_neg]
   rintro⟨a,b⟩
   have:=h a
   rcases b with b|b
   ·omega
   ·exact b this.2
 ·rw[z6v rfl h1]
  exact⟨fun h=>absurd h h1,fun h=>absurd (hx.2 h.1) h1⟩
theorem z10:∀(u v:List DU) (l r:List Elem),oldN u=l.length->z0h (u++v) (l++r)=z0h u l++z0h v r
 | [],v,l,r,h=>by
  have:l=[]:=qN (by simpa[oldN] using h.symm)
  subst this;rfl
 | .A e::u,v,l,r,h=>by rw[qe,z0h,z0h,z10 u v l r (by simpa[oldN] using h)];rfl
 | .K c::u,v,[],r,h=>by simp[oldN] at h
 | .C::u,v,[],r,h=>by simp[oldN] at h
 | .K c::u,v,x::l,r,h=>by rw[qe,qe,z0h,z0h,z10 u v l r (by simpa[oldN] using h)];rfl
 | .C::u,v,x::l,r,h=>by rw[qe,qe,z0h,z0h,z10 u v l r (by simpa[oldN] using h)]
theorem z8j{α:Type}[Inhabited α]{a b:List α}(h:0<b.length):(a++b).getD ((a++b).length- 1) default=b.getD (b.length- 1) default:=by
 rw[qc,qj,qP (by omega),qj,show a.length+b.length- 1-a.length=b.length- 1 by omega]
end Go.Ch
end
section
namespace Go.Ch
open Go Go.Ab
variable {U:US}
structure GP(U:US)(m:Nat)(l:List Node):Prop where
 vd:VD l
 nd:∀n∈l,NG U n/\NZ m n
theorem NZ.mono{m k:Nat}{n:Node}(h:NZ m n)(hm:m<=k):NZ k n:=⟨zd h.fl hm,zd h.ce hm,zd h.dr hm⟩
theorem GP.mono{m k:Nat}{l:List Node}(h:GP U m l)(hm:m<=k):GP U k l:=⟨h.vd,fun n hn=>⟨(h.nd n hn).1,(h.nd n hn).2.mono hm⟩⟩
end Go.Ch
end
section
namespace Go.Ch
open Go Go.Ab
variable {U:US}
structure PP(U:US)(s:Int)(k:Nat)(l:List Node):Prop where
 gp:GP U (10+4*k) l
 len:l.length<=3+k
 id:∀n∈l,n.id< (s+1)*65536/\(n.id<4+k\/65536<=n.id)
theorem PP.mono{s:Int}{k k':Nat}{l:List Node}(h:PP U s k l)(hk:k<=k'):PP U s k' l:=
 ⟨h.gp.mono (by omega),by have:=h.len;omega,fun n hn=>by have:=h.id n hn;omega⟩
theorem PP.docL(hU:UB U){s:Int}{k:Nat}{d:Doc}(h:PP U s k d.nodes)(hk:k<=60):DocL d:=y5k hU (m:=10+4*k) (q:=63) (by omega) (by omega) (by have:=h.len;omega) h.gp.nd
theorem PP.doc{s:Int}{k:Nat}{d:Doc}(h:PP U s k d.nodes):docE d=0:=y0N.2 h.gp.vd
theorem y64{l:List Node}{n:Node}(hl:∀x∈l,x.id<n.id):lobN l n.id=l.length:=by
 obtain⟨s1,s2,s3⟩:=z2z l n.id
 apply qk;intro q
 exact s3 (by omega) (hl _ (z0n (by omega)))
theorem y80(hU:UB U){s:Int}{k:Nat}{l:List Node}{o:EOp}(h:PP U s k l)(hk:k<=60)(hok:eopE o=0)(hop:OpL o)(hl:o.kind=0->∀x∈l,x.id<o.nw.id):OneB l o:=
 ⟨by have:=h.len;omega,h.gp.vd.srt,hok,hop,fun n hn=>⟨(h.gp.nd n hn).1.b hU (h.gp.nd n hn).2 (by omega),(h.gp.nd n hn).1.lite,(h.gp.nd n hn).1.kd⟩,fun q _=>y64 (hl q)⟩
theorem y81:NodeB ⟨0,0,[],[],⟨0,0,[],[]⟩,[]⟩:=
 ⟨(fun a h=>by cases h),by decide,(fun x h=>by cases h),by decide,(fun x h=>by cases h),(fun c h=>by cases h),by decide,(fun c h=>by cases h),by decide,by decide,(fun o h=>by cases h)⟩
theorem x0b:LiteE ⟨[],[],[],[],[]⟩:=⟨rfl,rfl,(fun c h=>by cases h),by decide⟩
theorem x0c{k n:Int}{w:Node}{a:List Attr}{s:List DStep}{c:List DOp}:EopL ⟨k,n,w,a,s,⟨[],[],[],[],[]⟩,c⟩:=⟨qp _,qp _,qp _,qp _,qp _⟩
theorem opL_F(hU:UB U){k:Int}{s:List DStep}{us:List DU}(hd:DU_ U s us):OpL (opF k s):=
 ⟨x0c,y81,⟨rfl,(fun c h=>by cases h)⟩,qp _,(hd.dn hU.len).mono (by omega),x0b,(fun c h=>by cases h),qp _⟩
end Go.Ch
end
section
namespace Go.Ch
open Go Go.Ab
variable {U:US}
structure UN(U:US):Prop extends UB U where
 ti:({data:=#[116,105,116,108,101]}:ByteArray)∈U
 bo:({data:=#[98,111,108,100]}:ByteArray)∈U
 si:({data:=#[115,105,122,101]}:ByteArray)∈U
 ma:({data:=#[109,97,114,107,46,109]}:ByteArray)∈U
 he:({data:=#[104,101,97,100]}:ByteArray)∈U
 li:({data:=#[108,105,115,116]}:ByteArray)∈U
 al:({data:=#[97,108,105,103,110]}:ByteArray)∈U
 ki:kindB∈U
theorem y2n(hU:UB U){s:Int}{k:Nat}{d:Doc}(h:PP U s k d.nodes)(hk:k<=60){S:Sel}{au:ByteArray}(hz:au∉U.no)(h0:atE d S au=0):
 PlB (atP d S au)/\(atP d S au).node.flow.length<=1048576/\(∀x∈(atP d S au).node.flow,RU U x)/\AuB U (atP d S au).author/\(0<=S.fr/\S.fr<=S.tq/\S.tq< ((atP d S au).shown.length:Int)):=by
 obtain⟨a1,a2,a3,a4,a5,a6⟩:=y8X h0
 have hm:=z0n (l:=d.nodes) (z03.1 a2).1
 obtain⟨g,z⟩:=h.gp.nd _ hm
 have hl:(ndN d.nodes S.nd).flow.length<=1048576:=by have:=z.fl;unfold ndN;omega
 rw[a6]
 exact⟨x0a hU g hl,hl,g.fl,⟨a5,hz⟩,a4⟩
theorem z9G(p:Pl)(s:Sel)(cs:List Int):(typEl p s cs).length=cs.length:=by simp[typEl]
theorem x0d{r:Int}{l:List Attr}(h:1<=r/\r<=1073741824)(hl:VU U false l):RU U ⟨0,r,l⟩:=by
 refine⟨?_,hl⟩
 rw[z32 (x:=⟨0,r,l⟩) (fun q=>by have:=q.1 rfl;simp only at this;omega) (.inl (by simp only;omega)) (.inr h)]
 exact z1H.2 hl.g
theorem nz_of{n:Node}(h1:n.flow.length<=10)(h2:n.grid.cells.length<=10)(h3:n.draw.length<=10):NZ 10 n:=⟨h1,h2,h3⟩
end Go.Ch
end
section
namespace Go.Ch
open Go Go.Ab
def UC:List ByteArray:=[addB,cutB,{data:=#[116,105,116,108,101]},{data:=#[98,111,108,100]},{data:=#[115,105,122,101]},{data:=#[109,97,114,107,46,109]},{data:=#[104,101,97,100]},{data:=#[108,105,115,116]},{data:=#[97,108,105,103,110]},kindB]
theorem z9H(V:List ByteArray)(hV:V.length<=90)(Z:List ByteArray)(hZ:∀v∈Z,v=zzB):UN ⟨UC++V,Z⟩:=by
 have h:∀x∈UC,x∈(⟨UC++V,Z⟩:US):=fun x hx=>List.mem_append_left _ hx
 exact⟨⟨by show(UC++V).length<=100;rw[qc];have:UC.length=10:=rfl;omega,hZ,h _ (by simp[UC]),h _ (by simp[UC])⟩,h _ (by simp[UC]),h _ (by simp[UC]),h _ (by simp[UC]),h _ (by simp[UC]),h _ (by simp[UC]),h _ (by simp[UC]),h _ (by simp[UC]),h _ (by simp[UC])⟩
def GK(U:US)(s:Int)(k:Nat)(d:Doc):Prop:=k<=57/\PP U s k d.nodes
variable {U:US}
theorem y82(hN:UN U):GK U 0 0 baseD:=by
 have hx:∀n∈baseD.nodes,NG U n/\NZ 10 n:=fun n hn=>by
  have hc:∀c:Int,CharP c->c≠0->RU U ⟨c,0,[]⟩:=fun c h1 h2=>y0L h1 h2 VU.nil
  simp only[baseD,qn,qV,or_false] at hn
  rcases hn with rfl|rfl|rfl
  ·refine⟨⟨VU.nil,fun x hx=> ?_,rfl,(fun x h=>by cases h),(fun x h=>by cases h),(by decide:(0:Int)≠6)⟩,nz_of (by simp) (by simp) (by simp)⟩
   simp only[qn,qV,or_false] at hx
   rcases hx with rfl|rfl<;>exact x0d (by omega) VU.nil
  ·refine⟨⟨VU.nil,fun x hx=> ?_,rfl,(fun x h=>by cases h),(fun x h=>by cases h),(by decide:(1:Int)≠6)⟩,nz_of (by simp) (by simp) (by simp)⟩
   simp only[qn,qV,or_false] at hx
   rcases hx with rfl|rfl|rfl|rfl|rfl|rfl<;>exact hc _ (by decide) (by decide)
  ·exact⟨⟨VU.nil,(fun x h=>by cases h),rfl,(fun x h=>by cases h),(fun x h=>by cases h),(by decide:(10:Int)≠6)⟩,nz_of (by simp) (by simp) (by simp)⟩
 refine⟨by omega,⟨y0N.1 (by decide+kernel),hx⟩,by decide,fun n hn=> ?_⟩
 simp only[baseD,qn,qV,or_false] at hn
 rcases hn with rfl|rfl|rfl<;>simp
end Go.Ch
end
section
namespace Go.Ch
open Go Go.Ab
variable {U:US}
def TX(l:List Node):Prop:=∃n∈l,n.id=2/\n.kind=1
theorem y83:TX baseD.nodes:=⟨⟨2,1,[],[⟨97,0,[]⟩,⟨98,0,[]⟩,⟨99,0,[]⟩,⟨10,0,[]⟩,⟨100,0,[]⟩,⟨10,0,[]⟩],⟨0,0,[],[]⟩,[]⟩,by simp[baseD],rfl,rfl⟩
structure DX(U:US)(d:Doc):Prop where
 pp:PP U 0 38 d.nodes
 tx:TX d.nodes
variable {d:Doc}
theorem DX.nd(h:DX U d):hasN d.nodes 2=true/\lobN d.nodes 2<d.nodes.length/\(ndN d.nodes 2).id=2/\(ndN d.nodes 2).kind=1/\ndN d.nodes 2∈d.nodes:=by
 obtain⟨n,hn,h1,h2⟩:=h.tx
 have hh:hasN d.nodes 2=true:=h.pp.gp.vd.has.2 ⟨n,hn,h1⟩
 obtain⟨a,b⟩:=z03.1 hh
 obtain⟨j,hj,rfl⟩:=z0R hn
 have e:=y0M h.pp.gp.vd.srt a hj (b.trans h1.symm)
 refine⟨hh,a,b,?_,z0n a⟩
 unfold ndN;rw[e];exact h2
theorem y84{l:List Attr}{n:ByteArray}(h:VG false l):gotA l n=hasA l n:=by
 have a:=y6Z (n:=n) h
 have b:=z9z (l:=l) (n:=n)
 cases h1:gotA l n<;>cases h2:hasA l n<;>simp_all
theorem y85{f:List Elem}{i:Nat}(h:VG false (f.getD i default).attrs):shwB f i=visB f 0 i:=by
 unfold shwB visB hidX
 rw[y84 h]
 have e:((f.getD i default).char==10)=decide ((f.getD i default).char=10):=by
  by_cases q:(f.getD i default).char=10
  ·rw[decide_eq_true q,beq_iff_eq];exact q
  ·rw[decide_eq_false q,beq_eq_false_iff_ne];exact q
 rw[e]
 cases hasA (f.getD i default).attrs cutB<;>cases seq (getA (f.getD i default).attrs hidB 0) onB<;>simp
theorem y86{f:List Elem}(h:∀x∈f,VG false x.attrs):shwR f f.length=plcL f 0 f.length:=by
 unfold shwR plcL plcN
 congr 1
 refine List.filter_congr fun i hi=>y85 (h _ (z0n (List.mem_range.1 hi)))
structure FX(U:US)(f:List Elem):Prop where
 ru:∀x∈f,RU U x
 pos:0<f.length
 last:(f.getD (f.length- 1) default).char=10
theorem DX.flow(h:DX U d):FX U (ndN d.nodes 2).flow/\(ndN d.nodes 2).flow.length<=162:=by
 obtain⟨h1,h2,h3,h4,h5⟩:=h.nd
 obtain⟨g,z⟩:=h.pp.gp.nd _ h5
 obtain⟨p1,p2,p3,p4,p5,p6,p7⟩:=y3b (h.pp.gp.vd.node _ h5)
 have ht:hasT (ndN d.nodes 2).kind=true:=by rw[h4];decide
 have hz:=y5o.1 (p5 (.inl ht))
 have hl:=hz.2 ht
 exact⟨⟨g.fl,hl.1,hl.2⟩,by have:=z.fl;omega⟩
theorem DX.at(h:DX U d){a b:Int}{au:ByteArray}(ha:0<=a/\a<=b/\b< ((plcL (ndN d.nodes 2).flow 0 (ndN d.nodes 2).flow.length).length:Int))(hau:seq au {data:=#[]}=true\/valGo au=true):
 atE d ⟨2,a,b⟩ au=0/\atP d ⟨2,a,b⟩ au=⟨ndN d.nodes 2,plcL (ndN d.nodes 2).flow 0 (ndN d.nodes 2).flow.length,au⟩:=by
 obtain⟨h1,h2,h3,h4,h5⟩:=h.nd
 have r:=at_6 (d:=d) (s:=⟨2,a,b⟩) (au:=au) h.pp.doc h1 (by show hasT (ndN d.nodes 2).kind=true;rw[h4];decide) ⟨⟨ha.1,ha.2.1⟩,ha.2.2⟩ hau
 exact⟨r.2,r.1⟩
def lastK(us:List DU):Bool:=match us.getLast? with
 |some (.K _)=>true
 |_=>false
theorem z16(x y:DU)(u:List DU):lastK (x::y::u)=lastK (y::u):=by
 unfold lastK;rw[List.getLast?_cons_cons]
theorem y5p{u v:List DU}(h:DSw u v):lastK u=lastK v:=by
 induction h with
 |refl u=>rfl
 |cons x h ih=>
  have hl:=y4h h
  rename_i u v
  cases u with
  |nil=>cases v with
   |nil=>rfl
   |cons y v=>simp at hl
  |cons y u=>cases v with
   |nil=>simp at hl
   |cons z v=>rw[z16,z16];exact ih
 |swap e u=>cases u with
  |nil=>rfl
  |cons y u=>rw[z16,z16,z16,z16]
 |symm h ih=>exact ih.symm
 |trans h k ih1 ih2=>exact ih1.trans ih2
theorem z3z(u:List DU){v:List DU}(h:v≠[]):lastK (u++v)=lastK v:=by
 unfold lastK
 rw[List.getLast?_append]
 cases hv:v.getLast? with
 |none=>exact absurd (List.getLast?_eq_none_iff.1 hv) h
 |some x=>rfl
theorem y87{s:List DStep}(hv:z0D s)(h:lastK (exD s)=true):endsD s=true:=by
 have hne:s≠[]:=fun e=>by rw[e] at h;exact absurd h (by decide)
 obtain⟨t,ht⟩:∃t,s=s.dropLast++[t]:=⟨s.getLast hne,(List.dropLast_concat_getLast hne).symm⟩
 generalize s.dropLast=i at ht
 subst ht
 have hg:(i++[t]).getD ((i++[t]).length- 1) default=t:=by rw[z8j (by simp)];rfl
 have hk:t.kind=0:=by
  apply qk;intro q
  have ho:=hv.1.all t (by simp)
  rw[z4X,show exD [t]=exS t by simp[exD]] at h
  unfold exS at h
  by_cases q1:t.kind=1
  ·rw[if_pos q1] at h
   have he:t.elems≠[]:=by
    rcases ho with⟨_,_,_,q,_⟩| ⟨q,_⟩
    ·exact q
    ·omega
   rw[z3z _ (by simpa using he)] at h
   unfold lastK at h
   rw[List.getLast?_map] at h
   cases hl:t.elems.getLast? with
   |none=>exact he (List.getLast?_eq_none_iff.1 hl)
   |some x=>rw[hl] at h;simp at h
  ·have q2:t.kind=2:=by
    rcases ho with⟨k,_⟩| ⟨k,_⟩
    ·omega
    ·omega
   have hn:1<=t.n:=by
    rcases ho with⟨k,_⟩| ⟨_,e,_,n,_⟩
    ·omega
    ·exact n
   rw[if_neg q1,if_pos q2] at h
   rw[z3z _ (by intro z;have:=congrArg List.length z;simp at this;omega)] at h
   unfold lastK at h
   rw[List.getLast?_replicate,if_neg (by omega)] at h
   cases h
 unfold endsD
 rw[hg,hk]
 simp
theorem z9I{s:List DStep}{t:DStep}{x:Elem}(ht:t∈s)(hk:t.kind=1)(hx:x∈t.elems):DU.A x∈exD s:=by
 induction s with
 |nil=>cases ht
 |cons y s ih=>
  rw[exD]
  rcases qn.1 ht with rfl|q
  ·refine List.mem_append_left _ ?_
   unfold exS;rw[if_pos hk];exact qy.2 ⟨x,hx,rfl⟩
  ·exact List.mem_append_right _ (ih q)
theorem z7h:∀{us:List DU},(∀u∈us,UU U u)->UOk us
 | [],_=>trivial
 | .K c::us,h=>⟨VU.g (show VU U true c from h (.K c) (by simp)),z7h (fun u hu=>h u (qJ _ hu))⟩
 | .A _::us,h=>z7h (us:=us) (fun u hu=>h u (qJ _ hu))
 | .C::us,h=>z7h (us:=us) (fun u hu=>h u (qJ _ hu))
theorem x0e{U:US}{n:Int}{s:List DStep}{us:List DU}(hn:1<=n/\n<=1073741824)(hd:DU_ U s us):eopE (opF n s)=0:=by
 unfold eopE
 rw[if_neg (by show¬((2:Int)< 0\/4< (2:Int));decide)]
 have hu:unuO (opF n s)=false:=by
  unfold unuO opF
  simp only[show((2:Int)==0)=false from rfl,show((2:Int) !=0)=true from rfl,show((2:Int) !=1)=true from rfl,show((2:Int) !=2)=false from rfl,show((2:Int) !=3)=true from rfl,show((2:Int) !=4)=true from rfl,Bool.false_and,Bool.true_and,Bool.false_or]
  rw[show z0K ⟨0,0,[],[],⟨0,0,[],[]⟩,[]⟩=true by decide+kernel,show anyG ⟨[],[],[],[],[]⟩=false by decide+kernel]
  rfl
 rw[if_neg (by rw[hu];decide),if_neg (show¬(opF n s).kind=0 from(by decide:¬(2:Int)=0)),if_neg (by show¬(n<1\/1073741824<n);omega),if_neg (show¬(opF n s).kind=1 from(by decide:¬(2:Int)=1)),if_pos (show(opF n s).kind=2 from rfl)]
 exact z0S.2 hd.v
def putF(d:Doc)(f:List Elem):Doc:=⟨d.nodes.set (lobN d.nodes 2) {(ndN d.nodes 2) with flow:=f}⟩
theorem DX.op(h:DX U d){U':US}(hU:UB U')(hp:PP U' 0 38 d.nodes){s:List DStep}{us:List DU}(hd:DU_ U' s us)(ho:oldN us=(ndN d.nodes 2).flow.length)(hk:lastK us=true)(ha:∀t∈s,∀x∈t.elems,x.ref=0):
 AppB d [opF 2 s]/\appE d [opF 2 s]=0/\appD d [opF 2 s]=putF d (z0h us (ndN d.nodes 2).flow):=by
 obtain⟨h1,h2,h3,h4,h5⟩:=h.nd
 have e0:eopE (opF 2 s)=0:=x0e (by decide) hd
 have hO:=opL_F hU (k:=2) hd
 have hb:=y80 hU hp (by omega) e0 hO (fun q=>absurd q (show¬(2:Int)=0 by decide))
 have hl:=hd.lens
 have hT:hasT (ndN d.nodes 2).kind=true:=by rw[h4];decide
 have hf:z05 d.nodes (ndN d.nodes 2) s=0:=by
  unfold z05
  rw[if_neg (by rw[hT];simp),if_neg (by omega),if_neg (by rw[y87 hd.v (by rw[y5p hd.sw];exact hk)];simp)]
  refine z7e fun t ht=>z7e fun x hx=> ?_
  have hr:=ha t ht x hx
  unfold newE
  rw[if_neg (by rw[hT];simp)]
  have:refsF [x]=[]:=by unfold refsF;simp[hr]
  rw[this,refsE,if_neg (by simp)]
 have e1:oneE d.nodes (opF 2 s)=0:=(one_3 (o:=opF 2 s) h1 rfl).2.trans hf
 have e2:=one_s (o:=opF 2 s) (show(2:Int)≠0 by decide) e1
 have hv:eopsE [opF 2 s] 0=0:=y6X.2 fun o ho=>by rw[qK] at ho;subst ho;exact e0
 have hr:runE d.nodes [opF 2 s]=0:=by rw[runE,if_neg (fun q=>q e1)];rfl
 have hb2:AppB d [opF 2 s]:=⟨hp.docL hU (by omega),fun o ho=>by rw[qK] at ho;subst ho;exact hO,fun _ _=>⟨hb,fun _=>trivial⟩⟩
 have h4':=app_4 h.pp.doc hv hr (rfl:runL d.nodes [opF 2 s]=_)
 refine⟨hb2,h4'.2,?_⟩
 rw[h4'.1]
 show(⟨oneL d.nodes (opF 2 s)⟩:Doc)=_
 rw[e2]
 have:rawD (ndN d.nodes 2).flow s=z0h us (ndN d.nodes 2).flow:=z81 hd.sw _
 unfold putF
 rw[<-this]
 rfl
theorem z9J(h:DX U d)(f:List Elem):nodeF (putF d f) 2={(ndN d.nodes 2) with flow:=f}/\nodeH (putF d f) 2=true:=by
 obtain⟨h1,h2,h3,h4,h5⟩:=h.nd
 have hl:∀j,((putF d f).nodes.getD j default).id=(d.nodes.getD j default).id:=fun j=>by
  unfold putF
  by_cases e:lobN d.nodes 2=j
  ·rw[<-e,qj,List.getElem?_set_self h2];rfl
  ·rw[qj,List.getElem?_set_ne e,<-List.getD_eq_getElem?_getD]
 have hn:(putF d f).nodes.length=d.nodes.length:=by unfold putF;rw[zq]
 rcases z3y (putF d f).nodes 2 (putF d f).nodes.length 0 (by omega) with⟨_,q⟩| ⟨j,q1,_,q2,q3⟩
 ·exact absurd ((hl _).trans h3) (q _ (qp _) (by rw[hn];exact h2))
 ·have e:=y0M h.pp.gp.vd.srt h2 (by rw[<-hn];exact q2) (h3.trans ((hl j).symm.trans q3).symm)
  have:=y5f q1
  refine⟨this.1.trans ?_,this.2⟩
  rw[<-e]
  unfold putF
  rw[qj,List.getElem?_set_self h2];rfl
end Go.Ch
end
section
namespace Go.Ch
open Go Go.Ab
variable {U:US}
theorem z7i{u v:List DU}(h:DSw u v):((∀e,DU.A e∉u)\/DU.C∉u)->u=v:=by
 induction h with
 |refl u=>exact fun _=>rfl
 |cons x h ih=>
  intro q
  rw[ih (q.imp (fun a e he=>a e (qJ _ he)) (fun a he=>a (qJ _ he)))]
 |swap e u=>
  rintro(q|q)
  ·exact absurd (by simp) (q e)
  ·exact absurd (by simp) q
 |symm h ih=>
  intro q
  exact(ih (q.imp (fun a e he=>a e ((z3t h _).1 he)) (fun a he=>a ((z3t h _).1 he)))).symm
 |trans h k ih1 ih2=>
  intro q
  have e:=ih1 q
  exact e.trans (ih2 (by rw[<-e];exact q))
theorem z8k:∀(e:List DU) (p q:List DU),(∀x,DU.A x∉e)->(z0a (List.replicate e.length (.K [])++p) (e++q)).2=e++(z0a p q).2
 | [],p,q,_=>rfl
 | .K d::e,p,q,h=>by
  rw[qi,qo,qe,qe,z0a,z8k e p q (fun x hx=>h x (qJ _ hx))]
  rfl
 | .C::e,p,q,h=>by
  rw[qi,qo,qe,qe,z0a,z8k e p q (fun x hx=>h x (qJ _ hx))]
  rfl
 | .A x::e,p,q,h=>absurd (by simp) (h x)
theorem y5q:∀(es:List Elem) (p q:List DU),(z0a (es.map .A++p) q).2=List.replicate es.length (.K [])++(z0a p q).2
 | [],p,q=>rfl
 |x::es,p,q=>by
  rw[q9,qe,z0a,y5q es p q,qi,qo];rfl
theorem y5r(p q:List DU)(h:DU.C∉p):DU.C∉(z0a p q).1:=by
 induction p,q using z0a.induct with
 |case1 e p q ih=>rw[z0a];intro z;rcases qn.1 z with z|z;(cases z);exact ih (fun y=>h (qJ _ y)) z
 |case2 e q ih=>rw[z0a];intro z;rcases qn.1 z with z|z;(cases z);exact ih h z
 |case3 c p e q ih=>rw[z0a];intro z;rcases qn.1 z with z|z;(cases z);exact ih h z
 |case4 p e q ih=>exact absurd (by simp) h
 |case5 c p d q ih=>rw[z0a];intro z;rcases qn.1 z with z|z;(cases z);exact ih (fun y=>h (qJ _ y)) z
 |case6 c p q ih=>rw[z0a];exact ih (fun y=>h (qJ _ y))
 |case7 p d q ih=>exact absurd (by simp) h
 |case8 p q ih=>exact absurd (by simp) h
 |case9 p hne=>rw[show z0a p []=([],[]) by unfold z0a;split<;>simp_all];simp
 |case10 q h1 h2=>rw[show z0a [] q=([],[]) by unfold z0a;split<;>simp_all];simp
theorem y88(p q:List DU){x:Elem}(h:DU.A x∈(z0a p q).1):DU.A x∈p:=by
 induction p,q using z0a.induct with
 |case1 e p q ih=>rw[z0a] at h;rcases qn.1 h with z|z;(rw[z];simp);exact qJ _ (ih z)
 |case2 e q ih=>rw[z0a] at h;rcases qn.1 h with z|z;(cases z);exact ih z
 |case3 c p e q ih=>rw[z0a] at h;rcases qn.1 h with z|z;(cases z);exact ih z
 |case4 p e q ih=>rw[z0a] at h;rcases qn.1 h with z|z;(cases z);exact ih z
 |case5 c p d q ih=>rw[z0a] at h;rcases qn.1 h with z|z;(cases z);exact qJ _ (ih z)
 |case6 c p q ih=>rw[z0a] at h;exact qJ _ (ih h)
 |case7 p d q ih=>rw[z0a] at h;rcases qn.1 h with z|z;(cases z);exact qJ _ (ih z)
 |case8 p q ih=>rw[z0a] at h;exact qJ _ (ih h)
 |case9 p hne=>rw[show z0a p []=([],[]) by unfold z0a;split<;>simp_all] at h;cases h
 |case10 q h1 h2=>rw[show z0a [] q=([],[]) by unfold z0a;split<;>simp_all] at h;cases h
theorem x0f(p q:List DU)(hp:∀e,DU.A e∉p){x:Elem}(h:DU.A x∈z0g p q):DU.A x∈q:=by
 induction p,q using z0g.induct with
 |case1 q p ih=>rw[z0g] at h;rcases qn.1 h with z|z;(cases z);exact ih (fun e y=>hp e (qJ _ y)) z
 |case2 p e q hne ih=>
  rw[z0g] at h
  rotate_left
  ·exact hne
  rcases qn.1 h with z|z;(rw[z];simp);exact qJ _ (ih hp z)
 |case3 c p d q ih=>rw[z0g] at h;rcases qn.1 h with z|z;(cases z);exact qJ _ (ih (fun e y=>hp e (qJ _ y)) z)
 |case4 c p q ih=>rw[z0g] at h;rcases qn.1 h with z|z;(cases z);exact qJ _ (ih (fun e y=>hp e (qJ _ y)) z)
 |case5 e p d q ih=>exact absurd (by simp) (hp e)
 |case6 e p q ih=>exact absurd (by simp) (hp e)
 |case7 p hne=>rw[show z0g p []=p by unfold z0g;split<;>simp_all] at h;exact absurd h (hp x)
 |case8 q h1 h2=>rw[show z0g [] q=[] by unfold z0g;split<;>simp_all] at h;cases h
theorem y5s(p q:List DU)(c d:List Attr)(hm:oldN p=oldN q):(z0a (p++[.K c]) (q++[.K d])).1=(z0a p q).1++[.K (fm wioG c d)]:=by
 have base:(z0a [.K c] [.K d]).1=[.K (fm wioG c d)]:=by rw[z0a,show z0a [] []=([],[]) by unfold z0a;rfl]
 induction p,q using z0a.induct with
 |case1 e p q ih=>rw[qe,z0a,z0a,ih (by simpa[oldN] using hm)];rfl
 |case2 e q ih=>
  have ih:=ih (by simpa[oldN] using hm)
  rw[zo] at ih
  rw[zo,qe,z0a,z0a,ih];rfl
 |case3 c' p e q ih=>
  have ih:=ih (by simpa[oldN] using hm)
  rw[qe] at ih
  rw[qe,qe,z0a,z0a,ih];rfl
 |case4 p e q ih=>
  have ih:=ih (by simpa[oldN] using hm)
  rw[qe] at ih
  rw[qe,qe,z0a,z0a,ih];rfl
 |case5 c' p d' q ih=>rw[qe,qe,z0a,z0a,ih (by simpa[oldN] using hm)];rfl
 |case6 c' p q ih=>rw[qe,qe,z0a,z0a,ih (by simpa[oldN] using hm)]
 |case7 p d' q ih=>rw[qe,qe,z0a,z0a,ih (by simpa[oldN] using hm)];rfl
 |case8 p q ih=>rw[qe,qe,z0a,z0a,ih (by simpa[oldN] using hm)]
 |case9 p hne=>
  cases p with
  |nil=>rw[show z0a [] []=([],[]) by unfold z0a;rfl];exact base
  |cons x p=>cases x<;>simp_all[oldN]
 |case10 q h1 h2=>
  cases q with
  |nil=>rw[show z0a [] []=([],[]) by unfold z0a;rfl];exact base
  |cons x q=>cases x<;>simp_all[oldN]
theorem y5t(p q:List DU)(c d:List Attr)(hm:newN p=oldN q)(ha:∀e,DU.A e∉p):z0g (p++[.K c]) (q++[.K d])=z0g p q++[.K (fm botG c d)]:=by
 have base:z0g [.K c] [.K d]=[.K (fm botG c d)]:=by rw[z0g,show z0g [] []=[] by unfold z0g;rfl]
 induction p,q using z0g.induct with
 |case1 q p ih=>rw[qe,z0g,z0g,ih (by simpa[newN] using hm) (fun e y=>ha e (qJ _ y))];rfl
 |case2 p e q hne ih=>
  have ih:=ih (by simpa[oldN] using hm) ha
  rw[qe,z0g,z0g,ih]
  ·rfl
  ·exact hne
  ·intro p' hp
   cases p with
   |nil=>simp at hp
   |cons x p=>
    rw[qe] at hp
    injection hp with h1 h2
    subst h1
    exact hne _ rfl
 |case3 c' p d' q ih=>rw[qe,qe,z0g,z0g,ih (by simpa[newN,oldN] using hm) (fun e y=>ha e (qJ _ y))];rfl
 |case4 c' p q ih=>rw[qe,qe,z0g,z0g,ih (by simpa[newN,oldN] using hm) (fun e y=>ha e (qJ _ y))];rfl
 |case5 e p d' q ih=>exact absurd (by simp) (ha e)
 |case6 e p q ih=>exact absurd (by simp) (ha e)
 |case7 p hne=>
  cases p with
  |nil=>rw[show z0g [] []=[] by unfold z0g;rfl];exact base
  |cons x p=>cases x<;>simp_all[oldN,newN]
 |case8 q h1 h2=>
  cases q with
  |nil=>rw[show z0g [] []=[] by unfold z0g;rfl];exact base
  |cons x q=>cases x<;>simp_all[oldN,newN]
theorem y2o(p q:List DU)(hm:oldN p=oldN q):oldN (z0a p q).1=newN q:=by
 induction p,q using z0a.induct with
 |case9 p hne=>
  rw[show z0a p []=([],[]) by unfold z0a;split<;>simp_all];rfl
 |case10 q h1 h2=>
  rw[show z0a [] q=([],[]) by unfold z0a;split<;>simp_all]
  cases q with
  |nil=>rfl
  |cons x q=>cases x<;>simp_all[oldN]
 |_=>rw[z0a];simp only[oldN,newN] at*;omega
theorem z7j(u:List DU)(c:List Attr):lastK (u++[.K c])=true:=by rw[z3z _ (by simp)];rfl
theorem y5u(f:List Elem)(pl:List Int)(au:ByteArray){k n:Nat}(h:k<=n):ersUs f pl au n=ersUs f pl au k++(List.range' k (n-k)).map (ersU f pl au):=by
 unfold ersUs
 rw[z8,z8,<-List.map_append,show n=k+(n-k) by omega,<-List.range'_append_1,zB,show k+(n-k)- k=n-k by omega]
theorem y5v{f:List Elem}{pl:List Int}{au:ByteArray}{l:List Nat}:∀e,DU.A e∉l.map (ersU f pl au):=fun e h=>by
 obtain⟨i,_,h⟩:=qy.1 h
 unfold ersU at h
 repeat' split at h
 all_goals cases h
theorem z4J{f:List Elem}{pl:List Int}{au:ByteArray}{n:Nat}:∀e,DU.A e∉ersUs f pl au n:=y5v
def ersG(f:List Elem)(pl:List Int)(au:ByteArray)(l:List Nat):List Elem:=
 (l.filter fun i:Nat=> !(pl.any (fun p=>p==(i:Int))&&(seq au mtB||seq (getA (f.getD i default).attrs addB 0) au))).map fun i:Nat=>if pl.any (fun p=>p==(i:Int))=true then chgE [⟨cutB,au⟩] (f.getD i default) else f.getD i default
theorem z9K{f g:List Elem}{pl:List Int}{au:ByteArray}{s n:Nat}(h:s+n=g.length)(hg:∀i,s<=i->i<g.length->g.getD i default=f.getD i default):
 z0h ((List.range' s n).map (ersU f pl au)) (g.drop s)=ersG f pl au (List.range' s n):=by
 have hk:=z9b (fun i:Nat=>pl.any (fun p=>p==(i:Int))&&(seq au mtB||seq (getA (f.getD i default).attrs addB 0) au)) (fun i:Nat=>if pl.any (fun p=>p==(i:Int))=true then[⟨cutB,au⟩] else[]) g n s h
 have e:(List.range' s n).map (ersU f pl au)=(List.range' s n).map fun i:Nat=>if(pl.any (fun p=>p==(i:Int))&&(seq au mtB||seq (getA (f.getD i default).attrs addB 0) au))=true then DU.C else .K (if pl.any (fun p=>p==(i:Int))=true then[⟨cutB,au⟩] else[]):=by
  refine zz fun i _=> ?_
  unfold ersU
  cases h1:pl.any (fun p=>p==(i:Int)) with
  |true=>cases h2:(seq au mtB||seq (getA (f.getD i default).attrs addB 0) au)<;>simp
  |false=>simp
 rw[e,hk]
 unfold ersG
 refine zz fun i hi=> ?_
 have hi:=ja.1 (zF.1 hi).1
 rw[hg i hi.1 (by omega)]
 split
 ·rfl
 ·exact z1L _
def typG(f:List Elem)(pl:List Int)(au:ByteArray)(k:Nat)(es:List Elem):List Elem:=ersG f pl au (List.range' 0 k)++(es.map (typE au)++ersG f pl au (List.range' k (f.length-k)))
theorem y3c{E1 E2:List DU}{es f1 f2:List Elem}(h1:oldN E1=f1.length):z0h (E1++(List.replicate es.length (.K [])++E2)) (f1++(es++f2))=z0h E1 f1++(es++z0h E2 f2):=by
 rw[z10 _ _ _ _ h1,z2N,List.take_left,List.drop_left]
 congr 2
 rw[zz (g:=id) (fun x _=>z1L x),List.map_id]
theorem y5w(hU:UB U){f:List Elem}{pl:List Int}{au:ByteArray}{k:Nat}{es:List Elem}(hf:f.length<=1048576)(hn:∀x∈f,RU U x)(ha:AuB U au)(hk:k<f.length)(hl:es.length<=1048576)(he:∀x∈es,RU U x)(h0:∀x∈es,x.ref=0)
 (hlast:pl.any (fun p=>p==((f.length- 1:Nat):Int))=false):
 ∃us,DU_ U (joinD (ersD f pl au) (z00 (typD f.length k es au) (ersD f pl au))) us/\oldN us=f.length/\lastK us=true/\(∀t∈joinD (ersD f pl au) (z00 (typD f.length k es au) (ersD f pl au)),∀x∈t.elems,x.ref=0)/\z0h us f=typG f pl au k es:=by
 obtain⟨_,T⟩:=y0J hU.len (n:=f.length) (k:=(k:Int)) (es:=es) (au:=au) (by omega) (by omega) (by omega) (z9E hU ha) he
 obtain⟨_,E⟩:=y0K hU.len (f:=f) (pl:=pl) (au:=au) (by omega) (y5n hU ha)
 rw[show(k:Int).toNat=k by omega] at T
 have tf:=z2j (n:=f.length) (k:=k) (es:=es) (au:=au) (by omega)
 have ef:=z2k f pl au f.length
 have tl:=T.lens
 have el:=E.lens
 obtain⟨P,p1,p2⟩:=z6A hU.len T E (by omega) (by omega)
 obtain⟨J,j1,j2⟩:=z8i hU.len E P p1.symm
 have nC:DU.C∉typUs f.length k es au:=fun h=>by
  unfold typUs at h
  rcases qm.1 h with h|h
  ·cases zf h
  ·rcases qm.1 h with h|h
   ·obtain⟨_,_,h⟩:=qy.1 h;cases h
   ·cases zf h
 have eT:exD (typD f.length k es au)=typUs f.length k es au:=(z7i T.sw.symm (.inr nC)).symm
 have eE:exD (ersD f pl au)=ersUs f pl au f.length:=(z7i E.sw.symm (.inl z4J)).symm
 rw[eT,eE] at P
 have eP:exD (z00 (typD f.length k es au) (ersD f pl au))=(z0a (typUs f.length k es au) (ersUs f pl au f.length)).1:=(z7i P.sw.symm (.inr (y5r _ _ nC))).symm
 rw[eE,eP] at J
 have hE:ersUs f pl au f.length=ersUs f pl au (f.length- 1)++[.K []]:=by
  rw[y5u f pl au (show f.length- 1<=f.length by omega),show f.length- (f.length- 1)=1 by omega]
  congr 1
  show[ersU f pl au (f.length- 1)]=_
  unfold ersU;rw[if_neg (by rw[hlast];decide)]
 have hT:typUs f.length k es au=typUs (f.length- 1) k es au++[.K []]:=by
  unfold typUs
  rw[show f.length-k=(f.length- 1-k)+1 by omega,List.replicate_succ',qE,qE]
 have tf':=z2j (n:=f.length- 1) (k:=k) (es:=es) (au:=au) (by omega)
 have ef':=z2k f pl au (f.length- 1)
 have hq:(z0a (typUs f.length k es au) (ersUs f pl au f.length)).1=(z0a (typUs (f.length- 1) k es au) (ersUs f pl au (f.length- 1))).1++[.K (fm wioG [] [])]:=by
  rw[hT,hE,y5s _ _ _ _ (by omega)]
 refine⟨_,J,?_,?_,fun t ht x hx=> ?_,?_⟩
 ·have:=J.lens;omega
 ·rw[hq,hE,y5t _ _ _ _ (by rw[y2o _ _ (by omega)]) z4J];exact z7j _ _
 ·have hA:DU.A x∈exD (joinD (ersD f pl au) (z00 (typD f.length k es au) (ersD f pl au))):=z9I ht (by
   rcases J.v.1.all t ht with q| ⟨_,e,_⟩
   ·exact q.1
   ·rw[e] at hx;cases hx) hx
  have h1:=y88 _ _ (x0f _ _ z4J ((z3t J.sw _).1 hA))
  unfold typUs at h1
  rcases qm.1 h1 with h1|h1
  ·cases zf h1
  ·rcases qm.1 h1 with h1|h1
   ·obtain⟨y,hy,h1⟩:=qy.1 h1
    cases h1
    obtain⟨z,hz,rfl⟩:=qy.1 hy
    exact h0 z hz
   ·cases zf h1
 ·have vf:∀x∈f,VG false x.attrs:=fun x hx=>(hn x hx).2.g
  have okE:UOk (ersUs f pl au f.length):=z7h E.all
  have okT:UOk (typUs f.length k es au):=z7h T.all
  have okP:UOk (z0a (typUs f.length k es au) (ersUs f pl au f.length)).1:=z7h P.all
  rw[z08 _ _ _ f (qr _) ef.1 (by rw[y2o _ _ (by omega)]) okE okP vf,<-(z0N _ _ _ f (qr _) tf.1 ef.1 okT okE vf).1]
  have a1:z0h (typUs f.length k es au) f=f.take k++(es.map (typE au)++f.drop k):=by
   unfold typUs
   rw[z2N,z2M,zz (g:=id) (fun x _=>z1L x),List.map_id]
   congr 2
   have:=z2N (f.length-k) [] [] (f.drop k)
   rw[qQ] at this
   rw[this,zz (g:=id) (fun x _=>z1L x),List.map_id,qw (by rw[zI];omega)]
   simp[z0h]
  have b1:(z0a (typUs f.length k es au) (ersUs f pl au f.length)).2=ersUs f pl au k++(List.replicate (es.map (typE au)).length (.K [])++(List.range' k (f.length-k)).map (ersU f pl au)):=by
   have l1:(ersUs f pl au k).length=k:=by simp[ersUs]
   have l2:((List.range' k (f.length-k)).map (ersU f pl au)).length=f.length-k:=by simp
   rw[y5u f pl au (Nat.le_of_lt hk)]
   unfold typUs
   have:=z8k (ersUs f pl au k) ((es.map (typE au)).map .A++List.replicate (f.length-k) (.K [])) ((List.range' k (f.length-k)).map (ersU f pl au)) z4J
   rw[l1] at this
   rw[this,y5q]
   congr 2
   have:=z8k ((List.range' k (f.length-k)).map (ersU f pl au)) [] [] y5v
   rw[l2,qQ,qQ] at this
   rw[this,show z0a [] []=([],[]) by unfold z0a;rfl,qQ]
  rw[a1,b1,y3c (by rw[(z2k f pl au k).1,qX];omega)]
  unfold typG
  congr 1
  ·have:=z9K (f:=f) (g:=f.take k) (pl:=pl) (au:=au) (s:=0) (n:=k) (by rw[qX];omega) (fun i _ hi=>by
    rw[qX] at hi
    rw[qj,List.getElem?_take_of_lt (by omega),<-List.getD_eq_getElem?_getD])
   rw[zS] at this
   unfold ersUs
   rw[z8]
   exact this
  ·congr 1
   exact z9K (by omega) (fun i _ _=>rfl)
def visF(f:List Elem):List Elem:=(plcN f 0 f.length).map fun i=>f.getD i default
theorem z9L{q:Elem->Bool}{f:List Elem}:∀m,m<=f.length->((List.range m).filter fun i=>q (f.getD i default)).map (fun i=>f.getD i default)=(f.take m).filter q
 |0,_=>by simp
 |m+1,h=>by
  have e:f.getD m default=f[m]:=by rw[qj,qa (by omega)];rfl
  rw[List.range_succ,zp,zg,z9L m (by omega),qD (by omega),zp]
  congr 1
  rw[<-e]
  by_cases hq:q (f.getD m default)=true
  ·rw[je (by exact hq),je hq];rfl
  ·rw[List.filter_cons_of_neg (by exact hq),List.filter_cons_of_neg hq];rfl
theorem y89{f:List Elem}(h0:0<f.length)(hl:(f.getD (f.length- 1) default).char=10):visF f=(f.take (f.length- 1)).filter (fun x=> !(hidX x 0))++[f.getD (f.length- 1) default]:=by
 obtain⟨m,hm⟩:∃m,f.length=m+1:=⟨f.length- 1,by omega⟩
 have e1:f.length- 1=m:=by omega
 unfold visF plcN
 rw[e1,hm,List.range_succ,zp,zg]
 congr 1
 ·rw[<-z9L m (by omega)]
  congr 1
  refine List.filter_congr fun i hi=> ?_
  have hi:=List.mem_range.1 hi
  unfold visB
  rw[decide_eq_false (show¬(i:Int)=(f.length:Int)- 1 by omega),Bool.false_and,zD]
 ·rw[je (z8g (.inr ⟨by omega,by rw[<-e1];exact hl⟩))];rfl
theorem y9a{l:List Attr}{au:ByteArray}(h:VG false l)(ha:valGo au=true):gotA (fm rawG l [⟨cutB,au⟩]) cutB=true:=by
 have hc:VG true [⟨cutB,au⟩]:=⟨⟨(fun b hb=>by cases hb),trivial⟩,fun a h=>by
  rw[show a=⟨cutB,au⟩ by simpa using h]
  exact⟨(by decide+kernel:z1k cutB=true),.inl ha⟩⟩
 have hn:cutB≠mt:=by decide
 have hau:au≠mt:=fun e=>vp_mt (by rw[e] at ha;exact ha)
 unfold gotA
 rw[z7S,z1j np_mt z1d h hc cutB]
 have e:look [⟨cutB,au⟩] cutB=some au:=by unfold look;rw[if_pos rfl]
 have k:∀v,(rawG v ⟨cutB,au⟩).map (·.val)=some au:=fun v=>by unfold rawG;rw[if_neg hn,if_neg hau];rfl
 rw[e]
 have:at2 rawG cutB (look l cutB) (some au)=some au:=by
  cases look l cutB with
  |none=>exact k _
  |some v=>exact k _
 rw[this]
 show(!(seq au {data:=#[]}))=true
 rw[z0H.2 hau];rfl
theorem z8l{f:List Elem}{pl:List Int}{au:ByteArray}(hv:∀x∈f,VG false x.attrs)(ha:seq au mtB=false->valGo au=true):∀(l:List Nat),(∀i∈l,i<f.length)->
 (ersG f pl au l).filter (fun x=> !(hidX x 0))=(l.filter fun i:Nat=> !(pl.any fun p=>p==(i:Int))&& !(hidX (f.getD i default) 0)).map fun i=>f.getD i default
 | [],_=>rfl
 |i::l,h=>by
  have ih:=z8l (pl:=pl) hv ha l (fun j hj=>h j (qJ _ hj))
  unfold ersG at ih|-
  rw[zA,zA]
  cases h1:pl.any (fun p=>p==(i:Int)) with
  |false=>
   simp only[Bool.false_and,Bool.not_false,Bool.true_and,if_true,q9]
   rw[zA,ih]
   simp only[h1,qU,if_false]
   split<;>rfl
  |true=>
   simp only[Bool.true_and,zW,Bool.false_and,qU,if_false]
   cases h2:(seq au mtB||seq (getA (f.getD i default).attrs addB 0) au) with
   |true=>simp only[zW,qU,if_false];exact ih
   |false=>
    simp only[Bool.not_false,if_true,q9]
    rw[h1,if_pos rfl,zA]
    have hx:=hv _ (z0n (h i (by simp)))
    have hau:seq au mtB=false:=by cases q:seq au mtB;rfl;rw[q] at h2;simp at h2
    have hc:hidX (chgE [⟨cutB,au⟩] (f.getD i default)) 0=true:=by
     unfold hidX
     have hg:gotA (fm rawG (f.getD i default).attrs [⟨cutB,au⟩]) cutB=true:=y9a hx (ha hau)
     show((seq (getA (chgE [⟨cutB,au⟩] (f.getD i default)).attrs hidB 0) onB|| (((0:Int)==0)&&gotA (fm rawG (f.getD i default).attrs [⟨cutB,au⟩]) cutB))||_)=true
     rw[hg];simp
    rw[hc]
    simp only[zW,qU,if_false]
    exact ih
theorem z9M(f:List Elem){k:Nat}(h:k<=f.length):plcN f 0 f.length=(List.range k).filter (visB f 0)++(List.range' k (f.length-k)).filter (visB f 0):=by
 unfold plcN
 rw[<-List.filter_append]
 congr 1
 rw[z8,z8]
 conv=>lhs;rw[show f.length=k+(f.length-k) by omega]
 rw[<-List.range'_append_1,zB]
theorem y9b{f:List Elem}{n i:Nat}(h:i< (plcN f 0 n).length):(plcL f 0 n).getD i default=(((plcN f 0 n)[i]:Nat):Int):=by
 unfold plcL
 rw[qj,ze,qa h];rfl
theorem y79(f:List Elem)(n:Nat):(plcN f 0 n).Pairwise (·< ·):=List.Pairwise.filter _ List.pairwise_lt_range
theorem z6C(f:List Elem)(n:Nat):(plcL f 0 n).length=(plcN f 0 n).length:=by unfold plcL;rw[qg]
theorem y0O{f:List Elem}{a b:Int}(h:0<=a/\a<=b/\b< ((plcL f 0 f.length).length:Int)):
 0<=gapP (plcL f 0 f.length) a/\(gapP (plcL f 0 f.length) a).toNat<f.length/\((List.range (gapP (plcL f 0 f.length) a).toNat).filter (visB f 0)).length=a.toNat:=by
 have hl:=z6C f f.length
 have hs:=y79 f f.length
 have hm:∀x∈plcN f 0 f.length,x<f.length:=fun x hx=>List.mem_range.1 (zF.1 hx).1
 have hb:=hm _ (zx (show a.toNat< (plcN f 0 f.length).length by omega))
 by_cases h0:a=0
 ·subst h0
  have:gapP (plcL f 0 f.length) 0=0:=by unfold gapP;rw[if_pos rfl]
  rw[this]
  exact⟨by omega,by show 0<f.length;omega,by simp⟩
 ·have e:gapP (plcL f 0 f.length) a=(((plcN f 0 f.length)[a.toNat- 1]'(by omega):Nat):Int)+1:=by
   unfold gapP
   rw[if_neg h0,show(a- 1).toNat=a.toNat- 1 by omega,y9b (by omega)]
  have hlt:=List.pairwise_iff_getElem.1 hs (a.toNat- 1) a.toNat (by omega) (by omega) (by omega)
  generalize hz:(plcN f 0 f.length)[a.toNat- 1]'(by omega)=z at e hlt
  rw[e,show((z:Int)+1).toNat=z+1 by omega]
  refine⟨by omega,by omega,?_⟩
  have sp:=z9M f (show z+1<=f.length by omega)
  generalize hA:(List.range (z+1)).filter (visB f 0)=A at sp
  generalize hB:(List.range' (z+1) (f.length- (z+1))).filter (visB f 0)=B at sp
  have mA:∀x∈A,x<z+1:=fun x hx=>by rw[<-hA] at hx;exact List.mem_range.1 (zF.1 hx).1
  have mB:∀x∈B,z+1<=x:=fun x hx=>by rw[<-hB] at hx;exact(ja.1 (zF.1 hx).1).1
  have hlen:(plcN f 0 f.length).length=A.length+B.length:=by rw[sp,qc]
  rcases Nat.lt_trichotomy A.length a.toNat with q|q|q
  ·have:(plcN f 0 f.length)[a.toNat- 1]'(by omega)=B[a.toNat- 1-A.length]'(by omega):=by
    simp only[sp]
    rw[List.getElem_append_right (by omega)]
   have:=mB _ (zx (show a.toNat- 1-A.length<B.length by omega))
   omega
  ·exact q
  ·have:(plcN f 0 f.length)[a.toNat]'(by omega)=A[a.toNat]'q:=by
    simp only[sp]
    rw[List.getElem_append_left q]
   have:=mA _ (zx q)
   omega
theorem y65{B:List Nat}(hd:B.Nodup)(m:Nat){q:Nat->Bool}(hq:∀x∈B,q x=true↔x∉B.take m):B.filter q=B.drop m:=by
 have hp:(B.take m++B.drop m).Nodup:=by rw[zU];exact hd
 rw[List.nodup_append] at hp
 conv=>lhs;rw[<-List.take_append_drop m B]
 rw[zp]
 have e1:(B.take m).filter q=[]:=by
  rw[List.filter_eq_nil_iff]
  intro x hx hx2
  exact(hq x (qL hx)).1 hx2 hx
 have e2:(B.drop m).filter q=B.drop m:=by
  rw[List.filter_eq_self]
  intro x hx
  exact(hq x (zc hx)).2 (fun z=>hp.2.2 x z x hx rfl)
 rw[e1,e2,zo]
theorem y66(f:List Elem)(pl:List Int)(au:ByteArray)(l1 l2:List Nat):ersG f pl au (l1++l2)=ersG f pl au l1++ersG f pl au l2:=by
 unfold ersG;rw[zp,zg]
theorem y9c{f:List Elem}{a b:Int}{au:ByteArray}{es:List Elem}(hf:FX U f)(ha:seq au mtB=false->valGo au=true)(h:0<=a/\a<=b/\b< ((plcL f 0 f.length).length:Int))(he:∀x∈es,hidX (typE au x) 0=false):
 (((plcL f 0 f.length).take b.toNat).drop a.toNat).any (fun p=>p==((f.length- 1:Nat):Int))=false/\
 visF (typG f (((plcL f 0 f.length).take b.toNat).drop a.toNat) au (gapP (plcL f 0 f.length) a).toNat es)=(visF f).take a.toNat++(es.map (typE au)++(visF f).drop b.toNat):=by
 obtain⟨g0,g1,g2⟩:=y0O h
 generalize hk:(gapP (plcL f 0 f.length) a).toNat=k at g1 g2
 have hl:=z6C f f.length
 have hlt:=y79 f f.length
 have hpos:=hf.pos
 have hv:∀x∈f,VG false x.attrs:=fun x hx=>(hf.ru x hx).2.g
 have sp:=z9M f (Nat.le_of_lt g1)
 have hr:List.range' k (f.length-k)=List.range' k (f.length- 1-k)++[f.length- 1]:=by
  rw[show f.length-k=(f.length- 1-k)+1 by omega,List.range'_concat]
  simp only[Nat.one_mul]
  rw[show k+(f.length- 1-k)=f.length- 1 by omega]
 have hvl:visB f 0 (f.length- 1)=true:=z8g (.inr ⟨by omega,hf.last⟩)
 rw[hr,zp,show[f.length- 1].filter (visB f 0)=[f.length- 1] by rw[je hvl];rfl] at sp
 generalize hA:(List.range k).filter (visB f 0)=A at sp g2
 generalize hB:(List.range' k (f.length- 1-k)).filter (visB f 0)=B at sp
 have hlen:(plcN f 0 f.length).length=A.length+(B.length+1):=by rw[sp,qc,qc];rfl
 have mA:∀x∈A,x<k:=fun x hx=>by rw[<-hA] at hx;exact List.mem_range.1 (zF.1 hx).1
 have mB:∀x∈B,k<=x/\x<f.length- 1:=fun x hx=>by
  rw[<-hB] at hx
  have:=ja.1 (zF.1 hx).1
  omega
 have ndB:B.Nodup:=by
  rw[sp] at hlt
  have:=(List.pairwise_append.1 (List.pairwise_append.1 hlt).2.1).1
  exact this.imp (fun h=>Nat.ne_of_lt h)
 have hpl:((plcL f 0 f.length).take b.toNat).drop a.toNat=(B.take (b.toNat-a.toNat)).map fun i:Nat=>(i:Int):=by
  unfold plcL
  rw[<-List.map_take,<-List.map_drop,sp,List.take_append,jg,g2]
  congr 1
  rw[show A.take b.toNat=A from qw (by omega),qT (by omega),zo,List.take_append,g2,Nat.sub_self,zS,show(b.toNat-a.toNat)- B.length=0 by omega,List.take_zero,qQ]
 have any_iff:∀i:Nat,((((plcL f 0 f.length).take b.toNat).drop a.toNat).any fun p=>p==(i:Int))=true↔i∈B.take (b.toNat-a.toNat):=fun i=>by
  rw[hpl,List.any_eq_true]
  constructor
  ·rintro⟨x,hx,e⟩
   obtain⟨j,hj,rfl⟩:=qy.1 hx
   rw[beq_iff_eq] at e
   have:j=i:=by omega
   rw[<-this];exact hj
  ·intro hi
   exact⟨(i:Int),qy.2 ⟨i,hi,rfl⟩,by simp⟩
 generalize((plcL f 0 f.length).take b.toNat).drop a.toNat=pl at any_iff
 have nolast:pl.any (fun p=>p==((f.length- 1:Nat):Int))=false:=by
  apply qk;intro q
  have:=(any_iff _).1 (by simpa using q)
  have:=(mB _ (qL this)).2
  omega
 refine⟨nolast,?_⟩
 have hvis:∀i,i<f.length- 1->visB f 0 i=!(hidX (f.getD i default) 0):=fun i hi=>by
  unfold visB
  rw[decide_eq_false (show¬(i:Int)=(f.length:Int)- 1 by omega),Bool.false_and,zD]
 have eL:ersG f pl au [f.length- 1]=[f.getD (f.length- 1) default]:=by
  unfold ersG
  rw[je (by rw[nolast];rfl)]
  simp only[List.filter_nil,q9,zV]
  rw[nolast,if_neg (by decide)]
 have eg:typG f pl au k es=(ersG f pl au (List.range' 0 k)++(es.map (typE au)++ersG f pl au (List.range' k (f.length- 1-k))))++[f.getD (f.length- 1) default]:=by
  unfold typG
  rw[hr,y66,eL];simp only[qE]
 have ev:visF f=A.map (fun i=>f.getD i default)++(B.map (fun i=>f.getD i default)++[f.getD (f.length- 1) default]):=by
  unfold visF
  rw[sp,zg,zg];rfl
 rw[eg,y89 (by rw[qc,zG];omega) (by rw[z8j (by simp)];exact hf.last),z8j (by simp)]
 rw[qc,zG,Nat.add_sub_cancel,List.take_left,zp,zp]
 have c1:(ersG f pl au (List.range' 0 k)).filter (fun x=> !(hidX x 0))=A.map fun i=>f.getD i default:=by
  rw[z8l hv ha _ (fun i hi=>by have:=ja.1 hi;omega),<-hA,z8]
  congr 1
  refine List.filter_congr fun i hi=> ?_
  have hi:=ja.1 hi
  rw[hvis i (by omega)]
  have:pl.any (fun p=>p==(i:Int))=false:=by
   apply qk;intro q
   have:=(any_iff _).1 (by simpa using q)
   have:=(mB _ (qL this)).1
   omega
  rw[this];rfl
 have c2:(es.map (typE au)).filter (fun x=> !(hidX x 0))=es.map (typE au):=by
  rw[List.filter_eq_self]
  intro x hx
  obtain⟨y,hy,rfl⟩:=qy.1 hx
  rw[he y hy];rfl
 have c3:(ersG f pl au (List.range' k (f.length- 1-k))).filter (fun x=> !(hidX x 0))=(B.drop (b.toNat-a.toNat)).map fun i=>f.getD i default:=by
  rw[z8l hv ha _ (fun i hi=>by have:=ja.1 hi;omega)]
  congr 1
  rw[<-y65 ndB (b.toNat-a.toNat) (q:=fun i:Nat=> !(pl.any fun p=>p==(i:Int))) (fun x hx=>by
   rw[<-any_iff x];show(!(pl.any fun p=>p==(x:Int)))=true↔¬((pl.any fun p=>p==(x:Int))=true);cases(pl.any fun p=>p==(x:Int))<;>simp),<-hB,List.filter_filter]
  refine List.filter_congr fun i hi=> ?_
  have hi:=ja.1 hi
  rw[hvis i (by omega)]
 rw[c1,c2,c3,ev]
 have lA:(A.map fun i=>f.getD i default).length=a.toNat:=by rw[qg];exact g2
 rw[show a.toNat=(A.map fun i=>f.getD i default).length from lA.symm]
 rw[List.take_left,jg,qT (show(A.map fun i=>f.getD i default).length<=b.toNat by omega),zo,jg,<-List.map_drop,lA]
 rw[show b.toNat-a.toNat- (B.map fun i=>f.getD i default).length=0 by rw[qg];omega,zS]
 simp only[qE]
 rfl
end Go.Ch
end
section
namespace Go.Ch
open Go Go.Ab
theorem un_0:UN (⟨UC++[],[]⟩:US):=z9H [] (by simp) [] (fun v hv=>by cases hv)
def ofR(u:ByteArray):List Int×Int:=
 if h:0<u.size then
  if decR u=65533/\decW u=1 then([],10)
  else if¬CharP (decR u) then([],2)
  else(decR u::(ofR (u.extract (decW u) u.size)).1,(ofR (u.extract (decW u) u.size)).2)
 else([],0)
termination_by u.size
decreasing_by
 all_goals
  have:=z4Z h
  rw[zY]
  omega
structure OfI(s:ByteArray)(l:List Attr)(u:ByteArray)(o:List Elem):Prop where
 size:o.length+u.size<=s.size
 chars:o++(ofR u).1.map (mkE l)=(ofR s).1.map (mkE l)
 err:(ofR u).2=(ofR s).2
theorem OfI.start(s:ByteArray)(l:List Attr):OfI s l s []:=⟨by simp,rfl,rfl⟩
theorem y5x{u:ByteArray}(h:¬0<u.size):ofR u=([],0):=by rw[ofR,dif_neg h]
theorem y0P{u:ByteArray}(h:0<u.size)(h1:decR u=65533/\decW u=1):ofR u=([],10):=by rw[ofR,dif_pos h,if_pos h1]
theorem y5y{u:ByteArray}(h:0<u.size)(h1:¬(decR u=65533/\decW u=1))(h2:¬CharP (decR u)):ofR u=([],2):=by rw[ofR,dif_pos h,if_neg h1,if_pos h2]
theorem y8a{u:ByteArray}(h:0<u.size)(h1:¬(decR u=65533/\decW u=1))(h2:CharP (decR u)):ofR u=(decR u::(ofR (u.extract (decW u) u.size)).1,(ofR (u.extract (decW u) u.size)).2):=by
 conv=>lhs;rw[ofR]
 rw[dif_pos h,if_neg h1,if_neg (fun q=>q h2)]
theorem OfI.next{s:ByteArray}{l:List Attr}{u:ByteArray}{o:List Elem}(hI:OfI s l u o)(h:0<u.size)(h1:¬(decR u=65533/\decW u=1))(h2:CharP (decR u)):
 OfI s l (u.extract (decW u) u.size) (o++[mkE l (decR u)]):=by
 have hw:=z4Z h
 have hg:=y8a h h1 h2
 have hc:=hI.chars
 have he:=hI.err
 rw[hg] at hc he
 refine⟨?_,?_,he⟩
 ·have:=hI.size
  rw[zY,qc,zG];omega
 ·rw[qE];exact hc
def ofL(s:ByteArray)(l:List Attr):List Elem:=if(ofR s).2=0 then(ofR s).1.map (mkE l) else[]
theorem y5z{s:ByteArray}{l:List Attr}(h:(ofR s).2≠0):ofL s l=[]:=by unfold ofL;rw[if_neg h]
theorem OfI.done{s:ByteArray}{l:List Attr}{u:ByteArray}{o:List Elem}(hI:OfI s l u o)(h:u.size=0):ofL s l=o/\(ofR s).2=0:=by
 have hc:=hI.chars
 have he:=hI.err
 rw[y5x (by omega)] at hc he
 simp only[zV,qQ] at hc
 have he:(ofR s).2=0:=he.symm
 exact⟨by unfold ofL;rw[if_pos he,hc],he⟩
def runeE(x:Elem):Int:=if x.ref=0 then x.char else 65532
def txB(f:List Elem):List Int:=f.flatMap fun x=>Lib.encodeRuneZ (runeE x)
def strB(l:List Int):ByteArray:=⟨(l.map fun z=>UInt8.ofNat z.toNat).toArray⟩
theorem y5A{l:List Int}(h:∀z∈l,0<=z/\z<256):l=intsB (strB l):=by
 unfold intsB strB
 simp only[jc]
 conv=>lhs;rw[<-List.map_id l]
 apply zz
 intro x hx
 have:=h x hx
 simp only[Function.comp,id]
 rw[UInt8.toNat_ofNat']
 omega
def z5n(r:Int):Prop:=0<=r/\r<=1114111/\¬(55296<=r/\r<=57343)
theorem y9d{x:Elem}(h:elemE x=0):z5n (runeE x):=by
 unfold elemE at h
 unfold z5n runeE
 split at h
 ·omega
 ·rename_i h1
  split
  ·rename_i hr
   split at h
   ·omega
   ·rename_i h2
    have:CharP x.char:=qk fun q=>h2 (.inl ⟨hr,q⟩)
    unfold CharP at this
    omega
  ·omega
theorem y8b{r:Int}(h:z5n r):(Lib.encodeRuneZ r).length<=4/\∀z∈Lib.encodeRuneZ r,0<=z/\z<256:=by
 obtain⟨h0,h1,h2⟩:=h
 by_cases a:r<=127
 ·rw[Lib.encodeRuneZ_one h0 a];exact⟨by simp,fun z hz=>by simp only[qn,qV,or_false] at hz;omega⟩
 ·by_cases b:r<=2047
  ·rw[Lib.encodeRuneZ_two (by omega) b];exact⟨by simp,fun z hz=>by simp only[qn,qV,or_false] at hz;omega⟩
  ·by_cases c:r<=65535
   ·rw[Lib.encodeRuneZ_three (by omega)];exact⟨by simp,fun z hz=>by simp only[qn,qV,or_false] at hz;omega⟩
   ·rw[Lib.encodeRuneZ_four (by omega) h1];exact⟨by simp,fun z hz=>by simp only[qn,qV,or_false] at hz;omega⟩
theorem x0g{f:List Elem}(h:∀x∈f,z5n (runeE x)):∀z∈txB f,0<=z/\z<256:=fun z hz=>by
 obtain⟨x,hx,hz⟩:=List.mem_flatMap.1 hz
 exact(y8b (h x hx)).2 z hz
theorem y5B:∀(f:List Elem),(∀x∈f,z5n (runeE x))->(txB f).length<=4*f.length
 | [],_=>qr _
 |x::f,h=>by
  have:=y5B f (fun y hy=>h y (by simp[hy]))
  have:=(y8b (h x (by simp))).1
  unfold txB at*
  simp only[List.flatMap_cons,qc,qi]
  omega
theorem y2p(f:List Elem)(x:Elem):txB (f++[x])=txB f++Lib.encodeRuneZ (runeE x):=by unfold txB;simp
def txS(f:List Elem):ByteArray:=strB (txB f)
theorem y9e (L : List UInt8) (h0 : 0 < L.length) (h : ¬ ((Lib.decodeN L.length (L.getD 0 0).toNat (L.getD 1 0).toNat (L.getD 2 0).toNat (L.getD 3 0).toNat).1 = 65533 /\ (Lib.decodeN L.length (L.getD 0 0).toNat (L.getD 1 0).toNat (L.getD 2 0).toNat (L.getD 3 0).toNat).2 = 1)) :
    Lib.encodeRuneZ ((Lib.decodeN L.length (L.getD 0 0).toNat (L.getD 1 0).toNat (L.getD 2 0).toNat (L.getD 3 0).toNat).1 : Int) = (L.map fun b => (b.toNat : Int)).take (Lib.decodeN L.length (L.getD 0 0).toNat (L.getD 1 0).toNat (L.getD 2 0).toNat (L.getD 3 0).toNat).2 := by
  have key : ∀ (n : Nat) (a b c d : UInt8) (r : List Int), (n = 1 \/ n = 2 \/ n = 3 \/ 4 <= n) ->
      ¬ ((Lib.decodeN n a.toNat b.toNat c.toNat d.toNat).1 = 65533 /\ (Lib.decodeN n a.toNat b.toNat c.toNat d.toNat).2 = 1) ->
      (Lib.encodeRuneZ ((Lib.decodeN n a.toNat b.toNat c.toNat d.toNat).1 : Int) = [(a.toNat : Int), b.toNat, c.toNat, d.toNat].take (Lib.decodeN n a.toNat b.toNat c.toNat d.toNat).2) /\ (Lib.decodeN n a.toNat b.toNat c.toNat d.toNat).2 <= n := by
    intro n a b c d r hn hh
    have ha := UInt8.toNat_lt a
    have hb := UInt8.toNat_lt b
    have hc := UInt8.toNat_lt c
    have hd := UInt8.toNat_lt d
    generalize a.toNat = a at *
    generalize b.toNat = b at *
    generalize c.toNat = c at *
    generalize d.toNat = d at *
    unfold Lib.decodeN at hh |-
    split at hh
    · rename_i q
      rw [if_pos q]
      refine ⟨?_, by simp only; omega⟩
      simp only
      rw [Lib.encodeRuneZ_one (by omega) (by omega)]; rfl
    · rename_i q
      rw [if_neg q]
      split at hh
      · rename_i q2
        rw [if_pos q2]
        split at hh
        · rename_i q3
          rw [if_pos q3]
          refine ⟨?_, by simp only; omega⟩
          simp only
          rw [Lib.encodeRuneZ_two (by omega) (by omega)]
          simp only [List.take_succ_cons, List.take_zero, List.cons.injEq, and_true]
          omega
        · exact absurd ⟨rfl, rfl⟩ hh
      · rename_i q2
        rw [if_neg q2]
        split at hh
        · rename_i q3
          rw [if_pos q3]
          split at hh
          · rename_i q4
            rw [if_pos q4]
            refine ⟨?_, by simp only; omega⟩
            simp only
            rw [Lib.encodeRuneZ_three (by omega)]
            simp only [List.take_succ_cons, List.take_zero, List.cons.injEq, and_true]
            omega
          · exact absurd ⟨rfl, rfl⟩ hh
        · rename_i q3
          rw [if_neg q3]
          split at hh
          · rename_i q4
            rw [if_pos q4]
            split at hh
            · rename_i q5
              rw [if_pos q5]
              refine ⟨?_, by simp only; omega⟩
              simp only
              rw [Lib.encodeRuneZ_four (by omega) (by omega)]
              simp only [List.take_succ_cons, List.take_zero, List.cons.injEq, and_true]
              omega
            · exact absurd ⟨rfl, rfl⟩ hh
          · exact absurd ⟨rfl, rfl⟩ hh
  have hk := key L.length (L.getD 0 0) (L.getD 1 0) (L.getD 2 0) (L.getD 3 0) [] (by omega) h
  rw [hk.1]
  have hw := hk.2
  have h1 := Lib.decodeN_ge1 L.length (L.getD 0 0).toNat (L.getD 1 0).toNat (L.getD 2 0).toNat (L.getD 3 0).toNat
  have h4 : (Lib.decodeN L.length (L.getD 0 0).toNat (L.getD 1 0).toNat (L.getD 2 0).toNat (L.getD 3 0).toNat).2 <= 4 := by
    clear h hk hw h1
    unfold Lib.decodeN
    repeat' split
    all_goals simp
  generalize (Lib.decodeN L.length (L.getD 0 0).toNat (L.getD 1 0).toNat (L.getD 2 0).toNat (L.getD 3 0).toNat).2 = w at *
  have hw4 : w = 1 \/ w = 2 \/ w = 3 \/ w = 4 := by omega
  match L, h0 with
  | [a], _ => have : w = 1 := by simp only [zG] at hw; omega
              subst this; rfl
  | [a, b], _ => rcases hw4 with rfl | rfl | rfl | rfl
                 · rfl
                 · rfl
                 · simp at hw
                 · simp at hw
  | [a, b, c], _ => rcases hw4 with rfl | rfl | rfl | rfl
                    · rfl
                    · rfl
                    · rfl
                    · simp at hw
  | a :: b :: c :: d :: r, _ => rcases hw4 with rfl | rfl | rfl | rfl <;> rfl
theorem y5C{u:ByteArray}(h:0<u.size)(h1:¬(decR u=65533/\decW u=1)):Lib.encodeRuneZ (decR u)=(intsB u).take (decW u):=by
 have hl:u.data.toList.length=u.size:=by rw[Array.length_toList];rfl
 have hd:Lib.decodeGo u=Lib.decodeN u.data.toList.length (u.data.toList.getD 0 0).toNat (u.data.toList.getD 1 0).toNat (u.data.toList.getD 2 0).toNat (u.data.toList.getD 3 0).toNat:=by
  unfold Lib.decodeGo
  rw[if_neg (by omega),Lib.decode_N];rfl
 unfold decR decW intsB at*
 rw[hd] at h1|-
 exact y9e u.data.toList (by omega) (fun q=>h1 ⟨by omega,q.2⟩)
theorem y3d(u:ByteArray)(w:Nat)(hw:w<=u.size):intsB u=(intsB u).take w++intsB (u.extract w u.size):=by
 have hl:u.data.toList.length=u.size:=by rw[Array.length_toList];rfl
 have e:(u.extract w u.size).data.toList=u.data.toList.drop w:=by
  rw[ByteArray.data_extract,Array.toList_extract,List.extract_eq_take_drop,<-hl]
  rw[qw (by rw[zI];omega)]
 unfold intsB
 rw[e,<-List.map_take,<-List.map_append,zU]
theorem z8m:∀(n:Nat) (u:ByteArray),u.size=n->(∀c∈(ofR u).1,CharP c)/\(ofR u).1.length<=u.size/\((ofR u).2=0->(ofR u).1.flatMap Lib.encodeRuneZ=intsB u):=by
 intro n
 induction n using Nat.strongRecOn with
 |_ n ih=>
  intro u hu
  by_cases h:0<u.size
  ·by_cases h1:decR u=65533/\decW u=1
   ·rw[y0P h h1];exact⟨fun c hc=>(by cases hc),qp _,fun q=>(by cases q)⟩
   ·by_cases h2:CharP (decR u)
    ·have hw:=z4Z h
     have hs:(u.extract (decW u) u.size).size=u.size-decW u:=by rw[zY];omega
     obtain⟨i1,i2,i3⟩:=ih (u.size-decW u) (by omega) (u.extract (decW u) u.size) hs
     rw[y8a h h1 h2]
     refine⟨fun c hc=> ?_,by simp only[qi];omega,fun q=> ?_⟩
     ·rcases qn.1 hc with rfl|hc
      ·exact h2
      ·exact i1 c hc
     ·rw[List.flatMap_cons,i3 q,y5C h h1,<-y3d u _ hw.2]
    ·rw[y5y h h1 h2];exact⟨fun c hc=>(by cases hc),qp _,fun q=>(by cases q)⟩
  ·rw[y5x h]
   refine⟨fun c hc=>(by cases hc),qp _,fun _=> ?_⟩
   have:u.data.toList=[]:=zN.1 (by rw[Array.length_toList];have:u.data.size=u.size:=rfl;omega)
   unfold intsB;rw[this];rfl
end Go.Ch
end
section
namespace Go.Ch
open Go Go.Ab
variable {U:US}
theorem z5I{l:List Attr}{n:ByteArray}(h:∀a∈l,seq a.name n=false):look l n=none:=by
 rw[<-z9z]
 unfold hasA
 apply qk;intro q
 have q:l.any (fun a=>seq a.name n)=true:=by simpa using q
 obtain⟨a,ha,q⟩:=List.any_eq_true.1 q
 rw[h a ha] at q;cases q
theorem y9f{n:ByteArray}(h:sprB n=true):seq n hidB=false:=by
 cases q:seq n hidB with
 |false=>rfl
 |true=>rw[z0q.1 q] at h;exact absurd h (by decide+kernel)
theorem y9g{n:ByteArray}(h:btwB n=true):seq n hidB=false:=by
 cases q:seq n hidB with
 |false=>rfl
 |true=>rw[z0q.1 q] at h;exact absurd h (by decide+kernel)
theorem y2q{r:Elem}{k:Int}:∀{l o:List Attr},VU U false o->(∀a∈l,VU U true [a])->look o hidB=none->look (inhO r k o l) hidB=none
 | [],o,_,_,h=>h
 |a::l,o,ho,hl,h=>by
  show look (inhO r k (if inhG r k a=true then fm rawG o [a] else o) l) hidB=none
  have ha:=hl a (by simp)
  have h1:VU U false (if inhG r k a=true then fm rawG o [a] else o):=by
   split
   ·exact raw_V nu_mt ho ha
   ·exact ho
  refine y2q h1 (fun b hb=>hl b (by simp[hb])) ?_
  ·split
   ·rename_i q
    have hb:btwB a.name=true:=by
     unfold inhG at q
     rw[qd,qd] at q;exact q.1.1
    rw[z1j np_mt z1d ho.g ha.g hidB,h,z5I (l:=[a]) (fun b hb'=>by rw[qK] at hb';subst hb';exact y9g hb)]
    rfl
   ·exact h
theorem y67{p:Pl}(hp:PlB p)(hn:∀x∈p.node.flow,RU U x)(k:Int):look (inhP p k) hidB=none:=by
 unfold inhP
 have h1:=z4I hp hn (k- 1)
 have h2:VU U false (inhB p k):=by
  unfold inhB
  split
  ·refine V.filt ?_
   unfold inhF;split
   ·exact(z4I hp hn k).2
   ·exact h1.2
  ·exact VU.nil
 refine y2q h2 (fun a ha=>h1.2.one ha) ?_
 ·unfold inhB
  split
  ·exact z5I (fun a ha=>y9f (zF.1 ha).2)
  ·rfl
theorem y68(p:Pl)(k:Nat):look (endP p k) hidB=none:=by
 refine z5I (fun a ha=> ?_)
 have h:=(zF.1 ha).2
 cases q:seq a.name hidB with
 |false=>rfl
 |true=>
  unfold endG at h
  rw[z0q.1 q] at h
  exact absurd h (by decide+kernel)
theorem z9N{au:ByteArray}{x:Elem}(hx:VG false x.attrs)(ha:VG true [⟨addB,au⟩,⟨cutB,mtB⟩])(h:look x.attrs hidB=none):hidX (typE au x) 0=false:=by
 have l1:look (fm rawG x.attrs [⟨addB,au⟩,⟨cutB,mtB⟩]) hidB=none:=by
  rw[z1j np_mt z1d hx ha hidB,h,z5I (l:=[⟨addB,au⟩,⟨cutB,mtB⟩]) (fun b hb=>by
   simp only[qn,qV,or_false] at hb
   rcases hb with rfl|rfl
   ·exact(by decide+kernel:seq addB hidB=false)
   ·exact(by decide+kernel:seq cutB hidB=false))]
  rfl
 have l2:look (fm rawG x.attrs [⟨addB,au⟩,⟨cutB,mtB⟩]) cutB=none:=by
  rw[z1j np_mt z1d hx ha cutB]
  have e:look [⟨addB,au⟩,⟨cutB,mtB⟩] cutB=some mtB:=by
   unfold look;rw[if_neg (show¬addB=cutB by decide)]
   unfold look;rw[if_pos rfl]
  have k:∀v:Attr,(rawG v ⟨cutB,mtB⟩).map (·.val)=none:=fun v=>by unfold rawG;rw[if_neg (show¬cutB=mt by decide),if_pos (show mtB=mt from rfl)];rfl
  rw[e]
  cases look x.attrs cutB with
  |none=>exact k default
  |some v=>exact k ⟨cutB,v⟩
 unfold hidX gotA typE
 simp only
 rw[z7S,z7S,l1,l2,show seq ((none:Option ByteArray).getD mt) onB=false by decide+kernel,show seq ((none:Option ByteArray).getD mt) {data:=#[]}=true by decide+kernel]
 rfl
theorem z7k{p:Pl}(hp:PlB p)(hn:∀x∈p.node.flow,RU U x){s:Sel}{cs:List Int}:∀x∈typEl p s cs,look x.attrs hidB=none/\x.ref=0:=by
 intro x hx
 unfold typEl at hx
 obtain⟨y,hy,rfl⟩:=qy.1 hx
 obtain⟨c,hc',rfl⟩:=qy.1 hy
 unfold typX mkE
 split
 ·exact⟨y68 _ _,rfl⟩
 ·exact⟨y67 hp hn _,rfl⟩
theorem y0Q(p:Pl)(s:Sel)(cs:List Int):(typEl p s cs).map (·.char)=cs:=by
 unfold typEl
 rw[jc,jc]
 conv=>rhs;rw[<-List.map_id cs]
 refine zz fun c _=> ?_
 show(typX p s (mkE _ c)).char=c
 unfold typX;split<;>rfl
theorem y5D{c:Int}(h:CharP c):c≠0:=by unfold CharP at h;omega
theorem y69{d:Doc}(x1:DX (⟨UC++[],[]⟩:US) d)(a b:Int)(cs:List Int)(au:ByteArray){f:List Elem}(hf:(ndN d.nodes 2).flow=f){P:List Int}(hP:plcL f 0 f.length=P)(h:0<=a/\a<=b/\b< (P.length:Int))
 (hau:seq au mtB=true\/valGo au=true) (hc:∀c∈cs,CharP c) (hl:cs.length<=1000000):
 atE d ⟨2,a,b⟩ au=0/\TypB d ⟨2,a,b⟩ cs au/\AppB d (typeO d ⟨2,a,b⟩ cs au)/\appE d (typeO d ⟨2,a,b⟩ cs au)=0/\typeS d ⟨2,a,b⟩ cs au=⟨2,a+cs.length,a+cs.length⟩/\
 ∃es g,(nodeF (appD d (typeO d ⟨2,a,b⟩ cs au)) 2).flow=g/\es.map (fun x:Elem=>(x.char,x.ref))=cs.map (fun c=>(c,(0:Int)))/\shwR g g.length=plcL g 0 g.length/\g.length<=f.length+cs.length/\
  (∀x∈g,RU (⟨UC++[],[]⟩:US) x)/\appD d (typeO d ⟨2,a,b⟩ cs au)=putF d g/\visF g=(visF f).take a.toNat++(es++(visF f).drop b.toNat):=by
 have hN:=z9H [] (by simp) [] (fun v hv=>by cases hv)
 have hU:=hN.toUB
 obtain⟨g1,g2⟩:=x1.flow
 obtain⟨n1,n2,n3,n4,n5⟩:=x1.nd
 rw[hf] at g1 g2
 have hAu:AuB (⟨UC++[],[]⟩:US) au:=⟨hau,by simp⟩
 obtain⟨t1,t2⟩:=x1.at (au:=au) (by rw[hf,hP];exact h) hau
 obtain⟨p1,p2,p3,p4,p5⟩:=y2n hU x1.pp (by omega) (by simp) t1
 have hcs:∀c∈cs,CharP c/\c≠0:=fun c hc'=>⟨hc c hc',y5D (hc c hc')⟩
 have he:=y2l p1 p3 (s:=⟨2,a,b⟩) hcs
 have hsn:=z7k p1 p3 (s:=⟨2,a,b⟩) (cs:=cs)
 have hlen:(typEl (atP d ⟨2,a,b⟩ au) ⟨2,a,b⟩ cs).length=cs.length:=z9G _ _ _
 have hi:=y5m p1 p3 a
 have hS:=(y78 hU (s:=⟨2,a,b⟩) (es:=typEl (atP d ⟨2,a,b⟩ au) ⟨2,a,b⟩ cs) p1 p2 p3 p4 p5 (by omega) he).1
 have hT:TypB d ⟨2,a,b⟩ cs au:=⟨p1,z1H.2 hi.g,by have:=hi.len hU.len;show(inhP _ a).length<=_;omega,p5,hS⟩
 generalize hes:typEl (atP d ⟨2,a,b⟩ au) ⟨2,a,b⟩ cs=es at he hsn hlen
 have hg:=y0O (f:=f) (a:=a) (b:=b) (by rw[hP];exact h)
 rw[hP] at hg
 obtain⟨k0,k1,k2⟩:=hg
 have hx:=y9c (f:=f) (a:=a) (b:=b) (au:=au) (es:=es) g1 (fun q=>hau.resolve_left (by rw[q];decide)) (by rw[hP];exact h) (fun x hx=>z9N (he x hx).2.g (z9E hU hAu).g (hsn x hx).1)
 rw[hP] at hx
 obtain⟨us,s1,s2,s3,s4,s5⟩:=y5w hU (f:=f) (pl:=(P.take b.toNat).drop a.toNat) (au:=au) (k:=(gapP P a).toNat) (es:=es) (by omega) g1.ru hAu k1 (by omega) he (fun x hx=>(hsn x hx).2) hx.1
 rw[Int.toNat_of_nonneg k0] at s1 s4
 have e1:=(y2g (cs:=cs) t1).1
 have e2:=(y2g (cs:=cs) t1).2
 have e3:stpP (atP d ⟨2,a,b⟩ au) ⟨2,a,b⟩ es=joinD (ersD f ((P.take b.toNat).drop a.toNat) au) (z00 (typD f.length (gapP P a) es au) (ersD f ((P.take b.toNat).drop a.toNat) au)):=by
  rw[t2,hf,hP];unfold stpP ersP typP;simp only[hf]
 rw[hes] at e1 e2
 rw[e3] at e1
 have r:=x1.op hU x1.pp s1 (by rw[hf];exact s2) s3 s4
 rw[hf] at r
 have hru:∀x∈z0h us f,RU _ x:=z1J us f s1.all g1.ru
 have e:=z2P us f s2
 have l1:=s1.lens
 have l2:=(y78 hU (s:=⟨2,a,b⟩) (es:=es) p1 p2 p3 p4 p5 (by omega) he).2.2.2
 rw[e3,t2] at l2
 simp only[hf] at l2
 refine⟨t1,hT,by rw[e1];exact r.1,by rw[e1];exact r.2.1,by rw[e2];unfold selP;rw[hlen],es.map (typE au),z0h us f,?_,?_,?_,?_,hru,?_,by rw[s5];exact hx.2⟩
 ·rw[e1,r.2.2,(z9J x1 _).1]
 ·have:=y0Q (atP d ⟨2,a,b⟩ au) ⟨2,a,b⟩ cs
  rw[hes] at this
  rw[<-this,jc,jc]
  refine zz fun x hx=> ?_
  show(x.char,x.ref)=(x.char,0)
  rw[(hsn x hx).2]
 ·exact y86 fun x hx=>(hru x hx).2.g
 ·omega
 ·rw[e1,r.2.2]
theorem z5J(a b:List Int):strB (a++b)=strB a++strB b:=by
 unfold strB
 rw[zg]
 apply ByteArray.ext
 rw[ByteArray.data_append]
 simp
theorem z9O(t:ByteArray):strB (intsB t)=t:=by
 unfold strB intsB
 apply ByteArray.ext
 rw[jc]
 have:(t.data.toList.map ((fun z:Int=>UInt8.ofNat z.toNat)∘fun b:UInt8=>(b.toNat:Int)))=t.data.toList:=by
  conv=>rhs;rw[<-List.map_id t.data.toList]
  refine zz fun b _=> ?_
  simp
 first
 | (rw[this];simp)
 |simp[this]
theorem z8n(a b:List Elem):txB (a++b)=txB a++txB b:=by unfold txB;rw[List.flatMap_append]
end Go.Ch
end
section
namespace Go.Ch
open Go Go.Ab
theorem NG.put{U:US}{n:Node}{m:Nat}{f:List Elem}(h:NG U n)(hz:NZ m n)(hf:∀x∈f,RU U x)(hl:f.length<=m):NG U {n with flow:=f}/\NZ m {n with flow:=f}:=
 ⟨{h with fl:=hf},{hz with fl:=hl}⟩
theorem y5E{U:US}(hU:UB U){d:Doc}(h:DX U d){f:List Elem}(hf:∀x∈f,RU U x)(hl:f.length<=3000):DocL (putF d f):=by
 obtain⟨h1,h2,h3,h4,h5⟩:=h.nd
 have hlen:=h.pp.len
 refine y5k hU (m:=3000) (q:=63) (by omega) (by omega) (by unfold putF;rw[zq];omega) fun n hn=> ?_
 rcases zu hn with hn|rfl
 ·have:=h.pp.gp.nd _ hn
  exact⟨this.1,this.2.mono (by omega)⟩
 ·have:=h.pp.gp.nd _ h5
  exact this.1.put (this.2.mono (by omega)) hf hl
theorem ofL_l{t:ByteArray}{l:List Attr}(h:(ofR t).2=0):(ofL t l).length=(ofR t).1.length:=by unfold ofL;rw[if_pos h,qg]

end Go.Ch
end
section
namespace Go.Ch
open Go Go.Ab
variable {U:US}
theorem y7a(f:List Elem)(au:ByteArray)(n:Nat):ersUs f [] au n=List.replicate n (.K []):=by
 unfold ersUs
 rw[show ersU f [] au=fun _=>DU.K [] by funext i;unfold ersU;rw[if_neg (by simp)],List.map_const',List.length_range]
theorem y5F:fm wioG [] []=[]:=by simp[fm,bothL]
theorem y5G:fm botG [] []=[]:=by simp[fm,bothL]
theorem y2r(es:List DU)(hes:∀u∈es,∃x,u= .A x)(b:Nat):∀(a:Nat),(z0a (List.replicate a (.K [])++(es++List.replicate b (.K []))) (List.replicate (a+b) (.K []))).1=List.replicate a (.K [])++(es++List.replicate b (.K []))
 |a+1=>by
  rw[show a+1+b=(a+b)+1 by omega,qo,qo,qe,z0a,y2r es hes b a,y5F]
 |0=>by
  rw[List.replicate_zero,zo,zB]
  induction es with
  |nil=>
   rw[zo]
   induction b with
   |zero=>show(z0a [] []).1=[];unfold z0a;rfl
   |succ b ih=>rw[qo,z0a,ih,y5F]
  |cons u es ih=>
   obtain⟨x,rfl⟩:=hes u (by simp)
   rw[qe,z0a,ih (fun v hv=>hes v (by simp[hv]))]
theorem y2s(es:List DU)(hes:∀u∈es,∃x,u= .A x)(b:Nat):∀(a:Nat),z0g (List.replicate (a+b) (.K [])) (List.replicate a (.K [])++(es++List.replicate b (.K [])))=List.replicate a (.K [])++(es++List.replicate b (.K []))
 |a+1=>by
  rw[show a+1+b=(a+b)+1 by omega,qo,qo,qe,z0g,y2s es hes b a,y5G]
 |0=>by
  rw[List.replicate_zero,zo,zB]
  induction es with
  |nil=>
   rw[zo]
   induction b with
   |zero=>show z0g [] []=[];unfold z0g;rfl
   |succ b ih=>rw[qo,z0g,ih,y5G]
  |cons u es ih=>
   obtain⟨x,rfl⟩:=hes u (by simp)
   rw[qe,z0g,ih (fun v hv=>hes v (by simp[hv]))]
   intro p' hp
   cases b with
   |zero=>simp at hp
   |succ b=>rw[qo] at hp;cases hp
end Go.Ch
end
section
namespace Go.Ch
open Go Go.Ab

theorem y5H{d:Doc}(x1:DX (⟨UC++[],[]⟩:US) d)(b:Int)(cs:List Int){f:List Elem}(hf:(ndN d.nodes 2).flow=f){P:List Int}(hP:plcL f 0 f.length=P)(h:0<=b/\b< (P.length:Int))(hc:∀c∈cs,CharP c)(hl:cs.length<=1000000):
 ∃st es,typeO d ⟨2,b,b⟩ cs mtB=[opF 2 st]/\DU_ (⟨UC++[],[]⟩:US) st (List.replicate (gapP P b).toNat (.K [])++(es.map .A++List.replicate (f.length- (gapP P b).toNat) (.K [])))/\es.length=cs.length/\(∀y∈es,hidX y 0=false)/\
  (gapP P b).toNat<f.length/\es=(typEl (atP d ⟨2,b,b⟩ mtB) ⟨2,b,b⟩ cs).map (typE mtB)/\AppB d [opF 2 st]/\appE d [opF 2 st]=0/\appD d [opF 2 st]=putF d (f.take (gapP P b).toNat++(es++f.drop (gapP P b).toNat))/\∀x∈f.take (gapP P b).toNat++(es++f.drop (gapP P b).toNat),RU (⟨UC++[],[]⟩:US) x:=by
 have hN:=z9H [] (by simp) [] (fun v hv=>by cases hv)
 have hU:=hN.toUB
 obtain⟨g1,g2⟩:=x1.flow
 rw[hf] at g1 g2
 have hau:seq mtB mtB=true\/valGo mtB=true:= .inl (by decide+kernel)
 have hAu:AuB (⟨UC++[],[]⟩:US) mtB:=⟨hau,by simp⟩
 obtain⟨t1,t2⟩:=x1.at (a:=b) (b:=b) (au:=mtB) (by rw[hf,hP];omega) hau
 obtain⟨p1,p2,p3,p4,p5⟩:=y2n hU x1.pp (by omega) (by simp) t1
 have he:=y2l p1 p3 (s:=⟨2,b,b⟩) (fun c hc'=>⟨hc c hc',y5D (hc c hc')⟩)
 have hsn:=z7k p1 p3 (s:=⟨2,b,b⟩) (cs:=cs)
 have hlen:(typEl (atP d ⟨2,b,b⟩ mtB) ⟨2,b,b⟩ cs).length=cs.length:=z9G _ _ _
 generalize hes:typEl (atP d ⟨2,b,b⟩ mtB) ⟨2,b,b⟩ cs=es at he hsn hlen
 have hg:=y0O (f:=f) (a:=b) (b:=b) (by rw[hP];omega)
 rw[hP] at hg
 obtain⟨k0,k1,k2⟩:=hg
 generalize hk:(gapP P b).toNat=k at k1 k2
 have hkk:gapP P b=(k:Int):=by omega
 have e1:=(y2g (cs:=cs) t1).1
 have e3:stpP (atP d ⟨2,b,b⟩ mtB) ⟨2,b,b⟩ es=joinD (ersD f [] mtB) (z00 (typD f.length k es mtB) (ersD f [] mtB)):=by
  rw[t2,hf,hP];unfold stpP ersP typP;simp only[hf,hkk,List.drop_take,Nat.sub_self,List.take_zero]
 rw[hes,e3] at e1
 obtain⟨_,T⟩:=y0J hU.len (n:=f.length) (k:=(k:Int)) (es:=es) (au:=mtB) (by omega) (by omega) (by omega) (z9E hU hAu) he
 obtain⟨_,E⟩:=y0K hU.len (f:=f) (pl:=[]) (au:=mtB) (by omega) (y5n hU hAu)
 rw[show(k:Int).toNat=k by omega] at T
 rw[y7a] at E
 have tf:=z2j (n:=f.length) (k:=k) (es:=es) (au:=mtB) (by omega)
 have le:=z1t f.length []
 have tl:=T.lens
 have el:=E.lens
 have E2:=E
 obtain⟨Q,p1',p2'⟩:=z6A hU.len T E (by omega) (by omega)
 obtain⟨J,j1,j2⟩:=z8i hU.len E Q p1'.symm
 have nC:DU.C∉typUs f.length k es mtB:=fun h=>by
  unfold typUs at h
  rcases qm.1 h with h|h
  ·cases zf h
  ·rcases qm.1 h with h|h
   ·obtain⟨_,_,h⟩:=qy.1 h;cases h
   ·cases zf h
 have nA:∀e,DU.A e∉List.replicate f.length (DU.K []):=fun e h=>by cases zf h
 have eT:exD (typD f.length k es mtB)=typUs f.length k es mtB:=(z7i T.sw.symm (.inr nC)).symm
 have eE:exD (ersD f [] mtB)=List.replicate f.length (.K []):=(z7i E.sw.symm (.inl nA)).symm
 rw[eT,eE] at Q
 have isA:∀u∈(es.map (typE mtB)).map DU.A,∃x,u= .A x:=fun u hu=>by
  obtain⟨x,_,rfl⟩:=qy.1 hu;exact⟨x,rfl⟩
 have hn:f.length=k+(f.length-k):=by omega
 have pt:=y2r ((es.map (typE mtB)).map .A) isA (f.length-k) k
 have jt:=y2s ((es.map (typE mtB)).map .A) isA (f.length-k) k
 rw[<-hn] at pt jt
 have ut:typUs f.length k es mtB=List.replicate k (.K [])++((es.map (typE mtB)).map .A++List.replicate (f.length-k) (.K [])):=rfl
 rw[ut,pt] at Q
 have eQ:exD (z00 (typD f.length k es mtB) (ersD f [] mtB))=List.replicate k (.K [])++((es.map (typE mtB)).map .A++List.replicate (f.length-k) (.K [])):=(z7i Q.sw.symm (.inr nC)).symm
 rw[eE,eQ,jt] at J
 have a1:z0h (List.replicate k (.K [])++((es.map (typE mtB)).map .A++List.replicate (f.length-k) (.K []))) f=f.take k++(es.map (typE mtB)++f.drop k):=by
  rw[z2N,z2M,zz (g:=id) (fun x _=>z1L x),List.map_id]
  congr 2
  have:=z2N (f.length-k) [] [] (f.drop k)
  rw[qQ] at this
  rw[this,zz (g:=id) (fun x _=>z1L x),List.map_id,qw (by rw[zI];omega)]
  simp[z0h]
 have r:=x1.op hU x1.pp J (by rw[hf,<-ut];exact tf.1) (by rw[z3z _ (by simp;omega),z3z _ (by simp;omega),show f.length-k=(f.length-k- 1)+1 by omega,List.replicate_succ'];exact z7j _ _) (fun t ht x hx=>by
  have hA:DU.A x∈exD (joinD (ersD f [] mtB) (z00 (typD f.length k es mtB) (ersD f [] mtB))):=z9I ht (by
   rcases J.v.1.all t ht with q| ⟨_,e,_⟩
   ·exact q.1
   ·rw[e] at hx;cases hx) hx
  have h1:=(z3t J.sw _).1 hA
  rcases qm.1 h1 with h1|h1
  ·cases zf h1
  ·rcases qm.1 h1 with h1|h1
   ·obtain⟨y,hy,h1⟩:=qy.1 h1
    cases h1
    obtain⟨z,hz,rfl⟩:=qy.1 hy
    exact(hsn z hz).2
   ·cases zf h1)
 have hru:∀x∈z0h (List.replicate k (.K [])++((es.map (typE mtB)).map .A++List.replicate (f.length-k) (.K []))) f,RU (⟨UC++[],[]⟩:US) x:=z1J _ f J.all g1.ru
 rw[hf,a1] at r
 rw[a1] at hru
 refine⟨_,es.map (typE mtB),e1,J,by rw[qg,hlen],fun y hy=> ?_,k1,rfl,r.1,r.2.1,r.2.2,hru⟩
 obtain⟨x,hx,rfl⟩:=qy.1 hy
 exact z9N (he x hx).2.g (z9E hU hAu).g (hsn x hx).1
def plE(c:Int):Elem:=⟨c,0,[]⟩
theorem y9h(c:Int):typE mtB (plE c)=plE c:=by
 unfold typE plE
 rw[show fm rawG [] [⟨addB,mtB⟩,⟨cutB,mtB⟩]=[] by decide+kernel]
theorem y7b{p:Pl}{s:Sel}{cs:List Int}(h:inhP p s.fr=[])(hc:∀c∈cs,c≠10):(typEl p s cs).map (typE mtB)=cs.map plE:=by
 unfold typEl
 rw[h,jc,jc]
 refine zz fun c hc'=> ?_
 show typE mtB (typX p s (mkE [] c))=plE c
 unfold typX
 rw[if_neg (show¬(mkE [] c).char=10 from hc c hc')]
 exact y9h c
def rootN:Node:=⟨1,0,[],[⟨0,2,[]⟩,⟨0,3,[]⟩],⟨0,0,[],[]⟩,[]⟩
def textN(f:List Elem):Node:=⟨2,1,[],f,⟨0,0,[],[]⟩,[]⟩
def drawN:Node:=⟨3,10,[],[],⟨0,0,[],[]⟩,[]⟩
def docM(f:List Elem):Doc:=⟨[rootN,textN f,drawN]⟩
theorem y0R:ndN baseD.nodes 2=textN (abcF [] []):=by
 unfold ndN;rw[show lobN baseD.nodes 2=1 by decide+kernel];rfl
theorem z8o(f:List Elem):putF baseD f=docM f:=by
 unfold putF
 rw[y0R,show lobN baseD.nodes 2=1 by decide+kernel]
 rfl
theorem z6D:DX (⟨UC++[],[]⟩:US) baseD:=by
 exact⟨(y82 un_0).2.mono (by omega),y83⟩
structure Ty46(b:Int)(cs:List Int)(o:List EOp)(S:Sel)(g:List Elem):Prop where
 ho:typeO baseD ⟨2,b,b⟩ cs mtB=o
 hS:typeS baseD ⟨2,b,b⟩ cs mtB=S
 e1:atE baseD ⟨2,b,b⟩ mtB=0
 tb:TypB baseD ⟨2,b,b⟩ cs mtB
 ap:AppB baseD o
 e2:appE baseD o=0
 hd2:appD baseD o=docM g
theorem ty46{b:Int}{k:Nat}(hb:0<=b/\b<6)(hk:(gapP (plcL (abcF [] []) 0 6) b).toNat=k)(hi:inhP (atP baseD ⟨2,b,b⟩ mtB) b=[]){cs:List Int}(hc:∀c∈cs,CharP c/\c≠10)(hl:cs.length<=1000):
 ∃o S,Ty46 b cs o S (insF (abcF [] []) (cs.map plE) k)/\∀x∈insF (abcF [] []) (cs.map plE) k,RU (⟨UC++[],[]⟩:US) x:=by
 have hf:(ndN baseD.nodes 2).flow=abcF [] []:=by rw[y0R];rfl
 have hP:plcL (abcF [] []) 0 (abcF [] []).length=plcL (abcF [] []) 0 6:=rfl
 have hl6:(plcL (abcF [] []) 0 6).length=6:=by decide+kernel
 have hau:seq mtB mtB=true\/valGo mtB=true:= .inl (by decide+kernel)
 obtain⟨t1,t2,t3,t4,t5,_⟩:=y69 z6D b b cs mtB hf hP (by omega) hau (fun c h=>(hc c h).1) (by omega)
 obtain⟨st,es,u1,u2,u3,u4,u5,u6,u7,u8,u9,u10⟩:=y5H z6D b cs hf hP (by omega) (fun c h=>(hc c h).1) (by omega)
 rw[y7b (s:=⟨2,b,b⟩) hi (fun c h=>(hc c h).2)] at u6
 subst u6
 rw[hk] at u9 u10
 exact⟨_,_,⟨u1,t5,t1,t2,u7,u8,by rw[u9,z8o];rfl⟩,fun x hx=>u10 x hx⟩
theorem z9P(e:List Elem):insF (abcF [] []) e 1=abcF e []:=by unfold insF abcF;simp
theorem z9Q(e:List Elem):insF (abcF [] []) e 5=abcF [] e:=by unfold insF abcF;simp
theorem y8c{e:List Elem}(h:∀x∈e,¬(97<=x.char/\x.char<=100)/\x.char≠10):∀x∈abcF [] [],∀y∈e,z0r x y=false:=fun x hx y hy=>by
 have:=h y hy
 unfold z0r
 have hq:¬x.char=y.char:=fun q=>by
  simp only[abcF,zo,qn,qV,or_false] at hx
  rcases hx with rfl|rfl|rfl|rfl|rfl|rfl<;>simp only at q<;>omega
 rw[beq_eq_false_iff_ne.2 hq];rfl
theorem z7l{s t:List Elem}(hs:∀x∈s,x.attrs=[])(ht:∀x∈t,x.attrs=[]):AN 10000000 (abcF s t):=fun x hx=>by
 have:x.attrs=[]:=by
  simp only[abcF,qn,qm,qV,or_false] at hx
  rcases hx with rfl|hx|rfl|rfl|rfl|rfl|hx|rfl
  ·rfl
  ·exact hs x hx
  ·rfl
  ·rfl
  ·rfl
  ·rfl
  ·exact ht x hx
  ·rfl
 rw[this];exact qp _
theorem z5K{cs:List Int}:∀x∈cs.map plE,x.attrs=[]:=fun x hx=>by
 obtain⟨c,_,rfl⟩:=qy.1 hx;rfl
theorem z37(s t:List Elem):(abcF s t).length=6+s.length+t.length:=by unfold abcF;simp;omega
theorem x0h{cs ds:List Int}(hs:∀c∈cs,¬(97<=c/\c<=100)/\c≠10)(ht:∀c∈ds,¬(97<=c/\c<=100)/\c≠10)(ls:cs.length<=60)(lt:ds.length<=60)
 (pa:partE (abcF (cs.map plE) []) 0=0) (pb:partE (abcF [] (ds.map plE)) 0=0) (node:Int):
 mrgO node (abcF [] []) (z0d (doneD (diffU (abcF [] []) (abcF (cs.map plE) [])))) (z0d (doneD (diffU (abcF [] []) (abcF [] (ds.map plE)))))=abcF (cs.map plE) (ds.map plE)/\
 mrgC node (abcF [] []) (z0d (doneD (diffU (abcF [] []) (abcF (cs.map plE) [])))) (z0d (doneD (diffU (abcF [] []) (abcF [] (ds.map plE)))))=[]:=by
 have po:partE (abcF [] []) 0=0:=by decide+kernel
 have no:AN 10000000 (abcF [] []):=z7l (by simp) (by simp)
 have k:∀{es:List Int},(∀c∈es,¬(97<=c/\c<=100)/\c≠10)->∀x∈es.map plE,¬(97<=x.char/\x.char<=100)/\x.char≠10:=fun h x hx=>by
  obtain⟨c,hc,rfl⟩:=qy.1 hx;exact h c hc
 have A:=y4U (o:=abcF [] []) (e:=cs.map plE) (p:=1) po (by rw[z9P];exact pa) no (by rw[z9P];exact z7l z5K (by simp)) (by decide) (by rw[z9P,z37,qg];simp;omega) (by decide) rfl (by decide) (y8c (k hs))
 have B:=y4U (o:=abcF [] []) (e:=ds.map plE) (p:=5) po (by rw[z9Q];exact pb) no (by rw[z9Q];exact z7l (by simp) z5K) (by decide) (by rw[z9Q,z37,qg];simp;omega) (by decide) rfl (by decide) (y8c (k ht))
 rw[z9P] at A
 rw[z9Q] at B
 exact y8I A B
theorem y9i{cs ds:List Int}{s t:ByteArray}(h1:cs.flatMap Lib.encodeRuneZ=intsB s)(h2:ds.flatMap Lib.encodeRuneZ=intsB t):
 txS (abcF (cs.map plE) (ds.map plE))=((({data:=#[97]}++s)++{data:=#[98,99,10,100]})++t)++{data:=#[10]}:=by
 have k:∀cs:List Int,txB (cs.map plE)=cs.flatMap Lib.encodeRuneZ:=fun cs=>by
  unfold txB;rw[List.flatMap_map];rfl
 have e:abcF (cs.map plE) (ds.map plE)=[⟨97,0,[]⟩]++(cs.map plE++([⟨98,0,[]⟩,⟨99,0,[]⟩,⟨10,0,[]⟩,⟨100,0,[]⟩]++(ds.map plE++[⟨10,0,[]⟩]))):=rfl
 unfold txS
 rw[e,z8n,z8n,z8n,z8n,k,k,h1,h2,z5J,z5J,z5J,z5J,z9O,z9O]
 rw[show strB (txB [⟨97,0,[]⟩])={data:=#[97]} by decide+kernel,show strB (txB [⟨98,0,[]⟩,⟨99,0,[]⟩,⟨10,0,[]⟩,⟨100,0,[]⟩])={data:=#[98,99,10,100]} by decide+kernel,show strB (txB [⟨10,0,[]⟩])={data:=#[10]} by decide+kernel]
 simp only[ByteArray.append_assoc]
def srtZ(l:List Int):List Int:=l.mergeSort fun x y=>decide (x<=y)
theorem srt9:Lib.compact (srtZ [1,2,3,1,2,3,1,2,3])=[1,2,3]:=by
 rw[show srtZ [1,2,3,1,2,3,1,2,3]=[1,1,1,2,2,2,3,3,3] by simp[srtZ,List.mergeSort,List.MergeSort.Internal.splitInTwo]]
 decide+kernel
def noG:Grid:=⟨0,0,[],[]⟩
structure MrgN(o a b r:Node):Prop where
 kd:o.kind=a.kind/\a.kind=b.kind
 at_:o.attrs=[]/\a.attrs=[]/\b.attrs=[]
 gr:o.grid=noG/\a.grid=noG/\b.grid=noG
 dr:a.draw=[]/\b.draw=[]
 po:partE o.flow 0=0
 pa:partE a.flow 0=0
 pb:partE b.flow 0=0
 no:AN 10000000 o.flow
 na:AN 10000000 a.flow
 nb:AN 10000000 b.flow
 lo:o.flow.length<=2000
 la:a.flow.length<=2000
 lb:b.flow.length<=2000
 mo:mrgO a.id o.flow (z0d (doneD (diffU o.flow a.flow))) (z0d (doneD (diffU o.flow b.flow)))=r.flow
 mc:mrgC a.id o.flow (z0d (doneD (diffU o.flow a.flow))) (z0d (doneD (diffU o.flow b.flow)))=[]
 re:r=⟨a.id,a.kind,[],r.flow,noG,[]⟩
def idsL(d:Doc):List Int:=d.nodes.map (·.id)
structure MrgD(o a b:Doc)(L:List Int)(R:List Node):Prop where
 dl:DocL o/\DocL a/\DocL b
 de:docE o=0/\docE a=0/\docE b=0
 ido:idsL o=[1,2,3]
 ida:idsL a=[1,2,3]
 idb:idsL b=[1,2,3]
 len:R.length=L.length
 has:∀i,i<L.length->hasN o.nodes (L.getD i default)=true/\hasN a.nodes (L.getD i default)=true/\hasN b.nodes (L.getD i default)=true
 nz:∀i,i<L.length->(ndN o.nodes (L.getD i default)).id≠0
 each:∀i,i<L.length->MrgN (ndN o.nodes (L.getD i default)) (ndN a.nodes (L.getD i default)) (ndN b.nodes (L.getD i default)) (R.getD i default)
 dr:DocB ⟨R⟩
theorem ids3{d:Doc}(h:idsL d=[1,2,3]):d.nodes.length=3/\(d.nodes.getD 0 default).id=1/\(d.nodes.getD 1 default).id=2/\(d.nodes.getD 2 default).id=3:=by
 unfold idsL at h
 generalize d.nodes=l at h
 have hl:l.length=3:=by have:=congrArg List.length h;simpa using this
 refine⟨hl,?_,?_,?_⟩
 ·have:=congrArg (fun z=>z[0]?) h
  simp only[ze,qa (show 0<l.length by omega)] at this
  simpa[List.getD,qa (show 0<l.length by omega)] using this
 ·have:=congrArg (fun z=>z[1]?) h
  simp only[ze,qa (show 1<l.length by omega)] at this
  simpa[List.getD,qa (show 1<l.length by omega)] using this
 ·have:=congrArg (fun z=>z[2]?) h
  simp only[ze,qa (show 2<l.length by omega)] at this
  simpa[List.getD,qa (show 2<l.length by omega)] using this
theorem takeN{l:List Node}{i:Nat}(h:i<l.length):l.take (i+1)=l.take i++[l.getD i default]:=by
 rw[qD h];simp[List.getD,qa h]
def OkC46(x:Elem):Prop:=¬(97<=x.char/\x.char<=100)/\x.char≠10
def UE:US:=⟨UC++[],[]⟩
theorem y9j{s t:List Elem}{x:Elem}(h:x∈abcF s t):x∈abcF s []\/x∈abcF [] t:=by
 simp only[abcF,qn,qm,qV,or_false,zo] at h|-
 rcases h with h|h|h|h|h|h|h|h<;>simp[h]
theorem x0i{cs ds:List Int}:∀x∈abcF (cs.map plE) (ds.map plE),x.ref=0/\x.attrs=[]:=fun x hx=>by
 simp only[abcF,qn,qm,qV,or_false,qy] at hx
 rcases hx with rfl| ⟨c,_,rfl⟩|rfl|rfl|rfl|rfl| ⟨c,_,rfl⟩|rfl<;>exact⟨rfl,rfl⟩
theorem y7c(s t:List Elem):((abcF s t).getD ((abcF s t).length- 1) default).char=10:=by
 have e:abcF s t=(⟨97,0,[]⟩::(s++(⟨98,0,[]⟩::⟨99,0,[]⟩::⟨10,0,[]⟩::⟨100,0,[]⟩::t)))++[⟨10,0,[]⟩]:=by simp[abcF]
 rw[e,qj,qc,zG,Nat.add_sub_cancel,qP (qr _)]
 simp
theorem z5L{f:List Elem}(h:∀x∈f,elemE x=0):∀(n i:Nat),f.length-i=n->partE f i=0
 |0,i,hn=>by rw[partE,if_neg (by omega)]
 |n+1,i,hn=>by rw[partE,if_pos (by omega),if_pos (h _ (z1O (by omega))),z5L h n (i+1) (by omega)]
theorem y9k{cs ds:List Int}(he:∀x∈abcF (cs.map plE) (ds.map plE),elemE x=0):VD (docM (abcF (cs.map plE) (ds.map plE))).nodes:=by
 have hx:nodeE (textN (abcF (cs.map plE) (ds.map plE)))=0:=by
  refine y8Z (show(1:Int)<=2/\(2:Int)<=1073741824 by decide) (show(0:Int)<=1/\(1:Int)<=12/\((2:Int)=1↔(1:Int)=0) by decide) (show VG false [] from(VU.nil (U:=UE)).g) ⟨fun _=> .inl (show hasT 1=true by decide),fun h=>absurd (show zeroG (⟨0,0,[],[]⟩:Grid)=false from h) (by decide),fun h=>absurd (show 0< ([]:List DOp).length from h) (by decide)⟩ (fun _=> ?_) (fun h=>absurd (show hasG 1=true from h) (by decide)) (.inr (.inl (show hasT 1=true by decide)))
  show flowZ (hasT 1) (abcF (cs.map plE) (ds.map plE))=0
  rw[z4G ((z6B _ 0 rfl).2 fun j _ hj=>⟨he _ (z0n hj),fun q=>absurd q (by decide)⟩),if_neg]
  rintro⟨_,q|q⟩
  ·rw[z37] at q;omega
  ·exact q (y7c _ _)
 have hr:refsN (textN (abcF (cs.map plE) (ds.map plE)))=[]:=by
  unfold refsN refsF
  rw[show(textN (abcF (cs.map plE) (ds.map plE))).flow=abcF (cs.map plE) (ds.map plE) from rfl]
  rw[List.filterMap_eq_nil_iff.2 fun x hx=>by rw[if_neg (fun q=>q (x0i x hx).1)]]
  rfl
 refine⟨by show 0<3;decide,rfl,fun p q hpq hq=> ?_,fun n hn=> ?_,fun n hn r hr'=> ?_⟩
 ·have hq:q<3:=hq
  have hc:(p=0/\q=1)\/(p=0/\q=2)\/(p=1/\q=2):=by omega
  rcases hc with⟨rfl,rfl⟩| ⟨rfl,rfl⟩| ⟨rfl,rfl⟩
  ·exact(by decide:(1:Int)< 2)
  ·exact(by decide:(1:Int)< 3)
  ·exact(by decide:(2:Int)< 3)
 ·have hn:n∈[rootN,textN (abcF (cs.map plE) (ds.map plE)),drawN]:=hn
  simp only[qn,qV,or_false] at hn
  rcases hn with rfl|rfl|rfl
  ·decide+kernel
  ·exact hx
  ·decide+kernel
 ·have hn:n∈[rootN,textN (abcF (cs.map plE) (ds.map plE)),drawN]:=hn
  simp only[qn,qV,or_false] at hn
  rcases hn with rfl|rfl|rfl
  ·have hr2:r∈[(2:Int),3]:=hr'
   simp only[qn,qV,or_false] at hr2
   rcases hr2 with rfl|rfl
   ·exact⟨textN (abcF (cs.map plE) (ds.map plE)),by show _∈[_,_,_];simp,rfl,by show permB 0 1=true;decide⟩
   ·exact⟨drawN,by show _∈[_,_,_];simp,rfl,by show permB 0 10=true;decide⟩
  ·rw[hr] at hr';cases hr'
  ·exact absurd hr' (by show r∉([]:List Int);simp)
theorem y0S(f:List Elem):(hasN (docM f).nodes 1=true/\hasN (docM f).nodes 2=true/\hasN (docM f).nodes 3=true)/\ndN (docM f).nodes 1=rootN/\ndN (docM f).nodes 2=textN f/\ndN (docM f).nodes 3=drawN:=by
 have l1:lobN (docM f).nodes 1=0:=by unfold lobN docM;simp[rootN]
 have l2:lobN (docM f).nodes 2=1:=by unfold lobN docM;simp[rootN,textN]
 have l3:lobN (docM f).nodes 3=2:=by unfold lobN docM;simp[rootN,textN,drawN]
 refine⟨⟨z03.2 ?_,z03.2 ?_,z03.2 ?_⟩,?_,?_,?_⟩
 ·rw[l1];exact⟨by show 0<3;decide,rfl⟩
 ·rw[l2];exact⟨by show 1<3;decide,rfl⟩
 ·rw[l3];exact⟨by show 2<3;decide,rfl⟩
 ·unfold ndN;rw[l1];rfl
 ·unfold ndN;rw[l2];rfl
 ·unfold ndN;rw[l3];rfl
theorem y7d:mrgO 1 rootN.flow (z0d (doneD (diffU rootN.flow rootN.flow))) (z0d (doneD (diffU rootN.flow rootN.flow)))=rootN.flow/\mrgC 1 rootN.flow (z0d (doneD (diffU rootN.flow rootN.flow))) (z0d (doneD (diffU rootN.flow rootN.flow)))=[]:=⟨by kernel_rfl,by kernel_rfl⟩
theorem y7e:mrgO 3 drawN.flow (z0d (doneD (diffU drawN.flow drawN.flow))) (z0d (doneD (diffU drawN.flow drawN.flow)))=drawN.flow/\mrgC 3 drawN.flow (z0d (doneD (diffU drawN.flow drawN.flow))) (z0d (doneD (diffU drawN.flow drawN.flow)))=[]:=⟨by kernel_rfl,by kernel_rfl⟩
theorem y9l{cs ds:List Int}(hs:∀c∈cs,¬(97<=c/\c<=100)/\c≠10)(ht:∀c∈ds,¬(97<=c/\c<=100)/\c≠10)(ls:cs.length<=60)(lt:ds.length<=60)
 (hl:∀f∈[abcF [] [],abcF (cs.map plE) [],abcF [] (ds.map plE),abcF (cs.map plE) (ds.map plE)],DocL (docM f)/\docE (docM f)=0/\∀x∈f,elemE x=0):
 MrgD (docM (abcF [] [])) (docM (abcF (cs.map plE) [])) (docM (abcF [] (ds.map plE))) [1,2,3] [rootN,textN (abcF (cs.map plE) (ds.map plE)),drawN]:=by
 obtain⟨o1,o2,o3⟩:=hl (abcF [] []) (by simp)
 obtain⟨a1,a2,a3⟩:=hl (abcF (cs.map plE) []) (by simp)
 obtain⟨b1,b2,b3⟩:=hl (abcF [] (ds.map plE)) (by simp)
 obtain⟨c1,c2,c3⟩:=hl (abcF (cs.map plE) (ds.map plE)) (by simp)
 have pa:=z5L a3 _ 0 rfl
 have pb:=z5L b3 _ 0 rfl
 have po:=z5L o3 _ 0 rfl
 have hm:=x0h hs ht ls lt pa pb 2
 have hR:=y7d
 have hD:=y7e
 obtain⟨⟨p1,p2,p3⟩,p4,p5,p6⟩:=y0S (abcF [] [])
 obtain⟨⟨q1,q2,q3⟩,q4,q5,q6⟩:=y0S (abcF (cs.map plE) [])
 obtain⟨⟨r1,r2,r3⟩,r4,r5,r6⟩:=y0S (abcF [] (ds.map plE))
 have nR:AN 10000000 rootN.flow:=fun x hx=>by rw[show x.attrs=[] by simp[rootN] at hx;rcases hx with rfl|rfl<;>rfl];exact qp _
 have nD:AN 10000000 drawN.flow:=fun x hx=>by cases hx
 refine⟨⟨o1,a1,b1⟩,⟨o2,a2,b2⟩,rfl,rfl,rfl,rfl,fun i hi=> ?_,fun i hi=> ?_,fun i hi=> ?_,c1.toDocB⟩
 ·have hi:i<3:=hi
  match i,hi with
  |0,_=>exact⟨p1,q1,r1⟩
  |1,_=>exact⟨p2,q2,r2⟩
  |2,_=>exact⟨p3,q3,r3⟩
 ·have hi:i<3:=hi
  match i,hi with
  |0,_=>show(ndN _ 1).id≠0;rw[p4];decide
  |1,_=>show(ndN _ 2).id≠0;rw[p5];exact(by decide:(2:Int)≠0)
  |2,_=>show(ndN _ 3).id≠0;rw[p6];decide
 ·have hi:i<3:=hi
  match i,hi with
  |0,_=>
   show MrgN (ndN _ 1) (ndN _ 1) (ndN _ 1) rootN
   rw[p4,q4,r4]
   exact⟨⟨rfl,rfl⟩,⟨rfl,rfl,rfl⟩,⟨rfl,rfl,rfl⟩,⟨rfl,rfl⟩,by decide+kernel,by decide+kernel,by decide+kernel,nR,nR,nR,by decide,by decide,by decide,hR.1,hR.2,rfl⟩
  |1,_=>
   show MrgN (ndN _ 2) (ndN _ 2) (ndN _ 2) (textN _)
   rw[p5,q5,r5]
   exact⟨⟨rfl,rfl⟩,⟨rfl,rfl,rfl⟩,⟨rfl,rfl,rfl⟩,⟨rfl,rfl⟩,po,pa,pb,z7l (by simp) (by simp),z7l z5K (by simp),z7l (by simp) z5K,by show(abcF [] []).length<=2000;decide,by show(abcF _ _).length<=2000;rw[z37,qg];simp;omega,by show(abcF _ _).length<=2000;rw[z37,qg];simp;omega,hm.1,hm.2,rfl⟩
  |2,_=>
   show MrgN (ndN _ 3) (ndN _ 3) (ndN _ 3) drawN
   rw[p6,q6,r6]
   exact⟨⟨rfl,rfl⟩,⟨rfl,rfl,rfl⟩,⟨rfl,rfl,rfl⟩,⟨rfl,rfl⟩,by decide+kernel,by decide+kernel,by decide+kernel,nD,nD,nD,by decide,by decide,by decide,hD.1,hD.2,rfl⟩
structure Ok46(s t:ByteArray)(o1:List EOp)(S1:Sel)(d1:Doc)(o2:List EOp)(S2:Sel)(d2:Doc)(R:List Node)(n:Node):Prop where
 ho1:typeO baseD ⟨2,1,1⟩ (ofR s).1 mtB=o1
 hS1:typeS baseD ⟨2,1,1⟩ (ofR s).1 mtB=S1
 e1:atE baseD ⟨2,1,1⟩ mtB=0
 tb1:TypB baseD ⟨2,1,1⟩ (ofR s).1 mtB
 ap1:AppB baseD o1
 z1:appE baseD o1=0
 hd1:appD baseD o1=d1
 ho2:typeO baseD ⟨2,5,5⟩ (ofR t).1 mtB=o2
 hS2:typeS baseD ⟨2,5,5⟩ (ofR t).1 mtB=S2
 e2:atE baseD ⟨2,5,5⟩ mtB=0
 tb2:TypB baseD ⟨2,5,5⟩ (ofR t).1 mtB
 ap2:AppB baseD o2
 z2:appE baseD o2=0
 hd2:appD baseD o2=d2
 mg:MrgD baseD d1 d2 [1,2,3] R
 dR:DocL ⟨R⟩
 hn:nodeF ⟨R⟩ 2=n
 hn2:nodeH ⟨R⟩ 2=true
 ok:∀x∈n.flow,elemE x=0
 fl:n.flow.length<=1000
 str:txS n.flow=((({data:=#[97]}++s)++{data:=#[98,99,10,100]})++t)++{data:=#[10]}
theorem y5I:DocL baseD:=z6D.pp.docL (z9H [] (by simp) [] (fun v hv=>by cases hv)).toUB (by omega)
theorem y9m{s t:ByteArray}(h1:(ofR s).2=0)(h2:(ofR t).2=0)(h:∀j,j< (ofL s []++ofL t []).length->OkC46 ((ofL s []++ofL t []).getD j default)):
 (∀c∈(ofR s).1,¬(97<=c/\c<=100)/\c≠10)/\∀c∈(ofR t).1,¬(97<=c/\c<=100)/\c≠10:=by
 have e1:ofL s []=(ofR s).1.map (mkE []):=by unfold ofL;rw[if_pos h1]
 have e2:ofL t []=(ofR t).1.map (mkE []):=by unfold ofL;rw[if_pos h2]
 have k:∀x∈ofL s []++ofL t [],OkC46 x:=fun x hx=>by
  obtain⟨j,hj,rfl⟩:=z0R hx
  exact h j hj
 refine⟨fun c hc=>k (mkE [] c) (List.mem_append_left _ ?_),fun c hc=>k (mkE [] c) (List.mem_append_right _ ?_)⟩
 ·rw[e1];exact List.mem_map_of_mem hc
 ·rw[e2];exact List.mem_map_of_mem hc
theorem inh_1:inhP (atP baseD ⟨2,1,1⟩ mtB) 1=[]:=by decide+kernel
theorem inh_5:inhP (atP baseD ⟨2,5,5⟩ mtB) 5=[]:=by decide+kernel
theorem ok46{s t:ByteArray}(hs:(ofR s).2=0)(ht:(ofR t).2=0)(ls:s.size<=60)(lt:t.size<=60)(cs:∀c∈(ofR s).1,¬(97<=c/\c<=100)/\c≠10)(ct:∀c∈(ofR t).1,¬(97<=c/\c<=100)/\c≠10):
 ∃o1 S1 d1 o2 S2 d2 R n,Ok46 s t o1 S1 d1 o2 S2 d2 R n:=by
 obtain⟨c1,c2,c3⟩:=z8m _ s rfl
 obtain⟨k1,k2,k3⟩:=z8m _ t rfl
 obtain⟨o1,S1,T1,u1⟩:=ty46 (b:=1) (k:=1) (by decide) (by decide+kernel) inh_1 (cs:=(ofR s).1) (fun c h=>⟨c1 c h,(cs c h).2⟩) (by omega)
 obtain⟨o2,S2,T2,u2⟩:=ty46 (b:=5) (k:=5) (by decide) (by decide+kernel) inh_5 (cs:=(ofR t).1) (fun c h=>⟨k1 c h,(ct c h).2⟩) (by omega)
 rw[z9P] at T1 u1
 rw[z9Q] at T2 u2
 have hN:=z9H [] (by simp) [] (fun v hv=>by cases hv)
 have u0:∀x∈abcF [] [],RU UE x:=fun x hx=>u1 x (by
  simp only[abcF,qn,qm,qV,or_false,zo] at hx|-
  rcases hx with h|h|h|h|h|h<;>simp[h])
 have uF:∀x∈abcF ((ofR s).1.map plE) ((ofR t).1.map plE),RU UE x:=fun x hx=>(y9j hx).elim (u1 x) (u2 x)
 have hb:∀(p q:List Int),p.length<=60->q.length<=60->(∀x∈abcF (p.map plE) (q.map plE),RU UE x)->DocL (docM (abcF (p.map plE) (q.map plE)))/\docE (docM (abcF (p.map plE) (q.map plE)))=0/\∀x∈abcF (p.map plE) (q.map plE),elemE x=0:=fun p q lp lq h=>by
  refine⟨?_,y0N.2 (y9k fun x hx=>(h x hx).1),fun x hx=>(h x hx).1⟩
  rw[<-z8o]
  exact y5E hN.toUB z6D h (by rw[z37,qg,qg];omega)
 have B0:=hb [] [] (by simp) (by simp) u0
 have B1:=hb (ofR s).1 [] (by omega) (by simp) u1
 have B2:=hb [] (ofR t).1 (by simp) (by omega) u2
 have B3:=hb (ofR s).1 (ofR t).1 (by omega) (by omega) uF
 have hM:=y9l cs ct (by omega) (by omega) (fun f hf=>by
  simp only[qn,qV,or_false] at hf
  rcases hf with rfl|rfl|rfl|rfl
  ·exact B0
  ·exact B1
  ·exact B2
  ·exact B3)
 have hnode:nodeF (docM (abcF ((ofR s).1.map plE) ((ofR t).1.map plE))) 2=textN (abcF ((ofR s).1.map plE) ((ofR t).1.map plE))/\nodeH (docM (abcF ((ofR s).1.map plE) ((ofR t).1.map plE))) 2=true:=by
  have:=z9J z6D (abcF ((ofR s).1.map plE) ((ofR t).1.map plE))
  rw[z8o,y0R] at this
  exact this
 refine⟨o1,S1,docM _,o2,S2,docM _,_,textN (abcF ((ofR s).1.map plE) ((ofR t).1.map plE)),⟨T1.ho,T1.hS,T1.e1,T1.tb,T1.ap,T1.e2,T1.hd2,T2.ho,T2.hS,T2.e1,T2.tb,T2.ap,T2.e2,T2.hd2,hM,B3.1,hnode.1,hnode.2,B3.2.2,?_,y9i (c3 hs) (k3 ht)⟩⟩
 show(abcF _ _).length<=1000
 rw[z37,qg,qg];omega
end Go.Ch
end
section
set_option maxRecDepth 100000
set_option maxHeartbeats 4000000
open Go Go.Proofs Go.Ab
namespace Go.Ch
theorem y2t(x:Int):FC Tryz.prog 218 [VI x] (app emp []) (VB false) (app emp []):=by
 refine .go Tryz.f218 ?_
 have e1:((x !=x):Bool)=false:=by
  simp
 exact .finE [.r [],.r []] [] (fun z0:Bool=>(VB z0,[])) _ _ e1.symm
theorem z8p(x y:Int):FC Tryz.prog 206 [VI x,VI y] (app emp []) (VI (cmpI x y)) (app emp []):=by
 refine .go Tryz.f206 ?_
 refine .bp [.r [],.r [(1,X (Xc0 (y2t x) X0))],.r [(1,X (Xc0 (y2t y) X0))],.r [],.f,.r [],.f,.r []] (decide (x<y)) (fun h9=> ?_) (fun h9=> ?_)
 ·
  have e1:((cmpI x y):Int)= -1:=by
   unfold cmpI;((repeat' split)<;>first|rfl|omega| (simp_all;done)| (simp_all;omega))
  exact .finE [.r []] [] (fun z0:Int=>(VI z0,[])) _ _ e1
 ·
  refine .bp [.r []] (decide (x>y)) (fun h11=> ?_) (fun h11=> ?_)
  ·
   have e2:((cmpI x y):Int)=1:=by
    unfold cmpI;((repeat' split)<;>first|rfl|omega| (simp_all;done)| (simp_all;omega))
   exact .finE [.r []] [] (fun z0:Int=>(VI z0,[])) _ _ e2
  ·
   have e3:((cmpI x y):Int)=0:=by
    unfold cmpI;((repeat' split)<;>first|rfl|omega| (simp_all;done)| (simp_all;omega))
   exact .finE [.r []] [] (fun z0:Int=>(VI z0,[])) _ _ e3
theorem fc_or(l:List Int):FC Tryz.prog 205 [VL 1 intT l] (app emp []) (VI (orL l)) (app emp []):=by
 refine .go Tryz.f205 ?_
 refine .len 0 (fun hl0=> ?_)
 refine .loop (α:=Nat) [.r [],.r [],.r [(1,X (Xl intT l))]] 40 (fun i=>([(3,VI 0),(6,VL 1 intT l),(7,VI (l.length:Int)),(8,VI (i:Int))],[])) (fun i=>i<=l.length/\orL l=orL (l.drop i)) (fun i=>l.length-i) (0:Nat) ?_ ?_
 ·
  exact⟨by omega,rfl⟩
 rintro i I3 ih3
 try dsimp only at I3
 refine .bp [.r []] (decide ((i:Int)< (l.length:Int))) (fun h3=> ?_) (fun h3=> ?_)
 ·
  refine .bp [.r [(0,X (Xi intT l (i:Int)))],.r []] ((l.getD i default) !=0) (fun h5=> ?_) (fun h5=> ?_)
  ·
   have e1:((orL l):Int)=(l.getD i default):=by
    rw[I3.2,y7T (by omega),if_pos (by omega)]
   exact .finE [.r []] [] (fun z0:Int=>(VI z0,[])) _ _ e1
  ·
   refine .back [.r [(0,X (Xn ((i:Int)+1)))]] [] (ih3 ((i+1):Nat) ?_ ?_)
   ·
    refine⟨by omega,?_⟩
    rw[I3.2,y7T (by omega),if_neg (by omega)]
   ·
    ((try dsimp only);omega)
 ·
  have e2:((orL l):Int)=0:=by
   rw[I3.2,qT (by omega)];rfl
  exact .finE [.r []] [] (fun z0:Int=>(VI z0,[])) _ _ e2
theorem z8q(a b:Cell):FC Tryz.prog 228 [.t (cellT a),.t (cellT b)] (app emp []) (VI (ordC a b)) (app emp []):=by
 refine .go Tryz.f228 ?_
 have e1:((ordC a b):Int)=(orL [(cmpI a.row b.row),(cmpI a.col b.col)]):=by
  rfl
 exact .finE [.r [],.r [(4,X (Xc0 (z8p a.row b.row) X0)),(9,X (Xc0 (z8p a.col b.col) X0)),(11,X (Xc0 (fc_or [(cmpI a.row b.row),(cmpI a.col b.col)]) (rowC intT [(cmpI a.row b.row),(cmpI a.col b.col)] X0)))]] [] (fun z0:Int=>(VI z0,[])) _ _ e1
theorem z8r(c:Cell):FC Tryz.prog 227 [.t (cellT c)] (app emp []) (VB (z2R c)) (app emp []):=by
 refine .go Tryz.f227 ?_
 have e1:((z2R c):Bool)=((seq c.text ({data:=#[]})&&(c.ref==0))&&((c.attrs.length:Int)==0)):=by
  rfl
 exact .finE [.r [],.r [(5,Xv 1 (seq c.text ({data:=#[]})) X0),(6,Xv 1 (seq c.text ({data:=#[]})) X0),(7,X (Xk (seq c.text ({data:=#[]})))),(10,Xv 1 (seq c.text ({data:=#[]})&&(c.ref==0)) X0),(11,Xv 1 (seq c.text ({data:=#[]})&&(c.ref==0)) (Xl attrT c.attrs)),(12,Xv 1 (seq c.text ({data:=#[]})&&(c.ref==0)) X0),(13,X (Xk (seq c.text ({data:=#[]})&&(c.ref==0))))]] [] (fun z0:Bool=>(VB z0,[])) _ _ e1
theorem z9R(s:ByteArray):FC Tryz.prog 230 [VS s] (app emp []) (VB (z3d s)) (app emp []):=by
 refine .go Tryz.f230 ?_
 refine .bp [.r [],.r [(4,Xv 1 (!(seq s ({data:=#[]}))) X0),(5,Xv 1 (!(seq s ({data:=#[]}))) X0),(6,X (Xk' (seq s ({data:=#[]})))),(10,Xv 1 (!(seq s ({data:=#[]})||decide ((s.size:Int)> 200))) X0),(11,Xv 1 (!(seq s ({data:=#[]})||decide ((s.size:Int)> 200))) (Xn ((s.size:Int)- 1)) (fun hg=>by(try simp only[decide_eq_true_eq,decide_eq_false_iff_not,zk,zl,gt_iff_lt,qv,qI,qS,zQ] at hg);exact(by have:=z7P hg.1;omega))),(12,Xv 2 (!(seq s ({data:=#[]})||decide ((s.size:Int)> 200))) (Xb s ((s.size:Int)- 1)) (fun hg=>by(try simp only[decide_eq_true_eq,decide_eq_false_iff_not,zk,zl,gt_iff_lt,qv,qI,qS,zQ] at hg);exact⟨(by have:=z7P hg.1;omega),(by omega)⟩)),(13,Xv 1 (!(seq s ({data:=#[]})||decide ((s.size:Int)> 200))) X0),(14,X (Xk' (seq s ({data:=#[]})||decide ((s.size:Int)> 200))))]] ((seq s ({data:=#[]})||decide ((s.size:Int)> 200))|| (((((s[(Int.toNat ((s.size:Int)- 1))]?).getD 0).toNat:Nat):Int)==97)) (fun h1=> ?_) (fun h1=> ?_)
 ·
  have e1:((z3d s):Bool)=false:=by
   have hs:((s.size:Int)- 1).toNat=s.size- 1:=by omega
   rw[hs] at h1;simp only[byt0,z3T,decide_eq_true_eq] at h1;unfold z3d;rw[decide_eq_false (fun q=>by omega)];rfl
  exact .finE [.r []] [] (fun z0:Bool=>(VB z0,[])) _ _ e1
 ·
  refine .loop (α:=Nat) [.r []] 152 (fun i=>([(0,VS s),(20,VI (s.size:Int)),(21,VI (i:Int))],[])) (fun i=>i<=s.size/\plS s 0=plS s i) (fun i=>s.size-i) (0:Nat) ?_ ?_
  ·
   exact⟨by omega,rfl⟩
  rintro i I4 ih4
  try dsimp only at I4
  refine .bp [.r []] (decide ((i:Int)< (s.size:Int))) (fun h4=> ?_) (fun h4=> ?_)
  ·
   refine .bp [.r [],.r [(2,X (Xb s (i:Int))),(7,Xv 2 (!(decide (((((s[i]?).getD 0).toNat:Nat):Int)< 97))) (Xb s (i:Int))),(8,Xv 1 (!(decide (((((s[i]?).getD 0).toNat:Nat):Int)< 97))) X0),(9,X (Xk' (decide (((((s[i]?).getD 0).toNat:Nat):Int)< 97))))]] (decide (((((s[i]?).getD 0).toNat:Nat):Int)< 97)||decide (((((s[i]?).getD 0).toNat:Nat):Int)> 122)) (fun h6=> ?_) (fun h6=> ?_)
   ·
    have e2:((z3d s):Bool)=false:=by
     simp only[byt0] at h6;unfold z3d;rw[I4.2,plS,if_pos (by omega),if_pos (by omega)];simp
    exact .finE [.r []] [] (fun z0:Bool=>(VB z0,[])) _ _ e2
   ·
    refine .back [.r [(0,X (Xn ((i:Int)+1)))]] [] (ih4 ((i+1):Nat) ?_ ?_)
    ·
     simp only[byt0] at h6;refine⟨by omega,?_⟩;rw[I4.2,plS,if_pos (by omega),if_neg (by omega)]
    ·
     ((try dsimp only);omega)
  ·
   have e3:((z3d s):Bool)=true:=by
    have hs:((s.size:Int)- 1).toNat=s.size- 1:=by omega
    rw[hs] at h1;simp only[byt0,z3T,decide_eq_false_iff_not] at h1;unfold z3d;rw[I4.2,plS,if_neg (by omega),decide_eq_true (by omega)];rfl
   exact .finE [.r []] [] (fun z0:Bool=>(VB z0,[])) _ _ e3
theorem z6E(a b:DOp):FC Tryz.prog 143 [.t (dopT a),.t (dopT b)] (app emp []) (VI (z5k a b)) (app emp []):=by
 refine .go Tryz.f143 ?_
 have e1:((z5k a b):Int)=(orL [(cmpI a.clock b.clock),(cmpI a.site b.site)]):=by
  rfl
 exact .finE [.r [],.r [(4,X (Xc0 (z8p a.clock b.clock) X0)),(9,X (Xc0 (z8p a.site b.site) X0)),(11,X (Xc0 (fc_or [(cmpI a.clock b.clock),(cmpI a.site b.site)]) (rowC intT [(cmpI a.clock b.clock),(cmpI a.site b.site)] X0)))]] [] (fun z0:Int=>(VI z0,[])) _ _ e1
theorem fc_op(o:DOp):FC Tryz.prog 190 [.t (dopT o)] (app emp []) (VI (opE o)) (app emp []):=by
 refine .go Tryz.f190 ?_
 refine .bp [.r [],.r [(5,Xv 1 (o.kind !=0) X0),(6,Xv 1 (o.kind !=0) X0),(7,X (Xk (o.kind !=0)))]] ((o.kind !=0)&&(o.kind !=1)) (fun h1=> ?_) (fun h1=> ?_)
 ·
  have e1:((opE o):Int)=8:=by
   unfold opE
   (repeat' split)<;>first|rfl| (exfalso;omega)| (exfalso;simp_all;done)| (exfalso;simp_all;omega)|grind
  exact .finE [.r []] [] (fun z0:Int=>(VI z0,[])) _ _ e1
 ·
  refine .bp [.r [(5,Xv 1 (!(decide (o.clock<1))) X0),(6,Xv 1 (!(decide (o.clock<1))) X0),(7,X (Xk' (decide (o.clock<1)))),(10,Xv 1 (!(decide (o.clock<1)||decide (o.clock>1073741824))) X0),(11,Xv 1 (!(decide (o.clock<1)||decide (o.clock>1073741824))) X0),(12,X (Xk' (decide (o.clock<1)||decide (o.clock>1073741824)))),(15,Xv 1 (!((decide (o.clock<1)||decide (o.clock>1073741824))||decide (o.site<0))) X0),(16,Xv 1 (!((decide (o.clock<1)||decide (o.clock>1073741824))||decide (o.site<0))) X0),(17,X (Xk' ((decide (o.clock<1)||decide (o.clock>1073741824))||decide (o.site<0)))),(20,Xv 1 (!(((decide (o.clock<1)||decide (o.clock>1073741824))||decide (o.site<0))||decide (o.site>1000))) X0),(21,Xv 1 (!(((decide (o.clock<1)||decide (o.clock>1073741824))||decide (o.site<0))||decide (o.site>1000))) X0),(22,X (Xk' (((decide (o.clock<1)||decide (o.clock>1073741824))||decide (o.site<0))||decide (o.site>1000)))),(25,Xv 1 (!((((decide (o.clock<1)||decide (o.clock>1073741824))||decide (o.site<0))||decide (o.site>1000))||decide (o.itm<1))) X0),(26,Xv 1 (!((((decide (o.clock<1)||decide (o.clock>1073741824))||decide (o.site<0))||decide (o.site>1000))||decide (o.itm<1))) X0),(27,X (Xk' ((((decide (o.clock<1)||decide (o.clock>1073741824))||decide (o.site<0))||decide (o.site>1000))||decide (o.itm<1))))]] (((((decide (o.clock<1)||decide (o.clock>1073741824))||decide (o.site<0))||decide (o.site>1000))||decide (o.itm<1))||decide (o.itm>1073741824)) (fun h3=> ?_) (fun h3=> ?_)
  ·
   have e2:((opE o):Int)=2:=by
    unfold opE
    (repeat' split)<;>first|rfl| (exfalso;omega)| (exfalso;simp_all;done)| (exfalso;simp_all;omega)|grind
   exact .finE [.r []] [] (fun z0:Int=>(VI z0,[])) _ _ e2
  ·
   refine .bp [.r [(5,Xv 1 (o.kind==0) X0),(6,Xv 1 (o.kind==0) X0),(7,Xv 1 (o.kind==0) X0),(9,Xv 1 ((o.kind==0)&& !(!(seq o.nm ({data:=#[]})))) X0),(10,Xv 1 ((o.kind==0)&& !(!(seq o.nm ({data:=#[]})))) X0),(11,Xko (o.kind==0) (!(seq o.nm ({data:=#[]})))),(12,X (Xk (o.kind==0)))]] ((o.kind==0)&&(!(seq o.nm ({data:=#[]}))|| !(seq o.vl ({data:=#[]})))) (fun h5=> ?_) (fun h5=> ?_)
   ·
    refine .bp [] ((o.kind==0)&&(!(seq o.nm ({data:=#[]}))|| !(seq o.vl ({data:=#[]})))) (fun h5=> ?_) (fun h5=> ?_)
    ·
     have e3:((opE o):Int)=4:=by
      unfold opE
      (repeat' split)<;>first|rfl| (exfalso;omega)| (exfalso;simp_all;done)| (exfalso;simp_all;omega)|grind
     exact .finE [.r []] [] (fun z0:Int=>(VI z0,[])) _ _ e3
    ·
     refine .bp [.r [(5,Xv 1 (o.kind==0) X0),(6,Xv 1 (o.kind==0) X0),(7,Xv 1 (o.kind==0) X0),(9,Xv 1 ((o.kind==0)&& !(decide (o.prt< (-1)))) X0),(10,Xv 1 ((o.kind==0)&& !(decide (o.prt< (-1)))) X0),(11,Xko (o.kind==0) (decide (o.prt< (-1)))),(12,X (Xk (o.kind==0)))]] ((o.kind==0)&&(decide (o.prt< (-1))||decide (o.prt>1073741824))) (fun h8=> ?_) (fun h8=> ?_)
     ·
      have e4:((opE o):Int)=2:=by
       unfold opE
       (repeat' split)<;>first|rfl| (exfalso;omega)| (exfalso;simp_all;done)| (exfalso;simp_all;omega)|grind
      exact .finE [.r []] [] (fun z0:Int=>(VI z0,[])) _ _ e4
     ·
      refine .bp [.r [(5,Xv 1 (o.kind==0) X0),(6,Xv 1 (o.kind==0) (Xc0 (z9R o.plc) X0)),(7,Xv 1 (o.kind==0) X0),(8,X (Xk (o.kind==0)))]] ((o.kind==0)&& !(z3d o.plc)) (fun h10=> ?_) (fun h10=> ?_)
      ·
       refine .bp [] ((o.kind==0)&& !(z3d o.plc)) (fun h10=> ?_) (fun h10=> ?_)
       ·
        have e5:((opE o):Int)=9:=by
         unfold opE
         (repeat' split)<;>first|rfl| (exfalso;omega)| (exfalso;simp_all;done)| (exfalso;simp_all;omega)|grind
        exact .finE [.r []] [] (fun z0:Int=>(VI z0,[])) _ _ e5
       ·
        refine .bp [.r [(5,Xv 1 (o.kind==1) X0),(6,Xv 1 (o.kind==1) X0),(7,X (Xk (o.kind==1))),(10,Xv 1 ((o.kind==1)&& !(seq o.vl ({data:=#[]}))) X0),(11,Xv 1 ((o.kind==1)&& !(seq o.vl ({data:=#[]}))) (Xc0 (z3E o.vl) X0)),(12,Xv 1 ((o.kind==1)&& !(seq o.vl ({data:=#[]}))) X0),(13,X (Xk ((o.kind==1)&& !(seq o.vl ({data:=#[]})))))]] (((o.kind==1)&& !(seq o.vl ({data:=#[]})))&& !(valGo o.vl)) (fun h13=> ?_) (fun h13=> ?_)
        ·
         have e6:((opE o):Int)=23:=by
          unfold opE
          (repeat' split)<;>first|rfl| (exfalso;omega)| (exfalso;simp_all;done)| (exfalso;simp_all;omega)|grind
         exact .finE [.r []] [] (fun z0:Int=>(VI z0,[])) _ _ e6
        ·
         have e7:((opE o):Int)=0:=by
          unfold opE
          (repeat' split)<;>first|rfl| (exfalso;omega)| (exfalso;simp_all;done)| (exfalso;simp_all;omega)|grind
         exact .finE [.r []] [] (fun z0:Int=>(VI z0,[])) _ _ e7
      ·
       refine .bp [.r [(5,Xv 1 (o.kind==1) X0),(6,Xv 1 (o.kind==1) (Xc0 (y0m o.nm) X0)),(7,Xv 1 (o.kind==1) X0),(8,X (Xk (o.kind==1)))]] ((o.kind==1)&& !(z1k o.nm)) (fun h11=> ?_) (fun h11=> ?_)
       ·
        have e8:((opE o):Int)=9:=by
         unfold opE
         (repeat' split)<;>first|rfl| (exfalso;omega)| (exfalso;simp_all;done)| (exfalso;simp_all;omega)|grind
        exact .finE [.r []] [] (fun z0:Int=>(VI z0,[])) _ _ e8
       ·
        refine .bp [.r [(5,Xv 1 (o.kind==1) X0),(6,Xv 1 (o.kind==1) X0),(7,X (Xk (o.kind==1))),(10,Xv 1 ((o.kind==1)&& !(seq o.vl ({data:=#[]}))) X0),(11,Xv 1 ((o.kind==1)&& !(seq o.vl ({data:=#[]}))) (Xc0 (z3E o.vl) X0)),(12,Xv 1 ((o.kind==1)&& !(seq o.vl ({data:=#[]}))) X0),(13,X (Xk ((o.kind==1)&& !(seq o.vl ({data:=#[]})))))]] (((o.kind==1)&& !(seq o.vl ({data:=#[]})))&& !(valGo o.vl)) (fun h13=> ?_) (fun h13=> ?_)
        ·
         have e9:((opE o):Int)=23:=by
          unfold opE
          (repeat' split)<;>first|rfl| (exfalso;omega)| (exfalso;simp_all;done)| (exfalso;simp_all;omega)|grind
         exact .finE [.r []] [] (fun z0:Int=>(VI z0,[])) _ _ e9
        ·
         have e10:((opE o):Int)=0:=by
          unfold opE
          (repeat' split)<;>first|rfl| (exfalso;omega)| (exfalso;simp_all;done)| (exfalso;simp_all;omega)|grind
         exact .finE [.r []] [] (fun z0:Int=>(VI z0,[])) _ _ e10
   ·
    refine .bp [.r [(5,Xv 1 (o.kind==1) X0),(6,Xv 1 (o.kind==1) X0),(7,Xv 1 (o.kind==1) X0),(9,Xv 1 ((o.kind==1)&& !(o.prt !=0)) X0),(10,Xv 1 ((o.kind==1)&& !(o.prt !=0)) X0),(11,Xko (o.kind==1) (o.prt !=0)),(12,X (Xk (o.kind==1)))]] ((o.kind==1)&&((o.prt !=0)|| !(seq o.plc ({data:=#[]})))) (fun h6=> ?_) (fun h6=> ?_)
    ·
     have e11:((opE o):Int)=4:=by
      unfold opE
      (repeat' split)<;>first|rfl| (exfalso;omega)| (exfalso;simp_all;done)| (exfalso;simp_all;omega)|grind
     exact .finE [.r []] [] (fun z0:Int=>(VI z0,[])) _ _ e11
    ·
     refine .bp [.r [(5,Xv 1 (o.kind==0) X0),(6,Xv 1 (o.kind==0) X0),(7,Xv 1 (o.kind==0) X0),(9,Xv 1 ((o.kind==0)&& !(decide (o.prt< (-1)))) X0),(10,Xv 1 ((o.kind==0)&& !(decide (o.prt< (-1)))) X0),(11,Xko (o.kind==0) (decide (o.prt< (-1)))),(12,X (Xk (o.kind==0)))]] ((o.kind==0)&&(decide (o.prt< (-1))||decide (o.prt>1073741824))) (fun h8=> ?_) (fun h8=> ?_)
     ·
      have e12:((opE o):Int)=2:=by
       unfold opE
       (repeat' split)<;>first|rfl| (exfalso;omega)| (exfalso;simp_all;done)| (exfalso;simp_all;omega)|grind
      exact .finE [.r []] [] (fun z0:Int=>(VI z0,[])) _ _ e12
     ·
      refine .bp [.r [(5,Xv 1 (o.kind==0) X0),(6,Xv 1 (o.kind==0) (Xc0 (z9R o.plc) X0)),(7,Xv 1 (o.kind==0) X0),(8,X (Xk (o.kind==0)))]] ((o.kind==0)&& !(z3d o.plc)) (fun h10=> ?_) (fun h10=> ?_)
      ·
       refine .bp [] ((o.kind==0)&& !(z3d o.plc)) (fun h10=> ?_) (fun h10=> ?_)
       ·
        have e13:((opE o):Int)=9:=by
         unfold opE
         (repeat' split)<;>first|rfl| (exfalso;omega)| (exfalso;simp_all;done)| (exfalso;simp_all;omega)|grind
        exact .finE [.r []] [] (fun z0:Int=>(VI z0,[])) _ _ e13
       ·
        refine .bp [.r [(5,Xv 1 (o.kind==1) X0),(6,Xv 1 (o.kind==1) X0),(7,X (Xk (o.kind==1))),(10,Xv 1 ((o.kind==1)&& !(seq o.vl ({data:=#[]}))) X0),(11,Xv 1 ((o.kind==1)&& !(seq o.vl ({data:=#[]}))) (Xc0 (z3E o.vl) X0)),(12,Xv 1 ((o.kind==1)&& !(seq o.vl ({data:=#[]}))) X0),(13,X (Xk ((o.kind==1)&& !(seq o.vl ({data:=#[]})))))]] (((o.kind==1)&& !(seq o.vl ({data:=#[]})))&& !(valGo o.vl)) (fun h13=> ?_) (fun h13=> ?_)
        ·
         have e14:((opE o):Int)=23:=by
          unfold opE
          (repeat' split)<;>first|rfl| (exfalso;omega)| (exfalso;simp_all;done)| (exfalso;simp_all;omega)|grind
         exact .finE [.r []] [] (fun z0:Int=>(VI z0,[])) _ _ e14
        ·
         have e15:((opE o):Int)=0:=by
          unfold opE
          (repeat' split)<;>first|rfl| (exfalso;omega)| (exfalso;simp_all;done)| (exfalso;simp_all;omega)|grind
         exact .finE [.r []] [] (fun z0:Int=>(VI z0,[])) _ _ e15
      ·
       refine .bp [.r [(5,Xv 1 (o.kind==1) X0),(6,Xv 1 (o.kind==1) (Xc0 (y0m o.nm) X0)),(7,Xv 1 (o.kind==1) X0),(8,X (Xk (o.kind==1)))]] ((o.kind==1)&& !(z1k o.nm)) (fun h11=> ?_) (fun h11=> ?_)
       ·
        have e16:((opE o):Int)=9:=by
         unfold opE
         (repeat' split)<;>first|rfl| (exfalso;omega)| (exfalso;simp_all;done)| (exfalso;simp_all;omega)|grind
        exact .finE [.r []] [] (fun z0:Int=>(VI z0,[])) _ _ e16
       ·
        refine .bp [.r [(5,Xv 1 (o.kind==1) X0),(6,Xv 1 (o.kind==1) X0),(7,X (Xk (o.kind==1))),(10,Xv 1 ((o.kind==1)&& !(seq o.vl ({data:=#[]}))) X0),(11,Xv 1 ((o.kind==1)&& !(seq o.vl ({data:=#[]}))) (Xc0 (z3E o.vl) X0)),(12,Xv 1 ((o.kind==1)&& !(seq o.vl ({data:=#[]}))) X0),(13,X (Xk ((o.kind==1)&& !(seq o.vl ({data:=#[]})))))]] (((o.kind==1)&& !(seq o.vl ({data:=#[]})))&& !(valGo o.vl)) (fun h13=> ?_) (fun h13=> ?_)
        ·
         have e17:((opE o):Int)=23:=by
          unfold opE
          (repeat' split)<;>first|rfl| (exfalso;omega)| (exfalso;simp_all;done)| (exfalso;simp_all;omega)|grind
         exact .finE [.r []] [] (fun z0:Int=>(VI z0,[])) _ _ e17
        ·
         have e18:((opE o):Int)=0:=by
          unfold opE
          (repeat' split)<;>first|rfl| (exfalso;omega)| (exfalso;simp_all;done)| (exfalso;simp_all;omega)|grind
         exact .finE [.r []] [] (fun z0:Int=>(VI z0,[])) _ _ e18
theorem z9S(l:List DOp):FC Tryz.prog 128 [VL 8 dopT l] (app emp []) (VI (drawE l 0)) (app emp []):=by
 refine .go Tryz.f128 ?_
 refine .len 0 (fun hl0=> ?_)
 refine .loop (α:=Nat) [.r [],.r [(1,X (Xl dopT l))]] 32 (fun i=>([(0,VL 8 dopT l),(6,VL 8 dopT l),(7,VI (l.length:Int)),(8,VI (i:Int))],[])) (fun i=>i<=l.length/\drawE l 0=drawE l i) (fun i=>l.length-i) (0:Nat) ?_ ?_
 ·
  exact⟨by omega,rfl⟩
 rintro i I2 ih2
 try dsimp only at I2
 refine .bp [.r []] (decide ((i:Int)< (l.length:Int))) (fun h2=> ?_) (fun h2=> ?_)
 ·
  refine .bp [.r [(1,X (Xi dopT l (i:Int)))],.r [(1,X (Xc0 (fc_op ((l.getD i default))) X0))],.r []] ((opE ((l.getD i default))) !=0) (fun h5=> ?_) (fun h5=> ?_)
  ·
   have e1:((drawE l 0):Int)=(opE ((l.getD i default))):=by
    rw[I2.2,drawE,if_pos (by omega),if_pos h5]
   exact .finE [.r []] [] (fun z0:Int=>(VI z0,[])) _ _ e1
  ·
   refine .bp [.r [(5,Xv 1 (decide ((i:Int)> 0)) (Xn ((i:Int)- 1))),(6,Xv 2 (decide ((i:Int)> 0)) (Xi' dopT l ((i:Int)- 1) (i- 1))),(7,Xv 1 (decide ((i:Int)> 0)) X0),(9,Xv 2 (decide ((i:Int)> 0)) (Xc0 (z6E ((l.getD (i- 1) default)) ((l.getD i default))) X0)),(10,Xv 1 (decide ((i:Int)> 0)) X0),(11,X (Xk (decide ((i:Int)> 0))))]] (decide ((i:Int)> 0)&&decide ((z5k ((l.getD (i- 1) default)) ((l.getD i default)))>=0)) (fun h7=> ?_) (fun h7=> ?_)
   ·
    have e2:((drawE l 0):Int)=5:=by
     rw[I2.2,drawE,if_pos (by omega),if_neg (by rw[h5];decide),if_pos ⟨by omega,by rw[<-z9r];exact h7.2⟩]
    exact .finE [.r []] [] (fun z0:Int=>(VI z0,[])) _ _ e2
   ·
    refine .back [.r [(0,X (Xn ((i:Int)+1)))]] [] (ih2 ((i+1):Nat) ?_ ?_)
    ·
     refine⟨by omega,?_⟩;rw[I2.2,drawE,if_pos (by omega),if_neg (by rw[h5];decide),if_neg (by rw[<-z9r];clear ih2;rintro⟨a,b⟩;rcases h7 with h|h<;>omega)]
    ·
     ((try dsimp only);omega)
 ·
  have e3:((drawE l 0):Int)=0:=by
   rw[I2.2,drawE,if_neg (by omega)]
  exact .finE [.r []] [] (fun z0:Int=>(VI z0,[])) _ _ e3
theorem y2u(a b:List DOp)(hn:a.length+b.length<=1099511627776):FC Tryz.prog 73 [VL 8 dopT a,VL 8 dopT b] (app emp []) (.tup [VL 8 dopT ((z0B a b).getD []),VI (if(z0B a b).isSome then(0:Int) else 6)]) (app emp []):=by
 refine .go Tryz.f73 ?_
 refine .len 0 (fun hl0=> ?_)
 refine .len 1 (fun hl1=> ?_)
 refine .loop (α:=(List DOp)×(List DOp)×(List DOp)) [.r [],.r [],.le (.nR 6 8)] 25 (fun(x,y,o)=>([(0,VL 8 dopT x),(1,VL 8 dopT y),(6,.row 24 o.length)],[(24,OR 8 dopT o)])) (fun(x,y,o)=>o.length+x.length+y.length<=a.length+b.length/\z0B a b=(z0B x y).map (o++ ·)) (fun(x,y,o)=>x.length+y.length) (a,b,[]) ?_ ?_
 ·
  exact⟨by simp,by simp⟩
 rintro⟨x,y,o⟩ I2 ih2
 try dsimp only at I2
 refine .bp [.r [(1,X (Xl dopT x)),(5,Xv 1 (!(decide ((x.length:Int)> 0))) (Xl dopT y)),(6,Xv 1 (!(decide ((x.length:Int)> 0))) X0),(7,X (Xk' (decide ((x.length:Int)> 0))))]] (decide ((x.length:Int)> 0)||decide ((y.length:Int)> 0)) (fun h2=> ?_) (fun h2=> ?_)
 ·
  have hxy:=h2
  refine .bp [.r [(1,X (Xl dopT y)),(5,Xv 1 (!((y.length:Int)==0)) (Xl dopT x)),(6,Xv 1 (!((y.length:Int)==0)) X0),(7,Xv 1 (!((y.length:Int)==0)) X0),(9,Xv 1 ((!((y.length:Int)==0))&&(decide ((x.length:Int)> 0))) (Xi dopT x 0) (fun hg=>by(try simp only[decide_eq_true_eq,decide_eq_false_iff_not,zk,zl,gt_iff_lt,qv,qI,qd,qz,beq_iff_eq,beq_eq_false_iff_ne,ne_eq] at hg);exact⟨(by omega),(by omega)⟩)),(10,Xv 1 ((!((y.length:Int)==0))&&(decide ((x.length:Int)> 0))) X0),(12,Xv 1 ((!((y.length:Int)==0))&&(decide ((x.length:Int)> 0))) (Xi dopT y 0) (fun hg=>by(try simp only[decide_eq_true_eq,decide_eq_false_iff_not,zk,zl,gt_iff_lt,qv,qI,qd,qz,beq_iff_eq,beq_eq_false_iff_ne,ne_eq] at hg);exact⟨(by omega),(by omega)⟩)),(13,Xv 1 ((!((y.length:Int)==0))&&(decide ((x.length:Int)> 0))) X0),(14,Xv 2 ((!((y.length:Int)==0))&&(decide ((x.length:Int)> 0))) (Xc0 (z6E ((x.getD 0 default)) ((y.getD 0 default))) X0)),(15,Xv 1 ((!((y.length:Int)==0))&&(decide ((x.length:Int)> 0))) X0),(16,Xka (!((y.length:Int)==0)) (decide ((x.length:Int)> 0))),(17,X (Xk' ((y.length:Int)==0)))]] (((y.length:Int)==0)|| (decide ((x.length:Int)> 0)&&decide ((z5k ((x.getD 0 default)) ((y.getD 0 default)))< 0))) (fun h4=> ?_) (fun h4=> ?_)
  ·
   refine .back [.r [(2,X (Xi dopT x 0)),(5,X (rowC dopT [((x.getD 0 default))] (Xap 8 dopT 24 o [((x.getD 0 default))]))),(7,X (Xsd dopT 8 x 1))]] [(24,24)] (ih2 ((x.drop 1),y,(o++[((x.getD 0 default))])) ?_ ?_)
   ·
    have hl:y.length=0\/ltO (x.getD 0 default) (y.getD 0 default):=by(rw[<-z3w];omega)
    refine⟨by simp;omega,?_⟩
    rw[I2.2,y0C (by omega) hl,Option.map_map];congr 1;funext z;simp
   ·
    (try dsimp only);simp;omega
  ·
   refine .bp [.r [(1,X (Xl dopT x)),(5,Xv 1 (!((x.length:Int)==0)) (Xi dopT y 0) (fun hg=>by(try simp only[qv,qI,beq_iff_eq,beq_eq_false_iff_ne,ne_eq] at hg);exact⟨(by omega),(by omega)⟩)),(6,Xv 1 (!((x.length:Int)==0)) X0),(8,Xv 1 (!((x.length:Int)==0)) (Xi dopT x 0) (fun hg=>by(try simp only[qv,qI,beq_iff_eq,beq_eq_false_iff_ne,ne_eq] at hg);exact⟨(by omega),(by omega)⟩)),(9,Xv 1 (!((x.length:Int)==0)) X0),(10,Xv 2 (!((x.length:Int)==0)) (Xc0 (z6E ((y.getD 0 default)) ((x.getD 0 default))) X0)),(11,Xv 1 (!((x.length:Int)==0)) X0),(12,X (Xk' ((x.length:Int)==0)))]] (((x.length:Int)==0)||decide ((z5k ((y.getD 0 default)) ((x.getD 0 default)))< 0)) (fun h6=> ?_) (fun h6=> ?_)
   ·
    refine .back [.r [(2,X (Xi dopT y 0)),(5,X (rowC dopT [((y.getD 0 default))] (Xap 8 dopT 24 o [((y.getD 0 default))]))),(7,X (Xsd dopT 8 y 1))]] [(24,24)] (ih2 (x,(y.drop 1),(o++[((y.getD 0 default))])) ?_ ?_)
    ·
     have hl:x.length=0\/ltO (y.getD 0 default) (x.getD 0 default):=by(rw[<-z3w];omega)
     refine⟨by simp;omega,?_⟩
     rw[I2.2,z9s (by omega) hl,Option.map_map];congr 1;funext z;simp
    ·
     (try dsimp only);simp;omega
   ·
    have hx0:0<x.length:=by omega
    have hy0:0<y.length:=by omega
    have n1:¬ltO (x.getD 0 default) (y.getD 0 default):=by(rw[<-z3w];omega)
    have n2:¬ltO (y.getD 0 default) (x.getD 0 default):=by(rw[<-z3w];omega)
    have hu:=y0D hx0 hy0 n1 n2
    refine .bp [.r [(1,X (Xi dopT x 0)),(4,X (Xi dopT y 0))]] (!((((x.getD 0 default)).clock)==(((y.getD 0 default)).clock)&&((((x.getD 0 default)).site)==(((y.getD 0 default)).site)&&((((x.getD 0 default)).kind)==(((y.getD 0 default)).kind)&&((((x.getD 0 default)).itm)==(((y.getD 0 default)).itm)&&((((x.getD 0 default)).prt)==(((y.getD 0 default)).prt)&&(seq (((x.getD 0 default)).plc) (((y.getD 0 default)).plc)&&(seq (((x.getD 0 default)).nm) (((y.getD 0 default)).nm)&&(seq (((x.getD 0 default)).vl) (((y.getD 0 default)).vl)&&true))))))))) (fun h8=> ?_) (fun h8=> ?_)
    ·
     have e1:(((z0B a b).getD []):List DOp)=[]:=by
      have hne:¬x.getD 0 default=y.getD 0 default:=by
       intro e
       have s0:∀s,seq s s=true:=fun s=>z0q.2 rfl
       rw[e] at h8
       simp[s0] at h8
      rw[I2.2,hu,if_neg hne];rfl
     have e2:((if(z0B a b).isSome then(0:Int) else 6):Int)=6:=by
      have hne:¬x.getD 0 default=y.getD 0 default:=by
       intro e
       have s0:∀s,seq s s=true:=fun s=>z0q.2 rfl
       rw[e] at h8
       simp[s0] at h8
      rw[I2.2,hu,if_neg hne];rfl
     exact .finE [.r [],.le (.nL 4 8)] [] (fun((z0,z1):(List DOp)×Int)=>(.tup [VL 8 dopT z0,VI z1],[])) _ _ (pr e1 e2)
    ·
     refine .back [.r [(2,X (Xi dopT x 0)),(5,X (rowC dopT [((x.getD 0 default))] (Xap 8 dopT 24 o [((x.getD 0 default))]))),(7,X (Xsd dopT 8 x 1)),(9,X (Xsd dopT 8 y 1))]] [(24,24)] (ih2 ((x.drop 1),(y.drop 1),(o++[((x.getD 0 default))])) ?_ ?_)
     ·
      obtain⟨q1,q2,q3,q4,q5,q6,q7,q8,-⟩:=h8
      rw[z0q] at q6 q7 q8
      refine⟨by simp;omega,?_⟩
      rw[I2.2,hu,if_pos (y8L q1 q2 q3 q4 q5 q6 q7 q8),Option.map_map];congr 1;funext z;simp
     ·
      (try dsimp only);simp;omega
 ·
  have e3:(((z0B a b).getD []):List DOp)=o:=by
   have hx0:x=[]:=qN (by omega)
   have hy0:y=[]:=qN (by omega)
   rw[I2.2,hx0,hy0];simp[z0B]
  have e4:((if(z0B a b).isSome then(0:Int) else 6):Int)=0:=by
   have hx0:x=[]:=qN (by omega)
   have hy0:y=[]:=qN (by omega)
   rw[I2.2,hx0,hy0];simp[z0B]
  exact .finE [.r [],.le (.fr 4 [(o.length:Nat)=(List.map dopT o).length] ⟨lm,trivial⟩)] [] (fun((z0,z1):(List DOp)×Int)=>(.tup [VL 8 dopT z0,VI z1],[])) _ _ (pr e3 e4)
theorem y7f(l:List AxStep)(p:Int)(hv:Valid l)(hp:0<=p/\p<=2147483647):FC Tryz.prog 257 [VL 2 stepT l,VI p] (app emp []) (VI (z0A l p 0 0)) (app emp []):=by
 refine .go Tryz.f257 ?_
 refine .len 0 (fun hl0=> ?_)
 have ca:=z3s.2 hv
 have hv1:oldI l<=2147483647:=by have:=hv.2.1;unfold oldI;omega
 have hv2:newI l<=2147483647:=by have:=hv.2.2;unfold newI;omega
 have o0:0<=oldI l:=by unfold oldI;omega
 have o1:0<=newI l:=by unfold newI;omega
 refine .loop (α:=Int×Int×Nat) [.r [],.r [],.r [(1,X (Xl stepT l))]] 48 (fun(fr,tq,i)=>([(1,VI p),(5,VI fr),(6,VI tq),(9,VL 2 stepT l),(10,VI (l.length:Int)),(11,VI (i:Int))],[])) (fun(fr,tq,i)=>i<=l.length/\0<=fr/\0<=tq/\fr+oldU (ex (l.drop i))=oldI l/\tq+newU (ex (l.drop i))=newI l/\fr<=p/\z0A l p 0 0=z0A (l.drop i) p fr tq) (fun(fr,tq,i)=>l.length-i) (0,0,0) ?_ ?_
 ·
  exact⟨by omega,by decide,by decide,by simp[oldI],by simp[newI],by omega,rfl⟩
 rintro⟨fr,tq,i⟩ I3 ih3
 try dsimp only at I3
 refine .bp [.r []] (decide ((i:Int)< (l.length:Int))) (fun h3=> ?_) (fun h3=> ?_)
 ·
  have hst:=z9m (l:=l) (i:=i) (by omega) hv.1
  have hd:=z7V (l:=l) (i:=i) (by omega)
  refine .bp [.r [(0,X (Xi stepT l (i:Int)))],.r [],.r []] ((((l.getD i default)).kind)==1) (fun h8=> ?_) (fun h8=> ?_)
  ·
   refine .back [.r [(3,X (Xn (tq+(((l.getD i default)).n))))],.r [(0,X (Xn ((i:Int)+1)))]] [] (ih3 (fr,(tq+(((l.getD i default)).n)),(i+1)) ?_ ?_)
   ·
    obtain⟨s1,s2,s3,s4,s5⟩:=hst
    (first|rw[if_pos (by omega)] at s1|rw[if_neg (by omega)] at s1)
    (first|rw[if_pos (by omega)] at s2|rw[if_neg (by omega)] at s2)
    refine⟨by omega,by omega,by omega,by omega,by omega,by omega,?_⟩
    rw[I3.2.2.2.2.2.2,hd,z0A]
    ((repeat' split)<;>first|rfl|omega)
   ·
    ((try dsimp only);omega)
  ·
   refine .bp [.r []] ((((l.getD i default)).kind)==0) (fun h10=> ?_) (fun h10=> ?_)
   ·
    refine .bp [.r [(4,X (Xn (fr+(((l.getD i default)).n))))]] (decide (p< (fr+(((l.getD i default)).n)))) (fun h11=> ?_) (fun h11=> ?_)
    ·
     have e1:((z0A l p 0 0):Int)=((tq+p)- fr):=by
      first| (rw[I3.2.2.2.2.2.2,z4A (by omega)];rfl)| (rw[I3.2.2.2.2.2.2,hd,z0A];((repeat' split)<;>first|rfl|omega))
     exact .finE [.r [(2,X (Xn (tq+p))),(4,X (Xn ((tq+p)- fr)))]] [] (fun z0:Int=>(VI z0,[])) _ _ e1
    ·
     refine .back [.r [(3,X (Xn (tq+(((l.getD i default)).n))))],.r [(3,X (Xn (fr+(((l.getD i default)).n))))],.r [(0,X (Xn ((i:Int)+1)))]] [] (ih3 ((fr+(((l.getD i default)).n)),(tq+(((l.getD i default)).n)),(i+1)) ?_ ?_)
     ·
      obtain⟨s1,s2,s3,s4,s5⟩:=hst
      (first|rw[if_pos (by omega)] at s1|rw[if_neg (by omega)] at s1)
      (first|rw[if_pos (by omega)] at s2|rw[if_neg (by omega)] at s2)
      refine⟨by omega,by omega,by omega,by omega,by omega,by omega,?_⟩
      rw[I3.2.2.2.2.2.2,hd,z0A]
      ((repeat' split)<;>first|rfl|omega)
     ·
      ((try dsimp only);omega)
   ·
    refine .bp [.r [(4,X (Xn (fr+(((l.getD i default)).n))))]] (decide (p< (fr+(((l.getD i default)).n)))) (fun h6=> ?_) (fun h6=> ?_)
    ·
     have e2:((z0A l p 0 0):Int)= -1:=by
      first| (rw[I3.2.2.2.2.2.2,z4A (by omega)];rfl)| (rw[I3.2.2.2.2.2.2,hd,z0A];((repeat' split)<;>first|rfl|omega))
     exact .finE [.r []] [] (fun z0:Int=>(VI z0,[])) _ _ e2
    ·
     refine .back [.r [(3,X (Xn (fr+(((l.getD i default)).n))))],.r [(0,X (Xn ((i:Int)+1)))]] [] (ih3 ((fr+(((l.getD i default)).n)),tq,(i+1)) ?_ ?_)
     ·
      obtain⟨s1,s2,s3,s4,s5⟩:=hst
      (first|rw[if_pos (by omega)] at s1|rw[if_neg (by omega)] at s1)
      (first|rw[if_pos (by omega)] at s2|rw[if_neg (by omega)] at s2)
      refine⟨by omega,by omega,by omega,by omega,by omega,by omega,?_⟩
      rw[I3.2.2.2.2.2.2,hd,z0A]
      ((repeat' split)<;>first|rfl|omega)
     ·
      ((try dsimp only);omega)
 ·
  have e3:((z0A l p 0 0):Int)= -1:=by
   first| (rw[I3.2.2.2.2.2.2,z4A (by omega)];rfl)| (rw[I3.2.2.2.2.2.2,hd,z0A];((repeat' split)<;>first|rfl|omega))
  exact .finE [.r []] [] (fun z0:Int=>(VI z0,[])) _ _ e3
theorem z42(l:List AxStep)(pl:List Int)(hv:Valid l)(hp:∀x∈pl,0<=x/\x<oldI l)(hlen:pl.length<=1000000000):FC Tryz.prog 235 [VL 2 stepT l,VL 1 intT pl] (app emp []) (.tup [VL 1 intT (List.map (fun x=>z0A l x 0 0) pl),VI 0]) (app emp []):=by
 refine .go Tryz.f235 ?_
 refine .len 0 (fun hl0=> ?_)
 refine .len 1 (fun hl1=> ?_)
 have ca:=z3s.2 hv
 have hv1:oldI l<=2147483647:=by have:=hv.2.1;unfold oldI;omega
 have hv2:newI l<=2147483647:=by have:=hv.2.2;unfold newI;omega
 have o0:0<=oldI l:=by unfold oldI;omega
 have o1:0<=newI l:=by unfold newI;omega
 refine .bp [.r [],.r [(1,X (Xc0 (z3K l) X0))],.r []] ((z1D l) !=0) (fun h2=> ?_) (fun h2=> ?_)
 ·
  exfalso
  omega
 ·
  refine .loop (α:=Nat×(List Int)) [.r [(1,X (Xc0 (z9n l (by assumption)) X0))],.r [],.r [(1,X (Xl intT pl))],.le (.nR 9 1)] 145 (fun(i,out)=>([(0,VL 2 stepT l),(7,VI (oldI l)),(9,.row 144 out.length),(22,VL 1 intT pl),(23,VI (pl.length:Int)),(24,VI (i:Int))],[(144,OR 1 intT out)])) (fun(i,out)=>i<=pl.length/\out=(pl.take i).map (fun x=>z0A l x 0 0)) (fun(i,out)=>pl.length-i) (0,[]) ?_ ?_
  ·
   exact⟨by omega,rfl⟩
  rintro⟨i,out⟩ I7 ih7
  try dsimp only at I7
  have ol:out.length=i:=by rw[I7.2];simp;omega
  refine .bp [.r []] (decide ((i:Int)< (pl.length:Int))) (fun h7=> ?_) (fun h7=> ?_)
  ·
   have hx:=hp (pl.getD i default) (by rw[show pl.getD i default=pl[i] by simp[List.getD,qa (show i<pl.length by omega)]];exact zx _)
   refine .bp [.r [(0,X (Xi intT pl (i:Int)))],.r [(5,Xv 2 (!(decide ((pl.getD i default)< 0))) X0),(6,X (Xk' (decide ((pl.getD i default)< 0))))]] (decide ((pl.getD i default)< 0)||decide ((pl.getD i default)>=(oldI l))) (fun h9=> ?_) (fun h9=> ?_)
   ·
    exfalso
    omega
   ·
    refine .back [.r [(3,X (Xc0 (y7f l (pl.getD i default) (by assumption) (by omega)) X0)),(5,X (rowC intT [(z0A l (pl.getD i default) 0 0)] (Xap 1 intT 144 out [(z0A l (pl.getD i default) 0 0)])))],.r [(0,X (Xn ((i:Int)+1)))]] [(144,144)] (ih7 ((i+1),(out++[(z0A l (pl.getD i default) 0 0)])) ?_ ?_)
    ·
     refine⟨by omega,?_⟩
     rw[I7.2,qD (show i<pl.length by omega),zg]
     simp[List.getD,qa (show i<pl.length by omega)]
    ·
     ((try dsimp only);omega)
  ·
   have e1:((List.map (fun x=>z0A l x 0 0) pl):List Int)=out:=by
    rw[I7.2,qw (by omega)]
   exact .finE [.r [],.le (.fr 4 [(out.length:Nat)=(List.map intT out).length] ⟨lm,trivial⟩)] [] (fun z0:List Int=>(.tup [VL 1 intT z0,VI 0],[])) _ _ e1
theorem y7g(s:ByteArray)(hs:s.size=0):FC Tryz.prog 226 [VS s] (app emp []) (VB (textG s)) (app emp []):=by
 refine .go Tryz.f226 ?_
 refine .loop (α:=ByteArray) [.r []] 8 (fun u=>([(0,VS u)],[])) (fun u=>u=s) (fun u=>u.size) (s:ByteArray) ?_ ?_
 ·
  rfl
 rintro u I1 ih1
 replace I1:u=s:=I1
 refine .bp [.r []] (!(seq u ({data:=#[]}))) (fun h1=> ?_) (fun h1=> ?_)
 ·
  exfalso
  rw[z3T,decide_eq_false_iff_not] at h1
  rw[I1] at h1;omega
 ·
  have e1:((textG s):Bool)=true:=by
   rw[y4W (by omega)]
  exact .finE [.r []] [] (fun z0:Bool=>(VB z0,[])) _ _ e1
theorem y2v(l:List Cell)(m n:Int)(o:Bool)(hnt:NoTx l):FC Tryz.prog 184 [VL 5 cellT l,VI m,VI n,VB o] (app emp []) (VI (z0O l m n o 0)) (app emp []):=by
 refine .go Tryz.f184 ?_
 refine .len 0 (fun hl0=> ?_)
 refine .loop (α:=Nat) [.r [],.r [(1,X (Xl cellT l))]] 32 (fun i=>([(0,VL 5 cellT l),(1,VI m),(2,VI n),(3,VB o),(12,VL 5 cellT l),(13,VI (l.length:Int)),(14,VI (i:Int))],[])) (fun i=>i<=l.length/\z0O l m n o 0=z0O l m n o i) (fun i=>l.length-i) (0:Nat) ?_ ?_
 ·
  exact⟨by omega,rfl⟩
 rintro i I2 ih2
 try dsimp only at I2
 refine .bp [.r []] (decide ((i:Int)< (l.length:Int))) (fun h2=> ?_) (fun h2=> ?_)
 ·
  have hx:z0O l m n o i=_:=z0O.eq_1 l m n o i
  rw[if_pos (by omega)] at hx
  unfold cellE at hx
  have hxt:(l.getD i default).text.size=0:=hnt _ (z0n (by omega))
  refine .bp [.r [(1,X (Xi cellT l (i:Int)))],.r [(5,Xv 1 (!(decide ((((l.getD i default)).row)< 0))) X0),(7,Xv 2 (!(decide ((((l.getD i default)).row)< 0))) X0),(8,X (Xk' (decide ((((l.getD i default)).row)< 0)))),(11,Xv 1 (!(decide ((((l.getD i default)).row)< 0)||decide ((((l.getD i default)).row)>=m))) X0),(12,Xv 1 (!(decide ((((l.getD i default)).row)< 0)||decide ((((l.getD i default)).row)>=m))) X0),(13,X (Xk' (decide ((((l.getD i default)).row)< 0)||decide ((((l.getD i default)).row)>=m)))),(16,Xv 1 (!((decide ((((l.getD i default)).row)< 0)||decide ((((l.getD i default)).row)>=m))||decide ((((l.getD i default)).col)< 0))) X0),(18,Xv 2 (!((decide ((((l.getD i default)).row)< 0)||decide ((((l.getD i default)).row)>=m))||decide ((((l.getD i default)).col)< 0))) X0),(19,X (Xk' ((decide ((((l.getD i default)).row)< 0)||decide ((((l.getD i default)).row)>=m))||decide ((((l.getD i default)).col)< 0))))]] (((decide ((((l.getD i default)).row)< 0)||decide ((((l.getD i default)).row)>=m))||decide ((((l.getD i default)).col)< 0))||decide ((((l.getD i default)).col)>=n)) (fun h4=> ?_) (fun h4=> ?_)
  ·
   have e1:((z0O l m n o 0):Int)=2:=by
    first| (rw[I2.2,hx];((repeat' split)<;>first|rfl|omega| (simp_all;done)| (simp_all;omega)))| (rw[I2.2,z0O,if_neg (by omega)])
   exact .finE [.r []] [] (fun z0:Int=>(VI z0,[])) _ _ e1
  ·
   refine .bp [.r [(5,Xv 1 (!(decide ((((l.getD i default)).ref)< 0))) X0),(6,Xv 1 (!(decide ((((l.getD i default)).ref)< 0))) X0),(7,X (Xk' (decide ((((l.getD i default)).ref)< 0))))]] (decide ((((l.getD i default)).ref)< 0)||decide ((((l.getD i default)).ref)> 1073741824)) (fun h6=> ?_) (fun h6=> ?_)
   ·
    have e2:((z0O l m n o 0):Int)=2:=by
     first| (rw[I2.2,hx];((repeat' split)<;>first|rfl|omega| (simp_all;done)| (simp_all;omega)))| (rw[I2.2,z0O,if_neg (by omega)])
    exact .finE [.r []] [] (fun z0:Int=>(VI z0,[])) _ _ e2
   ·
    refine .bp [.r [(2,X (Xc0 (y7g (((l.getD i default)).text) (by assumption)) X0))]] (!(textG (((l.getD i default)).text))) (fun h8=> ?_) (fun h8=> ?_)
    ·
     have e3:((z0O l m n o 0):Int)=23:=by
      first| (rw[I2.2,hx];((repeat' split)<;>first|rfl|omega| (simp_all;done)| (simp_all;omega)))| (rw[I2.2,z0O,if_neg (by omega)])
     exact .finE [.r []] [] (fun z0:Int=>(VI z0,[])) _ _ e3
    ·
     refine .bp [.r [(2,X (Xc0 (z3p (((l.getD i default)).attrs)) X0))],.r []] ((chkA false (((l.getD i default)).attrs) 0) !=0) (fun h11=> ?_) (fun h11=> ?_)
     ·
      have e4:((z0O l m n o 0):Int)=(chkA false (((l.getD i default)).attrs) 0):=by
       first| (rw[I2.2,hx];((repeat' split)<;>first|rfl|omega| (simp_all;done)| (simp_all;omega)))| (rw[I2.2,z0O,if_neg (by omega)])
      exact .finE [.r []] [] (fun z0:Int=>(VI z0,[])) _ _ e4
     ·
      refine .bp [.r [(1,X (Xc0 (z8r ((l.getD i default))) X0)),(4,Xv 1 (z2R ((l.getD i default))) X0),(5,X (Xk (z2R ((l.getD i default)))))]] ((z2R ((l.getD i default)))&& !o) (fun h13=> ?_) (fun h13=> ?_)
      ·
       have e5:((z0O l m n o 0):Int)=4:=by
        first| (rw[I2.2,hx];((repeat' split)<;>first|rfl|omega| (simp_all;done)| (simp_all;omega)))| (rw[I2.2,z0O,if_neg (by omega)])
       exact .finE [.r []] [] (fun z0:Int=>(VI z0,[])) _ _ e5
      ·
       refine .bp [.r [(5,Xv 1 (decide ((i:Int)> 0)) (Xn ((i:Int)- 1))),(6,Xv 2 (decide ((i:Int)> 0)) (Xi' cellT l ((i:Int)- 1) (i- 1))),(7,Xv 1 (decide ((i:Int)> 0)) X0),(9,Xv 2 (decide ((i:Int)> 0)) (Xc0 (z8q ((l.getD (i- 1) default)) ((l.getD i default))) X0)),(10,Xv 1 (decide ((i:Int)> 0)) X0),(11,X (Xk (decide ((i:Int)> 0))))]] (decide ((i:Int)> 0)&&decide ((ordC ((l.getD (i- 1) default)) ((l.getD i default)))>=0)) (fun h15=> ?_) (fun h15=> ?_)
       ·
        have e6:((z0O l m n o 0):Int)=5:=by
         first| (rw[I2.2,hx];((repeat' split)<;>first|rfl|omega| (simp_all;done)| (simp_all;omega)))| (rw[I2.2,z0O,if_neg (by omega)])
        exact .finE [.r []] [] (fun z0:Int=>(VI z0,[])) _ _ e6
       ·
        refine .back [.r [(0,X (Xn ((i:Int)+1)))]] [] (ih2 ((i+1):Nat) ?_ ?_)
        ·
         refine⟨by omega,?_⟩
         rw[I2.2,hx]
         ((repeat' split)<;>first|rfl|omega| (simp_all;done)| (simp_all;omega))
        ·
         ((try dsimp only);omega)
 ·
  have e7:((z0O l m n o 0):Int)=0:=by
   first| (rw[I2.2,hx];((repeat' split)<;>first|rfl|omega| (simp_all;done)| (simp_all;omega)))| (rw[I2.2,z0O,if_neg (by omega)])
  exact .finE [.r []] [] (fun z0:Int=>(VI z0,[])) _ _ e7
theorem z8s(c:Cell)(h:c.attrs.length<=1000000000000):FC Tryz.prog 234 [.t (cellT c)] (app emp []) (.t (cellT c)) (app emp []):=by
 refine .go Tryz.f234 ?_
 exact .finV [.r [],.r [(2,X (Xan attrT 32 c.attrs))],.r []] [.fR 0 [(c.attrs.length:Nat)=(List.map attrT c.attrs).length] ⟨lm,trivial⟩] []
theorem z4K(n:Int)(a:List AxStep)(hv:0<a.length->Valid a):FC Tryz.prog 196 [VI n,VL 2 stepT a] (app emp []) (.tup [VI (if 0<a.length then newI a else n),VB (decide (0<a.length->oldI a=n))]) (app emp []):=by
 refine .go Tryz.f196 ?_
 refine .len 1 (fun hl1=> ?_)
 refine .bp [.r [],.r [(1,X (Xl stepT a))]] ((a.length:Int)==0) (fun h1=> ?_) (fun h1=> ?_)
 ·
  have e1:((if 0<a.length then newI a else n):Int)=n:=by
   first|rw[if_neg (by omega)]|exact decide_eq_true (fun h=>by omega)|exact(decide_eq_true (fun h=>by omega)).symm
  have e2:((decide (0<a.length->oldI a=n)):Bool)=true:=by
   first|rw[if_neg (by omega)]|exact decide_eq_true (fun h=>by omega)|exact(decide_eq_true (fun h=>by omega)).symm
  exact .finE [.r []] [] (fun((z0,z1):Int×Bool)=>(.tup [VI z0,VB z1],[])) _ _ (pr e1 e2)
 ·
  have ha:0<a.length:=by omega
  have hv2:=hv ha
  have e3:((if 0<a.length then newI a else n):Int)=(newI a):=by
   first|rw[if_pos (by omega)]| (rw[zj,decide_eq_true_eq,beq_iff_eq];exact⟨fun h=>h (by omega),fun h _=>h⟩)
  have e4:((decide (0<a.length->oldI a=n)):Bool)=((oldI a)==n):=by
   first|rw[if_pos (by omega)]| (rw[zj,decide_eq_true_eq,beq_iff_eq];exact⟨fun h=>h (by omega),fun h _=>h⟩)
  exact .finE [.r [(1,X (Xc0 (z9o a (by assumption)) X0))],.r []] [] (fun((z0,z1):Int×Bool)=>(.tup [VI z0,VB z1],[])) _ _ (pr e3 e4)
theorem y7h(l:List Cell)(rows cols:List AxStep)(hl:l.length<=100000000000)(ha:CAN 1000000000000 l)(hr:∀c∈l,PIn rows c.row)(hc:∀c∈l,PIn cols c.col):FC Tryz.prog 198 [VL 5 cellT l,VL 2 stepT rows,VL 2 stepT cols] (app emp []) (VL 5 cellT (movL l rows cols)) (app emp []):=by
 refine .go Tryz.f198 ?_
 refine .len 0 (fun hl0=> ?_)
 refine .len 1 (fun hl1=> ?_)
 refine .len 2 (fun hl2=> ?_)
 refine .loop (α:=Nat×(List Cell)) [.r [],.r [],.r [(1,X (Xl cellT l))],.le (.nR 7 5)] 41 (fun(i,o)=>([(1,VL 2 stepT rows),(2,VL 2 stepT cols),(7,.row 40 o.length),(14,VL 5 cellT l),(15,VI (l.length:Int)),(16,VI (i:Int))],[(40,OR 5 cellT o)])) (fun(i,o)=>i<=l.length/\o=movL (l.take i) rows cols) (fun(i,o)=>l.length-i) (0,[]) ?_ ?_
 ·
  exact⟨by omega,rfl⟩
 rintro⟨i,o⟩ I3 ih3
 try dsimp only at I3
 have ol:o.length<=i:=by rw[I3.2];have:=y15 (l.take i) rows cols;simp at this;omega
 refine .bp [.r []] (decide ((i:Int)< (l.length:Int))) (fun h3=> ?_) (fun h3=> ?_)
 ·
  have hm:=z9p (l:=l) (i:=i) (by omega)
  have ha1:=ha _ hm
  have hr1:=hr _ hm
  have hc1:=hc _ hm
  refine .bp [.r [(0,X (Xi cellT l (i:Int)))],.r [(1,X (Xc1 89 (z8s ((l.getD i default)) (by omega)) X0))],.r [(1,X (Xl stepT rows))]] (decide ((rows.length:Int)> 0)) (fun h6=> ?_) (fun h6=> ?_)
  ·
   obtain⟨hv1,hx1⟩:=hr1 (by omega)
   have hxx:∀x∈[(l.getD i default).row],0<=x/\x<oldI rows:=fun x hx=>by(have:=qK.1 hx;omega)
   refine .bp [.r [(4,X (Xc1 161 (z42 rows [(((l.getD i default))).row] (by assumption) (by assumption) (by simp)) (rowC intT [(((l.getD i default))).row] X0)))],.r [(4,Xv 1 (!false) (Xi intT (List.map (fun x=>z0A rows x 0 0) [(((l.getD i default))).row]) 0)),(5,Xv 1 (!false) X0),(6,Xv 1 (!false) X0),(7,X (Xk' false))]] (false||decide (((List.map (fun x=>z0A rows x 0 0) [(((l.getD i default))).row]).getD 0 default)< 0)) (fun h8=> ?_) (fun h8=> ?_)
   ·
    refine .back [.r [(0,X (Xn ((i:Int)+1)))]] [(40,40)] (ih3 ((i+1),o) ?_ ?_)
    ·
     refine⟨by omega,?_⟩
     rw[z2i (by omega),<-I3.2]
     unfold mvC mvR
     simp only[q9,zV,zH] at*
     (repeat' split)<;>first|rfl| (simp;done)| (exfalso;omega)| (exfalso;simp_all;done)| (exfalso;simp_all;omega)
    ·
     ((try dsimp only);omega)
   ·
    refine .bp [.r [(1,X (Xi intT (List.map (fun x=>z0A rows x 0 0) [(((l.getD i default))).row]) 0))],.r [(1,X (Xl stepT cols))]] (decide ((cols.length:Int)> 0)) (fun h10=> ?_) (fun h10=> ?_)
    ·
     obtain⟨hv2,hx2⟩:=hc1 (by omega)
     have hyy:∀x∈[(l.getD i default).col],0<=x/\x<oldI cols:=fun x hx=>by(have:=qK.1 hx;omega)
     refine .bp [.r [(4,X (Xc1 369 (z42 cols [(((l.getD i default))).col] (by assumption) (by assumption) (by simp)) (rowC intT [(((l.getD i default))).col] X0)))],.r [(4,Xv 1 (!false) (Xi intT (List.map (fun x=>z0A cols x 0 0) [(((l.getD i default))).col]) 0)),(5,Xv 1 (!false) X0),(6,Xv 1 (!false) X0),(7,X (Xk' false))]] (false||decide (((List.map (fun x=>z0A cols x 0 0) [(((l.getD i default))).col]).getD 0 default)< 0)) (fun h12=> ?_) (fun h12=> ?_)
     ·
      refine .back [.r [(0,X (Xn ((i:Int)+1)))]] [(40,40)] (ih3 ((i+1),o) ?_ ?_)
      ·
       refine⟨by omega,?_⟩
       rw[z2i (by omega),<-I3.2]
       unfold mvC mvR
       simp only[q9,zV,zH] at*
       (repeat' split)<;>first|rfl| (simp;done)| (exfalso;omega)| (exfalso;simp_all;done)| (exfalso;simp_all;omega)
      ·
       ((try dsimp only);omega)
     ·
      refine .back [.r [(1,X (Xi intT (List.map (fun x=>z0A cols x 0 0) [(((l.getD i default))).col]) 0))],.r [(3,X (rowC cellT [({row:=((List.map (fun x=>z0A rows x 0 0) [(((l.getD i default))).row]).getD 0 default),col:=((List.map (fun x=>z0A cols x 0 0) [(((l.getD i default))).col]).getD 0 default),text:=(((l.getD i default))).text,ref:=(((l.getD i default))).ref,attrs:=(((l.getD i default))).attrs}:Cell)] (Xap 5 cellT 40 o [({row:=((List.map (fun x=>z0A rows x 0 0) [(((l.getD i default))).row]).getD 0 default),col:=((List.map (fun x=>z0A cols x 0 0) [(((l.getD i default))).col]).getD 0 default),text:=(((l.getD i default))).text,ref:=(((l.getD i default))).ref,attrs:=(((l.getD i default))).attrs}:Cell)])))],.r [(0,X (Xn ((i:Int)+1)))]] [(40,40)] (ih3 ((i+1),(o++[({row:=((List.map (fun x=>z0A rows x 0 0) [(((l.getD i default))).row]).getD 0 default),col:=((List.map (fun x=>z0A cols x 0 0) [(((l.getD i default))).col]).getD 0 default),text:=(((l.getD i default))).text,ref:=(((l.getD i default))).ref,attrs:=(((l.getD i default))).attrs}:Cell)])) ?_ ?_)
      ·
       refine⟨by omega,?_⟩
       rw[z2i (by omega),<-I3.2]
       unfold mvC mvR
       simp only[q9,zV,zH] at*
       (repeat' split)<;>first|rfl| (simp;done)| (exfalso;omega)| (exfalso;simp_all;done)| (exfalso;simp_all;omega)
      ·
       ((try dsimp only);omega)
    ·
     refine .back [.r [(3,X (rowC cellT [({row:=((List.map (fun x=>z0A rows x 0 0) [(((l.getD i default))).row]).getD 0 default),col:=(((l.getD i default))).col,text:=(((l.getD i default))).text,ref:=(((l.getD i default))).ref,attrs:=(((l.getD i default))).attrs}:Cell)] (Xap 5 cellT 40 o [({row:=((List.map (fun x=>z0A rows x 0 0) [(((l.getD i default))).row]).getD 0 default),col:=(((l.getD i default))).col,text:=(((l.getD i default))).text,ref:=(((l.getD i default))).ref,attrs:=(((l.getD i default))).attrs}:Cell)])))],.r [(0,X (Xn ((i:Int)+1)))]] [(40,40)] (ih3 ((i+1),(o++[({row:=((List.map (fun x=>z0A rows x 0 0) [(((l.getD i default))).row]).getD 0 default),col:=(((l.getD i default))).col,text:=(((l.getD i default))).text,ref:=(((l.getD i default))).ref,attrs:=(((l.getD i default))).attrs}:Cell)])) ?_ ?_)
     ·
      refine⟨by omega,?_⟩
      rw[z2i (by omega),<-I3.2]
      unfold mvC mvR
      simp only[q9,zV,zH] at*
      (repeat' split)<;>first|rfl| (simp;done)| (exfalso;omega)| (exfalso;simp_all;done)| (exfalso;simp_all;omega)
     ·
      ((try dsimp only);omega)
  ·
   refine .bp [.r [(1,X (Xl stepT cols))]] (decide ((cols.length:Int)> 0)) (fun h10=> ?_) (fun h10=> ?_)
   ·
    obtain⟨hv2,hx2⟩:=hc1 (by omega)
    have hyy:∀x∈[(l.getD i default).col],0<=x/\x<oldI cols:=fun x hx=>by(have:=qK.1 hx;omega)
    refine .bp [.r [(4,X (Xc1 185 (z42 cols [(((l.getD i default))).col] (by assumption) (by assumption) (by simp)) (rowC intT [(((l.getD i default))).col] X0)))],.r [(4,Xv 1 (!false) (Xi intT (List.map (fun x=>z0A cols x 0 0) [(((l.getD i default))).col]) 0)),(5,Xv 1 (!false) X0),(6,Xv 1 (!false) X0),(7,X (Xk' false))]] (false||decide (((List.map (fun x=>z0A cols x 0 0) [(((l.getD i default))).col]).getD 0 default)< 0)) (fun h12=> ?_) (fun h12=> ?_)
    ·
     refine .back [.r [(0,X (Xn ((i:Int)+1)))]] [(40,40)] (ih3 ((i+1),o) ?_ ?_)
     ·
      refine⟨by omega,?_⟩
      rw[z2i (by omega),<-I3.2]
      unfold mvC mvR
      simp only[q9,zV,zH] at*
      (repeat' split)<;>first|rfl| (simp;done)| (exfalso;omega)| (exfalso;simp_all;done)| (exfalso;simp_all;omega)
     ·
      ((try dsimp only);omega)
    ·
     refine .back [.r [(1,X (Xi intT (List.map (fun x=>z0A cols x 0 0) [(((l.getD i default))).col]) 0))],.r [(3,X (rowC cellT [({row:=(((l.getD i default))).row,col:=((List.map (fun x=>z0A cols x 0 0) [(((l.getD i default))).col]).getD 0 default),text:=(((l.getD i default))).text,ref:=(((l.getD i default))).ref,attrs:=(((l.getD i default))).attrs}:Cell)] (Xap 5 cellT 40 o [({row:=(((l.getD i default))).row,col:=((List.map (fun x=>z0A cols x 0 0) [(((l.getD i default))).col]).getD 0 default),text:=(((l.getD i default))).text,ref:=(((l.getD i default))).ref,attrs:=(((l.getD i default))).attrs}:Cell)])))],.r [(0,X (Xn ((i:Int)+1)))]] [(40,40)] (ih3 ((i+1),(o++[({row:=(((l.getD i default))).row,col:=((List.map (fun x=>z0A cols x 0 0) [(((l.getD i default))).col]).getD 0 default),text:=(((l.getD i default))).text,ref:=(((l.getD i default))).ref,attrs:=(((l.getD i default))).attrs}:Cell)])) ?_ ?_)
     ·
      refine⟨by omega,?_⟩
      rw[z2i (by omega),<-I3.2]
      unfold mvC mvR
      simp only[q9,zV,zH] at*
      (repeat' split)<;>first|rfl| (simp;done)| (exfalso;omega)| (exfalso;simp_all;done)| (exfalso;simp_all;omega)
     ·
      ((try dsimp only);omega)
   ·
    refine .back [.r [(3,X (rowC cellT [(((l.getD i default)))] (Xap 5 cellT 40 o [(((l.getD i default)))])))],.r [(0,X (Xn ((i:Int)+1)))]] [(40,40)] (ih3 ((i+1),(o++[(((l.getD i default)))])) ?_ ?_)
    ·
     refine⟨by omega,?_⟩
     rw[z2i (by omega),<-I3.2]
     unfold mvC mvR
     simp only[q9,zV,zH] at*
     (repeat' split)<;>first|rfl| (simp;done)| (exfalso;omega)| (exfalso;simp_all;done)| (exfalso;simp_all;omega)
    ·
     ((try dsimp only);omega)
 ·
  have e1:((movL l rows cols):List Cell)=o:=by
   rw[I3.2,qw (by omega)]
  exact .finE [.r [],.le (.fr 6 [(o.length:Nat)=(List.map cellT o).length] ⟨lm,trivial⟩)] [] (fun z0:List Cell=>(VL 5 cellT z0,[])) _ _ e1
theorem y9n(l news:List Cell)(hl:l.length<=100000000000)(hn:news.length<=100000000000)(ha:CAN 1000000000000 news):FC Tryz.prog 197 [VL 5 cellT l,VL 5 cellT news] (app emp []) (VL 5 cellT (putL news l)) (app emp []):=by
 refine .go Tryz.f197 ?_
 refine .len 0 (fun hl0=> ?_)
 refine .len 1 (fun hl1=> ?_)
 refine .loop (α:=Nat×Nat×(List Cell)) [.r [],.r [],.r [],.r [(1,X (Xl cellT news))],.le (.nR 5 5)] 49 (fun(i,k,o)=>([(0,VL 5 cellT l),(5,.row 48 o.length),(6,VI (i:Int)),(9,VL 5 cellT news),(10,VI (news.length:Int)),(11,VI (k:Int))],[(48,OR 5 cellT o)])) (fun(i,k,o)=>k<=news.length/\i<=l.length/\o.length<=i+k/\putL news l=o++putL (news.drop k) (l.drop i)) (fun(i,k,o)=>news.length-k) (0,0,[]) ?_ ?_
 ·
  exact⟨by omega,by omega,by simp,rfl⟩
 rintro⟨i,k,o⟩ I4 ih4
 try dsimp only at I4
 refine .bp [.r []] (decide ((k:Int)< (news.length:Int))) (fun h4=> ?_) (fun h4=> ?_)
 ·
  have hm:=ha _ (z9p (l:=news) (i:=k) (by omega))
  refine .loop (α:=Nat×(List Cell)) [.r [(0,X (Xi cellT news (k:Int)))]] 89 (fun(j,p)=>([(0,VL 5 cellT l),(5,.row 48 p.length),(6,VI (j:Int)),(8,.ptr 73 0),(9,VL 5 cellT news),(10,VI (news.length:Int)),(11,VI (k:Int))],[(48,OR 5 cellT p),(73,.box [VI (((news.getD k default)).row),VI (((news.getD k default)).col),VS (((news.getD k default)).text),VI (((news.getD k default)).ref),VL 2 attrT (((news.getD k default)).attrs)])])) (fun(j,p)=>j<=l.length/\p.length<=j+k/\putL news l=p++putC (news.getD k default) (putL (news.drop (k+1))) (l.drop j)) (fun(j,p)=>l.length-j) (i,o) ?_ ?_
  ·
   exact⟨by omega,by omega,by rw[I4.2.2.2,dropC (l:=news) (by omega),putL]⟩
  rintro⟨j,p⟩ I6 ih6
  try dsimp only at I6
  skip
  refine .bp [.r [(2,X (Xl cellT l)),(7,Xv 2 (decide ((j:Int)< (l.length:Int))) (Xi cellT l (j:Int))),(8,Xv 1 (decide ((j:Int)< (l.length:Int))) X0),(10,Xv 2 (decide ((j:Int)< (l.length:Int))) (Xc0 (z8q ((l.getD j default)) ((news.getD k default))) X0)),(11,Xv 1 (decide ((j:Int)< (l.length:Int))) X0),(12,X (Xk (decide ((j:Int)< (l.length:Int)))))]] (decide ((j:Int)< (l.length:Int))&&decide ((ordC ((l.getD j default)) ((news.getD k default)))< 0)) (fun h6=> ?_) (fun h6=> ?_)
  ·
   refine .back [.r [(3,X (Xi cellT l (j:Int))),(6,X (rowC cellT [((l.getD j default))] (Xap 5 cellT 48 p [((l.getD j default))])))],.r [(1,X (Xn ((j:Int)+1)))]] [(48,48),(73,73)] (ih6 ((j+1),(p++[((l.getD j default))])) ?_ ?_)
   ·
    refine⟨by omega,by simp;omega,?_⟩
    rw[I6.2.2,y8J (by omega) (by omega),qE]
    rfl
   ·
    ((try dsimp only);omega)
  ·
   refine .bp [.r [(2,X (Xl cellT l)),(7,Xv 2 (decide ((j:Int)< (l.length:Int))) (Xi cellT l (j:Int))),(8,Xv 1 (decide ((j:Int)< (l.length:Int))) X0),(10,Xv 2 (decide ((j:Int)< (l.length:Int))) (Xc0 (z8q ((l.getD j default)) ((news.getD k default))) X0)),(11,Xv 1 (decide ((j:Int)< (l.length:Int))) X0),(12,X (Xk (decide ((j:Int)< (l.length:Int)))))]] (decide ((j:Int)< (l.length:Int))&&((ordC ((l.getD j default)) ((news.getD k default)))==0)) (fun h9=> ?_) (fun h9=> ?_)
   ·
    refine .bp [.r [(1,X (Xn ((j:Int)+1)))],.r [(1,X (Xc0 (z8r ((news.getD k default))) X0))]] (!(z2R ((news.getD k default)))) (fun h11=> ?_) (fun h11=> ?_)
    ·
     refine .back [.r [(2,X (Xc1 361 (z8s ((news.getD k default)) (by omega)) X0)),(4,X (rowC cellT [((news.getD k default))] (Xap 5 cellT 48 p [((news.getD k default))])))],.r [(0,X (Xn ((k:Int)+1)))]] [(48,48)] (ih4 ((j+1),(k+1),(p++[((news.getD k default))])) ?_ ?_)
     ·
      refine⟨by omega,by omega,by((try simp only[qc,qi,zh]);omega),?_⟩
      rw[I6.2.2]
      (first|rw[z8e (by omega) (by omega)]|rw[z8f (fun h=>by omega)])
      (first|rw[if_pos (by assumption)]|rw[if_neg (by simp_all)])
      simp
     ·
      ((try dsimp only);omega)
    ·
     refine .back [.r [(0,X (Xn ((k:Int)+1)))]] [(48,48)] (ih4 ((j+1),(k+1),p) ?_ ?_)
     ·
      refine⟨by omega,by omega,by((try simp only[qc,qi,zh]);omega),?_⟩
      rw[I6.2.2]
      (first|rw[z8e (by omega) (by omega)]|rw[z8f (fun h=>by omega)])
      (first|rw[if_pos (by assumption)]|rw[if_neg (by simp_all)])
      simp
     ·
      ((try dsimp only);omega)
   ·
    refine .bp [.r [(1,X (Xc0 (z8r ((news.getD k default))) X0))]] (!(z2R ((news.getD k default)))) (fun h11=> ?_) (fun h11=> ?_)
    ·
     refine .back [.r [(2,X (Xc1 337 (z8s ((news.getD k default)) (by omega)) X0)),(4,X (rowC cellT [((news.getD k default))] (Xap 5 cellT 48 p [((news.getD k default))])))],.r [(0,X (Xn ((k:Int)+1)))]] [(48,48)] (ih4 (j,(k+1),(p++[((news.getD k default))])) ?_ ?_)
     ·
      refine⟨by omega,by omega,by((try simp only[qc,qi,zh]);omega),?_⟩
      rw[I6.2.2]
      (first|rw[z8e (by omega) (by omega)]|rw[z8f (fun h=>by omega)])
      (first|rw[if_pos (by assumption)]|rw[if_neg (by simp_all)])
      simp
     ·
      ((try dsimp only);omega)
    ·
     refine .back [.r [(0,X (Xn ((k:Int)+1)))]] [(48,48)] (ih4 (j,(k+1),p) ?_ ?_)
     ·
      refine⟨by omega,by omega,by((try simp only[qc,qi,zh]);omega),?_⟩
      rw[I6.2.2]
      (first|rw[z8e (by omega) (by omega)]|rw[z8f (fun h=>by omega)])
      (first|rw[if_pos (by assumption)]|rw[if_neg (by simp_all)])
      simp
     ·
      ((try dsimp only);omega)
 ·
  have e1:((putL news l):List Cell)=(o++(l.drop i)):=by
   rw[I4.2.2.2,z9q (l:=news) (by omega),putL]
  exact .finE [.r [(3,X (Xsd cellT 5 l (i:Int))),(4,X (Xap 5 cellT 48 o (l.drop i)))],.le (.fr 4 [(((o++(l.drop i)).length):Nat)=(List.map cellT (o++(l.drop i))).length] ⟨lm,trivial⟩)] [] (fun z0:List Cell=>(VL 5 cellT z0,[])) _ _ e1
theorem z9T(x:Grid)(hm:x.merges=[])(hnt:NoTx x.cells):FC Tryz.prog 126 [.t (gridT x)] (app emp []) (VI (gridE x)) (app emp []):=by
 refine .go Tryz.f126 ?_
 have hl:x.merges.length=0:=by rw[hm];rfl
 refine .bp [.r [],.r [(5,Xv 1 (!(decide (x.rows<0))) X0),(6,Xv 1 (!(decide (x.rows<0))) X0),(7,X (Xk' (decide (x.rows<0)))),(10,Xv 1 (!(decide (x.rows<0)||decide (x.rows>2147483647))) X0),(11,Xv 1 (!(decide (x.rows<0)||decide (x.rows>2147483647))) X0),(12,X (Xk' (decide (x.rows<0)||decide (x.rows>2147483647)))),(15,Xv 1 (!((decide (x.rows<0)||decide (x.rows>2147483647))||decide (x.cols<0))) X0),(16,Xv 1 (!((decide (x.rows<0)||decide (x.rows>2147483647))||decide (x.cols<0))) X0),(17,X (Xk' ((decide (x.rows<0)||decide (x.rows>2147483647))||decide (x.cols<0))))]] (((decide (x.rows<0)||decide (x.rows>2147483647))||decide (x.cols<0))||decide (x.cols>2147483647)) (fun h1=> ?_) (fun h1=> ?_)
 ·
  have e1:((gridE x):Int)=2:=by
   unfold gridE;rw[if_pos (by omega)]
  exact .finE [.r []] [] (fun z0:Int=>(VI z0,[])) _ _ e1
 ·
  refine .bp [.r [(6,X (Xc0 (y2v x.cells x.rows x.cols false (by assumption)) X0))],.r []] ((z0O x.cells x.rows x.cols false 0) !=0) (fun h4=> ?_) (fun h4=> ?_)
  ·
   have e2:((gridE x):Int)=(z0O x.cells x.rows x.cols false 0):=by
    unfold gridE;rw[if_neg (by omega),if_pos (by omega)]
   exact .finE [.r []] [] (fun z0:Int=>(VI z0,[])) _ _ e2
  ·
   refine .loop (α:=Nat) [.r [(2,X (Xl rectT x.merges))]] 272 (fun i=>([(1,.ptr 0 0),(35,VL 4 rectT x.merges),(36,VI (x.merges.length:Int)),(37,VI (i:Int))],[(0,.box [VI x.rows,VI x.cols,VL 5 cellT x.cells,VL 4 rectT x.merges])])) (fun i=>i=0) (fun i=>0) (0:Nat) ?_ ?_
   ·
    rfl
   rintro i I7 ih7
   try dsimp only at I7
   refine .bp [.r []] (decide ((i:Int)< (x.merges.length:Int))) (fun h7=> ?_) (fun h7=> ?_)
   ·
    exfalso
    omega
   ·
    have e3:((gridE x):Int)=0:=by
     unfold gridE;rw[if_neg (by omega),if_neg (by omega),mergE,if_neg (by omega)]
    exact .finE [.r []] [] (fun z0:Int=>(VI z0,[])) _ _ e3
theorem z5o(e:GEd)(hl:LiteE e):FC Tryz.prog 133 [.t (gedT e)] (app emp []) (VI (edE e)) (app emp []):=by
 refine .go Tryz.f133 ?_
 have h1:=hl.sp
 have h2:=hl.me
 have hnt:=hl.tx
 have g1:insQE e.split 2147483647 2147483647 0=0:=by rw[insQE,if_neg (by omega)]
 have g2:mgE e.merge 2147483647 2147483647 0=0:=by rw[mgE,if_neg (by omega)]
 refine .bp [.r [],.r [],.u,.r [],.t,.r [(0,X (Xa (Xc ((0:Int)<=0)) (Xc ((0:Int)< ((2:Nat):Int)))) ⟨by decide,by decide⟩)],.r [(1,X (Xc0 (z3K e.rows) X0))],.r []] ((z1D e.rows) !=0) (fun h5=> ?_) (fun h5=> ?_)
 ·
  have e1:((edE e):Int)=(z1D e.rows):=by
   unfold edE;(repeat' split)<;>omega
  exact .finE [.r []] [] (fun z0:Int=>(VI z0,[])) _ _ e1
 ·
  refine .bp [.r [],.u,.r [],.t,.r [(0,X (Xa (Xc ((0:Int)<=1)) (Xc ((1:Int)< ((2:Nat):Int)))) ⟨by decide,by decide⟩)],.r [(1,X (Xc0 (z3K e.cols) X0))],.r []] ((z1D e.cols) !=0) (fun h5=> ?_) (fun h5=> ?_)
  ·
   have e2:((edE e):Int)=(z1D e.cols):=by
    unfold edE;(repeat' split)<;>omega
   exact .finE [.r []] [] (fun z0:Int=>(VI z0,[])) _ _ e2
  ·
   refine .bp [.r [],.u,.r [],.f,.r [(2,X (Xc0 (y2v e.cells 2147483647 2147483647 true (by assumption)) X0))],.r []] ((z0O e.cells 2147483647 2147483647 true 0) !=0) (fun h9=> ?_) (fun h9=> ?_)
   ·
    have e3:((edE e):Int)=(z0O e.cells 2147483647 2147483647 true 0):=by
     unfold edE;(repeat' split)<;>omega
    exact .finE [.r []] [] (fun z0:Int=>(VI z0,[])) _ _ e3
   ·
    refine .loop (α:=Nat) [.r [],.u,.r [],.t,.r [(1,X (Xa (Xc ((0:Int)<=0)) (Xc ((0:Int)< ((2:Nat):Int)))) ⟨by decide,by decide⟩)],.r [(1,X (Xl rectT e.split))]] 392 (fun j=>([(7,VI 0),(35,.t (.agg [TL 4 rectT e.split,TL 4 rectT e.merge])),(36,VI 0),(40,VL 4 rectT e.split),(41,VI (e.split.length:Int)),(42,VI (j:Int))],[])) (fun j=>j=0) (fun j=>0) (0:Nat) ?_ ?_
    ·
     rfl
    rintro j I15 ih15
    try dsimp only at I15
    refine .bp [.r []] (decide ((j:Int)< (e.split.length:Int))) (fun h15=> ?_) (fun h15=> ?_)
    ·
     exfalso
     omega
    ·
     refine .loop (α:=Nat) [.r [],.u,.r [],.t,.r [(1,X (Xa (Xc ((0:Int)<=1)) (Xc ((1:Int)< ((2:Nat):Int)))) ⟨by decide,by decide⟩)],.r [(1,X (Xl rectT e.merge))]] 480 (fun j=>([(7,VI 1),(35,.t (.agg [TL 4 rectT e.split,TL 4 rectT e.merge])),(36,VI 1),(40,VL 4 rectT e.merge),(41,VI (e.merge.length:Int)),(42,VI (j:Int))],[])) (fun j=>j=0) (fun j=>0) (0:Nat) ?_ ?_
     ·
      rfl
     rintro j I15 ih15
     try dsimp only at I15
     refine .bp [.r []] (decide ((j:Int)< (e.merge.length:Int))) (fun h15=> ?_) (fun h15=> ?_)
     ·
      exfalso
      omega
     ·
      have e4:((edE e):Int)=0:=by
       unfold edE;(repeat' split)<;>omega
      exact .finE [.r [],.u,.r [],.f,.r []] [] (fun z0:Int=>(VI z0,[])) _ _ e4
theorem y9o(x:Grid)(e:GEd)(hm:x.merges=[])(hnx:NoTx x.cells)(hl:LiteE e):FC Tryz.prog 195 [.t (gridT x),.t (gedT e)] (app emp []) (.tup [VI (fitM x e),VI (fitN x e),VI (fitsE x e)]) (app emp []):=by
 refine .go Tryz.f195 ?_
 have q1:=hl.sp
 have q2:=hl.me
 have q3:=hl.ln
 have hvr:0<e.rows.length->edE e=0->Valid e.rows:=fun _ h=>(y4Z h).okr
 have hvc:0<e.cols.length->edE e=0->Valid e.cols:=fun _ h=>(y4Z h).okc
 refine .bp [.r [],.r [(1,X (Xc0 (z9T x (by assumption) (by assumption)) X0))],.r []] ((gridE x) !=0) (fun h2=> ?_) (fun h2=> ?_)
 ·
  have T:=y9W (e:=e) h2
  have e1:((fitM x e):Int)=0:=by
   exact T.1
  have e2:((fitN x e):Int)=0:=by
   exact T.2.1
  have e3:((fitsE x e):Int)=(gridE x):=by
   exact T.2.2
  exact .finE [.r []] [] (fun((z0,z1,z2):Int×Int×Int)=>(.tup [VI z0,VI z1,VI z2],[])) _ _ (pr e1 (pr e2 e3))
 ·
  refine .bp [.r [(1,X (Xc0 (z5o e (by assumption)) X0))],.r []] ((edE e) !=0) (fun h5=> ?_) (fun h5=> ?_)
  ·
   have T:=y9X (by omega) h5
   have e4:((fitM x e):Int)=0:=by
    exact T.1
   have e5:((fitN x e):Int)=0:=by
    exact T.2.1
   have e6:((fitsE x e):Int)=(edE e):=by
    exact T.2.2
   exact .finE [.r []] [] (fun((z0,z1,z2):Int×Int×Int)=>(.tup [VI z0,VI z1,VI z2],[])) _ _ (pr e4 (pr e5 e6))
  ·
   have hv1:0<e.rows.length->Valid e.rows:=fun h=>hvr h (by omega)
   have hv2:0<e.cols.length->Valid e.cols:=fun h=>hvc h (by omega)
   refine .bp [.r [(4,X (Xc0 (z4K x.rows e.rows (by assumption)) X0))],.r [(4,X (Xc0 (z4K x.cols e.cols (by assumption)) X0))],.r [(4,Xv 1 (!(!(decide (0< (e.rows).length->oldI e.rows=x.rows)))) X0),(5,X (Xk' (!(decide (0< (e.rows).length->oldI e.rows=x.rows)))))]] (!(decide (0< (e.rows).length->oldI e.rows=x.rows))|| !(decide (0< (e.cols).length->oldI e.cols=x.cols))) (fun h9=> ?_) (fun h9=> ?_)
   ·
    have T:=y9Y (by omega) (by omega) h9
    have e7:((fitM x e):Int)=0:=by
     exact T.1
    have e8:((fitN x e):Int)=0:=by
     exact T.2.1
    have e9:((fitsE x e):Int)=14:=by
     exact T.2.2
    exact .finE [.r []] [] (fun((z0,z1,z2):Int×Int×Int)=>(.tup [VI z0,VI z1,VI z2],[])) _ _ (pr e7 (pr e8 e9))
   ·
    refine .loop (α:=Nat) [.r [(2,X (Xl cellT e.cells))]] 360 (fun i=>([(3,.ptr 8 0),(9,VI (if 0< (e.rows).length then newI e.rows else x.rows)),(11,VI (if 0< (e.cols).length then newI e.cols else x.cols)),(52,VL 5 cellT e.cells),(53,VI (e.cells.length:Int)),(54,VI (i:Int))],[(8,.box [VL 2 stepT e.rows,VL 2 stepT e.cols,VL 5 cellT e.cells,VL 4 rectT e.split,VL 4 rectT e.merge])])) (fun i=>i<=e.cells.length/\celF e.cells (if 0< (e.rows).length then newI e.rows else x.rows) (if 0< (e.cols).length then newI e.cols else x.cols) 0=celF e.cells (if 0< (e.rows).length then newI e.rows else x.rows) (if 0< (e.cols).length then newI e.cols else x.cols) i) (fun i=>e.cells.length-i) (0:Nat) ?_ ?_
    ·
     exact⟨by omega,rfl⟩
    rintro i I12 ih12
    try dsimp only at I12
    refine .bp [.r []] (decide ((i:Int)< (e.cells.length:Int))) (fun h12=> ?_) (fun h12=> ?_)
    ·
     refine .bp [.r [(0,X (Xi cellT e.cells (i:Int)))],.r [(6,Xv 1 (!(decide ((((e.cells.getD i default)).row)>=(if 0< (e.rows).length then newI e.rows else x.rows)))) X0),(8,Xv 2 (!(decide ((((e.cells.getD i default)).row)>=(if 0< (e.rows).length then newI e.rows else x.rows)))) X0),(9,X (Xk' (decide ((((e.cells.getD i default)).row)>=(if 0< (e.rows).length then newI e.rows else x.rows)))))]] (decide ((((e.cells.getD i default)).row)>=(if 0< (e.rows).length then newI e.rows else x.rows))||decide ((((e.cells.getD i default)).col)>=(if 0< (e.cols).length then newI e.cols else x.cols))) (fun h14=> ?_) (fun h14=> ?_)
     ·
      have hcl:celF e.cells (if 0< (e.rows).length then newI e.rows else x.rows) (if 0< (e.cols).length then newI e.cols else x.cols) 0=2:=by rw[I12.2,celF,if_pos (by omega),if_pos (by omega)]
      have T:=y9Z (by omega) (by omega) h9 q1 q2 hcl
      have e10:((fitM x e):Int)=0:=by
       exact T.1
      have e11:((fitN x e):Int)=0:=by
       exact T.2.1
      have e12:((fitsE x e):Int)=2:=by
       exact T.2.2
      exact .finE [.r []] [] (fun((z0,z1,z2):Int×Int×Int)=>(.tup [VI z0,VI z1,VI z2],[])) _ _ (pr e10 (pr e11 e12))
     ·
      refine .back [.r [(0,X (Xn ((i:Int)+1)))]] [(8,8)] (ih12 ((i+1):Nat) ?_ ?_)
      ·
       refine⟨by omega,?_⟩
       rw[I12.2,celF,if_pos (by omega),if_neg (by omega)]
      ·
       ((try dsimp only);omega)
    ·
     refine .loop (α:=Nat) [.r [],.u,.r [],.t,.r [(0,X (Xa (Xc ((0:Int)<=0)) (Xc ((0:Int)< ((2:Nat):Int)))) ⟨by decide,by decide⟩)],.r [(1,X (Xl rectT e.split))]] 464 (fun j=>([(9,VI (if 0< (e.rows).length then newI e.rows else x.rows)),(11,VI (if 0< (e.cols).length then newI e.cols else x.cols)),(73,.t (.agg [TL 4 rectT e.split,TL 4 rectT e.merge])),(74,VI 0),(77,VL 4 rectT e.split),(78,VI (e.split.length:Int)),(79,VI (j:Int))],[])) (fun j=>j=0) (fun j=>0) (0:Nat) ?_ ?_
     ·
      rfl
     rintro j I21 ih21
     try dsimp only at I21
     refine .bp [.r []] (decide ((j:Int)< (e.split.length:Int))) (fun h21=> ?_) (fun h21=> ?_)
     ·
      exfalso
      omega
     ·
      refine .loop (α:=Nat) [.r [],.u,.r [],.t,.r [(0,X (Xa (Xc ((0:Int)<=1)) (Xc ((1:Int)< ((2:Nat):Int)))) ⟨by decide,by decide⟩)],.r [(1,X (Xl rectT e.merge))]] 536 (fun j=>([(9,VI (if 0< (e.rows).length then newI e.rows else x.rows)),(11,VI (if 0< (e.cols).length then newI e.cols else x.cols)),(73,.t (.agg [TL 4 rectT e.split,TL 4 rectT e.merge])),(74,VI 1),(77,VL 4 rectT e.merge),(78,VI (e.merge.length:Int)),(79,VI (j:Int))],[])) (fun j=>j=0) (fun j=>0) (0:Nat) ?_ ?_
      ·
       rfl
      rintro j I21 ih21
      try dsimp only at I21
      refine .bp [.r []] (decide ((j:Int)< (e.merge.length:Int))) (fun h21=> ?_) (fun h21=> ?_)
      ·
       exfalso
       omega
      ·
       have hcl:celF e.cells (if 0< (e.rows).length then newI e.rows else x.rows) (if 0< (e.cols).length then newI e.cols else x.cols) 0=0:=by rw[I12.2,celF,if_neg (by omega)]
       have T:=y90 (by omega) (by omega) h9 q1 q2 hcl
       have e13:((fitM x e):Int)=(if 0< (e.rows).length then newI e.rows else x.rows):=by
        exact T.1
       have e14:((fitN x e):Int)=(if 0< (e.cols).length then newI e.cols else x.cols):=by
        exact T.2.1
       have e15:((fitsE x e):Int)=0:=by
        exact T.2.2
       exact .finE [.r [],.u,.r [],.f,.r []] [] (fun((z0,z1,z2):Int×Int×Int)=>(.tup [VI z0,VI z1,VI z2],[])) _ _ (pr e13 (pr e14 e15))
theorem x0j(x:Grid)(e:GEd)(hm:x.merges=[])(hnx:NoTx x.cells)(hl:LiteE e):FC Tryz.prog 138 [.t (gridT x),.t (gedT e)] (app emp []) (VI (fitsE x e)) (app emp []):=by
 refine .go Tryz.f138 ?_
 exact .fin [.r [],.r [(2,X (Xc0 (y9o x e (by assumption) (by assumption) (by assumption)) X0))],.r []] []
theorem y9p:FC Tryz.prog 154 [.t (.sc (.int .u64 0))] (app emp []) (VI 0) (app emp []):=by
 refine .go Tryz.f154 ?_
 have e1:((0+(((((({data:=#[0,1,2,2,3,3,3,3,4,4,4,4,4,4,4,4,5,5,5,5,5,5,5,5,5,5,5,5,5,5,5,5,6,6,6,6,6,6,6,6,6,6,6,6,6,6,6,6,6,6,6,6,6,6,6,6,6,6,6,6,6,6,6,6,7,7,7,7,7,7,7,7,7,7,7,7,7,7,7,7,7,7,7,7,7,7,7,7,7,7,7,7,7,7,7,7,7,7,7,7,7,7,7,7,7,7,7,7,7,7,7,7,7,7,7,7,7,7,7,7,7,7,7,7,7,7,7,7,8,8,8,8,8,8,8,8,8,8,8,8,8,8,8,8,8,8,8,8,8,8,8,8,8,8,8,8,8,8,8,8,8,8,8,8,8,8,8,8,8,8,8,8,8,8,8,8,8,8,8,8,8,8,8,8,8,8,8,8,8,8,8,8,8,8,8,8,8,8,8,8,8,8,8,8,8,8,8,8,8,8,8,8,8,8,8,8,8,8,8,8,8,8,8,8,8,8,8,8,8,8,8,8,8,8,8,8,8,8,8,8,8,8,8,8,8,8,8,8,8,8,8,8,8,8,8,8]}):ByteArray)[(Int.toNat (IntKind.u8.wrap 0))]?).getD 0).toNat:Nat):Int)):Int)=0:=by
  decide+kernel
 exact .finE [.r [],.r [],.f,.r [],.f,.r [],.f,.r [(3,X (Xb (({data:=#[0,1,2,2,3,3,3,3,4,4,4,4,4,4,4,4,5,5,5,5,5,5,5,5,5,5,5,5,5,5,5,5,6,6,6,6,6,6,6,6,6,6,6,6,6,6,6,6,6,6,6,6,6,6,6,6,6,6,6,6,6,6,6,6,7,7,7,7,7,7,7,7,7,7,7,7,7,7,7,7,7,7,7,7,7,7,7,7,7,7,7,7,7,7,7,7,7,7,7,7,7,7,7,7,7,7,7,7,7,7,7,7,7,7,7,7,7,7,7,7,7,7,7,7,7,7,7,7,8,8,8,8,8,8,8,8,8,8,8,8,8,8,8,8,8,8,8,8,8,8,8,8,8,8,8,8,8,8,8,8,8,8,8,8,8,8,8,8,8,8,8,8,8,8,8,8,8,8,8,8,8,8,8,8,8,8,8,8,8,8,8,8,8,8,8,8,8,8,8,8,8,8,8,8,8,8,8,8,8,8,8,8,8,8,8,8,8,8,8,8,8,8,8,8,8,8,8,8,8,8,8,8,8,8,8,8,8,8,8,8,8,8,8,8,8,8,8,8,8,8,8,8,8,8,8,8]}):ByteArray) (IntKind.u8.wrap 0)) ⟨(by decide),(by decide+kernel)⟩),(4,X (Xn (((((({data:=#[0,1,2,2,3,3,3,3,4,4,4,4,4,4,4,4,5,5,5,5,5,5,5,5,5,5,5,5,5,5,5,5,6,6,6,6,6,6,6,6,6,6,6,6,6,6,6,6,6,6,6,6,6,6,6,6,6,6,6,6,6,6,6,6,7,7,7,7,7,7,7,7,7,7,7,7,7,7,7,7,7,7,7,7,7,7,7,7,7,7,7,7,7,7,7,7,7,7,7,7,7,7,7,7,7,7,7,7,7,7,7,7,7,7,7,7,7,7,7,7,7,7,7,7,7,7,7,7,8,8,8,8,8,8,8,8,8,8,8,8,8,8,8,8,8,8,8,8,8,8,8,8,8,8,8,8,8,8,8,8,8,8,8,8,8,8,8,8,8,8,8,8,8,8,8,8,8,8,8,8,8,8,8,8,8,8,8,8,8,8,8,8,8,8,8,8,8,8,8,8,8,8,8,8,8,8,8,8,8,8,8,8,8,8,8,8,8,8,8,8,8,8,8,8,8,8,8,8,8,8,8,8,8,8,8,8,8,8,8,8,8,8,8,8,8,8,8,8,8,8,8,8,8,8,8,8]}):ByteArray)[(Int.toNat (IntKind.u8.wrap 0))]?).getD 0).toNat:Nat):Int)) (by decide+kernel)),(5,X (Xn (0+(((((({data:=#[0,1,2,2,3,3,3,3,4,4,4,4,4,4,4,4,5,5,5,5,5,5,5,5,5,5,5,5,5,5,5,5,6,6,6,6,6,6,6,6,6,6,6,6,6,6,6,6,6,6,6,6,6,6,6,6,6,6,6,6,6,6,6,6,7,7,7,7,7,7,7,7,7,7,7,7,7,7,7,7,7,7,7,7,7,7,7,7,7,7,7,7,7,7,7,7,7,7,7,7,7,7,7,7,7,7,7,7,7,7,7,7,7,7,7,7,7,7,7,7,7,7,7,7,7,7,7,7,8,8,8,8,8,8,8,8,8,8,8,8,8,8,8,8,8,8,8,8,8,8,8,8,8,8,8,8,8,8,8,8,8,8,8,8,8,8,8,8,8,8,8,8,8,8,8,8,8,8,8,8,8,8,8,8,8,8,8,8,8,8,8,8,8,8,8,8,8,8,8,8,8,8,8,8,8,8,8,8,8,8,8,8,8,8,8,8,8,8,8,8,8,8,8,8,8,8,8,8,8,8,8,8,8,8,8,8,8,8,8,8,8,8,8,8,8,8,8,8,8,8,8,8,8,8,8,8]}):ByteArray)[(Int.toNat (IntKind.u8.wrap 0))]?).getD 0).toNat:Nat):Int))) (by decide+kernel))]] [] (fun z0:Int=>(VI z0,[])) _ _ e1.symm
theorem fc_bl:FC Tryz.prog 75 [.t (.sc (.int .u64 0))] (app emp []) (VI 0) (app emp []):=by
 refine .go Tryz.f75 ?_
 exact .fin [.r [],.f,.r [(1,X (Xc0 y9p X0))]] []
theorem y7i:FC Tryz.prog 258 [VL 4 rectT ([]:List Rect),VI 0,VI 0,.fn 204 []] (app emp []) (.tup []) (app emp []):=by
 refine .go Tryz.f258 ?_
 refine .len 0 (fun hl0=> ?_)
 refine .loop (α:=Int) [.r []] 24 (fun v8=>([(0,VL 4 rectT ([]:List Rect)),(1,VI 0),(2,VI 0),(3,.fn 204 []),(8,VI v8)],[])) (fun v8=>0<=v8) (fun v8=>0) (1:Int) ?_ ?_
 ·
  decide
 rintro v8 I1 ih1
 try dsimp only at I1
 refine .bp [.r []] (decide (v8<0)) (fun h1=> ?_) (fun h1=> ?_)
 ·
  exfalso
  omega
 ·
  exact .fin [] []
theorem y7j:FC Tryz.prog 238 [VL 4 rectT ([]:List Rect),VI 0,VI 0,VI 0,.fn 204 []] (app emp []) (.tup []) (app emp []):=by
 refine .go Tryz.f238 ?_
 refine .len 0 (fun hl0=> ?_)
 exact .fin [.r [],.r [],.u,.r [],.r [],.t,.r [(4,X (Xc0 y7i X0))]] []
theorem y5J:FC Tryz.prog 203 [VL 4 rectT ([]:List Rect),.fn 204 []] (app emp []) (.tup []) (app emp []):=by
 refine .go Tryz.f203 ?_
 refine .len 0 (fun hl0=> ?_)
 exact .fin [.r [(1,X (Xl rectT ([]:List Rect)))],.le (.eq 4 (VI (([]:List Rect).length:Int)) (VI 0) (.of_eq rfl)),.r [(3,X (Xcv IntKind.u64 0) (by decide)),(4,X (Xc0 fc_bl X0)),(6,X (Xc0 y7j X0))]] []
theorem y9q(x:Grid)(e:GEd)(hi:RawT x e):FC Tryz.prog 139 [.t (gridT x),.t (gedT e)] (app emp []) (.t (gridT (rawT x e))) (app emp []):=by
 refine .go Tryz.f139 ?_
 obtain⟨vr,vk,l1,l2,a1,a2,p1,p2,hq,hm⟩:=hi
 have hml:=y15 x.cells e.rows e.cols
 refine .loop (α:=Nat) [.r [],.r [(4,X (Xc0 (z4K x.rows e.rows (by assumption)) X0))],.r [(4,X (Xc0 (z4K x.cols e.cols (by assumption)) X0))],.r [(8,X (Xc1 248 (y7h x.cells e.rows e.cols (by omega) (by assumption) (by assumption) (by assumption)) X0)),(11,X (Xc1 272 (y9n (movL x.cells e.rows e.cols) e.cells (by omega) (by omega) (by assumption)) X0)),(12,X (Xf [(3,4)]))],.r [(2,X (Xl rectT x.merges))]] 336 (fun i=>([(3,.ptr 8 0),(4,.ptr 16 0),(9,.ptr 288 0),(46,VL 4 rectT x.merges),(47,VI (x.merges.length:Int)),(48,VI (i:Int))],[(8,.box [VL 2 stepT e.rows,VL 2 stepT e.cols,VL 5 cellT e.cells,VL 4 rectT e.split,VL 4 rectT e.merge]),(16,.box [VI 0,VI 0,VN,VN]),(288,.box [VI (if 0< (e.rows).length then newI e.rows else x.rows),VI (if 0< (e.cols).length then newI e.cols else x.cols),VL 5 cellT (putL e.cells (movL x.cells e.rows e.cols)),VL 4 rectT []])])) (fun i=>i=0) (fun i=>0) (0:Nat) ?_ ?_
 ·
  rfl
 rintro i I5 ih5
 try dsimp only at I5
 refine .bp [.r []] (decide ((i:Int)< (x.merges.length:Int))) (fun h5=> ?_) (fun h5=> ?_)
 ·
  exfalso
  omega
 ·
  refine .loop (α:=Nat) [.r [(2,X (Xl rectT e.merge))]] 376 (fun j=>([(4,.ptr 16 0),(9,.ptr 288 0),(77,VL 4 rectT e.merge),(78,VI (e.merge.length:Int)),(79,VI (j:Int))],[(16,.box [VI 0,VI 0,VN,VN]),(288,.box [VI (if 0< (e.rows).length then newI e.rows else x.rows),VI (if 0< (e.cols).length then newI e.cols else x.cols),VL 5 cellT (putL e.cells (movL x.cells e.rows e.cols)),VL 4 rectT []])])) (fun j=>j=0) (fun j=>0) (0:Nat) ?_ ?_
  ·
   rfl
  rintro j I12 ih12
  try dsimp only at I12
  refine .bp [.r []] (decide ((j:Int)< (e.merge.length:Int))) (fun h12=> ?_) (fun h12=> ?_)
  ·
   exfalso
   omega
  ·
   have e1:((rawT x e):Grid)=({rows:=(if 0< (e.rows).length then newI e.rows else x.rows),cols:=(if 0< (e.cols).length then newI e.cols else x.cols),cells:=(putL e.cells (movL x.cells e.rows e.cols)),merges:=[]}:Grid):=by
    rfl
   exact .finVE [.r [(2,X (Xc0 y5J X0))],.r []] [] [] (fun z0:Grid=>(.t (gridT z0),[])) _ _ e1
theorem z5M(k:Int):FC Tryz.prog 49 [VI k] (app emp []) (VB (hasT k)) (app emp []):=by
 refine .go Tryz.f49 ?_
 have e1:((hasT k):Bool)=((((k==1)|| (k==3))|| (k==4))|| (k==12)):=by
  rfl
 exact .finE [.r [],.r [(4,Xv 1 (!(k==1)) X0),(5,X (Xk' (k==1))),(8,Xv 1 (!((k==1)|| (k==3))) X0),(9,X (Xk' ((k==1)|| (k==3)))),(12,Xv 1 (!(((k==1)|| (k==3))|| (k==4))) X0),(13,X (Xk' (((k==1)|| (k==3))|| (k==4))))]] [] (fun z0:Bool=>(VB z0,[])) _ _ e1
theorem y2w(k:Int):FC Tryz.prog 123 [VI k] (app emp []) (VB (hasL k)) (app emp []):=by
 refine .go Tryz.f123 ?_
 have e1:((hasL k):Bool)=((k==0)|| (k==7)):=by
  rfl
 exact .finE [.r [],.r [(4,Xv 1 (!(k==0)) X0),(5,X (Xk' (k==0)))]] [] (fun z0:Bool=>(VB z0,[])) _ _ e1
theorem y2x(k:Int):FC Tryz.prog 124 [VI k] (app emp []) (VB (hasG k)) (app emp []):=by
 refine .go Tryz.f124 ?_
 have e1:((hasG k):Bool)=((k==2)|| (k==6)):=by
  rfl
 exact .finE [.r [],.r [(4,Xv 1 (!(k==2)) X0),(5,X (Xk' (k==2)))]] [] (fun z0:Bool=>(VB z0,[])) _ _ e1
theorem y2y(k:Int):FC Tryz.prog 72 [VI k] (app emp []) (VB (hasD k)) (app emp []):=by
 refine .go Tryz.f72 ?_
 have e1:((hasD k):Bool)=(((k==8)|| (k==9))|| (k==10)):=by
  rfl
 exact .finE [.r [],.r [(4,Xv 1 (!(k==8)) X0),(5,X (Xk' (k==8))),(8,Xv 1 (!((k==8)|| (k==9))) X0),(9,X (Xk' ((k==8)|| (k==9))))]] [] (fun z0:Bool=>(VB z0,[])) _ _ e1
theorem z8t(f:List Elem)(t:Bool):FC Tryz.prog 125 [VL 3 elemT f,VB t] (app emp []) (VI (flowZ t f)) (app emp []):=by
 refine .go Tryz.f125 ?_
 refine .len 0 (fun hl0=> ?_)
 refine .loop (α:=Nat) [.r [],.r [(1,X (Xl elemT f))]] 32 (fun i=>([(0,VL 3 elemT f),(1,VB t),(8,VL 3 elemT f),(9,VI (f.length:Int)),(10,VI (i:Int))],[])) (fun i=>i<=f.length/\flowX t f 0=flowX t f i) (fun i=>f.length-i) (0:Nat) ?_ ?_
 ·
  exact⟨by omega,rfl⟩
 rintro i I2 ih2
 try dsimp only at I2
 refine .bp [.r []] (decide ((i:Int)< (f.length:Int))) (fun h2=> ?_) (fun h2=> ?_)
 ·
  refine .bp [.r [(0,X (Xi elemT f (i:Int)))],.r [(1,X (Xc0 (y4c ((f.getD i default))) X0))],.r []] ((elemE ((f.getD i default))) !=0) (fun h5=> ?_) (fun h5=> ?_)
  ·
   have e1:((flowZ t f):Int)=(elemE ((f.getD i default))):=by
    exact z6v (I2.2.trans (z9t (by omega) (by omega))) (by omega)
   exact .finE [.r []] [] (fun z0:Int=>(VI z0,[])) _ _ e1
  ·
   refine .bp [.r [(4,Xv 1 (!t) X0),(5,Xv 1 (!t) X0),(6,X (Xk (!t)))]] (!t&&((((f.getD i default)).ref)==0)) (fun h7=> ?_) (fun h7=> ?_)
   ·
    have e2:((flowZ t f):Int)=8:=by
     exact z6v (I2.2.trans (z7b (by omega) (by omega) h7)) (by decide)
    exact .finE [.r []] [] (fun z0:Int=>(VI z0,[])) _ _ e2
   ·
    refine .back [.r [(0,X (Xn ((i:Int)+1)))]] [] (ih2 ((i+1):Nat) ?_ ?_)
    ·
     exact⟨by omega,I2.2.trans (z7c (by omega) (by omega) h7)⟩
    ·
     ((try dsimp only);omega)
 ·
  refine .bp [.r [(3,Xv 1 t (Xl elemT f)),(4,Xv 1 t X0),(5,Xv 1 t X0),(8,Xv 1 (t&& !((f.length:Int)==0)) (Xl elemT f)),(9,Xv 1 (t&& !((f.length:Int)==0)) (Xn ((f.length:Int)- 1))),(10,Xv 2 (t&& !((f.length:Int)==0)) (Xi' elemT f ((f.length:Int)- 1) (f.length- 1)) (fun hg=>by(try simp only[qv,qI,qd,qz,beq_iff_eq,beq_eq_false_iff_ne,ne_eq] at hg);exact⟨(by omega),(by omega)⟩)),(11,Xv 1 (t&& !((f.length:Int)==0)) X0),(12,Xv 1 (t&& !((f.length:Int)==0)) X0),(13,Xv 1 (t&& !((f.length:Int)==0)) X0),(14,Xko t ((f.length:Int)==0)),(15,X (Xk t))]] (t&&(((f.length:Int)==0)|| ((((f.getD (f.length- 1) default)).char) !=10))) (fun h10=> ?_) (fun h10=> ?_)
  ·
   have e3:((flowZ t f):Int)=11:=by
    rw[z4G (I2.2.trans (z9u (by omega))),if_pos (by refine⟨h10.1,?_⟩;rcases h10.2 with h|h;(left;omega);(right;exact h))]
   exact .finE [.r []] [] (fun z0:Int=>(VI z0,[])) _ _ e3
  ·
   have e4:((flowZ t f):Int)=0:=by
    rw[z4G (I2.2.trans (z9u (by omega))),if_neg (by rintro⟨q1,q2⟩;rcases h10 with h|h;(rw[q1] at h;cases h);(rcases q2 with q|q;(omega);(exact q h.2)))]
   exact .finE [.r []] [] (fun z0:Int=>(VI z0,[])) _ _ e4



theorem y2z(n:Node)(k:Int):FC Tryz.prog 177 [.t (nodeT n),VI k] (app emp []) (VI (cmpN9 n k)) (app emp []):=by
 refine .go Tryz.f177 ?_
 refine .bp [.r [],.r []] (decide (n.id<k)) (fun h1=> ?_) (fun h1=> ?_)
 ·
  have e1:((cmpN9 n k):Int)= -1:=by
   unfold cmpN9;((repeat' split)<;>first|rfl|omega| (simp_all;done)| (simp_all;omega))
  exact .finE [.r []] [] (fun z0:Int=>(VI z0,[])) _ _ e1
 ·
  refine .bp [.r []] (decide (n.id>k)) (fun h3=> ?_) (fun h3=> ?_)
  ·
   have e2:((cmpN9 n k):Int)=1:=by
    unfold cmpN9;((repeat' split)<;>first|rfl|omega| (simp_all;done)| (simp_all;omega))
   exact .finE [.r []] [] (fun z0:Int=>(VI z0,[])) _ _ e2
  ·
   have e3:((cmpN9 n k):Int)=0:=by
    unfold cmpN9;((repeat' split)<;>first|rfl|omega| (simp_all;done)| (simp_all;omega))
   exact .finE [.r []] [] (fun z0:Int=>(VI z0,[])) _ _ e3
theorem x0k(l:List Node)(k:Int)(hn:l.length<=1048576)(hs:SortN l):FC Tryz.prog 176 [VL 9 nodeT l,VI k,.fn 177 []] (app emp []) (.tup [VI (lobN l k:Int),VB (hasN l k)]) (app emp []):=by
 refine .go Tryz.f176 ?_
 refine .len 0 (fun hl0=> ?_)
 obtain⟨s1,s2,s3⟩:=z2z l k
 refine .loop (α:=Nat×Nat) [.r [],.r [(1,X (Xl nodeT l))],.r []] 64 (fun(i,j)=>([(0,VL 9 nodeT l),(1,VI k),(2,.fn 177 []),(8,VI (l.length:Int)),(9,VI (i:Int)),(10,VI (j:Int))],[])) (fun(i,j)=>i<=lobN l k/\lobN l k<=j/\j<=l.length) (fun(i,j)=>j-i) (0,l.length) ?_ ?_
 ·
  exact⟨by omega,by omega,by omega⟩
 rintro⟨i,j⟩ I3 ih3
 try dsimp only at I3
 refine .bp [.r []] (decide ((i:Int)< (j:Int))) (fun h3=> ?_) (fun h3=> ?_)
 ·
  obtain⟨m,hm⟩:∃m:Nat,((i:Int)+(j:Int))/2=(m:Int):=⟨(i+j)/2,by omega⟩
  refine .bp [.r [(2,X (Xn ((i:Int)+(j:Int)))),(3,X (Xcv IntKind.u64 ((i:Int)+(j:Int))) (by simp[IntKind.wrap,IntKind.bits,IntKind.signed];omega)),(4,X (Xsh IntKind.u64 1 (((i:Int)+(j:Int)).fdiv (2^(min (1:Int).toNat IntKind.u64.bits))) (((i:Int)+(j:Int))/2)) ⟨by decide,(by rw[Int.fdiv_eq_ediv_of_nonneg _ (by decide)];rfl)⟩),(5,X (Xn (((i:Int)+(j:Int))/2)))],.le (.eq 11 (VI (((i:Int)+(j:Int))/2)) (VI (m:Int)) (.of_eq (by rw[<-hm]))),.r [(3,X (Xi nodeT l (m:Int))),(6,X (Xc0 (y2z ((l.getD m default)) k) X0))]] (decide ((cmpN9 ((l.getD m default)) k)< 0)) (fun h5=> ?_) (fun h5=> ?_)
  ·
   refine .back [.r [(1,X (Xn ((m:Int)+1)))]] [] (ih3 ((m+1),j) ?_ ?_)
   ·
    have:=y42 hs (m:=m) (by omega) (y18.1 h5)
    exact⟨by omega,by omega,by omega⟩
   ·
    ((try dsimp only);omega)
  ·
   refine .back [.r []] [] (ih3 (i,m) ?_ ?_)
   ·
    have:=y0F (l:=l) (k:=k) (m:=m) (fun q=>by have:=y18.2 q;omega)
    exact⟨by omega,by omega,by omega⟩
   ·
    ((try dsimp only);omega)
 ·
  have hi:i=lobN l k:=by omega
  have e1:((lobN l k:Int):Int)=(i:Int):=by
   first|omega| (unfold hasN;rw[<-hi])
  have e2:((hasN l k):Bool)=(decide ((i:Int)< (l.length:Int))&&((cmpN9 ((l.getD i default)) k)==0)):=by
   first|omega| (unfold hasN;rw[<-hi])
  exact .finE [.r [(8,Xv 2 (decide ((i:Int)< (l.length:Int))) (Xi nodeT l (i:Int))),(9,Xv 1 (decide ((i:Int)< (l.length:Int))) X0),(11,Xv 3 (decide ((i:Int)< (l.length:Int))) (Xc0 (y2z ((l.getD i default)) k) X0)),(12,Xv 1 (decide ((i:Int)< (l.length:Int))) X0),(13,X (Xk (decide ((i:Int)< (l.length:Int)))))]] [] (fun((z0,z1):Int×Bool)=>(.tup [VI z0,VB z1],[])) _ _ (pr e1 e2)
theorem z8u(d:Doc)(k:Int)(hn:d.nodes.length<=1048576)(hs:SortN d.nodes):FC Tryz.prog 105 [.t (docT d),VI k] (app emp []) (.tup [VI (lobN d.nodes k:Int),VB (hasN d.nodes k)]) (app emp []):=by
 refine .go Tryz.f105 ?_
 exact .fin [.r [],.r [(3,X (Xc0 (x0k d.nodes k (by omega) (by assumption)) X0))]] []
theorem z6F(f:List Elem)(hn:f.length<=1048576):FC Tryz.prog 130 [VL 3 elemT f] (app emp []) (.row 0 ((refsF f).length)) (app emp [(0,OR 1 intT (refsF f))]):=by
 refine .go Tryz.f130 ?_
 refine .len 0 (fun hl0=> ?_)
 refine .loop (α:=Nat×(List Int)) [.r [],.r [],.r [(1,X (Xl elemT f))],.le (.nR 3 1)] 41 (fun(i,o)=>([(3,.row 40 o.length),(6,VL 3 elemT f),(7,VI (f.length:Int)),(8,VI (i:Int))],[(40,OR 1 intT o)])) (fun(i,o)=>i<=f.length/\o=refsF (f.take i)) (fun(i,o)=>f.length-i) (0,[]) ?_ ?_
 ·
  exact⟨by omega,rfl⟩
 rintro⟨i,o⟩ I3 ih3
 try dsimp only at I3
 have ol:o.length<=i:=by rw[I3.2];unfold refsF;exact zd (jb _ _) (by rw[qX];omega)
 refine .bp [.r []] (decide ((i:Int)< (f.length:Int))) (fun h3=> ?_) (fun h3=> ?_)
 ·
  refine .bp [.r [(0,X (Xi elemT f (i:Int)))],.r []] ((((f.getD i default)).ref) !=0) (fun h5=> ?_) (fun h5=> ?_)
  ·
   refine .back [.r [(4,X (rowC intT [((f.getD i default)).ref] (Xap 1 intT 40 o [((f.getD i default)).ref])))],.r [(0,X (Xn ((i:Int)+1)))]] [(40,40)] (ih3 ((i+1),(o++[((f.getD i default)).ref])) ?_ ?_)
   ·
    refine⟨by omega,?_⟩
    rw[I3.2];unfold refsF;rw[z4H _ (by omega)]
    first| (rw[if_pos (by omega)];rfl)| (rw[if_neg (by omega)];simp)
   ·
    ((try dsimp only);omega)
  ·
   refine .back [.r [(0,X (Xn ((i:Int)+1)))]] [(40,40)] (ih3 ((i+1),o) ?_ ?_)
   ·
    refine⟨by omega,?_⟩
    rw[I3.2];unfold refsF;rw[z4H _ (by omega)]
    first| (rw[if_pos (by omega)];rfl)| (rw[if_neg (by omega)];simp)
   ·
    ((try dsimp only);omega)
 ·
  have e1:((refsF f):List Int)=o:=by
   rw[I3.2,qw (by omega)]
  have e2:((refsF f).length:Nat)=o.length:=by
   rw[I3.2,qw (by omega)]
  exact .finE [.r []] [(40,0)] (fun((z0,z1):(List Int)×Nat)=>(.row 0 z1,[(0,OR 1 intT z0)])) _ _ (pr e1 e2)
theorem z9U(n:Node)(hb:NodeB n):FC Tryz.prog 67 [.t (nodeT n)] (app emp []) (VL 1 intT (refsN n)) (app emp []):=by
 refine .go Tryz.f67 ?_
 have b1:=hb.fl2
 have b2:=hb.ce2
 have b3:(refsF n.flow).length<=n.flow.length:=jb _ _
 refine .loop (α:=Nat×(List Int)) [.r [],.r [(2,X (Xc1 32 (z6F n.flow (by first|omega|simp)) X0))],.r [(3,X (Xl cellT n.grid.cells))]] 88 (fun(j,p)=>([(3,.row 32 p.length),(11,VL 5 cellT n.grid.cells),(12,VI (n.grid.cells.length:Int)),(13,VI (j:Int))],[(32,OR 1 intT p)])) (fun(j,p)=>j<=n.grid.cells.length/\p=refsF n.flow++refsC (n.grid.cells.take j)) (fun(j,p)=>n.grid.cells.length-j) (0,(refsF n.flow)) ?_ ?_
 ·
  exact⟨by omega,by simp[refsC]⟩
 rintro⟨j,p⟩ I3 ih3
 try dsimp only at I3
 have ol2:p.length<=n.flow.length+j:=by rw[I3.2,qc];unfold refsC;have q2:=jb (fun x:Cell=>if x.ref≠0 then some x.ref else none) (n.grid.cells.take j);rw[qX] at q2;omega
 refine .bp [.r []] (decide ((j:Int)< (n.grid.cells.length:Int))) (fun h3=> ?_) (fun h3=> ?_)
 ·
  refine .bp [.r [(0,X (Xi cellT n.grid.cells (j:Int)))],.r []] ((((n.grid.cells.getD j default)).ref) !=0) (fun h5=> ?_) (fun h5=> ?_)
  ·
   refine .back [.r [(4,X (rowC intT [((n.grid.cells.getD j default)).ref] (Xap 1 intT 32 p [((n.grid.cells.getD j default)).ref])))],.r [(0,X (Xn ((j:Int)+1)))]] [(32,32)] (ih3 ((j+1),(p++[((n.grid.cells.getD j default)).ref])) ?_ ?_)
   ·
    refine⟨by omega,?_⟩
    rw[I3.2];unfold refsC;rw[z4H _ (by omega),<-List.append_assoc]
    first| (rw[if_pos (by omega)];rfl)| (rw[if_neg (by omega)];simp)
   ·
    ((try dsimp only);omega)
  ·
   refine .back [.r [(0,X (Xn ((j:Int)+1)))]] [(32,32)] (ih3 ((j+1),p) ?_ ?_)
   ·
    refine⟨by omega,?_⟩
    rw[I3.2];unfold refsC;rw[z4H _ (by omega),<-List.append_assoc]
    first| (rw[if_pos (by omega)];rfl)| (rw[if_neg (by omega)];simp)
   ·
    ((try dsimp only);omega)
 ·
  have e1:((refsN n):List Int)=p:=by
   rw[I3.2,qw (by omega)];rfl
  exact .finE [.r [],.le (.fr 2 [(p.length:Nat)=(List.map intT p).length] ⟨lm,trivial⟩)] [] (fun z0:List Int=>(VL 1 intT z0,[])) _ _ e1
end Go.Ch
end
