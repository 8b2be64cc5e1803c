/- Objects, rows, columns and cells: what the commands compute. -/
import Derived.Test.YtojjoigepejggaaGreatDoorM1
import Derived.Test.YtojjoigepejggaaGreatDoorM2
import Derived.Test.YtojjoigepejggaaGreatDoorM3
import Derived.Test.YtojjoigepejggaaGreatDoorM4
import Derived.Test.YtojjoigepejggaaGreatDoorM5
import Derived.Test.YtojjoigepejggaaGreatDoorM6
import Derived.Test.YtojjoigepejggaaGreatDoorM7
import Derived.Test.YtojjoigepejggaaGreatDoorM8
section
set_option linter.unusedVariables false
set_option linter.unusedSimpArgs false
namespace Go.Ch
open Go Go.Ab
theorem shr16{r:Int}:r.fdiv (2^(min (16:Int).toNat IntKind.i64.bits))=r/65536:=by
 show r.fdiv 65536=r/65536
 exact Int.fdiv_eq_ediv_of_nonneg r (by decide)
theorem wrap64{r:Int}(h: -9223372036854775808≤r∧r≤9223372036854775807):IntKind.i64.wrap r=r:=by
 simp[IntKind.wrap,IntKind.bits,IntKind.signed];omega
theorem shl16{r:Int}(h:0≤r∧r≤1000):IntKind.i64.wrap (r*2^(min (16:Int).toNat IntKind.i64.bits))=r*65536:=by
 show IntKind.i64.wrap (r*65536)=r*65536
 exact wrap64 (by omega)
theorem and16{x:Int}(h:0≤x∧x≤1073741824):andI .i64 x 65535=x%65536:=by
 unfold andI
 have e1:(BitVec.ofInt IntKind.i64.bits x&&&BitVec.ofInt IntKind.i64.bits 65535).toNat=x.toNat%65536:=by
  rw[BitVec.toNat_and]
  have hx:(BitVec.ofInt IntKind.i64.bits x).toNat=x.toNat:=by
   rw[BitVec.toNat_ofInt]
   show(x%((2^64:Nat):Int)).toNat=x.toNat
   rw[Int.emod_eq_of_lt h.1 (by have:=h.2;omega)]
  have hy:(BitVec.ofInt IntKind.i64.bits 65535).toNat=2^16- 1:=by decide
  rw[hx,hy,Nat.and_two_pow_sub_one_eq_mod]
 rw[e1,wrap64 (by omega)]
 omega
def nxtF(l:List Node)(site:Int)(m:Nat):Int:=(l.take m).foldl (fun x n=>if n.id/65536=site then n.id else x) (site*65536)
theorem nxtF_succ{l:List Node}{site:Int}{m:Nat}(h:m<l.length):nxtF l site (m+1)=if(l.getD m default).id/65536=site then(l.getD m default).id else nxtF l site m:=by
 have e:l.getD m default=l[m]:=by rw[List.getD_eq_getElem?_getD,List.getElem?_eq_getElem h];rfl
 unfold nxtF
 rw[List.take_succ_eq_append_getElem h,List.foldl_append,e];rfl
def nextE(d:Doc)(site:Int):Int:=
 if docE d≠0 then docE d else if site<0∨1000<site then 2 else if nxtF d.nodes site d.nodes.length%65536=65535 then 18 else 0
def nextN(d:Doc)(site:Int):Int:=if nextE d site≠0 then 0 else nxtF d.nodes site d.nodes.length+1
theorem next_e{d:Doc}{site k:Int}(h:nextE d site=k)(hk:k≠0):nextN d site=0∧nextE d site=k:=by
 unfold nextN;rw[h,if_pos hk];exact⟨rfl,rfl⟩
theorem next_1{d:Doc}{site:Int}(h:docE d≠0):nextN d site=0∧nextE d site=docE d:=next_e (by unfold nextE;rw[if_pos h]) h
theorem next_2{d:Doc}{site:Int}(h:docE d=0)(h2:site<0∨1000<site):nextN d site=0∧nextE d site=2:=next_e (by unfold nextE;rw[if_neg (fun q=>q h),if_pos h2]) (by decide)
theorem next_3{d:Doc}{site:Int}(h:docE d=0)(h2:0≤site∧site≤1000)(h3:nxtF d.nodes site d.nodes.length%65536=65535):nextN d site=0∧nextE d site=18:=
 next_e (by unfold nextE;rw[if_neg (fun q=>q h),if_neg (by omega),if_pos h3]) (by decide)
theorem next_4{d:Doc}{site:Int}(h:docE d=0)(h2:0≤site∧site≤1000)(h3:¬nxtF d.nodes site d.nodes.length%65536=65535):nextN d site=nxtF d.nodes site d.nodes.length+1∧nextE d site=0:=by
 have e:nextE d site=0:=by unfold nextE;rw[if_neg (fun q=>q h),if_neg (by omega),if_neg h3]
 unfold nextN;rw[e,if_neg (fun q=>q rfl)];exact⟨rfl,rfl⟩
def opN(n:Node):EOp:=⟨0,0,n,[],[],⟨[],[],[],[],[]⟩,[]⟩
def opG(k:Int)(g:GEd):EOp:=⟨3,k,⟨0,0,[],[],⟨0,0,[],[]⟩,[]⟩,[],[],g,[]⟩
def objN(d:Doc)(n:Node)(site:Int):Node:={id:=nextN d site,kind:=n.kind,attrs:=n.attrs,flow:=n.flow,grid:=n.grid,draw:=n.draw}
def objX(d:Doc)(s:Sel)(site:Int)(au:ByteArray):List Elem:=[{char:=0,ref:=nextN d site,attrs:=inhP (atP d s au) s.fr}]
def objE(d:Doc)(s:Sel)(n:Node)(site:Int)(au:ByteArray):Int:=
 if atE d s au≠0 then atE d s au
 else if permB (atP d s au).node.kind n.kind=false then 8
 else if nextE d site≠0 then nextE d site
 else nodeE (objN d n site)
def objO(d:Doc)(s:Sel)(n:Node)(site:Int)(au:ByteArray):List EOp:=if objE d s n site au≠0 then[] else[opN (objN d n site)]++[opF s.nd (stpP (atP d s au) s (objX d s site au))]
def objS(d:Doc)(s:Sel)(n:Node)(site:Int)(au:ByteArray):Sel:=if objE d s n site au≠0 then⟨0,0,0⟩ else selP s (objX d s site au)
structure ObjB(d:Doc)(s:Sel)(n:Node)(site:Int)(au:ByteArray):Prop where
 p:PlB (atP d s au)
 r:0≤s.fr∧s.fr≤1000000000
 s:StpB (atP d s au) s (objX d s site au)
theorem obj_e{d:Doc}{s:Sel}{n:Node}{site:Int}{au:ByteArray}{k:Int}(h:objE d s n site au=k)(hk:k≠0):objO d s n site au=[]∧objS d s n site au=⟨0,0,0⟩∧objE d s n site au=k:=by
 unfold objO objS;rw[h,if_pos hk,if_pos hk];exact⟨rfl,rfl,rfl⟩
theorem obj_1{d:Doc}{s:Sel}{n:Node}{site:Int}{au:ByteArray}(h:atE d s au≠0):objO d s n site au=[]∧objS d s n site au=⟨0,0,0⟩∧objE d s n site au=atE d s au:=obj_e (by unfold objE;rw[if_pos h]) h
theorem obj_2{d:Doc}{s:Sel}{n:Node}{site:Int}{au:ByteArray}(h:atE d s au=0)(h2:permB (atP d s au).node.kind n.kind=false):objO d s n site au=[]∧objS d s n site au=⟨0,0,0⟩∧objE d s n site au=8:=
 obj_e (by unfold objE;rw[if_neg (fun q=>q h),if_pos h2]) (by decide)
theorem obj_3{d:Doc}{s:Sel}{n:Node}{site:Int}{au:ByteArray}(h:atE d s au=0)(h2:permB (atP d s au).node.kind n.kind=true)(h3:nextE d site≠0):objO d s n site au=[]∧objS d s n site au=⟨0,0,0⟩∧objE d s n site au=nextE d site:=
 obj_e (by unfold objE;rw[if_neg (fun q=>q h),if_neg (by rw[h2];decide),if_pos h3]) h3
theorem obj_n{d:Doc}{s:Sel}{n:Node}{site:Int}{au:ByteArray}(h:atE d s au=0)(h2:permB (atP d s au).node.kind n.kind=true)(h3:nextE d site=0):objE d s n site au=nodeE (objN d n site):=by
 unfold objE;rw[if_neg (fun q=>q h),if_neg (by rw[h2];decide),if_neg (fun q=>q h3)]
theorem obj_4{d:Doc}{s:Sel}{n:Node}{site:Int}{au:ByteArray}(h:atE d s au=0)(h2:permB (atP d s au).node.kind n.kind=true)(h3:nextE d site=0)(h4:nodeE (objN d n site)≠0):objO d s n site au=[]∧objS d s n site au=⟨0,0,0⟩∧objE d s n site au=nodeE (objN d n site):=
 obj_e (obj_n h h2 h3) h4
theorem obj_5{d:Doc}{s:Sel}{n:Node}{site:Int}{au:ByteArray}(h:atE d s au=0)(h2:permB (atP d s au).node.kind n.kind=true)(h3:nextE d site=0)(h4:nodeE (objN d n site)=0):
 objO d s n site au=[opN (objN d n site)]++[opF s.nd (stpP (atP d s au) s (objX d s site au))]∧objS d s n site au=selP s (objX d s site au)∧objE d s n site au=0:=by
 have e:=(obj_n (n:=n) h h2 h3).trans h4
 unfold objO objS;rw[e,if_neg (fun q=>q rfl),if_neg (fun q=>q rfl)];exact⟨rfl,rfl,rfl⟩
def tblN(r c:Int):Node:=⟨0,2,[],[],⟨r,c,[],[]⟩,[]⟩
def kindB:ByteArray:={data:=#[107,105,110,100]}
def notN(e:Bool):Node:=⟨0,4,[⟨kindB,if e=true then {data:=#[101,110,100]} else {data:=#[102,111,111,116]}⟩],[⟨10,0,[]⟩],⟨0,0,[],[]⟩,[]⟩
def fldN(l:List Attr):Node:=⟨0,5,l,[],⟨0,0,[],[]⟩,[]⟩
def tabE(d:Doc)(k:Int):Int:=if docE d≠0 then docE d else if hasN d.nodes k=false then 7 else if hasG (d.nodes.getD (lobN d.nodes k) default).kind=false then 8 else 0
def zeroN:Node:=⟨0,0,[],[],⟨0,0,[],[]⟩,[]⟩
def tabN(d:Doc)(k:Int):Node:=if tabE d k≠0 then zeroN else d.nodes.getD (lobN d.nodes k) default
theorem tab_e{d:Doc}{k e:Int}(h:tabE d k=e)(he:e≠0):tabN d k=zeroN∧tabE d k=e:=by
 unfold tabN;rw[h,if_pos he];exact⟨rfl,rfl⟩
theorem tab_1{d:Doc}{k:Int}(h:docE d≠0):tabN d k=zeroN∧tabE d k=docE d:=tab_e (by unfold tabE;rw[if_pos h]) h
theorem tab_2{d:Doc}{k:Int}(h:docE d=0)(h2:hasN d.nodes k=false):tabN d k=zeroN∧tabE d k=7:=tab_e (by unfold tabE;rw[if_neg (fun q=>q h),if_pos h2]) (by decide)
theorem tab_3{d:Doc}{k:Int}(h:docE d=0)(h2:hasN d.nodes k=true)(h3:hasG (d.nodes.getD (lobN d.nodes k) default).kind=false):tabN d k=zeroN∧tabE d k=8:=
 tab_e (by unfold tabE;rw[if_neg (fun q=>q h),if_neg (by rw[h2];decide),if_pos h3]) (by decide)
theorem tab_4{d:Doc}{k:Int}(h:docE d=0)(h2:hasN d.nodes k=true)(h3:hasG (d.nodes.getD (lobN d.nodes k) default).kind=true):tabN d k=d.nodes.getD (lobN d.nodes k) default∧tabE d k=0:=by
 have e:tabE d k=0:=by unfold tabE;rw[if_neg (fun q=>q h),if_neg (by rw[h2];decide),if_neg (by rw[h3];decide)]
 unfold tabN;rw[e,if_neg (fun q=>q rfl)];exact⟨rfl,rfl⟩
theorem tab_grid{d:Doc}{k:Int}(h:tabE d k=0):(0≤(tabN d k).grid.rows∧(tabN d k).grid.rows≤2147483647)∧0≤(tabN d k).grid.cols∧(tabN d k).grid.cols≤2147483647:=by
 have e:tabN d k=d.nodes.getD (lobN d.nodes k) default:=by unfold tabN;rw[h,if_neg (fun q=>q rfl)]
 unfold tabE at h
 split at h
 ·rename_i q;exact absurd h q
 rename_i q
 have hd:docE d=0:=Classical.byContradiction q
 split at h
 ·cases h
 rename_i hn
 split at h
 ·cases h
 rename_i hg
 have hn:hasN d.nodes k=true:=by simpa using hn
 have hg:hasG (d.nodes.getD (lobN d.nodes k) default).kind=true:=by simpa using hg
 have hlt:=(hasN_iff.1 hn).1
 have hnd:nodeE (d.nodes.getD (lobN d.nodes k) default)=0:=by
  unfold docE at hd
  split at hd
  ·cases hd
  ·split at hd
   ·rename_i q;exact absurd hd q
   ·rename_i q;exact(nodesE_all _ 0 rfl (Classical.byContradiction q)).1 _ (Nat.zero_le _) hlt
 rw[e]
 generalize d.nodes.getD (lobN d.nodes k) default=n at hnd hg
 have hgr:gridE n.grid=0:=by
  unfold nodeE at hnd
  split at hnd
  ·cases hnd
  split at hnd
  ·cases hnd
  split at hnd
  ·rename_i q;exact absurd hnd q
  split at hnd
  ·cases hnd
  split at hnd
  ·rename_i q;exfalso
   unfold hasG at hg;unfold hasT hasL at q
   simp only[Bool.or_eq_true,beq_iff_eq] at hg q
   omega
  (try rw[if_pos hg] at hnd)
  split at hnd
  ·rename_i q;exact absurd hnd q
  ·rename_i q;exact Classical.byContradiction q
 unfold gridE at hgr
 split at hgr
 ·cases hgr
 ·omega
theorem tabN_len{d:Doc}(h:DocL d)(k:Int):(tabN d k).grid.cells.length≤1048576:=by
 unfold tabN;split
 ·simp[zeroN]
 ·by_cases q:lobN d.nodes k<d.nodes.length
  ·exact(h.all _ (getDX_mem q)).ce2
  ·rw[List.getD_eq_getElem?_getD,List.getElem?_eq_none (by omega)];simp[default,instInhabitedNode]
def addS(k n:Int):List AxStep:=if n>0 then[{kind:=k,n:=n}] else[]
theorem addS_len(k n:Int):(addS k n).length≤1:=by unfold addS;split<;>simp
def shfX(m a n:Int):List AxStep:=(((([]:List AxStep)++addS 0 a)++addS 1 n)++addS 2 (0-n))++addS 0 ((m-a)- max 0 (0-n))
def shfE(m a n:Int):Int:=if n< -2147483647∨n=0∨a<0∨m<a∨(n<0∧m-a< -n) then 2 else if 1000<n then 3 else checkX (shfX m a n)
def shfL(m a n:Int):List AxStep:=if n< -2147483647∨n=0∨a<0∨m<a∨(n<0∧m-a< -n) then[] else if 1000<n then[] else shfX m a n
theorem shf_1{m a n:Int}(h:(((n< -2147483647∨n=0)∨a<0)∨m<a)∨(n<0∧m-a< -n)):shfL m a n=[]∧shfE m a n=2:=by
 have hc:(n< -2147483647∨n=0∨a<0∨m<a∨(n<0∧m-a< -n)):=by omega
 unfold shfL shfE;rw[if_pos hc,if_pos hc];exact⟨rfl,rfl⟩
theorem shf_2{m a n:Int}(h:(((-2147483647≤n∧¬n=0)∧0≤a)∧a≤m)∧(0≤n∨ -n≤m-a))(h2:1000<n):shfL m a n=[]∧shfE m a n=3:=by
 have hc:¬(n< -2147483647∨n=0∨a<0∨m<a∨(n<0∧m-a< -n)):=by omega
 unfold shfL shfE;rw[if_neg hc,if_neg hc,if_pos h2,if_pos h2];exact⟨rfl,rfl⟩
theorem shf_3{m a n:Int}(h:(((-2147483647≤n∧¬n=0)∧0≤a)∧a≤m)∧(0≤n∨ -n≤m-a))(h2:n≤1000):shfL m a n=shfX m a n∧shfE m a n=checkX (shfX m a n):=by
 have hc:¬(n< -2147483647∨n=0∨a<0∨m<a∨(n<0∧m-a< -n)):=by omega
 have h2':¬1000<n:=by omega
 unfold shfL shfE;rw[if_neg hc,if_neg hc,if_neg h2',if_neg h2'];exact⟨rfl,rfl⟩
def rshE(d:Doc)(k a n:Int):Int:=if tabE d k≠0 then tabE d k else shfE (tabN d k).grid.rows a n
def rshO(d:Doc)(k a n:Int):List EOp:=if rshE d k a n≠0 then[] else[opG k ⟨shfL (tabN d k).grid.rows a n,[],[],[],[]⟩]
theorem rsh_1{d:Doc}{k a n:Int}(h:tabE d k≠0):rshO d k a n=[]∧rshE d k a n=tabE d k:=by
 have e:rshE d k a n=tabE d k:=by unfold rshE;rw[if_pos h]
 unfold rshO;rw[e,if_pos h];exact⟨rfl,rfl⟩
theorem rsh_2{d:Doc}{k a n:Int}(h:tabE d k=0)(h2:shfE (tabN d k).grid.rows a n≠0):rshO d k a n=[]∧rshE d k a n=shfE (tabN d k).grid.rows a n:=by
 have e:rshE d k a n=shfE (tabN d k).grid.rows a n:=by unfold rshE;rw[if_neg (fun q=>q h)]
 unfold rshO;rw[e,if_pos h2];exact⟨rfl,rfl⟩
theorem rsh_3{d:Doc}{k a n:Int}(h:tabE d k=0)(h2:shfE (tabN d k).grid.rows a n=0):rshO d k a n=[opG k ⟨shfL (tabN d k).grid.rows a n,[],[],[],[]⟩]∧rshE d k a n=0:=by
 have e:rshE d k a n=0:=by unfold rshE;rw[if_neg (fun q=>q h),h2]
 unfold rshO;rw[e,if_neg (fun q=>q rfl)];exact⟨rfl,rfl⟩
def cshE(d:Doc)(k a n:Int):Int:=if tabE d k≠0 then tabE d k else shfE (tabN d k).grid.cols a n
def cshO(d:Doc)(k a n:Int):List EOp:=if cshE d k a n≠0 then[] else[opG k ⟨[],shfL (tabN d k).grid.cols a n,[],[],[]⟩]
theorem csh_1{d:Doc}{k a n:Int}(h:tabE d k≠0):cshO d k a n=[]∧cshE d k a n=tabE d k:=by
 have e:cshE d k a n=tabE d k:=by unfold cshE;rw[if_pos h]
 unfold cshO;rw[e,if_pos h];exact⟨rfl,rfl⟩
theorem csh_2{d:Doc}{k a n:Int}(h:tabE d k=0)(h2:shfE (tabN d k).grid.cols a n≠0):cshO d k a n=[]∧cshE d k a n=shfE (tabN d k).grid.cols a n:=by
 have e:cshE d k a n=shfE (tabN d k).grid.cols a n:=by unfold cshE;rw[if_neg (fun q=>q h)]
 unfold cshO;rw[e,if_pos h2];exact⟨rfl,rfl⟩
theorem csh_3{d:Doc}{k a n:Int}(h:tabE d k=0)(h2:shfE (tabN d k).grid.cols a n=0):cshO d k a n=[opG k ⟨[],shfL (tabN d k).grid.cols a n,[],[],[]⟩]∧cshE d k a n=0:=by
 have e:cshE d k a n=0:=by unfold cshE;rw[if_neg (fun q=>q h),h2]
 unfold cshO;rw[e,if_neg (fun q=>q rfl)];exact⟨rfl,rfl⟩
theorem idx_hit{α:Type}[Inhabited α]{f:α→Bool}{l:List α}{i:Nat}(h:i<l.length)(h2:f (l.getD i default)=true):idxF f l i=(i:Int):=by rw[idxF,if_pos h,if_pos h2]
theorem idx_miss{α:Type}[Inhabited α]{f:α→Bool}{l:List α}{i:Nat}(h:i<l.length)(h2:f (l.getD i default)=false):idxF f l i=idxF f l (i+1):=by rw[idxF,if_pos h,if_neg (by rw[h2];decide)]
theorem idx_end{α:Type}[Inhabited α]{f:α→Bool}{l:List α}{i:Nat}(h:¬i<l.length):idxF f l i= -1:=by rw[idxF,if_neg h]
def celI(d:Doc)(k r c:Int):Int:=idxF (fun x:Cell=>x.row==r&&x.col==c) (tabN d k).grid.cells 0
def celE(d:Doc)(k r c site:Int):Int:=
 if tabE d k≠0 then tabE d k else if(tabN d k).kind≠2 then 8
 else if r<0∨(tabN d k).grid.rows≤r∨c<0∨(tabN d k).grid.cols≤c then 2
 else if 0≤celI d k r c then 0 else nextE d site
def celM(d:Doc)(site:Int):Node:=⟨nextN d site,3,[],[⟨10,0,[]⟩],⟨0,0,[],[]⟩,[]⟩
def celL(d:Doc)(k r c site:Int):List EOp:=[opN (celM d site),opG k ⟨[],[],[⟨r,c,{data:=#[]},nextN d site,[]⟩],[],[]⟩]
def celO(d:Doc)(k r c site:Int):List EOp:=if celE d k r c site≠0∨0≤celI d k r c then[] else celL d k r c site
def celR(d:Doc)(k r c site:Int):Int:=if celE d k r c site≠0 then 0 else if 0≤celI d k r c then((tabN d k).grid.cells.getD (celI d k r c).toNat default).ref else nextN d site
theorem cel_e{d:Doc}{k r c site e:Int}(h:celE d k r c site=e)(he:e≠0):celO d k r c site=[]∧celR d k r c site=0∧celE d k r c site=e:=by
 unfold celO celR;rw[h,if_pos (.inl he),if_pos he];exact⟨rfl,rfl,rfl⟩
theorem cel_1{d:Doc}{k r c site:Int}(h:tabE d k≠0):celO d k r c site=[]∧celR d k r c site=0∧celE d k r c site=tabE d k:=cel_e (by unfold celE;rw[if_pos h]) h
theorem cel_2{d:Doc}{k r c site:Int}(h:tabE d k=0)(h2:¬(tabN d k).kind=2):celO d k r c site=[]∧celR d k r c site=0∧celE d k r c site=8:=cel_e (by unfold celE;rw[if_neg (fun q=>q h),if_pos h2]) (by decide)
theorem cel_3{d:Doc}{k r c site:Int}(h:tabE d k=0)(h2:(tabN d k).kind=2)(h3:((r<0∨(tabN d k).grid.rows≤r)∨c<0)∨(tabN d k).grid.cols≤c):celO d k r c site=[]∧celR d k r c site=0∧celE d k r c site=2:=
 cel_e (by unfold celE;rw[if_neg (fun q=>q h),if_neg (fun q=>q h2),if_pos (by omega)]) (by decide)
theorem cel_4{d:Doc}{k r c site:Int}{i:Nat}(h:tabE d k=0)(h2:(tabN d k).kind=2)(h3:((0≤r∧r< (tabN d k).grid.rows)∧0≤c)∧c< (tabN d k).grid.cols)(h4:idxF (fun x:Cell=>x.row==r&&x.col==c) (tabN d k).grid.cells 0=(i:Int)):
 celO d k r c site=[]∧celR d k r c site=((tabN d k).grid.cells.getD i default).ref∧celE d k r c site=0:=by
 have hi:celI d k r c=(i:Int):=h4
 have e:celE d k r c site=0:=by unfold celE;rw[if_neg (fun q=>q h),if_neg (fun q=>q h2),if_neg (by omega),hi,if_pos (by omega)]
 unfold celO celR;rw[e,hi,if_pos (.inr (by omega)),if_neg (fun q=>q rfl),if_pos (by omega)]
 exact⟨rfl,rfl,rfl⟩
theorem cel_n{d:Doc}{k r c site:Int}(h:tabE d k=0)(h2:(tabN d k).kind=2)(h3:((0≤r∧r< (tabN d k).grid.rows)∧0≤c)∧c< (tabN d k).grid.cols)(h4:idxF (fun x:Cell=>x.row==r&&x.col==c) (tabN d k).grid.cells 0= -1):celE d k r c site=nextE d site:=by
 have hi:celI d k r c= -1:=h4
 unfold celE;rw[if_neg (fun q=>q h),if_neg (fun q=>q h2),if_neg (by omega),hi,if_neg (by omega)]
theorem cel_5{d:Doc}{k r c site:Int}(h:tabE d k=0)(h2:(tabN d k).kind=2)(h3:((0≤r∧r< (tabN d k).grid.rows)∧0≤c)∧c< (tabN d k).grid.cols)(h4:idxF (fun x:Cell=>x.row==r&&x.col==c) (tabN d k).grid.cells 0= -1)(h5:¬nextE d site=0):
 celO d k r c site=[]∧celR d k r c site=0∧celE d k r c site=nextE d site:=cel_e (cel_n h h2 h3 h4) h5
theorem cel_6{d:Doc}{k r c site:Int}(h:tabE d k=0)(h2:(tabN d k).kind=2)(h3:((0≤r∧r< (tabN d k).grid.rows)∧0≤c)∧c< (tabN d k).grid.cols)(h4:idxF (fun x:Cell=>x.row==r&&x.col==c) (tabN d k).grid.cells 0= -1)(h5:nextE d site=0):
 celO d k r c site=celL d k r c site∧celR d k r c site=nextN d site∧celE d k r c site=0:=by
 have hi:celI d k r c= -1:=h4
 have e:=(cel_n (site:=site) h h2 h3 h4).trans h5
 unfold celO celR;rw[e,hi,if_neg (by omega),if_neg (fun q=>q rfl),if_neg (by omega)]
 exact⟨rfl,rfl,rfl⟩
end Go.Ch
end
section
set_option linter.unusedVariables false
set_option linter.unusedSimpArgs false
set_option maxRecDepth 100000
set_option maxHeartbeats 4000000
open Go Go.Proofs Go.Ab
namespace Go.Ch
theorem fc_pstepsR(p:Pl)(s:Sel)(es:List Elem)(hb:PlB p)(hs:StpB p s es):FC Tryz.prog 62 [.ptr 0 0,.t (selT s),.row 1 es.length] (app emp [(0,.box [VI p.node.id,VI p.node.kind,VL 2 attrT p.node.attrs,VL 3 elemT p.node.flow,VI p.node.grid.rows,VI p.node.grid.cols,VL 5 cellT p.node.grid.cells,VL 4 rectT p.node.grid.merges,VL 8 dopT p.node.draw,VL 1 intT p.shown,VS p.author]),(1,OR 3 elemT es)]) (.tup [VL 19 eopT [opF s.nd (stpP p s es)],.t (selT (selP s es)),VI 0]) (app emp [(0,.box [VI p.node.id,VI p.node.kind,VL 2 attrT p.node.attrs,VL 3 elemT p.node.flow,VI p.node.grid.rows,VI p.node.grid.cols,VL 5 cellT p.node.grid.cells,VL 4 rectT p.node.grid.merges,VL 8 dopT p.node.draw,VL 1 intT p.shown,VS p.author]),(1,OF 3 elemT es)]):=by
 refine .go Tryz.f62 ?_
 obtain⟨s1,q1,q2,v1,v2,v3,d1,d2,d3,m1,m2,m3⟩:=hs
 simp only[ersP,typP] at v1 v2 v3 d1 d2 d3 m1 m2 m3
 have hf:p.node.flow.length≤10000000:=by(have:=hb.len;omega)
 have hsh:=hb.sl
 have hpl:∀x∈(p.shown.take s.tq.toNat).drop s.fr.toNat,0≤x∧x< (p.node.flow.length:Int):=fun x hx=>hb.ok x (List.mem_of_mem_take (List.mem_of_mem_drop hx))
 have hpl2:∀x∈p.shown,0≤x∧x≤1000000000:=fun x hx=>by(have:=hb.ok x hx;omega)
 have hgp:=gapP_bd hb s1
 have e1:([opF s.nd (stpP p s es)]:List EOp)=[({kind:=2,node:=s.nd,nw:=({id:=0,kind:=0,attrs:=[],flow:=[],grid:=({rows:=0,cols:=0,cells:=[],merges:=[]}:Grid),draw:=[]}:Node),attrs:=[],steps:=(joinD (ersD p.node.flow ((p.shown.take (Int.toNat s.tq)).drop (Int.toNat s.fr)) p.author) (pairD1 (typD (p.node.flow).length (gapP p.shown s.fr) es p.author) (ersD p.node.flow ((p.shown.take (Int.toNat s.tq)).drop (Int.toNat s.fr)) p.author))),grid:=({rows:=[],cols:=[],cells:=[],split:=[],merge:=[]}:GEd),draw:=[]}:EOp)]:=by
  rfl
 have e2:((selP s es):Sel)=({nd:=s.nd,fr:=(s.fr+(es.length:Int)),tq:=(s.fr+(es.length:Int))}:Sel):=by
  rfl
 exact .finVE [.r [],.r [],.r [(9,X (Xsb intT 1 p.shown s.fr s.tq)),(14,X (Xc1 194 (fc_erased p.node.flow ((p.shown.take (Int.toNat s.tq)).drop (Int.toNat s.fr)) p.author (by omega) (by assumption)) X0))],.r [(6,X (Xc0 (fc_gapT p.shown s.fr (by omega) (by assumption)) X0))],.r [(7,X (Xc1 330 (fc_typed p.node.flow (gapP p.shown s.fr) es p.author (by omega) (by omega) (by omega) (by assumption)) (rowC elemT es X0)))],.r [(2,X (Xc1 362 (fc_dPair (typD (p.node.flow).length (gapP p.shown s.fr) es p.author) (ersD p.node.flow ((p.shown.take (Int.toNat s.tq)).drop (Int.toNat s.fr)) p.author) (by assumption) (by assumption) (by assumption) (by assumption) (by omega) (by omega)) X0))],.r [],.f,.r [(2,X (Xc1 458 (fc_dJoin (ersD p.node.flow ((p.shown.take (Int.toNat s.tq)).drop (Int.toNat s.fr)) p.author) (pairD1 (typD (p.node.flow).length (gapP p.shown s.fr) es p.author) (ersD p.node.flow ((p.shown.take (Int.toNat s.tq)).drop (Int.toNat s.fr)) p.author)) (by assumption) (by assumption) (by assumption) (by assumption) (by omega)) X0))],.r [],.f,.r [(4,X (Xn (s.fr+(es.length:Int))))],.r [(3,X (Xf [(4,2),(5,3),(8,5),(9,4),(10,8),(11,2),(13,2),(14,2),(15,5),(16,4),(17,4),(18,8)]))],.le (.fr 6 [(1:Nat)=(List.map eopT [({kind:=2,node:=s.nd,nw:=({id:=0,kind:=0,attrs:=[],flow:=[],grid:=({rows:=0,cols:=0,cells:=[],merges:=[]}:Grid),draw:=[]}:Node),attrs:=[],steps:=(joinD (ersD p.node.flow ((p.shown.take (Int.toNat s.tq)).drop (Int.toNat s.fr)) p.author) (pairD1 (typD (p.node.flow).length (gapP p.shown s.fr) es p.author) (ersD p.node.flow ((p.shown.take (Int.toNat s.tq)).drop (Int.toNat s.fr)) p.author))),grid:=({rows:=[],cols:=[],cells:=[],split:=[],merge:=[]}:GEd),draw:=[]}:EOp)]).length] ⟨lm,trivial⟩)] [] [(0,0),(1,1)] (fun((z0,z1):(List EOp)×Sel)=>(.tup [VL 19 eopT z0,.t (selT z1),VI 0],[(0,.box [VI p.node.id,VI p.node.kind,VL 2 attrT p.node.attrs,VL 3 elemT p.node.flow,VI p.node.grid.rows,VI p.node.grid.cols,VL 5 cellT p.node.grid.cells,VL 4 rectT p.node.grid.merges,VL 8 dopT p.node.draw,VL 1 intT p.shown,VS p.author]),(1,OF 3 elemT es)])) _ _ (pr e1 e2)
theorem fc_site(k:Int):FC Tryz.prog 123 [VI k] (app emp []) (VI (k/65536)) (app emp []):=by
 refine .go Tryz.f123 ?_
 exact .fin [.r [],.r [(1,X (Xsh IntKind.i64 16 (k.fdiv (2^(min (16:Int).toNat IntKind.i64.bits))) (k/65536)) ⟨by decide,shr16⟩)]] []
theorem fc_next(d:Doc)(site:Int)(hb:DocL d):FC Tryz.prog 72 [.t (docT d),VI site] (app emp []) (.tup [VI (nextN d site),VI (nextE d site)]) (app emp []):=by
 refine .go Tryz.f72 ?_
 have hl:=hb.len
 refine .bp [.r [],.r [(1,X (Xc0 (fc_docCk d (by assumption)) X0))],.r []] ((docE d) !=0) (fun h2=> ?_) (fun h2=> ?_)
 ·
  have T:=next_1 (site:=site) h2
  have e1:((nextN d site):Int)=0:=by
   exact T.1
  have e2:((nextE d site):Int)=(docE d):=by
   exact T.2
  exact .finE [.r []] [] (fun((z0,z1):Int×Int)=>(.tup [VI z0,VI z1],[])) _ _ (pr e1 e2)
 ·
  refine .bp [.r [(4,Xv 1 (!(decide (site<0))) X0),(5,X (Xk' (decide (site<0))))]] (decide (site<0)||decide (site>1000)) (fun h4=> ?_) (fun h4=> ?_)
  ·
   have T:=next_2 (by omega) h4
   have e3:((nextN d site):Int)=0:=by
    exact T.1
   have e4:((nextE d site):Int)=2:=by
    exact T.2
   exact .finE [.r []] [] (fun((z0,z1):Int×Int)=>(.tup [VI z0,VI z1],[])) _ _ (pr e3 e4)
  ·
   have hid:=ids_doc (d:=d) (by omega)
   refine .loop (α:=Int×Nat) [.r [(1,X (Xsh IntKind.i64 16 (IntKind.i64.wrap (site*2^(min (16:Int).toNat IntKind.i64.bits))) (site*65536)) ⟨by decide,shl16 (by omega)⟩)],.r [(2,X (Xl nodeT d.nodes))]] 168 (fun(x,i)=>([(1,VI site),(7,VI x),(24,VL 9 nodeT d.nodes),(25,VI (d.nodes.length:Int)),(26,VI (i:Int))],[])) (fun(x,i)=>i≤d.nodes.length∧x=nxtF d.nodes site i∧0≤x∧x≤1073741824) (fun(x,i)=>d.nodes.length-i) ((site*65536),0) ?_ ?_
   ·
    exact⟨by omega,rfl,by omega,by omega⟩
   rintro⟨x,i⟩ I8 ih8
   try dsimp only at I8
   refine .bp [.r []] (decide ((i:Int)< (d.nodes.length:Int))) (fun h8=> ?_) (fun h8=> ?_)
   ·
    have hx:=hid _ (getDN_mem (l:=d.nodes) (i:=i) (by omega))
    refine .bp [.r [(0,X (Xi nodeT d.nodes (i:Int)))],.r [(2,X (Xc0 (fc_site (((d.nodes.getD i default)).id)) X0))]] (((((d.nodes.getD i default)).id)/65536)==site) (fun h10=> ?_) (fun h10=> ?_)
    ·
     refine .back [.r [],.r [(0,X (Xn ((i:Int)+1)))]] [] (ih8 (((d.nodes.getD i default)).id,(i+1)) ?_ ?_)
     ·
      exact⟨by omega,by rw[nxtF_succ (by omega),if_pos h10],by omega,by omega⟩
     ·
      ((try dsimp only);omega)
    ·
     refine .back [.r [(0,X (Xn ((i:Int)+1)))]] [] (ih8 (x,(i+1)) ?_ ?_)
     ·
      exact⟨by omega,by rw[nxtF_succ (by omega),if_neg h10];exact I8.2.1,I8.2.2⟩
     ·
      ((try dsimp only);omega)
   ·
    have hx2:x=nxtF d.nodes site d.nodes.length:=by rw[I8.2.1,show i=d.nodes.length by omega]
    refine .bp [.r [(1,X (Xbit IntKind.i64 (andI IntKind.i64 x 65535) (x%65536)) (and16 (by omega)))]] ((x%65536)==65535) (fun h13=> ?_) (fun h13=> ?_)
    ·
     have T:=next_3 (by omega) h4 (hx2▸h13)
     have e5:((nextN d site):Int)=0:=by
      exact T.1
     have e6:((nextE d site):Int)=18:=by
      exact T.2
     exact .finE [.r []] [] (fun((z0,z1):Int×Int)=>(.tup [VI z0,VI z1],[])) _ _ (pr e5 e6)
    ·
     have T:=next_4 (by omega) h4 (hx2▸h13)
     rw[←hx2] at T
     have e7:((nextN d site):Int)=(x+1):=by
      exact T.1
     have e8:((nextE d site):Int)=0:=by
      exact T.2
     exact .finE [.r [(1,X (Xn (x+1)))]] [] (fun((z0,z1):Int×Int)=>(.tup [VI z0,VI z1],[])) _ _ (pr e7 e8)
theorem fc_object(d:Doc)(s:Sel)(n:Node)(site:Int)(au:ByteArray)(hb:DocL d)(hn:n.grid.merges=[]∧NoTx n.grid.cells)(hx:atE d s au=0→nextE d site=0→ObjB d s n site au):FC Tryz.prog 68 [.t (docT d),.t (selT s),.t (nodeT n),VI site,VS au] (app emp []) (.tup [VL 19 eopT (objO d s n site au),.t (selT (objS d s n site au)),VI (objE d s n site au)]) (app emp []):=by
 refine .go Tryz.f68 ?_
 refine .bp [.r [],.r [(3,X (Xc1 72 (fc_at d s au (by assumption)) X0))],.r []] ((atE d s au) !=0) (fun h2=> ?_) (fun h2=> ?_)
 ·
  have T:=obj_1 (n:=n) (site:=site) h2
  have e1:((objO d s n site au):List EOp)=[]:=by
   exact T.1
  have e2:((objS d s n site au):Sel)=({nd:=0,fr:=0,tq:=0}:Sel):=by
   exact T.2.1
  have e3:((objE d s n site au):Int)=(atE d s au):=by
   exact T.2.2
  exact .finVE [.r [],.le (.nL 10 19)] [] [] (fun((z0,z1,z2):(List EOp)×Sel×Int)=>(.tup [VL 19 eopT z0,.t (selT z1),VI z2],[])) _ _ (pr e1 (pr e2 e3))
 ·
  refine .bp [.r [(5,X (Xc0 (fc_permN ((((atP d s au)).node).kind) n.kind) X0))]] (!(permB ((((atP d s au)).node).kind) n.kind)) (fun h4=> ?_) (fun h4=> ?_)
  ·
   have T:=obj_2 (site:=site) h2 h4
   have e4:((objO d s n site au):List EOp)=[]:=by
    exact T.1
   have e5:((objS d s n site au):Sel)=({nd:=0,fr:=0,tq:=0}:Sel):=by
    exact T.2.1
   have e6:((objE d s n site au):Int)=8:=by
    exact T.2.2
   exact .finVE [.r [],.le (.nL 10 19)] [] [] (fun((z0,z1,z2):(List EOp)×Sel×Int)=>(.tup [VL 19 eopT z0,.t (selT z1),VI z2],[])) _ _ (pr e4 (pr e5 e6))
  ·
   refine .bp [.r [(2,X (Xc0 (fc_next d site (by assumption)) X0))],.r []] ((nextE d site) !=0) (fun h7=> ?_) (fun h7=> ?_)
   ·
    have T:=obj_3 h2 h4 h7
    have e7:((objO d s n site au):List EOp)=[]:=by
     exact T.1
    have e8:((objS d s n site au):Sel)=({nd:=0,fr:=0,tq:=0}:Sel):=by
     exact T.2.1
    have e9:((objE d s n site au):Int)=(nextE d site):=by
     exact T.2.2
    exact .finVE [.r [],.le (.nL 10 19)] [] [] (fun((z0,z1,z2):(List EOp)×Sel×Int)=>(.tup [VL 19 eopT z0,.t (selT z1),VI z2],[])) _ _ (pr e7 (pr e8 e9))
   ·
    obtain⟨o1,o2,o3⟩:=hx h2 h7
    refine .bp [.r [],.r [(1,X (Xc0 (fc_nodeCk ({id:=(nextN d site),kind:=n.kind,attrs:=n.attrs,flow:=n.flow,grid:=n.grid,draw:=n.draw}:Node) (by assumption)) X0))],.r []] ((nodeE ({id:=(nextN d site),kind:=n.kind,attrs:=n.attrs,flow:=n.flow,grid:=n.grid,draw:=n.draw}:Node)) !=0) (fun h11=> ?_) (fun h11=> ?_)
    ·
     have T:=obj_4 h2 h4 h7 h11
     have e10:((objO d s n site au):List EOp)=[]:=by
      exact T.1
     have e11:((objS d s n site au):Sel)=({nd:=0,fr:=0,tq:=0}:Sel):=by
      exact T.2.1
     have e12:((objE d s n site au):Int)=(nodeE ({id:=(nextN d site),kind:=n.kind,attrs:=n.attrs,flow:=n.flow,grid:=n.grid,draw:=n.draw}:Node)):=by
      exact T.2.2
     exact .finVE [.r [],.le (.nL 10 19)] [] [] (fun((z0,z1,z2):(List EOp)×Sel×Int)=>(.tup [VL 19 eopT z0,.t (selT z1),VI z2],[])) _ _ (pr e10 (pr e11 e12))
    ·
     have T:=obj_5 h2 h4 h7 h11
     have e13:((objO d s n site au):List EOp)=([({kind:=0,node:=0,nw:=({id:=(nextN d site),kind:=n.kind,attrs:=n.attrs,flow:=n.flow,grid:=n.grid,draw:=n.draw}:Node),attrs:=[],steps:=[],grid:=({rows:=[],cols:=[],cells:=[],split:=[],merge:=[]}:GEd),draw:=[]}:EOp)]++[opF (s).nd (stpP ((atP d s au)) s [({char:=0,ref:=(nextN d site),attrs:=(inhP ((atP d s au)) s.fr)}:Elem)])]):=by
      exact T.1
     have e14:((objS d s n site au):Sel)=((selP s [({char:=0,ref:=(nextN d site),attrs:=(inhP ((atP d s au)) s.fr)}:Elem)])):=by
      exact T.2.1
     have e15:((objE d s n site au):Int)=0:=by
      exact T.2.2
     exact .finVE [.r [(4,X (Xc4 [(0,104)] (fc_inh ((atP d s au)) s.fr (by assumption) (by omega)) X0)),(7,X (Xc3 400 [(0,104),(1,392)] (fc_pstepsR ((atP d s au)) s [({char:=0,ref:=(nextN d site),attrs:=(inhP ((atP d s au)) s.fr)}:Elem)] (by assumption) (by assumption)) X0))],.r [],.f,.r [(1,X (Xf [(11,2),(12,4),(13,2),(14,2),(15,5),(16,4),(17,4),(18,8)])),(4,X (XapB 19 eopT 504 [({kind:=0,node:=0,nw:=({id:=(nextN d site),kind:=n.kind,attrs:=n.attrs,flow:=n.flow,grid:=n.grid,draw:=n.draw}:Node),attrs:=[],steps:=[],grid:=({rows:=[],cols:=[],cells:=[],split:=[],merge:=[]}:GEd),draw:=[]}:EOp)] [opF (s).nd (stpP ((atP d s au)) s [({char:=0,ref:=(nextN d site),attrs:=(inhP ((atP d s au)) s.fr)}:Elem)])]))],.le (.fr 10 [((([({kind:=0,node:=0,nw:=({id:=(nextN d site),kind:=n.kind,attrs:=n.attrs,flow:=n.flow,grid:=n.grid,draw:=n.draw}:Node),attrs:=[],steps:=[],grid:=({rows:=[],cols:=[],cells:=[],split:=[],merge:=[]}:GEd),draw:=[]}:EOp)]++[opF (s).nd (stpP ((atP d s au)) s [({char:=0,ref:=(nextN d site),attrs:=(inhP ((atP d s au)) s.fr)}:Elem)])]).length):Nat)=(List.map eopT ([({kind:=0,node:=0,nw:=({id:=(nextN d site),kind:=n.kind,attrs:=n.attrs,flow:=n.flow,grid:=n.grid,draw:=n.draw}:Node),attrs:=[],steps:=[],grid:=({rows:=[],cols:=[],cells:=[],split:=[],merge:=[]}:GEd),draw:=[]}:EOp)]++[opF (s).nd (stpP ((atP d s au)) s [({char:=0,ref:=(nextN d site),attrs:=(inhP ((atP d s au)) s.fr)}:Elem)])])).length] ⟨lm,trivial⟩)] [] [] (fun((z0,z1,z2):(List EOp)×Sel×Int)=>(.tup [VL 19 eopT z0,.t (selT z1),VI z2],[])) _ _ (pr e13 (pr e14 e15))
theorem fc_insT(d:Doc)(s:Sel)(r c:Int)(site:Int)(au:ByteArray)(hr:1≤r∧r≤1000∧1≤c∧c≤1000)(hb:DocL d)(hx:atE d s au=0→nextE d site=0→ObjB d s (tblN r c) site au):FC Tryz.prog 31 [.t (docT d),.t (selT s),VI r,VI c,VI site,VS au] (app emp []) (.tup [VL 19 eopT (objO d s (tblN r c) site au),.t (selT (objS d s (tblN r c) site au)),VI (objE d s (tblN r c) site au)]) (app emp []):=by
 refine .go Tryz.f31 ?_
 have hn:(tblN r c).grid.merges=[]∧NoTx (tblN r c).grid.cells:=⟨rfl,fun x h=>by cases h⟩
 refine .bp [.r [],.r [(4,Xv 1 (!(decide (r<1))) X0),(5,X (Xk' (decide (r<1)))),(8,Xv 1 (!(decide (r<1)||decide (r>1000))) X0),(9,X (Xk' (decide (r<1)||decide (r>1000)))),(12,Xv 1 (!((decide (r<1)||decide (r>1000))||decide (c<1))) X0),(13,X (Xk' ((decide (r<1)||decide (r>1000))||decide (c<1))))]] (((decide (r<1)||decide (r>1000))||decide (c<1))||decide (c>1000)) (fun h1=> ?_) (fun h1=> ?_)
 ·
  exfalso
  omega
 ·
  have e1:((objO d s (tblN r c) site au):List EOp)=(objO d s ({id:=0,kind:=2,attrs:=[],flow:=[],grid:=({rows:=r,cols:=c,cells:=[],merges:=[]}:Grid),draw:=[]}:Node) site au):=by
   rfl
  have e2:((objS d s (tblN r c) site au):Sel)=((objS d s ({id:=0,kind:=2,attrs:=[],flow:=[],grid:=({rows:=r,cols:=c,cells:=[],merges:=[]}:Grid),draw:=[]}:Node) site au)):=by
   rfl
  have e3:((objE d s (tblN r c) site au):Int)=(objE d s ({id:=0,kind:=2,attrs:=[],flow:=[],grid:=({rows:=r,cols:=c,cells:=[],merges:=[]}:Grid),draw:=[]}:Node) site au):=by
   rfl
  exact .finVE [.r [(4,X (Xf [(2,5),(3,4)])),(5,X (Xf [(2,2),(3,3),(8,8)])),(8,X (Xc1 216 (fc_object d s ({id:=0,kind:=2,attrs:=[],flow:=[],grid:=({rows:=r,cols:=c,cells:=[],merges:=[]}:Grid),draw:=[]}:Node) site au (by assumption) (by assumption) (by assumption)) X0))]] [] [] (fun((z0,z1,z2):(List EOp)×Sel×Int)=>(.tup [VL 19 eopT z0,.t (selT z1),VI z2],[])) _ _ (pr e1 (pr e2 e3))
theorem fc_insN(d:Doc)(s:Sel)(e:Bool)(site:Int)(au:ByteArray)(hb:DocL d)(hx:atE d s au=0→nextE d site=0→ObjB d s (notN e) site au):FC Tryz.prog 32 [.t (docT d),.t (selT s),VB e,VI site,VS au] (app emp []) (.tup [VL 19 eopT (objO d s (notN e) site au),.t (selT (objS d s (notN e) site au)),VI (objE d s (notN e) site au)]) (app emp []):=by
 refine .go Tryz.f32 ?_
 have hn:(notN e).grid.merges=[]∧NoTx (notN e).grid.cells:=⟨rfl,fun x h=>by cases h⟩
 refine .bp [.r [],.r [],.r []] e (fun h2=> ?_) (fun h2=> ?_)
 ·
  rw[h2] at hx hn
  have e1:((objO d s (notN e) site au):List EOp)=(objO d s ({id:=0,kind:=4,attrs:=[({name:={data:=#[107,105,110,100]},val:={data:=#[101,110,100]}}:Attr)],flow:=[({char:=10,ref:=0,attrs:=[]}:Elem)],grid:=({rows:=0,cols:=0,cells:=[],merges:=[]}:Grid),draw:=[]}:Node) site au):=by
   rw[h2];rfl
  have e2:((objS d s (notN e) site au):Sel)=((objS d s ({id:=0,kind:=4,attrs:=[({name:={data:=#[107,105,110,100]},val:={data:=#[101,110,100]}}:Attr)],flow:=[({char:=10,ref:=0,attrs:=[]}:Elem)],grid:=({rows:=0,cols:=0,cells:=[],merges:=[]}:Grid),draw:=[]}:Node) site au)):=by
   rw[h2];rfl
  have e3:((objE d s (notN e) site au):Int)=(objE d s ({id:=0,kind:=4,attrs:=[({name:={data:=#[107,105,110,100]},val:={data:=#[101,110,100]}}:Attr)],flow:=[({char:=10,ref:=0,attrs:=[]}:Elem)],grid:=({rows:=0,cols:=0,cells:=[],merges:=[]}:Grid),draw:=[]}:Node) site au):=by
   rw[h2];rfl
  exact .finVE [.r [],.r [(5,X (Xf [(2,2)])),(7,X (Xf [(6,5),(7,4),(8,8)])),(10,X (Xc1 144 (fc_object d s ({id:=0,kind:=4,attrs:=[({name:={data:=#[107,105,110,100]},val:={data:=#[101,110,100]}}:Attr)],flow:=[({char:=10,ref:=0,attrs:=[]}:Elem)],grid:=({rows:=0,cols:=0,cells:=[],merges:=[]}:Grid),draw:=[]}:Node) site au (by assumption) (by assumption) (by assumption)) (rowC attrT [({name:={data:=#[107,105,110,100]},val:={data:=#[101,110,100]}}:Attr)] (rowC elemT [({char:=10,ref:=0,attrs:=[]}:Elem)] X0))))]] [] [] (fun((z0,z1,z2):(List EOp)×Sel×Int)=>(.tup [VL 19 eopT z0,.t (selT z1),VI z2],[])) _ _ (pr e1 (pr e2 e3))
 ·
  rw[h2] at hx hn
  have e4:((objO d s (notN e) site au):List EOp)=(objO d s ({id:=0,kind:=4,attrs:=[({name:={data:=#[107,105,110,100]},val:={data:=#[102,111,111,116]}}:Attr)],flow:=[({char:=10,ref:=0,attrs:=[]}:Elem)],grid:=({rows:=0,cols:=0,cells:=[],merges:=[]}:Grid),draw:=[]}:Node) site au):=by
   rw[h2];rfl
  have e5:((objS d s (notN e) site au):Sel)=((objS d s ({id:=0,kind:=4,attrs:=[({name:={data:=#[107,105,110,100]},val:={data:=#[102,111,111,116]}}:Attr)],flow:=[({char:=10,ref:=0,attrs:=[]}:Elem)],grid:=({rows:=0,cols:=0,cells:=[],merges:=[]}:Grid),draw:=[]}:Node) site au)):=by
   rw[h2];rfl
  have e6:((objE d s (notN e) site au):Int)=(objE d s ({id:=0,kind:=4,attrs:=[({name:={data:=#[107,105,110,100]},val:={data:=#[102,111,111,116]}}:Attr)],flow:=[({char:=10,ref:=0,attrs:=[]}:Elem)],grid:=({rows:=0,cols:=0,cells:=[],merges:=[]}:Grid),draw:=[]}:Node) site au):=by
   rw[h2];rfl
  exact .finVE [.r [(5,X (Xf [(2,2)])),(7,X (Xf [(6,5),(7,4),(8,8)])),(10,X (Xc1 136 (fc_object d s ({id:=0,kind:=4,attrs:=[({name:={data:=#[107,105,110,100]},val:={data:=#[102,111,111,116]}}:Attr)],flow:=[({char:=10,ref:=0,attrs:=[]}:Elem)],grid:=({rows:=0,cols:=0,cells:=[],merges:=[]}:Grid),draw:=[]}:Node) site au (by assumption) (by assumption) (by assumption)) (rowC attrT [({name:={data:=#[107,105,110,100]},val:={data:=#[102,111,111,116]}}:Attr)] (rowC elemT [({char:=10,ref:=0,attrs:=[]}:Elem)] X0))))]] [] [] (fun((z0,z1,z2):(List EOp)×Sel×Int)=>(.tup [VL 19 eopT z0,.t (selT z1),VI z2],[])) _ _ (pr e4 (pr e5 e6))
theorem fc_insF(d:Doc)(s:Sel)(l:List Attr)(site:Int)(au:ByteArray)(hc:chkA false l 0=0)(hl:l.length≤1048576)(hb:DocL d)(hx:atE d s au=0→nextE d site=0→ObjB d s (fldN l) site au):FC Tryz.prog 33 [.t (docT d),.t (selT s),VL 2 attrT l,VI site,VS au] (app emp []) (.tup [VL 19 eopT (objO d s (fldN l) site au),.t (selT (objS d s (fldN l) site au)),VI (objE d s (fldN l) site au)]) (app emp []):=by
 refine .go Tryz.f33 ?_
 refine .len 2 (fun hl2=> ?_)
 have hn:(fldN l).grid.merges=[]∧NoTx (fldN l).grid.cells:=⟨rfl,fun x h=>by cases h⟩
 refine .bp [.r [],.r [(1,X (Xc0 (fc_acheck l) X0))],.r []] ((chkA false l 0) !=0) (fun h2=> ?_) (fun h2=> ?_)
 ·
  exfalso
  omega
 ·
  have e1:((objO d s (fldN l) site au):List EOp)=(objO d s ({id:=0,kind:=5,attrs:=l,flow:=[],grid:=({rows:=0,cols:=0,cells:=[],merges:=[]}:Grid),draw:=[]}:Node) site au):=by
   rfl
  have e2:((objS d s (fldN l) site au):Sel)=((objS d s ({id:=0,kind:=5,attrs:=l,flow:=[],grid:=({rows:=0,cols:=0,cells:=[],merges:=[]}:Grid),draw:=[]}:Node) site au)):=by
   rfl
  have e3:((objE d s (fldN l) site au):Int)=(objE d s ({id:=0,kind:=5,attrs:=l,flow:=[],grid:=({rows:=0,cols:=0,cells:=[],merges:=[]}:Grid),draw:=[]}:Node) site au):=by
   rfl
  exact .finVE [.r [(3,X (Xan attrT 104 l)),(4,X (Xf [(3,3),(6,5),(7,4),(8,8)])),(7,X (Xc1 136 (fc_object d s ({id:=0,kind:=5,attrs:=l,flow:=[],grid:=({rows:=0,cols:=0,cells:=[],merges:=[]}:Grid),draw:=[]}:Node) site au (by assumption) (by assumption) (by assumption)) (rowC attrT l X0)))]] [] [] (fun((z0,z1,z2):(List EOp)×Sel×Int)=>(.tup [VL 19 eopT z0,.t (selT z1),VI z2],[])) _ _ (pr e1 (pr e2 e3))
end Go.Ch
end
section
set_option linter.unusedVariables false
set_option linter.unusedSimpArgs false
set_option maxRecDepth 100000
set_option maxHeartbeats 4000000
open Go Go.Proofs Go.Ab
namespace Go.Ch
theorem fc_table(d:Doc)(k:Int)(hb:DocL d):FC Tryz.prog 70 [.t (docT d),VI k] (app emp []) (.tup [.t (nodeT (tabN d k)),VI (tabE d k)]) (app emp []):=by
 refine .go Tryz.f70 ?_
 have hdb:=hb.toDocB
 have hl:=hb.len
 refine .bp [.r [],.r [(1,X (Xc0 (fc_docCk d (by assumption)) X0))],.r []] ((docE d) !=0) (fun h2=> ?_) (fun h2=> ?_)
 ·
  have T:=tab_1 (k:=k) h2
  have e1:((tabN d k):Node)=({id:=0,kind:=0,attrs:=[],flow:=[],grid:=({rows:=0,cols:=0,cells:=[],merges:=[]}:Grid),draw:=[]}:Node):=by
   exact T.1
  have e2:((tabE d k):Int)=(docE d):=by
   exact T.2
  exact .finVE [.r [(0,X (Xf [(2,2),(3,3),(6,5),(7,4),(8,8)]))]] [] [] (fun((z0,z1):Node×Int)=>(.tup [.t (nodeT z0),VI z1],[])) _ _ (pr e1 e2)
 ·
  have hs:=sort_doc (d:=d) (by omega)
  refine .bp [.r [(2,X (Xc0 (fc_index d k (by assumption) (by assumption)) X0))],.r []] (decide ((ixN (d).nodes k)< 0)) (fun h5=> ?_) (fun h5=> ?_)
  ·
   have T:=tab_2 (by omega) (ixN_lt.1 h5)
   have e3:((tabN d k):Node)=({id:=0,kind:=0,attrs:=[],flow:=[],grid:=({rows:=0,cols:=0,cells:=[],merges:=[]}:Grid),draw:=[]}:Node):=by
    exact T.1
   have e4:((tabE d k):Int)=7:=by
    exact T.2
   exact .finVE [.r [(0,X (Xf [(2,2),(3,3),(6,5),(7,4),(8,8)]))]] [] [] (fun((z0,z1):Node×Int)=>(.tup [.t (nodeT z0),VI z1],[])) _ _ (pr e3 e4)
  ·
   have hh:=ixN_ge.1 h5
   have hlt:=(hasN_iff.1 hh).1
   refine .bp [.le (.eq 7 (VI (ixN (d).nodes k)) (VI (lobN d.nodes k:Int)) (.of_eq (by rw[ixN_has hh]))),.r [(3,X (Xi nodeT d.nodes (lobN d.nodes k:Int))),(6,X (Xc0 (fc_Grids (((d.nodes.getD (lobN d.nodes k) default)).kind)) X0))]] (!(hasG (((d.nodes.getD (lobN d.nodes k) default)).kind))) (fun h7=> ?_) (fun h7=> ?_)
   ·
    have T:=tab_3 (by omega) hh h7
    have e5:((tabN d k):Node)=({id:=0,kind:=0,attrs:=[],flow:=[],grid:=({rows:=0,cols:=0,cells:=[],merges:=[]}:Grid),draw:=[]}:Node):=by
     exact T.1
    have e6:((tabE d k):Int)=8:=by
     exact T.2
    exact .finVE [.r [(0,X (Xf [(2,2),(3,3),(6,5),(7,4),(8,8)]))]] [] [] (fun((z0,z1):Node×Int)=>(.tup [.t (nodeT z0),VI z1],[])) _ _ (pr e5 e6)
   ·
    have T:=tab_4 (by omega) hh h7
    have e7:((tabN d k):Node)=((d.nodes.getD (lobN d.nodes k) default)):=by
     exact T.1
    have e8:((tabE d k):Int)=0:=by
     exact T.2
    exact .finVE [.r [(3,X (Xi nodeT d.nodes (lobN d.nodes k:Int)))]] [] [] (fun((z0,z1):Node×Int)=>(.tup [.t (nodeT z0),VI z1],[])) _ _ (pr e7 e8)
theorem fc_sh1(l:List AxStep)(k n:Int)(hl:l.length≤1000):FC Tryz.prog 121 [VI k,VI n,.ptr 0 0] (app emp [(0,.box [.row 1 l.length]),(1,OR 2 stepT l)]) (.tup []) (app emp [(0,.box [.row 1 ((l++addS k n).length)]),(1,OR 2 stepT (l++addS k n))]):=by
 refine .go Tryz.f121 ?_
 refine .bp [.r []] (decide (n>0)) (fun h0=> ?_) (fun h0=> ?_)
 ·
  have e1:((l++addS k n).length:Nat)=(l++[({kind:=k,n:=n}:AxStep)]).length:=by
   unfold addS;rw[if_pos (by omega)]
  have e2:((l++addS k n):List AxStep)=(l++[({kind:=k,n:=n}:AxStep)]):=by
   unfold addS;rw[if_pos (by omega)]
  exact .finE [.r [(5,X (rowC stepT [({kind:=k,n:=n}:AxStep)] (Xap 2 stepT 1 l [({kind:=k,n:=n}:AxStep)])))]] [(0,0),(1,1)] (fun((z0,z1):Nat×(List AxStep))=>(.tup [],[(0,.box [.row 1 z0]),(1,OR 2 stepT z1)])) _ _ (pr e1 e2)
 ·
  have e3:((l++addS k n).length:Nat)=l.length:=by
   unfold addS;rw[if_neg (by omega),List.append_nil]
  have e4:((l++addS k n):List AxStep)=l:=by
   unfold addS;rw[if_neg (by omega),List.append_nil]
  exact .finE [] [(0,0),(1,1)] (fun((z0,z1):Nat×(List AxStep))=>(.tup [],[(0,.box [.row 1 z0]),(1,OR 2 stepT z1)])) _ _ (pr e3 e4)
theorem fc_shift(m a n:Int)(hm:0≤m∧m≤2147483647)(ha: -1000000≤a∧a≤2147483647)(hn: -1000000≤n∧n≤2147483647):FC Tryz.prog 71 [VI m,VI a,VI n] (app emp []) (.tup [VL 2 stepT (shfL m a n),VI (shfE m a n)]) (app emp []):=by
 refine .go Tryz.f71 ?_
 have w1:=addS_len 0 a
 have w2:=addS_len 1 n
 have w3:=addS_len 2 (0-n)
 refine .bp [.r [],.r [(4,Xv 1 (!(decide (n< (-2147483647)))) X0),(5,X (Xk' (decide (n< (-2147483647))))),(8,Xv 1 (!(decide (n< (-2147483647))|| (n==0))) X0),(9,X (Xk' (decide (n< (-2147483647))|| (n==0)))),(13,Xv 2 (!((decide (n< (-2147483647))|| (n==0))||decide (a<0))) X0),(14,X (Xk' ((decide (n< (-2147483647))|| (n==0))||decide (a<0)))),(17,Xv 1 (!(((decide (n< (-2147483647))|| (n==0))||decide (a<0))||decide (a>m))) X0),(18,Xv 1 (!(((decide (n< (-2147483647))|| (n==0))||decide (a<0))||decide (a>m))) X0),(20,Xv 1 ((!(((decide (n< (-2147483647))|| (n==0))||decide (a<0))||decide (a>m)))&&(decide (n<0))) (Xn (0-n))),(23,Xv 2 ((!(((decide (n< (-2147483647))|| (n==0))||decide (a<0))||decide (a>m)))&&(decide (n<0))) (Xn (m-a))),(24,Xv 2 ((!(((decide (n< (-2147483647))|| (n==0))||decide (a<0))||decide (a>m)))&&(decide (n<0))) X0),(25,Xka (!(((decide (n< (-2147483647))|| (n==0))||decide (a<0))||decide (a>m))) (decide (n<0))),(26,X (Xk' (((decide (n< (-2147483647))|| (n==0))||decide (a<0))||decide (a>m))))]] ((((decide (n< (-2147483647))|| (n==0))||decide (a<0))||decide (a>m))|| (decide (n<0)&&decide ((0-n)>(m-a)))) (fun h1=> ?_) (fun h1=> ?_)
 ·
  have T:=shf_1 (m:=m) (a:=a) (n:=n) (by omega)
  have e1:((shfL m a n):List AxStep)=[]:=by
   exact T.1
  have e2:((shfE m a n):Int)=2:=by
   exact T.2
  exact .finE [.r [],.le (.nL 6 2)] [] (fun((z0,z1):(List AxStep)×Int)=>(.tup [VL 2 stepT z0,VI z1],[])) _ _ (pr e1 e2)
 ·
  refine .bp [.r []] (decide (n>1000)) (fun h3=> ?_) (fun h3=> ?_)
  ·
   have T:=shf_2 (m:=m) (a:=a) (n:=n) (by omega) h3
   have e3:((shfL m a n):List AxStep)=[]:=by
    exact T.1
   have e4:((shfE m a n):Int)=3:=by
    exact T.2
   exact .finE [.r [],.le (.nL 6 2)] [] (fun((z0,z1):(List AxStep)×Int)=>(.tup [VL 2 stepT z0,VI z1],[])) _ _ (pr e3 e4)
  ·
   have T:=shf_3 (m:=m) (a:=a) (n:=n) (by omega) h3
   have e5:((shfL m a n):List AxStep)=(((([]++addS 0 a)++addS 1 n)++addS 2 (0-n))++addS 0 ((m-a)- (max 0 (0-n)))):=by
    exact T.1
   have e6:((shfE m a n):Int)=(checkX (((([]++addS 0 a)++addS 1 n)++addS 2 (0-n))++addS 0 ((m-a)- (max 0 (0-n))))):=by
    exact T.2
   exact .finE [.r [],.r [],.le (.nB 248 0 2),.r [(2,X (Xc3 289 [(0,248),(1,272)] (fc_sh1 [] 0 a (by first|omega| (simp only[List.length_append,List.length_nil];omega))) X0))],.r [(2,X (Xc3 313 [(0,248),(1,272)] (fc_sh1 ([]++addS 0 a) 1 n (by first|omega| (simp only[List.length_append,List.length_nil];omega))) X0))],.r [(2,X (Xn (0-n))),(3,X (Xc3 345 [(0,248),(1,272)] (fc_sh1 (([]++addS 0 a)++addS 1 n) 2 (0-n) (by first|omega| (simp only[List.length_append,List.length_nil];omega))) X0))],.r [(3,X (Xn (m-a))),(5,X (Xn (0-n))),(6,X (Xmax 0 (0-n))),(7,X (Xn ((m-a)- (max 0 (0-n))))),(8,X (Xc3 417 [(0,248),(1,272)] (fc_sh1 ((([]++addS 0 a)++addS 1 n)++addS 2 (0-n)) 0 ((m-a)- (max 0 (0-n))) (by first|omega| (simp only[List.length_append,List.length_nil];omega))) X0))],.r [(2,X (Xc0 (fc_axCheck (((([]++addS 0 a)++addS 1 n)++addS 2 (0-n))++addS 0 ((m-a)- (max 0 (0-n))))) (rowC stepT (((([]++addS 0 a)++addS 1 n)++addS 2 (0-n))++addS 0 ((m-a)- (max 0 (0-n)))) X0)))],.le (.fr 6 [(((((([]++addS 0 a)++addS 1 n)++addS 2 (0-n))++addS 0 ((m-a)- (max 0 (0-n)))).length):Nat)=(List.map stepT (((([]++addS 0 a)++addS 1 n)++addS 2 (0-n))++addS 0 ((m-a)- (max 0 (0-n))))).length] ⟨lm,trivial⟩)] [] (fun((z0,z1):(List AxStep)×Int)=>(.tup [VL 2 stepT z0,VI z1],[])) _ _ (pr e5 e6)
theorem fc_Rows(d:Doc)(k a n:Int)(hb:DocL d)(ha: -1000000≤a∧a≤2147483647)(hn: -1000000≤n∧n≤2147483647):FC Tryz.prog 34 [.t (docT d),VI k,VI a,VI n] (app emp []) (.tup [VL 19 eopT (rshO d k a n),VI (rshE d k a n)]) (app emp []):=by
 refine .go Tryz.f34 ?_
 refine .bp [.r [],.r [(2,X (Xc1 40 (fc_table d k (by assumption)) X0))],.r []] ((tabE d k) !=0) (fun h2=> ?_) (fun h2=> ?_)
 ·
  have T:=rsh_1 (a:=a) (n:=n) h2
  have e1:((rshO d k a n):List EOp)=[]:=by
   exact T.1
  have e2:((rshE d k a n):Int)=(tabE d k):=by
   exact T.2
  exact .finE [.r [],.le (.nL 8 19)] [] (fun((z0,z1):(List EOp)×Int)=>(.tup [VL 19 eopT z0,VI z1],[])) _ _ (pr e1 e2)
 ·
  have hg:=tab_grid h2
  refine .bp [.r [(5,X (Xc1 152 (fc_shift ((((tabN d k)).grid).rows) a n (by omega) (by omega) (by omega)) X0))],.r []] ((shfE ((((tabN d k)).grid).rows) a n) !=0) (fun h5=> ?_) (fun h5=> ?_)
  ·
   have T:=rsh_2 h2 h5
   have e3:((rshO d k a n):List EOp)=[]:=by
    exact T.1
   have e4:((rshE d k a n):Int)=(shfE ((((tabN d k)).grid).rows) a n):=by
    exact T.2
   exact .finE [.r [],.le (.nL 8 19)] [] (fun((z0,z1):(List EOp)×Int)=>(.tup [VL 19 eopT z0,VI z1],[])) _ _ (pr e3 e4)
  ·
   have T:=rsh_3 h2 h5
   have e5:((rshO d k a n):List EOp)=[({kind:=3,node:=k,nw:=({id:=0,kind:=0,attrs:=[],flow:=[],grid:=({rows:=0,cols:=0,cells:=[],merges:=[]}:Grid),draw:=[]}:Node),attrs:=[],steps:=[],grid:=({rows:=(shfL ((((tabN d k)).grid).rows) a n),cols:=[],cells:=[],split:=[],merge:=[]}:GEd),draw:=[]}:EOp)]:=by
    exact T.1
   have e6:((rshE d k a n):Int)=0:=by
    exact T.2
   exact .finE [.r [(2,X (Xf [(1,2),(2,5),(3,4),(4,4)])),(3,X (Xf [(4,2),(5,3),(8,5),(9,4),(10,8),(11,2),(12,4),(18,8)]))],.le (.fr 8 [(1:Nat)=(List.map eopT [({kind:=3,node:=k,nw:=({id:=0,kind:=0,attrs:=[],flow:=[],grid:=({rows:=0,cols:=0,cells:=[],merges:=[]}:Grid),draw:=[]}:Node),attrs:=[],steps:=[],grid:=({rows:=(shfL ((((tabN d k)).grid).rows) a n),cols:=[],cells:=[],split:=[],merge:=[]}:GEd),draw:=[]}:EOp)]).length] ⟨lm,trivial⟩)] [] (fun((z0,z1):(List EOp)×Int)=>(.tup [VL 19 eopT z0,VI z1],[])) _ _ (pr e5 e6)
theorem fc_Columns(d:Doc)(k a n:Int)(hb:DocL d)(ha: -1000000≤a∧a≤2147483647)(hn: -1000000≤n∧n≤2147483647):FC Tryz.prog 35 [.t (docT d),VI k,VI a,VI n] (app emp []) (.tup [VL 19 eopT (cshO d k a n),VI (cshE d k a n)]) (app emp []):=by
 refine .go Tryz.f35 ?_
 refine .bp [.r [],.r [(2,X (Xc1 40 (fc_table d k (by assumption)) X0))],.r []] ((tabE d k) !=0) (fun h2=> ?_) (fun h2=> ?_)
 ·
  have T:=csh_1 (a:=a) (n:=n) h2
  have e1:((cshO d k a n):List EOp)=[]:=by
   exact T.1
  have e2:((cshE d k a n):Int)=(tabE d k):=by
   exact T.2
  exact .finE [.r [],.le (.nL 8 19)] [] (fun((z0,z1):(List EOp)×Int)=>(.tup [VL 19 eopT z0,VI z1],[])) _ _ (pr e1 e2)
 ·
  have hg:=tab_grid h2
  refine .bp [.r [(5,X (Xc1 152 (fc_shift ((((tabN d k)).grid).cols) a n (by omega) (by omega) (by omega)) X0))],.r []] ((shfE ((((tabN d k)).grid).cols) a n) !=0) (fun h5=> ?_) (fun h5=> ?_)
  ·
   have T:=csh_2 h2 h5
   have e3:((cshO d k a n):List EOp)=[]:=by
    exact T.1
   have e4:((cshE d k a n):Int)=(shfE ((((tabN d k)).grid).cols) a n):=by
    exact T.2
   exact .finE [.r [],.le (.nL 8 19)] [] (fun((z0,z1):(List EOp)×Int)=>(.tup [VL 19 eopT z0,VI z1],[])) _ _ (pr e3 e4)
  ·
   have T:=csh_3 h2 h5
   have e5:((cshO d k a n):List EOp)=[({kind:=3,node:=k,nw:=({id:=0,kind:=0,attrs:=[],flow:=[],grid:=({rows:=0,cols:=0,cells:=[],merges:=[]}:Grid),draw:=[]}:Node),attrs:=[],steps:=[],grid:=({rows:=[],cols:=(shfL ((((tabN d k)).grid).cols) a n),cells:=[],split:=[],merge:=[]}:GEd),draw:=[]}:EOp)]:=by
    exact T.1
   have e6:((cshE d k a n):Int)=0:=by
    exact T.2
   exact .finE [.r [(2,X (Xf [(0,2),(2,5),(3,4),(4,4)])),(3,X (Xf [(4,2),(5,3),(8,5),(9,4),(10,8),(11,2),(12,4),(18,8)]))],.le (.fr 8 [(1:Nat)=(List.map eopT [({kind:=3,node:=k,nw:=({id:=0,kind:=0,attrs:=[],flow:=[],grid:=({rows:=0,cols:=0,cells:=[],merges:=[]}:Grid),draw:=[]}:Node),attrs:=[],steps:=[],grid:=({rows:=[],cols:=(shfL ((((tabN d k)).grid).cols) a n),cells:=[],split:=[],merge:=[]}:GEd),draw:=[]}:EOp)]).length] ⟨lm,trivial⟩)] [] (fun((z0,z1):(List EOp)×Int)=>(.tup [VL 19 eopT z0,VI z1],[])) _ _ (pr e5 e6)
theorem fc_Cell(d:Doc)(k r c site:Int)(hb:DocL d):FC Tryz.prog 36 [.t (docT d),VI k,VI r,VI c,VI site] (app emp []) (.tup [VL 19 eopT (celO d k r c site),VI (celR d k r c site),VI (celE d k r c site)]) (app emp []):=by
 refine .go Tryz.f36 ?_
 have htl:=tabN_len hb k
 refine .bp [.r [],.r [(2,X (Xc1 48 (fc_table d k (by assumption)) X0))],.r []] ((tabE d k) !=0) (fun h2=> ?_) (fun h2=> ?_)
 ·
  have T:=cel_1 (r:=r) (c:=c) (site:=site) h2
  have e1:((celO d k r c site):List EOp)=[]:=by
   exact T.1
  have e2:((celR d k r c site):Int)=0:=by
   exact T.2.1
  have e3:((celE d k r c site):Int)=(tabE d k):=by
   exact T.2.2
  exact .finE [.r [],.le (.nL 10 19)] [] (fun((z0,z1,z2):(List EOp)×Int×Int)=>(.tup [VL 19 eopT z0,VI z1,VI z2],[])) _ _ (pr e1 (pr e2 e3))
 ·
  refine .bp [.r []] ((((tabN d k)).kind) !=2) (fun h4=> ?_) (fun h4=> ?_)
  ·
   have T:=cel_2 (r:=r) (c:=c) (site:=site) h2 h4
   have e4:((celO d k r c site):List EOp)=[]:=by
    exact T.1
   have e5:((celR d k r c site):Int)=0:=by
    exact T.2.1
   have e6:((celE d k r c site):Int)=8:=by
    exact T.2.2
   exact .finE [.r [],.le (.nL 10 19)] [] (fun((z0,z1,z2):(List EOp)×Int×Int)=>(.tup [VL 19 eopT z0,VI z1,VI z2],[])) _ _ (pr e4 (pr e5 e6))
  ·
   refine .bp [.r [(5,Xv 1 (!(decide (r<0))) X0),(6,Xv 1 (!(decide (r<0))) X0),(7,Xv 2 (!(decide (r<0))) X0),(8,X (Xk' (decide (r<0)))),(11,Xv 1 (!(decide (r<0)||decide (r≥((((tabN d k)).grid).rows)))) X0),(12,X (Xk' (decide (r<0)||decide (r≥((((tabN d k)).grid).rows))))),(16,Xv 1 (!((decide (r<0)||decide (r≥((((tabN d k)).grid).rows)))||decide (c<0))) X0),(17,Xv 1 (!((decide (r<0)||decide (r≥((((tabN d k)).grid).rows)))||decide (c<0))) X0),(18,Xv 2 (!((decide (r<0)||decide (r≥((((tabN d k)).grid).rows)))||decide (c<0))) X0),(19,X (Xk' ((decide (r<0)||decide (r≥((((tabN d k)).grid).rows)))||decide (c<0))))]] (((decide (r<0)||decide (r≥((((tabN d k)).grid).rows)))||decide (c<0))||decide (c≥((((tabN d k)).grid).cols))) (fun h6=> ?_) (fun h6=> ?_)
   ·
    have T:=cel_3 (site:=site) h2 h4 h6
    have e7:((celO d k r c site):List EOp)=[]:=by
     exact T.1
    have e8:((celR d k r c site):Int)=0:=by
     exact T.2.1
    have e9:((celE d k r c site):Int)=2:=by
     exact T.2.2
    exact .finE [.r [],.le (.nL 10 19)] [] (fun((z0,z1,z2):(List EOp)×Int×Int)=>(.tup [VL 19 eopT z0,VI z1,VI z2],[])) _ _ (pr e7 (pr e8 e9))
   ·
    refine .loop (α:=Nat) [.r [(3,X (Xl cellT ((((tabN d k)).grid).cells)))]] 344 (fun i=>([(1,VI k),(2,VI r),(3,VI c),(4,VI site),(5,.ptr 0 0),(52,VL 5 cellT ((((tabN d k)).grid).cells)),(53,VI (((((tabN d k)).grid).cells).length:Int)),(54,VI (i:Int))],[(0,.box [VL 9 nodeT d.nodes])])) (fun i=>i≤(tabN d k).grid.cells.length∧idxF (fun x:Cell=>x.row==r&&x.col==c) (tabN d k).grid.cells 0=idxF (fun x:Cell=>x.row==r&&x.col==c) (tabN d k).grid.cells i) (fun i=>(tabN d k).grid.cells.length-i) (0:Nat) ?_ ?_
    ·
     exact⟨by omega,rfl⟩
    rintro i I9 ih9
    try dsimp only at I9
    refine .bp [.r []] (decide ((i:Int)< (((((tabN d k)).grid).cells).length:Int))) (fun h9=> ?_) (fun h9=> ?_)
    ·
     refine .bp [.r [(0,X (Xi cellT ((((tabN d k)).grid).cells) (i:Int)))],.r [(6,Xv 1 ((((((((tabN d k)).grid).cells).getD i default)).row)==r) X0),(8,Xv 2 ((((((((tabN d k)).grid).cells).getD i default)).row)==r) X0),(9,X (Xk ((((((((tabN d k)).grid).cells).getD i default)).row)==r)))]] (((((((((tabN d k)).grid).cells).getD i default)).row)==r)&&((((((((tabN d k)).grid).cells).getD i default)).col)==c)) (fun h11=> ?_) (fun h11=> ?_)
     ·
      have T:=cel_4 (site:=site) h2 h4 h6 (I9.2.trans (idx_hit (by omega) (by simpa[-List.getD_eq_getElem?_getD] using h11)))
      have e10:((celO d k r c site):List EOp)=[]:=by
       exact T.1
      have e11:((celR d k r c site):Int)=((((((tabN d k)).grid).cells).getD i default)).ref:=by
       exact T.2.1
      have e12:((celE d k r c site):Int)=0:=by
       exact T.2.2
      exact .finE [.r [],.le (.nL 10 19)] [] (fun((z0,z1,z2):(List EOp)×Int×Int)=>(.tup [VL 19 eopT z0,VI z1,VI z2],[])) _ _ (pr e10 (pr e11 e12))
     ·
      refine .back [.r [(0,X (Xn ((i:Int)+1)))]] [(0,0)] (ih9 ((i+1):Nat) ?_ ?_)
      ·
       exact⟨by omega,I9.2.trans (idx_miss (by omega) (by simpa[-List.getD_eq_getElem?_getD,Classical.or_iff_not_imp_left] using h11))⟩
      ·
       ((try dsimp only);omega)
    ·
     have hno:=I9.2.trans (idx_end (by omega))
     refine .bp [.r [(2,X (Xc0 (fc_next d site (by assumption)) X0))],.r []] ((nextE d site) !=0) (fun h15=> ?_) (fun h15=> ?_)
     ·
      have T:=cel_5 h2 h4 h6 hno h15
      have e13:((celO d k r c site):List EOp)=[]:=by
       exact T.1
      have e14:((celR d k r c site):Int)=0:=by
       exact T.2.1
      have e15:((celE d k r c site):Int)=(nextE d site):=by
       exact T.2.2
      exact .finE [.r [],.le (.nL 10 19)] [] (fun((z0,z1,z2):(List EOp)×Int×Int)=>(.tup [VL 19 eopT z0,VI z1,VI z2],[])) _ _ (pr e13 (pr e14 e15))
     ·
      have T:=cel_6 h2 h4 h6 hno h15
      have e16:((celO d k r c site):List EOp)=[({kind:=0,node:=0,nw:=({id:=(nextN d site),kind:=3,attrs:=[],flow:=[({char:=10,ref:=0,attrs:=[]}:Elem)],grid:=({rows:=0,cols:=0,cells:=[],merges:=[]}:Grid),draw:=[]}:Node),attrs:=[],steps:=[],grid:=({rows:=[],cols:=[],cells:=[],split:=[],merge:=[]}:GEd),draw:=[]}:EOp),({kind:=3,node:=k,nw:=({id:=0,kind:=0,attrs:=[],flow:=[],grid:=({rows:=0,cols:=0,cells:=[],merges:=[]}:Grid),draw:=[]}:Node),attrs:=[],steps:=[],grid:=({rows:=[],cols:=[],cells:=[({row:=r,col:=c,text:={data:=#[]},ref:=(nextN d site),attrs:=[]}:Cell)],split:=[],merge:=[]}:GEd),draw:=[]}:EOp)]:=by
       exact T.1
      have e17:((celR d k r c site):Int)=(nextN d site):=by
       exact T.2.1
      have e18:((celE d k r c site):Int)=0:=by
       exact T.2.2
      exact .finE [.r [(1,X (Xf [(2,2)])),(3,X (Xf [(2,2),(6,5),(7,4),(8,8)])),(4,X (Xf [(11,2),(12,4),(13,2),(14,2),(15,5),(16,4),(17,4),(18,8)])),(9,X (Xf [(4,2)])),(11,X (Xf [(0,2),(1,2),(3,4),(4,4)])),(12,X (Xf [(4,2),(5,3),(8,5),(9,4),(10,8),(11,2),(12,4),(18,8)])),(13,X (rowC elemT [({char:=10,ref:=0,attrs:=[]}:Elem)] (rowC cellT [({row:=r,col:=c,text:={data:=#[]},ref:=(nextN d site),attrs:=[]}:Cell)] X0)))],.le (.fr 10 [(2:Nat)=(List.map eopT [({kind:=0,node:=0,nw:=({id:=(nextN d site),kind:=3,attrs:=[],flow:=[({char:=10,ref:=0,attrs:=[]}:Elem)],grid:=({rows:=0,cols:=0,cells:=[],merges:=[]}:Grid),draw:=[]}:Node),attrs:=[],steps:=[],grid:=({rows:=[],cols:=[],cells:=[],split:=[],merge:=[]}:GEd),draw:=[]}:EOp),({kind:=3,node:=k,nw:=({id:=0,kind:=0,attrs:=[],flow:=[],grid:=({rows:=0,cols:=0,cells:=[],merges:=[]}:Grid),draw:=[]}:Node),attrs:=[],steps:=[],grid:=({rows:=[],cols:=[],cells:=[({row:=r,col:=c,text:={data:=#[]},ref:=(nextN d site),attrs:=[]}:Cell)],split:=[],merge:=[]}:GEd),draw:=[]}:EOp)]).length] ⟨lm,trivial⟩)] [] (fun((z0,z1,z2):(List EOp)×Int×Int)=>(.tup [VL 19 eopT z0,VI z1,VI z2],[])) _ _ (pr e16 (pr e17 e18))
end Go.Ch
end
section
set_option linter.unusedVariables false
set_option linter.unusedSimpArgs false
set_option maxRecDepth 100000
set_option maxHeartbeats 4000000
open Go Go.Proofs Go.Ab
namespace Go.Ch
theorem fc_fmtC(p:Pl)(s:Sel)(k:Int)(hb:PlB p):FC Tryz.prog 65 [VI k,.ptr 1 0,.ptr 0 0] (app emp [(0,.box [VI p.node.id,VI p.node.kind,VL 2 attrT p.node.attrs,VL 3 elemT p.node.flow,VI p.node.grid.rows,VI p.node.grid.cols,VL 5 cellT p.node.grid.cells,VL 4 rectT p.node.grid.merges,VL 8 dopT p.node.draw,VL 1 intT p.shown,VS p.author]),(1,.box [VI s.nd,VI s.fr,VI s.tq])]) (VB (fmtW p s k)) (app emp [(0,.box [VI p.node.id,VI p.node.kind,VL 2 attrT p.node.attrs,VL 3 elemT p.node.flow,VI p.node.grid.rows,VI p.node.grid.cols,VL 5 cellT p.node.grid.cells,VL 4 rectT p.node.grid.merges,VL 8 dopT p.node.draw,VL 1 intT p.shown,VS p.author]),(1,.box [VI s.nd,VI s.fr,VI s.tq])]):=by
 refine .go Tryz.f65 ?_
 have e1:((fmtW p s k):Bool)=((decide (k≥s.fr)&&decide (k<s.tq))&&((((elemP p k)).char) !=10)):=by
  rfl
 exact .finE [.r [],.r [(7,Xv 1 (decide (k≥s.fr)) X0),(8,Xv 2 (decide (k≥s.fr)) X0),(9,X (Xk (decide (k≥s.fr)))),(12,Xv 1 (decide (k≥s.fr)&&decide (k<s.tq)) (Xc4 [(0,0)] (fc_pelem p k (by assumption)) X0)),(13,Xv 1 (decide (k≥s.fr)&&decide (k<s.tq)) X0),(14,Xv 1 (decide (k≥s.fr)&&decide (k<s.tq)) X0),(15,X (Xk (decide (k≥s.fr)&&decide (k<s.tq))))]] [(0,0),(1,1)] (fun z0:Bool=>(VB z0,[(0,.box [VI p.node.id,VI p.node.kind,VL 2 attrT p.node.attrs,VL 3 elemT p.node.flow,VI p.node.grid.rows,VI p.node.grid.cols,VL 5 cellT p.node.grid.cells,VL 4 rectT p.node.grid.merges,VL 8 dopT p.node.draw,VL 1 intT p.shown,VS p.author]),(1,.box [VI s.nd,VI s.fr,VI s.tq])])) _ _ e1
theorem fc_rst_fmt(p:Pl)(s:Sel)(c:List Attr)(hb:PlB p)(hc:c.length≤1048576):FC Tryz.prog 64 [.ptr 0 0,VL 2 attrT c,.fn 65 [.ptr 1 0,.ptr 0 0]] (app emp [(0,.box [VI p.node.id,VI p.node.kind,VL 2 attrT p.node.attrs,VL 3 elemT p.node.flow,VI p.node.grid.rows,VI p.node.grid.cols,VL 5 cellT p.node.grid.cells,VL 4 rectT p.node.grid.merges,VL 8 dopT p.node.draw,VL 1 intT p.shown,VS p.author]),(1,.box [VI s.nd,VI s.fr,VI s.tq])]) (VL 19 eopT [opF p.node.id (rstD c (rstF (fmtW p s) p.shown p.node.flow.length p.shown.length) p.node.flow.length)]) (app emp [(0,.box [VI p.node.id,VI p.node.kind,VL 2 attrT p.node.attrs,VL 3 elemT p.node.flow,VI p.node.grid.rows,VI p.node.grid.cols,VL 5 cellT p.node.grid.cells,VL 4 rectT p.node.grid.merges,VL 8 dopT p.node.draw,VL 1 intT p.shown,VS p.author]),(1,.box [VI s.nd,VI s.fr,VI s.tq])]):=by
 refine .go Tryz.f64 ?_
 refine .len 1 (fun hl1=> ?_)
 obtain⟨dn,el⟩:=rstS_dn c (rstF (fmtW p s) p.shown p.node.flow.length p.shown.length) p.node.flow.length hc
 have hbl:=hb.len
 have hbs:=hb.sl
 refine .loop (α:=Nat×(List Bool)) [.r [],.r [(5,X (Xl elemT p.node.flow)),(6,X (Xmk 1 boolT 58 (p.node.flow.length:Int) (p.node.flow.length:Int) false))],.r [(4,X (Xl intT p.shown))]] 122 (fun(k,f)=>([(0,.ptr 0 0),(1,VL 2 attrT c),(2,.fn 65 [.ptr 1 0,.ptr 0 0]),(7,.row 58 p.node.flow.length),(25,VL 1 intT p.shown),(26,VI (p.shown.length:Int)),(27,VI (k:Int))],[(0,.box [VI p.node.id,VI p.node.kind,VL 2 attrT p.node.attrs,VL 3 elemT p.node.flow,VI p.node.grid.rows,VI p.node.grid.cols,VL 5 cellT p.node.grid.cells,VL 4 rectT p.node.grid.merges,VL 8 dopT p.node.draw,VL 1 intT p.shown,VS p.author]),(1,.box [VI s.nd,VI s.fr,VI s.tq]),(58,OR 1 boolT f)])) (fun(k,f)=>k≤p.shown.length∧f=rstF (fmtW p s) p.shown p.node.flow.length k) (fun(k,f)=>p.shown.length-k) (0,(List.replicate p.node.flow.length false)) ?_ ?_
 ·
  exact⟨by omega,rfl⟩
 rintro⟨k,f⟩ I3 ih3
 try dsimp only at I3
 have fl:f.length=p.node.flow.length:=by rw[I3.2,rstF_len]
 refine .bp [.r []] (decide ((k:Int)< (p.shown.length:Int))) (fun h3=> ?_) (fun h3=> ?_)
 ·
  have hpk:=hb.ok _ (getDX_mem (l:=p.shown) (i:=k) (by omega))
  refine .back [.r [(1,X (Xi intT p.shown (k:Int)))],.r [(4,X (Xc4 [(0,0),(1,1)] (fc_fmtC p s (k:Int) (by assumption)) X0)),(5,X (Xpn p.node.flow.length boolT f (p.shown.getD k default))),(6,X (Xsn p.node.flow.length 1 boolT 58 f (Int.toNat (p.shown.getD k default)) (fmtW p s (k:Int))))],.r [(0,X (Xn ((k:Int)+1)))]] [(0,0),(1,1),(58,58)] (ih3 ((k+1),(f.set (Int.toNat (p.shown.getD k default)) (fmtW p s (k:Int)))) ?_ ?_)
  ·
   exact⟨by omega,by rw[I3.2,rstF_succ]⟩
  ·
   ((try dsimp only);omega)
 ·
  have hf2:f=(rstF (fmtW p s) p.shown p.node.flow.length p.shown.length):=by rw[I3.2,show k=p.shown.length by omega]
  refine .loop (α:=Nat×(List DStep)) [.r [],.r [(5,X (Xl elemT p.node.flow))],.le (.nR 10 4)] 195 (fun(i,o)=>([(0,.ptr 0 0),(1,VL 2 attrT c),(7,.row 58 p.node.flow.length),(10,.row 194 o.length),(44,VI (p.node.flow.length:Int)),(45,VI (i:Int))],[(0,.box [VI p.node.id,VI p.node.kind,VL 2 attrT p.node.attrs,VL 3 elemT p.node.flow,VI p.node.grid.rows,VI p.node.grid.cols,VL 5 cellT p.node.grid.cells,VL 4 rectT p.node.grid.merges,VL 8 dopT p.node.draw,VL 1 intT p.shown,VS p.author]),(1,.box [VI s.nd,VI s.fr,VI s.tq]),(58,OR 1 boolT f),(194,OR 4 dstepT o)])) (fun(i,o)=>i≤p.node.flow.length∧o=rstS c f i) (fun(i,o)=>p.node.flow.length-i) (0,[]) ?_ ?_
  ·
   exact⟨by omega,rfl⟩
  rintro⟨i,o⟩ I9 ih9
  try dsimp only at I9
  have ol2:o.length=i:=by rw[I9.2];exact rstS_len c f i
  refine .bp [.r []] (decide ((i:Int)< (p.node.flow.length:Int))) (fun h9=> ?_) (fun h9=> ?_)
  ·
   refine .bp [.r [],.r [(0,X (Xf [(2,2),(3,3)]))],.r [(2,X (Xpn p.node.flow.length boolT f (i:Int))),(3,X (Xen p.node.flow.length boolT f i))]] (f.getD i default) (fun h12=> ?_) (fun h12=> ?_)
   ·
    refine .back [.r [],.r [(3,X (rowC dstepT [({kind:=0,n:=1,attrs:=c,elems:=[]}:DStep)] (Xap 4 dstepT 194 o [({kind:=0,n:=1,attrs:=c,elems:=[]}:DStep)])))],.r [(0,X (Xn ((i:Int)+1)))]] [(0,0),(1,1),(58,58),(194,194)] (ih9 ((i+1),(o++[({kind:=0,n:=1,attrs:=c,elems:=[]}:DStep)])) ?_ ?_)
    ·
     exact⟨by omega,by rw[I9.2,rstS_succ,rstU_y h12]⟩
    ·
     ((try dsimp only);omega)
   ·
    refine .back [.r [(3,X (rowC dstepT [({kind:=0,n:=1,attrs:=[],elems:=[]}:DStep)] (Xap 4 dstepT 194 o [({kind:=0,n:=1,attrs:=[],elems:=[]}:DStep)])))],.r [(0,X (Xn ((i:Int)+1)))]] [(0,0),(1,1),(58,58),(194,194)] (ih9 ((i+1),(o++[({kind:=0,n:=1,attrs:=[],elems:=[]}:DStep)])) ?_ ?_)
    ·
     exact⟨by omega,by rw[I9.2,rstS_succ,rstU_n h12]⟩
    ·
     ((try dsimp only);omega)
  ·
   have ho:o=rstS c (rstF (fmtW p s) p.shown p.node.flow.length p.shown.length) p.node.flow.length:=by rw[I9.2,show i=p.node.flow.length by omega,hf2]
   rw[←ho] at dn el
   have e1:([opF p.node.id (rstD c (rstF (fmtW p s) p.shown p.node.flow.length p.shown.length) p.node.flow.length)]:List EOp)=[({kind:=2,node:=p.node.id,nw:=({id:=0,kind:=0,attrs:=[],flow:=[],grid:=({rows:=0,cols:=0,cells:=[],merges:=[]}:Grid),draw:=[]}:Node),attrs:=[],steps:=(tidyL o),grid:=({rows:=[],cols:=[],cells:=[],split:=[],merge:=[]}:GEd),draw:=[]}:EOp)]:=by
    rw[ho];rfl
   exact .finE [.r [(1,X (Xc1 211 (fc_dTidy o (by assumption) (by omega) (by omega)) (rowC dstepT o X0)))],.r [(6,X (Xf [(4,2),(5,3),(8,5),(9,4),(10,8),(11,2),(13,2),(14,2),(15,5),(16,4),(17,4),(18,8)]))],.le (.fr 6 [(1:Nat)=(List.map eopT [({kind:=2,node:=p.node.id,nw:=({id:=0,kind:=0,attrs:=[],flow:=[],grid:=({rows:=0,cols:=0,cells:=[],merges:=[]}:Grid),draw:=[]}:Node),attrs:=[],steps:=(tidyL o),grid:=({rows:=[],cols:=[],cells:=[],split:=[],merge:=[]}:GEd),draw:=[]}:EOp)]).length] ⟨lm,trivial⟩)] [(0,0),(1,1)] (fun z0:List EOp=>(VL 19 eopT z0,[(0,.box [VI p.node.id,VI p.node.kind,VL 2 attrT p.node.attrs,VL 3 elemT p.node.flow,VI p.node.grid.rows,VI p.node.grid.cols,VL 5 cellT p.node.grid.cells,VL 4 rectT p.node.grid.merges,VL 8 dopT p.node.draw,VL 1 intT p.shown,VS p.author]),(1,.box [VI s.nd,VI s.fr,VI s.tq])])) _ _ e1
theorem fc_format(d:Doc)(s:Sel)(c:List Attr)(hb:DocL d)(hc:c.length≤1048576)(hx:atE d s {data:=#[]}=0→PlB (atP d s {data:=#[]})):FC Tryz.prog 29 [.t (docT d),.t (selT s),VL 2 attrT c] (app emp []) (.tup [VL 19 eopT (fmtO d s c),VI (fmtE d s c)]) (app emp []):=by
 refine .go Tryz.f29 ?_
 refine .len 2 (fun hl2=> ?_)
 refine .bp [.r [],.r [(2,X (Xc1 48 (fc_at d s ({data:=#[]}) (by assumption)) X0))],.r []] ((atE d s ({data:=#[]})) !=0) (fun h2=> ?_) (fun h2=> ?_)
 ·
  have T:=fmt_1 (c:=c) h2
  have e1:((fmtO d s c):List EOp)=[]:=by
   exact T.1
  have e2:((fmtE d s c):Int)=(atE d s ({data:=#[]})):=by
   exact T.2
  exact .finE [.r [],.le (.nL 6 19)] [] (fun((z0,z1):(List EOp)×Int)=>(.tup [VL 19 eopT z0,VI z1],[])) _ _ (pr e1 e2)
 ·
  refine .bp [.r [(1,X (Xc0 (fc_acheckChange c) X0))],.r []] ((chkA true c 0) !=0) (fun h5=> ?_) (fun h5=> ?_)
  ·
   have T:=fmt_2 h2 h5
   have e3:((fmtO d s c):List EOp)=[]:=by
    exact T.1
   have e4:((fmtE d s c):Int)=(chkA true c 0):=by
    exact T.2
   exact .finE [.r [],.le (.nL 6 19)] [] (fun((z0,z1):(List EOp)×Int)=>(.tup [VL 19 eopT z0,VI z1],[])) _ _ (pr e3 e4)
  ·
   have hp:=hx h2
   have T:=fmt_3 h2 h5
   have e5:((fmtO d s c):List EOp)=[opF (((atP d s ({data:=#[]})))).node.id (rstD c (rstF (fmtW ((atP d s ({data:=#[]}))) s) (((atP d s ({data:=#[]})))).shown (((atP d s ({data:=#[]})))).node.flow.length (((atP d s ({data:=#[]})))).shown.length) (((atP d s ({data:=#[]})))).node.flow.length)]:=by
    exact T.1
   have e6:((fmtE d s c):Int)=0:=by
    exact T.2
   exact .finE [.r [(2,X (Xc4 [(0,80),(1,8)] (fc_rst_fmt ((atP d s ({data:=#[]}))) s c (by assumption) (by omega)) X0))]] [] (fun((z0,z1):(List EOp)×Int)=>(.tup [VL 19 eopT z0,VI z1],[])) _ _ (pr e5 e6)
end Go.Ch
end
section
set_option linter.unusedVariables false
set_option linter.unusedSimpArgs false
set_option maxRecDepth 100000
set_option maxHeartbeats 4000000
open Go Go.Proofs Go.Ab
namespace Go.Ch
theorem fc_parC(p:Pl)(s:Sel)(m:Int)(k:Int)(hb:PlB p):FC Tryz.prog 67 [VI k,.ptr 1 0,.ptr 2 0,.ptr 0 0] (app emp [(0,.box [VI p.node.id,VI p.node.kind,VL 2 attrT p.node.attrs,VL 3 elemT p.node.flow,VI p.node.grid.rows,VI p.node.grid.cols,VL 5 cellT p.node.grid.cells,VL 4 rectT p.node.grid.merges,VL 8 dopT p.node.draw,VL 1 intT p.shown,VS p.author]),(1,.box [VI s.nd,VI s.fr,VI s.tq]),(2,.box [VI m])]) (VB (parW p s m k)) (app emp [(0,.box [VI p.node.id,VI p.node.kind,VL 2 attrT p.node.attrs,VL 3 elemT p.node.flow,VI p.node.grid.rows,VI p.node.grid.cols,VL 5 cellT p.node.grid.cells,VL 4 rectT p.node.grid.merges,VL 8 dopT p.node.draw,VL 1 intT p.shown,VS p.author]),(1,.box [VI s.nd,VI s.fr,VI s.tq]),(2,.box [VI m])]):=by
 refine .go Tryz.f67 ?_
 have e1:((parW p s m k):Bool)=((decide (k≥s.fr)&&decide (k≤m))&&((((elemP p k)).char)==10)):=by
  rfl
 exact .finE [.r [],.r [(7,Xv 2 (decide (k≥s.fr)) X0),(8,X (Xk (decide (k≥s.fr)))),(11,Xv 1 (decide (k≥s.fr)&&decide (k≤m)) (Xc4 [(0,0)] (fc_pelem p k (by assumption)) X0)),(12,Xv 1 (decide (k≥s.fr)&&decide (k≤m)) X0),(13,Xv 1 (decide (k≥s.fr)&&decide (k≤m)) X0),(14,X (Xk (decide (k≥s.fr)&&decide (k≤m))))]] [(0,0),(1,1),(2,2)] (fun z0:Bool=>(VB z0,[(0,.box [VI p.node.id,VI p.node.kind,VL 2 attrT p.node.attrs,VL 3 elemT p.node.flow,VI p.node.grid.rows,VI p.node.grid.cols,VL 5 cellT p.node.grid.cells,VL 4 rectT p.node.grid.merges,VL 8 dopT p.node.draw,VL 1 intT p.shown,VS p.author]),(1,.box [VI s.nd,VI s.fr,VI s.tq]),(2,.box [VI m])])) _ _ e1
theorem fc_rst_par(p:Pl)(s:Sel)(m:Int)(c:List Attr)(hb:PlB p)(hc:c.length≤1048576):FC Tryz.prog 64 [.ptr 0 0,VL 2 attrT c,.fn 67 [.ptr 1 0,.ptr 2 0,.ptr 0 0]] (app emp [(0,.box [VI p.node.id,VI p.node.kind,VL 2 attrT p.node.attrs,VL 3 elemT p.node.flow,VI p.node.grid.rows,VI p.node.grid.cols,VL 5 cellT p.node.grid.cells,VL 4 rectT p.node.grid.merges,VL 8 dopT p.node.draw,VL 1 intT p.shown,VS p.author]),(1,.box [VI s.nd,VI s.fr,VI s.tq]),(2,.box [VI m])]) (VL 19 eopT [opF p.node.id (rstD c (rstF (parW p s m) p.shown p.node.flow.length p.shown.length) p.node.flow.length)]) (app emp [(0,.box [VI p.node.id,VI p.node.kind,VL 2 attrT p.node.attrs,VL 3 elemT p.node.flow,VI p.node.grid.rows,VI p.node.grid.cols,VL 5 cellT p.node.grid.cells,VL 4 rectT p.node.grid.merges,VL 8 dopT p.node.draw,VL 1 intT p.shown,VS p.author]),(1,.box [VI s.nd,VI s.fr,VI s.tq]),(2,.box [VI m])]):=by
 refine .go Tryz.f64 ?_
 refine .len 1 (fun hl1=> ?_)
 obtain⟨dn,el⟩:=rstS_dn c (rstF (parW p s m) p.shown p.node.flow.length p.shown.length) p.node.flow.length hc
 have hbl:=hb.len
 have hbs:=hb.sl
 refine .loop (α:=Nat×(List Bool)) [.r [],.r [(5,X (Xl elemT p.node.flow)),(6,X (Xmk 1 boolT 59 (p.node.flow.length:Int) (p.node.flow.length:Int) false))],.r [(4,X (Xl intT p.shown))]] 123 (fun(k,f)=>([(0,.ptr 0 0),(1,VL 2 attrT c),(2,.fn 67 [.ptr 1 0,.ptr 2 0,.ptr 0 0]),(7,.row 59 p.node.flow.length),(25,VL 1 intT p.shown),(26,VI (p.shown.length:Int)),(27,VI (k:Int))],[(0,.box [VI p.node.id,VI p.node.kind,VL 2 attrT p.node.attrs,VL 3 elemT p.node.flow,VI p.node.grid.rows,VI p.node.grid.cols,VL 5 cellT p.node.grid.cells,VL 4 rectT p.node.grid.merges,VL 8 dopT p.node.draw,VL 1 intT p.shown,VS p.author]),(1,.box [VI s.nd,VI s.fr,VI s.tq]),(2,.box [VI m]),(59,OR 1 boolT f)])) (fun(k,f)=>k≤p.shown.length∧f=rstF (parW p s m) p.shown p.node.flow.length k) (fun(k,f)=>p.shown.length-k) (0,(List.replicate p.node.flow.length false)) ?_ ?_
 ·
  exact⟨by omega,rfl⟩
 rintro⟨k,f⟩ I3 ih3
 try dsimp only at I3
 have fl:f.length=p.node.flow.length:=by rw[I3.2,rstF_len]
 refine .bp [.r []] (decide ((k:Int)< (p.shown.length:Int))) (fun h3=> ?_) (fun h3=> ?_)
 ·
  have hpk:=hb.ok _ (getDX_mem (l:=p.shown) (i:=k) (by omega))
  refine .back [.r [(1,X (Xi intT p.shown (k:Int)))],.r [(4,X (Xc4 [(0,0),(1,1),(2,2)] (fc_parC p s m (k:Int) (by assumption)) X0)),(5,X (Xpn p.node.flow.length boolT f (p.shown.getD k default))),(6,X (Xsn p.node.flow.length 1 boolT 59 f (Int.toNat (p.shown.getD k default)) (parW p s m (k:Int))))],.r [(0,X (Xn ((k:Int)+1)))]] [(0,0),(1,1),(2,2),(59,59)] (ih3 ((k+1),(f.set (Int.toNat (p.shown.getD k default)) (parW p s m (k:Int)))) ?_ ?_)
  ·
   exact⟨by omega,by rw[I3.2,rstF_succ]⟩
  ·
   ((try dsimp only);omega)
 ·
  have hf2:f=(rstF (parW p s m) p.shown p.node.flow.length p.shown.length):=by rw[I3.2,show k=p.shown.length by omega]
  refine .loop (α:=Nat×(List DStep)) [.r [],.r [(5,X (Xl elemT p.node.flow))],.le (.nR 10 4)] 196 (fun(i,o)=>([(0,.ptr 0 0),(1,VL 2 attrT c),(7,.row 59 p.node.flow.length),(10,.row 195 o.length),(44,VI (p.node.flow.length:Int)),(45,VI (i:Int))],[(0,.box [VI p.node.id,VI p.node.kind,VL 2 attrT p.node.attrs,VL 3 elemT p.node.flow,VI p.node.grid.rows,VI p.node.grid.cols,VL 5 cellT p.node.grid.cells,VL 4 rectT p.node.grid.merges,VL 8 dopT p.node.draw,VL 1 intT p.shown,VS p.author]),(1,.box [VI s.nd,VI s.fr,VI s.tq]),(2,.box [VI m]),(59,OR 1 boolT f),(195,OR 4 dstepT o)])) (fun(i,o)=>i≤p.node.flow.length∧o=rstS c f i) (fun(i,o)=>p.node.flow.length-i) (0,[]) ?_ ?_
  ·
   exact⟨by omega,rfl⟩
  rintro⟨i,o⟩ I9 ih9
  try dsimp only at I9
  have ol2:o.length=i:=by rw[I9.2];exact rstS_len c f i
  refine .bp [.r []] (decide ((i:Int)< (p.node.flow.length:Int))) (fun h9=> ?_) (fun h9=> ?_)
  ·
   refine .bp [.r [],.r [(0,X (Xf [(2,2),(3,3)]))],.r [(2,X (Xpn p.node.flow.length boolT f (i:Int))),(3,X (Xen p.node.flow.length boolT f i))]] (f.getD i default) (fun h12=> ?_) (fun h12=> ?_)
   ·
    refine .back [.r [],.r [(3,X (rowC dstepT [({kind:=0,n:=1,attrs:=c,elems:=[]}:DStep)] (Xap 4 dstepT 195 o [({kind:=0,n:=1,attrs:=c,elems:=[]}:DStep)])))],.r [(0,X (Xn ((i:Int)+1)))]] [(0,0),(1,1),(2,2),(59,59),(195,195)] (ih9 ((i+1),(o++[({kind:=0,n:=1,attrs:=c,elems:=[]}:DStep)])) ?_ ?_)
    ·
     exact⟨by omega,by rw[I9.2,rstS_succ,rstU_y h12]⟩
    ·
     ((try dsimp only);omega)
   ·
    refine .back [.r [(3,X (rowC dstepT [({kind:=0,n:=1,attrs:=[],elems:=[]}:DStep)] (Xap 4 dstepT 195 o [({kind:=0,n:=1,attrs:=[],elems:=[]}:DStep)])))],.r [(0,X (Xn ((i:Int)+1)))]] [(0,0),(1,1),(2,2),(59,59),(195,195)] (ih9 ((i+1),(o++[({kind:=0,n:=1,attrs:=[],elems:=[]}:DStep)])) ?_ ?_)
    ·
     exact⟨by omega,by rw[I9.2,rstS_succ,rstU_n h12]⟩
    ·
     ((try dsimp only);omega)
  ·
   have ho:o=rstS c (rstF (parW p s m) p.shown p.node.flow.length p.shown.length) p.node.flow.length:=by rw[I9.2,show i=p.node.flow.length by omega,hf2]
   rw[←ho] at dn el
   have e1:([opF p.node.id (rstD c (rstF (parW p s m) p.shown p.node.flow.length p.shown.length) p.node.flow.length)]:List EOp)=[({kind:=2,node:=p.node.id,nw:=({id:=0,kind:=0,attrs:=[],flow:=[],grid:=({rows:=0,cols:=0,cells:=[],merges:=[]}:Grid),draw:=[]}:Node),attrs:=[],steps:=(tidyL o),grid:=({rows:=[],cols:=[],cells:=[],split:=[],merge:=[]}:GEd),draw:=[]}:EOp)]:=by
    rw[ho];rfl
   exact .finE [.r [(1,X (Xc1 212 (fc_dTidy o (by assumption) (by omega) (by omega)) (rowC dstepT o X0)))],.r [(6,X (Xf [(4,2),(5,3),(8,5),(9,4),(10,8),(11,2),(13,2),(14,2),(15,5),(16,4),(17,4),(18,8)]))],.le (.fr 6 [(1:Nat)=(List.map eopT [({kind:=2,node:=p.node.id,nw:=({id:=0,kind:=0,attrs:=[],flow:=[],grid:=({rows:=0,cols:=0,cells:=[],merges:=[]}:Grid),draw:=[]}:Node),attrs:=[],steps:=(tidyL o),grid:=({rows:=[],cols:=[],cells:=[],split:=[],merge:=[]}:GEd),draw:=[]}:EOp)]).length] ⟨lm,trivial⟩)] [(0,0),(1,1),(2,2)] (fun z0:List EOp=>(VL 19 eopT z0,[(0,.box [VI p.node.id,VI p.node.kind,VL 2 attrT p.node.attrs,VL 3 elemT p.node.flow,VI p.node.grid.rows,VI p.node.grid.cols,VL 5 cellT p.node.grid.cells,VL 4 rectT p.node.grid.merges,VL 8 dopT p.node.draw,VL 1 intT p.shown,VS p.author]),(1,.box [VI s.nd,VI s.fr,VI s.tq]),(2,.box [VI m])])) _ _ e1
theorem fc_formatP(d:Doc)(s:Sel)(c:List Attr)(hb:DocL d)(hc:c.length≤1048576)(hx:atE d s {data:=#[]}=0→PlB (atP d s {data:=#[]})∧0≤s.fr∧s.fr≤s.tq∧s.tq≤1000000000):FC Tryz.prog 30 [.t (docT d),.t (selT s),VL 2 attrT c] (app emp []) (.tup [VL 19 eopT (parO d s c),VI (fmtE d s c)]) (app emp []):=by
 refine .go Tryz.f30 ?_
 refine .len 2 (fun hl2=> ?_)
 refine .bp [.r [],.r [(2,X (Xc1 48 (fc_at d s ({data:=#[]}) (by assumption)) X0))],.r []] ((atE d s ({data:=#[]})) !=0) (fun h2=> ?_) (fun h2=> ?_)
 ·
  have T:=par_1 (c:=c) h2
  have e1:((parO d s c):List EOp)=[]:=by
   exact T.1
  have e2:((fmtE d s c):Int)=(atE d s ({data:=#[]})):=by
   exact T.2
  exact .finE [.r [],.le (.nL 6 19)] [] (fun((z0,z1):(List EOp)×Int)=>(.tup [VL 19 eopT z0,VI z1],[])) _ _ (pr e1 e2)
 ·
  refine .bp [.r [(1,X (Xc0 (fc_acheckChange c) X0))],.r []] ((chkA true c 0) !=0) (fun h5=> ?_) (fun h5=> ?_)
  ·
   have T:=par_2 h2 h5
   have e3:((parO d s c):List EOp)=[]:=by
    exact T.1
   have e4:((fmtE d s c):Int)=(chkA true c 0):=by
    exact T.2
   exact .finE [.r [],.le (.nL 6 19)] [] (fun((z0,z1):(List EOp)×Int)=>(.tup [VL 19 eopT z0,VI z1],[])) _ _ (pr e3 e4)
  ·
   obtain⟨hp,q1,q2,q3⟩:=hx h2
   have hps:=hp.sl
   refine .loop (α:=Int) [.r [(4,X (Xn (s.tq- 1))),(5,X (Xmax s.fr (s.tq- 1)))]] 224 (fun o208c0=>([(2,VL 2 attrT c),(4,.ptr 8 0),(8,.ptr 80 0),(11,.ptr 208 0)],[(8,.box [VI s.nd,VI s.fr,VI s.tq]),(80,.box [VI ((((atP d s ({data:=#[]}))).node).id),VI ((((atP d s ({data:=#[]}))).node).kind),VL 2 attrT ((((atP d s ({data:=#[]}))).node).attrs),VL 3 elemT ((((atP d s ({data:=#[]}))).node).flow),VI (((((atP d s ({data:=#[]}))).node).grid).rows),VI (((((atP d s ({data:=#[]}))).node).grid).cols),VL 5 cellT (((((atP d s ({data:=#[]}))).node).grid).cells),VL 4 rectT (((((atP d s ({data:=#[]}))).node).grid).merges),VL 8 dopT ((((atP d s ({data:=#[]}))).node).draw),VL 1 intT (((atP d s ({data:=#[]}))).shown),VS (((atP d s ({data:=#[]}))).author)]),(208,.box [VI o208c0])])) (fun o208c0=>endK (atP d s {data:=#[]}) (max s.fr (s.tq- 1)).toNat=endK (atP d s {data:=#[]}) o208c0.toNat∧0≤o208c0∧o208c0≤s.tq+(atP d s {data:=#[]}).shown.length) (fun o208c0=>(atP d s {data:=#[]}).shown.length-o208c0.toNat) ((max s.fr (s.tq- 1)):Int) ?_ ?_
   ·
    exact⟨rfl,by omega,by omega⟩
   rintro o208c0 I8 ih8
   try dsimp only at I8
   refine .bp [.r [(1,X (Xc4 [(0,80)] (fc_pelem ((atP d s ({data:=#[]}))) o208c0 (by assumption)) X0))]] ((((elemP ((atP d s ({data:=#[]}))) o208c0)).char) !=10) (fun h8=> ?_) (fun h8=> ?_)
   ·
    obtain⟨g1,g2⟩:=endK_goI I8.2.1 h8
    refine .back [.r [(1,X (Xn (o208c0+1)))]] [(8,8),(80,80),(208,208)] (ih8 ((o208c0+1):Int) ?_ ?_)
    ·
     exact⟨I8.1.trans g2,by omega,by omega⟩
    ·
     ((try dsimp only);omega)
   ·
    have g3:=endK_atI I8.2.1 h8
    have T:=par_3 h2 h5 (show((endK (atP d s {data:=#[]}) (max s.fr (s.tq- 1)).toNat:Nat):Int)=o208c0 by rw[I8.1,g3];omega)
    have e5:((parO d s c):List EOp)=[opF (((atP d s ({data:=#[]})))).node.id (rstD c (rstF (parW ((atP d s ({data:=#[]}))) s o208c0) (((atP d s ({data:=#[]})))).shown (((atP d s ({data:=#[]})))).node.flow.length (((atP d s ({data:=#[]})))).shown.length) (((atP d s ({data:=#[]})))).node.flow.length)]:=by
     exact T.1
    have e6:((fmtE d s c):Int)=0:=by
     exact T.2
    exact .finE [.r [(2,X (Xc4 [(0,80),(1,8),(2,208)] (fc_rst_par ((atP d s ({data:=#[]}))) s o208c0 c (by assumption) (by omega)) X0))]] [] (fun((z0,z1):(List EOp)×Int)=>(.tup [VL 19 eopT z0,VI z1],[])) _ _ (pr e5 e6)
end Go.Ch
end
section
set_option linter.unusedVariables false
set_option linter.unusedSimpArgs false
namespace Go.Ch
open Go Go.Ab
def ascE(s:ByteArray)(l:List Attr)(i:Nat):Elem:=⟨(byt s i:Int),0,l⟩
def ascL(s:ByteArray)(l:List Attr)(n:Nat):List Elem:=(List.range n).map (ascE s l)
theorem ascL_succ(s:ByteArray)(l:List Attr)(n:Nat):ascL s l (n+1)=ascL s l n++[⟨(byt s n:Int),0,l⟩]:=by
 unfold ascL;rw[List.range_succ,List.map_append];rfl
theorem ext_size(s:ByteArray)(n:Nat):(s.extract n s.size).size=s.size-n:=by simp[ByteArray.size_extract]
theorem ext_byt{s:ByteArray}{n:Nat}(h:n<s.size):byt (s.extract n s.size) 0=byt s n:=by
 unfold byt
 have h1:0< (s.extract n s.size).size:=by rw[ext_size];omega
 rw[getElem?_pos s n h,getElem?_pos (s.extract n s.size) 0 h1]
 simp[ByteArray.getElem_extract]
theorem ext_ext{s:ByteArray}{n:Nat}:(s.extract n s.size).extract 1 (s.extract n s.size).size=s.extract (n+1) s.size:=by
 rw[ext_size]
 apply ByteArray.ext
 simp only[ByteArray.data_extract,Array.extract_extract]
 congr 1
 omega
theorem ext_all(s:ByteArray):s.extract 0 s.size=s:=by simp
end Go.Ch
end
section
set_option linter.unusedVariables false
namespace Go.Ch
open Go Go.Ab
def AscN(s:ByteArray):Prop:=∀i,i<s.size→(32≤byt s i∧byt s i<127)∨byt s i=10
def ascC(s:ByteArray):List Int:=(List.range s.size).map fun i=>(byt s i:Int)
theorem ascL_map(s:ByteArray)(l:List Attr):ascL s l s.size=(ascC s).map (mkE l):=by
 unfold ascL ascC;rw[List.map_map];rfl
def ascK(s:ByteArray):Bool:=(List.range s.size).all fun i=>(decide (32≤byt s i)&&decide (byt s i<127))||byt s i==10
theorem ascN_of{s:ByteArray}(h:ascK s=true):AscN s:=by
 intro i hi
 have:=List.all_eq_true.1 h i (List.mem_range.2 hi)
 simp only[Bool.or_eq_true,Bool.and_eq_true,decide_eq_true_eq,beq_iff_eq] at this
 exact this
theorem asc_mt:AscN {data:=#[]}:=ascN_of (by decide+kernel)
end Go.Ch
end
section
set_option linter.unusedVariables false
set_option linter.unusedSimpArgs false
namespace Go.Ch
open Go Go.Ab
def shwB(f:List Elem)(i:Nat):Bool:=
 (bif hasA (f.getD i default).attrs cutB then false else !(seq (getA (f.getD i default).attrs hidB 0) onB))|| (decide ((i:Int)=(f.length:Int)- 1)&&((f.getD i default).char==10))
def shwR(f:List Elem)(i:Nat):List Int:=((List.range i).filter (shwB f)).map fun i:Nat=>(i:Int)
theorem shwR_succ(f:List Elem)(i:Nat):shwR f (i+1)=shwR f i++(if shwB f i=true then[(i:Int)] else[]):=by
 unfold shwR
 rw[List.range_succ,List.filter_append,List.map_append]
 congr 1
 by_cases h:shwB f i=true
 ·rw[if_pos h];simp[h]
 ·rw[if_neg h];simp at h;simp[h]
theorem shwR_len(f:List Elem)(i:Nat):(shwR f i).length≤i:=by
 unfold shwR;rw[List.length_map];exact Nat.le_trans (List.length_filter_le ..) (by simp)
def nodeF(d:Doc)(k:Int):Node:=if findD d.nodes k 0<0 then zeroN else d.nodes.getD (findD d.nodes k 0).toNat default
def nodeH(d:Doc)(k:Int):Bool:=decide (0≤findD d.nodes k 0)
theorem nodeF_y{d:Doc}{k:Int}{i:Nat}(h:findD d.nodes k 0=(i:Int)):nodeF d k=d.nodes.getD i default∧nodeH d k=true:=by
 unfold nodeF nodeH;rw[h,if_neg (by omega),decide_eq_true (by omega)];exact⟨rfl,rfl⟩
theorem nodeF_n{d:Doc}{k:Int}(h:findD d.nodes k 0= -1):nodeF d k=zeroN∧nodeH d k=false:=by
 unfold nodeF nodeH;rw[h,if_pos (by omega),decide_eq_false (by omega)];exact⟨rfl,rfl⟩
def lastC(n:Node):Int:=if 0<n.draw.length then(n.draw.getD (n.draw.length- 1) default).clock else 0
def pickK(n:Node)(ks:List Int):List Int:=(ks.filter fun x=>n.kind==x).map fun _=>n.id
def pickL(l:List Node)(ks:List Int):List Int:=l.flatMap fun n=>pickK n ks
def pickP(d:Doc)(k:Int)(ks:List Int):Int:=if(pickL d.nodes ks).length=0 then 0 else(pickL d.nodes ks).getD (withinI k 0 (((pickL d.nodes ks).length:Int)- 1)).toNat default
theorem pickK_len(n:Node)(ks:List Int):(pickK n ks).length≤ks.length:=by
 unfold pickK;rw[List.length_map];exact List.length_filter_le ..
theorem pickL_len(l:List Node)(ks:List Int):(pickL l ks).length≤l.length*ks.length:=by
 induction l with
 |nil=>simp[pickL]
 |cons n l ih=>
  have:=pickK_len n ks
  have e:pickL (n::l) ks=pickK n ks++pickL l ks:=rfl
  rw[e,List.length_append,List.length_cons,Nat.add_mul,Nat.one_mul];omega
theorem pickK_succ{n:Node}{ks:List Int}{j:Nat}(h:j<ks.length):pickK n (ks.take (j+1))=pickK n (ks.take j)++(if n.kind=ks.getD j default then[n.id] else[]):=by
 have e:ks.getD j default=ks[j]:=by rw[List.getD_eq_getElem?_getD,List.getElem?_eq_getElem h];rfl
 unfold pickK
 rw[List.take_succ_eq_append_getElem h,List.filter_append,List.map_append,e]
 congr 1
 by_cases q:n.kind=ks[j]
 ·rw[if_pos q];simp[q]
 ·rw[if_neg q];simp[q]
theorem pickL_succ{l:List Node}{ks:List Int}{i:Nat}(h:i<l.length):pickL (l.take (i+1)) ks=pickL (l.take i) ks++pickK (l.getD i default) ks:=by
 have e:l.getD i default=l[i]:=by rw[List.getD_eq_getElem?_getD,List.getElem?_eq_getElem h];rfl
 unfold pickL
 rw[List.take_succ_eq_append_getElem h,List.flatMap_append,e];simp
def cmdI(d:Doc)(b:Int):Int:=pickP d (IntKind.i64.wrap (b.tdiv 7)) [1,3,4,12]
def cmdM(d:Doc)(b:Int):Int:=max 0 (((shwR (nodeF d (cmdI d b)).flow (nodeF d (cmdI d b)).flow.length).length:Int)- 1)
def cmdF(d:Doc)(b c:Int):Int:=withinI (IntKind.i64.wrap (c.tdiv 5)) 0 (cmdM d b)
def cmdT(d:Doc)(b c:Int):Int:=withinI (IntKind.i64.wrap (c.tdiv 11)) (cmdF d b c) (min (cmdM d b) (cmdF d b c+4))
abbrev txt5:List ByteArray:=[{data:=#[120]},{data:=#[121,122]},{data:=#[10]},{data:=#[119,32,118]},{data:=#[98]}]
theorem getD_all{α:Type}[Inhabited α]{P:α→Prop}{l:List α}(h:∀x∈l,P x)(h0:P default)(k:Nat):P (l.getD k default):=by
 by_cases q:k<l.length
 ·exact h _ (getDX_mem q)
 ·rw[List.getD_eq_getElem?_getD,List.getElem?_eq_none (by omega)];exact h0
theorem txt5_asc(k:Nat):AscN (txt5.getD k default):=by
 refine getD_all (P:=AscN) (fun t ht=>ascN_of ?_) (fun i hi=>absurd hi (Nat.not_lt_zero _)) k
 simp only[txt5,List.mem_cons,List.not_mem_nil,or_false] at ht
 rcases ht with rfl|rfl|rfl|rfl|rfl<;>decide+kernel
theorem txt5_len(k:Nat):(txt5.getD k default).size≤20000:=by
 refine getD_all (P:=fun t:ByteArray=>t.size≤20000) (fun t ht=> ?_) (by decide) k
 simp only[txt5,List.mem_cons,List.not_mem_nil,or_false] at ht
 rcases ht with rfl|rfl|rfl|rfl|rfl<;>decide
theorem asc_t:AscN {data:=#[116]}:=ascN_of (by decide+kernel)
theorem rows3_bd(k:Nat): -1000000≤([1,2,-1]:List Int).getD k default∧([1,2,-1]:List Int).getD k default≤2147483647:=by
 refine getD_all (P:=fun x:Int=> -1000000≤x∧x≤2147483647) (fun t ht=> ?_) (by decide) k
 simp only[List.mem_cons,List.not_mem_nil,or_false] at ht
 rcases ht with rfl|rfl|rfl<;>decide
abbrev seqA:List Attr:=[{name:={data:=#[107,105,110,100]},val:={data:=#[115,101,113]}}]
theorem seq_chk:chkA false seqA 0=0:=by decide+kernel
theorem nodeF_len{d:Doc}(h:DocL d)(k:Int):(nodeF d k).flow.length≤1048576:=by
 unfold nodeF;split
 ·simp[zeroN]
 ·by_cases q:(findD d.nodes k 0).toNat<d.nodes.length
  ·exact(h.all _ (getDX_mem q)).fl2
  ·rw[List.getD_eq_getElem?_getD,List.getElem?_eq_none (by omega)];simp[default,instInhabitedNode]
theorem nodeF_drl{d:Doc}(h:DocL d)(k:Int):(nodeF d k).draw.length≤1048576:=by
 unfold nodeF;split
 ·simp[zeroN]
 ·by_cases q:(findD d.nodes k 0).toNat<d.nodes.length
  ·exact(h.all _ (getDX_mem q)).dr1
  ·rw[List.getD_eq_getElem?_getD,List.getElem?_eq_none (by omega)];simp[default,instInhabitedNode]
theorem cmdM_bd{d:Doc}(h:DocL d)(b:Int):0≤cmdM d b∧cmdM d b≤1048576:=by
 have h1:=nodeF_len h (cmdI d b)
 have h2:=shwR_len (nodeF d (cmdI d b)).flow (nodeF d (cmdI d b)).flow.length
 unfold cmdM;omega
theorem cmdF_bd{d:Doc}(h:DocL d)(b c:Int):0≤cmdF d b c∧cmdF d b c≤cmdM d b:=withinI_bd _ (cmdM_bd h b).1
abbrev cmdS(d:Doc)(b c:Int):Sel:={nd:=cmdI d b,fr:=cmdF d b c,tq:=cmdT d b c}
structure CmdB(d:Doc)(site b c:Int):Prop where
 ty:∀t au:ByteArray,AscN t→t.size≤20000→atE d (cmdS d b c) au=0→TypB d (cmdS d b c) (ascC t) au
 fm:atE d (cmdS d b c) {data:=#[]}=0→PlB (atP d (cmdS d b c) {data:=#[]})
 pa:atE d (cmdS d b c) {data:=#[]}=0→PlB (atP d (cmdS d b c) {data:=#[]})∧0≤cmdF d b c∧cmdF d b c≤cmdT d b c∧cmdT d b c≤1000000000
 ob:∀n:Node,atE d (cmdS d b c) {data:=#[]}=0→nextE d site=0→ObjB d (cmdS d b c) n site {data:=#[]}
 lc: -1≤lastC (nodeF d (pickP d b [10,8]))∧lastC (nodeF d (pickP d b [10,8]))≤1000000000000
def opA(k:Int)(l:List Attr):EOp:=⟨1,k,⟨0,0,[],[],⟨0,0,[],[]⟩,[]⟩,l,[],⟨[],[],[],[],[]⟩,[]⟩
def opD(k:Int)(l:List DOp):EOp:=⟨4,k,⟨0,0,[],[],⟨0,0,[],[]⟩,[]⟩,[],[],⟨[],[],[],[],[]⟩,l⟩
def cmdP(d:Doc)(site a b c:Int):List EOp:=
 if withinI a 0 13=0∨withinI a 0 13=1∨withinI a 0 13=2 then typeO d (cmdS d b c) (ascC (txt5.getD (Int.toNat (withinI b 0 4)) default)) {data:=#[]}
 else if withinI a 0 13=3 then typeO d (cmdS d b c) (ascC {data:=#[]}) {data:=#[]}
 else if withinI a 0 13=4 then typeO d (cmdS d b c) (ascC {data:=#[116]}) {data:=#[97,110,110]}
 else if withinI a 0 13=5 then fmtO d (cmdS d b c) [{name:=[{data:=#[98,111,108,100]},{data:=#[115,105,122,101]},{data:=#[109,97,114,107,46,109]}].getD (Int.toNat (withinI b 0 2)) default,val:=[{data:=#[]},{data:=#[111,110]},{data:=#[52,48]}].getD (Int.toNat (withinI (IntKind.i64.wrap (a.tdiv 14)) 0 2)) default}]
 else if withinI a 0 13=6 then parO d (cmdS d b c) [{name:=[{data:=#[104,101,97,100]},{data:=#[108,105,115,116]},{data:=#[97,108,105,103,110]}].getD (Int.toNat (withinI b 0 2)) default,val:=[{data:=#[49]},{data:=#[50]},{data:=#[]}].getD (Int.toNat (withinI (IntKind.i64.wrap (a.tdiv 14)) 0 2)) default}]
 else if withinI a 0 13=7 then objO d (cmdS d b c) (tblN (withinI b 1 3) (withinI (IntKind.i64.wrap (a.tdiv 14)) 1 3)) site {data:=#[]}
 else if withinI a 0 13=8 then objO d (cmdS d b c) (notN (b.tmod 2==0)) site {data:=#[]}
 else if withinI a 0 13=9 then objO d (cmdS d b c) (fldN seqA) site {data:=#[]}
 else if withinI a 0 13=10 then rshO d (pickP d b [2,6]) (withinI c 0 2) ([1,2,-1].getD (Int.toNat (withinI (IntKind.i64.wrap (a.tdiv 14)) 0 2)) default)
 else if withinI a 0 13=11 then cshO d (pickP d b [2,6]) (withinI c 0 2) ([1,2,-1].getD (Int.toNat (withinI (IntKind.i64.wrap (a.tdiv 14)) 0 2)) default)
 else if withinI a 0 13=12 then celO d (pickP d b [2]) (withinI c 0 2) (withinI (IntKind.i64.wrap (a.tdiv 14)) 0 2) site
 else if nodeH d (pickP d b [10,8])=true then
  [opD (nodeF d (pickP d b [10,8])).id [{clock:=1+lastC (nodeF d (pickP d b [10,8])),site:=site,kind:=0,itm:=withinI c 1 3,prt:=withinI (IntKind.i64.wrap (a.tdiv 14)) (-1) 3,plc:={data:=#[98]},nm:={data:=#[]},vl:={data:=#[]}}]]
 else[opA 1 [{name:={data:=#[116,105,116,108,101]},val:=[{data:=#[]},{data:=#[112]},{data:=#[113]}].getD (Int.toNat (withinI c 0 2)) default}]]
end Go.Ch
end
section
set_option linter.unusedVariables false
set_option linter.unusedSimpArgs false
set_option maxRecDepth 100000
set_option maxHeartbeats 4000000
open Go Go.Proofs Go.Ab
namespace Go.Ch
theorem fc_within(x lo hi:Int)(hl: -1000000000000≤lo∧lo≤hi∧hi≤1000000000000):FC Tryz.prog 8 [VI x,VI lo,VI hi] (app emp []) (VI (withinI x lo hi)) (app emp []):=by
 refine .go Tryz.f8 ?_
 have e1:((withinI x lo hi):Int)=(lo+(((x.tmod ((hi-lo)+1))+((hi-lo)+1)).tmod ((hi-lo)+1))):=by
  rfl
 exact .finE [.r [],.r [(2,X (Xn (hi-lo))),(3,X (Xn ((hi-lo)+1)))],.r [(3,X (Xc ((((hi-lo)+1):Int)≠0))),(5,X (Xn ((x.tmod ((hi-lo)+1))+((hi-lo)+1))) (by have h1:=tmod_bd x (n:=hi-lo+1) (by omega);omega)),(7,X (Xc ((((hi-lo)+1):Int)≠0))),(8,X (Xn (lo+(((x.tmod ((hi-lo)+1))+((hi-lo)+1)).tmod ((hi-lo)+1)))) (by have h1:=withinI_bd x (lo:=lo) (hi:=hi) (by omega);unfold withinI at h1;omega))]] [] (fun z0:Int=>(VI z0,[])) _ _ e1
theorem fc_getR(l:List Attr)(n:ByteArray):FC Tryz.prog 56 [VL 2 attrT l,VS n] (app emp []) (VS (getA l n 0)) (app emp []):=by
 refine .go Tryz.f56 ?_
 refine .len 0 (fun hl0=> ?_)
 refine .loop (α:=Nat) [.r [],.r [(1,X (Xl attrT l))]] 32 (fun i=>([(0,VL 2 attrT l),(1,VS n),(7,VI (l.length:Int)),(8,VI (i:Int))],[])) (fun i=>i≤l.length∧getA l n 0=getA l n i) (fun i=>l.length-i) (0:Nat) ?_ ?_
 ·
  exact⟨by omega,rfl⟩
 rintro i I2 ih2
 try dsimp only at I2
 refine .bp [.r []] (decide ((i:Int)< (l.length:Int))) (fun h2=> ?_) (fun h2=> ?_)
 ·
  refine .bp [.r [],.r [(2,X (Xi attrT l (i:Int)))]] (seq (((l.getD i default)).name) n) (fun h4=> ?_) (fun h4=> ?_)
  ·
   have e1:((getA l n 0):ByteArray)=((l.getD i default)).val:=by
    rw[I2.2,getA,if_pos (by omega),if_pos (seq_iff.1 h4)]
   exact .finE [.r [(2,X (Xi attrT l (i:Int)))]] [] (fun z0:ByteArray=>(VS z0,[])) _ _ e1
  ·
   refine .back [.r [(0,X (Xn ((i:Int)+1)))]] [] (ih2 ((i+1):Nat) ?_ ?_)
   ·
    refine⟨by omega,?_⟩;rw[I2.2,getA,if_pos (by omega),if_neg (seq_no.1 h4)]
   ·
    ((try dsimp only);omega)
 ·
  have e2:((getA l n 0):ByteArray)={data:=#[]}:=by
   rw[I2.2,getA,if_neg (by omega)]
  exact .finE [.r []] [] (fun z0:ByteArray=>(VS z0,[])) _ _ e2
theorem fc_has(l:List Attr)(n:ByteArray):FC Tryz.prog 57 [VL 2 attrT l,VS n] (app emp []) (VB (hasA l n)) (app emp []):=by
 refine .go Tryz.f57 ?_
 refine .len 0 (fun hl0=> ?_)
 refine .loop (α:=Nat) [.r [],.r [(1,X (Xl attrT l))]] 32 (fun i=>([(0,VL 2 attrT l),(1,VS n),(7,VI (l.length:Int)),(8,VI (i:Int))],[])) (fun i=>i≤l.length∧hasA l n=hasA (l.drop i) n) (fun i=>l.length-i) (0:Nat) ?_ ?_
 ·
  exact⟨by omega,rfl⟩
 rintro i I2 ih2
 try dsimp only at I2
 refine .bp [.r []] (decide ((i:Int)< (l.length:Int))) (fun h2=> ?_) (fun h2=> ?_)
 ·
  have hs:=hasA_at (l:=l) (i:=i) (by omega) n
  refine .bp [.r [],.r [(2,X (Xi attrT l (i:Int)))]] (seq (((l.getD i default)).name) n) (fun h4=> ?_) (fun h4=> ?_)
  ·
   have e1:((hasA l n):Bool)=true:=by
    first| (rw[I2.2,hs,h4,Bool.true_or])| (rw[I2.2,List.drop_eq_nil_of_le (by omega)];rfl)
   exact .finE [.r []] [] (fun z0:Bool=>(VB z0,[])) _ _ e1
  ·
   refine .back [.r [(0,X (Xn ((i:Int)+1)))]] [] (ih2 ((i+1):Nat) ?_ ?_)
   ·
    refine⟨by omega,?_⟩
    rw[I2.2,hs,h4,Bool.false_or]
   ·
    ((try dsimp only);omega)
 ·
  have e2:((hasA l n):Bool)=false:=by
   first| (rw[I2.2,hs,h4,Bool.true_or])| (rw[I2.2,List.drop_eq_nil_of_le (by omega)];rfl)
  exact .finE [.r []] [] (fun z0:Bool=>(VB z0,[])) _ _ e2
theorem fc_shownR(f:List Elem)(hn:f.length≤1048576):FC Tryz.prog 26 [VL 3 elemT f,VI 0] (app emp []) (VL 1 intT (shwR f f.length)) (app emp []):=by
 refine .go Tryz.f26 ?_
 refine .len 0 (fun hl0=> ?_)
 refine .loop (α:=Nat×(List Int)) [.r [],.r [],.r [(1,X (Xl elemT f))],.le (.nR 5 1)] 41 (fun(i,o)=>([(0,VL 3 elemT f),(1,VI 0),(5,.row 40 o.length),(10,VI (f.length:Int)),(11,VI (i:Int))],[(40,OR 1 intT o)])) (fun(i,o)=>i≤f.length∧o=shwR f i) (fun(i,o)=>f.length-i) (0,[]) ?_ ?_
 ·
  exact⟨by omega,rfl⟩
 rintro⟨i,o⟩ I3 ih3
 try dsimp only at I3
 have ol:o.length≤i:=by rw[I3.2];exact shwR_len f i
 refine .bp [.r []] (decide ((i:Int)< (f.length:Int))) (fun h3=> ?_) (fun h3=> ?_)
 ·
  refine .bp [.r [],.r [(2,X (Xi elemT f (i:Int)))],.r [(1,X (Xc0 (fc_getR (((f.getD i default)).attrs) ({data:=#[104,105,100,100,101,110]})) X0))],.r [(4,Xv 1 true (Xc0 (fc_has (((f.getD i default)).attrs) ({data:=#[99,117,116]})) X0)),(5,X (Xk true)),(8,Xv 1 (!(true&&(hasA (((f.getD i default)).attrs) ({data:=#[99,117,116]})))) X0),(9,Xv 1 (!(true&&(hasA (((f.getD i default)).attrs) ({data:=#[99,117,116]})))) X0),(11,Xv 1 ((!(true&&(hasA (((f.getD i default)).attrs) ({data:=#[99,117,116]}))))&&false) (Xc0 (fc_has (((f.getD i default)).attrs) ({data:=#[97,100,100]})) X0)),(12,Xka (!(true&&(hasA (((f.getD i default)).attrs) ({data:=#[99,117,116]})))) false),(13,X (Xk' (true&&(hasA (((f.getD i default)).attrs) ({data:=#[99,117,116]})))))]] ((true&&(hasA (((f.getD i default)).attrs) ({data:=#[99,117,116]})))|| (false&&(hasA (((f.getD i default)).attrs) ({data:=#[97,100,100]})))) (fun h7=> ?_) (fun h7=> ?_)
  ·
   refine .bp [.r [],.r [(4,Xv 1 (!false) (Xl elemT f)),(5,Xv 1 (!false) (Xn ((f.length:Int)- 1))),(6,Xv 2 (!false) X0),(7,Xv 1 (!false) X0),(10,Xv 2 ((!false)&&((i:Int)==((f.length:Int)- 1))) (Xi elemT f (i:Int))),(11,Xv 1 ((!false)&&((i:Int)==((f.length:Int)- 1))) X0),(12,Xv 1 ((!false)&&((i:Int)==((f.length:Int)- 1))) X0),(13,Xv 1 ((!false)&&((i:Int)==((f.length:Int)- 1))) X0),(14,Xka (!false) ((i:Int)==((f.length:Int)- 1))),(15,X (Xk' false))]] (false|| (((i:Int)==((f.length:Int)- 1))&&((((f.getD i default)).char)==10))) (fun h9=> ?_) (fun h9=> ?_)
   ·
    refine .back [.r [(3,X (rowC intT [(i:Int)] (Xap 1 intT 40 o [(i:Int)])))],.r [(0,X (Xn ((i:Int)+1)))]] [(40,40)] (ih3 ((i+1),(o++[(i:Int)])) ?_ ?_)
    ·
     refine⟨by omega,?_⟩
     rw[I3.2,shwR_succ]
     simp[-List.getD_eq_getElem?_getD] at h7 h9
     unfold shwB cutB hidB onB
     simp_all[-List.getD_eq_getElem?_getD]
     all_goals omega
    ·
     ((try dsimp only);omega)
   ·
    refine .back [.r [(0,X (Xn ((i:Int)+1)))]] [(40,40)] (ih3 ((i+1),o) ?_ ?_)
    ·
     refine⟨by omega,?_⟩
     rw[I3.2,shwR_succ]
     simp[-List.getD_eq_getElem?_getD] at h7 h9
     unfold shwB cutB hidB onB
     simp_all[-List.getD_eq_getElem?_getD]
     all_goals omega
    ·
     ((try dsimp only);omega)
  ·
   refine .bp [.r [(4,Xv 1 (!(!(seq (getA (((f.getD i default)).attrs) ({data:=#[104,105,100,100,101,110]}) 0) ({data:=#[111,110]})))) (Xl elemT f)),(5,Xv 1 (!(!(seq (getA (((f.getD i default)).attrs) ({data:=#[104,105,100,100,101,110]}) 0) ({data:=#[111,110]})))) (Xn ((f.length:Int)- 1))),(6,Xv 2 (!(!(seq (getA (((f.getD i default)).attrs) ({data:=#[104,105,100,100,101,110]}) 0) ({data:=#[111,110]})))) X0),(7,Xv 1 (!(!(seq (getA (((f.getD i default)).attrs) ({data:=#[104,105,100,100,101,110]}) 0) ({data:=#[111,110]})))) X0),(10,Xv 2 ((!(!(seq (getA (((f.getD i default)).attrs) ({data:=#[104,105,100,100,101,110]}) 0) ({data:=#[111,110]}))))&&((i:Int)==((f.length:Int)- 1))) (Xi elemT f (i:Int))),(11,Xv 1 ((!(!(seq (getA (((f.getD i default)).attrs) ({data:=#[104,105,100,100,101,110]}) 0) ({data:=#[111,110]}))))&&((i:Int)==((f.length:Int)- 1))) X0),(12,Xv 1 ((!(!(seq (getA (((f.getD i default)).attrs) ({data:=#[104,105,100,100,101,110]}) 0) ({data:=#[111,110]}))))&&((i:Int)==((f.length:Int)- 1))) X0),(13,Xv 1 ((!(!(seq (getA (((f.getD i default)).attrs) ({data:=#[104,105,100,100,101,110]}) 0) ({data:=#[111,110]}))))&&((i:Int)==((f.length:Int)- 1))) X0),(14,Xka (!(!(seq (getA (((f.getD i default)).attrs) ({data:=#[104,105,100,100,101,110]}) 0) ({data:=#[111,110]})))) ((i:Int)==((f.length:Int)- 1))),(15,X (Xk' (!(seq (getA (((f.getD i default)).attrs) ({data:=#[104,105,100,100,101,110]}) 0) ({data:=#[111,110]})))))]] (!(seq (getA (((f.getD i default)).attrs) ({data:=#[104,105,100,100,101,110]}) 0) ({data:=#[111,110]}))|| (((i:Int)==((f.length:Int)- 1))&&((((f.getD i default)).char)==10))) (fun h9=> ?_) (fun h9=> ?_)
   ·
    refine .back [.r [(3,X (rowC intT [(i:Int)] (Xap 1 intT 40 o [(i:Int)])))],.r [(0,X (Xn ((i:Int)+1)))]] [(40,40)] (ih3 ((i+1),(o++[(i:Int)])) ?_ ?_)
    ·
     refine⟨by omega,?_⟩
     rw[I3.2,shwR_succ]
     simp[-List.getD_eq_getElem?_getD] at h7 h9
     unfold shwB cutB hidB onB
     simp_all[-List.getD_eq_getElem?_getD]
     all_goals omega
    ·
     ((try dsimp only);omega)
   ·
    refine .back [.r [(0,X (Xn ((i:Int)+1)))]] [(40,40)] (ih3 ((i+1),o) ?_ ?_)
    ·
     refine⟨by omega,?_⟩
     rw[I3.2,shwR_succ]
     simp[-List.getD_eq_getElem?_getD] at h7 h9
     unfold shwB cutB hidB onB
     simp_all[-List.getD_eq_getElem?_getD]
     all_goals omega
    ·
     ((try dsimp only);omega)
 ·
  have e1:((shwR f f.length):List Int)=o:=by
   rw[I3.2,show i=f.length by omega]
  exact .finE [.r [],.le (.fr 4 [(o.length:Nat)=(List.map intT o).length] ⟨lm,trivial⟩)] [] (fun z0:List Int=>(VL 1 intT z0,[])) _ _ e1
theorem fc_node(d:Doc)(k:Int)(hb:DocL d):FC Tryz.prog 25 [.t (docT d),VI k] (app emp []) (.tup [.t (nodeT (nodeF d k)),VB (nodeH d k)]) (app emp []):=by
 refine .go Tryz.f25 ?_
 have hl:=hb.len
 refine .loop (α:=Nat) [.r [],.r [(2,X (Xl nodeT d.nodes))]] 56 (fun i=>([(1,VI k),(4,.ptr 8 0),(9,VL 9 nodeT d.nodes),(10,VI (d.nodes.length:Int)),(11,VI (i:Int))],[(8,.box [VI 0,VI 0,VN,VN,VI 0,VI 0,VN,VN,VN])])) (fun i=>i≤d.nodes.length∧findD d.nodes k 0=findD d.nodes k i) (fun i=>d.nodes.length-i) (0:Nat) ?_ ?_
 ·
  exact⟨by omega,rfl⟩
 rintro i I2 ih2
 try dsimp only at I2
 refine .bp [.r []] (decide ((i:Int)< (d.nodes.length:Int))) (fun h2=> ?_) (fun h2=> ?_)
 ·
  have hx:=hb.all _ (getDN_mem (l:=d.nodes) (i:=i) (by omega))
  refine .bp [.r [(0,X (Xi nodeT d.nodes (i:Int)))],.r []] ((((d.nodes.getD i default)).id)==k) (fun h4=> ?_) (fun h4=> ?_)
  ·
   have T:=nodeF_y (I2.2.trans (by rw[findD,if_pos (by omega),if_pos (by omega)]))
   have e1:((nodeF d k):Node)=(((d.nodes.getD i default))):=by
    exact T.1
   have e2:((nodeH d k):Bool)=true:=by
    exact T.2
   exact .finVE [.r [(1,X (Xc1 136 (fc_copyN ((d.nodes.getD i default)) (by assumption)) X0))]] [] [] (fun((z0,z1):Node×Bool)=>(.tup [.t (nodeT z0),VB z1],[])) _ _ (pr e1 e2)
  ·
   refine .back [.r [(0,X (Xn ((i:Int)+1)))]] [(8,8)] (ih2 ((i+1):Nat) ?_ ?_)
   ·
    exact⟨by omega,by rw[I2.2,findD,if_pos (by omega),if_neg (by omega)]⟩
   ·
    ((try dsimp only);omega)
 ·
  have T:=nodeF_n (I2.2.trans (by rw[findD,if_neg (by omega)]))
  have e3:((nodeF d k):Node)=({id:=0,kind:=0,attrs:=[],flow:=[],grid:=({rows:=0,cols:=0,cells:=[],merges:=[]}:Grid),draw:=[]}:Node):=by
   exact T.1
  have e4:((nodeH d k):Bool)=false:=by
   exact T.2
  exact .finVE [.r [(0,X (Xf [(2,2),(3,3),(6,5),(7,4),(8,8)]))]] [] [] (fun((z0,z1):Node×Bool)=>(.tup [.t (nodeT z0),VB z1],[])) _ _ (pr e3 e4)
theorem fc_lastC(n:Node)(hn:n.draw.length≤1048576):FC Tryz.prog 37 [.t (nodeT n)] (app emp []) (VI (lastC n)) (app emp []):=by
 refine .go Tryz.f37 ?_
 refine .bp [.r [],.r [(2,X (Xl dopT n.draw))],.r []] (decide ((n.draw.length:Int)> 0)) (fun h2=> ?_) (fun h2=> ?_)
 ·
  have e1:((lastC n):Int)=((n.draw.getD (n.draw.length- 1) default)).clock:=by
   unfold lastC;rw[if_pos (by omega)]
  exact .finE [.r [(3,X (Xn ((n.draw.length:Int)- 1))),(4,X (Xi' dopT n.draw ((n.draw.length:Int)- 1) (n.draw.length- 1)))]] [] (fun z0:Int=>(VI z0,[])) _ _ e1
 ·
  have e2:((lastC n):Int)=0:=by
   unfold lastC;rw[if_neg (by omega)]
  exact .finE [.r []] [] (fun z0:Int=>(VI z0,[])) _ _ e2
theorem fc_pick(d:Doc)(k:Int)(ks:List Int)(hd:d.nodes.length≤1048576)(hk:ks.length≤16):FC Tryz.prog 24 [.t (docT d),VI k,VL 1 intT ks] (app emp []) (VI (pickP d k ks)) (app emp []):=by
 refine .go Tryz.f24 ?_
 refine .len 2 (fun hl2=> ?_)
 refine .loop (α:=Nat×(List Int)) [.r [],.r [],.r [(2,X (Xl nodeT d.nodes))],.le (.nR 7 1)] 57 (fun(i,o)=>([(1,VI k),(2,VL 1 intT ks),(7,.row 56 o.length),(13,VL 9 nodeT d.nodes),(14,VI (d.nodes.length:Int)),(15,VI (i:Int))],[(56,OR 1 intT o)])) (fun(i,o)=>i≤d.nodes.length∧o=pickL (d.nodes.take i) ks) (fun(i,o)=>d.nodes.length-i) (0,[]) ?_ ?_
 ·
  exact⟨by omega,rfl⟩
 rintro⟨i,o⟩ I3 ih3
 try dsimp only at I3
 have ol:=pickL_len (d.nodes.take i) ks
 rw[←I3.2] at ol
 have ob:o.length≤1048576*16:=Nat.le_trans ol (Nat.mul_le_mul (by(rw[List.length_take];omega)) hk)
 refine .bp [.r []] (decide ((i:Int)< (d.nodes.length:Int))) (fun h3=> ?_) (fun h3=> ?_)
 ·
  refine .loop (α:=Nat×(List Int)) [.r [(0,X (Xi nodeT d.nodes (i:Int)))],.r [(1,X (Xl intT ks))]] 121 (fun(j,q)=>([(1,VI k),(2,VL 1 intT ks),(7,.row 56 q.length),(9,.ptr 81 0),(13,VL 9 nodeT d.nodes),(14,VI (d.nodes.length:Int)),(15,VI (i:Int)),(19,VL 1 intT ks),(20,VI (ks.length:Int)),(21,VI (j:Int))],[(56,OR 1 intT q),(81,.box [VI (((d.nodes.getD i default)).id),VI (((d.nodes.getD i default)).kind),VL 2 attrT (((d.nodes.getD i default)).attrs),VL 3 elemT (((d.nodes.getD i default)).flow),VI ((((d.nodes.getD i default)).grid).rows),VI ((((d.nodes.getD i default)).grid).cols),VL 5 cellT ((((d.nodes.getD i default)).grid).cells),VL 4 rectT ((((d.nodes.getD i default)).grid).merges),VL 8 dopT (((d.nodes.getD i default)).draw)])])) (fun(j,q)=>j≤ks.length∧q=pickL (d.nodes.take i) ks++pickK (d.nodes.getD i default) (ks.take j)) (fun(j,q)=>ks.length-j) (0,o) ?_ ?_
  ·
   exact⟨by omega,by rw[I3.2];simp[pickK]⟩
  rintro⟨j,q⟩ I6 ih6
  try dsimp only at I6
  have ql:=pickK_len (d.nodes.getD i default) (ks.take j)
  have qo:=congrArg List.length I6.2
  rw[List.length_append,←I3.2] at qo
  rw[List.length_take] at ql
  refine .bp [.r []] (decide ((j:Int)< (ks.length:Int))) (fun h6=> ?_) (fun h6=> ?_)
  ·
   refine .bp [.r [(0,X (Xi intT ks (j:Int)))],.r []] ((((d.nodes.getD i default)).kind)==(ks.getD j default)) (fun h8=> ?_) (fun h8=> ?_)
   ·
    refine .back [.r [(4,X (rowC intT [((d.nodes.getD i default)).id] (Xap 1 intT 56 q [((d.nodes.getD i default)).id])))],.r [(0,X (Xn ((j:Int)+1)))]] [(56,56),(81,81)] (ih6 ((j+1),(q++[((d.nodes.getD i default)).id])) ?_ ?_)
    ·
     refine⟨by omega,?_⟩
     rw[I6.2,pickK_succ (by omega)]
     first|rw[if_pos h8,List.append_assoc]|rw[if_neg h8,List.append_nil]
    ·
     ((try dsimp only);omega)
   ·
    refine .back [.r [(0,X (Xn ((j:Int)+1)))]] [(56,56),(81,81)] (ih6 ((j+1),q) ?_ ?_)
    ·
     refine⟨by omega,?_⟩
     rw[I6.2,pickK_succ (by omega)]
     first|rw[if_pos h8,List.append_assoc]|rw[if_neg h8,List.append_nil]
    ·
     ((try dsimp only);omega)
  ·
   refine .back [.r [(0,X (Xn ((i:Int)+1)))]] [(56,56)] (ih3 ((i+1),q) ?_ ?_)
   ·
    refine⟨by omega,?_⟩
    rw[I6.2,show ks.take j=ks from List.take_of_length_le (by omega),pickL_succ (by omega)]
   ·
    ((try dsimp only);omega)
 ·
  have ho:o=pickL d.nodes ks:=by rw[I3.2,List.take_of_length_le (by omega)]
  refine .bp [.r []] ((o.length:Int)==0) (fun h12=> ?_) (fun h12=> ?_)
  ·
   have e1:((pickP d k ks):Int)=0:=by
    unfold pickP;rw[←ho,if_pos (by omega)]
   exact .finE [.r []] [] (fun z0:Int=>(VI z0,[])) _ _ e1
  ·
   have hw:=withinI_bd k (lo:=0) (hi:=(o.length:Int)- 1) (by omega)
   have e2:((pickP d k ks):Int)=(o.getD (Int.toNat (withinI k 0 ((o.length:Int)- 1))) default):=by
    unfold pickP;rw[←ho,if_neg (by omega)]
   exact .finE [.r [(4,X (Xn ((o.length:Int)- 1))),(5,X (Xc0 (fc_within k 0 ((o.length:Int)- 1) (by omega)) X0)),(6,X (Xp intT o (withinI k 0 ((o.length:Int)- 1)))),(7,X (Xe intT o (Int.toNat (withinI k 0 ((o.length:Int)- 1)))))]] [] (fun z0:Int=>(VI z0,[])) _ _ e2
end Go.Ch
end
section
set_option linter.unusedVariables false
set_option linter.unusedSimpArgs false
set_option maxRecDepth 100000
set_option maxHeartbeats 4000000
open Go Go.Proofs Go.Ab
namespace Go.Ch
theorem fc_decode(s:ByteArray)(h:0<s.size∧byt s 0<128):FC Tryz.prog 108 [VS s] (app emp []) (.tup [.t (.sc (.int .i32 (byt s 0:Int))),VI 1]) (app emp []):=by
 refine .go Tryz.f108 ?_
 have hz:seq s {data:=#[]}=false:=by rw[seq_mt,decide_eq_false (by omega)]
 have h2:=h.2
 unfold byt at h2
 refine .bp [.r [],.r [(4,Xv 1 (!(seq s ({data:=#[]}))) (Xb s 0)),(5,Xv 1 (!(seq s ({data:=#[]}))) X0),(6,X (Xk (!(seq s ({data:=#[]})))))]] (!(seq s ({data:=#[]}))&&decide (((((s[0]?).getD 0).toNat:Nat):Int)< 128)) (fun h1=> ?_) (fun h1=> ?_)
 ·
  have e1:((byt s 0:Int):Int)=((((s[0]?).getD 0).toNat:Nat):Int):=by
   rfl
  exact .finE [.r [(1,X (Xb s 0)),(2,X (Xcv IntKind.i32 ((((s[0]?).getD 0).toNat:Nat):Int)) (wrap_i32 (by omega)))]] [] (fun z0:Int=>(.tup [.t (.sc (.int .i32 z0)),VI 1],[])) _ _ e1
 ·
  exfalso
  rcases h1 with q|q;(rw[hz] at q;cases q);omega
theorem fc_ofAscR(s:ByteArray)(l:List Attr)(hs:AscN s)(hl:chkA false l 0=0)(hn:s.size≤1000000000)(hk:l.length≤1000000000):FC Tryz.prog 59 [VS s,VL 2 attrT l] (app emp []) (.tup [.row 0 ((ascL s l s.size).length),VI 0]) (app emp [(0,OR 3 elemT (ascL s l s.size))]):=by
 refine .go Tryz.f59 ?_
 refine .len 1 (fun hl1=> ?_)
 refine .bp [.r [],.r [(1,X (Xc0 (fc_acheck l) X0))],.r []] ((chkA false l 0) !=0) (fun h2=> ?_) (fun h2=> ?_)
 ·
  exfalso
  omega
 ·
  refine .loop (α:=ByteArray×(List Elem)) [.r [],.le (.nR 7 3)] 65 (fun(u,o)=>([(0,VS u),(1,VL 2 attrT l),(7,.row 64 o.length)],[(64,OR 3 elemT o)])) (fun(u,o)=>o.length≤s.size∧u=s.extract o.length s.size∧o=ascL s l o.length) (fun(u,o)=>s.size-o.length) (s,[]) ?_ ?_
  ·
   exact⟨by simp,(ext_all s).symm,rfl⟩
  rintro⟨u,o⟩ I5 ih5
  try dsimp only at I5
  have us:u.size=s.size-o.length:=by rw[I5.2.1,ext_size]
  refine .bp [.r []] (!(seq u ({data:=#[]}))) (fun h5=> ?_) (fun h5=> ?_)
  ·
   rw[seq_mt,decide_eq_false_iff_not] at h5
   have hb:=hs o.length (by omega)
   have hu:byt u 0=byt s o.length:=by rw[I5.2.1,ext_byt (by omega)]
   have h0:0<u.size∧byt u 0<128:=⟨by omega,by omega⟩
   refine .bp [.r [(1,X (Xc0 (fc_decode u (by assumption)) X0))],.r [(4,Xv 1 ((byt u 0:Int)==65533) X0),(5,X (Xk ((byt u 0:Int)==65533)))]] (((byt u 0:Int)==65533)||false) (fun h7=> ?_) (fun h7=> ?_)
   ·
    exfalso
    rcases h7 with q|q
    ·omega
    ·cases q
   ·
    refine .bp [.r [(1,X (Xn (byt u 0:Int))),(2,X (Xc0 (fc_char (byt u 0:Int)) X0))]] (!(decide (CharP (byt u 0:Int)))) (fun h9=> ?_) (fun h9=> ?_)
    ·
     exfalso
     unfold CharP at h9;omega
    ·
     refine .back [.r [(2,X (Xn (byt u 0:Int))),(4,X (Xan attrT 249 l)),(6,X (rowC attrT l X0)),(7,X (rowC elemT [({char:=(byt u 0:Int),ref:=0,attrs:=l}:Elem)] (Xap 3 elemT 64 o [({char:=(byt u 0:Int),ref:=0,attrs:=l}:Elem)])))],.r [(2,X (Xa (Xc ((0:Int)≤1)) (Xa (Xc ((1:Int)≤(u.size:Int))) (Xc (((u.size:Int):Int)≤(u.size:Int))))))]] [(64,64)] (ih5 ((u.extract ((1:Int)).toNat (((u.size:Int):Int)).toNat),(o++[({char:=(byt u 0:Int),ref:=0,attrs:=l}:Elem)])) ?_ ?_)
     ·
      simp only[List.length_append,List.length_cons,List.length_nil]
      refine⟨by omega,?_,?_⟩
      ·show u.extract 1 u.size=_
       rw[I5.2.1];exact ext_ext
      ·rw[Nat.zero_add,ascL_succ,←I5.2.2,hu]
     ·
      simp only[List.length_append,List.length_cons,List.length_nil];omega
  ·
   rw[seq_mt,decide_eq_true_eq] at h5
   have hfin:ascL s l s.size=o:=by rw[show s.size=o.length by omega];exact I5.2.2.symm
   have e1:((ascL s l s.size):List Elem)=o:=by
    rw[hfin]
   have e2:((ascL s l s.size).length:Nat)=o.length:=by
    rw[hfin]
   exact .finE [.r []] [(64,0)] (fun((z0,z1):(List Elem)×Nat)=>(.tup [.row 0 z1,VI 0],[(0,OR 3 elemT z0)])) _ _ (pr e1 e2)
theorem ofAsc(t:ByteArray)(h:AscN t)(hn:t.size≤1000000):OfFC t (ascC t):=fun l h1 h2=>by
 have h:=fc_ofAscR t l h h1 (by omega) (by omega)
 rw[ascL_map] at h
 exact h
end Go.Ch
end
section
set_option linter.unusedVariables false
set_option linter.unusedSimpArgs false
set_option maxRecDepth 100000
set_option maxHeartbeats 4000000
open Go Go.Proofs Go.Ab
namespace Go.Ch
theorem fc_erase(d:Doc)(s:Sel)(au:ByteArray)(hb:DocL d)(hx:atE d s au=0→TypB d s (ascC {data:=#[]}) au):FC Tryz.prog 28 [.t (docT d),.t (selT s),VS au] (app emp []) (.tup [VL 19 eopT (typeO d s (ascC {data:=#[]}) au),.t (selT (typeS d s (ascC {data:=#[]}) au)),VI (atE d s au)]) (app emp []):=by
 refine .go Tryz.f28 ?_
 have hof:=ofAsc {data:=#[]} asc_mt (by decide)
 have ht:({data:=#[]}:ByteArray).size≤20000:=by decide
 have e1:((typeS d s (ascC {data:=#[]}) au):Sel)=((typeS d s (ascC {data:=#[]}) au)):=by
  (first|omega|with_reducible exact fun h=>h| (intro hq;rw[hq];done)| (intro hq;rw[hq];rfl)| (simp only[List.length_map];done)| (simp only[List.length_map];omega)| (simp;omega)| (simp;done))
 exact .finVE [.r [],.r [(3,X (Xc1 64 (fc_type d s ({data:=#[]}) (ascC {data:=#[]}) au (by assumption) (by assumption) (by assumption) (by assumption)) X0))]] [] [] (fun z0:Sel=>(.tup [VL 19 eopT (typeO d s (ascC {data:=#[]}) au),.t (selT z0),VI (atE d s au)],[])) _ _ e1
theorem fc_typeA(d:Doc)(s:Sel)(t au:ByteArray)(hb:DocL d)(ht:AscN t)(hn:t.size≤20000)(hx:atE d s au=0→TypB d s (ascC t) au):FC Tryz.prog 27 [.t (docT d),.t (selT s),VS t,VS au] (app emp []) (.tup [VL 19 eopT (typeO d s (ascC t) au),.t (selT (typeS d s (ascC t) au)),VI (atE d s au)]) (app emp []):=
 fc_type d s t (ascC t) au (ofAsc t ht (by omega)) hb hn hx
theorem fc_command(d:Doc)(site a b c:Int)(hb:DocL d)(hx:CmdB d site b c):FC Tryz.prog 16 [.t (docT d),VI site,VI a,VI b,VI c] (app emp []) (VL 19 eopT (cmdP d site a b c)) (app emp []):=by
 refine .go Tryz.f16 ?_
 have hl:=hb.len
 have hfl:=nodeF_len hb (cmdI d b)
 have hdr:=nodeF_drl hb (pickP d b [10,8])
 have hsr:=shwR_len (nodeF d (cmdI d b)).flow (nodeF d (cmdI d b)).flow.length
 have hmo:=cmdM_bd hb b
 have hfr:=cmdF_bd hb b c
 refine .bp [.r [],.r [(2,X (Xc ((7:Int)≠0))),(4,X (Xc0 (fc_pick d (IntKind.i64.wrap (b.tdiv 7)) [1,3,4,12] (by omega) (by first|omega|simp)) (rowC intT [1,3,4,12] X0)))],.le (.eq 11 (VI (pickP d (IntKind.i64.wrap (b.tdiv 7)) [1,3,4,12])) (VI (cmdI d b)) (.of_eq rfl)),.r [(2,X (Xc1 80 (fc_node d (cmdI d b) (by assumption)) X0))],.r [(2,X (Xc1 152 (fc_shownR (((nodeF d (cmdI d b))).flow) (by omega)) X0)),(3,X (Xl intT (shwR (((nodeF d (cmdI d b))).flow) ((((nodeF d (cmdI d b))).flow)).length))),(4,X (Xn (((shwR (((nodeF d (cmdI d b))).flow) ((((nodeF d (cmdI d b))).flow)).length).length:Int)- 1))),(5,X (Xmax 0 (((shwR (((nodeF d (cmdI d b))).flow) ((((nodeF d (cmdI d b))).flow)).length).length:Int)- 1)))],.le (.eq 14 (VI (max 0 (((shwR (((nodeF d (cmdI d b))).flow) ((((nodeF d (cmdI d b))).flow)).length).length:Int)- 1))) (VI (cmdM d b)) (.of_eq rfl)),.r [(1,X (Xc ((5:Int)≠0))),(3,X (Xc0 (fc_within (IntKind.i64.wrap (c.tdiv 5)) 0 (cmdM d b) (by omega)) X0))],.le (.eq 15 (VI (withinI (IntKind.i64.wrap (c.tdiv 5)) 0 (cmdM d b))) (VI (cmdF d b c)) (.of_eq rfl)),.r [(3,X (Xc ((11:Int)≠0))),(7,X (Xn ((cmdF d b c)+4))),(8,X (Xmin (cmdM d b) ((cmdF d b c)+4))),(9,X (Xc0 (fc_within (IntKind.i64.wrap (c.tdiv 11)) (cmdF d b c) (min (cmdM d b) ((cmdF d b c)+4)) (by omega)) X0))],.r [],.le (.eb 320 2 (VI (withinI (IntKind.i64.wrap (c.tdiv 11)) (cmdF d b c) (min (cmdM d b) ((cmdF d b c)+4)))) (VI (cmdT d b c)) rfl),.r [(1,X (Xc0 (fc_within a 0 13 (by omega)) X0))],.r []] ((withinI a 0 13)==0) (fun h12=> ?_) (fun h12=> ?_)
 ·
  have w0:=withinI_bd b (lo:=0) (hi:=4) (by decide)
  have ha:=txt5_asc (Int.toNat (withinI b 0 4))
  have hn:=txt5_len (Int.toNat (withinI b 0 4))
  have ht:=hx.ty (txt5.getD (Int.toNat (withinI b 0 4)) default) {data:=#[]} (by assumption) (by assumption)
  have e1:((cmdP d site a b c):List EOp)=(typeO d ({nd:=(cmdI d b),fr:=(cmdF d b c),tq:=(cmdT d b c)}:Sel) (ascC ([{data:=#[120]},{data:=#[121,122]},{data:=#[10]},{data:=#[119,32,118]},{data:=#[98]}].getD (Int.toNat (withinI b 0 4)) default)) ({data:=#[]})):=by
   unfold cmdP;((repeat' split)<;>first|rfl|omega| (simp_all;done)| (simp_all;omega))
  exact .finE [.le (.eq 88 (VB ((withinI a 0 13)==0)) (VB true) (.of_eq (by simp[h12]))),.t,.r [(4,X (Xc0 (fc_within b 0 4 (by omega)) X0)),(5,X (Xp strT [{data:=#[120]},{data:=#[121,122]},{data:=#[10]},{data:=#[119,32,118]},{data:=#[98]}] (withinI b 0 4))),(6,X (Xe strT [{data:=#[120]},{data:=#[121,122]},{data:=#[10]},{data:=#[119,32,118]},{data:=#[98]}] (Int.toNat (withinI b 0 4)))),(7,X (Xc1 432 (fc_typeA d ({nd:=(cmdI d b),fr:=(cmdF d b c),tq:=(cmdT d b c)}:Sel) ([{data:=#[120]},{data:=#[121,122]},{data:=#[10]},{data:=#[119,32,118]},{data:=#[98]}].getD (Int.toNat (withinI b 0 4)) default) ({data:=#[]}) (by assumption) (by assumption) (by assumption) (by assumption)) X0))],.r []] [] (fun z0:List EOp=>(VL 19 eopT z0,[])) _ _ e1
 ·
  refine .bp [.le (.eq 88 (VB ((withinI a 0 13)==0)) (VB false) (.of_eq (by simp[h12]))),.r []] ((withinI a 0 13)==1) (fun h13=> ?_) (fun h13=> ?_)
  ·
   have w0:=withinI_bd b (lo:=0) (hi:=4) (by decide)
   have ha:=txt5_asc (Int.toNat (withinI b 0 4))
   have hn:=txt5_len (Int.toNat (withinI b 0 4))
   have ht:=hx.ty (txt5.getD (Int.toNat (withinI b 0 4)) default) {data:=#[]} (by assumption) (by assumption)
   have e2:((cmdP d site a b c):List EOp)=(typeO d ({nd:=(cmdI d b),fr:=(cmdF d b c),tq:=(cmdT d b c)}:Sel) (ascC ([{data:=#[120]},{data:=#[121,122]},{data:=#[10]},{data:=#[119,32,118]},{data:=#[98]}].getD (Int.toNat (withinI b 0 4)) default)) ({data:=#[]})):=by
    unfold cmdP;((repeat' split)<;>first|rfl|omega| (simp_all;done)| (simp_all;omega))
   exact .finE [.le (.eq 88 (VB ((withinI a 0 13)==1)) (VB true) (.of_eq (by simp[h13]))),.t,.r [(4,X (Xc0 (fc_within b 0 4 (by omega)) X0)),(5,X (Xp strT [{data:=#[120]},{data:=#[121,122]},{data:=#[10]},{data:=#[119,32,118]},{data:=#[98]}] (withinI b 0 4))),(6,X (Xe strT [{data:=#[120]},{data:=#[121,122]},{data:=#[10]},{data:=#[119,32,118]},{data:=#[98]}] (Int.toNat (withinI b 0 4)))),(7,X (Xc1 448 (fc_typeA d ({nd:=(cmdI d b),fr:=(cmdF d b c),tq:=(cmdT d b c)}:Sel) ([{data:=#[120]},{data:=#[121,122]},{data:=#[10]},{data:=#[119,32,118]},{data:=#[98]}].getD (Int.toNat (withinI b 0 4)) default) ({data:=#[]}) (by assumption) (by assumption) (by assumption) (by assumption)) X0))],.r []] [] (fun z0:List EOp=>(VL 19 eopT z0,[])) _ _ e2
  ·
   refine .bp [.le (.eq 88 (VB ((withinI a 0 13)==1)) (VB false) (.of_eq (by simp[h13]))),.r []] ((withinI a 0 13)==2) (fun h14=> ?_) (fun h14=> ?_)
   ·
    have w0:=withinI_bd b (lo:=0) (hi:=4) (by decide)
    have ha:=txt5_asc (Int.toNat (withinI b 0 4))
    have hn:=txt5_len (Int.toNat (withinI b 0 4))
    have ht:=hx.ty (txt5.getD (Int.toNat (withinI b 0 4)) default) {data:=#[]} (by assumption) (by assumption)
    have e3:((cmdP d site a b c):List EOp)=(typeO d ({nd:=(cmdI d b),fr:=(cmdF d b c),tq:=(cmdT d b c)}:Sel) (ascC ([{data:=#[120]},{data:=#[121,122]},{data:=#[10]},{data:=#[119,32,118]},{data:=#[98]}].getD (Int.toNat (withinI b 0 4)) default)) ({data:=#[]})):=by
     unfold cmdP;((repeat' split)<;>first|rfl|omega| (simp_all;done)| (simp_all;omega))
    exact .finE [.le (.eq 88 (VB ((withinI a 0 13)==2)) (VB true) (.of_eq (by simp[h14]))),.r [(4,X (Xc0 (fc_within b 0 4 (by omega)) X0)),(5,X (Xp strT [{data:=#[120]},{data:=#[121,122]},{data:=#[10]},{data:=#[119,32,118]},{data:=#[98]}] (withinI b 0 4))),(6,X (Xe strT [{data:=#[120]},{data:=#[121,122]},{data:=#[10]},{data:=#[119,32,118]},{data:=#[98]}] (Int.toNat (withinI b 0 4)))),(7,X (Xc1 464 (fc_typeA d ({nd:=(cmdI d b),fr:=(cmdF d b c),tq:=(cmdT d b c)}:Sel) ([{data:=#[120]},{data:=#[121,122]},{data:=#[10]},{data:=#[119,32,118]},{data:=#[98]}].getD (Int.toNat (withinI b 0 4)) default) ({data:=#[]}) (by assumption) (by assumption) (by assumption) (by assumption)) X0))],.r []] [] (fun z0:List EOp=>(VL 19 eopT z0,[])) _ _ e3
   ·
    refine .bp [.le (.eq 88 (VB ((withinI a 0 13)==2)) (VB false) (.of_eq (by simp[h14]))),.r []] ((withinI a 0 13)==3) (fun h16=> ?_) (fun h16=> ?_)
    ·
     have ht:=hx.ty {data:=#[]} {data:=#[]} asc_mt (by decide)
     have e4:((cmdP d site a b c):List EOp)=(typeO d ({nd:=(cmdI d b),fr:=(cmdF d b c),tq:=(cmdT d b c)}:Sel) (ascC {data:=#[]}) ({data:=#[]})):=by
      unfold cmdP;((repeat' split)<;>first|rfl|omega| (simp_all;done)| (simp_all;omega))
     exact .finE [.r [(2,X (Xc1 440 (fc_erase d ({nd:=(cmdI d b),fr:=(cmdF d b c),tq:=(cmdT d b c)}:Sel) ({data:=#[]}) (by assumption) (by assumption)) X0))],.r []] [] (fun z0:List EOp=>(VL 19 eopT z0,[])) _ _ e4
    ·
     refine .bp [.r []] ((withinI a 0 13)==4) (fun h18=> ?_) (fun h18=> ?_)
     ·
      have ha:=asc_t
      have hn:({data:=#[116]}:ByteArray).size≤20000:=by decide
      have ht:=hx.ty {data:=#[116]} {data:=#[97,110,110]} ha hn
      have e5:((cmdP d site a b c):List EOp)=(typeO d ({nd:=(cmdI d b),fr:=(cmdF d b c),tq:=(cmdT d b c)}:Sel) (ascC ({data:=#[116]})) ({data:=#[97,110,110]})):=by
       unfold cmdP;((repeat' split)<;>first|rfl|omega| (simp_all;done)| (simp_all;omega))
      exact .finE [.r [(2,X (Xc1 456 (fc_typeA d ({nd:=(cmdI d b),fr:=(cmdF d b c),tq:=(cmdT d b c)}:Sel) ({data:=#[116]}) ({data:=#[97,110,110]}) (by assumption) (by assumption) (by assumption) (by assumption)) X0))],.r []] [] (fun z0:List EOp=>(VL 19 eopT z0,[])) _ _ e5
     ·
      refine .bp [.r []] ((withinI a 0 13)==5) (fun h20=> ?_) (fun h20=> ?_)
      ·
       have w0:=withinI_bd b (lo:=0) (hi:=2) (by decide)
       have w1:=withinI_bd (IntKind.i64.wrap (a.tdiv 14)) (lo:=0) (hi:=2) (by decide)
       have hf:=hx.fm
       have e6:((cmdP d site a b c):List EOp)=(fmtO d ({nd:=(cmdI d b),fr:=(cmdF d b c),tq:=(cmdT d b c)}:Sel) [({name:=([{data:=#[98,111,108,100]},{data:=#[115,105,122,101]},{data:=#[109,97,114,107,46,109]}].getD (Int.toNat (withinI b 0 2)) default),val:=([{data:=#[]},{data:=#[111,110]},{data:=#[52,48]}].getD (Int.toNat (withinI (IntKind.i64.wrap (a.tdiv 14)) 0 2)) default)}:Attr)]):=by
        unfold cmdP;((repeat' split)<;>first|rfl|omega| (simp_all;done)| (simp_all;omega))
       exact .finE [.r [(4,X (Xc0 (fc_within b 0 2 (by omega)) X0)),(5,X (Xp strT [{data:=#[98,111,108,100]},{data:=#[115,105,122,101]},{data:=#[109,97,114,107,46,109]}] (withinI b 0 2))),(6,X (Xe strT [{data:=#[98,111,108,100]},{data:=#[115,105,122,101]},{data:=#[109,97,114,107,46,109]}] (Int.toNat (withinI b 0 2)))),(9,X (Xc ((14:Int)≠0))),(10,X (Xc0 (fc_within (IntKind.i64.wrap (a.tdiv 14)) 0 2 (by omega)) X0)),(11,X (Xp strT [{data:=#[]},{data:=#[111,110]},{data:=#[52,48]}] (withinI (IntKind.i64.wrap (a.tdiv 14)) 0 2))),(12,X (Xe strT [{data:=#[]},{data:=#[111,110]},{data:=#[52,48]}] (Int.toNat (withinI (IntKind.i64.wrap (a.tdiv 14)) 0 2)))),(15,X (Xc1 576 (fc_format d ({nd:=(cmdI d b),fr:=(cmdF d b c),tq:=(cmdT d b c)}:Sel) [({name:=([{data:=#[98,111,108,100]},{data:=#[115,105,122,101]},{data:=#[109,97,114,107,46,109]}].getD (Int.toNat (withinI b 0 2)) default),val:=([{data:=#[]},{data:=#[111,110]},{data:=#[52,48]}].getD (Int.toNat (withinI (IntKind.i64.wrap (a.tdiv 14)) 0 2)) default)}:Attr)] (by assumption) (by first|omega|simp) (by assumption)) (rowC attrT [({name:=([{data:=#[98,111,108,100]},{data:=#[115,105,122,101]},{data:=#[109,97,114,107,46,109]}].getD (Int.toNat (withinI b 0 2)) default),val:=([{data:=#[]},{data:=#[111,110]},{data:=#[52,48]}].getD (Int.toNat (withinI (IntKind.i64.wrap (a.tdiv 14)) 0 2)) default)}:Attr)] X0)))],.r []] [] (fun z0:List EOp=>(VL 19 eopT z0,[])) _ _ e6
      ·
       refine .bp [.r []] ((withinI a 0 13)==6) (fun h22=> ?_) (fun h22=> ?_)
       ·
        have w0:=withinI_bd b (lo:=0) (hi:=2) (by decide)
        have w1:=withinI_bd (IntKind.i64.wrap (a.tdiv 14)) (lo:=0) (hi:=2) (by decide)
        have hf:=hx.pa
        have e7:((cmdP d site a b c):List EOp)=(parO d ({nd:=(cmdI d b),fr:=(cmdF d b c),tq:=(cmdT d b c)}:Sel) [({name:=([{data:=#[104,101,97,100]},{data:=#[108,105,115,116]},{data:=#[97,108,105,103,110]}].getD (Int.toNat (withinI b 0 2)) default),val:=([{data:=#[49]},{data:=#[50]},{data:=#[]}].getD (Int.toNat (withinI (IntKind.i64.wrap (a.tdiv 14)) 0 2)) default)}:Attr)]):=by
         unfold cmdP;((repeat' split)<;>first|rfl|omega| (simp_all;done)| (simp_all;omega))
        exact .finE [.r [(4,X (Xc0 (fc_within b 0 2 (by omega)) X0)),(5,X (Xp strT [{data:=#[104,101,97,100]},{data:=#[108,105,115,116]},{data:=#[97,108,105,103,110]}] (withinI b 0 2))),(6,X (Xe strT [{data:=#[104,101,97,100]},{data:=#[108,105,115,116]},{data:=#[97,108,105,103,110]}] (Int.toNat (withinI b 0 2)))),(9,X (Xc ((14:Int)≠0))),(10,X (Xc0 (fc_within (IntKind.i64.wrap (a.tdiv 14)) 0 2 (by omega)) X0)),(11,X (Xp strT [{data:=#[49]},{data:=#[50]},{data:=#[]}] (withinI (IntKind.i64.wrap (a.tdiv 14)) 0 2))),(12,X (Xe strT [{data:=#[49]},{data:=#[50]},{data:=#[]}] (Int.toNat (withinI (IntKind.i64.wrap (a.tdiv 14)) 0 2)))),(15,X (Xc1 592 (fc_formatP d ({nd:=(cmdI d b),fr:=(cmdF d b c),tq:=(cmdT d b c)}:Sel) [({name:=([{data:=#[104,101,97,100]},{data:=#[108,105,115,116]},{data:=#[97,108,105,103,110]}].getD (Int.toNat (withinI b 0 2)) default),val:=([{data:=#[49]},{data:=#[50]},{data:=#[]}].getD (Int.toNat (withinI (IntKind.i64.wrap (a.tdiv 14)) 0 2)) default)}:Attr)] (by assumption) (by first|omega|simp) (by assumption)) (rowC attrT [({name:=([{data:=#[104,101,97,100]},{data:=#[108,105,115,116]},{data:=#[97,108,105,103,110]}].getD (Int.toNat (withinI b 0 2)) default),val:=([{data:=#[49]},{data:=#[50]},{data:=#[]}].getD (Int.toNat (withinI (IntKind.i64.wrap (a.tdiv 14)) 0 2)) default)}:Attr)] X0)))],.r []] [] (fun z0:List EOp=>(VL 19 eopT z0,[])) _ _ e7
       ·
        refine .bp [.r []] ((withinI a 0 13)==7) (fun h24=> ?_) (fun h24=> ?_)
        ·
         have w1:=withinI_bd b (lo:=1) (hi:=3) (by decide)
         have w2:=withinI_bd (IntKind.i64.wrap (a.tdiv 14)) (lo:=1) (hi:=3) (by decide)
         have ho:=hx.ob (tblN (withinI b 1 3) (withinI (IntKind.i64.wrap (a.tdiv 14)) 1 3))
         have e8:((cmdP d site a b c):List EOp)=(objO d ({nd:=(cmdI d b),fr:=(cmdF d b c),tq:=(cmdT d b c)}:Sel) (tblN (withinI b 1 3) (withinI (IntKind.i64.wrap (a.tdiv 14)) 1 3)) site ({data:=#[]})):=by
          unfold cmdP;((repeat' split)<;>first|rfl|omega| (simp_all;done)| (simp_all;omega))
         exact .finE [.r [(3,X (Xc0 (fc_within b 1 3 (by omega)) X0)),(5,X (Xc ((14:Int)≠0))),(6,X (Xc0 (fc_within (IntKind.i64.wrap (a.tdiv 14)) 1 3 (by omega)) X0)),(8,X (Xc1 552 (fc_insT d ({nd:=(cmdI d b),fr:=(cmdF d b c),tq:=(cmdT d b c)}:Sel) (withinI b 1 3) (withinI (IntKind.i64.wrap (a.tdiv 14)) 1 3) site ({data:=#[]}) (by omega) (by assumption) (by assumption)) X0))],.r []] [] (fun z0:List EOp=>(VL 19 eopT z0,[])) _ _ e8
        ·
         refine .bp [.r []] ((withinI a 0 13)==8) (fun h26=> ?_) (fun h26=> ?_)
         ·
          have ho:=hx.ob (notN (b.tmod 2==0))
          have e9:((cmdP d site a b c):List EOp)=(objO d ({nd:=(cmdI d b),fr:=(cmdF d b c),tq:=(cmdT d b c)}:Sel) (notN ((b.tmod 2)==0)) site ({data:=#[]})):=by
           unfold cmdP;((repeat' split)<;>first|rfl|omega| (simp_all;done)| (simp_all;omega))
          exact .finE [.r [(3,X (Xc ((2:Int)≠0))),(6,X (Xc1 552 (fc_insN d ({nd:=(cmdI d b),fr:=(cmdF d b c),tq:=(cmdT d b c)}:Sel) ((b.tmod 2)==0) site ({data:=#[]}) (by assumption) (by assumption)) X0))],.r []] [] (fun z0:List EOp=>(VL 19 eopT z0,[])) _ _ e9
         ·
          refine .bp [.r []] ((withinI a 0 13)==9) (fun h28=> ?_) (fun h28=> ?_)
          ·
           have hc:=seq_chk
           have ho:=hx.ob (fldN seqA)
           have e10:((cmdP d site a b c):List EOp)=(objO d ({nd:=(cmdI d b),fr:=(cmdF d b c),tq:=(cmdT d b c)}:Sel) (fldN [({name:={data:=#[107,105,110,100]},val:={data:=#[115,101,113]}}:Attr)]) site ({data:=#[]})):=by
            unfold cmdP;((repeat' split)<;>first|rfl|omega| (simp_all;done)| (simp_all;omega))
           exact .finE [.r [(5,X (Xc1 560 (fc_insF d ({nd:=(cmdI d b),fr:=(cmdF d b c),tq:=(cmdT d b c)}:Sel) [({name:={data:=#[107,105,110,100]},val:={data:=#[115,101,113]}}:Attr)] site ({data:=#[]}) (by assumption) (by first|omega|simp) (by assumption) (by assumption)) (rowC attrT [({name:={data:=#[107,105,110,100]},val:={data:=#[115,101,113]}}:Attr)] X0)))],.r []] [] (fun z0:List EOp=>(VL 19 eopT z0,[])) _ _ e10
          ·
           refine .bp [.r []] ((withinI a 0 13)==10) (fun h30=> ?_) (fun h30=> ?_)
           ·
            have w0:=withinI_bd (IntKind.i64.wrap (a.tdiv 14)) (lo:=0) (hi:=2) (by decide)
            have w1:=withinI_bd c (lo:=0) (hi:=2) (by decide)
            have w2:=rows3_bd (Int.toNat (withinI (IntKind.i64.wrap (a.tdiv 14)) 0 2))
            have e11:((cmdP d site a b c):List EOp)=(rshO d (pickP d b [2,6]) (withinI c 0 2) ([1,2,-1].getD (Int.toNat (withinI (IntKind.i64.wrap (a.tdiv 14)) 0 2)) default)):=by
             unfold cmdP;((repeat' split)<;>first|rfl|omega| (simp_all;done)| (simp_all;omega))
            exact .finE [.r [(4,X (Xc0 (fc_pick d b [2,6] (by omega) (by first|omega|simp)) (rowC intT [2,6] X0))),(6,X (Xc0 (fc_within c 0 2 (by omega)) X0)),(9,X (Xc ((14:Int)≠0))),(10,X (Xc0 (fc_within (IntKind.i64.wrap (a.tdiv 14)) 0 2 (by omega)) X0)),(11,X (Xp intT [1,2,-1] (withinI (IntKind.i64.wrap (a.tdiv 14)) 0 2))),(12,X (Xe intT [1,2,-1] (Int.toNat (withinI (IntKind.i64.wrap (a.tdiv 14)) 0 2)))),(13,X (Xc1 640 (fc_Rows d (pickP d b [2,6]) (withinI c 0 2) ([1,2,-1].getD (Int.toNat (withinI (IntKind.i64.wrap (a.tdiv 14)) 0 2)) default) (by assumption) (by omega) (by omega)) X0))],.r []] [] (fun z0:List EOp=>(VL 19 eopT z0,[])) _ _ e11
           ·
            refine .bp [.r []] ((withinI a 0 13)==11) (fun h32=> ?_) (fun h32=> ?_)
            ·
             have w0:=withinI_bd (IntKind.i64.wrap (a.tdiv 14)) (lo:=0) (hi:=2) (by decide)
             have w1:=withinI_bd c (lo:=0) (hi:=2) (by decide)
             have w2:=rows3_bd (Int.toNat (withinI (IntKind.i64.wrap (a.tdiv 14)) 0 2))
             have e12:((cmdP d site a b c):List EOp)=(cshO d (pickP d b [2,6]) (withinI c 0 2) ([1,2,-1].getD (Int.toNat (withinI (IntKind.i64.wrap (a.tdiv 14)) 0 2)) default)):=by
              unfold cmdP;((repeat' split)<;>first|rfl|omega| (simp_all;done)| (simp_all;omega))
             exact .finE [.r [(4,X (Xc0 (fc_pick d b [2,6] (by omega) (by first|omega|simp)) (rowC intT [2,6] X0))),(6,X (Xc0 (fc_within c 0 2 (by omega)) X0)),(9,X (Xc ((14:Int)≠0))),(10,X (Xc0 (fc_within (IntKind.i64.wrap (a.tdiv 14)) 0 2 (by omega)) X0)),(11,X (Xp intT [1,2,-1] (withinI (IntKind.i64.wrap (a.tdiv 14)) 0 2))),(12,X (Xe intT [1,2,-1] (Int.toNat (withinI (IntKind.i64.wrap (a.tdiv 14)) 0 2)))),(13,X (Xc1 656 (fc_Columns d (pickP d b [2,6]) (withinI c 0 2) ([1,2,-1].getD (Int.toNat (withinI (IntKind.i64.wrap (a.tdiv 14)) 0 2)) default) (by assumption) (by omega) (by omega)) X0))],.r []] [] (fun z0:List EOp=>(VL 19 eopT z0,[])) _ _ e12
            ·
             refine .bp [.r []] ((withinI a 0 13)==12) (fun h34=> ?_) (fun h34=> ?_)
             ·
              have e13:((cmdP d site a b c):List EOp)=(celO d (pickP d b [2]) (withinI c 0 2) (withinI (IntKind.i64.wrap (a.tdiv 14)) 0 2) site):=by
               unfold cmdP;((repeat' split)<;>first|rfl|omega| (simp_all;done)| (simp_all;omega))
              exact .finE [.r [(4,X (Xc0 (fc_pick d b [2] (by omega) (by first|omega|simp)) (rowC intT [2] X0))),(6,X (Xc0 (fc_within c 0 2 (by omega)) X0)),(8,X (Xc ((14:Int)≠0))),(9,X (Xc0 (fc_within (IntKind.i64.wrap (a.tdiv 14)) 0 2 (by omega)) X0)),(11,X (Xc1 656 (fc_Cell d (pickP d b [2]) (withinI c 0 2) (withinI (IntKind.i64.wrap (a.tdiv 14)) 0 2) site (by assumption)) X0))],.r []] [] (fun z0:List EOp=>(VL 19 eopT z0,[])) _ _ e13
             ·
              refine .bp [.r [(4,X (Xc0 (fc_pick d b [10,8] (by omega) (by first|omega|simp)) (rowC intT [10,8] X0))),(5,X (Xc1 608 (fc_node d (pickP d b [10,8]) (by assumption)) X0))],.r []] (nodeH d (pickP d b [10,8])) (fun h9=> ?_) (fun h9=> ?_)
              ·
               have w0:=withinI_bd (IntKind.i64.wrap (a.tdiv 14)) (lo:=(-1)) (hi:=3) (by decide)
               have w1:=withinI_bd c (lo:=1) (hi:=3) (by decide)
               have w2:=withinI_bd c (lo:=0) (hi:=2) (by decide)
               have hlc:=hx.lc
               have e14:((cmdP d site a b c):List EOp)=[({kind:=4,node:=((nodeF d (pickP d b [10,8]))).id,nw:=({id:=0,kind:=0,attrs:=[],flow:=[],grid:=({rows:=0,cols:=0,cells:=[],merges:=[]}:Grid),draw:=[]}:Node),attrs:=[],steps:=[],grid:=({rows:=[],cols:=[],cells:=[],split:=[],merge:=[]}:GEd),draw:=[({clock:=(1+(lastC ((nodeF d (pickP d b [10,8]))))),site:=site,kind:=0,itm:=(withinI c 1 3),prt:=(withinI (IntKind.i64.wrap (a.tdiv 14)) (-1) 3),plc:={data:=#[98]},nm:={data:=#[]},vl:={data:=#[]}}:DOp)]}:EOp)]:=by
                unfold cmdP;((repeat' split)<;>first|rfl|omega| (simp_all;done)| (simp_all;omega))
               exact .finE [.r [(3,X (Xc0 (fc_lastC ((nodeF d (pickP d b [10,8]))) (by assumption)) X0)),(4,X (Xn (1+(lastC ((nodeF d (pickP d b [10,8]))))))),(7,X (Xc0 (fc_within c 1 3 (by omega)) X0)),(9,X (Xc ((14:Int)≠0))),(10,X (Xc0 (fc_within (IntKind.i64.wrap (a.tdiv 14)) (-1) 3 (by omega)) X0)),(13,X (Xf [(4,2),(5,3),(8,5),(9,4),(10,8),(11,2),(12,4),(13,2),(14,2),(15,5),(16,4),(17,4)])),(14,X (rowC dopT [({clock:=(1+(lastC ((nodeF d (pickP d b [10,8]))))),site:=site,kind:=0,itm:=(withinI c 1 3),prt:=(withinI (IntKind.i64.wrap (a.tdiv 14)) (-1) 3),plc:={data:=#[98]},nm:={data:=#[]},vl:={data:=#[]}}:DOp)] X0))],.r [],.le (.fr 10 [(1:Nat)=(List.map eopT [({kind:=4,node:=((nodeF d (pickP d b [10,8]))).id,nw:=({id:=0,kind:=0,attrs:=[],flow:=[],grid:=({rows:=0,cols:=0,cells:=[],merges:=[]}:Grid),draw:=[]}:Node),attrs:=[],steps:=[],grid:=({rows:=[],cols:=[],cells:=[],split:=[],merge:=[]}:GEd),draw:=[({clock:=(1+(lastC ((nodeF d (pickP d b [10,8]))))),site:=site,kind:=0,itm:=(withinI c 1 3),prt:=(withinI (IntKind.i64.wrap (a.tdiv 14)) (-1) 3),plc:={data:=#[98]},nm:={data:=#[]},vl:={data:=#[]}}:DOp)]}:EOp)]).length] ⟨lm,trivial⟩)] [] (fun z0:List EOp=>(VL 19 eopT z0,[])) _ _ e14
              ·
               have w2:=withinI_bd c (lo:=0) (hi:=2) (by decide)
               have e15:((cmdP d site a b c):List EOp)=[({kind:=1,node:=1,nw:=({id:=0,kind:=0,attrs:=[],flow:=[],grid:=({rows:=0,cols:=0,cells:=[],merges:=[]}:Grid),draw:=[]}:Node),attrs:=[({name:={data:=#[116,105,116,108,101]},val:=([{data:=#[]},{data:=#[112]},{data:=#[113]}].getD (Int.toNat (withinI c 0 2)) default)}:Attr)],steps:=[],grid:=({rows:=[],cols:=[],cells:=[],split:=[],merge:=[]}:GEd),draw:=[]}:EOp)]:=by
                unfold cmdP;((repeat' split)<;>first|rfl|omega| (simp_all;done)| (simp_all;omega))
               exact .finE [.r [(2,X (Xc0 (fc_within c 0 2 (by omega)) X0)),(3,X (Xp strT [{data:=#[]},{data:=#[112]},{data:=#[113]}] (withinI c 0 2))),(4,X (Xe strT [{data:=#[]},{data:=#[112]},{data:=#[113]}] (Int.toNat (withinI c 0 2)))),(7,X (Xf [(4,2),(5,3),(8,5),(9,4),(10,8),(12,4),(13,2),(14,2),(15,5),(16,4),(17,4),(18,8)])),(8,X (rowC attrT [({name:={data:=#[116,105,116,108,101]},val:=([{data:=#[]},{data:=#[112]},{data:=#[113]}].getD (Int.toNat (withinI c 0 2)) default)}:Attr)] X0))],.r [],.le (.fr 10 [(1:Nat)=(List.map eopT [({kind:=1,node:=1,nw:=({id:=0,kind:=0,attrs:=[],flow:=[],grid:=({rows:=0,cols:=0,cells:=[],merges:=[]}:Grid),draw:=[]}:Node),attrs:=[({name:={data:=#[116,105,116,108,101]},val:=([{data:=#[]},{data:=#[112]},{data:=#[113]}].getD (Int.toNat (withinI c 0 2)) default)}:Attr)],steps:=[],grid:=({rows:=[],cols:=[],cells:=[],split:=[],merge:=[]}:GEd),draw:=[]}:EOp)]).length] ⟨lm,trivial⟩)] [] (fun z0:List EOp=>(VL 19 eopT z0,[])) _ _ e15
end Go.Ch
end
section
set_option linter.unusedVariables false
set_option linter.unusedSimpArgs false
set_option maxRecDepth 100000
set_option maxHeartbeats 4000000
open Go Go.Proofs Go.Ab
namespace Go.Ch
theorem fc_dLengths(l:List DStep)(hd:DN 400000000000 l)(hv:DValid l):FC Tryz.prog 91 [VL 4 dstepT l] (app emp []) (.tup [VI (oldD l),VI (newD l),VI 0]) (app emp []):=by
 refine .go Tryz.f91 ?_
 refine .len 0 (fun hl0=> ?_)
 have hc:=checkD_iff.2 hv
 refine .bp [.r [],.r [(1,X (Xc0 (fc_dCheck l (by assumption)) X0))],.r []] ((checkD l) !=0) (fun h2=> ?_) (fun h2=> ?_)
 ·
  exfalso
  omega
 ·
  exact .fin [.r [(1,X (Xc0 (fc_dLens l (by assumption)) X0))],.r []] []
theorem fc_dEnds(l:List DStep):FC Tryz.prog 92 [VL 4 dstepT l] (app emp []) (VB (endsD l)) (app emp []):=by
 refine .go Tryz.f92 ?_
 refine .len 0 (fun hl0=> ?_)
 have e1:((endsD l):Bool)=(decide ((l.length:Int)> 0)&&((((l.getD (l.length- 1) default)).kind)==0)):=by
  rfl
 exact .finE [.r [],.r [(1,X (Xl dstepT l)),(6,Xv 1 (decide ((l.length:Int)> 0)) (Xl dstepT l)),(7,Xv 1 (decide ((l.length:Int)> 0)) (Xn ((l.length:Int)- 1))),(8,Xv 2 (decide ((l.length:Int)> 0)) (Xi' dstepT l ((l.length:Int)- 1) (l.length- 1))),(9,Xv 1 (decide ((l.length:Int)> 0)) X0),(10,Xv 1 (decide ((l.length:Int)> 0)) X0),(11,Xv 1 (decide ((l.length:Int)> 0)) X0),(12,X (Xk (decide ((l.length:Int)> 0))))]] [] (fun z0:Bool=>(VB z0,[])) _ _ e1
theorem fc_insEnd(l:List Node)(n:Node)(j:Nat)(hl:l.length≤1048576)(hj:j=l.length):FC Tryz.prog 88 [.row 0 l.length,VI (j:Int),.row 1 1] (app emp [(0,OR 9 nodeT l),(1,OR 9 nodeT [n])]) (.row 0 ((l++[n]).length)) (app emp [(0,OR 9 nodeT (l++[n])),(1,OF 9 nodeT [n])]):=by
 refine .go Tryz.f88 ?_
 refine .bp [.r [],.r [(2,X (Xtl nodeT l.length l (j:Int)))],.r [],.r [],.f,.r [],.r []] ((j:Int)==(l.length:Int)) (fun h6=> ?_) (fun h6=> ?_)
 ·
  exact .fin [.r [(2,X (rowC nodeT [n] (XapB 9 nodeT 0 l [n])))],.le (.fz 1)] [(0,0),(1,1)]
 ·
  exfalso
  omega
theorem fc_einsert(l:List Node)(n:Node)(hl:l.length≤1048575)(hs:SortN l)(hb:NodeB n)(hlast:hasN l n.id=false→lobN l n.id=l.length):FC Tryz.prog 43 [.ptr 0 0,.t (nodeT n)] (app emp [(0,.box [.row 1 l.length]),(1,OR 9 nodeT l)]) (VI (adnE l n)) (app emp [(0,.box [.row 1 ((insR l n).length)]),(1,OR 9 nodeT (insR l n))]):=by
 refine .go Tryz.f43 ?_
 have hl1:l.length≤1048576:=by omega
 refine .bp [.r [],.r [(5,X (Xc0 (fc_index ({nodes:=l}:Doc) n.id (by assumption) (by assumption)) (rowC nodeT l X0)))]] (decide ((ixN (({nodes:=l}:Doc)).nodes n.id)≥0)) (fun h1=> ?_) (fun h1=> ?_)
 ·
  have T:=ins_1 (l:=l) (n:=n) (ixN_ge.1 h1)
  have e1:((insR l n).length:Nat)=l.length:=by
   rw[T.1]
  have e2:((insR l n):List Node)=l:=by
   exact T.1
  have e3:((adnE l n):Int)=6:=by
   exact T.2
  exact .finE [.r []] [(0,0),(1,1)] (fun((z0,z1,z2):Nat×(List Node)×Int)=>(VI z2,[(0,.box [.row 1 z0]),(1,OR 9 nodeT z1)])) _ _ (pr e1 (pr e2 e3))
 ·
  have hh:hasN l n.id=false:=ixN_lt.1 h1
  refine .bp [.r [(6,X (Xc1 122 (fc_refsNd n (by assumption)) X0)),(7,X (Xc0 (fc_refsCk ({nodes:=l}:Doc) n.kind (refsN n) (by assumption) (by assumption)) (rowC nodeT l X0)))],.r []] ((refsE (({nodes:=l}:Doc)).nodes n.kind (refsN n) 0) !=0) (fun h4=> ?_) (fun h4=> ?_)
  ·
   have T:=ins_2 hh h4
   have e4:((insR l n).length:Nat)=l.length:=by
    rw[T.1]
   have e5:((insR l n):List Node)=l:=by
    exact T.1
   have e6:((adnE l n):Int)=(refsE (({nodes:=l}:Doc)).nodes n.kind (refsN n) 0):=by
    exact T.2
   exact .finE [.r []] [(0,0),(1,1)] (fun((z0,z1,z2):Nat×(List Node)×Int)=>(VI z2,[(0,.box [.row 1 z0]),(1,OR 9 nodeT z1)])) _ _ (pr e4 (pr e5 e6))
  ·
   obtain⟨s1,s2,s3⟩:=lobN_all l n.id
   have hlo:=hlast hh
   refine .loop (α:=Nat) [.r []] 170 (fun i=>([(0,.ptr 0 0),(3,.ptr 2 0),(6,VI (i:Int))],[(0,.box [.row 1 l.length]),(1,OR 9 nodeT l),(2,.box [VI n.id,VI n.kind,VL 2 attrT n.attrs,VL 3 elemT n.flow,VI n.grid.rows,VI n.grid.cols,VL 5 cellT n.grid.cells,VL 4 rectT n.grid.merges,VL 8 dopT n.draw])])) (fun i=>i≤lobN l n.id) (fun i=>l.length-i) (0:Nat) ?_ ?_
   ·
    exact Nat.zero_le _
   rintro i I7 ih7
   try dsimp only at I7
   refine .bp [.r [(9,Xv 1 (decide ((i:Int)< (l.length:Int))) X0),(10,Xv 1 (decide ((i:Int)< (l.length:Int))) X0),(11,Xv 1 (decide ((i:Int)< (l.length:Int))) X0),(13,Xv 2 (decide ((i:Int)< (l.length:Int))) (Xp nodeT l (i:Int))),(14,Xv 1 (decide ((i:Int)< (l.length:Int))) X0),(15,Xv 1 (decide ((i:Int)< (l.length:Int))) (Xe nodeT l i)),(17,Xv 1 (decide ((i:Int)< (l.length:Int))) X0),(18,Xv 2 (decide ((i:Int)< (l.length:Int))) X0),(19,X (Xk (decide ((i:Int)< (l.length:Int)))))]] (decide ((i:Int)< (l.length:Int))&&decide ((((l.getD i default)).id)< n.id)) (fun h7=> ?_) (fun h7=> ?_)
   ·
    refine .back [.r [(1,X (Xn ((i:Int)+1)))]] [(0,0),(1,1),(2,2)] (ih7 ((i+1):Nat) ?_ ?_)
    ·
     exact lobN_lt hs (by omega) h7.2
    ·
     ((try dsimp only);omega)
   ·
    have hi:i=l.length:=by(apply Classical.byContradiction;intro q;have:=s2 i (by omega);rcases h7 with h|h<;>omega)
    have T:=ins_3 hh h4 hlo
    have e7:((insR l n).length:Nat)=(l++[n]).length:=by
     rw[T.1]
    have e8:((insR l n):List Node)=(l++[n]):=by
     exact T.1
    have e9:((adnE l n):Int)=0:=by
     exact T.2
    exact .finE [.r [(7,X (Xc1 386 (fc_copyN n (by assumption)) X0)),(9,X (Xc3 402 [(0,1),(1,394)] (fc_insEnd l n i (by omega) (by omega)) X0))],.r []] [(0,0),(1,1)] (fun((z0,z1,z2):Nat×(List Node)×Int)=>(VI z2,[(0,.box [.row 1 z0]),(1,OR 9 nodeT z1)])) _ _ (pr e7 (pr e8 e9))
end Go.Ch
end
section
set_option linter.unusedVariables false
set_option linter.unusedSimpArgs false
set_option maxRecDepth 100000
set_option maxHeartbeats 4000000
open Go Go.Proofs Go.Ab
namespace Go.Ch
theorem fc_eflows(l:List Node)(i:Nat)(s:List DStep)(hi:i<l.length)(hb:FlB l i s):FC Tryz.prog 46 [.ptr 0 0,.eptr 1 l.length i 0,VL 4 dstepT s] (app emp [(0,.box [.row 1 l.length]),(1,OR 9 nodeT l)]) (VI (flowsE l (l.getD i default) s)) (app emp [(0,.box [.row 1 ((flowsR l i s).length)]),(1,OR 9 nodeT (flowsR l i s))]):=by
 refine .go Tryz.f46 ?_
 refine .len 2 (fun hl2=> ?_)
 obtain⟨hl1,hs,hd,hv,hf⟩:=hb
 refine .bp [.r [],.r [(3,X (Xe nodeT l i)),(4,X (Xc0 (fc_Texts (((l.getD i default)).kind)) X0))],.r [(4,Xv 1 (!(hasT (((l.getD i default)).kind))) X0),(5,Xv 1 (!(hasT (((l.getD i default)).kind))) X0),(6,Xv 1 (!(hasT (((l.getD i default)).kind))) (Xe nodeT l i)),(7,Xv 1 (!(hasT (((l.getD i default)).kind))) (Xc0 (fc_Lists (((l.getD i default)).kind)) X0)),(8,Xv 1 (!(hasT (((l.getD i default)).kind))) X0),(9,X (Xk (!(hasT (((l.getD i default)).kind)))))]] (!(hasT (((l.getD i default)).kind))&& !(hasL (((l.getD i default)).kind))) (fun h2=> ?_) (fun h2=> ?_)
 ·
  have T:=fl_err (i:=i) (fl_1 (s:=s) h2) (by decide)
  have e1:((flowsR l i s).length:Nat)=l.length:=by
   rw[T.1]
  have e2:((flowsR l i s):List Node)=l:=by
   exact T.1
  have e3:((flowsE l (l.getD i default) s):Int)=8:=by
   exact T.2
  exact .finE [.r []] [(0,0),(1,1)] (fun((z0,z1,z2):Nat×(List Node)×Int)=>(VI z2,[(0,.box [.row 1 z0]),(1,OR 9 nodeT z1)])) _ _ (pr e1 (pr e2 e3))
 ·
  refine .bp [.r [(1,X (Xc0 (fc_dLengths s (by assumption) (by assumption)) X0))],.r [(4,X (Xe nodeT l i)),(5,X (Xl elemT (((l.getD i default)).flow)))]] ((oldD s) !=((((l.getD i default)).flow).length:Int)) (fun h5=> ?_) (fun h5=> ?_)
  ·
   have T:=fl_err (i:=i) (fl_2 h2 h5) (by decide)
   have e4:((flowsR l i s).length:Nat)=l.length:=by
    rw[T.1]
   have e5:((flowsR l i s):List Node)=l:=by
    exact T.1
   have e6:((flowsE l (l.getD i default) s):Int)=14:=by
    exact T.2
   exact .finE [.r []] [(0,0),(1,1)] (fun((z0,z1,z2):Nat×(List Node)×Int)=>(VI z2,[(0,.box [.row 1 z0]),(1,OR 9 nodeT z1)])) _ _ (pr e4 (pr e5 e6))
  ·
   refine .bp [.r [(3,Xv 1 (hasT (((l.getD i default)).kind)) (Xc0 (fc_dEnds s) X0)),(4,Xv 1 (hasT (((l.getD i default)).kind)) X0),(5,X (Xk (hasT (((l.getD i default)).kind))))]] ((hasT (((l.getD i default)).kind))&& !(endsD s)) (fun h7=> ?_) (fun h7=> ?_)
   ·
    have T:=fl_err (i:=i) (fl_3 h2 h5 h7) (by decide)
    have e7:((flowsR l i s).length:Nat)=l.length:=by
     rw[T.1]
    have e8:((flowsR l i s):List Node)=l:=by
     exact T.1
    have e9:((flowsE l (l.getD i default) s):Int)=4:=by
     exact T.2
    exact .finE [.r []] [(0,0),(1,1)] (fun((z0,z1,z2):Nat×(List Node)×Int)=>(VI z2,[(0,.box [.row 1 z0]),(1,OR 9 nodeT z1)])) _ _ (pr e7 (pr e8 e9))
   ·
    have F:=fl_4 (l:=l) h2 h5 h7
    refine .loop (α:=Nat) [.r [(1,X (Xl dstepT s))]] 338 (fun a=>([(0,.ptr 0 0),(1,.eptr 1 l.length i 0),(2,VL 4 dstepT s),(7,VB (hasT (((l.getD i default)).kind))),(50,VL 4 dstepT s),(51,VI (s.length:Int)),(52,VI (a:Int))],[(0,.box [.row 1 l.length]),(1,OR 9 nodeT l)])) (fun a=>a≤s.length∧addsE l (l.getD i default).kind s=addsE l (l.getD i default).kind (s.drop a)) (fun a=>s.length-a) (0:Nat) ?_ ?_
    ·
     exact⟨by omega,rfl⟩
    rintro a I10 ih10
    try dsimp only at I10
    refine .bp [.r []] (decide ((a:Int)< (s.length:Int))) (fun h10=> ?_) (fun h10=> ?_)
    ·
     have hd1:=(hd _ (getDX_mem (l:=s) (i:=a) (by omega))).1
     refine .loop (α:=Nat) [.r [(0,X (Xi dstepT s (a:Int)))],.r [(2,X (Xl elemT (((s.getD a default)).elems)))]] 410 (fun b=>([(0,.ptr 0 0),(1,.eptr 1 l.length i 0),(2,VL 4 dstepT s),(7,VB (hasT (((l.getD i default)).kind))),(50,VL 4 dstepT s),(51,VI (s.length:Int)),(52,VI (a:Int)),(57,VL 3 elemT (((s.getD a default)).elems)),(58,VI ((((s.getD a default)).elems).length:Int)),(59,VI (b:Int))],[(0,.box [.row 1 l.length]),(1,OR 9 nodeT l)])) (fun b=>b≤(s.getD a default).elems.length∧addsE l (l.getD i default).kind s=if firstE (newE l (l.getD i default).kind) ((s.getD a default).elems.drop b)≠0 then firstE (newE l (l.getD i default).kind) ((s.getD a default).elems.drop b) else addsE l (l.getD i default).kind (s.drop (a+1))) (fun b=>(s.getD a default).elems.length-b) (0:Nat) ?_ ?_
     ·
      exact⟨by omega,by rw[I10.2];exact firstE_at _ (by omega)⟩
     rintro b I13 ih13
     try dsimp only at I13
     refine .bp [.r []] (decide ((b:Int)< ((((s.getD a default)).elems).length:Int))) (fun h13=> ?_) (fun h13=> ?_)
     ·
      refine .bp [.r [(0,X (Xi elemT (((s.getD a default)).elems) (b:Int)))],.r [(5,Xv 1 (((((((s.getD a default)).elems).getD b default)).ref)==0) X0),(6,X (Xk (((((((s.getD a default)).elems).getD b default)).ref)==0)))]] ((((((((s.getD a default)).elems).getD b default)).ref)==0)&& !(hasT (((l.getD i default)).kind))) (fun h15=> ?_) (fun h15=> ?_)
      ·
       have hx:newE l (l.getD i default).kind ((s.getD a default).elems.getD b default)=8:=newE_8 h15
       have T:=fl_err (i:=i) (k:=8) (F.trans (I13.2.trans (by rw[firstE_at _ (by omega),hx];rfl))) (by decide)
       have e10:((flowsR l i s).length:Nat)=l.length:=by
        rw[T.1]
       have e11:((flowsR l i s):List Node)=l:=by
        exact T.1
       have e12:((flowsE l (l.getD i default) s):Int)=8:=by
        exact T.2
       exact .finE [.r []] [(0,0),(1,1)] (fun((z0,z1,z2):Nat×(List Node)×Int)=>(VI z2,[(0,.box [.row 1 z0]),(1,OR 9 nodeT z1)])) _ _ (pr e10 (pr e11 e12))
      ·
       refine .bp [.r [(6,X (Xe nodeT l i)),(9,X (Xc1 578 (fc_refsFl [(((((s.getD a default)).elems).getD b default))] (by first|omega|simp)) (rowC elemT [(((((s.getD a default)).elems).getD b default))] X0))),(10,X (Xc0 (fc_refsCk ({nodes:=l}:Doc) (((l.getD i default)).kind) (refsF [(((((s.getD a default)).elems).getD b default))]) (by assumption) (by assumption)) (rowC nodeT l (rowC intT (refsF [(((((s.getD a default)).elems).getD b default))]) X0))))],.r []] ((refsE (({nodes:=l}:Doc)).nodes (((l.getD i default)).kind) (refsF [(((((s.getD a default)).elems).getD b default))]) 0) !=0) (fun h18=> ?_) (fun h18=> ?_)
       ·
        have hx:newE l (l.getD i default).kind ((s.getD a default).elems.getD b default)=refsE l (l.getD i default).kind (refsF [((s.getD a default).elems.getD b default)]) 0:=newE_r h15
        have T:=fl_err (i:=i) (F.trans (I13.2.trans (by rw[firstE_at _ (by omega),hx,if_pos h18,if_pos h18]))) h18
        have e13:((flowsR l i s).length:Nat)=l.length:=by
         rw[T.1]
        have e14:((flowsR l i s):List Node)=l:=by
         exact T.1
        have e15:((flowsE l (l.getD i default) s):Int)=(refsE (({nodes:=l}:Doc)).nodes (((l.getD i default)).kind) (refsF [(((((s.getD a default)).elems).getD b default))]) 0):=by
         exact T.2
        exact .finE [.r []] [(0,0),(1,1)] (fun((z0,z1,z2):Nat×(List Node)×Int)=>(VI z2,[(0,.box [.row 1 z0]),(1,OR 9 nodeT z1)])) _ _ (pr e13 (pr e14 e15))
       ·
        refine .back [.r [(0,X (Xn ((b:Int)+1)))]] [(0,0),(1,1)] (ih13 ((b+1):Nat) ?_ ?_)
        ·
         have hx:newE l (l.getD i default).kind ((s.getD a default).elems.getD b default)=0:=(newE_r h15).trans h18
         exact⟨by omega,I13.2.trans (by rw[firstE_at _ (by omega),hx];rfl)⟩
        ·
         ((try dsimp only);omega)
     ·
      refine .back [.r [(0,X (Xn ((a:Int)+1)))]] [(0,0),(1,1)] (ih10 ((a+1):Nat) ?_ ?_)
      ·
       exact⟨by omega,I13.2.trans (by rw[firstE_end _ (by omega)];rfl)⟩
      ·
       ((try dsimp only);omega)
    ·
     have T:=fl_ok (i:=i) (F.trans (I10.2.trans (firstE_end _ (by omega))))
     have e16:((flowsR l i s).length:Nat)=l.length:=by
      rw[T.1];exact List.length_set ..
     have e17:((flowsR l i s):List Node)=(l.set i ({id:=((l.getD i default)).id,kind:=((l.getD i default)).kind,attrs:=((l.getD i default)).attrs,flow:=(rawD (((l.getD i default)).flow) s),grid:=(((l.getD i default)).grid),draw:=((l.getD i default)).draw}:Node)):=by
      exact T.1
     have e18:((flowsE l (l.getD i default) s):Int)=0:=by
      exact T.2
     exact .finE [.r [(4,X (Xe nodeT l i)),(6,X (Xc1 394 (fc_dRaw (((l.getD i default)).flow) s (by assumption) (by assumption) (by assumption) (by omega)) X0)),(9,X (Xs 9 nodeT 1 l i ({id:=((l.getD i default)).id,kind:=((l.getD i default)).kind,attrs:=((l.getD i default)).attrs,flow:=(rawD (((l.getD i default)).flow) s),grid:=(((l.getD i default)).grid),draw:=((l.getD i default)).draw}:Node)))],.r []] [(0,0),(1,1)] (fun((z0,z1,z2):Nat×(List Node)×Int)=>(VI z2,[(0,.box [.row 1 z0]),(1,OR 9 nodeT z1)])) _ _ (pr e16 (pr e17 e18))
end Go.Ch
end
