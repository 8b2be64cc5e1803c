/- Objects, rows, columns and cells: what the commands compute. -/
import Derived.Test.YtjeknifdbllieaaGreatDoorM7
set_option linter.unusedVariables false
set_option linter.unusedSimpArgs false
section
namespace Go.Ch
open Go Go.Ab
theorem x8L{r:Int}:r.fdiv (2^(min (16:Int).toNat IntKind.i64.bits))=r/65536:=by
 show r.fdiv 65536=r/65536
 exact Int.fdiv_eq_ediv_of_nonneg r (by decide)
theorem x3Q{r:Int}(h: -9223372036854775808<=r/\r<=9223372036854775807):IntKind.i64.wrap r=r:=by
 simp[IntKind.wrap,IntKind.bits,IntKind.signed];omega
theorem x8M{r:Int}(h:0<=r/\r<=1000):IntKind.i64.wrap (r*2^(min (16:Int).toNat IntKind.i64.bits))=r*65536:=by
 show IntKind.i64.wrap (r*65536)=r*65536
 exact x3Q (by omega)
theorem x8N{x:Int}(h:0<=x/\x<=1073741824):x6m .i64 x 65535=x%65536:=by
 unfold x6m
 have e1:(BitVec.ofInt IntKind.i64.bits x&&&BitVec.ofInt IntKind.i64.bits 65535).toNat=x.toNat%65536:=by
  rw[BitVec.toNat_and]
  have hx:(BitVec.ofInt IntKind.i64.bits x).toNat=x.toNat:=by
   rw[BitVec.toNat_ofInt]
   show(x%((2^64:Nat):Int)).toNat=x.toNat
   rw[Int.emod_eq_of_lt h.1 (by have:=h.2;omega)]
  have hy:(BitVec.ofInt IntKind.i64.bits 65535).toNat=2^16- 1:=by decide
  rw[hx,hy,Nat.and_two_pow_sub_one_eq_mod]
 rw[e1,x3Q (by omega)]
 omega
def z9K(l:List Node)(site:Int)(m:Nat):Int:=(l.take m).foldl (fun x n=>if n.id/65536=site then n.id else x) (site*65536)
theorem z9p{l:List Node}{site:Int}{m:Nat}(h:m<l.length):z9K l site (m+1)=if(l.getD m default).id/65536=site then(l.getD m default).id else z9K l site m:=by
 have e:l.getD m default=l[m]:=by rw[qe,qb h];rfl
 unfold z9K
 rw[qz h,List.foldl_append,e];rfl
def z1w(d:Doc)(site:Int):Int:=
 if z1N d≠0 then z1N d else if site<0\/1000<site then 2 else if z9K d.nodes site d.nodes.length%65536=65535 then 18 else 0
def z04(d:Doc)(site:Int):Int:=if z1w d site≠0 then 0 else z9K d.nodes site d.nodes.length+1
theorem x0d{d:Doc}{site k:Int}(h:z1w d site=k)(hk:k≠0):z04 d site=0/\z1w d site=k:=by
 unfold z04;rw[h,if_pos hk];exact⟨rfl,rfl⟩
theorem x66{d:Doc}{site:Int}(h:z1N d≠0):z04 d site=0/\z1w d site=z1N d:=x0d (by unfold z1w;rw[if_pos h]) h
theorem x67{d:Doc}{site:Int}(h:z1N d=0)(h2:site<0\/1000<site):z04 d site=0/\z1w d site=2:=x0d (by unfold z1w;rw[if_neg (fun q=>q h),if_pos h2]) (by decide)
theorem x0e{d:Doc}{site:Int}(h:z1N d=0)(h2:0<=site/\site<=1000)(h3:z9K d.nodes site d.nodes.length%65536=65535):z04 d site=0/\z1w d site=18:=
 x0d (by unfold z1w;rw[if_neg (fun q=>q h),if_neg (by omega),if_pos h3]) (by decide)
theorem x0f{d:Doc}{site:Int}(h:z1N d=0)(h2:0<=site/\site<=1000)(h3:¬z9K d.nodes site d.nodes.length%65536=65535):z04 d site=z9K d.nodes site d.nodes.length+1/\z1w d site=0:=by
 have e:z1w d site=0:=by unfold z1w;rw[if_neg (fun q=>q h),if_neg (by omega),if_neg h3]
 unfold z04;rw[e,if_neg (fun q=>q rfl)];exact⟨rfl,rfl⟩
def opN(n:Node):EOp:=⟨0,0,n,[],[],⟨[],[],[],[],[]⟩,[]⟩
def opG(k:Int)(g:GEd):EOp:=⟨3,k,⟨0,0,[],[],⟨0,0,[],[]⟩,[]⟩,[],[],g,[]⟩
def x5e(d:Doc)(n:Node)(site:Int):Node:={id:=z04 d site,kind:=n.kind,attrs:=n.attrs,flow:=n.flow,grid:=n.grid,draw:=n.draw}
def y4J(d:Doc)(s:Sel)(site:Int)(au:ByteArray):List Elem:=[{char:=0,ref:=z04 d site,attrs:=z6f (atP d s au) s.fr}]
def z5g(d:Doc)(s:Sel)(n:Node)(site:Int)(au:ByteArray):Int:=
 if atE d s au≠0 then atE d s au
 else if z06 (atP d s au).node.kind n.kind=false then 8
 else if z1w d site≠0 then z1w d site
 else z0X (x5e d n site)
def z4T(d:Doc)(s:Sel)(n:Node)(site:Int)(au:ByteArray):List EOp:=if z5g d s n site au≠0 then[] else[opN (x5e d n site)]++[opF s.nd (y1u (atP d s au) s (y4J d s site au))]
def z8a(d:Doc)(s:Sel)(n:Node)(site:Int)(au:ByteArray):Sel:=if z5g d s n site au≠0 then⟨0,0,0⟩ else x1B s (y4J d s site au)
structure ObjB(d:Doc)(s:Sel)(n:Node)(site:Int)(au:ByteArray):Prop where
 p:PlB (atP d s au)
 r:0<=s.fr/\s.fr<=1000000000
 s:StpB (atP d s au) s (y4J d s site au)
theorem x2J{d:Doc}{s:Sel}{n:Node}{site:Int}{au:ByteArray}{k:Int}(h:z5g d s n site au=k)(hk:k≠0):z4T d s n site au=[]/\z8a d s n site au=⟨0,0,0⟩/\z5g d s n site au=k:=by
 unfold z4T z8a;rw[h,if_pos hk,if_pos hk];exact⟨rfl,rfl,rfl⟩
theorem x5f{d:Doc}{s:Sel}{n:Node}{site:Int}{au:ByteArray}(h:atE d s au≠0):z4T d s n site au=[]/\z8a d s n site au=⟨0,0,0⟩/\z5g d s n site au=atE d s au:=x2J (by unfold z5g;rw[if_pos h]) h
theorem x8O{d:Doc}{s:Sel}{n:Node}{site:Int}{au:ByteArray}(h:atE d s au=0)(h2:z06 (atP d s au).node.kind n.kind=false):z4T d s n site au=[]/\z8a d s n site au=⟨0,0,0⟩/\z5g d s n site au=8:=
 x2J (by unfold z5g;rw[if_neg (fun q=>q h),if_pos h2]) (by decide)
theorem x8P{d:Doc}{s:Sel}{n:Node}{site:Int}{au:ByteArray}(h:atE d s au=0)(h2:z06 (atP d s au).node.kind n.kind=true)(h3:z1w d site≠0):z4T d s n site au=[]/\z8a d s n site au=⟨0,0,0⟩/\z5g d s n site au=z1w d site:=
 x2J (by unfold z5g;rw[if_neg (fun q=>q h),if_neg (by rw[h2];decide),if_pos h3]) h3
theorem x68{d:Doc}{s:Sel}{n:Node}{site:Int}{au:ByteArray}(h:atE d s au=0)(h2:z06 (atP d s au).node.kind n.kind=true)(h3:z1w d site=0):z5g d s n site au=z0X (x5e d n site):=by
 unfold z5g;rw[if_neg (fun q=>q h),if_neg (by rw[h2];decide),if_neg (fun q=>q h3)]
theorem x8Q{d:Doc}{s:Sel}{n:Node}{site:Int}{au:ByteArray}(h:atE d s au=0)(h2:z06 (atP d s au).node.kind n.kind=true)(h3:z1w d site=0)(h4:z0X (x5e d n site)≠0):z4T d s n site au=[]/\z8a d s n site au=⟨0,0,0⟩/\z5g d s n site au=z0X (x5e d n site):=
 x2J (x68 h h2 h3) h4
theorem x8R{d:Doc}{s:Sel}{n:Node}{site:Int}{au:ByteArray}(h:atE d s au=0)(h2:z06 (atP d s au).node.kind n.kind=true)(h3:z1w d site=0)(h4:z0X (x5e d n site)=0):
 z4T d s n site au=[opN (x5e d n site)]++[opF s.nd (y1u (atP d s au) s (y4J d s site au))]/\z8a d s n site au=x1B s (y4J d s site au)/\z5g d s n site au=0:=by
 have e:=(x68 (n:=n) h h2 h3).trans h4
 unfold z4T z8a;rw[e,if_neg (fun q=>q rfl),if_neg (fun q=>q rfl)];exact⟨rfl,rfl,rfl⟩
def y1y(r c:Int):Node:=⟨0,2,[],[],⟨r,c,[],[]⟩,[]⟩
def x5g:ByteArray:={data:=#[107,105,110,100]}
def z9q(e:Bool):Node:=⟨0,4,[⟨x5g,if e=true then {data:=#[101,110,100]} else {data:=#[102,111,111,116]}⟩],[⟨10,0,[]⟩],⟨0,0,[],[]⟩,[]⟩
def y1z(l:List Attr):Node:=⟨0,5,l,[],⟨0,0,[],[]⟩,[]⟩
def z23(d:Doc)(k:Int):Int:=if z1N d≠0 then z1N d else if z14 d.nodes k=false then 7 else if z3W (d.nodes.getD (z0x d.nodes k) default).kind=false then 8 else 0
def z9S:Node:=⟨0,0,[],[],⟨0,0,[],[]⟩,[]⟩
def z1n(d:Doc)(k:Int):Node:=if z23 d k≠0 then z9S else d.nodes.getD (z0x d.nodes k) default
theorem x5h{d:Doc}{k e:Int}(h:z23 d k=e)(he:e≠0):z1n d k=z9S/\z23 d k=e:=by
 unfold z1n;rw[h,if_pos he];exact⟨rfl,rfl⟩
theorem x8S{d:Doc}{k:Int}(h:z1N d≠0):z1n d k=z9S/\z23 d k=z1N d:=x5h (by unfold z23;rw[if_pos h]) h
theorem x8T{d:Doc}{k:Int}(h:z1N d=0)(h2:z14 d.nodes k=false):z1n d k=z9S/\z23 d k=7:=x5h (by unfold z23;rw[if_neg (fun q=>q h),if_pos h2]) (by decide)
theorem x8U{d:Doc}{k:Int}(h:z1N d=0)(h2:z14 d.nodes k=true)(h3:z3W (d.nodes.getD (z0x d.nodes k) default).kind=false):z1n d k=z9S/\z23 d k=8:=
 x5h (by unfold z23;rw[if_neg (fun q=>q h),if_neg (by rw[h2];decide),if_pos h3]) (by decide)
theorem x8V{d:Doc}{k:Int}(h:z1N d=0)(h2:z14 d.nodes k=true)(h3:z3W (d.nodes.getD (z0x d.nodes k) default).kind=true):z1n d k=d.nodes.getD (z0x d.nodes k) default/\z23 d k=0:=by
 have e:z23 d k=0:=by unfold z23;rw[if_neg (fun q=>q h),if_neg (by rw[h2];decide),if_neg (by rw[h3];decide)]
 unfold z1n;rw[e,if_neg (fun q=>q rfl)];exact⟨rfl,rfl⟩
theorem y6v{d:Doc}{k:Int}(h:z23 d k=0):(0<=(z1n d k).grid.rows/\(z1n d k).grid.rows<=2147483647)/\0<=(z1n d k).grid.cols/\(z1n d k).grid.cols<=2147483647:=by
 have e:z1n d k=d.nodes.getD (z0x d.nodes k) default:=by unfold z1n;rw[h,if_neg (fun q=>q rfl)]
 unfold z23 at h
 split at h
 ·rename_i q;exact absurd h q
 rename_i q
 have hd:z1N d=0:=qc q
 split at h
 ·cases h
 rename_i hn
 split at h
 ·cases h
 rename_i hg
 have hn:z14 d.nodes k=true:=by simpa using hn
 have hg:z3W (d.nodes.getD (z0x d.nodes k) default).kind=true:=by simpa using hg
 have hlt:=(z1m.1 hn).1
 have hnd:z0X (d.nodes.getD (z0x d.nodes k) default)=0:=by
  unfold z1N at hd
  split at hd
  ·cases hd
  ·split at hd
   ·rename_i q;exact absurd hd q
   ·rename_i q;exact(z4e _ 0 rfl (qc q)).1 _ (qS _) hlt
 rw[e]
 generalize d.nodes.getD (z0x d.nodes k) default=n at hnd hg
 have hgr:z18 n.grid=0:=by
  unfold z0X at hnd
  split at hnd
  ·cases hnd
  split at hnd
  ·cases hnd
  split at hnd
  ·rename_i q;exact absurd hnd q
  split at hnd
  ·cases hnd
  split at hnd
  ·rename_i q;exfalso
   unfold z3W at hg;unfold z1o z3V at q
   simp only[qH,beq_iff_eq] at hg q
   omega
  (try rw[if_pos hg] at hnd)
  split at hnd
  ·rename_i q;exact absurd hnd q
  ·rename_i q;exact qc q
 unfold z18 at hgr
 split at hgr
 ·cases hgr
 ·omega
theorem x2K{d:Doc}(h:DocL d)(k:Int):(z1n d k).grid.cells.length<=1048576:=by
 unfold z1n;split
 ·simp[z9S]
 ·by_cases q:z0x d.nodes k<d.nodes.length
  ·exact(h.all _ (z0j q)).ce2
  ·rw[qe,zK (by omega)];simp[default,instInhabitedNode]
def z3t(k n:Int):List AxStep:=if n>0 then[{kind:=k,n:=n}] else[]
theorem z4D(k n:Int):(z3t k n).length<=1:=by unfold z3t;split<;>simp
def x69(m a n:Int):List AxStep:=(((([]:List AxStep)++z3t 0 a)++z3t 1 n)++z3t 2 (0-n))++z3t 0 ((m-a)- max 0 (0-n))
def z8u(m a n:Int):Int:=if n< -2147483647\/n=0\/a<0\/m<a\/(n<0/\m-a< -n) then 2 else if 1000<n then 3 else z13 (x69 m a n)
def y0q(m a n:Int):List AxStep:=if n< -2147483647\/n=0\/a<0\/m<a\/(n<0/\m-a< -n) then[] else if 1000<n then[] else x69 m a n
theorem x8W{m a n:Int}(h:(((n< -2147483647\/n=0)\/a<0)\/m<a)\/(n<0/\m-a< -n)):y0q m a n=[]/\z8u m a n=2:=by
 have hc:(n< -2147483647\/n=0\/a<0\/m<a\/(n<0/\m-a< -n)):=by omega
 unfold y0q z8u;rw[if_pos hc,if_pos hc];exact⟨rfl,rfl⟩
theorem x8X{m a n:Int}(h:(((-2147483647<=n/\¬n=0)/\0<=a)/\a<=m)/\(0<=n\/ -n<=m-a))(h2:1000<n):y0q m a n=[]/\z8u m a n=3:=by
 have hc:¬(n< -2147483647\/n=0\/a<0\/m<a\/(n<0/\m-a< -n)):=by omega
 unfold y0q z8u;rw[if_neg hc,if_neg hc,if_pos h2,if_pos h2];exact⟨rfl,rfl⟩
theorem x8Y{m a n:Int}(h:(((-2147483647<=n/\¬n=0)/\0<=a)/\a<=m)/\(0<=n\/ -n<=m-a))(h2:n<=1000):y0q m a n=x69 m a n/\z8u m a n=z13 (x69 m a n):=by
 have hc:¬(n< -2147483647\/n=0\/a<0\/m<a\/(n<0/\m-a< -n)):=by omega
 have h2':¬1000<n:=by omega
 unfold y0q z8u;rw[if_neg hc,if_neg hc,if_neg h2',if_neg h2'];exact⟨rfl,rfl⟩
def y6w(d:Doc)(k a n:Int):Int:=if z23 d k≠0 then z23 d k else z8u (z1n d k).grid.rows a n
def y8m(d:Doc)(k a n:Int):List EOp:=if y6w d k a n≠0 then[] else[opG k ⟨y0q (z1n d k).grid.rows a n,[],[],[],[]⟩]
theorem x8Z{d:Doc}{k a n:Int}(h:z23 d k≠0):y8m d k a n=[]/\y6w d k a n=z23 d k:=by
 have e:y6w d k a n=z23 d k:=by unfold y6w;rw[if_pos h]
 unfold y8m;rw[e,if_pos h];exact⟨rfl,rfl⟩
theorem x80{d:Doc}{k a n:Int}(h:z23 d k=0)(h2:z8u (z1n d k).grid.rows a n≠0):y8m d k a n=[]/\y6w d k a n=z8u (z1n d k).grid.rows a n:=by
 have e:y6w d k a n=z8u (z1n d k).grid.rows a n:=by unfold y6w;rw[if_neg (fun q=>q h)]
 unfold y8m;rw[e,if_pos h2];exact⟨rfl,rfl⟩
theorem x81{d:Doc}{k a n:Int}(h:z23 d k=0)(h2:z8u (z1n d k).grid.rows a n=0):y8m d k a n=[opG k ⟨y0q (z1n d k).grid.rows a n,[],[],[],[]⟩]/\y6w d k a n=0:=by
 have e:y6w d k a n=0:=by unfold y6w;rw[if_neg (fun q=>q h),h2]
 unfold y8m;rw[e,if_neg (fun q=>q rfl)];exact⟨rfl,rfl⟩
def y6x(d:Doc)(k a n:Int):Int:=if z23 d k≠0 then z23 d k else z8u (z1n d k).grid.cols a n
def y8n(d:Doc)(k a n:Int):List EOp:=if y6x d k a n≠0 then[] else[opG k ⟨[],y0q (z1n d k).grid.cols a n,[],[],[]⟩]
theorem x82{d:Doc}{k a n:Int}(h:z23 d k≠0):y8n d k a n=[]/\y6x d k a n=z23 d k:=by
 have e:y6x d k a n=z23 d k:=by unfold y6x;rw[if_pos h]
 unfold y8n;rw[e,if_pos h];exact⟨rfl,rfl⟩
theorem x83{d:Doc}{k a n:Int}(h:z23 d k=0)(h2:z8u (z1n d k).grid.cols a n≠0):y8n d k a n=[]/\y6x d k a n=z8u (z1n d k).grid.cols a n:=by
 have e:y6x d k a n=z8u (z1n d k).grid.cols a n:=by unfold y6x;rw[if_neg (fun q=>q h)]
 unfold y8n;rw[e,if_pos h2];exact⟨rfl,rfl⟩
theorem x84{d:Doc}{k a n:Int}(h:z23 d k=0)(h2:z8u (z1n d k).grid.cols a n=0):y8n d k a n=[opG k ⟨[],y0q (z1n d k).grid.cols a n,[],[],[]⟩]/\y6x d k a n=0:=by
 have e:y6x d k a n=0:=by unfold y6x;rw[if_neg (fun q=>q h),h2]
 unfold y8n;rw[e,if_neg (fun q=>q rfl)];exact⟨rfl,rfl⟩
theorem x5i{α:Type}[Inhabited α]{f:α->Bool}{l:List α}{i:Nat}(h:i<l.length)(h2:f (l.getD i default)=true):z4P f l i=(i:Int):=by rw[z4P,if_pos h,if_pos h2]
theorem x2L{α:Type}[Inhabited α]{f:α->Bool}{l:List α}{i:Nat}(h:i<l.length)(h2:f (l.getD i default)=false):z4P f l i=z4P f l (i+1):=by rw[z4P,if_pos h,if_neg (by rw[h2];decide)]
theorem x5j{α:Type}[Inhabited α]{f:α->Bool}{l:List α}{i:Nat}(h:¬i<l.length):z4P f l i= -1:=by rw[z4P,if_neg h]
def x2M(d:Doc)(k r c:Int):Int:=z4P (fun x:Cell=>x.row==r&&x.col==c) (z1n d k).grid.cells 0
def z7e(d:Doc)(k r c site:Int):Int:=
 if z23 d k≠0 then z23 d k else if(z1n d k).kind≠2 then 8
 else if r<0\/(z1n d k).grid.rows<=r\/c<0\/(z1n d k).grid.cols<=c then 2
 else if 0<=x2M d k r c then 0 else z1w d site
def x0g(d:Doc)(site:Int):Node:=⟨z04 d site,3,[],[⟨10,0,[]⟩],⟨0,0,[],[]⟩,[]⟩
def x85(d:Doc)(k r c site:Int):List EOp:=[opN (x0g d site),opG k ⟨[],[],[⟨r,c,{data:=#[]},z04 d site,[]⟩],[],[]⟩]
def z9r(d:Doc)(k r c site:Int):List EOp:=if z7e d k r c site≠0\/0<=x2M d k r c then[] else x85 d k r c site
def y3m(d:Doc)(k r c site:Int):Int:=if z7e d k r c site≠0 then 0 else if 0<=x2M d k r c then((z1n d k).grid.cells.getD (x2M d k r c).toNat default).ref else z04 d site
theorem x2N{d:Doc}{k r c site e:Int}(h:z7e d k r c site=e)(he:e≠0):z9r d k r c site=[]/\y3m d k r c site=0/\z7e d k r c site=e:=by
 unfold z9r y3m;rw[h,if_pos (.inl he),if_pos he];exact⟨rfl,rfl,rfl⟩
theorem x86{d:Doc}{k r c site:Int}(h:z23 d k≠0):z9r d k r c site=[]/\y3m d k r c site=0/\z7e d k r c site=z23 d k:=x2N (by unfold z7e;rw[if_pos h]) h
theorem x87{d:Doc}{k r c site:Int}(h:z23 d k=0)(h2:¬(z1n d k).kind=2):z9r d k r c site=[]/\y3m d k r c site=0/\z7e d k r c site=8:=x2N (by unfold z7e;rw[if_neg (fun q=>q h),if_pos h2]) (by decide)
theorem x88{d:Doc}{k r c site:Int}(h:z23 d k=0)(h2:(z1n d k).kind=2)(h3:((r<0\/(z1n d k).grid.rows<=r)\/c<0)\/(z1n d k).grid.cols<=c):z9r d k r c site=[]/\y3m d k r c site=0/\z7e d k r c site=2:=
 x2N (by unfold z7e;rw[if_neg (fun q=>q h),if_neg (fun q=>q h2),if_pos (by omega)]) (by decide)
theorem x89{d:Doc}{k r c site:Int}{i:Nat}(h:z23 d k=0)(h2:(z1n d k).kind=2)(h3:((0<=r/\r< (z1n d k).grid.rows)/\0<=c)/\c< (z1n d k).grid.cols)(h4:z4P (fun x:Cell=>x.row==r&&x.col==c) (z1n d k).grid.cells 0=(i:Int)):
 z9r d k r c site=[]/\y3m d k r c site=((z1n d k).grid.cells.getD i default).ref/\z7e d k r c site=0:=by
 have hi:x2M d k r c=(i:Int):=h4
 have e:z7e d k r c site=0:=by unfold z7e;rw[if_neg (fun q=>q h),if_neg (fun q=>q h2),if_neg (by omega),hi,if_pos (by omega)]
 unfold z9r y3m;rw[e,hi,if_pos (.inr (by omega)),if_neg (fun q=>q rfl),if_pos (by omega)]
 exact⟨rfl,rfl,rfl⟩
theorem x7a{d:Doc}{k r c site:Int}(h:z23 d k=0)(h2:(z1n d k).kind=2)(h3:((0<=r/\r< (z1n d k).grid.rows)/\0<=c)/\c< (z1n d k).grid.cols)(h4:z4P (fun x:Cell=>x.row==r&&x.col==c) (z1n d k).grid.cells 0= -1):z7e d k r c site=z1w d site:=by
 have hi:x2M d k r c= -1:=h4
 unfold z7e;rw[if_neg (fun q=>q h),if_neg (fun q=>q h2),if_neg (by omega),hi,if_neg (by omega)]
theorem x9a{d:Doc}{k r c site:Int}(h:z23 d k=0)(h2:(z1n d k).kind=2)(h3:((0<=r/\r< (z1n d k).grid.rows)/\0<=c)/\c< (z1n d k).grid.cols)(h4:z4P (fun x:Cell=>x.row==r&&x.col==c) (z1n d k).grid.cells 0= -1)(h5:¬z1w d site=0):
 z9r d k r c site=[]/\y3m d k r c site=0/\z7e d k r c site=z1w d site:=x2N (x7a h h2 h3 h4) h5
theorem x9b{d:Doc}{k r c site:Int}(h:z23 d k=0)(h2:(z1n d k).kind=2)(h3:((0<=r/\r< (z1n d k).grid.rows)/\0<=c)/\c< (z1n d k).grid.cols)(h4:z4P (fun x:Cell=>x.row==r&&x.col==c) (z1n d k).grid.cells 0= -1)(h5:z1w d site=0):
 z9r d k r c site=x85 d k r c site/\y3m d k r c site=z04 d site/\z7e d k r c site=0:=by
 have hi:x2M d k r c= -1:=h4
 have e:=(x7a (site:=site) h h2 h3 h4).trans h5
 unfold z9r y3m;rw[e,hi,if_neg (by omega),if_neg (fun q=>q rfl),if_neg (by omega)]
 exact⟨rfl,rfl,rfl⟩
def x96(s:ByteArray)(l:List Attr)(i:Nat):Elem:=⟨(byt s i:Int),0,l⟩
def x0h(s:ByteArray)(l:List Attr)(n:Nat):List Elem:=(List.range n).map (x96 s l)
theorem x0i(s:ByteArray)(l:List Attr)(n:Nat):x0h s l (n+1)=x0h s l n++[⟨(byt s n:Int),0,l⟩]:=by
 unfold x0h;rw[zQ,zj];rfl
theorem y1A(s:ByteArray)(n:Nat):(s.extract n s.size).size=s.size-n:=by simp[ByteArray.size_extract]
theorem x5k{s:ByteArray}{n:Nat}(h:n<s.size):byt (s.extract n s.size) 0=byt s n:=by
 unfold byt
 have h1:0< (s.extract n s.size).size:=by rw[y1A];omega
 rw[getElem?_pos s n h,getElem?_pos (s.extract n s.size) 0 h1]
 simp[ByteArray.getElem_extract]
theorem x5l{s:ByteArray}{n:Nat}:(s.extract n s.size).extract 1 (s.extract n s.size).size=s.extract (n+1) s.size:=by
 rw[y1A]
 apply ByteArray.ext
 simp only[ByteArray.data_extract,Array.extract_extract]
 congr 1
 omega
theorem x5m(s:ByteArray):s.extract 0 s.size=s:=by simp
def y8o(s:ByteArray):Prop:=∀i,i<s.size->(32<=byt s i/\byt s i<127)\/byt s i=10
def z6g(s:ByteArray):List Int:=(List.range s.size).map fun i=>(byt s i:Int)
theorem x2O(s:ByteArray)(l:List Attr):x0h s l s.size=(z6g s).map (mkE l):=by
 unfold x0h z6g;rw[List.map_map];rfl
def x97(s:ByteArray):Bool:=(List.range s.size).all fun i=>(decide (32<=byt s i)&&decide (byt s i<127))||byt s i==10
theorem y4K{s:ByteArray}(h:x97 s=true):y8o s:=by
 intro i hi
 have:=qN.1 h i (List.mem_range.2 hi)
 simp only[qH,qm,decide_eq_true_eq,beq_iff_eq] at this
 exact this
theorem y6y:y8o {data:=#[]}:=y4K (by decide+kernel)
def z5V(a b:List DOp)(i:Nat):Bool:=
 if i<a.length then if a.getD i default=b.getD i default then z5V a b (i+1) else false else true
termination_by a.length-i
def z5h(a b:List DOp):Bool:=decide (a.length=b.length)&&z5V a b 0
def z0e(x lo hi:Int):Int:=lo+((x.tmod (hi-lo+1))+(hi-lo+1)).tmod (hi-lo+1)
theorem x0j(x:Int){n:Int}(hn:0<n): -n<x.tmod n/\x.tmod n<n:=by
 have h1:=Int.tmod_lt_of_pos x hn
 have h2: -n<x.tmod n:=by
  rcases Int.le_total 0 x with h|h
  ·have:=Int.tmod_nonneg n h;omega
  ·have h3:=Int.tmod_lt_of_pos (-x) hn
   rw[Int.neg_tmod] at h3;omega
 exact⟨h2,h1⟩
theorem z0w(x:Int){lo hi:Int}(h:lo<=hi):lo<=z0e x lo hi/\z0e x lo hi<=hi:=by
 unfold z0e
 have h1:=x0j x (n:=hi-lo+1) (by omega)
 have h2:=Int.tmod_nonneg (hi-lo+1) (a:=(x.tmod (hi-lo+1))+(hi-lo+1)) (by omega)
 have h3:=Int.tmod_lt_of_pos ((x.tmod (hi-lo+1))+(hi-lo+1)) (b:=hi-lo+1) (by omega)
 omega
theorem y4L(a:List DOp):z5h a a=true:=by
 have:∀(d i:Nat),a.length-i=d->z5V a a i=true:=by
  intro d
  induction d with
  |zero=>intro i h;rw[z5V,if_neg (by omega)]
  |succ d ih=>intro i h;rw[z5V,if_pos (by omega),if_pos rfl];exact ih (i+1) (by omega)
 unfold z5h;simp[this _ 0 rfl]
def x0k(a b:Node):Bool:=(((((a.id==b.id&&a.kind==b.kind)&&z0O a.attrs b.attrs)&&z4w a.flow b.flow)&&z9Q a.grid b.grid)&&z5h a.draw b.draw)
theorem x5n(s:ByteArray):seq s s=true:=z0M.2 rfl
theorem y7R(c:Cell):y7x c c=true:=by unfold y7x;simp[x5n,z4a]
theorem y7S(g:Grid):z9Q g g=true:=by
 have h1:∀(d i:Nat),g.cells.length-i=d->z2a g.cells g.cells i=true:=by
  intro d
  induction d with
  |zero=>intro i h;rw[z2a,if_neg (by omega)]
  |succ d ih=>intro i h;rw[z2a,if_pos (by omega),if_pos (y7R _)];exact ih (i+1) (by omega)
 have h2:∀(d i:Nat),g.merges.length-i=d->z2b g.merges g.merges i=true:=by
  intro d
  induction d with
  |zero=>intro i h;rw[z2b,if_neg (by omega)]
  |succ d ih=>intro i h;rw[z2b,if_pos (by omega),if_pos rfl];exact ih (i+1) (by omega)
 unfold z9Q z3F z5T;simp[h1 _ 0 rfl,h2 _ 0 rfl]
theorem y7T(n:Node):x0k n n=true:=by unfold x0k;simp[z4a,y7v,y7S,y4L]
def x5o(f:List Elem)(i:Nat):Bool:=
 (bif y4G (f.getD i default).attrs z9I then false else !(seq (z19 (f.getD i default).attrs x6i 0) onB))|| (decide ((i:Int)=(f.length:Int)- 1)&&((f.getD i default).char==10))
def y7U(f:List Elem)(i:Nat):List Int:=((List.range i).filter (x5o f)).map fun i:Nat=>(i:Int)
theorem z66(f:List Elem)(i:Nat):y7U f (i+1)=y7U f i++(if x5o f i=true then[(i:Int)] else[]):=by
 unfold y7U
 rw[zQ,zG,zj]
 congr 1
 by_cases h:x5o f i=true
 ·rw[if_pos h];simp[h]
 ·rw[if_neg h];simp at h;simp[h]
theorem y1B(f:List Elem)(i:Nat):(y7U f i).length<=i:=by
 unfold y7U;rw[qk];exact qP (zT ..) (by simp)
def z1L(d:Doc)(k:Int):Node:=if z2h d.nodes k 0<0 then z9S else d.nodes.getD (z2h d.nodes k 0).toNat default
def y1C(d:Doc)(k:Int):Bool:=decide (0<=z2h d.nodes k 0)
theorem x5p{d:Doc}{k:Int}{i:Nat}(h:z2h d.nodes k 0=(i:Int)):z1L d k=d.nodes.getD i default/\y1C d k=true:=by
 unfold z1L y1C;rw[h,if_neg (by omega),decide_eq_true (by omega)];exact⟨rfl,rfl⟩
theorem x5q{d:Doc}{k:Int}(h:z2h d.nodes k 0= -1):z1L d k=z9S/\y1C d k=false:=by
 unfold z1L y1C;rw[h,if_pos (by omega),decide_eq_false (by omega)];exact⟨rfl,rfl⟩
def z6h(n:Node):Int:=if 0<n.draw.length then(n.draw.getD (n.draw.length- 1) default).clock else 0
def z7j(n:Node)(ks:List Int):List Int:=(ks.filter fun x=>n.kind==x).map fun _=>n.id
def z7y(l:List Node)(ks:List Int):List Int:=l.flatMap fun n=>z7j n ks
def z2d(d:Doc)(k:Int)(ks:List Int):Int:=if(z7y d.nodes ks).length=0 then 0 else(z7y d.nodes ks).getD (z0e k 0 (((z7y d.nodes ks).length:Int)- 1)).toNat default
theorem y3n(n:Node)(ks:List Int):(z7j n ks).length<=ks.length:=by
 unfold z7j;rw[qk];exact zT ..
theorem x0l(l:List Node)(ks:List Int):(z7y l ks).length<=l.length*ks.length:=by
 induction l with
 |nil=>simp[z7y]
 |cons n l ih=>
  have:=y3n n ks
  have e:z7y (n::l) ks=z7j n ks++z7y l ks:=rfl
  rw[e,qf,qi,zk,Nat.one_mul];omega
theorem y0r{n:Node}{ks:List Int}{j:Nat}(h:j<ks.length):z7j n (ks.take (j+1))=z7j n (ks.take j)++(if n.kind=ks.getD j default then[n.id] else[]):=by
 have e:ks.getD j default=ks[j]:=by rw[qe,qb h];rfl
 unfold z7j
 rw[qz h,zG,zj,e]
 congr 1
 by_cases q:n.kind=ks[j]
 ·rw[if_pos q];simp[q]
 ·rw[if_neg q];simp[q]
theorem y7V{l:List Node}{ks:List Int}{i:Nat}(h:i<l.length):z7y (l.take (i+1)) ks=z7y (l.take i) ks++z7j (l.getD i default) ks:=by
 have e:l.getD i default=l[i]:=by rw[qe,qb h];rfl
 unfold z7y
 rw[qz h,List.flatMap_append,e];simp
def z4n(d:Doc)(b:Int):Int:=z2d d (IntKind.i64.wrap (b.tdiv 7)) [1,3,4,12]
def y7W(d:Doc)(b:Int):Int:=max 0 (((y7U (z1L d (z4n d b)).flow (z1L d (z4n d b)).flow.length).length:Int)- 1)
def z4U(d:Doc)(b c:Int):Int:=z0e (IntKind.i64.wrap (c.tdiv 5)) 0 (y7W d b)
def z7Y(d:Doc)(b c:Int):Int:=z0e (IntKind.i64.wrap (c.tdiv 11)) (z4U d b c) (min (y7W d b) (z4U d b c+4))
abbrev x1D:List ByteArray:=[{data:=#[120]},{data:=#[121,122]},{data:=#[10]},{data:=#[119,32,118]},{data:=#[98]}]
theorem z8v{α:Type}[Inhabited α]{P:α->Prop}{l:List α}(h:∀x∈l,P x)(h0:P default)(k:Nat):P (l.getD k default):=by
 by_cases q:k<l.length
 ·exact h _ (z0j q)
 ·rw[qe,zK (by omega)];exact h0
theorem z67(k:Nat):y8o (x1D.getD k default):=by
 refine z8v (P:=y8o) (fun t ht=>y4K ?_) (fun i hi=>absurd hi (Nat.not_lt_zero _)) k
 simp only[x1D,qg,qX,or_false] at ht
 rcases ht with rfl|rfl|rfl|rfl|rfl<;>decide+kernel
theorem y1D(k:Nat):(x1D.getD k default).size<=20000:=by
 refine z8v (P:=fun t:ByteArray=>t.size<=20000) (fun t ht=> ?_) (by decide) k
 simp only[x1D,qg,qX,or_false] at ht
 rcases ht with rfl|rfl|rfl|rfl|rfl<;>decide
theorem x5r:y8o {data:=#[116]}:=y4K (by decide+kernel)
theorem y6z(k:Nat): -1000000<=([1,2,-1]:List Int).getD k default/\([1,2,-1]:List Int).getD k default<=2147483647:=by
 refine z8v (P:=fun x:Int=> -1000000<=x/\x<=2147483647) (fun t ht=> ?_) (by decide) k
 simp only[qg,qX,or_false] at ht
 rcases ht with rfl|rfl|rfl<;>decide
abbrev x7O:List Attr:=[{name:={data:=#[107,105,110,100]},val:={data:=#[115,101,113]}}]
theorem x0m:z1B false x7O 0=0:=by decide+kernel
theorem y3o{d:Doc}(h:DocL d)(k:Int):(z1L d k).flow.length<=1048576:=by
 unfold z1L;split
 ·simp[z9S]
 ·by_cases q:(z2h d.nodes k 0).toNat<d.nodes.length
  ·exact(h.all _ (z0j q)).fl2
  ·rw[qe,zK (by omega)];simp[default,instInhabitedNode]
theorem x0n{d:Doc}(h:DocL d)(k:Int):(z1L d k).draw.length<=1048576:=by
 unfold z1L;split
 ·simp[z9S]
 ·by_cases q:(z2h d.nodes k 0).toNat<d.nodes.length
  ·exact(h.all _ (z0j q)).dr1
  ·rw[qe,zK (by omega)];simp[default,instInhabitedNode]
theorem y4M{d:Doc}(h:DocL d)(b:Int):0<=y7W d b/\y7W d b<=1048576:=by
 have h1:=y3o h (z4n d b)
 have h2:=y1B (z1L d (z4n d b)).flow (z1L d (z4n d b)).flow.length
 unfold y7W;omega
theorem x0o{d:Doc}(h:DocL d)(b c:Int):0<=z4U d b c/\z4U d b c<=y7W d b:=z0w _ (y4M h b).1
abbrev y1E(d:Doc)(b c:Int):Sel:={nd:=z4n d b,fr:=z4U d b c,tq:=z7Y d b c}
structure CmdB(d:Doc)(site b c:Int):Prop where
 ty:∀t au:ByteArray,y8o t->t.size<=20000->atE d (y1E d b c) au=0->TypB d (y1E d b c) (z6g t) au
 fm:atE d (y1E d b c) {data:=#[]}=0->PlB (atP d (y1E d b c) {data:=#[]})
 pa:atE d (y1E d b c) {data:=#[]}=0->PlB (atP d (y1E d b c) {data:=#[]})/\0<=z4U d b c/\z4U d b c<=z7Y d b c/\z7Y d b c<=1000000000
 ob:∀n:Node,atE d (y1E d b c) {data:=#[]}=0->z1w d site=0->ObjB d (y1E d b c) n site {data:=#[]}
 lc: -1<=z6h (z1L d (z2d d b [10,8]))/\z6h (z1L d (z2d d b [10,8]))<=1000000000000
def opA(k:Int)(l:List Attr):EOp:=⟨1,k,⟨0,0,[],[],⟨0,0,[],[]⟩,[]⟩,l,[],⟨[],[],[],[],[]⟩,[]⟩
def opD(k:Int)(l:List DOp):EOp:=⟨4,k,⟨0,0,[],[],⟨0,0,[],[]⟩,[]⟩,[],[],⟨[],[],[],[],[]⟩,l⟩
def z1x(d:Doc)(site a b c:Int):List EOp:=
 if z0e a 0 13=0\/z0e a 0 13=1\/z0e a 0 13=2 then z3r d (y1E d b c) (z6g (x1D.getD (Int.toNat (z0e b 0 4)) default)) {data:=#[]}
 else if z0e a 0 13=3 then z3r d (y1E d b c) (z6g {data:=#[]}) {data:=#[]}
 else if z0e a 0 13=4 then z3r d (y1E d b c) (z6g {data:=#[116]}) {data:=#[97,110,110]}
 else if z0e a 0 13=5 then y8k d (y1E d b c) [{name:=[{data:=#[98,111,108,100]},{data:=#[115,105,122,101]},{data:=#[109,97,114,107,46,109]}].getD (Int.toNat (z0e b 0 2)) default,val:=[{data:=#[]},{data:=#[111,110]},{data:=#[52,48]}].getD (Int.toNat (z0e (IntKind.i64.wrap (a.tdiv 14)) 0 2)) default}]
 else if z0e a 0 13=6 then y8l d (y1E d b c) [{name:=[{data:=#[104,101,97,100]},{data:=#[108,105,115,116]},{data:=#[97,108,105,103,110]}].getD (Int.toNat (z0e b 0 2)) default,val:=[{data:=#[49]},{data:=#[50]},{data:=#[]}].getD (Int.toNat (z0e (IntKind.i64.wrap (a.tdiv 14)) 0 2)) default}]
 else if z0e a 0 13=7 then z4T d (y1E d b c) (y1y (z0e b 1 3) (z0e (IntKind.i64.wrap (a.tdiv 14)) 1 3)) site {data:=#[]}
 else if z0e a 0 13=8 then z4T d (y1E d b c) (z9q (b.tmod 2==0)) site {data:=#[]}
 else if z0e a 0 13=9 then z4T d (y1E d b c) (y1z x7O) site {data:=#[]}
 else if z0e a 0 13=10 then y8m d (z2d d b [2,6]) (z0e c 0 2) ([1,2,-1].getD (Int.toNat (z0e (IntKind.i64.wrap (a.tdiv 14)) 0 2)) default)
 else if z0e a 0 13=11 then y8n d (z2d d b [2,6]) (z0e c 0 2) ([1,2,-1].getD (Int.toNat (z0e (IntKind.i64.wrap (a.tdiv 14)) 0 2)) default)
 else if z0e a 0 13=12 then z9r d (z2d d b [2]) (z0e c 0 2) (z0e (IntKind.i64.wrap (a.tdiv 14)) 0 2) site
 else if y1C d (z2d d b [10,8])=true then
  [opD (z1L d (z2d d b [10,8])).id [{clock:=1+z6h (z1L d (z2d d b [10,8])),site:=site,kind:=0,itm:=z0e c 1 3,prt:=z0e (IntKind.i64.wrap (a.tdiv 14)) (-1) 3,plc:={data:=#[98]},nm:={data:=#[]},vl:={data:=#[]}}]]
 else[opA 1 [{name:={data:=#[116,105,116,108,101]},val:=[{data:=#[]},{data:=#[112]},{data:=#[113]}].getD (Int.toNat (z0e c 0 2)) default}]]
def z0D:Doc:=⟨[⟨1,0,[],[⟨0,2,[]⟩],⟨0,0,[],[]⟩,[]⟩,⟨2,1,[],[⟨10,0,[]⟩],⟨0,0,[],[]⟩,[]⟩]⟩
def z8b:Doc:=⟨[⟨1,0,[],[⟨0,2,[]⟩,⟨0,3,[]⟩],⟨0,0,[],[]⟩,[]⟩,⟨2,1,[],[⟨97,0,[]⟩,⟨98,0,[]⟩,⟨99,0,[]⟩,⟨10,0,[]⟩,⟨100,0,[]⟩,⟨10,0,[]⟩],⟨0,0,[],[]⟩,[]⟩,⟨3,10,[],[],⟨0,0,[],[]⟩,[]⟩]⟩
def x0p:Node:=⟨1,0,[],[⟨0,2,[]⟩],⟨0,0,[],[]⟩,[]⟩
def x0q:Node:=⟨2,1,[],[⟨10,0,[]⟩],⟨0,0,[],[]⟩,[]⟩
theorem y1F:z1N z0D=0:=by decide+kernel
theorem y4N:DocL z0D:=by
 have hx:∀n∈z0D.nodes,n=x0p\/n=x0q:=fun n hn=>by
  have hn:n∈[x0p,x0q]:=hn
  simpa using hn
 refine⟨⟨by decide,fun n hn=> ?_,by decide⟩,fun n hn=> ?_⟩
 ·rcases hx n hn with rfl|rfl
  ·refine⟨(fun a h=>by cases h),by decide,fun x h=> ?_,by decide,fun x h=> ?_,(fun c h=>by cases h),by decide,(fun c h=>by cases h),by decide,by decide,(fun o h=>by cases h)⟩
   ·rw[show x=⟨0,2,[]⟩ by simpa[x0p] using h];exact(fun a h=>by cases h)
   ·rw[show x=⟨0,2,[]⟩ by simpa[x0p] using h];decide
  ·refine⟨(fun a h=>by cases h),by decide,fun x h=> ?_,by decide,fun x h=> ?_,(fun c h=>by cases h),by decide,(fun c h=>by cases h),by decide,by decide,(fun o h=>by cases h)⟩
   ·rw[show x=⟨10,0,[]⟩ by simpa[x0q] using h];exact(fun a h=>by cases h)
   ·rw[show x=⟨10,0,[]⟩ by simpa[x0q] using h];decide
 ·rcases hx n hn with rfl|rfl<;>exact⟨rfl,(fun c h=>by cases h)⟩
structure Vis where
 id:Int
 parent:Int
 vis:Bool
instance:Inhabited Vis:=⟨⟨0,0,false⟩⟩
def onM(k:Int):Int×MV:=(k,.im (Ab.TB true))
def onA(s:ByteArray):List Attr:=[⟨s,{data:=#[111,110]}⟩]
def x7b:List EOp:=[opA 2 (onA {data:=#[116,105,116,108,101]})]
theorem x7c:AppB z0D x7b:=by
 have hl:=y4N
 have ho:OpL (opA 2 (onA {data:=#[116,105,116,108,101]})):=by
  refine⟨⟨by decide,by decide,by decide,by decide,by decide⟩,⟨(fun a h=>by cases h),by decide,(fun x h=>by cases h),by decide,(fun x h=>by cases h),(fun c h=>by cases h),by decide,(fun c h=>by cases h),by decide,by decide,(fun o h=>by cases h)⟩,⟨rfl,(fun c h=>by cases h)⟩,by decide,(fun s h=>by cases h),⟨rfl,rfl,(fun c h=>by cases h),by decide⟩,(fun c h=>by cases h),by decide⟩
 refine⟨hl,fun o h=> ?_,fun h1 h2=>⟨⟨by decide,z8n y1F,by decide+kernel,ho,fun n hn=>⟨hl.all n hn,hl.lite n hn,?_⟩⟩,fun _=>trivial⟩⟩
 ·rw[show o=opA 2 (onA {data:=#[116,105,116,108,101]}) by simpa[x7b] using h];exact ho
 ·have hn:n∈[x0p,x0q]:=hn
  simp only[qg,qX,or_false] at hn
  rcases hn with rfl|rfl<;>decide
def x0r(site:Int)(d:Doc)(a b c:Int):Doc:=if z3s d (z1x d site a b c)=0 then z4S d (z1x d site a b c) else d
theorem y1G{site:Int}{d:Doc}{a b c:Int}(h:z3s d (z1x d site a b c)=0):x0r site d a b c=z4S d (z1x d site a b c):=if_pos h
theorem y4O{site:Int}{d:Doc}{a b c:Int}(h:¬z3s d (z1x d site a b c)=0):x0r site d a b c=d:=if_neg h
def z2R(site:Int)(raw:List Int)(d:Doc)(k:Nat):Doc:=
 if k+2<raw.length/\k<36 then z2R site raw (x0r site d (raw.getD k default) (raw.getD (k+1) default) (raw.getD (k+2) default)) (k+3) else d
termination_by raw.length-k
theorem y1H{site:Int}{raw:List Int}{d:Doc}{k:Nat}(h:k+2<raw.length/\k<36):z2R site raw d k=z2R site raw (x0r site d (raw.getD k default) (raw.getD (k+1) default) (raw.getD (k+2) default)) (k+3):=by
 rw[z2R,if_pos h]
theorem y3p{site:Int}{raw:List Int}{d:Doc}{k:Nat}(h:¬(k+2<raw.length/\k<36)):z2R site raw d k=d:=by rw[z2R,if_neg h]
structure GInv(site:Int)(G:Nat->Doc->Prop):Prop where
 doc:∀{k d},G k d->DocL d
 cmd:∀{k d} (b c:Int),G k d->CmdB d site b c
 app:∀{k d} (a b c:Int),G k d->AppB d (z1x d site a b c)
 step:∀{k d} (a b c:Int),k<55->G k d->G (k+3) (x0r site d a b c)
 more:∀{k d},k<55->G k d->G (k+3) d
theorem GInv.grown{site:Int}{G:Nat->Doc->Prop}(hI:GInv site G){raw:List Int}:∀(m:Nat) {k:Nat} {d:Doc},raw.length-k=m->k<39->G k d->∃k',k'<=38/\G k' (z2R site raw d k):=by
 intro m
 induction m using Nat.strongRecOn with
 |_ m ih=>
  intro k d hm hk hg
  by_cases h:k+2<raw.length/\k<36
  ·rw[y1H h]
   exact ih _ (by omega) rfl (by omega) (hI.step _ _ _ (by omega) hg)
  ·rw[y3p h];exact⟨k,by omega,hg⟩
def x3R(g:Bool)(x:List EOp)(n:Nat):Bool:=(x.take n).any fun o=>(o.kind==3)&& !g
theorem x2P{g:Bool}{x:List EOp}{n:Nat}(h:n<x.length):x3R g x (n+1)=(x3R g x n|| (((x.getD n default).kind==3)&& !g)):=by
 have e:x.getD n default=x[n]:=by rw[qe,qb h];rfl
 unfold x3R
 rw[qz h,List.any_append,e];simp
def okC(site:Int)(g:Bool)(d:Doc)(a b c:Int):Bool:=decide (z3s d (z1x d site a b c)=0)&& !x3R g (z1x d site a b c) (z1x d site a b c).length
theorem x9c{site:Int}{g:Bool}{d:Doc}{a b c:Int}(h:z3s d (z1x d site a b c)=0)(h2:x3R g (z1x d site a b c) (z1x d site a b c).length=false):okC site g d a b c=true:=by unfold okC;rw[h2,decide_eq_true h];rfl
theorem x9d{site:Int}{g:Bool}{d:Doc}{a b c:Int}(h:¬z3s d (z1x d site a b c)=0\/x3R g (z1x d site a b c) (z1x d site a b c).length=true):¬okC site g d a b c=true:=by
 unfold okC;rcases h with h|h
 ·rw[decide_eq_false h];simp
 ·rw[h];simp
def z6i(site:Int)(g:Bool)(raw:List Int)(c:List EOp)(d:Doc)(k:Nat):List EOp×Doc:=
 if k+2<raw.length/\k<15 then
  (if okC site g d (raw.getD k default) (raw.getD (k+1) default) (raw.getD (k+2) default)=true then
   z6i site g raw (c++z1x d site (raw.getD k default) (raw.getD (k+1) default) (raw.getD (k+2) default)) (z4S d (z1x d site (raw.getD k default) (raw.getD (k+1) default) (raw.getD (k+2) default))) (k+3)
  else z6i site g raw c d (k+3))
 else(c,d)
termination_by raw.length-k
theorem x5s{site:Int}{g:Bool}{raw:List Int}{c:List EOp}{d:Doc}{k:Nat}(h:k+2<raw.length/\k<15)(h2:okC site g d (raw.getD k default) (raw.getD (k+1) default) (raw.getD (k+2) default)=true):
 z6i site g raw c d k=z6i site g raw (c++z1x d site (raw.getD k default) (raw.getD (k+1) default) (raw.getD (k+2) default)) (z4S d (z1x d site (raw.getD k default) (raw.getD (k+1) default) (raw.getD (k+2) default))) (k+3):=by rw[z6i,if_pos h,if_pos h2]
theorem x5t{site:Int}{g:Bool}{raw:List Int}{c:List EOp}{d:Doc}{k:Nat}(h:k+2<raw.length/\k<15)(h2:¬okC site g d (raw.getD k default) (raw.getD (k+1) default) (raw.getD (k+2) default)=true):
 z6i site g raw c d k=z6i site g raw c d (k+3):=by rw[z6i,if_pos h,if_neg h2]
theorem y1I{site:Int}{g:Bool}{raw:List Int}{c:List EOp}{d:Doc}{k:Nat}(h:¬(k+2<raw.length/\k<15)):z6i site g raw c d k=(c,d):=by rw[z6i,if_neg h]
theorem z1I{p:Prop}[Decidable p]{x y:List EOp}(hx:x.length<=2)(hy:y.length<=2):(if p then x else y).length<=2:=by split<;>assumption
theorem y6A(d:Doc)(site a b c:Int):(z1x d site a b c).length<=2:=by
 have h0:([]:List EOp).length<=2:=by decide
 have h1:∀(s:Sel) (cs:List Int) (au:ByteArray),(z3r d s cs au).length<=2:=fun s cs au=>z1I h0 (by simp)
 have h2:∀(s:Sel) (n:Node) (au:ByteArray),(z4T d s n site au).length<=2:=fun s n au=>z1I h0 (by simp)
 unfold z1x
 refine z1I (h1 _ _ _) (z1I (h1 _ _ _) (z1I (h1 _ _ _) (z1I (z1I h0 (by simp[x1C])) (z1I (z1I h0 (by simp[x1C])) (z1I (h2 _ _ _) (z1I (h2 _ _ _) (z1I (h2 _ _ _) (z1I (z1I h0 (by simp)) (z1I (z1I h0 (by simp)) (z1I (z1I h0 (by simp[x85])) (z1I (by simp) (by simp))))))))))))
end Go.Ch
end
section
namespace Go.Ch
open Go Go.Ab
structure US where
 nm:List ByteArray
 no:List ByteArray
instance:Membership ByteArray US:=⟨fun U s=>s∈U.nm⟩
def US.length(U:US):Nat:=U.nm.length
def NU(U:US)(s:ByteArray):Prop:=NPg s/\s∈U
def VW(U:US)(s:ByteArray):Prop:=VPg s/\s∉U.no
def VU(U:US)(e:Bool)(l:List Attr):Prop:=V (NU U) (VW U) e l
variable {U:US}
theorem y7X:¬NU U mt:=fun h=>y7r h.1
theorem VU.g{e:Bool}{l:List Attr}(h:VU U e l):VG e l:=⟨h.1,fun a ha=>⟨(h.2 a ha).1.1,Or.imp (fun q:VW U a.val=>q.1) (fun q=>q) (h.2 a ha).2⟩⟩
theorem VU.nil{e:Bool}:VU U e []:=⟨z9d.1,fun a h=>by cases h⟩
theorem VU.sub{e:Bool}{l:List Attr}(h:VU U false l):VU U e l:=⟨h.1,fun a ha=>⟨(h.2 a ha).1,.inl ((h.2 a ha).2.resolve_right (fun q=>by cases q.1))⟩⟩
theorem y6B:∀{l:List Attr} {U:List ByteArray},z3E l->(∀a∈l,a.name∈U)->l.length<=U.length
 | [],U,_,_=>qS _
 |a::l,U,hs,hu=>by
  have:=y6B (l:=l) (U:=U.filter fun s=> !(seq s a.name)) hs.2 (fun b hb=>by
   have h1:=hs.1 b hb
   rw[List.mem_filter]
   exact⟨hu b (by simp[hb]),by rw[z1V.2 (Ne.symm (z2Z h1))];rfl⟩)
  have h2:=(List.length_filter_lt_length_iff_exists (l:=U) (p:=fun s=> !(seq s a.name))).2 ⟨a.name,hu a (by simp),by rw[z0M.2 rfl];decide⟩
  simp only[qi];omega
theorem VU.len{e:Bool}{l:List Attr}(h:VU U e l)(hU:U.length<=100):l.length<=100:=qP (y6B h.1 (fun a ha=>(h.2 a ha).1.2)) hU
def RU(U:US)(x:Elem):Prop:=z05 x=0/\VU U false x.attrs
def UU(U:US):DU->Prop
 | .K c=>VU U true c
 | .A e=>RU U e
 | .C=>True
theorem x2Q{x:Elem}{l:List Attr}(h:z05 x=0)(hl:VG false l):z05 ⟨x.char,x.ref,l⟩=0:=by
 unfold z05 at h|-
 split at h
 ·cases h
 ·rename_i h1
  split at h
  ·cases h
  ·rename_i h2
   rw[if_neg h1,if_neg h2];exact z1z.2 hl
theorem RU.chg{x:Elem}{c:List Attr}(h:RU U x)(hc:VU U true c):RU U (z7d c x):=by
 have:=y2I y7X h.2 hc
 exact⟨x2Q h.1 (VU.g this),this⟩
theorem UU.s(hU:U.length<=100){u:DU}(h:UU U u):x2z u:=by
 cases u with
 |K c=>exact⟨VU.g h,VU.len h hU⟩
 |A e=>exact⟨h.1,VU.len h.2 hU⟩
 |C=>trivial
theorem all_cons{α:Type}{P:α->Prop}{x:α}{l:List α}(h:P x)(k:∀u∈l,P u):∀u∈x::l,P u:=fun u hu=>by
 rcases qg.1 hu with rfl|hu
 ·exact h
 ·exact k u hu
theorem z0y{α:Type}{P:α->Prop}{x:α}{l:List α}(h:∀u∈x::l,P u):∀u∈l,P u:=fun u hu=>h u (qU _ hu)
theorem y7Y(p q:List DU)(hp:∀u∈p,UU U u)(hq:∀u∈q,UU U u):∀u∈z0r p q,UU U u:=by
 induction p,q using z0r.induct with
 |case1 q p ih=>rw[z0r];exact all_cons trivial (ih (z0y hp) hq)
 |case2 p e q hne ih=>
  rw[z0r]
  rotate_left
  ·exact hne
  exact all_cons (hq (.A e) (by simp)) (ih hp (z0y hq))
 |case3 c p d q ih=>rw[z0r];exact all_cons (x6v y7X (hp (.K c) (by simp)) (hq (.K d) (by simp))) (ih (z0y hp) (z0y hq))
 |case4 c p q ih=>rw[z0r];exact all_cons trivial (ih (z0y hp) (z0y hq))
 |case5 e p d q ih=>rw[z0r];exact all_cons (RU.chg (hp (.A e) (by simp)) (hq (.K d) (by simp))) (ih (z0y hp) (z0y hq))
 |case6 e p q ih=>rw[z0r];exact ih (z0y hp) (z0y hq)
 |case7 p hne=>rw[show z0r p []=p by unfold z0r;split<;>simp_all];exact hp
 |case8 q h1 h2=>rw[show z0r [] q=[] by unfold z0r;split<;>simp_all];intro u hu;cases hu
def z2U:List DU->Nat
 | []=>0
 | .A _::us=>z2U us+1
 |_::us=>z2U us
theorem y0s(p q:List DU)(hp:∀u∈p,UU U u)(hq:∀u∈q,UU U u):∀u∈(z0f p q).1,UU U u:=by
 have h0:UU U (.K []):=VU.nil
 induction p,q using z0f.induct with
 |case1 e p q ih=>rw[z0f];exact all_cons (hp (.A e) (by simp)) (ih (z0y hp) hq)
 |case2 e q ih=>rw[z0f];exact all_cons h0 (ih hp (z0y hq))
 |case3 c p e q ih=>rw[z0f];exact all_cons h0 (ih hp (z0y hq))
 |case4 p e q ih=>rw[z0f];exact all_cons h0 (ih hp (z0y hq))
 |case5 c p d q ih=>rw[z0f];exact all_cons (x15 y7X (hp (.K c) (by simp)) (hq (.K d) (by simp))) (ih (z0y hp) (z0y hq))
 |case6 c p q ih=>rw[z0f];exact ih (z0y hp) (z0y hq)
 |case7 p d q ih=>rw[z0f];exact all_cons trivial (ih (z0y hp) (z0y hq))
 |case8 p q ih=>rw[z0f];exact ih (z0y hp) (z0y hq)
 |case9 p hne=>rw[show z0f p []=([],[]) by unfold z0f;split<;>simp_all];intro u hu;cases hu
 |case10 q h1 h2=>rw[show z0f [] q=([],[]) by unfold z0f;split<;>simp_all];intro u hu;cases hu
theorem y7Z(p q:List DU):z07 (z0f p q).1<=z07 q+z2U p:=by
 induction p,q using z0f.induct with
 |case9 p hne=>rw[show z0f p []=([],[]) by unfold z0f;split<;>simp_all];simp[z07]
 |case10 q h1 h2=>rw[show z0f [] q=([],[]) by unfold z0f;split<;>simp_all];simp[z07]
 |_=>rw[z0f];simp only[z07,z2U] at*;omega
theorem z3a:∀(us:List DU) (f:List Elem),(∀u∈us,UU U u)->(∀x∈f,RU U x)->∀x∈z0s us f,RU U x
 | [],f,_,_=>fun x h=>by cases h
 | .A e::us,f,hu,hf=>by rw[z0s];exact all_cons (hu (.A e) (by simp)) (z3a us f (z0y hu) hf)
 | .K c::us,y::f,hu,hf=>by rw[z0s];exact all_cons (RU.chg (hf y (by simp)) (hu (.K c) (by simp))) (z3a us f (z0y hu) (z0y hf))
 | .C::us,y::f,hu,hf=>by rw[z0s];exact z3a us f (z0y hu) (z0y hf)
 | .K c::us,[],hu,hf=>by rw[z0s];exact z3a us [] (z0y hu) hf
 | .C::us,[],hu,hf=>by rw[z0s];exact z3a us [] (z0y hu) hf
structure DU_(U:US)(l:List DStep)(us:List DU):Prop where
 v:z1g l
 sw:DSw (exD l) us
 all:∀u∈us,UU U u
theorem DU_.dn(hU:U.length<=100){l:List DStep}{us:List DU}(h:DU_ U l us):DN 100000000000 l:=x8l h.v h.sw (fun u hu=>UU.s hU (h.all u hu))
theorem DU_.ex{l:List DStep}{us:List DU}(h:DU_ U l us):∀u∈exD l,UU U u:=fun u hu=>h.all u ((y1r h.sw u).1 hu)
theorem DU_.done(hU:U.length<=100){us:List DU}(hu:∀u∈us,UU U u)(h1:z0I us<=2147483647)(h2:z07 us<=2147483647):DU_ U (z5K us) us:=by
 obtain⟨a,b,_⟩:=z5z (fun u h=>(UU.s hU (hu u h)).ok) h1 h2
 exact⟨a,b,hu⟩
end Go.Ch
end
section
namespace Go.Ch
open Go Go.Ab
variable {U:US}
theorem y6C(a b:List DU):z2U (a++b)=z2U a+z2U b:=by
 induction a with
 |nil=>simp[z2U]
 |cons u a ih=>cases u<;>simp only[qy,z2U,ih]<;>omega
theorem x5u(e:List Elem):z2U (e.map .A)=e.length:=by
 induction e with
 |nil=>rfl
 |cons x e ih=>simp only[qZ,z2U,ih,qi]
theorem x5v(n:Nat)(c:List Attr):z2U (List.replicate n (.K c))=0:=by
 induction n with
 |zero=>rfl
 |succ n ih=>rw[qK];exact ih
theorem z6j{u v:List DU}(h:DSw u v):z2U u=z2U v:=by
 induction h with
 |refl u=>rfl
 |cons x h ih=>cases x<;>simp only[z2U,ih]
 |swap e u=>simp only[z2U]
 |symm h ih=>exact ih.symm
 |trans h k i j=>exact i.trans j
theorem x7d{w:DWr}{s:DStep}(h:(s.kind=0/\0<=s.n)\/s.kind=1):tdW w s=z1S w (exS s):=by
 unfold tdW exS
 rcases h with⟨k,n⟩|k
 ·rw[if_pos k,if_neg (show¬s.kind=1 by omega),if_neg (show¬s.kind=2 by omega)]
  by_cases h0:s.n=0
  ·rw[if_pos h0,h0];rfl
  ·rw[if_neg h0]
   obtain⟨m,hm⟩:∃m,s.n.toNat=m+1:=⟨s.n.toNat- 1,by omega⟩
   have:=y1q s.attrs [] m w
   rw[qQ] at this
   rw[hm,this,show((m+1:Nat):Int)=s.n by omega];rfl
 ·rw[if_neg (by omega),if_pos k,if_pos k]
  have:=y6e s.elems [] w
  rw[qQ] at this
  rw[this];rfl
theorem y3q:∀(a b:List DU) (w:DWr),z1S w (a++b)=z1S (z1S w a) b
 | [],b,w=>rfl
 |u::a,b,w=>y3q a b (y3R w u)
theorem y6D:∀(d:List DStep) (w:DWr),(∀s∈d,((s.kind=0/\0<=s.n)\/s.kind=1)/\z9H s=0)->z4R w d=if z1u (z0b (z1S w (exD d)))=0 then(z0b (z1S w (exD d)),0) else([],3)
 | [],w,_=>by rw[z4R,exD,z1S]
 |s::d,w,h=>by
  obtain⟨h1,h2⟩:=h s (by simp)
  rw[y7M h2 (fun q=>by unfold z5L at q;omega),y6D d _ (fun t ht=>h t (by simp[ht])),exD,y3q,x7d h1]
theorem x5w{d:List DStep}(h:∀s∈d,((s.kind=0/\0<=s.n)\/s.kind=1)/\z9H s=0)(hu:∀u∈exD d,z1G u)(h1:z0I (exD d)<=2147483647)(h2:z07 (exD d)<=2147483647):z2Q d=z5K (exD d):=by
 have hv:=(z5z hu h1 h2).1
 unfold z2Q
 rw[y6D d _ h,if_pos (show z1u (z0b (z1S ⟨[],[],0⟩ (exD d)))=0 from z1r.2 hv)];rfl
theorem y3r{n:Int}{c:List Attr}(h:0<=n/\n<=2147483647)(hc:VG true c):z9H ⟨0,n,c,[]⟩=0:=by
 by_cases h0:n=0
 ·subst h0
  unfold z9H
  have e:z0Q ⟨0,0,c,[]⟩=2:=by unfold z0Q;simp
  rw[if_pos (.inr ⟨(by decide:(0:Int)≠1),rfl,e⟩)];exact z1z.2 hc
 ·exact z9i (z1d.2 (.inr ⟨.inl rfl,rfl,fun q=>absurd (show(0:Int)=2 from q) (by decide),(by show(1:Int)<=n;omega),h.2,hc⟩))
theorem x0s{es:List Elem}(h:∀x∈es,z05 x=0):z9H ⟨1,0,[],es⟩=0:=by
 cases es with
 |nil=>
  unfold z9H
  have e:z0Q ⟨1,0,[],[]⟩=11:=by unfold z0Q;simp
  rw[if_pos (.inl ⟨rfl,rfl,e⟩)];exact z1z.2 z9d
 |cons x l=>exact z9i (z1d.2 (.inl ⟨rfl,rfl,rfl,by simp,h⟩))
def z9s(n:Nat)(k:Nat)(es:List Elem)(au:ByteArray):List DU:=List.replicate k (.K [])++((es.map (x49 au)).map .A++List.replicate (n-k) (.K []))
theorem y6E{n:Nat}{k:Int}{es:List Elem}{au:ByteArray}(hk:0<=k/\k<=n):exD (y93 n k es au)=z9s n k.toNat es au:=by
 unfold y93 z9s
 simp only[exD,exS]
 rw[if_neg (by decide),if_neg (by decide),if_pos trivial,if_neg (by decide),if_neg (by decide),qQ,show((n:Int)- k).toNat=n-k.toNat by omega]
theorem z6k{n k:Nat}{es:List Elem}{au:ByteArray}(hk:k<=n):z0I (z9s n k es au)=n/\z07 (z9s n k es au)=n+es.length/\z2U (z9s n k es au)=es.length:=by
 unfold z9s
 have a:=z3P (es.map (x49 au))
 have b:=z2i k []
 have c:=z2i (n-k) []
 simp only[z0U,z2f,y6C,x5u,x5v,a.1,a.2,b.1,b.2,c.1,c.2,qk]
 omega
theorem x0t{au:ByteArray}{x:Elem}(ha:VU U true [⟨y6o,au⟩,⟨z9I,mtB⟩])(hx:RU U x):RU U (x49 au x):=RU.chg hx ha
theorem x0u{n k:Nat}{es:List Elem}{au:ByteArray}(ha:VU U true [⟨y6o,au⟩,⟨z9I,mtB⟩])(he:∀x∈es,RU U x):∀u∈z9s n k es au,UU U u:=by
 intro u hu
 unfold z9s at hu
 rcases qj.1 hu with hu|hu
 ·rw[zM hu];exact VU.nil
 ·rcases qj.1 hu with hu|hu
  ·obtain⟨y,hy,rfl⟩:=qI.1 hu
   obtain⟨x,hx,rfl⟩:=qI.1 hy
   exact x0t ha (he x hx)
  ·rw[zM hu];exact VU.nil
theorem x0v(hU:U.length<=100){n:Nat}{k:Int}{es:List Elem}{au:ByteArray}(hk:0<=k/\k<=n)(hn:n<=100000000)(hl:es.length<=100000000)(ha:VU U true [⟨y6o,au⟩,⟨z9I,mtB⟩])(he:∀x∈es,RU U x):
 y0o n k es au=z5K (z9s n k.toNat es au)/\DU_ U (y0o n k es au) (z9s n k.toNat es au):=by
 have hf:=z6k (n:=n) (k:=k.toNat) (es:=es) (au:=au) (by omega)
 have hall:=x0u (n:=n) (k:=k.toNat) ha he
 have e:y0o n k es au=z5K (z9s n k.toNat es au):=by
  unfold y0o
  rw[x5w (d:=y93 n k es au) (fun s hs=> ?_) (by rw[y6E hk];exact fun u hu=>(UU.s hU (hall u hu)).ok) (by rw[y6E hk];omega) (by rw[y6E hk];omega),y6E hk]
  unfold y93 at hs
  simp only[qg,qX,or_false] at hs
  rcases hs with rfl|rfl|rfl
  ·exact⟨.inl ⟨rfl,hk.1⟩,y3r (by omega) z9d⟩
  ·refine⟨.inr rfl,x0s (fun x hx=> ?_)⟩
   obtain⟨y,hy,rfl⟩:=qI.1 hx
   exact(x0t ha (he y hy)).1
  ·exact⟨.inl ⟨rfl,(by show(0:Int)<=(n:Int)- k;omega)⟩,y3r (by omega) z9d⟩
 exact⟨e,by rw[e];exact .done hU hall (by omega) (by omega)⟩
theorem z6l(f:List Elem)(pl:List Int)(au:ByteArray)(n:Nat):z0I (z6e f pl au n)=n/\z07 (z6e f pl au n)<=n/\z2U (z6e f pl au n)=0:=by
 unfold z6e
 induction n with
 |zero=>exact⟨rfl,qn _,rfl⟩
 |succ n ih=>
  rw[zQ,zj,z0U,z2f,y6C,qZ,zW]
  obtain⟨a,b,c⟩:=ih
  rw[a,c]
  have:z0I [y6r f pl au n]=1/\z07 [y6r f pl au n]<=1/\z2U [y6r f pl au n]=0:=by unfold y6r;repeat' split<;>simp[z0I,z07,z2U]
  omega
theorem x0w{f:List Elem}{pl:List Int}{au:ByteArray}(ha:seq au mtB=false->VU U true [⟨z9I,au⟩])(n:Nat):∀u∈z6e f pl au n,UU U u:=by
 intro u hu
 unfold z6e at hu
 obtain⟨i,_,rfl⟩:=qI.1 hu
 unfold y6r
 split
 ·split
  ·trivial
  ·rename_i h
   exact ha (by simp only[qH,not_or,zJ] at h;exact h.1)
 ·exact VU.nil
theorem x0x(hU:U.length<=100){f:List Elem}{pl:List Int}{au:ByteArray}(hn:f.length<=100000000)(ha:seq au mtB=false->VU U true [⟨z9I,au⟩]):
 z7w f pl au=z5K (z6e f pl au f.length)/\DU_ U (z7w f pl au) (z6e f pl au f.length):=by
 have hf:=z6l f pl au f.length
 have hall:=x0w (f:=f) (pl:=pl) ha f.length
 have hlen:(z6e f pl au f.length).length=f.length:=by simp[z6e]
 have e:z7w f pl au=z5K (z6e f pl au f.length):=(y0n (fun u hu=>(UU.s hU (hall u hu)).ok) (by omega)).1
 exact⟨e,by rw[e];exact .done hU hall (by omega) (by omega)⟩
theorem DU_.lens{l:List DStep}{us:List DU}(h:DU_ U l us):z1Q l=z0I us/\z2c l=z07 us:=by
 have a:=z5U h.v
 have b:=y51 h.sw
 omega
theorem y3s(hU:U.length<=100){a b:List DStep}{us vs:List DU}(ha:DU_ U a us)(hb:DU_ U b vs)(hm:z0I us=z0I vs)(hs:z07 us+z07 vs<=2147483647):
 DU_ U (z00 a b) (z0f (exD a) (exD b)).1/\z1Q (z00 a b)=z2c b/\z2c (z00 a b)<=z2c b+z2U us:=by
 obtain⟨a1,a2⟩:=ha.lens
 obtain⟨b1,b2⟩:=hb.lens
 have P:=z7v ha.v hb.v (ha.dn hU) (hb.dn hU) (by omega) (by omega)
 have hn:=y7Z (exD a) (exD b)
 have hd:DU_ U (z00 a b) (z0f (exD a) (exD b)).1:=⟨P.2.2.2.1,P.2.2.2.2.2.1,y0s _ _ ha.ex hb.ex⟩
 have l1:=hd.lens
 have l2:=z5U hb.v
 have l3:=z6j ha.sw
 exact⟨hd,P.2.2.2.2.2.2.2.1,by omega⟩
theorem y6F(hU:U.length<=100){a b:List DStep}{us vs:List DU}(ha:DU_ U a us)(hb:DU_ U b vs)(hm:z2c a=z1Q b):
 DU_ U (z5e a b) (z0r (exD a) (exD b))/\z1Q (z5e a b)=z1Q a/\z2c (z5e a b)=z2c b:=by
 have P:=y0m ha.v hb.v (ha.dn hU) (hb.dn hU) hm
 exact⟨⟨P.2.2.2.2.1,P.2.2.2.2.2.1,y7Y _ _ ha.ex hb.ex⟩,P.2.2.2.2.2.2.1,P.2.2.2.2.2.2.2⟩
end Go.Ch
end
section
namespace Go.Ch
open Go Go.Ab
def zzB:ByteArray:={data:=#[122,122]}
structure UB(U:US):Prop where
 len:U.length<=100
 z:∀v∈U.no,v=zzB
 ad:y6o∈U
 ct:z9I∈U
structure NG(U:US)(n:Node):Prop where
 at1:VU U false n.attrs
 fl:∀x∈n.flow,RU U x
 mg:n.grid.merges=[]
 ce:∀c∈n.grid.cells,c.attrs=[]/\c.text.size=0
 dr:∀o∈n.draw,o.plc.size<=100/\o.nm.size<=100/\o.vl.size<=100
 kd:n.kind≠6
structure NZ(m:Nat)(n:Node):Prop where
 fl:n.flow.length<=m
 ce:n.grid.cells.length<=m
 dr:n.draw.length<=m
variable {U:US}
theorem x3S{e:Bool}{l:List Attr}(h:VG e l):Szd l:=fun a ha=>by
 obtain⟨h1,h2⟩:=h.2 a ha
 have n1:z12 a.name=true:=h1
 unfold z12 at n1
 rw[qm,decide_eq_true_eq] at n1
 refine⟨by omega,?_⟩
 rcases h2 with h2|h2
 ·have n2:z17 a.val=true:=h2
  unfold z17 at n2
  rw[qm,decide_eq_true_eq] at n2
  omega
 ·rw[h2.2];decide
theorem NG.b(hU:UB U){n:Node}{m:Nat}(h:NG U n)(hz:NZ m n)(hm:m<=1048576):NodeB n:=
 ⟨x3S h.at1.g,by have:=h.at1.len hU.len;omega,fun x hx=>x3S (h.fl x hx).2.g,qP hz.fl hm,fun x hx=>by have:=(h.fl x hx).2.len hU.len;omega,
  fun c hc=>⟨by rw[(h.ce c hc).2];decide,by rw[(h.ce c hc).1];exact(fun a ha=>by cases ha)⟩,qP hz.ce hm,fun c hc=>by rw[(h.ce c hc).1];decide,by rw[h.mg];decide,qP hz.dr hm,fun o ho=>by have:=h.dr o ho;omega⟩
theorem NG.lite{n:Node}(h:NG U n):n.grid.merges=[]/\y4w n.grid.cells:=⟨h.mg,fun c hc=>(h.ce c hc).2⟩
theorem y0t{m:Nat}:∀{l:List Node},(∀n∈l,NZ m n)->y7E l<=l.length*(3*m)
 | [],_=>by simp[y7E]
 |n::l,h=>by
  have:=y0t (l:=l) (fun x hx=>h x (by simp[hx]))
  have hn:=h n (by simp)
  have e:y7E (n::l)=x8d n+y7E l:=by simp[y7E]
  rw[e,qi,zk,Nat.one_mul]
  have h1:=hn.fl
  have h2:=hn.ce
  have h3:=hn.dr
  unfold x8d;omega
theorem x0y(hU:UB U){d:Doc}{m q:Nat}(hm:m<=3000)(hq:q<=100)(hl:d.nodes.length<=q)(h:∀n∈d.nodes,NG U n/\NZ m n):DocL d:=by
 refine⟨⟨by omega,fun n hn=>(h n hn).1.b hU (h n hn).2 (by omega),?_⟩,fun n hn=>(h n hn).1.lite⟩
 have h1:=y0t (fun n hn=>(h n hn).2)
 have h2:d.nodes.length*(3*m)<=100*9000:=Nat.mul_le_mul (by omega) (by omega)
 omega
theorem V.filt{NP VP:ByteArray->Prop}{e:Bool}{p:Attr->Bool}:∀{l:List Attr},V NP VP e l->V NP VP e (l.filter p)
 | [],h=>h
 |a::l,h=>by
  have ih:=V.filt (p:=p) (l:=l) ⟨h.1.2,fun b hb=>h.2 b (by simp[hb])⟩
  rw[List.filter_cons]
  split
  ·exact⟨⟨fun b hb=>h.1.1 b ((List.mem_filter.1 hb).1),ih.1⟩,fun b hb=>by
    rcases qg.1 hb with rfl|hb
    ·exact h.2 b (by simp)
    ·exact ih.2 b hb⟩
  ·exact ih
theorem VU.one{l:List Attr}(h:VU U false l){a:Attr}(ha:a∈l):VU U true [a]:=
 ⟨⟨(fun b hb=>by cases hb),trivial⟩,fun b hb=>by
  rw[qA] at hb;subst hb
  exact(VU.sub (e:=true) h).2 b ha⟩
theorem y6G:RU U ⟨10,0,[]⟩:=⟨by decide+kernel,VU.nil⟩
theorem x5x{d:Doc}{s:Sel}{au:ByteArray}(h:atE d s au=0):z1N d=0/\z14 d.nodes s.nd=true/\z1o (ndN d.nodes s.nd).kind=true/\(0<=s.fr/\s.fr<=s.tq/\s.tq< ((x1y (ndN d.nodes s.nd)).length:Int))/\(seq au mtB=true\/z17 au=true)/\atP d s au=⟨ndN d.nodes s.nd,x1y (ndN d.nodes s.nd),au⟩:=by
 have e:atP d s au=⟨ndN d.nodes s.nd,x1y (ndN d.nodes s.nd),au⟩:=by unfold atP;rw[h,if_neg (fun q=>q rfl)]
 unfold atE at h
 split at h
 ·rename_i q;exact absurd h q
 rename_i h1
 split at h
 ·cases h
 rename_i h2
 split at h
 ·cases h
 rename_i h3
 split at h
 ·cases h
 rename_i h4
 split at h
 ·cases h
 rename_i h5
 refine⟨qc h1,by simpa using h2,by simpa using h3,by omega,?_,e⟩
 apply qc;intro q
 rw[not_or,zJ,zJ] at q
 exact h5 q
theorem x2R{f:List Elem}{mode x:Int}{n:Nat}(h:x∈y3i f mode n):0<=x/\x<n:=by
 unfold y3i x7M at h
 obtain⟨i,hi,rfl⟩:=qI.1 h
 have:=List.mem_range.1 ((List.mem_filter.1 hi).1)
 omega
theorem x7e(hU:UB U){n:Node}{au:ByteArray}(hn:NG U n)(hz:n.flow.length<=1048576):PlB ⟨n,x1y n,au⟩:=
 ⟨hz,fun x hx=>x2R hx,qP (y6q ..) hz,fun x hx=>by have:=(hn.fl x hx).2.len hU.len;omega⟩
theorem y1J{p:Pl}(hp:PlB p)(hn:∀x∈p.node.flow,RU U x)(k:Int):RU U (z0h p k):=by
 unfold z0h
 split
 ·exact y6G
 ·rename_i q
  have h1:k.toNat<p.shown.length:=by omega
  have h2:=hp.ok _ (z0j h1)
  exact hn _ (z0j (by omega))
theorem x0z{r:Elem}{k:Int}:∀{l o:List Attr},VU U false o->(∀a∈l,VU U true [a])->VU U false (y97 r k o l)
 | [],o,ho,_=>ho
 |a::l,o,ho,hl=>by
  show VU U false (y97 r k (if x5c r k a=true then fm z2e o [a] else o) l)
  refine x0z ?_ (fun b hb=>hl b (by simp[hb]))
  split
  ·exact y2I y7X ho (hl a (by simp))
  ·exact ho
theorem z9t{p:Pl}(hp:PlB p)(hn:∀x∈p.node.flow,RU U x)(k:Int):VU U false (z6f p k):=by
 unfold z6f
 have h1:=y1J hp hn (k- 1)
 refine x0z ?_ (fun a ha=>h1.2.one ha)
 unfold x3L
 split
 ·refine V.filt ?_
  unfold x7N;split
  ·exact(y1J hp hn k).2
  ·exact h1.2
 ·exact VU.nil
theorem x5y{p:Pl}(hp:PlB p)(hn:∀x∈p.node.flow,RU U x)(k:Nat):VU U false (x1z p k):=V.filt (y1J hp hn _).2
theorem y4P{c:Int}{l:List Attr}(hc:z4v c)(h0:c≠0)(hl:VU U false l):RU U ⟨c,0,l⟩:=by
 refine⟨?_,hl⟩
 rw[z58 (x:=⟨c,0,l⟩) (fun q=>h0 (q.2 rfl)) (.inr hc) (.inl rfl)]
 exact z1z.2 hl.g
theorem y1K{p:Pl}(hp:PlB p)(hn:∀x∈p.node.flow,RU U x){s:Sel}{cs:List Int}(hc:∀c∈cs,z4v c/\c≠0):∀x∈z7x p s cs,RU U x:=by
 intro x hx
 unfold z7x at hx
 obtain⟨y,hy,rfl⟩:=qI.1 hx
 obtain⟨c,hc',rfl⟩:=qI.1 hy
 obtain⟨q1,q2⟩:=hc c hc'
 unfold x5d mkE
 split
 ·exact y4P q1 q2 (x5y hp hn _)
 ·exact y4P q1 q2 (z9t hp hn _)
def AuB(U:US)(au:ByteArray):Prop:=(seq au mtB=true\/z17 au=true)/\au∉U.no
theorem UB.no(hU:UB U){v:ByteArray}(h:v≠zzB):v∉U.no:=fun q=>h (hU.z v q)
theorem x3T(hU:UB U){au:ByteArray}(ha:AuB U au):VU U true [⟨y6o,au⟩,⟨z9I,mtB⟩]:=by
 refine⟨⟨fun b hb=> ?_,⟨(fun b hb=>by cases hb),trivial⟩⟩,fun b hb=> ?_⟩
 ·rw[qA] at hb;subst hb;exact(by decide+kernel:slt y6o z9I=true)
 ·simp only[qg,qX,or_false] at hb
  rcases hb with rfl|rfl
  ·refine⟨⟨(by decide+kernel:z12 y6o=true),hU.ad⟩,?_⟩
   rcases ha.1 with h|h
   ·exact .inr ⟨rfl,z0M.1 h⟩
   ·exact .inl ⟨h,ha.2⟩
  ·exact⟨⟨(by decide+kernel:z12 z9I=true),hU.ct⟩,.inr ⟨rfl,rfl⟩⟩
theorem x3U(hU:UB U){au:ByteArray}(ha:AuB U au)(h0:seq au mtB=false):VU U true [⟨z9I,au⟩]:=by
 have hv:z17 au=true:=ha.1.resolve_left (by rw[h0];decide)
 refine⟨⟨(fun b hb=>by cases hb),trivial⟩,fun b hb=> ?_⟩
 rw[qA] at hb;subst hb
 exact⟨⟨(by decide+kernel:z12 z9I=true),hU.ct⟩,.inl ⟨hv,ha.2⟩⟩
theorem y6H(hU:UB U){p:Pl}{s:Sel}{es:List Elem}(hp:PlB p)(hf:p.node.flow.length<=1048576)(hn:∀x∈p.node.flow,RU U x)(ha:AuB U p.author)
 (hs:0<=s.fr/\s.fr<=s.tq/\s.tq< (p.shown.length:Int)) (hl:es.length<=1048576) (he:∀x∈es,RU U x):
 StpB p s es/\(∃us,DU_ U (y1u p s es) us)/\z1Q (y1u p s es)=(p.node.flow.length:Int)/\z2c (y1u p s es)<=p.node.flow.length+es.length:=by
 have hg:=y1v hp hs
 obtain⟨_,T⟩:=x0v hU.len (n:=p.node.flow.length) (k:=z7V p.shown s.fr) (es:=es) (au:=p.author) hg (by omega) (by omega) (x3T hU ha) he
 obtain⟨_,E⟩:=x0x hU.len (f:=p.node.flow) (pl:=(p.shown.take s.tq.toNat).drop s.fr.toNat) (au:=p.author) (by omega) (x3U hU ha)
 have tf:=z6k (n:=p.node.flow.length) (k:=(z7V p.shown s.fr).toNat) (es:=es) (au:=p.author) (by omega)
 have ef:=z6l p.node.flow ((p.shown.take s.tq.toNat).drop s.fr.toNat) p.author p.node.flow.length
 have tl:=T.lens
 have el:=E.lens
 obtain⟨P,p1,p2⟩:=y3s hU.len T E (by omega) (by omega)
 obtain⟨J,j1,j2⟩:=y6F hU.len E P p1.symm
 refine⟨⟨hs,hl,fun x hx=>by have:=(he x hx).2.len hU.len;omega,E.v,T.v,P.v,E.dn hU.len,T.dn hU.len,P.dn hU.len,?_,p1.symm,?_⟩,⟨_,J⟩,?_,?_⟩
 ·show z1Q (y0o _ _ _ _)=z1Q (z7w _ _ _);omega
 ·show z2c (y0o _ _ _ _)+z2c (z7w _ _ _)<=2147483647;omega
 ·refine(show z1Q (y1u p s es)=z1Q (z7w p.node.flow ((p.shown.take s.tq.toNat).drop s.fr.toNat) p.author) from j1).trans ?_
  omega
 ·refine Int.le_trans (Int.le_of_eq (show z2c (y1u p s es)=z2c (z00 (y0o p.node.flow.length (z7V p.shown s.fr) es p.author) (z7w p.node.flow ((p.shown.take s.tq.toNat).drop s.fr.toNat) p.author)) from j2)) ?_
  omega
end Go.Ch
end
section
namespace Go.Ch
open Go Go.Ab
structure VD(l:List Node):Prop where
 ne:0<l.length
 one:(l.getD 0 default).id=1
 srt:z1i l
 node:∀n∈l,z0X n=0
 refs:∀n∈l,∀r∈z2x n,∃m∈l,m.id=r/\z06 n.kind m.kind=true
theorem x0A{l:List Node}(hs:z1i l){i j:Nat}(hi:i<l.length)(hj:j<l.length)(h:(l.getD i default).id=(l.getD j default).id):i=j:=by
 rcases Nat.lt_trichotomy i j with q|q|q
 ·have:=hs i j q hj;omega
 ·exact q
 ·have:=hs j i q hi;omega
theorem y3t{l:List Node}(hs:z1i l){k:Int}{rs:List Int}:∀(n i:Nat),rs.length-i=n->(z1c l k rs i=0↔∀j,i<=j->j<rs.length->∃m∈l,m.id=rs.getD j default/\z06 k m.kind=true)
 |0,i,h=>by rw[z1c,if_neg (by omega)];exact⟨fun _ j h1 h2=>by omega,fun _=>rfl⟩
 |n+1,i,h=>by
  have hi:i<rs.length:=by omega
  have hm:rs.length- (i+1)=n:=by omega
  have key:(0<=z2h l (rs.getD i default) 0/\z06 k (l.getD (z2h l (rs.getD i default) 0).toNat default).kind=true)↔∃m∈l,m.id=rs.getD i default/\z06 k m.kind=true:=by
   rcases z6W l (rs.getD i default) _ 0 rfl with⟨a,b⟩| ⟨j,a,b,c,d⟩
   ·rw[a]
    refine⟨fun q=>absurd q.1 (by decide),?_⟩
    rintro⟨m,hm,h1,h2⟩
    obtain⟨x,hx,rfl⟩:=z0T hm
    exact absurd h1 (b x (qS _) hx)
   ·rw[a]
    refine⟨fun q=>⟨l.getD j default,z0j c,d,by simpa using q.2⟩,?_⟩
    rintro⟨m,hm,h1,h2⟩
    obtain⟨x,hx,rfl⟩:=z0T hm
    have:=x0A hs hx c (h1.trans d.symm)
    subst this
    exact⟨by omega,by simpa using h2⟩
  rw[z1c,if_pos hi]
  by_cases h1:z2h l (rs.getD i default) 0<0
  ·rw[if_pos h1]
   exact⟨fun q=>(by cases q),fun q=>absurd ((key.2 (q i (qn _) hi)).1) (by omega)⟩
  ·rw[if_neg h1]
   by_cases h2:z06 k (l.getD (z2h l (rs.getD i default) 0).toNat default).kind=false
   ·rw[if_pos h2]
    refine⟨fun q=>(by cases q),fun q=> ?_⟩
    have:=(key.2 (q i (qn _) hi)).2
    rw[h2] at this;cases this
   ·rw[if_neg h2,y3t hs n (i+1) hm]
    refine⟨fun q j j1 j2=> ?_,fun q j j1 j2=>q j (by omega) j2⟩
    by_cases e:j=i
    ·subst e;exact key.1 ⟨by omega,by simpa using h2⟩
    ·exact q j (by omega) j2
theorem z5C{l:List Node}(hs:z1i l){k:Int}{rs:List Int}:z1c l k rs 0=0↔∀r∈rs,∃m∈l,m.id=r/\z06 k m.kind=true:=by
 rw[y3t hs _ 0 rfl]
 refine⟨fun h r hr=> ?_,fun h j _ hj=>h _ (z0j hj)⟩
 obtain⟨j,hj,rfl⟩:=z0T hr
 exact h j (qS _) hj
theorem z6m{l:List Node}:∀(n i:Nat),l.length-i=n->(z1t l i=0↔∀j,i<=j->j<l.length->z1c l (l.getD j default).kind (z2x (l.getD j default)) 0=0)
 |0,i,h=>by rw[z1t,if_neg (by omega)];exact⟨fun _ j h1 h2=>by omega,fun _=>rfl⟩
 |n+1,i,h=>by
  have hi:i<l.length:=by omega
  rw[z1t,if_pos hi]
  by_cases h1:z1c l (l.getD i default).kind (z2x (l.getD i default)) 0≠0
  ·rw[if_pos h1];exact⟨fun q=>absurd q h1,fun q=>absurd (q i (qn _) hi) h1⟩
  ·rw[if_neg h1,z6m n (i+1) (by omega)]
   refine⟨fun q j j1 j2=> ?_,fun q j j1 j2=>q j (by omega) j2⟩
   by_cases e:j=i
   ·subst e;exact qc h1
   ·exact q j (by omega) j2
theorem y0u{l:List Node}:∀(n i:Nat),l.length-i=n->(∀j,i<=j->j<l.length->z0X (l.getD j default)=0/\¬((j=0/\(l.getD 0 default).id≠1)\/(0<j/\(l.getD j default).id<=(l.getD (j- 1) default).id)))->z1P l i=0
 |0,i,h,_=>by rw[z1P,if_neg (by omega)]
 |n+1,i,h,q=>by
  obtain⟨a,b⟩:=q i (qn _) (by omega)
  rw[z1P,if_pos (by omega),if_neg (fun z=>z a),if_neg b]
  exact y0u n (i+1) (by omega) (fun j j1 j2=>q j (by omega) j2)
theorem y4Q{d:Doc}:z1N d=0↔VD d.nodes:=by
 constructor
 ·intro h
  have hn:=z9a h
  have hs:=y4z hn
  have h0:0<d.nodes.length:=by
   apply qc;intro q
   rw[y0f (by omega)] at h;cases h
  refine⟨h0,((z4e _ 0 rfl hn).2 0 (qn _) h0).1 rfl,hs,y6a h,fun n hn' r hr=> ?_⟩
  have ha:z1t d.nodes 0=0:=by
   unfold z1N at h
   rw[if_neg (by omega),if_neg (fun q=>q hn)] at h;exact h
  obtain⟨j,hj,rfl⟩:=z0T hn'
  exact(z5C hs).1 ((z6m _ 0 rfl).1 ha j (qS _) hj) r hr
 ·intro h
  have hn:z1P d.nodes 0=0:=y0u _ 0 rfl (fun j _ hj=>⟨h.node _ (z0j hj),by
   rintro(⟨rfl,q⟩| ⟨q1,q2⟩)
   ·exact q h.one
   ·have:=h.srt (j- 1) j (by omega) hj;omega⟩)
  have ha:z1t d.nodes 0=0:=(z6m _ 0 rfl).2 (fun j _ hj=>(z5C h.srt).2 (h.refs _ (z0j hj)))
  unfold z1N
  rw[if_neg (by have:=h.ne;omega),if_neg (fun q=>q hn),ha]
theorem y1L{α:Type}[Inhabited α]{l:List α}{i j:Nat}{x:α}(hi:i<l.length):(l.set i x).getD j default=if i=j then x else l.getD j default:=by
 rw[qe,zq]
 split
 ·rename_i h;subst h;simp[hi]
 ·rw[qe]
theorem y0v{α:Type}[Inhabited α]{l:List α}{i:Nat}{x y:α}(hi:i<l.length)(h:y∈l):y∈l.set i x\/y=l.getD i default:=by
 obtain⟨j,hj,rfl⟩:=z0T h
 by_cases e:i=j
 ·subst e;exact .inr rfl
 ·have:(l.set i x).getD j default=l.getD j default:=by rw[y1L hi,if_neg e]
  rw[<-this];exact .inl (z0j (by simpa using hj))
theorem VD.set{l:List Node}(h:VD l){i:Nat}(hi:i<l.length){n:Node}(hid:n.id=(l.getD i default).id)(hk:n.kind=(l.getD i default).kind)(hn:z0X n=0)(hr:∀r∈z2x n,∃m∈l,m.id=r/\z06 n.kind m.kind=true):VD (l.set i n):=by
 have hids:∀j,((l.set i n).getD j default).id=(l.getD j default).id:=fun j=>by
  rw[y1L hi];split
  ·rename_i e;subst e;exact hid
  ·rfl
 have key:∀(k r:Int),(∃m∈l,m.id=r/\z06 k m.kind=true)->∃m∈l.set i n,m.id=r/\z06 k m.kind=true:=by
  rintro k r ⟨m,hm,h1,h2⟩
  rcases y0v (x:=n) hi hm with q|rfl
  ·exact⟨m,q,h1,h2⟩
  ·exact⟨n,zd.2 ⟨i,by simpa using hi,by simp⟩,hid.trans h1,by rw[hk];exact h2⟩
 refine⟨by simpa using h.ne,(hids 0).trans h.one,fun p q hpq hq=>by rw[hids,hids];exact h.srt p q hpq (by simpa using hq),fun m hm=> ?_,fun m hm r hr'=> ?_⟩
 ·rcases zh hm with q|rfl
  ·exact h.node m q
  ·exact hn
 ·rcases zh hm with q|rfl
  ·exact key _ _ (h.refs m q r hr')
  ·exact key _ _ (hr r hr')
theorem VD.add{l:List Node}(h:VD l){n:Node}(hl:∀m∈l,m.id<n.id)(hn:z0X n=0)(hr:∀r∈z2x n,∃m∈l,m.id=r/\z06 n.kind m.kind=true):VD (l++[n]):=by
 have h0:=h.ne
 have hg:∀j,j<l.length->(l++[n]).getD j default=l.getD j default:=fun j hj=>by
  rw[qe,qw hj,qe]
 have hz:(l++[n]).getD l.length default=n:=by rw[qe];simp
 refine⟨by simp,(congrArg Node.id (hg 0 h0)).trans h.one,fun p q hpq hq=> ?_,fun m hm=> ?_,fun m hm r hr'=> ?_⟩
 ·rw[qf,List.length_singleton] at hq
  by_cases e:q=l.length
  ·subst e;rw[hz,hg p hpq];exact hl _ (z0j hpq)
  ·rw[hg p (by omega),hg q (by omega)];exact h.srt p q hpq (by omega)
 ·rcases qj.1 hm with q|q
  ·exact h.node m q
  ·rw[qA] at q;subst q;exact hn
 ·have:∃m'∈l,m'.id=r/\z06 m.kind m'.kind=true:=by
   rcases qj.1 hm with q|q
   ·exact h.refs m q r hr'
   ·rw[qA] at q;subst q;exact hr r hr'
  obtain⟨x,hx,a,b⟩:=this
  exact⟨x,List.mem_append_left _ hx,a,b⟩
theorem VD.has{l:List Node}(h:VD l){k:Int}:z14 l k=true↔∃n∈l,n.id=k:=by
 rw[z1m]
 constructor
 ·rintro⟨a,b⟩;exact⟨_,z0j a,b⟩
 ·rintro⟨n,hn,rfl⟩
  obtain⟨j,hj,rfl⟩:=z0T hn
  obtain⟨s1,s2,s3⟩:=z2w l (l.getD j default).id
  have h1:z0x l (l.getD j default).id<=j:=y4y (by omega)
  by_cases e:z0x l (l.getD j default).id=j
  ·rw[e];exact⟨hj,rfl⟩
  ·have:=h.srt _ j (show z0x l (l.getD j default).id<j by omega) hj
   exact absurd this (s3 (by omega))
theorem z3b{n:Node}(h:z0X n=0):(1<=n.id/\n.id<=1073741824)/\(0<=n.kind/\n.kind<=12/\(n.id=1↔n.kind=0))/\VG false n.attrs/\
 ((0<n.flow.length->z1o n.kind=true\/z3V n.kind=true)/\(z3x n.grid=false->z3W n.kind=true)/\(0<n.draw.length->y0c n.kind=true))/\
 ((z1o n.kind=true\/z3V n.kind=true)->z6T (z1o n.kind) n.flow=0)/\(z3W n.kind=true->z18 n.grid=0/\z2V n.kind n.grid.cells 0=0)/\(y0c n.kind=true->z2E n.draw 0=0):=by
 unfold z0X at h
 split at h
 ·cases h
 rename_i h1
 split at h
 ·cases h
 rename_i h2
 split at h
 ·rename_i q;exact absurd h q
 rename_i h3
 split at h
 ·cases h
 rename_i h4
 have h3:=z1z.1 (qc h3)
 refine⟨by omega,by omega,h3,⟨fun q=> ?_,fun q=> ?_,fun q=> ?_⟩,?_⟩
 ·apply qc;intro z
  rw[not_or,zJ,zJ] at z
  exact h4 (.inl ⟨q,z.1,z.2⟩)
 ·apply qc;intro z
  exact h4 (.inr (.inl ⟨q,by simpa using z⟩))
 ·apply qc;intro z
  exact h4 (.inr (.inr ⟨q,by simpa using z⟩))
 ·have x2c:∀k:Int,(z1o k=true\/z3V k=true->z3W k=false/\y0c k=false)/\(z3W k=true->y0c k=false):=fun k=>by
   unfold z1o z3V z3W y0c
   simp only[qH,beq_iff_eq,zu,beq_eq_false_iff_ne]
   omega
  obtain⟨k1,k2⟩:=x2c n.kind
  split at h
  ·rename_i q
   obtain⟨z1,z2⟩:=k1 q
   exact⟨fun _=>h,(fun z=>by rw[z1] at z;cases z),(fun z=>by rw[z2] at z;cases z)⟩
  ·rename_i q
   split at h
   ·rename_i g
    have z2:=k2 g
    refine⟨fun z=>absurd z q,fun _=> ?_,(fun z=>by rw[z2] at z;cases z)⟩
    split at h
    ·rename_i z;exact absurd h z
    ·rename_i z;exact⟨qc z,h⟩
   ·rename_i g
    exact⟨fun z=>absurd z q,fun z=>absurd z g,fun _=>h⟩
theorem y1M{n:Node}(h1:1<=n.id/\n.id<=1073741824)(h2:0<=n.kind/\n.kind<=12/\(n.id=1↔n.kind=0))(h3:VG false n.attrs)
 (h4:(0<n.flow.length->z1o n.kind=true\/z3V n.kind=true)/\(z3x n.grid=false->z3W n.kind=true)/\(0<n.draw.length->y0c n.kind=true))
 (h5:(z1o n.kind=true\/z3V n.kind=true)->z6T (z1o n.kind) n.flow=0) (h6:z3W n.kind=true->z18 n.grid=0/\z2V n.kind n.grid.cells 0=0) (h7:z2E n.draw 0=0\/z1o n.kind=true\/z3V n.kind=true\/z3W n.kind=true):z0X n=0:=by
 unfold z0X
 rw[if_neg (by omega),if_neg (by omega),if_neg (fun q=>q (z1z.2 h3)),if_neg]
 ·split
  ·rename_i q;exact h5 q
  ·rename_i q
   split
   ·rename_i g
    obtain⟨z1,z2⟩:=h6 g
    rw[if_neg (fun z=>z z1),z2]
   ·rename_i g
    rcases h7 with h7|h7|h7|h7
    ·exact h7
    ·exact absurd (.inl h7) q
    ·exact absurd (.inr h7) q
    ·exact absurd h7 g
 ·rintro(⟨a,b,c⟩| ⟨a,b⟩| ⟨a,b⟩)
  ·rcases h4.1 a with q|q
   ·rw[b] at q;cases q
   ·rw[c] at q;cases q
  ·have:=h4.2.1 a;rw[b] at this;cases this
  ·have:=h4.2.2 a;rw[b] at this;cases this
def Asc:List Cell->Prop
 | []=>True
 |c::l=>(∀x∈l,z5b c x<0)/\Asc l
theorem z7z{a b c:Cell}(h1:z5b a b<0)(h2:z5b b c<0):z5b a c<0:=by
 rw[y1g] at*;omega
theorem y1N{a b c:Cell}(h1:z5b a b<=0)(h2:z5b b c<0):z5b a c<0:=by
 have:¬0<z5b a b:=by omega
 rw[y1g] at*
 rw[z8k] at h1
 repeat' split at h1
 all_goals omega
theorem x0B{a b:Cell}:0<z5b a b↔z5b b a<0:=by
 rw[y1g,z8k];repeat' split
 all_goals omega
def x9e(l:List Cell):Prop:=∀p q,p<q->q<l.length->z5b (l.getD p default) (l.getD q default)< 0
theorem y6I:∀{l:List Cell},Asc l->x9e l
 | [],_,p,q,h1,h2=>by simp at h2
 |c::l,⟨h,k⟩,p,q,h1,h2=>by
  cases q with
  |zero=>omega
  |succ q=>
   cases p with
   |zero=>exact h _ (z0j (by simpa using h2))
   |succ p=>exact y6I k p q (by omega) (by simpa using h2)
theorem y0w{l:List Cell}{m n:Int}{o:Bool}:∀(k i:Nat),l.length-i=k->
 (z0V l m n o i=0↔∀j,i<=j->j<l.length->z78 (l.getD j default) m n o=0/\(0<j->z5b (l.getD (j- 1) default) (l.getD j default)< 0))
 |0,i,h=>by
  rw[z0V,if_neg (by omega)]
  exact⟨fun _ j h1 h2=>by omega,fun _=>rfl⟩
 |k+1,i,h=>by
  have ih:=y0w (l:=l) (m:=m) (n:=n) (o:=o) k (i+1) (by omega)
  rw[z0V,if_pos (by omega)]
  by_cases c1:z78 (l.getD i default) m n o=0
  ·rw[if_neg (fun q=>q c1)]
   by_cases c2:0<i/\0<=z5b (l.getD (i- 1) default) (l.getD i default)
   ·rw[if_pos c2]
    refine⟨fun q=>(by cases q),fun q=> ?_⟩
    have:=(q i (qn _) (by omega)).2 c2.1
    omega
   ·rw[if_neg c2,ih]
    refine⟨fun q j h1 h2=> ?_,fun q j h1 h2=>q j (by omega) h2⟩
    by_cases e:i=j
    ·subst e;exact⟨c1,fun h0=>by omega⟩
    ·exact q j (by omega) h2
  ·rw[if_pos c1]
   exact⟨fun q=>absurd q c1,fun q=>(q i (qn _) (by omega)).1⟩
theorem x0C:∀{l:List Cell},(∀j,0<j->j<l.length->z5b (l.getD (j- 1) default) (l.getD j default)< 0)->Asc l
 | [],_=>trivial
 | [c],_=>⟨fun x hx=>(by cases hx),trivial⟩
 |c::d::l,h=>by
  have h1:z5b c d<0:=h 1 (by decide) (by simp)
  have ih:=x0C (l:=d::l) (fun j h0 hj=>by
   have:=h (j+1) (by omega) (by simp only[qi] at hj|-;omega)
   obtain⟨j,rfl⟩:∃q,j=q+1:=⟨j- 1,by omega⟩
   exact this)
  refine⟨fun x hx=> ?_,ih⟩
  rcases qg.1 hx with rfl|hx
  ·exact h1
  ·exact z7z h1 (ih.1 x hx)
theorem z7A{l:List Cell}{m n:Int}{o:Bool}:z0V l m n o 0=0↔(∀c∈l,z78 c m n o=0)/\Asc l:=by
 rw[y0w _ 0 rfl]
 constructor
 ·intro h
  refine⟨fun c hc=> ?_,x0C (fun j h0 hj=>(h j (qS _) hj).2 h0)⟩
  obtain⟨j,hj,rfl⟩:=z0T hc
  exact(h j (qS _) hj).1
 ·rintro⟨h1,h2⟩ j _ hj
  exact⟨h1 _ (z0j hj),fun h0=>y6I h2 (j- 1) j (by omega) hj⟩
theorem z68{c:Cell}{m n:Int}{o:Bool}:z78 c m n o=0↔(0<=c.row/\c.row<m/\0<=c.col/\c.col<n)/\(0<=c.ref/\c.ref<=1073741824)/\y1f c.text=true/\z1B false c.attrs 0=0/\(o=false->z1K c=false):=by
 unfold z78
 by_cases c1:c.row<0\/m<=c.row\/c.col<0\/n<=c.col
 ·rw[if_pos c1];exact⟨fun q=>(by cases q),fun q=>by omega⟩
 ·rw[if_neg c1]
  by_cases c2:c.ref<0\/1073741824<c.ref
  ·rw[if_pos c2];exact⟨fun q=>(by cases q),fun q=>by omega⟩
  ·rw[if_neg c2]
   by_cases c3:y1f c.text=false
   ·rw[if_pos c3];exact⟨fun q=>(by cases q),fun q=>by rw[q.2.2.1] at c3;cases c3⟩
   ·rw[if_neg c3]
    by_cases c4:z1B false c.attrs 0=0
    ·rw[if_neg (fun q=>q c4)]
     by_cases c5:z1K c=true/\o=false
     ·rw[if_pos c5];exact⟨fun q=>(by cases q),fun q=>by have:=q.2.2.2.2 c5.2;rw[c5.1] at this;cases this⟩
     ·rw[if_neg c5]
      refine⟨fun _=>⟨by omega,by omega,by simpa using c3,c4,fun ho=> ?_⟩,fun _=>rfl⟩
      cases he:z1K c with
      |false=>rfl
      |true=>exact absurd ⟨he,ho⟩ c5
    ·rw[if_pos c4];exact⟨fun q=>absurd q c4,fun q=>q.2.2.2.1⟩
theorem z6n:∀(ns l:List Cell) (y:Cell),y∈z6P ns l->(y∈ns/\z1K y=false)\/y∈l
 | [],l,y,h=> .inr h
 |c::ns,[],y,h=>by
  rw[z6P,y15] at h
  rcases qj.1 h with h|h
  ·cases he:z1K c with
   |true=>rw[he,if_pos rfl] at h;cases h
   |false=>rw[he,if_neg (by decide)] at h;rw[qA.1 h];exact .inl ⟨by simp,he⟩
  ·rcases z6n ns [] y h with⟨h1,h2⟩|h
   ·exact .inl ⟨by simp[h1],h2⟩
   ·exact .inr h
 |c::ns,x::l,y,h=>by
  have ih:=z6n (c::ns) l y
  rw[z6P] at ih
  rw[z6P,y15] at h
  split at h
  ·rcases qg.1 h with rfl|h
   ·exact .inr (by simp)
   ·rcases ih h with h|h
    ·exact .inl h
    ·exact .inr (by simp[h])
  ·have hcase:∀(r:List Cell),(∀z∈r,z∈x::l)->y∈(if z1K c=true then[] else[c])++z6P ns r->(∀z,z∈z6P ns r->(z∈ns/\z1K z=false)\/z∈r)->(y∈c::ns/\z1K y=false)\/y∈x::l:=fun r hr h hi=>by
    rcases qj.1 h with h|h
    ·cases he:z1K c with
     |true=>rw[he,if_pos rfl] at h;cases h
     |false=>rw[he,if_neg (by decide)] at h;rw[qA.1 h];exact .inl ⟨by simp,he⟩
    ·rcases hi y h with⟨h1,h2⟩|h
     ·exact .inl ⟨by simp[h1],h2⟩
     ·exact .inr (hr y h)
   split at h
   ·exact hcase l (fun z hz=>by simp[hz]) h (fun z=>z6n ns l z)
   ·exact hcase (x::l) (fun z hz=>hz) h (fun z=>z6n ns (x::l) z)
termination_by ns l=>ns.length+l.length
theorem y1O{c:Cell}{ns r:List Cell}(hns:∀y∈ns,z5b c y<0)(hr:∀y∈r,z5b c y<0)(h:Asc (z6P ns r)):Asc ((if z1K c=true then[] else[c])++z6P ns r):=by
 cases he:z1K c with
 |true=>rw[if_pos rfl];exact h
 |false=>
  rw[if_neg (by decide)]
  refine⟨fun y hy=> ?_,h⟩
  rcases z6n ns r y hy with⟨h1,_⟩|h1
  ·exact hns y h1
  ·exact hr y h1
theorem z9u:∀(ns l:List Cell),Asc ns->Asc l->Asc (z6P ns l)
 | [],l,_,h=>h
 |c::ns,[],h1,h2=>by
  rw[z6P,y15]
  exact y1O h1.1 (fun y hy=>by cases hy) (z9u ns [] h1.2 trivial)
 |c::ns,x::l,h1,h2=>by
  rw[z6P,y15]
  by_cases o1:z5b x c<0
  ·rw[if_pos o1]
   have ih:=z9u (c::ns) l h1 h2.2
   rw[z6P] at ih
   refine⟨fun y hy=> ?_,ih⟩
   rcases z6n (c::ns) l y hy with⟨h,_⟩|h
   ·rcases qg.1 h with rfl|h
    ·exact o1
    ·exact z7z o1 (h1.1 y h)
   ·exact h2.1 y h
  ·rw[if_neg o1]
   by_cases o2:z5b x c=0
   ·rw[if_pos o2]
    have e:=y9t.1 o2
    exact y1O h1.1 (fun y hy=>y1N (by rw[y9t.2 ⟨e.1.symm,e.2.symm⟩];decide) (h2.1 y hy)) (z9u ns l h1.2 h2.2)
   ·rw[if_neg o2]
    have hcx:z5b c x<0:=x0B.1 (by omega)
    exact y1O h1.1 (fun y hy=>by
     rcases qg.1 hy with rfl|hy
     ·exact hcx
     ·exact z7z hcx (h2.1 y hy)) (z9u ns (x::l) h1.2 h2)
termination_by ns l=>ns.length+l.length
theorem y70{l:List AxStep}(hl:y2N l){p q:Int}(h0:0<=p)(h:p<q)(hp:0<=z0C l p 0 0)(hq:0<=z0C l q 0 0):z0C l p 0 0<z0C l q 0 0:=by
 have h1:=z6O hl p q 0 0 h0 h hp
 have h2:=y5J hl q 0 0 0 (zz _)
 have h3:=z6N hl q 0 0 (by omega) hq
 omega
theorem y6J{a:List AxStep}{p q:Int}(hp:PIn a p)(hq:PIn a q)(h:p<q)(h1:¬(0<a.length/\mvR a p<0))(h2:¬(0<a.length/\mvR a q<0)):mvR a p<mvR a q:=by
 unfold mvR at*
 by_cases c:0<a.length
 ·simp only[if_pos c] at*
  obtain⟨v,p0,_⟩:=hp c
  exact y70 v.1 p0 h (by omega) (by omega)
 ·simp only[if_neg c] at*;exact h
theorem z8w{rows cols:List AxStep}{c d:Cell}(h:mvC rows cols c=some d):¬(0<rows.length/\mvR rows c.row<0)/\¬(0<cols.length/\mvR cols c.col<0)/\d={c with row:=mvR rows c.row,col:=mvR cols c.col}:=by
 unfold mvC at h
 split at h
 ·cases h
 ·rename_i h1
  split at h
  ·cases h
  ·rename_i h2
   exact⟨h1,h2,by cases h;rfl⟩
theorem x0D{rows cols:List AxStep}:∀{l:List Cell},Asc l->(∀c∈l,PIn rows c.row)->(∀c∈l,PIn cols c.col)->Asc (y3O l rows cols)
 | [],_,_,_=>trivial
 |c::l,h,hr,hc=>by
  have ih:=x0D (l:=l) h.2 (fun x hx=>hr x (by simp[hx])) (fun x hx=>hc x (by simp[hx]))
  unfold y3O at*
  rw[List.filterMap_cons]
  cases hm:mvC rows cols c with
  |none=>exact ih
  |some d=>
   refine⟨fun y hy=> ?_,ih⟩
   obtain⟨x,hx,hxy⟩:=List.mem_filterMap.1 hy
   obtain⟨a1,a2,rfl⟩:=z8w hm
   obtain⟨b1,b2,rfl⟩:=z8w hxy
   have ho:=h.1 x hx
   rw[y1g] at ho|-
   rcases ho with ho| ⟨e,ho⟩
   ·exact .inl (y6J (hr c (by simp)) (hr x (by simp[hx])) ho a1 b1)
   ·refine .inr ⟨by show mvR rows c.row=mvR rows x.row;rw[e],y6J (hc c (by simp)) (hc x (by simp[hx])) ho a2 b2⟩
theorem z8x:∀{l:List AxStep} (hl:y2N l) (p fr tq:Int),fr<=p->0<=z0C l p fr tq->z0C l p fr tq<tq+z6L (ex l)
 | [],_,p,fr,tq,h,h0=>by simp[z0C] at h0
 |s::l,hl,p,fr,tq,h,h0=>by
  have hn:=hl.head.2.2
  have hk:=x2c hl.head
  have e:(z6L (ex (s::l)):Int)=(if s.kind=2 then 0 else s.n)+z6L (ex l):=by
   rw[ex,y4u,zY (by omega)]
  rw[e]
  rw[z0C] at h0|-
  by_cases k1:s.kind=1
  ·rw[if_pos k1] at h0|-
   rw[if_neg (show¬s.kind=2 by omega)]
   have:=z8x hl.tail p fr (tq+s.n) h h0
   omega
  ·rw[if_neg k1] at h0|-
   by_cases k0:s.kind=0
   ·rw[if_pos k0] at h0|-
    rw[if_neg (show¬s.kind=2 by omega)]
    by_cases c:p<fr+s.n
    ·rw[if_pos c] at h0|-
     have:(0:Int)<=z6L (ex l):=by omega
     omega
    ·rw[if_neg c] at h0|-
     have:=z8x hl.tail p (fr+s.n) (tq+s.n) (by omega) h0
     omega
   ·rw[if_neg k0] at h0|-
    by_cases c:p<fr+s.n
    ·rw[if_pos c] at h0;omega
    ·rw[if_neg c] at h0|-
     rw[if_pos (show s.kind=2 by omega)]
     have:=z8x hl.tail p (fr+s.n) tq (by omega) h0
     omega
theorem x3V{a:List AxStep}{p m:Int}(hp:PIn a p)(h0:0<=p/\p<m)(hn:¬(0<a.length/\mvR a p<0)):0<=mvR a p/\mvR a p<nwS m a:=by
 unfold mvR at hn|-
 unfold nwS z2M
 by_cases c:0<a.length
 ·rw[if_pos c] at hn|-
  rw[if_pos c]
  obtain⟨v,p0,_⟩:=hp c
  have h1:0<=z0C a p 0 0:=by
   refine qc fun q=>hn ⟨c,by omega⟩
  have:=z8x v.1 p 0 0 p0 h1
  omega
 ·rw[if_neg c,if_neg c];exact h0
theorem x2S{rows cols:List AxStep}{c d:Cell}{m n:Int}(hr:PIn rows c.row)(hc:PIn cols c.col)(h:z78 c m n false=0)(hd:mvC rows cols c=some d):z78 d (nwS m rows) (nwS n cols) false=0:=by
 obtain⟨a1,a2,rfl⟩:=z8w hd
 obtain⟨h1,h2,h3,h4,h5⟩:=z68.1 h
 have b1:=x3V (m:=m) hr ⟨h1.1,h1.2.1⟩ a1
 have b2:=x3V (m:=n) hc ⟨h1.2.2.1,h1.2.2.2⟩ a2
 exact z68.2 ⟨⟨b1.1,b1.2,b2.1,b2.2⟩,h2,h3,h4,h5⟩
theorem y0x{g:Grid}(hm:g.merges=[]):z18 g=0↔(0<=g.rows/\g.rows<=2147483647/\0<=g.cols/\g.cols<=2147483647)/\z0V g.cells g.rows g.cols false 0=0:=by
 have h0:y9u g.merges g.rows g.cols 0=0:=by rw[hm,y9u,if_neg (by decide)]
 unfold z18
 by_cases c1:g.rows<0\/2147483647<g.rows\/g.cols<0\/2147483647<g.cols
 ·rw[if_pos c1];exact⟨fun q=>(by cases q),fun q=>by omega⟩
 ·rw[if_neg c1]
  by_cases c2:z0V g.cells g.rows g.cols false 0=0
  ·rw[if_neg (fun q=>q c2),h0];exact⟨fun _=>⟨by omega,c2⟩,fun _=>rfl⟩
  ·rw[if_pos c2];exact⟨fun q=>absurd q c2,fun q=>q.2⟩
theorem y71{x:Grid}{e:GEd}(h:z1Z x e=0):z18 x=0/\EdOk e/\FitOk x e:=by
 unfold z1Z at h
 split at h
 ·rename_i q;exact absurd h q
 rename_i q
 split at h
 ·rename_i q;exact absurd h q
 rename_i q2
 exact⟨qc q,y5N (qc q2),y9x h⟩
theorem y6K{x:Grid}{e:GEd}{c:Cell}(h:c∈(y9y x e).cells):(c∈e.cells/\z1K c=false)\/∃c0∈x.cells,mvC e.rows e.cols c0=some c:=by
 rcases z6n _ _ c h with h|h
 ·exact .inl h
 ·obtain⟨c0,hc0,hm⟩:=List.mem_filterMap.1 h
  exact .inr ⟨c0,hc0,hm⟩
theorem y72{x:Grid}{e:GEd}(hm:x.merges=[])(h:z1Z x e=0)(hr:RawT x e):z18 (y9y x e)=0:=by
 obtain⟨hg,he,hf⟩:=y71 h
 obtain⟨g1,g2⟩:=(y0x hm).1 hg
 have b1:=x3E (n:=x.rows) he.okr (by omega)
 have b2:=x3E (n:=x.cols) he.okc (by omega)
 obtain⟨a1,a2⟩:=z7A.1 g2
 obtain⟨c1,c2⟩:=z7A.1 he.cells
 refine(y0x rfl).2 ⟨⟨b1.1,b1.2,b2.1,b2.2⟩,z7A.2 ⟨fun c hc=> ?_,z9u _ _ c2 (x0D a2 hr.p1 hr.p2)⟩⟩
 rcases y6K hc with⟨h,he'⟩| ⟨c0,hc0,hmv⟩
 ·obtain⟨q1,q2,q3,q4,_⟩:=z68.1 (c1 c h)
  have:=hf.cells c h
  exact z68.2 ⟨⟨q1.1,this.1,q1.2.2.1,this.2⟩,q2,q3,q4,fun _=>he'⟩
 ·exact x2S (hr.p1 c0 hc0) (hr.p2 c0 hc0) (a1 c0 hc0) hmv
theorem y3u{k:Int}{l:List Cell}(hk:k≠6)(h:∀c∈l,c.attrs=[]/\c.text.size=0):∀(n i:Nat),l.length-i=n->z2V k l i=0
 |0,i,hn=>by rw[z2V,if_neg (by omega)]
 |n+1,i,hn=>by
  have hc:=h _ (z0j (l:=l) (i:=i) (by omega))
  rw[z2V,if_pos (by omega),if_neg]
  ·exact y3u hk h n (i+1) (by omega)
  ·rintro(⟨_,q|q⟩| ⟨q,_⟩)
   ·rw[z4J,decide_eq_false_iff_not] at q;omega
   ·rw[hc.1] at q;exact absurd q (by decide)
   ·exact hk q
end Go.Ch
end
section
namespace Go.Ch
open Go Go.Ab
variable {U:US}
theorem y3v{t:Bool}{f:List Elem}:∀(n i:Nat),f.length-i=n->(z4c t f i=0↔∀j,i<=j->j<f.length->z05 (f.getD j default)=0/\(t=false->(f.getD j default).ref≠0))
 |0,i,h=>by rw[z4c,if_neg (by omega)];exact⟨fun _ j h1 h2=>by omega,fun _=>rfl⟩
 |n+1,i,h=>by
  have hi:i<f.length:=by omega
  have hm:f.length- (i+1)=n:=by omega
  by_cases h1:z05 (f.getD i default)≠0
  ·rw[y2X hi h1];exact⟨fun q=>absurd q h1,fun q=>absurd (q i (qn _) hi).1 h1⟩
  ·have h1':z05 (f.getD i default)=0:=qc h1
   by_cases h2:t=false/\(f.getD i default).ref=0
   ·rw[y0d hi h1' h2];exact⟨fun q=>(by cases q),fun q=>absurd h2.2 ((q i (qn _) hi).2 h2.1)⟩
   ·have h2':t=true\/(f.getD i default).ref≠0:=by
     cases t with
     |true=>exact .inl rfl
     |false=>exact .inr (fun q=>h2 ⟨rfl,q⟩)
    rw[y0e hi h1' h2',y3v n (i+1) hm]
    refine⟨fun q j j1 j2=> ?_,fun q j j1 j2=>q j (by omega) j2⟩
    by_cases e:j=i
    ·subst e;exact⟨h1',fun z z2=>h2 ⟨z,z2⟩⟩
    ·exact q j (by omega) j2
theorem y3w{t:Bool}{f:List Elem}:z6T t f=0↔(∀x∈f,z05 x=0/\(t=false->x.ref≠0))/\(t=true->0<f.length/\(f.getD (f.length- 1) default).char=10):=by
 have hx:z4c t f 0=0↔∀x∈f,z05 x=0/\(t=false->x.ref≠0):=by
  rw[y3v _ 0 rfl]
  refine⟨fun h x hx=> ?_,fun h j _ hj=>h _ (z0j hj)⟩
  obtain⟨j,hj,rfl⟩:=z0T hx
  exact h j (qS _) hj
 by_cases h1:z4c t f 0=0
 ·rw[z87 h1]
  constructor
  ·intro h
   refine⟨hx.1 h1,fun ht=> ?_⟩
   split at h
   ·cases h
   ·rename_i q
    constructor
    ·apply qc;intro z;exact q ⟨ht,.inl (by omega)⟩
    ·apply qc;intro z;exact q ⟨ht,.inr z⟩
  ·rintro⟨_,h⟩
   rw[if_neg]
   rintro⟨a,b⟩
   have:=h a
   rcases b with b|b
   ·omega
   ·exact b this.2
 ·rw[z86 rfl h1]
  exact⟨fun h=>absurd h h1,fun h=>absurd (hx.2 h.1) h1⟩
theorem z3c:∀(us:List DU) (f:List Elem) (x:Elem),x∈z0s us f->DU.A x∈us\/∃y∈f,x.char=y.char/\x.ref=y.ref
 | [],f,x,h=>by cases h
 | .A e::us,f,x,h=>by
  rw[z0s] at h
  rcases qg.1 h with rfl|h
  ·exact .inl (by simp)
  ·exact(z3c us f x h).imp (fun q=>by simp[q]) id
 | .K c::us,y::f,x,h=>by
  rw[z0s] at h
  rcases qg.1 h with rfl|h
  ·exact .inr ⟨y,by simp,rfl,rfl⟩
  ·exact(z3c us f x h).imp (fun q=>by simp[q]) (fun⟨z,hz,q⟩=>⟨z,by simp[hz],q⟩)
 | .C::us,y::f,x,h=>by
  rw[z0s] at h
  exact(z3c us f x h).imp (fun q=>by simp[q]) (fun⟨z,hz,q⟩=>⟨z,by simp[hz],q⟩)
 | .K c::us,[],x,h=>by rw[z0s] at h;exact(z3c us [] x h).imp (fun q=>by simp[q]) id
 | .C::us,[],x,h=>by rw[z0s] at h;exact(z3c us [] x h).imp (fun q=>by simp[q]) id
theorem x2T{e:Elem}:∀{s:List DStep},DU.A e∈exD s->∃t∈s,e∈t.elems
 | [],h=>by cases h
 |t::s,h=>by
  rw[exD] at h
  rcases qj.1 h with h|h
  ·refine⟨t,by simp,?_⟩
   unfold exS at h
   split at h
   ·simpa using h
   ·split at h
    ·have:=zM h;cases this
    ·have:=zM h;cases this
  ·obtain⟨a,b,c⟩:=x2T h
   exact⟨a,by simp[b],c⟩
theorem z24:∀(u v:List DU) (l r:List Elem),z0I u=l.length->z0s (u++v) (l++r)=z0s u l++z0s v r
 | [],v,l,r,h=>by
  have:l=[]:=qJ (by simpa[z0I] using h.symm)
  subst this;rfl
 | .A e::u,v,l,r,h=>by rw[qy,z0s,z0s,z24 u v l r (by simpa[z0I] using h)];rfl
 | .K c::u,v,[],r,h=>by simp[z0I] at h
 | .C::u,v,[],r,h=>by simp[z0I] at h
 | .K c::u,v,x::l,r,h=>by rw[qy,qy,z0s,z0s,z24 u v l r (by simpa[z0I] using h)];rfl
 | .C::u,v,x::l,r,h=>by rw[qy,qy,z0s,z0s,z24 u v l r (by simpa[z0I] using h)]
theorem z8y{α:Type}[Inhabited α]{a b:List α}(h:0<b.length):(a++b).getD ((a++b).length- 1) default=b.getD (b.length- 1) default:=by
 rw[qf,qe,qG (by omega),qe,show a.length+b.length- 1-a.length=b.length- 1 by omega]
theorem x2U{f:List Elem}{s:List DStep}(hv:z1g s)(hl:z1Q s=(f.length:Int))(he:z6Y s=true):0< (z4Q f s).length/\((z4Q f s).getD ((z4Q f s).length- 1) default).char=(f.getD (f.length- 1) default).char:=by
 unfold z6Y at he
 rw[qm,decide_eq_true_eq,beq_iff_eq] at he
 obtain⟨h0,hk⟩:=he
 have hne:s≠[]:=fun e=>by rw[e] at h0;exact absurd h0 (by decide)
 obtain⟨t,ht⟩:∃t,s=s.dropLast++[t]:=⟨s.getLast hne,(List.dropLast_concat_getLast hne).symm⟩
 generalize s.dropLast=i at ht
 subst ht
 have hg:(i++[t]).getD ((i++[t]).length- 1) default=t:=by rw[z8y (by simp)];rfl
 rw[hg] at hk
 have ho:=hv.1.all t (by simp)
 have hn:1<=t.n/\t.elems=[]:=by
  rcases ho with⟨k,_⟩| ⟨_,e,_,n,_⟩
  ·omega
  ·exact⟨n,e⟩
 have hL:=z5U hv
 have ex:exD (i++[t])=exD i++List.replicate t.n.toNat (.K t.attrs):=by
  rw[z5d];congr 1
  simp only[exD,qQ]
  unfold exS
  rw[if_neg (by omega),if_neg (by omega)]
 have ho2:z0I (exD i)+t.n.toNat=f.length:=by
  have:=hL.1
  rw[ex,z0U,(z2i _ _).1] at this
  omega
 have hs:z0s (exD (i++[t])) f=z0s (exD i) (f.take (z0I (exD i)))++(f.drop (z0I (exD i))).map (z7d t.attrs):=by
  conv=>lhs;rw[<-List.take_append_drop (z0I (exD i)) f]
  rw[ex,z24 _ _ _ _ (by rw[qB];omega)]
  congr 1
  have:=y27 t.n.toNat t.attrs [] (f.drop (z0I (exD i)))
  rw[qQ] at this
  rw[this,qp (by rw[qR];omega)]
  simp[z0s]
 have hdl:(f.drop (z0I (exD i))).length=t.n.toNat:=by rw[qR];omega
 unfold z4Q
 rw[hs]
 refine⟨by rw[qf,qk,hdl];omega,?_⟩
 rw[z8y (by rw[qk,hdl];omega),qk,hdl]
 have e1:((f.drop (z0I (exD i))).map (z7d t.attrs)).getD (t.n.toNat- 1) default=z7d t.attrs (f.getD (f.length- 1) default):=by
  rw[qe,qY,qL,show z0I (exD i)+(t.n.toNat- 1)=f.length- 1 by omega,qb (show f.length- 1<f.length by omega),qe,qb (show f.length- 1<f.length by omega)]
  rfl
 rw[e1];rfl
theorem z9v{l:List Node}{n:Node}{s:List DStep}(h:z1v l n s=0):(z1o n.kind=true\/z3V n.kind=true)/\z1Q s=(n.flow.length:Int)/\(z1o n.kind=true->z6Y s=true)/\∀t∈s,∀x∈t.elems,y3P l n.kind x=0:=by
 unfold z1v at h
 split at h
 ·cases h
 rename_i h1
 split at h
 ·cases h
 rename_i h2
 split at h
 ·cases h
 rename_i h3
 refine⟨?_,qc h2,fun ht=> ?_,fun t ht x hx=>z6b (z6b h t ht) x hx⟩
 ·apply qc;intro q
  rw[not_or,zJ,zJ] at q
  exact h1 q
 ·apply qc;intro q
  exact h3 ⟨ht,by simpa using q⟩
theorem z7B{l:List Node}(hs:z1i l){k:Int}{x:Elem}(h:y3P l k x=0):(z1o k=false->x.ref≠0)/\(x.ref≠0->∃m∈l,m.id=x.ref/\z06 k m.kind=true):=by
 unfold y3P at h
 split at h
 ·cases h
 rename_i h1
 refine⟨fun q z=>h1 ⟨z,q⟩,fun q=>(z5C hs).1 h x.ref ?_⟩
 unfold z2N;simp[q]
theorem y0y{l:List DOp}{i:Nat}(h:i<l.length):l.getD i default=l[i]:=by simp[List.getD,qb h]
theorem y6L{l:List DOp}:∀(d i:Nat),l.length-i=d->(z2E l i=0↔(∀j,i<=j->j<l.length->opE (l.getD j default)=0)/\∀j,i<=j->0<j->j<l.length->ltO (l.getD (j- 1) default) (l.getD j default))
 |0,i,h=>by rw[z2E,if_neg (by omega)];exact⟨fun _=>⟨fun j _ _=>by omega,fun j _ _ _=>by omega⟩,fun _=>rfl⟩
 |d+1,i,h=>by
  have hm:l.length- (i+1)=d:=by omega
  rw[z2E,if_pos (by omega)]
  by_cases h1:opE (l.getD i default)=0
  ·rw[if_neg (fun hh=>hh h1)]
   by_cases h2:0<i/\¬ltO (l.getD (i- 1) default) (l.getD i default)
   ·rw[if_pos h2]
    exact⟨fun h=>(by cases h),fun h=>absurd (h.2 i (qn _) h2.1 (by omega)) h2.2⟩
   ·rw[if_neg h2,y6L d (i+1) hm]
    refine⟨fun⟨a,b⟩=>⟨fun j hj hl=> ?_,fun j hj h0 hl=> ?_⟩,fun⟨a,b⟩=>⟨fun j hj hl=>a j (by omega) hl,fun j hj h0 hl=>b j (by omega) h0 hl⟩⟩
    ·by_cases e:j=i
     ·rw[e];exact h1
     ·exact a j (by omega) hl
    ·by_cases e:j=i
     ·subst e;exact qc (fun hh=>h2 ⟨h0,hh⟩)
     ·exact b j (by omega) h0 hl
  ·rw[if_pos h1]
   exact⟨fun h=>absurd h h1,fun h=>h.1 i (qn _) (by omega)⟩
theorem z6o{l:List DOp}:z2E l 0=0↔(∀o∈l,opE o=0)/\l.Pairwise ltO:=by
 rw[y6L _ 0 rfl]
 constructor
 ·rintro⟨a,b⟩
  refine⟨fun o ho=> ?_,zB.2 fun i j hi hj hij=> ?_⟩
  ·obtain⟨j,hj,rfl⟩:=z0T ho;exact a j (qS _) hj
  ·obtain⟨d,rfl⟩:∃d,j=i+1+d:=⟨j-i- 1,by omega⟩
   clear hij
   induction d with
   |zero=>have:=b (i+1) (qS _) (by omega) hj;rwa [show i+1- 1=i by omega,y0y hi,y0y hj] at this
   |succ d ih=>
    have h1:=ih (by omega)
    have h2:=b (i+1+(d+1)) (qS _) (by omega) hj
    rw[show i+1+(d+1)- 1=i+1+d by omega,y0y (by omega),y0y hj] at h2
    exact z6I h1 h2
 ·rintro⟨a,b⟩
  refine⟨fun j _ hj=>a _ (z0j hj),fun j _ h0 hj=> ?_⟩
  rw[y0y (by omega),y0y hj]
  exact zB.1 b (j- 1) j _ _ (by omega)
theorem z5D(x y:List DOp):∀z,z0p x y=some z->x.Pairwise ltO->y.Pairwise ltO->(∀o∈z,o∈x\/o∈y)/\z.Pairwise ltO/\z.length<=x.length+y.length:=by
 induction x,y using z0p.induct with
 |case1=>intro z h hx hy;rw[z0p] at h;cases h;exact⟨(fun o ho=>by cases ho),List.Pairwise.nil,qn _⟩
 |case2 a l ih=>
  intro z h hx hy
  rw[z0p,qd] at h
  obtain⟨w,hw,rfl⟩:=h
  obtain⟨h1,h2,h3⟩:=ih w hw (qV.1 hx).2 hy
  refine⟨fun o ho=> ?_,qV.2 ⟨fun b hb=>(qV.1 hx).1 b ((h1 b hb).resolve_right (fun q=>by cases q)),h2⟩,by simp at h3|-;omega⟩
  rcases qg.1 ho with rfl|ho
  ·exact .inl (by simp)
  ·exact(h1 o ho).imp (fun q=>by simp[q]) id
 |case3 b r ih=>
  intro z h hx hy
  rw[z0p,qd] at h
  obtain⟨w,hw,rfl⟩:=h
  obtain⟨h1,h2,h3⟩:=ih w hw hx (qV.1 hy).2
  refine⟨fun o ho=> ?_,qV.2 ⟨fun c hc=>(qV.1 hy).1 c ((h1 c hc).resolve_left (fun q=>by cases q)),h2⟩,by simp at h3|-;omega⟩
  rcases qg.1 ho with rfl|ho
  ·exact .inr (by simp)
  ·exact(h1 o ho).imp id (fun q=>by simp[q])
 |case4 a l b r hab ih=>
  intro z h hx hy
  rw[z0p,if_pos hab,qd] at h
  obtain⟨w,hw,rfl⟩:=h
  obtain⟨h1,h2,h3⟩:=ih w hw (qV.1 hx).2 hy
  refine⟨fun o ho=> ?_,qV.2 ⟨fun c hc=> ?_,h2⟩,by simp at h3|-;omega⟩
  ·rcases qg.1 ho with rfl|ho
   ·exact .inl (by simp)
   ·exact(h1 o ho).imp (fun q=>by simp[q]) id
  ·rcases h1 c hc with q|q
   ·exact(qV.1 hx).1 c q
   ·rcases qg.1 q with rfl|q
    ·exact hab
    ·exact z6I hab ((qV.1 hy).1 c q)
 |case5 a l b r hab hba ih=>
  intro z h hx hy
  rw[z0p,if_neg hab,if_pos hba,qd] at h
  obtain⟨w,hw,rfl⟩:=h
  obtain⟨h1,h2,h3⟩:=ih w hw hx (qV.1 hy).2
  refine⟨fun o ho=> ?_,qV.2 ⟨fun c hc=> ?_,h2⟩,by simp at h3|-;omega⟩
  ·rcases qg.1 ho with rfl|ho
   ·exact .inr (by simp)
   ·exact(h1 o ho).imp id (fun q=>by simp[q])
  ·rcases h1 c hc with q|q
   ·rcases qg.1 q with rfl|q
    ·exact hba
    ·exact z6I hba ((qV.1 hx).1 c q)
   ·exact(qV.1 hy).1 c q
 |case6 l b r hab hba ih=>
  intro z h hx hy
  rw[z0p,if_neg hab,if_neg hba,if_pos rfl,qd] at h
  obtain⟨w,hw,rfl⟩:=h
  obtain⟨h1,h2,h3⟩:=ih w hw (qV.1 hx).2 (qV.1 hy).2
  refine⟨fun o ho=> ?_,qV.2 ⟨fun c hc=> ?_,h2⟩,by simp at h3|-;omega⟩
  ·rcases qg.1 ho with rfl|ho
   ·exact .inl (by simp)
   ·exact(h1 o ho).imp (fun q=>by simp[q]) (fun q=>by simp[q])
  ·rcases h1 c hc with q|q
   ·exact(qV.1 hx).1 c q
   ·exact(qV.1 hy).1 c q
 |case7 a l b r hab hba hne=>intro z h;rw[z0p,if_neg hab,if_neg hba,if_neg hne] at h;cases h
end Go.Ch
end
section
namespace Go.Ch
open Go Go.Ab
variable {U:US}
structure GP(U:US)(m:Nat)(l:List Node):Prop where
 vd:VD l
 nd:∀n∈l,NG U n/\NZ m n
theorem NZ.mono{m k:Nat}{n:Node}(h:NZ m n)(hm:m<=k):NZ k n:=⟨qP h.fl hm,qP h.ce hm,qP h.dr hm⟩
theorem GP.mono{m k:Nat}{l:List Node}(h:GP U m l)(hm:m<=k):GP U k l:=⟨h.vd,fun n hn=>⟨(h.nd n hn).1,(h.nd n hn).2.mono hm⟩⟩
theorem GP.set{l:List Node}{m k:Nat}(h:GP U m l)(hm:m<=k){i:Nat}(hi:i<l.length){n:Node}(hid:n.id=(l.getD i default).id)(hk:n.kind=(l.getD i default).kind)(hn:z0X n=0)(hr:∀r∈z2x n,∃m∈l,m.id=r/\z06 n.kind m.kind=true)(hg:NG U n)(hz:NZ k n):GP U k (l.set i n):=by
 refine⟨h.vd.set hi hid hk hn hr,fun x hx=> ?_⟩
 rcases zh hx with q|rfl
 ·exact⟨(h.nd x q).1,(h.nd x q).2.mono hm⟩
 ·exact⟨hg,hz⟩
theorem z4E{l:List Node}{o:EOp}(hk:o.kind≠0)(h0:z1p l o=0):z14 l o.node=true/\z0x l o.node<l.length/\z0W l o=l.set (z0x l o.node) (z4L (l.getD (z0x l o.node) default) o):=by
 have hh:z14 l o.node=true:=by
  apply qc;intro q
  have:=(x6M hk (by simpa using q)).2
  omega
 exact⟨hh,(z1m.1 hh).1,x4W hk h0⟩
theorem y1P{l:List Node}{o:EOp}(hk:o.kind≠0)(h0:z1p l o=0):(z0W l o).length=l.length/\∀x∈z0W l o,∃n∈l,x.id=n.id:=by
 obtain⟨h1,h2,h3⟩:=z4E hk h0
 rw[h3]
 refine⟨zn ..,fun x hx=> ?_⟩
 rcases zh hx with q|rfl
 ·exact⟨x,q,rfl⟩
 ·refine⟨_,z0j h2,?_⟩
  unfold z4L;repeat' split
  all_goals rfl
theorem z6p{n:Node}(h:z0X n=0):z2E n.draw 0=0:=by
 obtain⟨p1,p2,p3,p4,p5,p6,p7⟩:=z3b h
 by_cases q:y0c n.kind=true
 ·exact p7 q
 ·have:¬0<n.draw.length:=fun z=>q (p4.2.2 z)
  rw[z2E,if_neg this]
theorem x7f{l:List Node}{m:Nat}(h:GP U m l){k:Int}{c:List Attr}(hc:VU U true c)(h0:z1p l (opA k c)=0):GP U m (z0W l (opA k c)):=by
 obtain⟨h1,h2,h3⟩:=z4E (o:=opA k c) (show(1:Int)≠0 by decide) h0
 have h3:z0W l (opA k c)=l.set (z0x l k) {(l.getD (z0x l k) default) with attrs:=fm z2e (l.getD (z0x l k) default).attrs c}:=h3
 rw[h3]
 have h2:z0x l k<l.length:=h2
 have hm:=z0j h2
 obtain⟨g,z⟩:=h.nd _ hm
 have hv:=y2I y7X g.at1 hc
 have hn:=h.vd.node _ hm
 have hdr:=z6p hn
 obtain⟨p1,p2,p3,p4,p5,p6,p7⟩:=z3b hn
 exact h.set (qn _) h2 rfl rfl (y1M p1 p2 (VU.g hv) p4 p5 p6 (.inl hdr)) (fun r hr=>h.vd.refs _ hm r hr) ⟨hv,g.fl,g.mg,g.ce,g.dr,g.kd⟩ ⟨z.fl,z.ce,z.dr⟩
theorem z9w{f:List Elem}{r:Int}:r∈z2N f↔∃x∈f,x.ref=r/\r≠0:=by
 unfold z2N
 rw[List.mem_filterMap]
 constructor
 ·rintro⟨x,hx,h⟩
  split at h
  ·rename_i q;cases h;exact⟨x,hx,rfl,q⟩
  ·cases h
 ·rintro⟨x,hx,rfl,h⟩
  exact⟨x,hx,by rw[if_pos h]⟩
theorem y3x{f:List Cell}{r:Int}:r∈y2Z f↔∃x∈f,x.ref=r/\r≠0:=by
 unfold y2Z
 rw[List.mem_filterMap]
 constructor
 ·rintro⟨x,hx,h⟩
  split at h
  ·rename_i q;cases h;exact⟨x,hx,rfl,q⟩
  ·cases h
 ·rintro⟨x,hx,rfl,h⟩
  exact⟨x,hx,by rw[if_pos h]⟩
theorem x2V{l:List Node}{m q:Nat}(h:GP U m l){k:Int}{s:List DStep}{us:List DU}(hd:DU_ U s us)(hq:z2c s<=z1Q s+q)(h0:z1p l (opF k s)=0):GP U (m+q) (z0W l (opF k s)):=by
 obtain⟨h1,h2,h3⟩:=z4E (o:=opF k s) (show(2:Int)≠0 by decide) h0
 have h3:z0W l (opF k s)=l.set (z0x l k) {(l.getD (z0x l k) default) with flow:=z4Q (l.getD (z0x l k) default).flow s}:=h3
 rw[h3]
 have h2:z0x l k<l.length:=h2
 have hm:=z0j h2
 have hf:z1v l (l.getD (z0x l k) default) s=0:=(x2t (o:=opF k s) h1 rfl).2.symm.trans h0
 obtain⟨g,z⟩:=h.nd _ hm
 have hn:=h.vd.node _ hm
 have hdr:=z6p hn
 obtain⟨p1,p2,p3,p4,p5,p6,p7⟩:=z3b hn
 obtain⟨f1,f2,f3,f4⟩:=z9v hf
 have hlen:=z5U hd.v
 have hall:∀x∈z4Q (l.getD (z0x l k) default).flow s,RU U x:=z3a _ _ hd.ex g.fl
 have hl:(z4Q (l.getD (z0x l k) default).flow s).length=z07 (exD s):=z29 _ _ (by omega)
 have hsrc:∀x∈z4Q (l.getD (z0x l k) default).flow s,y3P l (l.getD (z0x l k) default).kind x=0\/∃y∈(l.getD (z0x l k) default).flow,x.char=y.char/\x.ref=y.ref:=fun x hx=>by
  rcases z3c _ _ x hx with q|q
  ·obtain⟨t,ht,hx'⟩:=x2T q
   exact .inl (f4 t ht x hx')
  ·exact .inr q
 have hz:=y3w.1 (p5 f1)
 refine h.set (zN _ _) h2 rfl rfl (y1M p1 p2 p3 ⟨fun _=>f1,p4.2.1,p4.2.2⟩ (fun _=>y3w.2 ⟨fun x hx=>⟨(hall x hx).1,fun ht=> ?_⟩,fun ht=> ?_⟩) p6 (.inl hdr)) (fun r hr=> ?_) ⟨g.at1,hall,g.mg,g.ce,g.dr,g.kd⟩ ⟨?_,qP z.ce (zN _ _),qP z.dr (zN _ _)⟩
 ·rcases hsrc x hx with q| ⟨y,hy,_,e⟩
  ·exact(z7B h.vd.srt q).1 ht
  ·rw[e];exact(hz.1 y hy).2 ht
 ·have a:=hz.2 ht
  have b:=x2U hd.v f2 (f3 ht)
  exact⟨b.1,b.2.trans a.2⟩
 ·rcases qj.1 hr with hr|hr
  ·obtain⟨x,hx,rfl,hx0⟩:=z9w.1 hr
   rcases hsrc x hx with q| ⟨y,hy,_,e⟩
   ·exact(z7B h.vd.srt q).2 hx0
   ·exact h.vd.refs _ hm x.ref (List.mem_append_left _ (z9w.2 ⟨y,hy,e.symm,hx0⟩))
  ·exact h.vd.refs _ hm r (List.mem_append_right _ hr)
 ·have:=z.fl
  show(z4Q (l.getD (z0x l k) default).flow s).length<=m+q
  omega
theorem y4R{l:List Node}{n:Node}{g:GEd}(h:z1F l n g=0):z3W n.kind=true/\z2V n.kind g.cells 0=0/\z1Z n.grid g=0/\∀c∈g.cells,x1x l n.kind c=0:=by
 unfold z1F at h
 split at h
 ·cases h
 rename_i h1
 split at h
 ·rename_i q;exact absurd h q
 rename_i h2
 split at h
 ·rename_i q;exact absurd h q
 rename_i h3
 exact⟨by simpa using h1,qc h2,qc h3,z6b h⟩
theorem x0E(c:Cell){k:List Cell->List Cell}{q:Nat}(hk:∀l,(k l).length<=l.length+q):∀(l:List Cell),(y15 c k l).length<=l.length+(q+1)
 | []=>by
  have:=hk []
  unfold y15;split<;>simp at this|- <;>omega
 |x::l=>by
  have h1:=x0E c hk l
  have h2:=hk l
  have h3:=hk (x::l)
  unfold y15
  repeat' split
  all_goals simp only[qi,qf,zg] at* <;>omega
theorem x3W:∀(a b:List Cell),(z6P a b).length<=b.length+a.length
 | [],b=>by simp[z6P]
 |c::a,b=>x0E c (fun l=>x3W a l) b
theorem x5z(a b:List Cell):(z6P a b).length<=a.length+b.length:=by have:=x3W a b;omega
theorem x7g{l:List Node}{m:Nat}(h:GP U m l){k:Int}{g:GEd}(hl:LiteE g)(hc:∀c∈g.cells,c.attrs=[]/\c.text.size=0)(hm1:m<=100000)(h0:z1p l (opG k g)=0):GP U (m+g.cells.length) (z0W l (opG k g)):=by
 obtain⟨h1,h2,h3⟩:=z4E (o:=opG k g) (show(3:Int)≠0 by decide) h0
 have h3:z0W l (opG k g)=l.set (z0x l k) {(l.getD (z0x l k) default) with grid:=y9y (l.getD (z0x l k) default).grid g}:=h3
 rw[h3]
 have h2:z0x l k<l.length:=h2
 have hm:=z0j h2
 have hf:z1F l (l.getD (z0x l k) default) g=0:=(x6O (o:=opG k g) h1 rfl).2.symm.trans h0
 obtain⟨gd,z⟩:=h.nd _ hm
 have hn:=h.vd.node _ hm
 have hdr:=z6p hn
 obtain⟨p1,p2,p3,p4,p5,p6,p7⟩:=z3b hn
 obtain⟨f1,f2,f3,f4⟩:=y4R hf
 have zc:=z.ce
 have hr:RawT (l.getD (z0x l k) default).grid g:=RawT.of f3 gd.mg hl (by omega) hl.ln (fun c hc'=>by rw[(gd.ce c hc').1];decide) (fun c hc'=>by rw[(hc c hc').1];decide)
 have hcell:∀c∈(y9y (l.getD (z0x l k) default).grid g).cells,(c.attrs=[]/\c.text.size=0)/\(c.ref≠0->∃x∈l,x.id=c.ref/\z06 (l.getD (z0x l k) default).kind x.kind=true):=fun c hc'=>by
  rcases y6K hc' with⟨q,_⟩| ⟨c0,q,hmv⟩
  ·refine⟨hc c q,fun hc0=> ?_⟩
   have:=f4 c q
   rw[y58 hc0] at this
   exact(z5C h.vd.srt).1 this c.ref (by simp)
  ·obtain⟨_,_,rfl⟩:=z8w hmv
   exact⟨gd.ce c0 q,fun hc0=>h.vd.refs _ hm c0.ref (List.mem_append_right _ (y3x.2 ⟨c0,q,rfl,hc0⟩))⟩
 refine h.set (zN _ _) h2 rfl rfl (y1M p1 p2 p3 ⟨p4.1,fun _=>f1,p4.2.2⟩ p5 (fun _=>⟨y72 gd.mg f3 hr,y3u gd.kd (fun c hc'=>(hcell c hc').1) _ 0 rfl⟩) (.inl hdr)) (fun r hr'=> ?_) ⟨gd.at1,gd.fl,rfl,fun c hc'=>(hcell c hc').1,gd.dr,gd.kd⟩ ⟨qP z.fl (zN _ _),?_,qP z.dr (zN _ _)⟩
 ·rcases qj.1 hr' with q|q
  ·exact h.vd.refs _ hm r (List.mem_append_left _ q)
  ·obtain⟨c,hc',rfl,hc0⟩:=y3x.1 q
   exact(hcell c hc').2 hc0
 ·have a:=x5z g.cells (y3O (l.getD (z0x l k) default).grid.cells g.rows g.cols)
  have b:=y1c (l.getD (z0x l k) default).grid.cells g.rows g.cols
  show(z6P g.cells (y3O (l.getD (z0x l k) default).grid.cells g.rows g.cols)).length<=_
  omega
theorem x3X{l:List Node}{m:Nat}(h:GP U m l){k:Int}{c:List DOp}(hs:∀o∈c,o.plc.size<=100/\o.nm.size<=100/\o.vl.size<=100)(hc:z2E c 0=0)(h0:z1p l (opD k c)=0):GP U (m+c.length) (z0W l (opD k c)):=by
 obtain⟨h1,h2,h3⟩:=z4E (o:=opD k c) (show(4:Int)≠0 by decide) h0
 have h3:z0W l (opD k c)=l.set (z0x l k) {(l.getD (z0x l k) default) with draw:=(z0p (l.getD (z0x l k) default).draw c).getD []}:=h3
 rw[h3]
 have h2:z0x l k<l.length:=h2
 have hm:=z0j h2
 have hd:z7T (l.getD (z0x l k) default) c=0:=(y9J (o:=opD k c) h1 rfl).symm.trans h0
 unfold z7T at hd
 split at hd
 ·cases hd
 rename_i hd1
 split at hd
 rotate_left
 ·cases hd
 rename_i hd2
 obtain⟨w,hw⟩:=zf.1 hd2
 obtain⟨g,z⟩:=h.nd _ hm
 have hn:=h.vd.node _ hm
 have hdr:=z6p hn
 obtain⟨p1,p2,p3,p4,p5,p6,p7⟩:=z3b hn
 have a:=z6o.1 (z6p hn)
 have b:=z6o.1 hc
 obtain⟨u1,u2,u3⟩:=z5D _ _ w hw a.2 b.2
 rw[hw]
 have hz:=z.dr
 refine h.set (zN _ _) h2 rfl rfl (y1M p1 p2 p3 ⟨p4.1,p4.2.1,fun _=>by simpa using hd1⟩ p5 p6 (.inl (z6o.2 ⟨fun o ho=> ?_,u2⟩))) (fun r hr=>h.vd.refs _ hm r hr) ⟨g.at1,g.fl,g.mg,g.ce,fun o ho=> ?_,g.kd⟩ ⟨qP z.fl (zN _ _),qP z.ce (zN _ _),(by show w.length<=_;omega)⟩
 ·exact(u1 o ho).elim (a.1 o) (b.1 o)
 ·exact(u1 o ho).elim (g.dr o) (hs o)
theorem x9f{l:List Node}{m:Nat}(h:GP U m l){n:Node}(hg:NG U n)(hz:NZ m n)(hv:z0X n=0)(hl:∀x∈l,x.id<n.id)(h0:z1p l (opN n)=0):z0W l (opN n)=l++[n]/\GP U m (l++[n]):=by
 have ha:y0i l n=0:=(y7I (o:=opN n) rfl).2.symm.trans h0
 have hn:z14 l n.id=false:=by
  cases q:z14 l n.id with
  |false=>rfl
  |true=>rw[(x2s (l:=l) (n:=n) q).2] at ha;cases ha
 have hr:z1c l n.kind (z2x n) 0=0:=(y7H hn).symm.trans ha
 have hlo:z0x l n.id=l.length:=by
  obtain⟨s1,s2,s3⟩:=z2w l n.id
  apply qc;intro q
  exact s3 (by omega) (hl _ (z0j (by omega)))
 refine⟨(y7I (o:=opN n) rfl).1.trans (x8f hn hr hlo).1,h.vd.add hl hv ((z5C h.vd.srt).1 hr),fun x hx=> ?_⟩
 rcases qj.1 hx with q|q
 ·exact h.nd x q
 ·rw[qA] at q;subst q;exact⟨hg,hz⟩
end Go.Ch
end
section
namespace Go.Ch
open Go Go.Ab
variable {U:US}
structure PP(U:US)(s:Int)(k:Nat)(l:List Node):Prop where
 gp:GP U (10+4*k) l
 len:l.length<=3+k
 id:∀n∈l,n.id< (s+1)*65536/\(n.id<4+k\/65536<=n.id)
theorem PP.mono{s:Int}{k k':Nat}{l:List Node}(h:PP U s k l)(hk:k<=k'):PP U s k' l:=
 ⟨h.gp.mono (by omega),by have:=h.len;omega,fun n hn=>by have:=h.id n hn;omega⟩
theorem PP.docL(hU:UB U){s:Int}{k:Nat}{d:Doc}(h:PP U s k d.nodes)(hk:k<=60):DocL d:=x0y hU (m:=10+4*k) (q:=63) (by omega) (by omega) (by have:=h.len;omega) h.gp.nd
theorem PP.doc{s:Int}{k:Nat}{d:Doc}(h:PP U s k d.nodes):z1N d=0:=y4Q.2 h.gp.vd
theorem y4S(hU:UB U){s:Int}{k:Nat}{l:List Node}{o:EOp}(h:PP U s k l)(hk:k<=60)(hok:z2y o=0)(hop:OpL o)(hl:o.kind=0->∀x∈l,x.id<o.nw.id):OneB l o:=
 ⟨by have:=h.len;omega,h.gp.vd.srt,hok,hop,fun n hn=>⟨(h.gp.nd n hn).1.b hU (h.gp.nd n hn).2 (by omega),(h.gp.nd n hn).1.lite,(h.gp.nd n hn).1.kd⟩⟩
theorem z5i:NodeB ⟨0,0,[],[],⟨0,0,[],[]⟩,[]⟩:=
 ⟨(fun a h=>by cases h),by decide,(fun x h=>by cases h),by decide,(fun x h=>by cases h),(fun c h=>by cases h),by decide,(fun c h=>by cases h),by decide,by decide,(fun o h=>by cases h)⟩
theorem y6M:LiteE ⟨[],[],[],[],[]⟩:=⟨rfl,rfl,(fun c h=>by cases h),by decide⟩
theorem y6N{k n:Int}{w:Node}{a:List Attr}{s:List DStep}{c:List DOp}:EopL ⟨k,n,w,a,s,⟨[],[],[],[],[]⟩,c⟩:=⟨qS _,qS _,qS _,qS _,qS _⟩
theorem x2W(hU:UB U){k:Int}{s:List DStep}{us:List DU}(hd:DU_ U s us):OpL (opF k s):=
 ⟨y6N,z5i,⟨rfl,(fun c h=>by cases h)⟩,qS _,(hd.dn hU.len).mono (by omega),y6M,(fun c h=>by cases h),qS _⟩
theorem x7h{k:Int}{c:List Attr}(hc:c.length<=1048576):OpL (opA k c):=
 ⟨y6N,z5i,⟨rfl,(fun c h=>by cases h)⟩,hc,(fun s h=>by cases h),y6M,(fun c h=>by cases h),qS _⟩
theorem x7i{k:Int}{c:List DOp}(hc:c.length<=1048576):OpL (opD k c):=
 ⟨y6N,z5i,⟨rfl,(fun c h=>by cases h)⟩,qS _,(fun s h=>by cases h),y6M,(fun c h=>by cases h),hc⟩
theorem x5A(hU:UB U){n:Node}{m:Nat}(hg:NG U n)(hz:NZ m n)(hm:m<=1048576):OpL (opN n):=
 ⟨y6N,hg.b hU hz hm,hg.lite,qS _,(fun s h=>by cases h),y6M,(fun c h=>by cases h),qS _⟩
theorem x7j{k:Int}{g:GEd}(hl:LiteE g)(h1:g.rows.length<=1048576)(h2:g.cols.length<=1048576)(hc:∀c∈g.cells,c.attrs=[]/\c.text.size=0):OpL (opG k g):=
 ⟨⟨h1,h2,hl.ln,by have:=hl.sp;show g.split.length<=_;omega,by have:=hl.me;show g.merge.length<=_;omega⟩,z5i,⟨rfl,(fun c h=>by cases h)⟩,qS _,(fun s h=>by cases h),hl,(fun c h=>by rw[(hc c h).1];decide),qS _⟩
def y3S(P:List Node->Prop):List Node->List EOp->Prop
 |l,[]=>P l
 |l,o::c=>P l/\OneB l o/\(z1p l o=0->y3S P (z0W l o) c)
theorem y3S.b{P:List Node->Prop}:∀{l:List Node} {c:List EOp},y3S P l c->x6Q l c
 |_,[],_=>trivial
 |_,_::_,h=>⟨h.2.1,fun q=>(h.2.2 q).b⟩
theorem y3S.fin{P:List Node->Prop}:∀{l:List Node} {c:List EOp},y3S P l c->z3X l c=0->P (z3e l c)
 |_,[],h,_=>h
 |l,o::c,h,h0=>by
  rw[z3X] at h0
  split at h0
  ·rename_i q;exact absurd h0 q
  ·rename_i q;exact(h.2.2 (qc q)).fin h0
theorem y3S.imp{P Q:List Node->Prop}(hpq:∀l,P l->Q l):∀{l:List Node} {c:List EOp},y3S P l c->y3S Q l c
 |_,[],h=>hpq _ h
 |_,_::_,h=>⟨hpq _ h.1,h.2.1,fun q=>(h.2.2 q).imp hpq⟩
theorem y3S.app{P:List Node->Prop}:∀{l:List Node} {a b:List EOp},y3S P l a->(z3X l a=0->y3S P (z3e l a) b)->y3S P l (a++b)
 |_,[],_,_,h2=>h2 rfl
 |l,o::a,b,h,h2=>⟨h.1,h.2.1,fun q=>(h.2.2 q).app (fun q2=>h2 (by rw[z3X,if_neg (fun z=>z q)];exact q2))⟩
theorem x98(hU:UB U){s:Int}{k:Nat}{l:List Node}{o:EOp}(h:PP U s k l)(hk:k<=57)(ho:OneB l o)(hn:z1p l o=0->PP U s (k+3) (z0W l o)):y3S (PP U s (k+3)) l [o]:=⟨h.mono (by omega),ho,hn⟩
theorem y1Q(l:List Node)(s:Int):∀m,(z9K l s m=s*65536\/∃n∈l,n.id/65536=s/\n.id=z9K l s m)/\(z1i l->m<=l.length->∀i,i<m->(l.getD i default).id/65536=s->(l.getD i default).id<=z9K l s m)
 |0=>⟨.inl (by simp[z9K]),fun _ _ i hi=>by omega⟩
 |m+1=>by
  obtain⟨a,b⟩:=y1Q l s m
  by_cases hm:m<l.length
  ·rw[z9p hm]
   split
   ·rename_i q
    refine⟨.inr ⟨_,z0j hm,q,rfl⟩,fun hs hl i hi hq=> ?_⟩
    by_cases e:i=m
    ·subst e;exact zz _
    ·have:=hs i m (by omega) hm;omega
   ·rename_i q
    refine⟨a,fun hs hl i hi hq=> ?_⟩
    by_cases e:i=m
    ·subst e;exact absurd hq q
    ·exact b hs (by omega) i (by omega) hq
  ·have e:z9K l s (m+1)=z9K l s m:=by unfold z9K;rw[qp (by omega),qp (by omega)]
   rw[e]
   exact⟨a,fun hs hl=>by omega⟩
theorem z9x{s:Int}{k:Nat}{d:Doc}(hs:0<=s/\s<=1000)(h:PP U s k d.nodes)(h0:z1w d s=0):(∀x∈d.nodes,x.id<z04 d s)/\1<=z04 d s/\z04 d s< (s+1)*65536/\(z04 d s<4+(k+1:Nat)\/65536<=z04 d s):=by
 have hd:=h.doc
 have hb:z9K d.nodes s d.nodes.length%65536≠65535:=by
  intro q
  rw[(x0e hd hs q).2] at h0;cases h0
 have e:z04 d s=z9K d.nodes s d.nodes.length+1:=(x0f hd hs hb).1
 obtain⟨a,b⟩:=y1Q d.nodes s d.nodes.length
 have hids:=y9K hd
 generalize z9K d.nodes s d.nodes.length=z at a b hb e
 rw[e]
 have hz:s*65536<=z/\z< (s+1)*65536- 1/\(z<4+k\/65536<=z):=by
  rcases a with a| ⟨n,hn,q1,q2⟩
  ·have:s=0\/1<=s:=by omega
   omega
  ·have:=h.id n hn;omega
 refine⟨fun x hx=> ?_,by omega,by omega,by omega⟩
 obtain⟨j,hj,rfl⟩:=z0T hx
 have h1:=h.id _ hx
 have h2:=hids _ hx
 by_cases q:(d.nodes.getD j default).id/65536=s
 ·have:=b h.gp.vd.srt (qn _) j hj q;omega
 ·omega
end Go.Ch
end
section
namespace Go.Ch
open Go Go.Ab
variable {U:US}
structure UN(U:US):Prop extends UB U where
 ti:({data:=#[116,105,116,108,101]}:ByteArray)∈U
 bo:({data:=#[98,111,108,100]}:ByteArray)∈U
 si:({data:=#[115,105,122,101]}:ByteArray)∈U
 ma:({data:=#[109,97,114,107,46,109]}:ByteArray)∈U
 he:({data:=#[104,101,97,100]}:ByteArray)∈U
 li:({data:=#[108,105,115,116]}:ByteArray)∈U
 al:({data:=#[97,108,105,103,110]}:ByteArray)∈U
 ki:x5g∈U
def NmZ(U:US)(c:List Attr):Prop:=∀a∈c,a.name∈U/\a.val∉U.no
theorem y73{e:Bool}{l:List Attr}(h:VG e l)(hn:NmZ U l):VU U e l:=⟨h.1,fun a ha=>⟨⟨(h.2 a ha).1,(hn a ha).1⟩,(h.2 a ha).2.imp (fun q=>⟨q,(hn a ha).2⟩) (fun q=>q)⟩⟩
theorem x0F{n:Node}(h:z2y (opN n)=0):z0X n=0:=by
 unfold z2y at h
 split at h
 ·cases h
 split at h
 ·cases h
 ·rwa [if_pos (show(opN n).kind=0 from rfl)] at h
theorem x3Y{k:Int}{c:List Attr}(h:z2y (opA k c)=0):z1B true c 0=0:=by
 unfold z2y at h
 split at h
 ·cases h
 split at h
 ·cases h
 rw[if_neg (show¬(opA k c).kind=0 from(by decide:¬(1:Int)=0))] at h
 split at h
 ·cases h
 ·rwa [if_pos (show(opA k c).kind=1 from rfl)] at h
theorem x3Z{k:Int}{c:List DOp}(h:z2y (opD k c)=0):z2E c 0=0:=by
 unfold z2y at h
 split at h
 ·cases h
 split at h
 ·cases h
 rw[if_neg (show¬(opD k c).kind=0 from(by decide:¬(4:Int)=0))] at h
 split at h
 ·cases h
 ·rwa [if_neg (show¬(opD k c).kind=1 from(by decide:¬(4:Int)=1)),if_neg (show¬(opD k c).kind=2 from(by decide:¬(4:Int)=2)),if_neg (show¬(opD k c).kind=3 from(by decide:¬(4:Int)=3))] at h
theorem z2G(hU:UB U){s:Int}{k:Nat}{d:Doc}(h:PP U s k d.nodes)(hk:k<=60){S:Sel}{au:ByteArray}(hz:au∉U.no)(h0:atE d S au=0):
 PlB (atP d S au)/\(atP d S au).node.flow.length<=1048576/\(∀x∈(atP d S au).node.flow,RU U x)/\AuB U (atP d S au).author/\(0<=S.fr/\S.fr<=S.tq/\S.tq< ((atP d S au).shown.length:Int)):=by
 obtain⟨a1,a2,a3,a4,a5,a6⟩:=x5x h0
 have hm:=z0j (l:=d.nodes) (z1m.1 a2).1
 obtain⟨g,z⟩:=h.gp.nd _ hm
 have hl:(ndN d.nodes S.nd).flow.length<=1048576:=by have:=z.fl;unfold ndN;omega
 rw[a6]
 exact⟨x7e hU g hl,hl,g.fl,⟨a5,hz⟩,a4⟩
theorem y1R{t:ByteArray}(h:y8o t):∀c∈z6g t,z4v c/\c≠0:=by
 intro c hc
 unfold z6g at hc
 obtain⟨i,hi,rfl⟩:=qI.1 hc
 have:=h i (List.mem_range.1 hi)
 unfold z4v;omega
theorem z69(t:ByteArray):(z6g t).length=t.size:=by simp[z6g]
theorem z5j(p:Pl)(s:Sel)(cs:List Int):(z7x p s cs).length=cs.length:=by simp[z7x]
theorem y6O{r:Int}{l:List Attr}(h:1<=r/\r<=1073741824)(hl:VU U false l):RU U ⟨0,r,l⟩:=by
 refine⟨?_,hl⟩
 rw[z58 (x:=⟨0,r,l⟩) (fun q=>by have:=q.1 rfl;simp only at this;omega) (.inl (by simp only;omega)) (.inr h)]
 exact z1z.2 hl.g
theorem x5B(hU:UB U)(hZ:U.no=[]){s:Int}(hs:0<=s/\s<=1000){k:Nat}{d:Doc}(h:PP U s k d.nodes)(hk:k<=60)(b c:Int):CmdB d s b c:=by
 have hL:=h.docL hU hk
 have hno:∀v:ByteArray,v∉U.no:=fun v=>by rw[hZ];simp
 have hM:=y4M hL b
 have hF:=x0o hL b c
 have hT:=z0w (IntKind.i64.wrap (c.tdiv 11)) (lo:=z4U d b c) (hi:=min (y7W d b) (z4U d b c+4)) (by omega)
 refine⟨fun t au ht hn h0=> ?_,fun h0=>(z2G hU h hk (hno _) h0).1,fun h0=>⟨(z2G hU h hk (hno _) h0).1,hF.1,hT.1,?_⟩,fun n h0 h1=> ?_,?_⟩
 ·obtain⟨p1,p2,p3,p4,p5⟩:=z2G hU h hk (hno _) h0
  have hi:=z9t p1 p3 (y1E d b c).fr
  exact⟨p1,z1z.2 hi.g,by have:=hi.len hU.len;omega,p5,(y6H hU p1 p2 p3 p4 p5 (by rw[z5j,z69];omega) (y1K p1 p3 (y1R ht))).1⟩
 ·have:=hT.2
  show z7Y d b c<=1000000000
  unfold z7Y;omega
 ·obtain⟨p1,p2,p3,p4,p5⟩:=z2G hU h hk (hno _) h0
  obtain⟨n1,n2,n3,n4⟩:=z9x hs h h1
  exact⟨p1,⟨p5.1,by have:=p5.2;have:=p1.sl;omega⟩,(y6H hU p1 p2 p3 p4 p5 (by simp[y4J]) (fun x hx=>by
   rw[show x=⟨0,z04 d s,z6f (atP d (y1E d b c) {data:=#[]}) (y1E d b c).fr⟩ by simpa[y4J] using hx]
   exact y6O (by omega) (z9t p1 p3 _))).1⟩
 ·have hz:∀n:Node,z0X n=0\/n.draw=[]-> -1<=z6h n/\z6h n<=1000000000000:=fun n hn=>by
   unfold z6h
   split
   ·rename_i q
    rcases hn with hn|hn
    ·have ho:=(z6o.1 (z6p hn)).1 _ (z0j (l:=n.draw) (i:=n.draw.length- 1) (by omega))
     unfold opE at ho
     split at ho
     ·cases ho
     ·split at ho
      ·cases ho
      ·omega
    ·rw[hn] at q;exact absurd q (by decide)
   ·omega
  refine hz _ ?_
  unfold z1L
  split
  ·exact .inr rfl
  ·by_cases q:(z2h d.nodes (z2d d b [10,8]) 0).toNat<d.nodes.length
   ·exact .inl (h.gp.vd.node _ (z0j q))
   ·rw[qe,zK (by omega)];exact .inr rfl
theorem PP.next{s:Int}{k k':Nat}{l:List Node}{o:EOp}(h:PP U s k l)(hkk:k<=k')(hk:o.kind≠0)(h0:z1p l o=0)(hg:GP U (10+4*k') (z0W l o)):PP U s k' (z0W l o):=by
 obtain⟨a,b⟩:=y1P hk h0
 refine⟨hg,by have:=h.len;omega,fun x hx=> ?_⟩
 obtain⟨n,hn,e⟩:=b x hx
 have:=h.id n hn
 omega
def CR(U:US)(s:Int)(k:Nat)(l:List Node)(c:List EOp):Prop:=(∀o∈c,OpL o)/\((∀o∈c,z2y o=0)->y3S (PP U s (k+3)) l c)
theorem CR.nil{s:Int}{k:Nat}{l:List Node}(h:PP U s k l):CR U s k l []:=⟨(fun o ho=>by cases ho),fun _=>h.mono (by omega)⟩
theorem CR.one(hU:UB U){s:Int}{k:Nat}{l:List Node}{o:EOp}(h:PP U s k l)(hk:k<=57)(ho:OpL o)(h0:o.kind≠0)(hn:z2y o=0->z1p l o=0->GP U (10+4*(k+3)) (z0W l o)):CR U s k l [o]:=by
 refine⟨fun x hx=>by rw[qA] at hx;subst hx;exact ho,fun he=> ?_⟩
 have he:=he o (by simp)
 exact x98 hU h hk (y4S hU h (by omega) he ho (fun q=>absurd q h0)) (fun q=>h.next (by omega) h0 q (hn he q))
theorem CR.two(hU:UB U){s:Int}{k:Nat}{l:List Node}{n:Node}{o:EOp}(h:PP U s k l)(hk:k<=57)(hg:NG U n)(hz:NZ 10 n)(hid:(∀x∈l,x.id<n.id)/\n.id< (s+1)*65536/\(n.id<4+(k+1:Nat)\/65536<=n.id))
 (ho:OpL o) (h0:o.kind≠0) (hn:∀l',PP U s (k+1) l'->z2y o=0->z1p l' o=0->GP U (10+4*(k+3)) (z0W l' o)):CR U s k l [opN n,o]:=by
 refine⟨fun x hx=> ?_,fun he=> ?_⟩
 ·simp only[qg,qX,or_false] at hx
  rcases hx with rfl|rfl
  ·exact x5A hU hg hz (by decide)
  ·exact ho
 ·have e1:=he (opN n) (by simp)
  have e2:=he o (by simp)
  refine⟨h.mono (by omega),y4S hU h (by omega) e1 (x5A hU hg hz (by decide)) (fun _=>hid.1),fun q=> ?_⟩
  obtain⟨k1,k2⟩:=x9f h.gp hg (hz.mono (by omega)) (x0F e1) hid.1 q
  rw[k1]
  have hp:PP U s (k+1) (l++[n]):=⟨k2.mono (by omega),by have:=h.len;rw[qf,List.length_singleton];omega,fun x hx=>by
   rcases qj.1 hx with z|z
   ·have:=h.id x z;omega
   ·rw[qA] at z;subst z;exact hid.2⟩
  exact⟨hp.mono (by omega),y4S hU hp (by omega) e2 ho (fun z=>absurd z h0),fun q2=>hp.next (by omega) h0 q2 (hn _ hp e2 q2)⟩
theorem y4T(hU:UB U){s:Int}{k:Nat}{d:Doc}(h:PP U s k d.nodes)(hk:k<=57){S:Sel}{t au:ByteArray}(hz:au≠zzB)(ht:y8o t)(hl:t.size<=12):CR U s k d.nodes (z3r d S (z6g t) au):=by
 unfold z3r
 split
 ·exact .nil h
 ·rename_i q
  have h0:atE d S au=0:=qc q
  obtain⟨p1,p2,p3,p4,p5⟩:=z2G hU h (by omega) (hU.no hz) h0
  obtain⟨_,⟨us,hd⟩,e1,e2⟩:=y6H hU p1 p2 p3 p4 p5 (es:=z7x (atP d S au) S (z6g t)) (by rw[z5j,z69];omega) (y1K p1 p3 (y1R ht))
  rw[z5j,z69] at e2
  exact .one hU h hk (x2W hU hd) (show(2:Int)≠0 by decide) (fun _ z=>(x2V h.gp hd (q:=12) (by omega) z).mono (by omega))
theorem y4U(hU:UB U){c:List Attr}{f:List Bool}{n:Nat}(hc:VU U true c)(hn:n<=100000000):DU_ U (y4I c f n) ((List.range n).map (y1x c f))/\z2c (y4I c f n)=z1Q (y4I c f n)/\z0I ((List.range n).map (y1x c f))=n:=by
 have hall:∀u∈(List.range n).map (y1x c f),UU U u:=fun u hu=>by
  obtain⟨i,_,rfl⟩:=qI.1 hu
  unfold y1x;split
  ·exact hc
  ·exact VU.nil
 have hnum:∀m,z0I ((List.range m).map (y1x c f))=m/\z07 ((List.range m).map (y1x c f))=m:=fun m=>by
  induction m with
  |zero=>exact⟨rfl,rfl⟩
  |succ m ih=>
   rw[zQ,zj,z0U,z2f,ih.1,ih.2,qZ,zW]
   have:z0I [y1x c f m]=1/\z07 [y1x c f m]=1:=by unfold y1x;split<;>simp[z0I,z07]
   omega
 have hq:=hnum n
 have e:y4I c f n=z5K ((List.range n).map (y1x c f)):=(y0n (fun u hu=>(UU.s hU.len (hall u hu)).ok) (by simp;omega)).1
 have hd:DU_ U (y4I c f n) ((List.range n).map (y1x c f)):=by rw[e];exact .done hU.len hall (by omega) (by omega)
 have hl:=hd.lens
 exact⟨hd,by omega,hq.1⟩
theorem x5C(hU:UB U){c:List Attr}{f:List Bool}{n:Nat}(hc:VU U true c)(hn:n<=100000000):∃us,DU_ U (y4I c f n) us/\z2c (y4I c f n)=z1Q (y4I c f n):=
 ⟨_,(y4U hU hc hn).1,(y4U hU hc hn).2.1⟩
theorem x7k(hU:UB U){s:Int}{k:Nat}{d:Doc}(h:PP U s k d.nodes)(hk:k<=57){S:Sel}{c:List Attr}(hn:NmZ U c)(w:Int->Bool)(h0:z8t d S c=0):CR U s k d.nodes (x1C (atP d S {data:=#[]}) c w):=by
 have h1:atE d S {data:=#[]}=0:=by
  apply qc;intro q
  rw[y6u q] at h0;exact q h0
 have h2:z1B true c 0=0:=by rw[y0p h1] at h0;exact h0
 obtain⟨p1,p2,p3,p4,p5⟩:=z2G hU h (by omega) (hU.no (by decide)) h1
 obtain⟨us,hd,e⟩:=x5C hU (f:=z9J w (atP d S {data:=#[]}).shown (atP d S {data:=#[]}).node.flow.length (atP d S {data:=#[]}).shown.length) (n:=(atP d S {data:=#[]}).node.flow.length) (y73 (z1z.1 h2) hn) (by omega)
 exact .one hU h hk (x2W hU hd) (show(2:Int)≠0 by decide) (fun _ z=>(x2V h.gp hd (q:=0) (by omega) z).mono (by omega))
theorem x0G(hU:UB U){s:Int}(hs:0<=s/\s<=1000){k:Nat}{d:Doc}(h:PP U s k d.nodes)(hk:k<=57){S:Sel}{n:Node}{au:ByteArray}(hau:au≠zzB)(hg:NG U n)(hz:NZ 10 n):CR U s k d.nodes (z4T d S n s au):=by
 unfold z4T
 split
 ·exact .nil h
 ·rename_i q
  have h0:z5g d S n s au=0:=qc q
  have h1:atE d S au=0:=by
   apply qc;intro z
   rw[(x5f z).2.2] at h0;exact z h0
  have h2:z1w d s=0:=by
   unfold z5g at h0
   rw[if_neg (fun z=>z h1)] at h0
   split at h0
   ·cases h0
   ·split at h0
    ·rename_i z;exact absurd h0 z
    ·rename_i z;exact qc z
  obtain⟨p1,p2,p3,p4,p5⟩:=z2G hU h (by omega) (hU.no hau) h1
  obtain⟨n1,n2,n3,n4⟩:=z9x hs h h2
  obtain⟨_,⟨us,hd⟩,e1,e2⟩:=y6H hU p1 p2 p3 p4 p5 (es:=y4J d S s au) (by simp[y4J]) (fun x hx=>by
   rw[show x=⟨0,z04 d s,z6f (atP d S au) S.fr⟩ by simpa[y4J] using hx]
   exact y6O (by omega) (z9t p1 p3 _))
  have e3:(y4J d S s au).length=1:=rfl
  exact .two hU h hk ⟨hg.at1,hg.fl,hg.mg,hg.ce,hg.dr,hg.kd⟩ ⟨hz.fl,hz.ce,hz.dr⟩ ⟨n1,n3,n4⟩ (x2W hU hd) (show(2:Int)≠0 by decide) (fun l' hp _ z=>(x2V hp.gp hd (q:=1) (by omega) z).mono (by omega))
theorem y6P(m a n:Int):(y0q m a n).length<=4:=by
 unfold y0q
 split
 ·simp
 ·split
  ·simp
  ·unfold x69
   have w1:=z4D 0 a
   have w2:=z4D 1 n
   have w3:=z4D 2 (0-n)
   have w4:=z4D 0 ((m-a)- max 0 (0-n))
   simp only[qf,zg];omega
theorem x0H(hU:UB U){s:Int}{k:Nat}{l:List Node}(h:PP U s k l)(hk:k<=57)(i:Int){r c:List AxStep}(hr:r.length<=4)(hc:c.length<=4):CR U s k l [opG i ⟨r,c,[],[],[]⟩]:=by
 have hl:LiteE ⟨r,c,[],[],[]⟩:=⟨rfl,rfl,(fun c h=>by cases h),by simp⟩
 exact .one hU h hk (x7j hl (by simp only;omega) (by simp only;omega) (fun c h=>by cases h)) (show(3:Int)≠0 by decide) (fun _ z=>(x7g h.gp hl (fun c h=>by cases h) (by omega) z).mono (by simp;omega))
theorem x5D(hU:UB U){s:Int}(hs:0<=s/\s<=1000){k:Nat}{d:Doc}(h:PP U s k d.nodes)(hk:k<=57)(i r c:Int):CR U s k d.nodes (z9r d i r c s):=by
 unfold z9r
 split
 ·exact .nil h
 ·rename_i q
  have h0:z7e d i r c s=0:=qc fun z=>q (.inl z)
  have hi:¬0<=x2M d i r c:=fun z=>q (.inr z)
  have h2:z1w d s=0:=by
   unfold z7e at h0
   split at h0
   ·rename_i z;exact absurd h0 z
   split at h0
   ·cases h0
   split at h0
   ·cases h0
   first|exact h0|rwa [if_neg hi] at h0
  obtain⟨n1,n2,n3,n4⟩:=z9x hs h h2
  have hl:LiteE ⟨[],[],[⟨r,c,{data:=#[]},z04 d s,[]⟩],[],[]⟩:=⟨rfl,rfl,fun x hx=>by rw[show x=⟨r,c,{data:=#[]},z04 d s,[]⟩ by simpa using hx];rfl,by simp⟩
  have hc:∀x∈[(⟨r,c,{data:=#[]},z04 d s,[]⟩:Cell)],x.attrs=[]/\x.text.size=0:=fun x hx=>by rw[show x=⟨r,c,{data:=#[]},z04 d s,[]⟩ by simpa using hx];exact⟨rfl,rfl⟩
  exact .two hU h hk ⟨VU.nil,fun x hx=>by rw[show x=⟨10,0,[]⟩ by simpa[x0g] using hx];exact y6G,rfl,(fun x hx=>by cases hx),(fun x hx=>by cases hx),by simp[x0g]⟩ ⟨by simp[x0g],by simp[x0g],by simp[x0g]⟩ ⟨n1,n3,n4⟩ (x7j hl (by simp) (by simp) hc) (show(3:Int)≠0 by decide) (fun l' hp _ z=>(x7g hp.gp hl hc (by omega) z).mono (by simp;omega))
theorem z2k{Q:List EOp->Prop}{p:Prop}[Decidable p]{x y:List EOp}(hx:p->Q x)(hy:¬p->Q y):Q (if p then x else y):=by
 split
 ·rename_i h;exact hx h
 ·rename_i h;exact hy h
theorem y0z(k:Nat):(x1D.getD k default).size<=12:=by
 refine z8v (P:=fun t:ByteArray=>t.size<=12) (fun t ht=> ?_) (by decide) k
 simp only[x1D,qg,qX,or_false] at ht
 rcases ht with rfl|rfl|rfl|rfl|rfl<;>decide
theorem x2X{a b c:ByteArray}(ha:a∈U)(hb:b∈U)(hc:c∈U){i:Int}(hi:0<=i/\i<=2):[a,b,c].getD i.toNat default∈U:=by
 obtain⟨j,hj⟩:∃j,i.toNat=j:=⟨_,rfl⟩
 have:j=0\/j=1\/j=2:=by omega
 rw[hj]
 rcases this with rfl|rfl|rfl
 ·exact ha
 ·exact hb
 ·exact hc
theorem z3I(hU:UB U){a:Attr}(h:a.name∈U)(hv:a.val≠zzB):NmZ U [a]:=fun x hx=>by rw[qA] at hx;subst hx;exact⟨h,hU.no hv⟩
theorem y0A{a b c:ByteArray}(ha:a≠zzB)(hb:b≠zzB)(hc:c≠zzB){i:Int}(hi:0<=i/\i<=2):[a,b,c].getD i.toNat default≠zzB:=by
 obtain⟨j,hj⟩:∃j,i.toNat=j:=⟨_,rfl⟩
 have:j=0\/j=1\/j=2:=by omega
 rw[hj]
 rcases this with rfl|rfl|rfl
 ·exact ha
 ·exact hb
 ·exact hc
theorem x30(r c:Int):NG U (y1y r c):=⟨VU.nil,(fun x h=>by cases h),rfl,(fun x h=>by cases h),(fun x h=>by cases h),(by decide:(2:Int)≠6)⟩
theorem x31(hN:UN U):NG U (y1z x7O):=
 ⟨y73 (z1z.1 x0m) (z3I hN.toUB hN.ki (by decide)),(fun x h=>by cases h),rfl,(fun x h=>by cases h),(fun x h=>by cases h),(by decide:(5:Int)≠6)⟩
theorem x32(hN:UN U)(e:Bool):NG U (z9q e):=by
 refine⟨y73 ?_ (z3I hN.toUB hN.ki (by cases e<;>decide)),fun x hx=> ?_,rfl,(fun x h=>by cases h),(fun x h=>by cases h),(by decide:(4:Int)≠6)⟩
 ·cases e<;>exact z1z.1 (by decide+kernel)
 ·rw[show x=⟨10,0,[]⟩ by simpa[z9q] using hx];exact y6G
theorem y1S{n:Node}(h1:n.flow.length<=10)(h2:n.grid.cells.length<=10)(h3:n.draw.length<=10):NZ 10 n:=⟨h1,h2,h3⟩
theorem y4V(hN:UN U){s:Int}(hs:0<=s/\s<=1000){k:Nat}{d:Doc}(h:PP U s k d.nodes)(hk:k<=57)(a b c:Int):CR U s k d.nodes (z1x d s a b c):=by
 have hU:=hN.toUB
 have hmt:([]:List EOp)=[]:=rfl
 have fmt:∀(S:Sel) (cs:List Attr) (w:Int->Bool),NmZ U cs->CR U s k d.nodes (if z8t d S cs≠0 then[] else x1C (atP d S {data:=#[]}) cs w):=fun S cs w hc=>
  z2k (fun _=> .nil h) (fun q=>x7k hU h hk hc w (qc q))
 unfold z1x
 refine z2k (fun _=>y4T hU h hk (by decide) (z67 _) (y0z _)) (fun _=>z2k (fun _=>y4T hU h hk (by decide) y6y (by decide)) (fun _=>z2k (fun _=>y4T hU h hk (by decide) x5r (by decide)) (fun _=>
  z2k (fun _=>fmt _ _ _ (z3I hU ?_ ?_)) (fun _=>z2k (fun _=>fmt _ _ _ (z3I hU ?_ ?_)) (fun _=>
  z2k (fun _=>x0G hU hs h hk (by decide) (x30 _ _) (y1S (by simp[y1y]) (by simp[y1y]) (by simp[y1y]))) (fun _=>z2k (fun _=>x0G hU hs h hk (by decide) (x32 hN _) (y1S (by simp[z9q]) (by simp[z9q]) (by simp[z9q]))) (fun _=>z2k (fun _=>x0G hU hs h hk (by decide) (x31 hN) (y1S (by simp[y1z]) (by simp[y1z]) (by simp[y1z]))) (fun _=>
  z2k (fun _=>z2k (fun _=> .nil h) (fun _=>x0H hU h hk _ (y6P _ _ _) (by simp))) (fun _=>z2k (fun _=>z2k (fun _=> .nil h) (fun _=>x0H hU h hk _ (by simp) (y6P _ _ _))) (fun _=>
  z2k (fun _=>x5D hU hs h hk _ _ _) (fun _=>z2k (fun _=> ?_) (fun _=> ?_))))))))))))
 ·exact x2X hN.bo hN.si hN.ma (z0w _ (by decide))
 ·exact y0A (by decide) (by decide) (by decide) (z0w _ (by decide))
 ·exact x2X hN.he hN.li hN.al (z0w _ (by decide))
 ·exact y0A (by decide) (by decide) (by decide) (z0w _ (by decide))
 ·refine .one hU h hk (x7i (by simp)) (show(4:Int)≠0 by decide) (fun e z=>(x3X h.gp (fun o ho=> ?_) (x3Z e) z).mono (by simp;omega))
  rw[qA] at ho;subst ho
  exact⟨(by decide:({data:=#[98]}:ByteArray).size<=100),(by decide:mtB.size<=100),(by decide:mtB.size<=100)⟩
 ·exact .one hU h hk (x7h (by simp)) (show(1:Int)≠0 by decide) (fun e z=>(x7f h.gp (y73 (z1z.1 (x3Y e)) (z3I hN.toUB hN.ti (y0A (by decide) (by decide) (by decide) (z0w _ (by decide))))) z).mono (by omega))
end Go.Ch
end
section
namespace Go.Ch
open Go Go.Ab
variable {U:US}
def atN(l:List Node)(k:Int):Option Node:=if z14 l k=true then some (ndN l k) else none
theorem y4W{l:List Node}(hs:z1i l):l.Pairwise (fun a b=>a.id<b.id):=zB.2 fun i j hi hj hij=>by
 have:=hs i j hij hj
 rwa [show l.getD i default=l[i] by simp[List.getD,qb hi],show l.getD j default=l[j] by simp[List.getD,qb hj]] at this
theorem x5E{l:List Node}(h:l.Pairwise (fun a b=>a.id<b.id)):z1i l:=fun i j hij hj=>by
 have:=zB.1 h i j (by omega) hj hij
 rwa [show l.getD i default=l[i] by simp[List.getD,qb (show i<l.length by omega)],show l.getD j default=l[j] by simp[List.getD,qb hj]]
theorem z22{l:List Node}(hs:z1i l){k:Int}{n:Node}:atN l k=some n↔n∈l/\n.id=k:=by
 unfold atN
 constructor
 ·intro h
  split at h
  ·rename_i hh
   obtain⟨a,b⟩:=z1m.1 hh
   injection h with h
   subst h
   exact⟨z0j a,b⟩
  ·cases h
 ·rintro⟨hn,rfl⟩
  obtain⟨j,hj,rfl⟩:=z0T hn
  have s:=z2w l (l.getD j default).id
  have e:z0x l (l.getD j default).id=j:=by
   rcases Nat.lt_trichotomy (z0x l (l.getD j default).id) j with q|q|q
   ·have h1:=s.2.2 (by omega)
    have h2:=hs _ j q hj
    exact absurd h2 h1
   ·exact q
   ·have:=s.2.1 j q;omega
  have hh:z14 l (l.getD j default).id=true:=z1m.2 ⟨by rw[e];exact hj,by rw[e]⟩
  rw[if_pos hh]
  unfold ndN;rw[e]
theorem x9g{l:List Node}{k:Int}{n:Node}(h:atN l k=some n):z14 l k=true/\ndN l k=n:=by
 unfold atN at h
 split at h
 ·rename_i q;exact⟨q,by injection h⟩
 ·cases h
theorem x7l{l:List Node}{k:Int}(h:z14 l k=true):atN l k=some (ndN l k):=by unfold atN;rw[if_pos h]
theorem y4X{l:List Node}{k:Int}:atN l k=none↔z14 l k=false:=by
 unfold atN;cases z14 l k<;>simp
theorem x33:∀{l l':List Node},l.Pairwise (fun a b=>a.id<b.id)->l'.Pairwise (fun a b=>a.id<b.id)->(∀n,n∈l↔n∈l')->l=l'
 | [],[],_,_,_=>rfl
 | [],y::l',_,_,h=>absurd ((h y).2 (by simp)) (by simp)
 |x::l,[],_,_,h=>absurd ((h x).1 (by simp)) (by simp)
 |x::l,y::l',hl,hl',h=>by
  obtain⟨a1,a2⟩:=qV.1 hl
  obtain⟨b1,b2⟩:=qV.1 hl'
  have e:x=y:=by
   rcases qg.1 ((h x).1 (by simp)) with q|q
   ·exact q
   ·rcases qg.1 ((h y).2 (by simp)) with z|z
    ·exact z.symm
    ·have h1:=b1 x q
     have h2:=a1 y z
     omega
  subst e
  congr 1
  refine x33 a2 b2 fun n=>⟨fun hn=> ?_,fun hn=> ?_⟩
  ·rcases qg.1 ((h n).1 (by simp[hn])) with q|q
   ·subst q;have:=a1 n hn;omega
   ·exact q
  ·rcases qg.1 ((h n).2 (by simp[hn])) with q|q
   ·subst q;have:=b1 n hn;omega
   ·exact q
theorem y6Q{l l':List Node}(hs:z1i l)(hs':z1i l')(h:∀k,atN l k=atN l' k):l=l':=
 x33 (y4W hs) (y4W hs') fun n=>⟨fun hn=>((z22 hs').1 ((h n.id)▸(z22 hs).2 ⟨hn,rfl⟩)).1,fun hn=>((z22 hs).1 ((h n.id).symm▸(z22 hs').2 ⟨hn,rfl⟩)).1⟩
theorem y6R{l:List Node}{i:Nat}{x n:Node}(hs:z1i l)(hi:i<l.length)(hx:x.id=(l.getD i default).id):n∈l.set i x↔n=x\/(n∈l/\n.id≠x.id):=by
 constructor
 ·intro h
  obtain⟨j,hj,e⟩:=zS h
  rw[List.getElem_set] at e
  split at e
  ·exact .inl e.symm
  ·rename_i q
   rw[zn] at hj
   refine .inr ⟨e▸zA hj,fun z=>q ?_⟩
   rw[<-e,hx] at z
   refine x0A hs hi hj ?_
   rw[<-z];simp[List.getD,qb hj]
 ·rintro(rfl| ⟨h,q⟩)
  ·exact zd.2 ⟨i,by simpa using hi,by simp⟩
  ·obtain⟨j,hj,rfl⟩:=z0T h
   rcases y0v (x:=x) hi (z0j hj) with z|z
   ·exact z
   ·rw[z] at q;exact absurd hx.symm q
theorem y6S{l:List Node}{i:Nat}{x:Node}(hs:z1i l)(hi:i<l.length)(hx:x.id=(l.getD i default).id):z1i (l.set i x):=by
 have hids:∀j,((l.set i x).getD j default).id=(l.getD j default).id:=fun j=>by
  rw[y1L hi];split
  ·rename_i e;subst e;exact hx
  ·rfl
 intro p q hpq hq
 rw[hids,hids];exact hs p q hpq (by simpa using hq)
theorem x0I(n:Node)(o:EOp):(z4L n o).id=n.id/\(z4L n o).kind=n.kind:=by
 unfold z4L;repeat' split
 all_goals exact⟨rfl,rfl⟩
theorem z3J{l:List Node}(hs:z1i l){o:EOp}(hk:o.kind≠0)(h0:z1p l o=0):z1i (z0W l o)/\∀k,atN (z0W l o) k=if k=o.node then(atN l k).map (fun n=>z4L n o) else atN l k:=by
 obtain⟨h1,h2,h3⟩:=z4E hk h0
 obtain⟨_,hid⟩:=z1m.1 h1
 rw[h3]
 have hx:(z4L (l.getD (z0x l o.node) default) o).id=(l.getD (z0x l o.node) default).id:=(x0I _ _).1
 refine⟨y6S hs h2 hx,fun k=> ?_⟩
 have hs2:=y6S hs h2 hx
 have hn:atN l o.node=some (l.getD (z0x l o.node) default):=x7l h1
 by_cases e:k=o.node
 ·subst e
  rw[if_pos rfl,hn]
  exact(z22 hs2).2 ⟨(y6R hs h2 hx).2 (.inl rfl),hx.trans hid⟩
 ·rw[if_neg e]
  refine Option.ext fun n=> ?_
  rw[z22 hs2,z22 hs,y6R hs h2 hx]
  constructor
  ·rintro⟨rfl| ⟨q,_⟩,z⟩
   ·exact absurd (z.symm.trans (hx.trans hid)) e
   ·exact⟨q,z⟩
  ·rintro⟨q,z⟩
   exact⟨.inr ⟨q,fun w=>e (z.symm.trans (w.trans (hx.trans hid)))⟩,z⟩
theorem z5E{l:List Node}{n x:Node}:x∈y3Q l n↔x=n\/x∈l:=by
 unfold y3Q
 rw[qj,qg]
 constructor
 ·rintro(h|h|h)
  ·exact .inr (qE h)
  ·exact .inl h
  ·exact .inr (qC h)
 ·rintro(h|h)
  ·exact .inr (.inl h)
  ·rw[<-List.take_append_drop (z0x l n.id) l,qj] at h
   exact h.elim .inl (fun q=> .inr (.inr q))
theorem z9y{l:List Node}{n:Node}(hs:z1i l)(h:z14 l n.id=false):z1i (y3Q l n):=by
 obtain⟨s1,s2,s3⟩:=z2w l n.id
 have hp:=y4W hs
 refine x5E (List.pairwise_append.2 ⟨hp.sublist (List.take_sublist _ _),qV.2 ⟨fun x hx=> ?_,hp.sublist (List.drop_sublist _ _)⟩,fun x hx y hy=> ?_⟩)
 ·obtain⟨j,hj,rfl⟩:=zS hx
  rw[qR] at hj
  rw[List.getElem_drop]
  have e:l[z0x l n.id+j]=l.getD (z0x l n.id+j) default:=by simp[List.getD,qb (show z0x l n.id+j<l.length by omega)]
  rw[e]
  have h3:=s3 (by omega)
  have hne:(l.getD (z0x l n.id) default).id≠n.id:=fun q=>by
   have:z14 l n.id=true:=z1m.2 ⟨by omega,q⟩
   rw[h] at this;cases this
  by_cases z:j=0
  ·subst z;show n.id< (l.getD (z0x l n.id) default).id;omega
  ·have:=hs (z0x l n.id) (z0x l n.id+j) (by omega) (by omega);omega
 ·obtain⟨i,hi,rfl⟩:=zS hx
  rw[qB] at hi
  rw[List.getElem_take]
  have ei:l[i]=l.getD i default:=by simp[List.getD,qb (show i<l.length by omega)]
  have hlt:=s2 i (by omega)
  rcases qg.1 hy with rfl|hy
  ·rw[ei];exact hlt
  ·obtain⟨j,hj,rfl⟩:=zS hy
   rw[qR] at hj
   rw[List.getElem_drop]
   exact zB.1 hp _ _ _ _ (by omega)
theorem x7m{l:List Node}{n:Node}(hs:z1i l)(h:z14 l n.id=false)(k:Int):atN (y3Q l n) k=if k=n.id then some n else atN l k:=by
 have hs2:=z9y hs h
 by_cases e:k=n.id
 ·rw[if_pos e];exact(z22 hs2).2 ⟨z5E.2 (.inl rfl),e.symm⟩
 ·rw[if_neg e]
  refine Option.ext fun x=> ?_
  rw[z22 hs2,z22 hs,z5E]
  constructor
  ·rintro⟨rfl|q,z⟩
   ·exact absurd z.symm e
   ·exact⟨q,z⟩
  ·rintro⟨q,z⟩;exact⟨.inr q,z⟩
theorem z5k{l:List Node}(hs:z1i l){o:EOp}(hk:o.kind=0)(h0:z1p l o=0):z14 l o.nw.id=false/\z0W l o=y3Q l o.nw/\z1i (z0W l o)/\∀k,atN (z0W l o) k=if k=o.nw.id then some o.nw else atN l k:=by
 have ha:y0i l o.nw=0:=(y7I hk).2.symm.trans h0
 have hn:z14 l o.nw.id=false:=by
  cases q:z14 l o.nw.id with
  |false=>rfl
  |true=>rw[(x2s (l:=l) (n:=o.nw) q).2] at ha;cases ha
 have e:z0W l o=y3Q l o.nw:=by
  rw[(y7I hk).1];unfold z9R;rw[ha,if_neg (fun q=>q rfl)]
 rw[e]
 exact⟨hn,rfl,z9y hs hn,x7m hs hn⟩
def y74(M:Int->Option Node)(k:Int)(r:Int):Prop:=∃m,M r=some m/\z06 k m.kind=true
theorem y4Y{l:List Node}(hs:z1i l){k:Int}{rs:List Int}:z1c l k rs 0=0↔∀r∈rs,y74 (atN l) k r:=by
 rw[z5C hs]
 refine forall_congr' fun r=>forall_congr' fun _=>⟨?_,?_⟩
 ·rintro⟨m,hm,h1,h2⟩;exact⟨m,(z22 hs).2 ⟨hm,h1⟩,h2⟩
 ·rintro⟨m,hm,h2⟩
  obtain⟨a,b⟩:=(z22 hs).1 hm
  exact⟨m,a,b,h2⟩
def x0J(M:Int->Option Node)(k:Int)(x:Elem):Prop:=(z1o k=false->x.ref≠0)/\(x.ref≠0->y74 M k x.ref)
theorem x0K{l:List Node}(hs:z1i l){k:Int}{x:Elem}:y3P l k x=0↔x0J (atN l) k x:=by
 constructor
 ·intro h
  obtain⟨a,b⟩:=z7B hs h
  refine⟨a,fun q=> ?_⟩
  obtain⟨m,hm,h1,h2⟩:=b q
  exact⟨m,(z22 hs).2 ⟨hm,h1⟩,h2⟩
 ·rintro⟨a,b⟩
  unfold y3P
  rw[if_neg (fun q=>a q.2 q.1)]
  refine(y4Y hs).2 fun r hr=> ?_
  obtain⟨y,hy,rfl,h0⟩:=z9w.1 hr
  rw[qA] at hy;subst hy
  exact b h0
structure FlowOk(M:Int->Option Node)(n:Node)(s:List DStep):Prop where
 kd:z1o n.kind=true\/z3V n.kind=true
 old:z1Q s=(n.flow.length:Int)
 ends:z1o n.kind=true->z6Y s=true
 new:∀t∈s,∀x∈t.elems,x0J M n.kind x
theorem y6T{l:List Node}(hs:z1i l){n:Node}{s:List DStep}:z1v l n s=0↔FlowOk (atN l) n s:=by
 constructor
 ·intro h
  obtain⟨a,b,c,d⟩:=z9v h
  exact⟨a,b,c,fun t ht x hx=>(x0K hs).1 (d t ht x hx)⟩
 ·rintro⟨a,b,c,d⟩
  unfold z1v
  rw[if_neg (y56 a),if_neg (fun q=>q b),if_neg (fun q=>by rw[c q.1] at q;cases q.2)]
  exact y0h fun t ht=>y0h fun x hx=>(x0K hs).2 (d t ht x hx)
def z3K(M:Int->Option Node)(n:Node)(o:EOp):Prop:=
 (o.kind=2->FlowOk M n o.steps)/\(o.kind=4->y0c n.kind=true/\(z0p n.draw o.draw).isSome=true)
theorem z6q{l:List Node}(hs:z1i l){o:EOp}(hk:o.kind=0):z1p l o=0↔atN l o.nw.id=none/\∀r∈z2x o.nw,y74 (atN l) o.nw.kind r:=by
 rw[(y7I hk).2]
 constructor
 ·intro h
  cases q:z14 l o.nw.id with
  |false=>exact⟨y4X.2 q,(y4Y hs).1 ((y7H q).symm.trans h)⟩
  |true=>rw[(x2s (l:=l) (n:=o.nw) q).2] at h;cases h
 ·rintro⟨a,b⟩
  rw[y7H (y4X.1 a)];exact(y4Y hs).2 b
theorem z4N{l:List Node}(hs:z1i l){o:EOp}(hk:o.kind=1\/o.kind=2\/o.kind=4):z1p l o=0↔∃n,atN l o.node=some n/\z3K (atN l) n o:=by
 constructor
 ·intro h
  obtain⟨h1,h2,h3⟩:=z4E (by omega) h
  refine⟨_,x7l h1,fun q=> ?_,fun q=> ?_⟩
  ·exact(y6T hs).1 ((x2t h1 q).2.symm.trans h)
  ·have e:=(y9J h1 q).symm.trans h
   unfold z7T at e
   split at e
   ·cases e
   ·rename_i z
    split at e
    ·rename_i w;exact⟨(Bool.not_eq_false _).mp z,w⟩
    ·cases e
 ·rintro⟨n,hn,h2,h4⟩
  obtain⟨hh,hnd⟩:=x9g hn
  have hd:l.getD (z0x l o.node) default=n:=hnd
  rcases hk with k|k|k
  ·exact(x6N hh k).2
  ·rw[(x2t hh k).2,hd];exact(y6T hs).2 (h2 k)
  ·rw[y9J hh k,hd]
   obtain⟨a,b⟩:=h4 k
   unfold z7T
   rw[if_neg (by rw[a];decide),if_pos b]
def Kd(M M':Int->Option Node):Prop:=∀k m,M k=some m->∃m',M' k=some m'/\m'.kind=m.kind
theorem y74.kd{M M':Int->Option Node}(h:Kd M M'){k r:Int}(q:y74 M k r):y74 M' k r:=by
 obtain⟨m,hm,h2⟩:=q
 obtain⟨m',a,b⟩:=h r m hm
 exact⟨m',a,by rw[b];exact h2⟩
theorem x0J.kd{M M':Int->Option Node}(h:Kd M M'){k:Int}{x:Elem}(q:x0J M k x):x0J M' k x:=⟨q.1,fun z=>(q.2 z).kd h⟩
theorem z5W{l:List Node}(hs:z1i l){o:EOp}(h0:z1p l o=0):Kd (atN l) (atN (z0W l o)):=by
 intro k m hm
 by_cases hk:o.kind=0
 ·obtain⟨a,_,_,b⟩:=z5k hs hk h0
  rw[b k]
  by_cases e:k=o.nw.id
  ·subst e;rw[y4X.2 a] at hm;cases hm
  ·rw[if_neg e];exact⟨m,hm,rfl⟩
 ·obtain⟨_,b⟩:=z3J hs hk h0
  rw[b k]
  by_cases e:k=o.node
  ·rw[if_pos e,hm];exact⟨z4L m o,rfl,(x0I m o).2⟩
  ·rw[if_neg e];exact⟨m,hm,rfl⟩
end Go.Ch
end
section
namespace Go.Ch
open Go Go.Ab
def UC:List ByteArray:=[y6o,z9I,{data:=#[116,105,116,108,101]},{data:=#[98,111,108,100]},{data:=#[115,105,122,101]},{data:=#[109,97,114,107,46,109]},{data:=#[104,101,97,100]},{data:=#[108,105,115,116]},{data:=#[97,108,105,103,110]},x5g]
theorem x34(V:List ByteArray)(hV:V.length<=90)(Z:List ByteArray)(hZ:∀v∈Z,v=zzB):UN ⟨UC++V,Z⟩:=by
 have h:∀x∈UC,x∈(⟨UC++V,Z⟩:US):=fun x hx=>List.mem_append_left _ hx
 exact⟨⟨by show(UC++V).length<=100;rw[qf];have:UC.length=10:=rfl;omega,hZ,h _ (by simp[UC]),h _ (by simp[UC])⟩,h _ (by simp[UC]),h _ (by simp[UC]),h _ (by simp[UC]),h _ (by simp[UC]),h _ (by simp[UC]),h _ (by simp[UC]),h _ (by simp[UC]),h _ (by simp[UC])⟩
theorem y1T{d:Doc}{c:List EOp}(h:z3s d c=0):z1N d=0/\z1R c 0=0/\z3X d.nodes c=0/\z4S d c=⟨z3e d.nodes c⟩:=by
 have h1:z1N d=0:=by
  apply qc;intro q
  rw[(x6R q).2] at h;exact q h
 have h2:z1R c 0=0:=by
  apply qc;intro q
  rw[(x6S h1 q).2] at h;exact q h
 have h3:z3X d.nodes c=0:=(x4Y h1 h2).symm.trans h
 exact⟨h1,h2,h3,(x4Z h1 h2 h3 rfl).1⟩
def GK(U:US)(s:Int)(k:Nat)(d:Doc):Prop:=k<=57/\PP U s k d.nodes
variable {U:US}
theorem x5F(hN:UN U){s:Int}(hs:0<=s/\s<=1000){k:Nat}{d:Doc}(h:GK U s k d)(a b c:Int):AppB d (z1x d s a b c):=
 have r:=y4V hN hs h.2 h.1 a b c
 ⟨h.2.docL hN.toUB (by have:=h.1;omega),r.1,fun _ he=>(r.2 (z4y.1 he)).b⟩
theorem x0L(hN:UN U){s:Int}(hs:0<=s/\s<=1000){k:Nat}{d:Doc}(h:GK U s k d){a b c:Int}(h0:z3s d (z1x d s a b c)=0):y3S (PP U s (k+3)) d.nodes (z1x d s a b c)/\PP U s (k+3) (z4S d (z1x d s a b c)).nodes:=by
 obtain⟨e1,e2,e3,e4⟩:=y1T h0
 have r:=(y4V hN hs h.2 h.1 a b c).2 (z4y.1 e2)
 rw[e4]
 exact⟨r,r.fin e3⟩
theorem y1U(hN:UN U)(hZ:U.no=[]){s:Int}(hs:0<=s/\s<=1000):GInv s (GK U s) where
 doc:=fun h=>h.2.docL hN.toUB (by have:=h.1;omega)
 cmd:=fun b c h=>x5B hN.toUB hZ hs h.2 (by have:=h.1;omega) b c
 app:=fun a b c h=>x5F hN hs h a b c
 step:=fun {k d} a b c hk h=>by
  by_cases q:z3s d (z1x d s a b c)=0
  ·rw[y1G q];exact⟨by omega,(x0L hN hs h q).2⟩
  ·rw[y4O q];exact⟨by omega,h.2.mono (by omega)⟩
 more:=fun hk h=>⟨by omega,h.2.mono (by omega)⟩
theorem x0M(hN:UN U):GK U 0 0 z8b:=by
 have hx:∀n∈z8b.nodes,NG U n/\NZ 10 n:=fun n hn=>by
  have hc:∀c:Int,z4v c->c≠0->RU U ⟨c,0,[]⟩:=fun c h1 h2=>y4P h1 h2 VU.nil
  simp only[z8b,qg,qX,or_false] at hn
  rcases hn with rfl|rfl|rfl
  ·refine⟨⟨VU.nil,fun x hx=> ?_,rfl,(fun x h=>by cases h),(fun x h=>by cases h),(by decide:(0:Int)≠6)⟩,y1S (by simp) (by simp) (by simp)⟩
   simp only[qg,qX,or_false] at hx
   rcases hx with rfl|rfl<;>exact y6O (by omega) VU.nil
  ·refine⟨⟨VU.nil,fun x hx=> ?_,rfl,(fun x h=>by cases h),(fun x h=>by cases h),(by decide:(1:Int)≠6)⟩,y1S (by simp) (by simp) (by simp)⟩
   simp only[qg,qX,or_false] at hx
   rcases hx with rfl|rfl|rfl|rfl|rfl|rfl<;>exact hc _ (by decide) (by decide)
  ·exact⟨⟨VU.nil,(fun x h=>by cases h),rfl,(fun x h=>by cases h),(fun x h=>by cases h),(by decide:(10:Int)≠6)⟩,y1S (by simp) (by simp) (by simp)⟩
 refine⟨by omega,⟨y4Q.1 (by decide+kernel),hx⟩,by decide,fun n hn=> ?_⟩
 simp only[z8b,qg,qX,or_false] at hn
 rcases hn with rfl|rfl|rfl<;>simp
theorem x7n{k:Nat}{d:Doc}(h:GK U 0 k d):GK U 1 k d:=⟨h.1,h.2.gp,h.2.len,fun n hn=>by have:=h.2.id n hn;omega⟩
structure CI(U:US)(s:Int)(l:List Node)(c:List EOp)(d:Doc):Prop where
 run:y3S (PP U s 57) l c
 e:z3X l c=0
 l:z3e l c=d.nodes
 ok:∀o∈c,z2y o=0/\OpL o
theorem x35(hN:UN U){s:Int}(hs:0<=s/\s<=1000){g:Bool}{raw:List Int}{l:List Node}{k0:Nat}(hk:k0<=38):∀(m:Nat) {k:Nat} {c:List EOp} {d:Doc},raw.length-k=m->k<=17->c.length<=k->GK U s (k0+k) d->CI U s l c d->
 CI U s l (z6i s g raw c d k).1 (z6i s g raw c d k).2/\(z6i s g raw c d k).1.length<=17/\PP U s 57 (z6i s g raw c d k).2.nodes:=by
 intro m
 induction m using Nat.strongRecOn with
 |_ m ih=>
  intro k c d hm h17 hl hg hc
  by_cases h:k+2<raw.length/\k<15
  ·by_cases h2:okC s g d (raw.getD k default) (raw.getD (k+1) default) (raw.getD (k+2) default)=true
   ·rw[x5s h h2]
    have h0:z3s d (z1x d s (raw.getD k default) (raw.getD (k+1) default) (raw.getD (k+2) default))=0:=by
     unfold okC at h2
     rw[qm,decide_eq_true_eq] at h2;exact h2.1
    obtain⟨r1,r2⟩:=x0L hN hs hg h0
    obtain⟨e1,e2,e3,e4⟩:=y1T h0
    have hlen:=y6A d s (raw.getD k default) (raw.getD (k+1) default) (raw.getD (k+2) default)
    have hop:=(y4V hN hs hg.2 hg.1 (raw.getD k default) (raw.getD (k+1) default) (raw.getD (k+2) default)).1
    refine ih _ (by omega) rfl (by omega) (by rw[qf];omega) ⟨by omega,r2⟩ ⟨hc.run.app (fun _=> ?_),?_,?_,fun o ho=> ?_⟩
    ·rw[hc.l];exact r1.imp (fun l h=>h.mono (by omega))
    ·rw[y52,hc.e,if_neg (fun q=>q rfl),hc.l];exact e3
    ·rw[y53,hc.l,e4]
    ·rcases qj.1 ho with q|q
     ·exact hc.ok o q
     ·exact⟨z4y.1 e2 o q,hop o q⟩
   ·rw[x5t h h2]
    exact ih _ (by omega) rfl (by omega) (by omega) ⟨by omega,hg.2.mono (by omega)⟩ hc
  ·rw[y1I h]
   exact⟨hc,by show c.length<=17;omega,hg.2.mono (by omega)⟩
end Go.Ch
end
section
namespace Go.Ch
open Go Go.Ab
variable {U:US}
variable {d:Doc}
def z2S(us:List DU):Bool:=match us.getLast? with
 |some (.K _)=>true
 |_=>false
theorem z10(x y:DU)(u:List DU):z2S (x::y::u)=z2S (y::u):=by
 unfold z2S;rw[List.getLast?_cons_cons]
theorem y3y{u v:List DU}(h:DSw u v):z2S u=z2S v:=by
 induction h with
 |refl u=>rfl
 |cons x h ih=>
  have hl:=y9Q h
  rename_i u v
  cases u with
  |nil=>cases v with
   |nil=>rfl
   |cons y v=>simp at hl
  |cons y u=>cases v with
   |nil=>simp at hl
   |cons z v=>rw[z10,z10];exact ih
 |swap e u=>cases u with
  |nil=>rfl
  |cons y u=>rw[z10,z10,z10,z10]
 |symm h ih=>exact ih.symm
 |trans h k ih1 ih2=>exact ih1.trans ih2
theorem z9z(u:List DU){v:List DU}(h:v≠[]):z2S (u++v)=z2S v:=by
 unfold z2S
 rw[List.getLast?_append]
 cases hv:v.getLast? with
 |none=>exact absurd (List.getLast?_eq_none_iff.1 hv) h
 |some x=>rfl
theorem x0N{s:List DStep}(hv:z1g s)(h:z2S (exD s)=true):z6Y s=true:=by
 have hne:s≠[]:=fun e=>by rw[e] at h;exact absurd h (by decide)
 obtain⟨t,ht⟩:∃t,s=s.dropLast++[t]:=⟨s.getLast hne,(List.dropLast_concat_getLast hne).symm⟩
 generalize s.dropLast=i at ht
 subst ht
 have hg:(i++[t]).getD ((i++[t]).length- 1) default=t:=by rw[z8y (by simp)];rfl
 have hk:t.kind=0:=by
  apply qc;intro q
  have ho:=hv.1.all t (by simp)
  rw[z5d,show exD [t]=exS t by simp[exD]] at h
  unfold exS at h
  by_cases q1:t.kind=1
  ·rw[if_pos q1] at h
   have he:t.elems≠[]:=by
    rcases ho with⟨_,_,_,q,_⟩| ⟨q,_⟩
    ·exact q
    ·omega
   rw[z9z _ (by simpa using he)] at h
   unfold z2S at h
   rw[List.getLast?_map] at h
   cases hl:t.elems.getLast? with
   |none=>exact he (List.getLast?_eq_none_iff.1 hl)
   |some x=>rw[hl] at h;simp at h
  ·have q2:t.kind=2:=by
    rcases ho with⟨k,_⟩| ⟨k,_⟩
    ·omega
    ·omega
   have hn:1<=t.n:=by
    rcases ho with⟨k,_⟩| ⟨_,e,_,n,_⟩
    ·omega
    ·exact n
   rw[if_neg q1,if_pos q2] at h
   rw[z9z _ (by intro z;have:=congrArg List.length z;simp at this;omega)] at h
   unfold z2S at h
   rw[List.getLast?_replicate,if_neg (by omega)] at h
   cases h
 unfold z6Y
 rw[hg,hk]
 simp
theorem x7o{U:US}{n:Int}{s:List DStep}{us:List DU}(hn:1<=n/\n<=1073741824)(hd:DU_ U s us):z2y (opF n s)=0:=by
 unfold z2y
 rw[if_neg (by show¬((2:Int)< 0\/4< (2:Int));decide)]
 have hu:y8i (opF n s)=false:=by
  unfold y8i opF
  simp only[show((2:Int)==0)=false from rfl,show((2:Int) !=0)=true from rfl,show((2:Int) !=1)=true from rfl,show((2:Int) !=2)=false from rfl,show((2:Int) !=3)=true from rfl,show((2:Int) !=4)=true from rfl,Bool.false_and,Bool.true_and,Bool.false_or]
  rw[show z0Z ⟨0,0,[],[],⟨0,0,[],[]⟩,[]⟩=true by decide+kernel,show x6I ⟨[],[],[],[],[]⟩=false by decide+kernel]
  rfl
 rw[if_neg (by rw[hu];decide),if_neg (show¬(opF n s).kind=0 from(by decide:¬(2:Int)=0)),if_neg (by show¬(n<1\/1073741824<n);omega),if_neg (show¬(opF n s).kind=1 from(by decide:¬(2:Int)=1)),if_pos (show(opF n s).kind=2 from rfl)]
 exact z1r.2 hd.v
end Go.Ch
end
section
namespace Go.Ch
open Go Go.Ab
variable {U:US}
theorem z3T{u:List DU}(x:DU)(h:z2S u=true):z2S (x::u)=true:=by
 cases u with
 |nil=>exact absurd h (by decide)
 |cons y u=>rw[z10];exact h
theorem z11{x:DU}{u:List DU}(h:z2S (x::u)=true)(hu:u≠[]):z2S u=true:=by
 cases u with
 |nil=>exact absurd rfl hu
 |cons y u=>rwa [z10] at h
theorem x0O{e:Elem}:z2S [.A e]=false:=rfl
theorem x0P:z2S [.C]=false:=rfl
theorem z5l:∀{u:List DU},z2S u=true->1<=z0I u
 | [],h=>absurd h (by decide)
 | [.K c],_=>by simp[z0I]
 | [.A e],h=>by rw[x0O] at h;cases h
 | [.C],h=>by rw[x0P] at h;cases h
 |x::y::u,h=>by
  rw[z10] at h
  have:=z5l h
  cases x<;>simp only[z0I] at* <;>omega
theorem y0B(p q:List DU):z0I p=z0I q->z2S p=true->z2S q=true->z2S (z0f p q).1=true/\z2S (z0f p q).2=true:=by
 have nA:∀{e:Elem} {u:List DU},z2S (.A e::u)=true->u≠[]:=fun h z=>by subst z;rw[x0O] at h;cases h
 have nC:∀{u:List DU},z2S (.C::u)=true->u≠[]:=fun h z=>by subst z;rw[x0P] at h;cases h
 have n0:∀{u:List DU},1<=z0I u->u≠[]:=fun h z=>by subst z;exact absurd h (by decide)
 induction p,q using z0f.induct with
 |case1 e p q ih=>
  intro h hp hq
  obtain⟨a,b⟩:=ih (by simpa[z0I] using h) (z11 hp (nA hp)) hq
  rw[z0f];exact⟨z3T _ a,z3T _ b⟩
 |case2 e q ih=>intro h hp;exact absurd hp (by decide)
 |case3 c p e q ih=>
  intro h hp hq
  obtain⟨a,b⟩:=ih (by simpa[z0I] using h) hp (z11 hq (nA hq))
  rw[z0f];exact⟨z3T _ a,z3T _ b⟩
 |case4 p e q ih=>
  intro h hp hq
  obtain⟨a,b⟩:=ih (by simpa[z0I] using h) hp (z11 hq (nA hq))
  rw[z0f];exact⟨z3T _ a,z3T _ b⟩
 |case5 c p d q ih=>
  intro h hp hq
  have h':z0I p=z0I q:=by simpa[z0I] using h
  rw[z0f]
  by_cases e:p=[]
  ·subst e
   have e2:q=[]:=by
    cases q with
    |nil=>rfl
    |cons y q=>
     have:=z5l (z11 hq (by simp))
     rw[<-h'] at this;exact absurd this (by decide)
   subst e2
   simp[z0f,z2S]
  ·have e2:q≠[]:=n0 (by have:=z5l (z11 hp e);omega)
   obtain⟨a,b⟩:=ih h' (z11 hp e) (z11 hq e2)
   exact⟨z3T _ a,z3T _ b⟩
 |case6 c p q ih=>
  intro h hp hq
  have h':z0I p=z0I q:=by simpa[z0I] using h
  have hq':=z11 hq (nC hq)
  have hp':=z11 hp (n0 (by have:=z5l hq';omega))
  obtain⟨a,b⟩:=ih h' hp' hq'
  rw[z0f];exact⟨a,z3T _ b⟩
 |case7 p d q ih=>
  intro h hp hq
  have h':z0I p=z0I q:=by simpa[z0I] using h
  have hp':=z11 hp (nC hp)
  have hq':=z11 hq (n0 (by have:=z5l hp';omega))
  obtain⟨a,b⟩:=ih h' hp' hq'
  rw[z0f];exact⟨z3T _ a,b⟩
 |case8 p q ih=>
  intro h hp hq
  have h':z0I p=z0I q:=by simpa[z0I] using h
  obtain⟨a,b⟩:=ih h' (z11 hp (nC hp)) (z11 hq (nC hq))
  rw[z0f];exact⟨a,b⟩
 |case9 p hne=>intro h hp hq;exact absurd hq (by decide)
 |case10 q h1 h2=>intro h hp;exact absurd hp (by decide)
theorem y4Z(p q:List DU)(hp:∀u∈p,UU U u)(hq:∀u∈q,UU U u):∀u∈(z0f p q).2,UU U u:=by
 have h0:UU U (.K []):=VU.nil
 induction p,q using z0f.induct with
 |case1 e p q ih=>rw[z0f];exact all_cons h0 (ih (z0y hp) hq)
 |case2 e q ih=>rw[z0f];exact all_cons (hq (.A e) (by simp)) (ih hp (z0y hq))
 |case3 c p e q ih=>rw[z0f];exact all_cons (hq (.A e) (by simp)) (ih hp (z0y hq))
 |case4 p e q ih=>rw[z0f];exact all_cons (hq (.A e) (by simp)) (ih hp (z0y hq))
 |case5 c p d q ih=>rw[z0f];exact all_cons (hq (.K d) (by simp)) (ih (z0y hp) (z0y hq))
 |case6 c p q ih=>rw[z0f];exact all_cons trivial (ih (z0y hp) (z0y hq))
 |case7 p d q ih=>rw[z0f];exact ih (z0y hp) (z0y hq)
 |case8 p q ih=>rw[z0f];exact ih (z0y hp) (z0y hq)
 |case9 p hne=>rw[show z0f p []=([],[]) by unfold z0f;split<;>simp_all];intro u hu;cases hu
 |case10 q h1 h2=>rw[show z0f [] q=([],[]) by unfold z0f;split<;>simp_all];intro u hu;cases hu
theorem y6U (p q : List DU) : (z2U (z0f p q).1 <= z2U p /\ z2U (z0f p q).2 <= z2U q) /\ ∀ e, (.A e ∈ (z0f p q).1 -> .A e ∈ p) /\ (.A e ∈ (z0f p q).2 -> .A e ∈ q) := by
  induction p, q using z0f.induct with
  | case9 p hne => rw [show z0f p [] = ([], []) by unfold z0f; split <;> simp_all]; simp [z2U]
  | case10 q h1 h2 => rw [show z0f [] q = ([], []) by unfold z0f; split <;> simp_all]; simp [z2U]
  | _ =>
    rename_i ih
    obtain ⟨⟨i1, i2⟩, i3⟩ := ih
    rw [z0f]
    refine ⟨⟨by simp only [z2U] at *; omega, by simp only [z2U] at *; omega⟩, fun e => ⟨fun h => ?_, fun h => ?_⟩⟩
    · first
      | exact qU _ ((i3 e).1 h)
      | exact (i3 e).1 h
      | (rcases qg.1 h with z | z
         · first | cases z | (cases z; exact zF)
         · first | exact qU _ ((i3 e).1 z) | exact (i3 e).1 z)
      | (rcases qg.1 h with z | z
         · rw [z]; exact zF
         · first | exact qU _ ((i3 e).1 z) | exact (i3 e).1 z)
    · first
      | exact qU _ ((i3 e).2 h)
      | exact (i3 e).2 h
      | (rcases qg.1 h with z | z
         · first | cases z | (cases z; exact zF)
         · first | exact qU _ ((i3 e).2 z) | exact (i3 e).2 z)
      | (rcases qg.1 h with z | z
         · rw [z]; exact zF
         · first | exact qU _ ((i3 e).2 z) | exact (i3 e).2 z)
theorem y1V(u:List DU):z07 u<=z0I u+z2U u:=by
 induction u with
 |nil=>simp[z07]
 |cons x u ih=>cases x<;>simp only[z07,z0I,z2U]<;>omega
theorem x36{s:List DStep}(h:∀t∈s,DOk t){t:DStep}(ht:t∈s){e:Elem}(he:e∈t.elems):DU.A e∈exD s:=by
 induction s with
 |nil=>cases ht
 |cons x s ih=>
  rw[exD,qj]
  rcases qg.1 ht with rfl|ht
  ·refine .inl ?_
   rcases h t (by simp) with⟨k,_⟩| ⟨_,e0,_⟩
   ·unfold exS;rw[if_pos k];exact List.mem_map_of_mem he
   ·rw[e0] at he;cases he
  ·exact .inr (ih (fun y hy=>h y (by simp[hy])) ht)
theorem z5F{s:List DStep}(hv:z1g s)(he:z6Y s=true):z2S (exD s)=true:=by
 unfold z6Y at he
 rw[qm,decide_eq_true_eq,beq_iff_eq] at he
 obtain⟨h0,hk⟩:=he
 have hne:s≠[]:=fun e=>by rw[e] at h0;exact absurd h0 (by decide)
 obtain⟨t,ht⟩:∃t,s=s.dropLast++[t]:=⟨s.getLast hne,(List.dropLast_concat_getLast hne).symm⟩
 generalize s.dropLast=i at ht
 subst ht
 have hg:(i++[t]).getD ((i++[t]).length- 1) default=t:=by rw[z8y (by simp)];rfl
 rw[hg] at hk
 have hn:1<=t.n:=by
  rcases hv.1.all t (by simp) with⟨k,_⟩| ⟨_,_,_,n,_⟩
  ·omega
  ·exact n
 obtain⟨m,hm⟩:∃m,t.n.toNat=m+1:=⟨t.n.toNat- 1,by omega⟩
 have ex:exD (i++[t])=(exD i++List.replicate m (.K t.attrs))++[.K t.attrs]:=by
  rw[z5d,qO,<-List.replicate_succ',<-hm];congr 1
  simp only[exD,qQ]
  unfold exS
  rw[if_neg (by omega),if_neg (by omega)]
 rw[ex,z9z _ (by simp)];rfl
theorem FlowOk.same{M M':Int->Option Node}(hM:Kd M M'){n n':Node}{s:List DStep}(h:FlowOk M n s)(hk:n'.kind=n.kind)(hf:n'.flow=n.flow):FlowOk M' n' s:=
 ⟨by rw[hk];exact h.kd,by rw[hf];exact h.old,by rw[hk];exact h.ends,fun t ht x hx=>by rw[hk];exact(h.new t ht x hx).kd hM⟩
theorem x2Y(hU:UB U){M Mp Mq:Int->Option Node}(Kp:Kd M Mp)(Kq:Kd M Mq){n:Node}{a b:List DStep}{us vs:List DU}(ha:DU_ U a us)(hb:DU_ U b vs)(fa:FlowOk M n a)(fb:FlowOk M n b)
 (hr:∀x∈n.flow,RU U x) (hl:n.flow.length<=100000) (aa:z2U us<=12) (ab:z2U vs<=12):
 FlowOk Mp {n with flow:=z4Q n.flow a} (z2s a b)/\FlowOk Mq {n with flow:=z4Q n.flow b} (z00 a b)/\z4Q (z4Q n.flow a) (z2s a b)=z4Q (z4Q n.flow b) (z00 a b)/\
 DU_ U (z00 a b) (z0f (exD a) (exD b)).1/\DU_ U (z2s a b) (z0f (exD a) (exD b)).2/\z2U (z0f (exD a) (exD b)).1<=12/\z2U (z0f (exD a) (exD b)).2<=12:=by
 have oa:=fa.old
 have ob:=fb.old
 obtain⟨la,ma⟩:=ha.lens
 obtain⟨lb,mb⟩:=hb.lens
 have na:=y1V us
 have nb:=y1V vs
 obtain⟨xa,ya⟩:=z5U ha.v
 obtain⟨xb,yb⟩:=z5U hb.v
 have sa:=z6j ha.sw
 have sb:=z6j hb.sw
 have P:=z7v ha.v hb.v (ha.dn hU.len) (hb.dn hU.len) (by omega) (by omega)
 obtain⟨_,_,_,v1,v2,w1,w2,o1,o2,_,_⟩:=P
 obtain⟨⟨A1,A2⟩,A3⟩:=y6U (exD a) (exD b)
 have D1:DU_ U (z00 a b) (z0f (exD a) (exD b)).1:=⟨v1,w1,y0s _ _ ha.ex hb.ex⟩
 have D2:DU_ U (z2s a b) (z0f (exD a) (exD b)).2:=⟨v2,w2,y4Z _ _ ha.ex hb.ex⟩
 have len1:(z4Q n.flow a).length=z07 (exD a):=z29 _ _ (by omega)
 have len2:(z4Q n.flow b).length=z07 (exD b):=z29 _ _ (by omega)
 have hv:∀x∈n.flow,VG false x.attrs:=fun x hx=>(hr x hx).2.g
 have M1:=z1h _ (exD a) (exD b) n.flow (qn _) (by omega) (by omega) (y6g (y3c ha.v.1.all (ha.dn hU.len))) (y6g (y3c hb.v.1.all (hb.dn hU.len))) hv
 refine⟨⟨fa.kd,by show z1Q _=(((z4Q n.flow a).length:Nat):Int);omega,fun ht=> ?_,fun t ht x hx=> ?_⟩,⟨fa.kd,by show z1Q _=(((z4Q n.flow b).length:Nat):Int);omega,fun ht=> ?_,fun t ht x hx=> ?_⟩,?_,D1,D2,by omega,by omega⟩
 ·refine x0N v2 ?_
  rw[y3y w2]
  exact(y0B _ _ (by omega) (z5F ha.v (fa.ends ht)) (z5F hb.v (fb.ends ht))).2
 ·obtain⟨t',ht',hx'⟩:=x2T ((A3 x).2 ((y1r w2 _).1 (x36 v2.1.all ht hx)))
  exact(fb.new t' ht' x hx').kd Kp
 ·refine x0N v1 ?_
  rw[y3y w1]
  exact(y0B _ _ (by omega) (z5F ha.v (fa.ends ht)) (z5F hb.v (fb.ends ht))).1
 ·obtain⟨t',ht',hx'⟩:=x2T ((A3 x).1 ((y1r w1 _).1 (x36 v1.1.all ht hx)))
  exact(fa.new t' ht' x hx').kd Kq
 ·have hx:z4Q (z4Q n.flow a) (z2s a b)=z0s (z0f (exD a) (exD b)).2 (z0s (exD a) n.flow):=y26 w2 _
  have hy:z4Q (z4Q n.flow b) (z00 a b)=z0s (z0f (exD a) (exD b)).1 (z0s (exD b) n.flow):=y26 w1 _
  rw[hx,hy];exact M1.1
theorem z2T(x y:List DOp):∀z,z0p x y=some z->∀o,o∈x\/o∈y->o∈z:=by
 induction x,y using z0p.induct with
 |case1=>intro z h o ho;rcases ho with ho|ho<;>cases ho
 |case2 a l ih=>
  intro z h o ho
  rw[z0p,qd] at h
  obtain⟨w,hw,rfl⟩:=h
  rcases ho with ho|ho
  ·rcases qg.1 ho with rfl|ho
   ·simp
   ·exact qU _ (ih w hw o (.inl ho))
  ·cases ho
 |case3 b r ih=>
  intro z h o ho
  rw[z0p,qd] at h
  obtain⟨w,hw,rfl⟩:=h
  rcases ho with ho|ho
  ·cases ho
  ·rcases qg.1 ho with rfl|ho
   ·simp
   ·exact qU _ (ih w hw o (.inr ho))
 |case4 a l b r hab ih=>
  intro z h o ho
  rw[z0p,if_pos hab,qd] at h
  obtain⟨w,hw,rfl⟩:=h
  rcases ho with ho|ho
  ·rcases qg.1 ho with rfl|ho
   ·simp
   ·exact qU _ (ih w hw o (.inl ho))
  ·exact qU _ (ih w hw o (.inr ho))
 |case5 a l b r hab hba ih=>
  intro z h o ho
  rw[z0p,if_neg hab,if_pos hba,qd] at h
  obtain⟨w,hw,rfl⟩:=h
  rcases ho with ho|ho
  ·exact qU _ (ih w hw o (.inl ho))
  ·rcases qg.1 ho with rfl|ho
   ·simp
   ·exact qU _ (ih w hw o (.inr ho))
 |case6 l b r hab hba ih=>
  intro z h o ho
  rw[z0p,if_neg hab,if_neg hba,if_pos rfl,qd] at h
  obtain⟨w,hw,rfl⟩:=h
  rcases ho with ho|ho<;>rcases qg.1 ho with rfl|ho
  ·simp
  ·exact qU _ (ih w hw o (.inl ho))
  ·simp
  ·exact qU _ (ih w hw o (.inr ho))
 |case7 a l b r hab hba hne=>intro z h;rw[z0p,if_neg hab,if_neg hba,if_neg hne] at h;cases h
def x9y(x y:List DOp):Prop:=∀a∈x,∀b∈y,¬ltO a b->¬ltO b a->a=b
theorem y0C(x y:List DOp):x9y x y->(z0p x y).isSome=true:=by
 induction x,y using z0p.induct with
 |case1=>intro _;rw[z0p];rfl
 |case2 a l ih=>intro h;rw[z0p,Option.isSome_map];exact ih (fun p hp q hq=>by cases hq)
 |case3 b r ih=>intro h;rw[z0p,Option.isSome_map];exact ih (fun p hp=>by cases hp)
 |case4 a l b r hab ih=>intro h;rw[z0p,if_pos hab,Option.isSome_map];exact ih (fun p hp=>h p (by simp[hp]))
 |case5 a l b r hab hba ih=>intro h;rw[z0p,if_neg hab,if_pos hba,Option.isSome_map];exact ih (fun p hp q hq=>h p hp q (by simp[hq]))
 |case6 l b r hab hba ih=>intro h;rw[z0p,if_neg hab,if_neg hba,if_pos rfl,Option.isSome_map];exact ih (fun p hp q hq=>h p (by simp[hp]) q (by simp[hq]))
 |case7 a l b r hab hba hne=>intro h;exact absurd (h a (by simp) b (by simp) hab hba) hne
theorem y0D(x y:List DOp):(z0p x y).isSome=true->x.Pairwise ltO->y.Pairwise ltO->x9y x y:=by
 intro h hx hy a ha b hb h1 h2
 obtain⟨z,hz⟩:=zf.1 h
 have hp:=(z5D x y z hz hx hy).2.1
 have ma:=z2T x y z hz a (.inl ha)
 have mb:=z2T x y z hz b (.inr hb)
 obtain⟨i,hi,rfl⟩:=zS ma
 obtain⟨j,hj,rfl⟩:=zS mb
 rcases Nat.lt_trichotomy i j with q|q|q
 ·exact absurd (zB.1 hp i j hi hj q) h1
 ·subst q;rfl
 ·exact absurd (zB.1 hp j i hj hi q) h2
theorem x0Q:∀{l l':List DOp},l.Pairwise ltO->l'.Pairwise ltO->(∀n,n∈l↔n∈l')->l=l'
 | [],[],_,_,_=>rfl
 | [],y::l',_,_,h=>absurd ((h y).2 (by simp)) (by simp)
 |x::l,[],_,_,h=>absurd ((h x).1 (by simp)) (by simp)
 |x::l,y::l',hl,hl',h=>by
  obtain⟨a1,a2⟩:=qV.1 hl
  obtain⟨b1,b2⟩:=qV.1 hl'
  have e:x=y:=by
   rcases qg.1 ((h x).1 (by simp)) with q|q
   ·exact q
   ·rcases qg.1 ((h y).2 (by simp)) with z|z
    ·exact z.symm
    ·exact absurd (z6I (b1 x q) (a1 y z)) (y4o _)
  subst e
  congr 1
  refine x0Q a2 b2 fun n=>⟨fun hn=> ?_,fun hn=> ?_⟩
  ·rcases qg.1 ((h n).1 (by simp[hn])) with q|q
   ·subst q;exact absurd (a1 n hn) (y4o _)
   ·exact q
  ·rcases qg.1 ((h n).2 (by simp[hn])) with q|q
   ·subst q;exact absurd (b1 n hn) (y4o _)
   ·exact q
theorem x0R{d c e:List DOp}(hd:d.Pairwise ltO)(hc:c.Pairwise ltO)(he:e.Pairwise ltO)(h1:(z0p d c).isSome=true)(h2:(z0p d e).isSome=true)(hs:∀x∈c,∀y∈e,x.site≠y.site):
 (z0p ((z0p d c).getD []) e).isSome=true/\(z0p ((z0p d e).getD []) c).isSome=true/\(z0p ((z0p d c).getD []) e).getD []=(z0p ((z0p d e).getD []) c).getD []:=by
 obtain⟨z1,e1⟩:=zf.1 h1
 obtain⟨z2,e2⟩:=zf.1 h2
 obtain⟨m1,p1,_⟩:=z5D d c z1 e1 hd hc
 obtain⟨m2,p2,_⟩:=z5D d e z2 e2 hd he
 have n1:=y0D d c h1 hd hc
 have n2:=y0D d e h2 hd he
 have k1:(z0p z1 e).isSome=true:=y0C _ _ fun a ha b hb q1 q2=>by
  rcases m1 a ha with z|z
  ·exact n2 a z b hb q1 q2
  ·have:=hs a z b hb
   unfold ltO at q1 q2;omega
 have k2:(z0p z2 c).isSome=true:=y0C _ _ fun a ha b hb q1 q2=>by
  rcases m2 a ha with z|z
  ·exact n1 a z b hb q1 q2
  ·have:=hs b hb a z
   unfold ltO at q1 q2;omega
 rw[e1,e2]
 obtain⟨w1,f1⟩:=zf.1 k1
 obtain⟨w2,f2⟩:=zf.1 k2
 refine⟨k1,k2,?_⟩
 show(z0p z1 e).getD []=(z0p z2 c).getD []
 rw[f1,f2]
 obtain⟨a1,a2,_⟩:=z5D z1 e w1 f1 p1 he
 obtain⟨b1,b2,_⟩:=z5D z2 c w2 f2 p2 hc
 refine x0Q a2 b2 fun n=>⟨fun hn=> ?_,fun hn=> ?_⟩
 ·refine z2T z2 c w2 f2 n ?_
  rcases a1 n hn with q|q
  ·rcases m1 n q with z|z
   ·exact .inl (z2T d e z2 e2 n (.inl z))
   ·exact .inr z
  ·exact .inl (z2T d e z2 e2 n (.inr q))
 ·refine z2T z1 e w1 f1 n ?_
  rcases b1 n hn with q|q
  ·rcases m2 n q with z|z
   ·exact .inl (z2T d c z1 e1 n (.inl z))
   ·exact .inr z
  ·exact .inl (z2T d c z1 e1 n (.inr q))
def K3(o:EOp):Prop:=o.kind=1\/o.kind=2\/o.kind=4
theorem K3.ne{o:EOp}(h:K3 o):o.kind≠0:=by unfold K3 at h;omega
theorem z3K.kd{M M':Int->Option Node}(h:Kd M M'){n:Node}{o:EOp}(q:z3K M n o):z3K M' n o:=⟨fun z=>(q.1 z).same h rfl rfl,q.2⟩
theorem z9A{l:List Node}(hs:z1i l){p q p' q':EOp}(kp:K3 p)(kq:K3 q)(kp':K3 p')(kq':K3 q')(np:p'.node=p.node)(nq:q'.node=q.node)(hp:z1p l p=0)(hq:z1p l q=0)
 (hne:p.node≠q.node->p'=p/\q'=q)
 (hsame:p.node=q.node->∀n,atN l p.node=some n->z3K (atN l) n p->z3K (atN l) n q->z3K (atN (z0W l p)) (z4L n p) q'/\z3K (atN (z0W l q)) (z4L n q) p'/\z4L (z4L n p) q'=z4L (z4L n q) p'):
 z1p (z0W l p) q'=0/\z1p (z0W l q) p'=0/\z0W (z0W l p) q'=z0W (z0W l q) p':=by
 obtain⟨n1,a1,b1⟩:=(z4N hs kp).1 hp
 obtain⟨n2,a2,b2⟩:=(z4N hs kq).1 hq
 obtain⟨sp,fp⟩:=z3J hs kp.ne hp
 obtain⟨sq,fq⟩:=z3J hs kq.ne hq
 have Kp:=z5W hs hp
 have Kq:=z5W hs hq
 by_cases e:p.node=q.node
 ·have e12:n2=n1:=by rw[<-e,a1] at a2;injection a2 with a2;exact a2.symm
  subst e12
  obtain⟨s1,s2,s3⟩:=hsame e n2 a1 b1 b2
  have e1:z1p (z0W l p) q'=0:=(z4N sp kq').2 ⟨_,by rw[nq,<-e,fp,if_pos rfl,a1];rfl,s1⟩
  have e2:z1p (z0W l q) p'=0:=(z4N sq kp').2 ⟨_,by rw[np,fq,if_pos e,a1];rfl,s2⟩
  refine⟨e1,e2,y6Q (z3J sp kq'.ne e1).1 (z3J sq kp'.ne e2).1 fun k=> ?_⟩
  rw[(z3J sp kq'.ne e1).2 k,(z3J sq kp'.ne e2).2 k,fp,fq,np,nq,<-e]
  by_cases z:k=p.node
  ·rw[if_pos z,if_pos z,if_pos z,if_pos z,z,a1]
   show some (z4L (z4L n2 p) q')=some (z4L (z4L n2 q) p')
   rw[s3]
  ·rw[if_neg z,if_neg z,if_neg z,if_neg z]
 ·obtain⟨rfl,rfl⟩:=hne e
  have e1:z1p (z0W l p') q'=0:=(z4N sp kq').2 ⟨n2,by rw[fp,if_neg (fun z=>e z.symm)];exact a2,b2.kd Kp⟩
  have e2:z1p (z0W l q') p'=0:=(z4N sq kp').2 ⟨n1,by rw[fq,if_neg e];exact a1,b1.kd Kq⟩
  refine⟨e1,e2,y6Q (z3J sp kq'.ne e1).1 (z3J sq kp'.ne e2).1 fun k=> ?_⟩
  rw[(z3J sp kq'.ne e1).2 k,(z3J sq kp'.ne e2).2 k,fp,fq]
  by_cases z:k=p'.node
  ·have z2:¬k=q'.node:=fun w=>e (z.symm.trans w)
   rw[if_neg z2,if_pos z,if_pos z,if_neg z2]
  ·rw[if_neg z,if_neg z]
theorem z7C{l:List Node}(hs:z1i l){p q:EOp}(kp:p.kind=0)(kq:K3 q)(hp:z1p l p=0)(hq:z1p l q=0):
 z1p (z0W l p) q=0/\z1p (z0W l q) p=0/\z0W (z0W l p) q=z0W (z0W l q) p:=by
 obtain⟨n2,a2,b2⟩:=(z4N hs kq).1 hq
 obtain⟨hn,r1⟩:=(z6q hs kp).1 hp
 obtain⟨_,_,sp,fp⟩:=z5k hs kp hp
 obtain⟨sq,fq⟩:=z3J hs kq.ne hq
 have Kp:=z5W hs hp
 have Kq:=z5W hs hq
 have e:q.node≠p.nw.id:=fun z=>by rw[z,hn] at a2;cases a2
 have e1:z1p (z0W l p) q=0:=(z4N sp kq).2 ⟨n2,by rw[fp,if_neg e];exact a2,b2.kd Kp⟩
 have e2:z1p (z0W l q) p=0:=(z6q sq kp).2 ⟨by rw[fq,if_neg (fun z=>e z.symm)];exact hn,fun r hr=>(r1 r hr).kd Kq⟩
 refine⟨e1,e2,y6Q (z3J sp kq.ne e1).1 (z5k sq kp e2).2.2.1 fun k=> ?_⟩
 rw[(z3J sp kq.ne e1).2 k,(z5k sq kp e2).2.2.2 k,fp,fq]
 by_cases z:k=q.node
 ·have z2:¬k=p.nw.id:=fun w=>e (z.symm.trans w)
  rw[if_pos z,if_neg z2,if_neg z2,if_pos z]
 ·rw[if_neg z,if_neg z]
theorem x2Z{l:List Node}(hs:z1i l){p q:EOp}(kp:p.kind=0)(kq:q.kind=0)(hp:z1p l p=0)(hq:z1p l q=0)(e:p.nw.id≠q.nw.id):
 z1p (z0W l p) q=0/\z1p (z0W l q) p=0/\z0W (z0W l p) q=z0W (z0W l q) p:=by
 obtain⟨hn,r1⟩:=(z6q hs kp).1 hp
 obtain⟨hm,r2⟩:=(z6q hs kq).1 hq
 obtain⟨_,_,sp,fp⟩:=z5k hs kp hp
 obtain⟨_,_,sq,fq⟩:=z5k hs kq hq
 have Kp:=z5W hs hp
 have Kq:=z5W hs hq
 have e1:z1p (z0W l p) q=0:=(z6q sp kq).2 ⟨by rw[fp,if_neg (fun z=>e z.symm)];exact hm,fun r hr=>(r2 r hr).kd Kp⟩
 have e2:z1p (z0W l q) p=0:=(z6q sq kp).2 ⟨by rw[fq,if_neg e];exact hn,fun r hr=>(r1 r hr).kd Kq⟩
 refine⟨e1,e2,y6Q (z5k sp kq e1).2.2.1 (z5k sq kp e2).2.2.1 fun k=> ?_⟩
 rw[(z5k sp kq e1).2.2.2 k,(z5k sq kp e2).2.2.2 k,fp,fq]
 by_cases z:k=q.nw.id
 ·have z2:¬k=p.nw.id:=fun w=>e (w.symm.trans z)
  rw[if_pos z,if_neg z2,if_pos z]
 ·rw[if_neg z,if_neg z]
end Go.Ch
end
section
namespace Go.Ch
open Go Go.Ab
variable {U:US}
inductive Gd (U:US) (s:Int):EOp->Prop
 |N (n:Node) (hg:NG U n) (hz:NZ 10 n) (hv:z0X n=0) (hi:s*65536<=n.id/\n.id< (s+1)*65536):Gd U s (opN n)
 |A (k:Int) (c:List Attr) (hk:1<=k/\k<=1073741824) (hc:VU U true c):Gd U s (opA k c)
 |F (k:Int) (st:List DStep) (us:List DU) (hk:1<=k/\k<=1073741824) (hd:DU_ U st us) (ha:z2U us<=12):Gd U s (opF k st)
 |D (k:Int) (c:List DOp) (hk:1<=k/\k<=1073741824) (hc:z2E c 0=0) (hz:∀o∈c,o.plc.size<=100/\o.nm.size<=100/\o.vl.size<=100) (hs:∀o∈c,o.site=s) (hl:c.length<=1):Gd U s (opD k c)
def z1j(p q:EOp):EOp×EOp:=
 if p.kind≠q.kind\/p.kind=0\/p.node≠q.node then(p,q)
 else if p.kind=1 then({p with attrs:=fm z3N p.attrs q.attrs},q)
 else if p.kind=2 then({p with steps:=z00 p.steps q.steps},{q with steps:=z2s p.steps q.steps})
 else(p,q)
theorem z25{p q:EOp}(h:p.kind≠q.kind\/p.kind=0\/p.node≠q.node):z1j p q=(p,q):=if_pos h
theorem x5G(k:Int)(c e:List Attr):z1j (opA k c) (opA k e)=(opA k (fm z3N c e),opA k e):=by
 unfold z1j
 rw[if_neg (by rintro(h|h|h);exact h rfl;exact absurd (show(1:Int)=0 from h) (by decide);exact h rfl),if_pos (show(opA k c).kind=1 from rfl)];rfl
theorem x5H(k:Int)(a b:List DStep):z1j (opF k a) (opF k b)=(opF k (z00 a b),opF k (z2s a b)):=by
 unfold z1j
 rw[if_neg (by rintro(h|h|h);exact h rfl;exact absurd (show(2:Int)=0 from h) (by decide);exact h rfl),if_neg (show¬(opF k a).kind=1 from(by decide:¬(2:Int)=1)),if_pos (show(opF k a).kind=2 from rfl)];rfl
theorem x5I(k j:Int)(a b:List DOp):z1j (opD k a) (opD j b)=(opD k a,opD j b):=by
 unfold z1j
 split
 ·rfl
 ·rw[if_neg (show¬(opD k a).kind=1 from(by decide:¬(4:Int)=1)),if_neg (show¬(opD k a).kind=2 from(by decide:¬(4:Int)=2))]
structure Dia(U:US)(s t:Int)(l:List Node)(p q:EOp):Prop where
 g1:Gd U s (z1j p q).1
 g2:Gd U t (z1j p q).2
 e1:z1p (z0W l p) (z1j p q).2=0
 e2:z1p (z0W l q) (z1j p q).1=0
 eq:z0W (z0W l p) (z1j p q).2=z0W (z0W l q) (z1j p q).1
variable {s t:Int} {l:List Node} {p q:EOp}
theorem z2H(he:z1j p q=(p,q))(gp:Gd U s p)(gq:Gd U t q)(h:z1p (z0W l p) q=0/\z1p (z0W l q) p=0/\z0W (z0W l p) q=z0W (z0W l q) p):Dia U s t l p q:=by
 refine⟨?_,?_,?_,?_,?_⟩<;>rw[he]
 ·exact gp
 ·exact gq
 ·exact h.1
 ·exact h.2.1
 ·exact h.2.2
theorem z3L{n:Node}{o:EOp}(h:o.kind=1):z4L n o={n with attrs:=fm z2e n.attrs o.attrs}:=by unfold z4L;rw[if_pos h]
theorem z4j{n:Node}{o:EOp}(h:o.kind=2):z4L n o={n with flow:=z4Q n.flow o.steps}:=by unfold z4L;rw[if_neg (by omega),if_pos h]
theorem z4k{n:Node}{o:EOp}(h:o.kind=4):z4L n o={n with draw:=(z0p n.draw o.draw).getD []}:=by unfold z4L;rw[if_neg (by omega),if_neg (by omega),if_neg (by omega)]
theorem y75{M Mp Mq:Int->Option Node}(Kp:Kd M Mp)(Kq:Kd M Mq)(kp:K3 p)(kq:K3 q)(hk:p.kind≠q.kind){n:Node}(hp:z3K M n p)(hq:z3K M n q):
 z3K Mp (z4L n p) q/\z3K Mq (z4L n q) p/\z4L (z4L n p) q=z4L (z4L n q) p:=by
 have gen:∀{M M':Int->Option Node} {p q:EOp},Kd M M'->K3 p->p.kind≠q.kind->z3K M n q->z3K M' (z4L n p) q:=fun {M M' p q} K kp hk h=>by
  have hi:=(x0I n p).2
  refine⟨fun z=>(h.1 z).same K hi ?_,fun z=> ?_⟩
  ·rcases kp with e|e|e
   ·rw[z3L e]
   ·exact absurd (e.trans z.symm) hk
   ·rw[z4k e]
  ·rw[hi]
   have:(z4L n p).draw=n.draw:=by
    rcases kp with e|e|e
    ·rw[z3L e]
    ·rw[z4j e]
    ·exact absurd (e.trans z.symm) hk
   rw[this];exact h.2 z
 refine⟨gen Kp kp hk hq,gen Kq kq (Ne.symm hk) hp,?_⟩
 rcases kp with e|e|e<;>rcases kq with f|f|f
 ·exact absurd (e.trans f.symm) hk
 ·rw[z3L e,z4j f,z4j f,z3L e]
 ·rw[z3L e,z4k f,z4k f,z3L e]
 ·rw[z4j e,z3L f,z3L f,z4j e]
 ·exact absurd (e.trans f.symm) hk
 ·rw[z4j e,z4k f,z4k f,z4j e]
 ·rw[z4k e,z3L f,z3L f,z4k e]
 ·rw[z4k e,z4j f,z4j f,z4k e]
 ·exact absurd (e.trans f.symm) hk
theorem z4l(hs:z1i l)(kp:K3 p)(kq:K3 q)(hk:p.kind≠q.kind)(hp:z1p l p=0)(hq:z1p l q=0)(gp:Gd U s p)(gq:Gd U t q):Dia U s t l p q:=
 z2H (z25 (.inl hk)) gp gq (z9A hs kp kq kp kq rfl rfl hp hq (fun _=>⟨rfl,rfl⟩) (fun e n hn h1 h2=>y75 (z5W hs hp) (z5W hs hq) kp kq hk h1 h2))
theorem z9B(hs:z1i l)(kp:K3 p)(kq:K3 q)(hk:p.node≠q.node)(hp:z1p l p=0)(hq:z1p l q=0)(gp:Gd U s p)(gq:Gd U t q):Dia U s t l p q:=
 z2H (z25 (.inr (.inr hk))) gp gq (z9A hs kp kq kp kq rfl rfl hp hq (fun _=>⟨rfl,rfl⟩) (fun e=>absurd e hk))
structure NdB(U:US)(n:Node):Prop where
 g:NG U n
 fl:n.flow.length<=100000
 dr:n.draw.Pairwise ltO
theorem dia(hU:UB U)(hs:z1i l)(hn:∀n∈l,NdB U n)(hst:s≠t)(gp:Gd U s p)(gq:Gd U t q)(hp:z1p l p=0)(hq:z1p l q=0):Dia U s t l p q:=by
 have gp0:=gp
 have gq0:=gq
 have mem:∀{k n},atN l k=some n->NdB U n:=fun h=>hn _ ((z22 hs).1 h).1
 cases gp with
 |N n hg hz hv hi=>
  cases gq with
  |N m hg2 hz2 hv2 hi2=>exact z2H (z25 (.inr (.inl rfl))) gp0 gq0 (x2Z hs rfl rfl hp hq (fun e=>by have e:n.id=m.id:=e;omega))
  |A k c hk hc=>exact z2H (z25 (.inr (.inl rfl))) gp0 gq0 (z7C hs rfl (.inl rfl) hp hq)
  |F k st us hk hd ha=>exact z2H (z25 (.inr (.inl rfl))) gp0 gq0 (z7C hs rfl (.inr (.inl rfl)) hp hq)
  |D k c hk hc hz hs' hl=>exact z2H (z25 (.inr (.inl rfl))) gp0 gq0 (z7C hs rfl (.inr (.inr rfl)) hp hq)
 |A k c hk hc=>
  cases gq with
  |N m hg2 hz2 hv2 hi2=>
   obtain⟨a,b,c⟩:=z7C (q:=opA k c) hs (show(opN m).kind=0 from rfl) (.inl rfl) hq hp
   exact z2H (z25 (.inl (show(1:Int)≠0 by decide))) gp0 gq0 ⟨b,a,c.symm⟩
  |A j e hj he=>
   by_cases hkj:k=j
   ·subst hkj
    have r:=z9A (p:=opA k c) (q:=opA k e) (p':=opA k (fm z3N c e)) (q':=opA k e) hs (.inl rfl) (.inl rfl) (.inl rfl) (.inl rfl) rfl rfl hp hq (fun z=>absurd rfl z) (fun _ n hat _ _=>by
     refine⟨⟨fun z=>absurd (show(1:Int)=2 from z) (by decide),fun z=>absurd (show(1:Int)=4 from z) (by decide)⟩,⟨fun z=>absurd (show(1:Int)=2 from z) (by decide),fun z=>absurd (show(1:Int)=4 from z) (by decide)⟩,?_⟩
     rw[z3L (o:=opA k c) rfl,z3L (o:=opA k e) rfl,z3L (o:=opA k e) rfl,z3L (o:=opA k (fm z3N c e)) rfl]
     have:=z98 y7r (mem hat).g.at1.g hc.g he.g
     show({n with attrs:=fm z2e (fm z2e n.attrs c) e}:Node)={n with attrs:=fm z2e (fm z2e n.attrs e) (fm z3N c e)}
     rw[this])
    refine⟨?_,?_,?_,?_,?_⟩<;>rw[x5G]
    ·exact .A k _ hk (x15 y7X hc he)
    ·exact gq0
    ·exact r.1
    ·exact r.2.1
    ·exact r.2.2
   ·exact z9B hs (.inl rfl) (.inl rfl) hkj hp hq gp0 gq0
  |F j st us hj hd ha=>exact z4l hs (.inl rfl) (.inr (.inl rfl)) (show(1:Int)≠2 by decide) hp hq gp0 gq0
  |D j c' hj hc' hz hs' hl=>exact z4l hs (.inl rfl) (.inr (.inr rfl)) (show(1:Int)≠4 by decide) hp hq gp0 gq0
 |F k st us hk hd ha=>
  cases gq with
  |N m hg2 hz2 hv2 hi2=>
   obtain⟨a,b,c⟩:=z7C (q:=opF k st) hs (show(opN m).kind=0 from rfl) (.inr (.inl rfl)) hq hp
   exact z2H (z25 (.inl (show(2:Int)≠0 by decide))) gp0 gq0 ⟨b,a,c.symm⟩
  |A j e hj he=>exact z4l hs (.inr (.inl rfl)) (.inl rfl) (show(2:Int)≠1 by decide) hp hq gp0 gq0
  |F j st' us' hj hd' ha'=>
   by_cases hkj:k=j
   ·subst hkj
    obtain⟨n,hat,hok⟩:=(z4N hs (o:=opF k st) (.inr (.inl rfl))).1 hp
    obtain⟨n2,hat2,hok2⟩:=(z4N hs (o:=opF k st') (.inr (.inl rfl))).1 hq
    have hnn:n2=n:=by
     have h2:atN l k=some n2:=hat2
     have h1:atN l k=some n:=hat
     rw[h1] at h2;injection h2 with h2;exact h2.symm
    subst hnn
    have hb:=mem hat
    have fd:=x2Y hU (z5W hs hp) (z5W hs hq) hd hd' (hok.1 rfl) (hok2.1 rfl) hb.g.fl hb.fl ha ha'
    obtain⟨f1,f2,f3,f4,f5,f6,f7⟩:=fd
    have r:=z9A (p:=opF k st) (q:=opF k st') (p':=opF k (z00 st st')) (q':=opF k (z2s st st')) hs (.inr (.inl rfl)) (.inr (.inl rfl)) (.inr (.inl rfl)) (.inr (.inl rfl)) rfl rfl hp hq (fun z=>absurd rfl z) (fun _ m hm _ _=>by
     have em:m=n2:=by
      have h2:atN l k=some m:=hm
      have h1:atN l k=some n2:=hat
      rw[h1] at h2;injection h2 with h2;exact h2.symm
     subst em
     rw[z4j (o:=opF k st) rfl,z4j (o:=opF k st') rfl]
     refine⟨⟨fun _=>f1,fun z=>absurd (show(2:Int)=4 from z) (by decide)⟩,⟨fun _=>f2,fun z=>absurd (show(2:Int)=4 from z) (by decide)⟩,?_⟩
     rw[z4j (o:=opF k (z2s st st')) rfl,z4j (o:=opF k (z00 st st')) rfl]
     show({m with flow:=z4Q (z4Q m.flow st) (z2s st st')}:Node)={m with flow:=z4Q (z4Q m.flow st') (z00 st st')}
     rw[f3])
    refine⟨?_,?_,?_,?_,?_⟩<;>rw[x5H]
    ·exact .F k _ _ hk f4 f6
    ·exact .F k _ _ hk f5 f7
    ·exact r.1
    ·exact r.2.1
    ·exact r.2.2
   ·exact z9B hs (.inr (.inl rfl)) (.inr (.inl rfl)) hkj hp hq gp0 gq0
  |D j c' hj hc' hz hs' hl=>exact z4l hs (.inr (.inl rfl)) (.inr (.inr rfl)) (show(2:Int)≠4 by decide) hp hq gp0 gq0
 |D k c hk hc hz hs' hl=>
  cases gq with
  |N m hg2 hz2 hv2 hi2=>
   obtain⟨a,b,c⟩:=z7C (q:=opD k c) hs (show(opN m).kind=0 from rfl) (.inr (.inr rfl)) hq hp
   exact z2H (z25 (.inl (show(4:Int)≠0 by decide))) gp0 gq0 ⟨b,a,c.symm⟩
  |A j e hj he=>exact z4l hs (.inr (.inr rfl)) (.inl rfl) (show(4:Int)≠1 by decide) hp hq gp0 gq0
  |F j st us hj hd ha=>exact z4l hs (.inr (.inr rfl)) (.inr (.inl rfl)) (show(4:Int)≠2 by decide) hp hq gp0 gq0
  |D j e hj he hz2 hs2 hl2=>
   by_cases hkj:k=j
   ·subst hkj
    refine z2H (x5I _ _ _ _) gp0 gq0 (z9A hs (.inr (.inr rfl)) (.inr (.inr rfl)) (.inr (.inr rfl)) (.inr (.inr rfl)) rfl rfl hp hq (fun z=>absurd rfl z) (fun _ n hat h1 h2=> ?_))
    obtain⟨u1,u2⟩:=h1.2 rfl
    obtain⟨v1,v2⟩:=h2.2 rfl
    obtain⟨w1,w2,w3⟩:=x0R (mem hat).dr (z6o.1 hc).2 (z6o.1 he).2 u2 v2 (fun x hx y hy=>by rw[hs' x hx,hs2 y hy];exact hst)
    rw[z4k (o:=opD k c) rfl,z4k (o:=opD k e) rfl]
    refine⟨⟨fun z=>absurd (show(4:Int)=2 from z) (by decide),fun _=>⟨u1,w1⟩⟩,⟨fun z=>absurd (show(4:Int)=2 from z) (by decide),fun _=>⟨u1,w2⟩⟩,?_⟩
    rw[z4k (o:=opD k e) rfl,z4k (o:=opD k c) rfl]
    show({n with draw:=(z0p ((z0p n.draw c).getD []) e).getD []}:Node)={n with draw:=(z0p ((z0p n.draw e).getD []) c).getD []}
    rw[w3]
   ·exact z9B hs (.inr (.inr rfl)) (.inr (.inr rfl)) hkj hp hq gp0 gq0
theorem VD.ins{l:List Node}(h:VD l){n:Node}(hn:z0X n=0)(hh:z14 l n.id=false)(hr:∀r∈z2x n,∃m∈l,m.id=r/\z06 n.kind m.kind=true):VD (y3Q l n):=by
 have h0:=h.ne
 obtain⟨s1,s2,s3⟩:=z2w l n.id
 have hid:=(z3b hn).1
 have hne:n.id≠1:=fun e=>by
  have:z14 l n.id=true:=h.has.2 ⟨l.getD 0 default,z0j h0,h.one.trans e.symm⟩
  rw[hh] at this;cases this
 have hl1:1<=z0x l n.id:=by
  apply qc;intro q
  have:=s3 (by omega)
  rw[show z0x l n.id=0 by omega,h.one] at this
  omega
 have hg0:(y3Q l n).getD 0 default=l.getD 0 default:=by
  unfold y3Q
  rw[qe,qw (by rw[qB];omega),List.getElem?_take_of_lt (by omega),qe]
 have key:∀(k r:Int),(∃m∈l,m.id=r/\z06 k m.kind=true)->∃m∈y3Q l n,m.id=r/\z06 k m.kind=true:=by
  rintro k r ⟨m,hm,q⟩;exact⟨m,z5E.2 (.inr hm),q⟩
 refine⟨by unfold y3Q;simp;omega,by rw[hg0];exact h.one,z9y h.srt hh,fun m hm=> ?_,fun m hm r hr'=> ?_⟩
 ·rcases z5E.1 hm with rfl|q
  ·exact hn
  ·exact h.node m q
 ·rcases z5E.1 hm with rfl|q
  ·exact key _ _ (hr r hr')
  ·exact key _ _ (h.refs m q r hr')
theorem GP.nb{m:Nat}(h:GP U m l)(hm:m<=100000):∀n∈l,NdB U n:=fun n hn=>⟨(h.nd n hn).1,qP (h.nd n hn).2.fl hm,(z6o.1 (z6p (h.vd.node n hn))).2⟩
theorem y1W{m:Nat}(h:GP U m l)(hm:10<=m){o:EOp}(g:Gd U s o)(h0:z1p l o=0):GP U (m+12) (z0W l o)/\(z0W l o).length<=l.length+1:=by
 cases g with
 |N n hg hz hv hi=>
  obtain⟨hh,e,_,_⟩:=z5k h.vd.srt (o:=opN n) rfl h0
  have hr:=((z6q h.vd.srt (o:=opN n) rfl).1 h0).2
  have hh:z14 l n.id=false:=hh
  have e:z0W l (opN n)=y3Q l n:=e
  rw[e]
  refine⟨⟨h.vd.ins hv hh fun r hr'=> ?_,fun x hx=> ?_⟩,?_⟩
  ·obtain⟨x,hx,q⟩:=hr r hr'
   obtain⟨a,b⟩:=(z22 h.vd.srt).1 hx
   exact⟨x,a,b,q⟩
  ·rcases z5E.1 hx with rfl|q
   ·exact⟨hg,hz.mono (by omega)⟩
   ·exact⟨(h.nd x q).1,(h.nd x q).2.mono (by omega)⟩
  ·unfold y3Q;rw[qf,qi,qB,qR];omega
 |A k c hk hc=>exact⟨(x7f h hc h0).mono (by omega),by rw[(y1P (o:=opA k c) (show(1:Int)≠0 by decide) h0).1];omega⟩
 |F k st us hk hd ha=>
  have hl:=hd.lens
  have hn:=y1V us
  exact⟨x2V h hd (q:=12) (by omega) h0,by rw[(y1P (o:=opF k st) (show(2:Int)≠0 by decide) h0).1];omega⟩
 |D k c hk hc hz hs hl=>exact⟨(x3X h hz hc h0).mono (by omega),by rw[(y1P (o:=opD k c) (show(4:Int)≠0 by decide) h0).1];omega⟩
def z5m:EOp->List EOp->EOp×List EOp
 |p,[]=>(p,[])
 |p,q::qs=>((z5m (z1j p q).1 qs).1,(z1j p q).2::(z5m (z1j p q).1 qs).2)
def z5M:List EOp->List EOp->List EOp×List EOp
 | [],qs=>([],qs)
 |p::ps,qs=>((z5m p qs).1::(z5M ps (z5m p qs).2).1,(z5M ps (z5m p qs).2).2)
theorem z7a{l:List Node}{o:EOp}{c:List EOp}:z3X l (o::c)=0↔z1p l o=0/\z3X (z0W l o) c=0:=by
 rw[z3X]
 split
 ·rename_i h;exact⟨fun q=>absurd q h,fun q=>absurd q.1 h⟩
 ·rename_i h;exact⟨fun q=>⟨qc h,q⟩,fun q=>q.2⟩
def y76(U:US)(s t:Int)(p q:EOp):Prop:=Gd U s p/\Gd U t q/\(p.kind=2->q.kind=2->p.node=q.node->z1Q p.steps=z1Q q.steps/\z2c p.steps+z2c q.steps<=300000)
def x7p(U:US)(s t:Int):EOp->List EOp->Prop
 |_,[]=>True
 |p,q::qs=>y76 U s t p q/\x7p U s t (z1j p q).1 qs
def x6k(U:US)(s t:Int):List EOp->List EOp->Prop
 | [],_=>True
 |p::ps,qs=>x7p U s t p qs/\x6k U s t ps (z5m p qs).2
theorem x20(hs:z1i l)(hn:∀n∈l,NdB U n)(gp:Gd U s p)(gq:Gd U t q)(hp:z1p l p=0)(hq:z1p l q=0):y76 U s t p q:=by
 refine⟨gp,gq,fun k1 k2 e=> ?_⟩
 obtain⟨n,h1,f1⟩:=(z4N hs (.inr (.inl k1))).1 hp
 obtain⟨m,h2,f2⟩:=(z4N hs (.inr (.inl k2))).1 hq
 rw[<-e,h1] at h2;injection h2 with h2;subst h2
 have o1:=(f1.1 k1).old
 have o2:=(f2.1 k2).old
 have hl:=(hn n ((z22 hs).1 h1).1).fl
 have key:∀{s:Int} {o:EOp},Gd U s o->o.kind=2->z2c o.steps<=z1Q o.steps+12:=fun g hk=>by
  cases g with
  |N n=>exact absurd (show(0:Int)=2 from hk) (by decide)
  |A k c=>exact absurd (show(1:Int)=2 from hk) (by decide)
  |D k c=>exact absurd (show(4:Int)=2 from hk) (by decide)
  |F k st us hk hd ha=>
   have hl:=hd.lens
   have:=y1V us
   show z2c st<=z1Q st+12
   omega
 have a:=key gp k1
 have b:=key gq k2
 exact⟨o1.trans o2.symm,by omega⟩
theorem x37(hU:UB U)(hst:s≠t):∀(qs:List EOp) {l:List Node} {m:Nat} {p:EOp},GP U m l->10<=m->m+12*(qs.length+1)<=90000->Gd U s p->(∀q∈qs,Gd U t q)->z1p l p=0->z3X l qs=0->
 Gd U s (z5m p qs).1/\(∀q∈(z5m p qs).2,Gd U t q)/\(z5m p qs).2.length=qs.length/\x7p U s t p qs/\z3X (z0W l p) (z5m p qs).2=0/\z1p (z3e l qs) (z5m p qs).1=0/\z3e (z0W l p) (z5m p qs).2=z0W (z3e l qs) (z5m p qs).1
 | [],l,m,p,h,hm,hb,gp,_,hp,_=>⟨gp,fun q hq=>(by cases hq),rfl,trivial,rfl,hp,rfl⟩
 |q::qs,l,m,p,h,hm,hb,gp,gq,hp,hq=>by
  simp only[qi] at hb
  obtain⟨q1,q2⟩:=z7a.1 hq
  have nb:=h.nb (by omega)
  have g0:=gq q (by simp)
  have d:=dia hU h.vd.srt nb hst gp g0 hp q1
  obtain⟨i1,i2,i3,i4,i5,i6,i7⟩:=x37 hU hst qs (y1W h hm g0 q1).1 (by omega) (by omega) d.g1 (fun x hx=>gq x (by simp[hx])) d.e2 q2
  refine⟨i1,fun x hx=> ?_,by show _+1=_+1;rw[i3],⟨x20 h.vd.srt nb gp g0 hp q1,i4⟩,z7a.2 ⟨d.e1,?_⟩,i6,?_⟩
  ·rcases qg.1 hx with rfl|hx
   ·exact d.g2
   ·exact i2 x hx
  ·rw[d.eq];exact i5
  ·show z3e (z0W (z0W l p) (z1j p q).2) (z5m (z1j p q).1 qs).2=_
   rw[d.eq];exact i7
theorem x38(hU:UB U)(hst:s≠t):∀(ps:List EOp) {l:List Node} {m:Nat} {qs:List EOp},GP U m l->10<=m->m+12*(ps.length+qs.length+1)<=90000->(∀p∈ps,Gd U s p)->(∀q∈qs,Gd U t q)->z3X l ps=0->z3X l qs=0->
 (∀p∈(z5M ps qs).1,Gd U s p)/\(∀q∈(z5M ps qs).2,Gd U t q)/\((z5M ps qs).1.length=ps.length/\(z5M ps qs).2.length=qs.length)/\x6k U s t ps qs/\z3X (z3e l ps) (z5M ps qs).2=0/\z3X (z3e l qs) (z5M ps qs).1=0/\z3e (z3e l ps) (z5M ps qs).2=z3e (z3e l qs) (z5M ps qs).1
 | [],l,m,qs,h,hm,hb,_,gq,_,hq=>⟨fun p hp=>(by cases hp),gq,⟨rfl,rfl⟩,trivial,hq,rfl,rfl⟩
 |p::ps,l,m,qs,h,hm,hb,gp,gq,hp,hq=>by
  simp only[qi] at hb
  obtain⟨p1,p2⟩:=z7a.1 hp
  have g0:=gp p (by simp)
  obtain⟨r1,r2,r3,r4,r5,r6,r7⟩:=x37 hU hst qs h hm (by omega) g0 gq p1 hq
  obtain⟨i1,i2,⟨i3,i3'⟩,i4,i5,i6,i7⟩:=x38 hU hst ps (qs:=(z5m p qs).2) (y1W h hm g0 p1).1 (by omega) (by rw[r3];omega) (fun x hx=>gp x (by simp[hx])) r2 p2 r5
  refine⟨fun x hx=> ?_,i2,⟨by show _+1=_+1;rw[i3],i3'.trans r3⟩,⟨r4,i4⟩,i5,z7a.2 ⟨r6,?_⟩,?_⟩
  ·rcases qg.1 hx with rfl|hx
   ·exact r1
   ·exact i1 x hx
  ·rw[<-r7];exact i6
  ·show z3e (z3e (z0W l p) ps) _=z3e (z0W (z3e l qs) (z5m p qs).1) _
   rw[<-r7];exact i7
end Go.Ch
end
section
namespace Go.Ch
open Go Go.Ab
variable {U:US} {s t:Int}
theorem x9z{l:List EOp}{i:Nat}(h:i<l.length):l.getD i default=l[i]:=by simp[List.getD,qb h]
theorem x21{l:List EOp}{i:Nat}(h:i<l.length):l.take (i+1)=l.take i++[l.getD i default]:=by rw[qz h,x9z h]
theorem x7q{l:List EOp}{i:Nat}(h:i<l.length):l.drop i=l.getD i default::l.drop (i+1):=by rw[zi h,x9z h]
theorem z6z{a b:List EOp}{x y:EOp}{i:Nat}(h:a.length=i):(a++x::b).set i y=a++y::b:=by
 rw[List.set_append_right _ _ (by omega),h,Nat.sub_self];rfl
theorem x39{a b:List EOp}{x:EOp}{i:Nat}(h:a.length=i):(a++x::b).getD i default=x:=by
 rw[qe,qG (by omega),h,Nat.sub_self];rfl
theorem z9C:∀(xs:List EOp) (p q:EOp),z5m p (xs++[q])=((z1j (z5m p xs).1 q).1,(z5m p xs).2++[(z1j (z5m p xs).1 q).2])
 | [],p,q=>rfl
 |x::xs,p,q=>by
  rw[qy,z5m,z9C xs];rfl
theorem z8z:∀(xs:List EOp) (p:EOp),(z5m p xs).2.length=xs.length
 | [],p=>rfl
 |x::xs,p=>by rw[z5m];show(z5m _ xs).2.length+1=_;rw[z8z xs];rfl
theorem z9D:∀(xs:List EOp) (p:EOp) (qs:List EOp),z5M (xs++[p]) qs=((z5M xs qs).1++[(z5m p (z5M xs qs).2).1],(z5m p (z5M xs qs).2).2)
 | [],p,qs=>rfl
 |x::xs,p,qs=>by
  rw[qy,z5M,z9D xs];rfl
theorem z5G:∀(xs qs:List EOp),(z5M xs qs).1.length=xs.length/\(z5M xs qs).2.length=qs.length
 | [],qs=>⟨rfl,rfl⟩
 |x::xs,qs=>by
  obtain⟨a,b⟩:=z5G xs (z5m x qs).2
  exact⟨by rw[z5M];show(z5M xs _).1.length+1=_;rw[a];rfl,by rw[z5M];show(z5M xs _).2.length=_;rw[b,z8z]⟩
def y8p(ps qs:List EOp)(i:Nat):List EOp:=(z5M (ps.take i) qs).1++ps.drop i
def y3T(ps qs:List EOp)(i:Nat):List EOp:=(z5M (ps.take i) qs).2
def x0S(p:EOp)(Q:List EOp)(k:Nat):EOp:=(z5m p (Q.take k)).1
def x0T(p:EOp)(Q:List EOp)(k:Nat):List EOp:=(z5m p (Q.take k)).2++Q.drop k
variable {ps qs Q:List EOp} {p:EOp} {i k:Nat}
theorem x22(h:ps.length<=i):y8p ps qs i=(z5M ps qs).1:=by unfold y8p;rw[qp h,qM h,qQ]
theorem x23(h:ps.length<=i):y3T ps qs i=(z5M ps qs).2:=by unfold y3T;rw[qp h]
theorem y1X(h:i<=ps.length):(y8p ps qs i).length=ps.length:=by
 unfold y8p;rw[qf,(z5G _ _).1,qB,qR];omega
theorem z26:(y3T ps qs i).length=qs.length:=(z5G _ _).2
theorem y3z(h:i<ps.length):y8p ps qs i=(z5M (ps.take i) qs).1++ps.getD i default::ps.drop (i+1)/\(z5M (ps.take i) qs).1.length=i:=
 ⟨by unfold y8p;rw[x7q h],by rw[(z5G _ _).1,qB];omega⟩
theorem x5J(h:i<ps.length):(y8p ps qs i).getD i default=ps.getD i default:=by
 obtain⟨a,b⟩:=y3z (qs:=qs) h
 rw[a,x39 b]
theorem x0U(h:i<ps.length):y8p ps qs (i+1)=(y8p ps qs i).set i (z5m (ps.getD i default) (y3T ps qs i)).1:=by
 obtain⟨a,b⟩:=y3z (qs:=qs) h
 rw[a,z6z b]
 unfold y8p y3T
 rw[x21 h,z9D,qO];rfl
theorem x0V(h:i<ps.length):y3T ps qs (i+1)=(z5m (ps.getD i default) (y3T ps qs i)).2:=by
 unfold y3T;rw[x21 h,z9D]
theorem x24(h:Q.length<=k):x0S p Q k=(z5m p Q).1:=by unfold x0S;rw[qp h]
theorem x25(h:Q.length<=k):x0T p Q k=(z5m p Q).2:=by unfold x0T;rw[qp h,qM h,qQ]
theorem x26(h:k<=Q.length):(x0T p Q k).length=Q.length:=by unfold x0T;rw[qf,z8z,qB,qR];omega
theorem y3A(h:k<Q.length):x0T p Q k=(z5m p (Q.take k)).2++Q.getD k default::Q.drop (k+1)/\(z5m p (Q.take k)).2.length=k:=
 ⟨by unfold x0T;rw[x7q h],by rw[z8z,qB];omega⟩
theorem x5K(h:k<Q.length):(x0T p Q k).getD k default=Q.getD k default:=by
 obtain⟨a,b⟩:=y3A (p:=p) h
 rw[a,x39 b]
theorem x0W(h:k<Q.length):x0S p Q (k+1)=(z1j (x0S p Q k) (Q.getD k default)).1:=by
 unfold x0S;rw[x21 h,z9C]
theorem x0X(h:k<Q.length):x0T p Q (k+1)=(x0T p Q k).set k (z1j (x0S p Q k) (Q.getD k default)).2:=by
 obtain⟨a,b⟩:=y3A (p:=p) h
 rw[a,z6z b]
 unfold x0T x0S
 rw[x21 h,z9C,qO];rfl
theorem y6V:∀(Q:List EOp) (p:EOp),x7p U s t p Q->∀k,k<Q.length->y76 U s t (x0S p Q k) (Q.getD k default)
 | [],p,_,k,hk=>absurd hk (by simp)
 |q::Q,p,h,0,_=>h.1
 |q::Q,p,h,k+1,hk=>y6V Q _ h.2 k (by simpa using hk)
theorem y6W:∀(ps qs:List EOp),x6k U s t ps qs->∀i,i<ps.length->x7p U s t (ps.getD i default) (y3T ps qs i)
 | [],qs,_,i,hi=>absurd hi (by simp)
 |p::ps,qs,h,0,_=>h.1
 |p::ps,qs,h,i+1,hi=>y6W ps _ h.2 i (by simpa using hi)
theorem x5L(h:x6k U s t ps qs)(hi:i<ps.length)(hk:k<qs.length):y76 U s t (x0S (ps.getD i default) (y3T ps qs i) k) ((y3T ps qs i).getD k default):=
 y6V _ _ (y6W _ _ h i hi) k (by rw[z26];exact hk)
theorem x5M{o:EOp}(h:Gd U s o):o.kind=0\/o.kind=1\/o.kind=2\/o.kind=4:=by
 cases h with
 |N=>exact .inl rfl
 |A=>exact .inr (.inl rfl)
 |F=>exact .inr (.inr (.inl rfl))
 |D=>exact .inr (.inr (.inr rfl))
theorem x5N{p q:EOp}(hk:p.kind=q.kind)(h1:p.kind=1)(hn:p.node=q.node):z1j p q=({p with attrs:=fm z3N p.attrs q.attrs},q):=by
 unfold z1j
 rw[if_neg (by rintro(h|h|h);exact h hk;omega;exact h hn),if_pos h1]
theorem x5O{p q:EOp}(hk:p.kind=q.kind)(h1:p.kind=2)(hn:p.node=q.node):z1j p q=({p with steps:=z00 p.steps q.steps},{q with steps:=z2s p.steps q.steps}):=by
 unfold z1j
 rw[if_neg (by rintro(h|h|h);exact h hk;omega;exact h hn),if_neg (by omega),if_pos h1]
theorem y1Y{p q:EOp}(h1:p.kind≠1)(h2:p.kind≠2):z1j p q=(p,q):=by
 unfold z1j
 split
 ·rfl
 ·first|rfl|rw[if_neg h1,if_neg h2]
theorem y6X{o:EOp}(h:Gd U s o)(hk:o.kind=1):z1B true o.attrs 0=0:=by
 cases h with
 |N=>exact absurd (show(0:Int)=1 from hk) (by decide)
 |A k c h1 h2=>exact z1z.2 h2.g
 |F=>exact absurd (show(2:Int)=1 from hk) (by decide)
 |D=>exact absurd (show(4:Int)=1 from hk) (by decide)
theorem y6Y(hU:UB U){o:EOp}(h:Gd U s o)(hk:o.kind=2):z1g o.steps/\DN 100000000000 o.steps:=by
 cases h with
 |N=>exact absurd (show(0:Int)=2 from hk) (by decide)
 |A=>exact absurd (show(1:Int)=2 from hk) (by decide)
 |F k st us h1 h2 h3=>exact⟨h2.v,h2.dn hU.len⟩
 |D=>exact absurd (show(4:Int)=2 from hk) (by decide)
theorem x4a(hU:UB U){o:EOp}(h:Gd U s o):o.attrs.length<=100:=by
 cases h with
 |N=>exact qS _
 |A k c h1 h2=>exact h2.len hU.len
 |F=>exact qS _
 |D=>exact qS _
theorem x5P{p q:EOp}(h:p.kind≠q.kind\/p.kind=0\/p.node≠q.node):z1j p q=(p,q):=by unfold z1j;rw[if_pos h]
theorem y3B:∀(p q:List DU),z2U (p++q)=z2U p+z2U q
 | [],q=>(zo _).symm
 |x::p,q=>by
  have:=y3B p q
  cases x<;>simp only[qy,z2U]<;>omega
theorem y3C:∀(es:List Elem),z2U (es.map .A)=es.length
 | []=>rfl
 |x::es=>by simp only[qZ,z2U,qi];rw[y3C es]
theorem y6Z:∀{l:List DStep} {s:DStep},s∈l->s.kind=1->s.elems.length<=z2U (exD l)
 | [],s,h,_=>by cases h
 |t::l,s,h,k=>by
  rw[exD,y3B]
  rcases qg.1 h with rfl|h
  ·have:exS s=s.elems.map .A:=by unfold exS;rw[if_pos k]
   rw[this,y3C];omega
  ·have:=y6Z h k;omega
theorem x9h(hU:U.length<=100){l:List DStep}{us:List DU}(h:DU_ U l us)(ha:z2U us<=12):DN 1048576 l:=by
 intro s hs'
 have ho:=h.v.1.all s hs'
 have hm:=fun u hu'=>UU.s hU (h.ex u (y9R hs' (u:=u) hu'))
 unfold exS at hm
 have sa:=z6j h.sw
 rcases ho with⟨k,n,a,e,q⟩| ⟨k,a,b,n1,n2,v⟩
 ·have h1:=y6Z hs' k
  rw[if_pos k] at hm
  refine⟨by omega,by rw[a];simp,fun x hx=> ?_⟩
  have:=(hm (.A x) (qI.2 ⟨x,hx,rfl⟩)).2
  omega
 ·rw[if_neg (by omega)] at hm
  refine⟨by rw[a];simp,?_,fun x hx=>by rw[a] at hx;cases hx⟩
  by_cases k2:s.kind=2
  ·rw[b k2];simp
  ·rw[if_neg k2] at hm
   have:=(hm (.K s.attrs) (by rw[zL];exact⟨by omega,rfl⟩)).2
   omega
theorem x9i{s:DStep}(h:DOk s):1<=oS s+nS s:=by
 unfold oS nS szD
 rcases h with⟨k,n,a,e,q⟩| ⟨k,a,b,n1,n2,v⟩
 ·have:0<s.elems.length:=zR.2 e
  rw[if_pos k,if_neg (by omega),if_pos k];omega
 ·rw[if_neg (show¬s.kind=1 by omega)]
  split<;>first|omega| (split<;>omega)
theorem y4g:∀{l:List DStep},(∀s∈l,DOk s)->(l.length:Int)<=z1Q l+z2c l
 | [],_=>by simp[z1Q,z2c]
 |s::l,h=>by
  have:=y4g (l:=l) fun x hx=>h x (by simp[hx])
  have:=x9i (h s (by simp))
  rw[z1Q,z2c,qi];omega
theorem x7r{l:List DStep}(h:z1g l):l.length<=4294967294:=by
 have:=y4g h.1.all
 have:=h.2.1
 have:=h.2.2
 omega
structure CpB(o:EOp):Prop where
 op:OpL o
 st:o.steps.length<=4294967294
 dn:DN 1048576 o.steps
 gn:NodeB ⟨0,0,[],[],⟨0,0,o.grid.cells,[]⟩,[]⟩
theorem x27(hU:UB U){o:EOp}(h:Gd U s o)(ho:OpL o):CpB o:=by
 cases h with
 |N n hg hz hv hi=>exact⟨ho,qS _,(fun x hx=>by cases hx),z5i⟩
 |A k c hk hc=>exact⟨ho,qS _,(fun x hx=>by cases hx),z5i⟩
 |F k st us hk hd ha=>exact⟨ho,x7r hd.v,x9h hU.len hd ha,z5i⟩
 |D k c hk hc hz hs hl=>exact⟨ho,qS _,(fun x hx=>by cases hx),z5i⟩
end Go.Ch
end
section
set_option maxRecDepth 100000
set_option maxHeartbeats 4000000
open Go Go.Proofs Go.Ab
namespace Go.Ch
theorem y3D(o:EOp)(hb:CpB o):FC Tryz.prog 40 [.t (z0F o)] (app emp []) (.t (z0F o)) (app emp []):=by
 refine .go Tryz.f40 ?_
 have hN:=hb.op.nb
 have hG:=hb.gn
 have c1:=hb.op.at1
 have c2:=hb.op.dr
 have c3:=hb.st
 have c4:=hb.op.len.a
 have c5:=hb.op.len.b
 have c6:=hb.op.len.d
 have c7:=hb.op.len.e
 refine .loop (α:=Nat×(List DStep)) [.r [],.r [(2,X (Xc1 32 (z6Z o.nw (by assumption)) X0))],.r [(2,X (Xan z0a 72 o.attrs))],.r [(2,X (Xan z0R 112 o.draw))],.r [(2,X (Xan z0d 152 o.steps))],.r []] 208 (fun(i,q)=>([(1,.ptr 0 0),(2,.ptr 8 0),(23,.row 152 q.length),(24,VI (o.steps.length:Int)),(25,VI (i:Int))],[(0,.box [VI o.kind,VI o.node,VI o.nw.id,VI o.nw.kind,VL 2 z0a o.nw.attrs,VL 3 z0c o.nw.flow,VI o.nw.grid.rows,VI o.nw.grid.cols,VL 5 z0k o.nw.grid.cells,VL 4 z0t o.nw.grid.merges,VL 8 z0R o.nw.draw,.row 72 o.attrs.length,.row 152 o.steps.length,VL 2 z0P o.grid.rows,VL 2 z0P o.grid.cols,VL 5 z0k o.grid.cells,VL 4 z0t o.grid.split,VL 4 z0t o.grid.merge,.row 112 o.draw.length]),(8,.box [VI 0,VI 0,VI 0,VI 0,VN,VN,VI 0,VI 0,VN,VN,VN,VN,VN,VN,VN,VN,VN,VN,VN]),(72,OR 2 z0a o.attrs),(112,OR 8 z0R o.draw),(152,OR 4 z0d q)])) (fun(i,q)=>i<=o.steps.length/\q=o.steps) (fun(i,q)=>o.steps.length-i) (0,o.steps) ?_ ?_
 ·
  exact⟨by omega,rfl⟩
 rintro⟨i,q⟩ I6 ih6
 try dsimp only at I6
 have ql:q.length=o.steps.length:=by rw[I6.2]
 refine .bp [.r []] (decide ((i:Int)< (o.steps.length:Int))) (fun h6=> ?_) (fun h6=> ?_)
 ·
  have hs:=hb.dn (o.steps.getD i default) (z0j (l:=o.steps) (i:=i) (by omega))
  rw[<-I6.2] at hs
  have hs1:=hs.1
  have hs2:=hs.2.1
  have hs3:=hs.2.2
  refine .back [.r [(1,X (Xp z0d q (i:Int))),(2,X (Xe z0d q i))],.r [(5,X (Xan z0a 304 (((q.getD i default)).attrs))),(6,X (Xpn o.steps.length z0d q (i:Int))),(8,X (z0Y z0a (((q.getD i default)).attrs) (Xsn o.steps.length 4 z0d 152 q i ((q.getD i default)) [(304,OF 2 z0a (((q.getD i default)).attrs))])))],.r [(5,X (Xc1 376 (y6b (((q.getD i default)).elems) (by assumption) (by assumption)) X0)),(6,X (Xpn o.steps.length z0d (q.set i ((q.getD i default))) (i:Int))),(8,X (Xsn o.steps.length 4 z0d 152 (q.set i ((q.getD i default))) i ({kind:=(((q.set i ((q.getD i default))).getD i default)).kind,n:=(((q.set i ((q.getD i default))).getD i default)).n,attrs:=(((q.set i ((q.getD i default))).getD i default)).attrs,elems:=(((q.getD i default)).elems)}:DStep)))],.r [(0,X (Xn ((i:Int)+1)))],.le (.eq 23 (.row 152 q.length) (.row 152 (((q.set i ((q.getD i default))).set i ({kind:=(((q.set i ((q.getD i default))).getD i default)).kind,n:=(((q.set i ((q.getD i default))).getD i default)).n,attrs:=(((q.set i ((q.getD i default))).getD i default)).attrs,elems:=(((q.getD i default)).elems)}:DStep)).length)) (.of_eq (by simp only[zn])))] [(0,0),(8,8),(72,72),(112,112),(152,152)] (ih6 ((i+1),((q.set i ((q.getD i default))).set i ({kind:=(((q.set i ((q.getD i default))).getD i default)).kind,n:=(((q.set i ((q.getD i default))).getD i default)).n,attrs:=(((q.set i ((q.getD i default))).getD i default)).attrs,elems:=(((q.getD i default)).elems)}:DStep))) ?_ ?_)
  ·
   have e1:q.set i (q.getD i default)=q:=y1p rfl
   exact⟨by omega,by simp only[e1];rw[<-I6.2]⟩
  ·
   ((try dsimp only);omega)
 ·
  have e1:(o:EOp)=({kind:=o.kind,node:=o.node,nw:=o.nw,attrs:=o.attrs,steps:=q,grid:=({rows:=o.grid.rows,cols:=o.grid.cols,cells:=((({id:=0,kind:=0,attrs:=[],flow:=[],grid:=({rows:=0,cols:=0,cells:=o.grid.cells,merges:=[]}:Grid),draw:=[]}:Node)).grid).cells,split:=o.grid.split,merge:=o.grid.merge}:GEd),draw:=o.draw}:EOp):=by
   rw[I6.2]
  exact .finVE [.r [],.r [(2,X (Xan z0P 264 o.grid.rows)),(5,X (Xan z0P 288 o.grid.cols))],.r [(2,X (Xan z0t 344 o.grid.split)),(5,X (Xan z0t 368 o.grid.merge))],.r [(2,X (Xf [(3,4)])),(3,X (Xf [(2,2),(3,3),(8,8)])),(4,X (Xc1 440 (z6Z ({id:=0,kind:=0,attrs:=[],flow:=[],grid:=({rows:=0,cols:=0,cells:=o.grid.cells,merges:=[]}:Grid),draw:=[]}:Node) (by assumption)) X0))],.r [],.r []] [.fR 0 [(o.attrs.length:Nat)=(List.map z0a o.attrs).length,(o.steps.length:Nat)=(List.map z0d q).length,(o.grid.rows.length:Nat)=(List.map z0P o.grid.rows).length,(o.grid.cols.length:Nat)=(List.map z0P o.grid.cols).length,(o.grid.split.length:Nat)=(List.map z0t o.grid.split).length,(o.grid.merge.length:Nat)=(List.map z0t o.grid.merge).length,(o.draw.length:Nat)=(List.map z0R o.draw).length] ⟨lm,lm,lm,lm,lm,lm,lm,trivial⟩] [] (fun z0:EOp=>(.t (z0F z0),[])) _ _ e1
theorem y3E(c:List EOp)(hl:c.length<=1048576)(hc:∀o∈c,CpB o):FC Tryz.prog 17 [VL 19 z0F c] (app emp []) (.row 0 c.length) (app emp [(0,OR 19 z0F c)]):=by
 refine .go Tryz.f17 ?_
 refine .len 0 (fun hl0=> ?_)
 refine .loop (α:=Nat×(List EOp)) [.r [],.r [(1,X (Xl z0F c)),(2,X (x9t 19 z0F 24 (c.length:Int) (c.length:Int) ({kind:=0,node:=0,nw:=({id:=0,kind:=0,attrs:=[],flow:=[],grid:=({rows:=0,cols:=0,cells:=[],merges:=[]}:Grid),draw:=[]}:Node),attrs:=[],steps:=[],grid:=({rows:=[],cols:=[],cells:=[],split:=[],merge:=[]}:GEd),draw:=[]}:EOp) [TI 0,TI 0,TI 0,TI 0,TN,TN,TI 0,TI 0,TN,TN,TN,TN,TN,TN,TN,TN,TN,TN,TN] ⟨.inl rfl,⟨.inl rfl,⟨.inl rfl,⟨.inl rfl,⟨z02 (by decide),⟨z02 (by decide),⟨.inl rfl,⟨.inl rfl,⟨z02 (by decide),⟨z02 (by decide),⟨z02 (by decide),⟨z02 (by decide),⟨z02 (by decide),⟨z02 (by decide),⟨z02 (by decide),⟨z02 (by decide),⟨z02 (by decide),⟨z02 (by decide),⟨z02 (by decide),trivial⟩⟩⟩⟩⟩⟩⟩⟩⟩⟩⟩⟩⟩⟩⟩⟩⟩⟩⟩))],.r [(1,X (Xl z0F c))]] 64 (fun(i,q)=>([(3,.row 24 c.length),(9,VL 19 z0F c),(10,VI (c.length:Int)),(11,VI (i:Int))],[(24,OR 19 z0F q)])) (fun(i,q)=>i<=c.length/\q=c.take i++List.replicate (c.length-i) ({kind:=0,node:=0,nw:=({id:=0,kind:=0,attrs:=[],flow:=[],grid:=({rows:=0,cols:=0,cells:=[],merges:=[]}:Grid),draw:=[]}:Node),attrs:=[],steps:=[],grid:=({rows:=[],cols:=[],cells:=[],split:=[],merge:=[]}:GEd),draw:=[]}:EOp)) (fun(i,q)=>c.length-i) (0,(List.replicate c.length ({kind:=0,node:=0,nw:=({id:=0,kind:=0,attrs:=[],flow:=[],grid:=({rows:=0,cols:=0,cells:=[],merges:=[]}:Grid),draw:=[]}:Node),attrs:=[],steps:=[],grid:=({rows:=[],cols:=[],cells:=[],split:=[],merge:=[]}:GEd),draw:=[]}:EOp))) ?_ ?_
 ·
  exact⟨by omega,by simp⟩
 rintro⟨i,q⟩ I3 ih3
 try dsimp only at I3
 have ql:q.length=c.length:=by rw[I3.2];simp;omega
 refine .bp [.r []] (decide ((i:Int)< (c.length:Int))) (fun h3=> ?_) (fun h3=> ?_)
 ·
  have ho:=hc (c.getD i default) (z0j (by omega))
  refine .back [.r [(1,X (Xi z0F c (i:Int)))],.r [(3,X (Xc1 144 (y3D ((c.getD i default)) (by assumption)) X0)),(4,X (Xpn c.length z0F q (i:Int))),(5,X (Xsn c.length 19 z0F 24 q i (((c.getD i default)))))],.r [(0,X (Xn ((i:Int)+1)))]] [(24,24)] (ih3 ((i+1),(q.set i (((c.getD i default))))) ?_ ?_)
  ·
   refine⟨by omega,?_⟩
   rw[I3.2]
   exact z4z rfl (by omega) rfl
  ·
   ((try dsimp only);omega)
 ·
  have e1:(c:List EOp)=q:=by
   first|omega| (rw[I3.2,qp (by omega),show c.length-i=0 by omega];simp)
  exact .finE [.r []] [(24,0)] (fun z0:List EOp=>(.row 0 c.length,[(0,OR 19 z0F z0)])) _ _ e1
theorem y60(c:List EOp)(hl:c.length<=1048576)(hc:∀o∈c,CpB o):FC Tryz.prog 17 [VL 19 z0F c] (app emp []) (VL 19 z0F c) (app emp []):=by
 refine .go Tryz.f17 ?_
 refine .len 0 (fun hl0=> ?_)
 refine .loop (α:=Nat×(List EOp)) [.r [],.r [(1,X (Xl z0F c)),(2,X (x9t 19 z0F 24 (c.length:Int) (c.length:Int) ({kind:=0,node:=0,nw:=({id:=0,kind:=0,attrs:=[],flow:=[],grid:=({rows:=0,cols:=0,cells:=[],merges:=[]}:Grid),draw:=[]}:Node),attrs:=[],steps:=[],grid:=({rows:=[],cols:=[],cells:=[],split:=[],merge:=[]}:GEd),draw:=[]}:EOp) [TI 0,TI 0,TI 0,TI 0,TN,TN,TI 0,TI 0,TN,TN,TN,TN,TN,TN,TN,TN,TN,TN,TN] ⟨.inl rfl,⟨.inl rfl,⟨.inl rfl,⟨.inl rfl,⟨z02 (by decide),⟨z02 (by decide),⟨.inl rfl,⟨.inl rfl,⟨z02 (by decide),⟨z02 (by decide),⟨z02 (by decide),⟨z02 (by decide),⟨z02 (by decide),⟨z02 (by decide),⟨z02 (by decide),⟨z02 (by decide),⟨z02 (by decide),⟨z02 (by decide),⟨z02 (by decide),trivial⟩⟩⟩⟩⟩⟩⟩⟩⟩⟩⟩⟩⟩⟩⟩⟩⟩⟩⟩))],.r [(1,X (Xl z0F c))]] 64 (fun(i,q)=>([(3,.row 24 c.length),(9,VL 19 z0F c),(10,VI (c.length:Int)),(11,VI (i:Int))],[(24,OR 19 z0F q)])) (fun(i,q)=>i<=c.length/\q=c.take i++List.replicate (c.length-i) ({kind:=0,node:=0,nw:=({id:=0,kind:=0,attrs:=[],flow:=[],grid:=({rows:=0,cols:=0,cells:=[],merges:=[]}:Grid),draw:=[]}:Node),attrs:=[],steps:=[],grid:=({rows:=[],cols:=[],cells:=[],split:=[],merge:=[]}:GEd),draw:=[]}:EOp)) (fun(i,q)=>c.length-i) (0,(List.replicate c.length ({kind:=0,node:=0,nw:=({id:=0,kind:=0,attrs:=[],flow:=[],grid:=({rows:=0,cols:=0,cells:=[],merges:=[]}:Grid),draw:=[]}:Node),attrs:=[],steps:=[],grid:=({rows:=[],cols:=[],cells:=[],split:=[],merge:=[]}:GEd),draw:=[]}:EOp))) ?_ ?_
 ·
  exact⟨by omega,by simp⟩
 rintro⟨i,q⟩ I3 ih3
 try dsimp only at I3
 have ql:q.length=c.length:=by rw[I3.2];simp;omega
 refine .bp [.r []] (decide ((i:Int)< (c.length:Int))) (fun h3=> ?_) (fun h3=> ?_)
 ·
  have ho:=hc (c.getD i default) (z0j (by omega))
  refine .back [.r [(1,X (Xi z0F c (i:Int)))],.r [(3,X (Xc1 144 (y3D ((c.getD i default)) (by assumption)) X0)),(4,X (Xpn c.length z0F q (i:Int))),(5,X (Xsn c.length 19 z0F 24 q i (((c.getD i default)))))],.r [(0,X (Xn ((i:Int)+1)))]] [(24,24)] (ih3 ((i+1),(q.set i (((c.getD i default))))) ?_ ?_)
  ·
   refine⟨by omega,?_⟩
   rw[I3.2]
   exact z4z rfl (by omega) rfl
  ·
   ((try dsimp only);omega)
 ·
  have e1:(c:List EOp)=q:=by
   first|omega| (rw[I3.2,qp (by omega),show c.length-i=0 by omega];simp)
  exact .finE [.r [],.le (.fr 2 [(c.length:Nat)=(List.map z0F q).length] ⟨lm,trivial⟩)] [] (fun z0:List EOp=>(VL 19 z0F z0,[])) _ _ e1
theorem y1Z(a b:List DStep)(va:z1g a)(vb:z1g b)(da:DN 100000000000 a)(db:DN 100000000000 b)(hm:z1Q a=z1Q b)(hs:z2c a+z2c b<=2147483647):FC Tryz.prog 42 [VL 4 z0d a,VL 4 z0d b] (app emp []) (.tup [VL 4 z0d (z00 a b),VL 4 z0d (z2s a b),VI 0]) (app emp []):=by
 refine .go Tryz.f42 ?_
 refine .len 0 (fun hl0=> ?_)
 refine .len 1 (fun hl1=> ?_)
 have ca:=z1r.2 va
 have cb:=z1r.2 vb
 have da4:=da.mono (n:=400000000000) (by decide)
 have db4:=db.mono (n:=400000000000) (by decide)
 obtain⟨_,_,st,v1,v2,_⟩:=z7v va vb da db hm hs
 have c1:=z1r.2 v1
 have c2:=z1r.2 v2
 refine .bp [.r [],.r [(1,X (Xc0 (z2O a (by assumption)) X0))],.r []] ((z1u a) !=0) (fun h2=> ?_) (fun h2=> ?_)
 ·
  exfalso
  omega
 ·
  refine .bp [.r [(1,X (Xc0 (z2O b (by assumption)) X0))],.r []] ((z1u b) !=0) (fun h5=> ?_) (fun h5=> ?_)
  ·
   exfalso
   omega
  ·
   refine .bp [.r [(1,X (Xc0 (z61 a (by assumption)) X0))],.r [(1,X (Xc0 (z61 b (by assumption)) X0))],.r []] ((z1Q a) !=(z1Q b)) (fun h9=> ?_) (fun h9=> ?_)
   ·
    exfalso
    omega
   ·
    refine .loop (α:=Int×Int×(List DStep)×(List Elem)×(List DStep)×(List Elem)×(List DStep)×Int×(List DStep)×Int) [.r [],.le (.nB 240 0 4),.le (.nB 240 1 3),.le (.nB 248 0 4),.le (.nB 248 1 3),.r []] 324 (fun(y1,y2,o1,x1,o2,x2,ps,pu,qs,qu)=>([(13,.ptr 240 0),(14,.ptr 248 0),(15,.ptr 276 0),(16,.ptr 300 0)],[(240,.box [.row 256 o1.length,.row 257 x1.length,VI y1]),(248,.box [.row 258 o2.length,.row 259 x2.length,VI y2]),(256,OR 4 z0d o1),(257,OR 3 z0c x1),(258,OR 4 z0d o2),(259,OR 3 z0c x2),(276,.box [VL 4 z0d ps,VI pu]),(300,.box [VL 4 z0d qs,VI qu])])) (fun(y1,y2,o1,x1,o2,x2,ps,pu,qs,qu)=>PD ⟨o1,x1,y1⟩ ⟨o2,x2,y2⟩ ps pu qs qu (z0f (exD a) (exD b)).1.length (z0f (exD a) (exD b)).2.length (z1S ⟨[],[],0⟩ (z0f (exD a) (exD b)).1) (z1S ⟨[],[],0⟩ (z0f (exD a) (exD b)).2)) (fun(y1,y2,o1,x1,o2,x2,ps,pu,qs,qu)=>jmD ps pu qs qu) (0,0,[],[],[],[],a,0,b,0) ?_ ?_
    ·
     exact st
    rintro⟨y1,y2,o1,x1,o2,x2,ps,pu,qs,qu⟩ I13 ih13
    try dsimp only at I13
    have kp:=z4C I13.gp
    have kq:=z4C I13.gq
    have bx:=I13.dx.bd
    have by2:=I13.dy.bd
    simp only at bx by2
    have fx:=I13.dx.fl.1
    have fy:=I13.dy.fl.1
    refine .bp [.r [(1,X (Xc4 [(0,276)] (z3G ps pu) X0)),(5,Xv 1 (!(decide ((z2W ps)>=0))) (Xc4 [(0,300)] (z3G qs qu) X0)),(6,Xv 1 (!(decide ((z2W ps)>=0))) X0),(7,X (Xk' (decide ((z2W ps)>=0))))]] (decide ((z2W ps)>=0)||decide ((z2W qs)>=0)) (fun h13=> ?_) (fun h13=> ?_)
    ·
     refine .bp [.r [(1,X (Xc4 [(0,276)] (z3G ps pu) X0))]] ((z2W ps)==1) (fun h14=> ?_) (fun h14=> ?_)
     ·
      have lp0:0<ps.length:=by omega
      have k1:(ps.getD 0 default).kind=1:=by omega
      clear kp kq h13 h14
      have sp:=z7U I13.gp I13.dp lp0
      obtain⟨s,hs⟩:∃z,tkE ps pu (szD (ps.getD 0 default)- pu)=z:=⟨_,rfl⟩
      have hA:=PD.addP I13 lp0 k1 rfl
      have hAn:=x44 (y6k (u:=pu) (n:=szD (ps.getD 0 default)- pu) sp.2.2.2.2.2) (k:=400000000000) (by decide)
      rw[hs] at hA hAn
      have hAb:=hA.1.dx.bd
      simp only[qf] at hAb
      have hA2:=hA.2.2
      refine .back [.r [(2,X (Xc4 [(0,276)] (z3H ps pu (by omega) (by omega)) X0)),(3,X (Xc3 444 [(0,276)] (z2P ps pu (szD (ps.getD 0 default)- pu) s hs (by omega) (by omega)) X0))],.r [(2,X (Xc3 484 [(0,240),(1,256),(2,257)] (z4g o1 x1 y1 s.elems (by assumption) (by omega)) X0))],.r [(2,X (Xl z0c s.elems)),(3,X (Xc3 516 [(0,248),(1,258),(2,259)] (.nil 2 2 (z4B o2 x2 y2 (s.elems.length:Int) [] (by omega) (by first|omega|simp) (by omega) (by first|assumption|exact kbd (by assumption)))) X0))]] [(240,240),(248,248),(256,256),(257,257),(258,258),(516,259),(276,276),(300,300)] (ih13 (y1,0,o1,(x1++s.elems),(z1a (z0b ⟨o2,x2,y2⟩) (s.elems.length:Int) []),[],(tkL ps pu (szD (ps.getD 0 default)- pu)),(tkN ps pu (szD (ps.getD 0 default)- pu)),qs,qu) ?_ ?_)
      ·
       exact hA.1
      ·
       exact hA.2.1
     ·
      refine .bp [.r [(1,X (Xc4 [(0,300)] (z3G qs qu) X0))]] ((z2W qs)==1) (fun h18=> ?_) (fun h18=> ?_)
      ·
       have lq0:0<qs.length:=by omega
       have k2:(qs.getD 0 default).kind=1:=by omega
       have k1:0<ps.length->(ps.getD 0 default).kind≠1:=fun h=>by omega
       clear kp kq h13 h14 h18
       have sq:=z7U I13.gq I13.dq lq0
       obtain⟨s,hs⟩:∃z,tkE qs qu (szD (qs.getD 0 default)- qu)=z:=⟨_,rfl⟩
       have hA:=PD.addQ I13 k1 lq0 k2 rfl
       have hAn:=x44 (y6k (u:=qu) (n:=szD (qs.getD 0 default)- qu) sq.2.2.2.2.2) (k:=400000000000) (by decide)
       rw[hs] at hA hAn
       have hAb:=hA.1.dy.bd
       simp only[qf] at hAb
       have hA2:=hA.2.2
       clear k1
       refine .back [.r [(2,X (Xc4 [(0,300)] (z3H qs qu (by omega) (by omega)) X0)),(3,X (Xc3 476 [(0,300)] (z2P qs qu (szD (qs.getD 0 default)- qu) s hs (by omega) (by omega)) X0))],.r [(2,X (Xl z0c s.elems)),(3,X (Xc3 524 [(0,240),(1,256),(2,257)] (.nil 2 2 (z4B o1 x1 y1 (s.elems.length:Int) [] (by omega) (by first|omega|simp) (by omega) (by first|assumption|exact kbd (by assumption)))) X0))],.r [(2,X (Xc3 548 [(0,248),(1,258),(2,259)] (z4g o2 x2 y2 s.elems (by assumption) (by omega)) X0))]] [(240,240),(248,248),(256,256),(524,257),(258,258),(259,259),(276,276),(300,300)] (ih13 (0,y2,(z1a (z0b ⟨o1,x1,y1⟩) (s.elems.length:Int) []),[],o2,(x2++s.elems),ps,pu,(tkL qs qu (szD (qs.getD 0 default)- qu)),(tkN qs qu (szD (qs.getD 0 default)- qu))) ?_ ?_)
       ·
        exact hA.1
       ·
        exact hA.2.1
      ·
       obtain⟨lp0,lq0⟩:=PD.two I13 (by omega) (fun h=>by omega) (fun h=>by omega)
       have k1:(ps.getD 0 default).kind≠1:=by omega
       have k3:(qs.getD 0 default).kind≠1:=by omega
       have sk:=fun _:Unit=>k02 I13.gp lp0 k1
       have tk:=fun _:Unit=>k02 I13.gq lq0 k3
       have hB1:=fun n=>PD.both (n:=n) I13 lp0 lq0 k1 k3
       have mk1:=x6W I13.gp lp0 k1
       clear kp kq h13 h14 h18 k1 k3
       have sp:=z7U I13.gp I13.dp lp0
       have sq:=z7U I13.gq I13.dq lq0
       obtain⟨m,hmm⟩:∃z,min (szD (ps.getD 0 default)- pu) (szD (qs.getD 0 default)- qu)=z:=⟨_,rfl⟩
       have hB:=hB1 m hmm.symm
       have m1:1<=m/\m<=szD (ps.getD 0 default)- pu/\m<=szD (qs.getD 0 default)- qu/\m<=100000000000:=by omega
       have m2:pu+m<=szD (ps.getD 0 default)/\qu+m<=szD (qs.getD 0 default):=by omega
       obtain⟨s,hs⟩:∃z,tkE ps pu m=z:=⟨_,rfl⟩
       obtain⟨t,ht⟩:∃z,tkE qs qu m=z:=⟨_,rfl⟩
       have ek1:=z8q ps pu m
       have ek2:=z8q qs qu m
       have ea1:=z64 ps pu m
       have ea2:=z64 qs qu m
       rw[hs] at ek1 ea1
       rw[ht] at ek2 ea2
       have al:s.attrs.length<=100000000000/\t.attrs.length<=100000000000:=by rw[ea1,ea2];omega
       rw[<-ea1,<-ea2,<-ek1,<-ek2] at hB
       rw[<-ek1] at sk
       rw[<-ek2] at tk
       clear hB1
       refine .bp [.r [(1,X (Xc4 [(0,276)] (z3H ps pu (by omega) (by omega)) X0)),(3,X (Xc4 [(0,300)] (z3H qs qu (by omega) (by omega)) X0)),(4,X (y8h (szD (ps.getD 0 default)- pu) (szD (qs.getD 0 default)- qu)))],.le (.eq 19 (VI (min (szD (ps.getD 0 default)- pu) (szD (qs.getD 0 default)- qu))) (VI m) (.of_eq (by rw[hmm]))),.r [(2,X (Xc3 516 [(0,276)] (z2P ps pu m s hs (by omega) (by omega)) X0)),(5,X (Xc3 540 [(0,300)] (z2P qs qu m t ht (by omega) (by omega)) X0))],.r [(5,Xv 1 (s.kind==0) X0),(6,Xv 1 (s.kind==0) X0),(7,X (Xk (s.kind==0)))]] ((s.kind==0)&&(t.kind==0)) (fun h24=> ?_) (fun h24=> ?_)
       ·
        have fl:=z2j z3N s.attrs t.attrs
        refine .back [.r [(5,X (Xc1 692 (z99 s.attrs t.attrs (by omega)) X0)),(6,X (Xc3 700 [(0,240),(1,256),(2,257)] (z4B o1 x1 y1 m (fm z3N s.attrs t.attrs) (by omega) (by first|omega|simp) (by omega) (by first|assumption|exact kbd (by assumption))) X0))],.r [(3,X (Xc3 732 [(0,248),(1,258),(2,259)] (z4B o2 x2 y2 m t.attrs (by omega) (by first|omega|simp) (by omega) (by first|assumption|exact kbd (by assumption))) X0))]] [(240,240),(248,248),(256,256),(700,257),(258,258),(732,259),(276,276),(300,300)] (ih13 (0,0,(z1a (z0b ⟨o1,x1,y1⟩) m (fm z3N s.attrs t.attrs)),[],(z1a (z0b ⟨o2,x2,y2⟩) m t.attrs),[],(tkL ps pu m),(tkN ps pu m),(tkL qs qu m),(tkN qs qu m)) ?_ ?_)
        ·
         exact hB.1.1 h24
        ·
         exact hB.2
       ·
        refine .bp [.r []] (s.kind==0) (fun h27=> ?_) (fun h27=> ?_)
        ·
         refine .back [.r [(3,X (Xn (y2+m)))]] [(240,240),(248,248),(256,256),(257,257),(258,258),(259,259),(276,276),(300,300)] (ih13 (y1,(y2+m),o1,x1,o2,x2,(tkL ps pu m),(tkN ps pu m),(tkL qs qu m),(tkN qs qu m)) ?_ ?_)
         ·
          exact hB.1.2.1 ⟨h27,(tk ()).resolve_left (h24.resolve_left (fun h=>h h27))⟩
         ·
          exact hB.2
        ·
         refine .bp [.r []] (t.kind==0) (fun h29=> ?_) (fun h29=> ?_)
         ·
          refine .at 716 [(240,240),(248,248),(256,256),(257,257),(258,258),(259,259),(276,276),(300,300)] ([(13,.ptr 240 0),(14,.ptr 248 0),(15,.ptr 276 0),(16,.ptr 300 0),(19,VI m),(133,VB (t.kind==0))],[(240,.box [.row 256 o1.length,.row 257 x1.length,VI y1]),(248,.box [.row 258 o2.length,.row 259 x2.length,VI y2]),(256,OR 4 z0d o1),(257,OR 3 z0c x1),(258,OR 4 z0d o2),(259,OR 3 z0c x2),(276,.box [VL 4 z0d (tkL ps pu m),VI (tkN ps pu m)]),(300,.box [VL 4 z0d (tkL qs qu m),VI (tkN qs qu m)])]) ?_
          refine .back [.r [(3,X (Xn (y1+m)))]] [(240,240),(248,248),(256,256),(257,257),(258,258),(259,259),(276,276),(300,300)] (ih13 ((y1+m),y2,o1,x1,o2,x2,(tkL ps pu m),(tkN ps pu m),(tkL qs qu m),(tkN qs qu m)) ?_ ?_)
          ·
           exact hB.1.2.2.1 ⟨(sk ()).resolve_left h27,h29⟩
          ·
           exact hB.2
         ·
          refine .at 716 [(240,240),(248,248),(256,256),(257,257),(258,258),(259,259),(276,276),(300,300)] ([(13,.ptr 240 0),(14,.ptr 248 0),(15,.ptr 276 0),(16,.ptr 300 0),(19,VI m),(133,VB (t.kind==0))],[(240,.box [.row 256 o1.length,.row 257 x1.length,VI y1]),(248,.box [.row 258 o2.length,.row 259 x2.length,VI y2]),(256,OR 4 z0d o1),(257,OR 3 z0c x1),(258,OR 4 z0d o2),(259,OR 3 z0c x2),(276,.box [VL 4 z0d (tkL ps pu m),VI (tkN ps pu m)]),(300,.box [VL 4 z0d (tkL qs qu m),VI (tkN qs qu m)])]) ?_
          refine .back [] [(240,240),(248,248),(256,256),(257,257),(258,258),(259,259),(276,276),(300,300)] (ih13 (y1,y2,o1,x1,o2,x2,(tkL ps pu m),(tkN ps pu m),(tkL qs qu m),(tkN qs qu m)) ?_ ?_)
          ·
           exact hB.1.2.2.2 ⟨(sk ()).resolve_left h27,(tk ()).resolve_left h29⟩
          ·
           exact hB.2
    ·
     obtain⟨hG1,hG2⟩:=PD.done I13 (by omega) (by omega)
     have hfx:z0b ⟨o1,x1,y1⟩=z00 a b:=by rw[hG1];rfl
     have hfy:z0b ⟨o2,x2,y2⟩=z2s a b:=by rw[hG2];rfl
     have hcx:z1u (z0b ⟨o1,x1,y1⟩)=0:=by rw[hfx];exact c1
     have hcy:z1u (z0b ⟨o2,x2,y2⟩)=0:=by rw[hfy];exact c2
     have hdx:=I13.dx.fl.2
     have hdy:=I13.dy.fl.2
     refine .bp [.r [(0,X (Xc3 388 [(0,240),(1,256),(2,257)] (z8o o1 x1 y1 (by omega) (by assumption) (by assumption)) X0))],.r [(0,X (Xc3 436 [(0,248),(1,258),(2,259)] (z8o o2 x2 y2 (by omega) (by assumption) (by assumption)) X0))],.r [(4,Xv 1 (!false) X0),(5,X (Xk' false))]] (false||false) (fun h33=> ?_) (fun h33=> ?_)
     ·
      exfalso
      simp at h33
     ·
      have e1:((z00 a b):List DStep)=(z0b ⟨o1,x1,y1⟩):=by
       first|rw[hfx]|rw[hfy]
      have e2:((z2s a b):List DStep)=(z0b ⟨o2,x2,y2⟩):=by
       first|rw[hfx]|rw[hfy]
      exact .finE [.r [],.le (.fr 4 [(((z0b ⟨o1,x1,y1⟩).length):Nat)=(List.map z0d (z0b ⟨o1,x1,y1⟩)).length] ⟨lm,trivial⟩),.le (.fr 5 [(((z0b ⟨o2,x2,y2⟩).length):Nat)=(List.map z0d (z0b ⟨o2,x2,y2⟩)).length] ⟨lm,trivial⟩)] [] (fun((z0,z1):(List DStep)×(List DStep))=>(.tup [VL 4 z0d z0,VL 4 z0d z1,VI 0],[])) _ _ (pr e1 e2)
theorem y3F(o:List DStep)(a:List Elem)(c:Int)(n:Int)(l:List Attr)(h0:n=0):FC Tryz.prog 89 [.ptr 0 0,VI n,VL 2 z0a l] (app emp [(0,.box [.row 1 o.length,.row 2 a.length,VI c]),(1,OR 4 z0d o),(2,OR 3 z0c a)]) (.tup []) (app emp [(0,.box [.row 1 o.length,.row 2 a.length,VI c]),(1,OR 4 z0d o),(2,OR 3 z0c a)]):=by
 refine .go Tryz.f89 ?_
 refine .len 2 (fun hl2=> ?_)
 refine .bp [.r []] (n==0) (fun h0=> ?_) (fun h0=> ?_)
 ·
  exact .fin [] [(0,0),(1,1),(2,2)]
 ·
  exfalso
  omega
theorem x0Y(o:List DStep)(a:List Elem)(c:Int)(ho:o.length<=100000000000)(hc:¬z1u (z0b ⟨o,a,c⟩)=0)(hd:DN 400000000000 (z0b ⟨o,a,c⟩)):FC Tryz.prog 90 [.ptr 0 0] (app emp [(0,.box [.row 1 o.length,.row 2 a.length,VI c]),(1,OR 4 z0d o),(2,OR 3 z0c a)]) (.tup [VL 4 z0d [],VI 3]) (app emp [(0,.box [.row 1 ((z0b ⟨o,a,c⟩).length),.row 3 0,VI 0]),(1,OR 4 z0d (z0b ⟨o,a,c⟩)),(2,OF 3 z0c a),(3,OR 3 z0c [])]):=by
 refine .go Tryz.f90 ?_
 refine .bp [.r [],.r [(1,X (Xc3 27 [(0,0),(1,1),(2,2)] (z9e o a c (by omega)) X0))],.r [(4,X (Xc0 (z2O (z0b ⟨o,a,c⟩) (by assumption)) (z0Y z0d (z0b ⟨o,a,c⟩) X0)))]] ((z1u (z0b ⟨o,a,c⟩)) !=0) (fun h2=> ?_) (fun h2=> ?_)
 ·
  exact .fin [.r [],.le (.nL 2 4)] [(0,0),(1,1),(2,2),(27,3)]
 ·
  exfalso
  omega
theorem z8A(d:List DStep)(hd:DN 100000000000 d)(hl:d.length<=100000000)(he:elS d<=10000000000):FC Tryz.prog 134 [VL 4 z0d d] (app emp []) (.tup [VL 4 z0d (z2Q d),VI (z6d d)]) (app emp []):=by
 refine .go Tryz.f134 ?_
 refine .len 0 (fun hl0=> ?_)
 have hd4:=hd.mono (n:=400000000000) (by decide)
 refine .loop (α:=Nat×Int×(List DStep)×(List Elem)) [.r [],.r [],.le (.nB 16 0 4),.le (.nB 16 1 3),.r [(1,X (Xl z0d d))]] 50 (fun(i,y,o,x)=>([(4,.ptr 16 0),(8,VL 4 z0d d),(9,VI (d.length:Int)),(10,VI (i:Int))],[(16,.box [.row 24 o.length,.row 25 x.length,VI y]),(24,OR 4 z0d o),(25,OR 3 z0c x)])) (fun(i,y,o,x)=>i<=d.length/\z4R ⟨[],[],0⟩ d=z4R ⟨o,x,y⟩ (d.drop i)/\TB d i ⟨o,x,y⟩) (fun(i,y,o,x)=>d.length-i) (0,0,[],[]) ?_ ?_
 ·
  exact⟨by omega,rfl,TB.start d⟩
 rintro⟨i,y,o,x⟩ I3 ih3
 try dsimp only at I3
 have b1:=I3.2.2.out
 have b2:=I3.2.2.add
 have b3:=I3.2.2.cut
 simp only at b1 b2 b3
 refine .bp [.r []] (decide ((i:Int)< (d.length:Int))) (fun h3=> ?_) (fun h3=> ?_)
 ·
  obtain⟨e1,e2⟩:=y6m (d:=d) (i:=i) (by omega)
  have hT:=x2C (d:=d) (i:=i) (by omega) ⟨o,x,y⟩
  obtain⟨d1,d2,d3⟩:=hd4 _ (z0K (l:=d) (k:=i) (by omega))
  obtain⟨f1,f2⟩:=I3.2.2.flush (by omega) (by omega) (by omega)
  refine .bp [.r [(0,X (Xi z0d d (i:Int)))],.r [(1,X (Xc0 (y9N ((d.getD i default))) X0))],.r [(5,Xv 1 ((((d.getD i default)).kind)==1) X0),(6,Xv 1 ((((d.getD i default)).kind)==1) (Xl z0c (((d.getD i default)).elems))),(7,Xv 1 ((((d.getD i default)).kind)==1) X0),(8,X (Xk ((((d.getD i default)).kind)==1))),(11,Xv 1 (((((d.getD i default)).kind)==1)&&(((((d.getD i default)).elems).length:Int)==0)) X0),(12,X (Xk (((((d.getD i default)).kind)==1)&&(((((d.getD i default)).elems).length:Int)==0)))),(15,Xv 1 (!((((((d.getD i default)).kind)==1)&&(((((d.getD i default)).elems).length:Int)==0))&&((z0Q ((d.getD i default)))==11))) X0),(16,Xv 1 (!((((((d.getD i default)).kind)==1)&&(((((d.getD i default)).elems).length:Int)==0))&&((z0Q ((d.getD i default)))==11))) X0),(17,Xv 1 (!((((((d.getD i default)).kind)==1)&&(((((d.getD i default)).elems).length:Int)==0))&&((z0Q ((d.getD i default)))==11))) X0),(19,Xv 1 ((!((((((d.getD i default)).kind)==1)&&(((((d.getD i default)).elems).length:Int)==0))&&((z0Q ((d.getD i default)))==11)))&&((((d.getD i default)).kind) !=1)) X0),(20,Xv 1 ((!((((((d.getD i default)).kind)==1)&&(((((d.getD i default)).elems).length:Int)==0))&&((z0Q ((d.getD i default)))==11)))&&((((d.getD i default)).kind) !=1)) X0),(21,Xka (!((((((d.getD i default)).kind)==1)&&(((((d.getD i default)).elems).length:Int)==0))&&((z0Q ((d.getD i default)))==11))) ((((d.getD i default)).kind) !=1)),(22,Xv 1 (!((((((d.getD i default)).kind)==1)&&(((((d.getD i default)).elems).length:Int)==0))&&((z0Q ((d.getD i default)))==11))) X0),(24,Xv 1 ((!((((((d.getD i default)).kind)==1)&&(((((d.getD i default)).elems).length:Int)==0))&&((z0Q ((d.getD i default)))==11)))&&(((((d.getD i default)).kind) !=1)&&((((d.getD i default)).n)==0))) X0),(25,Xka (!((((((d.getD i default)).kind)==1)&&(((((d.getD i default)).elems).length:Int)==0))&&((z0Q ((d.getD i default)))==11))) (((((d.getD i default)).kind) !=1)&&((((d.getD i default)).n)==0))),(26,X (Xk' ((((((d.getD i default)).kind)==1)&&(((((d.getD i default)).elems).length:Int)==0))&&((z0Q ((d.getD i default)))==11))))]] (((((((d.getD i default)).kind)==1)&&(((((d.getD i default)).elems).length:Int)==0))&&((z0Q ((d.getD i default)))==11))|| ((((((d.getD i default)).kind) !=1)&&((((d.getD i default)).n)==0))&&((z0Q ((d.getD i default)))==2))) (fun h6=> ?_) (fun h6=> ?_)
  ·
   have hL:z9H (d.getD i default)=(z1B true (((d.getD i default)).attrs) 0):=by unfold z9H;first|rw[if_pos (by omega)]|rw[if_neg (by omega)]
   refine .bp [.r [(2,X (Xc0 (z03 (((d.getD i default)).attrs)) X0))],.r []] ((z1B true (((d.getD i default)).attrs) 0) !=0) (fun h8=> ?_) (fun h8=> ?_)
   ·
    have e1:((z2Q d):List DStep)=[]:=by
     unfold z2Q
     rw[I3.2.1,hT,if_pos (by rw[hL];exact h8)]
    have e2:((z6d d):Int)=(z1B true (((d.getD i default)).attrs) 0):=by
     unfold z6d
     rw[I3.2.1,hT,if_pos (by rw[hL];exact h8)]
     exact hL
    exact .finE [.r [],.le (.nL 2 4)] [] (fun((z0,z1):(List DStep)×Int)=>(.tup [VL 4 z0d z0,VI z1],[])) _ _ (pr e1 e2)
   ·
    have hL0:z9H (d.getD i default)=0:=by rw[hL];omega
    rw[if_neg (by rw[hL0];decide)] at hT
    obtain⟨hk,hn1,hn2⟩:=y4F hL0
    have hN:=I3.2.2.next (by omega) hd hL0
    clear h6
    refine .bp [.r [],.r []] ((((d.getD i default)).kind)==0) (fun h14=> ?_) (fun h14=> ?_)
    ·
     by_cases hn0:(d.getD i default).n=0
     ·
      refine .back [.r [(4,X (Xc3 442 [(0,16),(1,24),(2,25)] (y3F o x y (((d.getD i default)).n) (((d.getD i default)).attrs) (by assumption)) X0))],.r [(0,X (Xn ((i:Int)+1)))]] [(16,16),(24,24),(25,25)] (ih3 ((i+1),y,o,x) ?_ ?_)
      ·
       have hW:tdW ⟨o,x,y⟩ (d.getD i default)=⟨o,x,y⟩:=by unfold tdW;rw[if_pos h14,if_pos hn0]
       have hb:¬z5L ⟨o,x,y⟩ (d.getD i default):=fun h=>h.1 h14
       have hN2:=hN hb
       rw[if_neg hb] at hT
       rw[hW] at hT hN2
       exact⟨by omega,I3.2.1.trans hT,hN2⟩
      ·
       ((try dsimp only);omega)
     ·
      refine .back [.r [(4,X (Xc3 442 [(0,16),(1,24),(2,25)] (z4B o x y (((d.getD i default)).n) (((d.getD i default)).attrs) (by omega) (by first|omega|simp) (by omega) (by first|assumption|exact kbd (by assumption))) X0))],.r [(0,X (Xn ((i:Int)+1)))]] [(16,16),(24,24),(442,25)] (ih3 ((i+1),0,(z1a (z0b ⟨o,x,y⟩) (((d.getD i default)).n) (((d.getD i default)).attrs)),[]) ?_ ?_)
      ·
       have hW:tdW ⟨o,x,y⟩ (d.getD i default)=⟨z1a (z0b ⟨o,x,y⟩) (d.getD i default).n (d.getD i default).attrs,[],0⟩:=by unfold tdW;rw[if_pos h14,if_neg hn0]
       have hb:¬z5L ⟨o,x,y⟩ (d.getD i default):=fun h=>h.1 h14
       have hN2:=hN hb
       rw[if_neg hb] at hT
       rw[hW] at hT hN2
       exact⟨by omega,I3.2.1.trans hT,hN2⟩
      ·
       ((try dsimp only);omega)
    ·
     refine .bp [.r []] ((((d.getD i default)).kind)==1) (fun h16=> ?_) (fun h16=> ?_)
     ·
      have hz:True:=trivial
      refine .back [.r [(2,X (Xc3 442 [(0,16),(1,24),(2,25)] (z4g o x y (((d.getD i default)).elems) (by assumption) (by omega)) X0))],.r [(0,X (Xn ((i:Int)+1)))]] [(16,16),(24,24),(25,25)] (ih3 ((i+1),y,o,(x++(((d.getD i default)).elems))) ?_ ?_)
      ·
       have hW:tdW ⟨o,x,y⟩ (d.getD i default)=⟨o,x++(d.getD i default).elems,y⟩:=by unfold tdW;rw[if_neg h14,if_pos h16]
       have hb:¬z5L ⟨o,x,y⟩ (d.getD i default):=fun h=>h.2.1 h16
       have hN2:=hN hb
       rw[if_neg hb] at hT
       rw[hW] at hT hN2
       exact⟨by omega,I3.2.1.trans hT,hN2⟩
      ·
       ((try dsimp only);omega)
     ·
      refine .bp [.r [(4,X (Xn (y+(((d.getD i default)).n))))],.r []] (decide ((y+(((d.getD i default)).n))> 2147483647)) (fun h12=> ?_) (fun h12=> ?_)
      ·
       refine .at 506 [(16,16),(24,24),(25,25)] ([(4,.ptr 16 0),(8,VL 4 z0d d),(9,VI (d.length:Int)),(10,VI (i:Int)),(59,VB (decide ((y+(((d.getD i default)).n))> 2147483647)))],[(16,.box [.row 24 o.length,.row 25 x.length,VI (y+(((d.getD i default)).n))]),(24,OR 4 z0d o),(25,OR 3 z0c x)]) ?_
       have e3:((z2Q d):List DStep)=[]:=by
        unfold z2Q
        rw[I3.2.1,hT,if_pos ⟨h14,h16,by simp only;omega⟩]
       have e4:((z6d d):Int)=3:=by
        unfold z6d
        rw[I3.2.1,hT,if_pos ⟨h14,h16,by simp only;omega⟩]
       exact .finE [.r [],.le (.nL 2 4)] [] (fun((z0,z1):(List DStep)×Int)=>(.tup [VL 4 z0d z0,VI z1],[])) _ _ (pr e3 e4)
      ·
       refine .at 506 [(16,16),(24,24),(25,25)] ([(4,.ptr 16 0),(8,VL 4 z0d d),(9,VI (d.length:Int)),(10,VI (i:Int)),(59,VB (decide ((y+(((d.getD i default)).n))> 2147483647)))],[(16,.box [.row 24 o.length,.row 25 x.length,VI (y+(((d.getD i default)).n))]),(24,OR 4 z0d o),(25,OR 3 z0c x)]) ?_
       refine .back [.r [(0,X (Xn ((i:Int)+1)))]] [(16,16),(24,24),(25,25)] (ih3 ((i+1),(y+(((d.getD i default)).n)),o,x) ?_ ?_)
       ·
        have hW:tdW ⟨o,x,y⟩ (d.getD i default)=⟨o,x,y+(d.getD i default).n⟩:=by unfold tdW;rw[if_neg h14,if_neg h16]
        have hb:¬z5L ⟨o,x,y⟩ (d.getD i default):=fun h=>by have:=h.2.2;simp only at this;omega
        have hN2:=hN hb
        rw[if_neg hb] at hT
        rw[hW] at hT hN2
        exact⟨by omega,I3.2.1.trans hT,hN2⟩
       ·
        ((try dsimp only);omega)
  ·
   have hL:z9H (d.getD i default)=(z0Q ((d.getD i default))):=by unfold z9H;first|rw[if_pos (by omega)]|rw[if_neg (by omega)]
   refine .bp [.r []] ((z0Q ((d.getD i default))) !=0) (fun h8=> ?_) (fun h8=> ?_)
   ·
    have e5:((z2Q d):List DStep)=[]:=by
     unfold z2Q
     rw[I3.2.1,hT,if_pos (by rw[hL];exact h8)]
    have e6:((z6d d):Int)=(z0Q ((d.getD i default))):=by
     unfold z6d
     rw[I3.2.1,hT,if_pos (by rw[hL];exact h8)]
     exact hL
    exact .finE [.r [],.le (.nL 2 4)] [] (fun((z0,z1):(List DStep)×Int)=>(.tup [VL 4 z0d z0,VI z1],[])) _ _ (pr e5 e6)
   ·
    have hL0:z9H (d.getD i default)=0:=by rw[hL];omega
    rw[if_neg (by rw[hL0];decide)] at hT
    obtain⟨hk,hn1,hn2⟩:=y4F hL0
    have hN:=I3.2.2.next (by omega) hd hL0
    clear h6
    refine .bp [.r [],.r []] ((((d.getD i default)).kind)==0) (fun h14=> ?_) (fun h14=> ?_)
    ·
     by_cases hn0:(d.getD i default).n=0
     ·
      refine .back [.r [(4,X (Xc3 410 [(0,16),(1,24),(2,25)] (y3F o x y (((d.getD i default)).n) (((d.getD i default)).attrs) (by assumption)) X0))],.r [(0,X (Xn ((i:Int)+1)))]] [(16,16),(24,24),(25,25)] (ih3 ((i+1),y,o,x) ?_ ?_)
      ·
       have hW:tdW ⟨o,x,y⟩ (d.getD i default)=⟨o,x,y⟩:=by unfold tdW;rw[if_pos h14,if_pos hn0]
       have hb:¬z5L ⟨o,x,y⟩ (d.getD i default):=fun h=>h.1 h14
       have hN2:=hN hb
       rw[if_neg hb] at hT
       rw[hW] at hT hN2
       exact⟨by omega,I3.2.1.trans hT,hN2⟩
      ·
       ((try dsimp only);omega)
     ·
      refine .back [.r [(4,X (Xc3 410 [(0,16),(1,24),(2,25)] (z4B o x y (((d.getD i default)).n) (((d.getD i default)).attrs) (by omega) (by first|omega|simp) (by omega) (by first|assumption|exact kbd (by assumption))) X0))],.r [(0,X (Xn ((i:Int)+1)))]] [(16,16),(24,24),(410,25)] (ih3 ((i+1),0,(z1a (z0b ⟨o,x,y⟩) (((d.getD i default)).n) (((d.getD i default)).attrs)),[]) ?_ ?_)
      ·
       have hW:tdW ⟨o,x,y⟩ (d.getD i default)=⟨z1a (z0b ⟨o,x,y⟩) (d.getD i default).n (d.getD i default).attrs,[],0⟩:=by unfold tdW;rw[if_pos h14,if_neg hn0]
       have hb:¬z5L ⟨o,x,y⟩ (d.getD i default):=fun h=>h.1 h14
       have hN2:=hN hb
       rw[if_neg hb] at hT
       rw[hW] at hT hN2
       exact⟨by omega,I3.2.1.trans hT,hN2⟩
      ·
       ((try dsimp only);omega)
    ·
     refine .bp [.r []] ((((d.getD i default)).kind)==1) (fun h16=> ?_) (fun h16=> ?_)
     ·
      have hz:True:=trivial
      refine .back [.r [(2,X (Xc3 410 [(0,16),(1,24),(2,25)] (z4g o x y (((d.getD i default)).elems) (by assumption) (by omega)) X0))],.r [(0,X (Xn ((i:Int)+1)))]] [(16,16),(24,24),(25,25)] (ih3 ((i+1),y,o,(x++(((d.getD i default)).elems))) ?_ ?_)
      ·
       have hW:tdW ⟨o,x,y⟩ (d.getD i default)=⟨o,x++(d.getD i default).elems,y⟩:=by unfold tdW;rw[if_neg h14,if_pos h16]
       have hb:¬z5L ⟨o,x,y⟩ (d.getD i default):=fun h=>h.2.1 h16
       have hN2:=hN hb
       rw[if_neg hb] at hT
       rw[hW] at hT hN2
       exact⟨by omega,I3.2.1.trans hT,hN2⟩
      ·
       ((try dsimp only);omega)
     ·
      refine .bp [.r [(4,X (Xn (y+(((d.getD i default)).n))))],.r []] (decide ((y+(((d.getD i default)).n))> 2147483647)) (fun h12=> ?_) (fun h12=> ?_)
      ·
       refine .at 474 [(16,16),(24,24),(25,25)] ([(4,.ptr 16 0),(8,VL 4 z0d d),(9,VI (d.length:Int)),(10,VI (i:Int)),(59,VB (decide ((y+(((d.getD i default)).n))> 2147483647)))],[(16,.box [.row 24 o.length,.row 25 x.length,VI (y+(((d.getD i default)).n))]),(24,OR 4 z0d o),(25,OR 3 z0c x)]) ?_
       have e7:((z2Q d):List DStep)=[]:=by
        unfold z2Q
        rw[I3.2.1,hT,if_pos ⟨h14,h16,by simp only;omega⟩]
       have e8:((z6d d):Int)=3:=by
        unfold z6d
        rw[I3.2.1,hT,if_pos ⟨h14,h16,by simp only;omega⟩]
       exact .finE [.r [],.le (.nL 2 4)] [] (fun((z0,z1):(List DStep)×Int)=>(.tup [VL 4 z0d z0,VI z1],[])) _ _ (pr e7 e8)
      ·
       refine .at 474 [(16,16),(24,24),(25,25)] ([(4,.ptr 16 0),(8,VL 4 z0d d),(9,VI (d.length:Int)),(10,VI (i:Int)),(59,VB (decide ((y+(((d.getD i default)).n))> 2147483647)))],[(16,.box [.row 24 o.length,.row 25 x.length,VI (y+(((d.getD i default)).n))]),(24,OR 4 z0d o),(25,OR 3 z0c x)]) ?_
       refine .back [.r [(0,X (Xn ((i:Int)+1)))]] [(16,16),(24,24),(25,25)] (ih3 ((i+1),(y+(((d.getD i default)).n)),o,x) ?_ ?_)
       ·
        have hW:tdW ⟨o,x,y⟩ (d.getD i default)=⟨o,x,y+(d.getD i default).n⟩:=by unfold tdW;rw[if_neg h14,if_neg h16]
        have hb:¬z5L ⟨o,x,y⟩ (d.getD i default):=fun h=>by have:=h.2.2;simp only at this;omega
        have hN2:=hN hb
        rw[if_neg hb] at hT
        rw[hW] at hT hN2
        exact⟨by omega,I3.2.1.trans hT,hN2⟩
       ·
        ((try dsimp only);omega)
 ·
  by_cases hck:z1u (z0b ⟨o,x,y⟩)=0
  ·
   have hTe:=y3h (d:=d) (i:=i) (by omega) ⟨o,x,y⟩
   obtain⟨f1,f2⟩:=I3.2.2.flush (by omega) (by omega) (by rw[qp (by omega)];omega)
   have e9:((z2Q d):List DStep)=(z0b ⟨o,x,y⟩):=by
    unfold z2Q
    rw[I3.2.1,hTe,if_pos hck]
   have e10:((z6d d):Int)=0:=by
    unfold z6d
    rw[I3.2.1,hTe,if_pos hck]
   exact .finE [.r [(0,X (Xc3 58 [(0,16),(1,24),(2,25)] (z8o o x y (by omega) (by assumption) (by assumption)) X0))],.le (.fr 2 [(((z0b ⟨o,x,y⟩).length):Nat)=(List.map z0d (z0b ⟨o,x,y⟩)).length] ⟨lm,trivial⟩)] [] (fun((z0,z1):(List DStep)×Int)=>(.tup [VL 4 z0d z0,VI z1],[])) _ _ (pr e9 e10)
  ·
   have hTe:=y3h (d:=d) (i:=i) (by omega) ⟨o,x,y⟩
   obtain⟨f1,f2⟩:=I3.2.2.flush (by omega) (by omega) (by rw[qp (by omega)];omega)
   have e11:((z2Q d):List DStep)=[]:=by
    unfold z2Q
    rw[I3.2.1,hTe,if_neg hck]
   have e12:((z6d d):Int)=3:=by
    unfold z6d
    rw[I3.2.1,hTe,if_neg hck]
   exact .finE [.r [(0,X (Xc3 58 [(0,16),(1,24),(2,25)] (x0Y o x y (by omega) (by assumption) (by assumption)) X0))]] [] (fun((z0,z1):(List DStep)×Int)=>(.tup [VL 4 z0d z0,VI z1],[])) _ _ (pr e11 e12)
theorem x0Z(x:Elem)(mode:Int):FC Tryz.prog 192 [.t (z0c x),VI mode] (app emp []) (VB (y6p x mode)) (app emp []):=by
 refine .go Tryz.f192 ?_
 have e1:((y6p x mode):Bool)=((seq (z19 x.attrs ({data:=#[104,105,100,100,101,110]}) 0) ({data:=#[111,110]})|| ((mode==0)&& !(seq (z19 x.attrs ({data:=#[99,117,116]}) 0) ({data:=#[]}))))|| ((mode==1)&& !(seq (z19 x.attrs ({data:=#[97,100,100]}) 0) ({data:=#[]})))):=by
  rfl
 exact .finE [.r [],.r [(2,X (Xc0 (z7P x.attrs ({data:=#[104,105,100,100,101,110]})) X0)),(6,Xv 1 (!(seq (z19 x.attrs ({data:=#[104,105,100,100,101,110]}) 0) ({data:=#[111,110]}))) X0),(7,Xv 1 (!(seq (z19 x.attrs ({data:=#[104,105,100,100,101,110]}) 0) ({data:=#[111,110]}))) X0),(9,Xv 1 ((!(seq (z19 x.attrs ({data:=#[104,105,100,100,101,110]}) 0) ({data:=#[111,110]})))&&(mode==0)) X0),(10,Xv 1 ((!(seq (z19 x.attrs ({data:=#[104,105,100,100,101,110]}) 0) ({data:=#[111,110]})))&&(mode==0)) (Xc0 (z7P x.attrs ({data:=#[99,117,116]})) X0)),(11,Xv 1 ((!(seq (z19 x.attrs ({data:=#[104,105,100,100,101,110]}) 0) ({data:=#[111,110]})))&&(mode==0)) X0),(12,Xka (!(seq (z19 x.attrs ({data:=#[104,105,100,100,101,110]}) 0) ({data:=#[111,110]}))) (mode==0)),(13,X (Xk' (seq (z19 x.attrs ({data:=#[104,105,100,100,101,110]}) 0) ({data:=#[111,110]})))),(16,Xv 1 (!(seq (z19 x.attrs ({data:=#[104,105,100,100,101,110]}) 0) ({data:=#[111,110]})|| ((mode==0)&& !(seq (z19 x.attrs ({data:=#[99,117,116]}) 0) ({data:=#[]}))))) X0),(17,Xv 1 (!(seq (z19 x.attrs ({data:=#[104,105,100,100,101,110]}) 0) ({data:=#[111,110]})|| ((mode==0)&& !(seq (z19 x.attrs ({data:=#[99,117,116]}) 0) ({data:=#[]}))))) X0),(19,Xv 1 ((!(seq (z19 x.attrs ({data:=#[104,105,100,100,101,110]}) 0) ({data:=#[111,110]})|| ((mode==0)&& !(seq (z19 x.attrs ({data:=#[99,117,116]}) 0) ({data:=#[]})))))&&(mode==1)) X0),(20,Xv 1 ((!(seq (z19 x.attrs ({data:=#[104,105,100,100,101,110]}) 0) ({data:=#[111,110]})|| ((mode==0)&& !(seq (z19 x.attrs ({data:=#[99,117,116]}) 0) ({data:=#[]})))))&&(mode==1)) (Xc0 (z7P x.attrs ({data:=#[97,100,100]})) X0)),(21,Xv 1 ((!(seq (z19 x.attrs ({data:=#[104,105,100,100,101,110]}) 0) ({data:=#[111,110]})|| ((mode==0)&& !(seq (z19 x.attrs ({data:=#[99,117,116]}) 0) ({data:=#[]})))))&&(mode==1)) X0),(22,Xka (!(seq (z19 x.attrs ({data:=#[104,105,100,100,101,110]}) 0) ({data:=#[111,110]})|| ((mode==0)&& !(seq (z19 x.attrs ({data:=#[99,117,116]}) 0) ({data:=#[]}))))) (mode==1)),(23,X (Xk' (seq (z19 x.attrs ({data:=#[104,105,100,100,101,110]}) 0) ({data:=#[111,110]})|| ((mode==0)&& !(seq (z19 x.attrs ({data:=#[99,117,116]}) 0) ({data:=#[]}))))))]] [] (fun z0:Bool=>(VB z0,[])) _ _ e1
theorem x00(f:List Elem)(mode:Int)(hn:f.length<=100000000000):FC Tryz.prog 121 [VL 3 z0c f,VI mode] (app emp []) (VL 1 z0B (y3i f mode f.length)) (app emp []):=by
 refine .go Tryz.f121 ?_
 refine .len 0 (fun hl0=> ?_)
 refine .loop (α:=Nat×(List Int)) [.r [],.r [],.r [(1,X (Xl z0c f))],.le (.nR 5 1)] 41 (fun(i,o)=>([(0,VL 3 z0c f),(1,VI mode),(5,.row 40 o.length),(8,VL 3 z0c f),(9,VI (f.length:Int)),(10,VI (i:Int))],[(40,OR 1 z0B o)])) (fun(i,o)=>i<=f.length/\o=y3i f mode i) (fun(i,o)=>f.length-i) (0,[]) ?_ ?_
 ·
  exact⟨by omega,rfl⟩
 rintro⟨i,o⟩ I3 ih3
 try dsimp only at I3
 have ol:o.length<=i:=by rw[I3.2];exact y6q f mode i
 refine .bp [.r []] (decide ((i:Int)< (f.length:Int))) (fun h3=> ?_) (fun h3=> ?_)
 ·
  refine .bp [.r [(1,X (Xi z0c f (i:Int)))],.r [(2,X (Xc0 (x0Z ((f.getD i default)) mode) X0)),(7,Xv 1 (!(!(y6p ((f.getD i default)) mode))) (Xl z0c f)),(8,Xv 1 (!(!(y6p ((f.getD i default)) mode))) (Xn ((f.length:Int)- 1))),(9,Xv 2 (!(!(y6p ((f.getD i default)) mode))) X0),(10,Xv 1 (!(!(y6p ((f.getD i default)) mode))) X0),(12,Xv 1 ((!(!(y6p ((f.getD i default)) mode)))&&((i:Int)==((f.length:Int)- 1))) X0),(13,Xv 1 ((!(!(y6p ((f.getD i default)) mode)))&&((i:Int)==((f.length:Int)- 1))) X0),(14,Xka (!(!(y6p ((f.getD i default)) mode))) ((i:Int)==((f.length:Int)- 1))),(15,X (Xk' (!(y6p ((f.getD i default)) mode))))]] (!(y6p ((f.getD i default)) mode)|| (((i:Int)==((f.length:Int)- 1))&&((((f.getD i default)).char)==10))) (fun h5=> ?_) (fun h5=> ?_)
  ·
   refine .back [.r [(3,X (z0Y z0B [(i:Int)] (Xap 1 z0B 40 o [(i:Int)])))],.r [(0,X (Xn ((i:Int)+1)))]] [(40,40)] (ih3 ((i+1),(o++[(i:Int)])) ?_ ?_)
   ·
    refine⟨by omega,?_⟩
    rw[I3.2,y3j]
    first|rw[if_pos (y92 h5)]|rw[if_neg (by rw[x3K h5];decide),qQ]
   ·
    ((try dsimp only);omega)
  ·
   refine .back [.r [(0,X (Xn ((i:Int)+1)))]] [(40,40)] (ih3 ((i+1),o) ?_ ?_)
   ·
    refine⟨by omega,?_⟩
    rw[I3.2,y3j]
    first|rw[if_pos (y92 h5)]|rw[if_neg (by rw[x3K h5];decide),qQ]
   ·
    ((try dsimp only);omega)
 ·
  have e1:((y3i f mode f.length):List Int)=o:=by
   rw[I3.2,show i=f.length by omega]
  exact .finE [.r [],.le (.fr 4 [(o.length:Nat)=(List.map z0B o).length] ⟨lm,trivial⟩)] [] (fun z0:List Int=>(VL 1 z0B z0,[])) _ _ e1
theorem x01(pl:List Int)(k:Int)(hk:0<=k/\k<=pl.length)(hp:∀x∈pl,0<=x/\x<=1000000000):FC Tryz.prog 130 [VL 1 z0B pl,VI k] (app emp []) (VI (z7V pl k)) (app emp []):=by
 refine .go Tryz.f130 ?_
 refine .len 0 (fun hl0=> ?_)
 refine .bp [.r [],.r []] (k==0) (fun h1=> ?_) (fun h1=> ?_)
 ·
  have e1:((z7V pl k):Int)=0:=by
   unfold z7V;rw[if_pos (by omega)]
  exact .finE [.r []] [] (fun z0:Int=>(VI z0,[])) _ _ e1
 ·
  have hx:=hp _ (z0j (l:=pl) (i:=(k- 1).toNat) (by omega))
  have e2:((z7V pl k):Int)=((pl.getD (Int.toNat (k- 1)) default)+1):=by
   unfold z7V;rw[if_neg (by omega)]
  exact .finE [.r [(2,X (Xn (k- 1))),(3,X (Xi z0B pl (k- 1))),(5,X (Xn ((pl.getD (Int.toNat (k- 1)) default)+1)))]] [] (fun z0:Int=>(VI z0,[])) _ _ e2
theorem y3G(f:List Elem)(pl:List Int)(au:ByteArray)(hf:f.length<=10000000)(hp:∀x∈pl,0<=x/\x< (f.length:Int)):FC Tryz.prog 129 [VL 3 z0c f,VL 1 z0B pl,VS au] (app emp []) (VL 4 z0d (z7w f pl au)) (app emp []):=by
 refine .go Tryz.f129 ?_
 refine .len 0 (fun hl0=> ?_)
 refine .len 1 (fun hl1=> ?_)
 obtain⟨dn,el⟩:=x5a f pl au f.length
 have sl:=y6s f pl au f.length
 refine .loop (α:=Nat×(List Bool)) [.r [],.r [(1,X (Xl z0c f)),(2,X (Xmk 1 z3R 24 (f.length:Int) (f.length:Int) false))],.r [(1,X (Xl z0B pl))]] 64 (fun(k,m)=>([(0,VL 3 z0c f),(2,VS au),(7,.row 24 f.length),(19,VL 1 z0B pl),(20,VI (pl.length:Int)),(21,VI (k:Int))],[(24,OR 1 z3R m)])) (fun(k,m)=>k<=pl.length/\m=z9j (pl.take k) f.length) (fun(k,m)=>pl.length-k) (0,(List.replicate f.length false)) ?_ ?_
 ·
  exact⟨by omega,by rw[List.take_zero,y95]⟩
 rintro⟨k,m⟩ I3 ih3
 try dsimp only at I3
 have ol:m.length=f.length:=by rw[I3.2,y94]
 refine .bp [.r []] (decide ((k:Int)< (pl.length:Int))) (fun h3=> ?_) (fun h3=> ?_)
 ·
  have hpk:=hp _ (z0j (l:=pl) (i:=k) (by omega))
  refine .back [.r [(0,X (Xi z0B pl (k:Int)))],.r [(2,X (Xpn f.length z3R m (pl.getD k default))),(3,X (Xsn f.length 1 z3R 24 m (Int.toNat (pl.getD k default)) true))],.r [(0,X (Xn ((k:Int)+1)))]] [(24,24)] (ih3 ((k+1),(m.set (Int.toNat (pl.getD k default)) true)) ?_ ?_)
  ·
   exact⟨by omega,by rw[I3.2];exact y7O (by omega) hpk⟩
  ·
   ((try dsimp only);omega)
 ·
  have hm:m=z9j pl f.length:=by rw[I3.2,qp (by omega)]
  refine .loop (α:=Nat×(List DStep)) [.r [],.r [(1,X (Xl z0c f))],.le (.nR 10 4)] 105 (fun(i,o)=>([(2,VS au),(7,.row 24 f.length),(10,.row 104 o.length),(29,VL 3 z0c f),(30,VI (f.length:Int)),(31,VI (i:Int))],[(24,OR 1 z3R m),(104,OR 4 z0d o)])) (fun(i,o)=>i<=f.length/\o=y7N f pl au i) (fun(i,o)=>f.length-i) (0,[]) ?_ ?_
  ·
   exact⟨by omega,rfl⟩
  rintro⟨i,o⟩ I9 ih9
  try dsimp only at I9
  have ol2:o.length=i:=by rw[I9.2];exact y6s f pl au i
  refine .bp [.r []] (decide ((i:Int)< (f.length:Int))) (fun h9=> ?_) (fun h9=> ?_)
  ·
   have hmi:m.getD i default=pl.any (fun p=>p==(i:Int)):=by rw[hm];exact x2F (by omega)
   refine .bp [.r [(1,X (Xi z0c f (i:Int)))],.r [(0,X (Xf [(2,2),(3,3)]))],.r [(2,X (Xpn f.length z3R m (i:Int))),(3,X (Xen f.length z3R m i))]] (!(m.getD i default)) (fun h13=> ?_) (fun h13=> ?_)
   ·
    refine .back [.r [(3,X (z0Y z0d [({kind:=0,n:=1,attrs:=[],elems:=[]}:DStep)] (Xap 4 z0d 104 o [({kind:=0,n:=1,attrs:=[],elems:=[]}:DStep)])))],.r [(0,X (Xn ((i:Int)+1)))]] [(24,24),(104,104)] (ih9 ((i+1),(o++[({kind:=0,n:=1,attrs:=[],elems:=[]}:DStep)])) ?_ ?_)
    ·
     refine⟨by omega,?_⟩
     rw[I9.2,z9k,x8B (hmi.symm.trans h13)]
    ·
     ((try dsimp only);omega)
   ·
    refine .bp [.r [(4,Xv 1 (!(seq au ({data:=#[]}))) X0),(5,Xv 1 (!(seq au ({data:=#[]}))) (Xc0 (z7P (((f.getD i default)).attrs) ({data:=#[97,100,100]})) X0)),(7,Xv 2 (!(seq au ({data:=#[]}))) X0),(8,X (Xk' (seq au ({data:=#[]}))))]] (seq au ({data:=#[]})||seq (z19 (((f.getD i default)).attrs) ({data:=#[97,100,100]}) 0) au) (fun h14=> ?_) (fun h14=> ?_)
    ·
     refine .back [.r [],.r [(3,X (z0Y z0d [({kind:=2,n:=1,attrs:=[],elems:=[]}:DStep)] (Xap 4 z0d 104 o [({kind:=2,n:=1,attrs:=[],elems:=[]}:DStep)])))],.r [(0,X (Xn ((i:Int)+1)))]] [(24,24),(104,104)] (ih9 ((i+1),(o++[({kind:=2,n:=1,attrs:=[],elems:=[]}:DStep)])) ?_ ?_)
     ·
      refine⟨by omega,?_⟩
      rw[I9.2,z9k,x8C (hmi.symm.trans h13) h14]
     ·
      ((try dsimp only);omega)
    ·
     refine .back [.r [],.r [(2,X (z0Y z0a [({name:={data:=#[99,117,116]},val:=au}:Attr)] X0)),(3,X (z0Y z0d [({kind:=0,n:=1,attrs:=[({name:={data:=#[99,117,116]},val:=au}:Attr)],elems:=[]}:DStep)] (Xap 4 z0d 104 o [({kind:=0,n:=1,attrs:=[({name:={data:=#[99,117,116]},val:=au}:Attr)],elems:=[]}:DStep)])))],.r [(0,X (Xn ((i:Int)+1)))]] [(24,24),(104,104)] (ih9 ((i+1),(o++[({kind:=0,n:=1,attrs:=[({name:={data:=#[99,117,116]},val:=au}:Attr)],elems:=[]}:DStep)])) ?_ ?_)
     ·
      refine⟨by omega,?_⟩
      rw[I9.2,z9k,x8D (hmi.symm.trans h13) h14]
     ·
      ((try dsimp only);omega)
  ·
   have ho:o=y7N f pl au f.length:=by rw[I9.2,show i=f.length by omega]
   rw[<-ho] at dn el sl
   have e1:((z7w f pl au):List DStep)=(z2Q o):=by
    rw[ho];rfl
   exact .finE [.r [(1,X (Xc1 121 (z8A o (by assumption) (by omega) (by omega)) (z0Y z0d o X0)))],.r []] [] (fun z0:List DStep=>(VL 4 z0d z0,[])) _ _ e1
theorem x28(l:List Elem)(hn:l.length<=1048576)(hs:∀x∈l,x.attrs.length<=1048576):FC Tryz.prog 82 [VL 3 z0c l] (app emp []) (.row 0 l.length) (app emp [(0,OR 3 z0c l)]):=by
 refine .go Tryz.f82 ?_
 refine .len 0 (fun hl0=> ?_)
 refine .loop (α:=Nat×(List Elem)) [.r [],.r [(1,X (Xl z0c l)),(2,X (Xmz 3 z0c 24 (l.length:Int) (l.length:Int) ({char:=0,ref:=0,attrs:=[]}:Elem) [TI 0,TI 0,TN] ⟨.inl rfl,⟨.inl rfl,⟨z02 (by decide),trivial⟩⟩⟩))],.r [(1,X (Xl z0c l))]] 64 (fun(i,o)=>([(3,.row 24 l.length),(9,VL 3 z0c l),(10,VI (l.length:Int)),(11,VI (i:Int))],[(24,OR 3 z0c o)])) (fun(i,o)=>i<=l.length/\o=l.take i++List.replicate (l.length-i) ({char:=0,ref:=0,attrs:=[]}:Elem)) (fun(i,o)=>l.length-i) (0,(List.replicate l.length ({char:=0,ref:=0,attrs:=[]}:Elem))) ?_ ?_
 ·
  exact⟨by omega,by simp⟩
 rintro⟨i,o⟩ I3 ih3
 try dsimp only at I3
 have ol:o.length=l.length:=by rw[I3.2];simp;omega
 refine .bp [.r []] (decide ((i:Int)< (l.length:Int))) (fun h3=> ?_) (fun h3=> ?_)
 ·
  have hx:=hs _ (z49 (l:=l) (k:=i) (by omega))
  refine .back [.r [(1,X (Xi z0c l (i:Int)))],.r [(8,X (Xan z0a 184 (((l.getD i default)).attrs))),(10,X (Xpn l.length z0c o (i:Int))),(11,X (z0Y z0a (((l.getD i default)).attrs) (Xsn l.length 3 z0c 24 o i ((l.getD i default)) [(184,OF 2 z0a (((l.getD i default)).attrs))])))],.r [(0,X (Xn ((i:Int)+1)))]] [(24,24)] (ih3 ((i+1),(o.set i ((l.getD i default)))) ?_ ?_)
  ·
   refine⟨by omega,?_⟩
   rw[I3.2]
   exact z4z rfl (by omega) rfl
  ·
   ((try dsimp only);omega)
 ·
  have e1:(l:List Elem)=o:=by
   first|omega| (rw[I3.2,qp (by omega),show l.length-i=0 by omega];simp)
  exact .finE [.r []] [(24,0)] (fun z0:List Elem=>(.row 0 l.length,[(0,OR 3 z0c z0)])) _ _ e1
theorem y61(f:List Elem)(k:Int)(es:List Elem)(au:ByteArray)(hf:f.length<=10000000)(hk:0<=k/\k<=f.length)(he:es.length<=1048576)(ha:∀x∈es,x.attrs.length<=1048576):FC Tryz.prog 131 [VL 3 z0c f,VI k,VL 3 z0c es,VS au] (app emp []) (VL 4 z0d (y0o f.length k es au)) (app emp []):=by
 refine .go Tryz.f131 ?_
 refine .len 0 (fun hl0=> ?_)
 refine .len 2 (fun hl2=> ?_)
 obtain⟨dn,el⟩:=x5b f.length k es au he ha
 refine .loop (α:=Nat×(List Elem)) [.r [],.r [(1,X (Xc1 16 (x28 es (by assumption) (by assumption)) X0))],.r []] 56 (fun(i,o)=>([(0,VL 3 z0c f),(1,VI k),(3,VS au),(9,.row 16 ((es).length)),(16,VI ((es).length:Int)),(17,VI (i:Int))],[(16,OR 3 z0c o)])) (fun(i,o)=>i<=es.length/\o=(es.take i).map (x49 au)++es.drop i) (fun(i,o)=>es.length-i) (0,es) ?_ ?_
 ·
  exact⟨by omega,by simp⟩
 rintro⟨i,o⟩ I3 ih3
 try dsimp only at I3
 have ol:o.length=es.length:=by rw[I3.2];simp;omega
 refine .bp [.r []] (decide ((i:Int)< ((es).length:Int))) (fun h3=> ?_) (fun h3=> ?_)
 ·
  have hxa:=ha _ (z0j (l:=es) (i:=i) (by omega))
  have hog:o.getD i default=es.getD i default:=by rw[I3.2];exact y96 (by omega)
  rw[<-hog] at hxa
  refine .back [.r [],.r [(4,X (Xpn ((es).length) z0c o (i:Int))),(6,X (Xen ((es).length) z0c o i)),(11,X (Xc1 168 (z81 (((o.getD i default)).attrs) [({name:={data:=#[97,100,100]},val:=au}:Attr),({name:={data:=#[99,117,116]},val:={data:=#[]}}:Attr)] (by simp only[qi,zg];omega)) (z0Y z0a [({name:={data:=#[97,100,100]},val:=au}:Attr),({name:={data:=#[99,117,116]},val:={data:=#[]}}:Attr)] X0))),(12,X (Xpn ((es).length) z0c o (i:Int))),(14,X (Xsn ((es).length) 3 z0c 16 o i ({char:=((o.getD i default)).char,ref:=((o.getD i default)).ref,attrs:=(fm z2e (((o.getD i default)).attrs) [({name:={data:=#[97,100,100]},val:=au}:Attr),({name:={data:=#[99,117,116]},val:={data:=#[]}}:Attr)])}:Elem)))],.r [(0,X (Xn ((i:Int)+1)))]] [(16,16)] (ih3 ((i+1),(o.set i ({char:=((o.getD i default)).char,ref:=((o.getD i default)).ref,attrs:=(fm z2e (((o.getD i default)).attrs) [({name:={data:=#[97,100,100]},val:=au}:Attr),({name:={data:=#[99,117,116]},val:={data:=#[]}}:Attr)])}:Elem))) ?_ ?_)
  ·
   refine⟨by omega,?_⟩
   rw[hog,I3.2];exact y3k (by omega)
  ·
   ((try dsimp only);omega)
 ·
  have ho:o=es.map (x49 au):=by rw[I3.2,qp (by omega),qM (by omega),qQ]
  obtain⟨dn2,l2,e2⟩:=x60 ho dn el
  have e1:((y0o f.length k es au):List DStep)=(z2Q [({kind:=0,n:=k,attrs:=[],elems:=[]}:DStep),({kind:=1,n:=0,attrs:=[],elems:=o}:DStep),({kind:=0,n:=((f.length:Int)- k),attrs:=[],elems:=[]}:DStep)]):=by
   rw[ho];rfl
  exact .finE [.r [(1,X (Xf [(2,2),(3,3)])),(3,X (Xf [(2,2)])),(5,X (Xl z0c f)),(7,X (Xn ((f.length:Int)- k))),(8,X (Xf [(2,2),(3,3)])),(9,X (x7X ((es).length) z0c o X0)),(10,X (Xc1 144 (z8A [({kind:=0,n:=k,attrs:=[],elems:=[]}:DStep),({kind:=1,n:=0,attrs:=[],elems:=o}:DStep),({kind:=0,n:=((f.length:Int)- k),attrs:=[],elems:=[]}:DStep)] dn2 l2 e2) (z0Y z0d [({kind:=0,n:=k,attrs:=[],elems:=[]}:DStep),({kind:=1,n:=0,attrs:=[],elems:=o}:DStep),({kind:=0,n:=((f.length:Int)- k),attrs:=[],elems:=[]}:DStep)] X0)))],.r []] [] (fun z0:List DStep=>(VL 4 z0d z0,[])) _ _ e1
theorem x29(a b:List Attr)(ha:z1B true a 0=0)(hb:z1B true b 0=0)(hn:a.length+b.length<1099511627776):FC Tryz.prog 41 [VL 2 z0a a,VL 2 z0a b] (app emp []) (.tup [VL 2 z0a (fm z3N a b),VL 2 z0a b,VI 0]) (app emp []):=by
 have h:=x4H a b hn
 have e1:z56 a b=fm z3N a b:=by unfold z56;rw[if_pos ⟨ha,hb⟩]
 have e2:z57 a b=b:=by unfold z57;rw[if_pos ⟨ha,hb⟩]
 have e3:z55 a b=0:=by unfold z55;rw[if_pos ha];exact hb
 rw[e1,e2,e3] at h;exact h
theorem x02(a b:GEd)(h:False):FC Tryz.prog 43 [.t (x2d a),.t (x2d b)] (app emp []) (.tup [.t (x2d a),.t (x2d b),VI 0]) (app emp []):=h.elim
theorem x3a(U:US)(s t:Int)(p q:EOp)(hU:UB U)(hb:y76 U s t p q):FC Tryz.prog 18 [.t (z0F p),.t (z0F q)] (app emp []) (.tup [.t (z0F ((z1j p q).1)),.t (z0F ((z1j p q).2)),VI 0]) (app emp []):=by
 refine .go Tryz.f18 ?_
 have kp:=x5M hb.1
 have l1:=x4a hU hb.1
 have l2:=x4a hU hb.2.1
 refine .bp [.r [],.r [],.r [(7,Xv 1 (!(p.kind !=q.kind)) X0),(8,Xv 1 (!(p.kind !=q.kind)) X0),(9,X (Xk' (p.kind !=q.kind))),(12,Xv 1 (!((p.kind !=q.kind)|| (p.kind==0))) X0),(14,Xv 1 (!((p.kind !=q.kind)|| (p.kind==0))) X0),(15,Xv 2 (!((p.kind !=q.kind)|| (p.kind==0))) X0),(16,X (Xk' ((p.kind !=q.kind)|| (p.kind==0))))]] (((p.kind !=q.kind)|| (p.kind==0))|| (p.node !=q.node)) (fun h2=> ?_) (fun h2=> ?_)
 ·
  have T:=x5P (p:=p) (q:=q) (by omega)
  have e1:((z1j p q).1:EOp)=p:=by
   rw[T]
  have e2:((z1j p q).2:EOp)=q:=by
   rw[T]
  exact .finVE [.r []] [] [] (fun((z0,z1):EOp×EOp)=>(.tup [.t (z0F z0),.t (z0F z1),VI 0],[])) _ _ (pr e1 e2)
 ·
  refine .bp [.r [],.r [],.r []] (p.kind==1) (fun h6=> ?_) (fun h6=> ?_)
  ·
   have T:=x5N (p:=p) (q:=q) (by omega) (by omega) (by omega)
   have a1:=y6X hb.1 (by omega)
   have a2:=y6X hb.2.1 (by omega)
   first|have T:=T|have T:=y1Y (p:=p) (q:=q) (by omega) (by omega)
   have e3:((z1j p q).1:EOp)=({kind:=p.kind,node:=p.node,nw:=p.nw,attrs:=(fm z3N p.attrs q.attrs),steps:=p.steps,grid:=p.grid,draw:=p.draw}:EOp):=by
    rw[T]
   have e4:((z1j p q).2:EOp)=q:=by
    rw[T]
   exact .finVE [.r [(4,X (Xc1 296 (x29 p.attrs q.attrs (by assumption) (by assumption) (by omega)) X0))],.r []] [] [] (fun((z0,z1):EOp×EOp)=>(.tup [.t (z0F z0),.t (z0F z1),VI 0],[])) _ _ (pr e3 e4)
  ·
   refine .bp [.r []] (p.kind==2) (fun h8=> ?_) (fun h8=> ?_)
   ·
    have T:=x5O (p:=p) (q:=q) (by omega) (by omega) (by omega)
    obtain⟨d1,d2⟩:=y6Y hU hb.1 (by omega)
    obtain⟨d3,d4⟩:=y6Y hU hb.2.1 (by omega)
    obtain⟨d5,d6⟩:=hb.2.2 (by omega) (by omega) (by omega)
    first|have T:=T|have T:=y1Y (p:=p) (q:=q) (by omega) (by omega)
    have e5:((z1j p q).1:EOp)=({kind:=p.kind,node:=p.node,nw:=p.nw,attrs:=p.attrs,steps:=(z00 p.steps q.steps),grid:=p.grid,draw:=p.draw}:EOp):=by
     rw[T]
    have e6:((z1j p q).2:EOp)=({kind:=q.kind,node:=q.node,nw:=q.nw,attrs:=q.attrs,steps:=(z2s p.steps q.steps),grid:=q.grid,draw:=q.draw}:EOp):=by
     rw[T]
    exact .finVE [.r [(4,X (Xc1 312 (y1Z p.steps q.steps (by assumption) (by assumption) (by assumption) (by assumption) (by omega) (by omega)) X0))],.r []] [] [] (fun((z0,z1):EOp×EOp)=>(.tup [.t (z0F z0),.t (z0F z1),VI 0],[])) _ _ (pr e5 e6)
   ·
    refine .bp [.r []] (p.kind==3) (fun h10=> ?_) (fun h10=> ?_)
    ·
     first|have T:=T|have T:=y1Y (p:=p) (q:=q) (by omega) (by omega)
     have e7:((z1j p q).1:EOp)=p:=by
      rw[T]
     have e8:((z1j p q).2:EOp)=q:=by
      rw[T]
     exact .finVE [.r [(4,X (Xc1 328 (x02 p.grid q.grid (by omega)) X0))],.r []] [] [] (fun((z0,z1):EOp×EOp)=>(.tup [.t (z0F z0),.t (z0F z1),VI 0],[])) _ _ (pr e7 e8)
    ·
     first|have T:=T|have T:=y1Y (p:=p) (q:=q) (by omega) (by omega)
     have e9:((z1j p q).1:EOp)=p:=by
      rw[T]
     have e10:((z1j p q).2:EOp)=q:=by
      rw[T]
     exact .finVE [.r []] [] [] (fun((z0,z1):EOp×EOp)=>(.tup [.t (z0F z0),.t (z0F z1),VI 0],[])) _ _ (pr e9 e10)
theorem x3b(U:US)(s t:Int)(ps qs x y:List EOp)(hU:UB U)(h1:ps.length<=1000)(h2:qs.length<=1000)(ep:z1R ps 0=0)(eq_:z1R qs 0=0)(cp:∀o∈ps,CpB o)(cq:∀o∈qs,CpB o)(hm:x6k U s t ps qs)(hx:(z5M ps qs).1=x)(hy:(z5M ps qs).2=y)(cx:∀o∈x,CpB o)(cy:∀o∈y,CpB o):FC Tryz.prog 7 [VL 19 z0F ps,VL 19 z0F qs] (app emp []) (.tup [VL 19 z0F x,VL 19 z0F y,VI 0]) (app emp []):=by
 refine .go Tryz.f7 ?_
 refine .len 0 (fun hl0=> ?_)
 refine .len 1 (fun hl1=> ?_)
 have lp:∀o∈ps,OpL o:=fun o h=>(cp o h).op
 have lq:∀o∈qs,OpL o:=fun o h=>(cq o h).op
 have lx:x.length=ps.length:=by rw[<-hx];exact(z5G _ _).1
 have ly:y.length=qs.length:=by rw[<-hy];exact(z5G _ _).2
 refine .bp [.r [],.r [],.u,.r [],.t,.r [(0,X (Xa (Xc ((0:Int)<=0)) (Xc ((0:Int)< ((2:Nat):Int)))) ⟨by decide,by decide⟩)],.r [(1,X (Xc0 (z9h ps (by assumption)) X0))],.r []] ((z1R ps 0) !=0) (fun h5=> ?_) (fun h5=> ?_)
 ·
  exfalso
  omega
 ·
  refine .bp [.r [],.u,.r [],.t,.r [(0,X (Xa (Xc ((0:Int)<=1)) (Xc ((1:Int)< ((2:Nat):Int)))) ⟨by decide,by decide⟩)],.r [(1,X (Xc0 (z9h qs (by assumption)) X0))],.r []] ((z1R qs 0) !=0) (fun h5=> ?_) (fun h5=> ?_)
  ·
   exfalso
   omega
  ·
   refine .loop (α:=Nat×(List EOp)×(List EOp)) [.r [],.u,.r [],.f,.r [(1,X (Xc1 232 (y3E ps (by omega) (by assumption)) X0)),(3,X (Xc1 248 (y3E qs (by omega) (by assumption)) X0))],.r []] 296 (fun(i,A,B)=>([(0,.row 232 ((ps).length)),(1,.row 248 ((qs).length)),(32,VI ((ps).length:Int)),(33,VI (i:Int))],[(232,OR 19 z0F A),(248,OR 19 z0F B)])) (fun(i,A,B)=>i<=ps.length/\A=y8p ps qs i/\B=y3T ps qs i) (fun(i,A,B)=>ps.length-i) (0,ps,qs) ?_ ?_
   ·
    exact⟨by omega,rfl,rfl⟩
   rintro⟨i,A,B⟩ I10 ih10
   try dsimp only at I10
   have la:A.length=ps.length:=by rw[I10.2.1,y1X I10.1]
   have lb:B.length=qs.length:=by rw[I10.2.2,z26]
   refine .bp [.r []] (decide ((i:Int)< ((ps).length:Int))) (fun h10=> ?_) (fun h10=> ?_)
   ·
    refine .loop (α:=Nat×(List EOp)×(List EOp)) [.r [],.r []] 344 (fun(k,C,D)=>([(0,.row 232 ((ps).length)),(1,.row 248 ((qs).length)),(10,VI (i:Int)),(32,VI ((ps).length:Int)),(33,VI (i:Int)),(37,VI ((qs).length:Int)),(38,VI (k:Int))],[(232,OR 19 z0F C),(248,OR 19 z0F D)])) (fun(k,C,D)=>k<=qs.length/\C=(y8p ps qs i).set i (x0S (ps.getD i default) (y3T ps qs i) k)/\D=x0T (ps.getD i default) (y3T ps qs i) k) (fun(k,C,D)=>qs.length-k) (0,A,B) ?_ ?_
    ·
     exact⟨qS _,by rw[I10.2.1];exact(y1p (by rw[x5J (by omega)];rfl)).symm,by rw[I10.2.2];rfl⟩
    rintro⟨k,C,D⟩ I13 ih13
    try dsimp only at I13
    have lc:C.length=ps.length:=by rw[I13.2.1,zn,y1X (by omega)]
    have ld:D.length=qs.length:=by rw[I13.2.2,x26 (by rw[z26];exact I13.1),z26]
    refine .bp [.r []] (decide ((k:Int)< ((qs).length:Int))) (fun h13=> ?_) (fun h13=> ?_)
    ·
     have cA:C.getD i default=x0S (ps.getD i default) (y3T ps qs i) k:=by rw[I13.2.1,qe,List.getElem?_set_self (by rw[y1X (by omega)];omega)];rfl
     have cD:D.getD k default=(y3T ps qs i).getD k default:=by rw[I13.2.2];exact x5K (by rw[z26];omega)
     have hpb:y76 U s t (C.getD i default) (D.getD k default):=by rw[cA,cD];exact x5L hm (by omega) (by omega)
     refine .back [.r [],.r [(2,X (Xpn ((ps).length) z0F C (i:Int))),(3,X (Xen ((ps).length) z0F C i)),(6,X (Xpn ((qs).length) z0F D (k:Int))),(7,X (Xen ((qs).length) z0F D k)),(8,X (Xc1 432 (x3a U s t ((C.getD i default)) ((D.getD k default)) hU (by assumption)) X0))],.r [],.f,.r [(6,X (Xpn ((ps).length) z0F C (i:Int))),(7,X (Xsn ((ps).length) 19 z0F 232 C i ((z1j ((C.getD i default)) ((D.getD k default))).1))),(8,X (Xpn ((qs).length) z0F D (k:Int))),(9,X (Xsn ((qs).length) 19 z0F 248 D k ((z1j ((C.getD i default)) ((D.getD k default))).2)))],.r [(0,X (Xn ((k:Int)+1)))]] [(232,232),(248,248)] (ih13 ((k+1),(C.set i ((z1j ((C.getD i default)) ((D.getD k default))).1)),(D.set k ((z1j ((C.getD i default)) ((D.getD k default))).2))) ?_ ?_)
     ·
      refine⟨by omega,?_,?_⟩
      ·rw[cA,cD,I13.2.1,List.set_set,x0W (by rw[z26];omega)]
      ·rw[cA,cD,I13.2.2,x0X (by rw[z26];omega)]
     ·
      ((try dsimp only);omega)
    ·
     refine .back [.r [(0,X (Xn ((i:Int)+1)))]] [(232,232),(248,248)] (ih10 ((i+1),C,D) ?_ ?_)
     ·
      refine⟨by omega,?_,?_⟩
      ·rw[I13.2.1,x0U (by omega),x24 (by rw[z26];omega)]
      ·rw[I13.2.2,x0V (by omega),x25 (by rw[z26];omega)]
     ·
      ((try dsimp only);omega)
   ·
    have hA:A=x:=by rw[I10.2.1,x22 (by omega),hx]
    have hB:B=y:=by rw[I10.2.2,x23 (by omega),hy]
    have cA:∀o∈A,CpB o:=by rw[hA];exact cx
    have cB:∀o∈B,CpB o:=by rw[hB];exact cy
    have e1:(x:List EOp)=A:=by
     first|exact hA.symm|exact hB.symm|rfl
    have e2:(y:List EOp)=B:=by
     first|exact hA.symm|exact hB.symm|rfl
    exact .finE [.r [(1,X (Xc1 312 (y60 A (by omega) (by assumption)) (x7X ((ps).length) z0F A X0))),(3,X (Xc1 328 (y60 B (by omega) (by assumption)) (x7X ((qs).length) z0F B X0)))]] [] (fun((z0,z1):(List EOp)×(List EOp))=>(.tup [VL 19 z0F z0,VL 19 z0F z1,VI 0],[])) _ _ (pr e1 e2)
theorem y3H(a b:Cell):FC Tryz.prog 187 [.t (z0k a),.t (z0k b)] (app emp []) (VB (y7x a b)) (app emp []):=by
 refine .go Tryz.f187 ?_
 have e1:((y7x a b):Bool)=(((((a.row==b.row)&&(a.col==b.col))&&seq a.text b.text)&&(a.ref==b.ref))&&(z0O a.attrs b.attrs)):=by
  rfl
 exact .finE [.r [],.r [(7,Xv 1 (a.row==b.row) X0),(9,Xv 1 (a.row==b.row) X0),(10,Xv 2 (a.row==b.row) X0),(11,X (Xk (a.row==b.row))),(14,Xv 1 ((a.row==b.row)&&(a.col==b.col)) X0),(16,Xv 1 ((a.row==b.row)&&(a.col==b.col)) X0),(17,Xv 2 ((a.row==b.row)&&(a.col==b.col)) X0),(18,X (Xk ((a.row==b.row)&&(a.col==b.col)))),(21,Xv 1 (((a.row==b.row)&&(a.col==b.col))&&seq a.text b.text) X0),(23,Xv 1 (((a.row==b.row)&&(a.col==b.col))&&seq a.text b.text) X0),(24,Xv 2 (((a.row==b.row)&&(a.col==b.col))&&seq a.text b.text) X0),(25,X (Xk (((a.row==b.row)&&(a.col==b.col))&&seq a.text b.text))),(28,Xv 1 ((((a.row==b.row)&&(a.col==b.col))&&seq a.text b.text)&&(a.ref==b.ref)) X0),(30,Xv 1 ((((a.row==b.row)&&(a.col==b.col))&&seq a.text b.text)&&(a.ref==b.ref)) X0),(31,Xv 2 ((((a.row==b.row)&&(a.col==b.col))&&seq a.text b.text)&&(a.ref==b.ref)) (Xc0 (z47 a.attrs b.attrs) X0)),(32,X (Xk ((((a.row==b.row)&&(a.col==b.col))&&seq a.text b.text)&&(a.ref==b.ref))))]] [] (fun z0:Bool=>(VB z0,[])) _ _ e1
theorem y3I(a b:List Cell):FC Tryz.prog 116 [VL 5 z0k a,VL 5 z0k b] (app emp []) (VB (z3F a b)) (app emp []):=by
 refine .go Tryz.f116 ?_
 refine .len 0 (fun hl0=> ?_)
 refine .len 1 (fun hl1=> ?_)
 refine .bp [.r [],.r [(1,X (Xl z0k a)),(3,X (Xl z0k b))]] ((a.length:Int) !=(b.length:Int)) (fun h1=> ?_) (fun h1=> ?_)
 ·
  have e1:((z3F a b):Bool)=false:=by
   unfold z3F;rw[if_neg (by omega)]
  exact .finE [.r []] [] (fun z0:Bool=>(VB z0,[])) _ _ e1
 ·
  refine .loop (α:=Nat) [.r [(1,X (Xl z0k a))]] 72 (fun i=>([(0,VL 5 z0k a),(1,VL 5 z0k b),(12,VI (a.length:Int)),(13,VI (i:Int))],[])) (fun i=>i<=a.length/\z2a a b 0=z2a a b i) (fun i=>a.length-i) (0:Nat) ?_ ?_
  ·
   exact⟨by omega,rfl⟩
  rintro i I4 ih4
  try dsimp only at I4
  refine .bp [.r []] (decide ((i:Int)< (a.length:Int))) (fun h4=> ?_) (fun h4=> ?_)
  ·
   refine .bp [.r [],.r [(2,X (Xi z0k a (i:Int))),(6,X (Xi z0k b (i:Int))),(8,X (Xc0 (y3H ((a.getD i default)) ((b.getD i default))) X0))]] (!(y7x ((a.getD i default)) ((b.getD i default)))) (fun h6=> ?_) (fun h6=> ?_)
   ·
    have e2:((z3F a b):Bool)=false:=by
     unfold z3F;rw[if_pos (by omega),I4.2,z2a,if_pos (by omega),if_neg]
     rw[h6];decide
    exact .finE [.r []] [] (fun z0:Bool=>(VB z0,[])) _ _ e2
   ·
    refine .back [.r [(0,X (Xn ((i:Int)+1)))]] [] (ih4 ((i+1):Nat) ?_ ?_)
    ·
     refine⟨by omega,?_⟩
     rw[I4.2,z2a,if_pos (by omega),if_pos]
     exact h6
    ·
     ((try dsimp only);omega)
  ·
   have e3:((z3F a b):Bool)=true:=by
    unfold z3F;rw[if_pos (by omega),I4.2,z2a,if_neg (by omega)]
   exact .finE [.r []] [] (fun z0:Bool=>(VB z0,[])) _ _ e3
theorem y3J(a b:List Rect):FC Tryz.prog 117 [VL 4 z0t a,VL 4 z0t b] (app emp []) (VB (z5T a b)) (app emp []):=by
 refine .go Tryz.f117 ?_
 refine .len 0 (fun hl0=> ?_)
 refine .len 1 (fun hl1=> ?_)
 refine .bp [.r [],.r [(1,X (Xl z0t a)),(3,X (Xl z0t b))]] ((a.length:Int) !=(b.length:Int)) (fun h1=> ?_) (fun h1=> ?_)
 ·
  have e1:((z5T a b):Bool)=false:=by
   unfold z5T;rw[if_neg (by omega)]
  exact .finE [.r []] [] (fun z0:Bool=>(VB z0,[])) _ _ e1
 ·
  refine .loop (α:=Nat) [.r [(1,X (Xl z0t a))]] 72 (fun i=>([(0,VL 4 z0t a),(1,VL 4 z0t b),(12,VI (a.length:Int)),(13,VI (i:Int))],[])) (fun i=>i<=a.length/\z2b a b 0=z2b a b i) (fun i=>a.length-i) (0:Nat) ?_ ?_
  ·
   exact⟨by omega,rfl⟩
  rintro i I4 ih4
  try dsimp only at I4
  refine .bp [.r []] (decide ((i:Int)< (a.length:Int))) (fun h4=> ?_) (fun h4=> ?_)
  ·
   refine .bp [.r [],.r [(2,X (Xi z0t a (i:Int))),(6,X (Xi z0t b (i:Int)))]] (!((((a.getD i default)).row)==(((b.getD i default)).row)&&((((a.getD i default)).col)==(((b.getD i default)).col)&&((((a.getD i default)).h)==(((b.getD i default)).h)&&((((a.getD i default)).w)==(((b.getD i default)).w)&&true))))) (fun h6=> ?_) (fun h6=> ?_)
   ·
    have e2:((z5T a b):Bool)=false:=by
     unfold z5T;rw[if_pos (by omega),I4.2,z2b,if_pos (by omega),if_neg]
     intro e;rw[e] at h6;simp at h6
    exact .finE [.r []] [] (fun z0:Bool=>(VB z0,[])) _ _ e2
   ·
    refine .back [.r [(0,X (Xn ((i:Int)+1)))]] [] (ih4 ((i+1):Nat) ?_ ?_)
    ·
     refine⟨by omega,?_⟩
     rw[I4.2,z2b,if_pos (by omega),if_pos]
     refine x2f ?_ ?_ ?_ ?_<;>omega
    ·
     ((try dsimp only);omega)
  ·
   have e3:((z5T a b):Bool)=true:=by
    unfold z5T;rw[if_pos (by omega),I4.2,z2b,if_neg (by omega)]
   exact .finE [.r []] [] (fun z0:Bool=>(VB z0,[])) _ _ e3
theorem y40(a b:Grid):FC Tryz.prog 57 [.t (y1b a),.t (y1b b)] (app emp []) (VB (z9Q a b)) (app emp []):=by
 refine .go Tryz.f57 ?_
 have e1:((z9Q a b):Bool)=((((a.rows==b.rows)&&(a.cols==b.cols))&&(z3F a.cells b.cells))&&(z5T a.merges b.merges)):=by
  rfl
 exact .finE [.r [],.r [(7,Xv 1 (a.rows==b.rows) X0),(9,Xv 1 (a.rows==b.rows) X0),(10,Xv 2 (a.rows==b.rows) X0),(11,X (Xk (a.rows==b.rows))),(14,Xv 1 ((a.rows==b.rows)&&(a.cols==b.cols)) X0),(16,Xv 1 ((a.rows==b.rows)&&(a.cols==b.cols)) X0),(17,Xv 2 ((a.rows==b.rows)&&(a.cols==b.cols)) (Xc0 (y3I a.cells b.cells) X0)),(18,X (Xk ((a.rows==b.rows)&&(a.cols==b.cols)))),(21,Xv 1 (((a.rows==b.rows)&&(a.cols==b.cols))&&(z3F a.cells b.cells)) X0),(23,Xv 1 (((a.rows==b.rows)&&(a.cols==b.cols))&&(z3F a.cells b.cells)) X0),(24,Xv 2 (((a.rows==b.rows)&&(a.cols==b.cols))&&(z3F a.cells b.cells)) (Xc0 (y3J a.merges b.merges) X0)),(25,X (Xk (((a.rows==b.rows)&&(a.cols==b.cols))&&(z3F a.cells b.cells))))]] [] (fun z0:Bool=>(VB z0,[])) _ _ e1
theorem x03(a b:List DOp):FC Tryz.prog 58 [VL 8 z0R a,VL 8 z0R b] (app emp []) (VB (z5h a b)) (app emp []):=by
 refine .go Tryz.f58 ?_
 refine .len 0 (fun hl0=> ?_)
 refine .len 1 (fun hl1=> ?_)
 refine .bp [.r [],.r [(1,X (Xl z0R a)),(3,X (Xl z0R b))]] ((a.length:Int) !=(b.length:Int)) (fun h1=> ?_) (fun h1=> ?_)
 ·
  have e1:((z5h a b):Bool)=false:=by
   unfold z5h;rw[decide_eq_false (by omega)];rfl
  exact .finE [.r []] [] (fun z0:Bool=>(VB z0,[])) _ _ e1
 ·
  refine .loop (α:=Nat) [.r [(1,X (Xl z0R a))]] 72 (fun i=>([(0,VL 8 z0R a),(1,VL 8 z0R b),(12,VI (a.length:Int)),(13,VI (i:Int))],[])) (fun i=>i<=a.length/\z5V a b 0=z5V a b i) (fun i=>a.length-i) (0:Nat) ?_ ?_
  ·
   exact⟨by omega,rfl⟩
  rintro i I4 ih4
  try dsimp only at I4
  refine .bp [.r []] (decide ((i:Int)< (a.length:Int))) (fun h4=> ?_) (fun h4=> ?_)
  ·
   refine .bp [.r [],.r [(2,X (Xi z0R a (i:Int))),(6,X (Xi z0R b (i:Int)))]] (!((((a.getD i default)).clock)==(((b.getD i default)).clock)&&((((a.getD i default)).site)==(((b.getD i default)).site)&&((((a.getD i default)).kind)==(((b.getD i default)).kind)&&((((a.getD i default)).itm)==(((b.getD i default)).itm)&&((((a.getD i default)).prt)==(((b.getD i default)).prt)&&(seq (((a.getD i default)).plc) (((b.getD i default)).plc)&&(seq (((a.getD i default)).nm) (((b.getD i default)).nm)&&(seq (((a.getD i default)).vl) (((b.getD i default)).vl)&&true))))))))) (fun h6=> ?_) (fun h6=> ?_)
   ·
    have e2:((z5h a b):Bool)=false:=by
     unfold z5h;rw[I4.2,z5V,if_pos (by omega),if_neg (fun e=>by(have s0:∀s,seq s s=true:=fun s=>z0M.2 rfl);rw[e] at h6;simp[s0] at h6)];simp
    exact .finE [.r []] [] (fun z0:Bool=>(VB z0,[])) _ _ e2
   ·
    refine .back [.r [(0,X (Xn ((i:Int)+1)))]] [] (ih4 ((i+1):Nat) ?_ ?_)
    ·
     refine⟨by omega,?_⟩;rw[I4.2,z5V,if_pos (by omega),if_pos (by obtain⟨q1,q2,q3,q4,q5,q6,q7,q8,-⟩:=h6;rw[z0M] at q6 q7 q8;exact y9o q1 q2 q3 q4 q5 q6 q7 q8)]
    ·
     ((try dsimp only);omega)
  ·
   have e3:((z5h a b):Bool)=true:=by
    unfold z5h;rw[I4.2,z5V,if_neg (by omega),decide_eq_true (by omega)];rfl
   exact .finE [.r []] [] (fun z0:Bool=>(VB z0,[])) _ _ e3
theorem x3c(a b:Node):FC Tryz.prog 22 [.t (z0i a),.t (z0i b)] (app emp []) (VB (x0k a b)) (app emp []):=by
 refine .go Tryz.f22 ?_
 have e1:((x0k a b):Bool)=((((((a.id==b.id)&&(a.kind==b.kind))&&(z0O a.attrs b.attrs))&&(z4w a.flow b.flow))&&(z9Q a.grid b.grid))&&(z5h a.draw b.draw)):=by
  rfl
 exact .finE [.r [],.r [(7,Xv 1 (a.id==b.id) X0),(9,Xv 1 (a.id==b.id) X0),(10,Xv 2 (a.id==b.id) X0),(11,X (Xk (a.id==b.id))),(14,Xv 1 ((a.id==b.id)&&(a.kind==b.kind)) X0),(16,Xv 1 ((a.id==b.id)&&(a.kind==b.kind)) X0),(17,Xv 2 ((a.id==b.id)&&(a.kind==b.kind)) (Xc0 (z47 a.attrs b.attrs) X0)),(18,X (Xk ((a.id==b.id)&&(a.kind==b.kind)))),(21,Xv 1 (((a.id==b.id)&&(a.kind==b.kind))&&(z0O a.attrs b.attrs)) X0),(23,Xv 1 (((a.id==b.id)&&(a.kind==b.kind))&&(z0O a.attrs b.attrs)) X0),(24,Xv 2 (((a.id==b.id)&&(a.kind==b.kind))&&(z0O a.attrs b.attrs)) (Xc0 (y4s a.flow b.flow) X0)),(25,X (Xk (((a.id==b.id)&&(a.kind==b.kind))&&(z0O a.attrs b.attrs)))),(28,Xv 1 ((((a.id==b.id)&&(a.kind==b.kind))&&(z0O a.attrs b.attrs))&&(z4w a.flow b.flow)) X0),(30,Xv 1 ((((a.id==b.id)&&(a.kind==b.kind))&&(z0O a.attrs b.attrs))&&(z4w a.flow b.flow)) X0),(31,Xv 2 ((((a.id==b.id)&&(a.kind==b.kind))&&(z0O a.attrs b.attrs))&&(z4w a.flow b.flow)) (Xc0 (y40 a.grid b.grid) X0)),(32,X (Xk ((((a.id==b.id)&&(a.kind==b.kind))&&(z0O a.attrs b.attrs))&&(z4w a.flow b.flow)))),(35,Xv 1 (((((a.id==b.id)&&(a.kind==b.kind))&&(z0O a.attrs b.attrs))&&(z4w a.flow b.flow))&&(z9Q a.grid b.grid)) X0),(37,Xv 1 (((((a.id==b.id)&&(a.kind==b.kind))&&(z0O a.attrs b.attrs))&&(z4w a.flow b.flow))&&(z9Q a.grid b.grid)) X0),(38,Xv 2 (((((a.id==b.id)&&(a.kind==b.kind))&&(z0O a.attrs b.attrs))&&(z4w a.flow b.flow))&&(z9Q a.grid b.grid)) (Xc0 (x03 a.draw b.draw) X0)),(39,X (Xk (((((a.id==b.id)&&(a.kind==b.kind))&&(z0O a.attrs b.attrs))&&(z4w a.flow b.flow))&&(z9Q a.grid b.grid))))]] [] (fun z0:Bool=>(VB z0,[])) _ _ e1
theorem x04(a:Doc)(hl:a.nodes.length<=1048576):FC Tryz.prog 9 [.t (z20 a),.t (z20 a)] (app emp []) (VB true) (app emp []):=by
 refine .go Tryz.f9 ?_
 refine .bp [.r [],.r [(2,X (Xl z0i a.nodes)),(5,X (Xl z0i a.nodes))]] ((a.nodes.length:Int) !=(a.nodes.length:Int)) (fun h1=> ?_) (fun h1=> ?_)
 ·
  exfalso
  omega
 ·
  refine .loop (α:=Nat) [.r [(2,X (Xl z0i a.nodes))]] 112 (fun i=>([(2,.ptr 0 0),(3,.ptr 8 0),(15,VI (a.nodes.length:Int)),(16,VI (i:Int))],[(0,.box [VL 9 z0i a.nodes]),(8,.box [VL 9 z0i a.nodes])])) (fun i=>i<=a.nodes.length) (fun i=>a.nodes.length-i) (0:Nat) ?_ ?_
  ·
   exact qS _
  rintro i I4 ih4
  try dsimp only at I4
  refine .bp [.r []] (decide ((i:Int)< (a.nodes.length:Int))) (fun h4=> ?_) (fun h4=> ?_)
  ·
   refine .bp [.r [],.r [(3,X (Xi z0i a.nodes (i:Int))),(8,X (Xi z0i a.nodes (i:Int))),(10,X (Xc0 (x3c ((a.nodes.getD i default)) ((a.nodes.getD i default))) X0))]] (!(x0k ((a.nodes.getD i default)) ((a.nodes.getD i default)))) (fun h6=> ?_) (fun h6=> ?_)
   ·
    exfalso
    rw[y7T] at h6;cases h6
   ·
    refine .back [.r [(0,X (Xn ((i:Int)+1)))]] [(0,0),(8,8)] (ih4 ((i+1):Nat) ?_ ?_)
    ·
     omega
    ·
     ((try dsimp only);omega)
  ·
   exact .fin [.r []] []
theorem x3d(a b:Doc)(h:a=b)(hl:a.nodes.length<=1048576):FC Tryz.prog 9 [.t (z20 a),.t (z20 b)] (app emp []) (VB true) (app emp []):=h▸x04 a hl

theorem x3e(d:Doc)(s:Sel)(au:ByteArray)(hb:DocL d):FC Tryz.prog 63 [.t (z20 d),.t (z5f s),VS au] (app emp []) (.tup [.t (plT (atP d s au)),VI (atE d s au)]) (app emp []):=by
 refine .go Tryz.f63 ?_
 have hdb:=hb.toDocB
 have hl:=hb.len
 refine .bp [.r [],.r [(1,X (Xc0 (z5y d (by assumption)) X0))],.r []] ((z1N d) !=0) (fun h2=> ?_) (fun h2=> ?_)
 ·
  have T:=x9Z (s:=s) (au:=au) h2
  have e1:((atP d s au):Pl)=({node:=({id:=0,kind:=0,attrs:=[],flow:=[],grid:=({rows:=0,cols:=0,cells:=[],merges:=[]}:Grid),draw:=[]}:Node),shown:=[],author:={data:=#[]}}:Pl):=by
   exact T.1
  have e2:((atE d s au):Int)=(z1N d):=by
   exact T.2
  exact .finVE [.r [(0,X (Xf [(2,2),(3,3),(6,5),(7,4),(8,8),(9,1)]))]] [] [] (fun((z0,z1):Pl×Int)=>(.tup [.t (plT z0),VI z1],[])) _ _ (pr e1 e2)
 ·
  have hs:=z8n (d:=d) (by omega)
  refine .bp [.r [(3,X (Xc0 (z8r d s.nd (by assumption) (by assumption)) X0))],.r []] (decide ((ixN (d).nodes s.nd)< 0)) (fun h5=> ?_) (fun h5=> ?_)
  ·
   have T:=x90 (au:=au) (by omega) (y55.1 h5)
   have e3:((atP d s au):Pl)=({node:=({id:=0,kind:=0,attrs:=[],flow:=[],grid:=({rows:=0,cols:=0,cells:=[],merges:=[]}:Grid),draw:=[]}:Node),shown:=[],author:={data:=#[]}}:Pl):=by
    exact T.1
   have e4:((atE d s au):Int)=7:=by
    exact T.2
   exact .finVE [.r [(0,X (Xf [(2,2),(3,3),(6,5),(7,4),(8,8),(9,1)]))]] [] [] (fun((z0,z1):Pl×Int)=>(.tup [.t (plT z0),VI z1],[])) _ _ (pr e3 e4)
  ·
   have hh:=y54.1 h5
   have hlt:=(z1m.1 hh).1
   have hbn:=(hb.all _ (z4d hlt)).fl2
   refine .bp [.le (.eq 9 (VI (ixN (d).nodes s.nd)) (VI (z0x d.nodes s.nd:Int)) (.of_eq (by rw[y4A hh]))),.r [(3,X (Xi z0i d.nodes (z0x d.nodes s.nd:Int))),(6,X (Xf [(9,1)]))],.r [(3,X (Xc0 (z8l (((d.nodes.getD (z0x d.nodes s.nd) default)).kind)) X0))]] (!(z1o (((d.nodes.getD (z0x d.nodes s.nd) default)).kind))) (fun h8=> ?_) (fun h8=> ?_)
   ·
    have T:=x91 (au:=au) (by omega) hh h8
    have e5:((atP d s au):Pl)=({node:=({id:=0,kind:=0,attrs:=[],flow:=[],grid:=({rows:=0,cols:=0,cells:=[],merges:=[]}:Grid),draw:=[]}:Node),shown:=[],author:={data:=#[]}}:Pl):=by
     exact T.1
    have e6:((atE d s au):Int)=8:=by
     exact T.2
    exact .finVE [.r [(0,X (Xf [(2,2),(3,3),(6,5),(7,4),(8,8),(9,1)]))]] [] [] (fun((z0,z1):Pl×Int)=>(.tup [.t (plT z0),VI z1],[])) _ _ (pr e5 e6)
   ·
    refine .bp [.r [(3,X (Xc1 264 (x00 (((d.nodes.getD (z0x d.nodes s.nd) default)).flow) 0 (by omega)) X0))],.r [(5,Xv 1 (!(decide (s.fr<0))) X0),(7,Xv 1 (!(decide (s.fr<0))) X0),(8,Xv 2 (!(decide (s.fr<0))) X0),(9,X (Xk' (decide (s.fr<0)))),(12,Xv 1 (!(decide (s.fr<0)||decide (s.tq<s.fr))) X0),(14,Xv 1 (!(decide (s.fr<0)||decide (s.tq<s.fr))) X0),(15,Xv 1 (!(decide (s.fr<0)||decide (s.tq<s.fr))) (Xl z0B (y3i (((d.nodes.getD (z0x d.nodes s.nd) default)).flow) 0 ((((d.nodes.getD (z0x d.nodes s.nd) default)).flow)).length))),(16,Xv 2 (!(decide (s.fr<0)||decide (s.tq<s.fr))) X0),(17,X (Xk' (decide (s.fr<0)||decide (s.tq<s.fr))))]] ((decide (s.fr<0)||decide (s.tq<s.fr))||decide (s.tq>=((y3i (((d.nodes.getD (z0x d.nodes s.nd) default)).flow) 0 ((((d.nodes.getD (z0x d.nodes s.nd) default)).flow)).length).length:Int))) (fun h11=> ?_) (fun h11=> ?_)
    ·
     have T:=x92 (au:=au) (by omega) hh h8 h11
     have e7:((atP d s au):Pl)=({node:=({id:=0,kind:=0,attrs:=[],flow:=[],grid:=({rows:=0,cols:=0,cells:=[],merges:=[]}:Grid),draw:=[]}:Node),shown:=[],author:={data:=#[]}}:Pl):=by
      exact T.1
     have e8:((atE d s au):Int)=2:=by
      exact T.2
     exact .finVE [.r [(0,X (Xf [(2,2),(3,3),(6,5),(7,4),(8,8),(9,1)]))]] [] [] (fun((z0,z1):Pl×Int)=>(.tup [.t (plT z0),VI z1],[])) _ _ (pr e7 e8)
    ·
     refine .bp [.r [(4,Xv 1 (!(seq au ({data:=#[]}))) (Xc0 (z5v au) X0)),(5,Xv 1 (!(seq au ({data:=#[]}))) X0),(6,X (Xk (!(seq au ({data:=#[]})))))]] (!(seq au ({data:=#[]}))&& !(z17 au)) (fun h13=> ?_) (fun h13=> ?_)
     ·
      have T:=x93 (by omega) hh h8 h11 h13
      have e9:((atP d s au):Pl)=({node:=({id:=0,kind:=0,attrs:=[],flow:=[],grid:=({rows:=0,cols:=0,cells:=[],merges:=[]}:Grid),draw:=[]}:Node),shown:=[],author:={data:=#[]}}:Pl):=by
       exact T.1
      have e10:((atE d s au):Int)=23:=by
       exact T.2
      exact .finVE [.r [(0,X (Xf [(2,2),(3,3),(6,5),(7,4),(8,8),(9,1)]))]] [] [] (fun((z0,z1):Pl×Int)=>(.tup [.t (plT z0),VI z1],[])) _ _ (pr e9 e10)
     ·
      have T:=x94 (by omega) hh h8 h11 h13
      have e11:((atP d s au):Pl)=({node:=((d.nodes.getD (z0x d.nodes s.nd) default)),shown:=(y3i (((d.nodes.getD (z0x d.nodes s.nd) default)).flow) 0 ((((d.nodes.getD (z0x d.nodes s.nd) default)).flow)).length),author:=au}:Pl):=by
       exact T.1
      have e12:((atE d s au):Int)=0:=by
       exact T.2
      exact .finVE [.r []] [] [] (fun((z0,z1):Pl×Int)=>(.tup [.t (plT z0),VI z1],[])) _ _ (pr e11 e12)
theorem z4F(p:Pl)(k:Int)(hb:PlB p):FC Tryz.prog 71 [.ptr 0 0,VI k] (app emp [(0,.box [VI p.node.id,VI p.node.kind,VL 2 z0a p.node.attrs,VL 3 z0c p.node.flow,VI p.node.grid.rows,VI p.node.grid.cols,VL 5 z0k p.node.grid.cells,VL 4 z0t p.node.grid.merges,VL 8 z0R p.node.draw,VL 1 z0B p.shown,VS p.author])]) (.t (z0c (z0h p k))) (app emp [(0,.box [VI p.node.id,VI p.node.kind,VL 2 z0a p.node.attrs,VL 3 z0c p.node.flow,VI p.node.grid.rows,VI p.node.grid.cols,VL 5 z0k p.node.grid.cells,VL 4 z0t p.node.grid.merges,VL 8 z0R p.node.draw,VL 1 z0B p.shown,VS p.author])]):=by
 refine .go Tryz.f71 ?_
 refine .bp [.r [],.r [(5,Xv 1 (!(decide (k<0))) X0),(6,Xv 1 (!(decide (k<0))) X0),(7,Xv 1 (!(decide (k<0))) X0),(8,Xv 1 (!(decide (k<0))) (Xl z0B p.shown)),(9,Xv 2 (!(decide (k<0))) X0),(10,X (Xk' (decide (k<0))))]] (decide (k<0)||decide (k>=(p.shown.length:Int))) (fun h1=> ?_) (fun h1=> ?_)
 ·
  have e1:((z0h p k):Elem)=({char:=10,ref:=0,attrs:=[]}:Elem):=by
   unfold z0h;rw[if_pos (by omega)]
  exact .finVE [.r [(0,X (Xf [(2,2)]))]] [] [(0,0)] (fun z0:Elem=>(.t (z0c z0),[(0,.box [VI p.node.id,VI p.node.kind,VL 2 z0a p.node.attrs,VL 3 z0c p.node.flow,VI p.node.grid.rows,VI p.node.grid.cols,VL 5 z0k p.node.grid.cells,VL 4 z0t p.node.grid.merges,VL 8 z0R p.node.draw,VL 1 z0B p.shown,VS p.author])])) _ _ e1
 ·
  have hx:=hb.ok _ (z0j (l:=p.shown) (i:=k.toNat) (by omega))
  have e2:((z0h p k):Elem)=((p.node.flow.getD (Int.toNat (p.shown.getD (Int.toNat k) default)) default)):=by
   unfold z0h;rw[if_neg (by omega)]
  exact .finVE [.r [(10,X (Xi z0B p.shown k)),(12,X (Xi z0c p.node.flow (p.shown.getD (Int.toNat k) default)))]] [] [(0,0)] (fun z0:Elem=>(.t (z0c z0),[(0,.box [VI p.node.id,VI p.node.kind,VL 2 z0a p.node.attrs,VL 3 z0c p.node.flow,VI p.node.grid.rows,VI p.node.grid.cols,VL 5 z0k p.node.grid.cells,VL 4 z0t p.node.grid.merges,VL 8 z0R p.node.draw,VL 1 z0B p.shown,VS p.author])])) _ _ e2
theorem x5Q(l:List ByteArray)(x:ByteArray):FC Tryz.prog 194 [VL 1 z82 l,VS x] (app emp []) (VI (z4P (fun y=>seq x y) l 0)) (app emp []):=by
 refine .go Tryz.f194 ?_
 refine .len 0 (fun hl0=> ?_)
 refine .loop (α:=Nat) [.r [],.r [(1,X (Xl z82 l))]] 32 (fun i=>([(0,VL 1 z82 l),(1,VS x),(7,VI (l.length:Int)),(8,VI (i:Int))],[])) (fun i=>i<=l.length/\z4P (fun y=>seq x y) l 0=z4P (fun y=>seq x y) l i) (fun i=>l.length-i) (0:Nat) ?_ ?_
 ·
  exact⟨by omega,rfl⟩
 rintro i I2 ih2
 try dsimp only at I2
 refine .bp [.r []] (decide ((i:Int)< (l.length:Int))) (fun h2=> ?_) (fun h2=> ?_)
 ·
  refine .bp [.r [],.r [(3,X (Xi z82 l (i:Int)))]] (seq x (l.getD i default)) (fun h4=> ?_) (fun h4=> ?_)
  ·
   have e1:((z4P (fun y=>seq x y) l 0):Int)=(i:Int):=by
    rw[I2.2,z4P,if_pos (by omega),if_pos h4]
   exact .finE [.r []] [] (fun z0:Int=>(VI z0,[])) _ _ e1
  ·
   refine .back [.r [(0,X (Xn ((i:Int)+1)))]] [] (ih2 ((i+1):Nat) ?_ ?_)
   ·
    exact⟨by omega,by rw[I2.2,z4P,if_pos (by omega),if_neg (by rw[h4];decide)]⟩
   ·
    ((try dsimp only);omega)
 ·
  have e2:((z4P (fun y=>seq x y) l 0):Int)= -1:=by
   rw[I2.2,z4P,if_neg (by omega)]
  exact .finE [.r []] [] (fun z0:Int=>(VI z0,[])) _ _ e2
theorem x05(l:List ByteArray)(x:ByteArray):FC Tryz.prog 128 [VL 1 z82 l,VS x] (app emp []) (VB (l.any (fun y=>seq x y))) (app emp []):=by
 refine .go Tryz.f128 ?_
 refine .len 0 (fun hl0=> ?_)
 have e1:((l.any (fun y=>seq x y)):Bool)=decide ((z4P (fun y=>seq x y) l 0)>=0):=by
  rw[zl];simp only[decide_eq_true_eq,ge_iff_le];rw[y5L]
 exact .finE [.r [],.r [(2,X (Xc0 (x5Q l x) X0))]] [] (fun z0:Bool=>(VB z0,[])) _ _ e1
theorem y0E(n:ByteArray):FC Tryz.prog 125 [VS n] (app emp []) (VB (x2G n)) (app emp []):=by
 refine .go Tryz.f125 ?_
 have e1:((x2G n):Bool)=(([{data:=#[98,111,108,100]},{data:=#[105,116,97,108,105,99]},{data:=#[117,110,100,101,114]},{data:=#[115,116,114,105,107,101]},{data:=#[102,105,120,101,100]},{data:=#[114,97,105,115,101]},{data:=#[115,105,122,101]},{data:=#[99,111,108,111,117,114]},{data:=#[108,97,110,103]},{data:=#[115,116,121,108,101]}]).any (fun y=>seq n y)):=by
  rfl
 exact .finE [.r [],.r [(2,X (Xc0 (x05 [{data:=#[98,111,108,100]},{data:=#[105,116,97,108,105,99]},{data:=#[117,110,100,101,114]},{data:=#[115,116,114,105,107,101]},{data:=#[102,105,120,101,100]},{data:=#[114,97,105,115,101]},{data:=#[115,105,122,101]},{data:=#[99,111,108,111,117,114]},{data:=#[108,97,110,103]},{data:=#[115,116,121,108,101]}] n) (z0Y z82 [{data:=#[98,111,108,100]},{data:=#[105,116,97,108,105,99]},{data:=#[117,110,100,101,114]},{data:=#[115,116,114,105,107,101]},{data:=#[102,105,120,101,100]},{data:=#[114,97,105,115,101]},{data:=#[115,105,122,101]},{data:=#[99,111,108,111,117,114]},{data:=#[108,97,110,103]},{data:=#[115,116,121,108,101]}] X0)))]] [] (fun z0:Bool=>(VB z0,[])) _ _ e1
theorem z4m(n:ByteArray):FC Tryz.prog 126 [VS n] (app emp []) (VB (z3y n)) (app emp []):=by
 refine .go Tryz.f126 ?_
 have e1:((z3y n):Bool)=(((seq n ({data:=#[108,105,110,107]})||seq n ({data:=#[108,111,99,107]}))|| (decide ((n.size:Int)> 7)&&seq (n.extract ((0:Int)).toNat ((7:Int)).toNat) ({data:=#[114,101,109,97,114,107,46]})))|| (decide ((n.size:Int)> 5)&&seq (n.extract ((0:Int)).toNat ((5:Int)).toNat) ({data:=#[109,97,114,107,46]}))):=by
  rfl
 exact .finE [.r [],.r [(4,Xv 1 (!(seq n ({data:=#[108,105,110,107]}))) X0),(5,X (Xk' (seq n ({data:=#[108,105,110,107]})))),(8,Xv 1 (!(seq n ({data:=#[108,105,110,107]})||seq n ({data:=#[108,111,99,107]}))) X0),(9,Xv 1 (!(seq n ({data:=#[108,105,110,107]})||seq n ({data:=#[108,111,99,107]}))) X0),(10,Xv 1 (!(seq n ({data:=#[108,105,110,107]})||seq n ({data:=#[108,111,99,107]}))) X0),(12,Xv 1 ((!(seq n ({data:=#[108,105,110,107]})||seq n ({data:=#[108,111,99,107]})))&&(decide ((n.size:Int)> 7))) (Xa (Xc ((0:Int)<=0)) (Xa (Xc ((0:Int)<=7)) (Xc ((7:Int)<=(n.size:Int)))))),(13,Xv 1 ((!(seq n ({data:=#[108,105,110,107]})||seq n ({data:=#[108,111,99,107]})))&&(decide ((n.size:Int)> 7))) X0),(14,Xka (!(seq n ({data:=#[108,105,110,107]})||seq n ({data:=#[108,111,99,107]}))) (decide ((n.size:Int)> 7))),(15,X (Xk' (seq n ({data:=#[108,105,110,107]})||seq n ({data:=#[108,111,99,107]})))),(18,Xv 1 (!((seq n ({data:=#[108,105,110,107]})||seq n ({data:=#[108,111,99,107]}))|| (decide ((n.size:Int)> 7)&&seq (n.extract ((0:Int)).toNat ((7:Int)).toNat) ({data:=#[114,101,109,97,114,107,46]})))) X0),(19,Xv 1 (!((seq n ({data:=#[108,105,110,107]})||seq n ({data:=#[108,111,99,107]}))|| (decide ((n.size:Int)> 7)&&seq (n.extract ((0:Int)).toNat ((7:Int)).toNat) ({data:=#[114,101,109,97,114,107,46]})))) X0),(20,Xv 1 (!((seq n ({data:=#[108,105,110,107]})||seq n ({data:=#[108,111,99,107]}))|| (decide ((n.size:Int)> 7)&&seq (n.extract ((0:Int)).toNat ((7:Int)).toNat) ({data:=#[114,101,109,97,114,107,46]})))) X0),(22,Xv 1 ((!((seq n ({data:=#[108,105,110,107]})||seq n ({data:=#[108,111,99,107]}))|| (decide ((n.size:Int)> 7)&&seq (n.extract ((0:Int)).toNat ((7:Int)).toNat) ({data:=#[114,101,109,97,114,107,46]}))))&&(decide ((n.size:Int)> 5))) (Xa (Xc ((0:Int)<=0)) (Xa (Xc ((0:Int)<=5)) (Xc ((5:Int)<=(n.size:Int)))))),(23,Xv 1 ((!((seq n ({data:=#[108,105,110,107]})||seq n ({data:=#[108,111,99,107]}))|| (decide ((n.size:Int)> 7)&&seq (n.extract ((0:Int)).toNat ((7:Int)).toNat) ({data:=#[114,101,109,97,114,107,46]}))))&&(decide ((n.size:Int)> 5))) X0),(24,Xka (!((seq n ({data:=#[108,105,110,107]})||seq n ({data:=#[108,111,99,107]}))|| (decide ((n.size:Int)> 7)&&seq (n.extract ((0:Int)).toNat ((7:Int)).toNat) ({data:=#[114,101,109,97,114,107,46]})))) (decide ((n.size:Int)> 5))),(25,X (Xk' ((seq n ({data:=#[108,105,110,107]})||seq n ({data:=#[108,111,99,107]}))|| (decide ((n.size:Int)> 7)&&seq (n.extract ((0:Int)).toNat ((7:Int)).toNat) ({data:=#[114,101,109,97,114,107,46]})))))]] [] (fun z0:Bool=>(VB z0,[])) _ _ e1
end Go.Ch
end
