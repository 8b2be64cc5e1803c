/- Objects, rows, columns and cells: what the commands compute. -/
import Derived.Test.YtipofpnmgbaopaaGreatDoorM7
set_option linter.unusedVariables false
set_option linter.unusedSimpArgs false
section
namespace Go.Ch
open Go Go.Ab
theorem w1u{r:Int}:r.fdiv (2^(min (16:Int).toNat IntKind.i64.bits))=r/65536:=by
 show r.fdiv 65536=r/65536;exact Int.fdiv_eq_ediv_of_nonneg r dM
theorem Zq{r:Int}(h: -9223372036854775808<=r/\r<=9223372036854775807):IntKind.i64.wrap r=r:=by
 simp[IntKind.wrap,IntKind.bits,IntKind.signed];omega
theorem w1v{r:Int}(h:0<=r/\r<=1000):IntKind.i64.wrap (r*2^(min (16:Int).toNat IntKind.i64.bits))=r*65536:=by
 show IntKind.i64.wrap (r*65536)=r*65536;exact Zq oM
theorem w1w{x:Int}(h:0<=x/\x<=1073741824):GC .i64 x 65535=x%65536:=by
 unfold GC;have e1:(BitVec.ofInt IntKind.i64.bits x&&&BitVec.ofInt IntKind.i64.bits 65535).toNat=x.toNat%65536:=by
  rw[BitVec.toNat_and];have hx:(BitVec.ofInt IntKind.i64.bits x).toNat=x.toNat:=by
   rw[BitVec.toNat_ofInt];show(x%((2^64:Nat):Int)).toNat=x.toNat;rw[Int.emod_eq_of_lt h.1 (by have:=h.2;omega)]
  have hy:(BitVec.ofInt IntKind.i64.bits 65535).toNat=2^16- 1:=dM;rw[hx,hy,Nat.and_two_pow_sub_one_eq_mod]
 rw[e1,Zq oM];omega
def ov(l:List Node)(aC:Int)(m:Nat):Int:=(l.take m).foldl (fun x n=>if n.id/65536=aC then n.id else x) (aC*65536)
theorem R9{l:List Node}{aC:Int}{m:Nat}(h:m<l.length):ov l aC (m+1)=if(l.getD m default).id/65536=aC then(l.getD m default).id else ov l aC m:=by
 have e:l.getD m default=l[m]:=by rw[qd,qa h];rfl
 unfold ov;rw[qt h,List.foldl_append,e];rfl
def ig(d:Doc)(aC:Int):Int:=
 if ez d≠0 then ez d else if aC<0\/1000<aC then 2 else if ov d.aq aC d.aq.length%65536=65535 then 18 else 0
def ij(d:Doc)(aC:Int):Int:=if ig d aC≠0 then 0 else ov d.aq aC d.aq.length+1
theorem Sa{d:Doc}{aC k:Int}(h:ig d aC=k)(hk:k≠0):ij d aC=0/\ig d aC=k:=by
 unfold ij;rw[h,if_pos hk];exact⟨rfl,rfl⟩
theorem x9M{d:Doc}{aC:Int}(h:ez d≠0):ij d aC=0/\ig d aC=ez d:=Sa (by unfold ig;rw[if_pos h]) h
theorem x9N{d:Doc}{aC:Int}(h:ez d=0)(h2:aC<0\/1000<aC):ij d aC=0/\ig d aC=2:=Sa (by unfold ig;rw[if_neg (fun q=>q h),if_pos h2]) dM
theorem O7{d:Doc}{aC:Int}(h:ez d=0)(h2:0<=aC/\aC<=1000)(h3:ov d.aq aC d.aq.length%65536=65535):ij d aC=0/\ig d aC=18:=
 Sa (by unfold ig;rw[if_neg (fun q=>q h),if_neg oM,if_pos h3]) dM
theorem O8{d:Doc}{aC:Int}(h:ez d=0)(h2:0<=aC/\aC<=1000)(h3:¬ov d.aq aC d.aq.length%65536=65535):ij d aC=ov d.aq aC d.aq.length+1/\ig d aC=0:=by
 have e:ig d aC=0:=by unfold ig;rw[if_neg (fun q=>q h),if_neg oM,if_neg h3]
 unfold ij;rw[e,if_neg (fun q=>q rfl)];exact⟨rfl,rfl⟩
def nk(n:Node):aP:=⟨0,0,n,[],[],⟨[],[],[],[],[]⟩,[]⟩
def gY(k:Int)(g:bP):aP:=⟨3,k,⟨0,0,[],[],⟨0,0,[],[]⟩,[]⟩,[],[],g,[]⟩
def Eu(d:Doc)(n:Node)(aC:Int):Node:={id:=ij d aC,af:=n.af,ah:=n.ah,aD:=n.aD,az:=n.az,draw:=n.draw}
def uz(d:Doc)(s:bM)(aC:Int)(au:ByteArray):List aL:=[{aT:=0,bh:=ij d aC,ah:=lH (bL d s au) s.fr}]
def jO(d:Doc)(s:bM)(n:Node)(aC:Int)(au:ByteArray):Int:=
 if dP d s au≠0 then dP d s au
 else if gz (bL d s au).ai.af n.af=false then 8
 else if ig d aC≠0 then ig d aC
 else fT (Eu d n aC)
def jE(d:Doc)(s:bM)(n:Node)(aC:Int)(au:ByteArray):List aP:=if jO d s n aC au≠0 then[] else[nk (Eu d n aC)]++[gG s.nd (rZ (bL d s au) s (uz d s aC au))]
def mU(d:Doc)(s:bM)(n:Node)(aC:Int)(au:ByteArray):bM:=if jO d s n aC au≠0 then⟨0,0,0⟩ else Ao s (uz d s aC au)
structure yy(d:Doc)(s:bM)(n:Node)(aC:Int)(au:ByteArray):Prop where
 p:mq (bL d s au)
 r:0<=s.fr/\s.fr<=1000000000
 s:yw (bL d s au) s (uz d s aC au)
theorem Mn{d:Doc}{s:bM}{n:Node}{aC:Int}{au:ByteArray}{k:Int}(h:jO d s n aC au=k)(hk:k≠0):jE d s n aC au=[]/\mU d s n aC au=⟨0,0,0⟩/\jO d s n aC au=k:=by
 unfold jE mU;rw[h,if_pos hk,if_pos hk];exact⟨rfl,rfl,rfl⟩
theorem Ph{d:Doc}{s:bM}{n:Node}{aC:Int}{au:ByteArray}(h:dP d s au≠0):jE d s n aC au=[]/\mU d s n aC au=⟨0,0,0⟩/\jO d s n aC au=dP d s au:=Mn (by unfold jO;rw[if_pos h]) h
theorem w1x{d:Doc}{s:bM}{n:Node}{aC:Int}{au:ByteArray}(h:dP d s au=0)(h2:gz (bL d s au).ai.af n.af=false):jE d s n aC au=[]/\mU d s n aC au=⟨0,0,0⟩/\jO d s n aC au=8:=
 Mn (by unfold jO;rw[if_neg (fun q=>q h),if_pos h2]) dM
theorem w1y{d:Doc}{s:bM}{n:Node}{aC:Int}{au:ByteArray}(h:dP d s au=0)(h2:gz (bL d s au).ai.af n.af=true)(h3:ig d aC≠0):jE d s n aC au=[]/\mU d s n aC au=⟨0,0,0⟩/\jO d s n aC au=ig d aC:=
 Mn (by unfold jO;rw[if_neg (fun q=>q h),if_neg (by rw[h2];decide),if_pos h3]) h3
theorem Zr{d:Doc}{s:bM}{n:Node}{aC:Int}{au:ByteArray}(h:dP d s au=0)(h2:gz (bL d s au).ai.af n.af=true)(h3:ig d aC=0):jO d s n aC au=fT (Eu d n aC):=by
 unfold jO;rw[if_neg (fun q=>q h),if_neg (by rw[h2];decide),if_neg (fun q=>q h3)]
theorem w1z{d:Doc}{s:bM}{n:Node}{aC:Int}{au:ByteArray}(h:dP d s au=0)(h2:gz (bL d s au).ai.af n.af=true)(h3:ig d aC=0)(h4:fT (Eu d n aC)≠0):jE d s n aC au=[]/\mU d s n aC au=⟨0,0,0⟩/\jO d s n aC au=fT (Eu d n aC):=
 Mn (Zr h h2 h3) h4
theorem w1A{d:Doc}{s:bM}{n:Node}{aC:Int}{au:ByteArray}(h:dP d s au=0)(h2:gz (bL d s au).ai.af n.af=true)(h3:ig d aC=0)(h4:fT (Eu d n aC)=0):
 jE d s n aC au=[nk (Eu d n aC)]++[gG s.nd (rZ (bL d s au) s (uz d s aC au))]/\mU d s n aC au=Ao s (uz d s aC au)/\jO d s n aC au=0:=by
 have e:=(Zr (n:=n) h h2 h3).trans h4;unfold jE mU;rw[e,if_neg (fun q=>q rfl),if_neg (fun q=>q rfl)];exact⟨rfl,rfl,rfl⟩
def sW(r c:Int):Node:=⟨0,2,[],[],⟨r,c,[],[]⟩,[]⟩
def Sb:ByteArray:={data:=#[107,105,110,100]}
def nV(e:Bool):Node:=⟨0,4,[⟨Sb,if e=true then {data:=#[101,110,100]} else {data:=#[102,111,111,116]}⟩],[⟨10,0,[]⟩],⟨0,0,[],[]⟩,[]⟩
def rj(l:List aI):Node:=⟨0,5,l,[],⟨0,0,[],[]⟩,[]⟩
def gJ(d:Doc)(k:Int):Int:=if ez d≠0 then ez d else if eM d.aq k=false then 7 else if jX (d.aq.getD (bt d.aq k) default).af=false then 8 else 0
def Ap:Node:=⟨0,0,[],[],⟨0,0,[],[]⟩,[]⟩
def dH(d:Doc)(k:Int):Node:=if gJ d k≠0 then Ap else d.aq.getD (bt d.aq k) default
theorem Sc{d:Doc}{k e:Int}(h:gJ d k=e)(he:e≠0):dH d k=Ap/\gJ d k=e:=by
 unfold dH;rw[h,if_pos he];exact⟨rfl,rfl⟩
theorem w1B{d:Doc}{k:Int}(h:ez d≠0):dH d k=Ap/\gJ d k=ez d:=Sc (by unfold gJ;rw[if_pos h]) h
theorem w1C{d:Doc}{k:Int}(h:ez d=0)(h2:eM d.aq k=false):dH d k=Ap/\gJ d k=7:=Sc (by unfold gJ;rw[if_neg (fun q=>q h),if_pos h2]) dM
theorem w1D{d:Doc}{k:Int}(h:ez d=0)(h2:eM d.aq k=true)(h3:jX (d.aq.getD (bt d.aq k) default).af=false):dH d k=Ap/\gJ d k=8:=
 Sc (by unfold gJ;rw[if_neg (fun q=>q h),if_neg (by rw[h2];decide),if_pos h3]) dM
theorem w1E{d:Doc}{k:Int}(h:ez d=0)(h2:eM d.aq k=true)(h3:jX (d.aq.getD (bt d.aq k) default).af=true):dH d k=d.aq.getD (bt d.aq k) default/\gJ d k=0:=by
 have e:gJ d k=0:=by unfold gJ;rw[if_neg (fun q=>q h),if_neg (by rw[h2];decide),if_neg (by rw[h3];decide)]
 unfold dH;rw[e,if_neg (fun q=>q rfl)];exact⟨rfl,rfl⟩
theorem Zs{d:Doc}{k:Int}(h:gJ d k=0):(0<=(dH d k).az.ak/\(dH d k).az.ak<=2147483647)/\0<=(dH d k).az.aj/\(dH d k).az.aj<=2147483647:=by
 have e:dH d k=d.aq.getD (bt d.aq k) default:=by unfold dH;rw[h,if_neg (fun q=>q rfl)]
 unfold gJ at h;split at h
 ·rename_i q;exact absurd h q
 rename_i q;have hd:ez d=0:=qc q;split at h
 ·cases h
 rename_i hn;split at h
 ·cases h
 rename_i hg;have hn:eM d.aq k=true:=by simpa using hn
 have hg:jX (d.aq.getD (bt d.aq k) default).af=true:=by simpa using hg
 have fQ:=(rX.1 hn).1;have nN:fT (d.aq.getD (bt d.aq k) default)=0:=by
  unfold ez at hd;split at hd
  ·cases hd
  split at hd
  ·rename_i q;exact absurd hd q
  rename_i q;exact(IY _ 0 rfl (qc q)).1 _ (qG _) fQ
 rw[e];generalize d.aq.getD (bt d.aq k) default=n at nN hg;have KB:jI n.az=0:=by
  unfold fT at nN;split at nN
  ·cases nN
  split at nN
  ·cases nN
  split at nN
  ·rename_i q;exact absurd nN q
  split at nN
  ·cases nN
  split at nN
  ·rename_i q;exfalso;unfold jX at hg;unfold eX nh at q;simp only[qM,beq_iff_eq] at hg q;omega
  (try rw[if_pos hg] at nN)
  split at nN
  ·rename_i q;exact absurd nN q
  rename_i q;exact qc q
 unfold jI at KB;split at KB
 ·cases KB
 omega
theorem x4G{d:Doc}(h:fD d)(k:Int):(dH d k).az.cells.length<=1048576:=by
 unfold dH;split
 ·simp[Ap]
 by_cases q:bt d.aq k<d.aq.length
 ·exact(h.all _ (fE q)).LX
 rw[qd,zP oM];simp[default,instInhabitedNode]
def gM(k n:Int):List aA:=if n>0 then[{af:=k,n:=n}] else[]
theorem Ev(k n:Int):(gM k n).length<=1:=by unfold gM;split<;>simp
def Gb(m a n:Int):List aA:=(((([]:List aA)++gM 0 a)++gM 1 n)++gM 2 (0-n))++gM 0 ((m-a)- max 0 (0-n))
def ny(m a n:Int):Int:=if n< -2147483647\/n=0\/a<0\/m<a\/(n<0/\m-a< -n) then 2 else if 1000<n then 3 else jT (Gb m a n)
def oJ(m a n:Int):List aA:=if n< -2147483647\/n=0\/a<0\/m<a\/(n<0/\m-a< -n) then[] else if 1000<n then[] else Gb m a n
theorem w1F{m a n:Int}(h:(((n< -2147483647\/n=0)\/a<0)\/m<a)\/(n<0/\m-a< -n)):oJ m a n=[]/\ny m a n=2:=by
 have hc:(n< -2147483647\/n=0\/a<0\/m<a\/(n<0/\m-a< -n)):=oM;unfold oJ ny;rw[if_pos hc,if_pos hc];exact⟨rfl,rfl⟩
theorem w1G{m a n:Int}(h:(((-2147483647<=n/\¬n=0)/\0<=a)/\a<=m)/\(0<=n\/ -n<=m-a))(h2:1000<n):oJ m a n=[]/\ny m a n=3:=by
 have hc:¬(n< -2147483647\/n=0\/a<0\/m<a\/(n<0/\m-a< -n)):=oM;unfold oJ ny;rw[if_neg hc,if_neg hc,if_pos h2,if_pos h2];exact⟨rfl,rfl⟩
theorem w1H{m a n:Int}(h:(((-2147483647<=n/\¬n=0)/\0<=a)/\a<=m)/\(0<=n\/ -n<=m-a))(h2:n<=1000):oJ m a n=Gb m a n/\ny m a n=jT (Gb m a n):=by
 have hc:¬(n< -2147483647\/n=0\/a<0\/m<a\/(n<0/\m-a< -n)):=oM;have rS:¬1000<n:=oM;unfold oJ ny;rw[if_neg hc,if_neg hc,if_neg rS,if_neg rS];exact⟨rfl,rfl⟩
def vF(d:Doc)(k a n:Int):Int:=if gJ d k≠0 then gJ d k else ny (dH d k).az.ak a n
def xm(d:Doc)(k a n:Int):List aP:=if vF d k a n≠0 then[] else[gY k ⟨oJ (dH d k).az.ak a n,[],[],[],[]⟩]
theorem w1I{d:Doc}{k a n:Int}(h:gJ d k≠0):xm d k a n=[]/\vF d k a n=gJ d k:=by
 have e:vF d k a n=gJ d k:=by unfold vF;rw[if_pos h]
 unfold xm;rw[e,if_pos h];exact⟨rfl,rfl⟩
theorem w1J{d:Doc}{k a n:Int}(h:gJ d k=0)(h2:ny (dH d k).az.ak a n≠0):xm d k a n=[]/\vF d k a n=ny (dH d k).az.ak a n:=by
 have e:vF d k a n=ny (dH d k).az.ak a n:=by unfold vF;rw[if_neg (fun q=>q h)]
 unfold xm;rw[e,if_pos h2];exact⟨rfl,rfl⟩
theorem w1K{d:Doc}{k a n:Int}(h:gJ d k=0)(h2:ny (dH d k).az.ak a n=0):xm d k a n=[gY k ⟨oJ (dH d k).az.ak a n,[],[],[],[]⟩]/\vF d k a n=0:=by
 have e:vF d k a n=0:=by unfold vF;rw[if_neg (fun q=>q h),h2]
 unfold xm;rw[e,if_neg (fun q=>q rfl)];exact⟨rfl,rfl⟩
def vG(d:Doc)(k a n:Int):Int:=if gJ d k≠0 then gJ d k else ny (dH d k).az.aj a n
def xo(d:Doc)(k a n:Int):List aP:=if vG d k a n≠0 then[] else[gY k ⟨[],oJ (dH d k).az.aj a n,[],[],[]⟩]
theorem w1L{d:Doc}{k a n:Int}(h:gJ d k≠0):xo d k a n=[]/\vG d k a n=gJ d k:=by
 have e:vG d k a n=gJ d k:=by unfold vG;rw[if_pos h]
 unfold xo;rw[e,if_pos h];exact⟨rfl,rfl⟩
theorem w1M{d:Doc}{k a n:Int}(h:gJ d k=0)(h2:ny (dH d k).az.aj a n≠0):xo d k a n=[]/\vG d k a n=ny (dH d k).az.aj a n:=by
 have e:vG d k a n=ny (dH d k).az.aj a n:=by unfold vG;rw[if_neg (fun q=>q h)]
 unfold xo;rw[e,if_pos h2];exact⟨rfl,rfl⟩
theorem w1N{d:Doc}{k a n:Int}(h:gJ d k=0)(h2:ny (dH d k).az.aj a n=0):xo d k a n=[gY k ⟨[],oJ (dH d k).az.aj a n,[],[],[]⟩]/\vG d k a n=0:=by
 have e:vG d k a n=0:=by unfold vG;rw[if_neg (fun q=>q h),h2]
 unfold xo;rw[e,if_neg (fun q=>q rfl)];exact⟨rfl,rfl⟩
theorem x7I{α:Type}[Inhabited α]{f:α->Bool}{l:List α}{i:Nat}(h:i<l.length)(h2:f (l.getD i default)=true):gw f l i=(i:Int):=by rw[gw,if_pos h,if_pos h2]
theorem x4H{α:Type}[Inhabited α]{f:α->Bool}{l:List α}{i:Nat}(h:i<l.length)(h2:f (l.getD i default)=false):gw f l i=gw f l (i+1):=by rw[gw,if_pos h,if_neg (by rw[h2];decide)]
theorem x7J{α:Type}[Inhabited α]{f:α->Bool}{l:List α}{i:Nat}(h:¬i<l.length):gw f l i= -1:=by rw[gw,if_neg h]
def AQ(d:Doc)(k r c:Int):Int:=gw (fun x:Cell=>x.aF==r&&x.aV==c) (dH d k).az.cells 0
def lI(d:Doc)(k r c aC:Int):Int:=
 if gJ d k≠0 then gJ d k else if(dH d k).af≠2 then 8
 else if r<0\/(dH d k).az.ak<=r\/c<0\/(dH d k).az.aj<=c then 2
 else if 0<=AQ d k r c then 0 else ig d aC
def xR(d:Doc)(aC:Int):Node:=⟨ij d aC,3,[],[⟨10,0,[]⟩],⟨0,0,[],[]⟩,[]⟩
def Sd(d:Doc)(k r c aC:Int):List aP:=[nk (xR d aC),gY k ⟨[],[],[⟨r,c,{data:=#[]},ij d aC,[]⟩],[],[]⟩]
def nU(d:Doc)(k r c aC:Int):List aP:=if lI d k r c aC≠0\/0<=AQ d k r c then[] else Sd d k r c aC
def sX(d:Doc)(k r c aC:Int):Int:=if lI d k r c aC≠0 then 0 else if 0<=AQ d k r c then((dH d k).az.cells.getD (AQ d k r c).toNat default).bh else ij d aC
theorem Mo{d:Doc}{k r c aC e:Int}(h:lI d k r c aC=e)(he:e≠0):nU d k r c aC=[]/\sX d k r c aC=0/\lI d k r c aC=e:=by
 unfold nU sX;rw[h,if_pos (.inl he),if_pos he];exact⟨rfl,rfl,rfl⟩
theorem w1P{d:Doc}{k r c aC:Int}(h:gJ d k≠0):nU d k r c aC=[]/\sX d k r c aC=0/\lI d k r c aC=gJ d k:=Mo (by unfold lI;rw[if_pos h]) h
theorem w1Q{d:Doc}{k r c aC:Int}(h:gJ d k=0)(h2:¬(dH d k).af=2):nU d k r c aC=[]/\sX d k r c aC=0/\lI d k r c aC=8:=Mo (by unfold lI;rw[if_neg (fun q=>q h),if_pos h2]) dM
theorem w1R{d:Doc}{k r c aC:Int}(h:gJ d k=0)(h2:(dH d k).af=2)(h3:((r<0\/(dH d k).az.ak<=r)\/c<0)\/(dH d k).az.aj<=c):nU d k r c aC=[]/\sX d k r c aC=0/\lI d k r c aC=2:=
 Mo (by unfold lI;rw[if_neg (fun q=>q h),if_neg (fun q=>q h2),if_pos oM]) dM
theorem w1S{d:Doc}{k r c aC:Int}{i:Nat}(h:gJ d k=0)(h2:(dH d k).af=2)(h3:((0<=r/\r< (dH d k).az.ak)/\0<=c)/\c< (dH d k).az.aj)(h4:gw (fun x:Cell=>x.aF==r&&x.aV==c) (dH d k).az.cells 0=(i:Int)):
 nU d k r c aC=[]/\sX d k r c aC=((dH d k).az.cells.getD i default).bh/\lI d k r c aC=0:=by
 have hi:AQ d k r c=(i:Int):=h4;have e:lI d k r c aC=0:=by unfold lI;rw[if_neg (fun q=>q h),if_neg (fun q=>q h2),if_neg oM,hi,if_pos oM]
 unfold nU sX;rw[e,hi,if_pos (.inr oM),if_neg (fun q=>q rfl),if_pos oM];exact⟨rfl,rfl,rfl⟩
theorem Zt{d:Doc}{k r c aC:Int}(h:gJ d k=0)(h2:(dH d k).af=2)(h3:((0<=r/\r< (dH d k).az.ak)/\0<=c)/\c< (dH d k).az.aj)(h4:gw (fun x:Cell=>x.aF==r&&x.aV==c) (dH d k).az.cells 0= -1):lI d k r c aC=ig d aC:=by
 have hi:AQ d k r c= -1:=h4;unfold lI;rw[if_neg (fun q=>q h),if_neg (fun q=>q h2),if_neg oM,hi,if_neg oM]
theorem w1T{d:Doc}{k r c aC:Int}(h:gJ d k=0)(h2:(dH d k).af=2)(h3:((0<=r/\r< (dH d k).az.ak)/\0<=c)/\c< (dH d k).az.aj)(h4:gw (fun x:Cell=>x.aF==r&&x.aV==c) (dH d k).az.cells 0= -1)(h5:¬ig d aC=0):
 nU d k r c aC=[]/\sX d k r c aC=0/\lI d k r c aC=ig d aC:=Mo (Zt h h2 h3 h4) h5
theorem w1U{d:Doc}{k r c aC:Int}(h:gJ d k=0)(h2:(dH d k).af=2)(h3:((0<=r/\r< (dH d k).az.ak)/\0<=c)/\c< (dH d k).az.aj)(h4:gw (fun x:Cell=>x.aF==r&&x.aV==c) (dH d k).az.cells 0= -1)(h5:ig d aC=0):
 nU d k r c aC=Sd d k r c aC/\sX d k r c aC=ij d aC/\lI d k r c aC=0:=by
 have hi:AQ d k r c= -1:=h4;have e:=(Zt (aC:=aC) h h2 h3 h4).trans h5;unfold nU sX;rw[e,hi,if_neg oM,if_neg (fun q=>q rfl),if_neg oM];exact⟨rfl,rfl,rfl⟩
def w2V(s:ByteArray)(l:List aI)(i:Nat):aL:=⟨(gQ s i:Int),0,l⟩
def yz(s:ByteArray)(l:List aI)(n:Nat):List aL:=(List.range n).map (w2V s l)
theorem x1P(s:ByteArray)(l:List aI)(n:Nat):yz s l (n+1)=yz s l n++[⟨(gQ s n:Int),0,l⟩]:=by
 unfold yz;rw[ja,zo];rfl
theorem Se(s:ByteArray)(n:Nat):(s.extract n s.size).size=s.size-n:=by simp[ByteArray.size_extract]
theorem x7K{s:ByteArray}{n:Nat}(h:n<s.size):gQ (s.extract n s.size) 0=gQ s n:=by
 unfold gQ;have h1:0< (s.extract n s.size).size:=by rw[Se];omega
 rw[getElem?_pos s n h,getElem?_pos (s.extract n s.size) 0 h1];simp[ByteArray.getElem_extract]
theorem x7L{s:ByteArray}{n:Nat}:(s.extract n s.size).extract 1 (s.extract n s.size).size=s.extract (n+1) s.size:=by
 rw[Se];apply ByteArray.ext;simp only[ByteArray.data_extract,Array.extract_extract];congr 1;omega
theorem x7M(s:ByteArray):s.extract 0 s.size=s:=sM
def wS(s:ByteArray):Prop:=∀i,i<s.size->(32<=gQ s i/\gQ s i<127)\/gQ s i=10
def kI(s:ByteArray):List Int:=(List.range s.size).map fun i=>(gQ s i:Int)
theorem x4K(s:ByteArray)(l:List aI):yz s l s.size=(kI s).map (uQ l):=by
 unfold yz kI;rw[List.map_map];rfl
def w2W(s:ByteArray):Bool:=(List.range s.size).all fun i=>(decide (32<=gQ s i)&&decide (gQ s i<127))||gQ s i==10
theorem Sf{s:ByteArray}(h:w2W s=true):wS s:=by
 intro i hi;have:=qS.1 h i (List.mem_range.2 hi);simp only[qM,qq,decide_eq_true_eq,beq_iff_eq] at this;exact this
theorem KL:wS {data:=#[]}:=Sf (by decide+kernel)
def Aq(a b:List fN)(i:Nat):Bool:=
 if i<a.length then if a.getD i default=b.getD i default then Aq a b (i+1) else false else true
termination_by a.length-i
def yZ(a b:List fN):Bool:=decide (a.length=b.length)&&Aq a b 0
def bN(x lo hi:Int):Int:=lo+((x.tmod (hi-lo+1))+(hi-lo+1)).tmod (hi-lo+1)
theorem Zu(x:Int){n:Int}(hn:0<n): -n<x.tmod n/\x.tmod n<n:=by
 have h1:=Int.tmod_lt_of_pos x hn;have h2: -n<x.tmod n:=by
  rcases Int.le_total 0 x with h|h
  ·have:=Int.tmod_nonneg n h;omega
  have h3:=Int.tmod_lt_of_pos (-x) hn;rw[Int.neg_tmod] at h3;omega
 exact⟨h2,h1⟩
theorem jZ(x:Int){lo hi:Int}(h:lo<=hi):lo<=bN x lo hi/\bN x lo hi<=hi:=by
 unfold bN;have h1:=Zu x (n:=hi-lo+1) oM;have h2:=Int.tmod_nonneg (hi-lo+1) (a:=(x.tmod (hi-lo+1))+(hi-lo+1)) oM;have h3:=Int.tmod_lt_of_pos ((x.tmod (hi-lo+1))+(hi-lo+1)) (b:=hi-lo+1) oM;omega
theorem y5Q(a:List fN):yZ a a=true:=by
 have:∀(d i:Nat),a.length-i=d->Aq a a i=true:=by
  intro d;induction d with
  |zero=>intro i h;rw[Aq,if_neg oM]
  |succ d ih=>intro i h;rw[Aq,if_pos oM,if_pos rfl];exact ih (i+1) oM
 unfold yZ;simp[this _ 0 rfl]
def Ew(f:List aL)(i:Nat):Bool:=
 (bif yj (f.getD i default).ah oI then false else !(seq (iZ (f.getD i default).ah F7 0) F6))|| (decide ((i:Int)=(f.length:Int)- 1)&&((f.getD i default).aT==10))
def wC(f:List aL)(i:Nat):List Int:=((List.range i).filter (Ew f)).map fun i:Nat=>(i:Int)
theorem Mr(f:List aL)(i:Nat):wC f (i+1)=wC f i++(if Ew f i=true then[(i:Int)] else[]):=by
 unfold wC;rw[ja,zH,zo];congr 1;by_cases h:Ew f i=true
 ·rw[if_pos h];simp[h]
 rw[if_neg h];simp at h;simp[h]
theorem Sg(f:List aL)(i:Nat):(wC f i).length<=i:=by
 unfold wC;rw[qj];exact qC (zO ..) sM
def jt(d:Doc)(k:Int):Node:=if kN d.aq k 0<0 then Ap else d.aq.getD (kN d.aq k 0).toNat default
def BG(d:Doc)(k:Int):Bool:=decide (0<=kN d.aq k 0)
theorem x7O{d:Doc}{k:Int}{i:Nat}(h:kN d.aq k 0=(i:Int)):jt d k=d.aq.getD i default/\BG d k=true:=by
 unfold jt BG;rw[h,if_neg oM,decide_eq_true oM];exact⟨rfl,rfl⟩
theorem x7P{d:Doc}{k:Int}(h:kN d.aq k 0= -1):jt d k=Ap/\BG d k=false:=by
 unfold jt BG;rw[h,if_pos oM,decide_eq_false oM];exact⟨rfl,rfl⟩
def uT(n:Node):Int:=if 0<n.draw.length then(n.draw.getD (n.draw.length- 1) default).clock else 0
def vM(n:Node)(ks:List Int):List Int:=(ks.filter fun x=>n.af==x).map fun _=>n.id
def wD(l:List Node)(ks:List Int):List Int:=l.flatMap fun n=>vM n ks
def kz(d:Doc)(k:Int)(ks:List Int):Int:=if(wD d.aq ks).length=0 then 0 else(wD d.aq ks).getD (bN k 0 (((wD d.aq ks).length:Int)- 1)).toNat default
theorem Zv(n:Node)(ks:List Int):(vM n ks).length<=ks.length:=by
 unfold vM;rw[qj];exact zO ..
theorem x1R(l:List Node)(ks:List Int):(wD l ks).length<=l.length*ks.length:=by
 induction l with
 |nil=>simp[wD]
 |cons n l ih=>
  have:=Zv n ks;have e:wD (n::l) ks=vM n ks++wD l ks:=rfl;rw[e,qf,qi,zq,Nat.one_mul];omega
theorem Zw{n:Node}{ks:List Int}{j:Nat}(h:j<ks.length):vM n (ks.take (j+1))=vM n (ks.take j)++(if n.af=ks.getD j default then[n.id] else[]):=by
 have e:ks.getD j default=ks[j]:=by rw[qd,qa h];rfl
 unfold vM;rw[qt h,zH,zo,e];congr 1;by_cases q:n.af=ks[j]
 ·rw[if_pos q];simp[q]
 rw[if_neg q];simp[q]
theorem y9m{l:List Node}{ks:List Int}{i:Nat}(h:i<l.length):wD (l.take (i+1)) ks=wD (l.take i) ks++vM (l.getD i default) ks:=by
 have e:l.getD i default=l[i]:=by rw[qd,qa h];rfl
 unfold wD;rw[qt h,List.flatMap_append,e];simp
def iQ(d:Doc)(b:Int):Int:=kz d (IntKind.i64.wrap (b.tdiv 7)) [1,3,4,12]
def wE(d:Doc)(b:Int):Int:=max 0 (((wC (jt d (iQ d b)).aD (jt d (iQ d b)).aD.length).length:Int)- 1)
def jK(d:Doc)(b c:Int):Int:=bN (IntKind.i64.wrap (c.tdiv 5)) 0 (wE d b)
def mD(d:Doc)(b c:Int):Int:=bN (IntKind.i64.wrap (c.tdiv 11)) (jK d b c) (min (wE d b) (jK d b c+4))
abbrev As:List ByteArray:=[{data:=#[120]},{data:=#[121,122]},{data:=#[10]},{data:=#[119,32,118]},{data:=#[98]}]
theorem Jl{α:Type}[Inhabited α]{P:α->Prop}{l:List α}(h:∀x∈l,P x)(h0:P default)(k:Nat):P (l.getD k default):=by
 by_cases q:k<l.length
 ·exact h _ (fE q)
 rw[qd,zP oM];exact h0
theorem HV(k:Nat):wS (As.getD k default):=by
 refine Jl (P:=wS) (fun t ht=>Sf ?_) (fun i hi=>absurd hi (Nat.not_lt_zero _)) k;simp only[As,qg,qX,or_false] at ht;rcases ht with rfl|rfl|rfl|rfl|rfl<;>decide+kernel
theorem Sh(k:Nat):(As.getD k default).size<=20000:=by
 refine Jl (P:=fun t:ByteArray=>t.size<=20000) (fun t ht=> ?_) dM k;simp only[As,qg,qX,or_false] at ht;rcases ht with rfl|rfl|rfl|rfl|rfl<;>decide
theorem Pk:wS {data:=#[116]}:=Sf (by decide+kernel)
theorem Zx(k:Nat): -1000000<=([1,2,-1]:List Int).getD k default/\([1,2,-1]:List Int).getD k default<=2147483647:=by
 refine Jl (P:=fun x:Int=> -1000000<=x/\x<=2147483647) (fun t ht=> ?_) dM k;simp only[qg,qX,or_false] at ht;rcases ht with rfl|rfl|rfl<;>decide
abbrev Ms:List aI:=[{name:={data:=#[107,105,110,100]},val:={data:=#[115,101,113]}}]
theorem Zy:dO false Ms 0=0:=by decide+kernel
theorem Zz{d:Doc}(h:fD d)(k:Int):(jt d k).aD.length<=1048576:=by
 unfold jt;split
 ·simp[Ap]
 by_cases q:(kN d.aq k 0).toNat<d.aq.length
 ·exact(h.all _ (fE q)).LW
 rw[qd,zP oM];simp[default,instInhabitedNode]
theorem x1T{d:Doc}(h:fD d)(k:Int):(jt d k).draw.length<=1048576:=by
 unfold jt;split
 ·simp[Ap]
 by_cases q:(kN d.aq k 0).toNat<d.aq.length
 ·exact(h.all _ (fE q)).Rx
 rw[qd,zP oM];simp[default,instInhabitedNode]
theorem Si{d:Doc}(h:fD d)(b:Int):0<=wE d b/\wE d b<=1048576:=by
 have h1:=Zz h (iQ d b);have h2:=Sg (jt d (iQ d b)).aD (jt d (iQ d b)).aD.length;unfold wE;omega
theorem ZA{d:Doc}(h:fD d)(b c:Int):0<=jK d b c/\jK d b c<=wE d b:=jZ _ (Si h b).1
abbrev rF(d:Doc)(b c:Int):bM:={nd:=iQ d b,fr:=jK d b c,tq:=mD d b c}
structure Ex(d:Doc)(aC b c:Int):Prop where
 ty:∀t au:ByteArray,wS t->t.size<=20000->dP d (rF d b c) au=0->BF d (rF d b c) (kI t) au
 fm:dP d (rF d b c) {data:=#[]}=0->mq (bL d (rF d b c) {data:=#[]})
 pa:dP d (rF d b c) {data:=#[]}=0->mq (bL d (rF d b c) {data:=#[]})/\0<=jK d b c/\jK d b c<=mD d b c/\mD d b c<=1000000000
 ob:∀n:Node,dP d (rF d b c) {data:=#[]}=0->ig d aC=0->yy d (rF d b c) n aC {data:=#[]}
 lc: -1<=uT (jt d (kz d b [10,8]))/\uT (jt d (kz d b [10,8]))<=1000000000000
def j0(k:Int)(l:List aI):aP:=⟨1,k,⟨0,0,[],[],⟨0,0,[],[]⟩,[]⟩,l,[],⟨[],[],[],[],[]⟩,[]⟩
def j3(k:Int)(l:List fN):aP:=⟨4,k,⟨0,0,[],[],⟨0,0,[],[]⟩,[]⟩,[],[],⟨[],[],[],[],[]⟩,l⟩
def dR(d:Doc)(aC a b c:Int):List aP:=
 if bN a 0 13=0\/bN a 0 13=1\/bN a 0 13=2 then nT d (rF d b c) (kI (As.getD (Int.toNat (bN b 0 4)) default)) {data:=#[]}
 else if bN a 0 13=3 then nT d (rF d b c) (kI {data:=#[]}) {data:=#[]}
 else if bN a 0 13=4 then nT d (rF d b c) (kI {data:=#[116]}) {data:=#[97,110,110]}
 else if bN a 0 13=5 then xh d (rF d b c) [{name:=[{data:=#[98,111,108,100]},{data:=#[115,105,122,101]},{data:=#[109,97,114,107,46,109]}].getD (Int.toNat (bN b 0 2)) default,val:=[{data:=#[]},{data:=#[111,110]},{data:=#[52,48]}].getD (Int.toNat (bN (IntKind.i64.wrap (a.tdiv 14)) 0 2)) default}]
 else if bN a 0 13=6 then xk d (rF d b c) [{name:=[{data:=#[104,101,97,100]},{data:=#[108,105,115,116]},{data:=#[97,108,105,103,110]}].getD (Int.toNat (bN b 0 2)) default,val:=[{data:=#[49]},{data:=#[50]},{data:=#[]}].getD (Int.toNat (bN (IntKind.i64.wrap (a.tdiv 14)) 0 2)) default}]
 else if bN a 0 13=7 then jE d (rF d b c) (sW (bN b 1 3) (bN (IntKind.i64.wrap (a.tdiv 14)) 1 3)) aC {data:=#[]}
 else if bN a 0 13=8 then jE d (rF d b c) (nV (b.tmod 2==0)) aC {data:=#[]}
 else if bN a 0 13=9 then jE d (rF d b c) (rj Ms) aC {data:=#[]}
 else if bN a 0 13=10 then xm d (kz d b [2,6]) (bN c 0 2) ([1,2,-1].getD (Int.toNat (bN (IntKind.i64.wrap (a.tdiv 14)) 0 2)) default)
 else if bN a 0 13=11 then xo d (kz d b [2,6]) (bN c 0 2) ([1,2,-1].getD (Int.toNat (bN (IntKind.i64.wrap (a.tdiv 14)) 0 2)) default)
 else if bN a 0 13=12 then nU d (kz d b [2]) (bN c 0 2) (bN (IntKind.i64.wrap (a.tdiv 14)) 0 2) aC
 else if BG d (kz d b [10,8])=true then
  [j3 (jt d (kz d b [10,8])).id [{clock:=1+uT (jt d (kz d b [10,8])),aC:=aC,af:=0,tH:=bN c 1 3,prt:=bN (IntKind.i64.wrap (a.tdiv 14)) (-1) 3,nu:={data:=#[98]},nm:={data:=#[]},vl:={data:=#[]}}]]
 else[j0 1 [{name:={data:=#[116,105,116,108,101]},val:=[{data:=#[]},{data:=#[112]},{data:=#[113]}].getD (Int.toNat (bN c 0 2)) default}]]
def gf:Doc:=⟨[⟨1,0,[],[⟨0,2,[]⟩],⟨0,0,[],[]⟩,[]⟩,⟨2,1,[],[⟨10,0,[]⟩],⟨0,0,[],[]⟩,[]⟩]⟩
def wQ:Doc:=⟨[⟨1,0,[],[⟨0,2,[]⟩,⟨0,3,[]⟩],⟨0,0,[],[]⟩,[]⟩,⟨2,1,[],[⟨97,0,[]⟩,⟨98,0,[]⟩,⟨99,0,[]⟩,⟨10,0,[]⟩,⟨100,0,[]⟩,⟨10,0,[]⟩],⟨0,0,[],[]⟩,[]⟩,⟨3,10,[],[],⟨0,0,[],[]⟩,[]⟩]⟩
def Jm:Node:=⟨1,0,[],[⟨0,2,[]⟩],⟨0,0,[],[]⟩,[]⟩
def Jn:Node:=⟨2,1,[],[⟨10,0,[]⟩],⟨0,0,[],[]⟩,[]⟩
theorem KE:ez gf=0:=by decide+kernel
theorem O0:fD gf:=by
 have hx:∀n∈gf.aq,n=Jm\/n=Jn:=fun n hn=>by
  have hn:n∈[Jm,Jn]:=hn;simpa using hn
 refine⟨⟨dM,fun n hn=> ?_,dM⟩,fun n hn=> ?_⟩
 ·rcases hx n hn with rfl|rfl
  ·refine⟨(fun a h=>by cases h),dM,fun x h=> ?_,dM,fun x h=> ?_,(fun c h=>by cases h),dM,(fun c h=>by cases h),dM,dM,(fun o h=>by cases h)⟩
   ·rw[show x=⟨0,2,[]⟩ by simpa[Jm] using h];exact(fun a h=>by cases h)
   rw[show x=⟨0,2,[]⟩ by simpa[Jm] using h];decide
  refine⟨(fun a h=>by cases h),dM,fun x h=> ?_,dM,fun x h=> ?_,(fun c h=>by cases h),dM,(fun c h=>by cases h),dM,dM,(fun o h=>by cases h)⟩
  ·rw[show x=⟨10,0,[]⟩ by simpa[Jn] using h];exact(fun a h=>by cases h)
  rw[show x=⟨10,0,[]⟩ by simpa[Jn] using h];decide
 rcases hx n hn with rfl|rfl<;>exact⟨rfl,(fun c h=>by cases h)⟩
structure Vis where
 id:Int
 parent:Int
 vis:Bool
instance:Inhabited Vis:=⟨⟨0,0,false⟩⟩
def Cq(k:Int):Int×MV:=(k,.im (Ab.TB true))
def kF(s:ByteArray):List aI:=[⟨s,{data:=#[111,110]}⟩]
def ZB:List aP:=[j0 2 (kF {data:=#[116,105,116,108,101]})]
theorem x9R:sD gf ZB:=by
 have hl:=O0;have ho:pq (j0 2 (kF {data:=#[116,105,116,108,101]})):=by
  refine⟨⟨dM,dM,dM,dM,dM⟩,⟨(fun a h=>by cases h),dM,(fun x h=>by cases h),dM,(fun x h=>by cases h),(fun c h=>by cases h),dM,(fun c h=>by cases h),dM,dM,(fun o h=>by cases h)⟩,⟨rfl,(fun c h=>by cases h)⟩,dM,(fun s h=>by cases h),⟨rfl,rfl,(fun c h=>by cases h),dM⟩,(fun c h=>by cases h),dM⟩
 refine⟨hl,fun o h=> ?_,fun h1 h2=>⟨⟨dM,KD KE,by decide+kernel,ho,fun n hn=>⟨hl.all n hn,hl.lY n hn,?_⟩⟩,fun _=>trivial⟩⟩
 ·rw[show o=j0 2 (kF {data:=#[116,105,116,108,101]}) by simpa[ZB] using h];exact ho
 have hn:n∈[Jm,Jn]:=hn;simp only[qg,qX,or_false] at hn;rcases hn with rfl|rfl<;>decide
def Jo(aC:Int)(d:Doc)(a b c:Int):Doc:=if gV d (dR d aC a b c)=0 then jB d (dR d aC a b c) else d
theorem KF{aC:Int}{d:Doc}{a b c:Int}(h:gV d (dR d aC a b c)=0):Jo aC d a b c=jB d (dR d aC a b c):=if_pos h
theorem O2{aC:Int}{d:Doc}{a b c:Int}(h:¬gV d (dR d aC a b c)=0):Jo aC d a b c=d:=if_neg h
def sE(aC:Int)(raw:List Int)(d:Doc)(k:Nat):Doc:=
 if k+2<raw.length/\k<36 then sE aC raw (Jo aC d (raw.getD k default) (raw.getD (k+1) default) (raw.getD (k+2) default)) (k+3) else d
termination_by raw.length-k
theorem O1{aC:Int}{raw:List Int}{d:Doc}{k:Nat}(h:k+2<raw.length/\k<36):sE aC raw d k=sE aC raw (Jo aC d (raw.getD k default) (raw.getD (k+1) default) (raw.getD (k+2) default)) (k+3):=by
 rw[sE,if_pos h]
theorem UO{aC:Int}{raw:List Int}{d:Doc}{k:Nat}(h:¬(k+2<raw.length/\k<36)):sE aC raw d k=d:=by rw[sE,if_neg h]
structure mO(aC:Int)(G:Nat->Doc->Prop):Prop where
 doc:∀{k d},G k d->fD d
 cmd:∀{k d} (b c:Int),G k d->Ex d aC b c
 app:∀{k d} (a b c:Int),G k d->sD d (dR d aC a b c)
 step:∀{k d} (a b c:Int),k<55->G k d->G (k+3) (Jo aC d a b c)
 more:∀{k d},k<55->G k d->G (k+3) d
theorem mO.grown{aC:Int}{G:Nat->Doc->Prop}(hI:mO aC G){raw:List Int}:∀(m:Nat) {k:Nat} {d:Doc},raw.length-k=m->k<39->G k d->∃k',k'<=38/\G k' (sE aC raw d k):=by
 intro m;induction m using Nat.strongRecOn with
 |_ m ih=>
  intro k d hm hk hg;by_cases h:k+2<raw.length/\k<36
  ·rw[O1 h];exact ih _ oM rfl oM (hI.step _ _ _ oM hg)
  rw[UO h];exact⟨k,oM,hg⟩
def Cr(g:Bool)(x:List aP)(n:Nat):Bool:=(x.take n).any fun o=>(o.af==3)&& !g
theorem x4L{g:Bool}{x:List aP}{n:Nat}(h:n<x.length):Cr g x (n+1)=(Cr g x n|| (((x.getD n default).af==3)&& !g)):=by
 have e:x.getD n default=x[n]:=by rw[qd,qa h];rfl
 unfold Cr;rw[qt h,List.any_append,e];simp
def xS(aC:Int)(g:Bool)(d:Doc)(a b c:Int):Bool:=decide (gV d (dR d aC a b c)=0)&& !Cr g (dR d aC a b c) (dR d aC a b c).length
theorem w1V{aC:Int}{g:Bool}{d:Doc}{a b c:Int}(h:gV d (dR d aC a b c)=0)(h2:Cr g (dR d aC a b c) (dR d aC a b c).length=false):xS aC g d a b c=true:=by unfold xS;rw[h2,decide_eq_true h];rfl
theorem w1W{aC:Int}{g:Bool}{d:Doc}{a b c:Int}(h:¬gV d (dR d aC a b c)=0\/Cr g (dR d aC a b c) (dR d aC a b c).length=true):¬xS aC g d a b c=true:=by
 unfold xS;rcases h with h|h
 ·rw[decide_eq_false h];simp
 rw[h];simp
def kG(aC:Int)(g:Bool)(raw:List Int)(c:List aP)(d:Doc)(k:Nat):List aP×Doc:=
 if k+2<raw.length/\k<15 then
  (if xS aC g d (raw.getD k default) (raw.getD (k+1) default) (raw.getD (k+2) default)=true then
   kG aC g raw (c++dR d aC (raw.getD k default) (raw.getD (k+1) default) (raw.getD (k+2) default)) (jB d (dR d aC (raw.getD k default) (raw.getD (k+1) default) (raw.getD (k+2) default))) (k+3)
  else kG aC g raw c d (k+3))
 else(c,d)
termination_by raw.length-k
theorem O3{aC:Int}{g:Bool}{raw:List Int}{c:List aP}{d:Doc}{k:Nat}(h:k+2<raw.length/\k<15)(h2:xS aC g d (raw.getD k default) (raw.getD (k+1) default) (raw.getD (k+2) default)=true):
 kG aC g raw c d k=kG aC g raw (c++dR d aC (raw.getD k default) (raw.getD (k+1) default) (raw.getD (k+2) default)) (jB d (dR d aC (raw.getD k default) (raw.getD (k+1) default) (raw.getD (k+2) default))) (k+3):=by rw[kG,if_pos h,if_pos h2]
theorem O4{aC:Int}{g:Bool}{raw:List Int}{c:List aP}{d:Doc}{k:Nat}(h:k+2<raw.length/\k<15)(h2:¬xS aC g d (raw.getD k default) (raw.getD (k+1) default) (raw.getD (k+2) default)=true):
 kG aC g raw c d k=kG aC g raw c d (k+3):=by rw[kG,if_pos h,if_neg h2]
theorem KG{aC:Int}{g:Bool}{raw:List Int}{c:List aP}{d:Doc}{k:Nat}(h:¬(k+2<raw.length/\k<15)):kG aC g raw c d k=(c,d):=by rw[kG,if_neg h]
theorem rG{p:Prop}[Decidable p]{x y:List aP}(hx:x.length<=2)(hy:y.length<=2):(if p then x else y).length<=2:=by split<;>assumption
theorem UQ(d:Doc)(aC a b c:Int):(dR d aC a b c).length<=2:=by
 have h0:([]:List aP).length<=2:=dM;have h1:∀(s:bM) (cs:List Int) (au:ByteArray),(nT d s cs au).length<=2:=fun s cs au=>rG h0 sM
 have h2:∀(s:bM) (n:Node) (au:ByteArray),(jE d s n aC au).length<=2:=fun s n au=>rG h0 sM
 unfold dR;refine rG (h1 _ _ _) (rG (h1 _ _ _) (rG (h1 _ _ _) (rG (rG h0 (by simp[yX])) (rG (rG h0 (by simp[yX])) (rG (h2 _ _ _) (rG (h2 _ _ _) (rG (h2 _ _ _) (rG (rG h0 sM) (rG (rG h0 sM) (rG (rG h0 (by simp[Sd])) (rG sM sM)))))))))))
end Go.Ch
end
section
namespace Go.Ch
open Go Go.Ab
structure US where
 nm:List ByteArray
 no:List ByteArray
instance:Membership ByteArray US:=⟨fun U s=>s∈U.nm⟩
def US.length(U:US):Nat:=U.nm.length
def NU(U:US)(s:ByteArray):Prop:=CJ s/\s∈U
def VW(U:US)(s:ByteArray):Prop:=FN s/\s∉U.no
def VU(U:US)(e:Bool)(l:List aI):Prop:=V (NU U) (VW U) e l
variable {U:US}
theorem Gc:¬NU U mt:=fun h=>FO h.1
theorem VU.g{e:Bool}{l:List aI}(h:VU U e l):VG e l:=⟨h.1,fun a ha=>⟨(h.2 a ha).1.1,Or.imp (fun q:VW U a.val=>q.1) (fun q=>q) (h.2 a ha).2⟩⟩
theorem VU.nil{e:Bool}:VU U e []:=⟨Ee.1,fun a h=>by cases h⟩
theorem VU.sub{e:Bool}{l:List aI}(h:VU U false l):VU U e l:=⟨h.1,fun a ha=>⟨(h.2 a ha).1,.inl ((h.2 a ha).2.resolve_right (fun q=>by cases q.1))⟩⟩
theorem ZC:∀{l:List aI} {U:List ByteArray},vt l->(∀a∈l,a.name∈U)->l.length<=U.length
 | [],U,_,_=>qG _
 |a::l,U,hs,hu=>by
  have:=ZC (l:=l) (U:=U.filter fun s=> !(seq s a.name)) hs.2 (fun b hb=>by
   have h1:=hs.1 b hb;rw[zX];exact⟨hu b (by simp[hb]),by rw[nZ.2 (Ne.symm (tG h1))];rfl⟩)
  have h2:=(List.length_filter_lt_length_iff_exists (l:=U) (p:=fun s=> !(seq s a.name))).2 ⟨a.name,hu a sM,by rw[kj.2 rfl];decide⟩;simp only[qi];omega
theorem VU.len{e:Bool}{l:List aI}(h:VU U e l)(hU:U.length<=100):l.length<=100:=qC (ZC h.1 (fun a ha=>(h.2 a ha).1.2)) hU
def RU(U:US)(x:aL):Prop:=gC x=0/\VU U false x.ah
def UU(U:US):DU->Prop
 | .K c=>VU U true c
 | .A e=>RU U e
 | .C=>True
theorem x4M{x:aL}{l:List aI}(h:gC x=0)(hl:VG false l):gC ⟨x.aT,x.bh,l⟩=0:=by
 unfold gC at h|-;split at h
 ·cases h
 rename_i h1;split at h
 ·cases h
 rename_i h2;rw[if_neg h1,if_neg h2];exact oW.2 hl
theorem RU.Sj{x:aL}{c:List aI}(h:RU U x)(hc:VU U true c):RU U (lM c x):=by
 have:=CC Gc h.2 hc;exact⟨x4M h.1 (VU.g this),this⟩
theorem UU.s(hU:U.length<=100){u:DU}(h:UU U u):L9 u:=by
 cases u with
 |K c=>exact⟨VU.g h,VU.len h hU⟩
 |A e=>exact⟨h.1,VU.len h.2 hU⟩
 |C=>trivial
theorem all_cons{α:Type}{P:α->Prop}{x:α}{l:List α}(h:P x)(k:∀u∈l,P u):∀u∈x::l,P u:=fun u hu=>by
 rcases qg.1 hu with rfl|hu
 ·exact h
 exact k u hu
theorem iI{α:Type}{P:α->Prop}{x:α}{l:List α}(h:∀u∈x::l,P u):∀u∈l,P u:=fun u hu=>h u (qR _ hu)
theorem y9p(p q:List DU)(hp:∀u∈p,UU U u)(hq:∀u∈q,UU U u):∀u∈dU p q,UU U u:=by
 induction p,q using dU.induct with
 |case1 q p ih=>rw[dU];exact all_cons trivial (ih (iI hp) hq)
 |case2 p e q dh ih=>
  rw[dU];rotate_left
  ·exact dh
  exact all_cons (hq (.A e) sM) (ih hp (iI hq))
 |case3 c p d q ih=>rw[dU];exact all_cons (W8 Gc (hp (.K c) sM) (hq (.K d) sM)) (ih (iI hp) (iI hq))
 |case4 c p q ih=>rw[dU];exact all_cons trivial (ih (iI hp) (iI hq))
 |case5 e p d q ih=>rw[dU];exact all_cons (RU.Sj (hp (.A e) sM) (hq (.K d) sM)) (ih (iI hp) (iI hq))
 |case6 e p q ih=>rw[dU];exact ih (iI hp) (iI hq)
 |case7 p dh=>rw[show dU p []=p by unfold dU;split<;>simp_all];exact hp
 |case8 q h1 h2=>rw[show dU [] q=[] by unfold dU;split<;>simp_all];intro u hu;cases hu
def gu:List DU->Nat
 | []=>0
 | .A _::us=>gu us+1
 |_::us=>gu us
theorem ZD(p q:List DU)(hp:∀u∈p,UU U u)(hq:∀u∈q,UU U u):∀u∈(bF p q).1,UU U u:=by
 have h0:UU U (.K []):=VU.nil;induction p,q using bF.induct with
 |case1 e p q ih=>rw[bF];exact all_cons (hp (.A e) sM) (ih (iI hp) hq)
 |case2 e q ih=>rw[bF];exact all_cons h0 (ih hp (iI hq))
 |case3 c p e q ih=>rw[bF];exact all_cons h0 (ih hp (iI hq))
 |case4 p e q ih=>rw[bF];exact all_cons h0 (ih hp (iI hq))
 |case5 c p d q ih=>rw[bF];exact all_cons (Lo Gc (hp (.K c) sM) (hq (.K d) sM)) (ih (iI hp) (iI hq))
 |case6 c p q ih=>rw[bF];exact ih (iI hp) (iI hq)
 |case7 p d q ih=>rw[bF];exact all_cons trivial (ih (iI hp) (iI hq))
 |case8 p q ih=>rw[bF];exact ih (iI hp) (iI hq)
 |case9 p dh=>rw[show bF p []=([],[]) by unfold bF;split<;>simp_all];intro u hu;cases hu
 |case10 q h1 h2=>rw[show bF [] q=([],[]) by unfold bF;split<;>simp_all];intro u hu;cases hu
theorem y9q(p q:List DU):cG (bF p q).1<=cG q+gu p:=by
 induction p,q using bF.induct with
 |case9 p dh=>rw[show bF p []=([],[]) by unfold bF;split<;>simp_all];simp[cG]
 |case10 q h1 h2=>rw[show bF [] q=([],[]) by unfold bF;split<;>simp_all];simp[cG]
 |_=>rw[bF];simp only[cG,gu] at*;omega
theorem Ge:∀(us:List DU) (f:List aL),(∀u∈us,UU U u)->(∀x∈f,RU U x)->∀x∈dW us f,RU U x
 | [],f,_,_=>fun x h=>by cases h
 | .A e::us,f,hu,hf=>by rw[dW];exact all_cons (hu (.A e) sM) (Ge us f (iI hu) hf)
 | .K c::us,y::f,hu,hf=>by rw[dW];exact all_cons (RU.Sj (hf y sM) (hu (.K c) sM)) (Ge us f (iI hu) (iI hf))
 | .C::us,y::f,hu,hf=>by rw[dW];exact Ge us f (iI hu) (iI hf)
 | .K c::us,[],hu,hf=>by rw[dW];exact Ge us [] (iI hu) hf
 | .C::us,[],hu,hf=>by rw[dW];exact Ge us [] (iI hu) hf
structure jY(U:US)(l:List aB)(us:List DU):Prop where
 v:j9 l
 sw:jV (bD l) us
 all:∀u∈us,UU U u
theorem jY.dn(hU:U.length<=100){l:List aB}{us:List DU}(h:jY U l us):DN 100000000000 l:=w04 h.v h.sw (fun u hu=>UU.s hU (h.all u hu))
theorem jY.ex{l:List aB}{us:List DU}(h:jY U l us):∀u∈bD l,UU U u:=fun u hu=>h.all u ((Ma h.sw u).1 hu)
theorem jY.done(hU:U.length<=100){us:List DU}(hu:∀u∈us,UU U u)(h1:bK us<=2147483647)(h2:cG us<=2147483647):jY U (tM us) us:=by
 obtain⟨a,b,_⟩:=F4 (fun u h=>(UU.s hU (hu u h)).ok) h1 h2;exact⟨a,b,hu⟩
end Go.Ch
end
section
namespace Go.Ch
open Go Go.Ab
variable {U:US}
theorem ZE(a b:List DU):gu (a++b)=gu a+gu b:=by
 induction a with
 |nil=>simp[gu]
 |cons u a ih=>cases u<;>simp only[qm,gu,ih]<;>omega
theorem x7T(e:List aL):gu (e.map .A)=e.length:=by
 induction e with
 |nil=>rfl
 |cons x e ih=>simp only[qU,gu,ih,qi]
theorem x7U(n:Nat)(c:List aI):gu (List.replicate n (.K c))=0:=by
 induction n with
 |zero=>rfl
 |succ n ih=>rw[qH];exact ih
theorem DE{u v:List DU}(h:jV u v):gu u=gu v:=by
 induction h with
 |refl u=>rfl
 |cons x h ih=>cases x<;>simp only[gu,ih]
 |swap e u=>simp only[gu]
 |symm h ih=>exact ih.symm
 |trans h k i j=>exact i.trans j
theorem x9S{w:fM}{s:aB}(h:(s.af=0/\0<=s.n)\/s.af=1):ku w s=jJ w (ir s):=by
 unfold ku ir;rcases h with⟨k,n⟩|k
 ·rw[if_pos k,if_neg (show¬s.af=1 by omega),if_neg (show¬s.af=2 by omega)];by_cases h0:s.n=0
  ·rw[if_pos h0,h0];rfl
  rw[if_neg h0];obtain⟨m,hm⟩:∃m,s.n.toNat=m+1:=⟨s.n.toNat- 1,oM⟩
  have:=RN s.ah [] m w;rw[qL] at this;rw[hm,this,show((m+1:Nat):Int)=s.n by omega];rfl
 rw[if_neg oM,if_pos k,if_pos k];have:=YP s.elems [] w;rw[qL] at this;rw[this];rfl
theorem ZF:∀(a b:List DU) (w:fM),jJ w (a++b)=jJ (jJ w a) b
 | [],b,w=>rfl
 |u::a,b,w=>ZF a b (tL w u)
theorem ZG:∀(d:List aB) (w:fM),(∀s∈d,((s.af=0/\0<=s.n)\/s.af=1)/\oH s=0)->sr w d=if k8 (bw (jJ w (bD d)))=0 then(bw (jJ w (bD d)),0) else([],3)
 | [],w,_=>by rw[sr,bD,jJ]
 |s::d,w,h=>by
  obtain⟨h1,h2⟩:=h s sM;rw[y9g h2 (fun q=>by unfold z58 at q;omega),ZG d _ (fun t ht=>h t (by simp[ht])),bD,ZF,x9S h1]
theorem x7V{d:List aB}(h:∀s∈d,((s.af=0/\0<=s.n)\/s.af=1)/\oH s=0)(hu:∀u∈bD d,mA u)(h1:bK (bD d)<=2147483647)(h2:cG (bD d)<=2147483647):mB d=tM (bD d):=by
 have hv:=(F4 hu h1 h2).1;unfold mB;rw[ZG d _ h,if_pos (show k8 (bw (jJ ⟨[],[],0⟩ (bD d)))=0 from wO.2 hv)];rfl
theorem ZH{n:Int}{c:List aI}(h:0<=n/\n<=2147483647)(hc:VG true c):oH ⟨0,n,c,[]⟩=0:=by
 by_cases h0:n=0
 ·subst h0;unfold oH;have e:fZ ⟨0,0,c,[]⟩=2:=by unfold fZ;simp
  rw[if_pos (.inr ⟨(by decide:(0:Int)≠1),rfl,e⟩)];exact oW.2 hc
 exact R3 (rD.2 (.inr ⟨.inl rfl,rfl,fun q=>absurd (show(0:Int)=2 from q) dM,(by show(1:Int)<=n;omega),h.2,hc⟩))
theorem x1Y{es:List aL}(h:∀x∈es,gC x=0):oH ⟨1,0,[],es⟩=0:=by
 cases es with
 |nil=>
  unfold oH;have e:fZ ⟨1,0,[],[]⟩=11:=by unfold fZ;simp
  rw[if_pos (.inl ⟨rfl,rfl,e⟩)];exact oW.2 Ee
 |cons x l=>exact R3 (rD.2 (.inl ⟨rfl,rfl,rfl,sM,h⟩))
def yA(n:Nat)(k:Nat)(es:List aL)(au:ByteArray):List DU:=List.replicate k (.K [])++((es.map (Eo au)).map .A++List.replicate (n-k) (.K []))
theorem Mt{n:Nat}{k:Int}{es:List aL}{au:ByteArray}(hk:0<=k/\k<=n):bD (yq n k es au)=yA n k.toNat es au:=by
 unfold yq yA;simp only[bD,ir];rw[if_neg dM,if_neg dM,if_pos trivial,if_neg dM,if_neg dM,qL,show((n:Int)- k).toNat=n-k.toNat by omega]
theorem O5{n k:Nat}{es:List aL}{au:ByteArray}(hk:k<=n):bK (yA n k es au)=n/\cG (yA n k es au)=n+es.length/\gu (yA n k es au)=es.length:=by
 unfold yA;have a:=z39 (es.map (Eo au));have b:=uL k [];have c:=uL (n-k) [];simp only[oe,xd,ZE,x7T,x7U,a.1,a.2,b.1,b.2,c.1,c.2,qj];omega
theorem ZI{au:ByteArray}{x:aL}(ha:VU U true [⟨vD,au⟩,⟨oI,r8⟩])(hx:RU U x):RU U (Eo au x):=RU.Sj hx ha
theorem x10{n k:Nat}{es:List aL}{au:ByteArray}(ha:VU U true [⟨vD,au⟩,⟨oI,r8⟩])(he:∀x∈es,RU U x):∀u∈yA n k es au,UU U u:=by
 intro u hu;unfold yA at hu;rcases qn.1 hu with hu|hu
 ·rw[zZ hu];exact VU.nil
 rcases qn.1 hu with hu|hu
 ·obtain⟨y,hy,rfl⟩:=qO.1 hu;obtain⟨x,hx,rfl⟩:=qO.1 hy;exact ZI ha (he x hx)
 rw[zZ hu];exact VU.nil
theorem UT(hU:U.length<=100){n:Nat}{k:Int}{es:List aL}{au:ByteArray}(hk:0<=k/\k<=n)(hn:n<=100000000)(hl:es.length<=100000000)(ha:VU U true [⟨vD,au⟩,⟨oI,r8⟩])(he:∀x∈es,RU U x):
 tD n k es au=tM (yA n k.toNat es au)/\jY U (tD n k es au) (yA n k.toNat es au):=by
 have hf:=O5 (n:=n) (k:=k.toNat) (es:=es) (au:=au) oM;have gh:=x10 (n:=n) (k:=k.toNat) ha he;have e:tD n k es au=tM (yA n k.toNat es au):=by
  unfold tD;rw[x7V (d:=yq n k es au) (fun s hs=> ?_) (by rw[Mt hk];exact fun u hu=>(UU.s hU (gh u hu)).ok) (by rw[Mt hk];omega) (by rw[Mt hk];omega),Mt hk];unfold yq at hs;simp only[qg,qX,or_false] at hs;rcases hs with rfl|rfl|rfl
  ·exact⟨.inl ⟨rfl,hk.1⟩,ZH oM Ee⟩
  ·refine⟨.inr rfl,x1Y (fun x hx=> ?_)⟩;obtain⟨y,hy,rfl⟩:=qO.1 hx;exact(ZI ha (he y hy)).1
  exact⟨.inl ⟨rfl,(by show(0:Int)<=(n:Int)- k;omega)⟩,ZH oM Ee⟩
 exact⟨e,by rw[e];exact .done hU gh oM oM⟩
theorem O6(f:List aL)(pl:List Int)(au:ByteArray)(n:Nat):bK (uP f pl au n)=n/\cG (uP f pl au n)<=n/\gu (uP f pl au n)=0:=by
 unfold uP;induction n with
 |zero=>exact⟨rfl,qp _,rfl⟩
 |succ n ih=>
  rw[ja,zo,oe,xd,ZE,qU,zF];obtain⟨a,b,c⟩:=ih;rw[a,c];have:bK [vE f pl au n]=1/\cG [vE f pl au n]<=1/\gu [vE f pl au n]=0:=by unfold vE;repeat' split<;>simp[bK,cG,gu]
  omega
theorem x12{f:List aL}{pl:List Int}{au:ByteArray}(ha:seq au r8=false->VU U true [⟨oI,au⟩])(n:Nat):∀u∈uP f pl au n,UU U u:=by
 intro u hu;unfold uP at hu;obtain⟨i,_,rfl⟩:=qO.1 hu;unfold vE;split
 ·split
  ·trivial
  rename_i h;exact ha (by simp only[qM,not_or,zK] at h;exact h.1)
 exact VU.nil
theorem UX(hU:U.length<=100){f:List aL}{pl:List Int}{au:ByteArray}(hn:f.length<=100000000)(ha:seq au r8=false->VU U true [⟨oI,au⟩]):
 pZ f pl au=tM (uP f pl au f.length)/\jY U (pZ f pl au) (uP f pl au f.length):=by
 have hf:=O6 f pl au f.length;have gh:=x12 (f:=f) (pl:=pl) ha f.length;have hlen:(uP f pl au f.length).length=f.length:=by simp[uP]
 have e:pZ f pl au=tM (uP f pl au f.length):=(Y9 (fun u hu=>(UU.s hU (gh u hu)).ok) oM).1;exact⟨e,by rw[e];exact .done hU gh oM oM⟩
theorem jY.lens{l:List aB}{us:List DU}(h:jY U l us):eu l=bK us/\eU l=cG us:=by
 have a:=Al h.v;have b:=Yv h.sw;omega
theorem UZ(hU:U.length<=100){a b:List aB}{us vs:List DU}(ha:jY U a us)(hb:jY U b vs)(hm:bK us=bK vs)(hs:cG us+cG vs<=2147483647):
 jY U (jD a b) (bF (bD a) (bD b)).1/\eu (jD a b)=eU b/\eU (jD a b)<=eU b+gu us:=by
 obtain⟨a1,a2⟩:=ha.lens;obtain⟨b1,b2⟩:=hb.lens;have P:=z79 ha.v hb.v (ha.dn hU) (hb.dn hU) oM oM;have hn:=y9q (bD a) (bD b);have hd:jY U (jD a b) (bF (bD a) (bD b)).1:=⟨P.2.2.2.1,P.2.2.2.2.2.1,ZD _ _ ha.ex hb.ex⟩
 have l1:=hd.lens;have l2:=Al hb.v;have l3:=DE ha.sw;exact⟨hd,P.2.2.2.2.2.2.2.1,oM⟩
theorem U0(hU:U.length<=100){a b:List aB}{us vs:List DU}(ha:jY U a us)(hb:jY U b vs)(hm:eU a=eu b):
 jY U (sQ a b) (dU (bD a) (bD b))/\eu (sQ a b)=eu a/\eU (sQ a b)=eU b:=by
 have P:=YX ha.v hb.v (ha.dn hU) (hb.dn hU) hm;exact⟨⟨P.2.2.2.2.1,P.2.2.2.2.2.1,y9p _ _ ha.ex hb.ex⟩,P.2.2.2.2.2.2.1,P.2.2.2.2.2.2.2⟩
end Go.Ch
end
section
namespace Go.Ch
open Go Go.Ab
def wR:ByteArray:={data:=#[122,122]}
structure UB(U:US):Prop where
 len:U.length<=100
 z:∀v∈U.no,v=wR
 ad:vD∈U
 ct:oI∈U
structure NG(U:US)(n:Node):Prop where
 uA:VU U false n.ah
 fl:∀x∈n.aD,RU U x
 mg:n.az.aH=[]
 ce:∀c∈n.az.cells,c.ah=[]/\c.text.size=0
 dr:∀o∈n.draw,o.nu.size<=100/\o.nm.size<=100/\o.vl.size<=100
 kd:n.af≠6
structure NZ(m:Nat)(n:Node):Prop where
 fl:n.aD.length<=m
 ce:n.az.cells.length<=m
 dr:n.draw.length<=m
 ro:n.az.ak<=m
 co:n.az.aj<=m
variable {U:US}
theorem ZJ{e:Bool}{l:List aI}(h:VG e l):Lr l:=fun a ha=>by
 obtain⟨h1,h2⟩:=h.2 a ha;have n1:oC a.name=true:=h1;unfold oC at n1;rw[qq,decide_eq_true_eq] at n1;refine⟨oM,?_⟩;rcases h2 with h2|h2
 ·have n2:j4 a.val=true:=h2;unfold j4 at n2;rw[qq,decide_eq_true_eq] at n2;omega
 rw[h2.2];decide
theorem NG.b(hU:UB U){n:Node}{m:Nat}(h:NG U n)(hz:NZ m n)(hm:m<=1048576):kf n:=
 ⟨ZJ h.uA.g,by have:=h.uA.len hU.len;omega,fun x hx=>ZJ (h.fl x hx).2.g,qC hz.fl hm,fun x hx=>by have:=(h.fl x hx).2.len hU.len;omega,
  fun c hc=>⟨by rw[(h.ce c hc).2];decide,by rw[(h.ce c hc).1];exact(fun a ha=>by cases ha)⟩,qC hz.ce hm,fun c hc=>by rw[(h.ce c hc).1];decide,by rw[h.mg];decide,qC hz.dr hm,fun o ho=>by have:=h.dr o ho;omega⟩
theorem NG.lY{n:Node}(h:NG U n):n.az.aH=[]/\pJ n.az.cells:=⟨h.mg,fun c hc=>(h.ce c hc).2⟩
theorem ZK{m:Nat}:∀{l:List Node},(∀n∈l,NZ m n)->FY l<=l.length*(3*m)
 | [],_=>by simp[FY]
 |n::l,h=>by
  have:=ZK (l:=l) (fun x hx=>h x (by simp[hx]));have hn:=h n sM;have e:FY (n::l)=Ry n+FY l:=by simp[FY]
  rw[e,qi,zq,Nat.one_mul];have h1:=hn.fl;have h2:=hn.ce;have h3:=hn.dr;unfold Ry;omega
theorem Pr(hU:UB U){d:Doc}{m q:Nat}(hm:m<=3000)(hq:q<=100)(hl:d.aq.length<=q)(h:∀n∈d.aq,NG U n/\NZ m n):fD d:=by
 refine⟨⟨oM,fun n hn=>(h n hn).1.b hU (h n hn).2 oM,?_⟩,fun n hn=>(h n hn).1.lY⟩;have h1:=ZK (fun n hn=>(h n hn).2);have h2:d.aq.length*(3*m)<=100*9000:=Nat.mul_le_mul oM oM;omega
theorem V.Ey{NP VP:ByteArray->Prop}{e:Bool}{p:aI->Bool}:∀{l:List aI},V NP VP e l->V NP VP e (l.filter p)
 | [],h=>h
 |a::l,h=>by
  have ih:=V.Ey (p:=p) (l:=l) ⟨h.1.2,fun b hb=>h.2 b (by simp[hb])⟩;rw[List.filter_cons];split
  ·exact⟨⟨fun b hb=>h.1.1 b ((zX.1 hb).1),ih.1⟩,fun b hb=>by
    rcases qg.1 hb with rfl|hb
    ·exact h.2 b sM
    exact ih.2 b hb⟩
  exact ih
theorem VU.one{l:List aI}(h:VU U false l){a:aI}(ha:a∈l):VU U true [a]:=
 ⟨⟨(fun b hb=>by cases hb),trivial⟩,fun b hb=>by
  rw[qv] at hb;subst hb;exact(VU.sub (e:=true) h).2 b ha⟩
theorem KK:RU U ⟨10,0,[]⟩:=⟨by decide+kernel,VU.nil⟩
theorem x7W{d:Doc}{s:bM}{au:ByteArray}(h:dP d s au=0):ez d=0/\eM d.aq s.nd=true/\eX (mS d.aq s.nd).af=true/\(0<=s.fr/\s.fr<=s.tq/\s.tq< ((Am (mS d.aq s.nd)).length:Int))/\(seq au r8=true\/j4 au=true)/\bL d s au=⟨mS d.aq s.nd,Am (mS d.aq s.nd),au⟩:=by
 have e:bL d s au=⟨mS d.aq s.nd,Am (mS d.aq s.nd),au⟩:=by unfold bL;rw[h,if_neg (fun q=>q rfl)]
 unfold dP at h;split at h
 ·rename_i q;exact absurd h q
 rename_i h1;split at h
 ·cases h
 rename_i h2;split at h
 ·cases h
 rename_i h3;split at h
 ·cases h
 rename_i h4;split at h
 ·cases h
 rename_i h5;refine⟨qc h1,by simpa using h2,by simpa using h3,oM,?_,e⟩;apply qc;intro q;rw[not_or,zK,zK] at q;exact h5 q
theorem x4N{f:List aL}{mode x:Int}{n:Nat}(h:x∈sU f mode n):0<=x/\x<n:=by
 unfold sU Mj at h;obtain⟨i,hi,rfl⟩:=qO.1 h;have:=List.mem_range.1 ((zX.1 hi).1);omega
theorem x9T(hU:UB U){n:Node}{au:ByteArray}(hn:NG U n)(hz:n.aD.length<=1048576):mq ⟨n,Am n,au⟩:=
 ⟨hz,fun x hx=>x4N hx,qC (Zc ..) hz,fun x hx=>by have:=(hn.fl x hx).2.len hU.len;omega⟩
theorem Sk{p:Pl}(hp:mq p)(hn:∀x∈p.ai.aD,RU U x)(k:Int):RU U (bG p k):=by
 unfold bG;split
 ·exact KK
 rename_i q;have h1:k.toNat<p.aN.length:=oM;have h2:=hp.ok _ (fE h1);exact hn _ (fE oM)
theorem ZL{r:aL}{k:Int}:∀{l o:List aI},VU U false o->(∀a∈l,VU U true [a])->VU U false (yu r k o l)
 | [],o,ho,_=>ho
 |a::l,o,ho,hl=>by
  show VU U false (yu r k (if Es r k a=true then fm eY o [a] else o) l);refine ZL ?_ (fun b hb=>hl b (by simp[hb]));split
  ·exact CC Gc ho (hl a sM)
  exact ho
theorem HU{p:Pl}(hp:mq p)(hn:∀x∈p.ai.aD,RU U x)(k:Int):VU U false (lH p k):=by
 unfold lH;have h1:=Sk hp hn (k- 1);refine ZL ?_ (fun a ha=>h1.2.one ha);unfold CY;split
 ·refine V.Ey ?_;unfold Mk;split
  ·exact(Sk hp hn k).2
  exact h1.2
 exact VU.nil
theorem x7X{p:Pl}(hp:mq p)(hn:∀x∈p.ai.aD,RU U x)(k:Nat):VU U false (BE p k):=V.Ey (Sk hp hn _).2
theorem Sl{c:Int}{l:List aI}(hc:rB c)(h0:c≠0)(hl:VU U false l):RU U ⟨c,0,l⟩:=by
 refine⟨?_,hl⟩;rw[D4 (x:=⟨c,0,l⟩) (fun q=>h0 (q.2 rfl)) (.inr hc) (.inl rfl)];exact oW.2 hl.g
theorem Pc{p:Pl}(hp:mq p)(hn:∀x∈p.ai.aD,RU U x){s:bM}{cs:List Int}(hc:∀c∈cs,rB c/\c≠0):∀x∈v7 p s cs,RU U x:=by
 intro x hx;unfold v7 at hx;obtain⟨y,hy,rfl⟩:=qO.1 hx;obtain⟨c,pQ,rfl⟩:=qO.1 hy;obtain⟨q1,q2⟩:=hc c pQ;unfold Et uQ;split
 ·exact Sl q1 q2 (x7X hp hn _)
 exact Sl q1 q2 (HU hp hn _)
def HP(U:US)(au:ByteArray):Prop:=(seq au r8=true\/j4 au=true)/\au∉U.no
theorem UB.no(hU:UB U){v:ByteArray}(h:v≠wR):v∉U.no:=fun q=>h (hU.z v q)
theorem UW(hU:UB U){au:ByteArray}(ha:HP U au):VU U true [⟨vD,au⟩,⟨oI,r8⟩]:=by
 refine⟨⟨fun b hb=> ?_,⟨(fun b hb=>by cases hb),trivial⟩⟩,fun b hb=> ?_⟩
 ·rw[qv] at hb;subst hb;exact(by decide+kernel:slt vD oI=true)
 simp only[qg,qX,or_false] at hb;rcases hb with rfl|rfl
 ·refine⟨⟨(by decide+kernel:oC vD=true),hU.ad⟩,?_⟩;rcases ha.1 with h|h
  ·exact .inr ⟨rfl,kj.1 h⟩
  exact .inl ⟨h,ha.2⟩
 exact⟨⟨(by decide+kernel:oC oI=true),hU.ct⟩,.inr ⟨rfl,rfl⟩⟩
theorem UY(hU:UB U){au:ByteArray}(ha:HP U au)(h0:seq au r8=false):VU U true [⟨oI,au⟩]:=by
 have hv:j4 au=true:=ha.1.resolve_left (by rw[h0];decide);refine⟨⟨(fun b hb=>by cases hb),trivial⟩,fun b hb=> ?_⟩;rw[qv] at hb;subst hb;exact⟨⟨(by decide+kernel:oC oI=true),hU.ct⟩,.inl ⟨hv,ha.2⟩⟩
theorem Mu(hU:UB U){p:Pl}{s:bM}{es:List aL}(hp:mq p)(hf:p.ai.aD.length<=1048576)(hn:∀x∈p.ai.aD,RU U x)(ha:HP U p.aR)
 (hs:0<=s.fr/\s.fr<=s.tq/\s.tq< (p.aN.length:Int)) (hl:es.length<=1048576) (he:∀x∈es,RU U x):
 yw p s es/\(∃us,jY U (rZ p s es) us)/\eu (rZ p s es)=(p.ai.aD.length:Int)/\eU (rZ p s es)<=p.ai.aD.length+es.length:=by
 have hg:=KH hp hs;obtain⟨_,T⟩:=UT hU.len (n:=p.ai.aD.length) (k:=ou p.aN s.fr) (es:=es) (au:=p.aR) hg oM oM (UW hU ha) he;obtain⟨_,E⟩:=UX hU.len (f:=p.ai.aD) (pl:=(p.aN.take s.tq.toNat).drop s.fr.toNat) (au:=p.aR) oM (UY hU ha);have tf:=O5 (n:=p.ai.aD.length) (k:=(ou p.aN s.fr).toNat) (es:=es) (au:=p.aR) oM;have ef:=O6 p.ai.aD ((p.aN.take s.tq.toNat).drop s.fr.toNat) p.aR p.ai.aD.length;have tl:=T.lens;have el:=E.lens;obtain⟨P,p1,p2⟩:=UZ hU.len T E oM oM;obtain⟨J,j1,j2⟩:=U0 hU.len E P p1.symm;refine⟨⟨hs,hl,fun x hx=>by have:=(he x hx).2.len hU.len;omega,E.v,T.v,P.v,E.dn hU.len,T.dn hU.len,P.dn hU.len,?_,p1.symm,?_⟩,⟨_,J⟩,?_,?_⟩
 ·show eu (tD _ _ _ _)=eu (pZ _ _ _);omega
 ·show eU (tD _ _ _ _)+eU (pZ _ _ _)<=2147483647;omega
 ·refine(show eu (rZ p s es)=eu (pZ p.ai.aD ((p.aN.take s.tq.toNat).drop s.fr.toNat) p.aR) from j1).trans ?_;omega
 refine Int.le_trans (Int.le_of_eq (show eU (rZ p s es)=eU (jD (tD p.ai.aD.length (ou p.aN s.fr) es p.aR) (pZ p.ai.aD ((p.aN.take s.tq.toNat).drop s.fr.toNat) p.aR)) from j2)) ?_;omega
end Go.Ch
end
section
namespace Go.Ch
open Go Go.Ab
structure VD(l:List Node):Prop where
 ne:0<l.length
 one:(l.getD 0 default).id=1
 pz:gH l
 ai:∀n∈l,fT n=0
 refs:∀n∈l,∀r∈lG n,∃m∈l,m.id=r/\gz n.af m.af=true
theorem ZM{l:List Node}(hs:gH l){i j:Nat}(hi:i<l.length)(hj:j<l.length)(h:(l.getD i default).id=(l.getD j default).id):i=j:=by
 rcases Nat.lt_trichotomy i j with q|q|q
 ·have:=hs i j q hj;omega
 ·exact q
 have:=hs j i q hi;omega
theorem ZN{l:List Node}(hs:gH l){k:Int}{rs:List Int}:∀(n i:Nat),rs.length-i=n->(gI l k rs i=0↔∀j,i<=j->j<rs.length->∃m∈l,m.id=rs.getD j default/\gz k m.af=true)
 |0,i,h=>by rw[gI,if_neg oM];exact⟨fun _ j h1 h2=>oM,fun _=>rfl⟩
 |n+1,i,h=>by
  have hi:i<rs.length:=oM;have hm:rs.length- (i+1)=n:=oM;have key:(0<=kN l (rs.getD i default) 0/\gz k (l.getD (kN l (rs.getD i default) 0).toNat default).af=true)↔∃m∈l,m.id=rs.getD i default/\gz k m.af=true:=by
   rcases LZ l (rs.getD i default) _ 0 rfl with⟨a,b⟩| ⟨j,a,b,c,d⟩
   ·rw[a];refine⟨fun q=>absurd q.1 dM,?_⟩;rintro⟨m,hm,h1,h2⟩;obtain⟨x,hx,rfl⟩:=oF hm;exact absurd h1 (b x (qG _) hx)
   rw[a];refine⟨fun q=>⟨l.getD j default,fE c,d,by simpa using q.2⟩,?_⟩;rintro⟨m,hm,h1,h2⟩;obtain⟨x,hx,rfl⟩:=oF hm;have:=ZM hs hx c (h1.trans d.symm);subst this;exact⟨oM,by simpa using h2⟩
  rw[gI,if_pos hi];by_cases h1:kN l (rs.getD i default) 0<0
  ·rw[if_pos h1];exact⟨fun q=>(by cases q),fun q=>absurd ((key.2 (q i (qp _) hi)).1) oM⟩
  rw[if_neg h1];by_cases h2:gz k (l.getD (kN l (rs.getD i default) 0).toNat default).af=false
  ·rw[if_pos h2];refine⟨fun q=>(by cases q),fun q=> ?_⟩;have:=(key.2 (q i (qp _) hi)).2;rw[h2] at this;cases this
  rw[if_neg h2,ZN hs n (i+1) hm];refine⟨fun q j j1 j2=> ?_,fun q j j1 j2=>q j oM j2⟩;by_cases e:j=i
  ·subst e;exact key.1 ⟨oM,by simpa using h2⟩
  exact q j oM j2
theorem Gf{l:List Node}(hs:gH l){k:Int}{rs:List Int}:gI l k rs 0=0↔∀r∈rs,∃m∈l,m.id=r/\gz k m.af=true:=by
 rw[ZN hs _ 0 rfl];refine⟨fun h r hr=> ?_,fun h j _ hj=>h _ (fE hj)⟩;obtain⟨j,hj,rfl⟩:=oF hr;exact h j (qG _) hj
theorem Sm{l:List Node}:∀(n i:Nat),l.length-i=n->(sL l i=0↔∀j,i<=j->j<l.length->gI l (l.getD j default).af (lG (l.getD j default)) 0=0)
 |0,i,h=>by rw[sL,if_neg oM];exact⟨fun _ j h1 h2=>oM,fun _=>rfl⟩
 |n+1,i,h=>by
  have hi:i<l.length:=oM;rw[sL,if_pos hi];by_cases h1:gI l (l.getD i default).af (lG (l.getD i default)) 0≠0
  ·rw[if_pos h1];exact⟨fun q=>absurd q h1,fun q=>absurd (q i (qp _) hi) h1⟩
  rw[if_neg h1,Sm n (i+1) oM];refine⟨fun q j j1 j2=> ?_,fun q j j1 j2=>q j oM j2⟩;by_cases e:j=i
  ·subst e;exact qc h1
  exact q j oM j2
theorem ZO{l:List Node}:∀(n i:Nat),l.length-i=n->(∀j,i<=j->j<l.length->fT (l.getD j default)=0/\¬((j=0/\(l.getD 0 default).id≠1)\/(0<j/\(l.getD j default).id<=(l.getD (j- 1) default).id)))->nv l i=0
 |0,i,h,_=>by rw[nv,if_neg oM]
 |n+1,i,h,q=>by
  obtain⟨a,b⟩:=q i (qp _) oM;rw[nv,if_pos oM,if_neg (fun z=>z a),if_neg b];exact ZO n (i+1) oM (fun j j1 j2=>q j oM j2)
theorem KS{d:Doc}:ez d=0↔VD d.aq:=by
 constructor
 ·intro h;have hn:=RH h;have hs:=RA hn;have h0:0<d.aq.length:=by
   apply qc;intro q;rw[Yg oM] at h;cases h
  refine⟨h0,((IY _ 0 rfl hn).2 0 (qp _) h0).1 rfl,hs,YB h,fun n tg r hr=> ?_⟩;have ha:sL d.aq 0=0:=by
   unfold ez at h;rw[if_neg oM,if_neg (fun q=>q hn)] at h;exact h
  obtain⟨j,hj,rfl⟩:=oF tg;exact(Gf hs).1 ((Sm _ 0 rfl).1 ha j (qG _) hj) r hr
 intro h;have hn:nv d.aq 0=0:=ZO _ 0 rfl (fun j _ hj=>⟨h.ai _ (fE hj),by
  rintro(⟨rfl,q⟩| ⟨q1,q2⟩)
  ·exact q h.one
  have:=h.pz (j- 1) j oM hj;omega⟩)
 have ha:sL d.aq 0=0:=(Sm _ 0 rfl).2 (fun j _ hj=>(Gf h.pz).2 (h.refs _ (fE hj)));unfold ez;rw[if_neg (by have:=h.ne;omega),if_neg (fun q=>q hn),ha]
theorem Sn{α:Type}[Inhabited α]{l:List α}{i j:Nat}{x:α}(hi:i<l.length):(l.set i x).getD j default=if i=j then x else l.getD j default:=by
 rw[qd,zz];split
 ·rename_i h;subst h;simp[hi]
 rw[qd]
theorem ZP{α:Type}[Inhabited α]{l:List α}{i:Nat}{x y:α}(hi:i<l.length)(h:y∈l):y∈l.set i x\/y=l.getD i default:=by
 obtain⟨j,hj,rfl⟩:=oF h;by_cases e:i=j
 ·subst e;exact .inr rfl
 have:(l.set i x).getD j default=l.getD j default:=by rw[Sn hi,if_neg e]
 rw[<-this];exact .inl (fE (by simpa using hj))
theorem VD.set{l:List Node}(h:VD l){i:Nat}(hi:i<l.length){n:Node}(bn:n.id=(l.getD i default).id)(hk:n.af=(l.getD i default).af)(hn:fT n=0)(hr:∀r∈lG n,∃m∈l,m.id=r/\gz n.af m.af=true):VD (l.set i n):=by
 have k7:∀j,((l.set i n).getD j default).id=(l.getD j default).id:=fun j=>by
  rw[Sn hi];split
  ·rename_i e;subst e;exact bn
  rfl
 have key:∀(k r:Int),(∃m∈l,m.id=r/\gz k m.af=true)->∃m∈l.set i n,m.id=r/\gz k m.af=true:=by
  rintro k r ⟨m,hm,h1,h2⟩;rcases ZP (x:=n) hi hm with q|rfl
  ·exact⟨m,q,h1,h2⟩
  exact⟨n,q9.2 ⟨i,by simpa using hi,sM⟩,bn.trans h1,by rw[hk];exact h2⟩
 refine⟨by simpa using h.ne,(k7 0).trans h.one,fun p q uE hq=>by rw[k7,k7];exact h.pz p q uE (by simpa using hq),fun m hm=> ?_,fun m hm r jG=> ?_⟩
 ·rcases zl hm with q|rfl
  ·exact h.ai m q
  exact hn
 rcases zl hm with q|rfl
 ·exact key _ _ (h.refs m q r jG)
 exact key _ _ (hr r jG)
theorem VD.add{l:List Node}(h:VD l){n:Node}(hl:∀m∈l,m.id<n.id)(hn:fT n=0)(hr:∀r∈lG n,∃m∈l,m.id=r/\gz n.af m.af=true):VD (l++[n]):=by
 have h0:=h.ne;have hg:∀j,j<l.length->(l++[n]).getD j default=l.getD j default:=fun j hj=>by
  rw[qd,qx hj,qd]
 have hz:(l++[n]).getD l.length default=n:=by rw[qd];simp
 refine⟨sM,(congrArg Node.id (hg 0 h0)).trans h.one,fun p q uE hq=> ?_,fun m hm=> ?_,fun m hm r jG=> ?_⟩
 ·rw[qf,List.length_singleton] at hq;by_cases e:q=l.length
  ·subst e;rw[hz,hg p uE];exact hl _ (fE uE)
  rw[hg p oM,hg q oM];exact h.pz p q uE oM
 ·rcases qn.1 hm with q|q
  ·exact h.ai m q
  rw[qv] at q;subst q;exact hn
 have:∃m'∈l,m'.id=r/\gz m.af m'.af=true:=by
  rcases qn.1 hm with q|q
  ·exact h.refs m q r jG
  ·rw[qv] at q;subst q;exact hr r jG
 obtain⟨x,hx,a,b⟩:=this;exact⟨x,List.mem_append_left _ hx,a,b⟩
theorem VD.has{l:List Node}(h:VD l){k:Int}:eM l k=true↔∃n∈l,n.id=k:=by
 rw[rX];constructor
 ·rintro⟨a,b⟩;exact⟨_,fE a,b⟩
 rintro⟨n,hn,rfl⟩;obtain⟨j,hj,rfl⟩:=oF hn;obtain⟨s1,s2,s3⟩:=xN l (l.getD j default).id;have h1:bt l (l.getD j default).id<=j:=Rz oM;by_cases e:bt l (l.getD j default).id=j
 ·rw[e];exact⟨hj,rfl⟩
 have:=h.pz _ j (show bt l (l.getD j default).id<j by omega) hj;exact absurd this (s3 oM)
theorem Gg{n:Node}(h:fT n=0):(1<=n.id/\n.id<=1073741824)/\(0<=n.af/\n.af<=12/\(n.id=1↔n.af=0))/\VG false n.ah/\
 ((0<n.aD.length->eX n.af=true\/nh n.af=true)/\(ye n.az=false->jX n.af=true)/\(0<n.draw.length->rY n.af=true))/\
 ((eX n.af=true\/nh n.af=true)->vB (eX n.af) n.aD=0)/\(jX n.af=true->jI n.az=0/\z28 n.af n.az.cells 0=0)/\(rY n.af=true->lX n.draw 0=0):=by
 unfold fT at h;split at h
 ·cases h
 rename_i h1;split at h
 ·cases h
 rename_i h2;split at h
 ·rename_i q;exact absurd h q
 rename_i h3;split at h
 ·cases h
 rename_i h4;have h3:=oW.1 (qc h3);refine⟨oM,oM,h3,⟨fun q=> ?_,fun q=> ?_,fun q=> ?_⟩,?_⟩
 ·apply qc;intro z;rw[not_or,zK,zK] at z;exact h4 (.inl ⟨q,z.1,z.2⟩)
 ·apply qc;intro z;exact h4 (.inr (.inl ⟨q,by simpa using z⟩))
 ·apply qc;intro z;exact h4 (.inr (.inr ⟨q,by simpa using z⟩))
 have Ad:∀k:Int,(eX k=true\/nh k=true->jX k=false/\rY k=false)/\(jX k=true->rY k=false):=fun k=>by
  unfold eX nh jX rY;simp only[qM,beq_iff_eq,zV,beq_eq_false_iff_ne];omega
 obtain⟨k1,k2⟩:=Ad n.af;split at h
 ·rename_i q;obtain⟨z1,z2⟩:=k1 q;exact⟨fun _=>h,(fun z=>by rw[z1] at z;cases z),(fun z=>by rw[z2] at z;cases z)⟩
 rename_i q;split at h
 ·rename_i g;have z2:=k2 g;refine⟨fun z=>absurd z q,fun _=> ?_,(fun z=>by rw[z2] at z;cases z)⟩;split at h
  ·rename_i z;exact absurd h z
  rename_i z;exact⟨qc z,h⟩
 rename_i g;exact⟨fun z=>absurd z q,fun z=>absurd z g,fun _=>h⟩
theorem Mv{n:Node}(h1:1<=n.id/\n.id<=1073741824)(h2:0<=n.af/\n.af<=12/\(n.id=1↔n.af=0))(h3:VG false n.ah)
 (h4:(0<n.aD.length->eX n.af=true\/nh n.af=true)/\(ye n.az=false->jX n.af=true)/\(0<n.draw.length->rY n.af=true))
 (h5:(eX n.af=true\/nh n.af=true)->vB (eX n.af) n.aD=0) (h6:jX n.af=true->jI n.az=0/\z28 n.af n.az.cells 0=0) (h7:lX n.draw 0=0\/eX n.af=true\/nh n.af=true\/jX n.af=true):fT n=0:=by
 unfold fT;rw[if_neg oM,if_neg oM,if_neg (fun q=>q (oW.2 h3)),if_neg]
 ·split
  ·rename_i q;exact h5 q
  rename_i q;split
  ·rename_i g;obtain⟨z1,z2⟩:=h6 g;rw[if_neg (fun z=>z z1),z2]
  rename_i g;rcases h7 with h7|h7|h7|h7
  ·exact h7
  ·exact absurd (.inl h7) q
  ·exact absurd (.inr h7) q
  exact absurd h7 g
 rintro(⟨a,b,c⟩| ⟨a,b⟩| ⟨a,b⟩)
 ·rcases h4.1 a with q|q
  ·rw[b] at q;cases q
  rw[c] at q;cases q
 ·have:=h4.2.1 a;rw[b] at this;cases this
 have:=h4.2.2 a;rw[b] at this;cases this
def Asc:List Cell->Prop
 | []=>True
 |c::l=>(∀x∈l,eF c x<0)/\Asc l
theorem Gh{a b c:Cell}(h1:eF a b<0)(h2:eF b c<0):eF a c<0:=by
 rw[z75] at*;omega
theorem ZQ{a b c:Cell}(h1:eF a b<=0)(h2:eF b c<0):eF a c<0:=by
 have:¬0<eF a b:=oM;rw[z75] at*
 rw[LO] at h1
 repeat' split at h1
 all_goals omega
theorem ZR{a b:Cell}:0<eF a b↔eF b a<0:=by
 rw[z75,LO];repeat' split
 all_goals omega
theorem ZS(x:Cell):eF x x=0:=by rw[wu];exact⟨rfl,rfl⟩
def BH(l:List Cell):Prop:=∀p q,p<q->q<l.length->eF (l.getD p default) (l.getD q default)< 0
theorem Mw:∀{l:List Cell},Asc l->BH l
 | [],_,p,q,h1,h2=>by simp at h2
 |c::l,⟨h,k⟩,p,q,h1,h2=>by
  cases q with
  |zero=>omega
  |succ q=>
   cases p with
   |zero=>exact h _ (fE (by simpa using h2))
   |succ p=>exact Mw k p q oM (by simpa using h2)
theorem ZT{l:List Cell}{m n:Int}{o:Bool}:∀(k i:Nat),l.length-i=k->
 (iO l m n o i=0↔∀j,i<=j->j<l.length->pI (l.getD j default) m n o=0/\(0<j->eF (l.getD (j- 1) default) (l.getD j default)< 0))
 |0,i,h=>by
  rw[iO,if_neg oM];exact⟨fun _ j h1 h2=>oM,fun _=>rfl⟩
 |k+1,i,h=>by
  have ih:=ZT (l:=l) (m:=m) (n:=n) (o:=o) k (i+1) oM;rw[iO,if_pos oM];by_cases c1:pI (l.getD i default) m n o=0
  ·rw[if_neg (fun q=>q c1)];by_cases c2:0<i/\0<=eF (l.getD (i- 1) default) (l.getD i default)
   ·rw[if_pos c2];refine⟨fun q=>(by cases q),fun q=> ?_⟩;have:=(q i (qp _) oM).2 c2.1;omega
   rw[if_neg c2,ih];refine⟨fun q j h1 h2=> ?_,fun q j h1 h2=>q j oM h2⟩;by_cases e:i=j
   ·subst e;exact⟨c1,fun h0=>oM⟩
   exact q j oM h2
  rw[if_pos c1];exact⟨fun q=>absurd q c1,fun q=>(q i (qp _) oM).1⟩
theorem ZU:∀{l:List Cell},(∀j,0<j->j<l.length->eF (l.getD (j- 1) default) (l.getD j default)< 0)->Asc l
 | [],_=>trivial
 | [c],_=>⟨fun x hx=>(by cases hx),trivial⟩
 |c::d::l,h=>by
  have h1:eF c d<0:=h 1 dM sM;have ih:=ZU (l:=d::l) (fun j h0 hj=>by
   have:=h (j+1) oM (by simp only[qi] at hj|-;omega);obtain⟨j,rfl⟩:∃q,j=q+1:=⟨j- 1,oM⟩
   exact this)
  refine⟨fun x hx=> ?_,ih⟩;rcases qg.1 hx with rfl|hx
  ·exact h1
  exact Gh h1 (ih.1 x hx)
theorem C3{l:List Cell}{m n:Int}{o:Bool}:iO l m n o 0=0↔(∀c∈l,pI c m n o=0)/\Asc l:=by
 rw[ZT _ 0 rfl];constructor
 ·intro h;refine⟨fun c hc=> ?_,ZU (fun j h0 hj=>(h j (qG _) hj).2 h0)⟩;obtain⟨j,hj,rfl⟩:=oF hc;exact(h j (qG _) hj).1
 rintro⟨h1,h2⟩ j _ hj;exact⟨h1 _ (fE hj),fun h0=>Mw h2 (j- 1) j oM hj⟩
theorem sY{c:Cell}{m n:Int}{o:Bool}:pI c m n o=0↔(0<=c.aF/\c.aF<m/\0<=c.aV/\c.aV<n)/\(0<=c.bh/\c.bh<=1073741824)/\Bx c.text=true/\dO false c.ah 0=0/\(o=false->kr c=false):=by
 unfold pI;by_cases c1:c.aF<0\/m<=c.aF\/c.aV<0\/n<=c.aV
 ·rw[if_pos c1];exact⟨fun q=>(by cases q),fun q=>oM⟩
 rw[if_neg c1];by_cases c2:c.bh<0\/1073741824<c.bh
 ·rw[if_pos c2];exact⟨fun q=>(by cases q),fun q=>oM⟩
 rw[if_neg c2];by_cases c3:Bx c.text=false
 ·rw[if_pos c3];exact⟨fun q=>(by cases q),fun q=>by rw[q.2.2.1] at c3;cases c3⟩
 rw[if_neg c3];by_cases c4:dO false c.ah 0=0
 ·rw[if_neg (fun q=>q c4)];by_cases c5:kr c=true/\o=false
  ·rw[if_pos c5];exact⟨fun q=>(by cases q),fun q=>by have:=q.2.2.2.2 c5.2;rw[c5.1] at this;cases this⟩
  rw[if_neg c5];refine⟨fun _=>⟨oM,oM,by simpa using c3,c4,fun ho=> ?_⟩,fun _=>rfl⟩;cases he:kr c with
  |false=>rfl
  |true=>exact absurd ⟨he,ho⟩ c5
 rw[if_pos c4];exact⟨fun q=>absurd q c4,fun q=>q.2.2.2.1⟩
theorem BI:∀(ns l:List Cell) (y:Cell),y∈iy ns l->(y∈ns/\kr y=false)\/y∈l
 | [],l,y,h=> .inr h
 |c::ns,[],y,h=>by
  rw[iy,pH] at h;rcases qn.1 h with h|h
  ·cases he:kr c with
   |true=>rw[he,if_pos rfl] at h;cases h
   |false=>rw[he,if_neg dM] at h;rw[qv.1 h];exact .inl ⟨sM,he⟩
  rcases BI ns [] y h with⟨h1,h2⟩|h
  ·exact .inl ⟨by simp[h1],h2⟩
  exact .inr h
 |c::ns,x::l,y,h=>by
  have ih:=BI (c::ns) l y;rw[iy] at ih;rw[iy,pH] at h;split at h
  ·rcases qg.1 h with rfl|h
   ·exact .inr sM
   rcases ih h with h|h
   ·exact .inl h
   exact .inr (by simp[h])
  have C4:∀(r:List Cell),(∀z∈r,z∈x::l)->y∈(if kr c=true then[] else[c])++iy ns r->(∀z,z∈iy ns r->(z∈ns/\kr z=false)\/z∈r)->(y∈c::ns/\kr y=false)\/y∈x::l:=fun r hr h hi=>by
   rcases qn.1 h with h|h
   ·cases he:kr c with
    |true=>rw[he,if_pos rfl] at h;cases h
    |false=>rw[he,if_neg dM] at h;rw[qv.1 h];exact .inl ⟨sM,he⟩
   ·rcases hi y h with⟨h1,h2⟩|h
    ·exact .inl ⟨by simp[h1],h2⟩
    exact .inr (hr y h)
  split at h
  ·exact C4 l (fun z hz=>by simp[hz]) h (fun z=>BI ns l z)
  exact C4 (x::l) (fun z hz=>hz) h (fun z=>BI ns (x::l) z)
termination_by ns l=>ns.length+l.length
theorem Sp{c:Cell}{ns r:List Cell}(hns:∀y∈ns,eF c y<0)(hr:∀y∈r,eF c y<0)(h:Asc (iy ns r)):Asc ((if kr c=true then[] else[c])++iy ns r):=by
 cases he:kr c with
 |true=>rw[if_pos rfl];exact h
 |false=>
  rw[if_neg dM];refine⟨fun y hy=> ?_,h⟩;rcases BI ns r y hy with⟨h1,_⟩|h1
  ·exact hns y h1
  exact hr y h1
theorem BJ:∀(ns l:List Cell),Asc ns->Asc l->Asc (iy ns l)
 | [],l,_,h=>h
 |c::ns,[],h1,h2=>by
  rw[iy,pH];exact Sp h1.1 (fun y hy=>by cases hy) (BJ ns [] h1.2 trivial)
 |c::ns,x::l,h1,h2=>by
  rw[iy,pH];by_cases o1:eF x c<0
  ·rw[if_pos o1];have ih:=BJ (c::ns) l h1 h2.2;rw[iy] at ih;refine⟨fun y hy=> ?_,ih⟩;rcases BI (c::ns) l y hy with⟨h,_⟩|h
   ·rcases qg.1 h with rfl|h
    ·exact o1
    exact Gh o1 (h1.1 y h)
   exact h2.1 y h
  rw[if_neg o1];by_cases o2:eF x c=0
  ·rw[if_pos o2];have e:=wu.1 o2;exact Sp h1.1 (fun y hy=>ZQ (by rw[wu.2 ⟨e.1.symm,e.2.symm⟩];decide) (h2.1 y hy)) (BJ ns l h1.2 h2.2)
  rw[if_neg o2];have xC:eF c x<0:=ZR.1 oM;exact Sp h1.1 (fun y hy=>by
   rcases qg.1 hy with rfl|hy
   ·exact xC
   exact Gh xC (h2.1 y hy)) (BJ ns (x::l) h1.2 h2)
termination_by ns l=>ns.length+l.length
theorem y9r{l:List aA}(hl:jk l){p q:Int}(h0:0<=p)(h:p<q)(hp:0<=dK l p 0 0)(hq:0<=dK l q 0 0):dK l p 0 0<dK l q 0 0:=by
 have h1:=LK hl p q 0 0 h0 h hp;have h2:=XV hl q 0 0 0 (zm _);have h3:=LJ hl q 0 0 oM hq;omega
theorem Mx{a:List aA}{p q:Int}(hp:gv a p)(hq:gv a q)(h:p<q)(h1:¬(0<a.length/\fB a p<0))(h2:¬(0<a.length/\fB a q<0)):fB a p<fB a q:=by
 unfold fB at*
 by_cases c:0<a.length
 ·simp only[if_pos c] at*
  obtain⟨v,p0,_⟩:=hp c;exact y9r v.1 p0 h oM oM
 simp only[if_neg c] at*;exact h
theorem yB{ak aj:List aA}{c d:Cell}(h:j6 ak aj c=some d):¬(0<ak.length/\fB ak c.aF<0)/\¬(0<aj.length/\fB aj c.aV<0)/\d={c with aF:=fB ak c.aF,aV:=fB aj c.aV}:=by
 unfold j6 at h;split at h
 ·cases h
 rename_i h1;split at h
 ·cases h
 rename_i h2;exact⟨h1,h2,by cases h;rfl⟩
theorem Au{ak aj:List aA}:∀{l:List Cell},Asc l->(∀c∈l,gv ak c.aF)->(∀c∈l,gv aj c.aV)->Asc (dY l ak aj)
 | [],_,_,_=>trivial
 |c::l,h,hr,hc=>by
  have ih:=Au (l:=l) h.2 (fun x hx=>hr x (by simp[hx])) (fun x hx=>hc x (by simp[hx]));unfold dY at*
  rw[List.filterMap_cons];cases hm:j6 ak aj c with
  |none=>exact ih
  |some d=>
   refine⟨fun y hy=> ?_,ih⟩;obtain⟨x,hx,oO⟩:=zE.1 hy;obtain⟨a1,a2,rfl⟩:=yB hm;obtain⟨b1,b2,rfl⟩:=yB oO;have ho:=h.1 x hx;rw[z75] at ho|-;rcases ho with ho| ⟨e,ho⟩
   ·exact .inl (Mx (hr c sM) (hr x (by simp[hx])) ho a1 b1)
   refine .inr ⟨by show fB ak c.aF=fB ak x.aF;rw[e],Mx (hc c sM) (hc x (by simp[hx])) ho a2 b2⟩
theorem Jp:∀{l:List aA} (hl:jk l) (p fr tq:Int),fr<=p->0<=dK l p fr tq->dK l p fr tq<tq+eV (ex l)
 | [],_,p,fr,tq,h,h0=>by simp[dK] at h0
 |s::l,hl,p,fr,tq,h,h0=>by
  have hn:=hl.head.2.2;have hk:=Ad hl.head;have e:(eV (ex (s::l)):Int)=(if s.af=2 then 0 else s.n)+eV (ex l):=by
   rw[ex,LA,zL oM]
  rw[e];rw[dK] at h0|-;by_cases k1:s.af=1
  ·rw[if_pos k1] at h0|-;rw[if_neg (show¬s.af=2 by omega)];have:=Jp hl.tail p fr (tq+s.n) h h0;omega
  rw[if_neg k1] at h0|-;by_cases k0:s.af=0
  ·rw[if_pos k0] at h0|-;rw[if_neg (show¬s.af=2 by omega)];by_cases c:p<fr+s.n
   ·rw[if_pos c] at h0|-;have:(0:Int)<=eV (ex l):=oM;omega
   rw[if_neg c] at h0|-;have:=Jp hl.tail p (fr+s.n) (tq+s.n) oM h0;omega
  rw[if_neg k0] at h0|-;by_cases c:p<fr+s.n
  ·rw[if_pos c] at h0;omega
  rw[if_neg c] at h0|-;rw[if_pos (show s.af=2 by omega)];have:=Jp hl.tail p (fr+s.n) tq oM h0;omega
theorem My{a:List aA}{p m:Int}(hp:gv a p)(h0:0<=p/\p<m)(hn:¬(0<a.length/\fB a p<0)):0<=fB a p/\fB a p<cU m a:=by
 unfold fB at hn|-;unfold cU eS;by_cases c:0<a.length
 ·rw[if_pos c] at hn|-;rw[if_pos c];obtain⟨v,p0,_⟩:=hp c;have h1:0<=dK a p 0 0:=by
   refine qc fun q=>hn ⟨c,oM⟩
  have:=Jp v.1 p 0 0 p0 h1;omega
 rw[if_neg c,if_neg c];exact h0
theorem ZV{ak aj:List aA}{c d:Cell}{m n:Int}(hr:gv ak c.aF)(hc:gv aj c.aV)(h:pI c m n false=0)(hd:j6 ak aj c=some d):pI d (cU m ak) (cU n aj) false=0:=by
 obtain⟨a1,a2,rfl⟩:=yB hd;obtain⟨h1,h2,h3,h4,h5⟩:=sY.1 h;have b1:=My (m:=m) hr ⟨h1.1,h1.2.1⟩ a1;have b2:=My (m:=n) hc ⟨h1.2.2.1,h1.2.2.2⟩ a2;exact sY.2 ⟨⟨b1.1,b1.2,b2.1,b2.2⟩,h2,h3,h4,h5⟩
theorem Mz{g:aX}(hm:g.aH=[]):jI g=0↔(0<=g.ak/\g.ak<=2147483647/\0<=g.aj/\g.aj<=2147483647)/\iO g.cells g.ak g.aj false 0=0:=by
 have h0:IU g.aH g.ak g.aj 0=0:=by rw[hm,IU,if_neg dM]
 unfold jI;by_cases c1:g.ak<0\/2147483647<g.ak\/g.aj<0\/2147483647<g.aj
 ·rw[if_pos c1];exact⟨fun q=>(by cases q),fun q=>oM⟩
 rw[if_neg c1];by_cases c2:iO g.cells g.ak g.aj false 0=0
 ·rw[if_neg (fun q=>q c2),h0];exact⟨fun _=>⟨oM,c2⟩,fun _=>rfl⟩
 rw[if_pos c2];exact⟨fun q=>absurd q c2,fun q=>q.2⟩
theorem MA{x:aX}{e:bP}(h:gX x e=0):jI x=0/\Eb e/\yd x e:=by
 unfold gX at h;split at h
 ·rename_i q;exact absurd h q
 rename_i q;split at h
 ·rename_i q;exact absurd h q
 rename_i q2;exact⟨qc q,LQ (qc q2),X3 h⟩
theorem ZW{x:aX}{e:bP}{c:Cell}(h:c∈(kg x e).cells):(c∈e.cells/\kr c=false)\/∃c0∈x.cells,j6 e.ak e.aj c0=some c:=by
 rcases BI _ _ c h with h|h
 ·exact .inl h
 obtain⟨c0,yC,hm⟩:=zE.1 h;exact .inr ⟨c0,yC,hm⟩
theorem Sq{x:aX}{e:bP}(hm:x.aH=[])(h:gX x e=0)(hr:oU x e):jI (kg x e)=0:=by
 obtain⟨hg,he,hf⟩:=MA h;obtain⟨g1,g2⟩:=(Mz hm).1 hg;have b1:=Ag (n:=x.ak) he.w6 oM;have b2:=Ag (n:=x.aj) he.w8 oM;obtain⟨a1,a2⟩:=C3.1 g2;obtain⟨c1,c2⟩:=C3.1 he.cells;refine(Mz rfl).2 ⟨⟨b1.1,b1.2,b2.1,b2.2⟩,C3.2 ⟨fun c hc=> ?_,BJ _ _ c2 (Au a2 hr.p1 hr.p2)⟩⟩;rcases ZW hc with⟨h,he'⟩| ⟨c0,yC,Sr⟩
 ·obtain⟨q1,q2,q3,q4,_⟩:=sY.1 (c1 c h);have:=hf.cells c h;exact sY.2 ⟨⟨q1.1,this.1,q1.2.2.1,this.2⟩,q2,q3,q4,fun _=>he'⟩
 exact ZV (hr.p1 c0 yC) (hr.p2 c0 yC) (a1 c0 yC) Sr
theorem MB{k:Int}{l:List Cell}(hk:k≠6)(h:∀c∈l,c.ah=[]/\c.text.size=0):∀(n i:Nat),l.length-i=n->z28 k l i=0
 |0,i,hn=>by rw[z28,if_neg oM]
 |n+1,i,hn=>by
  have hc:=h _ (fE (l:=l) (i:=i) oM);rw[z28,if_pos oM,if_neg]
  ·exact MB hk h n (i+1) oM
  rintro(⟨_,q|q⟩| ⟨q,_⟩)
  ·rw[z44,decide_eq_false_iff_not] at q;omega
  ·rw[hc.1] at q;exact absurd q dM
  exact hk q
end Go.Ch
end
section
namespace Go.Ch
open Go Go.Ab
variable {U:US}
theorem ZX{t:Bool}{f:List aL}:∀(n i:Nat),f.length-i=n->(pK t f i=0↔∀j,i<=j->j<f.length->gC (f.getD j default)=0/\(t=false->(f.getD j default).bh≠0))
 |0,i,h=>by rw[pK,if_neg oM];exact⟨fun _ j h1 h2=>oM,fun _=>rfl⟩
 |n+1,i,h=>by
  have hi:i<f.length:=oM;have hm:f.length- (i+1)=n:=oM;by_cases h1:gC (f.getD i default)≠0
  ·rw[Yc hi h1];exact⟨fun q=>absurd q h1,fun q=>absurd (q i (qp _) hi).1 h1⟩
  have th:gC (f.getD i default)=0:=qc h1;by_cases h2:t=false/\(f.getD i default).bh=0
  ·rw[Yd hi th h2];exact⟨fun q=>(by cases q),fun q=>absurd h2.2 ((q i (qp _) hi).2 h2.1)⟩
  have rS:t=true\/(f.getD i default).bh≠0:=by
   cases t with
   |true=>exact .inl rfl
   |false=>exact .inr (fun q=>h2 ⟨rfl,q⟩)
  rw[Ye hi th rS,ZX n (i+1) hm];refine⟨fun q j j1 j2=> ?_,fun q j j1 j2=>q j oM j2⟩;by_cases e:j=i
  ·subst e;exact⟨th,fun z z2=>h2 ⟨z,z2⟩⟩
  exact q j oM j2
theorem ZY{t:Bool}{f:List aL}:vB t f=0↔(∀x∈f,gC x=0/\(t=false->x.bh≠0))/\(t=true->0<f.length/\(f.getD (f.length- 1) default).aT=10):=by
 have hx:pK t f 0=0↔∀x∈f,gC x=0/\(t=false->x.bh≠0):=by
  rw[ZX _ 0 rfl];refine⟨fun h x hx=> ?_,fun h j _ hj=>h _ (fE hj)⟩;obtain⟨j,hj,rfl⟩:=oF hx;exact h j (qG _) hj
 by_cases h1:pK t f 0=0
 ·rw[Rw h1];constructor
  ·intro h;refine⟨hx.1 h1,fun ht=> ?_⟩;split at h
   ·cases h
   rename_i q;constructor
   ·apply qc;intro z;exact q ⟨ht,.inl oM⟩
   apply qc;intro z;exact q ⟨ht,.inr z⟩
  rintro⟨_,h⟩;rw[if_neg];rintro⟨a,b⟩;have:=h a;rcases b with b|b
  ·omega
  exact b this.2
 rw[Rv rfl h1];exact⟨fun h=>absurd h h1,fun h=>absurd (hx.2 h.1) h1⟩
theorem Gi:∀(us:List DU) (f:List aL) (x:aL),x∈dW us f->DU.A x∈us\/∃y∈f,x.aT=y.aT/\x.bh=y.bh
 | [],f,x,h=>by cases h
 | .A e::us,f,x,h=>by
  rw[dW] at h;rcases qg.1 h with rfl|h
  ·exact .inl sM
  exact(Gi us f x h).imp (fun q=>by simp[q]) id
 | .K c::us,y::f,x,h=>by
  rw[dW] at h;rcases qg.1 h with rfl|h
  ·exact .inr ⟨y,sM,rfl,rfl⟩
  exact(Gi us f x h).imp (fun q=>by simp[q]) (fun⟨z,hz,q⟩=>⟨z,by simp[hz],q⟩)
 | .C::us,y::f,x,h=>by
  rw[dW] at h;exact(Gi us f x h).imp (fun q=>by simp[q]) (fun⟨z,hz,q⟩=>⟨z,by simp[hz],q⟩)
 | .K c::us,[],x,h=>by rw[dW] at h;exact(Gi us [] x h).imp (fun q=>by simp[q]) id
 | .C::us,[],x,h=>by rw[dW] at h;exact(Gi us [] x h).imp (fun q=>by simp[q]) id
theorem MC{e:aL}:∀{s:List aB},DU.A e∈bD s->∃t∈s,e∈t.elems
 | [],h=>by cases h
 |t::s,h=>by
  rw[bD] at h;rcases qn.1 h with h|h
  ·refine⟨t,sM,?_⟩;unfold ir at h;split at h
   ·simpa using h
   split at h
   ·have:=zZ h;cases this
   have:=zZ h;cases this
  obtain⟨a,b,c⟩:=MC h;exact⟨a,by simp[b],c⟩
theorem MD:∀(u v:List DU) (l r:List aL),bK u=l.length->dW (u++v) (l++r)=dW u l++dW v r
 | [],v,l,r,h=>by
  have:l=[]:=qP (by simpa[bK] using h.symm);subst this;rfl
 | .A e::u,v,l,r,h=>by rw[qm,dW,dW,MD u v l r (by simpa[bK] using h)];rfl
 | .K c::u,v,[],r,h=>by simp[bK] at h
 | .C::u,v,[],r,h=>by simp[bK] at h
 | .K c::u,v,x::l,r,h=>by rw[qm,qm,dW,dW,MD u v l r (by simpa[bK] using h)];rfl
 | .C::u,v,x::l,r,h=>by rw[qm,qm,dW,dW,MD u v l r (by simpa[bK] using h)]
theorem ME{α:Type}[Inhabited α]{a b:List α}(h:0<b.length):(a++b).getD ((a++b).length- 1) default=b.getD (b.length- 1) default:=by
 rw[qf,qd,qK oM,qd,show a.length+b.length- 1-a.length=b.length- 1 by omega]
theorem x4P{f:List aL}{s:List aB}(hv:j9 s)(hl:eu s=(f.length:Int))(he:u7 s=true):0< (jx f s).length/\((jx f s).getD ((jx f s).length- 1) default).aT=(f.getD (f.length- 1) default).aT:=by
 unfold u7 at he;rw[qq,decide_eq_true_eq,beq_iff_eq] at he;obtain⟨h0,hk⟩:=he;have dh:s≠[]:=fun e=>by rw[e] at h0;exact absurd h0 dM
 obtain⟨t,ht⟩:∃t,s=s.dropLast++[t]:=⟨s.getLast dh,(List.dropLast_concat_getLast dh).symm⟩
 generalize s.dropLast=i at ht;subst ht;have hg:(i++[t]).getD ((i++[t]).length- 1) default=t:=by rw[ME sM];rfl
 rw[hg] at hk;have ho:=hv.1.all t sM;have hn:1<=t.n/\t.elems=[]:=by
  rcases ho with⟨k,_⟩| ⟨_,e,_,n,_⟩
  ·omega
  exact⟨n,e⟩
 have hL:=Al hv;have ex:bD (i++[t])=bD i++List.replicate t.n.toNat (.K t.ah):=by
  rw[CP];congr 1;simp only[bD,qL];unfold ir;rw[if_neg oM,if_neg oM]
 have Gz:bK (bD i)+t.n.toNat=f.length:=by
  have:=hL.1;rw[ex,oe,(uL _ _).1] at this;omega
 have hs:dW (bD (i++[t])) f=dW (bD i) (f.take (bK (bD i)))++(f.drop (bK (bD i))).map (lM t.ah):=by
  conv=>lhs;rw[<-List.take_append_drop (bK (bD i)) f]
  rw[ex,MD _ _ _ _ (by rw[qz];omega)];congr 1;have:=Yw t.n.toNat t.ah [] (f.drop (bK (bD i)));rw[qL] at this;rw[this,qk (by rw[qT];omega)];simp[dW]
 have fO:(f.drop (bK (bD i))).length=t.n.toNat:=by rw[qT];omega
 unfold jx;rw[hs];refine⟨by rw[qf,qj,fO];omega,?_⟩;rw[ME (by rw[qj,fO];omega),qj,fO];have e1:((f.drop (bK (bD i))).map (lM t.ah)).getD (t.n.toNat- 1) default=lM t.ah (f.getD (f.length- 1) default):=by
  rw[qd,zj,qQ,show bK (bD i)+(t.n.toNat- 1)=f.length- 1 by omega,qa (show f.length- 1<f.length by omega),qd,qa (show f.length- 1<f.length by omega)];rfl
 rw[e1];rfl
theorem ZZ{l:List Node}{n:Node}{s:List aB}(h:k9 l n s=0):(eX n.af=true\/nh n.af=true)/\eu s=(n.aD.length:Int)/\(eX n.af=true->u7 s=true)/\∀t∈s,∀x∈t.elems,tC l n.af x=0:=by
 unfold k9 at h;split at h
 ·cases h
 rename_i h1;split at h
 ·cases h
 rename_i h2;split at h
 ·cases h
 rename_i h3;refine⟨?_,qc h2,fun ht=> ?_,fun t ht x hx=>RC (RC h t ht) x hx⟩
 ·apply qc;intro q;rw[not_or,zK,zK] at q;exact h1 q
 apply qc;intro q;exact h3 ⟨ht,by simpa using q⟩
theorem Ss{l:List Node}(hs:gH l){k:Int}{x:aL}(h:tC l k x=0):(eX k=false->x.bh≠0)/\(x.bh≠0->∃m∈l,m.id=x.bh/\gz k m.af=true):=by
 unfold tC at h;split at h
 ·cases h
 rename_i h1;refine⟨fun q z=>h1 ⟨z,q⟩,fun q=>(Gf hs).1 h x.bh ?_⟩;unfold mo;simp[q]
theorem Gj{l:List fN}{i:Nat}(h:i<l.length):l.getD i default=l[i]:=by simp[List.getD,qa h]
theorem Z0{l:List fN}:∀(d i:Nat),l.length-i=d->(lX l i=0↔(∀j,i<=j->j<l.length->gZ (l.getD j default)=0)/\∀j,i<=j->0<j->j<l.length->iB (l.getD (j- 1) default) (l.getD j default))
 |0,i,h=>by rw[lX,if_neg oM];exact⟨fun _=>⟨fun j _ _=>oM,fun j _ _ _=>oM⟩,fun _=>rfl⟩
 |d+1,i,h=>by
  have hm:l.length- (i+1)=d:=oM;rw[lX,if_pos oM];by_cases h1:gZ (l.getD i default)=0
  ·rw[if_neg (fun hh=>hh h1)];by_cases h2:0<i/\¬iB (l.getD (i- 1) default) (l.getD i default)
   ·rw[if_pos h2];exact⟨fun h=>(by cases h),fun h=>absurd (h.2 i (qp _) h2.1 oM) h2.2⟩
   rw[if_neg h2,Z0 d (i+1) hm];refine⟨fun⟨a,b⟩=>⟨fun j hj hl=> ?_,fun j hj h0 hl=> ?_⟩,fun⟨a,b⟩=>⟨fun j hj hl=>a j oM hl,fun j hj h0 hl=>b j oM h0 hl⟩⟩
   ·by_cases e:j=i
    ·rw[e];exact h1
    exact a j oM hl
   by_cases e:j=i
   ·subst e;exact qc (fun hh=>h2 ⟨h0,hh⟩)
   exact b j oM h0 hl
  rw[if_pos h1];exact⟨fun h=>absurd h h1,fun h=>h.1 i (qp _) oM⟩
theorem Ez{l:List fN}:lX l 0=0↔(∀o∈l,gZ o=0)/\l.Pairwise iB:=by
 rw[Z0 _ 0 rfl];constructor
 ·rintro⟨a,b⟩;refine⟨fun o ho=> ?_,zI.2 fun i j hi hj jr=> ?_⟩
  ·obtain⟨j,hj,rfl⟩:=oF ho;exact a j (qG _) hj
  obtain⟨d,rfl⟩:∃d,j=i+1+d:=⟨j-i- 1,oM⟩
  clear jr;induction d with
  |zero=>have:=b (i+1) (qG _) oM hj;rwa [show i+1- 1=i by omega,Gj hi,Gj hj] at this
  |succ d ih=>
   have h1:=ih oM;have h2:=b (i+1+(d+1)) (qG _) oM hj;rw[show i+1+(d+1)- 1=i+1+d by omega,Gj oM,Gj hj] at h2;exact z67 h1 h2
 rintro⟨a,b⟩;refine⟨fun j _ hj=>a _ (fE hj),fun j _ h0 hj=> ?_⟩;rw[Gj oM,Gj hj];exact zI.1 b (j- 1) j _ _ oM
theorem Gk(x y:List fN):∀z,dN x y=some z->x.Pairwise iB->y.Pairwise iB->(∀o∈z,o∈x\/o∈y)/\z.Pairwise iB/\z.length<=x.length+y.length:=by
 induction x,y using dN.induct with
 |case1=>intro z h hx hy;rw[dN] at h;cases h;exact⟨(fun o ho=>by cases ho),List.Pairwise.nil,qp _⟩
 |case2 a l ih=>
  intro z h hx hy;rw[dN,qe] at h;obtain⟨w,hw,rfl⟩:=h;obtain⟨h1,h2,h3⟩:=ih w hw (qV.1 hx).2 hy;refine⟨fun o ho=> ?_,qV.2 ⟨fun b hb=>(qV.1 hx).1 b ((h1 b hb).resolve_right (fun q=>by cases q)),h2⟩,by simp at h3|-;omega⟩;rcases qg.1 ho with rfl|ho
  ·exact .inl sM
  exact(h1 o ho).imp (fun q=>by simp[q]) id
 |case3 b r ih=>
  intro z h hx hy;rw[dN,qe] at h;obtain⟨w,hw,rfl⟩:=h;obtain⟨h1,h2,h3⟩:=ih w hw hx (qV.1 hy).2;refine⟨fun o ho=> ?_,qV.2 ⟨fun c hc=>(qV.1 hy).1 c ((h1 c hc).resolve_left (fun q=>by cases q)),h2⟩,by simp at h3|-;omega⟩;rcases qg.1 ho with rfl|ho
  ·exact .inr sM
  exact(h1 o ho).imp id (fun q=>by simp[q])
 |case4 a l b r mV ih=>
  intro z h hx hy;rw[dN,if_pos mV,qe] at h;obtain⟨w,hw,rfl⟩:=h;obtain⟨h1,h2,h3⟩:=ih w hw (qV.1 hx).2 hy;refine⟨fun o ho=> ?_,qV.2 ⟨fun c hc=> ?_,h2⟩,by simp at h3|-;omega⟩
  ·rcases qg.1 ho with rfl|ho
   ·exact .inl sM
   exact(h1 o ho).imp (fun q=>by simp[q]) id
  rcases h1 c hc with q|q
  ·exact(qV.1 hx).1 c q
  rcases qg.1 q with rfl|q
  ·exact mV
  exact z67 mV ((qV.1 hy).1 c q)
 |case5 a l b r mV rH ih=>
  intro z h hx hy;rw[dN,if_neg mV,if_pos rH,qe] at h;obtain⟨w,hw,rfl⟩:=h;obtain⟨h1,h2,h3⟩:=ih w hw hx (qV.1 hy).2;refine⟨fun o ho=> ?_,qV.2 ⟨fun c hc=> ?_,h2⟩,by simp at h3|-;omega⟩
  ·rcases qg.1 ho with rfl|ho
   ·exact .inr sM
   exact(h1 o ho).imp id (fun q=>by simp[q])
  rcases h1 c hc with q|q
  ·rcases qg.1 q with rfl|q
   ·exact rH
   exact z67 rH ((qV.1 hx).1 c q)
  exact(qV.1 hy).1 c q
 |case6 l b r mV rH ih=>
  intro z h hx hy;rw[dN,if_neg mV,if_neg rH,if_pos rfl,qe] at h;obtain⟨w,hw,rfl⟩:=h;obtain⟨h1,h2,h3⟩:=ih w hw (qV.1 hx).2 (qV.1 hy).2;refine⟨fun o ho=> ?_,qV.2 ⟨fun c hc=> ?_,h2⟩,by simp at h3|-;omega⟩
  ·rcases qg.1 ho with rfl|ho
   ·exact .inl sM
   exact(h1 o ho).imp (fun q=>by simp[q]) (fun q=>by simp[q])
  rcases h1 c hc with q|q
  ·exact(qV.1 hx).1 c q
  exact(qV.1 hy).1 c q
 |case7 a l b r mV rH dh=>intro z h;rw[dN,if_neg mV,if_neg rH,if_neg dh] at h;cases h
end Go.Ch
end
section
namespace Go.Ch
open Go Go.Ab
theorem Z1(a b:List U):cS (a++b)=cS a+cS b:=by
 induction a with
 |nil=>simp[cS]
 |cons x a ih=>cases x<;>simp only[qm,cS,ih]<;>omega
theorem Z2(a b:List U):eV (a++b)=eV a+eV b:=by
 induction a with
 |nil=>simp[eV]
 |cons x a ih=>cases x<;>simp only[qm,eV,ih]<;>omega
theorem Z3(u:List U):eV u<=u.length:=by
 induction u with
 |nil=>simp[eV]
 |cons x u ih=>cases x<;>simp only[eV,qi]<;>omega
theorem x2a(n:Nat):∀(p q:List U),p.length+q.length<=n->(cL p q).1.length<=p.length+q.length/\(cL p q).2.length<=p.length+q.length:=by
 induction n with
 |zero=>
  intro p q hn;have h1:p=[]:=qZ.1 oM;have h2:q=[]:=qZ.1 oM;subst h1;subst h2;simp[cL]
 |succ n ih=>
  intro p q hn
  match p,q with
  | .A::p,q=>have:=ih p q (by simp at hn;omega);simp only[cL,qi];omega
  | [],.A::q=>have:=ih [] q (by simp at hn;simp;omega);simp only[cL,qi,zg] at this|-;omega
  | .K::p,.A::q=>have:=ih (.K::p) q (by simp at hn|-;omega);simp only[cL,qi] at this|-;omega
  | .C::p,.A::q=>have:=ih (.C::p) q (by simp at hn|-;omega);simp only[cL,qi] at this|-;omega
  | .K::p,.K::q=>have:=ih p q (by simp at hn;omega);simp only[cL,qi];omega
  | .K::p,.C::q=>have:=ih p q (by simp at hn;omega);simp only[cL,qi];omega
  | .C::p,.K::q=>have:=ih p q (by simp at hn;omega);simp only[cL,qi];omega
  | .C::p,.C::q=>have:=ih p q (by simp at hn;omega);simp only[cL,qi];omega
  | [],[]=>simp[cL]
  | [],.K::q=>simp[cL]
  | [],.C::q=>simp[cL]
  | .K::p,[]=>simp[cL]
  | .C::p,[]=>simp[cL]
theorem Z4{a b:List aA}(va:eR a)(vb:eR b)(hm:cz a=cz b)(hl:(ex a).length+(ex b).length<=2147483647):
 eR (z26 a b)/\eR (sK a b)/\eS a=cz (sK a b)/\eS b=cz (z26 a b)/\XT a (sK a b)=XT b (z26 a b):=by
 have nG:cS (ex a)=cS (ex b):=by unfold cz at hm;omega
 obtain⟨m1,m2,m3,m4⟩:=XE _ (ex a) (ex b) (qp _) nG;obtain⟨l1,l2⟩:=x2a _ (ex a) (ex b) (qp _);obtain⟨f1,s1⟩:=wZ (cL (ex a) (ex b)).1;obtain⟨f2,s2⟩:=wZ (cL (ex a) (ex b)).2;obtain⟨o1,n1⟩:=Lu s1;obtain⟨o2,n2⟩:=Lu s2;have k1:=Z3 (cL (ex a) (ex b)).1;have k2:=Z3 (cL (ex a) (ex b)).2;have h1:=va.2.2;have h2:=vb.2.2;unfold z26 sK cz eS;refine⟨⟨f1,oM,oM⟩,⟨f2,oM,oM⟩,oM,oM,?_⟩;refine y5z (wZ _).1 (wZ _).1 (.trans (wZ _).2 (.trans ?_ (.symm (wZ _).2)));exact .trans (XD s2 _) (.trans m1 (.symm (XD s1 _)))
def iR:List U->Int->Int->Int->Int
 | [],_,_,_=> -1
 | .A::u,p,fr,tq=>iR u p fr (tq+1)
 | .K::u,p,fr,tq=>if p=fr then tq else iR u p (fr+1) (tq+1)
 | .C::u,p,fr,tq=>if p=fr then-1 else iR u p (fr+1) tq
theorem x2b(n:Nat)(u:List U):∀(p fr tq:Int),iR (rep n .A++u) p fr tq=iR u p fr (tq+n):=by
 induction n with
 |zero=>intro p fr tq;simp[rep]
 |succ n ih=>intro p fr tq;rw[oD,qm,iR,ih];congr 1;omega
theorem x2c(n:Nat)(u:List U):∀(p fr tq:Int),fr<=p->iR (rep n .K++u) p fr tq=if p<fr+n then tq+p-fr else iR u p (fr+n) (tq+n):=by
 induction n with
 |zero=>intro p fr tq h;rw[if_neg oM];simp[rep]
 |succ n ih=>
  intro p fr tq h;rw[oD,qm,iR];by_cases e:p=fr
  ·rw[if_pos e,if_pos oM];omega
  rw[if_neg e,ih p (fr+1) (tq+1) oM];by_cases c:p<fr+1+n
  ·rw[if_pos c,if_pos oM];omega
  rw[if_neg c,if_neg oM];congr 1<;>omega
theorem x2d(n:Nat)(u:List U):∀(p fr tq:Int),fr<=p->iR (rep n .C++u) p fr tq=if p<fr+n then-1 else iR u p (fr+n) tq:=by
 induction n with
 |zero=>intro p fr tq h;rw[if_neg oM];simp[rep]
 |succ n ih=>
  intro p fr tq h;rw[oD,qm,iR];by_cases e:p=fr
  ·rw[if_pos e,if_pos oM]
  rw[if_neg e,ih p (fr+1) tq oM];by_cases c:p<fr+1+n
  ·rw[if_pos c,if_pos oM]
  rw[if_neg c,if_neg oM];congr 1;omega
theorem Jq:∀{l:List aA},jk l->∀(p fr tq:Int),fr<=p->dK l p fr tq=iR (ex l) p fr tq
 | [],_,p,fr,tq,_=>rfl
 |s::l,hl,p,fr,tq,h=>by
  have hn:=hl.head.2.2;have hk:=Ad hl.head;have EA:(s.n.toNat:Int)=s.n:=zL oM;rw[dK,ex];by_cases k1:s.af=1
  ·rw[if_pos k1,k1,Bp,x2b,EA,Jq hl.tail p fr _ h]
  rw[if_neg k1];by_cases k0:s.af=0
  ·rw[if_pos k0,k0,CK,x2c _ _ _ _ _ h,EA];split
   ·rfl
   rw[Jq hl.tail p _ _ oM]
  have k2:s.af=2:=oM;rw[if_neg k0,k2,IP,x2d _ _ _ _ _ h,EA];split
  ·rfl
  rw[Jq hl.tail p _ _ oM]
theorem x4Q{l:List aA}(h:¬0<l.length):eS l=0:=by
 have:l=[]:=qZ.1 oM;subst this;rfl
theorem Gl{a:List aA}{n p:Int}(v:eR a)(f:0<a.length->cz a=n)(h0:0<=p)(h:p<n):gv a p:=fun q=>⟨v,h0,by rw[f q];exact h⟩
theorem Gm:∀(u:List U) (p fr tq:Int),fr<=p->iR u p fr tq= -1\/tq<=iR u p fr tq
 | [],p,fr,tq,_=> .inl rfl
 | .A::u,p,fr,tq,h=>by
  rw[iR];have:=Gm u p fr (tq+1) h;omega
 | .K::u,p,fr,tq,h=>by
  rw[iR];split
  ·exact .inr (zm _)
  have:=Gm u p (fr+1) (tq+1) oM;omega
 | .C::u,p,fr,tq,h=>by
  rw[iR];split
  ·exact .inl rfl
  exact Gm u p (fr+1) tq oM
theorem x2e{u v:List U}(h:Sw u v):∀p fr tq:Int,iR u p fr tq=iR v p fr tq:=by
 induction h with
 |refl u=>intros;rfl
 |cons x h ih=>intro p fr tq;cases x<;>simp only[iR,ih]
 |swap u=>intro p fr tq;simp only[iR]
 |symm h ih=>intro p fr tq;exact(ih p fr tq).symm
 |trans h k ih jh=>intro p fr tq;exact(ih p fr tq).trans (jh p fr tq)
def rI(u v:List U)(p fr t1 t:Int):Int:=if iR u p fr t1<0 then-1 else iR v (iR u p fr t1) t1 t
theorem MF{u v:List U}{p fr t1 t:Int}(h0:0<=t1)(h:fr<=p):rI (.A::u) (.K::v) p fr t1 t=rI u v p fr (t1+1) (t+1):=by
 unfold rI;have:=Gm u p fr (t1+1) h;rw[iR,iR];split
 ·rfl
 rw[if_neg oM]
theorem MG{u v:List U}{p fr t1 t:Int}:rI u (.A::v) p fr t1 t=rI u v p fr t1 (t+1):=by
 unfold rI;rw[iR]
theorem Z5{u v:List U}{p fr t1 t:Int}(h0:0<=t1)(h:fr<=p):rI (.K::u) (.K::v) p fr t1 t=if p=fr then t else rI u v p (fr+1) (t1+1) (t+1):=by
 unfold rI;by_cases c:p=fr
 ·rw[if_pos c,iR,if_pos c,if_neg oM,iR,if_pos rfl]
 have:=Gm u p (fr+1) (t1+1) oM;rw[if_neg c,iR,if_neg c];split
 ·rfl
 rw[iR,if_neg oM]
theorem Z6{u v:List U}{p fr t1 t:Int}(h0:0<=t1)(h:fr<=p):rI (.K::u) (.C::v) p fr t1 t=if p=fr then-1 else rI u v p (fr+1) (t1+1) t:=by
 unfold rI;by_cases c:p=fr
 ·rw[if_pos c,iR,if_pos c,if_neg oM,iR,if_pos rfl]
 have:=Gm u p (fr+1) (t1+1) oM;rw[if_neg c,iR,if_neg c];split
 ·rfl
 rw[iR,if_neg oM]
theorem MH{u v:List U}{p fr t1 t:Int}:rI (.C::u) v p fr t1 t=if p=fr then-1 else rI u v p (fr+1) t1 t:=by
 unfold rI;by_cases c:p=fr
 ·rw[if_pos c,iR,if_pos c,if_pos dM]
 rw[if_neg c,iR,if_neg c]
theorem y9s(n:Nat):∀(p q:List U) (x fr t1 t2 t:Int),p.length+q.length<=n->cS p=cS q->fr<=x->0<=t1->0<=t2->
 rI p (cL p q).2 x fr t1 t=rI q (cL p q).1 x fr t2 t:=by
 induction n with
 |zero=>
  intro p q x fr t1 t2 t hn _ _ _ _;have h1:p=[]:=qZ.1 oM;have h2:q=[]:=qZ.1 oM;subst h1;subst h2;rfl
 |succ n ih=>
  intro p q x fr t1 t2 t hn ho hx h1 h2
  match p,q with
  | .A::p,q=>rw[cL,MF h1 hx,MG];exact ih p q x fr _ _ _ (by simp at hn;omega) ho hx oM h2
  | [],.A::q=>rw[cL,MG,MF h2 hx];exact ih [] q x fr _ _ _ (by simp at hn|-;omega) ho hx h1 oM;all_goals(intro p h;cases h)
  | .K::p,.A::q=>rw[cL,MG,MF h2 hx];exact ih (.K::p) q x fr _ _ _ (by simp at hn|-;omega) ho hx h1 oM;all_goals(intro p h;cases h)
  | .C::p,.A::q=>rw[cL,MG,MF h2 hx];exact ih (.C::p) q x fr _ _ _ (by simp at hn|-;omega) ho hx h1 oM;all_goals(intro p h;cases h)
  | .K::p,.K::q=>
   rw[cL,Z5 h1 hx,Z5 h2 hx];split
   ·rfl
   exact ih p q x _ _ _ _ (by simp at hn;omega) (by simp only[cS] at ho;omega) oM oM oM
  | .K::p,.C::q=>
   rw[cL,Z6 h1 hx,MH];split
   ·rfl
   exact ih p q x _ _ _ _ (by simp at hn;omega) (by simp only[cS] at ho;omega) oM oM oM
  | .C::p,.K::q=>
   rw[cL,Z6 h2 hx,MH];split
   ·rfl
   exact ih p q x _ _ _ _ (by simp at hn;omega) (by simp only[cS] at ho;omega) oM oM oM
  | .C::p,.C::q=>
   rw[cL,MH,MH];split
   ·rfl
   exact ih p q x _ _ _ _ (by simp at hn;omega) (by simp only[cS] at ho;omega) oM oM oM
  | [],[]=>rfl
  | [],.K::q=>simp only[cS] at ho;omega
  | [],.C::q=>simp only[cS] at ho;omega
  | .K::p,[]=>simp only[cS] at ho;omega
  | .C::p,[]=>simp only[cS] at ho;omega
def uU(u v:List aA)(p:Int):Int:=if fB u p<0 then-1 else fB v (fB u p)
theorem Z7{a:List aA}{p:Int}(v:eR a)(h:0<=p): -1<=fB a p:=by
 unfold fB;split
 ·exact LI v.1 p 0 0 (zm _) h
 omega
theorem Z8{a:List aA}{p:Int}(v:eR a)(h:0<=p)(hl:0<a.length):fB a p=iR (ex a) p 0 0:=by
 unfold fB;rw[if_pos hl,Jq v.1 p 0 0 h]
structure C5(n:Int)(a b:List aA):Prop where
 v1:eR (pA a b)
 v2:eR (pB a b)
 o1:0< (pA a b).length->cz (pA a b)=cU n b
 o2:0< (pB a b).length->cz (pB a b)=cU n a
 nw:cU (cU n a) (pB a b)=cU (cU n b) (pA a b)
 Z9:∀p,0<=p->p<n->uU a (pB a b) p=uU b (pA a b) p
theorem Jr{l:List aA}(h:¬0<l.length):l=[]:=qZ.1 oM
theorem Js(p:Int):fB [] p=p:=rfl
theorem Gn(n:Int):cU n []=n:=rfl
theorem x52{n:Int}{l:List aA}(h:¬0<l.length->n=0):cU n l=eS l:=by
 unfold cU;by_cases c:0<l.length
 ·rw[if_pos c]
 rw[if_neg c,x4Q c,h c]
theorem y7Z{l:List aA}(h:¬0<l.length):cz l=0:=by rw[Jr h];rfl
theorem x53{n:Int}{a b:List aA}(va:eR a)(vb:eR b)(fa:0<a.length->cz a=n)(fb:0<b.length->cz b=n)(hl:(ex a).length+(ex b).length<=2147483647):C5 n a b:=by
 by_cases ca:0<a.length
 ·by_cases cb:0<b.length
  ·have e1:pA a b=z26 a b:=by unfold pA;rw[if_neg oM]
   have e2:pB a b=sK a b:=by unfold pB;rw[if_neg oM]
   have heq:cz a=cz b:=by rw[fa ca,fb cb]
   obtain⟨v1,v2,m1,m2,_⟩:=Z4 va vb heq hl;have hn:eS (z26 a b)=eS (sK a b):=by
    obtain⟨_,_,_,k⟩:=XE _ (ex a) (ex b) (qp _) (by unfold cz at heq;omega);have s1:=(Lu (wZ (cL (ex a) (ex b)).1).2).2;have s2:=(Lu (wZ (cL (ex a) (ex b)).2).2).2;unfold eS z26 sK;omega
   have na:cU n a=eS a:=by unfold cU;rw[if_pos ca]
   have nb:cU n b=eS b:=by unfold cU;rw[if_pos cb]
   have z1:¬0< (z26 a b).length->eS b=0:=fun q=>by rw[m2,y7Z q]
   have z2:¬0< (sK a b).length->eS a=0:=fun q=>by rw[m1,y7Z q]
   refine⟨by rw[e1];exact v1,by rw[e2];exact v2,fun q=>by rw[e1,nb,m2],fun q=>by rw[e2,na,m1],?_,fun p h0 hp=> ?_⟩
   ·rw[e1,e2,na,nb,x52 z1,x52 z2,hn]
   rw[e1,e2];have hu:=y9s _ (ex a) (ex b) p 0 0 0 0 (qp _) (by unfold cz at heq;omega) h0 (zm _) (zm _);have key:∀{u v:List aA} {w:List U},eR u->eR v->0<u.length->(¬0<v.length->eS u=0)->Sw (ex v) w->uU u v p=rI (ex u) w p 0 0 0:=by
    intro u v w vu vv cu zv sw;unfold uU rI;rw[Z8 vu h0 cu];by_cases cv:0<v.length
    ·split
     ·rfl
     rw[Z8 vv oM cv,x2e sw]
    have h1:=zv cv;have h2:iR (ex u) p 0 0<0:=by
     refine qc fun q=> ?_
     rw[<-Jq vu.1 p 0 0 h0] at q;have:=Jp vu.1 p 0 0 h0 oM;unfold eS at h1;omega
    rw[if_pos h2,if_pos h2]
   rw[key va v2 ca z2 (wZ (cL (ex a) (ex b)).2).2,key vb v1 cb z1 (wZ (cL (ex a) (ex b)).1).2];exact hu
  have hb:=Jr cb;subst hb;have e1:pA a []=a:=by unfold pA;rw[if_pos (.inr rfl)]
  have e2:pB a []=[]:=by unfold pB;rw[if_pos (.inr rfl)]
  refine⟨by rw[e1];exact va,by rw[e2];exact vb,fun q=>by rw[e1,Gn];exact fa ca,fun q=>(by rw[e2] at q;exact absurd q dM),by rw[e1,e2,Gn,Gn],fun p h0 hp=> ?_⟩;have:=Z7 va h0;rw[e1,e2];unfold uU;rw[Js,Js,if_neg (show¬p<0 by omega)];split<;>omega
 have ha:=Jr ca;subst ha;have e1:pA [] b=[]:=by unfold pA;rw[if_pos (.inl rfl)]
 have e2:pB [] b=b:=by unfold pB;rw[if_pos (.inl rfl)]
 refine⟨by rw[e1];exact va,by rw[e2];exact vb,fun q=>(by rw[e1] at q;exact absurd q dM),fun q=>(by rw[e2] at q|-;rw[Gn];exact fb q),by rw[e1,e2,Gn,Gn],fun p h0 hp=> ?_⟩;have:=Z7 vb h0;rw[e1,e2];unfold uU;rw[Js,Js,if_neg (show¬p<0 by omega)];split<;>omega
theorem x54{ak aj:List aA}{c:Cell}(hr:0<=c.aF)(hc:0<=c.aV):j6 ak aj c=if fB ak c.aF<0\/fB aj c.aV<0 then none else some {c with aF:=fB ak c.aF,aV:=fB aj c.aV}:=by
 have z:∀{a:List aA} {p:Int},0<=p->fB a p<0->0<a.length:=fun {a p} h0 h=>by
  refine qc fun q=> ?_
  rw[Jr q,Js] at h;omega
 have z1:=z (a:=ak) hr;have z2:=z (a:=aj) hc;unfold j6;by_cases c1:fB ak c.aF<0
 ·rw[if_pos ⟨z1 c1,c1⟩,if_pos (.inl c1)]
 rw[if_neg (fun q=>c1 q.2)];by_cases c2:fB aj c.aV<0
 ·rw[if_pos ⟨z2 c2,c2⟩,if_pos (.inr c2)]
 rw[if_neg (fun q=>c2 q.2),if_neg oM]
theorem y70{r1 c1 r2 c2:List aA}{c:Cell}(hr:0<=c.aF)(hc:0<=c.aV):(j6 r1 c1 c).bind (j6 r2 c2)=if uU r1 r2 c.aF<0\/uU c1 c2 c.aV<0 then none else some {c with aF:=uU r1 r2 c.aF,aV:=uU c1 c2 c.aV}:=by
 rw[x54 hr hc];unfold uU;by_cases q1:fB r1 c.aF<0
 ·rw[if_pos (.inl q1),if_pos q1,if_pos (.inl dM)];rfl
 by_cases q2:fB c1 c.aV<0
 ·rw[if_pos (.inr q2),if_pos q2,if_pos (.inr dM)];rfl
 rw[if_neg oM,if_neg q1,if_neg q2,Option.bind_some,x54 (by show 0<=fB r1 c.aF;omega) (by show 0<=fB c1 c.aV;omega)]
theorem y1A{α β:Type}{f g:α->Option β}:∀{l:List α},(∀c∈l,f c=g c)->l.filterMap f=l.filterMap g
 | [],_=>rfl
 |c::l,h=>by
  rw[List.filterMap_cons,List.filterMap_cons,h c sM,y1A (l:=l) (fun d hd=>h d (by simp[hd]))]
theorem x7Y{l:List Cell}{m n:Int}{r1 c1 r2 c2 r3 c3 r4 c4:List aA}(hl:∀c∈l,0<=c.aF/\c.aF<m/\0<=c.aV/\c.aV<n)(hr:∀p,0<=p->p<m->uU r1 r2 p=uU r3 r4 p)(hc:∀p,0<=p->p<n->uU c1 c2 p=uU c3 c4 p):
 dY (dY l r1 c1) r2 c2=dY (dY l r3 c3) r4 c4:=by
 unfold dY;rw[List.filterMap_filterMap,List.filterMap_filterMap];refine y1A fun c h=> ?_
 obtain⟨q1,q2,q3,q4⟩:=hl c h;rw[y70 q1 q3,y70 q1 q3,hr _ q1 q2,hc _ q3 q4]
theorem y4z{α:Type}[Inhabited α](p:α->Bool){l:List α}:∀(n i:Nat),l.length-i=n->(gw p l i= -1/\(∀j,i<=j->j<l.length->p (l.getD j default)=false))\/
 ∃k:Nat,gw p l i=(k:Int)/\i<=k/\k<l.length/\p (l.getD k default)=true/\∀j,i<=j->j<k->p (l.getD j default)=false
 |0,i,h=>by rw[gw,if_neg oM];exact .inl ⟨rfl,fun j h1 h2=>oM⟩
 |n+1,i,h=>by
  have hi:i<l.length:=oM;rw[gw,if_pos hi];by_cases hp:p (l.getD i default)=true
  ·rw[if_pos hp];exact .inr ⟨i,rfl,qp _,hi,hp,fun j h1 h2=>oM⟩
  rw[if_neg hp];rcases y4z p (l:=l) n (i+1) oM with⟨e,q⟩| ⟨k,e,k1,k2,k3,k4⟩
  ·refine .inl ⟨e,fun j h1 h2=> ?_⟩;by_cases ej:i=j
   ·rw[<-ej];simpa using hp
   exact q j oM h2
  refine .inr ⟨k,e,oM,k2,k3,fun j h1 h2=> ?_⟩;by_cases ej:i=j
  ·rw[<-ej];simpa using hp
  exact k4 j oM h2
def oK{α:Type}(p:α->Bool)(l:List α):List α:=l.filter (fun q=> !p q)
theorem MI{α:Type}[Inhabited α]{p:α->Bool}{l:List α}(h:∀j,0<=j->j<l.length->p (l.getD j default)=false):oK p l=l:=by
 unfold oK;rw[List.filter_eq_self];intro q hq;obtain⟨j,hj,rfl⟩:=oF hq;rw[h j oM hj];rfl
structure kO{α:Type}[Inhabited α](p:α->Bool)(l o:List α)(i j:Nat):Prop where
 len:o.length=l.length
 lt:i<j
 le:j<=l.length
 tk:o.take i=oK p (l.take j)
 dr:o.drop j=l.drop j
theorem kO.start{α:Type}[Inhabited α]{p:α->Bool}{l:List α}{k:Nat}(h1:k<l.length)(h2:p (l.getD k default)=true)(h3:∀j,0<=j->j<k->p (l.getD j default)=false):kO p l l k (k+1):=by
 refine⟨rfl,oM,oM,?_,rfl⟩;unfold oK;rw[Rj _ h1,if_neg (by rw[h2];decide),qL];symm;rw[List.filter_eq_self];intro q hq;obtain⟨j,hj,rfl⟩:=oF hq;rw[qz] at hj;rw[qd,List.getElem?_take_of_lt oM,<-List.getD_eq_getElem?_getD,h3 j oM oM];rfl
theorem kO.at_{α:Type}[Inhabited α]{p:α->Bool}{l o:List α}{i j:Nat}(h:kO p l o i j)(hj:j<l.length):o.getD j default=l.getD j default:=by
 have e1:o.drop j=o.getD j default::o.drop (j+1):=Fj (by have:=h.len;omega);have e2:l.drop j=l.getD j default::l.drop (j+1):=Fj hj;have:=h.dr;rw[e1,e2] at this;exact(List.cons.inj this).1
theorem kO.skip{α:Type}[Inhabited α]{p:α->Bool}{l o:List α}{i j:Nat}(h:kO p l o i j)(hj:j<l.length)(hp:p (o.getD j default)=true):kO p l o i (j+1):=by
 have e:=h.at_ hj;rw[e] at hp;refine⟨h.len,by have:=h.lt;omega,oM,?_,?_⟩
 ·rw[h.tk];unfold oK;rw[Rj _ hj,if_neg (by rw[hp];decide),qL]
 have:=congrArg (List.drop 1) h.dr;rwa [List.drop_drop,List.drop_drop] at this
theorem kO.bW{α:Type}[Inhabited α]{p:α->Bool}{l o:List α}{i j:Nat}(h:kO p l o i j)(hj:j<l.length)(hp:p (o.getD j default)=false):kO p l (o.set i (o.getD j default)) (i+1) (j+1):=by
 have e:=h.at_ hj;have fQ:=h.lt;have hlen:=h.len;rw[e] at hp|-;refine⟨by rw[zt];exact hlen,oM,oM,?_,?_⟩
 ·unfold oK;rw[Rj _ hj,if_pos (by rw[hp];rfl)];have:(o.set i (l.getD j default)).take (i+1)=o.take i++[l.getD j default]:=by
   rw[qt (by rw[zt];omega),List.getElem_set_self,List.take_set_of_le (qp _)]
  rw[this,h.tk];rfl
 rw[List.drop_set_of_lt oM];have:=congrArg (List.drop 1) h.dr;rwa [List.drop_drop,List.drop_drop] at this
theorem kO.done{α:Type}[Inhabited α]{p:α->Bool}{l o:List α}{i j:Nat}(h:kO p l o i j)(hj:¬j<l.length):o.take i=oK p l:=by
 rw[h.tk,qk oM]
def mW(l:List Cell)(t:Cell):Nat:=(l.takeWhile (fun c=>decide (eF c t<0))).length
theorem Jt:∀(l:List Cell) (t:Cell),mW l t<=l.length/\(∀k,k<mW l t->eF (l.getD k default) t<0)/\(mW l t<l.length->¬eF (l.getD (mW l t) default) t<0)
 | [],t=>⟨qp _,fun k h=>absurd h (Nat.not_lt_zero _),fun h=>absurd h (Nat.lt_irrefl _)⟩
 |c::l,t=>by
  obtain⟨h1,h2,h3⟩:=Jt l t;by_cases hc:eF c t<0
  ·have e:mW (c::l) t=mW l t+1:=by unfold mW;rw[List.takeWhile_cons,if_pos (decide_eq_true hc)];rfl
   rw[e];refine⟨by simp only[qi];omega,fun k hk=> ?_,fun hk=> ?_⟩
   ·cases k with
    |zero=>exact hc
    |succ k=>exact h2 k oM
   exact h3 (by simp only[qi] at hk;omega)
  have e:mW (c::l) t=0:=by unfold mW;rw[List.takeWhile_cons,if_neg (by simpa using hc)];rfl
  rw[e];exact⟨qG _,fun k h=>absurd h (Nat.not_lt_zero _),fun _=>hc⟩
theorem x7Z{l:List Cell}{t:Cell}{m:Nat}(hs:BH l)(hm:m<l.length)(h:eF (l.getD m default) t<0):m<mW l t:=by
 obtain⟨h1,h2,h3⟩:=Jt l t;refine qc fun hn=> ?_
 have h4:=h3 oM;by_cases e:mW l t=m
 ·rw[e] at h4;exact h4 h
 have h5:=hs (mW l t) m oM hm;rw[z75] at h h5 h4;omega
theorem x2h{l:List Cell}{t:Cell}{m:Nat}(h:¬eF (l.getD m default) t<0):mW l t<=m:=by
 obtain⟨h1,h2,h3⟩:=Jt l t;exact qc fun hn=>h (h2 m oM)
def jy(l:List Cell)(t:Cell):Bool:=decide ((mW l t:Int)< (l.length:Int))&&((eF (l.getD (mW l t) default) t)==0)
theorem Su{a b:Cell}(h:eF a b<0):eF a b≠0:=oM
theorem Sv{a b:Cell}:eF a b=0↔eF b a=0:=by rw[wu,wu];exact⟨fun h=>⟨h.1.symm,h.2.symm⟩,fun h=>⟨h.1.symm,h.2.symm⟩⟩
theorem y0o{a b:Cell}(h:eF b a<0):eF a b≠0:=fun q=>by rw[Sv] at q;omega
theorem y2N{a b c:Cell}(h1:eF a b=0)(h2:eF b c=0):eF a c=0:=by rw[wu] at*;omega
theorem Sx{c y:Cell}:y∈(if kr c=true then([]:List Cell) else[c])↔y=c/\kr y=false:=by
 cases h:kr c with
 |true=>rw[if_pos rfl];exact⟨fun q=>(by cases q),fun q=>(by have e:=q.2;rw[q.1,h] at e;cases e)⟩
 |false=>rw[if_neg dM,qv];exact⟨fun q=>⟨q,by rw[q,h]⟩,fun q=>q.1⟩
theorem BK:∀(ns l:List Cell),Asc ns->Asc l->∀y,(y∈iy ns l↔(y∈ns/\kr y=false)\/(y∈l/\∀c∈ns,eF c y≠0))
 | [],l,_,_,y=>by rw[iy];simp
 |c::ns,[],h1,h2,y=>by
  rw[iy,pH,qn,Sx,BK ns [] h1.2 trivial y];simp only[qg,qX,false_and,or_false];constructor
  ·rintro(⟨p,q⟩| ⟨p,q⟩)
   ·exact⟨.inl p,q⟩
   exact⟨.inr p,q⟩
  rintro⟨p|p,q⟩
  ·exact .inl ⟨p,q⟩
  exact .inr ⟨p,q⟩
 |c::ns,x::l,h1,h2,y=>by
  rw[iy,pH];by_cases o1:eF x c<0
  ·rw[if_pos o1];have ih:=BK (c::ns) l h1 h2.2 y;rw[iy] at ih;rw[qg,ih];constructor
   ·rintro(rfl|p|p)
    ·refine .inr ⟨sM,fun d hd=> ?_⟩;rcases qg.1 hd with rfl|hd
     ·exact y0o o1
     exact y0o (Gh o1 (h1.1 d hd))
    ·exact .inl p
    exact .inr ⟨qR _ p.1,p.2⟩
   rintro(p| ⟨p,q⟩)
   ·exact .inr (.inl p)
   rcases qg.1 p with p|p
   ·exact .inl p
   exact .inr (.inr ⟨p,q⟩)
  rw[if_neg o1];by_cases o2:eF x c=0
  ·rw[if_pos o2,qn,Sx,BK ns l h1.2 h2.2 y];have oc:eF c x=0:=Sv.1 o2;constructor
   ·rintro(⟨rfl,q⟩| ⟨p,q⟩| ⟨p,q⟩)
    ·exact .inl ⟨sM,q⟩
    ·exact .inl ⟨qR _ p,q⟩
    refine .inr ⟨qR _ p,fun d hd=> ?_⟩;rcases qg.1 hd with rfl|hd
    ·exact Su (ZQ oM (h2.1 y p))
    exact q d hd
   rintro(⟨p,q⟩| ⟨p,q⟩)
   ·rcases qg.1 p with p|p
    ·exact .inl ⟨p,q⟩
    exact .inr (.inl ⟨p,q⟩)
   rcases qg.1 p with rfl|p
   ·exact absurd oc (q c sM)
   exact .inr (.inr ⟨p,fun d hd=>q d (by simp[hd])⟩)
  rw[if_neg o2,qn,Sx,BK ns (x::l) h1.2 h2 y];have xC:eF c x<0:=ZR.1 oM;constructor
  ·rintro(⟨rfl,q⟩| ⟨p,q⟩| ⟨p,q⟩)
   ·exact .inl ⟨sM,q⟩
   ·exact .inl ⟨qR _ p,q⟩
   refine .inr ⟨p,fun d hd=> ?_⟩;rcases qg.1 hd with rfl|hd
   ·rcases qg.1 p with rfl|p
    ·exact Su xC
    exact Su (Gh xC (h2.1 y p))
   exact q d hd
  rintro(⟨p,q⟩| ⟨p,q⟩)
  ·rcases qg.1 p with p|p
   ·exact .inl ⟨p,q⟩
   exact .inr (.inl ⟨p,q⟩)
  exact .inr (.inr ⟨p,fun d hd=>q d (by simp[hd])⟩)
termination_by ns l=>ns.length+l.length
theorem x2i:∀{l k:List Cell},Asc l->Asc k->(∀y,y∈l↔y∈k)->l=k
 | [],[],_,_,_=>rfl
 | [],b::k,_,_,h=>by have:=(h b).2 sM;cases this
 |a::l,[],_,_,h=>by have:=(h a).1 sM;cases this
 |a::l,b::k,h1,h2,h=>by
  have e:a=b:=by
   rcases qg.1 ((h a).1 sM) with e|e
   ·exact e
   rcases qg.1 ((h b).2 sM) with e'|e'
   ·exact e'.symm
   have p:=Gh (h1.1 b e') (h2.1 a e);rw[ZS] at p;omega
  subst e;rw[x2i h1.2 h2.2 (fun y=> ?_)];have irr:∀{m:List Cell},(∀x∈m,eF a x<0)->a∉m:=fun hm q=>by have:=hm a q;rw[ZS] at this;omega
  constructor
  ·intro hy;rcases qg.1 ((h y).1 (by simp[hy])) with e|e
   ·rw[e] at hy;exact absurd hy (irr h1.1)
   exact e
  intro hy;rcases qg.1 ((h y).2 (by simp[hy])) with e|e
  ·rw[e] at hy;exact absurd hy (irr h2.1)
  exact e
theorem x4R{l:List Cell}{t:Cell}(hs:BH l):jy l t=true↔∃c∈l,eF c t=0:=by
 obtain⟨h1,h2,h3⟩:=Jt l t;unfold jy;rw[qq,decide_eq_true_eq,beq_iff_eq];constructor
 ·rintro⟨p,q⟩;exact⟨_,fE oM,q⟩
 rintro⟨c,hc,q⟩;obtain⟨m,hm,rfl⟩:=oF hc;have hle:=x2h (l:=l) (t:=t) (m:=m) oM;have e:mW l t=m:=by
  refine qc fun ne=> ?_
  have:=hs (mW l t) m oM hm;exact h3 oM (by rw[z75] at*;rw[wu] at q;omega)
 rw[e];exact⟨oM,q⟩
theorem MJ{p:Cell->Bool}:∀{l:List Cell},Asc l->Asc (l.filter p)
 | [],_=>trivial
 |c::l,h=>by
  rw[List.filter_cons];split
  ·exact⟨fun x hx=>h.1 x (zX.1 hx).1,MJ h.2⟩
  exact MJ h.2
theorem x2j{ak aj:List aA}{c d:Cell}(h:j6 ak aj c=some d):kr d=kr c:=by
 obtain⟨_,_,rfl⟩:=yB h;rfl
theorem x9U{ak aj:List aA}{c d c' d':Cell}(hc:gv ak c.aF/\gv aj c.aV)(hd:gv ak d.aF/\gv aj d.aV)(h1:j6 ak aj c=some c')(h2:j6 ak aj d=some d'):eF c' d'=0↔eF c d=0:=by
 obtain⟨a1,a2,rfl⟩:=yB h1;obtain⟨b1,b2,rfl⟩:=yB h2;have inj:∀{a:List aA} {p q:Int},gv a p->gv a q->¬(0<a.length/\fB a p<0)->¬(0<a.length/\fB a q<0)->(fB a p=fB a q↔p=q):=fun {a p q} hp hq u v=>by
  constructor
  ·intro e;refine qc fun ne=> ?_
   by_cases c:p<q
   ·have:=Mx hp hq c u v;omega
   have:=Mx hq hp oM v u;omega
  intro e;rw[e]
 rw[wu,wu];show(fB ak c.aF=fB ak d.aF/\fB aj c.aV=fB aj d.aV)↔_;rw[inj hc.1 hd.1 a1 b1,inj hc.2 hd.2 a2 b2]
theorem x9V{ak aj:List aA}{c d d':Cell}(h:j6 ak aj d=some d')(e:eF c d=0):∃c',j6 ak aj c=some c'/\eF c' d'=0:=by
 obtain⟨b1,b2,rfl⟩:=yB h;obtain⟨e1,e2⟩:=wu.1 e;refine⟨{c with aF:=fB ak c.aF,aV:=fB aj c.aV},?_,?_⟩
 ·unfold j6;rw[e1,e2,if_neg b1,if_neg b2]
 rw[wu,e1,e2];exact⟨rfl,rfl⟩
theorem x2k{ns l:List Cell}{ak aj:List aA}(hn:Asc ns)(hl:Asc l)(p1:∀c∈ns,gv ak c.aF/\gv aj c.aV)(p2:∀c∈l,gv ak c.aF/\gv aj c.aV)(y:Cell):
 y∈dY (iy ns l) ak aj↔(y∈dY ns ak aj/\kr y=false)\/(y∈dY l ak aj/\∀c∈dY ns ak aj,eF c y≠0):=by
 unfold dY;simp only[zE];constructor
 ·rintro⟨d,hd,he⟩;rcases(BK ns l hn hl d).1 hd with⟨q1,q2⟩| ⟨q1,q2⟩
  ·exact .inl ⟨⟨d,q1,he⟩,by rw[x2j he];exact q2⟩
  refine .inr ⟨⟨d,q1,he⟩,?_⟩;rintro c' ⟨c,hc,pQ⟩ e;exact q2 c hc ((x9U (p1 c hc) (p2 d q1) pQ he).1 e)
 rintro(⟨⟨d,q1,he⟩,q2⟩| ⟨⟨d,q1,he⟩,q2⟩)
 ·exact⟨d,(BK ns l hn hl d).2 (.inl ⟨q1,by rw[<-x2j he];exact q2⟩),he⟩
 refine⟨d,(BK ns l hn hl d).2 (.inr ⟨q1,fun c hc e=> ?_⟩),he⟩;obtain⟨c',h1,h2⟩:=x9V he e;exact q2 c' ⟨c,hc,h1⟩ h2
theorem y9t{x:aX}{a b:bP}{Ar Ac Br Bc:List aA}(gx:Asc x.cells)(ga:Asc a.cells)(gb:Asc b.cells)
 (r1:∀c∈x.cells,gv a.ak c.aF) (r2:∀c∈x.cells,gv a.aj c.aV) (r3:∀c∈x.cells,gv b.ak c.aF) (r4:∀c∈x.cells,gv b.aj c.aV)
 (a1:∀c∈a.cells,gv Br c.aF/\gv Bc c.aV) (b1:∀c∈b.cells,gv Ar c.aF/\gv Ac c.aV)
 (x1:∀c∈dY x.cells a.ak a.aj,gv Br c.aF/\gv Bc c.aV) (x2:∀c∈dY x.cells b.ak b.aj,gv Ar c.aF/\gv Ac c.aV)
 (hw:dY (dY x.cells a.ak a.aj) Br Bc=dY (dY x.cells b.ak b.aj) Ar Ac):
 iy (dY b.cells Ar Ac) (dY (iy a.cells (dY x.cells a.ak a.aj)) Br Bc)=
 iy (oK (fun c=>jy (dY b.cells Ar Ac) ⟨c.aF,c.aV,{data:=#[]},0,[]⟩) (dY a.cells Br Bc)) (dY (iy b.cells (dY x.cells b.ak b.aj)) Ar Ac):=by
 have sa:=Au gx r1 r2;have sb:=Au gx r3 r4;have ma:=Au ga (fun c h=>(a1 c h).1) (fun c h=>(a1 c h).2);have mb:=Au gb (fun c h=>(b1 c h).1) (fun c h=>(b1 c h).2);have ga':=BJ _ _ ga sa;have gb':=BJ _ _ gb sb;have pa:∀c∈iy a.cells (dY x.cells a.ak a.aj),gv Br c.aF/\gv Bc c.aV:=fun c h=>by
  rcases BI _ _ c h with⟨h,_⟩|h
  ·exact a1 c h
  exact x1 c h
 have pb:∀c∈iy b.cells (dY x.cells b.ak b.aj),gv Ar c.aF/\gv Ac c.aV:=fun c h=>by
  rcases BI _ _ c h with⟨h,_⟩|h
  ·exact b1 c h
  exact x2 c h
 have na:=Au ga' (fun c h=>(pa c h).1) (fun c h=>(pa c h).2);have nb:=Au gb' (fun c h=>(pb c h).1) (fun c h=>(pb c h).2);have md:Asc (oK (fun c=>jy (dY b.cells Ar Ac) ⟨c.aF,c.aV,{data:=#[]},0,[]⟩) (dY a.cells Br Bc)):=MJ ma;have hd:∀y,y∈oK (fun c=>jy (dY b.cells Ar Ac) ⟨c.aF,c.aV,{data:=#[]},0,[]⟩) (dY a.cells Br Bc)↔y∈dY a.cells Br Bc/\∀c∈dY b.cells Ar Ac,eF c y≠0:=fun y=>by
  unfold oK;rw[zX,zf];refine and_congr Iff.rfl ?_;rw[<-Bool.not_eq_true,x4R (Mw mb)];constructor
  ·intro h c hc e;exact h ⟨c,hc,by rw[wu] at e|-;exact e⟩
  rintro h ⟨c,hc,e⟩;exact h c hc (by rw[wu] at e|-;exact e)
 refine x2i (BJ _ _ mb na) (BJ _ _ md nb) (fun y=> ?_);rw[BK _ _ mb na,BK _ _ md nb,x2k ga sa a1 x1,x2k gb sb b1 x2,hd y,hw];have hE:(∀c∈oK (fun c=>jy (dY b.cells Ar Ac) ⟨c.aF,c.aV,{data:=#[]},0,[]⟩) (dY a.cells Br Bc),eF c y≠0)/\(∀c∈dY b.cells Ar Ac,eF c y≠0)↔(∀c∈dY a.cells Br Bc,eF c y≠0)/\(∀c∈dY b.cells Ar Ac,eF c y≠0):=by
  constructor
  ·rintro⟨h1,h2⟩;refine⟨fun c hc e=> ?_,h2⟩;exact h1 c ((hd c).2 ⟨hc,fun d hd e2=>h2 d hd (y2N e2 e)⟩) e
  rintro⟨h1,h2⟩;exact⟨fun c hc=>h1 c ((hd c).1 hc).1,h2⟩
 constructor
 ·rintro(⟨p,q⟩| ⟨⟨p,q⟩| ⟨p,q⟩,r⟩)
  ·refine .inr ⟨.inl ⟨p,q⟩,fun c hc e=> ?_⟩;exact((hd c).1 hc).2 y p (Sv.1 e)
  ·exact .inl ⟨⟨p,r⟩,q⟩
  have:=hE.2 ⟨q,r⟩;exact .inr ⟨.inr ⟨p,this.2⟩,this.1⟩
 rintro(⟨⟨p,r⟩,q⟩| ⟨⟨p,q⟩| ⟨p,q⟩,r⟩)
 ·exact .inr ⟨.inl ⟨p,q⟩,r⟩
 ·exact .inl ⟨p,q⟩
 have:=hE.1 ⟨r,q⟩;exact .inr ⟨.inr ⟨p,this.1⟩,this.2⟩
theorem y4A{ak aj:List aA}{c d:Cell}{m n:Int}{o:Bool}(hr:gv ak c.aF)(hc:gv aj c.aV)(h:pI c m n o=0)(hd:j6 ak aj c=some d):pI d (cU m ak) (cU n aj) o=0:=by
 obtain⟨a1,a2,rfl⟩:=yB hd;obtain⟨h1,h2,h3,h4,h5⟩:=sY.1 h;have b1:=My (m:=m) hr ⟨h1.1,h1.2.1⟩ a1;have b2:=My (m:=n) hc ⟨h1.2.2.1,h1.2.2.2⟩ a2;exact sY.2 ⟨⟨b1.1,b1.2,b2.1,b2.2⟩,h2,h3,h4,h5⟩
theorem y71{x:aX}{e:bP}(he:Eb e)(hf:yd x e):∀c∈e.cells,pI c (cU x.ak e.ak) (cU x.aj e.aj) true=0:=fun c h=>by
 obtain⟨q1,q2,q3,q4,q5⟩:=sY.1 ((C3.1 he.cells).1 c h);have:=hf.cells c h;exact sY.2 ⟨⟨q1.1,this.1,q1.2.2.1,this.2⟩,q2,q3,q4,q5⟩
def z59:List U->Nat
 | []=>0
 | .A::u=>z59 u+1
 | .K::u=>z59 u
 | .C::u=>z59 u
theorem x2l{u v:List U}(h:Sw u v):z59 u=z59 v:=by
 induction h with
 |refl u=>rfl
 |cons x h ih=>cases x<;>simp only[z59,ih]
 |swap u=>rfl
 |symm h ih=>exact ih.symm
 |trans h k ih jh=>exact ih.trans jh
theorem y72:∀(u:List U),u.length=cS u+z59 u/\eV u<=cS u+z59 u
 | []=>⟨rfl,qp _⟩
 |x::u=>by
  have:=y72 u;cases x<;>simp only[z59,cS,eV,qi]<;>omega
theorem x2m(n:Nat):∀(p q:List U),p.length+q.length<=n->cS p=cS q->z59 (cL p q).1=z59 p/\z59 (cL p q).2=z59 q:=by
 induction n with
 |zero=>
  intro p q hn _;have h1:p=[]:=qZ.1 oM;have h2:q=[]:=qZ.1 oM;subst h1;subst h2;simp[cL,z59]
 |succ n ih=>
  intro p q hn ho
  match p,q with
  | .A::p,q=>have:=ih p q (by simp at hn;omega) ho;simp only[cL,z59];omega
  | [],.A::q=>have:=ih [] q (by simp at hn;simp;omega) ho;simp only[cL,z59] at this|-;omega
  | .K::p,.A::q=>have:=ih (.K::p) q (by simp at hn|-;omega) ho;simp only[cL,z59] at this|-;omega
  | .C::p,.A::q=>have:=ih (.C::p) q (by simp at hn|-;omega) ho;simp only[cL,z59] at this|-;omega
  | .K::p,.K::q=>have:=ih p q (by simp at hn;omega) (by simp only[cS] at ho;omega);simp only[cL,z59];omega
  | .K::p,.C::q=>have:=ih p q (by simp at hn;omega) (by simp only[cS] at ho;omega);simp only[cL,z59];omega
  | .C::p,.K::q=>have:=ih p q (by simp at hn;omega) (by simp only[cS] at ho;omega);simp only[cL,z59];omega
  | .C::p,.C::q=>have:=ih p q (by simp at hn;omega) (by simp only[cS] at ho;omega);simp only[cL,z59];omega
  | [],[]=>simp[cL,z59]
  | [],.K::q=>simp only[cS] at ho;omega
  | [],.C::q=>simp only[cS] at ho;omega
  | .K::p,[]=>simp only[cS] at ho;omega
  | .C::p,[]=>simp only[cS] at ho;omega
structure rJ(a:List aA):Prop where
 ad:z59 (ex a)<=2
theorem rJ.nil:rJ []:=⟨qG _⟩
theorem MK(u v:List U):z59 (u++v)=z59 u+z59 v:=by
 induction u with
 |nil=>exact(zw _).symm
 |cons x u ih=>cases x<;>simp only[qm,z59]<;>omega
theorem y73(k:Int):∀(n:Nat),z59 (rep n (j5 k))=if k=1 then n else 0
 |0=>by show 0=_;split<;>rfl
 |n+1=>by
  have ih:=y73 k n;rw[oD];by_cases k1:k=1
  ·rw[if_pos k1] at ih|-;subst k1;rw[Bp] at ih|-;rw[z59,ih]
  rw[if_neg k1] at ih|-;unfold j5 at ih|-;rw[if_neg k1] at ih|-;by_cases k2:k=2
  ·rw[if_pos k2] at ih|-;rw[z59];exact ih
  rw[if_neg k2] at ih|-;rw[z59];exact ih
theorem rJ.sz{a:List aA}{n:Int}(h:rJ a)(f:0<a.length->cz a=n){m:Nat}(hn:0<=n/\n<=m):(ex a).length<=m+2/\cU n a<=(m+2:Nat):=by
 have h1:=y72 (ex a);have h2:=h.ad;unfold cU eS;by_cases c:0<a.length
 ·have:=f c;unfold cz at this;rw[if_pos c];omega
 rw[if_neg c,Jr c];exact⟨qG _,oM⟩
theorem rJ.pair{a b:List aA}{n:Int}(ha:rJ a)(hb:rJ b)(fa:0<a.length->cz a=n)(fb:0<b.length->cz b=n)(R:C5 n a b):rJ (pA a b)/\rJ (pB a b):=by
 by_cases c:a.length=0\/b.length=0
 ·rw[show pA a b=a by unfold pA;rw[if_pos c],show pB a b=b by unfold pB;rw[if_pos c]];exact⟨ha,hb⟩
 have e1:pA a b=z26 a b:=by unfold pA;rw[if_neg c]
 have e2:pB a b=sK a b:=by unfold pB;rw[if_neg c]
 have heq:cz a=cz b:=by rw[fa oM,fb oM]
 obtain⟨p1,p2⟩:=x2m _ (ex a) (ex b) (qp _) (by unfold cz at heq;omega);have s1:=x2l (wZ (cL (ex a) (ex b)).1).2;have s2:=x2l (wZ (cL (ex a) (ex b)).2).2;refine⟨⟨?_⟩,⟨?_⟩⟩
 ·rw[e1];unfold z26;rw[s1,p1];exact ha.ad
 rw[e2];unfold sK;rw[s2,p2];exact hb.ad
structure p9(e:bP):Prop where
 ar:rJ e.ak
 ac:rJ e.aj
 sp:e.split=[]
 me:e.merge=[]
 ln:e.cells.length<=1
 ce:∀c∈e.cells,c.ah=[]/\c.text.size=0
 lr:e.ak.length<=1000000
 lc:e.aj.length<=1000000
theorem p9.lY{e:bP}(h:p9 e):mz e:=⟨by rw[h.sp];rfl,by rw[h.me];rfl,fun c hc=>(h.ce c hc).2,by have:=h.ln;omega⟩
def z12(a b:bP):bP:=
 ⟨pA a.ak b.ak,pA a.aj b.aj,oK (fun c=>jy (dY b.cells (pA a.ak b.ak) (pA a.aj b.aj)) ⟨c.aF,c.aV,{data:=#[]},0,[]⟩) (dY a.cells (pB a.ak b.ak) (pB a.aj b.aj)),[],[]⟩
def nD(a b:bP):bP:=⟨pB a.ak b.ak,pB a.aj b.aj,dY b.cells (pA a.ak b.ak) (pA a.aj b.aj),[],[]⟩
structure sZ(a b:bP):Prop where
 la:p9 a
 lb:p9 b
 ea:jF a=0
 eb:jF b=0
 pr:0<a.ak.length->0<b.ak.length->rC a.ak b.ak
 pc:0<a.aj.length->0<b.aj.length->rC a.aj b.aj
 v1:eR (pA a.ak b.ak)
 v2:eR (pB a.ak b.ak)
 w1:eR (pA a.aj b.aj)
 w2:eR (pB a.aj b.aj)
 ra:∀c∈a.cells,c.aF<Bw (pB a.ak b.ak)/\c.aV<Bw (pB a.aj b.aj)
 rb:∀c∈b.cells,c.aF<Bw (pA a.ak b.ak)/\c.aV<Bw (pA a.aj b.aj)
 pa1:∀c∈a.cells,gv (pB a.ak b.ak) c.aF
 pa2:∀c∈a.cells,gv (pB a.aj b.aj) c.aV
 pb1:∀c∈b.cells,gv (pA a.ak b.ak) c.aF
 pb2:∀c∈b.cells,gv (pA a.aj b.aj) c.aV
 pz:BH (dY b.cells (pA a.ak b.ak) (pA a.aj b.aj))
 l1:a.ak.length<=1000000000000/\b.ak.length<=1000000000000/\a.aj.length<=1000000000000/\b.aj.length<=1000000000000
theorem x2n{l:List Cell}{m n:Int}(h:∀c∈l,c.aF<m/\c.aV<n):∀(k i:Nat),l.length-i=k->sg l m n i=0
 |0,i,hk=>by rw[sg,if_neg oM]
 |k+1,i,hk=>by
  have hc:=h _ (fE (l:=l) (i:=i) oM);rw[sg,if_pos oM,if_neg oM];exact x2n h k (i+1) oM
theorem x9W{e:bP}(vr:eR e.ak)(vc:eR e.aj)(hc:iO e.cells 2147483647 2147483647 true 0=0)(q1:e.split=[])(q2:e.merge=[]):jF e=0:=by
 have h1:z55 e.split 2147483647 2147483647 0=0:=by rw[q1,z55,if_neg dM]
 have h2:CL e.merge 2147483647 2147483647 0=0:=by rw[q2,CL,if_neg dM]
 unfold jF;rw[if_neg (fun q=>q (wo.2 vr)),if_neg (fun q=>q (wo.2 vc)),if_neg (fun q=>q hc),if_neg (fun q=>q h1),h2]
theorem ML{x:aX}{e:bP}(h:gX x e=0):jF e=0:=by
 unfold gX at h;split at h
 ·rename_i q;exact absurd h q
 split at h
 ·rename_i q;exact absurd h q
 rename_i q;exact qc q
theorem y74{x:aX}{e:bP}(hg:jI x=0)(vr:eR e.ak)(vc:eR e.aj)(q1:e.split=[])(q2:e.merge=[])(o1:0<e.ak.length->cz e.ak=x.ak)(o2:0<e.aj.length->cz e.aj=x.aj)
 (ha:Asc e.cells) (hf:∀c∈e.cells,pI c (cU x.ak e.ak) (cU x.aj e.aj) true=0) (b1:cU x.ak e.ak<=2147483647) (b2:cU x.aj e.aj<=2147483647):gX x e=0:=by
 have hc:iO e.cells 2147483647 2147483647 true 0=0:=C3.2 ⟨fun c h=>by
  obtain⟨q1,q2,q3,q4,q5⟩:=sY.1 (hf c h);exact sY.2 ⟨⟨q1.1,oM,q1.2.2.1,oM⟩,q2,q3,q4,q5⟩,ha⟩
 rw[Ro hg (x9W vr vc hc q1 q2) ⟨o1,o2⟩ (by rw[q1];rfl) (by rw[q2];rfl)];exact x2n (fun c h=>by have:=(sY.1 (hf c h)).1;exact⟨this.2.1,this.2.2.2⟩) _ 0 rfl
structure Ju(m:Nat)(x:aX):Prop where
 mg:x.aH=[]
 ce:∀c∈x.cells,c.ah=[]/\c.text.size=0
 ln:x.cells.length<=m
 sz:x.ak<=m/\x.aj<=m
theorem Ju.raw{m:Nat}{x:aX}{e:bP}(hx:Ju m x)(hm:m<=1048576)(he:p9 e)(h:gX x e=0):oU x e:=
 oU.of h hx.mg he.lY (by have:=hx.ln;omega) (by have:=he.ln;omega) (fun c hc=>by rw[(hx.ce c hc).1];decide) (fun c hc=>by rw[(he.ce c hc).1];decide)
structure Jv(x:aX)(a b:bP):Prop where
 pg:sZ a b
 fy:gX (kg x a) (nD a b)=0
 fx:gX (kg x b) (z12 a b)=0
 eq:kg (kg x a) (nD a b)=kg (kg x b) (z12 a b)
 lx:p9 (z12 a b)
 ly:p9 (nD a b)
theorem MM{l:List Cell}{ak aj:List aA}(h:∀c∈l,c.ah=[]/\c.text.size=0):∀c∈dY l ak aj,c.ah=[]/\c.text.size=0:=fun c hc=>by
 obtain⟨d,hd,hm⟩:=zE.1 hc;obtain⟨_,_,rfl⟩:=yB hm;exact h d hd
theorem MN{a:List aA}{n p:Int}(f:0<a.length->cz a=n)(h:p<n)(hn:n<=2147483647):p<Bw a:=by
 unfold Bw;split
 ·rename_i q;rw[f q];exact h
 omega
theorem y76{m:Nat}{x:aX}{a b:bP}(hm:m<=100000)(hx:Ju m x)(la:p9 a)(lb:p9 b)(fa:gX x a=0)(fb:gX x b=0):Jv x a b:=by
 obtain⟨hg,ha,ga⟩:=MA fa;obtain⟨_,hb,gb⟩:=MA fb;obtain⟨g1,g2⟩:=(Mz hx.mg).1 hg;obtain⟨x3,x4⟩:=C3.1 g2;have sz:=hx.sz;obtain⟨s1,t1⟩:=la.ar.sz ga.ak (m:=m) oM;obtain⟨s2,t2⟩:=la.ac.sz ga.aj (m:=m) oM;obtain⟨s3,t3⟩:=lb.ar.sz gb.ak (m:=m) oM;obtain⟨s4,t4⟩:=lb.ac.sz gb.aj (m:=m) oM;have R:=x53 ha.w6 hb.w6 ga.ak gb.ak oM;have C:=x53 ha.w8 hb.w8 ga.aj gb.aj oM;obtain⟨Ra,Rb⟩:=la.ar.pair lb.ar ga.ak gb.ak R;obtain⟨Ca,Cb⟩:=la.ac.pair lb.ac ga.aj gb.aj C;have ca:=y71 ha ga;have cb:=y71 hb gb;have ra:=hx.raw oM la fa;have rb:=hx.raw oM lb fb;have va:jI (kg x a)=0:=Sq hx.mg fa ra;have vb:jI (kg x b)=0:=Sq hx.mg fb rb;have na:=Ag (n:=x.ak) ha.w6 oM;have na':=Ag (n:=x.aj) ha.w8 oM;have nb:=Ag (n:=x.ak) hb.w6 oM;have nb':=Ag (n:=x.aj) hb.w8 oM;have ta:∀c∈a.cells,gv (pB a.ak b.ak) c.aF/\gv (pB a.aj b.aj) c.aV:=fun c hc=>by
  have:=(sY.1 (ca c hc)).1;exact⟨Gl R.v2 R.o2 this.1 this.2.1,Gl C.v2 C.o2 this.2.2.1 this.2.2.2⟩
 have tb:∀c∈b.cells,gv (pA a.ak b.ak) c.aF/\gv (pA a.aj b.aj) c.aV:=fun c hc=>by
  have:=(sY.1 (cb c hc)).1;exact⟨Gl R.v1 R.o1 this.1 this.2.1,Gl C.v1 C.o1 this.2.2.1 this.2.2.2⟩
 have sa:=(C3.1 ha.cells).2;have sb:=(C3.1 hb.cells).2;have ma:=Au sa (fun c h=>(ta c h).1) (fun c h=>(ta c h).2);have mb:=Au sb (fun c h=>(tb c h).1) (fun c h=>(tb c h).2);have po:∀{u v:List aA},eR u->eR v->cz u=cz v->(ex u).length+(ex v).length<=2147483647->rC u v:=fun {u v} vu vv e hl=>by
  obtain⟨v1,v2,_⟩:=Z4 vu vv e hl;exact⟨vu,vv,e,wo.2 v1,wo.2 v2⟩
 have e1:=FR ha.w6.1;have e2:=FR ha.w8.1;have e3:=FR hb.w6.1;have e4:=FR hb.w8.1;have pg:sZ a b:=⟨la,lb,ML fa,ML fb,fun p q=>po ha.w6 hb.w6 (by rw[ga.ak p,gb.ak q]) oM,fun p q=>po ha.w8 hb.w8 (by rw[ga.aj p,gb.aj q]) oM,R.v1,R.v2,C.v1,C.v2,
  fun c hc=>by have:=(sY.1 (ca c hc)).1;exact⟨MN R.o2 this.2.1 oM,MN C.o2 this.2.2.2 oM⟩,fun c hc=>by have:=(sY.1 (cb c hc)).1;exact⟨MN R.o1 this.2.1 oM,MN C.o1 this.2.2.2 oM⟩,
  fun c h=>(ta c h).1,fun c h=>(ta c h).2,fun c h=>(tb c h).1,fun c h=>(tb c h).2,Mw mb,oM⟩
 have bd:=Ag (n:=cU x.ak b.ak) R.v1 oM;have bd':=Ag (n:=cU x.aj b.aj) C.v1 oM;have bd2:=Ag (n:=cU x.ak a.ak) R.v2 oM;have Sy:=Ag (n:=cU x.aj a.aj) C.v2 oM;have hmb:∀c∈dY b.cells (pA a.ak b.ak) (pA a.aj b.aj),pI c (cU (cU x.ak b.ak) (pA a.ak b.ak)) (cU (cU x.aj b.aj) (pA a.aj b.aj)) true=0:=fun c hc=>by
  obtain⟨d,hd,he⟩:=zE.1 hc;exact y4A (tb d hd).1 (tb d hd).2 (cb d hd) he
 have hma:∀c∈dY a.cells (pB a.ak b.ak) (pB a.aj b.aj),pI c (cU (cU x.ak a.ak) (pB a.ak b.ak)) (cU (cU x.aj a.aj) (pB a.aj b.aj)) true=0:=fun c hc=>by
  obtain⟨d,hd,he⟩:=zE.1 hc;exact y4A (ta d hd).1 (ta d hd).2 (ca d hd) he
 have fy:gX (kg x a) (nD a b)=0:=by
  refine y74 (e:=nD a b) va R.v2 C.v2 rfl rfl R.o2 C.o2 mb (fun c hc=> ?_) bd2.2 Sy.2;show pI c (cU (cU x.ak a.ak) (pB a.ak b.ak)) (cU (cU x.aj a.aj) (pB a.aj b.aj)) true=0;rw[R.nw,C.nw];exact hmb c hc
 have fx:gX (kg x b) (z12 a b)=0:=by
  refine y74 (e:=z12 a b) vb R.v1 C.v1 rfl rfl R.o1 C.o1 (MJ ma) (fun c hc=> ?_) bd.2 bd'.2;show pI c (cU (cU x.ak b.ak) (pA a.ak b.ak)) (cU (cU x.aj b.aj) (pA a.aj b.aj)) true=0;rw[<-R.nw,<-C.nw];exact hma c (zX.1 hc).1
 have inx:∀{e:bP} {ak aj:List aA},oU x e->eR ak->eR aj->(0<ak.length->cz ak=cU x.ak e.ak)->(0<aj.length->cz aj=cU x.aj e.aj)->∀c∈dY x.cells e.ak e.aj,gv ak c.aF/\gv aj c.aV:=fun {e ak aj} he vr vc o1 o2 c h=>by
  obtain⟨d,hd,hm⟩:=zE.1 h;have:=(sY.1 (ZV (he.p1 d hd) (he.p2 d hd) (x3 d hd) hm)).1;exact⟨Gl vr o1 this.1 this.2.1,Gl vc o2 this.2.2.1 this.2.2.2⟩
 have hce:=y9t x4 sa sb ra.p1 ra.p2 rb.p1 rb.p2 ta tb (inx ra R.v2 C.v2 R.o2 C.o2) (inx rb R.v1 C.v1 R.o1 C.o1)
  (x7Y (fun c h=>(sY.1 (x3 c h)).1) R.Z9 C.Z9)
 have z:∀{u:List aA} {k:Int},eR u->rJ u->(0<u.length->cz u=k)->k<=(m+2:Nat)->0<=k->u.length<=1000000:=fun {u k} v ax f hk h0=>by
  have:=FR v.1;have:=(ax.sz f (m:=m+2) ⟨h0,hk⟩).1;omega
 refine⟨pg,fy,fx,?_,⟨Ra,Ca,rfl,rfl,?_,(fun c hc=>MM la.ce c (zX.1 hc).1),z R.v1 Ra R.o1 t3 nb.1,z C.v1 Ca C.o1 t4 nb'.1⟩,⟨Rb,Cb,rfl,rfl,qC (Af _ _ _) lb.ln,MM lb.ce,z R.v2 Rb R.o2 t1 na.1,z C.v2 Cb C.o2 t2 na'.1⟩⟩
 ·show(⟨cU (cU x.ak a.ak) (pB a.ak b.ak),cU (cU x.aj a.aj) (pB a.aj b.aj),_,_⟩:aX)=⟨cU (cU x.ak b.ak) (pA a.ak b.ak),cU (cU x.aj b.aj) (pA a.aj b.aj),_,_⟩
  rw[R.nw,C.nw];show(⟨_,_,iy (dY b.cells (pA a.ak b.ak) (pA a.aj b.aj)) (dY (iy a.cells (dY x.cells a.ak a.aj)) (pB a.ak b.ak) (pB a.aj b.aj)),_⟩:aX)=_;rw[hce];rfl
 exact qC (zO _ _) (qC (Af _ _ _) la.ln)
end Go.Ch
end
section
namespace Go.Ch
open Go Go.Ab
variable {U:US}
theorem MO{a:Int}{m q:Nat}(h:a<=(m:Int)):a<=((m+q:Nat):Int):=oM
structure GP(U:US)(m:Nat)(l:List Node):Prop where
 vd:VD l
 nd:∀n∈l,NG U n/\NZ m n
theorem NZ.mono{m k:Nat}{n:Node}(h:NZ m n)(hm:m<=k):NZ k n:=⟨qC h.fl hm,qC h.ce hm,qC h.dr hm,by have:=h.ro;omega,by have:=h.co;omega⟩
theorem GP.mono{m k:Nat}{l:List Node}(h:GP U m l)(hm:m<=k):GP U k l:=⟨h.vd,fun n hn=>⟨(h.nd n hn).1,(h.nd n hn).2.mono hm⟩⟩
theorem GP.set{l:List Node}{m k:Nat}(h:GP U m l)(hm:m<=k){i:Nat}(hi:i<l.length){n:Node}(bn:n.id=(l.getD i default).id)(hk:n.af=(l.getD i default).af)(hn:fT n=0)(hr:∀r∈lG n,∃m∈l,m.id=r/\gz n.af m.af=true)(hg:NG U n)(hz:NZ k n):GP U k (l.set i n):=by
 refine⟨h.vd.set hi bn hk hn hr,fun x hx=> ?_⟩;rcases zl hx with q|rfl
 ·exact⟨(h.nd x q).1,(h.nd x q).2.mono hm⟩
 exact⟨hg,hz⟩
theorem EB{l:List Node}{o:aP}(hk:o.af≠0)(h0:cV l o=0):eM l o.ai=true/\bt l o.ai<l.length/\cn l o=l.set (bt l o.ai) (iP (l.getD (bt l o.ai) default) o):=by
 have hh:eM l o.ai=true:=by
  apply qc;intro q;have:=(UA hk (by simpa using q)).2;omega
 exact⟨hh,(rX.1 hh).1,RE hk h0⟩
theorem Jw{l:List Node}{o:aP}(hk:o.af≠0)(h0:cV l o=0):(cn l o).length=l.length/\∀x∈cn l o,∃n∈l,x.id=n.id:=by
 obtain⟨h1,h2,h3⟩:=EB hk h0;rw[h3];refine⟨zt ..,fun x hx=> ?_⟩;rcases zl hx with q|rfl
 ·exact⟨x,q,rfl⟩
 refine⟨_,fE h2,?_⟩;unfold iP;repeat' split
 all_goals rfl
theorem EC{n:Node}(h:fT n=0):lX n.draw 0=0:=by
 obtain⟨p1,p2,p3,p4,p5,p6,p7⟩:=Gg h;by_cases q:rY n.af=true
 ·exact p7 q
 have:¬0<n.draw.length:=fun z=>q (p4.2.2 z)
 rw[lX,if_neg this]
theorem x9X{l:List Node}{m:Nat}(h:GP U m l){k:Int}{c:List aI}(hc:VU U true c)(h0:cV l (j0 k c)=0):GP U m (cn l (j0 k c)):=by
 obtain⟨h1,h2,h3⟩:=EB (o:=j0 k c) (show(1:Int)≠0 by decide) h0;have h3:cn l (j0 k c)=l.set (bt l k) {(l.getD (bt l k) default) with ah:=fm eY (l.getD (bt l k) default).ah c}:=h3;rw[h3];have h2:bt l k<l.length:=h2;have hm:=fE h2;obtain⟨g,z⟩:=h.nd _ hm;have hv:=CC Gc g.uA hc;have hn:=h.vd.ai _ hm;have vX:=EC hn;obtain⟨p1,p2,p3,p4,p5,p6,p7⟩:=Gg hn;exact h.set (qp _) h2 rfl rfl (Mv p1 p2 (VU.g hv) p4 p5 p6 (.inl vX)) (fun r hr=>h.vd.refs _ hm r hr) ⟨hv,g.fl,g.mg,g.ce,g.dr,g.kd⟩ ⟨z.fl,z.ce,z.dr,z.ro,z.co⟩
theorem Sz{f:List aL}{r:Int}:r∈mo f↔∃x∈f,x.bh=r/\r≠0:=by
 unfold mo;rw[zE];constructor
 ·rintro⟨x,hx,h⟩;split at h
  ·rename_i q;cases h;exact⟨x,hx,rfl,q⟩
  cases h
 rintro⟨x,hx,rfl,h⟩;exact⟨x,hx,by rw[if_pos h]⟩
theorem y4B{f:List Cell}{r:Int}:r∈CM f↔∃x∈f,x.bh=r/\r≠0:=by
 unfold CM;rw[zE];constructor
 ·rintro⟨x,hx,h⟩;split at h
  ·rename_i q;cases h;exact⟨x,hx,rfl,q⟩
  cases h
 rintro⟨x,hx,rfl,h⟩;exact⟨x,hx,by rw[if_pos h]⟩
theorem MP{l:List Node}{m q:Nat}(h:GP U m l){k:Int}{s:List aB}{us:List DU}(hd:jY U s us)(hq:eU s<=eu s+q)(h0:cV l (gG k s)=0):GP U (m+q) (cn l (gG k s)):=by
 obtain⟨h1,h2,h3⟩:=EB (o:=gG k s) (show(2:Int)≠0 by decide) h0;have h3:cn l (gG k s)=l.set (bt l k) {(l.getD (bt l k) default) with aD:=jx (l.getD (bt l k) default).aD s}:=h3;rw[h3];have h2:bt l k<l.length:=h2;have hm:=fE h2;have hf:k9 l (l.getD (bt l k) default) s=0:=(Kz (o:=gG k s) h1 rfl).2.symm.trans h0;obtain⟨g,z⟩:=h.nd _ hm;have hn:=h.vd.ai _ hm;have vX:=EC hn;obtain⟨p1,p2,p3,p4,p5,p6,p7⟩:=Gg hn;obtain⟨f1,f2,f3,f4⟩:=ZZ hf;have hlen:=Al hd.v;have gh:∀x∈jx (l.getD (bt l k) default).aD s,RU U x:=Ge _ _ hd.ex g.fl;have hl:(jx (l.getD (bt l k) default).aD s).length=cG (bD s):=F5 _ _ oM;have sy:∀x∈jx (l.getD (bt l k) default).aD s,tC l (l.getD (bt l k) default).af x=0\/∃y∈(l.getD (bt l k) default).aD,x.aT=y.aT/\x.bh=y.bh:=fun x hx=>by
  rcases Gi _ _ x hx with q|q
  ·obtain⟨t,ht,pT⟩:=MC q;exact .inl (f4 t ht x pT)
  exact .inr q
 have hz:=ZY.1 (p5 f1);refine h.set (z7 _ _) h2 rfl rfl (Mv p1 p2 p3 ⟨fun _=>f1,p4.2.1,p4.2.2⟩ (fun _=>ZY.2 ⟨fun x hx=>⟨(gh x hx).1,fun ht=> ?_⟩,fun ht=> ?_⟩) p6 (.inl vX)) (fun r hr=> ?_) ⟨g.uA,gh,g.mg,g.ce,g.dr,g.kd⟩ ⟨?_,qC z.ce (z7 _ _),qC z.dr (z7 _ _),MO z.ro,MO z.co⟩
 ·rcases sy x hx with q| ⟨y,hy,_,e⟩
  ·exact(Ss h.vd.pz q).1 ht
  rw[e];exact(hz.1 y hy).2 ht
 ·have a:=hz.2 ht;have b:=x4P hd.v f2 (f3 ht);exact⟨b.1,b.2.trans a.2⟩
 ·rcases qn.1 hr with hr|hr
  ·obtain⟨x,hx,rfl,Be⟩:=Sz.1 hr;rcases sy x hx with q| ⟨y,hy,_,e⟩
   ·exact(Ss h.vd.pz q).2 Be
   exact h.vd.refs _ hm x.bh (List.mem_append_left _ (Sz.2 ⟨y,hy,e.symm,Be⟩))
  exact h.vd.refs _ hm r (List.mem_append_right _ hr)
 have:=z.fl;show(jx (l.getD (bt l k) default).aD s).length<=m+q;omega
theorem y0r{l:List Node}{n:Node}{g:bP}(h:lW l n g=0):jX n.af=true/\z28 n.af g.cells 0=0/\gX n.az g=0/\∀c∈g.cells,yW l n.af c=0:=by
 unfold lW at h;split at h
 ·cases h
 rename_i h1;split at h
 ·rename_i q;exact absurd h q
 rename_i h2;split at h
 ·rename_i q;exact absurd h q
 rename_i h3;exact⟨by simpa using h1,qc h2,qc h3,RC h⟩
theorem x2o(c:Cell){k:List Cell->List Cell}{q:Nat}(hk:∀l,(k l).length<=l.length+q):∀(l:List Cell),(pH c k l).length<=l.length+(q+1)
 | []=>by
  have:=hk [];unfold pH;split<;>simp at this|- <;>omega
 |x::l=>by
  have h1:=x2o c hk l;have h2:=hk l;have h3:=hk (x::l);unfold pH
  repeat' split
  all_goals simp only[qi,qf,zg] at* <;>omega
theorem x55:∀(a b:List Cell),(iy a b).length<=b.length+a.length
 | [],b=>by simp[iy]
 |c::a,b=>x2o c (fun l=>x55 a l) b
theorem x70(a b:List Cell):(iy a b).length<=a.length+b.length:=by have:=x55 a b;omega
theorem SA{l:List Node}{m:Nat}(h:GP U m l){k:Int}{g:bP}(hl:p9 g)(Nf:m<=100000)(h0:cV l (gY k g)=0):GP U (m+3) (cn l (gY k g)):=by
 have hc:=hl.ce;have BZ:=hl.ln;obtain⟨h1,h2,h3⟩:=EB (o:=gY k g) (show(3:Int)≠0 by decide) h0;have h3:cn l (gY k g)=l.set (bt l k) {(l.getD (bt l k) default) with az:=kg (l.getD (bt l k) default).az g}:=h3;rw[h3];have h2:bt l k<l.length:=h2;have hm:=fE h2;have hf:lW l (l.getD (bt l k) default) g=0:=(KA (o:=gY k g) h1 rfl).2.symm.trans h0;obtain⟨gd,z⟩:=h.nd _ hm;have hn:=h.vd.ai _ hm;have vX:=EC hn;obtain⟨p1,p2,p3,p4,p5,p6,p7⟩:=Gg hn;obtain⟨f1,f2,f3,f4⟩:=y0r hf;have zc:=z.ce;have hr:oU (l.getD (bt l k) default).az g:=oU.of f3 gd.mg hl.lY oM oM (fun c pQ=>by rw[(gd.ce c pQ).1];decide) (fun c pQ=>by rw[(hc c pQ).1];decide);obtain⟨fg,_,ff⟩:=MA f3;obtain⟨fb,_⟩:=(Mz gd.mg).1 fg;have zr:=z.ro;have zk:=z.co;have lR:=(hl.ar.sz ff.ak (m:=m) oM).2;have rN:=(hl.ac.sz ff.aj (m:=m) oM).2;have bT:∀c∈(kg (l.getD (bt l k) default).az g).cells,(c.ah=[]/\c.text.size=0)/\(c.bh≠0->∃x∈l,x.id=c.bh/\gz (l.getD (bt l k) default).af x.af=true):=fun c pQ=>by
  rcases ZW pQ with⟨q,_⟩| ⟨c0,q,Sr⟩
  ·refine⟨hc c q,fun yC=> ?_⟩;have:=f4 c q;rw[Fg yC] at this;exact(Gf h.vd.pz).1 this c.bh sM
  obtain⟨_,_,rfl⟩:=yB Sr;exact⟨gd.ce c0 q,fun yC=>h.vd.refs _ hm c0.bh (List.mem_append_right _ (y4B.2 ⟨c0,q,rfl,yC⟩))⟩
 refine h.set (z7 _ _) h2 rfl rfl (Mv p1 p2 p3 ⟨p4.1,fun _=>f1,p4.2.2⟩ p5 (fun _=>⟨Sq gd.mg f3 hr,MB gd.kd (fun c pQ=>(bT c pQ).1) _ 0 rfl⟩) (.inl vX)) (fun r jG=> ?_) ⟨gd.uA,gd.fl,rfl,fun c pQ=>(bT c pQ).1,gd.dr,gd.kd⟩ ⟨qC z.fl (z7 _ _),?_,qC z.dr (z7 _ _),(by show cU _ g.ak<=_;omega),(by show cU _ g.aj<=_;omega)⟩
 ·rcases qn.1 jG with q|q
  ·exact h.vd.refs _ hm r (List.mem_append_left _ q)
  obtain⟨c,pQ,rfl,yC⟩:=y4B.1 q;exact(bT c pQ).2 yC
 have a:=x70 g.cells (dY (l.getD (bt l k) default).az.cells g.ak g.aj);have b:=Af (l.getD (bt l k) default).az.cells g.ak g.aj;show(iy g.cells (dY (l.getD (bt l k) default).az.cells g.ak g.aj)).length<=_;omega
theorem x56{l:List Node}{m:Nat}(h:GP U m l){k:Int}{c:List fN}(hs:∀o∈c,o.nu.size<=100/\o.nm.size<=100/\o.vl.size<=100)(hc:lX c 0=0)(h0:cV l (j3 k c)=0):GP U (m+c.length) (cn l (j3 k c)):=by
 obtain⟨h1,h2,h3⟩:=EB (o:=j3 k c) (show(4:Int)≠0 by decide) h0;have h3:cn l (j3 k c)=l.set (bt l k) {(l.getD (bt l k) default) with draw:=(dN (l.getD (bt l k) default).draw c).getD []}:=h3;rw[h3];have h2:bt l k<l.length:=h2;have hm:=fE h2;have hd:CQ (l.getD (bt l k) default) c=0:=(Jb (o:=j3 k c) h1 rfl).symm.trans h0;unfold CQ at hd;split at hd
 ·cases hd
 rename_i Fe;split at hd;rotate_left
 ·cases hd
 rename_i vo;obtain⟨w,hw⟩:=zn.1 vo;obtain⟨g,z⟩:=h.nd _ hm;have hn:=h.vd.ai _ hm;have vX:=EC hn;obtain⟨p1,p2,p3,p4,p5,p6,p7⟩:=Gg hn;have a:=Ez.1 (EC hn);have b:=Ez.1 hc;obtain⟨u1,u2,u3⟩:=Gk _ _ w hw a.2 b.2;rw[hw];have hz:=z.dr;refine h.set (z7 _ _) h2 rfl rfl (Mv p1 p2 p3 ⟨p4.1,p4.2.1,fun _=>by simpa using Fe⟩ p5 p6 (.inl (Ez.2 ⟨fun o ho=> ?_,u2⟩))) (fun r hr=>h.vd.refs _ hm r hr) ⟨g.uA,g.fl,g.mg,g.ce,fun o ho=> ?_,g.kd⟩ ⟨qC z.fl (z7 _ _),qC z.ce (z7 _ _),(by show w.length<=_;omega),MO z.ro,MO z.co⟩
 ·exact(u1 o ho).elim (a.1 o) (b.1 o)
 exact(u1 o ho).elim (g.dr o) (hs o)
theorem w1X{l:List Node}{m:Nat}(h:GP U m l){n:Node}(hg:NG U n)(hz:NZ m n)(hv:fT n=0)(hl:∀x∈l,x.id<n.id)(h0:cV l (nk n)=0):cn l (nk n)=l++[n]/\GP U m (l++[n]):=by
 have ha:pe l n=0:=(Fi (o:=nk n) rfl).2.symm.trans h0;have hn:eM l n.id=false:=by
  cases q:eM l n.id with
  |false=>rfl
  |true=>rw[(Ku (l:=l) (n:=n) q).2] at ha;cases ha
 have hr:gI l n.af (lG n) 0=0:=(F0 hn).symm.trans ha;have vV:bt l n.id=l.length:=by
  obtain⟨s1,s2,s3⟩:=xN l n.id;apply qc;intro q;exact s3 oM (hl _ (fE oM))
 refine⟨(Fi (o:=nk n) rfl).1.trans (w0Y hn hr vV).1,h.vd.add hl hv ((Gf h.vd.pz).1 hr),fun x hx=> ?_⟩;rcases qn.1 hx with q|q
 ·exact h.nd x q
 rw[qv] at q;subst q;exact⟨hg,hz⟩
end Go.Ch
end
section
namespace Go.Ch
open Go Go.Ab
variable {U:US}
structure PP(U:US)(s:Int)(k:Nat)(l:List Node):Prop where
 gp:GP U (10+4*k) l
 len:l.length<=3+k
 id:∀n∈l,n.id< (s+1)*65536/\(n.id<4+k\/65536<=n.id)
theorem PP.mono{s:Int}{k k':Nat}{l:List Node}(h:PP U s k l)(hk:k<=k'):PP U s k' l:=
 ⟨h.gp.mono oM,by have:=h.len;omega,fun n hn=>by have:=h.id n hn;omega⟩
theorem PP.ED(hU:UB U){s:Int}{k:Nat}{d:Doc}(h:PP U s k d.aq)(hk:k<=60):fD d:=Pr hU (m:=10+4*k) (q:=63) oM oM (by have:=h.len;omega) h.gp.nd
theorem PP.doc{s:Int}{k:Nat}{d:Doc}(h:PP U s k d.aq):ez d=0:=KS.2 h.gp.vd
theorem SB(hU:UB U){s:Int}{k:Nat}{l:List Node}{o:aP}(h:PP U s k l)(hk:k<=60)(dF:fF o=0)(AZ:pq o)(hl:o.af=0->∀x∈l,x.id<o.nw.id):iX l o:=
 ⟨by have:=h.len;omega,h.gp.vd.pz,dF,AZ,fun n hn=>⟨(h.gp.nd n hn).1.b hU (h.gp.nd n hn).2 oM,(h.gp.nd n hn).1.lY,(h.gp.nd n hn).1.kd⟩⟩
theorem C6:kf ⟨0,0,[],[],⟨0,0,[],[]⟩,[]⟩:=
 ⟨(fun a h=>by cases h),dM,(fun x h=>by cases h),dM,(fun x h=>by cases h),(fun c h=>by cases h),dM,(fun c h=>by cases h),dM,dM,(fun o h=>by cases h)⟩
theorem MQ:mz ⟨[],[],[],[],[]⟩:=⟨rfl,rfl,(fun c h=>by cases h),dM⟩
theorem MR{k n:Int}{w:Node}{a:List aI}{s:List aB}{c:List fN}:Ed ⟨k,n,w,a,s,⟨[],[],[],[],[]⟩,c⟩:=⟨qG _,qG _,qG _,qG _,qG _⟩
theorem KQ(hU:UB U){k:Int}{s:List aB}{us:List DU}(hd:jY U s us):pq (gG k s):=
 ⟨MR,C6,⟨rfl,(fun c h=>by cases h)⟩,qG _,(hd.dn hU.len).mono oM,MQ,(fun c h=>by cases h),qG _⟩
theorem Ve{k:Int}{c:List aI}(hc:c.length<=1048576):pq (j0 k c):=
 ⟨MR,C6,⟨rfl,(fun c h=>by cases h)⟩,hc,(fun s h=>by cases h),MQ,(fun c h=>by cases h),qG _⟩
theorem Vf{k:Int}{c:List fN}(hc:c.length<=1048576):pq (j3 k c):=
 ⟨MR,C6,⟨rfl,(fun c h=>by cases h)⟩,qG _,(fun s h=>by cases h),MQ,(fun c h=>by cases h),hc⟩
theorem Pp(hU:UB U){n:Node}{m:Nat}(hg:NG U n)(hz:NZ m n)(hm:m<=1048576):pq (nk n):=
 ⟨MR,hg.b hU hz hm,hg.lY,qG _,(fun s h=>by cases h),MQ,(fun c h=>by cases h),qG _⟩
theorem Pq{k:Int}{g:bP}(hl:p9 g):pq (gY k g):=
 ⟨⟨qC hl.lr dM,qC hl.lc dM,qC hl.ln dM,by show g.split.length<=_;rw[hl.sp];decide,by show g.merge.length<=_;rw[hl.me];decide⟩,C6,⟨rfl,(fun c h=>by cases h)⟩,qG _,(fun s h=>by cases h),hl.lY,(fun c h=>by rw[(hl.ce c h).1];decide),qG _⟩
def tQ(P:List Node->Prop):List Node->List aP->Prop
 |l,[]=>P l
 |l,o::c=>P l/\iX l o/\(cV l o=0->tQ P (cn l o) c)
theorem tQ.b{P:List Node->Prop}:∀{l:List Node} {c:List aP},tQ P l c->HN l c
 |_,[],_=>trivial
 |_,_::_,h=>⟨h.2.1,fun q=>(h.2.2 q).b⟩
theorem tQ.fin{P:List Node->Prop}:∀{l:List Node} {c:List aP},tQ P l c->iz l c=0->P (gK l c)
 |_,[],h,_=>h
 |l,o::c,h,h0=>by
  rw[iz] at h0;split at h0
  ·rename_i q;exact absurd h0 q
  rename_i q;exact(h.2.2 (qc q)).fin h0
theorem tQ.imp{P Q:List Node->Prop}(uE:∀l,P l->Q l):∀{l:List Node} {c:List aP},tQ P l c->tQ Q l c
 |_,[],h=>uE _ h
 |_,_::_,h=>⟨uE _ h.1,h.2.1,fun q=>(h.2.2 q).imp uE⟩
theorem tQ.app{P:List Node->Prop}:∀{l:List Node} {a b:List aP},tQ P l a->(iz l a=0->tQ P (gK l a) b)->tQ P l (a++b)
 |_,[],_,_,h2=>h2 rfl
 |l,o::a,b,h,h2=>⟨h.1,h.2.1,fun q=>(h.2.2 q).app (fun q2=>h2 (by rw[iz,if_neg (fun z=>z q)];exact q2))⟩
theorem w2X(hU:UB U){s:Int}{k:Nat}{l:List Node}{o:aP}(h:PP U s k l)(hk:k<=57)(ho:iX l o)(hn:cV l o=0->PP U s (k+3) (cn l o)):tQ (PP U s (k+3)) l [o]:=⟨h.mono oM,ho,hn⟩
theorem O9(l:List Node)(s:Int):∀m,(ov l s m=s*65536\/∃n∈l,n.id/65536=s/\n.id=ov l s m)/\(gH l->m<=l.length->∀i,i<m->(l.getD i default).id/65536=s->(l.getD i default).id<=ov l s m)
 |0=>⟨.inl (by simp[ov]),fun _ _ i hi=>oM⟩
 |m+1=>by
  obtain⟨a,b⟩:=O9 l s m;by_cases hm:m<l.length
  ·rw[R9 hm];split
   ·rename_i q;refine⟨.inr ⟨_,fE hm,q,rfl⟩,fun hs hl i hi hq=> ?_⟩;by_cases e:i=m
    ·subst e;exact zm _
    have:=hs i m oM hm;omega
   rename_i q;refine⟨a,fun hs hl i hi hq=> ?_⟩;by_cases e:i=m
   ·subst e;exact absurd hq q
   exact b hs oM i oM hq
  have e:ov l s (m+1)=ov l s m:=by unfold ov;rw[qk oM,qk oM]
  rw[e];exact⟨a,fun hs hl=>oM⟩
theorem HQ{s:Int}{k:Nat}{d:Doc}(hs:0<=s/\s<=1000)(h:PP U s k d.aq)(h0:ig d s=0):(∀x∈d.aq,x.id<ij d s)/\1<=ij d s/\ij d s< (s+1)*65536/\(ij d s<4+(k+1:Nat)\/65536<=ij d s):=by
 have hd:=h.doc;have hb:ov d.aq s d.aq.length%65536≠65535:=by
  intro q;rw[(O7 hd hs q).2] at h0;cases h0
 have e:ij d s=ov d.aq s d.aq.length+1:=(O8 hd hs hb).1;obtain⟨a,b⟩:=O9 d.aq s d.aq.length;have k7:=YC hd;generalize ov d.aq s d.aq.length=z at a b hb e;rw[e];have hz:s*65536<=z/\z< (s+1)*65536- 1/\(z<4+k\/65536<=z):=by
  rcases a with a| ⟨n,hn,q1,q2⟩
  ·have:s=0\/1<=s:=oM;omega
  have:=h.id n hn;omega
 refine⟨fun x hx=> ?_,oM,oM,oM⟩;obtain⟨j,hj,rfl⟩:=oF hx;have h1:=h.id _ hx;have h2:=k7 _ hx;by_cases q:(d.aq.getD j default).id/65536=s
 ·have:=b h.gp.vd.pz (qp _) j hj q;omega
 omega
end Go.Ch
end
section
namespace Go.Ch
open Go Go.Ab
variable {U:US}
structure UN(U:US):Prop extends UB U where
 ti:({data:=#[116,105,116,108,101]}:ByteArray)∈U
 bo:({data:=#[98,111,108,100]}:ByteArray)∈U
 si:({data:=#[115,105,122,101]}:ByteArray)∈U
 ma:({data:=#[109,97,114,107,46,109]}:ByteArray)∈U
 he:({data:=#[104,101,97,100]}:ByteArray)∈U
 li:({data:=#[108,105,115,116]}:ByteArray)∈U
 al:({data:=#[97,108,105,103,110]}:ByteArray)∈U
 ki:Sb∈U
def Fk(U:US)(c:List aI):Prop:=∀a∈c,a.name∈U/\a.val∉U.no
theorem Fm{e:Bool}{l:List aI}(h:VG e l)(hn:Fk U l):VU U e l:=⟨h.1,fun a ha=>⟨⟨(h.2 a ha).1,(hn a ha).1⟩,(h.2 a ha).2.imp (fun q=>⟨q,(hn a ha).2⟩) (fun q=>q)⟩⟩
theorem Pj{n:Node}(h:fF (nk n)=0):fT n=0:=by
 unfold fF at h;split at h
 ·cases h
 split at h
 ·cases h
 rwa [if_pos (show(nk n).af=0 from rfl)] at h
theorem Vc{k:Int}{c:List aI}(h:fF (j0 k c)=0):dO true c 0=0:=by
 unfold fF at h;split at h
 ·cases h
 split at h
 ·cases h
 rw[if_neg (show¬(j0 k c).af=0 from(by decide:¬(1:Int)=0))] at h;split at h
 ·cases h
 rwa [if_pos (show(j0 k c).af=1 from rfl)] at h
theorem Vb{k:Int}{c:List fN}(h:fF (j3 k c)=0):lX c 0=0:=by
 unfold fF at h;split at h
 ·cases h
 split at h
 ·cases h
 rw[if_neg (show¬(j3 k c).af=0 from(by decide:¬(4:Int)=0))] at h;split at h
 ·cases h
 rwa [if_neg (show¬(j3 k c).af=1 from(by decide:¬(4:Int)=1)),if_neg (show¬(j3 k c).af=2 from(by decide:¬(4:Int)=2)),if_neg (show¬(j3 k c).af=3 from(by decide:¬(4:Int)=3))] at h
theorem z20(hU:UB U){s:Int}{k:Nat}{d:Doc}(h:PP U s k d.aq)(hk:k<=60){S:bM}{au:ByteArray}(hz:au∉U.no)(h0:dP d S au=0):
 mq (bL d S au)/\(bL d S au).ai.aD.length<=1048576/\(∀x∈(bL d S au).ai.aD,RU U x)/\HP U (bL d S au).aR/\(0<=S.fr/\S.fr<=S.tq/\S.tq< ((bL d S au).aN.length:Int)):=by
 obtain⟨a1,a2,a3,a4,a5,a6⟩:=x7W h0;have hm:=fE (l:=d.aq) (rX.1 a2).1;obtain⟨g,z⟩:=h.gp.nd _ hm;have hl:(mS d.aq S.nd).aD.length<=1048576:=by have:=z.fl;unfold mS;omega
 rw[a6];exact⟨x9T hU g hl,hl,g.fl,⟨a5,hz⟩,a4⟩
theorem Pd{t:ByteArray}(h:wS t):∀c∈kI t,rB c/\c≠0:=by
 intro c hc;unfold kI at hc;obtain⟨i,hi,rfl⟩:=qO.1 hc;have:=h i (List.mem_range.1 hi);unfold rB;omega
theorem HT(t:ByteArray):(kI t).length=t.size:=by simp[kI]
theorem HR(p:Pl)(s:bM)(cs:List Int):(v7 p s cs).length=cs.length:=by simp[v7]
theorem KJ{r:Int}{l:List aI}(h:1<=r/\r<=1073741824)(hl:VU U false l):RU U ⟨0,r,l⟩:=by
 refine⟨?_,hl⟩;rw[D4 (x:=⟨0,r,l⟩) (fun q=>by have:=q.1 rfl;simp only at this;omega) (.inl (by simp only;omega)) (.inr h)];exact oW.2 hl.g
theorem x74(hU:UB U)(hZ:U.no=[]){s:Int}(hs:0<=s/\s<=1000){k:Nat}{d:Doc}(h:PP U s k d.aq)(hk:k<=60)(b c:Int):Ex d s b c:=by
 have hL:=h.ED hU hk;have wW:∀v:ByteArray,v∉U.no:=fun v=>by rw[hZ];simp
 have hM:=Si hL b;have hF:=ZA hL b c;have hT:=jZ (IntKind.i64.wrap (c.tdiv 11)) (lo:=jK d b c) (hi:=min (wE d b) (jK d b c+4)) oM;refine⟨fun t au ht hn h0=> ?_,fun h0=>(z20 hU h hk (wW _) h0).1,fun h0=>⟨(z20 hU h hk (wW _) h0).1,hF.1,hT.1,?_⟩,fun n h0 h1=> ?_,?_⟩
 ·obtain⟨p1,p2,p3,p4,p5⟩:=z20 hU h hk (wW _) h0;have hi:=HU p1 p3 (rF d b c).fr;exact⟨p1,oW.2 hi.g,by have:=hi.len hU.len;omega,p5,(Mu hU p1 p2 p3 p4 p5 (by rw[HR,HT];omega) (Pc p1 p3 (Pd ht))).1⟩
 ·have:=hT.2;show mD d b c<=1000000000;unfold mD;omega
 ·obtain⟨p1,p2,p3,p4,p5⟩:=z20 hU h hk (wW _) h0;obtain⟨n1,n2,n3,n4⟩:=HQ hs h h1;exact⟨p1,⟨p5.1,by have:=p5.2;have:=p1.sl;omega⟩,(Mu hU p1 p2 p3 p4 p5 (by simp[uz]) (fun x hx=>by
   rw[show x=⟨0,ij d s,lH (bL d (rF d b c) {data:=#[]}) (rF d b c).fr⟩ by simpa[uz] using hx];exact KJ oM (HU p1 p3 _))).1⟩
 have hz:∀n:Node,fT n=0\/n.draw=[]-> -1<=uT n/\uT n<=1000000000000:=fun n hn=>by
  unfold uT;split
  ·rename_i q;rcases hn with hn|hn
   ·have ho:=(Ez.1 (EC hn)).1 _ (fE (l:=n.draw) (i:=n.draw.length- 1) oM);unfold gZ at ho;split at ho
    ·cases ho
    split at ho
    ·cases ho
    omega
   rw[hn] at q;exact absurd q dM
  ·omega
 refine hz _ ?_;unfold jt;split
 ·exact .inr rfl
 by_cases q:(kN d.aq (kz d b [10,8]) 0).toNat<d.aq.length
 ·exact .inl (h.gp.vd.ai _ (fE q))
 rw[qd,zP oM];exact .inr rfl
theorem PP.next{s:Int}{k k':Nat}{l:List Node}{o:aP}(h:PP U s k l)(tu:k<=k')(hk:o.af≠0)(h0:cV l o=0)(hg:GP U (10+4*k') (cn l o)):PP U s k' (cn l o):=by
 obtain⟨a,b⟩:=Jw hk h0;refine⟨hg,by have:=h.len;omega,fun x hx=> ?_⟩;obtain⟨n,hn,e⟩:=b x hx;have:=h.id n hn;omega
def CR(U:US)(s:Int)(k:Nat)(l:List Node)(c:List aP):Prop:=(∀o∈c,pq o)/\((∀o∈c,fF o=0)->tQ (PP U s (k+3)) l c)
theorem CR.nil{s:Int}{k:Nat}{l:List Node}(h:PP U s k l):CR U s k l []:=⟨(fun o ho=>by cases ho),fun _=>h.mono oM⟩
theorem CR.one(hU:UB U){s:Int}{k:Nat}{l:List Node}{o:aP}(h:PP U s k l)(hk:k<=57)(ho:pq o)(h0:o.af≠0)(hn:fF o=0->cV l o=0->GP U (10+4*(k+3)) (cn l o)):CR U s k l [o]:=by
 refine⟨fun x hx=>by rw[qv] at hx;subst hx;exact ho,fun he=> ?_⟩;have he:=he o sM;exact w2X hU h hk (SB hU h oM he ho (fun q=>absurd q h0)) (fun q=>h.next oM h0 q (hn he q))
theorem CR.two(hU:UB U){s:Int}{k:Nat}{l:List Node}{n:Node}{o:aP}(h:PP U s k l)(hk:k<=57)(hg:NG U n)(hz:NZ 10 n)(bn:(∀x∈l,x.id<n.id)/\n.id< (s+1)*65536/\(n.id<4+(k+1:Nat)\/65536<=n.id))
 (ho:pq o) (h0:o.af≠0) (hn:∀l',PP U s (k+1) l'->fF o=0->cV l' o=0->GP U (10+4*(k+3)) (cn l' o)):CR U s k l [nk n,o]:=by
 refine⟨fun x hx=> ?_,fun he=> ?_⟩
 ·simp only[qg,qX,or_false] at hx;rcases hx with rfl|rfl
  ·exact Pp hU hg hz dM
  exact ho
 have e1:=he (nk n) sM;have e2:=he o sM;refine⟨h.mono oM,SB hU h oM e1 (Pp hU hg hz dM) (fun _=>bn.1),fun q=> ?_⟩;obtain⟨k1,k2⟩:=w1X h.gp hg (hz.mono oM) (Pj e1) bn.1 q;rw[k1];have hp:PP U s (k+1) (l++[n]):=⟨k2.mono oM,by have:=h.len;rw[qf,List.length_singleton];omega,fun x hx=>by
  rcases qn.1 hx with z|z
  ·have:=h.id x z;omega
  rw[qv] at z;subst z;exact bn.2⟩
 exact⟨hp.mono oM,SB hU hp oM e2 ho (fun z=>absurd z h0),fun q2=>hp.next oM h0 q2 (hn _ hp e2 q2)⟩
theorem SC(hU:UB U){s:Int}{k:Nat}{d:Doc}(h:PP U s k d.aq)(hk:k<=57){S:bM}{t au:ByteArray}(hz:au≠wR)(ht:wS t)(hl:t.size<=12):CR U s k d.aq (nT d S (kI t) au):=by
 unfold nT;split
 ·exact .nil h
 rename_i q;have h0:dP d S au=0:=qc q;obtain⟨p1,p2,p3,p4,p5⟩:=z20 hU h oM (hU.no hz) h0;obtain⟨_,⟨us,hd⟩,e1,e2⟩:=Mu hU p1 p2 p3 p4 p5 (es:=v7 (bL d S au) S (kI t)) (by rw[HR,HT];omega) (Pc p1 p3 (Pd ht));rw[HR,HT] at e2;exact .one hU h hk (KQ hU hd) (show(2:Int)≠0 by decide) (fun _ z=>(MP h.gp hd (q:=12) oM z).mono oM)
theorem Pe(hU:UB U){c:List aI}{f:List Bool}{n:Nat}(hc:VU U true c)(hn:n<=100000000):jY U (uS c f n) ((List.range n).map (p8 c f))/\eU (uS c f n)=eu (uS c f n)/\bK ((List.range n).map (p8 c f))=n:=by
 have gh:∀u∈(List.range n).map (p8 c f),UU U u:=fun u hu=>by
  obtain⟨i,_,rfl⟩:=qO.1 hu;unfold p8;split
  ·exact hc
  exact VU.nil
 have SD:∀m,bK ((List.range m).map (p8 c f))=m/\cG ((List.range m).map (p8 c f))=m:=fun m=>by
  induction m with
  |zero=>exact⟨rfl,rfl⟩
  |succ m ih=>
   rw[ja,zo,oe,xd,ih.1,ih.2,qU,zF];have:bK [p8 c f m]=1/\cG [p8 c f m]=1:=by unfold p8;split<;>simp[bK,cG]
   omega
 have hq:=SD n;have e:uS c f n=tM ((List.range n).map (p8 c f)):=(Y9 (fun u hu=>(UU.s hU.len (gh u hu)).ok) (by simp;omega)).1;have hd:jY U (uS c f n) ((List.range n).map (p8 c f)):=by rw[e];exact .done hU.len gh oM oM
 have hl:=hd.lens;exact⟨hd,oM,hq.1⟩
theorem x75(hU:UB U){c:List aI}{f:List Bool}{n:Nat}(hc:VU U true c)(hn:n<=100000000):∃us,jY U (uS c f n) us/\eU (uS c f n)=eu (uS c f n):=
 ⟨_,(Pe hU hc hn).1,(Pe hU hc hn).2.1⟩
theorem x90(hU:UB U){s:Int}{k:Nat}{d:Doc}(h:PP U s k d.aq)(hk:k<=57){S:bM}{c:List aI}(hn:Fk U c)(w:Int->Bool)(h0:nj d S c=0):CR U s k d.aq (yX (bL d S {data:=#[]}) c w):=by
 have h1:dP d S {data:=#[]}=0:=by
  apply qc;intro q;rw[KI q] at h0;exact q h0
 have h2:dO true c 0=0:=by rw[Fl h1] at h0;exact h0
 obtain⟨p1,p2,p3,p4,p5⟩:=z20 hU h oM (hU.no dM) h1;obtain⟨us,hd,e⟩:=x75 hU (f:=oz w (bL d S {data:=#[]}).aN (bL d S {data:=#[]}).ai.aD.length (bL d S {data:=#[]}).aN.length) (n:=(bL d S {data:=#[]}).ai.aD.length) (Fm (oW.1 h2) hn) oM;exact .one hU h hk (KQ hU hd) (show(2:Int)≠0 by decide) (fun _ z=>(MP h.gp hd (q:=0) oM z).mono oM)
theorem SE(hU:UB U){s:Int}(hs:0<=s/\s<=1000){k:Nat}{d:Doc}(h:PP U s k d.aq)(hk:k<=57){S:bM}{n:Node}{au:ByteArray}(Pg:au≠wR)(hg:NG U n)(hz:NZ 10 n):CR U s k d.aq (jE d S n s au):=by
 unfold jE;split
 ·exact .nil h
 rename_i q;have h0:jO d S n s au=0:=qc q;have h1:dP d S au=0:=by
  apply qc;intro z;rw[(Ph z).2.2] at h0;exact z h0
 have h2:ig d s=0:=by
  unfold jO at h0;rw[if_neg (fun z=>z h1)] at h0;split at h0
  ·cases h0
  split at h0
  ·rename_i z;exact absurd h0 z
  rename_i z;exact qc z
 obtain⟨p1,p2,p3,p4,p5⟩:=z20 hU h oM (hU.no Pg) h1;obtain⟨n1,n2,n3,n4⟩:=HQ hs h h2;obtain⟨_,⟨us,hd⟩,e1,e2⟩:=Mu hU p1 p2 p3 p4 p5 (es:=uz d S s au) (by simp[uz]) (fun x hx=>by
  rw[show x=⟨0,ij d s,lH (bL d S au) S.fr⟩ by simpa[uz] using hx];exact KJ oM (HU p1 p3 _))
 have e3:(uz d S s au).length=1:=rfl;exact .two hU h hk ⟨hg.uA,hg.fl,hg.mg,hg.ce,hg.dr,hg.kd⟩ ⟨hz.fl,hz.ce,hz.dr,hz.ro,hz.co⟩ ⟨n1,n3,n4⟩ (KQ hU hd) (show(2:Int)≠0 by decide) (fun l' hp _ z=>(MP hp.gp hd (q:=1) oM z).mono oM)
theorem KM(m a n:Int):(oJ m a n).length<=4:=by
 unfold oJ;split
 ·simp
 split
 ·simp
 unfold Gb;have w1:=Ev 0 a;have w2:=Ev 1 n;have w3:=Ev 2 (0-n);have w4:=Ev 0 ((m-a)- max 0 (0-n));simp only[qf,zg];omega
theorem yY{n:Node}(h1:n.aD.length<=10)(h2:n.az.cells.length<=10)(h3:n.draw.length<=10)(h4:n.az.ak<=10/\n.az.aj<=10:=by exact⟨(by decide:(0:Int)<=10),(by decide:(0:Int)<=10)⟩):NZ 10 n:=⟨h1,h2,h3,h4.1,h4.2⟩
theorem U8(b a:Int):NZ 10 (sW (bN b 1 3) (bN a 1 3)):=yY (by simp[sW]) (by simp[sW]) (by simp[sW]) ⟨by have:=(jZ b (lo:=1) (hi:=3) dM).2;show bN b 1 3<=10;omega,by have:=(jZ a (lo:=1) (hi:=3) dM).2;show bN a 1 3<=10;omega⟩
theorem KN{m a n:Int}(h:n<=2):rJ (oJ m a n):=by
 have z:∀(k n:Int),z59 (ex (gM k n))=if k=1 then n.toNat else 0:=fun k n=>by
  unfold gM;split
  ·rw[show ex [({af:=k,n:=n}:aA)]=rep n.toNat (j5 k) by simp[ex],y73]
  rename_i q;rw[show n.toNat=0 by omega];split<;>rfl
 refine⟨?_⟩;unfold oJ;split
 ·exact qG _
 split
 ·exact qG _
 unfold Gb;rw[x7,x7,x7,x7,MK,MK,MK,MK,z,z,z,z,if_neg dM,if_pos rfl,if_neg dM,if_neg dM];show 0+0+n.toNat+0+0<=2;omega
theorem KO(i:Nat):([1,2,-1]:List Int).getD i default<=2:=Jl (P:=fun t:Int=>t<=2) (fun t ht=>by
 simp only[qg,qX,or_false] at ht;omega) dM i
theorem Pm{r c:List aA}(hr:r.length<=4)(hc:c.length<=4)(ar:rJ r)(ac:rJ c):p9 ⟨r,c,[],[],[]⟩:=⟨ar,ac,rfl,rfl,qG _,fun c h=>(by cases h),by show r.length<=_;omega,by show c.length<=_;omega⟩
theorem U5(c:Cell)(h:c.ah=[]/\c.text.size=0):p9 ⟨[],[],[c],[],[]⟩:=⟨rJ.nil,rJ.nil,rfl,rfl,qp _,fun x hx=>by rw[show x=c by simpa using hx];exact h,qG _,qG _⟩
theorem x2s(hU:UB U){s:Int}{k:Nat}{l:List Node}(h:PP U s k l)(hk:k<=57)(i:Int){r c:List aA}(hr:r.length<=4)(hc:c.length<=4)(ar:rJ r)(ac:rJ c):CR U s k l [gY i ⟨r,c,[],[],[]⟩]:=by
 have hl:=Pm hr hc ar ac;exact .one hU h hk (Pq hl) (show(3:Int)≠0 by decide) (fun _ z=>(SA h.gp hl oM z).mono oM)
theorem x76(hU:UB U){s:Int}(hs:0<=s/\s<=1000){k:Nat}{d:Doc}(h:PP U s k d.aq)(hk:k<=57)(i r c:Int):CR U s k d.aq (nU d i r c s):=by
 unfold nU;split
 ·exact .nil h
 rename_i q;have h0:lI d i r c s=0:=qc fun z=>q (.inl z)
 have hi:¬0<=AQ d i r c:=fun z=>q (.inr z)
 have h2:ig d s=0:=by
  unfold lI at h0;split at h0
  ·rename_i z;exact absurd h0 z
  split at h0
  ·cases h0
  split at h0
  ·cases h0
  first|exact h0|rwa [if_neg hi] at h0
 obtain⟨n1,n2,n3,n4⟩:=HQ hs h h2;have hl:=U5 ⟨r,c,{data:=#[]},ij d s,[]⟩ ⟨rfl,rfl⟩;exact .two hU h hk ⟨VU.nil,fun x hx=>by rw[show x=⟨10,0,[]⟩ by simpa[xR] using hx];exact KK,rfl,(fun x hx=>by cases hx),(fun x hx=>by cases hx),by simp[xR]⟩ (yY (by simp[xR]) (by simp[xR]) (by simp[xR])) ⟨n1,n3,n4⟩ (Pq hl) (show(3:Int)≠0 by decide) (fun l' hp _ z=>(SA hp.gp hl oM z).mono oM)
theorem uV{Q:List aP->Prop}{p:Prop}[Decidable p]{x y:List aP}(hx:p->Q x)(hy:¬p->Q y):Q (if p then x else y):=by
 split
 ·rename_i h;exact hx h
 rename_i h;exact hy h
theorem U6(k:Nat):(As.getD k default).size<=12:=by
 refine Jl (P:=fun t:ByteArray=>t.size<=12) (fun t ht=> ?_) dM k;simp only[As,qg,qX,or_false] at ht;rcases ht with rfl|rfl|rfl|rfl|rfl<;>decide
theorem KP{a b c:ByteArray}(ha:a∈U)(hb:b∈U)(hc:c∈U){i:Int}(hi:0<=i/\i<=2):[a,b,c].getD i.toNat default∈U:=by
 obtain⟨j,hj⟩:∃j,i.toNat=j:=⟨_,rfl⟩
 have:j=0\/j=1\/j=2:=oM;rw[hj];rcases this with rfl|rfl|rfl
 ·exact ha
 ·exact hb
 exact hc
theorem z33(hU:UB U){a:aI}(h:a.name∈U)(hv:a.val≠wR):Fk U [a]:=fun x hx=>by rw[qv] at hx;subst hx;exact⟨h,hU.no hv⟩
theorem Fo{a b c:ByteArray}(ha:a≠wR)(hb:b≠wR)(hc:c≠wR){i:Int}(hi:0<=i/\i<=2):[a,b,c].getD i.toNat default≠wR:=by
 obtain⟨j,hj⟩:∃j,i.toNat=j:=⟨_,rfl⟩
 have:j=0\/j=1\/j=2:=oM;rw[hj];rcases this with rfl|rfl|rfl
 ·exact ha
 ·exact hb
 exact hc
theorem U7(r c:Int):NG U (sW r c):=⟨VU.nil,(fun x h=>by cases h),rfl,(fun x h=>by cases h),(fun x h=>by cases h),(by decide:(2:Int)≠6)⟩
theorem Va(hN:UN U):NG U (rj Ms):=
 ⟨Fm (oW.1 Zy) (z33 hN.toUB hN.ki dM),(fun x h=>by cases h),rfl,(fun x h=>by cases h),(fun x h=>by cases h),(by decide:(5:Int)≠6)⟩
theorem U9(hN:UN U)(e:Bool):NG U (nV e):=by
 refine⟨Fm ?_ (z33 hN.toUB hN.ki (by cases e<;>decide)),fun x hx=> ?_,rfl,(fun x h=>by cases h),(fun x h=>by cases h),(by decide:(4:Int)≠6)⟩
 ·cases e<;>exact oW.1 (by decide+kernel)
 rw[show x=⟨10,0,[]⟩ by simpa[nV] using hx];exact KK
theorem SF(hN:UN U){s:Int}(hs:0<=s/\s<=1000){k:Nat}{d:Doc}(h:PP U s k d.aq)(hk:k<=57)(a b c:Int):CR U s k d.aq (dR d s a b c):=by
 have hU:=hN.toUB;have hmt:([]:List aP)=[]:=rfl;have fmt:∀(S:bM) (cs:List aI) (w:Int->Bool),Fk U cs->CR U s k d.aq (if nj d S cs≠0 then[] else yX (bL d S {data:=#[]}) cs w):=fun S cs w hc=>
  uV (fun _=> .nil h) (fun q=>x90 hU h hk hc w (qc q))
 unfold dR;refine uV (fun _=>SC hU h hk dM (HV _) (U6 _)) (fun _=>uV (fun _=>SC hU h hk dM KL dM) (fun _=>uV (fun _=>SC hU h hk dM Pk dM) (fun _=>
  uV (fun _=>fmt _ _ _ (z33 hU ?_ ?_)) (fun _=>uV (fun _=>fmt _ _ _ (z33 hU ?_ ?_)) (fun _=>
  uV (fun _=>SE hU hs h hk dM (U7 _ _) (U8 _ _)) (fun _=>uV (fun _=>SE hU hs h hk dM (U9 hN _) (yY (by simp[nV]) (by simp[nV]) (by simp[nV]))) (fun _=>uV (fun _=>SE hU hs h hk dM (Va hN) (yY (by simp[rj]) (by simp[rj]) (by simp[rj]))) (fun _=>
  uV (fun _=>uV (fun _=> .nil h) (fun _=>x2s hU h hk _ (KM _ _ _) sM (KN (KO _)) .nil)) (fun _=>uV (fun _=>uV (fun _=> .nil h) (fun _=>x2s hU h hk _ sM (KM _ _ _) .nil (KN (KO _)))) (fun _=>
  uV (fun _=>x76 hU hs h hk _ _ _) (fun _=>uV (fun _=> ?_) (fun _=> ?_))))))))))))
 ·exact KP hN.bo hN.si hN.ma (jZ _ dM)
 ·exact Fo dM dM dM (jZ _ dM)
 ·exact KP hN.he hN.li hN.al (jZ _ dM)
 ·exact Fo dM dM dM (jZ _ dM)
 ·refine .one hU h hk (Vf sM) (show(4:Int)≠0 by decide) (fun e z=>(x56 h.gp (fun o ho=> ?_) (Vb e) z).mono (by simp;omega));rw[qv] at ho;subst ho;exact⟨(by decide:({data:=#[98]}:ByteArray).size<=100),(by decide:r8.size<=100),(by decide:r8.size<=100)⟩
 exact .one hU h hk (Ve sM) (show(1:Int)≠0 by decide) (fun e z=>(x9X h.gp (Fm (oW.1 (Vc e)) (z33 hN.toUB hN.ti (Fo dM dM dM (jZ _ dM)))) z).mono oM)
end Go.Ch
end
section
namespace Go.Ch
open Go Go.Ab
variable {U:US}
def iE(l:List Node)(k:Int):Option Node:=if eM l k=true then some (mS l k) else none
theorem SG{l:List Node}(hs:gH l):l.Pairwise (fun a b=>a.id<b.id):=zI.2 fun i j hi hj jr=>by
 have:=hs i j jr hj;rwa [show l.getD i default=l[i] by simp[List.getD,qa hi],show l.getD j default=l[j] by simp[List.getD,qa hj]] at this
theorem x77{l:List Node}(h:l.Pairwise (fun a b=>a.id<b.id)):gH l:=fun i j jr hj=>by
 have:=zI.1 h i j oM hj jr;rwa [show l.getD i default=l[i] by simp[List.getD,qa (show i<l.length by omega)],show l.getD j default=l[j] by simp[List.getD,qa hj]]
theorem s9{l:List Node}(hs:gH l){k:Int}{n:Node}:iE l k=some n↔n∈l/\n.id=k:=by
 unfold iE;constructor
 ·intro h;split at h
  ·rename_i hh;obtain⟨a,b⟩:=rX.1 hh;injection h with h;subst h;exact⟨fE a,b⟩
  cases h
 rintro⟨hn,rfl⟩;obtain⟨j,hj,rfl⟩:=oF hn;have s:=xN l (l.getD j default).id;have e:bt l (l.getD j default).id=j:=by
  rcases Nat.lt_trichotomy (bt l (l.getD j default).id) j with q|q|q
  ·have h1:=s.2.2 oM;have h2:=hs _ j q hj;exact absurd h2 h1
  ·exact q
  have:=s.2.1 j q;omega
 have hh:eM l (l.getD j default).id=true:=rX.2 ⟨by rw[e];exact hj,by rw[e]⟩;rw[if_pos hh];unfold mS;rw[e]
theorem w1Y{l:List Node}{k:Int}{n:Node}(h:iE l k=some n):eM l k=true/\mS l k=n:=by
 unfold iE at h;split at h
 ·rename_i q;exact⟨q,by injection h⟩
 cases h
theorem x91{l:List Node}{k:Int}(h:eM l k=true):iE l k=some (mS l k):=by unfold iE;rw[if_pos h]
theorem SH{l:List Node}{k:Int}:iE l k=none↔eM l k=false:=by
 unfold iE;cases eM l k<;>simp
theorem x6d:∀{l l':List Node},l.Pairwise (fun a b=>a.id<b.id)->l'.Pairwise (fun a b=>a.id<b.id)->(∀n,n∈l↔n∈l')->l=l'
 | [],[],_,_,_=>rfl
 | [],y::l',_,_,h=>absurd ((h y).2 sM) sM
 |x::l,[],_,_,h=>absurd ((h x).1 sM) sM
 |x::l,y::l',hl,xz,h=>by
  obtain⟨a1,a2⟩:=qV.1 hl;obtain⟨b1,b2⟩:=qV.1 xz;have e:x=y:=by
   rcases qg.1 ((h x).1 sM) with q|q
   ·exact q
   rcases qg.1 ((h y).2 sM) with z|z
   ·exact z.symm
   have h1:=b1 x q;have h2:=a1 y z;omega
  subst e;congr 1;refine x6d a2 b2 fun n=>⟨fun hn=> ?_,fun hn=> ?_⟩
  ·rcases qg.1 ((h n).1 (by simp[hn])) with q|q
   ·subst q;have:=a1 n hn;omega
   exact q
  rcases qg.1 ((h n).2 (by simp[hn])) with q|q
  ·subst q;have:=b1 n hn;omega
  exact q
theorem MS{l l':List Node}(hs:gH l)(b9:gH l')(h:∀k,iE l k=iE l' k):l=l':=
 x6d (SG hs) (SG b9) fun n=>⟨fun hn=>((s9 b9).1 ((h n.id)▸(s9 hs).2 ⟨hn,rfl⟩)).1,fun hn=>((s9 hs).1 ((h n.id).symm▸(s9 b9).2 ⟨hn,rfl⟩)).1⟩
theorem y8c{l:List Node}{i:Nat}{x n:Node}(hs:gH l)(hi:i<l.length)(hx:x.id=(l.getD i default).id):n∈l.set i x↔n=x\/(n∈l/\n.id≠x.id):=by
 constructor
 ·intro h;obtain⟨j,hj,e⟩:=jc h;rw[List.getElem_set] at e;split at e
  ·exact .inl e.symm
  rename_i q;rw[zt] at hj;refine .inr ⟨e▸zB hj,fun z=>q ?_⟩;rw[<-e,hx] at z;refine ZM hs hi hj ?_;rw[<-z];simp[List.getD,qa hj]
 rintro(rfl| ⟨h,q⟩)
 ·exact q9.2 ⟨i,by simpa using hi,sM⟩
 obtain⟨j,hj,rfl⟩:=oF h;rcases ZP (x:=x) hi (fE hj) with z|z
 ·exact z
 rw[z] at q;exact absurd hx.symm q
theorem y8d{l:List Node}{i:Nat}{x:Node}(hs:gH l)(hi:i<l.length)(hx:x.id=(l.getD i default).id):gH (l.set i x):=by
 have k7:∀j,((l.set i x).getD j default).id=(l.getD j default).id:=fun j=>by
  rw[Sn hi];split
  ·rename_i e;subst e;exact hx
  rfl
 intro p q uE hq;rw[k7,k7];exact hs p q uE (by simpa using hq)
theorem SI(n:Node)(o:aP):(iP n o).id=n.id/\(iP n o).af=n.af:=by
 unfold iP;repeat' split
 all_goals exact⟨rfl,rfl⟩
theorem vH{l:List Node}(hs:gH l){o:aP}(hk:o.af≠0)(h0:cV l o=0):gH (cn l o)/\∀k,iE (cn l o) k=if k=o.ai then(iE l k).map (fun n=>iP n o) else iE l k:=by
 obtain⟨h1,h2,h3⟩:=EB hk h0;obtain⟨_,bn⟩:=rX.1 h1;rw[h3];have hx:(iP (l.getD (bt l o.ai) default) o).id=(l.getD (bt l o.ai) default).id:=(SI _ _).1;refine⟨y8d hs h2 hx,fun k=> ?_⟩;have cK:=y8d hs h2 hx;have hn:iE l o.ai=some (l.getD (bt l o.ai) default):=x91 h1;by_cases e:k=o.ai
 ·subst e;rw[if_pos rfl,hn];exact(s9 cK).2 ⟨(y8c hs h2 hx).2 (.inl rfl),hx.trans bn⟩
 rw[if_neg e];refine Option.ext fun n=> ?_
 rw[s9 cK,s9 hs,y8c hs h2 hx];constructor
 ·rintro⟨rfl| ⟨q,_⟩,z⟩
  ·exact absurd (z.symm.trans (hx.trans bn)) e
  exact⟨q,z⟩
 rintro⟨q,z⟩;exact⟨.inr ⟨q,fun w=>e (z.symm.trans (w.trans (hx.trans bn)))⟩,z⟩
theorem Gp{l:List Node}{n x:Node}:x∈tK l n↔x=n\/x∈l:=by
 unfold tK;rw[qn,qg];constructor
 ·rintro(h|h|h)
  ·exact .inr (qF h)
  ·exact .inl h
  exact .inr (qE h)
 rintro(h|h)
 ·exact .inr (.inl h)
 rw[<-List.take_append_drop (bt l n.id) l,qn] at h;exact h.elim .inl (fun q=> .inr (.inr q))
theorem SJ{l:List Node}{n:Node}(hs:gH l)(h:eM l n.id=false):gH (tK l n):=by
 obtain⟨s1,s2,s3⟩:=xN l n.id;have hp:=SG hs;refine x77 (List.pairwise_append.2 ⟨hp.sublist (List.take_sublist _ _),qV.2 ⟨fun x hx=> ?_,hp.sublist (List.drop_sublist _ _)⟩,fun x hx y hy=> ?_⟩)
 ·obtain⟨j,hj,rfl⟩:=jc hx;rw[qT] at hj;rw[List.getElem_drop];have e:l[bt l n.id+j]=l.getD (bt l n.id+j) default:=by simp[List.getD,qa (show bt l n.id+j<l.length by omega)]
  rw[e];have h3:=s3 oM;have dh:(l.getD (bt l n.id) default).id≠n.id:=fun q=>by
   have:eM l n.id=true:=rX.2 ⟨oM,q⟩;rw[h] at this;cases this
  by_cases z:j=0
  ·subst z;show n.id< (l.getD (bt l n.id) default).id;omega
  have:=hs (bt l n.id) (bt l n.id+j) oM oM;omega
 obtain⟨i,hi,rfl⟩:=jc hx;rw[qz] at hi;rw[List.getElem_take];have ei:l[i]=l.getD i default:=by simp[List.getD,qa (show i<l.length by omega)]
 have fQ:=s2 i oM;rcases qg.1 hy with rfl|hy
 ·rw[ei];exact fQ
 obtain⟨j,hj,rfl⟩:=jc hy;rw[qT] at hj;rw[List.getElem_drop];exact zI.1 hp _ _ _ _ oM
theorem x92{l:List Node}{n:Node}(hs:gH l)(h:eM l n.id=false)(k:Int):iE (tK l n) k=if k=n.id then some n else iE l k:=by
 have cK:=SJ hs h;by_cases e:k=n.id
 ·rw[if_pos e];exact(s9 cK).2 ⟨Gp.2 (.inl rfl),e.symm⟩
 rw[if_neg e];refine Option.ext fun x=> ?_
 rw[s9 cK,s9 hs,Gp];constructor
 ·rintro⟨rfl|q,z⟩
  ·exact absurd z.symm e
  exact⟨q,z⟩
 rintro⟨q,z⟩;exact⟨.inr q,z⟩
theorem yD{l:List Node}(hs:gH l){o:aP}(hk:o.af=0)(h0:cV l o=0):eM l o.nw.id=false/\cn l o=tK l o.nw/\gH (cn l o)/\∀k,iE (cn l o) k=if k=o.nw.id then some o.nw else iE l k:=by
 have ha:pe l o.nw=0:=(Fi hk).2.symm.trans h0;have hn:eM l o.nw.id=false:=by
  cases q:eM l o.nw.id with
  |false=>rfl
  |true=>rw[(Ku (l:=l) (n:=o.nw) q).2] at ha;cases ha
 have e:cn l o=tK l o.nw:=by
  rw[(Fi hk).1];unfold oQ;rw[ha,if_neg (fun q=>q rfl)]
 rw[e];exact⟨hn,rfl,SJ hs hn,x92 hs hn⟩
def BL(M:Int->Option Node)(k:Int)(r:Int):Prop:=∃m,M r=some m/\gz k m.af=true
theorem Jx{l:List Node}(hs:gH l){k:Int}{rs:List Int}:gI l k rs 0=0↔∀r∈rs,BL (iE l) k r:=by
 rw[Gf hs];refine forall_congr' fun r=>forall_congr' fun _=>⟨?_,?_⟩
 ·rintro⟨m,hm,h1,h2⟩;exact⟨m,(s9 hs).2 ⟨hm,h1⟩,h2⟩
 rintro⟨m,hm,h2⟩;obtain⟨a,b⟩:=(s9 hs).1 hm;exact⟨m,a,b,h2⟩
def Jy(M:Int->Option Node)(k:Int)(x:aL):Prop:=(eX k=false->x.bh≠0)/\(x.bh≠0->BL M k x.bh)
theorem x2v{l:List Node}(hs:gH l){k:Int}{x:aL}:tC l k x=0↔Jy (iE l) k x:=by
 constructor
 ·intro h;obtain⟨a,b⟩:=Ss hs h;refine⟨a,fun q=> ?_⟩;obtain⟨m,hm,h1,h2⟩:=b q;exact⟨m,(s9 hs).2 ⟨hm,h1⟩,h2⟩
 rintro⟨a,b⟩;unfold tC;rw[if_neg (fun q=>a q.2 q.1)];refine(Jx hs).2 fun r hr=> ?_
 obtain⟨y,hy,rfl,h0⟩:=Sz.1 hr;rw[qv] at hy;subst hy;exact b h0
structure jl(M:Int->Option Node)(n:Node)(s:List aB):Prop where
 kd:eX n.af=true\/nh n.af=true
 old:eu s=(n.aD.length:Int)
 ends:eX n.af=true->u7 s=true
 new:∀t∈s,∀x∈t.elems,Jy M n.af x
theorem y8e{l:List Node}(hs:gH l){n:Node}{s:List aB}:k9 l n s=0↔jl (iE l) n s:=by
 constructor
 ·intro h;obtain⟨a,b,c,d⟩:=ZZ h;exact⟨a,b,c,fun t ht x hx=>(x2v hs).1 (d t ht x hx)⟩
 rintro⟨a,b,c,d⟩;unfold k9;rw[if_neg (L6 a),if_neg (fun q=>q b),if_neg (fun q=>by rw[c q.1] at q;cases q.2)];exact z78 fun t ht=>z78 fun x hx=>(x2v hs).2 (d t ht x hx)
structure gD(M:Int->Option Node)(n:Node)(g:bP):Prop where
 hg:jX n.af=true
 ck:z28 n.af g.cells 0=0
 ft:gX n.az g=0
 nw:∀c∈g.cells,c.bh≠0->BL M n.af c.bh
theorem y8f{l:List Node}(hs:gH l){n:Node}{g:bP}:lW l n g=0↔gD (iE l) n g:=by
 constructor
 ·intro h;obtain⟨a,b,c,d⟩:=y0r h;refine⟨a,b,c,fun x hx h0=> ?_⟩;have:=d x hx;rw[Fg h0] at this;exact(Jx hs).1 this x.bh sM
 rintro⟨a,b,c,d⟩;rw[Uy a b c];refine z78 fun x hx=> ?_
 by_cases h0:x.bh=0
 ·exact OQ h0
 rw[Fg h0];refine(Jx hs).2 fun r hr=> ?_
 rw[qv] at hr;subst hr;exact d x hx h0
def z35(M:Int->Option Node)(n:Node)(o:aP):Prop:=
 (o.af=2->jl M n o.aQ)/\(o.af=4->rY n.af=true/\(dN n.draw o.draw).isSome=true)/\(o.af=3->gD M n o.az)
theorem EE{l:List Node}(hs:gH l){o:aP}(hk:o.af=0):cV l o=0↔iE l o.nw.id=none/\∀r∈lG o.nw,BL (iE l) o.nw.af r:=by
 rw[(Fi hk).2];constructor
 ·intro h;cases q:eM l o.nw.id with
  |false=>exact⟨SH.2 q,(Jx hs).1 ((F0 q).symm.trans h)⟩
  |true=>rw[(Ku (l:=l) (n:=o.nw) q).2] at h;cases h
 rintro⟨a,b⟩;rw[F0 (SH.1 a)];exact(Jx hs).2 b
theorem tT{l:List Node}(hs:gH l){o:aP}(hk:o.af=1\/o.af=2\/o.af=4\/o.af=3):cV l o=0↔∃n,iE l o.ai=some n/\z35 (iE l) n o:=by
 constructor
 ·intro h;obtain⟨h1,h2,h3⟩:=EB oM h;refine⟨_,x91 h1,fun q=> ?_,fun q=> ?_,fun q=>(y8f hs).1 ((KA h1 q).2.symm.trans h)⟩
  ·exact(y8e hs).1 ((Kz h1 q).2.symm.trans h)
  have e:=(Jb h1 q).symm.trans h;unfold CQ at e;split at e
  ·cases e
  rename_i z;split at e
  ·rename_i w;exact⟨(Bool.not_eq_false _).mp z,w⟩
  cases e
 rintro⟨n,hn,h2,h4,h3⟩;obtain⟨hh,nN⟩:=w1Y hn;have hd:l.getD (bt l o.ai) default=n:=nN;rcases hk with k|k|k|k
 ·exact(UD hh k).2
 ·rw[(Kz hh k).2,hd];exact(y8e hs).2 (h2 k)
 ·rw[Jb hh k,hd];obtain⟨a,b⟩:=h4 k;unfold CQ;rw[if_neg (by rw[a];decide),if_pos b]
 rw[(KA hh k).2,hd];exact(y8f hs).2 (h3 k)
def Kd(M M':Int->Option Node):Prop:=∀k m,M k=some m->∃m',M' k=some m'/\m'.af=m.af
theorem BL.kd{M M':Int->Option Node}(h:Kd M M'){k r:Int}(q:BL M k r):BL M' k r:=by
 obtain⟨m,hm,h2⟩:=q;obtain⟨m',a,b⟩:=h r m hm;exact⟨m',a,by rw[b];exact h2⟩
theorem Jy.kd{M M':Int->Option Node}(h:Kd M M'){k:Int}{x:aL}(q:Jy M k x):Jy M' k x:=⟨q.1,fun z=>(q.2 z).kd h⟩
theorem gD.kd{M M':Int->Option Node}(h:Kd M M'){n:Node}{g:bP}(q:gD M n g):gD M' n g:=⟨q.hg,q.ck,q.ft,fun c hc h0=>(q.nw c hc h0).kd h⟩
theorem gD.same{M M':Int->Option Node}(h:Kd M M'){n n':Node}{g:bP}(q:gD M n g)(hk:n'.af=n.af)(hf:n'.az=n.az):gD M' n' g:=
 ⟨by rw[hk];exact q.hg,by rw[hk];exact q.ck,by rw[hf];exact q.ft,fun c hc h0=>by rw[hk];exact(q.nw c hc h0).kd h⟩
theorem xq{l:List Node}(hs:gH l){o:aP}(h0:cV l o=0):Kd (iE l) (iE (cn l o)):=by
 intro k m hm;by_cases hk:o.af=0
 ·obtain⟨a,_,_,b⟩:=yD hs hk h0;rw[b k];by_cases e:k=o.nw.id
  ·subst e;rw[SH.2 a] at hm;cases hm
  rw[if_neg e];exact⟨m,hm,rfl⟩
 obtain⟨_,b⟩:=vH hs hk h0;rw[b k];by_cases e:k=o.ai
 ·rw[if_pos e,hm];exact⟨iP m o,rfl,(SI m o).2⟩
 rw[if_neg e];exact⟨m,hm,rfl⟩
end Go.Ch
end
section
namespace Go.Ch
open Go Go.Ab
def UC:List ByteArray:=[vD,oI,{data:=#[116,105,116,108,101]},{data:=#[98,111,108,100]},{data:=#[115,105,122,101]},{data:=#[109,97,114,107,46,109]},{data:=#[104,101,97,100]},{data:=#[108,105,115,116]},{data:=#[97,108,105,103,110]},Sb]
theorem Vj(V:List ByteArray)(hV:V.length<=90)(Z:List ByteArray)(hZ:∀v∈Z,v=wR):UN ⟨UC++V,Z⟩:=by
 have h:∀x∈UC,x∈(⟨UC++V,Z⟩:US):=fun x hx=>List.mem_append_left _ hx
 exact⟨⟨by show(UC++V).length<=100;rw[qf];have:UC.length=10:=rfl;omega,hZ,h _ (by simp[UC]),h _ (by simp[UC])⟩,h _ (by simp[UC]),h _ (by simp[UC]),h _ (by simp[UC]),h _ (by simp[UC]),h _ (by simp[UC]),h _ (by simp[UC]),h _ (by simp[UC]),h _ (by simp[UC])⟩
theorem Po{d:Doc}{c:List aP}(h:gV d c=0):ez d=0/\jC c 0=0/\iz d.aq c=0/\jB d c=⟨gK d.aq c⟩:=by
 have h1:ez d=0:=by
  apply qc;intro q;rw[(UH q).2] at h;exact q h
 have h2:jC c 0=0:=by
  apply qc;intro q;rw[(UI h1 q).2] at h;exact q h
 have h3:iz d.aq c=0:=(RG h1 h2).symm.trans h;exact⟨h1,h2,h3,(OY h1 h2 h3 rfl).1⟩
def GK(U:US)(s:Int)(k:Nat)(d:Doc):Prop:=k<=57/\PP U s k d.aq
variable {U:US}
theorem x78(hN:UN U){s:Int}(hs:0<=s/\s<=1000){k:Nat}{d:Doc}(h:GK U s k d)(a b c:Int):sD d (dR d s a b c):=
 have r:=SF hN hs h.2 h.1 a b c
 ⟨h.2.ED hN.toUB (by have:=h.1;omega),r.1,fun _ he=>(r.2 (DG.1 he)).b⟩
theorem Pn(hN:UN U){s:Int}(hs:0<=s/\s<=1000){k:Nat}{d:Doc}(h:GK U s k d){a b c:Int}(h0:gV d (dR d s a b c)=0):tQ (PP U s (k+3)) d.aq (dR d s a b c)/\PP U s (k+3) (jB d (dR d s a b c)).aq:=by
 obtain⟨e1,e2,e3,e4⟩:=Po h0;have r:=(SF hN hs h.2 h.1 a b c).2 (DG.1 e2);rw[e4];exact⟨r,r.fin e3⟩
theorem KT(hN:UN U)(hZ:U.no=[]){s:Int}(hs:0<=s/\s<=1000):mO s (GK U s) where
 doc:=fun h=>h.2.ED hN.toUB (by have:=h.1;omega)
 cmd:=fun b c h=>x74 hN.toUB hZ hs h.2 (by have:=h.1;omega) b c
 app:=fun a b c h=>x78 hN hs h a b c
 step:=fun {k d} a b c hk h=>by
  by_cases q:gV d (dR d s a b c)=0
  ·rw[KF q];exact⟨oM,(Pn hN hs h q).2⟩
  rw[O2 q];exact⟨oM,h.2.mono oM⟩
 more:=fun hk h=>⟨oM,h.2.mono oM⟩
theorem Vk(hN:UN U):GK U 0 0 wQ:=by
 have hx:∀n∈wQ.aq,NG U n/\NZ 10 n:=fun n hn=>by
  have hc:∀c:Int,rB c->c≠0->RU U ⟨c,0,[]⟩:=fun c h1 h2=>Sl h1 h2 VU.nil
  simp only[wQ,qg,qX,or_false] at hn;rcases hn with rfl|rfl|rfl
  ·refine⟨⟨VU.nil,fun x hx=> ?_,rfl,(fun x h=>by cases h),(fun x h=>by cases h),(by decide:(0:Int)≠6)⟩,yY sM sM sM⟩;simp only[qg,qX,or_false] at hx;rcases hx with rfl|rfl<;>exact KJ oM VU.nil
  ·refine⟨⟨VU.nil,fun x hx=> ?_,rfl,(fun x h=>by cases h),(fun x h=>by cases h),(by decide:(1:Int)≠6)⟩,yY sM sM sM⟩;simp only[qg,qX,or_false] at hx;rcases hx with rfl|rfl|rfl|rfl|rfl|rfl<;>exact hc _ dM dM
  exact⟨⟨VU.nil,(fun x h=>by cases h),rfl,(fun x h=>by cases h),(fun x h=>by cases h),(by decide:(10:Int)≠6)⟩,yY sM sM sM⟩
 refine⟨oM,⟨KS.1 (by decide+kernel),hx⟩,dM,fun n hn=> ?_⟩;simp only[wQ,qg,qX,or_false] at hn;rcases hn with rfl|rfl|rfl<;>simp
theorem x93{k:Nat}{d:Doc}(h:GK U 0 k d):GK U 1 k d:=⟨h.1,h.2.gp,h.2.len,fun n hn=>by have:=h.2.id n hn;omega⟩
structure CI(U:US)(s:Int)(l:List Node)(c:List aP)(d:Doc):Prop where
 run:tQ (PP U s 57) l c
 e:iz l c=0
 l:gK l c=d.aq
 ok:∀o∈c,fF o=0/\pq o
theorem Vm(hN:UN U){s:Int}(hs:0<=s/\s<=1000){g:Bool}{raw:List Int}{l:List Node}{k0:Nat}(hk:k0<=38):∀(m:Nat) {k:Nat} {c:List aP} {d:Doc},raw.length-k=m->k<=17->c.length<=k->GK U s (k0+k) d->CI U s l c d->
 CI U s l (kG s g raw c d k).1 (kG s g raw c d k).2/\(kG s g raw c d k).1.length<=17/\PP U s 57 (kG s g raw c d k).2.aq:=by
 intro m;induction m using Nat.strongRecOn with
 |_ m ih=>
  intro k c d hm Fh hl hg hc;by_cases h:k+2<raw.length/\k<15
  ·by_cases h2:xS s g d (raw.getD k default) (raw.getD (k+1) default) (raw.getD (k+2) default)=true
   ·rw[O3 h h2];have h0:gV d (dR d s (raw.getD k default) (raw.getD (k+1) default) (raw.getD (k+2) default))=0:=by
     unfold xS at h2;rw[qq,decide_eq_true_eq] at h2;exact h2.1
    obtain⟨r1,r2⟩:=Pn hN hs hg h0;obtain⟨e1,e2,e3,e4⟩:=Po h0;have hlen:=UQ d s (raw.getD k default) (raw.getD (k+1) default) (raw.getD (k+2) default);have AZ:=(SF hN hs hg.2 hg.1 (raw.getD k default) (raw.getD (k+1) default) (raw.getD (k+2) default)).1;refine ih _ oM rfl oM (by rw[qf];omega) ⟨oM,r2⟩ ⟨hc.run.app (fun _=> ?_),?_,?_,fun o ho=> ?_⟩
    ·rw[hc.l];exact r1.imp (fun l h=>h.mono oM)
    ·rw[Yx,hc.e,if_neg (fun q=>q rfl),hc.l];exact e3
    ·rw[Yy,hc.l,e4]
    rcases qn.1 ho with q|q
    ·exact hc.ok o q
    exact⟨DG.1 e2 o q,AZ o q⟩
   rw[O4 h h2];exact ih _ oM rfl oM oM ⟨oM,hg.2.mono oM⟩ hc
  rw[KG h];exact⟨hc,by show c.length<=17;omega,hg.2.mono oM⟩
end Go.Ch
end
section
namespace Go.Ch
open Go Go.Ab
variable {U:US}
variable {d:Doc}
def mE(us:List DU):Bool:=match us.getLast? with
 |some (.K _)=>true
 |_=>false
theorem BM(x y:DU)(u:List DU):mE (x::y::u)=mE (y::u):=by
 unfold mE;rw[List.getLast?_cons_cons]
theorem y4C{u v:List DU}(h:jV u v):mE u=mE v:=by
 induction h with
 |refl u=>rfl
 |cons x h ih=>
  have hl:=YQ h;rename_i u v;cases u with
  |nil=>cases v with
   |nil=>rfl
   |cons y v=>simp at hl
  |cons y u=>cases v with
   |nil=>simp at hl
   |cons z v=>rw[BM,BM];exact ih
 |swap e u=>cases u with
  |nil=>rfl
  |cons y u=>rw[BM,BM,BM,BM]
 |symm h ih=>exact ih.symm
 |trans h k xY ic=>exact xY.trans ic
theorem SK(u:List DU){v:List DU}(h:v≠[]):mE (u++v)=mE v:=by
 unfold mE;rw[List.getLast?_append];cases hv:v.getLast? with
 |none=>exact absurd (List.getLast?_eq_none_iff.1 hv) h
 |some x=>rfl
theorem x2y{s:List aB}(hv:j9 s)(h:mE (bD s)=true):u7 s=true:=by
 have dh:s≠[]:=fun e=>by rw[e] at h;exact absurd h dM
 obtain⟨t,ht⟩:∃t,s=s.dropLast++[t]:=⟨s.getLast dh,(List.dropLast_concat_getLast dh).symm⟩
 generalize s.dropLast=i at ht;subst ht;have hg:(i++[t]).getD ((i++[t]).length- 1) default=t:=by rw[ME sM];rfl
 have hk:t.af=0:=by
  apply qc;intro q;have ho:=hv.1.all t sM;rw[CP,show bD [t]=ir t by simp[bD]] at h;unfold ir at h;by_cases q1:t.af=1
  ·rw[if_pos q1] at h;have he:t.elems≠[]:=by
    rcases ho with⟨_,_,_,q,_⟩| ⟨q,_⟩
    ·exact q
    omega
   rw[SK _ (by simpa using he)] at h;unfold mE at h;rw[List.getLast?_map] at h;cases hl:t.elems.getLast? with
   |none=>exact he (List.getLast?_eq_none_iff.1 hl)
   |some x=>rw[hl] at h;simp at h
  have q2:t.af=2:=by
   rcases ho with⟨k,_⟩| ⟨k,_⟩
   ·omega
   ·omega
  have hn:1<=t.n:=by
   rcases ho with⟨k,_⟩| ⟨_,e,_,n,_⟩
   ·omega
   exact n
  rw[if_neg q1,if_pos q2] at h;rw[SK _ (by intro z;have:=congrArg List.length z;simp at this;omega)] at h;unfold mE at h;rw[List.getLast?_replicate,if_neg oM] at h;cases h
 unfold u7;rw[hg,hk];simp
theorem x94{U:US}{n:Int}{s:List aB}{us:List DU}(hn:1<=n/\n<=1073741824)(hd:jY U s us):fF (gG n s)=0:=by
 unfold fF;rw[if_neg (by show¬((2:Int)< 0\/4< (2:Int));decide)];have hu:ve (gG n s)=false:=by
  unfold ve gG;simp only[show((2:Int)==0)=false from rfl,show((2:Int) !=0)=true from rfl,show((2:Int) !=1)=true from rfl,show((2:Int) !=2)=false from rfl,show((2:Int) !=3)=true from rfl,show((2:Int) !=4)=true from rfl,Bool.false_and,Bool.true_and,ji];rw[show AR ⟨0,0,[],[],⟨0,0,[],[]⟩,[]⟩=true by decide+kernel,show HW ⟨[],[],[],[],[]⟩=false by decide+kernel];rfl
 rw[if_neg (by rw[hu];decide),if_neg (show¬(gG n s).af=0 from(by decide:¬(2:Int)=0)),if_neg (by show¬(n<1\/1073741824<n);omega),if_neg (show¬(gG n s).af=1 from(by decide:¬(2:Int)=1)),if_pos (show(gG n s).af=2 from rfl)];exact wO.2 hd.v
end Go.Ch
end
section
namespace Go.Ch
open Go Go.Ab
variable {U:US}
theorem Av{u:List DU}(x:DU)(h:mE u=true):mE (x::u)=true:=by
 cases u with
 |nil=>exact absurd h dM
 |cons y u=>rw[BM];exact h
theorem wF{x:DU}{u:List DU}(h:mE (x::u)=true)(hu:u≠[]):mE u=true:=by
 cases u with
 |nil=>exact absurd rfl hu
 |cons y u=>rwa [BM] at h
theorem x2z{e:aL}:mE [.A e]=false:=rfl
theorem x2A:mE [.C]=false:=rfl
theorem Jz:∀{u:List DU},mE u=true->1<=bK u
 | [],h=>absurd h dM
 | [.K c],_=>by simp[bK]
 | [.A e],h=>by rw[x2z] at h;cases h
 | [.C],h=>by rw[x2A] at h;cases h
 |x::y::u,h=>by
  rw[BM] at h;have:=Jz h;cases x<;>simp only[bK] at* <;>omega
theorem y1D(p q:List DU):bK p=bK q->mE p=true->mE q=true->mE (bF p q).1=true/\mE (bF p q).2=true:=by
 have nA:∀{e:aL} {u:List DU},mE (.A e::u)=true->u≠[]:=fun h z=>by subst z;rw[x2z] at h;cases h
 have nC:∀{u:List DU},mE (.C::u)=true->u≠[]:=fun h z=>by subst z;rw[x2A] at h;cases h
 have n0:∀{u:List DU},1<=bK u->u≠[]:=fun h z=>by subst z;exact absurd h dM
 induction p,q using bF.induct with
 |case1 e p q ih=>
  intro h hp hq;obtain⟨a,b⟩:=ih (by simpa[bK] using h) (wF hp (nA hp)) hq;rw[bF];exact⟨Av _ a,Av _ b⟩
 |case2 e q ih=>intro h hp;exact absurd hp dM
 |case3 c p e q ih=>
  intro h hp hq;obtain⟨a,b⟩:=ih (by simpa[bK] using h) hp (wF hq (nA hq));rw[bF];exact⟨Av _ a,Av _ b⟩
 |case4 p e q ih=>
  intro h hp hq;obtain⟨a,b⟩:=ih (by simpa[bK] using h) hp (wF hq (nA hq));rw[bF];exact⟨Av _ a,Av _ b⟩
 |case5 c p d q ih=>
  intro h hp hq;have h':bK p=bK q:=by simpa[bK] using h
  rw[bF];by_cases e:p=[]
  ·subst e;have e2:q=[]:=by
    cases q with
    |nil=>rfl
    |cons y q=>
     have:=Jz (wF hq sM);rw[<-h'] at this;exact absurd this dM
   subst e2;simp[bF,mE]
  have e2:q≠[]:=n0 (by have:=Jz (wF hp e);omega);obtain⟨a,b⟩:=ih h' (wF hp e) (wF hq e2);exact⟨Av _ a,Av _ b⟩
 |case6 c p q ih=>
  intro h hp hq;have h':bK p=bK q:=by simpa[bK] using h
  have Dt:=wF hq (nC hq);have Cm:=wF hp (n0 (by have:=Jz Dt;omega));obtain⟨a,b⟩:=ih h' Cm Dt;rw[bF];exact⟨a,Av _ b⟩
 |case7 p d q ih=>
  intro h hp hq;have h':bK p=bK q:=by simpa[bK] using h
  have Cm:=wF hp (nC hp);have Dt:=wF hq (n0 (by have:=Jz Cm;omega));obtain⟨a,b⟩:=ih h' Cm Dt;rw[bF];exact⟨Av _ a,b⟩
 |case8 p q ih=>
  intro h hp hq;have h':bK p=bK q:=by simpa[bK] using h
  obtain⟨a,b⟩:=ih h' (wF hp (nC hp)) (wF hq (nC hq));rw[bF];exact⟨a,b⟩
 |case9 p dh=>intro h hp hq;exact absurd hq dM
 |case10 q h1 h2=>intro h hp;exact absurd hp dM
theorem y56(p q:List DU)(hp:∀u∈p,UU U u)(hq:∀u∈q,UU U u):∀u∈(bF p q).2,UU U u:=by
 have h0:UU U (.K []):=VU.nil;induction p,q using bF.induct with
 |case1 e p q ih=>rw[bF];exact all_cons h0 (ih (iI hp) hq)
 |case2 e q ih=>rw[bF];exact all_cons (hq (.A e) sM) (ih hp (iI hq))
 |case3 c p e q ih=>rw[bF];exact all_cons (hq (.A e) sM) (ih hp (iI hq))
 |case4 p e q ih=>rw[bF];exact all_cons (hq (.A e) sM) (ih hp (iI hq))
 |case5 c p d q ih=>rw[bF];exact all_cons (hq (.K d) sM) (ih (iI hp) (iI hq))
 |case6 c p q ih=>rw[bF];exact all_cons trivial (ih (iI hp) (iI hq))
 |case7 p d q ih=>rw[bF];exact ih (iI hp) (iI hq)
 |case8 p q ih=>rw[bF];exact ih (iI hp) (iI hq)
 |case9 p dh=>rw[show bF p []=([],[]) by unfold bF;split<;>simp_all];intro u hu;cases hu
 |case10 q h1 h2=>rw[show bF [] q=([],[]) by unfold bF;split<;>simp_all];intro u hu;cases hu
theorem U1 (p q : List DU) : (gu (bF p q).1 <= gu p /\ gu (bF p q).2 <= gu q) /\ ∀ e, (.A e ∈ (bF p q).1 -> .A e ∈ p) /\ (.A e ∈ (bF p q).2 -> .A e ∈ q) := by
  induction p, q using bF.induct with
  | case9 p dh => rw [show bF p [] = ([], []) by unfold bF; split <;> simp_all]; simp [gu]
  | case10 q h1 h2 => rw [show bF [] q = ([], []) by unfold bF; split <;> simp_all]; simp [gu]
  | _ =>
    rename_i ih
    obtain ⟨⟨i1, i2⟩, i3⟩ := ih
    rw [bF]
    refine ⟨⟨by simp only [gu] at *; omega, by simp only [gu] at *; omega⟩, fun e => ⟨fun h => ?_, fun h => ?_⟩⟩
    · first
      | exact qR _ ((i3 e).1 h)
      | exact (i3 e).1 h
      | (rcases qg.1 h with z | z
         · first | cases z | (cases z; exact zQ)
         · first | exact qR _ ((i3 e).1 z) | exact (i3 e).1 z)
      | (rcases qg.1 h with z | z
         · rw [z]; exact zQ
         · first | exact qR _ ((i3 e).1 z) | exact (i3 e).1 z)
    · first
      | exact qR _ ((i3 e).2 h)
      | exact (i3 e).2 h
      | (rcases qg.1 h with z | z
         · first | cases z | (cases z; exact zQ)
         · first | exact qR _ ((i3 e).2 z) | exact (i3 e).2 z)
      | (rcases qg.1 h with z | z
         · rw [z]; exact zQ
         · first | exact qR _ ((i3 e).2 z) | exact (i3 e).2 z)
theorem MT(u:List DU):cG u<=bK u+gu u:=by
 induction u with
 |nil=>simp[cG]
 |cons x u ih=>cases x<;>simp only[cG,bK,gu]<;>omega
theorem x6g{s:List aB}(h:∀t∈s,n9 t){t:aB}(ht:t∈s){e:aL}(he:e∈t.elems):DU.A e∈bD s:=by
 induction s with
 |nil=>cases ht
 |cons x s ih=>
  rw[bD,qn];rcases qg.1 ht with rfl|ht
  ·refine .inl ?_;rcases h t sM with⟨k,_⟩| ⟨_,e0,_⟩
   ·unfold ir;rw[if_pos k];exact List.mem_map_of_mem he
   rw[e0] at he;cases he
  exact .inr (ih (fun y hy=>h y (by simp[hy])) ht)
theorem z50{s:List aB}(hv:j9 s)(he:u7 s=true):mE (bD s)=true:=by
 unfold u7 at he;rw[qq,decide_eq_true_eq,beq_iff_eq] at he;obtain⟨h0,hk⟩:=he;have dh:s≠[]:=fun e=>by rw[e] at h0;exact absurd h0 dM
 obtain⟨t,ht⟩:∃t,s=s.dropLast++[t]:=⟨s.getLast dh,(List.dropLast_concat_getLast dh).symm⟩
 generalize s.dropLast=i at ht;subst ht;have hg:(i++[t]).getD ((i++[t]).length- 1) default=t:=by rw[ME sM];rfl
 rw[hg] at hk;have hn:1<=t.n:=by
  rcases hv.1.all t sM with⟨k,_⟩| ⟨_,_,_,n,_⟩
  ·omega
  exact n
 obtain⟨m,hm⟩:∃m,t.n.toNat=m+1:=⟨t.n.toNat- 1,oM⟩
 have ex:bD (i++[t])=(bD i++List.replicate m (.K t.ah))++[.K t.ah]:=by
  rw[CP,qI,<-List.replicate_succ',<-hm];congr 1;simp only[bD,qL];unfold ir;rw[if_neg oM,if_neg oM]
 rw[ex,SK _ sM];rfl
theorem jl.same{M M':Int->Option Node}(hM:Kd M M'){n n':Node}{s:List aB}(h:jl M n s)(hk:n'.af=n.af)(hf:n'.aD=n.aD):jl M' n' s:=
 ⟨by rw[hk];exact h.kd,by rw[hf];exact h.old,by rw[hk];exact h.ends,fun t ht x hx=>by rw[hk];exact(h.new t ht x hx).kd hM⟩
theorem x4X(hU:UB U){M Mp Mq:Int->Option Node}(Kp:Kd M Mp)(Kq:Kd M Mq){n:Node}{a b:List aB}{us vs:List DU}(ha:jY U a us)(hb:jY U b vs)(fa:jl M n a)(fb:jl M n b)
 (hr:∀x∈n.aD,RU U x) (hl:n.aD.length<=100000) (aa:gu us<=12) (ab:gu vs<=12):
 jl Mp {n with aD:=jx n.aD a} (pO a b)/\jl Mq {n with aD:=jx n.aD b} (jD a b)/\jx (jx n.aD a) (pO a b)=jx (jx n.aD b) (jD a b)/\
 jY U (jD a b) (bF (bD a) (bD b)).1/\jY U (pO a b) (bF (bD a) (bD b)).2/\gu (bF (bD a) (bD b)).1<=12/\gu (bF (bD a) (bD b)).2<=12:=by
 have oa:=fa.old;have ob:=fb.old;obtain⟨la,ma⟩:=ha.lens;obtain⟨lb,mb⟩:=hb.lens;have na:=MT us;have nb:=MT vs;obtain⟨xa,ya⟩:=Al ha.v;obtain⟨xb,yb⟩:=Al hb.v;have sa:=DE ha.sw;have sb:=DE hb.sw;have P:=z79 ha.v hb.v (ha.dn hU.len) (hb.dn hU.len) oM oM;obtain⟨_,_,_,v1,v2,w1,w2,o1,o2,_,_⟩:=P;obtain⟨⟨A1,A2⟩,A3⟩:=U1 (bD a) (bD b);have D1:jY U (jD a b) (bF (bD a) (bD b)).1:=⟨v1,w1,ZD _ _ ha.ex hb.ex⟩
 have D2:jY U (pO a b) (bF (bD a) (bD b)).2:=⟨v2,w2,y56 _ _ ha.ex hb.ex⟩
 have uC:(jx n.aD a).length=cG (bD a):=F5 _ _ oM;have uD:(jx n.aD b).length=cG (bD b):=F5 _ _ oM;have hv:∀x∈n.aD,VG false x.ah:=fun x hx=>(hr x hx).2.g
 have M1:=Aj _ (bD a) (bD b) n.aD (qp _) oM oM (L8 (CS ha.v.1.all (ha.dn hU.len))) (L8 (CS hb.v.1.all (hb.dn hU.len))) hv;refine⟨⟨fa.kd,by show eu _=(((jx n.aD a).length:Nat):Int);omega,fun ht=> ?_,fun t ht x hx=> ?_⟩,⟨fa.kd,by show eu _=(((jx n.aD b).length:Nat):Int);omega,fun ht=> ?_,fun t ht x hx=> ?_⟩,?_,D1,D2,oM,oM⟩
 ·refine x2y v2 ?_;rw[y4C w2];exact(y1D _ _ oM (z50 ha.v (fa.ends ht)) (z50 hb.v (fb.ends ht))).2
 ·obtain⟨t',SL,pT⟩:=MC ((A3 x).2 ((Ma w2 _).1 (x6g v2.1.all ht hx)));exact(fb.new t' SL x pT).kd Kp
 ·refine x2y v1 ?_;rw[y4C w1];exact(y1D _ _ oM (z50 ha.v (fa.ends ht)) (z50 hb.v (fb.ends ht))).1
 ·obtain⟨t',SL,pT⟩:=MC ((A3 x).1 ((Ma w1 _).1 (x6g v1.1.all ht hx)));exact(fa.new t' SL x pT).kd Kq
 have hx:jx (jx n.aD a) (pO a b)=dW (bF (bD a) (bD b)).2 (dW (bD a) n.aD):=Yu w2 _;have hy:jx (jx n.aD b) (jD a b)=dW (bF (bD a) (bD b)).1 (dW (bD b) n.aD):=Yu w1 _;rw[hx,hy];exact M1.1
theorem C7(x y:List fN):∀z,dN x y=some z->∀o,o∈x\/o∈y->o∈z:=by
 induction x,y using dN.induct with
 |case1=>intro z h o ho;rcases ho with ho|ho<;>cases ho
 |case2 a l ih=>
  intro z h o ho;rw[dN,qe] at h;obtain⟨w,hw,rfl⟩:=h;rcases ho with ho|ho
  ·rcases qg.1 ho with rfl|ho
   ·simp
   exact qR _ (ih w hw o (.inl ho))
  cases ho
 |case3 b r ih=>
  intro z h o ho;rw[dN,qe] at h;obtain⟨w,hw,rfl⟩:=h;rcases ho with ho|ho
  ·cases ho
  rcases qg.1 ho with rfl|ho
  ·simp
  exact qR _ (ih w hw o (.inr ho))
 |case4 a l b r mV ih=>
  intro z h o ho;rw[dN,if_pos mV,qe] at h;obtain⟨w,hw,rfl⟩:=h;rcases ho with ho|ho
  ·rcases qg.1 ho with rfl|ho
   ·simp
   exact qR _ (ih w hw o (.inl ho))
  exact qR _ (ih w hw o (.inr ho))
 |case5 a l b r mV rH ih=>
  intro z h o ho;rw[dN,if_neg mV,if_pos rH,qe] at h;obtain⟨w,hw,rfl⟩:=h;rcases ho with ho|ho
  ·exact qR _ (ih w hw o (.inl ho))
  rcases qg.1 ho with rfl|ho
  ·simp
  exact qR _ (ih w hw o (.inr ho))
 |case6 l b r mV rH ih=>
  intro z h o ho;rw[dN,if_neg mV,if_neg rH,if_pos rfl,qe] at h;obtain⟨w,hw,rfl⟩:=h;rcases ho with ho|ho<;>rcases qg.1 ho with rfl|ho
  ·simp
  ·exact qR _ (ih w hw o (.inl ho))
  ·simp
  exact qR _ (ih w hw o (.inr ho))
 |case7 a l b r mV rH dh=>intro z h;rw[dN,if_neg mV,if_neg rH,if_neg dh] at h;cases h
def w2m(x y:List fN):Prop:=∀a∈x,∀b∈y,¬iB a b->¬iB b a->a=b
theorem y1E(x y:List fN):w2m x y->(dN x y).isSome=true:=by
 induction x,y using dN.induct with
 |case1=>intro _;rw[dN];rfl
 |case2 a l ih=>intro h;rw[dN,Option.isSome_map];exact ih (fun p hp q hq=>by cases hq)
 |case3 b r ih=>intro h;rw[dN,Option.isSome_map];exact ih (fun p hp=>by cases hp)
 |case4 a l b r mV ih=>intro h;rw[dN,if_pos mV,Option.isSome_map];exact ih (fun p hp=>h p (by simp[hp]))
 |case5 a l b r mV rH ih=>intro h;rw[dN,if_neg mV,if_pos rH,Option.isSome_map];exact ih (fun p hp q hq=>h p hp q (by simp[hq]))
 |case6 l b r mV rH ih=>intro h;rw[dN,if_neg mV,if_neg rH,if_pos rfl,Option.isSome_map];exact ih (fun p hp q hq=>h p (by simp[hp]) q (by simp[hq]))
 |case7 a l b r mV rH dh=>intro h;exact absurd (h a sM b sM mV rH) dh
theorem y1F(x y:List fN):(dN x y).isSome=true->x.Pairwise iB->y.Pairwise iB->w2m x y:=by
 intro h hx hy a ha b hb h1 h2;obtain⟨z,hz⟩:=zn.1 h;have hp:=(Gk x y z hz hx hy).2.1;have ma:=C7 x y z hz a (.inl ha);have mb:=C7 x y z hz b (.inr hb);obtain⟨i,hi,rfl⟩:=jc ma;obtain⟨j,hj,rfl⟩:=jc mb;rcases Nat.lt_trichotomy i j with q|q|q
 ·exact absurd (zI.1 hp i j hi hj q) h1
 ·subst q;rfl
 exact absurd (zI.1 hp j i hj hi q) h2
theorem x2B:∀{l l':List fN},l.Pairwise iB->l'.Pairwise iB->(∀n,n∈l↔n∈l')->l=l'
 | [],[],_,_,_=>rfl
 | [],y::l',_,_,h=>absurd ((h y).2 sM) sM
 |x::l,[],_,_,h=>absurd ((h x).1 sM) sM
 |x::l,y::l',hl,xz,h=>by
  obtain⟨a1,a2⟩:=qV.1 hl;obtain⟨b1,b2⟩:=qV.1 xz;have e:x=y:=by
   rcases qg.1 ((h x).1 sM) with q|q
   ·exact q
   rcases qg.1 ((h y).2 sM) with z|z
   ·exact z.symm
   exact absurd (z67 (b1 x q) (a1 y z)) (QS _)
  subst e;congr 1;refine x2B a2 b2 fun n=>⟨fun hn=> ?_,fun hn=> ?_⟩
  ·rcases qg.1 ((h n).1 (by simp[hn])) with q|q
   ·subst q;exact absurd (a1 n hn) (QS _)
   exact q
  rcases qg.1 ((h n).2 (by simp[hn])) with q|q
  ·subst q;exact absurd (b1 n hn) (QS _)
  exact q
theorem x2C{d c e:List fN}(hd:d.Pairwise iB)(hc:c.Pairwise iB)(he:e.Pairwise iB)(h1:(dN d c).isSome=true)(h2:(dN d e).isSome=true)(hs:∀x∈c,∀y∈e,x.aC≠y.aC):
 (dN ((dN d c).getD []) e).isSome=true/\(dN ((dN d e).getD []) c).isSome=true/\(dN ((dN d c).getD []) e).getD []=(dN ((dN d e).getD []) c).getD []:=by
 obtain⟨z1,e1⟩:=zn.1 h1;obtain⟨z2,e2⟩:=zn.1 h2;obtain⟨m1,p1,_⟩:=Gk d c z1 e1 hd hc;obtain⟨m2,p2,_⟩:=Gk d e z2 e2 hd he;have n1:=y1F d c h1 hd hc;have n2:=y1F d e h2 hd he;have k1:(dN z1 e).isSome=true:=y1E _ _ fun a ha b hb q1 q2=>by
  rcases m1 a ha with z|z
  ·exact n2 a z b hb q1 q2
  have:=hs a z b hb;unfold iB at q1 q2;omega
 have k2:(dN z2 c).isSome=true:=y1E _ _ fun a ha b hb q1 q2=>by
  rcases m2 a ha with z|z
  ·exact n1 a z b hb q1 q2
  have:=hs b hb a z;unfold iB at q1 q2;omega
 rw[e1,e2];obtain⟨w1,f1⟩:=zn.1 k1;obtain⟨w2,f2⟩:=zn.1 k2;refine⟨k1,k2,?_⟩;show(dN z1 e).getD []=(dN z2 c).getD [];rw[f1,f2];obtain⟨a1,a2,_⟩:=Gk z1 e w1 f1 p1 he;obtain⟨b1,b2,_⟩:=Gk z2 c w2 f2 p2 hc;refine x2B a2 b2 fun n=>⟨fun hn=> ?_,fun hn=> ?_⟩
 ·refine C7 z2 c w2 f2 n ?_;rcases a1 n hn with q|q
  ·rcases m1 n q with z|z
   ·exact .inl (C7 d e z2 e2 n (.inl z))
   exact .inr z
  exact .inl (C7 d e z2 e2 n (.inr q))
 refine C7 z1 e w1 f1 n ?_;rcases b1 n hn with q|q
 ·rcases m2 n q with z|z
  ·exact .inl (C7 d c z1 e1 n (.inl z))
  exact .inr z
 exact .inl (C7 d c z1 e1 n (.inr q))
theorem x4Y{M Mp Mq:Int->Option Node}(Kp:Kd M Mp)(Kq:Kd M Mq){n:Node}{a b:bP}(fa:gD M n a)(fb:gD M n b)(la:p9 a)(lb:p9 b)(hk:n.af≠6){m:Nat}(hm:m<=100000)(hx:Ju m n.az):
 Jv n.az a b/\gD Mp {n with az:=kg n.az a} (nD a b)/\gD Mq {n with az:=kg n.az b} (z12 a b):=by
 have T:=y76 hm hx la lb fa.ft fb.ft;have mv:∀{M M':Int->Option Node} {l k:List Cell} {ak aj:List aA},Kd M M'->(∀c∈l,c.bh≠0->BL M n.af c.bh)->(∀c∈k,c∈dY l ak aj)->∀c∈k,c.bh≠0->BL M' n.af c.bh:=fun {M M' l k ak aj} K h s c hc h0=>by
  obtain⟨d,hd,he⟩:=zE.1 (s c hc);obtain⟨_,_,rfl⟩:=yB he;exact(h d hd h0).kd K
 exact⟨T,⟨fa.hg,MB hk T.ly.ce _ 0 rfl,T.fy,mv Kp fb.nw (fun c h=>h)⟩,⟨fb.hg,MB hk T.lx.ce _ 0 rfl,T.fx,mv Kq fa.nw (fun c h=>(zX.1 h).1)⟩⟩
def K3(o:aP):Prop:=o.af=1\/o.af=2\/o.af=4\/o.af=3
theorem K3.ne{o:aP}(h:K3 o):o.af≠0:=by unfold K3 at h;omega
theorem z35.kd{M M':Int->Option Node}(h:Kd M M'){n:Node}{o:aP}(q:z35 M n o):z35 M' n o:=⟨fun z=>(q.1 z).same h rfl rfl,q.2.1,fun z=>(q.2.2 z).kd h⟩
theorem Gq{l:List Node}(hs:gH l){p q p' q':aP}(kp:K3 p)(kq:K3 q)(Gr:K3 p')(Gs:K3 q')(np:p'.ai=p.ai)(nq:q'.ai=q.ai)(hp:cV l p=0)(hq:cV l q=0)
 (dh:p.ai≠q.ai->p'=p/\q'=q)
 (jN:p.ai=q.ai->∀n,iE l p.ai=some n->z35 (iE l) n p->z35 (iE l) n q->z35 (iE (cn l p)) (iP n p) q'/\z35 (iE (cn l q)) (iP n q) p'/\iP (iP n p) q'=iP (iP n q) p'):
 cV (cn l p) q'=0/\cV (cn l q) p'=0/\cn (cn l p) q'=cn (cn l q) p':=by
 obtain⟨n1,a1,b1⟩:=(tT hs kp).1 hp;obtain⟨n2,a2,b2⟩:=(tT hs kq).1 hq;obtain⟨sp,fp⟩:=vH hs kp.ne hp;obtain⟨sq,fq⟩:=vH hs kq.ne hq;have Kp:=xq hs hp;have Kq:=xq hs hq;by_cases e:p.ai=q.ai
 ·have lu:n2=n1:=by rw[<-e,a1] at a2;injection a2 with a2;exact a2.symm
  subst lu;obtain⟨s1,s2,s3⟩:=jN e n2 a1 b1 b2;have e1:cV (cn l p) q'=0:=(tT sp Gs).2 ⟨_,by rw[nq,<-e,fp,if_pos rfl,a1];rfl,s1⟩;have e2:cV (cn l q) p'=0:=(tT sq Gr).2 ⟨_,by rw[np,fq,if_pos e,a1];rfl,s2⟩;refine⟨e1,e2,MS (vH sp Gs.ne e1).1 (vH sq Gr.ne e2).1 fun k=> ?_⟩;rw[(vH sp Gs.ne e1).2 k,(vH sq Gr.ne e2).2 k,fp,fq,np,nq,<-e];by_cases z:k=p.ai
  ·rw[if_pos z,if_pos z,if_pos z,if_pos z,z,a1];show some (iP (iP n2 p) q')=some (iP (iP n2 q) p');rw[s3]
  rw[if_neg z,if_neg z,if_neg z,if_neg z]
 obtain⟨rfl,rfl⟩:=dh e;have e1:cV (cn l p') q'=0:=(tT sp Gs).2 ⟨n2,by rw[fp,if_neg (fun z=>e z.symm)];exact a2,b2.kd Kp⟩;have e2:cV (cn l q') p'=0:=(tT sq Gr).2 ⟨n1,by rw[fq,if_neg e];exact a1,b1.kd Kq⟩;refine⟨e1,e2,MS (vH sp Gs.ne e1).1 (vH sq Gr.ne e2).1 fun k=> ?_⟩;rw[(vH sp Gs.ne e1).2 k,(vH sq Gr.ne e2).2 k,fp,fq];by_cases z:k=p'.ai
 ·have z2:¬k=q'.ai:=fun w=>e (z.symm.trans w)
  rw[if_neg z2,if_pos z,if_pos z,if_neg z2]
 rw[if_neg z,if_neg z]
theorem C8{l:List Node}(hs:gH l){p q:aP}(kp:p.af=0)(kq:K3 q)(hp:cV l p=0)(hq:cV l q=0):
 cV (cn l p) q=0/\cV (cn l q) p=0/\cn (cn l p) q=cn (cn l q) p:=by
 obtain⟨n2,a2,b2⟩:=(tT hs kq).1 hq;obtain⟨hn,r1⟩:=(EE hs kp).1 hp;obtain⟨_,_,sp,fp⟩:=yD hs kp hp;obtain⟨sq,fq⟩:=vH hs kq.ne hq;have Kp:=xq hs hp;have Kq:=xq hs hq;have e:q.ai≠p.nw.id:=fun z=>by rw[z,hn] at a2;cases a2
 have e1:cV (cn l p) q=0:=(tT sp kq).2 ⟨n2,by rw[fp,if_neg e];exact a2,b2.kd Kp⟩;have e2:cV (cn l q) p=0:=(EE sq kp).2 ⟨by rw[fq,if_neg (fun z=>e z.symm)];exact hn,fun r hr=>(r1 r hr).kd Kq⟩;refine⟨e1,e2,MS (vH sp kq.ne e1).1 (yD sq kp e2).2.2.1 fun k=> ?_⟩;rw[(vH sp kq.ne e1).2 k,(yD sq kp e2).2.2.2 k,fp,fq];by_cases z:k=q.ai
 ·have z2:¬k=p.nw.id:=fun w=>e (z.symm.trans w)
  rw[if_pos z,if_neg z2,if_neg z2,if_pos z]
 rw[if_neg z,if_neg z]
theorem x4Z{l:List Node}(hs:gH l){p q:aP}(kp:p.af=0)(kq:q.af=0)(hp:cV l p=0)(hq:cV l q=0)(e:p.nw.id≠q.nw.id):
 cV (cn l p) q=0/\cV (cn l q) p=0/\cn (cn l p) q=cn (cn l q) p:=by
 obtain⟨hn,r1⟩:=(EE hs kp).1 hp;obtain⟨hm,r2⟩:=(EE hs kq).1 hq;obtain⟨_,_,sp,fp⟩:=yD hs kp hp;obtain⟨_,_,sq,fq⟩:=yD hs kq hq;have Kp:=xq hs hp;have Kq:=xq hs hq;have e1:cV (cn l p) q=0:=(EE sp kq).2 ⟨by rw[fp,if_neg (fun z=>e z.symm)];exact hm,fun r hr=>(r2 r hr).kd Kp⟩;have e2:cV (cn l q) p=0:=(EE sq kp).2 ⟨by rw[fq,if_neg e];exact hn,fun r hr=>(r1 r hr).kd Kq⟩;refine⟨e1,e2,MS (yD sp kq e1).2.2.1 (yD sq kp e2).2.2.1 fun k=> ?_⟩;rw[(yD sp kq e1).2.2.2 k,(yD sq kp e2).2.2.2 k,fp,fq];by_cases z:k=q.nw.id
 ·have z2:¬k=p.nw.id:=fun w=>e (w.symm.trans z)
  rw[if_pos z,if_neg z2,if_pos z]
 rw[if_neg z,if_neg z]
end Go.Ch
end
section
namespace Go.Ch
open Go Go.Ab
variable {U:US}
inductive Gd (U:US) (s:Int):aP->Prop
 |N (n:Node) (hg:NG U n) (hz:NZ 10 n) (hv:fT n=0) (hi:s*65536<=n.id/\n.id< (s+1)*65536):Gd U s (nk n)
 |A (k:Int) (c:List aI) (hk:1<=k/\k<=1073741824) (hc:VU U true c):Gd U s (j0 k c)
 |F (k:Int) (st:List aB) (us:List DU) (hk:1<=k/\k<=1073741824) (hd:jY U st us) (ha:gu us<=12):Gd U s (gG k st)
 |D (k:Int) (c:List fN) (hk:1<=k/\k<=1073741824) (hc:lX c 0=0) (hz:∀o∈c,o.nu.size<=100/\o.nm.size<=100/\o.vl.size<=100) (hs:∀o∈c,o.aC=s) (hl:c.length<=1):Gd U s (j3 k c)
 |G (k:Int) (e:bP) (hk:1<=k/\k<=1073741824) (he:jF e=0) (hl:p9 e):Gd U s (gY k e)
def gE(p q:aP):aP×aP:=
 if p.af≠q.af\/p.af=0\/p.ai≠q.ai then(p,q)
 else if p.af=1 then({p with ah:=fm iw p.ah q.ah},q)
 else if p.af=2 then({p with aQ:=jD p.aQ q.aQ},{q with aQ:=pO p.aQ q.aQ})
 else if p.af=3 then({p with az:=z12 p.az q.az},{q with az:=nD p.az q.az})
 else(p,q)
theorem yE{p q:aP}(h:p.af≠q.af\/p.af=0\/p.ai≠q.ai):gE p q=(p,q):=if_pos h
theorem x79(k:Int)(c e:List aI):gE (j0 k c) (j0 k e)=(j0 k (fm iw c e),j0 k e):=by
 unfold gE;rw[if_neg (by rintro(h|h|h);exact h rfl;exact absurd (show(1:Int)=0 from h) dM;exact h rfl),if_pos (show(j0 k c).af=1 from rfl)];rfl
theorem x8a(k:Int)(a b:List aB):gE (gG k a) (gG k b)=(gG k (jD a b),gG k (pO a b)):=by
 unfold gE;rw[if_neg (by rintro(h|h|h);exact h rfl;exact absurd (show(2:Int)=0 from h) dM;exact h rfl),if_neg (show¬(gG k a).af=1 from(by decide:¬(2:Int)=1)),if_pos (show(gG k a).af=2 from rfl)];rfl
theorem x8b(k j:Int)(a b:List fN):gE (j3 k a) (j3 j b)=(j3 k a,j3 j b):=by
 unfold gE;split
 ·rfl
 rw[if_neg (show¬(j3 k a).af=1 from(by decide:¬(4:Int)=1)),if_neg (show¬(j3 k a).af=2 from(by decide:¬(4:Int)=2)),if_neg (show¬(j3 k a).af=3 from(by decide:¬(4:Int)=3))]
theorem x8c(k:Int)(a b:bP):gE (gY k a) (gY k b)=(gY k (z12 a b),gY k (nD a b)):=by
 unfold gE;rw[if_neg (by rintro(h|h|h);exact h rfl;exact absurd (show(3:Int)=0 from h) dM;exact h rfl),if_neg (show¬(gY k a).af=1 from(by decide:¬(3:Int)=1)),if_neg (show¬(gY k a).af=2 from(by decide:¬(3:Int)=2)),if_pos (show(gY k a).af=3 from rfl)];rfl
structure MU(U:US)(s t:Int)(l:List Node)(p q:aP):Prop where
 g1:Gd U s (gE p q).1
 g2:Gd U t (gE p q).2
 e1:cV (cn l p) (gE p q).2=0
 e2:cV (cn l q) (gE p q).1=0
 eq:cn (cn l p) (gE p q).2=cn (cn l q) (gE p q).1
variable {s t:Int} {l:List Node} {p q:aP}
theorem xu(he:gE p q=(p,q))(gp:Gd U s p)(gq:Gd U t q)(h:cV (cn l p) q=0/\cV (cn l q) p=0/\cn (cn l p) q=cn (cn l q) p):MU U s t l p q:=by
 refine⟨?_,?_,?_,?_,?_⟩<;>rw[he]
 ·exact gp
 ·exact gq
 ·exact h.1
 ·exact h.2.1
 exact h.2.2
theorem C9{n:Node}{o:aP}(h:o.af=1):iP n o={n with ah:=fm eY n.ah o.ah}:=by unfold iP;rw[if_pos h]
theorem EF{n:Node}{o:aP}(h:o.af=2):iP n o={n with aD:=jx n.aD o.aQ}:=by unfold iP;rw[if_neg oM,if_pos h]
theorem EG{n:Node}{o:aP}(h:o.af=4):iP n o={n with draw:=(dN n.draw o.draw).getD []}:=by unfold iP;rw[if_neg oM,if_neg oM,if_neg oM]
theorem EH{n:Node}{o:aP}(h:o.af=3):iP n o={n with az:=kg n.az o.az}:=by unfold iP;rw[if_neg oM,if_neg oM,if_pos h]
theorem y9v{M Mp Mq:Int->Option Node}(Kp:Kd M Mp)(Kq:Kd M Mq)(kp:K3 p)(kq:K3 q)(hk:p.af≠q.af){n:Node}(hp:z35 M n p)(hq:z35 M n q):
 z35 Mp (iP n p) q/\z35 Mq (iP n q) p/\iP (iP n p) q=iP (iP n q) p:=by
 have gen:∀{M M':Int->Option Node} {p q:aP},Kd M M'->K3 p->p.af≠q.af->z35 M n q->z35 M' (iP n p) q:=fun {M M' p q} K kp hk h=>by
  have hi:=(SI n p).2;refine⟨fun z=>(h.1 z).same K hi ?_,fun z=> ?_,fun z=>(h.2.2 z).same K hi ?_⟩
  ·rcases kp with e|e|e|e
   ·rw[C9 e]
   ·exact absurd (e.trans z.symm) hk
   ·rw[EG e]
   rw[EH e]
  ·rw[hi];have:(iP n p).draw=n.draw:=by
    rcases kp with e|e|e|e
    ·rw[C9 e]
    ·rw[EF e]
    ·exact absurd (e.trans z.symm) hk
    rw[EH e]
   rw[this];exact h.2.1 z
  rcases kp with e|e|e|e
  ·rw[C9 e]
  ·rw[EF e]
  ·rw[EG e]
  exact absurd (e.trans z.symm) hk
 refine⟨gen Kp kp hk hq,gen Kq kq (Ne.symm hk) hp,?_⟩;rcases kp with e|e|e|e<;>rcases kq with f|f|f|f<;>first
  |exact absurd (e.trans f.symm) hk
  | (simp only[C9,EF,EH,EG,e,f])
theorem xw(hs:gH l)(kp:K3 p)(kq:K3 q)(hk:p.af≠q.af)(hp:cV l p=0)(hq:cV l q=0)(gp:Gd U s p)(gq:Gd U t q):MU U s t l p q:=
 xu (yE (.inl hk)) gp gq (Gq hs kp kq kp kq rfl rfl hp hq (fun _=>⟨rfl,rfl⟩) (fun e n hn h1 h2=>y9v (xq hs hp) (xq hs hq) kp kq hk h1 h2))
theorem MW(hs:gH l)(kp:K3 p)(kq:K3 q)(hk:p.ai≠q.ai)(hp:cV l p=0)(hq:cV l q=0)(gp:Gd U s p)(gq:Gd U t q):MU U s t l p q:=
 xu (yE (.inr (.inr hk))) gp gq (Gq hs kp kq kp kq rfl rfl hp hq (fun _=>⟨rfl,rfl⟩) (fun e=>absurd e hk))
structure MX(U:US)(n:Node):Prop where
 g:NG U n
 fl:n.aD.length<=100000
 dr:n.draw.Pairwise iB
 gr:Ju 100000 n.az
theorem dia(hU:UB U)(hs:gH l)(hn:∀n∈l,MX U n)(bH:s≠t)(gp:Gd U s p)(gq:Gd U t q)(hp:cV l p=0)(hq:cV l q=0):MU U s t l p q:=by
 have lJ:=gp;have l8:=gq;have mem:∀{k n},iE l k=some n->MX U n:=fun h=>hn _ ((s9 hs).1 h).1
 cases gp with
 |N n hg hz hv hi=>
  cases gq with
  |N m Fq Da mQ E9=>exact xu (yE (.inr (.inl rfl))) lJ l8 (x4Z hs rfl rfl hp hq (fun e=>by have e:n.id=m.id:=e;omega))
  |A k c hk hc=>exact xu (yE (.inr (.inl rfl))) lJ l8 (C8 hs rfl (.inl rfl) hp hq)
  |F k st us hk hd ha=>exact xu (yE (.inr (.inl rfl))) lJ l8 (C8 hs rfl (.inr (.inl rfl)) hp hq)
  |D k c hk hc hz b9 hl=>exact xu (yE (.inr (.inl rfl))) lJ l8 (C8 hs rfl (.inr (.inr (.inl rfl))) hp hq)
  |G k e hk he hl=>exact xu (yE (.inr (.inl rfl))) lJ l8 (C8 hs rfl (.inr (.inr (.inr rfl))) hp hq)
 |A k c hk hc=>
  cases gq with
  |N m Fq Da mQ E9=>
   obtain⟨a,b,c⟩:=C8 (q:=j0 k c) hs (show(nk m).af=0 from rfl) (.inl rfl) hq hp;exact xu (yE (.inl (show(1:Int)≠0 by decide))) lJ l8 ⟨b,a,c.symm⟩
  |A j e hj he=>
   by_cases yF:k=j
   ·subst yF;have r:=Gq (p:=j0 k c) (q:=j0 k e) (p':=j0 k (fm iw c e)) (q':=j0 k e) hs (.inl rfl) (.inl rfl) (.inl rfl) (.inl rfl) rfl rfl hp hq (fun z=>absurd rfl z) (fun _ n yG _ _=>by
     refine⟨⟨fun z=>absurd (show(1:Int)=2 from z) dM,fun z=>absurd (show(1:Int)=4 from z) dM,fun z=>absurd (show(1:Int)=3 from z) dM⟩,⟨fun z=>absurd (show(1:Int)=2 from z) dM,fun z=>absurd (show(1:Int)=4 from z) dM,fun z=>absurd (show(1:Int)=3 from z) dM⟩,?_⟩;rw[C9 (o:=j0 k c) rfl,C9 (o:=j0 k e) rfl,C9 (o:=j0 k e) rfl,C9 (o:=j0 k (fm iw c e)) rfl];have:=W9 FO (mem yG).g.uA.g hc.g he.g;show({n with ah:=fm eY (fm eY n.ah c) e}:Node)={n with ah:=fm eY (fm eY n.ah e) (fm iw c e)}
     rw[this])
    refine⟨?_,?_,?_,?_,?_⟩<;>rw[x79]
    ·exact .A k _ hk (Lo Gc hc he)
    ·exact l8
    ·exact r.1
    ·exact r.2.1
    exact r.2.2
   exact MW hs (.inl rfl) (.inl rfl) yF hp hq lJ l8
  |F j st us hj hd ha=>exact xw hs (.inl rfl) (.inr (.inl rfl)) (show(1:Int)≠2 by decide) hp hq lJ l8
  |D j c' hj pQ hz b9 hl=>exact xw hs (.inl rfl) (.inr (.inr (.inl rfl))) (show(1:Int)≠4 by decide) hp hq lJ l8
  |G j e hj he hl=>exact xw hs (.inl rfl) (.inr (.inr (.inr rfl))) (show(1:Int)≠3 by decide) hp hq lJ l8
 |F k st us hk hd ha=>
  cases gq with
  |N m Fq Da mQ E9=>
   obtain⟨a,b,c⟩:=C8 (q:=gG k st) hs (show(nk m).af=0 from rfl) (.inr (.inl rfl)) hq hp;exact xu (yE (.inl (show(2:Int)≠0 by decide))) lJ l8 ⟨b,a,c.symm⟩
  |A j e hj he=>exact xw hs (.inr (.inl rfl)) (.inl rfl) (show(2:Int)≠1 by decide) hp hq lJ l8
  |F j st' mJ hj AJ Oa=>
   by_cases yF:k=j
   ·subst yF;obtain⟨n,yG,dF⟩:=(tT hs (o:=gG k st) (.inr (.inl rfl))).1 hp;obtain⟨n2,EI,EJ⟩:=(tT hs (o:=gG k st') (.inr (.inl rfl))).1 hq;have EA:n2=n:=by
     have h2:iE l k=some n2:=EI;have h1:iE l k=some n:=yG;rw[h1] at h2;injection h2 with h2;exact h2.symm
    subst EA;have hb:=mem yG;have fd:=x4X hU (xq hs hp) (xq hs hq) hd AJ (dF.1 rfl) (EJ.1 rfl) hb.g.fl hb.fl ha Oa;obtain⟨f1,f2,f3,f4,f5,f6,f7⟩:=fd;have r:=Gq (p:=gG k st) (q:=gG k st') (p':=gG k (jD st st')) (q':=gG k (pO st st')) hs (.inr (.inl rfl)) (.inr (.inl rfl)) (.inr (.inl rfl)) (.inr (.inl rfl)) rfl rfl hp hq (fun z=>absurd rfl z) (fun _ m hm _ _=>by
     have em:m=n2:=by
      have h2:iE l k=some m:=hm;have h1:iE l k=some n2:=yG;rw[h1] at h2;injection h2 with h2;exact h2.symm
     subst em;rw[EF (o:=gG k st) rfl,EF (o:=gG k st') rfl];refine⟨⟨fun _=>f1,fun z=>absurd (show(2:Int)=4 from z) dM,fun z=>absurd (show(2:Int)=3 from z) dM⟩,⟨fun _=>f2,fun z=>absurd (show(2:Int)=4 from z) dM,fun z=>absurd (show(2:Int)=3 from z) dM⟩,?_⟩;rw[EF (o:=gG k (pO st st')) rfl,EF (o:=gG k (jD st st')) rfl];show({m with aD:=jx (jx m.aD st) (pO st st')}:Node)={m with aD:=jx (jx m.aD st') (jD st st')}
     rw[f3])
    refine⟨?_,?_,?_,?_,?_⟩<;>rw[x8a]
    ·exact .F k _ _ hk f4 f6
    ·exact .F k _ _ hk f5 f7
    ·exact r.1
    ·exact r.2.1
    exact r.2.2
   exact MW hs (.inr (.inl rfl)) (.inr (.inl rfl)) yF hp hq lJ l8
  |D j c' hj pQ hz b9 hl=>exact xw hs (.inr (.inl rfl)) (.inr (.inr (.inl rfl))) (show(2:Int)≠4 by decide) hp hq lJ l8
  |G j e hj he hl=>exact xw hs (.inr (.inl rfl)) (.inr (.inr (.inr rfl))) (show(2:Int)≠3 by decide) hp hq lJ l8
 |D k c hk hc hz b9 hl=>
  cases gq with
  |N m Fq Da mQ E9=>
   obtain⟨a,b,c⟩:=C8 (q:=j3 k c) hs (show(nk m).af=0 from rfl) (.inr (.inr (.inl rfl))) hq hp;exact xu (yE (.inl (show(4:Int)≠0 by decide))) lJ l8 ⟨b,a,c.symm⟩
  |A j e hj he=>exact xw hs (.inr (.inr (.inl rfl))) (.inl rfl) (show(4:Int)≠1 by decide) hp hq lJ l8
  |F j st us hj hd ha=>exact xw hs (.inr (.inr (.inl rfl))) (.inr (.inl rfl)) (show(4:Int)≠2 by decide) hp hq lJ l8
  |D j e hj he Da cK lU=>
   by_cases yF:k=j
   ·subst yF;refine xu (x8b _ _ _ _) lJ l8 (Gq hs (.inr (.inr (.inl rfl))) (.inr (.inr (.inl rfl))) (.inr (.inr (.inl rfl))) (.inr (.inr (.inl rfl))) rfl rfl hp hq (fun z=>absurd rfl z) (fun _ n yG h1 h2=> ?_));obtain⟨u1,u2⟩:=h1.2.1 rfl;obtain⟨v1,v2⟩:=h2.2.1 rfl;obtain⟨w1,w2,w3⟩:=x2C (mem yG).dr (Ez.1 hc).2 (Ez.1 he).2 u2 v2 (fun x hx y hy=>by rw[b9 x hx,cK y hy];exact bH);rw[EG (o:=j3 k c) rfl,EG (o:=j3 k e) rfl];refine⟨⟨fun z=>absurd (show(4:Int)=2 from z) dM,fun _=>⟨u1,w1⟩,fun z=>absurd (show(4:Int)=3 from z) dM⟩,⟨fun z=>absurd (show(4:Int)=2 from z) dM,fun _=>⟨u1,w2⟩,fun z=>absurd (show(4:Int)=3 from z) dM⟩,?_⟩;rw[EG (o:=j3 k e) rfl,EG (o:=j3 k c) rfl];show({n with draw:=(dN ((dN n.draw c).getD []) e).getD []}:Node)={n with draw:=(dN ((dN n.draw e).getD []) c).getD []}
    rw[w3]
   exact MW hs (.inr (.inr (.inl rfl))) (.inr (.inr (.inl rfl))) yF hp hq lJ l8
  |G j e hj he hl=>exact xw hs (.inr (.inr (.inl rfl))) (.inr (.inr (.inr rfl))) (show(4:Int)≠3 by decide) hp hq lJ l8
 |G k e hk he hl=>
  cases gq with
  |N m Fq Da mQ E9=>
   obtain⟨a,b,c⟩:=C8 (q:=gY k e) hs (show(nk m).af=0 from rfl) (.inr (.inr (.inr rfl))) hq hp;exact xu (yE (.inl (show(3:Int)≠0 by decide))) lJ l8 ⟨b,a,c.symm⟩
  |A j c hj hc=>exact xw hs (.inr (.inr (.inr rfl))) (.inl rfl) (show(3:Int)≠1 by decide) hp hq lJ l8
  |F j st us hj hd ha=>exact xw hs (.inr (.inr (.inr rfl))) (.inr (.inl rfl)) (show(3:Int)≠2 by decide) hp hq lJ l8
  |D j c hj hc hz b9 hl=>exact xw hs (.inr (.inr (.inr rfl))) (.inr (.inr (.inl rfl))) (show(3:Int)≠4 by decide) hp hq lJ l8
  |G j f hj hf lU=>
   by_cases yF:k=j
   ·subst yF;obtain⟨n,yG,dF⟩:=(tT hs (o:=gY k e) (.inr (.inr (.inr rfl)))).1 hp;obtain⟨n2,EI,EJ⟩:=(tT hs (o:=gY k f) (.inr (.inr (.inr rfl)))).1 hq;have EA:n2=n:=by
     have h2:iE l k=some n2:=EI;have h1:iE l k=some n:=yG;rw[h1] at h2;injection h2 with h2;exact h2.symm
    subst EA;have hb:=mem yG;obtain⟨T,f1,f2⟩:=x4Y (xq hs hp) (xq hs hq) (dF.2.2 rfl) (EJ.2.2 rfl) hl lU hb.g.kd (qp _) hb.gr;have r:=Gq (p:=gY k e) (q:=gY k f) (p':=gY k (z12 e f)) (q':=gY k (nD e f)) hs (.inr (.inr (.inr rfl))) (.inr (.inr (.inr rfl))) (.inr (.inr (.inr rfl))) (.inr (.inr (.inr rfl))) rfl rfl hp hq (fun z=>absurd rfl z) (fun _ m hm _ _=>by
     have em:m=n2:=by
      have h2:iE l k=some m:=hm;have h1:iE l k=some n2:=yG;rw[h1] at h2;injection h2 with h2;exact h2.symm
     subst em;rw[EH (o:=gY k e) rfl,EH (o:=gY k f) rfl];refine⟨⟨fun z=>absurd (show(3:Int)=2 from z) dM,fun z=>absurd (show(3:Int)=4 from z) dM,fun _=>f1⟩,⟨fun z=>absurd (show(3:Int)=2 from z) dM,fun z=>absurd (show(3:Int)=4 from z) dM,fun _=>f2⟩,?_⟩;rw[EH (o:=gY k (nD e f)) rfl,EH (o:=gY k (z12 e f)) rfl];show({m with az:=kg (kg m.az e) (nD e f)}:Node)={m with az:=kg (kg m.az f) (z12 e f)}
     have E:kg (kg m.az e) (nD e f)=kg (kg m.az f) (z12 e f):=T.eq;rw[E])
    refine⟨?_,?_,?_,?_,?_⟩<;>rw[x8c]
    ·exact .G k _ hk (ML T.fx) T.lx
    ·exact .G k _ hk (ML T.fy) T.ly
    ·exact r.1
    ·exact r.2.1
    exact r.2.2
   exact MW hs (.inr (.inr (.inr rfl))) (.inr (.inr (.inr rfl))) yF hp hq lJ l8
theorem VD.ins{l:List Node}(h:VD l){n:Node}(hn:fT n=0)(hh:eM l n.id=false)(hr:∀r∈lG n,∃m∈l,m.id=r/\gz n.af m.af=true):VD (tK l n):=by
 have h0:=h.ne;obtain⟨s1,s2,s3⟩:=xN l n.id;have bn:=(Gg hn).1;have dh:n.id≠1:=fun e=>by
  have:eM l n.id=true:=h.has.2 ⟨l.getD 0 default,fE h0,h.one.trans e.symm⟩;rw[hh] at this;cases this
 have gW:1<=bt l n.id:=by
  apply qc;intro q;have:=s3 oM;rw[show bt l n.id=0 by omega,h.one] at this;omega
 have hg0:(tK l n).getD 0 default=l.getD 0 default:=by
  unfold tK;rw[qd,qx (by rw[qz];omega),List.getElem?_take_of_lt oM,qd]
 have key:∀(k r:Int),(∃m∈l,m.id=r/\gz k m.af=true)->∃m∈tK l n,m.id=r/\gz k m.af=true:=by
  rintro k r ⟨m,hm,q⟩;exact⟨m,Gp.2 (.inr hm),q⟩
 refine⟨by unfold tK;simp;omega,by rw[hg0];exact h.one,SJ h.pz hh,fun m hm=> ?_,fun m hm r jG=> ?_⟩
 ·rcases Gp.1 hm with rfl|q
  ·exact hn
  exact h.ai m q
 rcases Gp.1 hm with rfl|q
 ·exact key _ _ (hr r jG)
 exact key _ _ (h.refs m q r jG)
theorem GP.nb{m:Nat}(h:GP U m l)(hm:m<=100000):∀n∈l,MX U n:=fun n hn=>⟨(h.nd n hn).1,qC (h.nd n hn).2.fl hm,(Ez.1 (EC (h.vd.ai n hn))).2,(h.nd n hn).1.mg,(h.nd n hn).1.ce,qC (h.nd n hn).2.ce hm,by have:=(h.nd n hn).2.ro;omega,by have:=(h.nd n hn).2.co;omega⟩
theorem KR{m:Nat}(h:GP U m l)(hm:10<=m)(E5:m<=100000){o:aP}(g:Gd U s o)(h0:cV l o=0):GP U (m+12) (cn l o)/\(cn l o).length<=l.length+1:=by
 cases g with
 |N n hg hz hv hi=>
  obtain⟨hh,e,_,_⟩:=yD h.vd.pz (o:=nk n) rfl h0;have hr:=((EE h.vd.pz (o:=nk n) rfl).1 h0).2;have hh:eM l n.id=false:=hh;have e:cn l (nk n)=tK l n:=e;rw[e];refine⟨⟨h.vd.ins hv hh fun r jG=> ?_,fun x hx=> ?_⟩,?_⟩
  ·obtain⟨x,hx,q⟩:=hr r jG;obtain⟨a,b⟩:=(s9 h.vd.pz).1 hx;exact⟨x,a,b,q⟩
  ·rcases Gp.1 hx with rfl|q
   ·exact⟨hg,hz.mono oM⟩
   exact⟨(h.nd x q).1,(h.nd x q).2.mono oM⟩
  unfold tK;rw[qf,qi,qz,qT];omega
 |A k c hk hc=>exact⟨(x9X h hc h0).mono oM,by rw[(Jw (o:=j0 k c) (show(1:Int)≠0 by decide) h0).1];omega⟩
 |F k st us hk hd ha=>
  have hl:=hd.lens;have hn:=MT us;exact⟨MP h hd (q:=12) oM h0,by rw[(Jw (o:=gG k st) (show(2:Int)≠0 by decide) h0).1];omega⟩
 |D k c hk hc hz hs hl=>exact⟨(x56 h hz hc h0).mono oM,by rw[(Jw (o:=j3 k c) (show(4:Int)≠0 by decide) h0).1];omega⟩
 |G k e hk he hl=>exact⟨(SA h hl E5 h0).mono oM,by rw[(Jw (o:=gY k e) (show(3:Int)≠0 by decide) h0).1];omega⟩
def jS:aP->List aP->aP×List aP
 |p,[]=>(p,[])
 |p,q::qs=>((jS (gE p q).1 qs).1,(gE p q).2::(jS (gE p q).1 qs).2)
def jP:List aP->List aP->List aP×List aP
 | [],qs=>([],qs)
 |p::ps,qs=>((jS p qs).1::(jP ps (jS p qs).2).1,(jP ps (jS p qs).2).2)
theorem HX{l:List Node}{o:aP}{c:List aP}:iz l (o::c)=0↔cV l o=0/\iz (cn l o) c=0:=by
 rw[iz];split
 ·rename_i h;exact⟨fun q=>absurd q h,fun q=>absurd q.1 h⟩
 rename_i h;exact⟨fun q=>⟨qc h,q⟩,fun q=>q.2⟩
def Gt(U:US)(s t:Int)(p q:aP):Prop:=Gd U s p/\Gd U t q/\(p.af=2->q.af=2->p.ai=q.ai->eu p.aQ=eu q.aQ/\eU p.aQ+eU q.aQ<=300000)/\(p.af=3->q.af=3->p.ai=q.ai->sZ p.az q.az)
def JA(U:US)(s t:Int):aP->List aP->Prop
 |_,[]=>True
 |p,q::qs=>Gt U s t p q/\JA U s t (gE p q).1 qs
def Fp(U:US)(s t:Int):List aP->List aP->Prop
 | [],_=>True
 |p::ps,qs=>JA U s t p qs/\Fp U s t ps (jS p qs).2
theorem x40(hs:gH l)(hn:∀n∈l,MX U n)(gp:Gd U s p)(gq:Gd U t q)(hp:cV l p=0)(hq:cV l q=0):Gt U s t p q:=by
 refine⟨gp,gq,fun k1 k2 e=> ?_,fun k1 k2 e=> ?_⟩;rotate_left
 ·obtain⟨n,h1,f1⟩:=(tT hs (.inr (.inr (.inr k1)))).1 hp;obtain⟨m,h2,f2⟩:=(tT hs (.inr (.inr (.inr k2)))).1 hq;rw[<-e,h1] at h2;injection h2 with h2;subst h2
  have lt:∀{s:Int} {o:aP},Gd U s o->o.af=3->p9 o.az:=fun g hk=>by
   cases g with
   |N n=>exact absurd (show(0:Int)=3 from hk) dM
   |A k c=>exact absurd (show(1:Int)=3 from hk) dM
   |F k st us=>exact absurd (show(2:Int)=3 from hk) dM
   |D k c=>exact absurd (show(4:Int)=3 from hk) dM
   |G k e hk he hl=>exact hl
  exact(y76 (qp _) (hn n ((s9 hs).1 h1).1).gr (lt gp k1) (lt gq k2) (f1.2.2 k1).ft (f2.2.2 k2).ft).pg
 obtain⟨n,h1,f1⟩:=(tT hs (.inr (.inl k1))).1 hp;obtain⟨m,h2,f2⟩:=(tT hs (.inr (.inl k2))).1 hq;rw[<-e,h1] at h2;injection h2 with h2;subst h2
 have o1:=(f1.1 k1).old;have o2:=(f2.1 k2).old;have hl:=(hn n ((s9 hs).1 h1).1).fl;have key:∀{s:Int} {o:aP},Gd U s o->o.af=2->eU o.aQ<=eu o.aQ+12:=fun g hk=>by
  cases g with
  |N n=>exact absurd (show(0:Int)=2 from hk) dM
  |A k c=>exact absurd (show(1:Int)=2 from hk) dM
  |D k c=>exact absurd (show(4:Int)=2 from hk) dM
  |G k c=>exact absurd (show(3:Int)=2 from hk) dM
  |F k st us hk hd ha=>
   have hl:=hd.lens;have:=MT us;show eU st<=eu st+12;omega
 have a:=key gp k1;have b:=key gq k2;exact⟨o1.trans o2.symm,oM⟩
theorem x6h(hU:UB U)(bH:s≠t):∀(qs:List aP) {l:List Node} {m:Nat} {p:aP},GP U m l->10<=m->m+12*(qs.length+1)<=90000->Gd U s p->(∀q∈qs,Gd U t q)->cV l p=0->iz l qs=0->
 Gd U s (jS p qs).1/\(∀q∈(jS p qs).2,Gd U t q)/\(jS p qs).2.length=qs.length/\JA U s t p qs/\iz (cn l p) (jS p qs).2=0/\cV (gK l qs) (jS p qs).1=0/\gK (cn l p) (jS p qs).2=cn (gK l qs) (jS p qs).1
 | [],l,m,p,h,hm,hb,gp,_,hp,_=>⟨gp,fun q hq=>(by cases hq),rfl,trivial,rfl,hp,rfl⟩
 |q::qs,l,m,p,h,hm,hb,gp,gq,hp,hq=>by
  simp only[qi] at hb;obtain⟨q1,q2⟩:=HX.1 hq;have nb:=h.nb oM;have g0:=gq q sM;have d:=dia hU h.vd.pz nb bH gp g0 hp q1;obtain⟨i1,i2,i3,i4,i5,i6,i7⟩:=x6h hU bH qs (KR h hm oM g0 q1).1 oM oM d.g1 (fun x hx=>gq x (by simp[hx])) d.e2 q2;refine⟨i1,fun x hx=> ?_,by show _+1=_+1;rw[i3],⟨x40 h.vd.pz nb gp g0 hp q1,i4⟩,HX.2 ⟨d.e1,?_⟩,i6,?_⟩
  ·rcases qg.1 hx with rfl|hx
   ·exact d.g2
   exact i2 x hx
  ·rw[d.eq];exact i5
  show gK (cn (cn l p) (gE p q).2) (jS (gE p q).1 qs).2=_;rw[d.eq];exact i7
theorem Vo(hU:UB U)(bH:s≠t):∀(ps:List aP) {l:List Node} {m:Nat} {qs:List aP},GP U m l->10<=m->m+12*(ps.length+qs.length+1)<=90000->(∀p∈ps,Gd U s p)->(∀q∈qs,Gd U t q)->iz l ps=0->iz l qs=0->
 (∀p∈(jP ps qs).1,Gd U s p)/\(∀q∈(jP ps qs).2,Gd U t q)/\((jP ps qs).1.length=ps.length/\(jP ps qs).2.length=qs.length)/\Fp U s t ps qs/\iz (gK l ps) (jP ps qs).2=0/\iz (gK l qs) (jP ps qs).1=0/\gK (gK l ps) (jP ps qs).2=gK (gK l qs) (jP ps qs).1
 | [],l,m,qs,h,hm,hb,_,gq,_,hq=>⟨fun p hp=>(by cases hp),gq,⟨rfl,rfl⟩,trivial,hq,rfl,rfl⟩
 |p::ps,l,m,qs,h,hm,hb,gp,gq,hp,hq=>by
  simp only[qi] at hb;obtain⟨p1,p2⟩:=HX.1 hp;have g0:=gp p sM;obtain⟨r1,r2,r3,r4,r5,r6,r7⟩:=x6h hU bH qs h hm oM g0 gq p1 hq;obtain⟨i1,i2,⟨i3,i3'⟩,i4,i5,i6,i7⟩:=Vo hU bH ps (qs:=(jS p qs).2) (KR h hm oM g0 p1).1 oM (by rw[r3];omega) (fun x hx=>gp x (by simp[hx])) r2 p2 r5;refine⟨fun x hx=> ?_,i2,⟨by show _+1=_+1;rw[i3],i3'.trans r3⟩,⟨r4,i4⟩,i5,HX.2 ⟨r6,?_⟩,?_⟩
  ·rcases qg.1 hx with rfl|hx
   ·exact r1
   exact i1 x hx
  ·rw[<-r7];exact i6
  show gK (gK (cn l p) ps) _=gK (cn (gK l qs) (jS p qs).1) _;rw[<-r7];exact i7
end Go.Ch
end
section
namespace Go.Ch
open Go Go.Ab
variable {U:US} {s t:Int}
theorem w2n{l:List aP}{i:Nat}(h:i<l.length):l.getD i default=l[i]:=by simp[List.getD,qa h]
theorem MY{l:List aP}{i:Nat}(h:i<l.length):l.take (i+1)=l.take i++[l.getD i default]:=by rw[qt h,w2n h]
theorem x96{l:List aP}{i:Nat}(h:i<l.length):l.drop i=l.getD i default::l.drop (i+1):=by rw[zh h,w2n h]
theorem Fb{a b:List aP}{x y:aP}{i:Nat}(h:a.length=i):(a++x::b).set i y=a++y::b:=by
 rw[List.set_append_right _ _ oM,h,Nat.sub_self];rfl
theorem x6j{a b:List aP}{x:aP}{i:Nat}(h:a.length=i):(a++x::b).getD i default=x:=by
 rw[qd,qK oM,h,Nat.sub_self];rfl
theorem SM:∀(xs:List aP) (p q:aP),jS p (xs++[q])=((gE (jS p xs).1 q).1,(jS p xs).2++[(gE (jS p xs).1 q).2])
 | [],p,q=>rfl
 |x::xs,p,q=>by
  rw[qm,jS,SM xs];rfl
theorem MZ:∀(xs:List aP) (p:aP),(jS p xs).2.length=xs.length
 | [],p=>rfl
 |x::xs,p=>by rw[jS];show(jS _ xs).2.length+1=_;rw[MZ xs];rfl
theorem SN:∀(xs:List aP) (p:aP) (qs:List aP),jP (xs++[p]) qs=((jP xs qs).1++[(jS p (jP xs qs).2).1],(jS p (jP xs qs).2).2)
 | [],p,qs=>rfl
 |x::xs,p,qs=>by
  rw[qm,jP,SN xs];rfl
theorem z51:∀(xs qs:List aP),(jP xs qs).1.length=xs.length/\(jP xs qs).2.length=qs.length
 | [],qs=>⟨rfl,rfl⟩
 |x::xs,qs=>by
  obtain⟨a,b⟩:=z51 xs (jS x qs).2;exact⟨by rw[jP];show(jP xs _).1.length+1=_;rw[a];rfl,by rw[jP];show(jP xs _).2.length=_;rw[b,MZ]⟩
def xx(ps qs:List aP)(i:Nat):List aP:=(jP (ps.take i) qs).1++ps.drop i
def tU(ps qs:List aP)(i:Nat):List aP:=(jP (ps.take i) qs).2
def yH(p:aP)(Q:List aP)(k:Nat):aP:=(jS p (Q.take k)).1
def yI(p:aP)(Q:List aP)(k:Nat):List aP:=(jS p (Q.take k)).2++Q.drop k
variable {ps qs Q:List aP} {p:aP} {i k:Nat}
theorem x42(h:ps.length<=i):xx ps qs i=(jP ps qs).1:=by unfold xx;rw[qk h,qN h,qL]
theorem x43(h:ps.length<=i):tU ps qs i=(jP ps qs).2:=by unfold tU;rw[qk h]
theorem SO(h:i<=ps.length):(xx ps qs i).length=ps.length:=by
 unfold xx;rw[qf,(z51 _ _).1,qz,qT];omega
theorem BN:(tU ps qs i).length=qs.length:=(z51 _ _).2
theorem y4D(h:i<ps.length):xx ps qs i=(jP (ps.take i) qs).1++ps.getD i default::ps.drop (i+1)/\(jP (ps.take i) qs).1.length=i:=
 ⟨by unfold xx;rw[x96 h],by rw[(z51 _ _).1,qz];omega⟩
theorem x8d(h:i<ps.length):(xx ps qs i).getD i default=ps.getD i default:=by
 obtain⟨a,b⟩:=y4D (qs:=qs) h;rw[a,x6j b]
theorem x2F(h:i<ps.length):xx ps qs (i+1)=(xx ps qs i).set i (jS (ps.getD i default) (tU ps qs i)).1:=by
 obtain⟨a,b⟩:=y4D (qs:=qs) h;rw[a,Fb b];unfold xx tU;rw[MY h,SN,qI];rfl
theorem x2G(h:i<ps.length):tU ps qs (i+1)=(jS (ps.getD i default) (tU ps qs i)).2:=by
 unfold tU;rw[MY h,SN]
theorem x44(h:Q.length<=k):yH p Q k=(jS p Q).1:=by unfold yH;rw[qk h]
theorem x45(h:Q.length<=k):yI p Q k=(jS p Q).2:=by unfold yI;rw[qk h,qN h,qL]
theorem x46(h:k<=Q.length):(yI p Q k).length=Q.length:=by unfold yI;rw[qf,MZ,qz,qT];omega
theorem y4E(h:k<Q.length):yI p Q k=(jS p (Q.take k)).2++Q.getD k default::Q.drop (k+1)/\(jS p (Q.take k)).2.length=k:=
 ⟨by unfold yI;rw[x96 h],by rw[MZ,qz];omega⟩
theorem x8e(h:k<Q.length):(yI p Q k).getD k default=Q.getD k default:=by
 obtain⟨a,b⟩:=y4E (p:=p) h;rw[a,x6j b]
theorem x2H(h:k<Q.length):yH p Q (k+1)=(gE (yH p Q k) (Q.getD k default)).1:=by
 unfold yH;rw[MY h,SM]
theorem x2I(h:k<Q.length):yI p Q (k+1)=(yI p Q k).set k (gE (yH p Q k) (Q.getD k default)).2:=by
 obtain⟨a,b⟩:=y4E (p:=p) h;rw[a,Fb b];unfold yI yH;rw[MY h,SM,qI];rfl
theorem y8h:∀(Q:List aP) (p:aP),JA U s t p Q->∀k,k<Q.length->Gt U s t (yH p Q k) (Q.getD k default)
 | [],p,_,k,hk=>absurd hk sM
 |q::Q,p,h,0,_=>h.1
 |q::Q,p,h,k+1,hk=>y8h Q _ h.2 k (by simpa using hk)
theorem y8i:∀(ps qs:List aP),Fp U s t ps qs->∀i,i<ps.length->JA U s t (ps.getD i default) (tU ps qs i)
 | [],qs,_,i,hi=>absurd hi sM
 |p::ps,qs,h,0,_=>h.1
 |p::ps,qs,h,i+1,hi=>y8i ps _ h.2 i (by simpa using hi)
theorem x8f(h:Fp U s t ps qs)(hi:i<ps.length)(hk:k<qs.length):Gt U s t (yH (ps.getD i default) (tU ps qs i) k) ((tU ps qs i).getD k default):=
 y8h _ _ (y8i _ _ h i hi) k (by rw[BN];exact hk)
theorem x8g{o:aP}(h:Gd U s o):o.af=0\/o.af=1\/o.af=2\/o.af=4\/o.af=3:=by
 cases h with
 |N=>exact .inl rfl
 |A=>exact .inr (.inl rfl)
 |F=>exact .inr (.inr (.inl rfl))
 |D=>exact .inr (.inr (.inr (.inl rfl)))
 |G=>exact .inr (.inr (.inr (.inr rfl)))
theorem x8h{p q:aP}(hk:p.af=q.af)(h1:p.af=1)(hn:p.ai=q.ai):gE p q=({p with ah:=fm iw p.ah q.ah},q):=by
 unfold gE;rw[if_neg (by rintro(h|h|h);exact h hk;omega;exact h hn),if_pos h1]
theorem x8i{p q:aP}(hk:p.af=q.af)(h1:p.af=2)(hn:p.ai=q.ai):gE p q=({p with aQ:=jD p.aQ q.aQ},{q with aQ:=pO p.aQ q.aQ}):=by
 unfold gE;rw[if_neg (by rintro(h|h|h);exact h hk;omega;exact h hn),if_neg oM,if_pos h1]
theorem x8j{p q:aP}(hk:p.af=q.af)(h1:p.af=3)(hn:p.ai=q.ai):gE p q=({p with az:=z12 p.az q.az},{q with az:=nD p.az q.az}):=by
 unfold gE;rw[if_neg (by rintro(h|h|h);exact h hk;omega;exact h hn),if_neg oM,if_neg oM,if_pos h1]
theorem M0{p q:aP}(h1:p.af≠1)(h2:p.af≠2)(h3:p.af≠3):gE p q=(p,q):=by
 unfold gE;split
 ·rfl
 first|rfl|rw[if_neg h1,if_neg h2,if_neg h3]
theorem y8j{o:aP}(h:Gd U s o)(hk:o.af=1):dO true o.ah 0=0:=by
 cases h with
 |N=>exact absurd (show(0:Int)=1 from hk) dM
 |A k c h1 h2=>exact oW.2 h2.g
 |F=>exact absurd (show(2:Int)=1 from hk) dM
 |D=>exact absurd (show(4:Int)=1 from hk) dM
 |G=>exact absurd (show(3:Int)=1 from hk) dM
theorem y8k(hU:UB U){o:aP}(h:Gd U s o)(hk:o.af=2):j9 o.aQ/\DN 100000000000 o.aQ:=by
 cases h with
 |N=>exact absurd (show(0:Int)=2 from hk) dM
 |A=>exact absurd (show(1:Int)=2 from hk) dM
 |F k st us h1 h2 h3=>exact⟨h2.v,h2.dn hU.len⟩
 |D=>exact absurd (show(4:Int)=2 from hk) dM
 |G=>exact absurd (show(3:Int)=2 from hk) dM
theorem x6k(hU:UB U){o:aP}(h:Gd U s o):o.ah.length<=100:=by
 cases h with
 |N=>exact qG _
 |A k c h1 h2=>exact h2.len hU.len
 |F=>exact qG _
 |D=>exact qG _
 |G=>exact qG _
theorem x8k{p q:aP}(h:p.af≠q.af\/p.af=0\/p.ai≠q.ai):gE p q=(p,q):=by unfold gE;rw[if_pos h]
theorem y4F:∀(p q:List DU),gu (p++q)=gu p+gu q
 | [],q=>(zw _).symm
 |x::p,q=>by
  have:=y4F p q;cases x<;>simp only[qm,gu]<;>omega
theorem y4G:∀(es:List aL),gu (es.map .A)=es.length
 | []=>rfl
 |x::es=>by simp only[qU,gu,qi];rw[y4G es]
theorem y8l:∀{l:List aB} {s:aB},s∈l->s.af=1->s.elems.length<=gu (bD l)
 | [],s,h,_=>by cases h
 |t::l,s,h,k=>by
  rw[bD,y4F];rcases qg.1 h with rfl|h
  ·have:ir s=s.elems.map .A:=by unfold ir;rw[if_pos k]
   rw[this,y4G];omega
  have:=y8l h k;omega
theorem w1Z(hU:U.length<=100){l:List aB}{us:List DU}(h:jY U l us)(ha:gu us<=12):DN 1048576 l:=by
 intro s b9;have ho:=h.v.1.all s b9;have hm:=fun u fu=>UU.s hU (h.ex u (YS b9 (u:=u) fu))
 unfold ir at hm;have sa:=DE h.sw;rcases ho with⟨k,n,a,e,q⟩| ⟨k,a,b,n1,n2,v⟩
 ·have h1:=y8l b9 k;rw[if_pos k] at hm;refine⟨oM,by rw[a];simp,fun x hx=> ?_⟩;have:=(hm (.A x) (qO.2 ⟨x,hx,rfl⟩)).2;omega
 rw[if_neg oM] at hm;refine⟨by rw[a];simp,?_,fun x hx=>by rw[a] at hx;cases hx⟩;by_cases k2:s.af=2
 ·rw[b k2];simp
 rw[if_neg k2] at hm;have:=(hm (.K s.ah) (by rw[zY];exact⟨oM,rfl⟩)).2;omega
theorem w10{s:aB}(h:n9 s):1<=oS s+nS s:=by
 unfold oS nS cE;rcases h with⟨k,n,a,e,q⟩| ⟨k,a,b,n1,n2,v⟩
 ·have:0<s.elems.length:=jb.2 e;rw[if_pos k,if_neg oM,if_pos k];omega
 rw[if_neg (show¬s.af=1 by omega)];split<;>first|omega| (split<;>omega)
theorem Qe:∀{l:List aB},(∀s∈l,n9 s)->(l.length:Int)<=eu l+eU l
 | [],_=>by simp[eu,eU]
 |s::l,h=>by
  have:=Qe (l:=l) fun x hx=>h x (by simp[hx])
  have:=w10 (h s sM);rw[eu,eU,qi];omega
theorem x97{l:List aB}(h:j9 l):l.length<=4294967294:=by
 have:=Qe h.1.all;have:=h.2.1;have:=h.2.2;omega
structure vh(o:aP):Prop where
 op:pq o
 st:o.aQ.length<=4294967294
 dn:DN 1048576 o.aQ
 gn:kf ⟨0,0,[],[],⟨0,0,o.az.cells,[]⟩,[]⟩
theorem KW(hU:UB U){o:aP}(h:Gd U s o)(ho:pq o):vh o:=by
 cases h with
 |N n hg hz hv hi=>exact⟨ho,qG _,(fun x hx=>by cases hx),C6⟩
 |A k c hk hc=>exact⟨ho,qG _,(fun x hx=>by cases hx),C6⟩
 |F k st us hk hd ha=>exact⟨ho,x97 hd.v,w1Z hU.len hd ha,C6⟩
 |D k c hk hc hz hs hl=>exact⟨ho,qG _,(fun x hx=>by cases hx),C6⟩
 |G k e hk he hl=>exact⟨ho,qG _,(fun x hx=>by cases hx),⟨(fun a h=>by cases h),qG _,(fun x h=>by cases h),qG _,(fun x h=>by cases h),(fun c hc=>⟨by show c.text.size<=_;rw[(hl.ce c hc).2];decide,by rw[(hl.ce c hc).1];exact(fun a ha=>by cases ha)⟩),qC hl.ln dM,(fun c hc=>by rw[(hl.ce c hc).1];decide),qG _,qG _,(fun o h=>by cases h)⟩⟩
end Go.Ch
end
section
set_option maxRecDepth 100000
set_option maxHeartbeats 4000000
open Go Go.Proofs Go.Ab
namespace Go.Ch
theorem y4H(o:aP)(hb:vh o):FC Tryz.prog 45 [.t (bI o)] (app emp []) (.t (bI o)) (app emp []):=by
 refine .go Tryz.f45 ?_;have hN:=hb.op.nb;have hG:=hb.gn;have c1:=hb.op.uA;have c2:=hb.op.dr;have c3:=hb.st;have c4:=hb.op.len.a;have c5:=hb.op.len.b;have c6:=hb.op.len.d;have c7:=hb.op.len.e;refine .loop (α:=Nat×(List aB)) [.r [],.r [(2,X (bV 32 (HI o.nw (by assumption)) X0))],.r [(2,X (o5 aS 72 o.ah))],.r [(2,X (o5 cm 112 o.draw))],.r [(2,X (o5 bB 152 o.aQ))],.r []] 208 (fun(i,q)=>([(1,.ptr 0 0),(2,.ptr 8 0),(23,.aF 152 q.length),(24,VI (o.aQ.length:Int)),(25,VI (i:Int))],[(0,.box [VI o.af,VI o.ai,VI o.nw.id,VI o.nw.af,VL 2 aS o.nw.ah,VL 3 aU o.nw.aD,VI o.nw.az.ak,VI o.nw.az.aj,VL 5 bg o.nw.az.cells,VL 4 bE o.nw.az.aH,VL 8 cm o.nw.draw,.aF 72 o.ah.length,.aF 152 o.aQ.length,VL 2 bk o.az.ak,VL 2 bk o.az.aj,VL 5 bg o.az.cells,VL 4 bE o.az.split,VL 4 bE o.az.merge,.aF 112 o.draw.length]),(8,.box [VI 0,VI 0,VI 0,VI 0,VN,VN,VI 0,VI 0,VN,VN,VN,VN,VN,VN,VN,VN,VN,VN,VN]),(72,OR 2 aS o.ah),(112,OR 8 cm o.draw),(152,OR 4 bB q)])) (fun(i,q)=>i<=o.aQ.length/\q=o.aQ) (fun(i,q)=>o.aQ.length-i) (0,o.aQ) ?_ ?_
 ·exact⟨by omega,rfl⟩
 rintro⟨i,q⟩ I6 FX;try dsimp only at I6
 have ql:q.length=o.aQ.length:=by rw[I6.2]
 refine .bp [.r []] (decide ((i:Int)< (o.aQ.length:Int))) (fun h6=> ?_) (fun h6=> ?_)
 ·have hs:=hb.dn (o.aQ.getD i default) (fE (l:=o.aQ) (i:=i) (by omega));rw[<-I6.2] at hs;have rR:=hs.1;have cK:=hs.2.1;have hs3:=hs.2.2;refine .back [.r [(1,X (Xp bB q (i:Int))),(2,X (Xe bB q i))],.r [(5,X (o5 aS 304 (((q.getD i default)).ah))),(6,X (nr o.aQ.length bB q (i:Int))),(8,X (cg aS (((q.getD i default)).ah) (tE o.aQ.length 4 bB 152 q i ((q.getD i default)) [(304,OF 2 aS (((q.getD i default)).ah))])))],.r [(5,X (bV 376 (YE (((q.getD i default)).elems) (by assumption) (by assumption)) X0)),(6,X (nr o.aQ.length bB (q.set i ((q.getD i default))) (i:Int))),(8,X (tE o.aQ.length 4 bB 152 (q.set i ((q.getD i default))) i ({af:=(((q.set i ((q.getD i default))).getD i default)).af,n:=(((q.set i ((q.getD i default))).getD i default)).n,ah:=(((q.set i ((q.getD i default))).getD i default)).ah,elems:=(((q.getD i default)).elems)}:aB)))],.r [(0,X (Xn ((i:Int)+1)))],.le (.eq 23 (.aF 152 q.length) (.aF 152 (((q.set i ((q.getD i default))).set i ({af:=(((q.set i ((q.getD i default))).getD i default)).af,n:=(((q.set i ((q.getD i default))).getD i default)).n,ah:=(((q.set i ((q.getD i default))).getD i default)).ah,elems:=(((q.getD i default)).elems)}:aB)).length)) (.of_eq (by simp only[zt])))] [(0,0),(8,8),(72,72),(112,112),(152,152)] (FX ((i+1),((q.set i ((q.getD i default))).set i ({af:=(((q.set i ((q.getD i default))).getD i default)).af,n:=(((q.set i ((q.getD i default))).getD i default)).n,ah:=(((q.set i ((q.getD i default))).getD i default)).ah,elems:=(((q.getD i default)).elems)}:aB))) ?_ ?_)
  ·have e1:q.set i (q.getD i default)=q:=RI rfl;exact⟨by omega,by simp only[e1];rw[<-I6.2]⟩
  ((try dsimp only);omega)
 have e1:(o:aP)=({af:=o.af,ai:=o.ai,nw:=o.nw,ah:=o.ah,aQ:=q,az:=({ak:=o.az.ak,aj:=o.az.aj,cells:=((({id:=0,af:=0,ah:=[],aD:=[],az:=({ak:=0,aj:=0,cells:=o.az.cells,aH:=[]}:aX),draw:=[]}:Node)).az).cells,split:=o.az.split,merge:=o.az.merge}:bP),draw:=o.draw}:aP):=by
  rw[I6.2]
 exact .bA [.r [],.r [(2,X (o5 bk 264 o.az.ak)),(5,X (o5 bk 288 o.az.aj))],.r [(2,X (o5 bE 344 o.az.split)),(5,X (o5 bE 368 o.az.merge))],.r [(2,X (Xf [(3,4)])),(3,X (Xf [(2,2),(3,3),(8,8)])),(4,X (bV 440 (HI ({id:=0,af:=0,ah:=[],aD:=[],az:=({ak:=0,aj:=0,cells:=o.az.cells,aH:=[]}:aX),draw:=[]}:Node) (by assumption)) X0))],.r [],.r []] [.fR 0 [(o.ah.length:Nat)=(List.map aS o.ah).length,(o.aQ.length:Nat)=(List.map bB q).length,(o.az.ak.length:Nat)=(List.map bk o.az.ak).length,(o.az.aj.length:Nat)=(List.map bk o.az.aj).length,(o.az.split.length:Nat)=(List.map bE o.az.split).length,(o.az.merge.length:Nat)=(List.map bE o.az.merge).length,(o.draw.length:Nat)=(List.map cm o.draw).length] ⟨lm,lm,lm,lm,lm,lm,lm,trivial⟩] [] (fun z0:aP=>(.t (bI z0),[])) _ _ e1
theorem y4I(c:List aP)(hl:c.length<=1048576)(hc:∀o∈c,vh o):FC Tryz.prog 20 [VL 19 bI c] (app emp []) (.aF 0 c.length) (app emp [(0,OR 19 bI c)]):=by
 refine .go Tryz.f20 ?_;refine .len 0 (fun dQ=> ?_);refine .loop (α:=Nat×(List aP)) [.r [],.r [(1,X (Xl bI c)),(2,X (WU 19 bI 24 (c.length:Int) (c.length:Int) ({af:=0,ai:=0,nw:=({id:=0,af:=0,ah:=[],aD:=[],az:=({ak:=0,aj:=0,cells:=[],aH:=[]}:aX),draw:=[]}:Node),ah:=[],aQ:=[],az:=({ak:=[],aj:=[],cells:=[],split:=[],merge:=[]}:bP),draw:=[]}:aP) [TI 0,TI 0,TI 0,TI 0,TN,TN,TI 0,TI 0,TN,TN,TN,TN,TN,TN,TN,TN,TN,TN,TN] ⟨.inl rfl,⟨.inl rfl,⟨.inl rfl,⟨.inl rfl,⟨jQ dM,⟨jQ dM,⟨.inl rfl,⟨.inl rfl,⟨jQ dM,⟨jQ dM,⟨jQ dM,⟨jQ dM,⟨jQ dM,⟨jQ dM,⟨jQ dM,⟨jQ dM,⟨jQ dM,⟨jQ dM,⟨jQ dM,trivial⟩⟩⟩⟩⟩⟩⟩⟩⟩⟩⟩⟩⟩⟩⟩⟩⟩⟩⟩))],.r [(1,X (Xl bI c))]] 64 (fun(i,q)=>([(3,.aF 24 c.length),(9,VL 19 bI c),(10,VI (c.length:Int)),(11,VI (i:Int))],[(24,OR 19 bI q)])) (fun(i,q)=>i<=c.length/\q=c.take i++List.replicate (c.length-i) ({af:=0,ai:=0,nw:=({id:=0,af:=0,ah:=[],aD:=[],az:=({ak:=0,aj:=0,cells:=[],aH:=[]}:aX),draw:=[]}:Node),ah:=[],aQ:=[],az:=({ak:=[],aj:=[],cells:=[],split:=[],merge:=[]}:bP),draw:=[]}:aP)) (fun(i,q)=>c.length-i) (0,(List.replicate c.length ({af:=0,ai:=0,nw:=({id:=0,af:=0,ah:=[],aD:=[],az:=({ak:=0,aj:=0,cells:=[],aH:=[]}:aX),draw:=[]}:Node),ah:=[],aQ:=[],az:=({ak:=[],aj:=[],cells:=[],split:=[],merge:=[]}:bP),draw:=[]}:aP))) ?_ ?_
 ·exact⟨oM,sM⟩
 rintro⟨i,q⟩ I3 cC;try dsimp only at I3
 have ql:q.length=c.length:=by rw[I3.2];simp;omega
 refine .bp [.r []] (decide ((i:Int)< (c.length:Int))) (fun h3=> ?_) (fun h3=> ?_)
 ·have ho:=hc (c.getD i default) (fE oM);refine .back [.r [(1,X (Xi bI c (i:Int)))],.r [(3,X (bV 144 (y4H ((c.getD i default)) aM) X0)),(4,X (nr c.length bI q (i:Int))),(5,X (tE c.length 19 bI 24 q i (((c.getD i default)))))],.r [(0,X (Xn ((i:Int)+1)))]] [(24,24)] (cC ((i+1),(q.set i (((c.getD i default))))) ?_ ?_)
  ·refine⟨oM,?_⟩;rw[I3.2];exact Jc rfl oM rfl
  exact tO
 have e1:(c:List aP)=q:=by
  first|omega| (rw[I3.2,qk oM,show c.length-i=0 by omega];simp)
 exact .aG [.r []] [(24,0)] (fun z0:List aP=>(.aF 0 c.length,[(0,OR 19 bI z0)])) _ _ e1
theorem y8m(c:List aP)(hl:c.length<=1048576)(hc:∀o∈c,vh o):FC Tryz.prog 20 [VL 19 bI c] (app emp []) (VL 19 bI c) (app emp []):=by
 refine .go Tryz.f20 ?_;refine .len 0 (fun dQ=> ?_);refine .loop (α:=Nat×(List aP)) [.r [],.r [(1,X (Xl bI c)),(2,X (WU 19 bI 24 (c.length:Int) (c.length:Int) ({af:=0,ai:=0,nw:=({id:=0,af:=0,ah:=[],aD:=[],az:=({ak:=0,aj:=0,cells:=[],aH:=[]}:aX),draw:=[]}:Node),ah:=[],aQ:=[],az:=({ak:=[],aj:=[],cells:=[],split:=[],merge:=[]}:bP),draw:=[]}:aP) [TI 0,TI 0,TI 0,TI 0,TN,TN,TI 0,TI 0,TN,TN,TN,TN,TN,TN,TN,TN,TN,TN,TN] ⟨.inl rfl,⟨.inl rfl,⟨.inl rfl,⟨.inl rfl,⟨jQ dM,⟨jQ dM,⟨.inl rfl,⟨.inl rfl,⟨jQ dM,⟨jQ dM,⟨jQ dM,⟨jQ dM,⟨jQ dM,⟨jQ dM,⟨jQ dM,⟨jQ dM,⟨jQ dM,⟨jQ dM,⟨jQ dM,trivial⟩⟩⟩⟩⟩⟩⟩⟩⟩⟩⟩⟩⟩⟩⟩⟩⟩⟩⟩))],.r [(1,X (Xl bI c))]] 64 (fun(i,q)=>([(3,.aF 24 c.length),(9,VL 19 bI c),(10,VI (c.length:Int)),(11,VI (i:Int))],[(24,OR 19 bI q)])) (fun(i,q)=>i<=c.length/\q=c.take i++List.replicate (c.length-i) ({af:=0,ai:=0,nw:=({id:=0,af:=0,ah:=[],aD:=[],az:=({ak:=0,aj:=0,cells:=[],aH:=[]}:aX),draw:=[]}:Node),ah:=[],aQ:=[],az:=({ak:=[],aj:=[],cells:=[],split:=[],merge:=[]}:bP),draw:=[]}:aP)) (fun(i,q)=>c.length-i) (0,(List.replicate c.length ({af:=0,ai:=0,nw:=({id:=0,af:=0,ah:=[],aD:=[],az:=({ak:=0,aj:=0,cells:=[],aH:=[]}:aX),draw:=[]}:Node),ah:=[],aQ:=[],az:=({ak:=[],aj:=[],cells:=[],split:=[],merge:=[]}:bP),draw:=[]}:aP))) ?_ ?_
 ·exact⟨oM,sM⟩
 rintro⟨i,q⟩ I3 cC;try dsimp only at I3
 have ql:q.length=c.length:=by rw[I3.2];simp;omega
 refine .bp [.r []] (decide ((i:Int)< (c.length:Int))) (fun h3=> ?_) (fun h3=> ?_)
 ·have ho:=hc (c.getD i default) (fE oM);refine .back [.r [(1,X (Xi bI c (i:Int)))],.r [(3,X (bV 144 (y4H ((c.getD i default)) aM) X0)),(4,X (nr c.length bI q (i:Int))),(5,X (tE c.length 19 bI 24 q i (((c.getD i default)))))],.r [(0,X (Xn ((i:Int)+1)))]] [(24,24)] (cC ((i+1),(q.set i (((c.getD i default))))) ?_ ?_)
  ·refine⟨oM,?_⟩;rw[I3.2];exact Jc rfl oM rfl
  exact tO
 have e1:(c:List aP)=q:=by
  first|omega| (rw[I3.2,qk oM,show c.length-i=0 by omega];simp)
 exact .aG [.r [],.le (.fr 2 [(c.length:Nat)=(List.map bI q).length] ⟨lm,trivial⟩)] [] (fun z0:List aP=>(VL 19 bI z0,[])) _ _ e1
theorem SP(a b:List aB)(va:j9 a)(vb:j9 b)(da:DN 100000000000 a)(db:DN 100000000000 b)(hm:eu a=eu b)(hs:eU a+eU b<=2147483647):FC Tryz.prog 47 [VL 4 bB a,VL 4 bB b] (app emp []) (.aZ [VL 4 bB (jD a b),VL 4 bB (pO a b),VI 0]) (app emp []):=by
 refine .go Tryz.f47 ?_;refine .len 0 (fun dQ=> ?_);refine .len 1 (fun gW=> ?_);have ca:=wO.2 va;have cb:=wO.2 vb;have da4:=da.mono (n:=400000000000) dM;have db4:=db.mono (n:=400000000000) dM;obtain⟨_,_,st,v1,v2,_⟩:=z79 va vb da db hm hs;have c1:=wO.2 v1;have c2:=wO.2 v2;refine .bp [.r [],.r [(1,X (aW (Cp a aM) X0))],.r []] ((k8 a) !=0) (fun h2=> ?_) (fun h2=> ?_)
 ·exfalso;omega
 refine .bp [.r [(1,X (aW (Cp b aM) X0))],.r []] ((k8 b) !=0) (fun h5=> ?_) (fun h5=> ?_)
 ·exfalso;omega
 refine .bp [.r [(1,X (aW (HH a aM) X0))],.r [(1,X (aW (HH b aM) X0))],.r []] ((eu a) !=(eu b)) (fun h9=> ?_) (fun h9=> ?_)
 ·exfalso;omega
 refine .loop (α:=Int×Int×(List aB)×(List aL)×(List aB)×(List aL)×(List aB)×Int×(List aB)×Int) [.r [],.le (.nB 240 0 4),.le (.nB 240 1 3),.le (.nB 248 0 4),.le (.nB 248 1 3),.r []] 324 (fun(y1,y2,o1,x1,o2,x2,ps,pu,qs,qu)=>([(13,.ptr 240 0),(14,.ptr 248 0),(15,.ptr 276 0),(16,.ptr 300 0)],[(240,.box [.aF 256 o1.length,.aF 257 x1.length,VI y1]),(248,.box [.aF 258 o2.length,.aF 259 x2.length,VI y2]),(256,OR 4 bB o1),(257,OR 3 aU x1),(258,OR 4 bB o2),(259,OR 3 aU x2),(276,.box [VL 4 bB ps,VI pu]),(300,.box [VL 4 bB qs,VI qu])])) (fun(y1,y2,o1,x1,o2,x2,ps,pu,qs,qu)=>PD ⟨o1,x1,y1⟩ ⟨o2,x2,y2⟩ ps pu qs qu (bF (bD a) (bD b)).1.length (bF (bD a) (bD b)).2.length (jJ ⟨[],[],0⟩ (bF (bD a) (bD b)).1) (jJ ⟨[],[],0⟩ (bF (bD a) (bD b)).2)) (fun(y1,y2,o1,x1,o2,x2,ps,pu,qs,qu)=>pM ps pu qs qu) (0,0,[],[],[],[],a,0,b,0) ?_ ?_
 ·exact st
 rintro⟨y1,y2,o1,x1,o2,x2,ps,pu,qs,qu⟩ dD gj;try dsimp only at dD
 have kp:=Me dD.gp;have kq:=Me dD.gq;have bx:=dD.dx.bd;have by2:=dD.dy.bd;simp only at bx by2;have fx:=dD.dx.fl.1;have fy:=dD.dy.fl.1;refine .bp (let a:=decide ((o7 ps)>=0);[.r [(1,X (gB [(0,276)] (z31 ps pu) X0)),(5,Xv 1 (!a) (gB [(0,300)] (z31 qs qu) X0)),(6,Xv 1 (!a) X0),(7,X (b7 a))]]) (decide ((o7 ps)>=0)||decide ((o7 qs)>=0)) (fun fe=> ?_) (fun fe=> ?_)
 ·refine .bp [.r [(1,X (gB [(0,276)] (z31 ps pu) X0))]] ((o7 ps)==1) (fun eN=> ?_) (fun eN=> ?_)
  ·have sS:0<ps.length:=oM;have k1:(ps.getD 0 default).af=1:=oM;clear kp kq fe eN;have sp:=CU dD.gp dD.dp sS;obtain⟨s,hs⟩:∃z,cO ps pu (cE (ps.getD 0 default)- pu)=z:=⟨_,rfl⟩
   have hA:=PD.Bt dD sS k1 rfl;have Jh:=RX (Mh (u:=pu) (n:=cE (ps.getD 0 default)- pu) sp.2.2.2.2.2) (k:=400000000000) dM;rw[hs] at hA Jh;have Ej:=hA.1.dx.bd;simp only[qf] at Ej;have RY:=hA.2.2;refine .back [.r [(2,X (gB [(0,276)] (z32 ps pu oM oM) X0)),(3,X (dV 444 [(0,276)] (CV ps pu (cE (ps.getD 0 default)- pu) s hs oM oM) X0))],.r [(2,X (dV 484 [(0,240),(1,256),(2,257)] (F2 o1 x1 y1 s.elems aM oM) X0))],.r [(2,X (Xl aU s.elems)),(3,X (dV 516 [(0,248),(1,258),(2,259)] (.nil 2 2 (Eg o2 x2 y2 (s.elems.length:Int) [] oM (by first|omega|simp) oM (by first|assumption|exact Ef aM))) X0))]] [(240,240),(248,248),(256,256),(257,257),(258,258),(516,259),(276,276),(300,300)] (gj (y1,0,o1,(x1++s.elems),(gF (bw ⟨o2,x2,y2⟩) (s.elems.length:Int) []),[],(cT ps pu (cE (ps.getD 0 default)- pu)),(cW ps pu (cE (ps.getD 0 default)- pu)),qs,qu) ?_ ?_)
   ·exact hA.1
   exact hA.2.1
  refine .bp [.r [(1,X (gB [(0,300)] (z31 qs qu) X0))]] ((o7 qs)==1) (fun lV=> ?_) (fun lV=> ?_)
  ·have tN:0<qs.length:=oM;have k2:(qs.getD 0 default).af=1:=oM;have k1:0<ps.length->(ps.getD 0 default).af≠1:=fun h=>oM
   clear kp kq fe eN lV;have sq:=CU dD.gq dD.dq tN;obtain⟨s,hs⟩:∃z,cO qs qu (cE (qs.getD 0 default)- qu)=z:=⟨_,rfl⟩
   have hA:=PD.Bu dD k1 tN k2 rfl;have Jh:=RX (Mh (u:=qu) (n:=cE (qs.getD 0 default)- qu) sq.2.2.2.2.2) (k:=400000000000) dM;rw[hs] at hA Jh;have Ej:=hA.1.dy.bd;simp only[qf] at Ej;have RY:=hA.2.2;clear k1;refine .back [.r [(2,X (gB [(0,300)] (z32 qs qu oM oM) X0)),(3,X (dV 476 [(0,300)] (CV qs qu (cE (qs.getD 0 default)- qu) s hs oM oM) X0))],.r [(2,X (Xl aU s.elems)),(3,X (dV 524 [(0,240),(1,256),(2,257)] (.nil 2 2 (Eg o1 x1 y1 (s.elems.length:Int) [] oM (by first|omega|simp) oM (by first|assumption|exact Ef aM))) X0))],.r [(2,X (dV 548 [(0,248),(1,258),(2,259)] (F2 o2 x2 y2 s.elems aM oM) X0))]] [(240,240),(248,248),(256,256),(524,257),(258,258),(259,259),(276,276),(300,300)] (gj (0,y2,(gF (bw ⟨o1,x1,y1⟩) (s.elems.length:Int) []),[],o2,(x2++s.elems),ps,pu,(cT qs qu (cE (qs.getD 0 default)- qu)),(cW qs qu (cE (qs.getD 0 default)- qu))) ?_ ?_)
   ·exact hA.1
   exact hA.2.1
  obtain⟨sS,tN⟩:=PD.two dD oM (fun h=>oM) (fun h=>oM);have k1:(ps.getD 0 default).af≠1:=oM;have k3:(qs.getD 0 default).af≠1:=oM;have sk:=fun _:Unit=>Mf dD.gp sS k1
  have tk:=fun _:Unit=>Mf dD.gq tN k3
  have Ji:=fun n=>PD.both (n:=n) dD sS tN k1 k3
  have V7:=YY dD.gp sS k1;clear kp kq fe eN lV k1 k3;have sp:=CU dD.gp dD.dp sS;have sq:=CU dD.gq dD.dq tN;obtain⟨m,Jj⟩:∃z,min (cE (ps.getD 0 default)- pu) (cE (qs.getD 0 default)- qu)=z:=⟨_,rfl⟩
  have hB:=Ji m Jj.symm;have m1:1<=m/\m<=cE (ps.getD 0 default)- pu/\m<=cE (qs.getD 0 default)- qu/\m<=100000000000:=oM;have m2:pu+m<=cE (ps.getD 0 default)/\qu+m<=cE (qs.getD 0 default):=oM;obtain⟨s,hs⟩:∃z,cO ps pu m=z:=⟨_,rfl⟩
  obtain⟨t,ht⟩:∃z,cO qs qu m=z:=⟨_,rfl⟩
  have BB:=z87 ps pu m;have Ek:=z87 qs qu m;have El:=Mg ps pu m;have Em:=Mg qs qu m;rw[hs] at BB El;rw[ht] at Ek Em;have al:s.ah.length<=100000000000/\t.ah.length<=100000000000:=by rw[El,Em];omega
  rw[<-El,<-Em,<-BB,<-Ek] at hB;rw[<-BB] at sk;rw[<-Ek] at tk;clear Ji;refine .bp (let a:=cE (ps.getD 0 default)- pu;let b:=cE (qs.getD 0 default)- qu;[.r [(1,X (gB [(0,276)] (z32 ps pu oM oM) X0)),(3,X (gB [(0,300)] (z32 qs qu oM oM) X0)),(4,X (vq a b))],.le (.eq 19 (VI (min a b)) (VI m) (.of_eq (by rw[Jj]))),.r [(2,X (dV 516 [(0,276)] (CV ps pu m s hs oM oM) X0)),(5,X (dV 540 [(0,300)] (CV qs qu m t ht oM oM) X0))],.r [(5,Xv 1 (s.af==0) X0),(6,Xv 1 (s.af==0) X0),(7,X (Xk (s.af==0)))]]) ((s.af==0)&&(t.af==0)) (fun BC=> ?_) (fun BC=> ?_)
  ·have fl:=uN iw s.ah t.ah;refine .back [.r [(5,X (bV 692 (Xj s.ah t.ah oM) X0)),(6,X (dV 700 [(0,240),(1,256),(2,257)] (Eg o1 x1 y1 m (fm iw s.ah t.ah) oM (by first|omega|simp) oM (by first|assumption|exact Ef aM)) X0))],.r [(3,X (dV 732 [(0,248),(1,258),(2,259)] (Eg o2 x2 y2 m t.ah oM (by first|omega|simp) oM (by first|assumption|exact Ef aM)) X0))]] [(240,240),(248,248),(256,256),(700,257),(258,258),(732,259),(276,276),(300,300)] (gj (0,0,(gF (bw ⟨o1,x1,y1⟩) m (fm iw s.ah t.ah)),[],(gF (bw ⟨o2,x2,y2⟩) m t.ah),[],(cT ps pu m),(cW ps pu m),(cT qs qu m),(cW qs qu m)) ?_ ?_)
   ·exact hB.1.1 BC
   exact hB.2
  refine .bp [.r []] (s.af==0) (fun JB=> ?_) (fun JB=> ?_)
  ·refine .back [.r [(3,X (Xn (y2+m)))]] [(240,240),(248,248),(256,256),(257,257),(258,258),(259,259),(276,276),(300,300)] (gj (y1,(y2+m),o1,x1,o2,x2,(cT ps pu m),(cW ps pu m),(cT qs qu m),(cW qs qu m)) ?_ ?_)
   ·exact hB.1.2.1 ⟨JB,(tk ()).resolve_left (BC.resolve_left (fun h=>h JB))⟩
   exact hB.2
  refine .bp [.r []] (t.af==0) (fun SQ=> ?_) (fun SQ=> ?_)
  ·refine .at 716 [(240,240),(248,248),(256,256),(257,257),(258,258),(259,259),(276,276),(300,300)] ([(13,.ptr 240 0),(14,.ptr 248 0),(15,.ptr 276 0),(16,.ptr 300 0),(19,VI m),(133,VB (t.af==0))],[(240,.box [.aF 256 o1.length,.aF 257 x1.length,VI y1]),(248,.box [.aF 258 o2.length,.aF 259 x2.length,VI y2]),(256,OR 4 bB o1),(257,OR 3 aU x1),(258,OR 4 bB o2),(259,OR 3 aU x2),(276,.box [VL 4 bB (cT ps pu m),VI (cW ps pu m)]),(300,.box [VL 4 bB (cT qs qu m),VI (cW qs qu m)])]) ?_;refine .back [.r [(3,X (Xn (y1+m)))]] [(240,240),(248,248),(256,256),(257,257),(258,258),(259,259),(276,276),(300,300)] (gj ((y1+m),y2,o1,x1,o2,x2,(cT ps pu m),(cW ps pu m),(cT qs qu m),(cW qs qu m)) ?_ ?_)
   ·exact hB.1.2.2.1 ⟨(sk ()).resolve_left JB,SQ⟩
   exact hB.2
  refine .at 716 [(240,240),(248,248),(256,256),(257,257),(258,258),(259,259),(276,276),(300,300)] ([(13,.ptr 240 0),(14,.ptr 248 0),(15,.ptr 276 0),(16,.ptr 300 0),(19,VI m),(133,VB (t.af==0))],[(240,.box [.aF 256 o1.length,.aF 257 x1.length,VI y1]),(248,.box [.aF 258 o2.length,.aF 259 x2.length,VI y2]),(256,OR 4 bB o1),(257,OR 3 aU x1),(258,OR 4 bB o2),(259,OR 3 aU x2),(276,.box [VL 4 bB (cT ps pu m),VI (cW ps pu m)]),(300,.box [VL 4 bB (cT qs qu m),VI (cW qs qu m)])]) ?_;refine .back [] [(240,240),(248,248),(256,256),(257,257),(258,258),(259,259),(276,276),(300,300)] (gj (y1,y2,o1,x1,o2,x2,(cT ps pu m),(cW ps pu m),(cT qs qu m),(cW qs qu m)) ?_ ?_)
  ·exact hB.1.2.2.2 ⟨(sk ()).resolve_left JB,(tk ()).resolve_left SQ⟩
  exact hB.2
 obtain⟨hG1,SR⟩:=PD.done dD oM oM;have ng:bw ⟨o1,x1,y1⟩=jD a b:=by rw[hG1];rfl
 have AK:bw ⟨o2,x2,y2⟩=pO a b:=by rw[SR];rfl
 have xC:k8 (bw ⟨o1,x1,y1⟩)=0:=by rw[ng];exact c1
 have hcy:k8 (bw ⟨o2,x2,y2⟩)=0:=by rw[AK];exact c2
 have hdx:=dD.dx.fl.2;have hdy:=dD.dy.fl.2;refine .bp [.r [(0,X (dV 388 [(0,240),(1,256),(2,257)] (z85 o1 x1 y1 oM aM aM) X0))],.r [(0,X (dV 436 [(0,248),(1,258),(2,259)] (z85 o2 x2 y2 oM aM aM) X0))],.r [(4,Xv 1 (!false) X0),(5,X (b7 false))]] (false||false) (fun h33=> ?_) (fun h33=> ?_)
 ·exfalso;simp at h33
 have e1:((jD a b):List aB)=(bw ⟨o1,x1,y1⟩):=by
  first|rw[ng]|rw[AK]
 have e2:((pO a b):List aB)=(bw ⟨o2,x2,y2⟩):=by
  first|rw[ng]|rw[AK]
 exact .aG (let a:=bw ⟨o1,x1,y1⟩;let b:=bw ⟨o2,x2,y2⟩;[.r [],.le (.fr 4 [((a.length):Nat)=(List.map bB a).length] ⟨lm,trivial⟩),.le (.fr 5 [((b.length):Nat)=(List.map bB b).length] ⟨lm,trivial⟩)]) [] (fun((z0,z1):(List aB)×(List aB))=>(.aZ [VL 4 bB z0,VL 4 bB z1,VI 0],[])) _ _ (pr e1 e2)
theorem y4J(o:List aB)(a:List aL)(c:Int)(n:Int)(l:List aI)(h0:n=0):FC Tryz.prog 97 [.ptr 0 0,VI n,VL 2 aS l] (app emp [(0,.box [.aF 1 o.length,.aF 2 a.length,VI c]),(1,OR 4 bB o),(2,OR 3 aU a)]) (.aZ []) (app emp [(0,.box [.aF 1 o.length,.aF 2 a.length,VI c]),(1,OR 4 bB o),(2,OR 3 aU a)]):=by
 refine .go Tryz.f97 ?_;refine .len 2 (fun lU=> ?_);refine .bp [.r []] (n==0) (fun h0=> ?_) (fun h0=> ?_)
 ·exact .fin [] [(0,0),(1,1),(2,2)]
 exfalso;omega
theorem x2J(o:List aB)(a:List aL)(c:Int)(ho:o.length<=100000000000)(hc:¬k8 (bw ⟨o,a,c⟩)=0)(hd:DN 400000000000 (bw ⟨o,a,c⟩)):FC Tryz.prog 98 [.ptr 0 0] (app emp [(0,.box [.aF 1 o.length,.aF 2 a.length,VI c]),(1,OR 4 bB o),(2,OR 3 aU a)]) (.aZ [VL 4 bB [],VI 3]) (app emp [(0,.box [.aF 1 ((bw ⟨o,a,c⟩).length),.aF 3 0,VI 0]),(1,OR 4 bB (bw ⟨o,a,c⟩)),(2,OF 3 aU a),(3,OR 3 aU [])]):=by
 refine .go Tryz.f98 ?_;refine .bp [.r [],.r [(1,X (dV 27 [(0,0),(1,1),(2,2)] (RM o a c oM) X0))],.r [(4,X (aW (Cp (bw ⟨o,a,c⟩) aM) (cg bB (bw ⟨o,a,c⟩) X0)))]] ((k8 (bw ⟨o,a,c⟩)) !=0) (fun h2=> ?_) (fun h2=> ?_)
 ·exact .fin [.r [],.le (.nL 2 4)] [(0,0),(1,1),(2,2),(27,3)]
 exfalso;omega
theorem M3(d:List aB)(hd:DN 100000000000 d)(hl:d.length<=100000000)(he:mC d<=10000000000):FC Tryz.prog 143 [VL 4 bB d] (app emp []) (.aZ [VL 4 bB (mB d),VI (uO d)]) (app emp []):=by
 refine .go Tryz.f143 ?_;refine .len 0 (fun dQ=> ?_);have hd4:=hd.mono (n:=400000000000) dM;refine .loop (α:=Nat×Int×(List aB)×(List aL)) [.r [],.r [],.le (.nB 16 0 4),.le (.nB 16 1 3),.r [(1,X (Xl bB d))]] 50 (fun(i,y,o,x)=>([(4,.ptr 16 0),(8,VL 4 bB d),(9,VI (d.length:Int)),(10,VI (i:Int))],[(16,.box [.aF 24 o.length,.aF 25 x.length,VI y]),(24,OR 4 bB o),(25,OR 3 aU x)])) (fun(i,y,o,x)=>i<=d.length/\sr ⟨[],[],0⟩ d=sr ⟨o,x,y⟩ (d.drop i)/\TB d i ⟨o,x,y⟩) (fun(i,y,o,x)=>d.length-i) (0,0,[],[]) ?_ ?_
 ·exact⟨oM,rfl,TB.start d⟩
 rintro⟨i,y,o,x⟩ I3 cC;try dsimp only at I3
 have b1:=I3.2.2.out;have b2:=I3.2.2.add;have b3:=I3.2.2.cut;simp only at b1 b2 b3;refine .bp [.r []] (decide ((i:Int)< (d.length:Int))) (fun h3=> ?_) (fun h3=> ?_)
 ·obtain⟨e1,e2⟩:=Y4 (d:=d) (i:=i) oM;have hT:=x4x (d:=d) (i:=i) oM ⟨o,x,y⟩;obtain⟨d1,d2,d3⟩:=hd4 _ (oG (l:=d) (k:=i) oM);obtain⟨f1,f2⟩:=I3.2.2.flush oM oM oM;refine .bp (let b:=((d.getD i default));let c:=b.af;let e:=(c==1)&&(((b.elems).length:Int)==0);let a:=e&&((fZ b)==11);[.r [(0,X (Xi bB d (i:Int)))],.r [(1,X (aW (YH b) X0))],.r [(5,Xv 1 (c==1) X0),(6,Xv 1 (c==1) (Xl aU (b.elems))),(7,Xv 1 (c==1) X0),(8,X (Xk (c==1))),(11,Xv 1 e X0),(12,X (Xk e)),(15,Xv 1 (!a) X0),(16,Xv 1 (!a) X0),(17,Xv 1 (!a) X0),(19,Xv 1 ((!a)&&(c !=1)) X0),(20,Xv 1 ((!a)&&(c !=1)) X0),(21,kH (!a) (c !=1)),(22,Xv 1 (!a) X0),(24,Xv 1 ((!a)&&((c !=1)&&((b.n)==0))) X0),(25,kH (!a) ((c !=1)&&((b.n)==0))),(26,X (b7 a))]]) (((((((d.getD i default)).af)==1)&&(((((d.getD i default)).elems).length:Int)==0))&&((fZ ((d.getD i default)))==11))|| ((((((d.getD i default)).af) !=1)&&((((d.getD i default)).n)==0))&&((fZ ((d.getD i default)))==2))) (fun h6=> ?_) (fun h6=> ?_)
  ·have hL:oH (d.getD i default)=(dO true (((d.getD i default)).ah) 0):=by unfold oH;first|rw[if_pos oM]|rw[if_neg oM]
   refine .bp [.r [(2,X (aW (CF (((d.getD i default)).ah)) X0))],.r []] ((dO true (((d.getD i default)).ah) 0) !=0) (fun h8=> ?_) (fun h8=> ?_)
   ·have e1:((mB d):List aB)=[]:=by
     unfold mB;rw[I3.2.1,hT,if_pos (by rw[hL];exact h8)]
    have e2:((uO d):Int)=(dO true (((d.getD i default)).ah) 0):=by
     unfold uO;rw[I3.2.1,hT,if_pos (by rw[hL];exact h8)];exact hL
    exact .aG [.r [],.le (.nL 2 4)] [] (fun((z0,z1):(List aB)×Int)=>(.aZ [VL 4 bB z0,VI z1],[])) _ _ (pr e1 e2)
   have AM:oH (d.getD i default)=0:=by rw[hL];omega
   rw[if_neg (by rw[AM];decide)] at hT;obtain⟨hk,hn1,hn2⟩:=R2 AM;have hN:=I3.2.2.next oM hd AM;clear h6;refine .bp [.r [],.r []] ((((d.getD i default)).af)==0) (fun eN=> ?_) (fun eN=> ?_)
   ·by_cases yT:(d.getD i default).n=0
    ·refine .back [.r [(4,X (dV 442 [(0,16),(1,24),(2,25)] (y4J o x y (((d.getD i default)).n) (((d.getD i default)).ah) aM) X0))],.r [(0,X (Xn ((i:Int)+1)))]] [(16,16),(24,24),(25,25)] (cC ((i+1),y,o,x) ?_ ?_)
     ·have hW:ku ⟨o,x,y⟩ (d.getD i default)=⟨o,x,y⟩:=by unfold ku;rw[if_pos eN,if_pos yT]
      have hb:¬z58 ⟨o,x,y⟩ (d.getD i default):=fun h=>h.1 eN
      have oh:=hN hb;rw[if_neg hb] at hT;rw[hW] at hT oh;exact⟨oM,I3.2.1.trans hT,oh⟩
     exact tO
    refine .back [.r [(4,X (dV 442 [(0,16),(1,24),(2,25)] (Eg o x y (((d.getD i default)).n) (((d.getD i default)).ah) oM (by first|omega|simp) oM (by first|assumption|exact Ef aM)) X0))],.r [(0,X (Xn ((i:Int)+1)))]] [(16,16),(24,24),(442,25)] (cC ((i+1),0,(gF (bw ⟨o,x,y⟩) (((d.getD i default)).n) (((d.getD i default)).ah)),[]) ?_ ?_)
    ·have hW:ku ⟨o,x,y⟩ (d.getD i default)=⟨gF (bw ⟨o,x,y⟩) (d.getD i default).n (d.getD i default).ah,[],0⟩:=by unfold ku;rw[if_pos eN,if_neg yT]
     have hb:¬z58 ⟨o,x,y⟩ (d.getD i default):=fun h=>h.1 eN
     have oh:=hN hb;rw[if_neg hb] at hT;rw[hW] at hT oh;exact⟨oM,I3.2.1.trans hT,oh⟩
    exact tO
   refine .bp [.r []] ((((d.getD i default)).af)==1) (fun eO=> ?_) (fun eO=> ?_)
   ·have hz:True:=trivial;refine .back [.r [(2,X (dV 442 [(0,16),(1,24),(2,25)] (F2 o x y (((d.getD i default)).elems) aM oM) X0))],.r [(0,X (Xn ((i:Int)+1)))]] [(16,16),(24,24),(25,25)] (cC ((i+1),y,o,(x++(((d.getD i default)).elems))) ?_ ?_)
    ·have hW:ku ⟨o,x,y⟩ (d.getD i default)=⟨o,x++(d.getD i default).elems,y⟩:=by unfold ku;rw[if_neg eN,if_pos eO]
     have hb:¬z58 ⟨o,x,y⟩ (d.getD i default):=fun h=>h.2.1 eO
     have oh:=hN hb;rw[if_neg hb] at hT;rw[hW] at hT oh;exact⟨oM,I3.2.1.trans hT,oh⟩
    exact tO
   refine .bp [.r [(4,X (Xn (y+(((d.getD i default)).n))))],.r []] (decide ((y+(((d.getD i default)).n))> 2147483647)) (fun fJ=> ?_) (fun fJ=> ?_)
   ·refine .at 506 [(16,16),(24,24),(25,25)] ([(4,.ptr 16 0),(8,VL 4 bB d),(9,VI (d.length:Int)),(10,VI (i:Int)),(59,VB (decide ((y+(((d.getD i default)).n))> 2147483647)))],[(16,.box [.aF 24 o.length,.aF 25 x.length,VI (y+(((d.getD i default)).n))]),(24,OR 4 bB o),(25,OR 3 aU x)]) ?_;have e3:((mB d):List aB)=[]:=by
     unfold mB;rw[I3.2.1,hT,if_pos ⟨eN,eO,by simp only;omega⟩]
    have e4:((uO d):Int)=3:=by
     unfold uO;rw[I3.2.1,hT,if_pos ⟨eN,eO,by simp only;omega⟩]
    exact .aG [.r [],.le (.nL 2 4)] [] (fun((z0,z1):(List aB)×Int)=>(.aZ [VL 4 bB z0,VI z1],[])) _ _ (pr e3 e4)
   refine .at 506 [(16,16),(24,24),(25,25)] ([(4,.ptr 16 0),(8,VL 4 bB d),(9,VI (d.length:Int)),(10,VI (i:Int)),(59,VB (decide ((y+(((d.getD i default)).n))> 2147483647)))],[(16,.box [.aF 24 o.length,.aF 25 x.length,VI (y+(((d.getD i default)).n))]),(24,OR 4 bB o),(25,OR 3 aU x)]) ?_;refine .back [.r [(0,X (Xn ((i:Int)+1)))]] [(16,16),(24,24),(25,25)] (cC ((i+1),(y+(((d.getD i default)).n)),o,x) ?_ ?_)
   ·have hW:ku ⟨o,x,y⟩ (d.getD i default)=⟨o,x,y+(d.getD i default).n⟩:=by unfold ku;rw[if_neg eN,if_neg eO]
    have hb:¬z58 ⟨o,x,y⟩ (d.getD i default):=fun h=>by have:=h.2.2;simp only at this;omega
    have oh:=hN hb;rw[if_neg hb] at hT;rw[hW] at hT oh;exact⟨oM,I3.2.1.trans hT,oh⟩
   exact tO
  have hL:oH (d.getD i default)=(fZ ((d.getD i default))):=by unfold oH;first|rw[if_pos oM]|rw[if_neg oM]
  refine .bp [.r []] ((fZ ((d.getD i default))) !=0) (fun h8=> ?_) (fun h8=> ?_)
  ·have e5:((mB d):List aB)=[]:=by
    unfold mB;rw[I3.2.1,hT,if_pos (by rw[hL];exact h8)]
   have e6:((uO d):Int)=(fZ ((d.getD i default))):=by
    unfold uO;rw[I3.2.1,hT,if_pos (by rw[hL];exact h8)];exact hL
   exact .aG [.r [],.le (.nL 2 4)] [] (fun((z0,z1):(List aB)×Int)=>(.aZ [VL 4 bB z0,VI z1],[])) _ _ (pr e5 e6)
  have AM:oH (d.getD i default)=0:=by rw[hL];omega
  rw[if_neg (by rw[AM];decide)] at hT;obtain⟨hk,hn1,hn2⟩:=R2 AM;have hN:=I3.2.2.next oM hd AM;clear h6;refine .bp [.r [],.r []] ((((d.getD i default)).af)==0) (fun eN=> ?_) (fun eN=> ?_)
  ·by_cases yT:(d.getD i default).n=0
   ·refine .back [.r [(4,X (dV 410 [(0,16),(1,24),(2,25)] (y4J o x y (((d.getD i default)).n) (((d.getD i default)).ah) aM) X0))],.r [(0,X (Xn ((i:Int)+1)))]] [(16,16),(24,24),(25,25)] (cC ((i+1),y,o,x) ?_ ?_)
    ·have hW:ku ⟨o,x,y⟩ (d.getD i default)=⟨o,x,y⟩:=by unfold ku;rw[if_pos eN,if_pos yT]
     have hb:¬z58 ⟨o,x,y⟩ (d.getD i default):=fun h=>h.1 eN
     have oh:=hN hb;rw[if_neg hb] at hT;rw[hW] at hT oh;exact⟨oM,I3.2.1.trans hT,oh⟩
    exact tO
   refine .back [.r [(4,X (dV 410 [(0,16),(1,24),(2,25)] (Eg o x y (((d.getD i default)).n) (((d.getD i default)).ah) oM (by first|omega|simp) oM (by first|assumption|exact Ef aM)) X0))],.r [(0,X (Xn ((i:Int)+1)))]] [(16,16),(24,24),(410,25)] (cC ((i+1),0,(gF (bw ⟨o,x,y⟩) (((d.getD i default)).n) (((d.getD i default)).ah)),[]) ?_ ?_)
   ·have hW:ku ⟨o,x,y⟩ (d.getD i default)=⟨gF (bw ⟨o,x,y⟩) (d.getD i default).n (d.getD i default).ah,[],0⟩:=by unfold ku;rw[if_pos eN,if_neg yT]
    have hb:¬z58 ⟨o,x,y⟩ (d.getD i default):=fun h=>h.1 eN
    have oh:=hN hb;rw[if_neg hb] at hT;rw[hW] at hT oh;exact⟨oM,I3.2.1.trans hT,oh⟩
   exact tO
  refine .bp [.r []] ((((d.getD i default)).af)==1) (fun eO=> ?_) (fun eO=> ?_)
  ·have hz:True:=trivial;refine .back [.r [(2,X (dV 410 [(0,16),(1,24),(2,25)] (F2 o x y (((d.getD i default)).elems) aM oM) X0))],.r [(0,X (Xn ((i:Int)+1)))]] [(16,16),(24,24),(25,25)] (cC ((i+1),y,o,(x++(((d.getD i default)).elems))) ?_ ?_)
   ·have hW:ku ⟨o,x,y⟩ (d.getD i default)=⟨o,x++(d.getD i default).elems,y⟩:=by unfold ku;rw[if_neg eN,if_pos eO]
    have hb:¬z58 ⟨o,x,y⟩ (d.getD i default):=fun h=>h.2.1 eO
    have oh:=hN hb;rw[if_neg hb] at hT;rw[hW] at hT oh;exact⟨oM,I3.2.1.trans hT,oh⟩
   exact tO
  refine .bp [.r [(4,X (Xn (y+(((d.getD i default)).n))))],.r []] (decide ((y+(((d.getD i default)).n))> 2147483647)) (fun fJ=> ?_) (fun fJ=> ?_)
  ·refine .at 474 [(16,16),(24,24),(25,25)] ([(4,.ptr 16 0),(8,VL 4 bB d),(9,VI (d.length:Int)),(10,VI (i:Int)),(59,VB (decide ((y+(((d.getD i default)).n))> 2147483647)))],[(16,.box [.aF 24 o.length,.aF 25 x.length,VI (y+(((d.getD i default)).n))]),(24,OR 4 bB o),(25,OR 3 aU x)]) ?_;have e7:((mB d):List aB)=[]:=by
    unfold mB;rw[I3.2.1,hT,if_pos ⟨eN,eO,by simp only;omega⟩]
   have e8:((uO d):Int)=3:=by
    unfold uO;rw[I3.2.1,hT,if_pos ⟨eN,eO,by simp only;omega⟩]
   exact .aG [.r [],.le (.nL 2 4)] [] (fun((z0,z1):(List aB)×Int)=>(.aZ [VL 4 bB z0,VI z1],[])) _ _ (pr e7 e8)
  refine .at 474 [(16,16),(24,24),(25,25)] ([(4,.ptr 16 0),(8,VL 4 bB d),(9,VI (d.length:Int)),(10,VI (i:Int)),(59,VB (decide ((y+(((d.getD i default)).n))> 2147483647)))],[(16,.box [.aF 24 o.length,.aF 25 x.length,VI (y+(((d.getD i default)).n))]),(24,OR 4 bB o),(25,OR 3 aU x)]) ?_;refine .back [.r [(0,X (Xn ((i:Int)+1)))]] [(16,16),(24,24),(25,25)] (cC ((i+1),(y+(((d.getD i default)).n)),o,x) ?_ ?_)
  ·have hW:ku ⟨o,x,y⟩ (d.getD i default)=⟨o,x,y+(d.getD i default).n⟩:=by unfold ku;rw[if_neg eN,if_neg eO]
   have hb:¬z58 ⟨o,x,y⟩ (d.getD i default):=fun h=>by have:=h.2.2;simp only at this;omega
   have oh:=hN hb;rw[if_neg hb] at hT;rw[hW] at hT oh;exact⟨oM,I3.2.1.trans hT,oh⟩
  exact tO
 by_cases M4:k8 (bw ⟨o,x,y⟩)=0
 ·have JC:=Y7 (d:=d) (i:=i) oM ⟨o,x,y⟩;obtain⟨f1,f2⟩:=I3.2.2.flush oM oM (by rw[qk oM];omega);have e9:((mB d):List aB)=(bw ⟨o,x,y⟩):=by
   unfold mB;rw[I3.2.1,JC,if_pos M4]
  have kE:((uO d):Int)=0:=by
   unfold uO;rw[I3.2.1,JC,if_pos M4]
  exact .aG [.r [(0,X (dV 58 [(0,16),(1,24),(2,25)] (z85 o x y oM aM aM) X0))],.le (.fr 2 [(((bw ⟨o,x,y⟩).length):Nat)=(List.map bB (bw ⟨o,x,y⟩)).length] ⟨lm,trivial⟩)] [] (fun((z0,z1):(List aB)×Int)=>(.aZ [VL 4 bB z0,VI z1],[])) _ _ (pr e9 kE)
 have JC:=Y7 (d:=d) (i:=i) oM ⟨o,x,y⟩;obtain⟨f1,f2⟩:=I3.2.2.flush oM oM (by rw[qk oM];omega);have lg:((mB d):List aB)=[]:=by
  unfold mB;rw[I3.2.1,JC,if_neg M4]
 have lu:((uO d):Int)=3:=by
  unfold uO;rw[I3.2.1,JC,if_neg M4]
 exact .aG [.r [(0,X (dV 58 [(0,16),(1,24),(2,25)] (x2J o x y oM aM aM) X0))]] [] (fun((z0,z1):(List aB)×Int)=>(.aZ [VL 4 bB z0,VI z1],[])) _ _ (pr lg lu)
theorem x2K(x:aL)(mode:Int):FC Tryz.prog 193 [.t (aU x),VI mode] (app emp []) (VB (En x mode)) (app emp []):=by
 refine .go Tryz.f193 ?_;have e1:((En x mode):Bool)=((seq (iZ x.ah ({data:=#[104,105,100,100,101,110]}) 0) ({data:=#[111,110]})|| ((mode==0)&& !(seq (iZ x.ah ({data:=#[99,117,116]}) 0) ({data:=#[]}))))|| ((mode==1)&& !(seq (iZ x.ah ({data:=#[97,100,100]}) 0) ({data:=#[]})))):=by
  rfl
 exact .aG (let a:=seq (iZ x.ah ({data:=#[104,105,100,100,101,110]}) 0) ({data:=#[111,110]})|| ((mode==0)&& !(seq (iZ x.ah ({data:=#[99,117,116]}) 0) ({data:=#[]})));let b:=seq (iZ x.ah ({data:=#[104,105,100,100,101,110]}) 0) ({data:=#[111,110]});let c:=(!b)&&(mode==0);let d:=(!a)&&(mode==1);[.r [],.r [(2,X (aW (CG x.ah ({data:=#[104,105,100,100,101,110]})) X0)),(6,Xv 1 (!b) X0),(7,Xv 1 (!b) X0),(9,Xv 1 c X0),(10,Xv 1 c (aW (CG x.ah ({data:=#[99,117,116]})) X0)),(11,Xv 1 c X0),(12,kH (!b) (mode==0)),(13,X (b7 b)),(16,Xv 1 (!a) X0),(17,Xv 1 (!a) X0),(19,Xv 1 d X0),(20,Xv 1 d (aW (CG x.ah ({data:=#[97,100,100]})) X0)),(21,Xv 1 d X0),(22,kH (!a) (mode==1)),(23,X (b7 a))]]) [] (fun z0:Bool=>(VB z0,[])) _ _ e1
theorem x2L(f:List aL)(mode:Int)(hn:f.length<=100000000000):FC Tryz.prog 131 [VL 3 aU f,VI mode] (app emp []) (VL 1 bC (sU f mode f.length)) (app emp []):=by
 refine .go Tryz.f131 ?_;refine .len 0 (fun dQ=> ?_);refine .loop (α:=Nat×(List Int)) [.r [],.r [],.r [(1,X (Xl aU f))],.le (.nR 5 1)] 41 (fun(i,o)=>([(0,VL 3 aU f),(1,VI mode),(5,.aF 40 o.length),(8,VL 3 aU f),(9,VI (f.length:Int)),(10,VI (i:Int))],[(40,OR 1 bC o)])) (fun(i,o)=>i<=f.length/\o=sU f mode i) (fun(i,o)=>f.length-i) (0,[]) ?_ ?_
 ·exact⟨oM,rfl⟩
 rintro⟨i,o⟩ I3 cC;try dsimp only at I3
 have ol:o.length<=i:=by rw[I3.2];exact Zc f mode i
 refine .bp [.r []] (decide ((i:Int)< (f.length:Int))) (fun h3=> ?_) (fun h3=> ?_)
 ·refine .bp (let a:=!(En ((f.getD i default)) mode);let b:=(i:Int)==((f.length:Int)- 1);[.r [(1,X (Xi aU f (i:Int)))],.r [(2,X (aW (x2K ((f.getD i default)) mode) X0)),(7,Xv 1 (!a) (Xl aU f)),(8,Xv 1 (!a) (Xn ((f.length:Int)- 1))),(9,Xv 2 (!a) X0),(10,Xv 1 (!a) X0),(12,Xv 1 ((!a)&&b) X0),(13,Xv 1 ((!a)&&b) X0),(14,kH (!a) b),(15,X (b7 a))]]) (!(En ((f.getD i default)) mode)|| (((i:Int)==((f.length:Int)- 1))&&((((f.getD i default)).aT)==10))) (fun h5=> ?_) (fun h5=> ?_)
  ·refine .back [.r [(3,X (cg bC [(i:Int)] (fK 1 bC 40 o [(i:Int)])))],.r [(0,X (Xn ((i:Int)+1)))]] [(40,40)] (cC ((i+1),(o++[(i:Int)])) ?_ ?_)
   ·refine⟨oM,?_⟩;rw[I3.2,Zb]
    first|rw[if_pos (Zd h5)]|rw[if_neg (by rw[Ze h5];decide),qL]
   exact tO
  refine .back [.r [(0,X (Xn ((i:Int)+1)))]] [(40,40)] (cC ((i+1),o) ?_ ?_)
  ·refine⟨oM,?_⟩;rw[I3.2,Zb]
   first|rw[if_pos (Zd h5)]|rw[if_neg (by rw[Ze h5];decide),qL]
  exact tO
 have e1:((sU f mode f.length):List Int)=o:=by
  rw[I3.2,show i=f.length by omega]
 exact .aG [.r [],.le (.fr 4 [(o.length:Nat)=(List.map bC o).length] ⟨lm,trivial⟩)] [] (fun z0:List Int=>(VL 1 bC z0,[])) _ _ e1
theorem x2M(pl:List Int)(k:Int)(hk:0<=k/\k<=pl.length)(hp:∀x∈pl,0<=x/\x<=1000000000):FC Tryz.prog 140 [VL 1 bC pl,VI k] (app emp []) (VI (ou pl k)) (app emp []):=by
 refine .go Tryz.f140 ?_;refine .len 0 (fun dQ=> ?_);refine .bp [.r [],.r []] (k==0) (fun h1=> ?_) (fun h1=> ?_)
 ·have e1:((ou pl k):Int)=0:=by
   unfold ou;rw[if_pos oM]
  exact .aG [.r []] [] (fun z0:Int=>(VI z0,[])) _ _ e1
 have hx:=hp _ (fE (l:=pl) (i:=(k- 1).toNat) oM);have e2:((ou pl k):Int)=((pl.getD (Int.toNat (k- 1)) default)+1):=by
  unfold ou;rw[if_neg oM]
 exact .aG [.r [(2,X (Xn (k- 1))),(3,X (Xi bC pl (k- 1))),(5,X (Xn ((pl.getD (Int.toNat (k- 1)) default)+1)))]] [] (fun z0:Int=>(VI z0,[])) _ _ e2
theorem y4K(f:List aL)(pl:List Int)(au:ByteArray)(hf:f.length<=10000000)(hp:∀x∈pl,0<=x/\x< (f.length:Int)):FC Tryz.prog 139 [VL 3 aU f,VL 1 bC pl,VS au] (app emp []) (VL 4 bB (pZ f pl au)) (app emp []):=by
 refine .go Tryz.f139 ?_;refine .len 0 (fun dQ=> ?_);refine .len 1 (fun gW=> ?_);obtain⟨dn,el⟩:=x7A f pl au f.length;have sl:=Zf f pl au f.length;refine .loop (α:=Nat×(List Bool)) [.r [],.r [(1,X (Xl aU f)),(2,X (Qz 1 o6 24 (f.length:Int) (f.length:Int) false))],.r [(1,X (Xl bC pl))]] 64 (fun(k,m)=>([(0,VL 3 aU f),(2,VS au),(7,.aF 24 f.length),(19,VL 1 bC pl),(20,VI (pl.length:Int)),(21,VI (k:Int))],[(24,OR 1 o6 m)])) (fun(k,m)=>k<=pl.length/\m=yp (pl.take k) f.length) (fun(k,m)=>pl.length-k) (0,(List.replicate f.length false)) ?_ ?_
 ·exact⟨oM,by rw[List.take_zero,x1C]⟩
 rintro⟨k,m⟩ I3 cC;try dsimp only at I3
 have ol:m.length=f.length:=by rw[I3.2,x1B]
 refine .bp [.r []] (decide ((k:Int)< (pl.length:Int))) (fun h3=> ?_) (fun h3=> ?_)
 ·have SS:=hp _ (fE (l:=pl) (i:=k) oM);refine .back [.r [(0,X (Xi bC pl (k:Int)))],.r [(2,X (nr f.length o6 m (pl.getD k default))),(3,X (tE f.length 1 o6 24 m (Int.toNat (pl.getD k default)) true))],.r [(0,X (Xn ((k:Int)+1)))]] [(24,24)] (cC ((k+1),(m.set (Int.toNat (pl.getD k default)) true)) ?_ ?_)
  ·exact⟨oM,by rw[I3.2];exact y9i oM SS⟩
  exact tO
 have hm:m=yp pl f.length:=by rw[I3.2,qk oM]
 refine .loop (α:=Nat×(List aB)) [.r [],.r [(1,X (Xl aU f))],.le (.nR 10 4)] 105 (fun(i,o)=>([(2,VS au),(7,.aF 24 f.length),(10,.aF 104 o.length),(29,VL 3 aU f),(30,VI (f.length:Int)),(31,VI (i:Int))],[(24,OR 1 o6 m),(104,OR 4 bB o)])) (fun(i,o)=>i<=f.length/\o=wz f pl au i) (fun(i,o)=>f.length-i) (0,[]) ?_ ?_
 ·exact⟨oM,rfl⟩
 rintro⟨i,o⟩ I9 vY;try dsimp only at I9
 have RB:o.length=i:=by rw[I9.2];exact Zf f pl au i
 refine .bp [.r []] (decide ((i:Int)< (f.length:Int))) (fun h9=> ?_) (fun h9=> ?_)
 ·have SU:m.getD i default=pl.any (fun p=>p==(i:Int)):=by rw[hm];exact x4A oM
  refine .bp [.r [(1,X (Xi aU f (i:Int)))],.r [(0,X (Xf [(2,2),(3,3)]))],.r [(2,X (nr f.length o6 m (i:Int))),(3,X (CB f.length o6 m i))]] (!(m.getD i default)) (fun fe=> ?_) (fun fe=> ?_)
  ·refine .back (let a:=({af:=0,n:=1,ah:=[],elems:=[]}:aB);[.r [(3,X (cg bB [a] (fK 4 bB 104 o [a])))],.r [(0,X (Xn ((i:Int)+1)))]]) [(24,24),(104,104)] (vY ((i+1),(o++[({af:=0,n:=1,ah:=[],elems:=[]}:aB)])) ?_ ?_)
   ·refine⟨oM,?_⟩;rw[I9.2,R4,w1k (SU.symm.trans fe)]
   exact tO
  refine .bp (let a:=seq au ({data:=#[]});[.r [(4,Xv 1 (!a) X0),(5,Xv 1 (!a) (aW (CG (((f.getD i default)).ah) ({data:=#[97,100,100]})) X0)),(7,Xv 2 (!a) X0),(8,X (b7 a))]]) (seq au ({data:=#[]})||seq (iZ (((f.getD i default)).ah) ({data:=#[97,100,100]}) 0) au) (fun eN=> ?_) (fun eN=> ?_)
  ·refine .back (let a:=({af:=2,n:=1,ah:=[],elems:=[]}:aB);[.r [],.r [(3,X (cg bB [a] (fK 4 bB 104 o [a])))],.r [(0,X (Xn ((i:Int)+1)))]]) [(24,24),(104,104)] (vY ((i+1),(o++[({af:=2,n:=1,ah:=[],elems:=[]}:aB)])) ?_ ?_)
   ·refine⟨oM,?_⟩;rw[I9.2,R4,w1l (SU.symm.trans fe) eN]
   exact tO
  refine .back (let a:=({name:={data:=#[99,117,116]},val:=au}:aI);let b:=({af:=0,n:=1,ah:=[a],elems:=[]}:aB);[.r [],.r [(2,X (cg aS [a] X0)),(3,X (cg bB [b] (fK 4 bB 104 o [b])))],.r [(0,X (Xn ((i:Int)+1)))]]) [(24,24),(104,104)] (vY ((i+1),(o++[({af:=0,n:=1,ah:=[({name:={data:=#[99,117,116]},val:=au}:aI)],elems:=[]}:aB)])) ?_ ?_)
  ·refine⟨oM,?_⟩;rw[I9.2,R4,w1m (SU.symm.trans fe) eN]
  exact tO
 have ho:o=wz f pl au f.length:=by rw[I9.2,show i=f.length by omega]
 rw[<-ho] at dn el sl;have e1:((pZ f pl au):List aB)=(mB o):=by
  rw[ho];rfl
 exact .aG [.r [(1,X (bV 121 (M3 o aM oM oM) (cg bB o X0)))],.r []] [] (fun z0:List aB=>(VL 4 bB z0,[])) _ _ e1
theorem x48(l:List aL)(hn:l.length<=1048576)(hs:∀x∈l,x.ah.length<=1048576):FC Tryz.prog 90 [VL 3 aU l] (app emp []) (.aF 0 l.length) (app emp [(0,OR 3 aU l)]):=by
 refine .go Tryz.f90 ?_;refine .len 0 (fun dQ=> ?_);refine .loop (α:=Nat×(List aL)) [.r [],.r [(1,X (Xl aU l)),(2,X (IC 3 aU 24 (l.length:Int) (l.length:Int) ({aT:=0,bh:=0,ah:=[]}:aL) [TI 0,TI 0,TN] ⟨.inl rfl,⟨.inl rfl,⟨jQ (by decide),trivial⟩⟩⟩))],.r [(1,X (Xl aU l))]] 64 (fun(i,o)=>([(3,.aF 24 l.length),(9,VL 3 aU l),(10,VI (l.length:Int)),(11,VI (i:Int))],[(24,OR 3 aU o)])) (fun(i,o)=>i<=l.length/\o=l.take i++List.replicate (l.length-i) ({aT:=0,bh:=0,ah:=[]}:aL)) (fun(i,o)=>l.length-i) (0,(List.replicate l.length ({aT:=0,bh:=0,ah:=[]}:aL))) ?_ ?_
 ·exact⟨by omega,by simp⟩
 rintro⟨i,o⟩ I3 cC;try dsimp only at I3
 have ol:o.length=l.length:=by rw[I3.2];simp;omega
 refine .bp [.r []] (decide ((i:Int)< (l.length:Int))) (fun h3=> ?_) (fun h3=> ?_)
 ·have hx:=hs _ (IL (l:=l) (k:=i) (by omega));refine .back [.r [(1,X (Xi aU l (i:Int)))],.r [(8,X (o5 aS 184 (((l.getD i default)).ah))),(10,X (nr l.length aU o (i:Int))),(11,X (cg aS (((l.getD i default)).ah) (tE l.length 3 aU 24 o i ((l.getD i default)) [(184,OF 2 aS (((l.getD i default)).ah))])))],.r [(0,X (Xn ((i:Int)+1)))]] [(24,24)] (cC ((i+1),(o.set i ((l.getD i default)))) ?_ ?_)
  ·refine⟨by omega,?_⟩;rw[I3.2];exact Jc rfl (by omega) rfl
  ((try dsimp only);omega)
 have e1:(l:List aL)=o:=by
  first|omega| (rw[I3.2,qk (by omega),show l.length-i=0 by omega];simp)
 exact .aG [.r []] [(24,0)] (fun z0:List aL=>(.aF 0 l.length,[(0,OR 3 aU z0)])) _ _ e1
theorem y8n(f:List aL)(k:Int)(es:List aL)(au:ByteArray)(hf:f.length<=10000000)(hk:0<=k/\k<=f.length)(he:es.length<=1048576)(ha:∀x∈es,x.ah.length<=1048576):FC Tryz.prog 141 [VL 3 aU f,VI k,VL 3 aU es,VS au] (app emp []) (VL 4 bB (tD f.length k es au)) (app emp []):=by
 refine .go Tryz.f141 ?_;refine .len 0 (fun dQ=> ?_);refine .len 2 (fun lU=> ?_);obtain⟨dn,el⟩:=x7B f.length k es au he ha;refine .loop (α:=Nat×(List aL)) [.r [],.r [(1,X (bV 16 (x48 es (by assumption) (by assumption)) X0))],.r []] 56 (fun(i,o)=>([(0,VL 3 aU f),(1,VI k),(3,VS au),(9,.aF 16 ((es).length)),(16,VI ((es).length:Int)),(17,VI (i:Int))],[(16,OR 3 aU o)])) (fun(i,o)=>i<=es.length/\o=(es.take i).map (Eo au)++es.drop i) (fun(i,o)=>es.length-i) (0,es) ?_ ?_
 ·exact⟨by omega,by simp⟩
 rintro⟨i,o⟩ I3 cC;try dsimp only at I3
 have ol:o.length=es.length:=by rw[I3.2];simp;omega
 refine .bp [.r []] (decide ((i:Int)< ((es).length:Int))) (fun h3=> ?_) (fun h3=> ?_)
 ·have hxa:=ha _ (fE (l:=es) (i:=i) (by omega));have JE:o.getD i default=es.getD i default:=by rw[I3.2];exact Zg (by omega)
  rw[<-JE] at hxa;refine .back [.r [],.r [(4,X (nr ((es).length) aU o (i:Int))),(6,X (CB ((es).length) aU o i)),(11,X (bV 168 (DC (((o.getD i default)).ah) [({name:={data:=#[97,100,100]},val:=au}:aI),({name:={data:=#[99,117,116]},val:={data:=#[]}}:aI)] (by simp only[qi,zg];omega)) (cg aS [({name:={data:=#[97,100,100]},val:=au}:aI),({name:={data:=#[99,117,116]},val:={data:=#[]}}:aI)] X0))),(12,X (nr ((es).length) aU o (i:Int))),(14,X (tE ((es).length) 3 aU 16 o i ({aT:=((o.getD i default)).aT,bh:=((o.getD i default)).bh,ah:=(fm eY (((o.getD i default)).ah) [({name:={data:=#[97,100,100]},val:=au}:aI),({name:={data:=#[99,117,116]},val:={data:=#[]}}:aI)])}:aL)))],.r [(0,X (Xn ((i:Int)+1)))]] [(16,16)] (cC ((i+1),(o.set i ({aT:=((o.getD i default)).aT,bh:=((o.getD i default)).bh,ah:=(fm eY (((o.getD i default)).ah) [({name:={data:=#[97,100,100]},val:=au}:aI),({name:={data:=#[99,117,116]},val:={data:=#[]}}:aI)])}:aL))) ?_ ?_)
  ·refine⟨by omega,?_⟩;rw[JE,I3.2];exact Zh (by omega)
  ((try dsimp only);omega)
 have ho:o=es.map (Eo au):=by rw[I3.2,qk (by omega),qN (by omega),qL]
 obtain⟨dn2,l2,e2⟩:=x9G ho dn el;have e1:((tD f.length k es au):List aB)=(mB [({af:=0,n:=k,ah:=[],elems:=[]}:aB),({af:=1,n:=0,ah:=[],elems:=o}:aB),({af:=0,n:=((f.length:Int)- k),ah:=[],elems:=[]}:aB)]):=by
  rw[ho];rfl
 exact .aG [.r [(1,X (Xf [(2,2),(3,3)])),(3,X (Xf [(2,2)])),(5,X (Xl aU f)),(7,X (Xn ((f.length:Int)- k))),(8,X (Xf [(2,2),(3,3)])),(9,X (Qy ((es).length) aU o X0)),(10,X (bV 144 (M3 [({af:=0,n:=k,ah:=[],elems:=[]}:aB),({af:=1,n:=0,ah:=[],elems:=o}:aB),({af:=0,n:=((f.length:Int)- k),ah:=[],elems:=[]}:aB)] dn2 l2 e2) (cg bB [({af:=0,n:=k,ah:=[],elems:=[]}:aB),({af:=1,n:=0,ah:=[],elems:=o}:aB),({af:=0,n:=((f.length:Int)- k),ah:=[],elems:=[]}:aB)] X0)))],.r []] [] (fun z0:List aB=>(VL 4 bB z0,[])) _ _ e1
end Go.Ch
end
