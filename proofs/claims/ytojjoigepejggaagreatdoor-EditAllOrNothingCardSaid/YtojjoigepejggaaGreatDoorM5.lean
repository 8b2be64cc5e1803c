/- Plain law of lists of attributes: sorted lists as functions from names to values. -/
import Derived.Test.YtojjoigepejggaaGreatDoorM1
import Derived.Test.YtojjoigepejggaaGreatDoorM2
import Derived.Test.YtojjoigepejggaaGreatDoorM3
import Derived.Test.YtojjoigepejggaaGreatDoorM4
import Derived.Test.YtojjoigepejggaaGreatDoorProg
import Derived.Maps.RangeRun
import Derived.Shelf.Unicode.DecodeSlow
import Derived.Lib.TrimUEq
import Derived.Lib.QuoteLoop
import Derived.Lib.ValidLaws
import Derived.Lib.ValidAsc
section
set_option linter.unusedVariables false
set_option linter.unusedSimpArgs false
namespace Go.Ch
open Go Go.Ab
structure Attr where
 name:ByteArray
 val:ByteArray
abbrev mt:ByteArray:={data:=#[]}
instance:Inhabited Attr:=⟨⟨mt,mt⟩⟩
def attrT(a:Attr):Tree:= .agg [.sc (.string a.name),.sc (.string a.val)]
theorem byt_ext{a b:ByteArray}(h:a.toList=b.toList):a=b:=by
 rw[ByteArray.toList_eq,ByteArray.toList_eq] at h
 obtain⟨⟨x⟩⟩:=a
 obtain⟨⟨y⟩⟩:=b
 simpa using h
theorem seq_iff{a b:ByteArray}:seq a b=true↔a=b:=by
 unfold seq
 rw[beq_iff_eq]
 exact⟨byt_ext,fun h=>by rw[h]⟩
theorem seq_no{a b:ByteArray}:seq a b=false↔a≠b:=by
 rw[←Bool.not_eq_true,seq_iff]
theorem bl_irr:∀x:List UInt8,Op.bytesLess x x=false
 | []=>rfl
 |a::x=>by simp[Op.bytesLess,bl_irr x]
theorem bl_trans:∀x y z:List UInt8,Op.bytesLess x y=true→Op.bytesLess y z=true→Op.bytesLess x z=true
 |_,_,[],_,h=>by cases‹List UInt8›<;>simp[Op.bytesLess] at h
 | [],_,_::_,_,_=>rfl
 |a::x,[],_::_,h,_=>by simp[Op.bytesLess] at h
 |a::x,b::y,c::z,h1,h2=>by
  simp only[Op.bytesLess,Bool.or_eq_true,decide_eq_true_eq,Bool.and_eq_true,beq_iff_eq,UInt8.lt_iff_toNat_lt,←UInt8.toNat_inj] at h1 h2⊢
  rcases h1 with h1| ⟨h1,h1'⟩
  ·rcases h2 with h2| ⟨h2,h2'⟩<;>(left;omega)
  ·rcases h2 with h2| ⟨h2,h2'⟩
   ·left;omega
   ·right;exact⟨by omega,bl_trans x y z h1' h2'⟩
theorem bl_tri:∀x y:List UInt8,Op.bytesLess x y=false→Op.bytesLess y x=false→x=y
 | [],[],_,_=>rfl
 | [],_::_,h,_=>by simp[Op.bytesLess] at h
 |_::_,[],_,h=>by simp[Op.bytesLess] at h
 |a::x,b::y,h1,h2=>by
  simp only[Op.bytesLess,Bool.or_eq_false_iff,decide_eq_false_iff_not,Bool.and_eq_false_iff,beq_eq_false_iff_ne,UInt8.lt_iff_toNat_lt,ne_eq,←UInt8.toNat_inj] at h1 h2
  have e:a.toNat=b.toNat:=by omega
  have h1':Op.bytesLess x y=false:=by rcases h1.2 with h|h;exact absurd e h;exact h
  have h2':Op.bytesLess y x=false:=by rcases h2.2 with h|h;exact absurd e.symm h;exact h
  rw[UInt8.toNat_inj.1 e,bl_tri x y h1' h2']
theorem slt_irr(a:ByteArray):slt a a=false:=bl_irr _
theorem slt_trans{a b c:ByteArray}(h:slt a b=true)(k:slt b c=true):slt a c=true:=bl_trans _ _ _ h k
theorem slt_tri{a b:ByteArray}(h:slt a b=false)(k:slt b a=false):a=b:=byt_ext (bl_tri _ _ h k)
theorem slt_ne{a b:ByteArray}(h:slt a b=true):a≠b:=fun e=>by subst e;rw[slt_irr] at h;cases h
theorem slt_asymm{a b:ByteArray}(h:slt a b=true):slt b a=false:=by
 cases k:slt b a with
 |false=>rfl
 |true=>have:=slt_trans h k;rw[slt_irr] at this;cases this
def Above(n:ByteArray)(l:List Attr):Prop:=∀a∈l,slt n a.name=true
def Sorted:List Attr→Prop
 | []=>True
 |a::l=>Above a.name l∧Sorted l
def look:List Attr→ByteArray→Option ByteArray
 | [],_=>none
 |a::l,n=>if a.name=n then some a.val else look l n
theorem look_above{l:List Attr}{n:ByteArray}(h:∀a∈l,a.name≠n):look l n=none:=by
 induction l with
 |nil=>rfl
 |cons a l ih=>rw[look,if_neg (h a (by simp))];exact ih (fun b hb=>h b (by simp[hb]))
theorem look_mem{l:List Attr}{n v:ByteArray}(h:look l n=some v):(⟨n,v⟩:Attr)∈l:=by
 induction l with
 |nil=>cases h
 |cons a l ih=>
  rw[look] at h
  split at h
  ·rename_i hn
   cases h
   subst hn
   exact List.mem_cons_self
  ·exact List.mem_cons_of_mem _ (ih h)
theorem look_of_mem{l:List Attr}(hs:Sorted l){a:Attr}(h:a∈l):look l a.name=some a.val:=by
 induction l with
 |nil=>cases h
 |cons b l ih=>
  rw[look]
  rcases List.mem_cons.1 h with rfl|h
  ·rw[if_pos rfl]
  ·rw[if_neg (slt_ne (hs.1 a h))];exact ih hs.2 h
theorem sorted_ext:∀{a b:List Attr},Sorted a→Sorted b→(∀n,look a n=look b n)→a=b
 | [],[],_,_,_=>rfl
 | [],y::b,_,_,h=>by have:=h y.name;simp[look] at this
 |x::a,[],_,_,h=>by have:=h x.name;simp[look] at this
 |x::a,y::b,ha,hb,h=>by
  have hxy:x.name=y.name:=by
   refine slt_tri ?_ ?_
   ·cases k:slt x.name y.name with
    |false=>rfl
    |true=>
     have h1:=h x.name
     rw[look,if_pos rfl,look,if_neg (fun e=>slt_ne k e.symm),look_above (fun z hz e=>slt_ne (slt_trans k (hb.1 z hz)) e.symm)] at h1
     cases h1
   ·cases k:slt y.name x.name with
    |false=>rfl
    |true=>
     have h1:=h y.name
     rw[look,if_neg (fun e=>slt_ne k e.symm),look_above (fun z hz e=>slt_ne (slt_trans k (ha.1 z hz)) e.symm),look,if_pos rfl] at h1
     cases h1
  have hv:x.val=y.val:=by
   have h1:=h x.name
   rw[look,if_pos rfl,look,if_pos hxy.symm] at h1
   exact Option.some.inj h1
  have e:x=y:=by cases x;cases y;simp_all
  subst e
  rw[sorted_ext ha.2 hb.2 (fun n=> ?_)]
  by_cases hn:x.name=n
  ·subst hn
   rw[look_above (fun z hz e=>slt_ne (ha.1 z hz) e.symm),look_above (fun z hz e=>slt_ne (hb.1 z hz) e.symm)]
  ·have h1:=h n
   rwa [look,if_neg hn,look,if_neg hn] at h1
def bothL:List Attr→List Attr→List (Attr×Attr)
 | [],[]=>[]
 | [],y::b=>(default,y)::bothL [] b
 |x::a,[]=>(x,default)::bothL a []
 |x::a,y::b=>
  if slt x.name y.name=true then(x,default)::bothL a (y::b)
  else if slt y.name x.name=true then(default,y)::bothL (x::a) b
  else(x,y)::bothL a b
termination_by a b=>a.length+b.length
theorem bothL_len:∀a b:List Attr,(bothL a b).length≤a.length+b.length:=by
 intro a b
 induction a,b using bothL.induct with
 |case1=>simp[bothL]
 |case2 y b ih=>simp only[bothL,List.length_cons] at ih⊢;omega
 |case3 x a ih=>simp only[bothL,List.length_cons] at ih⊢;omega
 |case4 x a y b h ih=>rw[bothL,if_pos h];simp only[List.length_cons] at ih⊢;omega
 |case5 x a y b h k ih=>rw[bothL,if_neg h,if_pos k];simp only[List.length_cons] at ih⊢;omega
 |case6 x a y b h k ih=>rw[bothL,if_neg h,if_neg k];simp only[List.length_cons] at ih⊢;omega
def Named(l:List Attr):Prop:=∀a∈l,a.name≠mt
def Fair(g:Attr→Attr→Option Attr):Prop:=∀x y z,g x y=some z→z.name=if y.name=mt then x.name else y.name
def fm(g:Attr→Attr→Option Attr)(a b:List Attr):List Attr:=(bothL a b).filterMap fun p=>g p.1 p.2
def at2(g:Attr→Attr→Option Attr)(n:ByteArray):Option ByteArray→Option ByteArray→Option ByteArray
 |none,none=>none
 |some v,none=>(g ⟨n,v⟩ default).map (·.val)
 |none,some w=>(g default ⟨n,w⟩).map (·.val)
 |some v,some w=>(g ⟨n,v⟩ ⟨n,w⟩).map (·.val)
theorem fm_cons{g:Attr→Attr→Option Attr}{x y:Attr}{l:List (Attr×Attr)}:((x,y)::l).filterMap (fun p=>g p.1 p.2)=(g x y).toList++l.filterMap (fun p=>g p.1 p.2):=by
 rw[List.filterMap_cons]
 cases g x y<;>rfl
theorem look_opt{o:Option Attr}{l:List Attr}{k n:ByteArray}(h:∀z,o=some z→z.name=k):look (o.toList++l) n=if k=n then(o.map (·.val)).or (look l n) else look l n:=by
 cases o with
 |none=>simp
 |some z=>
  have:=h z rfl
  subst this
  simp[look]
theorem above_opt{o:Option Attr}{l:List Attr}{k n:ByteArray}(h:∀z,o=some z→z.name=k)(hn:slt n k=true)(hl:Above n l):Above n (o.toList++l):=by
 intro a ha
 rcases List.mem_append.1 ha with ha|ha
 ·rw[h a (by simpa using ha)];exact hn
 ·exact hl a ha
theorem sorted_opt{o:Option Attr}{l:List Attr}{k:ByteArray}(h:∀z,o=some z→z.name=k)(hl:Above k l)(hs:Sorted l):Sorted (o.toList++l):=by
 cases o with
 |none=>exact hs
 |some z=>exact⟨by rw[h z rfl];exact hl,hs⟩
theorem look_hd{a:Attr}{l:List Attr}:look (a::l) a.name=some a.val:=by rw[look,if_pos rfl]
theorem look_tl{a:Attr}{l:List Attr}{n:ByteArray}(h:a.name≠n):look (a::l) n=look l n:=by rw[look,if_neg h]
theorem fm_main{g:Attr→Attr→Option Attr}(hg:Fair g):∀(a b:List Attr),Sorted a→Sorted b→Named a→Named b→
 Sorted (fm g a b)∧(∀n,Above n a→Above n b→Above n (fm g a b))∧∀n,look (fm g a b) n=at2 g n (look a n) (look b n):=by
 intro a b
 induction a,b using bothL.induct with
 |case1=>intro _ _ _ _;exact⟨by simp[fm,bothL,Sorted],fun n _ _=>by simp[fm,bothL,Above],fun n=>by simp[fm,bothL,look,at2]⟩
 |case2 y b ih=>
  intro _ hb _ nb
  obtain⟨i1,i2,i3⟩:=ih trivial hb.2 (fun _ h=>by cases h) (fun a h=>nb a (by simp[h]))
  have hk:∀z,g default y=some z→z.name=y.name:=fun z hz=>by rw[hg _ _ z hz,if_neg (nb y (by simp))]
  have e:fm g [] (y::b)=(g default y).toList++fm g [] b:=by unfold fm;rw[bothL,fm_cons]
  rw[e]
  refine⟨sorted_opt hk (i2 _ (fun _ h=>by cases h) hb.1) i1,fun n h1 h2=>above_opt hk (h2 y (by simp)) (i2 n h1 (fun a h=>h2 a (by simp[h]))),fun n=> ?_⟩
  rw[look_opt hk,i3]
  simp only[look]
  by_cases h:y.name=n
  ·subst h
   rw[look_above (l:=b) (fun z hz e=>slt_ne (hb.1 z hz) e.symm)]
   simp[at2]
  ·simp only[if_neg h]
 |case3 x a ih=>
  intro ha _ na _
  obtain⟨i1,i2,i3⟩:=ih ha.2 trivial (fun a h=>na a (by simp[h])) (fun _ h=>by cases h)
  have hk:∀z,g x default=some z→z.name=x.name:=fun z hz=>by rw[hg _ _ z hz];exact if_pos rfl
  have e:fm g (x::a) []=(g x default).toList++fm g a []:=by unfold fm;rw[bothL,fm_cons]
  rw[e]
  refine⟨sorted_opt hk (i2 _ ha.1 (fun _ h=>by cases h)) i1,fun n h1 h2=>above_opt hk (h1 x (by simp)) (i2 n (fun a h=>h1 a (by simp[h])) h2),fun n=> ?_⟩
  rw[look_opt hk,i3]
  simp only[look]
  by_cases h:x.name=n
  ·subst h
   rw[look_above (l:=a) (fun z hz e=>slt_ne (ha.1 z hz) e.symm)]
   simp[at2]
  ·simp only[if_neg h]
 |case4 x a y b h ih=>
  intro ha hb na nb
  obtain⟨i1,i2,i3⟩:=ih ha.2 hb (fun a h=>na a (by simp[h])) nb
  have hk:∀z,g x default=some z→z.name=x.name:=fun z hz=>by rw[hg _ _ z hz];exact if_pos rfl
  have e:fm g (x::a) (y::b)=(g x default).toList++fm g a (y::b):=by unfold fm;rw[bothL,if_pos h,fm_cons]
  have hxb:Above x.name (y::b):=fun z hz=>by
   rcases List.mem_cons.1 hz with rfl|hz
   ·exact h
   ·exact slt_trans h (hb.1 z hz)
  rw[e]
  refine⟨sorted_opt hk (i2 _ ha.1 hxb) i1,fun n h1 h2=>above_opt hk (h1 x (by simp)) (i2 n (fun a h=>h1 a (by simp[h])) h2),fun n=> ?_⟩
  rw[look_opt hk,i3]
  by_cases hn:x.name=n
  ·subst hn
   rw[look_above (l:=y::b) (fun z hz e=>slt_ne (hxb z hz) e.symm),look_above (l:=a) (fun z hz e=>slt_ne (ha.1 z hz) e.symm),look_hd]
   simp[at2]
  ·rw[if_neg hn,look_tl hn]
 |case5 x a y b h k ih=>
  intro ha hb na nb
  obtain⟨i1,i2,i3⟩:=ih ha hb.2 na (fun a h=>nb a (by simp[h]))
  have hk:∀z,g default y=some z→z.name=y.name:=fun z hz=>by rw[hg _ _ z hz,if_neg (nb y (by simp))]
  have e:fm g (x::a) (y::b)=(g default y).toList++fm g (x::a) b:=by unfold fm;rw[bothL,if_neg h,if_pos k,fm_cons]
  have hya:Above y.name (x::a):=fun z hz=>by
   rcases List.mem_cons.1 hz with rfl|hz
   ·exact k
   ·exact slt_trans k (ha.1 z hz)
  rw[e]
  refine⟨sorted_opt hk (i2 _ hya hb.1) i1,fun n h1 h2=>above_opt hk (h2 y (by simp)) (i2 n h1 (fun a h=>h2 a (by simp[h]))),fun n=> ?_⟩
  rw[look_opt hk,i3]
  by_cases hn:y.name=n
  ·subst hn
   rw[look_above (l:=x::a) (fun z hz e=>slt_ne (hya z hz) e.symm),look_above (l:=b) (fun z hz e=>slt_ne (hb.1 z hz) e.symm),look_hd]
   simp[at2]
  ·rw[if_neg hn,look_tl (a:=y) hn]
 |case6 x a y b h k ih=>
  intro ha hb na nb
  obtain⟨i1,i2,i3⟩:=ih ha.2 hb.2 (fun a h=>na a (by simp[h])) (fun a h=>nb a (by simp[h]))
  have hxy:x.name=y.name:=slt_tri (by simpa using h) (by simpa using k)
  have hk:∀z,g x y=some z→z.name=x.name:=fun z hz=>by rw[hg _ _ z hz,if_neg (nb y (by simp)),hxy]
  have e:fm g (x::a) (y::b)=(g x y).toList++fm g a b:=by unfold fm;rw[bothL,if_neg h,if_neg k,fm_cons]
  rw[e]
  refine⟨sorted_opt hk (i2 _ ha.1 (by rw[hxy];exact hb.1)) i1,fun n h1 h2=>above_opt hk (h1 x (by simp)) (i2 n (fun a h=>h1 a (by simp[h])) (fun a h=>h2 a (by simp[h]))),fun n=> ?_⟩
  rw[look_opt hk,i3]
  by_cases hn:x.name=n
  ·subst hn
   have ey:(⟨x.name,y.val⟩:Attr)=y:=by rw[hxy]
   have hl:look (y::b) x.name=some y.val:=by rw[hxy];exact look_hd
   rw[hl,look_hd,look_above (l:=a) (fun z hz e=>slt_ne (ha.1 z hz) e.symm),look_above (l:=b) (fun z hz e=>slt_ne (hb.1 z hz) (by rw[←hxy,e]))]
   simp[at2,ey]
  ·rw[if_neg hn,look_tl hn,look_tl (a:=y) (by rw[←hxy];exact hn)]
theorem dflt:(default:Attr)=⟨mt,mt⟩:=rfl
def rawG(x y:Attr):Option Attr:=if y.name=mt then some x else if y.val=mt then none else some y
def botG(x y:Attr):Option Attr:=some (if y.name=mt then x else y)
def wioG(x y:Attr):Option Attr:=if y.name=mt then some x else none
theorem fair_raw:Fair rawG:=by intro x y z h;unfold rawG at h;(repeat' split at h)<;>simp_all
theorem fair_bot:Fair botG:=by intro x y z h;unfold botG at h;(repeat' split at h)<;>simp_all
theorem fair_wio:Fair wioG:=by intro x y z h;unfold wioG at h;(repeat' split at h)<;>simp_all
section
variable (NP VP:ByteArray→Prop)
def Q(e:Bool)(n v:ByteArray):Prop:=NP n∧(VP v∨(e=true∧v=mt))
def V(e:Bool)(l:List Attr):Prop:=Sorted l∧∀a∈l,Q NP VP e a.name a.val
end
section
variable {NP VP:ByteArray→Prop} (hN:¬NP mt) (hV:¬VP mt)
include hN
theorem V.named{e:Bool}{l:List Attr}(h:V NP VP e l):Named l:=fun a ha e'=>hN (by have:=(h.2 a ha).1;rwa [e'] at this)
omit hN in
theorem V.look{e:Bool}{l:List Attr}(h:V NP VP e l){n v:ByteArray}(hl:look l n=some v):Q NP VP e n v:=h.2 ⟨n,v⟩ (look_mem hl)
theorem fm_look{e1 e2:Bool}{g:Attr→Attr→Option Attr}(hg:Fair g){a b:List Attr}(ha:V NP VP e1 a)(hb:V NP VP e2 b)(n:ByteArray):
 Go.Ch.look (fm g a b) n=at2 g n (Go.Ch.look a n) (Go.Ch.look b n):=(fm_main hg a b ha.1 hb.1 (ha.named hN) (hb.named hN)).2.2 n
theorem fm_V{e1 e2 e3:Bool}{g:Attr→Attr→Option Attr}(hg:Fair g){a b:List Attr}(ha:V NP VP e1 a)(hb:V NP VP e2 b)
 (h1:∀n v z,n≠mt→Q NP VP e1 n v→at2 g n (some v) none=some z→Q NP VP e3 n z)
 (h2:∀n v z,n≠mt→Q NP VP e2 n v→at2 g n none (some v)=some z→Q NP VP e3 n z)
 (h3:∀n v w z,n≠mt→Q NP VP e1 n v→Q NP VP e2 n w→at2 g n (some v) (some w)=some z→Q NP VP e3 n z):V NP VP e3 (fm g a b):=by
 have hm:=fm_main hg a b ha.1 hb.1 (ha.named hN) (hb.named hN)
 refine⟨hm.1,fun z hz=> ?_⟩
 have hl:=look_of_mem hm.1 hz
 rw[hm.2.2] at hl
 have hq:∀{e v},Q NP VP e z.name v→z.name≠mt:=fun q e=>hN (e▸q.1)
 cases h4:Go.Ch.look a z.name with
 |none=>
  cases h5:Go.Ch.look b z.name with
  |none=>rw[h4,h5] at hl;cases hl
  |some w=>rw[h4,h5] at hl;exact h2 _ _ _ (hq (hb.look h5)) (hb.look h5) hl
 |some v=>
  cases h5:Go.Ch.look b z.name with
  |none=>rw[h4,h5] at hl;exact h1 _ _ _ (hq (ha.look h4)) (ha.look h4) hl
  |some w=>rw[h4,h5] at hl;exact h3 _ _ _ _ (hq (ha.look h4)) (ha.look h4) (hb.look h5) hl
theorem q_ne{e:Bool}{n v:ByteArray}(h:Q NP VP e n v):n≠mt:=fun e=>hN (e▸h.1)
theorem raw_V{l c:List Attr}(hl:V NP VP false l)(hc:V NP VP true c):V NP VP false (fm rawG l c):=by
 refine fm_V hN fair_raw hl hc (fun n v z hn q h=> ?_) (fun n v z hn q h=> ?_) (fun n v w z hn q r h=> ?_)
 ·simp[at2,rawG,dflt] at h;subst h;exact q
 ·simp[at2,rawG,dflt,hn] at h;obtain⟨_,⟨h1,rfl⟩,rfl⟩:=h;simp_all[Q]
 ·simp[at2,rawG,dflt,hn] at h;obtain⟨_,⟨h1,rfl⟩,rfl⟩:=h;simp_all[Q]
theorem bot_V{a b:List Attr}(ha:V NP VP true a)(hb:V NP VP true b):V NP VP true (fm botG a b):=by
 refine fm_V hN fair_bot ha hb (fun n v z hn q h=> ?_) (fun n v z hn q h=> ?_) (fun n v w z hn q r h=> ?_)
 ·simp[at2,botG,dflt] at h;subst h;exact q
 ·simp[at2,botG,dflt,hn] at h;subst h;exact q
 ·simp[at2,botG,dflt,hn] at h;subst h;exact r
theorem wio_V{a b:List Attr}(ha:V NP VP true a)(hb:V NP VP true b):V NP VP true (fm wioG a b):=by
 refine fm_V hN fair_wio ha hb (fun n v z hn q h=> ?_) (fun n v z hn q h=> ?_) (fun n v w z hn q r h=> ?_)
 ·simp[at2,wioG,dflt] at h;subst h;exact q
 ·simp[at2,wioG,dflt,hn] at h
 ·simp[at2,wioG,dflt,hn] at h
include hV
omit hV in
theorem pair_meets{l a b:List Attr}(hl:V NP VP false l)(ha:V NP VP true a)(hb:V NP VP true b):fm rawG (fm rawG l a) b=fm rawG (fm rawG l b) (fm wioG a b):=by
 have h1:=raw_V hN hl ha
 have h2:=raw_V hN hl hb
 have h3:=wio_V hN ha hb
 refine sorted_ext (raw_V hN h1 hb).1 (raw_V hN h2 h3).1 (fun n=> ?_)
 rw[fm_look hN fair_raw h1 hb,fm_look hN fair_raw h2 h3,fm_look hN fair_raw hl ha,fm_look hN fair_raw hl hb,fm_look hN fair_wio ha hb]
 cases k2:look a n with
 |none=>
  cases k3:look b n with
  |none=>cases look l n<;>simp[at2,rawG,dflt]
  |some w=>
   have hn:=q_ne hN (hb.look k3)
   by_cases hw:w=mt<;>cases look l n<;>simp[at2,rawG,wioG,dflt,hn,hw]
 |some v=>
  have hn:=q_ne hN (ha.look k2)
  cases k3:look b n with
  |none=>by_cases hv:v=mt<;>cases look l n<;>simp[at2,rawG,wioG,dflt,hn,hv]
  |some w=>by_cases hv:v=mt<;>by_cases hw:w=mt<;>cases look l n<;>simp[at2,rawG,wioG,dflt,hn,hv,hw]
end
end Go.Ch
end
section
set_option linter.unusedVariables false
set_option linter.unusedSimpArgs false
set_option maxRecDepth 100000
set_option maxHeartbeats 4000000
open Go Go.Proofs Go.Ab
namespace Go.Ch
theorem seq_mt{s:ByteArray}:seq s {data:=#[]}=decide (s.size=0):=by
 by_cases h:s.size=0
 ·rw[decide_eq_true h,seq_iff]
  obtain⟨⟨l⟩⟩:=s
  cases l with
  |nil=>rfl
  |cons a l=>simp[ByteArray.size] at h
 ·rw[decide_eq_false h,seq_no]
  intro e;subst e;exact h rfl
theorem str_pos{s:ByteArray}(h:seq s {data:=#[]}=false):(0:Int)< (s.size:Int):=by
 rw[seq_mt,decide_eq_false_iff_not] at h;omega
def byt(s:ByteArray)(i:Nat):Nat:=((s[i]?).getD 0).toNat
def badC(b:Nat):Prop:=(b<97∨122<b)∧(b<48∨57<b)∧b≠46∧b≠45
instance (b:Nat):Decidable (badC b):=by unfold badC;infer_instance
def nmS(s:ByteArray)(i:Nat):Bool:=if i<s.size then(if badC (byt s i) then false else nmS s (i+1)) else true
termination_by s.size-i
def nameGo(s:ByteArray):Bool:=decide (1≤s.size∧s.size≤24∧97≤byt s 0∧byt s 0≤122)&&nmS s 0
def vlS(s:ByteArray)(i:Nat):Bool:=if i<s.size then(if byt s i<32∨126<byt s i then false else vlS s (i+1)) else true
termination_by s.size-i
def valGo(s:ByteArray):Bool:=decide (1≤s.size∧s.size≤200)&&vlS s 0
def nmR(s:ByteArray)(i:Nat):Bool:=if i<s.size then(if(byt s i<97∨122<byt s i)∧(i=0∨(byt s i≠46∧byt s i≠45∧(byt s i<48∨57<byt s i))) then false else nmR s (i+1)) else true
termination_by s.size-i
def nameRf(s:ByteArray):Bool:=nmR s 0&&decide (1≤s.size∧s.size≤24)
def valRf(s:ByteArray):Bool:=vlS s 0&&decide (1≤s.size∧s.size≤200)
theorem nmR_pos(s:ByteArray)(i:Nat)(h:0<i):nmR s i=nmS s i:=by
 induction i using nmS.induct (s:=s) with
 |case1 i hi hb=>rw[nmR,nmS,if_pos hi,if_pos hi,if_pos hb,if_pos];unfold badC at hb;omega
 |case2 i hi hb ih=>rw[nmR,nmS,if_pos hi,if_pos hi,if_neg hb,if_neg];exact ih (by omega);unfold badC at hb;omega
 |case3 i hi=>rw[nmR,nmS,if_neg hi,if_neg hi]
theorem nameRf_eq(s:ByteArray):nameRf s=nameGo s:=by
 unfold nameRf nameGo
 by_cases h:1≤s.size
 ·rw[nmR,if_pos (by omega),nmR_pos s (0+1) (by omega)]
  by_cases h2:97≤byt s 0∧byt s 0≤122
  ·have e:nmS s 0=nmS s (0+1):=by rw[nmS,if_pos (by omega),if_neg (by unfold badC;omega)]
   rw[if_neg (by omega),e,Bool.and_comm]
   congr 1
   simp[h2]
  ·rw[if_pos (by omega),decide_eq_false (by omega:¬(1≤s.size∧s.size≤24∧97≤byt s 0∧byt s 0≤122))]
   simp
 ·rw[decide_eq_false (by omega),decide_eq_false (by omega)];simp
theorem valRf_eq(s:ByteArray):valRf s=valGo s:=by unfold valRf valGo;rw[Bool.and_comm]
theorem byt0(s:ByteArray)(i:Nat):((s[i]?).getD 0).toNat=byt s i:=rfl
theorem fc_name(s:ByteArray):FC Tryz.prog 180 [VS s] (app emp []) (VB (nameGo s)) (app emp []):=by
 refine .go Tryz.f180 ?_
 refine .bp [.r [],.r [(4,Xv 1 (!(seq s ({data:=#[]}))) X0),(5,Xv 1 (!(seq s ({data:=#[]}))) X0),(6,X (Xk' (seq s ({data:=#[]})))),(9,Xv 1 (!(seq s ({data:=#[]})||decide ((s.size:Int)> 24))) (Xb s 0) (fun hg=>by(try simp only[decide_eq_true_eq,decide_eq_false_iff_not,Int.not_lt,Int.not_le,gt_iff_lt,Bool.not_eq_true',Bool.not_eq_false',Bool.or_eq_true,Bool.or_eq_false_iff] at hg);exact⟨(by first|omega| (simp;omega)| (simp;done)|assumption),(str_pos (by first|exact hg|exact hg.1|exact hg.1.1))⟩)),(10,Xv 1 (!(seq s ({data:=#[]})||decide ((s.size:Int)> 24))) X0),(11,X (Xk' (seq s ({data:=#[]})||decide ((s.size:Int)> 24)))),(14,Xv 1 (!((seq s ({data:=#[]})||decide ((s.size:Int)> 24))||decide (((((s[0]?).getD 0).toNat:Nat):Int)< 97))) (Xb s 0) (fun hg=>by(try simp only[decide_eq_true_eq,decide_eq_false_iff_not,Int.not_lt,Int.not_le,gt_iff_lt,Bool.not_eq_true',Bool.not_eq_false',Bool.or_eq_true,Bool.or_eq_false_iff] at hg);exact⟨(by first|omega| (simp;omega)| (simp;done)|assumption),(str_pos (by first|exact hg|exact hg.1|exact hg.1.1))⟩)),(15,Xv 1 (!((seq s ({data:=#[]})||decide ((s.size:Int)> 24))||decide (((((s[0]?).getD 0).toNat:Nat):Int)< 97))) X0),(16,X (Xk' ((seq s ({data:=#[]})||decide ((s.size:Int)> 24))||decide (((((s[0]?).getD 0).toNat:Nat):Int)< 97))))]] (((seq s ({data:=#[]})||decide ((s.size:Int)> 24))||decide (((((s[0]?).getD 0).toNat:Nat):Int)< 97))||decide (((((s[0]?).getD 0).toNat:Nat):Int)> 122)) (fun h1=> ?_) (fun h1=> ?_)
 ·
  have e1:((nameGo s):Bool)=false:=by
   simp only[byt0,seq_mt,decide_eq_true_eq] at h1;unfold nameGo;rw[decide_eq_false (by omega)];rfl
  exact .finE [.r []] [] (fun z0:Bool=>(VB z0,[])) _ _ e1
 ·
  refine .loop (α:=Nat) [.r []] 168 (fun i=>([(0,VS s),(23,VI (s.size:Int)),(24,VI (i:Int))],[])) (fun i=>i≤s.size∧nmS s 0=nmS s i) (fun i=>s.size-i) (0:Nat) ?_ ?_
  ·
   exact⟨by omega,rfl⟩
  rintro i I4 ih4
  try dsimp only at I4
  refine .bp [.r []] (decide ((i:Int)< (s.size:Int))) (fun h4=> ?_) (fun h4=> ?_)
  ·
   refine .bp [.r [],.r [(2,X (Xb s (i:Int)))],.r [(4,Xv 1 (!(decide (((((s[i]?).getD 0).toNat:Nat):Int)< 97))) X0),(5,X (Xk' (decide (((((s[i]?).getD 0).toNat:Nat):Int)< 97)))),(8,Xv 1 (decide (((((s[i]?).getD 0).toNat:Nat):Int)< 97)||decide (((((s[i]?).getD 0).toNat:Nat):Int)> 122)) X0),(9,Xv 1 (decide (((((s[i]?).getD 0).toNat:Nat):Int)< 97)||decide (((((s[i]?).getD 0).toNat:Nat):Int)> 122)) X0),(11,Xv 1 ((decide (((((s[i]?).getD 0).toNat:Nat):Int)< 97)||decide (((((s[i]?).getD 0).toNat:Nat):Int)> 122))&& !(decide (((((s[i]?).getD 0).toNat:Nat):Int)< 48))) X0),(12,Xko (decide (((((s[i]?).getD 0).toNat:Nat):Int)< 97)||decide (((((s[i]?).getD 0).toNat:Nat):Int)> 122)) (decide (((((s[i]?).getD 0).toNat:Nat):Int)< 48))),(13,X (Xk (decide (((((s[i]?).getD 0).toNat:Nat):Int)< 97)||decide (((((s[i]?).getD 0).toNat:Nat):Int)> 122)))),(16,Xv 1 ((decide (((((s[i]?).getD 0).toNat:Nat):Int)< 97)||decide (((((s[i]?).getD 0).toNat:Nat):Int)> 122))&&(decide (((((s[i]?).getD 0).toNat:Nat):Int)< 48)||decide (((((s[i]?).getD 0).toNat:Nat):Int)> 57))) X0),(17,X (Xk ((decide (((((s[i]?).getD 0).toNat:Nat):Int)< 97)||decide (((((s[i]?).getD 0).toNat:Nat):Int)> 122))&&(decide (((((s[i]?).getD 0).toNat:Nat):Int)< 48)||decide (((((s[i]?).getD 0).toNat:Nat):Int)> 57))))),(20,Xv 1 (((decide (((((s[i]?).getD 0).toNat:Nat):Int)< 97)||decide (((((s[i]?).getD 0).toNat:Nat):Int)> 122))&&(decide (((((s[i]?).getD 0).toNat:Nat):Int)< 48)||decide (((((s[i]?).getD 0).toNat:Nat):Int)> 57)))&&(((((s[i]?).getD 0).toNat:Nat):Int) !=46)) X0),(21,X (Xk (((decide (((((s[i]?).getD 0).toNat:Nat):Int)< 97)||decide (((((s[i]?).getD 0).toNat:Nat):Int)> 122))&&(decide (((((s[i]?).getD 0).toNat:Nat):Int)< 48)||decide (((((s[i]?).getD 0).toNat:Nat):Int)> 57)))&&(((((s[i]?).getD 0).toNat:Nat):Int) !=46))))]] ((((decide (((((s[i]?).getD 0).toNat:Nat):Int)< 97)||decide (((((s[i]?).getD 0).toNat:Nat):Int)> 122))&&(decide (((((s[i]?).getD 0).toNat:Nat):Int)< 48)||decide (((((s[i]?).getD 0).toNat:Nat):Int)> 57)))&&(((((s[i]?).getD 0).toNat:Nat):Int) !=46))&&(((((s[i]?).getD 0).toNat:Nat):Int) !=45)) (fun h7=> ?_) (fun h7=> ?_)
   ·
    have e2:((nameGo s):Bool)=false:=by
     simp only[byt0] at h7;unfold nameGo;rw[I4.2,nmS,if_pos (by omega),if_pos (by unfold badC;omega)];simp
    exact .finE [.r []] [] (fun z0:Bool=>(VB z0,[])) _ _ e2
   ·
    refine .back [.r [(0,X (Xn ((i:Int)+1)))]] [] (ih4 ((i+1):Nat) ?_ ?_)
    ·
     simp only[byt0] at h7;refine⟨by omega,?_⟩;rw[I4.2,nmS,if_pos (by omega),if_neg (by unfold badC;omega)]
    ·
     ((try dsimp only);omega)
  ·
   have e3:((nameGo s):Bool)=true:=by
    simp only[byt0,seq_mt,decide_eq_false_iff_not] at h1;unfold nameGo;rw[I4.2,nmS,if_neg (by omega),decide_eq_true (by omega)];rfl
   exact .finE [.r []] [] (fun z0:Bool=>(VB z0,[])) _ _ e3
theorem fc_value(s:ByteArray):FC Tryz.prog 107 [VS s] (app emp []) (VB (valGo s)) (app emp []):=by
 refine .go Tryz.f107 ?_
 refine .bp [.r [],.r [(4,Xv 1 (!(seq s ({data:=#[]}))) X0),(5,Xv 1 (!(seq s ({data:=#[]}))) X0),(6,X (Xk' (seq s ({data:=#[]}))))]] (seq s ({data:=#[]})||decide ((s.size:Int)> 200)) (fun h1=> ?_) (fun h1=> ?_)
 ·
  have e1:((valGo s):Bool)=false:=by
   simp only[seq_mt,decide_eq_true_eq] at h1;unfold valGo;rw[decide_eq_false (by omega)];rfl
  exact .finE [.r []] [] (fun z0:Bool=>(VB z0,[])) _ _ e1
 ·
  refine .loop (α:=Nat) [.r []] 88 (fun i=>([(0,VS s),(12,VI (s.size:Int)),(13,VI (i:Int))],[])) (fun i=>i≤s.size∧vlS s 0=vlS s i) (fun i=>s.size-i) (0:Nat) ?_ ?_
  ·
   exact⟨by omega,rfl⟩
  rintro i I4 ih4
  try dsimp only at I4
  refine .bp [.r []] (decide ((i:Int)< (s.size:Int))) (fun h4=> ?_) (fun h4=> ?_)
  ·
   refine .bp [.r [],.r [(2,X (Xb s (i:Int))),(7,Xv 2 (!(decide (((((s[i]?).getD 0).toNat:Nat):Int)< 32))) (Xb s (i:Int))),(8,Xv 1 (!(decide (((((s[i]?).getD 0).toNat:Nat):Int)< 32))) X0),(9,X (Xk' (decide (((((s[i]?).getD 0).toNat:Nat):Int)< 32))))]] (decide (((((s[i]?).getD 0).toNat:Nat):Int)< 32)||decide (((((s[i]?).getD 0).toNat:Nat):Int)> 126)) (fun h6=> ?_) (fun h6=> ?_)
   ·
    have e2:((valGo s):Bool)=false:=by
     simp only[byt0] at h6;unfold valGo;rw[I4.2,vlS,if_pos (by omega),if_pos (by omega)];simp
    exact .finE [.r []] [] (fun z0:Bool=>(VB z0,[])) _ _ e2
   ·
    refine .back [.r [(0,X (Xn ((i:Int)+1)))]] [] (ih4 ((i+1):Nat) ?_ ?_)
    ·
     simp only[byt0] at h6;refine⟨by omega,?_⟩;rw[I4.2,vlS,if_pos (by omega),if_neg (by omega)]
    ·
     ((try dsimp only);omega)
  ·
   have e3:((valGo s):Bool)=true:=by
    simp only[seq_mt,decide_eq_false_iff_not] at h1;unfold valGo;rw[I4.2,vlS,if_neg (by omega),decide_eq_true (by omega)];rfl
   exact .finE [.r []] [] (fun z0:Bool=>(VB z0,[])) _ _ e3
def chkA(e:Bool)(l:List Attr)(i:Nat):Int:=
 if i<l.length then
  if nameGo (l.getD i default).name=false then 9
  else if valGo (l.getD i default).val=false∧(e=false∨seq (l.getD i default).val {data:=#[]}=false) then 23
  else if 0<i∧(slt (l.getD i default).name (l.getD (i- 1) default).name=true∨seq (l.getD i default).name (l.getD (i- 1) default).name=true) then 5
  else chkA e l (i+1)
 else 0
termination_by l.length-i
def Szd(l:List Attr):Prop:=∀a∈l,a.name.size≤9223372036854775807∧a.val.size≤9223372036854775807
theorem fc_chk(l:List Attr)(e:Bool):FC Tryz.prog 119 [VL 2 attrT l,VB e] (app emp []) (VI (chkA e l 0)) (app emp []):=by
 refine .go Tryz.f119 ?_
 refine .len 0 (fun hl0=> ?_)
 refine .loop (α:=Nat) [.r [],.r [(1,X (Xl attrT l))]] 32 (fun i=>([(0,VL 2 attrT l),(1,VB e),(7,VL 2 attrT l),(8,VI (l.length:Int)),(9,VI (i:Int))],[])) (fun i=>i≤l.length∧chkA e l 0=chkA e l i) (fun i=>l.length-i) (0:Nat) ?_ ?_
 ·
  exact⟨by omega,rfl⟩
 rintro i I2 ih2
 try dsimp only at I2
 refine .bp [.r []] (decide ((i:Int)< (l.length:Int))) (fun h2=> ?_) (fun h2=> ?_)
 ·
  refine .bp [.r [(1,X (Xi attrT l (i:Int)))],.r [(2,X (Xc0 (fc_name (((l.getD i default)).name)) X0))]] (!(nameGo (((l.getD i default)).name))) (fun h4=> ?_) (fun h4=> ?_)
  ·
   have e1:((chkA e l 0):Int)=9:=by
    rw[I2.2,chkA,if_pos (by omega),if_pos h4]
   exact .finE [.r []] [] (fun z0:Int=>(VI z0,[])) _ _ e1
  ·
   refine .bp [.r [(2,X (Xc0 (fc_value (((l.getD i default)).val)) X0)),(6,Xv 1 (!(valGo (((l.getD i default)).val))) X0),(8,Xv 1 ((!(valGo (((l.getD i default)).val)))&&e) X0),(9,Xv 1 ((!(valGo (((l.getD i default)).val)))&&e) X0),(10,Xka (!(valGo (((l.getD i default)).val))) e),(11,Xv 1 (!(valGo (((l.getD i default)).val))) X0),(12,X (Xk (!(valGo (((l.getD i default)).val)))))]] (!(valGo (((l.getD i default)).val))&& !(e&&seq (((l.getD i default)).val) ({data:=#[]}))) (fun h6=> ?_) (fun h6=> ?_)
   ·
    have e2:((chkA e l 0):Int)=23:=by
     rw[I2.2,chkA,if_pos (by omega),if_neg (by rw[h4];decide),if_pos h6]
    exact .finE [.r []] [] (fun z0:Int=>(VI z0,[])) _ _ e2
   ·
    refine .bp [.r [(4,Xv 1 (decide ((i:Int)> 0)) X0),(7,Xv 1 (decide ((i:Int)> 0)) (Xn ((i:Int)- 1))),(8,Xv 2 (decide ((i:Int)> 0)) (Xi' attrT l ((i:Int)- 1) (i- 1))),(9,Xv 1 (decide ((i:Int)> 0)) X0),(10,Xv 1 (decide ((i:Int)> 0)) X0),(11,Xv 2 (decide ((i:Int)> 0)) X0),(12,X (Xk (decide ((i:Int)> 0))))]] (decide ((i:Int)> 0)&&(slt (((l.getD i default)).name) (((l.getD (i- 1) default)).name)||seq (((l.getD i default)).name) (((l.getD (i- 1) default)).name))) (fun h8=> ?_) (fun h8=> ?_)
    ·
     have e3:((chkA e l 0):Int)=5:=by
      rw[I2.2,chkA,if_pos (by omega),if_neg (by rw[h4];decide),if_neg (by clear ih2;rintro⟨a,b⟩;simp_all),if_pos ⟨by omega,h8.2⟩]
     exact .finE [.r []] [] (fun z0:Int=>(VI z0,[])) _ _ e3
    ·
     refine .back [.r [(0,X (Xn ((i:Int)+1)))]] [] (ih2 ((i+1):Nat) ?_ ?_)
     ·
      refine⟨by omega,?_⟩;rw[I2.2,chkA,if_pos (by omega),if_neg (by rw[h4];decide),if_neg (by clear ih2;rintro⟨a,b⟩;simp_all),if_neg (by clear ih2;rintro⟨a,b⟩;rcases h8 with h| ⟨h,h2⟩;omega;rcases b with b|b<;>simp_all)]
     ·
      ((try dsimp only);omega)
 ·
  have e4:((chkA e l 0):Int)=0:=by
   rw[I2.2,chkA,if_neg (by omega)]
  exact .finE [.r []] [] (fun z0:Int=>(VI z0,[])) _ _ e4
theorem fc_acheck(l:List Attr):FC Tryz.prog 69 [VL 2 attrT l] (app emp []) (VI (chkA false l 0)) (app emp []):=by
 refine .go Tryz.f69 ?_
 refine .len 0 (fun hl0=> ?_)
 exact .fin [.r [],.r [(1,X (Xc0 (fc_chk l false) X0))]] []
theorem fc_acheckChange(l:List Attr):FC Tryz.prog 63 [VL 2 attrT l] (app emp []) (VI (chkA true l 0)) (app emp []):=by
 refine .go Tryz.f63 ?_
 refine .len 0 (fun hl0=> ?_)
 exact .fin [.r [],.r [(1,X (Xc0 (fc_chk l true) X0))]] []
def errA(e:Bool)(l:List Attr)(i:Nat):Int:=
 if i<l.length then
  if nameRf (l.getD i default).name=false then 9
  else if valRf (l.getD i default).val=false∧(e=false∨seq (l.getD i default).val {data:=#[]}=false) then 23
  else if 0<i∧slt (l.getD (i- 1) default).name (l.getD i default).name=false then 5
  else errA e l (i+1)
 else 0
termination_by l.length-i
theorem slt_or(a b:ByteArray):(slt a b=true∨seq a b=true)↔slt b a=false:=by
 constructor
 ·rintro(h|h)
  ·exact slt_asymm h
  ·rw[seq_iff] at h;subst h;exact slt_irr _
 ·intro h
  cases k:slt a b with
  |true=>exact .inl rfl
  |false=>exact .inr (seq_iff.2 (slt_tri k h))
theorem errA_eq(e:Bool)(l:List Attr):∀(n i:Nat),l.length-i=n→errA e l i=chkA e l i
 |0,i,h=>by rw[errA,chkA,if_neg (by omega),if_neg (by omega)]
 |n+1,i,h=>by
  have hi:i<l.length:=by omega
  rw[errA,chkA,if_pos hi,if_pos hi,errA_eq e l n (i+1) (by omega)]
  simp only[nameRf_eq,valRf_eq,slt_or]
def sameA(a b:List Attr)(i:Nat):Bool:=
 if i<a.length then(if(a.getD i default).name=(b.getD i default).name∧(a.getD i default).val=(b.getD i default).val then sameA a b (i+1) else false) else true
termination_by a.length-i
def sameL(a b:List Attr):Bool:=decide (a.length=b.length)&&sameA a b 0
def getA(l:List Attr)(n:ByteArray)(i:Nat):ByteArray:=
 if i<l.length then(if(l.getD i default).name=n then(l.getD i default).val else getA l n (i+1)) else mt
termination_by l.length-i
theorem drop_at{l:List Attr}{i:Nat}(h:i<l.length):l.drop i=l.getD i default::l.drop (i+1):=by
 rw[List.drop_eq_getElem_cons h];simp[List.getD,List.getElem?_eq_getElem h]
theorem drop_end{l:List Attr}{i:Nat}(h:¬i<l.length):l.drop i=[]:=List.drop_eq_nil_of_le (by omega)
theorem fm_a{g:Attr→Attr→Option Attr}{a b:List Attr}{i j:Nat}(hi:i<a.length)(h:b.length≤j∨slt (a.getD i default).name (b.getD j default).name=true):
 fm g (a.drop i) (b.drop j)=(g (a.getD i default) ⟨mt,mt⟩).toList++fm g (a.drop (i+1)) (b.drop j):=by
 unfold fm
 rw[drop_at hi]
 by_cases hj:j<b.length
 ·rw[drop_at hj,bothL,if_pos (by rcases h with h|h;omega;exact h),fm_cons];rfl
 ·rw[drop_end hj,bothL,fm_cons];rfl
theorem fm_b{g:Attr→Attr→Option Attr}{a b:List Attr}{i j:Nat}(hj:j<b.length)(h0:i<a.length→slt (a.getD i default).name (b.getD j default).name=false)(h:a.length≤i∨slt (b.getD j default).name (a.getD i default).name=true):
 fm g (a.drop i) (b.drop j)=(g ⟨mt,mt⟩ (b.getD j default)).toList++fm g (a.drop i) (b.drop (j+1)):=by
 unfold fm
 rw[drop_at hj]
 by_cases hi:i<a.length
 ·rw[drop_at hi,bothL,if_neg (by rw[h0 hi];decide),if_pos (by rcases h with h|h;omega;exact h),fm_cons];rfl
 ·rw[drop_end hi,bothL,fm_cons];rfl
theorem fm_ab{g:Attr→Attr→Option Attr}{a b:List Attr}{i j:Nat}(hi:i<a.length)(hj:j<b.length)(h0:slt (a.getD i default).name (b.getD j default).name=false)(h:slt (b.getD j default).name (a.getD i default).name=false):
 fm g (a.drop i) (b.drop j)=(g (a.getD i default) (b.getD j default)).toList++fm g (a.drop (i+1)) (b.drop (j+1)):=by
 unfold fm
 rw[drop_at hi,drop_at hj,bothL,if_neg (by rw[h0];decide),if_neg (by rw[h];decide),fm_cons]
theorem fm_end{g:Attr→Attr→Option Attr}{a b:List Attr}{i j:Nat}(hi:a.length≤i)(hj:b.length≤j):fm g (a.drop i) (b.drop j)=[]:=by
 unfold fm
 rw[drop_end (by omega),drop_end (by omega),bothL];rfl
theorem toList_le{o:Option Attr}:o.toList.length≤1:=by cases o<;>simp
theorem fc_sameAttrs(a b:List Attr):FC Tryz.prog 50 [VL 2 attrT a,VL 2 attrT b] (app emp []) (VB (sameL a b)) (app emp []):=by
 refine .go Tryz.f50 ?_
 refine .len 0 (fun hl0=> ?_)
 refine .len 1 (fun hl1=> ?_)
 refine .bp [.r [],.r [(1,X (Xl attrT a)),(3,X (Xl attrT b))]] ((a.length:Int) !=(b.length:Int)) (fun h1=> ?_) (fun h1=> ?_)
 ·
  have e1:((sameL a b):Bool)=false:=by
   unfold sameL;rw[decide_eq_false (by omega)];rfl
  exact .finE [.r []] [] (fun z0:Bool=>(VB z0,[])) _ _ e1
 ·
  refine .loop (α:=Nat) [.r [(1,X (Xl attrT a))]] 72 (fun i=>([(0,VL 2 attrT a),(1,VL 2 attrT b),(12,VI (a.length:Int)),(13,VI (i:Int))],[])) (fun i=>i≤a.length∧sameA a b 0=sameA a b i) (fun i=>a.length-i) (0:Nat) ?_ ?_
  ·
   exact⟨by omega,rfl⟩
  rintro i I4 ih4
  try dsimp only at I4
  refine .bp [.r []] (decide ((i:Int)< (a.length:Int))) (fun h4=> ?_) (fun h4=> ?_)
  ·
   refine .bp [.r [],.r [(2,X (Xi attrT a (i:Int))),(6,X (Xi attrT b (i:Int)))]] (!(seq (((a.getD i default)).name) (((b.getD i default)).name)&&(seq (((a.getD i default)).val) (((b.getD i default)).val)&&true))) (fun h6=> ?_) (fun h6=> ?_)
   ·
    have e2:((sameL a b):Bool)=false:=by
     unfold sameL;rw[I4.2,sameA,if_pos (by omega),if_neg (by clear ih4;simp only[seq_no,seq_iff] at h6;rintro⟨x,y⟩;simp_all)];simp
    exact .finE [.r []] [] (fun z0:Bool=>(VB z0,[])) _ _ e2
   ·
    refine .back [.r [(0,X (Xn ((i:Int)+1)))]] [] (ih4 ((i+1):Nat) ?_ ?_)
    ·
     refine⟨by omega,?_⟩;rw[I4.2,sameA,if_pos (by omega),if_pos (by clear ih4;simp only[seq_no,seq_iff] at h6;simp_all)]
    ·
     ((try dsimp only);omega)
  ·
   have e3:((sameL a b):Bool)=true:=by
    unfold sameL;rw[I4.2,sameA,if_neg (by omega),decide_eq_true (by omega)];rfl
   exact .finE [.r []] [] (fun z0:Bool=>(VB z0,[])) _ _ e3
theorem fc_get(l:List Attr)(n:ByteArray):FC Tryz.prog 112 [VL 2 attrT l,VS n] (app emp []) (VS (getA l n 0)) (app emp []):=by
 refine .go Tryz.f112 ?_
 refine .len 0 (fun hl0=> ?_)
 refine .loop (α:=Nat) [.r [],.r [(1,X (Xl attrT l))]] 32 (fun i=>([(1,VS n),(7,VL 2 attrT l),(8,VI (l.length:Int)),(9,VI (i:Int))],[])) (fun i=>i≤l.length∧getA l n 0=getA l n i) (fun i=>l.length-i) (0:Nat) ?_ ?_
 ·
  exact⟨by omega,rfl⟩
 rintro i I2 ih2
 try dsimp only at I2
 refine .bp [.r []] (decide ((i:Int)< (l.length:Int))) (fun h2=> ?_) (fun h2=> ?_)
 ·
  refine .bp [.r [(0,X (Xi attrT l (i:Int)))],.r []] (seq (((l.getD i default)).name) n) (fun h4=> ?_) (fun h4=> ?_)
  ·
   have e1:((getA l n 0):ByteArray)=((l.getD i default)).val:=by
    rw[I2.2,getA,if_pos (by omega),if_pos (seq_iff.1 h4)]
   exact .finE [.r []] [] (fun z0:ByteArray=>(VS z0,[])) _ _ e1
  ·
   refine .back [.r [(0,X (Xn ((i:Int)+1)))]] [] (ih2 ((i+1):Nat) ?_ ?_)
   ·
    refine⟨by omega,?_⟩;rw[I2.2,getA,if_pos (by omega),if_neg (seq_no.1 h4)]
   ·
    ((try dsimp only);omega)
 ·
  have e2:((getA l n 0):ByteArray)={data:=#[]}:=by
   rw[I2.2,getA,if_neg (by omega)]
  exact .finE [.r []] [] (fun z0:ByteArray=>(VS z0,[])) _ _ e2
end Go.Ch
end
section
set_option linter.unusedVariables false
set_option linter.unusedSimpArgs false
set_option maxRecDepth 100000
set_option maxHeartbeats 4000000
open Go Go.Proofs Go.Ab
namespace Go.Ch
theorem fc_both(f:FuncId)(g:Attr→Attr→Option Attr)(hfc:callable Tryz.prog f=true)(hf:∀(o:List Attr) (x y:Attr),o.length<1099511627776→FC Tryz.prog f [.t (attrT x),.t (attrT y),.ptr 0 0] (app emp [(0,.box [.row 1 o.length]),(1,.row 2 false (List.map attrT o))]) (.tup []) (app emp [(0,.box [.row 1 (o++(g x y).toList).length]),(1,.row 2 false (List.map attrT (o++(g x y).toList)))]))(a b o:List Attr)(hn:o.length+a.length+b.length<1099511627776):FC Tryz.prog 89 [VL 2 attrT a,VL 2 attrT b,.fn f [.ptr 0 0]] (app emp [(0,.box [.row 1 o.length]),(1,OR 2 attrT o)]) (.tup []) (app emp [(0,.box [.row 1 ((o++fm g a b).length)]),(1,OR 2 attrT (o++fm g a b))]):=by
 refine .go Tryz.f89 ?_
 refine .len 0 (fun hl0=> ?_)
 refine .len 1 (fun hl1=> ?_)
 refine .loop (α:=Nat×Nat×(List Attr)) [.r []] 18 (fun(i,j,p)=>([(0,VL 2 attrT a),(1,VL 2 attrT b),(2,.fn f [.ptr 0 0]),(6,VI (i:Int)),(7,VI (j:Int))],[(0,.box [.row 1 p.length]),(1,OR 2 attrT p)])) (fun(i,j,p)=>i≤a.length∧j≤b.length∧p.length≤o.length+i+j∧o++fm g a b=p++fm g (a.drop i) (b.drop j)) (fun(i,j,p)=>(a.length-i)+(b.length-j)) (0,0,o) ?_ ?_
 ·
  exact⟨by omega,by omega,by omega,rfl⟩
 rintro⟨i,j,p⟩ I1 ih1
 try dsimp only at I1
 refine .bp [.r [(2,X (Xl attrT a)),(7,Xv 1 (!(decide ((i:Int)< (a.length:Int)))) (Xl attrT b)),(8,Xv 2 (!(decide ((i:Int)< (a.length:Int)))) X0),(9,X (Xk' (decide ((i:Int)< (a.length:Int)))))]] (decide ((i:Int)< (a.length:Int))||decide ((j:Int)< (b.length:Int))) (fun h1=> ?_) (fun h1=> ?_)
 ·
  refine .bp [.r [(2,X (Xl attrT b)),(7,Xv 1 (!((j:Int)==(b.length:Int))) (Xl attrT a)),(8,Xv 2 (!((j:Int)==(b.length:Int))) X0),(9,Xv 1 (!((j:Int)==(b.length:Int))) X0),(12,Xv 2 ((!((j:Int)==(b.length:Int)))&&(decide ((i:Int)< (a.length:Int)))) (Xi attrT a (i:Int))),(13,Xv 1 ((!((j:Int)==(b.length:Int)))&&(decide ((i:Int)< (a.length:Int)))) X0),(14,Xv 1 ((!((j:Int)==(b.length:Int)))&&(decide ((i:Int)< (a.length:Int)))) X0),(17,Xv 2 ((!((j:Int)==(b.length:Int)))&&(decide ((i:Int)< (a.length:Int)))) (Xi attrT b (j:Int))),(18,Xv 1 ((!((j:Int)==(b.length:Int)))&&(decide ((i:Int)< (a.length:Int)))) X0),(19,Xv 1 ((!((j:Int)==(b.length:Int)))&&(decide ((i:Int)< (a.length:Int)))) X0),(20,Xv 2 ((!((j:Int)==(b.length:Int)))&&(decide ((i:Int)< (a.length:Int)))) X0),(21,Xka (!((j:Int)==(b.length:Int))) (decide ((i:Int)< (a.length:Int)))),(22,X (Xk' ((j:Int)==(b.length:Int))))]] (((j:Int)==(b.length:Int))|| (decide ((i:Int)< (a.length:Int))&&slt (((a.getD i default)).name) (((b.getD j default)).name))) (fun h4=> ?_) (fun h4=> ?_)
  ·
   refine .back [.r [(3,X (Xi attrT a (i:Int))),(6,X (Xc3 338 [(0,0),(1,1)] (hf p ((a.getD i default)) ({name:={data:=#[]},val:={data:=#[]}}:Attr) (by first|omega| (simp;omega))) X0 (hc:=hfc)))],.r [(1,X (Xn ((i:Int)+1)))]] [(0,0),(1,1)] (ih1 ((i+1),j,(p++(g ((a.getD i default)) ({name:={data:=#[]},val:={data:=#[]}}:Attr)).toList)) ?_ ?_)
   ·
    have hi:i<a.length:=by omega
    have hg:=toList_le (o:=g (a.getD i default) ⟨{data:=#[]},{data:=#[]}⟩)
    have e:=fm_a (g:=g) (a:=a) (b:=b) (j:=j) hi (by rcases h4 with h|h;(left;omega);exact .inr h.2)
    refine⟨by omega,by omega,by simp only[List.length_append];omega,?_⟩
    rw[I1.2.2.2,e,List.append_assoc]
   ·
    ((try dsimp only);omega)
  ·
   refine .bp [.r [(2,X (Xl attrT a)),(7,Xv 2 (!((i:Int)==(a.length:Int))) (Xi attrT b (j:Int))),(8,Xv 1 (!((i:Int)==(a.length:Int))) X0),(9,Xv 1 (!((i:Int)==(a.length:Int))) X0),(12,Xv 2 (!((i:Int)==(a.length:Int))) (Xi attrT a (i:Int))),(13,Xv 1 (!((i:Int)==(a.length:Int))) X0),(14,Xv 1 (!((i:Int)==(a.length:Int))) X0),(15,Xv 2 (!((i:Int)==(a.length:Int))) X0),(16,X (Xk' ((i:Int)==(a.length:Int))))]] (((i:Int)==(a.length:Int))||slt (((b.getD j default)).name) (((a.getD i default)).name)) (fun h7=> ?_) (fun h7=> ?_)
   ·
    refine .back [.r [(4,X (Xi attrT b (j:Int))),(6,X (Xc3 482 [(0,0),(1,1)] (hf p ({name:={data:=#[]},val:={data:=#[]}}:Attr) ((b.getD j default)) (by first|omega| (simp;omega))) X0 (hc:=hfc)))],.r [(1,X (Xn ((j:Int)+1)))]] [(0,0),(1,1)] (ih1 (i,(j+1),(p++(g ({name:={data:=#[]},val:={data:=#[]}}:Attr) ((b.getD j default))).toList)) ?_ ?_)
    ·
     have hj:j<b.length:=by omega
     have hg:=toList_le (o:=g ⟨{data:=#[]},{data:=#[]}⟩ (b.getD j default))
     have e:=fm_b (g:=g) (a:=a) (b:=b) (i:=i) hj (fun hi=>by rcases h4.2 with h|h;omega;exact h) (by rcases h7 with h|h;(left;omega);exact .inr h)
     refine⟨by omega,by omega,by simp only[List.length_append];omega,?_⟩
     rw[I1.2.2.2,e,List.append_assoc]
    ·
     ((try dsimp only);omega)
   ·
    refine .back [.r [(3,X (Xi attrT a (i:Int))),(7,X (Xi attrT b (j:Int))),(9,X (Xc3 506 [(0,0),(1,1)] (hf p ((a.getD i default)) ((b.getD j default)) (by first|omega| (simp;omega))) X0 (hc:=hfc)))],.r [(1,X (Xn ((i:Int)+1))),(3,X (Xn ((j:Int)+1)))]] [(0,0),(1,1)] (ih1 ((i+1),(j+1),(p++(g ((a.getD i default)) ((b.getD j default))).toList)) ?_ ?_)
    ·
     have hi:i<a.length:=by omega
     have hj:j<b.length:=by omega
     have hg:=toList_le (o:=g (a.getD i default) (b.getD j default))
     have e:=fm_ab (g:=g) (a:=a) (b:=b) hi hj (by rcases h4.2 with h|h;omega;exact h) h7.2
     refine⟨by omega,by omega,by simp only[List.length_append];omega,?_⟩
     rw[I1.2.2.2,e,List.append_assoc]
    ·
     ((try dsimp only);omega)
 ·
  have e1:((o++fm g a b).length:Nat)=p.length:=by
   rw[I1.2.2.2,fm_end (by omega) (by omega),List.append_nil]
  have e2:((o++fm g a b):List Attr)=p:=by
   rw[I1.2.2.2,fm_end (by omega) (by omega),List.append_nil]
  exact .finE [] [(0,0),(1,1)] (fun((z0,z1):Nat×(List Attr))=>(.tup [],[(0,.box [.row 1 z0]),(1,OR 2 attrT z1)])) _ _ (pr e1 e2)
theorem fc_rawG(o:List Attr)(x y:Attr)(hn:o.length<1099511627776):FC Tryz.prog 90 [.t (attrT x),.t (attrT y),.ptr 0 0] (app emp [(0,.box [.row 1 o.length]),(1,OR 2 attrT o)]) (.tup []) (app emp [(0,.box [.row 1 ((o++(rawG x y).toList).length)]),(1,OR 2 attrT (o++(rawG x y).toList))]):=by
 refine .go Tryz.f90 ?_
 refine .bp [.r [],.r []] (seq y.name ({data:=#[]})) (fun h1=> ?_) (fun h1=> ?_)
 ·
  have e1:((o++(rawG x y).toList).length:Nat)=(o++[x]).length:=by
   simp only[seq_iff,seq_no] at*;unfold rawG;(repeat' split)<;>simp_all
  have e2:((o++(rawG x y).toList):List Attr)=(o++[x]):=by
   simp only[seq_iff,seq_no] at*;unfold rawG;(repeat' split)<;>simp_all
  exact .finE [.r [(3,X (rowC attrT [x] (Xap 2 attrT 1 o [x])))]] [(0,0),(1,1)] (fun((z0,z1):Nat×(List Attr))=>(.tup [],[(0,.box [.row 1 z0]),(1,OR 2 attrT z1)])) _ _ (pr e1 e2)
 ·
  refine .bp [.r []] (!(seq y.val ({data:=#[]}))) (fun h3=> ?_) (fun h3=> ?_)
  ·
   have e3:((o++(rawG x y).toList).length:Nat)=(o++[y]).length:=by
    simp only[seq_iff,seq_no] at*;unfold rawG;(repeat' split)<;>simp_all
   have e4:((o++(rawG x y).toList):List Attr)=(o++[y]):=by
    simp only[seq_iff,seq_no] at*;unfold rawG;(repeat' split)<;>simp_all
   exact .finE [.r [(3,X (rowC attrT [y] (Xap 2 attrT 1 o [y])))]] [(0,0),(1,1)] (fun((z0,z1):Nat×(List Attr))=>(.tup [],[(0,.box [.row 1 z0]),(1,OR 2 attrT z1)])) _ _ (pr e3 e4)
  ·
   have e5:((o++(rawG x y).toList).length:Nat)=o.length:=by
    simp only[seq_iff,seq_no] at*;unfold rawG;(repeat' split)<;>simp_all
   have e6:((o++(rawG x y).toList):List Attr)=o:=by
    simp only[seq_iff,seq_no] at*;unfold rawG;(repeat' split)<;>simp_all
   exact .finE [] [(0,0),(1,1)] (fun((z0,z1):Nat×(List Attr))=>(.tup [],[(0,.box [.row 1 z0]),(1,OR 2 attrT z1)])) _ _ (pr e5 e6)
theorem fc_wioG(o:List Attr)(x y:Attr)(hn:o.length<1099511627776):FC Tryz.prog 215 [.t (attrT x),.t (attrT y),.ptr 0 0] (app emp [(0,.box [.row 1 o.length]),(1,OR 2 attrT o)]) (.tup []) (app emp [(0,.box [.row 1 ((o++(wioG x y).toList).length)]),(1,OR 2 attrT (o++(wioG x y).toList))]):=by
 refine .go Tryz.f215 ?_
 refine .bp [.r [],.r []] (seq y.name ({data:=#[]})) (fun h1=> ?_) (fun h1=> ?_)
 ·
  have e1:((o++(wioG x y).toList).length:Nat)=(o++[x]).length:=by
   simp only[seq_iff,seq_no] at*;unfold wioG;(repeat' split)<;>simp_all
  have e2:((o++(wioG x y).toList):List Attr)=(o++[x]):=by
   simp only[seq_iff,seq_no] at*;unfold wioG;(repeat' split)<;>simp_all
  exact .finE [.r [(3,X (rowC attrT [x] (Xap 2 attrT 1 o [x])))]] [(0,0),(1,1)] (fun((z0,z1):Nat×(List Attr))=>(.tup [],[(0,.box [.row 1 z0]),(1,OR 2 attrT z1)])) _ _ (pr e1 e2)
 ·
  have e3:((o++(wioG x y).toList).length:Nat)=o.length:=by
   simp only[seq_iff,seq_no] at*;unfold wioG;(repeat' split)<;>simp_all
  have e4:((o++(wioG x y).toList):List Attr)=o:=by
   simp only[seq_iff,seq_no] at*;unfold wioG;(repeat' split)<;>simp_all
  exact .finE [] [(0,0),(1,1)] (fun((z0,z1):Nat×(List Attr))=>(.tup [],[(0,.box [.row 1 z0]),(1,OR 2 attrT z1)])) _ _ (pr e3 e4)
theorem fc_botG(o:List Attr)(x y:Attr)(hn:o.length<1099511627776):FC Tryz.prog 216 [.t (attrT x),.t (attrT y),.ptr 0 0] (app emp [(0,.box [.row 1 o.length]),(1,OR 2 attrT o)]) (.tup []) (app emp [(0,.box [.row 1 ((o++(botG x y).toList).length)]),(1,OR 2 attrT (o++(botG x y).toList))]):=by
 refine .go Tryz.f216 ?_
 refine .bp [.r [],.r []] (seq y.name ({data:=#[]})) (fun h1=> ?_) (fun h1=> ?_)
 ·
  have e1:((o++(botG x y).toList).length:Nat)=(o++[x]).length:=by
   simp only[seq_iff,seq_no] at*;unfold botG;(repeat' split)<;>simp_all
  have e2:((o++(botG x y).toList):List Attr)=(o++[x]):=by
   simp only[seq_iff,seq_no] at*;unfold botG;(repeat' split)<;>simp_all
  exact .finE [.r [],.r [(3,X (rowC attrT [x] (Xap 2 attrT 1 o [x])))]] [(0,0),(1,1)] (fun((z0,z1):Nat×(List Attr))=>(.tup [],[(0,.box [.row 1 z0]),(1,OR 2 attrT z1)])) _ _ (pr e1 e2)
 ·
  have e3:((o++(botG x y).toList).length:Nat)=(o++[y]).length:=by
   simp only[seq_iff,seq_no] at*;unfold botG;(repeat' split)<;>simp_all
  have e4:((o++(botG x y).toList):List Attr)=(o++[y]):=by
   simp only[seq_iff,seq_no] at*;unfold botG;(repeat' split)<;>simp_all
  exact .finE [.r [(3,X (rowC attrT [y] (Xap 2 attrT 1 o [y])))]] [(0,0),(1,1)] (fun((z0,z1):Nat×(List Attr))=>(.tup [],[(0,.box [.row 1 z0]),(1,OR 2 attrT z1)])) _ _ (pr e3 e4)
theorem fc_raw(a b:List Attr)(hn:a.length+b.length<1099511627776):FC Tryz.prog 45 [VL 2 attrT a,VL 2 attrT b] (app emp []) (VL 2 attrT (fm rawG a b)) (app emp []):=by
 refine .go Tryz.f45 ?_
 refine .len 0 (fun hl0=> ?_)
 refine .len 1 (fun hl1=> ?_)
 exact .fin [.r [],.r [],.le (.nB 8 0 2),.r [(3,X (Xc3 41 [(0,8),(1,16)] (fc_both 90 rawG (by kernel_rfl) fc_rawG a b [] (by simp;omega)) X0))],.r [],.le (.fr 4 [(((fm rawG a b).length):Nat)=(List.map attrT (fm rawG a b)).length] ⟨lm,trivial⟩)] []
theorem fc_without(a b:List Attr)(hn:a.length+b.length<1099511627776):FC Tryz.prog 177 [VL 2 attrT a,VL 2 attrT b] (app emp []) (VL 2 attrT (fm wioG a b)) (app emp []):=by
 refine .go Tryz.f177 ?_
 refine .len 0 (fun hl0=> ?_)
 refine .len 1 (fun hl1=> ?_)
 exact .fin [.r [],.r [],.le (.nB 8 0 2),.r [(3,X (Xc3 41 [(0,8),(1,16)] (fc_both 215 wioG (by kernel_rfl) fc_wioG a b [] (by simp;omega)) X0))],.r [],.le (.fr 4 [(((fm wioG a b).length):Nat)=(List.map attrT (fm wioG a b)).length] ⟨lm,trivial⟩)] []
theorem fc_bothA(a b:List Attr)(hn:a.length+b.length<1099511627776):FC Tryz.prog 179 [VL 2 attrT a,VL 2 attrT b] (app emp []) (VL 2 attrT (fm botG a b)) (app emp []):=by
 refine .go Tryz.f179 ?_
 refine .len 0 (fun hl0=> ?_)
 refine .len 1 (fun hl1=> ?_)
 exact .fin [.r [],.r [],.le (.nB 8 0 2),.r [(3,X (Xc3 41 [(0,8),(1,16)] (fc_both 216 botG (by kernel_rfl) fc_botG a b [] (by simp;omega)) X0))],.r [],.le (.fr 4 [(((fm botG a b).length):Nat)=(List.map attrT (fm botG a b)).length] ⟨lm,trivial⟩)] []
end Go.Ch
end
section
set_option linter.unusedVariables false
set_option linter.unusedSimpArgs false
set_option maxRecDepth 100000
set_option maxHeartbeats 4000000
open Go Go.Proofs Go.Ab
namespace Go.Ch
end Go.Ch
end
section
set_option linter.unusedVariables false
namespace Go.Ch
open Go Go.Ab
def intT(z:Int):Tree:= .sc (.int .i64 z)
def strT(s:ByteArray):Tree:= .sc (.string s)
def cmpI(x y:Int):Int:=if x<y then-1 else if x>y then 1 else 0
def orL:List Int→Int
 | []=>0
 |x::l=>if x≠0 then x else orL l
theorem orL_at{l:List Int}{i:Nat}(h:i<l.length):orL (l.drop i)=if l.getD i default≠0 then l.getD i default else orL (l.drop (i+1)):=by
 rw[List.drop_eq_getElem_cons h,orL]
 simp[List.getD,List.getElem?_eq_getElem h]
theorem orL_two(a b:Int):orL [a,b]=if a≠0 then a else b:=by
 by_cases h:a=0
 ·by_cases k:b=0<;>simp[orL,h,k]
 ·simp[orL,h]
end Go.Ch
end
section
set_option linter.unusedVariables false
namespace Go.Ab
open Go
variable {P:Program} {w:World} {F:Fen P} {S:Store} {m:Place} {n:Nat} {l0:List (Nat×Ob)} {s:St} {Q:Exit→St→Prop}
end Go.Ab
end
section
set_option linter.unusedVariables false
namespace Go.Ab
open Go
variable {P:Program}
def Xm0(es:List (Int×MV))(n:Int):Px (lookE es n=none):=⟨⟨none,none,none,some ⟨0,[],.junk,[]⟩,[]⟩,[lookE es n=none],fun h=>⟨h,trivial⟩⟩
def Xmu{β:Type}(f:β→Int×MV)(l l':List β)(n:Int)(id:Nat)(v:MV):Px (putE (l.map f) n v=l'.map f):=
 ⟨⟨none,some [(id,.mp (l'.map f) none)],none,none,[]⟩,[[(id,Ob.mp (l'.map f) none)]=[(id,Ob.mp (putE (l.map f) n v) none)]],fun h=>⟨by rw[h],trivial⟩⟩
end Go.Ab
end
section
set_option linter.unusedVariables false
set_option linter.unusedSimpArgs false
namespace Go.Ch
open Go Go.Ab
structure DOp where
 clock:Int
 site:Int
 kind:Int
 itm:Int
 prt:Int
 plc:ByteArray
 nm:ByteArray
 vl:ByteArray
 deriving DecidableEq
instance:Inhabited DOp:=⟨⟨0,0,0,0,0,mt,mt,mt⟩⟩
def dopT(o:DOp):Tree:= .agg [TI o.clock,TI o.site,TI o.kind,TI o.itm,TI o.prt,TS o.plc,TS o.nm,TS o.vl]
structure DItem where
 item:Int
 parent:Int
 place:ByteArray
 attrs:List Attr
instance:Inhabited DItem:=⟨⟨0,0,mt,[]⟩⟩
def plS(s:ByteArray)(i:Nat):Bool:=if i<s.size then(if byt s i<97∨122<byt s i then false else plS s (i+1)) else true
termination_by s.size-i
def placeB(s:ByteArray):Bool:=decide (1≤s.size∧s.size≤200∧byt s (s.size- 1)≠97)&&plS s 0
def stampC(a b:DOp):Int:=orL [cmpI a.clock b.clock,cmpI a.site b.site]
def ltO(a b:DOp):Prop:=a.clock<b.clock∨(a.clock=b.clock∧a.site<b.site)
instance (a b:DOp):Decidable (ltO a b):=by unfold ltO;infer_instance
theorem stampC_lt{a b:DOp}:stampC a b<0↔ltO a b:=by
 unfold stampC ltO cmpI
 rw[orL_two]
 split<;>split<;>(try split)<;>(try split)<;>omega
theorem stampC_ge{a b:DOp}:0≤stampC a b↔¬ltO a b:=by rw[←stampC_lt];omega
theorem ltO_trans{a b c:DOp}(h:ltO a b)(k:ltO b c):ltO a c:=by unfold ltO at*;omega
def opE(o:DOp):Int:=
 if o.kind≠0∧o.kind≠1 then 8
 else if o.clock<1∨1073741824<o.clock∨o.site<0∨1000<o.site∨o.itm<1∨1073741824<o.itm then 2
 else if(o.kind=0∧(seq o.nm mt=false∨seq o.vl mt=false))∨(o.kind=1∧(o.prt≠0∨seq o.plc mt=false)) then 4
 else if o.kind=0∧(o.prt< -1∨1073741824<o.prt) then 2
 else if(o.kind=0∧placeB o.plc=false)∨(o.kind=1∧nameGo o.nm=false) then 9
 else if o.kind=1∧seq o.vl mt=false∧valGo o.vl=false then 23
 else 0
def drawE(l:List DOp)(i:Nat):Int:=
 if i<l.length then
  if opE (l.getD i default)≠0 then opE (l.getD i default)
  else if 0<i∧¬ltO (l.getD (i- 1) default) (l.getD i default) then 5
  else drawE l (i+1)
 else 0
termination_by l.length-i
def unionO:List DOp→List DOp→Option (List DOp)
 | [],[]=>some []
 |a::l,[]=>(unionO l []).map (a:: ·)
 | [],b::r=>(unionO [] r).map (b:: ·)
 |a::l,b::r=>
  if ltO a b then(unionO l (b::r)).map (a:: ·)
  else if ltO b a then(unionO (a::l) r).map (b:: ·)
  else if a=b then(unionO l r).map (a:: ·) else none
termination_by a b=>a.length+b.length
theorem unionO_left{x y:List DOp}(h:0<x.length)(hy:y.length=0∨ltO (x.getD 0 default) (y.getD 0 default)):unionO x y=(unionO (x.drop 1) y).map (x.getD 0 default:: ·):=by
 cases x with
 |nil=>simp at h
 |cons a l=>
  cases y with
  |nil=>simp[unionO]
  |cons b r=>simp only[List.getD_cons_zero] at hy;rw[unionO,if_pos (by simpa using hy)];rfl
theorem unionO_right{x y:List DOp}(h:0<y.length)(hx:x.length=0∨ltO (y.getD 0 default) (x.getD 0 default)):unionO x y=(unionO x (y.drop 1)).map (y.getD 0 default:: ·):=by
 cases y with
 |nil=>simp at h
 |cons b r=>
  cases x with
  |nil=>simp[unionO]
  |cons a l=>
   simp only[List.getD_cons_zero] at hx
   have hx:ltO b a:=by simpa using hx
   rw[unionO,if_neg (by unfold ltO at*;omega),if_pos hx];rfl
theorem unionO_both{x y:List DOp}(h:0<x.length)(h':0<y.length)(h1:¬ltO (x.getD 0 default) (y.getD 0 default))(h2:¬ltO (y.getD 0 default) (x.getD 0 default)):
 unionO x y=if x.getD 0 default=y.getD 0 default then(unionO (x.drop 1) (y.drop 1)).map (x.getD 0 default:: ·) else none:=by
 cases x with
 |nil=>simp at h
 |cons a l=>
  cases y with
  |nil=>simp at h'
  |cons b r=>simp only[List.getD_cons_zero] at h1 h2;rw[unionO,if_neg h1,if_neg h2];rfl
theorem dop_ext{a b:DOp}(h1:a.clock=b.clock)(h2:a.site=b.site)(h3:a.kind=b.kind)(h4:a.itm=b.itm)(h5:a.prt=b.prt)(h6:a.plc=b.plc)(h7:a.nm=b.nm)(h8:a.vl=b.vl):a=b:=by
 cases a;cases b;simp_all
end Go.Ch
end
section
set_option linter.unusedVariables false
set_option linter.unusedSimpArgs false
namespace Go.Ch
open Go Go.Ab
def NPg(s:ByteArray):Prop:=nameGo s=true
def VPg(s:ByteArray):Prop:=valGo s=true
theorem np_mt:¬NPg mt:=by
 unfold NPg nameGo
 rw[decide_eq_false (by intro h;have:=h.1;simp[ByteArray.size] at this)]
 decide
abbrev VG:=V NPg VPg
theorem getD_cons_succ'{a:Attr}{l:List Attr}{k:Nat}:(a::l).getD (k+1) default=l.getD k default:=by simp[List.getD]
theorem getD_zero'{a:Attr}{l:List Attr}:(a::l).getD 0 default=a:=rfl
theorem sorted_of_adj:∀{l:List Attr},(∀k,k+1<l.length→slt (l.getD k default).name (l.getD (k+1) default).name=true)→Sorted l
 | [],_=>trivial
 | [a],_=>⟨fun b hb=>(by cases hb),trivial⟩
 |a::b::l,h=>by
  have ih:=sorted_of_adj (l:=b::l) (fun k hk=>by have:=h (k+1) (by simp at hk⊢;omega);simpa using this)
  have h0:=h 0 (by simp)
  simp only[getD_zero',getD_cons_succ'] at h0
  refine⟨fun c hc=> ?_,ih⟩
  rcases List.mem_cons.1 hc with rfl|hc
  ·exact h0
  ·exact slt_trans h0 (ih.1 c hc)
theorem adj_of_sorted:∀{l:List Attr},Sorted l→∀k,k+1<l.length→slt (l.getD k default).name (l.getD (k+1) default).name=true
 | [],_,k,hk=>by simp at hk
 |a::l,h,0,hk=>by
  cases l with
  |nil=>simp at hk
  |cons b l=>exact h.1 b (by simp)
 |a::l,h,k+1,hk=>by
  have:=adj_of_sorted h.2 k (by simp at hk;omega)
  rw[getD_cons_succ',getD_cons_succ'];exact this
theorem getD_mem{l:List Attr}{k:Nat}(h:k<l.length):l.getD k default∈l:=by
 rw[show l.getD k default=l[k] by simp[List.getD,List.getElem?_eq_getElem h]]
 exact List.getElem_mem h
theorem mem_getD{l:List Attr}{a:Attr}(h:a∈l):∃k,k<l.length∧l.getD k default=a:=by
 obtain⟨k,hk,e⟩:=List.mem_iff_getElem.1 h
 exact⟨k,hk,by rw[←e];simp[List.getD,List.getElem?_eq_getElem hk]⟩
theorem chkA_all(e:Bool)(l:List Attr):∀(n i:Nat),l.length-i=n→(chkA e l i=0↔∀k,i≤k→k<l.length→Q NPg VPg e (l.getD k default).name (l.getD k default).val∧(0<k→slt (l.getD (k- 1) default).name (l.getD k default).name=true))
 |0,i,h=>by
  rw[chkA,if_neg (by omega)]
  exact⟨fun _ k h1 h2=>by omega,fun _=>rfl⟩
 |n+1,i,h=>by
  have hi:i<l.length:=by omega
  have ih:=chkA_all e l n (i+1) (by omega)
  rw[chkA,if_pos hi]
  have step:(∀k,i≤k→k<l.length→Q NPg VPg e (l.getD k default).name (l.getD k default).val∧(0<k→slt (l.getD (k- 1) default).name (l.getD k default).name=true))↔
   (Q NPg VPg e (l.getD i default).name (l.getD i default).val∧(0<i→slt (l.getD (i- 1) default).name (l.getD i default).name=true))∧chkA e l (i+1)=0:=by
   rw[ih]
   constructor
   ·exact fun h=>⟨h i (Nat.le_refl _) hi,fun k h1 h2=>h k (by omega) h2⟩
   ·rintro⟨h1,h2⟩ k h3 h4
    by_cases e:k=i
    ·subst e;exact h1
    ·exact h2 k (by omega) h4
  rw[step]
  generalize(l.getD i default)=x
  generalize(l.getD (i- 1) default)=y
  unfold Q NPg VPg
  have hm:seq x.val {data:=#[]}=true↔x.val=mt:=seq_iff
  have hm2:seq x.val {data:=#[]}=false↔x.val≠mt:=seq_no
  simp only[slt_or,hm2]
  cases h1:nameGo x.name with
  |false=>simp
  |true=>
   rw[if_neg (by decide)]
   cases h2:valGo x.val with
   |false=>
    by_cases h3:e=false∨x.val≠mt
    ·rw[if_pos ⟨rfl,h3⟩]
     constructor
     ·intro h;cases h
     ·rintro⟨⟨⟨_,h| ⟨h,h'⟩⟩,_⟩,_⟩
      ·cases h
      ·rcases h3 with h3|h3
       ·rw[h3] at h;cases h
       ·exact absurd h' h3
    ·rw[if_neg (fun h=>h3 h.2)]
     have he:e=true:=by cases e with|true=>rfl|false=>exact absurd (.inl rfl) h3
     have hx:x.val=mt:=Classical.byContradiction fun h=>h3 (.inr h)
     by_cases h4:0<i∧slt y.name x.name=false
     ·rw[if_pos h4]
      constructor
      ·intro h;cases h
      ·rintro⟨⟨_,h⟩,_⟩;rw[h h4.1] at h4;cases h4.2
     ·rw[if_neg h4]
      refine⟨fun h=>⟨⟨⟨rfl,.inr ⟨he,hx⟩⟩,fun h0=> ?_⟩,h⟩,fun h=>h.2⟩
      cases h5:slt y.name x.name with
      |true=>rfl
      |false=>exact absurd ⟨h0,h5⟩ h4
   |true=>
    rw[if_neg (fun h=>by cases h.1)]
    by_cases h4:0<i∧slt y.name x.name=false
    ·rw[if_pos h4]
     constructor
     ·intro h;cases h
     ·rintro⟨⟨_,h⟩,_⟩;rw[h h4.1] at h4;cases h4.2
    ·rw[if_neg h4]
     refine⟨fun h=>⟨⟨⟨rfl,.inl rfl⟩,fun h0=> ?_⟩,h⟩,fun h=>h.2⟩
     cases h5:slt y.name x.name with
     |true=>rfl
     |false=>exact absurd ⟨h0,h5⟩ h4
theorem chk_iff{e:Bool}{l:List Attr}:chkA e l 0=0↔VG e l:=by
 rw[chkA_all e l l.length 0 (by omega)]
 constructor
 ·intro h
  refine⟨sorted_of_adj (fun k hk=>(h (k+1) (by omega) hk).2 (by omega)),fun a ha=> ?_⟩
  obtain⟨k,hk,rfl⟩:=mem_getD ha
  exact(h k (by omega) hk).1
 ·intro h k _ hk
  refine⟨h.2 _ (getD_mem hk),fun h0=> ?_⟩
  have:=adj_of_sorted h.1 (k- 1) (by omega)
  rw[show k- 1+1=k by omega] at this
  exact this
theorem sameA_self(a:List Attr):∀(n i:Nat),a.length-i=n→sameA a a i=true
 |0,i,h=>by rw[sameA,if_neg (by omega)]
 |n+1,i,h=>by
  have hi:i<a.length:=by omega
  rw[sameA,if_pos hi,if_pos ⟨rfl,rfl⟩,sameA_self a n (i+1) (by omega)]
theorem sameL_self(a:List Attr):sameL a a=true:=by unfold sameL;rw[sameA_self a _ 0 rfl];simp
end Go.Ch
end
section
set_option linter.unusedVariables false
set_option linter.unusedSimpArgs false
namespace Go.Ch
open Go Go.Ab
structure Elem where
 char:Int
 ref:Int
 attrs:List Attr
instance:Inhabited Elem:=⟨⟨0,0,[]⟩⟩
def elemT(e:Elem):Tree:= .agg [.sc (.int .i64 e.char),.sc (.int .i64 e.ref),.lst 2 (e.attrs.map attrT)]
def CharP(c:Int):Prop:=c=9∨c=10∨(32≤c∧c<127)∨(160≤c∧c<55296)∨(57343<c∧c≤1114111)
instance (c:Int):Decidable (CharP c):=by unfold CharP;infer_instance
def elemE(x:Elem):Int:=
 if x.char=0↔x.ref=0 then 4
 else if(x.ref=0∧¬CharP x.char)∨(x.ref≠0∧(x.ref<1∨1073741824<x.ref)) then 2
 else chkA false x.attrs 0
theorem elemE_4{x:Elem}(h:x.char=0↔x.ref=0):elemE x=4:=by unfold elemE;rw[if_pos h]
theorem elemE_2{x:Elem}(h:¬(x.char=0↔x.ref=0))(h2:(x.ref=0∧¬CharP x.char)∨(x.ref≠0∧(x.ref<1∨1073741824<x.ref))):elemE x=2:=by unfold elemE;rw[if_neg h,if_pos h2]
theorem elemE_c{x:Elem}(h:¬(x.char=0↔x.ref=0))(h3:¬x.ref=0∨CharP x.char)(h4:x.ref=0∨(1≤x.ref∧x.ref≤1073741824)):elemE x=chkA false x.attrs 0:=by
 unfold elemE
 rw[if_neg h,if_neg]
 rintro(⟨a,b⟩| ⟨a,b⟩)
 ·rcases h3 with h3|h3
  ·exact h3 a
  ·exact b h3
 ·rcases h4 with h4|h4
  ·exact a h4
  ·omega
def partE(l:List Elem)(i:Nat):Int:=if i<l.length then(if elemE (l.getD i default)=0 then partE l (i+1) else elemE (l.getD i default)) else 0
termination_by l.length-i
def SzE(l:List Elem):Prop:=∀x∈l,Szd x.attrs
theorem getDE_mem{l:List Elem}{k:Nat}(h:k<l.length):l.getD k default∈l:=by
 rw[show l.getD k default=l[k] by simp[List.getD,List.getElem?_eq_getElem h]]
 exact List.getElem_mem h
def sameE(x y:Elem):Bool:=(x.char==y.char&&x.ref==y.ref)&&sameL x.attrs y.attrs
def sameFi(a b:List Elem)(i:Nat):Bool:=if i<a.length then(if sameE (a.getD i default) (b.getD i default)=true then sameFi a b (i+1) else false) else true
termination_by a.length-i
def sameF(a b:List Elem):Bool:=decide (a.length=b.length)&&sameFi a b 0
theorem sameE_self(x:Elem):sameE x x=true:=by unfold sameE;rw[sameL_self];simp
theorem sameFi_self(a:List Elem):∀(n i:Nat),a.length-i=n→sameFi a a i=true
 |0,i,h=>by rw[sameFi,if_neg (by omega)]
 |n+1,i,h=>by
  have hi:i<a.length:=by omega
  rw[sameFi,if_pos hi,if_pos (sameE_self _),sameFi_self a n (i+1) (by omega)]
theorem sameF_self(a:List Elem):sameF a a=true:=by unfold sameF;rw[sameFi_self a _ 0 rfl];simp
theorem sameA_all(a b:List Attr):∀(n i:Nat),a.length-i=n→sameA a b i=true→∀k,i≤k→k<a.length→a.getD k default=b.getD k default
 |0,i,h,_=>fun k h1 h2=>by omega
 |n+1,i,h,hs=>by
  have hi:i<a.length:=by omega
  rw[sameA,if_pos hi] at hs
  split at hs
  ·rename_i he
   intro k h1 h2
   by_cases e:k=i
   ·subst e
    generalize a.getD k default=x at*
    generalize b.getD k default=y at*
    cases x;cases y;simp_all
   ·exact sameA_all a b n (i+1) (by omega) hs k (by omega) h2
  ·cases hs
theorem sameL_eq{a b:List Attr}:sameL a b=true↔a=b:=by
 constructor
 ·intro h
  unfold sameL at h
  simp only[Bool.and_eq_true,decide_eq_true_eq] at h
  refine List.ext_getElem h.1 (fun k h1 h2=> ?_)
  have:=sameA_all a b _ 0 rfl h.2 k (by omega) h1
  simpa[List.getD,List.getElem?_eq_getElem h1,List.getElem?_eq_getElem h2] using this
 ·intro h;subst h;exact sameL_self _
theorem partE_all(l:List Elem):∀(n i:Nat),l.length-i=n→(partE l i=0↔∀k,i≤k→k<l.length→elemE (l.getD k default)=0)
 |0,i,h=>by rw[partE,if_neg (by omega)];exact⟨fun _ k h1 h2=>by omega,fun _=>rfl⟩
 |n+1,i,h=>by
  have hi:i<l.length:=by omega
  have ih:=partE_all l n (i+1) (by omega)
  rw[partE,if_pos hi]
  by_cases e:elemE (l.getD i default)=0
  ·rw[if_pos e,ih]
   constructor
   ·intro h k h1 h2
    by_cases ek:k=i
    ·subst ek;exact e
    ·exact h k (by omega) h2
   ·exact fun h k h1 h2=>h k (by omega) h2
  ·rw[if_neg e]
   exact⟨fun h=>absurd h e,fun h=>h i (Nat.le_refl _) hi⟩
theorem part_iff{l:List Elem}:partE l 0=0↔∀x∈l,elemE x=0:=by
 rw[partE_all l _ 0 rfl]
 constructor
 ·intro h x hx
  obtain⟨k,hk,e⟩:=List.mem_iff_getElem.1 hx
  have:=h k (by omega) hk
  rw[←e]
  simpa[List.getD,List.getElem?_eq_getElem hk] using this
 ·exact fun h k _ hk=>h _ (getDE_mem hk)
theorem elem_ok{x:Elem}(h:elemE x=0):VG false x.attrs:=by
 unfold elemE at h
 split at h
 ·omega
 ·split at h
  ·omega
  ·exact chk_iff.1 h
end Go.Ch
end
section
set_option linter.unusedVariables false
set_option linter.unusedSimpArgs false
set_option maxRecDepth 100000
set_option maxHeartbeats 4000000
open Go Go.Proofs Go.Ab
namespace Go.Ch
theorem fc_char(c:Int):FC Tryz.prog 109 [VI c] (app emp []) (VB (decide (CharP c))) (app emp []):=by
 refine .go Tryz.f109 ?_
 have e1:((decide (CharP c)):Bool)=(((((c==9)|| (c==10))|| (decide (c≥32)&&decide (c<127)))|| (decide (c≥160)&&decide (c<55296)))|| (decide (c>57343)&&decide (c≤1114111))):=by
  rw[Bool.eq_iff_iff,decide_eq_true_iff];unfold CharP;simp only[Bool.or_eq_true,Bool.and_eq_true,decide_eq_true_eq,beq_iff_eq];constructor<;>intro hh<;>omega
 exact .finE [.r [],.r [(4,Xv 1 (!(c==9)) X0),(5,X (Xk' (c==9))),(8,Xv 1 (!((c==9)|| (c==10))) X0),(9,Xv 1 (!((c==9)|| (c==10))) X0),(11,Xv 1 ((!((c==9)|| (c==10)))&&(decide (c≥32))) X0),(12,Xka (!((c==9)|| (c==10))) (decide (c≥32))),(13,X (Xk' ((c==9)|| (c==10)))),(16,Xv 1 (!(((c==9)|| (c==10))|| (decide (c≥32)&&decide (c<127)))) X0),(17,Xv 1 (!(((c==9)|| (c==10))|| (decide (c≥32)&&decide (c<127)))) X0),(19,Xv 1 ((!(((c==9)|| (c==10))|| (decide (c≥32)&&decide (c<127))))&&(decide (c≥160))) X0),(20,Xka (!(((c==9)|| (c==10))|| (decide (c≥32)&&decide (c<127)))) (decide (c≥160))),(21,X (Xk' (((c==9)|| (c==10))|| (decide (c≥32)&&decide (c<127))))),(24,Xv 1 (!((((c==9)|| (c==10))|| (decide (c≥32)&&decide (c<127)))|| (decide (c≥160)&&decide (c<55296)))) X0),(25,Xv 1 (!((((c==9)|| (c==10))|| (decide (c≥32)&&decide (c<127)))|| (decide (c≥160)&&decide (c<55296)))) X0),(27,Xv 1 ((!((((c==9)|| (c==10))|| (decide (c≥32)&&decide (c<127)))|| (decide (c≥160)&&decide (c<55296))))&&(decide (c>57343))) X0),(28,Xka (!((((c==9)|| (c==10))|| (decide (c≥32)&&decide (c<127)))|| (decide (c≥160)&&decide (c<55296)))) (decide (c>57343))),(29,X (Xk' ((((c==9)|| (c==10))|| (decide (c≥32)&&decide (c<127)))|| (decide (c≥160)&&decide (c<55296)))))]] [] (fun z0:Bool=>(VB z0,[])) _ _ e1
theorem nz_iff{a b:Int}:((a !=0)=(b !=0))↔(a=0↔b=0):=by
 rw[Bool.eq_iff_iff];simp;omega
theorem fc_elem(x:Elem):FC Tryz.prog 127 [.t (elemT x)] (app emp []) (VI (elemE x)) (app emp []):=by
 refine .go Tryz.f127 ?_
 refine .bp [.r [],.r []] ((x.char !=0)==(x.ref !=0)) (fun h1=> ?_) (fun h1=> ?_)
 ·
  have e1:((elemE x):Int)=4:=by
   first|exact elemE_4 (nz_iff.1 h1)|exact elemE_2 (fun h=>h1 (nz_iff.2 h)) (.inl h3)|exact elemE_2 (fun h=>h1 (nz_iff.2 h)) (.inr h4)|exact elemE_c (fun h=>h1 (nz_iff.2 h)) h3 h4| (exfalso;simp_all;done)
  exact .finE [.r []] [] (fun z0:Int=>(VI z0,[])) _ _ e1
 ·
  refine .bp [.r [(5,Xv 1 (x.ref==0) X0),(6,Xv 1 (x.ref==0) (Xc0 (fc_char x.char) X0)),(7,Xv 1 (x.ref==0) X0),(8,X (Xk (x.ref==0)))]] ((x.ref==0)&& !(decide (CharP x.char))) (fun h3=> ?_) (fun h3=> ?_)
  ·
   refine .bp [] ((x.ref==0)&& !(decide (CharP x.char))) (fun h3=> ?_) (fun h3=> ?_)
   ·
    have e2:((elemE x):Int)=2:=by
     first|exact elemE_4 (nz_iff.1 h1)|exact elemE_2 (fun h=>h1 (nz_iff.2 h)) (.inl h3)|exact elemE_2 (fun h=>h1 (nz_iff.2 h)) (.inr h4)|exact elemE_c (fun h=>h1 (nz_iff.2 h)) h3 h4| (exfalso;simp_all;done)
    exact .finE [.r []] [] (fun z0:Int=>(VI z0,[])) _ _ e2
   ·
    have e3:((elemE x):Int)=(chkA false x.attrs 0):=by
     first|exact elemE_4 (nz_iff.1 h1)|exact elemE_2 (fun h=>h1 (nz_iff.2 h)) (.inl h3)|exact elemE_2 (fun h=>h1 (nz_iff.2 h)) (.inr h4)|exact elemE_c (fun h=>h1 (nz_iff.2 h)) h3 h4| (exfalso;simp_all;done)
    exact .finE [.r [(2,X (Xc0 (fc_acheck x.attrs) X0))]] [] (fun z0:Int=>(VI z0,[])) _ _ e3
  ·
   refine .bp [.r [(5,Xv 1 (x.ref !=0) X0),(6,Xv 1 (x.ref !=0) X0),(7,Xv 1 (x.ref !=0) X0),(9,Xv 1 ((x.ref !=0)&& !(decide (x.ref<1))) X0),(10,Xv 1 ((x.ref !=0)&& !(decide (x.ref<1))) X0),(11,Xko (x.ref !=0) (decide (x.ref<1))),(12,X (Xk (x.ref !=0)))]] ((x.ref !=0)&&(decide (x.ref<1)||decide (x.ref>1073741824))) (fun h4=> ?_) (fun h4=> ?_)
   ·
    have e4:((elemE x):Int)=2:=by
     first|exact elemE_4 (nz_iff.1 h1)|exact elemE_2 (fun h=>h1 (nz_iff.2 h)) (.inl h3)|exact elemE_2 (fun h=>h1 (nz_iff.2 h)) (.inr h4)|exact elemE_c (fun h=>h1 (nz_iff.2 h)) h3 h4| (exfalso;simp_all;done)
    exact .finE [.r []] [] (fun z0:Int=>(VI z0,[])) _ _ e4
   ·
    have e5:((elemE x):Int)=(chkA false x.attrs 0):=by
     first|exact elemE_4 (nz_iff.1 h1)|exact elemE_2 (fun h=>h1 (nz_iff.2 h)) (.inl h3)|exact elemE_2 (fun h=>h1 (nz_iff.2 h)) (.inr h4)|exact elemE_c (fun h=>h1 (nz_iff.2 h)) h3 h4| (exfalso;simp_all;done)
    exact .finE [.r [(2,X (Xc0 (fc_acheck x.attrs) X0))]] [] (fun z0:Int=>(VI z0,[])) _ _ e5
theorem fc_checkPart(l:List Elem):FC Tryz.prog 189 [VL 3 elemT l] (app emp []) (VI (partE l 0)) (app emp []):=by
 refine .go Tryz.f189 ?_
 refine .len 0 (fun hl0=> ?_)
 refine .loop (α:=Nat) [.r [],.r [(1,X (Xl elemT l))]] 32 (fun i=>([(6,VL 3 elemT l),(7,VI (l.length:Int)),(8,VI (i:Int))],[])) (fun i=>i≤l.length∧partE l 0=partE l i) (fun i=>l.length-i) (0:Nat) ?_ ?_
 ·
  exact⟨by omega,rfl⟩
 rintro i I2 ih2
 try dsimp only at I2
 refine .bp [.r []] (decide ((i:Int)< (l.length:Int))) (fun h2=> ?_) (fun h2=> ?_)
 ·
  refine .bp [.r [(0,X (Xi elemT l (i:Int)))],.r [(1,X (Xc0 (fc_elem ((l.getD i default))) X0))],.r []] ((elemE ((l.getD i default))) !=0) (fun h5=> ?_) (fun h5=> ?_)
  ·
   have e1:((partE l 0):Int)=(elemE ((l.getD i default))):=by
    rw[I2.2,partE];((repeat' split)<;>first|rfl|omega| (simp_all;done)| (simp_all;omega))
   exact .finE [.r []] [] (fun z0:Int=>(VI z0,[])) _ _ e1
  ·
   refine .back [.r [(0,X (Xn ((i:Int)+1)))]] [] (ih2 ((i+1):Nat) ?_ ?_)
   ·
    refine⟨by omega,?_⟩;rw[I2.2,partE,if_pos (by omega),if_pos (by omega)]
   ·
    ((try dsimp only);omega)
 ·
  have e2:((partE l 0):Int)=0:=by
   rw[I2.2,partE];((repeat' split)<;>first|rfl|omega| (simp_all;done)| (simp_all;omega))
  exact .finE [.r []] [] (fun z0:Int=>(VI z0,[])) _ _ e2
theorem fc_attrSame(a b:List Attr):FC Tryz.prog 140 [VL 2 attrT a,VL 2 attrT b] (app emp []) (VB (sameL a b)) (app emp []):=by
 refine .go Tryz.f140 ?_
 refine .len 0 (fun hl0=> ?_)
 refine .len 1 (fun hl1=> ?_)
 refine .bp [.r [],.r [(1,X (Xl attrT a)),(3,X (Xl attrT b))]] ((a.length:Int) !=(b.length:Int)) (fun h1=> ?_) (fun h1=> ?_)
 ·
  have e1:((sameL a b):Bool)=false:=by
   unfold sameL;rw[decide_eq_false (by omega)];rfl
  exact .finE [.r []] [] (fun z0:Bool=>(VB z0,[])) _ _ e1
 ·
  refine .loop (α:=Nat) [.r [(1,X (Xl attrT a))]] 72 (fun i=>([(0,VL 2 attrT a),(1,VL 2 attrT b),(12,VI (a.length:Int)),(13,VI (i:Int))],[])) (fun i=>i≤a.length∧sameA a b 0=sameA a b i) (fun i=>a.length-i) (0:Nat) ?_ ?_
  ·
   exact⟨by omega,rfl⟩
  rintro i I4 ih4
  try dsimp only at I4
  refine .bp [.r []] (decide ((i:Int)< (a.length:Int))) (fun h4=> ?_) (fun h4=> ?_)
  ·
   refine .bp [.r [],.r [(2,X (Xi attrT a (i:Int))),(6,X (Xi attrT b (i:Int)))]] (!(seq (((a.getD i default)).name) (((b.getD i default)).name)&&(seq (((a.getD i default)).val) (((b.getD i default)).val)&&true))) (fun h6=> ?_) (fun h6=> ?_)
   ·
    have e2:((sameL a b):Bool)=false:=by
     unfold sameL;rw[I4.2,sameA,if_pos (by omega),if_neg (by clear ih4;simp only[seq_no,seq_iff] at h6;rintro⟨x,y⟩;simp_all)];simp
    exact .finE [.r []] [] (fun z0:Bool=>(VB z0,[])) _ _ e2
   ·
    refine .back [.r [(0,X (Xn ((i:Int)+1)))]] [] (ih4 ((i+1):Nat) ?_ ?_)
    ·
     refine⟨by omega,?_⟩;rw[I4.2,sameA,if_pos (by omega),if_pos (by clear ih4;simp only[seq_no,seq_iff] at h6;simp_all)]
    ·
     ((try dsimp only);omega)
  ·
   have e3:((sameL a b):Bool)=true:=by
    unfold sameL;rw[I4.2,sameA,if_neg (by omega),decide_eq_true (by omega)];rfl
   exact .finE [.r []] [] (fun z0:Bool=>(VB z0,[])) _ _ e3
theorem fc_sameElem(x y:Elem):FC Tryz.prog 100 [.t (elemT x),.t (elemT y)] (app emp []) (VB (sameE x y)) (app emp []):=by
 refine .go Tryz.f100 ?_
 have e1:((sameE x y):Bool)=(((x.char==y.char)&&(x.ref==y.ref))&&(sameL x.attrs y.attrs)):=by
  rfl
 exact .finE [.r [],.r [(7,Xv 1 (x.char==y.char) X0),(9,Xv 1 (x.char==y.char) X0),(10,Xv 2 (x.char==y.char) X0),(11,X (Xk (x.char==y.char))),(14,Xv 1 ((x.char==y.char)&&(x.ref==y.ref)) X0),(16,Xv 1 ((x.char==y.char)&&(x.ref==y.ref)) X0),(17,Xv 2 ((x.char==y.char)&&(x.ref==y.ref)) (Xc0 (fc_sameAttrs x.attrs y.attrs) X0)),(18,X (Xk ((x.char==y.char)&&(x.ref==y.ref))))]] [] (fun z0:Bool=>(VB z0,[])) _ _ e1
theorem fc_sameFlow(a b:List Elem):FC Tryz.prog 51 [VL 3 elemT a,VL 3 elemT b] (app emp []) (VB (sameF a b)) (app emp []):=by
 refine .go Tryz.f51 ?_
 refine .len 0 (fun hl0=> ?_)
 refine .len 1 (fun hl1=> ?_)
 refine .bp [.r [],.r [(1,X (Xl elemT a)),(3,X (Xl elemT b))]] ((a.length:Int) !=(b.length:Int)) (fun h1=> ?_) (fun h1=> ?_)
 ·
  have e1:((sameF a b):Bool)=false:=by
   unfold sameF;rw[decide_eq_false (by omega)];rfl
  exact .finE [.r []] [] (fun z0:Bool=>(VB z0,[])) _ _ e1
 ·
  refine .loop (α:=Nat) [.r [(1,X (Xl elemT a))]] 72 (fun i=>([(0,VL 3 elemT a),(1,VL 3 elemT b),(12,VI (a.length:Int)),(13,VI (i:Int))],[])) (fun i=>i≤a.length∧sameFi a b 0=sameFi a b i) (fun i=>a.length-i) (0:Nat) ?_ ?_
  ·
   exact⟨by omega,rfl⟩
  rintro i I4 ih4
  try dsimp only at I4
  refine .bp [.r []] (decide ((i:Int)< (a.length:Int))) (fun h4=> ?_) (fun h4=> ?_)
  ·
   refine .bp [.r [],.r [(2,X (Xi elemT a (i:Int))),(6,X (Xi elemT b (i:Int))),(8,X (Xc0 (fc_sameElem ((a.getD i default)) ((b.getD i default))) X0))]] (!(sameE ((a.getD i default)) ((b.getD i default)))) (fun h6=> ?_) (fun h6=> ?_)
   ·
    have e2:((sameF a b):Bool)=false:=by
     unfold sameF;rw[I4.2,sameFi,if_pos (by omega),if_neg (by rw[h6];decide)];simp
    exact .finE [.r []] [] (fun z0:Bool=>(VB z0,[])) _ _ e2
   ·
    refine .back [.r [(0,X (Xn ((i:Int)+1)))]] [] (ih4 ((i+1):Nat) ?_ ?_)
    ·
     refine⟨by omega,?_⟩;rw[I4.2,sameFi,if_pos (by omega),if_pos h6]
    ·
     ((try dsimp only);omega)
  ·
   have e3:((sameF a b):Bool)=true:=by
    unfold sameF;rw[I4.2,sameFi,if_neg (by omega),decide_eq_true (by omega)];rfl
   exact .finE [.r []] [] (fun z0:Bool=>(VB z0,[])) _ _ e3
end Go.Ch
end
section
set_option linter.unusedVariables false
set_option linter.unusedSimpArgs false
namespace Go.Ch
open Go Go.Ab
inductive U where
 |K
 |A
 |C
abbrev rep(n:Nat)(x:U):List U:=List.replicate n x
theorem rep_succ(n:Nat)(x:U):rep (n+1) x=x::rep n x:=rfl
def oldU:List U→Nat
 | []=>0
 | .A::u=>oldU u
 | .K::u=>oldU u+1
 | .C::u=>oldU u+1
def newU:List U→Nat
 | []=>0
 | .C::u=>newU u
 | .K::u=>newU u+1
 | .A::u=>newU u+1
end Go.Ch
end
section
set_option linter.unusedVariables false
set_option linter.unusedSimpArgs false
namespace Go.Ch
open Go Go.Ab
structure AxStep where
 kind:Int
 n:Int
instance:Inhabited AxStep:=⟨⟨0,0⟩⟩
def stepT(s:AxStep):Tree:= .agg [.sc (.int .i64 s.kind),.sc (.int .i64 s.n)]
def uOf(k:Int):U:=if k=1 then .A else if k=2 then .C else .K
def ex:List AxStep→List U
 | []=>[]
 |s::l=>rep s.n.toNat (uOf s.kind)++ex l
def Ok1(s:AxStep):Prop:=0≤s.kind∧s.kind≤2∧1≤s.n
def Nx(s t:AxStep):Prop:=s.kind≠t.kind∧¬(s.kind=2∧t.kind=1)
def Form:List AxStep→Prop
 | []=>True
 | [s]=>Ok1 s
 |s::t::l=>Ok1 s∧Nx s t∧Form (t::l)
theorem Form.head{s:AxStep}{l:List AxStep}(h:Form (s::l)):Ok1 s:=by
 cases l with
 |nil=>exact h
 |cons t l=>exact h.1
theorem Form.tail{s:AxStep}{l:List AxStep}(h:Form (s::l)):Form l:=by
 cases l with
 |nil=>trivial
 |cons t l=>exact h.2.2
theorem kinds{s:AxStep}(h:Ok1 s):s.kind=0∨s.kind=1∨s.kind=2:=by have:=h.1;have:=h.2.1;omega
structure Wr where
 out:List AxStep
 add:Int
 cut:Int
end Go.Ch
end
section
set_option linter.unusedVariables false
set_option linter.unusedSimpArgs false
namespace Go.Ch
open Go Go.Ab
def chkX(l:List AxStep)(i:Nat)(b a:Int):Int:=
 if i<l.length then
  if(l.getD i default).kind<0∨2< (l.getD i default).kind then 8
  else if(l.getD i default).n<1∨2147483647< (l.getD i default).n then 2
  else if 0<i∧((l.getD (i- 1) default).kind=(l.getD i default).kind∨((l.getD (i- 1) default).kind=2∧(l.getD i default).kind=1)) then 5
  else chkX l (i+1) (if(l.getD i default).kind≠1 then min (b+(l.getD i default).n) 2147483648 else b) (if(l.getD i default).kind≠2 then min (a+(l.getD i default).n) 2147483648 else a)
 else if 2147483647<b∨2147483647<a then 3 else 0
termination_by l.length-i
def checkX(l:List AxStep):Int:=chkX l 0 0 0
def FormAt(l:List AxStep)(i:Nat):Prop:=∀k,i≤k→k<l.length→Ok1 (l.getD k default)∧(0<k→Nx (l.getD (k- 1) default) (l.getD k default))
theorem drop_ats{l:List AxStep}{i:Nat}(h:i<l.length):l.drop i=l.getD i default::l.drop (i+1):=by
 rw[List.drop_eq_getElem_cons h];simp[List.getD,List.getElem?_eq_getElem h]
theorem drop_ends{l:List AxStep}{i:Nat}(h:¬i<l.length):l.drop i=[]:=List.drop_eq_nil_of_le (by omega)
theorem old_K(n:Nat)(u:List U):oldU (rep n .K++u)=n+oldU u:=by
 induction n with
 |zero=>simp
 |succ n ih=>rw[rep_succ,List.cons_append,oldU,ih];omega
theorem old_A(n:Nat)(u:List U):oldU (rep n .A++u)=oldU u:=by
 induction n with
 |zero=>simp
 |succ n ih=>rw[rep_succ,List.cons_append,oldU,ih]
theorem old_C(n:Nat)(u:List U):oldU (rep n .C++u)=n+oldU u:=by
 induction n with
 |zero=>simp
 |succ n ih=>rw[rep_succ,List.cons_append,oldU,ih];omega
theorem new_K(n:Nat)(u:List U):newU (rep n .K++u)=n+newU u:=by
 induction n with
 |zero=>simp
 |succ n ih=>rw[rep_succ,List.cons_append,newU,ih];omega
theorem new_A(n:Nat)(u:List U):newU (rep n .A++u)=n+newU u:=by
 induction n with
 |zero=>simp
 |succ n ih=>rw[rep_succ,List.cons_append,newU,ih];omega
theorem new_C(n:Nat)(u:List U):newU (rep n .C++u)=newU u:=by
 induction n with
 |zero=>simp
 |succ n ih=>rw[rep_succ,List.cons_append,newU,ih]
theorem old_rep(n:Nat)(k:Int)(u:List U):(oldU (rep n (uOf k)++u):Int)=(if k=1 then(0:Int) else(n:Int))+oldU u:=by
 unfold uOf
 by_cases h1:k=1
 ·rw[if_pos h1,if_pos h1,old_A];omega
 ·rw[if_neg h1,if_neg h1]
  by_cases h2:k=2
  ·rw[if_pos h2,old_C];omega
  ·rw[if_neg h2,old_K];omega
theorem new_rep(n:Nat)(k:Int)(u:List U):(newU (rep n (uOf k)++u):Int)=(if k=2 then(0:Int) else(n:Int))+newU u:=by
 unfold uOf
 by_cases h1:k=1
 ·rw[if_pos h1,new_A,if_neg (by omega)];omega
 ·rw[if_neg h1]
  by_cases h2:k=2
  ·rw[if_pos h2,if_pos h2,new_C];omega
  ·rw[if_neg h2,if_neg h2,new_K];omega
theorem chkX_all(l:List AxStep):∀(m i:Nat) (b a:Int),l.length-i=m→0≤b→0≤a→b≤2147483648→a≤2147483648→
 (chkX l i b a=0↔FormAt l i∧b+oldU (ex (l.drop i))≤2147483647∧a+newU (ex (l.drop i))≤2147483647)
 |0,i,b,a,h,hb,ha,hb2,ha2=>by
  rw[chkX,if_neg (by omega),drop_ends (by omega)]
  simp only[ex,oldU,newU]
  split
  ·constructor
   ·intro h;omega
   ·rintro⟨_,h1,h2⟩;omega
  ·exact⟨fun _=>⟨fun k h1 h2=>by omega,by omega,by omega⟩,fun _=>rfl⟩
 |m+1,i,b,a,h,hb,ha,hb2,ha2=>by
  have hi:i<l.length:=by omega
  rw[chkX,if_pos hi]
  have step:FormAt l i↔(Ok1 (l.getD i default)∧(0<i→Nx (l.getD (i- 1) default) (l.getD i default)))∧FormAt l (i+1):=by
   constructor
   ·exact fun h=>⟨h i (Nat.le_refl _) hi,fun k h1 h2=>h k (by omega) h2⟩
   ·rintro⟨h1,h2⟩ k h3 h4
    by_cases e:k=i
    ·subst e;exact h1
    ·exact h2 k (by omega) h4
  rw[step,drop_ats hi]
  simp only[ex]
  rw[old_rep,new_rep]
  have ih:=fun b' a'=>chkX_all l m (i+1) b' a' (by omega)
  generalize l.getD i default=x at*
  generalize l.getD (i- 1) default=y at*
  unfold Ok1 Nx
  by_cases c1:x.kind<0∨2<x.kind
  ·rw[if_pos c1];constructor
   ·intro h;omega
   ·rintro⟨⟨⟨h,_⟩,_⟩,_⟩;omega
  rw[if_neg c1]
  have n0:(oldU (ex (l.drop (i+1))):Int)≥0:=Int.natCast_nonneg _
  have n1:(newU (ex (l.drop (i+1))):Int)≥0:=Int.natCast_nonneg _
  by_cases c2:x.n<1∨2147483647<x.n
  ·rw[if_pos c2];constructor
   ·intro h;omega
   ·rintro⟨⟨⟨h,_⟩,_⟩,h1,h2⟩
    exfalso
    by_cases k1:x.kind=1
    ·rw[if_neg (by omega)] at h2;omega
    ·rw[if_neg k1] at h1;omega
  rw[if_neg c2]
  have hn:(x.n.toNat:Int)=x.n:=Int.toNat_of_nonneg (by omega)
  rw[hn]
  by_cases c3:0<i∧(y.kind=x.kind∨(y.kind=2∧x.kind=1))
  ·rw[if_pos c3];constructor
   ·intro h;omega
   ·rintro⟨⟨⟨_,h⟩,_⟩,_⟩
    have:=h c3.1
    rcases c3.2 with q|q
    ·exact absurd q this.1
    ·exact absurd q this.2
  rw[if_neg c3,ih _ _ (by split<;>omega) (by split<;>omega) (by split<;>omega) (by split<;>omega)]
  constructor
  ·rintro⟨f,h1,h2⟩
   refine⟨⟨⟨⟨by omega,by omega,by omega⟩,fun h0=>⟨fun e=>c3 ⟨h0,.inl e⟩,fun e=>c3 ⟨h0,.inr e⟩⟩⟩,f⟩,?_,?_⟩
   ·by_cases k1:x.kind=1
    ·rw[if_pos k1];rw[if_neg (by omega)] at h1;omega
    ·rw[if_neg k1];rw[if_pos k1] at h1;omega
   ·by_cases k1:x.kind=2
    ·rw[if_pos k1];rw[if_neg (by omega)] at h2;omega
    ·rw[if_neg k1];rw[if_pos k1] at h2;omega
  ·rintro⟨⟨_,f⟩,h1,h2⟩
   refine⟨f,?_,?_⟩
   ·by_cases k1:x.kind=1
    ·rw[if_pos k1] at h1;rw[if_neg (by omega)];omega
    ·rw[if_neg k1] at h1;rw[if_pos k1];omega
   ·by_cases k1:x.kind=2
    ·rw[if_pos k1] at h2;rw[if_neg (by omega)];omega
    ·rw[if_neg k1] at h2;rw[if_pos k1];omega
theorem form_of_at:∀{l:List AxStep},FormAt l 0→Form l
 | [],_=>trivial
 | [s],h=>(h 0 (Nat.le_refl _) (by simp)).1
 |s::t::l,h=>by
  have h0:=h 0 (Nat.le_refl _) (by simp)
  have h1:=h 1 (by omega) (by simp)
  refine⟨h0.1,h1.2 (by omega),form_of_at (l:=t::l) (fun k _ hk=> ?_)⟩
  have:=h (k+1) (by omega) (by simp at hk⊢;omega)
  refine⟨by simpa using this.1,fun hk0=> ?_⟩
  obtain⟨m,rfl⟩:∃m,k=m+1:=⟨k- 1,by omega⟩
  simpa using this.2 (by omega)
theorem at_of_form:∀{l:List AxStep},Form l→FormAt l 0
 | [],_=>fun k _ hk=>by simp at hk
 |s::l,h=>by
  have ih:=at_of_form h.tail
  intro k _ hk
  cases k with
  |zero=>exact⟨h.head,fun h=>absurd h (by decide)⟩
  |succ k=>
   have:=ih k (by omega) (by simpa using hk)
   refine⟨by simpa using this.1,fun _=> ?_⟩
   cases k with
   |zero=>
    cases l with
    |nil=>simp at hk
    |cons t l=>exact h.2.1
   |succ k=>simpa using this.2 (by omega)
def Valid(l:List AxStep):Prop:=Form l∧oldU (ex l)≤2147483647∧newU (ex l)≤2147483647
theorem check_iff{l:List AxStep}:checkX l=0↔Valid l:=by
 unfold checkX Valid
 rw[chkX_all l _ 0 0 0 rfl (by decide) (by decide) (by decide) (by decide),List.drop_zero]
 constructor
 ·rintro⟨a,b,c⟩;exact⟨form_of_at a,by omega,by omega⟩
 ·rintro⟨a,b,c⟩;exact⟨at_of_form a,by omega,by omega⟩
end Go.Ch
end
section
set_option linter.unusedVariables false
set_option linter.unusedSimpArgs false
set_option maxRecDepth 100000
set_option maxHeartbeats 4000000
open Go Go.Proofs Go.Ab
namespace Go.Ch
theorem fc_axCheck(l:List AxStep):FC Tryz.prog 122 [VL 2 stepT l] (app emp []) (VI (checkX l)) (app emp []):=by
 refine .go Tryz.f122 ?_
 refine .len 0 (fun hl0=> ?_)
 refine .loop (α:=Int×Int×Nat) [.r [],.r [],.r [(1,X (Xl stepT l))]] 48 (fun(b,a,i)=>([(0,VL 2 stepT l),(3,VI b),(4,VI a),(7,VL 2 stepT l),(8,VI (l.length:Int)),(9,VI (i:Int))],[])) (fun(b,a,i)=>i≤l.length∧0≤b∧b≤2147483648∧0≤a∧a≤2147483648∧checkX l=chkX l i b a) (fun(b,a,i)=>l.length-i) (0,0,0) ?_ ?_
 ·
  exact⟨by omega,by decide,by decide,by decide,by decide,rfl⟩
 rintro⟨b,a,i⟩ I3 ih3
 try dsimp only at I3
 refine .bp [.r []] (decide ((i:Int)< (l.length:Int))) (fun h3=> ?_) (fun h3=> ?_)
 ·
  refine .bp [.r [(1,X (Xi stepT l (i:Int)))],.r [(5,Xv 1 (!(decide ((((l.getD i default)).kind)< 0))) X0),(6,Xv 1 (!(decide ((((l.getD i default)).kind)< 0))) X0),(7,X (Xk' (decide ((((l.getD i default)).kind)< 0))))]] (decide ((((l.getD i default)).kind)< 0)||decide ((((l.getD i default)).kind)> 2)) (fun h5=> ?_) (fun h5=> ?_)
  ·
   have e1:((checkX l):Int)=8:=by
    rw[I3.2.2.2.2.2,chkX];((repeat' split)<;>first|rfl|omega| (simp_all;done)| (simp_all;omega))
   exact .finE [.r []] [] (fun z0:Int=>(VI z0,[])) _ _ e1
  ·
   refine .bp [.r [(5,Xv 1 (!(decide ((((l.getD i default)).n)< 1))) X0),(6,Xv 1 (!(decide ((((l.getD i default)).n)< 1))) X0),(7,X (Xk' (decide ((((l.getD i default)).n)< 1))))]] (decide ((((l.getD i default)).n)< 1)||decide ((((l.getD i default)).n)> 2147483647)) (fun h7=> ?_) (fun h7=> ?_)
   ·
    have e2:((checkX l):Int)=2:=by
     rw[I3.2.2.2.2.2,chkX];((repeat' split)<;>first|rfl|omega| (simp_all;done)| (simp_all;omega))
    exact .finE [.r []] [] (fun z0:Int=>(VI z0,[])) _ _ e2
   ·
    refine .bp [.r [(5,Xv 1 (decide ((i:Int)> 0)) (Xn ((i:Int)- 1))),(6,Xv 2 (decide ((i:Int)> 0)) (Xi' stepT l ((i:Int)- 1) (i- 1))),(7,Xv 1 (decide ((i:Int)> 0)) X0),(8,Xv 1 (decide ((i:Int)> 0)) X0),(10,Xv 1 (decide ((i:Int)> 0)) X0),(11,Xv 2 (decide ((i:Int)> 0)) X0),(12,Xv 1 (decide ((i:Int)> 0)) X0),(15,Xv 1 ((decide ((i:Int)> 0))&& !((((l.getD (i- 1) default)).kind)==(((l.getD i default)).kind))) (Xn ((i:Int)- 1))),(16,Xv 2 ((decide ((i:Int)> 0))&& !((((l.getD (i- 1) default)).kind)==(((l.getD i default)).kind))) (Xi' stepT l ((i:Int)- 1) (i- 1))),(17,Xv 1 ((decide ((i:Int)> 0))&& !((((l.getD (i- 1) default)).kind)==(((l.getD i default)).kind))) X0),(18,Xv 1 ((decide ((i:Int)> 0))&& !((((l.getD (i- 1) default)).kind)==(((l.getD i default)).kind))) X0),(19,Xv 1 ((decide ((i:Int)> 0))&& !((((l.getD (i- 1) default)).kind)==(((l.getD i default)).kind))) X0),(20,Xv 1 ((decide ((i:Int)> 0))&& !((((l.getD (i- 1) default)).kind)==(((l.getD i default)).kind))) X0),(22,Xv 1 (((decide ((i:Int)> 0))&& !((((l.getD (i- 1) default)).kind)==(((l.getD i default)).kind)))&&((((l.getD (i- 1) default)).kind)==2)) X0),(23,Xv 1 (((decide ((i:Int)> 0))&& !((((l.getD (i- 1) default)).kind)==(((l.getD i default)).kind)))&&((((l.getD (i- 1) default)).kind)==2)) X0),(24,Xka ((decide ((i:Int)> 0))&& !((((l.getD (i- 1) default)).kind)==(((l.getD i default)).kind))) ((((l.getD (i- 1) default)).kind)==2)),(25,Xko (decide ((i:Int)> 0)) ((((l.getD (i- 1) default)).kind)==(((l.getD i default)).kind))),(26,X (Xk (decide ((i:Int)> 0))))]] (decide ((i:Int)> 0)&&(((((l.getD (i- 1) default)).kind)==(((l.getD i default)).kind))|| (((((l.getD (i- 1) default)).kind)==2)&&((((l.getD i default)).kind)==1)))) (fun h9=> ?_) (fun h9=> ?_)
    ·
     have e3:((checkX l):Int)=5:=by
      rw[I3.2.2.2.2.2,chkX];((repeat' split)<;>first|rfl|omega| (simp_all;done)| (simp_all;omega))
     exact .finE [.r []] [] (fun z0:Int=>(VI z0,[])) _ _ e3
    ·
     refine .bp [.r []] ((((l.getD i default)).kind) !=1) (fun h11=> ?_) (fun h11=> ?_)
     ·
      refine .bp [.r [(3,X (Xn (b+(((l.getD i default)).n)))),(4,X (Xmin (b+(((l.getD i default)).n)) 2147483648))],.r []] ((((l.getD i default)).kind) !=2) (fun h13=> ?_) (fun h13=> ?_)
      ·
       refine .at 568 [(80,80)] ([(0,VL 2 stepT l),(3,VI (min (b+(((l.getD i default)).n)) 2147483648)),(4,VI a),(6,.ptr 80 0),(7,VL 2 stepT l),(8,VI (l.length:Int)),(9,VI (i:Int)),(70,VB ((((l.getD i default)).kind) !=2))],[(80,.box [VI (((l.getD i default)).kind),VI (((l.getD i default)).n)])]) ?_
       refine .back [.r [(3,X (Xn (a+(((l.getD i default)).n)))),(4,X (Xmin (a+(((l.getD i default)).n)) 2147483648))],.r [(0,X (Xn ((i:Int)+1)))]] [] (ih3 ((min (b+(((l.getD i default)).n)) 2147483648),(min (a+(((l.getD i default)).n)) 2147483648),(i+1)) ?_ ?_)
       ·
        refine⟨by omega,by omega,by omega,by omega,by omega,?_⟩;rw[I3.2.2.2.2.2,chkX];((repeat' split)<;>first|rfl|omega| (simp_all;done)| (simp_all;omega))
       ·
        ((try dsimp only);omega)
      ·
       refine .at 568 [(80,80)] ([(0,VL 2 stepT l),(3,VI (min (b+(((l.getD i default)).n)) 2147483648)),(4,VI a),(6,.ptr 80 0),(7,VL 2 stepT l),(8,VI (l.length:Int)),(9,VI (i:Int)),(70,VB ((((l.getD i default)).kind) !=2))],[(80,.box [VI (((l.getD i default)).kind),VI (((l.getD i default)).n)])]) ?_
       refine .back [.r [(0,X (Xn ((i:Int)+1)))]] [] (ih3 ((min (b+(((l.getD i default)).n)) 2147483648),a,(i+1)) ?_ ?_)
       ·
        refine⟨by omega,by omega,by omega,by omega,by omega,?_⟩;rw[I3.2.2.2.2.2,chkX];((repeat' split)<;>first|rfl|omega| (simp_all;done)| (simp_all;omega))
       ·
        ((try dsimp only);omega)
     ·
      refine .bp [.r []] ((((l.getD i default)).kind) !=2) (fun h13=> ?_) (fun h13=> ?_)
      ·
       refine .at 520 [(80,80)] ([(0,VL 2 stepT l),(3,VI b),(4,VI a),(6,.ptr 80 0),(7,VL 2 stepT l),(8,VI (l.length:Int)),(9,VI (i:Int)),(70,VB ((((l.getD i default)).kind) !=2))],[(80,.box [VI (((l.getD i default)).kind),VI (((l.getD i default)).n)])]) ?_
       refine .back [.r [(3,X (Xn (a+(((l.getD i default)).n)))),(4,X (Xmin (a+(((l.getD i default)).n)) 2147483648))],.r [(0,X (Xn ((i:Int)+1)))]] [] (ih3 (b,(min (a+(((l.getD i default)).n)) 2147483648),(i+1)) ?_ ?_)
       ·
        refine⟨by omega,by omega,by omega,by omega,by omega,?_⟩;rw[I3.2.2.2.2.2,chkX];((repeat' split)<;>first|rfl|omega| (simp_all;done)| (simp_all;omega))
       ·
        ((try dsimp only);omega)
      ·
       refine .at 520 [(80,80)] ([(0,VL 2 stepT l),(3,VI b),(4,VI a),(6,.ptr 80 0),(7,VL 2 stepT l),(8,VI (l.length:Int)),(9,VI (i:Int)),(70,VB ((((l.getD i default)).kind) !=2))],[(80,.box [VI (((l.getD i default)).kind),VI (((l.getD i default)).n)])]) ?_
       refine .back [.r [(0,X (Xn ((i:Int)+1)))]] [] (ih3 (b,a,(i+1)) ?_ ?_)
       ·
        refine⟨by omega,by omega,by omega,by omega,by omega,?_⟩;rw[I3.2.2.2.2.2,chkX];((repeat' split)<;>first|rfl|omega| (simp_all;done)| (simp_all;omega))
       ·
        ((try dsimp only);omega)
 ·
  refine .bp [.r [(4,Xv 1 (!(decide (b>2147483647))) X0),(5,X (Xk' (decide (b>2147483647))))]] (decide (b>2147483647)||decide (a>2147483647)) (fun h16=> ?_) (fun h16=> ?_)
  ·
   have e4:((checkX l):Int)=3:=by
    rw[I3.2.2.2.2.2,chkX];((repeat' split)<;>first|rfl|omega| (simp_all;done)| (simp_all;omega))
   exact .finE [.r []] [] (fun z0:Int=>(VI z0,[])) _ _ e4
  ·
   have e5:((checkX l):Int)=0:=by
    rw[I3.2.2.2.2.2,chkX];((repeat' split)<;>first|rfl|omega| (simp_all;done)| (simp_all;omega))
   exact .finE [.r []] [] (fun z0:Int=>(VI z0,[])) _ _ e5
theorem ex_at{l:List AxStep}{i:Nat}(h:i<l.length):ex (l.drop i)=rep (l.getD i default).n.toNat (uOf (l.getD i default).kind)++ex (l.drop (i+1)):=by rw[drop_ats h];rfl
def oldI(l:List AxStep):Int:=(oldU (ex l):Int)
def newI(l:List AxStep):Int:=(newU (ex l):Int)
theorem lens_step{l:List AxStep}{i:Nat}(h:i<l.length)(hf:Form l):(oldU (ex (l.drop i)):Int)=(if(l.getD i default).kind=1 then 0 else(l.getD i default).n)+oldU (ex (l.drop (i+1)))∧
 (newU (ex (l.drop i)):Int)=(if(l.getD i default).kind=2 then 0 else(l.getD i default).n)+newU (ex (l.drop (i+1)))∧1≤(l.getD i default).n∧0≤(l.getD i default).kind∧(l.getD i default).kind≤2:=by
 have h1:=((at_of_form hf) i (Nat.zero_le _) h).1
 have hn:((l.getD i default).n.toNat:Int)=(l.getD i default).n:=Int.toNat_of_nonneg (by have:=h1.2.2;omega)
 rw[ex_at h,old_rep,new_rep,hn]
 exact⟨rfl,rfl,h1.2.2,h1.1,h1.2.1⟩
theorem ex_end{l:List AxStep}{i:Nat}(h:l.length≤i):ex (l.drop i)=[]:=by rw[List.drop_eq_nil_of_le h];rfl
theorem fc_axLens(l:List AxStep)(hv:Valid l):FC Tryz.prog 218 [VL 2 stepT l] (app emp []) (.tup [VI (oldI l),VI (newI l)]) (app emp []):=by
 refine .go Tryz.f218 ?_
 refine .len 0 (fun hl0=> ?_)
 refine .loop (α:=Int×Int×Nat) [.r [],.r [],.r [(1,X (Xl stepT l))]] 56 (fun(b,a,i)=>([(4,VI b),(5,VI a),(8,VL 2 stepT l),(9,VI (l.length:Int)),(10,VI (i:Int))],[])) (fun(b,a,i)=>i≤l.length∧0≤b∧0≤a∧oldI l=b+oldU (ex (l.drop i))∧newI l=a+newU (ex (l.drop i))) (fun(b,a,i)=>l.length-i) (0,0,0) ?_ ?_
 ·
  exact⟨by omega,by decide,by decide,by simp[oldI],by simp[newI]⟩
 rintro⟨b,a,i⟩ I3 ih3
 try dsimp only at I3
 have hv1:oldI l≤2147483647:=by have:=hv.2.1;unfold oldI;omega
 have hv2:newI l≤2147483647:=by have:=hv.2.2;unfold newI;omega
 refine .bp [.r []] (decide ((i:Int)< (l.length:Int))) (fun h3=> ?_) (fun h3=> ?_)
 ·
  have hst:=lens_step (l:=l) (i:=i) (by omega) hv.1
  refine .bp [.r [(0,X (Xi stepT l (i:Int)))],.r []] ((((l.getD i default)).kind) !=1) (fun h5=> ?_) (fun h5=> ?_)
  ·
   refine .bp [.r [(3,X (Xn (b+(((l.getD i default)).n))))],.r []] ((((l.getD i default)).kind) !=2) (fun h7=> ?_) (fun h7=> ?_)
   ·
    refine .back [.r [(3,X (Xn (a+(((l.getD i default)).n))))],.r [(0,X (Xn ((i:Int)+1)))]] [] (ih3 ((b+(((l.getD i default)).n)),(a+(((l.getD i default)).n)),(i+1)) ?_ ?_)
    ·
     obtain⟨s1,s2,s3,s4,s5⟩:=hst
     first|rw[if_pos (by omega)] at s1|rw[if_neg (by omega)] at s1
     first|rw[if_pos (by omega)] at s2|rw[if_neg (by omega)] at s2
     refine⟨by omega,by omega,by omega,by omega,by omega⟩
    ·
     ((try dsimp only);omega)
   ·
    refine .back [.r [(0,X (Xn ((i:Int)+1)))]] [] (ih3 ((b+(((l.getD i default)).n)),a,(i+1)) ?_ ?_)
    ·
     obtain⟨s1,s2,s3,s4,s5⟩:=hst
     first|rw[if_pos (by omega)] at s1|rw[if_neg (by omega)] at s1
     first|rw[if_pos (by omega)] at s2|rw[if_neg (by omega)] at s2
     refine⟨by omega,by omega,by omega,by omega,by omega⟩
    ·
     ((try dsimp only);omega)
  ·
   refine .bp [.r []] ((((l.getD i default)).kind) !=2) (fun h7=> ?_) (fun h7=> ?_)
   ·
    refine .back [.r [(3,X (Xn (a+(((l.getD i default)).n))))],.r [(0,X (Xn ((i:Int)+1)))]] [] (ih3 (b,(a+(((l.getD i default)).n)),(i+1)) ?_ ?_)
    ·
     obtain⟨s1,s2,s3,s4,s5⟩:=hst
     first|rw[if_pos (by omega)] at s1|rw[if_neg (by omega)] at s1
     first|rw[if_pos (by omega)] at s2|rw[if_neg (by omega)] at s2
     refine⟨by omega,by omega,by omega,by omega,by omega⟩
    ·
     ((try dsimp only);omega)
   ·
    refine .back [.r [(0,X (Xn ((i:Int)+1)))]] [] (ih3 (b,a,(i+1)) ?_ ?_)
    ·
     obtain⟨s1,s2,s3,s4,s5⟩:=hst
     first|rw[if_pos (by omega)] at s1|rw[if_neg (by omega)] at s1
     first|rw[if_pos (by omega)] at s2|rw[if_neg (by omega)] at s2
     refine⟨by omega,by omega,by omega,by omega,by omega⟩
    ·
     ((try dsimp only);omega)
 ·
  have e1:((oldI l):Int)=b:=by
   have:=ex_end (l:=l) (i:=i) (by omega)
   rw[this] at I3
   have i1:=I3.2.2.2.1
   have i2:=I3.2.2.2.2
   simp only[oldU,newU] at i1 i2
   omega
  have e2:((newI l):Int)=a:=by
   have:=ex_end (l:=l) (i:=i) (by omega)
   rw[this] at I3
   have i1:=I3.2.2.2.1
   have i2:=I3.2.2.2.2
   simp only[oldU,newU] at i1 i2
   omega
  exact .finE [.r []] [] (fun((z0,z1):Int×Int)=>(.tup [VI z0,VI z1],[])) _ _ (pr e1 e2)
theorem fc_axLengths(l:List AxStep)(hv:Valid l):FC Tryz.prog 191 [VL 2 stepT l] (app emp []) (.tup [VI (oldI l),VI (newI l),VI 0]) (app emp []):=by
 refine .go Tryz.f191 ?_
 refine .len 0 (fun hl0=> ?_)
 have hc:=check_iff.2 hv
 refine .bp [.r [],.r [(1,X (Xc0 (fc_axCheck l) X0))],.r []] ((checkX l) !=0) (fun h2=> ?_) (fun h2=> ?_)
 ·
  exfalso
  omega
 ·
  exact .fin [.r [(1,X (Xc0 (fc_axLens l (by assumption)) X0))],.r []] []
end Go.Ch
end
section
set_option linter.unusedVariables false
set_option linter.unusedSimpArgs false
namespace Go.Ch
open Go Go.Ab
section
variable {w:Wr} {ps qs:List AxStep} {pu qu:Int} {T:Nat} {G:Wr}
end
section
variable {x y:Wr} {ps qs:List AxStep} {pu qu:Int} {T:Nat} {G1 G2:Wr}
end
end Go.Ch
end
section

end
section
set_option linter.unusedVariables false
set_option linter.unusedSimpArgs false
namespace Go.Ch
open Go Go.Ab
def placeS:List AxStep→Int→Int→Int→Int
 | [],_,_,_=> -1
 |s::l,p,fr,tq=>if s.kind=1 then placeS l p fr (tq+s.n) else if s.kind=0 then(if p<fr+s.n then tq+p-fr else placeS l p (fr+s.n) (tq+s.n)) else(if p<fr+s.n then-1 else placeS l p (fr+s.n) tq)
def gapS:List AxStep→Int→Bool→Int→Int→Int
 | [],_,_,_,tq=>tq
 |s::l,at_,r,fr,tq=>gapS l at_ r (if s.kind=1 then fr else fr+s.n) (if s.kind=1∧(fr<at_∨(fr=at_∧r=true)) then tq+s.n else if s.kind=0 then tq+min s.n (max 0 (at_-fr)) else tq)
theorem gap_ge:∀{l:List AxStep} (hl:Form l) (a:Int) (r:Bool) (fr tq:Int),tq≤gapS l a r fr tq
 | [],_,a,r,fr,tq=>Int.le_refl _
 |s::l,hl,a,r,fr,tq=>by
  have ih:=gap_ge hl.tail a r (if s.kind=1 then fr else fr+s.n) (if s.kind=1∧(fr<a∨(fr=a∧r=true)) then tq+s.n else if s.kind=0 then tq+min s.n (max 0 (a-fr)) else tq)
  have hn:=hl.head.2.2
  rw[gapS]
  refine Int.le_trans ?_ ih
  split
  ·omega
  ·split<;>omega
theorem gap_mono:∀{l:List AxStep} (hl:Form l) (a fr tq tq':Int),tq≤tq'→gapS l a false fr tq≤gapS l a true fr tq'
 | [],_,a,fr,tq,tq',h=>h
 |s::l,hl,a,fr,tq,tq',h=>by
  have hn:=hl.head.2.2
  rw[gapS,gapS]
  refine gap_mono hl.tail a _ _ _ ?_
  by_cases k1:s.kind=1
  ·by_cases c:fr<a
   ·rw[if_pos ⟨k1,.inl c⟩,if_pos ⟨k1,.inl c⟩];omega
   ·have n1:¬(s.kind=1∧(fr<a∨(fr=a∧false=true))):=by
     rintro⟨_,h|h⟩
     ·omega
     ·cases h.2
    have k0:¬s.kind=0:=by omega
    rw[if_neg n1,if_neg k0]
    split
    ·omega
    ·exact h
  ·rw[if_neg (show¬(s.kind=1∧(fr<a∨(fr=a∧false=true))) from fun e=>k1 e.1),if_neg (show¬(s.kind=1∧(fr<a∨(fr=a∧true=true))) from fun e=>k1 e.1)]
   split<;>omega
theorem gap_past:∀{l:List AxStep} (hl:Form l) (a:Int) (r:Bool) (fr tq:Int),a<fr→gapS l a r fr tq=tq
 | [],_,a,r,fr,tq,h=>rfl
 |s::l,hl,a,r,fr,tq,h=>by
  have hn:=hl.head.2.2
  rw[gapS,if_neg (by omega:¬(s.kind=1∧(fr<a∨(fr=a∧r=true))))]
  rw[gap_past hl.tail a r _ _ (by split<;>omega)]
  split<;>omega
theorem gap_place:∀{l:List AxStep} (hl:Form l) (p fr tq:Int),fr≤p→0≤placeS l p fr tq→gapS l p true fr tq≤placeS l p fr tq
 | [],_,p,fr,tq,h,h0=>by simp[placeS] at h0
 |s::l,hl,p,fr,tq,h,h0=>by
  have hn:=hl.head.2.2
  have hk:=kinds hl.head
  rw[placeS] at h0⊢
  rw[gapS]
  by_cases k1:s.kind=1
  ·rw[if_pos k1] at h0⊢
   rw[if_pos k1,if_pos ⟨k1,by rcases Int.lt_or_eq_of_le h with h|h;exact .inl h;exact .inr ⟨h,rfl⟩⟩]
   exact gap_place hl.tail p fr _ h h0
  ·rw[if_neg k1] at h0⊢
   rw[if_neg k1,if_neg (by omega:¬(s.kind=1∧(fr<p∨(fr=p∧true=true))))]
   by_cases k0:s.kind=0
   ·rw[if_pos k0] at h0⊢
    rw[if_pos k0]
    by_cases c:p<fr+s.n
    ·rw[if_pos c] at h0⊢
     rw[gap_past hl.tail p true _ _ (by omega)];omega
    ·rw[if_neg c] at h0⊢
     rw[show min s.n (max 0 (p-fr))=s.n by omega]
     exact gap_place hl.tail p _ _ (by omega) h0
   ·rw[if_neg k0] at h0⊢
    rw[if_neg k0]
    by_cases c:p<fr+s.n
    ·rw[if_pos c] at h0;omega
    ·rw[if_neg c] at h0⊢
     exact gap_place hl.tail p _ _ (by omega) h0
theorem place_gap:∀{l:List AxStep} (hl:Form l) (p q fr tq:Int),fr≤p→p<q→0≤placeS l p fr tq→placeS l p fr tq+1≤gapS l q false fr tq
 | [],_,p,q,fr,tq,h,hq,h0=>by simp[placeS] at h0
 |s::l,hl,p,q,fr,tq,h,hq,h0=>by
  have hn:=hl.head.2.2
  rw[placeS] at h0⊢
  rw[gapS]
  by_cases k1:s.kind=1
  ·rw[if_pos k1] at h0⊢
   rw[if_pos k1,if_pos ⟨k1,by omega⟩]
   exact place_gap hl.tail p q fr _ h hq h0
  ·rw[if_neg k1] at h0⊢
   rw[if_neg k1,if_neg (by omega:¬(s.kind=1∧(fr<q∨(fr=q∧false=true))))]
   by_cases k0:s.kind=0
   ·rw[if_pos k0] at h0⊢
    rw[if_pos k0]
    by_cases c:p<fr+s.n
    ·rw[if_pos c] at h0⊢
     have:=gap_ge hl.tail q false (fr+s.n) (tq+min s.n (max 0 (q-fr)))
     omega
    ·rw[if_neg c] at h0⊢
     rw[show min s.n (max 0 (q-fr))=s.n by omega]
     exact place_gap hl.tail p q _ _ (by omega) hq h0
   ·rw[if_neg k0] at h0⊢
    rw[if_neg k0]
    by_cases c:p<fr+s.n
    ·rw[if_pos c] at h0;omega
    ·rw[if_neg c] at h0⊢
     exact place_gap hl.tail p q _ _ (by omega) hq h0
end Go.Ch
end
section
set_option linter.unusedVariables false
namespace Go.Ch
open Go Go.Ab
structure Cell where
 row:Int
 col:Int
 text:ByteArray
 ref:Int
 attrs:List Attr
instance:Inhabited Cell:=⟨⟨0,0,{data:=#[]},0,[]⟩⟩
structure Rect where
 row:Int
 col:Int
 h:Int
 w:Int
deriving DecidableEq
instance:Inhabited Rect:=⟨⟨0,0,0,0⟩⟩
structure Grid where
 rows:Int
 cols:Int
 cells:List Cell
 merges:List Rect
instance:Inhabited Grid:=⟨⟨0,0,[],[]⟩⟩
structure GEd where
 rows:List AxStep
 cols:List AxStep
 cells:List Cell
 split:List Rect
 merge:List Rect
instance:Inhabited GEd:=⟨⟨[],[],[],[],[]⟩⟩
def cellT(c:Cell):Tree:= .agg [TI c.row,TI c.col,TS c.text,TI c.ref,.lst 2 (c.attrs.map attrT)]
def rectT(r:Rect):Tree:= .agg [TI r.row,TI r.col,TI r.h,TI r.w]
def gridT(g:Grid):Tree:= .agg [TI g.rows,TI g.cols,.lst 5 (g.cells.map cellT),.lst 4 (g.merges.map rectT)]
def gedT(e:GEd):Tree:= .agg [.lst 2 (e.rows.map stepT),.lst 2 (e.cols.map stepT),.lst 5 (e.cells.map cellT),.lst 4 (e.split.map rectT),.lst 4 (e.merge.map rectT)]
def ordC(a b:Cell):Int:=orL [cmpI a.row b.row,cmpI a.col b.col]
def emptyC(c:Cell):Bool:=(seq c.text {data:=#[]}&&c.ref==0)&&(c.attrs.length:Int)==0
def insB(r:Rect)(m n:Int):Bool:=decide (0≤r.row∧0≤r.col∧1≤r.h∧1≤r.w∧r.row<m∧r.col<n∧r.h≤m-r.row∧r.w≤n-r.col)
def meetB(a b:Rect):Bool:=decide (a.row<b.row+b.h∧b.row<a.row+a.h∧a.col<b.col+b.w∧b.col<a.col+a.w)
def befB(a b:Rect):Bool:=decide (a.row<b.row∨(a.row=b.row∧a.col<b.col))
theorem rect_ext{a b:Rect}(h1:a.row=b.row)(h2:a.col=b.col)(h3:a.h=b.h)(h4:a.w=b.w):a=b:=by
 cases a;cases b;simp_all
def mvR(a:List AxStep)(p:Int):Int:=if 0<a.length then placeS a p 0 0 else p
def mvC(rows cols:List AxStep)(c:Cell):Option Cell:=
 if 0<rows.length∧mvR rows c.row<0 then none else if 0<cols.length∧mvR cols c.col<0 then none else some {c with row:=mvR rows c.row,col:=mvR cols c.col}
def movL(l:List Cell)(rows cols:List AxStep):List Cell:=l.filterMap (mvC rows cols)
def PIn(a:List AxStep)(p:Int):Prop:=0<a.length→Valid a∧0≤p∧p<oldI a
def CAN(k:Nat)(l:List Cell):Prop:=∀c∈l,c.attrs.length≤k
theorem getDC_mem{l:List Cell}{i:Nat}(h:i<l.length):l.getD i default∈l:=by
 rw[show l.getD i default=l[i] by simp[List.getD,List.getElem?_eq_getElem h]];exact List.getElem_mem _
theorem movL_succ{l:List Cell}{rows cols:List AxStep}{i:Nat}(h:i<l.length):movL (l.take (i+1)) rows cols=movL (l.take i) rows cols++(mvC rows cols (l.getD i default)).toList:=by
 unfold movL
 rw[List.take_succ_eq_append_getElem h,List.filterMap_append]
 simp only[List.getD,List.getElem?_eq_getElem h,Option.getD_some]
 simp only[List.filterMap_cons,List.filterMap_nil]
 cases mvC rows cols l[i]<;>rfl
theorem movL_len(l:List Cell)(rows cols:List AxStep):(movL l rows cols).length≤l.length:=List.length_filterMap_le _ _
def putC(c:Cell)(k:List Cell→List Cell):List Cell→List Cell
 | []=>(if emptyC c=true then[] else[c])++k []
 |x::l=>if ordC x c<0 then x::putC c k l else if ordC x c=0 then(if emptyC c=true then[] else[c])++k l else(if emptyC c=true then[] else[c])++k (x::l)
def putL:List Cell→List Cell→List Cell
 | [],l=>l
 |c::ns,l=>putC c (putL ns) l
theorem dropC{l:List Cell}{i:Nat}(h:i<l.length):l.drop i=l.getD i default::l.drop (i+1):=by
 rw[List.drop_eq_getElem_cons h];simp[List.getD,List.getElem?_eq_getElem h]
theorem dropC_end{l:List Cell}{i:Nat}(h:l.length≤i):l.drop i=[]:=List.drop_eq_nil_of_le h
theorem putC_lt{c:Cell}{k:List Cell→List Cell}{l:List Cell}{j:Nat}(h:j<l.length)(h0:ordC (l.getD j default) c<0):putC c k (l.drop j)=l.getD j default::putC c k (l.drop (j+1)):=by
 rw[dropC h,putC,if_pos h0]
theorem putC_eq{c:Cell}{k:List Cell→List Cell}{l:List Cell}{j:Nat}(h:j<l.length)(h0:ordC (l.getD j default) c=0):putC c k (l.drop j)=(if emptyC c=true then[] else[c])++k (l.drop (j+1)):=by
 rw[dropC h,putC,if_neg (by omega),if_pos h0]
theorem putC_gt{c:Cell}{k:List Cell→List Cell}{l:List Cell}{j:Nat}(h:j<l.length→0<ordC (l.getD j default) c):putC c k (l.drop j)=(if emptyC c=true then[] else[c])++k (l.drop j):=by
 by_cases hj:j<l.length
 ·have:=h hj
  rw[dropC hj,putC,if_neg (by omega),if_neg (by omega)]
 ·rw[dropC_end (by omega),putC]
def sameC(a b:Cell):Bool:=(((a.row==b.row&&a.col==b.col)&&seq a.text b.text)&&a.ref==b.ref)&&sameL a.attrs b.attrs
end Go.Ch
end
section
set_option linter.unusedVariables false
namespace Go.Ch
open Go Go.Ab
theorem getDX_mem{α:Type}[Inhabited α]{l:List α}{i:Nat}(h:i<l.length):l.getD i default∈l:=by
 rw[show l.getD i default=l[i] by simp[List.getD,List.getElem?_eq_getElem h]];exact List.getElem_mem _
theorem drop_succD{α:Type}[Inhabited α]{l:List α}{i:Nat}(h:i<l.length):l.drop i=l.getD i default::l.drop (i+1):=by
 rw[List.drop_eq_getElem_cons h];simp[List.getD,List.getElem?_eq_getElem h]
def sameCells(a b:List Cell)(i:Nat):Bool:=if i<a.length then(if sameC (a.getD i default) (b.getD i default)=true then sameCells a b (i+1) else false) else true
termination_by a.length-i
def sameCs(a b:List Cell):Bool:=if a.length=b.length then sameCells a b 0 else false
def sameRects(a b:List Rect)(i:Nat):Bool:=if i<a.length then(if a.getD i default=b.getD i default then sameRects a b (i+1) else false) else true
termination_by a.length-i
def sameQs(a b:List Rect):Bool:=if a.length=b.length then sameRects a b 0 else false
def sameG(a b:Grid):Bool:=((a.rows==b.rows&&a.cols==b.cols)&&sameCs a.cells b.cells)&&sameQs a.merges b.merges
end Go.Ch
end
section
set_option linter.unusedVariables false
set_option linter.unusedSimpArgs false
namespace Go.Ch
open Go Go.Ab
def decR(u:ByteArray):Int:=((Lib.decodeGo u).1:Int)
def decW(u:ByteArray):Nat:=(Lib.decodeGo u).2
theorem decW_bd{u:ByteArray}(h:0<u.size):1≤decW u∧decW u≤u.size:=by
 unfold decW Lib.decodeGo
 rw[if_neg (by omega)]
 have hl:u.data.toList.length=u.size:=by rw[Array.length_toList];rfl
 rw[Lib.decode_N]
 have h1:=Lib.decodeN_ge1 (u.data.toList.length-0) (u.data.toList.getD 0 0).toNat (u.data.toList.getD (0+1) 0).toNat (u.data.toList.getD (0+2) 0).toNat (u.data.toList.getD (0+3) 0).toNat
 have h2:=Lib.decodeN_width_le (u.data.toList.length-0) (u.data.toList.getD 0 0).toNat (u.data.toList.getD (0+1) 0).toNat (u.data.toList.getD (0+2) 0).toNat (u.data.toList.getD (0+3) 0).toNat (by omega)
 omega
def badT(u:ByteArray):Prop:=(decR u=65533∧decW u=1)∨decR u=10∨¬CharP (decR u)
instance (u:ByteArray):Decidable (badT u):=by unfold badT CharP;infer_instance
def textG(u:ByteArray):Bool:=if h:0<u.size then(if badT u then false else textG (u.extract (decW u) u.size)) else true
termination_by u.size
decreasing_by
 have:=decW_bd h
 rw[ByteArray.size_extract]
 omega
theorem textG_end{u:ByteArray}(h:¬0<u.size):textG u=true:=by rw[textG,dif_neg h]
def tailG(u:ByteArray)(p:Nat):ByteArray:=u.extract p u.size
end Go.Ch
end
section
set_option linter.unusedVariables false
namespace Go.Ch
open Go Go.Ab
theorem ordC_def(a b:Cell):ordC a b=if a.row<b.row then-1 else if a.row>b.row then 1 else if a.col<b.col then-1 else if a.col>b.col then 1 else 0:=by
 unfold ordC
 simp only[orL]
 unfold cmpI
 by_cases h1:a.row<b.row
 ·rw[if_pos h1,if_pos (by decide),if_pos h1]
 ·rw[if_neg h1,if_neg h1]
  by_cases h2:a.row>b.row
  ·rw[if_pos h2,if_pos (by decide),if_pos h2]
  ·rw[if_neg h2,if_neg (by decide),if_neg h2]
   by_cases h3:a.col<b.col
   ·rw[if_pos h3,if_pos (by decide)]
   ·rw[if_neg h3]
    by_cases h4:a.col>b.col
    ·rw[if_pos h4,if_pos (by decide)]
    ·rw[if_neg h4,if_neg (by decide)]
theorem ordC_lt{a b:Cell}:ordC a b<0↔a.row<b.row∨(a.row=b.row∧a.col<b.col):=by
 rw[ordC_def];repeat' split
 all_goals omega
theorem ordC_eq{a b:Cell}:ordC a b=0↔a.row=b.row∧a.col=b.col:=by
 rw[ordC_def];repeat' split
 all_goals omega
def cellE(c:Cell)(m n:Int)(none:Bool):Int:=
 if c.row<0∨m≤c.row∨c.col<0∨n≤c.col then 2
 else if c.ref<0∨1073741824<c.ref then 2
 else if textG c.text=false then 23
 else if¬chkA false c.attrs 0=0 then chkA false c.attrs 0
 else if emptyC c=true∧none=false then 4 else 0
def cellsE(l:List Cell)(m n:Int)(none:Bool)(i:Nat):Int:=
 if i<l.length then
  (if¬cellE (l.getD i default) m n none=0 then cellE (l.getD i default) m n none
   else if 0<i∧0≤ordC (l.getD (i- 1) default) (l.getD i default) then 5 else cellsE l m n none (i+1))
 else 0
termination_by l.length-i
def SzC(l:List Cell):Prop:=∀c∈l,c.text.size≤9223372036854775807∧Szd c.attrs
def anyM(l:List Rect)(r:Rect):Bool:=l.any (fun q=>meetB q r)
def mergE(l:List Rect)(m n:Int)(i:Nat):Int:=
 if i<l.length then
  (if insB (l.getD i default) m n=false then 2
   else if(l.getD i default).h=1∧(l.getD i default).w=1 then 4
   else if 0<i∧befB (l.getD (i- 1) default) (l.getD i default)=false then 5
   else if anyM (l.take i) (l.getD i default)=true then 21
   else mergE l m n (i+1))
 else 0
termination_by l.length-i
def gridE(g:Grid):Int:=
 if g.rows<0∨2147483647<g.rows∨g.cols<0∨2147483647<g.cols then 2
 else if¬cellsE g.cells g.rows g.cols false 0=0 then cellsE g.cells g.rows g.cols false 0
 else mergE g.merges g.rows g.cols 0
def idxF{α:Type}[Inhabited α](p:α→Bool)(l:List α)(i:Nat):Int:=if i<l.length then(if p (l.getD i default)=true then(i:Int) else idxF p l (i+1)) else-1
termination_by l.length-i
theorem idxF_ge{α:Type}[Inhabited α](p:α→Bool){l:List α}:∀(n i:Nat),l.length-i=n→(0≤idxF p l i↔(l.drop i).any p=true)
 |0,i,h=>by rw[idxF,if_neg (by omega),List.drop_eq_nil_of_le (by omega)];simp
 |n+1,i,h=>by
  have hi:i<l.length:=by omega
  rw[idxF,if_pos hi,drop_succD hi,List.any_cons]
  by_cases hp:p (l.getD i default)=true
  ·rw[if_pos hp,hp];simp
  ·rw[if_neg hp,idxF_ge p n (i+1) (by omega)]
   simp only[Bool.not_eq_true] at hp
   rw[hp,Bool.false_or]
theorem idxF_any{α:Type}[Inhabited α](p:α→Bool)(l:List α):(0≤idxF p l 0)=((l.any p)=true):=propext (by rw[idxF_ge p _ 0 rfl,List.drop_zero])
end Go.Ch
end
section
set_option linter.unusedVariables false
namespace Go.Ch
open Go Go.Ab
def insQE(l:List Rect)(m n:Int)(i:Nat):Int:=if i<l.length then(if insB (l.getD i default) m n=false then 2 else insQE l m n (i+1)) else 0
termination_by l.length-i
def mgE(l:List Rect)(m n:Int)(i:Nat):Int:=if i<l.length then(if insB (l.getD i default) m n=false then 2 else if(l.getD i default).h=1∧(l.getD i default).w=1 then 4 else mgE l m n (i+1)) else 0
termination_by l.length-i
def celF(l:List Cell)(m n:Int)(i:Nat):Int:=if i<l.length then(if m≤(l.getD i default).row∨n≤(l.getD i default).col then 2 else celF l m n (i+1)) else 0
termination_by l.length-i
theorem insQE_all{l:List Rect}{m n:Int}:∀(k i:Nat),l.length-i=k→insQE l m n i=0→∀j,i≤j→j<l.length→insB (l.getD j default) m n=true
 |0,i,h,_,j,h1,h2=>by omega
 |k+1,i,h,h0,j,h1,h2=>by
  rw[insQE,if_pos (by omega)] at h0
  split at h0
  ·cases h0
  ·rename_i hb
   by_cases e:i=j
   ·rw[←e];simpa using hb
   ·exact insQE_all k (i+1) (by omega) h0 j (by omega) h2
theorem mgE_all{l:List Rect}{m n:Int}:∀(k i:Nat),l.length-i=k→mgE l m n i=0→∀j,i≤j→j<l.length→insB (l.getD j default) m n=true∧¬((l.getD j default).h=1∧(l.getD j default).w=1)
 |0,i,h,_,j,h1,h2=>by omega
 |k+1,i,h,h0,j,h1,h2=>by
  rw[mgE,if_pos (by omega)] at h0
  split at h0
  ·cases h0
  ·rename_i hb
   split at h0
   ·cases h0
   ·rename_i hc
    by_cases e:i=j
    ·rw[←e];exact⟨by simpa using hb,hc⟩
    ·exact mgE_all k (i+1) (by omega) h0 j (by omega) h2
theorem celF_all{l:List Cell}{m n:Int}:∀(k i:Nat),l.length-i=k→celF l m n i=0→∀j,i≤j→j<l.length→(l.getD j default).row<m∧(l.getD j default).col<n
 |0,i,h,_,j,h1,h2=>by omega
 |k+1,i,h,h0,j,h1,h2=>by
  rw[celF,if_pos (by omega)] at h0
  split at h0
  ·cases h0
  ·rename_i hb
   by_cases e:i=j
   ·rw[←e];omega
   ·exact celF_all k (i+1) (by omega) h0 j (by omega) h2
theorem mem_getDX{α:Type}[Inhabited α]{l:List α}{x:α}(h:x∈l):∃j,j<l.length∧l.getD j default=x:=by
 obtain⟨j,hj,e⟩:=List.mem_iff_getElem.1 h
 exact⟨j,hj,by rw[List.getD_eq_getElem?_getD,List.getElem?_eq_getElem hj];exact e⟩
structure EdOk(e:GEd):Prop where
 okr:Valid e.rows
 okc:Valid e.cols
 cells:cellsE e.cells 2147483647 2147483647 true 0=0
 split:∀r∈e.split,insB r 2147483647 2147483647=true
 merge:∀r∈e.merge,insB r 2147483647 2147483647=true∧¬(r.h=1∧r.w=1)
def edE(e:GEd):Int:=
 if¬checkX e.rows=0 then checkX e.rows else if¬checkX e.cols=0 then checkX e.cols
 else if¬cellsE e.cells 2147483647 2147483647 true 0=0 then cellsE e.cells 2147483647 2147483647 true 0
 else if¬insQE e.split 2147483647 2147483647 0=0 then insQE e.split 2147483647 2147483647 0 else mgE e.merge 2147483647 2147483647 0
theorem edE_ok{e:GEd}(h:edE e=0):EdOk e:=by
 unfold edE at h
 split at h
 ·omega
 ·split at h
  ·omega
  ·split at h
   ·omega
   ·split at h
    ·omega
    ·refine⟨check_iff.1 (by omega),check_iff.1 (by omega),by omega,fun r hr=> ?_,fun r hr=> ?_⟩
     ·obtain⟨j,hj,rfl⟩:=mem_getDX hr
      exact insQE_all _ 0 rfl (by omega) j (by omega) hj
     ·obtain⟨j,hj,rfl⟩:=mem_getDX hr
      exact mgE_all _ 0 rfl h j (by omega) hj
def nwS(n:Int)(a:List AxStep):Int:=if 0<a.length then newI a else n
structure FitOk(g:Grid)(e:GEd):Prop where
 rows:0<e.rows.length→oldI e.rows=g.rows
 cols:0<e.cols.length→oldI e.cols=g.cols
 cells:∀c∈e.cells,c.row<nwS g.rows e.rows∧c.col<nwS g.cols e.cols
 split:∀r∈e.split,insB r (nwS g.rows e.rows) (nwS g.cols e.cols)=true
 merge:∀r∈e.merge,insB r (nwS g.rows e.rows) (nwS g.cols e.cols)=true
def fitE(g:Grid)(e:GEd):Int:=
 if 0<e.rows.length∧¬oldI e.rows=g.rows then 14 else if 0<e.cols.length∧¬oldI e.cols=g.cols then 14
 else if¬celF e.cells (nwS g.rows e.rows) (nwS g.cols e.cols) 0=0 then celF e.cells (nwS g.rows e.rows) (nwS g.cols e.cols) 0
 else if¬insQE e.split (nwS g.rows e.rows) (nwS g.cols e.cols) 0=0 then insQE e.split (nwS g.rows e.rows) (nwS g.cols e.cols) 0
 else insQE e.merge (nwS g.rows e.rows) (nwS g.cols e.cols) 0
theorem fitE_ok{g:Grid}{e:GEd}(h:fitE g e=0):FitOk g e:=by
 unfold fitE at h
 split at h
 ·omega
 ·split at h
  ·omega
  ·split at h
   ·omega
   ·split at h
    ·omega
    ·refine⟨fun q=>by omega,fun q=>by omega,fun c hc=> ?_,fun r hr=> ?_,fun r hr=> ?_⟩
     ·obtain⟨j,hj,rfl⟩:=mem_getDX hc
      exact celF_all _ 0 rfl (by omega) j (by omega) hj
     ·obtain⟨j,hj,rfl⟩:=mem_getDX hr
      exact insQE_all _ 0 rfl (by omega) j (by omega) hj
     ·obtain⟨j,hj,rfl⟩:=mem_getDX hr
      exact insQE_all _ 0 rfl h j (by omega) hj
theorem newI_bd{l:List AxStep}(h:Valid l):0≤newI l∧newI l≤2147483647∧0≤oldI l∧oldI l≤2147483647:=by
 have:=h.2.1;have:=h.2.2
 unfold newI oldI;omega
theorem nwS_bd{n:Int}{a:List AxStep}(h:Valid a)(hn:0≤n∧n≤2147483647):0≤nwS n a∧nwS n a≤2147483647:=by
 have:=newI_bd h
 unfold nwS;split<;>omega
end Go.Ch
end
section
set_option linter.unusedVariables false
set_option linter.unusedSimpArgs false
set_option maxRecDepth 100000
set_option maxHeartbeats 4000000
open Go Go.Proofs Go.Ab
namespace Go.Ch
theorem fc_isNaN(x:Int):FC Tryz.prog 198 [VI x] (app emp []) (VB false) (app emp []):=by
 refine .go Tryz.f198 ?_
 have e1:((x !=x):Bool)=false:=by
  simp
 exact .finE [.r [],.r []] [] (fun z0:Bool=>(VB z0,[])) _ _ e1.symm
theorem fc_cmpI(x y:Int):FC Tryz.prog 157 [VI x,VI y] (app emp []) (VI (cmpI x y)) (app emp []):=by
 refine .go Tryz.f157 ?_
 refine .bp [.r [],.r [(1,X (Xc0 (fc_isNaN x) X0))],.r [(1,X (Xc0 (fc_isNaN y) X0))],.r [],.f,.r [],.f,.r []] (decide (x<y)) (fun h9=> ?_) (fun h9=> ?_)
 ·
  have e1:((cmpI x y):Int)= -1:=by
   unfold cmpI;((repeat' split)<;>first|rfl|omega| (simp_all;done)| (simp_all;omega))
  exact .finE [.r []] [] (fun z0:Int=>(VI z0,[])) _ _ e1
 ·
  refine .bp [.r []] (decide (x>y)) (fun h11=> ?_) (fun h11=> ?_)
  ·
   have e2:((cmpI x y):Int)=1:=by
    unfold cmpI;((repeat' split)<;>first|rfl|omega| (simp_all;done)| (simp_all;omega))
   exact .finE [.r []] [] (fun z0:Int=>(VI z0,[])) _ _ e2
  ·
   have e3:((cmpI x y):Int)=0:=by
    unfold cmpI;((repeat' split)<;>first|rfl|omega| (simp_all;done)| (simp_all;omega))
   exact .finE [.r []] [] (fun z0:Int=>(VI z0,[])) _ _ e3
theorem fc_or(l:List Int):FC Tryz.prog 156 [VL 1 intT l] (app emp []) (VI (orL l)) (app emp []):=by
 refine .go Tryz.f156 ?_
 refine .len 0 (fun hl0=> ?_)
 refine .loop (α:=Nat) [.r [],.r [],.r [(1,X (Xl intT l))]] 40 (fun i=>([(3,VI 0),(6,VL 1 intT l),(7,VI (l.length:Int)),(8,VI (i:Int))],[])) (fun i=>i≤l.length∧orL l=orL (l.drop i)) (fun i=>l.length-i) (0:Nat) ?_ ?_
 ·
  exact⟨by omega,rfl⟩
 rintro i I3 ih3
 try dsimp only at I3
 refine .bp [.r []] (decide ((i:Int)< (l.length:Int))) (fun h3=> ?_) (fun h3=> ?_)
 ·
  refine .bp [.r [(0,X (Xi intT l (i:Int)))],.r []] ((l.getD i default) !=0) (fun h5=> ?_) (fun h5=> ?_)
  ·
   have e1:((orL l):Int)=(l.getD i default):=by
    rw[I3.2,orL_at (by omega),if_pos (by omega)]
   exact .finE [.r []] [] (fun z0:Int=>(VI z0,[])) _ _ e1
  ·
   refine .back [.r [(0,X (Xn ((i:Int)+1)))]] [] (ih3 ((i+1):Nat) ?_ ?_)
   ·
    refine⟨by omega,?_⟩
    rw[I3.2,orL_at (by omega),if_neg (by omega)]
   ·
    ((try dsimp only);omega)
 ·
  have e2:((orL l):Int)=0:=by
   rw[I3.2,List.drop_eq_nil_of_le (by omega)];rfl
  exact .finE [.r []] [] (fun z0:Int=>(VI z0,[])) _ _ e2
theorem fc_order(a b:Cell):FC Tryz.prog 183 [.t (cellT a),.t (cellT b)] (app emp []) (VI (ordC a b)) (app emp []):=by
 refine .go Tryz.f183 ?_
 have e1:((ordC a b):Int)=(orL [(cmpI a.row b.row),(cmpI a.col b.col)]):=by
  rfl
 exact .finE [.r [],.r [(4,X (Xc0 (fc_cmpI a.row b.row) X0)),(9,X (Xc0 (fc_cmpI a.col b.col) X0)),(11,X (Xc0 (fc_or [(cmpI a.row b.row),(cmpI a.col b.col)]) (rowC intT [(cmpI a.row b.row),(cmpI a.col b.col)] X0)))]] [] (fun z0:Int=>(VI z0,[])) _ _ e1
theorem fc_empty(c:Cell):FC Tryz.prog 182 [.t (cellT c)] (app emp []) (VB (emptyC c)) (app emp []):=by
 refine .go Tryz.f182 ?_
 have e1:((emptyC c):Bool)=((seq c.text ({data:=#[]})&&(c.ref==0))&&((c.attrs.length:Int)==0)):=by
  rfl
 exact .finE [.r [],.r [(5,Xv 1 (seq c.text ({data:=#[]})) X0),(6,Xv 1 (seq c.text ({data:=#[]})) X0),(7,X (Xk (seq c.text ({data:=#[]})))),(10,Xv 1 (seq c.text ({data:=#[]})&&(c.ref==0)) X0),(11,Xv 1 (seq c.text ({data:=#[]})&&(c.ref==0)) (Xl attrT c.attrs)),(12,Xv 1 (seq c.text ({data:=#[]})&&(c.ref==0)) X0),(13,X (Xk (seq c.text ({data:=#[]})&&(c.ref==0))))]] [] (fun z0:Bool=>(VB z0,[])) _ _ e1
end Go.Ch
end
section
set_option linter.unusedVariables false
set_option linter.unusedSimpArgs false
set_option maxRecDepth 100000
set_option maxHeartbeats 4000000
open Go Go.Proofs Go.Ab
namespace Go.Ch
theorem fc_rplace(s:ByteArray):FC Tryz.prog 185 [VS s] (app emp []) (VB (placeB s)) (app emp []):=by
 refine .go Tryz.f185 ?_
 refine .bp [.r [],.r [(4,Xv 1 (!(seq s ({data:=#[]}))) X0),(5,Xv 1 (!(seq s ({data:=#[]}))) X0),(6,X (Xk' (seq s ({data:=#[]})))),(10,Xv 1 (!(seq s ({data:=#[]})||decide ((s.size:Int)> 200))) X0),(11,Xv 1 (!(seq s ({data:=#[]})||decide ((s.size:Int)> 200))) (Xn ((s.size:Int)- 1)) (fun hg=>by(try simp only[decide_eq_true_eq,decide_eq_false_iff_not,Int.not_lt,Int.not_le,gt_iff_lt,Bool.not_eq_true',Bool.not_eq_false',Bool.or_eq_true,Bool.or_eq_false_iff] at hg);exact(by have:=str_pos hg.1;omega))),(12,Xv 2 (!(seq s ({data:=#[]})||decide ((s.size:Int)> 200))) (Xb s ((s.size:Int)- 1)) (fun hg=>by(try simp only[decide_eq_true_eq,decide_eq_false_iff_not,Int.not_lt,Int.not_le,gt_iff_lt,Bool.not_eq_true',Bool.not_eq_false',Bool.or_eq_true,Bool.or_eq_false_iff] at hg);exact⟨(by have:=str_pos hg.1;omega),(by omega)⟩)),(13,Xv 1 (!(seq s ({data:=#[]})||decide ((s.size:Int)> 200))) X0),(14,X (Xk' (seq s ({data:=#[]})||decide ((s.size:Int)> 200))))]] ((seq s ({data:=#[]})||decide ((s.size:Int)> 200))|| (((((s[(Int.toNat ((s.size:Int)- 1))]?).getD 0).toNat:Nat):Int)==97)) (fun h1=> ?_) (fun h1=> ?_)
 ·
  have e1:((placeB s):Bool)=false:=by
   have hs:((s.size:Int)- 1).toNat=s.size- 1:=by omega
   rw[hs] at h1;simp only[byt0,seq_mt,decide_eq_true_eq] at h1;unfold placeB;rw[decide_eq_false (fun q=>by omega)];rfl
  exact .finE [.r []] [] (fun z0:Bool=>(VB z0,[])) _ _ e1
 ·
  refine .loop (α:=Nat) [.r []] 152 (fun i=>([(0,VS s),(20,VI (s.size:Int)),(21,VI (i:Int))],[])) (fun i=>i≤s.size∧plS s 0=plS s i) (fun i=>s.size-i) (0:Nat) ?_ ?_
  ·
   exact⟨by omega,rfl⟩
  rintro i I4 ih4
  try dsimp only at I4
  refine .bp [.r []] (decide ((i:Int)< (s.size:Int))) (fun h4=> ?_) (fun h4=> ?_)
  ·
   refine .bp [.r [],.r [(2,X (Xb s (i:Int))),(7,Xv 2 (!(decide (((((s[i]?).getD 0).toNat:Nat):Int)< 97))) (Xb s (i:Int))),(8,Xv 1 (!(decide (((((s[i]?).getD 0).toNat:Nat):Int)< 97))) X0),(9,X (Xk' (decide (((((s[i]?).getD 0).toNat:Nat):Int)< 97))))]] (decide (((((s[i]?).getD 0).toNat:Nat):Int)< 97)||decide (((((s[i]?).getD 0).toNat:Nat):Int)> 122)) (fun h6=> ?_) (fun h6=> ?_)
   ·
    have e2:((placeB s):Bool)=false:=by
     simp only[byt0] at h6;unfold placeB;rw[I4.2,plS,if_pos (by omega),if_pos (by omega)];simp
    exact .finE [.r []] [] (fun z0:Bool=>(VB z0,[])) _ _ e2
   ·
    refine .back [.r [(0,X (Xn ((i:Int)+1)))]] [] (ih4 ((i+1):Nat) ?_ ?_)
    ·
     simp only[byt0] at h6;refine⟨by omega,?_⟩;rw[I4.2,plS,if_pos (by omega),if_neg (by omega)]
    ·
     ((try dsimp only);omega)
  ·
   have e3:((placeB s):Bool)=true:=by
    have hs:((s.size:Int)- 1).toNat=s.size- 1:=by omega
    rw[hs] at h1;simp only[byt0,seq_mt,decide_eq_false_iff_not] at h1;unfold placeB;rw[I4.2,plS,if_neg (by omega),decide_eq_true (by omega)];rfl
   exact .finE [.r []] [] (fun z0:Bool=>(VB z0,[])) _ _ e3
theorem fc_stamps(a b:DOp):FC Tryz.prog 99 [.t (dopT a),.t (dopT b)] (app emp []) (VI (stampC a b)) (app emp []):=by
 refine .go Tryz.f99 ?_
 have e1:((stampC a b):Int)=(orL [(cmpI a.clock b.clock),(cmpI a.site b.site)]):=by
  rfl
 exact .finE [.r [],.r [(4,X (Xc0 (fc_cmpI a.clock b.clock) X0)),(9,X (Xc0 (fc_cmpI a.site b.site) X0)),(11,X (Xc0 (fc_or [(cmpI a.clock b.clock),(cmpI a.site b.site)]) (rowC intT [(cmpI a.clock b.clock),(cmpI a.site b.site)] X0)))]] [] (fun z0:Int=>(VI z0,[])) _ _ e1
theorem fc_op(o:DOp):FC Tryz.prog 134 [.t (dopT o)] (app emp []) (VI (opE o)) (app emp []):=by
 refine .go Tryz.f134 ?_
 refine .bp [.r [],.r [(5,Xv 1 (o.kind !=0) X0),(6,Xv 1 (o.kind !=0) X0),(7,X (Xk (o.kind !=0)))]] ((o.kind !=0)&&(o.kind !=1)) (fun h1=> ?_) (fun h1=> ?_)
 ·
  have e1:((opE o):Int)=8:=by
   unfold opE
   (repeat' split)<;>first|rfl| (exfalso;omega)| (exfalso;simp_all;done)| (exfalso;simp_all;omega)|grind
  exact .finE [.r []] [] (fun z0:Int=>(VI z0,[])) _ _ e1
 ·
  refine .bp [.r [(5,Xv 1 (!(decide (o.clock<1))) X0),(6,Xv 1 (!(decide (o.clock<1))) X0),(7,X (Xk' (decide (o.clock<1)))),(10,Xv 1 (!(decide (o.clock<1)||decide (o.clock>1073741824))) X0),(11,Xv 1 (!(decide (o.clock<1)||decide (o.clock>1073741824))) X0),(12,X (Xk' (decide (o.clock<1)||decide (o.clock>1073741824)))),(15,Xv 1 (!((decide (o.clock<1)||decide (o.clock>1073741824))||decide (o.site<0))) X0),(16,Xv 1 (!((decide (o.clock<1)||decide (o.clock>1073741824))||decide (o.site<0))) X0),(17,X (Xk' ((decide (o.clock<1)||decide (o.clock>1073741824))||decide (o.site<0)))),(20,Xv 1 (!(((decide (o.clock<1)||decide (o.clock>1073741824))||decide (o.site<0))||decide (o.site>1000))) X0),(21,Xv 1 (!(((decide (o.clock<1)||decide (o.clock>1073741824))||decide (o.site<0))||decide (o.site>1000))) X0),(22,X (Xk' (((decide (o.clock<1)||decide (o.clock>1073741824))||decide (o.site<0))||decide (o.site>1000)))),(25,Xv 1 (!((((decide (o.clock<1)||decide (o.clock>1073741824))||decide (o.site<0))||decide (o.site>1000))||decide (o.itm<1))) X0),(26,Xv 1 (!((((decide (o.clock<1)||decide (o.clock>1073741824))||decide (o.site<0))||decide (o.site>1000))||decide (o.itm<1))) X0),(27,X (Xk' ((((decide (o.clock<1)||decide (o.clock>1073741824))||decide (o.site<0))||decide (o.site>1000))||decide (o.itm<1))))]] (((((decide (o.clock<1)||decide (o.clock>1073741824))||decide (o.site<0))||decide (o.site>1000))||decide (o.itm<1))||decide (o.itm>1073741824)) (fun h3=> ?_) (fun h3=> ?_)
  ·
   have e2:((opE o):Int)=2:=by
    unfold opE
    (repeat' split)<;>first|rfl| (exfalso;omega)| (exfalso;simp_all;done)| (exfalso;simp_all;omega)|grind
   exact .finE [.r []] [] (fun z0:Int=>(VI z0,[])) _ _ e2
  ·
   refine .bp [.r [(5,Xv 1 (o.kind==0) X0),(6,Xv 1 (o.kind==0) X0),(7,Xv 1 (o.kind==0) X0),(9,Xv 1 ((o.kind==0)&& !(!(seq o.nm ({data:=#[]})))) X0),(10,Xv 1 ((o.kind==0)&& !(!(seq o.nm ({data:=#[]})))) X0),(11,Xko (o.kind==0) (!(seq o.nm ({data:=#[]})))),(12,X (Xk (o.kind==0)))]] ((o.kind==0)&&(!(seq o.nm ({data:=#[]}))|| !(seq o.vl ({data:=#[]})))) (fun h5=> ?_) (fun h5=> ?_)
   ·
    refine .bp [] ((o.kind==0)&&(!(seq o.nm ({data:=#[]}))|| !(seq o.vl ({data:=#[]})))) (fun h5=> ?_) (fun h5=> ?_)
    ·
     have e3:((opE o):Int)=4:=by
      unfold opE
      (repeat' split)<;>first|rfl| (exfalso;omega)| (exfalso;simp_all;done)| (exfalso;simp_all;omega)|grind
     exact .finE [.r []] [] (fun z0:Int=>(VI z0,[])) _ _ e3
    ·
     refine .bp [.r [(5,Xv 1 (o.kind==0) X0),(6,Xv 1 (o.kind==0) X0),(7,Xv 1 (o.kind==0) X0),(9,Xv 1 ((o.kind==0)&& !(decide (o.prt< (-1)))) X0),(10,Xv 1 ((o.kind==0)&& !(decide (o.prt< (-1)))) X0),(11,Xko (o.kind==0) (decide (o.prt< (-1)))),(12,X (Xk (o.kind==0)))]] ((o.kind==0)&&(decide (o.prt< (-1))||decide (o.prt>1073741824))) (fun h8=> ?_) (fun h8=> ?_)
     ·
      have e4:((opE o):Int)=2:=by
       unfold opE
       (repeat' split)<;>first|rfl| (exfalso;omega)| (exfalso;simp_all;done)| (exfalso;simp_all;omega)|grind
      exact .finE [.r []] [] (fun z0:Int=>(VI z0,[])) _ _ e4
     ·
      refine .bp [.r [(5,Xv 1 (o.kind==0) X0),(6,Xv 1 (o.kind==0) (Xc0 (fc_rplace o.plc) X0)),(7,Xv 1 (o.kind==0) X0),(8,X (Xk (o.kind==0)))]] ((o.kind==0)&& !(placeB o.plc)) (fun h10=> ?_) (fun h10=> ?_)
      ·
       refine .bp [] ((o.kind==0)&& !(placeB o.plc)) (fun h10=> ?_) (fun h10=> ?_)
       ·
        have e5:((opE o):Int)=9:=by
         unfold opE
         (repeat' split)<;>first|rfl| (exfalso;omega)| (exfalso;simp_all;done)| (exfalso;simp_all;omega)|grind
        exact .finE [.r []] [] (fun z0:Int=>(VI z0,[])) _ _ e5
       ·
        refine .bp [.r [(5,Xv 1 (o.kind==1) X0),(6,Xv 1 (o.kind==1) X0),(7,X (Xk (o.kind==1))),(10,Xv 1 ((o.kind==1)&& !(seq o.vl ({data:=#[]}))) X0),(11,Xv 1 ((o.kind==1)&& !(seq o.vl ({data:=#[]}))) (Xc0 (fc_value o.vl) X0)),(12,Xv 1 ((o.kind==1)&& !(seq o.vl ({data:=#[]}))) X0),(13,X (Xk ((o.kind==1)&& !(seq o.vl ({data:=#[]})))))]] (((o.kind==1)&& !(seq o.vl ({data:=#[]})))&& !(valGo o.vl)) (fun h13=> ?_) (fun h13=> ?_)
        ·
         have e6:((opE o):Int)=23:=by
          unfold opE
          (repeat' split)<;>first|rfl| (exfalso;omega)| (exfalso;simp_all;done)| (exfalso;simp_all;omega)|grind
         exact .finE [.r []] [] (fun z0:Int=>(VI z0,[])) _ _ e6
        ·
         have e7:((opE o):Int)=0:=by
          unfold opE
          (repeat' split)<;>first|rfl| (exfalso;omega)| (exfalso;simp_all;done)| (exfalso;simp_all;omega)|grind
         exact .finE [.r []] [] (fun z0:Int=>(VI z0,[])) _ _ e7
      ·
       refine .bp [.r [(5,Xv 1 (o.kind==1) X0),(6,Xv 1 (o.kind==1) (Xc0 (fc_name o.nm) X0)),(7,Xv 1 (o.kind==1) X0),(8,X (Xk (o.kind==1)))]] ((o.kind==1)&& !(nameGo o.nm)) (fun h11=> ?_) (fun h11=> ?_)
       ·
        have e8:((opE o):Int)=9:=by
         unfold opE
         (repeat' split)<;>first|rfl| (exfalso;omega)| (exfalso;simp_all;done)| (exfalso;simp_all;omega)|grind
        exact .finE [.r []] [] (fun z0:Int=>(VI z0,[])) _ _ e8
       ·
        refine .bp [.r [(5,Xv 1 (o.kind==1) X0),(6,Xv 1 (o.kind==1) X0),(7,X (Xk (o.kind==1))),(10,Xv 1 ((o.kind==1)&& !(seq o.vl ({data:=#[]}))) X0),(11,Xv 1 ((o.kind==1)&& !(seq o.vl ({data:=#[]}))) (Xc0 (fc_value o.vl) X0)),(12,Xv 1 ((o.kind==1)&& !(seq o.vl ({data:=#[]}))) X0),(13,X (Xk ((o.kind==1)&& !(seq o.vl ({data:=#[]})))))]] (((o.kind==1)&& !(seq o.vl ({data:=#[]})))&& !(valGo o.vl)) (fun h13=> ?_) (fun h13=> ?_)
        ·
         have e9:((opE o):Int)=23:=by
          unfold opE
          (repeat' split)<;>first|rfl| (exfalso;omega)| (exfalso;simp_all;done)| (exfalso;simp_all;omega)|grind
         exact .finE [.r []] [] (fun z0:Int=>(VI z0,[])) _ _ e9
        ·
         have e10:((opE o):Int)=0:=by
          unfold opE
          (repeat' split)<;>first|rfl| (exfalso;omega)| (exfalso;simp_all;done)| (exfalso;simp_all;omega)|grind
         exact .finE [.r []] [] (fun z0:Int=>(VI z0,[])) _ _ e10
   ·
    refine .bp [.r [(5,Xv 1 (o.kind==1) X0),(6,Xv 1 (o.kind==1) X0),(7,Xv 1 (o.kind==1) X0),(9,Xv 1 ((o.kind==1)&& !(o.prt !=0)) X0),(10,Xv 1 ((o.kind==1)&& !(o.prt !=0)) X0),(11,Xko (o.kind==1) (o.prt !=0)),(12,X (Xk (o.kind==1)))]] ((o.kind==1)&&((o.prt !=0)|| !(seq o.plc ({data:=#[]})))) (fun h6=> ?_) (fun h6=> ?_)
    ·
     have e11:((opE o):Int)=4:=by
      unfold opE
      (repeat' split)<;>first|rfl| (exfalso;omega)| (exfalso;simp_all;done)| (exfalso;simp_all;omega)|grind
     exact .finE [.r []] [] (fun z0:Int=>(VI z0,[])) _ _ e11
    ·
     refine .bp [.r [(5,Xv 1 (o.kind==0) X0),(6,Xv 1 (o.kind==0) X0),(7,Xv 1 (o.kind==0) X0),(9,Xv 1 ((o.kind==0)&& !(decide (o.prt< (-1)))) X0),(10,Xv 1 ((o.kind==0)&& !(decide (o.prt< (-1)))) X0),(11,Xko (o.kind==0) (decide (o.prt< (-1)))),(12,X (Xk (o.kind==0)))]] ((o.kind==0)&&(decide (o.prt< (-1))||decide (o.prt>1073741824))) (fun h8=> ?_) (fun h8=> ?_)
     ·
      have e12:((opE o):Int)=2:=by
       unfold opE
       (repeat' split)<;>first|rfl| (exfalso;omega)| (exfalso;simp_all;done)| (exfalso;simp_all;omega)|grind
      exact .finE [.r []] [] (fun z0:Int=>(VI z0,[])) _ _ e12
     ·
      refine .bp [.r [(5,Xv 1 (o.kind==0) X0),(6,Xv 1 (o.kind==0) (Xc0 (fc_rplace o.plc) X0)),(7,Xv 1 (o.kind==0) X0),(8,X (Xk (o.kind==0)))]] ((o.kind==0)&& !(placeB o.plc)) (fun h10=> ?_) (fun h10=> ?_)
      ·
       refine .bp [] ((o.kind==0)&& !(placeB o.plc)) (fun h10=> ?_) (fun h10=> ?_)
       ·
        have e13:((opE o):Int)=9:=by
         unfold opE
         (repeat' split)<;>first|rfl| (exfalso;omega)| (exfalso;simp_all;done)| (exfalso;simp_all;omega)|grind
        exact .finE [.r []] [] (fun z0:Int=>(VI z0,[])) _ _ e13
       ·
        refine .bp [.r [(5,Xv 1 (o.kind==1) X0),(6,Xv 1 (o.kind==1) X0),(7,X (Xk (o.kind==1))),(10,Xv 1 ((o.kind==1)&& !(seq o.vl ({data:=#[]}))) X0),(11,Xv 1 ((o.kind==1)&& !(seq o.vl ({data:=#[]}))) (Xc0 (fc_value o.vl) X0)),(12,Xv 1 ((o.kind==1)&& !(seq o.vl ({data:=#[]}))) X0),(13,X (Xk ((o.kind==1)&& !(seq o.vl ({data:=#[]})))))]] (((o.kind==1)&& !(seq o.vl ({data:=#[]})))&& !(valGo o.vl)) (fun h13=> ?_) (fun h13=> ?_)
        ·
         have e14:((opE o):Int)=23:=by
          unfold opE
          (repeat' split)<;>first|rfl| (exfalso;omega)| (exfalso;simp_all;done)| (exfalso;simp_all;omega)|grind
         exact .finE [.r []] [] (fun z0:Int=>(VI z0,[])) _ _ e14
        ·
         have e15:((opE o):Int)=0:=by
          unfold opE
          (repeat' split)<;>first|rfl| (exfalso;omega)| (exfalso;simp_all;done)| (exfalso;simp_all;omega)|grind
         exact .finE [.r []] [] (fun z0:Int=>(VI z0,[])) _ _ e15
      ·
       refine .bp [.r [(5,Xv 1 (o.kind==1) X0),(6,Xv 1 (o.kind==1) (Xc0 (fc_name o.nm) X0)),(7,Xv 1 (o.kind==1) X0),(8,X (Xk (o.kind==1)))]] ((o.kind==1)&& !(nameGo o.nm)) (fun h11=> ?_) (fun h11=> ?_)
       ·
        have e16:((opE o):Int)=9:=by
         unfold opE
         (repeat' split)<;>first|rfl| (exfalso;omega)| (exfalso;simp_all;done)| (exfalso;simp_all;omega)|grind
        exact .finE [.r []] [] (fun z0:Int=>(VI z0,[])) _ _ e16
       ·
        refine .bp [.r [(5,Xv 1 (o.kind==1) X0),(6,Xv 1 (o.kind==1) X0),(7,X (Xk (o.kind==1))),(10,Xv 1 ((o.kind==1)&& !(seq o.vl ({data:=#[]}))) X0),(11,Xv 1 ((o.kind==1)&& !(seq o.vl ({data:=#[]}))) (Xc0 (fc_value o.vl) X0)),(12,Xv 1 ((o.kind==1)&& !(seq o.vl ({data:=#[]}))) X0),(13,X (Xk ((o.kind==1)&& !(seq o.vl ({data:=#[]})))))]] (((o.kind==1)&& !(seq o.vl ({data:=#[]})))&& !(valGo o.vl)) (fun h13=> ?_) (fun h13=> ?_)
        ·
         have e17:((opE o):Int)=23:=by
          unfold opE
          (repeat' split)<;>first|rfl| (exfalso;omega)| (exfalso;simp_all;done)| (exfalso;simp_all;omega)|grind
         exact .finE [.r []] [] (fun z0:Int=>(VI z0,[])) _ _ e17
        ·
         have e18:((opE o):Int)=0:=by
          unfold opE
          (repeat' split)<;>first|rfl| (exfalso;omega)| (exfalso;simp_all;done)| (exfalso;simp_all;omega)|grind
         exact .finE [.r []] [] (fun z0:Int=>(VI z0,[])) _ _ e18
theorem fc_dcheck(l:List DOp):FC Tryz.prog 80 [VL 8 dopT l] (app emp []) (VI (drawE l 0)) (app emp []):=by
 refine .go Tryz.f80 ?_
 refine .len 0 (fun hl0=> ?_)
 refine .loop (α:=Nat) [.r [],.r [(1,X (Xl dopT l))]] 32 (fun i=>([(0,VL 8 dopT l),(6,VL 8 dopT l),(7,VI (l.length:Int)),(8,VI (i:Int))],[])) (fun i=>i≤l.length∧drawE l 0=drawE l i) (fun i=>l.length-i) (0:Nat) ?_ ?_
 ·
  exact⟨by omega,rfl⟩
 rintro i I2 ih2
 try dsimp only at I2
 refine .bp [.r []] (decide ((i:Int)< (l.length:Int))) (fun h2=> ?_) (fun h2=> ?_)
 ·
  refine .bp [.r [(1,X (Xi dopT l (i:Int)))],.r [(1,X (Xc0 (fc_op ((l.getD i default))) X0))],.r []] ((opE ((l.getD i default))) !=0) (fun h5=> ?_) (fun h5=> ?_)
  ·
   have e1:((drawE l 0):Int)=(opE ((l.getD i default))):=by
    rw[I2.2,drawE,if_pos (by omega),if_pos h5]
   exact .finE [.r []] [] (fun z0:Int=>(VI z0,[])) _ _ e1
  ·
   refine .bp [.r [(5,Xv 1 (decide ((i:Int)> 0)) (Xn ((i:Int)- 1))),(6,Xv 2 (decide ((i:Int)> 0)) (Xi' dopT l ((i:Int)- 1) (i- 1))),(7,Xv 1 (decide ((i:Int)> 0)) X0),(9,Xv 2 (decide ((i:Int)> 0)) (Xc0 (fc_stamps ((l.getD (i- 1) default)) ((l.getD i default))) X0)),(10,Xv 1 (decide ((i:Int)> 0)) X0),(11,X (Xk (decide ((i:Int)> 0))))]] (decide ((i:Int)> 0)&&decide ((stampC ((l.getD (i- 1) default)) ((l.getD i default)))≥0)) (fun h7=> ?_) (fun h7=> ?_)
   ·
    have e2:((drawE l 0):Int)=5:=by
     rw[I2.2,drawE,if_pos (by omega),if_neg (by rw[h5];decide),if_pos ⟨by omega,by rw[←stampC_ge];exact h7.2⟩]
    exact .finE [.r []] [] (fun z0:Int=>(VI z0,[])) _ _ e2
   ·
    refine .back [.r [(0,X (Xn ((i:Int)+1)))]] [] (ih2 ((i+1):Nat) ?_ ?_)
    ·
     refine⟨by omega,?_⟩;rw[I2.2,drawE,if_pos (by omega),if_neg (by rw[h5];decide),if_neg (by rw[←stampC_ge];clear ih2;rintro⟨a,b⟩;rcases h7 with h|h<;>omega)]
    ·
     ((try dsimp only);omega)
 ·
  have e3:((drawE l 0):Int)=0:=by
   rw[I2.2,drawE,if_neg (by omega)]
  exact .finE [.r []] [] (fun z0:Int=>(VI z0,[])) _ _ e3
theorem fc_dboth(a b:List DOp)(hn:a.length+b.length≤1099511627776):FC Tryz.prog 49 [VL 8 dopT a,VL 8 dopT b] (app emp []) (.tup [VL 8 dopT ((unionO a b).getD []),VI (if(unionO a b).isSome then(0:Int) else 6)]) (app emp []):=by
 refine .go Tryz.f49 ?_
 refine .len 0 (fun hl0=> ?_)
 refine .len 1 (fun hl1=> ?_)
 refine .loop (α:=(List DOp)×(List DOp)×(List DOp)) [.r [],.r [],.le (.nR 6 8)] 25 (fun(x,y,o)=>([(0,VL 8 dopT x),(1,VL 8 dopT y),(6,.row 24 o.length)],[(24,OR 8 dopT o)])) (fun(x,y,o)=>o.length+x.length+y.length≤a.length+b.length∧unionO a b=(unionO x y).map (o++ ·)) (fun(x,y,o)=>x.length+y.length) (a,b,[]) ?_ ?_
 ·
  exact⟨by simp,by simp⟩
 rintro⟨x,y,o⟩ I2 ih2
 try dsimp only at I2
 refine .bp [.r [(1,X (Xl dopT x)),(5,Xv 1 (!(decide ((x.length:Int)> 0))) (Xl dopT y)),(6,Xv 1 (!(decide ((x.length:Int)> 0))) X0),(7,X (Xk' (decide ((x.length:Int)> 0))))]] (decide ((x.length:Int)> 0)||decide ((y.length:Int)> 0)) (fun h2=> ?_) (fun h2=> ?_)
 ·
  have hxy:=h2
  refine .bp [.r [(1,X (Xl dopT y)),(5,Xv 1 (!((y.length:Int)==0)) (Xl dopT x)),(6,Xv 1 (!((y.length:Int)==0)) X0),(7,Xv 1 (!((y.length:Int)==0)) X0),(9,Xv 1 ((!((y.length:Int)==0))&&(decide ((x.length:Int)> 0))) (Xi dopT x 0) (fun hg=>by(try simp only[decide_eq_true_eq,decide_eq_false_iff_not,Int.not_lt,Int.not_le,gt_iff_lt,Bool.not_eq_true',Bool.not_eq_false',Bool.and_eq_true,Bool.and_eq_false_iff,beq_iff_eq,beq_eq_false_iff_ne,ne_eq] at hg);exact⟨(by omega),(by omega)⟩)),(10,Xv 1 ((!((y.length:Int)==0))&&(decide ((x.length:Int)> 0))) X0),(12,Xv 1 ((!((y.length:Int)==0))&&(decide ((x.length:Int)> 0))) (Xi dopT y 0) (fun hg=>by(try simp only[decide_eq_true_eq,decide_eq_false_iff_not,Int.not_lt,Int.not_le,gt_iff_lt,Bool.not_eq_true',Bool.not_eq_false',Bool.and_eq_true,Bool.and_eq_false_iff,beq_iff_eq,beq_eq_false_iff_ne,ne_eq] at hg);exact⟨(by omega),(by omega)⟩)),(13,Xv 1 ((!((y.length:Int)==0))&&(decide ((x.length:Int)> 0))) X0),(14,Xv 2 ((!((y.length:Int)==0))&&(decide ((x.length:Int)> 0))) (Xc0 (fc_stamps ((x.getD 0 default)) ((y.getD 0 default))) X0)),(15,Xv 1 ((!((y.length:Int)==0))&&(decide ((x.length:Int)> 0))) X0),(16,Xka (!((y.length:Int)==0)) (decide ((x.length:Int)> 0))),(17,X (Xk' ((y.length:Int)==0)))]] (((y.length:Int)==0)|| (decide ((x.length:Int)> 0)&&decide ((stampC ((x.getD 0 default)) ((y.getD 0 default)))< 0))) (fun h4=> ?_) (fun h4=> ?_)
  ·
   refine .back [.r [(2,X (Xi dopT x 0)),(5,X (rowC dopT [((x.getD 0 default))] (Xap 8 dopT 24 o [((x.getD 0 default))]))),(7,X (Xsd dopT 8 x 1))]] [(24,24)] (ih2 ((x.drop 1),y,(o++[((x.getD 0 default))])) ?_ ?_)
   ·
    have hl:y.length=0∨ltO (x.getD 0 default) (y.getD 0 default):=by(rw[←stampC_lt];omega)
    refine⟨by simp;omega,?_⟩
    rw[I2.2,unionO_left (by omega) hl,Option.map_map];congr 1;funext z;simp
   ·
    (try dsimp only);simp;omega
  ·
   refine .bp [.r [(1,X (Xl dopT x)),(5,Xv 1 (!((x.length:Int)==0)) (Xi dopT y 0) (fun hg=>by(try simp only[Bool.not_eq_true',Bool.not_eq_false',beq_iff_eq,beq_eq_false_iff_ne,ne_eq] at hg);exact⟨(by omega),(by omega)⟩)),(6,Xv 1 (!((x.length:Int)==0)) X0),(8,Xv 1 (!((x.length:Int)==0)) (Xi dopT x 0) (fun hg=>by(try simp only[Bool.not_eq_true',Bool.not_eq_false',beq_iff_eq,beq_eq_false_iff_ne,ne_eq] at hg);exact⟨(by omega),(by omega)⟩)),(9,Xv 1 (!((x.length:Int)==0)) X0),(10,Xv 2 (!((x.length:Int)==0)) (Xc0 (fc_stamps ((y.getD 0 default)) ((x.getD 0 default))) X0)),(11,Xv 1 (!((x.length:Int)==0)) X0),(12,X (Xk' ((x.length:Int)==0)))]] (((x.length:Int)==0)||decide ((stampC ((y.getD 0 default)) ((x.getD 0 default)))< 0)) (fun h6=> ?_) (fun h6=> ?_)
   ·
    refine .back [.r [(2,X (Xi dopT y 0)),(5,X (rowC dopT [((y.getD 0 default))] (Xap 8 dopT 24 o [((y.getD 0 default))]))),(7,X (Xsd dopT 8 y 1))]] [(24,24)] (ih2 (x,(y.drop 1),(o++[((y.getD 0 default))])) ?_ ?_)
    ·
     have hl:x.length=0∨ltO (y.getD 0 default) (x.getD 0 default):=by(rw[←stampC_lt];omega)
     refine⟨by simp;omega,?_⟩
     rw[I2.2,unionO_right (by omega) hl,Option.map_map];congr 1;funext z;simp
    ·
     (try dsimp only);simp;omega
   ·
    have hx0:0<x.length:=by omega
    have hy0:0<y.length:=by omega
    have n1:¬ltO (x.getD 0 default) (y.getD 0 default):=by(rw[←stampC_lt];omega)
    have n2:¬ltO (y.getD 0 default) (x.getD 0 default):=by(rw[←stampC_lt];omega)
    have hu:=unionO_both hx0 hy0 n1 n2
    refine .bp [.r [(1,X (Xi dopT x 0)),(4,X (Xi dopT y 0))]] (!((((x.getD 0 default)).clock)==(((y.getD 0 default)).clock)&&((((x.getD 0 default)).site)==(((y.getD 0 default)).site)&&((((x.getD 0 default)).kind)==(((y.getD 0 default)).kind)&&((((x.getD 0 default)).itm)==(((y.getD 0 default)).itm)&&((((x.getD 0 default)).prt)==(((y.getD 0 default)).prt)&&(seq (((x.getD 0 default)).plc) (((y.getD 0 default)).plc)&&(seq (((x.getD 0 default)).nm) (((y.getD 0 default)).nm)&&(seq (((x.getD 0 default)).vl) (((y.getD 0 default)).vl)&&true))))))))) (fun h8=> ?_) (fun h8=> ?_)
    ·
     have e1:(((unionO a b).getD []):List DOp)=[]:=by
      have hne:¬x.getD 0 default=y.getD 0 default:=by
       intro e
       have s0:∀s,seq s s=true:=fun s=>seq_iff.2 rfl
       rw[e] at h8
       simp[s0] at h8
      rw[I2.2,hu,if_neg hne];rfl
     have e2:((if(unionO a b).isSome then(0:Int) else 6):Int)=6:=by
      have hne:¬x.getD 0 default=y.getD 0 default:=by
       intro e
       have s0:∀s,seq s s=true:=fun s=>seq_iff.2 rfl
       rw[e] at h8
       simp[s0] at h8
      rw[I2.2,hu,if_neg hne];rfl
     exact .finE [.r [],.le (.nL 4 8)] [] (fun((z0,z1):(List DOp)×Int)=>(.tup [VL 8 dopT z0,VI z1],[])) _ _ (pr e1 e2)
    ·
     refine .back [.r [(2,X (Xi dopT x 0)),(5,X (rowC dopT [((x.getD 0 default))] (Xap 8 dopT 24 o [((x.getD 0 default))]))),(7,X (Xsd dopT 8 x 1)),(9,X (Xsd dopT 8 y 1))]] [(24,24)] (ih2 ((x.drop 1),(y.drop 1),(o++[((x.getD 0 default))])) ?_ ?_)
     ·
      obtain⟨q1,q2,q3,q4,q5,q6,q7,q8,-⟩:=h8
      rw[seq_iff] at q6 q7 q8
      refine⟨by simp;omega,?_⟩
      rw[I2.2,hu,if_pos (dop_ext q1 q2 q3 q4 q5 q6 q7 q8),Option.map_map];congr 1;funext z;simp
     ·
      (try dsimp only);simp;omega
 ·
  have e3:(((unionO a b).getD []):List DOp)=o:=by
   have hx0:x=[]:=List.eq_nil_of_length_eq_zero (by omega)
   have hy0:y=[]:=List.eq_nil_of_length_eq_zero (by omega)
   rw[I2.2,hx0,hy0];simp[unionO]
  have e4:((if(unionO a b).isSome then(0:Int) else 6):Int)=0:=by
   have hx0:x=[]:=List.eq_nil_of_length_eq_zero (by omega)
   have hy0:y=[]:=List.eq_nil_of_length_eq_zero (by omega)
   rw[I2.2,hx0,hy0];simp[unionO]
  exact .finE [.r [],.le (.fr 4 [(o.length:Nat)=(List.map dopT o).length] ⟨lm,trivial⟩)] [] (fun((z0,z1):(List DOp)×Int)=>(.tup [VL 8 dopT z0,VI z1],[])) _ _ (pr e3 e4)
end Go.Ch
end
section
set_option linter.unusedVariables false
set_option linter.unusedSimpArgs false
set_option maxRecDepth 100000
set_option maxHeartbeats 4000000
open Go Go.Proofs Go.Ab
namespace Go.Ch
theorem fc_place(l:List AxStep)(p:Int)(hv:Valid l)(hp:0≤p∧p≤2147483647):FC Tryz.prog 219 [VL 2 stepT l,VI p] (app emp []) (VI (placeS l p 0 0)) (app emp []):=by
 refine .go Tryz.f219 ?_
 refine .len 0 (fun hl0=> ?_)
 have ca:=check_iff.2 hv
 have hv1:oldI l≤2147483647:=by have:=hv.2.1;unfold oldI;omega
 have hv2:newI l≤2147483647:=by have:=hv.2.2;unfold newI;omega
 have o0:0≤oldI l:=by unfold oldI;omega
 have o1:0≤newI l:=by unfold newI;omega
 refine .loop (α:=Int×Int×Nat) [.r [],.r [],.r [(1,X (Xl stepT l))]] 48 (fun(fr,tq,i)=>([(1,VI p),(5,VI fr),(6,VI tq),(9,VL 2 stepT l),(10,VI (l.length:Int)),(11,VI (i:Int))],[])) (fun(fr,tq,i)=>i≤l.length∧0≤fr∧0≤tq∧fr+oldU (ex (l.drop i))=oldI l∧tq+newU (ex (l.drop i))=newI l∧fr≤p∧placeS l p 0 0=placeS (l.drop i) p fr tq) (fun(fr,tq,i)=>l.length-i) (0,0,0) ?_ ?_
 ·
  exact⟨by omega,by decide,by decide,by simp[oldI],by simp[newI],by omega,rfl⟩
 rintro⟨fr,tq,i⟩ I3 ih3
 try dsimp only at I3
 refine .bp [.r []] (decide ((i:Int)< (l.length:Int))) (fun h3=> ?_) (fun h3=> ?_)
 ·
  have hst:=lens_step (l:=l) (i:=i) (by omega) hv.1
  have hd:=drop_ats (l:=l) (i:=i) (by omega)
  refine .bp [.r [(0,X (Xi stepT l (i:Int)))],.r [],.r []] ((((l.getD i default)).kind)==1) (fun h8=> ?_) (fun h8=> ?_)
  ·
   refine .back [.r [(3,X (Xn (tq+(((l.getD i default)).n))))],.r [(0,X (Xn ((i:Int)+1)))]] [] (ih3 (fr,(tq+(((l.getD i default)).n)),(i+1)) ?_ ?_)
   ·
    obtain⟨s1,s2,s3,s4,s5⟩:=hst
    (first|rw[if_pos (by omega)] at s1|rw[if_neg (by omega)] at s1)
    (first|rw[if_pos (by omega)] at s2|rw[if_neg (by omega)] at s2)
    refine⟨by omega,by omega,by omega,by omega,by omega,by omega,?_⟩
    rw[I3.2.2.2.2.2.2,hd,placeS]
    ((repeat' split)<;>first|rfl|omega)
   ·
    ((try dsimp only);omega)
  ·
   refine .bp [.r []] ((((l.getD i default)).kind)==0) (fun h10=> ?_) (fun h10=> ?_)
   ·
    refine .bp [.r [(4,X (Xn (fr+(((l.getD i default)).n))))]] (decide (p< (fr+(((l.getD i default)).n)))) (fun h11=> ?_) (fun h11=> ?_)
    ·
     have e1:((placeS l p 0 0):Int)=((tq+p)- fr):=by
      first| (rw[I3.2.2.2.2.2.2,drop_ends (by omega)];rfl)| (rw[I3.2.2.2.2.2.2,hd,placeS];((repeat' split)<;>first|rfl|omega))
     exact .finE [.r [(2,X (Xn (tq+p))),(4,X (Xn ((tq+p)- fr)))]] [] (fun z0:Int=>(VI z0,[])) _ _ e1
    ·
     refine .back [.r [(3,X (Xn (tq+(((l.getD i default)).n))))],.r [(3,X (Xn (fr+(((l.getD i default)).n))))],.r [(0,X (Xn ((i:Int)+1)))]] [] (ih3 ((fr+(((l.getD i default)).n)),(tq+(((l.getD i default)).n)),(i+1)) ?_ ?_)
     ·
      obtain⟨s1,s2,s3,s4,s5⟩:=hst
      (first|rw[if_pos (by omega)] at s1|rw[if_neg (by omega)] at s1)
      (first|rw[if_pos (by omega)] at s2|rw[if_neg (by omega)] at s2)
      refine⟨by omega,by omega,by omega,by omega,by omega,by omega,?_⟩
      rw[I3.2.2.2.2.2.2,hd,placeS]
      ((repeat' split)<;>first|rfl|omega)
     ·
      ((try dsimp only);omega)
   ·
    refine .bp [.r [(4,X (Xn (fr+(((l.getD i default)).n))))]] (decide (p< (fr+(((l.getD i default)).n)))) (fun h6=> ?_) (fun h6=> ?_)
    ·
     have e2:((placeS l p 0 0):Int)= -1:=by
      first| (rw[I3.2.2.2.2.2.2,drop_ends (by omega)];rfl)| (rw[I3.2.2.2.2.2.2,hd,placeS];((repeat' split)<;>first|rfl|omega))
     exact .finE [.r []] [] (fun z0:Int=>(VI z0,[])) _ _ e2
    ·
     refine .back [.r [(3,X (Xn (fr+(((l.getD i default)).n))))],.r [(0,X (Xn ((i:Int)+1)))]] [] (ih3 ((fr+(((l.getD i default)).n)),tq,(i+1)) ?_ ?_)
     ·
      obtain⟨s1,s2,s3,s4,s5⟩:=hst
      (first|rw[if_pos (by omega)] at s1|rw[if_neg (by omega)] at s1)
      (first|rw[if_pos (by omega)] at s2|rw[if_neg (by omega)] at s2)
      refine⟨by omega,by omega,by omega,by omega,by omega,by omega,?_⟩
      rw[I3.2.2.2.2.2.2,hd,placeS]
      ((repeat' split)<;>first|rfl|omega)
     ·
      ((try dsimp only);omega)
 ·
  have e3:((placeS l p 0 0):Int)= -1:=by
   first| (rw[I3.2.2.2.2.2.2,drop_ends (by omega)];rfl)| (rw[I3.2.2.2.2.2.2,hd,placeS];((repeat' split)<;>first|rfl|omega))
  exact .finE [.r []] [] (fun z0:Int=>(VI z0,[])) _ _ e3
theorem fc_axApply(l:List AxStep)(pl:List Int)(hv:Valid l)(hp:∀x∈pl,0≤x∧x<oldI l)(hlen:pl.length≤1000000000):FC Tryz.prog 193 [VL 2 stepT l,VL 1 intT pl] (app emp []) (.tup [VL 1 intT (List.map (fun x=>placeS l x 0 0) pl),VI 0]) (app emp []):=by
 refine .go Tryz.f193 ?_
 refine .len 0 (fun hl0=> ?_)
 refine .len 1 (fun hl1=> ?_)
 have ca:=check_iff.2 hv
 have hv1:oldI l≤2147483647:=by have:=hv.2.1;unfold oldI;omega
 have hv2:newI l≤2147483647:=by have:=hv.2.2;unfold newI;omega
 have o0:0≤oldI l:=by unfold oldI;omega
 have o1:0≤newI l:=by unfold newI;omega
 refine .bp [.r [],.r [(1,X (Xc0 (fc_axCheck l) X0))],.r []] ((checkX l) !=0) (fun h2=> ?_) (fun h2=> ?_)
 ·
  exfalso
  omega
 ·
  refine .loop (α:=Nat×(List Int)) [.r [(1,X (Xc0 (fc_axLens l (by assumption)) X0))],.r [],.r [(1,X (Xl intT pl))],.le (.nR 9 1)] 145 (fun(i,out)=>([(0,VL 2 stepT l),(7,VI (oldI l)),(9,.row 144 out.length),(22,VL 1 intT pl),(23,VI (pl.length:Int)),(24,VI (i:Int))],[(144,OR 1 intT out)])) (fun(i,out)=>i≤pl.length∧out=(pl.take i).map (fun x=>placeS l x 0 0)) (fun(i,out)=>pl.length-i) (0,[]) ?_ ?_
  ·
   exact⟨by omega,rfl⟩
  rintro⟨i,out⟩ I7 ih7
  try dsimp only at I7
  have ol:out.length=i:=by rw[I7.2];simp;omega
  refine .bp [.r []] (decide ((i:Int)< (pl.length:Int))) (fun h7=> ?_) (fun h7=> ?_)
  ·
   have hx:=hp (pl.getD i default) (by rw[show pl.getD i default=pl[i] by simp[List.getD,List.getElem?_eq_getElem (show i<pl.length by omega)]];exact List.getElem_mem _)
   refine .bp [.r [(0,X (Xi intT pl (i:Int)))],.r [(5,Xv 2 (!(decide ((pl.getD i default)< 0))) X0),(6,X (Xk' (decide ((pl.getD i default)< 0))))]] (decide ((pl.getD i default)< 0)||decide ((pl.getD i default)≥(oldI l))) (fun h9=> ?_) (fun h9=> ?_)
   ·
    exfalso
    omega
   ·
    refine .back [.r [(3,X (Xc0 (fc_place l (pl.getD i default) (by assumption) (by omega)) X0)),(5,X (rowC intT [(placeS l (pl.getD i default) 0 0)] (Xap 1 intT 144 out [(placeS l (pl.getD i default) 0 0)])))],.r [(0,X (Xn ((i:Int)+1)))]] [(144,144)] (ih7 ((i+1),(out++[(placeS l (pl.getD i default) 0 0)])) ?_ ?_)
    ·
     refine⟨by omega,?_⟩
     rw[I7.2,List.take_succ_eq_append_getElem (show i<pl.length by omega),List.map_append]
     simp[List.getD,List.getElem?_eq_getElem (show i<pl.length by omega)]
    ·
     ((try dsimp only);omega)
  ·
   have e1:((List.map (fun x=>placeS l x 0 0) pl):List Int)=out:=by
    rw[I7.2,List.take_of_length_le (by omega)]
   exact .finE [.r [],.le (.fr 4 [(out.length:Nat)=(List.map intT out).length] ⟨lm,trivial⟩)] [] (fun z0:List Int=>(.tup [VL 1 intT z0,VI 0],[])) _ _ e1
end Go.Ch
end
