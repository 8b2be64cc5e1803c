/- Arguments with their bulk: what a statement of the second form bounds, as a measure of the trees. -/
import Derived.Test.YtlgmgpnjkadhfaaGreatDoorM1
import Derived.Test.YtlgmgpnjkadhfaaGreatDoorM2
import Derived.Test.YtlgmgpnjkadhfaaGreatDoorM3
import Derived.Test.YtlgmgpnjkadhfaaGreatDoorM4
import Derived.Test.YtlgmgpnjkadhfaaGreatDoorM5
import Derived.Test.YtlgmgpnjkadhfaaGreatDoorM6
import Derived.Test.YtlgmgpnjkadhfaaGreatDoorM7
import Derived.Test.YtlgmgpnjkadhfaaGreatDoorM8
import Derived.Test.YtlgmgpnjkadhfaaGreatDoorM9
import Derived.Test.YtlgmgpnjkadhfaaGreatDoorM10
import Derived.Test.YtlgmgpnjkadhfaaGreatDoorRows
import Derived.JoinedOf
import Derived.ProofKit
import Derived.Ground.Names2Prog
import Derived.Shelf.Unicode.DecodeAny
import Derived.Test.YtlgmgpnjkadhfaaGreatDoorProg
section
set_option linter.unusedVariables false
namespace Go.Ab
open Go Go.Proofs.YtlgmgpnjkadhfaaGreatDoor
variable {P:Program} {W:World}
def RdM(P:Program)(t:TypeId)(k:Nat){α:Type}(f:α→Tree)(μ:α→Nat):Prop:=
 (∀a,Elt k (f a))∧P.cellsOf t=k∧∀(H:Type) (enc:TypeId×Value→H) (W:World) (fuel:Nat) (cs:List Value) (x:DataW H×List MemPlace),
  DataW.trod enc P W 0 (fun _=>true) true fuel t cs=some x→∃a:α,y3a W (f a).cells cs∧μ a≤Rows.uptoBulk x.1
theorem y1V{H:Type}(d:DataW H):1≤Rows.uptoBulk d:=by
 cases d with
 |lit l=>cases l<;>simp[Rows.uptoBulk]
 |_=>simp[Rows.uptoBulk]
theorem RdM.int{t:TypeId}{k:IntKind}(ht:P.underlying t=some (.int k))(hc:P.cellsOf t=1):RdM P t 1 (fun z:Int=> .sc (.int k z)) (fun _=>1):=by
 refine⟨fun _=>elt1,hc,fun H enc W fuel cs x h=> ?_⟩
 obtain⟨n,rfl,_,_⟩:=DataW.trod_int ht h
 exact⟨n,y0L rfl (.sc _ rfl),y1V _⟩
theorem RdM.str{t:TypeId}(ht:P.underlying t=some .string)(hc:P.cellsOf t=1):RdM P t 1 (fun s:ByteArray=> .sc (.string s)) (fun s=>s.size+1):=by
 refine⟨fun _=>elt1,hc,fun H enc W fuel cs x h=> ?_⟩
 obtain⟨n,rfl,rfl,_⟩:=DataW.trod_string ht h
 exact⟨n,y0L rfl (.sc _ rfl),by simp[Rows.uptoBulk]⟩
theorem y6P{α H:Type}{μ:α→Nat}:∀{l:List α} {es:List (DataW H)},l.length=es.length→(∀(i:Nat) (a:α) (d:DataW H),l[i]? =some a→es[i]? =some d→μ a≤Rows.uptoBulk d)→(l.map μ).sum≤Rows.uptoBulkAll es
 | [],es,_,_=>by simp
 |a::l,[],h,_=>by simp at h
 |a::l,d::es,h,hi=>by
  have h0:=hi 0 a d rfl rfl
  have ih:=y6P (l:=l) (es:=es) (by simpa using h) (fun i a' d' h1 h2=>hi (i+1) a' d' (by simpa using h1) (by simpa using h2))
  simp only[List.map_cons,List.sum_cons,Rows.uptoBulkAll]
  omega
theorem RdM.slice{t e:TypeId}{k:Nat}{α:Type}{f:α→Tree}{μ:α→Nat}(ht:P.underlying t=some (.slice e))(hk:0<k)(hc:P.cellsOf t=1)(he:RdM P e k f μ):RdM P t 1 (fun l:List α=> .lst k (l.map f)) (fun l=>(l.map μ).sum+1):=by
 obtain⟨h1,h2,h3⟩:=he
 refine⟨fun l=>⟨rfl,fun T hT=>by simp[Tree.cells] at hT;subst hT;rfl⟩,hc,fun H enc W fuel cs x h=> ?_⟩
 have hx:∀l:List α,∀x∈l.map f,Elt k x:=fun l x hx=>by
  obtain⟨a,_,rfl⟩:=List.mem_map.1 hx
  exact h1 a
 rcases DataW.trod_slice ht h with⟨rfl,hx0⟩| ⟨a,len,cap,elems,rest,n,_,rfl,hxe,hb,hl,hm,hlen,hel,_,_⟩
 ·refine⟨[],y0L rfl (.lst k [] none 0 [] hk (fun x hx=>by simp at hx) (Nat.le_refl _) (by simp[maxLen]) (fun h=>absurd rfl h) (by simp) (fun j T u hT=>by simp[flat] at hT)),?_⟩
  exact y1V _
 ·have key:∀i,i<len→∃y:α,(∃cs',cs'.length=k∧(∀r,r<k→W.cell? (a.add (i*k+r))=cs'[r]?)∧y3a W (f y).cells cs')∧∀d,(elems.map (·.1))[i]? =some d→μ y≤Rows.uptoBulk d:=by
   intro i hi
   have h4:=hel i hi
   have h5:elems[i]? =some elems[i]:=by rw[List.getElem?_eq_getElem (by omega)]
   rw[h5,h2] at h4
   obtain⟨cs',h6,h7⟩:=Option.bind_eq_some_iff.1 h4
   obtain⟨q1,q2,q3⟩:=World.cells?_some h6
   obtain⟨y,hy,hμ⟩:=h3 H enc W n cs' _ h7
   refine⟨y,⟨cs',q2,fun r hr=> ?_,hy⟩,fun d hd=> ?_⟩
   ·rw[←q3 r hr]
    rw[Addr.add_add]
   ·rw[List.getElem?_map,h5] at hd
    simp only[Option.map_some,Option.some.injEq] at hd
    subst hd;exact hμ
  obtain⟨l,hl1,hl2'⟩:=y3b len _ key
  have hl2:=fun i a h=>(hl2' i a h).1
  have hspot:l≠[]→∃u,W.cell? a=some u:=by
   intro hne
   have h0:0<len:=by rw[←hl1];exact List.length_pos_iff.2 hne
   obtain⟨cs',c1,c2,c3⟩:=hl2 0 l[0] (by rw[List.getElem?_eq_getElem (by omega)])
   have:=c2 0 hk
   simp only[Nat.zero_mul,Nat.add_zero] at this
   rw[List.getElem?_eq_getElem (by omega)] at this
   have e:a.add 0=a:=by simp[Addr.add]
   rw[e] at this
   exact⟨_,this⟩
  refine⟨l,y0L rfl ?_,?_⟩
  rotate_left
  ·rw[hxe]
   simp only[Rows.uptoBulk]
   have:=y6P (μ:=μ) (l:=l) (es:=elems.map (·.1)) (by simp[hl1,hlen]) (fun i y d h1 h2=>(hl2' i y h1).2 d h2)
   omega
  have hget:∀j,j<len*k→∃u,W.cell? (a.add j)=some u∧∀T,(flat (l.map f))[j]? =some T→TRep W (fun b=>b<W.heap.size) T u:=by
   intro j hj
   have hi:j/k<len:=Nat.div_lt_of_lt_mul (by rw[Nat.mul_comm];exact hj)
   have hr:j%k<k:=Nat.mod_lt _ hk
   have hji:j=j/k*k+j%k:=by rw[Nat.mul_comm];exact(Nat.div_add_mod j k).symm
   obtain⟨cs',c1,c2,c3⟩:=hl2 (j/k) l[j/k] (by rw[List.getElem?_eq_getElem (by omega)])
   have c4:=c2 (j%k) hr
   rw[←hji,List.getElem?_eq_getElem (by omega)] at c4
   refine⟨_,c4,fun T hT=> ?_⟩
   rw[hji,z3a (hx l) (i:=j/k) (X:=f l[j/k]) (by simp[List.getElem?_eq_getElem (show j/k<l.length by omega)]) hr] at hT
   exact c3.2 (j%k) T _ hT (by rw[List.getElem?_eq_getElem (by omega)])
  obtain⟨us,hu1,hu2⟩:=y3b (len*k) _ hget
  have hlm:(l.map f).length=len:=by simp[hl1]
  have:=TRep.lst (w:=W) (ok:=fun b=>b<W.heap.size) k (l.map f) (some a) cap us hk (hx l) (by omega) hm (fun hne=> ?_) (by rw[hlm];exact hu1) (fun j T u hT hu=>(hu2 j u hu).2 T hT)
  ·rw[hlm] at this;exact this
  ·obtain⟨u,hu⟩:=hspot (fun e=>hne (by rw[e];rfl))
   have hs:=World.cell?_spot hu
   obtain⟨b,o,sp⟩:=a
   simp only at hs
   subst hs
   refine⟨b,o,rfl,?_,fun j u hj=> ?_⟩
   ·simp only[World.cell?] at hu
    by_cases hb:b<W.heap.size
    ·exact hb
    ·rw[Array.getElem?_eq_none (by omega)] at hu;simp at hu
   ·have:=(hu2 j u hj).1
    rw[z0P] at this
    exact this
theorem RdM.arg{t:TypeId}{α:Type}{f:α→Tree}{μ:α→Nat}(h:RdM P t 1 f μ)(h1:∀a,(f a).isCell=true){H:Type}{enc:TypeId×Value→H}{v:Value}{d:DataW H}{ps:List MemPlace}(hd:DataW.Trod enc P W 0 (fun _=>true) true t v d ps)(hv:v.cells.toList=[v]):
 ∃a,TRep W (fun b=>b<W.heap.size) (f a) v∧μ a≤Rows.uptoBulk d:=by
 obtain⟨fuel,hf⟩:=hd
 obtain⟨a,⟨c1,c2⟩,c3⟩:=h.2.2 H enc W fuel _ _ hf
 refine⟨a,c2 0 _ _ ?_ (by rw[hv];rfl),c3⟩
 cases hfa:f a with
 |agg cs=>have:=h1 a;rw[hfa] at this;cases this
 |sc v=>rfl
 |lst k xs=>rfl
end Go.Ab
end
section
set_option linter.unusedVariables false
set_option linter.unusedSimpArgs false
namespace Go.Proofs.YtlgmgpnjkadhfaaGreatDoor.frame
open Go Go.Proofs
def chs(l:List Nat):List Char:=l.map Char.ofNat
def w1:List Char:=chs [104,97,114,110,101,115,115]
def w2:List Char:=chs [51,57,57,56,55,51,102,56,99,48,99,49,49,50,102,101,48,51,97,52,54,55,48,49,49,54,56,51,98,52,54,53,57,99,50,53,101,57,99,57,56,51,57,97,100,57,57,56,97,50,100,57,48,49,56,51,53,51,102,99,53,52,102,54]
def w3:List Char:=chs [99,117,116]
def sp:Char:=Char.ofNat 32
theorem ws_sp(r:List Char):wordsSigns (sp::r)=[]::wordsSigns r:=rfl
theorem ws_c(c:Char)(r:List Char)(h:c≠sp):wordsSigns (c::r)=match wordsSigns r with
 |w::ws=>(c::w)::ws
 | []=>[[c]]:=by
 rw[wordsSigns.eq_def]
 split
 ·rename_i e;cases e
 ·rename_i e;simp only[List.cons.injEq] at e;exact absurd e.1 h
 ·rename_i e;simp only[List.cons.injEq] at e;obtain⟨rfl,rfl⟩:=e;rfl
theorem y1W:∀(a:List Char),(a.all fun c=>c !=sp)=true→∀r,wordsSigns (a++sp::r)=a::wordsSigns r
 | [],_,r=>ws_sp r
 |c::a,h,r=>by
  simp only[List.all_cons,Bool.and_eq_true,bne_iff_ne] at h
  rw[List.cons_append,ws_c _ _ h.1,y1W a h.2 r]
theorem tl(l:List Char):(String.ofList l).toList=l:=String.toList_ofList
theorem k1:("harness" :String).toList=w1:=tl w1
theorem k2:("cut" :String).toList=w3:=tl w3
theorem k3:("gc" :String).toList=chs [103,99]:=tl (chs [103,99])
theorem k4:("spec" :String).toList=chs [115,112,101,99]:=tl (chs [115,112,101,99])
theorem k5:("carried" :String).toList=chs [99,97,114,114,105,101,100]:=tl (chs [99,97,114,114,105,101,100])
theorem lifts(r:List (List Char)):stripLifts liftWords (w3::r)=([],w3::r):=by
 unfold liftWords
 simp only[stripLifts]
 have key:∀l:List Nat,(w3==chs l)=false→∀(s:String),s=String.ofList (chs l)→(w3==s.toList)=false:=fun l h s e=>by rw[e,tl];exact h
 rw[if_neg (by rw[key [102,105,110,97,108,115] (by kernel_rfl) "finals" rfl];decide)]
 rw[if_neg (by rw[key [114,101,102,108,101,99,116,114,111,119,115] (by kernel_rfl) "reflectrows" rfl];decide)]
 rw[if_neg (by rw[key [108,101,97,110,114,111,119,115] (by kernel_rfl) "leanrows" rfl];decide)]
 rw[if_neg (by rw[key [111,110,101,98,117,105,108,100] (by kernel_rfl) "onebuild" rfl];decide)]
 rw[if_neg (by rw[key [112,117,98,108,105,99,115,117,109,115] (by kernel_rfl) "publicsums" rfl];decide)]
 rw[if_neg (by rw[key [101,113,103,117,97,114,100] (by kernel_rfl) "eqguard" rfl];decide)]
 rw[if_neg (by rw[key [111,119,110,117,110,115,97,102,101] (by kernel_rfl) "ownunsafe" rfl];decide)]
 rw[if_neg (by rw[key [108,105,98,98,101,115,105,100,101] (by kernel_rfl) "libbeside" rfl];decide)]
 rw[if_neg (by rw[key [111,119,110,98,101,115,105,100,101] (by kernel_rfl) "ownbeside" rfl];decide)]
 rw[if_neg (by rw[key [114,101,102,108,98,101,115,105,100,101] (by kernel_rfl) "reflbeside" rfl];decide)]
 rw[if_neg (by rw[key [97,108,105,97,115,101,115] (by kernel_rfl) "aliases" rfl];decide)]
 rw[if_neg (by rw[key [97,102,116,101,114,105,110,105,116] (by kernel_rfl) "afterinit" rfl];decide)]
 rw[if_neg (by rw[key [99,114,99,112,108,97,105,110] (by kernel_rfl) "crcplain" rfl];decide)]
 rw[if_neg (by rw[key [114,111,97,100,117,110,115,97,102,101] (by kernel_rfl) "roadunsafe" rfl];decide)]
 rw[if_neg (by rw[key [102,109,116,104,97,110,100,111,110] (by kernel_rfl) "fmthandon" rfl];decide)]
theorem words{P:Program}{rest:List Char}(h:P.initOrder.toList=w1++sp::(w2++sp::(w3++sp::rest))):behindMainWord (wordsSigns P.initOrder.toList)=w3::wordsSigns rest:=by
 rw[h,y1W w1 (by kernel_rfl),y1W w2 (by kernel_rfl),y1W w3 (by kernel_rfl)]
 unfold behindMainWord
 rw[k1]
 exact if_pos (by kernel_rfl)
theorem may{P:Program}{rest:List Char}(h:P.initOrder.toList=w1++sp::(w2++sp::(w3++sp::rest)))(hl:P.laysLater=false)(hb:P.bearsReflect=false)(hd:P.doorFits []=true):P.mayEnter=true:=by
 unfold Program.mayEnter
 rw[words h]
 simp only[lifts,k2,k3,k4,k5,hl,hb,hd]
 have h1:(w3==chs [103,99])=false:=by kernel_rfl
 have h2:(w3==chs [115,112,101,99])=false:=by kernel_rfl
 have h3:(w3==chs [99,97,114,114,105,101,100])=false:=by kernel_rfl
 rw[h1,h2,h3]
 simp
theorem fin{P:Program}{rest:List Char}(h:P.initOrder.toList=w1++sp::(w2++sp::(w3++sp::rest))):P.liftsFinal=false:=by
 unfold Program.liftsFinal Program.headLifts
 rw[words h]
 simp only[lifts,k2,k5]
 have h3:(w3==chs [99,97,114,114,105,101,100])=false:=by kernel_rfl
 simp[h3]
theorem mk{P:Program}{rest:List Char}(h:P.initOrder.toList=w1++sp::(w2++sp::(w3++sp::rest))):P.make=some .cut:=by
 unfold Program.make
 rw[words h]
 simp only[k2,k3,k4,k5]
 have h1:(w3==chs [103,99])=false:=by kernel_rfl
 have h2:(w3==chs [115,112,101,99])=false:=by kernel_rfl
 rw[h1,h2]
 simp
theorem head:Tryz.pinned.checked.prog.initOrder=String.ofList (w1++sp::(w2++sp::(w3++sp::chs [97,116,32,99,104,97,110,99,101,114,121,47,99,104,97,110,99,101,114,121,107,101,101,112,49,46,83,101,108,101,99,116,105,111,110,84,121,112,101,100,83,104,111,119,115,32,99,104,97,110,99,101,114,121,47,99,104,97,110,99,101,114,121,107,101,101,112,49,46,83,101,108,101,99,116,105,111,110,70,111,114,109,97,116,75,101,101,112,115,32,99,104,97,110,99,101,114,121,47,99,104,97,110,99,101,114,121,107,101,101,112,49,46,83,101,108,101,99,116,105,111,110,84,104,114,111,117,103,104,79,116,104,101,114,115]))):=by kernel_rfl
set_option maxRecDepth 100000 in
theorem headL:Tryz.pinned.checked.prog.initOrder.toList=w1++sp::(w2++sp::(w3++sp::chs [97,116,32,99,104,97,110,99,101,114,121,47,99,104,97,110,99,101,114,121,107,101,101,112,49,46,83,101,108,101,99,116,105,111,110,84,121,112,101,100,83,104,111,119,115,32,99,104,97,110,99,101,114,121,47,99,104,97,110,99,101,114,121,107,101,101,112,49,46,83,101,108,101,99,116,105,111,110,70,111,114,109,97,116,75,101,101,112,115,32,99,104,97,110,99,101,114,121,47,99,104,97,110,99,101,114,121,107,101,101,112,49,46,83,101,108,101,99,116,105,111,110,84,104,114,111,117,103,104,79,116,104,101,114,115])):=by rw[head,tl]
theorem later:Tryz.pinned.checked.prog.laysLater=false:=by kernel_rfl
theorem refl:Tryz.pinned.checked.prog.bearsReflect=false:=by kernel_rfl
theorem door:Tryz.pinned.checked.prog.doorFits []=true:=by kernel_rfl
theorem mayEnter:Tryz.pinned.checked.prog.mayEnter=true:=may headL later refl door
theorem made:Tryz.pinned.checked.prog.make=some .cut:=mk headL
theorem laid:laidOutB Tryz.pinned.checked.prog=true:=by kernel_rfl
theorem rowed:mapsRowed Tryz.pinned.checked.prog=true:=by kernel_rfl
theorem noStops:Tryz.pinned.checked.prog.stops=[]:=by kernel_rfl
theorem noKnobs:Tryz.pinned.checked.prog.stopKnobs=[]:=by kernel_rfl
theorem heard:Tryz.pinned.checked.prog.stopsHeard=true:=by kernel_rfl
theorem keys:Tryz.pinned.checked.prog.plainKeys=true:=by kernel_rfl
theorem liftsNo:Tryz.pinned.checked.prog.liftsFinal=false:=fin headL
end Go.Proofs.YtlgmgpnjkadhfaaGreatDoor.frame
end
section
namespace Go.Proofs
open Go.Shelf
def Tryz.lays260_ren:Go.Shelf.Ren:=⟨fun|260=>57|n=>n,fun|9=>9|21=>21|3=>3|4=>4|5=>5|119=>160|0=>0|46=>146|139=>163|138=>162|n=>n,fun|3=>0|4=>1|n=>n⟩
theorem Tryz.lays260:Go.Proofs.Lays.n260 Tryz.prog Tryz.lays260_ren:={
 mixed:=by kernel_rfl
 f260:=Tryz.func57.trans (congrArg some (by kernel_rfl))
 t0:=Tryz.underlying0
 a0:=Tryz.isAgg0
 z0:=Tryz.sizeOf0
 v0:=Tryz.zeroValue0
 t3:=Tryz.underlying3
 a3:=Tryz.isAgg3
 z3:=Tryz.sizeOf3
 v3:=Tryz.zeroValue3
 t4:=Tryz.underlying4
 a4:=Tryz.isAgg4
 z4:=Tryz.sizeOf4
 v4:=Tryz.zeroValue4
 t5:=Tryz.underlying5
 a5:=Tryz.isAgg5
 z5:=Tryz.sizeOf5
 v5:=Tryz.zeroValue5
 t9:=Tryz.underlying9
 a9:=Tryz.isAgg9
 z9:=Tryz.sizeOf9
 v9:=Tryz.zeroValue9
 t21:=Tryz.underlying21
 a21:=Tryz.isAgg21
 z21:=Tryz.sizeOf21
 v21:=Tryz.zeroValue21
 t46:=Tryz.underlying146
 a46:=Tryz.isAgg146
 z46:=Tryz.sizeOf146
 v46:=Tryz.zeroValue146
 t119:=Tryz.underlying160
 a119:=Tryz.isAgg160
 z119:=Tryz.sizeOf160
 t138:=Tryz.underlying162
 a138:=Tryz.isAgg162
 z138:=Tryz.sizeOf162
 v138:=Tryz.zeroValue162
 t139:=Tryz.underlying163
 a139:=Tryz.isAgg163
 z139:=Tryz.sizeOf163
 v139:=Tryz.zeroValue163
 g3:=by kernel_rfl
 g4:=by kernel_rfl}
end Go.Proofs
end
