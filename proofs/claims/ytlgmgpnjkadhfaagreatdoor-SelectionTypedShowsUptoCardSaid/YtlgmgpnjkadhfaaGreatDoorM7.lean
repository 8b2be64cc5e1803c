/- A part of the last text of LawTyped. -/
import Derived.Test.YtlgmgpnjkadhfaaGreatDoorM1
import Derived.Test.YtlgmgpnjkadhfaaGreatDoorM2
import Derived.Test.YtlgmgpnjkadhfaaGreatDoorM3
import Derived.Test.YtlgmgpnjkadhfaaGreatDoorM4
import Derived.Test.YtlgmgpnjkadhfaaGreatDoorM5
import Derived.Test.YtlgmgpnjkadhfaaGreatDoorM6
import Derived.Lay
import Derived.Test.YtlgmgpnjkadhfaaGreatDoorCards
import Derived.Test.YtlgmgpnjkadhfaaGreatDoorTie
import Derived.WalkKit
import Derived.ProofKit
import Derived.OpenShut
import Derived.Below
import Derived.Carry
import Derived.ChangeOld
import Derived.JoinedCond
import Derived.Deep.DeepHandedRow
import Derived.Lib.LaidTab
import Derived.Lib.LaidU8T
import Derived.ChangeMaps5
set_option linter.unusedVariables false
set_option linter.unusedSimpArgs false
namespace Go.Proofs.YtlgmgpnjkadhfaaGreatDoor.selectionTypedShows
open Go.ChangeShapes Go.WideShapes Go.ChangeAt Go.RowKit
open Go Go.Proofs Go.Ab Go.Ch
theorem own:ownKnob Tryz.prog.godebug=none:=by kernel_rfl
theorem laidOut:laidOutB Tryz.prog=true:=by kernel_rfl
theorem rdI:RdM Tryz.prog 3 1 (fun z:Int=> .sc (.int .i64 z)) (fun _=>1):=RdM.int Tryz.underlying3 (by kernel_rfl)
set_option maxRecDepth 100000 in
theorem rdIs:RdM Tryz.prog 22 1 (fun l:List Int=> .lst 1 (l.map intT)) (fun l=>(l.map fun _:Int=>1).sum+1):=RdM.slice (f:=intT) Tryz.underlying22 (by decide) (by kernel_rfl) rdI
theorem rdStr:RdM Tryz.prog 9 1 (fun s:ByteArray=> .sc (.string s)) (fun s=>s.size+1):=RdM.str Tryz.underlying9 (by kernel_rfl)
set_option maxRecDepth 100000 in
theorem str_len{W:World}{base:Nat}{z:ByteArray}(h:Value.okWide Tryz.prog W .any base 9 (.string z)):z.size<=9223372036854775807:=by
 simp only[Value.okWide,Tryz.underlying9,Cell.okWide] at h
 simp[Cell.ok] at h
 omega
theorem trep_str{W:World}{F:Nat->Prop}{x z:ByteArray}(h:TRep W F (.sc (.string x)) (.string z)):x=z:=by cases h;rfl
set_option maxRecDepth 100000 in
theorem contract(H:Type)(enc:TypeId×Value->H)(W:World)(base:Nat)(args:Array Value)(ds gs:List (DataW H))(before:List MemPlace)
 (hval0:∀(j:Nat) t v,Tryz.f3.params[j]? =some t->args[j]? =some v->Value.okWide Tryz.prog W .any base t v)
 (hW:DataW.Whole enc Tryz.prog Tryz.f3.params.toList Rows.selectionTypedShowsSpec.vars false W args.toList ds gs before) (hsm:Rows.uptoSmall H (ds++gs)=true) (hT:TabW Tryz.prog W):
 Calls Tryz.prog 3 args W fun e W'=> ∃v,e= .returned v/\Rows.selectionTypedShowsSpec.post enc Tryz.prog Tryz.f3 false true false false W args v W':=by
 have hbulk:=y2I hsm
 have hval:=hval0
 have hW':=hW
 obtain⟨p,q,hA0,hV,rfl,hfz,hnd⟩:=hW
 have hA:DataW.TrodAll enc Tryz.prog W 0 (fun _=>true) true Tryz.f3.params.toList args.toList ds p:=hA0
 rw[Tryz.params3] at hA hval
 obtain⟨v0,vs0,d0,ds0,p0,q0,hargs,rfl,rfl,h0,r0⟩:=trodAll_cons hA
 obtain⟨v1,vs1,d1,ds1,p1,q1,rfl,rfl,rfl,h1,r1⟩:=trodAll_cons r0
 obtain⟨v2,vs2,d2,ds2,p2,q2,rfl,rfl,rfl,h2,r2⟩:=trodAll_cons r1
 obtain⟨v3,vs3,d3,ds3,p3,q3,rfl,rfl,rfl,h3,r3⟩:=trodAll_cons r2
 obtain⟨rfl,rfl,rfl⟩:=trodAll_nil r3
 obtain rfl:args=#[v0,v1,v2,v3]:=by cases args;simp_all
 obtain⟨rfl,rfl⟩:=trodVars_none hV
 simp only[Rows.uptoBulkAll,List.cons_append,List.nil_append,List.append_nil] at hbulk
 obtain⟨a0,len0,cap0,rfl⟩:=okWide_slice Tryz.underlying22 (hval 0 22 v0 rfl rfl)
 obtain⟨a1,rfl,rfl,rfl,w1⟩:=open_int Tryz.underlying3 (hval 1 3 v1 rfl rfl) h1
 obtain⟨a2,rfl,rfl,rfl,w2⟩:=open_int Tryz.underlying3 (hval 2 3 v2 rfl rfl) h2
 obtain⟨a3,rfl,rfl,rfl,w3⟩:=Go.ChangeMaps.open_string Tryz.underlying9 (hval 3 9 v3 rfl rfl) h3
 have lt0:∀x∈p0,x.block<W.heap.size:=by obtain⟨m,hm⟩:=h0;exact DataW.trod_lt m _ _ _ hm
 have lt1:∀x∈([]:List MemPlace),x.block<W.heap.size:=fun x hx=>by cases hx
 have lt2:∀x∈([]:List MemPlace),x.block<W.heap.size:=fun x hx=>by cases hx
 have lt3:∀x∈([]:List MemPlace),x.block<W.heap.size:=fun x hx=>by cases hx
 obtain⟨x0,t0,b0⟩:=rdIs.arg (fun _=>rfl) h0 rfl
 obtain⟨x1,t1,b1⟩:=rdI.arg (fun _=>rfl) h1 rfl
 obtain⟨x2,t2,b2⟩:=rdI.arg (fun _=>rfl) h2 rfl
 obtain⟨x3,t3,b3⟩:=rdStr.arg (fun _=>rfl) h3 rfl
 clear hA0 hval0
 refine((y6O x0 x1 x2 x3 (by omega)).law hT (us:=[.slice a0 len0 cap0,.int .i64 a1,.int .i64 a2,.string a3]) rfl (fun i a u ha hu=> ?_)).mono fun e W' ⟨he,bel⟩=> ?_
 ·match i with
  |0=>cases ha;cases hu;exact⟨_,rfl,t0⟩
  |1=>cases ha;cases hu;exact⟨_,rfl,t1⟩
  |2=>cases ha;cases hu;exact⟨_,rfl,t2⟩
  |3=>cases ha;cases hu;exact⟨_,rfl,t3⟩
  |i+4=>cases ha
 subst he
 exact⟨_,rfl,_,_,_,[],_,[],hW',trodAll_mk1 (shut_bool Tryz.underlying4 _),(trodAll_cons_mk (Below.trod laidOut (by kernel_rfl) (of_decide_eq_true (by kernel_rfl)) h0 bel lt0) (trodAll_cons_mk (Below.trod laidOut (by kernel_rfl) (of_decide_eq_true (by kernel_rfl)) h1 bel lt1) (trodAll_cons_mk (Below.trod laidOut (by kernel_rfl) (of_decide_eq_true (by kernel_rfl)) h2 bel lt2) (trodAll_cons_mk (Below.trod laidOut (by kernel_rfl) (of_decide_eq_true (by kernel_rfl)) h3 bel lt3) trodAll_mk0)))),rfl,bel.frame _,fun h=>by cases h⟩
noncomputable def laidWorld (os:Os):World:=World.laidAll Tryz.prog os Rows.selectionTypedShowsUptoRow.laid
set_option maxRecDepth 100000 in
theorem laid_met(os:Os):laidMet Tryz.prog Rows.selectionTypedShowsUptoRow.laid ((laidWorld os).forCall (fun _ _=>0) ⟨#[],#[.slice none 0 0,.int .i64 0,.int .i64 0,.string {data:=#[]}],[]⟩).memory:=
 laidMet_laidAll #[.slice none 0 0,.int .i64 0,.int .i64 0,.string {data:=#[]}] (by kernel_rfl) (by kernel_rfl)
set_option maxRecDepth 100000 in
theorem reads(os:Os){H:Type}(enc:TypeId×Value->H):∃places,DataW.whole enc Tryz.prog ((laidWorld os).forCall (fun _ _=>0) ⟨#[],#[.slice none 0 0,.int .i64 0,.int .i64 0,.string {data:=#[]}],[]⟩).memory Tryz.f3.params.toList Rows.selectionTypedShowsSpec.vars false #[Value.slice none 0 0,Value.int .i64 0,Value.int .i64 0,Value.string {data:=#[]}].toList 8=some ([.nil,.lit (.int .i64 0),.lit (.int .i64 0),.lit (.string [])],[],places):=
 ⟨[],by kernel_rfl⟩
theorem first_eq:Go.Lib.firstData=Rows.laid_unicode_utf8_first:=by kernel_rfl
theorem accept_eq:Go.Lib.acceptData=(Rows.laid_unicode_utf8_acceptRanges:DataW Unit):=by kernel_rfl
theorem extra:U8Extra Tryz.prog Tryz.lays260_ren:=
 {n3:=by kernel_rfl,n4:=by kernel_rfl,y3:=by kernel_rfl,y4:=by kernel_rfl,c5:=by kernel_rfl,c119:=by kernel_rfl,c138:=by kernel_rfl}
theorem pow_of{W:World}(h:Go.Lib.VarReads Tryz.prog W "internal/strconv.uint64pow10" Rows.laid_internal_strconv_uint64pow10):∃cs,W.var? Tryz.prog "internal/strconv.uint64pow10" =some cs/\cs=(Go.Lib.pow10Tab.map fun z=>Value.int .u64 z).toArray:=by
 have e:(Rows.laid_internal_strconv_uint64pow10:DataW Unit)=Go.Lib.tabData .u64 Go.Lib.pow10Tab:=by kernel_rfl
 rw[e] at h
 obtain⟨g,t,cs,fuel,p,hg,ht,hv,hd⟩:=h
 obtain rfl:4=g:=Option.some.inj ((show Tryz.prog.globalNamed "internal/strconv.uint64pow10" =some 4 by kernel_rfl).symm.trans hg)
 obtain rfl:395=t:=Option.some.inj ((show(Tryz.prog.globals[4]?).map (·.type)=some 395 by kernel_rfl).symm.trans ht)
 have:=Go.Lib.cells_of_tab Tryz.underlying395 Tryz.underlying296 (by kernel_rfl) (by kernel_rfl) hd
 refine⟨cs,hv,?_⟩
 rw[<-this]
theorem err_of{W:World}{n nm:String}{d:DataW Unit}{g:Nat}(h1:Tryz.prog.globalNamed n=some g)(h2:(Tryz.prog.globals[g]?).map (·.type)=some 281)(h:Go.Lib.VarReads Tryz.prog W n (.iface nm d)):∃cs,W.var? Tryz.prog n=some cs/\∃tp p,cs=#[.iface tp p]:=by
 obtain⟨g',t,cs,fuel,p,hg,ht,hv,hd⟩:=h
 obtain rfl:=Option.some.inj (h1.symm.trans hg)
 obtain rfl:=Option.some.inj (h2.symm.trans ht)
 obtain⟨_,u,v,e,_,_⟩:=iface_of_trod Tryz.underlying281 hd
 exact⟨cs,hv,u,v,by apply Array.ext';simpa using e⟩
theorem tables{W:World}(hL:laidMetH Tryz.prog Rows.selectionTypedShowsUptoRow.laid W):TabW Tryz.prog W:=by
 have hL:laidMet Tryz.prog Rows.selectionTypedShowsUptoRow.laid W:=by
  unfold laidMetH at hL
  have e:((Rows.selectionTypedShowsUptoRow.laid).filter fun x=>x.2.handleName?.isSome)=[]:=by kernel_rfl
  rw[e] at hL;exact hL
 have mem:∀(n:String) (d:DataW Unit),(Rows.selectionTypedShowsUptoRow.laid).find? (fun x=>x.1==n)=some (n,d)->(n,d)∈Rows.selectionTypedShowsUptoRow.laid:=fun n d h=>List.mem_of_find?_eq_some h
 have h4:=Go.Lib.laidMet.reads hL (mem "unicode/utf8.acceptRanges" Rows.laid_unicode_utf8_acceptRanges (by kernel_rfl))
 have h3:=Go.Lib.laidMet.reads hL (mem "unicode/utf8.first" Rows.laid_unicode_utf8_first (by kernel_rfl))
 have hp:=Go.Lib.laidMet.reads hL (mem "internal/strconv.uint64pow10" Rows.laid_internal_strconv_uint64pow10 (by kernel_rfl))
 have hs:=Go.Lib.laidMet.reads hL (mem "strconv.ErrSyntax" Rows.laid_strconv_ErrSyntax (by kernel_rfl))
 have hr:=Go.Lib.laidMet.reads hL (mem "strconv.ErrRange" Rows.laid_strconv_ErrRange (by kernel_rfl))
 rw[<-first_eq] at h3
 rw[<-accept_eq] at h4
 refine⟨fun a b ha hb=> ?_,fun p hm a ha=> ?_⟩
 ·obtain rfl:0=a:=Option.some.inj ((show Tryz.prog.globalNamed "unicode/utf8.first" =some 0 by kernel_rfl).symm.trans ha)
  obtain rfl:1=b:=Option.some.inj ((show Tryz.prog.globalNamed "unicode/utf8.acceptRanges" =some 1 by kernel_rfl).symm.trans hb)
  exact utf8Tabs_of_readsT (U8Types.of260 Tryz.lays260) extra h3 h4
 ·unfold z64 at hm
  simp only[List.mem_cons,List.not_mem_nil,or_false] at hm
  rcases hm with rfl|rfl|rfl
  ·exact pow_of hp
  ·exact err_of (g:=2) (by kernel_rfl) (by kernel_rfl) hs
  ·exact err_of (g:=3) (by kernel_rfl) (by kernel_rfl) hr
end Go.Proofs.YtlgmgpnjkadhfaaGreatDoor.selectionTypedShows
