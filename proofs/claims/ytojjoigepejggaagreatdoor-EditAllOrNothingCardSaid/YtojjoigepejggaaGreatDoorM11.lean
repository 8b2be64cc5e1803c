/- What commands make of a document: it stays in its bounds. -/
import Derived.Test.YtojjoigepejggaaGreatDoorM1
import Derived.Test.YtojjoigepejggaaGreatDoorM2
import Derived.Test.YtojjoigepejggaaGreatDoorM3
import Derived.Test.YtojjoigepejggaaGreatDoorM4
import Derived.Test.YtojjoigepejggaaGreatDoorM5
import Derived.Test.YtojjoigepejggaaGreatDoorM6
import Derived.Test.YtojjoigepejggaaGreatDoorM7
import Derived.Test.YtojjoigepejggaaGreatDoorM8
import Derived.Test.YtojjoigepejggaaGreatDoorM9
import Derived.Test.YtojjoigepejggaaGreatDoorM10
import Derived.Test.YtojjoigepejggaaGreatDoorRows
import Derived.JoinedOf
import Derived.ProofKit
import Derived.Ground.Names2Prog
import Derived.Shelf.Unicode.DecodeAny
import Derived.Test.YtojjoigepejggaaGreatDoorProg
section
set_option linter.unusedVariables false
set_option linter.unusedSimpArgs false
namespace Go.Ch
open Go Go.Ab
variable {U:List ByteArray}
structure UN(U:List ByteArray):Prop extends UB U where
 ti:({data:=#[116,105,116,108,101]}:ByteArray)∈U
 bo:({data:=#[98,111,108,100]}:ByteArray)∈U
 si:({data:=#[115,105,122,101]}:ByteArray)∈U
 ma:({data:=#[109,97,114,107,46,109]}:ByteArray)∈U
 he:({data:=#[104,101,97,100]}:ByteArray)∈U
 li:({data:=#[108,105,115,116]}:ByteArray)∈U
 al:({data:=#[97,108,105,103,110]}:ByteArray)∈U
 ki:kindB∈U
theorem vu_of{e:Bool}{l:List Attr}(h:VG e l)(hn:∀a∈l,a.name∈U):VU U e l:=⟨h.1,fun a ha=>⟨⟨(h.2 a ha).1,hn a ha⟩,(h.2 a ha).2⟩⟩
theorem eopE_N{n:Node}(h:eopE (opN n)=0):nodeE n=0:=by
 unfold eopE at h
 split at h
 ·cases h
 split at h
 ·cases h
 ·rwa [if_pos (show(opN n).kind=0 from rfl)] at h
theorem eopE_A{k:Int}{c:List Attr}(h:eopE (opA k c)=0):chkA true c 0=0:=by
 unfold eopE at h
 split at h
 ·cases h
 split at h
 ·cases h
 rw[if_neg (show¬(opA k c).kind=0 from(by decide:¬(1:Int)=0))] at h
 split at h
 ·cases h
 ·rwa [if_pos (show(opA k c).kind=1 from rfl)] at h
theorem eopE_D{k:Int}{c:List DOp}(h:eopE (opD k c)=0):drawE c 0=0:=by
 unfold eopE at h
 split at h
 ·cases h
 split at h
 ·cases h
 rw[if_neg (show¬(opD k c).kind=0 from(by decide:¬(4:Int)=0))] at h
 split at h
 ·cases h
 ·rwa [if_neg (show¬(opD k c).kind=1 from(by decide:¬(4:Int)=1)),if_neg (show¬(opD k c).kind=2 from(by decide:¬(4:Int)=2)),if_neg (show¬(opD k c).kind=3 from(by decide:¬(4:Int)=3))] at h
theorem pl_facts(hU:UB U){s:Int}{k:Nat}{d:Doc}(h:PP U s k d.nodes)(hk:k≤60){S:Sel}{au:ByteArray}(h0:atE d S au=0):
 PlB (atP d S au)∧(atP d S au).node.flow.length≤1048576∧(∀x∈(atP d S au).node.flow,RU U x)∧(seq (atP d S au).author mtB=true∨valGo (atP d S au).author=true)∧(0≤S.fr∧S.fr≤S.tq∧S.tq< ((atP d S au).shown.length:Int)):=by
 obtain⟨a1,a2,a3,a4,a5,a6⟩:=at_node h0
 have hm:=getDX_mem (l:=d.nodes) (hasN_iff.1 a2).1
 obtain⟨g,z⟩:=h.gp.nd _ hm
 have hl:(ndN d.nodes S.nd).flow.length≤1048576:=by have:=z.fl;unfold ndN;omega
 rw[a6]
 exact⟨plB_of hU g hl,hl,g.fl,a5,a4⟩
theorem asc_char{t:ByteArray}(h:AscN t):∀c∈ascC t,CharP c∧c≠0:=by
 intro c hc
 unfold ascC at hc
 obtain⟨i,hi,rfl⟩:=List.mem_map.1 hc
 have:=h i (List.mem_range.1 hi)
 unfold CharP;omega
theorem ascC_len(t:ByteArray):(ascC t).length=t.size:=by simp[ascC]
theorem typEl_len(p:Pl)(s:Sel)(cs:List Int):(typEl p s cs).length=cs.length:=by simp[typEl]
theorem ref_ru{r:Int}{l:List Attr}(h:1≤r∧r≤1073741824)(hl:VU U false l):RU U ⟨0,r,l⟩:=by
 refine⟨?_,hl⟩
 rw[elemE_c (x:=⟨0,r,l⟩) (fun q=>by have:=q.1 rfl;simp only at this;omega) (.inl (by simp only;omega)) (.inr h)]
 exact chk_iff.2 hl.g
theorem cmdB_of(hU:UB U){s:Int}(hs:0≤s∧s≤1000){k:Nat}{d:Doc}(h:PP U s k d.nodes)(hk:k≤60)(b c:Int):CmdB d s b c:=by
 have hL:=h.docL hU hk
 have hM:=cmdM_bd hL b
 have hF:=cmdF_bd hL b c
 have hT:=withinI_bd (IntKind.i64.wrap (c.tdiv 11)) (lo:=cmdF d b c) (hi:=min (cmdM d b) (cmdF d b c+4)) (by omega)
 refine⟨fun t au ht hn h0=> ?_,fun h0=>(pl_facts hU h hk h0).1,fun h0=>⟨(pl_facts hU h hk h0).1,hF.1,hT.1,?_⟩,fun n h0 h1=> ?_,?_⟩
 ·obtain⟨p1,p2,p3,p4,p5⟩:=pl_facts hU h hk h0
  have hi:=inhP_ok p1 p3 (cmdS d b c).fr
  exact⟨p1,chk_iff.2 hi.g,by have:=hi.len hU.len;omega,p5,(stp_ok hU p1 p2 p3 p4 p5 (by rw[typEl_len,ascC_len];omega) (typEl_ok p1 p3 (asc_char ht))).1⟩
 ·have:=hT.2
  show cmdT d b c≤1000000000
  unfold cmdT;omega
 ·obtain⟨p1,p2,p3,p4,p5⟩:=pl_facts hU h hk h0
  obtain⟨n1,n2,n3,n4⟩:=next_id hs h h1
  exact⟨p1,⟨p5.1,by have:=p5.2;have:=p1.sl;omega⟩,(stp_ok hU p1 p2 p3 p4 p5 (by simp[objX]) (fun x hx=>by
   rw[show x=⟨0,nextN d s,inhP (atP d (cmdS d b c) {data:=#[]}) (cmdS d b c).fr⟩ by simpa[objX] using hx]
   exact ref_ru (by omega) (inhP_ok p1 p3 _))).1⟩
 ·have hz:∀n:Node,nodeE n=0∨n.draw=[]→ -1≤lastC n∧lastC n≤1000000000000:=fun n hn=>by
   unfold lastC
   split
   ·rename_i q
    rcases hn with hn|hn
    ·have ho:=(draw_ok.1 (no_draw hn)).1 _ (getDX_mem (l:=n.draw) (i:=n.draw.length- 1) (by omega))
     unfold opE at ho
     split at ho
     ·cases ho
     ·split at ho
      ·cases ho
      ·omega
    ·rw[hn] at q;exact absurd q (by decide)
   ·omega
  refine hz _ ?_
  unfold nodeF
  split
  ·exact .inr rfl
  ·by_cases q:(findD d.nodes (pickP d b [10,8]) 0).toNat<d.nodes.length
   ·exact .inl (h.gp.vd.node _ (getDX_mem q))
   ·rw[List.getD_eq_getElem?_getD,List.getElem?_eq_none (by omega)];exact .inr rfl
theorem PP.next{s:Int}{k k':Nat}{l:List Node}{o:EOp}(h:PP U s k l)(hkk:k≤k')(hk:o.kind≠0)(h0:oneE l o=0)(hg:GP U (10+4*k') (oneL l o)):PP U s k' (oneL l o):=by
 obtain⟨a,b⟩:=one_ids hk h0
 refine⟨hg,by have:=h.len;omega,fun x hx=> ?_⟩
 obtain⟨n,hn,e⟩:=b x hx
 have:=h.id n hn
 omega
def CR(U:List ByteArray)(s:Int)(k:Nat)(l:List Node)(c:List EOp):Prop:=(∀o∈c,OpL o)∧((∀o∈c,eopE o=0)→RunG (PP U s (k+3)) l c)
theorem CR.nil{s:Int}{k:Nat}{l:List Node}(h:PP U s k l):CR U s k l []:=⟨(fun o ho=>by cases ho),fun _=>h.mono (by omega)⟩
theorem CR.one(hU:UB U){s:Int}{k:Nat}{l:List Node}{o:EOp}(h:PP U s k l)(hk:k≤57)(ho:OpL o)(h0:o.kind≠0)(hn:eopE o=0→oneE l o=0→GP U (10+4*(k+3)) (oneL l o)):CR U s k l [o]:=by
 refine⟨fun x hx=>by rw[List.mem_singleton] at hx;subst hx;exact ho,fun he=> ?_⟩
 have he:=he o (by simp)
 exact run1 hU h hk (oneB_of hU h (by omega) he ho (fun q=>absurd q h0)) (fun q=>h.next (by omega) h0 q (hn he q))
theorem CR.two(hU:UB U){s:Int}{k:Nat}{l:List Node}{n:Node}{o:EOp}(h:PP U s k l)(hk:k≤57)(hg:NG U n)(hz:NZ 10 n)(hid:(∀x∈l,x.id<n.id)∧n.id< (s+1)*65536∧(n.id<4+(k+1:Nat)∨65536≤n.id))
 (ho:OpL o) (h0:o.kind≠0) (hn:∀l',PP U s (k+1) l'→eopE o=0→oneE l' o=0→GP U (10+4*(k+3)) (oneL l' o)):CR U s k l [opN n,o]:=by
 refine⟨fun x hx=> ?_,fun he=> ?_⟩
 ·simp only[List.mem_cons,List.not_mem_nil,or_false] at hx
  rcases hx with rfl|rfl
  ·exact opL_N hU hg hz (by decide)
  ·exact ho
 ·have e1:=he (opN n) (by simp)
  have e2:=he o (by simp)
  refine⟨h.mono (by omega),oneB_of hU h (by omega) e1 (opL_N hU hg hz (by decide)) (fun _=>hid.1),fun q=> ?_⟩
  obtain⟨k1,k2⟩:=keepN h.gp hg (hz.mono (by omega)) (eopE_N e1) hid.1 q
  rw[k1]
  have hp:PP U s (k+1) (l++[n]):=⟨k2.mono (by omega),by have:=h.len;rw[List.length_append,List.length_singleton];omega,fun x hx=>by
   rcases List.mem_append.1 hx with z|z
   ·have:=h.id x z;omega
   ·rw[List.mem_singleton] at z;subst z;exact hid.2⟩
  exact⟨hp.mono (by omega),oneB_of hU hp (by omega) e2 ho (fun z=>absurd z h0),fun q2=>hp.next (by omega) h0 q2 (hn _ hp e2 q2)⟩
theorem cr_type(hU:UB U){s:Int}{k:Nat}{d:Doc}(h:PP U s k d.nodes)(hk:k≤57){S:Sel}{t au:ByteArray}(ht:AscN t)(hl:t.size≤12):CR U s k d.nodes (typeO d S (ascC t) au):=by
 unfold typeO
 split
 ·exact .nil h
 ·rename_i q
  have h0:atE d S au=0:=Classical.byContradiction q
  obtain⟨p1,p2,p3,p4,p5⟩:=pl_facts hU h (by omega) h0
  obtain⟨_,⟨us,hd⟩,e1,e2⟩:=stp_ok hU p1 p2 p3 p4 p5 (es:=typEl (atP d S au) S (ascC t)) (by rw[typEl_len,ascC_len];omega) (typEl_ok p1 p3 (asc_char ht))
  rw[typEl_len,ascC_len] at e2
  exact .one hU h hk (opL_F hU hd) (show(2:Int)≠0 by decide) (fun _ z=>(keepF h.gp hd (q:=12) (by omega) z).mono (by omega))
theorem rstD_ok(hU:UB U){c:List Attr}{f:List Bool}{n:Nat}(hc:VU U true c)(hn:n≤100000000):∃us,DU_ U (rstD c f n) us∧newD (rstD c f n)=oldD (rstD c f n):=by
 have hall:∀u∈(List.range n).map (rstU c f),UU U u:=fun u hu=>by
  obtain⟨i,_,rfl⟩:=List.mem_map.1 hu
  unfold rstU;split
  ·exact hc
  ·exact VU.nil
 have hnum:∀m,oldN ((List.range m).map (rstU c f))=m∧newN ((List.range m).map (rstU c f))=m:=fun m=>by
  induction m with
  |zero=>exact⟨rfl,rfl⟩
  |succ m ih=>
   rw[List.range_succ,List.map_append,oldN_app,newN_app,ih.1,ih.2,List.map_cons,List.map_nil]
   have:oldN [rstU c f m]=1∧newN [rstU c f m]=1:=by unfold rstU;split<;>simp[oldN,newN]
   omega
 have hq:=hnum n
 have e:rstD c f n=doneD ((List.range n).map (rstU c f)):=(tidy_units (fun u hu=>(UU.s hU.len (hall u hu)).ok) (by simp;omega)).1
 have hd:DU_ U (rstD c f n) ((List.range n).map (rstU c f)):=by rw[e];exact .done hU.len hall (by omega) (by omega)
 have hl:=hd.lens
 exact⟨_,hd,by omega⟩
theorem cr_fmt(hU:UB U){s:Int}{k:Nat}{d:Doc}(h:PP U s k d.nodes)(hk:k≤57){S:Sel}{c:List Attr}(hn:∀a∈c,a.name∈U)(w:Int→Bool)(h0:fmtE d S c=0):CR U s k d.nodes (fmtL (atP d S {data:=#[]}) c w):=by
 have h1:atE d S {data:=#[]}=0:=by
  apply Classical.byContradiction;intro q
  rw[fmtE_1 q] at h0;exact q h0
 have h2:chkA true c 0=0:=by rw[fmtE_2 h1] at h0;exact h0
 obtain⟨p1,p2,p3,p4,p5⟩:=pl_facts hU h (by omega) h1
 obtain⟨us,hd,e⟩:=rstD_ok hU (f:=rstF w (atP d S {data:=#[]}).shown (atP d S {data:=#[]}).node.flow.length (atP d S {data:=#[]}).shown.length) (n:=(atP d S {data:=#[]}).node.flow.length) (vu_of (chk_iff.1 h2) hn) (by omega)
 exact .one hU h hk (opL_F hU hd) (show(2:Int)≠0 by decide) (fun _ z=>(keepF h.gp hd (q:=0) (by omega) z).mono (by omega))
theorem cr_obj(hU:UB U){s:Int}(hs:0≤s∧s≤1000){k:Nat}{d:Doc}(h:PP U s k d.nodes)(hk:k≤57){S:Sel}{n:Node}{au:ByteArray}(hg:NG U n)(hz:NZ 10 n):CR U s k d.nodes (objO d S n s au):=by
 unfold objO
 split
 ·exact .nil h
 ·rename_i q
  have h0:objE d S n s au=0:=Classical.byContradiction q
  have h1:atE d S au=0:=by
   apply Classical.byContradiction;intro z
   rw[(obj_1 z).2.2] at h0;exact z h0
  have h2:nextE d s=0:=by
   unfold objE at h0
   rw[if_neg (fun z=>z h1)] at h0
   split at h0
   ·cases h0
   ·split at h0
    ·rename_i z;exact absurd h0 z
    ·rename_i z;exact Classical.byContradiction z
  obtain⟨p1,p2,p3,p4,p5⟩:=pl_facts hU h (by omega) h1
  obtain⟨n1,n2,n3,n4⟩:=next_id hs h h2
  obtain⟨_,⟨us,hd⟩,e1,e2⟩:=stp_ok hU p1 p2 p3 p4 p5 (es:=objX d S s au) (by simp[objX]) (fun x hx=>by
   rw[show x=⟨0,nextN d s,inhP (atP d S au) S.fr⟩ by simpa[objX] using hx]
   exact ref_ru (by omega) (inhP_ok p1 p3 _))
  have e3:(objX d S s au).length=1:=rfl
  exact .two hU h hk ⟨hg.at1,hg.fl,hg.mg,hg.ce,hg.dr,hg.kd⟩ ⟨hz.fl,hz.ce,hz.dr⟩ ⟨n1,n3,n4⟩ (opL_F hU hd) (show(2:Int)≠0 by decide) (fun l' hp _ z=>(keepF hp.gp hd (q:=1) (by omega) z).mono (by omega))
theorem shfL_len(m a n:Int):(shfL m a n).length≤4:=by
 unfold shfL
 split
 ·simp
 ·split
  ·simp
  ·unfold shfX
   have w1:=addS_len 0 a
   have w2:=addS_len 1 n
   have w3:=addS_len 2 (0-n)
   have w4:=addS_len 0 ((m-a)- max 0 (0-n))
   simp only[List.length_append,List.length_nil];omega
theorem cr_grid(hU:UB U){s:Int}{k:Nat}{l:List Node}(h:PP U s k l)(hk:k≤57)(i:Int){r c:List AxStep}(hr:r.length≤4)(hc:c.length≤4):CR U s k l [opG i ⟨r,c,[],[],[]⟩]:=by
 have hl:LiteE ⟨r,c,[],[],[]⟩:=⟨rfl,rfl,(fun c h=>by cases h),by simp⟩
 exact .one hU h hk (opL_G hl (by simp only;omega) (by simp only;omega) (fun c h=>by cases h)) (show(3:Int)≠0 by decide) (fun _ z=>(keepG h.gp hl (fun c h=>by cases h) (by omega) z).mono (by simp;omega))
theorem cr_cell(hU:UB U){s:Int}(hs:0≤s∧s≤1000){k:Nat}{d:Doc}(h:PP U s k d.nodes)(hk:k≤57)(i r c:Int):CR U s k d.nodes (celO d i r c s):=by
 unfold celO
 split
 ·exact .nil h
 ·rename_i q
  have h0:celE d i r c s=0:=Classical.byContradiction fun z=>q (.inl z)
  have hi:¬0≤celI d i r c:=fun z=>q (.inr z)
  have h2:nextE d s=0:=by
   unfold celE at h0
   split at h0
   ·rename_i z;exact absurd h0 z
   split at h0
   ·cases h0
   split at h0
   ·cases h0
   first|exact h0|rwa [if_neg hi] at h0
  obtain⟨n1,n2,n3,n4⟩:=next_id hs h h2
  have hl:LiteE ⟨[],[],[⟨r,c,{data:=#[]},nextN d s,[]⟩],[],[]⟩:=⟨rfl,rfl,fun x hx=>by rw[show x=⟨r,c,{data:=#[]},nextN d s,[]⟩ by simpa using hx];rfl,by simp⟩
  have hc:∀x∈[(⟨r,c,{data:=#[]},nextN d s,[]⟩:Cell)],x.attrs=[]∧x.text.size=0:=fun x hx=>by rw[show x=⟨r,c,{data:=#[]},nextN d s,[]⟩ by simpa using hx];exact⟨rfl,rfl⟩
  exact .two hU h hk ⟨VU.nil,fun x hx=>by rw[show x=⟨10,0,[]⟩ by simpa[celM] using hx];exact ru_end,rfl,(fun x hx=>by cases hx),(fun x hx=>by cases hx),by simp[celM]⟩ ⟨by simp[celM],by simp[celM],by simp[celM]⟩ ⟨n1,n3,n4⟩ (opL_G hl (by simp) (by simp) hc) (show(3:Int)≠0 by decide) (fun l' hp _ z=>(keepG hp.gp hl hc (by omega) z).mono (by simp;omega))
theorem ite_ind{Q:List EOp→Prop}{p:Prop}[Decidable p]{x y:List EOp}(hx:p→Q x)(hy:¬p→Q y):Q (if p then x else y):=by
 split
 ·rename_i h;exact hx h
 ·rename_i h;exact hy h
theorem txt5_small(k:Nat):(txt5.getD k default).size≤12:=by
 refine getD_all (P:=fun t:ByteArray=>t.size≤12) (fun t ht=> ?_) (by decide) k
 simp only[txt5,List.mem_cons,List.not_mem_nil,or_false] at ht
 rcases ht with rfl|rfl|rfl|rfl|rfl<;>decide
theorem getD3{a b c:ByteArray}(ha:a∈U)(hb:b∈U)(hc:c∈U){i:Int}(hi:0≤i∧i≤2):[a,b,c].getD i.toNat default∈U:=by
 obtain⟨j,hj⟩:∃j,i.toNat=j:=⟨_,rfl⟩
 have:j=0∨j=1∨j=2:=by omega
 rw[hj]
 rcases this with rfl|rfl|rfl
 ·exact ha
 ·exact hb
 ·exact hc
theorem one_name{a:Attr}(h:a.name∈U):∀x∈[a],x.name∈U:=fun x hx=>by rw[List.mem_singleton] at hx;subst hx;exact h
theorem ng_tbl(r c:Int):NG U (tblN r c):=⟨VU.nil,(fun x h=>by cases h),rfl,(fun x h=>by cases h),(fun x h=>by cases h),(by decide:(2:Int)≠6)⟩
theorem ng_fld(hN:UN U):NG U (fldN seqA):=
 ⟨vu_of (chk_iff.1 seq_chk) (one_name hN.ki),(fun x h=>by cases h),rfl,(fun x h=>by cases h),(fun x h=>by cases h),(by decide:(5:Int)≠6)⟩
theorem ng_not(hN:UN U)(e:Bool):NG U (notN e):=by
 refine⟨vu_of ?_ (one_name hN.ki),fun x hx=> ?_,rfl,(fun x h=>by cases h),(fun x h=>by cases h),(by decide:(4:Int)≠6)⟩
 ·cases e<;>exact chk_iff.1 (by decide+kernel)
 ·rw[show x=⟨10,0,[]⟩ by simpa[notN] using hx];exact ru_end
theorem nz_of{n:Node}(h1:n.flow.length≤10)(h2:n.grid.cells.length≤10)(h3:n.draw.length≤10):NZ 10 n:=⟨h1,h2,h3⟩
theorem cmd_run(hN:UN U){s:Int}(hs:0≤s∧s≤1000){k:Nat}{d:Doc}(h:PP U s k d.nodes)(hk:k≤57)(a b c:Int):CR U s k d.nodes (cmdP d s a b c):=by
 have hU:=hN.toUB
 have hmt:([]:List EOp)=[]:=rfl
 have fmt:∀(S:Sel) (cs:List Attr) (w:Int→Bool),(∀a∈cs,a.name∈U)→CR U s k d.nodes (if fmtE d S cs≠0 then[] else fmtL (atP d S {data:=#[]}) cs w):=fun S cs w hc=>
  ite_ind (fun _=> .nil h) (fun q=>cr_fmt hU h hk hc w (Classical.byContradiction q))
 unfold cmdP
 refine ite_ind (fun _=>cr_type hU h hk (txt5_asc _) (txt5_small _)) (fun _=>ite_ind (fun _=>cr_type hU h hk asc_mt (by decide)) (fun _=>ite_ind (fun _=>cr_type hU h hk asc_t (by decide)) (fun _=>
  ite_ind (fun _=>fmt _ _ _ (one_name ?_)) (fun _=>ite_ind (fun _=>fmt _ _ _ (one_name ?_)) (fun _=>
  ite_ind (fun _=>cr_obj hU hs h hk (ng_tbl _ _) (nz_of (by simp[tblN]) (by simp[tblN]) (by simp[tblN]))) (fun _=>ite_ind (fun _=>cr_obj hU hs h hk (ng_not hN _) (nz_of (by simp[notN]) (by simp[notN]) (by simp[notN]))) (fun _=>ite_ind (fun _=>cr_obj hU hs h hk (ng_fld hN) (nz_of (by simp[fldN]) (by simp[fldN]) (by simp[fldN]))) (fun _=>
  ite_ind (fun _=>ite_ind (fun _=> .nil h) (fun _=>cr_grid hU h hk _ (shfL_len _ _ _) (by simp))) (fun _=>ite_ind (fun _=>ite_ind (fun _=> .nil h) (fun _=>cr_grid hU h hk _ (by simp) (shfL_len _ _ _))) (fun _=>
  ite_ind (fun _=>cr_cell hU hs h hk _ _ _) (fun _=>ite_ind (fun _=> ?_) (fun _=> ?_))))))))))))
 ·exact getD3 hN.bo hN.si hN.ma (withinI_bd _ (by decide))
 ·exact getD3 hN.he hN.li hN.al (withinI_bd _ (by decide))
 ·refine .one hU h hk (opL_D (by simp)) (show(4:Int)≠0 by decide) (fun e z=>(keepDr h.gp (fun o ho=> ?_) (eopE_D e) z).mono (by simp;omega))
  rw[List.mem_singleton] at ho;subst ho
  exact⟨(by decide:({data:=#[98]}:ByteArray).size≤100),(by decide:mtB.size≤100),(by decide:mtB.size≤100)⟩
 ·exact .one hU h hk (opL_A (by simp)) (show(1:Int)≠0 by decide) (fun e z=>(keepA h.gp (vu_of (chk_iff.1 (eopE_A e)) (one_name hN.ti)) z).mono (by omega))
end Go.Ch
end
section
set_option linter.unusedVariables false
set_option linter.unusedSimpArgs false
namespace Go.Ch
open Go Go.Ab
def UC:List ByteArray:=[addB,cutB,{data:=#[116,105,116,108,101]},{data:=#[98,111,108,100]},{data:=#[115,105,122,101]},{data:=#[109,97,114,107,46,109]},{data:=#[104,101,97,100]},{data:=#[108,105,115,116]},{data:=#[97,108,105,103,110]},kindB]
theorem un_app(V:List ByteArray)(hV:V.length≤90):UN (UC++V):=by
 have h:∀x∈UC,x∈UC++V:=fun x hx=>List.mem_append_left _ hx
 exact⟨⟨by rw[List.length_append];have:UC.length=10:=rfl;omega,h _ (by simp[UC]),h _ (by simp[UC])⟩,h _ (by simp[UC]),h _ (by simp[UC]),h _ (by simp[UC]),h _ (by simp[UC]),h _ (by simp[UC]),h _ (by simp[UC]),h _ (by simp[UC]),h _ (by simp[UC])⟩
theorem app_zero{d:Doc}{c:List EOp}(h:appE d c=0):docE d=0∧eopsE c 0=0∧runE d.nodes c=0∧appD d c=⟨runL d.nodes c⟩:=by
 have h1:docE d=0:=by
  apply Classical.byContradiction;intro q
  rw[(app_1 q).2] at h;exact q h
 have h2:eopsE c 0=0:=by
  apply Classical.byContradiction;intro q
  rw[(app_2 h1 q).2] at h;exact q h
 have h3:runE d.nodes c=0:=(app_r h1 h2).symm.trans h
 exact⟨h1,h2,h3,(app_4 h1 h2 h3 rfl).1⟩
def GK(U:List ByteArray)(s:Int)(k:Nat)(d:Doc):Prop:=k≤57∧PP U s k d.nodes
variable {U:List ByteArray}
theorem app_run(hN:UN U){s:Int}(hs:0≤s∧s≤1000){k:Nat}{d:Doc}(h:GK U s k d)(a b c:Int):AppB d (cmdP d s a b c):=
 have r:=cmd_run hN hs h.2 h.1 a b c
 ⟨h.2.docL hN.toUB (by have:=h.1;omega),r.1,fun _ he=>(r.2 (eops_iff.1 he)).b⟩
theorem app_pp(hN:UN U){s:Int}(hs:0≤s∧s≤1000){k:Nat}{d:Doc}(h:GK U s k d){a b c:Int}(h0:appE d (cmdP d s a b c)=0):RunG (PP U s (k+3)) d.nodes (cmdP d s a b c)∧PP U s (k+3) (appD d (cmdP d s a b c)).nodes:=by
 obtain⟨e1,e2,e3,e4⟩:=app_zero h0
 have r:=(cmd_run hN hs h.2 h.1 a b c).2 (eops_iff.1 e2)
 rw[e4]
 exact⟨r,r.fin e3⟩
theorem ginv_of(hN:UN U){s:Int}(hs:0≤s∧s≤1000):GInv s (GK U s) where
 doc:=fun h=>h.2.docL hN.toUB (by have:=h.1;omega)
 cmd:=fun b c h=>cmdB_of hN.toUB hs h.2 (by have:=h.1;omega) b c
 app:=fun a b c h=>app_run hN hs h a b c
 step:=fun {k d} a b c hk h=>by
  by_cases q:appE d (cmdP d s a b c)=0
  ·rw[stepG_y q];exact⟨by omega,(app_pp hN hs h q).2⟩
  ·rw[stepG_n q];exact⟨by omega,h.2.mono (by omega)⟩
 more:=fun hk h=>⟨by omega,h.2.mono (by omega)⟩
theorem base_gk(hN:UN U):GK U 0 0 baseD:=by
 have hx:∀n∈baseD.nodes,NG U n∧NZ 10 n:=fun n hn=>by
  have hc:∀c:Int,CharP c→c≠0→RU U ⟨c,0,[]⟩:=fun c h1 h2=>char_ru h1 h2 VU.nil
  simp only[baseD,List.mem_cons,List.not_mem_nil,or_false] at hn
  rcases hn with rfl|rfl|rfl
  ·refine⟨⟨VU.nil,fun x hx=> ?_,rfl,(fun x h=>by cases h),(fun x h=>by cases h),(by decide:(0:Int)≠6)⟩,nz_of (by simp) (by simp) (by simp)⟩
   simp only[List.mem_cons,List.not_mem_nil,or_false] at hx
   rcases hx with rfl|rfl<;>exact ref_ru (by omega) VU.nil
  ·refine⟨⟨VU.nil,fun x hx=> ?_,rfl,(fun x h=>by cases h),(fun x h=>by cases h),(by decide:(1:Int)≠6)⟩,nz_of (by simp) (by simp) (by simp)⟩
   simp only[List.mem_cons,List.not_mem_nil,or_false] at hx
   rcases hx with rfl|rfl|rfl|rfl|rfl|rfl<;>exact hc _ (by decide) (by decide)
  ·exact⟨⟨VU.nil,(fun x h=>by cases h),rfl,(fun x h=>by cases h),(fun x h=>by cases h),(by decide:(10:Int)≠6)⟩,nz_of (by simp) (by simp) (by simp)⟩
 refine⟨by omega,⟨doc_iff.1 (by decide+kernel),hx⟩,by decide,fun n hn=> ?_⟩
 simp only[baseD,List.mem_cons,List.not_mem_nil,or_false] at hn
 rcases hn with rfl|rfl|rfl<;>simp
theorem gk_one{k:Nat}{d:Doc}(h:GK U 0 k d):GK U 1 k d:=⟨h.1,h.2.gp,h.2.len,fun n hn=>by have:=h.2.id n hn;omega⟩
structure CI(U:List ByteArray)(s:Int)(l:List Node)(c:List EOp)(d:Doc):Prop where
 run:RunG (PP U s 57) l c
 e:runE l c=0
 l:runL l c=d.nodes
 ok:∀o∈c,eopE o=0∧OpL o
theorem chg_ci(hN:UN U){s:Int}(hs:0≤s∧s≤1000){g:Bool}{raw:List Int}{l:List Node}{k0:Nat}(hk:k0≤38):∀(m:Nat) {k:Nat} {c:List EOp} {d:Doc},raw.length-k=m→k≤17→c.length≤k→GK U s (k0+k) d→CI U s l c d→
 CI U s l (chgD s g raw c d k).1 (chgD s g raw c d k).2∧(chgD s g raw c d k).1.length≤17∧PP U s 57 (chgD s g raw c d k).2.nodes:=by
 intro m
 induction m using Nat.strongRecOn with
 |_ m ih=>
  intro k c d hm h17 hl hg hc
  by_cases h:k+2<raw.length∧k<15
  ·by_cases h2:okC s g d (raw.getD k default) (raw.getD (k+1) default) (raw.getD (k+2) default)=true
   ·rw[chg_y h h2]
    have h0:appE d (cmdP d s (raw.getD k default) (raw.getD (k+1) default) (raw.getD (k+2) default))=0:=by
     unfold okC at h2
     rw[Bool.and_eq_true,decide_eq_true_eq] at h2;exact h2.1
    obtain⟨r1,r2⟩:=app_pp hN hs hg h0
    obtain⟨e1,e2,e3,e4⟩:=app_zero h0
    have hlen:=cmdP_len d s (raw.getD k default) (raw.getD (k+1) default) (raw.getD (k+2) default)
    have hop:=(cmd_run hN hs hg.2 hg.1 (raw.getD k default) (raw.getD (k+1) default) (raw.getD (k+2) default)).1
    refine ih _ (by omega) rfl (by omega) (by rw[List.length_append];omega) ⟨by omega,r2⟩ ⟨hc.run.app (fun _=> ?_),?_,?_,fun o ho=> ?_⟩
    ·rw[hc.l];exact r1.imp (fun l h=>h.mono (by omega))
    ·rw[runE_app,hc.e,if_neg (fun q=>q rfl),hc.l];exact e3
    ·rw[runL_app,hc.l,e4]
    ·rcases List.mem_append.1 ho with q|q
     ·exact hc.ok o q
     ·exact⟨eops_iff.1 e2 o q,hop o q⟩
   ·rw[chg_n h h2]
    exact ih _ (by omega) rfl (by omega) (by omega) ⟨by omega,hg.2.mono (by omega)⟩ hc
  ·rw[chg_end h]
   exact⟨hc,by show c.length≤17;omega,hg.2.mono (by omega)⟩
theorem op999:eopE (opA 999 [])=0:=by decide+kernel
theorem no999{s:Int}{l:List Node}(h:PP U s 57 l):oneE l (opA 999 [])=7:=by
 refine(one_1 (o:=opA 999 []) (show(1:Int)≠0 by decide) ?_).2
 cases q:hasN l (opA 999 []).node with
 |false=>rfl
 |true=>
  obtain⟨n,hn,e⟩:=h.gp.vd.has.1 q
  have h1:=h.id n hn
  have e:n.id=999:=e
  omega
theorem bad_eq(c:List EOp)(n:Nat):badL c n=c.take n++opA 999 []::c.drop n:=by unfold badL;simp
theorem all_ok(hU:UB U){s:Int}{D d:Doc}{c:List EOp}(hD:PP U s 57 D.nodes)(h:CI U s D.nodes c d)(n:Nat):
 AppB D (badL c n)∧AppB D c∧appE D (badL c n)=7∧(appD D (badL c n)).nodes.length=0∧appE D c=0∧appD D c=d:=by
 have hL:=hD.docL hU (by omega)
 have hd:=hD.doc
 have hv:eopsE c 0=0:=eops_iff.2 fun o ho=>(h.ok o ho).1
 have hb:∀o∈badL c n,eopE o=0∧OpL o:=fun o ho=>by
  rw[bad_eq] at ho
  rcases List.mem_append.1 ho with q|q
  ·exact h.ok o (List.mem_of_mem_take q)
  ·rcases List.mem_cons.1 q with rfl|q
   ·exact⟨op999,opL_A (by simp)⟩
   ·exact h.ok o (List.mem_of_mem_drop q)
 have hbv:eopsE (badL c n) 0=0:=eops_iff.2 fun o ho=>(hb o ho).1
 have ht:=runE_take n h.e
 have hp:=(h.run.take n).fin ht
 have h7:=no999 hp
 have hr:RunG (PP U s 57) D.nodes (badL c n):=by
  rw[bad_eq]
  exact(h.run.take n).app (fun _=>⟨hp,oneB_of hU hp (by omega) op999 (opL_A (by simp)) (fun q=>absurd q (by decide)),fun q=>by rw[h7] at q;cases q⟩)
 have he:runE D.nodes (badL c n)=7:=by
  rw[bad_eq,runE_app,ht,if_neg (fun q=>q rfl),runE,h7,if_pos (by decide)]
 have b:=app_3 hd hbv he (by decide)
 have g:=app_4 hd hv h.e h.l
 exact⟨⟨hL,fun o ho=>(hb o ho).2,fun _ _=>hr.b⟩,⟨hL,fun o ho=>(h.ok o ho).2,fun _ _=>h.run.b⟩,b.2,by rw[b.1];rfl,g.2,g.1⟩
end Go.Ch
end
section
set_option linter.unusedVariables false
set_option linter.unusedSimpArgs false
set_option maxRecDepth 100000
set_option maxHeartbeats 4000000
open Go Go.Proofs Go.Ab
namespace Go.Ch
structure Ok36(raw p:List Int)(at_:Int):Prop where
 doc:DocL (grownD 0 raw baseD 0)
 cl:(chgD 1 true p [] (grownD 0 raw baseD 0) 0).1.length≤1000
 a1:AppB (grownD 0 raw baseD 0) (badL (chgD 1 true p [] (grownD 0 raw baseD 0) 0).1 (Int.toNat (withinI at_ 0 ((chgD 1 true p [] (grownD 0 raw baseD 0) 0).1.length:Int))))
 a2:AppB (grownD 0 raw baseD 0) (chgD 1 true p [] (grownD 0 raw baseD 0) 0).1
 e1:appE (grownD 0 raw baseD 0) (badL (chgD 1 true p [] (grownD 0 raw baseD 0) 0).1 (Int.toNat (withinI at_ 0 ((chgD 1 true p [] (grownD 0 raw baseD 0) 0).1.length:Int))))=7
 z1:(appD (grownD 0 raw baseD 0) (badL (chgD 1 true p [] (grownD 0 raw baseD 0) 0).1 (Int.toNat (withinI at_ 0 ((chgD 1 true p [] (grownD 0 raw baseD 0) 0).1.length:Int))))).nodes.length=0
 e2:appE (grownD 0 raw baseD 0) (chgD 1 true p [] (grownD 0 raw baseD 0) 0).1=0
 z2:appD (grownD 0 raw baseD 0) (chgD 1 true p [] (grownD 0 raw baseD 0) 0).1=(chgD 1 true p [] (grownD 0 raw baseD 0) 0).2
 l2:(appD (grownD 0 raw baseD 0) (chgD 1 true p [] (grownD 0 raw baseD 0) 0).1).nodes.length≤1048576
theorem fc_law36(raw p:List Int)(at_:Int)(G G1:Nat→Doc→Prop)(hI:GInv 0 G)(hg:G 0 baseD)(k0:Nat)(hI1:GInv 1 G1)(hk:k0≤38)(hg1:G1 k0 (grownD 0 raw baseD 0))(hx:Ok36 raw p at_):FC Tryz.prog 3 [VL 1 intT raw,VL 1 intT p,VI at_] (app emp []) (VB true) (app emp []):=by
 refine .go Tryz.f3 ?_
 refine .len 0 (fun hl0=> ?_)
 refine .len 1 (fun hl1=> ?_)
 have hD:=hx.doc
 have hDB:=hx.doc.toDocB
 have hcl:=hx.cl
 have hz2:=hx.z2
 have hl2:=hx.l2
 have hl1:=hD.len
 have hw:=withinI_bd at_ (lo:=0) (hi:=((chgD 1 true p [] (grownD 0 raw baseD 0) 0).1.length:Int)) (by omega)
 have e1:(((((((appE ((grownD 0 raw baseD 0)) ((([]++(((chgD 1 true p [] ((grownD 0 raw baseD 0)) 0).1).take (Int.toNat (withinI at_ 0 (((chgD 1 true p [] ((grownD 0 raw baseD 0)) 0).1).length:Int)))))++[({kind:=1,node:=999,nw:=({id:=0,kind:=0,attrs:=[],flow:=[],grid:=({rows:=0,cols:=0,cells:=[],merges:=[]}:Grid),draw:=[]}:Node),attrs:=[],steps:=[],grid:=({rows:=[],cols:=[],cells:=[],split:=[],merge:=[]}:GEd),draw:=[]}:EOp)])++(((chgD 1 true p [] ((grownD 0 raw baseD 0)) 0).1).drop (Int.toNat (withinI at_ 0 (((chgD 1 true p [] ((grownD 0 raw baseD 0)) 0).1).length:Int))))))==7)&&(((((appD ((grownD 0 raw baseD 0)) ((([]++(((chgD 1 true p [] ((grownD 0 raw baseD 0)) 0).1).take (Int.toNat (withinI at_ 0 (((chgD 1 true p [] ((grownD 0 raw baseD 0)) 0).1).length:Int)))))++[({kind:=1,node:=999,nw:=({id:=0,kind:=0,attrs:=[],flow:=[],grid:=({rows:=0,cols:=0,cells:=[],merges:=[]}:Grid),draw:=[]}:Node),attrs:=[],steps:=[],grid:=({rows:=[],cols:=[],cells:=[],split:=[],merge:=[]}:GEd),draw:=[]}:EOp)])++(((chgD 1 true p [] ((grownD 0 raw baseD 0)) 0).1).drop (Int.toNat (withinI at_ 0 (((chgD 1 true p [] ((grownD 0 raw baseD 0)) 0).1).length:Int))))))).nodes).length:Int)==0))&&((appE ((grownD 0 raw baseD 0)) ((chgD 1 true p [] ((grownD 0 raw baseD 0)) 0).1))==0))||false)||false):Bool)=true:=by
  show((((((appE (grownD 0 raw baseD 0) (badL (chgD 1 true p [] (grownD 0 raw baseD 0) 0).1 (Int.toNat (withinI at_ 0 ((chgD 1 true p [] (grownD 0 raw baseD 0) 0).1.length:Int)))))==7)&&(((appD (grownD 0 raw baseD 0) (badL (chgD 1 true p [] (grownD 0 raw baseD 0) 0).1 (Int.toNat (withinI at_ 0 ((chgD 1 true p [] (grownD 0 raw baseD 0) 0).1.length:Int))))).nodes.length:Int)==0))&&(appE (grownD 0 raw baseD 0) (chgD 1 true p [] (grownD 0 raw baseD 0) 0).1==0))||false)||false)=true
  rw[hx.e1,hx.z1,hx.e2];rfl
 exact .finE [.r [],.r [(0,X (Xc0 fc_edits X0))],.f,.r [(1,X (Xc1 32 (fc_start raw G hI hg) X0))],.r [(2,X (Xc1 72 (fc_changes ((grownD 0 raw baseD 0)) 1 p true k0 G1 hI1 hk hg1) X0))],.r [(1,X (Xc1 136 (fc_copyDoc ((grownD 0 raw baseD 0)) (by assumption)) X0))],.r [(2,X (Xl eopT ((chgD 1 true p [] ((grownD 0 raw baseD 0)) 0).1))),(3,X (Xc0 (fc_within at_ 0 (((chgD 1 true p [] ((grownD 0 raw baseD 0)) 0).1).length:Int) (by omega)) X0))],.r [(3,X (Xst eopT 19 ((chgD 1 true p [] ((grownD 0 raw baseD 0)) 0).1) (withinI at_ 0 (((chgD 1 true p [] ((grownD 0 raw baseD 0)) 0).1).length:Int)))),(4,X (XapB 19 eopT 200 [] (((chgD 1 true p [] ((grownD 0 raw baseD 0)) 0).1).take (Int.toNat (withinI at_ 0 (((chgD 1 true p [] ((grownD 0 raw baseD 0)) 0).1).length:Int)))))),(5,X (Xf [(4,2),(5,3),(8,5),(9,4),(10,8),(11,2),(12,4),(13,2),(14,2),(15,5),(16,4),(17,4),(18,8)])),(7,X (rowC eopT [({kind:=1,node:=999,nw:=({id:=0,kind:=0,attrs:=[],flow:=[],grid:=({rows:=0,cols:=0,cells:=[],merges:=[]}:Grid),draw:=[]}:Node),attrs:=[],steps:=[],grid:=({rows:=[],cols:=[],cells:=[],split:=[],merge:=[]}:GEd),draw:=[]}:EOp)] (XapB 19 eopT 200 ([]++(((chgD 1 true p [] ((grownD 0 raw baseD 0)) 0).1).take (Int.toNat (withinI at_ 0 (((chgD 1 true p [] ((grownD 0 raw baseD 0)) 0).1).length:Int))))) [({kind:=1,node:=999,nw:=({id:=0,kind:=0,attrs:=[],flow:=[],grid:=({rows:=0,cols:=0,cells:=[],merges:=[]}:Grid),draw:=[]}:Node),attrs:=[],steps:=[],grid:=({rows:=[],cols:=[],cells:=[],split:=[],merge:=[]}:GEd),draw:=[]}:EOp)]))),(10,X (Xsd eopT 19 ((chgD 1 true p [] ((grownD 0 raw baseD 0)) 0).1) (withinI at_ 0 (((chgD 1 true p [] ((grownD 0 raw baseD 0)) 0).1).length:Int)))),(11,X (XapB 19 eopT 200 (([]++(((chgD 1 true p [] ((grownD 0 raw baseD 0)) 0).1).take (Int.toNat (withinI at_ 0 (((chgD 1 true p [] ((grownD 0 raw baseD 0)) 0).1).length:Int)))))++[({kind:=1,node:=999,nw:=({id:=0,kind:=0,attrs:=[],flow:=[],grid:=({rows:=0,cols:=0,cells:=[],merges:=[]}:Grid),draw:=[]}:Node),attrs:=[],steps:=[],grid:=({rows:=[],cols:=[],cells:=[],split:=[],merge:=[]}:GEd),draw:=[]}:EOp)]) (((chgD 1 true p [] ((grownD 0 raw baseD 0)) 0).1).drop (Int.toNat (withinI at_ 0 (((chgD 1 true p [] ((grownD 0 raw baseD 0)) 0).1).length:Int))))))],.r [(2,X (Xc1 320 (fc_apply ((grownD 0 raw baseD 0)) ((([]++(((chgD 1 true p [] ((grownD 0 raw baseD 0)) 0).1).take (Int.toNat (withinI at_ 0 (((chgD 1 true p [] ((grownD 0 raw baseD 0)) 0).1).length:Int)))))++[({kind:=1,node:=999,nw:=({id:=0,kind:=0,attrs:=[],flow:=[],grid:=({rows:=0,cols:=0,cells:=[],merges:=[]}:Grid),draw:=[]}:Node),attrs:=[],steps:=[],grid:=({rows:=[],cols:=[],cells:=[],split:=[],merge:=[]}:GEd),draw:=[]}:EOp)])++(((chgD 1 true p [] ((grownD 0 raw baseD 0)) 0).1).drop (Int.toNat (withinI at_ 0 (((chgD 1 true p [] ((grownD 0 raw baseD 0)) 0).1).length:Int))))) (by exact hx.a1)) (rowC eopT ((([]++(((chgD 1 true p [] ((grownD 0 raw baseD 0)) 0).1).take (Int.toNat (withinI at_ 0 (((chgD 1 true p [] ((grownD 0 raw baseD 0)) 0).1).length:Int)))))++[({kind:=1,node:=999,nw:=({id:=0,kind:=0,attrs:=[],flow:=[],grid:=({rows:=0,cols:=0,cells:=[],merges:=[]}:Grid),draw:=[]}:Node),attrs:=[],steps:=[],grid:=({rows:=[],cols:=[],cells:=[],split:=[],merge:=[]}:GEd),draw:=[]}:EOp)])++(((chgD 1 true p [] ((grownD 0 raw baseD 0)) 0).1).drop (Int.toNat (withinI at_ 0 (((chgD 1 true p [] ((grownD 0 raw baseD 0)) 0).1).length:Int))))) X0)))],.r [(2,X (Xc1 392 (fc_apply ((grownD 0 raw baseD 0)) ((chgD 1 true p [] ((grownD 0 raw baseD 0)) 0).1) (by exact hx.a2)) X0))],.r [(4,Xv 1 ((appE ((grownD 0 raw baseD 0)) ((([]++(((chgD 1 true p [] ((grownD 0 raw baseD 0)) 0).1).take (Int.toNat (withinI at_ 0 (((chgD 1 true p [] ((grownD 0 raw baseD 0)) 0).1).length:Int)))))++[({kind:=1,node:=999,nw:=({id:=0,kind:=0,attrs:=[],flow:=[],grid:=({rows:=0,cols:=0,cells:=[],merges:=[]}:Grid),draw:=[]}:Node),attrs:=[],steps:=[],grid:=({rows:=[],cols:=[],cells:=[],split:=[],merge:=[]}:GEd),draw:=[]}:EOp)])++(((chgD 1 true p [] ((grownD 0 raw baseD 0)) 0).1).drop (Int.toNat (withinI at_ 0 (((chgD 1 true p [] ((grownD 0 raw baseD 0)) 0).1).length:Int))))))==7) X0),(5,Xv 1 ((appE ((grownD 0 raw baseD 0)) ((([]++(((chgD 1 true p [] ((grownD 0 raw baseD 0)) 0).1).take (Int.toNat (withinI at_ 0 (((chgD 1 true p [] ((grownD 0 raw baseD 0)) 0).1).length:Int)))))++[({kind:=1,node:=999,nw:=({id:=0,kind:=0,attrs:=[],flow:=[],grid:=({rows:=0,cols:=0,cells:=[],merges:=[]}:Grid),draw:=[]}:Node),attrs:=[],steps:=[],grid:=({rows:=[],cols:=[],cells:=[],split:=[],merge:=[]}:GEd),draw:=[]}:EOp)])++(((chgD 1 true p [] ((grownD 0 raw baseD 0)) 0).1).drop (Int.toNat (withinI at_ 0 (((chgD 1 true p [] ((grownD 0 raw baseD 0)) 0).1).length:Int))))))==7) (Xl nodeT (((appD ((grownD 0 raw baseD 0)) ((([]++(((chgD 1 true p [] ((grownD 0 raw baseD 0)) 0).1).take (Int.toNat (withinI at_ 0 (((chgD 1 true p [] ((grownD 0 raw baseD 0)) 0).1).length:Int)))))++[({kind:=1,node:=999,nw:=({id:=0,kind:=0,attrs:=[],flow:=[],grid:=({rows:=0,cols:=0,cells:=[],merges:=[]}:Grid),draw:=[]}:Node),attrs:=[],steps:=[],grid:=({rows:=[],cols:=[],cells:=[],split:=[],merge:=[]}:GEd),draw:=[]}:EOp)])++(((chgD 1 true p [] ((grownD 0 raw baseD 0)) 0).1).drop (Int.toNat (withinI at_ 0 (((chgD 1 true p [] ((grownD 0 raw baseD 0)) 0).1).length:Int))))))).nodes))),(6,Xv 1 ((appE ((grownD 0 raw baseD 0)) ((([]++(((chgD 1 true p [] ((grownD 0 raw baseD 0)) 0).1).take (Int.toNat (withinI at_ 0 (((chgD 1 true p [] ((grownD 0 raw baseD 0)) 0).1).length:Int)))))++[({kind:=1,node:=999,nw:=({id:=0,kind:=0,attrs:=[],flow:=[],grid:=({rows:=0,cols:=0,cells:=[],merges:=[]}:Grid),draw:=[]}:Node),attrs:=[],steps:=[],grid:=({rows:=[],cols:=[],cells:=[],split:=[],merge:=[]}:GEd),draw:=[]}:EOp)])++(((chgD 1 true p [] ((grownD 0 raw baseD 0)) 0).1).drop (Int.toNat (withinI at_ 0 (((chgD 1 true p [] ((grownD 0 raw baseD 0)) 0).1).length:Int))))))==7) X0),(7,X (Xk ((appE ((grownD 0 raw baseD 0)) ((([]++(((chgD 1 true p [] ((grownD 0 raw baseD 0)) 0).1).take (Int.toNat (withinI at_ 0 (((chgD 1 true p [] ((grownD 0 raw baseD 0)) 0).1).length:Int)))))++[({kind:=1,node:=999,nw:=({id:=0,kind:=0,attrs:=[],flow:=[],grid:=({rows:=0,cols:=0,cells:=[],merges:=[]}:Grid),draw:=[]}:Node),attrs:=[],steps:=[],grid:=({rows:=[],cols:=[],cells:=[],split:=[],merge:=[]}:GEd),draw:=[]}:EOp)])++(((chgD 1 true p [] ((grownD 0 raw baseD 0)) 0).1).drop (Int.toNat (withinI at_ 0 (((chgD 1 true p [] ((grownD 0 raw baseD 0)) 0).1).length:Int))))))==7))),(10,Xv 1 (((appE ((grownD 0 raw baseD 0)) ((([]++(((chgD 1 true p [] ((grownD 0 raw baseD 0)) 0).1).take (Int.toNat (withinI at_ 0 (((chgD 1 true p [] ((grownD 0 raw baseD 0)) 0).1).length:Int)))))++[({kind:=1,node:=999,nw:=({id:=0,kind:=0,attrs:=[],flow:=[],grid:=({rows:=0,cols:=0,cells:=[],merges:=[]}:Grid),draw:=[]}:Node),attrs:=[],steps:=[],grid:=({rows:=[],cols:=[],cells:=[],split:=[],merge:=[]}:GEd),draw:=[]}:EOp)])++(((chgD 1 true p [] ((grownD 0 raw baseD 0)) 0).1).drop (Int.toNat (withinI at_ 0 (((chgD 1 true p [] ((grownD 0 raw baseD 0)) 0).1).length:Int))))))==7)&&(((((appD ((grownD 0 raw baseD 0)) ((([]++(((chgD 1 true p [] ((grownD 0 raw baseD 0)) 0).1).take (Int.toNat (withinI at_ 0 (((chgD 1 true p [] ((grownD 0 raw baseD 0)) 0).1).length:Int)))))++[({kind:=1,node:=999,nw:=({id:=0,kind:=0,attrs:=[],flow:=[],grid:=({rows:=0,cols:=0,cells:=[],merges:=[]}:Grid),draw:=[]}:Node),attrs:=[],steps:=[],grid:=({rows:=[],cols:=[],cells:=[],split:=[],merge:=[]}:GEd),draw:=[]}:EOp)])++(((chgD 1 true p [] ((grownD 0 raw baseD 0)) 0).1).drop (Int.toNat (withinI at_ 0 (((chgD 1 true p [] ((grownD 0 raw baseD 0)) 0).1).length:Int))))))).nodes).length:Int)==0)) X0),(11,X (Xk (((appE ((grownD 0 raw baseD 0)) ((([]++(((chgD 1 true p [] ((grownD 0 raw baseD 0)) 0).1).take (Int.toNat (withinI at_ 0 (((chgD 1 true p [] ((grownD 0 raw baseD 0)) 0).1).length:Int)))))++[({kind:=1,node:=999,nw:=({id:=0,kind:=0,attrs:=[],flow:=[],grid:=({rows:=0,cols:=0,cells:=[],merges:=[]}:Grid),draw:=[]}:Node),attrs:=[],steps:=[],grid:=({rows:=[],cols:=[],cells:=[],split:=[],merge:=[]}:GEd),draw:=[]}:EOp)])++(((chgD 1 true p [] ((grownD 0 raw baseD 0)) 0).1).drop (Int.toNat (withinI at_ 0 (((chgD 1 true p [] ((grownD 0 raw baseD 0)) 0).1).length:Int))))))==7)&&(((((appD ((grownD 0 raw baseD 0)) ((([]++(((chgD 1 true p [] ((grownD 0 raw baseD 0)) 0).1).take (Int.toNat (withinI at_ 0 (((chgD 1 true p [] ((grownD 0 raw baseD 0)) 0).1).length:Int)))))++[({kind:=1,node:=999,nw:=({id:=0,kind:=0,attrs:=[],flow:=[],grid:=({rows:=0,cols:=0,cells:=[],merges:=[]}:Grid),draw:=[]}:Node),attrs:=[],steps:=[],grid:=({rows:=[],cols:=[],cells:=[],split:=[],merge:=[]}:GEd),draw:=[]}:EOp)])++(((chgD 1 true p [] ((grownD 0 raw baseD 0)) 0).1).drop (Int.toNat (withinI at_ 0 (((chgD 1 true p [] ((grownD 0 raw baseD 0)) 0).1).length:Int))))))).nodes).length:Int)==0)))),(15,Xv 2 ((((appE ((grownD 0 raw baseD 0)) ((([]++(((chgD 1 true p [] ((grownD 0 raw baseD 0)) 0).1).take (Int.toNat (withinI at_ 0 (((chgD 1 true p [] ((grownD 0 raw baseD 0)) 0).1).length:Int)))))++[({kind:=1,node:=999,nw:=({id:=0,kind:=0,attrs:=[],flow:=[],grid:=({rows:=0,cols:=0,cells:=[],merges:=[]}:Grid),draw:=[]}:Node),attrs:=[],steps:=[],grid:=({rows:=[],cols:=[],cells:=[],split:=[],merge:=[]}:GEd),draw:=[]}:EOp)])++(((chgD 1 true p [] ((grownD 0 raw baseD 0)) 0).1).drop (Int.toNat (withinI at_ 0 (((chgD 1 true p [] ((grownD 0 raw baseD 0)) 0).1).length:Int))))))==7)&&(((((appD ((grownD 0 raw baseD 0)) ((([]++(((chgD 1 true p [] ((grownD 0 raw baseD 0)) 0).1).take (Int.toNat (withinI at_ 0 (((chgD 1 true p [] ((grownD 0 raw baseD 0)) 0).1).length:Int)))))++[({kind:=1,node:=999,nw:=({id:=0,kind:=0,attrs:=[],flow:=[],grid:=({rows:=0,cols:=0,cells:=[],merges:=[]}:Grid),draw:=[]}:Node),attrs:=[],steps:=[],grid:=({rows:=[],cols:=[],cells:=[],split:=[],merge:=[]}:GEd),draw:=[]}:EOp)])++(((chgD 1 true p [] ((grownD 0 raw baseD 0)) 0).1).drop (Int.toNat (withinI at_ 0 (((chgD 1 true p [] ((grownD 0 raw baseD 0)) 0).1).length:Int))))))).nodes).length:Int)==0))&&((appE ((grownD 0 raw baseD 0)) ((chgD 1 true p [] ((grownD 0 raw baseD 0)) 0).1))==0)) (Xc0 (fc_sameD ((appD ((grownD 0 raw baseD 0)) ((chgD 1 true p [] ((grownD 0 raw baseD 0)) 0).1))) ((chgD 1 true p [] ((grownD 0 raw baseD 0)) 0).2) (by first|assumption|rfl) (by assumption)) X0)),(16,X (Xk ((((appE ((grownD 0 raw baseD 0)) ((([]++(((chgD 1 true p [] ((grownD 0 raw baseD 0)) 0).1).take (Int.toNat (withinI at_ 0 (((chgD 1 true p [] ((grownD 0 raw baseD 0)) 0).1).length:Int)))))++[({kind:=1,node:=999,nw:=({id:=0,kind:=0,attrs:=[],flow:=[],grid:=({rows:=0,cols:=0,cells:=[],merges:=[]}:Grid),draw:=[]}:Node),attrs:=[],steps:=[],grid:=({rows:=[],cols:=[],cells:=[],split:=[],merge:=[]}:GEd),draw:=[]}:EOp)])++(((chgD 1 true p [] ((grownD 0 raw baseD 0)) 0).1).drop (Int.toNat (withinI at_ 0 (((chgD 1 true p [] ((grownD 0 raw baseD 0)) 0).1).length:Int))))))==7)&&(((((appD ((grownD 0 raw baseD 0)) ((([]++(((chgD 1 true p [] ((grownD 0 raw baseD 0)) 0).1).take (Int.toNat (withinI at_ 0 (((chgD 1 true p [] ((grownD 0 raw baseD 0)) 0).1).length:Int)))))++[({kind:=1,node:=999,nw:=({id:=0,kind:=0,attrs:=[],flow:=[],grid:=({rows:=0,cols:=0,cells:=[],merges:=[]}:Grid),draw:=[]}:Node),attrs:=[],steps:=[],grid:=({rows:=[],cols:=[],cells:=[],split:=[],merge:=[]}:GEd),draw:=[]}:EOp)])++(((chgD 1 true p [] ((grownD 0 raw baseD 0)) 0).1).drop (Int.toNat (withinI at_ 0 (((chgD 1 true p [] ((grownD 0 raw baseD 0)) 0).1).length:Int))))))).nodes).length:Int)==0))&&((appE ((grownD 0 raw baseD 0)) ((chgD 1 true p [] ((grownD 0 raw baseD 0)) 0).1))==0)))),(20,Xv 2 (((((appE ((grownD 0 raw baseD 0)) ((([]++(((chgD 1 true p [] ((grownD 0 raw baseD 0)) 0).1).take (Int.toNat (withinI at_ 0 (((chgD 1 true p [] ((grownD 0 raw baseD 0)) 0).1).length:Int)))))++[({kind:=1,node:=999,nw:=({id:=0,kind:=0,attrs:=[],flow:=[],grid:=({rows:=0,cols:=0,cells:=[],merges:=[]}:Grid),draw:=[]}:Node),attrs:=[],steps:=[],grid:=({rows:=[],cols:=[],cells:=[],split:=[],merge:=[]}:GEd),draw:=[]}:EOp)])++(((chgD 1 true p [] ((grownD 0 raw baseD 0)) 0).1).drop (Int.toNat (withinI at_ 0 (((chgD 1 true p [] ((grownD 0 raw baseD 0)) 0).1).length:Int))))))==7)&&(((((appD ((grownD 0 raw baseD 0)) ((([]++(((chgD 1 true p [] ((grownD 0 raw baseD 0)) 0).1).take (Int.toNat (withinI at_ 0 (((chgD 1 true p [] ((grownD 0 raw baseD 0)) 0).1).length:Int)))))++[({kind:=1,node:=999,nw:=({id:=0,kind:=0,attrs:=[],flow:=[],grid:=({rows:=0,cols:=0,cells:=[],merges:=[]}:Grid),draw:=[]}:Node),attrs:=[],steps:=[],grid:=({rows:=[],cols:=[],cells:=[],split:=[],merge:=[]}:GEd),draw:=[]}:EOp)])++(((chgD 1 true p [] ((grownD 0 raw baseD 0)) 0).1).drop (Int.toNat (withinI at_ 0 (((chgD 1 true p [] ((grownD 0 raw baseD 0)) 0).1).length:Int))))))).nodes).length:Int)==0))&&((appE ((grownD 0 raw baseD 0)) ((chgD 1 true p [] ((grownD 0 raw baseD 0)) 0).1))==0))||false) (Xc0 (fc_sameD ((grownD 0 raw baseD 0)) (((grownD 0 raw baseD 0))) (by first|assumption|rfl) (by assumption)) X0)),(21,X (Xk (((((appE ((grownD 0 raw baseD 0)) ((([]++(((chgD 1 true p [] ((grownD 0 raw baseD 0)) 0).1).take (Int.toNat (withinI at_ 0 (((chgD 1 true p [] ((grownD 0 raw baseD 0)) 0).1).length:Int)))))++[({kind:=1,node:=999,nw:=({id:=0,kind:=0,attrs:=[],flow:=[],grid:=({rows:=0,cols:=0,cells:=[],merges:=[]}:Grid),draw:=[]}:Node),attrs:=[],steps:=[],grid:=({rows:=[],cols:=[],cells:=[],split:=[],merge:=[]}:GEd),draw:=[]}:EOp)])++(((chgD 1 true p [] ((grownD 0 raw baseD 0)) 0).1).drop (Int.toNat (withinI at_ 0 (((chgD 1 true p [] ((grownD 0 raw baseD 0)) 0).1).length:Int))))))==7)&&(((((appD ((grownD 0 raw baseD 0)) ((([]++(((chgD 1 true p [] ((grownD 0 raw baseD 0)) 0).1).take (Int.toNat (withinI at_ 0 (((chgD 1 true p [] ((grownD 0 raw baseD 0)) 0).1).length:Int)))))++[({kind:=1,node:=999,nw:=({id:=0,kind:=0,attrs:=[],flow:=[],grid:=({rows:=0,cols:=0,cells:=[],merges:=[]}:Grid),draw:=[]}:Node),attrs:=[],steps:=[],grid:=({rows:=[],cols:=[],cells:=[],split:=[],merge:=[]}:GEd),draw:=[]}:EOp)])++(((chgD 1 true p [] ((grownD 0 raw baseD 0)) 0).1).drop (Int.toNat (withinI at_ 0 (((chgD 1 true p [] ((grownD 0 raw baseD 0)) 0).1).length:Int))))))).nodes).length:Int)==0))&&((appE ((grownD 0 raw baseD 0)) ((chgD 1 true p [] ((grownD 0 raw baseD 0)) 0).1))==0))||false)))]] [] (fun z0:Bool=>(VB z0,[])) _ _ e1.symm
theorem fc_all36(raw p:List Int)(at_:Int):FC Tryz.prog 3 [VL 1 intT raw,VL 1 intT p,VI at_] (app emp []) (VB true) (app emp []):=by
 have hN:=un_app [] (by decide)
 have hI:=ginv_of hN (s:=0) (by omega)
 have hI1:=ginv_of hN (s:=1) (by omega)
 have hg:=base_gk hN
 obtain⟨k0,hk,h0⟩:=hI.grown (raw:=raw) _ rfl (by omega) hg
 have hg1:=gk_one h0
 obtain⟨ci,cl,pp⟩:=chg_ci hN (s:=1) (by omega) (g:=true) (raw:=p) (l:=(grownD 0 raw baseD 0).nodes) hk _ (k:=0) (c:=[]) rfl (by omega) (Nat.le_refl _) hg1 ⟨hg1.2.mono (by have:=hg1.1;omega),rfl,rfl,fun o ho=>by cases ho⟩
 obtain⟨a1,a2,a3,a4,a5,a6⟩:=all_ok hN.toUB (hg1.2.mono (by have:=hg1.1;omega)) ci (Int.toNat (withinI at_ 0 ((chgD 1 true p [] (grownD 0 raw baseD 0) 0).1.length:Int)))
 exact fc_law36 raw p at_ _ _ hI hg k0 hI1 hk hg1 ⟨hI1.doc hg1,by omega,a1,a2,a3,a4,a5,a6,by rw[a6];have:=pp.len;omega⟩
end Go.Ch
end
section
set_option linter.unusedVariables false
namespace Go.Ab
open Go Go.Proofs.YtojjoigepejggaaGreatDoor
variable {P:Program} {W:World}
def RdM(P:Program)(t:TypeId)(k:Nat){α:Type}(f:α→Tree)(μ:α→Nat):Prop:=
 (∀a,Elt k (f a))∧P.cellsOf t=k∧∀(H:Type) (enc:TypeId×Value→H) (W:World) (fuel:Nat) (cs:List Value) (x:DataW H×List MemPlace),
  DataW.trod enc P W 0 (fun _=>true) true fuel t cs=some x→∃a:α,CellsR W (f a).cells cs∧μ a≤Rows.uptoBulk x.1
theorem bulk_pos{H:Type}(d:DataW H):1≤Rows.uptoBulk d:=by
 cases d with
 |lit l=>cases l<;>simp[Rows.uptoBulk]
 |_=>simp[Rows.uptoBulk]
theorem RdM.int{t:TypeId}{k:IntKind}(ht:P.underlying t=some (.int k))(hc:P.cellsOf t=1):RdM P t 1 (fun z:Int=> .sc (.int k z)) (fun _=>1):=by
 refine⟨fun _=>elt1,hc,fun H enc W fuel cs x h=> ?_⟩
 obtain⟨n,rfl,_,_⟩:=DataW.trod_int ht h
 exact⟨n,cells1 rfl (.sc _ rfl),bulk_pos _⟩
theorem sum_le{α H:Type}{μ:α→Nat}:∀{l:List α} {es:List (DataW H)},l.length=es.length→(∀(i:Nat) (a:α) (d:DataW H),l[i]? =some a→es[i]? =some d→μ a≤Rows.uptoBulk d)→(l.map μ).sum≤Rows.uptoBulkAll es
 | [],es,_,_=>by simp
 |a::l,[],h,_=>by simp at h
 |a::l,d::es,h,hi=>by
  have h0:=hi 0 a d rfl rfl
  have ih:=sum_le (l:=l) (es:=es) (by simpa using h) (fun i a' d' h1 h2=>hi (i+1) a' d' (by simpa using h1) (by simpa using h2))
  simp only[List.map_cons,List.sum_cons,Rows.uptoBulkAll]
  omega
theorem RdM.slice{t e:TypeId}{k:Nat}{α:Type}{f:α→Tree}{μ:α→Nat}(ht:P.underlying t=some (.slice e))(hk:0<k)(hc:P.cellsOf t=1)(he:RdM P e k f μ):RdM P t 1 (fun l:List α=> .lst k (l.map f)) (fun l=>(l.map μ).sum+1):=by
 obtain⟨h1,h2,h3⟩:=he
 refine⟨fun l=>⟨rfl,fun T hT=>by simp[Tree.cells] at hT;subst hT;rfl⟩,hc,fun H enc W fuel cs x h=> ?_⟩
 have hx:∀l:List α,∀x∈l.map f,Elt k x:=fun l x hx=>by
  obtain⟨a,_,rfl⟩:=List.mem_map.1 hx
  exact h1 a
 rcases DataW.trod_slice ht h with⟨rfl,hx0⟩| ⟨a,len,cap,elems,rest,n,_,rfl,hxe,hb,hl,hm,hlen,hel,_,_⟩
 ·refine⟨[],cells1 rfl (.lst k [] none 0 [] hk (fun x hx=>by simp at hx) (Nat.le_refl _) (by simp[maxLen]) (fun h=>absurd rfl h) (by simp) (fun j T u hT=>by simp[flat] at hT)),?_⟩
  exact bulk_pos _
 ·have key:∀i,i<len→∃y:α,(∃cs',cs'.length=k∧(∀r,r<k→W.cell? (a.add (i*k+r))=cs'[r]?)∧CellsR W (f y).cells cs')∧∀d,(elems.map (·.1))[i]? =some d→μ y≤Rows.uptoBulk d:=by
   intro i hi
   have h4:=hel i hi
   have h5:elems[i]? =some elems[i]:=by rw[List.getElem?_eq_getElem (by omega)]
   rw[h5,h2] at h4
   obtain⟨cs',h6,h7⟩:=Option.bind_eq_some_iff.1 h4
   obtain⟨q1,q2,q3⟩:=World.cells?_some h6
   obtain⟨y,hy,hμ⟩:=h3 H enc W n cs' _ h7
   refine⟨y,⟨cs',q2,fun r hr=> ?_,hy⟩,fun d hd=> ?_⟩
   ·rw[←q3 r hr]
    rw[Addr.add_add]
   ·rw[List.getElem?_map,h5] at hd
    simp only[Option.map_some,Option.some.injEq] at hd
    subst hd;exact hμ
  obtain⟨l,hl1,hl2'⟩:=list_of len _ key
  have hl2:=fun i a h=>(hl2' i a h).1
  have hspot:l≠[]→∃u,W.cell? a=some u:=by
   intro hne
   have h0:0<len:=by rw[←hl1];exact List.length_pos_iff.2 hne
   obtain⟨cs',c1,c2,c3⟩:=hl2 0 l[0] (by rw[List.getElem?_eq_getElem (by omega)])
   have:=c2 0 hk
   simp only[Nat.zero_mul,Nat.add_zero] at this
   rw[List.getElem?_eq_getElem (by omega)] at this
   have e:a.add 0=a:=by simp[Addr.add]
   rw[e] at this
   exact⟨_,this⟩
  refine⟨l,cells1 rfl ?_,?_⟩
  rotate_left
  ·rw[hxe]
   simp only[Rows.uptoBulk]
   have:=sum_le (μ:=μ) (l:=l) (es:=elems.map (·.1)) (by simp[hl1,hlen]) (fun i y d h1 h2=>(hl2' i y h1).2 d h2)
   omega
  have hget:∀j,j<len*k→∃u,W.cell? (a.add j)=some u∧∀T,(flat (l.map f))[j]? =some T→TRep W (fun b=>b<W.heap.size) T u:=by
   intro j hj
   have hi:j/k<len:=Nat.div_lt_of_lt_mul (by rw[Nat.mul_comm];exact hj)
   have hr:j%k<k:=Nat.mod_lt _ hk
   have hji:j=j/k*k+j%k:=by rw[Nat.mul_comm];exact(Nat.div_add_mod j k).symm
   obtain⟨cs',c1,c2,c3⟩:=hl2 (j/k) l[j/k] (by rw[List.getElem?_eq_getElem (by omega)])
   have c4:=c2 (j%k) hr
   rw[←hji,List.getElem?_eq_getElem (by omega)] at c4
   refine⟨_,c4,fun T hT=> ?_⟩
   rw[hji,flat_get (hx l) (i:=j/k) (X:=f l[j/k]) (by simp[List.getElem?_eq_getElem (show j/k<l.length by omega)]) hr] at hT
   exact c3.2 (j%k) T _ hT (by rw[List.getElem?_eq_getElem (by omega)])
  obtain⟨us,hu1,hu2⟩:=list_of (len*k) _ hget
  have hlm:(l.map f).length=len:=by simp[hl1]
  have:=TRep.lst (w:=W) (ok:=fun b=>b<W.heap.size) k (l.map f) (some a) cap us hk (hx l) (by omega) hm (fun hne=> ?_) (by rw[hlm];exact hu1) (fun j T u hT hu=>(hu2 j u hu).2 T hT)
  ·rw[hlm] at this;exact this
  ·obtain⟨u,hu⟩:=hspot (fun e=>hne (by rw[e];rfl))
   have hs:=World.cell?_spot hu
   obtain⟨b,o,sp⟩:=a
   simp only at hs
   subst hs
   refine⟨b,o,rfl,?_,fun j u hj=> ?_⟩
   ·simp only[World.cell?] at hu
    by_cases hb:b<W.heap.size
    ·exact hb
    ·rw[Array.getElem?_eq_none (by omega)] at hu;simp at hu
   ·have:=(hu2 j u hj).1
    rw[add_lit'] at this
    exact this
theorem RdM.arg{t:TypeId}{α:Type}{f:α→Tree}{μ:α→Nat}(h:RdM P t 1 f μ)(h1:∀a,(f a).isCell=true){H:Type}{enc:TypeId×Value→H}{v:Value}{d:DataW H}{ps:List MemPlace}(hd:DataW.Trod enc P W 0 (fun _=>true) true t v d ps)(hv:v.cells.toList=[v]):
 ∃a,TRep W (fun b=>b<W.heap.size) (f a) v∧μ a≤Rows.uptoBulk d:=by
 obtain⟨fuel,hf⟩:=hd
 obtain⟨a,⟨c1,c2⟩,c3⟩:=h.2.2 H enc W fuel _ _ hf
 refine⟨a,c2 0 _ _ ?_ (by rw[hv];rfl),c3⟩
 cases hfa:f a with
 |agg cs=>have:=h1 a;rw[hfa] at this;cases this
 |sc v=>rfl
 |lst k xs=>rfl
end Go.Ab
end
section
set_option linter.unusedVariables false
set_option linter.unusedSimpArgs false
namespace Go.Proofs.YtojjoigepejggaaGreatDoor.frame
open Go Go.Proofs
def chs(l:List Nat):List Char:=l.map Char.ofNat
def w1:List Char:=chs [104,97,114,110,101,115,115]
def w2:List Char:=chs [55,49,48,100,51,52,53,99,53,102,100,100,54,53,49,48,101,98,51,101,49,56,54,100,101,50,53,97,55,101,101,100,102,50,56,98,101,100,51,50,55,97,100,52,97,52,97,57,53,56,55,51,102,98,56,99,54,53,51,98,50,102,99,100]
def w3:List Char:=chs [99,117,116]
def sp:Char:=Char.ofNat 32
theorem ws_sp(r:List Char):wordsSigns (sp::r)=[]::wordsSigns r:=rfl
theorem ws_c(c:Char)(r:List Char)(h:c≠sp):wordsSigns (c::r)=match wordsSigns r with
 |w::ws=>(c::w)::ws
 | []=>[[c]]:=by
 rw[wordsSigns.eq_def]
 split
 ·rename_i e;cases e
 ·rename_i e;simp only[List.cons.injEq] at e;exact absurd e.1 h
 ·rename_i e;simp only[List.cons.injEq] at e;obtain⟨rfl,rfl⟩:=e;rfl
theorem ws_app:∀(a:List Char),(a.all fun c=>c !=sp)=true→∀r,wordsSigns (a++sp::r)=a::wordsSigns r
 | [],_,r=>ws_sp r
 |c::a,h,r=>by
  simp only[List.all_cons,Bool.and_eq_true,bne_iff_ne] at h
  rw[List.cons_append,ws_c _ _ h.1,ws_app a h.2 r]
theorem tl(l:List Char):(String.ofList l).toList=l:=String.toList_ofList
theorem k1:("harness" :String).toList=w1:=tl w1
theorem k2:("cut" :String).toList=w3:=tl w3
theorem k3:("gc" :String).toList=chs [103,99]:=tl (chs [103,99])
theorem k4:("spec" :String).toList=chs [115,112,101,99]:=tl (chs [115,112,101,99])
theorem k5:("carried" :String).toList=chs [99,97,114,114,105,101,100]:=tl (chs [99,97,114,114,105,101,100])
theorem lifts(r:List (List Char)):stripLifts liftWords (w3::r)=([],w3::r):=by
 unfold liftWords
 simp only[stripLifts]
 have key:∀l:List Nat,(w3==chs l)=false→∀(s:String),s=String.ofList (chs l)→(w3==s.toList)=false:=fun l h s e=>by rw[e,tl];exact h
 rw[if_neg (by rw[key [102,105,110,97,108,115] (by kernel_rfl) "finals" rfl];decide)]
 rw[if_neg (by rw[key [114,101,102,108,101,99,116,114,111,119,115] (by kernel_rfl) "reflectrows" rfl];decide)]
 rw[if_neg (by rw[key [108,101,97,110,114,111,119,115] (by kernel_rfl) "leanrows" rfl];decide)]
 rw[if_neg (by rw[key [111,110,101,98,117,105,108,100] (by kernel_rfl) "onebuild" rfl];decide)]
 rw[if_neg (by rw[key [112,117,98,108,105,99,115,117,109,115] (by kernel_rfl) "publicsums" rfl];decide)]
 rw[if_neg (by rw[key [101,113,103,117,97,114,100] (by kernel_rfl) "eqguard" rfl];decide)]
 rw[if_neg (by rw[key [111,119,110,117,110,115,97,102,101] (by kernel_rfl) "ownunsafe" rfl];decide)]
 rw[if_neg (by rw[key [108,105,98,98,101,115,105,100,101] (by kernel_rfl) "libbeside" rfl];decide)]
 rw[if_neg (by rw[key [111,119,110,98,101,115,105,100,101] (by kernel_rfl) "ownbeside" rfl];decide)]
 rw[if_neg (by rw[key [114,101,102,108,98,101,115,105,100,101] (by kernel_rfl) "reflbeside" rfl];decide)]
 rw[if_neg (by rw[key [97,108,105,97,115,101,115] (by kernel_rfl) "aliases" rfl];decide)]
 rw[if_neg (by rw[key [97,102,116,101,114,105,110,105,116] (by kernel_rfl) "afterinit" rfl];decide)]
 rw[if_neg (by rw[key [99,114,99,112,108,97,105,110] (by kernel_rfl) "crcplain" rfl];decide)]
 rw[if_neg (by rw[key [114,111,97,100,117,110,115,97,102,101] (by kernel_rfl) "roadunsafe" rfl];decide)]
 rw[if_neg (by rw[key [102,109,116,104,97,110,100,111,110] (by kernel_rfl) "fmthandon" rfl];decide)]
theorem words{P:Program}{rest:List Char}(h:P.initOrder.toList=w1++sp::(w2++sp::(w3++sp::rest))):behindMainWord (wordsSigns P.initOrder.toList)=w3::wordsSigns rest:=by
 rw[h,ws_app w1 (by kernel_rfl),ws_app w2 (by kernel_rfl),ws_app w3 (by kernel_rfl)]
 unfold behindMainWord
 rw[k1]
 exact if_pos (by kernel_rfl)
theorem may{P:Program}{rest:List Char}(h:P.initOrder.toList=w1++sp::(w2++sp::(w3++sp::rest)))(hl:P.laysLater=false)(hb:P.bearsReflect=false)(hd:P.doorFits []=true):P.mayEnter=true:=by
 unfold Program.mayEnter
 rw[words h]
 simp only[lifts,k2,k3,k4,k5,hl,hb,hd]
 have h1:(w3==chs [103,99])=false:=by kernel_rfl
 have h2:(w3==chs [115,112,101,99])=false:=by kernel_rfl
 have h3:(w3==chs [99,97,114,114,105,101,100])=false:=by kernel_rfl
 rw[h1,h2,h3]
 simp
theorem fin{P:Program}{rest:List Char}(h:P.initOrder.toList=w1++sp::(w2++sp::(w3++sp::rest))):P.liftsFinal=false:=by
 unfold Program.liftsFinal Program.headLifts
 rw[words h]
 simp only[lifts,k2,k5]
 have h3:(w3==chs [99,97,114,114,105,101,100])=false:=by kernel_rfl
 simp[h3]
theorem mk{P:Program}{rest:List Char}(h:P.initOrder.toList=w1++sp::(w2++sp::(w3++sp::rest))):P.make=some .cut:=by
 unfold Program.make
 rw[words h]
 simp only[k2,k3,k4,k5]
 have h1:(w3==chs [103,99])=false:=by kernel_rfl
 have h2:(w3==chs [115,112,101,99])=false:=by kernel_rfl
 rw[h1,h2]
 simp
theorem head:Tryz.pinned.checked.prog.initOrder=String.ofList (w1++sp::(w2++sp::(w3++sp::chs [97,116,32,99,104,97,110,99,101,114,121,47,99,104,97,110,99,101,114,121,107,101,101,112,49,46,69,100,105,116,65,108,108,79,114,78,111,116,104,105,110,103]))):=by kernel_rfl
set_option maxRecDepth 100000 in
theorem headL:Tryz.pinned.checked.prog.initOrder.toList=w1++sp::(w2++sp::(w3++sp::chs [97,116,32,99,104,97,110,99,101,114,121,47,99,104,97,110,99,101,114,121,107,101,101,112,49,46,69,100,105,116,65,108,108,79,114,78,111,116,104,105,110,103])):=by rw[head,tl]
theorem later:Tryz.pinned.checked.prog.laysLater=false:=by kernel_rfl
theorem refl:Tryz.pinned.checked.prog.bearsReflect=false:=by kernel_rfl
theorem door:Tryz.pinned.checked.prog.doorFits []=true:=by kernel_rfl
theorem mayEnter:Tryz.pinned.checked.prog.mayEnter=true:=may headL later refl door
theorem made:Tryz.pinned.checked.prog.make=some .cut:=mk headL
theorem laid:laidOutB Tryz.pinned.checked.prog=true:=by kernel_rfl
theorem rowed:mapsRowed Tryz.pinned.checked.prog=true:=by kernel_rfl
theorem noStops:Tryz.pinned.checked.prog.stops=[]:=by kernel_rfl
theorem noKnobs:Tryz.pinned.checked.prog.stopKnobs=[]:=by kernel_rfl
theorem heard:Tryz.pinned.checked.prog.stopsHeard=true:=by kernel_rfl
theorem keys:Tryz.pinned.checked.prog.plainKeys=true:=by kernel_rfl
theorem liftsNo:Tryz.pinned.checked.prog.liftsFinal=false:=fin headL
end Go.Proofs.YtojjoigepejggaaGreatDoor.frame
end
section
namespace Go.Proofs
open Go.Shelf
def Tryz.lays260_ren:Go.Shelf.Ren:=⟨fun|260=>170|n=>n,fun|9=>9|21=>21|3=>3|4=>4|5=>5|119=>286|0=>0|46=>189|139=>289|138=>288|n=>n,fun|3=>0|4=>1|n=>n⟩
theorem Tryz.lays260:Go.Proofs.Lays.n260 Tryz.prog Tryz.lays260_ren:={
 mixed:=by kernel_rfl
 f260:=Tryz.func170.trans (congrArg some (by kernel_rfl))
 t0:=Tryz.underlying0
 a0:=Tryz.isAgg0
 z0:=Tryz.sizeOf0
 v0:=Tryz.zeroValue0
 t3:=Tryz.underlying3
 a3:=Tryz.isAgg3
 z3:=Tryz.sizeOf3
 v3:=Tryz.zeroValue3
 t4:=Tryz.underlying4
 a4:=Tryz.isAgg4
 z4:=Tryz.sizeOf4
 v4:=Tryz.zeroValue4
 t5:=Tryz.underlying5
 a5:=Tryz.isAgg5
 z5:=Tryz.sizeOf5
 v5:=Tryz.zeroValue5
 t9:=Tryz.underlying9
 a9:=Tryz.isAgg9
 z9:=Tryz.sizeOf9
 v9:=Tryz.zeroValue9
 t21:=Tryz.underlying21
 a21:=Tryz.isAgg21
 z21:=Tryz.sizeOf21
 v21:=Tryz.zeroValue21
 t46:=Tryz.underlying189
 a46:=Tryz.isAgg189
 z46:=Tryz.sizeOf189
 v46:=Tryz.zeroValue189
 t119:=Tryz.underlying286
 a119:=Tryz.isAgg286
 z119:=Tryz.sizeOf286
 t138:=Tryz.underlying288
 a138:=Tryz.isAgg288
 z138:=Tryz.sizeOf288
 v138:=Tryz.zeroValue288
 t139:=Tryz.underlying289
 a139:=Tryz.isAgg289
 z139:=Tryz.sizeOf289
 v139:=Tryz.zeroValue289
 g3:=by kernel_rfl
 g4:=by kernel_rfl}
end Go.Proofs
end
