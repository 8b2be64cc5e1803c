/- slices.Insert at nodes. -/
import Derived.Test.YtipofpnmgbaopaaGreatDoorM9
set_option linter.unusedVariables false
set_option linter.unusedSimpArgs false
section
namespace Go.Ab
open Go Go.Proofs Go.RowKit Go.Shelf Go.Lib
theorem z53{P:Program}(k:Nat)(w:World)(dT sT ty elem:TypeId)(b o EL S4:Nat)(a:Addr)(EM S5:Nat)(cs:List Value)
 (hu:P.underlying dT=some (.slice elem)) (hs:∀w,(Go.sizeOf elem).run P w= .ok k w) (hn:cs.length=Nat.min EM EL*k)
 (sy:∀j v,cs[j]? =some v->w.cell? (a.add j)=some v) (hc:∀j,j<cs.length->(w.cell? ⟨b,o+j,none⟩).isSome=true) (hf:∀j,j<cs.length->w.frozen? ⟨b,o+j,none⟩=false) (h1:∀v∈cs,v.oneCell'=true):
 (Builtin.copy_ #[dT,sT] ty #[.slice (some ⟨b,o,none⟩) EL S4,.slice (some a) EM S5]).run P w= .ok (goInt (Nat.min EM EL)) (w.setCells b o cs):=by
 have hl:=run_loadCells_list (P:=P) w a cs sy;have bH:=run_storeCells_cells (P:=P) b o cs 0 w (by simpa using hc) (by simpa using hf) h1;simp[Builtin.copy_,run_underlying hu,Builtin.lenOf,Builtin.firstCells,hs,<-hn,hl,bH]
set_option maxHeartbeats 4000000 in
set_option maxRecDepth 100000 in
theorem y4P(b n c i vb vc:Nat)(cs vs:List Value)(w:World)(hi:i<n)(iH:n+1<=c)(w3a:c<=9223372036854775807)(Ko:vb≠b)
 (kV:cs.length=n*9) (lT:vs.length=9)
 (mh:∀j v,cs[j]? =some v->w.cell? ⟨b,j,none⟩=some v) (S6:∀j,j< (n+1)*9->(w.cell? ⟨b,j,none⟩).isSome=true) (PC:∀j,j< (n+1)*9->w.frozen? ⟨b,j,none⟩=false)
 (kW:∀j v,vs[j]? =some v->w.cell? ⟨vb,j,none⟩=some v) (vW:∀v∈cs,v.oneCell'=true) (xM:∀v∈vs,v.oneCell'=true)
 (tA tB:TypeId) (kA kB:Nat) (hsa:w.shape? vb=some (tA,kA)) (hsb:w.shape? b=some (tB,kB)) (hkB:kB≠0) (Qd:w.frozen? ⟨vb,0,none⟩=false) (hfe:w.frozen? ⟨vb,kA,none⟩=false):
 Calls Tryz.prog 101 #[.slice (some ⟨b,0,none⟩) n c,.int .i64 i,.slice (some ⟨vb,0,none⟩) 1 vc] w fun e w'=>
  e= .returned (.slice (some ⟨b,0,none⟩) (n+1) c)/\w'=(w.drew.setCells b ((i+1)*9) (cs.drop (i*9))).setCells b (i*9) vs:=by
 have Da:¬((i:Int)=(n:Int)):=oM;have hov:∀lb cb,(callFunc 163 #[.slice (some ⟨vb,0,none⟩) 1 vc,.slice (some ⟨b,(i+1)*9,none⟩) lb cb]).run Tryz.prog w= .ok (.value (.bool false)) w:=fun lb cb=>by
  rw[run_callFunc_extern Tryz.func163 (by kernel_rfl) (by kernel_rfl) (by kernel_rfl) (e:=Extern.SlicesOverlaps.overlaps #[24,24] #[4]) (by kernel_rfl),
   Lib.run_overlaps_apart w 24 4 45 Tryz.underlying24 9 Tryz.sizeOf45 ⟨vb,0,none⟩ ⟨b,(i+1)*9,none⟩ 1 vc lb cb Ko tA tB kA kB hsa hsb hkB Qd hfe]
  rfl
 have fO:(cs.drop (i*9)).length=(n-i)*9:=by rw[qT,kV];omega
 have hw1:IntKind.i64.wrap ((i:Int)+1)=(i:Int)+1:=by rw[IntKind.wrap_i64];omega
 have Fz:(0:Int)<=(i:Int)+1:=oM;have u6:i<=n:=oM;have htn:((i:Int)+1).toNat=i+1:=oM;have xT:¬(c=i+1):=oM;have hb3:(i:Int)<=(n:Int)+1:=oM;have hb4:¬(c=i):=oM;have JI:∀ty dc sc,(Builtin.copy_ #[24,24] ty #[.slice (some ⟨b,(i+1)*9,none⟩) (n-i) dc,.slice (some ⟨b,i*9,none⟩) (n+1-i) sc]).run Tryz.prog w.drew= .ok (goInt (Nat.min (n+1-i) (n-i))) (w.drew.setCells b ((i+1)*9) (cs.drop (i*9))):=fun ty dc sc=>
  z53 9 w.drew _ _ ty 45 b ((i+1)*9) (n-i) dc ⟨b,i*9,none⟩ (n+1-i) sc (cs.drop (i*9)) Tryz.underlying24 Tryz.sizeOf45 (by rw[fO];simp only[Nat.min_def];split<;>omega)
   (fun j v hj=>by rw[Addr.add_lit];exact mh (i*9+j) v (by rwa [qQ] at hj))
   (fun j hj=>S6 _ (by rw[fO] at hj;omega)) (fun j hj=>PC _ (by rw[fO] at hj;omega)) (fun v hv=>vW v (qE hv))
 obtain⟨W1,xy⟩:∃W1,W1=w.drew.setCells b ((i+1)*9) (cs.drop (i*9)):=⟨_,rfl⟩
 have S7:∀k,k< (n+1)*9->(W1.cell? ⟨b,k,none⟩).isSome=true:=fun k hk=>by
  rw[xy];exact isSome_setCells b (cs.drop (i*9)) ((i+1)*9) w.drew (fun j hj=>S6 _ (by rw[fO] at hj;omega)) k (S6 k hk)
 have S8:∀(W:World),(∀x,W.cell? x=W1.cell? x)->(∀x,W.frozen? x=W1.frozen? x)->∀ty dc,(Builtin.copy_ #[24,24] ty #[.slice (some ⟨b,i*9,none⟩) (n+1-i) dc,.slice (some ⟨vb,0,none⟩) 1 vc]).run Tryz.prog W= .ok (goInt (Nat.min 1 (n+1-i))) (W.setCells b (i*9) vs):=fun W De JJ ty dc=>
  z53 9 W _ _ ty 45 b (i*9) (n+1-i) dc ⟨vb,0,none⟩ 1 vc vs Tryz.underlying24 Tryz.sizeOf45 (by rw[lT];simp only[Nat.min_def];split<;>omega)
   (fun j v hj=>by
    rw[Addr.add_lit,De,xy,World.cell?_setCells_out b _ _ _ _ (fun h _=>absurd h Ko)];rw[zw];exact kW j v hj)
   (fun j hj=>by rw[De];exact S7 _ (by rw[lT] at hj;omega)) (fun j hj=>by rw[JJ,xy,World.frozen?_setCells];exact PC _ (by rw[lT] at hj;omega)) xM
 rw[<-xy] at JI;have mixed:Tryz.prog.follows .mixedOrders=true:=by kernel_rfl
 go_enter Tryz.func101,Tryz.ntmps101
 go_wp2_with (simp only[hov])
 go_region_law_o (refine step_copy_runI rfl _ _ 24 24 rfl _ _ (by simp[Act.eval,Act.put]) (by simp[Act.eval,Act.put]) (JI _ _ _) ?_)
 go_wp2_with (at_builtin;refine wpList_copy_runI _ rfl _ _ 24 24 rfl _ _ rfl rfl (S8 _ (fun _=>rfl) (fun _=>rfl) _ _) ?_)
 go_ret
 first|exact⟨rfl,rfl⟩|exact⟨rfl,by rw[xy]⟩
def tw:Value:= .agg #[.int .i64 0,.int .i64 0,.slice none 0 0,.slice none 0 0,.int .i64 0,.int .i64 0,.slice none 0 0,.slice none 0 0,.slice none 0 0]
theorem x29:(Tryz.prog.info? 45).map (fun i=>(i.zero,i.size,i.bytes))=some (some tw,9,152):=by kernel_rfl
set_option maxHeartbeats 4000000 in
set_option maxRecDepth 100000 in
theorem y57(b n c i vb vc:Nat)(cs vs:List Value)(w:World)(hi:i<n)(hnc:n<=c)(iH:c<n+1)(fI:(n+1)*152<=140737488355328)
 (kV:cs.length=n*9) (lT:vs.length=9)
 (mh:∀j v,cs[j]? =some v->w.cell? ⟨b,j,none⟩=some v)
 (kW:∀j v,vs[j]? =some v->w.cell? ⟨vb,j,none⟩=some v) (vW:∀v∈cs,v.oneCell'=true) (xM:∀v∈vs,v.oneCell'=true):
 Calls Tryz.prog 101 #[.slice (some ⟨b,0,none⟩) n c,.int .i64 i,.slice (some ⟨vb,0,none⟩) 1 vc] w fun e w'=>
  e= .returned (.slice (some ⟨w.heap.size,0,none⟩) (n+1) (grownCap w (n+1) c 45))/\
  w'=(((w.alloc (.cells ((cs.take (i*9)).toArray++Builtin.zeroCells tw.cells (n+1-i)++Builtin.zeroCells tw.cells (grownCap w (n+1) c 45- (n+1))) 45)).drew.setCells w.heap.size (i*9) vs).drew).setCells w.heap.size ((i+1)*9) (cs.drop (i*9)):=by
 have mixed:Tryz.prog.follows .mixedOrders=true:=by kernel_rfl
 obtain⟨i0,hi0,G0,rQ,hzb⟩:=info_parts x29;have Da:¬((i:Int)=(n:Int)):=oM;have hz3:(c:Int)< (n:Int)+1:=oM;have hbw:b<w.heap.size:=block_lt_of_cell (mh 0 _ (qa oM));have Um:vb<w.heap.size:=block_lt_of_cell (kW 0 _ (qa oM));have tu:(n:Int)+1- (i:Int)=((n+1-i:Nat):Int):=oM;have xI:i+(n+1-i)=n+1:=oM;have hold:(Builtin.firstCells i0.size i (.slice (some ⟨b,0,none⟩) i c)).run Tryz.prog w.drew= .ok (cs.take (i*9)).toArray w.drew:=by
  rw[rQ];exact run_firstCells_some w.drew 9 i ⟨b,0,none⟩ i c (cs.take (i*9)) (by rw[qz];omega) (fun j v hj=>by
   rw[Addr.add_lit];rw[qB] at hj;split at hj
   ·rw[zw];exact mh j v hj
   cases hj)
 have Nb:∀ty,(Builtin.append_ #[24,3] ty #[.slice (some ⟨b,0,none⟩) i c,.int .i64 ((n:Int)+1- (i:Int))]).run Tryz.prog w=
  .ok (.slice (some ⟨w.heap.size,0,none⟩) (n+1) (grownCap w (n+1) c 45)) (w.drew.alloc (.cells ((cs.take (i*9)).toArray++Builtin.zeroCells tw.cells (n+1-i)++Builtin.zeroCells tw.cells (grownCap w (n+1) c 45- (n+1))) 45)):=fun ty=>by
  have h:=Lib.run_append_grow_zeros w 24 3 ty 45 i0 _ .i64 .i64 Tryz.underlying24 Tryz.underlying3 hi0 G0 (some ⟨b,0,none⟩) i c (cs.take (i*9)) hold (n+1-i) oM oM oM oM (by rw[hzb];omega) (by rw[hzb,xI];exact growslice_fits iH fI);rw[xI] at h;rw[tu];exact h
 obtain⟨G,hG⟩:∃G,G=grownCap w (n+1) c 45:=⟨_,rfl⟩
 obtain⟨vJ,EO⟩:∃vJ:Array Value,vJ=(cs.take (i*9)).toArray++Builtin.zeroCells tw.cells (n+1-i)++Builtin.zeroCells tw.cells (G- (n+1)):=⟨_,rfl⟩
 rw[<-hG] at Nb|-;rw[<-EO] at Nb|-;have HA:∀k,(Builtin.zeroCells tw.cells k).size=k*9:=fun k=>by simp[Builtin.zeroCells,tw,Value.cells]
 have Kr:(n+1)*9<=vJ.size:=by
  rw[EO,Array.size_append,Array.size_append,HA,HA,zN,qz,kV];omega
 obtain⟨W1,xy⟩:∃W1,W1=w.drew.alloc (.cells vJ 45):=⟨_,rfl⟩
 rw[<-xy] at Nb;have hN:∀j,j< (n+1)*9->(W1.cell? ⟨w.heap.size,j,none⟩).isSome=true:=fun j hj=>by
  rw[xy,World.cell?_alloc_at (w:=w.drew) vJ _ w.heap.size j rfl,zD oM];rfl
 have hNf:∀j,W1.frozen? ⟨w.heap.size,j,none⟩=false:=fun j=>by rw[xy];exact World.frozen?_alloc_at (w:=w.drew) vJ _ w.heap.size j rfl
 have hOb:∀j v,w.cell? ⟨b,j,none⟩=some v->W1.cell? ⟨b,j,none⟩=some v:=fun j v h=>by rw[xy,World.cell?_alloc_past (w:=w.drew) _ b j hbw];exact h
 have hOv:∀j v,w.cell? ⟨vb,j,none⟩=some v->W1.cell? ⟨vb,j,none⟩=some v:=fun j v h=>by rw[xy,World.cell?_alloc_past (w:=w.drew) _ vb j Um];exact h
 have S9:∀(W:World),(∀x,W.cell? x=W1.cell? x)->(∀x,W.frozen? x=W1.frozen? x)->∀ty dc,(Builtin.copy_ #[24,24] ty #[.slice (some ⟨w.heap.size,i*9,none⟩) (n+1-i) dc,.slice (some ⟨vb,0,none⟩) 1 vc]).run Tryz.prog W= .ok (goInt (Nat.min 1 (n+1-i))) (W.setCells w.heap.size (i*9) vs):=fun W De JJ ty dc=>
  z53 9 W _ _ ty 45 w.heap.size (i*9) (n+1-i) dc ⟨vb,0,none⟩ 1 vc vs Tryz.underlying24 Tryz.sizeOf45 (by rw[lT];simp only[Nat.min_def];split<;>omega)
   (fun j v hj=>by rw[Addr.add_lit,De,zw];exact hOv _ v (kW j v hj))
   (fun j hj=>by rw[De];exact hN _ (by rw[lT] at hj;omega)) (fun j hj=>by rw[JJ];exact hNf _) xM
 have Un:n+1<=G:=by rw[hG];exact grownCap_ge w _ _ _
 have w3b:G<=9223372036854775807:=by
  have:=grownCap_le_maxLen w (n+1) c 45 (by unfold maxLen;omega);rw[<-hG] at this;unfold maxLen at this;omega
 have hGi:¬(G=i):=oM;have w3c:¬(G=i+1):=oM;have hci:¬(c=i):=oM;have hbN:b≠w.heap.size:=oM;have fO:(cs.drop (i*9)).length=(n-i)*9:=by rw[qT,kV];omega
 have JK:∀(W:World),(∀x,W.cell? x=(W1.setCells w.heap.size (i*9) vs).cell? x)->(∀x,W.frozen? x=(W1.setCells w.heap.size (i*9) vs).frozen? x)->∀ty dc sc,(Builtin.copy_ #[24,24] ty #[.slice (some ⟨w.heap.size,(i+1)*9,none⟩) (n-i) dc,.slice (some ⟨b,i*9,none⟩) (n-i) sc]).run Tryz.prog W= .ok (goInt (Nat.min (n-i) (n-i))) (W.setCells w.heap.size ((i+1)*9) (cs.drop (i*9))):=fun W De JJ ty dc sc=>
  z53 9 W _ _ ty 45 w.heap.size ((i+1)*9) (n-i) dc ⟨b,i*9,none⟩ (n-i) sc (cs.drop (i*9)) Tryz.underlying24 Tryz.sizeOf45 (by rw[fO];simp only[Nat.min_def];split<;>omega)
   (fun j v hj=>by
    rw[Addr.add_lit,De,World.cell?_setCells_out _ _ _ _ _ (fun h _=>absurd h hbN)];exact hOb _ v (mh (i*9+j) v (by rwa [qQ] at hj)))
   (fun j hj=>by rw[De];exact isSome_setCells _ _ _ _ (fun t ht=>hN _ (by rw[lT] at ht;omega)) _ (hN _ (by rw[fO] at hj;omega)))
   (fun j hj=>by rw[JJ,World.frozen?_setCells];exact hNf _) (fun v hv=>vW v (qE hv))
 subst xy;have Y0:∀x,((w.alloc (.cells vJ 45)).drew).cell? x=(w.drew.alloc (.cells vJ 45)).cell? x:=fun x=>rfl
 have Y1:∀x,((w.alloc (.cells vJ 45)).drew).frozen? x=(w.drew.alloc (.cells vJ 45)).frozen? x:=fun x=>rfl
 have hF1:∀x,(((w.alloc (.cells vJ 45)).drew.setCells w.heap.size (i*9) vs).drew).cell? x=((w.drew.alloc (.cells vJ 45)).setCells w.heap.size (i*9) vs).cell? x:=fun x=>rfl
 have hF2:∀x,(((w.alloc (.cells vJ 45)).drew.setCells w.heap.size (i*9) vs).drew).frozen? x=((w.drew.alloc (.cells vJ 45)).setCells w.heap.size (i*9) vs).frozen? x:=fun x=>rfl
 have hw1:IntKind.i64.wrap ((i:Int)+1)=(i:Int)+1:=by rw[IntKind.wrap_i64];omega
 have Fz:(0:Int)<=(i:Int)+1:=oM;have u6:i<=n:=oM;have htn:((i:Int)+1).toNat=i+1:=oM;have hb3:(i:Int)<=(n:Int):=oM;clear tu xI hold EO hG Kr
 go_enter Tryz.func101,Tryz.ntmps101
 go_wp2_with (first
  | (at_builtin;refine Lib.wpList_append_run _ rfl _ _ _ _ rfl _ _ rfl rfl _ _ (Nb _) ?_)
  | (at_builtin;refine wpList_copy_runI _ rfl _ _ 24 24 rfl _ _ rfl rfl (S9 _ Y0 Y1 _ _) ?_)
  | (at_builtin;refine wpList_copy_runI _ rfl _ _ 24 24 rfl _ _ rfl rfl (JK _ (fun _=>rfl) (fun _=>rfl) _ _ _) ?_))
 go_region_law_o (refine step_copy_runI rfl _ _ 24 24 rfl (.slice (some ⟨w.heap.size,(i+1)*9,none⟩) (n-i) (G- (i+1))) (.slice (some ⟨b,i*9,none⟩) (n-i) (c-i)) (by simp[Act.eval,Act.put]) (by simp[Act.eval,Act.put]) (JK _ hF1 hF2 3 (G- (i+1)) (c-i)) ?_)
 go_wp2
 go_ret
 exact⟨rfl,rfl⟩
end Go.Ab
end
section
namespace Go.Ch
open Go Go.Proofs Go.Ab Go.RowKit Go.Shelf Go.Sort

end Go.Ch
end
