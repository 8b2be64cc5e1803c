/- Parts of the proof: ChDelta13, ChDelta16, EdTrack, EdSel, EdSel2, EdSel3, EdType, EditObj, EdObj, EdGrd. -/
import Derived.Test.YtlgmgpnjkadhfaaGreatDoorM1
import Derived.Test.YtlgmgpnjkadhfaaGreatDoorM2
import Derived.Test.YtlgmgpnjkadhfaaGreatDoorM3
import Derived.Test.YtlgmgpnjkadhfaaGreatDoorM4
import Derived.Test.YtlgmgpnjkadhfaaGreatDoorM5
import Derived.Test.YtlgmgpnjkadhfaaGreatDoorM6
import Derived.Test.YtlgmgpnjkadhfaaGreatDoorM7
section
set_option linter.unusedVariables false
set_option linter.unusedSimpArgs false
set_option maxRecDepth 100000
set_option maxHeartbeats 4000000
open Go Go.Proofs Go.Ab
namespace Go.Ch
theorem y1x(a b:List DStep)(va:z0W a)(vb:z0W b)(da:DN 100000000000 a)(db:DN 100000000000 b)(hm:oldD a=oldD b)(hs:newD a+newD b≤2147483647):FC Tryz.prog 70 [VL 4 z0c a,VL 4 z0c b] (app emp []) (.tup [VL 4 z0c (z1h a b),VL 4 z0c (z4Z a b),VI 0]) (app emp []):=by
 refine .go Tryz.f70 ?_
 refine .len 0 (fun hl0=> ?_)
 refine .len 1 (fun hl1=> ?_)
 have ca:=z0S.2 va
 have cb:=z0S.2 vb
 have da4:=da.mono (n:=400000000000) (by decide)
 have db4:=db.mono (n:=400000000000) (by decide)
 obtain⟨_,_,st,v1,v2,_⟩:=z6T va vb da db hm hs
 have c1:=z0S.2 v1
 have c2:=z0S.2 v2
 refine .bp [.r [],.r [(1,X (Xc0 (z1N a (by assumption)) X0))],.r []] ((z0V a) !=0) (fun h2=> ?_) (fun h2=> ?_)
 ·
  exfalso
  omega
 ·
  refine .bp [.r [(1,X (Xc0 (z1N b (by assumption)) X0))],.r []] ((z0V b) !=0) (fun h5=> ?_) (fun h5=> ?_)
  ·
   exfalso
   omega
  ·
   refine .bp [.r [(1,X (Xc0 (z4b a (by assumption)) X0))],.r [(1,X (Xc0 (z4b b (by assumption)) X0))],.r []] ((oldD a) !=(oldD b)) (fun h9=> ?_) (fun h9=> ?_)
   ·
    exfalso
    omega
   ·
    refine .loop (α:=Int×Int×(List DStep)×(List Elem)×(List DStep)×(List Elem)×(List DStep)×Int×(List DStep)×Int) [.r [],.le (.nB 240 0 4),.le (.nB 240 1 3),.le (.nB 248 0 4),.le (.nB 248 1 3),.r []] 324 (fun(y1,y2,o1,x1,o2,x2,ps,pu,qs,qu)=>([(13,.ptr 240 0),(14,.ptr 248 0),(15,.ptr 276 0),(16,.ptr 300 0)],[(240,.box [.row 256 o1.length,.row 257 x1.length,VI y1]),(248,.box [.row 258 o2.length,.row 259 x2.length,VI y2]),(256,OR 4 z0c o1),(257,OR 3 elemT x1),(258,OR 4 z0c o2),(259,OR 3 elemT x2),(276,.box [VL 4 z0c ps,VI pu]),(300,.box [VL 4 z0c qs,VI qu])])) (fun(y1,y2,o1,x1,o2,x2,ps,pu,qs,qu)=>PD ⟨o1,x1,y1⟩ ⟨o2,x2,y2⟩ ps pu qs qu (z0f (exD a) (exD b)).1.length (z0f (exD a) (exD b)).2.length (foldD ⟨[],[],0⟩ (z0f (exD a) (exD b)).1) (foldD ⟨[],[],0⟩ (z0f (exD a) (exD b)).2)) (fun(y1,y2,o1,x1,o2,x2,ps,pu,qs,qu)=>jmD ps pu qs qu) (0,0,[],[],[],[],a,0,b,0) ?_ ?_
    ·
     exact st
    rintro⟨y1,y2,o1,x1,o2,x2,ps,pu,qs,qu⟩ I13 ih13
    try dsimp only at I13
    have kp:=z2P I13.gp
    have kq:=z2P I13.gq
    have bx:=I13.dx.bd
    have by2:=I13.dy.bd
    simp only at bx by2
    have fx:=I13.dx.fl.1
    have fy:=I13.dy.fl.1
    refine .bp [.r [(1,X (Xc4 [(0,276)] (z2g ps pu) X0)),(5,Xv 1 (!(decide ((kindD ps)≥0))) (Xc4 [(0,300)] (z2g qs qu) X0)),(6,Xv 1 (!(decide ((kindD ps)≥0))) X0),(7,X (Xk' (decide ((kindD ps)≥0))))]] (decide ((kindD ps)≥0)||decide ((kindD qs)≥0)) (fun h13=> ?_) (fun h13=> ?_)
    ·
     refine .bp [.r [(1,X (Xc4 [(0,276)] (z2g ps pu) X0))]] ((kindD ps)==1) (fun h14=> ?_) (fun h14=> ?_)
     ·
      have lp0:0<ps.length:=by omega
      have k1:(ps.getD 0 default).kind=1:=by omega
      clear kp kq h13 h14
      have sp:=z4Y I13.gp I13.dp lp0
      obtain⟨s,hs⟩:∃z,tkE ps pu (szD (ps.getD 0 default)- pu)=z:=⟨_,rfl⟩
      have hA:=PD.addP I13 lp0 k1 rfl
      have hAn:=an_up (y1q (u:=pu) (n:=szD (ps.getD 0 default)- pu) sp.2.2.2.2.2) (k:=400000000000) (by decide)
      rw[hs] at hA hAn
      have hAb:=hA.1.dx.bd
      simp only[List.length_append] at hAb
      have hA2:=hA.2.2
      refine .back [.r [(2,X (Xc4 [(0,276)] (z2h ps pu (by omega) (by omega)) X0)),(3,X (Xc3 444 [(0,276)] (z1O ps pu (szD (ps.getD 0 default)- pu) s hs (by omega) (by omega)) X0))],.r [(2,X (Xc3 484 [(0,240),(1,256),(2,257)] (z2D o1 x1 y1 s.elems (by assumption) (by omega)) X0))],.r [(2,X (Xl elemT s.elems)),(3,X (Xc3 516 [(0,248),(1,258),(2,259)] (.nil 2 2 (z2O o2 x2 y2 (s.elems.length:Int) [] (by omega) (by first|omega|simp) (by omega) (by first|assumption|exact kbd (by assumption)))) X0))]] [(240,240),(248,248),(256,256),(257,257),(258,258),(516,259),(276,276),(300,300)] (ih13 (y1,0,o1,(x1++s.elems),(keepD (z0a ⟨o2,x2,y2⟩) (s.elems.length:Int) []),[],(tkL ps pu (szD (ps.getD 0 default)- pu)),(tkN ps pu (szD (ps.getD 0 default)- pu)),qs,qu) ?_ ?_)
      ·
       exact hA.1
      ·
       exact hA.2.1
     ·
      refine .bp [.r [(1,X (Xc4 [(0,300)] (z2g qs qu) X0))]] ((kindD qs)==1) (fun h18=> ?_) (fun h18=> ?_)
      ·
       have lq0:0<qs.length:=by omega
       have k2:(qs.getD 0 default).kind=1:=by omega
       have k1:0<ps.length→(ps.getD 0 default).kind≠1:=fun h=>by omega
       clear kp kq h13 h14 h18
       have sq:=z4Y I13.gq I13.dq lq0
       obtain⟨s,hs⟩:∃z,tkE qs qu (szD (qs.getD 0 default)- qu)=z:=⟨_,rfl⟩
       have hA:=PD.addQ I13 k1 lq0 k2 rfl
       have hAn:=an_up (y1q (u:=qu) (n:=szD (qs.getD 0 default)- qu) sq.2.2.2.2.2) (k:=400000000000) (by decide)
       rw[hs] at hA hAn
       have hAb:=hA.1.dy.bd
       simp only[List.length_append] at hAb
       have hA2:=hA.2.2
       clear k1
       refine .back [.r [(2,X (Xc4 [(0,300)] (z2h qs qu (by omega) (by omega)) X0)),(3,X (Xc3 476 [(0,300)] (z1O qs qu (szD (qs.getD 0 default)- qu) s hs (by omega) (by omega)) X0))],.r [(2,X (Xl elemT s.elems)),(3,X (Xc3 524 [(0,240),(1,256),(2,257)] (.nil 2 2 (z2O o1 x1 y1 (s.elems.length:Int) [] (by omega) (by first|omega|simp) (by omega) (by first|assumption|exact kbd (by assumption)))) X0))],.r [(2,X (Xc3 548 [(0,248),(1,258),(2,259)] (z2D o2 x2 y2 s.elems (by assumption) (by omega)) X0))]] [(240,240),(248,248),(256,256),(524,257),(258,258),(259,259),(276,276),(300,300)] (ih13 (0,y2,(keepD (z0a ⟨o1,x1,y1⟩) (s.elems.length:Int) []),[],o2,(x2++s.elems),ps,pu,(tkL qs qu (szD (qs.getD 0 default)- qu)),(tkN qs qu (szD (qs.getD 0 default)- qu))) ?_ ?_)
       ·
        exact hA.1
       ·
        exact hA.2.1
      ·
       obtain⟨lp0,lq0⟩:=PD.two I13 (by omega) (fun h=>by omega) (fun h=>by omega)
       have k1:(ps.getD 0 default).kind≠1:=by omega
       have k3:(qs.getD 0 default).kind≠1:=by omega
       have sk:=fun _:Unit=>k02 I13.gp lp0 k1
       have tk:=fun _:Unit=>k02 I13.gq lq0 k3
       have hB1:=fun n=>PD.both (n:=n) I13 lp0 lq0 k1 k3
       have mk1:=szD_k I13.gp lp0 k1
       clear kp kq h13 h14 h18 k1 k3
       have sp:=z4Y I13.gp I13.dp lp0
       have sq:=z4Y I13.gq I13.dq lq0
       obtain⟨m,hmm⟩:∃z,min (szD (ps.getD 0 default)- pu) (szD (qs.getD 0 default)- qu)=z:=⟨_,rfl⟩
       have hB:=hB1 m hmm.symm
       have m1:1≤m∧m≤szD (ps.getD 0 default)- pu∧m≤szD (qs.getD 0 default)- qu∧m≤100000000000:=by omega
       have m2:pu+m≤szD (ps.getD 0 default)∧qu+m≤szD (qs.getD 0 default):=by omega
       obtain⟨s,hs⟩:∃z,tkE ps pu m=z:=⟨_,rfl⟩
       obtain⟨t,ht⟩:∃z,tkE qs qu m=z:=⟨_,rfl⟩
       have ek1:=z5j ps pu m
       have ek2:=z5j qs qu m
       have ea1:=z4f ps pu m
       have ea2:=z4f qs qu m
       rw[hs] at ek1 ea1
       rw[ht] at ek2 ea2
       have al:s.attrs.length≤100000000000∧t.attrs.length≤100000000000:=by rw[ea1,ea2];omega
       rw[←ea1,←ea2,←ek1,←ek2] at hB
       rw[←ek1] at sk
       rw[←ek2] at tk
       clear hB1
       refine .bp [.r [(1,X (Xc4 [(0,276)] (z2h ps pu (by omega) (by omega)) X0)),(3,X (Xc4 [(0,300)] (z2h qs qu (by omega) (by omega)) X0)),(4,X (Xmin (szD (ps.getD 0 default)- pu) (szD (qs.getD 0 default)- qu)))],.le (.eq 19 (VI (min (szD (ps.getD 0 default)- pu) (szD (qs.getD 0 default)- qu))) (VI m) (.of_eq (by rw[hmm]))),.r [(2,X (Xc3 516 [(0,276)] (z1O ps pu m s hs (by omega) (by omega)) X0)),(5,X (Xc3 540 [(0,300)] (z1O qs qu m t ht (by omega) (by omega)) X0))],.r [(5,Xv 1 (s.kind==0) X0),(6,Xv 1 (s.kind==0) X0),(7,X (Xk (s.kind==0)))]] ((s.kind==0)&&(t.kind==0)) (fun h24=> ?_) (fun h24=> ?_)
       ·
        have fl:=z1q wioG s.attrs t.attrs
        refine .back [.r [(5,X (Xc1 692 (y17 s.attrs t.attrs (by omega)) X0)),(6,X (Xc3 700 [(0,240),(1,256),(2,257)] (z2O o1 x1 y1 m (fm wioG s.attrs t.attrs) (by omega) (by first|omega|simp) (by omega) (by first|assumption|exact kbd (by assumption))) X0))],.r [(3,X (Xc3 732 [(0,248),(1,258),(2,259)] (z2O o2 x2 y2 m t.attrs (by omega) (by first|omega|simp) (by omega) (by first|assumption|exact kbd (by assumption))) X0))]] [(240,240),(248,248),(256,256),(700,257),(258,258),(732,259),(276,276),(300,300)] (ih13 (0,0,(keepD (z0a ⟨o1,x1,y1⟩) m (fm wioG s.attrs t.attrs)),[],(keepD (z0a ⟨o2,x2,y2⟩) m t.attrs),[],(tkL ps pu m),(tkN ps pu m),(tkL qs qu m),(tkN qs qu m)) ?_ ?_)
        ·
         exact hB.1.1 h24
        ·
         exact hB.2
       ·
        refine .bp [.r []] (s.kind==0) (fun h27=> ?_) (fun h27=> ?_)
        ·
         refine .back [.r [(3,X (Xn (y2+m)))]] [(240,240),(248,248),(256,256),(257,257),(258,258),(259,259),(276,276),(300,300)] (ih13 (y1,(y2+m),o1,x1,o2,x2,(tkL ps pu m),(tkN ps pu m),(tkL qs qu m),(tkN qs qu m)) ?_ ?_)
         ·
          exact hB.1.2.1 ⟨h27,(tk ()).resolve_left (h24.resolve_left (fun h=>h h27))⟩
         ·
          exact hB.2
        ·
         refine .bp [.r []] (t.kind==0) (fun h29=> ?_) (fun h29=> ?_)
         ·
          refine .at 716 [(240,240),(248,248),(256,256),(257,257),(258,258),(259,259),(276,276),(300,300)] ([(13,.ptr 240 0),(14,.ptr 248 0),(15,.ptr 276 0),(16,.ptr 300 0),(19,VI m),(133,VB (t.kind==0))],[(240,.box [.row 256 o1.length,.row 257 x1.length,VI y1]),(248,.box [.row 258 o2.length,.row 259 x2.length,VI y2]),(256,OR 4 z0c o1),(257,OR 3 elemT x1),(258,OR 4 z0c o2),(259,OR 3 elemT x2),(276,.box [VL 4 z0c (tkL ps pu m),VI (tkN ps pu m)]),(300,.box [VL 4 z0c (tkL qs qu m),VI (tkN qs qu m)])]) ?_
          refine .back [.r [(3,X (Xn (y1+m)))]] [(240,240),(248,248),(256,256),(257,257),(258,258),(259,259),(276,276),(300,300)] (ih13 ((y1+m),y2,o1,x1,o2,x2,(tkL ps pu m),(tkN ps pu m),(tkL qs qu m),(tkN qs qu m)) ?_ ?_)
          ·
           exact hB.1.2.2.1 ⟨(sk ()).resolve_left h27,h29⟩
          ·
           exact hB.2
         ·
          refine .at 716 [(240,240),(248,248),(256,256),(257,257),(258,258),(259,259),(276,276),(300,300)] ([(13,.ptr 240 0),(14,.ptr 248 0),(15,.ptr 276 0),(16,.ptr 300 0),(19,VI m),(133,VB (t.kind==0))],[(240,.box [.row 256 o1.length,.row 257 x1.length,VI y1]),(248,.box [.row 258 o2.length,.row 259 x2.length,VI y2]),(256,OR 4 z0c o1),(257,OR 3 elemT x1),(258,OR 4 z0c o2),(259,OR 3 elemT x2),(276,.box [VL 4 z0c (tkL ps pu m),VI (tkN ps pu m)]),(300,.box [VL 4 z0c (tkL qs qu m),VI (tkN qs qu m)])]) ?_
          refine .back [] [(240,240),(248,248),(256,256),(257,257),(258,258),(259,259),(276,276),(300,300)] (ih13 (y1,y2,o1,x1,o2,x2,(tkL ps pu m),(tkN ps pu m),(tkL qs qu m),(tkN qs qu m)) ?_ ?_)
          ·
           exact hB.1.2.2.2 ⟨(sk ()).resolve_left h27,(tk ()).resolve_left h29⟩
          ·
           exact hB.2
    ·
     obtain⟨hG1,hG2⟩:=PD.done I13 (by omega) (by omega)
     have hfx:z0a ⟨o1,x1,y1⟩=z1h a b:=by rw[hG1];rfl
     have hfy:z0a ⟨o2,x2,y2⟩=z4Z a b:=by rw[hG2];rfl
     have hcx:z0V (z0a ⟨o1,x1,y1⟩)=0:=by rw[hfx];exact c1
     have hcy:z0V (z0a ⟨o2,x2,y2⟩)=0:=by rw[hfy];exact c2
     have hdx:=I13.dx.fl.2
     have hdy:=I13.dy.fl.2
     refine .bp [.r [(0,X (Xc3 388 [(0,240),(1,256),(2,257)] (z5i o1 x1 y1 (by omega) (by assumption) (by assumption)) X0))],.r [(0,X (Xc3 436 [(0,248),(1,258),(2,259)] (z5i o2 x2 y2 (by omega) (by assumption) (by assumption)) X0))],.r [(4,Xv 1 (!false) X0),(5,X (Xk' false))]] (false||false) (fun h33=> ?_) (fun h33=> ?_)
     ·
      exfalso
      simp at h33
     ·
      have e1:((z1h a b):List DStep)=(z0a ⟨o1,x1,y1⟩):=by
       first|rw[hfx]|rw[hfy]
      have e2:((z4Z a b):List DStep)=(z0a ⟨o2,x2,y2⟩):=by
       first|rw[hfx]|rw[hfy]
      exact .finE [.r [],.le (.fr 4 [(((z0a ⟨o1,x1,y1⟩).length):Nat)=(List.map z0c (z0a ⟨o1,x1,y1⟩)).length] ⟨lm,trivial⟩),.le (.fr 5 [(((z0a ⟨o2,x2,y2⟩).length):Nat)=(List.map z0c (z0a ⟨o2,x2,y2⟩)).length] ⟨lm,trivial⟩)] [] (fun((z0,z1):(List DStep)×(List DStep))=>(.tup [VL 4 z0c z0,VL 4 z0c z1,VI 0],[])) _ _ (pr e1 e2)
end Go.Ch
end
section
set_option linter.unusedVariables false
set_option linter.unusedSimpArgs false
set_option maxRecDepth 100000
set_option maxHeartbeats 4000000
open Go Go.Proofs Go.Ab
namespace Go.Ch
theorem z88(o:List DStep)(a:List Elem)(c:Int)(n:Int)(l:List Attr)(h0:n=0):FC Tryz.prog 111 [.ptr 0 0,VI n,VL 2 attrT l] (app emp [(0,.box [.row 1 o.length,.row 2 a.length,VI c]),(1,OR 4 z0c o),(2,OR 3 elemT a)]) (.tup []) (app emp [(0,.box [.row 1 o.length,.row 2 a.length,VI c]),(1,OR 4 z0c o),(2,OR 3 elemT a)]):=by
 refine .go Tryz.f111 ?_
 refine .len 2 (fun hl2=> ?_)
 refine .bp [.r []] (n==0) (fun h0=> ?_) (fun h0=> ?_)
 ·
  exact .fin [] [(0,0),(1,1),(2,2)]
 ·
  exfalso
  omega
theorem y4d(o:List DStep)(a:List Elem)(c:Int)(ho:o.length≤100000000000)(hc:¬z0V (z0a ⟨o,a,c⟩)=0)(hd:DN 400000000000 (z0a ⟨o,a,c⟩)):FC Tryz.prog 113 [.ptr 0 0] (app emp [(0,.box [.row 1 o.length,.row 2 a.length,VI c]),(1,OR 4 z0c o),(2,OR 3 elemT a)]) (.tup [VL 4 z0c [],VI 3]) (app emp [(0,.box [.row 1 ((z0a ⟨o,a,c⟩).length),.row 3 0,VI 0]),(1,OR 4 z0c (z0a ⟨o,a,c⟩)),(2,OF 3 elemT a),(3,OR 3 elemT [])]):=by
 refine .go Tryz.f113 ?_
 refine .bp [.r [],.r [(1,X (Xc3 27 [(0,0),(1,1),(2,2)] (z55 o a c (by omega)) X0))],.r [(4,X (Xc0 (z1N (z0a ⟨o,a,c⟩) (by assumption)) (rowC z0c (z0a ⟨o,a,c⟩) X0)))]] ((z0V (z0a ⟨o,a,c⟩)) !=0) (fun h2=> ?_) (fun h2=> ?_)
 ·
  exact .fin [.r [],.le (.nL 2 4)] [(0,0),(1,1),(2,2),(27,3)]
 ·
  exfalso
  omega
theorem z5n(d:List DStep)(hd:DN 100000000000 d)(hl:d.length≤100000000)(he:elS d≤10000000000):FC Tryz.prog 83 [VL 4 z0c d] (app emp []) (.tup [VL 4 z0c (tidyL d),VI (tidyE d)]) (app emp []):=by
 refine .go Tryz.f83 ?_
 refine .len 0 (fun hl0=> ?_)
 have hd4:=hd.mono (n:=400000000000) (by decide)
 refine .loop (α:=Nat×Int×(List DStep)×(List Elem)) [.r [],.r [],.le (.nB 16 0 4),.le (.nB 16 1 3),.r [(1,X (Xl z0c d))]] 50 (fun(i,y,o,x)=>([(4,.ptr 16 0),(8,VL 4 z0c d),(9,VI (d.length:Int)),(10,VI (i:Int))],[(16,.box [.row 24 o.length,.row 25 x.length,VI y]),(24,OR 4 z0c o),(25,OR 3 elemT x)])) (fun(i,y,o,x)=>i≤d.length∧tidyG ⟨[],[],0⟩ d=tidyG ⟨o,x,y⟩ (d.drop i)∧TB d i ⟨o,x,y⟩) (fun(i,y,o,x)=>d.length-i) (0,0,[],[]) ?_ ?_
 ·
  exact⟨by omega,rfl,TB.start d⟩
 rintro⟨i,y,o,x⟩ I3 ih3
 try dsimp only at I3
 have b1:=I3.2.2.out
 have b2:=I3.2.2.add
 have b3:=I3.2.2.cut
 simp only at b1 b2 b3
 refine .bp [.r []] (decide ((i:Int)< (d.length:Int))) (fun h3=> ?_) (fun h3=> ?_)
 ·
  obtain⟨e1,e2⟩:=y1s (d:=d) (i:=i) (by omega)
  have hT:=y5I (d:=d) (i:=i) (by omega) ⟨o,x,y⟩
  obtain⟨d1,d2,d3⟩:=hd4 _ (z0z (l:=d) (k:=i) (by omega))
  obtain⟨f1,f2⟩:=I3.2.2.flush (by omega) (by omega) (by omega)
  refine .bp [.r [(0,X (Xi z0c d (i:Int)))],.r [(1,X (Xc0 (y3P ((d.getD i default))) X0))],.r [(5,Xv 1 ((((d.getD i default)).kind)==1) X0),(6,Xv 1 ((((d.getD i default)).kind)==1) (Xl elemT (((d.getD i default)).elems))),(7,Xv 1 ((((d.getD i default)).kind)==1) X0),(8,X (Xk ((((d.getD i default)).kind)==1))),(11,Xv 1 (((((d.getD i default)).kind)==1)&&(((((d.getD i default)).elems).length:Int)==0)) X0),(12,X (Xk (((((d.getD i default)).kind)==1)&&(((((d.getD i default)).elems).length:Int)==0)))),(15,Xv 1 (!((((((d.getD i default)).kind)==1)&&(((((d.getD i default)).elems).length:Int)==0))&&((stepD ((d.getD i default)))==11))) X0),(16,Xv 1 (!((((((d.getD i default)).kind)==1)&&(((((d.getD i default)).elems).length:Int)==0))&&((stepD ((d.getD i default)))==11))) X0),(17,Xv 1 (!((((((d.getD i default)).kind)==1)&&(((((d.getD i default)).elems).length:Int)==0))&&((stepD ((d.getD i default)))==11))) X0),(19,Xv 1 ((!((((((d.getD i default)).kind)==1)&&(((((d.getD i default)).elems).length:Int)==0))&&((stepD ((d.getD i default)))==11)))&&((((d.getD i default)).kind) !=1)) X0),(20,Xv 1 ((!((((((d.getD i default)).kind)==1)&&(((((d.getD i default)).elems).length:Int)==0))&&((stepD ((d.getD i default)))==11)))&&((((d.getD i default)).kind) !=1)) X0),(21,Xka (!((((((d.getD i default)).kind)==1)&&(((((d.getD i default)).elems).length:Int)==0))&&((stepD ((d.getD i default)))==11))) ((((d.getD i default)).kind) !=1)),(22,Xv 1 (!((((((d.getD i default)).kind)==1)&&(((((d.getD i default)).elems).length:Int)==0))&&((stepD ((d.getD i default)))==11))) X0),(24,Xv 1 ((!((((((d.getD i default)).kind)==1)&&(((((d.getD i default)).elems).length:Int)==0))&&((stepD ((d.getD i default)))==11)))&&(((((d.getD i default)).kind) !=1)&&((((d.getD i default)).n)==0))) X0),(25,Xka (!((((((d.getD i default)).kind)==1)&&(((((d.getD i default)).elems).length:Int)==0))&&((stepD ((d.getD i default)))==11))) (((((d.getD i default)).kind) !=1)&&((((d.getD i default)).n)==0))),(26,X (Xk' ((((((d.getD i default)).kind)==1)&&(((((d.getD i default)).elems).length:Int)==0))&&((stepD ((d.getD i default)))==11))))]] (((((((d.getD i default)).kind)==1)&&(((((d.getD i default)).elems).length:Int)==0))&&((stepD ((d.getD i default)))==11))|| ((((((d.getD i default)).kind) !=1)&&((((d.getD i default)).n)==0))&&((stepD ((d.getD i default)))==2))) (fun h6=> ?_) (fun h6=> ?_)
  ·
   have hL:lenE (d.getD i default)=(chkA true (((d.getD i default)).attrs) 0):=by unfold lenE;first|rw[if_pos (by omega)]|rw[if_neg (by omega)]
   refine .bp [.r [(2,X (Xc0 (z04 (((d.getD i default)).attrs)) X0))],.r []] ((chkA true (((d.getD i default)).attrs) 0) !=0) (fun h8=> ?_) (fun h8=> ?_)
   ·
    have e1:((tidyL d):List DStep)=[]:=by
     unfold tidyL
     rw[I3.2.1,hT,if_pos (by rw[hL];exact h8)]
    have e2:((tidyE d):Int)=(chkA true (((d.getD i default)).attrs) 0):=by
     unfold tidyE
     rw[I3.2.1,hT,if_pos (by rw[hL];exact h8)]
     exact hL
    exact .finE [.r [],.le (.nL 2 4)] [] (fun((z0,z1):(List DStep)×Int)=>(.tup [VL 4 z0c z0,VI z1],[])) _ _ (pr e1 e2)
   ·
    have hL0:lenE (d.getD i default)=0:=by rw[hL];omega
    rw[if_neg (by rw[hL0];decide)] at hT
    obtain⟨hk,hn1,hn2⟩:=z90 hL0
    have hN:=I3.2.2.next (by omega) hd hL0
    clear h6
    refine .bp [.r [],.r []] ((((d.getD i default)).kind)==0) (fun h14=> ?_) (fun h14=> ?_)
    ·
     by_cases hn0:(d.getD i default).n=0
     ·
      refine .back [.r [(4,X (Xc3 442 [(0,16),(1,24),(2,25)] (z88 o x y (((d.getD i default)).n) (((d.getD i default)).attrs) (by assumption)) X0))],.r [(0,X (Xn ((i:Int)+1)))]] [(16,16),(24,24),(25,25)] (ih3 ((i+1),y,o,x) ?_ ?_)
      ·
       have hW:tdW ⟨o,x,y⟩ (d.getD i default)=⟨o,x,y⟩:=by unfold tdW;rw[if_pos h14,if_pos hn0]
       have hb:¬tdBad ⟨o,x,y⟩ (d.getD i default):=fun h=>h.1 h14
       have hN2:=hN hb
       rw[if_neg hb] at hT
       rw[hW] at hT hN2
       exact⟨by omega,I3.2.1.trans hT,hN2⟩
      ·
       ((try dsimp only);omega)
     ·
      refine .back [.r [(4,X (Xc3 442 [(0,16),(1,24),(2,25)] (z2O o x y (((d.getD i default)).n) (((d.getD i default)).attrs) (by omega) (by first|omega|simp) (by omega) (by first|assumption|exact kbd (by assumption))) X0))],.r [(0,X (Xn ((i:Int)+1)))]] [(16,16),(24,24),(442,25)] (ih3 ((i+1),0,(keepD (z0a ⟨o,x,y⟩) (((d.getD i default)).n) (((d.getD i default)).attrs)),[]) ?_ ?_)
      ·
       have hW:tdW ⟨o,x,y⟩ (d.getD i default)=⟨keepD (z0a ⟨o,x,y⟩) (d.getD i default).n (d.getD i default).attrs,[],0⟩:=by unfold tdW;rw[if_pos h14,if_neg hn0]
       have hb:¬tdBad ⟨o,x,y⟩ (d.getD i default):=fun h=>h.1 h14
       have hN2:=hN hb
       rw[if_neg hb] at hT
       rw[hW] at hT hN2
       exact⟨by omega,I3.2.1.trans hT,hN2⟩
      ·
       ((try dsimp only);omega)
    ·
     refine .bp [.r []] ((((d.getD i default)).kind)==1) (fun h16=> ?_) (fun h16=> ?_)
     ·
      have hz:True:=trivial
      refine .back [.r [(2,X (Xc3 442 [(0,16),(1,24),(2,25)] (z2D o x y (((d.getD i default)).elems) (by assumption) (by omega)) X0))],.r [(0,X (Xn ((i:Int)+1)))]] [(16,16),(24,24),(25,25)] (ih3 ((i+1),y,o,(x++(((d.getD i default)).elems))) ?_ ?_)
      ·
       have hW:tdW ⟨o,x,y⟩ (d.getD i default)=⟨o,x++(d.getD i default).elems,y⟩:=by unfold tdW;rw[if_neg h14,if_pos h16]
       have hb:¬tdBad ⟨o,x,y⟩ (d.getD i default):=fun h=>h.2.1 h16
       have hN2:=hN hb
       rw[if_neg hb] at hT
       rw[hW] at hT hN2
       exact⟨by omega,I3.2.1.trans hT,hN2⟩
      ·
       ((try dsimp only);omega)
     ·
      refine .bp [.r [(4,X (Xn (y+(((d.getD i default)).n))))],.r []] (decide ((y+(((d.getD i default)).n))> 2147483647)) (fun h12=> ?_) (fun h12=> ?_)
      ·
       refine .at 506 [(16,16),(24,24),(25,25)] ([(4,.ptr 16 0),(8,VL 4 z0c d),(9,VI (d.length:Int)),(10,VI (i:Int)),(59,VB (decide ((y+(((d.getD i default)).n))> 2147483647)))],[(16,.box [.row 24 o.length,.row 25 x.length,VI (y+(((d.getD i default)).n))]),(24,OR 4 z0c o),(25,OR 3 elemT x)]) ?_
       have e3:((tidyL d):List DStep)=[]:=by
        unfold tidyL
        rw[I3.2.1,hT,if_pos ⟨h14,h16,by simp only;omega⟩]
       have e4:((tidyE d):Int)=3:=by
        unfold tidyE
        rw[I3.2.1,hT,if_pos ⟨h14,h16,by simp only;omega⟩]
       exact .finE [.r [],.le (.nL 2 4)] [] (fun((z0,z1):(List DStep)×Int)=>(.tup [VL 4 z0c z0,VI z1],[])) _ _ (pr e3 e4)
      ·
       refine .at 506 [(16,16),(24,24),(25,25)] ([(4,.ptr 16 0),(8,VL 4 z0c d),(9,VI (d.length:Int)),(10,VI (i:Int)),(59,VB (decide ((y+(((d.getD i default)).n))> 2147483647)))],[(16,.box [.row 24 o.length,.row 25 x.length,VI (y+(((d.getD i default)).n))]),(24,OR 4 z0c o),(25,OR 3 elemT x)]) ?_
       refine .back [.r [(0,X (Xn ((i:Int)+1)))]] [(16,16),(24,24),(25,25)] (ih3 ((i+1),(y+(((d.getD i default)).n)),o,x) ?_ ?_)
       ·
        have hW:tdW ⟨o,x,y⟩ (d.getD i default)=⟨o,x,y+(d.getD i default).n⟩:=by unfold tdW;rw[if_neg h14,if_neg h16]
        have hb:¬tdBad ⟨o,x,y⟩ (d.getD i default):=fun h=>by have:=h.2.2;simp only at this;omega
        have hN2:=hN hb
        rw[if_neg hb] at hT
        rw[hW] at hT hN2
        exact⟨by omega,I3.2.1.trans hT,hN2⟩
       ·
        ((try dsimp only);omega)
  ·
   have hL:lenE (d.getD i default)=(stepD ((d.getD i default))):=by unfold lenE;first|rw[if_pos (by omega)]|rw[if_neg (by omega)]
   refine .bp [.r []] ((stepD ((d.getD i default))) !=0) (fun h8=> ?_) (fun h8=> ?_)
   ·
    have e5:((tidyL d):List DStep)=[]:=by
     unfold tidyL
     rw[I3.2.1,hT,if_pos (by rw[hL];exact h8)]
    have e6:((tidyE d):Int)=(stepD ((d.getD i default))):=by
     unfold tidyE
     rw[I3.2.1,hT,if_pos (by rw[hL];exact h8)]
     exact hL
    exact .finE [.r [],.le (.nL 2 4)] [] (fun((z0,z1):(List DStep)×Int)=>(.tup [VL 4 z0c z0,VI z1],[])) _ _ (pr e5 e6)
   ·
    have hL0:lenE (d.getD i default)=0:=by rw[hL];omega
    rw[if_neg (by rw[hL0];decide)] at hT
    obtain⟨hk,hn1,hn2⟩:=z90 hL0
    have hN:=I3.2.2.next (by omega) hd hL0
    clear h6
    refine .bp [.r [],.r []] ((((d.getD i default)).kind)==0) (fun h14=> ?_) (fun h14=> ?_)
    ·
     by_cases hn0:(d.getD i default).n=0
     ·
      refine .back [.r [(4,X (Xc3 410 [(0,16),(1,24),(2,25)] (z88 o x y (((d.getD i default)).n) (((d.getD i default)).attrs) (by assumption)) X0))],.r [(0,X (Xn ((i:Int)+1)))]] [(16,16),(24,24),(25,25)] (ih3 ((i+1),y,o,x) ?_ ?_)
      ·
       have hW:tdW ⟨o,x,y⟩ (d.getD i default)=⟨o,x,y⟩:=by unfold tdW;rw[if_pos h14,if_pos hn0]
       have hb:¬tdBad ⟨o,x,y⟩ (d.getD i default):=fun h=>h.1 h14
       have hN2:=hN hb
       rw[if_neg hb] at hT
       rw[hW] at hT hN2
       exact⟨by omega,I3.2.1.trans hT,hN2⟩
      ·
       ((try dsimp only);omega)
     ·
      refine .back [.r [(4,X (Xc3 410 [(0,16),(1,24),(2,25)] (z2O o x y (((d.getD i default)).n) (((d.getD i default)).attrs) (by omega) (by first|omega|simp) (by omega) (by first|assumption|exact kbd (by assumption))) X0))],.r [(0,X (Xn ((i:Int)+1)))]] [(16,16),(24,24),(410,25)] (ih3 ((i+1),0,(keepD (z0a ⟨o,x,y⟩) (((d.getD i default)).n) (((d.getD i default)).attrs)),[]) ?_ ?_)
      ·
       have hW:tdW ⟨o,x,y⟩ (d.getD i default)=⟨keepD (z0a ⟨o,x,y⟩) (d.getD i default).n (d.getD i default).attrs,[],0⟩:=by unfold tdW;rw[if_pos h14,if_neg hn0]
       have hb:¬tdBad ⟨o,x,y⟩ (d.getD i default):=fun h=>h.1 h14
       have hN2:=hN hb
       rw[if_neg hb] at hT
       rw[hW] at hT hN2
       exact⟨by omega,I3.2.1.trans hT,hN2⟩
      ·
       ((try dsimp only);omega)
    ·
     refine .bp [.r []] ((((d.getD i default)).kind)==1) (fun h16=> ?_) (fun h16=> ?_)
     ·
      have hz:True:=trivial
      refine .back [.r [(2,X (Xc3 410 [(0,16),(1,24),(2,25)] (z2D o x y (((d.getD i default)).elems) (by assumption) (by omega)) X0))],.r [(0,X (Xn ((i:Int)+1)))]] [(16,16),(24,24),(25,25)] (ih3 ((i+1),y,o,(x++(((d.getD i default)).elems))) ?_ ?_)
      ·
       have hW:tdW ⟨o,x,y⟩ (d.getD i default)=⟨o,x++(d.getD i default).elems,y⟩:=by unfold tdW;rw[if_neg h14,if_pos h16]
       have hb:¬tdBad ⟨o,x,y⟩ (d.getD i default):=fun h=>h.2.1 h16
       have hN2:=hN hb
       rw[if_neg hb] at hT
       rw[hW] at hT hN2
       exact⟨by omega,I3.2.1.trans hT,hN2⟩
      ·
       ((try dsimp only);omega)
     ·
      refine .bp [.r [(4,X (Xn (y+(((d.getD i default)).n))))],.r []] (decide ((y+(((d.getD i default)).n))> 2147483647)) (fun h12=> ?_) (fun h12=> ?_)
      ·
       refine .at 474 [(16,16),(24,24),(25,25)] ([(4,.ptr 16 0),(8,VL 4 z0c d),(9,VI (d.length:Int)),(10,VI (i:Int)),(59,VB (decide ((y+(((d.getD i default)).n))> 2147483647)))],[(16,.box [.row 24 o.length,.row 25 x.length,VI (y+(((d.getD i default)).n))]),(24,OR 4 z0c o),(25,OR 3 elemT x)]) ?_
       have e7:((tidyL d):List DStep)=[]:=by
        unfold tidyL
        rw[I3.2.1,hT,if_pos ⟨h14,h16,by simp only;omega⟩]
       have e8:((tidyE d):Int)=3:=by
        unfold tidyE
        rw[I3.2.1,hT,if_pos ⟨h14,h16,by simp only;omega⟩]
       exact .finE [.r [],.le (.nL 2 4)] [] (fun((z0,z1):(List DStep)×Int)=>(.tup [VL 4 z0c z0,VI z1],[])) _ _ (pr e7 e8)
      ·
       refine .at 474 [(16,16),(24,24),(25,25)] ([(4,.ptr 16 0),(8,VL 4 z0c d),(9,VI (d.length:Int)),(10,VI (i:Int)),(59,VB (decide ((y+(((d.getD i default)).n))> 2147483647)))],[(16,.box [.row 24 o.length,.row 25 x.length,VI (y+(((d.getD i default)).n))]),(24,OR 4 z0c o),(25,OR 3 elemT x)]) ?_
       refine .back [.r [(0,X (Xn ((i:Int)+1)))]] [(16,16),(24,24),(25,25)] (ih3 ((i+1),(y+(((d.getD i default)).n)),o,x) ?_ ?_)
       ·
        have hW:tdW ⟨o,x,y⟩ (d.getD i default)=⟨o,x,y+(d.getD i default).n⟩:=by unfold tdW;rw[if_neg h14,if_neg h16]
        have hb:¬tdBad ⟨o,x,y⟩ (d.getD i default):=fun h=>by have:=h.2.2;simp only at this;omega
        have hN2:=hN hb
        rw[if_neg hb] at hT
        rw[hW] at hT hN2
        exact⟨by omega,I3.2.1.trans hT,hN2⟩
       ·
        ((try dsimp only);omega)
 ·
  by_cases hck:z0V (z0a ⟨o,x,y⟩)=0
  ·
   have hTe:=z84 (d:=d) (i:=i) (by omega) ⟨o,x,y⟩
   obtain⟨f1,f2⟩:=I3.2.2.flush (by omega) (by omega) (by rw[List.take_of_length_le (by omega)];omega)
   have e9:((tidyL d):List DStep)=(z0a ⟨o,x,y⟩):=by
    unfold tidyL
    rw[I3.2.1,hTe,if_pos hck]
   have e10:((tidyE d):Int)=0:=by
    unfold tidyE
    rw[I3.2.1,hTe,if_pos hck]
   exact .finE [.r [(0,X (Xc3 58 [(0,16),(1,24),(2,25)] (z5i o x y (by omega) (by assumption) (by assumption)) X0))],.le (.fr 2 [(((z0a ⟨o,x,y⟩).length):Nat)=(List.map z0c (z0a ⟨o,x,y⟩)).length] ⟨lm,trivial⟩)] [] (fun((z0,z1):(List DStep)×Int)=>(.tup [VL 4 z0c z0,VI z1],[])) _ _ (pr e9 e10)
  ·
   have hTe:=z84 (d:=d) (i:=i) (by omega) ⟨o,x,y⟩
   obtain⟨f1,f2⟩:=I3.2.2.flush (by omega) (by omega) (by rw[List.take_of_length_le (by omega)];omega)
   have e11:((tidyL d):List DStep)=[]:=by
    unfold tidyL
    rw[I3.2.1,hTe,if_neg hck]
   have e12:((tidyE d):Int)=3:=by
    unfold tidyE
    rw[I3.2.1,hTe,if_neg hck]
   exact .finE [.r [(0,X (Xc3 58 [(0,16),(1,24),(2,25)] (y4d o x y (by omega) (by assumption) (by assumption)) X0))]] [] (fun((z0,z1):(List DStep)×Int)=>(.tup [VL 4 z0c z0,VI z1],[])) _ _ (pr e11 e12)
end Go.Ch
end
section
set_option linter.unusedVariables false
set_option linter.unusedSimpArgs false
set_option maxRecDepth 100000
set_option maxHeartbeats 4000000
open Go Go.Proofs Go.Ab
namespace Go.Ch
theorem y4e(x:Elem)(mode:Int):FC Tryz.prog 88 [.t (elemT x),VI mode] (app emp []) (VB (hidX x mode)) (app emp []):=by
 refine .go Tryz.f88 ?_
 have e1:((hidX x mode):Bool)=((seq (getA x.attrs ({data:=#[104,105,100,100,101,110]}) 0) ({data:=#[111,110]})|| ((mode==0)&& !(seq (getA x.attrs ({data:=#[99,117,116]}) 0) ({data:=#[]}))))|| ((mode==1)&& !(seq (getA x.attrs ({data:=#[97,100,100]}) 0) ({data:=#[]})))):=by
  rfl
 exact .finE [.r [],.r [(2,X (Xc0 (z4T x.attrs ({data:=#[104,105,100,100,101,110]})) X0)),(6,Xv 1 (!(seq (getA x.attrs ({data:=#[104,105,100,100,101,110]}) 0) ({data:=#[111,110]}))) X0),(7,Xv 1 (!(seq (getA x.attrs ({data:=#[104,105,100,100,101,110]}) 0) ({data:=#[111,110]}))) X0),(9,Xv 1 ((!(seq (getA x.attrs ({data:=#[104,105,100,100,101,110]}) 0) ({data:=#[111,110]})))&&(mode==0)) X0),(10,Xv 1 ((!(seq (getA x.attrs ({data:=#[104,105,100,100,101,110]}) 0) ({data:=#[111,110]})))&&(mode==0)) (Xc0 (z4T x.attrs ({data:=#[99,117,116]})) X0)),(11,Xv 1 ((!(seq (getA x.attrs ({data:=#[104,105,100,100,101,110]}) 0) ({data:=#[111,110]})))&&(mode==0)) X0),(12,Xka (!(seq (getA x.attrs ({data:=#[104,105,100,100,101,110]}) 0) ({data:=#[111,110]}))) (mode==0)),(13,X (Xk' (seq (getA x.attrs ({data:=#[104,105,100,100,101,110]}) 0) ({data:=#[111,110]})))),(16,Xv 1 (!(seq (getA x.attrs ({data:=#[104,105,100,100,101,110]}) 0) ({data:=#[111,110]})|| ((mode==0)&& !(seq (getA x.attrs ({data:=#[99,117,116]}) 0) ({data:=#[]}))))) X0),(17,Xv 1 (!(seq (getA x.attrs ({data:=#[104,105,100,100,101,110]}) 0) ({data:=#[111,110]})|| ((mode==0)&& !(seq (getA x.attrs ({data:=#[99,117,116]}) 0) ({data:=#[]}))))) X0),(19,Xv 1 ((!(seq (getA x.attrs ({data:=#[104,105,100,100,101,110]}) 0) ({data:=#[111,110]})|| ((mode==0)&& !(seq (getA x.attrs ({data:=#[99,117,116]}) 0) ({data:=#[]})))))&&(mode==1)) X0),(20,Xv 1 ((!(seq (getA x.attrs ({data:=#[104,105,100,100,101,110]}) 0) ({data:=#[111,110]})|| ((mode==0)&& !(seq (getA x.attrs ({data:=#[99,117,116]}) 0) ({data:=#[]})))))&&(mode==1)) (Xc0 (z4T x.attrs ({data:=#[97,100,100]})) X0)),(21,Xv 1 ((!(seq (getA x.attrs ({data:=#[104,105,100,100,101,110]}) 0) ({data:=#[111,110]})|| ((mode==0)&& !(seq (getA x.attrs ({data:=#[99,117,116]}) 0) ({data:=#[]})))))&&(mode==1)) X0),(22,Xka (!(seq (getA x.attrs ({data:=#[104,105,100,100,101,110]}) 0) ({data:=#[111,110]})|| ((mode==0)&& !(seq (getA x.attrs ({data:=#[99,117,116]}) 0) ({data:=#[]}))))) (mode==1)),(23,X (Xk' (seq (getA x.attrs ({data:=#[104,105,100,100,101,110]}) 0) ({data:=#[111,110]})|| ((mode==0)&& !(seq (getA x.attrs ({data:=#[99,117,116]}) 0) ({data:=#[]}))))))]] [] (fun z0:Bool=>(VB z0,[])) _ _ e1
theorem y4f(f:List Elem)(mode:Int)(hn:f.length≤100000000000):FC Tryz.prog 48 [VL 3 elemT f,VI mode] (app emp []) (VL 1 intT (plcL f mode f.length)) (app emp []):=by
 refine .go Tryz.f48 ?_
 refine .len 0 (fun hl0=> ?_)
 refine .loop (α:=Nat×(List Int)) [.r [],.r [],.r [(1,X (Xl elemT f))],.le (.nR 5 1)] 41 (fun(i,o)=>([(0,VL 3 elemT f),(1,VI mode),(5,.row 40 o.length),(8,VL 3 elemT f),(9,VI (f.length:Int)),(10,VI (i:Int))],[(40,OR 1 intT o)])) (fun(i,o)=>i≤f.length∧o=plcL f mode i) (fun(i,o)=>f.length-i) (0,[]) ?_ ?_
 ·
  exact⟨by omega,rfl⟩
 rintro⟨i,o⟩ I3 ih3
 try dsimp only at I3
 have ol:o.length≤i:=by rw[I3.2];exact y1u f mode i
 refine .bp [.r []] (decide ((i:Int)< (f.length:Int))) (fun h3=> ?_) (fun h3=> ?_)
 ·
  refine .bp [.r [(1,X (Xi elemT f (i:Int)))],.r [(2,X (Xc0 (y4e ((f.getD i default)) mode) X0)),(7,Xv 1 (!(!(hidX ((f.getD i default)) mode))) (Xl elemT f)),(8,Xv 1 (!(!(hidX ((f.getD i default)) mode))) (Xn ((f.length:Int)- 1))),(9,Xv 2 (!(!(hidX ((f.getD i default)) mode))) X0),(10,Xv 1 (!(!(hidX ((f.getD i default)) mode))) X0),(12,Xv 1 ((!(!(hidX ((f.getD i default)) mode)))&&((i:Int)==((f.length:Int)- 1))) X0),(13,Xv 1 ((!(!(hidX ((f.getD i default)) mode)))&&((i:Int)==((f.length:Int)- 1))) X0),(14,Xka (!(!(hidX ((f.getD i default)) mode))) ((i:Int)==((f.length:Int)- 1))),(15,X (Xk' (!(hidX ((f.getD i default)) mode))))]] (!(hidX ((f.getD i default)) mode)|| (((i:Int)==((f.length:Int)- 1))&&((((f.getD i default)).char)==10))) (fun h5=> ?_) (fun h5=> ?_)
  ·
   refine .back [.r [(3,X (rowC intT [(i:Int)] (Xap 1 intT 40 o [(i:Int)])))],.r [(0,X (Xn ((i:Int)+1)))]] [(40,40)] (ih3 ((i+1),(o++[(i:Int)])) ?_ ?_)
   ·
    refine⟨by omega,?_⟩
    rw[I3.2,z86]
    first|rw[if_pos (z91 h5)]|rw[if_neg (by rw[y6u h5];decide),List.append_nil]
   ·
    ((try dsimp only);omega)
  ·
   refine .back [.r [(0,X (Xn ((i:Int)+1)))]] [(40,40)] (ih3 ((i+1),o) ?_ ?_)
   ·
    refine⟨by omega,?_⟩
    rw[I3.2,z86]
    first|rw[if_pos (z91 h5)]|rw[if_neg (by rw[y6u h5];decide),List.append_nil]
   ·
    ((try dsimp only);omega)
 ·
  have e1:((plcL f mode f.length):List Int)=o:=by
   rw[I3.2,show i=f.length by omega]
  exact .finE [.r [],.le (.fr 4 [(o.length:Nat)=(List.map intT o).length] ⟨lm,trivial⟩)] [] (fun z0:List Int=>(VL 1 intT z0,[])) _ _ e1
theorem y4g(pl:List Int)(k:Int)(hk:0≤k∧k≤pl.length)(hp:∀x∈pl,0≤x∧x≤1000000000):FC Tryz.prog 45 [VL 1 intT pl,VI k] (app emp []) (VI (gapP pl k)) (app emp []):=by
 refine .go Tryz.f45 ?_
 refine .len 0 (fun hl0=> ?_)
 refine .bp [.r [],.r []] (k==0) (fun h1=> ?_) (fun h1=> ?_)
 ·
  have e1:((gapP pl k):Int)=0:=by
   unfold gapP;rw[if_pos (by omega)]
  exact .finE [.r []] [] (fun z0:Int=>(VI z0,[])) _ _ e1
 ·
  have hx:=hp _ (z0g (l:=pl) (i:=(k- 1).toNat) (by omega))
  have e2:((gapP pl k):Int)=((pl.getD (Int.toNat (k- 1)) default)+1):=by
   unfold gapP;rw[if_neg (by omega)]
  exact .finE [.r [(2,X (Xn (k- 1))),(3,X (Xi intT pl (k- 1))),(5,X (Xn ((pl.getD (Int.toNat (k- 1)) default)+1)))]] [] (fun z0:Int=>(VI z0,[])) _ _ e2
theorem z89(f:List Elem)(pl:List Int)(au:ByteArray)(hf:f.length≤10000000)(hp:∀x∈pl,0≤x∧x< (f.length:Int)):FC Tryz.prog 68 [VL 3 elemT f,VL 1 intT pl,VS au] (app emp []) (VL 4 z0c (ersD f pl au)) (app emp []):=by
 refine .go Tryz.f68 ?_
 refine .len 0 (fun hl0=> ?_)
 refine .len 1 (fun hl1=> ?_)
 obtain⟨dn,el⟩:=y7u f pl au f.length
 have sl:=y1v f pl au f.length
 refine .loop (α:=Nat×(List Bool)) [.r [],.r [(1,X (Xl elemT f)),(2,X (Xmk 1 boolT 24 (f.length:Int) (f.length:Int) false))],.r [(1,X (Xl intT pl))]] 64 (fun(k,m)=>([(0,VL 3 elemT f),(2,VS au),(7,.row 24 f.length),(19,VL 1 intT pl),(20,VI (pl.length:Int)),(21,VI (k:Int))],[(24,OR 1 boolT m)])) (fun(k,m)=>k≤pl.length∧m=markB (pl.take k) f.length) (fun(k,m)=>pl.length-k) (0,(List.replicate f.length false)) ?_ ?_
 ·
  exact⟨by omega,by rw[List.take_zero,y35]⟩
 rintro⟨k,m⟩ I3 ih3
 try dsimp only at I3
 have ol:m.length=f.length:=by rw[I3.2,y34]
 refine .bp [.r []] (decide ((k:Int)< (pl.length:Int))) (fun h3=> ?_) (fun h3=> ?_)
 ·
  have hpk:=hp _ (z0g (l:=pl) (i:=k) (by omega))
  refine .back [.r [(0,X (Xi intT pl (k:Int)))],.r [(2,X (Xpn f.length boolT m (pl.getD k default))),(3,X (Xsn f.length 1 boolT 24 m (Int.toNat (pl.getD k default)) true))],.r [(0,X (Xn ((k:Int)+1)))]] [(24,24)] (ih3 ((k+1),(m.set (Int.toNat (pl.getD k default)) true)) ?_ ?_)
  ·
   exact⟨by omega,by rw[I3.2];exact y2l (by omega) hpk⟩
  ·
   ((try dsimp only);omega)
 ·
  have hm:m=markB pl f.length:=by rw[I3.2,List.take_of_length_le (by omega)]
  refine .loop (α:=Nat×(List DStep)) [.r [],.r [(1,X (Xl elemT f))],.le (.nR 10 4)] 105 (fun(i,o)=>([(2,VS au),(7,.row 24 f.length),(10,.row 104 o.length),(29,VL 3 elemT f),(30,VI (f.length:Int)),(31,VI (i:Int))],[(24,OR 1 boolT m),(104,OR 4 z0c o)])) (fun(i,o)=>i≤f.length∧o=ersS f pl au i) (fun(i,o)=>f.length-i) (0,[]) ?_ ?_
  ·
   exact⟨by omega,rfl⟩
  rintro⟨i,o⟩ I9 ih9
  try dsimp only at I9
  have ol2:o.length=i:=by rw[I9.2];exact y1v f pl au i
  refine .bp [.r []] (decide ((i:Int)< (f.length:Int))) (fun h9=> ?_) (fun h9=> ?_)
  ·
   have hmi:m.getD i default=pl.any (fun p=>p==(i:Int)):=by rw[hm];exact y5M (by omega)
   refine .bp [.r [(1,X (Xi elemT f (i:Int)))],.r [(0,X (Xf [(2,2),(3,3)]))],.r [(2,X (Xpn f.length boolT m (i:Int))),(3,X (Xen f.length boolT m i))]] (!(m.getD i default)) (fun h13=> ?_) (fun h13=> ?_)
   ·
    refine .back [.r [(3,X (rowC z0c [({kind:=0,n:=1,attrs:=[],elems:=[]}:DStep)] (Xap 4 z0c 104 o [({kind:=0,n:=1,attrs:=[],elems:=[]}:DStep)])))],.r [(0,X (Xn ((i:Int)+1)))]] [(24,24),(104,104)] (ih9 ((i+1),(o++[({kind:=0,n:=1,attrs:=[],elems:=[]}:DStep)])) ?_ ?_)
    ·
     refine⟨by omega,?_⟩
     rw[I9.2,z58,ers_0 (hmi.symm.trans h13)]
    ·
     ((try dsimp only);omega)
   ·
    refine .bp [.r [(4,Xv 1 (!(seq au ({data:=#[]}))) X0),(5,Xv 1 (!(seq au ({data:=#[]}))) (Xc0 (z4T (((f.getD i default)).attrs) ({data:=#[97,100,100]})) X0)),(7,Xv 2 (!(seq au ({data:=#[]}))) X0),(8,X (Xk' (seq au ({data:=#[]}))))]] (seq au ({data:=#[]})||seq (getA (((f.getD i default)).attrs) ({data:=#[97,100,100]}) 0) au) (fun h14=> ?_) (fun h14=> ?_)
    ·
     refine .back [.r [],.r [(3,X (rowC z0c [({kind:=2,n:=1,attrs:=[],elems:=[]}:DStep)] (Xap 4 z0c 104 o [({kind:=2,n:=1,attrs:=[],elems:=[]}:DStep)])))],.r [(0,X (Xn ((i:Int)+1)))]] [(24,24),(104,104)] (ih9 ((i+1),(o++[({kind:=2,n:=1,attrs:=[],elems:=[]}:DStep)])) ?_ ?_)
     ·
      refine⟨by omega,?_⟩
      rw[I9.2,z58,ers_c (hmi.symm.trans h13) h14]
     ·
      ((try dsimp only);omega)
    ·
     refine .back [.r [],.r [(2,X (rowC attrT [({name:={data:=#[99,117,116]},val:=au}:Attr)] X0)),(3,X (rowC z0c [({kind:=0,n:=1,attrs:=[({name:={data:=#[99,117,116]},val:=au}:Attr)],elems:=[]}:DStep)] (Xap 4 z0c 104 o [({kind:=0,n:=1,attrs:=[({name:={data:=#[99,117,116]},val:=au}:Attr)],elems:=[]}:DStep)])))],.r [(0,X (Xn ((i:Int)+1)))]] [(24,24),(104,104)] (ih9 ((i+1),(o++[({kind:=0,n:=1,attrs:=[({name:={data:=#[99,117,116]},val:=au}:Attr)],elems:=[]}:DStep)])) ?_ ?_)
     ·
      refine⟨by omega,?_⟩
      rw[I9.2,z58,ers_k (hmi.symm.trans h13) h14]
     ·
      ((try dsimp only);omega)
  ·
   have ho:o=ersS f pl au f.length:=by rw[I9.2,show i=f.length by omega]
   rw[←ho] at dn el sl
   have e1:((ersD f pl au):List DStep)=(tidyL o):=by
    rw[ho];rfl
   exact .finE [.r [(1,X (Xc1 121 (z5n o (by assumption) (by omega) (by omega)) (rowC z0c o X0)))],.r []] [] (fun z0:List DStep=>(VL 4 z0c z0,[])) _ _ e1
theorem y5P(l:List Elem)(hn:l.length≤1048576)(hs:∀x∈l,x.attrs.length≤1048576):FC Tryz.prog 55 [VL 3 elemT l] (app emp []) (.row 0 l.length) (app emp [(0,OR 3 elemT l)]):=by
 refine .go Tryz.f55 ?_
 refine .len 0 (fun hl0=> ?_)
 refine .loop (α:=Nat×(List Elem)) [.r [],.r [(1,X (Xl elemT l)),(2,X (Xmz 3 elemT 24 (l.length:Int) (l.length:Int) ({char:=0,ref:=0,attrs:=[]}:Elem) [TI 0,TI 0,TN] ⟨.inl rfl,⟨.inl rfl,⟨z3X (by decide),trivial⟩⟩⟩))],.r [(1,X (Xl elemT l))]] 64 (fun(i,o)=>([(3,.row 24 l.length),(9,VL 3 elemT l),(10,VI (l.length:Int)),(11,VI (i:Int))],[(24,OR 3 elemT o)])) (fun(i,o)=>i≤l.length∧o=l.take i++List.replicate (l.length-i) ({char:=0,ref:=0,attrs:=[]}:Elem)) (fun(i,o)=>l.length-i) (0,(List.replicate l.length ({char:=0,ref:=0,attrs:=[]}:Elem))) ?_ ?_
 ·
  exact⟨by omega,by simp⟩
 rintro⟨i,o⟩ I3 ih3
 try dsimp only at I3
 have ol:o.length=l.length:=by rw[I3.2];simp;omega
 refine .bp [.r []] (decide ((i:Int)< (l.length:Int))) (fun h3=> ?_) (fun h3=> ?_)
 ·
  have hx:=hs _ (z18 (l:=l) (k:=i) (by omega))
  refine .back [.r [(1,X (Xi elemT l (i:Int)))],.r [(8,X (Xan attrT 184 (((l.getD i default)).attrs))),(10,X (Xpn l.length elemT o (i:Int))),(11,X (rowC attrT (((l.getD i default)).attrs) (Xsn l.length 3 elemT 24 o i ((l.getD i default)) [(184,OF 2 attrT (((l.getD i default)).attrs))])))],.r [(0,X (Xn ((i:Int)+1)))]] [(24,24)] (ih3 ((i+1),(o.set i ((l.getD i default)))) ?_ ?_)
  ·
   refine⟨by omega,?_⟩
   rw[I3.2]
   exact z8Z rfl (by omega) rfl
  ·
   ((try dsimp only);omega)
 ·
  have e1:(l:List Elem)=o:=by
   first|omega| (rw[I3.2,List.take_of_length_le (by omega),show l.length-i=0 by omega];simp)
  exact .finE [.r []] [(24,0)] (fun z0:List Elem=>(.row 0 l.length,[(0,OR 3 elemT z0)])) _ _ e1
theorem y1y(f:List Elem)(k:Int)(es:List Elem)(au:ByteArray)(hf:f.length≤10000000)(hk:0≤k∧k≤f.length)(he:es.length≤1048576)(ha:∀x∈es,x.attrs.length≤1048576):FC Tryz.prog 69 [VL 3 elemT f,VI k,VL 3 elemT es,VS au] (app emp []) (VL 4 z0c (typD f.length k es au)) (app emp []):=by
 refine .go Tryz.f69 ?_
 refine .len 0 (fun hl0=> ?_)
 refine .len 2 (fun hl2=> ?_)
 obtain⟨dn,el⟩:=y7v f.length k es au he ha
 refine .loop (α:=Nat×(List Elem)) [.r [],.r [(1,X (Xc1 16 (y5P es (by assumption) (by assumption)) X0))],.r []] 56 (fun(i,o)=>([(0,VL 3 elemT f),(1,VI k),(3,VS au),(9,.row 16 ((es).length)),(16,VI ((es).length:Int)),(17,VI (i:Int))],[(16,OR 3 elemT o)])) (fun(i,o)=>i≤es.length∧o=(es.take i).map (typE au)++es.drop i) (fun(i,o)=>es.length-i) (0,es) ?_ ?_
 ·
  exact⟨by omega,by simp⟩
 rintro⟨i,o⟩ I3 ih3
 try dsimp only at I3
 have ol:o.length=es.length:=by rw[I3.2];simp;omega
 refine .bp [.r []] (decide ((i:Int)< ((es).length:Int))) (fun h3=> ?_) (fun h3=> ?_)
 ·
  have hxa:=ha _ (z0g (l:=es) (i:=i) (by omega))
  have hog:o.getD i default=es.getD i default:=by rw[I3.2];exact y36 (by omega)
  rw[←hog] at hxa
  refine .back [.r [],.r [(4,X (Xpn ((es).length) elemT o (i:Int))),(6,X (Xen ((es).length) elemT o i)),(11,X (Xc1 168 (z5S (((o.getD i default)).attrs) [({name:={data:=#[97,100,100]},val:=au}:Attr),({name:={data:=#[99,117,116]},val:={data:=#[]}}:Attr)] (by simp only[List.length_cons,List.length_nil];omega)) (rowC attrT [({name:={data:=#[97,100,100]},val:=au}:Attr),({name:={data:=#[99,117,116]},val:={data:=#[]}}:Attr)] X0))),(12,X (Xpn ((es).length) elemT o (i:Int))),(14,X (Xsn ((es).length) 3 elemT 16 o i ({char:=((o.getD i default)).char,ref:=((o.getD i default)).ref,attrs:=(fm rawG (((o.getD i default)).attrs) [({name:={data:=#[97,100,100]},val:=au}:Attr),({name:={data:=#[99,117,116]},val:={data:=#[]}}:Attr)])}:Elem)))],.r [(0,X (Xn ((i:Int)+1)))]] [(16,16)] (ih3 ((i+1),(o.set i ({char:=((o.getD i default)).char,ref:=((o.getD i default)).ref,attrs:=(fm rawG (((o.getD i default)).attrs) [({name:={data:=#[97,100,100]},val:=au}:Attr),({name:={data:=#[99,117,116]},val:={data:=#[]}}:Attr)])}:Elem))) ?_ ?_)
  ·
   refine⟨by omega,?_⟩
   rw[hog,I3.2];exact z87 (by omega)
  ·
   ((try dsimp only);omega)
 ·
  have ho:o=es.map (typE au):=by rw[I3.2,List.take_of_length_le (by omega),List.drop_eq_nil_of_le (by omega),List.append_nil]
  obtain⟨dn2,l2,e2⟩:=y8A ho dn el
  have e1:((typD f.length k es au):List DStep)=(tidyL [({kind:=0,n:=k,attrs:=[],elems:=[]}:DStep),({kind:=1,n:=0,attrs:=[],elems:=o}:DStep),({kind:=0,n:=((f.length:Int)- k),attrs:=[],elems:=[]}:DStep)]):=by
   rw[ho];rfl
  exact .finE [.r [(1,X (Xf [(2,2),(3,3)])),(3,X (Xf [(2,2)])),(5,X (Xl elemT f)),(7,X (Xn ((f.length:Int)- k))),(8,X (Xf [(2,2),(3,3)])),(9,X (rowX ((es).length) elemT o X0)),(10,X (Xc1 144 (z5n [({kind:=0,n:=k,attrs:=[],elems:=[]}:DStep),({kind:=1,n:=0,attrs:=[],elems:=o}:DStep),({kind:=0,n:=((f.length:Int)- k),attrs:=[],elems:=[]}:DStep)] dn2 l2 e2) (rowC z0c [({kind:=0,n:=k,attrs:=[],elems:=[]}:DStep),({kind:=1,n:=0,attrs:=[],elems:=o}:DStep),({kind:=0,n:=((f.length:Int)- k),attrs:=[],elems:=[]}:DStep)] X0)))],.r []] [] (fun z0:List DStep=>(VL 4 z0c z0,[])) _ _ e1
end Go.Ch
end
section
set_option linter.unusedVariables false
set_option linter.unusedSimpArgs false
set_option maxRecDepth 100000
set_option maxHeartbeats 4000000
open Go Go.Proofs Go.Ab
namespace Go.Ch
theorem fc_at(d:Doc)(s:Sel)(au:ByteArray)(hb:DocL d):FC Tryz.prog 29 [.t (docT d),.t (selT s),VS au] (app emp []) (.tup [.t (plT (atP d s au)),VI (atE d s au)]) (app emp []):=by
 refine .go Tryz.f29 ?_
 have hdb:=hb.toDocB
 have hl:=hb.len
 refine .bp [.r [],.r [(1,X (Xc0 (z3k d (by assumption)) X0))],.r []] ((docE d) !=0) (fun h2=> ?_) (fun h2=> ?_)
 ·
  have T:=at_1 (s:=s) (au:=au) h2
  have e1:((atP d s au):Pl)=({node:=({id:=0,kind:=0,attrs:=[],flow:=[],grid:=({rows:=0,cols:=0,cells:=[],merges:=[]}:Grid),draw:=[]}:Node),shown:=[],author:={data:=#[]}}:Pl):=by
   exact T.1
  have e2:((atE d s au):Int)=(docE d):=by
   exact T.2
  exact .finVE [.r [(0,X (Xf [(2,2),(3,3),(6,5),(7,4),(8,8),(9,1)]))]] [] [] (fun((z0,z1):Pl×Int)=>(.tup [.t (plT z0),VI z1],[])) _ _ (pr e1 e2)
 ·
  have hs:=z5h (d:=d) (by omega)
  refine .bp [.r [(3,X (Xc0 (z5k d s.nd (by assumption) (by assumption)) X0))],.r []] (decide ((ixN (d).nodes s.nd)< 0)) (fun h5=> ?_) (fun h5=> ?_)
  ·
   have T:=at_2 (au:=au) (by omega) (y1d.1 h5)
   have e3:((atP d s au):Pl)=({node:=({id:=0,kind:=0,attrs:=[],flow:=[],grid:=({rows:=0,cols:=0,cells:=[],merges:=[]}:Grid),draw:=[]}:Node),shown:=[],author:={data:=#[]}}:Pl):=by
    exact T.1
   have e4:((atE d s au):Int)=7:=by
    exact T.2
   exact .finVE [.r [(0,X (Xf [(2,2),(3,3),(6,5),(7,4),(8,8),(9,1)]))]] [] [] (fun((z0,z1):Pl×Int)=>(.tup [.t (plT z0),VI z1],[])) _ _ (pr e3 e4)
  ·
   have hh:=y1c.1 h5
   have hlt:=(z08.1 hh).1
   have hbn:=(hb.all _ (z2z hlt)).fl2
   refine .bp [.le (.eq 9 (VI (ixN (d).nodes s.nd)) (VI (lobN d.nodes s.nd:Int)) (.of_eq (by rw[z9V hh]))),.r [(3,X (Xi nodeT d.nodes (lobN d.nodes s.nd:Int))),(6,X (Xf [(9,1)]))],.r [(3,X (Xc0 (z5e (((d.nodes.getD (lobN d.nodes s.nd) default)).kind)) X0))]] (!(hasT (((d.nodes.getD (lobN d.nodes s.nd) default)).kind))) (fun h8=> ?_) (fun h8=> ?_)
   ·
    have T:=at_3 (au:=au) (by omega) hh h8
    have e5:((atP d s au):Pl)=({node:=({id:=0,kind:=0,attrs:=[],flow:=[],grid:=({rows:=0,cols:=0,cells:=[],merges:=[]}:Grid),draw:=[]}:Node),shown:=[],author:={data:=#[]}}:Pl):=by
     exact T.1
    have e6:((atE d s au):Int)=8:=by
     exact T.2
    exact .finVE [.r [(0,X (Xf [(2,2),(3,3),(6,5),(7,4),(8,8),(9,1)]))]] [] [] (fun((z0,z1):Pl×Int)=>(.tup [.t (plT z0),VI z1],[])) _ _ (pr e5 e6)
   ·
    refine .bp [.r [(3,X (Xc1 264 (y4f (((d.nodes.getD (lobN d.nodes s.nd) default)).flow) 0 (by omega)) X0))],.r [(5,Xv 1 (!(decide (s.fr<0))) X0),(7,Xv 1 (!(decide (s.fr<0))) X0),(8,Xv 2 (!(decide (s.fr<0))) X0),(9,X (Xk' (decide (s.fr<0)))),(12,Xv 1 (!(decide (s.fr<0)||decide (s.tq<s.fr))) X0),(14,Xv 1 (!(decide (s.fr<0)||decide (s.tq<s.fr))) X0),(15,Xv 1 (!(decide (s.fr<0)||decide (s.tq<s.fr))) (Xl intT (plcL (((d.nodes.getD (lobN d.nodes s.nd) default)).flow) 0 ((((d.nodes.getD (lobN d.nodes s.nd) default)).flow)).length))),(16,Xv 2 (!(decide (s.fr<0)||decide (s.tq<s.fr))) X0),(17,X (Xk' (decide (s.fr<0)||decide (s.tq<s.fr))))]] ((decide (s.fr<0)||decide (s.tq<s.fr))||decide (s.tq≥((plcL (((d.nodes.getD (lobN d.nodes s.nd) default)).flow) 0 ((((d.nodes.getD (lobN d.nodes s.nd) default)).flow)).length).length:Int))) (fun h11=> ?_) (fun h11=> ?_)
    ·
     have T:=at_4 (au:=au) (by omega) hh h8 h11
     have e7:((atP d s au):Pl)=({node:=({id:=0,kind:=0,attrs:=[],flow:=[],grid:=({rows:=0,cols:=0,cells:=[],merges:=[]}:Grid),draw:=[]}:Node),shown:=[],author:={data:=#[]}}:Pl):=by
      exact T.1
     have e8:((atE d s au):Int)=2:=by
      exact T.2
     exact .finVE [.r [(0,X (Xf [(2,2),(3,3),(6,5),(7,4),(8,8),(9,1)]))]] [] [] (fun((z0,z1):Pl×Int)=>(.tup [.t (plT z0),VI z1],[])) _ _ (pr e7 e8)
    ·
     refine .bp [.r [(4,Xv 1 (!(seq au ({data:=#[]}))) (Xc0 (z3h au) X0)),(5,Xv 1 (!(seq au ({data:=#[]}))) X0),(6,X (Xk (!(seq au ({data:=#[]})))))]] (!(seq au ({data:=#[]}))&& !(valGo au)) (fun h13=> ?_) (fun h13=> ?_)
     ·
      have T:=at_5 (by omega) hh h8 h11 h13
      have e9:((atP d s au):Pl)=({node:=({id:=0,kind:=0,attrs:=[],flow:=[],grid:=({rows:=0,cols:=0,cells:=[],merges:=[]}:Grid),draw:=[]}:Node),shown:=[],author:={data:=#[]}}:Pl):=by
       exact T.1
      have e10:((atE d s au):Int)=23:=by
       exact T.2
      exact .finVE [.r [(0,X (Xf [(2,2),(3,3),(6,5),(7,4),(8,8),(9,1)]))]] [] [] (fun((z0,z1):Pl×Int)=>(.tup [.t (plT z0),VI z1],[])) _ _ (pr e9 e10)
     ·
      have T:=at_6 (by omega) hh h8 h11 h13
      have e11:((atP d s au):Pl)=({node:=((d.nodes.getD (lobN d.nodes s.nd) default)),shown:=(plcL (((d.nodes.getD (lobN d.nodes s.nd) default)).flow) 0 ((((d.nodes.getD (lobN d.nodes s.nd) default)).flow)).length),author:=au}:Pl):=by
       exact T.1
      have e12:((atE d s au):Int)=0:=by
       exact T.2
      exact .finVE [.r []] [] [] (fun((z0,z1):Pl×Int)=>(.tup [.t (plT z0),VI z1],[])) _ _ (pr e11 e12)
theorem z2Q(p:Pl)(k:Int)(hb:PlB p):FC Tryz.prog 43 [.ptr 0 0,VI k] (app emp [(0,.box [VI p.node.id,VI p.node.kind,VL 2 attrT p.node.attrs,VL 3 elemT p.node.flow,VI p.node.grid.rows,VI p.node.grid.cols,VL 5 cellT p.node.grid.cells,VL 4 rectT p.node.grid.merges,VL 8 dopT p.node.draw,VL 1 intT p.shown,VS p.author])]) (.t (elemT (elemP p k))) (app emp [(0,.box [VI p.node.id,VI p.node.kind,VL 2 attrT p.node.attrs,VL 3 elemT p.node.flow,VI p.node.grid.rows,VI p.node.grid.cols,VL 5 cellT p.node.grid.cells,VL 4 rectT p.node.grid.merges,VL 8 dopT p.node.draw,VL 1 intT p.shown,VS p.author])]):=by
 refine .go Tryz.f43 ?_
 refine .bp [.r [],.r [(5,Xv 1 (!(decide (k<0))) X0),(6,Xv 1 (!(decide (k<0))) X0),(7,Xv 1 (!(decide (k<0))) X0),(8,Xv 1 (!(decide (k<0))) (Xl intT p.shown)),(9,Xv 2 (!(decide (k<0))) X0),(10,X (Xk' (decide (k<0))))]] (decide (k<0)||decide (k≥(p.shown.length:Int))) (fun h1=> ?_) (fun h1=> ?_)
 ·
  have e1:((elemP p k):Elem)=({char:=10,ref:=0,attrs:=[]}:Elem):=by
   unfold elemP;rw[if_pos (by omega)]
  exact .finVE [.r [(0,X (Xf [(2,2)]))]] [] [(0,0)] (fun z0:Elem=>(.t (elemT z0),[(0,.box [VI p.node.id,VI p.node.kind,VL 2 attrT p.node.attrs,VL 3 elemT p.node.flow,VI p.node.grid.rows,VI p.node.grid.cols,VL 5 cellT p.node.grid.cells,VL 4 rectT p.node.grid.merges,VL 8 dopT p.node.draw,VL 1 intT p.shown,VS p.author])])) _ _ e1
 ·
  have hx:=hb.ok _ (z0g (l:=p.shown) (i:=k.toNat) (by omega))
  have e2:((elemP p k):Elem)=((p.node.flow.getD (Int.toNat (p.shown.getD (Int.toNat k) default)) default)):=by
   unfold elemP;rw[if_neg (by omega)]
  exact .finVE [.r [(10,X (Xi intT p.shown k)),(12,X (Xi elemT p.node.flow (p.shown.getD (Int.toNat k) default)))]] [] [(0,0)] (fun z0:Elem=>(.t (elemT z0),[(0,.box [VI p.node.id,VI p.node.kind,VL 2 attrT p.node.attrs,VL 3 elemT p.node.flow,VI p.node.grid.rows,VI p.node.grid.cols,VL 5 cellT p.node.grid.cells,VL 4 rectT p.node.grid.merges,VL 8 dopT p.node.draw,VL 1 intT p.shown,VS p.author])])) _ _ e2
theorem y7w(l:List ByteArray)(x:ByteArray):FC Tryz.prog 105 [VL 1 strT l,VS x] (app emp []) (VI (idxF (fun y=>seq x y) l 0)) (app emp []):=by
 refine .go Tryz.f105 ?_
 refine .len 0 (fun hl0=> ?_)
 refine .loop (α:=Nat) [.r [],.r [(1,X (Xl strT l))]] 32 (fun i=>([(0,VL 1 strT l),(1,VS x),(7,VI (l.length:Int)),(8,VI (i:Int))],[])) (fun i=>i≤l.length∧idxF (fun y=>seq x y) l 0=idxF (fun y=>seq x y) l i) (fun i=>l.length-i) (0:Nat) ?_ ?_
 ·
  exact⟨by omega,rfl⟩
 rintro i I2 ih2
 try dsimp only at I2
 refine .bp [.r []] (decide ((i:Int)< (l.length:Int))) (fun h2=> ?_) (fun h2=> ?_)
 ·
  refine .bp [.r [],.r [(3,X (Xi strT l (i:Int)))]] (seq x (l.getD i default)) (fun h4=> ?_) (fun h4=> ?_)
  ·
   have e1:((idxF (fun y=>seq x y) l 0):Int)=(i:Int):=by
    rw[I2.2,idxF,if_pos (by omega),if_pos h4]
   exact .finE [.r []] [] (fun z0:Int=>(VI z0,[])) _ _ e1
  ·
   refine .back [.r [(0,X (Xn ((i:Int)+1)))]] [] (ih2 ((i+1):Nat) ?_ ?_)
   ·
    exact⟨by omega,by rw[I2.2,idxF,if_pos (by omega),if_neg (by rw[h4];decide)]⟩
   ·
    ((try dsimp only);omega)
 ·
  have e2:((idxF (fun y=>seq x y) l 0):Int)= -1:=by
   rw[I2.2,idxF,if_neg (by omega)]
  exact .finE [.r []] [] (fun z0:Int=>(VI z0,[])) _ _ e2
theorem y4h(l:List ByteArray)(x:ByteArray):FC Tryz.prog 67 [VL 1 strT l,VS x] (app emp []) (VB (l.any (fun y=>seq x y))) (app emp []):=by
 refine .go Tryz.f67 ?_
 refine .len 0 (fun hl0=> ?_)
 have e1:((l.any (fun y=>seq x y)):Bool)=decide ((idxF (fun y=>seq x y) l 0)≥0):=by
  rw[Bool.eq_iff_iff];simp only[decide_eq_true_eq,ge_iff_le];rw[y0X]
 exact .finE [.r [],.r [(2,X (Xc0 (y7w l x) X0))]] [] (fun z0:Bool=>(VB z0,[])) _ _ e1
theorem z6V(n:ByteArray):FC Tryz.prog 63 [VS n] (app emp []) (VB (sprB n)) (app emp []):=by
 refine .go Tryz.f63 ?_
 have e1:((sprB n):Bool)=(([{data:=#[98,111,108,100]},{data:=#[105,116,97,108,105,99]},{data:=#[117,110,100,101,114]},{data:=#[115,116,114,105,107,101]},{data:=#[102,105,120,101,100]},{data:=#[114,97,105,115,101]},{data:=#[115,105,122,101]},{data:=#[99,111,108,111,117,114]},{data:=#[108,97,110,103]},{data:=#[115,116,121,108,101]}]).any (fun y=>seq n y)):=by
  rfl
 exact .finE [.r [],.r [(2,X (Xc0 (y4h [{data:=#[98,111,108,100]},{data:=#[105,116,97,108,105,99]},{data:=#[117,110,100,101,114]},{data:=#[115,116,114,105,107,101]},{data:=#[102,105,120,101,100]},{data:=#[114,97,105,115,101]},{data:=#[115,105,122,101]},{data:=#[99,111,108,111,117,114]},{data:=#[108,97,110,103]},{data:=#[115,116,121,108,101]}] n) (rowC strT [{data:=#[98,111,108,100]},{data:=#[105,116,97,108,105,99]},{data:=#[117,110,100,101,114]},{data:=#[115,116,114,105,107,101]},{data:=#[102,105,120,101,100]},{data:=#[114,97,105,115,101]},{data:=#[115,105,122,101]},{data:=#[99,111,108,111,117,114]},{data:=#[108,97,110,103]},{data:=#[115,116,121,108,101]}] X0)))]] [] (fun z0:Bool=>(VB z0,[])) _ _ e1
theorem z2E(n:ByteArray):FC Tryz.prog 64 [VS n] (app emp []) (VB (btwB n)) (app emp []):=by
 refine .go Tryz.f64 ?_
 have e1:((btwB n):Bool)=(((seq n ({data:=#[108,105,110,107]})||seq n ({data:=#[108,111,99,107]}))|| (decide ((n.size:Int)> 7)&&seq (n.extract ((0:Int)).toNat ((7:Int)).toNat) ({data:=#[114,101,109,97,114,107,46]})))|| (decide ((n.size:Int)> 5)&&seq (n.extract ((0:Int)).toNat ((5:Int)).toNat) ({data:=#[109,97,114,107,46]}))):=by
  rfl
 exact .finE [.r [],.r [(4,Xv 1 (!(seq n ({data:=#[108,105,110,107]}))) X0),(5,X (Xk' (seq n ({data:=#[108,105,110,107]})))),(8,Xv 1 (!(seq n ({data:=#[108,105,110,107]})||seq n ({data:=#[108,111,99,107]}))) X0),(9,Xv 1 (!(seq n ({data:=#[108,105,110,107]})||seq n ({data:=#[108,111,99,107]}))) X0),(10,Xv 1 (!(seq n ({data:=#[108,105,110,107]})||seq n ({data:=#[108,111,99,107]}))) X0),(12,Xv 1 ((!(seq n ({data:=#[108,105,110,107]})||seq n ({data:=#[108,111,99,107]})))&&(decide ((n.size:Int)> 7))) (Xa (Xc ((0:Int)≤0)) (Xa (Xc ((0:Int)≤7)) (Xc ((7:Int)≤(n.size:Int)))))),(13,Xv 1 ((!(seq n ({data:=#[108,105,110,107]})||seq n ({data:=#[108,111,99,107]})))&&(decide ((n.size:Int)> 7))) X0),(14,Xka (!(seq n ({data:=#[108,105,110,107]})||seq n ({data:=#[108,111,99,107]}))) (decide ((n.size:Int)> 7))),(15,X (Xk' (seq n ({data:=#[108,105,110,107]})||seq n ({data:=#[108,111,99,107]})))),(18,Xv 1 (!((seq n ({data:=#[108,105,110,107]})||seq n ({data:=#[108,111,99,107]}))|| (decide ((n.size:Int)> 7)&&seq (n.extract ((0:Int)).toNat ((7:Int)).toNat) ({data:=#[114,101,109,97,114,107,46]})))) X0),(19,Xv 1 (!((seq n ({data:=#[108,105,110,107]})||seq n ({data:=#[108,111,99,107]}))|| (decide ((n.size:Int)> 7)&&seq (n.extract ((0:Int)).toNat ((7:Int)).toNat) ({data:=#[114,101,109,97,114,107,46]})))) X0),(20,Xv 1 (!((seq n ({data:=#[108,105,110,107]})||seq n ({data:=#[108,111,99,107]}))|| (decide ((n.size:Int)> 7)&&seq (n.extract ((0:Int)).toNat ((7:Int)).toNat) ({data:=#[114,101,109,97,114,107,46]})))) X0),(22,Xv 1 ((!((seq n ({data:=#[108,105,110,107]})||seq n ({data:=#[108,111,99,107]}))|| (decide ((n.size:Int)> 7)&&seq (n.extract ((0:Int)).toNat ((7:Int)).toNat) ({data:=#[114,101,109,97,114,107,46]}))))&&(decide ((n.size:Int)> 5))) (Xa (Xc ((0:Int)≤0)) (Xa (Xc ((0:Int)≤5)) (Xc ((5:Int)≤(n.size:Int)))))),(23,Xv 1 ((!((seq n ({data:=#[108,105,110,107]})||seq n ({data:=#[108,111,99,107]}))|| (decide ((n.size:Int)> 7)&&seq (n.extract ((0:Int)).toNat ((7:Int)).toNat) ({data:=#[114,101,109,97,114,107,46]}))))&&(decide ((n.size:Int)> 5))) X0),(24,Xka (!((seq n ({data:=#[108,105,110,107]})||seq n ({data:=#[108,111,99,107]}))|| (decide ((n.size:Int)> 7)&&seq (n.extract ((0:Int)).toNat ((7:Int)).toNat) ({data:=#[114,101,109,97,114,107,46]})))) (decide ((n.size:Int)> 5))),(25,X (Xk' ((seq n ({data:=#[108,105,110,107]})||seq n ({data:=#[108,111,99,107]}))|| (decide ((n.size:Int)> 7)&&seq (n.extract ((0:Int)).toNat ((7:Int)).toNat) ({data:=#[114,101,109,97,114,107,46]})))))]] [] (fun z0:Bool=>(VB z0,[])) _ _ e1
end Go.Ch
end
section
set_option linter.unusedVariables false
set_option linter.unusedSimpArgs false
set_option maxRecDepth 100000
set_option maxHeartbeats 4000000
open Go Go.Proofs Go.Ab
namespace Go.Ch
theorem y6A(p:Pl)(k:Int)(hb:PlB p)(hk:0≤k∧k≤1000000000):FC Tryz.prog 31 [.ptr 0 0,VI k] (app emp [(0,.box [VI p.node.id,VI p.node.kind,VL 2 attrT p.node.attrs,VL 3 elemT p.node.flow,VI p.node.grid.rows,VI p.node.grid.cols,VL 5 cellT p.node.grid.cells,VL 4 rectT p.node.grid.merges,VL 8 dopT p.node.draw,VL 1 intT p.shown,VS p.author])]) (VL 2 attrT (inhP p k)) (app emp [(0,.box [VI p.node.id,VI p.node.kind,VL 2 attrT p.node.attrs,VL 3 elemT p.node.flow,VI p.node.grid.rows,VI p.node.grid.cols,VL 5 cellT p.node.grid.cells,VL 4 rectT p.node.grid.merges,VL 8 dopT p.node.draw,VL 1 intT p.shown,VS p.author])]):=by
 refine .go Tryz.f31 ?_
 have b1:=z6a hb k
 have b2:=z6a hb (k- 1)
 refine .bp [.r [],.r [(2,X (Xn (k- 1))),(3,X (Xc4 [(0,0)] (z2Q p (k- 1) (by assumption)) X0)),(6,X (Xc4 [(0,0)] (z2Q p k (by assumption)) X0))],.r [],.r []] ((((elemP p (k- 1))).char)==10) (fun h3=> ?_) (fun h3=> ?_)
 ·
  refine .bp [.r [],.r [],.r []] ((((elemP p k)).char) !=10) (fun h6=> ?_) (fun h6=> ?_)
  ·
   refine .loop (α:=Nat×(List Attr)) [.r [(2,X (Xl attrT (((elemP p k)).attrs)))],.le (.nR 8 2)] 226 (fun(i,o)=>([(1,VI k),(5,.ptr 65 0),(6,.ptr 73 0),(8,.row 225 o.length),(29,VL 2 attrT (((elemP p k)).attrs)),(30,VI ((((elemP p k)).attrs).length:Int)),(31,VI (i:Int))],[(0,.box [VI p.node.id,VI p.node.kind,VL 2 attrT p.node.attrs,VL 3 elemT p.node.flow,VI p.node.grid.rows,VI p.node.grid.cols,VL 5 cellT p.node.grid.cells,VL 4 rectT p.node.grid.merges,VL 8 dopT p.node.draw,VL 1 intT p.shown,VS p.author]),(65,.box [VI (((elemP p (k- 1))).char),VI (((elemP p (k- 1))).ref),VL 2 attrT (((elemP p (k- 1))).attrs)]),(73,.box [VI (((elemP p k)).char),VI (((elemP p k)).ref),VL 2 attrT (((elemP p k)).attrs)]),(225,OR 2 attrT o)])) (fun(i,o)=>i≤((((elemP p k)).attrs)).length∧o=(((((elemP p k)).attrs)).take i).filter (fun a=>sprB a.name)) (fun(i,o)=>((((elemP p k)).attrs)).length-i) (0,[]) ?_ ?_
   ·
    exact⟨by omega,rfl⟩
   rintro⟨i,o⟩ I8 ih8
   try dsimp only at I8
   have ol:o.length≤i:=by rw[I8.2];exact Nat.le_trans (List.length_filter_le ..) (by rw[List.length_take];omega)
   refine .bp [.r []] (decide ((i:Int)< ((((elemP p k)).attrs).length:Int))) (fun h8=> ?_) (fun h8=> ?_)
   ·
    refine .bp [.r [(0,X (Xi attrT (((elemP p k)).attrs) (i:Int)))],.r [(2,X (Xc0 (z6V ((((((elemP p k)).attrs).getD i default)).name)) X0))]] (sprB ((((((elemP p k)).attrs).getD i default)).name)) (fun h10=> ?_) (fun h10=> ?_)
    ·
     refine .back [.r [(3,X (rowC attrT [(((((elemP p k)).attrs).getD i default))] (Xap 2 attrT 225 o [(((((elemP p k)).attrs).getD i default))])))],.r [(0,X (Xn ((i:Int)+1)))]] [(0,0),(65,65),(73,73),(225,225)] (ih8 ((i+1),(o++[(((((elemP p k)).attrs).getD i default))])) ?_ ?_)
     ·
      refine⟨by omega,?_⟩
      rw[I8.2,List.take_succ_eq_append_getElem (by omega),List.filter_append]
      first|rw[z3n (by omega) h10]|rw[z3o (by omega) h10,List.append_nil]
     ·
      ((try dsimp only);omega)
    ·
     refine .back [.r [(0,X (Xn ((i:Int)+1)))]] [(0,0),(65,65),(73,73),(225,225)] (ih8 ((i+1),o) ?_ ?_)
     ·
      refine⟨by omega,?_⟩
      rw[I8.2,List.take_succ_eq_append_getElem (by omega),List.filter_append]
      first|rw[z3n (by omega) h10]|rw[z3o (by omega) h10,List.append_nil]
     ·
      ((try dsimp only);omega)
   ·
    have hB:=z5l p k
    simp only[h3,h6,if_true,if_false,ne_eq,not_true_eq_false,not_false_eq_true,ite_true,ite_false,reduceIte] at hB
    refine .loop (α:=(List Attr)×Nat) [.r [(2,X (Xl attrT (((elemP p (k- 1))).attrs)))],.le (.fr 8 [(o.length:Nat)=(List.map attrT o).length] ⟨lm,trivial⟩)] 266 (fun(q,j)=>([(1,VI k),(6,.ptr 73 0),(8,VL 2 attrT q),(44,VL 2 attrT (((elemP p (k- 1))).attrs)),(45,VI ((((elemP p (k- 1))).attrs).length:Int)),(46,VI (j:Int))],[(0,.box [VI p.node.id,VI p.node.kind,VL 2 attrT p.node.attrs,VL 3 elemT p.node.flow,VI p.node.grid.rows,VI p.node.grid.cols,VL 5 cellT p.node.grid.cells,VL 4 rectT p.node.grid.merges,VL 8 dopT p.node.draw,VL 1 intT p.shown,VS p.author]),(73,.box [VI (((elemP p k)).char),VI (((elemP p k)).ref),VL 2 attrT (((elemP p k)).attrs)])])) (fun(q,j)=>j≤(elemP p (k- 1)).attrs.length∧q=inhO (elemP p k) k (inhB p k) ((elemP p (k- 1)).attrs.take j)∧q.length≤1048576+j) (fun(q,j)=>(elemP p (k- 1)).attrs.length-j) (o,0) ?_ ?_
    ·
     first|exact absurd h6 h3|exact⟨by omega,by rw[hB];first| (rw[I8.2,List.take_of_length_le (by omega)];rfl)|rfl,by first|omega|simp⟩
    rintro⟨q,j⟩ I14 ih14
    try dsimp only at I14
    refine .bp [.r []] (decide ((j:Int)< ((((elemP p (k- 1))).attrs).length:Int))) (fun h14=> ?_) (fun h14=> ?_)
    ·
     refine .bp [.r [(0,X (Xi attrT (((elemP p (k- 1))).attrs) (j:Int)))],.r [(2,X (Xc0 (z2E ((((((elemP p (k- 1))).attrs).getD j default)).name)) X0)),(5,Xv 1 (btwB ((((((elemP p (k- 1))).attrs).getD j default)).name)) X0),(6,X (Xk (btwB ((((((elemP p (k- 1))).attrs).getD j default)).name)))),(9,Xv 1 ((btwB ((((((elemP p (k- 1))).attrs).getD j default)).name))&&decide (k>0)) X0),(11,Xv 1 ((btwB ((((((elemP p (k- 1))).attrs).getD j default)).name))&&decide (k>0)) X0),(12,Xv 2 ((btwB ((((((elemP p (k- 1))).attrs).getD j default)).name))&&decide (k>0)) (Xc0 (z4T (((elemP p k)).attrs) ((((((elemP p (k- 1))).attrs).getD j default)).name)) X0)),(14,Xv 1 ((btwB ((((((elemP p (k- 1))).attrs).getD j default)).name))&&decide (k>0)) X0),(15,Xv 2 ((btwB ((((((elemP p (k- 1))).attrs).getD j default)).name))&&decide (k>0)) X0),(16,X (Xk ((btwB ((((((elemP p (k- 1))).attrs).getD j default)).name))&&decide (k>0))))]] (((btwB ((((((elemP p (k- 1))).attrs).getD j default)).name))&&decide (k>0))&&seq (getA (((elemP p k)).attrs) ((((((elemP p (k- 1))).attrs).getD j default)).name) 0) ((((((elemP p (k- 1))).attrs).getD j default)).val)) (fun h16=> ?_) (fun h16=> ?_)
     ·
      refine .back [.r [(3,X (Xc1 466 (z5S q [(((((elemP p (k- 1))).attrs).getD j default))] (by simp only[List.length_cons,List.length_nil];omega)) (rowC attrT [(((((elemP p (k- 1))).attrs).getD j default))] X0)))],.r [(0,X (Xn ((j:Int)+1)))]] [(0,0),(73,73)] (ih14 ((fm rawG q [(((((elemP p (k- 1))).attrs).getD j default))]),(j+1)) ?_ ?_)
      ·
       first
       |exact⟨by omega,by rw[z0I (by omega),if_pos (z40 h16),←I14.2.1],Nat.le_trans (z1q ..) (by simp;omega)⟩
       |exact⟨by omega,by rw[z0I (by omega),if_neg (z41 h16)];exact I14.2.1,by omega⟩
      ·
       ((try dsimp only);omega)
     ·
      refine .back [.r [(0,X (Xn ((j:Int)+1)))]] [(0,0),(73,73)] (ih14 (q,(j+1)) ?_ ?_)
      ·
       first
       |exact⟨by omega,by rw[z0I (by omega),if_pos (z40 h16),←I14.2.1],Nat.le_trans (z1q ..) (by simp;omega)⟩
       |exact⟨by omega,by rw[z0I (by omega),if_neg (z41 h16)];exact I14.2.1,by omega⟩
      ·
       ((try dsimp only);omega)
    ·
     have e1:((inhP p k):List Attr)=q:=by
      rw[I14.2.1,List.take_of_length_le (by omega)];rfl
     exact .finE [.r []] [(0,0)] (fun z0:List Attr=>(VL 2 attrT z0,[(0,.box [VI p.node.id,VI p.node.kind,VL 2 attrT p.node.attrs,VL 3 elemT p.node.flow,VI p.node.grid.rows,VI p.node.grid.cols,VL 5 cellT p.node.grid.cells,VL 4 rectT p.node.grid.merges,VL 8 dopT p.node.draw,VL 1 intT p.shown,VS p.author])])) _ _ e1
  ·
   have hB:=z5l p k
   simp only[h3,h6,if_true,if_false,ne_eq,not_true_eq_false,not_false_eq_true,ite_true,ite_false,reduceIte] at hB
   refine .loop (α:=(List Attr)×Nat) [.r [(2,X (Xl attrT (((elemP p (k- 1))).attrs)))],.le (.nL 8 2)] 225 (fun(q,j)=>([(1,VI k),(6,.ptr 73 0),(8,VL 2 attrT q),(44,VL 2 attrT (((elemP p (k- 1))).attrs)),(45,VI ((((elemP p (k- 1))).attrs).length:Int)),(46,VI (j:Int))],[(0,.box [VI p.node.id,VI p.node.kind,VL 2 attrT p.node.attrs,VL 3 elemT p.node.flow,VI p.node.grid.rows,VI p.node.grid.cols,VL 5 cellT p.node.grid.cells,VL 4 rectT p.node.grid.merges,VL 8 dopT p.node.draw,VL 1 intT p.shown,VS p.author]),(73,.box [VI (((elemP p k)).char),VI (((elemP p k)).ref),VL 2 attrT (((elemP p k)).attrs)])])) (fun(q,j)=>j≤(elemP p (k- 1)).attrs.length∧q=inhO (elemP p k) k (inhB p k) ((elemP p (k- 1)).attrs.take j)∧q.length≤1048576+j) (fun(q,j)=>(elemP p (k- 1)).attrs.length-j) ([],0) ?_ ?_
   ·
    first|exact absurd h6 h3|exact⟨by omega,by rw[hB];first| (rw[I8.2,List.take_of_length_le (by omega)];rfl)|rfl,by first|omega|simp⟩
   rintro⟨q,j⟩ I14 ih14
   try dsimp only at I14
   refine .bp [.r []] (decide ((j:Int)< ((((elemP p (k- 1))).attrs).length:Int))) (fun h14=> ?_) (fun h14=> ?_)
   ·
    refine .bp [.r [(0,X (Xi attrT (((elemP p (k- 1))).attrs) (j:Int)))],.r [(2,X (Xc0 (z2E ((((((elemP p (k- 1))).attrs).getD j default)).name)) X0)),(5,Xv 1 (btwB ((((((elemP p (k- 1))).attrs).getD j default)).name)) X0),(6,X (Xk (btwB ((((((elemP p (k- 1))).attrs).getD j default)).name)))),(9,Xv 1 ((btwB ((((((elemP p (k- 1))).attrs).getD j default)).name))&&decide (k>0)) X0),(11,Xv 1 ((btwB ((((((elemP p (k- 1))).attrs).getD j default)).name))&&decide (k>0)) X0),(12,Xv 2 ((btwB ((((((elemP p (k- 1))).attrs).getD j default)).name))&&decide (k>0)) (Xc0 (z4T (((elemP p k)).attrs) ((((((elemP p (k- 1))).attrs).getD j default)).name)) X0)),(14,Xv 1 ((btwB ((((((elemP p (k- 1))).attrs).getD j default)).name))&&decide (k>0)) X0),(15,Xv 2 ((btwB ((((((elemP p (k- 1))).attrs).getD j default)).name))&&decide (k>0)) X0),(16,X (Xk ((btwB ((((((elemP p (k- 1))).attrs).getD j default)).name))&&decide (k>0))))]] (((btwB ((((((elemP p (k- 1))).attrs).getD j default)).name))&&decide (k>0))&&seq (getA (((elemP p k)).attrs) ((((((elemP p (k- 1))).attrs).getD j default)).name) 0) ((((((elemP p (k- 1))).attrs).getD j default)).val)) (fun h16=> ?_) (fun h16=> ?_)
    ·
     refine .back [.r [(3,X (Xc1 425 (z5S q [(((((elemP p (k- 1))).attrs).getD j default))] (by simp only[List.length_cons,List.length_nil];omega)) (rowC attrT [(((((elemP p (k- 1))).attrs).getD j default))] X0)))],.r [(0,X (Xn ((j:Int)+1)))]] [(0,0),(73,73)] (ih14 ((fm rawG q [(((((elemP p (k- 1))).attrs).getD j default))]),(j+1)) ?_ ?_)
     ·
      first
      |exact⟨by omega,by rw[z0I (by omega),if_pos (z40 h16),←I14.2.1],Nat.le_trans (z1q ..) (by simp;omega)⟩
      |exact⟨by omega,by rw[z0I (by omega),if_neg (z41 h16)];exact I14.2.1,by omega⟩
     ·
      ((try dsimp only);omega)
    ·
     refine .back [.r [(0,X (Xn ((j:Int)+1)))]] [(0,0),(73,73)] (ih14 (q,(j+1)) ?_ ?_)
     ·
      first
      |exact⟨by omega,by rw[z0I (by omega),if_pos (z40 h16),←I14.2.1],Nat.le_trans (z1q ..) (by simp;omega)⟩
      |exact⟨by omega,by rw[z0I (by omega),if_neg (z41 h16)];exact I14.2.1,by omega⟩
     ·
      ((try dsimp only);omega)
   ·
    have e2:((inhP p k):List Attr)=q:=by
     rw[I14.2.1,List.take_of_length_le (by omega)];rfl
    exact .finE [.r []] [(0,0)] (fun z0:List Attr=>(VL 2 attrT z0,[(0,.box [VI p.node.id,VI p.node.kind,VL 2 attrT p.node.attrs,VL 3 elemT p.node.flow,VI p.node.grid.rows,VI p.node.grid.cols,VL 5 cellT p.node.grid.cells,VL 4 rectT p.node.grid.merges,VL 8 dopT p.node.draw,VL 1 intT p.shown,VS p.author])])) _ _ e2
 ·
  refine .bp [.r [],.r []] ((((elemP p (k- 1))).char) !=10) (fun h6=> ?_) (fun h6=> ?_)
  ·
   refine .loop (α:=Nat×(List Attr)) [.r [(2,X (Xl attrT (((elemP p (k- 1))).attrs)))],.le (.nR 8 2)] 210 (fun(i,o)=>([(1,VI k),(5,.ptr 65 0),(6,.ptr 73 0),(8,.row 209 o.length),(29,VL 2 attrT (((elemP p (k- 1))).attrs)),(30,VI ((((elemP p (k- 1))).attrs).length:Int)),(31,VI (i:Int))],[(0,.box [VI p.node.id,VI p.node.kind,VL 2 attrT p.node.attrs,VL 3 elemT p.node.flow,VI p.node.grid.rows,VI p.node.grid.cols,VL 5 cellT p.node.grid.cells,VL 4 rectT p.node.grid.merges,VL 8 dopT p.node.draw,VL 1 intT p.shown,VS p.author]),(65,.box [VI (((elemP p (k- 1))).char),VI (((elemP p (k- 1))).ref),VL 2 attrT (((elemP p (k- 1))).attrs)]),(73,.box [VI (((elemP p k)).char),VI (((elemP p k)).ref),VL 2 attrT (((elemP p k)).attrs)]),(209,OR 2 attrT o)])) (fun(i,o)=>i≤((((elemP p (k- 1))).attrs)).length∧o=(((((elemP p (k- 1))).attrs)).take i).filter (fun a=>sprB a.name)) (fun(i,o)=>((((elemP p (k- 1))).attrs)).length-i) (0,[]) ?_ ?_
   ·
    exact⟨by omega,rfl⟩
   rintro⟨i,o⟩ I8 ih8
   try dsimp only at I8
   have ol:o.length≤i:=by rw[I8.2];exact Nat.le_trans (List.length_filter_le ..) (by rw[List.length_take];omega)
   refine .bp [.r []] (decide ((i:Int)< ((((elemP p (k- 1))).attrs).length:Int))) (fun h8=> ?_) (fun h8=> ?_)
   ·
    refine .bp [.r [(0,X (Xi attrT (((elemP p (k- 1))).attrs) (i:Int)))],.r [(2,X (Xc0 (z6V ((((((elemP p (k- 1))).attrs).getD i default)).name)) X0))]] (sprB ((((((elemP p (k- 1))).attrs).getD i default)).name)) (fun h10=> ?_) (fun h10=> ?_)
    ·
     refine .back [.r [(3,X (rowC attrT [(((((elemP p (k- 1))).attrs).getD i default))] (Xap 2 attrT 209 o [(((((elemP p (k- 1))).attrs).getD i default))])))],.r [(0,X (Xn ((i:Int)+1)))]] [(0,0),(65,65),(73,73),(209,209)] (ih8 ((i+1),(o++[(((((elemP p (k- 1))).attrs).getD i default))])) ?_ ?_)
     ·
      refine⟨by omega,?_⟩
      rw[I8.2,List.take_succ_eq_append_getElem (by omega),List.filter_append]
      first|rw[z3n (by omega) h10]|rw[z3o (by omega) h10,List.append_nil]
     ·
      ((try dsimp only);omega)
    ·
     refine .back [.r [(0,X (Xn ((i:Int)+1)))]] [(0,0),(65,65),(73,73),(209,209)] (ih8 ((i+1),o) ?_ ?_)
     ·
      refine⟨by omega,?_⟩
      rw[I8.2,List.take_succ_eq_append_getElem (by omega),List.filter_append]
      first|rw[z3n (by omega) h10]|rw[z3o (by omega) h10,List.append_nil]
     ·
      ((try dsimp only);omega)
   ·
    have hB:=z5l p k
    simp only[h3,h6,if_true,if_false,ne_eq,not_true_eq_false,not_false_eq_true,ite_true,ite_false,reduceIte] at hB
    refine .loop (α:=(List Attr)×Nat) [.r [(2,X (Xl attrT (((elemP p (k- 1))).attrs)))],.le (.fr 8 [(o.length:Nat)=(List.map attrT o).length] ⟨lm,trivial⟩)] 250 (fun(q,j)=>([(1,VI k),(6,.ptr 73 0),(8,VL 2 attrT q),(44,VL 2 attrT (((elemP p (k- 1))).attrs)),(45,VI ((((elemP p (k- 1))).attrs).length:Int)),(46,VI (j:Int))],[(0,.box [VI p.node.id,VI p.node.kind,VL 2 attrT p.node.attrs,VL 3 elemT p.node.flow,VI p.node.grid.rows,VI p.node.grid.cols,VL 5 cellT p.node.grid.cells,VL 4 rectT p.node.grid.merges,VL 8 dopT p.node.draw,VL 1 intT p.shown,VS p.author]),(73,.box [VI (((elemP p k)).char),VI (((elemP p k)).ref),VL 2 attrT (((elemP p k)).attrs)])])) (fun(q,j)=>j≤(elemP p (k- 1)).attrs.length∧q=inhO (elemP p k) k (inhB p k) ((elemP p (k- 1)).attrs.take j)∧q.length≤1048576+j) (fun(q,j)=>(elemP p (k- 1)).attrs.length-j) (o,0) ?_ ?_
    ·
     first|exact absurd h6 h3|exact⟨by omega,by rw[hB];first| (rw[I8.2,List.take_of_length_le (by omega)];rfl)|rfl,by first|omega|simp⟩
    rintro⟨q,j⟩ I14 ih14
    try dsimp only at I14
    refine .bp [.r []] (decide ((j:Int)< ((((elemP p (k- 1))).attrs).length:Int))) (fun h14=> ?_) (fun h14=> ?_)
    ·
     refine .bp [.r [(0,X (Xi attrT (((elemP p (k- 1))).attrs) (j:Int)))],.r [(2,X (Xc0 (z2E ((((((elemP p (k- 1))).attrs).getD j default)).name)) X0)),(5,Xv 1 (btwB ((((((elemP p (k- 1))).attrs).getD j default)).name)) X0),(6,X (Xk (btwB ((((((elemP p (k- 1))).attrs).getD j default)).name)))),(9,Xv 1 ((btwB ((((((elemP p (k- 1))).attrs).getD j default)).name))&&decide (k>0)) X0),(11,Xv 1 ((btwB ((((((elemP p (k- 1))).attrs).getD j default)).name))&&decide (k>0)) X0),(12,Xv 2 ((btwB ((((((elemP p (k- 1))).attrs).getD j default)).name))&&decide (k>0)) (Xc0 (z4T (((elemP p k)).attrs) ((((((elemP p (k- 1))).attrs).getD j default)).name)) X0)),(14,Xv 1 ((btwB ((((((elemP p (k- 1))).attrs).getD j default)).name))&&decide (k>0)) X0),(15,Xv 2 ((btwB ((((((elemP p (k- 1))).attrs).getD j default)).name))&&decide (k>0)) X0),(16,X (Xk ((btwB ((((((elemP p (k- 1))).attrs).getD j default)).name))&&decide (k>0))))]] (((btwB ((((((elemP p (k- 1))).attrs).getD j default)).name))&&decide (k>0))&&seq (getA (((elemP p k)).attrs) ((((((elemP p (k- 1))).attrs).getD j default)).name) 0) ((((((elemP p (k- 1))).attrs).getD j default)).val)) (fun h16=> ?_) (fun h16=> ?_)
     ·
      refine .back [.r [(3,X (Xc1 450 (z5S q [(((((elemP p (k- 1))).attrs).getD j default))] (by simp only[List.length_cons,List.length_nil];omega)) (rowC attrT [(((((elemP p (k- 1))).attrs).getD j default))] X0)))],.r [(0,X (Xn ((j:Int)+1)))]] [(0,0),(73,73)] (ih14 ((fm rawG q [(((((elemP p (k- 1))).attrs).getD j default))]),(j+1)) ?_ ?_)
      ·
       first
       |exact⟨by omega,by rw[z0I (by omega),if_pos (z40 h16),←I14.2.1],Nat.le_trans (z1q ..) (by simp;omega)⟩
       |exact⟨by omega,by rw[z0I (by omega),if_neg (z41 h16)];exact I14.2.1,by omega⟩
      ·
       ((try dsimp only);omega)
     ·
      refine .back [.r [(0,X (Xn ((j:Int)+1)))]] [(0,0),(73,73)] (ih14 (q,(j+1)) ?_ ?_)
      ·
       first
       |exact⟨by omega,by rw[z0I (by omega),if_pos (z40 h16),←I14.2.1],Nat.le_trans (z1q ..) (by simp;omega)⟩
       |exact⟨by omega,by rw[z0I (by omega),if_neg (z41 h16)];exact I14.2.1,by omega⟩
      ·
       ((try dsimp only);omega)
    ·
     have e3:((inhP p k):List Attr)=q:=by
      rw[I14.2.1,List.take_of_length_le (by omega)];rfl
     exact .finE [.r []] [(0,0)] (fun z0:List Attr=>(VL 2 attrT z0,[(0,.box [VI p.node.id,VI p.node.kind,VL 2 attrT p.node.attrs,VL 3 elemT p.node.flow,VI p.node.grid.rows,VI p.node.grid.cols,VL 5 cellT p.node.grid.cells,VL 4 rectT p.node.grid.merges,VL 8 dopT p.node.draw,VL 1 intT p.shown,VS p.author])])) _ _ e3
  ·
   have hB:=z5l p k
   simp only[h3,h6,if_true,if_false,ne_eq,not_true_eq_false,not_false_eq_true,ite_true,ite_false,reduceIte] at hB
   refine .loop (α:=(List Attr)×Nat) [.r [(2,X (Xl attrT (((elemP p (k- 1))).attrs)))],.le (.nL 8 2)] 209 (fun(q,j)=>([(1,VI k),(6,.ptr 73 0),(8,VL 2 attrT q),(44,VL 2 attrT (((elemP p (k- 1))).attrs)),(45,VI ((((elemP p (k- 1))).attrs).length:Int)),(46,VI (j:Int))],[(0,.box [VI p.node.id,VI p.node.kind,VL 2 attrT p.node.attrs,VL 3 elemT p.node.flow,VI p.node.grid.rows,VI p.node.grid.cols,VL 5 cellT p.node.grid.cells,VL 4 rectT p.node.grid.merges,VL 8 dopT p.node.draw,VL 1 intT p.shown,VS p.author]),(73,.box [VI (((elemP p k)).char),VI (((elemP p k)).ref),VL 2 attrT (((elemP p k)).attrs)])])) (fun(q,j)=>j≤(elemP p (k- 1)).attrs.length∧q=inhO (elemP p k) k (inhB p k) ((elemP p (k- 1)).attrs.take j)∧q.length≤1048576+j) (fun(q,j)=>(elemP p (k- 1)).attrs.length-j) ([],0) ?_ ?_
   ·
    first|exact absurd h6 h3|exact⟨by omega,by rw[hB];first| (rw[I8.2,List.take_of_length_le (by omega)];rfl)|rfl,by first|omega|simp⟩
   rintro⟨q,j⟩ I14 ih14
   try dsimp only at I14
   refine .bp [.r []] (decide ((j:Int)< ((((elemP p (k- 1))).attrs).length:Int))) (fun h14=> ?_) (fun h14=> ?_)
   ·
    refine .bp [.r [(0,X (Xi attrT (((elemP p (k- 1))).attrs) (j:Int)))],.r [(2,X (Xc0 (z2E ((((((elemP p (k- 1))).attrs).getD j default)).name)) X0)),(5,Xv 1 (btwB ((((((elemP p (k- 1))).attrs).getD j default)).name)) X0),(6,X (Xk (btwB ((((((elemP p (k- 1))).attrs).getD j default)).name)))),(9,Xv 1 ((btwB ((((((elemP p (k- 1))).attrs).getD j default)).name))&&decide (k>0)) X0),(11,Xv 1 ((btwB ((((((elemP p (k- 1))).attrs).getD j default)).name))&&decide (k>0)) X0),(12,Xv 2 ((btwB ((((((elemP p (k- 1))).attrs).getD j default)).name))&&decide (k>0)) (Xc0 (z4T (((elemP p k)).attrs) ((((((elemP p (k- 1))).attrs).getD j default)).name)) X0)),(14,Xv 1 ((btwB ((((((elemP p (k- 1))).attrs).getD j default)).name))&&decide (k>0)) X0),(15,Xv 2 ((btwB ((((((elemP p (k- 1))).attrs).getD j default)).name))&&decide (k>0)) X0),(16,X (Xk ((btwB ((((((elemP p (k- 1))).attrs).getD j default)).name))&&decide (k>0))))]] (((btwB ((((((elemP p (k- 1))).attrs).getD j default)).name))&&decide (k>0))&&seq (getA (((elemP p k)).attrs) ((((((elemP p (k- 1))).attrs).getD j default)).name) 0) ((((((elemP p (k- 1))).attrs).getD j default)).val)) (fun h16=> ?_) (fun h16=> ?_)
    ·
     refine .back [.r [(3,X (Xc1 409 (z5S q [(((((elemP p (k- 1))).attrs).getD j default))] (by simp only[List.length_cons,List.length_nil];omega)) (rowC attrT [(((((elemP p (k- 1))).attrs).getD j default))] X0)))],.r [(0,X (Xn ((j:Int)+1)))]] [(0,0),(73,73)] (ih14 ((fm rawG q [(((((elemP p (k- 1))).attrs).getD j default))]),(j+1)) ?_ ?_)
     ·
      first
      |exact⟨by omega,by rw[z0I (by omega),if_pos (z40 h16),←I14.2.1],Nat.le_trans (z1q ..) (by simp;omega)⟩
      |exact⟨by omega,by rw[z0I (by omega),if_neg (z41 h16)];exact I14.2.1,by omega⟩
     ·
      ((try dsimp only);omega)
    ·
     refine .back [.r [(0,X (Xn ((j:Int)+1)))]] [(0,0),(73,73)] (ih14 (q,(j+1)) ?_ ?_)
     ·
      first
      |exact⟨by omega,by rw[z0I (by omega),if_pos (z40 h16),←I14.2.1],Nat.le_trans (z1q ..) (by simp;omega)⟩
      |exact⟨by omega,by rw[z0I (by omega),if_neg (z41 h16)];exact I14.2.1,by omega⟩
     ·
      ((try dsimp only);omega)
   ·
    have e4:((inhP p k):List Attr)=q:=by
     rw[I14.2.1,List.take_of_length_le (by omega)];rfl
    exact .finE [.r []] [(0,0)] (fun z0:List Attr=>(VL 2 attrT z0,[(0,.box [VI p.node.id,VI p.node.kind,VL 2 attrT p.node.attrs,VL 3 elemT p.node.flow,VI p.node.grid.rows,VI p.node.grid.cols,VL 5 cellT p.node.grid.cells,VL 4 rectT p.node.grid.merges,VL 8 dopT p.node.draw,VL 1 intT p.shown,VS p.author])])) _ _ e4
end Go.Ch
end
section
set_option linter.unusedVariables false
set_option linter.unusedSimpArgs false
set_option maxRecDepth 100000
set_option maxHeartbeats 4000000
open Go Go.Proofs Go.Ab
namespace Go.Ch
theorem y4i(p:Pl)(k:Nat)(hb:PlB p)(hk:k≤1000000000):FC Tryz.prog 32 [.ptr 0 0,VI (k:Int)] (app emp [(0,.box [VI p.node.id,VI p.node.kind,VL 2 attrT p.node.attrs,VL 3 elemT p.node.flow,VI p.node.grid.rows,VI p.node.grid.cols,VL 5 cellT p.node.grid.cells,VL 4 rectT p.node.grid.merges,VL 8 dopT p.node.draw,VL 1 intT p.shown,VS p.author])]) (VL 2 attrT (endP p k)) (app emp [(0,.box [VI p.node.id,VI p.node.kind,VL 2 attrT p.node.attrs,VL 3 elemT p.node.flow,VI p.node.grid.rows,VI p.node.grid.cols,VL 5 cellT p.node.grid.cells,VL 4 rectT p.node.grid.merges,VL 8 dopT p.node.draw,VL 1 intT p.shown,VS p.author])]):=by
 refine .go Tryz.f32 ?_
 have hsl:=hb.sl
 refine .loop (α:=Nat) [.r []] 9 (fun m=>([(0,.ptr 0 0),(1,VI (m:Int))],[(0,.box [VI p.node.id,VI p.node.kind,VL 2 attrT p.node.attrs,VL 3 elemT p.node.flow,VI p.node.grid.rows,VI p.node.grid.cols,VL 5 cellT p.node.grid.cells,VL 4 rectT p.node.grid.merges,VL 8 dopT p.node.draw,VL 1 intT p.shown,VS p.author])])) (fun m=>endK p k=endK p m∧m≤k+p.shown.length) (fun m=>p.shown.length-m) (k:Nat) ?_ ?_
 ·
  exact⟨rfl,by omega⟩
 rintro m I1 ih1
 try dsimp only at I1
 refine .bp [.r [(2,X (Xc4 [(0,0)] (z2Q p (m:Int) (by assumption)) X0))]] ((((elemP p (m:Int))).char) !=10) (fun h1=> ?_) (fun h1=> ?_)
 ·
  obtain⟨g1,g2⟩:=y38 h1
  refine .back [.r [(1,X (Xn ((m:Int)+1)))]] [(0,0)] (ih1 ((m+1):Nat) ?_ ?_)
  ·
   exact⟨I1.1.trans g2,by omega⟩
  ·
   ((try dsimp only);omega)
 ·
  have g3:=I1.1.trans (y39 h1)
  have bm:=z6a hb (m:Int)
  refine .loop (α:=Nat×(List Attr)) [.r [],.r [(2,X (Xc4 [(0,0)] (z2Q p (m:Int) (by assumption)) X0)),(4,X (Xl attrT (((elemP p (m:Int))).attrs)))],.le (.nR 5 2)] 106 (fun(i,o)=>([(5,.row 105 o.length),(18,VL 2 attrT (((elemP p (m:Int))).attrs)),(19,VI ((((elemP p (m:Int))).attrs).length:Int)),(20,VI (i:Int))],[(0,.box [VI p.node.id,VI p.node.kind,VL 2 attrT p.node.attrs,VL 3 elemT p.node.flow,VI p.node.grid.rows,VI p.node.grid.cols,VL 5 cellT p.node.grid.cells,VL 4 rectT p.node.grid.merges,VL 8 dopT p.node.draw,VL 1 intT p.shown,VS p.author]),(105,OR 2 attrT o)])) (fun(i,o)=>i≤(elemP p m).attrs.length∧o=((elemP p m).attrs.take i).filter endG) (fun(i,o)=>(elemP p m).attrs.length-i) (0,[]) ?_ ?_
  ·
   exact⟨by omega,rfl⟩
  rintro⟨i,o⟩ I5 ih5
  try dsimp only at I5
  have ol:o.length≤i:=by rw[I5.2];exact Nat.le_trans (List.length_filter_le ..) (by rw[List.length_take];omega)
  refine .bp [.r []] (decide ((i:Int)< ((((elemP p (m:Int))).attrs).length:Int))) (fun h5=> ?_) (fun h5=> ?_)
  ·
   refine .bp [.r [(0,X (Xi attrT (((elemP p (m:Int))).attrs) (i:Int)))],.r [(3,X (Xc0 (y4h [{data:=#[97,100,100]},{data:=#[99,117,116]},{data:=#[104,105,100,100,101,110]},{data:=#[108,111,99,107]},{data:=#[115,101,99,116,105,111,110]},{data:=#[98,114,101,97,107]},{data:=#[115,116,97,114,116]}] ((((((elemP p (m:Int))).attrs).getD i default)).name)) (rowC strT [{data:=#[97,100,100]},{data:=#[99,117,116]},{data:=#[104,105,100,100,101,110]},{data:=#[108,111,99,107]},{data:=#[115,101,99,116,105,111,110]},{data:=#[98,114,101,97,107]},{data:=#[115,116,97,114,116]}] X0))),(7,Xv 1 (!(([{data:=#[97,100,100]},{data:=#[99,117,116]},{data:=#[104,105,100,100,101,110]},{data:=#[108,111,99,107]},{data:=#[115,101,99,116,105,111,110]},{data:=#[98,114,101,97,107]},{data:=#[115,116,97,114,116]}]).any (fun y=>seq ((((((elemP p (m:Int))).attrs).getD i default)).name) y))) X0),(8,Xv 1 (!(([{data:=#[97,100,100]},{data:=#[99,117,116]},{data:=#[104,105,100,100,101,110]},{data:=#[108,111,99,107]},{data:=#[115,101,99,116,105,111,110]},{data:=#[98,114,101,97,107]},{data:=#[115,116,97,114,116]}]).any (fun y=>seq ((((((elemP p (m:Int))).attrs).getD i default)).name) y))) (Xc0 (z2E ((((((elemP p (m:Int))).attrs).getD i default)).name)) X0)),(9,Xv 1 (!(([{data:=#[97,100,100]},{data:=#[99,117,116]},{data:=#[104,105,100,100,101,110]},{data:=#[108,111,99,107]},{data:=#[115,101,99,116,105,111,110]},{data:=#[98,114,101,97,107]},{data:=#[115,116,97,114,116]}]).any (fun y=>seq ((((((elemP p (m:Int))).attrs).getD i default)).name) y))) X0),(10,X (Xk (!(([{data:=#[97,100,100]},{data:=#[99,117,116]},{data:=#[104,105,100,100,101,110]},{data:=#[108,111,99,107]},{data:=#[115,101,99,116,105,111,110]},{data:=#[98,114,101,97,107]},{data:=#[115,116,97,114,116]}]).any (fun y=>seq ((((((elemP p (m:Int))).attrs).getD i default)).name) y)))))]] (!(([{data:=#[97,100,100]},{data:=#[99,117,116]},{data:=#[104,105,100,100,101,110]},{data:=#[108,111,99,107]},{data:=#[115,101,99,116,105,111,110]},{data:=#[98,114,101,97,107]},{data:=#[115,116,97,114,116]}]).any (fun y=>seq ((((((elemP p (m:Int))).attrs).getD i default)).name) y))&& !(btwB ((((((elemP p (m:Int))).attrs).getD i default)).name))) (fun h7=> ?_) (fun h7=> ?_)
   ·
    refine .back [.r [(3,X (rowC attrT [(((((elemP p (m:Int))).attrs).getD i default))] (Xap 2 attrT 105 o [(((((elemP p (m:Int))).attrs).getD i default))])))],.r [(0,X (Xn ((i:Int)+1)))]] [(0,0),(105,105)] (ih5 ((i+1),(o++[(((((elemP p (m:Int))).attrs).getD i default))])) ?_ ?_)
    ·
     refine⟨by omega,?_⟩
     rw[I5.2,List.take_succ_eq_append_getElem (by omega),List.filter_append]
     first|rw[z3n (by omega) (y6w h7)]|rw[z3o (by omega) (y6x h7),List.append_nil]
    ·
     ((try dsimp only);omega)
   ·
    refine .back [.r [(0,X (Xn ((i:Int)+1)))]] [(0,0),(105,105)] (ih5 ((i+1),o) ?_ ?_)
    ·
     refine⟨by omega,?_⟩
     rw[I5.2,List.take_succ_eq_append_getElem (by omega),List.filter_append]
     first|rw[z3n (by omega) (y6w h7)]|rw[z3o (by omega) (y6x h7),List.append_nil]
    ·
     ((try dsimp only);omega)
  ·
   have e1:((endP p k):List Attr)=o:=by
    rw[I5.2,List.take_of_length_le (by omega)];unfold endP;rw[g3]
   exact .finE [.r [],.le (.fr 4 [(o.length:Nat)=(List.map attrT o).length] ⟨lm,trivial⟩)] [(0,0)] (fun z0:List Attr=>(VL 2 attrT z0,[(0,.box [VI p.node.id,VI p.node.kind,VL 2 attrT p.node.attrs,VL 3 elemT p.node.flow,VI p.node.grid.rows,VI p.node.grid.cols,VL 5 cellT p.node.grid.cells,VL 4 rectT p.node.grid.merges,VL 8 dopT p.node.draw,VL 1 intT p.shown,VS p.author])])) _ _ e1
theorem y4j(p:Pl)(s:Sel)(es:List Elem)(hb:PlB p)(hs:StpB p s es):FC Tryz.prog 33 [.ptr 0 0,.t (selT s),VL 3 elemT es] (app emp [(0,.box [VI p.node.id,VI p.node.kind,VL 2 attrT p.node.attrs,VL 3 elemT p.node.flow,VI p.node.grid.rows,VI p.node.grid.cols,VL 5 cellT p.node.grid.cells,VL 4 rectT p.node.grid.merges,VL 8 dopT p.node.draw,VL 1 intT p.shown,VS p.author])]) (.tup [VL 19 eopT [opF s.nd (stpP p s es)],.t (selT (selP s es)),VI 0]) (app emp [(0,.box [VI p.node.id,VI p.node.kind,VL 2 attrT p.node.attrs,VL 3 elemT p.node.flow,VI p.node.grid.rows,VI p.node.grid.cols,VL 5 cellT p.node.grid.cells,VL 4 rectT p.node.grid.merges,VL 8 dopT p.node.draw,VL 1 intT p.shown,VS p.author])]):=by
 refine .go Tryz.f33 ?_
 refine .len 2 (fun hl2=> ?_)
 obtain⟨s1,q1,q2,v1,v2,v3,d1,d2,d3,m1,m2,m3⟩:=hs
 simp only[ersP,typP] at v1 v2 v3 d1 d2 d3 m1 m2 m3
 have hf:p.node.flow.length≤10000000:=by(have:=hb.len;omega)
 have hsh:=hb.sl
 have hpl:∀x∈(p.shown.take s.tq.toNat).drop s.fr.toNat,0≤x∧x< (p.node.flow.length:Int):=fun x hx=>hb.ok x (List.mem_of_mem_take (List.mem_of_mem_drop hx))
 have hpl2:∀x∈p.shown,0≤x∧x≤1000000000:=fun x hx=>by(have:=hb.ok x hx;omega)
 have hgp:=z92 hb s1
 have e1:([opF s.nd (stpP p s es)]:List EOp)=[({kind:=2,node:=s.nd,nw:=({id:=0,kind:=0,attrs:=[],flow:=[],grid:=({rows:=0,cols:=0,cells:=[],merges:=[]}:Grid),draw:=[]}:Node),attrs:=[],steps:=(joinD (ersD p.node.flow ((p.shown.take (Int.toNat s.tq)).drop (Int.toNat s.fr)) p.author) (z1h (typD (p.node.flow).length (gapP p.shown s.fr) es p.author) (ersD p.node.flow ((p.shown.take (Int.toNat s.tq)).drop (Int.toNat s.fr)) p.author))),grid:=({rows:=[],cols:=[],cells:=[],split:=[],merge:=[]}:GEd),draw:=[]}:EOp)]:=by
  rfl
 have e2:((selP s es):Sel)=({nd:=s.nd,fr:=(s.fr+(es.length:Int)),tq:=(s.fr+(es.length:Int))}:Sel):=by
  rfl
 exact .finVE [.r [],.r [],.r [(9,X (Xsb intT 1 p.shown s.fr s.tq)),(14,X (Xc1 193 (z89 p.node.flow ((p.shown.take (Int.toNat s.tq)).drop (Int.toNat s.fr)) p.author (by omega) (by assumption)) X0))],.r [(6,X (Xc0 (y4g p.shown s.fr (by omega) (by assumption)) X0))],.r [(7,X (Xc1 329 (y1y p.node.flow (gapP p.shown s.fr) es p.author (by omega) (by omega) (by omega) (by assumption)) X0))],.r [(2,X (Xc1 361 (y1x (typD (p.node.flow).length (gapP p.shown s.fr) es p.author) (ersD p.node.flow ((p.shown.take (Int.toNat s.tq)).drop (Int.toNat s.fr)) p.author) (by assumption) (by assumption) (by assumption) (by assumption) (by omega) (by omega)) X0))],.r [],.f,.r [(2,X (Xc1 457 (y1r (ersD p.node.flow ((p.shown.take (Int.toNat s.tq)).drop (Int.toNat s.fr)) p.author) (z1h (typD (p.node.flow).length (gapP p.shown s.fr) es p.author) (ersD p.node.flow ((p.shown.take (Int.toNat s.tq)).drop (Int.toNat s.fr)) p.author)) (by assumption) (by assumption) (by assumption) (by assumption) (by omega)) X0))],.r [],.f,.r [(3,X (Xl elemT es)),(4,X (Xn (s.fr+(es.length:Int))))],.r [(3,X (Xf [(4,2),(5,3),(8,5),(9,4),(10,8),(11,2),(13,2),(14,2),(15,5),(16,4),(17,4),(18,8)]))],.le (.fr 6 [(1:Nat)=(List.map eopT [({kind:=2,node:=s.nd,nw:=({id:=0,kind:=0,attrs:=[],flow:=[],grid:=({rows:=0,cols:=0,cells:=[],merges:=[]}:Grid),draw:=[]}:Node),attrs:=[],steps:=(joinD (ersD p.node.flow ((p.shown.take (Int.toNat s.tq)).drop (Int.toNat s.fr)) p.author) (z1h (typD (p.node.flow).length (gapP p.shown s.fr) es p.author) (ersD p.node.flow ((p.shown.take (Int.toNat s.tq)).drop (Int.toNat s.fr)) p.author))),grid:=({rows:=[],cols:=[],cells:=[],split:=[],merge:=[]}:GEd),draw:=[]}:EOp)]).length] ⟨lm,trivial⟩)] [] [(0,0)] (fun((z0,z1):(List EOp)×Sel)=>(.tup [VL 19 eopT z0,.t (selT z1),VI 0],[(0,.box [VI p.node.id,VI p.node.kind,VL 2 attrT p.node.attrs,VL 3 elemT p.node.flow,VI p.node.grid.rows,VI p.node.grid.cols,VL 5 cellT p.node.grid.cells,VL 4 rectT p.node.grid.merges,VL 8 dopT p.node.draw,VL 1 intT p.shown,VS p.author])])) _ _ (pr e1 e2)
theorem y7x(p:Pl)(k:Int)(hb:PlB p)(hk:0≤k∧k≤1000000000):FC Tryz.prog 32 [.ptr 0 0,VI k] (app emp [(0,.box [VI p.node.id,VI p.node.kind,VL 2 attrT p.node.attrs,VL 3 elemT p.node.flow,VI p.node.grid.rows,VI p.node.grid.cols,VL 5 cellT p.node.grid.cells,VL 4 rectT p.node.grid.merges,VL 8 dopT p.node.draw,VL 1 intT p.shown,VS p.author])]) (VL 2 attrT (endP p k.toNat)) (app emp [(0,.box [VI p.node.id,VI p.node.kind,VL 2 attrT p.node.attrs,VL 3 elemT p.node.flow,VI p.node.grid.rows,VI p.node.grid.cols,VL 5 cellT p.node.grid.cells,VL 4 rectT p.node.grid.merges,VL 8 dopT p.node.draw,VL 1 intT p.shown,VS p.author])]):=by
 have h:=y4i p k.toNat hb (by omega)
 rw[Int.toNat_of_nonneg hk.1] at h
 exact h
def OfFC(t:ByteArray)(cs:List Int):Prop:=∀l:List Attr,chkA false l 0=0→l.length≤10000000→FC Tryz.prog 30 [VS t,VL 2 attrT l] (app emp []) (.tup [.row 0 (cs.map (mkE l)).length,VI 0]) (app emp [(0,OR 3 elemT (cs.map (mkE l)))])
end Go.Ch
end
section
set_option linter.unusedVariables false
set_option linter.unusedSimpArgs false
set_option maxRecDepth 100000
set_option maxHeartbeats 4000000
open Go Go.Proofs Go.Ab
namespace Go.Ch
theorem y4k(d:Doc)(s:Sel)(t:ByteArray)(cs:List Int)(au:ByteArray)(hof:OfFC t cs)(hb:DocL d)(ht:t.size≤20000)(hx:atE d s au=0→TypB d s cs au):FC Tryz.prog 12 [.t (docT d),.t (selT s),VS t,VS au] (app emp []) (.tup [VL 19 eopT (typeO d s cs au),.t (selT (typeS d s cs au)),VI (atE d s au)]) (app emp []):=by
 refine .go Tryz.f12 ?_
 refine .bp [.r [],.r [(3,X (Xc1 64 (fc_at d s au (by assumption)) X0))],.r []] ((atE d s au) !=0) (fun h2=> ?_) (fun h2=> ?_)
 ·
  have T:=y8B (cs:=cs) h2
  have e1:((typeO d s cs au):List EOp)=[]:=by
   exact T.1
  have e2:((typeS d s cs au):Sel)=({nd:=0,fr:=0,tq:=0}:Sel):=by
   exact T.2
  exact .finVE [.r [],.le (.nL 8 19)] [] [] (fun((z0,z1):(List EOp)×Sel)=>(.tup [VL 19 eopT z0,.t (selT z1),VI (atE d s au)],[])) _ _ (pr e1 e2)
 ·
  refine .bp [.r []] (decide ((t.size:Int)> 20000)) (fun h4=> ?_) (fun h4=> ?_)
  ·
   exfalso
   omega
  ·
   obtain⟨tp,tc,tl,tr,ts⟩:=hx h2
   have htl:=tp.sl
   have hcl:(List.map (mkE (inhP (atP d s au) s.fr)) cs).length≤1048576:=by(have:=ts.e1;unfold typEl at this;simpa using this)
   refine .loop (α:=Nat×(List Elem)) [.r [(3,X (Xc4 [(0,96)] (y6A ((atP d s au)) s.fr (by assumption) (by omega)) X0)),(4,X (Xc1 192 (hof (inhP ((atP d s au)) s.fr) (by assumption) (by omega)) X0))],.r [],.f,.r []] 280 (fun(i,o)=>([(5,.ptr 8 0),(9,.ptr 24 0),(11,.ptr 96 0),(13,.row 192 o.length),(43,VI ((List.map (mkE (inhP ((atP d s au)) s.fr)) cs).length:Int)),(44,VI (i:Int))],[(8,.box [VI s.nd,VI s.fr,VI s.tq]),(24,.box [VI 0,VI 0,VI 0]),(96,.box [VI ((((atP d s au)).node).id),VI ((((atP d s au)).node).kind),VL 2 attrT ((((atP d s au)).node).attrs),VL 3 elemT ((((atP d s au)).node).flow),VI (((((atP d s au)).node).grid).rows),VI (((((atP d s au)).node).grid).cols),VL 5 cellT (((((atP d s au)).node).grid).cells),VL 4 rectT (((((atP d s au)).node).grid).merges),VL 8 dopT ((((atP d s au)).node).draw),VL 1 intT (((atP d s au)).shown),VS (((atP d s au)).author)]),(192,OR 3 elemT o)])) (fun(i,o)=>i≤(cs.map (mkE (inhP (atP d s au) s.fr))).length∧o=((cs.map (mkE (inhP (atP d s au) s.fr))).take i).map (typX (atP d s au) s)++(cs.map (mkE (inhP (atP d s au) s.fr))).drop i) (fun(i,o)=>(cs.map (mkE (inhP (atP d s au) s.fr))).length-i) (0,(List.map (mkE (inhP ((atP d s au)) s.fr)) cs)) ?_ ?_
   ·
    exact⟨by omega,by simp⟩
   rintro⟨i,o⟩ I10 ih10
   try dsimp only at I10
   have ol:o.length=(cs.map (mkE (inhP (atP d s au) s.fr))).length:=by rw[I10.2];simp;omega
   refine .bp [.r []] (decide ((i:Int)< ((List.map (mkE (inhP ((atP d s au)) s.fr)) cs).length:Int))) (fun h10=> ?_) (fun h10=> ?_)
   ·
    have hog:o.getD i default=(cs.map (mkE (inhP (atP d s au) s.fr))).getD i default:=by rw[I10.2];exact y36 (by omega)
    refine .bp [.r [],.r [(2,X (Xp elemT o (i:Int))),(4,X (Xe elemT o i))]] ((((o.getD i default)).char)==10) (fun h12=> ?_) (fun h12=> ?_)
    ·
     refine .back [.r [(4,X (Xc4 [(0,96)] (y7x ((atP d s au)) s.tq (by assumption) (by omega)) X0)),(5,X (Xp elemT o (i:Int))),(7,X (Xs 3 elemT 192 o i ({char:=((o.getD i default)).char,ref:=((o.getD i default)).ref,attrs:=(endP ((atP d s au)) (s.tq).toNat)}:Elem)))],.r [(0,X (Xn ((i:Int)+1)))],.le (.eq 13 (.row 192 o.length) (.row 192 ((o.set i ({char:=((o.getD i default)).char,ref:=((o.getD i default)).ref,attrs:=(endP ((atP d s au)) (s.tq).toNat)}:Elem)).length)) (.of_eq (by simp only[List.length_set])))] [(8,8),(24,24),(96,96),(192,192)] (ih10 ((i+1),(o.set i ({char:=((o.getD i default)).char,ref:=((o.getD i default)).ref,attrs:=(endP ((atP d s au)) (s.tq).toNat)}:Elem))) ?_ ?_)
     ·
      refine⟨by omega,?_⟩
      rw[←y8C h12,hog,←z87 (by omega),←I10.2]
     ·
      ((try dsimp only);omega)
    ·
     refine .back [.r [(0,X (Xn ((i:Int)+1)))]] [(8,8),(24,24),(96,96),(192,192)] (ih10 ((i+1),o) ?_ ?_)
     ·
      refine⟨by omega,?_⟩
      rw[←y4a (by omega) (y8D (by rw[←hog];exact h12)),←I10.2]
     ·
      ((try dsimp only);omega)
   ·
    have ho:o=typEl (atP d s au) s cs:=by rw[I10.2,List.take_of_length_le (by omega),List.drop_eq_nil_of_le (by omega),List.append_nil];rfl
    rw[←ho] at ts
    have T:=y6v (cs:=cs) h2
    have e3:((typeO d s cs au):List EOp)=[opF (s).nd (stpP ((atP d s au)) s o)]:=by
     rw[T.1,ho]
    have e4:((typeS d s cs au):Sel)=((selP s o)):=by
     rw[T.2,ho]
    have e5:((atE d s au):Int)=0:=by
     exact h2
    exact .finVE [.le (.fr 13 [(o.length:Nat)=(List.map elemT o).length] ⟨lm,trivial⟩),.r [(2,X (Xc4 [(0,96)] (y4j ((atP d s au)) s o (by assumption) (by assumption)) X0))]] [] [] (fun((z0,z1,z2):(List EOp)×Sel×Int)=>(.tup [VL 19 eopT z0,.t (selT z1),VI z2],[])) _ _ (pr e3 (pr e4 e5))
end Go.Ch
end
section
set_option linter.unusedVariables false
set_option linter.unusedSimpArgs false
namespace Go.Ch
open Go Go.Ab
theorem shr16{r:Int}:r.fdiv (2^(min (16:Int).toNat IntKind.i64.bits))=r/65536:=by
 show r.fdiv 65536=r/65536
 exact Int.fdiv_eq_ediv_of_nonneg r (by decide)
theorem y6B{r:Int}(h: -9223372036854775808≤r∧r≤9223372036854775807):IntKind.i64.wrap r=r:=by
 simp[IntKind.wrap,IntKind.bits,IntKind.signed];omega
theorem shl16{r:Int}(h:0≤r∧r≤1000):IntKind.i64.wrap (r*2^(min (16:Int).toNat IntKind.i64.bits))=r*65536:=by
 show IntKind.i64.wrap (r*65536)=r*65536
 exact y6B (by omega)
theorem and16{x:Int}(h:0≤x∧x≤1073741824):andI .i64 x 65535=x%65536:=by
 unfold andI
 have e1:(BitVec.ofInt IntKind.i64.bits x&&&BitVec.ofInt IntKind.i64.bits 65535).toNat=x.toNat%65536:=by
  rw[BitVec.toNat_and]
  have hx:(BitVec.ofInt IntKind.i64.bits x).toNat=x.toNat:=by
   rw[BitVec.toNat_ofInt]
   show(x%((2^64:Nat):Int)).toNat=x.toNat
   rw[Int.emod_eq_of_lt h.1 (by have:=h.2;omega)]
  have hy:(BitVec.ofInt IntKind.i64.bits 65535).toNat=2^16- 1:=by decide
  rw[hx,hy,Nat.and_two_pow_sub_one_eq_mod]
 rw[e1,y6B (by omega)]
 omega
def nxtF(l:List Node)(site:Int)(m:Nat):Int:=(l.take m).foldl (fun x n=>if n.id/65536=site then n.id else x) (site*65536)
theorem z6c{l:List Node}{site:Int}{m:Nat}(h:m<l.length):nxtF l site (m+1)=if(l.getD m default).id/65536=site then(l.getD m default).id else nxtF l site m:=by
 have e:l.getD m default=l[m]:=by rw[List.getD_eq_getElem?_getD,List.getElem?_eq_getElem h];rfl
 unfold nxtF
 rw[List.take_succ_eq_append_getElem h,List.foldl_append,e];rfl
def nextE(d:Doc)(site:Int):Int:=
 if docE d≠0 then docE d else if site<0∨1000<site then 2 else if nxtF d.nodes site d.nodes.length%65536=65535 then 18 else 0
def nextN(d:Doc)(site:Int):Int:=if nextE d site≠0 then 0 else nxtF d.nodes site d.nodes.length+1
theorem y4l{d:Doc}{site k:Int}(h:nextE d site=k)(hk:k≠0):nextN d site=0∧nextE d site=k:=by
 unfold nextN;rw[h,if_pos hk];exact⟨rfl,rfl⟩
theorem y8E{d:Doc}{site:Int}(h:docE d≠0):nextN d site=0∧nextE d site=docE d:=y4l (by unfold nextE;rw[if_pos h]) h
theorem y8F{d:Doc}{site:Int}(h:docE d=0)(h2:site<0∨1000<site):nextN d site=0∧nextE d site=2:=y4l (by unfold nextE;rw[if_neg (fun q=>q h),if_pos h2]) (by decide)
theorem y6C{d:Doc}{site:Int}(h:docE d=0)(h2:0≤site∧site≤1000)(h3:nxtF d.nodes site d.nodes.length%65536=65535):nextN d site=0∧nextE d site=18:=
 y4l (by unfold nextE;rw[if_neg (fun q=>q h),if_neg (by omega),if_pos h3]) (by decide)
theorem y6D{d:Doc}{site:Int}(h:docE d=0)(h2:0≤site∧site≤1000)(h3:¬nxtF d.nodes site d.nodes.length%65536=65535):nextN d site=nxtF d.nodes site d.nodes.length+1∧nextE d site=0:=by
 have e:nextE d site=0:=by unfold nextE;rw[if_neg (fun q=>q h),if_neg (by omega),if_neg h3]
 unfold nextN;rw[e,if_neg (fun q=>q rfl)];exact⟨rfl,rfl⟩
def opN(n:Node):EOp:=⟨0,0,n,[],[],⟨[],[],[],[],[]⟩,[]⟩
def opG(k:Int)(g:GEd):EOp:=⟨3,k,⟨0,0,[],[],⟨0,0,[],[]⟩,[]⟩,[],[],g,[]⟩
def objN(d:Doc)(n:Node)(site:Int):Node:={id:=nextN d site,kind:=n.kind,attrs:=n.attrs,flow:=n.flow,grid:=n.grid,draw:=n.draw}
def objX(d:Doc)(s:Sel)(site:Int)(au:ByteArray):List Elem:=[{char:=0,ref:=nextN d site,attrs:=inhP (atP d s au) s.fr}]
def objE(d:Doc)(s:Sel)(n:Node)(site:Int)(au:ByteArray):Int:=
 if atE d s au≠0 then atE d s au
 else if permB (atP d s au).node.kind n.kind=false then 8
 else if nextE d site≠0 then nextE d site
 else nodeE (objN d n site)
def objO(d:Doc)(s:Sel)(n:Node)(site:Int)(au:ByteArray):List EOp:=if objE d s n site au≠0 then[] else[opN (objN d n site)]++[opF s.nd (stpP (atP d s au) s (objX d s site au))]
def objS(d:Doc)(s:Sel)(n:Node)(site:Int)(au:ByteArray):Sel:=if objE d s n site au≠0 then⟨0,0,0⟩ else selP s (objX d s site au)
structure ObjB(d:Doc)(s:Sel)(n:Node)(site:Int)(au:ByteArray):Prop where
 p:PlB (atP d s au)
 r:0≤s.fr∧s.fr≤1000000000
 s:StpB (atP d s au) s (objX d s site au)
theorem obj_e{d:Doc}{s:Sel}{n:Node}{site:Int}{au:ByteArray}{k:Int}(h:objE d s n site au=k)(hk:k≠0):objO d s n site au=[]∧objS d s n site au=⟨0,0,0⟩∧objE d s n site au=k:=by
 unfold objO objS;rw[h,if_pos hk,if_pos hk];exact⟨rfl,rfl,rfl⟩
theorem obj_1{d:Doc}{s:Sel}{n:Node}{site:Int}{au:ByteArray}(h:atE d s au≠0):objO d s n site au=[]∧objS d s n site au=⟨0,0,0⟩∧objE d s n site au=atE d s au:=obj_e (by unfold objE;rw[if_pos h]) h
theorem obj_2{d:Doc}{s:Sel}{n:Node}{site:Int}{au:ByteArray}(h:atE d s au=0)(h2:permB (atP d s au).node.kind n.kind=false):objO d s n site au=[]∧objS d s n site au=⟨0,0,0⟩∧objE d s n site au=8:=
 obj_e (by unfold objE;rw[if_neg (fun q=>q h),if_pos h2]) (by decide)
theorem obj_3{d:Doc}{s:Sel}{n:Node}{site:Int}{au:ByteArray}(h:atE d s au=0)(h2:permB (atP d s au).node.kind n.kind=true)(h3:nextE d site≠0):objO d s n site au=[]∧objS d s n site au=⟨0,0,0⟩∧objE d s n site au=nextE d site:=
 obj_e (by unfold objE;rw[if_neg (fun q=>q h),if_neg (by rw[h2];decide),if_pos h3]) h3
theorem obj_n{d:Doc}{s:Sel}{n:Node}{site:Int}{au:ByteArray}(h:atE d s au=0)(h2:permB (atP d s au).node.kind n.kind=true)(h3:nextE d site=0):objE d s n site au=nodeE (objN d n site):=by
 unfold objE;rw[if_neg (fun q=>q h),if_neg (by rw[h2];decide),if_neg (fun q=>q h3)]
theorem obj_4{d:Doc}{s:Sel}{n:Node}{site:Int}{au:ByteArray}(h:atE d s au=0)(h2:permB (atP d s au).node.kind n.kind=true)(h3:nextE d site=0)(h4:nodeE (objN d n site)≠0):objO d s n site au=[]∧objS d s n site au=⟨0,0,0⟩∧objE d s n site au=nodeE (objN d n site):=
 obj_e (obj_n h h2 h3) h4
theorem obj_5{d:Doc}{s:Sel}{n:Node}{site:Int}{au:ByteArray}(h:atE d s au=0)(h2:permB (atP d s au).node.kind n.kind=true)(h3:nextE d site=0)(h4:nodeE (objN d n site)=0):
 objO d s n site au=[opN (objN d n site)]++[opF s.nd (stpP (atP d s au) s (objX d s site au))]∧objS d s n site au=selP s (objX d s site au)∧objE d s n site au=0:=by
 have e:=(obj_n (n:=n) h h2 h3).trans h4
 unfold objO objS;rw[e,if_neg (fun q=>q rfl),if_neg (fun q=>q rfl)];exact⟨rfl,rfl,rfl⟩
def tblN(r c:Int):Node:=⟨0,2,[],[],⟨r,c,[],[]⟩,[]⟩
def kindB:ByteArray:={data:=#[107,105,110,100]}
def notN(e:Bool):Node:=⟨0,4,[⟨kindB,if e=true then {data:=#[101,110,100]} else {data:=#[102,111,111,116]}⟩],[⟨10,0,[]⟩],⟨0,0,[],[]⟩,[]⟩
def fldN(l:List Attr):Node:=⟨0,5,l,[],⟨0,0,[],[]⟩,[]⟩
def tabE(d:Doc)(k:Int):Int:=if docE d≠0 then docE d else if hasN d.nodes k=false then 7 else if hasG (d.nodes.getD (lobN d.nodes k) default).kind=false then 8 else 0
def zeroN:Node:=⟨0,0,[],[],⟨0,0,[],[]⟩,[]⟩
def tabN(d:Doc)(k:Int):Node:=if tabE d k≠0 then zeroN else d.nodes.getD (lobN d.nodes k) default
theorem tab_e{d:Doc}{k e:Int}(h:tabE d k=e)(he:e≠0):tabN d k=zeroN∧tabE d k=e:=by
 unfold tabN;rw[h,if_pos he];exact⟨rfl,rfl⟩
theorem tab_1{d:Doc}{k:Int}(h:docE d≠0):tabN d k=zeroN∧tabE d k=docE d:=tab_e (by unfold tabE;rw[if_pos h]) h
theorem tab_2{d:Doc}{k:Int}(h:docE d=0)(h2:hasN d.nodes k=false):tabN d k=zeroN∧tabE d k=7:=tab_e (by unfold tabE;rw[if_neg (fun q=>q h),if_pos h2]) (by decide)
theorem tab_3{d:Doc}{k:Int}(h:docE d=0)(h2:hasN d.nodes k=true)(h3:hasG (d.nodes.getD (lobN d.nodes k) default).kind=false):tabN d k=zeroN∧tabE d k=8:=
 tab_e (by unfold tabE;rw[if_neg (fun q=>q h),if_neg (by rw[h2];decide),if_pos h3]) (by decide)
theorem tab_4{d:Doc}{k:Int}(h:docE d=0)(h2:hasN d.nodes k=true)(h3:hasG (d.nodes.getD (lobN d.nodes k) default).kind=true):tabN d k=d.nodes.getD (lobN d.nodes k) default∧tabE d k=0:=by
 have e:tabE d k=0:=by unfold tabE;rw[if_neg (fun q=>q h),if_neg (by rw[h2];decide),if_neg (by rw[h3];decide)]
 unfold tabN;rw[e,if_neg (fun q=>q rfl)];exact⟨rfl,rfl⟩
theorem y1z{d:Doc}{k:Int}(h:tabE d k=0):(0≤(tabN d k).grid.rows∧(tabN d k).grid.rows≤2147483647)∧0≤(tabN d k).grid.cols∧(tabN d k).grid.cols≤2147483647:=by
 have e:tabN d k=d.nodes.getD (lobN d.nodes k) default:=by unfold tabN;rw[h,if_neg (fun q=>q rfl)]
 unfold tabE at h
 split at h
 ·rename_i q;exact absurd h q
 rename_i q
 have hd:docE d=0:=Classical.byContradiction q
 split at h
 ·cases h
 rename_i hn
 split at h
 ·cases h
 rename_i hg
 have hn:hasN d.nodes k=true:=by simpa using hn
 have hg:hasG (d.nodes.getD (lobN d.nodes k) default).kind=true:=by simpa using hg
 have hlt:=(z08.1 hn).1
 have hnd:nodeE (d.nodes.getD (lobN d.nodes k) default)=0:=by
  unfold docE at hd
  split at hd
  ·cases hd
  ·split at hd
   ·rename_i q;exact absurd hd q
   ·rename_i q;exact(z2B _ 0 rfl (Classical.byContradiction q)).1 _ (Nat.zero_le _) hlt
 rw[e]
 generalize d.nodes.getD (lobN d.nodes k) default=n at hnd hg
 have hgr:gridE n.grid=0:=by
  unfold nodeE at hnd
  split at hnd
  ·cases hnd
  split at hnd
  ·cases hnd
  split at hnd
  ·rename_i q;exact absurd hnd q
  split at hnd
  ·cases hnd
  split at hnd
  ·rename_i q;exfalso
   unfold hasG at hg;unfold hasT hasL at q
   simp only[Bool.or_eq_true,beq_iff_eq] at hg q
   omega
  (try rw[if_pos hg] at hnd)
  split at hnd
  ·rename_i q;exact absurd hnd q
  ·rename_i q;exact Classical.byContradiction q
 unfold gridE at hgr
 split at hgr
 ·cases hgr
 ·omega
theorem y5Q{d:Doc}(h:DocL d)(k:Int):(tabN d k).grid.cells.length≤1048576:=by
 unfold tabN;split
 ·simp[zeroN]
 ·by_cases q:lobN d.nodes k<d.nodes.length
  ·exact(h.all _ (z0g q)).ce2
  ·rw[List.getD_eq_getElem?_getD,List.getElem?_eq_none (by omega)];simp[default,instInhabitedNode]
def addS(k n:Int):List AxStep:=if n>0 then[{kind:=k,n:=n}] else[]
theorem z2R(k n:Int):(addS k n).length≤1:=by unfold addS;split<;>simp
def shfX(m a n:Int):List AxStep:=(((([]:List AxStep)++addS 0 a)++addS 1 n)++addS 2 (0-n))++addS 0 ((m-a)- max 0 (0-n))
def shfE(m a n:Int):Int:=if n< -2147483647∨n=0∨a<0∨m<a∨(n<0∧m-a< -n) then 2 else if 1000<n then 3 else z1l (shfX m a n)
def shfL(m a n:Int):List AxStep:=if n< -2147483647∨n=0∨a<0∨m<a∨(n<0∧m-a< -n) then[] else if 1000<n then[] else shfX m a n
theorem shf_1{m a n:Int}(h:(((n< -2147483647∨n=0)∨a<0)∨m<a)∨(n<0∧m-a< -n)):shfL m a n=[]∧shfE m a n=2:=by
 have hc:(n< -2147483647∨n=0∨a<0∨m<a∨(n<0∧m-a< -n)):=by omega
 unfold shfL shfE;rw[if_pos hc,if_pos hc];exact⟨rfl,rfl⟩
theorem shf_2{m a n:Int}(h:(((-2147483647≤n∧¬n=0)∧0≤a)∧a≤m)∧(0≤n∨ -n≤m-a))(h2:1000<n):shfL m a n=[]∧shfE m a n=3:=by
 have hc:¬(n< -2147483647∨n=0∨a<0∨m<a∨(n<0∧m-a< -n)):=by omega
 unfold shfL shfE;rw[if_neg hc,if_neg hc,if_pos h2,if_pos h2];exact⟨rfl,rfl⟩
theorem shf_3{m a n:Int}(h:(((-2147483647≤n∧¬n=0)∧0≤a)∧a≤m)∧(0≤n∨ -n≤m-a))(h2:n≤1000):shfL m a n=shfX m a n∧shfE m a n=z1l (shfX m a n):=by
 have hc:¬(n< -2147483647∨n=0∨a<0∨m<a∨(n<0∧m-a< -n)):=by omega
 have h2':¬1000<n:=by omega
 unfold shfL shfE;rw[if_neg hc,if_neg hc,if_neg h2',if_neg h2'];exact⟨rfl,rfl⟩
def rshE(d:Doc)(k a n:Int):Int:=if tabE d k≠0 then tabE d k else shfE (tabN d k).grid.rows a n
def rshO(d:Doc)(k a n:Int):List EOp:=if rshE d k a n≠0 then[] else[opG k ⟨shfL (tabN d k).grid.rows a n,[],[],[],[]⟩]
theorem rsh_1{d:Doc}{k a n:Int}(h:tabE d k≠0):rshO d k a n=[]∧rshE d k a n=tabE d k:=by
 have e:rshE d k a n=tabE d k:=by unfold rshE;rw[if_pos h]
 unfold rshO;rw[e,if_pos h];exact⟨rfl,rfl⟩
theorem rsh_2{d:Doc}{k a n:Int}(h:tabE d k=0)(h2:shfE (tabN d k).grid.rows a n≠0):rshO d k a n=[]∧rshE d k a n=shfE (tabN d k).grid.rows a n:=by
 have e:rshE d k a n=shfE (tabN d k).grid.rows a n:=by unfold rshE;rw[if_neg (fun q=>q h)]
 unfold rshO;rw[e,if_pos h2];exact⟨rfl,rfl⟩
theorem rsh_3{d:Doc}{k a n:Int}(h:tabE d k=0)(h2:shfE (tabN d k).grid.rows a n=0):rshO d k a n=[opG k ⟨shfL (tabN d k).grid.rows a n,[],[],[],[]⟩]∧rshE d k a n=0:=by
 have e:rshE d k a n=0:=by unfold rshE;rw[if_neg (fun q=>q h),h2]
 unfold rshO;rw[e,if_neg (fun q=>q rfl)];exact⟨rfl,rfl⟩
def cshE(d:Doc)(k a n:Int):Int:=if tabE d k≠0 then tabE d k else shfE (tabN d k).grid.cols a n
def cshO(d:Doc)(k a n:Int):List EOp:=if cshE d k a n≠0 then[] else[opG k ⟨[],shfL (tabN d k).grid.cols a n,[],[],[]⟩]
theorem csh_1{d:Doc}{k a n:Int}(h:tabE d k≠0):cshO d k a n=[]∧cshE d k a n=tabE d k:=by
 have e:cshE d k a n=tabE d k:=by unfold cshE;rw[if_pos h]
 unfold cshO;rw[e,if_pos h];exact⟨rfl,rfl⟩
theorem csh_2{d:Doc}{k a n:Int}(h:tabE d k=0)(h2:shfE (tabN d k).grid.cols a n≠0):cshO d k a n=[]∧cshE d k a n=shfE (tabN d k).grid.cols a n:=by
 have e:cshE d k a n=shfE (tabN d k).grid.cols a n:=by unfold cshE;rw[if_neg (fun q=>q h)]
 unfold cshO;rw[e,if_pos h2];exact⟨rfl,rfl⟩
theorem csh_3{d:Doc}{k a n:Int}(h:tabE d k=0)(h2:shfE (tabN d k).grid.cols a n=0):cshO d k a n=[opG k ⟨[],shfL (tabN d k).grid.cols a n,[],[],[]⟩]∧cshE d k a n=0:=by
 have e:cshE d k a n=0:=by unfold cshE;rw[if_neg (fun q=>q h),h2]
 unfold cshO;rw[e,if_neg (fun q=>q rfl)];exact⟨rfl,rfl⟩
theorem y7y{α:Type}[Inhabited α]{f:α→Bool}{l:List α}{i:Nat}(h:i<l.length)(h2:f (l.getD i default)=true):idxF f l i=(i:Int):=by rw[idxF,if_pos h,if_pos h2]
theorem y5R{α:Type}[Inhabited α]{f:α→Bool}{l:List α}{i:Nat}(h:i<l.length)(h2:f (l.getD i default)=false):idxF f l i=idxF f l (i+1):=by rw[idxF,if_pos h,if_neg (by rw[h2];decide)]
theorem y7z{α:Type}[Inhabited α]{f:α→Bool}{l:List α}{i:Nat}(h:¬i<l.length):idxF f l i= -1:=by rw[idxF,if_neg h]
def celI(d:Doc)(k r c:Int):Int:=idxF (fun x:Cell=>x.row==r&&x.col==c) (tabN d k).grid.cells 0
def celE(d:Doc)(k r c site:Int):Int:=
 if tabE d k≠0 then tabE d k else if(tabN d k).kind≠2 then 8
 else if r<0∨(tabN d k).grid.rows≤r∨c<0∨(tabN d k).grid.cols≤c then 2
 else if 0≤celI d k r c then 0 else nextE d site
def celM(d:Doc)(site:Int):Node:=⟨nextN d site,3,[],[⟨10,0,[]⟩],⟨0,0,[],[]⟩,[]⟩
def celL(d:Doc)(k r c site:Int):List EOp:=[opN (celM d site),opG k ⟨[],[],[⟨r,c,{data:=#[]},nextN d site,[]⟩],[],[]⟩]
def celO(d:Doc)(k r c site:Int):List EOp:=if celE d k r c site≠0∨0≤celI d k r c then[] else celL d k r c site
def celR(d:Doc)(k r c site:Int):Int:=if celE d k r c site≠0 then 0 else if 0≤celI d k r c then((tabN d k).grid.cells.getD (celI d k r c).toNat default).ref else nextN d site
theorem cel_e{d:Doc}{k r c site e:Int}(h:celE d k r c site=e)(he:e≠0):celO d k r c site=[]∧celR d k r c site=0∧celE d k r c site=e:=by
 unfold celO celR;rw[h,if_pos (.inl he),if_pos he];exact⟨rfl,rfl,rfl⟩
theorem cel_1{d:Doc}{k r c site:Int}(h:tabE d k≠0):celO d k r c site=[]∧celR d k r c site=0∧celE d k r c site=tabE d k:=cel_e (by unfold celE;rw[if_pos h]) h
theorem cel_2{d:Doc}{k r c site:Int}(h:tabE d k=0)(h2:¬(tabN d k).kind=2):celO d k r c site=[]∧celR d k r c site=0∧celE d k r c site=8:=cel_e (by unfold celE;rw[if_neg (fun q=>q h),if_pos h2]) (by decide)
theorem cel_3{d:Doc}{k r c site:Int}(h:tabE d k=0)(h2:(tabN d k).kind=2)(h3:((r<0∨(tabN d k).grid.rows≤r)∨c<0)∨(tabN d k).grid.cols≤c):celO d k r c site=[]∧celR d k r c site=0∧celE d k r c site=2:=
 cel_e (by unfold celE;rw[if_neg (fun q=>q h),if_neg (fun q=>q h2),if_pos (by omega)]) (by decide)
theorem cel_4{d:Doc}{k r c site:Int}{i:Nat}(h:tabE d k=0)(h2:(tabN d k).kind=2)(h3:((0≤r∧r< (tabN d k).grid.rows)∧0≤c)∧c< (tabN d k).grid.cols)(h4:idxF (fun x:Cell=>x.row==r&&x.col==c) (tabN d k).grid.cells 0=(i:Int)):
 celO d k r c site=[]∧celR d k r c site=((tabN d k).grid.cells.getD i default).ref∧celE d k r c site=0:=by
 have hi:celI d k r c=(i:Int):=h4
 have e:celE d k r c site=0:=by unfold celE;rw[if_neg (fun q=>q h),if_neg (fun q=>q h2),if_neg (by omega),hi,if_pos (by omega)]
 unfold celO celR;rw[e,hi,if_pos (.inr (by omega)),if_neg (fun q=>q rfl),if_pos (by omega)]
 exact⟨rfl,rfl,rfl⟩
theorem cel_n{d:Doc}{k r c site:Int}(h:tabE d k=0)(h2:(tabN d k).kind=2)(h3:((0≤r∧r< (tabN d k).grid.rows)∧0≤c)∧c< (tabN d k).grid.cols)(h4:idxF (fun x:Cell=>x.row==r&&x.col==c) (tabN d k).grid.cells 0= -1):celE d k r c site=nextE d site:=by
 have hi:celI d k r c= -1:=h4
 unfold celE;rw[if_neg (fun q=>q h),if_neg (fun q=>q h2),if_neg (by omega),hi,if_neg (by omega)]
theorem cel_5{d:Doc}{k r c site:Int}(h:tabE d k=0)(h2:(tabN d k).kind=2)(h3:((0≤r∧r< (tabN d k).grid.rows)∧0≤c)∧c< (tabN d k).grid.cols)(h4:idxF (fun x:Cell=>x.row==r&&x.col==c) (tabN d k).grid.cells 0= -1)(h5:¬nextE d site=0):
 celO d k r c site=[]∧celR d k r c site=0∧celE d k r c site=nextE d site:=cel_e (cel_n h h2 h3 h4) h5
theorem cel_6{d:Doc}{k r c site:Int}(h:tabE d k=0)(h2:(tabN d k).kind=2)(h3:((0≤r∧r< (tabN d k).grid.rows)∧0≤c)∧c< (tabN d k).grid.cols)(h4:idxF (fun x:Cell=>x.row==r&&x.col==c) (tabN d k).grid.cells 0= -1)(h5:nextE d site=0):
 celO d k r c site=celL d k r c site∧celR d k r c site=nextN d site∧celE d k r c site=0:=by
 have hi:celI d k r c= -1:=h4
 have e:=(cel_n (site:=site) h h2 h3 h4).trans h5
 unfold celO celR;rw[e,hi,if_neg (by omega),if_neg (fun q=>q rfl),if_neg (by omega)]
 exact⟨rfl,rfl,rfl⟩
end Go.Ch
end
section
set_option linter.unusedVariables false
set_option linter.unusedSimpArgs false
set_option maxRecDepth 100000
set_option maxHeartbeats 4000000
open Go Go.Proofs Go.Ab
namespace Go.Ch
theorem y2m(p:Pl)(s:Sel)(es:List Elem)(hb:PlB p)(hs:StpB p s es):FC Tryz.prog 33 [.ptr 0 0,.t (selT s),.row 1 es.length] (app emp [(0,.box [VI p.node.id,VI p.node.kind,VL 2 attrT p.node.attrs,VL 3 elemT p.node.flow,VI p.node.grid.rows,VI p.node.grid.cols,VL 5 cellT p.node.grid.cells,VL 4 rectT p.node.grid.merges,VL 8 dopT p.node.draw,VL 1 intT p.shown,VS p.author]),(1,OR 3 elemT es)]) (.tup [VL 19 eopT [opF s.nd (stpP p s es)],.t (selT (selP s es)),VI 0]) (app emp [(0,.box [VI p.node.id,VI p.node.kind,VL 2 attrT p.node.attrs,VL 3 elemT p.node.flow,VI p.node.grid.rows,VI p.node.grid.cols,VL 5 cellT p.node.grid.cells,VL 4 rectT p.node.grid.merges,VL 8 dopT p.node.draw,VL 1 intT p.shown,VS p.author]),(1,OF 3 elemT es)]):=by
 refine .go Tryz.f33 ?_
 obtain⟨s1,q1,q2,v1,v2,v3,d1,d2,d3,m1,m2,m3⟩:=hs
 simp only[ersP,typP] at v1 v2 v3 d1 d2 d3 m1 m2 m3
 have hf:p.node.flow.length≤10000000:=by(have:=hb.len;omega)
 have hsh:=hb.sl
 have hpl:∀x∈(p.shown.take s.tq.toNat).drop s.fr.toNat,0≤x∧x< (p.node.flow.length:Int):=fun x hx=>hb.ok x (List.mem_of_mem_take (List.mem_of_mem_drop hx))
 have hpl2:∀x∈p.shown,0≤x∧x≤1000000000:=fun x hx=>by(have:=hb.ok x hx;omega)
 have hgp:=z92 hb s1
 have e1:([opF s.nd (stpP p s es)]:List EOp)=[({kind:=2,node:=s.nd,nw:=({id:=0,kind:=0,attrs:=[],flow:=[],grid:=({rows:=0,cols:=0,cells:=[],merges:=[]}:Grid),draw:=[]}:Node),attrs:=[],steps:=(joinD (ersD p.node.flow ((p.shown.take (Int.toNat s.tq)).drop (Int.toNat s.fr)) p.author) (z1h (typD (p.node.flow).length (gapP p.shown s.fr) es p.author) (ersD p.node.flow ((p.shown.take (Int.toNat s.tq)).drop (Int.toNat s.fr)) p.author))),grid:=({rows:=[],cols:=[],cells:=[],split:=[],merge:=[]}:GEd),draw:=[]}:EOp)]:=by
  rfl
 have e2:((selP s es):Sel)=({nd:=s.nd,fr:=(s.fr+(es.length:Int)),tq:=(s.fr+(es.length:Int))}:Sel):=by
  rfl
 exact .finVE [.r [],.r [],.r [(9,X (Xsb intT 1 p.shown s.fr s.tq)),(14,X (Xc1 194 (z89 p.node.flow ((p.shown.take (Int.toNat s.tq)).drop (Int.toNat s.fr)) p.author (by omega) (by assumption)) X0))],.r [(6,X (Xc0 (y4g p.shown s.fr (by omega) (by assumption)) X0))],.r [(7,X (Xc1 330 (y1y p.node.flow (gapP p.shown s.fr) es p.author (by omega) (by omega) (by omega) (by assumption)) (rowC elemT es X0)))],.r [(2,X (Xc1 362 (y1x (typD (p.node.flow).length (gapP p.shown s.fr) es p.author) (ersD p.node.flow ((p.shown.take (Int.toNat s.tq)).drop (Int.toNat s.fr)) p.author) (by assumption) (by assumption) (by assumption) (by assumption) (by omega) (by omega)) X0))],.r [],.f,.r [(2,X (Xc1 458 (y1r (ersD p.node.flow ((p.shown.take (Int.toNat s.tq)).drop (Int.toNat s.fr)) p.author) (z1h (typD (p.node.flow).length (gapP p.shown s.fr) es p.author) (ersD p.node.flow ((p.shown.take (Int.toNat s.tq)).drop (Int.toNat s.fr)) p.author)) (by assumption) (by assumption) (by assumption) (by assumption) (by omega)) X0))],.r [],.f,.r [(4,X (Xn (s.fr+(es.length:Int))))],.r [(3,X (Xf [(4,2),(5,3),(8,5),(9,4),(10,8),(11,2),(13,2),(14,2),(15,5),(16,4),(17,4),(18,8)]))],.le (.fr 6 [(1:Nat)=(List.map eopT [({kind:=2,node:=s.nd,nw:=({id:=0,kind:=0,attrs:=[],flow:=[],grid:=({rows:=0,cols:=0,cells:=[],merges:=[]}:Grid),draw:=[]}:Node),attrs:=[],steps:=(joinD (ersD p.node.flow ((p.shown.take (Int.toNat s.tq)).drop (Int.toNat s.fr)) p.author) (z1h (typD (p.node.flow).length (gapP p.shown s.fr) es p.author) (ersD p.node.flow ((p.shown.take (Int.toNat s.tq)).drop (Int.toNat s.fr)) p.author))),grid:=({rows:=[],cols:=[],cells:=[],split:=[],merge:=[]}:GEd),draw:=[]}:EOp)]).length] ⟨lm,trivial⟩)] [] [(0,0),(1,1)] (fun((z0,z1):(List EOp)×Sel)=>(.tup [VL 19 eopT z0,.t (selT z1),VI 0],[(0,.box [VI p.node.id,VI p.node.kind,VL 2 attrT p.node.attrs,VL 3 elemT p.node.flow,VI p.node.grid.rows,VI p.node.grid.cols,VL 5 cellT p.node.grid.cells,VL 4 rectT p.node.grid.merges,VL 8 dopT p.node.draw,VL 1 intT p.shown,VS p.author]),(1,OF 3 elemT es)])) _ _ (pr e1 e2)
theorem y7A(k:Int):FC Tryz.prog 191 [VI k] (app emp []) (VI (k/65536)) (app emp []):=by
 refine .go Tryz.f191 ?_
 exact .fin [.r [],.r [(1,X (Xsh IntKind.i64 16 (k.fdiv (2^(min (16:Int).toNat IntKind.i64.bits))) (k/65536)) ⟨by decide,shr16⟩)]] []
theorem y4m(d:Doc)(site:Int)(hb:DocL d):FC Tryz.prog 149 [.t (docT d),VI site] (app emp []) (.tup [VI (nextN d site),VI (nextE d site)]) (app emp []):=by
 refine .go Tryz.f149 ?_
 have hl:=hb.len
 refine .bp [.r [],.r [(1,X (Xc0 (z3k d (by assumption)) X0))],.r []] ((docE d) !=0) (fun h2=> ?_) (fun h2=> ?_)
 ·
  have T:=y8E (site:=site) h2
  have e1:((nextN d site):Int)=0:=by
   exact T.1
  have e2:((nextE d site):Int)=(docE d):=by
   exact T.2
  exact .finE [.r []] [] (fun((z0,z1):Int×Int)=>(.tup [VI z0,VI z1],[])) _ _ (pr e1 e2)
 ·
  refine .bp [.r [(4,Xv 1 (!(decide (site<0))) X0),(5,X (Xk' (decide (site<0))))]] (decide (site<0)||decide (site>1000)) (fun h4=> ?_) (fun h4=> ?_)
  ·
   have T:=y8F (by omega) h4
   have e3:((nextN d site):Int)=0:=by
    exact T.1
   have e4:((nextE d site):Int)=2:=by
    exact T.2
   exact .finE [.r []] [] (fun((z0,z1):Int×Int)=>(.tup [VI z0,VI z1],[])) _ _ (pr e3 e4)
  ·
   have hid:=y3L (d:=d) (by omega)
   refine .loop (α:=Int×Nat) [.r [(1,X (Xsh IntKind.i64 16 (IntKind.i64.wrap (site*2^(min (16:Int).toNat IntKind.i64.bits))) (site*65536)) ⟨by decide,shl16 (by omega)⟩)],.r [(2,X (Xl nodeT d.nodes))]] 168 (fun(x,i)=>([(1,VI site),(7,VI x),(24,VL 9 nodeT d.nodes),(25,VI (d.nodes.length:Int)),(26,VI (i:Int))],[])) (fun(x,i)=>i≤d.nodes.length∧x=nxtF d.nodes site i∧0≤x∧x≤1073741824) (fun(x,i)=>d.nodes.length-i) ((site*65536),0) ?_ ?_
   ·
    exact⟨by omega,rfl,by omega,by omega⟩
   rintro⟨x,i⟩ I8 ih8
   try dsimp only at I8
   refine .bp [.r []] (decide ((i:Int)< (d.nodes.length:Int))) (fun h8=> ?_) (fun h8=> ?_)
   ·
    have hx:=hid _ (z2z (l:=d.nodes) (i:=i) (by omega))
    refine .bp [.r [(0,X (Xi nodeT d.nodes (i:Int)))],.r [(2,X (Xc0 (y7A (((d.nodes.getD i default)).id)) X0))]] (((((d.nodes.getD i default)).id)/65536)==site) (fun h10=> ?_) (fun h10=> ?_)
    ·
     refine .back [.r [],.r [(0,X (Xn ((i:Int)+1)))]] [] (ih8 (((d.nodes.getD i default)).id,(i+1)) ?_ ?_)
     ·
      exact⟨by omega,by rw[z6c (by omega),if_pos h10],by omega,by omega⟩
     ·
      ((try dsimp only);omega)
    ·
     refine .back [.r [(0,X (Xn ((i:Int)+1)))]] [] (ih8 (x,(i+1)) ?_ ?_)
     ·
      exact⟨by omega,by rw[z6c (by omega),if_neg h10];exact I8.2.1,I8.2.2⟩
     ·
      ((try dsimp only);omega)
   ·
    have hx2:x=nxtF d.nodes site d.nodes.length:=by rw[I8.2.1,show i=d.nodes.length by omega]
    refine .bp [.r [(1,X (Xbit IntKind.i64 (andI IntKind.i64 x 65535) (x%65536)) (and16 (by omega)))]] ((x%65536)==65535) (fun h13=> ?_) (fun h13=> ?_)
    ·
     have T:=y6C (by omega) h4 (hx2▸h13)
     have e5:((nextN d site):Int)=0:=by
      exact T.1
     have e6:((nextE d site):Int)=18:=by
      exact T.2
     exact .finE [.r []] [] (fun((z0,z1):Int×Int)=>(.tup [VI z0,VI z1],[])) _ _ (pr e5 e6)
    ·
     have T:=y6D (by omega) h4 (hx2▸h13)
     rw[←hx2] at T
     have e7:((nextN d site):Int)=(x+1):=by
      exact T.1
     have e8:((nextE d site):Int)=0:=by
      exact T.2
     exact .finE [.r [(1,X (Xn (x+1)))]] [] (fun((z0,z1):Int×Int)=>(.tup [VI z0,VI z1],[])) _ _ (pr e7 e8)
theorem z4i(d:Doc)(s:Sel)(n:Node)(site:Int)(au:ByteArray)(hb:DocL d)(hn:n.grid.merges=[]∧NoTx n.grid.cells)(hx:atE d s au=0→nextE d site=0→ObjB d s n site au):FC Tryz.prog 146 [.t (docT d),.t (selT s),.t (nodeT n),VI site,VS au] (app emp []) (.tup [VL 19 eopT (objO d s n site au),.t (selT (objS d s n site au)),VI (objE d s n site au)]) (app emp []):=by
 refine .go Tryz.f146 ?_
 refine .bp [.r [],.r [(3,X (Xc1 72 (fc_at d s au (by assumption)) X0))],.r []] ((atE d s au) !=0) (fun h2=> ?_) (fun h2=> ?_)
 ·
  have T:=obj_1 (n:=n) (site:=site) h2
  have e1:((objO d s n site au):List EOp)=[]:=by
   exact T.1
  have e2:((objS d s n site au):Sel)=({nd:=0,fr:=0,tq:=0}:Sel):=by
   exact T.2.1
  have e3:((objE d s n site au):Int)=(atE d s au):=by
   exact T.2.2
  exact .finVE [.r [],.le (.nL 10 19)] [] [] (fun((z0,z1,z2):(List EOp)×Sel×Int)=>(.tup [VL 19 eopT z0,.t (selT z1),VI z2],[])) _ _ (pr e1 (pr e2 e3))
 ·
  refine .bp [.r [(5,X (Xc0 (y08 ((((atP d s au)).node).kind) n.kind) X0))]] (!(permB ((((atP d s au)).node).kind) n.kind)) (fun h4=> ?_) (fun h4=> ?_)
  ·
   have T:=obj_2 (site:=site) h2 h4
   have e4:((objO d s n site au):List EOp)=[]:=by
    exact T.1
   have e5:((objS d s n site au):Sel)=({nd:=0,fr:=0,tq:=0}:Sel):=by
    exact T.2.1
   have e6:((objE d s n site au):Int)=8:=by
    exact T.2.2
   exact .finVE [.r [],.le (.nL 10 19)] [] [] (fun((z0,z1,z2):(List EOp)×Sel×Int)=>(.tup [VL 19 eopT z0,.t (selT z1),VI z2],[])) _ _ (pr e4 (pr e5 e6))
  ·
   refine .bp [.r [(2,X (Xc0 (y4m d site (by assumption)) X0))],.r []] ((nextE d site) !=0) (fun h7=> ?_) (fun h7=> ?_)
   ·
    have T:=obj_3 h2 h4 h7
    have e7:((objO d s n site au):List EOp)=[]:=by
     exact T.1
    have e8:((objS d s n site au):Sel)=({nd:=0,fr:=0,tq:=0}:Sel):=by
     exact T.2.1
    have e9:((objE d s n site au):Int)=(nextE d site):=by
     exact T.2.2
    exact .finVE [.r [],.le (.nL 10 19)] [] [] (fun((z0,z1,z2):(List EOp)×Sel×Int)=>(.tup [VL 19 eopT z0,.t (selT z1),VI z2],[])) _ _ (pr e7 (pr e8 e9))
   ·
    obtain⟨o1,o2,o3⟩:=hx h2 h7
    refine .bp [.r [],.r [(1,X (Xc0 (z52 ({id:=(nextN d site),kind:=n.kind,attrs:=n.attrs,flow:=n.flow,grid:=n.grid,draw:=n.draw}:Node) (by assumption)) X0))],.r []] ((nodeE ({id:=(nextN d site),kind:=n.kind,attrs:=n.attrs,flow:=n.flow,grid:=n.grid,draw:=n.draw}:Node)) !=0) (fun h11=> ?_) (fun h11=> ?_)
    ·
     have T:=obj_4 h2 h4 h7 h11
     have e10:((objO d s n site au):List EOp)=[]:=by
      exact T.1
     have e11:((objS d s n site au):Sel)=({nd:=0,fr:=0,tq:=0}:Sel):=by
      exact T.2.1
     have e12:((objE d s n site au):Int)=(nodeE ({id:=(nextN d site),kind:=n.kind,attrs:=n.attrs,flow:=n.flow,grid:=n.grid,draw:=n.draw}:Node)):=by
      exact T.2.2
     exact .finVE [.r [],.le (.nL 10 19)] [] [] (fun((z0,z1,z2):(List EOp)×Sel×Int)=>(.tup [VL 19 eopT z0,.t (selT z1),VI z2],[])) _ _ (pr e10 (pr e11 e12))
    ·
     have T:=obj_5 h2 h4 h7 h11
     have e13:((objO d s n site au):List EOp)=([({kind:=0,node:=0,nw:=({id:=(nextN d site),kind:=n.kind,attrs:=n.attrs,flow:=n.flow,grid:=n.grid,draw:=n.draw}:Node),attrs:=[],steps:=[],grid:=({rows:=[],cols:=[],cells:=[],split:=[],merge:=[]}:GEd),draw:=[]}:EOp)]++[opF (s).nd (stpP ((atP d s au)) s [({char:=0,ref:=(nextN d site),attrs:=(inhP ((atP d s au)) s.fr)}:Elem)])]):=by
      exact T.1
     have e14:((objS d s n site au):Sel)=((selP s [({char:=0,ref:=(nextN d site),attrs:=(inhP ((atP d s au)) s.fr)}:Elem)])):=by
      exact T.2.1
     have e15:((objE d s n site au):Int)=0:=by
      exact T.2.2
     exact .finVE [.r [(4,X (Xc4 [(0,104)] (y6A ((atP d s au)) s.fr (by assumption) (by omega)) X0)),(7,X (Xc3 400 [(0,104),(1,392)] (y2m ((atP d s au)) s [({char:=0,ref:=(nextN d site),attrs:=(inhP ((atP d s au)) s.fr)}:Elem)] (by assumption) (by assumption)) X0))],.r [],.f,.r [(1,X (Xf [(11,2),(12,4),(13,2),(14,2),(15,5),(16,4),(17,4),(18,8)])),(4,X (XapB 19 eopT 504 [({kind:=0,node:=0,nw:=({id:=(nextN d site),kind:=n.kind,attrs:=n.attrs,flow:=n.flow,grid:=n.grid,draw:=n.draw}:Node),attrs:=[],steps:=[],grid:=({rows:=[],cols:=[],cells:=[],split:=[],merge:=[]}:GEd),draw:=[]}:EOp)] [opF (s).nd (stpP ((atP d s au)) s [({char:=0,ref:=(nextN d site),attrs:=(inhP ((atP d s au)) s.fr)}:Elem)])]))],.le (.fr 10 [((([({kind:=0,node:=0,nw:=({id:=(nextN d site),kind:=n.kind,attrs:=n.attrs,flow:=n.flow,grid:=n.grid,draw:=n.draw}:Node),attrs:=[],steps:=[],grid:=({rows:=[],cols:=[],cells:=[],split:=[],merge:=[]}:GEd),draw:=[]}:EOp)]++[opF (s).nd (stpP ((atP d s au)) s [({char:=0,ref:=(nextN d site),attrs:=(inhP ((atP d s au)) s.fr)}:Elem)])]).length):Nat)=(List.map eopT ([({kind:=0,node:=0,nw:=({id:=(nextN d site),kind:=n.kind,attrs:=n.attrs,flow:=n.flow,grid:=n.grid,draw:=n.draw}:Node),attrs:=[],steps:=[],grid:=({rows:=[],cols:=[],cells:=[],split:=[],merge:=[]}:GEd),draw:=[]}:EOp)]++[opF (s).nd (stpP ((atP d s au)) s [({char:=0,ref:=(nextN d site),attrs:=(inhP ((atP d s au)) s.fr)}:Elem)])])).length] ⟨lm,trivial⟩)] [] [] (fun((z0,z1,z2):(List EOp)×Sel×Int)=>(.tup [VL 19 eopT z0,.t (selT z1),VI z2],[])) _ _ (pr e13 (pr e14 e15))
theorem y7B(d:Doc)(s:Sel)(r c:Int)(site:Int)(au:ByteArray)(hr:1≤r∧r≤1000∧1≤c∧c≤1000)(hb:DocL d)(hx:atE d s au=0→nextE d site=0→ObjB d s (tblN r c) site au):FC Tryz.prog 96 [.t (docT d),.t (selT s),VI r,VI c,VI site,VS au] (app emp []) (.tup [VL 19 eopT (objO d s (tblN r c) site au),.t (selT (objS d s (tblN r c) site au)),VI (objE d s (tblN r c) site au)]) (app emp []):=by
 refine .go Tryz.f96 ?_
 have hn:(tblN r c).grid.merges=[]∧NoTx (tblN r c).grid.cells:=⟨rfl,fun x h=>by cases h⟩
 refine .bp [.r [],.r [(4,Xv 1 (!(decide (r<1))) X0),(5,X (Xk' (decide (r<1)))),(8,Xv 1 (!(decide (r<1)||decide (r>1000))) X0),(9,X (Xk' (decide (r<1)||decide (r>1000)))),(12,Xv 1 (!((decide (r<1)||decide (r>1000))||decide (c<1))) X0),(13,X (Xk' ((decide (r<1)||decide (r>1000))||decide (c<1))))]] (((decide (r<1)||decide (r>1000))||decide (c<1))||decide (c>1000)) (fun h1=> ?_) (fun h1=> ?_)
 ·
  exfalso
  omega
 ·
  have e1:((objO d s (tblN r c) site au):List EOp)=(objO d s ({id:=0,kind:=2,attrs:=[],flow:=[],grid:=({rows:=r,cols:=c,cells:=[],merges:=[]}:Grid),draw:=[]}:Node) site au):=by
   rfl
  have e2:((objS d s (tblN r c) site au):Sel)=((objS d s ({id:=0,kind:=2,attrs:=[],flow:=[],grid:=({rows:=r,cols:=c,cells:=[],merges:=[]}:Grid),draw:=[]}:Node) site au)):=by
   rfl
  have e3:((objE d s (tblN r c) site au):Int)=(objE d s ({id:=0,kind:=2,attrs:=[],flow:=[],grid:=({rows:=r,cols:=c,cells:=[],merges:=[]}:Grid),draw:=[]}:Node) site au):=by
   rfl
  exact .finVE [.r [(4,X (Xf [(2,5),(3,4)])),(5,X (Xf [(2,2),(3,3),(8,8)])),(8,X (Xc1 216 (z4i d s ({id:=0,kind:=2,attrs:=[],flow:=[],grid:=({rows:=r,cols:=c,cells:=[],merges:=[]}:Grid),draw:=[]}:Node) site au (by assumption) (by assumption) (by assumption)) X0))]] [] [] (fun((z0,z1,z2):(List EOp)×Sel×Int)=>(.tup [VL 19 eopT z0,.t (selT z1),VI z2],[])) _ _ (pr e1 (pr e2 e3))
theorem y7C(d:Doc)(s:Sel)(e:Bool)(site:Int)(au:ByteArray)(hb:DocL d)(hx:atE d s au=0→nextE d site=0→ObjB d s (notN e) site au):FC Tryz.prog 97 [.t (docT d),.t (selT s),VB e,VI site,VS au] (app emp []) (.tup [VL 19 eopT (objO d s (notN e) site au),.t (selT (objS d s (notN e) site au)),VI (objE d s (notN e) site au)]) (app emp []):=by
 refine .go Tryz.f97 ?_
 have hn:(notN e).grid.merges=[]∧NoTx (notN e).grid.cells:=⟨rfl,fun x h=>by cases h⟩
 refine .bp [.r [],.r [],.r []] e (fun h2=> ?_) (fun h2=> ?_)
 ·
  rw[h2] at hx hn
  have e1:((objO d s (notN e) site au):List EOp)=(objO d s ({id:=0,kind:=4,attrs:=[({name:={data:=#[107,105,110,100]},val:={data:=#[101,110,100]}}:Attr)],flow:=[({char:=10,ref:=0,attrs:=[]}:Elem)],grid:=({rows:=0,cols:=0,cells:=[],merges:=[]}:Grid),draw:=[]}:Node) site au):=by
   rw[h2];rfl
  have e2:((objS d s (notN e) site au):Sel)=((objS d s ({id:=0,kind:=4,attrs:=[({name:={data:=#[107,105,110,100]},val:={data:=#[101,110,100]}}:Attr)],flow:=[({char:=10,ref:=0,attrs:=[]}:Elem)],grid:=({rows:=0,cols:=0,cells:=[],merges:=[]}:Grid),draw:=[]}:Node) site au)):=by
   rw[h2];rfl
  have e3:((objE d s (notN e) site au):Int)=(objE d s ({id:=0,kind:=4,attrs:=[({name:={data:=#[107,105,110,100]},val:={data:=#[101,110,100]}}:Attr)],flow:=[({char:=10,ref:=0,attrs:=[]}:Elem)],grid:=({rows:=0,cols:=0,cells:=[],merges:=[]}:Grid),draw:=[]}:Node) site au):=by
   rw[h2];rfl
  exact .finVE [.r [],.r [(5,X (Xf [(2,2)])),(7,X (Xf [(6,5),(7,4),(8,8)])),(10,X (Xc1 144 (z4i d s ({id:=0,kind:=4,attrs:=[({name:={data:=#[107,105,110,100]},val:={data:=#[101,110,100]}}:Attr)],flow:=[({char:=10,ref:=0,attrs:=[]}:Elem)],grid:=({rows:=0,cols:=0,cells:=[],merges:=[]}:Grid),draw:=[]}:Node) site au (by assumption) (by assumption) (by assumption)) (rowC attrT [({name:={data:=#[107,105,110,100]},val:={data:=#[101,110,100]}}:Attr)] (rowC elemT [({char:=10,ref:=0,attrs:=[]}:Elem)] X0))))]] [] [] (fun((z0,z1,z2):(List EOp)×Sel×Int)=>(.tup [VL 19 eopT z0,.t (selT z1),VI z2],[])) _ _ (pr e1 (pr e2 e3))
 ·
  rw[h2] at hx hn
  have e4:((objO d s (notN e) site au):List EOp)=(objO d s ({id:=0,kind:=4,attrs:=[({name:={data:=#[107,105,110,100]},val:={data:=#[102,111,111,116]}}:Attr)],flow:=[({char:=10,ref:=0,attrs:=[]}:Elem)],grid:=({rows:=0,cols:=0,cells:=[],merges:=[]}:Grid),draw:=[]}:Node) site au):=by
   rw[h2];rfl
  have e5:((objS d s (notN e) site au):Sel)=((objS d s ({id:=0,kind:=4,attrs:=[({name:={data:=#[107,105,110,100]},val:={data:=#[102,111,111,116]}}:Attr)],flow:=[({char:=10,ref:=0,attrs:=[]}:Elem)],grid:=({rows:=0,cols:=0,cells:=[],merges:=[]}:Grid),draw:=[]}:Node) site au)):=by
   rw[h2];rfl
  have e6:((objE d s (notN e) site au):Int)=(objE d s ({id:=0,kind:=4,attrs:=[({name:={data:=#[107,105,110,100]},val:={data:=#[102,111,111,116]}}:Attr)],flow:=[({char:=10,ref:=0,attrs:=[]}:Elem)],grid:=({rows:=0,cols:=0,cells:=[],merges:=[]}:Grid),draw:=[]}:Node) site au):=by
   rw[h2];rfl
  exact .finVE [.r [(5,X (Xf [(2,2)])),(7,X (Xf [(6,5),(7,4),(8,8)])),(10,X (Xc1 136 (z4i d s ({id:=0,kind:=4,attrs:=[({name:={data:=#[107,105,110,100]},val:={data:=#[102,111,111,116]}}:Attr)],flow:=[({char:=10,ref:=0,attrs:=[]}:Elem)],grid:=({rows:=0,cols:=0,cells:=[],merges:=[]}:Grid),draw:=[]}:Node) site au (by assumption) (by assumption) (by assumption)) (rowC attrT [({name:={data:=#[107,105,110,100]},val:={data:=#[102,111,111,116]}}:Attr)] (rowC elemT [({char:=10,ref:=0,attrs:=[]}:Elem)] X0))))]] [] [] (fun((z0,z1,z2):(List EOp)×Sel×Int)=>(.tup [VL 19 eopT z0,.t (selT z1),VI z2],[])) _ _ (pr e4 (pr e5 e6))
theorem y7D(d:Doc)(s:Sel)(l:List Attr)(site:Int)(au:ByteArray)(hc:chkA false l 0=0)(hl:l.length≤1048576)(hb:DocL d)(hx:atE d s au=0→nextE d site=0→ObjB d s (fldN l) site au):FC Tryz.prog 98 [.t (docT d),.t (selT s),VL 2 attrT l,VI site,VS au] (app emp []) (.tup [VL 19 eopT (objO d s (fldN l) site au),.t (selT (objS d s (fldN l) site au)),VI (objE d s (fldN l) site au)]) (app emp []):=by
 refine .go Tryz.f98 ?_
 refine .len 2 (fun hl2=> ?_)
 have hn:(fldN l).grid.merges=[]∧NoTx (fldN l).grid.cells:=⟨rfl,fun x h=>by cases h⟩
 refine .bp [.r [],.r [(1,X (Xc0 (z2x l) X0))],.r []] ((chkA false l 0) !=0) (fun h2=> ?_) (fun h2=> ?_)
 ·
  exfalso
  omega
 ·
  have e1:((objO d s (fldN l) site au):List EOp)=(objO d s ({id:=0,kind:=5,attrs:=l,flow:=[],grid:=({rows:=0,cols:=0,cells:=[],merges:=[]}:Grid),draw:=[]}:Node) site au):=by
   rfl
  have e2:((objS d s (fldN l) site au):Sel)=((objS d s ({id:=0,kind:=5,attrs:=l,flow:=[],grid:=({rows:=0,cols:=0,cells:=[],merges:=[]}:Grid),draw:=[]}:Node) site au)):=by
   rfl
  have e3:((objE d s (fldN l) site au):Int)=(objE d s ({id:=0,kind:=5,attrs:=l,flow:=[],grid:=({rows:=0,cols:=0,cells:=[],merges:=[]}:Grid),draw:=[]}:Node) site au):=by
   rfl
  exact .finVE [.r [(3,X (Xan attrT 104 l)),(4,X (Xf [(3,3),(6,5),(7,4),(8,8)])),(7,X (Xc1 136 (z4i d s ({id:=0,kind:=5,attrs:=l,flow:=[],grid:=({rows:=0,cols:=0,cells:=[],merges:=[]}:Grid),draw:=[]}:Node) site au (by assumption) (by assumption) (by assumption)) (rowC attrT l X0)))]] [] [] (fun((z0,z1,z2):(List EOp)×Sel×Int)=>(.tup [VL 19 eopT z0,.t (selT z1),VI z2],[])) _ _ (pr e1 (pr e2 e3))
end Go.Ch
end
section
set_option linter.unusedVariables false
set_option linter.unusedSimpArgs false
set_option maxRecDepth 100000
set_option maxHeartbeats 4000000
open Go Go.Proofs Go.Ab
namespace Go.Ch
theorem z7P(d:Doc)(k:Int)(hb:DocL d):FC Tryz.prog 147 [.t (docT d),VI k] (app emp []) (.tup [.t (nodeT (tabN d k)),VI (tabE d k)]) (app emp []):=by
 refine .go Tryz.f147 ?_
 have hdb:=hb.toDocB
 have hl:=hb.len
 refine .bp [.r [],.r [(1,X (Xc0 (z3k d (by assumption)) X0))],.r []] ((docE d) !=0) (fun h2=> ?_) (fun h2=> ?_)
 ·
  have T:=tab_1 (k:=k) h2
  have e1:((tabN d k):Node)=({id:=0,kind:=0,attrs:=[],flow:=[],grid:=({rows:=0,cols:=0,cells:=[],merges:=[]}:Grid),draw:=[]}:Node):=by
   exact T.1
  have e2:((tabE d k):Int)=(docE d):=by
   exact T.2
  exact .finVE [.r [(0,X (Xf [(2,2),(3,3),(6,5),(7,4),(8,8)]))]] [] [] (fun((z0,z1):Node×Int)=>(.tup [.t (nodeT z0),VI z1],[])) _ _ (pr e1 e2)
 ·
  have hs:=z5h (d:=d) (by omega)
  refine .bp [.r [(2,X (Xc0 (z5k d k (by assumption) (by assumption)) X0))],.r []] (decide ((ixN (d).nodes k)< 0)) (fun h5=> ?_) (fun h5=> ?_)
  ·
   have T:=tab_2 (by omega) (y1d.1 h5)
   have e3:((tabN d k):Node)=({id:=0,kind:=0,attrs:=[],flow:=[],grid:=({rows:=0,cols:=0,cells:=[],merges:=[]}:Grid),draw:=[]}:Node):=by
    exact T.1
   have e4:((tabE d k):Int)=7:=by
    exact T.2
   exact .finVE [.r [(0,X (Xf [(2,2),(3,3),(6,5),(7,4),(8,8)]))]] [] [] (fun((z0,z1):Node×Int)=>(.tup [.t (nodeT z0),VI z1],[])) _ _ (pr e3 e4)
  ·
   have hh:=y1c.1 h5
   have hlt:=(z08.1 hh).1
   refine .bp [.le (.eq 7 (VI (ixN (d).nodes k)) (VI (lobN d.nodes k:Int)) (.of_eq (by rw[z9V hh]))),.r [(3,X (Xi nodeT d.nodes (lobN d.nodes k:Int))),(6,X (Xc0 (z7I (((d.nodes.getD (lobN d.nodes k) default)).kind)) X0))]] (!(hasG (((d.nodes.getD (lobN d.nodes k) default)).kind))) (fun h7=> ?_) (fun h7=> ?_)
   ·
    have T:=tab_3 (by omega) hh h7
    have e5:((tabN d k):Node)=({id:=0,kind:=0,attrs:=[],flow:=[],grid:=({rows:=0,cols:=0,cells:=[],merges:=[]}:Grid),draw:=[]}:Node):=by
     exact T.1
    have e6:((tabE d k):Int)=8:=by
     exact T.2
    exact .finVE [.r [(0,X (Xf [(2,2),(3,3),(6,5),(7,4),(8,8)]))]] [] [] (fun((z0,z1):Node×Int)=>(.tup [.t (nodeT z0),VI z1],[])) _ _ (pr e5 e6)
   ·
    have T:=tab_4 (by omega) hh h7
    have e7:((tabN d k):Node)=((d.nodes.getD (lobN d.nodes k) default)):=by
     exact T.1
    have e8:((tabE d k):Int)=0:=by
     exact T.2
    exact .finVE [.r [(3,X (Xi nodeT d.nodes (lobN d.nodes k:Int)))]] [] [] (fun((z0,z1):Node×Int)=>(.tup [.t (nodeT z0),VI z1],[])) _ _ (pr e7 e8)
theorem y1A(l:List AxStep)(k n:Int)(hl:l.length≤1000):FC Tryz.prog 190 [VI k,VI n,.ptr 0 0] (app emp [(0,.box [.row 1 l.length]),(1,OR 2 stepT l)]) (.tup []) (app emp [(0,.box [.row 1 ((l++addS k n).length)]),(1,OR 2 stepT (l++addS k n))]):=by
 refine .go Tryz.f190 ?_
 refine .bp [.r []] (decide (n>0)) (fun h0=> ?_) (fun h0=> ?_)
 ·
  have e1:((l++addS k n).length:Nat)=(l++[({kind:=k,n:=n}:AxStep)]).length:=by
   unfold addS;rw[if_pos (by omega)]
  have e2:((l++addS k n):List AxStep)=(l++[({kind:=k,n:=n}:AxStep)]):=by
   unfold addS;rw[if_pos (by omega)]
  exact .finE [.r [(5,X (rowC stepT [({kind:=k,n:=n}:AxStep)] (Xap 2 stepT 1 l [({kind:=k,n:=n}:AxStep)])))]] [(0,0),(1,1)] (fun((z0,z1):Nat×(List AxStep))=>(.tup [],[(0,.box [.row 1 z0]),(1,OR 2 stepT z1)])) _ _ (pr e1 e2)
 ·
  have e3:((l++addS k n).length:Nat)=l.length:=by
   unfold addS;rw[if_neg (by omega),List.append_nil]
  have e4:((l++addS k n):List AxStep)=l:=by
   unfold addS;rw[if_neg (by omega),List.append_nil]
  exact .finE [] [(0,0),(1,1)] (fun((z0,z1):Nat×(List AxStep))=>(.tup [],[(0,.box [.row 1 z0]),(1,OR 2 stepT z1)])) _ _ (pr e3 e4)
theorem y1B(m a n:Int)(hm:0≤m∧m≤2147483647)(ha: -1000000≤a∧a≤2147483647)(hn: -1000000≤n∧n≤2147483647):FC Tryz.prog 148 [VI m,VI a,VI n] (app emp []) (.tup [VL 2 stepT (shfL m a n),VI (shfE m a n)]) (app emp []):=by
 refine .go Tryz.f148 ?_
 have w1:=z2R 0 a
 have w2:=z2R 1 n
 have w3:=z2R 2 (0-n)
 refine .bp [.r [],.r [(4,Xv 1 (!(decide (n< (-2147483647)))) X0),(5,X (Xk' (decide (n< (-2147483647))))),(8,Xv 1 (!(decide (n< (-2147483647))|| (n==0))) X0),(9,X (Xk' (decide (n< (-2147483647))|| (n==0)))),(13,Xv 2 (!((decide (n< (-2147483647))|| (n==0))||decide (a<0))) X0),(14,X (Xk' ((decide (n< (-2147483647))|| (n==0))||decide (a<0)))),(17,Xv 1 (!(((decide (n< (-2147483647))|| (n==0))||decide (a<0))||decide (a>m))) X0),(18,Xv 1 (!(((decide (n< (-2147483647))|| (n==0))||decide (a<0))||decide (a>m))) X0),(20,Xv 1 ((!(((decide (n< (-2147483647))|| (n==0))||decide (a<0))||decide (a>m)))&&(decide (n<0))) (Xn (0-n))),(23,Xv 2 ((!(((decide (n< (-2147483647))|| (n==0))||decide (a<0))||decide (a>m)))&&(decide (n<0))) (Xn (m-a))),(24,Xv 2 ((!(((decide (n< (-2147483647))|| (n==0))||decide (a<0))||decide (a>m)))&&(decide (n<0))) X0),(25,Xka (!(((decide (n< (-2147483647))|| (n==0))||decide (a<0))||decide (a>m))) (decide (n<0))),(26,X (Xk' (((decide (n< (-2147483647))|| (n==0))||decide (a<0))||decide (a>m))))]] ((((decide (n< (-2147483647))|| (n==0))||decide (a<0))||decide (a>m))|| (decide (n<0)&&decide ((0-n)>(m-a)))) (fun h1=> ?_) (fun h1=> ?_)
 ·
  have T:=shf_1 (m:=m) (a:=a) (n:=n) (by omega)
  have e1:((shfL m a n):List AxStep)=[]:=by
   exact T.1
  have e2:((shfE m a n):Int)=2:=by
   exact T.2
  exact .finE [.r [],.le (.nL 6 2)] [] (fun((z0,z1):(List AxStep)×Int)=>(.tup [VL 2 stepT z0,VI z1],[])) _ _ (pr e1 e2)
 ·
  refine .bp [.r []] (decide (n>1000)) (fun h3=> ?_) (fun h3=> ?_)
  ·
   have T:=shf_2 (m:=m) (a:=a) (n:=n) (by omega) h3
   have e3:((shfL m a n):List AxStep)=[]:=by
    exact T.1
   have e4:((shfE m a n):Int)=3:=by
    exact T.2
   exact .finE [.r [],.le (.nL 6 2)] [] (fun((z0,z1):(List AxStep)×Int)=>(.tup [VL 2 stepT z0,VI z1],[])) _ _ (pr e3 e4)
  ·
   have T:=shf_3 (m:=m) (a:=a) (n:=n) (by omega) h3
   have e5:((shfL m a n):List AxStep)=(((([]++addS 0 a)++addS 1 n)++addS 2 (0-n))++addS 0 ((m-a)- (max 0 (0-n)))):=by
    exact T.1
   have e6:((shfE m a n):Int)=(z1l (((([]++addS 0 a)++addS 1 n)++addS 2 (0-n))++addS 0 ((m-a)- (max 0 (0-n))))):=by
    exact T.2
   exact .finE [.r [],.r [],.le (.nB 248 0 2),.r [(2,X (Xc3 289 [(0,248),(1,272)] (y1A [] 0 a (by first|omega| (simp only[List.length_append,List.length_nil];omega))) X0))],.r [(2,X (Xc3 313 [(0,248),(1,272)] (y1A ([]++addS 0 a) 1 n (by first|omega| (simp only[List.length_append,List.length_nil];omega))) X0))],.r [(2,X (Xn (0-n))),(3,X (Xc3 345 [(0,248),(1,272)] (y1A (([]++addS 0 a)++addS 1 n) 2 (0-n) (by first|omega| (simp only[List.length_append,List.length_nil];omega))) X0))],.r [(3,X (Xn (m-a))),(5,X (Xn (0-n))),(6,X (Xmax 0 (0-n))),(7,X (Xn ((m-a)- (max 0 (0-n))))),(8,X (Xc3 417 [(0,248),(1,272)] (y1A ((([]++addS 0 a)++addS 1 n)++addS 2 (0-n)) 0 ((m-a)- (max 0 (0-n))) (by first|omega| (simp only[List.length_append,List.length_nil];omega))) X0))],.r [(2,X (Xc0 (z2y (((([]++addS 0 a)++addS 1 n)++addS 2 (0-n))++addS 0 ((m-a)- (max 0 (0-n))))) (rowC stepT (((([]++addS 0 a)++addS 1 n)++addS 2 (0-n))++addS 0 ((m-a)- (max 0 (0-n)))) X0)))],.le (.fr 6 [(((((([]++addS 0 a)++addS 1 n)++addS 2 (0-n))++addS 0 ((m-a)- (max 0 (0-n)))).length):Nat)=(List.map stepT (((([]++addS 0 a)++addS 1 n)++addS 2 (0-n))++addS 0 ((m-a)- (max 0 (0-n))))).length] ⟨lm,trivial⟩)] [] (fun((z0,z1):(List AxStep)×Int)=>(.tup [VL 2 stepT z0,VI z1],[])) _ _ (pr e5 e6)
theorem y7E(d:Doc)(k a n:Int)(hb:DocL d)(ha: -1000000≤a∧a≤2147483647)(hn: -1000000≤n∧n≤2147483647):FC Tryz.prog 99 [.t (docT d),VI k,VI a,VI n] (app emp []) (.tup [VL 19 eopT (rshO d k a n),VI (rshE d k a n)]) (app emp []):=by
 refine .go Tryz.f99 ?_
 refine .bp [.r [],.r [(2,X (Xc1 40 (z7P d k (by assumption)) X0))],.r []] ((tabE d k) !=0) (fun h2=> ?_) (fun h2=> ?_)
 ·
  have T:=rsh_1 (a:=a) (n:=n) h2
  have e1:((rshO d k a n):List EOp)=[]:=by
   exact T.1
  have e2:((rshE d k a n):Int)=(tabE d k):=by
   exact T.2
  exact .finE [.r [],.le (.nL 8 19)] [] (fun((z0,z1):(List EOp)×Int)=>(.tup [VL 19 eopT z0,VI z1],[])) _ _ (pr e1 e2)
 ·
  have hg:=y1z h2
  refine .bp [.r [(5,X (Xc1 152 (y1B ((((tabN d k)).grid).rows) a n (by omega) (by omega) (by omega)) X0))],.r []] ((shfE ((((tabN d k)).grid).rows) a n) !=0) (fun h5=> ?_) (fun h5=> ?_)
  ·
   have T:=rsh_2 h2 h5
   have e3:((rshO d k a n):List EOp)=[]:=by
    exact T.1
   have e4:((rshE d k a n):Int)=(shfE ((((tabN d k)).grid).rows) a n):=by
    exact T.2
   exact .finE [.r [],.le (.nL 8 19)] [] (fun((z0,z1):(List EOp)×Int)=>(.tup [VL 19 eopT z0,VI z1],[])) _ _ (pr e3 e4)
  ·
   have T:=rsh_3 h2 h5
   have e5:((rshO d k a n):List EOp)=[({kind:=3,node:=k,nw:=({id:=0,kind:=0,attrs:=[],flow:=[],grid:=({rows:=0,cols:=0,cells:=[],merges:=[]}:Grid),draw:=[]}:Node),attrs:=[],steps:=[],grid:=({rows:=(shfL ((((tabN d k)).grid).rows) a n),cols:=[],cells:=[],split:=[],merge:=[]}:GEd),draw:=[]}:EOp)]:=by
    exact T.1
   have e6:((rshE d k a n):Int)=0:=by
    exact T.2
   exact .finE [.r [(2,X (Xf [(1,2),(2,5),(3,4),(4,4)])),(3,X (Xf [(4,2),(5,3),(8,5),(9,4),(10,8),(11,2),(12,4),(18,8)]))],.le (.fr 8 [(1:Nat)=(List.map eopT [({kind:=3,node:=k,nw:=({id:=0,kind:=0,attrs:=[],flow:=[],grid:=({rows:=0,cols:=0,cells:=[],merges:=[]}:Grid),draw:=[]}:Node),attrs:=[],steps:=[],grid:=({rows:=(shfL ((((tabN d k)).grid).rows) a n),cols:=[],cells:=[],split:=[],merge:=[]}:GEd),draw:=[]}:EOp)]).length] ⟨lm,trivial⟩)] [] (fun((z0,z1):(List EOp)×Int)=>(.tup [VL 19 eopT z0,VI z1],[])) _ _ (pr e5 e6)
theorem y2n(d:Doc)(k a n:Int)(hb:DocL d)(ha: -1000000≤a∧a≤2147483647)(hn: -1000000≤n∧n≤2147483647):FC Tryz.prog 100 [.t (docT d),VI k,VI a,VI n] (app emp []) (.tup [VL 19 eopT (cshO d k a n),VI (cshE d k a n)]) (app emp []):=by
 refine .go Tryz.f100 ?_
 refine .bp [.r [],.r [(2,X (Xc1 40 (z7P d k (by assumption)) X0))],.r []] ((tabE d k) !=0) (fun h2=> ?_) (fun h2=> ?_)
 ·
  have T:=csh_1 (a:=a) (n:=n) h2
  have e1:((cshO d k a n):List EOp)=[]:=by
   exact T.1
  have e2:((cshE d k a n):Int)=(tabE d k):=by
   exact T.2
  exact .finE [.r [],.le (.nL 8 19)] [] (fun((z0,z1):(List EOp)×Int)=>(.tup [VL 19 eopT z0,VI z1],[])) _ _ (pr e1 e2)
 ·
  have hg:=y1z h2
  refine .bp [.r [(5,X (Xc1 152 (y1B ((((tabN d k)).grid).cols) a n (by omega) (by omega) (by omega)) X0))],.r []] ((shfE ((((tabN d k)).grid).cols) a n) !=0) (fun h5=> ?_) (fun h5=> ?_)
  ·
   have T:=csh_2 h2 h5
   have e3:((cshO d k a n):List EOp)=[]:=by
    exact T.1
   have e4:((cshE d k a n):Int)=(shfE ((((tabN d k)).grid).cols) a n):=by
    exact T.2
   exact .finE [.r [],.le (.nL 8 19)] [] (fun((z0,z1):(List EOp)×Int)=>(.tup [VL 19 eopT z0,VI z1],[])) _ _ (pr e3 e4)
  ·
   have T:=csh_3 h2 h5
   have e5:((cshO d k a n):List EOp)=[({kind:=3,node:=k,nw:=({id:=0,kind:=0,attrs:=[],flow:=[],grid:=({rows:=0,cols:=0,cells:=[],merges:=[]}:Grid),draw:=[]}:Node),attrs:=[],steps:=[],grid:=({rows:=[],cols:=(shfL ((((tabN d k)).grid).cols) a n),cells:=[],split:=[],merge:=[]}:GEd),draw:=[]}:EOp)]:=by
    exact T.1
   have e6:((cshE d k a n):Int)=0:=by
    exact T.2
   exact .finE [.r [(2,X (Xf [(0,2),(2,5),(3,4),(4,4)])),(3,X (Xf [(4,2),(5,3),(8,5),(9,4),(10,8),(11,2),(12,4),(18,8)]))],.le (.fr 8 [(1:Nat)=(List.map eopT [({kind:=3,node:=k,nw:=({id:=0,kind:=0,attrs:=[],flow:=[],grid:=({rows:=0,cols:=0,cells:=[],merges:=[]}:Grid),draw:=[]}:Node),attrs:=[],steps:=[],grid:=({rows:=[],cols:=(shfL ((((tabN d k)).grid).cols) a n),cells:=[],split:=[],merge:=[]}:GEd),draw:=[]}:EOp)]).length] ⟨lm,trivial⟩)] [] (fun((z0,z1):(List EOp)×Int)=>(.tup [VL 19 eopT z0,VI z1],[])) _ _ (pr e5 e6)
theorem y7F(d:Doc)(k r c site:Int)(hb:DocL d):FC Tryz.prog 101 [.t (docT d),VI k,VI r,VI c,VI site] (app emp []) (.tup [VL 19 eopT (celO d k r c site),VI (celR d k r c site),VI (celE d k r c site)]) (app emp []):=by
 refine .go Tryz.f101 ?_
 have htl:=y5Q hb k
 refine .bp [.r [],.r [(2,X (Xc1 48 (z7P d k (by assumption)) X0))],.r []] ((tabE d k) !=0) (fun h2=> ?_) (fun h2=> ?_)
 ·
  have T:=cel_1 (r:=r) (c:=c) (site:=site) h2
  have e1:((celO d k r c site):List EOp)=[]:=by
   exact T.1
  have e2:((celR d k r c site):Int)=0:=by
   exact T.2.1
  have e3:((celE d k r c site):Int)=(tabE d k):=by
   exact T.2.2
  exact .finE [.r [],.le (.nL 10 19)] [] (fun((z0,z1,z2):(List EOp)×Int×Int)=>(.tup [VL 19 eopT z0,VI z1,VI z2],[])) _ _ (pr e1 (pr e2 e3))
 ·
  refine .bp [.r []] ((((tabN d k)).kind) !=2) (fun h4=> ?_) (fun h4=> ?_)
  ·
   have T:=cel_2 (r:=r) (c:=c) (site:=site) h2 h4
   have e4:((celO d k r c site):List EOp)=[]:=by
    exact T.1
   have e5:((celR d k r c site):Int)=0:=by
    exact T.2.1
   have e6:((celE d k r c site):Int)=8:=by
    exact T.2.2
   exact .finE [.r [],.le (.nL 10 19)] [] (fun((z0,z1,z2):(List EOp)×Int×Int)=>(.tup [VL 19 eopT z0,VI z1,VI z2],[])) _ _ (pr e4 (pr e5 e6))
  ·
   refine .bp [.r [(5,Xv 1 (!(decide (r<0))) X0),(6,Xv 1 (!(decide (r<0))) X0),(7,Xv 2 (!(decide (r<0))) X0),(8,X (Xk' (decide (r<0)))),(11,Xv 1 (!(decide (r<0)||decide (r≥((((tabN d k)).grid).rows)))) X0),(12,X (Xk' (decide (r<0)||decide (r≥((((tabN d k)).grid).rows))))),(16,Xv 1 (!((decide (r<0)||decide (r≥((((tabN d k)).grid).rows)))||decide (c<0))) X0),(17,Xv 1 (!((decide (r<0)||decide (r≥((((tabN d k)).grid).rows)))||decide (c<0))) X0),(18,Xv 2 (!((decide (r<0)||decide (r≥((((tabN d k)).grid).rows)))||decide (c<0))) X0),(19,X (Xk' ((decide (r<0)||decide (r≥((((tabN d k)).grid).rows)))||decide (c<0))))]] (((decide (r<0)||decide (r≥((((tabN d k)).grid).rows)))||decide (c<0))||decide (c≥((((tabN d k)).grid).cols))) (fun h6=> ?_) (fun h6=> ?_)
   ·
    have T:=cel_3 (site:=site) h2 h4 h6
    have e7:((celO d k r c site):List EOp)=[]:=by
     exact T.1
    have e8:((celR d k r c site):Int)=0:=by
     exact T.2.1
    have e9:((celE d k r c site):Int)=2:=by
     exact T.2.2
    exact .finE [.r [],.le (.nL 10 19)] [] (fun((z0,z1,z2):(List EOp)×Int×Int)=>(.tup [VL 19 eopT z0,VI z1,VI z2],[])) _ _ (pr e7 (pr e8 e9))
   ·
    refine .loop (α:=Nat) [.r [(3,X (Xl cellT ((((tabN d k)).grid).cells)))]] 344 (fun i=>([(1,VI k),(2,VI r),(3,VI c),(4,VI site),(5,.ptr 0 0),(52,VL 5 cellT ((((tabN d k)).grid).cells)),(53,VI (((((tabN d k)).grid).cells).length:Int)),(54,VI (i:Int))],[(0,.box [VL 9 nodeT d.nodes])])) (fun i=>i≤(tabN d k).grid.cells.length∧idxF (fun x:Cell=>x.row==r&&x.col==c) (tabN d k).grid.cells 0=idxF (fun x:Cell=>x.row==r&&x.col==c) (tabN d k).grid.cells i) (fun i=>(tabN d k).grid.cells.length-i) (0:Nat) ?_ ?_
    ·
     exact⟨by omega,rfl⟩
    rintro i I9 ih9
    try dsimp only at I9
    refine .bp [.r []] (decide ((i:Int)< (((((tabN d k)).grid).cells).length:Int))) (fun h9=> ?_) (fun h9=> ?_)
    ·
     refine .bp [.r [(0,X (Xi cellT ((((tabN d k)).grid).cells) (i:Int)))],.r [(6,Xv 1 ((((((((tabN d k)).grid).cells).getD i default)).row)==r) X0),(8,Xv 2 ((((((((tabN d k)).grid).cells).getD i default)).row)==r) X0),(9,X (Xk ((((((((tabN d k)).grid).cells).getD i default)).row)==r)))]] (((((((((tabN d k)).grid).cells).getD i default)).row)==r)&&((((((((tabN d k)).grid).cells).getD i default)).col)==c)) (fun h11=> ?_) (fun h11=> ?_)
     ·
      have T:=cel_4 (site:=site) h2 h4 h6 (I9.2.trans (y7y (by omega) (by simpa[-List.getD_eq_getElem?_getD] using h11)))
      have e10:((celO d k r c site):List EOp)=[]:=by
       exact T.1
      have e11:((celR d k r c site):Int)=((((((tabN d k)).grid).cells).getD i default)).ref:=by
       exact T.2.1
      have e12:((celE d k r c site):Int)=0:=by
       exact T.2.2
      exact .finE [.r [],.le (.nL 10 19)] [] (fun((z0,z1,z2):(List EOp)×Int×Int)=>(.tup [VL 19 eopT z0,VI z1,VI z2],[])) _ _ (pr e10 (pr e11 e12))
     ·
      refine .back [.r [(0,X (Xn ((i:Int)+1)))]] [(0,0)] (ih9 ((i+1):Nat) ?_ ?_)
      ·
       exact⟨by omega,I9.2.trans (y5R (by omega) (by simpa[-List.getD_eq_getElem?_getD,Classical.or_iff_not_imp_left] using h11))⟩
      ·
       ((try dsimp only);omega)
    ·
     have hno:=I9.2.trans (y7z (by omega))
     refine .bp [.r [(2,X (Xc0 (y4m d site (by assumption)) X0))],.r []] ((nextE d site) !=0) (fun h15=> ?_) (fun h15=> ?_)
     ·
      have T:=cel_5 h2 h4 h6 hno h15
      have e13:((celO d k r c site):List EOp)=[]:=by
       exact T.1
      have e14:((celR d k r c site):Int)=0:=by
       exact T.2.1
      have e15:((celE d k r c site):Int)=(nextE d site):=by
       exact T.2.2
      exact .finE [.r [],.le (.nL 10 19)] [] (fun((z0,z1,z2):(List EOp)×Int×Int)=>(.tup [VL 19 eopT z0,VI z1,VI z2],[])) _ _ (pr e13 (pr e14 e15))
     ·
      have T:=cel_6 h2 h4 h6 hno h15
      have e16:((celO d k r c site):List EOp)=[({kind:=0,node:=0,nw:=({id:=(nextN d site),kind:=3,attrs:=[],flow:=[({char:=10,ref:=0,attrs:=[]}:Elem)],grid:=({rows:=0,cols:=0,cells:=[],merges:=[]}:Grid),draw:=[]}:Node),attrs:=[],steps:=[],grid:=({rows:=[],cols:=[],cells:=[],split:=[],merge:=[]}:GEd),draw:=[]}:EOp),({kind:=3,node:=k,nw:=({id:=0,kind:=0,attrs:=[],flow:=[],grid:=({rows:=0,cols:=0,cells:=[],merges:=[]}:Grid),draw:=[]}:Node),attrs:=[],steps:=[],grid:=({rows:=[],cols:=[],cells:=[({row:=r,col:=c,text:={data:=#[]},ref:=(nextN d site),attrs:=[]}:Cell)],split:=[],merge:=[]}:GEd),draw:=[]}:EOp)]:=by
       exact T.1
      have e17:((celR d k r c site):Int)=(nextN d site):=by
       exact T.2.1
      have e18:((celE d k r c site):Int)=0:=by
       exact T.2.2
      exact .finE [.r [(1,X (Xf [(2,2)])),(3,X (Xf [(2,2),(6,5),(7,4),(8,8)])),(4,X (Xf [(11,2),(12,4),(13,2),(14,2),(15,5),(16,4),(17,4),(18,8)])),(9,X (Xf [(4,2)])),(11,X (Xf [(0,2),(1,2),(3,4),(4,4)])),(12,X (Xf [(4,2),(5,3),(8,5),(9,4),(10,8),(11,2),(12,4),(18,8)])),(13,X (rowC elemT [({char:=10,ref:=0,attrs:=[]}:Elem)] (rowC cellT [({row:=r,col:=c,text:={data:=#[]},ref:=(nextN d site),attrs:=[]}:Cell)] X0)))],.le (.fr 10 [(2:Nat)=(List.map eopT [({kind:=0,node:=0,nw:=({id:=(nextN d site),kind:=3,attrs:=[],flow:=[({char:=10,ref:=0,attrs:=[]}:Elem)],grid:=({rows:=0,cols:=0,cells:=[],merges:=[]}:Grid),draw:=[]}:Node),attrs:=[],steps:=[],grid:=({rows:=[],cols:=[],cells:=[],split:=[],merge:=[]}:GEd),draw:=[]}:EOp),({kind:=3,node:=k,nw:=({id:=0,kind:=0,attrs:=[],flow:=[],grid:=({rows:=0,cols:=0,cells:=[],merges:=[]}:Grid),draw:=[]}:Node),attrs:=[],steps:=[],grid:=({rows:=[],cols:=[],cells:=[({row:=r,col:=c,text:={data:=#[]},ref:=(nextN d site),attrs:=[]}:Cell)],split:=[],merge:=[]}:GEd),draw:=[]}:EOp)]).length] ⟨lm,trivial⟩)] [] (fun((z0,z1,z2):(List EOp)×Int×Int)=>(.tup [VL 19 eopT z0,VI z1,VI z2],[])) _ _ (pr e16 (pr e17 e18))
end Go.Ch
end
