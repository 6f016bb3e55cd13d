/- Lemmas for laws of this seat. -/
import Derived.Test.YtpacclkciilmpaaGreatDoorGBM
set_option maxHeartbeats 4000000
namespace Go.Proofs.YtpacclkciilmpaaGreatDoor.Sw
open Go.Proofs.Tryz
open Go
set_option maxRecDepth 100000
set_option linter.unusedVariables false
set_option linter.unusedSimpArgs false
set_option linter.deprecated false
set_option linter.defProp false
def Ao:=@Int.toNat_natCast
theorem Sj (B:World) (h:av) (g:GH) (hg:bf g h) (V:bh g) (D:Nat) (s:Sp) (X:au) (c3:bB g D s X) (w:ah) (O:dH s) (hp:w.aa.length≤1000000000) (hs:St h g (aM [X]) g [X] h):
  aA prog B 106 #[vP D,.agg #[vI w.Client,vI w.Kind,vS w.aa]] h g [X] (fun c4 g' L'=>∃bj,c4=.int .i64 (jz s w)∧bB g' D (nZ s w) bj∧L'=[bj]):=by
 refine aA.aq func106 fun R hR=>At.rg 2<|Op.bx 3 69 1 #[vI w.Client,vI w.Kind,vS w.aa] hs fun Y e7 c5=>Op.pg 1 [] ?_
 have bk:∀(m:Nat) (ab:GH) (bm:aG g ab) (x:Sp) (n:Int) (a4:au) (a5:av) (hm:0<m) (hx:x=s) (hn0:n=(eE s.events w.Client).length) (c6:n≤1000) (bo:bB ab D x a4) (bs:St h g (aM [X]) ab [[(Y,Obj.cells #[vI w.Client,vI w.Kind,vS w.aa] 69 (0,0))],a4] a5),At (bS prog B 106 f106 R) [] 2 [(0,vP D),(3,vP Y),(5,vI n)] a5:=by
  intro m;induction m with
  |zero=>intros;omega
  |succ m e8=>
   intro ab bm x n a4 a5 hm hx hn0 c6 bo bs
   replace V:=V.mono bm
   refine At.rp 7 3 [(18,vQ D 1)] ?_
   obtain⟨c8,bt,ad,c9,da,b3,db,b4,dc,b5,dd,ae,df,am,ar,aw⟩:=bo
   have b6:=St.un [bt,c9,b3,b4,b5] dd (bs.fs [1] rfl)
   refine Op.l1 72 18 19 1 (vP ad) (b6.ag 0 rfl) ?_
   have a6:=b6.fs [1,1,2] rfl
   refine Op.cl (some 20) 1 a6 (xS _ _ _ a6.sub V ad x.aD _ df (by((try dsimp only)<;>((subst hx;have:=O.wl;omega)))) (St.pt 1 a6)) ?_
   rintro _ dg _ e9 dj dk ⟨fa,dl,dp,rfl,a1,a0,dq,rfl⟩;subst dg;clear dj
   obtain⟨du,b8,rfl⟩:=a1.ai
   refine Op.pg 3 [(21,vI (x.aD.length:Int)),(22,vI 0)] ?_
   have dv:∀(m:Nat) (Z:GH) (G:aG ab Z) (n2:Int) (i:Int) (a7:av) (hm:x.aD.length-i.toNat<m) (h0:0≤i) (h3:i≤x.aD.length) (dC:0≤n2) (dE:n2≤1000+i) (hn:(n2-(eE s.events w.Client).length)+(cnt w.Client (x.aD.drop i.toNat):Int)=cnt w.Client x.aD) (hno:∀z∈x.aD.take i.toNat,z≠w) (I:St h g (aM [X]) Z [dp,dl,[(D,Obj.cells #[vP c8,vP ad,vP da,vI x.ax,vI x.count,.map (some db),.map (some dc)] 79 (0,0))],bt,b3,b4,b5,[(Y,Obj.cells #[vI w.Client,vI w.Kind,vS w.aa] 69 (0,0))]] a7),At (bS prog B 106 f106 R) [] 3 [(0,vP D),(3,vP Y),(5,vI n2),(20,vL du (x.aD.length) b8),(21,vI (x.aD.length:Int)),(22,vI i)] a7:=by
    intro m;induction m with
    |zero=>intros;omega
    |succ m ca=>
     intro Z G n2 i a7 hm h0 h3 dC dE hn hno I
     replace ae:=ae.mono G
     replace am:=am.mono G
     replace ar:=ar.mono G
     replace aw:=aw.mono G
     replace a1:=a1.mono G
     replace V:=V.mono G
     replace a0:=a0.mono G
     refine At.go 4 1 [(23,.bool (decide (i<(x.aD.length:Int))))]<|At.fd (i<(x.aD.length:Int)) 23 5 14 (fun fg=>?_) fun fi=>?_
     ·refine At.rg 4 ?_
      obtain⟨u,J⟩:=cD x.aD i
      obtain⟨dT,cb,fj,fl,d0,d1,a8⟩:=ig.br (a1.toH I 1 rfl) _ J
      cases d0
      refine Op.iq 42 69 3 32 (x.aD.length) b8 20 22 24 dT cb i ?_
      replace a8:cut _ _ _=[vI u.Client,vI u.Kind,vS u.aa]:=a8
      refine Op.la 69 24 25 (cb+i.toNat*3) 3 [vI u.Client,vI u.Kind,vS u.aa] d1 ?_ (hv:=a8)
      refine Op.al 7 69 ko I fun d2 fp d3=>Op.sg 69 7 25 0 0 #[vI u.Client,vI u.Kind,vS u.aa] d3 zt fun fr U=>Op.gt 6<|At.rg 3<|Op.la 69 7 26 0 3 [vI u.Client,vI u.Kind,vS u.aa] (U.ag 0 rfl) ?_
      refine Op.la 69 3 27 0 3 [vI w.Client,vI w.Kind,vS w.aa] (U.ag 8 rfl)<|Op.Bp (T:=69) (T':=69) (x:=26) (y:=27) (neq:=false) (dst:=28) (xs:=#[vI u.Client,vI u.Kind,vS u.aa]) (ys:=#[vI w.Client,vI w.Kind,vS w.aa]) (q:=((u.Client==w.Client)&&((u.Kind==w.Kind)&&((a_ u.aa==a_ w.aa)&&true)))) (q':=decide (u=w)) (by kernel_rfl) (by kernel_rfl) (by kernel_rfl) (by kernel_rfl) (by kernel_rfl) (F3 u w)<|Op.gt 7<|At.fd (u=w) 28 8 10 (fun ft=>?_) fun fv=>?_
      ·refine At.go 9 1 [(4,vI 0)] ?_
       obtain⟨d4,d5,d6⟩:=St.bl (Q:=bB Z D x) 6 (U.fs [2,1,7,7,7,5,7,7] rfl) ⟨_,_,_,_,_,_,_,_,_,_,rfl,ae,a0,am,ar,aw⟩
       exact At.rt (vI 0)<|hR (d6.fs [3,3,3] rfl).drop.drop.drop ⟨d4,(bp (by(subst hx;first|exact(Al J ‹_›).1.symm|exact(Al J ‹_›).2.symm))),d5.eq (by(subst hx;first|exact(Al J ‹_›).1.symm|exact(Al J ‹_›).2.symm)),rfl⟩
      refine At.rp 5 1 [(29,vP d2)]<|Op.l1 3 29 30 0 (vI u.Client) (U.ag 0 rfl)<|Op.px 1 [(31,vP Y)]<|Op.l1 3 31 32 0 (vI w.Client) (U.ag 8 rfl)<|Op.pg 11 [(33,.bool (u.Client==w.Client))] ?_
      refine At.fd (u.Client=w.Client) 33 12 13 (fun fw=>?_) fun fx=>?_
      ·refine At.rp 3 1 [(34,vI n2)]<|Op.dQ 35 (n2+1) (by omega) (by(subst hx;have:=O.wl;omega))<|Op.pg 13 [(5,vI (n2+1))]<|At.rg 2<|Op.dQ 36 (i+1) (by omega) (by(subst hx;have:=O.wl;omega)) ?_
       exact Op.pg 3 [(22,vI (i+1))]<|At.ke (ca _ G (n2+1) (i+1) _ (by omega) (by omega) (by omega) (by omega) (by omega) (by(have h7:=De hn h0 J ‹_›;omega)) (by exact JG hno h0 J ‹_›) U.drop)
      exact At.rg 2<|Op.dQ 36 (i+1) (by omega) (by(subst hx;have:=O.wl;omega))<|Op.pg 3 [(22,vI (i+1))]<|At.ke (ca _ G n2 (i+1) _ (by omega) (by omega) (by omega) (by omega) (by omega) (by exact Df hn h0 J ‹_›) (by exact JG hno h0 J ‹_›) U.drop)
     refine At.go 15 2 [(38,.bool (decide (n2≥8)))]<|At.fd (n2≥8) 38 16 18 (fun f0=>?_) fun f1=>?_
     ·refine At.go 17 1 [(4,vI 104)] ?_
      obtain⟨d7,d8,d9⟩:=St.bl (Q:=bB Z D x) 6 (I.fs [1,6,6,6,4,6,6] rfl) ⟨_,_,_,_,_,_,_,_,_,_,rfl,ae,a0,am,ar,aw⟩
      exact At.rt (vI 104)<|hR (d9.fs [2,2] rfl).drop.drop ⟨d7,(bp (by(subst hx;first|exact(Am (n:=n2) (sx hno ‹_›) (by have:=p4 hn ‹_›;omega) ‹_›).1.symm|exact(Am (n:=n2) (sx hno ‹_›) (by have:=p4 hn ‹_›;omega) ‹_›).2.symm))),d8.eq (by(subst hx;first|exact(Am (n:=n2) (sx hno ‹_›) (by have:=p4 hn ‹_›;omega) ‹_›).1.symm|exact(Am (n:=n2) (sx hno ‹_›) (by have:=p4 hn ‹_›;omega) ‹_›).2.symm)),rfl⟩
     refine At.dw (fun _=>False) [(0,true),(1,true),(2,true),(3,true),(4,false),(1005,false),(5,false),(6,true)]<|Op.px 3 [(41,vQ D 1)]<|Op.lf 72 41 1 42 1 (vP ad) id (I.ag 2 rfl)<|Op.la 69 3 43 0 3 [vI w.Client,vI w.Kind,vS w.aa] (I.ag 7 rfl)<|Op.ba ?_
     refine Op.cl (some 44) 1 I (Se _ _ _ I.sub V ad x.aD _ a0 w (by((try dsimp only)<;>((subst hx;have:=O.wl;omega)))) (by(try dsimp only)<;>omega) (by((try dsimp only)<;>((subst hx;exact O.ws)))) (St.pt 1 I)) ?_
     rintro _ ea _ f2 eb ed ⟨f3,rfl,ee,dq,rfl⟩;subst ea;clear eb
     refine Op.pg 19 [(4,vI (nC x.aD w))] ?_
     obtain⟨ef,eh,ej⟩:=St.bl (Q:=bB Z D (⟨x.an,(nD x.aD w),x.az,x.ax,x.count,x.events,x.aI⟩:Sp)) 6 (ed.fs [1,6,6,6,4,6,6] rfl) ⟨_,_,_,_,_,_,_,_,_,_,rfl,ae,ee,am,ar,aw⟩
     exact At.rt (vI (nC x.aD w))<|hR (ej.fs [2,2] rfl).drop.drop ⟨ef,(bp (by(subst hx;first|exact(An (n:=n2) (sx hno ‹_›) (by have:=p4 hn ‹_›;omega) ‹_›).1.symm|exact(An (n:=n2) (sx hno ‹_›) (by have:=p4 hn ‹_›;omega) ‹_›).2.symm))),eh.eq (by(subst hx;first|exact(An (n:=n2) (sx hno ‹_›) (by have:=p4 hn ‹_›;omega) ‹_›).1.symm|exact(An (n:=n2) (sx hno ‹_›) (by have:=p4 hn ‹_›;omega) ‹_›).2.symm)),rfl⟩
   exact At.ke (dv _ _ (aG.refl _) n 0 _ (bK _) (by omega) (by omega) (by omega) (by omega) (by(rw[hn0];simp)) (by exact RS _ _) dk)
 obtain⟨f4,em,f5,en,f6,eo,a9,ep,f7,er,et,ce,cf,ch,ex,ci⟩:=c3
 have bb:=St.un [em,en,eo,ep,er] et (c5.fs [1] rfl)
 refine At.dw (fun _=>False) [(0,true),(1,true),(2,true),(4,true),(3,true),(5,false),(6,false),(7,true),(8,true)]<|Op.px 4 [(10,vQ D 5),(12,vP Y)]<|Op.lf 76 10 5 11 1 (.map (some a9)) id (bb.ag 0 rfl)<|Op.l1 3 12 13 0 (vI w.Client) (bb.ag 6 rfl) ?_
 obtain⟨f8,f9,gc,eA,eB,a3,bc⟩:=ex
 have bd:=St.un [eA] eB (bb.fs [3,3,3,3,4] rfl)
 rcases bc.gy w.Client with ⟨be,eI,eJ⟩|⟨ge,bi,gg,gk,be,eI,eK,ck,eJ⟩
 ·refine Op.mn (.slice none 0 0) 76 11 13 14 w.Client (bd.ag 0 rfl) a3 be<|Op.pg 2 [(5,vI 0)] ?_
  obtain⟨gn,eL,eQ⟩:=St.bl (Q:=gM g a9 s.events) 2 bd ⟨_,_,_,_,rfl,a3,bc⟩
  obtain⟨gs,eT,e1⟩:=St.bl (Q:=bB g D s) 6 (eQ.fs [4,4,4,4] rfl) ⟨_,_,_,_,_,_,_,_,_,_,rfl,ce,cf,ch,eL,ci⟩
  exact At.ke (bk _ _ (by repeat (first|assumption|exact aG.refl _|apply aG.trans)) s 0 _ _ (bK _) (by rfl) (by exact RT ‹_›) (by omega) eT (e1.fs [1] rfl))
 obtain⟨e2,n151,rfl⟩:=eK.ai
 have co:=St.nW ck (bd.fs [1] rfl)
 refine Op.mk (.slice none 0 0) 76 11 13 14 w.Client (vL e2 bi.length n151) (co.ag 2 rfl) a3 be<|Op.pg 2 [(5,vI (bi.length:Int))] ?_
 obtain⟨g1,e3,e4⟩:=St.bl (Q:=gM g a9 s.events) 2 ((St.tw ck co).fs [1] rfl) ⟨_,_,_,_,rfl,a3,bc⟩
 obtain⟨g2,e5,e6⟩:=St.bl (Q:=bB g D s) 6 (e4.fs [4,4,4,4] rfl) ⟨_,_,_,_,_,_,_,_,_,_,rfl,ce,cf,ch,e3,ci⟩
 exact At.ke (bk _ _ (by repeat (first|assumption|exact aG.refl _|apply aG.trans)) s (bi.length:Int) _ _ (bK _) (by rfl) (by exact JH ‹_›) (by(have h9:=O.quo w.Client;have h7:=JH ‹_›;omega)) e5 (e6.fs [1] rfl))
theorem Sk (B:World) (h:av) (g:GH) (hg:bf g h) (U:bh g) (D:Nat) (s:Sp) (V:au) (a0:bB g D s V) (client:Int) (o:aC) (dj:Value) (ej:ay g 5 bn dj o.Data) (dk:Value) (em:ay g 36 eY dk o.aH) (u:Nat) (x:Result) (X:au) (Y:fF g u x X) (b5:dH s) (hp:o.aa.length≤1000000000) (hs:St h g (aM [V,X]) g [V,X] h):
  aA prog B 64 #[vP D,vI client,.agg #[vI o.Kind,vS o.aa,dj,vI o.ak,vI o.aJ,.bool o.aZ,.bool o.aN,.bool o.ah,dk],vP u] h g [V,X] (fun en g' L'=>∃dl dp,en=.tuple #[]∧bB g' D (mT s client o) dl∧fF g' u (n6 s client o x) dp∧L'=[dl,dp]):=by
 obtain⟨b6,b8,rfl⟩:=ej.ai
 obtain⟨ca,cb,rfl⟩:=em.ai
 refine aA.aq func64 fun R hR=>At.rg 1<|Op.bx 6 36 2 #[vI o.Kind,vS o.aa,vL b6 o.Data.length b8,vI o.ak,vI o.aJ,.bool o.aZ,.bool o.aN,.bool o.ah,vL ca o.aH.length cb] hs fun J h1 ce=>Op.gt 1<|At.go 2 1 [(8,vI 1)] ?_
 have dq:∀(m:Nat) (a1:GH) (a3:aG g a1) (I:Int) (cf:av) (hm:0<m) (hk:I=n4 o) (ad:St h g (aM [V,X]) a1 [[(J,Obj.cells #[vI o.Kind,vS o.aa,vL b6 o.Data.length b8,vI o.ak,vI o.aJ,.bool o.aZ,.bool o.aN,.bool o.ah,vL ca o.aH.length cb] 36 (0,0))],V,X] cf),At (bS prog B 64 f64 R) [] 5 [(0,vP D),(1,vI client),(3,vP u),(6,vP J),(8,vI I)] cf:=by
  intro m;induction m with
  |zero=>intros;omega
  |succ m h2=>
   intro a1 a3 I cf hm hk ad
   replace U:=U.mono a3
   replace a0:=a0.mono a3
   replace Y:=Y.mono a3
   refine At.rp 2 1 [(14,vQ J 7)]<|Op.l1 4 14 15 7 (.bool o.ah) (ad.ag 0 rfl)<|Op.gt 6 ?_
   have du:∀(m:Nat) (G:GH) (dv:aG a1 G) (y:Sp) (z:Result) (ch:au) (ci:au) (ck:av) (hm:0<m) (hy:y=mT s client o) (hz:n6 s client o x=n5 s o z) (co:bB G D y ch) (a4:fF G u z ci) (a5:St h g (aM [V,X]) G [[(J,Obj.cells #[vI o.Kind,vS o.aa,vL b6 o.Data.length b8,vI o.ak,vI o.aJ,.bool o.aZ,.bool o.aN,.bool o.ah,vL ca o.aH.length cb] 36 (0,0))],ch,ci] ck),At (bS prog B 64 f64 R) [] 11 [(0,vP D),(3,vP u),(6,vP J)] ck:=by
    intro m;induction m with
    |zero=>intros;omega
    |succ m h3=>
     intro G dv y z ch ci ck hm hy hz co a4 a5
     replace U:=U.mono dv
     refine At.rp 3 1 [(31,vP J)]<|Op.l1 3 31 32 0 (vI o.Kind) (a5.ag 0 rfl)<|Op.pg 12 [(33,.bool (o.Kind==7))]<|At.fd (o.Kind=7) 33 13 15 (fun h4=>?_) fun h5=>?_
     ·obtain⟨dC,eo,h6,ep,h7,er,h8,et,h9,ex,eA,dE,eB,eI,eJ,eK⟩:=co
      obtain⟨v53,ib,eL,ih,eQ,eT,dT,e1,d0⟩:=a4
      obtain⟨d1,d2,rfl⟩:=dT.ai
      obtain⟨ii,ik,rfl⟩:=e1.ai
      obtain⟨d3,d4,rfl⟩:=d0.ai
      have c3:=St.un [eL,eQ] eT ((St.un [eo,ep,er,et,ex] eA (a5.fs [1] rfl)).fs [6,6,6,6,6,6,6,7] rfl)
      refine At.dw (fun _=>False) [(0,true),(1,true),(2,true),(3,true),(4,true),(6,true),(5,true),(7,false),(8,false),(9,true),(10,true),(11,true),(12,true),(13,true),(1014,false),(14,false),(15,true),(16,true),(17,false)]<|Op.px 6 [(35,vP u),(36,vP u),(39,vP D),(41,vQ J 1)]<|Op.lf 70 39 0 40 1 (vP dC) id (c3.ag 3 rfl)<|Op.l1 9 41 42 1 (vS o.aa) (c3.ag 9 rfl) ?_
      have a6:=c3.fs [3,3,3,3,4] rfl
      have e2:=a6.gi
      have e3:=eU.fK dE a6 (by intro p hp;simp only[cU,hp,g_,hU])
      refine Op.le (some 43) 0 a6 (OH _ _ _ a6.ij (U.mono e2) dC y.an e3 o.aa (by((try dsimp only)<;>((rw[hy,sy];exact b5.tree)))) (by(try dsimp only)<;>omega)) (fun _ _ _ hp=>by obtain⟨_,_,_,_,O,_⟩:=hp;exact O) ?_ (hM:=(fun _ _ h=>absurd h (gq _)))
      rintro _ _ il e4 ⟨v75,io,rfl,a7,O,rfl⟩;clear O
      obtain⟨a8,a9,rfl⟩:=a7.ai
      replace a7:=a7.aX (fun _ _ _ _ h=>h) (g':=G)
      refine Op.px 5 [(44,vL a8 (((iS y.an o.aa).1).length) a9),(45,vI ((iS y.an o.aa).2)),(47,vQ u 9)]<|Op.ba<|Op.s1 57 47 44 9 (vL a8 (((iS y.an o.aa).1).length) a9) 2 #[vI z.Code,vI z.bg,vI z.At,vS z.af.aa,vL d1 z.af.Data.length d2,vI z.af.ak,vI z.af.aE,vI z.af.Next,vI z.af.aO,vL a8 (((iS y.an o.aa).1).length) a9,vL d3 z.aW.length d4] e4 zt fun ip e5=>Op.px 2 [(49,vP u)]<|Op.s1 52 49 45 0 (vI ((iS y.an o.aa).2)) 2 #[vI ((iS y.an o.aa).2),vI z.bg,vI z.At,vS z.af.aa,vL d1 z.af.Data.length d2,vI z.af.ak,vI z.af.aE,vI z.af.Next,vI z.af.aO,vL a8 (((iS y.an o.aa).1).length) a9,vL d3 z.aW.length d4] e5 zt fun is e6=>?_
      refine Op.gt 14 ?_
      obtain⟨e7,e8,e9⟩:=St.bl (Q:=bB G D y) 6 (e6.fs [4,4,4,4,9,9,9,9,8,9] rfl) ⟨_,_,_,_,_,_,_,_,_,_,rfl,dE,eB,eI,eJ,eK⟩
      obtain⟨fa,fg,fi⟩:=St.bl (Q:=fF G u (⟨(iS y.an o.aa).2,z.bg,z.At,⟨z.af.aa,z.af.Data,z.af.ak,z.af.aE,z.af.Next,z.af.aO⟩,(iS y.an o.aa).1,z.aW⟩:Result)) 3 (e9.fs [3,1,4,3,4] rfl) ⟨_,_,_,_,_,rfl,dT,a7,d0⟩
      exact At.rt dr<|hR (fi.fs [1,3,3] rfl).drop.drop ⟨e7,fa,rfl,e8.eq (by exact hy),fg.eq (by(rw[hz,R0 ‹_›,hy,sy];done)),rfl⟩
     obtain⟨bb,fj,iv,fl,i0,fp,i1,fr,i2,ft,fv,Z,bc,bd,be,bi⟩:=co
     have ab:=St.un [fj,fl,fp,fr,ft] fv (a5.fs [1] rfl)
     refine At.gb (by kernel_rfl) (fun _=>False) [(0,true),(1,true),(2,true),(4,true),(3,true),(5,true)] [(6,false),(7,true),(8,true),(9,true),(10,false),(1011,false),(11,false),(12,true)] [(10,false),(6,false),(7,true),(8,true),(9,true),(1011,false),(11,false),(12,true)] (by kernel_rfl) ?_ ?_
     ·show Op _ _ _ _ _ [(0,true),(1,true),(2,true),(4,true),(3,true),(5,true),(6,false),(7,true),(8,true),(9,true),(10,false),(1011,false),(11,false),(12,true)] _ _
      refine Op.px 4 [(53,vP D),(55,vQ J 1)]<|Op.lf 70 53 0 54 1 (vP bb) id (ab.ag 0 rfl)<|Op.lf 9 55 1 56 1 (vS o.aa) id (ab.ag 6 rfl) ?_
      have bj:=ab.fs [1] rfl
      have fw:=bj.gi
      have fx:=eU.fK Z bj (by intro p hp;simp only[cU,hp,g_,hU])
      refine Op.le (some 57) 0 bj (GZ _ _ _ bj.ij (U.mono fw) bb y.an fx o.aa (by((try dsimp only)<;>((rw[hy,sy];exact b5.tree)))) (by(try dsimp only)<;>omega)) (fun _ _ _ hp=>by obtain⟨_,_,_,_,O,_⟩:=hp;exact O) ?_ (hM:=(fun _ _ h=>absurd h (gq _)))
      rintro _ _ i3 f0 ⟨i4,i5,rfl,bk,O,rfl⟩;clear O
      obtain⟨bm,bo,rfl⟩:=bk.ai
      replace bk:=bk.aX (fun _ _ _ _ h=>h) (g':=G)
      refine Op.px 3 [(58,.agg #[vS (((bR y.an o.aa).1).aa),vL bm ((((bR y.an o.aa).1).Data).length) bo,vI (((bR y.an o.aa).1).ak),vI (((bR y.an o.aa).1).aE),vI (((bR y.an o.aa).1).Next),vI (((bR y.an o.aa).1).aO)]),(59,vI ((bR y.an o.aa).2))]<|Op.al 9 56 si f0 fun i6 i7 f1=>Op.ba<|Op.sg 56 9 58 0 0 #[vS (((bR y.an o.aa).1).aa),vL bm ((((bR y.an o.aa).1).Data).length) bo,vI (((bR y.an o.aa).1).ak),vI (((bR y.an o.aa).1).aE),vI (((bR y.an o.aa).1).Next),vI (((bR y.an o.aa).1).aO)] f1 zt fun i8 f2=>Op.pg 16 [(10,vI ((bR y.an o.aa).2))] ?_
      refine At.rp 5 4 [(61,vI ((bR y.an o.aa).2)),(63,vP u)] ?_
      obtain⟨i9,v131,f3,jf,f4,f5,d5,ae,am⟩:=a4
      obtain⟨a139,f6,rfl⟩:=d5.ai
      obtain⟨d6,d7,rfl⟩:=ae.ai
      obtain⟨d8,d9,rfl⟩:=am.ai
      refine Op.s1 52 63 61 0 (vI ((bR y.an o.aa).2)) 0 #[vI ((bR y.an o.aa).2),vI z.bg,vI z.At,vS z.af.aa,vL a139 z.af.Data.length f6,vI z.af.ak,vI z.af.aE,vI z.af.Next,vI z.af.aO,vL d6 z.bF.length d7,vL d8 z.aW.length d9] (St.un [f3,f4] f5 (f2.fs [8,8,8,8,8,8,8,8,8,9] rfl)) zt fun jj c4=>Op.gt 17<|At.go 18 2 [(65,.bool (((bR y.an o.aa).2)==0))]<|At.fd (((bR y.an o.aa).2)=0) 65 19 20 (fun jn=>?_) fun js=>?_
      ·refine At.rp 5 1 [(66,vP u)]<|Op.la 56 9 67 0 6 [vS (((bR y.an o.aa).1).aa),vL bm ((((bR y.an o.aa).1).Data).length) bo,vI (((bR y.an o.aa).1).ak),vI (((bR y.an o.aa).1).aE),vI (((bR y.an o.aa).1).Next),vI (((bR y.an o.aa).1).aO)] (c4.ag 3 rfl)<|Op.px 2 [(69,vQ u 3)]<|Op.sg 56 69 67 3 0 #[vI ((bR y.an o.aa).2),vI z.bg,vI z.At,vS (((bR y.an o.aa).1).aa),vL bm ((((bR y.an o.aa).1).Data).length) bo,vI (((bR y.an o.aa).1).ak),vI (((bR y.an o.aa).1).aE),vI (((bR y.an o.aa).1).Next),vI (((bR y.an o.aa).1).aO),vL d6 z.bF.length d7,vL d8 z.aW.length d9] c4 zt fun jt f7=>Op.gt 20 ?_
       obtain⟨f8,c5,f9⟩:=St.bl (Q:=bB G D y) 6 (f7.fs [5,4,4,4,4,10,10,10,10,9,10] rfl) ⟨_,_,_,_,_,_,_,_,_,_,rfl,Z,bc,bd,be,bi⟩
       obtain⟨gc,ge,c6,gg⟩:=aF.freeze bk (f9.fs [5] rfl)
       replace ae:=ae.mono c6
       replace am:=am.mono c6
       replace c5:=c5.mono c6
       obtain⟨gk,gn,gs⟩:=St.bl (Q:=fF gc u (⟨(bR y.an o.aa).2,z.bg,z.At,⟨((bR y.an o.aa).1).aa,((bR y.an o.aa).1).Data,((bR y.an o.aa).1).ak,((bR y.an o.aa).1).aE,((bR y.an o.aa).1).Next,((bR y.an o.aa).1).aO⟩,z.bF,z.aW⟩:Result)) 3 (ge.fs [3,3,3] rfl) ⟨_,_,_,_,_,rfl,gg,ae,am⟩
       exact At.rt dr<|hR (gs.fs [1,3,3] rfl).drop.drop ⟨f8,gk,rfl,c5.eq (by exact hy),gn.eq (by(rw[hz];simp only[hy,sy] at *;rw[JJ ‹_› ‹_›])),rfl⟩
      obtain⟨g1,g2,g3⟩:=St.bl (Q:=bB G D y) 6 (c4.fs [5,4,4,4,4,10,10,10,10,9,10] rfl) ⟨_,_,_,_,_,_,_,_,_,_,rfl,Z,bc,bd,be,bi⟩
      obtain⟨g4,g5,g6⟩:=St.bl (Q:=fF G u (⟨(bR y.an o.aa).2,z.bg,z.At,⟨z.af.aa,z.af.Data,z.af.ak,z.af.aE,z.af.Next,z.af.aO⟩,z.bF,z.aW⟩:Result)) 3 (g3.fs [3,3,3] rfl) ⟨_,_,_,_,_,rfl,d5,ae,am⟩
      exact At.rt dr<|hR (g6.fs [1,4,4,4] rfl).drop.drop.drop ⟨g1,g4,rfl,g2.eq (by exact hy),g5.eq (by(rw[hz];simp only[hy,sy] at *;rw[JK ‹_› ‹_›])),rfl⟩
     show Op _ _ _ _ _ [(0,true),(1,true),(2,true),(4,true),(3,true),(5,true),(10,false),(6,false),(7,true),(8,true),(9,true),(1011,false),(11,false),(12,true)] _ _
     refine Op.px 4 [(53,vP D),(55,vQ J 1)]<|Op.lf 70 53 0 54 1 (vP bb) id (ab.ag 0 rfl)<|Op.lf 9 55 1 56 1 (vS o.aa) id (ab.ag 6 rfl)<|Op.al 9 56 si ab fun j1 j2 g7=>?_
     have bs:=g7.fs [1,1,2] rfl
     have g8:=bs.gi
     have g9:=eU.fK Z bs (by intro p hp;simp only[cU,hp,g_,hU])
     refine Op.le (some 57) 0 bs (GZ _ _ _ bs.ij (U.mono g8) bb y.an g9 o.aa (by((try dsimp only)<;>((rw[hy,sy];exact b5.tree)))) (by(try dsimp only)<;>omega)) (fun _ _ _ hp=>by obtain⟨_,_,_,_,O,_⟩:=hp;exact O) ?_ (hM:=(fun _ _ h=>absurd h (gq _)))
     rintro _ _ kc ha ⟨v183,kd,rfl,bt,O,rfl⟩;clear O
     obtain⟨b3,b4,rfl⟩:=bt.ai
     replace bt:=bt.aX (fun _ _ _ _ h=>h) (g':=G)
     refine Op.px 3 [(58,.agg #[vS (((bR y.an o.aa).1).aa),vL b3 ((((bR y.an o.aa).1).Data).length) b4,vI (((bR y.an o.aa).1).ak),vI (((bR y.an o.aa).1).aE),vI (((bR y.an o.aa).1).Next),vI (((bR y.an o.aa).1).aO)]),(59,vI ((bR y.an o.aa).2))]<|Op.ba<|Op.sg 56 9 58 0 2 #[vS (((bR y.an o.aa).1).aa),vL b3 ((((bR y.an o.aa).1).Data).length) b4,vI (((bR y.an o.aa).1).ak),vI (((bR y.an o.aa).1).aE),vI (((bR y.an o.aa).1).Next),vI (((bR y.an o.aa).1).aO)] ha zt fun kh hb=>Op.pg 16 [(10,vI ((bR y.an o.aa).2))]<|At.rp 5 4 [(61,vI ((bR y.an o.aa).2)),(63,vP u)] ?_
     obtain⟨kk,kl,he,km,hf,hh,ea,ar,aw⟩:=a4
     obtain⟨hj,hl,rfl⟩:=ea.ai
     obtain⟨eb,ed,rfl⟩:=ar.ai
     obtain⟨ee,n206,rfl⟩:=aw.ai
     refine Op.s1 52 63 61 0 (vI ((bR y.an o.aa).2)) 0 #[vI ((bR y.an o.aa).2),vI z.bg,vI z.At,vS z.af.aa,vL hj z.af.Data.length hl,vI z.af.ak,vI z.af.aE,vI z.af.Next,vI z.af.aO,vL eb z.bF.length ed,vL ee z.aW.length n206] (St.un [he,hf] hh (hb.fs [8,8,8,8,8,8,8,8,8,9] rfl)) zt fun kv c8=>Op.gt 17<|At.go 18 2 [(65,.bool (((bR y.an o.aa).2)==0))]<|At.fd (((bR y.an o.aa).2)=0) 65 19 20 (fun kw=>?_) fun kx=>?_
     ·refine At.rp 5 1 [(66,vP u)]<|Op.la 56 9 67 0 6 [vS (((bR y.an o.aa).1).aa),vL b3 ((((bR y.an o.aa).1).Data).length) b4,vI (((bR y.an o.aa).1).ak),vI (((bR y.an o.aa).1).aE),vI (((bR y.an o.aa).1).Next),vI (((bR y.an o.aa).1).aO)] (c8.ag 5 rfl)<|Op.px 2 [(69,vQ u 3)]<|Op.sg 56 69 67 3 0 #[vI ((bR y.an o.aa).2),vI z.bg,vI z.At,vS (((bR y.an o.aa).1).aa),vL b3 ((((bR y.an o.aa).1).Data).length) b4,vI (((bR y.an o.aa).1).ak),vI (((bR y.an o.aa).1).aE),vI (((bR y.an o.aa).1).Next),vI (((bR y.an o.aa).1).aO),vL eb z.bF.length ed,vL ee z.aW.length n206] c8 zt fun kA hn=>Op.gt 20 ?_
      obtain⟨ho,c9,hq⟩:=St.bl (Q:=bB G D y) 6 (hn.fs [5,5,4,4,4,10,10,10,10,9,10] rfl) ⟨_,_,_,_,_,_,_,_,_,_,rfl,Z,bc,bd,be,bi⟩
      obtain⟨hr,hu,da,hw⟩:=aF.freeze bt (hq.fs [4] rfl)
      replace ar:=ar.mono da
      replace aw:=aw.mono da
      replace c9:=c9.mono da
      obtain⟨hx,hA,hB⟩:=St.bl (Q:=fF hr u (⟨(bR y.an o.aa).2,z.bg,z.At,⟨((bR y.an o.aa).1).aa,((bR y.an o.aa).1).Data,((bR y.an o.aa).1).ak,((bR y.an o.aa).1).aE,((bR y.an o.aa).1).Next,((bR y.an o.aa).1).aO⟩,z.bF,z.aW⟩:Result)) 3 (hu.fs [3,3,3] rfl) ⟨_,_,_,_,_,rfl,hw,ar,aw⟩
      exact At.rt dr<|hR (hB.fs [1,3,3] rfl).drop.drop ⟨ho,hx,rfl,c9.eq (by exact hy),hA.eq (by(rw[hz];simp only[hy,sy] at *;rw[JJ ‹_› ‹_›])),rfl⟩
     obtain⟨hC,hD,hE⟩:=St.bl (Q:=bB G D y) 6 (c8.fs [5,5,4,4,4,10,10,10,10,9,10] rfl) ⟨_,_,_,_,_,_,_,_,_,_,rfl,Z,bc,bd,be,bi⟩
     obtain⟨hF,hG,hH⟩:=St.bl (Q:=fF G u (⟨(bR y.an o.aa).2,z.bg,z.At,⟨z.af.aa,z.af.Data,z.af.ak,z.af.aE,z.af.Next,z.af.aO⟩,z.bF,z.aW⟩:Result)) 3 (hE.fs [3,3,3] rfl) ⟨_,_,_,_,_,rfl,ea,ar,aw⟩
     exact At.rt dr<|hR (hH.fs [1,4,4,4] rfl).drop.drop.drop ⟨hC,hF,rfl,hD.eq (by exact hy),hG.eq (by(rw[hz];simp only[hy,sy] at *;rw[JK ‹_› ‹_›])),rfl⟩
   refine At.c_ o.ah 15 7 11 (fun k0=>?_) fun k1=>?_
   ·refine At.rp 11 5 [(16,vP u),(17,vP D),(18,vI client),(19,vI I),(20,vQ J 1)]<|Op.l1 9 20 21 1 (vS o.aa) (ad.ag 0 rfl)<|Op.px 1 [(22,.agg #[vI client,vI I,vS o.aa])] ?_
    have db:=ad.fs [1] rfl
    refine Op.cl (some 23) 1 db (Sj _ _ _ db.sub U D s _ a0 (⟨client,I,o.aa⟩:ah) (by(try dsimp only)<;>omega) (by(try dsimp only)<;>omega) (St.pt 1 db)) ?_
    rintro _ ef _ k2 hI hJ ⟨hK,rfl,eh,rfl⟩
    replace Y:=Y.mono hI
    refine Op.px 2 [(25,vP u)] ?_
    obtain⟨k3,k4,hL,k5,hN,hO,dc,dd,df⟩:=Y
    obtain⟨hP,hQ,rfl⟩:=dc.ai
    obtain⟨hS,n258,rfl⟩:=dd.ai
    obtain⟨hT,n260,rfl⟩:=df.ai
    refine Op.s1 52 25 23 0 (vI (jz s (⟨client,I,o.aa⟩:ah))) 0 #[vI (jz s (⟨client,I,o.aa⟩:ah)),vI x.bg,vI x.At,vS x.af.aa,vL hP x.af.Data.length hQ,vI x.af.ak,vI x.af.aE,vI x.af.Next,vI x.af.aO,vL hS x.bF.length n258,vL hT x.aW.length n260] (St.un [hL,hN] hO (hJ.fs [1,1,2] rfl)) zt fun k6 dg=>Op.gt 8<|At.rp 5 3 [(28,vP u)]<|Op.l1 52 28 29 0 (vI (jz s (⟨client,I,o.aa⟩:ah))) (dg.ag 0 rfl)<|Op.pg 9 [(30,.bool ((jz s (⟨client,I,o.aa⟩:ah)) != 0))] ?_
    refine At.fn ((jz s (⟨client,I,o.aa⟩:ah))=0) 30 10 11 (fun k7=>?_) fun k8=>?_
    ·obtain⟨hV,hW,hX⟩:=St.bl (Q:=fF ef u (⟨jz s (⟨client,I,o.aa⟩:ah),x.bg,x.At,⟨x.af.aa,x.af.Data,x.af.ak,x.af.aE,x.af.Next,x.af.aO⟩,x.bF,x.aW⟩:Result)) 3 dg ⟨_,_,_,_,_,rfl,dc,dd,df⟩
     exact At.rt dr<|hR (hX.fs [1,2] rfl).drop ⟨hK,hV,rfl,eh.eq (by(subst hk;exact JI ‹_›)),hW.eq (by(subst hk;exact RZ ‹_› ‹_›)),rfl⟩
    obtain⟨lb,hY,hZ⟩:=St.bl (Q:=fF ef u (⟨jz s (⟨client,I,o.aa⟩:ah),x.bg,x.At,⟨x.af.aa,x.af.Data,x.af.ak,x.af.aE,x.af.Next,x.af.aO⟩,x.bF,x.aW⟩:Result)) 3 dg ⟨_,_,_,_,_,rfl,dc,dd,df⟩
    exact At.ke (du _ _ (by repeat (first|assumption|exact aG.refl _|apply aG.trans)) (nZ s (⟨client,I,o.aa⟩:ah)) (⟨jz s (⟨client,I,o.aa⟩:ah),x.bg,x.At,⟨x.af.aa,x.af.Data,x.af.ak,x.af.aE,x.af.Next,x.af.aO⟩,x.bF,x.aW⟩:Result) _ _ _ (bK _) (by(subst hk;exact JI ‹_›)) (by(subst hk;exact RY ‹_› ‹_› _)) eh hY (hZ.fs [1,2] rfl))
   exact At.ke (du _ _ (by repeat (first|assumption|exact aG.refl _|apply aG.trans)) s x _ _ _ (bK _) (by exact RW ‹_›) (by exact RX ‹_›) a0 Y ad)
 refine At.rp 3 1 [(11,vP J)]<|Op.l1 3 11 12 0 (vI o.Kind) (ce.ag 0 rfl)<|Op.pg 3 [(13,.bool (o.Kind==7))]<|At.fd (o.Kind=7) 13 4 5 (fun lc=>?_) fun lh=>?_
 ·exact At.go 5 1 [(8,vI 2)] (At.ke (dq _ _ (by repeat (first|assumption|exact aG.refl _|apply aG.trans)) 2 _ (bK _) (by exact RU ‹_›) ce))
 exact At.ke (dq _ _ (by repeat (first|assumption|exact aG.refl _|apply aG.trans)) 1 _ (bK _) (by exact RV ‹_›) ce)
theorem Sl (B:World) (h:av) (g:GH) (hg:bf g h) (I:bh g) (p:aj) (u:Nat) (s:Sp) (G:au) (J:bB g u s G) (V:Nat) (D:g V=some (.cells #[vP u] 26 (0,0))) (X:dH s) (hp:p.length≤1000000000) (hs:St h g (aM [G]) g [G] h):
  aA prog B 105 #[vS p,vP V] h g [G] (fun ab g' L'=>∃Y,ab=.tuple #[]∧bB g' u (su s 1 [p]) Y∧L'=[Y]):=by
 refine aA.aq func105 fun R hR=>At.rg 4<|Op.l1 26 1 3 0 (vP u) (hs.sub _ _ D)<|Op.px 1 [(4,vS p)]<|Op.ls 5 1 9 #[vS p] hs fun Z a3 ad=>?_
 have ae:aF 9 ew g (vL (some ⟨Z,0,none⟩) 1 1) [p] [(Z,Obj.cells #[vS p] 9 (0,0))]:=aF.lit (by kernel_rfl) (by unfold maxLen;decide) (by kernel_rfl) ⟨_,_,rfl,rfl,Reads.nil⟩
 obtain⟨a4,O,U,am⟩:=aF.freeze ae (ad)
 replace I:=I.mono U
 replace J:=J.mono U
 replace D:=U _ _ D
 refine Op.cl (some 6) 1 O (Ds _ _ _ O.sub I u s _ J 1 _ _ am (by((try dsimp only)<;>((have:=X.wl;omega)))) (by((try dsimp only)<;>((simp;done)))) (by(try dsimp only)<;>exact X.quo) (St.pt 1 O)) ?_
 rintro _ a5 _ a6 ar aw ⟨a0,rfl,a1,rfl⟩
 replace D:=ar _ _ D
 exact Op.gt 1<|At.rt dr (hR aw ⟨a0,rfl,a1.eq (by rfl),rfl⟩)
def qO (g:GH) (b:Nat) (fA:Nat) (f:Nat) (u cp:Array Value):Prop:=
  (fA=1∧f=57∧u=#[.pointer (some ⟨b,0,none⟩)]∧cp=#[])∨
  (fA=2∧f=105∧u=#[]∧∃b0,cp=#[.pointer (some ⟨b0,0,none⟩)]∧g b0=some (.cells #[.pointer (some ⟨b,0,none⟩)] 26 (0,0)))
theorem qO.mono {g g':GH} {b fA f:Nat} {u cp:Array Value} (h:qO g b fA f u cp) (hg:aG g g'):qO g' b fA f u cp:=by
  rcases h with h|⟨h1,h2,h3,b0,h4,h5⟩
  · exact .inl h
  · exact .inr ⟨h1,h2,h3,b0,h4,hg _ _ h5⟩
theorem qO.JY {g:GH} {b fA f:Nat} {u cp:Array Value} (h:qO g b fA f u cp):ei prog f:=by
  rcases h with ⟨_,rfl,_⟩|⟨_,rfl,_⟩
  · exact ei.of (by kernel_rfl)
  · exact ei.of (by kernel_rfl)
structure iz where
  ey:aj
  fA:Nat
  br:Nat
def vt:Kd iz where
  sz:=2
  K g x cs:=(x.fA=0∧cs=[.string (a_ x.ey),.nilFunc])∨∃f u cp,qO g x.br x.fA f u cp∧cs=[.string (a_ x.ey),.func (.func f) u cp]
  len h:=by rcases h with ⟨_,rfl⟩|⟨_,_,_,_,rfl⟩<;>rfl
  one h:=by rcases h with ⟨_,rfl⟩|⟨_,_,_,_,rfl⟩<;>simp[Value.oneCell']
  mono hg h:=by
    rcases h with h|⟨f,u,cp,h,e⟩
    · exact .inl h
    · exact .inr ⟨f,u,cp,h.mono hg,e⟩
  zv:=⟨[],0,0⟩
  zc:=[.string (a_ []),.nilFunc]
  zK _:=.inl ⟨rfl,rfl⟩
theorem Sm {g:GH} {x:iz} {cs:List Value} (hn:x.fA≠0) (h:vt.K g x cs):∃f u cp,qO g x.br x.fA f u cp∧cs=[.string (a_ x.ey),.func (.func f) u cp]:=by
  rcases h with ⟨h,_⟩|h
  · exact absurd h hn
  · exact h
theorem JZ {e:Env} {x:Operand} {v:Value} {u cp:Array Value} (h:e.ev x=v):u++#[x].map e.ev++cp=u++(#[v]:Array Value)++cp:=by subst h;simp
def kU (s:Sp) (fA:Nat) (p:aQ):Sp:=if fA=1 then vk s p else su s 1 [p]
theorem J0 (B:World) (h:av) (g:GH) (hg:bf g h) (G:bh g) {fA f:Nat} {I cp:Array Value} (D:Nat) (s:Sp) (u:au) (J:bB g D s u) (p:aj) (hc:qO g D fA f I cp) (O:dH s) (hp:p.length≤1000000000) (hs:St h g (aM [u]) g [u] h):
    aA prog B f (I++(#[.string (a_ p)]:Array Value)++cp) h g [u] (fun V g' L'=>∃U,V=.tuple #[]∧bB g' D (kU s fA p) U∧L'=[U]):=by
  rcases hc with ⟨rfl,rfl,rfl,rfl⟩|⟨rfl,rfl,rfl,b0,rfl,hb⟩
  · exact JW B h g hg G D s u J p O hp hs
  · exact Sl B h g hg G p D s u J b0 hb O hp hs
theorem dH.Ap {s:Sp} (H:dH s) (fA:Nat) (p:aQ):dH (kU s fA p):=by
  unfold kU
  split
  · exact H.xP p
  · exact H.nY _ _
def ec:af:=⟨[],[],0, -1,0,0⟩
def dS (s:Sp) (client:Int) (o:aC):List af×aQ×Int:=bY s.an o.aa o.Data (if o.aZ=true then client else -1) s.count o.aN
def dU (s:Sp) (client:Int) (o:aC):List af:=
  if o.Kind=3 then (dS s client o).1 else if o.Kind=4 then (fL s.an o.aa o.ak).1 else (eP s.an o.aa o.Data o.ak).1
def cc (s:Sp) (client:Int) (o:aC):Int:=
  if o.Kind=3 then (dS s client o).2.2 else if o.Kind=4 then (fL s.an o.aa o.ak).2 else (eP s.an o.aa o.Data o.ak).2.2
def bE (s:Sp) (client:Int) (o:aC):af:=
  if o.Kind=3 then {ec with aa:=(dS s client o).2.1} else if o.Kind=4 then ec
  else if (eP s.an o.aa o.Data o.ak).2.2=0 then {ec with aa:=o.aa,ak:=(eP s.an o.aa o.Data o.ak).2.1} else ec
def cK (s:Sp) (client:Int) (o:aC):aQ:=if o.Kind=3 then (dS s client o).2.1 else o.aa
def iY (o:aC):Nat:=if o.Kind=3 then 1 else if o.Kind=4 then 1 else 2
def cH (s:Sp) (client:Int) (o:aC):Sp:={s with an:=dU s client o}
theorem Aq {o:aC} (h:o.Kind=3):iY o=1:=by rw[iY,aL h]
theorem J1 {o:aC} (h:¬o.Kind=3) (h4:o.Kind=4):iY o=1:=by rw[iY,aB h,aL h4]
theorem J2 {o:aC} (h:¬o.Kind=3) (h4:¬o.Kind=4):iY o=2:=by rw[iY,aB h,aB h4]
abbrev lG:Array Value:=#[vS [],.nilFunc]
abbrev n8:Array Value:=#[vS [],vN,vI 0,vI (-1),vI 0,vI 0]
abbrev n9:Value:=(.agg #[vI 0,vN])
theorem J3 (B:World) (h:av) (g:GH) (hg:bf g h) (a4:bh g) (u:Nat) (s:Sp) (a6:au) (a7:bB g u s a6) (client:Int) (o:aC) (co:Value) (a8:ay g 5 bn co o.Data) (c3:Value) (ee:ay g 36 eY c3 o.aH) (hP:l7 g) (a5:dH s) (hp:o.aa.length≤100000000) (hd:o.Data.length≤1000000000) (hs:St h g (aM [a6]) g [a6] h):
  aA prog B 63 #[vP u,vI client,.agg #[vI o.Kind,vS o.aa,co,vI o.ak,vI o.aJ,.bool o.aZ,.bool o.aN,.bool o.ah,c3]] h g [a6] (fun ef g' L'=>∃v0 c4 c5 f0 c6 c8 c9,ef=.tuple #[.agg #[.string (a_ ((bE s client o).aa)),v0,.int .i64 ((bE s client o).ak),.int .i64 ((bE s client o).aE),.int .i64 ((bE s client o).Next),.int .i64 ((bE s client o).aO)],.agg #[.string (a_ c5),.func (.func f0) c6 c8],.int .i64 (cc s client o)]∧aF 5 bn g' v0 ((bE s client o).Data) c4∧c5=cK s client o∧qO g' u (iY o) f0 c6 c8∧bB g' u (cH s client o) c9∧L'=[c9,c4]):=by
 obtain⟨a9,bb,rfl⟩:=a8.ai
 obtain⟨eh,ej,rfl⟩:=ee.ai
 refine aA.aq func63 fun R hR=>At.rg 5<|Op.bx 3 26 0 #[vP u] hs fun J hE em=>Op.bx 5 36 2 #[vI o.Kind,vS o.aa,vL a9 o.Data.length bb,vI o.ak,vI o.aJ,.bool o.aZ,.bool o.aN,.bool o.ah,vL eh o.aH.length ej] em fun I hF en=>Op.al 6 56 si en fun G hG eo=>?_
 refine Op.al 7 137 lG eo fun O hH ep=>Op.pg 1 []<|At.rp 2 1 [(11,vQ G 3)]<|Op.s1 3 11 (.const (vI (-1))) 3 (vI (-1)) 1 n8 ep zt fun hI ad=>Op.gt 2 ?_
 refine At.rp 2 1 [(12,vP I)]<|Op.l1 3 12 13 0 (vI o.Kind) (ad.ag 2 rfl)<|Op.gt 3<|At.go 4 2 [(14,.bool (o.Kind==3))]<|At.fd (o.Kind=3) 14 5 12 (fun hJ=>?_) fun hK=>?_
 ·refine At.go 6 1 [(9,vI (-1))]<|At.rp 2 1 [(16,vQ I 5)]<|Op.l1 4 16 17 5 (.bool o.aZ) (ad.ag 2 rfl)<|Op.gt 7<|At.c_ o.aZ 17 8 9 (fun hL=>?_) fun hN=>?_
  ·refine At.go 9 2 [(9,vI client)] ?_
   obtain⟨da,er,hO,et,hQ,ex,hS,eA,hT,eB,eI,eJ,db,dc,dd,df⟩:=a7
   have X:=St.un [er,et,ex,eA,eB] eI (ad.fs [3,3,3,3,4] rfl)
   refine At.dw (fun _=>False) [(4,true),(6,true),(8,true),(13,true),(0,true),(1,true),(2,true),(3,true),(5,true),(7,true),(9,true),(10,true),(11,true),(12,true),(14,false),(1015,false),(15,false),(16,true),(17,true),(18,true),(19,true),(20,false),(21,true)]<|Op.px 4 [(24,vQ I 1),(26,vQ I 2),(28,vI client),(33,vQ I 6)]<|Op.lf 26 3 0 20 1 (vP u) id (X.ag 9 rfl)<|Op.px 2 [(22,vP u)]<|Op.lf 70 22 0 23 1 (vP da) id (X.ag 0 rfl) ?_
   refine Op.lf 9 24 1 25 1 (vS o.aa) id (X.ag 8 rfl)<|Op.lf 28 26 2 27 1 (vL a9 o.Data.length bb) id (X.ag 8 rfl)<|Op.lf 26 3 0 29 1 (vP u) id (X.ag 9 rfl)<|Op.px 2 [(31,vQ u 4)]<|Op.lf 3 31 4 32 1 (vI s.count) id (X.ag 0 rfl) ?_
   refine Op.l1 4 33 34 6 (.bool o.aN) (X.ag 8 rfl)<|Op.ba ?_
   have bi:=X.fs [1] rfl
   refine Op.cl (some 35) 1 bi (IY _ _ _ bi.sub a4 da s.an _ eJ o.aa _ _ a8 client s.count o.aN hP (by(try dsimp only)<;>exact a5.tree) (by(try dsimp only)<;>omega) (by(try dsimp only)<;>omega) (St.pt 1 bi)) ?_
   rintro _ eK _ hV eL eQ ⟨hW,rfl,dg,bc,rfl⟩;subst eK;clear eL
   refine Op.px 4 [(36,vS ((bY s.an o.aa o.Data client s.count o.aN).2.1)),(37,vI ((bY s.an o.aa o.Data client s.count o.aN).2.2)),(38,vP G)]<|Op.s1 9 38 36 0 (vS ((bY s.an o.aa o.Data client s.count o.aN).2.1)) 7 #[vS ((bY s.an o.aa o.Data client s.count o.aN).2.1),vN,vI 0,vI (-1),vI 0,vI 0] eQ zt fun hX U=>Op.pg 10 [(8,vI ((bY s.an o.aa o.Data client s.count o.aN).2.2))]<|At.gb (by kernel_rfl) (aM [[(G,Obj.cells #[vS ((bY s.an o.aa o.Data client s.count o.aN).2.1),vN,vI 0,vI (-1),vI 0,vI 0] 56 (0,0))],[(O,Obj.cells lG 137 (0,0))]]) [(1,true),(6,true),(3,true),(4,true)] [(0,false),(2,false),(5,true),(7,false),(8,false),(9,true)] [(2,false),(5,true),(0,false),(7,false),(8,false),(9,true)] (by kernel_rfl) ?_ ?_
   ·show Op _ _ _ _ _ [(1,true),(6,true),(3,true),(4,true),(0,false),(2,false),(5,true),(7,false),(8,false),(9,true)] _ _
    refine Op.px 2 [(40,vP G),(45,vI ((bY s.an o.aa o.Data client s.count o.aN).2.2))]<|Op.lf 26 3 0 42 1 (vP u) (U.dF 9 [7,6] rfl rfl rfl) (U.ag 9 rfl)<|Op.px 1 [(43,.func (.func 57) #[vP u] #[])]<|Op.la 56 6 39 0 6 [vS ((bY s.an o.aa o.Data client s.count o.aN).2.1),vN,vI 0,vI (-1),vI 0,vI 0] (U.ag 7 rfl)<|Op.l1 9 40 41 0 (vS ((bY s.an o.aa o.Data client s.count o.aN).2.1)) (U.ag 7 rfl) ?_
    refine Op.px 1 [(44,.agg #[vS ((bY s.an o.aa o.Data client s.count o.aN).2.1),.func (.func 57) #[vP u] #[]])]<|Op.sg 56 6 39 0 7 #[vS ((bY s.an o.aa o.Data client s.count o.aN).2.1),vN,vI 0,vI (-1),vI 0,vI 0] U (fun _=>⟨(G,Obj.cells #[vS ((bY s.an o.aa o.Data client s.count o.aN).2.1),vN,vI 0,vI (-1),vI 0,vI 0] 56 (0,0)),by simp,rfl⟩) fun hY eT=>Op.sg 137 7 44 0 6 #[vS ((bY s.an o.aa o.Data client s.count o.aN).2.1),.func (.func 57) #[vP u] #[]] eT (fun _=>⟨(O,Obj.cells lG 137 (0,0)),by simp,rfl⟩) fun hZ e1=>Op.pg 11 [(8,vI ((bY s.an o.aa o.Data client s.count o.aN).2.2))] ?_
    have e2:=aF.zero 5 bn g none
    obtain⟨e3,e4,bj⟩:=St.bl (Q:=bB g u (⟨(bY s.an o.aa o.Data client s.count o.aN).1,s.aD,s.az,s.ax,s.count,s.events,s.aI⟩:Sp)) 6 (e1.nl.fs [6,6,6,6,5,6] rfl) ⟨_,_,_,_,_,_,_,_,_,_,rfl,dg,db,dc,dd,df⟩
    exact At.rn f63 [.agg #[vS ((bY s.an o.aa o.Data client s.count o.aN).2.1),vN,vI 0,vI (-1),vI 0,vI 0],.agg #[vS ((bY s.an o.aa o.Data client s.count o.aN).2.1),.func (.func 57) #[vP u] #[]],vI ((bY s.an o.aa o.Data client s.count o.aN).2.2)] [.cell 6 56,.cell 7 137,.tmp 8] ⟨⟨_,_,rfl,dB (n:=6) (by kernel_rfl) (bj.ag 3 rfl) (by kernel_rfl) rfl⟩,⟨_,_,rfl,dB (n:=2) (by kernel_rfl) (bj.ag 2 rfl) (by kernel_rfl) rfl⟩,rfl,trivial⟩<|hR (bj.fs [1,1,5,5,5,5] rfl).drop.drop.drop.drop ⟨vN,[],((bY s.an o.aa o.Data client s.count o.aN).2.1),57,#[vP u],#[],e3,j4 (by(simp[cc,bE,cK,cH,dU,dS,ec, *];done)) (by(simp[cc,bE,cK,cH,dU,dS,ec, *];done)) (bp (by(simp[cc,bE,cK,cH,dU,dS,ec, *];done))),dZ e2 (by(simp[cc,bE,cK,cH,dU,dS,ec, *];done)),(by(simp[cc,bE,cK,cH,dU,dS,ec, *];done)),(by(rw[Aq ‹_›];exact(.inl ⟨rfl,rfl,rfl,rfl⟩))),e4.eq (by(simp[cc,bE,cK,cH,dU,dS,ec, *];done)),rfl⟩
   show Op _ _ _ _ _ [(1,true),(6,true),(3,true),(4,true),(2,false),(5,true),(0,false),(7,false),(8,false),(9,true)] _ _
   refine Op.px 2 [(40,vP G),(45,vI ((bY s.an o.aa o.Data client s.count o.aN).2.2))]<|Op.lf 26 3 0 42 1 (vP u) (U.dF 9 [7,6] rfl rfl rfl) (U.ag 9 rfl)<|Op.px 1 [(43,.func (.func 57) #[vP u] #[])]<|Op.l1 9 40 41 0 (vS ((bY s.an o.aa o.Data client s.count o.aN).2.1)) (U.ag 7 rfl)<|Op.px 1 [(44,.agg #[vS ((bY s.an o.aa o.Data client s.count o.aN).2.1),.func (.func 57) #[vP u] #[]])] ?_
   refine Op.la 56 6 39 0 6 [vS ((bY s.an o.aa o.Data client s.count o.aN).2.1),vN,vI 0,vI (-1),vI 0,vI 0] (U.ag 7 rfl)<|Op.sg 56 6 39 0 7 #[vS ((bY s.an o.aa o.Data client s.count o.aN).2.1),vN,vI 0,vI (-1),vI 0,vI 0] U (fun _=>⟨(G,Obj.cells #[vS ((bY s.an o.aa o.Data client s.count o.aN).2.1),vN,vI 0,vI (-1),vI 0,vI 0] 56 (0,0)),by simp,rfl⟩) fun h1 e5=>Op.sg 137 7 44 0 6 #[vS ((bY s.an o.aa o.Data client s.count o.aN).2.1),.func (.func 57) #[vP u] #[]] e5 (fun _=>⟨(O,Obj.cells lG 137 (0,0)),by simp,rfl⟩) fun h2 e6=>Op.pg 11 [(8,vI ((bY s.an o.aa o.Data client s.count o.aN).2.2))] ?_
   have e7:=aF.zero 5 bn g none
   obtain⟨e8,e9,bk⟩:=St.bl (Q:=bB g u (⟨(bY s.an o.aa o.Data client s.count o.aN).1,s.aD,s.az,s.ax,s.count,s.events,s.aI⟩:Sp)) 6 (e6.nl.fs [6,6,6,6,5,6] rfl) ⟨_,_,_,_,_,_,_,_,_,_,rfl,dg,db,dc,dd,df⟩
   exact At.rn f63 [.agg #[vS ((bY s.an o.aa o.Data client s.count o.aN).2.1),vN,vI 0,vI (-1),vI 0,vI 0],.agg #[vS ((bY s.an o.aa o.Data client s.count o.aN).2.1),.func (.func 57) #[vP u] #[]],vI ((bY s.an o.aa o.Data client s.count o.aN).2.2)] [.cell 6 56,.cell 7 137,.tmp 8] ⟨⟨_,_,rfl,dB (n:=6) (by kernel_rfl) (bk.ag 3 rfl) (by kernel_rfl) rfl⟩,⟨_,_,rfl,dB (n:=2) (by kernel_rfl) (bk.ag 2 rfl) (by kernel_rfl) rfl⟩,rfl,trivial⟩<|hR (bk.fs [1,1,5,5,5,5] rfl).drop.drop.drop.drop ⟨vN,[],((bY s.an o.aa o.Data client s.count o.aN).2.1),57,#[vP u],#[],e8,j4 (by(simp[cc,bE,cK,cH,dU,dS,ec, *];done)) (by(simp[cc,bE,cK,cH,dU,dS,ec, *];done)) (bp (by(simp[cc,bE,cK,cH,dU,dS,ec, *];done))),dZ e7 (by(simp[cc,bE,cK,cH,dU,dS,ec, *];done)),(by(simp[cc,bE,cK,cH,dU,dS,ec, *];done)),(by(rw[Aq ‹_›];exact(.inl ⟨rfl,rfl,rfl,rfl⟩))),e9.eq (by(simp[cc,bE,cK,cH,dU,dS,ec, *];done)),rfl⟩
  obtain⟨dj,fa,h3,fg,h4,fi,h5,fj,h6,fl,fp,fr,dk,dl,dp,dq⟩:=a7
  have Y:=St.un [fa,fg,fi,fj,fl] fp (ad.fs [3,3,3,3,4] rfl)
  refine At.dw (fun _=>False) [(4,true),(6,true),(8,true),(13,true),(0,true),(1,true),(2,true),(3,true),(5,true),(7,true),(9,true),(10,true),(11,true),(12,true),(14,false),(1015,false),(15,false),(16,true),(17,true),(18,true),(19,true),(20,false),(21,true)]<|Op.px 4 [(24,vQ I 1),(26,vQ I 2),(28,vI (-1)),(33,vQ I 6)]<|Op.lf 26 3 0 20 1 (vP u) id (Y.ag 9 rfl)<|Op.px 2 [(22,vP u)]<|Op.lf 70 22 0 23 1 (vP dj) id (Y.ag 0 rfl) ?_
  refine Op.lf 9 24 1 25 1 (vS o.aa) id (Y.ag 8 rfl)<|Op.lf 28 26 2 27 1 (vL a9 o.Data.length bb) id (Y.ag 8 rfl)<|Op.lf 26 3 0 29 1 (vP u) id (Y.ag 9 rfl)<|Op.px 2 [(31,vQ u 4)]<|Op.lf 3 31 4 32 1 (vI s.count) id (Y.ag 0 rfl) ?_
  refine Op.l1 4 33 34 6 (.bool o.aN) (Y.ag 8 rfl)<|Op.ba ?_
  have bm:=Y.fs [1] rfl
  refine Op.cl (some 35) 1 bm (IY _ _ _ bm.sub a4 dj s.an _ fr o.aa _ _ a8 (-1) s.count o.aN hP (by(try dsimp only)<;>exact a5.tree) (by(try dsimp only)<;>omega) (by(try dsimp only)<;>omega) (St.pt 1 bm)) ?_
  rintro _ ft _ h7 fv fw ⟨h8,rfl,du,bc,rfl⟩;subst ft;clear fv
  refine Op.px 4 [(36,vS ((bY s.an o.aa o.Data (-1) s.count o.aN).2.1)),(37,vI ((bY s.an o.aa o.Data (-1) s.count o.aN).2.2)),(38,vP G)]<|Op.s1 9 38 36 0 (vS ((bY s.an o.aa o.Data (-1) s.count o.aN).2.1)) 7 #[vS ((bY s.an o.aa o.Data (-1) s.count o.aN).2.1),vN,vI 0,vI (-1),vI 0,vI 0] fw zt fun h9 V=>Op.pg 10 [(8,vI ((bY s.an o.aa o.Data (-1) s.count o.aN).2.2))]<|At.gb (by kernel_rfl) (aM [[(G,Obj.cells #[vS ((bY s.an o.aa o.Data (-1) s.count o.aN).2.1),vN,vI 0,vI (-1),vI 0,vI 0] 56 (0,0))],[(O,Obj.cells lG 137 (0,0))]]) [(1,true),(6,true),(3,true),(4,true)] [(0,false),(2,false),(5,true),(7,false),(8,false),(9,true)] [(2,false),(5,true),(0,false),(7,false),(8,false),(9,true)] (by kernel_rfl) ?_ ?_
  ·show Op _ _ _ _ _ [(1,true),(6,true),(3,true),(4,true),(0,false),(2,false),(5,true),(7,false),(8,false),(9,true)] _ _
   refine Op.px 2 [(40,vP G),(45,vI ((bY s.an o.aa o.Data (-1) s.count o.aN).2.2))]<|Op.lf 26 3 0 42 1 (vP u) (V.dF 9 [7,6] rfl rfl rfl) (V.ag 9 rfl)<|Op.px 1 [(43,.func (.func 57) #[vP u] #[])]<|Op.la 56 6 39 0 6 [vS ((bY s.an o.aa o.Data (-1) s.count o.aN).2.1),vN,vI 0,vI (-1),vI 0,vI 0] (V.ag 7 rfl)<|Op.l1 9 40 41 0 (vS ((bY s.an o.aa o.Data (-1) s.count o.aN).2.1)) (V.ag 7 rfl) ?_
   refine Op.px 1 [(44,.agg #[vS ((bY s.an o.aa o.Data (-1) s.count o.aN).2.1),.func (.func 57) #[vP u] #[]])]<|Op.sg 56 6 39 0 7 #[vS ((bY s.an o.aa o.Data (-1) s.count o.aN).2.1),vN,vI 0,vI (-1),vI 0,vI 0] V (fun _=>⟨(G,Obj.cells #[vS ((bY s.an o.aa o.Data (-1) s.count o.aN).2.1),vN,vI 0,vI (-1),vI 0,vI 0] 56 (0,0)),by simp,rfl⟩) fun ib fx=>Op.sg 137 7 44 0 6 #[vS ((bY s.an o.aa o.Data (-1) s.count o.aN).2.1),.func (.func 57) #[vP u] #[]] fx (fun _=>⟨(O,Obj.cells lG 137 (0,0)),by simp,rfl⟩) fun ih f1=>Op.pg 11 [(8,vI ((bY s.an o.aa o.Data (-1) s.count o.aN).2.2))] ?_
   have f2:=aF.zero 5 bn g none
   obtain⟨f3,f4,bo⟩:=St.bl (Q:=bB g u (⟨(bY s.an o.aa o.Data (-1) s.count o.aN).1,s.aD,s.az,s.ax,s.count,s.events,s.aI⟩:Sp)) 6 (f1.nl.fs [6,6,6,6,5,6] rfl) ⟨_,_,_,_,_,_,_,_,_,_,rfl,du,dk,dl,dp,dq⟩
   exact At.rn f63 [.agg #[vS ((bY s.an o.aa o.Data (-1) s.count o.aN).2.1),vN,vI 0,vI (-1),vI 0,vI 0],.agg #[vS ((bY s.an o.aa o.Data (-1) s.count o.aN).2.1),.func (.func 57) #[vP u] #[]],vI ((bY s.an o.aa o.Data (-1) s.count o.aN).2.2)] [.cell 6 56,.cell 7 137,.tmp 8] ⟨⟨_,_,rfl,dB (n:=6) (by kernel_rfl) (bo.ag 3 rfl) (by kernel_rfl) rfl⟩,⟨_,_,rfl,dB (n:=2) (by kernel_rfl) (bo.ag 2 rfl) (by kernel_rfl) rfl⟩,rfl,trivial⟩<|hR (bo.fs [1,1,5,5,5,5] rfl).drop.drop.drop.drop ⟨vN,[],((bY s.an o.aa o.Data (-1) s.count o.aN).2.1),57,#[vP u],#[],f3,j4 (by(simp[cc,bE,cK,cH,dU,dS,ec, *];done)) (by(simp[cc,bE,cK,cH,dU,dS,ec, *];done)) (bp (by(simp[cc,bE,cK,cH,dU,dS,ec, *];done))),dZ f2 (by(simp[cc,bE,cK,cH,dU,dS,ec, *];done)),(by(simp[cc,bE,cK,cH,dU,dS,ec, *];done)),(by(rw[Aq ‹_›];exact(.inl ⟨rfl,rfl,rfl,rfl⟩))),f4.eq (by(simp[cc,bE,cK,cH,dU,dS,ec, *];done)),rfl⟩
  show Op _ _ _ _ _ [(1,true),(6,true),(3,true),(4,true),(2,false),(5,true),(0,false),(7,false),(8,false),(9,true)] _ _
  refine Op.px 2 [(40,vP G),(45,vI ((bY s.an o.aa o.Data (-1) s.count o.aN).2.2))]<|Op.lf 26 3 0 42 1 (vP u) (V.dF 9 [7,6] rfl rfl rfl) (V.ag 9 rfl)<|Op.px 1 [(43,.func (.func 57) #[vP u] #[])]<|Op.l1 9 40 41 0 (vS ((bY s.an o.aa o.Data (-1) s.count o.aN).2.1)) (V.ag 7 rfl)<|Op.px 1 [(44,.agg #[vS ((bY s.an o.aa o.Data (-1) s.count o.aN).2.1),.func (.func 57) #[vP u] #[]])] ?_
  refine Op.la 56 6 39 0 6 [vS ((bY s.an o.aa o.Data (-1) s.count o.aN).2.1),vN,vI 0,vI (-1),vI 0,vI 0] (V.ag 7 rfl)<|Op.sg 56 6 39 0 7 #[vS ((bY s.an o.aa o.Data (-1) s.count o.aN).2.1),vN,vI 0,vI (-1),vI 0,vI 0] V (fun _=>⟨(G,Obj.cells #[vS ((bY s.an o.aa o.Data (-1) s.count o.aN).2.1),vN,vI 0,vI (-1),vI 0,vI 0] 56 (0,0)),by simp,rfl⟩) fun ii f5=>Op.sg 137 7 44 0 6 #[vS ((bY s.an o.aa o.Data (-1) s.count o.aN).2.1),.func (.func 57) #[vP u] #[]] f5 (fun _=>⟨(O,Obj.cells lG 137 (0,0)),by simp,rfl⟩) fun ik f6=>Op.pg 11 [(8,vI ((bY s.an o.aa o.Data (-1) s.count o.aN).2.2))] ?_
  have f7:=aF.zero 5 bn g none
  obtain⟨f8,f9,bs⟩:=St.bl (Q:=bB g u (⟨(bY s.an o.aa o.Data (-1) s.count o.aN).1,s.aD,s.az,s.ax,s.count,s.events,s.aI⟩:Sp)) 6 (f6.nl.fs [6,6,6,6,5,6] rfl) ⟨_,_,_,_,_,_,_,_,_,_,rfl,du,dk,dl,dp,dq⟩
  exact At.rn f63 [.agg #[vS ((bY s.an o.aa o.Data (-1) s.count o.aN).2.1),vN,vI 0,vI (-1),vI 0,vI 0],.agg #[vS ((bY s.an o.aa o.Data (-1) s.count o.aN).2.1),.func (.func 57) #[vP u] #[]],vI ((bY s.an o.aa o.Data (-1) s.count o.aN).2.2)] [.cell 6 56,.cell 7 137,.tmp 8] ⟨⟨_,_,rfl,dB (n:=6) (by kernel_rfl) (bs.ag 3 rfl) (by kernel_rfl) rfl⟩,⟨_,_,rfl,dB (n:=2) (by kernel_rfl) (bs.ag 2 rfl) (by kernel_rfl) rfl⟩,rfl,trivial⟩<|hR (bs.fs [1,1,5,5,5,5] rfl).drop.drop.drop.drop ⟨vN,[],((bY s.an o.aa o.Data (-1) s.count o.aN).2.1),57,#[vP u],#[],f8,j4 (by(simp[cc,bE,cK,cH,dU,dS,ec, *];done)) (by(simp[cc,bE,cK,cH,dU,dS,ec, *];done)) (bp (by(simp[cc,bE,cK,cH,dU,dS,ec, *];done))),dZ f7 (by(simp[cc,bE,cK,cH,dU,dS,ec, *];done)),(by(simp[cc,bE,cK,cH,dU,dS,ec, *];done)),(by(rw[Aq ‹_›];exact(.inl ⟨rfl,rfl,rfl,rfl⟩))),f9.eq (by(simp[cc,bE,cK,cH,dU,dS,ec, *];done)),rfl⟩
 refine At.go 13 2 [(46,.bool (o.Kind==4))]<|At.fd (o.Kind=4) 46 14 16 (fun il=>?_) fun io=>?_
 ·obtain⟨bd,dv,ip,dC,is,dE,iv,dT,i0,d0,gc,d1,d2,d3,d4,d5⟩:=a7
  have D:=St.un [dv,dC,dE,dT,d0] gc (ad.fs [3,3,3,3,4] rfl)
  refine At.gb (by kernel_rfl) (aM [dv,dC,dE,dT,d0,[(G,Obj.cells n8 56 (0,0))],[(O,Obj.cells lG 137 (0,0))]]) [(1,true),(10,true),(12,true),(2,true),(3,true),(4,true),(5,true),(6,true),(7,true),(8,true),(9,true),(11,true),(13,true)] [(0,false),(14,false),(15,false),(16,false),(17,true)] [(14,false),(0,false),(15,false),(16,false),(17,true)] (by kernel_rfl) ?_ ?_
  ·show Op _ _ _ _ _ [(1,true),(10,true),(12,true),(2,true),(3,true),(4,true),(5,true),(6,true),(7,true),(8,true),(9,true),(11,true),(13,true),(0,false),(14,false),(15,false),(16,false),(17,true)] _ _
   refine Op.px 3 [(49,vQ I 1),(58,vQ I 1),(60,vQ I 3)]<|Op.lf 9 49 1 50 1 (vS o.aa) (D.dF 8 [1,2,3,4,5,7,6] rfl rfl rfl) (D.ag 8 rfl)<|Op.lf 26 3 0 51 1 (vP u) (D.dF 9 [1,2,3,4,5,7,6] rfl rfl rfl) (D.ag 9 rfl)<|Op.px 2 [(53,.agg #[vS o.aa,.func (.func 57) #[vP u] #[]])]<|Op.lf 26 3 0 54 1 (vP u) (D.dF 9 [1,2,3,4,5,7,6] rfl rfl rfl) (D.ag 9 rfl) ?_
   refine Op.px 2 [(56,vP u)]<|Op.lf 70 56 0 57 1 (vP bd) (D.dF 0 [1,2,3,4,5,7,6] rfl rfl rfl) (D.ag 0 rfl)<|Op.lf 9 58 1 59 1 (vS o.aa) (D.dF 8 [1,2,3,4,5,7,6] rfl rfl rfl) (D.ag 8 rfl)<|Op.lf 3 60 3 61 1 (vI o.ak) (D.dF 8 [1,2,3,4,5,7,6] rfl rfl rfl) (D.ag 8 rfl)<|Op.la 56 6 48 0 6 [vS [],vN,vI 0,vI (-1),vI 0,vI 0] (D.ag 7 rfl) ?_
   have bt:=D.fs [1] rfl
   refine Op.cl (some 62) 1 bt (C4 _ _ _ bt.sub a4 bd s.an _ d1 o.aa o.ak (by(try dsimp only)<;>exact a5.tree) (by(try dsimp only)<;>omega) (St.pt 1 bt)) ?_ (hM:=(fun _ _ h=>oD (by simp) h))
   rintro _ ge _ i1 gg gk ⟨i2,rfl,gn,bc,rfl⟩;subst ge;clear gg
   refine Op.sg 56 6 48 0 7 n8 gk (fun _=>⟨(G,Obj.cells n8 56 (0,0)),by simp,rfl⟩) fun i3 gs=>Op.sg 137 7 53 0 6 #[vS o.aa,.func (.func 57) #[vP u] #[]] gs (fun _=>⟨(O,Obj.cells lG 137 (0,0)),by simp,rfl⟩) fun i4 g1=>Op.pg 11 [(8,vI ((fL s.an o.aa o.ak).2))] ?_
   have g2:=aF.zero 5 bn g none
   obtain⟨g3,g4,b3⟩:=St.bl (Q:=bB g u (⟨(fL s.an o.aa o.ak).1,s.aD,s.az,s.ax,s.count,s.events,s.aI⟩:Sp)) 6 (g1.nl.fs [6,6,6,6,5,6] rfl) ⟨_,_,_,_,_,_,_,_,_,_,rfl,gn,d2,d3,d4,d5⟩
   exact At.rn f63 [.agg n8,.agg #[vS o.aa,.func (.func 57) #[vP u] #[]],vI ((fL s.an o.aa o.ak).2)] [.cell 6 56,.cell 7 137,.tmp 8] ⟨⟨_,_,rfl,dB (n:=6) (by kernel_rfl) (b3.ag 3 rfl) (by kernel_rfl) rfl⟩,⟨_,_,rfl,dB (n:=2) (by kernel_rfl) (b3.ag 2 rfl) (by kernel_rfl) rfl⟩,rfl,trivial⟩<|hR (b3.fs [1,1,5,5,5,5] rfl).drop.drop.drop.drop ⟨vN,[],o.aa,57,#[vP u],#[],g3,j4 (by(simp[cc,bE,cK,cH,dU,dS,ec, *];done)) (by(simp[cc,bE,cK,cH,dU,dS,ec, *];done)) (bp (by(simp[cc,bE,cK,cH,dU,dS,ec, *];done))),dZ g2 (by(simp[cc,bE,cK,cH,dU,dS,ec, *];done)),(by(simp[cc,bE,cK,cH,dU,dS,ec, *];done)),(by(rw[J1 ‹_› ‹_›];exact(.inl ⟨rfl,rfl,rfl,rfl⟩))),g4.eq (by(unfold cH dU;simp[*];done)),rfl⟩
  show Op _ _ _ _ _ [(1,true),(10,true),(12,true),(2,true),(3,true),(4,true),(5,true),(6,true),(7,true),(8,true),(9,true),(11,true),(13,true),(14,false),(0,false),(15,false),(16,false),(17,true)] _ _
  refine Op.px 3 [(49,vQ I 1),(58,vQ I 1),(60,vQ I 3)]<|Op.lf 9 49 1 50 1 (vS o.aa) (D.dF 8 [1,2,3,4,5,7,6] rfl rfl rfl) (D.ag 8 rfl)<|Op.lf 26 3 0 51 1 (vP u) (D.dF 9 [1,2,3,4,5,7,6] rfl rfl rfl) (D.ag 9 rfl)<|Op.px 2 [(53,.agg #[vS o.aa,.func (.func 57) #[vP u] #[]])]<|Op.lf 26 3 0 54 1 (vP u) (D.dF 9 [1,2,3,4,5,7,6] rfl rfl rfl) (D.ag 9 rfl) ?_
  refine Op.px 2 [(56,vP u)]<|Op.lf 70 56 0 57 1 (vP bd) (D.dF 0 [1,2,3,4,5,7,6] rfl rfl rfl) (D.ag 0 rfl)<|Op.lf 9 58 1 59 1 (vS o.aa) (D.dF 8 [1,2,3,4,5,7,6] rfl rfl rfl) (D.ag 8 rfl)<|Op.lf 3 60 3 61 1 (vI o.ak) (D.dF 8 [1,2,3,4,5,7,6] rfl rfl rfl) (D.ag 8 rfl) ?_
  have b4:=D.fs [1] rfl
  refine Op.cl (some 62) 1 b4 (C4 _ _ _ b4.sub a4 bd s.an _ d1 o.aa o.ak (by(try dsimp only)<;>exact a5.tree) (by(try dsimp only)<;>omega) (St.pt 1 b4)) ?_ (hM:=(fun _ _ h=>oD (by simp) h))
  rintro _ g5 _ i5 g6 d6 ⟨i6,rfl,g7,bc,rfl⟩;subst g5;clear g6
  refine Op.la 56 6 48 0 6 [vS [],vN,vI 0,vI (-1),vI 0,vI 0] (d6.ag 7 rfl)<|Op.sg 56 6 48 0 7 n8 d6 (fun _=>⟨(G,Obj.cells n8 56 (0,0)),by simp,rfl⟩) fun i7 g8=>Op.sg 137 7 53 0 6 #[vS o.aa,.func (.func 57) #[vP u] #[]] g8 (fun _=>⟨(O,Obj.cells lG 137 (0,0)),by simp,rfl⟩) fun i8 g9=>Op.pg 11 [(8,vI ((fL s.an o.aa o.ak).2))] ?_
  have ha:=aF.zero 5 bn g none
  obtain⟨hb,he,b5⟩:=St.bl (Q:=bB g u (⟨(fL s.an o.aa o.ak).1,s.aD,s.az,s.ax,s.count,s.events,s.aI⟩:Sp)) 6 (g9.nl.fs [6,6,6,6,5,6] rfl) ⟨_,_,_,_,_,_,_,_,_,_,rfl,g7,d2,d3,d4,d5⟩
  exact At.rn f63 [.agg n8,.agg #[vS o.aa,.func (.func 57) #[vP u] #[]],vI ((fL s.an o.aa o.ak).2)] [.cell 6 56,.cell 7 137,.tmp 8] ⟨⟨_,_,rfl,dB (n:=6) (by kernel_rfl) (b5.ag 3 rfl) (by kernel_rfl) rfl⟩,⟨_,_,rfl,dB (n:=2) (by kernel_rfl) (b5.ag 2 rfl) (by kernel_rfl) rfl⟩,rfl,trivial⟩<|hR (b5.fs [1,1,5,5,5,5] rfl).drop.drop.drop.drop ⟨vN,[],o.aa,57,#[vP u],#[],hb,j4 (by(simp[cc,bE,cK,cH,dU,dS,ec, *];done)) (by(simp[cc,bE,cK,cH,dU,dS,ec, *];done)) (bp (by(simp[cc,bE,cK,cH,dU,dS,ec, *];done))),dZ ha (by(simp[cc,bE,cK,cH,dU,dS,ec, *];done)),(by(simp[cc,bE,cK,cH,dU,dS,ec, *];done)),(by(rw[J1 ‹_› ‹_›];exact(.inl ⟨rfl,rfl,rfl,rfl⟩))),he.eq (by(unfold cH dU;simp[*];done)),rfl⟩
 obtain⟨d7,hf,i9,b6,jf,b8,jj,ca,jn,cb,hh,hj,ae,am,ar,aw⟩:=a7
 have a0:=St.un [hf,b6,b8,ca,cb] hh (ad.fs [3,3,3,3,4] rfl)
 refine At.dw (fun _=>False) [(4,true),(6,true),(8,true),(0,true),(1,true),(2,true),(3,true),(5,true),(7,true),(9,false),(1010,false),(10,false),(11,true),(12,true),(13,true),(14,true),(15,true)]<|Op.px 3 [(68,vQ I 1),(70,vQ I 2),(72,vQ I 3)]<|Op.lf 26 3 0 64 1 (vP u) id (a0.ag 9 rfl)<|Op.px 2 [(66,vP u)]<|Op.lf 70 66 0 67 1 (vP d7) id (a0.ag 0 rfl) ?_
 refine Op.lf 9 68 1 69 1 (vS o.aa) id (a0.ag 8 rfl)<|Op.lf 28 70 2 71 1 (vL a9 o.Data.length bb) id (a0.ag 8 rfl)<|Op.l1 3 72 73 3 (vI o.ak) (a0.ag 8 rfl)<|Op.ba ?_
 have ce:=a0.fs [1] rfl
 refine Op.cl (some 74) 1 ce (Qt _ _ _ ce.sub a4 d7 s.an _ hj o.aa _ _ a8 o.ak (by(try dsimp only)<;>exact a5.tree) (by(try dsimp only)<;>omega) (by(try dsimp only)<;>omega) (St.pt 1 ce)) ?_
 rintro _ hl _ js hm a1 ⟨d8,rfl,a3,bc,rfl⟩;subst hl;clear hm
 refine Op.pg 17 [(8,vI ((eP s.an o.aa o.Data o.ak).2.2)),(10,vI ((eP s.an o.aa o.Data o.ak).2.1))]<|At.go 18 2 [(78,.bool (((eP s.an o.aa o.Data o.ak).2.2)==0))]<|At.fd (((eP s.an o.aa o.Data o.ak).2.2)=0) 78 19 20 (fun jt=>?_) fun j1=>?_
 ·refine At.rp 7 1 [(79,vQ I 1)]<|Op.l1 9 79 80 1 (vS o.aa) (a1.ag 8 rfl)<|Op.px 2 [(81,vI ((eP s.an o.aa o.Data o.ak).2.1)),(82,vP G)]<|Op.s1 9 82 80 0 (vS o.aa) 7 #[vS o.aa,vN,vI 0,vI (-1),vI 0,vI 0] a1 zt fun j2 hn=>Op.px 1 [(83,vQ G 2)] ?_
  refine Op.s1 3 83 81 2 (vI ((eP s.an o.aa o.Data o.ak).2.1)) 7 #[vS o.aa,vN,vI ((eP s.an o.aa o.Data o.ak).2.1),vI (-1),vI 0,vI 0] hn zt fun kc be=>Op.gt 20<|At.dw (aM [d8,b6,b8,ca,cb,[(G,Obj.cells #[vS o.aa,vN,vI ((eP s.an o.aa o.Data o.ak).2.1),vI (-1),vI 0,vI 0] 56 (0,0))],[(O,Obj.cells lG 137 (0,0))]]) [(1,true),(3,true),(5,true),(2,true),(4,true),(0,false),(6,false),(7,false),(8,true)]<|Op.px 3 [(85,vQ I 1),(87,.func (.func 105) #[] #[vP J]),(89,vI ((eP s.an o.aa o.Data o.ak).2.2))]<|Op.lf 9 85 1 86 1 (vS o.aa) (be.dF 8 [0,2,3,4,5,7,6] rfl rfl rfl) (be.ag 8 rfl) ?_
  refine Op.px 1 [(88,.agg #[vS o.aa,.func (.func 105) #[] #[vP J]])]<|Op.la 56 6 84 0 6 [vS o.aa,vN,vI ((eP s.an o.aa o.Data o.ak).2.1),vI (-1),vI 0,vI 0] (be.ag 7 rfl)<|Op.sg 56 6 84 0 7 #[vS o.aa,vN,vI ((eP s.an o.aa o.Data o.ak).2.1),vI (-1),vI 0,vI 0] be (fun _=>⟨(G,Obj.cells #[vS o.aa,vN,vI ((eP s.an o.aa o.Data o.ak).2.1),vI (-1),vI 0,vI 0] 56 (0,0)),by simp,rfl⟩) fun kd ho=>Op.sg 137 7 88 0 6 #[vS o.aa,.func (.func 105) #[] #[vP J]] ho (fun _=>⟨(O,Obj.cells lG 137 (0,0)),by simp,rfl⟩) fun kh hq=>Op.pg 21 [(8,vI ((eP s.an o.aa o.Data o.ak).2.2))] ?_
  have cf:=aF.zero 5 bn g none
  obtain⟨d9,Z⟩:=St.freeze (hq.nl.fs [10] rfl)
  have ea:=iQ (g:=g) J (.cells #[vP u] 26 (0,0))
  generalize hr:cQ g _=hu at d9 Z ea;clear hr
  replace ae:=ae.mono Z
  replace am:=am.mono Z
  replace ar:=ar.mono Z
  replace aw:=aw.mono Z
  replace cf:=cf.mono Z
  replace a3:=a3.mono Z
  obtain⟨hw,hx,ch⟩:=St.bl (Q:=bB hu u (⟨(eP s.an o.aa o.Data o.ak).1,s.aD,s.az,s.ax,s.count,s.events,s.aI⟩:Sp)) 6 (d9.fs [6,6,6,6,5,6] rfl) ⟨_,_,_,_,_,_,_,_,_,_,rfl,a3,ae,am,ar,aw⟩
  exact At.rn f63 [.agg #[vS o.aa,vN,vI ((eP s.an o.aa o.Data o.ak).2.1),vI (-1),vI 0,vI 0],.agg #[vS o.aa,.func (.func 105) #[] #[vP J]],vI ((eP s.an o.aa o.Data o.ak).2.2)] [.cell 6 56,.cell 7 137,.tmp 8] ⟨⟨_,_,rfl,dB (n:=6) (by kernel_rfl) (ch.ag 3 rfl) (by kernel_rfl) rfl⟩,⟨_,_,rfl,dB (n:=2) (by kernel_rfl) (ch.ag 2 rfl) (by kernel_rfl) rfl⟩,rfl,trivial⟩<|hR (ch.fs [1,1,4,4,4] rfl).drop.drop.drop ⟨vN,[],o.aa,105,#[],#[vP J],hw,j4 (by(simp[cc,bE,cK,cH,dU,dS,ec, *];done)) (by(simp[cc,bE,cK,cH,dU,dS,ec, *];done)) (bp (by(simp[cc,bE,cK,cH,dU,dS,ec, *];done))),dZ cf (by(simp[cc,bE,cK,cH,dU,dS,ec, *];done)),(by(simp[cc,bE,cK,cH,dU,dS,ec, *];done)),(by(rw[J2 ‹_› ‹_›];exact(.inr ⟨rfl,rfl,rfl,J,rfl,ea⟩))),hx.eq (by(unfold cH dU;simp[*];done)),rfl⟩
 refine At.dw (aM [d8,b6,b8,ca,cb,[(G,Obj.cells n8 56 (0,0))],[(O,Obj.cells lG 137 (0,0))]]) [(1,true),(3,true),(5,true),(2,true),(4,true),(0,false),(6,false),(7,false),(8,true)]<|Op.px 3 [(85,vQ I 1),(87,.func (.func 105) #[] #[vP J]),(89,vI ((eP s.an o.aa o.Data o.ak).2.2))]<|Op.lf 9 85 1 86 1 (vS o.aa) (a1.dF 8 [0,2,3,4,5,7,6] rfl rfl rfl) (a1.ag 8 rfl)<|Op.px 1 [(88,.agg #[vS o.aa,.func (.func 105) #[] #[vP J]])]<|Op.la 56 6 84 0 6 [vS [],vN,vI 0,vI (-1),vI 0,vI 0] (a1.ag 7 rfl) ?_
 refine Op.sg 56 6 84 0 7 n8 a1 (fun _=>⟨(G,Obj.cells n8 56 (0,0)),by simp,rfl⟩) fun kk hy=>Op.sg 137 7 88 0 6 #[vS o.aa,.func (.func 105) #[] #[vP J]] hy (fun _=>⟨(O,Obj.cells lG 137 (0,0)),by simp,rfl⟩) fun kl hz=>Op.pg 21 [(8,vI ((eP s.an o.aa o.Data o.ak).2.2))] ?_
 have ci:=aF.zero 5 bn g none
 obtain⟨eb,ab⟩:=St.freeze (hz.nl.fs [10] rfl)
 have ed:=iQ (g:=g) J (.cells #[vP u] 26 (0,0))
 generalize hA:cQ g _=hB at eb ab ed;clear hA
 replace ae:=ae.mono ab
 replace am:=am.mono ab
 replace ar:=ar.mono ab
 replace aw:=aw.mono ab
 replace ci:=ci.mono ab
 replace a3:=a3.mono ab
 obtain⟨hC,hD,ck⟩:=St.bl (Q:=bB hB u (⟨(eP s.an o.aa o.Data o.ak).1,s.aD,s.az,s.ax,s.count,s.events,s.aI⟩:Sp)) 6 (eb.fs [6,6,6,6,5,6] rfl) ⟨_,_,_,_,_,_,_,_,_,_,rfl,a3,ae,am,ar,aw⟩
 exact At.rn f63 [.agg n8,.agg #[vS o.aa,.func (.func 105) #[] #[vP J]],vI ((eP s.an o.aa o.Data o.ak).2.2)] [.cell 6 56,.cell 7 137,.tmp 8] ⟨⟨_,_,rfl,dB (n:=6) (by kernel_rfl) (ck.ag 3 rfl) (by kernel_rfl) rfl⟩,⟨_,_,rfl,dB (n:=2) (by kernel_rfl) (ck.ag 2 rfl) (by kernel_rfl) rfl⟩,rfl,trivial⟩<|hR (ck.fs [1,1,4,4,4] rfl).drop.drop.drop ⟨vN,[],o.aa,105,#[],#[vP J],hC,j4 (by(simp[cc,bE,cK,cH,dU,dS,ec, *];done)) (by(simp[cc,bE,cK,cH,dU,dS,ec, *];done)) (bp (by(simp[cc,bE,cK,cH,dU,dS,ec, *];done))),dZ ci (by(simp[cc,bE,cK,cH,dU,dS,ec, *];done)),(by(simp[cc,bE,cK,cH,dU,dS,ec, *];done)),(by(rw[J2 ‹_› ‹_›];exact(.inr ⟨rfl,rfl,rfl,J,rfl,ed⟩))),hD.eq (by(unfold cH dU;simp[*];done)),rfl⟩
structure Mu where
  sp:Sp
  list:List iz
  iW:List aQ
def iL (b:Nat) (client:Int) (m:Mu) (o:aC):Mu:=
  ⟨cH m.sp client o,m.list++[⟨cK m.sp client o,iY o,b⟩],m.iW++[if o.Kind=3 then (bE m.sp client o).aa else []]⟩
def oR (b:Nat) (client:Int) (s:Sp) (ops:List aC) (i:Int) (m:Mu):Prop:=
  m=(ops.take i.toNat).foldl (iL b client) ⟨s,[],[]⟩∧∀k:Nat,(k:Int)<i→∀o,ops[k]?=some o→cc ((ops.take k).foldl (iL b client) ⟨s,[],[]⟩).sp client o=0
section
variable {ns:List af} {l:af} {p data:aQ} {cj born bA:Int} {num:Bool}
theorem fM.put (H:fM ns) (hn:(fD ns l.aa).length<1000) (hl:l.aa.length≤64∧l.Data.length≤128∧ -9223372036854775808≤l.Next∧l.Next≤9223372036854775807):fM (d_ ns l):=by
  have hp:=pL ns l
  refine⟨by rw[hp.length_eq,bL];omega,fun n hm=>?_⟩
  rcases fe.1 (hp.mem_iff.1 hm) with rfl|hm
  · exact hl
  · exact H.2 n (iH.1 hm).1
theorem Dt (ns:List af) (p:aQ):(fD ns p).length≤ns.length:=kG _ _
theorem Sn (h:l∈ns):(fD ns l.aa).length<ns.length:=by
  unfold fD
  refine List.length_filter_lt_length_iff_exists.2 ⟨l,h,?_⟩
  simp
theorem Sq (x:Int): -9223372036854775808≤IntKind.wrap .i64 x∧IntKind.wrap .i64 x≤9223372036854775807:=by
  have e:IntKind.wrap .i64 x=if (true&&decide (x % 18446744073709551616≥9223372036854775808))=true then x % 18446744073709551616-18446744073709551616 else x % 18446744073709551616:=rfl
  rw[e]
  by_cases h:x % 18446744073709551616≥9223372036854775808
  · rw[aL (by rw[lP,cB];exact h)];omega
  · rw[aB (by rw[lP,cB];exact h)];omega
theorem fM.set (H:fM ns):fM (eP ns p data bA).1:=by
  unfold eP
  split
  · exact H
  · split
    · exact H
    · rename_i l hf
      obtain⟨hm,rfl⟩:=jR hf
      repeat' split
      · exact H
      · exact H
      · rename_i hd
        have:=H.2 l hm
        refine H.put (l:={l with Data:=data,ak:=IntKind.wrap .i64 (l.ak+1)}) ?_ ⟨this.1,by simpa using hd,this.2.2⟩
        have h1:=Sn hm
        have h2:=H.1
        show(fD ns l.aa).length<1000
        omega
theorem fM.make (H:fM ns):fM (bY ns p data cj born num).1:=by
  unfold bY
  repeat' split
  all_goals first|exact H|skip
  rename_i h1 h2 _ up hf h3 h4 _ D h5
  obtain⟨hm,G⟩:=jR hf
  have hu:=H.2 up hm
  have hlen:ns.length<32:=by omega
  show fM (l_ ns up (ff up p num) data cj born num)
  unfold l_
  have hN:(ff up p num).length≤64:=by
    unfold ff
    split
    · exact Cf _ _
    · exact Cg (by simpa using h1)
  have hw:fM (d_ ns (if num=true then {up with Next:=IntKind.wrap .i64 (up.Next+1)} else up)):=by
    refine H.put (by have:=Dt ns (if num=true then {up with Next:=IntKind.wrap .i64 (up.Next+1)} else up).aa;omega) ?_
    split
    · exact⟨hu.1,hu.2.1,Sq _⟩
    · exact hu
  have u:(d_ ns (if num=true then {up with Next:=IntKind.wrap .i64 (up.Next+1)} else up)).length≤33:=by
    rw[(pL ns _).length_eq,bL]
    have:=Dt ns (if num=true then {up with Next:=IntKind.wrap .i64 (up.Next+1)} else up).aa
    omega
  refine hw.put (Ag (cr (Dt _ _) u) (by decide)) ⟨hN,by simpa using h2,by show(-9223372036854775808:Int)≤0;decide,by show(0:Int)≤9223372036854775807;decide⟩
end
theorem dH.oS {s:Sp} (H:dH s) (client:Int) (o:aC):dH (cH s client o):=by
  refine H.tr ?_
  unfold dU dS
  repeat' split
  all_goals first|exact H.tree.make|exact H.tree.drop _ _|exact H.tree.set
section
variable {b:Nat} {client i:Int} {s:Sp} {ops:List aC} {m:Mu} {o:aC}
theorem Sr:oR b client s ops 0 ⟨s,[],[]⟩:=⟨rfl,fun k h=>by omega⟩
theorem Du (H:oR b client s ops i m) (h0:0≤i) (ho:ops[i.toNat]?=some o) (he:cc m.sp client o=0):oR b client s ops (i+1) (iL b client m o):=by
  obtain⟨h1,h2⟩:=H
  refine⟨?_,fun k hk p hp=>?_⟩
  · rw[toNat_succ h0,fu ho,r_,←h1];rfl
  · by_cases hlt:(k:Int)<i
    · exact h2 k hlt p hp
    · obtain rfl:k=i.toNat:=by omega
      rw[hp] at ho
      rw[fT ho,←h1]
      exact he
end
def jJ (v:Int):Bool:=decide (0≤v)&&decide (v<1099511627776)
theorem Ss {v:Int} (h1:¬v<0) (h2:¬v≥1099511627776):false=!jJ v:=by unfold jJ;rw[eW (by omega),eW (by omega)];rfl
theorem Su {v:Int} (h1:v<0):true=!jJ v:=by unfold jJ;rw[fU (by omega)];rfl
theorem Sv {v:Int} (h1:v≥1099511627776):true=!jJ v:=by unfold jJ;rw[fU (p:=v<_) (by omega),uY];rfl
theorem Sx {v:Int} (h1:¬v<0):decide (v≥1099511627776)=!jJ v:=by
 by_cases h:v≥1099511627776
 ·rw[eW h,Sv h]
 ·rw[fU h,Ss h1 h]
theorem Sy (l:List Int):(!(l.any fun v=>!jJ v))=l.all jJ:=by
 induction l with
 |nil=>rfl
 |cons v l ih=>rw[wP,j5,←ih];cases jJ v<;>simp
theorem Sz (B:World) (h:av) (g:GH) (hg:bf g h) (G:bh g) (v:Int):
  aA prog B 70 #[vI v] h g [] (fun D g' L'=>D=.bool (!jJ v)∧g'=g∧L'=[]):=by
 refine aA.aq func70 fun R hR=>?_
 have u:=St.init hg
 refine At.go 1 1 []<|At.rp 7 3 [(5,.bool (decide (v<0)))]<|Op.wd (v<0) 5 (fun I=>?_) fun J=>?_
 ·exact Op.pr 2 2 vT (hR u ⟨(aS (by exact Su ‹_›)),rfl,rfl⟩)
 exact Op.pr 2 2 (.bool (decide (v≥1099511627776))) (hR u ⟨(aS (by exact Sx ‹_›)),rfl,rfl⟩)
theorem SA (B:World) (h:av) (g:GH) (hg:bf g h) (u:bh g) (D:Value) (list:List Int) (G:ay g 3 (eF .i64) D list) (hlen:list.length≤1000000000):
  aA prog B 32 #[D] h g [] (fun J g' L'=>J=.bool (list.all jJ)∧g'=g∧L'=[]):=by
 obtain⟨O,U,rfl⟩:=G.ai
 refine aA.aq func32 fun R hR=>?_
 have I:=St.init hg
 exact At.go 1 1 []<|At.rp 4 1 [(3,vL O list.length U)]<|Op.c1 4 (Jh _ _ _ I.sub u _ _ G 70 (fun v=>!jJ v) (ei.of (by kernel_rfl)) (fun B h g hg u v=>Sz B h g hg u v) (by(try dsimp only)<;>omega)) I fun X V=>Op.pr 2 2 (.bool (!(list.any (fun v=>!jJ v)))) (hR V ⟨(aS (by exact Sy _)),rfl,rfl⟩)
def sC (x:fV):Bool:=decide (0≤x.Client)&&(decide (x.Client<8)&&(decide (1≤x.bz)&&(decide (x.bz<1099511627776)&&decide ((x.Data.length:Int)≤65536))))
def sD (list:List fV) (i:Int):Prop:=(∀x∈list.take i.toNat,sC x=true)∧(list.take i.toNat).Pairwise fun a b=>a.Client<b.Client
def kr (list:List fV):Prop:=(∀x∈list,sC x=true)∧list.Pairwise fun a b=>a.Client<b.Client
instance (list:List fV):Decidable (kr list):=by unfold kr;infer_instance
def qP (list:List fV):List (Int×f_):=list.map fun x=>(x.Client,⟨x.bz,x.Data⟩)
section
variable {list:List fV} {i:Int} {x p:fV}
theorem xT (h1:¬x.Client<0) (h2:¬x.Client≥8) (h3:¬x.bz<1) (h4:¬x.bz≥1099511627776) (h5:¬(x.Data.length:Int)>65536):sC x=true:=by
  unfold sC
  simp only[bO,cB]
  omega
theorem dI (h:x.Client<0∨x.Client≥8∨x.bz<1∨x.bz≥1099511627776∨(x.Data.length:Int)>65536):¬sC x=true:=by
  unfold sC
  simp only[bO,cB]
  omega
theorem SB (list:List fV):sD list 0:=⟨fun s h=>by simp at h,by simp⟩
theorem Ar (H:sD list i) (h0:0≤i) (hs:list[i.toNat]?=some x) (hr:sC x=true) (hp:∀p,0<i→list[(i-1).toNat]?=some p→p.Client<x.Client):sD list (i+1):=by
  unfold sD at *
  rw[toNat_succ h0,fu hs]
  refine⟨fun q hq=>?_,?_⟩
  · rcases cU.1 hq with hq|hq
    · exact H.1 q hq
    · rw[gv.1 hq];exact hr
  · rw[qF]
    refine⟨H.2,by simp,fun a ha b hb=>?_⟩
    rw[gv.1 hb]
    obtain⟨j,hj⟩:=nh.1 ha
    rw[o7] at hj
    split at hj
    · rename_i hlt
      have G:=(dL.1 hs).1
      obtain⟨p,hp1⟩:∃p,list[(i-1).toNat]?=some p:=⟨_,kE (by omega)⟩
      have hps:=hp p (by omega) hp1
      by_cases he:j=(i-1).toNat
      · subst he;rw[hj] at hp1;rw[fT hp1];exact hps
      · have u:=H.2
        rw[oB] at u
        have l1:j<(list.take i.toNat).length:=by rw[dD];omega
        have D:(i-1).toNat<(list.take i.toNat).length:=by rw[dD];omega
        have:=u j (i-1).toNat l1 D (by omega)
        rw[uZ,uZ] at this
        have e1:=(dL.1 hj).2
        have e2:=(dL.1 hp1).2
        rw[e1,e2] at this
        omega
    · cases hj
theorem SC (H:sD list i) (h:¬i<(list.length:Int)):kr list:=by
  unfold sD at H
  rw[eR (by omega)] at H
  exact H
theorem dJ (hs:list[i.toNat]?=some x) (h:¬sC x=true):¬kr list:=fun H=>h (H.1 x (cL hs))
theorem n_ (h0:0<i) (hs:list[i.toNat]?=some x) (hp:list[(i-1).toNat]?=some p) (h:p.Client≥x.Client):¬kr list:=fun H=>by
  have u:=H.2
  rw[oB] at u
  obtain⟨l1,e1⟩:=dL.1 hp
  obtain⟨D,e2⟩:=dL.1 hs
  have:=u _ _ l1 D (by omega)
  rw[e1,e2] at this
  omega
theorem J4 (H:sD list (i+1)) (h0:0≤i) (hs:list[i.toNat]?=some x):b7 (qP (list.take i.toNat)) x.Client ⟨x.bz,x.Data⟩=qP (list.take (i+1).toNat):=by
  have h2:=H.2
  rw[toNat_succ h0,fu hs] at h2 ⊢
  rw[qF] at h2
  unfold qP
  rw[zI,gp]
  · rfl
  · intro q hq
    obtain⟨y,hy,rfl⟩:=cF.1 hq
    exact h2.2.2 y hy x (by simp)
theorem vu (h:¬kr list):false=decide (kr list):=(fU h).symm
theorem SD (h:kr list):true=decide (kr list):=(eW h).symm
end
theorem SE (B:World) (h:av) (g:GH) (hg:bf g h) (a5:bh g) (I:Nat) (s:Sp) (aw:au) (ca:bB g I s aw) (bk:Value) (list:List fV) (a0:ay g 103 ni bk list) (hr:s.aI=[]) (hl:list.length≤1000000) (hd:∀x∈list,x.Data.length≤1000000000) (hs:St h g (aM [aw]) g [aw] h):
  aA prog B 37 #[vP I,bk] h g [aw] (fun cb g' L'=>∃bm bo,cb=.bool (decide (kr list))∧(kr list→bm={s with aI:=qP list})∧bB g' I bm bo∧L'=[bo]):=by
 obtain⟨a8,am,rfl⟩:=a0.ai
 refine aA.aq func37 fun R hR=>At.go 1 1 []<|At.go 2 3 [(7,vL a8 list.length am),(8,vI (list.length:Int)),(9,vI 0)] ?_
 obtain⟨ce,bs,cf,bt,ch,b3,ci,b4,ae,ck,co,V,X,Y,Z,c3⟩:=ca
 have c4:∀(m:Nat) (U:GH) (ab:aG g U) (z:List (Int×f_)) (i:Int) (a9:au) (bb:av) (hm:list.length-i.toNat<m) (h0:0≤i) (h1:i≤list.length) (hI:sD list i) (hz:z=qP (list.take i.toNat)) (J:iK U ae z a9) (a6:St h g (aM [aw]) U [[(I,Obj.cells #[vP ce,vP cf,vP ch,vI s.ax,vI s.count,.map (some ci),.map (some ae)] 79 (0,0))],bs,bt,b3,b4,a9] bb),At (bS prog B 37 f37 R) [] 2 [(0,vP I),(1,vL a8 list.length am),(7,vL a8 list.length am),(8,vI (list.length:Int)),(9,vI i)] bb:=by
  intro m;induction m with
  |zero=>intros;omega
  |succ m b5=>
   intro U ab z i a9 bb hm h0 h1 hI hz J a6
   replace V:=V.mono ab
   replace X:=X.mono ab
   replace Y:=Y.mono ab
   replace Z:=Z.mono ab
   replace a5:=a5.mono ab
   replace a0:=a0.mono ab
   refine At.go 3 1 [(10,.bool (decide (i<(list.length:Int))))]<|At.fd (i<(list.length:Int)) 10 4 11 (fun e7=>?_) fun e8=>?_
   ·refine At.rp 6 1 [(11,vI i)] ?_
    obtain⟨D,u⟩:=cD list i
    obtain⟨a7,ar,e9,fa,c5,c6,bc⟩:=ay.br a0 _ u
    cases c5
    refine Op.iq 44 103 3 40 list.length am 7 9 12 a7 ar i ?_
    obtain⟨v53,bd,bc⟩:=bc
    obtain⟨a1,a3,rfl⟩:=bd.ai
    refine Op.la 103 12 13 (ar+i.toNat*3) 3 [vI D.Client,vI D.bz,vL a1 D.Data.length a3] (a6.sub _ _ c6) ?_ (hv:=bc)
    refine Op.al 6 103 #[vI 0,vI 0,vN] a6 fun O fg c8=>Op.px 1 [(5,vI i)]<|Op.sg 103 6 13 0 0 #[vI D.Client,vI D.bz,vL a1 D.Data.length a3] c8 zt fun fi G=>Op.gt 5<|At.dw (fun _=>False) [(0,true),(1,false),(2,true),(3,true),(4,true),(5,false),(6,true),(7,true),(8,true),(9,true),(10,false),(11,true),(12,true),(13,true),(14,true),(15,false),(16,true),(17,true),(18,true),(19,true),(20,false),(21,true),(22,true),(23,true),(24,true),(25,true),(26,true),(27,true),(28,true),(29,true),(30,true),(31,true),(32,true),(34,true),(33,true),(35,false),(36,true),(37,true),(38,true)] ?_
    refine Op.px 1 [(14,vP O)]<|Op.l1 3 14 15 0 (vI D.Client) (G.ag 0 rfl)<|Op.px 2 [(17,.bool (decide (D.Client<0)))]<|Op.wd (D.Client<0) 17 (fun fj=>?_) fun fl=>?_
    ·refine Op.pg 6 [(52,vT)]<|At.bX 52 7<|At.go 8 1 [(4,vF)] ?_
     obtain⟨c9,da,db⟩:=St.bl (Q:=bB U I (⟨s.an,s.aD,s.az,s.ax,s.count,s.events,z⟩:Sp)) 6 (G.fs [6,6,6,6,6,6] rfl) ⟨_,_,_,_,_,_,_,_,_,_,rfl,V,X,Y,Z,J⟩
     exact At.rt vF<|hR (db.fs [1] rfl).drop ⟨(⟨s.an,s.aD,s.az,s.ax,s.count,s.events,z⟩:Sp),c9,(aS (by exact vu (by first|exact dJ u (dI (.inl ‹_›))|exact dJ u (dI (.inr (.inl ‹_›)))|exact dJ u (dI (.inr (.inr (.inl ‹_›))))|exact dJ u (dI (.inr (.inr (.inr (.inl ‹_›)))))|exact dJ u (dI (.inr (.inr (.inr (.inr (‹_›))))))|exact n_ (by omega) u {ad} ‹_›))),(by exact fun hok=>absurd hok (by first|exact dJ u (dI (.inl ‹_›))|exact dJ u (dI (.inr (.inl ‹_›)))|exact dJ u (dI (.inr (.inr (.inl ‹_›))))|exact dJ u (dI (.inr (.inr (.inr (.inl ‹_›)))))|exact dJ u (dI (.inr (.inr (.inr (.inr (‹_›))))))|exact n_ (by omega) u {ad} ‹_›)),da,rfl⟩
    refine Op.px 1 [(18,vP O)]<|Op.l1 3 18 19 0 (vI D.Client) (G.ag 0 rfl)<|Op.px 3 [(22,.bool (decide (D.Client≥8)))]<|Op.wd (D.Client≥8) 22 (fun fp=>?_) fun fr=>?_
    ·refine Op.pg 6 [(52,vT)]<|At.bX 52 7<|At.go 8 1 [(4,vF)] ?_
     obtain⟨dc,dd,df⟩:=St.bl (Q:=bB U I (⟨s.an,s.aD,s.az,s.ax,s.count,s.events,z⟩:Sp)) 6 (G.fs [6,6,6,6,6,6] rfl) ⟨_,_,_,_,_,_,_,_,_,_,rfl,V,X,Y,Z,J⟩
     exact At.rt vF<|hR (df.fs [1] rfl).drop ⟨(⟨s.an,s.aD,s.az,s.ax,s.count,s.events,z⟩:Sp),dc,(aS (by exact vu (by first|exact dJ u (dI (.inl ‹_›))|exact dJ u (dI (.inr (.inl ‹_›)))|exact dJ u (dI (.inr (.inr (.inl ‹_›))))|exact dJ u (dI (.inr (.inr (.inr (.inl ‹_›)))))|exact dJ u (dI (.inr (.inr (.inr (.inr (‹_›))))))|exact n_ (by omega) u {ad} ‹_›))),(by exact fun hok=>absurd hok (by first|exact dJ u (dI (.inl ‹_›))|exact dJ u (dI (.inr (.inl ‹_›)))|exact dJ u (dI (.inr (.inr (.inl ‹_›))))|exact dJ u (dI (.inr (.inr (.inr (.inl ‹_›)))))|exact dJ u (dI (.inr (.inr (.inr (.inr (‹_›))))))|exact n_ (by omega) u {ad} ‹_›)),dd,rfl⟩
    refine Op.px 1 [(23,vQ O 1)]<|Op.l1 3 23 24 1 (vI D.bz) (G.ag 0 rfl)<|Op.px 3 [(27,.bool (decide (D.bz<1)))]<|Op.wd (D.bz<1) 27 (fun ft=>?_) fun fv=>?_
    ·refine Op.pg 6 [(52,vT)]<|At.bX 52 7<|At.go 8 1 [(4,vF)] ?_
     obtain⟨dg,dj,dk⟩:=St.bl (Q:=bB U I (⟨s.an,s.aD,s.az,s.ax,s.count,s.events,z⟩:Sp)) 6 (G.fs [6,6,6,6,6,6] rfl) ⟨_,_,_,_,_,_,_,_,_,_,rfl,V,X,Y,Z,J⟩
     exact At.rt vF<|hR (dk.fs [1] rfl).drop ⟨(⟨s.an,s.aD,s.az,s.ax,s.count,s.events,z⟩:Sp),dg,(aS (by exact vu (by first|exact dJ u (dI (.inl ‹_›))|exact dJ u (dI (.inr (.inl ‹_›)))|exact dJ u (dI (.inr (.inr (.inl ‹_›))))|exact dJ u (dI (.inr (.inr (.inr (.inl ‹_›)))))|exact dJ u (dI (.inr (.inr (.inr (.inr (‹_›))))))|exact n_ (by omega) u {ad} ‹_›))),(by exact fun hok=>absurd hok (by first|exact dJ u (dI (.inl ‹_›))|exact dJ u (dI (.inr (.inl ‹_›)))|exact dJ u (dI (.inr (.inr (.inl ‹_›))))|exact dJ u (dI (.inr (.inr (.inr (.inl ‹_›)))))|exact dJ u (dI (.inr (.inr (.inr (.inr (‹_›))))))|exact n_ (by omega) u {ad} ‹_›)),dj,rfl⟩
    refine Op.px 1 [(28,vQ O 1)]<|Op.l1 3 28 29 1 (vI D.bz) (G.ag 0 rfl)<|Op.px 3 [(32,.bool (decide (D.bz≥1099511627776)))]<|Op.wd (D.bz≥1099511627776) 32 (fun fw=>?_) fun fx=>?_
    ·refine Op.pg 6 [(52,vT)]<|At.bX 52 7<|At.go 8 1 [(4,vF)] ?_
     obtain⟨dl,dp,dq⟩:=St.bl (Q:=bB U I (⟨s.an,s.aD,s.az,s.ax,s.count,s.events,z⟩:Sp)) 6 (G.fs [6,6,6,6,6,6] rfl) ⟨_,_,_,_,_,_,_,_,_,_,rfl,V,X,Y,Z,J⟩
     exact At.rt vF<|hR (dq.fs [1] rfl).drop ⟨(⟨s.an,s.aD,s.az,s.ax,s.count,s.events,z⟩:Sp),dl,(aS (by exact vu (by first|exact dJ u (dI (.inl ‹_›))|exact dJ u (dI (.inr (.inl ‹_›)))|exact dJ u (dI (.inr (.inr (.inl ‹_›))))|exact dJ u (dI (.inr (.inr (.inr (.inl ‹_›)))))|exact dJ u (dI (.inr (.inr (.inr (.inr (‹_›))))))|exact n_ (by omega) u {ad} ‹_›))),(by exact fun hok=>absurd hok (by first|exact dJ u (dI (.inl ‹_›))|exact dJ u (dI (.inr (.inl ‹_›)))|exact dJ u (dI (.inr (.inr (.inl ‹_›))))|exact dJ u (dI (.inr (.inr (.inr (.inl ‹_›)))))|exact dJ u (dI (.inr (.inr (.inr (.inr (‹_›))))))|exact n_ (by omega) u {ad} ‹_›)),dp,rfl⟩
    refine Op.px 1 [(33,vQ O 2)]<|Op.l1 28 33 34 2 (vL a1 D.Data.length a3) (G.ag 0 rfl)<|Op.px 4 [(38,.bool (decide ((D.Data.length:Int)>65536)))]<|Op.wd ((D.Data.length:Int)>65536) 38 (fun f0=>?_) fun f1=>?_
    ·refine Op.pg 6 [(52,vT)]<|At.bX 52 7<|At.go 8 1 [(4,vF)] ?_
     obtain⟨du,dv,dC⟩:=St.bl (Q:=bB U I (⟨s.an,s.aD,s.az,s.ax,s.count,s.events,z⟩:Sp)) 6 (G.fs [6,6,6,6,6,6] rfl) ⟨_,_,_,_,_,_,_,_,_,_,rfl,V,X,Y,Z,J⟩
     exact At.rt vF<|hR (dC.fs [1] rfl).drop ⟨(⟨s.an,s.aD,s.az,s.ax,s.count,s.events,z⟩:Sp),du,(aS (by exact vu (by first|exact dJ u (dI (.inl ‹_›))|exact dJ u (dI (.inr (.inl ‹_›)))|exact dJ u (dI (.inr (.inr (.inl ‹_›))))|exact dJ u (dI (.inr (.inr (.inr (.inl ‹_›)))))|exact dJ u (dI (.inr (.inr (.inr (.inr (‹_›))))))|exact n_ (by omega) u {ad} ‹_›))),(by exact fun hok=>absurd hok (by first|exact dJ u (dI (.inl ‹_›))|exact dJ u (dI (.inr (.inl ‹_›)))|exact dJ u (dI (.inr (.inr (.inl ‹_›))))|exact dJ u (dI (.inr (.inr (.inr (.inl ‹_›)))))|exact dJ u (dI (.inr (.inr (.inr (.inr (‹_›))))))|exact n_ (by omega) u {ad} ‹_›)),dv,rfl⟩
    refine Op.px 3 [(41,.bool (decide (i>0)))]<|Op.wd (i>0) 41 (fun f2=>?_) fun f3=>?_
    ·refine Op.px 2 [(42,vL (some ⟨a7,ar,none⟩) list.length am),(43,vI i)]<|Op.vq 44 (i-1) ?_
     obtain⟨be,a4⟩:=cD list (i-1)
     obtain⟨f4,f5,f6,f7,dE,dT,bi⟩:=ay.br a0 _ a4
     cases dE
     refine Op.iq 44 103 3 40 list.length am 42 44 45 a7 ar (i-1) ?_
     obtain⟨f8,d0,bi⟩:=bi
     obtain⟨f9,gc,rfl⟩:=d0.ai
     refine Op.px 2 [(46,vQ a7 (ar+(i-1:Int).toNat*3)),(48,vP O)]<|Op.fQ (T:=3) (x:=46) (o:=ar+(i-1:Int).toNat*3) (d:=47) (n:=1) (v:=vI be.Client) (by kernel_rfl) (by kernel_rfl) (by kernel_rfl) id (G.sub _ _ dT) (cT bi 0 rfl)<|Op.l1 3 48 49 0 (vI D.Client) (G.ag 0 rfl)<|Op.pg 6 [(52,.bool (decide (be.Client≥D.Client)))]<|At.fd (be.Client≥D.Client) 52 7 9 (fun ge=>?_) fun gg=>?_
     ·refine At.go 8 1 [(4,vF)] ?_
      obtain⟨d1,d2,d3⟩:=St.bl (Q:=bB U I (⟨s.an,s.aD,s.az,s.ax,s.count,s.events,z⟩:Sp)) 6 (G.fs [6,6,6,6,6,6] rfl) ⟨_,_,_,_,_,_,_,_,_,_,rfl,V,X,Y,Z,J⟩
      exact At.rt vF<|hR (d3.fs [1] rfl).drop ⟨(⟨s.an,s.aD,s.az,s.ax,s.count,s.events,z⟩:Sp),d1,(aS (by exact vu (by first|exact dJ u (dI (.inl ‹_›))|exact dJ u (dI (.inr (.inl ‹_›)))|exact dJ u (dI (.inr (.inr (.inl ‹_›))))|exact dJ u (dI (.inr (.inr (.inr (.inl ‹_›)))))|exact dJ u (dI (.inr (.inr (.inr (.inr (‹_›))))))|exact n_ (by omega) u a4 ‹_›))),(by exact fun hok=>absurd hok (by first|exact dJ u (dI (.inl ‹_›))|exact dJ u (dI (.inr (.inl ‹_›)))|exact dJ u (dI (.inr (.inr (.inl ‹_›))))|exact dJ u (dI (.inr (.inr (.inr (.inl ‹_›)))))|exact dJ u (dI (.inr (.inr (.inr (.inr (‹_›))))))|exact n_ (by omega) u a4 ‹_›)),d2,rfl⟩
     refine At.dw (fun _=>False) [(0,true),(1,true),(2,true),(4,true),(6,true),(8,true),(3,true),(5,true),(7,true),(9,false),(10,false),(11,true),(1012,false),(12,false)]<|Op.px 6 [(55,vQ I 6),(57,vP O),(59,vQ O 1),(61,vQ O 2)]<|Op.lf 77 55 6 56 1 (.map (some ae)) id (G.ag 1 rfl)<|Op.lf 3 57 0 58 1 (vI D.Client) id (G.ag 0 rfl)<|Op.lf 3 59 1 60 1 (vI D.bz) id (G.ag 0 rfl) ?_
     refine Op.l1 28 61 62 2 (vL a1 D.Data.length a3) (G.ag 0 rfl)<|Op.c0 (some 63) (mc _ _ _ G.sub a5 _ _ bd (by(try dsimp only)<;>omega)) G ?_
     rintro _ d4 _ gk d5 d6 ⟨gn,gs,rfl,b6,d7,rfl⟩;subst d4;clear d5
     obtain⟨a124,n125,rfl⟩:=b6.ai
     refine Op.px 1 [(64,.agg #[vI D.bz,vL a124 (D.Data.length) n125])]<|Op.ba ?_
     obtain⟨d8,d9,ea,eb⟩:=aF.freeze b6 (d6)
     replace J:=J.mono ea
     obtain⟨g1,g2,g3,rfl,ed,ee⟩:=J
     refine Op.ms n9 77 56 58 64 D.Client (.agg #[vI D.bz,vL a124 (D.Data.length) n125]) d9 6 ed fun ef eh g4 ej em=>?_
     have en:=eS.mI (k:=D.Client) (a:=(⟨D.bz,D.Data⟩:f_)) (v:=.agg #[vI D.bz,vL a124 (D.Data.length) n125]) ee ⟨_,rfl,eb⟩
     refine Op.gt 10<|At.rg 2<|Op.vq 65 (i+1)<|Op.pg 2 [(9,vI (i+1))] ?_
     have eo:iK d8 ae (b7 z D.Client (⟨D.bz,D.Data⟩:f_)) [(ae,.map ef eh)]:=⟨_,_,_,rfl,ej,en⟩
     exact At.ke (b5 _ (aG.trans ab (by repeat (first|assumption|apply aG.trans))) (b7 z D.Client (⟨D.bz,D.Data⟩:f_)) (i+1) _ _ (by omega) (by omega) (by omega) (by exact Ar hI h0 u (xT ‹_› ‹_› ‹_› ‹_› ‹_›) (fun p hi hp=>by rw[a4] at hp;rw[←fT hp];omega)) (by(subst hz;exact J4 (by exact Ar hI h0 u (xT ‹_› ‹_› ‹_› ‹_› ‹_›) (fun p hi hp=>by rw[a4] at hp;rw[←fT hp];omega)) h0 u)) eo em.drop)
    refine Op.pg 6 [(52,vF)]<|At.dP 52 9<|At.dw (fun _=>False) [(0,true),(1,true),(2,true),(4,true),(6,true),(8,true),(3,true),(5,true),(7,true),(9,false),(10,false),(11,true),(1012,false),(12,false)]<|Op.px 6 [(55,vQ I 6),(57,vP O),(59,vQ O 1),(61,vQ O 2)]<|Op.lf 77 55 6 56 1 (.map (some ae)) id (G.ag 1 rfl) ?_
    refine Op.lf 3 57 0 58 1 (vI D.Client) id (G.ag 0 rfl)<|Op.lf 3 59 1 60 1 (vI D.bz) id (G.ag 0 rfl)<|Op.l1 28 61 62 2 (vL a1 D.Data.length a3) (G.ag 0 rfl)<|Op.c0 (some 63) (mc _ _ _ G.sub a5 _ _ bd (by(try dsimp only)<;>omega)) G ?_
    rintro _ ep _ g5 er et ⟨g6,g7,rfl,b8,d7,rfl⟩;subst ep;clear er
    obtain⟨bj,n151,rfl⟩:=b8.ai
    refine Op.px 1 [(64,.agg #[vI D.bz,vL bj (D.Data.length) n151])]<|Op.ba ?_
    obtain⟨ex,eA,eB,eI⟩:=aF.freeze b8 (et)
    replace J:=J.mono eB
    obtain⟨g8,g9,ha,rfl,eJ,eK⟩:=J
    refine Op.ms n9 77 56 58 64 D.Client (.agg #[vI D.bz,vL bj (D.Data.length) n151]) eA 6 eJ fun eL eQ hb eT e1=>?_
    have e2:=eS.mI (k:=D.Client) (a:=(⟨D.bz,D.Data⟩:f_)) (v:=.agg #[vI D.bz,vL bj (D.Data.length) n151]) eK ⟨_,rfl,eI⟩
    refine Op.gt 10<|At.rg 2<|Op.vq 65 (i+1)<|Op.pg 2 [(9,vI (i+1))] ?_
    have e3:iK ex ae (b7 z D.Client (⟨D.bz,D.Data⟩:f_)) [(ae,.map eL eQ)]:=⟨_,_,_,rfl,eT,e2⟩
    exact At.ke (b5 _ (aG.trans ab (by repeat (first|assumption|apply aG.trans))) (b7 z D.Client (⟨D.bz,D.Data⟩:f_)) (i+1) _ _ (by omega) (by omega) (by omega) (by exact Ar hI h0 u (xT ‹_› ‹_› ‹_› ‹_› ‹_›) (fun p hi hp=>by omega)) (by(subst hz;exact J4 (by exact Ar hI h0 u (xT ‹_› ‹_› ‹_› ‹_› ‹_›) (fun p hi hp=>by omega)) h0 u)) e3 e1.drop)
   refine At.go 12 1 [(4,vT)] ?_
   obtain⟨e4,e5,e6⟩:=St.bl (Q:=bB U I (⟨s.an,s.aD,s.az,s.ax,s.count,s.events,z⟩:Sp)) 6 a6 ⟨_,_,_,_,_,_,_,_,_,_,rfl,V,X,Y,Z,J⟩
   exact At.rt vT (hR e6 ⟨(⟨s.an,s.aD,s.az,s.ax,s.count,s.events,z⟩:Sp),e4,(aS (by exact SD (SC hI ‹_›))),(by(intro hok;rw[hz,eR (by omega)])),e5,rfl⟩)
 exact At.ke (c4 _ _ (aG.refl _) s.aI 0 _ _ (bK _) (by omega) (by omega) (by exact SB _) (by exact hr) c3 (St.un [bs,bt,b3,b4,ck] co hs))
def mU (client:Int) (s:Sp) (o:aC):Sp:=cH s client o
def gU (client:Int):Sp→List aC→Int→Option (Int×Int×Sp)
  |_,[],_=>none
  |s,o::os,i=>if cc s client o=0 then gU client (cH s client o) os (i+1) else some (i,cc s client o,cH s client o)
def kV (b:Nat) (client:Int) (s:Sp) (ops:List aC):Mu:=ops.foldl (iL b client) ⟨s,[],[]⟩
def oa (s:Sp) (c:iz):Sp:=kU s c.fA c.ey
def Dv (u s:Sp):Sp:={s with an:=if gS u.an=true then u.an else s.an}
def mw (s:Sp) (client:Int) (o:aC):Sp:=match gU client s o.aH 0 with
  |some (_,_,sp)=>Dv s sp
  |none=>(kV 0 client s o.aH).list.foldl oa (kV 0 client s o.aH).sp
def oc (s:Sp) (client:Int) (o:aC) (x:Result):Result:=match gU client s o.aH 0 with
  |some (i,e,_)=>{x with Code:=e,At:=i}
  |none=>{x with bF:=(kV 0 client s o.aH).iW}
theorem As {s:Sp} (H:dH s) {c:Int} (o:aC):(cK s c o).length≤o.aa.length+64:=by
  unfold cK dS bY
  repeat' split
  all_goals first|(simp;done)|skip
  all_goals
    simp only[]
    unfold ff
    split
    · exact cr (Cf _ _) (by omega)
    · omega
section
variable {b:Nat} {client i:Int} {s:Sp} {ops:List aC} {m:Mu} {o:aC} {x:Result}
theorem vv:∀(ops:List aC) (m:Mu),(ops.foldl (iL b client) m).sp=ops.foldl (mU client) m.sp
  |[],_=>rfl
  |o::ops,m=>vv ops (iL b client m o)
theorem J5:∀(pre rest:List aC) (s:Sp) (i:Int),(∀k o,pre[k]?=some o→cc ((pre.take k).foldl (mU client) s) client o=0)→
    gU client s (pre++rest) i=gU client (pre.foldl (mU client) s) rest (i+pre.length)
  |[],rest,s,i,_=>by simp
  |o::pre,rest,s,i,h=>by
   have h0:=h 0 o rfl
   simp only[uB,List.foldl_nil] at h0
   rw[dM,gU,aL h0]
   have:=J5 pre rest (mU client s o) (i+1) fun k p hp=>h (k+1) p (by simpa using hp)
   show gU client (mU client s o) (pre++rest) (i+1)=_
   rw[this,bL,oE]
   congr 1
   omega
theorem J6 (H:oR b client s ops i m) (h0:0≤i) (hi:i≤ops.length):gU client s (ops.take i.toNat) 0=none∧∀rest,gU client s (ops.take i.toNat++rest) 0=gU client m.sp rest i:=by
  have h:∀rest,gU client s (ops.take i.toNat++rest) 0=gU client m.sp rest i:=fun rest=>by
    rw[J5,H.1,vv]
    · congr 1
      rw[dD]
      omega
    · intro k p hp
      have hk:k<i.toNat:=by
        have:=(dL.1 hp).1
        rw[dD] at this
        omega
      rw[o7,aL hk] at hp
      have:=H.2 k (by omega) p hp
      rw[vv] at this
      rw[qo,jB (by omega)]
      exact this
  refine⟨?_,h⟩
  have:=h []
  rw[dh] at this
  rw[this,gU]
theorem J7 (H:oR b client s ops i m) (h0:0≤i) (ho:ops[i.toNat]?=some o) (he:¬cc m.sp client o=0):gU client s ops 0=some (i,cc m.sp client o,cH m.sp client o):=by
  have hlt:=(dL.1 ho).1
  have h:=(J6 H h0 (by omega)).2 (ops.drop i.toNat)
  rw[mJ] at h
  rw[h,uo hlt,gU]
  have:ops[i.toNat]=o:=(dL.1 ho).2
  rw[this,aB he]
theorem J8 (H:oR b client s ops i m) (h0:0≤i) (hi:i≤ops.length) (hn:¬i<(ops.length:Int)):gU client s ops 0=none∧m=kV b client s ops:=by
  have h:=(J6 H h0 hi).1
  have h1:=H.1
  rw[eR (by omega)] at h h1
  exact⟨h,h1⟩
theorem SF (H:oR b client s o.aH i m) (h0:0≤i) {p:aC} (hp:o.aH[i.toNat]?=some p) (he:¬cc m.sp client p=0):mw s client o=Dv s (cH m.sp client p):=by
  unfold mw
  rw[J7 H h0 hp he]
theorem SG (H:oR b client s o.aH i m) (h0:0≤i) {p:aC} (hp:o.aH[i.toNat]?=some p) (he:¬cc m.sp client p=0):oc s client o x={x with Code:=cc m.sp client p,At:=i}:=by
  unfold oc
  rw[J7 H h0 hp he]
theorem Dw (b':Nat):∀(ops:List aC) (m m':Mu),m.sp=m'.sp→m.iW=m'.iW→m.list.map (fun c=>(c.ey,c.fA))=m'.list.map (fun c=>(c.ey,c.fA))→
    (ops.foldl (iL b client) m).sp=(ops.foldl (iL b' client) m').sp∧(ops.foldl (iL b client) m).iW=(ops.foldl (iL b' client) m').iW∧(ops.foldl (iL b client) m).list.map (fun c=>(c.ey,c.fA))=(ops.foldl (iL b' client) m').list.map (fun c=>(c.ey,c.fA))
  |[],_,_,h1,h2,h3=>⟨h1,h2,h3⟩
  |o::ops,m,m',h1,h2,h3=>Dw b' ops (iL b client m o) (iL b' client m' o) (by unfold iL;rw[h1]) (by unfold iL;rw[h1,h2]) (by unfold iL;simp only[gp,h3,h1,e_,l5])
theorem J9 (l:List iz) (s:Sp):l.foldl oa s=(l.map fun c=>(c.ey,c.fA)).foldl (fun s p=>kU s p.2 p.1) s:=by
  rw[List.foldl_map]
  rfl
theorem SH (b':Nat):(kV b client s ops).list.foldl oa (kV b client s ops).sp=(kV b' client s ops).list.foldl oa (kV b' client s ops).sp:=by
  obtain⟨h1,_,h3⟩:=Dw (b:=b) (client:=client) b' ops ⟨s,[],[]⟩ ⟨s,[],[]⟩ rfl rfl rfl
  rw[J9,J9]
  unfold kV
  rw[h1,h3]
theorem SI {y z:Sp} {cs:List iz} {ns:List aQ} {q:Int} (H:oR b client s o.aH i ⟨y,cs,ns⟩) (h0:0≤i) (hi:i≤o.aH.length) (hn:¬i<(o.aH.length:Int)) (hz:z=(cs.take q.toNat).foldl oa y) (hq:¬q<(cs.length:Int)):z=mw s client o:=by
  obtain⟨h1,h2⟩:=J8 H h0 hi hn
  unfold mw
  rw[h1]
  simp only[]
  rw[SH (b:=0) b,←h2]
  rw[eR (by omega)] at hz
  exact hz
theorem SJ {y:Sp} {cs:List iz} {ns:List aQ} (H:oR b client s o.aH i ⟨y,cs,ns⟩) (h0:0≤i) (hi:i≤o.aH.length) (hn:¬i<(o.aH.length:Int)):{x with bF:=ns}=oc s client o x:=by
  obtain⟨h1,h2⟩:=J8 H h0 hi hn
  unfold oc
  rw[h1]
  simp only[]
  unfold kV
  rw[(Dw (b:=0) (client:=client) b o.aH ⟨s,[],[]⟩ ⟨s,[],[]⟩ rfl rfl rfl).2.1]
  unfold kV at h2
  rw[←h2]
theorem SK (o:aC):iY o≠0:=by
  unfold iY
  split
  · decide
  · split<;>decide
theorem Dx {cs:List iz} (h:∀c∈cs,c.fA≠0∧c.br=b) (p:aQ) (o:aC):∀c∈cs++[(⟨p,iY o,b⟩:iz)],c.fA≠0∧c.br=b:=fun c hc=>by
  rcases cU.1 hc with hc|hc
  · exact h c hc
  · rw[gv.1 hc];exact⟨SK o,rfl⟩
theorem Dy {cs:List iz} (h:∀c∈cs,c.ey.length≤1000000000) {p:aQ} (hp:p.length≤1000000000) (o:aC):∀c∈cs++[(⟨p,iY o,b⟩:iz)],c.ey.length≤1000000000:=fun c hc=>by
  rcases cU.1 hc with hc|hc
  · exact h c hc
  · rw[gv.1 hc];exact hp
theorem SL {y z:Sp} {cs:List iz} {c:iz} {q:Int} (hz:z=(cs.take q.toNat).foldl oa y) (h0:0≤q) (hc:cs[q.toNat]?=some c):kU z c.fA c.ey=(cs.take (q+1).toNat).foldl oa y:=by
  rw[toNat_succ h0,fu hc,r_,←hz]
  rfl
end
theorem SM {ns:List af} {l:af} (h:kf ns l=true):l.aa.length≤64:=by
 unfold kf at h
 simp only[bO] at h
 have h:=h.2
 split at h
 ·simp only[bO,cB] at h
  rw[h.1.1];decide
 ·simp only[bO,cB] at h
  exact Cg h.1
theorem fQ (B:World) (h:av) (g:GH) (hg:bf g h) (aw:bh g) (Z:Nat) (t:List af) (D:au) (I:eU g Z t D) (co:Value) (list:List af) (a6:ay g 56 kJ co list) (h1:list.length≤1000000) (hl:∀n∈list,n.aa.length≤1000000∧n.Data.length≤1000000) (hs:St h g (aM [D]) g [D] h):
  aA prog B 33 #[vP Z,co] h g [D] (fun dj g' L'=>∃c3,dj=.bool (gS list)∧eU g' Z (if gS list=true then list else t) c3∧g'=g∧L'=[c3]):=by
 obtain⟨b3,ab,rfl⟩:=a6.ai
 refine aA.aq func33 fun R hR=>At.go 1 1 []<|At.rg 2<|Op.makeMap (mt:=116) (dst:=9) (by kernel_rfl) hs fun G c4 dk=>?_
 have dl:St h g (aM [D]) g [[(G,.map #[] 0)],[],D] c4:=St.aX (L:=[[(G,.map #[] 0)],D]) rfl dk
 have dp:cC encS #[] 0 ([]:List (aQ×Value)):=cC.empty _ _
 have dq:=gD.nil
 refine Op.pg 2 [(5,.map (some G))]<|At.go 3 3 [(10,vL b3 list.length ab),(11,vI (list.length:Int)),(12,vI 0)] ?_
 obtain⟨e1,du,dv⟩:∃c,gB g G ([]:List af) c∧St h g (aM [D]) g (c::[D]) c4:=⟨_,dq.close dp (gj _),St.aX (L:=[(G,.map #[] 0)]::[]::[D]) (by simp only[cg,cI,dM,dY,dh]) dl⟩
 have dC:∀(m:Nat) (V:GH) (a7:aG g V) (i:Int) (J:List af) (am:au) (b4:av) (hm:list.length-i.toNat<m) (h0:0≤i) (h3:i≤list.length) (hlv:J=list.take i.toNat) (a8:vh list i) (a0:gB V G J am) (a1:St h g (aM [D]) V [am,D] b4),At (bS prog B 33 f33 R) [] 3 [(0,vP Z),(1,vL b3 list.length ab),(5,.map (some G)),(10,vL b3 list.length ab),(11,vI (list.length:Int)),(12,vI i)] b4:=by
  intro m;induction m with
  |zero=>intros;omega
  |succ m dE=>
   intro V a7 i J am b4 hm h0 h3 hlv a8 a0 a1
   replace aw:=aw.mono a7
   replace a6:=a6.mono a7
   replace I:=I.mono a7
   refine At.go 4 1 [(13,.bool (decide (i<(list.length:Int))))]<|At.fd (i<(list.length:Int)) 13 5 13 (fun e2=>?_) fun e3=>?_
   ·refine At.rp 6 1 [(14,vI i)] ?_
    obtain⟨u,O⟩:=cD list i
    obtain⟨a3,ad,e4,e5,dT,d0,b5⟩:=ay.br a6 _ O
    cases dT
    refine Op.iq 41 56 6 72 list.length ab 10 12 15 a3 ad i ?_
    obtain⟨e6,a9,b5⟩:=b5
    obtain⟨bb,bc,rfl⟩:=a9.ai
    refine Op.la 56 15 16 (ad+i.toNat*6) 6 [vS u.aa,vL bb u.Data.length bc,vI u.ak,vI u.aE,vI u.Next,vI u.aO] (a1.sub _ _ d0) ?_ (hv:=b5)
    refine Op.al 7 56 si a1 fun a4 e7 d1=>Op.px 1 [(6,vI i)]<|Op.sg 56 7 16 0 0 #[vS u.aa,vL bb u.Data.length bc,vI u.ak,vI u.aE,vI u.Next,vI u.aO] d1 zt fun e8 b6=>Op.gt 6 ?_
    have c5:∀(m:Nat) (b8:av) (hm:0<m) (bd:r8 list i.toNat u) (c6:St h g (aM [D]) V [[(a4,Obj.cells #[vS u.aa,vL bb u.Data.length bc,vI u.ak,vI u.aE,vI u.Next,vI u.aO] 56 (0,0))],am,D] b8),At (bS prog B 33 f33 R) [] 10 [(0,vP Z),(1,vL (some ⟨a3,ad,none⟩) list.length ab),(5,.map (some G)),(7,vP a4),(10,vL (some ⟨a3,ad,none⟩) list.length ab),(11,vI (list.length:Int)),(12,vI i)] b8:=by
     intro m;induction m with
     |zero=>intros;omega
     |succ m e9=>
      intro b8 hm bd c6
      refine At.rg 3 ?_
      obtain⟨ca,bj⟩:=St.freeze (c6)
      have cb:=iQ (g:=V) a4 (.cells #[vS u.aa,vL bb u.Data.length bc,vI u.ak,vI u.aE,vI u.Next,vI u.aO] 56 (0,0))
      generalize d2:cQ V _=ar at ca bj cb;clear d2
      replace aw:=aw.mono bj
      replace a9:=a9.mono bj
      replace a0:=a0.mono bj
      refine Op.c0 (some 36) (Cn _ _ _ ca.sub aw u _ a9 a4 cb (by((try dsimp only)<;>((have:=(hl _ (cL O)).2;omega))))) ca ?_
      rintro _ d3 _ fa d4 d5 ⟨fg,ae,rfl,c8,bk,rfl⟩;subst d3;clear d4
      obtain⟨X,Y,rfl⟩:=c8.ai
      refine Op.al 8 56 si d5 fun U fi d6=>Op.sg 56 8 36 0 0 #[vS u.aa,vL X (u.Data.length) Y,vI u.ak,vI u.aE,vI u.Next,vI u.aO] d6 zt fun c9 da=>Op.gt 11<|At.rp 4 2 [(37,.map (some G)),(38,vP a4)]<|Op.l1 9 38 39 0 (vS u.aa) (da.sub _ _ cb) ?_
      obtain⟨d7,d8,d9,a5,ea,eb,ed⟩:=gB.kK a0
      have ee:St h g (aM [D]) ar [am,[(U,Obj.cells #[vS u.aa,vL X (u.Data.length) Y,vI u.ak,vI u.aE,vI u.Next,vI u.aO] 56 (0,0))],ae,D] c9:=(da.fs [1,1,2] rfl)
      have ef:St h g (aM [D]) ar ([(G,.map d7 d8)]::a5::[[(U,Obj.cells #[vS u.aa,vL X (u.Data.length) Y,vI u.ak,vI u.aE,vI u.Next,vI u.aO] 56 (0,0))],ae,D]) c9:=St.pM (L:=am::[[(U,Obj.cells #[vS u.aa,vL X (u.Data.length) Y,vI u.ak,vI u.aE,vI u.Next,vI u.aO] 56 (0,0))],ae,D]) (ea.append_right _) ee
      refine Op.jQ (d:=.string) (z:=.pointer none) (mt:=116) (x:=37) (ix:=39) (y:=8) (k:=u.aa) (v:=vP U) (.inl (by kernel_rfl)) (by kernel_rfl) kI (by kernel_rfl) (by kernel_rfl) (by kernel_rfl) ef 0 rfl eb zt fun bm bo ce eh ej=>?_
      have em:gD (h_ d9 u.aa (vP U)) ((U,.cells #[vS u.aa,vL X (u.Data.length) Y,vI u.ak,vI u.aE,vI u.Next,vI u.aO] 56 (0,0))::ae++a5:au) (d_ J (⟨u.aa,u.Data,u.ak,u.aE,u.Next,u.aO⟩:af)):=ed.zM (g:=ar) (l:=(⟨u.aa,u.Data,u.ak,u.aE,u.Next,u.aO⟩:af)) (by(rw[hlv];exact(C6 a8 h0 O bd).2.1)) c8 (by exact SM bd.1)
      have en:St h g (aM [D]) ar [[(G,.map bm bo)],[(U,Obj.cells #[vS u.aa,vL X (u.Data.length) Y,vI u.ak,vI u.aE,vI u.Next,vI u.aO] 56 (0,0))],ae,a5,D] ce:=(ej.fs [1,3,3,3] rfl)
      have eo:St h g (aM [D]) ar [[(G,.map bm bo)],((U,.cells #[vS u.aa,vL X (u.Data.length) Y,vI u.ak,vI u.aE,vI u.Next,vI u.aO] 56 (0,0))::ae++a5:au),D] ce:=St.aX (L:=[[(G,.map bm bo)],[(U,Obj.cells #[vS u.aa,vL X (u.Data.length) Y,vI u.ak,vI u.aE,vI u.Next,vI u.aO] 56 (0,0))],ae,a5,D]) (by simp only[cg,List.flatten_nil,cI,dM,dY,dh]) en
      refine Op.gt 12<|At.rg 2<|Op.vq 40 (i+1)<|Op.pg 3 [(12,vI (i+1))] ?_
      obtain⟨fj,ep,er⟩:∃c,gB ar G (d_ J (⟨u.aa,u.Data,u.ak,u.aE,u.Next,u.aO⟩:af)) c∧St h g (aM [D]) ar (c::[D]) ce:=⟨_,em.close eh (gj _),St.aX (L:=[(G,.map bm bo)]::((U,.cells #[vS u.aa,vL X (u.Data.length) Y,vI u.ak,vI u.aE,vI u.Next,vI u.aO] 56 (0,0))::ae++a5:au)::[D]) (by simp only[cg,cI,dM,dY,dh]) eo⟩
      exact At.ke (dE _ (aG.trans a7 (by repeat (first|assumption|apply aG.trans))) (i+1) (d_ J (⟨u.aa,u.Data,u.ak,u.aE,u.Next,u.aO⟩:af)) _ _ (by omega) (by omega) (by omega) (by(rw[hlv];exact(C6 a8 h0 O bd).2.2)) (by exact(C6 a8 h0 O bd).1) ep er)
    refine At.dw (fun _=>False) [(0,true),(1,false),(2,false),(3,true),(4,true),(5,true),(6,true),(7,true),(8,true),(9,true),(10,true),(11,true),(12,true),(14,true),(13,true),(15,false),(16,true),(17,true),(18,true)]<|Op.px 1 [(17,.map (some G))]<|Op.la 56 7 18 0 6 [vS u.aa,vL bb u.Data.length bc,vI u.ak,vI u.aE,vI u.Next,vI u.aO] (b6.ag 0 rfl) ?_
    have bs:=b6.fs [1] rfl
    have db:=bs.gi
    have et:=gB.fK a0 bs (by intro p hp;simp only[cU,hp,g_,hU])
    refine Op.le (some 19) 0 bs (Qr _ _ _ bs.ij (aw.mono db) G J et u _ (a9.mono db) (by((try dsimp only)<;>((have:=(hl _ (cL O)).1;omega))))) (fun _ _ _ hp=>by obtain⟨_,bk,_⟩:=hp;exact bk) ?_ (hM:=(fun _ _ h=>absurd h (gq _)))
    rintro _ _ fl be ⟨rfl,bk,rfl⟩;clear bk
    refine Op.px 2 [(21,.bool (!(kf J u)))]<|Op.wb (!(kf J u)) 21 (fun dc=>?_) fun dd=>?_
    ·replace dc:=(dm dc)
     refine Op.pg 7 [(35,vT)]<|At.bX 35 8<|At.go 9 1 [(4,vF)]<|At.rt vF ?_
     replace I:=I.aX (g':=g)
     exact hR be.drop.drop.ji ⟨D,(aS (by exact Jf O (by rw[←hlv];assumption))),I.eq (by(rw[←Jf O (by rw[←hlv];assumption)];rfl)),rfl,rfl⟩
    replace dd:=(dn dd)
    refine Op.px 3 [(24,.bool (decide (i>0)))]<|Op.wd (i>0) 24 (fun fp=>?_) fun fr=>?_
    ·refine Op.px 2 [(25,vL (some ⟨a3,ad,none⟩) list.length ab),(26,vI i)]<|Op.vq 27 (i-1) ?_
     obtain⟨bi,bt⟩:=cD list (i-1)
     obtain⟨ft,fv,fw,fx,ex,eA,cf⟩:=ay.br a6 _ bt
     cases ex
     refine Op.iq 41 56 6 72 list.length ab 25 27 28 a3 ad (i-1) ?_
     obtain⟨f0,eB,cf⟩:=cf
     obtain⟨f1,n119,rfl⟩:=eB.ai
     refine Op.px 2 [(29,vQ a3 (ad+(i-1:Int).toNat*6)),(31,vP a4)]<|Op.fQ (T:=9) (x:=29) (o:=ad+(i-1:Int).toNat*6) (d:=30) (n:=1) (v:=vS bi.aa) (by kernel_rfl) (by kernel_rfl) (by kernel_rfl) id (b6.sub _ _ eA) (cT cf 0 rfl)<|Op.l1 9 31 32 0 (vS u.aa) (be.ag 1 rfl)<|Op.vl 33 (.bool (!(Go.Op.bytesLess (a_ bi.aa).toList (a_ u.aa).toList))) (.bool (!(Go.Op.bytesLess bi.aa u.aa))) (by rw[toList_mkS,toList_mkS])<|Op.pg 7 [(35,.bool (!(Go.Op.bytesLess bi.aa u.aa)))] ?_
     refine At.c_ (!(Go.Op.bytesLess bi.aa u.aa)) 35 8 10 (fun df=>?_) fun ch=>?_
     ·replace df:=(dm df)
      refine At.go 9 1 [(4,vF)]<|At.rt vF ?_
      replace I:=I.aX (g':=g)
      exact hR be.drop.drop.ji ⟨D,(aS (by exact Jd (by omega) O bt ‹_›)),I.eq (by(rw[←Jd (by omega) O bt ‹_›];rfl)),rfl,rfl⟩
     replace ch:=(dn ch)
     exact At.ke (c5 _ _ (bK _) (by exact QZ (by omega) (by rw[←hlv];assumption) bt ch) (be.fs [1] rfl))
    exact Op.pg 7 [(35,vF)]<|At.dP 35 10<|At.ke (c5 _ _ (bK _) (by exact QY (by omega) h0 (by rw[←hlv];assumption)) (be.fs [1] rfl))
   have eI:∀(m:Nat) (ci:av) (hm:0<m) (hle:true=gS list∧list.take i.toNat=list) (dg:St h g (aM [D]) V [am,D] ci),At (bS prog B 33 f33 R) [] 17 [(0,vP Z),(5,.map (some G))] ci:=by
    intro m;induction m with
    |zero=>intros;omega
    |succ m f2=>
     intro ci hm hle dg
     refine At.rp 5 4 [(50,.map (some G)),(52,vP Z)] ?_
     obtain⟨f3,eJ,eK,f4⟩:=I
     refine Op.s1 116 52 50 0 (.map (some G)) 0 #[.map (some G)] (St.un [eJ] eK (dg.fs [1] rfl)) zt fun f5 eL=>Op.gt 18<|At.go 19 1 [(4,vT)] ?_
     obtain⟨eQ,ck,eT⟩:=St.bl (Q:=eU V Z J) 2 (eL.fs [1,2,2] rfl) ⟨_,_,rfl,a0⟩
     refine At.rt vT ?_
     replace ck:=ck.aX (g':=g)
     exact hR (eT.fs [1] rfl).drop.ji ⟨eQ,(aS (by exact hle.1)),ck.eq (by(rw[←hle.1,hlv];exact hle.2)),rfl,rfl⟩
   refine At.rp 8 4 [(44,.bool ((list.length:Int)==0))]<|Op.wd ((list.length:Int)=0) 44 (fun f6=>?_) fun f7=>?_
   ·refine Op.pg 14 [(48,vT)]<|At.bX 48 15<|At.go 16 1 [(4,vF)]<|At.rt vF ?_
    replace I:=I.aX (g':=g)
    exact hR a1.drop.ji ⟨D,(aS (by exact Af (by omega))),I.eq (by(rw[←Af (by omega)];rfl)),rfl,rfl⟩
   refine Op.pg 14 [(48,.bool (decide ((list.length:Int)>32)))]<|At.fd ((list.length:Int)>32) 48 15 17 (fun f8=>?_) fun f9=>?_
   ·refine At.go 16 1 [(4,vF)]<|At.rt vF ?_
    replace I:=I.aX (g':=g)
    exact hR a1.drop.ji ⟨D,(aS (by exact Af (by omega))),I.eq (by(rw[←Af (by omega)];rfl)),rfl,rfl⟩
   exact At.ke (eI _ _ (bK _) (by exact Q0 a8 ‹_› (by omega) (by omega)) a1)
 exact At.ke (dC _ _ (aG.refl _) 0 ([]:List af) _ _ (bK _) (by omega) (by omega) (by rfl) (by exact QW _) du dv)
theorem SN (B:World) (h:av) (g:GH) (hg:bf g h) (J:bh g) (D:Nat) (s:Sp) (a4:au) (f7:bB g D s a4) (client:Int) (o:aC) (ep:Value) (f8:ay g 5 bn ep o.Data) (er:Value) (bc:ay g 36 eY er o.aH) (I:Nat) (x:Result) (Y:au) (a0:fF g I x Y) (hP:l7 g) (ce:dH s) (ho:cY o≤100000000) (hs:St h g (aM [a4,Y]) g [a4,Y] h):
  aA prog B 65 #[vP D,vI client,.agg #[vI o.Kind,vS o.aa,ep,vI o.ak,vI o.aJ,.bool o.aZ,.bool o.aN,.bool o.ah,er],vP I] h g [a4,Y] (fun f9 g' L'=>∃et ex,f9=.tuple #[]∧bB g' D (mw s client o) et∧fF g' I (oc s client o x) ex∧L'=[et,ex]):=by
 obtain⟨bm,bo,rfl⟩:=f8.ai
 obtain⟨bd,ad,rfl⟩:=bc.ai
 refine aA.aq func65 fun R hR=>At.rg 1<|Op.bx 6 36 2 #[vI o.Kind,vS o.aa,vL bm o.Data.length bo,vI o.ak,vI o.aJ,.bool o.aZ,.bool o.aN,.bool o.ah,vL bd o.aH.length ad] hs fun bs kd gc=>Op.gt 1<|At.rp 6 3 [(20,vP D)] ?_
 obtain⟨eA,ge,kh,gg,kk,gk,kl,gn,km,gs,g1,cf,dp,dq,du,dv⟩:=f7
 have eB:=St.un [ge,gg,gk,gn,gs] g1 (gc.fs [1] rfl)
 refine Op.l1 70 20 21 0 (vP eA) (eB.ag 0 rfl) ?_
 have ch:=eB.fs [1] rfl
 have g2:=ch.gi
 have g3:=eU.fK cf ch (by intro p hp;simp only[cU,hp,g_,hU])
 refine Op.le (some 22) 0 ch (Co _ _ _ ch.ij (J.mono g2) eA s.an g3 (by(try dsimp only)<;>exact ce.tree)) (fun _ _ _ hp=>by obtain⟨_,_,_,_,_,ci,_⟩:=hp;exact ci) ?_ (hM:=(fun _ _ h=>absurd h (gq _)))
 rintro _ _ kv g4 ⟨v46,kw,kx,rfl,g5,ci,rfl⟩;clear ci
 obtain⟨ck,eI,ae,be⟩:=Deep.freeze g5 (g4.fs [2,2] rfl)
 replace cf:=cf.mono ae
 replace dp:=dp.mono ae
 replace dq:=dq.mono ae
 replace du:=du.mono ae
 replace dv:=dv.mono ae
 replace J:=J.mono ae
 replace hP:=hP.mono ae
 replace bc:=bc.mono ae
 replace a0:=a0.mono ae
 obtain⟨co,c3,rfl⟩:=be.ai
 refine Op.pg 2 [(8,vL co (s.an.length) c3)]<|At.go 3 1 [(9,vN)]<|At.go 4 1 [(10,vN)]<|At.rp 4 1 [(23,vQ bs 8)]<|Op.l1 34 23 24 8 (vL bd o.aH.length ad) (eI.ag 6 rfl) ?_
 refine Op.pg 5 [(25,vI (o.aH.length:Int)),(26,vI 0)] ?_
 obtain⟨kA,g6,g7⟩:=St.bl (Q:=bB ck D s) 6 (eI.fs [1] rfl) ⟨_,_,_,_,_,_,_,_,_,_,rfl,cf,dp,dq,du,dv⟩
 have g8:∀(m:Nat) (a5:GH) (am:aG ck a5) (y:Sp) (cs:List iz) (ns:List aj) (i:Int) (a6:Option Addr) (a1:Nat) (a7:au) (Z:Option Addr) (ab:Nat) (a8:au) (dC:au) (dE:av) (hm:o.aH.length-i.toNat<m) (h0:0≤i) (h1:i≤o.aH.length) (hI:oR D client s o.aH i ⟨y,cs,ns⟩) (a3:dH y) (hcl:cs.length≤i) (g9:ns.length≤i) (bt:∀c∈cs,c.fA≠0∧c.br=D) (b3:∀c∈cs,c.ey.length≤1000000000) (O:aF 137 vt a5 (.slice a6 cs.length a1) cs a7) (U:aF 9 ew a5 (.slice Z ns.length ab) ns a8) (dT:bB a5 D y dC) (c4:St h g (aM [a4,Y]) a5 [a8,a7,dC,[(bs,Obj.cells #[vI o.Kind,vS o.aa,vL bm o.Data.length bo,vI o.ak,vI o.aJ,.bool o.aZ,.bool o.aN,.bool o.ah,vL bd o.aH.length ad] 36 (0,0))],Y] dE),At (bS prog B 65 f65 R) [] 5 [(0,vP D),(1,vI client),(3,vP I),(8,vL co (s.an.length) c3),(9,vL a6 cs.length a1),(10,vL Z ns.length ab),(24,vL bd o.aH.length ad),(25,vI (o.aH.length:Int)),(26,vI i)] dE:=by
  intro m;induction m with
  |zero=>intros;omega
  |succ m d0=>
   intro a5 am y cs ns i a6 a1 a7 Z ab a8 dC dE hm h0 h1 hI a3 hcl g9 bt b3 O U dT c4
   replace J:=J.mono am
   replace hP:=hP.mono am
   replace bc:=bc.mono am
   replace be:=be.mono am
   replace a0:=a0.mono am
   refine At.go 6 1 [(27,.bool (decide (i<(o.aH.length:Int))))]<|At.fd (i<(o.aH.length:Int)) 27 7 19 (fun k0=>?_) fun k1=>?_
   ·refine At.rp 6 1 [(28,vI i)] ?_
    obtain⟨u,V⟩:=cD o.aH i
    obtain⟨d1,c5,k2,k3,ha,hb,b4⟩:=ay.br bc _ V
    cases ha
    refine Op.iq 34 36 9 96 o.aH.length ad 24 26 29 d1 c5 i ?_
    replace b4:=mP.1 b4
    obtain⟨k4,k5,eJ,eK,b4⟩:=b4
    obtain⟨c6,c8,rfl⟩:=eJ.ai
    obtain⟨c9,da,rfl⟩:=eK.ai
    refine Op.la 36 29 30 (c5+i.toNat*9) 9 [vI u.Kind,vS u.aa,vL c6 u.Data.length c8,vI u.ak,vI u.aJ,.bool u.aZ,.bool u.aN,.bool u.ah,vL c9 u.aH.length da] (c4.sub _ _ hb) ?_ (hv:=b4)
    refine Op.al 12 36 fO c4 fun eL k6 he=>Op.px 1 [(11,vI i)]<|Op.sg 36 12 30 0 0 #[vI u.Kind,vS u.aa,vL c6 u.Data.length c8,vI u.ak,vI u.aJ,.bool u.aZ,.bool u.aN,.bool u.ah,vL c9 u.aH.length da] he zt fun k7 eQ=>Op.gt 8<|At.rp 13 2 [(32,vP D),(33,vI client)] ?_
    refine Op.la 36 12 34 0 9 [vI u.Kind,vS u.aa,vL c6 u.Data.length c8,vI u.ak,vI u.aJ,.bool u.aZ,.bool u.aN,.bool u.ah,vL c9 u.aH.length da] (eQ.ag 0 rfl) ?_
    have d2:=eQ.fs [2,2,2,3] rfl
    refine Op.cl (some 35) 1 d2 (J3 _ _ _ d2.sub J D y _ dT client u _ eJ _ eK hP (by(try dsimp only)<;>omega) (by((try dsimp only)<;>((have:=mm (cL V);have:=gu u;omega)))) (by((try dsimp only)<;>((have:=mm (cL V);have:=gu u;omega)))) (St.pt 1 d2)) ?_
    rintro _ d3 _ k8 b5 hf ⟨lb,eT,lc,f109,ar,aw,e1,rfl,hh,rfl,b6,bi,rfl⟩
    obtain⟨db,dc,rfl⟩:=hh.ai
    replace O:=O.mono b5
    replace U:=U.mono b5
    replace J:=J.mono b5
    replace be:=be.mono b5
    replace a0:=a0.mono b5
    refine Op.px 4 [(36,.agg #[vS ((bE y client u).aa),vL db (((bE y client u).Data).length) dc,vI ((bE y client u).ak),vI ((bE y client u).aE),vI ((bE y client u).Next),vI ((bE y client u).aO)]),(37,.agg #[vS (cK y client u),.func (.func f109) ar aw]),(38,vI (cc y client u))]<|Op.al 13 56 si hf fun dd lh hj=>Op.al 14 137 lG hj fun e2 li hl=>Op.sg 56 13 36 0 1 #[vS ((bE y client u).aa),vL db (((bE y client u).Data).length) dc,vI ((bE y client u).ak),vI ((bE y client u).aE),vI ((bE y client u).Next),vI ((bE y client u).aO)] hl zt fun lj hr=>Op.sg 137 14 37 0 0 #[vS (cK y client u),.func (.func f109) ar aw] hr zt fun lk df=>?_
    refine Op.pg 9 [(15,vI (cc y client u))]<|At.go 10 2 [(40,.bool ((cc y client u) != 0))]<|At.fn ((cc y client u)=0) 40 11 14 (fun ll=>?_) fun lm=>?_
    ·refine At.rp 6 3 [(43,vP D)] ?_
     obtain⟨e3,hu,ln,hw,lr,hx,lv,hy,lw,hA,hB,hC,hD,hE,hF,hG⟩:=bi
     have e4:=St.un [hu,hw,hx,hy,hA] hB (df.fs [1,1,2] rfl)
     refine Op.l1 70 43 44 0 (vP e3) (e4.ag 0 rfl)<|Op.px 1 [(45,vL co (s.an.length) c3)] ?_
     have d4:=e4.fs [1] rfl
     refine Op.cl (some 46) 1 d4 (fQ _ _ _ d4.sub J e3 ((cH y client u).an) _ hC _ _ be (by((try dsimp only)<;>((have:=ce.tree.1;omega)))) (by((try dsimp only)<;>(exact fun n hn=>(by have:=ce.tree.2 n hn;omega)))) (St.pt 1 d4)) ?_
     rintro _ hH _ lx hJ hK ⟨ly,rfl,hL,ci,rfl⟩;subst hH;clear hJ
     refine Op.gt 12<|At.rp 10 6 [(48,vP I),(49,vI (cc y client u)),(50,vI i),(52,vP I)] ?_
     obtain⟨lA,lL,hN,lO,hO,hQ,e5,e6,e7⟩:=a0
     obtain⟨e8,e9,rfl⟩:=e5.ai
     obtain⟨fa,n166,rfl⟩:=e6.ai
     obtain⟨fg,fi,rfl⟩:=e7.ai
     refine Op.s1 52 52 49 0 (vI (cc y client u)) 0 #[vI (cc y client u),vI x.bg,vI x.At,vS x.af.aa,vL e8 x.af.Data.length e9,vI x.af.ak,vI x.af.aE,vI x.af.Next,vI x.af.aO,vL fa x.bF.length n166,vL fg x.aW.length fi] (St.un [hN,hO] hQ (hK.fs [12,12,12,12,12,12,12,12,12,12,12,12,12,13] rfl)) zt fun l0 hS=>Op.px 2 [(54,vQ I 2)]<|Op.s1 3 54 50 2 (vI i) 0 #[vI (cc y client u),vI x.bg,vI i,vS x.af.aa,vL e8 x.af.Data.length e9,vI x.af.ak,vI x.af.aE,vI x.af.Next,vI x.af.aO,vL fa x.bF.length n166,vL fg x.aW.length fi] hS zt fun l2 hT=>Op.gt 13 ?_
     obtain⟨hV,hW,hX⟩:=St.bl (Q:=bB d3 D (⟨(if gS s.an=true then s.an else ((cH y client u).an)),(cH y client u).aD,(cH y client u).az,(cH y client u).ax,(cH y client u).count,(cH y client u).events,(cH y client u).aI⟩:Sp)) 6 (hT.fs [2,2,2,8,8,8,8,7,8] rfl) ⟨_,_,_,_,_,_,_,_,_,_,rfl,hL,hD,hE,hF,hG⟩
     obtain⟨hY,hZ,h2⟩:=St.bl (Q:=fF d3 I (⟨cc y client u,x.bg,i,⟨x.af.aa,x.af.Data,x.af.ak,x.af.aE,x.af.Next,x.af.aO⟩,x.bF,x.aW⟩:Result)) 3 (hX.fs [3,3,3] rfl) ⟨_,_,_,_,_,rfl,e5,e6,e7⟩
     exact At.rt dr<|hR (h2.fs [1,8,8,8,8,8,8,8] rfl).drop.drop.drop.drop.drop.drop.drop ⟨hV,hY,rfl,hW.eq (by exact(SF hI h0 V ‹_›).symm),hZ.eq (by exact(SG hI h0 V ‹_›).symm),rfl⟩
    have fj:∀(m:Nat) (d5:GH) (b8:aG d3 d5) (G:aj) (d6:av) (hm:0<m) (hnm:G=if u.Kind=3 then (bE y client u).aa else []) (a9:St h g (aM [a4,Y]) d5 [[(e2,Obj.cells #[vS (cK y client u),.func (.func f109) ar aw] 137 (0,0))],[(dd,Obj.cells #[vS G,vL db (((bE y client u).Data).length) dc,vI ((bE y client u).ak),vI ((bE y client u).aE),vI ((bE y client u).Next),vI ((bE y client u).aO)] 56 (0,0))],e1,eT,[(eL,Obj.cells #[vI u.Kind,vS u.aa,vL c6 u.Data.length c8,vI u.ak,vI u.aJ,.bool u.aZ,.bool u.aN,.bool u.ah,vL c9 u.aH.length da] 36 (0,0))],a8,a7,[(bs,Obj.cells #[vI o.Kind,vS o.aa,vL bm o.Data.length bo,vI o.ak,vI o.aJ,.bool o.aZ,.bool o.aN,.bool o.ah,vL (some ⟨d1,c5,none⟩) o.aH.length ad] 36 (0,0))],Y] d6),At (bS prog B 65 f65 R) [] 17 [(0,vP D),(1,vI client),(3,vP I),(8,vL co (s.an.length) c3),(9,vL a6 cs.length a1),(10,vL Z ns.length ab),(13,vP dd),(14,vP e2),(24,vL (some ⟨d1,c5,none⟩) o.aH.length ad),(25,vI (o.aH.length:Int)),(26,vI i)] d6:=by
     intro m;induction m with
     |zero=>intros;omega
     |succ m l3=>
      intro d5 b8 G d6 hm hnm a9
      replace O:=O.mono b8
      replace U:=U.mono b8
      replace b6:=b6.mono b8
      replace bi:=bi.mono b8
      refine At.tree (by kernel_rfl) (aM [e1,eT,a8,a7,Y]) (.mv 0 true (.mv 4 true (.mv 5 true (.mv 1 true (.mv 6 true (.gb 2 7 (.gb 3 7 (.mv 7 false (.mv 8 false (.mv 9 true (.mv 10 true .iN)))) (.mv 3 false (.mv 8 false (.mv 9 true (.mv 10 true .iN))))) (.mv 2 false (.mv 3 false (.mv 8 false (.mv 9 true (.mv 10 true .iN))))))))))) (by kernel_rfl)<|Op.px 3 [(59,vL a6 cs.length a1),(63,vL Z ns.length ab),(64,vP dd)]<|Op.jg (T:=137) (x:=14) (o:=0) (d:=60) (n:=2) (vs:=[vS (cK y client u),.func (.func f109) ar aw]) (by kernel_rfl) (by kernel_rfl) (by kernel_rfl) (a9.dF 0 [2,3,5,6,8] rfl rfl rfl) (a9.ag 0 rfl) (by kernel_rfl) rfl<|Op.lf 9 64 0 65 1 (vS G) (a9.dF 1 [2,3,5,6,8] rfl rfl rfl) (a9.ag 1 rfl)<|Op.fk ?_ ?_
      ·refine Op.ls 61 1 137 #[vS (cK y client u),.func (.func f109) ar aw] a9 fun l4 l8 d7=>Op.fk ?_ ?_
       ·refine Op.ap 59 61 190 190 62 137 24 vt (ys:=[(⟨cK y client u,(iY u),D⟩:iz)]) O d7 7 (⟨_,_,rfl,(.inr ⟨_,_,_,b6,rfl⟩),Reads.nil⟩) (by(have:=gu o;simp only[bL,cS];omega)) (fun p hq _=>⟨p,by simp[hq],rfl⟩) (di.lit (m:=1) (sz:=2) (d7.ag 0 rfl) (news:=[vS (cK y client u),.func (.func f109) ar aw]) rfl rfl (by simp[Value.oneCell']) _) fun ma md mf fl h3 mi=>?_
        obtain⟨h6,n197,rfl⟩:=fl.ai
        refine Op.ls 66 1 9 #[vS G] ((h3).drop) fun ml mp fp=>Op.ap 63 66 57 57 67 9 16 ew (ys:=[G]) U fp 6 (⟨_,_,rfl,rfl,Reads.nil⟩) (by(have:=gu o;simp only[bL,cS];omega)) (fun p hq _=>⟨p,by simp[hq],rfl⟩) (di.lit (m:=1) (sz:=1) (fp.ag 0 rfl) (news:=[vS G]) rfl rfl (by simp[Value.oneCell']) _) fun mx my m0 fr h7 m1=>?_
        obtain⟨h8,h9,rfl⟩:=fr.ai
        exact Op.pg 18 [(9,vL h6 ((cs++([(⟨cK y client u,(iY u),D⟩:iz)])).length) n197),(10,vL h8 ((ns++([G])).length) h9)]<|At.rg 2<|Op.dQ 68 (i+1) (by omega) (by(have:=gu o;omega))<|Op.pg 5 [(26,vI (i+1))]<|At.ke (d0 _ (aG.trans am (by repeat (first|assumption|apply aG.trans))) (cH y client u) (cs++([(⟨cK y client u,(iY u),D⟩:iz)])) (ns++([G])) (i+1) _ _ _ _ _ _ _ _ (by omega) (by omega) (by omega) (by(rw[hnm];exact Du hI h0 V ‹_›)) (by exact a3.oS _ _) (by(simp only[b_,bL,cS];omega)) (by(simp only[b_,bL,cS];omega)) (by exact Dx bt _ _) (by exact Dy b3 (by have:=As a3 (c:=client) u;have:=mm (cL V);have:=gu u;omega) _) fl fr bi ((((h7).drop).fs [2,6,6,6,6,6,6] rfl).drop.drop.drop.drop))
       refine Op.ls 66 1 9 #[vS G] d7 fun m2 m3 ft=>Op.ap 59 61 190 190 62 137 24 vt (ys:=[(⟨cK y client u,(iY u),D⟩:iz)]) O ft 8 (⟨_,_,rfl,(.inr ⟨_,_,_,b6,rfl⟩),Reads.nil⟩) (by(have:=gu o;simp only[bL,cS];omega)) (fun p hq _=>⟨p,by simp[hq],rfl⟩) (di.lit (m:=1) (sz:=2) (ft.ag 1 rfl) (news:=[vS (cK y client u),.func (.func f109) ar aw]) rfl rfl (by simp[Value.oneCell']) _) fun m4 m5 m6 fv ib m7=>?_
       obtain⟨a222,ih,rfl⟩:=fv.ai
       have fw:=(ib.fs [1] rfl).drop
       refine Op.ap 63 66 57 57 67 9 16 ew (ys:=[G]) U fw 6 (⟨_,_,rfl,rfl,Reads.nil⟩) (by(have:=gu o;simp only[bL,cS];omega)) (fun p hq _=>⟨p,by simp[hq],rfl⟩) (di.lit (m:=1) (sz:=1) (fw.ag 0 rfl) (news:=[vS G]) rfl rfl (by simp[Value.oneCell']) _) fun m8 m9 na fx ii nb=>?_
       obtain⟨ik,n232,rfl⟩:=fx.ai
       exact Op.pg 18 [(9,vL a222 ((cs++([(⟨cK y client u,(iY u),D⟩:iz)])).length) ih),(10,vL ik ((ns++([G])).length) n232)]<|At.rg 2<|Op.dQ 68 (i+1) (by omega) (by(have:=gu o;omega))<|Op.pg 5 [(26,vI (i+1))]<|At.ke (d0 _ (aG.trans am (by repeat (first|assumption|apply aG.trans))) (cH y client u) (cs++([(⟨cK y client u,(iY u),D⟩:iz)])) (ns++([G])) (i+1) _ _ _ _ _ _ _ _ (by omega) (by omega) (by omega) (by(rw[hnm];exact Du hI h0 V ‹_›)) (by exact a3.oS _ _) (by(simp only[b_,bL,cS];omega)) (by(simp only[b_,bL,cS];omega)) (by exact Dx bt _ _) (by exact Dy b3 (by have:=As a3 (c:=client) u;have:=mm (cL V);have:=gu u;omega) _) fv fx bi ((((ii).drop).fs [2,6,6,6,6,6,6] rfl).drop.drop.drop.drop))
      refine Op.ls 66 1 9 #[vS G] a9 fun nd nf il=>Op.ls 61 1 137 #[vS (cK y client u),.func (.func f109) ar aw] il fun nm nn f0=>Op.ap 59 61 190 190 62 137 24 vt (ys:=[(⟨cK y client u,(iY u),D⟩:iz)]) O f0 8 (⟨_,_,rfl,(.inr ⟨_,_,_,b6,rfl⟩),Reads.nil⟩) (by(have:=gu o;simp only[bL,cS];omega)) (fun p hq _=>⟨p,by simp[hq],rfl⟩) (di.lit (m:=1) (sz:=2) (f0.ag 0 rfl) (news:=[vS (cK y client u),.func (.func f109) ar aw]) rfl rfl (by simp[Value.oneCell']) _) fun no np nu f1 io nx=>?_
      obtain⟨ip,is,rfl⟩:=f1.ai
      have f2:=(io).drop
      refine Op.ap 63 66 57 57 67 9 16 ew (ys:=[G]) U f2 6 (⟨_,_,rfl,rfl,Reads.nil⟩) (by(have:=gu o;simp only[bL,cS];omega)) (fun p hq _=>⟨p,by simp[hq],rfl⟩) (di.lit (m:=1) (sz:=1) (f2.ag 0 rfl) (news:=[vS G]) rfl rfl (by simp[Value.oneCell']) _) fun nz n0 n3 f3 iv oi=>?_
      obtain⟨i0,n258,rfl⟩:=f3.ai
      exact Op.pg 18 [(9,vL ip ((cs++([(⟨cK y client u,(iY u),D⟩:iz)])).length) is),(10,vL i0 ((ns++([G])).length) n258)]<|At.rg 2<|Op.dQ 68 (i+1) (by omega) (by(have:=gu o;omega))<|Op.pg 5 [(26,vI (i+1))]<|At.ke (d0 _ (aG.trans am (by repeat (first|assumption|apply aG.trans))) (cH y client u) (cs++([(⟨cK y client u,(iY u),D⟩:iz)])) (ns++([G])) (i+1) _ _ _ _ _ _ _ _ (by omega) (by omega) (by omega) (by(rw[hnm];exact Du hI h0 V ‹_›)) (by exact a3.oS _ _) (by(simp only[b_,bL,cS];omega)) (by(simp only[b_,bL,cS];omega)) (by exact Dx bt _ _) (by exact Dy b3 (by have:=As a3 (c:=client) u;have:=mm (cL V);have:=gu u;omega) _) f1 f3 bi ((((iv).drop).fs [2,6,6,6,6,6,6] rfl).drop.drop.drop.drop))
    refine At.rp 3 1 [(55,vP eL)]<|Op.l1 3 55 56 0 (vI u.Kind) (df.ag 4 rfl)<|Op.pg 15 [(57,.bool (u.Kind != 3))]<|At.fn (u.Kind=3) 57 16 17 (fun oj=>?_) fun ol=>?_
    ·exact At.rp 2 1 [(58,vP dd)]<|Op.s1 9 58 (.const (vS [])) 0 (vS []) 1 #[vS [],vL db (((bE y client u).Data).length) dc,vI ((bE y client u).ak),vI ((bE y client u).aE),vI ((bE y client u).Next),vI ((bE y client u).aO)] df zt fun or i1=>Op.gt 17 (At.ke (fj _ _ (by repeat (first|assumption|exact aG.refl _|apply aG.trans)) [] _ (bK _) (by exact(aB ‹_›).symm) i1))
    exact At.ke (fj _ _ (by repeat (first|assumption|exact aG.refl _|apply aG.trans)) ((bE y client u).aa) _ (bK _) (by exact(aL ‹_›).symm) df)
   refine At.rp 5 4 [(70,vL Z ns.length ab),(72,vQ I 9)] ?_
   obtain⟨ow,o3,d8,o4,d9,i2,dg,i3,dj⟩:=a0
   obtain⟨ea,n276,rfl⟩:=dg.ai
   obtain⟨pa,pb,rfl⟩:=i3.ai
   obtain⟨eb,ed,rfl⟩:=dj.ai
   refine Op.s1 57 72 70 9 (vL Z ns.length ab) 0 #[vI x.Code,vI x.bg,vI x.At,vS x.af.aa,vL ea x.af.Data.length n276,vI x.af.ak,vI x.af.aE,vI x.af.Next,vI x.af.aO,vL Z ns.length ab,vL eb x.aW.length ed] (St.un [d8,d9] i2 (c4.fs [3,3,3,3,4] rfl)) zt fun pc i4=>Op.gt 20<|At.go 21 3 [(73,vL a6 cs.length a1),(74,vI (cs.length:Int)),(75,vI 0)] ?_
   have i5:∀(m:Nat) (ca:GH) (bb:aG a5 ca) (z:Sp) (q:Int) (cb:au) (ee:av) (hm:cs.length-q.toNat<m) (h4:0≤q) (h5:q≤cs.length) (f4:dH z) (hz:z=(cs.take q.toNat).foldl oa y) (ef:bB ca D z cb) (dk:St h g (aM [a4,Y]) ca [[(I,Obj.cells #[vI x.Code,vI x.bg,vI x.At,vS x.af.aa,vL ea x.af.Data.length n276,vI x.af.ak,vI x.af.aE,vI x.af.Next,vI x.af.aO,vL Z ns.length ab,vL eb x.aW.length ed] 59 (0,0))],d8,d9,a8,a7,cb,[(bs,Obj.cells #[vI o.Kind,vS o.aa,vL bm o.Data.length bo,vI o.ak,vI o.aJ,.bool o.aZ,.bool o.aN,.bool o.ah,vL bd o.aH.length ad] 36 (0,0))]] ee),At (bS prog B 65 f65 R) [] 21 [(73,vL a6 cs.length a1),(74,vI (cs.length:Int)),(75,vI q)] ee:=by
    intro m;induction m with
    |zero=>intros;omega
    |succ m i6=>
     intro ca bb z q cb ee hm h4 h5 f4 hz ef dk
     replace dg:=dg.mono bb
     replace dj:=dj.mono bb
     replace O:=O.mono bb
     replace U:=U.mono bb
     replace J:=J.mono bb
     refine At.go 22 1 [(76,.bool (decide (q<(cs.length:Int))))]<|At.fd (q<(cs.length:Int)) 76 23 26 (fun pd=>?_) fun pf=>?_
     ·refine At.rg 4 ?_
      obtain⟨X,dl⟩:=cD cs q
      obtain⟨i7,f5,ph,pj,i8,i9,eh⟩:=ig.br (O.toH dk 4 rfl) _ dl
      cases i8
      refine Op.iq 190 137 2 24 cs.length a1 73 75 77 i7 f5 q ?_
      have f6:X.fA≠0∧X.br=D:=by exact bt X (cL dl)
      obtain⟨f303,bj,bk,ej,eh⟩:=Sm f6.1 eh
      rw[f6.2] at ej
      refine Op.la 137 77 78 (f5+q.toNat*2) 2 [vS X.ey,.func (.func f303) bj bk] i9 ?_ (hv:=eh)
      refine Op.al 17 137 lG dk fun em pl jf=>Op.sg 137 17 78 0 0 #[vS X.ey,.func (.func f303) bj bk] jf zt fun pm en=>Op.gt 24<|At.rp 5 1 [(79,vQ em 1)]<|Op.l1 127 79 80 1 (.func (.func f303) bj bk) (en.ag 0 rfl) ?_
      refine Op.px 1 [(81,vP em)]<|Op.l1 9 81 82 0 (vS X.ey) (en.ag 0 rfl) ?_
      have eo:=en.fs [5,5,5,5,5,5,6] rfl
      refine Op.cv (some 83) 80 #[82] #[9] f303 bj bk [cb] [[(em,Obj.cells #[vS X.ey,.func (.func f303) bj bk] 137 (0,0))],[(I,Obj.cells #[vI x.Code,vI x.bg,vI x.At,vS x.af.aa,vL ea x.af.Data.length n276,vI x.af.ak,vI x.af.aE,vI x.af.Next,vI x.af.aO,vL Z ns.length ab,vL eb x.aW.length ed] 59 (0,0))],d8,d9,a8,a7,[(bs,Obj.cells #[vI o.Kind,vS o.aa,vL bm o.Data.length bo,vI o.ak,vI o.aJ,.bool o.aZ,.bool o.aN,.bool o.ah,vL bd o.aH.length ad] 36 (0,0))]] (bj++(#[vS X.ey]:Array Value)++bk) ej.JY (JZ (by kernel_rfl)) eo (J0 _ _ _ eo.sub J (hc:=ej) D z _ ef X.ey (by(try dsimp only)<;>omega) (by((try dsimp only)<;>(exact b3 _ (cL dl)))) (St.pt 1 eo)) (fun _ _ _=>trivial) ?_
      rintro _ po _ pu pv jj ⟨pw,rfl,jn,rfl⟩
      exact Op.gt 25<|At.rg 2<|Op.dQ 84 (q+1) (by omega) (by(have:=gu o;omega))<|Op.pg 21 [(75,vI (q+1))]<|At.ke (i6 _ (aG.trans bb (by repeat (first|assumption|apply aG.trans))) (kU z X.fA X.ey) (q+1) _ _ (by omega) (by omega) (by omega) (by exact f4.Ap _ _) (by exact SL hz h4 dl) jn ((jj.fs [6,6,6,6,6,6] rfl).drop))
     obtain⟨js,jt,j1⟩:=St.bl (Q:=fF ca I (⟨x.Code,x.bg,x.At,⟨x.af.aa,x.af.Data,x.af.ak,x.af.aE,x.af.Next,x.af.aO⟩,ns,x.aW⟩:Result)) 3 (dk.fs [1,2,3,3] rfl) ⟨_,_,_,_,_,rfl,dg,U,dj⟩
     exact At.rt dr<|hR (j1.fs [3,4,4,4] rfl).drop.drop.drop ⟨cb,js,rfl,ef.eq (by exact SI hI h0 h1 ‹_› hz ‹_›),jt.eq (by exact SJ hI h0 h1 ‹_›),rfl⟩
   exact At.ke (i5 _ _ (aG.refl _) y 0 _ _ (bK _) (by omega) (by omega) (by exact a3) (by rfl) dT i4)
 have j2:=aF.zero 137 vt ck none
 have kc:=aF.zero 9 ew ck none
 exact At.ke (g8 _ _ (aG.refl _) s [] [] 0 _ _ _ _ _ _ _ _ (bK _) (by omega) (by omega) (by exact Sr) (by exact ce) (by(have:=gu o;simp only[bL,cS];omega)) (by(have:=gu o;simp only[bL,cS];omega)) (by exact fun c h=>absurd h (by simp)) (by exact fun c h=>absurd h (by simp)) j2 kc g6 g7.nl.nl)
def oT (list:List ah) (i:Int):Prop:=(∀x∈list.take i.toNat,fP x=true)∧(list.take i.toNat).Pairwise fun a b=>a.Client≤b.Client
def tX (list:List ah):Prop:=(∀x∈list,fP x=true)∧list.Pairwise fun a b=>a.Client≤b.Client
def vw (ws:List ah) (ev:gL):Prop:=∀p∈ev,(p.2.length:Int)+cnt p.1 ws≤8
def jo (ws list:List ah):Prop:=tX list∧vw ws (eV [] list)
instance (list:List ah):Decidable (tX list):=by unfold tX;infer_instance
instance (ws:List ah) (ev:gL):Decidable (vw ws ev):=by unfold vw;infer_instance
instance (ws list:List ah):Decidable (jo ws list):=by unfold jo;infer_instance
def qQ (ev:gL) (ws:List ah) (rs ks:List (Int×Value)):Prop:=(∀p∈rs,p∈ks)∧(rs.map (·.1)).Nodup∧∀p∈ev,jI rs p.1=false→(p.2.length:Int)+cnt p.1 ws≤8
section
variable {list ws:List ah} {i:Int} {x p:ah} {ev:gL} {rs ks a b:List (Int×Value)} {k:Int} {v:Value} {xs:List ah}
theorem SO (list:List ah):oT list 0:=⟨fun s h=>by simp at h,by simp⟩
theorem J_ (H:oT list i) (h0:0≤i) (hs:list[i.toNat]?=some x) (hr:fP x=true) (hp:∀p,0<i→list[(i-1).toNat]?=some p→p.Client≤x.Client):oT list (i+1):=by
  unfold oT at *
  rw[toNat_succ h0,fu hs]
  refine⟨fun q hq=>?_,?_⟩
  · rcases cU.1 hq with hq|hq
    · exact H.1 q hq
    · rw[gv.1 hq];exact hr
  · rw[qF]
    refine⟨H.2,by simp,fun a ha b hb=>?_⟩
    rw[gv.1 hb]
    obtain⟨j,hj⟩:=nh.1 ha
    rw[o7] at hj
    split at hj
    · rename_i hlt
      have G:=(dL.1 hs).1
      obtain⟨p,hp1⟩:∃p,list[(i-1).toNat]?=some p:=⟨_,kE (by omega)⟩
      have hps:=hp p (by omega) hp1
      by_cases he:j=(i-1).toNat
      · subst he;rw[hj] at hp1;rw[fT hp1];exact hps
      · have u:=H.2
        rw[oB] at u
        have l1:j<(list.take i.toNat).length:=by rw[dD];omega
        have D:(i-1).toNat<(list.take i.toNat).length:=by rw[dD];omega
        have:=u j (i-1).toNat l1 D (by omega)
        rw[uZ,uZ] at this
        have e1:=(dL.1 hj).2
        have e2:=(dL.1 hp1).2
        rw[e1,e2] at this
        omega
    · cases hj
theorem Au (H:oT list i) (h0:0≤i) (hs:list[i.toNat]?=some x) (hr:fP x=true) (hn:¬i>0):oT list (i+1):=J_ H h0 hs hr fun p hp=>by omega
theorem Av (H:oT list i) (h0:0≤i) (hs:list[i.toNat]?=some x) (hr:fP x=true) (hp:list[(i-1).toNat]?=some p) (hc:¬p.Client>x.Client):oT list (i+1):=J_ H h0 hs hr fun q _ hq=>by
  rw[hp] at hq
  obtain rfl:=fT hq
  omega
theorem SP (H:oT list i) (h:¬i<(list.length:Int)):tX list:=by
  unfold oT at H
  rw[eR (by omega)] at H
  exact H
theorem Ka (hs:list[i.toNat]?=some x) (h:fP x=false):¬jo ws list:=fun H=>by rw[H.1.1 x (cL hs)] at h;cases h
theorem Kb (h0:0<i) (hs:list[i.toNat]?=some x) (hp:list[(i-1).toNat]?=some p) (h:p.Client>x.Client):¬jo ws list:=fun H=>by
  have u:=H.1.2
  rw[oB] at u
  obtain⟨l1,e1⟩:=dL.1 hp
  obtain⟨D,e2⟩:=dL.1 hs
  have:=u _ _ l1 D (by omega)
  rw[e1,e2] at this
  omega
theorem SQ {T:TypeId} {d:Kd ah} {g:GH} {F:au} (H:jX T d g ks ev F):qQ ev ws ks ks:=by
  obtain⟨y,hK,rfl,h3⟩:=H
  refine⟨fun p hp=>hp,hK.2.1,fun p hp h=>?_⟩
  obtain⟨q,hq,rfl⟩:=cF.1 hp
  have:=hK.2.2.1.mem_iff.2 (cF.2 ⟨q,hq,rfl⟩)
  obtain⟨r,hr,e⟩:=cF.1 this
  rw[rP.2 ⟨r,hr,e⟩] at h
  cases h
theorem qQ.mem (H:qQ ev ws rs ks) (e:rs=a++(k,v)::b):(k,v)∈ks:=H.1 _ (by rw[e];simp)
theorem qQ.step (H:qQ ev ws rs ks) (e:rs=a++(k,v)::b) (hs:fJ ev) (hf:bW ev k=some xs) (hn:(xs.length:Int)+cnt k ws≤8):qQ ev ws (a++b) ks:=by
  obtain⟨h1,h2,h3⟩:=H
  refine⟨fun p hp=>h1 p (by rw[e];rcases cU.1 hp with hp|hp<;>simp[hp]),?_,fun p hp h=>?_⟩
  · rw[e] at h2
    refine s_ (zu _ ?_) h2
    exact(zw a).append (zx _ _)
  · rw[pT e h2] at h
    by_cases hk:p.1=k
    · have h4:=(ki hs).2 (show(k,p.2)∈ev by rw[←hk];exact hp)
      rw[hf] at h4
      rw[hk,←fT h4]
      exact hn
    · simp only[hk,s5,qw,lB] at h
      exact h3 p hp h
theorem qQ.iN (H:qQ ev ws rs ks) (e:rs=[]):vw ws ev:=fun p hp=>H.2.2 p hp (by rw[e];rfl)
theorem SR {n:Int} (hf:bW (eV [] list) k=some xs) (hs:fJ (eV [] list)) (hn:n=(xs.length:Int)+cnt k ws) (h:n>8):¬jo ws list:=fun H=>by
  have:=H.2 (k,xs) ((ki hs).1 hf)
  simp only at this
  omega
theorem Kc {n:Int} (he:ev=eV [] list) (hs:fJ ev) (hf:bW ev k=some xs) (hn:n=(xs.length:Int)+cnt k ws) (h:n>8):¬jo ws list:=by subst he;exact SR hf hs hn h
theorem xU (he:ev=eV [] (list.take i.toNat)) (hf:bW ev k=some xs):xs.length≤list.length:=by
  have h1:eE ev k=xs:=by unfold eE;rw[hf];rfl
  rw[he,Aj] at h1
  rw[←h1,b_]
  have:=kG (fun w:ah=>decide (w.Client=k)) (list.take i.toNat)
  rw[dD] at this
  show 0+_≤_
  omega
theorem SS (he:ev=eV [] list) (hf:bW ev k=some xs):xs.length≤list.length:=xU (i:=list.length) (by rw[Ao,uw];exact he) hf
theorem Dz (h:¬jo ws list):false=decide (jo ws list):=(fU h).symm
theorem SU (h1:tX list) (h2:vw ws (eV [] list)):true=decide (jo ws list):=(eW (p:=jo ws list) ⟨h1,h2⟩).symm
theorem SV (h:ev=eV [] (list.take i.toNat)) (hi:¬i<(list.length:Int)):ev=eV [] list:=by
  rw[eR (by omega)] at h
  exact h
theorem DA {n:Int} {c:Int} (h:n-(xs.length:Int)+(cnt c (ws.drop i.toNat):Int)=cnt c ws) (hi:¬i<(ws.length:Int)):n=(xs.length:Int)+cnt c ws:=by
  have:=p4 (n:=n-xs.length) h hi
  omega
end
theorem SW (B:World) (h:av) (g:GH) (hg:bf g h) (a7:bh g) (I:Nat) (s:Sp) (a1:au) (ho:bB g I s a1) (eB:Value) (list:List ah) (bj:ay g 69 cu eB list) (hE:s.events=[]) (hS:iX s.aD) (nz:s.aD.length≤1000) (hl:list.length≤1000000) (hp:∀w∈list,w.aa.length≤1000000000) (hs:St h g (aM [a1]) g [a1] h):
  aA prog B 36 #[vP I,eB] h g [a1] (fun hr g' L'=>∃eI eJ,hr=.bool (decide (jo s.aD list))∧(jo s.aD list→eI={s with events:=eV [] list})∧bB g' I eI eJ∧L'=[eJ]):=by
 obtain⟨dg,a8,rfl⟩:=bj.ai
 refine aA.aq func36 fun R hR=>At.go 1 1 []<|At.go 2 3 [(12,vL dg list.length a8),(13,vI (list.length:Int)),(14,vI 0)] ?_
 obtain⟨dj,ca,a9,eK,dk,cb,G,hu,dl,ce,hw,Y,bk,Z,hx,ab⟩:=ho
 have hy:∀(m:Nat) (O:GH) (U:aG g O) (e:gL) (i:Int) (bm:au) (dp:av) (hm:list.length-i.toNat<m) (h0:0≤i) (h1:i≤list.length) (hI:oT list i) (he:e=eV [] (list.take i.toNat)) (ar:gM O G e bm) (bo:St h g (aM [a1]) O [[(I,Obj.cells #[vP dj,vP a9,vP dk,vI s.ax,vI s.count,.map (some G),.map (some dl)] 79 (0,0))],ca,eK,cb,bm,ce] dp),At (bS prog B 36 f36 R) [] 2 [(0,vP I),(1,vL dg list.length a8),(12,vL dg list.length a8),(13,vI (list.length:Int)),(14,vI i)] dp:=by
  intro m;induction m with
  |zero=>intros;omega
  |succ m aw=>
   intro O U e i bm dp hm h0 h1 hI he ar bo
   replace Y:=Y.mono U
   replace bk:=bk.mono U
   replace Z:=Z.mono U
   replace ab:=ab.mono U
   replace a7:=a7.mono U
   replace bj:=bj.mono U
   refine At.go 3 1 [(15,.bool (decide (i<(list.length:Int))))]<|At.fd (i<(list.length:Int)) 15 4 11 (fun n0=>?_) fun n3=>?_
   ·refine At.rp 6 1 [(16,vI i)] ?_
    obtain⟨u,J⟩:=cD list i
    obtain⟨cf,bb,oi,oj,hA,hB,dq⟩:=ay.br bj _ J
    cases hA
    refine Op.iq 42 69 3 32 list.length a8 12 14 17 cf bb i ?_
    replace dq:cut _ _ _=[vI u.Client,vI u.Kind,vS u.aa]:=dq
    refine Op.la 69 17 18 (bb+i.toNat*3) 3 [vI u.Client,vI u.Kind,vS u.aa] (bo.sub _ _ hB) ?_ (hv:=dq)
    refine Op.al 6 69 ko bo fun ae ol hC=>Op.px 1 [(5,vI i)]<|Op.sg 69 6 18 0 0 #[vI u.Client,vI u.Kind,vS u.aa] hC zt fun or ch=>Op.gt 5<|At.dw (fun _=>False) [(0,false),(1,false),(2,true),(3,true),(4,true),(5,true),(6,true),(7,true),(8,true),(9,true),(10,true),(11,true),(13,true),(12,true),(14,false),(15,true),(16,true),(17,true)] ?_
    refine Op.la 69 6 19 0 3 [vI u.Client,vI u.Kind,vS u.aa] (ch.ag 0 rfl)<|Op.c1 20 (Dp _ _ _ ch.sub a7 u (by((try dsimp only)<;>(exact hp _ (cL J))))) ch fun ow D=>Op.px 2 [(22,.bool (!(fP u)))]<|Op.wb (!(fP u)) 22 (fun eL=>?_) fun eQ=>?_
    ·replace eL:=(dm eL)
     refine Op.pg 6 [(36,vT)]<|At.bX 36 7<|At.go 8 1 [(4,vF)] ?_
     obtain⟨hD,hF,hG⟩:=St.bl (Q:=bB O I (⟨s.an,s.aD,s.az,s.ax,s.count,e,s.aI⟩:Sp)) 6 (D.fs [6,6,6,6,6,6] rfl) ⟨_,_,_,_,_,_,_,_,_,_,rfl,Y,bk,Z,ar,ab⟩
     exact At.rt vF<|hR (hG.fs [1] rfl).drop ⟨(⟨s.an,s.aD,s.az,s.ax,s.count,e,s.aI⟩:Sp),hD,(aS (by exact Dz (Ka J ‹_›))),(by exact fun hok=>absurd hok (Ka J ‹_›)),hF,rfl⟩
    replace eQ:=(dn eQ)
    refine Op.px 3 [(25,.bool (decide (i>0)))]<|Op.wd (i>0) 25 (fun o3=>?_) fun o4=>?_
    ·refine Op.px 2 [(26,vL (some ⟨cf,bb,none⟩) list.length a8),(27,vI i)]<|Op.vq 28 (i-1) ?_
     obtain⟨bc,a3⟩:=cD list (i-1)
     obtain⟨pa,pb,pc,pd,hH,hJ,du⟩:=ay.br bj _ a3
     cases hH
     refine Op.iq 42 69 3 32 list.length a8 26 28 29 cf bb (i-1) ?_
     replace du:cut _ _ _=[vI bc.Client,vI bc.Kind,vS bc.aa]:=du
     refine Op.px 2 [(30,vQ cf (bb+(i-1:Int).toNat*3)),(32,vP ae)]<|Op.fQ (T:=3) (x:=30) (o:=bb+(i-1:Int).toNat*3) (d:=31) (n:=1) (v:=vI bc.Client) (by kernel_rfl) (by kernel_rfl) (by kernel_rfl) id (ch.sub _ _ hJ) (cT du 0 rfl)<|Op.l1 3 32 33 0 (vI u.Client) (D.ag 0 rfl)<|Op.pg 6 [(36,.bool (decide (bc.Client>u.Client)))]<|At.fd (bc.Client>u.Client) 36 7 9 (fun pf=>?_) fun ph=>?_
     ·refine At.go 8 1 [(4,vF)] ?_
      obtain⟨hK,hL,hN⟩:=St.bl (Q:=bB O I (⟨s.an,s.aD,s.az,s.ax,s.count,e,s.aI⟩:Sp)) 6 (D.fs [6,6,6,6,6,6] rfl) ⟨_,_,_,_,_,_,_,_,_,_,rfl,Y,bk,Z,ar,ab⟩
      exact At.rt vF<|hR (hN.fs [1] rfl).drop ⟨(⟨s.an,s.aD,s.az,s.ax,s.count,e,s.aI⟩:Sp),hK,(aS (by exact Dz (Kb (by omega) J a3 ‹_›))),(by exact fun hok=>absurd hok (Kb (by omega) J a3 ‹_›)),hL,rfl⟩
     refine At.gb (by kernel_rfl) (aM [bm]) [(0,true),(1,true),(2,true),(4,true),(6,true),(7,true),(8,true),(10,true),(3,true),(5,true),(9,true),(11,true),(13,true)] [(12,false),(14,false),(15,false),(16,false)] [(14,false),(12,false),(15,false),(16,false)] (by kernel_rfl) ?_ ?_
     ·show Op _ _ _ _ _ [(0,true),(1,true),(2,true),(4,true),(6,true),(7,true),(8,true),(10,true),(3,true),(5,true),(9,true),(11,true),(13,true),(12,false),(14,false),(15,false),(16,false)] _ _
      refine Op.px 8 [(39,vQ I 5),(41,vP ae),(45,vQ I 5),(47,vP ae)]<|Op.lf 76 39 5 40 1 (.map (some G)) (D.dF 1 [5] rfl rfl rfl) (D.ag 1 rfl)<|Op.lf 3 41 0 42 1 (vI u.Client) (D.dF 0 [5] rfl rfl rfl) (D.ag 0 rfl)<|Op.lf 76 45 5 46 1 (.map (some G)) (D.dF 1 [5] rfl rfl rfl) (D.ag 1 rfl)<|Op.lf 3 47 0 48 1 (vI u.Client) (D.dF 0 [5] rfl rfl rfl) (D.ag 0 rfl) ?_
      refine Op.jg (T:=69) (x:=6) (o:=0) (d:=50) (n:=3) (vs:=[vI u.Client,vI u.Kind,vS u.aa]) (by kernel_rfl) (by kernel_rfl) (by kernel_rfl) (D.dF 0 [5] rfl rfl rfl) (D.ag 0 rfl) (by kernel_rfl) rfl ?_
      obtain⟨eT,e1,pj,hO,ci,ck,hP⟩:=ar
      have dv:=St.un [hO] ci (D.fs [4,4,4,4,4,5] rfl)
      rcases hP.gy u.Client with ⟨dC,hQ,dE⟩|⟨pl,bs,pm,po,dC,hQ,e2,e3,dE⟩
      ·refine Op.mn (.slice none 0 0) 76 46 48 49 u.Client (dv.ag 0 rfl) ck dC<|Op.ls 51 1 69 #[vI u.Client,vI u.Kind,vS u.aa] dv fun pu pv hT=>?_
       have e4:=hT.nl
       have hV:=aF.nil 69 cu O
       refine Op.ap 49 51 42 42 52 69 32 cu (ys:=[u]) hV e4 0 (⟨_,_,rfl,rfl,Reads.nil⟩) (by(simp only[bL,cS];omega)) (fun p hq _=>absurd hq (by simp)) (di.lit (m:=1) (sz:=3) (e4.ag 1 rfl) (news:=[vI u.Client,vI u.Kind,vS u.aa]) rfl rfl (by simp[Value.oneCell']) _) fun pw py pA e5 hW pB=>?_
       obtain⟨a116,e6,rfl⟩:=e5.ai
       refine Op.jQ (d:=.int .i64) (z:=.slice none 0 0) (mt:=76) (x:=40) (ix:=42) (y:=52) (k:=u.Client) (v:=vL a116 ((([]:List ah)++([u])).length) e6) (.inl (by kernel_rfl)) (by kernel_rfl) iu (by kernel_rfl) (by kernel_rfl) (by kernel_rfl) ((hW.fs [1] rfl).drop) 1 rfl ck (fun _=>⟨(G,.map eT e1),by simp[ci],rfl⟩) fun pC pD p0 hX hY=>?_
       have hZ:=dE.1 _ (vL a116 ((([]:List ah)++([u])).length) e6) _ _ (aG.refl _) e5
       refine Op.gt 10<|At.rg 2<|Op.vq 53 (i+1)<|Op.pg 2 [(14,vI (i+1))] ?_
       obtain⟨p1,h2,h3⟩:=St.bl (Q:=gM O G (b7 e u.Client (([]:List ah)++([u])))) 2 ((St.mg 2 (hY.fs [1,2,2] rfl)).fs [1] rfl) ⟨_,_,_,_,rfl,hX,hZ⟩
       exact At.ke (aw _ U (b7 e u.Client (([]:List ah)++([u]))) (i+1) _ _ (by omega) (by omega) (by omega) (by exact Av hI h0 J ‹_› a3 ‹_›) (by exact vm he h0 J ‹_›) h2 ((h3.fs [5,5,5,5,5] rfl).drop))
      obtain⟨h4,h9,rfl⟩:=e2.ai
      have e7:=St.nW e3 (dv.fs [1] rfl)
      refine Op.mk (.slice none 0 0) 76 46 48 49 u.Client (vL h4 bs.length h9) (e7.ag 2 rfl) ck dC<|Op.ls 51 1 69 #[vI u.Client,vI u.Kind,vS u.aa] e7 fun p2 p3 e8=>Op.ap 49 51 42 42 52 69 32 cu (ys:=[u]) e2 e8 1 (⟨_,_,rfl,rfl,Reads.nil⟩) (by(have:=xU he ‹_›;simp only[bL,cS];omega)) (fun p hq _=>⟨p,by simp[ci,e3.mem_iff,hq],rfl⟩) (di.lit (m:=1) (sz:=3) (e8.ag 0 rfl) (news:=[vI u.Client,vI u.Kind,vS u.aa]) rfl rfl (by simp[Value.oneCell']) _) fun p8 qr q0 e9 ib q1=>?_
      obtain⟨a146,fa,rfl⟩:=e9.ai
      refine Op.jQ (d:=.int .i64) (z:=.slice none 0 0) (mt:=76) (x:=40) (ix:=42) (y:=52) (k:=u.Client) (v:=vL a146 ((bs++([u])).length) fa) (.inl (by kernel_rfl)) (by kernel_rfl) iu (by kernel_rfl) (by kernel_rfl) (by kernel_rfl) ((ib).drop) 2 rfl ck (fun _=>⟨(G,.map eT e1),by simp[ci],rfl⟩) fun q2 q3 rb ih ii=>?_
      have ik:=dE.1 _ (vL a146 ((bs++([u])).length) fa) _ _ (aG.refl _) e9
      refine Op.gt 10<|At.rg 2<|Op.vq 53 (i+1)<|Op.pg 2 [(14,vI (i+1))] ?_
      obtain⟨rc,il,io⟩:=St.bl (Q:=gM O G (b7 e u.Client (bs++([u])))) 2 ((St.mg 2 ii).fs [1] rfl) ⟨_,_,_,_,rfl,ih,ik⟩
      exact At.ke (aw _ U (b7 e u.Client (bs++([u]))) (i+1) _ _ (by omega) (by omega) (by omega) (by exact Av hI h0 J ‹_› a3 ‹_›) (by exact vn he h0 J ‹_›) il ((io.fs [5,5,5,5,5] rfl).drop))
     show Op _ _ _ _ _ [(0,true),(1,true),(2,true),(4,true),(6,true),(7,true),(8,true),(10,true),(3,true),(5,true),(9,true),(11,true),(13,true),(14,false),(12,false),(15,false),(16,false)] _ _
     refine Op.px 8 [(39,vQ I 5),(41,vP ae),(45,vQ I 5),(47,vP ae)]<|Op.lf 76 39 5 40 1 (.map (some G)) (D.dF 1 [5] rfl rfl rfl) (D.ag 1 rfl)<|Op.lf 3 41 0 42 1 (vI u.Client) (D.dF 0 [5] rfl rfl rfl) (D.ag 0 rfl)<|Op.lf 76 45 5 46 1 (.map (some G)) (D.dF 1 [5] rfl rfl rfl) (D.ag 1 rfl)<|Op.lf 3 47 0 48 1 (vI u.Client) (D.dF 0 [5] rfl rfl rfl) (D.ag 0 rfl) ?_
     refine Op.jg (T:=69) (x:=6) (o:=0) (d:=50) (n:=3) (vs:=[vI u.Client,vI u.Kind,vS u.aa]) (by kernel_rfl) (by kernel_rfl) (by kernel_rfl) (D.dF 0 [5] rfl rfl rfl) (D.ag 0 rfl) (by kernel_rfl) rfl<|Op.ls 51 1 69 #[vI u.Client,vI u.Kind,vS u.aa] D fun rd re ip=>?_
     obtain⟨fg,fi,rf,is,co,c3,iv⟩:=ar
     have dT:=St.un [is] co (ip.fs [5,5,5,5,5,5,6] rfl)
     rcases iv.gy u.Client with ⟨d0,i0,d1⟩|⟨rh,bt,rk,rr,d0,i0,fj,fl,d1⟩
     ·refine Op.mn (.slice none 0 0) 76 46 48 49 u.Client (dT.ag 0 rfl) c3 d0 ?_
      have fp:=dT.nl
      have i1:=aF.nil 69 cu O
      refine Op.ap 49 51 42 42 52 69 32 cu (ys:=[u]) i1 fp 0 (⟨_,_,rfl,rfl,Reads.nil⟩) (by(simp only[bL,cS];omega)) (fun p hq _=>absurd hq (by simp)) (di.lit (m:=1) (sz:=3) (fp.ag 3 rfl) (news:=[vI u.Client,vI u.Kind,vS u.aa]) rfl rfl (by simp[Value.oneCell']) _) fun rv rx r0 fr i2 r1=>?_
      obtain⟨ft,fv,rfl⟩:=fr.ai
      refine Op.jQ (d:=.int .i64) (z:=.slice none 0 0) (mt:=76) (x:=40) (ix:=42) (y:=52) (k:=u.Client) (v:=vL ft ((([]:List ah)++([u])).length) fv) (.inl (by kernel_rfl)) (by kernel_rfl) iu (by kernel_rfl) (by kernel_rfl) (by kernel_rfl) ((i2.fs [3] rfl).drop) 1 rfl c3 (fun _=>⟨(G,.map fg fi),by simp[co],rfl⟩) fun r2 r3 sc i3 i4=>?_
      have i5:=d1.1 _ (vL ft ((([]:List ah)++([u])).length) fv) _ _ (aG.refl _) fr
      refine Op.gt 10<|At.rg 2<|Op.vq 53 (i+1)<|Op.pg 2 [(14,vI (i+1))] ?_
      obtain⟨sd,i6,i7⟩:=St.bl (Q:=gM O G (b7 e u.Client (([]:List ah)++([u])))) 2 ((St.mg 2 (i4.fs [1,2,2] rfl)).fs [1] rfl) ⟨_,_,_,_,rfl,i3,i5⟩
      exact At.ke (aw _ U (b7 e u.Client (([]:List ah)++([u]))) (i+1) _ _ (by omega) (by omega) (by omega) (by exact Av hI h0 J ‹_› a3 ‹_›) (by exact vm he h0 J ‹_›) i6 ((i7.fs [5,5,5,5,5] rfl).drop))
     obtain⟨i8,i9,rfl⟩:=fj.ai
     have d2:=St.nW fl (dT.fs [1] rfl)
     refine Op.mk (.slice none 0 0) 76 46 48 49 u.Client (vL i8 bt.length i9) (d2.ag 2 rfl) c3 d0<|Op.ap 49 51 42 42 52 69 32 cu (ys:=[u]) fj d2 0 (⟨_,_,rfl,rfl,Reads.nil⟩) (by(have:=xU he ‹_›;simp only[bL,cS];omega)) (fun p hq _=>⟨p,by simp[co,fl.mem_iff,hq],rfl⟩) (di.lit (m:=1) (sz:=3) (d2.ag 3 rfl) (news:=[vI u.Client,vI u.Kind,vS u.aa]) rfl rfl (by simp[Value.oneCell']) _) fun v212 sf sh fw jf sk=>?_
     obtain⟨a218,n219,rfl⟩:=fw.ai
     refine Op.jQ (d:=.int .i64) (z:=.slice none 0 0) (mt:=76) (x:=40) (ix:=42) (y:=52) (k:=u.Client) (v:=vL a218 ((bt++([u])).length) n219) (.inl (by kernel_rfl)) (by kernel_rfl) iu (by kernel_rfl) (by kernel_rfl) (by kernel_rfl) ((jf.fs [3] rfl).drop) 2 rfl c3 (fun _=>⟨(G,.map fg fi),by simp[co],rfl⟩) fun sm so ss jj jn=>?_
     have js:=d1.1 _ (vL a218 ((bt++([u])).length) n219) _ _ (aG.refl _) fw
     refine Op.gt 10<|At.rg 2<|Op.vq 53 (i+1)<|Op.pg 2 [(14,vI (i+1))] ?_
     obtain⟨sA,jt,j1⟩:=St.bl (Q:=gM O G (b7 e u.Client (bt++([u])))) 2 ((St.mg 2 jn).fs [1] rfl) ⟨_,_,_,_,rfl,jj,js⟩
     exact At.ke (aw _ U (b7 e u.Client (bt++([u]))) (i+1) _ _ (by omega) (by omega) (by omega) (by exact Av hI h0 J ‹_› a3 ‹_›) (by exact vn he h0 J ‹_›) jt ((j1.fs [5,5,5,5,5] rfl).drop))
    refine Op.pg 6 [(36,vF)]<|At.dP 36 9<|At.gb (by kernel_rfl) (aM [bm]) [(0,true),(1,true),(2,true),(4,true),(6,true),(7,true),(8,true),(10,true),(3,true),(5,true),(9,true),(11,true),(13,true)] [(12,false),(14,false),(15,false),(16,false)] [(14,false),(12,false),(15,false),(16,false)] (by kernel_rfl) ?_ ?_
    ·show Op _ _ _ _ _ [(0,true),(1,true),(2,true),(4,true),(6,true),(7,true),(8,true),(10,true),(3,true),(5,true),(9,true),(11,true),(13,true),(12,false),(14,false),(15,false),(16,false)] _ _
     refine Op.px 8 [(39,vQ I 5),(41,vP ae),(45,vQ I 5),(47,vP ae)]<|Op.lf 76 39 5 40 1 (.map (some G)) (D.dF 1 [5] rfl rfl rfl) (D.ag 1 rfl)<|Op.lf 3 41 0 42 1 (vI u.Client) (D.dF 0 [5] rfl rfl rfl) (D.ag 0 rfl)<|Op.lf 76 45 5 46 1 (.map (some G)) (D.dF 1 [5] rfl rfl rfl) (D.ag 1 rfl)<|Op.lf 3 47 0 48 1 (vI u.Client) (D.dF 0 [5] rfl rfl rfl) (D.ag 0 rfl) ?_
     refine Op.jg (T:=69) (x:=6) (o:=0) (d:=50) (n:=3) (vs:=[vI u.Client,vI u.Kind,vS u.aa]) (by kernel_rfl) (by kernel_rfl) (by kernel_rfl) (D.dF 0 [5] rfl rfl rfl) (D.ag 0 rfl) (by kernel_rfl) rfl ?_
     obtain⟨fx,f0,sB,j2,c4,c5,kc⟩:=ar
     have d3:=St.un [j2] c4 (D.fs [4,4,4,4,4,5] rfl)
     rcases kc.gy u.Client with ⟨d4,kd,d5⟩|⟨sT,b3,s0,s2,d4,kd,f1,f2,d5⟩
     ·refine Op.mn (.slice none 0 0) 76 46 48 49 u.Client (d3.ag 0 rfl) c5 d4<|Op.ls 51 1 69 #[vI u.Client,vI u.Kind,vS u.aa] d3 fun s3 s4 kh=>?_
      have f3:=kh.nl
      have kk:=aF.nil 69 cu O
      refine Op.ap 49 51 42 42 52 69 32 cu (ys:=[u]) kk f3 0 (⟨_,_,rfl,rfl,Reads.nil⟩) (by(simp only[bL,cS];omega)) (fun p hq _=>absurd hq (by simp)) (di.lit (m:=1) (sz:=3) (f3.ag 1 rfl) (news:=[vI u.Client,vI u.Kind,vS u.aa]) rfl rfl (by simp[Value.oneCell']) _) fun s8 ta te f4 kl ti=>?_
      obtain⟨f5,n264,rfl⟩:=f4.ai
      refine Op.jQ (d:=.int .i64) (z:=.slice none 0 0) (mt:=76) (x:=40) (ix:=42) (y:=52) (k:=u.Client) (v:=vL f5 ((([]:List ah)++([u])).length) n264) (.inl (by kernel_rfl)) (by kernel_rfl) iu (by kernel_rfl) (by kernel_rfl) (by kernel_rfl) ((kl.fs [1] rfl).drop) 1 rfl c5 (fun _=>⟨(G,.map fx f0),by simp[c4],rfl⟩) fun tk tl tm km kv=>?_
      have kw:=d5.1 _ (vL f5 ((([]:List ah)++([u])).length) n264) _ _ (aG.refl _) f4
      refine Op.gt 10<|At.rg 2<|Op.vq 53 (i+1)<|Op.pg 2 [(14,vI (i+1))] ?_
      obtain⟨tp,kx,kA⟩:=St.bl (Q:=gM O G (b7 e u.Client (([]:List ah)++([u])))) 2 ((St.mg 2 (kv.fs [1,2,2] rfl)).fs [1] rfl) ⟨_,_,_,_,rfl,km,kw⟩
      exact At.ke (aw _ U (b7 e u.Client (([]:List ah)++([u]))) (i+1) _ _ (by omega) (by omega) (by omega) (by exact Au hI h0 J ‹_› ‹_›) (by exact vm he h0 J ‹_›) kx ((kA.fs [5,5,5,5,5] rfl).drop))
     obtain⟨k0,k1,rfl⟩:=f1.ai
     have f6:=St.nW f2 (d3.fs [1] rfl)
     refine Op.mk (.slice none 0 0) 76 46 48 49 u.Client (vL k0 b3.length k1) (f6.ag 2 rfl) c5 d4<|Op.ls 51 1 69 #[vI u.Client,vI u.Kind,vS u.aa] f6 fun tt tx f7=>Op.ap 49 51 42 42 52 69 32 cu (ys:=[u]) f1 f7 1 (⟨_,_,rfl,rfl,Reads.nil⟩) (by(have:=xU he ‹_›;simp only[bL,cS];omega)) (fun p hq _=>⟨p,by simp[c4,f2.mem_iff,hq],rfl⟩) (di.lit (m:=1) (sz:=3) (f7.ag 0 rfl) (news:=[vI u.Client,vI u.Kind,vS u.aa]) rfl rfl (by simp[Value.oneCell']) _) fun tz tA tB f8 k2 tR=>?_
     obtain⟨f9,n294,rfl⟩:=f8.ai
     refine Op.jQ (d:=.int .i64) (z:=.slice none 0 0) (mt:=76) (x:=40) (ix:=42) (y:=52) (k:=u.Client) (v:=vL f9 ((b3++([u])).length) n294) (.inl (by kernel_rfl)) (by kernel_rfl) iu (by kernel_rfl) (by kernel_rfl) (by kernel_rfl) ((k2).drop) 2 rfl c5 (fun _=>⟨(G,.map fx f0),by simp[c4],rfl⟩) fun tS t0 t1 k3 k4=>?_
     have k5:=d5.1 _ (vL f9 ((b3++([u])).length) n294) _ _ (aG.refl _) f8
     refine Op.gt 10<|At.rg 2<|Op.vq 53 (i+1)<|Op.pg 2 [(14,vI (i+1))] ?_
     obtain⟨t2,k6,k7⟩:=St.bl (Q:=gM O G (b7 e u.Client (b3++([u])))) 2 ((St.mg 2 k4).fs [1] rfl) ⟨_,_,_,_,rfl,k3,k5⟩
     exact At.ke (aw _ U (b7 e u.Client (b3++([u]))) (i+1) _ _ (by omega) (by omega) (by omega) (by exact Au hI h0 J ‹_› ‹_›) (by exact vn he h0 J ‹_›) k6 ((k7.fs [5,5,5,5,5] rfl).drop))
    show Op _ _ _ _ _ [(0,true),(1,true),(2,true),(4,true),(6,true),(7,true),(8,true),(10,true),(3,true),(5,true),(9,true),(11,true),(13,true),(14,false),(12,false),(15,false),(16,false)] _ _
    refine Op.px 8 [(39,vQ I 5),(41,vP ae),(45,vQ I 5),(47,vP ae)]<|Op.lf 76 39 5 40 1 (.map (some G)) (D.dF 1 [5] rfl rfl rfl) (D.ag 1 rfl)<|Op.lf 3 41 0 42 1 (vI u.Client) (D.dF 0 [5] rfl rfl rfl) (D.ag 0 rfl)<|Op.lf 76 45 5 46 1 (.map (some G)) (D.dF 1 [5] rfl rfl rfl) (D.ag 1 rfl)<|Op.lf 3 47 0 48 1 (vI u.Client) (D.dF 0 [5] rfl rfl rfl) (D.ag 0 rfl) ?_
    refine Op.jg (T:=69) (x:=6) (o:=0) (d:=50) (n:=3) (vs:=[vI u.Client,vI u.Kind,vS u.aa]) (by kernel_rfl) (by kernel_rfl) (by kernel_rfl) (D.dF 0 [5] rfl rfl rfl) (D.ag 0 rfl) (by kernel_rfl) rfl<|Op.ls 51 1 69 #[vI u.Client,vI u.Kind,vS u.aa] D fun t3 t4 k8=>?_
    obtain⟨gc,ge,t5,lb,c6,c8,lc⟩:=ar
    have d6:=St.un [lb] c6 (k8.fs [5,5,5,5,5,5,6] rfl)
    rcases lc.gy u.Client with ⟨d7,lh,d8⟩|⟨t6,b4,t7,t8,d7,lh,gg,gk,d8⟩
    ·refine Op.mn (.slice none 0 0) 76 46 48 49 u.Client (d6.ag 0 rfl) c8 d7 ?_
     have gn:=d6.nl
     have li:=aF.nil 69 cu O
     refine Op.ap 49 51 42 42 52 69 32 cu (ys:=[u]) li gn 0 (⟨_,_,rfl,rfl,Reads.nil⟩) (by(simp only[bL,cS];omega)) (fun p hq _=>absurd hq (by simp)) (di.lit (m:=1) (sz:=3) (gn.ag 3 rfl) (news:=[vI u.Client,vI u.Kind,vS u.aa]) rfl rfl (by simp[Value.oneCell']) _) fun t9 ub ui gs lj ul=>?_
     obtain⟨g1,g2,rfl⟩:=gs.ai
     refine Op.jQ (d:=.int .i64) (z:=.slice none 0 0) (mt:=76) (x:=40) (ix:=42) (y:=52) (k:=u.Client) (v:=vL g1 ((([]:List ah)++([u])).length) g2) (.inl (by kernel_rfl)) (by kernel_rfl) iu (by kernel_rfl) (by kernel_rfl) (by kernel_rfl) ((lj.fs [3] rfl).drop) 1 rfl c8 (fun _=>⟨(G,.map gc ge),by simp[c6],rfl⟩) fun us ut u1 lk ll=>?_
     have lm:=d8.1 _ (vL g1 ((([]:List ah)++([u])).length) g2) _ _ (aG.refl _) gs
     refine Op.gt 10<|At.rg 2<|Op.vq 53 (i+1)<|Op.pg 2 [(14,vI (i+1))] ?_
     obtain⟨u2,ln,lr⟩:=St.bl (Q:=gM O G (b7 e u.Client (([]:List ah)++([u])))) 2 ((St.mg 2 (ll.fs [1,2,2] rfl)).fs [1] rfl) ⟨_,_,_,_,rfl,lk,lm⟩
     exact At.ke (aw _ U (b7 e u.Client (([]:List ah)++([u]))) (i+1) _ _ (by omega) (by omega) (by omega) (by exact Au hI h0 J ‹_› ‹_›) (by exact vm he h0 J ‹_›) ln ((lr.fs [5,5,5,5,5] rfl).drop))
    obtain⟨lv,lw,rfl⟩:=gg.ai
    have d9:=St.nW gk (d6.fs [1] rfl)
    refine Op.mk (.slice none 0 0) 76 46 48 49 u.Client (vL lv b4.length lw) (d9.ag 2 rfl) c8 d7<|Op.ap 49 51 42 42 52 69 32 cu (ys:=[u]) gg d9 0 (⟨_,_,rfl,rfl,Reads.nil⟩) (by(have:=xU he ‹_›;simp only[bL,cS];omega)) (fun p hq _=>⟨p,by simp[c6,gk.mem_iff,hq],rfl⟩) (di.lit (m:=1) (sz:=3) (d9.ag 3 rfl) (news:=[vI u.Client,vI u.Kind,vS u.aa]) rfl rfl (by simp[Value.oneCell']) _) fun u3 u4 vd g3 lx ve=>?_
    obtain⟨g4,g5,rfl⟩:=g3.ai
    refine Op.jQ (d:=.int .i64) (z:=.slice none 0 0) (mt:=76) (x:=40) (ix:=42) (y:=52) (k:=u.Client) (v:=vL g4 ((b4++([u])).length) g5) (.inl (by kernel_rfl)) (by kernel_rfl) iu (by kernel_rfl) (by kernel_rfl) (by kernel_rfl) ((lx.fs [3] rfl).drop) 2 rfl c8 (fun _=>⟨(G,.map gc ge),by simp[c6],rfl⟩) fun vo vx vy ly lA=>?_
    have lL:=d8.1 _ (vL g4 ((b4++([u])).length) g5) _ _ (aG.refl _) g3
    refine Op.gt 10<|At.rg 2<|Op.vq 53 (i+1)<|Op.pg 2 [(14,vI (i+1))] ?_
    obtain⟨v1,lO,l0⟩:=St.bl (Q:=gM O G (b7 e u.Client (b4++([u])))) 2 ((St.mg 2 lA).fs [1] rfl) ⟨_,_,_,_,rfl,ly,lL⟩
    exact At.ke (aw _ U (b7 e u.Client (b4++([u]))) (i+1) _ _ (by omega) (by omega) (by omega) (by exact Au hI h0 J ‹_› ‹_›) (by exact vn he h0 J ‹_›) lO ((l0.fs [5,5,5,5,5] rfl).drop))
   refine At.rp 5 3 [(56,vQ I 5)]<|Op.l1 76 56 57 5 (.map (some G)) (bo.ag 0 rfl) ?_
   obtain⟨ea,eb,ed,ee,l2,bd,X⟩:=ar
   have g6:=St.un [ee] l2 (bo.fs [3,3,3,3,4] rfl)
   refine Op.rD (d:=.int .i64) (z:=vN) (mt:=76) (x:=57) (dst:=58) (m:=G) (by kernel_rfl) (by kernel_rfl) (by kernel_rfl) (g6.ag 0 rfl) bd g6 fun be l3 v2 ef l4=>?_
   replace ef:=ef.toD bd
   refine Op.gt 12 ?_
   have l8:∀(m:Nat) (a4:GH) (a5:aG O a4) (rs:List (Int×Value)) (tw:List ah) (eh:Obj) (ej:au) (em:av) (hm:rs.length<m) (ad:tw=s.aD) (a6:e=eV [] list) (en:tX list) (c9:qQ e tw rs ed) (eo:gF a4 a9 tw ej) (g7:jw encI ea eb G rs none eh) (da:St h g (aM [a1]) a4 [[(be,eh)],[(G,.map ea eb)],ee,[(I,Obj.cells #[vP dj,vP a9,vP dk,vI s.ax,vI s.count,.map (some G),.map (some dl)] 79 (0,0))],ca,ej,cb,ce] em),At (bS prog B 36 f36 R) [] 12 [(0,vP I),(58,vP be)] em:=by
    intro m;induction m with
    |zero=>intros;omega
    |succ m ma=>
     intro a4 a5 rs tw eh ej em hm ad a6 en c9 eo g7 da
     replace Y:=Y.mono a5
     replace Z:=Z.mono a5
     replace ab:=ab.mono a5
     replace a7:=a7.mono a5
     replace X:=X.mono a5
     refine At.rg 2<|Op.CF (x:=58) (dst:=59) (it:=be) (m:=G) (by kernel_rfl) (by kernel_rfl) (da.ag 1 rfl) bd g7 da 0 rfl zt ⟨fun b5=>?_,fun md a0 mf mi g8 v3 b5 g9 db=>?_⟩
     ·refine Op.pg 13 [(60,vF)]<|At.dP 60 28<|At.go 29 1 [(4,vT)] ?_
      obtain⟨v4,ml,mp⟩:=St.bl (Q:=gM a4 G e) 2 (da.fs [2,2] rfl) ⟨_,_,_,_,rfl,bd,X⟩
      obtain⟨mx,my,m0⟩:=St.bl (Q:=bB a4 I (⟨s.an,tw,s.az,s.ax,s.count,e,s.aI⟩:Sp)) 6 (mp.fs [1,6,2,6,6,6,6] rfl) ⟨_,_,_,_,_,_,_,_,_,_,rfl,Y,eo,Z,ml,ab⟩
      exact At.rt vT<|hR (m0.fs [1] rfl).drop ⟨(⟨s.an,tw,s.az,s.ax,s.count,e,s.aI⟩:Sp),mx,(aS (by(subst ad;subst a6;exact SU en (c9.iN b5)))),(by(intro hok;rw[a6,ad])),my,rfl⟩
     have m1:(a0,mf)∈ed:=by exact c9.mem b5
     obtain⟨bi,dc,ha,hb,rfl⟩:=X.br m1
     refine Op.pg 13 [(60,vT)]<|At.bX 60 14<|At.rg 5<|Op.CG (x:=58) (dst:=61) (it:=be) (m:=G) (k:=a0) (v:=vL ha bi.length hb) (by kernel_rfl) (by kernel_rfl) (db.ag 1 rfl) bd g9 (db.ag 0 rfl)<|Op.pg 15 [(7,vI a0),(8,vL ha bi.length hb)] ?_
     refine At.go 16 3 [(9,vI (bi.length:Int))]<|At.rp 7 3 [(68,vQ I 1)]<|Op.l1 72 68 69 1 (vP a9) (db.ag 3 rfl) ?_
     have ep:=db.fs [4,4,4,4,4,5] rfl
     refine Op.cl (some 70) 1 ep (xS _ _ _ ep.sub a7 a9 tw _ eo (by((try dsimp only)<;>((have:=congrArg List.length ad;omega)))) (St.pt 1 ep)) ?_
     rintro _ m2 _ v5 m3 m4 ⟨v6,m5,m6,rfl,dd,df,v8,rfl⟩;subst m2;clear m3
     obtain⟨m7,hf,rfl⟩:=dd.ai
     refine Op.pg 17 [(71,vI (tw.length:Int)),(72,vI 0)] ?_
     have m8:∀(m:Nat) (b6:GH) (am:aG a4 b6) (n2:Int) (j:Int) (er:av) (hm:tw.length-j.toNat<m) (h5:0≤j) (h6:j≤tw.length) (hn0:0≤n2) (m9:n2≤(bi.length:Int)+j) (hn:n2-(bi.length:Int)+(cnt a0 (tw.drop j.toNat):Int)=cnt a0 tw) (b8:St h g (aM [a1]) b6 [m6,m5,[(be,g8)],[(G,.map ea eb)],ee,[(I,Obj.cells #[vP dj,vP a9,vP dk,vI s.ax,vI s.count,.map (some G),.map (some dl)] 79 (0,0))],ca,cb,ce] er),At (bS prog B 36 f36 R) [] 17 [(0,vP I),(7,vI a0),(9,vI n2),(58,vP be),(70,vL m7 (tw.length) hf),(71,vI (tw.length:Int)),(72,vI j)] er:=by
      intro m;induction m with
      |zero=>intros;omega
      |succ m hh=>
       intro b6 am n2 j er hm h5 h6 hn0 m9 hn b8
       replace Y:=Y.mono am
       replace Z:=Z.mono am
       replace ab:=ab.mono am
       replace dd:=dd.mono am
       replace df:=df.mono am
       replace X:=X.mono am
       refine At.go 18 1 [(73,.bool (decide (j<(tw.length:Int))))]<|At.fd (j<(tw.length:Int)) 73 19 24 (fun v9=>?_) fun wa=>?_
       ·refine At.rg 4 ?_
        obtain⟨V,et⟩:=cD tw j
        obtain⟨na,hj,wc,wi,nb,nd,ex⟩:=ig.br (dd.toH b8 1 rfl) _ et
        cases nb
        refine Op.iq 42 69 3 32 (tw.length) hf 70 72 74 na hj j ?_
        replace ex:cut _ _ _=[vI V.Client,vI V.Kind,vS V.aa]:=ex
        refine Op.la 69 74 75 (hj+j.toNat*3) 3 [vI V.Client,vI V.Kind,vS V.aa] nd ?_ (hv:=ex)
        refine Op.al 11 69 ko b8 fun nf wn nm=>Op.sg 69 11 75 0 0 #[vI V.Client,vI V.Kind,vS V.aa] nm zt fun wp eA=>Op.gt 20<|At.rp 4 1 [(76,vP nf)]<|Op.l1 3 76 77 0 (vI V.Client) (eA.ag 0 rfl) ?_
        refine Op.pg 21 [(79,.bool (V.Client==a0))]<|At.fd (V.Client=a0) 79 22 23 (fun wr=>?_) fun wt=>?_
        ·refine At.rp 3 1 [(80,vI n2)]<|Op.dQ 81 (n2+1) (by omega) (by(have h7:=congrArg List.length ad;have h8:=SS a6 dc;omega))<|Op.pg 23 [(9,vI (n2+1))]<|At.rg 2<|Op.dQ 82 (j+1) (by omega) (by(have:=congrArg List.length ad;omega)) ?_
         exact Op.pg 17 [(72,vI (j+1))]<|At.ke (hh _ am (n2+1) (j+1) _ (by omega) (by omega) (by omega) (by omega) (by omega) (by(have h7:=De hn h5 et ‹_›;omega)) eA.drop)
        exact At.rg 2<|Op.dQ 82 (j+1) (by omega) (by(have:=congrArg List.length ad;omega))<|Op.pg 17 [(72,vI (j+1))]<|At.ke (hh _ am n2 (j+1) _ (by omega) (by omega) (by omega) (by omega) (by omega) (by exact Df hn h5 et ‹_›) eA.drop)
       refine At.go 25 2 [(84,.bool (decide (n2>8)))]<|At.fd (n2>8) 84 26 12 (fun ww=>?_) fun wx=>?_
       ·refine At.go 27 1 [(4,vF)] ?_
        obtain⟨wy,nn,no⟩:=St.bl (Q:=gM b6 G e) 2 (b8.fs [2,2,2,4,4] rfl) ⟨_,_,_,_,rfl,bd,X⟩
        obtain⟨np,nu,nx⟩:=St.bl (Q:=bB b6 I (⟨s.an,tw,s.az,s.ax,s.count,e,s.aI⟩:Sp)) 6 (no.fs [3,3,7,3,7,5,7,7] rfl) ⟨_,_,_,_,_,_,_,_,_,_,rfl,Y,df,Z,nn,ab⟩
        exact At.rt vF<|hR (nx.fs [2,2] rfl).drop.drop ⟨(⟨s.an,tw,s.az,s.ax,s.count,e,s.aI⟩:Sp),np,(aS (by(subst ad;exact Dz (Kc a6 X.sort dc (DA hn ‹_›) ‹_›)))),(by(subst ad;exact fun hok=>absurd hok (Kc a6 X.sort dc (DA hn ‹_›) ‹_›))),nu,rfl⟩
       exact At.ke (ma _ (aG.trans a5 (by repeat (first|assumption|apply aG.trans))) (md++mi) tw g8 _ _ (by(have hz:=congrArg List.length b5;simp only[b_,bL] at hz ⊢;omega)) (by exact ad) (by exact a6) (by exact en) (by exact c9.step b5 X.sort dc (by have:=DA hn ‹_›;omega)) df g9.xw ((b8.fs [6,6,6,6,6,6] rfl).drop))
     exact At.ke (m8 _ _ (aG.refl _) (bi.length:Int) 0 _ (bK _) (by omega) (by omega) (by omega) (by omega) (by simp) m4)
   exact At.ke (l8 _ _ (aG.refl _) ed s.aD l3 _ _ (bK _) (by rfl) (by exact SV he ‹_›) (by exact SP hI ‹_›) (by exact SQ X) bk ef l4)
 exact At.ke (hy _ _ (aG.refl _) s.events 0 _ _ (bK _) (by omega) (by omega) (by exact SO _) (by exact hE) hx (St.un [ca,eK,cb,hu,ce] hw hs))
def touchS (s:Sp) (c:Int):Sp:={s with az:=touchB s.az c s.ax}
def qb (s:Sp) (c:Int) (o:aC):Sp:=if cc s c o=0 then kU (cH s c o) (iY o) (cK s c o) else cH s c o
def xV (s:Sp) (c:Int) (o:aC) (x:Result):Result:=if cc s c o=0 then {x with Code:=cc s c o,af:=bE s c o} else {x with Code:=cc s c o}
def jK (o:aC):Bool:=decide (o.Kind=3)||(decide (o.Kind=4)||decide (o.Kind=5))
def nE (o:aC):Bool:=decide (o.Kind=6)||decide (o.Kind=7)
def nF (s:Sp) (c:Int) (o:aC):Sp:=if o.Kind=2 then lF s [c] else if jK o=true then qb s c o else if nE o=true then mT s c o else if o.Kind=8 then mw s c o else s
def oU (s:Sp) (c:Int) (o:aC) (x:Result):Result:=if o.Kind=2 then x else if jK o=true then xV s c o x else if nE o=true then n6 s c o x else if o.Kind=8 then oc s c o x else x
def cV (s:Sp) (c:Int) (b:aQ):Sp:=
  if (aK b).2≠0 then s else if (aK b).1.Kind=1 then {s with az:=mM s.az c (aK b).1.aJ s.ax}
  else if touchE s.az c s.ax≠0 then touchS s c else nF (touchS s c) c (aK b).1
def cx (s:Sp) (c:Int) (b:aQ) (x:Result):Result:=
  if (aK b).2≠0 then {x with Code:=(aK b).2} else if (aK b).1.Kind=1 then {x with Code:=jV s.az c (aK b).1.aJ s.ax}
  else if touchE s.az c s.ax≠0 then {x with Code:=touchE s.az c s.ax} else oU (touchS s c) c (aK b).1 {x with Code:=touchE s.az c s.ax}
theorem dH.touch1 {s:Sp} (H:dH s) {c:Int}:dH (touchS s c):=⟨H.tree,H.wl,H.ws,H.az.touch,H.quo⟩
section
variable {s:Sp} {c:Int} {b:aQ} {x:Result} {ka:Bool}
theorem Ke (h:¬(aK b).2=0):s=cV s c b∧{x with Code:=(aK b).2}=cx s c b x:=⟨by unfold cV;rw[aL h],by unfold cx;rw[aL h]⟩
theorem Kf (h:(aK b).2=0) (hk:(aK b).1.Kind=1):{s with az:=mM s.az c (aK b).1.aJ s.ax}=cV s c b∧{x with Code:=jV s.az c (aK b).1.aJ s.ax}=cx s c b x:=
  ⟨by unfold cV;rw[aB (by simpa using h),aL hk],by unfold cx;rw[aB (by simpa using h),aL hk]⟩
theorem Kg (h:(aK b).2=0) (hk:¬(aK b).1.Kind=1) (ht:¬touchE s.az c s.ax=0):touchS s c=cV s c b∧{x with Code:=touchE s.az c s.ax}=cx s c b x:=
  ⟨by unfold cV;rw[aB (by simpa using h),aB hk,aL ht],by unfold cx;rw[aB (by simpa using h),aB hk,aL ht]⟩
theorem vz (h:(aK b).2=0) (hk:¬(aK b).1.Kind=1) (ht:touchE s.az c s.ax=0):nF (touchS s c) c (aK b).1=cV s c b∧oU (touchS s c) c (aK b).1 {x with Code:=touchE s.az c s.ax}=cx s c b x:=
  ⟨by unfold cV;rw[aB (by simpa using h),aB hk,aB (by simpa using ht)],by unfold cx;rw[aB (by simpa using h),aB hk,aB (by simpa using ht)]⟩
theorem Kh (h:(aK b).2=0) (hk:¬(aK b).1.Kind=1) (ht:touchE s.az c s.ax=0) (k2:(aK b).1.Kind=2):lF (touchS s c) [c]=cV s c b∧{x with Code:=touchE s.az c s.ax}=cx s c b x:=by
  obtain⟨h1,h2⟩:=vz (x:=x) h hk ht
  rw[←h1,←h2]
  exact⟨by unfold nF;rw[aL k2],by unfold oU;rw[aL k2]⟩
theorem Ki (h:(aK b).2=0) (hk:¬(aK b).1.Kind=1) (ht:touchE s.az c s.ax=0) (k2:¬(aK b).1.Kind=2) (hA:ka=jK (aK b).1) (u:ka=true) (he:cc (touchS s c) c (aK b).1=0):
    kU (cH (touchS s c) c (aK b).1) (iY (aK b).1) (cK (touchS s c) c (aK b).1)=cV s c b∧{x with Code:=cc (touchS s c) c (aK b).1,af:=bE (touchS s c) c (aK b).1}=cx s c b x:=by
  obtain⟨h1,h2⟩:=vz (x:=x) h hk ht
  rw[←h1,←h2]
  have hA:jK (aK b).1=true:=by rw[←hA];exact u
  exact⟨by unfold nF qb;rw[aB k2,aL hA,aL he],by unfold oU xV;rw[aB k2,aL hA,aL he]⟩
theorem Kj (h:(aK b).2=0) (hk:¬(aK b).1.Kind=1) (ht:touchE s.az c s.ax=0) (k2:¬(aK b).1.Kind=2) (hA:ka=jK (aK b).1) (u:ka=true) (he:¬cc (touchS s c) c (aK b).1=0):
    cH (touchS s c) c (aK b).1=cV s c b∧{x with Code:=cc (touchS s c) c (aK b).1}=cx s c b x:=by
  obtain⟨h1,h2⟩:=vz (x:=x) h hk ht
  rw[←h1,←h2]
  have hA:jK (aK b).1=true:=by rw[←hA];exact u
  exact⟨by unfold nF qb;rw[aB k2,aL hA,aB he],by unfold oU xV;rw[aB k2,aL hA,aB he]⟩
theorem Kk {u:Bool} (h:(aK b).2=0) (hk:¬(aK b).1.Kind=1) (ht:touchE s.az c s.ax=0) (k2:¬(aK b).1.Kind=2) (hA:ka=jK (aK b).1) (D:ka=false) (hL:u=nE (aK b).1) (G:u=true):
    mT (touchS s c) c (aK b).1=cV s c b∧n6 (touchS s c) c (aK b).1 {x with Code:=touchE s.az c s.ax}=cx s c b x:=by
  obtain⟨h1,h2⟩:=vz (x:=x) h hk ht
  rw[←h1,←h2]
  have hA:¬jK (aK b).1=true:=by rw[←hA,D];decide
  have hL:nE (aK b).1=true:=by rw[←hL];exact G
  exact⟨by unfold nF;rw[aB k2,aB hA,aL hL],by unfold oU;rw[aB k2,aB hA,aL hL]⟩
theorem Kl {u:Bool} (h:(aK b).2=0) (hk:¬(aK b).1.Kind=1) (ht:touchE s.az c s.ax=0) (k2:¬(aK b).1.Kind=2) (hA:ka=jK (aK b).1) (G:ka=false) (hL:u=nE (aK b).1) (I:u=false) (D:(aK b).1.Kind=8):
    mw (touchS s c) c (aK b).1=cV s c b∧oc (touchS s c) c (aK b).1 {x with Code:=touchE s.az c s.ax}=cx s c b x:=by
  obtain⟨h1,h2⟩:=vz (x:=x) h hk ht
  rw[←h1,←h2]
  have hA:¬jK (aK b).1=true:=by rw[←hA,G];decide
  have hL:¬nE (aK b).1=true:=by rw[←hL,I];decide
  exact⟨by unfold nF;rw[aB k2,aB hA,aB hL,aL D],by unfold oU;rw[aB k2,aB hA,aB hL,aL D]⟩
theorem Km {u:Bool} (h:(aK b).2=0) (hk:¬(aK b).1.Kind=1) (ht:touchE s.az c s.ax=0) (k2:¬(aK b).1.Kind=2) (hA:ka=jK (aK b).1) (G:ka=false) (hL:u=nE (aK b).1) (I:u=false) (D:¬(aK b).1.Kind=8):
    touchS s c=cV s c b∧{x with Code:=touchE s.az c s.ax}=cx s c b x:=by
  obtain⟨h1,h2⟩:=vz (x:=x) h hk ht
  rw[←h1,←h2]
  have hA:¬jK (aK b).1=true:=by rw[←hA,G];decide
  have hL:¬nE (aK b).1=true:=by rw[←hL,I];decide
  exact⟨by unfold nF;rw[aB k2,aB hA,aB hL,aB D],by unfold oU;rw[aB k2,aB hA,aB hL,aB D]⟩
theorem SX {o:aC} (h:o.Kind=3):true=jK o:=by unfold jK;rw[eW h];rfl
theorem SY {o:aC} (h:o.Kind=4):true=jK o:=by unfold jK;rw[eW h];simp
theorem SZ {o:aC} (h3:¬o.Kind=3) (h4:¬o.Kind=4):decide (o.Kind=5)=jK o:=by unfold jK;rw[fU h3,fU h4];rfl
theorem S1 {o:aC} (h:o.Kind=6):true=nE o:=by unfold nE;rw[eW h];rfl
theorem S3 {o:aC} (h3:¬o.Kind=6):decide (o.Kind=7)=nE o:=by unfold nE;rw[fU h3];rfl
theorem xW (b:aQ):cY (aK b).1≤1000000:=by
  unfold aK
  split
  · rw[xD];decide
  · split
    · rw[xD];decide
    · rename_i h1 h2
      simp only[rZ] at h2
      have hr:dV false (aR false b).1=true:=by simpa using h2.2
      have ho:=(oN hr).2.2.2.1
      have he:(aR false b).2=true:=by simpa using h2.1
      unfold aR at ho he ⊢
      repeat' split at he
      · rename_i h3 h4
        rw[aL h3,aL h4] at ho ⊢
        refine cr (CS _ _) ?_
        have h5:gm (((aT b).1.drop 3).map fun x=>(mo x).1)≤131073*(((aT b).1.drop 3).map fun x=>(mo x).1).length:=z_ fun x hx=>by
          obtain⟨y,_,rfl⟩:=cF.1 hx
          exact ID y
        have h6:(((aT b).1.drop 3).map fun x=>(mo x).1).length≤4:=ho
        have:131073*(((aT b).1.drop 3).map fun x=>(mo x).1).length≤131073*4:=sS _ h6
        omega
      · cases he
      · cases he
end
def xX (s:Sp):Sp:=lF {s with az:=kM (jH s.ax) s.az} (jl (jH s.ax) s.az)
def fR (s:Sp) (t:Int):Sp:=xX {s with ax:=max s.ax (min t 1099511627775)}
def iM (s:Sp) (c:Int):f_:=(bW s.aI c).getD ⟨0,[]⟩
def ic (e:bu):Bool:=decide (0≤e.Client)&&(decide (e.Client<8)&&(decide (1≤e.bz)&&decide (e.bz<1099511627776)))
def eO (s:Sp):Sp:={s with count:=s.count+1}
def iZ (s:Sp) (c:Int) (b:aQ):Result:={cx (eO s) c b ⟨0,s.count+1,0,ec,[],[]⟩ with aW:=eE (cV (eO s) c b).events c}
def qc (s:Sp) (e:bu) (b:aQ):Sp:={cV (eO s) e.Client b with events:=fh (cV (eO s) e.Client b).events e.Client,aI:=b7 (cV (eO s) e.Client b).aI e.Client ⟨e.bz,(dy (iZ s e.Client b)).1⟩}
def eZ (s:Sp) (e:bu) (b:aQ):Sp:=
  if ic e=true∧(iM (fR s e.bw) e.Client).stamp<e.bz then qc (fR s e.bw) e b else fR s e.bw
def aV (s:Sp) (e:bu) (b:aQ):aQ:=
  if ic e=true then (if (iM (fR s e.bw) e.Client).stamp<e.bz then (dy (iZ (fR s e.bw) e.Client b)).1 else if e.bz=(iM (fR s e.bw) e.Client).stamp then (iM (fR s e.bw) e.Client).data else []) else []
def fG (s:Sp) (e:bu):Bool:=ic e&&decide ((iM (fR s e.bw) e.Client).stamp<e.bz)
theorem S4 (B:World) (h:av) (g:GH) (hg:bf g h) (O:bh g) (D:Nat) (s:Sp) (a1:au) (bi:bB g D s a1) (client:Int) (dv:Value) (b:aj) (dC:ay g 5 bn dv b) (u:Nat) (x:Result) (a5:au) (bj:fF g u x a5) (hP:l7 g) (a6:dH s) (hl:b.length≤1000000000) (hs:St h g (aM [a1,a5]) g [a1,a5] h):
  aA prog B 29 #[vP D,vI client,dv,vP u] h g [a1,a5] (fun em g' L'=>∃dE dT,em=.tuple #[]∧bB g' D (cV s client b) dE∧fF g' u (cx s client b x) dT∧L'=[dE,dT]):=by
 obtain⟨en,eo,rfl⟩:=dC.ai
 refine aA.aq func29 fun R hR=>At.rp 8 1 [(14,vL en b.length eo)]<|Op.c0 (some 15) (Qb _ _ _ hs.sub O _ _ dC (by(try dsimp only)<;>omega)) hs ?_
 rintro _ J _ i7 bm ep ⟨i8,i9,rfl,bo,bs,rfl⟩
 obtain⟨Y,Z,rfl⟩:=bo.ai
 obtain⟨a28,ab,rfl⟩:=bs.ai
 replace O:=O.mono bm
 replace hP:=hP.mono bm
 replace bi:=bi.mono bm
 replace bj:=bj.mono bm
 refine Op.px 3 [(16,.agg #[vI (((aK b).1).Kind),vS (((aK b).1).aa),vL Y ((((aK b).1).Data).length) Z,vI (((aK b).1).ak),vI (((aK b).1).aJ),.bool (((aK b).1).aZ),.bool (((aK b).1).aN),.bool (((aK b).1).ah),vL a28 ((((aK b).1).aH).length) ab]),(17,vI ((aK b).2))]<|Op.al 8 36 fO ep fun ad jf er=>Op.sg 36 8 16 0 0 #[vI (((aK b).1).Kind),vS (((aK b).1).aa),vL Y ((((aK b).1).Data).length) Z,vI (((aK b).1).ak),vI (((aK b).1).aJ),.bool (((aK b).1).aZ),.bool (((aK b).1).aN),.bool (((aK b).1).ah),vL a28 ((((aK b).1).aH).length) ab] er zt fun jj bt=>Op.pg 1 [(9,vI ((aK b).2))]<|At.go 2 3 [(18,.bool (((aK b).2) != 0))] ?_
 refine At.fn (((aK b).2)=0) 18 3 5 (fun jn=>?_) fun js=>?_
 ·refine At.rp 5 4 [(22,vI ((aK b).2)),(24,vP u)] ?_
  obtain⟨jt,j1,et,j2,ex,eA,d0,d1,d2⟩:=bj
  obtain⟨eB,eI,rfl⟩:=d0.ai
  obtain⟨eJ,eK,rfl⟩:=d1.ai
  obtain⟨eL,eQ,rfl⟩:=d2.ai
  refine Op.s1 52 24 22 0 (vI ((aK b).2)) 0 #[vI ((aK b).2),vI x.bg,vI x.At,vS x.af.aa,vL eB x.af.Data.length eI,vI x.af.ak,vI x.af.aE,vI x.af.Next,vI x.af.aO,vL eJ x.bF.length eK,vL eL x.aW.length eQ] (St.un [et,ex] eA (bt.fs [1,1,2] rfl)) zt fun kc eT=>Op.gt 4 ?_
  obtain⟨e1,e2,e3⟩:=St.bl (Q:=fF J u (⟨(aK b).2,x.bg,x.At,⟨x.af.aa,x.af.Data,x.af.ak,x.af.aE,x.af.Next,x.af.aO⟩,x.bF,x.aW⟩:Result)) 3 eT ⟨_,_,_,_,_,rfl,d0,d1,d2⟩
  exact At.rt dr<|hR (e3.fs [2,2] rfl).drop ⟨a1,e1,rfl,bi.eq (by exact(Ke (x:=x) ‹_›).1),e2.eq (by exact(Ke (x:=x) ‹_›).2),rfl⟩
 refine At.rp 4 1 [(26,vP ad)]<|Op.l1 3 26 27 0 (vI (((aK b).1).Kind)) (bt.ag 0 rfl)<|Op.pg 6 [(25,.bool ((((aK b).1).Kind)==1))]<|At.fd ((((aK b).1).Kind)=1) 25 7 9 (fun kd=>?_) fun kh=>?_
 ·obtain⟨kk,e4,kl,e5,d3,e6,km,e7,kv,e8,e9,fa,fg,fi,fj,fl⟩:=bi
  obtain⟨kw,kx,fp,kA,fr,ft,d4,d5,d6⟩:=bj
  obtain⟨fv,fw,rfl⟩:=d4.ai
  obtain⟨fx,f0,rfl⟩:=d5.ai
  obtain⟨f1,f2,rfl⟩:=d6.ai
  have b3:=St.un [fp,fr] ft ((St.un [e4,e5,e6,e7,e8] e9 (bt.fs [1] rfl)).fs [6,6,6,6,6,6,6,7] rfl)
  refine At.dw (fun _=>False) [(0,true),(1,true),(2,true),(3,true),(5,true),(6,true),(8,true),(9,true),(10,true),(4,true),(7,true),(11,false),(1012,false),(12,false),(13,true),(14,true),(15,false)]<|Op.px 9 [(29,vP u),(32,vQ D 2),(34,vI client),(35,vQ ad 4),(39,vQ D 3)]<|Op.lf 74 32 2 33 1 (vP d3) id (b3.ag 3 rfl)<|Op.lf 3 35 4 36 1 (vI (((aK b).1).aJ)) id (b3.ag 9 rfl)<|Op.l1 3 39 40 3 (vI s.ax) (b3.ag 3 rfl) ?_
  refine Op.ba ?_
  have ch:=b3.fs [5,5,5,5,5,5,6] rfl
  refine Op.cl (some 41) 1 ch (Px _ _ _ ch.sub O d3 s.az _ fi client (((aK b).1).aJ) s.ax (St.pt 1 ch)) ?_
  rintro _ f3 _ k0 f4 f5 ⟨k1,rfl,f6,f7,rfl⟩;subst f3;clear f4
  refine Op.px 2 [(43,vP u)]<|Op.s1 52 43 41 0 (vI (jV s.az client ((aK b).1).aJ s.ax)) 1 #[vI (jV s.az client ((aK b).1).aJ s.ax),vI x.bg,vI x.At,vS x.af.aa,vL fv x.af.Data.length fw,vI x.af.ak,vI x.af.aE,vI x.af.Next,vI x.af.aO,vL fx x.bF.length f0,vL f1 x.aW.length f2] f5 zt fun k2 f8=>Op.gt 4 ?_
  obtain⟨f9,gc,ge⟩:=St.bl (Q:=bB J D (⟨s.an,s.aD,(mM s.az client ((aK b).1).aJ s.ax),s.ax,s.count,s.events,s.aI⟩:Sp)) 6 (f8.fs [3,3,3,8,8,5,8,8,8] rfl) ⟨_,_,_,_,_,_,_,_,_,_,rfl,fa,fg,f6,fj,fl⟩
  obtain⟨gg,gk,gn⟩:=St.bl (Q:=fF J u (⟨jV s.az client ((aK b).1).aJ s.ax,x.bg,x.At,⟨x.af.aa,x.af.Data,x.af.ak,x.af.aE,x.af.Next,x.af.aO⟩,x.bF,x.aW⟩:Result)) 3 (ge.fs [3,3,3] rfl) ⟨_,_,_,_,_,rfl,d4,d5,d6⟩
  exact At.rt dr<|hR (gn.fs [1,2] rfl).drop ⟨f9,gg,rfl,gc.eq (by exact(Kf (x:=x) ‹_› ‹_›).1),gk.eq (by exact(Kf (x:=x) ‹_› ‹_›).2),rfl⟩
 obtain⟨d7,ci,d8,ck,b4,gs,d9,co,ea,c3,g1,ae,am,g2,ar,aw⟩:=bi
 obtain⟨k3,k4,b5,v138,b6,g3,U,G,I⟩:=bj
 obtain⟨b8,ca,rfl⟩:=U.ai
 obtain⟨a146,a7,rfl⟩:=G.ai
 obtain⟨a148,a8,rfl⟩:=I.ai
 have c4:=St.un [b5,b6] g3 ((St.un [ci,ck,gs,co,c3] g1 (bt.fs [1] rfl)).fs [6,6,6,6,6,6,6,7] rfl)
 refine At.dw (fun _=>False) [(0,true),(1,true),(2,true),(3,true),(5,true),(6,true),(7,true),(8,true),(4,true),(9,false),(1010,false),(10,false),(11,true),(12,true),(13,false)]<|Op.px 8 [(44,vP u),(47,vQ D 2),(49,vI client),(52,vQ D 3)]<|Op.lf 74 47 2 48 1 (vP b4) id (c4.ag 3 rfl)<|Op.l1 3 52 53 3 (vI s.ax) (c4.ag 3 rfl)<|Op.ba ?_
 have c5:=c4.fs [5,5,5,5,5,5,6] rfl
 refine Op.cl (some 54) 1 c5 (touchF _ _ _ c5.sub O b4 s.az _ g2 client s.ax (St.pt 1 c5)) ?_
 rintro _ g4 _ k5 g5 g6 ⟨eb,rfl,a0,f7,rfl⟩;subst g4;clear g5
 refine Op.px 2 [(56,vP u)]<|Op.s1 52 56 54 0 (vI (touchE s.az client s.ax)) 1 #[vI (touchE s.az client s.ax),vI x.bg,vI x.At,vS x.af.aa,vL b8 x.af.Data.length ca,vI x.af.ak,vI x.af.aE,vI x.af.Next,vI x.af.aO,vL a146 x.bF.length a7,vL a148 x.aW.length a8] g6 zt fun k6 a3=>Op.gt 10<|At.rp 5 3 [(59,vP u)]<|Op.l1 52 59 60 0 (vI (touchE s.az client s.ax)) (a3.ag 1 rfl) ?_
 refine Op.pg 11 [(61,.bool ((touchE s.az client s.ax) != 0))]<|At.fn ((touchE s.az client s.ax)=0) 61 12 13 (fun k7=>?_) fun k8=>?_
 ·obtain⟨g7,g8,g9⟩:=St.bl (Q:=bB J D (⟨s.an,s.aD,(touchB s.az client s.ax),s.ax,s.count,s.events,s.aI⟩:Sp)) 6 (a3.fs [3,3,3,8,8,5,8,8,8] rfl) ⟨_,_,_,_,_,_,_,_,_,_,rfl,ae,am,a0,ar,aw⟩
  obtain⟨ha,hb,he⟩:=St.bl (Q:=fF J u (⟨touchE s.az client s.ax,x.bg,x.At,⟨x.af.aa,x.af.Data,x.af.ak,x.af.aE,x.af.Next,x.af.aO⟩,x.bF,x.aW⟩:Result)) 3 (g9.fs [3,3,3] rfl) ⟨_,_,_,_,_,rfl,U,G,I⟩
  exact At.rt dr<|hR (he.fs [1,2] rfl).drop ⟨g7,ha,rfl,g8.eq (by exact(Kg (x:=x) ‹_› ‹_› ‹_›).1),hb.eq (by exact(Kg (x:=x) ‹_› ‹_› ‹_›).2),rfl⟩
 refine At.rp 2 1 [(62,vP ad)]<|Op.l1 3 62 63 0 (vI (((aK b).1).Kind)) (a3.ag 9 rfl)<|Op.gt 14<|At.go 15 2 [(64,.bool ((((aK b).1).Kind)==2))]<|At.fd ((((aK b).1).Kind)=2) 64 16 17 (fun lb=>?_) fun lc=>?_
 ·refine At.rp 4 2 [(66,vP D),(67,vI client)]<|Op.ls 68 1 3 #[vI client] a3 fun ed lh hf=>?_
  have hh:aF 3 (eF .i64) J (vL (some ⟨ed,0,none⟩) 1 1) [client] [(ed,Obj.cells #[vI client] 3 (0,0))]:=aF.lit (by kernel_rfl) (by unfold maxLen;decide) (by kernel_rfl) ⟨_,_,rfl,rfl,Reads.nil⟩
  obtain⟨hj,hn,X,ho⟩:=aF.freeze hh (hf)
  replace ae:=ae.mono X
  replace am:=am.mono X
  replace ar:=ar.mono X
  replace aw:=aw.mono X
  replace U:=U.mono X
  replace G:=G.mono X
  replace I:=I.mono X
  replace O:=O.mono X
  replace a0:=a0.mono X
  obtain⟨li,hp,c6⟩:=St.bl (Q:=bB hj D (⟨s.an,s.aD,(touchB s.az client s.ax),s.ax,s.count,s.events,s.aI⟩:Sp)) 6 (hn.fs [3,3,3,8,8,5,8,8,8] rfl) ⟨_,_,_,_,_,_,_,_,_,_,rfl,ae,am,a0,ar,aw⟩
  refine Op.cl (some 69) 1 c6 (JX _ _ _ c6.sub O D (⟨s.an,s.aD,(touchB s.az client s.ax),s.ax,s.count,s.events,s.aI⟩:Sp) _ hp _ _ ho (by(try dsimp only)<;>exact a6.touch1) (by((try dsimp only)<;>((simp;done)))) (St.pt 1 c6)) ?_
  rintro _ hq _ lj c8 hr ⟨hu,rfl,hw,rfl⟩
  replace U:=U.mono c8
  replace G:=G.mono c8
  replace I:=I.mono c8
  refine Op.gt 37 ?_
  obtain⟨hx,hy,hz⟩:=St.bl (Q:=fF hq u (⟨touchE s.az client s.ax,x.bg,x.At,⟨x.af.aa,x.af.Data,x.af.ak,x.af.aE,x.af.Next,x.af.aO⟩,x.bF,x.aW⟩:Result)) 3 (hr.fs [3,3,3] rfl) ⟨_,_,_,_,_,rfl,U,G,I⟩
  exact At.rt dr<|hR (hz.fs [1,2] rfl).drop ⟨hu,hx,rfl,hw.eq (by exact(Kh (x:=x) ‹_› ‹_› ‹_› ‹_›).1),hy.eq (by exact(Kh (x:=x) ‹_› ‹_› ‹_› ‹_›).2),rfl⟩
 have c9:∀(m:Nat) (ka:Bool) (da:av) (hm:0<m) (V:ka=jK (aK b).1) (bk:St h g (aM [a1,a5]) J [eb,[(u,Obj.cells #[vI (touchE s.az client s.ax),vI x.bg,vI x.At,vS x.af.aa,vL b8 x.af.Data.length ca,vI x.af.ak,vI x.af.aE,vI x.af.Next,vI x.af.aO,vL a146 x.bF.length a7,vL a148 x.aW.length a8] 59 (0,0))],b5,b6,[(D,Obj.cells #[vP d7,vP d8,vP b4,vI s.ax,vI s.count,.map (some d9),.map (some ea)] 79 (0,0))],ci,ck,co,c3,[(ad,Obj.cells #[vI (((aK b).1).Kind),vS (((aK b).1).aa),vL Y ((((aK b).1).Data).length) Z,vI (((aK b).1).ak),vI (((aK b).1).aJ),.bool (((aK b).1).aZ),.bool (((aK b).1).aN),.bool (((aK b).1).ah),vL a28 ((((aK b).1).aH).length) ab] 36 (0,0))]] da),At (bS prog B 29 f29 R) [] 22 [(0,vP D),(1,vI client),(3,vP u),(8,vP ad),(63,vI (((aK b).1).Kind)),(70,.bool ka)] da:=by
  intro m;induction m with
  |zero=>intros;omega
  |succ m lk=>
   intro ka da hm V bk
   refine At.c_ ka 70 23 29 (fun ll=>?_) fun lm=>?_
   ·refine At.rp 13 2 [(75,vP D),(76,vI client)]<|Op.la 36 8 77 0 9 [vI (((aK b).1).Kind),vS (((aK b).1).aa),vL Y ((((aK b).1).Data).length) Z,vI (((aK b).1).ak),vI (((aK b).1).aJ),.bool (((aK b).1).aZ),.bool (((aK b).1).aN),.bool (((aK b).1).ah),vL a28 ((((aK b).1).aH).length) ab] (bk.ag 9 rfl) ?_
    obtain⟨ln,hA,db⟩:=St.bl (Q:=bB J D (⟨s.an,s.aD,(touchB s.az client s.ax),s.ax,s.count,s.events,s.aI⟩:Sp)) 6 (bk.fs [3,3,3,8,8,5,8,8,8] rfl) ⟨_,_,_,_,_,_,_,_,_,_,rfl,ae,am,a0,ar,aw⟩
    refine Op.cl (some 78) 1 db (J3 _ _ _ db.sub O D (⟨s.an,s.aD,(touchB s.az client s.ax),s.ax,s.count,s.events,s.aI⟩:Sp) _ hA client ((aK b).1) _ bo _ bs hP (by(try dsimp only)<;>exact a6.touch1) (by((try dsimp only)<;>((have:=xW b;have:=gu (aK b).1;omega)))) (by((try dsimp only)<;>((have:=xW b;have:=gu (aK b).1;omega)))) (St.pt 1 db)) ?_
    rintro _ hB _ lr cb hC ⟨lv,hD,lw,f213,a9,bb,ee,rfl,ce,rfl,ef,eh,rfl⟩
    obtain⟨bc,bd,rfl⟩:=ce.ai
    replace U:=U.mono cb
    replace G:=G.mono cb
    replace I:=I.mono cb
    replace O:=O.mono cb
    refine Op.px 4 [(79,.agg #[vS ((bE (⟨s.an,s.aD,(touchB s.az client s.ax),s.ax,s.count,s.events,s.aI⟩:Sp) client ((aK b).1)).aa),vL bc (((bE (⟨s.an,s.aD,(touchB s.az client s.ax),s.ax,s.count,s.events,s.aI⟩:Sp) client ((aK b).1)).Data).length) bd,vI ((bE (⟨s.an,s.aD,(touchB s.az client s.ax),s.ax,s.count,s.events,s.aI⟩:Sp) client ((aK b).1)).ak),vI ((bE (⟨s.an,s.aD,(touchB s.az client s.ax),s.ax,s.count,s.events,s.aI⟩:Sp) client ((aK b).1)).aE),vI ((bE (⟨s.an,s.aD,(touchB s.az client s.ax),s.ax,s.count,s.events,s.aI⟩:Sp) client ((aK b).1)).Next),vI ((bE (⟨s.an,s.aD,(touchB s.az client s.ax),s.ax,s.count,s.events,s.aI⟩:Sp) client ((aK b).1)).aO)]),(80,.agg #[vS (cK (⟨s.an,s.aD,(touchB s.az client s.ax),s.ax,s.count,s.events,s.aI⟩:Sp) client ((aK b).1)),.func (.func f213) a9 bb]),(81,vI (cc (⟨s.an,s.aD,(touchB s.az client s.ax),s.ax,s.count,s.events,s.aI⟩:Sp) client ((aK b).1)))]<|Op.al 10 56 si hC fun hE lx hF=>Op.al 11 137 lG hF fun dc ly hG=>Op.sg 56 10 79 0 1 #[vS ((bE (⟨s.an,s.aD,(touchB s.az client s.ax),s.ax,s.count,s.events,s.aI⟩:Sp) client ((aK b).1)).aa),vL bc (((bE (⟨s.an,s.aD,(touchB s.az client s.ax),s.ax,s.count,s.events,s.aI⟩:Sp) client ((aK b).1)).Data).length) bd,vI ((bE (⟨s.an,s.aD,(touchB s.az client s.ax),s.ax,s.count,s.events,s.aI⟩:Sp) client ((aK b).1)).ak),vI ((bE (⟨s.an,s.aD,(touchB s.az client s.ax),s.ax,s.count,s.events,s.aI⟩:Sp) client ((aK b).1)).aE),vI ((bE (⟨s.an,s.aD,(touchB s.az client s.ax),s.ax,s.count,s.events,s.aI⟩:Sp) client ((aK b).1)).Next),vI ((bE (⟨s.an,s.aD,(touchB s.az client s.ax),s.ax,s.count,s.events,s.aI⟩:Sp) client ((aK b).1)).aO)] hG zt fun lA hH=>Op.sg 137 11 80 0 0 #[vS (cK (⟨s.an,s.aD,(touchB s.az client s.ax),s.ax,s.count,s.events,s.aI⟩:Sp) client ((aK b).1)),.func (.func f213) a9 bb] hH zt fun lL hI=>?_
    refine Op.pg 24 [(12,vI (cc (⟨s.an,s.aD,(touchB s.az client s.ax),s.ax,s.count,s.events,s.aI⟩:Sp) client ((aK b).1)))]<|At.rp 5 4 [(83,vI (cc (⟨s.an,s.aD,(touchB s.az client s.ax),s.ax,s.count,s.events,s.aI⟩:Sp) client ((aK b).1))),(85,vP u)]<|Op.s1 52 85 83 0 (vI (cc (⟨s.an,s.aD,(touchB s.az client s.ax),s.ax,s.count,s.events,s.aI⟩:Sp) client ((aK b).1))) 4 #[vI (cc (⟨s.an,s.aD,(touchB s.az client s.ax),s.ax,s.count,s.events,s.aI⟩:Sp) client ((aK b).1)),vI x.bg,vI x.At,vS x.af.aa,vL b8 x.af.Data.length ca,vI x.af.ak,vI x.af.aE,vI x.af.Next,vI x.af.aO,vL a146 x.bF.length a7,vL a148 x.aW.length a8] hI zt fun lO dd=>Op.gt 25<|At.go 26 2 [(87,.bool ((cc (⟨s.an,s.aD,(touchB s.az client s.ax),s.ax,s.count,s.events,s.aI⟩:Sp) client ((aK b).1))==0))] ?_
    refine At.fd ((cc (⟨s.an,s.aD,(touchB s.az client s.ax),s.ax,s.count,s.events,s.aI⟩:Sp) client ((aK b).1))=0) 87 27 37 (fun l0=>?_) fun l2=>?_
    ·refine At.rp 5 1 [(88,vP u)]<|Op.la 56 10 89 0 6 [vS ((bE (⟨s.an,s.aD,(touchB s.az client s.ax),s.ax,s.count,s.events,s.aI⟩:Sp) client ((aK b).1)).aa),vL bc (((bE (⟨s.an,s.aD,(touchB s.az client s.ax),s.ax,s.count,s.events,s.aI⟩:Sp) client ((aK b).1)).Data).length) bd,vI ((bE (⟨s.an,s.aD,(touchB s.az client s.ax),s.ax,s.count,s.events,s.aI⟩:Sp) client ((aK b).1)).ak),vI ((bE (⟨s.an,s.aD,(touchB s.az client s.ax),s.ax,s.count,s.events,s.aI⟩:Sp) client ((aK b).1)).aE),vI ((bE (⟨s.an,s.aD,(touchB s.az client s.ax),s.ax,s.count,s.events,s.aI⟩:Sp) client ((aK b).1)).Next),vI ((bE (⟨s.an,s.aD,(touchB s.az client s.ax),s.ax,s.count,s.events,s.aI⟩:Sp) client ((aK b).1)).aO)] (dd.ag 1 rfl)<|Op.px 2 [(91,vQ u 3)]<|Op.sg 56 91 89 3 4 #[vI (cc (⟨s.an,s.aD,(touchB s.az client s.ax),s.ax,s.count,s.events,s.aI⟩:Sp) client ((aK b).1)),vI x.bg,vI x.At,vS ((bE (⟨s.an,s.aD,(touchB s.az client s.ax),s.ax,s.count,s.events,s.aI⟩:Sp) client ((aK b).1)).aa),vL bc (((bE (⟨s.an,s.aD,(touchB s.az client s.ax),s.ax,s.count,s.events,s.aI⟩:Sp) client ((aK b).1)).Data).length) bd,vI ((bE (⟨s.an,s.aD,(touchB s.az client s.ax),s.ax,s.count,s.events,s.aI⟩:Sp) client ((aK b).1)).ak),vI ((bE (⟨s.an,s.aD,(touchB s.az client s.ax),s.ax,s.count,s.events,s.aI⟩:Sp) client ((aK b).1)).aE),vI ((bE (⟨s.an,s.aD,(touchB s.az client s.ax),s.ax,s.count,s.events,s.aI⟩:Sp) client ((aK b).1)).Next),vI ((bE (⟨s.an,s.aD,(touchB s.az client s.ax),s.ax,s.count,s.events,s.aI⟩:Sp) client ((aK b).1)).aO),vL a146 x.bF.length a7,vL a148 x.aW.length a8] dd zt fun l3 df=>Op.gt 28 ?_
     refine At.rp 5 1 [(92,vQ dc 1)]<|Op.l1 127 92 93 1 (.func (.func f213) a9 bb) (df.ag 0 rfl)<|Op.px 1 [(94,vP dc)]<|Op.l1 9 94 95 0 (vS (cK (⟨s.an,s.aD,(touchB s.az client s.ax),s.ax,s.count,s.events,s.aI⟩:Sp) client ((aK b).1))) (df.ag 0 rfl) ?_
     have dg:=df.fs [1,1,2] rfl
     refine Op.cv (some 96) 93 #[95] #[9] f213 a9 bb [ee] [[(dc,Obj.cells #[vS (cK (⟨s.an,s.aD,(touchB s.az client s.ax),s.ax,s.count,s.events,s.aI⟩:Sp) client ((aK b).1)),.func (.func f213) a9 bb] 137 (0,0))],[(hE,Obj.cells #[vS ((bE (⟨s.an,s.aD,(touchB s.az client s.ax),s.ax,s.count,s.events,s.aI⟩:Sp) client ((aK b).1)).aa),vL bc (((bE (⟨s.an,s.aD,(touchB s.az client s.ax),s.ax,s.count,s.events,s.aI⟩:Sp) client ((aK b).1)).Data).length) bd,vI ((bE (⟨s.an,s.aD,(touchB s.az client s.ax),s.ax,s.count,s.events,s.aI⟩:Sp) client ((aK b).1)).ak),vI ((bE (⟨s.an,s.aD,(touchB s.az client s.ax),s.ax,s.count,s.events,s.aI⟩:Sp) client ((aK b).1)).aE),vI ((bE (⟨s.an,s.aD,(touchB s.az client s.ax),s.ax,s.count,s.events,s.aI⟩:Sp) client ((aK b).1)).Next),vI ((bE (⟨s.an,s.aD,(touchB s.az client s.ax),s.ax,s.count,s.events,s.aI⟩:Sp) client ((aK b).1)).aO)] 56 (0,0))],hD,[(u,Obj.cells #[vI (cc (⟨s.an,s.aD,(touchB s.az client s.ax),s.ax,s.count,s.events,s.aI⟩:Sp) client ((aK b).1)),vI x.bg,vI x.At,vS ((bE (⟨s.an,s.aD,(touchB s.az client s.ax),s.ax,s.count,s.events,s.aI⟩:Sp) client ((aK b).1)).aa),vL bc (((bE (⟨s.an,s.aD,(touchB s.az client s.ax),s.ax,s.count,s.events,s.aI⟩:Sp) client ((aK b).1)).Data).length) bd,vI ((bE (⟨s.an,s.aD,(touchB s.az client s.ax),s.ax,s.count,s.events,s.aI⟩:Sp) client ((aK b).1)).ak),vI ((bE (⟨s.an,s.aD,(touchB s.az client s.ax),s.ax,s.count,s.events,s.aI⟩:Sp) client ((aK b).1)).aE),vI ((bE (⟨s.an,s.aD,(touchB s.az client s.ax),s.ax,s.count,s.events,s.aI⟩:Sp) client ((aK b).1)).Next),vI ((bE (⟨s.an,s.aD,(touchB s.az client s.ax),s.ax,s.count,s.events,s.aI⟩:Sp) client ((aK b).1)).aO),vL a146 x.bF.length a7,vL a148 x.aW.length a8] 59 (0,0))],b5,b6,[(ad,Obj.cells #[vI (((aK b).1).Kind),vS (((aK b).1).aa),vL Y ((((aK b).1).Data).length) Z,vI (((aK b).1).ak),vI (((aK b).1).aJ),.bool (((aK b).1).aZ),.bool (((aK b).1).aN),.bool (((aK b).1).ah),vL a28 ((((aK b).1).aH).length) ab] 36 (0,0))]] (a9++(#[vS (cK (⟨s.an,s.aD,(touchB s.az client s.ax),s.ax,s.count,s.events,s.aI⟩:Sp) client ((aK b).1))]:Array Value)++bb) ef.JY (JZ (by kernel_rfl)) dg (J0 _ _ _ dg.sub O (hc:=ef) D (cH (⟨s.an,s.aD,(touchB s.az client s.ax),s.ax,s.count,s.events,s.aI⟩:Sp) client ((aK b).1)) _ eh (cK (⟨s.an,s.aD,(touchB s.az client s.ax),s.ax,s.count,s.events,s.aI⟩:Sp) client ((aK b).1)) (by(try dsimp only)<;>exact a6.touch1.oS _ _) (by((try dsimp only)<;>(exact cr (As (a6.touch1 (c:=client)) (c:=client) (aK b).1) (by have:=xW b;have:=gu (aK b).1;omega)))) (St.pt 1 dg)) (fun _ _ _=>trivial) ?_
     rintro _ l4 _ l8 dj hJ ⟨hK,rfl,dk,rfl⟩
     replace G:=G.mono dj
     replace I:=I.mono dj
     replace ce:=ce.mono dj
     refine Op.gt 37 ?_
     obtain⟨hL,hN,dl,hO⟩:=aF.freeze ce (hJ.fs [3] rfl)
     replace G:=G.mono dl
     replace I:=I.mono dl
     replace dk:=dk.mono dl
     obtain⟨hQ,hS,hT⟩:=St.bl (Q:=fF hL u (⟨cc (⟨s.an,s.aD,(touchB s.az client s.ax),s.ax,s.count,s.events,s.aI⟩:Sp) client ((aK b).1),x.bg,x.At,⟨(bE (⟨s.an,s.aD,(touchB s.az client s.ax),s.ax,s.count,s.events,s.aI⟩:Sp) client ((aK b).1)).aa,(bE (⟨s.an,s.aD,(touchB s.az client s.ax),s.ax,s.count,s.events,s.aI⟩:Sp) client ((aK b).1)).Data,(bE (⟨s.an,s.aD,(touchB s.az client s.ax),s.ax,s.count,s.events,s.aI⟩:Sp) client ((aK b).1)).ak,(bE (⟨s.an,s.aD,(touchB s.az client s.ax),s.ax,s.count,s.events,s.aI⟩:Sp) client ((aK b).1)).aE,(bE (⟨s.an,s.aD,(touchB s.az client s.ax),s.ax,s.count,s.events,s.aI⟩:Sp) client ((aK b).1)).Next,(bE (⟨s.an,s.aD,(touchB s.az client s.ax),s.ax,s.count,s.events,s.aI⟩:Sp) client ((aK b).1)).aO⟩,x.bF,x.aW⟩:Result)) 3 (hN.fs [2,2,2,5,5,5] rfl) ⟨_,_,_,_,_,rfl,hO,G,I⟩
     exact At.rt dr<|hR (hT.fs [1,4,4,4] rfl).drop.drop.drop ⟨hK,hQ,rfl,dk.eq (by exact(Ki (x:=x) ‹_› ‹_› ‹_› ‹_› V ‹_› ‹_›).1),hS.eq (by exact(Ki (x:=x) ‹_› ‹_› ‹_› ‹_› V ‹_› ‹_›).2),rfl⟩
    obtain⟨hV,hW,hX⟩:=St.bl (Q:=fF hB u (⟨cc (⟨s.an,s.aD,(touchB s.az client s.ax),s.ax,s.count,s.events,s.aI⟩:Sp) client ((aK b).1),x.bg,x.At,⟨x.af.aa,x.af.Data,x.af.ak,x.af.aE,x.af.Next,x.af.aO⟩,x.bF,x.aW⟩:Result)) 3 (dd.fs [3,3,3,3,6,6,6] rfl) ⟨_,_,_,_,_,rfl,U,G,I⟩
    exact At.rt dr<|hR (hX.fs [3,5,5,5,5] rfl).drop.drop.drop.drop ⟨ee,hV,rfl,eh.eq (by exact(Kj (x:=x) ‹_› ‹_› ‹_› ‹_› V ‹_› ‹_›).1),hW.eq (by exact(Kj (x:=x) ‹_› ‹_› ‹_› ‹_› V ‹_› ‹_›).2),rfl⟩
   have ej:∀(m:Nat) (cf:Bool) (dp:av) (hm:0<m) (a4:cf=nE (aK b).1) (be:St h g (aM [a1,a5]) J [eb,[(u,Obj.cells #[vI (touchE s.az client s.ax),vI x.bg,vI x.At,vS x.af.aa,vL b8 x.af.Data.length ca,vI x.af.ak,vI x.af.aE,vI x.af.Next,vI x.af.aO,vL a146 x.bF.length a7,vL a148 x.aW.length a8] 59 (0,0))],b5,b6,[(D,Obj.cells #[vP d7,vP d8,vP b4,vI s.ax,vI s.count,.map (some d9),.map (some ea)] 79 (0,0))],ci,ck,co,c3,[(ad,Obj.cells #[vI (((aK b).1).Kind),vS (((aK b).1).aa),vL Y ((((aK b).1).Data).length) Z,vI (((aK b).1).ak),vI (((aK b).1).aJ),.bool (((aK b).1).aZ),.bool (((aK b).1).aN),.bool (((aK b).1).ah),vL a28 ((((aK b).1).aH).length) ab] 36 (0,0))]] dp),At (bS prog B 29 f29 R) [] 32 [(0,vP D),(1,vI client),(3,vP u),(8,vP ad),(63,vI (((aK b).1).Kind)),(97,.bool cf)] dp:=by
    intro m;induction m with
    |zero=>intros;omega
    |succ m ma=>
     intro cf dp hm a4 be
     refine At.c_ cf 97 33 34 (fun md=>?_) fun mf=>?_
     ·refine At.rp 5 2 [(100,vP D),(101,vI client)]<|Op.la 36 8 102 0 9 [vI (((aK b).1).Kind),vS (((aK b).1).aa),vL Y ((((aK b).1).Data).length) Z,vI (((aK b).1).ak),vI (((aK b).1).aJ),.bool (((aK b).1).aZ),.bool (((aK b).1).aN),.bool (((aK b).1).ah),vL a28 ((((aK b).1).aH).length) ab] (be.ag 9 rfl)<|Op.px 1 [(103,vP u)] ?_
      obtain⟨mi,hY,hZ⟩:=St.bl (Q:=bB J D (⟨s.an,s.aD,(touchB s.az client s.ax),s.ax,s.count,s.events,s.aI⟩:Sp)) 6 (be.fs [3,3,3,8,8,5,8,8,8] rfl) ⟨_,_,_,_,_,_,_,_,_,_,rfl,ae,am,a0,ar,aw⟩
      obtain⟨ml,h1,h2⟩:=St.bl (Q:=fF J u (⟨touchE s.az client s.ax,x.bg,x.At,⟨x.af.aa,x.af.Data,x.af.ak,x.af.aE,x.af.Next,x.af.aO⟩,x.bF,x.aW⟩:Result)) 3 (hZ.fs [3,3,3] rfl) ⟨_,_,_,_,_,rfl,U,G,I⟩
      have dq:=h2.fs [1] rfl
      refine Op.cl (some 104) 2 dq (Sk _ _ _ dq.sub O D (⟨s.an,s.aD,(touchB s.az client s.ax),s.ax,s.count,s.events,s.aI⟩:Sp) _ hY client ((aK b).1) _ bo _ bs u (⟨touchE s.az client s.ax,x.bg,x.At,⟨x.af.aa,x.af.Data,x.af.ak,x.af.aE,x.af.Next,x.af.aO⟩,x.bF,x.aW⟩:Result) _ h1 (by(try dsimp only)<;>exact a6.touch1) (by((try dsimp only)<;>((have:=xW b;have:=gu (aK b).1;omega)))) (St.pt 2 dq)) ?_
      rintro _ mp _ mx my h3 ⟨h4,h5,rfl,h6,h7,rfl⟩
      exact Op.gt 37<|At.rt dr<|hR (h3.fs [1,1,2] rfl).drop ⟨h4,h5,rfl,h6.eq (by exact(Kk (x:=x) ‹_› ‹_› ‹_› ‹_› V ‹_› a4 ‹_›).1),h7.eq (by exact(Kk (x:=x) ‹_› ‹_› ‹_› ‹_› V ‹_› a4 ‹_›).2),rfl⟩
     refine At.go 35 2 [(105,.bool ((((aK b).1).Kind)==8))]<|At.fd ((((aK b).1).Kind)=8) 105 36 37 (fun m0=>?_) fun m1=>?_
     ·refine At.rp 5 2 [(107,vP D),(108,vI client)]<|Op.la 36 8 109 0 9 [vI (((aK b).1).Kind),vS (((aK b).1).aa),vL Y ((((aK b).1).Data).length) Z,vI (((aK b).1).ak),vI (((aK b).1).aJ),.bool (((aK b).1).aZ),.bool (((aK b).1).aN),.bool (((aK b).1).ah),vL a28 ((((aK b).1).aH).length) ab] (be.ag 9 rfl)<|Op.px 1 [(110,vP u)] ?_
      obtain⟨m2,h8,h9⟩:=St.bl (Q:=bB J D (⟨s.an,s.aD,(touchB s.az client s.ax),s.ax,s.count,s.events,s.aI⟩:Sp)) 6 (be.fs [3,3,3,8,8,5,8,8,8] rfl) ⟨_,_,_,_,_,_,_,_,_,_,rfl,ae,am,a0,ar,aw⟩
      obtain⟨m3,ib,ih⟩:=St.bl (Q:=fF J u (⟨touchE s.az client s.ax,x.bg,x.At,⟨x.af.aa,x.af.Data,x.af.ak,x.af.aE,x.af.Next,x.af.aO⟩,x.bF,x.aW⟩:Result)) 3 (h9.fs [3,3,3] rfl) ⟨_,_,_,_,_,rfl,U,G,I⟩
      have du:=ih.fs [1] rfl
      refine Op.cl (some 111) 2 du (SN _ _ _ du.sub O D (⟨s.an,s.aD,(touchB s.az client s.ax),s.ax,s.count,s.events,s.aI⟩:Sp) _ h8 client ((aK b).1) _ bo _ bs u (⟨touchE s.az client s.ax,x.bg,x.At,⟨x.af.aa,x.af.Data,x.af.ak,x.af.aE,x.af.Next,x.af.aO⟩,x.bF,x.aW⟩:Result) _ ib hP (by(try dsimp only)<;>exact a6.touch1) (by((try dsimp only)<;>((have:=xW b;have:=gu (aK b).1;omega)))) (St.pt 2 du)) ?_
      rintro _ m4 _ m5 m6 ii ⟨ik,il,rfl,io,ip,rfl⟩
      exact Op.gt 37<|At.rt dr<|hR (ii.fs [1,1,2] rfl).drop ⟨ik,il,rfl,io.eq (by exact(Kl (x:=x) ‹_› ‹_› ‹_› ‹_› V ‹_› a4 ‹_› ‹_›).1),ip.eq (by exact(Kl (x:=x) ‹_› ‹_› ‹_› ‹_› V ‹_› a4 ‹_› ‹_›).2),rfl⟩
     obtain⟨is,iv,i0⟩:=St.bl (Q:=bB J D (⟨s.an,s.aD,(touchB s.az client s.ax),s.ax,s.count,s.events,s.aI⟩:Sp)) 6 (be.fs [3,3,3,8,8,5,8,8,8] rfl) ⟨_,_,_,_,_,_,_,_,_,_,rfl,ae,am,a0,ar,aw⟩
     obtain⟨i1,i2,i3⟩:=St.bl (Q:=fF J u (⟨touchE s.az client s.ax,x.bg,x.At,⟨x.af.aa,x.af.Data,x.af.ak,x.af.aE,x.af.Next,x.af.aO⟩,x.bF,x.aW⟩:Result)) 3 (i0.fs [3,3,3] rfl) ⟨_,_,_,_,_,rfl,U,G,I⟩
     exact At.rt dr<|hR (i3.fs [1,2] rfl).drop ⟨is,i1,rfl,iv.eq (by exact(Km (x:=x) ‹_› ‹_› ‹_› ‹_› V ‹_› a4 ‹_› ‹_›).1),i2.eq (by exact(Km (x:=x) ‹_› ‹_› ‹_› ‹_› V ‹_› a4 ‹_› ‹_›).2),rfl⟩
   refine At.go 30 2 [(97,.bool ((((aK b).1).Kind)==6))]<|At.fd ((((aK b).1).Kind)=6) 97 32 31 (fun i4=>?_) fun m7=>?_
   ·exact At.kT 97 i4 (At.ke (ej _ true _ (bK _) (by exact S1 ‹_›) bk))
   exact At.go 32 2 [(97,.bool ((((aK b).1).Kind)==7))] (At.ke (ej _ ((((aK b).1).Kind)==7) _ (bK _) (by exact S3 ‹_›) bk))
 refine At.go 18 2 [(70,.bool ((((aK b).1).Kind)==3))]<|At.fd ((((aK b).1).Kind)=3) 70 22 19 (fun i5=>?_) fun m8=>?_
 ·exact At.kT 70 i5 (At.ke (c9 _ true _ (bK _) (by exact SX ‹_›) a3))
 refine At.go 20 2 [(70,.bool ((((aK b).1).Kind)==4))]<|At.fd ((((aK b).1).Kind)=4) 70 22 21 (fun i6=>?_) fun m9=>?_
 ·exact At.kT 70 i6 (At.ke (c9 _ true _ (bK _) (by exact SY ‹_›) a3))
 exact At.go 22 2 [(70,.bool ((((aK b).1).Kind)==5))] (At.ke (c9 _ ((((aK b).1).Kind)==5) _ (bK _) (by exact SZ ‹_› ‹_›) a3))
set_option linter.unusedSectionVars false
structure mz (ws:List ah):Prop where
  sort:iX ws
  right:∀w∈ws,fP w=true
  j0:∀c,cnt c ws≤8
theorem xY (c:Int) (w:ah) (ws:List ah):cnt c (w::ws)=(if w.Client=c then 1 else 0)+cnt c ws:=rfl
theorem Kn (c:Int) (q:ah→Bool):∀ws:List ah,cnt c (ws.filter q)≤cnt c ws
  |[]=>iO _
  |w::ws=>by
   have ih:=Kn c q ws
   rw[ju]
   split
   · rw[xY,xY];omega
   · rw[xY];omega
theorem mz.nil:mz []:=⟨iX.nil,fun w h=>(by cases h),fun c=>by simp[cnt]⟩
theorem mz.filter {ws:List ah} (H:mz ws) (q:ah→Bool):mz (ws.filter q):=
  ⟨H.sort.filter q,fun w h=>H.right w (iH.1 h).1,fun c=>cr (Kn c q ws) (H.j0 c)⟩
theorem mz.add {ws:List ah} (H:mz ws) (w:ah):mz (nD ws w):=by
  rcases JT ws w with ⟨e,_⟩|⟨e,_,h1,h2,h3⟩
  · rw[e];exact H
  · rw[e]
    refine⟨JS H.sort (by simpa[mS] using h2),fun y hy=>?_,fun c=>?_⟩
    · rcases Dq.1 hy with rfl|hy
      · exact h1
      · exact H.right y hy
    · rw[Dr]
      by_cases hc:w.Client=c
      · subst hc;rw[aL rfl];omega
      · rw[aB hc];exact H.j0 c
theorem tY {w:ah} (h:fP w=true):w.aa.length≤64∧0≤w.Client∧w.Client<8∧(w.Kind=1∨w.Kind=2):=by
  unfold fP at h
  simp only[bO,ie,cB,kz] at h
  obtain⟨h1,h2,h3,h4⟩:=h
  have h5:=j9.1 h4
  unfold eX at h5
  simp only[bO,cB] at h5
  exact⟨h5.2.1,h1,h2,h3⟩
theorem DB:∀(ws:List ah),(∀w∈ws,0≤w.Client∧w.Client<8)→ws.length=cnt 0 ws+cnt 1 ws+cnt 2 ws+cnt 3 ws+cnt 4 ws+cnt 5 ws+cnt 6 ws+cnt 7 ws
  |[],_=>by simp[cnt]
  |w::ws,h=>by
   have ih:=DB ws fun v hv=>h v (by simp[hv])
   have hw:=h w (by simp)
   rw[bL,ih]
   simp only[xY]
   have hc:w.Client=0∨w.Client=1∨w.Client=2∨w.Client=3∨w.Client=4∨w.Client=5∨w.Client=6∨w.Client=7:=by omega
   rcases hc with e|e|e|e|e|e|e|e<;>simp[e]<;>omega
theorem mz.len {ws:List ah} (H:mz ws):ws.length≤64:=by
  rw[DB ws fun w hw=>(tY (H.right w hw)).2.imp id (·.1)]
  have:=H.j0 0;have:=H.j0 1;have:=H.j0 2;have:=H.j0 3;have:=H.j0 4;have:=H.j0 5;have:=H.j0 6;have:=H.j0 7
  omega
theorem mz.load {ws:List ah} (H:mz ws):jZ ws=true:=by
  unfold jZ
  rw[gR]
  intro k hk
  rw[q4] at hk
  unfold kS
  rw[kE hk]
  simp only[bO,ie,cB]
  refine⟨H.right _ (List.getElem_mem hk),?_,by have:=H.j0 (ws[k]).Client;omega⟩
  by_cases h0:k=0
  · exact .inl h0
  · right
    obtain⟨x,hx⟩:∃x,ws[k-1]?=some x:=⟨_,kE (by omega)⟩
    have:vj ws ((k:Int)-1)=x:=by
      unfold vj
      rw[show((k:Int)-1).toNat=k-1 by omega,Cv,hx]
      rfl
    rw[this]
    exact H.sort.at (i:=k-1) (j:=k) (by omega) hx (kE hk)
structure jA (e:gL):Prop where
  sort:fJ e
  ne:∀p∈e,p.2≠[]
  own:∀p∈e,∀w∈p.2,w.Client=p.1∧fP w=true
section
variable {e:gL} {w:ah} {ws:List ah} {c:Int}
theorem jA.nil:jA []:=⟨List.Pairwise.nil,fun p h=>(by cases h),fun p h=>by cases h⟩
theorem jA.eE (H:jA e) (c:Int):∀w∈eE e c,w.Client=c∧fP w=true:=by
  unfold Sw.eE
  cases hf:bW e c with
  |none=>intro w h;cases h
  |some xs=>exact H.own (c,xs) ((ki H.sort).1 hf)
theorem jA.put (H:jA e) (h:fP w=true):jA (nX e w):=by
  unfold nX
  refine⟨xq H.sort,fun p hp=>?_,fun p hp v hv=>?_⟩
  · rcases rO hp with rfl|hp
    · simp
    · exact H.ne p hp
  · rcases rO hp with rfl|hp
    · rcases cU.1 hv with hv|hv
      · exact H.eE w.Client v hv
      · rw[gv.1 hv];exact⟨rfl,h⟩
    · exact H.own p hp v hv
theorem jA.Ko:∀(ws:List ah) {e:gL},jA e→(∀w∈ws,fP w=true)→jA (eV e ws)
  |[],_,H,_=>H
  |w::ws,_,H,h=>jA.Ko ws (H.put (h w (by simp))) fun v hv=>h v (by simp[hv])
theorem jA.nQ (H:jA e) (c:Int):jA (fh e c):=
  ⟨s7 oJ H.sort,fun p hp=>H.ne p (iH.1 hp).1,fun p hp=>H.own p (iH.1 hp).1⟩
end
structure qR (r:List (Int×f_)):Prop where
  sort:fJ r
  ok:∀p∈r,(0≤p.1∧p.1<8)∧(1≤p.2.stamp∧p.2.stamp<1099511627776)∧p.2.data.length≤65536
theorem qR.nil:qR []:=⟨List.Pairwise.nil,fun p h=>by cases h⟩
theorem qR.put {r:List (Int×f_)} {c st:Int} {d:aQ} (H:qR r) (h:(0≤c∧c<8)∧(1≤st∧st<1099511627776)∧d.length≤65536):qR (b7 r c ⟨st,d⟩):=
  ⟨xq H.sort,fun p hp=>by
    rcases rO hp with rfl|hp
    · exact h
    · exact H.ok p hp⟩
def lH (Q:Int→Int→Prop) (ns:List af):Prop:=∀n∈ns,Q n.aE n.aO
def vA (cnt:Int) (o b:Int):Prop:=o<8∧b≤cnt
section
variable {Q:Int→Int→Prop} {ns:List af} {l:af} {p data:aQ} {cj born bA:Int} {num:Bool}
theorem lH.DC (H:lH Q ns) (h:Q l.aE l.aO):lH Q (d_ ns l):=fun n hn=>by
  rcases qM.1 hn with rfl|hn
  · exact h
  · exact H n hn.1
theorem lH.make (H:lH Q ns) (h:Q (max cj (-1)) (max born 0)):lH Q (bY ns p data cj born num).1:=by
  by_cases he:(bY ns p data cj born num).2.2=0
  · obtain⟨up,_,_,hf,_,_,_,_,e⟩:=Ad he
    rw[e]
    unfold l_
    refine lH.DC (H.DC ?_) h
    have:=H up (jR hf).1
    split<;>exact this
  · rw[(C1 he).1];exact H
theorem lH.drop (H:lH Q ns):lH Q (fL ns p bA).1:=by
  unfold fL
  repeat' split
  all_goals first|exact H|exact fun n hn=>H n (iH.1 hn).1
theorem lH.set (H:lH Q ns):lH Q (eP ns p data bA).1:=by
  unfold eP
  repeat' split
  all_goals first|exact H|skip
  rename_i l hf _ _
  exact H.DC (H l (jR hf).1)
end
structure bC (k:Int) (s:Sp):Prop where
  tree:fB k s.an
  kW:mz s.aD
  az:gJ s.az
  mA:∀p∈s.az,s.ax<p.2.cA+p.2.aJ
  ax:0≤s.ax∧s.ax<1099511627776
  ev:jA s.events
  quo:p_ s.aD s.events
  gN:qR s.aI
  lI:lH (vA s.count) s.an
  cn:0≤s.count
section
variable {k k':Int} {s:Sp} {kind c t:Int} {cZ:List aQ} {p:aQ} {o:aC} {w:ah}
theorem bC.mono (H:bC k s) (h:k≤k'):bC k' s:=⟨H.tree.mono h,H.kW,H.az,H.mA,H.ax,H.ev,H.quo,H.gN,H.lI,H.cn⟩
theorem bC.wk (H:bC k s) (hk:k≤1000000):dH s:=⟨H.tree.b hk,cr H.kW.len (by decide),H.kW.sort,H.az,H.quo⟩
theorem bC.new:bC 0 eM:=⟨fB.new,mz.nil,gJ.nil,fun p h=>(by cases h),by decide,jA.nil,fun c=>(by simp[eM,eE,bW]),qR.nil,fun n hn=>(by rw[gv.1 hn];exact⟨by decide,by decide⟩),by decide⟩
theorem bC.nY (H:bC k s) (kind:Int) (cZ:List aQ):bC k (su s kind cZ):=
  ⟨H.tree,H.kW.filter _,H.az,H.mA,H.ax,jA.Ko _ H.ev (fun w hw=>H.kW.right w (iH.1 hw).1),H.quo.nY kind cZ,H.gN,H.lI,H.cn⟩
theorem bC.xP (H:bC k s) (p:aQ):bC k (vk s p):=(H.nY _ _).nY _ _
theorem bC.Ap (H:bC k s) (fA:Nat) (p:aQ):bC k (kU s fA p):=by
  unfold kU
  split
  · exact H.xP p
  · exact H.nY _ _
theorem bC.tr {ns:List af} (H:bC k s) (h:fB k' ns) (hl:lH (vA s.count) ns):bC k' {s with an:=ns}:=⟨h,H.kW,H.az,H.mA,H.ax,H.ev,H.quo,H.gN,hl,H.cn⟩
theorem bC.lE (H:bC k s) (p:aQ):bC k (lE s p):=(H.tr (H.tree.drop (p:=p) (bA:= -1)) H.lI.drop).xP p
theorem bC.Ak:∀(ps:List aQ) {s:Sp},bC k s→bC k (ps.foldl Sw.lE s)
  |[],_,H=>H
  |p::ps,_,H=>bC.Ak ps (H.lE p)
theorem bC.left (H:bC k s) (c:Int):bC k (sw s c):=
  ⟨H.tree,H.kW.filter _,H.az.left _,fun p hp=>H.mA p (iH.1 hp).1,H.ax,H.ev.nQ c,fun i=>by
    have h1:=H.quo i
    have h2:=(C_ (fun w:ah=>decide (w.Client=i)) (oJ (p:=fun w=>!p5 [c] w) (l:=s.aD))).length_le
    show _+(eE (fh s.events c) i).length≤8
    rw[Dj]
    split
    · simp only[cS];unfold sw;simp only;omega
    · unfold sw;simp only;omega,H.gN,H.lI,H.cn⟩
theorem bC.oQ (H:bC k s) (c:Int):bC k (oQ s c):=bC.Ak _ (H.left c)
theorem bC.xQ:∀(cs:List Int) {s:Sp},bC k s→bC k (lF s cs)
  |[],_,H=>H
  |c::cs,_,H=>bC.xQ cs (H.oQ c)
theorem bC.S5 (H:bC k s) (w:ah):bC k (nZ s w):=by
  unfold nZ xR
  split
  · exact H
  · split
    · exact H
    · rename_i h1 h2
      refine⟨H.tree,H.kW.add w,H.az,H.mA,H.ax,H.ev,fun i=>?_,H.gN,H.lI,H.cn⟩
      have h3:=H.quo i
      rw[←Dk] at h3 ⊢
      show cnt i (nD s.aD w)+(eE s.events i).length≤8
      rcases JT s.aD w with ⟨e,_⟩|⟨e,_,_,_,_⟩
      · rw[e];exact h3
      · rw[e,Dr]
        split
        · rename_i hc;subst hc;omega
        · exact h3
theorem bC.gy (H:bC k s) (c:Int) (o:aC):bC k (mT s c o):=by
  unfold mT
  split
  · exact H.S5 _
  · exact H
theorem S6 (H:fB k s.an) (h0:0≤k) (hk:k≤100000):fB (k+1) (dU s c o):=by
  unfold dU dS
  split
  · exact H.make hk h0
  · split
    · exact(H.drop).mono (by omega)
    · exact H.set hk
theorem S7 (H:bC k s) (hc:c<8):lH (vA s.count) (dU s c o):=by
  have h0:=H.cn
  unfold dU dS
  split
  · refine H.lI.make ⟨?_,by omega⟩
    split<;>omega
  · split
    · exact H.lI.drop
    · exact H.lI.set
theorem bC.oS (H:bC k s) (h0:0≤k) (hk:k≤100000) (hc:c<8):bC (k+1) (cH s c o):=H.tr (S6 H.tree h0 hk) (S7 H hc)
theorem bC.qb (H:bC k s) (h0:0≤k) (hk:k≤100000) (hc:c<8):bC (k+1) (qb s c o):=by
  unfold Sw.qb
  split
  · exact(H.oS h0 hk hc).Ap _ _
  · exact H.oS h0 hk hc
theorem bC.Kp (hc:c<8):∀(ops:List aC) {s:Sp} {k:Int},bC k s→0≤k→k+ops.length≤100000→bC (k+ops.length) (ops.foldl (mU c) s)
  |[],_,_,H,_,_=>by simpa using H
  |o::ops,s,k,H,h0,hk=>by
   rw[bL] at hk ⊢
   have:=bC.Kp hc ops (s:=cH s c o) (k:=k+1) (H.oS h0 (by omega) hc) (by omega) (by omega)
   rw[oE]
   exact this.mono (by omega)
theorem bC.Kq:∀(l:List iz) {s:Sp},bC k s→bC k (l.foldl oa s)
  |[],_,H=>H
  |x::l,_,H=>bC.Kq l (H.Ap x.fA x.ey)
theorem xZ (hc:c<8):∀(ops:List aC) {s sp:Sp} {k i j e:Int},bC k s→0≤k→k+ops.length≤100000→gU c s ops i=some (j,e,sp)→bC (k+ops.length) sp∧sp.count=s.count∧e≠0∧i≤j∧j<i+ops.length
  |[],_,_,_,_,_,_,_,_,_,h=>by cases h
  |o::ops,s,sp,k,i,j,e,H,h0,hk,h=>by
   rw[bL] at hk ⊢
   rw[gU] at h
   split at h
   · obtain⟨h1,h5,h2,h3,h4⟩:=xZ hc ops (H.oS (c:=c) (o:=o) h0 (by omega) hc) (by omega) (by omega) h
     exact⟨h1.mono (by omega),h5,h2,by omega,by omega⟩
   · rename_i he
     cases h
     exact⟨(H.oS h0 (by omega) hc).mono (by omega),rfl,he,by omega,by omega⟩
theorem bC.S8 (H:bC k s) (hc:c<8) (h0:0≤k) (hk:k+o.aH.length≤100000):bC (k+o.aH.length) (mw s c o):=by
  unfold mw
  split
  · rename_i j e sp h
    obtain⟨h1,h2,_⟩:=xZ hc _ H h0 hk h
    unfold Dv
    rw[H.tree.C3,aL rfl]
    exact h1.tr (H.tree.mono (by omega)) (by rw[h2];exact H.lI)
  · unfold kV
    refine bC.Kq _ ?_
    rw[vv]
    exact H.Kp hc _ h0 hk
theorem bC.touch (H:bC k s):bC k (touchS s c):=by
  unfold touchS
  refine⟨H.tree,H.kW,H.az.touch,fun p hp=>?_,H.ax,H.ev,H.quo,H.gN,H.lI,H.cn⟩
  show s.ax<_
  unfold touchB at hp
  split at hp
  · exact H.mA p hp
  · split at hp
    · exact H.mA p hp
    · rename_i x hf _
      rcases rO hp with rfl|hp
      · have:=H.mA _ ((ki H.az.1).1 hf)
        simp only at this ⊢
        omega
      · exact H.mA p hp
theorem bC.kK (H:bC k s) {dO:Int}:bC k {s with az:=mM s.az c dO s.ax}:=by
  refine⟨H.tree,H.kW,H.az.kK,fun p hp=>?_,H.ax,H.ev,H.quo,H.gN,H.lI,H.cn⟩
  show s.ax<_
  unfold mM at hp
  split at hp
  · rename_i h
    rcases rO hp with rfl|hp
    · unfold jV at h
      split at h
      · simp at h
      · rename_i hr
        have hr:gh ⟨c,dO,s.ax⟩=true:=by simpa using hr
        have:=(xu hr).2.1
        simp only at this ⊢
        omega
    · exact H.mA p hp
  · exact H.mA p hp
theorem bC.run (H:bC k s) (hc:c<8) (h0:0≤k) (hk:k≤99000) (ho:o.aH.length≤4):bC (k+4) (nF s c o):=by
  unfold nF
  repeat' split
  · exact(H.xQ [c]).mono (by omega)
  · exact(H.qb h0 (by omega) hc).mono (by omega)
  · exact(H.gy c o).mono (by omega)
  · exact(H.S8 hc h0 (by omega)).mono (by omega)
  · exact H.mono (by omega)
end
theorem Kr {b:aQ} (h:(aK b).2=0):(aK b).1.aH.length≤4:=by
  unfold aK at *
  repeat' split at h
  all_goals first|(simp at h;done)|skip
  rename_i h1 h2
  rw[aB h1,aB h2]
  have:dV false (aR false b).1=true:=by
    simp only[rZ] at h2
    simpa using h2.2
  exact(oN this).2.2.2.1
section
variable {k:Int} {s:Sp} {c t:Int} {b:aQ} {e:bu}
theorem bC.step (H:bC k s) (hc:c<8) (h0:0≤k) (hk:k≤99000):bC (k+4) (cV s c b):=by
  unfold cV
  split
  · exact H.mono (by omega)
  · rename_i hr
    split
    · exact H.kK.mono (by omega)
    · split
      · exact H.touch.mono (by omega)
      · exact H.touch.run hc h0 hk (Kr (by simpa using hr))
structure DD (k:Int) (s:Sp):Prop where
  tree:fB k s.an
  kW:mz s.aD
  az:gJ s.az
  ax:0≤s.ax∧s.ax<1099511627776
  ev:jA s.events
  quo:p_ s.aD s.events
  gN:qR s.aI
  lI:lH (vA s.count) s.an
  cn:0≤s.count
theorem DD.S9 (H:DD k s):bC k (xX s):=by
  unfold xX
  refine bC.xQ _ ⟨H.tree,H.kW,H.az.left _,fun p hp=>?_,H.ax,H.ev,H.quo,H.gN,H.lI,H.cn⟩
  have:=(iH.1 hp).2
  unfold jH at this
  simp only[gZ,jP] at this
  show s.ax<_
  omega
theorem bC.S_ (H:bC k s) (t:Int):DD k {s with ax:=max s.ax (min t 1099511627775)}:=
  ⟨H.tree,H.kW,H.az,by have:=H.ax;show 0≤max s.ax (min t 1099511627775)∧max s.ax (min t 1099511627775)<1099511627776;omega,H.ev,H.quo,H.gN,H.lI,H.cn⟩
theorem bC.tZ (H:bC k s) (t:Int):bC k (fR s t):=(H.S_ t).S9
theorem bC.more (H:bC k s):bC k (eO s):=⟨H.tree,H.kW,H.az,H.mA,H.ax,H.ev,H.quo,H.gN,fun n hn=>(by have:=H.lI n hn;unfold vA eO at *;simp only;omega),by have:=H.cn;unfold eO;simp only;omega⟩
end
theorem Aw {e:bu} (h:ic e=true):(0≤e.Client∧e.Client<8)∧1≤e.bz∧e.bz<1099511627776:=by
  unfold ic at h
  simp only[bO,cB] at h
  omega
theorem DE {fs:List aj} (h:lC fs=true):fs.length≤1024∧∀f∈fs,f.length≤65536:=by
  unfold lC at h
  simp only[bO,cB,gR] at h
  exact h
theorem DF {fs:List aj} (h1:fs.length≤1024) (h2:∀f∈fs,f.length≤65536):lC fs=true:=by
  unfold lC
  simp only[bO,cB,gR]
  exact⟨h1,h2⟩
theorem x4 {fs:List aj} (h:(dx fs).2=0):lC fs=true∧(dx fs).1=fI fs:=by
  unfold dx at *
  split at h
  · rename_i hj;exact⟨hj,by rw[aL hj]⟩
  · simp at h
theorem Ax {fs:List aj} (h:lC fs=true):dx fs=(fI fs,0):=by unfold dx;rw[aL h]
theorem x5 {l:List Int} (h:l.all iV=true):eD l=(gC l,0):=by unfold eD;rw[aL h]
theorem sE {v:Int} (h:iJ v=true):iV v=true∧0≤v∧v≤4611686018427387902:=by
  unfold iJ at h
  simp only[bO,cB] at h
  exact⟨lT (by omega) (by omega),h⟩
theorem Ks {x:Result} (h:kn x=true):(tK x).all iV=true:=by
  have ho:=CW h
  unfold kn at h
  simp only[j5,nq,bO,lB] at h
  unfold tK
  simp only[j5,nq,bO,lB]
  obtain⟨⟨h1,h2,h3,h4,h5,h6⟩,_⟩:=h
  exact⟨(sE h1).1,(sE h2).1,(sE h3).1,(sE h4).1,lT (by omega) (by omega),(sE h5).1,(sE h6).1⟩
structure kX (x:Result):Prop where
  code:0≤x.Code∧x.Code≤1000
  count:0≤x.bg∧x.bg≤2000000000000
  br:0≤x.At∧x.At≤4
  ey:x.af.aa.length≤64
  data:x.af.Data.length≤128
  bA:0≤x.af.ak∧x.af.ak≤1000000
  own: -1≤x.af.aE∧x.af.aE<8
  next:0≤x.af.Next∧x.af.Next≤1000000
  born:0≤x.af.aO∧x.af.aO≤2000000000000
  iW:x.bF.length≤32∧∀n∈x.bF,n.length≤64
theorem x6 {m:Nat}:∀fs:List aj,(∀f∈fs,f.length≤m)→(fI fs).length≤(10+m)*fs.length
  |[],_=>by simp[fI]
  |f::fs,h=>by
   have ih:=x6 fs fun g hg=>h g (by simp[hg])
   have hf:=h f (by simp)
   have hn:=(u0 (f.length:Int)).2
   have e:fI (f::fs)=gI f.length++(f++fI fs):=by
     unfold fI
     rw[uX]
     unfold rL
     rw[cI]
   rw[e,b_,b_,bL,Cq]
   omega
theorem Kt {w:ah} (h:fP w=true):kP w=true∧(mq w).1.length≤148:=by
  obtain⟨h1,h2,h3,h4⟩:=tY h
  have hn:[w.Client,w.Kind].all iV=true:=by
    simp only[j5,nq,bO,lB]
    exact⟨lT (by omega) (by omega),lT (by omega) (by omega)⟩
  have hw:[w.Client,w.Kind].all iJ=true:=by
    simp only[j5,nq,bO,lB,iJ,cB]
    omega
  have hl:(gC [w.Client,w.Kind]).length≤20:=zz _
  have hm:∀f∈[gC [w.Client,w.Kind],w.aa],f.length≤64:=by
    intro f hf
    simp only[fe,List.not_mem_nil,or_false] at hf
    rcases hf with rfl|rfl<;>omega
  have hj:lC [gC [w.Client,w.Kind],w.aa]=true:=DF (by simp) fun f hf=>by have:=hm f hf;omega
  have he:mq w=(fI [gC [w.Client,w.Kind],w.aa],0):=by unfold mq;rw[x5 hn,Ax hj]
  refine⟨?_,?_⟩
  · unfold kP
    rw[hw,he];rfl
  · rw[he]
    exact x6 _ hm
theorem Ta {x:Result} (H:kX x) (he:x.aW.length≤8∧∀w∈x.aW,fP w=true):(dy x).2=0∧(dy x).1.length≤65536:=by
  obtain⟨h1,h2,h3,h4,h5,h6,h7,h8,h9,u⟩:=H
  have hb:kn x=true:=by
    refine IP ?_ (by omega) (by omega)
    simp only[j5,nq,bO,lB,iJ,cB]
    omega
  have hn:=Ks hb
  have hj:lC x.bF=true:=DF (by omega) fun f hf=>by have:=u.2 f hf;omega
  have D:x.aW.all kP=true:=by
    rw[gR]
    exact fun w hw=>(Kt (he.2 w hw)).1
  have I:(fI x.bF).length≤2368:=cr (x6 _ u.2) (by omega)
  have J:(gC (tK x)).length≤70:=zz _
  have hrow:lV x=(gC (tK x))::x.af.aa::x.af.Data::fI x.bF::x.aW.map (fun w=>(mq w).1):=by
    unfold lV xF
    rw[x5 hn,Ax hj]
    rfl
  have hm:∀f∈lV x,f.length≤2368:=by
    rw[hrow]
    intro f hf
    simp only[fe,cF] at hf
    rcases hf with rfl|rfl|rfl|rfl|⟨w,hw,rfl⟩
    · omega
    · omega
    · omega
    · omega
    · have:=(Kt (he.2 w hw)).2;omega
  have hl:(lV x).length≤12:=by
    rw[hrow]
    simp only[bL,eu]
    omega
  have G:lC (lV x)=true:=DF (by omega) fun f hf=>by have:=hm f hf;omega
  have e:dy x=(fI (lV x),0):=by
    unfold dy
    rw[aB (by rw[hb];simp),aB (by rw[Ax hj];simp),aB (by rw[D];simp),Ax G,aB (by simp)]
  rw[e]
  exact⟨rfl,cr (x6 _ hm) (by omega)⟩
section
variable {k k':Int} {s:Sp} {c t:Int} {o:aC} {x:Result} {p data:aQ} {ns:List af} {cj born bA:Int} {num:Bool}
def Cd (e:Int):Prop:=0≤e∧e≤1000
theorem Ay (p:aQ):Cd (cP p):=by unfold cP Cd;split<;>omega
theorem Ku (p:aQ):Cd (b9 p):=by unfold b9 Cd;split<;>omega
theorem Tb (up:af) (p:aQ) (num:Bool):Cd (fX up p num):=by
  unfold fX j8
  repeat' split
  · exact Ay _
  · exact⟨by simp,by simp⟩
  · exact⟨by simp,by simp⟩
theorem Tc:Cd (bY ns p data cj born num).2.2:=by
  unfold bY
  repeat' split
  all_goals first|exact Ku _|exact Tb _ _ _|exact⟨by simp,by simp⟩
theorem Td:Cd (fL ns p bA).2:=by
  unfold fL
  repeat' split
  all_goals first|exact Ku _|exact⟨by simp,by simp⟩
theorem Te:Cd (eP ns p data bA).2.2:=by
  unfold eP
  repeat' split
  all_goals first|exact Ay _|exact⟨by simp,by simp⟩
theorem Tf:Cd (iS ns p).2:=by
  unfold iS
  repeat' split
  all_goals first|exact Ay _|exact⟨by simp,by simp⟩
theorem Kv:Cd (bR ns p).2:=by
  unfold bR
  repeat' split
  all_goals first|exact Ay _|exact⟨by simp,by simp⟩
theorem DG:Cd (cc s c o):=by
  unfold cc dS
  split
  · exact Tc
  · split
    · exact Td
    · exact Te
theorem Tg (ws:List ah) (w:ah):Cd (nC ws w):=by
  unfold nC
  repeat' split
  all_goals exact⟨by simp,by simp⟩
theorem Th (w:ah):Cd (jz s w):=by
  unfold jz
  repeat' split
  all_goals first|exact Tg _ _|exact⟨by simp,by simp⟩
theorem touchE_cd (b:fm) (c t:Int):Cd (touchE b c t):=by
  unfold touchE
  split
  all_goals exact⟨by simp,by simp⟩
theorem Ti (b:fm) (c sp t:Int):Cd (jV b c sp t):=by
  unfold jV
  repeat' split
  all_goals exact⟨by simp,by simp⟩
theorem Tj (b:aQ):Cd (aK b).2:=by
  unfold aK
  repeat' split
  all_goals exact⟨by simp,by simp⟩
structure gV (l:af):Prop where
  ey:l.aa.length≤64
  data:l.Data.length≤128
  bA:0≤l.ak∧l.ak≤1000000
  own: -1≤l.aE∧l.aE<8
  next:0≤l.Next∧l.Next≤1000000
  born:0≤l.aO∧l.aO≤2000000000000
theorem gV.none:gV ec:=⟨by decide,by decide,by decide,by decide,by decide,by decide⟩
theorem bC.Az (H:bC k s) (hk:k≤1000000) (hc:s.count≤2000000000000) {l:af} (h:l∈s.an):gV l:=by
  obtain⟨h1,h2,h3,h4,h5,h6,_⟩:=H.tree.node l h
  have:=H.lI l h
  unfold vA at this
  exact⟨rI h1,h2,⟨h4.1,by omega⟩,⟨h3,this.1⟩,⟨h5.1,by omega⟩,h6,by omega⟩
theorem kX.Az (H:kX x) {l:af} (h:gV l) {e:Int} (he:Cd e):kX {x with Code:=e,af:=l}:=
  ⟨he,H.count,H.br,h.ey,h.data,h.bA,h.own,h.next,h.born,H.iW⟩
theorem kX.cd (H:kX x) {e:Int} (he:Cd e):kX {x with Code:=e}:=⟨he,H.count,H.br,H.ey,H.data,H.bA,H.own,H.next,H.born,H.iW⟩
theorem Tk (H:bC k s) (h0:0≤k) (hk:k≤100000) (he:cc s c o=0):gV (bE s c o):=by
  unfold bE
  unfold cc at he
  split
  · rename_i h3
    rw[aL h3] at he
    unfold dS at *
    obtain⟨up,u,_,hf,_,hm,_,_,e⟩:=Ad he
    refine⟨?_,gV.none.data,gV.none.bA,gV.none.own,gV.none.next,gV.none.born⟩
    show(bY s.an o.aa o.Data _ s.count o.aN).2.1.length≤64
    rw[e]
    exact rI (tO (C2 u hm).1)
  · split
    · exact gV.none
    · split
      · rename_i h3 h4 h5
        unfold eP at h5 ⊢
        repeat' split at h5
        · rename_i hp;exact absurd h5 hp
        · simp at h5
        · simp at h5
        · simp at h5
        · rename_i hp _ l hf _ _
          have D:cP o.aa=0:=by simpa using hp
          have hl:=H.tree.node l (jR hf).1
          rw[aB hp]
          simp only[hf]
          rename_i h6 h7
          rw[aB h6,aB h7]
          refine⟨rI (j9.1 D),gV.none.data,?_,gV.none.own,gV.none.next,gV.none.born⟩
          show 0≤IntKind.wrap .i64 (l.ak+1)∧IntKind.wrap .i64 (l.ak+1)≤1000000
          rw[C0 hl.2.2.2.1.1 (by have:=hl.2.2.2.1.2;omega)]
          have:=hl.2.2.2.1
          omega
      · exact gV.none
theorem Tl (H:fB k ns):(iS ns p).1.length≤32∧∀n∈(iS ns p).1,n.length≤64:=by
  unfold iS
  repeat' split
  · exact⟨by simp,fun n h=>(by simp at h)⟩
  · exact⟨by simp,fun n h=>(by simp at h)⟩
  · unfold gA
    refine⟨?_,fun n h=>?_⟩
    · rw[eu]
      exact cr (kG _ _) H.len
    · obtain⟨l,hl,rfl⟩:=cF.1 h
      exact rI (H.node l (iH.1 hl).1).1
theorem Tm (H:bC k s) (hk:k≤1000000) (hc:s.count≤2000000000000) (hx:kX x):kX (n5 s o x):=by
  unfold n5
  repeat' split
  · exact⟨Tf,hx.count,hx.br,hx.ey,hx.data,hx.bA,hx.own,hx.next,hx.born,Tl H.tree⟩
  · rename_i h
    refine hx.Az ?_ Kv
    unfold bR at h ⊢
    split
    · rename_i hp
      rw[aL hp] at h
      split
      · rename_i hf;simp[hf] at h
      · rename_i l hf;exact H.Az hk hc (jR hf).1
    · rename_i hp
      rw[aB hp] at h
      exact absurd h hp
  · exact hx.cd Kv
theorem Kw (hc:c<8):∀(ops:List aC) {m:Mu} {k:Int},bC k m.sp→0≤k→k+ops.length≤100000→(∀n∈m.iW,n.length≤64)→(∀n∈(ops.foldl (iL 0 c) m).iW,n.length≤64)∧(ops.foldl (iL 0 c) m).iW.length=m.iW.length+ops.length
  |[],_,_,_,_,_,h=>⟨h,rfl⟩
  |o::ops,m,k,H,h0,hk,h=>by
   rw[bL] at hk ⊢
   obtain⟨h1,h2⟩:=Kw hc ops (m:=iL 0 c m o) (k:=k+1) (H.oS h0 (by omega) hc) (by omega) (by omega) (fun n hn=>by
     unfold iL at hn
     rcases cU.1 hn with hn|hn
     · exact h n hn
     · rw[gv.1 hn]
       split
       · rename_i h3
         unfold bE
         rw[aL h3]
         show(dS m.sp c o).2.1.length≤64
         unfold dS
         by_cases he:(bY m.sp.an o.aa o.Data (if o.aZ=true then c else -1) m.sp.count o.aN).2.2=0
         · obtain⟨up,u,_,hf,_,hm,_,_,e⟩:=Ad he
           rw[e]
           exact rI (tO (C2 u hm).1)
         · rw[(C1 he).2];decide
       · decide)
   refine⟨h1,?_⟩
   rw[oE,h2]
   unfold iL
   simp only[b_,qz]
   omega
theorem Tn (H:bC k s) (hc:c<8) (h0:0≤k) (hk:k≤99000) (ho:o.aH.length≤4) (hx:kX x):kX (oc s c o x):=by
  unfold oc
  split
  · rename_i j e sp h
    obtain⟨_,_,_,h1,h2⟩:=xZ hc _ H h0 (by omega) h
    have u:Cd e:=by
      have key:∀(ops:List aC) (s:Sp) (i:Int),gU c s ops i=some (j,e,sp)→Cd e:=by
        intro ops
        induction ops with
        |nil=>intro s i h;cases h
        |cons o ops ih=>
         intro s i h
         rw[gU] at h
         split at h
         · exact ih _ _ h
         · cases h;exact DG
      exact key _ _ _ h
    exact⟨u,hx.count,⟨h1,by show j≤4;omega⟩,hx.ey,hx.data,hx.bA,hx.own,hx.next,hx.born,hx.iW⟩
  · obtain⟨h1,h2⟩:=Kw hc o.aH (m:=⟨s,[],[]⟩) H h0 (by omega) (fun n h=>by cases h)
    refine⟨hx.code,hx.count,hx.br,hx.ey,hx.data,hx.bA,hx.own,hx.next,hx.born,?_,h1⟩
    show(o.aH.foldl (iL 0 c) ⟨s,[],[]⟩).iW.length≤32
    rw[h2]
    simp only[cS]
    omega
theorem To (H:bC k s) (hk:k≤1000000) (hc:s.count≤2000000000000) (hx:kX x):kX (n6 s c o x):=by
  unfold n6
  split
  · exact hx.cd (Th _)
  · exact Tm H hk hc hx
theorem Tp (H:bC k s) (hc:c<8) (h0:0≤k) (hk:k≤99000) (ho:o.aH.length≤4) (hn:s.count≤2000000000000) (hx:kX x):kX (oU s c o x):=by
  unfold oU
  repeat' split
  · exact hx
  · unfold xV
    split
    · rename_i he;exact hx.Az (Tk H h0 (by omega) he) DG
    · exact hx.cd DG
  · exact To H (by omega) hn hx
  · exact Tn H hc h0 hk ho hx
  · exact hx
theorem Kx {b:aQ} (H:bC k s) (hc:c<8) (h0:0≤k) (hk:k≤99000) (hn:s.count≤2000000000000) (hx:kX x):kX (cx s c b x):=by
  unfold cx
  split
  · exact hx.cd (Tj b)
  · rename_i hr
    split
    · exact hx.cd (Ti _ _ _ _)
    · split
      · exact hx.cd (touchE_cd _ _ _)
      · exact Tp H.touch hc h0 hk (Kr (by simpa using hr)) hn (hx.cd (touchE_cd _ _ _))
end
section
variable {k:Int} {s:Sp} {c:Int} {b:aQ} {e:bu}
theorem bC.Ky (H:bC k s) (c:Int):(eE s.events c).length≤8∧∀w∈eE s.events c,fP w=true:=
  ⟨by have:=H.quo c;omega,fun w hw=>(H.ev.eE c w hw).2⟩
theorem Tq (H:bC k s) (hc:c<8) (h0:0≤k) (hk:k≤99000) (hn:s.count≤1000000000000):kX (iZ s c b):=by
  have h1:=Kx (b:=b) (x:=⟨0,s.count+1,0,ec,[],[]⟩) H.more hc h0 hk (by show s.count+1≤_;omega) ⟨by show(0:Int)≤0∧(0:Int)≤1000;omega,by have:=H.cn;show 0≤s.count+1∧s.count+1≤_;omega,by show(0:Int)≤0∧(0:Int)≤4;omega,gV.none.ey,gV.none.data,gV.none.bA,gV.none.own,gV.none.next,gV.none.born,gO _,fun n h=>by cases h⟩
  exact⟨h1.code,h1.count,h1.br,h1.ey,h1.data,h1.bA,h1.own,h1.next,h1.born,h1.iW⟩
theorem Kz (H:bC k s) (hc:c<8) (h0:0≤k) (hk:k≤99000) (hn:s.count≤1000000000000):vc (iZ s c b):=by
  have h1:=Tq (b:=b) H hc h0 hk hn
  have h2:=(H.more.step (b:=b) hc h0 hk).Ky c
  refine⟨cr h1.ey (by decide),⟨cr h1.iW.1 (by decide),fun n hn=>cr (h1.iW.2 n hn) (by decide)⟩,cr h2.1 (by decide),fun w hw=>cr (tY (h2.2 w hw)).1 (by decide)⟩
theorem KA (H:bC k s) (hc:c<8) (h0:0≤k) (hk:k≤99000) (hn:s.count≤1000000000000):(dy (iZ s c b)).2=0∧(dy (iZ s c b)).1.length≤65536:=by
  have h1:=Kx (b:=b) (x:=⟨0,s.count+1,0,ec,[],[]⟩) H.more hc h0 hk (by show s.count+1≤_;omega) ⟨by show(0:Int)≤0∧(0:Int)≤1000;omega,by have:=H.cn;show 0≤s.count+1∧s.count+1≤_;omega,by show(0:Int)≤0∧(0:Int)≤4;omega,gV.none.ey,gV.none.data,gV.none.bA,gV.none.own,gV.none.next,gV.none.born,gO _,fun n h=>by cases h⟩
  refine Ta (x:=iZ s c b) ⟨h1.code,h1.count,h1.br,h1.ey,h1.data,h1.bA,h1.own,h1.next,h1.born,h1.iW⟩ ?_
  exact(H.more.step (b:=b) hc h0 hk).Ky c
theorem bC.done (H:bC k s) (he:ic e=true) (h0:0≤k) (hk:k≤99000) (hn:s.count≤1000000000000):bC (k+4) (qc s e b):=by
  obtain⟨h1,h2,h3⟩:=Aw he
  have h4:=H.more.step (b:=b) h1.2 h0 hk
  refine⟨h4.tree,h4.kW,h4.az,h4.mA,h4.ax,h4.ev.nQ _,fun i=>?_,h4.gN.put ⟨h1,⟨h2,h3⟩,(KA H h1.2 h0 hk hn).2⟩,h4.lI,h4.cn⟩
  have h5:=h4.quo i
  show _+(eE (fh (cV (eO s) e.Client b).events e.Client) i).length≤8
  rw[Dj]
  split
  · simp only[cS];unfold qc;simp only;omega
  · unfold qc;simp only;omega
end
def kp (s:Sp):Int×Int×List (Int×f_):=(s.ax,s.count,s.aI)
section
variable {s:Sp} {c t:Int} {b:aQ} {e:bu} {o:aC}
theorem KB (fA:Nat) (p:aQ):kp (kU s fA p)=kp s:=by unfold kU;split<;>rfl
theorem KC:∀(ps:List aQ) (s:Sp),kp (ps.foldl lE s)=kp s
  |[],_=>rfl
  |p::ps,s=>by rw[oE,KC ps];rfl
theorem DH:∀(cs:List Int) (s:Sp),kp (lF s cs)=kp s
  |[],_=>rfl
  |c::cs,s=>by
   have:=DH cs (oQ s c)
   unfold lF at *
   rw[oE,this]
   unfold oQ
   rw[KC]
   rfl
theorem KD:kp (fR s t)=(max s.ax (min t 1099511627775),s.count,s.aI):=by unfold fR xX;rw[DH];rfl
theorem KE:∀(l:List iz) (s:Sp),kp (l.foldl oa s)=kp s
  |[],_=>rfl
  |x::l,s=>by
   rw[oE,KE l]
   exact KB _ _
theorem KF:∀(l:List aC) (s:Sp),kp (l.foldl (mU c) s)=kp s
  |[],_=>rfl
  |x::l,s=>by rw[oE,KF l];rfl
theorem KG:∀(ops:List aC) {s sp:Sp} {i j e:Int},gU c s ops i=some (j,e,sp)→kp sp=kp s
  |[],_,_,_,_,_,h=>by cases h
  |o::ops,s,sp,i,j,e,h=>by
   rw[gU] at h
   split at h
   · exact KG (s:=cH s c o) ops h
   · cases h;rfl
theorem Tr:kp (mw s c o)=kp s:=by
  unfold mw
  split
  · rename_i h
    have:=KG _ h
    rw[←this];rfl
  · rw[KE]
    unfold kV
    rw[vv,KF]
theorem Ts:kp (mT s c o)=kp s:=by unfold mT;split<;>rfl
theorem Tt:kp (qb s c o)=kp s:=by unfold qb;split;rw[KB];rfl;rfl
theorem Tu:kp (nF s c o)=kp s:=by
  unfold nF
  repeat' split
  · exact DH _ _
  · exact Tt
  · exact Ts
  · exact Tr
  · rfl
theorem DI:kp (cV s c b)=kp s:=by
  unfold cV
  repeat' split
  · rfl
  · rfl
  · rfl
  · rw[Tu];rfl
theorem Tv {s u:Sp} (h:kp s=kp u):s.count=u.count:=congrArg (·.2.1) h
theorem sF:(fR s t).count=s.count:=congrArg (·.2.1) (KD (s:=s) (t:=t))
theorem AA:(fR s t).aI=s.aI:=congrArg (·.2.2) (KD (s:=s) (t:=t))
theorem KH:(qc s e b).count=s.count+1:=Tv (DI (s:=eO s) (c:=e.Client) (b:=b))
theorem Tw:(eZ s e b).count=if fG s e=true then s.count+1 else s.count:=by
  unfold eZ fG
  by_cases h1:ic e=true
  · by_cases h2:(iM (fR s e.bw) e.Client).stamp<e.bz
    · rw[aL ⟨h1,h2⟩,KH,sF,h1,eW h2];rfl
    · rw[aB (fun h=>h2 h.2),sF,fU h2];simp
  · rw[aB (fun h=>h1 h.1),sF]
    simp[h1]
end
theorem bC.mB {k:Int} {s:Sp} {b:aQ} {e:bu} (H:bC k s) (h0:0≤k) (hk:k≤99000) (hn:s.count≤1000000000000):bC (k+4) (eZ s e b):=by
  unfold eZ
  split
  · rename_i h
    exact(H.tZ e.bw).done h.1 h0 hk (by rw[sF];exact hn)
  · exact(H.tZ e.bw).mono (by omega)
end Go.Proofs.YtpacclkciilmpaaGreatDoor.Sw
