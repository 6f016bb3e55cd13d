/- Lemmas for laws of this seat. -/
import Derived.Test.YtceekbnihfckeaaGreatDoorQBM
namespace Go.Proofs.YtceekbnihfckeaaGreatDoor.Sw
open Tryz
open Go
set_option maxRecDepth 100000
set_option linter.unusedVariables false
set_option linter.unusedSimpArgs false
set_option linter.deprecated false
set_option linter.defProp false
def Ax:=@List.not_mem_nil
def Ay:=@or_false
theorem R8 (B:World) (h:ax) (g:GH) (hg:bl g h) (V:bq g) (D:Nat) (s:Sp) (X:ay) (c6:cu g D s X) (w:ak) (O:eg s) (hp:w.af.length≤1000000000) (hs:St h g (aV [X]) g [X] h):
  aE prog B 177 #[vP D,.agg #[vI w.Client,vI w.Kind,vS w.af]] h g [X] (fun c8 g' L'=>∃bm,c8=.int .i64 (jO s w)∧cu g' D (mN s w) bm∧L'=[bm]):=by
 refine aE.aq func177 fun R hR=>?_
 refine At.rg 2 ?_
 refine Op.bx 3 45 1 #[vI w.Client,vI w.Kind,vS w.af] hs fun Y gc c9=>?_
 refine Op.pg 1 [] ?_
 have bo:∀(m:Nat) (ad:GH) (bt:aM g ad) (x:Sp) (n:Int) (a5:ay) (a6:ax) (hm:0<m) (hx:x=s) (hn0:n=(cV s.events w.Client).length) (da:n≤1000) (b3:cu ad D x a5) (b4:St h g (aV [X]) ad [[(Y,Obj.cells #[vI w.Client,vI w.Kind,vS w.af] 45 (0,0))],a5] a6),At (bX prog B 177 f177 R) [] 2 [(0,vP D),(3,vP Y),(5,vI n)] a6:=by
  intro m;induction m with
  |zero=>intros;omega
  |succ m ge=>
   intro ad bt x n a5 a6 hm hx hn0 da b3 b4
   replace V:=V.mono bt
   refine At.rp 7 3 [(18,vQ D 1)] ?_
   obtain⟨db,b5,ae,dc,dd,b6,df,b8,dg,ca,dj,am,dk,ar,aw,a0⟩:=b3
   have dl:=(b4.aa 0 rfl).aa 1 rfl
   have cb:=St.un [b5,dc,b6,b8,ca] dj dl
   refine Op.l1 131 18 19 1 (vP ae) (cb.ah 0 rfl) ?_
   have a7:=((cb.aa 1 rfl).aa 1 rfl).aa 2 rfl
   refine Op.cl (some 20) 1 a7 (Ct _ _ _ a7.sub V ae x.aN _ dk (by((try dsimp only)<;>((subst hx;have:=O.wl;omega)))) (St.pt 1 a7)) ?_
   rintro _ dp _ gg dq du ⟨gk,dv,dC,rfl,a3,a1,dE,rfl⟩;subst dp;clear dq
   obtain⟨dT,ce,rfl⟩:=a3.aj
   refine Op.pg 3 [(21,vI (x.aN.length:Int)),(22,vI 0)] ?_
   have d0:∀(m:Nat) (ab:GH) (G:aM ad ab) (n2:Int) (i:Int) (a8:ax) (hm:x.aN.length-i.toNat<m) (h0:0≤i) (h3:i≤x.aN.length) (d1:0≤n2) (d2:n2≤1000+i) (hn:(n2-(cV s.events w.Client).length)+(cnt w.Client (x.aN.drop i.toNat):Int)=cnt w.Client x.aN) (hno:∀z∈x.aN.take i.toNat,z≠w) (I:St h g (aV [X]) ab [dC,dv,[(D,Obj.cells #[vP db,vP ae,vP dd,vI x.aA,vI x.count,.map (some df),.map (some dg)] 138 (0,0))],b5,b6,b8,ca,[(Y,Obj.cells #[vI w.Client,vI w.Kind,vS w.af] 45 (0,0))]] a8),At (bX prog B 177 f177 R) [] 3 [(0,vP D),(3,vP Y),(5,vI n2),(20,vL dT (x.aN.length) ce),(21,vI (x.aN.length:Int)),(22,vI i)] a8:=by
    intro m;induction m with
    |zero=>intros;omega
    |succ m cf=>
     intro ab G n2 i a8 hm h0 h3 d1 d2 hn hno I
     replace am:=am.mono G
     replace ar:=ar.mono G
     replace aw:=aw.mono G
     replace a0:=a0.mono G
     replace a3:=a3.mono G
     replace V:=V.mono G
     replace a1:=a1.mono G
     refine At.go 4 1 [(23,.bool (decide (i<(x.aN.length:Int))))] ?_
     refine At.fd (i<(x.aN.length:Int)) 23 5 14 (fun gn=>?_) fun gs=>?_
     ·refine At.rg 4 ?_
      obtain⟨u,J⟩:=cG x.aN i
      obtain⟨d3,ch,g1,g2,d4,d5,a9⟩:=jX.bF (a3.toH I 1 rfl) _ J
      cases d4
      refine Op.iq 41 45 3 32 (x.aN.length) ce 20 22 24 d3 ch i ?_
      replace a9:cut _ _ _=[vI u.Client,vI u.Kind,vS u.af]:=a9
      refine Op.la 45 24 25 (ch+i.toNat*3) 3 [vI u.Client,vI u.Kind,vS u.af] d5 ?_ (hv:=a9)
      refine Op.al 7 45 #[vI 0,vI 0,vS []] I fun d6 g3 d7=>?_
      refine Op.sg 45 7 25 0 0 #[vI u.Client,vI u.Kind,vS u.af] d7 (fun _=>trivial) fun g4 U=>?_
      refine Op.gt 6 ?_
      refine At.rg 3 ?_
      refine Op.la 45 7 26 0 3 [vI u.Client,vI u.Kind,vS u.af] (U.ah 0 rfl) ?_
      refine Op.la 45 3 27 0 3 [vI w.Client,vI w.Kind,vS w.af] (U.ah 8 rfl) ?_
      refine Op.A3 (T:=45) (T':=45) (x:=26) (y:=27) (neq:=false) (dst:=28) (xs:=#[vI u.Client,vI u.Kind,vS u.af]) (ys:=#[vI w.Client,vI w.Kind,vS w.af]) (q:=((u.Client==w.Client)&&((u.Kind==w.Kind)&&((bp u.af==bp w.af)&&true)))) (q':=decide (u=w)) (by kernel_rfl) (by kernel_rfl) (by kernel_rfl) (by kernel_rfl) (by kernel_rfl) (G4 u w) ?_
      refine Op.gt 7 ?_
      refine At.fd (u=w) 28 8 10 (fun g5=>?_) fun g6=>?_
      ·refine At.go 9 1 [(4,vI 0)] ?_
       have d8:=(((((((U.aa 2 rfl).aa 1 rfl).aa 7 rfl).aa 7 rfl).aa 7 rfl).aa 5 rfl).aa 7 rfl).aa 7 rfl
       obtain⟨d9,ed,ee⟩:=St.bJ (Q:=cu ab D x) 6 d8 ⟨_,_,_,_,_,_,_,_,_,_,rfl,am,a1,ar,aw,a0⟩
       refine At.rt (vI 0) ?_
       have ef:=(((ee.aa 0 rfl).aa 3 rfl).aa 3 rfl).aa 3 rfl
       exact hR ef.drop.drop.drop ⟨d9,(bB (by(subst hx;first|exact(Cq J ‹_›).1.symm|exact(Cq J ‹_›).2.symm))),ed.eq (by(subst hx;first|exact(Cq J ‹_›).1.symm|exact(Cq J ‹_›).2.symm)),rfl⟩
      refine At.rp 5 1 [(29,vP d6)] ?_
      refine Op.l1 3 29 30 0 (vI u.Client) (U.ah 0 rfl) ?_
      refine Op.px 1 [(31,vP Y)] ?_
      refine Op.l1 3 31 32 0 (vI w.Client) (U.ah 8 rfl) ?_
      refine Op.pg 11 [(33,.bool (u.Client==w.Client))] ?_
      refine At.fd (u.Client=w.Client) 33 12 13 (fun g7=>?_) fun g8=>?_
      ·refine At.rp 3 1 [(34,vI n2)] ?_
       refine Op.cE 35 (n2+1) (by omega) (by(subst hx;have:=O.wl;omega)) ?_
       refine Op.pg 13 [(5,vI (n2+1))] ?_
       refine At.rg 2 ?_
       refine Op.cE 36 (i+1) (by omega) (by(subst hx;have:=O.wl;omega)) ?_
       refine Op.pg 3 [(22,vI (i+1))] ?_
       have eh:=U.drop
       exact At.ke (cf _ G (n2+1) (i+1) _ (by omega) (by omega) (by omega) (by omega) (by omega) (by(have h7:=E3 hn h0 J ‹_›;omega)) (by exact Kq hno h0 J ‹_›) eh)
      refine At.rg 2 ?_
      refine Op.cE 36 (i+1) (by omega) (by(subst hx;have:=O.wl;omega)) ?_
      refine Op.pg 3 [(22,vI (i+1))] ?_
      have ej:=U.drop
      exact At.ke (cf _ G n2 (i+1) _ (by omega) (by omega) (by omega) (by omega) (by omega) (by exact E4 hn h0 J ‹_›) (by exact Kq hno h0 J ‹_›) ej)
     refine At.go 15 2 [(38,.bool (decide (n2≥8)))] ?_
     refine At.fd (n2≥8) 38 16 18 (fun g9=>?_) fun he=>?_
     ·refine At.go 17 1 [(4,vI 104)] ?_
      have em:=((((((I.aa 1 rfl).aa 6 rfl).aa 6 rfl).aa 6 rfl).aa 4 rfl).aa 6 rfl).aa 6 rfl
      obtain⟨en,ep,er⟩:=St.bJ (Q:=cu ab D x) 6 em ⟨_,_,_,_,_,_,_,_,_,_,rfl,am,a1,ar,aw,a0⟩
      refine At.rt (vI 104) ?_
      have et:=((er.aa 0 rfl).aa 2 rfl).aa 2 rfl
      exact hR et.drop.drop ⟨en,(bB (by(subst hx;first|exact(Cr (n:=n2) (u5 hno ‹_›) (by have:=ri hn ‹_›;omega) ‹_›).1.symm|exact(Cr (n:=n2) (u5 hno ‹_›) (by have:=ri hn ‹_›;omega) ‹_›).2.symm))),ep.eq (by(subst hx;first|exact(Cr (n:=n2) (u5 hno ‹_›) (by have:=ri hn ‹_›;omega) ‹_›).1.symm|exact(Cr (n:=n2) (u5 hno ‹_›) (by have:=ri hn ‹_›;omega) ‹_›).2.symm)),rfl⟩
     refine At.dw (fun _=>False) [(0,true),(1,true),(2,true),(3,true),(4,false),(1005,false),(5,false),(6,true)] ?_
     refine Op.px 3 [(41,vQ D 1)] ?_
     refine Op.lf 131 41 1 42 1 (vP ae) (fun h=>h) (I.ah 2 rfl) ?_
     refine Op.la 45 3 43 0 3 [vI w.Client,vI w.Kind,vS w.af] (I.ah 7 rfl) ?_
     refine Op.ba ?_
     refine Op.cl (some 44) 1 I (R5 _ _ _ I.sub V ae x.aN _ a1 w (by((try dsimp only)<;>((subst hx;have:=O.wl;omega)))) (by(try dsimp only)<;>omega) (by((try dsimp only)<;>((subst hx;exact O.ws)))) (St.pt 1 I)) ?_
     rintro _ ex _ hf eA eB ⟨hh,rfl,eE,dE,rfl⟩;subst ex;clear eA
     refine Op.pg 19 [(4,vI (nW x.aN w))] ?_
     have eI:=((((((eB.aa 1 rfl).aa 6 rfl).aa 6 rfl).aa 6 rfl).aa 4 rfl).aa 6 rfl).aa 6 rfl
     obtain⟨eJ,eK,eL⟩:=St.bJ (Q:=cu ab D (⟨x.au,(nX x.aN w),x.book,x.aA,x.count,x.events,x.aR⟩:Sp)) 6 eI ⟨_,_,_,_,_,_,_,_,_,_,rfl,am,eE,ar,aw,a0⟩
     refine At.rt (vI (nW x.aN w)) ?_
     have eQ:=((eL.aa 0 rfl).aa 2 rfl).aa 2 rfl
     exact hR eQ.drop.drop ⟨eJ,(bB (by(subst hx;first|exact(Cs (n:=n2) (u5 hno ‹_›) (by have:=ri hn ‹_›;omega) ‹_›).1.symm|exact(Cs (n:=n2) (u5 hno ‹_›) (by have:=ri hn ‹_›;omega) ‹_›).2.symm))),eK.eq (by(subst hx;first|exact(Cs (n:=n2) (u5 hno ‹_›) (by have:=ri hn ‹_›;omega) ‹_›).1.symm|exact(Cs (n:=n2) (u5 hno ‹_›) (by have:=ri hn ‹_›;omega) ‹_›).2.symm)),rfl⟩
   exact At.ke (d0 _ _ (aM.refl _) n 0 _ (bM _) (by omega) (by omega) (by omega) (by omega) (by(rw[hn0];simp)) (by exact RE _ _) du)
 obtain⟨hj,e1,hl,e2,ho,e3,bc,e4,hq,e5,e6,ci,ck,co,e7,c3⟩:=c6
 have e8:=(c9.aa 0 rfl).aa 1 rfl
 have bd:=St.un [e1,e2,e3,e4,e5] e6 e8
 refine At.dw (fun _=>False) [(0,true),(1,true),(2,true),(4,true),(3,true),(5,false),(6,false),(7,true),(8,true)] ?_
 refine Op.px 4 [(10,vQ D 5),(12,vP Y)] ?_
 refine Op.lf 135 10 5 11 1 (.map (some bc)) (fun h=>h) (bd.ah 0 rfl) ?_
 refine Op.l1 3 12 13 0 (vI w.Client) (bd.ah 6 rfl) ?_
 obtain⟨hr,hu,hw,e9,fa,a4,be⟩:=e7
 have fg:=((((bd.aa 3 rfl).aa 3 rfl).aa 3 rfl).aa 3 rfl).aa 4 rfl
 have bi:=St.un [e9] fa fg
 rcases be.iB w.Client with ⟨bj,fi,fj⟩|⟨hy,bk,hz,hA,bj,fi,fl,c4,fj⟩
 ·refine Op.mn (.slice none 0 0) 135 11 13 14 w.Client (bi.ah 0 rfl) a4 bj ?_
  refine Op.pg 2 [(5,vI 0)] ?_
  obtain⟨hB,fp,fr⟩:=St.bJ (Q:=lV g bc s.events) 2 bi ⟨_,_,_,_,rfl,a4,be⟩
  have ft:=((((fr.aa 0 rfl).aa 4 rfl).aa 4 rfl).aa 4 rfl).aa 4 rfl
  obtain⟨hC,fv,fw⟩:=St.bJ (Q:=cu g D s) 6 ft ⟨_,_,_,_,_,_,_,_,_,_,rfl,ci,ck,co,fp,c3⟩
  have fx:=(fw.aa 0 rfl).aa 1 rfl
  exact At.ke (bo _ _ (by repeat (first|assumption|exact aM.refl _|apply aM.trans)) s 0 _ _ (bM _) (by rfl) (by exact RF ‹_›) (by omega) fv fx)
 obtain⟨f0,n151,rfl⟩:=fl.aj
 have f1:=(bi.aa 0 rfl).aa 1 rfl
 have c5:=St.u0 c4 f1
 refine Op.mk (.slice none 0 0) 135 11 13 14 w.Client (vL f0 bk.length n151) (c5.ah 2 rfl) a4 bj ?_
 refine Op.pg 2 [(5,vI (bk.length:Int))] ?_
 have f2:=St.tw c4 c5
 have f3:=(f2.aa 0 rfl).aa 1 rfl
 obtain⟨hD,f4,f5⟩:=St.bJ (Q:=lV g bc s.events) 2 f3 ⟨_,_,_,_,rfl,a4,be⟩
 have f6:=((((f5.aa 0 rfl).aa 4 rfl).aa 4 rfl).aa 4 rfl).aa 4 rfl
 obtain⟨hE,f7,f8⟩:=St.bJ (Q:=cu g D s) 6 f6 ⟨_,_,_,_,_,_,_,_,_,_,rfl,ci,ck,co,f4,c3⟩
 have f9:=(f8.aa 0 rfl).aa 1 rfl
 exact At.ke (bo _ _ (by repeat (first|assumption|exact aM.refl _|apply aM.trans)) s (bk.length:Int) _ _ (bM _) (by rfl) (by exact Kr ‹_›) (by(have h9:=O.quo w.Client;have h7:=Kr ‹_›;omega)) f7 f9)
set_option maxHeartbeats 2000000 in
theorem R9 (B:World) (h:ax) (g:GH) (hg:bl g h) (U:bq g) (D:Nat) (s:Sp) (V:ay) (a1:cu g D s V) (client:Int) (o:aG) (dp:Value) (et:av g 5 br dp o.Data) (dq:Value) (ex:av g 25 ek dq o.az) (u:Nat) (x:Result) (X:ay) (Y:fW g u x X) (ca:eg s) (hp:o.af.length≤1000000000) (hs:St h g (aV [V,X]) g [V,X] h):
  aE prog B 126 #[vP D,vI client,.agg #[vI o.Kind,vS o.af,dp,vI o.ai,vI o.aF,.bool o.aY,.bool o.aI,.bool o.ak,dq],vP u] h g [V,X] (fun eA g' L'=>∃du dv,eA=.tuple #[]∧cu g' D (kC s client o) du∧fW g' u (mj s client o x) dv∧L'=[du,dv]):=by
 obtain⟨cb,ce,rfl⟩:=et.aj
 obtain⟨cf,ch,rfl⟩:=ex.aj
 refine aE.aq func126 fun R hR=>?_
 refine At.rg 1 ?_
 refine Op.bx 6 25 2 #[vI o.Kind,vS o.af,vL cb o.Data.length ce,vI o.ai,vI o.aF,.bool o.aY,.bool o.aI,.bool o.ak,vL cf o.az.length ch] hs fun J kd ci=>?_
 refine Op.gt 1 ?_
 refine At.go 2 1 [(8,vI 1)] ?_
 have dC:∀(m:Nat) (a3:GH) (a4:aM g a3) (I:Int) (ck:ax) (hm:0<m) (hk:I=oW o) (ae:St h g (aV [V,X]) a3 [[(J,Obj.cells #[vI o.Kind,vS o.af,vL cb o.Data.length ce,vI o.ai,vI o.aF,.bool o.aY,.bool o.aI,.bool o.ak,vL cf o.az.length ch] 25 (0,0))],V,X] ck),At (bX prog B 126 f126 R) [] 5 [(0,vP D),(1,vI client),(3,vP u),(6,vP J),(8,vI I)] ck:=by
  intro m;induction m with
  |zero=>intros;omega
  |succ m kh=>
   intro a3 a4 I ck hm hk ae
   replace U:=U.mono a4
   replace a1:=a1.mono a4
   replace Y:=Y.mono a4
   refine At.rp 2 1 [(14,vQ J 7)] ?_
   refine Op.l1 4 14 15 7 (.bool o.ak) (ae.ah 0 rfl) ?_
   refine Op.gt 6 ?_
   have dE:∀(m:Nat) (G:GH) (dT:aM a3 G) (y:Sp) (z:Result) (co:ay) (c3:ay) (c4:ax) (hm:0<m) (hy:y=kC s client o) (hz:mj s client o x=nY s o z) (c5:cu G D y co) (a5:fW G u z c3) (a6:St h g (aV [V,X]) G [[(J,Obj.cells #[vI o.Kind,vS o.af,vL cb o.Data.length ce,vI o.ai,vI o.aF,.bool o.aY,.bool o.aI,.bool o.ak,vL cf o.az.length ch] 25 (0,0))],co,c3] c4),At (bX prog B 126 f126 R) [] 11 [(0,vP D),(3,vP u),(6,vP J)] c4:=by
    intro m;induction m with
    |zero=>intros;omega
    |succ m kk=>
     intro G dT y z co c3 c4 hm hy hz c5 a5 a6
     replace U:=U.mono dT
     refine At.rp 3 1 [(31,vP J)] ?_
     refine Op.l1 3 31 32 0 (vI o.Kind) (a6.ah 0 rfl) ?_
     refine Op.pg 12 [(33,.bool (o.Kind==7))] ?_
     refine At.fd (o.Kind=7) 33 13 15 (fun kl=>?_) fun km=>?_
     ·obtain⟨d0,eB,kv,eE,kw,eI,kx,eJ,kA,eK,eL,d1,eQ,e1,e2,e3⟩:=c5
      have e4:=(a6.aa 0 rfl).aa 1 rfl
      have e5:=St.un [eB,eE,eI,eJ,eK] eL e4
      obtain⟨v53,k0,e6,k1,e7,e8,d2,e9,d3⟩:=a5
      obtain⟨d4,d5,rfl⟩:=d2.aj
      obtain⟨k2,k3,rfl⟩:=e9.aj
      obtain⟨d6,d7,rfl⟩:=d3.aj
      have fa:=(((((((e5.aa 6 rfl).aa 6 rfl).aa 6 rfl).aa 6 rfl).aa 6 rfl).aa 6 rfl).aa 6 rfl).aa 7 rfl
      have c6:=St.un [e6,e7] e8 fa
      refine At.dw (fun _=>False) [(0,true),(1,true),(2,true),(3,true),(4,true),(6,true),(5,true),(7,false),(8,false),(9,true),(10,true),(11,true),(12,true),(13,true),(1014,false),(14,false),(15,true),(16,true),(17,false)] ?_
      refine Op.px 6 [(35,vP u),(36,vP u),(39,vP D),(41,vQ J 1)] ?_
      refine Op.lf 129 39 0 40 1 (vP d0) (fun h=>h) (c6.ah 3 rfl) ?_
      refine Op.l1 9 41 42 1 (vS o.af) (c6.ah 9 rfl) ?_
      have a7:=((((c6.aa 3 rfl).aa 3 rfl).aa 3 rfl).aa 3 rfl).aa 4 rfl
      have fg:=a7.gz
      have fi:=fI.fY d1 a7 (by intro p hp;simp only[dP,hp,iF,iG])
      refine Op.le (some 43) 0 a7 (OG _ _ _ a7.iO (U.mono fg) d0 y.au fi o.af (by((try dsimp only)<;>((rw[hy,tC];exact ca.tree)))) (by(try dsimp only)<;>omega)) (fun _ _ _ hp=>by obtain⟨_,_,_,_,O,_⟩:=hp;exact O) ?_ (hM:=(fun _ _ h=>absurd h (dB _)))
      rintro _ _ k4 fj ⟨v75,k5,rfl,a8,O,rfl⟩;clear O
      obtain⟨a9,bc,rfl⟩:=a8.aj
      replace a8:=a8.bu (fun _ _ _ _ h=>h) (g':=G)
      refine Op.px 5 [(44,vL a9 (((jL y.au o.af).1).length) bc),(45,vI ((jL y.au o.af).2)),(47,vQ u 9)] ?_
      refine Op.ba ?_
      refine Op.s1 40 47 44 9 (vL a9 (((jL y.au o.af).1).length) bc) 2 #[vI z.Code,vI z.aZ,vI z.At,vS z.ag.af,vL d4 z.ag.Data.length d5,vI z.ag.ai,vI z.ag.aD,vI z.ag.Next,vI z.ag.aL,vL a9 (((jL y.au o.af).1).length) bc,vL d6 z.aT.length d7] fj (fun _=>trivial) fun k6 fl=>?_
      refine Op.px 2 [(49,vP u)] ?_
      refine Op.s1 29 49 45 0 (vI ((jL y.au o.af).2)) 2 #[vI ((jL y.au o.af).2),vI z.aZ,vI z.At,vS z.ag.af,vL d4 z.ag.Data.length d5,vI z.ag.ai,vI z.ag.aD,vI z.ag.Next,vI z.ag.aL,vL a9 (((jL y.au o.af).1).length) bc,vL d6 z.aT.length d7] fl (fun _=>trivial) fun k7 fp=>?_
      refine Op.gt 14 ?_
      have fr:=(((((((((fp.aa 4 rfl).aa 4 rfl).aa 4 rfl).aa 4 rfl).aa 9 rfl).aa 9 rfl).aa 9 rfl).aa 9 rfl).aa 8 rfl).aa 9 rfl
      obtain⟨ft,fv,fw⟩:=St.bJ (Q:=cu G D y) 6 fr ⟨_,_,_,_,_,_,_,_,_,_,rfl,d1,eQ,e1,e2,e3⟩
      have fx:=((((fw.aa 3 rfl).aa 1 rfl).aa 4 rfl).aa 3 rfl).aa 4 rfl
      obtain⟨f0,f1,f2⟩:=St.bJ (Q:=fW G u (⟨(jL y.au o.af).2,z.aZ,z.At,⟨z.ag.af,z.ag.Data,z.ag.ai,z.ag.aD,z.ag.Next,z.ag.aL⟩,(jL y.au o.af).1,z.aT⟩:Result)) 3 fx ⟨_,_,_,_,_,rfl,d2,a8,d3⟩
      refine At.rt (.tuple #[]) ?_
      have f3:=(((f2.aa 0 rfl).aa 1 rfl).aa 3 rfl).aa 3 rfl
      exact hR f3.drop.drop ⟨ft,f0,rfl,fv.eq (by exact hy),f1.eq (by(rw[hz,RN ‹_›,hy,tC];done)),rfl⟩
     obtain⟨bd,f4,k8,f5,lc,f6,lh,f7,li,f8,f9,ab,be,bi,bj,bk⟩:=c5
     have gc:=(a6.aa 0 rfl).aa 1 rfl
     have ad:=St.un [f4,f5,f6,f7,f8] f9 gc
     refine At.gQ (by kernel_rfl) (fun _=>False) [(0,true),(1,true),(2,true),(4,true),(3,true),(5,true)] [(6,false),(7,true),(8,true),(9,true),(10,false),(1011,false),(11,false),(12,true)] [(10,false),(6,false),(7,true),(8,true),(9,true),(1011,false),(11,false),(12,true)] (by kernel_rfl) ?_ ?_
     ·show Op _ _ _ _ _ [(0,true),(1,true),(2,true),(4,true),(3,true),(5,true),(6,false),(7,true),(8,true),(9,true),(10,false),(1011,false),(11,false),(12,true)] _ _
      refine Op.px 4 [(53,vP D),(55,vQ J 1)] ?_
      refine Op.lf 129 53 0 54 1 (vP bd) (fun h=>h) (ad.ah 0 rfl) ?_
      refine Op.lf 9 55 1 56 1 (vS o.af) (fun h=>h) (ad.ah 6 rfl) ?_
      have bm:=(ad.aa 0 rfl).aa 1 rfl
      have ge:=bm.gz
      have gg:=fI.fY ab bm (by intro p hp;simp only[dP,hp,iF,iG])
      refine Op.le (some 57) 0 bm (Ic _ _ _ bm.iO (U.mono ge) bd y.au gg o.af (by((try dsimp only)<;>((rw[hy,tC];exact ca.tree)))) (by(try dsimp only)<;>omega)) (fun _ _ _ hp=>by obtain⟨_,_,_,_,O,_⟩:=hp;exact O) ?_ (hM:=(fun _ _ h=>absurd h (dB _)))
      rintro _ _ lj gk ⟨lk,ll,rfl,bo,O,rfl⟩;clear O
      obtain⟨bt,b3,rfl⟩:=bo.aj
      replace bo:=bo.bu (fun _ _ _ _ h=>h) (g':=G)
      refine Op.px 3 [(58,.agg #[vS (((cg y.au o.af).1).af),vL bt ((((cg y.au o.af).1).Data).length) b3,vI (((cg y.au o.af).1).ai),vI (((cg y.au o.af).1).aD),vI (((cg y.au o.af).1).Next),vI (((cg y.au o.af).1).aL)]),(59,vI ((cg y.au o.af).2))] ?_
      refine Op.al 9 39 #[vS [],vN,vI 0,vI 0,vI 0,vI 0] gk fun lm ln gn=>?_
      refine Op.ba ?_
      refine Op.sg 39 9 58 0 0 #[vS (((cg y.au o.af).1).af),vL bt ((((cg y.au o.af).1).Data).length) b3,vI (((cg y.au o.af).1).ai),vI (((cg y.au o.af).1).aD),vI (((cg y.au o.af).1).Next),vI (((cg y.au o.af).1).aL)] gn (fun _=>trivial) fun lr gs=>?_
      refine Op.pg 16 [(10,vI ((cg y.au o.af).2))] ?_
      refine At.rp 5 4 [(61,vI ((cg y.au o.af).2)),(63,vP u)] ?_
      obtain⟨lv,v131,g1,lw,g2,g3,d8,am,ar⟩:=a5
      obtain⟨a139,g4,rfl⟩:=d8.aj
      obtain⟨d9,ed,rfl⟩:=am.aj
      obtain⟨ee,ef,rfl⟩:=ar.aj
      have g5:=(((((((((gs.aa 8 rfl).aa 8 rfl).aa 8 rfl).aa 8 rfl).aa 8 rfl).aa 8 rfl).aa 8 rfl).aa 8 rfl).aa 8 rfl).aa 9 rfl
      have g6:=St.un [g1,g2] g3 g5
      refine Op.s1 29 63 61 0 (vI ((cg y.au o.af).2)) 0 #[vI ((cg y.au o.af).2),vI z.aZ,vI z.At,vS z.ag.af,vL a139 z.ag.Data.length g4,vI z.ag.ai,vI z.ag.aD,vI z.ag.Next,vI z.ag.aL,vL d9 z.bP.length ed,vL ee z.aT.length ef] g6 (fun _=>trivial) fun lx c8=>?_
      refine Op.gt 17 ?_
      refine At.go 18 2 [(65,.bool (((cg y.au o.af).2)==0))] ?_
      refine At.fd (((cg y.au o.af).2)=0) 65 19 20 (fun ly=>?_) fun lA=>?_
      ·refine At.rp 5 1 [(66,vP u)] ?_
       refine Op.la 39 9 67 0 6 [vS (((cg y.au o.af).1).af),vL bt ((((cg y.au o.af).1).Data).length) b3,vI (((cg y.au o.af).1).ai),vI (((cg y.au o.af).1).aD),vI (((cg y.au o.af).1).Next),vI (((cg y.au o.af).1).aL)] (c8.ah 3 rfl) ?_
       refine Op.px 2 [(69,vQ u 3)] ?_
       refine Op.sg 39 69 67 3 0 #[vI ((cg y.au o.af).2),vI z.aZ,vI z.At,vS (((cg y.au o.af).1).af),vL bt ((((cg y.au o.af).1).Data).length) b3,vI (((cg y.au o.af).1).ai),vI (((cg y.au o.af).1).aD),vI (((cg y.au o.af).1).Next),vI (((cg y.au o.af).1).aL),vL d9 z.bP.length ed,vL ee z.aT.length ef] c8 (fun _=>trivial) fun lL g7=>?_
       refine Op.gt 20 ?_
       have g8:=((((((((((g7.aa 5 rfl).aa 4 rfl).aa 4 rfl).aa 4 rfl).aa 4 rfl).aa 10 rfl).aa 10 rfl).aa 10 rfl).aa 10 rfl).aa 9 rfl).aa 10 rfl
       obtain⟨g9,c9,he⟩:=St.bJ (Q:=cu G D y) 6 g8 ⟨_,_,_,_,_,_,_,_,_,_,rfl,ab,be,bi,bj,bk⟩
       obtain⟨hf,hh,da,hj⟩:=aJ.freeze bo (he.aa 5 rfl)
       replace am:=am.mono da
       replace ar:=ar.mono da
       replace c9:=c9.mono da
       have hl:=(((hh.aa 0 rfl).aa 3 rfl).aa 3 rfl).aa 3 rfl
       obtain⟨hn,ho,hq⟩:=St.bJ (Q:=fW hf u (⟨(cg y.au o.af).2,z.aZ,z.At,⟨((cg y.au o.af).1).af,((cg y.au o.af).1).Data,((cg y.au o.af).1).ai,((cg y.au o.af).1).aD,((cg y.au o.af).1).Next,((cg y.au o.af).1).aL⟩,z.bP,z.aT⟩:Result)) 3 hl ⟨_,_,_,_,_,rfl,hj,am,ar⟩
       refine At.rt (.tuple #[]) ?_
       have hr:=(((hq.aa 0 rfl).aa 1 rfl).aa 3 rfl).aa 3 rfl
       exact hR hr.drop.drop ⟨g9,hn,rfl,c9.eq (by exact hy),ho.eq (by(rw[hz];simp only[hy,tC] at *;rw[Kt ‹_› ‹_›])),rfl⟩
      have hu:=((((((((((c8.aa 5 rfl).aa 4 rfl).aa 4 rfl).aa 4 rfl).aa 4 rfl).aa 10 rfl).aa 10 rfl).aa 10 rfl).aa 10 rfl).aa 9 rfl).aa 10 rfl
      obtain⟨hw,hx,hA⟩:=St.bJ (Q:=cu G D y) 6 hu ⟨_,_,_,_,_,_,_,_,_,_,rfl,ab,be,bi,bj,bk⟩
      have hB:=(((hA.aa 0 rfl).aa 3 rfl).aa 3 rfl).aa 3 rfl
      obtain⟨hC,hD,hE⟩:=St.bJ (Q:=fW G u (⟨(cg y.au o.af).2,z.aZ,z.At,⟨z.ag.af,z.ag.Data,z.ag.ai,z.ag.aD,z.ag.Next,z.ag.aL⟩,z.bP,z.aT⟩:Result)) 3 hB ⟨_,_,_,_,_,rfl,d8,am,ar⟩
      refine At.rt (.tuple #[]) ?_
      have hF:=((((hE.aa 0 rfl).aa 1 rfl).aa 4 rfl).aa 4 rfl).aa 4 rfl
      exact hR hF.drop.drop.drop ⟨hw,hC,rfl,hx.eq (by exact hy),hD.eq (by(rw[hz];simp only[hy,tC] at *;rw[Ku ‹_› ‹_›])),rfl⟩
     show Op _ _ _ _ _ [(0,true),(1,true),(2,true),(4,true),(3,true),(5,true),(10,false),(6,false),(7,true),(8,true),(9,true),(1011,false),(11,false),(12,true)] _ _
     refine Op.px 4 [(53,vP D),(55,vQ J 1)] ?_
     refine Op.lf 129 53 0 54 1 (vP bd) (fun h=>h) (ad.ah 0 rfl) ?_
     refine Op.lf 9 55 1 56 1 (vS o.af) (fun h=>h) (ad.ah 6 rfl) ?_
     refine Op.al 9 39 #[vS [],vN,vI 0,vI 0,vI 0,vI 0] ad fun lO l0 hG=>?_
     have b4:=((hG.aa 1 rfl).aa 1 rfl).aa 2 rfl
     have hH:=b4.gz
     have hI:=fI.fY ab b4 (by intro p hp;simp only[dP,hp,iF,iG])
     refine Op.le (some 57) 0 b4 (Ic _ _ _ b4.iO (U.mono hH) bd y.au hI o.af (by((try dsimp only)<;>((rw[hy,tC];exact ca.tree)))) (by(try dsimp only)<;>omega)) (fun _ _ _ hp=>by obtain⟨_,_,_,_,O,_⟩:=hp;exact O) ?_ (hM:=(fun _ _ h=>absurd h (dB _)))
     rintro _ _ l2 hJ ⟨v183,l3,rfl,b5,O,rfl⟩;clear O
     obtain⟨b6,b8,rfl⟩:=b5.aj
     replace b5:=b5.bu (fun _ _ _ _ h=>h) (g':=G)
     refine Op.px 3 [(58,.agg #[vS (((cg y.au o.af).1).af),vL b6 ((((cg y.au o.af).1).Data).length) b8,vI (((cg y.au o.af).1).ai),vI (((cg y.au o.af).1).aD),vI (((cg y.au o.af).1).Next),vI (((cg y.au o.af).1).aL)]),(59,vI ((cg y.au o.af).2))] ?_
     refine Op.ba ?_
     refine Op.sg 39 9 58 0 2 #[vS (((cg y.au o.af).1).af),vL b6 ((((cg y.au o.af).1).Data).length) b8,vI (((cg y.au o.af).1).ai),vI (((cg y.au o.af).1).aD),vI (((cg y.au o.af).1).Next),vI (((cg y.au o.af).1).aL)] hJ (fun _=>trivial) fun l4 hK=>?_
     refine Op.pg 16 [(10,vI ((cg y.au o.af).2))] ?_
     refine At.rp 5 4 [(61,vI ((cg y.au o.af).2)),(63,vP u)] ?_
     obtain⟨l8,ma,hL,md,hN,hO,eh,aw,a0⟩:=a5
     obtain⟨hP,hQ,rfl⟩:=eh.aj
     obtain⟨ej,em,rfl⟩:=aw.aj
     obtain⟨en,n206,rfl⟩:=a0.aj
     have hS:=(((((((((hK.aa 8 rfl).aa 8 rfl).aa 8 rfl).aa 8 rfl).aa 8 rfl).aa 8 rfl).aa 8 rfl).aa 8 rfl).aa 8 rfl).aa 9 rfl
     have hT:=St.un [hL,hN] hO hS
     refine Op.s1 29 63 61 0 (vI ((cg y.au o.af).2)) 0 #[vI ((cg y.au o.af).2),vI z.aZ,vI z.At,vS z.ag.af,vL hP z.ag.Data.length hQ,vI z.ag.ai,vI z.ag.aD,vI z.ag.Next,vI z.ag.aL,vL ej z.bP.length em,vL en z.aT.length n206] hT (fun _=>trivial) fun mf db=>?_
     refine Op.gt 17 ?_
     refine At.go 18 2 [(65,.bool (((cg y.au o.af).2)==0))] ?_
     refine At.fd (((cg y.au o.af).2)=0) 65 19 20 (fun mi=>?_) fun ml=>?_
     ·refine At.rp 5 1 [(66,vP u)] ?_
      refine Op.la 39 9 67 0 6 [vS (((cg y.au o.af).1).af),vL b6 ((((cg y.au o.af).1).Data).length) b8,vI (((cg y.au o.af).1).ai),vI (((cg y.au o.af).1).aD),vI (((cg y.au o.af).1).Next),vI (((cg y.au o.af).1).aL)] (db.ah 5 rfl) ?_
      refine Op.px 2 [(69,vQ u 3)] ?_
      refine Op.sg 39 69 67 3 0 #[vI ((cg y.au o.af).2),vI z.aZ,vI z.At,vS (((cg y.au o.af).1).af),vL b6 ((((cg y.au o.af).1).Data).length) b8,vI (((cg y.au o.af).1).ai),vI (((cg y.au o.af).1).aD),vI (((cg y.au o.af).1).Next),vI (((cg y.au o.af).1).aL),vL ej z.bP.length em,vL en z.aT.length n206] db (fun _=>trivial) fun mp hV=>?_
      refine Op.gt 20 ?_
      have hW:=((((((((((hV.aa 5 rfl).aa 5 rfl).aa 4 rfl).aa 4 rfl).aa 4 rfl).aa 10 rfl).aa 10 rfl).aa 10 rfl).aa 10 rfl).aa 9 rfl).aa 10 rfl
      obtain⟨hX,dc,hY⟩:=St.bJ (Q:=cu G D y) 6 hW ⟨_,_,_,_,_,_,_,_,_,_,rfl,ab,be,bi,bj,bk⟩
      obtain⟨hZ,h1,dd,h2⟩:=aJ.freeze b5 (hY.aa 4 rfl)
      replace aw:=aw.mono dd
      replace a0:=a0.mono dd
      replace dc:=dc.mono dd
      have h3:=(((h1.aa 0 rfl).aa 3 rfl).aa 3 rfl).aa 3 rfl
      obtain⟨h4,h5,h6⟩:=St.bJ (Q:=fW hZ u (⟨(cg y.au o.af).2,z.aZ,z.At,⟨((cg y.au o.af).1).af,((cg y.au o.af).1).Data,((cg y.au o.af).1).ai,((cg y.au o.af).1).aD,((cg y.au o.af).1).Next,((cg y.au o.af).1).aL⟩,z.bP,z.aT⟩:Result)) 3 h3 ⟨_,_,_,_,_,rfl,h2,aw,a0⟩
      refine At.rt (.tuple #[]) ?_
      have h7:=(((h6.aa 0 rfl).aa 1 rfl).aa 3 rfl).aa 3 rfl
      exact hR h7.drop.drop ⟨hX,h4,rfl,dc.eq (by exact hy),h5.eq (by(rw[hz];simp only[hy,tC] at *;rw[Kt ‹_› ‹_›])),rfl⟩
     have h8:=((((((((((db.aa 5 rfl).aa 5 rfl).aa 4 rfl).aa 4 rfl).aa 4 rfl).aa 10 rfl).aa 10 rfl).aa 10 rfl).aa 10 rfl).aa 9 rfl).aa 10 rfl
     obtain⟨h9,ib,ih⟩:=St.bJ (Q:=cu G D y) 6 h8 ⟨_,_,_,_,_,_,_,_,_,_,rfl,ab,be,bi,bj,bk⟩
     have ii:=(((ih.aa 0 rfl).aa 3 rfl).aa 3 rfl).aa 3 rfl
     obtain⟨ik,il,io⟩:=St.bJ (Q:=fW G u (⟨(cg y.au o.af).2,z.aZ,z.At,⟨z.ag.af,z.ag.Data,z.ag.ai,z.ag.aD,z.ag.Next,z.ag.aL⟩,z.bP,z.aT⟩:Result)) 3 ii ⟨_,_,_,_,_,rfl,eh,aw,a0⟩
     refine At.rt (.tuple #[]) ?_
     have ip:=((((io.aa 0 rfl).aa 1 rfl).aa 4 rfl).aa 4 rfl).aa 4 rfl
     exact hR ip.drop.drop.drop ⟨h9,ik,rfl,ib.eq (by exact hy),il.eq (by(rw[hz];simp only[hy,tC] at *;rw[Ku ‹_› ‹_›])),rfl⟩
   refine At.di o.ak 15 7 11 (fun mx=>?_) fun my=>?_
   ·refine At.rp 11 5 [(16,vP u),(17,vP D),(18,vI client),(19,vI I),(20,vQ J 1)] ?_
    refine Op.l1 9 20 21 1 (vS o.af) (ae.ah 0 rfl) ?_
    refine Op.px 1 [(22,.agg #[vI client,vI I,vS o.af])] ?_
    have df:=(ae.aa 0 rfl).aa 1 rfl
    refine Op.cl (some 23) 1 df (R8 _ _ _ df.sub U D s _ a1 (⟨client,I,o.af⟩:ak) (by(try dsimp only)<;>omega) (by(try dsimp only)<;>omega) (St.pt 1 df)) ?_
    rintro _ ep _ m0 is iv ⟨i0,rfl,er,rfl⟩
    replace Y:=Y.mono is
    refine Op.px 2 [(25,vP u)] ?_
    obtain⟨m1,m2,i1,m3,i2,i3,dg,dj,dk⟩:=Y
    obtain⟨i4,i5,rfl⟩:=dg.aj
    obtain⟨i6,n258,rfl⟩:=dj.aj
    obtain⟨i7,n260,rfl⟩:=dk.aj
    have i8:=((iv.aa 1 rfl).aa 1 rfl).aa 2 rfl
    have i9:=St.un [i1,i2] i3 i8
    refine Op.s1 29 25 23 0 (vI (jO s (⟨client,I,o.af⟩:ak))) 0 #[vI (jO s (⟨client,I,o.af⟩:ak)),vI x.aZ,vI x.At,vS x.ag.af,vL i4 x.ag.Data.length i5,vI x.ag.ai,vI x.ag.aD,vI x.ag.Next,vI x.ag.aL,vL i6 x.bP.length n258,vL i7 x.aT.length n260] i9 (fun _=>trivial) fun m4 dl=>?_
    refine Op.gt 8 ?_
    refine At.rp 5 3 [(28,vP u)] ?_
    refine Op.l1 29 28 29 0 (vI (jO s (⟨client,I,o.af⟩:ak))) (dl.ah 0 rfl) ?_
    refine Op.pg 9 [(30,.bool ((jO s (⟨client,I,o.af⟩:ak)) != 0))] ?_
    refine At.fn ((jO s (⟨client,I,o.af⟩:ak))=0) 30 10 11 (fun m5=>?_) fun m6=>?_
    ·obtain⟨jf,jj,jn⟩:=St.bJ (Q:=fW ep u (⟨jO s (⟨client,I,o.af⟩:ak),x.aZ,x.At,⟨x.ag.af,x.ag.Data,x.ag.ai,x.ag.aD,x.ag.Next,x.ag.aL⟩,x.bP,x.aT⟩:Result)) 3 dl ⟨_,_,_,_,_,rfl,dg,dj,dk⟩
     refine At.rt (.tuple #[]) ?_
     have jt:=((jn.aa 0 rfl).aa 1 rfl).aa 2 rfl
     exact hR jt.drop ⟨i0,jf,rfl,er.eq (by(subst hk;exact Ks ‹_›)),jj.eq (by(subst hk;exact RM ‹_› ‹_›)),rfl⟩
    obtain⟨m7,j1,j2⟩:=St.bJ (Q:=fW ep u (⟨jO s (⟨client,I,o.af⟩:ak),x.aZ,x.At,⟨x.ag.af,x.ag.Data,x.ag.ai,x.ag.aD,x.ag.Next,x.ag.aL⟩,x.bP,x.aT⟩:Result)) 3 dl ⟨_,_,_,_,_,rfl,dg,dj,dk⟩
    have kc:=((j2.aa 0 rfl).aa 1 rfl).aa 2 rfl
    exact At.ke (dE _ _ (by repeat (first|assumption|exact aM.refl _|apply aM.trans)) (mN s (⟨client,I,o.af⟩:ak)) (⟨jO s (⟨client,I,o.af⟩:ak),x.aZ,x.At,⟨x.ag.af,x.ag.Data,x.ag.ai,x.ag.aD,x.ag.Next,x.ag.aL⟩,x.bP,x.aT⟩:Result) _ _ _ (bM _) (by(subst hk;exact Ks ‹_›)) (by(subst hk;exact RL ‹_› ‹_› _)) er j1 kc)
   exact At.ke (dE _ _ (by repeat (first|assumption|exact aM.refl _|apply aM.trans)) s x _ _ _ (bM _) (by exact RI ‹_›) (by exact RJ ‹_›) a1 Y ae)
 refine At.rp 3 1 [(11,vP J)] ?_
 refine Op.l1 3 11 12 0 (vI o.Kind) (ci.ah 0 rfl) ?_
 refine Op.pg 3 [(13,.bool (o.Kind==7))] ?_
 refine At.fd (o.Kind=7) 13 4 5 (fun m8=>?_) fun m9=>?_
 ·exact At.go 5 1 [(8,vI 2)] (At.ke (dC _ _ (by repeat (first|assumption|exact aM.refl _|apply aM.trans)) 2 _ (bM _) (by exact RG ‹_›) ci))
 exact At.ke (dC _ _ (by repeat (first|assumption|exact aM.refl _|apply aM.trans)) 1 _ (bM _) (by exact RH ‹_›) ci)
theorem R_ (B:World) (h:ax) (g:GH) (hg:bl g h) (I:bq g) (p:an) (u:Nat) (s:Sp) (G:ay) (J:cu g u s G) (V:Nat) (D:g V=some (.cells #[vP u] 55 (0,0))) (X:eg s) (hp:p.length≤1000000000) (hs:St h g (aV [G]) g [G] h):
  aE prog B 176 #[vS p,vP V] h g [G] (fun ad g' L'=>∃Y,ad=.tuple #[]∧cu g' u (lu s 1 [p]) Y∧L'=[Y]):=by
 refine aE.aq func176 fun R hR=>?_
 refine At.rg 4 ?_
 refine Op.l1 55 1 3 0 (vP u) (hs.sub _ _ D) ?_
 refine Op.px 1 [(4,vS p)] ?_
 refine Op.ls 5 1 9 #[vS p] hs fun ab a4 ae=>?_
 have am:aJ 9 eU g (vL (some ⟨ab,0,none⟩) 1 1) [p] [(ab,Obj.cells #[vS p] 9 (0,0))]:=aJ.lit (by kernel_rfl) (by unfold maxLen;decide) (by kernel_rfl) ⟨_,_,rfl,rfl,Reads.nil⟩
 obtain⟨a5,O,U,ar⟩:=aJ.freeze am (ae.aa 0 rfl)
 replace I:=I.mono U
 replace J:=J.mono U
 replace D:=U _ _ D
 refine Op.cl (some 6) 1 O (E_ _ _ _ O.sub I u s _ J 1 _ _ ar (by((try dsimp only)<;>((have:=X.wl;omega)))) (by((try dsimp only)<;>((simp;done)))) (by(try dsimp only)<;>exact X.quo) (St.pt 1 O)) ?_
 rintro _ a6 _ a7 aw a0 ⟨a1,rfl,a3,rfl⟩
 replace D:=aw _ _ D
 refine Op.gt 1 ?_
 exact At.rt (.tuple #[]) (hR a0 ⟨a1,rfl,a3.eq (by rfl),rfl⟩)
def tD (g:GH) (b:Nat) (ff:Nat) (f:Nat) (u cp:Array Value):Prop:=
  (ff=1∧f=120∧u=#[.pointer (some ⟨b,0,none⟩)]∧cp=#[])∨
  (ff=2∧f=176∧u=#[]∧∃b0,cp=#[.pointer (some ⟨b0,0,none⟩)]∧g b0=some (.cells #[.pointer (some ⟨b,0,none⟩)] 55 (0,0)))
theorem tD.mono {g g':GH} {b ff f:Nat} {u cp:Array Value} (h:tD g b ff f u cp) (hg:aM g g'):tD g' b ff f u cp:=by
  rcases h with h|⟨h1,h2,h3,b0,h4,h5⟩
  · exact .inl h
  · exact .inr ⟨h1,h2,h3,b0,h4,hg _ _ h5⟩
theorem tD.KH {g:GH} {b ff f:Nat} {u cp:Array Value} (h:tD g b ff f u cp):fc prog f:=by
  rcases h with ⟨_,rfl,_⟩|⟨_,rfl,_⟩
  · exact fc.of (by kernel_rfl)
  · exact fc.of (by kernel_rfl)
structure iW where
  eX:an
  ff:Nat
  bF:Nat
def yd:Kd iW where
  sz:=2
  K g x cs:=(x.ff=0∧cs=[.string (bp x.eX),.nilFunc])∨∃f u cp,tD g x.bF x.ff f u cp∧cs=[.string (bp x.eX),.func (.func f) u cp]
  len h:=by rcases h with ⟨_,rfl⟩|⟨_,_,_,_,rfl⟩<;>rfl
  one h:=by rcases h with ⟨_,rfl⟩|⟨_,_,_,_,rfl⟩<;>simp[Value.oneCell']
  mono hg h:=by
    rcases h with h|⟨f,u,cp,h,e⟩
    · exact .inl h
    · exact .inr ⟨f,u,cp,h.mono hg,e⟩
  zv:=⟨[],0,0⟩
  zc:=[.string (bp []),.nilFunc]
  zK _:=.inl ⟨rfl,rfl⟩
theorem Sa {g:GH} {x:iW} {cs:List Value} (hn:x.ff≠0) (h:yd.K g x cs):∃f u cp,tD g x.bF x.ff f u cp∧cs=[.string (bp x.eX),.func (.func f) u cp]:=by
  rcases h with ⟨h,_⟩|h
  · exact absurd h hn
  · exact h
theorem KI {e:Env} {x:Operand} {v:Value} {u cp:Array Value} (h:e.ev x=v):u++#[x].map e.ev++cp=u++(#[v]:Array Value)++cp:=by subst h;simp
def lz (s:Sp) (ff:Nat) (p:aQ):Sp:=if ff=1 then pE s p else lu s 1 [p]
theorem KJ (B:World) (h:ax) (g:GH) (hg:bl g h) (G:bq g) {ff f:Nat} {I cp:Array Value} (D:Nat) (s:Sp) (u:ay) (J:cu g D s u) (p:an) (hc:tD g D ff f I cp) (O:eg s) (hp:p.length≤1000000000) (hs:St h g (aV [u]) g [u] h):
    aE prog B f (I++(#[.string (bp p)]:Array Value)++cp) h g [u] (fun V g' L'=>∃U,V=.tuple #[]∧cu g' D (lz s ff p) U∧L'=[U]):=by
  rcases hc with ⟨rfl,rfl,rfl,rfl⟩|⟨rfl,rfl,rfl,b0,rfl,hb⟩
  · exact KF B h g hg G D s u J p O hp hs
  · exact R_ B h g hg G p D s u J b0 hb O hp hs
theorem eg.vw {s:Sp} (H:eg s) (ff:Nat) (p:aQ):eg (lz s ff p):=by
  unfold lz
  split
  · exact H.qv p
  · exact H.lq _ _
def eD:ag:=⟨[],[],0, -1,0,0⟩
def eP (s:Sp) (client:Int) (o:aG):List ag×aQ×Int:=cm s.au o.af o.Data (if o.aY=true then client else -1) s.count o.aI
def ew (s:Sp) (client:Int) (o:aG):List ag:=
  if o.Kind=3 then (eP s client o).1 else if o.Kind=4 then (f_ s.au o.af o.ai).1 else (fe s.au o.af o.Data o.ai).1
def cK (s:Sp) (client:Int) (o:aG):Int:=
  if o.Kind=3 then (eP s client o).2.2 else if o.Kind=4 then (f_ s.au o.af o.ai).2 else (fe s.au o.af o.Data o.ai).2.2
def bS (s:Sp) (client:Int) (o:aG):ag:=
  if o.Kind=3 then {eD with af:=(eP s client o).2.1} else if o.Kind=4 then eD
  else if (fe s.au o.af o.Data o.ai).2.2=0 then {eD with af:=o.af,ai:=(fe s.au o.af o.Data o.ai).2.1} else eD
def cY (s:Sp) (client:Int) (o:aG):aQ:=if o.Kind=3 then (eP s client o).2.1 else o.af
def j3 (o:aG):Nat:=if o.Kind=3 then 1 else if o.Kind=4 then 1 else 2
def cU (s:Sp) (client:Int) (o:aG):Sp:={s with au:=ew s client o}
theorem Cu {o:aG} (h:o.Kind=3):j3 o=1:=by rw[j3,aO h]
theorem KK {o:aG} (h:¬o.Kind=3) (h4:o.Kind=4):j3 o=1:=by rw[j3,aC h,aO h4]
theorem KL {o:aG} (h:¬o.Kind=3) (h4:¬o.Kind=4):j3 o=2:=by rw[j3,aC h,aC h4]
set_option maxHeartbeats 4000000 in
theorem KM (B:World) (h:ax) (g:GH) (hg:bl g h) (a6:bq g) (D:Nat) (s:Sp) (a8:ay) (a9:cu g D s a8) (client:Int) (o:aG) (c5:Value) (bc:av g 5 br c5 o.Data) (c6:Value) (en:av g 25 ek c6 o.az) (hP:lZ g) (a7:eg s) (hp:o.af.length≤100000000) (hd:o.Data.length≤1000000000) (hs:St h g (aV [a8]) g [a8] h):
  aE prog B 125 #[vP D,vI client,.agg #[vI o.Kind,vS o.af,c5,vI o.ai,vI o.aF,.bool o.aY,.bool o.aI,.bool o.ak,c6]] h g [a8] (fun ep g' L'=>∃v0 c8 c9 f0 da db dc,ep=.tuple #[.agg #[.string (bp ((bS s client o).af)),v0,.int .i64 ((bS s client o).ai),.int .i64 ((bS s client o).aD),.int .i64 ((bS s client o).Next),.int .i64 ((bS s client o).aL)],.agg #[.string (bp c9),.func (.func f0) da db],.int .i64 (cK s client o)]∧aJ 5 br g' v0 ((bS s client o).Data) c8∧c9=cY s client o∧tD g' D (j3 o) f0 da db∧cu g' D (cU s client o) dc∧L'=[dc,c8]):=by
 obtain⟨bd,be,rfl⟩:=bc.aj
 obtain⟨er,et,rfl⟩:=en.aj
 refine aE.aq func125 fun R hR=>?_
 refine At.rg 5 ?_
 refine Op.bx 3 55 0 #[vP D] hs fun J i0 ex=>?_
 refine Op.bx 5 25 2 #[vI o.Kind,vS o.af,vL bd o.Data.length be,vI o.ai,vI o.aF,.bool o.aY,.bool o.aI,.bool o.ak,vL er o.az.length et] ex fun I i1 eA=>?_
 refine Op.al 6 39 #[vS [],vN,vI 0,vI 0,vI 0,vI 0] eA fun G i2 eB=>?_
 refine Op.al 7 212 #[vS [],.nilFunc] eB fun O i3 eE=>?_
 refine Op.pg 1 [] ?_
 refine At.rp 2 1 [(11,vQ G 3)] ?_
 refine Op.s1 3 11 (.const (vI (-1))) 3 (vI (-1)) 1 #[vS [],vN,vI 0,vI (-1),vI 0,vI 0] eE (fun _=>trivial) fun i4 ar=>?_
 refine Op.gt 2 ?_
 refine At.rp 2 1 [(12,vP I)] ?_
 refine Op.l1 3 12 13 0 (vI o.Kind) (ar.ah 2 rfl) ?_
 refine Op.gt 3 ?_
 refine At.go 4 2 [(14,.bool (o.Kind==3))] ?_
 refine At.fd (o.Kind=3) 14 5 12 (fun i5=>?_) fun i6=>?_
 ·refine At.go 6 1 [(9,vI (-1))] ?_
  refine At.rp 2 1 [(16,vQ I 5)] ?_
  refine Op.l1 4 16 17 5 (.bool o.aY) (ar.ah 2 rfl) ?_
  refine Op.gt 7 ?_
  refine At.di o.aY 17 8 9 (fun i7=>?_) fun i8=>?_
  ·refine At.go 9 2 [(9,vI client)] ?_
   obtain⟨dd,eI,i9,eJ,jf,eK,jj,eL,jn,eQ,e1,e2,df,dg,dj,dk⟩:=a9
   have e3:=((((ar.aa 3 rfl).aa 3 rfl).aa 3 rfl).aa 3 rfl).aa 4 rfl
   have ab:=St.un [eI,eJ,eK,eL,eQ] e1 e3
   refine At.dw (fun _=>False) [(4,true),(6,true),(8,true),(13,true),(0,true),(1,true),(2,true),(3,true),(5,true),(7,true),(9,true),(10,true),(11,true),(12,true),(14,false),(1015,false),(15,false),(16,true),(17,true),(18,true),(19,true),(20,false),(21,true)] ?_
   refine Op.px 4 [(24,vQ I 1),(26,vQ I 2),(28,vI client),(33,vQ I 6)] ?_
   refine Op.lf 55 3 0 20 1 (vP D) (fun h=>h) (ab.ah 9 rfl) ?_
   refine Op.px 2 [(22,vP D)] ?_
   refine Op.lf 129 22 0 23 1 (vP dd) (fun h=>h) (ab.ah 0 rfl) ?_
   refine Op.lf 9 24 1 25 1 (vS o.af) (fun h=>h) (ab.ah 8 rfl) ?_
   refine Op.lf 22 26 2 27 1 (vL bd o.Data.length be) (fun h=>h) (ab.ah 8 rfl) ?_
   refine Op.lf 55 3 0 29 1 (vP D) (fun h=>h) (ab.ah 9 rfl) ?_
   refine Op.px 2 [(31,vQ D 4)] ?_
   refine Op.lf 3 31 4 32 1 (vI s.count) (fun h=>h) (ab.ah 0 rfl) ?_
   refine Op.l1 4 33 34 6 (.bool o.aI) (ab.ah 8 rfl) ?_
   refine Op.ba ?_
   have bk:=(ab.aa 0 rfl).aa 1 rfl
   refine Op.cl (some 35) 1 bk (JM _ _ _ bk.sub a6 dd s.au _ e2 o.af _ _ bc client s.count o.aI hP (by(try dsimp only)<;>exact a7.tree) (by(try dsimp only)<;>omega) (by(try dsimp only)<;>omega) (St.pt 1 bk)) ?_
   rintro _ e4 _ jt e5 e6 ⟨j1,rfl,dl,bi,rfl⟩;subst e4;clear e5
   refine Op.px 4 [(36,vS ((cm s.au o.af o.Data client s.count o.aI).2.1)),(37,vI ((cm s.au o.af o.Data client s.count o.aI).2.2)),(38,vP G)] ?_
   refine Op.s1 9 38 36 0 (vS ((cm s.au o.af o.Data client s.count o.aI).2.1)) 7 #[vS ((cm s.au o.af o.Data client s.count o.aI).2.1),vN,vI 0,vI (-1),vI 0,vI 0] e6 (fun _=>trivial) fun j2 U=>?_
   refine Op.pg 10 [(8,vI ((cm s.au o.af o.Data client s.count o.aI).2.2))] ?_
   refine At.gQ (by kernel_rfl) (aV [[(G,Obj.cells #[vS ((cm s.au o.af o.Data client s.count o.aI).2.1),vN,vI 0,vI (-1),vI 0,vI 0] 39 (0,0))],[(O,Obj.cells #[vS [],.nilFunc] 212 (0,0))]]) [(1,true),(6,true),(3,true),(4,true)] [(0,false),(2,false),(5,true),(7,false),(8,false),(9,true)] [(2,false),(5,true),(0,false),(7,false),(8,false),(9,true)] (by kernel_rfl) ?_ ?_
   ·show Op _ _ _ _ _ [(1,true),(6,true),(3,true),(4,true),(0,false),(2,false),(5,true),(7,false),(8,false),(9,true)] _ _
    refine Op.px 2 [(40,vP G),(45,vI ((cm s.au o.af o.Data client s.count o.aI).2.2))] ?_
    refine Op.lf 55 3 0 42 1 (vP D) (fun h=>(bz h).elim (U.apart 9 7 rfl rfl rfl) (fun h=>(bz h).elim (U.apart 9 6 rfl rfl rfl) (fun h=>absurd h (dB _)))) (U.ah 9 rfl) ?_
    refine Op.px 1 [(43,.func (.func 120) #[vP D] #[])] ?_
    refine Op.la 39 6 39 0 6 [vS ((cm s.au o.af o.Data client s.count o.aI).2.1),vN,vI 0,vI (-1),vI 0,vI 0] (U.ah 7 rfl) ?_
    refine Op.l1 9 40 41 0 (vS ((cm s.au o.af o.Data client s.count o.aI).2.1)) (U.ah 7 rfl) ?_
    refine Op.px 1 [(44,.agg #[vS ((cm s.au o.af o.Data client s.count o.aI).2.1),.func (.func 120) #[vP D] #[]])] ?_
    refine Op.sg 39 6 39 0 7 #[vS ((cm s.au o.af o.Data client s.count o.aI).2.1),vN,vI 0,vI (-1),vI 0,vI 0] U (fun _=>⟨(G,Obj.cells #[vS ((cm s.au o.af o.Data client s.count o.aI).2.1),vN,vI 0,vI (-1),vI 0,vI 0] 39 (0,0)),by simp,rfl⟩) fun kc e7=>?_
    refine Op.sg 212 7 44 0 6 #[vS ((cm s.au o.af o.Data client s.count o.aI).2.1),.func (.func 120) #[vP D] #[]] e7 (fun _=>⟨(O,Obj.cells #[vS [],.nilFunc] 212 (0,0)),by simp,rfl⟩) fun kd e8=>?_
    refine Op.pg 11 [(8,vI ((cm s.au o.af o.Data client s.count o.aI).2.2))] ?_
    have e9:=aJ.zero 5 br g none
    have fa:=e8.nl
    have fg:=((((((fa.aa 0 rfl).aa 6 rfl).aa 6 rfl).aa 6 rfl).aa 6 rfl).aa 5 rfl).aa 6 rfl
    obtain⟨fi,fj,bm⟩:=St.bJ (Q:=cu g D (⟨(cm s.au o.af o.Data client s.count o.aI).1,s.aN,s.book,s.aA,s.count,s.events,s.aR⟩:Sp)) 6 fg ⟨_,_,_,_,_,_,_,_,_,_,rfl,dl,df,dg,dj,dk⟩
    refine At.rm f125 [.agg #[vS ((cm s.au o.af o.Data client s.count o.aI).2.1),vN,vI 0,vI (-1),vI 0,vI 0],.agg #[vS ((cm s.au o.af o.Data client s.count o.aI).2.1),.func (.func 120) #[vP D] #[]],vI ((cm s.au o.af o.Data client s.count o.aI).2.2)] [.cell 6 39,.cell 7 212,.tmp 8] (.tuple #[.agg #[vS ((cm s.au o.af o.Data client s.count o.aI).2.1),vN,vI 0,vI (-1),vI 0,vI 0],.agg #[vS ((cm s.au o.af o.Data client s.count o.aI).2.1),.func (.func 120) #[vP D] #[]],vI ((cm s.au o.af o.Data client s.count o.aI).2.2)]) ⟨⟨_,_,rfl,dY (n:=6) (by kernel_rfl) (bm.ah 3 rfl) (by kernel_rfl) rfl⟩,⟨_,_,rfl,dY (n:=2) (by kernel_rfl) (bm.ah 2 rfl) (by kernel_rfl) rfl⟩,rfl,trivial⟩ ?_
    have fl:=(((((bm.aa 1 rfl).aa 1 rfl).aa 5 rfl).aa 5 rfl).aa 5 rfl).aa 5 rfl
    exact hR fl.drop.drop.drop.drop ⟨vN,[],((cm s.au o.af o.Data client s.count o.aI).2.1),120,#[vP D],#[],fi,lJ (by(simp[cK,bS,cY,cU,ew,eP,eD, *];done)) (by(simp[cK,bS,cY,cU,ew,eP,eD, *];done)) (bB (by(simp[cK,bS,cY,cU,ew,eP,eD, *];done))),eV e9 (by(simp[cK,bS,cY,cU,ew,eP,eD, *];done)),(by(simp[cK,bS,cY,cU,ew,eP,eD, *];done)),(by(rw[Cu ‹_›];exact(.inl ⟨rfl,rfl,rfl,rfl⟩))),fj.eq (by(simp[cK,bS,cY,cU,ew,eP,eD, *];done)),rfl⟩
   show Op _ _ _ _ _ [(1,true),(6,true),(3,true),(4,true),(2,false),(5,true),(0,false),(7,false),(8,false),(9,true)] _ _
   refine Op.px 2 [(40,vP G),(45,vI ((cm s.au o.af o.Data client s.count o.aI).2.2))] ?_
   refine Op.lf 55 3 0 42 1 (vP D) (fun h=>(bz h).elim (U.apart 9 7 rfl rfl rfl) (fun h=>(bz h).elim (U.apart 9 6 rfl rfl rfl) (fun h=>absurd h (dB _)))) (U.ah 9 rfl) ?_
   refine Op.px 1 [(43,.func (.func 120) #[vP D] #[])] ?_
   refine Op.l1 9 40 41 0 (vS ((cm s.au o.af o.Data client s.count o.aI).2.1)) (U.ah 7 rfl) ?_
   refine Op.px 1 [(44,.agg #[vS ((cm s.au o.af o.Data client s.count o.aI).2.1),.func (.func 120) #[vP D] #[]])] ?_
   refine Op.la 39 6 39 0 6 [vS ((cm s.au o.af o.Data client s.count o.aI).2.1),vN,vI 0,vI (-1),vI 0,vI 0] (U.ah 7 rfl) ?_
   refine Op.sg 39 6 39 0 7 #[vS ((cm s.au o.af o.Data client s.count o.aI).2.1),vN,vI 0,vI (-1),vI 0,vI 0] U (fun _=>⟨(G,Obj.cells #[vS ((cm s.au o.af o.Data client s.count o.aI).2.1),vN,vI 0,vI (-1),vI 0,vI 0] 39 (0,0)),by simp,rfl⟩) fun kh fp=>?_
   refine Op.sg 212 7 44 0 6 #[vS ((cm s.au o.af o.Data client s.count o.aI).2.1),.func (.func 120) #[vP D] #[]] fp (fun _=>⟨(O,Obj.cells #[vS [],.nilFunc] 212 (0,0)),by simp,rfl⟩) fun kk fr=>?_
   refine Op.pg 11 [(8,vI ((cm s.au o.af o.Data client s.count o.aI).2.2))] ?_
   have ft:=aJ.zero 5 br g none
   have fv:=fr.nl
   have fw:=((((((fv.aa 0 rfl).aa 6 rfl).aa 6 rfl).aa 6 rfl).aa 6 rfl).aa 5 rfl).aa 6 rfl
   obtain⟨fx,f1,bo⟩:=St.bJ (Q:=cu g D (⟨(cm s.au o.af o.Data client s.count o.aI).1,s.aN,s.book,s.aA,s.count,s.events,s.aR⟩:Sp)) 6 fw ⟨_,_,_,_,_,_,_,_,_,_,rfl,dl,df,dg,dj,dk⟩
   refine At.rm f125 [.agg #[vS ((cm s.au o.af o.Data client s.count o.aI).2.1),vN,vI 0,vI (-1),vI 0,vI 0],.agg #[vS ((cm s.au o.af o.Data client s.count o.aI).2.1),.func (.func 120) #[vP D] #[]],vI ((cm s.au o.af o.Data client s.count o.aI).2.2)] [.cell 6 39,.cell 7 212,.tmp 8] (.tuple #[.agg #[vS ((cm s.au o.af o.Data client s.count o.aI).2.1),vN,vI 0,vI (-1),vI 0,vI 0],.agg #[vS ((cm s.au o.af o.Data client s.count o.aI).2.1),.func (.func 120) #[vP D] #[]],vI ((cm s.au o.af o.Data client s.count o.aI).2.2)]) ⟨⟨_,_,rfl,dY (n:=6) (by kernel_rfl) (bo.ah 3 rfl) (by kernel_rfl) rfl⟩,⟨_,_,rfl,dY (n:=2) (by kernel_rfl) (bo.ah 2 rfl) (by kernel_rfl) rfl⟩,rfl,trivial⟩ ?_
   have f2:=(((((bo.aa 1 rfl).aa 1 rfl).aa 5 rfl).aa 5 rfl).aa 5 rfl).aa 5 rfl
   exact hR f2.drop.drop.drop.drop ⟨vN,[],((cm s.au o.af o.Data client s.count o.aI).2.1),120,#[vP D],#[],fx,lJ (by(simp[cK,bS,cY,cU,ew,eP,eD, *];done)) (by(simp[cK,bS,cY,cU,ew,eP,eD, *];done)) (bB (by(simp[cK,bS,cY,cU,ew,eP,eD, *];done))),eV ft (by(simp[cK,bS,cY,cU,ew,eP,eD, *];done)),(by(simp[cK,bS,cY,cU,ew,eP,eD, *];done)),(by(rw[Cu ‹_›];exact(.inl ⟨rfl,rfl,rfl,rfl⟩))),f1.eq (by(simp[cK,bS,cY,cU,ew,eP,eD, *];done)),rfl⟩
  obtain⟨dp,f3,kl,f4,km,f5,kv,f6,kw,f7,f8,f9,dq,du,dv,dC⟩:=a9
  have gc:=((((ar.aa 3 rfl).aa 3 rfl).aa 3 rfl).aa 3 rfl).aa 4 rfl
  have ad:=St.un [f3,f4,f5,f6,f7] f8 gc
  refine At.dw (fun _=>False) [(4,true),(6,true),(8,true),(13,true),(0,true),(1,true),(2,true),(3,true),(5,true),(7,true),(9,true),(10,true),(11,true),(12,true),(14,false),(1015,false),(15,false),(16,true),(17,true),(18,true),(19,true),(20,false),(21,true)] ?_
  refine Op.px 4 [(24,vQ I 1),(26,vQ I 2),(28,vI (-1)),(33,vQ I 6)] ?_
  refine Op.lf 55 3 0 20 1 (vP D) (fun h=>h) (ad.ah 9 rfl) ?_
  refine Op.px 2 [(22,vP D)] ?_
  refine Op.lf 129 22 0 23 1 (vP dp) (fun h=>h) (ad.ah 0 rfl) ?_
  refine Op.lf 9 24 1 25 1 (vS o.af) (fun h=>h) (ad.ah 8 rfl) ?_
  refine Op.lf 22 26 2 27 1 (vL bd o.Data.length be) (fun h=>h) (ad.ah 8 rfl) ?_
  refine Op.lf 55 3 0 29 1 (vP D) (fun h=>h) (ad.ah 9 rfl) ?_
  refine Op.px 2 [(31,vQ D 4)] ?_
  refine Op.lf 3 31 4 32 1 (vI s.count) (fun h=>h) (ad.ah 0 rfl) ?_
  refine Op.l1 4 33 34 6 (.bool o.aI) (ad.ah 8 rfl) ?_
  refine Op.ba ?_
  have bt:=(ad.aa 0 rfl).aa 1 rfl
  refine Op.cl (some 35) 1 bt (JM _ _ _ bt.sub a6 dp s.au _ f9 o.af _ _ bc (-1) s.count o.aI hP (by(try dsimp only)<;>exact a7.tree) (by(try dsimp only)<;>omega) (by(try dsimp only)<;>omega) (St.pt 1 bt)) ?_
  rintro _ ge _ kx gg gk ⟨kA,rfl,dE,bi,rfl⟩;subst ge;clear gg
  refine Op.px 4 [(36,vS ((cm s.au o.af o.Data (-1) s.count o.aI).2.1)),(37,vI ((cm s.au o.af o.Data (-1) s.count o.aI).2.2)),(38,vP G)] ?_
  refine Op.s1 9 38 36 0 (vS ((cm s.au o.af o.Data (-1) s.count o.aI).2.1)) 7 #[vS ((cm s.au o.af o.Data (-1) s.count o.aI).2.1),vN,vI 0,vI (-1),vI 0,vI 0] gk (fun _=>trivial) fun k0 V=>?_
  refine Op.pg 10 [(8,vI ((cm s.au o.af o.Data (-1) s.count o.aI).2.2))] ?_
  refine At.gQ (by kernel_rfl) (aV [[(G,Obj.cells #[vS ((cm s.au o.af o.Data (-1) s.count o.aI).2.1),vN,vI 0,vI (-1),vI 0,vI 0] 39 (0,0))],[(O,Obj.cells #[vS [],.nilFunc] 212 (0,0))]]) [(1,true),(6,true),(3,true),(4,true)] [(0,false),(2,false),(5,true),(7,false),(8,false),(9,true)] [(2,false),(5,true),(0,false),(7,false),(8,false),(9,true)] (by kernel_rfl) ?_ ?_
  ·show Op _ _ _ _ _ [(1,true),(6,true),(3,true),(4,true),(0,false),(2,false),(5,true),(7,false),(8,false),(9,true)] _ _
   refine Op.px 2 [(40,vP G),(45,vI ((cm s.au o.af o.Data (-1) s.count o.aI).2.2))] ?_
   refine Op.lf 55 3 0 42 1 (vP D) (fun h=>(bz h).elim (V.apart 9 7 rfl rfl rfl) (fun h=>(bz h).elim (V.apart 9 6 rfl rfl rfl) (fun h=>absurd h (dB _)))) (V.ah 9 rfl) ?_
   refine Op.px 1 [(43,.func (.func 120) #[vP D] #[])] ?_
   refine Op.la 39 6 39 0 6 [vS ((cm s.au o.af o.Data (-1) s.count o.aI).2.1),vN,vI 0,vI (-1),vI 0,vI 0] (V.ah 7 rfl) ?_
   refine Op.l1 9 40 41 0 (vS ((cm s.au o.af o.Data (-1) s.count o.aI).2.1)) (V.ah 7 rfl) ?_
   refine Op.px 1 [(44,.agg #[vS ((cm s.au o.af o.Data (-1) s.count o.aI).2.1),.func (.func 120) #[vP D] #[]])] ?_
   refine Op.sg 39 6 39 0 7 #[vS ((cm s.au o.af o.Data (-1) s.count o.aI).2.1),vN,vI 0,vI (-1),vI 0,vI 0] V (fun _=>⟨(G,Obj.cells #[vS ((cm s.au o.af o.Data (-1) s.count o.aI).2.1),vN,vI 0,vI (-1),vI 0,vI 0] 39 (0,0)),by simp,rfl⟩) fun k1 gn=>?_
   refine Op.sg 212 7 44 0 6 #[vS ((cm s.au o.af o.Data (-1) s.count o.aI).2.1),.func (.func 120) #[vP D] #[]] gn (fun _=>⟨(O,Obj.cells #[vS [],.nilFunc] 212 (0,0)),by simp,rfl⟩) fun k2 gs=>?_
   refine Op.pg 11 [(8,vI ((cm s.au o.af o.Data (-1) s.count o.aI).2.2))] ?_
   have g1:=aJ.zero 5 br g none
   have g2:=gs.nl
   have g3:=((((((g2.aa 0 rfl).aa 6 rfl).aa 6 rfl).aa 6 rfl).aa 6 rfl).aa 5 rfl).aa 6 rfl
   obtain⟨g4,g5,b3⟩:=St.bJ (Q:=cu g D (⟨(cm s.au o.af o.Data (-1) s.count o.aI).1,s.aN,s.book,s.aA,s.count,s.events,s.aR⟩:Sp)) 6 g3 ⟨_,_,_,_,_,_,_,_,_,_,rfl,dE,dq,du,dv,dC⟩
   refine At.rm f125 [.agg #[vS ((cm s.au o.af o.Data (-1) s.count o.aI).2.1),vN,vI 0,vI (-1),vI 0,vI 0],.agg #[vS ((cm s.au o.af o.Data (-1) s.count o.aI).2.1),.func (.func 120) #[vP D] #[]],vI ((cm s.au o.af o.Data (-1) s.count o.aI).2.2)] [.cell 6 39,.cell 7 212,.tmp 8] (.tuple #[.agg #[vS ((cm s.au o.af o.Data (-1) s.count o.aI).2.1),vN,vI 0,vI (-1),vI 0,vI 0],.agg #[vS ((cm s.au o.af o.Data (-1) s.count o.aI).2.1),.func (.func 120) #[vP D] #[]],vI ((cm s.au o.af o.Data (-1) s.count o.aI).2.2)]) ⟨⟨_,_,rfl,dY (n:=6) (by kernel_rfl) (b3.ah 3 rfl) (by kernel_rfl) rfl⟩,⟨_,_,rfl,dY (n:=2) (by kernel_rfl) (b3.ah 2 rfl) (by kernel_rfl) rfl⟩,rfl,trivial⟩ ?_
   have g6:=(((((b3.aa 1 rfl).aa 1 rfl).aa 5 rfl).aa 5 rfl).aa 5 rfl).aa 5 rfl
   exact hR g6.drop.drop.drop.drop ⟨vN,[],((cm s.au o.af o.Data (-1) s.count o.aI).2.1),120,#[vP D],#[],g4,lJ (by(simp[cK,bS,cY,cU,ew,eP,eD, *];done)) (by(simp[cK,bS,cY,cU,ew,eP,eD, *];done)) (bB (by(simp[cK,bS,cY,cU,ew,eP,eD, *];done))),eV g1 (by(simp[cK,bS,cY,cU,ew,eP,eD, *];done)),(by(simp[cK,bS,cY,cU,ew,eP,eD, *];done)),(by(rw[Cu ‹_›];exact(.inl ⟨rfl,rfl,rfl,rfl⟩))),g5.eq (by(simp[cK,bS,cY,cU,ew,eP,eD, *];done)),rfl⟩
  show Op _ _ _ _ _ [(1,true),(6,true),(3,true),(4,true),(2,false),(5,true),(0,false),(7,false),(8,false),(9,true)] _ _
  refine Op.px 2 [(40,vP G),(45,vI ((cm s.au o.af o.Data (-1) s.count o.aI).2.2))] ?_
  refine Op.lf 55 3 0 42 1 (vP D) (fun h=>(bz h).elim (V.apart 9 7 rfl rfl rfl) (fun h=>(bz h).elim (V.apart 9 6 rfl rfl rfl) (fun h=>absurd h (dB _)))) (V.ah 9 rfl) ?_
  refine Op.px 1 [(43,.func (.func 120) #[vP D] #[])] ?_
  refine Op.l1 9 40 41 0 (vS ((cm s.au o.af o.Data (-1) s.count o.aI).2.1)) (V.ah 7 rfl) ?_
  refine Op.px 1 [(44,.agg #[vS ((cm s.au o.af o.Data (-1) s.count o.aI).2.1),.func (.func 120) #[vP D] #[]])] ?_
  refine Op.la 39 6 39 0 6 [vS ((cm s.au o.af o.Data (-1) s.count o.aI).2.1),vN,vI 0,vI (-1),vI 0,vI 0] (V.ah 7 rfl) ?_
  refine Op.sg 39 6 39 0 7 #[vS ((cm s.au o.af o.Data (-1) s.count o.aI).2.1),vN,vI 0,vI (-1),vI 0,vI 0] V (fun _=>⟨(G,Obj.cells #[vS ((cm s.au o.af o.Data (-1) s.count o.aI).2.1),vN,vI 0,vI (-1),vI 0,vI 0] 39 (0,0)),by simp,rfl⟩) fun k3 g7=>?_
  refine Op.sg 212 7 44 0 6 #[vS ((cm s.au o.af o.Data (-1) s.count o.aI).2.1),.func (.func 120) #[vP D] #[]] g7 (fun _=>⟨(O,Obj.cells #[vS [],.nilFunc] 212 (0,0)),by simp,rfl⟩) fun k4 g8=>?_
  refine Op.pg 11 [(8,vI ((cm s.au o.af o.Data (-1) s.count o.aI).2.2))] ?_
  have g9:=aJ.zero 5 br g none
  have he:=g8.nl
  have hf:=((((((he.aa 0 rfl).aa 6 rfl).aa 6 rfl).aa 6 rfl).aa 6 rfl).aa 5 rfl).aa 6 rfl
  obtain⟨hh,hj,b4⟩:=St.bJ (Q:=cu g D (⟨(cm s.au o.af o.Data (-1) s.count o.aI).1,s.aN,s.book,s.aA,s.count,s.events,s.aR⟩:Sp)) 6 hf ⟨_,_,_,_,_,_,_,_,_,_,rfl,dE,dq,du,dv,dC⟩
  refine At.rm f125 [.agg #[vS ((cm s.au o.af o.Data (-1) s.count o.aI).2.1),vN,vI 0,vI (-1),vI 0,vI 0],.agg #[vS ((cm s.au o.af o.Data (-1) s.count o.aI).2.1),.func (.func 120) #[vP D] #[]],vI ((cm s.au o.af o.Data (-1) s.count o.aI).2.2)] [.cell 6 39,.cell 7 212,.tmp 8] (.tuple #[.agg #[vS ((cm s.au o.af o.Data (-1) s.count o.aI).2.1),vN,vI 0,vI (-1),vI 0,vI 0],.agg #[vS ((cm s.au o.af o.Data (-1) s.count o.aI).2.1),.func (.func 120) #[vP D] #[]],vI ((cm s.au o.af o.Data (-1) s.count o.aI).2.2)]) ⟨⟨_,_,rfl,dY (n:=6) (by kernel_rfl) (b4.ah 3 rfl) (by kernel_rfl) rfl⟩,⟨_,_,rfl,dY (n:=2) (by kernel_rfl) (b4.ah 2 rfl) (by kernel_rfl) rfl⟩,rfl,trivial⟩ ?_
  have hl:=(((((b4.aa 1 rfl).aa 1 rfl).aa 5 rfl).aa 5 rfl).aa 5 rfl).aa 5 rfl
  exact hR hl.drop.drop.drop.drop ⟨vN,[],((cm s.au o.af o.Data (-1) s.count o.aI).2.1),120,#[vP D],#[],hh,lJ (by(simp[cK,bS,cY,cU,ew,eP,eD, *];done)) (by(simp[cK,bS,cY,cU,ew,eP,eD, *];done)) (bB (by(simp[cK,bS,cY,cU,ew,eP,eD, *];done))),eV g9 (by(simp[cK,bS,cY,cU,ew,eP,eD, *];done)),(by(simp[cK,bS,cY,cU,ew,eP,eD, *];done)),(by(rw[Cu ‹_›];exact(.inl ⟨rfl,rfl,rfl,rfl⟩))),hj.eq (by(simp[cK,bS,cY,cU,ew,eP,eD, *];done)),rfl⟩
 refine At.go 13 2 [(46,.bool (o.Kind==4))] ?_
 refine At.fd (o.Kind=4) 46 14 16 (fun k5=>?_) fun k6=>?_
 ·obtain⟨bj,dT,k7,d0,k8,d1,lc,d2,lh,d3,hm,d4,d5,d6,d7,d8⟩:=a9
  have hn:=((((ar.aa 3 rfl).aa 3 rfl).aa 3 rfl).aa 3 rfl).aa 4 rfl
  have u:=St.un [dT,d0,d1,d2,d3] hm hn
  refine At.gQ (by kernel_rfl) (aV [dT,d0,d1,d2,d3,[(G,Obj.cells #[vS [],vN,vI 0,vI (-1),vI 0,vI 0] 39 (0,0))],[(O,Obj.cells #[vS [],.nilFunc] 212 (0,0))]]) [(1,true),(10,true),(12,true),(2,true),(3,true),(4,true),(5,true),(6,true),(7,true),(8,true),(9,true),(11,true),(13,true)] [(0,false),(14,false),(15,false),(16,false),(17,true)] [(14,false),(0,false),(15,false),(16,false),(17,true)] (by kernel_rfl) ?_ ?_
  ·show Op _ _ _ _ _ [(1,true),(10,true),(12,true),(2,true),(3,true),(4,true),(5,true),(6,true),(7,true),(8,true),(9,true),(11,true),(13,true),(0,false),(14,false),(15,false),(16,false),(17,true)] _ _
   refine Op.px 3 [(49,vQ I 1),(58,vQ I 1),(60,vQ I 3)] ?_
   refine Op.lf 9 49 1 50 1 (vS o.af) (fun h=>(bz h).elim (u.apart 8 1 rfl rfl rfl) (fun h=>(bz h).elim (u.apart 8 2 rfl rfl rfl) (fun h=>(bz h).elim (u.apart 8 3 rfl rfl rfl) (fun h=>(bz h).elim (u.apart 8 4 rfl rfl rfl) (fun h=>(bz h).elim (u.apart 8 5 rfl rfl rfl) (fun h=>(bz h).elim (u.apart 8 7 rfl rfl rfl) (fun h=>(bz h).elim (u.apart 8 6 rfl rfl rfl) (fun h=>absurd h (dB _))))))))) (u.ah 8 rfl) ?_
   refine Op.lf 55 3 0 51 1 (vP D) (fun h=>(bz h).elim (u.apart 9 1 rfl rfl rfl) (fun h=>(bz h).elim (u.apart 9 2 rfl rfl rfl) (fun h=>(bz h).elim (u.apart 9 3 rfl rfl rfl) (fun h=>(bz h).elim (u.apart 9 4 rfl rfl rfl) (fun h=>(bz h).elim (u.apart 9 5 rfl rfl rfl) (fun h=>(bz h).elim (u.apart 9 7 rfl rfl rfl) (fun h=>(bz h).elim (u.apart 9 6 rfl rfl rfl) (fun h=>absurd h (dB _))))))))) (u.ah 9 rfl) ?_
   refine Op.px 2 [(53,.agg #[vS o.af,.func (.func 120) #[vP D] #[]])] ?_
   refine Op.lf 55 3 0 54 1 (vP D) (fun h=>(bz h).elim (u.apart 9 1 rfl rfl rfl) (fun h=>(bz h).elim (u.apart 9 2 rfl rfl rfl) (fun h=>(bz h).elim (u.apart 9 3 rfl rfl rfl) (fun h=>(bz h).elim (u.apart 9 4 rfl rfl rfl) (fun h=>(bz h).elim (u.apart 9 5 rfl rfl rfl) (fun h=>(bz h).elim (u.apart 9 7 rfl rfl rfl) (fun h=>(bz h).elim (u.apart 9 6 rfl rfl rfl) (fun h=>absurd h (dB _))))))))) (u.ah 9 rfl) ?_
   refine Op.px 2 [(56,vP D)] ?_
   refine Op.lf 129 56 0 57 1 (vP bj) (fun h=>(bz h).elim (u.apart 0 1 rfl rfl rfl) (fun h=>(bz h).elim (u.apart 0 2 rfl rfl rfl) (fun h=>(bz h).elim (u.apart 0 3 rfl rfl rfl) (fun h=>(bz h).elim (u.apart 0 4 rfl rfl rfl) (fun h=>(bz h).elim (u.apart 0 5 rfl rfl rfl) (fun h=>(bz h).elim (u.apart 0 7 rfl rfl rfl) (fun h=>(bz h).elim (u.apart 0 6 rfl rfl rfl) (fun h=>absurd h (dB _))))))))) (u.ah 0 rfl) ?_
   refine Op.lf 9 58 1 59 1 (vS o.af) (fun h=>(bz h).elim (u.apart 8 1 rfl rfl rfl) (fun h=>(bz h).elim (u.apart 8 2 rfl rfl rfl) (fun h=>(bz h).elim (u.apart 8 3 rfl rfl rfl) (fun h=>(bz h).elim (u.apart 8 4 rfl rfl rfl) (fun h=>(bz h).elim (u.apart 8 5 rfl rfl rfl) (fun h=>(bz h).elim (u.apart 8 7 rfl rfl rfl) (fun h=>(bz h).elim (u.apart 8 6 rfl rfl rfl) (fun h=>absurd h (dB _))))))))) (u.ah 8 rfl) ?_
   refine Op.lf 3 60 3 61 1 (vI o.ai) (fun h=>(bz h).elim (u.apart 8 1 rfl rfl rfl) (fun h=>(bz h).elim (u.apart 8 2 rfl rfl rfl) (fun h=>(bz h).elim (u.apart 8 3 rfl rfl rfl) (fun h=>(bz h).elim (u.apart 8 4 rfl rfl rfl) (fun h=>(bz h).elim (u.apart 8 5 rfl rfl rfl) (fun h=>(bz h).elim (u.apart 8 7 rfl rfl rfl) (fun h=>(bz h).elim (u.apart 8 6 rfl rfl rfl) (fun h=>absurd h (dB _))))))))) (u.ah 8 rfl) ?_
   refine Op.la 39 6 48 0 6 [vS [],vN,vI 0,vI (-1),vI 0,vI 0] (u.ah 7 rfl) ?_
   have b5:=(u.aa 0 rfl).aa 1 rfl
   refine Op.cl (some 62) 1 b5 (EY _ _ _ b5.sub a6 bj s.au _ d4 o.af o.ai (by(try dsimp only)<;>exact a7.tree) (by(try dsimp only)<;>omega) (St.pt 1 b5)) ?_ (hM:=(fun _ _ h=>oL (by simp) h))
   rintro _ ho _ li hq hr ⟨lj,rfl,hu,bi,rfl⟩;subst ho;clear hq
   refine Op.sg 39 6 48 0 7 #[vS [],vN,vI 0,vI (-1),vI 0,vI 0] hr (fun _=>⟨(G,Obj.cells #[vS [],vN,vI 0,vI (-1),vI 0,vI 0] 39 (0,0)),by simp,rfl⟩) fun lk hw=>?_
   refine Op.sg 212 7 53 0 6 #[vS o.af,.func (.func 120) #[vP D] #[]] hw (fun _=>⟨(O,Obj.cells #[vS [],.nilFunc] 212 (0,0)),by simp,rfl⟩) fun ll hx=>?_
   refine Op.pg 11 [(8,vI ((f_ s.au o.af o.ai).2))] ?_
   have hy:=aJ.zero 5 br g none
   have hz:=hx.nl
   have hA:=((((((hz.aa 0 rfl).aa 6 rfl).aa 6 rfl).aa 6 rfl).aa 6 rfl).aa 5 rfl).aa 6 rfl
   obtain⟨hB,hC,b6⟩:=St.bJ (Q:=cu g D (⟨(f_ s.au o.af o.ai).1,s.aN,s.book,s.aA,s.count,s.events,s.aR⟩:Sp)) 6 hA ⟨_,_,_,_,_,_,_,_,_,_,rfl,hu,d5,d6,d7,d8⟩
   refine At.rm f125 [.agg #[vS [],vN,vI 0,vI (-1),vI 0,vI 0],.agg #[vS o.af,.func (.func 120) #[vP D] #[]],vI ((f_ s.au o.af o.ai).2)] [.cell 6 39,.cell 7 212,.tmp 8] (.tuple #[.agg #[vS [],vN,vI 0,vI (-1),vI 0,vI 0],.agg #[vS o.af,.func (.func 120) #[vP D] #[]],vI ((f_ s.au o.af o.ai).2)]) ⟨⟨_,_,rfl,dY (n:=6) (by kernel_rfl) (b6.ah 3 rfl) (by kernel_rfl) rfl⟩,⟨_,_,rfl,dY (n:=2) (by kernel_rfl) (b6.ah 2 rfl) (by kernel_rfl) rfl⟩,rfl,trivial⟩ ?_
   have hD:=(((((b6.aa 1 rfl).aa 1 rfl).aa 5 rfl).aa 5 rfl).aa 5 rfl).aa 5 rfl
   exact hR hD.drop.drop.drop.drop ⟨vN,[],o.af,120,#[vP D],#[],hB,lJ (by(simp[cK,bS,cY,cU,ew,eP,eD, *];done)) (by(simp[cK,bS,cY,cU,ew,eP,eD, *];done)) (bB (by(simp[cK,bS,cY,cU,ew,eP,eD, *];done))),eV hy (by(simp[cK,bS,cY,cU,ew,eP,eD, *];done)),(by(simp[cK,bS,cY,cU,ew,eP,eD, *];done)),(by(rw[KK ‹_› ‹_›];exact(.inl ⟨rfl,rfl,rfl,rfl⟩))),hC.eq (by(unfold cU ew;simp[*];done)),rfl⟩
  show Op _ _ _ _ _ [(1,true),(10,true),(12,true),(2,true),(3,true),(4,true),(5,true),(6,true),(7,true),(8,true),(9,true),(11,true),(13,true),(14,false),(0,false),(15,false),(16,false),(17,true)] _ _
  refine Op.px 3 [(49,vQ I 1),(58,vQ I 1),(60,vQ I 3)] ?_
  refine Op.lf 9 49 1 50 1 (vS o.af) (fun h=>(bz h).elim (u.apart 8 1 rfl rfl rfl) (fun h=>(bz h).elim (u.apart 8 2 rfl rfl rfl) (fun h=>(bz h).elim (u.apart 8 3 rfl rfl rfl) (fun h=>(bz h).elim (u.apart 8 4 rfl rfl rfl) (fun h=>(bz h).elim (u.apart 8 5 rfl rfl rfl) (fun h=>(bz h).elim (u.apart 8 7 rfl rfl rfl) (fun h=>(bz h).elim (u.apart 8 6 rfl rfl rfl) (fun h=>absurd h (dB _))))))))) (u.ah 8 rfl) ?_
  refine Op.lf 55 3 0 51 1 (vP D) (fun h=>(bz h).elim (u.apart 9 1 rfl rfl rfl) (fun h=>(bz h).elim (u.apart 9 2 rfl rfl rfl) (fun h=>(bz h).elim (u.apart 9 3 rfl rfl rfl) (fun h=>(bz h).elim (u.apart 9 4 rfl rfl rfl) (fun h=>(bz h).elim (u.apart 9 5 rfl rfl rfl) (fun h=>(bz h).elim (u.apart 9 7 rfl rfl rfl) (fun h=>(bz h).elim (u.apart 9 6 rfl rfl rfl) (fun h=>absurd h (dB _))))))))) (u.ah 9 rfl) ?_
  refine Op.px 2 [(53,.agg #[vS o.af,.func (.func 120) #[vP D] #[]])] ?_
  refine Op.lf 55 3 0 54 1 (vP D) (fun h=>(bz h).elim (u.apart 9 1 rfl rfl rfl) (fun h=>(bz h).elim (u.apart 9 2 rfl rfl rfl) (fun h=>(bz h).elim (u.apart 9 3 rfl rfl rfl) (fun h=>(bz h).elim (u.apart 9 4 rfl rfl rfl) (fun h=>(bz h).elim (u.apart 9 5 rfl rfl rfl) (fun h=>(bz h).elim (u.apart 9 7 rfl rfl rfl) (fun h=>(bz h).elim (u.apart 9 6 rfl rfl rfl) (fun h=>absurd h (dB _))))))))) (u.ah 9 rfl) ?_
  refine Op.px 2 [(56,vP D)] ?_
  refine Op.lf 129 56 0 57 1 (vP bj) (fun h=>(bz h).elim (u.apart 0 1 rfl rfl rfl) (fun h=>(bz h).elim (u.apart 0 2 rfl rfl rfl) (fun h=>(bz h).elim (u.apart 0 3 rfl rfl rfl) (fun h=>(bz h).elim (u.apart 0 4 rfl rfl rfl) (fun h=>(bz h).elim (u.apart 0 5 rfl rfl rfl) (fun h=>(bz h).elim (u.apart 0 7 rfl rfl rfl) (fun h=>(bz h).elim (u.apart 0 6 rfl rfl rfl) (fun h=>absurd h (dB _))))))))) (u.ah 0 rfl) ?_
  refine Op.lf 9 58 1 59 1 (vS o.af) (fun h=>(bz h).elim (u.apart 8 1 rfl rfl rfl) (fun h=>(bz h).elim (u.apart 8 2 rfl rfl rfl) (fun h=>(bz h).elim (u.apart 8 3 rfl rfl rfl) (fun h=>(bz h).elim (u.apart 8 4 rfl rfl rfl) (fun h=>(bz h).elim (u.apart 8 5 rfl rfl rfl) (fun h=>(bz h).elim (u.apart 8 7 rfl rfl rfl) (fun h=>(bz h).elim (u.apart 8 6 rfl rfl rfl) (fun h=>absurd h (dB _))))))))) (u.ah 8 rfl) ?_
  refine Op.lf 3 60 3 61 1 (vI o.ai) (fun h=>(bz h).elim (u.apart 8 1 rfl rfl rfl) (fun h=>(bz h).elim (u.apart 8 2 rfl rfl rfl) (fun h=>(bz h).elim (u.apart 8 3 rfl rfl rfl) (fun h=>(bz h).elim (u.apart 8 4 rfl rfl rfl) (fun h=>(bz h).elim (u.apart 8 5 rfl rfl rfl) (fun h=>(bz h).elim (u.apart 8 7 rfl rfl rfl) (fun h=>(bz h).elim (u.apart 8 6 rfl rfl rfl) (fun h=>absurd h (dB _))))))))) (u.ah 8 rfl) ?_
  have b8:=(u.aa 0 rfl).aa 1 rfl
  refine Op.cl (some 62) 1 b8 (EY _ _ _ b8.sub a6 bj s.au _ d4 o.af o.ai (by(try dsimp only)<;>exact a7.tree) (by(try dsimp only)<;>omega) (St.pt 1 b8)) ?_ (hM:=(fun _ _ h=>oL (by simp) h))
  rintro _ hE _ lm hF d9 ⟨ln,rfl,hG,bi,rfl⟩;subst hE;clear hF
  refine Op.la 39 6 48 0 6 [vS [],vN,vI 0,vI (-1),vI 0,vI 0] (d9.ah 7 rfl) ?_
  refine Op.sg 39 6 48 0 7 #[vS [],vN,vI 0,vI (-1),vI 0,vI 0] d9 (fun _=>⟨(G,Obj.cells #[vS [],vN,vI 0,vI (-1),vI 0,vI 0] 39 (0,0)),by simp,rfl⟩) fun lr hH=>?_
  refine Op.sg 212 7 53 0 6 #[vS o.af,.func (.func 120) #[vP D] #[]] hH (fun _=>⟨(O,Obj.cells #[vS [],.nilFunc] 212 (0,0)),by simp,rfl⟩) fun lv hI=>?_
  refine Op.pg 11 [(8,vI ((f_ s.au o.af o.ai).2))] ?_
  have hJ:=aJ.zero 5 br g none
  have hK:=hI.nl
  have hL:=((((((hK.aa 0 rfl).aa 6 rfl).aa 6 rfl).aa 6 rfl).aa 6 rfl).aa 5 rfl).aa 6 rfl
  obtain⟨hN,hO,ca⟩:=St.bJ (Q:=cu g D (⟨(f_ s.au o.af o.ai).1,s.aN,s.book,s.aA,s.count,s.events,s.aR⟩:Sp)) 6 hL ⟨_,_,_,_,_,_,_,_,_,_,rfl,hG,d5,d6,d7,d8⟩
  refine At.rm f125 [.agg #[vS [],vN,vI 0,vI (-1),vI 0,vI 0],.agg #[vS o.af,.func (.func 120) #[vP D] #[]],vI ((f_ s.au o.af o.ai).2)] [.cell 6 39,.cell 7 212,.tmp 8] (.tuple #[.agg #[vS [],vN,vI 0,vI (-1),vI 0,vI 0],.agg #[vS o.af,.func (.func 120) #[vP D] #[]],vI ((f_ s.au o.af o.ai).2)]) ⟨⟨_,_,rfl,dY (n:=6) (by kernel_rfl) (ca.ah 3 rfl) (by kernel_rfl) rfl⟩,⟨_,_,rfl,dY (n:=2) (by kernel_rfl) (ca.ah 2 rfl) (by kernel_rfl) rfl⟩,rfl,trivial⟩ ?_
  have hQ:=(((((ca.aa 1 rfl).aa 1 rfl).aa 5 rfl).aa 5 rfl).aa 5 rfl).aa 5 rfl
  exact hR hQ.drop.drop.drop.drop ⟨vN,[],o.af,120,#[vP D],#[],hN,lJ (by(simp[cK,bS,cY,cU,ew,eP,eD, *];done)) (by(simp[cK,bS,cY,cU,ew,eP,eD, *];done)) (bB (by(simp[cK,bS,cY,cU,ew,eP,eD, *];done))),eV hJ (by(simp[cK,bS,cY,cU,ew,eP,eD, *];done)),(by(simp[cK,bS,cY,cU,ew,eP,eD, *];done)),(by(rw[KK ‹_› ‹_›];exact(.inl ⟨rfl,rfl,rfl,rfl⟩))),hO.eq (by(unfold cU ew;simp[*];done)),rfl⟩
 obtain⟨ed,hS,lw,cb,lx,ce,ly,cf,lA,ch,hT,hV,aw,a0,a1,a3⟩:=a9
 have hW:=((((ar.aa 3 rfl).aa 3 rfl).aa 3 rfl).aa 3 rfl).aa 4 rfl
 have a4:=St.un [hS,cb,ce,cf,ch] hT hW
 refine At.dw (fun _=>False) [(4,true),(6,true),(8,true),(0,true),(1,true),(2,true),(3,true),(5,true),(7,true),(9,false),(1010,false),(10,false),(11,true),(12,true),(13,true),(14,true),(15,true)] ?_
 refine Op.px 3 [(68,vQ I 1),(70,vQ I 2),(72,vQ I 3)] ?_
 refine Op.lf 55 3 0 64 1 (vP D) (fun h=>h) (a4.ah 9 rfl) ?_
 refine Op.px 2 [(66,vP D)] ?_
 refine Op.lf 129 66 0 67 1 (vP ed) (fun h=>h) (a4.ah 0 rfl) ?_
 refine Op.lf 9 68 1 69 1 (vS o.af) (fun h=>h) (a4.ah 8 rfl) ?_
 refine Op.lf 22 70 2 71 1 (vL bd o.Data.length be) (fun h=>h) (a4.ah 8 rfl) ?_
 refine Op.l1 3 72 73 3 (vI o.ai) (a4.ah 8 rfl) ?_
 refine Op.ba ?_
 have ci:=(a4.aa 0 rfl).aa 1 rfl
 refine Op.cl (some 74) 1 ci (Qo _ _ _ ci.sub a6 ed s.au _ hV o.af _ _ bc o.ai (by(try dsimp only)<;>exact a7.tree) (by(try dsimp only)<;>omega) (by(try dsimp only)<;>omega) (St.pt 1 ci)) ?_
 rintro _ hX _ lL hY X ⟨ee,rfl,a5,bi,rfl⟩;subst hX;clear hY
 refine Op.pg 17 [(8,vI ((fe s.au o.af o.Data o.ai).2.2)),(10,vI ((fe s.au o.af o.Data o.ai).2.1))] ?_
 refine At.go 18 2 [(78,.bool (((fe s.au o.af o.Data o.ai).2.2)==0))] ?_
 refine At.fd (((fe s.au o.af o.Data o.ai).2.2)=0) 78 19 20 (fun lO=>?_) fun l0=>?_
 ·refine At.rp 7 1 [(79,vQ I 1)] ?_
  refine Op.l1 9 79 80 1 (vS o.af) (X.ah 8 rfl) ?_
  refine Op.px 2 [(81,vI ((fe s.au o.af o.Data o.ai).2.1)),(82,vP G)] ?_
  refine Op.s1 9 82 80 0 (vS o.af) 7 #[vS o.af,vN,vI 0,vI (-1),vI 0,vI 0] X (fun _=>trivial) fun l2 hZ=>?_
  refine Op.px 1 [(83,vQ G 2)] ?_
  refine Op.s1 3 83 81 2 (vI ((fe s.au o.af o.Data o.ai).2.1)) 7 #[vS o.af,vN,vI ((fe s.au o.af o.Data o.ai).2.1),vI (-1),vI 0,vI 0] hZ (fun _=>trivial) fun l3 Y=>?_
  refine Op.gt 20 ?_
  refine At.dw (aV [ee,cb,ce,cf,ch,[(G,Obj.cells #[vS o.af,vN,vI ((fe s.au o.af o.Data o.ai).2.1),vI (-1),vI 0,vI 0] 39 (0,0))],[(O,Obj.cells #[vS [],.nilFunc] 212 (0,0))]]) [(1,true),(3,true),(5,true),(2,true),(4,true),(0,false),(6,false),(7,false),(8,true)] ?_
  refine Op.px 3 [(85,vQ I 1),(87,.func (.func 176) #[] #[vP J]),(89,vI ((fe s.au o.af o.Data o.ai).2.2))] ?_
  refine Op.lf 9 85 1 86 1 (vS o.af) (fun h=>(bz h).elim (Y.apart 8 0 rfl rfl rfl) (fun h=>(bz h).elim (Y.apart 8 2 rfl rfl rfl) (fun h=>(bz h).elim (Y.apart 8 3 rfl rfl rfl) (fun h=>(bz h).elim (Y.apart 8 4 rfl rfl rfl) (fun h=>(bz h).elim (Y.apart 8 5 rfl rfl rfl) (fun h=>(bz h).elim (Y.apart 8 7 rfl rfl rfl) (fun h=>(bz h).elim (Y.apart 8 6 rfl rfl rfl) (fun h=>absurd h (dB _))))))))) (Y.ah 8 rfl) ?_
  refine Op.px 1 [(88,.agg #[vS o.af,.func (.func 176) #[] #[vP J]])] ?_
  refine Op.la 39 6 84 0 6 [vS o.af,vN,vI ((fe s.au o.af o.Data o.ai).2.1),vI (-1),vI 0,vI 0] (Y.ah 7 rfl) ?_
  refine Op.sg 39 6 84 0 7 #[vS o.af,vN,vI ((fe s.au o.af o.Data o.ai).2.1),vI (-1),vI 0,vI 0] Y (fun _=>⟨(G,Obj.cells #[vS o.af,vN,vI ((fe s.au o.af o.Data o.ai).2.1),vI (-1),vI 0,vI 0] 39 (0,0)),by simp,rfl⟩) fun l4 h1=>?_
  refine Op.sg 212 7 88 0 6 #[vS o.af,.func (.func 176) #[] #[vP J]] h1 (fun _=>⟨(O,Obj.cells #[vS [],.nilFunc] 212 (0,0)),by simp,rfl⟩) fun l8 h2=>?_
  refine Op.pg 21 [(8,vI ((fe s.au o.af o.Data o.ai).2.2))] ?_
  have ck:=aJ.zero 5 br g none
  have h3:=h2.nl
  obtain⟨ef,ae⟩:=St.freeze (h3.aa 10 rfl)
  have eh:=iN (g:=g) J (.cells #[vP D] 55 (0,0))
  generalize h4:dy g _=h5 at ef ae eh;clear h4
  replace aw:=aw.mono ae
  replace a0:=a0.mono ae
  replace a1:=a1.mono ae
  replace a3:=a3.mono ae
  replace ck:=ck.mono ae
  replace a5:=a5.mono ae
  have h6:=((((((ef.aa 0 rfl).aa 6 rfl).aa 6 rfl).aa 6 rfl).aa 6 rfl).aa 5 rfl).aa 6 rfl
  obtain⟨h7,h8,co⟩:=St.bJ (Q:=cu h5 D (⟨(fe s.au o.af o.Data o.ai).1,s.aN,s.book,s.aA,s.count,s.events,s.aR⟩:Sp)) 6 h6 ⟨_,_,_,_,_,_,_,_,_,_,rfl,a5,aw,a0,a1,a3⟩
  refine At.rm f125 [.agg #[vS o.af,vN,vI ((fe s.au o.af o.Data o.ai).2.1),vI (-1),vI 0,vI 0],.agg #[vS o.af,.func (.func 176) #[] #[vP J]],vI ((fe s.au o.af o.Data o.ai).2.2)] [.cell 6 39,.cell 7 212,.tmp 8] (.tuple #[.agg #[vS o.af,vN,vI ((fe s.au o.af o.Data o.ai).2.1),vI (-1),vI 0,vI 0],.agg #[vS o.af,.func (.func 176) #[] #[vP J]],vI ((fe s.au o.af o.Data o.ai).2.2)]) ⟨⟨_,_,rfl,dY (n:=6) (by kernel_rfl) (co.ah 3 rfl) (by kernel_rfl) rfl⟩,⟨_,_,rfl,dY (n:=2) (by kernel_rfl) (co.ah 2 rfl) (by kernel_rfl) rfl⟩,rfl,trivial⟩ ?_
  have h9:=((((co.aa 1 rfl).aa 1 rfl).aa 4 rfl).aa 4 rfl).aa 4 rfl
  exact hR h9.drop.drop.drop ⟨vN,[],o.af,176,#[],#[vP J],h7,lJ (by(simp[cK,bS,cY,cU,ew,eP,eD, *];done)) (by(simp[cK,bS,cY,cU,ew,eP,eD, *];done)) (bB (by(simp[cK,bS,cY,cU,ew,eP,eD, *];done))),eV ck (by(simp[cK,bS,cY,cU,ew,eP,eD, *];done)),(by(simp[cK,bS,cY,cU,ew,eP,eD, *];done)),(by(rw[KL ‹_› ‹_›];exact(.inr ⟨rfl,rfl,rfl,J,rfl,eh⟩))),h8.eq (by(unfold cU ew;simp[*];done)),rfl⟩
 refine At.dw (aV [ee,cb,ce,cf,ch,[(G,Obj.cells #[vS [],vN,vI 0,vI (-1),vI 0,vI 0] 39 (0,0))],[(O,Obj.cells #[vS [],.nilFunc] 212 (0,0))]]) [(1,true),(3,true),(5,true),(2,true),(4,true),(0,false),(6,false),(7,false),(8,true)] ?_
 refine Op.px 3 [(85,vQ I 1),(87,.func (.func 176) #[] #[vP J]),(89,vI ((fe s.au o.af o.Data o.ai).2.2))] ?_
 refine Op.lf 9 85 1 86 1 (vS o.af) (fun h=>(bz h).elim (X.apart 8 0 rfl rfl rfl) (fun h=>(bz h).elim (X.apart 8 2 rfl rfl rfl) (fun h=>(bz h).elim (X.apart 8 3 rfl rfl rfl) (fun h=>(bz h).elim (X.apart 8 4 rfl rfl rfl) (fun h=>(bz h).elim (X.apart 8 5 rfl rfl rfl) (fun h=>(bz h).elim (X.apart 8 7 rfl rfl rfl) (fun h=>(bz h).elim (X.apart 8 6 rfl rfl rfl) (fun h=>absurd h (dB _))))))))) (X.ah 8 rfl) ?_
 refine Op.px 1 [(88,.agg #[vS o.af,.func (.func 176) #[] #[vP J]])] ?_
 refine Op.la 39 6 84 0 6 [vS [],vN,vI 0,vI (-1),vI 0,vI 0] (X.ah 7 rfl) ?_
 refine Op.sg 39 6 84 0 7 #[vS [],vN,vI 0,vI (-1),vI 0,vI 0] X (fun _=>⟨(G,Obj.cells #[vS [],vN,vI 0,vI (-1),vI 0,vI 0] 39 (0,0)),by simp,rfl⟩) fun ma ib=>?_
 refine Op.sg 212 7 88 0 6 #[vS o.af,.func (.func 176) #[] #[vP J]] ib (fun _=>⟨(O,Obj.cells #[vS [],.nilFunc] 212 (0,0)),by simp,rfl⟩) fun md ih=>?_
 refine Op.pg 21 [(8,vI ((fe s.au o.af o.Data o.ai).2.2))] ?_
 have c3:=aJ.zero 5 br g none
 have ii:=ih.nl
 obtain⟨ej,am⟩:=St.freeze (ii.aa 10 rfl)
 have em:=iN (g:=g) J (.cells #[vP D] 55 (0,0))
 generalize ik:dy g _=il at ej am em;clear ik
 replace aw:=aw.mono am
 replace a0:=a0.mono am
 replace a1:=a1.mono am
 replace a3:=a3.mono am
 replace c3:=c3.mono am
 replace a5:=a5.mono am
 have io:=((((((ej.aa 0 rfl).aa 6 rfl).aa 6 rfl).aa 6 rfl).aa 6 rfl).aa 5 rfl).aa 6 rfl
 obtain⟨ip,is,c4⟩:=St.bJ (Q:=cu il D (⟨(fe s.au o.af o.Data o.ai).1,s.aN,s.book,s.aA,s.count,s.events,s.aR⟩:Sp)) 6 io ⟨_,_,_,_,_,_,_,_,_,_,rfl,a5,aw,a0,a1,a3⟩
 refine At.rm f125 [.agg #[vS [],vN,vI 0,vI (-1),vI 0,vI 0],.agg #[vS o.af,.func (.func 176) #[] #[vP J]],vI ((fe s.au o.af o.Data o.ai).2.2)] [.cell 6 39,.cell 7 212,.tmp 8] (.tuple #[.agg #[vS [],vN,vI 0,vI (-1),vI 0,vI 0],.agg #[vS o.af,.func (.func 176) #[] #[vP J]],vI ((fe s.au o.af o.Data o.ai).2.2)]) ⟨⟨_,_,rfl,dY (n:=6) (by kernel_rfl) (c4.ah 3 rfl) (by kernel_rfl) rfl⟩,⟨_,_,rfl,dY (n:=2) (by kernel_rfl) (c4.ah 2 rfl) (by kernel_rfl) rfl⟩,rfl,trivial⟩ ?_
 have iv:=((((c4.aa 1 rfl).aa 1 rfl).aa 4 rfl).aa 4 rfl).aa 4 rfl
 exact hR iv.drop.drop.drop ⟨vN,[],o.af,176,#[],#[vP J],ip,lJ (by(simp[cK,bS,cY,cU,ew,eP,eD, *];done)) (by(simp[cK,bS,cY,cU,ew,eP,eD, *];done)) (bB (by(simp[cK,bS,cY,cU,ew,eP,eD, *];done))),eV c3 (by(simp[cK,bS,cY,cU,ew,eP,eD, *];done)),(by(simp[cK,bS,cY,cU,ew,eP,eD, *];done)),(by(rw[KL ‹_› ‹_›];exact(.inr ⟨rfl,rfl,rfl,J,rfl,em⟩))),is.eq (by(unfold cU ew;simp[*];done)),rfl⟩
structure Mu where
  sp:Sp
  list:List iW
  kL:List aQ
def j4 (b:Nat) (client:Int) (m:Mu) (o:aG):Mu:=
  ⟨cU m.sp client o,m.list++[⟨cY m.sp client o,j3 o,b⟩],m.kL++[if o.Kind=3 then (bS m.sp client o).af else []]⟩
def qh (b:Nat) (client:Int) (s:Sp) (ops:List aG) (i:Int) (m:Mu):Prop:=
  m=(ops.take i.toNat).foldl (j4 b client) ⟨s,[],[]⟩∧∀k:Nat,(k:Int)<i→∀o,ops[k]?=some o→cK ((ops.take k).foldl (j4 b client) ⟨s,[],[]⟩).sp client o=0
section
variable {ns:List ag} {l:ag} {p data:aQ} {cI born bO:Int} {num:Bool}
theorem gj.put (H:gj ns) (hn:(gi ns l.af).length<1000) (hl:l.af.length≤64∧l.Data.length≤128∧ -9223372036854775808≤l.Next∧l.Next≤9223372036854775807):gj (eO ns l):=by
  have hp:=qc ns l
  refine⟨by rw[hp.length_eq,bY];omega,fun n hm=>?_⟩
  rcases ei.1 (hp.mem_iff.1 hm) with rfl|hm
  · exact hl
  · exact H.2 n (fB.1 hm).1
theorem Fa (ns:List ag) (p:aQ):(gi ns p).length≤ns.length:=l7 _ _
theorem Sb (h:l∈ns):(gi ns l.af).length<ns.length:=by
  unfold gi
  refine List.length_filter_lt_length_iff_exists.2 ⟨l,h,?_⟩
  simp
theorem Fb (x:Int): -9223372036854775808≤IntKind.wrap .i64 x∧IntKind.wrap .i64 x≤9223372036854775807:=by
  have e:IntKind.wrap .i64 x=if (true&&decide (x % 18446744073709551616≥9223372036854775808))=true then x % 18446744073709551616-18446744073709551616 else x % 18446744073709551616:=rfl
  rw[e]
  by_cases h:x % 18446744073709551616≥9223372036854775808
  · rw[aO (by rw[lp,cQ];exact h)];omega
  · rw[aC (by rw[lp,cQ];exact h)];omega
theorem gj.set (H:gj ns):gj (fe ns p data bO).1:=by
  unfold fe
  split
  · exact H
  · split
    · exact H
    · rename_i l hf
      obtain⟨hm,rfl⟩:=ki hf
      repeat' split
      · exact H
      · exact H
      · rename_i hd
        have:=H.2 l hm
        refine H.put (l:={l with Data:=data,ai:=IntKind.wrap .i64 (l.ai+1)}) ?_ ⟨this.1,by simpa using hd,this.2.2⟩
        have h1:=Sb hm
        have h2:=H.1
        show(gi ns l.af).length<1000
        omega
theorem gj.make (H:gj ns):gj (cm ns p data cI born num).1:=by
  unfold cm
  repeat' split
  all_goals first|exact H|skip
  rename_i h1 h2 _ up hf h3 h4 _ D h5
  obtain⟨hm,G⟩:=ki hf
  have hu:=H.2 up hm
  have hlen:ns.length<32:=by omega
  show gj (oO ns up (fR up p num) data cI born num)
  unfold oO
  have hN:(fR up p num).length≤64:=by
    unfold fR
    split
    · exact Ec _ _
    · exact Ed (by simpa using h1)
  have hw:gj (eO ns (if num=true then {up with Next:=IntKind.wrap .i64 (up.Next+1)} else up)):=by
    refine H.put (by have:=Fa ns (if num=true then {up with Next:=IntKind.wrap .i64 (up.Next+1)} else up).af;omega) ?_
    split
    · exact⟨hu.1,hu.2.1,Fb _⟩
    · exact hu
  have u:(eO ns (if num=true then {up with Next:=IntKind.wrap .i64 (up.Next+1)} else up)).length≤33:=by
    rw[(qc ns _).length_eq,bY]
    have:=Fa ns (if num=true then {up with Next:=IntKind.wrap .i64 (up.Next+1)} else up).af
    omega
  refine hw.put (Nat.lt_of_le_of_lt (bQ (Fa _ _) u) (by decide)) ⟨hN,by simpa using h2,by show(-9223372036854775808:Int)≤0;decide,by show(0:Int)≤9223372036854775807;decide⟩
end
theorem eg.qi {s:Sp} (H:eg s) (client:Int) (o:aG):eg (cU s client o):=by
  refine H.tr ?_
  unfold ew eP
  repeat' split
  all_goals first|exact H.tree.make|exact H.tree.drop _ _|exact H.tree.set
section
variable {b:Nat} {client i:Int} {s:Sp} {ops:List aG} {m:Mu} {o:aG}
theorem Sc:qh b client s ops 0 ⟨s,[],[]⟩:=⟨rfl,fun k h=>by omega⟩
theorem Fc (H:qh b client s ops i m) (h0:0≤i) (ho:ops[i.toNat]?=some o) (he:cK m.sp client o=0):qh b client s ops (i+1) (j4 b client m o):=by
  obtain⟨h1,h2⟩:=H
  refine⟨?_,fun k hk p hp=>?_⟩
  · rw[toNat_succ h0,fG ho,wQ,←h1];rfl
  · by_cases hlt:(k:Int)<i
    · exact h2 k hlt p hp
    · obtain rfl:k=i.toNat:=by omega
      rw[hp] at ho
      rw[fK ho,←h1]
      exact he
end
def rI (client:Int) (s:Sp) (o:aG):Sp:=cU s client o
def ji (client:Int):Sp→List aG→Int→Option (Int×Int×Sp)
  |_,[],_=>none
  |s,o::os,i=>if cK s client o=0 then ji client (cU s client o) os (i+1) else some (i,cK s client o,cU s client o)
def nt (b:Nat) (client:Int) (s:Sp) (ops:List aG):Mu:=ops.foldl (j4 b client) ⟨s,[],[]⟩
def oE (s:Sp) (c:iW):Sp:=lz s c.ff c.eX
def Fe (u s:Sp):Sp:={s with au:=if mU u.au=true then u.au else s.au}
def nH (s:Sp) (client:Int) (o:aG):Sp:=match ji client s o.az 0 with
  |some (_,_,sp)=>Fe s sp
  |none=>(nt 0 client s o.az).list.foldl oE (nt 0 client s o.az).sp
def qj (s:Sp) (client:Int) (o:aG) (x:Result):Result:=match ji client s o.az 0 with
  |some (i,e,_)=>{x with Code:=e,At:=i}
  |none=>{x with bP:=(nt 0 client s o.az).kL}
theorem Cv {s:Sp} (H:eg s) {c:Int} (o:aG):(cY s c o).length≤o.af.length+64:=by
  unfold cY eP cm
  repeat' split
  all_goals first|(simp;done)|skip
  all_goals
    simp only[]
    unfold fR
    split
    · exact bQ (Ec _ _) (by omega)
    · omega
section
variable {b:Nat} {client i:Int} {s:Sp} {ops:List aG} {m:Mu} {o:aG} {x:Result}
theorem vz:∀(ops:List aG) (m:Mu),(ops.foldl (j4 b client) m).sp=ops.foldl (rI client) m.sp
  |[],_=>rfl
  |o::ops,m=>vz ops (j4 b client m o)
theorem KN:∀(pre rest:List aG) (s:Sp) (i:Int),(∀k o,pre[k]?=some o→cK ((pre.take k).foldl (rI client) s) client o=0)→
    ji client s (pre++rest) i=ji client (pre.foldl (rI client) s) rest (i+pre.length)
  |[],rest,s,i,_=>by simp
  |o::pre,rest,s,i,h=>by
   have h0:=h 0 o rfl
   simp only[xD,List.foldl_nil] at h0
   rw[dW,ji,aO h0]
   have:=KN pre rest (rI client s o) (i+1) fun k p hp=>h (k+1) p (by simpa using hp)
   show ji client (rI client s o) (pre++rest) (i+1)=_
   rw[this,bY,nr]
   congr 1
   omega
theorem KO (H:qh b client s ops i m) (h0:0≤i) (hi:i≤ops.length):ji client s (ops.take i.toNat) 0=none∧∀rest,ji client s (ops.take i.toNat++rest) 0=ji client m.sp rest i:=by
  have h:∀rest,ji client s (ops.take i.toNat++rest) 0=ji client m.sp rest i:=fun rest=>by
    rw[KN,H.1,vz]
    · congr 1
      rw[e_]
      omega
    · intro k p hp
      have hk:k<i.toNat:=by
        have:=(fT.1 hp).1
        rw[e_] at this
        omega
      rw[uv,aO hk] at hp
      have:=H.2 k (by omega) p hp
      rw[vz] at this
      rw[uy,kW (by omega)]
      exact this
  refine⟨?_,h⟩
  have:=h []
  rw[dX] at this
  rw[this,ji]
theorem KP (H:qh b client s ops i m) (h0:0≤i) (ho:ops[i.toNat]?=some o) (he:¬cK m.sp client o=0):ji client s ops 0=some (i,cK m.sp client o,cU m.sp client o):=by
  have hlt:=(fT.1 ho).1
  have h:=(KO H h0 (by omega)).2 (ops.drop i.toNat)
  rw[od] at h
  rw[h,zj hlt,ji]
  have:ops[i.toNat]=o:=(fT.1 ho).2
  rw[this,aC he]
theorem KQ (H:qh b client s ops i m) (h0:0≤i) (hi:i≤ops.length) (hn:¬i<(ops.length:Int)):ji client s ops 0=none∧m=nt b client s ops:=by
  have h:=(KO H h0 hi).1
  have h1:=H.1
  rw[fC (by omega)] at h h1
  exact⟨h,h1⟩
theorem Sd (H:qh b client s o.az i m) (h0:0≤i) {p:aG} (hp:o.az[i.toNat]?=some p) (he:¬cK m.sp client p=0):nH s client o=Fe s (cU m.sp client p):=by
  unfold nH
  rw[KP H h0 hp he]
theorem Se (H:qh b client s o.az i m) (h0:0≤i) {p:aG} (hp:o.az[i.toNat]?=some p) (he:¬cK m.sp client p=0):qj s client o x={x with Code:=cK m.sp client p,At:=i}:=by
  unfold qj
  rw[KP H h0 hp he]
theorem Ff (b':Nat):∀(ops:List aG) (m m':Mu),m.sp=m'.sp→m.kL=m'.kL→m.list.map (fun c=>(c.eX,c.ff))=m'.list.map (fun c=>(c.eX,c.ff))→
    (ops.foldl (j4 b client) m).sp=(ops.foldl (j4 b' client) m').sp∧(ops.foldl (j4 b client) m).kL=(ops.foldl (j4 b' client) m').kL∧(ops.foldl (j4 b client) m).list.map (fun c=>(c.eX,c.ff))=(ops.foldl (j4 b' client) m').list.map (fun c=>(c.eX,c.ff))
  |[],_,_,h1,h2,h3=>⟨h1,h2,h3⟩
  |o::ops,m,m',h1,h2,h3=>Ff b' ops (j4 b client m o) (j4 b' client m' o) (by unfold j4;rw[h1]) (by unfold j4;rw[h1,h2]) (by unfold j4;simp only[iH,h3,h1,eR,kG])
theorem KR (l:List iW) (s:Sp):l.foldl oE s=(l.map fun c=>(c.eX,c.ff)).foldl (fun s p=>lz s p.2 p.1) s:=by
  rw[List.foldl_map]
  rfl
theorem Sf (b':Nat):(nt b client s ops).list.foldl oE (nt b client s ops).sp=(nt b' client s ops).list.foldl oE (nt b' client s ops).sp:=by
  obtain⟨h1,_,h3⟩:=Ff (b:=b) (client:=client) b' ops ⟨s,[],[]⟩ ⟨s,[],[]⟩ rfl rfl rfl
  rw[KR,KR]
  unfold nt
  rw[h1,h3]
theorem Sg {y z:Sp} {cs:List iW} {ns:List aQ} {q:Int} (H:qh b client s o.az i ⟨y,cs,ns⟩) (h0:0≤i) (hi:i≤o.az.length) (hn:¬i<(o.az.length:Int)) (hz:z=(cs.take q.toNat).foldl oE y) (hq:¬q<(cs.length:Int)):z=nH s client o:=by
  obtain⟨h1,h2⟩:=KQ H h0 hi hn
  unfold nH
  rw[h1]
  simp only[]
  rw[Sf (b:=0) b,←h2]
  rw[fC (by omega)] at hz
  exact hz
theorem Sh {y:Sp} {cs:List iW} {ns:List aQ} (H:qh b client s o.az i ⟨y,cs,ns⟩) (h0:0≤i) (hi:i≤o.az.length) (hn:¬i<(o.az.length:Int)):{x with bP:=ns}=qj s client o x:=by
  obtain⟨h1,h2⟩:=KQ H h0 hi hn
  unfold qj
  rw[h1]
  simp only[]
  unfold nt
  rw[(Ff (b:=0) (client:=client) b o.az ⟨s,[],[]⟩ ⟨s,[],[]⟩ rfl rfl rfl).2.1]
  unfold nt at h2
  rw[←h2]
theorem Si (o:aG):j3 o≠0:=by
  unfold j3
  split
  · decide
  · split<;>decide
theorem Fg {cs:List iW} (h:∀c∈cs,c.ff≠0∧c.bF=b) (p:aQ) (o:aG):∀c∈cs++[(⟨p,j3 o,b⟩:iW)],c.ff≠0∧c.bF=b:=fun c hc=>by
  rcases dP.1 hc with hc|hc
  · exact h c hc
  · rw[iw.1 hc];exact⟨Si o,rfl⟩
theorem Fh {cs:List iW} (h:∀c∈cs,c.eX.length≤1000000000) {p:aQ} (hp:p.length≤1000000000) (o:aG):∀c∈cs++[(⟨p,j3 o,b⟩:iW)],c.eX.length≤1000000000:=fun c hc=>by
  rcases dP.1 hc with hc|hc
  · exact h c hc
  · rw[iw.1 hc];exact hp
theorem Sj {y z:Sp} {cs:List iW} {c:iW} {q:Int} (hz:z=(cs.take q.toNat).foldl oE y) (h0:0≤q) (hc:cs[q.toNat]?=some c):lz z c.ff c.eX=(cs.take (q+1).toNat).foldl oE y:=by
  rw[toNat_succ h0,fG hc,wQ,←hz]
  rfl
end
theorem Sk {ns:List ag} {l:ag} (h:lP ns l=true):l.af.length≤64:=by
 unfold lP at h
 simp only[b_] at h
 have h:=h.2
 split at h
 ·simp only[b_,cQ] at h
  rw[h.1.1];decide
 ·simp only[b_,cQ] at h
  exact Ed h.1
theorem gB (B:World) (h:ax) (g:GH) (hg:bl g h) (a0:bq g) (ab:Nat) (t:List ag) (D:ay) (I:fI g ab t D) (c5:Value) (list:List ag) (a7:av g 39 mu c5 list) (h1:list.length≤1000000) (hl:∀n∈list,n.af.length≤1000000∧n.Data.length≤1000000) (hs:St h g (aV [D]) g [D] h):
  aE prog B 96 #[vP ab,c5] h g [D] (fun dp g' L'=>∃c6,dp=.bool (mU list)∧fI g' ab (if mU list=true then list else t) c6∧g'=g∧L'=[c6]):=by
 obtain⟨b6,ad,rfl⟩:=a7.aj
 refine aE.aq func96 fun R hR=>?_
 refine At.go 1 1 [] ?_
 refine At.rg 2 ?_
 refine Op.makeMap (mt:=195) (dst:=9) (by kernel_rfl) hs fun G c8 dq=>?_
 have du:St h g (aV [D]) g [[(G,.map #[] 0)],[],D] c8:=St.bu (L:=[[(G,.map #[] 0)],D]) rfl dq
 have dv:cZ encS #[] 0 ([]:List (aQ×Value)):=cZ.empty _ _
 have dC:=h_.nil
 refine Op.pg 2 [(5,.map (some G))] ?_
 refine At.go 3 3 [(10,vL b6 list.length ad),(11,vI (list.length:Int)),(12,vI 0)] ?_
 obtain⟨fp,dE,dT⟩:∃c,hU g G ([]:List ag) c∧St h g (aV [D]) g (c::[D]) c8:=⟨_,dC.close dv (gO _),St.bu (L:=[(G,.map #[] 0)]::[]::[D]) (by simp only[cH,dm,dW,eN,dX]) du⟩
 have d0:∀(m:Nat) (V:GH) (a8:aM g V) (i:Int) (J:List ag) (ar:ay) (b8:ax) (hm:list.length-i.toNat<m) (h0:0≤i) (h3:i≤list.length) (hlv:J=list.take i.toNat) (a9:x_ list i) (a1:hU V G J ar) (a3:St h g (aV [D]) V [ar,D] b8),At (bX prog B 96 f96 R) [] 3 [(0,vP ab),(1,vL b6 list.length ad),(5,.map (some G)),(10,vL b6 list.length ad),(11,vI (list.length:Int)),(12,vI i)] b8:=by
  intro m;induction m with
  |zero=>intros;omega
  |succ m d1=>
   intro V a8 i J ar b8 hm h0 h3 hlv a9 a1 a3
   replace a0:=a0.mono a8
   replace a7:=a7.mono a8
   replace I:=I.mono a8
   refine At.go 4 1 [(13,.bool (decide (i<(list.length:Int))))] ?_
   refine At.fd (i<(list.length:Int)) 13 5 13 (fun fr=>?_) fun ft=>?_
   ·refine At.rp 6 1 [(14,vI i)] ?_
    obtain⟨u,O⟩:=cG list i
    obtain⟨a4,ae,fv,fw,d2,d3,ca⟩:=av.bF a7 _ O
    cases d2
    refine Op.iq 57 39 6 72 list.length ad 10 12 15 a4 ae i ?_
    obtain⟨fx,bc,ca⟩:=ca
    obtain⟨bd,be,rfl⟩:=bc.aj
    refine Op.la 39 15 16 (ae+i.toNat*6) 6 [vS u.af,vL bd u.Data.length be,vI u.ai,vI u.aD,vI u.Next,vI u.aL] (a3.sub _ _ d3) ?_ (hv:=ca)
    refine Op.al 7 39 #[vS [],vN,vI 0,vI 0,vI 0,vI 0] a3 fun a5 f0 d4=>?_
    refine Op.px 1 [(6,vI i)] ?_
    refine Op.sg 39 7 16 0 0 #[vS u.af,vL bd u.Data.length be,vI u.ai,vI u.aD,vI u.Next,vI u.aL] d4 (fun _=>trivial) fun f1 cb=>?_
    refine Op.gt 6 ?_
    have c9:∀(m:Nat) (ce:ax) (hm:0<m) (bi:uY list i.toNat u) (da:St h g (aV [D]) V [[(a5,Obj.cells #[vS u.af,vL bd u.Data.length be,vI u.ai,vI u.aD,vI u.Next,vI u.aL] 39 (0,0))],ar,D] ce),At (bX prog B 96 f96 R) [] 10 [(0,vP ab),(1,vL (some ⟨a4,ae,none⟩) list.length ad),(5,.map (some G)),(7,vP a5),(10,vL (some ⟨a4,ae,none⟩) list.length ad),(11,vI (list.length:Int)),(12,vI i)] ce:=by
     intro m;induction m with
     |zero=>intros;omega
     |succ m f2=>
      intro ce hm bi da
      refine At.rg 3 ?_
      obtain⟨cf,bm⟩:=St.freeze (da.aa 0 rfl)
      have ch:=iN (g:=V) a5 (.cells #[vS u.af,vL bd u.Data.length be,vI u.ai,vI u.aD,vI u.Next,vI u.aL] 39 (0,0))
      generalize d5:dy V _=aw at cf bm ch;clear d5
      replace a0:=a0.mono bm
      replace bc:=bc.mono bm
      replace a1:=a1.mono bm
      refine Op.c0 (some 36) (Ek _ _ _ cf.sub a0 u _ bc a5 ch (by((try dsimp only)<;>((have:=(hl _ (cj O)).2;omega))))) cf ?_
      rintro _ d6 _ f3 d7 d8 ⟨f4,am,rfl,db,bo,rfl⟩;subst d6;clear d7
      obtain⟨X,Y,rfl⟩:=db.aj
      refine Op.al 8 39 #[vS [],vN,vI 0,vI 0,vI 0,vI 0] d8 fun U f5 d9=>?_
      refine Op.sg 39 8 36 0 0 #[vS u.af,vL X (u.Data.length) Y,vI u.ai,vI u.aD,vI u.Next,vI u.aL] d9 (fun _=>trivial) fun dc dd=>?_
      refine Op.gt 11 ?_
      refine At.rp 4 2 [(37,.map (some G)),(38,vP a5)] ?_
      refine Op.l1 9 38 39 0 (vS u.af) (dd.sub _ _ ch) ?_
      have ed:=((dd.aa 1 rfl).aa 1 rfl).aa 2 rfl
      obtain⟨ee,ef,eh,a6,ej,em,en⟩:=hU.me a1
      have ep:St h g (aV [D]) aw [ar,[(U,Obj.cells #[vS u.af,vL X (u.Data.length) Y,vI u.ai,vI u.aD,vI u.Next,vI u.aL] 39 (0,0))],am,D] dc:=ed
      have er:St h g (aV [D]) aw ([(G,.map ee ef)]::a6::[[(U,Obj.cells #[vS u.af,vL X (u.Data.length) Y,vI u.ai,vI u.aD,vI u.Next,vI u.aL] 39 (0,0))],am,D]) dc:=St.qN (L:=ar::[[(U,Obj.cells #[vS u.af,vL X (u.Data.length) Y,vI u.ai,vI u.aD,vI u.Next,vI u.aL] 39 (0,0))],am,D]) (ej.append_right _) ep
      refine Op.oM (d:=.string) (z:=.pointer none) (mt:=195) (x:=37) (ix:=39) (y:=8) (k:=u.af) (v:=vP U) (.inl (by kernel_rfl)) (by kernel_rfl) l_ (by kernel_rfl) (by kernel_rfl) (by kernel_rfl) er 0 rfl em (fun _=>trivial) fun bt b3 ci et ex=>?_
      have eA:h_ (iZ eh u.af (vP U)) ((U,.cells #[vS u.af,vL X (u.Data.length) Y,vI u.ai,vI u.aD,vI u.Next,vI u.aL] 39 (0,0))::am++a6:ay) (eO J (⟨u.af,u.Data,u.ai,u.aD,u.Next,u.aL⟩:ag)):=en.B5 (g:=aw) (l:=(⟨u.af,u.Data,u.ai,u.aD,u.Next,u.aL⟩:ag)) (by(rw[hlv];exact(E0 a9 h0 O bi).2.1)) db (by exact Sk bi.1)
      have eB:=(((ex.aa 1 rfl).aa 3 rfl).aa 3 rfl).aa 3 rfl
      have eE:St h g (aV [D]) aw [[(G,.map bt b3)],[(U,Obj.cells #[vS u.af,vL X (u.Data.length) Y,vI u.ai,vI u.aD,vI u.Next,vI u.aL] 39 (0,0))],am,a6,D] ci:=eB
      have eI:St h g (aV [D]) aw [[(G,.map bt b3)],((U,.cells #[vS u.af,vL X (u.Data.length) Y,vI u.ai,vI u.aD,vI u.Next,vI u.aL] 39 (0,0))::am++a6:ay),D] ci:=St.bu (L:=[[(G,.map bt b3)],[(U,Obj.cells #[vS u.af,vL X (u.Data.length) Y,vI u.ai,vI u.aD,vI u.Next,vI u.aL] 39 (0,0))],am,a6,D]) (by simp only[cH,List.flatten_nil,dm,dW,eN,dX]) eE
      refine Op.gt 12 ?_
      refine At.rg 2 ?_
      refine Op.vq 40 (i+1) ?_
      refine Op.pg 3 [(12,vI (i+1))] ?_
      obtain⟨f6,eJ,eK⟩:∃c,hU aw G (eO J (⟨u.af,u.Data,u.ai,u.aD,u.Next,u.aL⟩:ag)) c∧St h g (aV [D]) aw (c::[D]) ci:=⟨_,eA.close et (gO _),St.bu (L:=[(G,.map bt b3)]::((U,.cells #[vS u.af,vL X (u.Data.length) Y,vI u.ai,vI u.aD,vI u.Next,vI u.aL] 39 (0,0))::am++a6:ay)::[D]) (by simp only[cH,dm,dW,eN,dX]) eI⟩
      exact At.ke (d1 _ (aM.trans a8 (by repeat (first|assumption|apply aM.trans))) (i+1) (eO J (⟨u.af,u.Data,u.ai,u.aD,u.Next,u.aL⟩:ag)) _ _ (by omega) (by omega) (by omega) (by(rw[hlv];exact(E0 a9 h0 O bi).2.2)) (by exact(E0 a9 h0 O bi).1) eJ eK)
    refine At.dw (fun _=>False) [(0,true),(1,false),(2,false),(3,true),(4,true),(5,true),(6,true),(7,true),(8,true),(9,true),(10,true),(11,true),(12,true),(14,true),(13,true),(15,false),(16,true),(17,true),(18,true)] ?_
    refine Op.px 1 [(17,.map (some G))] ?_
    refine Op.la 39 7 18 0 6 [vS u.af,vL bd u.Data.length be,vI u.ai,vI u.aD,vI u.Next,vI u.aL] (cb.ah 0 rfl) ?_
    have b4:=(cb.aa 0 rfl).aa 1 rfl
    have df:=b4.gz
    have eL:=hU.fY a1 b4 (by intro p hp;simp only[dP,hp,iF,iG])
    refine Op.le (some 19) 0 b4 (Qm _ _ _ b4.iO (a0.mono df) G J eL u _ (bc.mono df) (by((try dsimp only)<;>((have:=(hl _ (cj O)).1;omega))))) (fun _ _ _ hp=>by obtain⟨_,bo,_⟩:=hp;exact bo) ?_ (hM:=(fun _ _ h=>absurd h (dB _)))
    rintro _ _ f7 bj ⟨rfl,bo,rfl⟩;clear bo
    refine Op.px 2 [(21,.bool (!(lP J u)))] ?_
    refine Op.wb (!(lP J u)) 21 (fun dg=>?_) fun dj=>?_
    ·replace dg:=(dG dg)
     refine Op.pg 7 [(35,.bool true)] ?_
     refine At.bW 35 8 ?_
     refine At.go 9 1 [(4,.bool false)] ?_
     refine At.rt (.bool false) ?_
     replace I:=I.bu (g':=g)
     exact hR bj.drop.drop.jZ ⟨D,(aS (by exact J4 O (by rw[←hlv];assumption))),I.eq (by(rw[←J4 O (by rw[←hlv];assumption)];rfl)),rfl,rfl⟩
    replace dj:=(dH dj)
    refine Op.px 3 [(24,.bool (decide (i>0)))] ?_
    refine Op.wd (i>0) 24 (fun f8=>?_) fun f9=>?_
    ·refine Op.px 2 [(25,vL (some ⟨a4,ae,none⟩) list.length ad),(26,vI i)] ?_
     refine Op.vq 27 (i-1) ?_
     obtain⟨bk,b5⟩:=cG list (i-1)
     obtain⟨gc,ge,gg,gk,eQ,e1,ck⟩:=av.bF a7 _ b5
     cases eQ
     refine Op.iq 57 39 6 72 list.length ad 25 27 28 a4 ae (i-1) ?_
     obtain⟨gn,e2,ck⟩:=ck
     obtain⟨gs,n119,rfl⟩:=e2.aj
     refine Op.px 2 [(29,vQ a4 (ae+(i-1:Int).toNat*6)),(31,vP a5)] ?_
     refine Op.gB (T:=9) (x:=29) (o:=ae+(i-1:Int).toNat*6) (d:=30) (n:=1) (v:=vS bk.af) (by kernel_rfl) (by kernel_rfl) (by kernel_rfl) (fun h=>h) (cb.sub _ _ e1) (c_ ck 0 rfl) ?_
     refine Op.l1 9 31 32 0 (vS u.af) (bj.ah 1 rfl) ?_
     refine Op.vl 33 (.bool (!(Go.Op.bytesLess (bp bk.af).toList (bp u.af).toList))) (.bool (!(Go.Op.bytesLess bk.af u.af))) (by rw[toList_mkS,toList_mkS]) ?_
     refine Op.pg 7 [(35,.bool (!(Go.Op.bytesLess bk.af u.af)))] ?_
     refine At.di (!(Go.Op.bytesLess bk.af u.af)) 35 8 10 (fun dk=>?_) fun co=>?_
     ·replace dk:=(dG dk)
      refine At.go 9 1 [(4,.bool false)] ?_
      refine At.rt (.bool false) ?_
      replace I:=I.bu (g':=g)
      exact hR bj.drop.drop.jZ ⟨D,(aS (by exact J2 (by omega) O b5 ‹_›)),I.eq (by(rw[←J2 (by omega) O b5 ‹_›];rfl)),rfl,rfl⟩
     replace co:=(dH co)
     have e3:=(bj.aa 0 rfl).aa 1 rfl
     exact At.ke (c9 _ _ (bM _) (by exact QN (by omega) (by rw[←hlv];assumption) b5 co) e3)
    refine Op.pg 7 [(35,.bool false)] ?_
    refine At.dK 35 10 ?_
    have e4:=(bj.aa 0 rfl).aa 1 rfl
    exact At.ke (c9 _ _ (bM _) (by exact QM (by omega) h0 (by rw[←hlv];assumption)) e4)
   have e5:∀(m:Nat) (c3:ax) (hm:0<m) (hle:true=mU list∧list.take i.toNat=list) (dl:St h g (aV [D]) V [ar,D] c3),At (bX prog B 96 f96 R) [] 17 [(0,vP ab),(5,.map (some G))] c3:=by
    intro m;induction m with
    |zero=>intros;omega
    |succ m g1=>
     intro c3 hm hle dl
     refine At.rp 5 4 [(50,.map (some G)),(52,vP ab)] ?_
     obtain⟨g2,e6,e7,g3⟩:=I
     have e8:=(dl.aa 0 rfl).aa 1 rfl
     have e9:=St.un [e6] e7 e8
     refine Op.s1 195 52 50 0 (.map (some G)) 0 #[.map (some G)] e9 (fun _=>trivial) fun g4 fa=>?_
     refine Op.gt 18 ?_
     refine At.go 19 1 [(4,.bool true)] ?_
     have fg:=((fa.aa 1 rfl).aa 2 rfl).aa 2 rfl
     obtain⟨fi,c4,fj⟩:=St.bJ (Q:=fI V ab J) 2 fg ⟨_,_,rfl,a1⟩
     refine At.rt (.bool true) ?_
     have fl:=(fj.aa 0 rfl).aa 1 rfl
     replace c4:=c4.bu (g':=g)
     exact hR fl.drop.jZ ⟨fi,(aS (by exact hle.1)),c4.eq (by(rw[←hle.1,hlv];exact hle.2)),rfl,rfl⟩
   refine At.rp 8 4 [(44,.bool ((list.length:Int)==0))] ?_
   refine Op.wd ((list.length:Int)=0) 44 (fun g5=>?_) fun g6=>?_
   ·refine Op.pg 14 [(48,.bool true)] ?_
    refine At.bW 48 15 ?_
    refine At.go 16 1 [(4,.bool false)] ?_
    refine At.rt (.bool false) ?_
    replace I:=I.bu (g':=g)
    exact hR a3.drop.jZ ⟨D,(aS (by exact Cn (by omega))),I.eq (by(rw[←Cn (by omega)];rfl)),rfl,rfl⟩
   refine Op.pg 14 [(48,.bool (decide ((list.length:Int)>32)))] ?_
   refine At.fd ((list.length:Int)>32) 48 15 17 (fun g7=>?_) fun g8=>?_
   ·refine At.go 16 1 [(4,.bool false)] ?_
    refine At.rt (.bool false) ?_
    replace I:=I.bu (g':=g)
    exact hR a3.drop.jZ ⟨D,(aS (by exact Cn (by omega))),I.eq (by(rw[←Cn (by omega)];rfl)),rfl,rfl⟩
   exact At.ke (e5 _ _ (bM _) (by exact QO a9 ‹_› (by omega) (by omega)) a3)
 exact At.ke (d0 _ _ (aM.refl _) 0 ([]:List ag) _ _ (bM _) (by omega) (by omega) (by rfl) (by exact QK _) dE dT)
set_option maxHeartbeats 4000000 in
theorem Sl (B:World) (h:ax) (g:GH) (hg:bl g h) (O:bq g) (D:Nat) (s:Sp) (a6:ay) (gk:cu g D s a6) (client:Int) (o:aG) (eE:Value) (gn:av g 5 br eE o.Data) (eI:Value) (be:av g 25 ek eI o.az) (J:Nat) (x:Result) (ab:ay) (a3:fW g J x ab) (hP:lZ g) (ci:eg s) (ho:cq o≤100000000) (hs:St h g (aV [a6,ab]) g [a6,ab] h):
  aE prog B 127 #[vP D,vI client,.agg #[vI o.Kind,vS o.af,eE,vI o.ai,vI o.aF,.bool o.aY,.bool o.aI,.bool o.ak,eI],vP J] h g [a6,ab] (fun gs g' L'=>∃eJ eK,gs=.tuple #[]∧cu g' D (nH s client o) eJ∧fW g' J (qj s client o x) eK∧L'=[eJ,eK]):=by
 obtain⟨bt,b3,rfl⟩:=gn.aj
 obtain⟨bi,am,rfl⟩:=be.aj
 refine aE.aq func127 fun R hR=>?_
 refine At.rg 1 ?_
 refine Op.bx 6 25 2 #[vI o.Kind,vS o.af,vL bt o.Data.length b3,vI o.ai,vI o.aF,.bool o.aY,.bool o.aI,.bool o.ak,vL bi o.az.length am] hs fun b4 l3 g1=>?_
 refine Op.gt 1 ?_
 refine At.rp 6 3 [(20,vP D)] ?_
 obtain⟨eL,g2,l4,g3,l8,g4,ma,g5,md,g6,g7,ck,dv,dC,dE,dT⟩:=gk
 have g8:=(g1.aa 0 rfl).aa 1 rfl
 have eQ:=St.un [g2,g3,g4,g5,g6] g7 g8
 refine Op.l1 129 20 21 0 (vP eL) (eQ.ah 0 rfl) ?_
 have co:=(eQ.aa 0 rfl).aa 1 rfl
 have g9:=co.gz
 have he:=fI.fY ck co (by intro p hp;simp only[dP,hp,iF,iG])
 refine Op.le (some 22) 0 co (El _ _ _ co.iO (O.mono g9) eL s.au he (by(try dsimp only)<;>exact ci.tree)) (fun _ _ _ hp=>by obtain⟨_,_,_,_,_,c3,_⟩:=hp;exact c3) ?_ (hM:=(fun _ _ h=>absurd h (dB _)))
 rintro _ _ mf hf ⟨v46,mi,ml,rfl,hh,c3,rfl⟩;clear c3
 have hj:=((hf.aa 0 rfl).aa 2 rfl).aa 2 rfl
 obtain⟨c4,e1,ar,bj⟩:=Deep.freeze hh hj
 replace ck:=ck.mono ar
 replace dv:=dv.mono ar
 replace dC:=dC.mono ar
 replace dE:=dE.mono ar
 replace dT:=dT.mono ar
 replace O:=O.mono ar
 replace hP:=hP.mono ar
 replace be:=be.mono ar
 replace a3:=a3.mono ar
 obtain⟨c5,c6,rfl⟩:=bj.aj
 refine Op.pg 2 [(8,vL c5 (s.au.length) c6)] ?_
 refine At.go 3 1 [(9,vN)] ?_
 refine At.go 4 1 [(10,vN)] ?_
 refine At.rp 4 1 [(23,vQ b4 8)] ?_
 refine Op.l1 23 23 24 8 (vL bi o.az.length am) (e1.ah 6 rfl) ?_
 refine Op.pg 5 [(25,vI (o.az.length:Int)),(26,vI 0)] ?_
 have hl:=(e1.aa 0 rfl).aa 1 rfl
 obtain⟨mp,hr,hu⟩:=St.bJ (Q:=cu c4 D s) 6 hl ⟨_,_,_,_,_,_,_,_,_,_,rfl,ck,dv,dC,dE,dT⟩
 have hw:∀(m:Nat) (a7:GH) (aw:aM c4 a7) (y:Sp) (cs:List iW) (ns:List an) (i:Int) (a8:Option Addr) (a4:Nat) (a9:ay) (ad:Option Addr) (ae:Nat) (bc:ay) (d0:ay) (d1:ax) (hm:o.az.length-i.toNat<m) (h0:0≤i) (h1:i≤o.az.length) (hI:qh D client s o.az i ⟨y,cs,ns⟩) (a5:eg y) (hcl:cs.length≤i) (hx:ns.length≤i) (b5:∀c∈cs,c.ff≠0∧c.bF=D) (b6:∀c∈cs,c.eX.length≤1000000000) (U:aJ 212 yd a7 (.slice a8 cs.length a4) cs a9) (V:aJ 9 eU a7 (.slice ad ns.length ae) ns bc) (d2:cu a7 D y d0) (c8:St h g (aV [a6,ab]) a7 [bc,a9,d0,[(b4,Obj.cells #[vI o.Kind,vS o.af,vL bt o.Data.length b3,vI o.ai,vI o.aF,.bool o.aY,.bool o.aI,.bool o.ak,vL bi o.az.length am] 25 (0,0))],ab] d1),At (bX prog B 127 f127 R) [] 5 [(0,vP D),(1,vI client),(3,vP J),(8,vL c5 (s.au.length) c6),(9,vL a8 cs.length a4),(10,vL ad ns.length ae),(24,vL bi o.az.length am),(25,vI (o.az.length:Int)),(26,vI i)] d1:=by
  intro m;induction m with
  |zero=>intros;omega
  |succ m d3=>
   intro a7 aw y cs ns i a8 a4 a9 ad ae bc d0 d1 hm h0 h1 hI a5 hcl hx b5 b6 U V d2 c8
   replace O:=O.mono aw
   replace hP:=hP.mono aw
   replace be:=be.mono aw
   replace bj:=bj.mono aw
   replace a3:=a3.mono aw
   refine At.go 6 1 [(27,.bool (decide (i<(o.az.length:Int))))] ?_
   refine At.fd (i<(o.az.length:Int)) 27 7 19 (fun mx=>?_) fun my=>?_
   ·refine At.rp 6 1 [(28,vI i)] ?_
    obtain⟨u,X⟩:=cG o.az i
    obtain⟨d4,c9,m0,m1,hy,hA,b8⟩:=av.bF be _ X
    cases hy
    refine Op.iq 23 25 9 96 o.az.length am 24 26 29 d4 c9 i ?_
    replace b8:=iC.1 b8
    obtain⟨m2,m3,e2,e3,b8⟩:=b8
    obtain⟨da,db,rfl⟩:=e2.aj
    obtain⟨dc,dd,rfl⟩:=e3.aj
    refine Op.la 25 29 30 (c9+i.toNat*9) 9 [vI u.Kind,vS u.af,vL da u.Data.length db,vI u.ai,vI u.aF,.bool u.aY,.bool u.aI,.bool u.ak,vL dc u.az.length dd] (c8.sub _ _ hA) ?_ (hv:=b8)
    refine Op.al 12 25 #[vI 0,vS [],vN,vI 0,vI 0,.bool false,.bool false,.bool false,vN] c8 fun e4 m4 hB=>?_
    refine Op.px 1 [(11,vI i)] ?_
    refine Op.sg 25 12 30 0 0 #[vI u.Kind,vS u.af,vL da u.Data.length db,vI u.ai,vI u.aF,.bool u.aY,.bool u.aI,.bool u.ak,vL dc u.az.length dd] hB (fun _=>trivial) fun m5 e5=>?_
    refine Op.gt 8 ?_
    refine At.rp 13 2 [(32,vP D),(33,vI client)] ?_
    refine Op.la 25 12 34 0 9 [vI u.Kind,vS u.af,vL da u.Data.length db,vI u.ai,vI u.aF,.bool u.aY,.bool u.aI,.bool u.ak,vL dc u.az.length dd] (e5.ah 0 rfl) ?_
    have d5:=(((e5.aa 2 rfl).aa 2 rfl).aa 2 rfl).aa 3 rfl
    refine Op.cl (some 35) 1 d5 (KM _ _ _ d5.sub O D y _ d2 client u _ e2 _ e3 hP (by(try dsimp only)<;>omega) (by((try dsimp only)<;>((have:=ie (cj X);have:=fO u;omega)))) (by((try dsimp only)<;>((have:=ie (cj X);have:=fO u;omega)))) (St.pt 1 d5)) ?_
    rintro _ d6 _ m6 ca hC ⟨m7,e6,m8,f109,a0,a1,e7,rfl,hD,rfl,cb,bk,rfl⟩
    obtain⟨df,dg,rfl⟩:=hD.aj
    replace U:=U.mono ca
    replace V:=V.mono ca
    replace O:=O.mono ca
    replace bj:=bj.mono ca
    replace a3:=a3.mono ca
    refine Op.px 4 [(36,.agg #[vS ((bS y client u).af),vL df (((bS y client u).Data).length) dg,vI ((bS y client u).ai),vI ((bS y client u).aD),vI ((bS y client u).Next),vI ((bS y client u).aL)]),(37,.agg #[vS (cY y client u),.func (.func f109) a0 a1]),(38,vI (cK y client u))] ?_
    refine Op.al 13 39 #[vS [],vN,vI 0,vI 0,vI 0,vI 0] hC fun dj m9 hE=>?_
    refine Op.al 14 212 #[vS [],.nilFunc] hE fun e8 na hF=>?_
    refine Op.sg 39 13 36 0 1 #[vS ((bS y client u).af),vL df (((bS y client u).Data).length) dg,vI ((bS y client u).ai),vI ((bS y client u).aD),vI ((bS y client u).Next),vI ((bS y client u).aL)] hF (fun _=>trivial) fun nb hG=>?_
    refine Op.sg 212 14 37 0 0 #[vS (cY y client u),.func (.func f109) a0 a1] hG (fun _=>trivial) fun nd dk=>?_
    refine Op.pg 9 [(15,vI (cK y client u))] ?_
    refine At.go 10 2 [(40,.bool ((cK y client u) != 0))] ?_
    refine At.fn ((cK y client u)=0) 40 11 14 (fun nf=>?_) fun nm=>?_
    ·refine At.rp 6 3 [(43,vP D)] ?_
     obtain⟨e9,hH,nn,hJ,no,hK,np,hL,nu,hN,hO,hQ,hS,hT,hV,hW⟩:=bk
     have hX:=((dk.aa 1 rfl).aa 1 rfl).aa 2 rfl
     have fa:=St.un [hH,hJ,hK,hL,hN] hO hX
     refine Op.l1 129 43 44 0 (vP e9) (fa.ah 0 rfl) ?_
     refine Op.px 1 [(45,vL c5 (s.au.length) c6)] ?_
     have d7:=(fa.aa 0 rfl).aa 1 rfl
     refine Op.cl (some 46) 1 d7 (gB _ _ _ d7.sub O e9 ((cU y client u).au) _ hQ _ _ bj (by((try dsimp only)<;>((have:=ci.tree.1;omega)))) (by((try dsimp only)<;>(exact fun n hn=>(by have:=ci.tree.2 n hn;omega)))) (St.pt 1 d7)) ?_
     rintro _ hY _ nx hZ h2 ⟨nz,rfl,h3,c3,rfl⟩;subst hY;clear hZ
     refine Op.gt 12 ?_
     refine At.rp 10 6 [(48,vP J),(49,vI (cK y client u)),(50,vI i),(52,vP J)] ?_
     obtain⟨n0,n3,h6,oi,h7,h8,fg,fi,fj⟩:=a3
     obtain⟨fl,fp,rfl⟩:=fg.aj
     obtain⟨fr,n166,rfl⟩:=fi.aj
     obtain⟨ft,fv,rfl⟩:=fj.aj
     have h9:=(((((((((((((h2.aa 12 rfl).aa 12 rfl).aa 12 rfl).aa 12 rfl).aa 12 rfl).aa 12 rfl).aa 12 rfl).aa 12 rfl).aa 12 rfl).aa 12 rfl).aa 12 rfl).aa 12 rfl).aa 12 rfl).aa 13 rfl
     have ib:=St.un [h6,h7] h8 h9
     refine Op.s1 29 52 49 0 (vI (cK y client u)) 0 #[vI (cK y client u),vI x.aZ,vI x.At,vS x.ag.af,vL fl x.ag.Data.length fp,vI x.ag.ai,vI x.ag.aD,vI x.ag.Next,vI x.ag.aL,vL fr x.bP.length n166,vL ft x.aT.length fv] ib (fun _=>trivial) fun oj ih=>?_
     refine Op.px 2 [(54,vQ J 2)] ?_
     refine Op.s1 3 54 50 2 (vI i) 0 #[vI (cK y client u),vI x.aZ,vI i,vS x.ag.af,vL fl x.ag.Data.length fp,vI x.ag.ai,vI x.ag.aD,vI x.ag.Next,vI x.ag.aL,vL fr x.bP.length n166,vL ft x.aT.length fv] ih (fun _=>trivial) fun ol ii=>?_
     refine Op.gt 13 ?_
     have ik:=((((((((ii.aa 2 rfl).aa 2 rfl).aa 2 rfl).aa 8 rfl).aa 8 rfl).aa 8 rfl).aa 8 rfl).aa 7 rfl).aa 8 rfl
     obtain⟨il,io,ip⟩:=St.bJ (Q:=cu d6 D (⟨(if mU s.au=true then s.au else ((cU y client u).au)),(cU y client u).aN,(cU y client u).book,(cU y client u).aA,(cU y client u).count,(cU y client u).events,(cU y client u).aR⟩:Sp)) 6 ik ⟨_,_,_,_,_,_,_,_,_,_,rfl,h3,hS,hT,hV,hW⟩
     have is:=(((ip.aa 0 rfl).aa 3 rfl).aa 3 rfl).aa 3 rfl
     obtain⟨iv,i0,i1⟩:=St.bJ (Q:=fW d6 J (⟨cK y client u,x.aZ,i,⟨x.ag.af,x.ag.Data,x.ag.ai,x.ag.aD,x.ag.Next,x.ag.aL⟩,x.bP,x.aT⟩:Result)) 3 is ⟨_,_,_,_,_,rfl,fg,fi,fj⟩
     refine At.rt (.tuple #[]) ?_
     have i2:=((((((((i1.aa 0 rfl).aa 1 rfl).aa 8 rfl).aa 8 rfl).aa 8 rfl).aa 8 rfl).aa 8 rfl).aa 8 rfl).aa 8 rfl
     exact hR i2.drop.drop.drop.drop.drop.drop.drop ⟨il,iv,rfl,io.eq (by exact(Sd hI h0 X ‹_›).symm),i0.eq (by exact(Se hI h0 X ‹_›).symm),rfl⟩
    have fw:∀(m:Nat) (d8:GH) (ce:aM d6 d8) (G:an) (d9:ax) (hm:0<m) (hnm:G=if u.Kind=3 then (bS y client u).af else []) (I:St h g (aV [a6,ab]) d8 [[(e8,Obj.cells #[vS (cY y client u),.func (.func f109) a0 a1] 212 (0,0))],[(dj,Obj.cells #[vS G,vL df (((bS y client u).Data).length) dg,vI ((bS y client u).ai),vI ((bS y client u).aD),vI ((bS y client u).Next),vI ((bS y client u).aL)] 39 (0,0))],e7,e6,[(e4,Obj.cells #[vI u.Kind,vS u.af,vL da u.Data.length db,vI u.ai,vI u.aF,.bool u.aY,.bool u.aI,.bool u.ak,vL dc u.az.length dd] 25 (0,0))],bc,a9,[(b4,Obj.cells #[vI o.Kind,vS o.af,vL bt o.Data.length b3,vI o.ai,vI o.aF,.bool o.aY,.bool o.aI,.bool o.ak,vL (some ⟨d4,c9,none⟩) o.az.length am] 25 (0,0))],ab] d9),At (bX prog B 127 f127 R) [] 17 [(0,vP D),(1,vI client),(3,vP J),(8,vL c5 (s.au.length) c6),(9,vL a8 cs.length a4),(10,vL ad ns.length ae),(13,vP dj),(14,vP e8),(24,vL (some ⟨d4,c9,none⟩) o.az.length am),(25,vI (o.az.length:Int)),(26,vI i)] d9:=by
     intro m;induction m with
     |zero=>intros;omega
     |succ m or=>
      intro d8 ce G d9 hm hnm I
      replace U:=U.mono ce
      replace V:=V.mono ce
      replace cb:=cb.mono ce
      replace bk:=bk.mono ce
      refine At.tree (by kernel_rfl) (aV [e7,e6,bc,a9,ab]) (.mv 0 true (.mv 4 true (.mv 5 true (.mv 1 true (.mv 6 true (.gQ 2 7 (.gQ 3 7 (.mv 7 false (.mv 8 false (.mv 9 true (.mv 10 true .j9)))) (.mv 3 false (.mv 8 false (.mv 9 true (.mv 10 true .j9))))) (.mv 2 false (.mv 3 false (.mv 8 false (.mv 9 true (.mv 10 true .j9))))))))))) (by kernel_rfl) ?_
      refine Op.px 3 [(59,vL a8 cs.length a4),(63,vL ad ns.length ae),(64,vP dj)] ?_
      refine Op.iU (T:=212) (x:=14) (o:=0) (d:=60) (n:=2) (vs:=[vS (cY y client u),.func (.func f109) a0 a1]) (by kernel_rfl) (by kernel_rfl) (by kernel_rfl) (fun h=>(bz h).elim (I.apart 0 2 rfl rfl rfl) (fun h=>(bz h).elim (I.apart 0 3 rfl rfl rfl) (fun h=>(bz h).elim (I.apart 0 5 rfl rfl rfl) (fun h=>(bz h).elim (I.apart 0 6 rfl rfl rfl) (fun h=>(bz h).elim (I.apart 0 8 rfl rfl rfl) (fun h=>absurd h (dB _))))))) (I.ah 0 rfl) (by kernel_rfl) rfl ?_
      refine Op.lf 9 64 0 65 1 (vS G) (fun h=>(bz h).elim (I.apart 1 2 rfl rfl rfl) (fun h=>(bz h).elim (I.apart 1 3 rfl rfl rfl) (fun h=>(bz h).elim (I.apart 1 5 rfl rfl rfl) (fun h=>(bz h).elim (I.apart 1 6 rfl rfl rfl) (fun h=>(bz h).elim (I.apart 1 8 rfl rfl rfl) (fun h=>absurd h (dB _))))))) (I.ah 1 rfl) ?_
      refine Op.fk ?_ ?_
      ·refine Op.ls 61 1 212 #[vS (cY y client u),.func (.func f109) a0 a1] I fun o3 o4 ed=>?_
       refine Op.fk ?_ ?_
       ·refine Op.ap 59 61 268 268 62 212 24 yd (ys:=[(⟨cY y client u,(j3 u),D⟩:iW)]) U ed 7 (⟨_,_,rfl,(.inr ⟨_,_,_,cb,rfl⟩),Reads.nil⟩) (by(have:=fO o;simp only[bY,dU];omega)) (fun p hq _=>⟨p,by simp[hq],rfl⟩) (eT.lit (m:=1) (sz:=2) (ed.ah 0 rfl) (news:=[vS (cY y client u),.func (.func f109) a0 a1]) rfl rfl (by simp[Value.oneCell']) _) fun pa pb pc fx i3 pd=>?_
        obtain⟨i4,n197,rfl⟩:=fx.aj
        have i5:=(i3.aa 0 rfl).drop
        refine Op.ls 66 1 9 #[vS G] i5 fun pf ph f0=>?_
        refine Op.ap 63 66 40 40 67 9 16 eU (ys:=[G]) V f0 6 (⟨_,_,rfl,rfl,Reads.nil⟩) (by(have:=fO o;simp only[bY,dU];omega)) (fun p hq _=>⟨p,by simp[hq],rfl⟩) (eT.lit (m:=1) (sz:=1) (f0.ah 0 rfl) (news:=[vS G]) rfl rfl (by simp[Value.oneCell']) _) fun pj pl pm f1 i6 po=>?_
        obtain⟨i7,i8,rfl⟩:=f1.aj
        have i9:=(i6.aa 0 rfl).drop
        refine Op.pg 18 [(9,vL i4 ((cs++([(⟨cY y client u,(j3 u),D⟩:iW)])).length) n197),(10,vL i7 ((ns++([G])).length) i8)] ?_
        refine At.rg 2 ?_
        refine Op.cE 68 (i+1) (by omega) (by(have:=fO o;omega)) ?_
        refine Op.pg 5 [(26,vI (i+1))] ?_
        have jf:=((((((i9.aa 2 rfl).aa 6 rfl).aa 6 rfl).aa 6 rfl).aa 6 rfl).aa 6 rfl).aa 6 rfl
        have jj:=jf.drop.drop.drop.drop
        exact At.ke (d3 _ (aM.trans aw (by repeat (first|assumption|apply aM.trans))) (cU y client u) (cs++([(⟨cY y client u,(j3 u),D⟩:iW)])) (ns++([G])) (i+1) _ _ _ _ _ _ _ _ (by omega) (by omega) (by omega) (by(rw[hnm];exact Fc hI h0 X ‹_›)) (by exact a5.qi _ _) (by(simp only[cA,bY,dU];omega)) (by(simp only[cA,bY,dU];omega)) (by exact Fg b5 _ _) (by exact Fh b6 (by have:=Cv a5 (c:=client) u;have:=ie (cj X);have:=fO u;omega) _) fx f1 bk jj)
       refine Op.ls 66 1 9 #[vS G] ed fun pu pv f2=>?_
       refine Op.ap 59 61 268 268 62 212 24 yd (ys:=[(⟨cY y client u,(j3 u),D⟩:iW)]) U f2 8 (⟨_,_,rfl,(.inr ⟨_,_,_,cb,rfl⟩),Reads.nil⟩) (by(have:=fO o;simp only[bY,dU];omega)) (fun p hq _=>⟨p,by simp[hq],rfl⟩) (eT.lit (m:=1) (sz:=2) (f2.ah 1 rfl) (news:=[vS (cY y client u),.func (.func f109) a0 a1]) rfl rfl (by simp[Value.oneCell']) _) fun pw py pA f3 jn pB=>?_
       obtain⟨a222,jt,rfl⟩:=f3.aj
       have f4:=(jn.aa 1 rfl).drop
       refine Op.ap 63 66 40 40 67 9 16 eU (ys:=[G]) V f4 6 (⟨_,_,rfl,rfl,Reads.nil⟩) (by(have:=fO o;simp only[bY,dU];omega)) (fun p hq _=>⟨p,by simp[hq],rfl⟩) (eT.lit (m:=1) (sz:=1) (f4.ah 0 rfl) (news:=[vS G]) rfl rfl (by simp[Value.oneCell']) _) fun pC pD p0 f5 j1 p1=>?_
       obtain⟨j2,n232,rfl⟩:=f5.aj
       have kc:=(j1.aa 0 rfl).drop
       refine Op.pg 18 [(9,vL a222 ((cs++([(⟨cY y client u,(j3 u),D⟩:iW)])).length) jt),(10,vL j2 ((ns++([G])).length) n232)] ?_
       refine At.rg 2 ?_
       refine Op.cE 68 (i+1) (by omega) (by(have:=fO o;omega)) ?_
       refine Op.pg 5 [(26,vI (i+1))] ?_
       have kd:=((((((kc.aa 2 rfl).aa 6 rfl).aa 6 rfl).aa 6 rfl).aa 6 rfl).aa 6 rfl).aa 6 rfl
       have kh:=kd.drop.drop.drop.drop
       exact At.ke (d3 _ (aM.trans aw (by repeat (first|assumption|apply aM.trans))) (cU y client u) (cs++([(⟨cY y client u,(j3 u),D⟩:iW)])) (ns++([G])) (i+1) _ _ _ _ _ _ _ _ (by omega) (by omega) (by omega) (by(rw[hnm];exact Fc hI h0 X ‹_›)) (by exact a5.qi _ _) (by(simp only[cA,bY,dU];omega)) (by(simp only[cA,bY,dU];omega)) (by exact Fg b5 _ _) (by exact Fh b6 (by have:=Cv a5 (c:=client) u;have:=ie (cj X);have:=fO u;omega) _) f3 f5 bk kh)
      refine Op.ls 66 1 9 #[vS G] I fun p2 p3 kk=>?_
      refine Op.ls 61 1 212 #[vS (cY y client u),.func (.func f109) a0 a1] kk fun p8 qr f6=>?_
      refine Op.ap 59 61 268 268 62 212 24 yd (ys:=[(⟨cY y client u,(j3 u),D⟩:iW)]) U f6 8 (⟨_,_,rfl,(.inr ⟨_,_,_,cb,rfl⟩),Reads.nil⟩) (by(have:=fO o;simp only[bY,dU];omega)) (fun p hq _=>⟨p,by simp[hq],rfl⟩) (eT.lit (m:=1) (sz:=2) (f6.ah 0 rfl) (news:=[vS (cY y client u),.func (.func f109) a0 a1]) rfl rfl (by simp[Value.oneCell']) _) fun q0 q1 q2 f7 kl q3=>?_
      obtain⟨km,kv,rfl⟩:=f7.aj
      have f8:=(kl.aa 0 rfl).drop
      refine Op.ap 63 66 40 40 67 9 16 eU (ys:=[G]) V f8 6 (⟨_,_,rfl,rfl,Reads.nil⟩) (by(have:=fO o;simp only[bY,dU];omega)) (fun p hq _=>⟨p,by simp[hq],rfl⟩) (eT.lit (m:=1) (sz:=1) (f8.ah 0 rfl) (news:=[vS G]) rfl rfl (by simp[Value.oneCell']) _) fun q4 q5 q6 f9 kw ra=>?_
      obtain⟨kx,n258,rfl⟩:=f9.aj
      have kA:=(kw.aa 0 rfl).drop
      refine Op.pg 18 [(9,vL km ((cs++([(⟨cY y client u,(j3 u),D⟩:iW)])).length) kv),(10,vL kx ((ns++([G])).length) n258)] ?_
      refine At.rg 2 ?_
      refine Op.cE 68 (i+1) (by omega) (by(have:=fO o;omega)) ?_
      refine Op.pg 5 [(26,vI (i+1))] ?_
      have k0:=((((((kA.aa 2 rfl).aa 6 rfl).aa 6 rfl).aa 6 rfl).aa 6 rfl).aa 6 rfl).aa 6 rfl
      have k1:=k0.drop.drop.drop.drop
      exact At.ke (d3 _ (aM.trans aw (by repeat (first|assumption|apply aM.trans))) (cU y client u) (cs++([(⟨cY y client u,(j3 u),D⟩:iW)])) (ns++([G])) (i+1) _ _ _ _ _ _ _ _ (by omega) (by omega) (by omega) (by(rw[hnm];exact Fc hI h0 X ‹_›)) (by exact a5.qi _ _) (by(simp only[cA,bY,dU];omega)) (by(simp only[cA,bY,dU];omega)) (by exact Fg b5 _ _) (by exact Fh b6 (by have:=Cv a5 (c:=client) u;have:=ie (cj X);have:=fO u;omega) _) f7 f9 bk k1)
    refine At.rp 3 1 [(55,vP e4)] ?_
    refine Op.l1 3 55 56 0 (vI u.Kind) (dk.ah 4 rfl) ?_
    refine Op.pg 15 [(57,.bool (u.Kind != 3))] ?_
    refine At.fn (u.Kind=3) 57 16 17 (fun rb=>?_) fun rc=>?_
    ·refine At.rp 2 1 [(58,vP dj)] ?_
     refine Op.s1 9 58 (.const (vS [])) 0 (vS []) 1 #[vS [],vL df (((bS y client u).Data).length) dg,vI ((bS y client u).ai),vI ((bS y client u).aD),vI ((bS y client u).Next),vI ((bS y client u).aL)] dk (fun _=>trivial) fun rd k2=>?_
     exact Op.gt 17 (At.ke (fw _ _ (by repeat (first|assumption|exact aM.refl _|apply aM.trans)) [] _ (bM _) (by exact(aC ‹_›).symm) k2))
    exact At.ke (fw _ _ (by repeat (first|assumption|exact aM.refl _|apply aM.trans)) ((bS y client u).af) _ (bM _) (by exact(aO ‹_›).symm) dk)
   refine At.rp 5 4 [(70,vL ad ns.length ae),(72,vQ J 9)] ?_
   obtain⟨re,rf,ee,rh,ef,k3,dl,k4,dp⟩:=a3
   obtain⟨eh,n276,rfl⟩:=dl.aj
   obtain⟨rk,rn,rfl⟩:=k4.aj
   obtain⟨ej,em,rfl⟩:=dp.aj
   have k5:=((((c8.aa 3 rfl).aa 3 rfl).aa 3 rfl).aa 3 rfl).aa 4 rfl
   have k6:=St.un [ee,ef] k3 k5
   refine Op.s1 40 72 70 9 (vL ad ns.length ae) 0 #[vI x.Code,vI x.aZ,vI x.At,vS x.ag.af,vL eh x.ag.Data.length n276,vI x.ag.ai,vI x.ag.aD,vI x.ag.Next,vI x.ag.aL,vL ad ns.length ae,vL ej x.aT.length em] k6 (fun _=>trivial) fun rr k7=>?_
   refine Op.gt 20 ?_
   refine At.go 21 3 [(73,vL a8 cs.length a4),(74,vI (cs.length:Int)),(75,vI 0)] ?_
   have k8:∀(m:Nat) (cf:GH) (bd:aM a7 cf) (z:Sp) (q:Int) (ch:ay) (en:ax) (hm:cs.length-q.toNat<m) (h4:0≤q) (h5:q≤cs.length) (gc:eg z) (hz:z=(cs.take q.toNat).foldl oE y) (ep:cu cf D z ch) (dq:St h g (aV [a6,ab]) cf [[(J,Obj.cells #[vI x.Code,vI x.aZ,vI x.At,vS x.ag.af,vL eh x.ag.Data.length n276,vI x.ag.ai,vI x.ag.aD,vI x.ag.Next,vI x.ag.aL,vL ad ns.length ae,vL ej x.aT.length em] 43 (0,0))],ee,ef,bc,a9,ch,[(b4,Obj.cells #[vI o.Kind,vS o.af,vL bt o.Data.length b3,vI o.ai,vI o.aF,.bool o.aY,.bool o.aI,.bool o.ak,vL bi o.az.length am] 25 (0,0))]] en),At (bX prog B 127 f127 R) [] 21 [(73,vL a8 cs.length a4),(74,vI (cs.length:Int)),(75,vI q)] en:=by
    intro m;induction m with
    |zero=>intros;omega
    |succ m lc=>
     intro cf bd z q ch en hm h4 h5 gc hz ep dq
     replace dl:=dl.mono bd
     replace dp:=dp.mono bd
     replace U:=U.mono bd
     replace V:=V.mono bd
     replace O:=O.mono bd
     refine At.go 22 1 [(76,.bool (decide (q<(cs.length:Int))))] ?_
     refine At.fd (q<(cs.length:Int)) 76 23 26 (fun rv=>?_) fun rx=>?_
     ·refine At.rg 4 ?_
      obtain⟨Y,du⟩:=cG cs q
      obtain⟨lh,ge,r0,r1,li,lj,er⟩:=jX.bF (U.toH dq 4 rfl) _ du
      cases li
      refine Op.iq 268 212 2 24 cs.length a4 73 75 77 lh ge q ?_
      have gg:Y.ff≠0∧Y.bF=D:=by exact b5 Y (cj du)
      obtain⟨f303,bm,bo,et,er⟩:=Sa gg.1 er
      rw[gg.2] at et
      refine Op.la 212 77 78 (ge+q.toNat*2) 2 [vS Y.eX,.func (.func f303) bm bo] lj ?_ (hv:=er)
      refine Op.al 17 212 #[vS [],.nilFunc] dq fun ex r2 lk=>?_
      refine Op.sg 212 17 78 0 0 #[vS Y.eX,.func (.func f303) bm bo] lk (fun _=>trivial) fun r3 eA=>?_
      refine Op.gt 24 ?_
      refine At.rp 5 1 [(79,vQ ex 1)] ?_
      refine Op.l1 206 79 80 1 (.func (.func f303) bm bo) (eA.ah 0 rfl) ?_
      refine Op.px 1 [(81,vP ex)] ?_
      refine Op.l1 9 81 82 0 (vS Y.eX) (eA.ah 0 rfl) ?_
      have eB:=((((((eA.aa 5 rfl).aa 5 rfl).aa 5 rfl).aa 5 rfl).aa 5 rfl).aa 5 rfl).aa 6 rfl
      refine Op.cv (some 83) 80 #[82] #[9] f303 bm bo [ch] [[(ex,Obj.cells #[vS Y.eX,.func (.func f303) bm bo] 212 (0,0))],[(J,Obj.cells #[vI x.Code,vI x.aZ,vI x.At,vS x.ag.af,vL eh x.ag.Data.length n276,vI x.ag.ai,vI x.ag.aD,vI x.ag.Next,vI x.ag.aL,vL ad ns.length ae,vL ej x.aT.length em] 43 (0,0))],ee,ef,bc,a9,[(b4,Obj.cells #[vI o.Kind,vS o.af,vL bt o.Data.length b3,vI o.ai,vI o.aF,.bool o.aY,.bool o.aI,.bool o.ak,vL bi o.az.length am] 25 (0,0))]] (bm++(#[vS Y.eX]:Array Value)++bo) et.KH (KI (by kernel_rfl)) eB (KJ _ _ _ eB.sub O (hc:=et) D z _ ep Y.eX (by(try dsimp only)<;>omega) (by((try dsimp only)<;>(exact b6 _ (cj du)))) (St.pt 1 eB)) (fun _ _ _=>trivial) ?_
      rintro _ sc _ sd sf ll ⟨sh,rfl,lm,rfl⟩
      refine Op.gt 25 ?_
      refine At.rg 2 ?_
      refine Op.cE 84 (q+1) (by omega) (by(have:=fO o;omega)) ?_
      refine Op.pg 21 [(75,vI (q+1))] ?_
      have ln:=((((((ll.aa 0 rfl).aa 6 rfl).aa 6 rfl).aa 6 rfl).aa 6 rfl).aa 6 rfl).aa 6 rfl
      have lr:=ln.drop
      exact At.ke (lc _ (aM.trans bd (by repeat (first|assumption|apply aM.trans))) (lz z Y.ff Y.eX) (q+1) _ _ (by omega) (by omega) (by omega) (by exact gc.vw _ _) (by exact Sj hz h4 du) lm lr)
     have lv:=(((dq.aa 1 rfl).aa 2 rfl).aa 3 rfl).aa 3 rfl
     obtain⟨lw,lx,ly⟩:=St.bJ (Q:=fW cf J (⟨x.Code,x.aZ,x.At,⟨x.ag.af,x.ag.Data,x.ag.ai,x.ag.aD,x.ag.Next,x.ag.aL⟩,ns,x.aT⟩:Result)) 3 lv ⟨_,_,_,_,_,rfl,dl,V,dp⟩
     refine At.rt (.tuple #[]) ?_
     have lA:=((((ly.aa 0 rfl).aa 3 rfl).aa 4 rfl).aa 4 rfl).aa 4 rfl
     exact hR lA.drop.drop.drop ⟨ch,lw,rfl,ep.eq (by exact Sg hI h0 h1 ‹_› hz ‹_›),lx.eq (by exact Sh hI h0 h1 ‹_›),rfl⟩
   exact At.ke (k8 _ _ (aM.refl _) y 0 _ _ (bM _) (by omega) (by omega) (by exact a5) (by rfl) d2 k7)
 have lL:=aJ.zero 212 yd c4 none
 have lO:=hu.nl
 have l0:=aJ.zero 9 eU c4 none
 have l2:=lO.nl
 exact At.ke (hw _ _ (aM.refl _) s [] [] 0 _ _ _ _ _ _ _ _ (bM _) (by omega) (by omega) (by exact Sc) (by exact ci) (by(have:=fO o;simp only[bY,dU];omega)) (by(have:=fO o;simp only[bY,dU];omega)) (by exact fun c h=>absurd h (by simp)) (by exact fun c h=>absurd h (by simp)) lL l0 hr l2)
def touchS (s:Sp) (c:Int):Sp:={s with book:=touchB s.book c s.aA}
def kD (s:Sp) (c:Int) (o:aG):Sp:=if cK s c o=0 then lz (cU s c o) (j3 o) (cY s c o) else cU s c o
def tE (s:Sp) (c:Int) (o:aG) (x:Result):Result:=if cK s c o=0 then {x with Code:=cK s c o,ag:=bS s c o} else {x with Code:=cK s c o}
def kM (o:aG):Bool:=decide (o.Kind=3)||(decide (o.Kind=4)||decide (o.Kind=5))
def ov (o:aG):Bool:=decide (o.Kind=6)||decide (o.Kind=7)
def lC (s:Sp) (c:Int) (o:aG):Sp:=if o.Kind=2 then jc s [c] else if kM o=true then kD s c o else if ov o=true then kC s c o else if o.Kind=8 then nH s c o else s
def mY (s:Sp) (c:Int) (o:aG) (x:Result):Result:=if o.Kind=2 then x else if kM o=true then tE s c o x else if ov o=true then mj s c o x else if o.Kind=8 then qj s c o x else x
def cF (s:Sp) (c:Int) (b:aQ):Sp:=
  if (aU b).2≠0 then s else if (aU b).1.Kind=1 then {s with book:=lB s.book c (aU b).1.aF s.aA}
  else if touchE s.book c s.aA≠0 then touchS s c else lC (touchS s c) c (aU b).1
def cR (s:Sp) (c:Int) (b:aQ) (x:Result):Result:=
  if (aU b).2≠0 then {x with Code:=(aU b).2} else if (aU b).1.Kind=1 then {x with Code:=k9 s.book c (aU b).1.aF s.aA}
  else if touchE s.book c s.aA≠0 then {x with Code:=touchE s.book c s.aA} else mY (touchS s c) c (aU b).1 {x with Code:=touchE s.book c s.aA}
theorem eg.touch1 {s:Sp} (H:eg s) {c:Int}:eg (touchS s c):=⟨H.tree,H.wl,H.ws,H.book.touch,H.quo⟩
section
variable {s:Sp} {c:Int} {b:aQ} {x:Result} {ka:Bool}
theorem KS (h:¬(aU b).2=0):s=cF s c b∧{x with Code:=(aU b).2}=cR s c b x:=⟨by unfold cF;rw[aO h],by unfold cR;rw[aO h]⟩
theorem KT (h:(aU b).2=0) (hk:(aU b).1.Kind=1):{s with book:=lB s.book c (aU b).1.aF s.aA}=cF s c b∧{x with Code:=k9 s.book c (aU b).1.aF s.aA}=cR s c b x:=
  ⟨by unfold cF;rw[aC (by simpa using h),aO hk],by unfold cR;rw[aC (by simpa using h),aO hk]⟩
theorem KU (h:(aU b).2=0) (hk:¬(aU b).1.Kind=1) (ht:¬touchE s.book c s.aA=0):touchS s c=cF s c b∧{x with Code:=touchE s.book c s.aA}=cR s c b x:=
  ⟨by unfold cF;rw[aC (by simpa using h),aC hk,aO ht],by unfold cR;rw[aC (by simpa using h),aC hk,aO ht]⟩
theorem ye (h:(aU b).2=0) (hk:¬(aU b).1.Kind=1) (ht:touchE s.book c s.aA=0):lC (touchS s c) c (aU b).1=cF s c b∧mY (touchS s c) c (aU b).1 {x with Code:=touchE s.book c s.aA}=cR s c b x:=
  ⟨by unfold cF;rw[aC (by simpa using h),aC hk,aC (by simpa using ht)],by unfold cR;rw[aC (by simpa using h),aC hk,aC (by simpa using ht)]⟩
theorem KV (h:(aU b).2=0) (hk:¬(aU b).1.Kind=1) (ht:touchE s.book c s.aA=0) (k2:(aU b).1.Kind=2):jc (touchS s c) [c]=cF s c b∧{x with Code:=touchE s.book c s.aA}=cR s c b x:=by
  obtain⟨h1,h2⟩:=ye (x:=x) h hk ht
  rw[←h1,←h2]
  exact⟨by unfold lC;rw[aO k2],by unfold mY;rw[aO k2]⟩
theorem KW (h:(aU b).2=0) (hk:¬(aU b).1.Kind=1) (ht:touchE s.book c s.aA=0) (k2:¬(aU b).1.Kind=2) (hA:ka=kM (aU b).1) (u:ka=true) (he:cK (touchS s c) c (aU b).1=0):
    lz (cU (touchS s c) c (aU b).1) (j3 (aU b).1) (cY (touchS s c) c (aU b).1)=cF s c b∧{x with Code:=cK (touchS s c) c (aU b).1,ag:=bS (touchS s c) c (aU b).1}=cR s c b x:=by
  obtain⟨h1,h2⟩:=ye (x:=x) h hk ht
  rw[←h1,←h2]
  have hA:kM (aU b).1=true:=by rw[←hA];exact u
  exact⟨by unfold lC kD;rw[aC k2,aO hA,aO he],by unfold mY tE;rw[aC k2,aO hA,aO he]⟩
theorem KX (h:(aU b).2=0) (hk:¬(aU b).1.Kind=1) (ht:touchE s.book c s.aA=0) (k2:¬(aU b).1.Kind=2) (hA:ka=kM (aU b).1) (u:ka=true) (he:¬cK (touchS s c) c (aU b).1=0):
    cU (touchS s c) c (aU b).1=cF s c b∧{x with Code:=cK (touchS s c) c (aU b).1}=cR s c b x:=by
  obtain⟨h1,h2⟩:=ye (x:=x) h hk ht
  rw[←h1,←h2]
  have hA:kM (aU b).1=true:=by rw[←hA];exact u
  exact⟨by unfold lC kD;rw[aC k2,aO hA,aC he],by unfold mY tE;rw[aC k2,aO hA,aC he]⟩
theorem KY {u:Bool} (h:(aU b).2=0) (hk:¬(aU b).1.Kind=1) (ht:touchE s.book c s.aA=0) (k2:¬(aU b).1.Kind=2) (hA:ka=kM (aU b).1) (D:ka=false) (hL:u=ov (aU b).1) (G:u=true):
    kC (touchS s c) c (aU b).1=cF s c b∧mj (touchS s c) c (aU b).1 {x with Code:=touchE s.book c s.aA}=cR s c b x:=by
  obtain⟨h1,h2⟩:=ye (x:=x) h hk ht
  rw[←h1,←h2]
  have hA:¬kM (aU b).1=true:=by rw[←hA,D];decide
  have hL:ov (aU b).1=true:=by rw[←hL];exact G
  exact⟨by unfold lC;rw[aC k2,aC hA,aO hL],by unfold mY;rw[aC k2,aC hA,aO hL]⟩
theorem KZ {u:Bool} (h:(aU b).2=0) (hk:¬(aU b).1.Kind=1) (ht:touchE s.book c s.aA=0) (k2:¬(aU b).1.Kind=2) (hA:ka=kM (aU b).1) (G:ka=false) (hL:u=ov (aU b).1) (I:u=false) (D:(aU b).1.Kind=8):
    nH (touchS s c) c (aU b).1=cF s c b∧qj (touchS s c) c (aU b).1 {x with Code:=touchE s.book c s.aA}=cR s c b x:=by
  obtain⟨h1,h2⟩:=ye (x:=x) h hk ht
  rw[←h1,←h2]
  have hA:¬kM (aU b).1=true:=by rw[←hA,G];decide
  have hL:¬ov (aU b).1=true:=by rw[←hL,I];decide
  exact⟨by unfold lC;rw[aC k2,aC hA,aC hL,aO D],by unfold mY;rw[aC k2,aC hA,aC hL,aO D]⟩
theorem K0 {u:Bool} (h:(aU b).2=0) (hk:¬(aU b).1.Kind=1) (ht:touchE s.book c s.aA=0) (k2:¬(aU b).1.Kind=2) (hA:ka=kM (aU b).1) (G:ka=false) (hL:u=ov (aU b).1) (I:u=false) (D:¬(aU b).1.Kind=8):
    touchS s c=cF s c b∧{x with Code:=touchE s.book c s.aA}=cR s c b x:=by
  obtain⟨h1,h2⟩:=ye (x:=x) h hk ht
  rw[←h1,←h2]
  have hA:¬kM (aU b).1=true:=by rw[←hA,G];decide
  have hL:¬ov (aU b).1=true:=by rw[←hL,I];decide
  exact⟨by unfold lC;rw[aC k2,aC hA,aC hL,aC D],by unfold mY;rw[aC k2,aC hA,aC hL,aC D]⟩
theorem Sm {o:aG} (h:o.Kind=3):true=kM o:=by unfold kM;rw[eu h];rfl
theorem Sn {o:aG} (h:o.Kind=4):true=kM o:=by unfold kM;rw[eu h];simp
theorem Sq {o:aG} (h3:¬o.Kind=3) (h4:¬o.Kind=4):decide (o.Kind=5)=kM o:=by unfold kM;rw[gb h3,gb h4];rfl
theorem Sr {o:aG} (h:o.Kind=6):true=ov o:=by unfold ov;rw[eu h];rfl
theorem Ss {o:aG} (h3:¬o.Kind=6):decide (o.Kind=7)=ov o:=by unfold ov;rw[gb h3];rfl
theorem Az (b:aQ):cq (aU b).1≤1000000:=by
  unfold aU
  split
  · rw[Ao];decide
  · split
    · rw[Ao];decide
    · rename_i h1 h2
      simp only[qt] at h2
      have hr:dr false (a_ false b).1=true:=by simpa using h2.2
      have ho:=(pz hr).2.2.2.1
      have he:(a_ false b).2=true:=by simpa using h2.1
      unfold a_ at ho he ⊢
      repeat' split at he
      · rename_i h3 h4
        rw[aO h3,aO h4] at ho ⊢
        refine bQ (EN _ _) ?_
        have h5:c7 (((bg b).1.drop 3).map fun x=>(jQ x).1)≤131073*(((bg b).1.drop 3).map fun x=>(jQ x).1).length:=EO fun x hx=>by
          obtain⟨y,_,rfl⟩:=de.1 hx
          exact Jt y
        have h6:(((bg b).1.drop 3).map fun x=>(jQ x).1).length≤4:=ho
        have:131073*(((bg b).1.drop 3).map fun x=>(jQ x).1).length≤131073*4:=xA _ h6
        omega
      · cases he
      · cases he
end
def vA (s:Sp):Sp:=jc {s with book:=ia (fA s.aA) s.book} (gq (fA s.aA) s.book)
def dI (s:Sp) (t:Int):Sp:=vA {s with aA:=max s.aA (min t 1099511627775)}
def gh (s:Sp) (c:Int):jA:=(bV s.aR c).getD ⟨0,[]⟩
def iL (e:bN):Bool:=decide (0≤e.Client)&&(decide (e.Client<8)&&(decide (1≤e.bn)&&decide (e.bn<1099511627776)))
def cB (s:Sp):Sp:={s with count:=s.count+1}
def gV (s:Sp) (c:Int) (b:aQ):Result:={cR (cB s) c b ⟨0,s.count+1,0,eD,[],[]⟩ with aT:=cV (cF (cB s) c b).events c}
def lY (s:Sp) (e:bN) (b:aQ):Sp:={cF (cB s) e.Client b with events:=eF (cF (cB s) e.Client b).events e.Client,aR:=dJ (cF (cB s) e.Client b).aR e.Client ⟨e.bn,(cL (gV s e.Client b)).1⟩}
def bD (s:Sp) (e:bN) (b:aQ):Sp:=
  if iL e=true∧(gh (dI s e.aX) e.Client).cW<e.bn then lY (dI s e.aX) e b else dI s e.aX
def bh (s:Sp) (e:bN) (b:aQ):aQ:=
  if iL e=true then (if (gh (dI s e.aX) e.Client).cW<e.bn then (cL (gV (dI s e.aX) e.Client b)).1 else if e.bn=(gh (dI s e.aX) e.Client).cW then (gh (dI s e.aX) e.Client).data else []) else []
def dQ (s:Sp) (e:bN):Bool:=iL e&&decide ((gh (dI s e.aX) e.Client).cW<e.bn)
set_option maxHeartbeats 4000000 in
theorem Su (B:World) (h:ax) (g:GH) (hg:bl g h) (O:bq g) (D:Nat) (s:Sp) (a3:ay) (bk:cu g D s a3) (client:Int) (dT:Value) (b:an) (d0:av g 5 br dT b) (u:Nat) (x:Result) (a6:ay) (bm:fW g u x a6) (hP:lZ g) (a7:eg s) (hl:b.length≤1000000000) (hs:St h g (aV [a3,a6]) g [a3,a6] h):
  aE prog B 78 #[vP D,vI client,dT,vP u] h g [a3,a6] (fun ex g' L'=>∃d1 d2,ex=.tuple #[]∧cu g' D (cF s client b) d1∧fW g' u (cR s client b x) d2∧L'=[d1,d2]):=by
 obtain⟨eA,eB,rfl⟩:=d0.aj
 refine aE.aq func78 fun R hR=>?_
 refine At.rp 8 1 [(14,vL eA b.length eB)] ?_
 refine Op.c0 (some 15) (P7 _ _ _ hs.sub O _ _ d0 (by(try dsimp only)<;>omega)) hs ?_
 rintro _ J _ ly bt eE ⟨lA,lL,rfl,b3,b4,rfl⟩
 obtain⟨Y,ab,rfl⟩:=b3.aj
 obtain⟨a28,ad,rfl⟩:=b4.aj
 replace O:=O.mono bt
 replace hP:=hP.mono bt
 replace bk:=bk.mono bt
 replace bm:=bm.mono bt
 refine Op.px 3 [(16,.agg #[vI (((aU b).1).Kind),vS (((aU b).1).af),vL Y ((((aU b).1).Data).length) ab,vI (((aU b).1).ai),vI (((aU b).1).aF),.bool (((aU b).1).aY),.bool (((aU b).1).aI),.bool (((aU b).1).ak),vL a28 ((((aU b).1).az).length) ad]),(17,vI ((aU b).2))] ?_
 refine Op.al 8 25 #[vI 0,vS [],vN,vI 0,vI 0,.bool false,.bool false,.bool false,vN] eE fun ae lO eI=>?_
 refine Op.sg 25 8 16 0 0 #[vI (((aU b).1).Kind),vS (((aU b).1).af),vL Y ((((aU b).1).Data).length) ab,vI (((aU b).1).ai),vI (((aU b).1).aF),.bool (((aU b).1).aY),.bool (((aU b).1).aI),.bool (((aU b).1).ak),vL a28 ((((aU b).1).az).length) ad] eI (fun _=>trivial) fun l0 b5=>?_
 refine Op.pg 1 [(9,vI ((aU b).2))] ?_
 refine At.go 2 3 [(18,.bool (((aU b).2) != 0))] ?_
 refine At.fn (((aU b).2)=0) 18 3 5 (fun l2=>?_) fun l3=>?_
 ·refine At.rp 5 4 [(22,vI ((aU b).2)),(24,vP u)] ?_
  obtain⟨l4,l8,eJ,ma,eK,eL,d3,d4,d5⟩:=bm
  obtain⟨eQ,e1,rfl⟩:=d3.aj
  obtain⟨e2,e3,rfl⟩:=d4.aj
  obtain⟨e4,e5,rfl⟩:=d5.aj
  have e6:=((b5.aa 1 rfl).aa 1 rfl).aa 2 rfl
  have e7:=St.un [eJ,eK] eL e6
  refine Op.s1 29 24 22 0 (vI ((aU b).2)) 0 #[vI ((aU b).2),vI x.aZ,vI x.At,vS x.ag.af,vL eQ x.ag.Data.length e1,vI x.ag.ai,vI x.ag.aD,vI x.ag.Next,vI x.ag.aL,vL e2 x.bP.length e3,vL e4 x.aT.length e5] e7 (fun _=>trivial) fun md e8=>?_
  refine Op.gt 4 ?_
  obtain⟨e9,fa,fg⟩:=St.bJ (Q:=fW J u (⟨(aU b).2,x.aZ,x.At,⟨x.ag.af,x.ag.Data,x.ag.ai,x.ag.aD,x.ag.Next,x.ag.aL⟩,x.bP,x.aT⟩:Result)) 3 e8 ⟨_,_,_,_,_,rfl,d3,d4,d5⟩
  refine At.rt (.tuple #[]) ?_
  have fi:=((fg.aa 0 rfl).aa 2 rfl).aa 2 rfl
  exact hR fi.drop ⟨a3,e9,rfl,bk.eq (by exact(KS (x:=x) ‹_›).1),fa.eq (by exact(KS (x:=x) ‹_›).2),rfl⟩
 refine At.rp 4 1 [(26,vP ae)] ?_
 refine Op.l1 3 26 27 0 (vI (((aU b).1).Kind)) (b5.ah 0 rfl) ?_
 refine Op.pg 6 [(25,.bool ((((aU b).1).Kind)==1))] ?_
 refine At.fd ((((aU b).1).Kind)=1) 25 7 9 (fun mf=>?_) fun mi=>?_
 ·obtain⟨ml,fj,mp,fl,d6,fp,mx,fr,my,ft,fv,fw,fx,f0,f1,f2⟩:=bk
  have f3:=(b5.aa 0 rfl).aa 1 rfl
  have f4:=St.un [fj,fl,fp,fr,ft] fv f3
  obtain⟨m0,m1,f5,m2,f6,f7,d7,d8,d9⟩:=bm
  obtain⟨f8,f9,rfl⟩:=d7.aj
  obtain⟨gc,ge,rfl⟩:=d8.aj
  obtain⟨gg,gk,rfl⟩:=d9.aj
  have gn:=(((((((f4.aa 6 rfl).aa 6 rfl).aa 6 rfl).aa 6 rfl).aa 6 rfl).aa 6 rfl).aa 6 rfl).aa 7 rfl
  have b6:=St.un [f5,f6] f7 gn
  refine At.dw (fun _=>False) [(0,true),(1,true),(2,true),(3,true),(5,true),(6,true),(8,true),(9,true),(10,true),(4,true),(7,true),(11,false),(1012,false),(12,false),(13,true),(14,true),(15,false)] ?_
  refine Op.px 9 [(29,vP u),(32,vQ D 2),(34,vI client),(35,vQ ae 4),(39,vQ D 3)] ?_
  refine Op.lf 133 32 2 33 1 (vP d6) (fun h=>h) (b6.ah 3 rfl) ?_
  refine Op.lf 3 35 4 36 1 (vI (((aU b).1).aF)) (fun h=>h) (b6.ah 9 rfl) ?_
  refine Op.l1 3 39 40 3 (vI s.aA) (b6.ah 3 rfl) ?_
  refine Op.ba ?_
  have co:=((((((b6.aa 5 rfl).aa 5 rfl).aa 5 rfl).aa 5 rfl).aa 5 rfl).aa 5 rfl).aa 6 rfl
  refine Op.cl (some 41) 1 co (Pt _ _ _ co.sub O d6 s.book _ f0 client (((aU b).1).aF) s.aA (St.pt 1 co)) ?_
  rintro _ gs _ m3 g1 g2 ⟨m4,rfl,g3,g4,rfl⟩;subst gs;clear g1
  refine Op.px 2 [(43,vP u)] ?_
  refine Op.s1 29 43 41 0 (vI (k9 s.book client ((aU b).1).aF s.aA)) 1 #[vI (k9 s.book client ((aU b).1).aF s.aA),vI x.aZ,vI x.At,vS x.ag.af,vL f8 x.ag.Data.length f9,vI x.ag.ai,vI x.ag.aD,vI x.ag.Next,vI x.ag.aL,vL gc x.bP.length ge,vL gg x.aT.length gk] g2 (fun _=>trivial) fun m5 g5=>?_
  refine Op.gt 4 ?_
  have g6:=((((((((g5.aa 3 rfl).aa 3 rfl).aa 3 rfl).aa 8 rfl).aa 8 rfl).aa 5 rfl).aa 8 rfl).aa 8 rfl).aa 8 rfl
  obtain⟨g7,g8,g9⟩:=St.bJ (Q:=cu J D (⟨s.au,s.aN,(lB s.book client ((aU b).1).aF s.aA),s.aA,s.count,s.events,s.aR⟩:Sp)) 6 g6 ⟨_,_,_,_,_,_,_,_,_,_,rfl,fw,fx,g3,f1,f2⟩
  have he:=(((g9.aa 0 rfl).aa 3 rfl).aa 3 rfl).aa 3 rfl
  obtain⟨hf,hh,hj⟩:=St.bJ (Q:=fW J u (⟨k9 s.book client ((aU b).1).aF s.aA,x.aZ,x.At,⟨x.ag.af,x.ag.Data,x.ag.ai,x.ag.aD,x.ag.Next,x.ag.aL⟩,x.bP,x.aT⟩:Result)) 3 he ⟨_,_,_,_,_,rfl,d7,d8,d9⟩
  refine At.rt (.tuple #[]) ?_
  have hn:=((hj.aa 0 rfl).aa 1 rfl).aa 2 rfl
  exact hR hn.drop ⟨g7,hf,rfl,g8.eq (by exact(KT (x:=x) ‹_› ‹_›).1),hh.eq (by exact(KT (x:=x) ‹_› ‹_›).2),rfl⟩
 obtain⟨ed,c3,ee,c4,b8,ho,ef,c5,eh,c6,hp,am,ar,hq,aw,a0⟩:=bk
 have hr:=(b5.aa 0 rfl).aa 1 rfl
 have hu:=St.un [c3,c4,ho,c5,c6] hp hr
 obtain⟨m6,m7,ca,v138,cb,hw,U,G,I⟩:=bm
 obtain⟨ce,cf,rfl⟩:=U.aj
 obtain⟨a146,a8,rfl⟩:=G.aj
 obtain⟨a148,a9,rfl⟩:=I.aj
 have hx:=(((((((hu.aa 6 rfl).aa 6 rfl).aa 6 rfl).aa 6 rfl).aa 6 rfl).aa 6 rfl).aa 6 rfl).aa 7 rfl
 have c8:=St.un [ca,cb] hw hx
 refine At.dw (fun _=>False) [(0,true),(1,true),(2,true),(3,true),(5,true),(6,true),(7,true),(8,true),(4,true),(9,false),(1010,false),(10,false),(11,true),(12,true),(13,false)] ?_
 refine Op.px 8 [(44,vP u),(47,vQ D 2),(49,vI client),(52,vQ D 3)] ?_
 refine Op.lf 133 47 2 48 1 (vP b8) (fun h=>h) (c8.ah 3 rfl) ?_
 refine Op.l1 3 52 53 3 (vI s.aA) (c8.ah 3 rfl) ?_
 refine Op.ba ?_
 have c9:=((((((c8.aa 5 rfl).aa 5 rfl).aa 5 rfl).aa 5 rfl).aa 5 rfl).aa 5 rfl).aa 6 rfl
 refine Op.cl (some 54) 1 c9 (touchF _ _ _ c9.sub O b8 s.book _ hq client s.aA (St.pt 1 c9)) ?_
 rintro _ hy _ m8 hz hA ⟨ej,rfl,a1,g4,rfl⟩;subst hy;clear hz
 refine Op.px 2 [(56,vP u)] ?_
 refine Op.s1 29 56 54 0 (vI (touchE s.book client s.aA)) 1 #[vI (touchE s.book client s.aA),vI x.aZ,vI x.At,vS x.ag.af,vL ce x.ag.Data.length cf,vI x.ag.ai,vI x.ag.aD,vI x.ag.Next,vI x.ag.aL,vL a146 x.bP.length a8,vL a148 x.aT.length a9] hA (fun _=>trivial) fun m9 a4=>?_
 refine Op.gt 10 ?_
 refine At.rp 5 3 [(59,vP u)] ?_
 refine Op.l1 29 59 60 0 (vI (touchE s.book client s.aA)) (a4.ah 1 rfl) ?_
 refine Op.pg 11 [(61,.bool ((touchE s.book client s.aA) != 0))] ?_
 refine At.fn ((touchE s.book client s.aA)=0) 61 12 13 (fun na=>?_) fun nb=>?_
 ·have hB:=((((((((a4.aa 3 rfl).aa 3 rfl).aa 3 rfl).aa 8 rfl).aa 8 rfl).aa 5 rfl).aa 8 rfl).aa 8 rfl).aa 8 rfl
  obtain⟨hC,hD,hE⟩:=St.bJ (Q:=cu J D (⟨s.au,s.aN,(touchB s.book client s.aA),s.aA,s.count,s.events,s.aR⟩:Sp)) 6 hB ⟨_,_,_,_,_,_,_,_,_,_,rfl,am,ar,a1,aw,a0⟩
  have hF:=(((hE.aa 0 rfl).aa 3 rfl).aa 3 rfl).aa 3 rfl
  obtain⟨hG,hH,hI⟩:=St.bJ (Q:=fW J u (⟨touchE s.book client s.aA,x.aZ,x.At,⟨x.ag.af,x.ag.Data,x.ag.ai,x.ag.aD,x.ag.Next,x.ag.aL⟩,x.bP,x.aT⟩:Result)) 3 hF ⟨_,_,_,_,_,rfl,U,G,I⟩
  refine At.rt (.tuple #[]) ?_
  have hJ:=((hI.aa 0 rfl).aa 1 rfl).aa 2 rfl
  exact hR hJ.drop ⟨hC,hG,rfl,hD.eq (by exact(KU (x:=x) ‹_› ‹_› ‹_›).1),hH.eq (by exact(KU (x:=x) ‹_› ‹_› ‹_›).2),rfl⟩
 refine At.rp 2 1 [(62,vP ae)] ?_
 refine Op.l1 3 62 63 0 (vI (((aU b).1).Kind)) (a4.ah 9 rfl) ?_
 refine Op.gt 14 ?_
 refine At.go 15 2 [(64,.bool ((((aU b).1).Kind)==2))] ?_
 refine At.fd ((((aU b).1).Kind)=2) 64 16 17 (fun nd=>?_) fun nf=>?_
 ·refine At.rp 4 2 [(66,vP D),(67,vI client)] ?_
  refine Op.ls 68 1 3 #[vI client] a4 fun em nm hK=>?_
  have hL:aJ 3 (fh .i64) J (vL (some ⟨em,0,none⟩) 1 1) [client] [(em,Obj.cells #[vI client] 3 (0,0))]:=aJ.lit (by kernel_rfl) (by unfold maxLen;decide) (by kernel_rfl) ⟨_,_,rfl,rfl,Reads.nil⟩
  obtain⟨hN,hO,X,hQ⟩:=aJ.freeze hL (hK.aa 0 rfl)
  replace am:=am.mono X
  replace ar:=ar.mono X
  replace aw:=aw.mono X
  replace a0:=a0.mono X
  replace U:=U.mono X
  replace G:=G.mono X
  replace I:=I.mono X
  replace O:=O.mono X
  replace a1:=a1.mono X
  have hS:=((((((((hO.aa 3 rfl).aa 3 rfl).aa 3 rfl).aa 8 rfl).aa 8 rfl).aa 5 rfl).aa 8 rfl).aa 8 rfl).aa 8 rfl
  obtain⟨nn,hT,da⟩:=St.bJ (Q:=cu hN D (⟨s.au,s.aN,(touchB s.book client s.aA),s.aA,s.count,s.events,s.aR⟩:Sp)) 6 hS ⟨_,_,_,_,_,_,_,_,_,_,rfl,am,ar,a1,aw,a0⟩
  refine Op.cl (some 69) 1 da (KG _ _ _ da.sub O D (⟨s.au,s.aN,(touchB s.book client s.aA),s.aA,s.count,s.events,s.aR⟩:Sp) _ hT _ _ hQ (by(try dsimp only)<;>exact a7.touch1) (by((try dsimp only)<;>((simp;done)))) (St.pt 1 da)) ?_
  rintro _ hV _ no db hW ⟨hX,rfl,hY,rfl⟩
  replace U:=U.mono db
  replace G:=G.mono db
  replace I:=I.mono db
  refine Op.gt 37 ?_
  have hZ:=(((hW.aa 0 rfl).aa 3 rfl).aa 3 rfl).aa 3 rfl
  obtain⟨h1,h2,h3⟩:=St.bJ (Q:=fW hV u (⟨touchE s.book client s.aA,x.aZ,x.At,⟨x.ag.af,x.ag.Data,x.ag.ai,x.ag.aD,x.ag.Next,x.ag.aL⟩,x.bP,x.aT⟩:Result)) 3 hZ ⟨_,_,_,_,_,rfl,U,G,I⟩
  refine At.rt (.tuple #[]) ?_
  have h4:=((h3.aa 0 rfl).aa 1 rfl).aa 2 rfl
  exact hR h4.drop ⟨hX,h1,rfl,hY.eq (by exact(KV (x:=x) ‹_› ‹_› ‹_› ‹_›).1),h2.eq (by exact(KV (x:=x) ‹_› ‹_› ‹_› ‹_›).2),rfl⟩
 have dc:∀(m:Nat) (ka:Bool) (dd:ax) (hm:0<m) (V:ka=kM (aU b).1) (bo:St h g (aV [a3,a6]) J [ej,[(u,Obj.cells #[vI (touchE s.book client s.aA),vI x.aZ,vI x.At,vS x.ag.af,vL ce x.ag.Data.length cf,vI x.ag.ai,vI x.ag.aD,vI x.ag.Next,vI x.ag.aL,vL a146 x.bP.length a8,vL a148 x.aT.length a9] 43 (0,0))],ca,cb,[(D,Obj.cells #[vP ed,vP ee,vP b8,vI s.aA,vI s.count,.map (some ef),.map (some eh)] 138 (0,0))],c3,c4,c5,c6,[(ae,Obj.cells #[vI (((aU b).1).Kind),vS (((aU b).1).af),vL Y ((((aU b).1).Data).length) ab,vI (((aU b).1).ai),vI (((aU b).1).aF),.bool (((aU b).1).aY),.bool (((aU b).1).aI),.bool (((aU b).1).ak),vL a28 ((((aU b).1).az).length) ad] 25 (0,0))]] dd),At (bX prog B 78 f78 R) [] 22 [(0,vP D),(1,vI client),(3,vP u),(8,vP ae),(63,vI (((aU b).1).Kind)),(70,.bool ka)] dd:=by
  intro m;induction m with
  |zero=>intros;omega
  |succ m np=>
   intro ka dd hm V bo
   refine At.di ka 70 23 29 (fun nu=>?_) fun nx=>?_
   ·refine At.rp 13 2 [(75,vP D),(76,vI client)] ?_
    refine Op.la 25 8 77 0 9 [vI (((aU b).1).Kind),vS (((aU b).1).af),vL Y ((((aU b).1).Data).length) ab,vI (((aU b).1).ai),vI (((aU b).1).aF),.bool (((aU b).1).aY),.bool (((aU b).1).aI),.bool (((aU b).1).ak),vL a28 ((((aU b).1).az).length) ad] (bo.ah 9 rfl) ?_
    have h5:=((((((((bo.aa 3 rfl).aa 3 rfl).aa 3 rfl).aa 8 rfl).aa 8 rfl).aa 5 rfl).aa 8 rfl).aa 8 rfl).aa 8 rfl
    obtain⟨nz,h6,df⟩:=St.bJ (Q:=cu J D (⟨s.au,s.aN,(touchB s.book client s.aA),s.aA,s.count,s.events,s.aR⟩:Sp)) 6 h5 ⟨_,_,_,_,_,_,_,_,_,_,rfl,am,ar,a1,aw,a0⟩
    refine Op.cl (some 78) 1 df (KM _ _ _ df.sub O D (⟨s.au,s.aN,(touchB s.book client s.aA),s.aA,s.count,s.events,s.aR⟩:Sp) _ h6 client ((aU b).1) _ b3 _ b4 hP (by(try dsimp only)<;>exact a7.touch1) (by((try dsimp only)<;>((have:=Az b;have:=fO (aU b).1;omega)))) (by((try dsimp only)<;>((have:=Az b;have:=fO (aU b).1;omega)))) (St.pt 1 df)) ?_
    rintro _ h7 _ n0 ch h8 ⟨n3,h9,oi,f213,bc,bd,en,rfl,ci,rfl,ep,er,rfl⟩
    obtain⟨be,bi,rfl⟩:=ci.aj
    replace U:=U.mono ch
    replace G:=G.mono ch
    replace I:=I.mono ch
    replace O:=O.mono ch
    refine Op.px 4 [(79,.agg #[vS ((bS (⟨s.au,s.aN,(touchB s.book client s.aA),s.aA,s.count,s.events,s.aR⟩:Sp) client ((aU b).1)).af),vL be (((bS (⟨s.au,s.aN,(touchB s.book client s.aA),s.aA,s.count,s.events,s.aR⟩:Sp) client ((aU b).1)).Data).length) bi,vI ((bS (⟨s.au,s.aN,(touchB s.book client s.aA),s.aA,s.count,s.events,s.aR⟩:Sp) client ((aU b).1)).ai),vI ((bS (⟨s.au,s.aN,(touchB s.book client s.aA),s.aA,s.count,s.events,s.aR⟩:Sp) client ((aU b).1)).aD),vI ((bS (⟨s.au,s.aN,(touchB s.book client s.aA),s.aA,s.count,s.events,s.aR⟩:Sp) client ((aU b).1)).Next),vI ((bS (⟨s.au,s.aN,(touchB s.book client s.aA),s.aA,s.count,s.events,s.aR⟩:Sp) client ((aU b).1)).aL)]),(80,.agg #[vS (cY (⟨s.au,s.aN,(touchB s.book client s.aA),s.aA,s.count,s.events,s.aR⟩:Sp) client ((aU b).1)),.func (.func f213) bc bd]),(81,vI (cK (⟨s.au,s.aN,(touchB s.book client s.aA),s.aA,s.count,s.events,s.aR⟩:Sp) client ((aU b).1)))] ?_
    refine Op.al 10 39 #[vS [],vN,vI 0,vI 0,vI 0,vI 0] h8 fun ib oj ih=>?_
    refine Op.al 11 212 #[vS [],.nilFunc] ih fun dg ol ii=>?_
    refine Op.sg 39 10 79 0 1 #[vS ((bS (⟨s.au,s.aN,(touchB s.book client s.aA),s.aA,s.count,s.events,s.aR⟩:Sp) client ((aU b).1)).af),vL be (((bS (⟨s.au,s.aN,(touchB s.book client s.aA),s.aA,s.count,s.events,s.aR⟩:Sp) client ((aU b).1)).Data).length) bi,vI ((bS (⟨s.au,s.aN,(touchB s.book client s.aA),s.aA,s.count,s.events,s.aR⟩:Sp) client ((aU b).1)).ai),vI ((bS (⟨s.au,s.aN,(touchB s.book client s.aA),s.aA,s.count,s.events,s.aR⟩:Sp) client ((aU b).1)).aD),vI ((bS (⟨s.au,s.aN,(touchB s.book client s.aA),s.aA,s.count,s.events,s.aR⟩:Sp) client ((aU b).1)).Next),vI ((bS (⟨s.au,s.aN,(touchB s.book client s.aA),s.aA,s.count,s.events,s.aR⟩:Sp) client ((aU b).1)).aL)] ii (fun _=>trivial) fun or ik=>?_
    refine Op.sg 212 11 80 0 0 #[vS (cY (⟨s.au,s.aN,(touchB s.book client s.aA),s.aA,s.count,s.events,s.aR⟩:Sp) client ((aU b).1)),.func (.func f213) bc bd] ik (fun _=>trivial) fun o3 il=>?_
    refine Op.pg 24 [(12,vI (cK (⟨s.au,s.aN,(touchB s.book client s.aA),s.aA,s.count,s.events,s.aR⟩:Sp) client ((aU b).1)))] ?_
    refine At.rp 5 4 [(83,vI (cK (⟨s.au,s.aN,(touchB s.book client s.aA),s.aA,s.count,s.events,s.aR⟩:Sp) client ((aU b).1))),(85,vP u)] ?_
    refine Op.s1 29 85 83 0 (vI (cK (⟨s.au,s.aN,(touchB s.book client s.aA),s.aA,s.count,s.events,s.aR⟩:Sp) client ((aU b).1))) 4 #[vI (cK (⟨s.au,s.aN,(touchB s.book client s.aA),s.aA,s.count,s.events,s.aR⟩:Sp) client ((aU b).1)),vI x.aZ,vI x.At,vS x.ag.af,vL ce x.ag.Data.length cf,vI x.ag.ai,vI x.ag.aD,vI x.ag.Next,vI x.ag.aL,vL a146 x.bP.length a8,vL a148 x.aT.length a9] il (fun _=>trivial) fun o4 dj=>?_
    refine Op.gt 25 ?_
    refine At.go 26 2 [(87,.bool ((cK (⟨s.au,s.aN,(touchB s.book client s.aA),s.aA,s.count,s.events,s.aR⟩:Sp) client ((aU b).1))==0))] ?_
    refine At.fd ((cK (⟨s.au,s.aN,(touchB s.book client s.aA),s.aA,s.count,s.events,s.aR⟩:Sp) client ((aU b).1))=0) 87 27 37 (fun pa=>?_) fun pb=>?_
    ·refine At.rp 5 1 [(88,vP u)] ?_
     refine Op.la 39 10 89 0 6 [vS ((bS (⟨s.au,s.aN,(touchB s.book client s.aA),s.aA,s.count,s.events,s.aR⟩:Sp) client ((aU b).1)).af),vL be (((bS (⟨s.au,s.aN,(touchB s.book client s.aA),s.aA,s.count,s.events,s.aR⟩:Sp) client ((aU b).1)).Data).length) bi,vI ((bS (⟨s.au,s.aN,(touchB s.book client s.aA),s.aA,s.count,s.events,s.aR⟩:Sp) client ((aU b).1)).ai),vI ((bS (⟨s.au,s.aN,(touchB s.book client s.aA),s.aA,s.count,s.events,s.aR⟩:Sp) client ((aU b).1)).aD),vI ((bS (⟨s.au,s.aN,(touchB s.book client s.aA),s.aA,s.count,s.events,s.aR⟩:Sp) client ((aU b).1)).Next),vI ((bS (⟨s.au,s.aN,(touchB s.book client s.aA),s.aA,s.count,s.events,s.aR⟩:Sp) client ((aU b).1)).aL)] (dj.ah 1 rfl) ?_
     refine Op.px 2 [(91,vQ u 3)] ?_
     refine Op.sg 39 91 89 3 4 #[vI (cK (⟨s.au,s.aN,(touchB s.book client s.aA),s.aA,s.count,s.events,s.aR⟩:Sp) client ((aU b).1)),vI x.aZ,vI x.At,vS ((bS (⟨s.au,s.aN,(touchB s.book client s.aA),s.aA,s.count,s.events,s.aR⟩:Sp) client ((aU b).1)).af),vL be (((bS (⟨s.au,s.aN,(touchB s.book client s.aA),s.aA,s.count,s.events,s.aR⟩:Sp) client ((aU b).1)).Data).length) bi,vI ((bS (⟨s.au,s.aN,(touchB s.book client s.aA),s.aA,s.count,s.events,s.aR⟩:Sp) client ((aU b).1)).ai),vI ((bS (⟨s.au,s.aN,(touchB s.book client s.aA),s.aA,s.count,s.events,s.aR⟩:Sp) client ((aU b).1)).aD),vI ((bS (⟨s.au,s.aN,(touchB s.book client s.aA),s.aA,s.count,s.events,s.aR⟩:Sp) client ((aU b).1)).Next),vI ((bS (⟨s.au,s.aN,(touchB s.book client s.aA),s.aA,s.count,s.events,s.aR⟩:Sp) client ((aU b).1)).aL),vL a146 x.bP.length a8,vL a148 x.aT.length a9] dj (fun _=>trivial) fun pc dk=>?_
     refine Op.gt 28 ?_
     refine At.rp 5 1 [(92,vQ dg 1)] ?_
     refine Op.l1 206 92 93 1 (.func (.func f213) bc bd) (dk.ah 0 rfl) ?_
     refine Op.px 1 [(94,vP dg)] ?_
     refine Op.l1 9 94 95 0 (vS (cY (⟨s.au,s.aN,(touchB s.book client s.aA),s.aA,s.count,s.events,s.aR⟩:Sp) client ((aU b).1))) (dk.ah 0 rfl) ?_
     have dl:=((dk.aa 1 rfl).aa 1 rfl).aa 2 rfl
     refine Op.cv (some 96) 93 #[95] #[9] f213 bc bd [en] [[(dg,Obj.cells #[vS (cY (⟨s.au,s.aN,(touchB s.book client s.aA),s.aA,s.count,s.events,s.aR⟩:Sp) client ((aU b).1)),.func (.func f213) bc bd] 212 (0,0))],[(ib,Obj.cells #[vS ((bS (⟨s.au,s.aN,(touchB s.book client s.aA),s.aA,s.count,s.events,s.aR⟩:Sp) client ((aU b).1)).af),vL be (((bS (⟨s.au,s.aN,(touchB s.book client s.aA),s.aA,s.count,s.events,s.aR⟩:Sp) client ((aU b).1)).Data).length) bi,vI ((bS (⟨s.au,s.aN,(touchB s.book client s.aA),s.aA,s.count,s.events,s.aR⟩:Sp) client ((aU b).1)).ai),vI ((bS (⟨s.au,s.aN,(touchB s.book client s.aA),s.aA,s.count,s.events,s.aR⟩:Sp) client ((aU b).1)).aD),vI ((bS (⟨s.au,s.aN,(touchB s.book client s.aA),s.aA,s.count,s.events,s.aR⟩:Sp) client ((aU b).1)).Next),vI ((bS (⟨s.au,s.aN,(touchB s.book client s.aA),s.aA,s.count,s.events,s.aR⟩:Sp) client ((aU b).1)).aL)] 39 (0,0))],h9,[(u,Obj.cells #[vI (cK (⟨s.au,s.aN,(touchB s.book client s.aA),s.aA,s.count,s.events,s.aR⟩:Sp) client ((aU b).1)),vI x.aZ,vI x.At,vS ((bS (⟨s.au,s.aN,(touchB s.book client s.aA),s.aA,s.count,s.events,s.aR⟩:Sp) client ((aU b).1)).af),vL be (((bS (⟨s.au,s.aN,(touchB s.book client s.aA),s.aA,s.count,s.events,s.aR⟩:Sp) client ((aU b).1)).Data).length) bi,vI ((bS (⟨s.au,s.aN,(touchB s.book client s.aA),s.aA,s.count,s.events,s.aR⟩:Sp) client ((aU b).1)).ai),vI ((bS (⟨s.au,s.aN,(touchB s.book client s.aA),s.aA,s.count,s.events,s.aR⟩:Sp) client ((aU b).1)).aD),vI ((bS (⟨s.au,s.aN,(touchB s.book client s.aA),s.aA,s.count,s.events,s.aR⟩:Sp) client ((aU b).1)).Next),vI ((bS (⟨s.au,s.aN,(touchB s.book client s.aA),s.aA,s.count,s.events,s.aR⟩:Sp) client ((aU b).1)).aL),vL a146 x.bP.length a8,vL a148 x.aT.length a9] 43 (0,0))],ca,cb,[(ae,Obj.cells #[vI (((aU b).1).Kind),vS (((aU b).1).af),vL Y ((((aU b).1).Data).length) ab,vI (((aU b).1).ai),vI (((aU b).1).aF),.bool (((aU b).1).aY),.bool (((aU b).1).aI),.bool (((aU b).1).ak),vL a28 ((((aU b).1).az).length) ad] 25 (0,0))]] (bc++(#[vS (cY (⟨s.au,s.aN,(touchB s.book client s.aA),s.aA,s.count,s.events,s.aR⟩:Sp) client ((aU b).1))]:Array Value)++bd) ep.KH (KI (by kernel_rfl)) dl (KJ _ _ _ dl.sub O (hc:=ep) D (cU (⟨s.au,s.aN,(touchB s.book client s.aA),s.aA,s.count,s.events,s.aR⟩:Sp) client ((aU b).1)) _ er (cY (⟨s.au,s.aN,(touchB s.book client s.aA),s.aA,s.count,s.events,s.aR⟩:Sp) client ((aU b).1)) (by(try dsimp only)<;>exact a7.touch1.qi _ _) (by((try dsimp only)<;>(exact bQ (Cv (a7.touch1 (c:=client)) (c:=client) (aU b).1) (by have:=Az b;have:=fO (aU b).1;omega)))) (St.pt 1 dl)) (fun _ _ _=>trivial) ?_
     rintro _ pd _ pf dp io ⟨ip,rfl,dq,rfl⟩
     replace G:=G.mono dp
     replace I:=I.mono dp
     replace ci:=ci.mono dp
     refine Op.gt 37 ?_
     obtain⟨is,iv,du,i0⟩:=aJ.freeze ci (io.aa 3 rfl)
     replace G:=G.mono du
     replace I:=I.mono du
     replace dq:=dq.mono du
     have i1:=(((((iv.aa 2 rfl).aa 2 rfl).aa 2 rfl).aa 5 rfl).aa 5 rfl).aa 5 rfl
     obtain⟨i2,i3,i4⟩:=St.bJ (Q:=fW is u (⟨cK (⟨s.au,s.aN,(touchB s.book client s.aA),s.aA,s.count,s.events,s.aR⟩:Sp) client ((aU b).1),x.aZ,x.At,⟨(bS (⟨s.au,s.aN,(touchB s.book client s.aA),s.aA,s.count,s.events,s.aR⟩:Sp) client ((aU b).1)).af,(bS (⟨s.au,s.aN,(touchB s.book client s.aA),s.aA,s.count,s.events,s.aR⟩:Sp) client ((aU b).1)).Data,(bS (⟨s.au,s.aN,(touchB s.book client s.aA),s.aA,s.count,s.events,s.aR⟩:Sp) client ((aU b).1)).ai,(bS (⟨s.au,s.aN,(touchB s.book client s.aA),s.aA,s.count,s.events,s.aR⟩:Sp) client ((aU b).1)).aD,(bS (⟨s.au,s.aN,(touchB s.book client s.aA),s.aA,s.count,s.events,s.aR⟩:Sp) client ((aU b).1)).Next,(bS (⟨s.au,s.aN,(touchB s.book client s.aA),s.aA,s.count,s.events,s.aR⟩:Sp) client ((aU b).1)).aL⟩,x.bP,x.aT⟩:Result)) 3 i1 ⟨_,_,_,_,_,rfl,i0,G,I⟩
     refine At.rt (.tuple #[]) ?_
     have i5:=((((i4.aa 0 rfl).aa 1 rfl).aa 4 rfl).aa 4 rfl).aa 4 rfl
     exact hR i5.drop.drop.drop ⟨ip,i2,rfl,dq.eq (by exact(KW (x:=x) ‹_› ‹_› ‹_› ‹_› V ‹_› ‹_›).1),i3.eq (by exact(KW (x:=x) ‹_› ‹_› ‹_› ‹_› V ‹_› ‹_›).2),rfl⟩
    have i6:=((((((dj.aa 3 rfl).aa 3 rfl).aa 3 rfl).aa 3 rfl).aa 6 rfl).aa 6 rfl).aa 6 rfl
    obtain⟨i7,i8,i9⟩:=St.bJ (Q:=fW h7 u (⟨cK (⟨s.au,s.aN,(touchB s.book client s.aA),s.aA,s.count,s.events,s.aR⟩:Sp) client ((aU b).1),x.aZ,x.At,⟨x.ag.af,x.ag.Data,x.ag.ai,x.ag.aD,x.ag.Next,x.ag.aL⟩,x.bP,x.aT⟩:Result)) 3 i6 ⟨_,_,_,_,_,rfl,U,G,I⟩
    refine At.rt (.tuple #[]) ?_
    have jf:=(((((i9.aa 0 rfl).aa 3 rfl).aa 5 rfl).aa 5 rfl).aa 5 rfl).aa 5 rfl
    exact hR jf.drop.drop.drop.drop ⟨en,i7,rfl,er.eq (by exact(KX (x:=x) ‹_› ‹_› ‹_› ‹_› V ‹_› ‹_›).1),i8.eq (by exact(KX (x:=x) ‹_› ‹_› ‹_› ‹_› V ‹_› ‹_›).2),rfl⟩
   have et:∀(m:Nat) (ck:Bool) (dv:ax) (hm:0<m) (a5:ck=ov (aU b).1) (bj:St h g (aV [a3,a6]) J [ej,[(u,Obj.cells #[vI (touchE s.book client s.aA),vI x.aZ,vI x.At,vS x.ag.af,vL ce x.ag.Data.length cf,vI x.ag.ai,vI x.ag.aD,vI x.ag.Next,vI x.ag.aL,vL a146 x.bP.length a8,vL a148 x.aT.length a9] 43 (0,0))],ca,cb,[(D,Obj.cells #[vP ed,vP ee,vP b8,vI s.aA,vI s.count,.map (some ef),.map (some eh)] 138 (0,0))],c3,c4,c5,c6,[(ae,Obj.cells #[vI (((aU b).1).Kind),vS (((aU b).1).af),vL Y ((((aU b).1).Data).length) ab,vI (((aU b).1).ai),vI (((aU b).1).aF),.bool (((aU b).1).aY),.bool (((aU b).1).aI),.bool (((aU b).1).ak),vL a28 ((((aU b).1).az).length) ad] 25 (0,0))]] dv),At (bX prog B 78 f78 R) [] 32 [(0,vP D),(1,vI client),(3,vP u),(8,vP ae),(63,vI (((aU b).1).Kind)),(97,.bool ck)] dv:=by
    intro m;induction m with
    |zero=>intros;omega
    |succ m ph=>
     intro ck dv hm a5 bj
     refine At.di ck 97 33 34 (fun pj=>?_) fun pl=>?_
     ·refine At.rp 5 2 [(100,vP D),(101,vI client)] ?_
      refine Op.la 25 8 102 0 9 [vI (((aU b).1).Kind),vS (((aU b).1).af),vL Y ((((aU b).1).Data).length) ab,vI (((aU b).1).ai),vI (((aU b).1).aF),.bool (((aU b).1).aY),.bool (((aU b).1).aI),.bool (((aU b).1).ak),vL a28 ((((aU b).1).az).length) ad] (bj.ah 9 rfl) ?_
      refine Op.px 1 [(103,vP u)] ?_
      have jj:=((((((((bj.aa 3 rfl).aa 3 rfl).aa 3 rfl).aa 8 rfl).aa 8 rfl).aa 5 rfl).aa 8 rfl).aa 8 rfl).aa 8 rfl
      obtain⟨pm,jn,jt⟩:=St.bJ (Q:=cu J D (⟨s.au,s.aN,(touchB s.book client s.aA),s.aA,s.count,s.events,s.aR⟩:Sp)) 6 jj ⟨_,_,_,_,_,_,_,_,_,_,rfl,am,ar,a1,aw,a0⟩
      have j1:=(((jt.aa 0 rfl).aa 3 rfl).aa 3 rfl).aa 3 rfl
      obtain⟨po,j2,kc⟩:=St.bJ (Q:=fW J u (⟨touchE s.book client s.aA,x.aZ,x.At,⟨x.ag.af,x.ag.Data,x.ag.ai,x.ag.aD,x.ag.Next,x.ag.aL⟩,x.bP,x.aT⟩:Result)) 3 j1 ⟨_,_,_,_,_,rfl,U,G,I⟩
      have dC:=(kc.aa 0 rfl).aa 1 rfl
      refine Op.cl (some 104) 2 dC (R9 _ _ _ dC.sub O D (⟨s.au,s.aN,(touchB s.book client s.aA),s.aA,s.count,s.events,s.aR⟩:Sp) _ jn client ((aU b).1) _ b3 _ b4 u (⟨touchE s.book client s.aA,x.aZ,x.At,⟨x.ag.af,x.ag.Data,x.ag.ai,x.ag.aD,x.ag.Next,x.ag.aL⟩,x.bP,x.aT⟩:Result) _ j2 (by(try dsimp only)<;>exact a7.touch1) (by((try dsimp only)<;>((have:=Az b;have:=fO (aU b).1;omega)))) (St.pt 2 dC)) ?_
      rintro _ pu _ pv pw kd ⟨kh,kk,rfl,kl,km,rfl⟩
      refine Op.gt 37 ?_
      refine At.rt (.tuple #[]) ?_
      have kv:=((kd.aa 1 rfl).aa 1 rfl).aa 2 rfl
      exact hR kv.drop ⟨kh,kk,rfl,kl.eq (by exact(KY (x:=x) ‹_› ‹_› ‹_› ‹_› V ‹_› a5 ‹_›).1),km.eq (by exact(KY (x:=x) ‹_› ‹_› ‹_› ‹_› V ‹_› a5 ‹_›).2),rfl⟩
     refine At.go 35 2 [(105,.bool ((((aU b).1).Kind)==8))] ?_
     refine At.fd ((((aU b).1).Kind)=8) 105 36 37 (fun py=>?_) fun pA=>?_
     ·refine At.rp 5 2 [(107,vP D),(108,vI client)] ?_
      refine Op.la 25 8 109 0 9 [vI (((aU b).1).Kind),vS (((aU b).1).af),vL Y ((((aU b).1).Data).length) ab,vI (((aU b).1).ai),vI (((aU b).1).aF),.bool (((aU b).1).aY),.bool (((aU b).1).aI),.bool (((aU b).1).ak),vL a28 ((((aU b).1).az).length) ad] (bj.ah 9 rfl) ?_
      refine Op.px 1 [(110,vP u)] ?_
      have kw:=((((((((bj.aa 3 rfl).aa 3 rfl).aa 3 rfl).aa 8 rfl).aa 8 rfl).aa 5 rfl).aa 8 rfl).aa 8 rfl).aa 8 rfl
      obtain⟨pB,kx,kA⟩:=St.bJ (Q:=cu J D (⟨s.au,s.aN,(touchB s.book client s.aA),s.aA,s.count,s.events,s.aR⟩:Sp)) 6 kw ⟨_,_,_,_,_,_,_,_,_,_,rfl,am,ar,a1,aw,a0⟩
      have k0:=(((kA.aa 0 rfl).aa 3 rfl).aa 3 rfl).aa 3 rfl
      obtain⟨pC,k1,k2⟩:=St.bJ (Q:=fW J u (⟨touchE s.book client s.aA,x.aZ,x.At,⟨x.ag.af,x.ag.Data,x.ag.ai,x.ag.aD,x.ag.Next,x.ag.aL⟩,x.bP,x.aT⟩:Result)) 3 k0 ⟨_,_,_,_,_,rfl,U,G,I⟩
      have dE:=(k2.aa 0 rfl).aa 1 rfl
      refine Op.cl (some 111) 2 dE (Sl _ _ _ dE.sub O D (⟨s.au,s.aN,(touchB s.book client s.aA),s.aA,s.count,s.events,s.aR⟩:Sp) _ kx client ((aU b).1) _ b3 _ b4 u (⟨touchE s.book client s.aA,x.aZ,x.At,⟨x.ag.af,x.ag.Data,x.ag.ai,x.ag.aD,x.ag.Next,x.ag.aL⟩,x.bP,x.aT⟩:Result) _ k1 hP (by(try dsimp only)<;>exact a7.touch1) (by((try dsimp only)<;>((have:=Az b;have:=fO (aU b).1;omega)))) (St.pt 2 dE)) ?_
      rintro _ pD _ p0 p1 k3 ⟨k4,k5,rfl,k6,k7,rfl⟩
      refine Op.gt 37 ?_
      refine At.rt (.tuple #[]) ?_
      have k8:=((k3.aa 1 rfl).aa 1 rfl).aa 2 rfl
      exact hR k8.drop ⟨k4,k5,rfl,k6.eq (by exact(KZ (x:=x) ‹_› ‹_› ‹_› ‹_› V ‹_› a5 ‹_› ‹_›).1),k7.eq (by exact(KZ (x:=x) ‹_› ‹_› ‹_› ‹_› V ‹_› a5 ‹_› ‹_›).2),rfl⟩
     have lc:=((((((((bj.aa 3 rfl).aa 3 rfl).aa 3 rfl).aa 8 rfl).aa 8 rfl).aa 5 rfl).aa 8 rfl).aa 8 rfl).aa 8 rfl
     obtain⟨lh,li,lj⟩:=St.bJ (Q:=cu J D (⟨s.au,s.aN,(touchB s.book client s.aA),s.aA,s.count,s.events,s.aR⟩:Sp)) 6 lc ⟨_,_,_,_,_,_,_,_,_,_,rfl,am,ar,a1,aw,a0⟩
     have lk:=(((lj.aa 0 rfl).aa 3 rfl).aa 3 rfl).aa 3 rfl
     obtain⟨ll,lm,ln⟩:=St.bJ (Q:=fW J u (⟨touchE s.book client s.aA,x.aZ,x.At,⟨x.ag.af,x.ag.Data,x.ag.ai,x.ag.aD,x.ag.Next,x.ag.aL⟩,x.bP,x.aT⟩:Result)) 3 lk ⟨_,_,_,_,_,rfl,U,G,I⟩
     refine At.rt (.tuple #[]) ?_
     have lr:=((ln.aa 0 rfl).aa 1 rfl).aa 2 rfl
     exact hR lr.drop ⟨lh,ll,rfl,li.eq (by exact(K0 (x:=x) ‹_› ‹_› ‹_› ‹_› V ‹_› a5 ‹_› ‹_›).1),lm.eq (by exact(K0 (x:=x) ‹_› ‹_› ‹_› ‹_› V ‹_› a5 ‹_› ‹_›).2),rfl⟩
   refine At.go 30 2 [(97,.bool ((((aU b).1).Kind)==6))] ?_
   refine At.fd ((((aU b).1).Kind)=6) 97 32 31 (fun lv=>?_) fun p2=>?_
   ·exact At.kT 97 lv (At.ke (et _ true _ (bM _) (by exact Sr ‹_›) bo))
   exact At.go 32 2 [(97,.bool ((((aU b).1).Kind)==7))] (At.ke (et _ ((((aU b).1).Kind)==7) _ (bM _) (by exact Ss ‹_›) bo))
 refine At.go 18 2 [(70,.bool ((((aU b).1).Kind)==3))] ?_
 refine At.fd ((((aU b).1).Kind)=3) 70 22 19 (fun lw=>?_) fun p3=>?_
 ·exact At.kT 70 lw (At.ke (dc _ true _ (bM _) (by exact Sm ‹_›) a4))
 refine At.go 20 2 [(70,.bool ((((aU b).1).Kind)==4))] ?_
 refine At.fd ((((aU b).1).Kind)=4) 70 22 21 (fun lx=>?_) fun p8=>?_
 ·exact At.kT 70 lx (At.ke (dc _ true _ (bM _) (by exact Sn ‹_›) a4))
 exact At.go 22 2 [(70,.bool ((((aU b).1).Kind)==5))] (At.ke (dc _ ((((aU b).1).Kind)==5) _ (bM _) (by exact Sq ‹_› ‹_›) a4))
set_option linter.unusedSectionVars false
structure ox (ws:List ak):Prop where
  sort:lT ws
  right:∀w∈ws,jD w=true
  rB:∀c,cnt c ws≤8
theorem Cw (c:Int) (w:ak) (ws:List ak):cnt c (w::ws)=(if w.Client=c then 1 else 0)+cnt c ws:=rfl
theorem K1 (c:Int) (q:ak→Bool):∀ws:List ak,cnt c (ws.filter q)≤cnt c ws
  |[]=>iE _
  |w::ws=>by
   have ih:=K1 c q ws
   rw[jK]
   split
   · rw[Cw,Cw];omega
   · rw[Cw];omega
theorem ox.nil:ox []:=⟨lT.nil,fun w h=>(by cases h),fun c=>by simp[cnt]⟩
theorem ox.filter {ws:List ak} (H:ox ws) (q:ak→Bool):ox (ws.filter q):=
  ⟨H.sort.filter q,fun w h=>H.right w (fB.1 h).1,fun c=>bQ (K1 c q ws) (H.rB c)⟩
theorem ox.add {ws:List ak} (H:ox ws) (w:ak):ox (nX ws w):=by
  rcases CO ws w with ⟨e,_⟩|⟨e,_,h1,h2,h3⟩
  · rw[e];exact H
  · rw[e]
    refine⟨KC H.sort (by simpa[mX] using h2),fun y hy=>?_,fun c=>?_⟩
    · rcases AY.1 hy with rfl|hy
      · exact h1
      · exact H.right y hy
    · rw[E9]
      by_cases hc:w.Client=c
      · subst hc;rw[aO rfl];omega
      · rw[aC hc];exact H.rB c
theorem Cx {w:ak} (h:jD w=true):w.af.length≤64∧0≤w.Client∧w.Client<8∧(w.Kind=1∨w.Kind=2):=by
  unfold jD at h
  simp only[b_,jh,cQ,j6] at h
  obtain⟨h1,h2,h3,h4⟩:=h
  have h5:=j0.1 h4
  unfold fF at h5
  simp only[b_,cQ] at h5
  exact⟨h5.2.1,h1,h2,h3⟩
theorem K2:∀(ws:List ak),(∀w∈ws,0≤w.Client∧w.Client<8)→ws.length=cnt 0 ws+cnt 1 ws+cnt 2 ws+cnt 3 ws+cnt 4 ws+cnt 5 ws+cnt 6 ws+cnt 7 ws
  |[],_=>by simp[cnt]
  |w::ws,h=>by
   have ih:=K2 ws fun v hv=>h v (by simp[hv])
   have hw:=h w (by simp)
   rw[bY,ih]
   simp only[Cw]
   have hc:w.Client=0∨w.Client=1∨w.Client=2∨w.Client=3∨w.Client=4∨w.Client=5∨w.Client=6∨w.Client=7:=by omega
   rcases hc with e|e|e|e|e|e|e|e<;>simp[e]<;>omega
theorem ox.len {ws:List ak} (H:ox ws):ws.length≤64:=by
  rw[K2 ws fun w hw=>(Cx (H.right w hw)).2.imp id (·.1)]
  have:=H.rB 0;have:=H.rB 1;have:=H.rB 2;have:=H.rB 3;have:=H.rB 4;have:=H.rB 5;have:=H.rB 6;have:=H.rB 7
  omega
structure mm (e:ja):Prop where
  sort:fJ e
  ne:∀p∈e,p.2≠[]
  own:∀p∈e,∀w∈p.2,w.Client=p.1∧jD w=true
section
variable {e:ja} {w:ak} {ws:List ak} {c:Int}
theorem mm.nil:mm []:=⟨List.Pairwise.nil,fun p h=>(by cases h),fun p h=>by cases h⟩
theorem mm.cV (H:mm e) (c:Int):∀w∈cV e c,w.Client=c∧jD w=true:=by
  unfold Sw.cV
  cases hf:bV e c with
  |none=>intro w h;cases h
  |some xs=>exact H.own (c,xs) ((jR H.sort).1 hf)
theorem mm.put (H:mm e) (h:jD w=true):mm (yb e w):=by
  unfold yb
  refine⟨Ai H.sort,fun p hp=>?_,fun p hp v hv=>?_⟩
  · rcases qR hp with rfl|hp
    · simp
    · exact H.ne p hp
  · rcases qR hp with rfl|hp
    · rcases dP.1 hv with hv|hv
      · exact H.cV w.Client v hv
      · rw[iw.1 hv];exact⟨rfl,h⟩
    · exact H.own p hp v hv
theorem mm.K3:∀(ws:List ak) {e:ja},mm e→(∀w∈ws,jD w=true)→mm (kz e ws)
  |[],_,H,_=>H
  |w::ws,_,H,h=>mm.K3 ws (H.put (h w (by simp))) fun v hv=>h v (by simp[hv])
theorem mm.oS (H:mm e) (c:Int):mm (eF e c):=
  ⟨oD mM H.sort,fun p hp=>H.ne p (fB.1 hp).1,fun p hp=>H.own p (fB.1 hp).1⟩
end
structure u6 (r:List (Int×jA)):Prop where
  sort:fJ r
  ok:∀p∈r,(0≤p.1∧p.1<8)∧(1≤p.2.cW∧p.2.cW<1099511627776)∧p.2.data.length≤65536
theorem u6.nil:u6 []:=⟨List.Pairwise.nil,fun p h=>by cases h⟩
theorem u6.put {r:List (Int×jA)} {c st:Int} {d:aQ} (H:u6 r) (h:(0≤c∧c<8)∧(1≤st∧st<1099511627776)∧d.length≤65536):u6 (dJ r c ⟨st,d⟩):=
  ⟨Ai H.sort,fun p hp=>by
    rcases qR hp with rfl|hp
    · exact h
    · exact H.ok p hp⟩
def mH (Q:Int→Int→Prop) (ns:List ag):Prop:=∀n∈ns,Q n.aD n.aL
def yf (cnt:Int) (o b:Int):Prop:=o<8∧b≤cnt
section
variable {Q:Int→Int→Prop} {ns:List ag} {l:ag} {p data:aQ} {cI born bO:Int} {num:Bool}
theorem mH.Fi (H:mH Q ns) (h:Q l.aD l.aL):mH Q (eO ns l):=fun n hn=>by
  rcases tu.1 hn with rfl|hn
  · exact h
  · exact H n hn.1
theorem mH.make (H:mH Q ns) (h:Q (max cI (-1)) (max born 0)):mH Q (cm ns p data cI born num).1:=by
  by_cases he:(cm ns p data cI born num).2.2=0
  · obtain⟨up,_,_,hf,_,_,_,_,e⟩:=Cl he
    rw[e]
    unfold oO
    refine mH.Fi (H.Fi ?_) h
    have:=H up (ki hf).1
    split<;>exact this
  · rw[(EW he).1];exact H
theorem mH.drop (H:mH Q ns):mH Q (f_ ns p bO).1:=by
  unfold f_
  repeat' split
  all_goals first|exact H|exact fun n hn=>H n (fB.1 hn).1
theorem mH.set (H:mH Q ns):mH Q (fe ns p data bO).1:=by
  unfold fe
  repeat' split
  all_goals first|exact H|skip
  rename_i l hf _ _
  exact H.Fi (H l (ki hf).1)
end
structure bK (k:Int) (s:Sp):Prop where
  tree:fq k s.au
  gf:ox s.aN
  book:gS s.book
  kr:∀p∈s.book,s.aA<p.2.cC+p.2.aF
  aA:0≤s.aA∧s.aA<1099511627776
  ev:mm s.events
  quo:ry s.aN s.events
  fD:u6 s.aR
  mo:mH (yf s.count) s.au
  cn:0≤s.count
section
variable {k k':Int} {s:Sp} {kind c t:Int} {dN:List aQ} {p:aQ} {o:aG} {w:ak}
theorem bK.mono (H:bK k s) (h:k≤k'):bK k' s:=⟨H.tree.mono h,H.gf,H.book,H.kr,H.aA,H.ev,H.quo,H.fD,H.mo,H.cn⟩
theorem bK.wk (H:bK k s) (hk:k≤1000000):eg s:=⟨H.tree.b hk,bQ H.gf.len (by decide),H.gf.sort,H.book,H.quo⟩
theorem bK.new:bK 0 mL:=⟨fq.new,ox.nil,gS.nil,fun p h=>(by cases h),by decide,mm.nil,fun c=>(by simp[mL,cV,bV]),u6.nil,fun n hn=>(by rw[iw.1 hn];exact⟨by decide,by decide⟩),by decide⟩
theorem bK.lq (H:bK k s) (kind:Int) (dN:List aQ):bK k (lu s kind dN):=
  ⟨H.tree,H.gf.filter _,H.book,H.kr,H.aA,mm.K3 _ H.ev (fun w hw=>H.gf.right w (fB.1 hw).1),H.quo.lq kind dN,H.fD,H.mo,H.cn⟩
theorem bK.qv (H:bK k s) (p:aQ):bK k (pE s p):=(H.lq _ _).lq _ _
theorem bK.vw (H:bK k s) (ff:Nat) (p:aQ):bK k (lz s ff p):=by
  unfold lz
  split
  · exact H.qv p
  · exact H.lq _ _
theorem bK.tr {ns:List ag} (H:bK k s) (h:fq k' ns) (hl:mH (yf s.count) ns):bK k' {s with au:=ns}:=⟨h,H.gf,H.book,H.kr,H.aA,H.ev,H.quo,H.fD,hl,H.cn⟩
theorem bK.jG (H:bK k s) (p:aQ):bK k (jG s p):=(H.tr (H.tree.drop (p:=p) (bO:= -1)) H.mo.drop).qv p
theorem bK.pF:∀(ps:List aQ) {s:Sp},bK k s→bK k (ps.foldl Sw.jG s)
  |[],_,H=>H
  |p::ps,_,H=>bK.pF ps (H.jG p)
theorem bK.left (H:bK k s) (c:Int):bK k (oB s c):=
  ⟨H.tree,H.gf.filter _,H.book.left _,fun p hp=>H.kr p (fB.1 hp).1,H.aA,H.ev.oS c,fun i=>by
    have h1:=H.quo i
    have h2:=(E2 (fun w:ak=>decide (w.Client=i)) (mM (p:=fun w=>!qg [c] w) (l:=s.aN))).length_le
    show _+(cV (eF s.events c) i).length≤8
    rw[nq]
    split
    · simp only[dU];unfold oB;simp only;omega
    · unfold oB;simp only;omega,H.fD,H.mo,H.cn⟩
theorem bK.iV (H:bK k s) (c:Int):bK k (iV s c):=bK.pF _ (H.left c)
theorem bK.oC:∀(cs:List Int) {s:Sp},bK k s→bK k (jc s cs)
  |[],_,H=>H
  |c::cs,_,H=>bK.oC cs (H.iV c)
theorem bK.CN (H:bK k s) (w:ak):bK k (mN s w):=by
  unfold mN ug
  split
  · exact H
  · split
    · exact H
    · rename_i h1 h2
      refine⟨H.tree,H.gf.add w,H.book,H.kr,H.aA,H.ev,fun i=>?_,H.fD,H.mo,H.cn⟩
      have h3:=H.quo i
      rw[←Kp] at h3 ⊢
      show cnt i (nX s.aN w)+(cV s.events i).length≤8
      rcases CO s.aN w with ⟨e,_⟩|⟨e,_,_,_,_⟩
      · rw[e];exact h3
      · rw[e,E9]
        split
        · rename_i hc;subst hc;omega
        · exact h3
theorem bK.iB (H:bK k s) (c:Int) (o:aG):bK k (kC s c o):=by
  unfold kC
  split
  · exact H.CN _
  · exact H
theorem Sv (H:fq k s.au) (h0:0≤k) (hk:k≤100000):fq (k+1) (ew s c o):=by
  unfold ew eP
  split
  · exact H.make hk h0
  · split
    · exact(H.drop).mono (by omega)
    · exact H.set hk
theorem Sx (H:bK k s) (hc:c<8):mH (yf s.count) (ew s c o):=by
  have h0:=H.cn
  unfold ew eP
  split
  · refine H.mo.make ⟨?_,by omega⟩
    split<;>omega
  · split
    · exact H.mo.drop
    · exact H.mo.set
theorem bK.qi (H:bK k s) (h0:0≤k) (hk:k≤100000) (hc:c<8):bK (k+1) (cU s c o):=H.tr (Sv H.tree h0 hk) (Sx H hc)
theorem bK.kD (H:bK k s) (h0:0≤k) (hk:k≤100000) (hc:c<8):bK (k+1) (kD s c o):=by
  unfold Sw.kD
  split
  · exact(H.qi h0 hk hc).vw _ _
  · exact H.qi h0 hk hc
theorem bK.K4 (hc:c<8):∀(ops:List aG) {s:Sp} {k:Int},bK k s→0≤k→k+ops.length≤100000→bK (k+ops.length) (ops.foldl (rI c) s)
  |[],_,_,H,_,_=>by simpa using H
  |o::ops,s,k,H,h0,hk=>by
   rw[bY] at hk ⊢
   have:=bK.K4 hc ops (s:=cU s c o) (k:=k+1) (H.qi h0 (by omega) hc) (by omega) (by omega)
   rw[nr]
   exact this.mono (by omega)
theorem bK.yR:∀(l:List iW) {s:Sp},bK k s→bK k (l.foldl oE s)
  |[],_,H=>H
  |x::l,_,H=>bK.yR l (H.vw x.ff x.eX)
theorem Fj (hc:c<8):∀(ops:List aG) {s sp:Sp} {k i j e:Int},bK k s→0≤k→k+ops.length≤100000→ji c s ops i=some (j,e,sp)→bK (k+ops.length) sp∧sp.count=s.count∧e≠0∧i≤j∧j<i+ops.length
  |[],_,_,_,_,_,_,_,_,_,h=>by cases h
  |o::ops,s,sp,k,i,j,e,H,h0,hk,h=>by
   rw[bY] at hk ⊢
   rw[ji] at h
   split at h
   · obtain⟨h1,h5,h2,h3,h4⟩:=Fj hc ops (H.qi (c:=c) (o:=o) h0 (by omega) hc) (by omega) (by omega) h
     exact⟨h1.mono (by omega),h5,h2,by omega,by omega⟩
   · rename_i he
     cases h
     exact⟨(H.qi h0 (by omega) hc).mono (by omega),rfl,he,by omega,by omega⟩
theorem bK.CP (H:bK k s) (hc:c<8) (h0:0≤k) (hk:k+o.az.length≤100000):bK (k+o.az.length) (nH s c o):=by
  unfold nH
  split
  · rename_i j e sp h
    obtain⟨h1,h2,_⟩:=Fj hc _ H h0 hk h
    unfold Fe
    rw[H.tree.QE,aO rfl]
    exact h1.tr (H.tree.mono (by omega)) (by rw[h2];exact H.mo)
  · unfold nt
    refine bK.yR _ ?_
    rw[vz]
    exact H.K4 hc _ h0 hk
theorem bK.touch (H:bK k s):bK k (touchS s c):=by
  unfold touchS
  refine⟨H.tree,H.gf,H.book.touch,fun p hp=>?_,H.aA,H.ev,H.quo,H.fD,H.mo,H.cn⟩
  show s.aA<_
  unfold touchB at hp
  split at hp
  · exact H.kr p hp
  · split at hp
    · exact H.kr p hp
    · rename_i x hf _
      rcases qR hp with rfl|hp
      · have:=H.kr _ ((jR H.book.1).1 hf)
        simp only at this ⊢
        omega
      · exact H.kr p hp
theorem bK.me (H:bK k s) {dD:Int}:bK k {s with book:=lB s.book c dD s.aA}:=by
  refine⟨H.tree,H.gf,H.book.me,fun p hp=>?_,H.aA,H.ev,H.quo,H.fD,H.mo,H.cn⟩
  show s.aA<_
  unfold lB at hp
  split at hp
  · rename_i h
    rcases qR hp with rfl|hp
    · unfold k9 at h
      split at h
      · simp at h
      · rename_i hr
        have hr:iQ ⟨c,dD,s.aA⟩=true:=by simpa using hr
        have:=(wH hr).2.1
        simp only at this ⊢
        omega
    · exact H.kr p hp
  · exact H.kr p hp
theorem bK.run (H:bK k s) (hc:c<8) (h0:0≤k) (hk:k≤99000) (ho:o.az.length≤4):bK (k+4) (lC s c o):=by
  unfold lC
  repeat' split
  · exact(H.oC [c]).mono (by omega)
  · exact(H.kD h0 (by omega) hc).mono (by omega)
  · exact(H.iB c o).mono (by omega)
  · exact(H.CP hc h0 (by omega)).mono (by omega)
  · exact H.mono (by omega)
end
theorem K5 {b:aQ} (h:(aU b).2=0):(aU b).1.az.length≤4:=by
  unfold aU at *
  repeat' split at h
  all_goals first|(simp at h;done)|skip
  rename_i h1 h2
  rw[aC h1,aC h2]
  have:dr false (a_ false b).1=true:=by
    simp only[qt] at h2
    simpa using h2.2
  exact(pz this).2.2.2.1
section
variable {k:Int} {s:Sp} {c t:Int} {b:aQ} {e:bN}
theorem bK.step (H:bK k s) (hc:c<8) (h0:0≤k) (hk:k≤99000):bK (k+4) (cF s c b):=by
  unfold cF
  split
  · exact H.mono (by omega)
  · rename_i hr
    split
    · exact H.me.mono (by omega)
    · split
      · exact H.touch.mono (by omega)
      · exact H.touch.run hc h0 hk (K5 (by simpa using hr))
structure Fk (k:Int) (s:Sp):Prop where
  tree:fq k s.au
  gf:ox s.aN
  book:gS s.book
  aA:0≤s.aA∧s.aA<1099511627776
  ev:mm s.events
  quo:ry s.aN s.events
  fD:u6 s.aR
  mo:mH (yf s.count) s.au
  cn:0≤s.count
theorem Fk.Sy (H:Fk k s):bK k (vA s):=by
  unfold vA
  refine bK.oC _ ⟨H.tree,H.gf,H.book.left _,fun p hp=>?_,H.aA,H.ev,H.quo,H.fD,H.mo,H.cn⟩
  have:=(fB.1 hp).2
  unfold fA at this
  simp only[gN,jb] at this
  show s.aA<_
  omega
theorem bK.kN (H:bK k s) (t:Int):Fk k {s with aA:=max s.aA (min t 1099511627775)}:=
  ⟨H.tree,H.gf,H.book,by have:=H.aA;show 0≤max s.aA (min t 1099511627775)∧max s.aA (min t 1099511627775)<1099511627776;omega,H.ev,H.quo,H.fD,H.mo,H.cn⟩
theorem bK.nG (H:bK k s) (t:Int):bK k (dI s t):=(H.kN t).Sy
theorem bK.more (H:bK k s):bK k (cB s):=⟨H.tree,H.gf,H.book,H.kr,H.aA,H.ev,H.quo,H.fD,fun n hn=>(by have:=H.mo n hn;unfold yf cB at *;simp only;omega),by have:=H.cn;unfold cB;simp only;omega⟩
end
theorem w9 {e:bN} (h:iL e=true):(0≤e.Client∧e.Client<8)∧1≤e.bn∧e.bn<1099511627776:=by
  unfold iL at h
  simp only[b_,cQ] at h
  omega
theorem yI {fs:List an} (h:jr fs=true):fs.length≤1024∧∀f∈fs,f.length≤65536:=by
  unfold jr at h
  simp only[b_,cQ,ic] at h
  exact h
theorem Cy {fs:List an} (h1:fs.length≤1024) (h2:∀f∈fs,f.length≤65536):jr fs=true:=by
  unfold jr
  simp only[b_,cQ,ic]
  exact⟨h1,h2⟩
theorem n6 {fs:List an} (h:(dM fs).2=0):jr fs=true∧(dM fs).1=dA fs:=by
  unfold dM at *
  split at h
  · rename_i hj;exact⟨hj,by rw[aO hj]⟩
  · simp at h
theorem AA {fs:List an} (h:jr fs=true):dM fs=(dA fs,0):=by unfold dM;rw[aO h]
theorem oA {l:List Int} (h:l.all gd=true):fo l=(dO l,0):=by unfold fo;rw[aO h]
theorem oz {v:Int} (h:jC v=true):gd v=true∧0≤v∧v≤4611686018427387902:=by
  unfold jC at h
  simp only[b_,cQ] at h
  exact⟨jd (by omega) (by omega),h⟩
theorem AV {x:Result} (h:ku x=true):(pe x).all gd=true:=by
  have ho:=ES h
  unfold ku at h
  simp only[j5,nh,b_,mK] at h
  unfold pe
  simp only[j5,nh,b_,mK]
  obtain⟨⟨h1,h2,h3,h4,h5,h6⟩,_⟩:=h
  exact⟨(oz h1).1,(oz h2).1,(oz h3).1,(oz h4).1,jd (by omega) (by omega),(oz h5).1,(oz h6).1⟩
structure mq (x:Result):Prop where
  code:0≤x.Code∧x.Code≤1000
  count:0≤x.aZ∧x.aZ≤2000000000000
  bF:0≤x.At∧x.At≤4
  eX:x.ag.af.length≤64
  data:x.ag.Data.length≤128
  bO:0≤x.ag.ai∧x.ag.ai≤1000000
  own: -1≤x.ag.aD∧x.ag.aD<8
  next:0≤x.ag.Next∧x.ag.Next≤1000000
  born:0≤x.ag.aL∧x.ag.aL≤2000000000000
  kL:x.bP.length≤32∧∀n∈x.bP,n.length≤64
theorem yg {m:Nat}:∀fs:List an,(∀f∈fs,f.length≤m)→(dA fs).length≤(10+m)*fs.length
  |[],_=>by simp[dA]
  |f::fs,h=>by
   have ih:=yg fs fun g hg=>h g (by simp[hg])
   have hf:=h f (by simp)
   have hn:=(rE (f.length:Int)).2
   have e:dA (f::fs)=eM f.length++(f++dA fs):=by
     unfold dA
     rw[qq]
     unfold vr
     rw[dm]
   rw[e,cA,cA,bY,En]
   omega
theorem K6 {w:ak} (h:jD w=true):jF w=true∧(js w).1.length≤148:=by
  obtain⟨h1,h2,h3,h4⟩:=Cx h
  have hn:[w.Client,w.Kind].all gd=true:=by
    simp only[j5,nh,b_,mK]
    exact⟨jd (by omega) (by omega),jd (by omega) (by omega)⟩
  have hw:[w.Client,w.Kind].all jC=true:=by
    simp only[j5,nh,b_,mK,jC,cQ]
    omega
  have hl:(dO [w.Client,w.Kind]).length≤20:=BZ _
  have hm:∀f∈[dO [w.Client,w.Kind],w.af],f.length≤64:=by
    intro f hf
    simp only[ei,Ax,Ay] at hf
    rcases hf with rfl|rfl<;>omega
  have hj:jr [dO [w.Client,w.Kind],w.af]=true:=Cy (by simp) fun f hf=>by have:=hm f hf;omega
  have he:js w=(dA [dO [w.Client,w.Kind],w.af],0):=by unfold js;rw[oA hn,AA hj]
  refine⟨?_,?_⟩
  · unfold jF
    rw[hw,he];rfl
  · rw[he]
    exact yg _ hm
theorem Sz {x:Result} (H:mq x) (he:x.aT.length≤8∧∀w∈x.aT,jD w=true):(cL x).2=0∧(cL x).1.length≤65536:=by
  obtain⟨h1,h2,h3,h4,h5,h6,h7,h8,h9,u⟩:=H
  have hb:ku x=true:=by
    refine JE ?_ (by omega) (by omega)
    simp only[j5,nh,b_,mK,jC,cQ]
    omega
  have hn:=AV hb
  have hj:jr x.bP=true:=Cy (by omega) fun f hf=>by have:=u.2 f hf;omega
  have D:x.aT.all jF=true:=by
    rw[ic]
    exact fun w hw=>(K6 (he.2 w hw)).1
  have I:(dA x.bP).length≤2368:=bQ (yg _ u.2) (by omega)
  have J:(dO (pe x)).length≤70:=BZ _
  have hrow:je x=(dO (pe x))::x.ag.af::x.ag.Data::dA x.bP::x.aT.map (fun w=>(js w).1):=by
    unfold je vt
    rw[oA hn,AA hj]
    rfl
  have hm:∀f∈je x,f.length≤2368:=by
    rw[hrow]
    intro f hf
    simp only[ei,de] at hf
    rcases hf with rfl|rfl|rfl|rfl|⟨w,hw,rfl⟩
    · omega
    · omega
    · omega
    · omega
    · have:=(K6 (he.2 w hw)).2;omega
  have hl:(je x).length≤12:=by
    rw[hrow]
    simp only[bY,d_]
    omega
  have G:jr (je x)=true:=Cy (by omega) fun f hf=>by have:=hm f hf;omega
  have e:cL x=(dA (je x),0):=by
    unfold cL
    rw[aC (by rw[hb];simp),aC (by rw[AA hj];simp),aC (by rw[D];simp),AA G,aC (by simp)]
  rw[e]
  exact⟨rfl,bQ (yg _ hm) (by omega)⟩
section
variable {k k':Int} {s:Sp} {c t:Int} {o:aG} {x:Result} {p data:aQ} {ns:List ag} {cI born bO:Int} {num:Bool}
def Cd (e:Int):Prop:=0≤e∧e≤1000
theorem Cz (p:aQ):Cd (cX p):=by unfold cX Cd;split<;>omega
theorem K7 (p:aQ):Cd (cz p):=by unfold cz Cd;split<;>omega
theorem SA (up:ag) (p:aQ) (num:Bool):Cd (gL up p num):=by
  unfold gL lN
  repeat' split
  · exact Cz _
  · exact⟨by simp,by simp⟩
  · exact⟨by simp,by simp⟩
theorem SB:Cd (cm ns p data cI born num).2.2:=by
  unfold cm
  repeat' split
  all_goals first|exact K7 _|exact SA _ _ _|exact⟨by simp,by simp⟩
theorem SC:Cd (f_ ns p bO).2:=by
  unfold f_
  repeat' split
  all_goals first|exact K7 _|exact⟨by simp,by simp⟩
theorem SD:Cd (fe ns p data bO).2.2:=by
  unfold fe
  repeat' split
  all_goals first|exact Cz _|exact⟨by simp,by simp⟩
theorem SE:Cd (jL ns p).2:=by
  unfold jL
  repeat' split
  all_goals first|exact Cz _|exact⟨by simp,by simp⟩
theorem K8:Cd (cg ns p).2:=by
  unfold cg
  repeat' split
  all_goals first|exact Cz _|exact⟨by simp,by simp⟩
theorem Fl:Cd (cK s c o):=by
  unfold cK eP
  split
  · exact SB
  · split
    · exact SC
    · exact SD
theorem SF (ws:List ak) (w:ak):Cd (nW ws w):=by
  unfold nW
  repeat' split
  all_goals exact⟨by simp,by simp⟩
theorem SG (w:ak):Cd (jO s w):=by
  unfold jO
  repeat' split
  all_goals first|exact SF _ _|exact⟨by simp,by simp⟩
theorem touchE_cd (b:gx) (c t:Int):Cd (touchE b c t):=by
  unfold touchE
  split
  all_goals exact⟨by simp,by simp⟩
theorem SH (b:gx) (c sp t:Int):Cd (k9 b c sp t):=by
  unfold k9
  repeat' split
  all_goals exact⟨by simp,by simp⟩
theorem SI (b:aQ):Cd (aU b).2:=by
  unfold aU
  repeat' split
  all_goals exact⟨by simp,by simp⟩
structure iS (l:ag):Prop where
  eX:l.af.length≤64
  data:l.Data.length≤128
  bO:0≤l.ai∧l.ai≤1000000
  own: -1≤l.aD∧l.aD<8
  next:0≤l.Next∧l.Next≤1000000
  born:0≤l.aL∧l.aL≤2000000000000
theorem iS.none:iS eD:=⟨by decide,by decide,by decide,by decide,by decide,by decide⟩
theorem bK.CA (H:bK k s) (hk:k≤1000000) (hc:s.count≤2000000000000) {l:ag} (h:l∈s.au):iS l:=by
  obtain⟨h1,h2,h3,h4,h5,h6,_⟩:=H.tree.node l h
  have:=H.mo l h
  unfold yf at this
  exact⟨uK h1,h2,⟨h4.1,by omega⟩,⟨h3,this.1⟩,⟨h5.1,by omega⟩,h6,by omega⟩
theorem mq.CA (H:mq x) {l:ag} (h:iS l) {e:Int} (he:Cd e):mq {x with Code:=e,ag:=l}:=
  ⟨he,H.count,H.bF,h.eX,h.data,h.bO,h.own,h.next,h.born,H.kL⟩
theorem mq.cd (H:mq x) {e:Int} (he:Cd e):mq {x with Code:=e}:=⟨he,H.count,H.bF,H.eX,H.data,H.bO,H.own,H.next,H.born,H.kL⟩
theorem SJ (H:bK k s) (h0:0≤k) (hk:k≤100000) (he:cK s c o=0):iS (bS s c o):=by
  unfold bS
  unfold cK at he
  split
  · rename_i h3
    rw[aO h3] at he
    unfold eP at *
    obtain⟨up,u,_,hf,_,hm,_,_,e⟩:=Cl he
    refine⟨?_,iS.none.data,iS.none.bO,iS.none.own,iS.none.next,iS.none.born⟩
    show(cm s.au o.af o.Data _ s.count o.aI).2.1.length≤64
    rw[e]
    exact uK (uW (EX u hm).1)
  · split
    · exact iS.none
    · split
      · rename_i h3 h4 h5
        unfold fe at h5 ⊢
        repeat' split at h5
        · rename_i hp;exact absurd h5 hp
        · simp at h5
        · simp at h5
        · simp at h5
        · rename_i hp _ l hf _ _
          have D:cX o.af=0:=by simpa using hp
          have hl:=H.tree.node l (ki hf).1
          rw[aC hp]
          simp only[hf]
          rename_i h6 h7
          rw[aC h6,aC h7]
          refine⟨uK (j0.1 D),iS.none.data,?_,iS.none.own,iS.none.next,iS.none.born⟩
          show 0≤IntKind.wrap .i64 (l.ai+1)∧IntKind.wrap .i64 (l.ai+1)≤1000000
          rw[EV hl.2.2.2.1.1 (by have:=hl.2.2.2.1.2;omega)]
          have:=hl.2.2.2.1
          omega
      · exact iS.none
theorem SK (H:fq k ns):(jL ns p).1.length≤32∧∀n∈(jL ns p).1,n.length≤64:=by
  unfold jL
  repeat' split
  · exact⟨by simp,fun n h=>(by simp at h)⟩
  · exact⟨by simp,fun n h=>(by simp at h)⟩
  · unfold gK
    refine⟨?_,fun n h=>?_⟩
    · rw[d_]
      exact bQ (l7 _ _) H.len
    · obtain⟨l,hl,rfl⟩:=de.1 h
      exact uK (H.node l (fB.1 hl).1).1
theorem SL (H:bK k s) (hk:k≤1000000) (hc:s.count≤2000000000000) (hx:mq x):mq (nY s o x):=by
  unfold nY
  repeat' split
  · exact⟨SE,hx.count,hx.bF,hx.eX,hx.data,hx.bO,hx.own,hx.next,hx.born,SK H.tree⟩
  · rename_i h
    refine hx.CA ?_ K8
    unfold cg at h ⊢
    split
    · rename_i hp
      rw[aO hp] at h
      split
      · rename_i hf;simp[hf] at h
      · rename_i l hf;exact H.CA hk hc (ki hf).1
    · rename_i hp
      rw[aC hp] at h
      exact absurd h hp
  · exact hx.cd K8
theorem K9 (hc:c<8):∀(ops:List aG) {m:Mu} {k:Int},bK k m.sp→0≤k→k+ops.length≤100000→(∀n∈m.kL,n.length≤64)→(∀n∈(ops.foldl (j4 0 c) m).kL,n.length≤64)∧(ops.foldl (j4 0 c) m).kL.length=m.kL.length+ops.length
  |[],_,_,_,_,_,h=>⟨h,rfl⟩
  |o::ops,m,k,H,h0,hk,h=>by
   rw[bY] at hk ⊢
   obtain⟨h1,h2⟩:=K9 hc ops (m:=j4 0 c m o) (k:=k+1) (H.qi h0 (by omega) hc) (by omega) (by omega) (fun n hn=>by
     unfold j4 at hn
     rcases dP.1 hn with hn|hn
     · exact h n hn
     · rw[iw.1 hn]
       split
       · rename_i h3
         unfold bS
         rw[aO h3]
         show(eP m.sp c o).2.1.length≤64
         unfold eP
         by_cases he:(cm m.sp.au o.af o.Data (if o.aY=true then c else -1) m.sp.count o.aI).2.2=0
         · obtain⟨up,u,_,hf,_,hm,_,_,e⟩:=Cl he
           rw[e]
           exact uK (uW (EX u hm).1)
         · rw[(EW he).2];decide
       · decide)
   refine⟨h1,?_⟩
   rw[nr,h2]
   unfold j4
   simp only[cA,o9]
   omega
theorem SM (H:bK k s) (hc:c<8) (h0:0≤k) (hk:k≤99000) (ho:o.az.length≤4) (hx:mq x):mq (qj s c o x):=by
  unfold qj
  split
  · rename_i j e sp h
    obtain⟨_,_,_,h1,h2⟩:=Fj hc _ H h0 (by omega) h
    have u:Cd e:=by
      have key:∀(ops:List aG) (s:Sp) (i:Int),ji c s ops i=some (j,e,sp)→Cd e:=by
        intro ops
        induction ops with
        |nil=>intro s i h;cases h
        |cons o ops ih=>
         intro s i h
         rw[ji] at h
         split at h
         · exact ih _ _ h
         · cases h;exact Fl
      exact key _ _ _ h
    exact⟨u,hx.count,⟨h1,by show j≤4;omega⟩,hx.eX,hx.data,hx.bO,hx.own,hx.next,hx.born,hx.kL⟩
  · obtain⟨h1,h2⟩:=K9 hc o.az (m:=⟨s,[],[]⟩) H h0 (by omega) (fun n h=>by cases h)
    refine⟨hx.code,hx.count,hx.bF,hx.eX,hx.data,hx.bO,hx.own,hx.next,hx.born,?_,h1⟩
    show(o.az.foldl (j4 0 c) ⟨s,[],[]⟩).kL.length≤32
    rw[h2]
    simp only[dU]
    omega
theorem SN (H:bK k s) (hk:k≤1000000) (hc:s.count≤2000000000000) (hx:mq x):mq (mj s c o x):=by
  unfold mj
  split
  · exact hx.cd (SG _)
  · exact SL H hk hc hx
theorem SO (H:bK k s) (hc:c<8) (h0:0≤k) (hk:k≤99000) (ho:o.az.length≤4) (hn:s.count≤2000000000000) (hx:mq x):mq (mY s c o x):=by
  unfold mY
  repeat' split
  · exact hx
  · unfold tE
    split
    · rename_i he;exact hx.CA (SJ H h0 (by omega) he) Fl
    · exact hx.cd Fl
  · exact SN H (by omega) hn hx
  · exact SM H hc h0 hk ho hx
  · exact hx
theorem K_ {b:aQ} (H:bK k s) (hc:c<8) (h0:0≤k) (hk:k≤99000) (hn:s.count≤2000000000000) (hx:mq x):mq (cR s c b x):=by
  unfold cR
  split
  · exact hx.cd (SI b)
  · rename_i hr
    split
    · exact hx.cd (SH _ _ _ _)
    · split
      · exact hx.cd (touchE_cd _ _ _)
      · exact SO H.touch hc h0 hk (K5 (by simpa using hr)) hn (hx.cd (touchE_cd _ _ _))
end
section
variable {k:Int} {s:Sp} {c:Int} {b:aQ} {e:bN}
theorem bK.La (H:bK k s) (c:Int):(cV s.events c).length≤8∧∀w∈cV s.events c,jD w=true:=
  ⟨by have:=H.quo c;omega,fun w hw=>(H.ev.cV c w hw).2⟩
theorem SP (H:bK k s) (hc:c<8) (h0:0≤k) (hk:k≤99000) (hn:s.count≤1000000000000):mq (gV s c b):=by
  have h1:=K_ (b:=b) (x:=⟨0,s.count+1,0,eD,[],[]⟩) H.more hc h0 hk (by show s.count+1≤_;omega) ⟨by show(0:Int)≤0∧(0:Int)≤1000;omega,by have:=H.cn;show 0≤s.count+1∧s.count+1≤_;omega,by show(0:Int)≤0∧(0:Int)≤4;omega,iS.none.eX,iS.none.data,iS.none.bO,iS.none.own,iS.none.next,iS.none.born,fH _,fun n h=>by cases h⟩
  exact⟨h1.code,h1.count,h1.bF,h1.eX,h1.data,h1.bO,h1.own,h1.next,h1.born,h1.kL⟩
theorem SQ (H:bK k s) (hc:c<8) (h0:0≤k) (hk:k≤99000) (hn:s.count≤1000000000000):Ap (gV s c b):=by
  have h1:=SP (b:=b) H hc h0 hk hn
  have h2:=(H.more.step (b:=b) hc h0 hk).La c
  refine⟨bQ h1.eX (by decide),⟨bQ h1.kL.1 (by decide),fun n hn=>bQ (h1.kL.2 n hn) (by decide)⟩,bQ h2.1 (by decide),fun w hw=>bQ (Cx (h2.2 w hw)).1 (by decide)⟩
theorem AX (H:bK k s) (hc:c<8) (h0:0≤k) (hk:k≤99000) (hn:s.count≤1000000000000):(cL (gV s c b)).2=0∧(cL (gV s c b)).1.length≤65536:=by
  have h1:=K_ (b:=b) (x:=⟨0,s.count+1,0,eD,[],[]⟩) H.more hc h0 hk (by show s.count+1≤_;omega) ⟨by show(0:Int)≤0∧(0:Int)≤1000;omega,by have:=H.cn;show 0≤s.count+1∧s.count+1≤_;omega,by show(0:Int)≤0∧(0:Int)≤4;omega,iS.none.eX,iS.none.data,iS.none.bO,iS.none.own,iS.none.next,iS.none.born,fH _,fun n h=>by cases h⟩
  refine Sz (x:=gV s c b) ⟨h1.code,h1.count,h1.bF,h1.eX,h1.data,h1.bO,h1.own,h1.next,h1.born,h1.kL⟩ ?_
  exact(H.more.step (b:=b) hc h0 hk).La c
theorem bK.done (H:bK k s) (he:iL e=true) (h0:0≤k) (hk:k≤99000) (hn:s.count≤1000000000000):bK (k+4) (lY s e b):=by
  obtain⟨h1,h2,h3⟩:=w9 he
  have h4:=H.more.step (b:=b) h1.2 h0 hk
  refine⟨h4.tree,h4.gf,h4.book,h4.kr,h4.aA,h4.ev.oS _,fun i=>?_,h4.fD.put ⟨h1,⟨h2,h3⟩,(AX H h1.2 h0 hk hn).2⟩,h4.mo,h4.cn⟩
  have h5:=h4.quo i
  show _+(cV (eF (cF (cB s) e.Client b).events e.Client) i).length≤8
  rw[nq]
  split
  · simp only[dU];unfold lY;simp only;omega
  · unfold lY;simp only;omega
end
def kp (s:Sp):Int×Int×List (Int×jA):=(s.aA,s.count,s.aR)
section
variable {s:Sp} {c t:Int} {b:aQ} {e:bN} {o:aG}
theorem Lb (ff:Nat) (p:aQ):kp (lz s ff p)=kp s:=by unfold lz;split<;>rfl
theorem Ld:∀(ps:List aQ) (s:Sp),kp (ps.foldl jG s)=kp s
  |[],_=>rfl
  |p::ps,s=>by rw[nr,Ld ps];rfl
theorem Fm:∀(cs:List Int) (s:Sp),kp (jc s cs)=kp s
  |[],_=>rfl
  |c::cs,s=>by
   have:=Fm cs (iV s c)
   unfold jc at *
   rw[nr,this]
   unfold iV
   rw[Ld]
   rfl
theorem AB:kp (dI s t)=(max s.aA (min t 1099511627775),s.count,s.aR):=by unfold dI vA;rw[Fm];rfl
theorem Le:∀(l:List iW) (s:Sp),kp (l.foldl oE s)=kp s
  |[],_=>rfl
  |x::l,s=>by
   rw[nr,Le l]
   exact Lb _ _
theorem Lf:∀(l:List aG) (s:Sp),kp (l.foldl (rI c) s)=kp s
  |[],_=>rfl
  |x::l,s=>by rw[nr,Lf l];rfl
theorem Lg:∀(ops:List aG) {s sp:Sp} {i j e:Int},ji c s ops i=some (j,e,sp)→kp sp=kp s
  |[],_,_,_,_,_,h=>by cases h
  |o::ops,s,sp,i,j,e,h=>by
   rw[ji] at h
   split at h
   · exact Lg (s:=cU s c o) ops h
   · cases h;rfl
theorem SR:kp (nH s c o)=kp s:=by
  unfold nH
  split
  · rename_i h
    have:=Lg _ h
    rw[←this];rfl
  · rw[Le]
    unfold nt
    rw[vz,Lf]
theorem SS:kp (kC s c o)=kp s:=by unfold kC;split<;>rfl
theorem SU:kp (kD s c o)=kp s:=by unfold kD;split;rw[Lb];rfl;rfl
theorem Lh:kp (lC s c o)=kp s:=by
  unfold lC
  repeat' split
  · exact Fm _ _
  · exact SU
  · exact SS
  · exact SR
  · rfl
theorem vu:kp (cF s c b)=kp s:=by
  unfold cF
  repeat' split
  · rfl
  · rfl
  · rfl
  · rw[Lh];rfl
theorem SV {s u:Sp} (h:kp s=kp u):s.count=u.count:=congrArg (·.2.1) h
theorem qu:(dI s t).count=s.count:=congrArg (·.2.1) (AB (s:=s) (t:=t))
theorem AZ:(dI s t).aR=s.aR:=congrArg (·.2.2) (AB (s:=s) (t:=t))
theorem AD:(lY s e b).count=s.count+1:=SV (vu (s:=cB s) (c:=e.Client) (b:=b))
theorem Fo:(bD s e b).count=if dQ s e=true then s.count+1 else s.count:=by
  unfold bD dQ
  by_cases h1:iL e=true
  · by_cases h2:(gh (dI s e.aX) e.Client).cW<e.bn
    · rw[aO ⟨h1,h2⟩,AD,qu,h1,eu h2];rfl
    · rw[aC (fun h=>h2 h.2),qu,gb h2];simp
  · rw[aC (fun h=>h1 h.1),qu]
    simp[h1]
end
theorem bK.iX {k:Int} {s:Sp} {b:aQ} {e:bN} (H:bK k s) (h0:0≤k) (hk:k≤99000) (hn:s.count≤1000000000000):bK (k+4) (bD s e b):=by
  unfold bD
  split
  · rename_i h
    exact(H.nG e.aX).done h.1 h0 hk (by rw[qu];exact hn)
  · exact(H.nG e.aX).mono (by omega)
theorem eg.nG {s:Sp} (H:eg s) (t:Int):eg (dI s t):=by
  unfold dI vA
  exact eg.oC (s:={s with aA:=max s.aA (min t 1099511627775),book:=ia (fA (max s.aA (min t 1099511627775))) s.book}) ⟨H.tree,H.wl,H.ws,H.book.left _,H.quo⟩ _
theorem gS.SW {x:gx} (H:gS x) {cw:dL→Bool}:(gq cw x).length≤8:=by
  unfold gq
  rw[d_]
  exact bQ (l7 _ _) H.len
theorem eg.more {s:Sp} (H:eg s):eg (cB s):=⟨H.tree,H.wl,H.ws,H.book,H.quo⟩
theorem Li (x:Result):(cL x).1.length≤1000000000:=by
  have h0:([]:an).length≤1000000000:=fH _
  unfold cL
  repeat' split
  all_goals first|exact h0|skip
  rename_i h1 h2 h3 h4
  obtain⟨h5,h6⟩:=n6 (fs:=je x) (by simpa using h4)
  simp only[h6]
  refine bQ (yg _ (yI h5).2) ?_
  have:=(yI h5).1
  have:(10+65536)*(je x).length≤(10+65536)*1024:=xA _ this
  omega
theorem Fp {α:Type} {c:Int} {x:α}:∀{l:List (Int×α)},bV l c=some x→∃p∈l,p.2=x
  |[],h=>by simp[bV] at h
  |q::l,h=>by
   rw[lR] at h
   split at h
   · exact⟨q,by simp,fK h⟩
   · obtain⟨r,hr,e⟩:=Fp h
     exact⟨r,by simp[hr],e⟩
theorem Lj {s y:Sp} {c:Int} {r:jA} (h:∀p∈s.aR,p.2.data.length≤1000000000) (e:y.aR=s.aR) (hf:bV y.aR c=some r):r.data.length≤1000000000:=by
  rw[e] at hf
  obtain⟨p,hp,rfl⟩:=Fp hf
  exact h p hp
theorem iT {e:bN} (h1:¬e.Client<0) (h2:¬e.Client≥8) (h3:¬e.bn<1) (h4:¬e.bn≥1099511627776):iL e=true:=by
  unfold iL
  simp only[b_,cQ]
  omega
theorem oY {e:bN} (h:e.Client<0∨e.Client≥8∨e.bn<1∨e.bn≥1099511627776):¬iL e=true:=by
  unfold iL
  simp only[b_,cQ]
  omega
section
variable {s y w:Sp} {e:bN} {b:aQ} {r:jA} {x:Result}
theorem CB {c:Int} (h:bV s.aR c=none):gh s c=⟨0,[]⟩:=by unfold gh;rw[h];rfl
theorem CC {c:Int} (h:bV s.aR c=some r):gh s c=r:=by unfold gh;rw[h];rfl
theorem Ll {c st:Int} (h:bV s.aR c=none) (h1:¬st<0) (h2:¬st=0):(gh s c).cW<st:=by rw[CB h];show(0:Int)<st;omega
theorem Lm {c st:Int} (h:bV s.aR c=some r) (h1:¬st<r.cW) (h2:¬st=r.cW):(gh s c).cW<st:=by rw[CC h];omega
theorem oZ (hy:y=dI s e.aX) (h:¬iL e=true):[]=bh s e b∧false=dQ s e∧y=bD s e b:=by
  subst hy
  exact⟨by unfold bh;rw[aC h],by unfold dQ;simp[h],by unfold bD;rw[aC (fun h'=>h h'.1)]⟩
theorem Ln (hy:y=dI s e.aX) (hE:iL e=true) (h:e.bn<(gh y e.Client).cW):[]=bh s e b∧false=dQ s e∧y=bD s e b:=by
  subst hy
  refine⟨?_,?_,?_⟩
  · unfold bh;rw[aO hE,aC (by omega),aC (by omega)]
  · unfold dQ;rw[hE,gb (by omega)];rfl
  · unfold bD;rw[aC (by rintro⟨_,h'⟩;omega)]
theorem yh (hy:y=dI s e.aX) (hE:iL e=true) (hf:bV y.aR e.Client=none) (h:e.bn<0):[]=bh s e b∧false=dQ s e∧y=bD s e b:=Ln hy hE (by rw[CB hf];exact h)
theorem yj (hy:y=dI s e.aX) (hE:iL e=true) (hf:bV y.aR e.Client=some r) (h:e.bn<r.cW):[]=bh s e b∧false=dQ s e∧y=bD s e b:=Ln hy hE (by rw[CC hf];exact h)
theorem Lp (hy:y=dI s e.aX) (hE:iL e=true) (h:e.bn=(gh y e.Client).cW):(gh y e.Client).data=bh s e b∧false=dQ s e∧y=bD s e b:=by
  subst hy
  refine⟨?_,?_,?_⟩
  · unfold bh;rw[aO hE,aC (by omega),aO h]
  · unfold dQ;rw[hE,gb (by omega)];rfl
  · unfold bD;rw[aC (by rintro⟨_,h'⟩;omega)]
theorem yl (hy:y=dI s e.aX) (hE:iL e=true) (hf:bV y.aR e.Client=none) (h:e.bn=0):[]=bh s e b∧false=dQ s e∧y=bD s e b:=by
  have:=Lp (b:=b) hy hE (by rw[CB hf];exact h)
  rwa[CB hf] at this
theorem ym (hy:y=dI s e.aX) (hE:iL e=true) (hf:bV y.aR e.Client=some r) (h:e.bn=r.cW):r.data=bh s e b∧false=dQ s e∧y=bD s e b:=by
  have:=Lp (b:=b) hy hE (by rw[CC hf];exact h)
  rwa[CC hf] at this
theorem SX {c:Int} (h:bV (cF (cB y) c b).events c=none):{cR (cB y) c b ⟨0,y.count+1,0,eD,[],[]⟩ with aT:=[]}=gV y c b:=by
  unfold gV cV
  rw[h];rfl
theorem SY {c:Int} {xs:List ak} (h:bV (cF (cB y) c b).events c=some xs):{cR (cB y) c b ⟨0,y.count+1,0,eD,[],[]⟩ with aT:=xs}=gV y c b:=by
  unfold gV cV
  rw[h];rfl
def Lq (y:Sp) (c:Int) (b:aQ):Sp:={cF (cB y) c b with events:=eF (cF (cB y) c b).events c}
theorem Fq (hy:y=dI s e.aX) (hE:iL e=true) (hlt:(gh y e.Client).cW<e.bn) (hw:w=Lq y e.Client b) (hr:x=gV y e.Client b):
    (cL x).1=bh s e b∧true=dQ s e∧{w with aR:=dJ w.aR e.Client ⟨e.bn,(cL x).1⟩}=bD s e b:=by
  subst hy hw hr
  refine⟨?_,?_,?_⟩
  · unfold bh;rw[aO hE,aO hlt]
  · unfold dQ;rw[hE,eu hlt];rfl
  · unfold bD;rw[aO ⟨hE,hlt⟩];rfl
end
end Go.Proofs.YtceekbnihfckeaaGreatDoor.Sw
