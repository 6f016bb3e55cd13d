/- Lemmas for laws of this seat. -/
import Derived.Test.YtceekbnihfckeaaGreatDoorQBN
namespace Go.Proofs.YtceekbnihfckeaaGreatDoor.Sw
open Tryz
open Go
set_option maxRecDepth 100000
set_option linter.unusedVariables false
set_option linter.unusedSimpArgs false
set_option linter.deprecated false
set_option linter.defProp false
def AW:=@Nat.not_lt
set_option maxHeartbeats 4000000 in
theorem pR (B:World) (h:ax) (g:GH) (hg:bl g h) (J:bq g) (u:Nat) (s:Sp) (a9:ay) (hh:cu g u s a9) (e:bN) (e8:Value) (hj:av g 5 br e8 e.kf) (e9:Value) (op:an) (bi:av g 5 br e9 op) (hP:lZ g) (a3:eg s) (hl:op.length≤1000000000) (xt:0≤s.count∧s.count≤1000000000000000) (fa:∀p∈s.aR,p.2.data.length≤1000000000) (hx:iL e=true→Ap (gV (dI s e.aX) e.Client op)) (hs:St h g (aV [a9]) g [a9] h):
  aE prog B 36 #[vP u,.agg #[vI e.Client,vI e.bn,vI e.aX,e8],e9] h g [a9] (fun hn g' L'=>∃v0 fg fi,hn=.tuple #[v0,.bool (dQ s e)]∧aJ 5 br g' v0 (bh s e op) fg∧cu g' u (bD s e op) fi∧L'=[fi,fg]):=by
 obtain⟨ck,co,rfl⟩:=hj.aj
 obtain⟨dd,df,rfl⟩:=bi.aj
 refine aE.aq func36 fun R hR=>?_
 refine At.rg 3 ?_
 refine Op.bx 4 75 1 #[vI e.Client,vI e.bn,vI e.aX,vL ck e.kf.length co] hs fun G xv ho=>?_
 refine Op.pg 1 [] ?_
 have hp:∀(m:Nat) (D:GH) (c3:aM g D) (y:Sp) (bc:ay) (dg:ax) (hm:0<m) (hy:y=dI s e.aX) (ca:eg y) (cb:y.count=s.count) (dj:y.aR=s.aR) (bj:cu D u y bc) (ae:St h g (aV [a9]) D [[(G,Obj.cells #[vI e.Client,vI e.bn,vI e.aX,vL ck e.kf.length co] 75 (0,0))],bc] dg),At (bX prog B 36 f36 R) [] 3 [(0,vP u),(2,vL dd op.length df),(4,vP G)] dg:=by
  intro m;induction m with
  |zero=>intros;omega
  |succ m yi=>
   intro D c3 y bc dg hm hy ca cb dj bj ae
   replace J:=J.mono c3
   replace hP:=hP.mono c3
   replace bi:=bi.mono c3
   refine At.rp 18 1 [(34,vP G)] ?_
   refine Op.l1 3 34 35 0 (vI e.Client) (ae.ah 0 rfl) ?_
   refine Op.px 2 [(37,.bool (decide (e.Client<0)))] ?_
   refine Op.wd (e.Client<0) 37 (fun yk=>?_) fun yn=>?_
   ·refine Op.pg 4 [(51,.bool true)] ?_
    refine At.bW 51 5 ?_
    refine At.go 6 2 [(6,vN),(7,.bool false)] ?_
    have hq:=aJ.zero 5 br D none
    have hu:=ae.nl
    refine At.rt (.tuple #[vN,.bool false]) ?_
    have hA:=((hu.aa 0 rfl).aa 2 rfl).aa 2 rfl
    exact hR hA.drop ⟨vN,[],bc,b7 rfl (aS (by exact(oZ (b:=op) hy (oY (by omega))).2.1)),eV hq (by exact(oZ (b:=op) hy (oY (by omega))).1),bj.eq (by exact(oZ (b:=op) hy (oY (by omega))).2.2),rfl⟩
   refine Op.px 1 [(38,vP G)] ?_
   refine Op.l1 3 38 39 0 (vI e.Client) (ae.ah 0 rfl) ?_
   refine Op.px 3 [(42,.bool (decide (e.Client≥8)))] ?_
   refine Op.wd (e.Client≥8) 42 (fun yr=>?_) fun yv=>?_
   ·refine Op.pg 4 [(51,.bool true)] ?_
    refine At.bW 51 5 ?_
    refine At.go 6 2 [(6,vN),(7,.bool false)] ?_
    have hB:=aJ.zero 5 br D none
    have hC:=ae.nl
    refine At.rt (.tuple #[vN,.bool false]) ?_
    have hD:=((hC.aa 0 rfl).aa 2 rfl).aa 2 rfl
    exact hR hD.drop ⟨vN,[],bc,b7 rfl (aS (by exact(oZ (b:=op) hy (oY (by omega))).2.1)),eV hB (by exact(oZ (b:=op) hy (oY (by omega))).1),bj.eq (by exact(oZ (b:=op) hy (oY (by omega))).2.2),rfl⟩
   refine Op.px 1 [(43,vQ G 1)] ?_
   refine Op.l1 3 43 44 1 (vI e.bn) (ae.ah 0 rfl) ?_
   refine Op.px 3 [(47,.bool (decide (e.bn<1)))] ?_
   refine Op.wd (e.bn<1) 47 (fun y7=>?_) fun y8=>?_
   ·refine Op.pg 4 [(51,.bool true)] ?_
    refine At.bW 51 5 ?_
    refine At.go 6 2 [(6,vN),(7,.bool false)] ?_
    have hF:=aJ.zero 5 br D none
    have hG:=ae.nl
    refine At.rt (.tuple #[vN,.bool false]) ?_
    have hH:=((hG.aa 0 rfl).aa 2 rfl).aa 2 rfl
    exact hR hH.drop ⟨vN,[],bc,b7 rfl (aS (by exact(oZ (b:=op) hy (oY (by omega))).2.1)),eV hF (by exact(oZ (b:=op) hy (oY (by omega))).1),bj.eq (by exact(oZ (b:=op) hy (oY (by omega))).2.2),rfl⟩
   refine Op.px 1 [(48,vQ G 1)] ?_
   refine Op.l1 3 48 49 1 (vI e.bn) (ae.ah 0 rfl) ?_
   refine Op.pg 4 [(51,.bool (decide (e.bn≥1099511627776)))] ?_
   refine At.fd (e.bn≥1099511627776) 51 5 7 (fun zr=>?_) fun zs=>?_
   ·refine At.go 6 2 [(6,vN),(7,.bool false)] ?_
    have hI:=aJ.zero 5 br D none
    have hJ:=ae.nl
    refine At.rt (.tuple #[vN,.bool false]) ?_
    have hK:=((hJ.aa 0 rfl).aa 2 rfl).aa 2 rfl
    exact hR hK.drop ⟨vN,[],bc,b7 rfl (aS (by exact(oZ (b:=op) hy (oY (by omega))).2.1)),eV hI (by exact(oZ (b:=op) hy (oY (by omega))).1),bj.eq (by exact(oZ (b:=op) hy (oY (by omega))).2.2),rfl⟩
   have c4:∀(m:Nat) (a4:GH) (c5:aM D a4) (z:Sp) (dk:ay) (dl:ax) (hm:0<m) (hz:z=dI s e.aX) (fj:eg z) (hL:z.count=s.count) (hE:iL e=true) (hlt:(gh z e.Client).cW<e.bn) (fl:cu a4 u z dk) (fp:St h g (aV [a9]) a4 [[(G,Obj.cells #[vI e.Client,vI e.bn,vI e.aX,vL ck e.kf.length co] 75 (0,0))],dk] dl),At (bX prog B 36 f36 R) [] 16 [(0,vP u),(2,vL dd op.length df),(4,vP G)] dl:=by
    intro m;induction m with
    |zero=>intros;omega
    |succ m zt=>
     intro a4 c5 z dk dl hm hz fj hL hE hlt fl fp
     replace J:=J.mono c5
     replace hP:=hP.mono c5
     replace bi:=bi.mono c5
     refine At.rp 8 3 [(74,vP u),(76,vQ u 4)] ?_
     obtain⟨hN,hO,hQ,hS,hT,hV,hW,hX,hY,hZ,h1,h2,h3,h4,h5,h6⟩:=fl
     have h7:=(fp.aa 0 rfl).aa 1 rfl
     have fr:=St.un [hO,hS,hV,hX,hZ] h1 h7
     refine Op.l1 3 76 77 4 (vI z.count) (fr.ah 0 rfl) ?_
     refine Op.vq 78 (z.count+1) ?_
     refine Op.px 2 [(80,vQ u 4)] ?_
     refine Op.s1 3 80 78 4 (vI (z.count+1)) 0 #[vP hN,vP hQ,vP hT,vI z.aA,vI (z.count+1),.map (some hW),.map (some hY)] fr (fun _=>trivial) fun z0 ft=>?_
     refine Op.gt 17 ?_
     refine At.rp 8 3 [(83,vQ u 4)] ?_
     refine Op.l1 3 83 84 4 (vI (z.count+1)) (ft.ah 0 rfl) ?_
     refine Op.px 2 [(86,.agg #[vI 0,vI (z.count+1),vI 0,vS [],vN,vI 0,vI (-1),vI 0,vI 0,vN,vN])] ?_
     refine Op.bx 87 43 86 #[vI 0,vI (z.count+1),vI 0,vS [],vN,vI 0,vI (-1),vI 0,vI 0,vN,vN] ft fun V z1 fv=>?_
     refine Op.pg 18 [(9,vP V)] ?_
     refine At.rp 6 2 [(88,vP u),(89,vP G)] ?_
     refine Op.l1 3 89 90 0 (vI e.Client) (fv.ah 7 rfl) ?_
     refine Op.px 2 [(91,vL dd op.length df),(92,vP V)] ?_
     have h8:=((((((fv.aa 0 rfl).aa 6 rfl).aa 6 rfl).aa 6 rfl).aa 6 rfl).aa 6 rfl).aa 6 rfl
     obtain⟨z2,h9,ib⟩:=St.bJ (Q:=cu a4 u (⟨z.au,z.aN,z.book,z.aA,z.count+1,z.events,z.aR⟩:Sp)) 6 h8 ⟨_,_,_,_,_,_,_,_,_,_,rfl,h2,h3,h4,h5,h6⟩
     have ih:=aJ.nil 9 eU a4
     have ii:=ib.nl
     have ik:=aJ.nil 45 dh a4
     have il:=ii.nl
     have io:=(((il.aa 2 rfl).aa 1 rfl).aa 2 rfl).aa 3 rfl
     obtain⟨z3,ip,is⟩:=St.bJ (Q:=fW a4 V (⟨0,z.count+1,0,⟨[],([]:an),0,(-1),0,0⟩,([]:List an),([]:List ak)⟩:Result)) 3 io ⟨_,_,_,_,_,rfl,(av.nil _ _ _),ih,ik⟩
     have dp:=(is.aa 0 rfl).aa 1 rfl
     refine Op.cl (some 93) 2 dp (Su _ _ _ dp.sub J u (⟨z.au,z.aN,z.book,z.aA,z.count+1,z.events,z.aR⟩:Sp) _ h9 e.Client _ _ bi V (⟨0,z.count+1,0,⟨[],([]:an),0,(-1),0,0⟩,([]:List an),([]:List ak)⟩:Result) _ ip hP (by(try dsimp only)<;>exact fj.more) (by(try dsimp only)<;>omega) (St.pt 2 dp)) ?_
     rintro _ a5 _ z4 iv i0 ⟨z5,z6,rfl,i1,i2,rfl⟩
     replace J:=J.mono iv
     refine Op.gt 19 ?_
     have fw:∀(m:Nat) (ce:GH) (fx:aM a5 ce) (w:Sp) (r:Result) (dq:ay) (du:ay) (dv:ax) (hm:0<m) (hw:w=Lq z e.Client op) (hr:r=gV z e.Client op) (a6:cu ce u w dq) (f0:fW ce V r du) (f1:St h g (aV [a9]) ce [dq,du,[(G,Obj.cells #[vI e.Client,vI e.bn,vI e.aX,vL ck e.kf.length co] 75 (0,0))]] dv),At (bX prog B 36 f36 R) [] 21 [(0,vP u),(4,vP G),(9,vP V)] dv:=by
      intro m;induction m with
      |zero=>intros;omega
      |succ m z7=>
       intro ce fx w r dq du dv hm hw hr a6 f0 f1
       replace J:=J.mono fx
       refine At.rp 9 2 [(112,vP V)] ?_
       obtain⟨z8,v105,i3,z9,i4,i5,bk,f2,c6⟩:=f0
       obtain⟨i6,i7,rfl⟩:=bk.aj
       obtain⟨i8,i9,rfl⟩:=f2.aj
       obtain⟨a117,jf,rfl⟩:=c6.aj
       have jj:=(f1.aa 0 rfl).aa 1 rfl
       have f3:=St.un [i3,i4] i5 jj
       refine Op.la 43 112 113 0 11 [vI r.Code,vI r.aZ,vI r.At,vS r.ag.af,vL i6 r.ag.Data.length i7,vI r.ag.ai,vI r.ag.aD,vI r.ag.Next,vI r.ag.aL,vL i8 r.bP.length i9,vL a117 r.aT.length jf] (f3.ah 0 rfl) ?_
       obtain⟨A0,jn,c8,dC⟩:=aJ.freeze f2 (f3.aa 1 rfl)
       replace bk:=bk.mono c8
       replace c6:=c6.mono c8
       replace J:=J.mono c8
       replace a6:=a6.mono c8
       obtain⟨A1,f4,c9,jt⟩:=aJ.freeze c6 (jn.aa 1 rfl)
       replace bk:=bk.mono c9
       replace J:=J.mono c9
       replace dC:=dC.mono c9
       replace a6:=a6.mono c9
       refine Op.c0 (some 114) (J7 _ _ _ f4.sub J r _ bk _ dC _ jt (by((try dsimp only)<;>((rw[hr,hz];exact hx hE))))) f4 ?_
       rintro _ f5 _ CH f6 j1 ⟨v131,rfl,dE,rfl⟩
       obtain⟨bm,bo,rfl⟩:=dE.aj
       replace J:=J.mono f6
       replace a6:=a6.mono f6
       refine Op.pg 22 [(10,vL bm (((cL r).1).length) bo)] ?_
       obtain⟨CM,j2,Eq,kc,EQ,kd,Fd,kh,dT,kk,kl,km,kv,kw,kx,kA⟩:=a6
       have k0:=(j1.aa 0 rfl).aa 1 rfl
       have da:=St.un [j2,kc,kd,kh,kk] kl k0
       refine At.dw (fun _=>False) [(0,true),(1,true),(2,true),(4,true),(6,true),(8,true),(3,true),(5,true),(7,false),(9,true),(1010,false),(10,false)] ?_
       refine Op.px 6 [(119,vQ u 6),(121,vP G),(123,vQ G 1),(125,vL bm (((cL r).1).length) bo)] ?_
       refine Op.lf 136 119 6 120 1 (.map (some dT)) (fun h=>h) (da.ah 0 rfl) ?_
       refine Op.lf 3 121 0 122 1 (vI e.Client) (fun h=>h) (da.ah 7 rfl) ?_
       refine Op.l1 3 123 124 1 (vI e.bn) (da.ah 7 rfl) ?_
       refine Op.px 1 [(126,.agg #[vI e.bn,vL bm (((cL r).1).length) bo])] ?_
       refine Op.ba ?_
       obtain⟨Fn,Fr,FS,rfl,k1,k2⟩:=kA
       refine Op.ms (.agg #[vI 0,vN]) 136 120 122 126 e.Client (.agg #[vI e.bn,vL bm (((cL r).1).length) bo]) da 5 k1 fun k3 k4 GE k5 f7=>?_
       have k6:=ga.p5 (k:=e.Client) (a:=(⟨e.bn,(cL r).1⟩:jA)) (v:=.agg #[vI e.bn,vL bm (((cL r).1).length) bo]) k2 ⟨_,rfl,dE⟩
       refine Op.gt 23 ?_
       refine At.rp 4 1 [(127,vL bm (((cL r).1).length) bo)] ?_
       refine Op.c0 (some 128) (om _ _ _ f7.sub J _ _ dE (by(try dsimp only)<;>exact Li _)) f7 ?_
       rintro _ k7 _ GT k8 lc ⟨Ha,lh,rfl,f8,cf,rfl⟩;subst k7;clear k8
       obtain⟨a171,d0,rfl⟩:=f8.aj
       refine Op.pg 24 [(6,vL a171 ((((cL r).1)).length) d0),(7,.bool true)] ?_
       have li:kq f5 dT (dJ w.aR e.Client (⟨e.bn,(cL r).1⟩:jA)) [(dT,.map k3 k4)]:=⟨_,_,_,rfl,k5,k6⟩
       have lj:=((((((lc.aa 0 rfl).aa 6 rfl).aa 6 rfl).aa 6 rfl).aa 6 rfl).aa 6 rfl).aa 6 rfl
       obtain⟨lk,ll,lm⟩:=St.bJ (Q:=cu f5 u (⟨w.au,w.aN,w.book,w.aA,w.count,w.events,(dJ w.aR e.Client (⟨e.bn,(cL r).1⟩:jA))⟩:Sp)) 6 lj ⟨_,_,_,_,_,_,_,_,_,_,rfl,km,kv,kw,kx,li⟩
       refine At.rt (.tuple #[vL a171 ((((cL r).1)).length) d0,.bool true]) ?_
       have ln:=(((lm.aa 1 rfl).aa 1 rfl).aa 3 rfl).aa 3 rfl
       exact hR ln.drop.drop ⟨(vL a171 ((((cL r).1)).length) d0),lh,lk,b7 rfl (aS (by exact(Fq (b:=op) hz hE hlt hw hr).2.1)),eV f8 (by exact(Fq (b:=op) hz hE hlt hw hr).1),ll.eq (by exact(Fq (b:=op) hz hE hlt hw hr).2.2),rfl⟩
     obtain⟨Hb,lr,Hc,lv,Hd,lw,ch,lx,Hk,ly,lA,f9,gc,ge,lL,gg⟩:=i1
     have lO:=St.un [lr,lv,lw,lx,ly] lA i0
     obtain⟨Hm,Hn,l0,HA,l2,l3,d1,d2,l4⟩:=i2
     obtain⟨gk,gn,rfl⟩:=d1.aj
     obtain⟨gs,g1,rfl⟩:=d2.aj
     obtain⟨HB,n212,rfl⟩:=l4.aj
     have l8:=((((((lO.aa 5 rfl).aa 5 rfl).aa 5 rfl).aa 5 rfl).aa 5 rfl).aa 5 rfl).aa 6 rfl
     have d3:=St.un [l0,l2] l3 l8
     refine At.dw (fun _=>False) [(0,true),(1,true),(2,true),(3,true),(5,true),(4,true),(6,false),(7,false),(8,true),(9,true),(1010,false),(10,false)] ?_
     refine Op.px 5 [(94,vP V),(97,vQ u 5),(99,vP G)] ?_
     refine Op.lf 135 97 5 98 1 (.map (some ch)) (fun h=>h) (d3.ah 3 rfl) ?_
     refine Op.l1 3 99 100 0 (vI e.Client) (d3.ah 9 rfl) ?_
     obtain⟨HI,H0,H1,ma,md,db,mf⟩:=lL
     have mi:=(((((((d3.aa 6 rfl).aa 6 rfl).aa 6 rfl).aa 6 rfl).aa 6 rfl).aa 6 rfl).aa 6 rfl).aa 7 rfl
     have d4:=St.un [ma] md mi
     rcases mf.iB e.Client with ⟨d5,ml,d6⟩|⟨H2,ci,H3,H4,d5,ml,g2,mp,d6⟩
     ·refine Op.mn (.slice none 0 0) 135 98 100 101 e.Client (d4.ah 0 rfl) db d5 ?_
      refine Op.px 2 [(103,vQ V 10)] ?_
      refine Op.ba ?_
      refine Op.s1 41 103 101 10 vN 2 #[vI ((cR (⟨z.au,z.aN,z.book,z.aA,z.count+1,z.events,z.aR⟩:Sp) e.Client op (⟨0,z.count+1,0,⟨[],([]:an),0,(-1),0,0⟩,([]:List an),([]:List ak)⟩:Result)).Code),vI ((cR (⟨z.au,z.aN,z.book,z.aA,z.count+1,z.events,z.aR⟩:Sp) e.Client op (⟨0,z.count+1,0,⟨[],([]:an),0,(-1),0,0⟩,([]:List an),([]:List ak)⟩:Result)).aZ),vI ((cR (⟨z.au,z.aN,z.book,z.aA,z.count+1,z.events,z.aR⟩:Sp) e.Client op (⟨0,z.count+1,0,⟨[],([]:an),0,(-1),0,0⟩,([]:List an),([]:List ak)⟩:Result)).At),vS ((cR (⟨z.au,z.aN,z.book,z.aA,z.count+1,z.events,z.aR⟩:Sp) e.Client op (⟨0,z.count+1,0,⟨[],([]:an),0,(-1),0,0⟩,([]:List an),([]:List ak)⟩:Result)).ag.af),vL gk (((cR (⟨z.au,z.aN,z.book,z.aA,z.count+1,z.events,z.aR⟩:Sp) e.Client op (⟨0,z.count+1,0,⟨[],([]:an),0,(-1),0,0⟩,([]:List an),([]:List ak)⟩:Result)).ag.Data).length) gn,vI ((cR (⟨z.au,z.aN,z.book,z.aA,z.count+1,z.events,z.aR⟩:Sp) e.Client op (⟨0,z.count+1,0,⟨[],([]:an),0,(-1),0,0⟩,([]:List an),([]:List ak)⟩:Result)).ag.ai),vI ((cR (⟨z.au,z.aN,z.book,z.aA,z.count+1,z.events,z.aR⟩:Sp) e.Client op (⟨0,z.count+1,0,⟨[],([]:an),0,(-1),0,0⟩,([]:List an),([]:List ak)⟩:Result)).ag.aD),vI ((cR (⟨z.au,z.aN,z.book,z.aA,z.count+1,z.events,z.aR⟩:Sp) e.Client op (⟨0,z.count+1,0,⟨[],([]:an),0,(-1),0,0⟩,([]:List an),([]:List ak)⟩:Result)).ag.Next),vI ((cR (⟨z.au,z.aN,z.book,z.aA,z.count+1,z.events,z.aR⟩:Sp) e.Client op (⟨0,z.count+1,0,⟨[],([]:an),0,(-1),0,0⟩,([]:List an),([]:List ak)⟩:Result)).ag.aL),vL gs (((cR (⟨z.au,z.aN,z.book,z.aA,z.count+1,z.events,z.aR⟩:Sp) e.Client op (⟨0,z.count+1,0,⟨[],([]:an),0,(-1),0,0⟩,([]:List an),([]:List ak)⟩:Result)).bP).length) g1,vN] d4 (fun _=>trivial) fun H5 d7=>?_
      refine Op.gt 20 ?_
      refine At.dw (fun _=>False) [(0,true),(1,true),(2,true),(4,true),(3,true),(5,false),(1006,false),(6,false)] ?_
      refine Op.px 4 [(106,vQ u 5),(108,vP G)] ?_
      refine Op.lf 135 106 5 107 1 (.map (some ch)) (fun h=>h) (d7.ah 5 rfl) ?_
      refine Op.l1 3 108 109 0 (vI e.Client) (d7.ah 10 rfl) ?_
      refine Op.ba ?_
      refine Op.BE (d:=.int .i64) (z:=.slice none 0 0) (mt:=135) (kt:=3) (x:=107) (ix:=109) (dst:=none) (k:=e.Client) (by kernel_rfl) (by kernel_rfl) mc (by kernel_rfl) (by kernel_rfl) d7 0 rfl db (fun _=>trivial) fun Id If mx my=>?_
      have m0:=d6.2 _ (aM.refl _)
      refine Op.gt 21 ?_
      obtain⟨IH,m1,m2⟩:=St.bJ (Q:=lV a5 ch (eF ((cF (⟨z.au,z.aN,z.book,z.aA,z.count+1,z.events,z.aR⟩:Sp) e.Client op).events) e.Client)) 2 my ⟨_,_,_,_,rfl,mx,m0⟩
      have m3:=((((((((m2.aa 3 rfl).aa 3 rfl).aa 3 rfl).aa 8 rfl).aa 4 rfl).aa 8 rfl).aa 8 rfl).aa 8 rfl).aa 8 rfl
      obtain⟨IO,m4,m5⟩:=St.bJ (Q:=cu a5 u (⟨(cF (⟨z.au,z.aN,z.book,z.aA,z.count+1,z.events,z.aR⟩:Sp) e.Client op).au,(cF (⟨z.au,z.aN,z.book,z.aA,z.count+1,z.events,z.aR⟩:Sp) e.Client op).aN,(cF (⟨z.au,z.aN,z.book,z.aA,z.count+1,z.events,z.aR⟩:Sp) e.Client op).book,(cF (⟨z.au,z.aN,z.book,z.aA,z.count+1,z.events,z.aR⟩:Sp) e.Client op).aA,(cF (⟨z.au,z.aN,z.book,z.aA,z.count+1,z.events,z.aR⟩:Sp) e.Client op).count,(eF ((cF (⟨z.au,z.aN,z.book,z.aA,z.count+1,z.events,z.aR⟩:Sp) e.Client op).events) e.Client),(cF (⟨z.au,z.aN,z.book,z.aA,z.count+1,z.events,z.aR⟩:Sp) e.Client op).aR⟩:Sp)) 6 m3 ⟨_,_,_,_,_,_,_,_,_,_,rfl,f9,gc,ge,m1,gg⟩
      have m6:=aJ.nil 45 dh a5
      have m7:=m5.nl
      have m8:=(((m7.aa 1 rfl).aa 1 rfl).aa 3 rfl).aa 3 rfl
      obtain⟨IR,m9,na⟩:=St.bJ (Q:=fW a5 V (⟨(cR (⟨z.au,z.aN,z.book,z.aA,z.count+1,z.events,z.aR⟩:Sp) e.Client op (⟨0,z.count+1,0,⟨[],([]:an),0,(-1),0,0⟩,([]:List an),([]:List ak)⟩:Result)).Code,(cR (⟨z.au,z.aN,z.book,z.aA,z.count+1,z.events,z.aR⟩:Sp) e.Client op (⟨0,z.count+1,0,⟨[],([]:an),0,(-1),0,0⟩,([]:List an),([]:List ak)⟩:Result)).aZ,(cR (⟨z.au,z.aN,z.book,z.aA,z.count+1,z.events,z.aR⟩:Sp) e.Client op (⟨0,z.count+1,0,⟨[],([]:an),0,(-1),0,0⟩,([]:List an),([]:List ak)⟩:Result)).At,⟨(cR (⟨z.au,z.aN,z.book,z.aA,z.count+1,z.events,z.aR⟩:Sp) e.Client op (⟨0,z.count+1,0,⟨[],([]:an),0,(-1),0,0⟩,([]:List an),([]:List ak)⟩:Result)).ag.af,(cR (⟨z.au,z.aN,z.book,z.aA,z.count+1,z.events,z.aR⟩:Sp) e.Client op (⟨0,z.count+1,0,⟨[],([]:an),0,(-1),0,0⟩,([]:List an),([]:List ak)⟩:Result)).ag.Data,(cR (⟨z.au,z.aN,z.book,z.aA,z.count+1,z.events,z.aR⟩:Sp) e.Client op (⟨0,z.count+1,0,⟨[],([]:an),0,(-1),0,0⟩,([]:List an),([]:List ak)⟩:Result)).ag.ai,(cR (⟨z.au,z.aN,z.book,z.aA,z.count+1,z.events,z.aR⟩:Sp) e.Client op (⟨0,z.count+1,0,⟨[],([]:an),0,(-1),0,0⟩,([]:List an),([]:List ak)⟩:Result)).ag.aD,(cR (⟨z.au,z.aN,z.book,z.aA,z.count+1,z.events,z.aR⟩:Sp) e.Client op (⟨0,z.count+1,0,⟨[],([]:an),0,(-1),0,0⟩,([]:List an),([]:List ak)⟩:Result)).ag.Next,(cR (⟨z.au,z.aN,z.book,z.aA,z.count+1,z.events,z.aR⟩:Sp) e.Client op (⟨0,z.count+1,0,⟨[],([]:an),0,(-1),0,0⟩,([]:List an),([]:List ak)⟩:Result)).ag.aL⟩,(cR (⟨z.au,z.aN,z.book,z.aA,z.count+1,z.events,z.aR⟩:Sp) e.Client op (⟨0,z.count+1,0,⟨[],([]:an),0,(-1),0,0⟩,([]:List an),([]:List ak)⟩:Result)).bP,([]:List ak)⟩:Result)) 3 m8 ⟨_,_,_,_,_,rfl,d1,d2,m6⟩
      have nb:=((na.aa 0 rfl).aa 1 rfl).aa 2 rfl
      have nd:=nb.drop
      exact At.ke (fw _ _ (by repeat (first|assumption|exact aM.refl _|apply aM.trans)) (⟨(cF (⟨z.au,z.aN,z.book,z.aA,z.count+1,z.events,z.aR⟩:Sp) e.Client op).au,(cF (⟨z.au,z.aN,z.book,z.aA,z.count+1,z.events,z.aR⟩:Sp) e.Client op).aN,(cF (⟨z.au,z.aN,z.book,z.aA,z.count+1,z.events,z.aR⟩:Sp) e.Client op).book,(cF (⟨z.au,z.aN,z.book,z.aA,z.count+1,z.events,z.aR⟩:Sp) e.Client op).aA,(cF (⟨z.au,z.aN,z.book,z.aA,z.count+1,z.events,z.aR⟩:Sp) e.Client op).count,(eF ((cF (⟨z.au,z.aN,z.book,z.aA,z.count+1,z.events,z.aR⟩:Sp) e.Client op).events) e.Client),(cF (⟨z.au,z.aN,z.book,z.aA,z.count+1,z.events,z.aR⟩:Sp) e.Client op).aR⟩:Sp) (⟨(cR (⟨z.au,z.aN,z.book,z.aA,z.count+1,z.events,z.aR⟩:Sp) e.Client op (⟨0,z.count+1,0,⟨[],([]:an),0,(-1),0,0⟩,([]:List an),([]:List ak)⟩:Result)).Code,(cR (⟨z.au,z.aN,z.book,z.aA,z.count+1,z.events,z.aR⟩:Sp) e.Client op (⟨0,z.count+1,0,⟨[],([]:an),0,(-1),0,0⟩,([]:List an),([]:List ak)⟩:Result)).aZ,(cR (⟨z.au,z.aN,z.book,z.aA,z.count+1,z.events,z.aR⟩:Sp) e.Client op (⟨0,z.count+1,0,⟨[],([]:an),0,(-1),0,0⟩,([]:List an),([]:List ak)⟩:Result)).At,⟨(cR (⟨z.au,z.aN,z.book,z.aA,z.count+1,z.events,z.aR⟩:Sp) e.Client op (⟨0,z.count+1,0,⟨[],([]:an),0,(-1),0,0⟩,([]:List an),([]:List ak)⟩:Result)).ag.af,(cR (⟨z.au,z.aN,z.book,z.aA,z.count+1,z.events,z.aR⟩:Sp) e.Client op (⟨0,z.count+1,0,⟨[],([]:an),0,(-1),0,0⟩,([]:List an),([]:List ak)⟩:Result)).ag.Data,(cR (⟨z.au,z.aN,z.book,z.aA,z.count+1,z.events,z.aR⟩:Sp) e.Client op (⟨0,z.count+1,0,⟨[],([]:an),0,(-1),0,0⟩,([]:List an),([]:List ak)⟩:Result)).ag.ai,(cR (⟨z.au,z.aN,z.book,z.aA,z.count+1,z.events,z.aR⟩:Sp) e.Client op (⟨0,z.count+1,0,⟨[],([]:an),0,(-1),0,0⟩,([]:List an),([]:List ak)⟩:Result)).ag.aD,(cR (⟨z.au,z.aN,z.book,z.aA,z.count+1,z.events,z.aR⟩:Sp) e.Client op (⟨0,z.count+1,0,⟨[],([]:an),0,(-1),0,0⟩,([]:List an),([]:List ak)⟩:Result)).ag.Next,(cR (⟨z.au,z.aN,z.book,z.aA,z.count+1,z.events,z.aR⟩:Sp) e.Client op (⟨0,z.count+1,0,⟨[],([]:an),0,(-1),0,0⟩,([]:List an),([]:List ak)⟩:Result)).ag.aL⟩,(cR (⟨z.au,z.aN,z.book,z.aA,z.count+1,z.events,z.aR⟩:Sp) e.Client op (⟨0,z.count+1,0,⟨[],([]:an),0,(-1),0,0⟩,([]:List an),([]:List ak)⟩:Result)).bP,([]:List ak)⟩:Result) _ _ _ (bM _) (by rfl) (by exact SX ‹_›) m4 m9 nd)
     obtain⟨d8,d9,rfl⟩:=g2.aj
     have nf:=(d4.aa 0 rfl).aa 1 rfl
     have g3:=St.u0 mp nf
     refine Op.mk (.slice none 0 0) 135 98 100 101 e.Client (vL d8 ci.length d9) (g3.ah 2 rfl) db d5 ?_
     refine Op.px 2 [(103,vQ V 10)] ?_
     refine Op.ba ?_
     refine Op.s1 41 103 101 10 (vL d8 ci.length d9) 3 #[vI ((cR (⟨z.au,z.aN,z.book,z.aA,z.count+1,z.events,z.aR⟩:Sp) e.Client op (⟨0,z.count+1,0,⟨[],([]:an),0,(-1),0,0⟩,([]:List an),([]:List ak)⟩:Result)).Code),vI ((cR (⟨z.au,z.aN,z.book,z.aA,z.count+1,z.events,z.aR⟩:Sp) e.Client op (⟨0,z.count+1,0,⟨[],([]:an),0,(-1),0,0⟩,([]:List an),([]:List ak)⟩:Result)).aZ),vI ((cR (⟨z.au,z.aN,z.book,z.aA,z.count+1,z.events,z.aR⟩:Sp) e.Client op (⟨0,z.count+1,0,⟨[],([]:an),0,(-1),0,0⟩,([]:List an),([]:List ak)⟩:Result)).At),vS ((cR (⟨z.au,z.aN,z.book,z.aA,z.count+1,z.events,z.aR⟩:Sp) e.Client op (⟨0,z.count+1,0,⟨[],([]:an),0,(-1),0,0⟩,([]:List an),([]:List ak)⟩:Result)).ag.af),vL gk (((cR (⟨z.au,z.aN,z.book,z.aA,z.count+1,z.events,z.aR⟩:Sp) e.Client op (⟨0,z.count+1,0,⟨[],([]:an),0,(-1),0,0⟩,([]:List an),([]:List ak)⟩:Result)).ag.Data).length) gn,vI ((cR (⟨z.au,z.aN,z.book,z.aA,z.count+1,z.events,z.aR⟩:Sp) e.Client op (⟨0,z.count+1,0,⟨[],([]:an),0,(-1),0,0⟩,([]:List an),([]:List ak)⟩:Result)).ag.ai),vI ((cR (⟨z.au,z.aN,z.book,z.aA,z.count+1,z.events,z.aR⟩:Sp) e.Client op (⟨0,z.count+1,0,⟨[],([]:an),0,(-1),0,0⟩,([]:List an),([]:List ak)⟩:Result)).ag.aD),vI ((cR (⟨z.au,z.aN,z.book,z.aA,z.count+1,z.events,z.aR⟩:Sp) e.Client op (⟨0,z.count+1,0,⟨[],([]:an),0,(-1),0,0⟩,([]:List an),([]:List ak)⟩:Result)).ag.Next),vI ((cR (⟨z.au,z.aN,z.book,z.aA,z.count+1,z.events,z.aR⟩:Sp) e.Client op (⟨0,z.count+1,0,⟨[],([]:an),0,(-1),0,0⟩,([]:List an),([]:List ak)⟩:Result)).ag.aL),vL gs (((cR (⟨z.au,z.aN,z.book,z.aA,z.count+1,z.events,z.aR⟩:Sp) e.Client op (⟨0,z.count+1,0,⟨[],([]:an),0,(-1),0,0⟩,([]:List an),([]:List ak)⟩:Result)).bP).length) g1,vL d8 ci.length d9] g3 (fun _=>trivial) fun I8 ed=>?_
     refine Op.gt 20 ?_
     refine At.dw (fun _=>False) [(0,true),(1,true),(2,true),(4,true),(3,true),(5,false),(1006,false),(6,false)] ?_
     refine Op.px 4 [(106,vQ u 5),(108,vP G)] ?_
     refine Op.lf 135 106 5 107 1 (.map (some ch)) (fun h=>h) (ed.ah 6 rfl) ?_
     refine Op.l1 3 108 109 0 (vI e.Client) (ed.ah 11 rfl) ?_
     refine Op.ba ?_
     refine Op.BE (d:=.int .i64) (z:=.slice none 0 0) (mt:=135) (kt:=3) (x:=107) (ix:=109) (dst:=none) (k:=e.Client) (by kernel_rfl) (by kernel_rfl) mc (by kernel_rfl) (by kernel_rfl) ed 2 rfl db (fun _=>trivial) fun Ly LE nm nn=>?_
     have no:=d6.2 _ (aM.refl _)
     refine Op.gt 21 ?_
     have np:=((nn.aa 0 rfl).aa 1 rfl).aa 2 rfl
     obtain⟨LO,nu,nx⟩:=St.bJ (Q:=lV a5 ch (eF ((cF (⟨z.au,z.aN,z.book,z.aA,z.count+1,z.events,z.aR⟩:Sp) e.Client op).events) e.Client)) 2 np ⟨_,_,_,_,rfl,nm,no⟩
     have nz:=(((((((((nx.aa 4 rfl).aa 4 rfl).aa 4 rfl).aa 4 rfl).aa 9 rfl).aa 5 rfl).aa 9 rfl).aa 9 rfl).aa 9 rfl).aa 9 rfl
     obtain⟨M2,n0,n3⟩:=St.bJ (Q:=cu a5 u (⟨(cF (⟨z.au,z.aN,z.book,z.aA,z.count+1,z.events,z.aR⟩:Sp) e.Client op).au,(cF (⟨z.au,z.aN,z.book,z.aA,z.count+1,z.events,z.aR⟩:Sp) e.Client op).aN,(cF (⟨z.au,z.aN,z.book,z.aA,z.count+1,z.events,z.aR⟩:Sp) e.Client op).book,(cF (⟨z.au,z.aN,z.book,z.aA,z.count+1,z.events,z.aR⟩:Sp) e.Client op).aA,(cF (⟨z.au,z.aN,z.book,z.aA,z.count+1,z.events,z.aR⟩:Sp) e.Client op).count,(eF ((cF (⟨z.au,z.aN,z.book,z.aA,z.count+1,z.events,z.aR⟩:Sp) e.Client op).events) e.Client),(cF (⟨z.au,z.aN,z.book,z.aA,z.count+1,z.events,z.aR⟩:Sp) e.Client op).aR⟩:Sp)) 6 nz ⟨_,_,_,_,_,_,_,_,_,_,rfl,f9,gc,ge,nu,gg⟩
     have oi:=(((n3.aa 0 rfl).aa 1 rfl).aa 3 rfl).aa 3 rfl
     obtain⟨Ne,oj,ol⟩:=St.bJ (Q:=fW a5 V (⟨(cR (⟨z.au,z.aN,z.book,z.aA,z.count+1,z.events,z.aR⟩:Sp) e.Client op (⟨0,z.count+1,0,⟨[],([]:an),0,(-1),0,0⟩,([]:List an),([]:List ak)⟩:Result)).Code,(cR (⟨z.au,z.aN,z.book,z.aA,z.count+1,z.events,z.aR⟩:Sp) e.Client op (⟨0,z.count+1,0,⟨[],([]:an),0,(-1),0,0⟩,([]:List an),([]:List ak)⟩:Result)).aZ,(cR (⟨z.au,z.aN,z.book,z.aA,z.count+1,z.events,z.aR⟩:Sp) e.Client op (⟨0,z.count+1,0,⟨[],([]:an),0,(-1),0,0⟩,([]:List an),([]:List ak)⟩:Result)).At,⟨(cR (⟨z.au,z.aN,z.book,z.aA,z.count+1,z.events,z.aR⟩:Sp) e.Client op (⟨0,z.count+1,0,⟨[],([]:an),0,(-1),0,0⟩,([]:List an),([]:List ak)⟩:Result)).ag.af,(cR (⟨z.au,z.aN,z.book,z.aA,z.count+1,z.events,z.aR⟩:Sp) e.Client op (⟨0,z.count+1,0,⟨[],([]:an),0,(-1),0,0⟩,([]:List an),([]:List ak)⟩:Result)).ag.Data,(cR (⟨z.au,z.aN,z.book,z.aA,z.count+1,z.events,z.aR⟩:Sp) e.Client op (⟨0,z.count+1,0,⟨[],([]:an),0,(-1),0,0⟩,([]:List an),([]:List ak)⟩:Result)).ag.ai,(cR (⟨z.au,z.aN,z.book,z.aA,z.count+1,z.events,z.aR⟩:Sp) e.Client op (⟨0,z.count+1,0,⟨[],([]:an),0,(-1),0,0⟩,([]:List an),([]:List ak)⟩:Result)).ag.aD,(cR (⟨z.au,z.aN,z.book,z.aA,z.count+1,z.events,z.aR⟩:Sp) e.Client op (⟨0,z.count+1,0,⟨[],([]:an),0,(-1),0,0⟩,([]:List an),([]:List ak)⟩:Result)).ag.Next,(cR (⟨z.au,z.aN,z.book,z.aA,z.count+1,z.events,z.aR⟩:Sp) e.Client op (⟨0,z.count+1,0,⟨[],([]:an),0,(-1),0,0⟩,([]:List an),([]:List ak)⟩:Result)).ag.aL⟩,(cR (⟨z.au,z.aN,z.book,z.aA,z.count+1,z.events,z.aR⟩:Sp) e.Client op (⟨0,z.count+1,0,⟨[],([]:an),0,(-1),0,0⟩,([]:List an),([]:List ak)⟩:Result)).bP,ci⟩:Result)) 3 oi ⟨_,_,_,_,_,rfl,d1,d2,g2⟩
     have or:=((ol.aa 0 rfl).aa 1 rfl).aa 2 rfl
     have o3:=or.drop
     exact At.ke (fw _ _ (by repeat (first|assumption|exact aM.refl _|apply aM.trans)) (⟨(cF (⟨z.au,z.aN,z.book,z.aA,z.count+1,z.events,z.aR⟩:Sp) e.Client op).au,(cF (⟨z.au,z.aN,z.book,z.aA,z.count+1,z.events,z.aR⟩:Sp) e.Client op).aN,(cF (⟨z.au,z.aN,z.book,z.aA,z.count+1,z.events,z.aR⟩:Sp) e.Client op).book,(cF (⟨z.au,z.aN,z.book,z.aA,z.count+1,z.events,z.aR⟩:Sp) e.Client op).aA,(cF (⟨z.au,z.aN,z.book,z.aA,z.count+1,z.events,z.aR⟩:Sp) e.Client op).count,(eF ((cF (⟨z.au,z.aN,z.book,z.aA,z.count+1,z.events,z.aR⟩:Sp) e.Client op).events) e.Client),(cF (⟨z.au,z.aN,z.book,z.aA,z.count+1,z.events,z.aR⟩:Sp) e.Client op).aR⟩:Sp) (⟨(cR (⟨z.au,z.aN,z.book,z.aA,z.count+1,z.events,z.aR⟩:Sp) e.Client op (⟨0,z.count+1,0,⟨[],([]:an),0,(-1),0,0⟩,([]:List an),([]:List ak)⟩:Result)).Code,(cR (⟨z.au,z.aN,z.book,z.aA,z.count+1,z.events,z.aR⟩:Sp) e.Client op (⟨0,z.count+1,0,⟨[],([]:an),0,(-1),0,0⟩,([]:List an),([]:List ak)⟩:Result)).aZ,(cR (⟨z.au,z.aN,z.book,z.aA,z.count+1,z.events,z.aR⟩:Sp) e.Client op (⟨0,z.count+1,0,⟨[],([]:an),0,(-1),0,0⟩,([]:List an),([]:List ak)⟩:Result)).At,⟨(cR (⟨z.au,z.aN,z.book,z.aA,z.count+1,z.events,z.aR⟩:Sp) e.Client op (⟨0,z.count+1,0,⟨[],([]:an),0,(-1),0,0⟩,([]:List an),([]:List ak)⟩:Result)).ag.af,(cR (⟨z.au,z.aN,z.book,z.aA,z.count+1,z.events,z.aR⟩:Sp) e.Client op (⟨0,z.count+1,0,⟨[],([]:an),0,(-1),0,0⟩,([]:List an),([]:List ak)⟩:Result)).ag.Data,(cR (⟨z.au,z.aN,z.book,z.aA,z.count+1,z.events,z.aR⟩:Sp) e.Client op (⟨0,z.count+1,0,⟨[],([]:an),0,(-1),0,0⟩,([]:List an),([]:List ak)⟩:Result)).ag.ai,(cR (⟨z.au,z.aN,z.book,z.aA,z.count+1,z.events,z.aR⟩:Sp) e.Client op (⟨0,z.count+1,0,⟨[],([]:an),0,(-1),0,0⟩,([]:List an),([]:List ak)⟩:Result)).ag.aD,(cR (⟨z.au,z.aN,z.book,z.aA,z.count+1,z.events,z.aR⟩:Sp) e.Client op (⟨0,z.count+1,0,⟨[],([]:an),0,(-1),0,0⟩,([]:List an),([]:List ak)⟩:Result)).ag.Next,(cR (⟨z.au,z.aN,z.book,z.aA,z.count+1,z.events,z.aR⟩:Sp) e.Client op (⟨0,z.count+1,0,⟨[],([]:an),0,(-1),0,0⟩,([]:List an),([]:List ak)⟩:Result)).ag.aL⟩,(cR (⟨z.au,z.aN,z.book,z.aA,z.count+1,z.events,z.aR⟩:Sp) e.Client op (⟨0,z.count+1,0,⟨[],([]:an),0,(-1),0,0⟩,([]:List an),([]:List ak)⟩:Result)).bP,ci⟩:Result) _ _ _ (bM _) (by rfl) (by exact SY ‹_›) n0 oj o3)
   obtain⟨Nm,o4,NE,pa,Ok,pb,Or,pc,I,pd,pf,X,Y,ab,ad,g4⟩:=bj
   have ph:=(ae.aa 0 rfl).aa 1 rfl
   have am:=St.un [o4,pa,pb,pc,pd] pf ph
   refine At.gQ (by kernel_rfl) (fun _=>False) [(0,true),(1,true),(2,true),(4,true),(3,true),(5,true)] [(6,false),(7,false),(1008,false),(8,false)] [(7,false),(6,false),(1008,false),(8,false)] (by kernel_rfl) ?_ ?_
   ·show Op _ _ _ _ _ [(0,true),(1,true),(2,true),(4,true),(3,true),(5,true),(6,false),(7,false),(1008,false),(8,false)] _ _
    refine Op.px 4 [(54,vQ u 6),(56,vP G)] ?_
    refine Op.lf 136 54 6 55 1 (.map (some I)) (fun h=>h) (am.ah 0 rfl) ?_
    refine Op.lf 3 56 0 57 1 (vI e.Client) (fun h=>h) (am.ah 6 rfl) ?_
    obtain⟨bt,b3,Os,rfl,a7,bd⟩:=g4
    rcases bd.iB e.Client with ⟨ee,pj⟩|⟨Pi,O,ee,pj,pl⟩
    ·refine Op.mn (.agg #[vI 0,vN]) 136 55 57 58 e.Client (am.ah 5 rfl) a7 ee ?_
     refine Op.al 8 143 #[vI 0,vN] am fun ef Pl pm=>?_
     refine Op.ba ?_
     refine Op.sg 143 8 58 0 0 #[vI 0,vN] pm (fun _=>trivial) fun Ps ar=>?_
     refine Op.gt 8 ?_
     refine At.rp 6 1 [(60,vQ G 1)] ?_
     refine Op.l1 3 60 61 1 (vI e.bn) (ar.ah 7 rfl) ?_
     refine Op.px 1 [(62,vP ef)] ?_
     refine Op.l1 3 62 63 0 (vI 0) (ar.ah 0 rfl) ?_
     refine Op.pg 9 [(59,.bool (decide (e.bn<0)))] ?_
     refine At.fd (e.bn<0) 59 10 12 (fun PH=>?_) fun PP=>?_
     ·refine At.go 11 2 [(6,vN),(7,.bool false)] ?_
      have po:=aJ.zero 5 br D none
      have pu:=ar.nl
      have pv:kq D I y.aR [(I,.map bt b3)]:=⟨_,_,_,rfl,a7,bd⟩
      have pw:=(((((((pu.aa 1 rfl).aa 1 rfl).aa 7 rfl).aa 7 rfl).aa 7 rfl).aa 7 rfl).aa 7 rfl).aa 7 rfl
      obtain⟨py,pA,pB⟩:=St.bJ (Q:=cu D u y) 6 pw ⟨_,_,_,_,_,_,_,_,_,_,rfl,X,Y,ab,ad,pv⟩
      refine At.rt (.tuple #[vN,.bool false]) ?_
      have pC:=(((pB.aa 1 rfl).aa 1 rfl).aa 3 rfl).aa 3 rfl
      exact hR pC.drop.drop ⟨vN,[],py,b7 rfl (aS (by exact(yh (b:=op) hy (iT ‹_› ‹_› ‹_› ‹_›) ‹_› ‹_›).2.1)),eV po (by exact(yh (b:=op) hy (iT ‹_› ‹_› ‹_› ‹_›) ‹_› ‹_›).1),pA.eq (by exact(yh (b:=op) hy (iT ‹_› ‹_› ‹_› ‹_›) ‹_› ‹_›).2.2),rfl⟩
     refine At.rp 6 1 [(66,vQ G 1)] ?_
     refine Op.l1 3 66 67 1 (vI e.bn) (ar.ah 7 rfl) ?_
     refine Op.px 1 [(68,vP ef)] ?_
     refine Op.l1 3 68 69 0 (vI 0) (ar.ah 0 rfl) ?_
     refine Op.pg 13 [(65,.bool (e.bn==0))] ?_
     refine At.fd (e.bn=0) 65 14 16 (fun PQ=>?_) fun P1=>?_
     ·refine At.rp 5 1 [(71,vQ ef 1)] ?_
      refine Op.l1 22 71 72 1 vN (ar.ah 0 rfl) ?_
      refine Op.c0 (some 73) (om _ _ _ ar.sub J _ _ (av.nil _ _ _) (by(try dsimp only)<;>omega)) ar ?_
      rintro _ pD _ P2 p0 p1 ⟨QP,p2,rfl,g5,cf,rfl⟩;subst pD;clear p0
      obtain⟨eh,n331,rfl⟩:=g5.aj
      refine Op.pg 11 [(6,vL eh ((([]:an)).length) n331),(7,.bool false)] ?_
      have p3:kq D I y.aR [(I,.map bt b3)]:=⟨_,_,_,rfl,a7,bd⟩
      have p8:=(((((((p1.aa 1 rfl).aa 1 rfl).aa 7 rfl).aa 7 rfl).aa 7 rfl).aa 7 rfl).aa 7 rfl).aa 7 rfl
      obtain⟨qr,q0,q1⟩:=St.bJ (Q:=cu D u y) 6 p8 ⟨_,_,_,_,_,_,_,_,_,_,rfl,X,Y,ab,ad,p3⟩
      refine At.rt (.tuple #[vL eh ((([]:an)).length) n331,.bool false]) ?_
      have q2:=(((q1.aa 1 rfl).aa 1 rfl).aa 3 rfl).aa 3 rfl
      exact hR q2.drop.drop ⟨(vL eh ((([]:an)).length) n331),p2,qr,b7 rfl (aS (by exact(yl (b:=op) hy (iT ‹_› ‹_› ‹_› ‹_›) ‹_› ‹_›).2.1)),eV g5 (by exact(yl (b:=op) hy (iT ‹_› ‹_› ‹_› ‹_›) ‹_› ‹_›).1),q0.eq (by exact(yl (b:=op) hy (iT ‹_› ‹_› ‹_› ‹_›) ‹_› ‹_›).2.2),rfl⟩
     have q3:kq D I y.aR [(I,.map bt b3)]:=⟨_,_,_,rfl,a7,bd⟩
     have q4:=((((((ar.aa 0 rfl).aa 6 rfl).aa 6 rfl).aa 6 rfl).aa 6 rfl).aa 6 rfl).aa 6 rfl
     obtain⟨QQ,q5,q6⟩:=St.bJ (Q:=cu D u y) 6 q4 ⟨_,_,_,_,_,_,_,_,_,_,rfl,X,Y,ab,ad,q3⟩
     have ra:=((q6.aa 0 rfl).aa 2 rfl).aa 2 rfl
     have rb:=ra.drop
     exact At.ke (c4 _ _ (by repeat (first|assumption|exact aM.refl _|apply aM.trans)) y _ _ (bM _) (by exact hy) (by exact ca) (by exact cb) (by exact(iT ‹_› ‹_› ‹_› ‹_›)) (by exact Ll ‹_› ‹_› ‹_›) q5 rb)
    obtain⟨QR,rfl,g6⟩:=pl
    obtain⟨ej,em,rfl⟩:=g6.aj
    refine Op.mk (.agg #[vI 0,vN]) 136 55 57 58 e.Client (.agg #[vI O.cW,vL ej (O.data.length) em]) (am.ah 5 rfl) a7 ee ?_
    refine Op.al 8 143 #[vI 0,vN] am fun en Rd rc=>?_
    refine Op.ba ?_
    refine Op.sg 143 8 58 0 0 #[vI O.cW,vL ej (O.data.length) em] rc (fun _=>trivial) fun RK aw=>?_
    refine Op.gt 8 ?_
    refine At.rp 6 1 [(60,vQ G 1)] ?_
    refine Op.l1 3 60 61 1 (vI e.bn) (aw.ah 7 rfl) ?_
    refine Op.px 1 [(62,vP en)] ?_
    refine Op.l1 3 62 63 0 (vI O.cW) (aw.ah 0 rfl) ?_
    refine Op.pg 9 [(59,.bool (decide (e.bn<O.cW)))] ?_
    refine At.fd (e.bn<O.cW) 59 10 12 (fun R2=>?_) fun So=>?_
    ·refine At.go 11 2 [(6,vN),(7,.bool false)] ?_
     have rd:=aJ.zero 5 br D none
     have re:=aw.nl
     have rf:kq D I y.aR [(I,.map bt b3)]:=⟨_,_,_,rfl,a7,bd⟩
     have rh:=(((((((re.aa 1 rfl).aa 1 rfl).aa 7 rfl).aa 7 rfl).aa 7 rfl).aa 7 rfl).aa 7 rfl).aa 7 rfl
     obtain⟨rk,rn,rr⟩:=St.bJ (Q:=cu D u y) 6 rh ⟨_,_,_,_,_,_,_,_,_,_,rfl,X,Y,ab,ad,rf⟩
     refine At.rt (.tuple #[vN,.bool false]) ?_
     have rv:=(((rr.aa 1 rfl).aa 1 rfl).aa 3 rfl).aa 3 rfl
     exact hR rv.drop.drop ⟨vN,[],rk,b7 rfl (aS (by exact(yj (b:=op) hy (iT ‹_› ‹_› ‹_› ‹_›) ‹_› ‹_›).2.1)),eV rd (by exact(yj (b:=op) hy (iT ‹_› ‹_› ‹_› ‹_›) ‹_› ‹_›).1),rn.eq (by exact(yj (b:=op) hy (iT ‹_› ‹_› ‹_› ‹_›) ‹_› ‹_›).2.2),rfl⟩
    refine At.rp 6 1 [(66,vQ G 1)] ?_
    refine Op.l1 3 66 67 1 (vI e.bn) (aw.ah 7 rfl) ?_
    refine Op.px 1 [(68,vP en)] ?_
    refine Op.l1 3 68 69 0 (vI O.cW) (aw.ah 0 rfl) ?_
    refine Op.pg 13 [(65,.bool (e.bn==O.cW))] ?_
    refine At.fd (e.bn=O.cW) 65 14 16 (fun ST=>?_) fun T1=>?_
    ·refine At.rp 5 1 [(71,vQ en 1)] ?_
     refine Op.l1 22 71 72 1 (vL ej (O.data.length) em) (aw.ah 0 rfl) ?_
     refine Op.c0 (some 73) (om _ _ _ aw.sub J _ _ g6 (by((try dsimp only)<;>(exact Lj fa dj ‹_›)))) aw ?_
     rintro _ rx _ T2 r0 r1 ⟨UV,r2,rfl,g7,cf,rfl⟩;subst rx;clear r0
     obtain⟨ep,er,rfl⟩:=g7.aj
     refine Op.pg 11 [(6,vL ep (O.data.length) er),(7,.bool false)] ?_
     have r3:kq D I y.aR [(I,.map bt b3)]:=⟨_,_,_,rfl,a7,bd⟩
     have sc:=(((((((r1.aa 1 rfl).aa 1 rfl).aa 7 rfl).aa 7 rfl).aa 7 rfl).aa 7 rfl).aa 7 rfl).aa 7 rfl
     obtain⟨sd,sf,sh⟩:=St.bJ (Q:=cu D u y) 6 sc ⟨_,_,_,_,_,_,_,_,_,_,rfl,X,Y,ab,ad,r3⟩
     refine At.rt (.tuple #[vL ep (O.data.length) er,.bool false]) ?_
     have sk:=(((sh.aa 1 rfl).aa 1 rfl).aa 3 rfl).aa 3 rfl
     exact hR sk.drop.drop ⟨(vL ep (O.data.length) er),r2,sd,b7 rfl (aS (by exact(ym (b:=op) hy (iT ‹_› ‹_› ‹_› ‹_›) ‹_› ‹_›).2.1)),eV g7 (by exact(ym (b:=op) hy (iT ‹_› ‹_› ‹_› ‹_›) ‹_› ‹_›).1),sf.eq (by exact(ym (b:=op) hy (iT ‹_› ‹_› ‹_› ‹_›) ‹_› ‹_›).2.2),rfl⟩
    have sm:kq D I y.aR [(I,.map bt b3)]:=⟨_,_,_,rfl,a7,bd⟩
    have so:=((((((aw.aa 0 rfl).aa 6 rfl).aa 6 rfl).aa 6 rfl).aa 6 rfl).aa 6 rfl).aa 6 rfl
    obtain⟨UX,ss,sA⟩:=St.bJ (Q:=cu D u y) 6 so ⟨_,_,_,_,_,_,_,_,_,_,rfl,X,Y,ab,ad,sm⟩
    have sB:=((sA.aa 0 rfl).aa 2 rfl).aa 2 rfl
    have sT:=sB.drop
    exact At.ke (c4 _ _ (by repeat (first|assumption|exact aM.refl _|apply aM.trans)) y _ _ (bM _) (by exact hy) (by exact ca) (by exact cb) (by exact(iT ‹_› ‹_› ‹_› ‹_›)) (by exact Lm ‹_› ‹_› ‹_›) ss sT)
   show Op _ _ _ _ _ [(0,true),(1,true),(2,true),(4,true),(3,true),(5,true),(7,false),(6,false),(1008,false),(8,false)] _ _
   refine Op.px 4 [(54,vQ u 6),(56,vP G)] ?_
   refine Op.lf 136 54 6 55 1 (.map (some I)) (fun h=>h) (am.ah 0 rfl) ?_
   refine Op.lf 3 56 0 57 1 (vI e.Client) (fun h=>h) (am.ah 6 rfl) ?_
   refine Op.al 8 143 #[vI 0,vN] am fun b4 UY dc=>?_
   obtain⟨b5,b6,UZ,rfl,a8,be⟩:=g4
   rcases be.iB e.Client with ⟨et,s0⟩|⟨U0,U,et,s0,s2⟩
   ·refine Op.mn (.agg #[vI 0,vN]) 136 55 57 58 e.Client (dc.ah 6 rfl) a8 et ?_
    refine Op.ba ?_
    refine Op.sg 143 8 58 0 0 #[vI 0,vN] dc (fun _=>trivial) fun U1 a0=>?_
    refine Op.gt 8 ?_
    refine At.rp 6 1 [(60,vQ G 1)] ?_
    refine Op.l1 3 60 61 1 (vI e.bn) (a0.ah 7 rfl) ?_
    refine Op.px 1 [(62,vP b4)] ?_
    refine Op.l1 3 62 63 0 (vI 0) (a0.ah 0 rfl) ?_
    refine Op.pg 9 [(59,.bool (decide (e.bn<0)))] ?_
    refine At.fd (e.bn<0) 59 10 12 (fun U2=>?_) fun U3=>?_
    ·refine At.go 11 2 [(6,vN),(7,.bool false)] ?_
     have s3:=aJ.zero 5 br D none
     have s4:=a0.nl
     have s8:kq D I y.aR [(I,.map b5 b6)]:=⟨_,_,_,rfl,a8,be⟩
     have ta:=(((((((s4.aa 1 rfl).aa 1 rfl).aa 7 rfl).aa 7 rfl).aa 7 rfl).aa 7 rfl).aa 7 rfl).aa 7 rfl
     obtain⟨te,th,ti⟩:=St.bJ (Q:=cu D u y) 6 ta ⟨_,_,_,_,_,_,_,_,_,_,rfl,X,Y,ab,ad,s8⟩
     refine At.rt (.tuple #[vN,.bool false]) ?_
     have tk:=(((ti.aa 1 rfl).aa 1 rfl).aa 3 rfl).aa 3 rfl
     exact hR tk.drop.drop ⟨vN,[],te,b7 rfl (aS (by exact(yh (b:=op) hy (iT ‹_› ‹_› ‹_› ‹_›) ‹_› ‹_›).2.1)),eV s3 (by exact(yh (b:=op) hy (iT ‹_› ‹_› ‹_› ‹_›) ‹_› ‹_›).1),th.eq (by exact(yh (b:=op) hy (iT ‹_› ‹_› ‹_› ‹_›) ‹_› ‹_›).2.2),rfl⟩
    refine At.rp 6 1 [(66,vQ G 1)] ?_
    refine Op.l1 3 66 67 1 (vI e.bn) (a0.ah 7 rfl) ?_
    refine Op.px 1 [(68,vP b4)] ?_
    refine Op.l1 3 68 69 0 (vI 0) (a0.ah 0 rfl) ?_
    refine Op.pg 13 [(65,.bool (e.bn==0))] ?_
    refine At.fd (e.bn=0) 65 14 16 (fun U4=>?_) fun U5=>?_
    ·refine At.rp 5 1 [(71,vQ b4 1)] ?_
     refine Op.l1 22 71 72 1 vN (a0.ah 0 rfl) ?_
     refine Op.c0 (some 73) (om _ _ _ a0.sub J _ _ (av.nil _ _ _) (by(try dsimp only)<;>omega)) a0 ?_
     rintro _ tl _ U6 tm tp ⟨U7,tt,rfl,g8,cf,rfl⟩;subst tl;clear tm
     obtain⟨ex,eA,rfl⟩:=g8.aj
     refine Op.pg 11 [(6,vL ex ((([]:an)).length) eA),(7,.bool false)] ?_
     have tx:kq D I y.aR [(I,.map b5 b6)]:=⟨_,_,_,rfl,a8,be⟩
     have tz:=(((((((tp.aa 1 rfl).aa 1 rfl).aa 7 rfl).aa 7 rfl).aa 7 rfl).aa 7 rfl).aa 7 rfl).aa 7 rfl
     obtain⟨tA,tB,tR⟩:=St.bJ (Q:=cu D u y) 6 tz ⟨_,_,_,_,_,_,_,_,_,_,rfl,X,Y,ab,ad,tx⟩
     refine At.rt (.tuple #[vL ex ((([]:an)).length) eA,.bool false]) ?_
     have tS:=(((tR.aa 1 rfl).aa 1 rfl).aa 3 rfl).aa 3 rfl
     exact hR tS.drop.drop ⟨(vL ex ((([]:an)).length) eA),tt,tA,b7 rfl (aS (by exact(yl (b:=op) hy (iT ‹_› ‹_› ‹_› ‹_›) ‹_› ‹_›).2.1)),eV g8 (by exact(yl (b:=op) hy (iT ‹_› ‹_› ‹_› ‹_›) ‹_› ‹_›).1),tB.eq (by exact(yl (b:=op) hy (iT ‹_› ‹_› ‹_› ‹_›) ‹_› ‹_›).2.2),rfl⟩
    have t0:kq D I y.aR [(I,.map b5 b6)]:=⟨_,_,_,rfl,a8,be⟩
    have t1:=((((((a0.aa 0 rfl).aa 6 rfl).aa 6 rfl).aa 6 rfl).aa 6 rfl).aa 6 rfl).aa 6 rfl
    obtain⟨U8,t2,t3⟩:=St.bJ (Q:=cu D u y) 6 t1 ⟨_,_,_,_,_,_,_,_,_,_,rfl,X,Y,ab,ad,t0⟩
    have t4:=((t3.aa 0 rfl).aa 2 rfl).aa 2 rfl
    have t5:=t4.drop
    exact At.ke (c4 _ _ (by repeat (first|assumption|exact aM.refl _|apply aM.trans)) y _ _ (bM _) (by exact hy) (by exact ca) (by exact cb) (by exact(iT ‹_› ‹_› ‹_› ‹_›)) (by exact Ll ‹_› ‹_› ‹_›) t2 t5)
   obtain⟨U9,rfl,g9⟩:=s2
   obtain⟨eB,eE,rfl⟩:=g9.aj
   refine Op.mk (.agg #[vI 0,vN]) 136 55 57 58 e.Client (.agg #[vI U.cW,vL eB (U.data.length) eE]) (dc.ah 6 rfl) a8 et ?_
   refine Op.ba ?_
   refine Op.sg 143 8 58 0 0 #[vI U.cW,vL eB (U.data.length) eE] dc (fun _=>trivial) fun U_ a1=>?_
   refine Op.gt 8 ?_
   refine At.rp 6 1 [(60,vQ G 1)] ?_
   refine Op.l1 3 60 61 1 (vI e.bn) (a1.ah 7 rfl) ?_
   refine Op.px 1 [(62,vP b4)] ?_
   refine Op.l1 3 62 63 0 (vI U.cW) (a1.ah 0 rfl) ?_
   refine Op.pg 9 [(59,.bool (decide (e.bn<U.cW)))] ?_
   refine At.fd (e.bn<U.cW) 59 10 12 (fun Va=>?_) fun Vb=>?_
   ·refine At.go 11 2 [(6,vN),(7,.bool false)] ?_
    have t6:=aJ.zero 5 br D none
    have t7:=a1.nl
    have t8:kq D I y.aR [(I,.map b5 b6)]:=⟨_,_,_,rfl,a8,be⟩
    have t9:=(((((((t7.aa 1 rfl).aa 1 rfl).aa 7 rfl).aa 7 rfl).aa 7 rfl).aa 7 rfl).aa 7 rfl).aa 7 rfl
    obtain⟨ub,ui,ul⟩:=St.bJ (Q:=cu D u y) 6 t9 ⟨_,_,_,_,_,_,_,_,_,_,rfl,X,Y,ab,ad,t8⟩
    refine At.rt (.tuple #[vN,.bool false]) ?_
    have us:=(((ul.aa 1 rfl).aa 1 rfl).aa 3 rfl).aa 3 rfl
    exact hR us.drop.drop ⟨vN,[],ub,b7 rfl (aS (by exact(yj (b:=op) hy (iT ‹_› ‹_› ‹_› ‹_›) ‹_› ‹_›).2.1)),eV t6 (by exact(yj (b:=op) hy (iT ‹_› ‹_› ‹_› ‹_›) ‹_› ‹_›).1),ui.eq (by exact(yj (b:=op) hy (iT ‹_› ‹_› ‹_› ‹_›) ‹_› ‹_›).2.2),rfl⟩
   refine At.rp 6 1 [(66,vQ G 1)] ?_
   refine Op.l1 3 66 67 1 (vI e.bn) (a1.ah 7 rfl) ?_
   refine Op.px 1 [(68,vP b4)] ?_
   refine Op.l1 3 68 69 0 (vI U.cW) (a1.ah 0 rfl) ?_
   refine Op.pg 13 [(65,.bool (e.bn==U.cW))] ?_
   refine At.fd (e.bn=U.cW) 65 14 16 (fun Vc=>?_) fun Vd=>?_
   ·refine At.rp 5 1 [(71,vQ b4 1)] ?_
    refine Op.l1 22 71 72 1 (vL eB (U.data.length) eE) (a1.ah 0 rfl) ?_
    refine Op.c0 (some 73) (om _ _ _ a1.sub J _ _ g9 (by((try dsimp only)<;>(exact Lj fa dj ‹_›)))) a1 ?_
    rintro _ ut _ Ve u1 u2 ⟨Vf,u3,rfl,he,cf,rfl⟩;subst ut;clear u1
    obtain⟨eI,eJ,rfl⟩:=he.aj
    refine Op.pg 11 [(6,vL eI (U.data.length) eJ),(7,.bool false)] ?_
    have u4:kq D I y.aR [(I,.map b5 b6)]:=⟨_,_,_,rfl,a8,be⟩
    have vd:=(((((((u2.aa 1 rfl).aa 1 rfl).aa 7 rfl).aa 7 rfl).aa 7 rfl).aa 7 rfl).aa 7 rfl).aa 7 rfl
    obtain⟨ve,vo,vx⟩:=St.bJ (Q:=cu D u y) 6 vd ⟨_,_,_,_,_,_,_,_,_,_,rfl,X,Y,ab,ad,u4⟩
    refine At.rt (.tuple #[vL eI (U.data.length) eJ,.bool false]) ?_
    have vy:=(((vx.aa 1 rfl).aa 1 rfl).aa 3 rfl).aa 3 rfl
    exact hR vy.drop.drop ⟨(vL eI (U.data.length) eJ),u3,ve,b7 rfl (aS (by exact(ym (b:=op) hy (iT ‹_› ‹_› ‹_› ‹_›) ‹_› ‹_›).2.1)),eV he (by exact(ym (b:=op) hy (iT ‹_› ‹_› ‹_› ‹_›) ‹_› ‹_›).1),vo.eq (by exact(ym (b:=op) hy (iT ‹_› ‹_› ‹_› ‹_›) ‹_› ‹_›).2.2),rfl⟩
   have v1:kq D I y.aR [(I,.map b5 b6)]:=⟨_,_,_,rfl,a8,be⟩
   have v2:=((((((a1.aa 0 rfl).aa 6 rfl).aa 6 rfl).aa 6 rfl).aa 6 rfl).aa 6 rfl).aa 6 rfl
   obtain⟨Vg,v3,v4⟩:=St.bJ (Q:=cu D u y) 6 v2 ⟨_,_,_,_,_,_,_,_,_,_,rfl,X,Y,ab,ad,v1⟩
   have v5:=((v4.aa 0 rfl).aa 2 rfl).aa 2 rfl
   have v6:=v5.drop
   exact At.ke (c4 _ _ (by repeat (first|assumption|exact aM.refl _|apply aM.trans)) y _ _ (bM _) (by exact hy) (by exact ca) (by exact cb) (by exact(iT ‹_› ‹_› ‹_› ‹_›)) (by exact Lm ‹_› ‹_› ‹_›) v3 v6)
 obtain⟨v8,v9,wa,wc,eK,wi,wn,wp,wr,wt,ww,eL,eQ,wx,e1,e2⟩:=hh
 have wy:=(ho.aa 0 rfl).aa 1 rfl
 have e3:=St.un [v9,wc,wi,wp,wt] ww wy
 refine At.dw (fun _=>False) [(0,true),(1,true),(2,true),(3,true),(5,true),(4,true),(6,false),(7,true),(8,true),(9,true),(10,true),(1011,false),(11,false)] ?_
 refine Op.px 5 [(12,vP u),(15,vQ u 3),(17,vQ G 2)] ?_
 refine Op.lf 3 15 3 16 1 (vI s.aA) (fun h=>h) (e3.ah 0 rfl) ?_
 refine Op.l1 3 17 18 2 (vI e.aX) (e3.ah 6 rfl) ?_
 refine Op.vl 19 (.int .i64 (if (1099511627775:Int)<e.aX then (1099511627775:Int) else e.aX)) (.int .i64 (min e.aX (1099511627775:Int))) (Oc _ _) ?_
 refine Op.vl 20 (.int .i64 (if (min e.aX (1099511627775:Int))>s.aA then (min e.aX (1099511627775:Int)) else s.aA)) (.int .i64 (max s.aA (min e.aX (1099511627775:Int)))) (xY _ _) ?_
 refine Op.px 2 [(22,vQ u 3)] ?_
 refine Op.ba ?_
 refine Op.s1 3 22 20 3 (vI (max s.aA (min e.aX (1099511627775:Int)))) 0 #[vP v8,vP wa,vP eK,vI (max s.aA (min e.aX (1099511627775:Int))),vI s.count,.map (some wn),.map (some wr)] e3 (fun _=>trivial) fun Vh e4=>?_
 refine Op.gt 2 ?_
 refine At.dw (fun _=>False) [(0,true),(1,true),(2,true),(3,true),(5,true),(6,true),(7,true),(4,true),(8,false),(1009,false),(9,false),(10,false)] ?_
 refine Op.px 7 [(23,vP u),(26,vQ u 2),(30,vQ u 3)] ?_
 refine Op.lf 133 26 2 27 1 (vP eK) (fun h=>h) (e4.ah 0 rfl) ?_
 refine Op.l1 3 30 31 3 (vI (max s.aA (min e.aX (1099511627775:Int)))) (e4.ah 0 rfl) ?_
 refine Op.ba ?_
 have e5:=(((e4.aa 2 rfl).aa 2 rfl).aa 2 rfl).aa 3 rfl
 refine Op.cl (some 32) 1 e5 (Px _ _ _ e5.sub J eK s.book _ wx (max s.aA (min e.aX (1099511627775:Int))) (by(try dsimp only)<;>exact a3.book) (St.pt 1 e5)) ?_
 rintro _ w0 _ Vi w1 w2 ⟨Vj,Vk,Vl,rfl,hf,e6,cf,rfl⟩;subst w0;clear w1
 obtain⟨Vm,Vn,rfl⟩:=hf.aj
 obtain⟨w3,w7,b8,xa⟩:=aJ.freeze hf (w2.aa 1 rfl)
 replace eL:=eL.mono b8
 replace eQ:=eQ.mono b8
 replace e1:=e1.mono b8
 replace e2:=e2.mono b8
 replace J:=J.mono b8
 replace e6:=e6.mono b8
 have xc:=(((w7.aa 0 rfl).aa 3 rfl).aa 3 rfl).aa 3 rfl
 obtain⟨Vo,xf,e7⟩:=St.bJ (Q:=cu w3 u (⟨s.au,s.aN,(ia (fA (max s.aA (min e.aX (1099511627775:Int)))) s.book),(max s.aA (min e.aX (1099511627775:Int))),s.count,s.events,s.aR⟩:Sp)) 6 xc ⟨_,_,_,_,_,_,_,_,_,_,rfl,eL,eQ,e6,e1,e2⟩
 refine Op.cl (some 33) 1 e7 (KG _ _ _ e7.sub J u (⟨s.au,s.aN,(ia (fA (max s.aA (min e.aX (1099511627775:Int)))) s.book),(max s.aA (min e.aX (1099511627775:Int))),s.count,s.events,s.aR⟩:Sp) _ xf _ _ xa (by(try dsimp only)<;>exact eg.mk a3.tree a3.wl a3.ws (a3.book.left _) a3.quo) (by((try dsimp only)<;>(exact bQ a3.book.SW (by decide)))) (St.pt 1 e7)) ?_
 rintro _ Vp _ Vq Vr xi ⟨Vs,rfl,xn,rfl⟩
 refine Op.gt 3 ?_
 have xr:=(xi.aa 0 rfl).aa 1 rfl
 exact At.ke (hp _ _ (by repeat (first|assumption|exact aM.refl _|apply aM.trans)) (jc (⟨s.au,s.aN,(ia (fA (max s.aA (min e.aX (1099511627775:Int)))) s.book),(max s.aA (min e.aX (1099511627775:Int))),s.count,s.events,s.aR⟩:Sp) (gq (fA (max s.aA (min e.aX (1099511627775:Int)))) s.book)) _ _ (bM _) (by rfl) (by exact a3.nG _) (by exact qu) (by exact AZ) xn xr)
set_option linter.unusedSectionVars false
def aP (s:Sp):gu:=⟨s.aA,s.count,s.au,s.aN,s.book.map (·.2),(s.events.map (·.2)).flatten,s.aR.map fun p=>⟨p.1,p.2.cW,p.2.data⟩⟩
section
variable {k c c':Int} {s:Sp} {e:bN} {b:aQ} {o:aG}
end
section
variable {k:Int} {s:Sp} {e acc:ja} {c:Int} {ys ws:List ak}
theorem xd {α:Type} {x:List (Int×α)} (hs:fJ x) (hb:∀p∈x,0≤p.1∧p.1<8):x.length≤8:=by
  have key:∀(x:List (Int×α)) (n:Nat),x.Pairwise (fun a b=>a.1<b.1)→(∀p∈x,(n:Int)≤p.1∧p.1<8)→n≤8→x.length+n≤8:=by
    intro x
    induction x with
    |nil=>intro n _ _ h;simpa using h
    |cons p x ih=>
     intro n hs hb h8
     obtain⟨g1,g2⟩:=kX.1 hs
     have hp:=hb p (by simp)
     have:=ih (p.1.toNat+1) g2 (fun q hq=>by have:=g1 q hq;have:=hb q (by simp[hq]);omega) (by omega)
     rw[bY]
     omega
  have:=key x 0 hs (fun p hp=>by have:=hb p hp;omega) (by omega)
  omega
theorem bK.yT (H:bK k s):s.events.length≤8:=xd H.ev.sort fun p hp=>by
  cases h:p.2 with
  |nil=>exact absurd h (H.ev.ne p hp)
  |cons w ws=>
   have:=H.ev.own p hp w (by rw[h];simp)
   have h2:=Cx this.2
   omega
end
theorem SZ {α:Type} {x:List (Int×α)} (hs:fJ x):eH (x.map (·.1))=x.map (·.1):=EE (by rw[wo];exact hs)
theorem Fs {α:Type} {x:List (Int×α)} {i k:Int} (hs:fJ x) (hx:(eH (x.map (·.1)))[i.toNat]?=some k):∃a,x[i.toNat]?=some (k,a)∧bV x k=some a:=by
  rw[SZ hs,jU] at hx
  cases h:x[i.toNat]? with
  |none=>rw[h] at hx;cases hx
  |some p=>
   rw[h] at hx
   obtain⟨D,u⟩:=p
   simp only[mS,fu] at hx
   subst hx
   exact⟨u,rfl,(jR hs).2 (cj h)⟩
theorem yo {α:Type} {x:List (Int×α)} {i k:Int} (hs:fJ x) (hx:(eH (x.map (·.1)))[i.toNat]?=some k) (hf:bV x k=none):False:=by
  obtain⟨s,_,h⟩:=Fs hs hx
  rw[hf] at h;cases h
structure Ft (s:Sp):Prop where
  W:eg s
  se:fJ s.events
  sr:fJ s.aR
  el:s.events.length≤1000
  rl:s.aR.length≤1000
  rp:∀p∈s.aR,p.2.data.length≤1000000000
theorem bK.pU {k:Int} {s:Sp} (H:bK k s) (hk:k≤1000000):Ft s:=
  ⟨H.wk hk,H.ev.sort,H.fD.sort,bQ H.yT (by decide),bQ (xd H.fD.sort fun p hp=>(H.fD.ok p hp).1) (by decide),fun p hp=>bQ (H.fD.ok p hp).2.2 (by decide)⟩
section
variable {s:Sp} {im:gu} {i k:Int} {xs:List ak} {a a2:jA}
def u7 (s:Sp) (im:gu) (i:Int):Prop:=im=⟨s.aA,s.count,s.au,s.aN,s.book.map (·.2),((s.events.take i.toNat).map (·.2)).flatten,[]⟩
def u9 (s:Sp) (im:gu) (i:Int):Prop:=im=⟨s.aA,s.count,s.au,s.aN,s.book.map (·.2),(s.events.map (·.2)).flatten,(s.aR.take i.toNat).map fun p=>⟨p.1,p.2.cW,p.2.data⟩⟩
theorem CD:u7 s ⟨s.aA,s.count,s.au,s.aN,s.book.map (·.2),[],[]⟩ 0:=rfl
theorem S1 (hs:fJ s.events) (H:u7 s im i) (h0:0≤i) (hx:(eH (s.events.map (·.1)))[i.toNat]?=some k) (hf:bV s.events k=some xs):u7 s ⟨im.aX,im.aZ,im.bZ,im.cJ,im.cr,im.aT++xs,im.bL⟩ (i+1):=by
  obtain⟨a,h1,h2⟩:=Fs hs hx
  rw[hf] at h2
  obtain rfl:=fK h2
  unfold u7 at *
  subst H
  rw[toNat_succ h0,fG h1]
  simp
theorem S3 (H:u7 s im i) (h:¬i<((eH (s.events.map (·.1))).length:Int)):u9 s im 0:=by
  unfold u7 u9 at *
  rw[mG,d_] at h
  rw[fC (by omega)] at H
  exact H
theorem Fu (hs:fJ s.aR) (H:u9 s im i) (h0:0≤i) (hx:(eH (s.aR.map (·.1)))[i.toNat]?=some k) (hf:bV s.aR k=some a) (u:bV s.aR k=some a2):
    u9 s ⟨im.aX,im.aZ,im.bZ,im.cJ,im.cr,im.aT,im.bL++[⟨k,a.cW,a2.data⟩]⟩ (i+1):=by
  obtain⟨D,h1,h2⟩:=Fs hs hx
  rw[hf] at u
  obtain rfl:=fK u
  rw[hf] at h2
  obtain rfl:=fK h2
  unfold u9 at *
  subst H
  rw[toNat_succ h0,fG h1]
  simp
theorem yp (H:u9 s im i) (h:¬i<((eH (s.aR.map (·.1))).length:Int)):im=aP s:=by
  unfold u9 at H
  rw[mG,d_] at h
  rw[fC (by omega)] at H
  exact H
theorem Fv (hd:∀p∈s.aR,p.2.data.length≤1000000000) (hs:fJ s.aR) (hf:bV s.aR k=some a):a.data.length≤1000000000:=hd (k,a) ((jR hs).1 hf)
theorem Fw (h:ry s.aN s.events) (hf:bV s.events k=some xs):xs.length≤8:=by
  have:=h k
  unfold cV at this
  rw[hf] at this
  show xs.length≤8
  have h2:(Option.getD (some xs) []).length≤8:=by omega
  exact h2
end
inductive LU where
  |seq (L:List (Nat×Bool))
  |mv (i:Nat) (b:Bool) (t:LU)
  |gQ (i j:Nat) (A B:LU)
def LU.bu:LU→List (Nat×Bool)
  |.seq L=>L
  |.mv i b t=>(i,b)::t.bu
  |.gQ i j A B=>(3000,false)::(i,false)::(A.bu++(4000,false)::(j,false)::B.bu)
def LU.iI (P:Program) (ops:Array Oper) (S2:World→Prop) (K:Act→World→Prop):LU→Mv
  |.seq L=>fun S a w=>mB P ops S2 S L K a w
  |.mv i true t=>xq P ops i (t.iI P ops S2 K)
  |.mv i false t=>ij P ops S2 i (t.iI P ops S2 K)
  |.gQ i j A B=>fun S a w=>ij P ops S2 i (A.iI P ops S2 K) S a w∧ij P ops S2 j (B.iI P ops S2 K) S a w
def LU.low:LU→Bool
  |.seq L=>L.all fun p=>!(Nat.ble 3000 p.1)
  |.mv i b t=>(b||!(Nat.ble 3000 i))&&t.low
  |.gQ i j A B=>!(Nat.ble 3000 i)&&(!(Nat.ble 3000 j)&&(A.low&&B.low))
def LU.size:LU→Nat
  |.seq L=>iu L
  |.mv _ _ t=>t.size+1
  |.gQ _ _ A B=>max A.size B.size+1
def LU.ok (ops:Array Oper) (kb:Nat):LU→Array Bool→Bool
  |.seq L,listed=>nM ops kb false L listed
  |.mv i true t,listed=>Region.free .any ops listed i&&(Region.ready .any ops listed).contains i&&(!(Nat.beq i kb)&&((!(sR ops i)||((ops[kb]?).isNone||depOn ops 10 kb i))&&t.ok ops kb (listed.setIfInBounds i true)))
  |.mv i false t,listed=>!(Nat.ble 1000 i)&&(!(Nat.beq i kb)&&((Region.ready .any ops listed==[i])&&t.ok ops kb (listed.setIfInBounds i true)))
  |.gQ i j A B,listed=>!(Nat.ble 1000 i)&&(!(Nat.ble 1000 j)&&(!(Nat.beq i kb)&&(!(Nat.beq j kb)&&(((Region.ready .any ops listed==[i,j])||(Region.ready .any ops listed==[j,i]))&&(A.ok ops kb (listed.setIfInBounds i true)&&B.ok ops kb (listed.setIfInBounds j true))))))
section
variable {P:Program} {ops:Array Oper} {S2:World→Prop} {K:Act→World→Prop} {kb:Nat}
theorem Lr:∀(L M:List (Nat×Bool)) (st:List Mv),(L.all fun p=>!(Nat.ble 3000 p.1))=true→eS P ops S2 K M=(fun _=>K)::st→eS P ops S2 K (L++M)=(fun S a w=>mB P ops S2 S L K a w)::st
  |[],M,st,_,h=>h
  |(i,b)::L,M,st,hl,h=>by
   rw[j5,b_] at hl
   have ih:=Lr L M st hl.2 h
   have h3:Nat.ble 3000 i=false:=by simpa using hl.1
   cases b with
   |true=>
    show xq P ops i (Mv.top (eS P ops S2 K (L++M)))::Mv.jV (eS P ops S2 K (L++M))=_
    rw[ih];rfl
   |false=>
    show(bif Nat.ble 3000 i then _ else ij P ops S2 i (Mv.top (eS P ops S2 K (L++M)))::Mv.jV (eS P ops S2 K (L++M)))=_
    rw[h3,ih]
    refine congrArg (·::st) ?_
    funext S a w
    show _=Mv.top (bif Nat.ble 3000 i then _ else _) S a w
    rw[h3];rfl
theorem wW:∀(t:LU) (L:List (Nat×Bool)) (st:List Mv),t.low=true→eS P ops S2 K L=(fun _=>K)::st→eS P ops S2 K (t.bu++L)=t.iI P ops S2 K::st
  |.seq M,L,st,hl,h=>Lr M L st hl h
  |.mv i b t,L,st,hl,h=>by
   simp only[LU.low,b_] at hl
   have ih:=wW t L st hl.2 h
   cases b with
   |true=>
    show xq P ops i (Mv.top (eS P ops S2 K (t.bu++L)))::Mv.jV (eS P ops S2 K (t.bu++L))=_
    rw[ih];rfl
   |false=>
    have h3:Nat.ble 3000 i=false:=by simpa using hl.1
    show(bif Nat.ble 3000 i then _ else ij P ops S2 i (Mv.top (eS P ops S2 K (t.bu++L)))::Mv.jV (eS P ops S2 K (t.bu++L)))=_
    rw[h3,ih];rfl
  |.gQ i j A B,L,st,hl,h=>by
   simp only[LU.low,b_,gN] at hl
   obtain⟨h1,h2,hA,hB⟩:=hl
   have u:=wW B L st hB h
   have D:eS P ops S2 K ((j,false)::(B.bu++L))=ij P ops S2 j (B.iI P ops S2 K)::st:=by
     show(bif Nat.ble 3000 j then _ else ij P ops S2 j (Mv.top (eS P ops S2 K (B.bu++L)))::Mv.jV (eS P ops S2 K (B.bu++L)))=_
     rw[h2,u];rfl
   have G:=wW A ((4000,false)::(j,false)::(B.bu++L)) (ij P ops S2 j (B.iI P ops S2 K)::st) hA (by
     show(fun _=>K)::eS P ops S2 K ((j,false)::(B.bu++L))=_
     rw[D])
   have I:eS P ops S2 K ((i,false)::(A.bu++(4000,false)::(j,false)::(B.bu++L)))=ij P ops S2 i (A.iI P ops S2 K)::ij P ops S2 j (B.iI P ops S2 K)::st:=by
     show(bif Nat.ble 3000 i then _ else ij P ops S2 i (Mv.top (eS P ops S2 K (A.bu++(4000,false)::(j,false)::(B.bu++L))))::Mv.jV (eS P ops S2 K (A.bu++(4000,false)::(j,false)::(B.bu++L))))=_
     rw[h1,G];rfl
   have e:(LU.gQ i j A B).bu++L=(3000,false)::(i,false)::(A.bu++(4000,false)::(j,false)::(B.bu++L)):=by
     show(3000,false)::(i,false)::((A.bu++(4000,false)::(j,false)::B.bu)++L)=_
     rw[dm];rfl
   rw[e]
   show(fun S a w=>Mv.top (eS P ops S2 K ((i,false)::(A.bu++(4000,false)::(j,false)::(B.bu++L)))) S a w∧Mv.top (Mv.jV (eS P ops S2 K ((i,false)::(A.bu++(4000,false)::(j,false)::(B.bu++L))))) S a w)::
     Mv.jV (Mv.jV (eS P ops S2 K ((i,false)::(A.bu++(4000,false)::(j,false)::(B.bu++L)))))=_
   rw[I];rfl
theorem S4:∀(t:LU) (T:World→Prop) (listed:Array Bool) (a:Act) (w:World) (bI:Nat),t.size≤bI→uq ops listed→t.ok ops kb listed=true→listed.getD kb false=false→
    t.iI P ops S2 K T a w→pX P ops kb T K bI listed a w:=by
  intro t
  induction t with
  |seq L=>exact fun T listed a w bI hf hcl hok D h=>A9 L kb T false T listed a w bI hf hcl hok (fun _=>⟨rfl,D⟩) (fun hz=>by cases hz) h
  |mv i b t ih=>
   intro T listed a w bI hf hcl hok D h
   obtain⟨bI,rfl⟩:∃m,bI=m+1:=⟨bI-1,by simp[LU.size] at hf;omega⟩
   have I:t.size≤bI:=by simp[LU.size] at hf;omega
   cases b with
   |true=>
    obtain⟨o,v,hi,hd,hy,hS,h⟩:=h
    simp only[LU.ok,b_,gN,jh] at hok
    obtain⟨⟨h1,h2⟩,h3,h4,h5⟩:=hok
    have hik:i≠kb:=fun e=>by subst e;simp at h3
    have h2:i∈Region.ready .any ops listed:=by simpa using h2
    have J:=ih T (listed.setIfInBounds i true) (a.put o.dst v) w bI I (nw hcl h2) h5 (by rw[getD_set_ne false hik];exact D) h
    cases hn:nL o with
    |false=>
     rw[hn] at hy
     exact ur (S':=fun _=>True) hi hd hik (.inl fun _=>trivial) bI listed a w hcl (.inl fun _=>trivial) (Region.free_spec hi h1) h2 (by simpa using hy) trivial (fun _=>hS) J
    |true=>
     rw[hn,aO rfl] at hy
     have hne:sR ops i=true:=by simp[sR,hi,hn]
     rw[hne] at h4
     simp only[CY,false_or] at h4
     refine ur (S':=T) hi hd hik (.inr ⟨fun _ h=>h,fun ok hok=>?_⟩) bI listed a w hcl (.inr D) (Region.free_spec hi h1) h2 hy hS (fun _=>hS) J
     rcases h4 with h4|h4
     · rw[hok] at h4;simp at h4
     · exact⟨10,h4⟩
   |false=>
    simp only[LU.ok,b_,gN,j6] at hok
    obtain⟨h1,h4,h2,h3⟩:=hok
    have hik:i≠kb:=fun e=>by subst e;simp at h4
    have G:i∈Region.ready .any ops listed:=by rw[h2];simp
    have h:j_ P ops i (fun u w'=>T w'∧t.iI P ops S2 K T u w') a w:=by
      have h':ij P ops S2 i (t.iI P ops S2 K) T a w:=h
      unfold ij at h'
      rwa[aC (by rw[h1];simp)] at h'
    refine⟨fun h0=>(by rw[h0] at G;cases G),fun k hk=>?_⟩
    rw[h2] at hk
    obtain rfl:k=i:=by simpa using hk
    exact nK (fun u w' h'=>⟨fun _=>h'.1,ih T _ u w' bI I (nw hcl G) h3 (by rw[getD_set_ne false hik];exact D) h'.2⟩) h
  |gQ i j A B O U=>
   intro T listed a w bI hf hcl hok D h
   obtain⟨bI,rfl⟩:∃m,bI=m+1:=⟨bI-1,by simp[LU.size] at hf;omega⟩
   have V:A.size≤bI:=by simp[LU.size] at hf;omega
   have X:B.size≤bI:=by simp[LU.size] at hf;omega
   simp only[LU.ok,b_,gN,jh,j6] at hok
   obtain⟨h1,h2,h4,h5,h3,hA,hB⟩:=hok
   have hik:i≠kb:=fun e=>by subst e;simp at h4
   have hjk:j≠kb:=fun e=>by subst e;simp at h5
   have G:i∈Region.ready .any ops listed:=by rcases h3 with h3|h3<;>rw[h3]<;>simp
   have Y:j∈Region.ready .any ops listed:=by rcases h3 with h3|h3<;>rw[h3]<;>simp
   obtain⟨g1,g2⟩:=h
   have g1:j_ P ops i (fun u w'=>T w'∧A.iI P ops S2 K T u w') a w:=by unfold ij at g1;rwa[aC (by rw[h1];simp)] at g1
   have g2:j_ P ops j (fun u w'=>T w'∧B.iI P ops S2 K T u w') a w:=by unfold ij at g2;rwa[aC (by rw[h2];simp)] at g2
   refine⟨fun h0=>(by rw[h0] at G;cases G),fun k hk=>?_⟩
   have hkk:k=i∨k=j:=by rcases h3 with h3|h3<;>rw[h3] at hk<;>simp at hk<;>omega
   rcases hkk with rfl|rfl
   · exact nK (fun u w' h'=>⟨fun _=>h'.1,O T _ u w' bI V (nw hcl G) hA (by rw[getD_set_ne false hik];exact D) h'.2⟩) g1
   · exact nK (fun u w' h'=>⟨fun _=>h'.1,U T _ u w' bI X (nw hcl Y) hB (by rw[getD_set_ne false hjk];exact D) h'.2⟩) g2
end
section
variable {C:fP} {ds:List Deferred} {i:Nat} {e:Env} {h r:ax} {M:Nat→Prop}
def Lt (k:List Item) (kb:Nat) (t:LU):Bool:=match uz k with
  |some ops=>Nat.ble t.size ops.size&&(t.low&&t.ok ops kb (Array.replicate ops.size false))
  |none=>false
theorem At.Lu (hm:C.P.follows .mixedOrders=true) (M:Nat→Prop) (kb:Nat) (t:LU) (hL:Lt (pt C.code i) kb t=true) (H:Op C ds i h M t.bu e h):At C ds i e h:=by
  intro a w f is
  have H:=H a {w with drawn:=w.drawn+1} f is.oa (ez.refl _ _)
  generalize pt C.code i=k at *
  unfold Lt at hL
  split at hL
  · rename_i ops hd
    unfold uz at hd
    split at hd
    · rename_i id u k'
      simp only[fu] at hd
      subst hd
      simp only[b_] at hL
      have h1:=kV hL.1
      have hs:=wW (P:=C.P) (ops:=u) (S2:=holds C #[] fun _=>True) (K:=fun a w=>eY C.P C.ro C.fn C.Q k' a w) t [] [] hL.2.1 rfl
      rw[dX] at hs
      refine eY.oa hm fun D=>A7 (kb:=kb) (S:=holds C h M) _ _ _ _ _ (S4 (S2:=holds C #[] fun _=>True) t _ _ _ _ _ h1 ?_ hL.2.2 ?_ ?_)
      · intro k o ho hk
        have hlt:k<u.size:=(mP.1 ho).1
        simp[hlt] at hk
      · simp only[Ba,Bb];split<;>rfl
      · have H:Mv.top (eS C.P u (holds C #[] fun _=>True) (fun a w=>eY C.P C.ro C.fn C.Q k' a w) t.bu) (holds C h M) a {w with drawn:=w.drawn+1}:=H
        rw[hs] at H
        exact H
    · cases hd
  · cases hL
theorem Op.S5 (D u:LU) {A B L:List (Nat×Bool)} (hA:D.low=true) (hB:u.low=true) (U:D.bu=A) (V:u.bu=B) (X:A++(4000,false)::B=L) (G:Op C ds i r M A e h) (I:Op C ds i r M B e h):Op C ds i r M ((3000,false)::L) e h:=by
  intro a w f is hk
  have G:=G a w f is hk
  have I:=I a w f is hk
  subst U V X
  unfold mB at *
  generalize (fun a w=>eY C.P C.ro C.fn C.Q (pt C.code i).tail a w)=K at *
  have J:=wW (P:=C.P) (ops:=jx (pt C.code i)) (S2:=holds C #[] fun _=>True) (K:=K) D [] [] hA rfl
  have O:=wW (P:=C.P) (ops:=jx (pt C.code i)) (S2:=holds C #[] fun _=>True) (K:=K) u [] [] hB rfl
  rw[dX] at J O
  have s2:=wW (P:=C.P) (ops:=jx (pt C.code i)) (S2:=holds C #[] fun _=>True) (K:=K) D ((4000,false)::u.bu) (eS C.P (jx (pt C.code i)) (holds C #[] fun _=>True) K u.bu) hA rfl
  rw[J] at G
  rw[O] at I s2
  show Mv.top (eS C.P (jx (pt C.code i)) (holds C #[] fun _=>True) K (D.bu++(4000,false)::u.bu)) _ a w∧Mv.top (Mv.jV (eS C.P (jx (pt C.code i)) (holds C #[] fun _=>True) K (D.bu++(4000,false)::u.bu))) _ a w
  rw[s2]
  exact⟨G,I⟩
theorem Op.AE {j k:Nat} {A B:LU} (u:Op C ds i r M ((j,false)::A.bu) e h) (D:Op C ds i r M ((k,false)::B.bu) e h) (hA:A.low=true:=by rfl) (hB:B.low=true:=by rfl) (hj:Nat.ble 3000 j=false:=by rfl) (hk:Nat.ble 3000 k=false:=by rfl):Op C ds i r M (LU.gQ j k A B).bu e h:=
  Op.S5 (.mv j false A) (.mv k false B) (by simp[LU.low,hj,hA]) (by simp[LU.low,hk,hB]) rfl rfl rfl u D
end
def qk (g:GH) (b:Nat) (x:gu) (c:ay):Prop:=∃v2 c2 v3 u v4 D v5 G v6 I,c=(b,.cells #[.int .i64 x.aX,.int .i64 x.aZ,v2,v3,v4,v5,v6] 81 (0,0))::(c2++(u++(D++(G++I))))∧aJ 39 mu g v2 x.bZ c2∧aJ 45 dh g v3 x.cJ u∧aJ 85 nI g v4 x.cr D∧aJ 45 dh g v5 x.aT G∧aJ 101 n_ g v6 x.bL I
theorem S6 (g0:GH) (bi D:Nat) (x:List (Int×(List ak))) (J:g0 bi=some (.cells #[.map (some D)] 135 (0,0))) (ad:wU g0 D x):kI prog g0 146 #[vP bi] qT (fun ca=>ca.Perm (x.map (·.1))):=by
 intro B h g l I go c bj hg a4 a5 cb ce hs
 replace J:=bj _ _ J
 replace ad:=ad.mono bj
 refine aE.aq func146 fun R hR=>?_
 refine At.rg 2 ?_
 refine Op.l1 135 1 4 0 (.map (some D)) (hs.sub _ _ J) ?_
 obtain⟨bk,bm,a6,G,ae,am⟩:=ad
 have ad:wU g D x:=⟨bk,bm,a6,G,ae,am⟩
 refine Op.wz (d:=.int .i64) (z:=vN) (mt:=135) (x:=4) (dst:=5) (m:=D) (by kernel_rfl) (by kernel_rfl) (by kernel_rfl) (hs.sub _ _ G) ae hs fun O cf c8 ch ci=>?_
 refine Op.gt 1 ?_
 have ck:∀(m:Nat) (ar:GH) (U:aM g ar) (vs:List (Int×Value)) (rs:List (Int×Value)) (c1:ay) (o1:Obj) (a7:ax) (hm:rs.length<m) (aw:go (vs.map (·.1))=true) (a0:td go (vs.map (·.1))) (X:(vs++rs).Perm a6) (a8:I (vs.map (·.1)) ar c1) (bo:mF encI bk bm D vs rs o1) (a1:St h g (aV [c]) ar [[(O,o1)],c1] a7),At (bX prog B 146 f146 R) [] 1 [(0,.func (.yield l) #[] #[]),(5,vP O)] a7:=by
  intro m;induction m with
  |zero=>intros;omega
  |succ m co=>
   intro ar U vs rs c1 o1 a7 hm aw a0 X a8 bo a1
   replace a4:=a4.mono U
   replace a5:=a5.mono U
   replace J:=U _ _ J
   replace G:=U _ _ G
   refine At.rg 2 ?_
   refine Op.zO (x:=5) (dst:=6) (it:=O) (m:=D) (by kernel_rfl) (by kernel_rfl) (a1.sub _ _ G) ae bo a1 0 rfl (fun _=>trivial) ⟨fun V=>?_,fun Y u a3 ab a9 c9 V bt bc=>?_⟩
   ·refine Op.pg 2 [(7,.bool false)] ?_
    refine At.dK 7 7 ?_
    refine At.rt (.tuple #[]) ?_
    have c3:=a1.drop
    refine hR c3 ⟨(vs.map (·.1)),vs.map (·.1),c1,rfl,by exact Ae X V (am.2.2.1),by exact uG _,by exact fun _=>rfl,by exact a0,rfl,a8⟩
   refine Op.pg 2 [(7,.bool true)] ?_
   refine At.bW 7 3 ?_
   refine At.rg 3 ?_
   refine Op.zP (x:=5) (dst:=8) (it:=O) (m:=D) (vs:=vs) (k:=u) (v:=a3) (by kernel_rfl) (by kernel_rfl) (bc.sub _ _ G) ae bt (bc.ah 0 rfl) ?_
   refine Op.pg 4 [(3,vI u)] ?_
   refine At.rp 4 2 [(10,.func (.yield l) #[] #[]),(11,vI u)] ?_
   have b3:=(bc.aa 0 rfl).aa 1 rfl
   refine Op.yield (dst:=some 12) (x:=10) (ops:=#[11]) (ts:=#[3]) (l:=l) (args:=#[vI u]) (Lc:=[c1]) (L:=[[(O,a9)]]) (by kernel_rfl) (by kernel_rfl) (by kernel_rfl) b3 (a5 _ _ (vs.map (·.1)) u _ _ (by repeat (first|assumption|exact aM.refl _|apply aM.trans)) a4 (by exact aw) (by rfl) ⟨((vs++[(u,a3)])++(Y++ab)).map (·.1),by exact qP X V (am.2.2.1),by exact⟨(Y++ab).map (·.1),by simp⟩⟩ a8 (St.part (Lc:=[c1]) (L:=[[(O,a9)]]) b3)) (fun _ _ _=>trivial) ?_
   rintro _ da _ db b4 b5 ⟨b6,rfl,rfl,b8⟩
   replace J:=b4 _ _ J
   replace G:=b4 _ _ G
   refine Op.pg 5 [(13,.bool (!(go (vs.map (·.1)++[u]))))] ?_
   refine At.di (!(go (vs.map (·.1)++[u]))) 13 6 1 (fun bd=>?_) fun be=>?_
   ·replace bd:=(dG bd)
    refine At.rt (.tuple #[]) ?_
    have c4:=(b5.aa 0 rfl).aa 1 rfl
    have c5:=c4.drop
    refine hR c5 ⟨((vs++[(u,a3)])++(Y++ab)).map (·.1),vs.map (·.1)++[u],b6,rfl,by exact qP X V (am.2.2.1),by exact⟨(Y++ab).map (·.1),by simp⟩,by exact fun h=>absurd h (kH.1 bd),by exact oQ a0 aw,rfl,b8⟩
   replace be:=(dH be)
   have c6:=(b5.aa 0 rfl).aa 1 rfl
   exact At.ke (co _ (aM.trans U (by repeat (first|assumption|apply aM.trans))) (vs++[(u,a3)]) (Y++ab) b6 a9 _ (by have hz:=congrArg List.length V;simp only[cA,bY] at hz ⊢;omega) (by simpa using be) (by simpa using oQ (x:=u) a0 aw) (by exact uM X V) (by simpa using b8) bt c6)
 exact At.ke (ck _ _ (aM.refl _) [] a6 c cf _ (bM _) (by exact cb) (by exact xZ go) (by exact gO _) (by exact ce) ch ci)
theorem S7 (B:World) (h:ax) (g:GH) (hg:bl g h) (ae:bq g) (u:Nat) (x:List (Int×(List ak))) (G:wU g u x):
  aE prog B 90 #[.map (some u)] h g [] (fun V g' L'=>∃f0 I,V=.func (.func f0) #[] I∧fc prog f0∧kI prog g' f0 I qT (fun X=>X.Perm (x.map (·.1)))∧L'=[]):=by
 refine aE.aq func90 fun R hR=>?_
 have Y:=St.init hg
 refine At.rg 2 ?_
 refine Op.bx 1 135 0 #[.map (some u)] Y fun D am ab=>?_
 refine Op.pg 1 [] ?_
 refine At.go 2 2 [(2,.func (.func 146) #[] #[vP D])] ?_
 obtain⟨J,O⟩:=St.freeze (ab.aa 0 rfl)
 have U:=iN (g:=g) D (.cells #[.map (some u)] 135 (0,0))
 generalize ad:dy g _=ar at J O U;clear ad
 replace G:=G.mono O
 exact At.rt (.func (.func 146) #[] #[vP D]) (hR J ⟨146,#[vP D],rfl,fc.of (by kernel_rfl),S6 _ D u x U G,rfl⟩)
theorem S8 (g0:GH) (bi D:Nat) (x:List (Int×jA)) (J:g0 bi=some (.cells #[.map (some D)] 136 (0,0))) (ad:wV g0 D x):kI prog g0 147 #[vP bi] qT (fun ca=>ca.Perm (x.map (·.1))):=by
 intro B h g l I go c bj hg a4 a5 cb ce hs
 replace J:=bj _ _ J
 replace ad:=ad.mono bj
 refine aE.aq func147 fun R hR=>?_
 refine At.rg 2 ?_
 refine Op.l1 136 1 4 0 (.map (some D)) (hs.sub _ _ J) ?_
 obtain⟨bk,bm,a6,G,ae,am⟩:=ad
 have ad:wV g D x:=⟨bk,bm,a6,G,ae,am⟩
 refine Op.wz (d:=.int .i64) (z:=.agg #[vI 0,vN]) (mt:=136) (x:=4) (dst:=5) (m:=D) (by kernel_rfl) (by kernel_rfl) (by kernel_rfl) (hs.sub _ _ G) ae hs fun O cf c8 ch ci=>?_
 refine Op.gt 1 ?_
 have ck:∀(m:Nat) (ar:GH) (U:aM g ar) (vs:List (Int×Value)) (rs:List (Int×Value)) (c1:ay) (o1:Obj) (a7:ax) (hm:rs.length<m) (aw:go (vs.map (·.1))=true) (a0:td go (vs.map (·.1))) (X:(vs++rs).Perm a6) (a8:I (vs.map (·.1)) ar c1) (bo:mF encI bk bm D vs rs o1) (a1:St h g (aV [c]) ar [[(O,o1)],c1] a7),At (bX prog B 147 f147 R) [] 1 [(0,.func (.yield l) #[] #[]),(5,vP O)] a7:=by
  intro m;induction m with
  |zero=>intros;omega
  |succ m co=>
   intro ar U vs rs c1 o1 a7 hm aw a0 X a8 bo a1
   replace a4:=a4.mono U
   replace a5:=a5.mono U
   replace J:=U _ _ J
   replace G:=U _ _ G
   refine At.rg 2 ?_
   refine Op.zO (x:=5) (dst:=6) (it:=O) (m:=D) (by kernel_rfl) (by kernel_rfl) (a1.sub _ _ G) ae bo a1 0 rfl (fun _=>trivial) ⟨fun V=>?_,fun Y u a3 ab a9 c9 V bt bc=>?_⟩
   ·refine Op.pg 2 [(7,.bool false)] ?_
    refine At.dK 7 7 ?_
    refine At.rt (.tuple #[]) ?_
    have c3:=a1.drop
    refine hR c3 ⟨(vs.map (·.1)),vs.map (·.1),c1,rfl,by exact Ae X V (am.2.2.1),by exact uG _,by exact fun _=>rfl,by exact a0,rfl,a8⟩
   refine Op.pg 2 [(7,.bool true)] ?_
   refine At.bW 7 3 ?_
   refine At.rg 3 ?_
   refine Op.zP (x:=5) (dst:=8) (it:=O) (m:=D) (vs:=vs) (k:=u) (v:=a3) (by kernel_rfl) (by kernel_rfl) (bc.sub _ _ G) ae bt (bc.ah 0 rfl) ?_
   refine Op.pg 4 [(3,vI u)] ?_
   refine At.rp 4 2 [(10,.func (.yield l) #[] #[]),(11,vI u)] ?_
   have b3:=(bc.aa 0 rfl).aa 1 rfl
   refine Op.yield (dst:=some 12) (x:=10) (ops:=#[11]) (ts:=#[3]) (l:=l) (args:=#[vI u]) (Lc:=[c1]) (L:=[[(O,a9)]]) (by kernel_rfl) (by kernel_rfl) (by kernel_rfl) b3 (a5 _ _ (vs.map (·.1)) u _ _ (by repeat (first|assumption|exact aM.refl _|apply aM.trans)) a4 (by exact aw) (by rfl) ⟨((vs++[(u,a3)])++(Y++ab)).map (·.1),by exact qP X V (am.2.2.1),by exact⟨(Y++ab).map (·.1),by simp⟩⟩ a8 (St.part (Lc:=[c1]) (L:=[[(O,a9)]]) b3)) (fun _ _ _=>trivial) ?_
   rintro _ da _ db b4 b5 ⟨b6,rfl,rfl,b8⟩
   replace J:=b4 _ _ J
   replace G:=b4 _ _ G
   refine Op.pg 5 [(13,.bool (!(go (vs.map (·.1)++[u]))))] ?_
   refine At.di (!(go (vs.map (·.1)++[u]))) 13 6 1 (fun bd=>?_) fun be=>?_
   ·replace bd:=(dG bd)
    refine At.rt (.tuple #[]) ?_
    have c4:=(b5.aa 0 rfl).aa 1 rfl
    have c5:=c4.drop
    refine hR c5 ⟨((vs++[(u,a3)])++(Y++ab)).map (·.1),vs.map (·.1)++[u],b6,rfl,by exact qP X V (am.2.2.1),by exact⟨(Y++ab).map (·.1),by simp⟩,by exact fun h=>absurd h (kH.1 bd),by exact oQ a0 aw,rfl,b8⟩
   replace be:=(dH be)
   have c6:=(b5.aa 0 rfl).aa 1 rfl
   exact At.ke (co _ (aM.trans U (by repeat (first|assumption|apply aM.trans))) (vs++[(u,a3)]) (Y++ab) b6 a9 _ (by have hz:=congrArg List.length V;simp only[cA,bY] at hz ⊢;omega) (by simpa using be) (by simpa using oQ (x:=u) a0 aw) (by exact uM X V) (by simpa using b8) bt c6)
 exact At.ke (ck _ _ (aM.refl _) [] a6 c cf _ (bM _) (by exact cb) (by exact xZ go) (by exact gO _) (by exact ce) ch ci)
theorem S9 (B:World) (h:ax) (g:GH) (hg:bl g h) (ae:bq g) (u:Nat) (x:List (Int×jA)) (G:wV g u x):
  aE prog B 91 #[.map (some u)] h g [] (fun V g' L'=>∃f0 I,V=.func (.func f0) #[] I∧fc prog f0∧kI prog g' f0 I qT (fun X=>X.Perm (x.map (·.1)))∧L'=[]):=by
 refine aE.aq func91 fun R hR=>?_
 have Y:=St.init hg
 refine At.rg 2 ?_
 refine Op.bx 1 136 0 #[.map (some u)] Y fun D am ab=>?_
 refine Op.pg 1 [] ?_
 refine At.go 2 2 [(2,.func (.func 147) #[] #[vP D])] ?_
 obtain⟨J,O⟩:=St.freeze (ab.aa 0 rfl)
 have U:=iN (g:=g) D (.cells #[.map (some u)] 136 (0,0))
 generalize ad:dy g _=ar at J O U;clear ad
 replace G:=G.mono O
 exact At.rt (.func (.func 147) #[] #[vP D]) (hR J ⟨147,#[vP D],rfl,fc.of (by kernel_rfl),S8 _ D u x U G,rfl⟩)
set_option maxHeartbeats 12000000 in
theorem pT (B:World) (h:ax) (g:GH) (hg:bl g h) (J:bq g) (O:Nat) (s:Sp) (bi:ay) (lx:cu g O s bi) (hp:Ft s) (hs:St h g (aV [bi]) g [bi] h):
  aE prog B 40 #[vP O] h g [bi] (fun ly g' L'=>∃v0 fx v1 f0 v2 f1 v3 f2 v4 f3 f4,ly=.agg #[.int .i64 ((aP s).aX),.int .i64 ((aP s).aZ),v0,v1,v2,v3,v4]∧aJ 39 mu g' v0 ((aP s).bZ) fx∧aJ 45 dh g' v1 ((aP s).cJ) f0∧aJ 85 nI g' v2 ((aP s).cr) f1∧aJ 45 dh g' v3 ((aP s).aT) f2∧aJ 101 n_ g' v4 ((aP s).bL) f3∧cu g' O s f4∧L'=[f4,fx,f0,f1,f2,f3]):=by
 refine aE.aq func40 fun R hR=>?_
 refine At.rg 1 ?_
 refine Op.al 2 81 #[vI 0,vI 0,vN,vN,vN,vN,vN] hs fun bt H2 lA=>?_
 refine Op.gt 1 ?_
 have dv:∀(m:Nat) (bj:GH) (f5:aM g bj) (y:Sp) (dC:gu) (eh:ay) (X:Nat) (ej:ay) (em:ax) (hm:0<m) (hy:y=s) (hq:Ft y) (en:u7 y dC 0) (f6:cu bj O y eh) (f7:qk bj X dC ej) (f8:St h g (aV [bi]) bj [[(bt,Obj.cells #[vI 0,vI 0,vN,vN,vN,vN,vN] 81 (0,0))],eh,ej] em),At (bX prog B 40 f40 R) [] 2 [(0,vP O),(2,vP bt),(3,vP X)] em:=by
  intro m;induction m with
  |zero=>intros;omega
  |succ m H3=>
   intro bj f5 y dC eh X ej em hm hy hq en f6 f7 f8
   replace J:=J.mono f5
   refine At.rp 8 3 [(34,vQ O 5)] ?_
   obtain⟨f9,dE,gc,dT,ge,d0,a8,lL,a6,gg,lO,ck,co,c3,gk,d1⟩:=f6
   have l0:=(f8.aa 0 rfl).aa 1 rfl
   have gn:=St.un [dE,dT,d0,lL,gg] lO l0
   refine Op.l1 135 34 35 5 (.map (some a8)) (gn.ah 0 rfl) ?_
   have c4:=((((gn.aa 3 rfl).aa 3 rfl).aa 3 rfl).aa 3 rfl).aa 4 rfl
   have l2:=lV.fY gk c4 (fun p hp=>hp)
   have gs:=c4.freeze.1
   have g1:=c4.freeze.2
   have d2:=J.mono g1
   refine Op.c0 (some 36) (S7 _ _ _ gs.sub d2 a8 y.events l2) gs ?_
   rintro _ H4 _ H5 l3 g2 ⟨f55,l4,rfl,l8,ma,rfl⟩
   replace d2:=d2.mono l3
   refine Op.c0 (some 37) (EH _ _ _ g2.sub d2 f55 l4 (y.events.map (·.1)) l8 ma (by((try dsimp only)<;>((have:=hq.el;have:=hq.rl;rw[d_];omega))))) g2 ?_
   rintro _ md _ Id mf mi ⟨If,ep,rfl,b3,U,rfl⟩;subst md;clear mf
   obtain⟨ml,g3,rfl⟩:=b3.aj
   have mp:=c4.xE (mi.Aj (aM.trans c4.le g1) (by repeat (first|assumption|exact aM.refl _|apply aM.trans)))
   replace b3:=b3.bu (fun _ _ _ _ h=>h) (g':=bj)
   refine Op.pg 3 [(38,vI ((eH (y.events.map (·.1))).length:Int)),(39,vI 0)] ?_
   obtain⟨g4,g5,IH,er,mx,g6,b4⟩:=gk
   have my:=St.un [er] mx mp
   have m0:∀(m:Nat) (bk:GH) (a7:aM bj bk) (im:gu) (i:Int) (et:ay) (ex:ax) (hm:(eH (y.events.map (·.1))).length-i.toNat<m) (h0:0≤i) (h1:i≤(eH (y.events.map (·.1))).length) (hI:u7 y im i) (hn:(im.aT.length:Int)≤8*i) (eA:qk bk X im et) (c5:St h g (aV [bi]) bk [[(a8,.map g4 g5)],er,ep,[(O,Obj.cells #[vP f9,vP gc,vP ge,vI y.aA,vI y.count,.map (some a8),.map (some a6)] 138 (0,0))],dE,dT,d0,gg,[(bt,Obj.cells #[vI 0,vI 0,vN,vN,vN,vN,vN] 81 (0,0))],et] ex),At (bX prog B 40 f40 R) [] 3 [(0,vP O),(2,vP bt),(3,vP X),(37,vL ml ((eH (y.events.map (·.1))).length) g3),(38,vI ((eH (y.events.map (·.1))).length:Int)),(39,vI i)] ex:=by
    intro m;induction m with
    |zero=>intros;omega
    |succ m m1=>
     intro bk a7 im i et ex hm h0 h1 hI hn eA c5
     replace ck:=ck.mono a7
     replace co:=co.mono a7
     replace c3:=c3.mono a7
     replace d1:=d1.mono a7
     replace b3:=b3.mono a7
     replace J:=J.mono a7
     replace b4:=b4.mono a7
     refine At.go 4 1 [(40,.bool (decide (i<((eH (y.events.map (·.1))).length:Int))))] ?_
     refine At.fd (i<((eH (y.events.map (·.1))).length:Int)) 40 5 8 (fun IO=>?_) fun IR=>?_
     ·refine At.rg 3 ?_
      obtain⟨b5,eB⟩:=cG (eH (y.events.map (·.1))) i
      obtain⟨m2,g7,I8,Ly,m3,m4,eE⟩:=jX.bF (b3.toH c5 2 rfl) _ eB
      cases m3
      refine Op.iq 117 3 1 8 ((eH (y.events.map (·.1))).length) g3 37 39 41 m2 g7 i ?_
      replace eE:cut _ _ _=[vI b5]:=eE
      refine Op.l1 3 41 42 (g7+i.toNat*1) (vI b5) m4 ?_ (hv:=c_ eE 0 rfl)
      refine Op.pg 6 [(5,vI b5)] ?_
      obtain⟨LE,m5,LO,m6,M2,m7,Ne,m8,Nm,m9,na,g8,g9,he,hf,hh⟩:=eA
      obtain⟨nb,nd,rfl⟩:=g8.aj
      obtain⟨nf,nm,rfl⟩:=g9.aj
      obtain⟨nn,no,rfl⟩:=he.aj
      obtain⟨a117,np,rfl⟩:=hf.aj
      obtain⟨a119,n120,rfl⟩:=hh.aj
      have nu:=(((((((((c5.aa 8 rfl).aa 8 rfl).aa 8 rfl).aa 8 rfl).aa 8 rfl).aa 8 rfl).aa 8 rfl).aa 8 rfl).aa 8 rfl).aa 9 rfl
      have eI:=St.un [m5,m6,m7,m8,m9] na nu
      refine At.dw (fun _=>False) [(0,true),(2,true),(3,true),(4,true),(6,true),(1,true),(5,false),(7,false),(1008,false),(8,false),(9,true),(10,false)] ?_
      refine Op.px 5 [(43,vQ X 5),(47,vQ O 5),(49,vI b5)] ?_
      refine Op.lf 41 43 5 44 1 (vL a117 im.aT.length np) (fun h=>h) (eI.ah 0 rfl) ?_
      refine Op.l1 135 47 48 5 (.map (some a8)) (eI.ah 9 rfl) ?_
      rcases b4.iB b5 with ⟨hj,d3,nx⟩|⟨NE,b6,Ok,Or,hj,d3,hl,ho,nx⟩
      ·exfalso;exact yo hq.se eB d3
      obtain⟨nz,n0,rfl⟩:=hl.aj
      have n3:=(((((((eI.aa 6 rfl).aa 6 rfl).aa 6 rfl).aa 6 rfl).aa 6 rfl).aa 6 rfl).aa 6 rfl).aa 7 rfl
      have eJ:=St.u0 ho n3
      refine Op.mk (.slice none 0 0) 135 48 49 50 b5 (vL nz b6.length n0) (eJ.ah 8 rfl) g6 hj ?_
      refine Op.ba ?_
      obtain⟨Os,oi,oj⟩:=eT.slice (P:=prog) (hl.toH eJ 0 rfl)
      refine Op.ap 44 50 41 41 51 45 32 dh (ys:=b6) hf eJ 6 oj (by(have h7:=Fw hq.W.quo ‹_›;have h8:=hq.el;have h9:=h1;rw[mG,d_] at h9;omega)) (fun _ _ _=>trivial) oi fun v139 Pi Pl hr ol Ps=>?_
      obtain⟨hu,n146,rfl⟩:=hr.aj
      refine Op.px 1 [(52,vQ X 5)] ?_
      refine Op.s1 41 52 51 5 (vL hu ((im.aT++b6).length) n146) 2 #[vI im.aX,vI im.aZ,vL nb im.bZ.length nd,vL nf im.cJ.length nm,vL nn im.cr.length no,vL hu ((im.aT++b6).length) n146,vL a119 im.bL.length n120] ol (fun _=>trivial) fun PH or=>?_
      refine Op.gt 7 ?_
      refine At.rg 2 ?_
      refine Op.cE 53 (i+1) (by omega) (by(have h7:=Fw hq.W.quo ‹_›;have h8:=hq.el;have h9:=h1;rw[mG,d_] at h9;omega)) ?_
      refine Op.pg 3 [(39,vI (i+1))] ?_
      have o3:=(((((((or.aa 1 rfl).aa 1 rfl).aa 7 rfl).aa 7 rfl).aa 7 rfl).aa 7 rfl).aa 7 rfl).aa 7 rfl
      obtain⟨PP,o4,pa⟩:=St.bJ (Q:=qk bk X (⟨im.aX,im.aZ,im.bZ,im.cJ,im.cr,im.aT++b6,im.bL⟩:gu)) 6 o3 ⟨_,_,_,_,_,_,_,_,_,_,rfl,g8,g9,he,hr,hh⟩
      have pb:=((pa.aa 0 rfl).aa 2 rfl).aa 2 rfl
      have pc:=St.tw ho pb
      have pd:=(((((((((pc.aa 1 rfl).aa 9 rfl).aa 9 rfl).aa 9 rfl).aa 9 rfl).aa 9 rfl).aa 9 rfl).aa 9 rfl).aa 8 rfl).aa 9 rfl
      exact At.ke (m1 _ a7 (⟨im.aX,im.aZ,im.bZ,im.cJ,im.cr,im.aT++b6,im.bL⟩:gu) (i+1) _ _ (by omega) (by omega) (by omega) (by exact S1 hq.se hI h0 eB d3) (by(have h7:=Fw hq.W.quo d3;simp only[cA];omega)) o4 pd)
     refine At.rp 8 3 [(56,vQ O 6)] ?_
     refine Op.l1 136 56 57 6 (.map (some a6)) (c5.ah 3 rfl) ?_
     have c6:=(((((((c5.aa 6 rfl).aa 6 rfl).aa 6 rfl).aa 6 rfl).aa 6 rfl).aa 6 rfl).aa 6 rfl).aa 7 rfl
     have pf:=kq.fY d1 c6 (fun p hp=>hp)
     have hw:=c6.freeze.1
     have hx:=c6.freeze.2
     have d4:=J.mono hx
     refine Op.c0 (some 58) (S9 _ _ _ hw.sub d4 a6 y.aR pf) hw ?_
     rintro _ PQ _ P1 ph hz ⟨f163,pj,rfl,pl,pm,rfl⟩
     replace d4:=d4.mono ph
     refine Op.c0 (some 59) (EH _ _ _ hz.sub d4 f163 pj (y.aR.map (·.1)) pl pm (by((try dsimp only)<;>((have:=hq.el;have:=hq.rl;rw[mG,d_] at *;omega))))) hz ?_
     rintro _ po _ P2 pu pv ⟨v171,hA,rfl,b8,U,rfl⟩;subst po;clear pu
     obtain⟨pw,hB,rfl⟩:=b8.aj
     have py:=c6.xE (pv.Aj (aM.trans c6.le hx) (by repeat (first|assumption|exact aM.refl _|apply aM.trans)))
     replace b8:=b8.bu (fun _ _ _ _ h=>h) (g':=bk)
     refine Op.pg 9 [(60,vI ((eH (y.aR.map (·.1))).length:Int)),(61,vI 0)] ?_
     obtain⟨hC,hD,QP,rfl,ca,a9⟩:=d1
     have pA:∀(m:Nat) (bm:GH) (ab:aM bk bm) (u:gu) (j:Int) (eK:ay) (eL:ax) (hm:(eH (y.aR.map (·.1))).length-j.toNat<m) (h4:0≤j) (h5:j≤(eH (y.aR.map (·.1))).length) (am:u9 y u j) (hm:(u.bL.length:Int)≤j) (eQ:qk bm X u eK) (d5:St h g (aV [bi]) bm [[(a6,.map hC hD)],hA,[(a8,.map g4 g5)],er,ep,[(O,Obj.cells #[vP f9,vP gc,vP ge,vI y.aA,vI y.count,.map (some a8),.map (some a6)] 138 (0,0))],dE,dT,d0,[(bt,Obj.cells #[vI 0,vI 0,vN,vN,vN,vN,vN] 81 (0,0))],eK] eL),At (bX prog B 40 f40 R) [] 9 [(0,vP O),(2,vP bt),(3,vP X),(59,vL pw ((eH (y.aR.map (·.1))).length) hB),(60,vI ((eH (y.aR.map (·.1))).length:Int)),(61,vI j)] eL:=by
      intro m;induction m with
      |zero=>intros;omega
      |succ m e1=>
       intro bm ab u j eK eL hm h4 h5 am hm eQ d5
       replace b8:=b8.mono ab
       replace ck:=ck.mono ab
       replace co:=co.mono ab
       replace c3:=c3.mono ab
       replace J:=J.mono ab
       replace b4:=b4.mono ab
       replace a9:=a9.mono (fun _ _=>rz.mono ab)
       refine At.go 10 1 [(62,.bool (decide (j<((eH (y.aR.map (·.1))).length:Int))))] ?_
       refine At.fd (j<((eH (y.aR.map (·.1))).length:Int)) 62 11 14 (fun QQ=>?_) fun QR=>?_
       ·refine At.rg 3 ?_
        obtain⟨G,cb⟩:=cG (eH (y.aR.map (·.1))) j
        obtain⟨pB,hE,Rd,RK,pC,pD,e2⟩:=jX.bF (b8.toH d5 1 rfl) _ cb
        cases pC
        refine Op.iq 117 3 1 8 ((eH (y.aR.map (·.1))).length) hB 59 61 63 pB hE j ?_
        replace e2:cut _ _ _=[vI G]:=e2
        refine Op.l1 3 63 64 (hE+j.toNat*1) (vI G) pD ?_ (hv:=c_ e2 0 rfl)
        refine Op.pg 12 [(7,vI G)] ?_
        obtain⟨R2,hF,So,hG,ST,hH,T1,hJ,T2,hK,p0,ar,aw,a0,a1,a3⟩:=eQ
        obtain⟨e3,n217,rfl⟩:=ar.aj
        obtain⟨a218,n219,rfl⟩:=aw.aj
        obtain⟨e4,n221,rfl⟩:=a0.aj
        obtain⟨a222,e5,rfl⟩:=a1.aj
        obtain⟨p1,n225,rfl⟩:=a3.aj
        have p2:=((((((((((d5.aa 9 rfl).aa 9 rfl).aa 9 rfl).aa 9 rfl).aa 9 rfl).aa 9 rfl).aa 9 rfl).aa 9 rfl).aa 9 rfl).aa 9 rfl).aa 10 rfl
        have D:=St.un [hF,hG,hH,hJ,hK] p0 p2
        refine At.Lu (by kernel_rfl) (aV [hF,hG,hH,hJ,hK,hA,ep,dE,dT,d0]) 22 (.mv 0 true (.mv 2 true (.mv 3 true (.mv 4 true (.mv 5 true (.mv 7 true (.mv 10 true (.mv 11 true (.mv 12 true (.mv 14 true (.mv 1 true (.mv 6 true (.mv 13 true (.gQ 8 15 (.seq [(9,true),(15,false),(16,true),(17,false),(18,true),(19,false),(20,false),(21,true),(1022,false),(22,false)]) (.mv 16 true (.gQ 8 17 (.seq [(9,true),(17,false),(18,true),(19,false),(20,false),(21,true),(1022,false),(22,false)]) (.seq [(8,false),(9,true),(18,true),(19,false),(20,false),(21,true),(1022,false),(22,false)]))))))))))))))))) (by kernel_rfl) ?_
        refine Op.px 10 [(65,vQ X 6),(67,vI G),(70,vQ O 6),(72,vI G),(77,vQ O 6),(79,vI G)] ?_
        refine Op.lf 65 65 6 66 1 (vL p1 u.bL.length n225) (fun h=>(bz h).elim (D.apart 0 1 rfl rfl rfl) (fun h=>(bz h).elim (D.apart 0 2 rfl rfl rfl) (fun h=>(bz h).elim (D.apart 0 3 rfl rfl rfl) (fun h=>(bz h).elim (D.apart 0 4 rfl rfl rfl) (fun h=>(bz h).elim (D.apart 0 5 rfl rfl rfl) (fun h=>(bz h).elim (D.apart 0 7 rfl rfl rfl) (fun h=>(bz h).elim (D.apart 0 10 rfl rfl rfl) (fun h=>(bz h).elim (D.apart 0 12 rfl rfl rfl) (fun h=>(bz h).elim (D.apart 0 13 rfl rfl rfl) (fun h=>(bz h).elim (D.apart 0 14 rfl rfl rfl) (fun h=>absurd h (dB _)))))))))))) (D.ah 0 rfl) ?_
        refine Op.lf 136 70 6 71 1 (.map (some a6)) (fun h=>(bz h).elim (D.apart 11 1 rfl rfl rfl) (fun h=>(bz h).elim (D.apart 11 2 rfl rfl rfl) (fun h=>(bz h).elim (D.apart 11 3 rfl rfl rfl) (fun h=>(bz h).elim (D.apart 11 4 rfl rfl rfl) (fun h=>(bz h).elim (D.apart 11 5 rfl rfl rfl) (fun h=>(bz h).elim (D.apart 11 7 rfl rfl rfl) (fun h=>(bz h).elim (D.apart 11 10 rfl rfl rfl) (fun h=>(bz h).elim (D.apart 11 12 rfl rfl rfl) (fun h=>(bz h).elim (D.apart 11 13 rfl rfl rfl) (fun h=>(bz h).elim (D.apart 11 14 rfl rfl rfl) (fun h=>absurd h (dB _)))))))))))) (D.ah 11 rfl) ?_
        refine Op.lf 136 77 6 78 1 (.map (some a6)) (fun h=>(bz h).elim (D.apart 11 1 rfl rfl rfl) (fun h=>(bz h).elim (D.apart 11 2 rfl rfl rfl) (fun h=>(bz h).elim (D.apart 11 3 rfl rfl rfl) (fun h=>(bz h).elim (D.apart 11 4 rfl rfl rfl) (fun h=>(bz h).elim (D.apart 11 5 rfl rfl rfl) (fun h=>(bz h).elim (D.apart 11 7 rfl rfl rfl) (fun h=>(bz h).elim (D.apart 11 10 rfl rfl rfl) (fun h=>(bz h).elim (D.apart 11 12 rfl rfl rfl) (fun h=>(bz h).elim (D.apart 11 13 rfl rfl rfl) (fun h=>(bz h).elim (D.apart 11 14 rfl rfl rfl) (fun h=>absurd h (dB _)))))))))))) (D.ah 11 rfl) ?_
        refine Op.AE ?_ ?_
        ·rcases a9.iB G with ⟨hL,hN⟩|⟨v228,a229,hL,hN,p3⟩
         ·exfalso;exact yo hq.sr cb hN
         obtain⟨UV,rfl,p8⟩:=p3
         obtain⟨qr,n236,rfl⟩:=p8.aj
         refine Op.mk (.agg #[vI 0,vN]) 136 71 72 73 G (.agg #[vI a229.cW,vL qr (a229.data.length) n236]) (D.ah 6 rfl) ca hL ?_
         refine Op.px 1 [(74,vI a229.cW)] ?_
         rcases a9.iB G with ⟨hO,hP⟩|⟨UX,ad,hO,hP,q0⟩
         ·exfalso;exact yo hq.sr cb hP
         obtain⟨UY,rfl,hQ⟩:=q0
         obtain⟨hS,hT,rfl⟩:=hQ.aj
         refine Op.mk (.agg #[vI 0,vN]) 136 78 79 80 G (.agg #[vI ad.cW,vL hS (ad.data.length) hT]) (D.ah 6 rfl) ca hO ?_
         refine Op.px 1 [(81,vL hS (ad.data.length) hT)] ?_
         refine Op.c0 (some 82) (om _ _ _ D.sub J _ _ hQ (by((try dsimp only)<;>(exact Fv hq.rp hq.sr ‹_›)))) D ?_
         rintro _ q1 _ UZ q2 q3 ⟨U0,U1,rfl,hV,U,rfl⟩;subst q1;clear q2
         obtain⟨e6,e7,rfl⟩:=hV.aj
         refine Op.px 1 [(83,.agg #[vI G,vI a229.cW,vL e6 (ad.data.length) e7])] ?_
         obtain⟨q4,q5,c8,q6⟩:=aJ.freeze hV (q3.aa 0 rfl)
         replace ar:=ar.mono c8
         replace aw:=aw.mono c8
         replace a0:=a0.mono c8
         replace a1:=a1.mono c8
         replace a3:=a3.mono c8
         refine Op.ls 84 1 101 #[vI G,vI a229.cW,vL e6 (ad.data.length) e7] q5 fun U2 U3 hW=>?_
         refine Op.ap 66 84 65 65 85 101 40 n_ (ys:=[(⟨G,a229.cW,ad.data⟩:ig)]) a3 hW 6 (⟨_,_,rfl,⟨_,q6,rfl⟩,Reads.nil⟩) (by(have:=hq.el;have:=hq.rl;rw[mG,d_] at *;simp only[bY,dU];omega)) (fun p hq _=>⟨p,by simp[hq],rfl⟩) (eT.lit (m:=1) (sz:=3) (hW.ah 0 rfl) (news:=[vI G,vI a229.cW,vL e6 (ad.data.length) e7]) rfl rfl (by simp[Value.oneCell']) _) fun U4 U5 U6 hX ra U7=>?_
         obtain⟨hY,hZ,rfl⟩:=hX.aj
         have rb:=(ra.aa 0 rfl).drop
         refine Op.px 1 [(86,vQ X 6)] ?_
         refine Op.ba ?_
         refine Op.s1 65 86 85 6 (vL hY ((u.bL++([(⟨G,a229.cW,ad.data⟩:ig)])).length) hZ) 0 #[vI u.aX,vI u.aZ,vL e3 u.bZ.length n217,vL a218 u.cJ.length n219,vL e4 u.cr.length n221,vL a222 u.aT.length e5,vL hY ((u.bL++([(⟨G,a229.cW,ad.data⟩:ig)])).length) hZ] rb (fun _=>trivial) fun U8 rc=>?_
         refine Op.gt 13 ?_
         refine At.rg 2 ?_
         refine Op.cE 87 (j+1) (by omega) (by(have:=hq.el;have:=hq.rl;rw[mG,d_] at *;omega)) ?_
         refine Op.pg 9 [(61,vI (j+1))] ?_
         obtain⟨U9,rd,re⟩:=St.bJ (Q:=qk q4 X (⟨u.aX,u.aZ,u.bZ,u.cJ,u.cr,u.aT,u.bL++([(⟨G,a229.cW,ad.data⟩:ig)])⟩:gu)) 6 rc ⟨_,_,_,_,_,_,_,_,_,_,rfl,ar,aw,a0,a1,hX⟩
         have rf:=((((((((((re.aa 0 rfl).aa 10 rfl).aa 10 rfl).aa 10 rfl).aa 10 rfl).aa 10 rfl).aa 10 rfl).aa 10 rfl).aa 10 rfl).aa 10 rfl).aa 10 rfl
         exact At.ke (e1 _ (aM.trans ab (by repeat (first|assumption|apply aM.trans))) (⟨u.aX,u.aZ,u.bZ,u.cJ,u.cr,u.aT,u.bL++([(⟨G,a229.cW,ad.data⟩:ig)])⟩:gu) (j+1) _ _ (by omega) (by omega) (by omega) (by exact Fu hq.sr am h4 ‹_› ‹_› ‹_›) (by(simp only[cA,bY,dU];omega)) rd rf)
        rcases a9.iB G with ⟨h2,h3⟩|⟨U_,V,h2,h3,rh⟩
        ·exfalso;exact yo hq.sr cb h3
        obtain⟨Va,rfl,e8⟩:=rh
        obtain⟨h6,n285,rfl⟩:=e8.aj
        refine Op.mk (.agg #[vI 0,vN]) 136 78 79 80 G (.agg #[vI V.cW,vL h6 (V.data.length) n285]) (D.ah 6 rfl) ca h2 ?_
        refine Op.px 1 [(81,vL h6 (V.data.length) n285)] ?_
        refine Op.AE ?_ ?_
        ·rcases a9.iB G with ⟨ib,ih⟩|⟨Vb,ae,ib,ih,rk⟩
         ·exfalso;exact yo hq.sr cb ih
         obtain⟨Vc,rfl,rn⟩:=rk
         obtain⟨rr,n294,rfl⟩:=rn.aj
         refine Op.mk (.agg #[vI 0,vN]) 136 71 72 73 G (.agg #[vI ae.cW,vL rr (ae.data.length) n294]) (D.ah 6 rfl) ca ib ?_
         refine Op.px 1 [(74,vI ae.cW)] ?_
         refine Op.c0 (some 82) (om _ _ _ D.sub J _ _ e8 (by((try dsimp only)<;>(exact Fv hq.rp hq.sr ‹_›)))) D ?_
         rintro _ rv _ Vd rx r0 ⟨Ve,Vf,rfl,ii,U,rfl⟩;subst rv;clear rx
         obtain⟨e9,n301,rfl⟩:=ii.aj
         refine Op.px 1 [(83,.agg #[vI G,vI ae.cW,vL e9 (V.data.length) n301])] ?_
         obtain⟨r1,r2,c9,r3⟩:=aJ.freeze ii (r0.aa 0 rfl)
         replace ar:=ar.mono c9
         replace aw:=aw.mono c9
         replace a0:=a0.mono c9
         replace a1:=a1.mono c9
         replace a3:=a3.mono c9
         refine Op.ls 84 1 101 #[vI G,vI ae.cW,vL e9 (V.data.length) n301] r2 fun Vg Vh ik=>?_
         refine Op.ap 66 84 65 65 85 101 40 n_ (ys:=[(⟨G,ae.cW,V.data⟩:ig)]) a3 ik 6 (⟨_,_,rfl,⟨_,r3,rfl⟩,Reads.nil⟩) (by(have:=hq.el;have:=hq.rl;rw[mG,d_] at *;simp only[bY,dU];omega)) (fun p hq _=>⟨p,by simp[hq],rfl⟩) (eT.lit (m:=1) (sz:=3) (ik.ah 0 rfl) (news:=[vI G,vI ae.cW,vL e9 (V.data.length) n301]) rfl rfl (by simp[Value.oneCell']) _) fun Vi Vj Vk il sc Vl=>?_
         obtain⟨io,n318,rfl⟩:=il.aj
         have sd:=(sc.aa 0 rfl).drop
         refine Op.px 1 [(86,vQ X 6)] ?_
         refine Op.ba ?_
         refine Op.s1 65 86 85 6 (vL io ((u.bL++([(⟨G,ae.cW,V.data⟩:ig)])).length) n318) 0 #[vI u.aX,vI u.aZ,vL e3 u.bZ.length n217,vL a218 u.cJ.length n219,vL e4 u.cr.length n221,vL a222 u.aT.length e5,vL io ((u.bL++([(⟨G,ae.cW,V.data⟩:ig)])).length) n318] sd (fun _=>trivial) fun Vm sf=>?_
         refine Op.gt 13 ?_
         refine At.rg 2 ?_
         refine Op.cE 87 (j+1) (by omega) (by(have:=hq.el;have:=hq.rl;rw[mG,d_] at *;omega)) ?_
         refine Op.pg 9 [(61,vI (j+1))] ?_
         obtain⟨Vn,sh,sk⟩:=St.bJ (Q:=qk r1 X (⟨u.aX,u.aZ,u.bZ,u.cJ,u.cr,u.aT,u.bL++([(⟨G,ae.cW,V.data⟩:ig)])⟩:gu)) 6 sf ⟨_,_,_,_,_,_,_,_,_,_,rfl,ar,aw,a0,a1,il⟩
         have sm:=((((((((((sk.aa 0 rfl).aa 10 rfl).aa 10 rfl).aa 10 rfl).aa 10 rfl).aa 10 rfl).aa 10 rfl).aa 10 rfl).aa 10 rfl).aa 10 rfl).aa 10 rfl
         exact At.ke (e1 _ (aM.trans ab (by repeat (first|assumption|apply aM.trans))) (⟨u.aX,u.aZ,u.bZ,u.cJ,u.cr,u.aT,u.bL++([(⟨G,ae.cW,V.data⟩:ig)])⟩:gu) (j+1) _ _ (by omega) (by omega) (by omega) (by exact Fu hq.sr am h4 ‹_› ‹_› ‹_›) (by(simp only[cA,bY,dU];omega)) sh sm)
        refine Op.c0 (some 82) (om _ _ _ D.sub J _ _ e8 (by((try dsimp only)<;>(exact Fv hq.rp hq.sr ‹_›)))) D ?_
        rintro _ so _ Vo ss ip ⟨Vp,Vq,rfl,is,U,rfl⟩;subst so;clear ss
        obtain⟨fa,n332,rfl⟩:=is.aj
        rcases a9.iB G with ⟨iv,i0⟩|⟨Vr,a4,iv,i0,sA⟩
        ·exfalso;exact yo hq.sr cb i0
        obtain⟨Vs,rfl,sB⟩:=sA
        obtain⟨sT,n343,rfl⟩:=sB.aj
        refine Op.mk (.agg #[vI 0,vN]) 136 71 72 73 G (.agg #[vI a4.cW,vL sT (a4.data.length) n343]) (ip.ah 7 rfl) ca iv ?_
        refine Op.px 2 [(83,.agg #[vI G,vI a4.cW,vL fa (V.data.length) n332])] ?_
        obtain⟨s0,s2,da,s3⟩:=aJ.freeze is (ip.aa 0 rfl)
        replace ar:=ar.mono da
        replace aw:=aw.mono da
        replace a0:=a0.mono da
        replace a1:=a1.mono da
        replace a3:=a3.mono da
        refine Op.ls 84 1 101 #[vI G,vI a4.cW,vL fa (V.data.length) n332] s2 fun Vt Vu i1=>?_
        refine Op.ap 66 84 65 65 85 101 40 n_ (ys:=[(⟨G,a4.cW,V.data⟩:ig)]) a3 i1 6 (⟨_,_,rfl,⟨_,s3,rfl⟩,Reads.nil⟩) (by(have:=hq.el;have:=hq.rl;rw[mG,d_] at *;simp only[bY,dU];omega)) (fun p hq _=>⟨p,by simp[hq],rfl⟩) (eT.lit (m:=1) (sz:=3) (i1.ah 0 rfl) (news:=[vI G,vI a4.cW,vL fa (V.data.length) n332]) rfl rfl (by simp[Value.oneCell']) _) fun Vv Vw Vx i2 s4 Vy=>?_
        obtain⟨i3,i4,rfl⟩:=i2.aj
        have s8:=(s4.aa 0 rfl).drop
        refine Op.px 1 [(86,vQ X 6)] ?_
        refine Op.ba ?_
        refine Op.s1 65 86 85 6 (vL i3 ((u.bL++([(⟨G,a4.cW,V.data⟩:ig)])).length) i4) 0 #[vI u.aX,vI u.aZ,vL e3 u.bZ.length n217,vL a218 u.cJ.length n219,vL e4 u.cr.length n221,vL a222 u.aT.length e5,vL i3 ((u.bL++([(⟨G,a4.cW,V.data⟩:ig)])).length) i4] s8 (fun _=>trivial) fun Vz ta=>?_
        refine Op.gt 13 ?_
        refine At.rg 2 ?_
        refine Op.cE 87 (j+1) (by omega) (by(have:=hq.el;have:=hq.rl;rw[mG,d_] at *;omega)) ?_
        refine Op.pg 9 [(61,vI (j+1))] ?_
        obtain⟨VA,te,th⟩:=St.bJ (Q:=qk s0 X (⟨u.aX,u.aZ,u.bZ,u.cJ,u.cr,u.aT,u.bL++([(⟨G,a4.cW,V.data⟩:ig)])⟩:gu)) 6 ta ⟨_,_,_,_,_,_,_,_,_,_,rfl,ar,aw,a0,a1,i2⟩
        have ti:=((((((((((th.aa 0 rfl).aa 10 rfl).aa 10 rfl).aa 10 rfl).aa 10 rfl).aa 10 rfl).aa 10 rfl).aa 10 rfl).aa 10 rfl).aa 10 rfl).aa 10 rfl
        exact At.ke (e1 _ (aM.trans ab (by repeat (first|assumption|apply aM.trans))) (⟨u.aX,u.aZ,u.bZ,u.cJ,u.cr,u.aT,u.bL++([(⟨G,a4.cW,V.data⟩:ig)])⟩:gu) (j+1) _ _ (by omega) (by omega) (by omega) (by exact Fu hq.sr am h4 ‹_› ‹_› ‹_›) (by(simp only[cA,bY,dU];omega)) te ti)
       refine At.rg 2 ?_
       obtain⟨VB,i5,VC,i6,VD,i7,VE,i8,VF,i9,tk,jf,jj,jn,jt,j1⟩:=eQ
       obtain⟨db,dc,rfl⟩:=jf.aj
       obtain⟨dd,df,rfl⟩:=jj.aj
       obtain⟨dg,dj,rfl⟩:=jn.aj
       obtain⟨dk,dl,rfl⟩:=jt.aj
       obtain⟨dp,dq,rfl⟩:=j1.aj
       have tl:=((((((((((d5.aa 9 rfl).aa 9 rfl).aa 9 rfl).aa 9 rfl).aa 9 rfl).aa 9 rfl).aa 9 rfl).aa 9 rfl).aa 9 rfl).aa 9 rfl).aa 10 rfl
       have j2:=St.un [i5,i6,i7,i8,i9] tk tl
       refine Op.la 81 3 88 0 7 [vI u.aX,vI u.aZ,vL db u.bZ.length dc,vL dd u.cJ.length df,vL dg u.cr.length dj,vL dk u.aT.length dl,vL dp u.bL.length dq] (j2.ah 0 rfl) ?_
       refine Op.sg 81 2 88 0 15 #[vI u.aX,vI u.aZ,vL db u.bZ.length dc,vL dd u.cJ.length df,vL dg u.cr.length dj,vL dk u.aT.length dl,vL dp u.bL.length dq] j2 (fun _=>trivial) fun VG tm=>?_
       refine Op.gt 15 ?_
       have tp:=(((((((((tm.aa 7 rfl).aa 7 rfl).aa 7 rfl).aa 7 rfl).aa 7 rfl).aa 7 rfl).aa 7 rfl).aa 7 rfl).aa 9 rfl).aa 9 rfl
       obtain⟨VH,tt,tx⟩:=St.bJ (Q:=lV bm a8 y.events) 2 tp ⟨_,_,_,_,rfl,g6,b4⟩
       have tz:kq bm a6 y.aR [(a6,.map hC hD)]:=⟨_,_,_,rfl,ca,a9⟩
       have tA:=(((((((((((((tx.aa 9 rfl).aa 9 rfl).aa 8 rfl).aa 8 rfl).aa 8 rfl).aa 8 rfl).aa 8 rfl).aa 8 rfl).aa 9 rfl).aa 9 rfl).aa 13 rfl).aa 13 rfl).aa 13 rfl).aa 13 rfl
       obtain⟨tB,tR,kc⟩:=St.bJ (Q:=cu bm O y) 6 tA ⟨_,_,_,_,_,_,_,_,_,_,rfl,ck,co,c3,tt,tz⟩
       refine At.rm f40 [.agg #[vI u.aX,vI u.aZ,vL db u.bZ.length dc,vL dd u.cJ.length df,vL dg u.cr.length dj,vL dk u.aT.length dl,vL dp u.bL.length dq]] [.cell 2 81] (.agg #[vI u.aX,vI u.aZ,vL db u.bZ.length dc,vL dd u.cJ.length df,vL dg u.cr.length dj,vL dk u.aT.length dl,vL dp u.bL.length dq]) ⟨⟨_,_,rfl,dY (n:=7) (by kernel_rfl) (kc.ah 9 rfl) (by kernel_rfl) rfl⟩,trivial⟩ ?_
       have tS:=(((((((((kc.aa 6 rfl).aa 6 rfl).aa 6 rfl).aa 6 rfl).aa 6 rfl).aa 5 rfl).aa 9 rfl).aa 9 rfl).aa 9 rfl).aa 9 rfl
       exact hR tS.drop.drop.drop.drop ⟨(vL db u.bZ.length dc),i5,(vL dd u.cJ.length df),i6,(vL dg u.cr.length dj),i7,(vL dk u.aT.length dl),i8,(vL dp u.bL.length dq),i9,tB,(by(rw[yp am ‹_›,hy])),eV jf (by(rw[yp am ‹_›,hy])),eV jj (by(rw[yp am ‹_›,hy])),eV jn (by(rw[yp am ‹_›,hy])),eV jt (by(rw[yp am ‹_›,hy])),eV j1 (by(rw[yp am ‹_›,hy])),tR.eq (by exact hy),rfl⟩
     exact At.ke (pA _ _ (aM.refl _) im 0 _ _ (bM _) (by omega) (by omega) (by exact S3 hI ‹_›) (by(rw[hI];simp)) eA py)
   exact At.ke (m0 _ _ (aM.refl _) dC 0 _ _ (bM _) (by omega) (by omega) (by exact en) (by(rw[en];simp)) f7 my)
 obtain⟨fg,kd,d6,kh,du,kk,VI,kl,VJ,km,t0,a5,bo,bc,bd,be⟩:=lx
 have t1:=(lA.aa 0 rfl).aa 1 rfl
 have I:=St.un [kd,kh,kk,kl,km] t0 t1
 refine At.Lu (by kernel_rfl) (aV [kd,kh,kk,kl,km]) 25 (.mv 0 true (.mv 1 true (.mv 2 true (.mv 4 true (.mv 5 true (.mv 6 true (.mv 8 true (.mv 9 true (.mv 10 true (.mv 13 true (.mv 14 true (.mv 15 true (.mv 18 true (.mv 19 true (.mv 20 true (.mv 3 true (.mv 7 true (.mv 11 true (.mv 16 true (.mv 21 true (.gQ 12 24 (.gQ 17 24 (.gQ 22 24 (.seq [(23,true),(24,false),(1025,false),(25,false)]) (.seq [(22,false),(23,true),(1025,false),(25,false)])) (.seq [(17,false),(22,false),(23,true),(1025,false),(25,false)])) (.seq [(12,false),(17,false),(22,false),(23,true),(1025,false),(25,false)])))))))))))))))))))))) (by kernel_rfl) ?_
 refine Op.px 15 [(10,vQ O 3),(14,vQ O 4),(18,vP O),(23,vQ O 1),(28,vQ O 2)] ?_
 refine Op.lf 3 10 3 11 1 (vI s.aA) (fun h=>(bz h).elim (I.apart 0 1 rfl rfl rfl) (fun h=>(bz h).elim (I.apart 0 2 rfl rfl rfl) (fun h=>(bz h).elim (I.apart 0 3 rfl rfl rfl) (fun h=>(bz h).elim (I.apart 0 4 rfl rfl rfl) (fun h=>(bz h).elim (I.apart 0 5 rfl rfl rfl) (fun h=>absurd h (dB _))))))) (I.ah 0 rfl) ?_
 refine Op.lf 3 14 4 15 1 (vI s.count) (fun h=>(bz h).elim (I.apart 0 1 rfl rfl rfl) (fun h=>(bz h).elim (I.apart 0 2 rfl rfl rfl) (fun h=>(bz h).elim (I.apart 0 3 rfl rfl rfl) (fun h=>(bz h).elim (I.apart 0 4 rfl rfl rfl) (fun h=>(bz h).elim (I.apart 0 5 rfl rfl rfl) (fun h=>absurd h (dB _))))))) (I.ah 0 rfl) ?_
 refine Op.lf 129 18 0 19 1 (vP fg) (fun h=>(bz h).elim (I.apart 0 1 rfl rfl rfl) (fun h=>(bz h).elim (I.apart 0 2 rfl rfl rfl) (fun h=>(bz h).elim (I.apart 0 3 rfl rfl rfl) (fun h=>(bz h).elim (I.apart 0 4 rfl rfl rfl) (fun h=>(bz h).elim (I.apart 0 5 rfl rfl rfl) (fun h=>absurd h (dB _))))))) (I.ah 0 rfl) ?_
 refine Op.lf 131 23 1 24 1 (vP d6) (fun h=>(bz h).elim (I.apart 0 1 rfl rfl rfl) (fun h=>(bz h).elim (I.apart 0 2 rfl rfl rfl) (fun h=>(bz h).elim (I.apart 0 3 rfl rfl rfl) (fun h=>(bz h).elim (I.apart 0 4 rfl rfl rfl) (fun h=>(bz h).elim (I.apart 0 5 rfl rfl rfl) (fun h=>absurd h (dB _))))))) (I.ah 0 rfl) ?_
 refine Op.lf 133 28 2 29 1 (vP du) (fun h=>(bz h).elim (I.apart 0 1 rfl rfl rfl) (fun h=>(bz h).elim (I.apart 0 2 rfl rfl rfl) (fun h=>(bz h).elim (I.apart 0 3 rfl rfl rfl) (fun h=>(bz h).elim (I.apart 0 4 rfl rfl rfl) (fun h=>(bz h).elim (I.apart 0 5 rfl rfl rfl) (fun h=>absurd h (dB _))))))) (I.ah 0 rfl) ?_
 refine Op.AE ?_ ?_
 ·have d7:=(I.aa 0 rfl).aa 1 rfl
  have t2:=d7.gz
  have t3:=fI.fY a5 d7 (by intro p hp;simp only[dP,hp,iF,iG])
  refine Op.le (some 20) 0 d7 (El _ _ _ d7.iO (J.mono t2) fg s.au t3 (by(try dsimp only)<;>exact hp.W.tree)) (fun _ _ _ hp=>by obtain⟨_,_,_,_,_,U,_⟩:=hp;exact U) ?_ (hM:=(fun _ _ h=>absurd h (dB _)))
  rintro _ _ VK t4 ⟨VL,VM,VN,rfl,t5,U,rfl⟩;clear U
  have t6:=((t4.aa 0 rfl).aa 2 rfl).aa 2 rfl
  obtain⟨Y,kv,ce,d8⟩:=Deep.row t5 t6
  replace a5:=a5.mono ce
  replace bo:=bo.mono ce
  replace bc:=bc.mono ce
  replace bd:=bd.mono ce
  replace be:=be.mono ce
  replace J:=J.mono ce
  obtain⟨cf,ch,rfl⟩:=d8.aj
  refine Op.AE ?_ ?_
  ·have fi:=(((kv.aa 2 rfl).aa 2 rfl).aa 2 rfl).aa 3 rfl
   refine Op.cl (some 25) 1 fi (Ct _ _ _ fi.sub J d6 s.aN _ bo (by((try dsimp only)<;>((have:=hp.W.wl;omega)))) (St.pt 1 fi)) ?_ (hM:=(fun _ _ h=>oL (by simp) h))
   rintro _ t7 _ VO t8 kw ⟨VP,VQ,VR,rfl,fj,kx,U,rfl⟩;subst t7;clear t8
   obtain⟨d9,ed,rfl⟩:=fj.aj
   refine Op.AE ?_ ?_
   ·have fl:=(((((kw.aa 4 rfl).aa 4 rfl).aa 4 rfl).aa 4 rfl).aa 4 rfl).aa 5 rfl
    refine Op.cl (some 30) 1 fl (B6 _ _ _ fl.sub J du s.book _ bc (by(try dsimp only)<;>exact hp.W.book) (St.pt 1 fl)) ?_ (hM:=(fun _ _ h=>oL (by simp) h))
    rintro _ t9 _ VS ub ui ⟨VT,VU,VV,rfl,kA,ul,U,rfl⟩;subst t9;clear ub
    obtain⟨k0,k1,rfl⟩:=kA.aj
    refine Op.px 1 [(31,.agg #[vI s.aA,vI s.count,vL cf (s.au.length) ch,vL d9 (s.aN.length) ed,vL k0 ((s.book.map (·.2)).length) k1,vN,vN])] ?_
    refine Op.al 3 81 #[vI 0,vI 0,vN,vN,vN,vN,vN] ui fun us VW ut=>?_
    refine Op.ba ?_
    refine Op.sg 81 3 31 0 0 #[vI s.aA,vI s.count,vL cf (s.au.length) ch,vL d9 (s.aN.length) ed,vL k0 ((s.book.map (·.2)).length) k1,vN,vN] ut (fun _=>trivial) fun VX u1=>?_
    refine Op.gt 2 ?_
    have u2:=(((((((((u1.aa 5 rfl).aa 5 rfl).aa 4 rfl).aa 3 rfl).aa 9 rfl).aa 9 rfl).aa 6 rfl).aa 7 rfl).aa 8 rfl).aa 9 rfl
    obtain⟨VY,u3,u4⟩:=St.bJ (Q:=cu Y O s) 6 u2 ⟨_,_,_,_,_,_,_,_,_,_,rfl,a5,kx,ul,bd,be⟩
    have vd:=aJ.nil 45 dh Y
    have ve:=u4.nl
    have vo:=aJ.nil 101 n_ Y
    have vx:=ve.nl
    have vy:=((((((vx.aa 2 rfl).aa 1 rfl).aa 2 rfl).aa 4 rfl).aa 5 rfl).aa 6 rfl).aa 6 rfl
    obtain⟨VZ,v5,v6⟩:=St.bJ (Q:=qk Y us (⟨s.aA,s.count,s.au,s.aN,s.book.map (·.2),([]:List ak),([]:List ig)⟩:gu)) 6 vy ⟨_,_,_,_,_,_,_,_,_,_,rfl,d8,fj,kA,vd,vo⟩
    have v8:=((v6.aa 0 rfl).aa 1 rfl).aa 2 rfl
    exact At.ke (dv _ _ (by repeat (first|assumption|exact aM.refl _|apply aM.trans)) s (⟨s.aA,s.count,s.au,s.aN,s.book.map (·.2),([]:List ak),([]:List ig)⟩:gu) _ _ _ _ (bM _) (by rfl) (by exact hp) (by exact CD) u3 v5 v8)
   refine Op.al 3 81 #[vI 0,vI 0,vN,vN,vN,vN,vN] kw fun v9 V0 wa=>?_
   have fp:=((((((wa.aa 5 rfl).aa 5 rfl).aa 5 rfl).aa 5 rfl).aa 5 rfl).aa 5 rfl).aa 6 rfl
   refine Op.cl (some 30) 1 fp (B6 _ _ _ fp.sub J du s.book _ bc (by(try dsimp only)<;>exact hp.W.book) (St.pt 1 fp)) ?_ (hM:=(fun _ _ h=>oL (by simp) h))
   rintro _ wc _ V1 wi wn ⟨V2,V3,V4,rfl,k2,wp,U,rfl⟩;subst wc;clear wi
   obtain⟨k3,k4,rfl⟩:=k2.aj
   refine Op.px 1 [(31,.agg #[vI s.aA,vI s.count,vL cf (s.au.length) ch,vL d9 (s.aN.length) ed,vL k3 ((s.book.map (·.2)).length) k4,vN,vN])] ?_
   refine Op.ba ?_
   refine Op.sg 81 3 31 0 2 #[vI s.aA,vI s.count,vL cf (s.au.length) ch,vL d9 (s.aN.length) ed,vL k3 ((s.book.map (·.2)).length) k4,vN,vN] wn (fun _=>trivial) fun V5 wr=>?_
   refine Op.gt 2 ?_
   have wt:=(((((((((wr.aa 5 rfl).aa 5 rfl).aa 4 rfl).aa 4 rfl).aa 9 rfl).aa 9 rfl).aa 6 rfl).aa 7 rfl).aa 8 rfl).aa 9 rfl
   obtain⟨V6,ww,wx⟩:=St.bJ (Q:=cu Y O s) 6 wt ⟨_,_,_,_,_,_,_,_,_,_,rfl,a5,kx,wp,bd,be⟩
   have wy:=aJ.nil 45 dh Y
   have w0:=wx.nl
   have w1:=aJ.nil 101 n_ Y
   have w2:=w0.nl
   have w3:=((((((w2.aa 2 rfl).aa 1 rfl).aa 2 rfl).aa 3 rfl).aa 5 rfl).aa 6 rfl).aa 6 rfl
   obtain⟨V7,w7,xa⟩:=St.bJ (Q:=qk Y v9 (⟨s.aA,s.count,s.au,s.aN,s.book.map (·.2),([]:List ak),([]:List ig)⟩:gu)) 6 w3 ⟨_,_,_,_,_,_,_,_,_,_,rfl,d8,fj,k2,wy,w1⟩
   have xc:=((xa.aa 0 rfl).aa 1 rfl).aa 2 rfl
   exact At.ke (dv _ _ (by repeat (first|assumption|exact aM.refl _|apply aM.trans)) s (⟨s.aA,s.count,s.au,s.aN,s.book.map (·.2),([]:List ak),([]:List ig)⟩:gu) _ _ _ _ (bM _) (by rfl) (by exact hp) (by exact CD) ww w7 xc)
  refine Op.al 3 81 #[vI 0,vI 0,vN,vN,vN,vN,vN] kv fun xf V8 xi=>?_
  have fr:=((((xi.aa 3 rfl).aa 3 rfl).aa 3 rfl).aa 3 rfl).aa 4 rfl
  refine Op.cl (some 25) 1 fr (Ct _ _ _ fr.sub J d6 s.aN _ bo (by((try dsimp only)<;>((have:=hp.W.wl;omega)))) (St.pt 1 fr)) ?_ (hM:=(fun _ _ h=>oL (by simp) h))
  rintro _ xn _ V9 xr xt ⟨V_,Wa,Wb,rfl,k5,xv,U,rfl⟩;subst xn;clear xr
  obtain⟨k6,k7,rfl⟩:=k5.aj
  have ft:=((((((xt.aa 5 rfl).aa 5 rfl).aa 5 rfl).aa 5 rfl).aa 5 rfl).aa 5 rfl).aa 6 rfl
  refine Op.cl (some 30) 1 ft (B6 _ _ _ ft.sub J du s.book _ bc (by(try dsimp only)<;>exact hp.W.book) (St.pt 1 ft)) ?_ (hM:=(fun _ _ h=>oL (by simp) h))
  rintro _ yi _ Wc yk yn ⟨Wd,We,Wf,rfl,k8,yr,U,rfl⟩;subst yi;clear yk
  obtain⟨lc,lh,rfl⟩:=k8.aj
  refine Op.px 1 [(31,.agg #[vI s.aA,vI s.count,vL cf (s.au.length) ch,vL k6 (s.aN.length) k7,vL lc ((s.book.map (·.2)).length) lh,vN,vN])] ?_
  refine Op.ba ?_
  refine Op.sg 81 3 31 0 4 #[vI s.aA,vI s.count,vL cf (s.au.length) ch,vL k6 (s.aN.length) k7,vL lc ((s.book.map (·.2)).length) lh,vN,vN] yn (fun _=>trivial) fun Wg yv=>?_
  refine Op.gt 2 ?_
  have y7:=(((((((((yv.aa 5 rfl).aa 5 rfl).aa 5 rfl).aa 4 rfl).aa 9 rfl).aa 9 rfl).aa 6 rfl).aa 7 rfl).aa 8 rfl).aa 9 rfl
  obtain⟨Wh,y8,zr⟩:=St.bJ (Q:=cu Y O s) 6 y7 ⟨_,_,_,_,_,_,_,_,_,_,rfl,a5,xv,yr,bd,be⟩
  have zs:=aJ.nil 45 dh Y
  have zt:=zr.nl
  have z0:=aJ.nil 101 n_ Y
  have z1:=zt.nl
  have z2:=((((((z1.aa 2 rfl).aa 1 rfl).aa 2 rfl).aa 3 rfl).aa 4 rfl).aa 6 rfl).aa 6 rfl
  obtain⟨Wi,z3,z4⟩:=St.bJ (Q:=qk Y xf (⟨s.aA,s.count,s.au,s.aN,s.book.map (·.2),([]:List ak),([]:List ig)⟩:gu)) 6 z2 ⟨_,_,_,_,_,_,_,_,_,_,rfl,d8,k5,k8,zs,z0⟩
  have z5:=((z4.aa 0 rfl).aa 1 rfl).aa 2 rfl
  exact At.ke (dv _ _ (by repeat (first|assumption|exact aM.refl _|apply aM.trans)) s (⟨s.aA,s.count,s.au,s.aN,s.book.map (·.2),([]:List ak),([]:List ig)⟩:gu) _ _ _ _ (bM _) (by rfl) (by exact hp) (by exact CD) y8 z3 z5)
 refine Op.al 3 81 #[vI 0,vI 0,vN,vN,vN,vN,vN] I fun z6 Wj z7=>?_
 have ee:=((z7.aa 1 rfl).aa 1 rfl).aa 2 rfl
 have z8:=ee.gz
 have z9:=fI.fY a5 ee (by intro p hp;simp only[dP,hp,iF,iG])
 refine Op.le (some 20) 0 ee (El _ _ _ ee.iO (J.mono z8) fg s.au z9 (by(try dsimp only)<;>exact hp.W.tree)) (fun _ _ _ hp=>by obtain⟨_,_,_,_,_,U,_⟩:=hp;exact U) ?_ (hM:=(fun _ _ h=>absurd h (dB _)))
 rintro _ _ Wk A0 ⟨Wl,Wm,Wn,rfl,A1,U,rfl⟩;clear U
 have CH:=((A0.aa 0 rfl).aa 2 rfl).aa 2 rfl
 obtain⟨ef,CM,ci,li⟩:=Deep.row A1 CH
 replace a5:=a5.mono ci
 replace bo:=bo.mono ci
 replace bc:=bc.mono ci
 replace bd:=bd.mono ci
 replace be:=be.mono ci
 replace J:=J.mono ci
 obtain⟨lj,lk,rfl⟩:=li.aj
 have fv:=((((CM.aa 3 rfl).aa 3 rfl).aa 3 rfl).aa 3 rfl).aa 4 rfl
 refine Op.cl (some 25) 1 fv (Ct _ _ _ fv.sub J d6 s.aN _ bo (by((try dsimp only)<;>((have:=hp.W.wl;omega)))) (St.pt 1 fv)) ?_ (hM:=(fun _ _ h=>oL (by simp) h))
 rintro _ Eq _ Wo EQ Fd ⟨Wp,Wq,Wr,rfl,ll,Fn,U,rfl⟩;subst Eq;clear EQ
 obtain⟨lm,ln,rfl⟩:=ll.aj
 have fw:=((((((Fd.aa 5 rfl).aa 5 rfl).aa 5 rfl).aa 5 rfl).aa 5 rfl).aa 5 rfl).aa 6 rfl
 refine Op.cl (some 30) 1 fw (B6 _ _ _ fw.sub J du s.book _ bc (by(try dsimp only)<;>exact hp.W.book) (St.pt 1 fw)) ?_ (hM:=(fun _ _ h=>oL (by simp) h))
 rintro _ Fr _ Ws FS GE ⟨Wt,Wu,Wv,rfl,lr,GT,U,rfl⟩;subst Fr;clear FS
 obtain⟨lv,lw,rfl⟩:=lr.aj
 refine Op.px 1 [(31,.agg #[vI s.aA,vI s.count,vL lj (s.au.length) lk,vL lm (s.aN.length) ln,vL lv ((s.book.map (·.2)).length) lw,vN,vN])] ?_
 refine Op.ba ?_
 refine Op.sg 81 3 31 0 6 #[vI s.aA,vI s.count,vL lj (s.au.length) lk,vL lm (s.aN.length) ln,vL lv ((s.book.map (·.2)).length) lw,vN,vN] GE (fun _=>trivial) fun Ww Ha=>?_
 refine Op.gt 2 ?_
 have Hb:=(((((((((Ha.aa 6 rfl).aa 5 rfl).aa 5 rfl).aa 4 rfl).aa 9 rfl).aa 9 rfl).aa 6 rfl).aa 7 rfl).aa 8 rfl).aa 9 rfl
 obtain⟨Wx,Hc,Hd⟩:=St.bJ (Q:=cu ef O s) 6 Hb ⟨_,_,_,_,_,_,_,_,_,_,rfl,a5,Fn,GT,bd,be⟩
 have Hk:=aJ.nil 45 dh ef
 have Hm:=Hd.nl
 have Hn:=aJ.nil 101 n_ ef
 have HA:=Hm.nl
 have HB:=((((((HA.aa 2 rfl).aa 1 rfl).aa 2 rfl).aa 3 rfl).aa 4 rfl).aa 5 rfl).aa 6 rfl
 obtain⟨Wy,HI,H0⟩:=St.bJ (Q:=qk ef z6 (⟨s.aA,s.count,s.au,s.aN,s.book.map (·.2),([]:List ak),([]:List ig)⟩:gu)) 6 HB ⟨_,_,_,_,_,_,_,_,_,_,rfl,li,ll,lr,Hk,Hn⟩
 have H1:=((H0.aa 0 rfl).aa 1 rfl).aa 2 rfl
 exact At.ke (dv _ _ (by repeat (first|assumption|exact aM.refl _|apply aM.trans)) s (⟨s.aA,s.count,s.au,s.aN,s.book.map (·.2),([]:List ak),([]:List ig)⟩:gu) _ _ _ _ (bM _) (by rfl) (by exact hp) (by exact CD) Hc HI H1)
mutual
def cM:aG→Int→Int→Int
  |⟨_,p,u,_,_,_,_,_,ops⟩,aB,deep=>if deep=0∧ops≠[] then aB+1 else ey ops aB deep (1+p.length+u.length)
def ey:List aG→Int→Int→Int→Int
  |[],_,_,n=>n
  |x::xs,aB,deep,n=>if n≤aB then ey xs aB deep (n+cM x (aB-n) (deep-1)) else n
end
mutual
def bE:aG→Int→aG
  |⟨k,p,u,D,sp,b,G,w,ops⟩,deep=>⟨k,p,u,D,sp,b,G,w,if deep>0 then ql ops (deep-1) else []⟩
def ql:List aG→Int→List aG
  |[],_=>[]
  |x::xs,deep=>bE x deep::ql xs deep
end
section
variable {aB deep n i:Int} {o x:aG} {ops:List aG}
theorem CE (o:aG) (deep:Int):bE o deep={o with az:=if deep>0 then ql o.az (deep-1) else []}:=by
  obtain⟨_,_,_,_,_,_,_,_,_⟩:=o
  rw[bE]
theorem Lv:∀(xs:List aG) (deep:Int),ql xs deep=xs.map fun x=>bE x deep
  |[],_=>by rw[ql];rfl
  |x::xs,deep=>by rw[ql,Lv xs];rfl
mutual
theorem Lw:∀(o:aG) (deep:Int),cq (bE o deep)≤cq o
  |⟨k,p,u,D,sp,b,G,w,ops⟩,deep=>by
   rw[bE,cq,cq]
   split
   · have:=Lx ops (deep-1);omega
   · rw[c7];omega
theorem Lx:∀(xs:List aG) (deep:Int),c7 (ql xs deep)≤c7 xs
  |[],_=>by rw[ql];exact iE _
  |x::xs,deep=>by
   rw[ql,c7,c7]
   have:=Lw x deep
   have:=Lx xs deep
   omega
end
theorem FU {m:Nat} (h:cq o≤m):cq (bE o deep)≤m:=bQ (Lw o deep) h
def yq (o:aG) (deep:Int) (cN:List aG) (i:Int):Prop:=cN=(o.az.take i.toNat).map (fun x=>bE x (deep-1))∧(0<i→deep>0)
theorem S_:yq o deep [] 0:=⟨rfl,fun h=>absurd h (by decide)⟩
theorem Ta {cN:List aG} (H:yq o deep cN i) (h0:0≤i) (hx:o.az[i.toNat]?=some x) (h:deep>0):yq o deep (cN++[bE x (deep-1)]) (i+1):=by
  unfold yq at *
  rw[toNat_succ h0,fG hx,iH,←H.1]
  exact⟨rfl,fun _=>h⟩
theorem Lz {cN:List aG} (H:yq o deep cN i) (h0:0≤i) (hi:¬i<(o.az.length:Int)∨¬deep>0):cN=if deep>0 then ql o.az (deep-1) else []:=by
  obtain⟨h1,h2⟩:=H
  by_cases h:deep>0
  · have hi:¬i<(o.az.length:Int):=by
      rcases hi with hi|hi
      · exact hi
      · exact absurd h hi
    rw[aO h,h1,fC (by omega),Lv]
  · have:i=0:=by
      by_cases h3:0<i
      · exact absurd (h2 h3) h
      · omega
    subst this
    rw[aC h,h1]
    rfl
theorem yX (o:aG) (deep:Int):(bE o deep).Kind=o.Kind∧(bE o deep).af=o.af∧(bE o deep).Data=o.Data∧(bE o deep).ai=o.ai∧(bE o deep).aF=o.aF∧(bE o deep).aY=o.aY∧(bE o deep).aI=o.aI∧(bE o deep).ak=o.ak:=by
  rw[CE];exact⟨rfl,rfl,rfl,rfl,rfl,rfl,rfl,rfl⟩
end
end Go.Proofs.YtceekbnihfckeaaGreatDoor.Sw
namespace Go.Proofs.YtceekbnihfckeaaGreatDoor.Sw
open Tryz
open Go
structure aH where
  Client:Int
  bn:Int
  aX:Int
  Op:aG
  cS:an
def iD:Kd aH where
  sz:=13
  K g x cs:=∃v0 v1 v2,av g 5 br v0 x.Op.Data∧av g 25 ek v1 x.Op.az∧av g 5 br v2 x.cS∧cs=[.int .i64 x.Client,.int .i64 x.bn,.int .i64 x.aX,.int .i64 x.Op.Kind,.string (bp x.Op.af),v0,.int .i64 x.Op.ai,.int .i64 x.Op.aF,.bool x.Op.aY,.bool x.Op.aI,.bool x.Op.ak,v1,v2]
  len h:=by obtain⟨v0,v1,v2,h0,h1,h2,rfl⟩:=h;rfl
  one h:=by
    obtain⟨v0,v1,v2,h0,h1,h2,rfl⟩:=h
    obtain⟨_,_,rfl⟩:=h0.aj
    obtain⟨_,_,rfl⟩:=h1.aj
    obtain⟨_,_,rfl⟩:=h2.aj
    simp[Value.oneCell']
  mono hg h:=by obtain⟨v0,v1,v2,h0,h1,h2,rfl⟩:=h;exact⟨v0,v1,v2,h0.mono hg,h1.mono hg,h2.mono hg,rfl⟩
  zv:=⟨0,0,0,⟨0,[],[],0,0,false,false,false,[]⟩,[]⟩
  zc:=[.int .i64 0,.int .i64 0,.int .i64 0,.int .i64 0,.string (bp []),.slice none 0 0,.int .i64 0,.int .i64 0,.bool false,.bool false,.bool false,.slice none 0 0,.slice none 0 0]
  zK _:=⟨_,_,_,av.nil _ _ _,av.nil _ _ _,av.nil _ _ _,rfl⟩
end Go.Proofs.YtceekbnihfckeaaGreatDoor.Sw
namespace Go.Proofs.YtceekbnihfckeaaGreatDoor.Sw
open Tryz
set_option linter.unusedVariables false
set_option linter.unusedSimpArgs false
set_option linter.deprecated false
open Go
def jH (o:aG) (aB deep:Int):Bool:=decide (cM o aB deep>aB)
def stepG (x:aH):Bool:=jH x.Op 3000 3||decide ((x.cS.length:Int)>2000)
def fN (l:List aH):Bool:=l.any stepG
def aW (x:aH):bN:=⟨x.Client,x.bn,x.aX,[]⟩
def bC (x:aH):aQ:=if (bA (bE x.Op 3)).2≠0 then x.cS else (bA (bE x.Op 3)).1
section
variable {l:List aH} {i:Int} {x:aH}
theorem Tb (h:¬(bA (bE x.Op 3)).2=0):x.cS=bC x:=by unfold bC;rw[aO h]
theorem Tc (h:(bA (bE x.Op 3)).2=0):(bA (bE x.Op 3)).1=bC x:=by unfold bC;rw[aC (by simpa using h)]
theorem CW (o:aG):(bA o).1.length≤1024:=by
  unfold bA
  split
  · exact fH _
  · split
    · exact fH _
    · rename_i h
      simp only[qt,AW] at h
      exact h.2
theorem vV (h:x.cS.length≤2000):(bC x).length≤2000:=by
  unfold bC
  split
  · exact h
  · exact bQ (CW _) (by decide)
end
end Go.Proofs.YtceekbnihfckeaaGreatDoor.Sw
namespace Go.Proofs.YtceekbnihfckeaaGreatDoor.Sw
open Tryz
open Go
set_option maxRecDepth 100000
set_option linter.unusedVariables false
set_option linter.unusedSimpArgs false
set_option linter.deprecated false
set_option maxHeartbeats 1000000 in
theorem Td (mr:Nat):∀(B:World) (h:ax) (g:GH) (hg:bl g h) (ad:bq g) (o:aG) (a7:Value) (ae:av g 5 br a7 o.Data) (a8:Value) (aw:av g 25 ek a8 o.az) (deep:Int) (ho:cq o≤100000000) (hd:0≤deep∧deep≤1000) (bm:cq o<mr),aE prog B 16 #[.agg #[vI o.Kind,vS o.af,a7,vI o.ai,vI o.aF,.bool o.aY,.bool o.aI,.bool o.ak,a8],vI deep] h g [] (fun c6 g' L'=>∃v0 v1,c6=.agg #[.int .i64 ((bE o deep).Kind),.string (bp ((bE o deep).af)),v0,.int .i64 ((bE o deep).ai),.int .i64 ((bE o deep).aF),.bool ((bE o deep).aY),.bool ((bE o deep).aI),.bool ((bE o deep).ak),v1]∧av g' 5 br v0 ((bE o deep).Data)∧av g' 25 ek v1 ((bE o deep).az)∧L'=[]):=by
 induction mr with
 |zero=>intros;omega
 |succ mr c8=>
 intro B h g hg ad o a7 ae a8 aw deep ho hd bm
 obtain⟨am,ar,rfl⟩:=ae.aj
 obtain⟨a4,a0,rfl⟩:=aw.aj
 refine aE.aq func16 fun R hR=>?_
 have c9:=St.init hg
 refine At.rg 2 ?_
 refine Op.bx 2 25 0 #[vI o.Kind,vS o.af,vL am o.Data.length ar,vI o.ai,vI o.aF,.bool o.aY,.bool o.aI,.bool o.ak,vL a4 o.az.length a0] c9 fun J et da=>?_
 refine Op.al 4 25 #[vI 0,vS [],vN,vI 0,vI 0,.bool false,.bool false,.bool false,vN] da fun bo ex db=>?_
 refine Op.gt 1 ?_
 refine At.rg 2 ?_
 refine Op.ls 7 0 25 #[] db fun a9 eA dc=>?_
 refine Op.pg 2 [(5,vL (some ⟨a9,0,none⟩) 0 0)] ?_
 refine At.go 3 1 [(6,vI 0)] ?_
 have dd:∀(m:Nat) (a5:GH) (a1:aM g a5) (cN:List aG) (i:Int) (D:Option Addr) (G:Nat) (bc:ay) (bd:ax) (hm:o.az.length-i.toNat<m) (h0:0≤i) (h1:i≤o.az.length) (hI:yq o deep cN i) (O:aJ 25 ek a5 (.slice D cN.length G) cN bc) (U:St h g (aV []) a5 [bc,[(bo,Obj.cells #[vI 0,vS [],vN,vI 0,vI 0,.bool false,.bool false,.bool false,vN] 25 (0,0))],[(J,Obj.cells #[vI o.Kind,vS o.af,vL am o.Data.length ar,vI o.ai,vI o.aF,.bool o.aY,.bool o.aI,.bool o.ak,vL a4 o.az.length a0] 25 (0,0))]] bd),At (bX prog B 16 f16 R) [] 3 [(1,vI deep),(2,vP J),(4,vP bo),(5,vL D cN.length G),(6,vI i)] bd:=by
  intro m;induction m with
  |zero=>intros;omega
  |succ m df=>
   intro a5 a1 cN i D G bc bd hm h0 h1 hI O U
   replace ad:=ad.mono a1
   replace ae:=ae.mono a1
   replace aw:=aw.mono a1
   refine At.rp 9 2 [(8,vI i),(9,vQ J 8)] ?_
   refine Op.l1 23 9 10 8 (vL a4 o.az.length a0) (U.ah 2 rfl) ?_
   refine Op.px 3 [(13,.bool (decide (i<(o.az.length:Int))))] ?_
   refine Op.wd (i<(o.az.length:Int)) 13 (fun eB=>?_) fun eE=>?_
   ·refine Op.pg 4 [(16,.bool (decide (deep>0)))] ?_
    refine At.fd (deep>0) 16 5 7 (fun eI=>?_) fun eJ=>?_
    ·refine At.rp 12 2 [(19,vL D cN.length G),(20,vQ J 8)] ?_
     refine Op.l1 23 20 21 8 (vL a4 o.az.length a0) (U.ah 2 rfl) ?_
     refine Op.px 1 [(22,vI i)] ?_
     obtain⟨u,a6⟩:=cG o.az i
     obtain⟨dg,bt,eK,eL,dj,dk,a3⟩:=av.bF aw _ a6
     cases dj
     refine Op.iq 23 25 9 96 o.az.length a0 21 22 23 dg bt i ?_
     replace a3:=iC.1 a3
     obtain⟨eQ,v51,b3,b4,a3⟩:=a3
     obtain⟨a53,dl,rfl⟩:=b3.aj
     obtain⟨dp,dq,rfl⟩:=b4.aj
     refine Op.la 25 23 24 (bt+i.toNat*9) 9 [vI u.Kind,vS u.af,vL a53 u.Data.length dl,vI u.ai,vI u.aF,.bool u.aY,.bool u.aI,.bool u.ak,vL dp u.az.length dq] (U.sub _ _ dk) ?_ (hv:=a3)
     refine Op.px 1 [(25,vI deep)] ?_
     refine Op.vq 26 (deep-1) ?_
     refine Op.c0 (some 27) (c8 _ _ _ U.sub ad u _ b3 _ b4 (deep-1) (by((try dsimp only)<;>((have:=ie (cj a6);omega)))) (by(try dsimp only)<;>omega) (by exact nv (ie (cj a6)) (pM bm))) U ?_
     rintro _ e1 _ e2 du dv ⟨e3,e4,rfl,b5,b6,rfl⟩
     obtain⟨b8,ca,rfl⟩:=b5.aj
     obtain⟨cb,ce,rfl⟩:=b6.aj
     replace O:=O.mono du
     refine Op.ls 28 1 25 #[vI ((bE u (deep-1)).Kind),vS ((bE u (deep-1)).af),vL b8 (((bE u (deep-1)).Data).length) ca,vI ((bE u (deep-1)).ai),vI ((bE u (deep-1)).aF),.bool ((bE u (deep-1)).aY),.bool ((bE u (deep-1)).aI),.bool ((bE u (deep-1)).ak),vL cb (((bE u (deep-1)).az).length) ce] dv fun e5 e6 cf=>?_
     refine Op.ap 19 28 23 23 29 25 96 ek (ys:=[(bE u (deep-1))]) O cf 1 (⟨_,_,rfl,(iC.2 ⟨_,_,b5,b6,rfl⟩),Reads.nil⟩) (by(have:=fO o;have h7:=congrArg List.length hI.1;simp only[d_,e_,bY,dU] at *;omega)) (fun _ _ _=>trivial) (eT.lit (m:=1) (sz:=9) (cf.ah 0 rfl) (news:=[vI ((bE u (deep-1)).Kind),vS ((bE u (deep-1)).af),vL b8 (((bE u (deep-1)).Data).length) ca,vI ((bE u (deep-1)).ai),vI ((bE u (deep-1)).aF),.bool ((bE u (deep-1)).aY),.bool ((bE u (deep-1)).aI),.bool ((bE u (deep-1)).ak),vL cb (((bE u (deep-1)).az).length) ce]) rfl rfl (by simp[Value.oneCell']) _) fun v72 e7 e8 ch dC e9=>?_
     obtain⟨dE,dT,rfl⟩:=ch.aj
     have d0:=(dC.aa 0 rfl).drop
     refine Op.pg 6 [(5,vL dE ((cN++([(bE u (deep-1))])).length) dT)] ?_
     refine At.rp 3 1 [(17,vI i)] ?_
     refine Op.cE 18 (i+1) (by omega) (by(have:=fO o;omega)) ?_
     exact Op.pg 3 [(6,vI (i+1))] (At.ke (df _ (aM.trans a1 (by repeat (first|assumption|apply aM.trans))) (cN++([(bE u (deep-1))])) (i+1) _ _ _ _ (by omega) (by omega) (by omega) (by exact Ta hI h0 a6 ‹_›) ch d0))
    refine At.rp 3 2 [(30,vL D cN.length G),(31,vQ J 8)] ?_
    refine Op.s1 23 31 30 8 (vL D cN.length G) 2 #[vI o.Kind,vS o.af,vL am o.Data.length ar,vI o.ai,vI o.aF,.bool o.aY,.bool o.aI,.bool o.ak,vL D cN.length G] U (fun _=>trivial) fun fa be=>?_
    refine Op.gt 8 ?_
    refine At.rp 5 1 [(32,vQ J 2)] ?_
    refine Op.l1 22 32 33 2 (vL am o.Data.length ar) (be.ah 2 rfl) ?_
    refine Op.c0 (some 34) (E1 _ _ _ be.sub ad _ _ ae (by((try dsimp only)<;>((have:=fO o;omega))))) be ?_
    rintro _ d1 _ fg d2 d3 ⟨fi,fj,rfl,ci,d4,rfl⟩;subst d1;clear d2
    obtain⟨V,X,rfl⟩:=ci.aj
    refine Op.px 1 [(35,vQ J 2)] ?_
    refine Op.s1 22 35 34 2 (vL V (o.Data.length) X) 3 #[vI o.Kind,vS o.af,vL V (o.Data.length) X,vI o.ai,vI o.aF,.bool o.aY,.bool o.aI,.bool o.ak,vL D cN.length G] d3 (fun _=>trivial) fun fl ck=>?_
    refine Op.gt 9 ?_
    refine At.rg 2 ?_
    refine Op.la 25 2 36 0 9 [vI o.Kind,vS o.af,vL V (o.Data.length) X,vI o.ai,vI o.aF,.bool o.aY,.bool o.aI,.bool o.ak,vL D cN.length G] (ck.ah 3 rfl) ?_
    refine Op.sg 25 4 36 0 2 #[vI o.Kind,vS o.af,vL V (o.Data.length) X,vI o.ai,vI o.aF,.bool o.aY,.bool o.aI,.bool o.ak,vL D cN.length G] ck (fun _=>trivial) fun fp d5=>?_
    refine Op.gt 10 ?_
    obtain⟨fr,d6,d7,bi⟩:=aJ.freeze ci (d5.aa 0 rfl)
    replace O:=O.mono d7
    obtain⟨ft,co,d8,d9⟩:=aJ.freeze O (d6.aa 0 rfl)
    replace bi:=bi.mono d8
    exact At.rm f16 [.agg #[vI o.Kind,vS o.af,vL V (o.Data.length) X,vI o.ai,vI o.aF,.bool o.aY,.bool o.aI,.bool o.ak,vL D cN.length G]] [.cell 4 25] (.agg #[vI o.Kind,vS o.af,vL V (o.Data.length) X,vI o.ai,vI o.aF,.bool o.aY,.bool o.aI,.bool o.ak,vL D cN.length G]) ⟨⟨_,_,rfl,dY (n:=9) (by kernel_rfl) (co.ah 0 rfl) (by kernel_rfl) rfl⟩,trivial⟩ (hR co.drop.drop ⟨(vL V (o.Data.length) X),(vL D cN.length G),(by(have I:=yX o deep;simp only[I.1,I.2.1,I.2.2.2.1,I.2.2.2.2.1,I.2.2.2.2.2.1,I.2.2.2.2.2.2.1,I.2.2.2.2.2.2.2];done)),b9 bi (by(rw[(yX o deep).2.2.1])),b9 d9 (by(rw[CE,Lz hI h0 (.inr ‹_›)])),rfl⟩)
   refine Op.pg 4 [(16,.bool false)] ?_
   refine At.dK 16 7 ?_
   refine At.rp 3 2 [(30,vL D cN.length G),(31,vQ J 8)] ?_
   refine Op.s1 23 31 30 8 (vL D cN.length G) 2 #[vI o.Kind,vS o.af,vL am o.Data.length ar,vI o.ai,vI o.aF,.bool o.aY,.bool o.aI,.bool o.ak,vL D cN.length G] U (fun _=>trivial) fun fv bj=>?_
   refine Op.gt 8 ?_
   refine At.rp 5 1 [(32,vQ J 2)] ?_
   refine Op.l1 22 32 33 2 (vL am o.Data.length ar) (bj.ah 2 rfl) ?_
   refine Op.c0 (some 34) (E1 _ _ _ bj.sub ad _ _ ae (by((try dsimp only)<;>((have:=fO o;omega))))) bj ?_
   rintro _ ed _ fw ee ef ⟨fx,f0,rfl,c3,d4,rfl⟩;subst ed;clear ee
   obtain⟨Y,ab,rfl⟩:=c3.aj
   refine Op.px 1 [(35,vQ J 2)] ?_
   refine Op.s1 22 35 34 2 (vL Y (o.Data.length) ab) 3 #[vI o.Kind,vS o.af,vL Y (o.Data.length) ab,vI o.ai,vI o.aF,.bool o.aY,.bool o.aI,.bool o.ak,vL D cN.length G] ef (fun _=>trivial) fun f1 c4=>?_
   refine Op.gt 9 ?_
   refine At.rg 2 ?_
   refine Op.la 25 2 36 0 9 [vI o.Kind,vS o.af,vL Y (o.Data.length) ab,vI o.ai,vI o.aF,.bool o.aY,.bool o.aI,.bool o.ak,vL D cN.length G] (c4.ah 3 rfl) ?_
   refine Op.sg 25 4 36 0 2 #[vI o.Kind,vS o.af,vL Y (o.Data.length) ab,vI o.ai,vI o.aF,.bool o.aY,.bool o.aI,.bool o.ak,vL D cN.length G] c4 (fun _=>trivial) fun f2 eh=>?_
   refine Op.gt 10 ?_
   obtain⟨f3,ej,em,bk⟩:=aJ.freeze c3 (eh.aa 0 rfl)
   replace O:=O.mono em
   obtain⟨f4,c5,en,ep⟩:=aJ.freeze O (ej.aa 0 rfl)
   replace bk:=bk.mono en
   exact At.rm f16 [.agg #[vI o.Kind,vS o.af,vL Y (o.Data.length) ab,vI o.ai,vI o.aF,.bool o.aY,.bool o.aI,.bool o.ak,vL D cN.length G]] [.cell 4 25] (.agg #[vI o.Kind,vS o.af,vL Y (o.Data.length) ab,vI o.ai,vI o.aF,.bool o.aY,.bool o.aI,.bool o.ak,vL D cN.length G]) ⟨⟨_,_,rfl,dY (n:=9) (by kernel_rfl) (c5.ah 0 rfl) (by kernel_rfl) rfl⟩,trivial⟩ (hR c5.drop.drop ⟨(vL Y (o.Data.length) ab),(vL D cN.length G),(by(have I:=yX o deep;simp only[I.1,I.2.1,I.2.2.2.1,I.2.2.2.2.1,I.2.2.2.2.2.1,I.2.2.2.2.2.2.1,I.2.2.2.2.2.2.2];done)),b9 bk (by(rw[(yX o deep).2.2.1])),b9 ep (by(rw[CE,Lz hI h0 (.inl ‹_›)])),rfl⟩)
 have er:aJ 25 ek g (vL (some ⟨a9,0,none⟩) 0 0) ([]:List aG) [(a9,Obj.cells #[] 25 (0,0))]:=aJ.lit (by kernel_rfl) (by unfold maxLen;decide) (by kernel_rfl) Reads.nil
 exact At.ke (dd _ _ (aM.refl _) ([]:List aG) 0 _ _ _ _ (bM _) (by omega) (by omega) (by exact S_) er dc)
theorem FT (B:World) (h:ax) (g:GH) (hg:bl g h) (G:bq g) (o:aG) (u:Value) (I:av g 5 br u o.Data) (D:Value) (J:av g 25 ek D o.az) (deep:Int) (ho:cq o≤100000000) (hd:0≤deep∧deep≤1000):aE prog B 16 #[.agg #[vI o.Kind,vS o.af,u,vI o.ai,vI o.aF,.bool o.aY,.bool o.aI,.bool o.ak,D],vI deep] h g [] (fun O g' L'=>∃v0 v1,O=.agg #[.int .i64 ((bE o deep).Kind),.string (bp ((bE o deep).af)),v0,.int .i64 ((bE o deep).ai),.int .i64 ((bE o deep).aF),.bool ((bE o deep).aY),.bool ((bE o deep).aI),.bool ((bE o deep).ak),v1]∧av g' 5 br v0 ((bE o deep).Data)∧av g' 25 ek v1 ((bE o deep).az)∧L'=[]):=Td _ B h g hg G o u I D J deep ho hd (bM _)
theorem uo (B:World) (h:ax) (g:GH) (hg:bl g h) (a3:bq g) (x:aH) (G:Value) (U:av g 5 br G x.Op.Data) (I:Value) (V:av g 25 ek I x.Op.az) (J:Value) (X:av g 5 br J x.cS):
  aE prog B 37 #[.agg #[vI x.Client,vI x.bn,vI x.aX,vI x.Op.Kind,vS x.Op.af,G,vI x.Op.ai,vI x.Op.aF,.bool x.Op.aY,.bool x.Op.aI,.bool x.Op.ak,I,J]] h g [] (fun Y g' L'=>∃v0,Y=.agg #[.int .i64 ((aW x).Client),.int .i64 ((aW x).bn),.int .i64 ((aW x).aX),v0]∧av g' 5 br v0 ((aW x).kf)∧L'=[]):=by
 obtain⟨ab,ad,rfl⟩:=U.aj
 obtain⟨ae,am,rfl⟩:=V.aj
 obtain⟨ar,aw,rfl⟩:=X.aj
 refine aE.aq func37 fun R hR=>?_
 have a0:=St.init hg
 refine At.rg 2 ?_
 refine Op.bx 1 71 0 #[vI x.Client,vI x.bn,vI x.aX,vI x.Op.Kind,vS x.Op.af,vL ab x.Op.Data.length ad,vI x.Op.ai,vI x.Op.aF,.bool x.Op.aY,.bool x.Op.aI,.bool x.Op.ak,vL ae x.Op.az.length am,vL ar x.cS.length aw] a0 fun D a4 a1=>?_
 refine Op.al 2 75 #[vI 0,vI 0,vI 0,vN] a1 fun a5 a6 u=>?_
 refine Op.gt 1 ?_
 refine At.rp 8 1 [(3,vP D)] ?_
 refine Op.l1 3 3 4 0 (vI x.Client) (u.ah 1 rfl) ?_
 refine Op.px 1 [(5,vQ D 1)] ?_
 refine Op.l1 3 5 6 1 (vI x.bn) (u.ah 1 rfl) ?_
 refine Op.px 1 [(7,vQ D 2)] ?_
 refine Op.l1 3 7 8 2 (vI x.aX) (u.ah 1 rfl) ?_
 refine Op.px 1 [(9,.agg #[vI x.Client,vI x.bn,vI x.aX,vN])] ?_
 refine Op.sg 75 2 9 0 0 #[vI x.Client,vI x.bn,vI x.aX,vN] u (fun _=>trivial) fun a7 O=>?_
 refine Op.gt 2 ?_
 exact At.rm f37 [.agg #[vI x.Client,vI x.bn,vI x.aX,vN]] [.cell 2 75] (.agg #[vI x.Client,vI x.bn,vI x.aX,vN]) ⟨⟨_,_,rfl,dY (n:=4) (by kernel_rfl) (O.ah 0 rfl) (by kernel_rfl) rfl⟩,trivial⟩ (hR O.drop.drop ⟨vN,(by rfl),b9 (av.empty _ _ _ _ _) (by rfl),rfl⟩)
theorem vU (B:World) (h:ax) (g:GH) (hg:bl g h) (u:bq g) (x:aH) (X:Value) (Y:av g 5 br X x.Op.Data) (ab:Value) (ad:av g 25 ek ab x.Op.az) (ae:Value) (D:av g 5 br ae x.cS) (ho:cq x.Op≤100000000) (hr:x.cS.length≤1000000000):
  aE prog B 34 #[.agg #[vI x.Client,vI x.bn,vI x.aX,vI x.Op.Kind,vS x.Op.af,X,vI x.Op.ai,vI x.Op.aF,.bool x.Op.aY,.bool x.Op.aI,.bool x.Op.ak,ab,ae]] h g [] (fun be g' L'=>∃v0,be=v0∧av g' 5 br v0 (bC x)∧L'=[]):=by
 obtain⟨am,ar,rfl⟩:=Y.aj
 obtain⟨aw,a0,rfl⟩:=ad.aj
 obtain⟨a1,a3,rfl⟩:=D.aj
 refine aE.aq func34 fun R hR=>?_
 have bi:=St.init hg
 refine At.rg 2 ?_
 refine Op.bx 1 71 0 #[vI x.Client,vI x.bn,vI x.aX,vI x.Op.Kind,vS x.Op.af,vL am x.Op.Data.length ar,vI x.Op.ai,vI x.Op.aF,.bool x.Op.aY,.bool x.Op.aI,.bool x.Op.ak,vL aw x.Op.az.length a0,vL a1 x.cS.length a3] bi fun a4 b3 I=>?_
 refine Op.pg 1 [] ?_
 refine At.rp 9 1 [(6,vQ a4 3)] ?_
 refine Op.la 25 6 7 3 9 [vI x.Op.Kind,vS x.Op.af,vL am x.Op.Data.length ar,vI x.Op.ai,vI x.Op.aF,.bool x.Op.aY,.bool x.Op.aI,.bool x.Op.ak,vL aw x.Op.az.length a0] (I.ah 0 rfl) ?_
 refine Op.c0 (some 8) (FT _ _ _ I.sub u x.Op _ Y _ ad 3 (by(try dsimp only)<;>omega) (by(try dsimp only)<;>omega)) I ?_
 rintro _ b4 _ b5 a5 a6 ⟨b6,b8,rfl,a7,a8,rfl⟩
 obtain⟨ca,cb,rfl⟩:=a7.aj
 obtain⟨a31,ce,rfl⟩:=a8.aj
 replace u:=u.mono a5
 replace D:=D.mono a5
 refine Op.c0 (some 9) (CV _ _ _ a6.sub u (bE x.Op (3)) _ a7 _ a8 (by((try dsimp only)<;>(exact FU (by omega))))) a6 ?_
 rintro _ cf _ ch a9 G ⟨v37,rfl,bc,rfl⟩
 obtain⟨J,O,rfl⟩:=bc.aj
 replace u:=u.mono a9
 replace D:=D.mono a9
 refine Op.pg 2 [(3,vL J (((bA (bE x.Op (3))).1).length) O),(4,vI ((bA (bE x.Op (3))).2))] ?_
 refine At.go 3 2 [(13,.bool (((bA (bE x.Op (3))).2) != 0))] ?_
 refine At.fn (((bA (bE x.Op (3))).2)=0) 13 4 6 (fun ci=>?_) fun ck=>?_
 ·refine At.rp 4 1 [(14,vQ a4 12)] ?_
  refine Op.l1 22 14 15 12 (vL a1 x.cS.length a3) (G.ah 0 rfl) ?_
  refine Op.c0 (some 16) (E1 _ _ _ G.sub u _ _ D (by(try dsimp only)<;>omega)) G ?_
  rintro _ bj _ co bk bm ⟨c3,c4,rfl,bd,c5,rfl⟩;subst bj;clear bk
  obtain⟨U,V,rfl⟩:=bd.aj
  refine Op.pg 5 [(2,vL U (x.cS.length) V)] ?_
  obtain⟨c6,bo,c8,bt⟩:=aJ.freeze bd (bm.aa 0 rfl)
  exact At.rt (vL U (x.cS.length) V) (hR bo.drop ⟨(vL U (x.cS.length) V),rfl,b9 bt (by exact Tb ‹_›),rfl⟩)
 exact At.gr 7 2 2 (vL J (((bA (bE x.Op (3))).1).length) O) (hR G.drop ⟨(vL J (((bA (bE x.Op (3))).1).length) O),rfl,b9 bc (by exact Tc ‹_›),rfl⟩)
end Go.Proofs.YtceekbnihfckeaaGreatDoor.Sw
namespace Go.Proofs.YtceekbnihfckeaaGreatDoor.Sw
open Tryz
set_option linter.unusedVariables false
set_option linter.unusedSimpArgs false
set_option linter.deprecated false
open Go
def AF (s:Sp) (x:aH):Bool:=dQ s (aW x)
def dF (s:Sp) (x:aH):Sp:=bD s (aW x) (bC x)
def aK (s:Sp) (x:aH):Result:=if AF s x=true then (bw (bh s (aW x) (bC x))).1 else uV
def eW (s:Sp) (x:aH):Bool:=AF s x&&(bw (bh s (aW x) (bC x))).2==0
def yt (kind:Int) (eX:aQ) (dD:Int) (AG watch:Bool):aG:=⟨kind,eX,[],0,dD,AG,false,watch,[]⟩
def lW:List aH:=[⟨1,1,0,yt 1 [] 9 false false,[]⟩,⟨2,1,0,yt 1 [] 9 false false,[]⟩,⟨1,2,0,yt 3 [47,97] 0 true false,[]⟩,⟨2,2,0,yt 6 [47,97] 0 false true,[]⟩,⟨1,3,0,yt 2 [] 0 false false,[]⟩]
def mZ (i:Nat):Sp:=(lW.take i).foldl dF mL
def qm:aH:=⟨2,3,0,yt 9 [] 0 false false,[]⟩
def wX (i:Nat):Bool:=match lW[i]? with
  |none=>false
  |some x=>eW (mZ i) x&&((aK (mZ i) x).Code==0&&(aK (mZ i) x).aZ==(i:Int)+1)
theorem Te:(wX 0&&(wX 1&&(wX 2&&(wX 3&&wX 4))))=true:=by decide+kernel
theorem Tf:((eW (mZ 5) qm&&((aK (mZ 5) qm).Code==0&&decide ((aK (mZ 5) qm).aT=[⟨2,1,[47,97]⟩])))&&((dF (mZ 5) qm).au.length==1))=true:=by decide+kernel
section
variable {i k:Int} {y s:Sp} {x:aH}
theorem CF (hy:y=mZ i.toNat) (h0:0≤i) (hx:lW[i.toNat]?=some x):eW y x=true∧(aK y x).Code=0∧(aK y x).aZ=i+1∧dF y x=mZ (i+1).toNat:=by
  subst hy
  have hlt:=(fT.1 hx).1
  have hlt:i.toNat<5:=hlt
  have hb:wX i.toNat=true:=by
    have h:=Te
    simp only[b_] at h
    obtain⟨h1,h2,h3,h4,h5⟩:=h
    have:i.toNat=0∨i.toNat=1∨i.toNat=2∨i.toNat=3∨i.toNat=4:=by omega
    rcases this with e|e|e|e|e
    · rw[e];exact h1
    · rw[e];exact h2
    · rw[e];exact h3
    · rw[e];exact h4
    · rw[e];exact h5
  unfold wX at hb
  rw[hx] at hb
  simp only[b_,j6] at hb
  refine⟨hb.1,hb.2.1,by rw[hb.2.2];omega,?_⟩
  unfold mZ
  rw[toNat_succ h0,fG hx,wQ]
  rfl
theorem Tg (hy:y=mZ i.toNat) (h:¬i<(lW.length:Int)) (h1:i≤lW.length):y=mZ 5:=by
  have e:(lW.length:Int)=5:=rfl
  have:i.toNat=5:=by omega
  rw[hy,this]
theorem AH {l:List aH} (hy:y=mZ i.toNat) (hl:l=lW) (h:¬i<(l.length:Int)) (h1:i≤lW.length):y=mZ 5:=Tg hy (hl▸h) h1
theorem AI (hy:y=mZ 5):eW y qm=true∧(aK y qm).Code=0∧(aK y qm).aT=[⟨2,1,[47,97]⟩]∧(dF y qm).au.length=1:=by
  subst hy
  have h:=Tf
  simp only[b_,j6,cQ] at h
  exact⟨h.1.1,h.1.2.1,h.1.2.2,h.2⟩
structure ec (i:Int) (s:Sp):Prop where
  ok:bK (4*i) s
  cnt:s.count≤i
theorem ec.new:ec 0 mL:=⟨bK.new,by decide⟩
theorem ec.iX {e:bN} {b:aQ} (H:ec i s) (h0:0≤i) (hi:i≤20000):ec (i+1) (bD s e b):=by
  refine⟨(H.ok.iX (by omega) (by omega) (by have:=H.cnt;omega)).mono (by omega),?_⟩
  rw[Fo]
  have:=H.cnt
  split<;>omega
theorem ec.done (H:ec i s) (h0:0≤i) (hi:i≤20000):ec (i+1) (dF s x):=H.iX h0 hi
theorem A5 {e:bN} {b:aQ} (H:bK k s):(bh s e b).length≤1000000000:=by
  unfold bh
  repeat' split
  · exact Li _
  · unfold gh
    rw[AZ]
    cases h:bV s.aR e.Client with
    |none=>exact fH _
    |some r=>
     obtain⟨p,hp,rfl⟩:=Fp h
     exact bQ (H.fD.ok p hp).2.2 (by decide)
  · exact fH _
  · exact fH _
theorem pS {e:bN} {b:aQ} (H:ec i s) (h0:0≤i) (hi:i≤20000):iL e=true→Ap (gV (dI s e.aX) e.Client b):=fun hE=>
  SQ (H.ok.nG e.aX) (w9 hE).1.2 (by omega) (by omega) (by rw[qu];have:=H.cnt;omega)
theorem ec.fD (H:ec i s):∀p∈s.aR,p.2.data.length≤1000000000:=fun p hp=>bQ (H.ok.fD.ok p hp).2.2 (by decide)
theorem ec.ct (H:ec i s) (hi:i≤20000):0≤s.count∧s.count≤1000000000000000:=⟨H.ok.cn,by have:=H.cnt;omega⟩
theorem AJ (h:AF s x=true):(bw (bh s (aW x) (bC x))).1=aK s x∧((bw (bh s (aW x) (bC x))).2==0)=eW s x:=by
  refine⟨by unfold aK;rw[aO h],?_⟩
  unfold eW
  rw[h];rfl
theorem AK (h:AF s x=false):uV=aK s x∧false=eW s x:=by
  refine⟨by unfold aK;rw[h];rfl,?_⟩
  unfold eW
  rw[h];rfl
end
theorem Th:∀x∈lW,cq x.Op≤100000000∧x.cS.length≤2000:=by decide+kernel
theorem Ti:cq qm.Op≤100000000∧qm.cS.length≤2000:=by decide+kernel
section
variable {i:Int} {s z:Sp} {x:aH} {l:List aH} {fb:aQ} {fn:Bool} {b':aQ}
end
section
variable {a b:gu} {i:Int} {x y:ig}
end
end Go.Proofs.YtceekbnihfckeaaGreatDoor.Sw
namespace Go.Proofs.YtceekbnihfckeaaGreatDoor.Sw
open Tryz
open Go
set_option maxRecDepth 100000
set_option linter.unusedVariables false
set_option linter.unusedSimpArgs false
set_option linter.deprecated false
theorem wY {i0:Int} (B:World) (h:ax) (g:GH) (hg:bl g h) (u:bq g) (X:Nat) (s:Sp) (am:ay) (Y:cu g X s am) (x:aH) (bc:Value) (ab:av g 5 br bc x.Op.Data) (bd:Value) (ad:av g 25 ek bd x.Op.az) (be:Value) (ae:av g 5 br be x.cS) (hP:lZ g) (hK:ec i0 s) (a1:0≤i0∧i0≤20000) (ho:cq x.Op≤100000000∧x.cS.length≤2000) (hs:St h g (aV [am]) g [am] h):
  aE prog B 43 #[vP X,.agg #[vI x.Client,vI x.bn,vI x.aX,vI x.Op.Kind,vS x.Op.af,bc,vI x.Op.ai,vI x.Op.aF,.bool x.Op.aY,.bool x.Op.aI,.bool x.Op.ak,bd,be]] h g [am] (fun co g' L'=>∃v0 v1 v2 bi,co=.tuple #[.agg #[.int .i64 ((aK s x).Code),.int .i64 ((aK s x).aZ),.int .i64 ((aK s x).At),.string (bp ((aK s x).ag.af)),v0,.int .i64 ((aK s x).ag.ai),.int .i64 ((aK s x).ag.aD),.int .i64 ((aK s x).ag.Next),.int .i64 ((aK s x).ag.aL),v1,v2],.bool (eW s x)]∧av g' 5 br v0 ((aK s x).ag.Data)∧av g' 9 eU v1 ((aK s x).bP)∧av g' 45 dh v2 ((aK s x).aT)∧cu g' X (dF s x) bi∧L'=[bi]):=by
 obtain⟨a3,a4,rfl⟩:=ab.aj
 obtain⟨a5,a6,rfl⟩:=ad.aj
 obtain⟨a7,a8,rfl⟩:=ae.aj
 refine aE.aq func43 fun R hR=>?_
 refine At.rg 3 ?_
 refine Op.bx 3 71 1 #[vI x.Client,vI x.bn,vI x.aX,vI x.Op.Kind,vS x.Op.af,vL a3 x.Op.Data.length a4,vI x.Op.ai,vI x.Op.aF,.bool x.Op.aY,.bool x.Op.aI,.bool x.Op.ak,vL a5 x.Op.az.length a6,vL a7 x.cS.length a8] hs fun dd df c3=>?_
 refine Op.al 4 43 #[vI 0,vI 0,vI 0,vS [],vN,vI 0,vI 0,vI 0,vI 0,vN,vN] c3 fun dg dj ar=>?_
 refine Op.pg 1 [] ?_
 refine At.dw (fun _=>False) [(0,true),(1,true),(3,true),(2,false),(4,false),(1005,false),(5,false),(6,true),(7,true),(8,true),(9,true),(10,true)] ?_
 refine Op.px 1 [(11,vP X)] ?_
 refine Op.iU (T:=71) (x:=3) (o:=0) (d:=12) (n:=13) (vs:=[vI x.Client,vI x.bn,vI x.aX,vI x.Op.Kind,vS x.Op.af,vL a3 x.Op.Data.length a4,vI x.Op.ai,vI x.Op.aF,.bool x.Op.aY,.bool x.Op.aI,.bool x.Op.ak,vL a5 x.Op.az.length a6,vL a7 x.cS.length a8]) (by kernel_rfl) (by kernel_rfl) (by kernel_rfl) (fun h=>h) (ar.ah 1 rfl) (by kernel_rfl) rfl ?_
 refine Op.iU (T:=71) (x:=3) (o:=0) (d:=14) (n:=13) (vs:=[vI x.Client,vI x.bn,vI x.aX,vI x.Op.Kind,vS x.Op.af,vL a3 x.Op.Data.length a4,vI x.Op.ai,vI x.Op.aF,.bool x.Op.aY,.bool x.Op.aI,.bool x.Op.ak,vL a5 x.Op.az.length a6,vL a7 x.cS.length a8]) (by kernel_rfl) (by kernel_rfl) (by kernel_rfl) (fun h=>h) (ar.ah 1 rfl) (by kernel_rfl) rfl ?_
 refine Op.c0 (some 13) (uo _ _ _ ar.sub u x _ ab _ ad _ ae) ar ?_
 rintro _ dk _ dl U bj ⟨v28,rfl,aw,rfl⟩
 obtain⟨dp,dq,rfl⟩:=aw.aj
 replace u:=u.mono U
 replace hP:=hP.mono U
 replace ad:=ad.mono U
 replace ae:=ae.mono U
 replace ab:=ab.mono U
 replace Y:=Y.mono U
 refine Op.c0 (some 15) (vU _ _ _ bj.sub u x _ ab _ ad _ ae (by(try dsimp only)<;>omega) (by(try dsimp only)<;>omega)) bj ?_
 rintro _ du _ dv a0 c4 ⟨dC,rfl,bk,rfl⟩
 obtain⟨dE,dT,rfl⟩:=bk.aj
 replace u:=u.mono a0
 replace hP:=hP.mono a0
 replace aw:=aw.mono a0
 replace Y:=Y.mono a0
 refine Op.ba ?_
 have a9:=((c4.aa 1 rfl).aa 1 rfl).aa 2 rfl
 refine Op.cl (some 16) 1 a9 (pR _ _ _ a9.sub u X s _ Y (aW x) _ aw _ _ bk hP (by((try dsimp only)<;>(exact hK.ok.wk (by omega)))) (by((try dsimp only)<;>(exact bQ (vV ho.2) (by decide)))) (by(try dsimp only)<;>exact hK.ct a1.2) (by(try dsimp only)<;>exact hK.fD) (by(try dsimp only)<;>exact pS hK a1.1 a1.2) (St.pt 1 a9)) ?_
 rintro _ d0 _ d1 c5 bm ⟨d2,d3,bo,rfl,bt,V,rfl⟩
 obtain⟨b3,b4,rfl⟩:=bt.aj
 replace u:=u.mono c5
 refine Op.pg 2 [(6,vL b3 ((bh s (aW x) (bC x)).length) b4),(7,.bool (dQ s (aW x)))] ?_
 refine At.go 3 2 [(20,.bool (!(dQ s (aW x))))] ?_
 refine At.di (!(dQ s (aW x))) 20 4 6 (fun b5=>?_) fun b6=>?_
 ·replace b5:=(dG b5)
  refine At.rp 3 1 [(21,.agg #[vI 0,vI 0,vI 0,vS [],vN,vI 0,vI 0,vI 0,vI 0,vN,vN])] ?_
  refine Op.sg 43 4 21 0 2 #[vI 0,vI 0,vI 0,vS [],vN,vI 0,vI 0,vI 0,vI 0,vN,vN] bm (fun _=>trivial) fun d4 b8=>?_
  refine Op.pg 5 [(5,.bool false)] ?_
  refine At.rm f43 [.agg #[vI 0,vI 0,vI 0,vS [],vN,vI 0,vI 0,vI 0,vI 0,vN,vN],.bool false] [.cell 4 43,.tmp 5] (.tuple #[.agg #[vI 0,vI 0,vI 0,vS [],vN,vI 0,vI 0,vI 0,vI 0,vN,vN],.bool false]) ⟨⟨_,_,rfl,dY (n:=11) (by kernel_rfl) (b8.ah 2 rfl) (by kernel_rfl) rfl⟩,rfl,trivial⟩ ?_
  have c6:=(((b8.aa 0 rfl).aa 3 rfl).aa 3 rfl).aa 3 rfl
  exact hR c6.drop.drop.drop ⟨vN,vN,vN,bo,b7 (by(rw[←(AK ‹_›).1];rfl)) (aS (by exact(AK ‹_›).2)),b9 (av.empty _ _ _ _ _) (by(rw[←(AK ‹_›).1];rfl)),b9 (av.empty _ _ _ _ _) (by(rw[←(AK ‹_›).1];rfl)),b9 (av.empty _ _ _ _ _) (by(rw[←(AK ‹_›).1];rfl)),V.eq (by rfl),rfl⟩
 replace b6:=(dH b6)
 refine At.rp 8 1 [(23,vL b3 ((bh s (aW x) (bC x)).length) b4)] ?_
 obtain⟨d5,ca,cb,c8⟩:=aJ.freeze bt (bm.aa 1 rfl)
 replace u:=u.mono cb
 replace V:=V.mono cb
 refine Op.c0 (some 24) (CX _ _ _ ca.sub u _ _ c8 (by(try dsimp only)<;>exact A5 hK.ok)) ca ?_
 rintro _ d6 _ d7 c9 da ⟨d8,d9,ed,rfl,ce,cf,ch,rfl⟩
 obtain⟨D,G,rfl⟩:=ce.aj
 obtain⟨I,J,rfl⟩:=cf.aj
 obtain⟨a75,O,rfl⟩:=ch.aj
 replace V:=V.mono c9
 refine Op.px 3 [(25,.agg #[vI (((bw (bh s (aW x) (bC x))).1).Code),vI (((bw (bh s (aW x) (bC x))).1).aZ),vI (((bw (bh s (aW x) (bC x))).1).At),vS (((bw (bh s (aW x) (bC x))).1).ag.af),vL D ((((bw (bh s (aW x) (bC x))).1).ag.Data).length) G,vI (((bw (bh s (aW x) (bC x))).1).ag.ai),vI (((bw (bh s (aW x) (bC x))).1).ag.aD),vI (((bw (bh s (aW x) (bC x))).1).ag.Next),vI (((bw (bh s (aW x) (bC x))).1).ag.aL),vL I ((((bw (bh s (aW x) (bC x))).1).bP).length) J,vL a75 ((((bw (bh s (aW x) (bC x))).1).aT).length) O]),(26,vI ((bw (bh s (aW x) (bC x))).2))] ?_
 refine Op.al 8 43 #[vI 0,vI 0,vI 0,vS [],vN,vI 0,vI 0,vI 0,vI 0,vN,vN] da fun ee ef db=>?_
 refine Op.sg 43 8 25 0 0 #[vI (((bw (bh s (aW x) (bC x))).1).Code),vI (((bw (bh s (aW x) (bC x))).1).aZ),vI (((bw (bh s (aW x) (bC x))).1).At),vS (((bw (bh s (aW x) (bC x))).1).ag.af),vL D ((((bw (bh s (aW x) (bC x))).1).ag.Data).length) G,vI (((bw (bh s (aW x) (bC x))).1).ag.ai),vI (((bw (bh s (aW x) (bC x))).1).ag.aD),vI (((bw (bh s (aW x) (bC x))).1).ag.Next),vI (((bw (bh s (aW x) (bC x))).1).ag.aL),vL I ((((bw (bh s (aW x) (bC x))).1).bP).length) J,vL a75 ((((bw (bh s (aW x) (bC x))).1).aT).length) O] db (fun _=>trivial) fun eh ci=>?_
 refine Op.pg 7 [(9,vI ((bw (bh s (aW x) (bC x))).2))] ?_
 refine At.rg 5 ?_
 refine Op.la 43 8 27 0 11 [vI (((bw (bh s (aW x) (bC x))).1).Code),vI (((bw (bh s (aW x) (bC x))).1).aZ),vI (((bw (bh s (aW x) (bC x))).1).At),vS (((bw (bh s (aW x) (bC x))).1).ag.af),vL D ((((bw (bh s (aW x) (bC x))).1).ag.Data).length) G,vI (((bw (bh s (aW x) (bC x))).1).ag.ai),vI (((bw (bh s (aW x) (bC x))).1).ag.aD),vI (((bw (bh s (aW x) (bC x))).1).ag.Next),vI (((bw (bh s (aW x) (bC x))).1).ag.aL),vL I ((((bw (bh s (aW x) (bC x))).1).bP).length) J,vL a75 ((((bw (bh s (aW x) (bC x))).1).aT).length) O] (ci.ah 0 rfl) ?_
 refine Op.px 2 [(29,.bool (((bw (bh s (aW x) (bC x))).2)==0))] ?_
 refine Op.sg 43 4 27 0 2 #[vI (((bw (bh s (aW x) (bC x))).1).Code),vI (((bw (bh s (aW x) (bC x))).1).aZ),vI (((bw (bh s (aW x) (bC x))).1).At),vS (((bw (bh s (aW x) (bC x))).1).ag.af),vL D ((((bw (bh s (aW x) (bC x))).1).ag.Data).length) G,vI (((bw (bh s (aW x) (bC x))).1).ag.ai),vI (((bw (bh s (aW x) (bC x))).1).ag.aD),vI (((bw (bh s (aW x) (bC x))).1).ag.Next),vI (((bw (bh s (aW x) (bC x))).1).ag.aL),vL I ((((bw (bh s (aW x) (bC x))).1).bP).length) J,vL a75 ((((bw (bh s (aW x) (bC x))).1).aT).length) O] ci (fun _=>trivial) fun ej ck=>?_
 refine Op.pg 8 [(5,.bool (((bw (bh s (aW x) (bC x))).2)==0))] ?_
 refine At.rm f43 [.agg #[vI (((bw (bh s (aW x) (bC x))).1).Code),vI (((bw (bh s (aW x) (bC x))).1).aZ),vI (((bw (bh s (aW x) (bC x))).1).At),vS (((bw (bh s (aW x) (bC x))).1).ag.af),vL D ((((bw (bh s (aW x) (bC x))).1).ag.Data).length) G,vI (((bw (bh s (aW x) (bC x))).1).ag.ai),vI (((bw (bh s (aW x) (bC x))).1).ag.aD),vI (((bw (bh s (aW x) (bC x))).1).ag.Next),vI (((bw (bh s (aW x) (bC x))).1).ag.aL),vL I ((((bw (bh s (aW x) (bC x))).1).bP).length) J,vL a75 ((((bw (bh s (aW x) (bC x))).1).aT).length) O],.bool (((bw (bh s (aW x) (bC x))).2)==0)] [.cell 4 43,.tmp 5] (.tuple #[.agg #[vI (((bw (bh s (aW x) (bC x))).1).Code),vI (((bw (bh s (aW x) (bC x))).1).aZ),vI (((bw (bh s (aW x) (bC x))).1).At),vS (((bw (bh s (aW x) (bC x))).1).ag.af),vL D ((((bw (bh s (aW x) (bC x))).1).ag.Data).length) G,vI (((bw (bh s (aW x) (bC x))).1).ag.ai),vI (((bw (bh s (aW x) (bC x))).1).ag.aD),vI (((bw (bh s (aW x) (bC x))).1).ag.Next),vI (((bw (bh s (aW x) (bC x))).1).ag.aL),vL I ((((bw (bh s (aW x) (bC x))).1).bP).length) J,vL a75 ((((bw (bh s (aW x) (bC x))).1).aT).length) O],.bool (((bw (bh s (aW x) (bC x))).2)==0)]) ⟨⟨_,_,rfl,dY (n:=11) (by kernel_rfl) (ck.ah 2 rfl) (by kernel_rfl) rfl⟩,rfl,trivial⟩ ?_
 have dc:=(((ck.aa 1 rfl).aa 3 rfl).aa 3 rfl).aa 3 rfl
 exact hR dc.drop.drop.drop ⟨(vL D ((((bw (bh s (aW x) (bC x))).1).ag.Data).length) G),(vL I ((((bw (bh s (aW x) (bC x))).1).bP).length) J),(vL a75 ((((bw (bh s (aW x) (bC x))).1).aT).length) O),bo,b7 (by(rw[(AJ ‹_›).1])) (aS (by exact(AJ ‹_›).2)),b9 ce (by(rw[(AJ ‹_›).1])),b9 cf (by(rw[(AJ ‹_›).1])),b9 ch (by(rw[(AJ ‹_›).1])),V.eq (by rfl),rfl⟩
end Go.Proofs.YtceekbnihfckeaaGreatDoor.Sw
namespace Go.Proofs.YtceekbnihfckeaaGreatDoor.Sw
open Tryz
open Go
set_option maxRecDepth 100000
set_option linter.unusedVariables false
set_option linter.unusedSimpArgs false
set_option linter.deprecated false
set_option maxHeartbeats 2000000 in
theorem yY (B:World) (h:ax) (g:GH) (hg:bl g h) (D:bq g) (hP:lZ g):
  aE prog B 14 #[] h g [] (fun c5 g' L'=>c5=.bool true∧L'=[]):=by
 refine aE.aq func14 fun R hR=>?_
 have a9:=St.init hg
 refine At.go 1 1 [] ?_
 refine At.rg 2 ?_
 refine Op.c0 (some 8) (xm _ _ _ a9.sub D) a9 ?_
 rintro _ c6 _ ex bc c8 ⟨G,eA,rfl,ae,rfl⟩
 replace D:=D.mono bc
 replace hP:=hP.mono bc
 refine Op.pg 2 [(1,vP G)] ?_
 refine At.go 3 2 [(10,.bool false)] ?_
 refine At.dK 10 6 ?_
 refine At.rp 12 10 [(12,.agg #[vI 1,vI 1,vI 0,vI 1,vS [],vN,vI 0,vI 9,.bool false,.bool false,.bool false,vN,vN]),(14,.agg #[vI 2,vI 1,vI 0,vI 1,vS [],vN,vI 0,vI 9,.bool false,.bool false,.bool false,vN,vN]),(16,.agg #[vI 1,vI 2,vI 0,vI 3,vS ([47,97]),vN,vI 0,vI 0,.bool true,.bool false,.bool false,vN,vN]),(18,.agg #[vI 2,vI 2,vI 0,vI 6,vS ([47,97]),vN,vI 0,vI 0,.bool false,.bool false,.bool true,vN,vN]),(20,.agg #[vI 1,vI 3,vI 0,vI 2,vS [],vN,vI 0,vI 0,.bool false,.bool false,.bool false,vN,vN])] ?_
 refine Op.ls 21 5 71 #[vI 1,vI 1,vI 0,vI 1,vS [],vN,vI 0,vI 9,.bool false,.bool false,.bool false,vN,vN,vI 2,vI 1,vI 0,vI 1,vS [],vN,vI 0,vI 9,.bool false,.bool false,.bool false,vN,vN,vI 1,vI 2,vI 0,vI 3,vS ([47,97]),vN,vI 0,vI 0,.bool true,.bool false,.bool false,vN,vN,vI 2,vI 2,vI 0,vI 6,vS ([47,97]),vN,vI 0,vI 0,.bool false,.bool false,.bool true,vN,vN,vI 1,vI 3,vI 0,vI 2,vS [],vN,vI 0,vI 0,.bool false,.bool false,.bool false,vN,vN] c8 fun am eB c9=>?_
 refine Op.pg 7 [(2,vL (some ⟨am,0,none⟩) 5 5)] ?_
 have da:aJ 71 iD c6 (vL (some ⟨am,0,none⟩) 5 5) [(⟨1,1,0,⟨1,[],[],0,9,false,false,false,[]⟩,[]⟩:aH),(⟨2,1,0,⟨1,[],[],0,9,false,false,false,[]⟩,[]⟩:aH),(⟨1,2,0,⟨3,[47,97],[],0,0,true,false,false,[]⟩,[]⟩:aH),(⟨2,2,0,⟨6,[47,97],[],0,0,false,false,true,[]⟩,[]⟩:aH),(⟨1,3,0,⟨2,[],[],0,0,false,false,false,[]⟩,[]⟩:aH)] [(am,Obj.cells #[vI 1,vI 1,vI 0,vI 1,vS [],vN,vI 0,vI 9,.bool false,.bool false,.bool false,vN,vN,vI 2,vI 1,vI 0,vI 1,vS [],vN,vI 0,vI 9,.bool false,.bool false,.bool false,vN,vN,vI 1,vI 2,vI 0,vI 3,vS ([47,97]),vN,vI 0,vI 0,.bool true,.bool false,.bool false,vN,vN,vI 2,vI 2,vI 0,vI 6,vS ([47,97]),vN,vI 0,vI 0,.bool false,.bool false,.bool true,vN,vN,vI 1,vI 3,vI 0,vI 2,vS [],vN,vI 0,vI 0,.bool false,.bool false,.bool false,vN,vN] 71 (0,0))]:=aJ.lit (by kernel_rfl) (by unfold maxLen;decide) (by kernel_rfl) ⟨_,_,rfl,⟨_,_,_,(av.nil _ _ _),(av.nil _ _ _),(av.nil _ _ _),rfl⟩,⟨_,_,rfl,⟨_,_,_,(av.nil _ _ _),(av.nil _ _ _),(av.nil _ _ _),rfl⟩,⟨_,_,rfl,⟨_,_,_,(av.nil _ _ _),(av.nil _ _ _),(av.nil _ _ _),rfl⟩,⟨_,_,rfl,⟨_,_,_,(av.nil _ _ _),(av.nil _ _ _),(av.nil _ _ _),rfl⟩,⟨_,_,rfl,⟨_,_,_,(av.nil _ _ _),(av.nil _ _ _),(av.nil _ _ _),rfl⟩,Reads.nil⟩⟩⟩⟩⟩
 obtain⟨db,dc,ar,dd⟩:=aJ.freeze da (c9.aa 0 rfl)
 replace D:=D.mono ar
 replace hP:=hP.mono ar
 replace ae:=ae.mono ar
 refine At.go 8 1 [(3,vI 0)] ?_
 have df:∀(m:Nat) (U:GH) (ab:aM db U) (y:Sp) (l:List aH) (i:Int) (aw:ay) (a37:Option Addr) (V:Nat) (a0:ax) (hm:lW.length-i.toNat<m) (h0:0≤i) (h1:i≤lW.length) (hl:l=lW) (hy:y=mZ i.toNat) (hK:ec i y) (a1:cu U G y aw) (X:av U 71 iD (vL a37 l.length V) l) (I:St h g (aV []) U [aw] a0),At (bX prog B 14 f14 R) [] 8 [(1,vP G),(2,vL a37 l.length V),(3,vI i)] a0:=by
  intro m;induction m with
  |zero=>intros;omega
  |succ m dg=>
   intro U ab y l i aw a37 V a0 hm h0 h1 hl hy hK a1 X I
   replace D:=D.mono ab
   replace hP:=hP.mono ab
   refine At.go 9 4 [(25,.bool (decide (i<(l.length:Int))))] ?_
   refine At.fd (i<(l.length:Int)) 25 10 16 (fun eE=>?_) fun eI=>?_
   ·refine At.rp 12 3 [(29,vP G),(30,vL a37 l.length V),(31,vI i)] ?_
    obtain⟨u,J⟩:=cG l i
    obtain⟨dj,bd,eJ,eK,dk,a3,a4⟩:=av.bF X _ J
    cases dk
    refine Op.iq 52 71 13 144 l.length V 30 31 32 dj bd i ?_
    obtain⟨eL,eQ,e1,be,bi,bj,a4⟩:=a4
    obtain⟨dl,dp,rfl⟩:=be.aj
    obtain⟨dq,du,rfl⟩:=bi.aj
    obtain⟨dv,dC,rfl⟩:=bj.aj
    refine Op.la 71 32 33 (bd+i.toNat*13) 13 [vI u.Client,vI u.bn,vI u.aX,vI u.Op.Kind,vS u.Op.af,vL dl u.Op.Data.length dp,vI u.Op.ai,vI u.Op.aF,.bool u.Op.aY,.bool u.Op.aI,.bool u.Op.ak,vL dq u.Op.az.length du,vL dv u.cS.length dC] (I.sub _ _ a3) ?_ (hv:=a4)
    refine Op.cl (some 34) 1 I (wY _ _ _ I.sub D G y _ a1 u _ be _ bi _ bj hP (by(try dsimp only)<;>omega) (by((try dsimp only)<;>(exact⟨by omega,by have h9:(lW.length:Int)=5:=rfl;omega⟩))) (by((try dsimp only)<;>(exact Th _ (hl▸cj J)))) (St.pt 1 I)) ?_
    rintro _ e2 _ e3 bk dE ⟨e4,v72,v76,e5,rfl,dT,d0,d1,d2,rfl⟩
    obtain⟨a70,bm,rfl⟩:=dT.aj
    obtain⟨bo,bt,rfl⟩:=d0.aj
    obtain⟨b3,b4,rfl⟩:=d1.aj
    replace a3:=bk _ _ a3
    replace X:=X.mono bk
    refine Op.px 3 [(35,.agg #[vI ((aK y u).Code),vI ((aK y u).aZ),vI ((aK y u).At),vS ((aK y u).ag.af),vL a70 (((aK y u).ag.Data).length) bm,vI ((aK y u).ag.ai),vI ((aK y u).ag.aD),vI ((aK y u).ag.Next),vI ((aK y u).ag.aL),vL bo (((aK y u).bP).length) bt,vL b3 (((aK y u).aT).length) b4]),(36,.bool (eW y u))] ?_
    refine Op.al 4 43 #[vI 0,vI 0,vI 0,vS [],vN,vI 0,vI 0,vI 0,vI 0,vN,vN] dE fun b5 e6 d3=>?_
    refine Op.sg 43 4 35 0 0 #[vI ((aK y u).Code),vI ((aK y u).aZ),vI ((aK y u).At),vS ((aK y u).ag.af),vL a70 (((aK y u).ag.Data).length) bm,vI ((aK y u).ag.ai),vI ((aK y u).ag.aD),vI ((aK y u).ag.Next),vI ((aK y u).ag.aL),vL bo (((aK y u).bP).length) bt,vL b3 (((aK y u).aT).length) b4] d3 (fun _=>trivial) fun e7 O=>?_
    refine Op.pg 11 [(5,.bool (eW y u))] ?_
    refine At.rp 14 3 [(39,.bool (!(eW y u)))] ?_
    refine Op.wb (!(eW y u)) 39 (fun b6=>?_) fun b8=>?_
    ·replace b6:=(dG b6)
     refine Op.pg 12 [(50,.bool true)] ?_
     refine At.bW 50 13 ?_
     exact At.gr 14 1 0 (.bool false) (hR O.drop.drop ⟨(aS (by exact Bool.noConfusion ((CF hy h0 (hl▸J)).1.symm.trans ‹_›))),rfl⟩)
    replace b8:=(dH b8)
    refine Op.px 1 [(40,vP b5)] ?_
    refine Op.l1 29 40 41 0 (vI ((aK y u).Code)) (O.ah 0 rfl) ?_
    refine Op.px 3 [(44,.bool (((aK y u).Code) != 0))] ?_
    refine Op.wb (((aK y u).Code) != 0) 44 (fun ca=>?_) fun cb=>?_
    ·replace ca:=gY ca
     refine Op.pg 12 [(50,.bool true)] ?_
     refine At.bW 50 13 ?_
     exact At.gr 14 1 0 (.bool false) (hR O.drop.drop ⟨(aS (by exact absurd (CF hy h0 (hl▸J)).2.1 ‹_›)),rfl⟩)
    replace cb:=jk cb
    refine Op.px 1 [(45,vQ b5 1)] ?_
    refine Op.l1 3 45 46 1 (vI ((aK y u).aZ)) (O.ah 0 rfl) ?_
    refine Op.px 1 [(47,vI i)] ?_
    refine Op.cE 48 (i+1) (by omega) (by(have h9:(lW.length:Int)=5:=rfl;omega)) ?_
    refine Op.pg 12 [(50,.bool (((aK y u).aZ) != (i+1)))] ?_
    refine At.fn (((aK y u).aZ)=(i+1)) 50 13 15 (fun e8=>?_) fun e9=>?_
    ·exact At.gr 14 1 0 (.bool false) (hR O.drop.drop ⟨(aS (by exact absurd (CF hy h0 (hl▸J)).2.2.1 ‹_›)),rfl⟩)
    refine At.rp 3 1 [(26,vI i)] ?_
    refine Op.cE 27 (i+1) (by omega) (by(have h9:(lW.length:Int)=5:=rfl;omega)) ?_
    refine Op.pg 8 [(3,vI (i+1))] ?_
    have d4:=O.drop
    exact At.ke (dg _ (aM.trans ab (by repeat (first|assumption|apply aM.trans))) (dF y u) l (i+1) _ _ _ _ (by(have h9:=congrArg List.length hl;omega)) (by omega) (by(have h9:=congrArg List.length hl;omega)) (by exact hl) (by exact(CF hy h0 (hl▸J)).2.2.2) (by exact hK.done h0 (by have h9:(lW.length:Int)=5:=rfl;omega)) d2 X d4)
   refine At.rp 10 3 [(52,vP G),(54,.agg #[vI 2,vI 3,vI 0,vI 9,vS [],vN,vI 0,vI 0,.bool false,.bool false,.bool false,vN,vN])] ?_
   refine Op.cl (some 55) 1 I (wY _ _ _ I.sub D G y _ a1 (⟨2,3,0,⟨9,[],[],0,0,false,false,false,[]⟩,[]⟩:aH) _ (av.nil _ _ _) _ (av.nil _ _ _) _ (av.nil _ _ _) hP (by(try dsimp only)<;>omega) (by((try dsimp only)<;>(exact⟨by omega,by have h9:(lW.length:Int)=5:=rfl;omega⟩))) (by(try dsimp only)<;>exact Ti) (St.pt 1 I)) ?_
   rintro _ d5 _ fa d6 d7 ⟨fg,fi,fj,fl,rfl,d8,d9,ce,ed,rfl⟩
   obtain⟨cf,ch,rfl⟩:=d8.aj
   obtain⟨ci,n105,rfl⟩:=d9.aj
   obtain⟨a5,a6,rfl⟩:=ce.aj
   replace D:=D.mono d6
   refine Op.px 3 [(56,.agg #[vI ((aK y (⟨2,3,0,⟨9,[],[],0,0,false,false,false,[]⟩,[]⟩:aH)).Code),vI ((aK y (⟨2,3,0,⟨9,[],[],0,0,false,false,false,[]⟩,[]⟩:aH)).aZ),vI ((aK y (⟨2,3,0,⟨9,[],[],0,0,false,false,false,[]⟩,[]⟩:aH)).At),vS ((aK y (⟨2,3,0,⟨9,[],[],0,0,false,false,false,[]⟩,[]⟩:aH)).ag.af),vL cf (((aK y (⟨2,3,0,⟨9,[],[],0,0,false,false,false,[]⟩,[]⟩:aH)).ag.Data).length) ch,vI ((aK y (⟨2,3,0,⟨9,[],[],0,0,false,false,false,[]⟩,[]⟩:aH)).ag.ai),vI ((aK y (⟨2,3,0,⟨9,[],[],0,0,false,false,false,[]⟩,[]⟩:aH)).ag.aD),vI ((aK y (⟨2,3,0,⟨9,[],[],0,0,false,false,false,[]⟩,[]⟩:aH)).ag.Next),vI ((aK y (⟨2,3,0,⟨9,[],[],0,0,false,false,false,[]⟩,[]⟩:aH)).ag.aL),vL ci (((aK y (⟨2,3,0,⟨9,[],[],0,0,false,false,false,[]⟩,[]⟩:aH)).bP).length) n105,vL a5 (((aK y (⟨2,3,0,⟨9,[],[],0,0,false,false,false,[]⟩,[]⟩:aH)).aT).length) a6]),(57,.bool (eW y (⟨2,3,0,⟨9,[],[],0,0,false,false,false,[]⟩,[]⟩:aH)))] ?_
   refine Op.al 6 43 #[vI 0,vI 0,vI 0,vS [],vN,vI 0,vI 0,vI 0,vI 0,vN,vN] d7 fun ck fp ee=>?_
   refine Op.sg 43 6 56 0 0 #[vI ((aK y (⟨2,3,0,⟨9,[],[],0,0,false,false,false,[]⟩,[]⟩:aH)).Code),vI ((aK y (⟨2,3,0,⟨9,[],[],0,0,false,false,false,[]⟩,[]⟩:aH)).aZ),vI ((aK y (⟨2,3,0,⟨9,[],[],0,0,false,false,false,[]⟩,[]⟩:aH)).At),vS ((aK y (⟨2,3,0,⟨9,[],[],0,0,false,false,false,[]⟩,[]⟩:aH)).ag.af),vL cf (((aK y (⟨2,3,0,⟨9,[],[],0,0,false,false,false,[]⟩,[]⟩:aH)).ag.Data).length) ch,vI ((aK y (⟨2,3,0,⟨9,[],[],0,0,false,false,false,[]⟩,[]⟩:aH)).ag.ai),vI ((aK y (⟨2,3,0,⟨9,[],[],0,0,false,false,false,[]⟩,[]⟩:aH)).ag.aD),vI ((aK y (⟨2,3,0,⟨9,[],[],0,0,false,false,false,[]⟩,[]⟩:aH)).ag.Next),vI ((aK y (⟨2,3,0,⟨9,[],[],0,0,false,false,false,[]⟩,[]⟩:aH)).ag.aL),vL ci (((aK y (⟨2,3,0,⟨9,[],[],0,0,false,false,false,[]⟩,[]⟩:aH)).bP).length) n105,vL a5 (((aK y (⟨2,3,0,⟨9,[],[],0,0,false,false,false,[]⟩,[]⟩:aH)).aT).length) a6] ee (fun _=>trivial) fun fr Y=>?_
   refine Op.pg 17 [(7,.bool (eW y (⟨2,3,0,⟨9,[],[],0,0,false,false,false,[]⟩,[]⟩:aH)))] ?_
   refine At.rp 21 2 [(59,.bool (eW y (⟨2,3,0,⟨9,[],[],0,0,false,false,false,[]⟩,[]⟩:aH)))] ?_
   refine Op.wb (eW y (⟨2,3,0,⟨9,[],[],0,0,false,false,false,[]⟩,[]⟩:aH)) 59 (fun ft=>?_) fun fv=>?_
   ·refine Op.px 1 [(60,vP ck)] ?_
    refine Op.l1 29 60 61 0 (vI ((aK y (⟨2,3,0,⟨9,[],[],0,0,false,false,false,[]⟩,[]⟩:aH)).Code)) (Y.ah 0 rfl) ?_
    refine Op.px 3 [(64,.bool (((aK y (⟨2,3,0,⟨9,[],[],0,0,false,false,false,[]⟩,[]⟩:aH)).Code)==0))] ?_
    refine Op.wd (((aK y (⟨2,3,0,⟨9,[],[],0,0,false,false,false,[]⟩,[]⟩:aH)).Code)=0) 64 (fun fw=>?_) fun fx=>?_
    ·refine Op.px 1 [(65,vQ ck 10)] ?_
     refine Op.l1 41 65 66 10 (vL a5 (((aK y (⟨2,3,0,⟨9,[],[],0,0,false,false,false,[]⟩,[]⟩:aH)).aT).length) a6) (Y.ah 0 rfl) ?_
     refine Op.px 1 [(67,.agg #[vI 2,vI 1,vS ([47,97])])] ?_
     refine Op.ls 68 1 45 #[vI 2,vI 1,vS ([47,97])] Y fun co f0 ad=>?_
     have ef:aJ 45 dh d5 (vL (some ⟨co,0,none⟩) 1 1) [(⟨2,1,[47,97]⟩:ak)] [(co,Obj.cells #[vI 2,vI 1,vS ([47,97])] 45 (0,0))]:=aJ.lit (by kernel_rfl) (by unfold maxLen;decide) (by kernel_rfl) ⟨_,_,rfl,rfl,Reads.nil⟩
     have c3:=ad.gz
     have eh:=ef.fY ad
     refine Op.le (some 69) 0 ad (xe _ _ _ ad.iO (D.mono c3) _ _ (ce.mono c3) _ _ eh (by((try dsimp only)<;>(exact bQ (Co (congrArg List.length (AI (AH hy hl ‹_› h1)).2.2.1)) (by decide))))) (fun _ _ _ hp=>by obtain⟨_,a7,_⟩:=hp;exact a7) ?_ (hM:=(fun _ _ h=>absurd h (dB _)))
     rintro _ _ f1 c4 ⟨rfl,a7,rfl⟩;clear a7
     refine Op.px 2 [(71,.bool (decide (((aK y (⟨2,3,0,⟨9,[],[],0,0,false,false,false,[]⟩,[]⟩:aH)).aT)=([(⟨2,1,[47,97]⟩:ak)]))))] ?_
     refine Op.wd (((aK y (⟨2,3,0,⟨9,[],[],0,0,false,false,false,[]⟩,[]⟩:aH)).aT)=([(⟨2,1,[47,97]⟩:ak)])) 71 (fun f2=>?_) fun f3=>?_
     ·refine Op.px 1 [(72,vP G)] ?_
      have a8:=((c4.aa 1 rfl).aa 1 rfl).aa 2 rfl
      refine Op.cl (some 73) 1 a8 (pT _ _ _ a8.sub D G (dF y (⟨2,3,0,⟨9,[],[],0,0,false,false,false,[]⟩,[]⟩:aH)) _ ed (by((try dsimp only)<;>(exact(hK.done h0 (by have h9:(lW.length:Int)=5:=rfl;omega)).ok.pU (by have h9:(lW.length:Int)=5:=rfl;omega)))) (St.pt 1 a8)) ?_
      rintro _ f4 _ f5 f6 ej ⟨v138,f7,f8,f9,v148,gc,ge,gg,gk,gn,gs,rfl,em,en,ep,er,et,g1,rfl⟩
      obtain⟨g2,g3,rfl⟩:=em.aj
      obtain⟨a146,g4,rfl⟩:=en.aj
      obtain⟨g5,n152,rfl⟩:=ep.aj
      obtain⟨g6,g7,rfl⟩:=er.aj
      obtain⟨g8,g9,rfl⟩:=et.aj
      exact Op.pr 18 0 (.bool ((((aP (dF y (⟨2,3,0,⟨9,[],[],0,0,false,false,false,[]⟩,[]⟩:aH))).bZ).length:Int)==1)) (hR ej.drop.drop.drop.drop.drop.drop.drop.drop ⟨(aS (by exact j6.2 (by have h9:=(AI (AH hy hl ‹_› h1)).2.2.2;show(((dF y qm).au.length:Nat):Int)=1;omega))),rfl⟩)
     exact Op.pr 18 0 (.bool false) (hR c4.drop.drop.drop ⟨(aS (by exact absurd (AI (AH hy hl ‹_› h1)).2.2.1 ‹_›)),rfl⟩)
    exact Op.pr 18 0 (.bool false) (hR Y.drop.drop ⟨(aS (by exact absurd (AI (AH hy hl ‹_› h1)).2.1 ‹_›)),rfl⟩)
   exact Op.pr 18 0 (.bool false) (hR Y.drop.drop ⟨(aS (by exact Bool.noConfusion ((AI (AH hy hl ‹_› h1)).1.symm.trans ‹_›))),rfl⟩)
 exact At.ke (df _ _ (aM.refl _) mL ([(⟨1,1,0,⟨1,[],[],0,9,false,false,false,[]⟩,[]⟩:aH),(⟨2,1,0,⟨1,[],[],0,9,false,false,false,[]⟩,[]⟩:aH),(⟨1,2,0,⟨3,[47,97],[],0,0,true,false,false,[]⟩,[]⟩:aH),(⟨2,2,0,⟨6,[47,97],[],0,0,false,false,true,[]⟩,[]⟩:aH),(⟨1,3,0,⟨2,[],[],0,0,false,false,false,[]⟩,[]⟩:aH)]) 0 _ _ _ _ (bM _) (by omega) (by decide) (by rfl) (by rfl) (by exact ec.new) ae dd dc)
end Go.Proofs.YtceekbnihfckeaaGreatDoor.Sw
