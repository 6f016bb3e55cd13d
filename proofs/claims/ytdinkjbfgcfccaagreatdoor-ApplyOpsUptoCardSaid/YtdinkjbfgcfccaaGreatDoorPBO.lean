/- Lemmas for laws of this seat. -/
import Derived.Test.YtdinkjbfgcfccaaGreatDoorPBN
set_option maxHeartbeats 4000000
namespace Go.Proofs.YtdinkjbfgcfccaaGreatDoor.Sw
open Go.Proofs.Tryz
open Go
set_option maxRecDepth 100000
set_option linter.unusedVariables false
set_option linter.unusedSimpArgs false
set_option linter.deprecated false
theorem SC {ns:List aa} {l:aa} (h:j6 ns l=true):l.af.length≤64:=by
 unfold j6 at h
 simp only[bZ] at h
 have h:=h.2
 split at h
 ·simp only[bZ,cN] at h
  rw[h.1.1];decide
 ·simp only[bZ,cN] at h
  exact Co h.1
theorem ez (B:World) (h:ay) (g:GH) (hg:bu g h) (aw:bz g) (Z:Nat) (t:List aa) (D:az) (I:eD g Z t D) (co:Value) (bC:List aa) (a6:an g 39 rG co bC) (h1:bC.length≤1000000) (hl:∀n∈bC,n.af.length≤1000000∧n.Data.length≤1000000) (hs:St h g (aS [D]) g [D] h):
  aG prog B 122 #[vP Z,co] h g [D] (fun dj g' L'=>∃c3,dj=.bool (lN bC)∧eD g' Z (if lN bC=true then bC else t) c3∧g'=g∧L'=[c3]):=by
 obtain⟨b3,ab,rfl⟩:=a6.ak
 refine aG.aq func122 fun R hR=>At.go 1 1 []<|At.rg 2<|Op.makeMap (mt:=136) (dst:=9) (by kernel_rfl) hs fun G c4 dk=>?_
 have dl:St h g (aS [D]) g [[(G,.map #[] 0)],[],D] c4:=St.bw (L:=[[(G,.map #[] 0)],D]) rfl dk
 have dp:cG encS #[] 0 ([]:List (bp×Value)):=cG.empty _ _
 have dq:=gu.nil
 refine Op.pg 2 [(5,.map (some G))]<|At.go 3 3 [(10,vL b3 bC.length ab),(11,vI (bC.length:Int)),(12,vI 0)] ?_
 obtain⟨e3,du,dv⟩:∃c,gq g G ([]:List aa) c∧St h g (aS [D]) g (c::[D]) c4:=⟨_,dq.close dp (ga _),St.bw (L:=[(G,.map #[] 0)]::[]::[D]) (by simp only[cm,cJ,dL,dS,dm]) dl⟩
 have dC:∀(m:Nat) (V:GH) (a7:aM g V) (i:Int) (J:List aa) (am:az) (b4:ay) (hm:bC.length-i.toNat<m) (h0:0≤i) (h3:i≤bC.length) (hlv:J=bC.take i.toNat) (a8:u_ bC i) (a0:gq V G J am) (a1:St h g (aS [D]) V [am,D] b4),At (bP prog B 122 f122 R) [] 3 [(0,vP Z),(1,vL b3 bC.length ab),(5,.map (some G)),(10,vL b3 bC.length ab),(11,vI (bC.length:Int)),(12,vI i)] b4:=by
  intro m;induction m with
  |zero=>intros;omega
  |succ m dE=>
   intro V a7 i J am b4 hm h0 h3 hlv a8 a0 a1
   replace aw:=aw.mono a7
   replace a6:=a6.mono a7
   replace I:=I.mono a7
   refine At.go 4 1 [(13,.bool (decide (i<(bC.length:Int))))]<|At.fd (i<(bC.length:Int)) 13 5 13 (fun e4=>?_) fun e5=>?_
   ·refine At.rp 6 1 [(14,vI i)] ?_
    obtain⟨u,O⟩:=bW bC i
    obtain⟨a3,ad,e6,e7,dT,d0,b5⟩:=an.bB a6 _ O
    cases dT
    refine Op.iq 60 39 6 72 bC.length ab 10 12 15 a3 ad i ?_
    obtain⟨e8,a9,b5⟩:=b5
    obtain⟨bb,bc,rfl⟩:=a9.ak
    refine Op.la 39 15 16 (ad+i.toNat*6) 6 [vS u.af,vL bb u.Data.length bc,vI u.ai,vI u.aC,vI u.Next,vI u.aF] (a1.sub _ _ d0) ?_ (hv:=b5)
    refine Op.al 7 39 qQ a1 fun a4 e9 d1=>Op.px 1 [(6,vI i)]<|Op.sg 39 7 16 0 0 #[vS u.af,vL bb u.Data.length bc,vI u.ai,vI u.aC,vI u.Next,vI u.aF] d1 zt fun fa b6=>Op.gt 6 ?_
    have c5:∀(m:Nat) (b8:ay) (hm:0<m) (bd:rT bC i.toNat u) (c6:St h g (aS [D]) V [[(a4,Obj.cells #[vS u.af,vL bb u.Data.length bc,vI u.ai,vI u.aC,vI u.Next,vI u.aF] 39 (0,0))],am,D] b8),At (bP prog B 122 f122 R) [] 10 [(0,vP Z),(1,vL (some ⟨a3,ad,none⟩) bC.length ab),(5,.map (some G)),(7,vP a4),(10,vL (some ⟨a3,ad,none⟩) bC.length ab),(11,vI (bC.length:Int)),(12,vI i)] b8:=by
     intro m;induction m with
     |zero=>intros;omega
     |succ m fg=>
      intro b8 hm bd c6
      refine At.rg 3 ?_
      obtain⟨ca,bj⟩:=St.freeze (c6)
      have cb:=iK (g:=V) a4 (.cells #[vS u.af,vL bb u.Data.length bc,vI u.ai,vI u.aC,vI u.Next,vI u.aF] 39 (0,0))
      generalize d2:cS V _=ar at ca bj cb;clear d2
      replace aw:=aw.mono bj
      replace a9:=a9.mono bj
      replace a0:=a0.mono bj
      refine Op.c0 (some 36) (Cv _ _ _ ca.sub aw u _ a9 a4 cb (by((try dsimp only)<;>((have:=(hl _ (bY O)).2;omega))))) ca ?_
      rintro _ d3 _ fi d4 d5 ⟨fj,ae,rfl,c8,bk,rfl⟩;subst d3;clear d4
      obtain⟨X,Y,rfl⟩:=c8.ak
      refine Op.al 8 39 qQ d5 fun U fl d6=>Op.sg 39 8 36 0 0 #[vS u.af,vL X (u.Data.length) Y,vI u.ai,vI u.aC,vI u.Next,vI u.aF] d6 zt fun c9 da=>Op.gt 11<|At.rp 4 2 [(37,.map (some G)),(38,vP a4)]<|Op.l1 9 38 39 0 (vS u.af) (da.sub _ _ cb) ?_
      obtain⟨d7,d8,d9,a5,ea,eb,ed⟩:=gq.kD a0
      have ee:St h g (aS [D]) ar [am,[(U,Obj.cells #[vS u.af,vL X (u.Data.length) Y,vI u.ai,vI u.aC,vI u.Next,vI u.aF] 39 (0,0))],ae,D] c9:=(da.fs [1,1,2] rfl)
      have ef:St h g (aS [D]) ar ([(G,.map d7 d8)]::a5::[[(U,Obj.cells #[vS u.af,vL X (u.Data.length) Y,vI u.ai,vI u.aC,vI u.Next,vI u.aF] 39 (0,0))],ae,D]) c9:=St.pR (L:=am::[[(U,Obj.cells #[vS u.af,vL X (u.Data.length) Y,vI u.ai,vI u.aC,vI u.Next,vI u.aF] 39 (0,0))],ae,D]) (ea.append_right _) ee
      refine Op.nY (d:=.string) (z:=.pointer none) (mt:=136) (x:=37) (ix:=39) (y:=8) (k:=u.af) (v:=vP U) (.inl (by kernel_rfl)) (by kernel_rfl) kz (by kernel_rfl) (by kernel_rfl) (by kernel_rfl) ef 0 rfl eb zt fun bm bo ce eh ej=>?_
      have em:gu (gR d9 u.af (vP U)) ((U,.cells #[vS u.af,vL X (u.Data.length) Y,vI u.ai,vI u.aC,vI u.Next,vI u.aF] 39 (0,0))::ae++a5:az) (ei J (⟨u.af,u.Data,u.ai,u.aC,u.Next,u.aF⟩:aa)):=ed.zC (g:=ar) (l:=(⟨u.af,u.Data,u.ai,u.aC,u.Next,u.aF⟩:aa)) (by(rw[hlv];exact(C2 a8 h0 O bd).2.1)) c8 (by exact SC bd.1)
      have en:St h g (aS [D]) ar [[(G,.map bm bo)],[(U,Obj.cells #[vS u.af,vL X (u.Data.length) Y,vI u.ai,vI u.aC,vI u.Next,vI u.aF] 39 (0,0))],ae,a5,D] ce:=(ej.fs [1,3,3,3] rfl)
      have ep:St h g (aS [D]) ar [[(G,.map bm bo)],((U,.cells #[vS u.af,vL X (u.Data.length) Y,vI u.ai,vI u.aC,vI u.Next,vI u.aF] 39 (0,0))::ae++a5:az),D] ce:=St.bw (L:=[[(G,.map bm bo)],[(U,Obj.cells #[vS u.af,vL X (u.Data.length) Y,vI u.ai,vI u.aC,vI u.Next,vI u.aF] 39 (0,0))],ae,a5,D]) (by simp only[cm,List.flatten_nil,cJ,dL,dS,dm]) en
      refine Op.gt 12<|At.rg 2<|Op.vq 40 (i+1)<|Op.pg 3 [(12,vI (i+1))] ?_
      obtain⟨fp,er,et⟩:∃c,gq ar G (ei J (⟨u.af,u.Data,u.ai,u.aC,u.Next,u.aF⟩:aa)) c∧St h g (aS [D]) ar (c::[D]) ce:=⟨_,em.close eh (ga _),St.bw (L:=[(G,.map bm bo)]::((U,.cells #[vS u.af,vL X (u.Data.length) Y,vI u.ai,vI u.aC,vI u.Next,vI u.aF] 39 (0,0))::ae++a5:az)::[D]) (by simp only[cm,cJ,dL,dS,dm]) ep⟩
      exact At.ke (dE _ (aM.trans a7 (by repeat (first|assumption|apply aM.trans))) (i+1) (ei J (⟨u.af,u.Data,u.ai,u.aC,u.Next,u.aF⟩:aa)) _ _ (by omega) (by omega) (by omega) (by(rw[hlv];exact(C2 a8 h0 O bd).2.2)) (by exact(C2 a8 h0 O bd).1) er et)
    refine At.dw (fun _=>False) [(0,true),(1,false),(2,false),(3,true),(4,true),(5,true),(6,true),(7,true),(8,true),(9,true),(10,true),(11,true),(12,true),(14,true),(13,true),(15,false),(16,true),(17,true),(18,true)]<|Op.px 1 [(17,.map (some G))]<|Op.la 39 7 18 0 6 [vS u.af,vL bb u.Data.length bc,vI u.ai,vI u.aC,vI u.Next,vI u.aF] (b6.ag 0 rfl) ?_
    have bs:=b6.fs [1] rfl
    have db:=bs.gH
    have ex:=gq.fK a0 bs (by intro p hp;simp only[eo,hp,nt,nv])
    refine Op.le (some 19) 0 bs (OB _ _ _ bs.jk (aw.mono db) G J ex u _ (a9.mono db) (by((try dsimp only)<;>((have:=(hl _ (bY O)).1;omega))))) (fun _ _ _ hp=>by obtain⟨_,bk,_⟩:=hp;exact bk) ?_ (hM:=(fun _ _ h=>absurd h (gP _)))
    rintro _ _ fr be ⟨rfl,bk,rfl⟩;clear bk
    refine Op.px 2 [(21,.bool (!(j6 J u)))]<|Op.wb (!(j6 J u)) 21 (fun dc=>?_) fun dd=>?_
    ·replace dc:=(dn dc)
     refine Op.pg 7 [(35,vT)]<|At.bT 35 8<|At.go 9 1 [(4,vF)]<|At.rt vF ?_
     replace I:=I.bw (g':=g)
     exact hR be.drop.drop.iM ⟨D,(bn (by exact HY O (by rw[←hlv];assumption))),I.eq (by(rw[←HY O (by rw[←hlv];assumption)];rfl)),rfl,rfl⟩
    replace dd:=(dr dd)
    refine Op.px 3 [(24,.bool (decide (i>0)))]<|Op.wd (i>0) 24 (fun ft=>?_) fun fv=>?_
    ·refine Op.px 2 [(25,vL (some ⟨a3,ad,none⟩) bC.length ab),(26,vI i)]<|Op.vq 27 (i-1) ?_
     obtain⟨bi,bt⟩:=bW bC (i-1)
     obtain⟨fw,fx,f0,f1,eA,eB,cf⟩:=an.bB a6 _ bt
     cases eA
     refine Op.iq 60 39 6 72 bC.length ab 25 27 28 a3 ad (i-1) ?_
     obtain⟨f2,eI,cf⟩:=cf
     obtain⟨f3,n119,rfl⟩:=eI.ak
     refine Op.px 2 [(29,vQ a3 (ad+(i-1:Int).toNat*6)),(31,vP a4)]<|Op.ez (T:=9) (x:=29) (o:=ad+(i-1:Int).toNat*6) (d:=30) (n:=1) (v:=vS bi.af) (by kernel_rfl) (by kernel_rfl) (by kernel_rfl) id (b6.sub _ _ eB) (bN cf 0 rfl)<|Op.l1 9 31 32 0 (vS u.af) (be.ag 1 rfl)<|Op.vl 33 (.bool (!(Go.Op.bytesLess (br bi.af).toList (br u.af).toList))) (.bool (!(Go.Op.bytesLess bi.af u.af))) (by rw[toList_mkS,toList_mkS])<|Op.pg 7 [(35,.bool (!(Go.Op.bytesLess bi.af u.af)))] ?_
     refine At.cW (!(Go.Op.bytesLess bi.af u.af)) 35 8 10 (fun df=>?_) fun ch=>?_
     ·replace df:=(dn df)
      refine At.go 9 1 [(4,vF)]<|At.rt vF ?_
      replace I:=I.bw (g':=g)
      exact hR be.drop.drop.iM ⟨D,(bn (by exact HW (by omega) O bt ‹_›)),I.eq (by(rw[←HW (by omega) O bt ‹_›];rfl)),rfl,rfl⟩
     replace ch:=(dr ch)
     exact At.ke (c5 _ _ (bG _) (by exact O5 (by omega) (by rw[←hlv];assumption) bt ch) (be.fs [1] rfl))
    exact Op.pg 7 [(35,vF)]<|At.cQ 35 10<|At.ke (c5 _ _ (bG _) (by exact O4 (by omega) h0 (by rw[←hlv];assumption)) (be.fs [1] rfl))
   have eJ:∀(m:Nat) (ci:ay) (hm:0<m) (hle:true=lN bC∧bC.take i.toNat=bC) (dg:St h g (aS [D]) V [am,D] ci),At (bP prog B 122 f122 R) [] 17 [(0,vP Z),(5,.map (some G))] ci:=by
    intro m;induction m with
    |zero=>intros;omega
    |succ m f4=>
     intro ci hm hle dg
     refine At.rp 5 4 [(50,.map (some G)),(52,vP Z)] ?_
     obtain⟨f5,eK,eL,f6⟩:=I
     refine Op.s1 136 52 50 0 (.map (some G)) 0 #[.map (some G)] (St.un [eK] eL (dg.fs [1] rfl)) zt fun f7 eQ=>Op.gt 18<|At.go 19 1 [(4,vT)] ?_
     obtain⟨e1,ck,e2⟩:=St.bF (Q:=eD V Z J) 2 (eQ.fs [1,2,2] rfl) ⟨_,_,rfl,a0⟩
     refine At.rt vT ?_
     replace ck:=ck.bw (g':=g)
     exact hR (e2.fs [1] rfl).drop.iM ⟨e1,(bn (by exact hle.1)),ck.eq (by(rw[←hle.1,hlv];exact hle.2)),rfl,rfl⟩
   refine At.rp 8 4 [(44,.bool ((bC.length:Int)==0))]<|Op.wd ((bC.length:Int)=0) 44 (fun f8=>?_) fun f9=>?_
   ·refine Op.pg 14 [(48,vT)]<|At.bT 48 15<|At.go 16 1 [(4,vF)]<|At.rt vF ?_
    replace I:=I.bw (g':=g)
    exact hR a1.drop.iM ⟨D,(bn (by exact zF (by omega))),I.eq (by(rw[←zF (by omega)];rfl)),rfl,rfl⟩
   refine Op.pg 14 [(48,.bool (decide ((bC.length:Int)>32)))]<|At.fd ((bC.length:Int)>32) 48 15 17 (fun gc=>?_) fun ge=>?_
   ·refine At.go 16 1 [(4,vF)]<|At.rt vF ?_
    replace I:=I.bw (g':=g)
    exact hR a1.drop.iM ⟨D,(bn (by exact zF (by omega))),I.eq (by(rw[←zF (by omega)];rfl)),rfl,rfl⟩
   exact At.ke (eJ _ _ (bG _) (by exact O6 a8 ‹_› (by omega) (by omega)) a1)
 exact At.ke (dC _ _ (aM.refl _) 0 ([]:List aa) _ _ (bG _) (by omega) (by omega) (by rfl) (by exact O2 _) du dv)
theorem SD (B:World) (h:ay) (g:GH) (hg:bu g h) (J:bz g) (D:Nat) (s:Sp) (a4:az) (f9:b9 g D s a4) (client:Int) (o:aR) (er:Value) (gc:an g 5 a_ er o.Data) (et:Value) (bc:an g 25 dy et o.aB) (I:Nat) (x:Result) (Y:az) (a0:eG g I x Y) (hP:l_ g) (ce:dA s) (ho:cU o≤100000000) (hs:St h g (aS [a4,Y]) g [a4,Y] h):
  aG prog B 96 #[vP D,vI client,.agg #[vI o.ah,vS o.af,er,vI o.ai,vI o.aI,.bool o.aV,.bool o.aK,.bool o.au,et],vP I] h g [a4,Y] (fun ge g' L'=>∃ex eA,ge=.tuple #[]∧b9 g' D (oV s client o) ex∧eG g' I (qU s client o x) eA∧L'=[ex,eA]):=by
 obtain⟨bm,bo,rfl⟩:=gc.ak
 obtain⟨bd,ad,rfl⟩:=bc.ak
 refine aG.aq func96 fun R hR=>At.rg 1<|Op.bx 6 25 2 #[vI o.ah,vS o.af,vL bm o.Data.length bo,vI o.ai,vI o.aI,.bool o.aV,.bool o.aK,.bool o.au,vL bd o.aB.length ad] hs fun bs km gg=>Op.gt 1<|At.rp 6 3 [(20,vP D)] ?_
 obtain⟨eB,gk,kv,gn,kw,gs,kx,g1,kA,g2,g3,cf,dp,dq,du,dv⟩:=f9
 have eI:=St.un [gk,gn,gs,g1,g2] g3 (gg.fs [1] rfl)
 refine Op.l1 91 20 21 0 (vP eB) (eI.ag 0 rfl) ?_
 have ch:=eI.fs [1] rfl
 have g4:=ch.gH
 have g5:=eD.fK cf ch (by intro p hp;simp only[eo,hp,nt,nv])
 refine Op.le (some 22) 0 ch (Cw _ _ _ ch.jk (J.mono g4) eB s.aA g5 (by(try dsimp only)<;>exact ce.tree)) (fun _ _ _ hp=>by obtain⟨_,_,_,_,_,ci,_⟩:=hp;exact ci) ?_ (hM:=(fun _ _ h=>absurd h (gP _)))
 rintro _ _ k0 g6 ⟨v46,k1,k2,rfl,g7,ci,rfl⟩;clear ci
 obtain⟨ck,eJ,ae,be⟩:=Deep.freeze g7 (g6.fs [2,2] rfl)
 replace cf:=cf.mono ae
 replace dp:=dp.mono ae
 replace dq:=dq.mono ae
 replace du:=du.mono ae
 replace dv:=dv.mono ae
 replace J:=J.mono ae
 replace hP:=hP.mono ae
 replace bc:=bc.mono ae
 replace a0:=a0.mono ae
 obtain⟨co,c3,rfl⟩:=be.ak
 refine Op.pg 2 [(8,vL co (s.aA.length) c3)]<|At.go 3 1 [(9,vN)]<|At.go 4 1 [(10,vN)]<|At.rp 4 1 [(23,vQ bs 8)]<|Op.l1 23 23 24 8 (vL bd o.aB.length ad) (eJ.ag 6 rfl) ?_
 refine Op.pg 5 [(25,vI (o.aB.length:Int)),(26,vI 0)] ?_
 obtain⟨k3,g8,g9⟩:=St.bF (Q:=b9 ck D s) 6 (eJ.fs [1] rfl) ⟨_,_,_,_,_,_,_,_,_,_,rfl,cf,dp,dq,du,dv⟩
 have ha:∀(m:Nat) (a5:GH) (am:aM ck a5) (y:Sp) (cs:List iz) (ns:List aj) (i:Int) (a6:Option Addr) (a1:Nat) (a7:az) (Z:Option Addr) (ab:Nat) (a8:az) (dC:az) (dE:ay) (hm:o.aB.length-i.toNat<m) (h0:0≤i) (h1:i≤o.aB.length) (hI:oT D client s o.aB i ⟨y,cs,ns⟩) (a3:dA y) (hcl:cs.length≤i) (hb:ns.length≤i) (bt:∀c∈cs,c.fH≠0∧c.bB=D) (b3:∀c∈cs,c.ec.length≤1000000000) (O:aH 168 vw a5 (.slice a6 cs.length a1) cs a7) (U:aH 9 cV a5 (.slice Z ns.length ab) ns a8) (dT:b9 a5 D y dC) (c4:St h g (aS [a4,Y]) a5 [a8,a7,dC,[(bs,Obj.cells #[vI o.ah,vS o.af,vL bm o.Data.length bo,vI o.ai,vI o.aI,.bool o.aV,.bool o.aK,.bool o.au,vL bd o.aB.length ad] 25 (0,0))],Y] dE),At (bP prog B 96 f96 R) [] 5 [(0,vP D),(1,vI client),(3,vP I),(8,vL co (s.aA.length) c3),(9,vL a6 cs.length a1),(10,vL Z ns.length ab),(24,vL bd o.aB.length ad),(25,vI (o.aB.length:Int)),(26,vI i)] dE:=by
  intro m;induction m with
  |zero=>intros;omega
  |succ m d0=>
   intro a5 am y cs ns i a6 a1 a7 Z ab a8 dC dE hm h0 h1 hI a3 hcl hb bt b3 O U dT c4
   replace J:=J.mono am
   replace hP:=hP.mono am
   replace bc:=bc.mono am
   replace be:=be.mono am
   replace a0:=a0.mono am
   refine At.go 6 1 [(27,.bool (decide (i<(o.aB.length:Int))))]<|At.fd (i<(o.aB.length:Int)) 27 7 19 (fun k4=>?_) fun k5=>?_
   ·refine At.rp 6 1 [(28,vI i)] ?_
    obtain⟨u,V⟩:=bW o.aB i
    obtain⟨d1,c5,k6,k7,he,hf,b4⟩:=an.bB bc _ V
    cases he
    refine Op.iq 23 25 9 96 o.aB.length ad 24 26 29 d1 c5 i ?_
    replace b4:=k9.1 b4
    obtain⟨k8,lb,eK,eL,b4⟩:=b4
    obtain⟨c6,c8,rfl⟩:=eK.ak
    obtain⟨c9,da,rfl⟩:=eL.ak
    refine Op.la 25 29 30 (c5+i.toNat*9) 9 [vI u.ah,vS u.af,vL c6 u.Data.length c8,vI u.ai,vI u.aI,.bool u.aV,.bool u.aK,.bool u.au,vL c9 u.aB.length da] (c4.sub _ _ hf) ?_ (hv:=b4)
    refine Op.al 12 25 fE c4 fun eQ lc hh=>Op.px 1 [(11,vI i)]<|Op.sg 25 12 30 0 0 #[vI u.ah,vS u.af,vL c6 u.Data.length c8,vI u.ai,vI u.aI,.bool u.aV,.bool u.aK,.bool u.au,vL c9 u.aB.length da] hh zt fun lh e1=>Op.gt 8<|At.rp 13 2 [(32,vP D),(33,vI client)] ?_
    refine Op.la 25 12 34 0 9 [vI u.ah,vS u.af,vL c6 u.Data.length c8,vI u.ai,vI u.aI,.bool u.aV,.bool u.aK,.bool u.au,vL c9 u.aB.length da] (e1.ag 0 rfl) ?_
    have d2:=e1.fs [2,2,2,3] rfl
    refine Op.cl (some 35) 1 d2 (KJ _ _ _ d2.sub J D y _ dT client u _ eK _ eL hP (by(try dsimp only)<;>omega) (by((try dsimp only)<;>((have:=iP (bY V);have:=fD u;omega)))) (by((try dsimp only)<;>((have:=iP (bY V);have:=fD u;omega)))) (St.pt 1 d2)) ?_
    rintro _ d3 _ li b5 hj ⟨lj,e2,lk,f109,ar,aw,e3,rfl,hl,rfl,b6,bi,rfl⟩
    obtain⟨db,dc,rfl⟩:=hl.ak
    replace O:=O.mono b5
    replace U:=U.mono b5
    replace J:=J.mono b5
    replace be:=be.mono b5
    replace a0:=a0.mono b5
    refine Op.px 4 [(36,.agg #[vS ((bI y client u).af),vL db (((bI y client u).Data).length) dc,vI ((bI y client u).ai),vI ((bI y client u).aC),vI ((bI y client u).Next),vI ((bI y client u).aF)]),(37,.agg #[vS (cP y client u),.func (.func f109) ar aw]),(38,vI (cu y client u))]<|Op.al 13 39 qQ hj fun dd ll hr=>Op.al 14 168 lC hr fun e4 lm hu=>Op.sg 39 13 36 0 1 #[vS ((bI y client u).af),vL db (((bI y client u).Data).length) dc,vI ((bI y client u).ai),vI ((bI y client u).aC),vI ((bI y client u).Next),vI ((bI y client u).aF)] hu zt fun ln hw=>Op.sg 168 14 37 0 0 #[vS (cP y client u),.func (.func f109) ar aw] hw zt fun lr df=>?_
    refine Op.pg 9 [(15,vI (cu y client u))]<|At.go 10 2 [(40,.bool ((cu y client u) != 0))]<|At.fn ((cu y client u)=0) 40 11 14 (fun lv=>?_) fun lw=>?_
    ·refine At.rp 6 3 [(43,vP D)] ?_
     obtain⟨e5,hx,lx,hy,ly,hA,lA,hB,lL,hC,hD,hE,hF,hG,hH,hJ⟩:=bi
     have e6:=St.un [hx,hy,hA,hB,hC] hD (df.fs [1,1,2] rfl)
     refine Op.l1 91 43 44 0 (vP e5) (e6.ag 0 rfl)<|Op.px 1 [(45,vL co (s.aA.length) c3)] ?_
     have d4:=e6.fs [1] rfl
     refine Op.cl (some 46) 1 d4 (ez _ _ _ d4.sub J e5 ((cM y client u).aA) _ hE _ _ be (by((try dsimp only)<;>((have:=ce.tree.1;omega)))) (by((try dsimp only)<;>(exact fun n hn=>(by have:=ce.tree.2 n hn;omega)))) (St.pt 1 d4)) ?_
     rintro _ hK _ lO hL hN ⟨l0,rfl,hO,ci,rfl⟩;subst hK;clear hL
     refine Op.gt 12<|At.rp 10 6 [(48,vP I),(49,vI (cu y client u)),(50,vI i),(52,vP I)] ?_
     obtain⟨l2,l3,hQ,l4,hS,hT,e7,e8,e9⟩:=a0
     obtain⟨fa,fg,rfl⟩:=e7.ak
     obtain⟨fi,n166,rfl⟩:=e8.ak
     obtain⟨fj,fl,rfl⟩:=e9.ak
     refine Op.s1 29 52 49 0 (vI (cu y client u)) 0 #[vI (cu y client u),vI x.aU,vI x.At,vS x.aa.af,vL fa x.aa.Data.length fg,vI x.aa.ai,vI x.aa.aC,vI x.aa.Next,vI x.aa.aF,vL fi x.aX.length n166,vL fj x.aP.length fl] (St.un [hQ,hS] hT (hN.fs [12,12,12,12,12,12,12,12,12,12,12,12,12,13] rfl)) zt fun l8 hV=>Op.px 2 [(54,vQ I 2)]<|Op.s1 3 54 50 2 (vI i) 0 #[vI (cu y client u),vI x.aU,vI i,vS x.aa.af,vL fa x.aa.Data.length fg,vI x.aa.ai,vI x.aa.aC,vI x.aa.Next,vI x.aa.aF,vL fi x.aX.length n166,vL fj x.aP.length fl] hV zt fun ma hW=>Op.gt 13 ?_
     obtain⟨hX,hY,hZ⟩:=St.bF (Q:=b9 d3 D (⟨(if lN s.aA=true then s.aA else ((cM y client u).aA)),(cM y client u).aQ,(cM y client u).aN,(cM y client u).aE,(cM y client u).count,(cM y client u).events,(cM y client u).aW⟩:Sp)) 6 (hW.fs [2,2,2,8,8,8,8,7,8] rfl) ⟨_,_,_,_,_,_,_,_,_,_,rfl,hO,hF,hG,hH,hJ⟩
     obtain⟨h2,h3,h6⟩:=St.bF (Q:=eG d3 I (⟨cu y client u,x.aU,i,⟨x.aa.af,x.aa.Data,x.aa.ai,x.aa.aC,x.aa.Next,x.aa.aF⟩,x.aX,x.aP⟩:Result)) 3 (hZ.fs [3,3,3] rfl) ⟨_,_,_,_,_,rfl,e7,e8,e9⟩
     exact At.rt eY<|hR (h6.fs [1,8,8,8,8,8,8,8] rfl).drop.drop.drop.drop.drop.drop.drop ⟨hX,h2,rfl,hY.eq (by exact(RE hI h0 V ‹_›).symm),h3.eq (by exact(RF hI h0 V ‹_›).symm),rfl⟩
    have fp:∀(m:Nat) (d5:GH) (b8:aM d3 d5) (G:aj) (d6:ay) (hm:0<m) (hnm:G=if u.ah=3 then (bI y client u).af else []) (a9:St h g (aS [a4,Y]) d5 [[(e4,Obj.cells #[vS (cP y client u),.func (.func f109) ar aw] 168 (0,0))],[(dd,Obj.cells #[vS G,vL db (((bI y client u).Data).length) dc,vI ((bI y client u).ai),vI ((bI y client u).aC),vI ((bI y client u).Next),vI ((bI y client u).aF)] 39 (0,0))],e3,e2,[(eQ,Obj.cells #[vI u.ah,vS u.af,vL c6 u.Data.length c8,vI u.ai,vI u.aI,.bool u.aV,.bool u.aK,.bool u.au,vL c9 u.aB.length da] 25 (0,0))],a8,a7,[(bs,Obj.cells #[vI o.ah,vS o.af,vL bm o.Data.length bo,vI o.ai,vI o.aI,.bool o.aV,.bool o.aK,.bool o.au,vL (some ⟨d1,c5,none⟩) o.aB.length ad] 25 (0,0))],Y] d6),At (bP prog B 96 f96 R) [] 17 [(0,vP D),(1,vI client),(3,vP I),(8,vL co (s.aA.length) c3),(9,vL a6 cs.length a1),(10,vL Z ns.length ab),(13,vP dd),(14,vP e4),(24,vL (some ⟨d1,c5,none⟩) o.aB.length ad),(25,vI (o.aB.length:Int)),(26,vI i)] d6:=by
     intro m;induction m with
     |zero=>intros;omega
     |succ m md=>
      intro d5 b8 G d6 hm hnm a9
      replace O:=O.mono b8
      replace U:=U.mono b8
      replace b6:=b6.mono b8
      replace bi:=bi.mono b8
      refine At.tree (by kernel_rfl) (aS [e3,e2,a8,a7,Y]) (.mv 0 true (.mv 4 true (.mv 5 true (.mv 1 true (.mv 6 true (.gh 2 7 (.gh 3 7 (.mv 7 false (.mv 8 false (.mv 9 true (.mv 10 true .iU)))) (.mv 3 false (.mv 8 false (.mv 9 true (.mv 10 true .iU))))) (.mv 2 false (.mv 3 false (.mv 8 false (.mv 9 true (.mv 10 true .iU))))))))))) (by kernel_rfl)<|Op.px 3 [(59,vL a6 cs.length a1),(63,vL Z ns.length ab),(64,vP dd)]<|Op.qv (T:=168) (x:=14) (o:=0) (d:=60) (n:=2) (vs:=[vS (cP y client u),.func (.func f109) ar aw]) (by kernel_rfl) (by kernel_rfl) (by kernel_rfl) (a9.fy 0 [2,3,5,6,8] rfl rfl rfl) (a9.ag 0 rfl) (by kernel_rfl) rfl<|Op.lf 9 64 0 65 1 (vS G) (a9.fy 1 [2,3,5,6,8] rfl rfl rfl) (a9.ag 1 rfl)<|Op.fk ?_ ?_
      ·refine Op.ls 61 1 168 #[vS (cP y client u),.func (.func f109) ar aw] a9 fun mf mi d7=>Op.fk ?_ ?_
       ·refine Op.ap 59 61 202 202 62 168 24 vw (ys:=[(⟨cP y client u,(iR u),D⟩:iz)]) O d7 7 (⟨_,_,rfl,(.inr ⟨_,_,_,b6,rfl⟩),Reads.nil⟩) (by(have:=fD o;simp only[bJ,cF];omega)) (fun p hq _=>⟨p,by simp[hq],rfl⟩) (cT.lit (m:=1) (sz:=2) (d7.ag 0 rfl) (news:=[vS (cP y client u),.func (.func f109) ar aw]) rfl rfl (by simp[Value.oneCell']) _) fun ml mp mx fr h7 my=>?_
        obtain⟨h8,n197,rfl⟩:=fr.ak
        refine Op.ls 66 1 9 #[vS G] ((h7).drop) fun m0 m1 ft=>Op.ap 63 66 40 40 67 9 16 cV (ys:=[G]) U ft 6 (⟨_,_,rfl,rfl,Reads.nil⟩) (by(have:=fD o;simp only[bJ,cF];omega)) (fun p hq _=>⟨p,by simp[hq],rfl⟩) (cT.lit (m:=1) (sz:=1) (ft.ag 0 rfl) (news:=[vS G]) rfl rfl (by simp[Value.oneCell']) _) fun m2 m3 m4 fv h9 m5=>?_
        obtain⟨ib,ih,rfl⟩:=fv.ak
        exact Op.pg 18 [(9,vL h8 ((cs++([(⟨cP y client u,(iR u),D⟩:iz)])).length) n197),(10,vL ib ((ns++([G])).length) ih)]<|At.rg 2<|Op.cO 68 (i+1) (by omega) (by(have:=fD o;omega))<|Op.pg 5 [(26,vI (i+1))]<|At.ke (d0 _ (aM.trans am (by repeat (first|assumption|apply aM.trans))) (cM y client u) (cs++([(⟨cP y client u,(iR u),D⟩:iz)])) (ns++([G])) (i+1) _ _ _ _ _ _ _ _ (by omega) (by omega) (by omega) (by(rw[hnm];exact DP hI h0 V ‹_›)) (by exact a3.oU _ _) (by(simp only[b_,bJ,cF];omega)) (by(simp only[b_,bJ,cF];omega)) (by exact DS bt _ _) (by exact DT b3 (by have:=An a3 (c:=client) u;have:=iP (bY V);have:=fD u;omega) _) fr fv bi ((((h9).drop).fs [2,6,6,6,6,6,6] rfl).drop.drop.drop.drop))
       refine Op.ls 66 1 9 #[vS G] d7 fun m6 m7 fw=>Op.ap 59 61 202 202 62 168 24 vw (ys:=[(⟨cP y client u,(iR u),D⟩:iz)]) O fw 8 (⟨_,_,rfl,(.inr ⟨_,_,_,b6,rfl⟩),Reads.nil⟩) (by(have:=fD o;simp only[bJ,cF];omega)) (fun p hq _=>⟨p,by simp[hq],rfl⟩) (cT.lit (m:=1) (sz:=2) (fw.ag 1 rfl) (news:=[vS (cP y client u),.func (.func f109) ar aw]) rfl rfl (by simp[Value.oneCell']) _) fun m8 m9 na fx ii nb=>?_
       obtain⟨a222,ik,rfl⟩:=fx.ak
       have f0:=(ii.fs [1] rfl).drop
       refine Op.ap 63 66 40 40 67 9 16 cV (ys:=[G]) U f0 6 (⟨_,_,rfl,rfl,Reads.nil⟩) (by(have:=fD o;simp only[bJ,cF];omega)) (fun p hq _=>⟨p,by simp[hq],rfl⟩) (cT.lit (m:=1) (sz:=1) (f0.ag 0 rfl) (news:=[vS G]) rfl rfl (by simp[Value.oneCell']) _) fun nd nf nm f1 il nn=>?_
       obtain⟨io,n232,rfl⟩:=f1.ak
       exact Op.pg 18 [(9,vL a222 ((cs++([(⟨cP y client u,(iR u),D⟩:iz)])).length) ik),(10,vL io ((ns++([G])).length) n232)]<|At.rg 2<|Op.cO 68 (i+1) (by omega) (by(have:=fD o;omega))<|Op.pg 5 [(26,vI (i+1))]<|At.ke (d0 _ (aM.trans am (by repeat (first|assumption|apply aM.trans))) (cM y client u) (cs++([(⟨cP y client u,(iR u),D⟩:iz)])) (ns++([G])) (i+1) _ _ _ _ _ _ _ _ (by omega) (by omega) (by omega) (by(rw[hnm];exact DP hI h0 V ‹_›)) (by exact a3.oU _ _) (by(simp only[b_,bJ,cF];omega)) (by(simp only[b_,bJ,cF];omega)) (by exact DS bt _ _) (by exact DT b3 (by have:=An a3 (c:=client) u;have:=iP (bY V);have:=fD u;omega) _) fx f1 bi ((((il).drop).fs [2,6,6,6,6,6,6] rfl).drop.drop.drop.drop))
      refine Op.ls 66 1 9 #[vS G] a9 fun no np ip=>Op.ls 61 1 168 #[vS (cP y client u),.func (.func f109) ar aw] ip fun nu nx f2=>Op.ap 59 61 202 202 62 168 24 vw (ys:=[(⟨cP y client u,(iR u),D⟩:iz)]) O f2 8 (⟨_,_,rfl,(.inr ⟨_,_,_,b6,rfl⟩),Reads.nil⟩) (by(have:=fD o;simp only[bJ,cF];omega)) (fun p hq _=>⟨p,by simp[hq],rfl⟩) (cT.lit (m:=1) (sz:=2) (f2.ag 0 rfl) (news:=[vS (cP y client u),.func (.func f109) ar aw]) rfl rfl (by simp[Value.oneCell']) _) fun nz n0 n3 f3 is oi=>?_
      obtain⟨iv,i0,rfl⟩:=f3.ak
      have f4:=(is).drop
      refine Op.ap 63 66 40 40 67 9 16 cV (ys:=[G]) U f4 6 (⟨_,_,rfl,rfl,Reads.nil⟩) (by(have:=fD o;simp only[bJ,cF];omega)) (fun p hq _=>⟨p,by simp[hq],rfl⟩) (cT.lit (m:=1) (sz:=1) (f4.ag 0 rfl) (news:=[vS G]) rfl rfl (by simp[Value.oneCell']) _) fun oj ol or f5 i1 ow=>?_
      obtain⟨i3,n258,rfl⟩:=f5.ak
      exact Op.pg 18 [(9,vL iv ((cs++([(⟨cP y client u,(iR u),D⟩:iz)])).length) i0),(10,vL i3 ((ns++([G])).length) n258)]<|At.rg 2<|Op.cO 68 (i+1) (by omega) (by(have:=fD o;omega))<|Op.pg 5 [(26,vI (i+1))]<|At.ke (d0 _ (aM.trans am (by repeat (first|assumption|apply aM.trans))) (cM y client u) (cs++([(⟨cP y client u,(iR u),D⟩:iz)])) (ns++([G])) (i+1) _ _ _ _ _ _ _ _ (by omega) (by omega) (by omega) (by(rw[hnm];exact DP hI h0 V ‹_›)) (by exact a3.oU _ _) (by(simp only[b_,bJ,cF];omega)) (by(simp only[b_,bJ,cF];omega)) (by exact DS bt _ _) (by exact DT b3 (by have:=An a3 (c:=client) u;have:=iP (bY V);have:=fD u;omega) _) f3 f5 bi ((((i1).drop).fs [2,6,6,6,6,6,6] rfl).drop.drop.drop.drop))
    refine At.rp 3 1 [(55,vP eQ)]<|Op.l1 3 55 56 0 (vI u.ah) (df.ag 4 rfl)<|Op.pg 15 [(57,.bool (u.ah != 3))]<|At.fn (u.ah=3) 57 16 17 (fun o3=>?_) fun o4=>?_
    ·exact At.rp 2 1 [(58,vP dd)]<|Op.s1 9 58 (.const (vS [])) 0 (vS []) 1 #[vS [],vL db (((bI y client u).Data).length) dc,vI ((bI y client u).ai),vI ((bI y client u).aC),vI ((bI y client u).Next),vI ((bI y client u).aF)] df zt fun o5 i4=>Op.gt 17 (At.ke (fp _ _ (by repeat (first|assumption|exact aM.refl _|apply aM.trans)) [] _ (bG _) (by exact(aL ‹_›).symm) i4))
    exact At.ke (fp _ _ (by repeat (first|assumption|exact aM.refl _|apply aM.trans)) ((bI y client u).af) _ (bG _) (by exact(aY ‹_›).symm) df)
   refine At.rp 5 4 [(70,vL Z ns.length ab),(72,vQ I 9)] ?_
   obtain⟨pa,pb,d8,pc,d9,i5,dg,i6,dj⟩:=a0
   obtain⟨ea,n276,rfl⟩:=dg.ak
   obtain⟨pd,pf,rfl⟩:=i6.ak
   obtain⟨eb,ed,rfl⟩:=dj.ak
   refine Op.s1 40 72 70 9 (vL Z ns.length ab) 0 #[vI x.Code,vI x.aU,vI x.At,vS x.aa.af,vL ea x.aa.Data.length n276,vI x.aa.ai,vI x.aa.aC,vI x.aa.Next,vI x.aa.aF,vL Z ns.length ab,vL eb x.aP.length ed] (St.un [d8,d9] i5 (c4.fs [3,3,3,3,4] rfl)) zt fun ph i7=>Op.gt 20<|At.go 21 3 [(73,vL a6 cs.length a1),(74,vI (cs.length:Int)),(75,vI 0)] ?_
   have i8:∀(m:Nat) (ca:GH) (bb:aM a5 ca) (z:Sp) (q:Int) (cb:az) (ee:ay) (hm:cs.length-q.toNat<m) (h4:0≤q) (h5:q≤cs.length) (f6:dA z) (hz:z=(cs.take q.toNat).foldl qg y) (ef:b9 ca D z cb) (dk:St h g (aS [a4,Y]) ca [[(I,Obj.cells #[vI x.Code,vI x.aU,vI x.At,vS x.aa.af,vL ea x.aa.Data.length n276,vI x.aa.ai,vI x.aa.aC,vI x.aa.Next,vI x.aa.aF,vL Z ns.length ab,vL eb x.aP.length ed] 43 (0,0))],d8,d9,a8,a7,cb,[(bs,Obj.cells #[vI o.ah,vS o.af,vL bm o.Data.length bo,vI o.ai,vI o.aI,.bool o.aV,.bool o.aK,.bool o.au,vL bd o.aB.length ad] 25 (0,0))]] ee),At (bP prog B 96 f96 R) [] 21 [(73,vL a6 cs.length a1),(74,vI (cs.length:Int)),(75,vI q)] ee:=by
    intro m;induction m with
    |zero=>intros;omega
    |succ m i9=>
     intro ca bb z q cb ee hm h4 h5 f6 hz ef dk
     replace dg:=dg.mono bb
     replace dj:=dj.mono bb
     replace O:=O.mono bb
     replace U:=U.mono bb
     replace J:=J.mono bb
     refine At.go 22 1 [(76,.bool (decide (q<(cs.length:Int))))]<|At.fd (q<(cs.length:Int)) 76 23 26 (fun pj=>?_) fun pl=>?_
     ·refine At.rg 4 ?_
      obtain⟨X,dl⟩:=bW cs q
      obtain⟨jf,f7,pm,po,jj,js,eh⟩:=h_.bB (O.toH dk 4 rfl) _ dl
      cases jj
      refine Op.iq 202 168 2 24 cs.length a1 73 75 77 jf f7 q ?_
      have f8:X.fH≠0∧X.bB=D:=by exact bt X (bY dl)
      obtain⟨f303,bj,bk,ej,eh⟩:=RA f8.1 eh
      rw[f8.2] at ej
      refine Op.la 168 77 78 (f7+q.toNat*2) 2 [vS X.ec,.func (.func f303) bj bk] js ?_ (hv:=eh)
      refine Op.al 17 168 lC dk fun em pu jt=>Op.sg 168 17 78 0 0 #[vS X.ec,.func (.func f303) bj bk] jt zt fun pv en=>Op.gt 24<|At.rp 5 1 [(79,vQ em 1)]<|Op.l1 162 79 80 1 (.func (.func f303) bj bk) (en.ag 0 rfl) ?_
      refine Op.px 1 [(81,vP em)]<|Op.l1 9 81 82 0 (vS X.ec) (en.ag 0 rfl) ?_
      have ep:=en.fs [5,5,5,5,5,5,6] rfl
      refine Op.cv (some 83) 80 #[82] #[9] f303 bj bk [cb] [[(em,Obj.cells #[vS X.ec,.func (.func f303) bj bk] 168 (0,0))],[(I,Obj.cells #[vI x.Code,vI x.aU,vI x.At,vS x.aa.af,vL ea x.aa.Data.length n276,vI x.aa.ai,vI x.aa.aC,vI x.aa.Next,vI x.aa.aF,vL Z ns.length ab,vL eb x.aP.length ed] 43 (0,0))],d8,d9,a8,a7,[(bs,Obj.cells #[vI o.ah,vS o.af,vL bm o.Data.length bo,vI o.ai,vI o.aI,.bool o.aV,.bool o.aK,.bool o.au,vL bd o.aB.length ad] 25 (0,0))]] (bj++(#[vS X.ec]:Array Value)++bk) ej.JY (JZ (by kernel_rfl)) ep (J0 _ _ _ ep.sub J (hc:=ej) D z _ ef X.ec (by(try dsimp only)<;>omega) (by((try dsimp only)<;>(exact b3 _ (bY dl)))) (St.pt 1 ep)) (fun _ _ _=>trivial) ?_
      rintro _ pw _ py pA j1 ⟨pB,rfl,j2,rfl⟩
      exact Op.gt 25<|At.rg 2<|Op.cO 84 (q+1) (by omega) (by(have:=fD o;omega))<|Op.pg 21 [(75,vI (q+1))]<|At.ke (i9 _ (aM.trans bb (by repeat (first|assumption|apply aM.trans))) (nK z X.fH X.ec) (q+1) _ _ (by omega) (by omega) (by omega) (by exact f6.Al _ _) (by exact RL hz h4 dl) j2 ((j1.fs [6,6,6,6,6,6] rfl).drop))
     obtain⟨kc,kd,kh⟩:=St.bF (Q:=eG ca I (⟨x.Code,x.aU,x.At,⟨x.aa.af,x.aa.Data,x.aa.ai,x.aa.aC,x.aa.Next,x.aa.aF⟩,ns,x.aP⟩:Result)) 3 (dk.fs [1,2,3,3] rfl) ⟨_,_,_,_,_,rfl,dg,U,dj⟩
     exact At.rt eY<|hR (kh.fs [3,4,4,4] rfl).drop.drop.drop ⟨cb,kc,rfl,ef.eq (by exact RH hI h0 h1 ‹_› hz ‹_›),kd.eq (by exact RI hI h0 h1 ‹_›),rfl⟩
   exact At.ke (i8 _ _ (aM.refl _) y 0 _ _ (bG _) (by omega) (by omega) (by exact a3) (by rfl) dT i7)
 have kk:=aH.zero 168 vw ck none
 have kl:=aH.zero 9 cV ck none
 exact At.ke (ha _ _ (aM.refl _) s [] [] 0 _ _ _ _ _ _ _ _ (bG _) (by omega) (by omega) (by exact RD) (by exact ce) (by(have:=fD o;simp only[bJ,cF];omega)) (by(have:=fD o;simp only[bJ,cF];omega)) (by exact fun c h=>absurd h (by simp)) (by exact fun c h=>absurd h (by simp)) kk kl g8 g9.nl.nl)
theorem SE (B:World) (h:ay) (g:GH) (hg:bu g h) (O:bz g) (D:Nat) (s:Sp) (a1:az) (bi:b9 g D s a1) (client:Int) (dv:Value) (b:aj) (dC:an g 5 a_ dv b) (u:Nat) (x:Result) (a5:az) (bj:eG g u x a5) (hP:l_ g) (a6:dA s) (hl:b.length≤1000000000) (hs:St h g (aS [a1,a5]) g [a1,a5] h):
  aG prog B 74 #[vP D,vI client,dv,vP u] h g [a1,a5] (fun em g' L'=>∃dE dT,em=.tuple #[]∧b9 g' D (dH s client b) dE∧eG g' u (cB s client b x) dT∧L'=[dE,dT]):=by
 obtain⟨en,ep,rfl⟩:=dC.ak
 refine aG.aq func74 fun R hR=>At.rp 8 1 [(14,vL en b.length ep)]<|Op.c0 (some 15) (DD _ _ _ hs.sub O _ _ dC (by(try dsimp only)<;>omega)) hs ?_
 rintro _ J _ jf bm er ⟨jj,js,rfl,bo,bs,rfl⟩
 obtain⟨Y,Z,rfl⟩:=bo.ak
 obtain⟨a28,ab,rfl⟩:=bs.ak
 replace O:=O.mono bm
 replace hP:=hP.mono bm
 replace bi:=bi.mono bm
 replace bj:=bj.mono bm
 refine Op.px 3 [(16,.agg #[vI (((aD b).1).ah),vS (((aD b).1).af),vL Y ((((aD b).1).Data).length) Z,vI (((aD b).1).ai),vI (((aD b).1).aI),.bool (((aD b).1).aV),.bool (((aD b).1).aK),.bool (((aD b).1).au),vL a28 ((((aD b).1).aB).length) ab]),(17,vI ((aD b).2))]<|Op.al 8 25 fE er fun ad jt et=>Op.sg 25 8 16 0 0 #[vI (((aD b).1).ah),vS (((aD b).1).af),vL Y ((((aD b).1).Data).length) Z,vI (((aD b).1).ai),vI (((aD b).1).aI),.bool (((aD b).1).aV),.bool (((aD b).1).aK),.bool (((aD b).1).au),vL a28 ((((aD b).1).aB).length) ab] et zt fun j1 bt=>Op.pg 1 [(9,vI ((aD b).2))]<|At.go 2 3 [(18,.bool (((aD b).2) != 0))] ?_
 refine At.fn (((aD b).2)=0) 18 3 5 (fun j2=>?_) fun kc=>?_
 ·refine At.rp 5 4 [(22,vI ((aD b).2)),(24,vP u)] ?_
  obtain⟨kd,kh,ex,kk,eA,eB,d0,d1,d2⟩:=bj
  obtain⟨eI,eJ,rfl⟩:=d0.ak
  obtain⟨eK,eL,rfl⟩:=d1.ak
  obtain⟨eQ,e1,rfl⟩:=d2.ak
  refine Op.s1 29 24 22 0 (vI ((aD b).2)) 0 #[vI ((aD b).2),vI x.aU,vI x.At,vS x.aa.af,vL eI x.aa.Data.length eJ,vI x.aa.ai,vI x.aa.aC,vI x.aa.Next,vI x.aa.aF,vL eK x.aX.length eL,vL eQ x.aP.length e1] (St.un [ex,eA] eB (bt.fs [1,1,2] rfl)) zt fun kl e2=>Op.gt 4 ?_
  obtain⟨e3,e4,e5⟩:=St.bF (Q:=eG J u (⟨(aD b).2,x.aU,x.At,⟨x.aa.af,x.aa.Data,x.aa.ai,x.aa.aC,x.aa.Next,x.aa.aF⟩,x.aX,x.aP⟩:Result)) 3 e2 ⟨_,_,_,_,_,rfl,d0,d1,d2⟩
  exact At.rt eY<|hR (e5.fs [2,2] rfl).drop ⟨a1,e3,rfl,bi.eq (by exact(J8 (x:=x) ‹_›).1),e4.eq (by exact(J8 (x:=x) ‹_›).2),rfl⟩
 refine At.rp 4 1 [(26,vP ad)]<|Op.l1 3 26 27 0 (vI (((aD b).1).ah)) (bt.ag 0 rfl)<|Op.pg 6 [(25,.bool ((((aD b).1).ah)==1))]<|At.fd ((((aD b).1).ah)=1) 25 7 9 (fun km=>?_) fun kv=>?_
 ·obtain⟨kw,e6,kx,e7,d3,e8,kA,e9,k0,fa,fg,fi,fj,fl,fp,fr⟩:=bi
  obtain⟨k1,k2,ft,k3,fv,fw,d4,d5,d6⟩:=bj
  obtain⟨fx,f0,rfl⟩:=d4.ak
  obtain⟨f1,f2,rfl⟩:=d5.ak
  obtain⟨f3,f4,rfl⟩:=d6.ak
  have b3:=St.un [ft,fv] fw ((St.un [e6,e7,e8,e9,fa] fg (bt.fs [1] rfl)).fs [6,6,6,6,6,6,6,7] rfl)
  refine At.dw (fun _=>False) [(0,true),(1,true),(2,true),(3,true),(5,true),(6,true),(8,true),(9,true),(10,true),(4,true),(7,true),(11,false),(1012,false),(12,false),(13,true),(14,true),(15,false)]<|Op.px 9 [(29,vP u),(32,vQ D 2),(34,vI client),(35,vQ ad 4),(39,vQ D 3)]<|Op.lf 95 32 2 33 1 (vP d3) id (b3.ag 3 rfl)<|Op.lf 3 35 4 36 1 (vI (((aD b).1).aI)) id (b3.ag 9 rfl)<|Op.l1 3 39 40 3 (vI s.aE) (b3.ag 3 rfl) ?_
  refine Op.ba ?_
  have ch:=b3.fs [5,5,5,5,5,5,6] rfl
  refine Op.cl (some 41) 1 ch (PV _ _ _ ch.sub O d3 s.aN _ fl client (((aD b).1).aI) s.aE (St.pt 1 ch)) ?_
  rintro _ f5 _ k4 f6 f7 ⟨k5,rfl,f8,f9,rfl⟩;subst f5;clear f6
  refine Op.px 2 [(43,vP u)]<|Op.s1 29 43 41 0 (vI (jO s.aN client ((aD b).1).aI s.aE)) 1 #[vI (jO s.aN client ((aD b).1).aI s.aE),vI x.aU,vI x.At,vS x.aa.af,vL fx x.aa.Data.length f0,vI x.aa.ai,vI x.aa.aC,vI x.aa.Next,vI x.aa.aF,vL f1 x.aX.length f2,vL f3 x.aP.length f4] f7 zt fun k6 gc=>Op.gt 4 ?_
  obtain⟨ge,gg,gk⟩:=St.bF (Q:=b9 J D (⟨s.aA,s.aQ,(mU s.aN client ((aD b).1).aI s.aE),s.aE,s.count,s.events,s.aW⟩:Sp)) 6 (gc.fs [3,3,3,8,8,5,8,8,8] rfl) ⟨_,_,_,_,_,_,_,_,_,_,rfl,fi,fj,f8,fp,fr⟩
  obtain⟨gn,gs,g1⟩:=St.bF (Q:=eG J u (⟨jO s.aN client ((aD b).1).aI s.aE,x.aU,x.At,⟨x.aa.af,x.aa.Data,x.aa.ai,x.aa.aC,x.aa.Next,x.aa.aF⟩,x.aX,x.aP⟩:Result)) 3 (gk.fs [3,3,3] rfl) ⟨_,_,_,_,_,rfl,d4,d5,d6⟩
  exact At.rt eY<|hR (g1.fs [1,2] rfl).drop ⟨ge,gn,rfl,gg.eq (by exact(J9 (x:=x) ‹_› ‹_›).1),gs.eq (by exact(J9 (x:=x) ‹_› ‹_›).2),rfl⟩
 obtain⟨d7,ci,d8,ck,b4,g2,d9,co,ea,c3,g3,ae,am,g4,ar,aw⟩:=bi
 obtain⟨k7,k8,b5,v138,b6,g5,U,G,I⟩:=bj
 obtain⟨b8,ca,rfl⟩:=U.ak
 obtain⟨a146,a7,rfl⟩:=G.ak
 obtain⟨a148,a8,rfl⟩:=I.ak
 have c4:=St.un [b5,b6] g5 ((St.un [ci,ck,g2,co,c3] g3 (bt.fs [1] rfl)).fs [6,6,6,6,6,6,6,7] rfl)
 refine At.dw (fun _=>False) [(0,true),(1,true),(2,true),(3,true),(5,true),(6,true),(7,true),(8,true),(4,true),(9,false),(1010,false),(10,false),(11,true),(12,true),(13,false)]<|Op.px 8 [(44,vP u),(47,vQ D 2),(49,vI client),(52,vQ D 3)]<|Op.lf 95 47 2 48 1 (vP b4) id (c4.ag 3 rfl)<|Op.l1 3 52 53 3 (vI s.aE) (c4.ag 3 rfl)<|Op.ba ?_
 have c5:=c4.fs [5,5,5,5,5,5,6] rfl
 refine Op.cl (some 54) 1 c5 (touchF _ _ _ c5.sub O b4 s.aN _ g4 client s.aE (St.pt 1 c5)) ?_
 rintro _ g6 _ lb g7 g8 ⟨eb,rfl,a0,f9,rfl⟩;subst g6;clear g7
 refine Op.px 2 [(56,vP u)]<|Op.s1 29 56 54 0 (vI (touchE s.aN client s.aE)) 1 #[vI (touchE s.aN client s.aE),vI x.aU,vI x.At,vS x.aa.af,vL b8 x.aa.Data.length ca,vI x.aa.ai,vI x.aa.aC,vI x.aa.Next,vI x.aa.aF,vL a146 x.aX.length a7,vL a148 x.aP.length a8] g8 zt fun lc a3=>Op.gt 10<|At.rp 5 3 [(59,vP u)]<|Op.l1 29 59 60 0 (vI (touchE s.aN client s.aE)) (a3.ag 1 rfl) ?_
 refine Op.pg 11 [(61,.bool ((touchE s.aN client s.aE) != 0))]<|At.fn ((touchE s.aN client s.aE)=0) 61 12 13 (fun lh=>?_) fun li=>?_
 ·obtain⟨g9,ha,hb⟩:=St.bF (Q:=b9 J D (⟨s.aA,s.aQ,(touchB s.aN client s.aE),s.aE,s.count,s.events,s.aW⟩:Sp)) 6 (a3.fs [3,3,3,8,8,5,8,8,8] rfl) ⟨_,_,_,_,_,_,_,_,_,_,rfl,ae,am,a0,ar,aw⟩
  obtain⟨he,hf,hh⟩:=St.bF (Q:=eG J u (⟨touchE s.aN client s.aE,x.aU,x.At,⟨x.aa.af,x.aa.Data,x.aa.ai,x.aa.aC,x.aa.Next,x.aa.aF⟩,x.aX,x.aP⟩:Result)) 3 (hb.fs [3,3,3] rfl) ⟨_,_,_,_,_,rfl,U,G,I⟩
  exact At.rt eY<|hR (hh.fs [1,2] rfl).drop ⟨g9,he,rfl,ha.eq (by exact(J_ (x:=x) ‹_› ‹_› ‹_›).1),hf.eq (by exact(J_ (x:=x) ‹_› ‹_› ‹_›).2),rfl⟩
 refine At.rp 2 1 [(62,vP ad)]<|Op.l1 3 62 63 0 (vI (((aD b).1).ah)) (a3.ag 9 rfl)<|Op.gt 14<|At.go 15 2 [(64,.bool ((((aD b).1).ah)==2))]<|At.fd ((((aD b).1).ah)=2) 64 16 17 (fun lj=>?_) fun lk=>?_
 ·refine At.rp 4 2 [(66,vP D),(67,vI client)]<|Op.ls 68 1 3 #[vI client] a3 fun ed ll hj=>?_
  have hn:aH 3 (dK .i64) J (vL (some ⟨ed,0,none⟩) 1 1) [client] [(ed,Obj.cells #[vI client] 3 (0,0))]:=aH.lit (by kernel_rfl) (by unfold maxLen;decide) (by kernel_rfl) ⟨_,_,rfl,rfl,Reads.nil⟩
  obtain⟨ho,hp,X,hq⟩:=aH.freeze hn (hj)
  replace ae:=ae.mono X
  replace am:=am.mono X
  replace ar:=ar.mono X
  replace aw:=aw.mono X
  replace U:=U.mono X
  replace G:=G.mono X
  replace I:=I.mono X
  replace O:=O.mono X
  replace a0:=a0.mono X
  obtain⟨lm,hr,c6⟩:=St.bF (Q:=b9 ho D (⟨s.aA,s.aQ,(touchB s.aN client s.aE),s.aE,s.count,s.events,s.aW⟩:Sp)) 6 (hp.fs [3,3,3,8,8,5,8,8,8] rfl) ⟨_,_,_,_,_,_,_,_,_,_,rfl,ae,am,a0,ar,aw⟩
  refine Op.cl (some 69) 1 c6 (JX _ _ _ c6.sub O D (⟨s.aA,s.aQ,(touchB s.aN client s.aE),s.aE,s.count,s.events,s.aW⟩:Sp) _ hr _ _ hq (by(try dsimp only)<;>exact a6.touch1) (by((try dsimp only)<;>((simp;done)))) (St.pt 1 c6)) ?_
  rintro _ hu _ ln c8 hw ⟨hx,rfl,hy,rfl⟩
  replace U:=U.mono c8
  replace G:=G.mono c8
  replace I:=I.mono c8
  refine Op.gt 37 ?_
  obtain⟨hz,hA,hB⟩:=St.bF (Q:=eG hu u (⟨touchE s.aN client s.aE,x.aU,x.At,⟨x.aa.af,x.aa.Data,x.aa.ai,x.aa.aC,x.aa.Next,x.aa.aF⟩,x.aX,x.aP⟩:Result)) 3 (hw.fs [3,3,3] rfl) ⟨_,_,_,_,_,rfl,U,G,I⟩
  exact At.rt eY<|hR (hB.fs [1,2] rfl).drop ⟨hx,hz,rfl,hy.eq (by exact(Ka (x:=x) ‹_› ‹_› ‹_› ‹_›).1),hA.eq (by exact(Ka (x:=x) ‹_› ‹_› ‹_› ‹_›).2),rfl⟩
 have c9:∀(m:Nat) (ka:Bool) (da:ay) (hm:0<m) (V:ka=ki (aD b).1) (bk:St h g (aS [a1,a5]) J [eb,[(u,Obj.cells #[vI (touchE s.aN client s.aE),vI x.aU,vI x.At,vS x.aa.af,vL b8 x.aa.Data.length ca,vI x.aa.ai,vI x.aa.aC,vI x.aa.Next,vI x.aa.aF,vL a146 x.aX.length a7,vL a148 x.aP.length a8] 43 (0,0))],b5,b6,[(D,Obj.cells #[vP d7,vP d8,vP b4,vI s.aE,vI s.count,.map (some d9),.map (some ea)] 100 (0,0))],ci,ck,co,c3,[(ad,Obj.cells #[vI (((aD b).1).ah),vS (((aD b).1).af),vL Y ((((aD b).1).Data).length) Z,vI (((aD b).1).ai),vI (((aD b).1).aI),.bool (((aD b).1).aV),.bool (((aD b).1).aK),.bool (((aD b).1).au),vL a28 ((((aD b).1).aB).length) ab] 25 (0,0))]] da),At (bP prog B 74 f74 R) [] 22 [(0,vP D),(1,vI client),(3,vP u),(8,vP ad),(63,vI (((aD b).1).ah)),(70,.bool ka)] da:=by
  intro m;induction m with
  |zero=>intros;omega
  |succ m lr=>
   intro ka da hm V bk
   refine At.cW ka 70 23 29 (fun lv=>?_) fun lw=>?_
   ·refine At.rp 13 2 [(75,vP D),(76,vI client)]<|Op.la 25 8 77 0 9 [vI (((aD b).1).ah),vS (((aD b).1).af),vL Y ((((aD b).1).Data).length) Z,vI (((aD b).1).ai),vI (((aD b).1).aI),.bool (((aD b).1).aV),.bool (((aD b).1).aK),.bool (((aD b).1).au),vL a28 ((((aD b).1).aB).length) ab] (bk.ag 9 rfl) ?_
    obtain⟨lx,hC,db⟩:=St.bF (Q:=b9 J D (⟨s.aA,s.aQ,(touchB s.aN client s.aE),s.aE,s.count,s.events,s.aW⟩:Sp)) 6 (bk.fs [3,3,3,8,8,5,8,8,8] rfl) ⟨_,_,_,_,_,_,_,_,_,_,rfl,ae,am,a0,ar,aw⟩
    refine Op.cl (some 78) 1 db (KJ _ _ _ db.sub O D (⟨s.aA,s.aQ,(touchB s.aN client s.aE),s.aE,s.count,s.events,s.aW⟩:Sp) _ hC client ((aD b).1) _ bo _ bs hP (by(try dsimp only)<;>exact a6.touch1) (by((try dsimp only)<;>((have:=xN b;have:=fD (aD b).1;omega)))) (by((try dsimp only)<;>((have:=xN b;have:=fD (aD b).1;omega)))) (St.pt 1 db)) ?_
    rintro _ hD _ ly cb hE ⟨lA,hF,lL,f213,a9,bb,ee,rfl,ce,rfl,ef,eh,rfl⟩
    obtain⟨bc,bd,rfl⟩:=ce.ak
    replace U:=U.mono cb
    replace G:=G.mono cb
    replace I:=I.mono cb
    replace O:=O.mono cb
    refine Op.px 4 [(79,.agg #[vS ((bI (⟨s.aA,s.aQ,(touchB s.aN client s.aE),s.aE,s.count,s.events,s.aW⟩:Sp) client ((aD b).1)).af),vL bc (((bI (⟨s.aA,s.aQ,(touchB s.aN client s.aE),s.aE,s.count,s.events,s.aW⟩:Sp) client ((aD b).1)).Data).length) bd,vI ((bI (⟨s.aA,s.aQ,(touchB s.aN client s.aE),s.aE,s.count,s.events,s.aW⟩:Sp) client ((aD b).1)).ai),vI ((bI (⟨s.aA,s.aQ,(touchB s.aN client s.aE),s.aE,s.count,s.events,s.aW⟩:Sp) client ((aD b).1)).aC),vI ((bI (⟨s.aA,s.aQ,(touchB s.aN client s.aE),s.aE,s.count,s.events,s.aW⟩:Sp) client ((aD b).1)).Next),vI ((bI (⟨s.aA,s.aQ,(touchB s.aN client s.aE),s.aE,s.count,s.events,s.aW⟩:Sp) client ((aD b).1)).aF)]),(80,.agg #[vS (cP (⟨s.aA,s.aQ,(touchB s.aN client s.aE),s.aE,s.count,s.events,s.aW⟩:Sp) client ((aD b).1)),.func (.func f213) a9 bb]),(81,vI (cu (⟨s.aA,s.aQ,(touchB s.aN client s.aE),s.aE,s.count,s.events,s.aW⟩:Sp) client ((aD b).1)))]<|Op.al 10 39 qQ hE fun hG lO hH=>Op.al 11 168 lC hH fun dc l0 hI=>Op.sg 39 10 79 0 1 #[vS ((bI (⟨s.aA,s.aQ,(touchB s.aN client s.aE),s.aE,s.count,s.events,s.aW⟩:Sp) client ((aD b).1)).af),vL bc (((bI (⟨s.aA,s.aQ,(touchB s.aN client s.aE),s.aE,s.count,s.events,s.aW⟩:Sp) client ((aD b).1)).Data).length) bd,vI ((bI (⟨s.aA,s.aQ,(touchB s.aN client s.aE),s.aE,s.count,s.events,s.aW⟩:Sp) client ((aD b).1)).ai),vI ((bI (⟨s.aA,s.aQ,(touchB s.aN client s.aE),s.aE,s.count,s.events,s.aW⟩:Sp) client ((aD b).1)).aC),vI ((bI (⟨s.aA,s.aQ,(touchB s.aN client s.aE),s.aE,s.count,s.events,s.aW⟩:Sp) client ((aD b).1)).Next),vI ((bI (⟨s.aA,s.aQ,(touchB s.aN client s.aE),s.aE,s.count,s.events,s.aW⟩:Sp) client ((aD b).1)).aF)] hI zt fun l2 hJ=>Op.sg 168 11 80 0 0 #[vS (cP (⟨s.aA,s.aQ,(touchB s.aN client s.aE),s.aE,s.count,s.events,s.aW⟩:Sp) client ((aD b).1)),.func (.func f213) a9 bb] hJ zt fun l3 hK=>?_
    refine Op.pg 24 [(12,vI (cu (⟨s.aA,s.aQ,(touchB s.aN client s.aE),s.aE,s.count,s.events,s.aW⟩:Sp) client ((aD b).1)))]<|At.rp 5 4 [(83,vI (cu (⟨s.aA,s.aQ,(touchB s.aN client s.aE),s.aE,s.count,s.events,s.aW⟩:Sp) client ((aD b).1))),(85,vP u)]<|Op.s1 29 85 83 0 (vI (cu (⟨s.aA,s.aQ,(touchB s.aN client s.aE),s.aE,s.count,s.events,s.aW⟩:Sp) client ((aD b).1))) 4 #[vI (cu (⟨s.aA,s.aQ,(touchB s.aN client s.aE),s.aE,s.count,s.events,s.aW⟩:Sp) client ((aD b).1)),vI x.aU,vI x.At,vS x.aa.af,vL b8 x.aa.Data.length ca,vI x.aa.ai,vI x.aa.aC,vI x.aa.Next,vI x.aa.aF,vL a146 x.aX.length a7,vL a148 x.aP.length a8] hK zt fun l4 dd=>Op.gt 25<|At.go 26 2 [(87,.bool ((cu (⟨s.aA,s.aQ,(touchB s.aN client s.aE),s.aE,s.count,s.events,s.aW⟩:Sp) client ((aD b).1))==0))] ?_
    refine At.fd ((cu (⟨s.aA,s.aQ,(touchB s.aN client s.aE),s.aE,s.count,s.events,s.aW⟩:Sp) client ((aD b).1))=0) 87 27 37 (fun l8=>?_) fun ma=>?_
    ·refine At.rp 5 1 [(88,vP u)]<|Op.la 39 10 89 0 6 [vS ((bI (⟨s.aA,s.aQ,(touchB s.aN client s.aE),s.aE,s.count,s.events,s.aW⟩:Sp) client ((aD b).1)).af),vL bc (((bI (⟨s.aA,s.aQ,(touchB s.aN client s.aE),s.aE,s.count,s.events,s.aW⟩:Sp) client ((aD b).1)).Data).length) bd,vI ((bI (⟨s.aA,s.aQ,(touchB s.aN client s.aE),s.aE,s.count,s.events,s.aW⟩:Sp) client ((aD b).1)).ai),vI ((bI (⟨s.aA,s.aQ,(touchB s.aN client s.aE),s.aE,s.count,s.events,s.aW⟩:Sp) client ((aD b).1)).aC),vI ((bI (⟨s.aA,s.aQ,(touchB s.aN client s.aE),s.aE,s.count,s.events,s.aW⟩:Sp) client ((aD b).1)).Next),vI ((bI (⟨s.aA,s.aQ,(touchB s.aN client s.aE),s.aE,s.count,s.events,s.aW⟩:Sp) client ((aD b).1)).aF)] (dd.ag 1 rfl)<|Op.px 2 [(91,vQ u 3)]<|Op.sg 39 91 89 3 4 #[vI (cu (⟨s.aA,s.aQ,(touchB s.aN client s.aE),s.aE,s.count,s.events,s.aW⟩:Sp) client ((aD b).1)),vI x.aU,vI x.At,vS ((bI (⟨s.aA,s.aQ,(touchB s.aN client s.aE),s.aE,s.count,s.events,s.aW⟩:Sp) client ((aD b).1)).af),vL bc (((bI (⟨s.aA,s.aQ,(touchB s.aN client s.aE),s.aE,s.count,s.events,s.aW⟩:Sp) client ((aD b).1)).Data).length) bd,vI ((bI (⟨s.aA,s.aQ,(touchB s.aN client s.aE),s.aE,s.count,s.events,s.aW⟩:Sp) client ((aD b).1)).ai),vI ((bI (⟨s.aA,s.aQ,(touchB s.aN client s.aE),s.aE,s.count,s.events,s.aW⟩:Sp) client ((aD b).1)).aC),vI ((bI (⟨s.aA,s.aQ,(touchB s.aN client s.aE),s.aE,s.count,s.events,s.aW⟩:Sp) client ((aD b).1)).Next),vI ((bI (⟨s.aA,s.aQ,(touchB s.aN client s.aE),s.aE,s.count,s.events,s.aW⟩:Sp) client ((aD b).1)).aF),vL a146 x.aX.length a7,vL a148 x.aP.length a8] dd zt fun md df=>Op.gt 28 ?_
     refine At.rp 5 1 [(92,vQ dc 1)]<|Op.l1 162 92 93 1 (.func (.func f213) a9 bb) (df.ag 0 rfl)<|Op.px 1 [(94,vP dc)]<|Op.l1 9 94 95 0 (vS (cP (⟨s.aA,s.aQ,(touchB s.aN client s.aE),s.aE,s.count,s.events,s.aW⟩:Sp) client ((aD b).1))) (df.ag 0 rfl) ?_
     have dg:=df.fs [1,1,2] rfl
     refine Op.cv (some 96) 93 #[95] #[9] f213 a9 bb [ee] [[(dc,Obj.cells #[vS (cP (⟨s.aA,s.aQ,(touchB s.aN client s.aE),s.aE,s.count,s.events,s.aW⟩:Sp) client ((aD b).1)),.func (.func f213) a9 bb] 168 (0,0))],[(hG,Obj.cells #[vS ((bI (⟨s.aA,s.aQ,(touchB s.aN client s.aE),s.aE,s.count,s.events,s.aW⟩:Sp) client ((aD b).1)).af),vL bc (((bI (⟨s.aA,s.aQ,(touchB s.aN client s.aE),s.aE,s.count,s.events,s.aW⟩:Sp) client ((aD b).1)).Data).length) bd,vI ((bI (⟨s.aA,s.aQ,(touchB s.aN client s.aE),s.aE,s.count,s.events,s.aW⟩:Sp) client ((aD b).1)).ai),vI ((bI (⟨s.aA,s.aQ,(touchB s.aN client s.aE),s.aE,s.count,s.events,s.aW⟩:Sp) client ((aD b).1)).aC),vI ((bI (⟨s.aA,s.aQ,(touchB s.aN client s.aE),s.aE,s.count,s.events,s.aW⟩:Sp) client ((aD b).1)).Next),vI ((bI (⟨s.aA,s.aQ,(touchB s.aN client s.aE),s.aE,s.count,s.events,s.aW⟩:Sp) client ((aD b).1)).aF)] 39 (0,0))],hF,[(u,Obj.cells #[vI (cu (⟨s.aA,s.aQ,(touchB s.aN client s.aE),s.aE,s.count,s.events,s.aW⟩:Sp) client ((aD b).1)),vI x.aU,vI x.At,vS ((bI (⟨s.aA,s.aQ,(touchB s.aN client s.aE),s.aE,s.count,s.events,s.aW⟩:Sp) client ((aD b).1)).af),vL bc (((bI (⟨s.aA,s.aQ,(touchB s.aN client s.aE),s.aE,s.count,s.events,s.aW⟩:Sp) client ((aD b).1)).Data).length) bd,vI ((bI (⟨s.aA,s.aQ,(touchB s.aN client s.aE),s.aE,s.count,s.events,s.aW⟩:Sp) client ((aD b).1)).ai),vI ((bI (⟨s.aA,s.aQ,(touchB s.aN client s.aE),s.aE,s.count,s.events,s.aW⟩:Sp) client ((aD b).1)).aC),vI ((bI (⟨s.aA,s.aQ,(touchB s.aN client s.aE),s.aE,s.count,s.events,s.aW⟩:Sp) client ((aD b).1)).Next),vI ((bI (⟨s.aA,s.aQ,(touchB s.aN client s.aE),s.aE,s.count,s.events,s.aW⟩:Sp) client ((aD b).1)).aF),vL a146 x.aX.length a7,vL a148 x.aP.length a8] 43 (0,0))],b5,b6,[(ad,Obj.cells #[vI (((aD b).1).ah),vS (((aD b).1).af),vL Y ((((aD b).1).Data).length) Z,vI (((aD b).1).ai),vI (((aD b).1).aI),.bool (((aD b).1).aV),.bool (((aD b).1).aK),.bool (((aD b).1).au),vL a28 ((((aD b).1).aB).length) ab] 25 (0,0))]] (a9++(#[vS (cP (⟨s.aA,s.aQ,(touchB s.aN client s.aE),s.aE,s.count,s.events,s.aW⟩:Sp) client ((aD b).1))]:Array Value)++bb) ef.JY (JZ (by kernel_rfl)) dg (J0 _ _ _ dg.sub O (hc:=ef) D (cM (⟨s.aA,s.aQ,(touchB s.aN client s.aE),s.aE,s.count,s.events,s.aW⟩:Sp) client ((aD b).1)) _ eh (cP (⟨s.aA,s.aQ,(touchB s.aN client s.aE),s.aE,s.count,s.events,s.aW⟩:Sp) client ((aD b).1)) (by(try dsimp only)<;>exact a6.touch1.oU _ _) (by((try dsimp only)<;>(exact cH (An (a6.touch1 (c:=client)) (c:=client) (aD b).1) (by have:=xN b;have:=fD (aD b).1;omega)))) (St.pt 1 dg)) (fun _ _ _=>trivial) ?_
     rintro _ mf _ mi dj hL ⟨hN,rfl,dk,rfl⟩
     replace G:=G.mono dj
     replace I:=I.mono dj
     replace ce:=ce.mono dj
     refine Op.gt 37 ?_
     obtain⟨hO,hQ,dl,hS⟩:=aH.freeze ce (hL.fs [3] rfl)
     replace G:=G.mono dl
     replace I:=I.mono dl
     replace dk:=dk.mono dl
     obtain⟨hT,hV,hW⟩:=St.bF (Q:=eG hO u (⟨cu (⟨s.aA,s.aQ,(touchB s.aN client s.aE),s.aE,s.count,s.events,s.aW⟩:Sp) client ((aD b).1),x.aU,x.At,⟨(bI (⟨s.aA,s.aQ,(touchB s.aN client s.aE),s.aE,s.count,s.events,s.aW⟩:Sp) client ((aD b).1)).af,(bI (⟨s.aA,s.aQ,(touchB s.aN client s.aE),s.aE,s.count,s.events,s.aW⟩:Sp) client ((aD b).1)).Data,(bI (⟨s.aA,s.aQ,(touchB s.aN client s.aE),s.aE,s.count,s.events,s.aW⟩:Sp) client ((aD b).1)).ai,(bI (⟨s.aA,s.aQ,(touchB s.aN client s.aE),s.aE,s.count,s.events,s.aW⟩:Sp) client ((aD b).1)).aC,(bI (⟨s.aA,s.aQ,(touchB s.aN client s.aE),s.aE,s.count,s.events,s.aW⟩:Sp) client ((aD b).1)).Next,(bI (⟨s.aA,s.aQ,(touchB s.aN client s.aE),s.aE,s.count,s.events,s.aW⟩:Sp) client ((aD b).1)).aF⟩,x.aX,x.aP⟩:Result)) 3 (hQ.fs [2,2,2,5,5,5] rfl) ⟨_,_,_,_,_,rfl,hS,G,I⟩
     exact At.rt eY<|hR (hW.fs [1,4,4,4] rfl).drop.drop.drop ⟨hN,hT,rfl,dk.eq (by exact(Kb (x:=x) ‹_› ‹_› ‹_› ‹_› V ‹_› ‹_›).1),hV.eq (by exact(Kb (x:=x) ‹_› ‹_› ‹_› ‹_› V ‹_› ‹_›).2),rfl⟩
    obtain⟨hX,hY,hZ⟩:=St.bF (Q:=eG hD u (⟨cu (⟨s.aA,s.aQ,(touchB s.aN client s.aE),s.aE,s.count,s.events,s.aW⟩:Sp) client ((aD b).1),x.aU,x.At,⟨x.aa.af,x.aa.Data,x.aa.ai,x.aa.aC,x.aa.Next,x.aa.aF⟩,x.aX,x.aP⟩:Result)) 3 (dd.fs [3,3,3,3,6,6,6] rfl) ⟨_,_,_,_,_,rfl,U,G,I⟩
    exact At.rt eY<|hR (hZ.fs [3,5,5,5,5] rfl).drop.drop.drop.drop ⟨ee,hX,rfl,eh.eq (by exact(Kc (x:=x) ‹_› ‹_› ‹_› ‹_› V ‹_› ‹_›).1),hY.eq (by exact(Kc (x:=x) ‹_› ‹_› ‹_› ‹_› V ‹_› ‹_›).2),rfl⟩
   have ej:∀(m:Nat) (cf:Bool) (dp:ay) (hm:0<m) (a4:cf=nM (aD b).1) (be:St h g (aS [a1,a5]) J [eb,[(u,Obj.cells #[vI (touchE s.aN client s.aE),vI x.aU,vI x.At,vS x.aa.af,vL b8 x.aa.Data.length ca,vI x.aa.ai,vI x.aa.aC,vI x.aa.Next,vI x.aa.aF,vL a146 x.aX.length a7,vL a148 x.aP.length a8] 43 (0,0))],b5,b6,[(D,Obj.cells #[vP d7,vP d8,vP b4,vI s.aE,vI s.count,.map (some d9),.map (some ea)] 100 (0,0))],ci,ck,co,c3,[(ad,Obj.cells #[vI (((aD b).1).ah),vS (((aD b).1).af),vL Y ((((aD b).1).Data).length) Z,vI (((aD b).1).ai),vI (((aD b).1).aI),.bool (((aD b).1).aV),.bool (((aD b).1).aK),.bool (((aD b).1).au),vL a28 ((((aD b).1).aB).length) ab] 25 (0,0))]] dp),At (bP prog B 74 f74 R) [] 32 [(0,vP D),(1,vI client),(3,vP u),(8,vP ad),(63,vI (((aD b).1).ah)),(97,.bool cf)] dp:=by
    intro m;induction m with
    |zero=>intros;omega
    |succ m ml=>
     intro cf dp hm a4 be
     refine At.cW cf 97 33 34 (fun mp=>?_) fun mx=>?_
     ·refine At.rp 5 2 [(100,vP D),(101,vI client)]<|Op.la 25 8 102 0 9 [vI (((aD b).1).ah),vS (((aD b).1).af),vL Y ((((aD b).1).Data).length) Z,vI (((aD b).1).ai),vI (((aD b).1).aI),.bool (((aD b).1).aV),.bool (((aD b).1).aK),.bool (((aD b).1).au),vL a28 ((((aD b).1).aB).length) ab] (be.ag 9 rfl)<|Op.px 1 [(103,vP u)] ?_
      obtain⟨my,h1,h2⟩:=St.bF (Q:=b9 J D (⟨s.aA,s.aQ,(touchB s.aN client s.aE),s.aE,s.count,s.events,s.aW⟩:Sp)) 6 (be.fs [3,3,3,8,8,5,8,8,8] rfl) ⟨_,_,_,_,_,_,_,_,_,_,rfl,ae,am,a0,ar,aw⟩
      obtain⟨m0,h3,h4⟩:=St.bF (Q:=eG J u (⟨touchE s.aN client s.aE,x.aU,x.At,⟨x.aa.af,x.aa.Data,x.aa.ai,x.aa.aC,x.aa.Next,x.aa.aF⟩,x.aX,x.aP⟩:Result)) 3 (h2.fs [3,3,3] rfl) ⟨_,_,_,_,_,rfl,U,G,I⟩
      have dq:=h4.fs [1] rfl
      refine Op.cl (some 104) 2 dq (Ry _ _ _ dq.sub O D (⟨s.aA,s.aQ,(touchB s.aN client s.aE),s.aE,s.count,s.events,s.aW⟩:Sp) _ h1 client ((aD b).1) _ bo _ bs u (⟨touchE s.aN client s.aE,x.aU,x.At,⟨x.aa.af,x.aa.Data,x.aa.ai,x.aa.aC,x.aa.Next,x.aa.aF⟩,x.aX,x.aP⟩:Result) _ h3 (by(try dsimp only)<;>exact a6.touch1) (by((try dsimp only)<;>((have:=xN b;have:=fD (aD b).1;omega)))) (St.pt 2 dq)) ?_
      rintro _ m1 _ m2 m3 h5 ⟨h6,h7,rfl,h8,h9,rfl⟩
      exact Op.gt 37<|At.rt eY<|hR (h5.fs [1,1,2] rfl).drop ⟨h6,h7,rfl,h8.eq (by exact(Ke (x:=x) ‹_› ‹_› ‹_› ‹_› V ‹_› a4 ‹_›).1),h9.eq (by exact(Ke (x:=x) ‹_› ‹_› ‹_› ‹_› V ‹_› a4 ‹_›).2),rfl⟩
     refine At.go 35 2 [(105,.bool ((((aD b).1).ah)==8))]<|At.fd ((((aD b).1).ah)=8) 105 36 37 (fun m4=>?_) fun m5=>?_
     ·refine At.rp 5 2 [(107,vP D),(108,vI client)]<|Op.la 25 8 109 0 9 [vI (((aD b).1).ah),vS (((aD b).1).af),vL Y ((((aD b).1).Data).length) Z,vI (((aD b).1).ai),vI (((aD b).1).aI),.bool (((aD b).1).aV),.bool (((aD b).1).aK),.bool (((aD b).1).au),vL a28 ((((aD b).1).aB).length) ab] (be.ag 9 rfl)<|Op.px 1 [(110,vP u)] ?_
      obtain⟨m6,ib,ih⟩:=St.bF (Q:=b9 J D (⟨s.aA,s.aQ,(touchB s.aN client s.aE),s.aE,s.count,s.events,s.aW⟩:Sp)) 6 (be.fs [3,3,3,8,8,5,8,8,8] rfl) ⟨_,_,_,_,_,_,_,_,_,_,rfl,ae,am,a0,ar,aw⟩
      obtain⟨m7,ii,ik⟩:=St.bF (Q:=eG J u (⟨touchE s.aN client s.aE,x.aU,x.At,⟨x.aa.af,x.aa.Data,x.aa.ai,x.aa.aC,x.aa.Next,x.aa.aF⟩,x.aX,x.aP⟩:Result)) 3 (ih.fs [3,3,3] rfl) ⟨_,_,_,_,_,rfl,U,G,I⟩
      have du:=ik.fs [1] rfl
      refine Op.cl (some 111) 2 du (SD _ _ _ du.sub O D (⟨s.aA,s.aQ,(touchB s.aN client s.aE),s.aE,s.count,s.events,s.aW⟩:Sp) _ ib client ((aD b).1) _ bo _ bs u (⟨touchE s.aN client s.aE,x.aU,x.At,⟨x.aa.af,x.aa.Data,x.aa.ai,x.aa.aC,x.aa.Next,x.aa.aF⟩,x.aX,x.aP⟩:Result) _ ii hP (by(try dsimp only)<;>exact a6.touch1) (by((try dsimp only)<;>((have:=xN b;have:=fD (aD b).1;omega)))) (St.pt 2 du)) ?_
      rintro _ m8 _ m9 na il ⟨io,ip,rfl,is,iv,rfl⟩
      exact Op.gt 37<|At.rt eY<|hR (il.fs [1,1,2] rfl).drop ⟨io,ip,rfl,is.eq (by exact(Kf (x:=x) ‹_› ‹_› ‹_› ‹_› V ‹_› a4 ‹_› ‹_›).1),iv.eq (by exact(Kf (x:=x) ‹_› ‹_› ‹_› ‹_› V ‹_› a4 ‹_› ‹_›).2),rfl⟩
     obtain⟨i0,i1,i3⟩:=St.bF (Q:=b9 J D (⟨s.aA,s.aQ,(touchB s.aN client s.aE),s.aE,s.count,s.events,s.aW⟩:Sp)) 6 (be.fs [3,3,3,8,8,5,8,8,8] rfl) ⟨_,_,_,_,_,_,_,_,_,_,rfl,ae,am,a0,ar,aw⟩
     obtain⟨i4,i5,i6⟩:=St.bF (Q:=eG J u (⟨touchE s.aN client s.aE,x.aU,x.At,⟨x.aa.af,x.aa.Data,x.aa.ai,x.aa.aC,x.aa.Next,x.aa.aF⟩,x.aX,x.aP⟩:Result)) 3 (i3.fs [3,3,3] rfl) ⟨_,_,_,_,_,rfl,U,G,I⟩
     exact At.rt eY<|hR (i6.fs [1,2] rfl).drop ⟨i0,i4,rfl,i1.eq (by exact(Kg (x:=x) ‹_› ‹_› ‹_› ‹_› V ‹_› a4 ‹_› ‹_›).1),i5.eq (by exact(Kg (x:=x) ‹_› ‹_› ‹_› ‹_› V ‹_› a4 ‹_› ‹_›).2),rfl⟩
   refine At.go 30 2 [(97,.bool ((((aD b).1).ah)==6))]<|At.fd ((((aD b).1).ah)=6) 97 32 31 (fun i7=>?_) fun nb=>?_
   ·exact At.kT 97 i7 (At.ke (ej _ true _ (bG _) (by exact RP ‹_›) bk))
   exact At.go 32 2 [(97,.bool ((((aD b).1).ah)==7))] (At.ke (ej _ ((((aD b).1).ah)==7) _ (bG _) (by exact RQ ‹_›) bk))
 refine At.go 18 2 [(70,.bool ((((aD b).1).ah)==3))]<|At.fd ((((aD b).1).ah)=3) 70 22 19 (fun i8=>?_) fun nd=>?_
 ·exact At.kT 70 i8 (At.ke (c9 _ true _ (bG _) (by exact RM ‹_›) a3))
 refine At.go 20 2 [(70,.bool ((((aD b).1).ah)==4))]<|At.fd ((((aD b).1).ah)=4) 70 22 21 (fun i9=>?_) fun nf=>?_
 ·exact At.kT 70 i9 (At.ke (c9 _ true _ (bG _) (by exact RN ‹_›) a3))
 exact At.go 22 2 [(70,.bool ((((aD b).1).ah)==5))] (At.ke (c9 _ ((((aD b).1).ah)==5) _ (bG _) (by exact RO ‹_› ‹_›) a3))
theorem dA.xQ {s:Sp} (H:dA s) (t:Int):dA (gK s t):=by
  unfold gK xO
  exact dA.xK (s:={s with aE:=max s.aE (min t 1099511627775),aN:=mq (mu (max s.aE (min t 1099511627775))) s.aN}) ⟨H.tree,H.wl,H.ws,H.aN.left _,H.quo⟩ _
theorem gC.SF {x:f_} (H:gC x) {bS:dQ→Bool}:(jP bS x).length≤8:=by
  unfold jP
  rw[ew]
  exact cH (kX _ _) H.len
theorem dA.more {s:Sp} (H:dA s):dA (lu s):=⟨H.tree,H.wl,H.ws,H.aN,H.quo⟩
theorem KK (x:Result):(aO x).1.length≤1000000000:=by
  have h0:([]:aj).length≤1000000000:=eX _
  unfold aO
  repeat' split
  all_goals first|exact h0|skip
  rename_i h1 h2 h3 h4
  obtain⟨h5,h6⟩:=xG (fs:=lU x) (by simpa using h4)
  simp only[h6]
  refine cH (sy _ (Dx h5).2) ?_
  have:=(Dx h5).1
  have:(10+65536)*(lU x).length≤(10+65536)*1024:=uy _ this
  omega
theorem D1 {α:Type} {c:Int} {x:α}:∀{l:List (Int×α)},cy l c=some x→∃p∈l,p.2=x
  |[],h=>by simp[cy] at h
  |q::l,h=>by
   rw[kF] at h
   split at h
   · exact⟨q,by simp,gI h⟩
   · obtain⟨r,hr,e⟩:=D1 h
     exact⟨r,by simp[hr],e⟩
theorem KL {s y:Sp} {c:Int} {r:iO} (h:∀p∈s.aW,p.2.data.length≤1000000000) (e:y.aW=s.aW) (hf:cy y.aW c=some r):r.data.length≤1000000000:=by
  rw[e] at hf
  obtain⟨p,hp,rfl⟩:=D1 hf
  exact h p hp
theorem gM {e:j0} (h1:¬e.ax<0) (h2:¬e.ax≥8) (h3:¬e.cw<1) (h4:¬e.cw≥1099511627776):je e=true:=by
  unfold je
  simp only[bZ,cN]
  omega
theorem ot {e:j0} (h:e.ax<0∨e.ax≥8∨e.cw<1∨e.cw≥1099511627776):¬je e=true:=by
  unfold je
  simp only[bZ,cN]
  omega
section
variable {s y w:Sp} {e:j0} {b:bp} {r:iO} {x:Result}
theorem Aw {c:Int} (h:cy s.aW c=none):kL s c=⟨0,[]⟩:=by unfold kL;rw[h];rfl
theorem Ax {c:Int} (h:cy s.aW c=some r):kL s c=r:=by unfold kL;rw[h];rfl
theorem KM {c u:Int} (h:cy s.aW c=none) (h1:¬u<0) (h2:¬u=0):(kL s c).cX<u:=by rw[Aw h];show(0:Int)<u;omega
theorem KN {c u:Int} (h:cy s.aW c=some r) (h1:¬u<r.cX) (h2:¬u=r.cX):(kL s c).cX<u:=by rw[Ax h];omega
theorem ou (hy:y=gK s e.cx) (h:¬je e=true):[]=cz s e b∧false=kn s e∧y=kj s e b:=by
  subst hy
  exact⟨by unfold cz;rw[aL h],by unfold kn;simp[h],by unfold kj;rw[aL (fun h'=>h h'.1)]⟩
theorem KO (hy:y=gK s e.cx) (hE:je e=true) (h:e.cw<(kL y e.ax).cX):[]=cz s e b∧false=kn s e∧y=kj s e b:=by
  subst hy
  refine⟨?_,?_,?_⟩
  · unfold cz;rw[aY hE,aL (by omega),aL (by omega)]
  · unfold kn;rw[hE,gQ (by omega)];rfl
  · unfold kj;rw[aL (by rintro⟨_,h'⟩;omega)]
theorem vD (hy:y=gK s e.cx) (hE:je e=true) (hf:cy y.aW e.ax=none) (h:e.cw<0):[]=cz s e b∧false=kn s e∧y=kj s e b:=KO hy hE (by rw[Aw hf];exact h)
theorem vE (hy:y=gK s e.cx) (hE:je e=true) (hf:cy y.aW e.ax=some r) (h:e.cw<r.cX):[]=cz s e b∧false=kn s e∧y=kj s e b:=KO hy hE (by rw[Ax hf];exact h)
theorem KP (hy:y=gK s e.cx) (hE:je e=true) (h:e.cw=(kL y e.ax).cX):(kL y e.ax).data=cz s e b∧false=kn s e∧y=kj s e b:=by
  subst hy
  refine⟨?_,?_,?_⟩
  · unfold cz;rw[aY hE,aL (by omega),aY h]
  · unfold kn;rw[hE,gQ (by omega)];rfl
  · unfold kj;rw[aL (by rintro⟨_,h'⟩;omega)]
theorem vG (hy:y=gK s e.cx) (hE:je e=true) (hf:cy y.aW e.ax=none) (h:e.cw=0):[]=cz s e b∧false=kn s e∧y=kj s e b:=by
  have:=KP (b:=b) hy hE (by rw[Aw hf];exact h)
  rwa[Aw hf] at this
theorem vH (hy:y=gK s e.cx) (hE:je e=true) (hf:cy y.aW e.ax=some r) (h:e.cw=r.cX):r.data=cz s e b∧false=kn s e∧y=kj s e b:=by
  have:=KP (b:=b) hy hE (by rw[Ax hf];exact h)
  rwa[Ax hf] at this
theorem SG {c:Int} (h:cy (dH (lu y) c b).events c=none):{cB (lu y) c b ⟨0,y.count+1,0,dU,[],[]⟩ with aP:=[]}=mF y c b:=by
  unfold mF eE
  rw[h];rfl
theorem SH {c:Int} {xs:List au} (h:cy (dH (lu y) c b).events c=some xs):{cB (lu y) c b ⟨0,y.count+1,0,dU,[],[]⟩ with aP:=xs}=mF y c b:=by
  unfold mF eE
  rw[h];rfl
def KQ (y:Sp) (c:Int) (b:bp):Sp:={dH (lu y) c b with events:=eR (dH (lu y) c b).events c}
theorem D2 (hy:y=gK s e.cx) (hE:je e=true) (hlt:(kL y e.ax).cX<e.cw) (hw:w=KQ y e.ax b) (hr:x=mF y e.ax b):
    (aO x).1=cz s e b∧true=kn s e∧{w with aW:=dz w.aW e.ax ⟨e.cw,(aO x).1⟩}=kj s e b:=by
  subst hy hw hr
  refine⟨?_,?_,?_⟩
  · unfold cz;rw[aY hE,aY hlt]
  · unfold kn;rw[hE,gb hlt];rfl
  · unfold kj;rw[aY ⟨hE,hlt⟩];rfl
end
abbrev sC:Value:=(.tuple #[vN,vF])
abbrev qj:Value:=(.agg #[vI 0,vN])
abbrev sD:Array Value:=#[vI 0,vI 0,vN,vN,vN,vN,vN]
theorem SI (B:World) (h:ay) (g:GH) (hg:bu g h) (J:bz g) (u:Nat) (s:Sp) (a8:az) (g8:b9 g u s a8) (e:j0) (e4:Value) (g9:an g 5 a_ e4 e.uL) (e5:Value) (op:aj) (bd:an g 5 a_ e5 op) (hP:l_ g) (a1:dA s) (hl:op.length≤1000000000) (s2:0≤s.count∧s.count≤1000000000000000) (e6:∀p∈s.aW,p.2.data.length≤1000000000) (hx:je e=true→m_ (mF (gK s e.cx) e.ax op)) (hs:St h g (aS [a8]) g [a8] h):
  aG prog B 50 #[vP u,.agg #[vI e.ax,vI e.cw,vI e.cx,e4],e5] h g [a8] (fun ha g' L'=>∃v0 e7 e8,ha=.tuple #[v0,.bool (kn s e)]∧aH 5 a_ g' v0 (cz s e op) e7∧b9 g' u (kj s e op) e8∧L'=[e8,e7]):=by
 obtain⟨cf,ch,rfl⟩:=g9.ak
 obtain⟨da,db,rfl⟩:=bd.ak
 refine aG.aq func50 fun R hR=>At.rg 3<|Op.bx 4 104 1 #[vI e.ax,vI e.cw,vI e.cx,vL cf e.uL.length ch] hs fun G s3 hb=>Op.pg 1 [] ?_
 have he:∀(m:Nat) (D:GH) (ci:aM g D) (y:Sp) (a9:az) (dc:ay) (hm:0<m) (hy:y=gK s e.cx) (b5:dA y) (b6:y.count=s.count) (dd:y.aW=s.aW) (be:b9 D u y a9) (ad:St h g (aS [a8]) D [[(G,Obj.cells #[vI e.ax,vI e.cw,vI e.cx,vL cf e.uL.length ch] 104 (0,0))],a9] dc),At (bP prog B 50 f50 R) [] 3 [(0,vP u),(2,vL da op.length db),(4,vP G)] dc:=by
  intro m;induction m with
  |zero=>intros;omega
  |succ m s4=>
   intro D ci y a9 dc hm hy b5 b6 dd be ad
   replace J:=J.mono ci
   replace hP:=hP.mono ci
   replace bd:=bd.mono ci
   refine At.rp 18 1 [(34,vP G)]<|Op.l1 3 34 35 0 (vI e.ax) (ad.ag 0 rfl)<|Op.px 2 [(37,.bool (decide (e.ax<0)))]<|Op.wd (e.ax<0) 37 (fun s5=>?_) fun s8=>?_
   ·refine Op.pg 4 [(51,vT)]<|At.bT 51 5<|At.go 6 2 [(6,vN),(7,vF)] ?_
    have hf:=aH.zero 5 a_ D none
    exact At.rt sC<|hR (ad.nl.fs [2,2] rfl).drop ⟨vN,[],a9,bA rfl (bn (by exact(ou (b:=op) hy (ot (by omega))).2.1)),dP hf (by exact(ou (b:=op) hy (ot (by omega))).1),be.eq (by exact(ou (b:=op) hy (ot (by omega))).2.2),rfl⟩
   refine Op.px 1 [(38,vP G)]<|Op.l1 3 38 39 0 (vI e.ax) (ad.ag 0 rfl)<|Op.px 3 [(42,.bool (decide (e.ax≥8)))]<|Op.wd (e.ax≥8) 42 (fun ta=>?_) fun te=>?_
   ·refine Op.pg 4 [(51,vT)]<|At.bT 51 5<|At.go 6 2 [(6,vN),(7,vF)] ?_
    have hh:=aH.zero 5 a_ D none
    exact At.rt sC<|hR (ad.nl.fs [2,2] rfl).drop ⟨vN,[],a9,bA rfl (bn (by exact(ou (b:=op) hy (ot (by omega))).2.1)),dP hh (by exact(ou (b:=op) hy (ot (by omega))).1),be.eq (by exact(ou (b:=op) hy (ot (by omega))).2.2),rfl⟩
   refine Op.px 1 [(43,vQ G 1)]<|Op.l1 3 43 44 1 (vI e.cw) (ad.ag 0 rfl)<|Op.px 3 [(47,.bool (decide (e.cw<1)))]<|Op.wd (e.cw<1) 47 (fun ti=>?_) fun tk=>?_
   ·refine Op.pg 4 [(51,vT)]<|At.bT 51 5<|At.go 6 2 [(6,vN),(7,vF)] ?_
    have hj:=aH.zero 5 a_ D none
    exact At.rt sC<|hR (ad.nl.fs [2,2] rfl).drop ⟨vN,[],a9,bA rfl (bn (by exact(ou (b:=op) hy (ot (by omega))).2.1)),dP hj (by exact(ou (b:=op) hy (ot (by omega))).1),be.eq (by exact(ou (b:=op) hy (ot (by omega))).2.2),rfl⟩
   refine Op.px 1 [(48,vQ G 1)]<|Op.l1 3 48 49 1 (vI e.cw) (ad.ag 0 rfl)<|Op.pg 4 [(51,.bool (decide (e.cw≥1099511627776)))]<|At.fd (e.cw≥1099511627776) 51 5 7 (fun tl=>?_) fun tm=>?_
   ·refine At.go 6 2 [(6,vN),(7,vF)] ?_
    have hn:=aH.zero 5 a_ D none
    exact At.rt sC<|hR (ad.nl.fs [2,2] rfl).drop ⟨vN,[],a9,bA rfl (bn (by exact(ou (b:=op) hy (ot (by omega))).2.1)),dP hn (by exact(ou (b:=op) hy (ot (by omega))).1),be.eq (by exact(ou (b:=op) hy (ot (by omega))).2.2),rfl⟩
   have ck:∀(m:Nat) (a3:GH) (co:aM D a3) (z:Sp) (df:az) (dg:ay) (hm:0<m) (hz:z=gK s e.cx) (e9:dA z) (ho:z.count=s.count) (hE:je e=true) (hlt:(kL z e.ax).cX<e.cw) (fa:b9 a3 u z df) (fg:St h g (aS [a8]) a3 [[(G,Obj.cells #[vI e.ax,vI e.cw,vI e.cx,vL cf e.uL.length ch] 104 (0,0))],df] dg),At (bP prog B 50 f50 R) [] 16 [(0,vP u),(2,vL da op.length db),(4,vP G)] dg:=by
    intro m;induction m with
    |zero=>intros;omega
    |succ m tp=>
     intro a3 co z df dg hm hz e9 ho hE hlt fa fg
     replace J:=J.mono co
     replace hP:=hP.mono co
     replace bd:=bd.mono co
     refine At.rp 8 3 [(74,vP u),(76,vQ u 4)] ?_
     obtain⟨hp,hq,hu,hA,hB,hC,hD,hF,hG,hH,hI,hJ,hK,hL,hN,hO⟩:=fa
     have fi:=St.un [hq,hA,hC,hF,hH] hI (fg.fs [1] rfl)
     refine Op.l1 3 76 77 4 (vI z.count) (fi.ag 0 rfl)<|Op.vq 78 (z.count+1)<|Op.px 2 [(80,vQ u 4)]<|Op.s1 3 80 78 4 (vI (z.count+1)) 0 #[vP hp,vP hu,vP hB,vI z.aE,vI (z.count+1),.map (some hD),.map (some hG)] fi zt fun tt fj=>Op.gt 17 ?_
     refine At.rp 8 3 [(83,vQ u 4)]<|Op.l1 3 83 84 4 (vI (z.count+1)) (fj.ag 0 rfl)<|Op.px 2 [(86,.agg #[vI 0,vI (z.count+1),vI 0,vS [],vN,vI 0,vI (-1),vI 0,vI 0,vN,vN])]<|Op.bx 87 43 86 #[vI 0,vI (z.count+1),vI 0,vS [],vN,vI 0,vI (-1),vI 0,vI 0,vN,vN] fj fun V tx fl=>Op.pg 18 [(9,vP V)] ?_
     refine At.rp 6 2 [(88,vP u),(89,vP G)]<|Op.l1 3 89 90 0 (vI e.ax) (fl.ag 7 rfl)<|Op.px 2 [(91,vL da op.length db),(92,vP V)] ?_
     obtain⟨tz,hQ,hS⟩:=St.bF (Q:=b9 a3 u (⟨z.aA,z.aQ,z.aN,z.aE,z.count+1,z.events,z.aW⟩:Sp)) 6 (fl.fs [6,6,6,6,6,6] rfl) ⟨_,_,_,_,_,_,_,_,_,_,rfl,hJ,hK,hL,hN,hO⟩
     have hT:=aH.nil 9 cV a3
     have hV:=aH.nil 45 cA a3
     obtain⟨tA,hW,hX⟩:=St.bF (Q:=eG a3 V (⟨0,z.count+1,0,⟨[],([]:aj),0,(-1),0,0⟩,([]:List aj),([]:List au)⟩:Result)) 3 (hS.nl.nl.fs [2,1,2,3] rfl) ⟨_,_,_,_,_,rfl,(an.nil _ _ _),hT,hV⟩
     have dj:=hX.fs [1] rfl
     refine Op.cl (some 93) 2 dj (SE _ _ _ dj.sub J u (⟨z.aA,z.aQ,z.aN,z.aE,z.count+1,z.events,z.aW⟩:Sp) _ hQ e.ax _ _ bd V (⟨0,z.count+1,0,⟨[],([]:aj),0,(-1),0,0⟩,([]:List aj),([]:List au)⟩:Result) _ hW hP (by(try dsimp only)<;>exact e9.more) (by(try dsimp only)<;>omega) (St.pt 2 dj)) ?_
     rintro _ a4 _ tB hY hZ ⟨tR,tS,rfl,h1,h2,rfl⟩
     replace J:=J.mono hY
     refine Op.gt 19 ?_
     have fp:∀(m:Nat) (b8:GH) (fr:aM a4 b8) (w:Sp) (r:Result) (dk:az) (dl:az) (dp:ay) (hm:0<m) (hw:w=KQ z e.ax op) (hr:r=mF z e.ax op) (a5:b9 b8 u w dk) (ft:eG b8 V r dl) (fv:St h g (aS [a8]) b8 [dk,dl,[(G,Obj.cells #[vI e.ax,vI e.cw,vI e.cx,vL cf e.uL.length ch] 104 (0,0))]] dp),At (bP prog B 50 f50 R) [] 21 [(0,vP u),(4,vP G),(9,vP V)] dp:=by
      intro m;induction m with
      |zero=>intros;omega
      |succ m t0=>
       intro b8 fr w r dk dl dp hm hw hr a5 ft fv
       replace J:=J.mono fr
       refine At.rp 9 2 [(112,vP V)] ?_
       obtain⟨t1,v105,h3,t2,h4,h5,bi,fw,c3⟩:=ft
       obtain⟨h6,h7,rfl⟩:=bi.ak
       obtain⟨h8,h9,rfl⟩:=fw.ak
       obtain⟨a117,ib,rfl⟩:=c3.ak
       have fx:=St.un [h3,h4] h5 (fv.fs [1] rfl)
       refine Op.la 43 112 113 0 11 [vI r.Code,vI r.aU,vI r.At,vS r.aa.af,vL h6 r.aa.Data.length h7,vI r.aa.ai,vI r.aa.aC,vI r.aa.Next,vI r.aa.aF,vL h8 r.aX.length h9,vL a117 r.aP.length ib] (fx.ag 0 rfl) ?_
       obtain⟨t3,ih,c4,dq⟩:=aH.freeze fw (fx.fs [1] rfl)
       replace bi:=bi.mono c4
       replace c3:=c3.mono c4
       replace J:=J.mono c4
       replace a5:=a5.mono c4
       obtain⟨t4,f0,c5,ii⟩:=aH.freeze c3 (ih.fs [1] rfl)
       replace bi:=bi.mono c5
       replace J:=J.mono c5
       replace dq:=dq.mono c5
       replace a5:=a5.mono c5
       refine Op.c0 (some 114) (vn _ _ _ f0.sub J r _ bi _ dq _ ii (by((try dsimp only)<;>((rw[hr,hz];exact hx hE))))) f0 ?_
       rintro _ f1 _ t5 f2 ik ⟨v131,rfl,du,rfl⟩
       obtain⟨bj,bk,rfl⟩:=du.ak
       replace J:=J.mono f2
       replace a5:=a5.mono f2
       refine Op.pg 22 [(10,vL bj (((aO r).1).length) bk)] ?_
       obtain⟨t6,il,t7,io,t8,ip,t9,is,dv,iv,i0,i1,i3,i4,i5,i6⟩:=a5
       have c6:=St.un [il,io,ip,is,iv] i0 (ik.fs [1] rfl)
       refine At.dw (fun _=>False) [(0,true),(1,true),(2,true),(4,true),(6,true),(8,true),(3,true),(5,true),(7,false),(9,true),(1010,false),(10,false)]<|Op.px 6 [(119,vQ u 6),(121,vP G),(123,vQ G 1),(125,vL bj (((aO r).1).length) bk)]<|Op.lf 98 119 6 120 1 (.map (some dv)) id (c6.ag 0 rfl)<|Op.lf 3 121 0 122 1 (vI e.ax) id (c6.ag 7 rfl)<|Op.l1 3 123 124 1 (vI e.cw) (c6.ag 7 rfl) ?_
       refine Op.px 1 [(126,.agg #[vI e.cw,vL bj (((aO r).1).length) bk])]<|Op.ba ?_
       obtain⟨ub,ui,ul,rfl,i7,i8⟩:=i6
       refine Op.ms qj 98 120 122 126 e.ax (.agg #[vI e.cw,vL bj (((aO r).1).length) bk]) c6 5 i7 fun i9 jf us jj f3=>?_
       have js:=fu.pz (k:=e.ax) (a:=(⟨e.cw,(aO r).1⟩:iO)) (v:=.agg #[vI e.cw,vL bj (((aO r).1).length) bk]) i8 ⟨_,rfl,du⟩
       refine Op.gt 23<|At.rp 4 1 [(127,vL bj (((aO r).1).length) bk)]<|Op.c0 (some 128) (ny _ _ _ f3.sub J _ _ du (by(try dsimp only)<;>exact KK _)) f3 ?_
       rintro _ jt _ ut j1 j2 ⟨u1,kc,rfl,f4,ca,rfl⟩;subst jt;clear j1
       obtain⟨a171,dC,rfl⟩:=f4.ak
       refine Op.pg 24 [(6,vL a171 ((((aO r).1)).length) dC),(7,vT)] ?_
       have kd:jc f1 dv (dz w.aW e.ax (⟨e.cw,(aO r).1⟩:iO)) [(dv,.map i9 jf)]:=⟨_,_,_,rfl,jj,js⟩
       obtain⟨kh,kk,kl⟩:=St.bF (Q:=b9 f1 u (⟨w.aA,w.aQ,w.aN,w.aE,w.count,w.events,(dz w.aW e.ax (⟨e.cw,(aO r).1⟩:iO))⟩:Sp)) 6 (j2.fs [6,6,6,6,6,6] rfl) ⟨_,_,_,_,_,_,_,_,_,_,rfl,i1,i3,i4,i5,kd⟩
       exact At.rt (.tuple #[vL a171 ((((aO r).1)).length) dC,vT])<|hR (kl.fs [1,1,3,3] rfl).drop.drop ⟨(vL a171 ((((aO r).1)).length) dC),kc,kh,bA rfl (bn (by exact(D2 (b:=op) hz hE hlt hw hr).2.1)),dP f4 (by exact(D2 (b:=op) hz hE hlt hw hr).1),kk.eq (by exact(D2 (b:=op) hz hE hlt hw hr).2.2),rfl⟩
     obtain⟨u2,km,u3,kv,u4,kw,cb,kx,vd,kA,k0,f5,f6,f7,k1,f8⟩:=h1
     obtain⟨ve,vo,k2,vx,k3,k4,dE,dT,k5⟩:=h2
     obtain⟨f9,gc,rfl⟩:=dE.ak
     obtain⟨ge,gg,rfl⟩:=dT.ak
     obtain⟨vy,n212,rfl⟩:=k5.ak
     have d0:=St.un [k2,k3] k4 ((St.un [km,kv,kw,kx,kA] k0 hZ).fs [5,5,5,5,5,5,6] rfl)
     refine At.dw (fun _=>False) [(0,true),(1,true),(2,true),(3,true),(5,true),(4,true),(6,false),(7,false),(8,true),(9,true),(1010,false),(10,false)]<|Op.px 5 [(94,vP V),(97,vQ u 5),(99,vP G)]<|Op.lf 97 97 5 98 1 (.map (some cb)) id (d0.ag 3 rfl)<|Op.l1 3 99 100 0 (vI e.ax) (d0.ag 9 rfl) ?_
     obtain⟨v1,v2,v3,k6,k7,c8,k8⟩:=k1
     have d1:=St.un [k6] k7 (d0.fs [6,6,6,6,6,6,6,7] rfl)
     rcases k8.gS e.ax with ⟨d2,lb,d3⟩|⟨v4,ce,v5,v6,d2,lb,gk,lc,d3⟩
     ·refine Op.mn (.slice none 0 0) 97 98 100 101 e.ax (d1.ag 0 rfl) c8 d2<|Op.px 2 [(103,vQ V 10)]<|Op.ba<|Op.s1 41 103 101 10 vN 2 #[vI ((cB (⟨z.aA,z.aQ,z.aN,z.aE,z.count+1,z.events,z.aW⟩:Sp) e.ax op (⟨0,z.count+1,0,⟨[],([]:aj),0,(-1),0,0⟩,([]:List aj),([]:List au)⟩:Result)).Code),vI ((cB (⟨z.aA,z.aQ,z.aN,z.aE,z.count+1,z.events,z.aW⟩:Sp) e.ax op (⟨0,z.count+1,0,⟨[],([]:aj),0,(-1),0,0⟩,([]:List aj),([]:List au)⟩:Result)).aU),vI ((cB (⟨z.aA,z.aQ,z.aN,z.aE,z.count+1,z.events,z.aW⟩:Sp) e.ax op (⟨0,z.count+1,0,⟨[],([]:aj),0,(-1),0,0⟩,([]:List aj),([]:List au)⟩:Result)).At),vS ((cB (⟨z.aA,z.aQ,z.aN,z.aE,z.count+1,z.events,z.aW⟩:Sp) e.ax op (⟨0,z.count+1,0,⟨[],([]:aj),0,(-1),0,0⟩,([]:List aj),([]:List au)⟩:Result)).aa.af),vL f9 (((cB (⟨z.aA,z.aQ,z.aN,z.aE,z.count+1,z.events,z.aW⟩:Sp) e.ax op (⟨0,z.count+1,0,⟨[],([]:aj),0,(-1),0,0⟩,([]:List aj),([]:List au)⟩:Result)).aa.Data).length) gc,vI ((cB (⟨z.aA,z.aQ,z.aN,z.aE,z.count+1,z.events,z.aW⟩:Sp) e.ax op (⟨0,z.count+1,0,⟨[],([]:aj),0,(-1),0,0⟩,([]:List aj),([]:List au)⟩:Result)).aa.ai),vI ((cB (⟨z.aA,z.aQ,z.aN,z.aE,z.count+1,z.events,z.aW⟩:Sp) e.ax op (⟨0,z.count+1,0,⟨[],([]:aj),0,(-1),0,0⟩,([]:List aj),([]:List au)⟩:Result)).aa.aC),vI ((cB (⟨z.aA,z.aQ,z.aN,z.aE,z.count+1,z.events,z.aW⟩:Sp) e.ax op (⟨0,z.count+1,0,⟨[],([]:aj),0,(-1),0,0⟩,([]:List aj),([]:List au)⟩:Result)).aa.Next),vI ((cB (⟨z.aA,z.aQ,z.aN,z.aE,z.count+1,z.events,z.aW⟩:Sp) e.ax op (⟨0,z.count+1,0,⟨[],([]:aj),0,(-1),0,0⟩,([]:List aj),([]:List au)⟩:Result)).aa.aF),vL ge (((cB (⟨z.aA,z.aQ,z.aN,z.aE,z.count+1,z.events,z.aW⟩:Sp) e.ax op (⟨0,z.count+1,0,⟨[],([]:aj),0,(-1),0,0⟩,([]:List aj),([]:List au)⟩:Result)).aX).length) gg,vN] d1 zt fun v8 d4=>Op.gt 20 ?_
      refine At.dw (fun _=>False) [(0,true),(1,true),(2,true),(4,true),(3,true),(5,false),(1006,false),(6,false)]<|Op.px 4 [(106,vQ u 5),(108,vP G)]<|Op.lf 97 106 5 107 1 (.map (some cb)) id (d4.ag 5 rfl)<|Op.l1 3 108 109 0 (vI e.ax) (d4.ag 10 rfl)<|Op.ba ?_
      refine Op.yJ (d:=.int .i64) (z:=.slice none 0 0) (mt:=97) (kt:=3) (x:=107) (ix:=109) (dst:=none) (k:=e.ax) (by kernel_rfl) (by kernel_rfl) kC (by kernel_rfl) (by kernel_rfl) d4 0 rfl c8 zt fun v9 wa lh li=>?_
      have lj:=d3.2 _ (aM.refl _)
      refine Op.gt 21 ?_
      obtain⟨wc,lk,ll⟩:=St.bF (Q:=kg a4 cb (eR ((dH (⟨z.aA,z.aQ,z.aN,z.aE,z.count+1,z.events,z.aW⟩:Sp) e.ax op).events) e.ax)) 2 li ⟨_,_,_,_,rfl,lh,lj⟩
      obtain⟨wi,lm,ln⟩:=St.bF (Q:=b9 a4 u (⟨(dH (⟨z.aA,z.aQ,z.aN,z.aE,z.count+1,z.events,z.aW⟩:Sp) e.ax op).aA,(dH (⟨z.aA,z.aQ,z.aN,z.aE,z.count+1,z.events,z.aW⟩:Sp) e.ax op).aQ,(dH (⟨z.aA,z.aQ,z.aN,z.aE,z.count+1,z.events,z.aW⟩:Sp) e.ax op).aN,(dH (⟨z.aA,z.aQ,z.aN,z.aE,z.count+1,z.events,z.aW⟩:Sp) e.ax op).aE,(dH (⟨z.aA,z.aQ,z.aN,z.aE,z.count+1,z.events,z.aW⟩:Sp) e.ax op).count,(eR ((dH (⟨z.aA,z.aQ,z.aN,z.aE,z.count+1,z.events,z.aW⟩:Sp) e.ax op).events) e.ax),(dH (⟨z.aA,z.aQ,z.aN,z.aE,z.count+1,z.events,z.aW⟩:Sp) e.ax op).aW⟩:Sp)) 6 (ll.fs [3,3,3,8,4,8,8,8,8] rfl) ⟨_,_,_,_,_,_,_,_,_,_,rfl,f5,f6,f7,lk,f8⟩
      have lr:=aH.nil 45 cA a4
      obtain⟨wn,lv,lw⟩:=St.bF (Q:=eG a4 V (⟨(cB (⟨z.aA,z.aQ,z.aN,z.aE,z.count+1,z.events,z.aW⟩:Sp) e.ax op (⟨0,z.count+1,0,⟨[],([]:aj),0,(-1),0,0⟩,([]:List aj),([]:List au)⟩:Result)).Code,(cB (⟨z.aA,z.aQ,z.aN,z.aE,z.count+1,z.events,z.aW⟩:Sp) e.ax op (⟨0,z.count+1,0,⟨[],([]:aj),0,(-1),0,0⟩,([]:List aj),([]:List au)⟩:Result)).aU,(cB (⟨z.aA,z.aQ,z.aN,z.aE,z.count+1,z.events,z.aW⟩:Sp) e.ax op (⟨0,z.count+1,0,⟨[],([]:aj),0,(-1),0,0⟩,([]:List aj),([]:List au)⟩:Result)).At,⟨(cB (⟨z.aA,z.aQ,z.aN,z.aE,z.count+1,z.events,z.aW⟩:Sp) e.ax op (⟨0,z.count+1,0,⟨[],([]:aj),0,(-1),0,0⟩,([]:List aj),([]:List au)⟩:Result)).aa.af,(cB (⟨z.aA,z.aQ,z.aN,z.aE,z.count+1,z.events,z.aW⟩:Sp) e.ax op (⟨0,z.count+1,0,⟨[],([]:aj),0,(-1),0,0⟩,([]:List aj),([]:List au)⟩:Result)).aa.Data,(cB (⟨z.aA,z.aQ,z.aN,z.aE,z.count+1,z.events,z.aW⟩:Sp) e.ax op (⟨0,z.count+1,0,⟨[],([]:aj),0,(-1),0,0⟩,([]:List aj),([]:List au)⟩:Result)).aa.ai,(cB (⟨z.aA,z.aQ,z.aN,z.aE,z.count+1,z.events,z.aW⟩:Sp) e.ax op (⟨0,z.count+1,0,⟨[],([]:aj),0,(-1),0,0⟩,([]:List aj),([]:List au)⟩:Result)).aa.aC,(cB (⟨z.aA,z.aQ,z.aN,z.aE,z.count+1,z.events,z.aW⟩:Sp) e.ax op (⟨0,z.count+1,0,⟨[],([]:aj),0,(-1),0,0⟩,([]:List aj),([]:List au)⟩:Result)).aa.Next,(cB (⟨z.aA,z.aQ,z.aN,z.aE,z.count+1,z.events,z.aW⟩:Sp) e.ax op (⟨0,z.count+1,0,⟨[],([]:aj),0,(-1),0,0⟩,([]:List aj),([]:List au)⟩:Result)).aa.aF⟩,(cB (⟨z.aA,z.aQ,z.aN,z.aE,z.count+1,z.events,z.aW⟩:Sp) e.ax op (⟨0,z.count+1,0,⟨[],([]:aj),0,(-1),0,0⟩,([]:List aj),([]:List au)⟩:Result)).aX,([]:List au)⟩:Result)) 3 (ln.nl.fs [1,1,3,3] rfl) ⟨_,_,_,_,_,rfl,dE,dT,lr⟩
      exact At.ke (fp _ _ (by repeat (first|assumption|exact aM.refl _|apply aM.trans)) (⟨(dH (⟨z.aA,z.aQ,z.aN,z.aE,z.count+1,z.events,z.aW⟩:Sp) e.ax op).aA,(dH (⟨z.aA,z.aQ,z.aN,z.aE,z.count+1,z.events,z.aW⟩:Sp) e.ax op).aQ,(dH (⟨z.aA,z.aQ,z.aN,z.aE,z.count+1,z.events,z.aW⟩:Sp) e.ax op).aN,(dH (⟨z.aA,z.aQ,z.aN,z.aE,z.count+1,z.events,z.aW⟩:Sp) e.ax op).aE,(dH (⟨z.aA,z.aQ,z.aN,z.aE,z.count+1,z.events,z.aW⟩:Sp) e.ax op).count,(eR ((dH (⟨z.aA,z.aQ,z.aN,z.aE,z.count+1,z.events,z.aW⟩:Sp) e.ax op).events) e.ax),(dH (⟨z.aA,z.aQ,z.aN,z.aE,z.count+1,z.events,z.aW⟩:Sp) e.ax op).aW⟩:Sp) (⟨(cB (⟨z.aA,z.aQ,z.aN,z.aE,z.count+1,z.events,z.aW⟩:Sp) e.ax op (⟨0,z.count+1,0,⟨[],([]:aj),0,(-1),0,0⟩,([]:List aj),([]:List au)⟩:Result)).Code,(cB (⟨z.aA,z.aQ,z.aN,z.aE,z.count+1,z.events,z.aW⟩:Sp) e.ax op (⟨0,z.count+1,0,⟨[],([]:aj),0,(-1),0,0⟩,([]:List aj),([]:List au)⟩:Result)).aU,(cB (⟨z.aA,z.aQ,z.aN,z.aE,z.count+1,z.events,z.aW⟩:Sp) e.ax op (⟨0,z.count+1,0,⟨[],([]:aj),0,(-1),0,0⟩,([]:List aj),([]:List au)⟩:Result)).At,⟨(cB (⟨z.aA,z.aQ,z.aN,z.aE,z.count+1,z.events,z.aW⟩:Sp) e.ax op (⟨0,z.count+1,0,⟨[],([]:aj),0,(-1),0,0⟩,([]:List aj),([]:List au)⟩:Result)).aa.af,(cB (⟨z.aA,z.aQ,z.aN,z.aE,z.count+1,z.events,z.aW⟩:Sp) e.ax op (⟨0,z.count+1,0,⟨[],([]:aj),0,(-1),0,0⟩,([]:List aj),([]:List au)⟩:Result)).aa.Data,(cB (⟨z.aA,z.aQ,z.aN,z.aE,z.count+1,z.events,z.aW⟩:Sp) e.ax op (⟨0,z.count+1,0,⟨[],([]:aj),0,(-1),0,0⟩,([]:List aj),([]:List au)⟩:Result)).aa.ai,(cB (⟨z.aA,z.aQ,z.aN,z.aE,z.count+1,z.events,z.aW⟩:Sp) e.ax op (⟨0,z.count+1,0,⟨[],([]:aj),0,(-1),0,0⟩,([]:List aj),([]:List au)⟩:Result)).aa.aC,(cB (⟨z.aA,z.aQ,z.aN,z.aE,z.count+1,z.events,z.aW⟩:Sp) e.ax op (⟨0,z.count+1,0,⟨[],([]:aj),0,(-1),0,0⟩,([]:List aj),([]:List au)⟩:Result)).aa.Next,(cB (⟨z.aA,z.aQ,z.aN,z.aE,z.count+1,z.events,z.aW⟩:Sp) e.ax op (⟨0,z.count+1,0,⟨[],([]:aj),0,(-1),0,0⟩,([]:List aj),([]:List au)⟩:Result)).aa.aF⟩,(cB (⟨z.aA,z.aQ,z.aN,z.aE,z.count+1,z.events,z.aW⟩:Sp) e.ax op (⟨0,z.count+1,0,⟨[],([]:aj),0,(-1),0,0⟩,([]:List aj),([]:List au)⟩:Result)).aX,([]:List au)⟩:Result) _ _ _ (bG _) (by rfl) (by exact SG ‹_›) lm lv ((lw.fs [1,2] rfl).drop))
     obtain⟨d5,d6,rfl⟩:=gk.ak
     have gn:=St.si lc (d1.fs [1] rfl)
     refine Op.mk (.slice none 0 0) 97 98 100 101 e.ax (vL d5 ce.length d6) (gn.ag 2 rfl) c8 d2<|Op.px 2 [(103,vQ V 10)]<|Op.ba<|Op.s1 41 103 101 10 (vL d5 ce.length d6) 3 #[vI ((cB (⟨z.aA,z.aQ,z.aN,z.aE,z.count+1,z.events,z.aW⟩:Sp) e.ax op (⟨0,z.count+1,0,⟨[],([]:aj),0,(-1),0,0⟩,([]:List aj),([]:List au)⟩:Result)).Code),vI ((cB (⟨z.aA,z.aQ,z.aN,z.aE,z.count+1,z.events,z.aW⟩:Sp) e.ax op (⟨0,z.count+1,0,⟨[],([]:aj),0,(-1),0,0⟩,([]:List aj),([]:List au)⟩:Result)).aU),vI ((cB (⟨z.aA,z.aQ,z.aN,z.aE,z.count+1,z.events,z.aW⟩:Sp) e.ax op (⟨0,z.count+1,0,⟨[],([]:aj),0,(-1),0,0⟩,([]:List aj),([]:List au)⟩:Result)).At),vS ((cB (⟨z.aA,z.aQ,z.aN,z.aE,z.count+1,z.events,z.aW⟩:Sp) e.ax op (⟨0,z.count+1,0,⟨[],([]:aj),0,(-1),0,0⟩,([]:List aj),([]:List au)⟩:Result)).aa.af),vL f9 (((cB (⟨z.aA,z.aQ,z.aN,z.aE,z.count+1,z.events,z.aW⟩:Sp) e.ax op (⟨0,z.count+1,0,⟨[],([]:aj),0,(-1),0,0⟩,([]:List aj),([]:List au)⟩:Result)).aa.Data).length) gc,vI ((cB (⟨z.aA,z.aQ,z.aN,z.aE,z.count+1,z.events,z.aW⟩:Sp) e.ax op (⟨0,z.count+1,0,⟨[],([]:aj),0,(-1),0,0⟩,([]:List aj),([]:List au)⟩:Result)).aa.ai),vI ((cB (⟨z.aA,z.aQ,z.aN,z.aE,z.count+1,z.events,z.aW⟩:Sp) e.ax op (⟨0,z.count+1,0,⟨[],([]:aj),0,(-1),0,0⟩,([]:List aj),([]:List au)⟩:Result)).aa.aC),vI ((cB (⟨z.aA,z.aQ,z.aN,z.aE,z.count+1,z.events,z.aW⟩:Sp) e.ax op (⟨0,z.count+1,0,⟨[],([]:aj),0,(-1),0,0⟩,([]:List aj),([]:List au)⟩:Result)).aa.Next),vI ((cB (⟨z.aA,z.aQ,z.aN,z.aE,z.count+1,z.events,z.aW⟩:Sp) e.ax op (⟨0,z.count+1,0,⟨[],([]:aj),0,(-1),0,0⟩,([]:List aj),([]:List au)⟩:Result)).aa.aF),vL ge (((cB (⟨z.aA,z.aQ,z.aN,z.aE,z.count+1,z.events,z.aW⟩:Sp) e.ax op (⟨0,z.count+1,0,⟨[],([]:aj),0,(-1),0,0⟩,([]:List aj),([]:List au)⟩:Result)).aX).length) gg,vL d5 ce.length d6] gn zt fun wp d7=>Op.gt 20 ?_
     refine At.dw (fun _=>False) [(0,true),(1,true),(2,true),(4,true),(3,true),(5,false),(1006,false),(6,false)]<|Op.px 4 [(106,vQ u 5),(108,vP G)]<|Op.lf 97 106 5 107 1 (.map (some cb)) id (d7.ag 6 rfl)<|Op.l1 3 108 109 0 (vI e.ax) (d7.ag 11 rfl)<|Op.ba ?_
     refine Op.yJ (d:=.int .i64) (z:=.slice none 0 0) (mt:=97) (kt:=3) (x:=107) (ix:=109) (dst:=none) (k:=e.ax) (by kernel_rfl) (by kernel_rfl) kC (by kernel_rfl) (by kernel_rfl) d7 2 rfl c8 zt fun wr wt lx ly=>?_
     have lA:=d3.2 _ (aM.refl _)
     refine Op.gt 21 ?_
     obtain⟨ww,lL,lO⟩:=St.bF (Q:=kg a4 cb (eR ((dH (⟨z.aA,z.aQ,z.aN,z.aE,z.count+1,z.events,z.aW⟩:Sp) e.ax op).events) e.ax)) 2 (ly.fs [1,2] rfl) ⟨_,_,_,_,rfl,lx,lA⟩
     obtain⟨wx,l0,l2⟩:=St.bF (Q:=b9 a4 u (⟨(dH (⟨z.aA,z.aQ,z.aN,z.aE,z.count+1,z.events,z.aW⟩:Sp) e.ax op).aA,(dH (⟨z.aA,z.aQ,z.aN,z.aE,z.count+1,z.events,z.aW⟩:Sp) e.ax op).aQ,(dH (⟨z.aA,z.aQ,z.aN,z.aE,z.count+1,z.events,z.aW⟩:Sp) e.ax op).aN,(dH (⟨z.aA,z.aQ,z.aN,z.aE,z.count+1,z.events,z.aW⟩:Sp) e.ax op).aE,(dH (⟨z.aA,z.aQ,z.aN,z.aE,z.count+1,z.events,z.aW⟩:Sp) e.ax op).count,(eR ((dH (⟨z.aA,z.aQ,z.aN,z.aE,z.count+1,z.events,z.aW⟩:Sp) e.ax op).events) e.ax),(dH (⟨z.aA,z.aQ,z.aN,z.aE,z.count+1,z.events,z.aW⟩:Sp) e.ax op).aW⟩:Sp)) 6 (lO.fs [4,4,4,4,9,5,9,9,9,9] rfl) ⟨_,_,_,_,_,_,_,_,_,_,rfl,f5,f6,f7,lL,f8⟩
     obtain⟨wy,l3,l4⟩:=St.bF (Q:=eG a4 V (⟨(cB (⟨z.aA,z.aQ,z.aN,z.aE,z.count+1,z.events,z.aW⟩:Sp) e.ax op (⟨0,z.count+1,0,⟨[],([]:aj),0,(-1),0,0⟩,([]:List aj),([]:List au)⟩:Result)).Code,(cB (⟨z.aA,z.aQ,z.aN,z.aE,z.count+1,z.events,z.aW⟩:Sp) e.ax op (⟨0,z.count+1,0,⟨[],([]:aj),0,(-1),0,0⟩,([]:List aj),([]:List au)⟩:Result)).aU,(cB (⟨z.aA,z.aQ,z.aN,z.aE,z.count+1,z.events,z.aW⟩:Sp) e.ax op (⟨0,z.count+1,0,⟨[],([]:aj),0,(-1),0,0⟩,([]:List aj),([]:List au)⟩:Result)).At,⟨(cB (⟨z.aA,z.aQ,z.aN,z.aE,z.count+1,z.events,z.aW⟩:Sp) e.ax op (⟨0,z.count+1,0,⟨[],([]:aj),0,(-1),0,0⟩,([]:List aj),([]:List au)⟩:Result)).aa.af,(cB (⟨z.aA,z.aQ,z.aN,z.aE,z.count+1,z.events,z.aW⟩:Sp) e.ax op (⟨0,z.count+1,0,⟨[],([]:aj),0,(-1),0,0⟩,([]:List aj),([]:List au)⟩:Result)).aa.Data,(cB (⟨z.aA,z.aQ,z.aN,z.aE,z.count+1,z.events,z.aW⟩:Sp) e.ax op (⟨0,z.count+1,0,⟨[],([]:aj),0,(-1),0,0⟩,([]:List aj),([]:List au)⟩:Result)).aa.ai,(cB (⟨z.aA,z.aQ,z.aN,z.aE,z.count+1,z.events,z.aW⟩:Sp) e.ax op (⟨0,z.count+1,0,⟨[],([]:aj),0,(-1),0,0⟩,([]:List aj),([]:List au)⟩:Result)).aa.aC,(cB (⟨z.aA,z.aQ,z.aN,z.aE,z.count+1,z.events,z.aW⟩:Sp) e.ax op (⟨0,z.count+1,0,⟨[],([]:aj),0,(-1),0,0⟩,([]:List aj),([]:List au)⟩:Result)).aa.Next,(cB (⟨z.aA,z.aQ,z.aN,z.aE,z.count+1,z.events,z.aW⟩:Sp) e.ax op (⟨0,z.count+1,0,⟨[],([]:aj),0,(-1),0,0⟩,([]:List aj),([]:List au)⟩:Result)).aa.aF⟩,(cB (⟨z.aA,z.aQ,z.aN,z.aE,z.count+1,z.events,z.aW⟩:Sp) e.ax op (⟨0,z.count+1,0,⟨[],([]:aj),0,(-1),0,0⟩,([]:List aj),([]:List au)⟩:Result)).aX,ce⟩:Result)) 3 (l2.fs [1,3,3] rfl) ⟨_,_,_,_,_,rfl,dE,dT,gk⟩
     exact At.ke (fp _ _ (by repeat (first|assumption|exact aM.refl _|apply aM.trans)) (⟨(dH (⟨z.aA,z.aQ,z.aN,z.aE,z.count+1,z.events,z.aW⟩:Sp) e.ax op).aA,(dH (⟨z.aA,z.aQ,z.aN,z.aE,z.count+1,z.events,z.aW⟩:Sp) e.ax op).aQ,(dH (⟨z.aA,z.aQ,z.aN,z.aE,z.count+1,z.events,z.aW⟩:Sp) e.ax op).aN,(dH (⟨z.aA,z.aQ,z.aN,z.aE,z.count+1,z.events,z.aW⟩:Sp) e.ax op).aE,(dH (⟨z.aA,z.aQ,z.aN,z.aE,z.count+1,z.events,z.aW⟩:Sp) e.ax op).count,(eR ((dH (⟨z.aA,z.aQ,z.aN,z.aE,z.count+1,z.events,z.aW⟩:Sp) e.ax op).events) e.ax),(dH (⟨z.aA,z.aQ,z.aN,z.aE,z.count+1,z.events,z.aW⟩:Sp) e.ax op).aW⟩:Sp) (⟨(cB (⟨z.aA,z.aQ,z.aN,z.aE,z.count+1,z.events,z.aW⟩:Sp) e.ax op (⟨0,z.count+1,0,⟨[],([]:aj),0,(-1),0,0⟩,([]:List aj),([]:List au)⟩:Result)).Code,(cB (⟨z.aA,z.aQ,z.aN,z.aE,z.count+1,z.events,z.aW⟩:Sp) e.ax op (⟨0,z.count+1,0,⟨[],([]:aj),0,(-1),0,0⟩,([]:List aj),([]:List au)⟩:Result)).aU,(cB (⟨z.aA,z.aQ,z.aN,z.aE,z.count+1,z.events,z.aW⟩:Sp) e.ax op (⟨0,z.count+1,0,⟨[],([]:aj),0,(-1),0,0⟩,([]:List aj),([]:List au)⟩:Result)).At,⟨(cB (⟨z.aA,z.aQ,z.aN,z.aE,z.count+1,z.events,z.aW⟩:Sp) e.ax op (⟨0,z.count+1,0,⟨[],([]:aj),0,(-1),0,0⟩,([]:List aj),([]:List au)⟩:Result)).aa.af,(cB (⟨z.aA,z.aQ,z.aN,z.aE,z.count+1,z.events,z.aW⟩:Sp) e.ax op (⟨0,z.count+1,0,⟨[],([]:aj),0,(-1),0,0⟩,([]:List aj),([]:List au)⟩:Result)).aa.Data,(cB (⟨z.aA,z.aQ,z.aN,z.aE,z.count+1,z.events,z.aW⟩:Sp) e.ax op (⟨0,z.count+1,0,⟨[],([]:aj),0,(-1),0,0⟩,([]:List aj),([]:List au)⟩:Result)).aa.ai,(cB (⟨z.aA,z.aQ,z.aN,z.aE,z.count+1,z.events,z.aW⟩:Sp) e.ax op (⟨0,z.count+1,0,⟨[],([]:aj),0,(-1),0,0⟩,([]:List aj),([]:List au)⟩:Result)).aa.aC,(cB (⟨z.aA,z.aQ,z.aN,z.aE,z.count+1,z.events,z.aW⟩:Sp) e.ax op (⟨0,z.count+1,0,⟨[],([]:aj),0,(-1),0,0⟩,([]:List aj),([]:List au)⟩:Result)).aa.Next,(cB (⟨z.aA,z.aQ,z.aN,z.aE,z.count+1,z.events,z.aW⟩:Sp) e.ax op (⟨0,z.count+1,0,⟨[],([]:aj),0,(-1),0,0⟩,([]:List aj),([]:List au)⟩:Result)).aa.aF⟩,(cB (⟨z.aA,z.aQ,z.aN,z.aE,z.count+1,z.events,z.aW⟩:Sp) e.ax op (⟨0,z.count+1,0,⟨[],([]:aj),0,(-1),0,0⟩,([]:List aj),([]:List au)⟩:Result)).aX,ce⟩:Result) _ _ _ (bG _) (by rfl) (by exact SH ‹_›) l0 l3 ((l4.fs [1,2] rfl).drop))
   obtain⟨w0,l8,w1,ma,w2,md,w3,mf,I,mi,ml,X,Y,Z,ab,gs⟩:=be
   have ae:=St.un [l8,ma,md,mf,mi] ml (ad.fs [1] rfl)
   refine At.gh (by kernel_rfl) (fun _=>False) [(0,true),(1,true),(2,true),(4,true),(3,true),(5,true)] [(6,false),(7,false),(1008,false),(8,false)] [(7,false),(6,false),(1008,false),(8,false)] (by kernel_rfl) ?_ ?_
   ·show Op _ _ _ _ _ [(0,true),(1,true),(2,true),(4,true),(3,true),(5,true),(6,false),(7,false),(1008,false),(8,false)] _ _
    refine Op.px 4 [(54,vQ u 6),(56,vP G)]<|Op.lf 98 54 6 55 1 (.map (some I)) id (ae.ag 0 rfl)<|Op.lf 3 56 0 57 1 (vI e.ax) id (ae.ag 6 rfl) ?_
    obtain⟨bm,bo,w7,rfl,a6,bb⟩:=gs
    rcases bb.gS e.ax with ⟨d8,mp⟩|⟨xa,O,d8,mp,mx⟩
    ·refine Op.mn qj 98 55 57 58 e.ax (ae.ag 5 rfl) a6 d8<|Op.al 8 116 #[vI 0,vN] ae fun d9 xc my=>Op.ba<|Op.sg 116 8 58 0 0 #[vI 0,vN] my zt fun xf am=>Op.gt 8 ?_
     refine At.rp 6 1 [(60,vQ G 1)]<|Op.l1 3 60 61 1 (vI e.cw) (am.ag 7 rfl)<|Op.px 1 [(62,vP d9)]<|Op.l1 3 62 63 0 (vI 0) (am.ag 0 rfl)<|Op.pg 9 [(59,.bool (decide (e.cw<0)))] ?_
     refine At.fd (e.cw<0) 59 10 12 (fun xi=>?_) fun xn=>?_
     ·refine At.go 11 2 [(6,vN),(7,vF)] ?_
      have m0:=aH.zero 5 a_ D none
      have m1:jc D I y.aW [(I,.map bm bo)]:=⟨_,_,_,rfl,a6,bb⟩
      obtain⟨m2,m3,m4⟩:=St.bF (Q:=b9 D u y) 6 (am.nl.fs [1,1,7,7,7,7,7,7] rfl) ⟨_,_,_,_,_,_,_,_,_,_,rfl,X,Y,Z,ab,m1⟩
      exact At.rt sC<|hR (m4.fs [1,1,3,3] rfl).drop.drop ⟨vN,[],m2,bA rfl (bn (by exact(vD (b:=op) hy (gM ‹_› ‹_› ‹_› ‹_›) ‹_› ‹_›).2.1)),dP m0 (by exact(vD (b:=op) hy (gM ‹_› ‹_› ‹_› ‹_›) ‹_› ‹_›).1),m3.eq (by exact(vD (b:=op) hy (gM ‹_› ‹_› ‹_› ‹_›) ‹_› ‹_›).2.2),rfl⟩
     refine At.rp 6 1 [(66,vQ G 1)]<|Op.l1 3 66 67 1 (vI e.cw) (am.ag 7 rfl)<|Op.px 1 [(68,vP d9)]<|Op.l1 3 68 69 0 (vI 0) (am.ag 0 rfl)<|Op.pg 13 [(65,.bool (e.cw==0))] ?_
     refine At.fd (e.cw=0) 65 14 16 (fun xr=>?_) fun xt=>?_
     ·refine At.rp 5 1 [(71,vQ d9 1)]<|Op.l1 22 71 72 1 vN (am.ag 0 rfl)<|Op.c0 (some 73) (ny _ _ _ am.sub J _ _ (an.nil _ _ _) (by(try dsimp only)<;>omega)) am ?_
      rintro _ m5 _ xv m6 m7 ⟨yi,m8,rfl,g1,ca,rfl⟩;subst m5;clear m6
      obtain⟨ea,n331,rfl⟩:=g1.ak
      refine Op.pg 11 [(6,vL ea ((([]:aj)).length) n331),(7,vF)] ?_
      have m9:jc D I y.aW [(I,.map bm bo)]:=⟨_,_,_,rfl,a6,bb⟩
      obtain⟨na,nb,nd⟩:=St.bF (Q:=b9 D u y) 6 (m7.fs [1,1,7,7,7,7,7,7] rfl) ⟨_,_,_,_,_,_,_,_,_,_,rfl,X,Y,Z,ab,m9⟩
      exact At.rt (.tuple #[vL ea ((([]:aj)).length) n331,vF])<|hR (nd.fs [1,1,3,3] rfl).drop.drop ⟨(vL ea ((([]:aj)).length) n331),m8,na,bA rfl (bn (by exact(vG (b:=op) hy (gM ‹_› ‹_› ‹_› ‹_›) ‹_› ‹_›).2.1)),dP g1 (by exact(vG (b:=op) hy (gM ‹_› ‹_› ‹_› ‹_›) ‹_› ‹_›).1),nb.eq (by exact(vG (b:=op) hy (gM ‹_› ‹_› ‹_› ‹_›) ‹_› ‹_›).2.2),rfl⟩
     have nf:jc D I y.aW [(I,.map bm bo)]:=⟨_,_,_,rfl,a6,bb⟩
     obtain⟨yk,nm,nn⟩:=St.bF (Q:=b9 D u y) 6 (am.fs [6,6,6,6,6,6] rfl) ⟨_,_,_,_,_,_,_,_,_,_,rfl,X,Y,Z,ab,nf⟩
     exact At.ke (ck _ _ (by repeat (first|assumption|exact aM.refl _|apply aM.trans)) y _ _ (bG _) (by exact hy) (by exact b5) (by exact b6) (by exact(gM ‹_› ‹_› ‹_› ‹_›)) (by exact KM ‹_› ‹_› ‹_›) nm ((nn.fs [2,2] rfl).drop))
    obtain⟨yn,rfl,g2⟩:=mx
    obtain⟨eb,ed,rfl⟩:=g2.ak
    refine Op.mk qj 98 55 57 58 e.ax (.agg #[vI O.cX,vL eb (O.data.length) ed]) (ae.ag 5 rfl) a6 d8<|Op.al 8 116 #[vI 0,vN] ae fun ee yr no=>Op.ba<|Op.sg 116 8 58 0 0 #[vI O.cX,vL eb (O.data.length) ed] no zt fun yv ar=>Op.gt 8 ?_
    refine At.rp 6 1 [(60,vQ G 1)]<|Op.l1 3 60 61 1 (vI e.cw) (ar.ag 7 rfl)<|Op.px 1 [(62,vP ee)]<|Op.l1 3 62 63 0 (vI O.cX) (ar.ag 0 rfl)<|Op.pg 9 [(59,.bool (decide (e.cw<O.cX)))] ?_
    refine At.fd (e.cw<O.cX) 59 10 12 (fun y7=>?_) fun y8=>?_
    ·refine At.go 11 2 [(6,vN),(7,vF)] ?_
     have np:=aH.zero 5 a_ D none
     have nu:jc D I y.aW [(I,.map bm bo)]:=⟨_,_,_,rfl,a6,bb⟩
     obtain⟨nx,nz,n0⟩:=St.bF (Q:=b9 D u y) 6 (ar.nl.fs [1,1,7,7,7,7,7,7] rfl) ⟨_,_,_,_,_,_,_,_,_,_,rfl,X,Y,Z,ab,nu⟩
     exact At.rt sC<|hR (n0.fs [1,1,3,3] rfl).drop.drop ⟨vN,[],nx,bA rfl (bn (by exact(vE (b:=op) hy (gM ‹_› ‹_› ‹_› ‹_›) ‹_› ‹_›).2.1)),dP np (by exact(vE (b:=op) hy (gM ‹_› ‹_› ‹_› ‹_›) ‹_› ‹_›).1),nz.eq (by exact(vE (b:=op) hy (gM ‹_› ‹_› ‹_› ‹_›) ‹_› ‹_›).2.2),rfl⟩
    refine At.rp 6 1 [(66,vQ G 1)]<|Op.l1 3 66 67 1 (vI e.cw) (ar.ag 7 rfl)<|Op.px 1 [(68,vP ee)]<|Op.l1 3 68 69 0 (vI O.cX) (ar.ag 0 rfl)<|Op.pg 13 [(65,.bool (e.cw==O.cX))] ?_
    refine At.fd (e.cw=O.cX) 65 14 16 (fun z0=>?_) fun z1=>?_
    ·refine At.rp 5 1 [(71,vQ ee 1)]<|Op.l1 22 71 72 1 (vL eb (O.data.length) ed) (ar.ag 0 rfl)<|Op.c0 (some 73) (ny _ _ _ ar.sub J _ _ g2 (by((try dsimp only)<;>(exact KL e6 dd ‹_›)))) ar ?_
     rintro _ n3 _ z2 oi oj ⟨z3,ol,rfl,g3,ca,rfl⟩;subst n3;clear oi
     obtain⟨ef,eh,rfl⟩:=g3.ak
     refine Op.pg 11 [(6,vL ef (O.data.length) eh),(7,vF)] ?_
     have or:jc D I y.aW [(I,.map bm bo)]:=⟨_,_,_,rfl,a6,bb⟩
     obtain⟨ow,o3,o4⟩:=St.bF (Q:=b9 D u y) 6 (oj.fs [1,1,7,7,7,7,7,7] rfl) ⟨_,_,_,_,_,_,_,_,_,_,rfl,X,Y,Z,ab,or⟩
     exact At.rt (.tuple #[vL ef (O.data.length) eh,vF])<|hR (o4.fs [1,1,3,3] rfl).drop.drop ⟨(vL ef (O.data.length) eh),ol,ow,bA rfl (bn (by exact(vH (b:=op) hy (gM ‹_› ‹_› ‹_› ‹_›) ‹_› ‹_›).2.1)),dP g3 (by exact(vH (b:=op) hy (gM ‹_› ‹_› ‹_› ‹_›) ‹_› ‹_›).1),o3.eq (by exact(vH (b:=op) hy (gM ‹_› ‹_› ‹_› ‹_›) ‹_› ‹_›).2.2),rfl⟩
    have o5:jc D I y.aW [(I,.map bm bo)]:=⟨_,_,_,rfl,a6,bb⟩
    obtain⟨z4,pa,pb⟩:=St.bF (Q:=b9 D u y) 6 (ar.fs [6,6,6,6,6,6] rfl) ⟨_,_,_,_,_,_,_,_,_,_,rfl,X,Y,Z,ab,o5⟩
    exact At.ke (ck _ _ (by repeat (first|assumption|exact aM.refl _|apply aM.trans)) y _ _ (bG _) (by exact hy) (by exact b5) (by exact b6) (by exact(gM ‹_› ‹_› ‹_› ‹_›)) (by exact KN ‹_› ‹_› ‹_›) pa ((pb.fs [2,2] rfl).drop))
   show Op _ _ _ _ _ [(0,true),(1,true),(2,true),(4,true),(3,true),(5,true),(7,false),(6,false),(1008,false),(8,false)] _ _
   refine Op.px 4 [(54,vQ u 6),(56,vP G)]<|Op.lf 98 54 6 55 1 (.map (some I)) id (ae.ag 0 rfl)<|Op.lf 3 56 0 57 1 (vI e.ax) id (ae.ag 6 rfl)<|Op.al 8 116 #[vI 0,vN] ae fun bs z5 c9=>?_
   obtain⟨bt,b3,z6,rfl,a7,bc⟩:=gs
   rcases bc.gS e.ax with ⟨ej,pc⟩|⟨z7,U,ej,pc,pd⟩
   ·refine Op.mn qj 98 55 57 58 e.ax (c9.ag 6 rfl) a7 ej<|Op.ba<|Op.sg 116 8 58 0 0 #[vI 0,vN] c9 zt fun z8 aw=>Op.gt 8<|At.rp 6 1 [(60,vQ G 1)] ?_
    refine Op.l1 3 60 61 1 (vI e.cw) (aw.ag 7 rfl)<|Op.px 1 [(62,vP bs)]<|Op.l1 3 62 63 0 (vI 0) (aw.ag 0 rfl)<|Op.pg 9 [(59,.bool (decide (e.cw<0)))]<|At.fd (e.cw<0) 59 10 12 (fun z9=>?_) fun A0=>?_
    ·refine At.go 11 2 [(6,vN),(7,vF)] ?_
     have pf:=aH.zero 5 a_ D none
     have ph:jc D I y.aW [(I,.map bt b3)]:=⟨_,_,_,rfl,a7,bc⟩
     obtain⟨pj,pl,pm⟩:=St.bF (Q:=b9 D u y) 6 (aw.nl.fs [1,1,7,7,7,7,7,7] rfl) ⟨_,_,_,_,_,_,_,_,_,_,rfl,X,Y,Z,ab,ph⟩
     exact At.rt sC<|hR (pm.fs [1,1,3,3] rfl).drop.drop ⟨vN,[],pj,bA rfl (bn (by exact(vD (b:=op) hy (gM ‹_› ‹_› ‹_› ‹_›) ‹_› ‹_›).2.1)),dP pf (by exact(vD (b:=op) hy (gM ‹_› ‹_› ‹_› ‹_›) ‹_› ‹_›).1),pl.eq (by exact(vD (b:=op) hy (gM ‹_› ‹_› ‹_› ‹_›) ‹_› ‹_›).2.2),rfl⟩
    refine At.rp 6 1 [(66,vQ G 1)]<|Op.l1 3 66 67 1 (vI e.cw) (aw.ag 7 rfl)<|Op.px 1 [(68,vP bs)]<|Op.l1 3 68 69 0 (vI 0) (aw.ag 0 rfl)<|Op.pg 13 [(65,.bool (e.cw==0))] ?_
    refine At.fd (e.cw=0) 65 14 16 (fun A1=>?_) fun CH=>?_
    ·refine At.rp 5 1 [(71,vQ bs 1)]<|Op.l1 22 71 72 1 vN (aw.ag 0 rfl)<|Op.c0 (some 73) (ny _ _ _ aw.sub J _ _ (an.nil _ _ _) (by(try dsimp only)<;>omega)) aw ?_
     rintro _ po _ CM pu pv ⟨Eq,pw,rfl,g4,ca,rfl⟩;subst po;clear pu
     obtain⟨em,en,rfl⟩:=g4.ak
     refine Op.pg 11 [(6,vL em ((([]:aj)).length) en),(7,vF)] ?_
     have py:jc D I y.aW [(I,.map bt b3)]:=⟨_,_,_,rfl,a7,bc⟩
     obtain⟨pA,pB,pC⟩:=St.bF (Q:=b9 D u y) 6 (pv.fs [1,1,7,7,7,7,7,7] rfl) ⟨_,_,_,_,_,_,_,_,_,_,rfl,X,Y,Z,ab,py⟩
     exact At.rt (.tuple #[vL em ((([]:aj)).length) en,vF])<|hR (pC.fs [1,1,3,3] rfl).drop.drop ⟨(vL em ((([]:aj)).length) en),pw,pA,bA rfl (bn (by exact(vG (b:=op) hy (gM ‹_› ‹_› ‹_› ‹_›) ‹_› ‹_›).2.1)),dP g4 (by exact(vG (b:=op) hy (gM ‹_› ‹_› ‹_› ‹_›) ‹_› ‹_›).1),pB.eq (by exact(vG (b:=op) hy (gM ‹_› ‹_› ‹_› ‹_›) ‹_› ‹_›).2.2),rfl⟩
    have pD:jc D I y.aW [(I,.map bt b3)]:=⟨_,_,_,rfl,a7,bc⟩
    obtain⟨EQ,p0,p1⟩:=St.bF (Q:=b9 D u y) 6 (aw.fs [6,6,6,6,6,6] rfl) ⟨_,_,_,_,_,_,_,_,_,_,rfl,X,Y,Z,ab,pD⟩
    exact At.ke (ck _ _ (by repeat (first|assumption|exact aM.refl _|apply aM.trans)) y _ _ (bG _) (by exact hy) (by exact b5) (by exact b6) (by exact(gM ‹_› ‹_› ‹_› ‹_›)) (by exact KM ‹_› ‹_› ‹_›) p0 ((p1.fs [2,2] rfl).drop))
   obtain⟨Fd,rfl,g5⟩:=pd
   obtain⟨ep,er,rfl⟩:=g5.ak
   refine Op.mk qj 98 55 57 58 e.ax (.agg #[vI U.cX,vL ep (U.data.length) er]) (c9.ag 6 rfl) a7 ej<|Op.ba<|Op.sg 116 8 58 0 0 #[vI U.cX,vL ep (U.data.length) er] c9 zt fun Fn a0=>Op.gt 8<|At.rp 6 1 [(60,vQ G 1)] ?_
   refine Op.l1 3 60 61 1 (vI e.cw) (a0.ag 7 rfl)<|Op.px 1 [(62,vP bs)]<|Op.l1 3 62 63 0 (vI U.cX) (a0.ag 0 rfl)<|Op.pg 9 [(59,.bool (decide (e.cw<U.cX)))]<|At.fd (e.cw<U.cX) 59 10 12 (fun Fr=>?_) fun FS=>?_
   ·refine At.go 11 2 [(6,vN),(7,vF)] ?_
    have p2:=aH.zero 5 a_ D none
    have p3:jc D I y.aW [(I,.map bt b3)]:=⟨_,_,_,rfl,a7,bc⟩
    obtain⟨p8,qr,q0⟩:=St.bF (Q:=b9 D u y) 6 (a0.nl.fs [1,1,7,7,7,7,7,7] rfl) ⟨_,_,_,_,_,_,_,_,_,_,rfl,X,Y,Z,ab,p3⟩
    exact At.rt sC<|hR (q0.fs [1,1,3,3] rfl).drop.drop ⟨vN,[],p8,bA rfl (bn (by exact(vE (b:=op) hy (gM ‹_› ‹_› ‹_› ‹_›) ‹_› ‹_›).2.1)),dP p2 (by exact(vE (b:=op) hy (gM ‹_› ‹_› ‹_› ‹_›) ‹_› ‹_›).1),qr.eq (by exact(vE (b:=op) hy (gM ‹_› ‹_› ‹_› ‹_›) ‹_› ‹_›).2.2),rfl⟩
   refine At.rp 6 1 [(66,vQ G 1)]<|Op.l1 3 66 67 1 (vI e.cw) (a0.ag 7 rfl)<|Op.px 1 [(68,vP bs)]<|Op.l1 3 68 69 0 (vI U.cX) (a0.ag 0 rfl)<|Op.pg 13 [(65,.bool (e.cw==U.cX))] ?_
   refine At.fd (e.cw=U.cX) 65 14 16 (fun GE=>?_) fun GT=>?_
   ·refine At.rp 5 1 [(71,vQ bs 1)]<|Op.l1 22 71 72 1 (vL ep (U.data.length) er) (a0.ag 0 rfl)<|Op.c0 (some 73) (ny _ _ _ a0.sub J _ _ g5 (by((try dsimp only)<;>(exact KL e6 dd ‹_›)))) a0 ?_
    rintro _ q1 _ Ha q2 q3 ⟨Hb,ra,rfl,g6,ca,rfl⟩;subst q1;clear q2
    obtain⟨et,ex,rfl⟩:=g6.ak
    refine Op.pg 11 [(6,vL et (U.data.length) ex),(7,vF)] ?_
    have rb:jc D I y.aW [(I,.map bt b3)]:=⟨_,_,_,rfl,a7,bc⟩
    obtain⟨rc,rd,re⟩:=St.bF (Q:=b9 D u y) 6 (q3.fs [1,1,7,7,7,7,7,7] rfl) ⟨_,_,_,_,_,_,_,_,_,_,rfl,X,Y,Z,ab,rb⟩
    exact At.rt (.tuple #[vL et (U.data.length) ex,vF])<|hR (re.fs [1,1,3,3] rfl).drop.drop ⟨(vL et (U.data.length) ex),ra,rc,bA rfl (bn (by exact(vH (b:=op) hy (gM ‹_› ‹_› ‹_› ‹_›) ‹_› ‹_›).2.1)),dP g6 (by exact(vH (b:=op) hy (gM ‹_› ‹_› ‹_› ‹_›) ‹_› ‹_›).1),rd.eq (by exact(vH (b:=op) hy (gM ‹_› ‹_› ‹_› ‹_›) ‹_› ‹_›).2.2),rfl⟩
   have rf:jc D I y.aW [(I,.map bt b3)]:=⟨_,_,_,rfl,a7,bc⟩
   obtain⟨Hc,rh,rk⟩:=St.bF (Q:=b9 D u y) 6 (a0.fs [6,6,6,6,6,6] rfl) ⟨_,_,_,_,_,_,_,_,_,_,rfl,X,Y,Z,ab,rf⟩
   exact At.ke (ck _ _ (by repeat (first|assumption|exact aM.refl _|apply aM.trans)) y _ _ (bG _) (by exact hy) (by exact b5) (by exact b6) (by exact(gM ‹_› ‹_› ‹_› ‹_›)) (by exact KN ‹_› ‹_› ‹_›) rh ((rk.fs [2,2] rfl).drop))
 obtain⟨rr,rv,rx,r0,eA,r1,r2,r3,sc,sd,sf,eB,eI,sh,eJ,eK⟩:=g8
 have eL:=St.un [rv,r0,r1,r3,sd] sf (hb.fs [1] rfl)
 refine At.dw (fun _=>False) [(0,true),(1,true),(2,true),(3,true),(5,true),(4,true),(6,false),(7,true),(8,true),(9,true),(10,true),(1011,false),(11,false)]<|Op.px 5 [(12,vP u),(15,vQ u 3),(17,vQ G 2)]<|Op.lf 3 15 3 16 1 (vI s.aE) id (eL.ag 0 rfl)<|Op.l1 3 17 18 2 (vI e.cx) (eL.ag 6 rfl)<|Op.vl 19 (.int .i64 (if (1099511627775:Int)<e.cx then (1099511627775:Int) else e.cx)) (.int .i64 (min e.cx (1099511627775:Int))) (NT _ _) ?_
 refine Op.vl 20 (.int .i64 (if (min e.cx (1099511627775:Int))>s.aE then (min e.cx (1099511627775:Int)) else s.aE)) (.int .i64 (max s.aE (min e.cx (1099511627775:Int)))) (uX _ _)<|Op.px 2 [(22,vQ u 3)]<|Op.ba<|Op.s1 3 22 20 3 (vI (max s.aE (min e.cx (1099511627775:Int)))) 0 #[vP rr,vP rx,vP eA,vI (max s.aE (min e.cx (1099511627775:Int))),vI s.count,.map (some r2),.map (some sc)] eL zt fun Hd eQ=>Op.gt 2 ?_
 refine At.dw (fun _=>False) [(0,true),(1,true),(2,true),(3,true),(5,true),(6,true),(7,true),(4,true),(8,false),(1009,false),(9,false),(10,false)]<|Op.px 7 [(23,vP u),(26,vQ u 2),(30,vQ u 3)]<|Op.lf 95 26 2 27 1 (vP eA) id (eQ.ag 0 rfl)<|Op.l1 3 30 31 3 (vI (max s.aE (min e.cx (1099511627775:Int)))) (eQ.ag 0 rfl)<|Op.ba ?_
 have e1:=eQ.fs [2,2,2,3] rfl
 refine Op.cl (some 32) 1 e1 (PZ _ _ _ e1.sub J eA s.aN _ sh (max s.aE (min e.cx (1099511627775:Int))) (by(try dsimp only)<;>exact a1.aN) (St.pt 1 e1)) ?_
 rintro _ sk _ Hk sm so ⟨Hm,Hn,HA,rfl,g7,e2,ca,rfl⟩;subst sk;clear sm
 obtain⟨HB,HI,rfl⟩:=g7.ak
 obtain⟨ss,st,b4,sA⟩:=aH.freeze g7 (so.fs [1] rfl)
 replace eB:=eB.mono b4
 replace eI:=eI.mono b4
 replace eJ:=eJ.mono b4
 replace eK:=eK.mono b4
 replace J:=J.mono b4
 replace e2:=e2.mono b4
 obtain⟨H0,sB,e3⟩:=St.bF (Q:=b9 ss u (⟨s.aA,s.aQ,(mq (mu (max s.aE (min e.cx (1099511627775:Int)))) s.aN),(max s.aE (min e.cx (1099511627775:Int))),s.count,s.events,s.aW⟩:Sp)) 6 (st.fs [3,3,3] rfl) ⟨_,_,_,_,_,_,_,_,_,_,rfl,eB,eI,e2,eJ,eK⟩
 refine Op.cl (some 33) 1 e3 (JX _ _ _ e3.sub J u (⟨s.aA,s.aQ,(mq (mu (max s.aE (min e.cx (1099511627775:Int)))) s.aN),(max s.aE (min e.cx (1099511627775:Int))),s.count,s.events,s.aW⟩:Sp) _ sB _ _ sA (by(try dsimp only)<;>exact dA.mk a1.tree a1.wl a1.ws (a1.aN.left _) a1.quo) (by((try dsimp only)<;>(exact cH a1.aN.SF (by decide)))) (St.pt 1 e3)) ?_
 rintro _ H1 _ H2 H3 sT ⟨H4,rfl,s0,rfl⟩
 exact Op.gt 3<|At.ke (he _ _ (by repeat (first|assumption|exact aM.refl _|apply aM.trans)) (lW (⟨s.aA,s.aQ,(mq (mu (max s.aE (min e.cx (1099511627775:Int)))) s.aN),(max s.aE (min e.cx (1099511627775:Int))),s.count,s.events,s.aW⟩:Sp) (jP (mu (max s.aE (min e.cx (1099511627775:Int)))) s.aN)) _ _ (bG _) (by rfl) (by exact a1.xQ _) (by exact vB) (by exact KA) s0 (sT.fs [1] rfl))
theorem SJ {α:Type} {x:List (Int×α)} (hs:fR x):dJ (x.map (·.1))=x.map (·.1):=Dd (by rw[sY];exact hs)
theorem D3 {α:Type} {x:List (Int×α)} {i k:Int} (hs:fR x) (hx:(dJ (x.map (·.1)))[i.toNat]?=some k):∃a,x[i.toNat]?=some (k,a)∧cy x k=some a:=by
  rw[SJ hs,jC] at hx
  cases h:x[i.toNat]? with
  |none=>rw[h] at hx;cases hx
  |some p=>
   rw[h] at hx
   obtain⟨D,u⟩:=p
   simp only[lI,ey] at hx
   subst hx
   exact⟨u,rfl,(mo hs).2 (bY h)⟩
theorem vJ {α:Type} {x:List (Int×α)} {i k:Int} (hs:fR x) (hx:(dJ (x.map (·.1)))[i.toNat]?=some k) (hf:cy x k=none):False:=by
  obtain⟨s,_,h⟩:=D3 hs hx
  rw[hf] at h;cases h
structure D4 (s:Sp):Prop where
  W:dA s
  se:fR s.events
  sr:fR s.aW
  el:s.events.length≤1000
  rl:s.aW.length≤1000
  rp:∀p∈s.aW,p.2.data.length≤1000000000
theorem bO.SK {k:Int} {s:Sp} (H:bO k s) (hk:k≤1000000):D4 s:=
  ⟨H.wk hk,H.ev.sort,H.jX.sort,cH H.Sq (by decide),cH (KC H.jX.sort fun p hp=>(H.jX.ok p hp).1) (by decide),fun p hp=>cH (H.jX.ok p hp).2.2 (by decide)⟩
section
variable {s:Sp} {im:ie} {i k:Int} {xs:List au} {a a2:iO}
def sE (s:Sp) (im:ie) (i:Int):Prop:=im=⟨s.aE,s.count,s.aA,s.aQ,s.aN.map (·.2),((s.events.take i.toNat).map (·.2)).flatten,[]⟩
def sF (s:Sp) (im:ie) (i:Int):Prop:=im=⟨s.aE,s.count,s.aA,s.aQ,s.aN.map (·.2),(s.events.map (·.2)).flatten,(s.aW.take i.toNat).map fun p=>⟨p.1,p.2.cX,p.2.data⟩⟩
theorem Ay:sE s ⟨s.aE,s.count,s.aA,s.aQ,s.aN.map (·.2),[],[]⟩ 0:=rfl
theorem SL (hs:fR s.events) (H:sE s im i) (h0:0≤i) (hx:(dJ (s.events.map (·.1)))[i.toNat]?=some k) (hf:cy s.events k=some xs):sE s ⟨im.cx,im.aU,im.jq,im.jG,im.jH,im.aP++xs,im.ig⟩ (i+1):=by
  obtain⟨a,h1,h2⟩:=D3 hs hx
  rw[hf] at h2
  obtain rfl:=gI h2
  unfold sE at *
  subst H
  rw[toNat_succ h0,fP h1]
  simp
theorem SM (H:sE s im i) (h:¬i<((dJ (s.events.map (·.1))).length:Int)):sF s im 0:=by
  unfold sE sF at *
  rw[k_,ew] at h
  rw[fF (by omega)] at H
  exact H
theorem D5 (hs:fR s.aW) (H:sF s im i) (h0:0≤i) (hx:(dJ (s.aW.map (·.1)))[i.toNat]?=some k) (hf:cy s.aW k=some a) (u:cy s.aW k=some a2):
    sF s ⟨im.cx,im.aU,im.jq,im.jG,im.jH,im.aP,im.ig++[⟨k,a.cX,a2.data⟩]⟩ (i+1):=by
  obtain⟨D,h1,h2⟩:=D3 hs hx
  rw[hf] at u
  obtain rfl:=gI u
  rw[hf] at h2
  obtain rfl:=gI h2
  unfold sF at *
  subst H
  rw[toNat_succ h0,fP h1]
  simp
theorem vK (H:sF s im i) (h:¬i<((dJ (s.aW.map (·.1))).length:Int)):im=qW s:=by
  unfold sF at H
  rw[k_,ew] at h
  rw[fF (by omega)] at H
  exact H
theorem D6 (hd:∀p∈s.aW,p.2.data.length≤1000000000) (hs:fR s.aW) (hf:cy s.aW k=some a):a.data.length≤1000000000:=hd (k,a) ((mo hs).1 hf)
theorem D7 (h:qe s.aQ s.events) (hf:cy s.events k=some xs):xs.length≤8:=by
  have:=h k
  unfold eE at this
  rw[hf] at this
  show xs.length≤8
  have h2:(Option.getD (some xs) []).length≤8:=by omega
  exact h2
end
inductive LU where
  |seq (L:List (Nat×Bool))
  |mv (i:Nat) (b:Bool) (t:LU)
  |gh (i j:Nat) (A B:LU)
def LU.bw:LU→List (Nat×Bool)
  |.seq L=>L
  |.mv i b t=>(i,b)::t.bw
  |.gh i j A B=>(3000,false)::(i,false)::(A.bw++(4000,false)::(j,false)::B.bw)
def LU.gD (P:Program) (ops:Array Oper) (S2:World→Prop) (K:Act→World→Prop):LU→Mv
  |.seq L=>fun S a w=>kP P ops S2 S L K a w
  |.mv i true t=>uo P ops i (t.gD P ops S2 K)
  |.mv i false t=>gv P ops S2 i (t.gD P ops S2 K)
  |.gh i j A B=>fun S a w=>gv P ops S2 i (A.gD P ops S2 K) S a w∧gv P ops S2 j (B.gD P ops S2 K) S a w
def LU.low:LU→Bool
  |.seq L=>L.all fun p=>!(Nat.ble 3000 p.1)
  |.mv i b t=>(b||!(Nat.ble 3000 i))&&t.low
  |.gh i j A B=>!(Nat.ble 3000 i)&&(!(Nat.ble 3000 j)&&(A.low&&B.low))
def LU.size:LU→Nat
  |.seq L=>gw L
  |.mv _ _ t=>t.size+1
  |.gh _ _ A B=>max A.size B.size+1
def LU.ok (ops:Array Oper) (kb:Nat):LU→Array Bool→Bool
  |.seq L,listed=>mL ops kb false L listed
  |.mv i true t,listed=>Region.free .any ops listed i&&(Region.ready .any ops listed).contains i&&(!(Nat.beq i kb)&&((!(qq ops i)||((ops[kb]?).isNone||depOn ops 10 kb i))&&t.ok ops kb (listed.setIfInBounds i true)))
  |.mv i false t,listed=>!(Nat.ble 1000 i)&&(!(Nat.beq i kb)&&((Region.ready .any ops listed==[i])&&t.ok ops kb (listed.setIfInBounds i true)))
  |.gh i j A B,listed=>!(Nat.ble 1000 i)&&(!(Nat.ble 1000 j)&&(!(Nat.beq i kb)&&(!(Nat.beq j kb)&&(((Region.ready .any ops listed==[i,j])||(Region.ready .any ops listed==[j,i]))&&(A.ok ops kb (listed.setIfInBounds i true)&&B.ok ops kb (listed.setIfInBounds j true))))))
section
variable {P:Program} {ops:Array Oper} {S2:World→Prop} {K:Act→World→Prop} {kb:Nat}
theorem KR:∀(L M:List (Nat×Bool)) (u:List Mv),(L.all fun p=>!(Nat.ble 3000 p.1))=true→dO P ops S2 K M=(fun _=>K)::u→dO P ops S2 K (L++M)=(fun S a w=>kP P ops S2 S L K a w)::u
  |[],M,u,_,h=>h
  |(i,b)::L,M,u,hl,h=>by
   rw[jD,bZ] at hl
   have ih:=KR L M u hl.2 h
   have h3:Nat.ble 3000 i=false:=by simpa using hl.1
   cases b with
   |true=>
    show uo P ops i (Mv.top (dO P ops S2 K (L++M)))::Mv.iJ (dO P ops S2 K (L++M))=_
    rw[ih];rfl
   |false=>
    show(bif Nat.ble 3000 i then _ else gv P ops S2 i (Mv.top (dO P ops S2 K (L++M)))::Mv.iJ (dO P ops S2 K (L++M)))=_
    rw[h3,ih]
    refine congrArg (·::u) ?_
    funext S a w
    show _=Mv.top (bif Nat.ble 3000 i then _ else _) S a w
    rw[h3];rfl
theorem t_:∀(t:LU) (L:List (Nat×Bool)) (u:List Mv),t.low=true→dO P ops S2 K L=(fun _=>K)::u→dO P ops S2 K (t.bw++L)=t.gD P ops S2 K::u
  |.seq M,L,u,hl,h=>KR M L u hl h
  |.mv i b t,L,u,hl,h=>by
   simp only[LU.low,bZ] at hl
   have ih:=t_ t L u hl.2 h
   cases b with
   |true=>
    show uo P ops i (Mv.top (dO P ops S2 K (t.bw++L)))::Mv.iJ (dO P ops S2 K (t.bw++L))=_
    rw[ih];rfl
   |false=>
    have h3:Nat.ble 3000 i=false:=by simpa using hl.1
    show(bif Nat.ble 3000 i then _ else gv P ops S2 i (Mv.top (dO P ops S2 K (t.bw++L)))::Mv.iJ (dO P ops S2 K (t.bw++L)))=_
    rw[h3,ih];rfl
  |.gh i j A B,L,u,hl,h=>by
   simp only[LU.low,bZ,gz] at hl
   obtain⟨h1,h2,hA,hB⟩:=hl
   have D:=t_ B L u hB h
   have G:dO P ops S2 K ((j,false)::(B.bw++L))=gv P ops S2 j (B.gD P ops S2 K)::u:=by
     show(bif Nat.ble 3000 j then _ else gv P ops S2 j (Mv.top (dO P ops S2 K (B.bw++L)))::Mv.iJ (dO P ops S2 K (B.bw++L)))=_
     rw[h2,D];rfl
   have I:=t_ A ((4000,false)::(j,false)::(B.bw++L)) (gv P ops S2 j (B.gD P ops S2 K)::u) hA (by
     show(fun _=>K)::dO P ops S2 K ((j,false)::(B.bw++L))=_
     rw[G])
   have J:dO P ops S2 K ((i,false)::(A.bw++(4000,false)::(j,false)::(B.bw++L)))=gv P ops S2 i (A.gD P ops S2 K)::gv P ops S2 j (B.gD P ops S2 K)::u:=by
     show(bif Nat.ble 3000 i then _ else gv P ops S2 i (Mv.top (dO P ops S2 K (A.bw++(4000,false)::(j,false)::(B.bw++L))))::Mv.iJ (dO P ops S2 K (A.bw++(4000,false)::(j,false)::(B.bw++L))))=_
     rw[h1,I];rfl
   have e:(LU.gh i j A B).bw++L=(3000,false)::(i,false)::(A.bw++(4000,false)::(j,false)::(B.bw++L)):=by
     show(3000,false)::(i,false)::((A.bw++(4000,false)::(j,false)::B.bw)++L)=_
     rw[cJ];rfl
   rw[e]
   show(fun S a w=>Mv.top (dO P ops S2 K ((i,false)::(A.bw++(4000,false)::(j,false)::(B.bw++L)))) S a w∧Mv.top (Mv.iJ (dO P ops S2 K ((i,false)::(A.bw++(4000,false)::(j,false)::(B.bw++L))))) S a w)::
     Mv.iJ (Mv.iJ (dO P ops S2 K ((i,false)::(A.bw++(4000,false)::(j,false)::(B.bw++L)))))=_
   rw[J];rfl
theorem SN:∀(t:LU) (T:World→Prop) (listed:Array Bool) (a:Act) (w:World) (bH:Nat),t.size≤bH→qY ops listed→t.ok ops kb listed=true→listed.getD kb false=false→
    t.gD P ops S2 K T a w→oC P ops kb T K bH listed a w:=by
  intro t
  induction t with
  |seq L=>exact fun T listed a w bH hf hcl hok D h=>x9 L kb T false T listed a w bH hf hcl hok (fun _=>⟨rfl,D⟩) (fun hz=>by cases hz) h
  |mv i b t ih=>
   intro T listed a w bH hf hcl hok D h
   obtain⟨bH,rfl⟩:∃m,bH=m+1:=⟨bH-1,by simp[LU.size] at hf;omega⟩
   have I:t.size≤bH:=by simp[LU.size] at hf;omega
   cases b with
   |true=>
    obtain⟨o,v,hi,hd,hy,hS,h⟩:=h
    simp only[LU.ok,bZ,gz,ji] at hok
    obtain⟨⟨h1,h2⟩,h3,h4,h5⟩:=hok
    have hik:i≠kb:=fun e=>by subst e;simp at h3
    have h2:i∈Region.ready .any ops listed:=by simpa using h2
    have J:=ih T (listed.setIfInBounds i true) (a.put o.dst v) w bH I (l9 hcl h2) h5 (by rw[getD_set_ne false hik];exact D) h
    cases hn:mK o with
    |false=>
     rw[hn] at hy
     exact qZ (S':=fun _=>True) hi hd hik (.inl fun _=>trivial) bH listed a w hcl (.inl fun _=>trivial) (Region.free_spec hi h1) h2 (by simpa using hy) trivial (fun _=>hS) J
    |true=>
     rw[hn,aY rfl] at hy
     have hne:qq ops i=true:=by simp[qq,hi,hn]
     rw[hne] at h4
     simp only[AZ,false_or] at h4
     refine qZ (S':=T) hi hd hik (.inr ⟨fun _ h=>h,fun ok hok=>?_⟩) bH listed a w hcl (.inr D) (Region.free_spec hi h1) h2 hy hS (fun _=>hS) J
     rcases h4 with h4|h4
     · rw[hok] at h4;simp at h4
     · exact⟨10,h4⟩
   |false=>
    simp only[LU.ok,bZ,gz,jZ] at hok
    obtain⟨h1,h4,h2,h3⟩:=hok
    have hik:i≠kb:=fun e=>by subst e;simp at h4
    have G:i∈Region.ready .any ops listed:=by rw[h2];simp
    have h:iV P ops i (fun u w'=>T w'∧t.gD P ops S2 K T u w') a w:=by
      have h':gv P ops S2 i (t.gD P ops S2 K) T a w:=h
      unfold gv at h'
      rwa[aL (by rw[h1];simp)] at h'
    refine⟨fun h0=>(by rw[h0] at G;cases G),fun k hk=>?_⟩
    rw[h2] at hk
    obtain rfl:k=i:=by simpa using hk
    exact mJ (fun u w' h'=>⟨fun _=>h'.1,ih T _ u w' bH I (l9 hcl G) h3 (by rw[getD_set_ne false hik];exact D) h'.2⟩) h
  |gh i j A B O U=>
   intro T listed a w bH hf hcl hok D h
   obtain⟨bH,rfl⟩:∃m,bH=m+1:=⟨bH-1,by simp[LU.size] at hf;omega⟩
   have V:A.size≤bH:=by simp[LU.size] at hf;omega
   have X:B.size≤bH:=by simp[LU.size] at hf;omega
   simp only[LU.ok,bZ,gz,ji,jZ] at hok
   obtain⟨h1,h2,h4,h5,h3,hA,hB⟩:=hok
   have hik:i≠kb:=fun e=>by subst e;simp at h4
   have hjk:j≠kb:=fun e=>by subst e;simp at h5
   have G:i∈Region.ready .any ops listed:=by rcases h3 with h3|h3<;>rw[h3]<;>simp
   have Y:j∈Region.ready .any ops listed:=by rcases h3 with h3|h3<;>rw[h3]<;>simp
   obtain⟨g1,g2⟩:=h
   have g1:iV P ops i (fun u w'=>T w'∧A.gD P ops S2 K T u w') a w:=by unfold gv at g1;rwa[aL (by rw[h1];simp)] at g1
   have g2:iV P ops j (fun u w'=>T w'∧B.gD P ops S2 K T u w') a w:=by unfold gv at g2;rwa[aL (by rw[h2];simp)] at g2
   refine⟨fun h0=>(by rw[h0] at G;cases G),fun k hk=>?_⟩
   have hkk:k=i∨k=j:=by rcases h3 with h3|h3<;>rw[h3] at hk<;>simp at hk<;>omega
   rcases hkk with rfl|rfl
   · exact mJ (fun u w' h'=>⟨fun _=>h'.1,O T _ u w' bH V (l9 hcl G) hA (by rw[getD_set_ne false hik];exact D) h'.2⟩) g1
   · exact mJ (fun u w' h'=>⟨fun _=>h'.1,U T _ u w' bH X (l9 hcl Y) hB (by rw[getD_set_ne false hjk];exact D) h'.2⟩) g2
end
section
variable {C:ff} {ds:List Deferred} {i:Nat} {e:Env} {h r:ay} {M:Nat→Prop}
def KS (k:List Item) (kb:Nat) (t:LU):Bool:=match q9 k with
  |some ops=>Nat.ble t.size ops.size&&(t.low&&t.ok ops kb (Array.replicate ops.size false))
  |none=>false
theorem At.KT (hm:C.P.follows .mixedOrders=true) (M:Nat→Prop) (kb:Nat) (t:LU) (hL:KS (pt C.code i) kb t=true) (H:Op C ds i h M t.bw e h):At C ds i e h:=by
  intro a w f is
  have H:=H a {w with drawn:=w.drawn+1} f is.nQ (dB.refl _ _)
  generalize pt C.code i=k at *
  unfold KS at hL
  split at hL
  · rename_i ops hd
    unfold q9 at hd
    split at hd
    · rename_i id u k'
      simp only[ey] at hd
      subst hd
      simp only[bZ] at hL
      have h1:=jz hL.1
      have hs:=t_ (P:=C.P) (ops:=u) (S2:=holds C #[] fun _=>True) (K:=fun a w=>dY C.P C.ro C.fn C.Q k' a w) t [] [] hL.2.1 rfl
      rw[dm] at hs
      refine dY.nQ hm fun D=>x7 (kb:=kb) (S:=holds C h M) _ _ _ _ _ (SN (S2:=holds C #[] fun _=>True) t _ _ _ _ _ h1 ?_ hL.2.2 ?_ ?_)
      · intro k o ho hk
        have hlt:k<u.size:=(lF.1 ho).1
        simp[hlt] at hk
      · simp only[ya,yb];split<;>rfl
      · have H:Mv.top (dO C.P u (holds C #[] fun _=>True) (fun a w=>dY C.P C.ro C.fn C.Q k' a w) t.bw) (holds C h M) a {w with drawn:=w.drawn+1}:=H
        rw[hs] at H
        exact H
    · cases hd
  · cases hL
theorem Op.SO (D u:LU) {A B L:List (Nat×Bool)} (hA:D.low=true) (hB:u.low=true) (U:D.bw=A) (V:u.bw=B) (X:A++(4000,false)::B=L) (G:Op C ds i r M A e h) (I:Op C ds i r M B e h):Op C ds i r M ((3000,false)::L) e h:=by
  intro a w f is hk
  have G:=G a w f is hk
  have I:=I a w f is hk
  subst U V X
  unfold kP at *
  generalize (fun a w=>dY C.P C.ro C.fn C.Q (pt C.code i).tail a w)=K at *
  have J:=t_ (P:=C.P) (ops:=g_ (pt C.code i)) (S2:=holds C #[] fun _=>True) (K:=K) D [] [] hA rfl
  have O:=t_ (P:=C.P) (ops:=g_ (pt C.code i)) (S2:=holds C #[] fun _=>True) (K:=K) u [] [] hB rfl
  rw[dm] at J O
  have s2:=t_ (P:=C.P) (ops:=g_ (pt C.code i)) (S2:=holds C #[] fun _=>True) (K:=K) D ((4000,false)::u.bw) (dO C.P (g_ (pt C.code i)) (holds C #[] fun _=>True) K u.bw) hA rfl
  rw[J] at G
  rw[O] at I s2
  show Mv.top (dO C.P (g_ (pt C.code i)) (holds C #[] fun _=>True) K (D.bw++(4000,false)::u.bw)) _ a w∧Mv.top (Mv.iJ (dO C.P (g_ (pt C.code i)) (holds C #[] fun _=>True) K (D.bw++(4000,false)::u.bw))) _ a w
  rw[s2]
  exact⟨G,I⟩
theorem Op.xS {j k:Nat} {A B:LU} (u:Op C ds i r M ((j,false)::A.bw) e h) (D:Op C ds i r M ((k,false)::B.bw) e h) (hA:A.low=true:=by rfl) (hB:B.low=true:=by rfl) (hj:Nat.ble 3000 j=false:=by rfl) (hk:Nat.ble 3000 k=false:=by rfl):Op C ds i r M (LU.gh j k A B).bw e h:=
  Op.SO (.mv j false A) (.mv k false B) (by simp[LU.low,hj,hA]) (by simp[LU.low,hk,hB]) rfl rfl rfl u D
end
def oW (g:GH) (b:Nat) (x:ie) (c:az):Prop:=∃v2 c2 v3 u v4 D v5 G v6 I,c=(b,.cells #[.int .i64 x.cx,.int .i64 x.aU,v2,v3,v4,v5,v6] 64 (0,0))::(c2++(u++(D++(G++I))))∧aH 39 rG g v2 x.jq c2∧aH 45 cA g v3 x.jG u∧aH 152 uK g v4 x.jH D∧aH 45 cA g v5 x.aP G∧aH 118 qE g v6 x.ig I
theorem SP (g0:GH) (bd D:Nat) (x:List (Int×(List au))) (J:g0 bd=some (.cells #[.map (some D)] 97 (0,0))) (ab:tW g0 D x):jl prog g0 81 #[vP bd] pX (fun b5=>b5.Perm (x.map (·.1))):=by
 intro B h g l I go c be hg a3 a4 b6 b8 hs
 replace J:=be _ _ J
 replace ab:=ab.mono be
 refine aG.aq func81 fun R hR=>At.rg 2<|Op.l1 97 1 4 0 (.map (some D)) (hs.sub _ _ J) ?_
 obtain⟨bi,bj,a5,G,ad,ae⟩:=ab
 have ab:tW g D x:=⟨bi,bj,a5,G,ad,ae⟩
 refine Op.s_ (d:=.int .i64) (z:=vN) (mt:=97) (x:=4) (dst:=5) (m:=D) (by kernel_rfl) (by kernel_rfl) (by kernel_rfl) (hs.sub _ _ G) ad hs fun O ca ci cb ce=>Op.gt 1 ?_
 have cf:∀(m:Nat) (am:GH) (U:aM g am) (vs:List (Int×Value)) (rs:List (Int×Value)) (c1:az) (o1:Obj) (a6:ay) (hm:rs.length<m) (ar:go (vs.map (·.1))=true) (aw:qH go (vs.map (·.1))) (X:(vs++rs).Perm a5) (a7:I (vs.map (·.1)) am c1) (bk:kZ encI bi bj D vs rs o1) (a0:St h g (aS [c]) am [[(O,o1)],c1] a6),At (bP prog B 81 f81 R) [] 1 [(0,.func (.yield l) #[] #[]),(5,vP O)] a6:=by
  intro m;induction m with
  |zero=>intros;omega
  |succ m ch=>
   intro am U vs rs c1 o1 a6 hm ar aw X a7 bk a0
   replace a3:=a3.mono U
   replace a4:=a4.mono U
   replace J:=U _ _ J
   replace G:=U _ _ G
   refine At.rg 2<|Op.wV (x:=5) (dst:=6) (it:=O) (m:=D) (by kernel_rfl) (by kernel_rfl) (a0.sub _ _ G) ad bk a0 0 rfl zt ⟨fun V=>?_,fun Y u a1 Z a8 ck V bm a9=>?_⟩
   ·exact Op.pg 2 [(7,vF)]<|At.cQ 7 7<|At.rt eY<|hR a0.drop ⟨(vs.map (·.1)),vs.map (·.1),c1,rfl,by exact xk X V (ae.2.2.1),by exact rB _,by exact fun _=>rfl,by exact aw,rfl,a7⟩
   refine Op.pg 2 [(7,vT)]<|At.bT 7 3<|At.rg 3<|Op.wW (x:=5) (dst:=8) (it:=O) (m:=D) (vs:=vs) (k:=u) (v:=a1) (by kernel_rfl) (by kernel_rfl) (a9.sub _ _ G) ad bm (a9.ag 0 rfl)<|Op.pg 4 [(3,vI u)] ?_
   refine At.rp 4 2 [(10,.func (.yield l) #[] #[]),(11,vI u)] ?_
   have bo:=a9.fs [1] rfl
   refine Op.yield (dst:=some 12) (x:=10) (ops:=#[11]) (ts:=#[3]) (l:=l) (args:=#[vI u]) (Lc:=[c1]) (L:=[[(O,a8)]]) (by kernel_rfl) (by kernel_rfl) (by kernel_rfl) bo (a4 _ _ (vs.map (·.1)) u _ _ (by repeat (first|assumption|exact aM.refl _|apply aM.trans)) a3 (by exact ar) (by rfl) ⟨((vs++[(u,a1)])++(Y++Z)).map (·.1),by exact pT X V (ae.2.2.1),by exact⟨(Y++Z).map (·.1),by simp⟩⟩ a7 (St.part (Lc:=[c1]) (L:=[[(O,a8)]]) bo)) (fun _ _ _=>trivial) ?_
   rintro _ co _ c3 bs bt ⟨b3,rfl,rfl,b4⟩
   replace J:=bs _ _ J
   replace G:=bs _ _ G
   refine Op.pg 5 [(13,.bool (!(go (vs.map (·.1)++[u]))))]<|At.cW (!(go (vs.map (·.1)++[u]))) 13 6 1 (fun bb=>?_) fun bc=>?_
   ·replace bb:=(dn bb)
    exact At.rt eY<|hR ((bt.fs [1] rfl).drop) ⟨((vs++[(u,a1)])++(Y++Z)).map (·.1),vs.map (·.1)++[u],b3,rfl,by exact pT X V (ae.2.2.1),by exact⟨(Y++Z).map (·.1),by simp⟩,by exact fun h=>absurd h (iT.1 bb),by exact n6 aw ar,rfl,b4⟩
   replace bc:=(dr bc)
   exact At.ke (ch _ (aM.trans U (by repeat (first|assumption|apply aM.trans))) (vs++[(u,a1)]) (Y++Z) b3 a8 _ (by have hz:=congrArg List.length V;simp only[b_,bJ] at hz ⊢;omega) (by simpa using bc) (by simpa using n6 (x:=u) aw ar) (by exact rM X V) (by simpa using b4) bm (bt.fs [1] rfl))
 exact At.ke (cf _ _ (aM.refl _) [] a5 c ca _ (bG _) (by exact b6) (by exact uY go) (by exact ga _) (by exact b8) cb ce)
theorem SQ (B:World) (h:ay) (g:GH) (hg:bu g h) (ab:bz g) (u:Nat) (x:List (Int×(List au))) (G:tW g u x):
  aG prog B 57 #[.map (some u)] h g [] (fun V g' L'=>∃f0 I,V=.func (.func f0) #[] I∧eg prog f0∧jl prog g' f0 I pX (fun X=>X.Perm (x.map (·.1)))∧L'=[]):=by
 refine aG.aq func57 fun R hR=>At.rg 2<|Op.bx 1 97 0 #[.map (some u)] (St.init hg) fun D ad Y=>Op.pg 1 []<|At.go 2 2 [(2,.func (.func 81) #[] #[vP D])] ?_
 obtain⟨J,O⟩:=St.freeze (Y)
 have U:=iK (g:=g) D (.cells #[.map (some u)] 97 (0,0))
 generalize Z:cS g _=ae at J O U;clear Z
 replace G:=G.mono O
 exact At.rt (.func (.func 81) #[] #[vP D]) (hR J ⟨81,#[vP D],rfl,eg.of (by kernel_rfl),SP _ D u x U G,rfl⟩)
theorem SR (g0:GH) (bd D:Nat) (x:List (Int×iO)) (J:g0 bd=some (.cells #[.map (some D)] 98 (0,0))) (ab:tX g0 D x):jl prog g0 82 #[vP bd] pX (fun b5=>b5.Perm (x.map (·.1))):=by
 intro B h g l I go c be hg a3 a4 b6 b8 hs
 replace J:=be _ _ J
 replace ab:=ab.mono be
 refine aG.aq func82 fun R hR=>At.rg 2<|Op.l1 98 1 4 0 (.map (some D)) (hs.sub _ _ J) ?_
 obtain⟨bi,bj,a5,G,ad,ae⟩:=ab
 have ab:tX g D x:=⟨bi,bj,a5,G,ad,ae⟩
 refine Op.s_ (d:=.int .i64) (z:=.agg #[vI 0,vN]) (mt:=98) (x:=4) (dst:=5) (m:=D) (by kernel_rfl) (by kernel_rfl) (by kernel_rfl) (hs.sub _ _ G) ad hs fun O ca ci cb ce=>Op.gt 1 ?_
 have cf:∀(m:Nat) (am:GH) (U:aM g am) (vs:List (Int×Value)) (rs:List (Int×Value)) (c1:az) (o1:Obj) (a6:ay) (hm:rs.length<m) (ar:go (vs.map (·.1))=true) (aw:qH go (vs.map (·.1))) (X:(vs++rs).Perm a5) (a7:I (vs.map (·.1)) am c1) (bk:kZ encI bi bj D vs rs o1) (a0:St h g (aS [c]) am [[(O,o1)],c1] a6),At (bP prog B 82 f82 R) [] 1 [(0,.func (.yield l) #[] #[]),(5,vP O)] a6:=by
  intro m;induction m with
  |zero=>intros;omega
  |succ m ch=>
   intro am U vs rs c1 o1 a6 hm ar aw X a7 bk a0
   replace a3:=a3.mono U
   replace a4:=a4.mono U
   replace J:=U _ _ J
   replace G:=U _ _ G
   refine At.rg 2<|Op.wV (x:=5) (dst:=6) (it:=O) (m:=D) (by kernel_rfl) (by kernel_rfl) (a0.sub _ _ G) ad bk a0 0 rfl zt ⟨fun V=>?_,fun Y u a1 Z a8 ck V bm a9=>?_⟩
   ·exact Op.pg 2 [(7,vF)]<|At.cQ 7 7<|At.rt eY<|hR a0.drop ⟨(vs.map (·.1)),vs.map (·.1),c1,rfl,by exact xk X V (ae.2.2.1),by exact rB _,by exact fun _=>rfl,by exact aw,rfl,a7⟩
   refine Op.pg 2 [(7,vT)]<|At.bT 7 3<|At.rg 3<|Op.wW (x:=5) (dst:=8) (it:=O) (m:=D) (vs:=vs) (k:=u) (v:=a1) (by kernel_rfl) (by kernel_rfl) (a9.sub _ _ G) ad bm (a9.ag 0 rfl)<|Op.pg 4 [(3,vI u)] ?_
   refine At.rp 4 2 [(10,.func (.yield l) #[] #[]),(11,vI u)] ?_
   have bo:=a9.fs [1] rfl
   refine Op.yield (dst:=some 12) (x:=10) (ops:=#[11]) (ts:=#[3]) (l:=l) (args:=#[vI u]) (Lc:=[c1]) (L:=[[(O,a8)]]) (by kernel_rfl) (by kernel_rfl) (by kernel_rfl) bo (a4 _ _ (vs.map (·.1)) u _ _ (by repeat (first|assumption|exact aM.refl _|apply aM.trans)) a3 (by exact ar) (by rfl) ⟨((vs++[(u,a1)])++(Y++Z)).map (·.1),by exact pT X V (ae.2.2.1),by exact⟨(Y++Z).map (·.1),by simp⟩⟩ a7 (St.part (Lc:=[c1]) (L:=[[(O,a8)]]) bo)) (fun _ _ _=>trivial) ?_
   rintro _ co _ c3 bs bt ⟨b3,rfl,rfl,b4⟩
   replace J:=bs _ _ J
   replace G:=bs _ _ G
   refine Op.pg 5 [(13,.bool (!(go (vs.map (·.1)++[u]))))]<|At.cW (!(go (vs.map (·.1)++[u]))) 13 6 1 (fun bb=>?_) fun bc=>?_
   ·replace bb:=(dn bb)
    exact At.rt eY<|hR ((bt.fs [1] rfl).drop) ⟨((vs++[(u,a1)])++(Y++Z)).map (·.1),vs.map (·.1)++[u],b3,rfl,by exact pT X V (ae.2.2.1),by exact⟨(Y++Z).map (·.1),by simp⟩,by exact fun h=>absurd h (iT.1 bb),by exact n6 aw ar,rfl,b4⟩
   replace bc:=(dr bc)
   exact At.ke (ch _ (aM.trans U (by repeat (first|assumption|apply aM.trans))) (vs++[(u,a1)]) (Y++Z) b3 a8 _ (by have hz:=congrArg List.length V;simp only[b_,bJ] at hz ⊢;omega) (by simpa using bc) (by simpa using n6 (x:=u) aw ar) (by exact rM X V) (by simpa using b4) bm (bt.fs [1] rfl))
 exact At.ke (cf _ _ (aM.refl _) [] a5 c ca _ (bG _) (by exact b6) (by exact uY go) (by exact ga _) (by exact b8) cb ce)
theorem SS (B:World) (h:ay) (g:GH) (hg:bu g h) (ab:bz g) (u:Nat) (x:List (Int×iO)) (G:tX g u x):
  aG prog B 58 #[.map (some u)] h g [] (fun V g' L'=>∃f0 I,V=.func (.func f0) #[] I∧eg prog f0∧jl prog g' f0 I pX (fun X=>X.Perm (x.map (·.1)))∧L'=[]):=by
 refine aG.aq func58 fun R hR=>At.rg 2<|Op.bx 1 98 0 #[.map (some u)] (St.init hg) fun D ad Y=>Op.pg 1 []<|At.go 2 2 [(2,.func (.func 82) #[] #[vP D])] ?_
 obtain⟨J,O⟩:=St.freeze (Y)
 have U:=iK (g:=g) D (.cells #[.map (some u)] 98 (0,0))
 generalize Z:cS g _=ae at J O U;clear Z
 replace G:=G.mono O
 exact At.rt (.func (.func 82) #[] #[vP D]) (hR J ⟨82,#[vP D],rfl,eg.of (by kernel_rfl),SR _ D u x U G,rfl⟩)
set_option maxHeartbeats 12000000 in
theorem SU (B:World) (h:ay) (g:GH) (hg:bu g h) (G:bz g) (I:Nat) (s:Sp) (bd:az) (ll:b9 g I s bd) (hp:D4 s) (hs:St h g (aS [bd]) g [bd] h):
  aG prog B 24 #[vP I] h g [bd] (fun lm g' L'=>∃v0 fr v1 ft v2 fv v3 fw v4 fx f0,lm=.agg #[.int .i64 ((qW s).cx),.int .i64 ((qW s).aU),v0,v1,v2,v3,v4]∧aH 39 rG g' v0 ((qW s).jq) fr∧aH 45 cA g' v1 ((qW s).jG) ft∧aH 152 uK g' v2 ((qW s).jH) fv∧aH 45 cA g' v3 ((qW s).aP) fw∧aH 118 qE g' v4 ((qW s).ig) fx∧b9 g' I s f0∧L'=[f0,fr,ft,fv,fw,fx]):=by
 refine aG.aq func24 fun R hR=>At.rg 1<|Op.al 2 64 sD hs fun bm xr ln=>Op.gt 1 ?_
 have c9:∀(m:Nat) (be:GH) (f1:aM g be) (y:Sp) (da:ie) (ea:az) (U:Nat) (eb:az) (ed:ay) (hm:0<m) (hy:y=s) (hq:D4 y) (ee:sE y da 0) (f2:b9 be I y ea) (f3:oW be U da eb) (f4:St h g (aS [bd]) be [[(bm,Obj.cells sD 64 (0,0))],ea,eb] ed),At (bP prog B 24 f24 R) [] 2 [(0,vP I),(2,vP bm),(3,vP U)] ed:=by
  intro m;induction m with
  |zero=>intros;omega
  |succ m xt=>
   intro be f1 y da ea U eb ed hm hy hq ee f2 f3 f4
   replace G:=G.mono f1
   refine At.rp 8 3 [(34,vQ I 5)] ?_
   obtain⟨f5,db,f6,dc,f7,dd,a7,lr,a5,f8,lv,cf,ch,ci,f9,df⟩:=f2
   have gc:=St.un [db,dc,dd,lr,f8] lv (f4.fs [1] rfl)
   refine Op.l1 97 34 35 5 (.map (some a7)) (gc.ag 0 rfl) ?_
   have ck:=gc.fs [3,3,3,3,4] rfl
   have lw:=kg.fK f9 ck (fun p hp=>hp)
   have ge:=ck.freeze.1
   have gg:=ck.freeze.2
   have dg:=G.mono gg
   refine Op.c0 (some 36) (SQ _ _ _ ge.sub dg a7 y.events lw) ge ?_
   rintro _ xv _ yi lx gk ⟨f55,ly,rfl,lA,lL,rfl⟩
   replace dg:=dg.mono lx
   refine Op.c0 (some 37) (Dz _ _ _ gk.sub dg f55 ly (y.events.map (·.1)) lA lL (by((try dsimp only)<;>((have:=hq.el;have:=hq.rl;rw[ew];omega))))) gk ?_
   rintro _ lO _ yk l0 l2 ⟨yn,ef,rfl,bo,J,rfl⟩;subst lO;clear l0
   obtain⟨l3,gn,rfl⟩:=bo.ak
   have l4:=ck.uC (l2.xq (aM.trans ck.le gg) (by repeat (first|assumption|exact aM.refl _|apply aM.trans)))
   replace bo:=bo.bw (fun _ _ _ _ h=>h) (g':=be)
   refine Op.pg 3 [(38,vI ((dJ (y.events.map (·.1))).length:Int)),(39,vI 0)] ?_
   obtain⟨gs,g1,yr,eh,l8,g2,bs⟩:=f9
   have ma:∀(m:Nat) (bi:GH) (a6:aM be bi) (im:ie) (i:Int) (ej:az) (em:ay) (hm:(dJ (y.events.map (·.1))).length-i.toNat<m) (h0:0≤i) (h1:i≤(dJ (y.events.map (·.1))).length) (hI:sE y im i) (hn:(im.aP.length:Int)≤8*i) (en:oW bi U im ej) (co:St h g (aS [bd]) bi [[(a7,.map gs g1)],eh,ef,[(I,Obj.cells #[vP f5,vP f6,vP f7,vI y.aE,vI y.count,.map (some a7),.map (some a5)] 100 (0,0))],db,dc,dd,f8,[(bm,Obj.cells sD 64 (0,0))],ej] em),At (bP prog B 24 f24 R) [] 3 [(0,vP I),(2,vP bm),(3,vP U),(37,vL l3 ((dJ (y.events.map (·.1))).length) gn),(38,vI ((dJ (y.events.map (·.1))).length:Int)),(39,vI i)] em:=by
    intro m;induction m with
    |zero=>intros;omega
    |succ m md=>
     intro bi a6 im i ej em hm h0 h1 hI hn en co
     replace cf:=cf.mono a6
     replace ch:=ch.mono a6
     replace ci:=ci.mono a6
     replace df:=df.mono a6
     replace bo:=bo.mono a6
     replace G:=G.mono a6
     replace bs:=bs.mono a6
     refine At.go 4 1 [(40,.bool (decide (i<((dJ (y.events.map (·.1))).length:Int))))]<|At.fd (i<((dJ (y.events.map (·.1))).length:Int)) 40 5 8 (fun yv=>?_) fun y7=>?_
     ·refine At.rg 3 ?_
      obtain⟨bt,ep⟩:=bW (dJ (y.events.map (·.1))) i
      obtain⟨mf,g3,y8,z0,mi,ml,er⟩:=h_.bB (bo.toH co 2 rfl) _ ep
      cases mi
      refine Op.iq 78 3 1 8 ((dJ (y.events.map (·.1))).length) gn 37 39 41 mf g3 i ?_
      replace er:cut _ _ _=[vI bt]:=er
      refine Op.l1 3 41 42 (g3+i.toNat*1) (vI bt) ml ?_ (hv:=bN er 0 rfl)
      refine Op.pg 6 [(5,vI bt)] ?_
      obtain⟨z1,mp,z2,mx,z3,my,z4,m0,z5,m1,m2,g4,g5,g6,g7,g8⟩:=en
      obtain⟨m3,m4,rfl⟩:=g4.ak
      obtain⟨m5,m6,rfl⟩:=g5.ak
      obtain⟨m7,m8,rfl⟩:=g6.ak
      obtain⟨a117,m9,rfl⟩:=g7.ak
      obtain⟨a119,n120,rfl⟩:=g8.ak
      have et:=St.un [mp,mx,my,m0,m1] m2 (co.fs [8,8,8,8,8,8,8,8,8,9] rfl)
      refine At.dw (fun _=>False) [(0,true),(2,true),(3,true),(4,true),(6,true),(1,true),(5,false),(7,false),(1008,false),(8,false),(9,true),(10,false)]<|Op.px 5 [(43,vQ U 5),(47,vQ I 5),(49,vI bt)]<|Op.lf 41 43 5 44 1 (vL a117 im.aP.length m9) id (et.ag 0 rfl)<|Op.l1 97 47 48 5 (.map (some a7)) (et.ag 9 rfl) ?_
      rcases bs.gS bt with ⟨g9,dj,na⟩|⟨z6,b3,z7,z8,g9,dj,ha,hb,na⟩
      ·exfalso;exact vJ hq.se ep dj
      obtain⟨nb,nd,rfl⟩:=ha.ak
      have ex:=St.si hb (et.fs [6,6,6,6,6,6,6,7] rfl)
      refine Op.mk (.slice none 0 0) 97 48 49 50 bt (vL nb b3.length nd) (ex.ag 8 rfl) g2 g9<|Op.ba ?_
      obtain⟨z9,nf,nm⟩:=cT.slice (P:=prog) (ha.toH ex 0 rfl)
      refine Op.ap 44 50 41 41 51 45 32 cA (ys:=b3) g7 ex 6 nm (by(have h7:=D7 hq.W.quo ‹_›;have h8:=hq.el;have h9:=h1;rw[k_,ew] at h9;omega)) (fun _ _ _=>trivial) nf fun v139 A0 A1 he nn CH=>?_
      obtain⟨hf,n146,rfl⟩:=he.ak
      refine Op.px 1 [(52,vQ U 5)]<|Op.s1 41 52 51 5 (vL hf ((im.aP++b3).length) n146) 2 #[vI im.cx,vI im.aU,vL m3 im.jq.length m4,vL m5 im.jG.length m6,vL m7 im.jH.length m8,vL hf ((im.aP++b3).length) n146,vL a119 im.ig.length n120] nn zt fun CM no=>Op.gt 7<|At.rg 2<|Op.cO 53 (i+1) (by omega) (by(have h7:=D7 hq.W.quo ‹_›;have h8:=hq.el;have h9:=h1;rw[k_,ew] at h9;omega)) ?_
      refine Op.pg 3 [(39,vI (i+1))] ?_
      obtain⟨Eq,np,nu⟩:=St.bF (Q:=oW bi U (⟨im.cx,im.aU,im.jq,im.jG,im.jH,im.aP++b3,im.ig⟩:ie)) 6 (no.fs [1,1,7,7,7,7,7,7] rfl) ⟨_,_,_,_,_,_,_,_,_,_,rfl,g4,g5,g6,he,g8⟩
      exact At.ke (md _ a6 (⟨im.cx,im.aU,im.jq,im.jG,im.jH,im.aP++b3,im.ig⟩:ie) (i+1) _ _ (by omega) (by omega) (by omega) (by exact SL hq.se hI h0 ep dj) (by(have h7:=D7 hq.W.quo dj;simp only[b_];omega)) np ((St.tw hb (nu.fs [2,2] rfl)).fs [1,9,9,9,9,9,9,9,8,9] rfl))
     refine At.rp 8 3 [(56,vQ I 6)]<|Op.l1 98 56 57 6 (.map (some a5)) (co.ag 3 rfl) ?_
     have c3:=co.fs [6,6,6,6,6,6,6,7] rfl
     have nx:=jc.fK df c3 (fun p hp=>hp)
     have hh:=c3.freeze.1
     have hj:=c3.freeze.2
     have dk:=G.mono hj
     refine Op.c0 (some 58) (SS _ _ _ hh.sub dk a5 y.aW nx) hh ?_
     rintro _ EQ _ Fd nz hl ⟨f163,n0,rfl,n3,oi,rfl⟩
     replace dk:=dk.mono nz
     refine Op.c0 (some 59) (Dz _ _ _ hl.sub dk f163 n0 (y.aW.map (·.1)) n3 oi (by((try dsimp only)<;>((have:=hq.el;have:=hq.rl;rw[k_,ew] at *;omega))))) hl ?_
     rintro _ oj _ Fn ol or ⟨v171,ho,rfl,b4,J,rfl⟩;subst oj;clear ol
     obtain⟨ow,hr,rfl⟩:=b4.ak
     have o3:=c3.uC (or.xq (aM.trans c3.le hj) (by repeat (first|assumption|exact aM.refl _|apply aM.trans)))
     replace b4:=b4.bw (fun _ _ _ _ h=>h) (g':=bi)
     refine Op.pg 9 [(60,vI ((dJ (y.aW.map (·.1))).length:Int)),(61,vI 0)] ?_
     obtain⟨hu,hw,Fr,rfl,b5,a8⟩:=df
     have o4:∀(m:Nat) (bj:GH) (Z:aM bi bj) (u:ie) (j:Int) (eA:az) (eB:ay) (hm:(dJ (y.aW.map (·.1))).length-j.toNat<m) (h4:0≤j) (h5:j≤(dJ (y.aW.map (·.1))).length) (ae:sF y u j) (hm:(u.ig.length:Int)≤j) (eI:oW bj U u eA) (dl:St h g (aS [bd]) bj [[(a5,.map hu hw)],ho,[(a7,.map gs g1)],eh,ef,[(I,Obj.cells #[vP f5,vP f6,vP f7,vI y.aE,vI y.count,.map (some a7),.map (some a5)] 100 (0,0))],db,dc,dd,[(bm,Obj.cells sD 64 (0,0))],eA] eB),At (bP prog B 24 f24 R) [] 9 [(0,vP I),(2,vP bm),(3,vP U),(59,vL ow ((dJ (y.aW.map (·.1))).length) hr),(60,vI ((dJ (y.aW.map (·.1))).length:Int)),(61,vI j)] eB:=by
      intro m;induction m with
      |zero=>intros;omega
      |succ m eJ=>
       intro bj Z u j eA eB hm h4 h5 ae hm eI dl
       replace b4:=b4.mono Z
       replace cf:=cf.mono Z
       replace ch:=ch.mono Z
       replace ci:=ci.mono Z
       replace G:=G.mono Z
       replace bs:=bs.mono Z
       replace a8:=a8.mono (fun _ _=>qf.mono Z)
       refine At.go 10 1 [(62,.bool (decide (j<((dJ (y.aW.map (·.1))).length:Int))))]<|At.fd (j<((dJ (y.aW.map (·.1))).length:Int)) 62 11 14 (fun FS=>?_) fun GE=>?_
       ·refine At.rg 3 ?_
        obtain⟨D,b6⟩:=bW (dJ (y.aW.map (·.1))) j
        obtain⟨o5,hx,GT,Ha,pa,pb,eK⟩:=h_.bB (b4.toH dl 1 rfl) _ b6
        cases pa
        refine Op.iq 78 3 1 8 ((dJ (y.aW.map (·.1))).length) hr 59 61 63 o5 hx j ?_
        replace eK:cut _ _ _=[vI D]:=eK
        refine Op.l1 3 63 64 (hx+j.toNat*1) (vI D) pb ?_ (hv:=bN eK 0 rfl)
        refine Op.pg 12 [(7,vI D)] ?_
        obtain⟨Hb,hz,Hc,hA,Hd,hB,Hk,hC,Hm,hD,pc,am,ar,aw,a0,a1⟩:=eI
        obtain⟨eL,n217,rfl⟩:=am.ak
        obtain⟨a218,n219,rfl⟩:=ar.ak
        obtain⟨eQ,n221,rfl⟩:=aw.ak
        obtain⟨a222,e1,rfl⟩:=a0.ak
        obtain⟨pd,n225,rfl⟩:=a1.ak
        have V:=St.un [hz,hA,hB,hC,hD] pc (dl.fs [9,9,9,9,9,9,9,9,9,9,10] rfl)
        refine At.KT (by kernel_rfl) (aS [hz,hA,hB,hC,hD,ho,ef,db,dc,dd]) 22 (.mv 0 true (.mv 2 true (.mv 3 true (.mv 4 true (.mv 5 true (.mv 7 true (.mv 10 true (.mv 11 true (.mv 12 true (.mv 14 true (.mv 1 true (.mv 6 true (.mv 13 true (.gh 8 15 (.seq [(9,true),(15,false),(16,true),(17,false),(18,true),(19,false),(20,false),(21,true),(1022,false),(22,false)]) (.mv 16 true (.gh 8 17 (.seq [(9,true),(17,false),(18,true),(19,false),(20,false),(21,true),(1022,false),(22,false)]) (.seq [(8,false),(9,true),(18,true),(19,false),(20,false),(21,true),(1022,false),(22,false)]))))))))))))))))) (by kernel_rfl)<|Op.px 10 [(65,vQ U 6),(67,vI D),(70,vQ I 6),(72,vI D),(77,vQ I 6),(79,vI D)]<|Op.lf 62 65 6 66 1 (vL pd u.ig.length n225) (V.fy 0 [1,2,3,4,5,7,10,12,13,14] rfl rfl rfl) (V.ag 0 rfl)<|Op.lf 98 70 6 71 1 (.map (some a5)) (V.fy 11 [1,2,3,4,5,7,10,12,13,14] rfl rfl rfl) (V.ag 11 rfl)<|Op.lf 98 77 6 78 1 (.map (some a5)) (V.fy 11 [1,2,3,4,5,7,10,12,13,14] rfl rfl rfl) (V.ag 11 rfl) ?_
        refine Op.xS ?_ ?_
        ·rcases a8.gS D with ⟨hE,hF⟩|⟨v228,a229,hE,hF,pf⟩
         ·exfalso;exact vJ hq.sr b6 hF
         obtain⟨Hn,rfl,ph⟩:=pf
         obtain⟨pj,n236,rfl⟩:=ph.ak
         refine Op.mk qj 98 71 72 73 D (.agg #[vI a229.cX,vL pj (a229.data.length) n236]) (V.ag 6 rfl) b5 hE<|Op.px 1 [(74,vI a229.cX)] ?_
         rcases a8.gS D with ⟨hG,hH⟩|⟨HA,ab,hG,hH,pl⟩
         ·exfalso;exact vJ hq.sr b6 hH
         obtain⟨HB,rfl,hJ⟩:=pl
         obtain⟨hK,hL,rfl⟩:=hJ.ak
         refine Op.mk qj 98 78 79 80 D (.agg #[vI ab.cX,vL hK (ab.data.length) hL]) (V.ag 6 rfl) b5 hG<|Op.px 1 [(81,vL hK (ab.data.length) hL)]<|Op.c0 (some 82) (ny _ _ _ V.sub G _ _ hJ (by((try dsimp only)<;>(exact D6 hq.rp hq.sr ‹_›)))) V ?_
         rintro _ pm _ HI po pu ⟨H0,H1,rfl,hN,J,rfl⟩;subst pm;clear po
         obtain⟨e2,e3,rfl⟩:=hN.ak
         refine Op.px 1 [(83,.agg #[vI D,vI a229.cX,vL e2 (ab.data.length) e3])] ?_
         obtain⟨pv,pw,c4,py⟩:=aH.freeze hN (pu)
         replace am:=am.mono c4
         replace ar:=ar.mono c4
         replace aw:=aw.mono c4
         replace a0:=a0.mono c4
         replace a1:=a1.mono c4
         refine Op.ls 84 1 118 #[vI D,vI a229.cX,vL e2 (ab.data.length) e3] pw fun H2 H3 hO=>Op.ap 66 84 62 62 85 118 40 qE (ys:=[(⟨D,a229.cX,ab.data⟩:gV)]) a1 hO 6 (⟨_,_,rfl,⟨_,py,rfl⟩,Reads.nil⟩) (by(have:=hq.el;have:=hq.rl;rw[k_,ew] at *;simp only[bJ,cF];omega)) (fun p hq _=>⟨p,by simp[hq],rfl⟩) (cT.lit (m:=1) (sz:=3) (hO.ag 0 rfl) (news:=[vI D,vI a229.cX,vL e2 (ab.data.length) e3]) rfl rfl (by simp[Value.oneCell']) _) fun H4 H5 Id hP pA If=>?_
         obtain⟨hQ,hS,rfl⟩:=hP.ak
         refine Op.px 1 [(86,vQ U 6)]<|Op.ba<|Op.s1 62 86 85 6 (vL hQ ((u.ig++([(⟨D,a229.cX,ab.data⟩:gV)])).length) hS) 0 #[vI u.cx,vI u.aU,vL eL u.jq.length n217,vL a218 u.jG.length n219,vL eQ u.jH.length n221,vL a222 u.aP.length e1,vL hQ ((u.ig++([(⟨D,a229.cX,ab.data⟩:gV)])).length) hS] ((pA).drop) zt fun IH pB=>Op.gt 13<|At.rg 2 ?_
         refine Op.cO 87 (j+1) (by omega) (by(have:=hq.el;have:=hq.rl;rw[k_,ew] at *;omega))<|Op.pg 9 [(61,vI (j+1))] ?_
         obtain⟨IO,pC,pD⟩:=St.bF (Q:=oW pv U (⟨u.cx,u.aU,u.jq,u.jG,u.jH,u.aP,u.ig++([(⟨D,a229.cX,ab.data⟩:gV)])⟩:ie)) 6 pB ⟨_,_,_,_,_,_,_,_,_,_,rfl,am,ar,aw,a0,hP⟩
         exact At.ke (eJ _ (aM.trans Z (by repeat (first|assumption|apply aM.trans))) (⟨u.cx,u.aU,u.jq,u.jG,u.jH,u.aP,u.ig++([(⟨D,a229.cX,ab.data⟩:gV)])⟩:ie) (j+1) _ _ (by omega) (by omega) (by omega) (by exact D5 hq.sr ae h4 ‹_› ‹_› ‹_›) (by(simp only[b_,bJ,cF];omega)) pC (pD.fs [10,10,10,10,10,10,10,10,10,10] rfl))
        rcases a8.gS D with ⟨hT,hV⟩|⟨IR,O,hT,hV,p0⟩
        ·exfalso;exact vJ hq.sr b6 hV
        obtain⟨I8,rfl,e4⟩:=p0
        obtain⟨hW,n285,rfl⟩:=e4.ak
        refine Op.mk qj 98 78 79 80 D (.agg #[vI O.cX,vL hW (O.data.length) n285]) (V.ag 6 rfl) b5 hT<|Op.px 1 [(81,vL hW (O.data.length) n285)]<|Op.xS ?_ ?_
        ·rcases a8.gS D with ⟨hX,hY⟩|⟨Ly,ad,hX,hY,p1⟩
         ·exfalso;exact vJ hq.sr b6 hY
         obtain⟨LE,rfl,p2⟩:=p1
         obtain⟨p3,n294,rfl⟩:=p2.ak
         refine Op.mk qj 98 71 72 73 D (.agg #[vI ad.cX,vL p3 (ad.data.length) n294]) (V.ag 6 rfl) b5 hX<|Op.px 1 [(74,vI ad.cX)]<|Op.c0 (some 82) (ny _ _ _ V.sub G _ _ e4 (by((try dsimp only)<;>(exact D6 hq.rp hq.sr ‹_›)))) V ?_
         rintro _ p8 _ LO qr q0 ⟨M2,Ne,rfl,hZ,J,rfl⟩;subst p8;clear qr
         obtain⟨e5,n301,rfl⟩:=hZ.ak
         refine Op.px 1 [(83,.agg #[vI D,vI ad.cX,vL e5 (O.data.length) n301])] ?_
         obtain⟨q1,q2,c5,q3⟩:=aH.freeze hZ (q0)
         replace am:=am.mono c5
         replace ar:=ar.mono c5
         replace aw:=aw.mono c5
         replace a0:=a0.mono c5
         replace a1:=a1.mono c5
         refine Op.ls 84 1 118 #[vI D,vI ad.cX,vL e5 (O.data.length) n301] q2 fun Nm NE h2=>Op.ap 66 84 62 62 85 118 40 qE (ys:=[(⟨D,ad.cX,O.data⟩:gV)]) a1 h2 6 (⟨_,_,rfl,⟨_,q3,rfl⟩,Reads.nil⟩) (by(have:=hq.el;have:=hq.rl;rw[k_,ew] at *;simp only[bJ,cF];omega)) (fun p hq _=>⟨p,by simp[hq],rfl⟩) (cT.lit (m:=1) (sz:=3) (h2.ag 0 rfl) (news:=[vI D,vI ad.cX,vL e5 (O.data.length) n301]) rfl rfl (by simp[Value.oneCell']) _) fun Ok Or Os h3 ra Pi=>?_
         obtain⟨h6,n318,rfl⟩:=h3.ak
         refine Op.px 1 [(86,vQ U 6)]<|Op.ba<|Op.s1 62 86 85 6 (vL h6 ((u.ig++([(⟨D,ad.cX,O.data⟩:gV)])).length) n318) 0 #[vI u.cx,vI u.aU,vL eL u.jq.length n217,vL a218 u.jG.length n219,vL eQ u.jH.length n221,vL a222 u.aP.length e1,vL h6 ((u.ig++([(⟨D,ad.cX,O.data⟩:gV)])).length) n318] ((ra).drop) zt fun Pl rb=>Op.gt 13<|At.rg 2 ?_
         refine Op.cO 87 (j+1) (by omega) (by(have:=hq.el;have:=hq.rl;rw[k_,ew] at *;omega))<|Op.pg 9 [(61,vI (j+1))] ?_
         obtain⟨Ps,rc,rd⟩:=St.bF (Q:=oW q1 U (⟨u.cx,u.aU,u.jq,u.jG,u.jH,u.aP,u.ig++([(⟨D,ad.cX,O.data⟩:gV)])⟩:ie)) 6 rb ⟨_,_,_,_,_,_,_,_,_,_,rfl,am,ar,aw,a0,h3⟩
         exact At.ke (eJ _ (aM.trans Z (by repeat (first|assumption|apply aM.trans))) (⟨u.cx,u.aU,u.jq,u.jG,u.jH,u.aP,u.ig++([(⟨D,ad.cX,O.data⟩:gV)])⟩:ie) (j+1) _ _ (by omega) (by omega) (by omega) (by exact D5 hq.sr ae h4 ‹_› ‹_› ‹_›) (by(simp only[b_,bJ,cF];omega)) rc (rd.fs [10,10,10,10,10,10,10,10,10,10] rfl))
        refine Op.c0 (some 82) (ny _ _ _ V.sub G _ _ e4 (by((try dsimp only)<;>(exact D6 hq.rp hq.sr ‹_›)))) V ?_
        rintro _ re _ PH rf ib ⟨PP,PQ,rfl,ih,J,rfl⟩;subst re;clear rf
        obtain⟨e6,n332,rfl⟩:=ih.ak
        rcases a8.gS D with ⟨ii,ik⟩|⟨P1,a3,ii,ik,rh⟩
        ·exfalso;exact vJ hq.sr b6 ik
        obtain⟨P2,rfl,rk⟩:=rh
        obtain⟨rr,n343,rfl⟩:=rk.ak
        refine Op.mk qj 98 71 72 73 D (.agg #[vI a3.cX,vL rr (a3.data.length) n343]) (ib.ag 7 rfl) b5 ii<|Op.px 2 [(83,.agg #[vI D,vI a3.cX,vL e6 (O.data.length) n332])] ?_
        obtain⟨rv,rx,c6,r0⟩:=aH.freeze ih (ib)
        replace am:=am.mono c6
        replace ar:=ar.mono c6
        replace aw:=aw.mono c6
        replace a0:=a0.mono c6
        replace a1:=a1.mono c6
        refine Op.ls 84 1 118 #[vI D,vI a3.cX,vL e6 (O.data.length) n332] rx fun QP QQ il=>Op.ap 66 84 62 62 85 118 40 qE (ys:=[(⟨D,a3.cX,O.data⟩:gV)]) a1 il 6 (⟨_,_,rfl,⟨_,r0,rfl⟩,Reads.nil⟩) (by(have:=hq.el;have:=hq.rl;rw[k_,ew] at *;simp only[bJ,cF];omega)) (fun p hq _=>⟨p,by simp[hq],rfl⟩) (cT.lit (m:=1) (sz:=3) (il.ag 0 rfl) (news:=[vI D,vI a3.cX,vL e6 (O.data.length) n332]) rfl rfl (by simp[Value.oneCell']) _) fun QR Rd RK io r1 R2=>?_
        obtain⟨ip,is,rfl⟩:=io.ak
        refine Op.px 1 [(86,vQ U 6)]<|Op.ba<|Op.s1 62 86 85 6 (vL ip ((u.ig++([(⟨D,a3.cX,O.data⟩:gV)])).length) is) 0 #[vI u.cx,vI u.aU,vL eL u.jq.length n217,vL a218 u.jG.length n219,vL eQ u.jH.length n221,vL a222 u.aP.length e1,vL ip ((u.ig++([(⟨D,a3.cX,O.data⟩:gV)])).length) is] ((r1).drop) zt fun So r2=>Op.gt 13<|At.rg 2 ?_
        refine Op.cO 87 (j+1) (by omega) (by(have:=hq.el;have:=hq.rl;rw[k_,ew] at *;omega))<|Op.pg 9 [(61,vI (j+1))] ?_
        obtain⟨ST,r3,sc⟩:=St.bF (Q:=oW rv U (⟨u.cx,u.aU,u.jq,u.jG,u.jH,u.aP,u.ig++([(⟨D,a3.cX,O.data⟩:gV)])⟩:ie)) 6 r2 ⟨_,_,_,_,_,_,_,_,_,_,rfl,am,ar,aw,a0,io⟩
        exact At.ke (eJ _ (aM.trans Z (by repeat (first|assumption|apply aM.trans))) (⟨u.cx,u.aU,u.jq,u.jG,u.jH,u.aP,u.ig++([(⟨D,a3.cX,O.data⟩:gV)])⟩:ie) (j+1) _ _ (by omega) (by omega) (by omega) (by exact D5 hq.sr ae h4 ‹_› ‹_› ‹_›) (by(simp only[b_,bJ,cF];omega)) r3 (sc.fs [10,10,10,10,10,10,10,10,10,10] rfl))
       refine At.rg 2 ?_
       obtain⟨T1,iv,T2,i0,Uu,i1,Uv,i3,Uw,i4,sd,i5,i6,i7,i8,i9⟩:=eI
       obtain⟨dp,dq,rfl⟩:=i5.ak
       obtain⟨du,dv,rfl⟩:=i6.ak
       obtain⟨dC,dE,rfl⟩:=i7.ak
       obtain⟨dT,d0,rfl⟩:=i8.ak
       obtain⟨d1,d2,rfl⟩:=i9.ak
       have jf:=St.un [iv,i0,i1,i3,i4] sd (dl.fs [9,9,9,9,9,9,9,9,9,9,10] rfl)
       refine Op.la 64 3 88 0 7 [vI u.cx,vI u.aU,vL dp u.jq.length dq,vL du u.jG.length dv,vL dC u.jH.length dE,vL dT u.aP.length d0,vL d1 u.ig.length d2] (jf.ag 0 rfl)<|Op.sg 64 2 88 0 15 #[vI u.cx,vI u.aU,vL dp u.jq.length dq,vL du u.jG.length dv,vL dC u.jH.length dE,vL dT u.aP.length d0,vL d1 u.ig.length d2] jf zt fun Ux sf=>Op.gt 15 ?_
       obtain⟨Uy,sh,sk⟩:=St.bF (Q:=kg bj a7 y.events) 2 (sf.fs [7,7,7,7,7,7,7,7,9,9] rfl) ⟨_,_,_,_,rfl,g2,bs⟩
       have sm:jc bj a5 y.aW [(a5,.map hu hw)]:=⟨_,_,_,rfl,b5,a8⟩
       obtain⟨so,ss,jj⟩:=St.bF (Q:=b9 bj I y) 6 (sk.fs [9,9,8,8,8,8,8,8,9,9,13,13,13,13] rfl) ⟨_,_,_,_,_,_,_,_,_,_,rfl,cf,ch,ci,sh,sm⟩
       exact At.rn f24 [.agg #[vI u.cx,vI u.aU,vL dp u.jq.length dq,vL du u.jG.length dv,vL dC u.jH.length dE,vL dT u.aP.length d0,vL d1 u.ig.length d2]] [.cell 2 64] ⟨⟨_,_,rfl,cq (n:=7) (by kernel_rfl) (jj.ag 9 rfl) (by kernel_rfl) rfl⟩,trivial⟩<|hR (jj.fs [6,6,6,6,6,5,9,9,9,9] rfl).drop.drop.drop.drop ⟨(vL dp u.jq.length dq),iv,(vL du u.jG.length dv),i0,(vL dC u.jH.length dE),i1,(vL dT u.aP.length d0),i3,(vL d1 u.ig.length d2),i4,so,(by(rw[vK ae ‹_›,hy])),dP i5 (by(rw[vK ae ‹_›,hy])),dP i6 (by(rw[vK ae ‹_›,hy])),dP i7 (by(rw[vK ae ‹_›,hy])),dP i8 (by(rw[vK ae ‹_›,hy])),dP i9 (by(rw[vK ae ‹_›,hy])),ss.eq (by exact hy),rfl⟩
     exact At.ke (o4 _ _ (aM.refl _) im 0 _ _ (bG _) (by omega) (by omega) (by exact SM hI ‹_›) (by(rw[hI];simp)) en o3)
   exact At.ke (ma _ _ (aM.refl _) da 0 _ _ (bG _) (by omega) (by omega) (by exact ee) (by(rw[ee];simp)) f3 (St.un [eh] l8 l4))
 obtain⟨e7,js,d3,jt,c8,j1,Uz,j2,UA,kc,st,a4,bk,a9,bb,bc⟩:=ll
 have X:=St.un [js,jt,j1,j2,kc] st (ln.fs [1] rfl)
 refine At.KT (by kernel_rfl) (aS [js,jt,j1,j2,kc]) 25 (.mv 0 true (.mv 1 true (.mv 2 true (.mv 4 true (.mv 5 true (.mv 6 true (.mv 8 true (.mv 9 true (.mv 10 true (.mv 13 true (.mv 14 true (.mv 15 true (.mv 18 true (.mv 19 true (.mv 20 true (.mv 3 true (.mv 7 true (.mv 11 true (.mv 16 true (.mv 21 true (.gh 12 24 (.gh 17 24 (.gh 22 24 (.seq [(23,true),(24,false),(1025,false),(25,false)]) (.seq [(22,false),(23,true),(1025,false),(25,false)])) (.seq [(17,false),(22,false),(23,true),(1025,false),(25,false)])) (.seq [(12,false),(17,false),(22,false),(23,true),(1025,false),(25,false)])))))))))))))))))))))) (by kernel_rfl)<|Op.px 15 [(10,vQ I 3),(14,vQ I 4),(18,vP I),(23,vQ I 1),(28,vQ I 2)]<|Op.lf 3 10 3 11 1 (vI s.aE) (X.fy 0 [1,2,3,4,5] rfl rfl rfl) (X.ag 0 rfl)<|Op.lf 3 14 4 15 1 (vI s.count) (X.fy 0 [1,2,3,4,5] rfl rfl rfl) (X.ag 0 rfl)<|Op.lf 91 18 0 19 1 (vP e7) (X.fy 0 [1,2,3,4,5] rfl rfl rfl) (X.ag 0 rfl) ?_
 refine Op.lf 93 23 1 24 1 (vP d3) (X.fy 0 [1,2,3,4,5] rfl rfl rfl) (X.ag 0 rfl)<|Op.lf 95 28 2 29 1 (vP c8) (X.fy 0 [1,2,3,4,5] rfl rfl rfl) (X.ag 0 rfl)<|Op.xS ?_ ?_
 ·have d4:=X.fs [1] rfl
  have sA:=d4.gH
  have sB:=eD.fK a4 d4 (by intro p hp;simp only[eo,hp,nt,nv])
  refine Op.le (some 20) 0 d4 (Cw _ _ _ d4.jk (G.mono sA) e7 s.aA sB (by(try dsimp only)<;>exact hp.W.tree)) (fun _ _ _ hp=>by obtain⟨_,_,_,_,_,J,_⟩:=hp;exact J) ?_ (hM:=(fun _ _ h=>absurd h (gP _)))
  rintro _ _ UB sT ⟨UC,UD,UE,rfl,s0,J,rfl⟩;clear J
  obtain⟨Y,kd,b8,d5⟩:=Deep.row s0 (sT.fs [2,2] rfl)
  replace a4:=a4.mono b8
  replace bk:=bk.mono b8
  replace a9:=a9.mono b8
  replace bb:=bb.mono b8
  replace bc:=bc.mono b8
  replace G:=G.mono b8
  obtain⟨ca,cb,rfl⟩:=d5.ak
  refine Op.xS ?_ ?_
  ·have e8:=kd.fs [2,2,2,3] rfl
   refine Op.cl (some 25) 1 e8 (Ak _ _ _ e8.sub G d3 s.aQ _ bk (by((try dsimp only)<;>((have:=hp.W.wl;omega)))) (St.pt 1 e8)) ?_ (hM:=(fun _ _ h=>qA (by simp) h))
   rintro _ s2 _ UF s3 kh ⟨UG,UH,UI,rfl,e9,kk,J,rfl⟩;subst s2;clear s3
   obtain⟨d6,d7,rfl⟩:=e9.ak
   refine Op.xS ?_ ?_
   ·have fa:=kh.fs [4,4,4,4,4,5] rfl
    refine Op.cl (some 30) 1 fa (Ad _ _ _ fa.sub G c8 s.aN _ a9 (by(try dsimp only)<;>exact hp.W.aN) (St.pt 1 fa)) ?_ (hM:=(fun _ _ h=>qA (by simp) h))
    rintro _ s4 _ UJ s5 s8 ⟨UK,UL,UM,rfl,kl,ta,J,rfl⟩;subst s4;clear s5
    obtain⟨km,kv,rfl⟩:=kl.ak
    refine Op.px 1 [(31,.agg #[vI s.aE,vI s.count,vL ca (s.aA.length) cb,vL d6 (s.aQ.length) d7,vL km ((s.aN.map (·.2)).length) kv,vN,vN])]<|Op.al 3 64 sD s8 fun te UN ti=>Op.ba<|Op.sg 64 3 31 0 0 #[vI s.aE,vI s.count,vL ca (s.aA.length) cb,vL d6 (s.aQ.length) d7,vL km ((s.aN.map (·.2)).length) kv,vN,vN] ti zt fun UO tk=>Op.gt 2 ?_
    obtain⟨UP,tl,tm⟩:=St.bF (Q:=b9 Y I s) 6 (tk.fs [5,5,4,3,9,9,6,7,8,9] rfl) ⟨_,_,_,_,_,_,_,_,_,_,rfl,a4,kk,ta,bb,bc⟩
    have tp:=aH.nil 45 cA Y
    have tt:=aH.nil 118 qE Y
    obtain⟨UQ,tx,tz⟩:=St.bF (Q:=oW Y te (⟨s.aE,s.count,s.aA,s.aQ,s.aN.map (·.2),([]:List au),([]:List gV)⟩:ie)) 6 (tm.nl.nl.fs [2,1,2,4,5,6,6] rfl) ⟨_,_,_,_,_,_,_,_,_,_,rfl,d5,e9,kl,tp,tt⟩
    exact At.ke (c9 _ _ (by repeat (first|assumption|exact aM.refl _|apply aM.trans)) s (⟨s.aE,s.count,s.aA,s.aQ,s.aN.map (·.2),([]:List au),([]:List gV)⟩:ie) _ _ _ _ (bG _) (by rfl) (by exact hp) (by exact Ay) tl tx (tz.fs [1,2] rfl))
   refine Op.al 3 64 sD kh fun tA UR tB=>?_
   have fg:=tB.fs [5,5,5,5,5,5,6] rfl
   refine Op.cl (some 30) 1 fg (Ad _ _ _ fg.sub G c8 s.aN _ a9 (by(try dsimp only)<;>exact hp.W.aN) (St.pt 1 fg)) ?_ (hM:=(fun _ _ h=>qA (by simp) h))
   rintro _ tR _ US tS t0 ⟨UT,UU,UV,rfl,kw,t1,J,rfl⟩;subst tR;clear tS
   obtain⟨kx,kA,rfl⟩:=kw.ak
   refine Op.px 1 [(31,.agg #[vI s.aE,vI s.count,vL ca (s.aA.length) cb,vL d6 (s.aQ.length) d7,vL kx ((s.aN.map (·.2)).length) kA,vN,vN])]<|Op.ba<|Op.sg 64 3 31 0 2 #[vI s.aE,vI s.count,vL ca (s.aA.length) cb,vL d6 (s.aQ.length) d7,vL kx ((s.aN.map (·.2)).length) kA,vN,vN] t0 zt fun UW t2=>Op.gt 2 ?_
   obtain⟨UX,t3,t4⟩:=St.bF (Q:=b9 Y I s) 6 (t2.fs [5,5,4,4,9,9,6,7,8,9] rfl) ⟨_,_,_,_,_,_,_,_,_,_,rfl,a4,kk,t1,bb,bc⟩
   have t5:=aH.nil 45 cA Y
   have t6:=aH.nil 118 qE Y
   obtain⟨UY,t7,t8⟩:=St.bF (Q:=oW Y tA (⟨s.aE,s.count,s.aA,s.aQ,s.aN.map (·.2),([]:List au),([]:List gV)⟩:ie)) 6 (t4.nl.nl.fs [2,1,2,3,5,6,6] rfl) ⟨_,_,_,_,_,_,_,_,_,_,rfl,d5,e9,kw,t5,t6⟩
   exact At.ke (c9 _ _ (by repeat (first|assumption|exact aM.refl _|apply aM.trans)) s (⟨s.aE,s.count,s.aA,s.aQ,s.aN.map (·.2),([]:List au),([]:List gV)⟩:ie) _ _ _ _ (bG _) (by rfl) (by exact hp) (by exact Ay) t3 t7 (t8.fs [1,2] rfl))
  refine Op.al 3 64 sD kd fun t9 UZ ub=>?_
  have fi:=ub.fs [3,3,3,3,4] rfl
  refine Op.cl (some 25) 1 fi (Ak _ _ _ fi.sub G d3 s.aQ _ bk (by((try dsimp only)<;>((have:=hp.W.wl;omega)))) (St.pt 1 fi)) ?_ (hM:=(fun _ _ h=>qA (by simp) h))
  rintro _ ui _ U0 ul us ⟨U1,U2,U3,rfl,k0,ut,J,rfl⟩;subst ui;clear ul
  obtain⟨k1,k2,rfl⟩:=k0.ak
  have fj:=us.fs [5,5,5,5,5,5,6] rfl
  refine Op.cl (some 30) 1 fj (Ad _ _ _ fj.sub G c8 s.aN _ a9 (by(try dsimp only)<;>exact hp.W.aN) (St.pt 1 fj)) ?_ (hM:=(fun _ _ h=>qA (by simp) h))
  rintro _ u1 _ U4 u2 u3 ⟨U5,U6,U7,rfl,k3,u4,J,rfl⟩;subst u1;clear u2
  obtain⟨k4,k5,rfl⟩:=k3.ak
  refine Op.px 1 [(31,.agg #[vI s.aE,vI s.count,vL ca (s.aA.length) cb,vL k1 (s.aQ.length) k2,vL k4 ((s.aN.map (·.2)).length) k5,vN,vN])]<|Op.ba<|Op.sg 64 3 31 0 4 #[vI s.aE,vI s.count,vL ca (s.aA.length) cb,vL k1 (s.aQ.length) k2,vL k4 ((s.aN.map (·.2)).length) k5,vN,vN] u3 zt fun U8 vd=>Op.gt 2 ?_
  obtain⟨U9,ve,vo⟩:=St.bF (Q:=b9 Y I s) 6 (vd.fs [5,5,5,4,9,9,6,7,8,9] rfl) ⟨_,_,_,_,_,_,_,_,_,_,rfl,a4,ut,u4,bb,bc⟩
  have vx:=aH.nil 45 cA Y
  have vy:=aH.nil 118 qE Y
  obtain⟨U_,v5,v6⟩:=St.bF (Q:=oW Y t9 (⟨s.aE,s.count,s.aA,s.aQ,s.aN.map (·.2),([]:List au),([]:List gV)⟩:ie)) 6 (vo.nl.nl.fs [2,1,2,3,4,6,6] rfl) ⟨_,_,_,_,_,_,_,_,_,_,rfl,d5,k0,k3,vx,vy⟩
  exact At.ke (c9 _ _ (by repeat (first|assumption|exact aM.refl _|apply aM.trans)) s (⟨s.aE,s.count,s.aA,s.aQ,s.aN.map (·.2),([]:List au),([]:List gV)⟩:ie) _ _ _ _ (bG _) (by rfl) (by exact hp) (by exact Ay) ve v5 (v6.fs [1,2] rfl))
 refine Op.al 3 64 sD X fun v8 Va v9=>?_
 have d8:=v9.fs [1,1,2] rfl
 have wa:=d8.gH
 have wc:=eD.fK a4 d8 (by intro p hp;simp only[eo,hp,nt,nv])
 refine Op.le (some 20) 0 d8 (Cw _ _ _ d8.jk (G.mono wa) e7 s.aA wc (by(try dsimp only)<;>exact hp.W.tree)) (fun _ _ _ hp=>by obtain⟨_,_,_,_,_,J,_⟩:=hp;exact J) ?_ (hM:=(fun _ _ h=>absurd h (gP _)))
 rintro _ _ Vb wi ⟨Vc,Vd,Ve,rfl,wn,J,rfl⟩;clear J
 obtain⟨d9,wp,ce,k6⟩:=Deep.row wn (wi.fs [2,2] rfl)
 replace a4:=a4.mono ce
 replace bk:=bk.mono ce
 replace a9:=a9.mono ce
 replace bb:=bb.mono ce
 replace bc:=bc.mono ce
 replace G:=G.mono ce
 obtain⟨k7,k8,rfl⟩:=k6.ak
 have fl:=wp.fs [3,3,3,3,4] rfl
 refine Op.cl (some 25) 1 fl (Ak _ _ _ fl.sub G d3 s.aQ _ bk (by((try dsimp only)<;>((have:=hp.W.wl;omega)))) (St.pt 1 fl)) ?_ (hM:=(fun _ _ h=>qA (by simp) h))
 rintro _ wr _ Vf wt ww ⟨Vg,Vh,Vi,rfl,lb,wx,J,rfl⟩;subst wr;clear wt
 obtain⟨lc,lh,rfl⟩:=lb.ak
 have fp:=ww.fs [5,5,5,5,5,5,6] rfl
 refine Op.cl (some 30) 1 fp (Ad _ _ _ fp.sub G c8 s.aN _ a9 (by(try dsimp only)<;>exact hp.W.aN) (St.pt 1 fp)) ?_ (hM:=(fun _ _ h=>qA (by simp) h))
 rintro _ wy _ Vj w0 w1 ⟨Vk,Vl,Vm,rfl,li,w2,J,rfl⟩;subst wy;clear w0
 obtain⟨lj,lk,rfl⟩:=li.ak
 refine Op.px 1 [(31,.agg #[vI s.aE,vI s.count,vL k7 (s.aA.length) k8,vL lc (s.aQ.length) lh,vL lj ((s.aN.map (·.2)).length) lk,vN,vN])]<|Op.ba<|Op.sg 64 3 31 0 6 #[vI s.aE,vI s.count,vL k7 (s.aA.length) k8,vL lc (s.aQ.length) lh,vL lj ((s.aN.map (·.2)).length) lk,vN,vN] w1 zt fun Vn w3=>Op.gt 2 ?_
 obtain⟨Vo,w7,xa⟩:=St.bF (Q:=b9 d9 I s) 6 (w3.fs [6,5,5,4,9,9,6,7,8,9] rfl) ⟨_,_,_,_,_,_,_,_,_,_,rfl,a4,wx,w2,bb,bc⟩
 have xc:=aH.nil 45 cA d9
 have xf:=aH.nil 118 qE d9
 obtain⟨Vp,xi,xn⟩:=St.bF (Q:=oW d9 v8 (⟨s.aE,s.count,s.aA,s.aQ,s.aN.map (·.2),([]:List au),([]:List gV)⟩:ie)) 6 (xa.nl.nl.fs [2,1,2,3,4,5,6] rfl) ⟨_,_,_,_,_,_,_,_,_,_,rfl,k6,lb,li,xc,xf⟩
 exact At.ke (c9 _ _ (by repeat (first|assumption|exact aM.refl _|apply aM.trans)) s (⟨s.aE,s.count,s.aA,s.aQ,s.aN.map (·.2),([]:List au),([]:List gV)⟩:ie) _ _ _ _ (bG _) (by rfl) (by exact hp) (by exact Ay) w7 xi (xn.fs [1,2] rfl))
def Az (s:Sp) (x:c7):Bool:=kn s (cD x)
def qk (s:Sp) (x:c7):Sp:=kj s (cD x) (cI x)
def cE (s:Sp) (x:c7):Result:=if Az s x=true then (av (cz s (cD x) (cI x))).1 else p5
def lD (s:Sp) (x:c7):Bool:=Az s x&&(av (cz s (cD x) (cI x))).2==0
def vM (kind:Int) (ec:bp) (dF:Int) (u watch:Bool):aR:=⟨kind,ec,[],0,dF,u,false,watch,[]⟩
def ko:List c7:=[⟨1,1,0,vM 1 [] 9 false false,[]⟩,⟨2,1,0,vM 1 [] 9 false false,[]⟩,⟨1,2,0,vM 3 [47,97] 0 true false,[]⟩,⟨2,2,0,vM 6 [47,97] 0 false true,[]⟩,⟨1,3,0,vM 2 [] 0 false false,[]⟩]
def lZ (i:Nat):Sp:=(ko.take i).foldl qk vr
def oX:c7:=⟨2,3,0,vM 9 [] 0 false false,[]⟩
def ua (i:Nat):Bool:=match ko[i]? with
  |none=>false
  |some x=>lD (lZ i) x&&((cE (lZ i) x).Code==0&&(cE (lZ i) x).aU==(i:Int)+1)
theorem SV:(ua 0&&(ua 1&&(ua 2&&(ua 3&&ua 4))))=true:=by decide+kernel
theorem SW:((lD (lZ 5) oX&&((cE (lZ 5) oX).Code==0&&decide ((cE (lZ 5) oX).aP=[⟨2,1,[47,97]⟩])))&&((qk (lZ 5) oX).aA.length==1))=true:=by decide+kernel
section
variable {i k:Int} {y s:Sp} {x:c7}
theorem AA (hy:y=lZ i.toNat) (h0:0≤i) (hx:ko[i.toNat]?=some x):lD y x=true∧(cE y x).Code=0∧(cE y x).aU=i+1∧qk y x=lZ (i+1).toNat:=by
  subst hy
  have hlt:=(fO.1 hx).1
  have hlt:i.toNat<5:=hlt
  have hb:ua i.toNat=true:=by
    have h:=SV
    simp only[bZ] at h
    obtain⟨h1,h2,h3,h4,h5⟩:=h
    have:i.toNat=0∨i.toNat=1∨i.toNat=2∨i.toNat=3∨i.toNat=4:=by omega
    rcases this with e|e|e|e|e
    · rw[e];exact h1
    · rw[e];exact h2
    · rw[e];exact h3
    · rw[e];exact h4
    · rw[e];exact h5
  unfold ua at hb
  rw[hx] at hb
  simp only[bZ,jZ] at hb
  refine⟨hb.1,hb.2.1,by rw[hb.2.2];omega,?_⟩
  unfold lZ
  rw[toNat_succ h0,fP hx,vk]
  rfl
theorem SX (hy:y=lZ i.toNat) (h:¬i<(ko.length:Int)) (h1:i≤ko.length):y=lZ 5:=by
  have e:(ko.length:Int)=5:=rfl
  have:i.toNat=5:=by omega
  rw[hy,this]
theorem xT {l:List c7} (hy:y=lZ i.toNat) (hl:l=ko) (h:¬i<(l.length:Int)) (h1:i≤ko.length):y=lZ 5:=SX hy (hl▸h) h1
theorem xU (hy:y=lZ 5):lD y oX=true∧(cE y oX).Code=0∧(cE y oX).aP=[⟨2,1,[47,97]⟩]∧(qk y oX).aA.length=1:=by
  subst hy
  have h:=SW
  simp only[bZ,jZ,cN] at h
  exact⟨h.1.1,h.1.2.1,h.1.2.2,h.2⟩
structure l5 (i:Int) (s:Sp):Prop where
  ok:bO (4*i) s
  cnt:s.count≤i
theorem l5.new:l5 0 vr:=⟨bO.new,by decide⟩
theorem l5.DZ {e:j0} {b:bp} (H:l5 i s) (h0:0≤i) (hi:i≤20000):l5 (i+1) (kj s e b):=by
  refine⟨(H.ok.DZ (by omega) (by omega) (by have:=H.cnt;omega)).mono (by omega),?_⟩
  rw[Sn]
  have:=H.cnt
  split<;>omega
theorem l5.done (H:l5 i s) (h0:0≤i) (hi:i≤20000):l5 (i+1) (qk s x):=H.DZ h0 hi
theorem SY {e:j0} {b:bp} (H:bO k s):(cz s e b).length≤1000000000:=by
  unfold cz
  repeat' split
  · exact KK _
  · unfold kL
    rw[KA]
    cases h:cy s.aW e.ax with
    |none=>exact eX _
    |some r=>
     obtain⟨p,hp,rfl⟩:=D1 h
     exact cH (H.jX.ok p hp).2.2 (by decide)
  · exact eX _
  · exact eX _
theorem SZ {e:j0} {b:bp} (H:l5 i s) (h0:0≤i) (hi:i≤20000):je e=true→m_ (mF (gK s e.cx) e.ax b):=fun hE=>
  Se (H.ok.xQ e.cx) (Kn hE).1.2 (by omega) (by omega) (by rw[vB];have:=H.cnt;omega)
theorem l5.jX (H:l5 i s):∀p∈s.aW,p.2.data.length≤1000000000:=fun p hp=>cH (H.ok.jX.ok p hp).2.2 (by decide)
theorem l5.ct (H:l5 i s) (hi:i≤20000):0≤s.count∧s.count≤1000000000000000:=⟨H.ok.cn,by have:=H.cnt;omega⟩
theorem xV (h:Az s x=true):(av (cz s (cD x) (cI x))).1=cE s x∧((av (cz s (cD x) (cI x))).2==0)=lD s x:=by
  refine⟨by unfold cE;rw[aY h],?_⟩
  unfold lD
  rw[h];rfl
theorem xW (h:Az s x=false):p5=cE s x∧false=lD s x:=by
  refine⟨by unfold cE;rw[h];rfl,?_⟩
  unfold lD
  rw[h];rfl
end
theorem S1:∀x∈ko,cU x.Op≤100000000∧x.jg.length≤2000:=by decide+kernel
theorem S3:cU oX.Op≤100000000∧oX.jg.length≤2000:=by decide+kernel
section
variable {i:Int} {s z:Sp} {x:c7} {l:List c7} {fb:bp} {fn:Bool} {b':bp}
end
section
variable {a b:ie} {i:Int} {x y:gV}
end
theorem KU {i0:Int} (B:World) (h:ay) (g:GH) (hg:bu g h) (u:bz g) (X:Nat) (s:Sp) (ae:az) (Y:b9 g X s ae) (x:c7) (a9:Value) (Z:an g 5 a_ a9 x.Op.Data) (bb:Value) (ab:an g 25 dy bb x.Op.aB) (bc:Value) (ad:an g 5 a_ bc x.jg) (hP:l_ g) (hK:l5 i0 s) (a0:0≤i0∧i0≤20000) (ho:cU x.Op≤100000000∧x.jg.length≤2000) (hs:St h g (aS [ae]) g [ae] h):
  aG prog B 22 #[vP X,.agg #[vI x.ax,vI x.cw,vI x.cx,vI x.Op.ah,vS x.Op.af,a9,vI x.Op.ai,vI x.Op.aI,.bool x.Op.aV,.bool x.Op.aK,.bool x.Op.au,bb,bc]] h g [ae] (fun ch g' L'=>∃v0 v1 v2 bd,ch=.tuple #[.agg #[.int .i64 ((cE s x).Code),.int .i64 ((cE s x).aU),.int .i64 ((cE s x).At),.string (br ((cE s x).aa.af)),v0,.int .i64 ((cE s x).aa.ai),.int .i64 ((cE s x).aa.aC),.int .i64 ((cE s x).aa.Next),.int .i64 ((cE s x).aa.aF),v1,v2],.bool (lD s x)]∧an g' 5 a_ v0 ((cE s x).aa.Data)∧an g' 9 cV v1 ((cE s x).aX)∧an g' 45 cA v2 ((cE s x).aP)∧b9 g' X (qk s x) bd∧L'=[bd]):=by
 obtain⟨a1,a3,rfl⟩:=Z.ak
 obtain⟨a4,a5,rfl⟩:=ab.ak
 obtain⟨a6,a7,rfl⟩:=ad.ak
 refine aG.aq func22 fun R hR=>At.rg 3<|Op.bx 3 55 1 #[vI x.ax,vI x.cw,vI x.cx,vI x.Op.ah,vS x.Op.af,vL a1 x.Op.Data.length a3,vI x.Op.ai,vI x.Op.aI,.bool x.Op.aV,.bool x.Op.aK,.bool x.Op.au,vL a4 x.Op.aB.length a5,vL a6 x.jg.length a7] hs fun c8 c9 ci=>Op.al 4 43 dG ci fun da db am=>Op.pg 1 [] ?_
 refine At.dw (fun _=>False) [(0,true),(1,true),(3,true),(2,false),(4,false),(1005,false),(5,false),(6,true),(7,true),(8,true),(9,true),(10,true)]<|Op.px 1 [(11,vP X)]<|Op.qv (T:=55) (x:=3) (o:=0) (d:=12) (n:=13) (vs:=[vI x.ax,vI x.cw,vI x.cx,vI x.Op.ah,vS x.Op.af,vL a1 x.Op.Data.length a3,vI x.Op.ai,vI x.Op.aI,.bool x.Op.aV,.bool x.Op.aK,.bool x.Op.au,vL a4 x.Op.aB.length a5,vL a6 x.jg.length a7]) (by kernel_rfl) (by kernel_rfl) (by kernel_rfl) id (am.ag 1 rfl) (by kernel_rfl) rfl<|Op.qv (T:=55) (x:=3) (o:=0) (d:=14) (n:=13) (vs:=[vI x.ax,vI x.cw,vI x.cx,vI x.Op.ah,vS x.Op.af,vL a1 x.Op.Data.length a3,vI x.Op.ai,vI x.Op.aI,.bool x.Op.aV,.bool x.Op.aK,.bool x.Op.au,vL a4 x.Op.aB.length a5,vL a6 x.jg.length a7]) (by kernel_rfl) (by kernel_rfl) (by kernel_rfl) id (am.ag 1 rfl) (by kernel_rfl) rfl<|Op.c0 (some 13) (SA _ _ _ am.sub u x _ Z _ ab _ ad) am ?_
 rintro _ dc _ dd D be ⟨v28,rfl,ar,rfl⟩
 obtain⟨df,dg,rfl⟩:=ar.ak
 replace u:=u.mono D
 replace hP:=hP.mono D
 replace ab:=ab.mono D
 replace ad:=ad.mono D
 replace Z:=Z.mono D
 replace Y:=Y.mono D
 refine Op.c0 (some 15) (SB _ _ _ be.sub u x _ Z _ ab _ ad (by(try dsimp only)<;>omega) (by(try dsimp only)<;>omega)) be ?_
 rintro _ dj _ dk aw ck ⟨dl,rfl,bi,rfl⟩
 obtain⟨dp,dq,rfl⟩:=bi.ak
 replace u:=u.mono aw
 replace hP:=hP.mono aw
 replace ar:=ar.mono aw
 replace Y:=Y.mono aw
 refine Op.ba ?_
 have a8:=ck.fs [1,1,2] rfl
 refine Op.cl (some 16) 1 a8 (SI _ _ _ a8.sub u X s _ Y (cD x) _ ar _ _ bi hP (by((try dsimp only)<;>(exact hK.ok.wk (by omega)))) (by((try dsimp only)<;>(exact cH (Sy ho.2) (by decide)))) (by(try dsimp only)<;>exact hK.ct a0.2) (by(try dsimp only)<;>exact hK.jX) (by(try dsimp only)<;>exact SZ hK a0.1 a0.2) (St.pt 1 a8)) ?_
 rintro _ du _ dv co bj ⟨dC,dE,bk,rfl,bm,G,rfl⟩
 obtain⟨bo,bs,rfl⟩:=bm.ak
 replace u:=u.mono co
 refine Op.pg 2 [(6,vL bo ((cz s (cD x) (cI x)).length) bs),(7,.bool (kn s (cD x)))]<|At.go 3 2 [(20,.bool (!(kn s (cD x))))]<|At.cW (!(kn s (cD x))) 20 4 6 (fun bt=>?_) fun b3=>?_
 ·replace bt:=(dn bt)
  exact At.rp 3 1 [(21,.agg dG)]<|Op.sg 43 4 21 0 2 dG bj zt fun dT b4=>Op.pg 5 [(5,vF)]<|At.rn f22 [.agg dG,vF] [.cell 4 43,.tmp 5] ⟨⟨_,_,rfl,cq (n:=11) (by kernel_rfl) (b4.ag 2 rfl) (by kernel_rfl) rfl⟩,rfl,trivial⟩<|hR (b4.fs [3,3,3] rfl).drop.drop.drop ⟨vN,vN,vN,bk,bA (by(rw[←(xW ‹_›).1];rfl)) (bn (by exact(xW ‹_›).2)),bl (an.empty _ _ _ _ _) (by(rw[←(xW ‹_›).1];rfl)),bl (an.empty _ _ _ _ _) (by(rw[←(xW ‹_›).1];rfl)),bl (an.empty _ _ _ _ _) (by(rw[←(xW ‹_›).1];rfl)),G.eq (by rfl),rfl⟩
 replace b3:=(dr b3)
 refine At.rp 8 1 [(23,vL bo ((cz s (cD x) (cI x)).length) bs)] ?_
 obtain⟨d0,b5,b6,c3⟩:=aH.freeze bm (bj.fs [1] rfl)
 replace u:=u.mono b6
 replace G:=G.mono b6
 refine Op.c0 (some 24) (qR _ _ _ b5.sub u _ _ c3 (by(try dsimp only)<;>exact SY hK.ok)) b5 ?_
 rintro _ d1 _ d2 c4 c5 ⟨d3,d4,d5,rfl,b8,ca,cb,rfl⟩
 obtain⟨I,J,rfl⟩:=b8.ak
 obtain⟨O,U,rfl⟩:=ca.ak
 obtain⟨a75,V,rfl⟩:=cb.ak
 replace G:=G.mono c4
 refine Op.px 3 [(25,.agg #[vI (((av (cz s (cD x) (cI x))).1).Code),vI (((av (cz s (cD x) (cI x))).1).aU),vI (((av (cz s (cD x) (cI x))).1).At),vS (((av (cz s (cD x) (cI x))).1).aa.af),vL I ((((av (cz s (cD x) (cI x))).1).aa.Data).length) J,vI (((av (cz s (cD x) (cI x))).1).aa.ai),vI (((av (cz s (cD x) (cI x))).1).aa.aC),vI (((av (cz s (cD x) (cI x))).1).aa.Next),vI (((av (cz s (cD x) (cI x))).1).aa.aF),vL O ((((av (cz s (cD x) (cI x))).1).aX).length) U,vL a75 ((((av (cz s (cD x) (cI x))).1).aP).length) V]),(26,vI ((av (cz s (cD x) (cI x))).2))]<|Op.al 8 43 dG c5 fun d6 d7 c6=>Op.sg 43 8 25 0 0 #[vI (((av (cz s (cD x) (cI x))).1).Code),vI (((av (cz s (cD x) (cI x))).1).aU),vI (((av (cz s (cD x) (cI x))).1).At),vS (((av (cz s (cD x) (cI x))).1).aa.af),vL I ((((av (cz s (cD x) (cI x))).1).aa.Data).length) J,vI (((av (cz s (cD x) (cI x))).1).aa.ai),vI (((av (cz s (cD x) (cI x))).1).aa.aC),vI (((av (cz s (cD x) (cI x))).1).aa.Next),vI (((av (cz s (cD x) (cI x))).1).aa.aF),vL O ((((av (cz s (cD x) (cI x))).1).aX).length) U,vL a75 ((((av (cz s (cD x) (cI x))).1).aP).length) V] c6 zt fun d8 ce=>Op.pg 7 [(9,vI ((av (cz s (cD x) (cI x))).2))]<|At.rg 5 ?_
 refine Op.la 43 8 27 0 11 [vI (((av (cz s (cD x) (cI x))).1).Code),vI (((av (cz s (cD x) (cI x))).1).aU),vI (((av (cz s (cD x) (cI x))).1).At),vS (((av (cz s (cD x) (cI x))).1).aa.af),vL I ((((av (cz s (cD x) (cI x))).1).aa.Data).length) J,vI (((av (cz s (cD x) (cI x))).1).aa.ai),vI (((av (cz s (cD x) (cI x))).1).aa.aC),vI (((av (cz s (cD x) (cI x))).1).aa.Next),vI (((av (cz s (cD x) (cI x))).1).aa.aF),vL O ((((av (cz s (cD x) (cI x))).1).aX).length) U,vL a75 ((((av (cz s (cD x) (cI x))).1).aP).length) V] (ce.ag 0 rfl)<|Op.px 2 [(29,.bool (((av (cz s (cD x) (cI x))).2)==0))]<|Op.sg 43 4 27 0 2 #[vI (((av (cz s (cD x) (cI x))).1).Code),vI (((av (cz s (cD x) (cI x))).1).aU),vI (((av (cz s (cD x) (cI x))).1).At),vS (((av (cz s (cD x) (cI x))).1).aa.af),vL I ((((av (cz s (cD x) (cI x))).1).aa.Data).length) J,vI (((av (cz s (cD x) (cI x))).1).aa.ai),vI (((av (cz s (cD x) (cI x))).1).aa.aC),vI (((av (cz s (cD x) (cI x))).1).aa.Next),vI (((av (cz s (cD x) (cI x))).1).aa.aF),vL O ((((av (cz s (cD x) (cI x))).1).aX).length) U,vL a75 ((((av (cz s (cD x) (cI x))).1).aP).length) V] ce zt fun d9 cf=>Op.pg 8 [(5,.bool (((av (cz s (cD x) (cI x))).2)==0))]<|At.rn f22 [.agg #[vI (((av (cz s (cD x) (cI x))).1).Code),vI (((av (cz s (cD x) (cI x))).1).aU),vI (((av (cz s (cD x) (cI x))).1).At),vS (((av (cz s (cD x) (cI x))).1).aa.af),vL I ((((av (cz s (cD x) (cI x))).1).aa.Data).length) J,vI (((av (cz s (cD x) (cI x))).1).aa.ai),vI (((av (cz s (cD x) (cI x))).1).aa.aC),vI (((av (cz s (cD x) (cI x))).1).aa.Next),vI (((av (cz s (cD x) (cI x))).1).aa.aF),vL O ((((av (cz s (cD x) (cI x))).1).aX).length) U,vL a75 ((((av (cz s (cD x) (cI x))).1).aP).length) V],.bool (((av (cz s (cD x) (cI x))).2)==0)] [.cell 4 43,.tmp 5] ⟨⟨_,_,rfl,cq (n:=11) (by kernel_rfl) (cf.ag 2 rfl) (by kernel_rfl) rfl⟩,rfl,trivial⟩ ?_
 exact hR (cf.fs [1,3,3,3] rfl).drop.drop.drop ⟨(vL I ((((av (cz s (cD x) (cI x))).1).aa.Data).length) J),(vL O ((((av (cz s (cD x) (cI x))).1).aX).length) U),(vL a75 ((((av (cz s (cD x) (cI x))).1).aP).length) V),bk,bA (by(rw[(xV ‹_›).1])) (bn (by exact(xV ‹_›).2)),bl b8 (by(rw[(xV ‹_›).1])),bl ca (by(rw[(xV ‹_›).1])),bl cb (by(rw[(xV ‹_›).1])),G.eq (by rfl),rfl⟩
theorem KV (B:World) (h:ay) (g:GH) (hg:bu g h) (D:bz g) (hP:l_ g):
  aG prog B 5 #[] h g [] (fun co g' L'=>co=vT∧L'=[]):=by
 refine aG.aq func5 fun R hR=>?_
 have a8:=St.init hg
 refine At.go 1 1 []<|At.rg 2<|Op.c0 (some 8) (Rw _ _ _ a8.sub D) a8 ?_
 rintro _ c3 _ ej a9 c4 ⟨G,em,rfl,ad,rfl⟩
 replace D:=D.mono a9
 replace hP:=hP.mono a9
 refine Op.pg 2 [(1,vP G)]<|At.go 3 2 [(10,vF)]<|At.cQ 10 6<|At.rp 12 10 [(12,.agg #[vI 1,vI 1,vI 0,vI 1,vS [],vN,vI 0,vI 9,vF,vF,vF,vN,vN]),(14,.agg #[vI 2,vI 1,vI 0,vI 1,vS [],vN,vI 0,vI 9,vF,vF,vF,vN,vN]),(16,.agg #[vI 1,vI 2,vI 0,vI 3,vS ([47,97]),vN,vI 0,vI 0,vT,vF,vF,vN,vN]),(18,.agg #[vI 2,vI 2,vI 0,vI 6,vS ([47,97]),vN,vI 0,vI 0,vF,vF,vT,vN,vN]),(20,.agg #[vI 1,vI 3,vI 0,vI 2,vS [],vN,vI 0,vI 0,vF,vF,vF,vN,vN])]<|Op.ls 21 5 55 #[vI 1,vI 1,vI 0,vI 1,vS [],vN,vI 0,vI 9,vF,vF,vF,vN,vN,vI 2,vI 1,vI 0,vI 1,vS [],vN,vI 0,vI 9,vF,vF,vF,vN,vN,vI 1,vI 2,vI 0,vI 3,vS ([47,97]),vN,vI 0,vI 0,vT,vF,vF,vN,vN,vI 2,vI 2,vI 0,vI 6,vS ([47,97]),vN,vI 0,vI 0,vF,vF,vT,vN,vN,vI 1,vI 3,vI 0,vI 2,vS [],vN,vI 0,vI 0,vF,vF,vF,vN,vN] c4 fun ae en c5=>?_
 refine Op.pg 7 [(2,vL (some ⟨ae,0,none⟩) 5 5)] ?_
 have c6:aH 55 KH c3 (vL (some ⟨ae,0,none⟩) 5 5) [(⟨1,1,0,⟨1,[],[],0,9,false,false,false,[]⟩,[]⟩:c7),(⟨2,1,0,⟨1,[],[],0,9,false,false,false,[]⟩,[]⟩:c7),(⟨1,2,0,⟨3,[47,97],[],0,0,true,false,false,[]⟩,[]⟩:c7),(⟨2,2,0,⟨6,[47,97],[],0,0,false,false,true,[]⟩,[]⟩:c7),(⟨1,3,0,⟨2,[],[],0,0,false,false,false,[]⟩,[]⟩:c7)] [(ae,Obj.cells #[vI 1,vI 1,vI 0,vI 1,vS [],vN,vI 0,vI 9,vF,vF,vF,vN,vN,vI 2,vI 1,vI 0,vI 1,vS [],vN,vI 0,vI 9,vF,vF,vF,vN,vN,vI 1,vI 2,vI 0,vI 3,vS ([47,97]),vN,vI 0,vI 0,vT,vF,vF,vN,vN,vI 2,vI 2,vI 0,vI 6,vS ([47,97]),vN,vI 0,vI 0,vF,vF,vT,vN,vN,vI 1,vI 3,vI 0,vI 2,vS [],vN,vI 0,vI 0,vF,vF,vF,vN,vN] 55 (0,0))]:=aH.lit (by kernel_rfl) (by unfold maxLen;decide) (by kernel_rfl) ⟨_,_,rfl,⟨_,_,_,(an.nil _ _ _),(an.nil _ _ _),(an.nil _ _ _),rfl⟩,⟨_,_,rfl,⟨_,_,_,(an.nil _ _ _),(an.nil _ _ _),(an.nil _ _ _),rfl⟩,⟨_,_,rfl,⟨_,_,_,(an.nil _ _ _),(an.nil _ _ _),(an.nil _ _ _),rfl⟩,⟨_,_,rfl,⟨_,_,_,(an.nil _ _ _),(an.nil _ _ _),(an.nil _ _ _),rfl⟩,⟨_,_,rfl,⟨_,_,_,(an.nil _ _ _),(an.nil _ _ _),(an.nil _ _ _),rfl⟩,Reads.nil⟩⟩⟩⟩⟩
 obtain⟨c8,c9,am,da⟩:=aH.freeze c6 (c5)
 replace D:=D.mono am
 replace hP:=hP.mono am
 replace ad:=ad.mono am
 refine At.go 8 1 [(3,vI 0)] ?_
 have db:∀(m:Nat) (U:GH) (Z:aM c8 U) (y:Sp) (l:List c7) (i:Int) (ar:az) (a37:Option Addr) (V:Nat) (aw:ay) (hm:ko.length-i.toNat<m) (h0:0≤i) (h1:i≤ko.length) (hl:l=ko) (hy:y=lZ i.toNat) (hK:l5 i y) (a0:b9 U G y ar) (X:an U 55 KH (vL a37 l.length V) l) (I:St h g (aS []) U [ar] aw),At (bP prog B 5 f5 R) [] 8 [(1,vP G),(2,vL a37 l.length V),(3,vI i)] aw:=by
  intro m;induction m with
  |zero=>intros;omega
  |succ m dc=>
   intro U Z y l i ar a37 V aw hm h0 h1 hl hy hK a0 X I
   replace D:=D.mono Z
   replace hP:=hP.mono Z
   refine At.go 9 4 [(25,.bool (decide (i<(l.length:Int))))]<|At.fd (i<(l.length:Int)) 25 10 16 (fun ep=>?_) fun er=>?_
   ·refine At.rp 12 3 [(29,vP G),(30,vL a37 l.length V),(31,vI i)] ?_
    obtain⟨u,J⟩:=bW l i
    obtain⟨dd,bb,et,ex,df,a1,a3⟩:=an.bB X _ J
    cases df
    refine Op.iq 56 55 13 144 l.length V 30 31 32 dd bb i ?_
    obtain⟨eA,eB,eI,bc,bd,be,a3⟩:=a3
    obtain⟨dg,dj,rfl⟩:=bc.ak
    obtain⟨dk,dl,rfl⟩:=bd.ak
    obtain⟨dp,dq,rfl⟩:=be.ak
    refine Op.la 55 32 33 (bb+i.toNat*13) 13 [vI u.ax,vI u.cw,vI u.cx,vI u.Op.ah,vS u.Op.af,vL dg u.Op.Data.length dj,vI u.Op.ai,vI u.Op.aI,.bool u.Op.aV,.bool u.Op.aK,.bool u.Op.au,vL dk u.Op.aB.length dl,vL dp u.jg.length dq] (I.sub _ _ a1) ?_ (hv:=a3)
    refine Op.cl (some 34) 1 I (KU _ _ _ I.sub D G y _ a0 u _ bc _ bd _ be hP (by(try dsimp only)<;>omega) (by((try dsimp only)<;>(exact⟨by omega,by have h9:(ko.length:Int)=5:=rfl;omega⟩))) (by((try dsimp only)<;>(exact S1 _ (hl▸bY J)))) (St.pt 1 I)) ?_
    rintro _ eJ _ eK bi du ⟨eL,v72,v76,eQ,rfl,dv,dC,dE,dT,rfl⟩
    obtain⟨a70,bj,rfl⟩:=dv.ak
    obtain⟨bk,bm,rfl⟩:=dC.ak
    obtain⟨bo,bs,rfl⟩:=dE.ak
    replace a1:=bi _ _ a1
    replace X:=X.mono bi
    refine Op.px 3 [(35,.agg #[vI ((cE y u).Code),vI ((cE y u).aU),vI ((cE y u).At),vS ((cE y u).aa.af),vL a70 (((cE y u).aa.Data).length) bj,vI ((cE y u).aa.ai),vI ((cE y u).aa.aC),vI ((cE y u).aa.Next),vI ((cE y u).aa.aF),vL bk (((cE y u).aX).length) bm,vL bo (((cE y u).aP).length) bs]),(36,.bool (lD y u))]<|Op.al 4 43 dG du fun bt e1 d0=>Op.sg 43 4 35 0 0 #[vI ((cE y u).Code),vI ((cE y u).aU),vI ((cE y u).At),vS ((cE y u).aa.af),vL a70 (((cE y u).aa.Data).length) bj,vI ((cE y u).aa.ai),vI ((cE y u).aa.aC),vI ((cE y u).aa.Next),vI ((cE y u).aa.aF),vL bk (((cE y u).aX).length) bm,vL bo (((cE y u).aP).length) bs] d0 zt fun e2 O=>Op.pg 11 [(5,.bool (lD y u))]<|At.rp 14 3 [(39,.bool (!(lD y u)))] ?_
    refine Op.wb (!(lD y u)) 39 (fun b3=>?_) fun b4=>?_
    ·replace b3:=(dn b3)
     exact Op.pg 12 [(50,vT)]<|At.bT 50 13<|At.gr 14 1 0 vF (hR O.drop.drop ⟨(bn (by exact Bool.noConfusion ((AA hy h0 (hl▸J)).1.symm.trans ‹_›))),rfl⟩)
    replace b4:=(dr b4)
    refine Op.px 1 [(40,vP bt)]<|Op.l1 29 40 41 0 (vI ((cE y u).Code)) (O.ag 0 rfl)<|Op.px 3 [(44,.bool (((cE y u).Code) != 0))]<|Op.wb (((cE y u).Code) != 0) 44 (fun b5=>?_) fun b6=>?_
    ·replace b5:=fY b5
     exact Op.pg 12 [(50,vT)]<|At.bT 50 13<|At.gr 14 1 0 vF (hR O.drop.drop ⟨(bn (by exact absurd (AA hy h0 (hl▸J)).2.1 ‹_›)),rfl⟩)
    replace b6:=gB b6
    refine Op.px 1 [(45,vQ bt 1)]<|Op.l1 3 45 46 1 (vI ((cE y u).aU)) (O.ag 0 rfl)<|Op.px 1 [(47,vI i)]<|Op.cO 48 (i+1) (by omega) (by(have h9:(ko.length:Int)=5:=rfl;omega))<|Op.pg 12 [(50,.bool (((cE y u).aU) != (i+1)))] ?_
    refine At.fn (((cE y u).aU)=(i+1)) 50 13 15 (fun e3=>?_) fun e4=>?_
    ·exact At.gr 14 1 0 vF (hR O.drop.drop ⟨(bn (by exact absurd (AA hy h0 (hl▸J)).2.2.1 ‹_›)),rfl⟩)
    exact At.rp 3 1 [(26,vI i)]<|Op.cO 27 (i+1) (by omega) (by(have h9:(ko.length:Int)=5:=rfl;omega))<|Op.pg 8 [(3,vI (i+1))]<|At.ke (dc _ (aM.trans Z (by repeat (first|assumption|apply aM.trans))) (qk y u) l (i+1) _ _ _ _ (by(have h9:=congrArg List.length hl;omega)) (by omega) (by(have h9:=congrArg List.length hl;omega)) (by exact hl) (by exact(AA hy h0 (hl▸J)).2.2.2) (by exact hK.done h0 (by have h9:(ko.length:Int)=5:=rfl;omega)) dT X O.drop)
   refine At.rp 10 3 [(52,vP G),(54,.agg #[vI 2,vI 3,vI 0,vI 9,vS [],vN,vI 0,vI 0,vF,vF,vF,vN,vN])]<|Op.cl (some 55) 1 I (KU _ _ _ I.sub D G y _ a0 (⟨2,3,0,⟨9,[],[],0,0,false,false,false,[]⟩,[]⟩:c7) _ (an.nil _ _ _) _ (an.nil _ _ _) _ (an.nil _ _ _) hP (by(try dsimp only)<;>omega) (by((try dsimp only)<;>(exact⟨by omega,by have h9:(ko.length:Int)=5:=rfl;omega⟩))) (by(try dsimp only)<;>exact S3) (St.pt 1 I)) ?_
   rintro _ d1 _ e5 d2 d3 ⟨e6,e7,e8,e9,rfl,d4,d5,b8,d6,rfl⟩
   obtain⟨ca,cb,rfl⟩:=d4.ak
   obtain⟨ce,n105,rfl⟩:=d5.ak
   obtain⟨a4,a5,rfl⟩:=b8.ak
   replace D:=D.mono d2
   refine Op.px 3 [(56,.agg #[vI ((cE y (⟨2,3,0,⟨9,[],[],0,0,false,false,false,[]⟩,[]⟩:c7)).Code),vI ((cE y (⟨2,3,0,⟨9,[],[],0,0,false,false,false,[]⟩,[]⟩:c7)).aU),vI ((cE y (⟨2,3,0,⟨9,[],[],0,0,false,false,false,[]⟩,[]⟩:c7)).At),vS ((cE y (⟨2,3,0,⟨9,[],[],0,0,false,false,false,[]⟩,[]⟩:c7)).aa.af),vL ca (((cE y (⟨2,3,0,⟨9,[],[],0,0,false,false,false,[]⟩,[]⟩:c7)).aa.Data).length) cb,vI ((cE y (⟨2,3,0,⟨9,[],[],0,0,false,false,false,[]⟩,[]⟩:c7)).aa.ai),vI ((cE y (⟨2,3,0,⟨9,[],[],0,0,false,false,false,[]⟩,[]⟩:c7)).aa.aC),vI ((cE y (⟨2,3,0,⟨9,[],[],0,0,false,false,false,[]⟩,[]⟩:c7)).aa.Next),vI ((cE y (⟨2,3,0,⟨9,[],[],0,0,false,false,false,[]⟩,[]⟩:c7)).aa.aF),vL ce (((cE y (⟨2,3,0,⟨9,[],[],0,0,false,false,false,[]⟩,[]⟩:c7)).aX).length) n105,vL a4 (((cE y (⟨2,3,0,⟨9,[],[],0,0,false,false,false,[]⟩,[]⟩:c7)).aP).length) a5]),(57,.bool (lD y (⟨2,3,0,⟨9,[],[],0,0,false,false,false,[]⟩,[]⟩:c7)))]<|Op.al 6 43 dG d3 fun cf fa d7=>Op.sg 43 6 56 0 0 #[vI ((cE y (⟨2,3,0,⟨9,[],[],0,0,false,false,false,[]⟩,[]⟩:c7)).Code),vI ((cE y (⟨2,3,0,⟨9,[],[],0,0,false,false,false,[]⟩,[]⟩:c7)).aU),vI ((cE y (⟨2,3,0,⟨9,[],[],0,0,false,false,false,[]⟩,[]⟩:c7)).At),vS ((cE y (⟨2,3,0,⟨9,[],[],0,0,false,false,false,[]⟩,[]⟩:c7)).aa.af),vL ca (((cE y (⟨2,3,0,⟨9,[],[],0,0,false,false,false,[]⟩,[]⟩:c7)).aa.Data).length) cb,vI ((cE y (⟨2,3,0,⟨9,[],[],0,0,false,false,false,[]⟩,[]⟩:c7)).aa.ai),vI ((cE y (⟨2,3,0,⟨9,[],[],0,0,false,false,false,[]⟩,[]⟩:c7)).aa.aC),vI ((cE y (⟨2,3,0,⟨9,[],[],0,0,false,false,false,[]⟩,[]⟩:c7)).aa.Next),vI ((cE y (⟨2,3,0,⟨9,[],[],0,0,false,false,false,[]⟩,[]⟩:c7)).aa.aF),vL ce (((cE y (⟨2,3,0,⟨9,[],[],0,0,false,false,false,[]⟩,[]⟩:c7)).aX).length) n105,vL a4 (((cE y (⟨2,3,0,⟨9,[],[],0,0,false,false,false,[]⟩,[]⟩:c7)).aP).length) a5] d7 zt fun fg Y=>Op.pg 17 [(7,.bool (lD y (⟨2,3,0,⟨9,[],[],0,0,false,false,false,[]⟩,[]⟩:c7)))]<|At.rp 21 2 [(59,.bool (lD y (⟨2,3,0,⟨9,[],[],0,0,false,false,false,[]⟩,[]⟩:c7)))] ?_
   refine Op.wb (lD y (⟨2,3,0,⟨9,[],[],0,0,false,false,false,[]⟩,[]⟩:c7)) 59 (fun fi=>?_) fun fj=>?_
   ·refine Op.px 1 [(60,vP cf)]<|Op.l1 29 60 61 0 (vI ((cE y (⟨2,3,0,⟨9,[],[],0,0,false,false,false,[]⟩,[]⟩:c7)).Code)) (Y.ag 0 rfl)<|Op.px 3 [(64,.bool (((cE y (⟨2,3,0,⟨9,[],[],0,0,false,false,false,[]⟩,[]⟩:c7)).Code)==0))]<|Op.wd (((cE y (⟨2,3,0,⟨9,[],[],0,0,false,false,false,[]⟩,[]⟩:c7)).Code)=0) 64 (fun fl=>?_) fun fp=>?_
    ·refine Op.px 1 [(65,vQ cf 10)]<|Op.l1 41 65 66 10 (vL a4 (((cE y (⟨2,3,0,⟨9,[],[],0,0,false,false,false,[]⟩,[]⟩:c7)).aP).length) a5) (Y.ag 0 rfl)<|Op.px 1 [(67,.agg #[vI 2,vI 1,vS ([47,97])])]<|Op.ls 68 1 45 #[vI 2,vI 1,vS ([47,97])] Y fun ch fr ab=>?_
     have d8:aH 45 cA d1 (vL (some ⟨ch,0,none⟩) 1 1) [(⟨2,1,[47,97]⟩:au)] [(ch,Obj.cells #[vI 2,vI 1,vS ([47,97])] 45 (0,0))]:=aH.lit (by kernel_rfl) (by unfold maxLen;decide) (by kernel_rfl) ⟨_,_,rfl,rfl,Reads.nil⟩
     have ci:=ab.gH
     have d9:=d8.fK ab
     refine Op.le (some 69) 0 ab (JN _ _ _ ab.jk (D.mono ci) _ _ (b8.mono ci) _ _ d9 (by((try dsimp only)<;>(exact cH (CI (congrArg List.length (xU (xT hy hl ‹_› h1)).2.2.1)) (by decide))))) (fun _ _ _ hp=>by obtain⟨_,a6,_⟩:=hp;exact a6) ?_ (hM:=(fun _ _ h=>absurd h (gP _)))
     rintro _ _ ft ck ⟨rfl,a6,rfl⟩;clear a6
     refine Op.px 2 [(71,.bool (decide (((cE y (⟨2,3,0,⟨9,[],[],0,0,false,false,false,[]⟩,[]⟩:c7)).aP)=([(⟨2,1,[47,97]⟩:au)]))))]<|Op.wd (((cE y (⟨2,3,0,⟨9,[],[],0,0,false,false,false,[]⟩,[]⟩:c7)).aP)=([(⟨2,1,[47,97]⟩:au)])) 71 (fun fv=>?_) fun fw=>?_
     ·refine Op.px 1 [(72,vP G)] ?_
      have a7:=ck.fs [1,1,2] rfl
      refine Op.cl (some 73) 1 a7 (SU _ _ _ a7.sub D G (qk y (⟨2,3,0,⟨9,[],[],0,0,false,false,false,[]⟩,[]⟩:c7)) _ d6 (by((try dsimp only)<;>(exact(hK.done h0 (by have h9:(ko.length:Int)=5:=rfl;omega)).ok.SK (by have h9:(ko.length:Int)=5:=rfl;omega)))) (St.pt 1 a7)) ?_
      rintro _ fx _ f0 f1 ea ⟨v138,f2,f3,f4,v148,f6,f7,f8,f9,gc,ge,rfl,eb,ed,ee,ef,eh,gg,rfl⟩
      obtain⟨gk,gn,rfl⟩:=eb.ak
      obtain⟨a146,gs,rfl⟩:=ed.ak
      obtain⟨g1,n152,rfl⟩:=ee.ak
      obtain⟨g2,g3,rfl⟩:=ef.ak
      obtain⟨g4,g5,rfl⟩:=eh.ak
      exact Op.pr 18 0 (.bool ((((qW (qk y (⟨2,3,0,⟨9,[],[],0,0,false,false,false,[]⟩,[]⟩:c7))).jq).length:Int)==1)) (hR ea.drop.drop.drop.drop.drop.drop.drop.drop ⟨(bn (by exact jZ.2 (by have h9:=(xU (xT hy hl ‹_› h1)).2.2.2;show(((qk y oX).aA.length:Nat):Int)=1;omega))),rfl⟩)
     exact Op.pr 18 0 vF (hR ck.drop.drop.drop ⟨(bn (by exact absurd (xU (xT hy hl ‹_› h1)).2.2.1 ‹_›)),rfl⟩)
    exact Op.pr 18 0 vF (hR Y.drop.drop ⟨(bn (by exact absurd (xU (xT hy hl ‹_› h1)).2.1 ‹_›)),rfl⟩)
   exact Op.pr 18 0 vF (hR Y.drop.drop ⟨(bn (by exact Bool.noConfusion ((xU (xT hy hl ‹_› h1)).1.symm.trans ‹_›))),rfl⟩)
 exact At.ke (db _ _ (aM.refl _) vr ([(⟨1,1,0,⟨1,[],[],0,9,false,false,false,[]⟩,[]⟩:c7),(⟨2,1,0,⟨1,[],[],0,9,false,false,false,[]⟩,[]⟩:c7),(⟨1,2,0,⟨3,[47,97],[],0,0,true,false,false,[]⟩,[]⟩:c7),(⟨2,2,0,⟨6,[47,97],[],0,0,false,false,true,[]⟩,[]⟩:c7),(⟨1,3,0,⟨2,[],[],0,0,false,false,false,[]⟩,[]⟩:c7)]) 0 _ _ _ _ (bG _) (by omega) (by decide) (by rfl) (by rfl) (by exact l5.new) ad da c9)
end Go.Proofs.YtdinkjbfgcfccaaGreatDoor.Sw
