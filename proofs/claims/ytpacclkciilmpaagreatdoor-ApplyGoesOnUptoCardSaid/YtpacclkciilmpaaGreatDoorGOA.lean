/- Lemmas for laws of this seat. -/
import Derived.Test.YtpacclkciilmpaaGreatDoorGBP
set_option maxHeartbeats 4000000
namespace Go.Proofs.YtpacclkciilmpaaGreatDoor.Sw
open Go.Proofs.Tryz
open Go
theorem Uk (a b:cM):((a.Client==b.Client)&&((a.aJ==b.aJ)&&((a.cA==b.cA)&&true)))=decide (a=b):=by
  obtain⟨a0,a1,a2⟩:=a;obtain⟨b0,b1,b2⟩:=b
  rw[oI];simp[Fo,bO,cM.mk.injEq]
set_option linter.unusedVariables false
set_option linter.unusedSimpArgs false
set_option linter.deprecated false
section
variable {i k:Int} {y s:Sp} {x:cz}
end
section
variable {i:Int} {s z:Sp} {x:cz} {l:List cz} {fb:aQ} {fn:Bool} {b':aQ}
end
section
variable {a b:gf} {i:Int} {x y:fV}
theorem sJ (h:¬a.bw=b.bw∨¬a.bg=b.bg∨¬a.cy=b.cy∨¬a.cX=b.cX∨¬a.dG=b.dG∨¬a.aW=b.aW∨¬a.cw=b.cw):false=decide (a=b):=by
  refine(fU fun e=>?_).symm
  subst e
  rcases h with h|h|h|h|h|h|h<;>exact h rfl
theorem Ul (h:¬(a.cw.length:Int)=b.cw.length):false=decide (a=b):=sJ (.inr (.inr (.inr (.inr (.inr (.inr fun e=>h (by rw[e])))))))
theorem D3 (hx:a.cw[i.toNat]?=some x) (hy:b.cw[i.toNat]?=some y) (h:¬x.Client=y.Client∨¬x.bz=y.bz∨¬x.Data=y.Data):false=decide (a=b):=sJ (.inr (.inr (.inr (.inr (.inr (.inr fun e=>by
  rw[e,hy] at hx
  obtain rfl:=fT hx
  rcases h with h|h|h<;>exact h rfl))))))
theorem Um (h1:x.Client=y.Client) (h2:x.bz=y.bz) (h3:x.Data=y.Data):x=y:=by
  obtain⟨_,_,_⟩:=x
  obtain⟨_,_,_⟩:=y
  simp only at h1 h2 h3
  subst h1 h2 h3
  rfl
theorem Un (h1:a.bw=b.bw) (h2:a.bg=b.bg) (h3:a.cy=b.cy) (h4:a.cX=b.cX) (h5:a.dG=b.dG) (h6:a.aW=b.aW) (hl:(a.cw.length:Int)=b.cw.length) (ht:a.cw.take i.toNat=b.cw.take i.toNat) (hi:¬i<(a.cw.length:Int)):true=decide (a=b):=by
  refine(eW ?_).symm
  rw[eR (by omega),eR (by omega)] at ht
  obtain⟨_,_,_,_,_,_,_⟩:=a
  obtain⟨_,_,_,_,_,_,_⟩:=b
  simp only at h1 h2 h3 h4 h5 h6 ht
  subst h1 h2 h3 h4 h5 h6 ht
  rfl
end
set_option maxRecDepth 100000
theorem Uo (B:World) (h:av) (g:GH) (hg:bf g h) (bj:bh g) (ad:Value) (a:List cM) (ae:ay g 130 nL ad a) (am:Value) (b:List cM) (ar:ay g 130 nL am b) (h1:a.length≤1000000000):
  aA prog B 44 #[ad,am] h g [] (fun a5 g' L'=>a5=.bool (decide (a=b))∧g'=g∧L'=[]):=by
 obtain⟨aw,I,rfl⟩:=ae.ai
 obtain⟨a0,J,rfl⟩:=ar.ai
 refine aA.aq func44 fun R hR=>?_
 have a1:=St.init hg
 refine At.go 1 1 []<|At.go 2 5 [(10,.bool ((a.length:Int) != (b.length:Int)))]<|At.fn ((a.length:Int)=(b.length:Int)) 10 3 5 (fun bk=>?_) fun bm=>?_
 ·exact At.gr 4 1 4 vF (hR a1 ⟨(aS (by exact wZ ‹_›)),rfl,rfl⟩)
 refine At.go 6 1 [(5,vI 0)] ?_
 have a6:∀(m:Nat) (i:Int) (O:av) (hm:a.length-i.toNat<m) (h0:0≤i) (h2:i≤a.length) (ht:a.take i.toNat=b.take i.toNat) (G:St h g (aM []) g [] O),At (bS prog B 44 f44 R) [] 6 [(0,vL aw a.length I),(1,vL a0 b.length J),(5,vI i)] O:=by
  intro m;induction m with
  |zero=>intros;omega
  |succ m a7=>
   intro i O hm h0 h2 ht G
   refine At.go 7 4 [(14,.bool (decide (i<(a.length:Int))))]<|At.fd (i<(a.length:Int)) 14 8 13 (fun bo=>?_) fun a8=>?_
   ·refine At.dw (fun _=>False) [(0,true),(1,true),(2,true),(4,true),(5,true),(6,true),(3,true),(7,false),(8,true)]<|Op.px 2 [(17,vL aw a.length I),(18,vI i)] ?_
    obtain⟨u,U⟩:=cD a i
    obtain⟨a9,a3,bs,bt,bb,bc,V⟩:=ay.br ae _ U
    cases bb
    refine Op.iq 43 130 3 24 a.length I 17 18 19 a9 a3 i ?_
    replace V:cut _ _ _=[vI u.Client,vI u.aJ,vI u.cA]:=V
    refine Op.px 2 [(21,vL a0 b.length J),(22,vI i)] ?_
    obtain⟨D,X⟩:=cD b i
    obtain⟨bd,a4,b3,b4,be,bi,Y⟩:=ay.br ar _ X
    cases be
    refine Op.iq 43 130 3 24 b.length J 21 22 23 bd a4 i ?_
    replace Y:cut _ _ _=[vI D.Client,vI D.aJ,vI D.cA]:=Y
    refine Op.jg (T:=130) (x:=19) (o:=a3+i.toNat*3) (d:=20) (n:=3) (vs:=[vI u.Client,vI u.aJ,vI u.cA]) (by kernel_rfl) (by kernel_rfl) (by kernel_rfl) id (G.sub _ _ bc) V rfl<|Op.la 130 23 24 (a4+i.toNat*3) 3 [vI D.Client,vI D.aJ,vI D.cA] (G.sub _ _ bi) ?_ (hv:=Y)
    refine Op.Bp (T:=130) (T':=130) (x:=20) (y:=24) (neq:=true) (dst:=25) (xs:=#[vI u.Client,vI u.aJ,vI u.cA]) (ys:=#[vI D.Client,vI D.aJ,vI D.cA]) (q:=((u.Client==D.Client)&&((u.aJ==D.aJ)&&((u.cA==D.cA)&&true)))) (q':=!(decide (u=D))) (by kernel_rfl) (by kernel_rfl) (by kernel_rfl) (by kernel_rfl) (by kernel_rfl) (congrArg (fun z=>!z) (Uk u D))<|Op.gt 9<|At.c_ (!(decide (u=D))) 25 10 12 (fun Z=>?_) fun ab=>?_
    ·replace Z:=kF (dm Z)
     exact At.gr 11 1 4 vF (hR G ⟨(aS (by exact w4 U X Z)),rfl,rfl⟩)
    replace ab:=iR (dn ab)
    exact At.rp 3 1 [(15,vI i)]<|Op.vq 16 (i+1)<|Op.pg 6 [(5,vI (i+1))] (At.ke (a7 (i+1) _ (by omega) (by omega) (by omega) (by exact uP ht h0 U X ab) G))
   exact At.gr 14 1 4 vT (hR G ⟨(aS (by exact w5 ‹_› a8 ht)),rfl,rfl⟩)
 exact At.ke (a6 _ 0 _ (bK _) (by omega) (by omega) (by rfl) a1)
theorem Up (B:World) (h:av) (g:GH) (hg:bf g h) (Y:bh g) (a:gf) (ci:Value) (ck:ay g 56 kJ ci a.cy) (co:Value) (c3:ay g 69 cu co a.cX) (c4:Value) (c5:ay g 130 nL c4 a.dG) (c6:Value) (c8:ay g 69 cu c6 a.aW) (c9:Value) (da:ay g 103 ni c9 a.cw) (b:gf) (db:Value) (dc:ay g 56 kJ db b.cy) (dd:Value) (df:ay g 69 cu dd b.cX) (dg:Value) (dj:ay g 130 nL dg b.dG) (dk:Value) (dl:ay g 69 cu dk b.aW) (dp:Value) (dq:ay g 103 ni dp b.cw) (h1:(a.cy.length≤1000000∧∀n∈a.cy,n.Data.length≤1000000000)∧a.cX.length≤1000000∧a.dG.length≤1000000∧a.aW.length≤1000000∧a.cw.length≤1000000∧∀x∈a.cw,x.Data.length≤1000000000):
  aA prog B 15 #[.agg #[vI a.bw,vI a.bg,ci,co,c4,c6,c9],.agg #[vI b.bw,vI b.bg,db,dd,dg,dk,dp]] h g [] (fun en g' L'=>en=.bool (decide (a=b))∧g'=g∧L'=[]):=by
 obtain⟨a1,a3,rfl⟩:=ck.ai
 obtain⟨a4,a5,rfl⟩:=c3.ai
 obtain⟨a6,a7,rfl⟩:=c5.ai
 obtain⟨a8,a9,rfl⟩:=c8.ai
 obtain⟨Z,U,rfl⟩:=da.ai
 obtain⟨bb,bc,rfl⟩:=dc.ai
 obtain⟨bd,be,rfl⟩:=df.ai
 obtain⟨bi,bj,rfl⟩:=dj.ai
 obtain⟨bk,bm,rfl⟩:=dl.ai
 obtain⟨a0,ab,rfl⟩:=dq.ai
 refine aA.aq func15 fun R hR=>At.rg 3<|Op.bx 2 46 0 #[vI a.bw,vI a.bg,vL a1 a.cy.length a3,vL a4 a.cX.length a5,vL a6 a.dG.length a7,vL a8 a.aW.length a9,vL Z a.cw.length U] (St.init hg) fun G eQ eo=>Op.bx 3 46 1 #[vI b.bw,vI b.bg,vL bb b.cy.length bc,vL bd b.cX.length be,vL bi b.dG.length bj,vL bk b.aW.length bm,vL a0 b.cw.length ab] eo fun I eT J=>Op.pg 1 [] ?_
 refine At.rp 53 1 [(8,vP G)]<|Op.l1 3 8 9 0 (vI a.bw) (J.ag 1 rfl)<|Op.px 1 [(10,vP I)]<|Op.l1 3 10 11 0 (vI b.bw) (J.ag 0 rfl)<|Op.px 2 [(13,.bool (a.bw != b.bw))] ?_
 refine Op.wb (a.bw != b.bw) 13 (fun du=>?_) fun dv=>?_
 ·replace du:=jO du
  exact Op.pg 2 [(60,vT)]<|At.bX 60 3<|At.gr 4 1 4 vF (hR J.drop.drop ⟨(aS (by exact sJ (.inl ‹_›))),rfl,rfl⟩)
 replace dv:=l6 dv
 refine Op.px 1 [(14,vQ G 1)]<|Op.l1 3 14 15 1 (vI a.bg) (J.ag 1 rfl)<|Op.px 1 [(16,vQ I 1)]<|Op.l1 3 16 17 1 (vI b.bg) (J.ag 0 rfl)<|Op.px 3 [(20,.bool (a.bg != b.bg))] ?_
 refine Op.wb (a.bg != b.bg) 20 (fun dC=>?_) fun dE=>?_
 ·replace dC:=jO dC
  exact Op.pg 2 [(60,vT)]<|At.bX 60 3<|At.gr 4 1 4 vF (hR J.drop.drop ⟨(aS (by exact sJ (.inr (.inl ‹_›)))),rfl,rfl⟩)
 replace dE:=l6 dE
 refine Op.px 1 [(21,vQ G 2)]<|Op.l1 41 21 22 2 (vL a1 a.cy.length a3) (J.ag 1 rfl)<|Op.px 1 [(23,vQ I 2)]<|Op.l1 41 23 24 2 (vL bb b.cy.length bc) (J.ag 0 rfl)<|Op.c1 25 (C9 _ _ _ J.sub Y _ _ ck _ _ dc (by(try dsimp only)<;>omega) (by(try dsimp only)<;>exact h1.1.2)) J fun e4 ad=>?_
 refine Op.px 3 [(28,.bool (!(decide (a.cy=b.cy))))]<|Op.wb (!(decide (a.cy=b.cy))) 28 (fun dT=>?_) fun d0=>?_
 ·replace dT:=kF (dm dT)
  exact Op.pg 2 [(60,vT)]<|At.bX 60 3<|At.gr 4 1 4 vF (hR ad.drop.drop ⟨(aS (by exact sJ (.inr (.inr (.inl ‹_›))))),rfl,rfl⟩)
 replace d0:=iR (dn d0)
 refine Op.px 1 [(29,vQ G 3)]<|Op.l1 42 29 30 3 (vL a4 a.cX.length a5) (ad.ag 1 rfl)<|Op.px 1 [(31,vQ I 3)]<|Op.l1 42 31 32 3 (vL bd b.cX.length be) (ad.ag 0 rfl)<|Op.c1 33 (Dn _ _ _ ad.sub Y _ _ c3 _ _ df (by(try dsimp only)<;>omega)) ad fun e5 ae=>?_
 refine Op.px 3 [(36,.bool (!(decide (a.cX=b.cX))))]<|Op.wb (!(decide (a.cX=b.cX))) 36 (fun d1=>?_) fun d2=>?_
 ·replace d1:=kF (dm d1)
  exact Op.pg 2 [(60,vT)]<|At.bX 60 3<|At.gr 4 1 4 vF (hR ae.drop.drop ⟨(aS (by exact sJ (.inr (.inr (.inr (.inl ‹_›)))))),rfl,rfl⟩)
 replace d2:=iR (dn d2)
 refine Op.px 1 [(37,vQ G 4)]<|Op.l1 43 37 38 4 (vL a6 a.dG.length a7) (ae.ag 1 rfl)<|Op.px 1 [(39,vQ I 4)]<|Op.l1 43 39 40 4 (vL bi b.dG.length bj) (ae.ag 0 rfl)<|Op.c1 41 (Uo _ _ _ ae.sub Y _ _ c5 _ _ dj (by(try dsimp only)<;>omega)) ae fun e6 am=>?_
 refine Op.px 3 [(44,.bool (!(decide (a.dG=b.dG))))]<|Op.wb (!(decide (a.dG=b.dG))) 44 (fun d3=>?_) fun d4=>?_
 ·replace d3:=kF (dm d3)
  exact Op.pg 2 [(60,vT)]<|At.bX 60 3<|At.gr 4 1 4 vF (hR am.drop.drop ⟨(aS (by exact sJ (.inr (.inr (.inr (.inr (.inl ‹_›))))))),rfl,rfl⟩)
 replace d4:=iR (dn d4)
 refine Op.px 1 [(45,vQ G 5)]<|Op.l1 42 45 46 5 (vL a8 a.aW.length a9) (am.ag 1 rfl)<|Op.px 1 [(47,vQ I 5)]<|Op.l1 42 47 48 5 (vL bk b.aW.length bm) (am.ag 0 rfl)<|Op.c1 49 (Dn _ _ _ am.sub Y _ _ c8 _ _ dl (by(try dsimp only)<;>omega)) am fun e7 ar=>?_
 refine Op.px 3 [(52,.bool (!(decide (a.aW=b.aW))))]<|Op.wb (!(decide (a.aW=b.aW))) 52 (fun d5=>?_) fun d6=>?_
 ·replace d5:=kF (dm d5)
  exact Op.pg 2 [(60,vT)]<|At.bX 60 3<|At.gr 4 1 4 vF (hR ar.drop.drop ⟨(aS (by exact sJ (.inr (.inr (.inr (.inr (.inr (.inl ‹_›)))))))),rfl,rfl⟩)
 replace d6:=iR (dn d6)
 refine Op.px 1 [(53,vQ G 6)]<|Op.l1 44 53 54 6 (vL Z a.cw.length U) (ar.ag 1 rfl)<|Op.px 2 [(55,vI (a.cw.length:Int)),(56,vQ I 6)]<|Op.l1 44 56 57 6 (vL a0 b.cw.length ab) (ar.ag 0 rfl)<|Op.pg 2 [(60,.bool ((a.cw.length:Int) != (b.cw.length:Int)))] ?_
 refine At.fn ((a.cw.length:Int)=(b.cw.length:Int)) 60 3 5 (fun e8=>?_) fun e9=>?_
 ·exact At.gr 4 1 4 vF (hR ar.drop.drop ⟨(aS (by exact Ul ‹_›)),rfl,rfl⟩)
 refine At.go 6 1 [(5,vI 0)] ?_
 have ep:∀(m:Nat) (i:Int) (bo:av) (hm:a.cw.length-i.toNat<m) (h0:0≤i) (h2:i≤a.cw.length) (hl:(a.cw.length:Int)=b.cw.length) (ht:a.cw.take i.toNat=b.cw.take i.toNat) (e1:a.bw=b.bw) (e2:a.bg=b.bg) (e3:a.cy=b.cy) (bs:a.cX=b.cX) (bt:a.dG=b.dG) (b3:a.aW=b.aW) (V:St h g (aM []) g [[(I,Obj.cells #[vI b.bw,vI b.bg,vL bb b.cy.length bc,vL bd b.cX.length be,vL bi b.dG.length bj,vL bk b.aW.length bm,vL a0 b.cw.length ab] 46 (0,0))],[(G,Obj.cells #[vI a.bw,vI a.bg,vL a1 a.cy.length a3,vL a4 a.cX.length a5,vL a6 a.dG.length a7,vL a8 a.aW.length a9,vL Z a.cw.length U] 46 (0,0))]] bo),At (bS prog B 15 f15 R) [] 6 [(2,vP G),(3,vP I),(5,vI i)] bo:=by
  intro m;induction m with
  |zero=>intros;omega
  |succ m er=>
   intro i bo hm h0 h2 hl ht e1 e2 e3 bs bt b3 V
   refine At.rp 5 2 [(61,vI i),(62,vQ G 6)]<|Op.l1 44 62 63 6 (vL Z a.cw.length U) (V.ag 1 rfl)<|Op.pg 7 [(65,.bool (decide (i<(a.cw.length:Int))))]<|At.fd (i<(a.cw.length:Int)) 65 8 15 (fun fa=>?_) fun fg=>?_
   ·refine At.rp 7 1 [(68,vQ G 6)]<|Op.l1 44 68 69 6 (vL Z a.cw.length U) (V.ag 1 rfl)<|Op.px 1 [(70,vI i)] ?_
    obtain⟨u,X⟩:=cD a.cw i
    obtain⟨et,d7,fi,fj,ex,eA,b4⟩:=ay.br da _ X
    cases ex
    refine Op.iq 44 103 3 40 a.cw.length U 69 70 71 et d7 i ?_
    obtain⟨fl,d8,b4⟩:=b4
    obtain⟨b5,b6,rfl⟩:=d8.ai
    refine Op.la 103 71 72 (d7+i.toNat*3) 3 [vI u.Client,vI u.bz,vL b5 u.Data.length b6] (V.sub _ _ eA) ?_ (hv:=b4)
    refine Op.al 6 103 #[vI 0,vI 0,vN] V fun b8 fp eB=>Op.sg 103 6 72 0 0 #[vI u.Client,vI u.bz,vL b5 u.Data.length b6] eB zt fun fr ca=>Op.gt 9<|At.rp 7 1 [(73,vQ I 6)]<|Op.l1 44 73 74 6 (vL a0 b.cw.length ab) (ca.ag 1 rfl) ?_
    refine Op.px 1 [(75,vI i)] ?_
    obtain⟨D,aw⟩:=cD b.cw i
    obtain⟨eI,d9,ft,fv,eJ,eK,cb⟩:=ay.br dq _ aw
    cases eJ
    refine Op.iq 44 103 3 40 b.cw.length ab 74 75 76 eI d9 i ?_
    obtain⟨fw,ea,cb⟩:=cb
    obtain⟨ce,cf,rfl⟩:=ea.ai
    refine Op.la 103 76 77 (d9+i.toNat*3) 3 [vI D.Client,vI D.bz,vL ce D.Data.length cf] (ca.sub _ _ eK) ?_ (hv:=cb)
    refine Op.al 7 103 #[vI 0,vI 0,vN] ca fun ch fx eL=>Op.sg 103 7 77 0 0 #[vI D.Client,vI D.bz,vL ce D.Data.length cf] eL zt fun f0 O=>Op.gt 10<|At.rp 20 1 [(78,vP b8)]<|Op.l1 3 78 79 0 (vI u.Client) (O.ag 1 rfl) ?_
    refine Op.px 1 [(80,vP ch)]<|Op.l1 3 80 81 0 (vI D.Client) (O.ag 0 rfl)<|Op.px 2 [(83,.bool (u.Client != D.Client))]<|Op.wb (u.Client != D.Client) 83 (fun eb=>?_) fun ed=>?_
    ·replace eb:=jO eb
     exact Op.pg 11 [(97,vT)]<|At.bX 97 12<|At.gr 13 1 4 vF (hR O.drop.drop.drop.drop ⟨(aS (by exact D3 X aw (.inl ‹_›))),rfl,rfl⟩)
    replace ed:=l6 ed
    refine Op.px 1 [(84,vQ b8 1)]<|Op.l1 3 84 85 1 (vI u.bz) (O.ag 1 rfl)<|Op.px 1 [(86,vQ ch 1)]<|Op.l1 3 86 87 1 (vI D.bz) (O.ag 0 rfl)<|Op.px 3 [(90,.bool (u.bz != D.bz))] ?_
    refine Op.wb (u.bz != D.bz) 90 (fun ee=>?_) fun ef=>?_
    ·replace ee:=jO ee
     exact Op.pg 11 [(97,vT)]<|At.bX 97 12<|At.gr 13 1 4 vF (hR O.drop.drop.drop.drop ⟨(aS (by exact D3 X aw (.inr (.inl ‹_›)))),rfl,rfl⟩)
    replace ef:=l6 ef
    refine Op.px 1 [(91,vQ b8 2)]<|Op.l1 28 91 92 2 (vL b5 u.Data.length b6) (O.ag 1 rfl)<|Op.px 1 [(93,vQ ch 2)]<|Op.l1 28 93 94 2 (vL ce D.Data.length cf) (O.ag 0 rfl)<|Op.c1 95 (C8 _ _ _ O.sub Y _ _ d8 _ _ ea (by((try dsimp only)<;>(exact h1.2.2.2.2.2 _ (cL X))))) O fun f1 eh=>?_
    refine Op.pg 11 [(97,.bool (!(decide (u.Data=D.Data))))]<|At.c_ (!(decide (u.Data=D.Data))) 97 12 14 (fun ej=>?_) fun em=>?_
    ·replace ej:=kF (dm ej)
     exact At.gr 13 1 4 vF (hR eh.drop.drop.drop.drop ⟨(aS (by exact D3 X aw (.inr (.inr ‹_›)))),rfl,rfl⟩)
    replace em:=iR (dn em)
    exact At.rp 3 1 [(66,vI i)]<|Op.vq 67 (i+1)<|Op.pg 6 [(5,vI (i+1))]<|At.ke (er (i+1) _ (by omega) (by omega) (by omega) (by exact hl) (by exact uP ht h0 X aw (Um ‹_› ‹_› ‹_›)) (by exact e1) (by exact e2) (by exact e3) (by exact bs) (by exact bt) (by exact b3) eh.drop.drop)
   exact At.gr 16 1 4 vT (hR V.drop.drop ⟨(aS (by exact Un e1 e2 e3 bs bt b3 hl ht ‹_›)),rfl,rfl⟩)
 exact At.ke (ep _ 0 _ (bK _) (by omega) (by omega) ‹_› (by rfl) ‹_› ‹_› ‹_› ‹_› ‹_› ‹_› ar)
set_option linter.unusedSectionVars false
section
variable {i j c n:Int} {s z:Sp} {o:aC} {x:cz} {e:bu} {b p:aQ}
theorem gX.up (H:gX i s) (h:i≤j):gX j s:=⟨H.ok.mono (by omega),by have:=H.cnt;omega⟩
end
theorem Uq (B:World) (h:av) (g:GH) (hg:bf g h) (D:bh g) (f0:Value) (list:List cz) (dC:ay g 38 qd f0 list) (f1:Value) (more:List cz) (c8:ay g 38 qd f1 more) (hP:l7 g) (hl:list.length≤1048576) (hm:more.length≤1048576) (ho:∀z∈list,cY z.Op≤2000000∧z.eG.length≤2000000) (hD:∀z∈more,cY z.Op≤2000000∧z.eG.length≤2000000):
  aA prog B 3 #[f0,f1] h g [] (fun hE g' L'=>hE=vT∧L'=[]):=by
 obtain⟨hF,hG,rfl⟩:=dC.ai
 obtain⟨hH,hI,rfl⟩:=c8.ai
 refine aA.aq func3 fun R hR=>?_
 have f2:=St.init hg
 refine At.go 1 1 []<|At.rg 2<|Op.c0 (some 13) (Ld _ _ _ f2.sub D hP) f2 ?_
 rintro _ lL _ lO dE f4 ⟨rfl,rfl⟩
 replace D:=D.mono dE
 replace hP:=hP.mono dE
 replace dC:=dC.mono dE
 replace c8:=c8.mono dE
 refine Op.pg 2 [(14,vF)]<|At.dP 14 5<|At.rp 3 1 [(15,vL hF list.length hG)]<|Op.c0 (some 16) (DV _ _ _ f4.sub D _ _ dC (by(try dsimp only)<;>omega)) f4 ?_
 rintro _ l0 _ l2 et f5 ⟨l3,rfl,Z,rfl⟩
 obtain⟨a28,b5,rfl⟩:=Z.ai
 replace D:=D.mono et
 replace hP:=hP.mono et
 replace c8:=c8.mono et
 refine Op.pg 6 [(0,vL a28 ((list.take 60).length) b5)]<|At.rp 3 1 [(17,vL hH more.length hI)]<|Op.c0 (some 18) (DV _ _ _ f5.sub D _ _ c8 (by(try dsimp only)<;>omega)) f5 ?_
 rintro _ l4 _ l8 ex f6 ⟨ma,rfl,G,rfl⟩
 obtain⟨dg,ab,rfl⟩:=G.ai
 replace D:=D.mono ex
 replace hP:=hP.mono ex
 replace Z:=Z.mono ex
 refine Op.pg 7 [(1,vL dg ((more.take 60).length) ab)]<|At.rp 6 1 [(19,vL a28 ((list.take 60).length) b5)]<|Op.c1 20 (DU _ _ _ f6.sub D _ _ Z (by((try dsimp only)<;>((have h9:=cG list;omega)))) (by((try dsimp only)<;>(exact fun q hq=>(by have:=ho q (wC hq);omega))))) f6 fun md eA=>Op.px 1 [(21,.bool (ja (list.take 60)))]<|Op.wb (ja (list.take 60)) 21 (fun mf=>?_) fun mi=>?_
 ·exact Op.pg 8 [(24,vT)]<|At.bX 24 9<|At.gr 10 1 4 vT (hR eA ⟨(aS (by rfl)),rfl⟩)
 refine Op.px 1 [(22,vL dg ((more.take 60).length) ab)]<|Op.c1 23 (DU _ _ _ eA.sub D _ _ G (by((try dsimp only)<;>((have h9:=cG more;omega)))) (by((try dsimp only)<;>(exact fun q hq=>(by have:=hD q (wC hq);omega))))) eA fun ml eB=>Op.pg 8 [(24,.bool (ja (more.take 60)))]<|At.c_ (ja (more.take 60)) 24 9 11 (fun mp=>?_) fun mx=>?_
 ·exact At.gr 10 1 4 vT (hR eB ⟨(aS (by rfl)),rfl⟩)
 refine At.rg 2<|Op.c0 (some 25) (vr _ _ _ eB.sub D) eB ?_
 rintro _ my _ m0 dT f7 ⟨V,m1,rfl,eI,rfl⟩
 replace D:=D.mono dT
 replace hP:=hP.mono dT
 replace Z:=Z.mono dT
 replace G:=G.mono dT
 refine Op.pg 12 [(5,vP V)]<|At.rg 2<|Op.c0 (some 26) (vr _ _ _ f7.sub D) f7 ?_
 rintro _ hJ _ m2 dj hL ⟨a7,hN,rfl,J,rfl⟩
 replace D:=D.mono dj
 replace hP:=hP.mono dj
 replace Z:=Z.mono dj
 replace G:=G.mono dj
 replace eI:=eI.mono dj
 refine Op.pg 13 [(6,vP a7)]<|At.go 14 6 [(32,vF)]<|At.dP 32 17<|At.go 18 1 [(7,vI 0)] ?_
 have hO:∀(m:Nat) (d0:GH) (b6:aG hJ d0) (y:Sp) (i:Int) (eJ:au) (eK:av) (hm:(list.take 60).length-i.toNat<m) (h0:0≤i) (h1:i≤(list.take 60).length) (hK:gX i y) (b8:bB d0 V y eJ) (c9:St h g (aM []) d0 [hN,eJ] eK),At (bS prog B 3 f3 R) [] 18 [(0,vL a28 ((list.take 60).length) b5),(1,vL dg ((more.take 60).length) ab),(5,vP V),(6,vP a7),(7,vI i)] eK:=by
  intro m;induction m with
  |zero=>intros;omega
  |succ m hQ=>
   intro d0 b6 y i eJ eK hm h0 h1 hK b8 c9
   replace D:=D.mono b6
   replace hP:=hP.mono b6
   replace Z:=Z.mono b6
   replace G:=G.mono b6
   replace J:=J.mono b6
   refine At.go 19 4 [(36,.bool (decide (i<((list.take 60).length:Int))))]<|At.fd (i<((list.take 60).length:Int)) 36 20 22 (fun m3=>?_) fun m4=>?_
   ·refine At.dw (fun _=>False) [(0,true),(1,true),(2,true),(3,true),(6,true),(7,true),(8,true),(4,true),(9,true),(5,false),(10,false),(1011,false),(11,false)]<|Op.px 3 [(39,vP V),(40,vL a28 ((list.take 60).length) b5),(41,vI i)] ?_
    obtain⟨I,dk⟩:=cD (list.take 60) i
    obtain⟨eL,dl,m5,m6,hS,ca,eQ⟩:=ay.br Z _ dk
    cases hS
    refine Op.iq 22 38 13 144 ((list.take 60).length) b5 40 41 42 eL dl i ?_
    obtain⟨m7,m8,m9,f8,f9,gc,eQ⟩:=eQ
    obtain⟨hT,hV,rfl⟩:=f8.ai
    obtain⟨hW,hX,rfl⟩:=f9.ai
    obtain⟨hY,hZ,rfl⟩:=gc.ai
    refine Op.px 2 [(45,vL (some ⟨eL,dl,none⟩) ((list.take 60).length) b5),(46,vI i)] ?_
    obtain⟨na,nb,nd,nf,h2,cb,eT⟩:=ay.br Z _ dk
    cases h2
    refine Op.iq 22 38 13 144 ((list.take 60).length) b5 45 46 47 eL dl i ?_
    obtain⟨nm,v105,nn,d1,d2,d3,eT⟩:=eT
    obtain⟨a109,h3,rfl⟩:=d1.ai
    obtain⟨h6,h7,rfl⟩:=d2.ai
    obtain⟨ib,ih,rfl⟩:=d3.ai
    refine Op.jg (T:=38) (x:=42) (o:=dl+i.toNat*13) (d:=43) (n:=13) (vs:=[vI I.Client,vI I.bz,vI I.bw,vI I.Op.Kind,vS I.Op.aa,vL hT I.Op.Data.length hV,vI I.Op.ak,vI I.Op.aJ,.bool I.Op.aZ,.bool I.Op.aN,.bool I.Op.ah,vL hW I.Op.aH.length hX,vL hY I.eG.length hZ]) (by kernel_rfl) (by kernel_rfl) (by kernel_rfl) id (c9.sub _ _ ca) eQ rfl<|Op.jg (T:=38) (x:=47) (o:=dl+i.toNat*13) (d:=48) (n:=13) (vs:=[vI I.Client,vI I.bz,vI I.bw,vI I.Op.Kind,vS I.Op.aa,vL a109 I.Op.Data.length h3,vI I.Op.ak,vI I.Op.aJ,.bool I.Op.aZ,.bool I.Op.aN,.bool I.Op.ah,vL h6 I.Op.aH.length h7,vL ib I.eG.length ih]) (by kernel_rfl) (by kernel_rfl) (by kernel_rfl) id (c9.sub _ _ cb) eT rfl<|Op.c0 (some 44) (ya _ _ _ c9.sub D I _ f8 _ f9 _ gc) c9 ?_
    rintro _ no _ np bo ge ⟨v117,rfl,d4,rfl⟩
    obtain⟨a119,n120,rfl⟩:=d4.ai
    replace cb:=bo _ _ cb
    replace ca:=bo _ _ ca
    replace D:=D.mono bo
    replace hP:=hP.mono bo
    replace d1:=d1.mono bo
    replace d2:=d2.mono bo
    replace d3:=d3.mono bo
    replace b8:=b8.mono bo
    refine Op.c0 (some 49) (yb _ _ _ ge.sub D I _ d1 _ d2 _ d3 (by((try dsimp only)<;>((have h9:=(og (show ja (list.take 60)=false by assumption) _ (cL dk));omega)))) (by((try dsimp only)<;>((have h9:=(og (show ja (list.take 60)=false by assumption) _ (cL dk));omega))))) ge ?_
    rintro _ nu _ nx da ii ⟨nz,rfl,gg,rfl⟩
    obtain⟨a127,n128,rfl⟩:=gg.ai
    replace cb:=da _ _ cb
    replace ca:=da _ _ ca
    replace D:=D.mono da
    replace hP:=hP.mono da
    replace d4:=d4.mono da
    replace b8:=b8.mono da
    refine Op.ba ?_
    have e1:=ii.fs [1] rfl
    refine Op.cl (some 50) 1 e1 (ua _ _ _ e1.sub D V y _ b8 (bV I) _ d4 _ _ gg hP (by((try dsimp only)<;>(exact hK.ok.wk (by have h9:=cG list;omega)))) (by((try dsimp only)<;>(exact cr (x_ (og (show ja (list.take 60)=false by assumption) _ (cL dk)).2.2) (by decide)))) (by((try dsimp only)<;>(exact hK.ct (by have h9:=cG list;omega)))) (by(try dsimp only)<;>exact hK.gN) (by((try dsimp only)<;>(exact vR hK h0 (by have h9:=cG list;omega)))) (St.pt 1 e1)) ?_
    rintro _ n0 _ n3 e2 ik ⟨oi,oj,ol,rfl,il,io,rfl⟩
    obtain⟨or,n138,rfl⟩:=il.ai
    replace cb:=e2 _ _ cb
    replace ca:=e2 _ _ ca
    replace hP:=hP.mono e2
    exact Op.gt 21<|At.rp 3 1 [(37,vI i)]<|Op.dQ 38 (i+1) (by omega) (by(have h9:=cG list;omega))<|Op.pg 18 [(7,vI (i+1))]<|At.ke (hQ _ (aG.trans b6 (by repeat (first|assumption|apply aG.trans))) (eZ y (bV I) (cm I)) (i+1) _ _ (by omega) (by omega) (by omega) (by exact hK.mB h0 (by have h9:=cG list;omega)) io ((ik.fs [2,2] rfl).drop))
   refine At.rp 5 2 [(51,vP a7),(52,vP V)] ?_
   have e3:=c9.fs [1] rfl
   refine Op.cl (some 53) 1 e3 (qU _ _ _ e3.sub D V y _ b8 (by((try dsimp only)<;>(exact hK.ok.qT (by have h9:=cG list;omega)))) (St.pt 1 e3)) ?_
   rintro _ ow _ o3 d5 ip ⟨v148,o4,pa,pb,pc,pd,pf,ph,pj,pl,pm,rfl,gk,d6,db,bs,a8,X,rfl⟩
   obtain⟨po,n152,rfl⟩:=gk.ai
   obtain⟨pu,pv,rfl⟩:=d6.ai
   obtain⟨pw,py,rfl⟩:=db.ai
   obtain⟨pA,pB,rfl⟩:=bs.ai
   obtain⟨a171,pC,rfl⟩:=a8.ai
   replace D:=D.mono d5
   replace hP:=hP.mono d5
   replace G:=G.mono d5
   replace J:=J.mono d5
   obtain⟨pD,is,bd,be⟩:=aF.freeze gk (ip.fs [1] rfl)
   replace d6:=d6.mono bd
   replace db:=db.mono bd
   replace bs:=bs.mono bd
   replace a8:=a8.mono bd
   replace D:=D.mono bd
   replace hP:=hP.mono bd
   replace G:=G.mono bd
   replace X:=X.mono bd
   replace J:=J.mono bd
   obtain⟨p0,iv,bi,ce⟩:=aF.freeze d6 (is.fs [1] rfl)
   replace db:=db.mono bi
   replace bs:=bs.mono bi
   replace a8:=a8.mono bi
   replace D:=D.mono bi
   replace hP:=hP.mono bi
   replace be:=be.mono bi
   replace G:=G.mono bi
   replace X:=X.mono bi
   replace J:=J.mono bi
   obtain⟨p1,i0,bj,dp⟩:=aF.freeze db (iv.fs [1] rfl)
   replace bs:=bs.mono bj
   replace a8:=a8.mono bj
   replace D:=D.mono bj
   replace hP:=hP.mono bj
   replace be:=be.mono bj
   replace ce:=ce.mono bj
   replace G:=G.mono bj
   replace X:=X.mono bj
   replace J:=J.mono bj
   obtain⟨p2,i1,bk,e4⟩:=aF.freeze bs (i0.fs [1] rfl)
   replace a8:=a8.mono bk
   replace D:=D.mono bk
   replace hP:=hP.mono bk
   replace be:=be.mono bk
   replace ce:=ce.mono bk
   replace dp:=dp.mono bk
   replace G:=G.mono bk
   replace X:=X.mono bk
   replace J:=J.mono bk
   obtain⟨p3,i2,bm,i3⟩:=aF.freeze a8 (i1.fs [1] rfl)
   replace D:=D.mono bm
   replace hP:=hP.mono bm
   replace be:=be.mono bm
   replace ce:=ce.mono bm
   replace dp:=dp.mono bm
   replace e4:=e4.mono bm
   replace G:=G.mono bm
   replace X:=X.mono bm
   replace J:=J.mono bm
   have e5:=i2.fs [1] rfl
   refine Op.cl (some 54) 1 e5 (Lu _ _ _ e5.sub D a7 eM _ J (cO y) _ be _ ce _ dp _ e4 _ i3 (by(try dsimp only)<;>exact(qf hK).1) (by(try dsimp only)<;>exact(qf hK).2.1) (by(try dsimp only)<;>exact(qf hK).2.2.1) (by(try dsimp only)<;>exact(qf hK).2.2.2.1) (by(try dsimp only)<;>exact(qf hK).2.2.2.2) (St.pt 1 e5)) ?_
   rintro _ i4 _ p8 d7 gn ⟨qr,rfl,i5,rfl⟩
   replace D:=D.mono d7
   replace hP:=hP.mono d7
   replace G:=G.mono d7
   replace X:=X.mono d7
   refine Op.pg 23 [(55,.bool (!(decide (jL (cO y)))))]<|At.c_ (!(decide (jL (cO y)))) 55 24 26 (fun gs=>?_) fun g1=>?_
   ·replace gs:=kF (dm gs)
    exact At.gr 25 1 4 vF (hR gn.drop.drop ⟨(aS (by exact absurd (Le hK (by have h9:=cG list;omega)) ‹_›)),rfl⟩)
   replace g1:=iR (dn g1)
   refine At.go 27 1 [(8,vI 0)] ?_
   have i6:∀(m:Nat) (dq:GH) (du:aG i4 dq) (w:Sp) (t:Sp) (j:Int) (e6:au) (e7:au) (e8:av) (hm:(more.take 60).length-j.toNat<m) (h4:0≤j) (h5:j≤(more.take 60).length) (U:gX (i+j) w) (he:t=w) (cf:bB dq V w e6) (O:bB dq a7 t e7) (dc:St h g (aM []) dq [e7,e6] e8),At (bS prog B 3 f3 R) [] 27 [(1,vL dg ((more.take 60).length) ab),(5,vP V),(6,vP a7),(8,vI j)] e8:=by
    intro m;induction m with
    |zero=>intros;omega
    |succ m i7=>
     intro dq du w t j e6 e7 e8 hm h4 h5 U he cf O dc
     replace D:=D.mono du
     replace hP:=hP.mono du
     replace G:=G.mono du
     refine At.go 28 4 [(59,.bool (decide (j<((more.take 60).length:Int))))]<|At.fd (j<((more.take 60).length:Int)) 59 29 36 (fun q0=>?_) fun q1=>?_
     ·refine At.dw (fun _=>False) [(0,true),(1,true),(2,true),(3,true),(6,true),(7,true),(8,true),(4,true),(9,true),(5,false),(10,false),(1011,false),(11,false),(12,true),(13,true),(14,true),(15,true),(16,true)]<|Op.px 3 [(63,vP V),(64,vL dg ((more.take 60).length) ab),(65,vI j)] ?_
      obtain⟨u,a9⟩:=cD (more.take 60) j
      obtain⟨ch,ad,q2,q3,i8,ci,e9⟩:=ay.br G _ a9
      cases i8
      refine Op.iq 22 38 13 144 ((more.take 60).length) ab 64 65 66 ch ad j ?_
      obtain⟨rb,rc,v228,g2,g3,g4,e9⟩:=e9
      obtain⟨i9,n231,rfl⟩:=g2.ai
      obtain⟨a232,n233,rfl⟩:=g3.ai
      obtain⟨jf,n235,rfl⟩:=g4.ai
      refine Op.px 2 [(69,vL (some ⟨ch,ad,none⟩) ((more.take 60).length) ab),(70,vI j)] ?_
      obtain⟨rd,re,rf,rh,jj,ck,fa⟩:=ay.br G _ a9
      cases jj
      refine Op.iq 22 38 13 144 ((more.take 60).length) ab 69 70 71 ch ad j ?_
      obtain⟨rk,rr,rv,d8,d9,ea,fa⟩:=fa
      obtain⟨jn,js,rfl⟩:=d8.ai
      obtain⟨jt,j1,rfl⟩:=d9.ai
      obtain⟨j2,kc,rfl⟩:=ea.ai
      refine Op.jg (T:=38) (x:=66) (o:=ad+j.toNat*13) (d:=67) (n:=13) (vs:=[vI u.Client,vI u.bz,vI u.bw,vI u.Op.Kind,vS u.Op.aa,vL i9 u.Op.Data.length n231,vI u.Op.ak,vI u.Op.aJ,.bool u.Op.aZ,.bool u.Op.aN,.bool u.Op.ah,vL a232 u.Op.aH.length n233,vL jf u.eG.length n235]) (by kernel_rfl) (by kernel_rfl) (by kernel_rfl) id (dc.sub _ _ ci) e9 rfl<|Op.jg (T:=38) (x:=71) (o:=ad+j.toNat*13) (d:=72) (n:=13) (vs:=[vI u.Client,vI u.bz,vI u.bw,vI u.Op.Kind,vS u.Op.aa,vL jn u.Op.Data.length js,vI u.Op.ak,vI u.Op.aJ,.bool u.Op.aZ,.bool u.Op.aN,.bool u.Op.ah,vL jt u.Op.aH.length j1,vL j2 u.eG.length kc]) (by kernel_rfl) (by kernel_rfl) (by kernel_rfl) id (dc.sub _ _ ck) fa rfl<|Op.c0 (some 68) (ya _ _ _ dc.sub D u _ g2 _ g3 _ g4) dc ?_
      rintro _ rx _ r0 bb g5 ⟨r1,rfl,eb,rfl⟩
      obtain⟨r2,r3,rfl⟩:=eb.ai
      replace ci:=bb _ _ ci
      replace ck:=bb _ _ ck
      replace D:=D.mono bb
      replace hP:=hP.mono bb
      replace G:=G.mono bb
      replace d8:=d8.mono bb
      replace d9:=d9.mono bb
      replace ea:=ea.mono bb
      replace cf:=cf.mono bb
      replace O:=O.mono bb
      refine Op.c0 (some 73) (yb _ _ _ g5.sub D u _ d8 _ d9 _ ea (by((try dsimp only)<;>((have h9:=(og (show ja (more.take 60)=false by assumption) _ (cL a9));omega)))) (by((try dsimp only)<;>((have h9:=(og (show ja (more.take 60)=false by assumption) _ (cL a9));omega))))) g5 ?_
      rintro _ sc _ sd bt kd ⟨sf,rfl,g6,rfl⟩
      obtain⟨sh,sk,rfl⟩:=g6.ai
      replace ci:=bt _ _ ci
      replace ck:=bt _ _ ck
      replace D:=D.mono bt
      replace hP:=hP.mono bt
      replace eb:=eb.mono bt
      replace G:=G.mono bt
      replace cf:=cf.mono bt
      replace O:=O.mono bt
      refine Op.ba ?_
      have fg:=kd.fs [1] rfl
      refine Op.cl (some 74) 1 fg (ua _ _ _ fg.sub D V w _ cf (bV u) _ eb _ _ g6 hP (by((try dsimp only)<;>(exact U.ok.wk (by have h9:=cG list;have h8:=cG more;omega)))) (by((try dsimp only)<;>(exact cr (x_ (og (show ja (more.take 60)=false by assumption) _ (cL a9)).2.2) (by decide)))) (by((try dsimp only)<;>(exact U.ct (by have h9:=cG list;have h8:=cG more;omega)))) (by(try dsimp only)<;>exact U.gN) (by((try dsimp only)<;>(exact vR U (by omega) (by have h9:=cG list;have h8:=cG more;omega)))) (St.pt 1 fg)) ?_
      rintro _ sm _ so dd ed ⟨ss,fi,sA,rfl,b3,co,rfl⟩
      obtain⟨g7,g8,rfl⟩:=b3.ai
      replace ci:=dd _ _ ci
      replace ck:=dd _ _ ck
      replace D:=D.mono dd
      replace hP:=hP.mono dd
      replace G:=G.mono dd
      replace O:=O.mono dd
      refine Op.pg 30 [(9,vL g7 ((aV w (bV u) (cm u)).length) g8),(10,.bool (fG w (bV u)))]<|At.dw (fun _=>False) [(0,true),(1,true),(2,true),(3,true),(6,true),(7,true),(8,true),(4,true),(9,true),(5,false),(10,false),(1011,false),(11,false),(12,true),(13,true),(14,true),(15,true),(16,true)]<|Op.px 3 [(78,vP a7),(79,vL (some ⟨ch,ad,none⟩) ((more.take 60).length) ab),(80,vI j)] ?_
      obtain⟨sB,sT,s0,s2,kh,c3,fj⟩:=ay.br G _ a9
      cases kh
      refine Op.iq 22 38 13 144 ((more.take 60).length) ab 79 80 81 ch ad j ?_
      obtain⟨s3,s4,s8,g9,ha,hb,fj⟩:=fj
      obtain⟨kk,n301,rfl⟩:=g9.ai
      obtain⟨kl,n303,rfl⟩:=ha.ai
      obtain⟨km,n305,rfl⟩:=hb.ai
      refine Op.px 2 [(84,vL (some ⟨ch,ad,none⟩) ((more.take 60).length) ab),(85,vI j)] ?_
      obtain⟨ta,te,ti,tk,kv,c4,fl⟩:=ay.br G _ a9
      cases kv
      refine Op.iq 22 38 13 144 ((more.take 60).length) ab 84 85 86 ch ad j ?_
      obtain⟨tl,tm,tp,ee,ef,eh,fl⟩:=fl
      obtain⟨kw,kx,rfl⟩:=ee.ai
      obtain⟨kA,k0,rfl⟩:=ef.ai
      obtain⟨k1,k2,rfl⟩:=eh.ai
      refine Op.jg (T:=38) (x:=81) (o:=ad+j.toNat*13) (d:=82) (n:=13) (vs:=[vI u.Client,vI u.bz,vI u.bw,vI u.Op.Kind,vS u.Op.aa,vL kk u.Op.Data.length n301,vI u.Op.ak,vI u.Op.aJ,.bool u.Op.aZ,.bool u.Op.aN,.bool u.Op.ah,vL kl u.Op.aH.length n303,vL km u.eG.length n305]) (by kernel_rfl) (by kernel_rfl) (by kernel_rfl) id (ed.sub _ _ c3) fj rfl<|Op.jg (T:=38) (x:=86) (o:=ad+j.toNat*13) (d:=87) (n:=13) (vs:=[vI u.Client,vI u.bz,vI u.bw,vI u.Op.Kind,vS u.Op.aa,vL kw u.Op.Data.length kx,vI u.Op.ak,vI u.Op.aJ,.bool u.Op.aZ,.bool u.Op.aN,.bool u.Op.ah,vL kA u.Op.aH.length k0,vL k1 u.eG.length k2]) (by kernel_rfl) (by kernel_rfl) (by kernel_rfl) id (ed.sub _ _ c4) fl rfl<|Op.c0 (some 83) (ya _ _ _ ed.sub D u _ g9 _ ha _ hb) ed ?_
      rintro _ tt _ tx bc hf ⟨tz,rfl,ej,rfl⟩
      obtain⟨tA,n332,rfl⟩:=ej.ai
      replace c3:=bc _ _ c3
      replace c4:=bc _ _ c4
      replace b3:=b3.mono bc
      replace D:=D.mono bc
      replace hP:=hP.mono bc
      replace ee:=ee.mono bc
      replace ef:=ef.mono bc
      replace eh:=eh.mono bc
      replace O:=O.mono bc
      replace co:=co.mono bc
      refine Op.c0 (some 88) (yb _ _ _ hf.sub D u _ ee _ ef _ eh (by((try dsimp only)<;>((have h9:=(og (show ja (more.take 60)=false by assumption) _ (cL a9));omega)))) (by((try dsimp only)<;>((have h9:=(og (show ja (more.take 60)=false by assumption) _ (cL a9));omega))))) hf ?_
      rintro _ tB _ tR b4 k3 ⟨tS,rfl,hh,rfl⟩
      obtain⟨t0,t1,rfl⟩:=hh.ai
      replace c3:=b4 _ _ c3
      replace c4:=b4 _ _ c4
      replace b3:=b3.mono b4
      replace D:=D.mono b4
      replace hP:=hP.mono b4
      replace ej:=ej.mono b4
      replace O:=O.mono b4
      replace co:=co.mono b4
      refine Op.ba ?_
      have fp:=k3.fs [1,1,2] rfl
      refine Op.cl (some 89) 1 fp (ua _ _ _ fp.sub D a7 t _ O (bV u) _ ej _ _ hh hP (by((try dsimp only)<;>((rw[he];exact U.ok.wk (by have h9:=cG list;have h8:=cG more;omega))))) (by((try dsimp only)<;>(exact cr (x_ (og (show ja (more.take 60)=false by assumption) _ (cL a9)).2.2) (by decide)))) (by((try dsimp only)<;>((rw[he];exact U.ct (by have h9:=cG list;have h8:=cG more;omega))))) (by((try dsimp only)<;>((rw[he];exact U.gN)))) (by((try dsimp only)<;>((rw[he];exact vR U (by omega) (by have h9:=cG list;have h8:=cG more;omega))))) (St.pt 1 fp)) ?_
      rintro _ t2 _ t3 df k4 ⟨t4,fr,t5,rfl,hj,k5,rfl⟩
      obtain⟨hn,hr,rfl⟩:=hj.ai
      replace c3:=df _ _ c3
      replace c4:=df _ _ c4
      replace b3:=b3.mono df
      replace D:=D.mono df
      replace hP:=hP.mono df
      replace co:=co.mono df
      refine Op.pg 31 [(11,vL hn ((aV t (bV u) (cm u)).length) hr),(12,.bool (fG t (bV u)))]<|At.rp 9 2 [(92,vL g7 ((aV w (bV u) (cm u)).length) g8),(93,vL hn ((aV t (bV u) (cm u)).length) hr)] ?_
      have dv:=St.mg 2 (k4.fs [2,1,2,3] rfl)
      have k6:=dv.gi
      have k7:=b3.lp (c:=(fi++fr:au)) dv (by intro p hp;simp only[cU,hp,g_,hU])
      have k8:=hj.lp (c:=(fi++fr:au)) dv (by intro p hp;simp only[cU,hp,g_,hU])
      refine Op.le (some 94) 0 dv (C8 _ _ _ dv.ij (D.mono k6) _ _ k7 _ _ k8 (by(try dsimp only)<;>exact AL U.ok)) (fun _ _ _ hp=>by obtain⟨_,c5,_⟩:=hp;exact c5) ?_ (hM:=(fun _ _ h=>absurd h (gq _)))
      rintro _ _ t6 lb ⟨rfl,c5,rfl⟩;clear c5
      have ft:=St.sp [fi,fr] lb
      refine Op.px 2 [(96,.bool (!(decide ((aV w (bV u) (cm u))=(aV t (bV u) (cm u))))))]<|Op.wb (!(decide ((aV w (bV u) (cm u))=(aV t (bV u) (cm u))))) 96 (fun hs=>?_) fun hu=>?_
      ·replace hs:=kF (dm hs)
       exact Op.pg 32 [(100,vT)]<|At.bX 100 33<|At.gr 34 1 4 vF (hR ft.drop.drop.drop.drop ⟨(aS (by(subst he;exact absurd rfl ‹_›))),rfl⟩)
      replace hu:=iR (dn hu)
      refine Op.pg 32 [(100,.bool ((fG w (bV u)) != (fG t (bV u))))]<|At.c_ ((fG w (bV u)) != (fG t (bV u))) 100 33 35 (fun hw=>?_) fun hx=>?_
      ·replace hw:=jO hw
       exact At.gr 34 1 4 vF (hR ft.drop.drop.drop.drop ⟨(aS (by(subst he;exact absurd rfl ‹_›))),rfl⟩)
      replace hx:=l6 hx
      exact At.rp 3 1 [(60,vI j)]<|Op.dQ 61 (j+1) (by omega) (by(have h9:=cG more;omega))<|Op.pg 27 [(8,vI (j+1))]<|At.ke (i7 _ (aG.trans du (by repeat (first|assumption|apply aG.trans))) (eZ w (bV u) (cm u)) (eZ t (bV u) (cm u)) (j+1) _ _ _ (by omega) (by omega) (by omega) (by exact(U.mB (by omega) (by have h9:=cG list;have h8:=cG more;omega)).up (by omega)) (by(rw[he])) co k5 ft.drop.drop)
     refine At.rp 6 1 [(101,vP V)] ?_
     have fv:=dc.fs [1] rfl
     refine Op.cl (some 102) 1 fv (qU _ _ _ fv.sub D V w _ cf (by((try dsimp only)<;>(exact U.ok.qT (by have h9:=cG list;have h8:=cG more;omega)))) (St.pt 1 fv)) ?_
     rintro _ t7 _ t8 fw lc ⟨t9,ae,ub,am,ui,ar,ul,aw,us,a0,ut,rfl,em,en,eo,ep,er,u1,rfl⟩
     obtain⟨u2,u3,rfl⟩:=em.ai
     obtain⟨u4,vd,rfl⟩:=en.ai
     obtain⟨ve,vo,rfl⟩:=eo.ai
     obtain⟨vx,vy,rfl⟩:=ep.ai
     obtain⟨v1,v2,rfl⟩:=er.ai
     replace D:=D.mono fw
     replace hP:=hP.mono fw
     replace O:=O.mono fw
     refine Op.px 1 [(103,vP a7)] ?_
     have fx:=lc.fs [5,5,5,5,5,5,6] rfl
     refine Op.cl (some 104) 1 fx (qU _ _ _ fx.sub D a7 t _ O (by((try dsimp only)<;>((rw[he];exact U.ok.qT (by have h9:=cG list;have h8:=cG more;omega))))) (St.pt 1 fx)) ?_
     rintro _ v3 _ v4 c6 lh ⟨v5,a1,v6,a3,v8,a4,v9,a5,wa,a6,wc,rfl,hy,hz,hA,hB,hC,wi,rfl⟩
     obtain⟨wn,wp,rfl⟩:=hy.ai
     obtain⟨wr,wt,rfl⟩:=hz.ai
     obtain⟨ww,wx,rfl⟩:=hA.ai
     obtain⟨wy,w0,rfl⟩:=hB.ai
     obtain⟨w1,w2,rfl⟩:=hC.ai
     replace em:=em.mono c6
     replace en:=en.mono c6
     replace eo:=eo.mono c6
     replace ep:=ep.mono c6
     replace er:=er.mono c6
     replace D:=D.mono c6
     replace hP:=hP.mono c6
     have Y:=St.mg 10 (lh.fs [6,1,6,6,6,6,6,11,11,11,11,11] rfl)
     have li:=Y.gi
     have lj:=em.lp (c:=(ae++(am++(ar++(aw++(a0++(a1++(a3++(a4++(a5++a6)))))))):au)) Y (by intro p hp;simp only[cU,hp,g_,hU])
     have lk:=en.lp (c:=(ae++(am++(ar++(aw++(a0++(a1++(a3++(a4++(a5++a6)))))))):au)) Y (by intro p hp;simp only[cU,hp,g_,hU])
     have ll:=eo.lp (c:=(ae++(am++(ar++(aw++(a0++(a1++(a3++(a4++(a5++a6)))))))):au)) Y (by intro p hp;simp only[cU,hp,g_,hU])
     have lm:=ep.lp (c:=(ae++(am++(ar++(aw++(a0++(a1++(a3++(a4++(a5++a6)))))))):au)) Y (by intro p hp;simp only[cU,hp,g_,hU])
     have ln:=er.lp (c:=(ae++(am++(ar++(aw++(a0++(a1++(a3++(a4++(a5++a6)))))))):au)) Y (by intro p hp;simp only[cU,hp,g_,hU])
     have lr:=hy.lp (c:=(ae++(am++(ar++(aw++(a0++(a1++(a3++(a4++(a5++a6)))))))):au)) Y (by intro p hp;simp only[cU,hp,g_,hU])
     have lv:=hz.lp (c:=(ae++(am++(ar++(aw++(a0++(a1++(a3++(a4++(a5++a6)))))))):au)) Y (by intro p hp;simp only[cU,hp,g_,hU])
     have lw:=hA.lp (c:=(ae++(am++(ar++(aw++(a0++(a1++(a3++(a4++(a5++a6)))))))):au)) Y (by intro p hp;simp only[cU,hp,g_,hU])
     have lx:=hB.lp (c:=(ae++(am++(ar++(aw++(a0++(a1++(a3++(a4++(a5++a6)))))))):au)) Y (by intro p hp;simp only[cU,hp,g_,hU])
     have ly:=hC.lp (c:=(ae++(am++(ar++(aw++(a0++(a1++(a3++(a4++(a5++a6)))))))):au)) Y (by intro p hp;simp only[cU,hp,g_,hU])
     refine Op.le (some 105) 0 Y (Up _ _ _ Y.ij (D.mono li) (cO w) _ lj _ lk _ ll _ lm _ ln (cO t) _ lr _ lv _ lw _ lx _ ly (by(try dsimp only)<;>exact uf U)) (fun _ _ _ hp=>by obtain⟨_,c5,_⟩:=hp;exact c5) ?_ (hM:=(fun _ _ h=>absurd h (gq _)))
     rintro _ _ w3 lA ⟨rfl,c5,rfl⟩;clear c5
     exact Op.pr 37 4 (.bool (decide ((cO w)=(cO t)))) (hR (St.sp [ae,am,ar,aw,a0,a1,a3,a4,a5,a6] lA).drop.drop.drop.drop.drop.drop.drop.drop.drop.drop.drop.drop ⟨(aS (by exact eW (by rw[he]))),rfl⟩)
   exact At.ke (i6 _ _ (aG.refl _) y (oV eM (cO y)) 0 _ _ _ (bK _) (by omega) (by omega) (by exact hK.up (by omega)) (by exact Lf hK (by have h9:=cG list;omega)) X i5 gn)
 exact At.ke (hO _ _ (aG.refl _) eM 0 _ _ (bK _) (by omega) (by omega) (by exact gX.new) eI hL)
end Go.Proofs.YtpacclkciilmpaaGreatDoor.Sw
